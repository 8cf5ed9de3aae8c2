/- What functions of the program compute. -/
import Derived.Test.YtdglpnpkgngcdaaGreatX6
set_option linter.unusedVariables false
set_option linter.unusedSimpArgs false
namespace Go.AM.B1
open Go.AM Go.AM.So
theorem yP {v:PV} {l:List (Int×Int)} (h:Jm v l):∃ w,Xc [v]=some w∧Th 2 w (Jd l)∧(l≠[]→w= .lit 2 (Jd l)):=by
 rcases h.is with⟨rfl,hl⟩ | rfl
 ·refine⟨.fa,?_,.inl ⟨rfl,hl⟩,fun hne=>absurd (by simpa[Jd] using hl) hne⟩
  simp -implicitDefEqProofs only[Xc,SP,SA,SQ,WP,WQ,sevalprocAttr,ie]
 ·refine⟨.lit 2 (Jd l),?_,.inr rfl,fun _=>rfl⟩
  have hr:mb (Jd l).length 16:=by have:=h.sz;unfold mb;simp;omega
  generalize Jd l=es at *
  simp -implicitDefEqProofs only[Xc,SP,SA,SQ,WP,WQ,sevalprocAttr,ie,eq_true hr]
abbrev uJ (S P:PV) (n i m j:Int):Tr:=((((((((Tr.lf.set 22 (.pv (i64 j))).set 21 (.pv (i64 m))).set 20 (.pv P)).set 12 (.pv (i64 i))).set 11 (.pv (i64 n))).set 10 (.pv S)).set 6 (.ptr 4 0)).set 3 (.ptr 1 0)).set 2 (.ptr 0 0)
abbrev PM (S:PV) (n i:Int):Tr:=((((Tr.lf.set 12 (.pv (i64 i))).set 11 (.pv (i64 n))).set 10 (.pv S)).set 3 (.ptr 1 0)).set 2 (.ptr 0 0)
abbrev vX (out:List PV) (nl:Bool):List ba:=[.box [.pv .fa],.box [.uq 2 nl 2 out],.tok 2 out.length nl]
abbrev LH (out:List PV) (nl:Bool) (P:PV) (f:Int) (ps:List PV) (nl1:Bool):List ba:=[.box [.pv .fa],.box [.uq 2 nl 2 out],.tok 2 out.length nl,.box [.pv P,.pv (i64 f)],.box [.uq 5 nl1 1 ps,.pv (i64 f)],.tok 1 ps.length nl1]
theorem iL {P S:PV} {ls:List (List (Int×Int))} {ps:List PV} (hP:nf P ls ps) (Aa:∀ l∈ls,l≠[]) (h8:ls.length≤8) (out:List PV) (nl:Bool) (f n i:Int):
 ∃ E nl1,fb (ma (ta (Ca (fun _=>none) 8) qh) (ga 6 [2,3,6,10,11,12,20,21,22])) qa ⟨uJ S P n i ls.length 0,LH out nl P f [] true⟩=
  some (.exit 2,⟨E,LH out nl P f (ls.map ye) nl1⟩)∧(nl1=true→ls=[])∧E.get 2= .ptr 0 0∧E.get 3= .ptr 1 0∧E.get 6= .ptr 4 0∧E.get 10= .pv S∧E.get 11= .pv (i64 n)∧E.get 12= .pv (i64 i):=by
 have key:=yb (g:=ma (ta (Ca (fun _=>none) 8) qh) (ga 6 [2,3,6,10,11,12,20,21,22]))
  (fun j t=>∃ nl1,t=⟨uJ S P n i ls.length j,LH out nl P f ((ls.take j).map ye) nl1⟩∧(nl1=true→j=0))
  (Q:=fun r=>∃ E nl1,r=(.exit 2,⟨E,LH out nl P f (ls.map ye) nl1⟩)∧(nl1=true→ls=[])∧E.get 2= .ptr 0 0∧E.get 3= .ptr 1 0∧E.get 6= .ptr 4 0∧E.get 10= .pv S∧E.get 11= .pv (i64 n)∧E.get 12= .pv (i64 i))
  ls.length (by unfold qa;omega) ⟨uJ S P n i ls.length (0:Nat),LH out nl P f [] true⟩ ⟨true,rfl,fun _=>rfl⟩ ?_ ?_
 ·obtain⟨r,h1,_,E,nl1,rfl,h2⟩:=ec key
  exact⟨E,nl1,h1,h2⟩
 ·rintro j t hj ⟨nl1,rfl,hnl⟩
  obtain⟨v,hv,hpt,_⟩:=hP.Pd hj []
  have a1:=hP.Xv hv
  obtain⟨w,hcl,_,hw⟩:=yP hpt
  have hw:=hw (Aa _ (List.getElem_mem hj))
  subst hw
  have htk:(ls.take (j+1)).map ye=(ls.take j).map ye++[.lit 2 (Jd ls[j])]:=by
   rw[List.take_succ_eq_append_getElem hj,List.map_append];rfl
  have hpl:((ls.take j).map ye).length=j:=by simp;omega
  generalize ls[j]=l at *
  have e1:decide ((j:Int) < (ls.length:Int))=true:=Ea (by omega)
  have t2:=Va hj (by unfold maxLen;omega)
  have r1:∀ H (x:PV),ya H false 1 (.pv (.rp [x] 0))=some (.pv x):=fun H x=>rfl
  have hap:=Kg (A:=LH out nl P f ((ls.take j).map ye) nl1) (id:=5) (n:=j) (h:= .uq) (ag:=false) (nl:=nl1) (sz:=1) (bytes:=24) (es:=(ls.take j).map ye) (by show some (ba.tok 1 ((ls.take j).map ye).length nl1)=_;rw[hpl]) hpl.symm (by unfold mb;omega) (.lit 2 (Jd l))
  have hlen1:((ls.take j).map ye++[PV.lit 2 (Jd l)]).length=j+1:=by rw[List.length_append,hpl];rfl
  have hap':Ob (LH out nl P f ((ls.take j).map ye) nl1) false .uq 1 false 24 (.uq 5 nl1 1 ((ls.take j).map ye)) (.pv (.lit 1 [.lit 2 (Jd l)]))=some (.uq 5 false 1 ((ls.take j).map ye++[.lit 2 (Jd l)]),[.box [.pv .fa],.box [.uq 2 nl 2 out],.tok 2 out.length nl,.box [.pv P,.pv (i64 f)],.box [.uq 5 nl1 1 ((ls.take j).map ye),.pv (i64 f)],.tok 1 (j+1) false]):=hap
  unfold LH at hap' ⊢
  rw[hpl] at hap' ⊢
  have p0:∀ (x:AV) (y z:ba),place [.box [.pv .fa],.box [.uq 2 nl 2 out],y,.box [.pv P,.pv (i64 f)],.box [x,.pv (i64 f)],z] 0 (.ptr 4 0)=some (.ptr 4 0):=fun x y z=>rfl
  have l0:∀ (x:AV) (y z:ba),ya [.box [.pv .fa],.box [.uq 2 nl 2 out],y,.box [.pv P,.pv (i64 f)],.box [x,.pv (i64 f)],z] false 1 (.ptr 4 0)=some x:=fun x y z=>rfl
  have s0:∀ (x:AV) (y z:ba) (es:List PV),La [.box [.pv .fa],.box [.uq 2 nl 2 out],y,.box [.pv P,.pv (i64 f)],.box [x,.pv (i64 f)],z] 1 (.ptr 4 0) (.uq 5 false 1 es)=some [.box [.pv .fa],.box [.uq 2 nl 2 out],y,.box [.pv P,.pv (i64 f)],.box [.uq 5 false 1 es,.pv (i64 f)],z]:=fun x y z es=>rfl
  generalize hp0:(ls.take j).map ye=ps0 at *
  generalize hL:PV.lit 2 (Jd l)=L at *
  have hL1:(AV.pv L).cells=[.pv L]∧(AV.pv L).one=true:=by rw[← hL];exact⟨rfl,rfl⟩
  have b5:(5 < 6)=True:=by simp
  have b4:(4 < 6)=True:=by simp
  have b2:(2 < 6)=True:=by simp
  have b1:(1 < 6)=True:=by simp
  have b0:(0 < 6)=True:=by simp
  have hLc:L.cells=[L]:=by rw[← hL];rfl
  generalize hQ:LN _ _ j=Q
  subst hL
  simp -implicitDefEqProofs only[SP,WP,na,sevalprocAttr,qh,e1,t2,a1,r1,p0,l0,s0,hcl,hap',b0,b1,b2,b4,b5,ga,za,AV.cut,oa,Pa,pa,uJ]
  subst hQ
  refine⟨false,?_,by simp⟩
  rw[htk,hlen1]
 ·rintro t ⟨nl1,rfl,hnl⟩
  rw[List.take_length]
  have e1:decide ((ls.length:Int) < (ls.length:Int))=false:=Fa (by omega)
  generalize hQ:(fun r:Ex×St=>r.1.stop=true∧_)=Q
  simp -implicitDefEqProofs only[SX,sevalprocAttr,qh,e1,uJ]
  subst hQ
  exact⟨rfl,_,nl1,rfl,fun h=>List.eq_nil_of_length_eq_zero (hnl h),by simp[Tr.aa],by simp[Tr.aa],by simp[Tr.aa],by simp[Tr.aa],by simp[Tr.aa],by simp[Tr.aa]⟩
theorem wE {S:PV} {ss:List mc} {es:List PV} (hS:pb S ss es) (Aa:Ec ss):∃ S',Ci [.agg [S]]=some (.agg [S'])∧Th 2 S' (ss.map De):=by
 have lS:=hS.Tb
 have h32:=Aa.len
 have hSone:(AV.pv S).one=true:=by rcases hS.is with⟨h,_⟩ | h <;> rw[h] <;> rfl
 have hloop:Ld (fun r=>∃ E nl,r=(.exit 0,⟨E,vX (ss.map De) nl⟩)∧(nl=true→ss=[])∧E.get 2= .ptr 0 0∧E.get 3= .ptr 1 0)
  (fb (ma (ta (Ca (fun _=>none) 8) rh) (ga 3 [2,3,10,11,12])) qa ⟨PM S ss.length 0,vX [] true⟩):=by
  refine xa (yb (g:=ma (ta (Ca (fun _=>none) 8) rh) (ga 3 [2,3,10,11,12]))
   (fun i t=>∃ nl,t=⟨PM S ss.length i,vX ((ss.take i).map De) nl⟩∧(nl=true→i=0))
   (Q:=fun r=>∃ E nl,r=(.exit 0,⟨E,vX (ss.map De) nl⟩)∧(nl=true→ss=[])∧E.get 2= .ptr 0 0∧E.get 3= .ptr 1 0)
   ss.length (by unfold qa;omega) _ ⟨true,rfl,fun _=>rfl⟩ ?_ ?_) (fun r h=>h.2)
  ·rintro i t hi ⟨nl,rfl,hnl⟩
   obtain⟨P,ps,hPs,a1⟩:=hS.Pd hi
   have ok:=Aa.Vu _ (List.getElem_mem hi)
   obtain⟨hP1,hP2⟩:=hPs.Dv
   have lP:=hPs.parts.Tb
   have htk:(ss.take (i+1)).map De=(ss.take i).map De++[De ss[i]]:=by
    rw[List.take_succ_eq_append_getElem hi,List.map_append];rfl
   have hpl:((ss.take i).map De).length=i:=by simp;omega
   obtain⟨E,nl1,hin,hnl1,g2,g3,g6,g10,g11,g12⟩:=iL (S:=S) hPs.parts (fun l hl=>(ok.parts l hl).1) ok.hi ((ss.take i).map De) nl ss[i].first ss.length i
   have hnl1f:nl1=false:=by
    cases nl1 with
    |false=>rfl
    |true=>have:=hnl1 rfl;have h2:=ok.lo;rw[this] at h2;simp at h2
   subst hnl1f
   have hes:De ss[i]= .agg [.lit 1 (ss[i].parts.map ye),i64 ss[i].first]:=rfl
   rw[hes] at htk
   generalize ss[i]=p at *
   have e1:decide ((i:Int) < (ss.length:Int))=true:=Ea (by omega)
   have t2:=Va hi (by unfold maxLen;omega)
   have a2:∀ H,ya H true 2 (.pv (.rp [P,i64 p.first] 0))=some (.pv (.agg [P,i64 p.first])):=fun H=>rfl
   generalize (ss.take i).map De=out at *
   generalize p.parts.map ye=pp at *
   subst hpl
   unfold LH at hin
   unfold vX
   have hlo:(out++[PV.agg [.lit 1 pp,i64 p.first]]).length=out.length+1:=by simp
   have hap:∀ (T:List ba),Ob ([.box [.pv .fa],.box [.uq 2 nl 2 out],.tok 2 out.length nl]++T) false .uq 2 true 32 (.uq 2 nl 2 out) (.pv (.lit 2 [.agg [.lit 1 pp,i64 p.first]]))=some (.uq 2 false 2 (out++[.agg [.lit 1 pp,i64 p.first]]),[.box [.pv .fa],.box [.uq 2 nl 2 out],.tok 2 (out.length+1) false]++T):=fun T=>
    Kg (A:=[.box [.pv .fa],.box [.uq 2 nl 2 out],.tok 2 out.length nl]++T) (id:=2) (n:=out.length) (h:= .uq) (ag:=true) (nl:=nl) (sz:=2) (bytes:=32) (es:=out) rfl rfl (by unfold mb;omega) _
   have hap1:=fun a b c=>hap [a,b,c]
   simp only[List.cons_append,List.nil_append] at hap1
   have s1:∀ T:List ba,La ([.box [.pv .fa],.box [.uq 2 nl 2 out],.tok 2 out.length nl,.box [.pv .fa,.pv (i64 0)]]) 2 (.ptr 3 0) (.pv (.agg [P,i64 p.first]))=some [.box [.pv .fa],.box [.uq 2 nl 2 out],.tok 2 out.length nl,.box [.pv P,.pv (i64 p.first)]]:=fun T=>
    ik _ _ _ _ hP1 rfl [.box [.pv .fa],.box [.uq 2 nl 2 out],.tok 2 out.length nl] _ rfl
   have s1':=s1 []
   have b5:(5 < 6)=True:=by simp
   have b4:(4 < 6)=True:=by simp
   have b2:(2 < 6)=True:=by simp
   have b1:(1 < 6)=True:=by simp
   have b0:(0 < 6)=True:=by simp
   have c2:(2 < 3)=True:=by simp
   have c1:(1 < 3)=True:=by simp
   have c0:(0 < 3)=True:=by simp
   have hz:(0 < 1)=True:=by simp
   generalize hQ:LN _ _ out.length=Q
   have hin':fb (ma (ta (Ca (fun _=>none) 8) qh) (ga 6 [2,3,6,10,11,12,20,21,22])) qa ⟨((((((((Tr.lf.set 22 (.pv (.int .i64 0))).set 21 (.pv (i64 p.parts.length))).set 20 (.pv P)).set 12 (.pv (i64 out.length))).set 11 (.pv (i64 ss.length))).set 10 (.pv S)).set 6 (.ptr 4 0)).set 3 (.ptr 1 0)).set 2 (.ptr 0 0),[.box [.pv .fa],.box [.uq 2 nl 2 out],.tok 2 out.length nl,.box [.pv P,.pv (i64 p.first)],.box [.uq 5 true 1 [],.pv (i64 p.first)],.tok 1 0 true]⟩=_:=hin
   simp -implicitDefEqProofs only[SP,SA,SQ,sevalprocAttr,ma,rh,Cb,e1,a1,a2,s1',hP1,lP,qe,hz,b0,b1,b2,b4,b5,ga,za,AV.cut,oa,Ha,Pa,pa,PM]
   rw[hin']
   simp -implicitDefEqProofs only[SP,SQ,WP,WQ,↓reduceIte,reduceCtorEq,Nat.reduceAdd,Nat.reduceMul,Nat.reduceLeDiff,Nat.reduceEqDiff,Int.reduceLT,Int.reduceLE,Int.reduceBEq,Int.reduceEq,Nat.reduceBEq,Nat.reduceLT,Nat.reduceSub,g2,g3,g6,g10,g11,g12,hap1,t2,c0,c1,c2,ga,za,AV.cut,oa,Pa,pa]
   subst hQ
   exact⟨false,by rw[htk,hlo],by simp⟩
  ·rintro t ⟨nl,rfl,hnl⟩
   rw[List.take_length]
   have e1:decide ((ss.length:Int) < (ss.length:Int))=false:=Fa (by omega)
   generalize hQ:(fun r:Ex×St=>r.1.stop=true∧_)=Q
   simp -implicitDefEqProofs only[SX,sevalprocAttr,rh,e1,PM]
   subst hQ
   exact⟨rfl,_,nl,rfl,fun h=>List.eq_nil_of_length_eq_zero (hnl h),by simp[Tr.aa],by simp[Tr.aa]⟩
 obtain⟨r,h1,E,nl,rfl,hnl,g2,g3⟩:=ec hloop
 have h1':fb (ma (ta (Ca (fun _=>none) 8) rh) (ga 3 [2,3,10,11,12])) qa ⟨((((Tr.lf.set 12 (.pv (.int .i64 0))).set 11 (.pv (i64 ss.length))).set 10 (.pv S)).set 3 (.ptr 1 0)).set 2 (.ptr 0 0),[.box [.pv .fa],.box [.uq 2 true 2 []],.tok 2 0 true]⟩=_:=h1
 have hz:(0 < 2)=True:=by simp
 have c2:(2 < 3)=True:=by simp
 have c1:(1 < 3)=True:=by simp
 have c0:(0 < 3)=True:=by simp
 have hout:nl=true→ss.map De=[]:=fun h=>by rw[hnl h];rfl
 generalize ss.map De=out at *
 cases nl with
 |true=>
  refine⟨.fa,?_,.inl ⟨rfl,?_⟩⟩
  ·simp -implicitDefEqProofs only[Ci,SP,SA,SQ,sevalprocAttr,ma,bn,Cb,hSone,rE,lS,qe,hz,c0,c1,c2,ga,za,AV.cut,oa,Ha,Pa,pa,h1',g2,g3]
  ·exact hout rfl
 |false=>
  refine⟨.lit 2 out,?_,.inr rfl⟩
  simp -implicitDefEqProofs only[Ci,SP,SA,SQ,sevalprocAttr,ma,bn,Cb,hSone,rE,lS,qe,hz,c0,c1,c2,ga,za,AV.cut,oa,Ha,Pa,pa,h1',g2,g3]
end Go.AM.B1
namespace Go.AM.B1
open Go.AM Go.AM.So
theorem Ec.ne {ss:List mc} (h:Ec ss):∀ s∈ss,0 < s.parts.length:=fun s hs=>(h.Vu s hs).lo
theorem pb.JX {S:PV} {ss:List mc} {es:List PV} (h:pb S ss es):∀ s∈ss,∀ l∈s.parts,l.length * 16≤140737488355328:=by
 intro s hs l hl
 obtain⟨i,hi,rfl⟩:=List.getElem_of_mem hs
 obtain⟨e,P,ps,_,_,hp⟩:=h.get hi
 obtain⟨j,hj,rfl⟩:=List.getElem_of_mem hl
 obtain⟨v,_,_,hv⟩:=hp.parts.get hj
 exact hv.sz
theorem Wh {S:PV} {ss:List mc} {es:List PV} (hS:pb S ss es):
 (¬ Ec ss→yc [.agg [S]]=some (.oc [.agg [.fa],i64 84]))∧
 (Ec ss→¬Fg ss→yc [.agg [S]]=some (.oc [.agg [.fa],i64 110]))∧
 (Ec ss→Fg ss→Pg ss=none→yc [.agg [S]]=some (.oc [.agg [.fa],i64 130]))∧
 (Ec ss→Fg ss→∀ l,Pg ss=some l→yc [.agg [S]]=some (.oc [.agg [Yk l],i64 0])):=by
 have hS0:S= .fa∨∃ l,S= .lit 2 l:=by
  rcases hS.is with⟨h,_⟩ | h
  ·exact .inl h
  ·exact .inr ⟨_,h⟩
 have hp:=qD hS
 refine⟨?_,?_,?_,?_⟩
 ·intro h
  exact TN S hS0 (by decide) (hp.1 h)
 ·intro h1 h2
  obtain⟨y,a,b,h3,h4⟩:=hp.2 h1
  have hy:y=false:=by cases y with | false=>rfl | true=>exact absurd (h4.1 rfl) h2
  subst hy
  exact nS S hS0 h3
 ·intro h1 h2 h5
  obtain⟨y,a,b,h3,h4⟩:=hp.2 h1
  have hy:=h4.2 h2
  subst hy
  obtain⟨S',hc,hs⟩:=wE hS h1
  exact RK S S' ss hS0 h3 hc hs h1.len hS.JX h1.ne h5
 ·intro h1 h2 l h5
  obtain⟨y,a,b,h3,h4⟩:=hp.2 h1
  have hy:=h4.2 h2
  subst hy
  obtain⟨S',hc,hs⟩:=wE hS h1
  exact US S S' ss hS0 h3 hc hs h1.len hS.JX h1.ne h5
end Go.AM.B1
namespace Go.AM.B1
open Go.AM Go.AM.So
abbrev Jb (es:List PV):ba:= .box (es.map .pv)
theorem Ki {A:List ba} {id:Nat} {es:List PV} (hg:A[id]? =some (Jb es)) (o d:Nat):place A d (.ptr id o)=some (.ptr id (o+d)):=by
 simp only[place,hg]
theorem EE {A:List ba} {id:Nat} {es:List PV} (hg:A[id]? =some (Jb es)) {k:Nat} {e:PV} (hk:es[k]? =some e):ya A false 1 (.ptr id k)=some (.pv e):=by
 simp only[ya,hg,Dg,Bool.false_eq_true,if_false,List.getElem?_map,hk,Option.map_some]
theorem Gw {A:List ba} {id:Nat} {es:List PV} (hg:A[id]? =some (Jb es)) {k:Nat} (hk:k < es.length) {e:PV} (hc:e.cells=[e]) (h1:(AV.pv e).one=true):La A 1 (.ptr id k) (.pv e)=some (A.set id (Jb (es.set k e))):=by
 have hc':(AV.pv e).cells=[.pv e]:=by simp[AV.cells,hc]
 simp only[La,hg,hc']
 rw[if_pos ⟨rfl,by simp[h1]⟩,if_pos (by simp;omega),na,na]
 show _=some (A.set id (.box ((es.set k e).map .pv)))
 rw[List.map_set]
theorem ff:∀ (es:List PV),Vd (es.map .pv)=some es
 | []=>rfl
 |e::es=>by rw[List.map_cons,Vd,ff es];rfl
theorem Kl {A:List ba} {id n:Nat} {es:List PV} (hg:A[id]? =some (Jb es)) (hn:es.length=n):ya A true n (.ptr id 0)=some (.pv (.agg es)):=by
 simp only[ya,hg,Dg,if_true]
 rw[if_pos (by simp;omega)]
 have:List.take n (List.drop 0 (es.map AV.pv))=es.map AV.pv:=by rw[List.drop_zero,List.take_of_length_le (by simp;omega)]
 rw[this,Hq,ff]
theorem Ht {α:Type}:∀ (vs cs pre:List α),cs.length=vs.length→na (pre++cs) pre.length vs=pre++vs
 | [],cs,pre,h=>by cases cs with | nil=>rfl | cons=>simp at h
 |v::vs,cs,pre,h=>by
  cases cs with
  |nil=>simp at h
  |cons c cs=>
   have:(pre++c::cs).set pre.length v=(pre++[v])++cs:=by simp
   rw[na,this]
   have h2:=Ht vs cs (pre++[v]) (by simpa using h)
   simp only[List.length_append,List.length_singleton] at h2
   rw[h2];simp
theorem Ro {A:List ba} {id n:Nat} {es fs:List PV} (hg:A[id]? =some (Jb es)) (hn:es.length=n) (hf:fs.length=n) (h1:∀ e∈fs,(AV.pv e).one=true):La A n (.ptr id 0) (.pv (.agg fs))=some (A.set id (Jb fs)):=by
 have hc':(AV.pv (.agg fs)).cells=fs.map .pv:=rfl
 simp only[La,hg,hc']
 rw[if_pos ⟨by simp[hf],by rw[List.all_eq_true];intro v hv;obtain⟨e,he,rfl⟩:=List.mem_map.1 hv;exact h1 e he⟩,if_pos (by simp;omega)]
 have:=Ht (fs.map AV.pv) (es.map AV.pv) [] (by simp;omega)
 simp only[List.nil_append,List.length_nil] at this
 rw[this]
theorem xg (es:List PV) (n:Nat):oa n (Jb es)=some (Jb es):=by
 have:Pa (AV.cut n deep) (es.map AV.pv)=some (es.map AV.pv):=by
  refine Ik ?_
  intro v hv
  obtain⟨e,_,rfl⟩:=List.mem_map.1 hv
  exact Ha
 simp only[oa,this,Option.map_some]
def Et (l:List (Int×Int)) (i:Nat):Int:=match i with
 |0=> -2
 |k+1=>match l[k]? with | some p=>p.2 | none=> -2
abbrev My (v:PV) (i:Int):Tr:=(Tr.lf.set 3 (.pv (i64 i))).set 0 (.pv v)
theorem Xw {v:PV} {l:List (Int×Int)} (hv:Th 2 v (Jd l)) (hw:l.length * 16≤140737488355328):Vf [v]=some (.bool (Na 255 (-2) l)):=by
 have hloop:Ld (fun r=>∃ E,(r=(.exit 0,⟨E,[]⟩)∧Na 255 (-2) l=true)∨(r=(.ret,⟨E,[]⟩)∧E.get 2= .pv (.bool false)∧Na 255 (-2) l=false))
  (fb (ma (ta (Ca (fun _=>none) 8) Nb) (ga 0 [0,3])) qa ⟨My v 0,[]⟩):=by
  refine xa (yb (g:=ma (ta (Ca (fun _=>none) 8) Nb) (ga 0 [0,3]))
   (fun i t=>t=⟨My v i,[]⟩∧ -2≤Et l i∧Et l i≤255∧Na 255 (-2) l=Na 255 (Et l i) (l.drop i))
   l.length (by unfold qa;omega) _ ⟨rfl,Int.le_refl _,by show (-2:Int)≤255;decide,rfl⟩ ?_ ?_) (fun r h=>h.2)
  ·rintro i t hi ⟨rfl,hlz,hla,hs⟩
   have hl:=hv.lit (i:=i) (by simpa using hi)
   subst hl
   have hd:l.drop i=l[i]::l.drop (i+1):=List.drop_eq_getElem_cons hi
   have hnext:Et l (i+1)=l[i].2:=by simp[Et,hi]
   have a1:=Gj [] hi
   have hprev:0 < i→∃ a b,Et l i=b∧IntKind.i64.wrap ((i:Int) - 1)=((i - 1:Nat):Int)∧wa [] 2 (.pv (.lit 2 (Jd l))) ((i - 1:Nat):Int)=some (.pv (.rp [i64 a,i64 b] 0)):=by
    intro h0
    have hi1:i - 1 < l.length:=by omega
    refine⟨l[i - 1].1,l[i - 1].2,?_,?_,Gj [] hi1⟩
    ·obtain⟨k,rfl⟩:∃ k,i=k+1:=⟨i - 1,by omega⟩
     simp[Et,show k < l.length by omega]
    ·rw[show (i:Int) - 1=((i - 1:Nat):Int) by omega]
     exact Ba (by omega)
   have e1:decide ((i:Int) < (l.length:Int))=true:=Ea (by omega)
   have t2:=Va hi (by unfold maxLen;omega)
   have ln:=Th.len (sz:=2) (v:= .lit 2 (Jd l)) (es:=Jd l) (.inr rfl) []
   have lp:(Jd l).length=l.length:=by simp[Jd]
   rw[lp] at ln
   rw[hd,Na] at hs
   have l0:∀ a b:PV,ya [] false 1 (.pv (.rp [a,b] 0))=some (.pv a):=fun a b=>rfl
   have l1:∀ a b:PV,ya [] false 1 (.pv (.rp [a,b] 1))=some (.pv b):=fun a b=>rfl
   have p0:∀ a b:PV,place [] 0 (.pv (.rp [a,b] 0))=some (.pv (.rp [a,b] 0)):=fun a b=>rfl
   have p1:∀ a b:PV,place [] 1 (.pv (.rp [a,b] 0))=some (.pv (.rp [a,b] 1)):=fun a b=>rfl
   generalize l[i]=p at *
   generalize hV:Na 255 p.2 (l.drop (i+1))=V at *
   generalize Jd l=es at *
   generalize hQ:LN _ _ i=Q
   by_cases c1:p.1 < 0
   ·have d1:=Ea c1
    simp -implicitDefEqProofs only[SX,sevalprocAttr,-List.reduceReplicate,Nb,e1,ln,a1,l0,l1,p0,p1,d1,My]
    subst hQ
    rw[d1] at hs
    exact⟨_,.inr ⟨rfl,by simp[Tr.aa],by simpa using hs⟩⟩
   have d1:=Fa c1
   by_cases c2:p.1 > p.2
   ·have d2:=Ea c2
    simp -implicitDefEqProofs only[SX,sevalprocAttr,-List.reduceReplicate,Nb,e1,ln,a1,l0,l1,p0,p1,d1,d2,My]
    subst hQ
    rw[d2] at hs
    exact⟨_,.inr ⟨rfl,by simp[Tr.aa],by simpa using hs⟩⟩
   have d2:=Fa c2
   by_cases c3:p.2 > 255
   ·have d3:=Ea c3
    simp -implicitDefEqProofs only[SX,sevalprocAttr,-List.reduceReplicate,Nb,e1,ln,a1,l0,l1,p0,p1,d1,d2,d3,My]
    subst hQ
    rw[d3] at hs
    exact⟨_,.inr ⟨rfl,by simp[Tr.aa],by simpa using hs⟩⟩
   have d3:=Fa c3
   have hs3:∀ b,decide (p.1 - 1≤Et l i)=b→Na 255 (-2) l=(!b&&V):=by
    intro b hb
    rw[hs,d1,d2,d3,hb];simp
   by_cases h0:0 < i
   ·obtain⟨a,b,hb,t3,a2⟩:=hprev h0
    have e0:decide ((i:Int) > 0)=true:=Ea (by omega)
    rw[hb] at hla hlz hs3
    have t5:IntKind.i64.wrap (b+1)=b+1:=Ba (by omega)
    by_cases c4:p.1≤b+1
    ·have d4:=Ea c4
     have hlow:Na 255 (-2) l=false:=by
      rw[hs3 true (Ea (by omega))];rfl
     simp -implicitDefEqProofs only[SX,sevalprocAttr,-List.reduceReplicate,Nb,e1,ln,a1,l0,l1,p0,p1,d1,d2,d3,e0,t3,t5,a2,d4,My]
     subst hQ
     exact⟨_,.inr ⟨rfl,by simp[Tr.aa],hlow⟩⟩
    ·have d4:=Fa c4
     simp -implicitDefEqProofs only[SX,sevalprocAttr,-List.reduceReplicate,Nb,e1,ln,a1,l0,l1,p0,p1,d1,d2,d3,e0,t2,t3,t5,a2,d4,ga,za,AV.cut,pa,My]
     subst hQ
     refine⟨rfl,by omega,by omega,?_⟩
     rw[hnext,hV,hs3 false (Fa (by omega))];rfl
   ·have e0:decide ((i:Int) > 0)=false:=Fa (by omega)
    have hi0:Et l i= -2:=by
     have:i=0:=by omega
     subst this;rfl
    simp -implicitDefEqProofs only[SX,sevalprocAttr,-List.reduceReplicate,Nb,e1,ln,a1,l0,l1,p0,p1,d1,d2,d3,e0,t2,ga,za,AV.cut,pa,My]
    subst hQ
    refine⟨rfl,by omega,by omega,?_⟩
    rw[hnext,hV,hs3 false (Fa (by omega))];rfl
  ·rintro t ⟨rfl,hlz,hla,hs⟩
   rw[List.drop_length,Na] at hs
   have ln:=hv.len []
   rw[show (Jd l).length=l.length by simp[Jd]] at ln
   have e1:decide ((l.length:Int) < (l.length:Int))=false:=Fa (by omega)
   generalize hQ:(fun r:Ex×St=>r.1.stop=true∧_)=Q
   simp -implicitDefEqProofs only[SX,sevalprocAttr,-List.reduceReplicate,Nb,e1,ln,My]
   subst hQ
   exact⟨rfl,_,.inl ⟨rfl,hs⟩⟩
 apply Rm
 simp -implicitDefEqProofs only[Vf,SX,sevalprocAttr,-List.reduceReplicate,jj,Cb,ga,za,AV.cut,pa]
 refine xa hloop ?_
 rintro _ ⟨E,⟨rfl,hb⟩ | ⟨rfl,hE,hb⟩⟩
 ·simp -implicitDefEqProofs only[SX,sevalprocAttr,-List.reduceReplicate,hb]
 ·simp -implicitDefEqProofs only[SX,sevalprocAttr,-List.reduceReplicate,hE,hb]
def Df (f:Nat→Bool):List PV:=(List.range 256).map fun x=> .bool (f x)
theorem qn (f:Nat→Bool):(Df f).length=256:=by simp[Df]
theorem zN (f:Nat→Bool) {x:Nat} (h:x < 256):(Df f)[x]? =some (.bool (f x)):=by simp[Df,h]
theorem nM (f:Nat→Bool) {x:Nat} (h:x < (Df f).length):(Df f)[x]= .bool (f x):=by
 simp only[Df,List.getElem_map,List.getElem_range]
theorem rV (f:Nat→Bool) {x:Nat} (h:x < 256) (b:Bool):(Df f).set x (.bool b)=Df fun y=>if y=x then b else f y:=by
 apply List.ext_getElem
 ·rw[List.length_set,qn,qn]
 ·intro j h1 h2
  rw[List.getElem_set,nM,nM]
  by_cases hj:x=j
  ·subst hj;rw[if_pos rfl,if_pos rfl]
  ·rw[if_neg hj,if_neg (Ne.symm hj)]
theorem qt {f g:Nat→Bool} (h:∀ x,x < 256→f x=g x):Df f=Df g:=by
 unfold Df
 apply List.map_congr_left
 intro x hx
 rw[h x (by simpa using hx)]
theorem KA:List.replicate 256 (PV.bool false)=Df fun _=>false:=by
 apply List.ext_getElem
 ·rw[List.length_replicate,qn]
 ·intro j h1 h2;rw[List.getElem_replicate,nM]
theorem NN (f:Nat→Bool):∀ e∈Df f,(AV.pv e).one=true:=by
 intro e he
 obtain⟨x,_,rfl⟩:=List.mem_map.1 he
 rfl
def tv (l:List (Int×Int)) (x:Nat):Bool:=l.any fun p=>decide (p.1≤(x:Int))&&decide ((x:Int)≤p.2)
theorem Cu {l:List (Int×Int)} {x:Nat}:tv l x=true↔uj (x:Int) l:=by
 unfold tv uj;simp
abbrev mN (v:PV) (i y:Int):Tr:=((((Tr.lf.set 5 (.pv (i64 y))).set 4 (.pv (i64 i))).set 3 (.ptr 1 0)).set 2 (.ptr 0 0)).set 0 (.pv v)
abbrev CB (v:PV) (i:Int):Tr:=(((Tr.lf.set 4 (.pv (i64 i))).set 3 (.ptr 1 0)).set 2 (.ptr 0 0)).set 0 (.pv v)
theorem VE (call:Xa) {v:PV} {l:List (Int×Int)} (hv:Th 2 v (Jd l)) {i:Nat} (hi:i < l.length) (hp:0≤l[i].1∧l[i].1≤l[i].2∧l[i].2≤255) (Z:List PV):
 Ld (fun r=>∃ E,r=(.exit 2,⟨E,[Jb Z,Jb (Df (tv (l.take (i+1))))]⟩)∧E.get 0= .pv v∧E.get 2= .ptr 0 0∧E.get 3= .ptr 1 0∧E.get 4= .pv (i64 i))
  (fb (ma (ta call je) (ga 2 [0,2,3,4,5])) qa ⟨mN v i l[i].1,[Jb Z,Jb (Df (tv (l.take i)))]⟩):=by
 have hl:=hv.lit (i:=i) (by simpa using hi)
 subst hl
 have a1:=fun A=>Gj A hi
 have htk:∀ x,tv (l.take (i+1)) x=(tv (l.take i) x||(decide (l[i].1≤(x:Int))&&decide ((x:Int)≤l[i].2))):=by
  intro x
  have:l.take (i+1)=l.take i++[l[i]]:=by simp
  rw[this];simp only[tv,List.any_append,List.any_cons,List.any_nil,Bool.or_false]
 have l1:∀ (A:List ba) (a b:PV),ya A false 1 (.pv (.rp [a,b] 1))=some (.pv b):=fun A a b=>rfl
 have p1:∀ (A:List ba) (a b:PV),place A 1 (.pv (.rp [a,b] 0))=some (.pv (.rp [a,b] 1)):=fun A a b=>rfl
 generalize l[i]=p at *
 generalize hes:Jd l=es at *
 generalize hf:tv (l.take i)=f at *
 have hlen:∀ f,(Df f).length=256:=qn
 refine xa (yb (g:=ma (ta call je) (ga 2 [0,2,3,4,5]))
  (fun k t=>t=⟨mN (.lit 2 es) i (p.1+k),[Jb Z,Jb (Df fun x=>f x||(decide (p.1≤(x:Int))&&decide ((x:Int) < p.1+k)))]⟩)
  (p.2+1 - p.1).toNat (by unfold qa;omega) _ ?_ ?_ ?_) (fun r h=>h.2)
 ·have:(Df fun x=>f x||(decide (p.1≤(x:Int))&&decide ((x:Int) < p.1+(0:Nat))))=Df f:=by
   refine qt fun x hx=> ?_
   have:(decide (p.1≤(x:Int))&&decide ((x:Int) < p.1+(0:Nat)))=false:=by
    rw[Bool.and_eq_false_iff]
    by_cases h:p.1≤(x:Int)
    ·exact .inr (Fa (by omega))
    ·exact .inl (Fa h)
   rw[this,Bool.or_false]
  rw[this,show p.1+((0:Nat):Int)=p.1 by omega]
 ·rintro k t hk rfl
  obtain⟨y,hy⟩:∃ y:Nat,p.1+(k:Int)=y:=⟨(p.1+k).toNat,by omega⟩
  have hy256:y < 256:=by omega
  have e1:decide ((y:Int)≤p.2)=true:=Ea (by omega)
  have hq:Ga (y:Int) 256:=by unfold Ga;omega
  have t1:((y:Int)).toNat=y:=by simp
  have m1:y * 1=y:=by omega
  have z1:0+y=y:=by omega
  have t2:IntKind.i64.wrap ((y:Int)+1)=((y+1:Nat):Int):=Ba (by omega)
  rw[hy]
  have hnew:(Df fun x=>f x||(decide (p.1≤(x:Int))&&decide ((x:Int) < (y:Int)))).set y (.bool true)=Df fun x=>f x||(decide (p.1≤(x:Int))&&decide ((x:Int) < p.1+(k+1:Nat))):=by
   rw[rV _ hy256]
   refine qt fun x hx=> ?_
   by_cases hxy:x=y
   ·have h1:p.1≤(x:Int):=by omega
    have h2:(x:Int) < p.1+(k+1:Nat):=by omega
    rw[if_pos hxy,Ea h1,Ea h2];simp
   ·have:((x:Int) < (y:Int))=((x:Int) < p.1+(k+1:Nat)):=by apply propext;omega
    rw[if_neg hxy];simp only[this]
  have hl1:=hlen fun x=>f x||(decide (p.1≤(x:Int))&&decide ((x:Int) < (y:Int)))
  generalize hT:(Df fun x=>f x||(decide (p.1≤(x:Int))&&decide ((x:Int) < (y:Int))))=T at *
  have pl:=Ki (A:=[Jb Z,Jb T]) (id:=1) (es:=T) rfl 0 y
  have st:=Gw (A:=[Jb Z,Jb T]) (id:=1) (es:=T) rfl (k:=y) (by omega) (e:= .bool true) rfl rfl
  rw[hnew] at st
  rw[z1] at pl
  have st2:([Jb Z,Jb T]:List ba).set 1 (Jb (Df fun x=>f x||(decide (p.1≤(x:Int))&&decide ((x:Int) < p.1+(k+1:Nat)))))=[Jb Z,Jb (Df fun x=>f x||(decide (p.1≤(x:Int))&&decide ((x:Int) < p.1+(k+1:Nat))))]:=rfl
  rw[st2] at st
  have c1:=xg Z 2
  have c2:=xg (Df fun x=>f x||(decide (p.1≤(x:Int))&&decide ((x:Int) < p.1+(k+1:Nat)))) 2
  have hfin:p.1+((k+1:Nat):Int)=((y+1:Nat):Int):=by omega
  generalize hT':(Df fun x=>f x||(decide (p.1≤(x:Int))&&decide ((x:Int) < p.1+(k+1:Nat))))=T' at *
  have hcl:Pa (oa 2) [Jb Z,Jb T']=some [Jb Z,Jb T']:=by simp[Pa,c1,c2]
  have htk2:([Jb Z,Jb T']:List ba).take 2=[Jb Z,Jb T']:=rfl
  generalize Jb Z=oz at *
  generalize Jb T=ot at *
  generalize hot:Jb T'=ot' at *
  have d0:(0 < 2)=True:=by simp
  have d1:(1 < 2)=True:=by simp
  generalize hQ:LN _ _ k=Q
  simp -implicitDefEqProofs only[SX,sevalprocAttr,-List.reduceReplicate,je,e1,a1,l1,p1,eq_true hq,t1,m1,pl,st,t2,hcl,htk2,d0,d1,ga,za,AV.cut,pa,mN]
  subst hQ
  show (_:St)=_
  rw[hT',hot,hfin]
 ·rintro t rfl
  have e1:decide (p.1+((p.2+1 - p.1).toNat:Int)≤p.2)=false:=Fa (by omega)
  have hfin:(Df fun x=>f x||(decide (p.1≤(x:Int))&&decide ((x:Int) < p.1+((p.2+1 - p.1).toNat:Int))))=Df (tv (l.take (i+1))):=by
   refine qt fun x hx=> ?_
   have:((x:Int) < p.1+((p.2+1 - p.1).toNat:Int))=((x:Int)≤p.2):=by apply propext;omega
   rw[htk];simp only[this]
  rw[hfin]
  generalize Jb (Df (tv (l.take (i+1))))=ot
  generalize Jb Z=oz
  generalize hQ:(fun r:Ex×St=>r.1.stop=true∧_)=Q
  simp -implicitDefEqProofs only[SX,sevalprocAttr,-List.reduceReplicate,je,e1,a1,l1,p1,mN]
  subst hQ
  exact⟨rfl,_,rfl,by simp[Tr.aa],by simp[Tr.aa],by simp[Tr.aa],by simp[Tr.aa]⟩
theorem Vl {l:List (Int×Int)} {last:Int} (h:Na 255 last l=true):∀ p∈l,0≤p.1∧p.1≤p.2∧p.2≤255:=by
 induction l generalizing last with
 |nil=>intro p hp;cases hp
 |cons q l ih=>
  simp only[Na,Bool.and_eq_true,Bool.not_eq_true',Bool.or_eq_false_iff,decide_eq_false_iff_not] at h
  intro p hp
  rcases List.mem_cons.1 hp with rfl | hp
  ·omega
  ·exact ih h.2 p hp
def Fi (l:List (Int×Int)) (x:Nat):Bool:=Na 255 (-2) l&&tv l x
theorem Yv {v:PV} {l:List (Int×Int)} (hv:Th 2 v (Jd l)) (hw:l.length * 16≤140737488355328):Zc [v]=some (.agg (Df (Fi l))):=by
 have hvr:=Xw hv hw
 have hz:([]++[ba.box (List.map AV.pv (List.replicate 256 (PV.bool false)))]++[ba.box (List.map AV.pv (List.replicate 256 (PV.bool false)))]:List ba)=[Jb (Df fun _=>false),Jb (Df fun _=>false)]:=by rw[KA];rfl
 have hz1:ba.box (List.map AV.pv (List.replicate 256 (PV.bool false)))=Jb (Df fun _=>false):=by rw[KA]
 have hone:∀ f,ya [Jb (Df fun _=>false),Jb (Df f)] true 256 (.ptr 1 0)=some (.pv (.agg (Df f))):=fun f=>Kl (id:=1) rfl (qn f)
 have hst:∀ f,La [Jb (Df fun _=>false),Jb (Df f)] 256 (.ptr 0 0) (.pv (.agg (Df f)))=some [Jb (Df f),Jb (Df f)]:=fun f=>Ro (id:=0) rfl (qn _) (qn f) (NN f)
 have hl2:∀ f,ya [Jb (Df f),Jb (Df f)] true 256 (.ptr 0 0)=some (.pv (.agg (Df f))):=fun f=>Kl (id:=0) rfl (qn f)
 by_cases Aa:Na 255 (-2) l=true
 ·rw[Aa] at hvr
  have hfin:Df (Fi l)=Df (tv l):=qt fun x _=>by rw[Fi,Aa,Bool.true_and]
  rw[hfin]
  have hpc:=Vl Aa
  have hloop:Ld (fun r=>∃ E,r=(.exit 0,⟨E,[Jb (Df fun _=>false),Jb (Df (tv l))]⟩)∧E.get 2= .ptr 0 0∧E.get 3= .ptr 1 0)
   (fb (ma (ta (Ca (fun _=>none) 8) me) (ga 2 [0,2,3,4])) qa ⟨CB v 0,[Jb (Df fun _=>false),Jb (Df fun _=>false)]⟩):=by
   refine xa (yb (g:=ma (ta (Ca (fun _=>none) 8) me) (ga 2 [0,2,3,4]))
    (fun i t=>t=⟨CB v i,[Jb (Df fun _=>false),Jb (Df (tv (l.take i)))]⟩)
    l.length (by unfold qa;omega) _ rfl ?_ ?_) (fun r h=>h.2)
   ·rintro i t hi rfl
    have hin:=VE (Ca (fun _=>none) 8) hv hi (hpc _ (List.getElem_mem hi)) (Df fun _=>false)
    have a1:=fun A=>Gj A hi
    have ln:=hv.len
    have hl:=hv.lit (i:=i) (by simpa using hi)
    subst hl
    have lp:(Jd l).length=l.length:=by simp[Jd]
    simp only[lp] at ln
    have l0:∀ (A:List ba) (a b:PV),ya A false 1 (.pv (.rp [a,b] 0))=some (.pv a):=fun A a b=>rfl
    have p0:∀ (A:List ba) (a b:PV),place A 0 (.pv (.rp [a,b] 0))=some (.pv (.rp [a,b] 0)):=fun A a b=>rfl
    have e1:decide ((i:Int) < (l.length:Int))=true:=Ea (by omega)
    have t2:=Va hi (by unfold maxLen;omega)
    have hcl:∀ f g,Pa (oa 2) [Jb (Df f),Jb (Df g)]=some [Jb (Df f),Jb (Df g)]:=fun f g=>by
     have c1:=xg (Df f) 2
     have c2:=xg (Df g) 2
     simp only[Pa,c1,c2,Option.bind_some,Option.map_some]
    have hcl1:=hcl (fun _=>false) (tv (l.take i))
    have hcl2:=hcl (fun _=>false) (tv (l.take (i+1)))
    have htk2:∀ a b:ba,([a,b]:List ba).take 2=[a,b]:=fun a b=>rfl
    generalize l[i]=p at *
    generalize hes:Jd l=es at *
    have hI:⟨CB (.lit 2 es) (i+1:Nat),[Jb (Df fun _=>false),Jb (Df (tv (l.take (i+1))))]⟩=(⟨CB (.lit 2 es) (i+1:Nat),[Jb (Df fun _=>false),Jb (Df (tv (l.take (i+1))))]⟩:St):=rfl
    have hLN:∀ s:St,s=⟨CB (.lit 2 es) (i+1:Nat),[Jb (Df fun _=>false),Jb (Df (tv (l.take (i+1))))]⟩→LN (fun i t=>t=⟨CB (.lit 2 es) i,[Jb (Df fun _=>false),Jb (Df (tv (l.take i)))]⟩) (fun r=>∃ E,r=(.exit 0,⟨E,[Jb (Df fun _=>false),Jb (Df (tv l))]⟩)∧E.get 2= .ptr 0 0∧E.get 3= .ptr 1 0) i (.norm,s):=fun s h=>h
    generalize Jb (Df fun _=>false)=oz at *
    generalize Jb (Df (tv (l.take i)))=ot at *
    generalize Jb (Df (tv (l.take (i+1))))=ot' at *
    have d0:(0 < 2)=True:=by simp
    have d1:(1 < 2)=True:=by simp
    generalize hQ:LN _ _ i=Q at hLN ⊢
    simp -implicitDefEqProofs only[SX,sevalprocAttr,-List.reduceReplicate,me,Cb,e1,ln,a1,l0,p0,hcl1,htk2,d0,d1,ga,za,AV.cut,pa,CB]
    refine xa hin ?_
    rintro r ⟨E,rfl,g0,g2,g3,g4⟩
    simp -implicitDefEqProofs only[SX,sevalprocAttr,-List.reduceReplicate,g0,g2,g3,g4,t2,hcl2,htk2,d0,d1,ga,za,AV.cut,pa]
    exact hLN _ rfl
   ·rintro t rfl
    rw[List.take_length]
    have ln:=hv.len
    simp only[show (Jd l).length=l.length by simp[Jd]] at ln
    have e1:decide ((l.length:Int) < (l.length:Int))=false:=Fa (by omega)
    generalize Jb (Df (tv l))=ot
    generalize Jb (Df fun _=>false)=oz
    generalize hQ:(fun r:Ex×St=>r.1.stop=true∧_)=Q
    simp -implicitDefEqProofs only[SX,sevalprocAttr,-List.reduceReplicate,me,e1,ln,CB]
    subst hQ
    exact⟨rfl,_,rfl,by simp[Tr.aa],by simp[Tr.aa]⟩
  have hcl:Pa (oa 2) [Jb (Df fun _=>false),Jb (Df fun _=>false)]=some [Jb (Df fun _=>false),Jb (Df fun _=>false)]:=by
   have c1:=xg (Df fun _=>false) 2
   simp only[Pa,c1,Option.bind_some,Option.map_some]
  have htk2:∀ a b:ba,([a,b]:List ba).take 2=[a,b]:=fun a b=>rfl
  have hst1:=hst (tv l)
  have hone1:=hone (tv l)
  have hl21:=hl2 (tv l)
  have d0:(0 < 2)=True:=by simp
  have d1:(1 < 2)=True:=by simp
  generalize hzs:List.replicate 256 (PV.bool false)=zs at *
  generalize Jb (Df fun _=>false)=oz at *
  generalize Jb (Df (tv l))=ot at *
  generalize Df (tv l)=T at *
  apply Rm
  simp -implicitDefEqProofs only[Zc,SX,sevalprocAttr,-List.reduceReplicate,wg,hzs,hz1,Cb,hvr,hcl,htk2,d0,d1,ga,za,AV.cut,pa]
  refine xa hloop ?_
  rintro r ⟨E,rfl,g2,g3⟩
  simp -implicitDefEqProofs only[SX,sevalprocAttr,-List.reduceReplicate,g2,g3,hone1,hst1,hl21]
 ·have hok':Na 255 (-2) l=false:=by simpa using Aa
  rw[hok'] at hvr
  have hfin:Df (Fi l)=Df fun _=>false:=qt fun x _=>by rw[Fi,hok',Bool.false_and]
  rw[hfin]
  have hst1:=hst fun _=>false
  have hone1:=hone fun _=>false
  have hl21:=hl2 fun _=>false
  generalize hzs:List.replicate 256 (PV.bool false)=zs at *
  generalize Jb (Df fun _=>false)=oz at *
  generalize Df (fun _=>false)=T at *
  apply Rm
  simp -implicitDefEqProofs only[Zc,SX,sevalprocAttr,-List.reduceReplicate,wg,hzs,hz1,hvr,hone1,hst1,hl21]
end Go.AM.B1
namespace Go.AM.B1
open Go.AM Go.AM.So
def Sp (f:Nat→Bool) (n:Nat):Nat:=(List.range n).countP f
theorem vQ (f:Nat→Bool):Sp f 0=0:=rfl
theorem dt (f:Nat→Bool) (n:Nat):Sp f (n+1)=Sp f n+if f n then 1 else 0:=by
 unfold Sp
 rw[List.range_succ,List.countP_append]
 simp[List.countP_cons]
theorem HU (f:Nat→Bool) (n:Nat):Sp f n≤n:=by
 have:=List.countP_le_length (p:=f) (l:=List.range n)
 simpa[Sp] using this
theorem nV {f g h:Nat→Bool} (n:Nat) (hf:∀ x,x < n→f x=(g x||h x)) (hd:∀ x,x < n→g x=true→h x=true→False):Sp f n=Sp g n+Sp h n:=by
 induction n with
 |zero=>rfl
 |succ n ih=>
  rw[dt,dt,dt,ih (fun x hx=>hf x (by omega)) (fun x hx=>hd x (by omega)),hf n (by omega)]
  have:=hd n (by omega)
  cases h1:g n <;> cases h2:h n <;> simp_all <;> omega
theorem eV (a b:Nat) (n:Nat):Sp (fun x=>decide (a≤x)&&decide (x < b)) n=min n b - min a (min n b):=by
 induction n with
 |zero=>simp[vQ]
 |succ n ih=>
  rw[dt,ih]
  by_cases h:a≤n∧n < b
  ·rw[if_pos (by simp[h])];omega
  ·rw[if_neg (by simpa using fun h1=>Nat.le_of_not_lt fun h2=>h ⟨h1,h2⟩)];omega
theorem sG:∀ (l:List (Int×Int)) (last n:Int),Na 255 last l=true→Lc n l=n+Sp (tv l) 256
 | [],_,n,_=>by
   have:Sp (tv []) 256=0:=by
    unfold Sp;rw[List.countP_eq_zero];intro x _;simp[tv]
   rw[this];simp[Lc]
 |p::l,last,n,h=>by
  have hp:=Vl h p (by simp)
  have h2:=h
  simp only[Na,Bool.and_eq_true] at h2
  rw[Lc,sG l p.2 _ h2.2]
  have hor:Sp (tv (p::l)) 256=Sp (fun x=>decide (p.1.toNat≤x)&&decide (x < (p.2+1).toNat)) 256+Sp (tv l) 256:=by
   apply nV
   ·intro x _
    simp only[tv,List.any_cons]
    congr 1
    congr 1 <;> (rw[decide_eq_decide];omega)
   ·intro x _ h3 h4
    have:=cn h2.2 (Cu.1 h4)
    simp at h3;omega
  have hiv:=eV p.1.toNat (p.2+1).toNat 256
  rw[hor,hiv];omega
def SM (l:List (Int×Int)):Nat:=Sp (Fi l) 256
theorem JS {l:List (Int×Int)} (h:Na 255 (-2) l=true):(SM l:Int)=Lc 0 l:=by
 rw[sG l _ _ h]
 have:Fi l=tv l:=by funext x;rw[Fi,h,Bool.true_and]
 rw[SM,this];omega
abbrev BJ (x n:Int):Tr:=((Tr.lf.set 5 (.pv (i64 x))).set 4 (.pv (i64 n))).set 3 (.ptr 0 0)
theorem uH {v:PV} {l:List (Int×Int)} (hv:Th 2 v (Jd l)) (hw:l.length * 16≤140737488355328):Lh [v]=some (i64 (SM l)):=by
 have hm:=Yv hv hw
 unfold SM
 generalize hf:Fi l=f at *
 have hloop:Ld (fun r=>∃ E H,r=(.exit 0,⟨E,H⟩)∧E.get 4= .pv (i64 (Sp f 256)))
  (fb (ma (ta (Ca (fun _=>none) 8) Yd) (ga 1 [3,4,5])) qa ⟨BJ 0 0,[Jb (Df f)]⟩):=by
  refine xa (yb (g:=ma (ta (Ca (fun _=>none) 8) Yd) (ga 1 [3,4,5]))
   (fun x t=>t=⟨BJ x (Sp f x),[Jb (Df f)]⟩)
   256 (by unfold qa;omega) _ rfl ?_ ?_) (fun r h=>h.2)
  ·rintro x t hx rfl
   have e1:decide ((x:Int)≤255)=true:=Ea (by omega)
   have hq:Ga (x:Int) 256:=by unfold Ga;omega
   have t1:((x:Int)).toNat=x:=by simp
   have m1:x * 1=x:=by omega
   have z1:0+x=x:=by omega
   have t2:IntKind.i64.wrap ((x:Int)+1)=((x+1:Nat):Int):=Ba (by omega)
   have hle:=HU f x
   have t3:IntKind.i64.wrap ((Sp f x:Int)+1)=(Sp f x:Int)+1:=Ba (by omega)
   have pl:=Ki (A:=[Jb (Df f)]) (id:=0) (es:=Df f) rfl 0 x
   rw[z1] at pl
   have ld:=EE (A:=[Jb (Df f)]) (id:=0) (es:=Df f) rfl (zN f hx)
   have hcl:Pa (oa 1) [Jb (Df f)]=some [Jb (Df f)]:=by simp only[Pa,xg,Option.bind_some,Option.map_some]
   have htk:([Jb (Df f)]:List ba).take 1=[Jb (Df f)]:=rfl
   have d0:(0 < 1)=True:=by simp
   have hs:=dt f x
   generalize hO:Jb (Df f)=O at *
   generalize hQ:LN _ _ x=Q
   cases hfx:f x with
   |true=>
    rw[hfx] at hs ld
    simp -implicitDefEqProofs only[SX,sevalprocAttr,-List.reduceReplicate,Yd,e1,eq_true hq,t1,m1,pl,ld,t2,t3,hcl,htk,d0,ga,za,AV.cut,pa,BJ]
    subst hQ
    show (_:St)=_
    rw[hs];rfl
   |false=>
    rw[hfx] at hs ld
    simp -implicitDefEqProofs only[SX,sevalprocAttr,-List.reduceReplicate,Yd,e1,eq_true hq,t1,m1,pl,ld,t2,hcl,htk,d0,ga,za,AV.cut,pa,BJ]
    subst hQ
    show (_:St)=_
    rw[hs];rfl
  ·rintro t rfl
   have e1:decide (((256:Nat):Int)≤255)=false:=Fa (by omega)
   generalize Sp f 256=c
   generalize hQ:(fun r:Ex×St=>r.1.stop=true∧_)=Q
   simp -implicitDefEqProofs only[SX,sevalprocAttr,-List.reduceReplicate,Yd,e1,BJ]
   subst hQ
   exact⟨rfl,_,_,rfl,by simp[Tr.aa]⟩
 have hz1:ba.box (List.map AV.pv (List.replicate 256 (PV.bool false)))=Jb (Df fun _=>false):=by rw[KA]
 have st:La [Jb (Df fun _=>false)] 256 (.ptr 0 0) (.pv (.agg (Df f)))=some [Jb (Df f)]:=Ro (id:=0) rfl (qn _) (qn f) (NN f)
 have hcl:Pa (oa 1) [Jb (Df f)]=some [Jb (Df f)]:=by simp only[Pa,xg,Option.bind_some,Option.map_some]
 have htk:([Jb (Df f)]:List ba).take 1=[Jb (Df f)]:=rfl
 have d0:(0 < 1)=True:=by simp
 generalize Sp f 256=c at *
 generalize hzs:List.replicate 256 (PV.bool false)=zs at *
 generalize Jb (Df fun _=>false)=oz at *
 generalize Jb (Df f)=ot at *
 generalize Df f=T at *
 apply Rm
 simp -implicitDefEqProofs only[Lh,SX,sevalprocAttr,-List.reduceReplicate,Mj,hzs,hz1,Cb,hm,st,hcl,htk,d0,ga,za,AV.cut,pa]
 refine xa hloop ?_
 rintro r ⟨E,H,rfl,hE⟩
 simp -implicitDefEqProofs only[SX,sevalprocAttr,-List.reduceReplicate,hE]
theorem oB {v:PV} {l:List (Int×Int)} (hv:Th 2 v (Jd l)) (hw:l.length * 16≤140737488355328) (x:Int):
 Ge [v,i64 x]=some (.bool (decide (0≤x)&&decide (x≤255)&&Fi l x.toNat)):=by
 have hm:=Yv hv hw
 generalize hf:Fi l=f at *
 by_cases h0:0≤x
 ·have e0:decide (x≥0)=true:=Ea (by omega)
  rw[show decide (0≤x)=true from Ea h0]
  by_cases h1:x≤255
  ·have e1:decide (x≤255)=true:=Ea h1
   have hq:Ga x 256:=by unfold Ga;omega
   have m1:x.toNat * 1=x.toNat:=by omega
   have hg:=zN f (x:=x.toNat) (by omega)
   have hp:xl false 1 (Df f) x.toNat=some (.bool (f x.toNat)):=by unfold xl;exact hg
   rw[e1]
   generalize f x.toNat=b at *
   generalize Df f=T at *
   simp -implicitDefEqProofs only[Ge,SX,sevalprocAttr,-List.reduceReplicate,Ag,e0,e1,hm,eq_true hq,m1,hp,Bool.true_and]
  ·have e1:decide (x≤255)=false:=Fa h1
   simp -implicitDefEqProofs only[Ge,SX,sevalprocAttr,-List.reduceReplicate,Ag,e0,e1,Bool.true_and,Bool.false_and]
 ·have e0:decide (x≥0)=false:=Fa (by omega)
  rw[show decide (0≤x)=false from Fa h0]
  simp -implicitDefEqProofs only[Ge,SX,sevalprocAttr,-List.reduceReplicate,Ag,e0,Bool.false_and]
abbrev QJ (row:List PV) (i n:Int):Tr:=((Tr.lf.set 4 (.pv (i64 i))).set 3 (.pv (i64 n))).set 1 (.pv (.rp row 0))
theorem Bn {e:PV} {s:mc} {P:PV} {ps:List PV} (h:bf e s P ps) (Aa:∀ l∈s.parts,Hd l):Sd [e]=some (i64 (Vg 1 s.parts)):=by
 obtain⟨rfl,hP⟩:=h
 have hb:=Fl s.parts 1 Aa (by omega) (by omega)
 have hsz:=hP.sz
 have ln:=hP.Tb
 have q0:∀ H (x y:PV),place H 0 (.pv (.rp [x,y] 0))=some (.pv (.rp [x,y] 0)):=fun H x y=>rfl
 have r0:∀ H (x y:PV),ya H false 1 (.pv (.rp [x,y] 0))=some (.pv x):=fun H x y=>rfl
 have hloop:Ld (fun r=>∃ E H,r=(.exit 0,⟨E,H⟩)∧E.get 3= .pv (i64 (Vg 1 s.parts)))
  (fb (ma (ta (Ca (fun _=>none) 8) Qd) (ga 0 [1,3,4])) qa ⟨QJ [P,i64 s.first] 0 1,[]⟩):=by
  refine xa (yb (g:=ma (ta (Ca (fun _=>none) 8) Qd) (ga 0 [1,3,4]))
   (fun i t=>∃ n,t=⟨QJ [P,i64 s.first] i n,[]⟩∧1≤n∧n≤1073741825∧Vg 1 s.parts=Vg n (s.parts.drop i))
   s.parts.length (by unfold qa;unfold maxLen at hsz;omega) _ ⟨1,rfl,by omega,by omega,rfl⟩ ?_ ?_) (fun r h=>h.2)
  ·rintro i t hi ⟨n,rfl,h1,h2,hs⟩
   obtain⟨v,hv,hpt,a1⟩:=hP.Pd hi []
   have hd:s.parts.drop i=s.parts[i]::s.parts.drop (i+1):=List.drop_eq_getElem_cons hi
   have hpo:=Aa s.parts[i] (List.getElem_mem hi)
   have hss:=uH hpt.is hpt.sz
   rw[JS hpo.2] at hss
   have hsb:=ri hpo
   rw[hd,Vg] at hs
   generalize s.parts[i]=l at *
   have hm:=sw h1 h2 hsb.1 hsb.2
   have e1:decide ((i:Int) < (s.parts.length:Int))=true:=Ea (by omega)
   have t2:=Va hi hsz
   have t3:IntKind.i64.wrap (n * Lc 0 l)=n * Lc 0 l:=Ba (by omega)
   have a2:∀ H (v:PV),ya H false 1 (.pv (.rp [v] 0))=some (.pv v):=fun H v=>rfl
   generalize hQ:LN _ _ i=Q
   by_cases hg:n * Lc 0 l > 1073741824
   ·have d1:=Ea hg
    simp -implicitDefEqProofs only[SX,sevalprocAttr,-List.reduceReplicate,Qd,e1,ln,q0,r0,t2,t3,a1,a2,hss,d1,ga,za,AV.cut,pa,QJ]
    subst hQ
    refine⟨1073741825,rfl,by omega,by omega,?_⟩
    rw[hs];congr 1;split <;> omega
   ·have d1:=Fa hg
    simp -implicitDefEqProofs only[SX,sevalprocAttr,-List.reduceReplicate,Qd,e1,ln,q0,r0,t2,t3,a1,a2,hss,d1,ga,za,AV.cut,pa,QJ]
    subst hQ
    refine⟨n * Lc 0 l,rfl,by omega,by omega,?_⟩
    rw[hs];congr 1;split <;> omega
  ·rintro t ⟨n,rfl,h1,h2,hs⟩
   rw[List.drop_length,Vg] at hs
   have e1:decide ((s.parts.length:Int) < (s.parts.length:Int))=false:=Fa (by omega)
   generalize hQ:(fun r:Ex×St=>r.1.stop=true∧_)=Q
   simp -implicitDefEqProofs only[SX,sevalprocAttr,-List.reduceReplicate,Qd,e1,ln,q0,r0,QJ]
   subst hQ
   exact⟨rfl,_,_,rfl,by simp[Tr.aa,hs]⟩
 have hP1:(AV.pv P).one=true:=by rcases hP.is with⟨h,_⟩ | h <;> rw[h] <;> rfl
 generalize Vg 1 s.parts=n at *
 apply Rm
 simp -implicitDefEqProofs only[Sd,SX,sevalprocAttr,-List.reduceReplicate,aj,hP1,Cb,ga,za,AV.cut,pa]
 refine xa hloop ?_
 rintro r ⟨E,H,rfl,hE⟩
 simp -implicitDefEqProofs only[SX,sevalprocAttr,-List.reduceReplicate,hE]
end Go.AM.B1
namespace Go.AM.B1
open Go.AM Go.AM.So
theorem Dc (H:List ba) (x y:PV):place H 0 (.pv (.rp [x,y] 0))=some (.pv (.rp [x,y] 0)):=rfl
theorem Bi (H:List ba) (x y:PV):place H 1 (.pv (.rp [x,y] 0))=some (.pv (.rp [x,y] 1)):=rfl
theorem xd (H:List ba) (x y:PV):ya H false 1 (.pv (.rp [x,y] 0))=some (.pv x):=rfl
theorem Aj (H:List ba) (x y:PV):ya H false 1 (.pv (.rp [x,y] 1))=some (.pv y):=rfl
theorem Sc (H:List ba) (x y:PV):ya H true 2 (.pv (.rp [x,y] 0))=some (.pv (.agg [x,y])):=rfl
theorem ab (H:List ba) (x:PV):ya H false 1 (.pv (.rp [x] 0))=some (.pv x):=rfl
theorem Wb (H:List ba) (x:PV):place H 0 (.pv (.rp [x] 0))=some (.pv (.rp [x] 0)):=rfl
theorem yd (H:List ba) (x:PV):ya H true 1 (.pv (.rp [x] 0))=some (.pv (.agg [x])):=rfl
abbrev xG (row:List PV) (i:Int):Tr:=(Tr.lf.set 3 (.pv (i64 i))).set 1 (.pv (.rp row 0))
theorem Jp {e:PV} {s:mc} {P:PV} {ps:List PV} (h:bf e s P ps):∃ b,Pb [e]=some (.bool b)∧(b=true↔ue s):=by
 have hh:=h
 obtain⟨rfl,hP⟩:=h
 have hsz:=hP.sz
 have ln:=hP.Tb
 have hP1:(AV.pv P).one=true:=by rcases hP.is with⟨h,_⟩ | h <;> rw[h] <;> rfl
 by_cases c1:(s.parts.length:Int) < 1
 ·have d1:=Ea c1
  refine⟨false,?_,by simp;intro h;have:=h.lo;omega⟩
  simp -implicitDefEqProofs only[Pb,SX,sevalprocAttr,Ab,hP1,Dc,Bi,xd,Aj,ln,d1]
 have d1:=Fa c1
 by_cases c2:(s.parts.length:Int) > 8
 ·have d2:=Ea c2
  refine⟨false,?_,by simp;intro h;have:=h.hi;omega⟩
  simp -implicitDefEqProofs only[Pb,SX,sevalprocAttr,Ab,hP1,Dc,Bi,xd,Aj,ln,d1,d2]
 have d2:=Fa c2
 by_cases c3:s.first < 0
 ·have d3:=Ea c3
  refine⟨false,?_,by simp;intro h;have:=h.f0;omega⟩
  simp -implicitDefEqProofs only[Pb,SX,sevalprocAttr,Ab,hP1,Dc,Bi,xd,Aj,ln,d1,d2,d3]
 have d3:=Fa c3
 by_cases c4:s.first > 1073741823
 ·have d4:=Ea c4
  refine⟨false,?_,by simp;intro h;have:=h.f1;omega⟩
  simp -implicitDefEqProofs only[Pb,SX,sevalprocAttr,Ab,hP1,Dc,Bi,xd,Aj,ln,d1,d2,d3,d4]
 have d4:=Fa c4
 have hloop:Ld (fun r=>∃ E,(r=(.exit 0,⟨E,[]⟩)∧E.get 1= .pv (.rp [P,i64 s.first] 0)∧∀ l∈s.parts,Hd l)∨(r=(.ret,⟨E,[]⟩)∧E.get 2= .pv (.bool false)∧¬∀ l∈s.parts,Hd l))
  (fb (ma (ta (Ca (fun _=>none) 8) dc) (ga 0 [1,3])) qa ⟨xG [P,i64 s.first] 0,[]⟩):=by
  refine xa (yb (g:=ma (ta (Ca (fun _=>none) 8) dc) (ga 0 [1,3]))
   (fun i t=>t=⟨xG [P,i64 s.first] i,[]⟩∧∀ l∈s.parts.take i,Hd l)
   s.parts.length (by unfold qa;unfold maxLen at hsz;omega) _ ⟨rfl,by simp⟩ ?_ ?_) (fun r h=>h.2)
  ·rintro i t hi ⟨rfl,hs⟩
   obtain⟨v,hv,hpt,a1⟩:=hP.Pd hi []
   have hmem:=List.getElem_mem hi
   have hnext:Hd s.parts[i]→∀ l∈s.parts.take (i+1),Hd l:=by
    intro h l hl
    have:s.parts.take (i+1)=s.parts.take i++[s.parts[i]]:=by simp
    rw[this] at hl
    rcases List.mem_append.1 hl with h1 | h1
    ·exact hs l h1
    ·simp at h1;subst h1;exact h
   have hvl:=Xw hpt.is hpt.sz
   have lv:=hpt.is.len
   simp only[Jd,List.length_map] at lv
   generalize s.parts[i]=l at *
   have e1:decide ((i:Int) < (s.parts.length:Int))=true:=Ea (by omega)
   have t2:=Va hi hsz
   generalize hQ:LN _ _ i=Q
   by_cases h0:l=[]
   ·have e0:((l.length:Int)==0)=true:=by simp[h0]
    simp -implicitDefEqProofs only[SX,sevalprocAttr,dc,e1,ln,Dc,xd,ab,a1,lv,e0,xG]
    subst hQ
    exact⟨_,.inr ⟨rfl,by simp[Tr.aa],fun h=>(h _ hmem).1 h0⟩⟩
   ·have e0:((l.length:Int)==0)=false:=by
     have:l.length≠0:=fun e=>h0 (List.eq_nil_of_length_eq_zero e)
     exact Rh (by omega)
    cases hb:Na 255 (-2) l with
    |true=>
     rw[hb] at hvl
     simp -implicitDefEqProofs only[SX,sevalprocAttr,dc,e1,ln,Dc,xd,ab,a1,lv,e0,hvl,t2,ga,za,AV.cut,pa,xG]
     subst hQ
     exact⟨rfl,hnext ⟨h0,hb⟩⟩
    |false=>
     rw[hb] at hvl
     simp -implicitDefEqProofs only[SX,sevalprocAttr,dc,e1,ln,Dc,xd,ab,a1,lv,e0,hvl,xG]
     subst hQ
     exact⟨_,.inr ⟨rfl,by simp[Tr.aa],fun h=>by have:=(h _ hmem).2;rw[hb] at this;cases this⟩⟩
  ·rintro t ⟨rfl,hs⟩
   rw[List.take_length] at hs
   have e1:decide ((s.parts.length:Int) < (s.parts.length:Int))=false:=Fa (by omega)
   generalize hQ:(fun r:Ex×St=>r.1.stop=true∧_)=Q
   simp -implicitDefEqProofs only[SX,sevalprocAttr,dc,e1,ln,Dc,xd,xG]
   subst hQ
   exact⟨rfl,_,.inl ⟨rfl,by simp[Tr.aa],hs⟩⟩
 have key:Ld (fun r=>∃ b,r=(.pv (.bool b),([]:List ba))∧(b=true↔ue s)) (og (Ca (fun _=>none) 8) Ab [.pv (.agg [P,i64 s.first])] []):=by
  generalize hQQ:(fun r:AV×List ba=>_)=QQ
  simp -implicitDefEqProofs only[SX,sevalprocAttr,Ab,hP1,Dc,Bi,xd,Aj,ln,d1,d2,d3,d4,Cb,ga,za,AV.cut,pa]
  refine xa hloop ?_
  rintro _ ⟨E,⟨rfl,hE,hb⟩ | ⟨rfl,hE,hb⟩⟩
  ·have hct:=Bn hh hb
   have hbd:=Fl s.parts 1 hb (by omega) (by omega)
   have hif:(decide (s.first+Vg 1 s.parts - 1≤1073741823)=true)↔ue s:=by
    rw[decide_eq_true_iff]
    constructor
    ·intro h;exact⟨by omega,by omega,by omega,by omega,hb,h⟩
    ·intro h;exact h.last
   generalize Vg 1 s.parts=n at *
   have t3:IntKind.i64.wrap (s.first+n)=s.first+n:=Ba (by omega)
   have t4:IntKind.i64.wrap (s.first+n - 1)=s.first+n - 1:=Ba (by omega)
   simp -implicitDefEqProofs only[SX,sevalprocAttr,hE,Dc,Bi,xd,Aj,Sc,hct,t3,t4]
   subst hQQ
   exact⟨_,rfl,hif⟩
  ·simp -implicitDefEqProofs only[SX,sevalprocAttr,hE]
   subst hQQ
   exact⟨false,rfl,by simp;exact fun h=>hb h.parts⟩
 obtain⟨r,h1,b,rfl,hb⟩:=ec key
 refine⟨b,?_,hb⟩
 generalize hk:og (Ca (fun _=>none) 8) Ab [.pv (.agg [P,i64 s.first])] []=k at h1
 subst h1
 have:Pb [.agg [P,i64 s.first]]=(og (Ca (fun _=>none) 8) Ab [.pv (.agg [P,i64 s.first])] []).bind fun r=>Vb r.2 deep r.1:=rfl
 rw[this,hk];rfl
theorem uv {e:PV} {s:mc} {P:PV} {ps:List PV} (h:bf e s P ps) (Aa:ue s):Of [e]=some (i64 (Vg 1 s.parts)):=by
 obtain⟨b,hb,hbb⟩:=Jp h
 have hc:=Bn h Aa.parts
 have:=hbb.2 Aa
 subst this
 obtain⟨rfl,hP⟩:=h
 have hP1:(AV.pv P).one=true:=by rcases hP.is with⟨h,_⟩ | h <;> rw[h] <;> rfl
 simp -implicitDefEqProofs only[Of,SX,sevalprocAttr,fj,hP1,Sc,hb,hc]
end Go.AM.B1
namespace Go.AM.B1
open Go.AM Go.AM.So
theorem nP {p q:mc} (hp:ue p) (hq:ue q):jm p q↔¬(q.first≤yh p∧p.first≤yh q):=by
 have h1:=hp.fI
 have h2:=hq.fI
 unfold jm
 constructor
 ·intro h hn
  by_cases hle:p.first≤q.first
  ·exact h q.first ⟨⟨hle,hn.1⟩,⟨Int.le_refl _,h2⟩⟩
  ·exact h p.first ⟨⟨Int.le_refl _,h1⟩,⟨by omega,hn.2⟩⟩
 ·intro h x hx
  exact h ⟨by omega,by omega⟩
theorem Pq {p:mc} (hp:ue p):1≤Vg 1 p.parts∧Vg 1 p.parts≤1073741825:=Fl p.parts 1 hp.parts (by omega) (by omega)
abbrev OF (S:PV) (i j:Int):Tr:=((Tr.lf.set 5 (.pv (i64 j))).set 1 (.pv (i64 i))).set 0 (.pv S)
theorem PH {S:PV} {ss:List mc} {es:List PV} (hS:pb S ss es) {i:Nat} (hi:i < ss.length) (Aa:∀ j,j≤i→(h:j < ss.length)→ue ss[j]):
 ∃ b,lg [S,i64 i]=some (.bool b)∧(b=false↔∀ j,j < i→(h:j < ss.length)→jm ss[j] ss[i]):=by
 have hsz:=hS.sz
 obtain⟨P,ps,hP,a0⟩:=hS.Pd hi
 have okp:=Aa i (Nat.le_refl _) hi
 have hcp:=Bn hP okp.parts
 have hbp:=Pq okp
 have hap:=fun j (hj:j < i) (h:j < ss.length)=>nP (Aa j (by omega) h) okp
 generalize ss[i]=p at *
 have hloop:Ld (fun r=>∃ E,(r=(.exit 0,⟨E,[]⟩)∧∀ j,j < i→(h:j < ss.length)→jm ss[j] p)∨(r=(.ret,⟨E,[]⟩)∧E.get 4= .pv (.bool true)∧∃ j,j < i∧∃ h:j < ss.length,¬jm ss[j] p))
  (fb (ma (ta (Ca (fun _=>none) 8) pd) (ga 0 [0,1,5])) qa ⟨OF S i 0,[]⟩):=by
  refine xa (yb (g:=ma (ta (Ca (fun _=>none) 8) pd) (ga 0 [0,1,5]))
   (fun j t=>t=⟨OF S i j,[]⟩∧∀ j',j' < j→(h:j' < ss.length)→jm ss[j'] p)
   i (by unfold qa;unfold maxLen at hsz;omega) _ ⟨rfl,by intro j h;omega⟩ ?_ ?_) (fun r h=>h.2)
  ·rintro j t hj ⟨rfl,hs⟩
   have hj2:j < ss.length:=by omega
   obtain⟨Q,qs,hQ,b0⟩:=hS.Pd hj2
   have okq:=Aa j (by omega) hj2
   have hcq:=Bn hQ okq.parts
   have hbq:=Pq okq
   have haq:=hap j hj hj2
   have hnext:jm ss[j] p→∀ j',j' < j+1→(h:j' < ss.length)→jm ss[j'] p:=by
    intro h j' h1 h2
    rcases Nat.lt_or_ge j' j with h3 | h3
    ·exact hs j' h3 h2
    ·have:j'=j:=by omega
     subst this;exact h
   have hex:¬jm ss[j] p→∃ j,j < i∧∃ h:j < ss.length,¬jm ss[j] p:=fun h=>⟨j,hj,hj2,h⟩
   have hqf0:=okq.f0
   have hqf1:=okq.f1
   have hpf0:=okp.f0
   have hpf1:=okp.f1
   unfold yh at haq
   generalize hq:ss[j]=q at *
   generalize Vg 1 p.parts=np at *
   generalize Vg 1 q.parts=nq at *
   have e1:decide ((j:Int) < (i:Int))=true:=Ea (by omega)
   have t2:=Va hj (show i≤maxLen by omega)
   have t3:IntKind.i64.wrap (q.first+nq)=q.first+nq:=Ba (by omega)
   have t4:IntKind.i64.wrap (q.first+nq - 1)=q.first+nq - 1:=Ba (by omega)
   have t5:IntKind.i64.wrap (p.first+np)=p.first+np:=Ba (by omega)
   have t6:IntKind.i64.wrap (p.first+np - 1)=p.first+np - 1:=Ba (by omega)
   generalize hQQ:LN _ _ j=QQ
   by_cases c1:p.first≤q.first+nq - 1
   ·have d1:=Ea c1
    by_cases c2:q.first≤p.first+np - 1
    ·have d2:=Ea c2
     simp -implicitDefEqProofs only[SX,sevalprocAttr,pd,e1,a0,b0,Bi,Aj,Sc,hcp,hcq,t3,t4,t5,t6,d1,d2,OF]
     subst hQQ
     exact⟨_,.inr ⟨rfl,by simp[Tr.aa],hex (fun h=>(haq.1 h) ⟨c1,c2⟩)⟩⟩
    ·have d2:=Fa c2
     simp -implicitDefEqProofs only[SX,sevalprocAttr,pd,e1,a0,b0,Bi,Aj,Sc,hcp,hcq,t2,t3,t4,t5,t6,d1,d2,ga,za,AV.cut,pa,OF]
     subst hQQ
     exact⟨rfl,hnext (haq.2 fun h=>c2 h.2)⟩
   ·have d1:=Fa c1
    simp -implicitDefEqProofs only[SX,sevalprocAttr,pd,e1,a0,b0,Bi,Aj,Sc,hcp,hcq,t2,t3,t4,d1,ga,za,AV.cut,pa,OF]
    subst hQQ
    exact⟨rfl,hnext (haq.2 fun h=>c1 h.1)⟩
  ·rintro t ⟨rfl,hs⟩
   have e1:decide ((i:Int) < (i:Int))=false:=Fa (by omega)
   generalize hQ:(fun r:Ex×St=>r.1.stop=true∧_)=Q
   simp -implicitDefEqProofs only[SX,sevalprocAttr,pd,e1,OF]
   subst hQ
   exact⟨rfl,_,.inl ⟨rfl,hs⟩⟩
 have key:Ld (fun r=>∃ b,r=PV.bool b∧(b=false↔∀ j,j < i→(h:j < ss.length)→jm ss[j] p)) (lg [S,i64 i]):=by
  generalize hQQ:(fun r:PV=>_)=QQ
  simp -implicitDefEqProofs only[lg,SX,sevalprocAttr,Nj,Cb,ga,za,AV.cut,pa]
  refine xa hloop ?_
  rintro _ ⟨E,⟨rfl,hb⟩ | ⟨rfl,hE,j,hj,hj2,hb⟩⟩
  ·simp -implicitDefEqProofs only[SX,sevalprocAttr]
   subst hQQ
   exact⟨false,rfl,by simpa using hb⟩
  ·simp -implicitDefEqProofs only[SX,sevalprocAttr,hE]
   subst hQQ
   exact⟨true,rfl,by simp;exact⟨j,hj,hj2,hb⟩⟩
 obtain⟨r,h1,b,rfl,hb⟩:=ec key
 exact⟨b,h1,hb⟩
abbrev aA (row:List PV) (i:Int):Tr:=(Tr.lf.set 3 (.pv (i64 i))).set 1 (.pv (.rp row 0))
theorem BG {ss:List mc}:Ec ss↔ss.length≤32∧∀ i,(hi:i < ss.length)→ue ss[i]∧∀ j,j < i→(h:j < ss.length)→jm ss[j] ss[i]:=by
 constructor
 ·intro h
  refine⟨h.len,fun i hi=>⟨h.Vu _ (List.getElem_mem hi),fun j hj hj2=> ?_⟩⟩
  exact List.pairwise_iff_getElem.1 h.apart j i hj2 hi hj
 ·rintro⟨h1,h2⟩
  refine⟨h1,?_,?_⟩
  ·intro s hs
   obtain⟨i,hi,rfl⟩:=List.getElem_of_mem hs
   exact (h2 i hi).1
  ·rw[List.pairwise_iff_getElem]
   intro i j hi hj hij
   exact (h2 j hj).2 i hij hi
theorem Gv {S:PV} {ss:List mc} {es:List PV} (hS:pb S ss es):∃ b,Td [.agg [S]]=some (.bool b)∧(b=true↔Ec ss):=by
 have hsz:=hS.sz
 have ln:=hS.Tb
 have hS1:(AV.pv S).one=true:=by rcases hS.is with⟨h,_⟩ | h <;> rw[h] <;> rfl
 by_cases c1:(ss.length:Int) > 32
 ·have d1:=Ea c1
  refine⟨false,?_,by simp;intro h;have:=h.len;omega⟩
  simp -implicitDefEqProofs only[Td,SX,sevalprocAttr,dh,hS1,Wb,ab,ln,d1]
 have d1:=Fa c1
 have hloop:Ld (fun r=>∃ E,(r=(.exit 0,⟨E,[]⟩)∧Ec ss)∨(r=(.ret,⟨E,[]⟩)∧E.get 2= .pv (.bool false)∧¬Ec ss))
  (fb (ma (ta (Ca (fun _=>none) 8) Oc) (ga 0 [1,3])) qa ⟨aA [S] 0,[]⟩):=by
  refine xa (yb (g:=ma (ta (Ca (fun _=>none) 8) Oc) (ga 0 [1,3]))
   (fun i t=>t=⟨aA [S] i,[]⟩∧∀ k,k < i→(hk:k < ss.length)→ue ss[k]∧∀ j,j < k→(h:j < ss.length)→jm ss[j] ss[k])
   ss.length (by unfold qa;unfold maxLen at hsz;omega) _ ⟨rfl,by intro j h;omega⟩ ?_ ?_) (fun r h=>h.2)
  ·rintro i t hi ⟨rfl,hs⟩
   obtain⟨P,ps,hP,a0⟩:=hS.Pd hi
   obtain⟨b,hb,hbb⟩:=Jp hP
   have hmt:ue ss[i]→_:=fun h=>PH hS hi (fun j hj hj2=>by
    rcases Nat.lt_or_ge j i with h1 | h1
    ·exact (hs j h1 hj2).1
    ·have:j=i:=by omega
     subst this;exact h)
   have hnext:ue ss[i]→(∀ j,j < i→(h:j < ss.length)→jm ss[j] ss[i])→∀ k,k < i+1→(hk:k < ss.length)→ue ss[k]∧∀ j,j < k→(h:j < ss.length)→jm ss[j] ss[k]:=by
    intro h1 h2 k hk hk2
    rcases Nat.lt_or_ge k i with h3 | h3
    ·exact hs k h3 hk2
    ·have:k=i:=by omega
     subst this;exact⟨h1,h2⟩
   have hbad:¬(ue ss[i]∧∀ j,j < i→(h:j < ss.length)→jm ss[j] ss[i])→¬Ec ss:=fun h hh=>h ((BG.1 hh).2 i hi)
   generalize hgi:ss[i]=p at *
   have e1:decide ((i:Int) < (ss.length:Int))=true:=Ea (by omega)
   have t2:=Va hi hsz
   generalize hQQ:LN _ _ i=QQ
   cases b with
   |false=>
    have hno:¬ue p:=fun h=>by have:=hbb.2 h;cases this
    simp -implicitDefEqProofs only[SX,sevalprocAttr,Oc,e1,ln,Wb,ab,a0,Sc,hb,aA]
    subst hQQ
    exact⟨_,.inr ⟨rfl,by simp[Tr.aa],hbad fun h=>hno h.1⟩⟩
   |true=>
    have okp:=hbb.1 rfl
    obtain⟨c,hc,hcc⟩:=hmt okp
    cases c with
    |false=>
     simp -implicitDefEqProofs only[SX,sevalprocAttr,Oc,e1,ln,Wb,ab,a0,Sc,hb,hc,t2,ga,za,AV.cut,pa,aA]
     subst hQQ
     exact⟨rfl,hnext okp (hcc.1 rfl)⟩
    |true=>
     simp -implicitDefEqProofs only[SX,sevalprocAttr,Oc,e1,ln,Wb,ab,a0,Sc,hb,hc,aA]
     subst hQQ
     exact⟨_,.inr ⟨rfl,by simp[Tr.aa],hbad fun h=>by have:=hcc.2 h.2;cases this⟩⟩
  ·rintro t ⟨rfl,hs⟩
   have e1:decide ((ss.length:Int) < (ss.length:Int))=false:=Fa (by omega)
   generalize hQ:(fun r:Ex×St=>r.1.stop=true∧_)=Q
   simp -implicitDefEqProofs only[SX,sevalprocAttr,Oc,e1,ln,Wb,ab,aA]
   subst hQ
   exact⟨rfl,_,.inl ⟨rfl,BG.2 ⟨by omega,fun i hi=>hs i hi hi⟩⟩⟩
 have key:Ld (fun r=>∃ b,r=PV.bool b∧(b=true↔Ec ss)) (Td [.agg [S]]):=by
  generalize hQQ:(fun r:PV=>_)=QQ
  simp -implicitDefEqProofs only[Td,SX,sevalprocAttr,dh,hS1,Wb,ab,ln,d1,Cb,ga,za,AV.cut,pa]
  refine xa hloop ?_
  rintro _ ⟨E,⟨rfl,hb⟩ | ⟨rfl,hE,hb⟩⟩
  ·simp -implicitDefEqProofs only[SX,sevalprocAttr]
   subst hQQ
   exact⟨true,rfl,by simpa using hb⟩
  ·simp -implicitDefEqProofs only[SX,sevalprocAttr,hE]
   subst hQQ
   exact⟨false,rfl,by simpa using hb⟩
 obtain⟨r,h1,b,rfl,hb⟩:=ec key
 exact⟨b,h1,hb⟩
end Go.AM.B1
namespace Go.AM.B1
open Go.AM Go.AM.So
abbrev eD (rp rq:List PV) (n i:Int) (nl:Bool) (es:List PV):Tr:=((((Tr.lf.set 9 (.pv (i64 i))).set 8 (.uq 0 nl 1 es)).set 4 (.pv (.rp rq 0))).set 3 (.pv (.rp rp 0))).set 2 (.pv (i64 n))
abbrev FA (rp rq:List PV) (n i x:Int) (nl:Bool) (es:List PV):Tr:=(((((Tr.lf.set 10 (.pv (i64 x))).set 9 (.pv (i64 i))).set 8 (.uq 0 nl 1 es)).set 4 (.pv (.rp rq 0))).set 3 (.pv (.rp rp 0))).set 2 (.pv (i64 n))
theorem Yz (call:Xa) {P Q:PV} {a b:PV} {n:Int} {lp lq:List (List (Int×Int))} {ps qs:List PV} (hp:nf P lp ps) (hq:nf Q lq qs) {i:Nat} (hip:i < lp.length) (hiq:i < lq.length) (nl:Bool) (es:List PV) (m:Nat):
 Ld (fun r=>∃ E y,r=(.exit 2,⟨E,[.tok 1 m nl]⟩)∧E.get 2= .pv (i64 n)∧E.get 3= .pv (.rp [P,a] 0)∧E.get 4= .pv (.rp [Q,b] 0)∧E.get 8= .uq 0 nl 1 es∧E.get 9= .pv (i64 i)∧E.get 10= .pv (i64 (y:Nat))∧
  ((y < 256∧Fi lp[i] y=true∧Fi lq[i] y=true)∨(y=256∧∀ x,x < 256→¬(Fi lp[i] x=true∧Fi lq[i] x=true))))
  (fb (ma (ta call Gc) (ga 1 [2,3,4,8,9,10])) qa ⟨FA [P,a] [Q,b] n i 0 nl es,[.tok 1 m nl]⟩):=by
 obtain⟨v,hv,hpv,a1⟩:=hp.Pd hip [.tok 1 m nl]
 obtain⟨w,hw,hqw,a2⟩:=hq.Pd hiq [.tok 1 m nl]
 have hhp:=oB hpv.is hpv.sz
 have hhq:=oB hqw.is hqw.sz
 generalize lp[i]=lv at *
 generalize lq[i]=lw at *
 refine xa (yb (g:=ma (ta call Gc) (ga 1 [2,3,4,8,9,10]))
  (fun x t=>t=⟨FA [P,a] [Q,b] n i x nl es,[.tok 1 m nl]⟩∧∀ x',x' < x→¬(Fi lv x'=true∧Fi lw x'=true))
  256 (by unfold qa;omega) _ ⟨rfl,by intro x h;omega⟩ ?_ ?_) (fun r h=>h.2)
 ·rintro x t hx ⟨rfl,hs⟩
  have e1:decide ((x:Int) < 256)=true:=Ea (by omega)
  have t2:IntKind.i64.wrap ((x:Int)+1)=((x+1:Nat):Int):=Ba (by omega)
  have hp1:=hhp (x:Int)
  have hq1:=hhq (x:Int)
  rw[Ea (show (0:Int)≤x by omega),Ea (show (x:Int)≤255 by omega),Int.toNat_natCast,Bool.true_and,Bool.true_and] at hp1 hq1
  have hz:(0 < 1)=True:=by simp
  have hnext:¬(Fi lv x=true∧Fi lw x=true)→∀ x',x' < x+1→¬(Fi lv x'=true∧Fi lw x'=true):=by
   intro h x' hx'
   rcases Nat.lt_or_ge x' x with h1 | h1
   ·exact hs x' h1
   ·have:x'=x:=by omega
    subst this;exact h
  generalize hQ:LN _ _ x=QQ
  cases h1:Fi lv x with
  |false=>
   rw[h1] at hp1
   simp -implicitDefEqProofs only[SX,sevalprocAttr,Gc,e1,Dc,xd,ab,a1,a2,hp1,t2,hz,ga,za,AV.cut,oa,pa,FA]
   subst hQ
   exact⟨rfl,hnext (by rw[h1];simp)⟩
  |true=>
   rw[h1] at hp1
   cases h2:Fi lw x with
   |false=>
    rw[h2] at hq1
    simp -implicitDefEqProofs only[SX,sevalprocAttr,Gc,e1,Dc,xd,ab,a1,a2,hp1,hq1,t2,hz,ga,za,AV.cut,oa,pa,FA]
    subst hQ
    exact⟨rfl,hnext (by rw[h2];simp)⟩
   |true=>
    rw[h2] at hq1
    simp -implicitDefEqProofs only[SX,sevalprocAttr,Gc,e1,Dc,xd,ab,a1,a2,hp1,hq1,FA]
    subst hQ
    exact⟨_,x,rfl,by simp[Tr.aa],by simp[Tr.aa],by simp[Tr.aa],by simp[Tr.aa],by simp[Tr.aa],by simp[Tr.aa],.inl ⟨hx,h1,h2⟩⟩
 ·rintro t ⟨rfl,hs⟩
  have e1:decide (((256:Nat):Int) < 256)=false:=Fa (by omega)
  generalize hQ:(fun r:Ex×St=>r.1.stop=true∧_)=QQ
  simp -implicitDefEqProofs only[SX,sevalprocAttr,Gc,e1,FA]
  subst hQ
  exact⟨rfl,_,256,rfl,by simp[Tr.aa],by simp[Tr.aa],by simp[Tr.aa],by simp[Tr.aa],by simp[Tr.aa],by simp[Tr.aa],.inr ⟨rfl,hs⟩⟩
theorem cy {p q:List (List (Int×Int))} {i:Nat} (hp:i < p.length) (hq:i < q.length) (vp:Na 255 (-2) p[i]=true) (vq:Na 255 (-2) q[i]=true):
 Ho p q i≠[]↔∃ x,x < 256∧Fi p[i] x=true∧Fi q[i] x=true:=by
 have hmA:Ho p q i=Gf (p[i].length+q[i].length) p[i] q[i]:=by
  unfold Ho
  rw[List.getElem?_eq_getElem hp,List.getElem?_eq_getElem hq]
 have hlaw:=Ts _ _ _ (-2) (-2) vp vq (Nat.le_refl _)
 have hme:=Vl vp
 rw[hmA]
 generalize p[i]=a at *
 generalize q[i]=b at *
 constructor
 ·intro h
  obtain⟨m,hm⟩:=List.exists_mem_of_ne_nil _ h
  have h2:=(hlaw.1 m.1).1 ⟨m,hm,Int.le_refl _,hlaw.2 m hm⟩
  have h0:0≤m.1∧m.1≤255:=by
   obtain⟨pp,hpp,h3,h4⟩:=h2.1
   have:=hme pp hpp;omega
  refine⟨m.1.toNat,by omega,?_,?_⟩
  ·rw[Fi,vp,Bool.true_and,Cu,Int.toNat_of_nonneg h0.1];exact h2.1
  ·rw[Fi,vq,Bool.true_and,Cu,Int.toNat_of_nonneg h0.1];exact h2.2
 ·rintro⟨x,hx,h1,h2⟩ hnil
  rw[Fi,vp,Bool.true_and,Cu] at h1
  rw[Fi,vq,Bool.true_and,Cu] at h2
  have:=(hlaw.1 x).2 ⟨h1,h2⟩
  rw[hnil] at this
  exact wm _ this
theorem Uv {e f:PV} {p q:mc} {P Q:PV} {ps qs:List PV} (hp:bf e p P ps) (hq:bf f q Q qs) (op:ue p) (oq:ue q) {n:Nat} (hn:n≤p.parts.length) (hn2:n≤q.parts.length):
 ∃ v,xe [e,f,i64 n]=some (.oc [v,.bool (bc p.parts q.parts n 0).isSome]):=by
 have hc1:=uv hp op
 have hc2:=uv hq oq
 have hb1:=Pq op
 have hb2:=Pq oq
 obtain⟨hP1,hP2⟩:=hp.Dv
 obtain⟨hQ1,hQ2⟩:=hq.Dv
 have heq:=hp.eq
 have hfq:=hq.eq
 subst heq hfq
 have h8:=op.hi
 have lP:=hp.parts.Tb
 have lQ:=hq.parts.Tb
 have hloop:Ld (fun r=>∃ E H,(r=(.ret,⟨E,H⟩)∧E.get 6= .pv .fa∧E.get 7= .pv (.bool false)∧(bc p.parts q.parts n 0).isSome=false)∨(∃ nl es,r=(.exit 0,⟨E,H⟩)∧E.get 8= .uq 0 nl 1 es∧(bc p.parts q.parts n 0).isSome=true))
  (fb (ma (ta (Ca (fun _=>none) 8) Ae) (ga 1 [2,3,4,8,9])) qa ⟨eD [P,i64 p.first] [Q,i64 q.first] n 0 true [],[.tok 1 0 true]⟩):=by
  refine xa (yb (g:=ma (ta (Ca (fun _=>none) 8) Ae) (ga 1 [2,3,4,8,9]))
   (fun i t=>∃ nl es,t=⟨eD [P,i64 p.first] [Q,i64 q.first] n i nl es,[.tok 1 i nl]⟩∧es.length=i∧(bc p.parts q.parts n 0).isSome=(bc p.parts q.parts (n - i) i).isSome)
   n (by unfold qa;omega) _ ⟨true,[],rfl,rfl,rfl⟩ ?_ ?_) (fun r h=>h.2)
  ·rintro i t hi ⟨nl,es,rfl,hlen,hs⟩
   have hip:i < p.parts.length:=by omega
   have hiq:i < q.parts.length:=by omega
   have hin:=Yz (Ca (fun _=>none) 8) (a:=i64 p.first) (b:=i64 q.first) (n:=n) hp.parts hq.parts hip hiq nl es i
   have okv:=op.parts _ (List.getElem_mem hip)
   have okw:=oq.parts _ (List.getElem_mem hiq)
   have hma:=cy hip hiq okv.2 okw.2
   obtain⟨m,hm⟩:∃ m,n - i=m+1:=⟨n - i - 1,by omega⟩
   have hm':n - (i+1)=m:=by omega
   rw[hm,bc] at hs
   have e1:decide ((i:Int) < (n:Int))=true:=Ea (by omega)
   have t2:=Va (i:=i) (n:=n) hi (by unfold maxLen;omega)
   have hz:(0 < 1)=True:=by simp
   have hLN:∀ (nl':Bool) (es':List PV) (s:St),s=⟨eD [P,i64 p.first] [Q,i64 q.first] n (i+1:Nat) nl' es',[.tok 1 (i+1) nl']⟩→es'.length=i+1→(bc p.parts q.parts n 0).isSome=(bc p.parts q.parts m (i+1)).isSome→
    LN (fun i t=>∃ nl es,t=⟨eD [P,i64 p.first] [Q,i64 q.first] n i nl es,[.tok 1 i nl]⟩∧es.length=i∧(bc p.parts q.parts n 0).isSome=(bc p.parts q.parts (n - i) i).isSome)
     (fun r=>∃ E H,(r=(.ret,⟨E,H⟩)∧E.get 6= .pv .fa∧E.get 7= .pv (.bool false)∧(bc p.parts q.parts n 0).isSome=false)∨(∃ nl es,r=(.exit 0,⟨E,H⟩)∧E.get 8= .uq 0 nl 1 es∧(bc p.parts q.parts n 0).isSome=true)) i (.norm,s):=
    fun nl' es' s h1 h2 h3=>⟨nl',es',h1,h2,by rw[hm'];exact h3⟩
   have hLR:∀ (E:Tr) (H:List ba),E.get 6= .pv .fa→E.get 7= .pv (.bool false)→(bc p.parts q.parts n 0).isSome=false→
    LN (fun i t=>∃ nl es,t=⟨eD [P,i64 p.first] [Q,i64 q.first] n i nl es,[.tok 1 i nl]⟩∧es.length=i∧(bc p.parts q.parts n 0).isSome=(bc p.parts q.parts (n - i) i).isSome)
     (fun r=>∃ E H,(r=(.ret,⟨E,H⟩)∧E.get 6= .pv .fa∧E.get 7= .pv (.bool false)∧(bc p.parts q.parts n 0).isSome=false)∨(∃ nl es,r=(.exit 0,⟨E,H⟩)∧E.get 8= .uq 0 nl 1 es∧(bc p.parts q.parts n 0).isSome=true)) i (.ret,⟨E,H⟩):=
    fun E H h1 h2 h3=>⟨E,H,.inl ⟨rfl,h1,h2,h3⟩⟩
   generalize LN _ _ i=QQ at hLN hLR ⊢
   simp -implicitDefEqProofs only[SX,sevalprocAttr,Ae,Cb,e1,hz,ga,za,AV.cut,oa,pa,eD]
   refine xa hin ?_
   rintro r ⟨E,y,rfl,g2,g3,g4,g8,g9,g10,⟨hy,hy1,hy2⟩ | ⟨rfl,hno⟩⟩
   ·have hne:Ho p.parts q.parts i≠[]:=hma.2 ⟨y,hy,hy1,hy2⟩
    have hs':(bc p.parts q.parts n 0).isSome=(bc p.parts q.parts m (i+1)).isSome:=by
     rw[hs]
     cases hmt:Ho p.parts q.parts i with
     |nil=>exact absurd hmt hne
     |cons a r=>simp
    have e2:(((y:Nat):Int)==256)=false:=Rh (by omega)
    have t3:IntKind.u8.wrap ((y:Nat):Int)=(y:Int):=wrap_u8 (by omega)
    have hap:=Dn (A:=[.tok 1 i nl]) (id:=0) (n:=i) (h:= .uq) (nl:=nl) (bytes:=1) (es:=es) rfl (by simp[hlen]) (by unfold mb;omega) (.int .u8 y)
    rw[List.set_cons_zero] at hap
    simp -implicitDefEqProofs only[SP,WP,na,sevalprocAttr,g2,g3,g4,g8,g9,g10,e2,t2,t3,hap,hz,ga,za,AV.cut,oa,pa]
    exact hLN false (es++[.int .u8 y]) _ rfl (by simp[hlen]) hs'
   ·have hne:Ho p.parts q.parts i=[]:=by
     apply Decidable.byContradiction
     intro h
     obtain⟨x,hx,h1,h2⟩:=hma.1 h
     exact hno x hx ⟨h1,h2⟩
    have hs':(bc p.parts q.parts n 0).isSome=false:=by rw[hs,hne];rfl
    have e2:(((256:Nat):Int)==256)=true:=by decide
    simp -implicitDefEqProofs only[SP,WP,na,sevalprocAttr,g2,g3,g4,g8,g9,g10,e2]
    exact hLR _ _ (by simp[Tr.aa]) (by simp[Tr.aa]) hs'
  ·rintro t ⟨nl,es,rfl,hlen,hs⟩
   rw[Nat.sub_self,bc] at hs
   have e1:decide ((n:Int) < (n:Int))=false:=Fa (by omega)
   generalize hQ:(fun r:Ex×St=>r.1.stop=true∧_)=QQ
   simp -implicitDefEqProofs only[SX,sevalprocAttr,Ae,e1,eD]
   subst hQ
   exact⟨rfl,_,_,.inr ⟨nl,es,rfl,by simp[Tr.aa],hs⟩⟩
 have key:Ld (fun r=>∃ v,r= .oc [v,.bool (bc p.parts q.parts n 0).isSome]) (xe [.agg [P,i64 p.first],.agg [Q,i64 q.first],i64 n]):=by
  have z1:(Vg 1 p.parts==0)=false:=Rh (by omega)
  have z2:(Vg 1 q.parts==0)=false:=Rh (by omega)
  have d0:decide ((n:Int) < 0)=false:=Fa (by omega)
  have d1:decide ((n:Int) > (p.parts.length:Int))=false:=Fa (by omega)
  have d2:decide ((n:Int) > (q.parts.length:Int))=false:=Fa (by omega)
  have hz:(0 < 1)=True:=by simp
  generalize Vg 1 p.parts=np at *
  generalize Vg 1 q.parts=nq at *
  generalize (bc p.parts q.parts n 0).isSome=b at *
  generalize hQQ:(fun r:PV=>_)=QQ
  simp -implicitDefEqProofs only[xe,SX,sevalprocAttr,Oi,Cb,hP1,hQ1,Dc,xd,Sc,hc1,hc2,z1,z2,lP,lQ,d0,d1,d2,qe,hz,ga,za,AV.cut,oa,pa]
  refine xa hloop ?_
  rintro _ ⟨E,H,⟨rfl,h6,h7,hb⟩ | ⟨nl,es,rfl,g8,hb⟩⟩
  ·subst hb
   simp -implicitDefEqProofs only[SX,sevalprocAttr,h6,h7]
   subst hQQ
   exact⟨_,rfl⟩
  ·subst hb
   cases nl <;>
   ·simp -implicitDefEqProofs only[SX,sevalprocAttr,g8]
    subst hQQ
    exact⟨_,rfl⟩
 obtain⟨r,h1,v,rfl⟩:=ec key
 exact⟨v,h1⟩
end Go.AM.B1
namespace Go.AM.B1
open Go.AM Go.AM.So
abbrev yN (row:List PV) (i:Int):Tr:=(Tr.lf.set 4 (.pv (i64 i))).set 1 (.pv (.rp row 0))
abbrev zF (row:List PV) (i j:Int):Tr:=((Tr.lf.set 5 (.pv (i64 j))).set 4 (.pv (i64 i))).set 1 (.pv (.rp row 0))
def gT (ss:List mc) (i j:Nat):Prop:=(hi:i < ss.length)→(hj:j < ss.length)→ss[i].parts.length < ss[j].parts.length→Le ss[i] ss[j]=false
theorem GA (call:Xa) {S:PV} {ss:List mc} {es:List PV} (hS:pb S ss es) (Aa:Ec ss) {i:Nat} (hi:i < ss.length):
 Ld (fun r=>∃ E,(r=(.exit 2,⟨E,[]⟩)∧E.get 1= .pv (.rp [S] 0)∧E.get 4= .pv (i64 i)∧∀ j,gT ss i j)∨(r=(.ret,⟨E,[]⟩)∧E.get 2= .pv (.bool false)∧E.get 3= .pv (i64 0)∧¬Fg ss))
  (fb (ma (ta call Ic) (ga 0 [1,4,5])) qa ⟨zF [S] i 0,[]⟩):=by
 have h32:=Aa.len
 have ln:=hS.Tb
 obtain⟨P,ps,hP,a1⟩:=hS.Pd hi
 have okp:=Aa.Vu _ (List.getElem_mem hi)
 have lP:=hP.parts.Tb
 have hPre:∀ j (hj:j < ss.length),ss[i].parts.length < ss[j].parts.length→Le ss[i] ss[j]=true→¬Fg ss:=fun j hj h1 h2 h=>by
  have:=h i j hi hj h1;rw[h2] at this;cases this
 have hat:∀ j,gT ss i j↔((hj:j < ss.length)→ss[i].parts.length < ss[j].parts.length→Le ss[i] ss[j]=false):=fun j=>⟨fun h=>h hi,fun h _=>h⟩
 simp only[hat]
 generalize ss[i]=p at *
 refine xa (yb (g:=ma (ta call Ic) (ga 0 [1,4,5]))
  (fun j t=>t=⟨zF [S] i j,[]⟩∧∀ j',j' < j→(hj:j' < ss.length)→p.parts.length < ss[j'].parts.length→Le p ss[j']=false)
  ss.length (by unfold qa;omega) _ ⟨rfl,fun j h=>by omega⟩ ?_ ?_) (fun r h=>h.2)
 ·rintro j t hj ⟨rfl,hs⟩
  obtain⟨Q,qs,hQ,a2⟩:=hS.Pd hj
  have okq:=Aa.Vu _ (List.getElem_mem hj)
  have hcm:=fun (h:p.parts.length≤ss[j].parts.length)=>Uv hP hQ okp okq (n:=p.parts.length) (Nat.le_refl _) h
  have lQ:=hQ.parts.Tb
  have hbad:=hPre j hj
  have hnext:(p.parts.length < ss[j].parts.length→Le p ss[j]=false)→∀ j',j' < j+1→(hj:j' < ss.length)→p.parts.length < ss[j'].parts.length→Le p ss[j']=false:=by
   intro h j' h1 h2
   rcases Nat.lt_or_ge j' j with h3 | h3
   ·exact hs j' h3 h2
   ·have:j'=j:=by omega
    subst this;exact h
  unfold Le at hbad hnext
  generalize ss[j]=q at *
  have e1:decide ((j:Int) < (ss.length:Int))=true:=Ea (by omega)
  have t2:=Va hj (by unfold maxLen;omega)
  generalize hQQ:LN _ _ j=QQ
  by_cases c1:(p.parts.length:Int) < (q.parts.length:Int)
  ·have d1:=Ea c1
   obtain⟨v,hv⟩:=hcm (by omega)
   cases hb:(bc p.parts q.parts p.parts.length 0).isSome with
   |true=>
    rw[hb] at hv
    simp -implicitDefEqProofs only[SX,sevalprocAttr,Ic,ln,e1,Wb,ab,Dc,xd,Sc,a1,a2,lP,lQ,d1,hv,zF]
    subst hQQ
    exact⟨_,.inr ⟨rfl,by simp[Tr.aa],by simp[Tr.aa],hbad (by omega) hb⟩⟩
   |false=>
    rw[hb] at hv
    simp -implicitDefEqProofs only[SX,sevalprocAttr,Ic,ln,e1,t2,Wb,ab,Dc,xd,Sc,a1,a2,lP,lQ,d1,hv,ga,za,AV.cut,pa,zF]
    subst hQQ
    exact⟨rfl,hnext fun _=>hb⟩
  ·have d1:=Fa c1
   simp -implicitDefEqProofs only[SX,sevalprocAttr,Ic,ln,e1,t2,Wb,ab,Dc,xd,Sc,a1,a2,lP,lQ,d1,ga,za,AV.cut,pa,zF]
   subst hQQ
   exact⟨rfl,hnext fun h=>absurd h (by omega)⟩
 ·rintro t ⟨rfl,hs⟩
  have e1:decide ((ss.length:Int) < (ss.length:Int))=false:=Fa (by omega)
  generalize hQ:(fun r:Ex×St=>r.1.stop=true∧_)=QQ
  simp -implicitDefEqProofs only[SX,sevalprocAttr,Ic,e1,ln,Wb,ab,zF]
  subst hQ
  exact⟨rfl,_,.inl ⟨rfl,by simp[Tr.aa],by simp[Tr.aa],fun j hj=>hs j hj hj⟩⟩
theorem CE {S:PV} {ss:List mc} {es:List PV} (hS:pb S ss es):
 (¬ Ec ss→zd [.agg [S]]=some (.oc [.bool false,i64 84]))∧
 (Ec ss→∃ b,zd [.agg [S]]=some (.oc [.bool b,i64 0])∧(b=true↔Fg ss)):=by
 have ln:=hS.Tb
 have hS1:(AV.pv S).one=true:=by rcases hS.is with⟨h,_⟩ | h <;> rw[h] <;> rfl
 obtain⟨b,hb,hbb⟩:=Gv hS
 constructor
 ·intro h
  have:b=false:=by cases b with | false=>rfl | true=>exact absurd (hbb.1 rfl) h
  subst this
  simp -implicitDefEqProofs only[zd,SX,sevalprocAttr,Lg,hS1,yd,hb]
 ·intro Aa
  have h32:=Aa.len
  have:=hbb.2 Aa
  subst this
  have hloop:Ld (fun r=>∃ E,(r=(.exit 0,⟨E,[]⟩)∧Fg ss)∨(r=(.ret,⟨E,[]⟩)∧E.get 2= .pv (.bool false)∧E.get 3= .pv (i64 0)∧¬Fg ss))
   (fb (ma (ta (Ca (fun _=>none) 8) He) (ga 0 [1,4])) qa ⟨yN [S] 0,[]⟩):=by
   refine xa (yb (g:=ma (ta (Ca (fun _=>none) 8) He) (ga 0 [1,4]))
    (fun i t=>t=⟨yN [S] i,[]⟩∧∀ i',i' < i→∀ j,gT ss i' j)
    ss.length (by unfold qa;omega) _ ⟨rfl,fun i h=>by omega⟩ ?_ ?_) (fun r h=>h.2)
   ·rintro i t hi ⟨rfl,hs⟩
    have hin:=GA (Ca (fun _=>none) 8) hS Aa hi
    have e1:decide ((i:Int) < (ss.length:Int))=true:=Ea (by omega)
    have t2:=Va hi (by unfold maxLen;omega)
    generalize hQQ:LN _ _ i=QQ
    simp -implicitDefEqProofs only[SX,sevalprocAttr,He,Cb,ln,e1,Wb,ab,ga,za,AV.cut,pa,yN]
    refine xa hin ?_
    rintro _ ⟨E,⟨rfl,g1,g4,hp⟩ | ⟨rfl,g2,g3,hp⟩⟩
    ·simp -implicitDefEqProofs only[SX,sevalprocAttr,g1,g4,t2,ga,za,AV.cut,pa]
     subst hQQ
     refine⟨rfl,fun i' hi' j=> ?_⟩
     rcases Nat.lt_or_ge i' i with h3 | h3
     ·exact hs i' h3 j
     ·have:i'=i:=by omega
      subst this;exact hp j
    ·simp -implicitDefEqProofs only[SX,sevalprocAttr]
     subst hQQ
     exact⟨_,.inr ⟨rfl,g2,g3,hp⟩⟩
   ·rintro t ⟨rfl,hs⟩
    have e1:decide ((ss.length:Int) < (ss.length:Int))=false:=Fa (by omega)
    generalize hQ:(fun r:Ex×St=>r.1.stop=true∧_)=QQ
    simp -implicitDefEqProofs only[SX,sevalprocAttr,He,e1,ln,Wb,ab,yN]
    subst hQ
    exact⟨rfl,_,.inl ⟨rfl,fun i j hi hj=>hs i hi j hi hj⟩⟩
  have key:Ld (fun r=>∃ b,r=PV.oc [.bool b,i64 0]∧(b=true↔Fg ss)) (zd [.agg [S]]):=by
   generalize hQQ:(fun r:PV=>_)=QQ
   simp -implicitDefEqProofs only[zd,SX,sevalprocAttr,Lg,hS1,Wb,ab,yd,hb,Cb,ga,za,AV.cut,pa]
   refine xa hloop ?_
   rintro _ ⟨E,⟨rfl,hp⟩ | ⟨rfl,g2,g3,hp⟩⟩
   ·simp -implicitDefEqProofs only[SX,sevalprocAttr]
    subst hQQ
    exact⟨true,rfl,by simpa using hp⟩
   ·simp -implicitDefEqProofs only[SX,sevalprocAttr,g2,g3]
    subst hQQ
    exact⟨false,rfl,by simpa using hp⟩
  obtain⟨r,h1,b,rfl,hb⟩:=ec key
  exact⟨b,h1,hb⟩
end Go.AM.B1
namespace Go.AM.B1
open Go.AM Go.AM.So
def kI (f:Nat→Bool):List PV:=(List.range 32).map fun i=> .bool (f i)
def fc (d:Int) (f:Nat→Bool):List PV:=i64 d::kI f
def Ie (a:Al):PV:= .agg (fc a.1 a.2.toNat.testBit)
theorem bC (f:Nat→Bool):(kI f).length=32:=by simp[kI]
theorem ng (d:Int) (f:Nat→Bool):(fc d f).length=33:=by rw[fc,List.length_cons,bC]
theorem LL (f:Nat→Bool) {i:Nat} (h:i < (kI f).length):(kI f)[i]= .bool (f i):=by
 simp only[kI,List.getElem_map,List.getElem_range]
theorem lH (f:Nat→Bool) {i:Nat} (h:i < 32):(kI f)[i]? =some (.bool (f i)):=by
 rw[List.getElem?_eq_getElem (by rw[bC];exact h),LL]
theorem DN (f:Nat→Bool) {i:Nat} (h:i < 32) (b:Bool):(kI f).set i (.bool b)=kI fun j=>if j=i then b else f j:=by
 apply List.ext_getElem
 ·rw[List.length_set,bC,bC]
 ·intro j h1 h2
  rw[List.getElem_set,LL,LL]
  by_cases hj:i=j
  ·subst hj;rw[if_pos rfl,if_pos rfl]
  ·rw[if_neg hj,if_neg (Ne.symm hj)]
theorem Zs {f g:Nat→Bool} (h:∀ x,x < 32→f x=g x):kI f=kI g:=by
 unfold kI
 apply List.map_congr_left
 intro x hx
 rw[h x (by simpa using hx)]
theorem iN {f g:Nat→Bool} (h:kI f=kI g) {i:Nat} (hi:i < 32):f i=g i:=by
 have h1:=lH f hi
 rw[h,lH g hi] at h1
 injection h1 with h1;injection h1 with h1;exact h1.symm
theorem bw (d:Int) (f:Nat→Bool):∀ e∈fc d f,(AV.pv e).one=true:=by
 intro e he
 rcases List.mem_cons.1 he with rfl | he
 ·rfl
 ·obtain⟨x,_,rfl⟩:=List.mem_map.1 he
  rfl
def kT (a:Al):Prop:=∃ b:Nat,a.2=(b:Int)∧b < 4294967296
theorem NQ {a b:Al} (ha:kT a) (hb:kT b) (h:Ie a=Ie b):a=b:=by
 obtain⟨d,_⟩:=a;obtain⟨e,_⟩:=b
 obtain⟨m,rfl,hm⟩:=ha
 obtain⟨n,rfl,hn⟩:=hb
 simp only[Ie,fc,PV.agg.injEq,List.cons.injEq,PV.int.injEq,true_and,Int.toNat_natCast] at h
 have:m=n:=by
  apply Nat.eq_of_testBit_eq
  intro i
  by_cases hi:i < 32
  ·exact iN h.2 hi
  ·rw[Nat.testBit_lt_two_pow (Nat.lt_of_lt_of_le hm (Nat.pow_le_pow_right (n:=2) (by decide) (by omega:32≤i))),Nat.testBit_lt_two_pow (Nat.lt_of_lt_of_le hn (Nat.pow_le_pow_right (n:=2) (by decide) (by omega:32≤i)))]
 subst this
 have h1:d=e:=by have:=h.1;omega
 rw[h1]
theorem ux:∀ (l:List Nat) (f g:Nat→Bool),Gi (l.map fun _=>0) (l.map fun i=> .bool (f i)) (l.map fun i=> .bool (g i))=some (l.all fun i=>f i==g i)
 | [],f,g=>rfl
 |i::l,f,g=>by
  simp only[List.map_cons,Gi,sr,Option.bind_some,ux l f g,Option.map_some,List.all_cons]
abbrev WX:Kd:= .row [1,0,0,0,0,0,0,0,0,0,0,0,0,0,0,0,0,0,0,0,0,0,0,0,0,0,0,0,0,0,0,0,0]
theorem bT (a b:Al):∃ c,Fk WX (Ie a) (Ie b)=some c∧(c=true↔Ie a=Ie b):=by
 have h:=ux (List.range 32) a.2.toNat.testBit b.2.toNat.testBit
 have h0:(List.range 32).map (fun _=>0)=[0,0,0,0,0,0,0,0,0,0,0,0,0,0,0,0,0,0,0,0,0,0,0,0,0,0,0,0,0,0,0,0]:=by decide
 rw[h0] at h
 refine⟨((a.1:Int)==b.1)&&(List.range 32).all fun i=>a.2.toNat.testBit i==b.2.toNat.testBit i,?_,?_⟩
 ·show Gi (1::[0,0,0,0,0,0,0,0,0,0,0,0,0,0,0,0,0,0,0,0,0,0,0,0,0,0,0,0,0,0,0,0]) (i64 a.1::kI _) (i64 b.1::kI _)=_
  unfold Gi
  rw[show kI a.2.toNat.testBit=(List.range 32).map fun i=> .bool (a.2.toNat.testBit i) from rfl,show kI b.2.toNat.testBit=(List.range 32).map fun i=> .bool (b.2.toNat.testBit i) from rfl,h]
  simp only[sr,if_true,Option.bind_some,Option.map_some]
 ·simp only[Bool.and_eq_true,beq_iff_eq,List.all_eq_true,List.mem_range]
  constructor
  ·rintro⟨h1,h2⟩
   rw[Ie,Ie,h1]
   unfold fc
   rw[Zs h2]
  ·intro h
   simp only[Ie,fc,PV.agg.injEq,List.cons.injEq,PV.int.injEq,true_and] at h
   exact⟨h.1,fun i hi=>iN h.2 hi⟩
theorem yI (H:List ba) {l:List Al} {i:Nat} (hi:i < l.length):wa H 33 (.pv (.lit 33 (l.map Ie))) (i:Int)=some (.pv (.rp (fc l[i].1 l[i].2.toNat.testBit) 0)):=by
 simp only[wa]
 rw[if_pos (by refine⟨trivial,?_⟩;unfold Ga;simp;omega)]
 simp[hi,Ie,PV.cells]
theorem RJ (H:List ba) (d:Int) (f:Nat→Bool):ya H true 33 (.pv (.rp (fc d f) 0))=some (.pv (.agg (fc d f))):=by
 have h:=ng d f
 simp only[ya,xl,if_true]
 rw[if_pos (by omega),List.drop_zero,List.take_of_length_le (by omega)]
 rfl
theorem uO {a:Al} {l:List Al} {i k:Nat} (hi:i < l.length):ql a (l.drop i) k=if a=l[i] then some k else ql a (l.drop (i+1)) (k+1):=by
 rw[List.drop_eq_getElem_cons hi,ql]
abbrev ZJ (v:PV) (row:List PV) (i:Int):Tr:=((Tr.lf.set 5 (.pv (i64 i))).set 3 (.pv (.rp row 0))).set 0 (.pv v)
theorem vS {l:List Al} {a:Al} (hl:l.length≤64) (ha:kT a) (hb:∀ b∈l,kT b):Ph [.lit 33 (l.map Ie),Ie a]=some (i64 (match ql a l 0 with | some k=>(k:Int) | none=> -1)):=by
 have hloop:Ld (fun r=>∃ E,(r=(.exit 0,⟨E,[]⟩)∧ql a l 0=none)∨(∃ k,r=(.ret,⟨E,[]⟩)∧ql a l 0=some k∧E.get 4= .pv (i64 (k:Nat))))
  (fb (ma (ta (Ca (fun _=>none) 8) Zd) (ga 0 [0,3,5])) qa ⟨ZJ (.lit 33 (l.map Ie)) (fc a.1 a.2.toNat.testBit) 0,[]⟩):=by
  refine xa (yb (g:=ma (ta (Ca (fun _=>none) 8) Zd) (ga 0 [0,3,5]))
   (fun i t=>t=⟨ZJ (.lit 33 (l.map Ie)) (fc a.1 a.2.toNat.testBit) i,[]⟩∧ql a l 0=ql a (l.drop i) i)
   l.length (by unfold qa;omega) _ ⟨rfl,rfl⟩ ?_ ?_) (fun r h=>h.2)
  ·rintro i t hi ⟨rfl,hs⟩
   rw[uO hi] at hs
   have a1:=yI [] hi
   have a2:=RJ [] l[i].1 l[i].2.toNat.testBit
   have a3:=RJ [] a.1 a.2.toNat.testBit
   obtain⟨c,heq,hce⟩:=bT l[i] a
   have heq:Fk WX (.agg (fc l[i].1 l[i].2.toNat.testBit)) (.agg (fc a.1 a.2.toNat.testBit))=some c:=heq
   have e1:decide ((i:Int) < (l.length:Int))=true:=Ea (by omega)
   have t2:=Va hi (show l.length≤maxLen by unfold maxLen;omega)
   have ln:Tb [] 0 (.pv (.lit 33 (l.map Ie)))=some l.length:=by simp[Tb]
   have hbi:=hb _ (List.getElem_mem hi)
   generalize fc a.1 a.2.toNat.testBit=row at *
   generalize fc l[i].1 l[i].2.toNat.testBit=row2 at *
   generalize l.map Ie=es at *
   generalize hQ:LN _ _ i=Q
   by_cases h:a=l[i]
   ·rw[hce.2 (by rw[h])] at heq
    rw[if_pos h] at hs
    simp -implicitDefEqProofs only[SX,sevalprocAttr,Zd,e1,ln,a1,a2,a3,heq,ZJ]
    subst hQ
    exact⟨_,.inr ⟨i,rfl,hs,by simp[Tr.aa]⟩⟩
   ·have:c=false:=by cases c with | false=>rfl | true=>exact absurd (NQ hbi ha (hce.1 rfl)).symm h
    rw[this] at heq
    rw[if_neg h] at hs
    simp -implicitDefEqProofs only[SX,sevalprocAttr,Zd,e1,t2,ln,a1,a2,a3,heq,ga,za,AV.cut,pa,ZJ]
    subst hQ
    exact⟨rfl,hs⟩
  ·rintro t ⟨rfl,hs⟩
   rw[List.drop_length,ql] at hs
   have e1:decide ((l.length:Int) < (l.length:Int))=false:=Fa (by omega)
   have ln:Tb [] 0 (.pv (.lit 33 (l.map Ie)))=some l.length:=by simp[Tb]
   generalize l.map Ie=es at *
   generalize hQ:(fun r:Ex×St=>r.1.stop=true∧_)=Q
   simp -implicitDefEqProofs only[SX,sevalprocAttr,Zd,e1,ln,ZJ]
   subst hQ
   exact⟨rfl,_,.inl ⟨rfl,hs⟩⟩
 have hln:=ng (a.1:Int) a.2.toNat.testBit
 have hall:∀ e∈fc (a.1:Int) a.2.toNat.testBit,(AV.pv e).one=true:=bw _ _
 have he:Ie a= .agg (fc a.1 a.2.toNat.testBit):=rfl
 rw[he]
 generalize fc (a.1:Int) a.2.toNat.testBit=row at *
 have hbx:((row.map AV.pv).length=33∧(row.map AV.pv).all AV.one=true)=True:=by
  refine eq_true ⟨by rw[List.length_map,hln],?_⟩
  rw[List.all_eq_true];intro v hv
  obtain⟨e,he,rfl⟩:=List.mem_map.1 hv
  exact hall e he
 have hmp:Pa (Vb [] 0) (row.map AV.pv)=some row:=eC _ _ _
 generalize l.map Ie=es at *
 apply Rm
 simp -implicitDefEqProofs only[Ph,SX,sevalprocAttr,Pj,hbx,hmp,Cb,ga,za,AV.cut,pa]
 refine xa hloop ?_
 rintro _ ⟨E,⟨rfl,hn⟩ | ⟨k,rfl,hk,g⟩⟩
 ·simp -implicitDefEqProofs only[SX,sevalprocAttr,hn]
 ·simp -implicitDefEqProofs only[SX,sevalprocAttr,g,hk]
end Go.AM.B1
