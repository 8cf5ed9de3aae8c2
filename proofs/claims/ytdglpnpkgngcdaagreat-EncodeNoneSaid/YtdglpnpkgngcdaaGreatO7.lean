/- What functions of the program compute. -/
import Derived.Test.YtdglpnpkgngcdaaGreatO6
set_option linter.unusedVariables false
set_option linter.unusedSimpArgs false
namespace Go.AM.B1
open Go.AM Go.AM.So
theorem zP {v:PV} {l:List (Int×Int)} (h:Bn v l):∃ w,Xc [v]=some w∧Ai 2 w (Md l)∧(l≠[]→w= .lit 2 (Md l)):=by
 rcases h.is with⟨rfl,hl⟩ | rfl
 ·refine⟨.ma,?_,.inl ⟨rfl,hl⟩,fun hne=>absurd (by simpa[Md] using hl) hne⟩
  simp -implicitDefEqProofs only[Xc,SP,SA,SQ,WP,WQ,sevalprocAttr,je]
 ·refine⟨.lit 2 (Md l),?_,.inr rfl,fun _=>rfl⟩
  have hr:qb (Md l).length 16:=by have:=h.sz;unfold qb;simp;omega
  generalize Md l=es at *
  simp -implicitDefEqProofs only[Xc,SP,SA,SQ,WP,WQ,sevalprocAttr,je,eq_true hr]
abbrev MH (S P:PV) (n i m j:Int):Tr:=((((((((Tr.lf.set 22 (.pv (i64 j))).set 21 (.pv (i64 m))).set 20 (.pv P)).set 12 (.pv (i64 i))).set 11 (.pv (i64 n))).set 10 (.pv S)).set 6 (.ptr 4 0)).set 3 (.ptr 1 0)).set 2 (.ptr 0 0)
abbrev pM (S:PV) (n i:Int):Tr:=((((Tr.lf.set 12 (.pv (i64 i))).set 11 (.pv (i64 n))).set 10 (.pv S)).set 3 (.ptr 1 0)).set 2 (.ptr 0 0)
abbrev EW (out:List PV) (nl:Bool):List ba:=[.box [.pv .ma],.box [.uq 2 nl 2 out],.tok 2 out.length nl]
abbrev IG (out:List PV) (nl:Bool) (P:PV) (f:Int) (ps:List PV) (nl1:Bool):List ba:=[.box [.pv .ma],.box [.uq 2 nl 2 out],.tok 2 out.length nl,.box [.pv P,.pv (i64 f)],.box [.uq 5 nl1 1 ps,.pv (i64 f)],.tok 1 ps.length nl1]
theorem JK {P S:PV} {ls:List (List (Int×Int))} {ps:List PV} (hP:Ze P ls ps) (Aa:∀ l∈ls,l≠[]) (h8:ls.length≤8) (out:List PV) (nl:Bool) (f n i:Int):
 ∃ E nl1,mb (ga (pa (Ba (fun _=>none) 8) kh) (na 6 [2,3,6,10,11,12,20,21,22])) qa ⟨MH S P n i ls.length 0,IG out nl P f [] true⟩=
  some (.exit 2,⟨E,IG out nl P f (ls.map ve) nl1⟩)∧(nl1=true→ls=[])∧E.get 2= .ptr 0 0∧E.get 3= .ptr 1 0∧E.get 6= .ptr 4 0∧E.get 10= .pv S∧E.get 11= .pv (i64 n)∧E.get 12= .pv (i64 i):=by
 have key:=Kb (g:=ga (pa (Ba (fun _=>none) 8) kh) (na 6 [2,3,6,10,11,12,20,21,22]))
  (fun j t=>∃ nl1,t=⟨MH S P n i ls.length j,IG out nl P f ((ls.take j).map ve) nl1⟩∧(nl1=true→j=0))
  (Q:=fun r=>∃ E nl1,r=(.exit 2,⟨E,IG out nl P f (ls.map ve) nl1⟩)∧(nl1=true→ls=[])∧E.get 2= .ptr 0 0∧E.get 3= .ptr 1 0∧E.get 6= .ptr 4 0∧E.get 10= .pv S∧E.get 11= .pv (i64 n)∧E.get 12= .pv (i64 i))
  ls.length (by unfold qa;omega) ⟨MH S P n i ls.length (0:Nat),IG out nl P f [] true⟩ ⟨true,rfl,fun _=>rfl⟩ ?_ ?_
 ·obtain⟨r,h1,_,E,nl1,rfl,h2⟩:=uc key
  exact⟨E,nl1,h1,h2⟩
 ·rintro j t hj ⟨nl1,rfl,hnl⟩
  obtain⟨v,hv,hpt,_⟩:=hP.Td hj []
  have a1:=hP.Kx hv
  obtain⟨w,hcl,_,hw⟩:=zP hpt
  have hw:=hw (Aa _ (List.getElem_mem hj))
  subst hw
  have htk:(ls.take (j+1)).map ve=(ls.take j).map ve++[.lit 2 (Md ls[j])]:=by
   rw[List.take_succ_eq_append_getElem hj,List.map_append];rfl
  have hpl:((ls.take j).map ve).length=j:=by simp;omega
  generalize ls[j]=l at *
  have e1:decide ((j:Int) < (ls.length:Int))=true:=Fa (by omega)
  have t2:=Za hj (by unfold maxLen;omega)
  have r1:∀ H (x:PV),xa H false 1 (.pv (.rp [x] 0))=some (.pv x):=fun H x=>rfl
  have hap:=Lg (A:=IG out nl P f ((ls.take j).map ve) nl1) (id:=5) (n:=j) (h:= .uq) (ag:=false) (nl:=nl1) (sz:=1) (bytes:=24) (es:=(ls.take j).map ve) (by show some (ba.tok 1 ((ls.take j).map ve).length nl1)=_;rw[hpl]) hpl.symm (by unfold qb;omega) (.lit 2 (Md l))
  have hlen1:((ls.take j).map ve++[PV.lit 2 (Md l)]).length=j+1:=by rw[List.length_append,hpl];rfl
  have hap':Ub (IG out nl P f ((ls.take j).map ve) nl1) false .uq 1 false 24 (.uq 5 nl1 1 ((ls.take j).map ve)) (.pv (.lit 1 [.lit 2 (Md l)]))=some (.uq 5 false 1 ((ls.take j).map ve++[.lit 2 (Md l)]),[.box [.pv .ma],.box [.uq 2 nl 2 out],.tok 2 out.length nl,.box [.pv P,.pv (i64 f)],.box [.uq 5 nl1 1 ((ls.take j).map ve),.pv (i64 f)],.tok 1 (j+1) false]):=hap
  unfold IG at hap' ⊢
  rw[hpl] at hap' ⊢
  have p0:∀ (x:AV) (y z:ba),place [.box [.pv .ma],.box [.uq 2 nl 2 out],y,.box [.pv P,.pv (i64 f)],.box [x,.pv (i64 f)],z] 0 (.ptr 4 0)=some (.ptr 4 0):=fun x y z=>rfl
  have l0:∀ (x:AV) (y z:ba),xa [.box [.pv .ma],.box [.uq 2 nl 2 out],y,.box [.pv P,.pv (i64 f)],.box [x,.pv (i64 f)],z] false 1 (.ptr 4 0)=some x:=fun x y z=>rfl
  have s0:∀ (x:AV) (y z:ba) (es:List PV),Ka [.box [.pv .ma],.box [.uq 2 nl 2 out],y,.box [.pv P,.pv (i64 f)],.box [x,.pv (i64 f)],z] 1 (.ptr 4 0) (.uq 5 false 1 es)=some [.box [.pv .ma],.box [.uq 2 nl 2 out],y,.box [.pv P,.pv (i64 f)],.box [.uq 5 false 1 es,.pv (i64 f)],z]:=fun x y z es=>rfl
  generalize hp0:(ls.take j).map ve=ps0 at *
  generalize hL:PV.lit 2 (Md l)=L at *
  have hL1:(AV.pv L).cells=[.pv L]∧(AV.pv L).one=true:=by rw[← hL];exact⟨rfl,rfl⟩
  have b5:(5 < 6)=True:=by simp
  have b4:(4 < 6)=True:=by simp
  have b2:(2 < 6)=True:=by simp
  have b1:(1 < 6)=True:=by simp
  have b0:(0 < 6)=True:=by simp
  have hLc:L.cells=[L]:=by rw[← hL];rfl
  generalize hQ:LN _ _ j=Q
  subst hL
  simp -implicitDefEqProofs only[SP,WP,fa,sevalprocAttr,kh,e1,t2,a1,r1,p0,l0,s0,hcl,hap',b0,b1,b2,b4,b5,na,za,AV.cut,oa,Oa,ta,MH]
  subst hQ
  refine⟨false,?_,by simp⟩
  rw[htk,hlen1]
 ·rintro t ⟨nl1,rfl,hnl⟩
  rw[List.take_length]
  have e1:decide ((ls.length:Int) < (ls.length:Int))=false:=Ja (by omega)
  generalize hQ:(fun r:Ex×St=>r.1.stop=true∧_)=Q
  simp -implicitDefEqProofs only[SX,sevalprocAttr,kh,e1,MH]
  subst hQ
  exact⟨rfl,_,nl1,rfl,fun h=>List.eq_nil_of_length_eq_zero (hnl h),by simp[Tr.aa],by simp[Tr.aa],by simp[Tr.aa],by simp[Tr.aa],by simp[Tr.aa],by simp[Tr.aa]⟩
theorem xC {S:PV} {ss:List ic} {es:List PV} (hS:pb S ss es) (Aa:Lc ss):∃ S',xi [.agg [S]]=some (.agg [S'])∧Ai 2 S' (ss.map Ae):=by
 have lS:=hS.Qb
 have h32:=Aa.len
 have hSone:(AV.pv S).one=true:=by rcases hS.is with⟨h,_⟩ | h <;> rw[h] <;> rfl
 have hloop:Sd (fun r=>∃ E nl,r=(.exit 0,⟨E,EW (ss.map Ae) nl⟩)∧(nl=true→ss=[])∧E.get 2= .ptr 0 0∧E.get 3= .ptr 1 0)
  (mb (ga (pa (Ba (fun _=>none) 8) ph) (na 3 [2,3,10,11,12])) qa ⟨pM S ss.length 0,EW [] true⟩):=by
  refine ya (Kb (g:=ga (pa (Ba (fun _=>none) 8) ph) (na 3 [2,3,10,11,12]))
   (fun i t=>∃ nl,t=⟨pM S ss.length i,EW ((ss.take i).map Ae) nl⟩∧(nl=true→i=0))
   (Q:=fun r=>∃ E nl,r=(.exit 0,⟨E,EW (ss.map Ae) nl⟩)∧(nl=true→ss=[])∧E.get 2= .ptr 0 0∧E.get 3= .ptr 1 0)
   ss.length (by unfold qa;omega) _ ⟨true,rfl,fun _=>rfl⟩ ?_ ?_) (fun r h=>h.2)
  ·rintro i t hi ⟨nl,rfl,hnl⟩
   obtain⟨P,ps,hPs,a1⟩:=hS.Td hi
   have ok:=Aa.gw _ (List.getElem_mem hi)
   obtain⟨hP1,hP2⟩:=hPs.Yw
   have lP:=hPs.parts.Qb
   have htk:(ss.take (i+1)).map Ae=(ss.take i).map Ae++[Ae ss[i]]:=by
    rw[List.take_succ_eq_append_getElem hi,List.map_append];rfl
   have hpl:((ss.take i).map Ae).length=i:=by simp;omega
   obtain⟨E,nl1,hin,hnl1,g2,g3,g6,g10,g11,g12⟩:=JK (S:=S) hPs.parts (fun l hl=>(ok.parts l hl).1) ok.hi ((ss.take i).map Ae) nl ss[i].first ss.length i
   have hnl1f:nl1=false:=by
    cases nl1 with
    |false=>rfl
    |true=>have:=hnl1 rfl;have h2:=ok.lo;rw[this] at h2;simp at h2
   subst hnl1f
   have hes:Ae ss[i]= .agg [.lit 1 (ss[i].parts.map ve),i64 ss[i].first]:=rfl
   rw[hes] at htk
   generalize ss[i]=p at *
   have e1:decide ((i:Int) < (ss.length:Int))=true:=Fa (by omega)
   have t2:=Za hi (by unfold maxLen;omega)
   have a2:∀ H,xa H true 2 (.pv (.rp [P,i64 p.first] 0))=some (.pv (.agg [P,i64 p.first])):=fun H=>rfl
   generalize (ss.take i).map Ae=out at *
   generalize p.parts.map ve=pp at *
   subst hpl
   unfold IG at hin
   unfold EW
   have hlo:(out++[PV.agg [.lit 1 pp,i64 p.first]]).length=out.length+1:=by simp
   have hap:∀ (T:List ba),Ub ([.box [.pv .ma],.box [.uq 2 nl 2 out],.tok 2 out.length nl]++T) false .uq 2 true 32 (.uq 2 nl 2 out) (.pv (.lit 2 [.agg [.lit 1 pp,i64 p.first]]))=some (.uq 2 false 2 (out++[.agg [.lit 1 pp,i64 p.first]]),[.box [.pv .ma],.box [.uq 2 nl 2 out],.tok 2 (out.length+1) false]++T):=fun T=>
    Lg (A:=[.box [.pv .ma],.box [.uq 2 nl 2 out],.tok 2 out.length nl]++T) (id:=2) (n:=out.length) (h:= .uq) (ag:=true) (nl:=nl) (sz:=2) (bytes:=32) (es:=out) rfl rfl (by unfold qb;omega) _
   have hap1:=fun a b c=>hap [a,b,c]
   simp only[List.cons_append,List.nil_append] at hap1
   have s1:∀ T:List ba,Ka ([.box [.pv .ma],.box [.uq 2 nl 2 out],.tok 2 out.length nl,.box [.pv .ma,.pv (i64 0)]]) 2 (.ptr 3 0) (.pv (.agg [P,i64 p.first]))=some [.box [.pv .ma],.box [.uq 2 nl 2 out],.tok 2 out.length nl,.box [.pv P,.pv (i64 p.first)]]:=fun T=>
    Bm _ _ _ _ hP1 rfl [.box [.pv .ma],.box [.uq 2 nl 2 out],.tok 2 out.length nl] _ rfl
   have s1':=s1 []
   have b5:(5 < 6)=True:=by simp
   have b4:(4 < 6)=True:=by simp
   have b2:(2 < 6)=True:=by simp
   have b1:(1 < 6)=True:=by simp
   have b0:(0 < 6)=True:=by simp
   have c2:(2 < 3)=True:=by simp
   have c1:(1 < 3)=True:=by simp
   have c0:(0 < 3)=True:=by simp
   have hz:(0 < 1)=True:=by simp
   generalize hQ:LN _ _ out.length=Q
   have hin':mb (ga (pa (Ba (fun _=>none) 8) kh) (na 6 [2,3,6,10,11,12,20,21,22])) qa ⟨((((((((Tr.lf.set 22 (.pv (.int .i64 0))).set 21 (.pv (i64 p.parts.length))).set 20 (.pv P)).set 12 (.pv (i64 out.length))).set 11 (.pv (i64 ss.length))).set 10 (.pv S)).set 6 (.ptr 4 0)).set 3 (.ptr 1 0)).set 2 (.ptr 0 0),[.box [.pv .ma],.box [.uq 2 nl 2 out],.tok 2 out.length nl,.box [.pv P,.pv (i64 p.first)],.box [.uq 5 true 1 [],.pv (i64 p.first)],.tok 1 0 true]⟩=_:=hin
   simp -implicitDefEqProofs only[SP,SA,SQ,sevalprocAttr,ga,ph,Gb,e1,a1,a2,s1',hP1,lP,Ve,hz,b0,b1,b2,b4,b5,na,za,AV.cut,oa,Ga,Oa,ta,pM]
   rw[hin']
   simp -implicitDefEqProofs only[SP,SQ,WP,WQ,↓reduceIte,reduceCtorEq,Nat.reduceAdd,Nat.reduceMul,Nat.reduceLeDiff,Nat.reduceEqDiff,Int.reduceLT,Int.reduceLE,Int.reduceBEq,Int.reduceEq,Nat.reduceBEq,Nat.reduceLT,Nat.reduceSub,g2,g3,g6,g10,g11,g12,hap1,t2,c0,c1,c2,na,za,AV.cut,oa,Oa,ta]
   subst hQ
   exact⟨false,by rw[htk,hlo],by simp⟩
  ·rintro t ⟨nl,rfl,hnl⟩
   rw[List.take_length]
   have e1:decide ((ss.length:Int) < (ss.length:Int))=false:=Ja (by omega)
   generalize hQ:(fun r:Ex×St=>r.1.stop=true∧_)=Q
   simp -implicitDefEqProofs only[SX,sevalprocAttr,ph,e1,pM]
   subst hQ
   exact⟨rfl,_,nl,rfl,fun h=>List.eq_nil_of_length_eq_zero (hnl h),by simp[Tr.aa],by simp[Tr.aa]⟩
 obtain⟨r,h1,E,nl,rfl,hnl,g2,g3⟩:=uc hloop
 have h1':mb (ga (pa (Ba (fun _=>none) 8) ph) (na 3 [2,3,10,11,12])) qa ⟨((((Tr.lf.set 12 (.pv (.int .i64 0))).set 11 (.pv (i64 ss.length))).set 10 (.pv S)).set 3 (.ptr 1 0)).set 2 (.ptr 0 0),[.box [.pv .ma],.box [.uq 2 true 2 []],.tok 2 0 true]⟩=_:=h1
 have hz:(0 < 2)=True:=by simp
 have c2:(2 < 3)=True:=by simp
 have c1:(1 < 3)=True:=by simp
 have c0:(0 < 3)=True:=by simp
 have hout:nl=true→ss.map Ae=[]:=fun h=>by rw[hnl h];rfl
 generalize ss.map Ae=out at *
 cases nl with
 |true=>
  refine⟨.ma,?_,.inl ⟨rfl,?_⟩⟩
  ·simp -implicitDefEqProofs only[xi,SP,SA,SQ,sevalprocAttr,ga,Vm,Gb,hSone,ZC,lS,Ve,hz,c0,c1,c2,na,za,AV.cut,oa,Ga,Oa,ta,h1',g2,g3]
  ·exact hout rfl
 |false=>
  refine⟨.lit 2 out,?_,.inr rfl⟩
  simp -implicitDefEqProofs only[xi,SP,SA,SQ,sevalprocAttr,ga,Vm,Gb,hSone,ZC,lS,Ve,hz,c0,c1,c2,na,za,AV.cut,oa,Ga,Oa,ta,h1',g2,g3]
end Go.AM.B1
namespace Go.AM.B1
open Go.AM Go.AM.So
theorem Lc.ne {ss:List ic} (h:Lc ss):∀ s∈ss,0 < s.parts.length:=fun s hs=>(h.gw s hs).lo
theorem pb.OW {S:PV} {ss:List ic} {es:List PV} (h:pb S ss es):∀ s∈ss,∀ l∈s.parts,l.length * 16≤140737488355328:=by
 intro s hs l hl
 obtain⟨i,hi,rfl⟩:=List.getElem_of_mem hs
 obtain⟨e,P,ps,_,_,hp⟩:=h.get hi
 obtain⟨j,hj,rfl⟩:=List.getElem_of_mem hl
 obtain⟨v,_,_,hv⟩:=hp.parts.get hj
 exact hv.sz
theorem Th {S:PV} {ss:List ic} {es:List PV} (hS:pb S ss es):
 (¬ Lc ss→Cc [.agg [S]]=some (.yc [.agg [.ma],i64 84]))∧
 (Lc ss→¬Eg ss→Cc [.agg [S]]=some (.yc [.agg [.ma],i64 110]))∧
 (Lc ss→Eg ss→Kg ss=none→Cc [.agg [S]]=some (.yc [.agg [.ma],i64 130]))∧
 (Lc ss→Eg ss→∀ l,Kg ss=some l→Cc [.agg [S]]=some (.yc [.agg [Kk l],i64 0])):=by
 have hS0:S= .ma∨∃ l,S= .lit 2 l:=by
  rcases hS.is with⟨h,_⟩ | h
  ·exact .inl h
  ·exact .inr ⟨_,h⟩
 have hp:=iC hS
 refine⟨?_,?_,?_,?_⟩
 ·intro h
  exact fP S hS0 (by decide) (hp.1 h)
 ·intro h1 h2
  obtain⟨y,a,b,h3,h4⟩:=hp.2 h1
  have hy:y=false:=by cases y with | false=>rfl | true=>exact absurd (h4.1 rfl) h2
  subst hy
  exact OP S hS0 h3
 ·intro h1 h2 h5
  obtain⟨y,a,b,h3,h4⟩:=hp.2 h1
  have hy:=h4.2 h2
  subst hy
  obtain⟨S',hc,hs⟩:=xC hS h1
  exact UJ S S' ss hS0 h3 hc hs h1.len hS.OW h1.ne h5
 ·intro h1 h2 l h5
  obtain⟨y,a,b,h3,h4⟩:=hp.2 h1
  have hy:=h4.2 h2
  subst hy
  obtain⟨S',hc,hs⟩:=xC hS h1
  exact PQ S S' ss hS0 h3 hc hs h1.len hS.OW h1.ne h5
end Go.AM.B1
namespace Go.AM.B1
open Go.AM Go.AM.So
abbrev Fb (es:List PV):ba:= .box (es.map .pv)
theorem Li {A:List ba} {id:Nat} {es:List PV} (hg:A[id]? =some (Fb es)) (o d:Nat):place A d (.ptr id o)=some (.ptr id (o+d)):=by
 simp only[place,hg]
theorem ID {A:List ba} {id:Nat} {es:List PV} (hg:A[id]? =some (Fb es)) {k:Nat} {e:PV} (hk:es[k]? =some e):xa A false 1 (.ptr id k)=some (.pv e):=by
 simp only[xa,hg,Ag,Bool.false_eq_true,if_false,List.getElem?_map,hk,Option.map_some]
theorem aw {A:List ba} {id:Nat} {es:List PV} (hg:A[id]? =some (Fb es)) {k:Nat} (hk:k < es.length) {e:PV} (hc:e.cells=[e]) (h1:(AV.pv e).one=true):Ka A 1 (.ptr id k) (.pv e)=some (A.set id (Fb (es.set k e))):=by
 have hc':(AV.pv e).cells=[.pv e]:=by simp[AV.cells,hc]
 simp only[Ka,hg,hc']
 rw[if_pos ⟨rfl,by simp[h1]⟩,if_pos (by simp;omega),fa,fa]
 show _=some (A.set id (.box ((es.set k e).map .pv)))
 rw[List.map_set]
theorem bf:∀ (es:List PV),Ad (es.map .pv)=some es
 | []=>rfl
 |e::es=>by rw[List.map_cons,Ad,bf es];rfl
theorem Yk {A:List ba} {id n:Nat} {es:List PV} (hg:A[id]? =some (Fb es)) (hn:es.length=n):xa A true n (.ptr id 0)=some (.pv (.agg es)):=by
 simp only[xa,hg,Ag,if_true]
 rw[if_pos (by simp;omega)]
 have:List.take n (List.drop 0 (es.map AV.pv))=es.map AV.pv:=by rw[List.drop_zero,List.take_of_length_le (by simp;omega)]
 rw[this,mq,bf]
theorem Ws {α:Type}:∀ (vs cs pre:List α),cs.length=vs.length→fa (pre++cs) pre.length vs=pre++vs
 | [],cs,pre,h=>by cases cs with | nil=>rfl | cons=>simp at h
 |v::vs,cs,pre,h=>by
  cases cs with
  |nil=>simp at h
  |cons c cs=>
   have:(pre++c::cs).set pre.length v=(pre++[v])++cs:=by simp
   rw[fa,this]
   have h2:=Ws vs cs (pre++[v]) (by simpa using h)
   simp only[List.length_append,List.length_singleton] at h2
   rw[h2];simp
theorem Ao {A:List ba} {id n:Nat} {es fs:List PV} (hg:A[id]? =some (Fb es)) (hn:es.length=n) (hf:fs.length=n) (h1:∀ e∈fs,(AV.pv e).one=true):Ka A n (.ptr id 0) (.pv (.agg fs))=some (A.set id (Fb fs)):=by
 have hc':(AV.pv (.agg fs)).cells=fs.map .pv:=rfl
 simp only[Ka,hg,hc']
 rw[if_pos ⟨by simp[hf],by rw[List.all_eq_true];intro v hv;obtain⟨e,he,rfl⟩:=List.mem_map.1 hv;exact h1 e he⟩,if_pos (by simp;omega)]
 have:=Ws (fs.map AV.pv) (es.map AV.pv) [] (by simp;omega)
 simp only[List.nil_append,List.length_nil] at this
 rw[this]
theorem ug (es:List PV) (n:Nat):oa n (Fb es)=some (Fb es):=by
 have:Oa (AV.cut n deep) (es.map AV.pv)=some (es.map AV.pv):=by
  refine Ck ?_
  intro v hv
  obtain⟨e,_,rfl⟩:=List.mem_map.1 hv
  exact Ga
 simp only[oa,this,Option.map_some]
def Rs (l:List (Int×Int)) (i:Nat):Int:=match i with
 |0=> -2
 |k+1=>match l[k]? with | some p=>p.2 | none=> -2
abbrev Ky (v:PV) (i:Int):Tr:=(Tr.lf.set 3 (.pv (i64 i))).set 0 (.pv v)
theorem Jw {v:PV} {l:List (Int×Int)} (hv:Ai 2 v (Md l)) (hw:l.length * 16≤140737488355328):Lf [v]=some (.bool (Ma 255 (-2) l)):=by
 have hloop:Sd (fun r=>∃ E,(r=(.exit 0,⟨E,[]⟩)∧Ma 255 (-2) l=true)∨(r=(.ret,⟨E,[]⟩)∧E.get 2= .pv (.bool false)∧Ma 255 (-2) l=false))
  (mb (ga (pa (Ba (fun _=>none) 8) Mb) (na 0 [0,3])) qa ⟨Ky v 0,[]⟩):=by
  refine ya (Kb (g:=ga (pa (Ba (fun _=>none) 8) Mb) (na 0 [0,3]))
   (fun i t=>t=⟨Ky v i,[]⟩∧ -2≤Rs l i∧Rs l i≤255∧Ma 255 (-2) l=Ma 255 (Rs l i) (l.drop i))
   l.length (by unfold qa;omega) _ ⟨rfl,Int.le_refl _,by show (-2:Int)≤255;decide,rfl⟩ ?_ ?_) (fun r h=>h.2)
  ·rintro i t hi ⟨rfl,hlz,hla,hs⟩
   have hl:=hv.lit (i:=i) (by simpa using hi)
   subst hl
   have hd:l.drop i=l[i]::l.drop (i+1):=List.drop_eq_getElem_cons hi
   have hnext:Rs l (i+1)=l[i].2:=by simp[Rs,hi]
   have a1:=zk [] hi
   have hprev:0 < i→∃ a b,Rs l i=b∧IntKind.i64.wrap ((i:Int) - 1)=((i - 1:Nat):Int)∧wa [] 2 (.pv (.lit 2 (Md l))) ((i - 1:Nat):Int)=some (.pv (.rp [i64 a,i64 b] 0)):=by
    intro h0
    have hi1:i - 1 < l.length:=by omega
    refine⟨l[i - 1].1,l[i - 1].2,?_,?_,zk [] hi1⟩
    ·obtain⟨k,rfl⟩:∃ k,i=k+1:=⟨i - 1,by omega⟩
     simp[Rs,show k < l.length by omega]
    ·rw[show (i:Int) - 1=((i - 1:Nat):Int) by omega]
     exact Ca (by omega)
   have e1:decide ((i:Int) < (l.length:Int))=true:=Fa (by omega)
   have t2:=Za hi (by unfold maxLen;omega)
   have ln:=Ai.len (sz:=2) (v:= .lit 2 (Md l)) (es:=Md l) (.inr rfl) []
   have lp:(Md l).length=l.length:=by simp[Md]
   rw[lp] at ln
   rw[hd,Ma] at hs
   have l0:∀ a b:PV,xa [] false 1 (.pv (.rp [a,b] 0))=some (.pv a):=fun a b=>rfl
   have l1:∀ a b:PV,xa [] false 1 (.pv (.rp [a,b] 1))=some (.pv b):=fun a b=>rfl
   have p0:∀ a b:PV,place [] 0 (.pv (.rp [a,b] 0))=some (.pv (.rp [a,b] 0)):=fun a b=>rfl
   have p1:∀ a b:PV,place [] 1 (.pv (.rp [a,b] 0))=some (.pv (.rp [a,b] 1)):=fun a b=>rfl
   generalize l[i]=p at *
   generalize hV:Ma 255 p.2 (l.drop (i+1))=V at *
   generalize Md l=es at *
   generalize hQ:LN _ _ i=Q
   by_cases c1:p.1 < 0
   ·have d1:=Fa c1
    simp -implicitDefEqProofs only[SX,sevalprocAttr,-List.reduceReplicate,Mb,e1,ln,a1,l0,l1,p0,p1,d1,Ky]
    subst hQ
    rw[d1] at hs
    exact⟨_,.inr ⟨rfl,by simp[Tr.aa],by simpa using hs⟩⟩
   have d1:=Ja c1
   by_cases c2:p.1 > p.2
   ·have d2:=Fa c2
    simp -implicitDefEqProofs only[SX,sevalprocAttr,-List.reduceReplicate,Mb,e1,ln,a1,l0,l1,p0,p1,d1,d2,Ky]
    subst hQ
    rw[d2] at hs
    exact⟨_,.inr ⟨rfl,by simp[Tr.aa],by simpa using hs⟩⟩
   have d2:=Ja c2
   by_cases c3:p.2 > 255
   ·have d3:=Fa c3
    simp -implicitDefEqProofs only[SX,sevalprocAttr,-List.reduceReplicate,Mb,e1,ln,a1,l0,l1,p0,p1,d1,d2,d3,Ky]
    subst hQ
    rw[d3] at hs
    exact⟨_,.inr ⟨rfl,by simp[Tr.aa],by simpa using hs⟩⟩
   have d3:=Ja c3
   have hs3:∀ b,decide (p.1 - 1≤Rs l i)=b→Ma 255 (-2) l=(!b&&V):=by
    intro b hb
    rw[hs,d1,d2,d3,hb];simp
   by_cases h0:0 < i
   ·obtain⟨a,b,hb,t3,a2⟩:=hprev h0
    have e0:decide ((i:Int) > 0)=true:=Fa (by omega)
    rw[hb] at hla hlz hs3
    have t5:IntKind.i64.wrap (b+1)=b+1:=Ca (by omega)
    by_cases c4:p.1≤b+1
    ·have d4:=Fa c4
     have hlow:Ma 255 (-2) l=false:=by
      rw[hs3 true (Fa (by omega))];rfl
     simp -implicitDefEqProofs only[SX,sevalprocAttr,-List.reduceReplicate,Mb,e1,ln,a1,l0,l1,p0,p1,d1,d2,d3,e0,t3,t5,a2,d4,Ky]
     subst hQ
     exact⟨_,.inr ⟨rfl,by simp[Tr.aa],hlow⟩⟩
    ·have d4:=Ja c4
     simp -implicitDefEqProofs only[SX,sevalprocAttr,-List.reduceReplicate,Mb,e1,ln,a1,l0,l1,p0,p1,d1,d2,d3,e0,t2,t3,t5,a2,d4,na,za,AV.cut,ta,Ky]
     subst hQ
     refine⟨rfl,by omega,by omega,?_⟩
     rw[hnext,hV,hs3 false (Ja (by omega))];rfl
   ·have e0:decide ((i:Int) > 0)=false:=Ja (by omega)
    have hi0:Rs l i= -2:=by
     have:i=0:=by omega
     subst this;rfl
    simp -implicitDefEqProofs only[SX,sevalprocAttr,-List.reduceReplicate,Mb,e1,ln,a1,l0,l1,p0,p1,d1,d2,d3,e0,t2,na,za,AV.cut,ta,Ky]
    subst hQ
    refine⟨rfl,by omega,by omega,?_⟩
    rw[hnext,hV,hs3 false (Ja (by omega))];rfl
  ·rintro t ⟨rfl,hlz,hla,hs⟩
   rw[List.drop_length,Ma] at hs
   have ln:=hv.len []
   rw[show (Md l).length=l.length by simp[Md]] at ln
   have e1:decide ((l.length:Int) < (l.length:Int))=false:=Ja (by omega)
   generalize hQ:(fun r:Ex×St=>r.1.stop=true∧_)=Q
   simp -implicitDefEqProofs only[SX,sevalprocAttr,-List.reduceReplicate,Mb,e1,ln,Ky]
   subst hQ
   exact⟨rfl,_,.inl ⟨rfl,hs⟩⟩
 apply Xn
 simp -implicitDefEqProofs only[Lf,SX,sevalprocAttr,-List.reduceReplicate,gj,Gb,na,za,AV.cut,ta]
 refine ya hloop ?_
 rintro _ ⟨E,⟨rfl,hb⟩ | ⟨rfl,hE,hb⟩⟩
 ·simp -implicitDefEqProofs only[SX,sevalprocAttr,-List.reduceReplicate,hb]
 ·simp -implicitDefEqProofs only[SX,sevalprocAttr,-List.reduceReplicate,hE,hb]
def Df (f:Nat→Bool):List PV:=(List.range 256).map fun x=> .bool (f x)
theorem Tm (f:Nat→Bool):(Df f).length=256:=by simp[Df]
theorem FM (f:Nat→Bool) {x:Nat} (h:x < 256):(Df f)[x]? =some (.bool (f x)):=by simp[Df,h]
theorem gL (f:Nat→Bool) {x:Nat} (h:x < (Df f).length):(Df f)[x]= .bool (f x):=by
 simp only[Df,List.getElem_map,List.getElem_range]
theorem BU (f:Nat→Bool) {x:Nat} (h:x < 256) (b:Bool):(Df f).set x (.bool b)=Df fun y=>if y=x then b else f y:=by
 apply List.ext_getElem
 ·rw[List.length_set,Tm,Tm]
 ·intro j h1 h2
  rw[List.getElem_set,gL,gL]
  by_cases hj:x=j
  ·subst hj;rw[if_pos rfl,if_pos rfl]
  ·rw[if_neg hj,if_neg (Ne.symm hj)]
theorem Kr {f g:Nat→Bool} (h:∀ x,x < 256→f x=g x):Df f=Df g:=by
 unfold Df
 apply List.map_congr_left
 intro x hx
 rw[h x (by simpa using hx)]
theorem Nz:List.replicate 256 (PV.bool false)=Df fun _=>false:=by
 apply List.ext_getElem
 ·rw[List.length_replicate,Tm]
 ·intro j h1 h2;rw[List.getElem_replicate,gL]
theorem UM (f:Nat→Bool):∀ e∈Df f,(AV.pv e).one=true:=by
 intro e he
 obtain⟨x,_,rfl⟩:=List.mem_map.1 he
 rfl
def Ku (l:List (Int×Int)) (x:Nat):Bool:=l.any fun p=>decide (p.1≤(x:Int))&&decide ((x:Int)≤p.2)
theorem Pt {l:List (Int×Int)} {x:Nat}:Ku l x=true↔jj (x:Int) l:=by
 unfold Ku jj;simp
abbrev iM (v:PV) (i y:Int):Tr:=((((Tr.lf.set 5 (.pv (i64 y))).set 4 (.pv (i64 i))).set 3 (.ptr 1 0)).set 2 (.ptr 0 0)).set 0 (.pv v)
abbrev BA (v:PV) (i:Int):Tr:=(((Tr.lf.set 4 (.pv (i64 i))).set 3 (.ptr 1 0)).set 2 (.ptr 0 0)).set 0 (.pv v)
theorem cE (call:Wa) {v:PV} {l:List (Int×Int)} (hv:Ai 2 v (Md l)) {i:Nat} (hi:i < l.length) (hp:0≤l[i].1∧l[i].1≤l[i].2∧l[i].2≤255) (Z:List PV):
 Sd (fun r=>∃ E,r=(.exit 2,⟨E,[Fb Z,Fb (Df (Ku (l.take (i+1))))]⟩)∧E.get 0= .pv v∧E.get 2= .ptr 0 0∧E.get 3= .ptr 1 0∧E.get 4= .pv (i64 i))
  (mb (ga (pa call ee) (na 2 [0,2,3,4,5])) qa ⟨iM v i l[i].1,[Fb Z,Fb (Df (Ku (l.take i)))]⟩):=by
 have hl:=hv.lit (i:=i) (by simpa using hi)
 subst hl
 have a1:=fun A=>zk A hi
 have htk:∀ x,Ku (l.take (i+1)) x=(Ku (l.take i) x||(decide (l[i].1≤(x:Int))&&decide ((x:Int)≤l[i].2))):=by
  intro x
  have:l.take (i+1)=l.take i++[l[i]]:=by simp
  rw[this];simp only[Ku,List.any_append,List.any_cons,List.any_nil,Bool.or_false]
 have l1:∀ (A:List ba) (a b:PV),xa A false 1 (.pv (.rp [a,b] 1))=some (.pv b):=fun A a b=>rfl
 have p1:∀ (A:List ba) (a b:PV),place A 1 (.pv (.rp [a,b] 0))=some (.pv (.rp [a,b] 1)):=fun A a b=>rfl
 generalize l[i]=p at *
 generalize hes:Md l=es at *
 generalize hf:Ku (l.take i)=f at *
 have hlen:∀ f,(Df f).length=256:=Tm
 refine ya (Kb (g:=ga (pa call ee) (na 2 [0,2,3,4,5]))
  (fun k t=>t=⟨iM (.lit 2 es) i (p.1+k),[Fb Z,Fb (Df fun x=>f x||(decide (p.1≤(x:Int))&&decide ((x:Int) < p.1+k)))]⟩)
  (p.2+1 - p.1).toNat (by unfold qa;omega) _ ?_ ?_ ?_) (fun r h=>h.2)
 ·have:(Df fun x=>f x||(decide (p.1≤(x:Int))&&decide ((x:Int) < p.1+(0:Nat))))=Df f:=by
   refine Kr fun x hx=> ?_
   have:(decide (p.1≤(x:Int))&&decide ((x:Int) < p.1+(0:Nat)))=false:=by
    rw[Bool.and_eq_false_iff]
    by_cases h:p.1≤(x:Int)
    ·exact .inr (Ja (by omega))
    ·exact .inl (Ja h)
   rw[this,Bool.or_false]
  rw[this,show p.1+((0:Nat):Int)=p.1 by omega]
 ·rintro k t hk rfl
  obtain⟨y,hy⟩:∃ y:Nat,p.1+(k:Int)=y:=⟨(p.1+k).toNat,by omega⟩
  have hy256:y < 256:=by omega
  have e1:decide ((y:Int)≤p.2)=true:=Fa (by omega)
  have hq:Ea (y:Int) 256:=by unfold Ea;omega
  have t1:((y:Int)).toNat=y:=by simp
  have m1:y * 1=y:=by omega
  have z1:0+y=y:=by omega
  have t2:IntKind.i64.wrap ((y:Int)+1)=((y+1:Nat):Int):=Ca (by omega)
  rw[hy]
  have hnew:(Df fun x=>f x||(decide (p.1≤(x:Int))&&decide ((x:Int) < (y:Int)))).set y (.bool true)=Df fun x=>f x||(decide (p.1≤(x:Int))&&decide ((x:Int) < p.1+(k+1:Nat))):=by
   rw[BU _ hy256]
   refine Kr fun x hx=> ?_
   by_cases hxy:x=y
   ·have h1:p.1≤(x:Int):=by omega
    have h2:(x:Int) < p.1+(k+1:Nat):=by omega
    rw[if_pos hxy,Fa h1,Fa h2];simp
   ·have:((x:Int) < (y:Int))=((x:Int) < p.1+(k+1:Nat)):=by apply propext;omega
    rw[if_neg hxy];simp only[this]
  have hl1:=hlen fun x=>f x||(decide (p.1≤(x:Int))&&decide ((x:Int) < (y:Int)))
  generalize hT:(Df fun x=>f x||(decide (p.1≤(x:Int))&&decide ((x:Int) < (y:Int))))=T at *
  have pl:=Li (A:=[Fb Z,Fb T]) (id:=1) (es:=T) rfl 0 y
  have st:=aw (A:=[Fb Z,Fb T]) (id:=1) (es:=T) rfl (k:=y) (by omega) (e:= .bool true) rfl rfl
  rw[hnew] at st
  rw[z1] at pl
  have st2:([Fb Z,Fb T]:List ba).set 1 (Fb (Df fun x=>f x||(decide (p.1≤(x:Int))&&decide ((x:Int) < p.1+(k+1:Nat)))))=[Fb Z,Fb (Df fun x=>f x||(decide (p.1≤(x:Int))&&decide ((x:Int) < p.1+(k+1:Nat))))]:=rfl
  rw[st2] at st
  have c1:=ug Z 2
  have c2:=ug (Df fun x=>f x||(decide (p.1≤(x:Int))&&decide ((x:Int) < p.1+(k+1:Nat)))) 2
  have hfin:p.1+((k+1:Nat):Int)=((y+1:Nat):Int):=by omega
  generalize hT':(Df fun x=>f x||(decide (p.1≤(x:Int))&&decide ((x:Int) < p.1+(k+1:Nat))))=T' at *
  have hcl:Oa (oa 2) [Fb Z,Fb T']=some [Fb Z,Fb T']:=by simp[Oa,c1,c2]
  have htk2:([Fb Z,Fb T']:List ba).take 2=[Fb Z,Fb T']:=rfl
  generalize Fb Z=oz at *
  generalize Fb T=ot at *
  generalize hot:Fb T'=ot' at *
  have d0:(0 < 2)=True:=by simp
  have d1:(1 < 2)=True:=by simp
  generalize hQ:LN _ _ k=Q
  simp -implicitDefEqProofs only[SX,sevalprocAttr,-List.reduceReplicate,ee,e1,a1,l1,p1,eq_true hq,t1,m1,pl,st,t2,hcl,htk2,d0,d1,na,za,AV.cut,ta,iM]
  subst hQ
  show (_:St)=_
  rw[hT',hot,hfin]
 ·rintro t rfl
  have e1:decide (p.1+((p.2+1 - p.1).toNat:Int)≤p.2)=false:=Ja (by omega)
  have hfin:(Df fun x=>f x||(decide (p.1≤(x:Int))&&decide ((x:Int) < p.1+((p.2+1 - p.1).toNat:Int))))=Df (Ku (l.take (i+1))):=by
   refine Kr fun x hx=> ?_
   have:((x:Int) < p.1+((p.2+1 - p.1).toNat:Int))=((x:Int)≤p.2):=by apply propext;omega
   rw[htk];simp only[this]
  rw[hfin]
  generalize Fb (Df (Ku (l.take (i+1))))=ot
  generalize Fb Z=oz
  generalize hQ:(fun r:Ex×St=>r.1.stop=true∧_)=Q
  simp -implicitDefEqProofs only[SX,sevalprocAttr,-List.reduceReplicate,ee,e1,a1,l1,p1,iM]
  subst hQ
  exact⟨rfl,_,rfl,by simp[Tr.aa],by simp[Tr.aa],by simp[Tr.aa],by simp[Tr.aa]⟩
theorem dm {l:List (Int×Int)} {last:Int} (h:Ma 255 last l=true):∀ p∈l,0≤p.1∧p.1≤p.2∧p.2≤255:=by
 induction l generalizing last with
 |nil=>intro p hp;cases hp
 |cons q l ih=>
  simp only[Ma,Bool.and_eq_true,Bool.not_eq_true',Bool.or_eq_false_iff,decide_eq_false_iff_not] at h
  intro p hp
  rcases List.mem_cons.1 hp with rfl | hp
  ·omega
  ·exact ih h.2 p hp
def Bi (l:List (Int×Int)) (x:Nat):Bool:=Ma 255 (-2) l&&Ku l x
theorem Hv {v:PV} {l:List (Int×Int)} (hv:Ai 2 v (Md l)) (hw:l.length * 16≤140737488355328):pd [v]=some (.agg (Df (Bi l))):=by
 have hvr:=Jw hv hw
 have hz:([]++[ba.box (List.map AV.pv (List.replicate 256 (PV.bool false)))]++[ba.box (List.map AV.pv (List.replicate 256 (PV.bool false)))]:List ba)=[Fb (Df fun _=>false),Fb (Df fun _=>false)]:=by rw[Nz];rfl
 have hz1:ba.box (List.map AV.pv (List.replicate 256 (PV.bool false)))=Fb (Df fun _=>false):=by rw[Nz]
 have hone:∀ f,xa [Fb (Df fun _=>false),Fb (Df f)] true 256 (.ptr 1 0)=some (.pv (.agg (Df f))):=fun f=>Yk (id:=1) rfl (Tm f)
 have hst:∀ f,Ka [Fb (Df fun _=>false),Fb (Df f)] 256 (.ptr 0 0) (.pv (.agg (Df f)))=some [Fb (Df f),Fb (Df f)]:=fun f=>Ao (id:=0) rfl (Tm _) (Tm f) (UM f)
 have hl2:∀ f,xa [Fb (Df f),Fb (Df f)] true 256 (.ptr 0 0)=some (.pv (.agg (Df f))):=fun f=>Yk (id:=0) rfl (Tm f)
 by_cases Aa:Ma 255 (-2) l=true
 ·rw[Aa] at hvr
  have hfin:Df (Bi l)=Df (Ku l):=Kr fun x _=>by rw[Bi,Aa,Bool.true_and]
  rw[hfin]
  have hpc:=dm Aa
  have hloop:Sd (fun r=>∃ E,r=(.exit 0,⟨E,[Fb (Df fun _=>false),Fb (Df (Ku l))]⟩)∧E.get 2= .ptr 0 0∧E.get 3= .ptr 1 0)
   (mb (ga (pa (Ba (fun _=>none) 8) ie) (na 2 [0,2,3,4])) qa ⟨BA v 0,[Fb (Df fun _=>false),Fb (Df fun _=>false)]⟩):=by
   refine ya (Kb (g:=ga (pa (Ba (fun _=>none) 8) ie) (na 2 [0,2,3,4]))
    (fun i t=>t=⟨BA v i,[Fb (Df fun _=>false),Fb (Df (Ku (l.take i)))]⟩)
    l.length (by unfold qa;omega) _ rfl ?_ ?_) (fun r h=>h.2)
   ·rintro i t hi rfl
    have hin:=cE (Ba (fun _=>none) 8) hv hi (hpc _ (List.getElem_mem hi)) (Df fun _=>false)
    have a1:=fun A=>zk A hi
    have ln:=hv.len
    have hl:=hv.lit (i:=i) (by simpa using hi)
    subst hl
    have lp:(Md l).length=l.length:=by simp[Md]
    simp only[lp] at ln
    have l0:∀ (A:List ba) (a b:PV),xa A false 1 (.pv (.rp [a,b] 0))=some (.pv a):=fun A a b=>rfl
    have p0:∀ (A:List ba) (a b:PV),place A 0 (.pv (.rp [a,b] 0))=some (.pv (.rp [a,b] 0)):=fun A a b=>rfl
    have e1:decide ((i:Int) < (l.length:Int))=true:=Fa (by omega)
    have t2:=Za hi (by unfold maxLen;omega)
    have hcl:∀ f g,Oa (oa 2) [Fb (Df f),Fb (Df g)]=some [Fb (Df f),Fb (Df g)]:=fun f g=>by
     have c1:=ug (Df f) 2
     have c2:=ug (Df g) 2
     simp only[Oa,c1,c2,Option.bind_some,Option.map_some]
    have hcl1:=hcl (fun _=>false) (Ku (l.take i))
    have hcl2:=hcl (fun _=>false) (Ku (l.take (i+1)))
    have htk2:∀ a b:ba,([a,b]:List ba).take 2=[a,b]:=fun a b=>rfl
    generalize l[i]=p at *
    generalize hes:Md l=es at *
    have hI:⟨BA (.lit 2 es) (i+1:Nat),[Fb (Df fun _=>false),Fb (Df (Ku (l.take (i+1))))]⟩=(⟨BA (.lit 2 es) (i+1:Nat),[Fb (Df fun _=>false),Fb (Df (Ku (l.take (i+1))))]⟩:St):=rfl
    have hLN:∀ s:St,s=⟨BA (.lit 2 es) (i+1:Nat),[Fb (Df fun _=>false),Fb (Df (Ku (l.take (i+1))))]⟩→LN (fun i t=>t=⟨BA (.lit 2 es) i,[Fb (Df fun _=>false),Fb (Df (Ku (l.take i)))]⟩) (fun r=>∃ E,r=(.exit 0,⟨E,[Fb (Df fun _=>false),Fb (Df (Ku l))]⟩)∧E.get 2= .ptr 0 0∧E.get 3= .ptr 1 0) i (.norm,s):=fun s h=>h
    generalize Fb (Df fun _=>false)=oz at *
    generalize Fb (Df (Ku (l.take i)))=ot at *
    generalize Fb (Df (Ku (l.take (i+1))))=ot' at *
    have d0:(0 < 2)=True:=by simp
    have d1:(1 < 2)=True:=by simp
    generalize hQ:LN _ _ i=Q at hLN ⊢
    simp -implicitDefEqProofs only[SX,sevalprocAttr,-List.reduceReplicate,ie,Gb,e1,ln,a1,l0,p0,hcl1,htk2,d0,d1,na,za,AV.cut,ta,BA]
    refine ya hin ?_
    rintro r ⟨E,rfl,g0,g2,g3,g4⟩
    simp -implicitDefEqProofs only[SX,sevalprocAttr,-List.reduceReplicate,g0,g2,g3,g4,t2,hcl2,htk2,d0,d1,na,za,AV.cut,ta]
    exact hLN _ rfl
   ·rintro t rfl
    rw[List.take_length]
    have ln:=hv.len
    simp only[show (Md l).length=l.length by simp[Md]] at ln
    have e1:decide ((l.length:Int) < (l.length:Int))=false:=Ja (by omega)
    generalize Fb (Df (Ku l))=ot
    generalize Fb (Df fun _=>false)=oz
    generalize hQ:(fun r:Ex×St=>r.1.stop=true∧_)=Q
    simp -implicitDefEqProofs only[SX,sevalprocAttr,-List.reduceReplicate,ie,e1,ln,BA]
    subst hQ
    exact⟨rfl,_,rfl,by simp[Tr.aa],by simp[Tr.aa]⟩
  have hcl:Oa (oa 2) [Fb (Df fun _=>false),Fb (Df fun _=>false)]=some [Fb (Df fun _=>false),Fb (Df fun _=>false)]:=by
   have c1:=ug (Df fun _=>false) 2
   simp only[Oa,c1,Option.bind_some,Option.map_some]
  have htk2:∀ a b:ba,([a,b]:List ba).take 2=[a,b]:=fun a b=>rfl
  have hst1:=hst (Ku l)
  have hone1:=hone (Ku l)
  have hl21:=hl2 (Ku l)
  have d0:(0 < 2)=True:=by simp
  have d1:(1 < 2)=True:=by simp
  generalize hzs:List.replicate 256 (PV.bool false)=zs at *
  generalize Fb (Df fun _=>false)=oz at *
  generalize Fb (Df (Ku l))=ot at *
  generalize Df (Ku l)=T at *
  apply Xn
  simp -implicitDefEqProofs only[pd,SX,sevalprocAttr,-List.reduceReplicate,vg,hzs,hz1,Gb,hvr,hcl,htk2,d0,d1,na,za,AV.cut,ta]
  refine ya hloop ?_
  rintro r ⟨E,rfl,g2,g3⟩
  simp -implicitDefEqProofs only[SX,sevalprocAttr,-List.reduceReplicate,g2,g3,hone1,hst1,hl21]
 ·have hok':Ma 255 (-2) l=false:=by simpa using Aa
  rw[hok'] at hvr
  have hfin:Df (Bi l)=Df fun _=>false:=Kr fun x _=>by rw[Bi,hok',Bool.false_and]
  rw[hfin]
  have hst1:=hst fun _=>false
  have hone1:=hone fun _=>false
  have hl21:=hl2 fun _=>false
  generalize hzs:List.replicate 256 (PV.bool false)=zs at *
  generalize Fb (Df fun _=>false)=oz at *
  generalize Df (fun _=>false)=T at *
  apply Xn
  simp -implicitDefEqProofs only[pd,SX,sevalprocAttr,-List.reduceReplicate,vg,hzs,hz1,hvr,hone1,hst1,hl21]
end Go.AM.B1
namespace Go.AM.B1
open Go.AM Go.AM.So
def Bp (f:Nat→Bool) (n:Nat):Nat:=(List.range n).countP f
theorem RN (f:Nat→Bool):Bp f 0=0:=rfl
theorem Ks (f:Nat→Bool) (n:Nat):Bp f (n+1)=Bp f n+if f n then 1 else 0:=by
 unfold Bp
 rw[List.range_succ,List.countP_append]
 simp[List.countP_cons]
theorem DU (f:Nat→Bool) (n:Nat):Bp f n≤n:=by
 have:=List.countP_le_length (p:=f) (l:=List.range n)
 simpa[Bp] using this
theorem aV {f g h:Nat→Bool} (n:Nat) (hf:∀ x,x < n→f x=(g x||h x)) (hd:∀ x,x < n→g x=true→h x=true→False):Bp f n=Bp g n+Bp h n:=by
 induction n with
 |zero=>rfl
 |succ n ih=>
  rw[Ks,Ks,Ks,ih (fun x hx=>hf x (by omega)) (fun x hx=>hd x (by omega)),hf n (by omega)]
  have:=hd n (by omega)
  cases h1:g n <;> cases h2:h n <;> simp_all <;> omega
theorem bV (a b:Nat) (n:Nat):Bp (fun x=>decide (a≤x)&&decide (x < b)) n=min n b - min a (min n b):=by
 induction n with
 |zero=>simp[RN]
 |succ n ih=>
  rw[Ks,ih]
  by_cases h:a≤n∧n < b
  ·rw[if_pos (by simp[h])];omega
  ·rw[if_neg (by simpa using fun h1=>Nat.le_of_not_lt fun h2=>h ⟨h1,h2⟩)];omega
theorem iF:∀ (l:List (Int×Int)) (last n:Int),Ma 255 last l=true→Sc n l=n+Bp (Ku l) 256
 | [],_,n,_=>by
   have:Bp (Ku []) 256=0:=by
    unfold Bp;rw[List.countP_eq_zero];intro x _;simp[Ku]
   rw[this];simp[Sc]
 |p::l,last,n,h=>by
  have hp:=dm h p (by simp)
  have h2:=h
  simp only[Ma,Bool.and_eq_true] at h2
  rw[Sc,iF l p.2 _ h2.2]
  have hor:Bp (Ku (p::l)) 256=Bp (fun x=>decide (p.1.toNat≤x)&&decide (x < (p.2+1).toNat)) 256+Bp (Ku l) 256:=by
   apply aV
   ·intro x _
    simp only[Ku,List.any_cons]
    congr 1
    congr 1 <;> (rw[decide_eq_decide];omega)
   ·intro x _ h3 h4
    have:=Lm h2.2 (Pt.1 h4)
    simp at h3;omega
  have hiv:=bV p.1.toNat (p.2+1).toNat 256
  rw[hor,hiv];omega
def eM (l:List (Int×Int)):Nat:=Bp (Bi l) 256
theorem oS {l:List (Int×Int)} (h:Ma 255 (-2) l=true):(eM l:Int)=Sc 0 l:=by
 rw[iF l _ _ h]
 have:Bi l=Ku l:=by funext x;rw[Bi,h,Bool.true_and]
 rw[eM,this];omega
abbrev nJ (x n:Int):Tr:=((Tr.lf.set 5 (.pv (i64 x))).set 4 (.pv (i64 n))).set 3 (.ptr 0 0)
theorem WG {v:PV} {l:List (Int×Int)} (hv:Ai 2 v (Md l)) (hw:l.length * 16≤140737488355328):Ih [v]=some (i64 (eM l)):=by
 have hm:=Hv hv hw
 unfold eM
 generalize hf:Bi l=f at *
 have hloop:Sd (fun r=>∃ E H,r=(.exit 0,⟨E,H⟩)∧E.get 4= .pv (i64 (Bp f 256)))
  (mb (ga (pa (Ba (fun _=>none) 8) Wd) (na 1 [3,4,5])) qa ⟨nJ 0 0,[Fb (Df f)]⟩):=by
  refine ya (Kb (g:=ga (pa (Ba (fun _=>none) 8) Wd) (na 1 [3,4,5]))
   (fun x t=>t=⟨nJ x (Bp f x),[Fb (Df f)]⟩)
   256 (by unfold qa;omega) _ rfl ?_ ?_) (fun r h=>h.2)
  ·rintro x t hx rfl
   have e1:decide ((x:Int)≤255)=true:=Fa (by omega)
   have hq:Ea (x:Int) 256:=by unfold Ea;omega
   have t1:((x:Int)).toNat=x:=by simp
   have m1:x * 1=x:=by omega
   have z1:0+x=x:=by omega
   have t2:IntKind.i64.wrap ((x:Int)+1)=((x+1:Nat):Int):=Ca (by omega)
   have hle:=DU f x
   have t3:IntKind.i64.wrap ((Bp f x:Int)+1)=(Bp f x:Int)+1:=Ca (by omega)
   have pl:=Li (A:=[Fb (Df f)]) (id:=0) (es:=Df f) rfl 0 x
   rw[z1] at pl
   have ld:=ID (A:=[Fb (Df f)]) (id:=0) (es:=Df f) rfl (FM f hx)
   have hcl:Oa (oa 1) [Fb (Df f)]=some [Fb (Df f)]:=by simp only[Oa,ug,Option.bind_some,Option.map_some]
   have htk:([Fb (Df f)]:List ba).take 1=[Fb (Df f)]:=rfl
   have d0:(0 < 1)=True:=by simp
   have hs:=Ks f x
   generalize hO:Fb (Df f)=O at *
   generalize hQ:LN _ _ x=Q
   cases hfx:f x with
   |true=>
    rw[hfx] at hs ld
    simp -implicitDefEqProofs only[SX,sevalprocAttr,-List.reduceReplicate,Wd,e1,eq_true hq,t1,m1,pl,ld,t2,t3,hcl,htk,d0,na,za,AV.cut,ta,nJ]
    subst hQ
    show (_:St)=_
    rw[hs];rfl
   |false=>
    rw[hfx] at hs ld
    simp -implicitDefEqProofs only[SX,sevalprocAttr,-List.reduceReplicate,Wd,e1,eq_true hq,t1,m1,pl,ld,t2,hcl,htk,d0,na,za,AV.cut,ta,nJ]
    subst hQ
    show (_:St)=_
    rw[hs];rfl
  ·rintro t rfl
   have e1:decide (((256:Nat):Int)≤255)=false:=Ja (by omega)
   generalize Bp f 256=c
   generalize hQ:(fun r:Ex×St=>r.1.stop=true∧_)=Q
   simp -implicitDefEqProofs only[SX,sevalprocAttr,-List.reduceReplicate,Wd,e1,nJ]
   subst hQ
   exact⟨rfl,_,_,rfl,by simp[Tr.aa]⟩
 have hz1:ba.box (List.map AV.pv (List.replicate 256 (PV.bool false)))=Fb (Df fun _=>false):=by rw[Nz]
 have st:Ka [Fb (Df fun _=>false)] 256 (.ptr 0 0) (.pv (.agg (Df f)))=some [Fb (Df f)]:=Ao (id:=0) rfl (Tm _) (Tm f) (UM f)
 have hcl:Oa (oa 1) [Fb (Df f)]=some [Fb (Df f)]:=by simp only[Oa,ug,Option.bind_some,Option.map_some]
 have htk:([Fb (Df f)]:List ba).take 1=[Fb (Df f)]:=rfl
 have d0:(0 < 1)=True:=by simp
 generalize Bp f 256=c at *
 generalize hzs:List.replicate 256 (PV.bool false)=zs at *
 generalize Fb (Df fun _=>false)=oz at *
 generalize Fb (Df f)=ot at *
 generalize Df f=T at *
 apply Xn
 simp -implicitDefEqProofs only[Ih,SX,sevalprocAttr,-List.reduceReplicate,Ej,hzs,hz1,Gb,hm,st,hcl,htk,d0,na,za,AV.cut,ta]
 refine ya hloop ?_
 rintro r ⟨E,H,rfl,hE⟩
 simp -implicitDefEqProofs only[SX,sevalprocAttr,-List.reduceReplicate,hE]
theorem RA {v:PV} {l:List (Int×Int)} (hv:Ai 2 v (Md l)) (hw:l.length * 16≤140737488355328) (x:Int):
 xe [v,i64 x]=some (.bool (decide (0≤x)&&decide (x≤255)&&Bi l x.toNat)):=by
 have hm:=Hv hv hw
 generalize hf:Bi l=f at *
 by_cases h0:0≤x
 ·have e0:decide (x≥0)=true:=Fa (by omega)
  rw[show decide (0≤x)=true from Fa h0]
  by_cases h1:x≤255
  ·have e1:decide (x≤255)=true:=Fa h1
   have hq:Ea x 256:=by unfold Ea;omega
   have m1:x.toNat * 1=x.toNat:=by omega
   have hg:=FM f (x:=x.toNat) (by omega)
   have hp:gl false 1 (Df f) x.toNat=some (.bool (f x.toNat)):=by unfold gl;exact hg
   rw[e1]
   generalize f x.toNat=b at *
   generalize Df f=T at *
   simp -implicitDefEqProofs only[xe,SX,sevalprocAttr,-List.reduceReplicate,Bg,e0,e1,hm,eq_true hq,m1,hp,Bool.true_and]
  ·have e1:decide (x≤255)=false:=Ja h1
   simp -implicitDefEqProofs only[xe,SX,sevalprocAttr,-List.reduceReplicate,Bg,e0,e1,Bool.true_and,Bool.false_and]
 ·have e0:decide (x≥0)=false:=Ja (by omega)
  rw[show decide (0≤x)=false from Ja h0]
  simp -implicitDefEqProofs only[xe,SX,sevalprocAttr,-List.reduceReplicate,Bg,e0,Bool.false_and]
abbrev TI (row:List PV) (i n:Int):Tr:=((Tr.lf.set 4 (.pv (i64 i))).set 3 (.pv (i64 n))).set 1 (.pv (.rp row 0))
theorem Wm {e:PV} {s:ic} {P:PV} {ps:List PV} (h:qf e s P ps) (Aa:∀ l∈s.parts,Pd l):Od [e]=some (i64 (Vg 1 s.parts)):=by
 obtain⟨rfl,hP⟩:=h
 have hb:=vl s.parts 1 Aa (by omega) (by omega)
 have hsz:=hP.sz
 have ln:=hP.Qb
 have q0:∀ H (x y:PV),place H 0 (.pv (.rp [x,y] 0))=some (.pv (.rp [x,y] 0)):=fun H x y=>rfl
 have r0:∀ H (x y:PV),xa H false 1 (.pv (.rp [x,y] 0))=some (.pv x):=fun H x y=>rfl
 have hloop:Sd (fun r=>∃ E H,r=(.exit 0,⟨E,H⟩)∧E.get 3= .pv (i64 (Vg 1 s.parts)))
  (mb (ga (pa (Ba (fun _=>none) 8) Ld) (na 0 [1,3,4])) qa ⟨TI [P,i64 s.first] 0 1,[]⟩):=by
  refine ya (Kb (g:=ga (pa (Ba (fun _=>none) 8) Ld) (na 0 [1,3,4]))
   (fun i t=>∃ n,t=⟨TI [P,i64 s.first] i n,[]⟩∧1≤n∧n≤1073741825∧Vg 1 s.parts=Vg n (s.parts.drop i))
   s.parts.length (by unfold qa;unfold maxLen at hsz;omega) _ ⟨1,rfl,by omega,by omega,rfl⟩ ?_ ?_) (fun r h=>h.2)
  ·rintro i t hi ⟨n,rfl,h1,h2,hs⟩
   obtain⟨v,hv,hpt,a1⟩:=hP.Td hi []
   have hd:s.parts.drop i=s.parts[i]::s.parts.drop (i+1):=List.drop_eq_getElem_cons hi
   have hpo:=Aa s.parts[i] (List.getElem_mem hi)
   have hss:=WG hpt.is hpt.sz
   rw[oS hpo.2] at hss
   have hsb:=mi hpo
   rw[hd,Vg] at hs
   generalize s.parts[i]=l at *
   have hm:=cw h1 h2 hsb.1 hsb.2
   have e1:decide ((i:Int) < (s.parts.length:Int))=true:=Fa (by omega)
   have t2:=Za hi hsz
   have t3:IntKind.i64.wrap (n * Sc 0 l)=n * Sc 0 l:=Ca (by omega)
   have a2:∀ H (v:PV),xa H false 1 (.pv (.rp [v] 0))=some (.pv v):=fun H v=>rfl
   generalize hQ:LN _ _ i=Q
   by_cases hg:n * Sc 0 l > 1073741824
   ·have d1:=Fa hg
    simp -implicitDefEqProofs only[SX,sevalprocAttr,-List.reduceReplicate,Ld,e1,ln,q0,r0,t2,t3,a1,a2,hss,d1,na,za,AV.cut,ta,TI]
    subst hQ
    refine⟨1073741825,rfl,by omega,by omega,?_⟩
    rw[hs];congr 1;split <;> omega
   ·have d1:=Ja hg
    simp -implicitDefEqProofs only[SX,sevalprocAttr,-List.reduceReplicate,Ld,e1,ln,q0,r0,t2,t3,a1,a2,hss,d1,na,za,AV.cut,ta,TI]
    subst hQ
    refine⟨n * Sc 0 l,rfl,by omega,by omega,?_⟩
    rw[hs];congr 1;split <;> omega
  ·rintro t ⟨n,rfl,h1,h2,hs⟩
   rw[List.drop_length,Vg] at hs
   have e1:decide ((s.parts.length:Int) < (s.parts.length:Int))=false:=Ja (by omega)
   generalize hQ:(fun r:Ex×St=>r.1.stop=true∧_)=Q
   simp -implicitDefEqProofs only[SX,sevalprocAttr,-List.reduceReplicate,Ld,e1,ln,q0,r0,TI]
   subst hQ
   exact⟨rfl,_,_,rfl,by simp[Tr.aa,hs]⟩
 have hP1:(AV.pv P).one=true:=by rcases hP.is with⟨h,_⟩ | h <;> rw[h] <;> rfl
 generalize Vg 1 s.parts=n at *
 apply Xn
 simp -implicitDefEqProofs only[Od,SX,sevalprocAttr,-List.reduceReplicate,Ui,hP1,Gb,na,za,AV.cut,ta]
 refine ya hloop ?_
 rintro r ⟨E,H,rfl,hE⟩
 simp -implicitDefEqProofs only[SX,sevalprocAttr,-List.reduceReplicate,hE]
end Go.AM.B1
namespace Go.AM.B1
open Go.AM Go.AM.So
theorem Kc (H:List ba) (x y:PV):place H 0 (.pv (.rp [x,y] 0))=some (.pv (.rp [x,y] 0)):=rfl
theorem ui (H:List ba) (x y:PV):place H 1 (.pv (.rp [x,y] 0))=some (.pv (.rp [x,y] 1)):=rfl
theorem wc (H:List ba) (x y:PV):xa H false 1 (.pv (.rp [x,y] 0))=some (.pv x):=rfl
theorem Ig (H:List ba) (x y:PV):xa H false 1 (.pv (.rp [x,y] 1))=some (.pv y):=rfl
theorem Cf (H:List ba) (x y:PV):xa H true 2 (.pv (.rp [x,y] 0))=some (.pv (.agg [x,y])):=rfl
theorem Xa (H:List ba) (x:PV):xa H false 1 (.pv (.rp [x] 0))=some (.pv x):=rfl
theorem Zb (H:List ba) (x:PV):place H 0 (.pv (.rp [x] 0))=some (.pv (.rp [x] 0)):=rfl
theorem Je (H:List ba) (x:PV):xa H true 1 (.pv (.rp [x] 0))=some (.pv (.agg [x])):=rfl
abbrev VF (row:List PV) (i:Int):Tr:=(Tr.lf.set 3 (.pv (i64 i))).set 1 (.pv (.rp row 0))
theorem Kp {e:PV} {s:ic} {P:PV} {ps:List PV} (h:qf e s P ps):∃ b,Nb [e]=some (.bool b)∧(b=true↔Be s):=by
 have hh:=h
 obtain⟨rfl,hP⟩:=h
 have hsz:=hP.sz
 have ln:=hP.Qb
 have hP1:(AV.pv P).one=true:=by rcases hP.is with⟨h,_⟩ | h <;> rw[h] <;> rfl
 by_cases c1:(s.parts.length:Int) < 1
 ·have d1:=Fa c1
  refine⟨false,?_,by simp;intro h;have:=h.lo;omega⟩
  simp -implicitDefEqProofs only[Nb,SX,sevalprocAttr,yb,hP1,Kc,ui,wc,Ig,ln,d1]
 have d1:=Ja c1
 by_cases c2:(s.parts.length:Int) > 8
 ·have d2:=Fa c2
  refine⟨false,?_,by simp;intro h;have:=h.hi;omega⟩
  simp -implicitDefEqProofs only[Nb,SX,sevalprocAttr,yb,hP1,Kc,ui,wc,Ig,ln,d1,d2]
 have d2:=Ja c2
 by_cases c3:s.first < 0
 ·have d3:=Fa c3
  refine⟨false,?_,by simp;intro h;have:=h.f0;omega⟩
  simp -implicitDefEqProofs only[Nb,SX,sevalprocAttr,yb,hP1,Kc,ui,wc,Ig,ln,d1,d2,d3]
 have d3:=Ja c3
 by_cases c4:s.first > 1073741823
 ·have d4:=Fa c4
  refine⟨false,?_,by simp;intro h;have:=h.f1;omega⟩
  simp -implicitDefEqProofs only[Nb,SX,sevalprocAttr,yb,hP1,Kc,ui,wc,Ig,ln,d1,d2,d3,d4]
 have d4:=Ja c4
 have hloop:Sd (fun r=>∃ E,(r=(.exit 0,⟨E,[]⟩)∧E.get 1= .pv (.rp [P,i64 s.first] 0)∧∀ l∈s.parts,Pd l)∨(r=(.ret,⟨E,[]⟩)∧E.get 2= .pv (.bool false)∧¬∀ l∈s.parts,Pd l))
  (mb (ga (pa (Ba (fun _=>none) 8) dc) (na 0 [1,3])) qa ⟨VF [P,i64 s.first] 0,[]⟩):=by
  refine ya (Kb (g:=ga (pa (Ba (fun _=>none) 8) dc) (na 0 [1,3]))
   (fun i t=>t=⟨VF [P,i64 s.first] i,[]⟩∧∀ l∈s.parts.take i,Pd l)
   s.parts.length (by unfold qa;unfold maxLen at hsz;omega) _ ⟨rfl,by simp⟩ ?_ ?_) (fun r h=>h.2)
  ·rintro i t hi ⟨rfl,hs⟩
   obtain⟨v,hv,hpt,a1⟩:=hP.Td hi []
   have hmem:=List.getElem_mem hi
   have hnext:Pd s.parts[i]→∀ l∈s.parts.take (i+1),Pd l:=by
    intro h l hl
    have:s.parts.take (i+1)=s.parts.take i++[s.parts[i]]:=by simp
    rw[this] at hl
    rcases List.mem_append.1 hl with h1 | h1
    ·exact hs l h1
    ·simp at h1;subst h1;exact h
   have hvl:=Jw hpt.is hpt.sz
   have lv:=hpt.is.len
   simp only[Md,List.length_map] at lv
   generalize s.parts[i]=l at *
   have e1:decide ((i:Int) < (s.parts.length:Int))=true:=Fa (by omega)
   have t2:=Za hi hsz
   generalize hQ:LN _ _ i=Q
   by_cases h0:l=[]
   ·have e0:((l.length:Int)==0)=true:=by simp[h0]
    simp -implicitDefEqProofs only[SX,sevalprocAttr,dc,e1,ln,Kc,wc,Xa,a1,lv,e0,VF]
    subst hQ
    exact⟨_,.inr ⟨rfl,by simp[Tr.aa],fun h=>(h _ hmem).1 h0⟩⟩
   ·have e0:((l.length:Int)==0)=false:=by
     have:l.length≠0:=fun e=>h0 (List.eq_nil_of_length_eq_zero e)
     exact Oh (by omega)
    cases hb:Ma 255 (-2) l with
    |true=>
     rw[hb] at hvl
     simp -implicitDefEqProofs only[SX,sevalprocAttr,dc,e1,ln,Kc,wc,Xa,a1,lv,e0,hvl,t2,na,za,AV.cut,ta,VF]
     subst hQ
     exact⟨rfl,hnext ⟨h0,hb⟩⟩
    |false=>
     rw[hb] at hvl
     simp -implicitDefEqProofs only[SX,sevalprocAttr,dc,e1,ln,Kc,wc,Xa,a1,lv,e0,hvl,VF]
     subst hQ
     exact⟨_,.inr ⟨rfl,by simp[Tr.aa],fun h=>by have:=(h _ hmem).2;rw[hb] at this;cases this⟩⟩
  ·rintro t ⟨rfl,hs⟩
   rw[List.take_length] at hs
   have e1:decide ((s.parts.length:Int) < (s.parts.length:Int))=false:=Ja (by omega)
   generalize hQ:(fun r:Ex×St=>r.1.stop=true∧_)=Q
   simp -implicitDefEqProofs only[SX,sevalprocAttr,dc,e1,ln,Kc,wc,VF]
   subst hQ
   exact⟨rfl,_,.inl ⟨rfl,by simp[Tr.aa],hs⟩⟩
 have key:Sd (fun r=>∃ b,r=(.pv (.bool b),([]:List ba))∧(b=true↔Be s)) (mg (Ba (fun _=>none) 8) yb [.pv (.agg [P,i64 s.first])] []):=by
  generalize hQQ:(fun r:AV×List ba=>_)=QQ
  simp -implicitDefEqProofs only[SX,sevalprocAttr,yb,hP1,Kc,ui,wc,Ig,ln,d1,d2,d3,d4,Gb,na,za,AV.cut,ta]
  refine ya hloop ?_
  rintro _ ⟨E,⟨rfl,hE,hb⟩ | ⟨rfl,hE,hb⟩⟩
  ·have hct:=Wm hh hb
   have hbd:=vl s.parts 1 hb (by omega) (by omega)
   have hif:(decide (s.first+Vg 1 s.parts - 1≤1073741823)=true)↔Be s:=by
    rw[decide_eq_true_iff]
    constructor
    ·intro h;exact⟨by omega,by omega,by omega,by omega,hb,h⟩
    ·intro h;exact h.last
   generalize Vg 1 s.parts=n at *
   have t3:IntKind.i64.wrap (s.first+n)=s.first+n:=Ca (by omega)
   have t4:IntKind.i64.wrap (s.first+n - 1)=s.first+n - 1:=Ca (by omega)
   simp -implicitDefEqProofs only[SX,sevalprocAttr,hE,Kc,ui,wc,Ig,Cf,hct,t3,t4]
   subst hQQ
   exact⟨_,rfl,hif⟩
  ·simp -implicitDefEqProofs only[SX,sevalprocAttr,hE]
   subst hQQ
   exact⟨false,rfl,by simp;exact fun h=>hb h.parts⟩
 obtain⟨r,h1,b,rfl,hb⟩:=uc key
 refine⟨b,?_,hb⟩
 generalize hk:mg (Ba (fun _=>none) 8) yb [.pv (.agg [P,i64 s.first])] []=k at h1
 subst h1
 have:Nb [.agg [P,i64 s.first]]=(mg (Ba (fun _=>none) 8) yb [.pv (.agg [P,i64 s.first])] []).bind fun r=>Vb r.2 deep r.1:=rfl
 rw[this,hk];rfl
theorem Av {e:PV} {s:ic} {P:PV} {ps:List PV} (h:qf e s P ps) (Aa:Be s):Xf [e]=some (i64 (Vg 1 s.parts)):=by
 obtain⟨b,hb,hbb⟩:=Kp h
 have hc:=Wm h Aa.parts
 have:=hbb.2 Aa
 subst this
 obtain⟨rfl,hP⟩:=h
 have hP1:(AV.pv P).one=true:=by rcases hP.is with⟨h,_⟩ | h <;> rw[h] <;> rfl
 simp -implicitDefEqProofs only[Xf,SX,sevalprocAttr,Ti,hP1,Cf,hb,hc]
end Go.AM.B1
namespace Go.AM.B1
open Go.AM Go.AM.So
theorem HN {p q:ic} (hp:Be p) (hq:Be q):tm p q↔¬(q.first≤Bh p∧p.first≤Bh q):=by
 have h1:=hp.sH
 have h2:=hq.sH
 unfold tm
 constructor
 ·intro h hn
  by_cases hle:p.first≤q.first
  ·exact h q.first ⟨⟨hle,hn.1⟩,⟨Int.le_refl _,h2⟩⟩
  ·exact h p.first ⟨⟨Int.le_refl _,h1⟩,⟨by omega,hn.2⟩⟩
 ·intro h x hx
  exact h ⟨by omega,by omega⟩
theorem cq {p:ic} (hp:Be p):1≤Vg 1 p.parts∧Vg 1 p.parts≤1073741825:=vl p.parts 1 hp.parts (by omega) (by omega)
abbrev eF (S:PV) (i j:Int):Tr:=((Tr.lf.set 5 (.pv (i64 j))).set 1 (.pv (i64 i))).set 0 (.pv S)
theorem dH {S:PV} {ss:List ic} {es:List PV} (hS:pb S ss es) {i:Nat} (hi:i < ss.length) (Aa:∀ j,j≤i→(h:j < ss.length)→Be ss[j]):
 ∃ b,jg [S,i64 i]=some (.bool b)∧(b=false↔∀ j,j < i→(h:j < ss.length)→tm ss[j] ss[i]):=by
 have hsz:=hS.sz
 obtain⟨P,ps,hP,a0⟩:=hS.Td hi
 have okp:=Aa i (Nat.le_refl _) hi
 have hcp:=Wm hP okp.parts
 have hbp:=cq okp
 have hap:=fun j (hj:j < i) (h:j < ss.length)=>HN (Aa j (by omega) h) okp
 generalize ss[i]=p at *
 have hloop:Sd (fun r=>∃ E,(r=(.exit 0,⟨E,[]⟩)∧∀ j,j < i→(h:j < ss.length)→tm ss[j] p)∨(r=(.ret,⟨E,[]⟩)∧E.get 4= .pv (.bool true)∧∃ j,j < i∧∃ h:j < ss.length,¬tm ss[j] p))
  (mb (ga (pa (Ba (fun _=>none) 8) qd) (na 0 [0,1,5])) qa ⟨eF S i 0,[]⟩):=by
  refine ya (Kb (g:=ga (pa (Ba (fun _=>none) 8) qd) (na 0 [0,1,5]))
   (fun j t=>t=⟨eF S i j,[]⟩∧∀ j',j' < j→(h:j' < ss.length)→tm ss[j'] p)
   i (by unfold qa;unfold maxLen at hsz;omega) _ ⟨rfl,by intro j h;omega⟩ ?_ ?_) (fun r h=>h.2)
  ·rintro j t hj ⟨rfl,hs⟩
   have hj2:j < ss.length:=by omega
   obtain⟨Q,qs,hQ,b0⟩:=hS.Td hj2
   have okq:=Aa j (by omega) hj2
   have hcq:=Wm hQ okq.parts
   have hbq:=cq okq
   have haq:=hap j hj hj2
   have hnext:tm ss[j] p→∀ j',j' < j+1→(h:j' < ss.length)→tm ss[j'] p:=by
    intro h j' h1 h2
    rcases Nat.lt_or_ge j' j with h3 | h3
    ·exact hs j' h3 h2
    ·have:j'=j:=by omega
     subst this;exact h
   have hex:¬tm ss[j] p→∃ j,j < i∧∃ h:j < ss.length,¬tm ss[j] p:=fun h=>⟨j,hj,hj2,h⟩
   have hqf0:=okq.f0
   have hqf1:=okq.f1
   have hpf0:=okp.f0
   have hpf1:=okp.f1
   unfold Bh at haq
   generalize hq:ss[j]=q at *
   generalize Vg 1 p.parts=np at *
   generalize Vg 1 q.parts=nq at *
   have e1:decide ((j:Int) < (i:Int))=true:=Fa (by omega)
   have t2:=Za hj (show i≤maxLen by omega)
   have t3:IntKind.i64.wrap (q.first+nq)=q.first+nq:=Ca (by omega)
   have t4:IntKind.i64.wrap (q.first+nq - 1)=q.first+nq - 1:=Ca (by omega)
   have t5:IntKind.i64.wrap (p.first+np)=p.first+np:=Ca (by omega)
   have t6:IntKind.i64.wrap (p.first+np - 1)=p.first+np - 1:=Ca (by omega)
   generalize hQQ:LN _ _ j=QQ
   by_cases c1:p.first≤q.first+nq - 1
   ·have d1:=Fa c1
    by_cases c2:q.first≤p.first+np - 1
    ·have d2:=Fa c2
     simp -implicitDefEqProofs only[SX,sevalprocAttr,qd,e1,a0,b0,ui,Ig,Cf,hcp,hcq,t3,t4,t5,t6,d1,d2,eF]
     subst hQQ
     exact⟨_,.inr ⟨rfl,by simp[Tr.aa],hex (fun h=>(haq.1 h) ⟨c1,c2⟩)⟩⟩
    ·have d2:=Ja c2
     simp -implicitDefEqProofs only[SX,sevalprocAttr,qd,e1,a0,b0,ui,Ig,Cf,hcp,hcq,t2,t3,t4,t5,t6,d1,d2,na,za,AV.cut,ta,eF]
     subst hQQ
     exact⟨rfl,hnext (haq.2 fun h=>c2 h.2)⟩
   ·have d1:=Ja c1
    simp -implicitDefEqProofs only[SX,sevalprocAttr,qd,e1,a0,b0,ui,Ig,Cf,hcp,hcq,t2,t3,t4,d1,na,za,AV.cut,ta,eF]
    subst hQQ
    exact⟨rfl,hnext (haq.2 fun h=>c1 h.1)⟩
  ·rintro t ⟨rfl,hs⟩
   have e1:decide ((i:Int) < (i:Int))=false:=Ja (by omega)
   generalize hQ:(fun r:Ex×St=>r.1.stop=true∧_)=Q
   simp -implicitDefEqProofs only[SX,sevalprocAttr,qd,e1,eF]
   subst hQ
   exact⟨rfl,_,.inl ⟨rfl,hs⟩⟩
 have key:Sd (fun r=>∃ b,r=PV.bool b∧(b=false↔∀ j,j < i→(h:j < ss.length)→tm ss[j] p)) (jg [S,i64 i]):=by
  generalize hQQ:(fun r:PV=>_)=QQ
  simp -implicitDefEqProofs only[jg,SX,sevalprocAttr,yj,Gb,na,za,AV.cut,ta]
  refine ya hloop ?_
  rintro _ ⟨E,⟨rfl,hb⟩ | ⟨rfl,hE,j,hj,hj2,hb⟩⟩
  ·simp -implicitDefEqProofs only[SX,sevalprocAttr]
   subst hQQ
   exact⟨false,rfl,by simpa using hb⟩
  ·simp -implicitDefEqProofs only[SX,sevalprocAttr,hE]
   subst hQQ
   exact⟨true,rfl,by simp;exact⟨j,hj,hj2,hb⟩⟩
 obtain⟨r,h1,b,rfl,hb⟩:=uc key
 exact⟨b,h1,hb⟩
abbrev Iz (row:List PV) (i:Int):Tr:=(Tr.lf.set 3 (.pv (i64 i))).set 1 (.pv (.rp row 0))
theorem MF {ss:List ic}:Lc ss↔ss.length≤32∧∀ i,(hi:i < ss.length)→Be ss[i]∧∀ j,j < i→(h:j < ss.length)→tm ss[j] ss[i]:=by
 constructor
 ·intro h
  refine⟨h.len,fun i hi=>⟨h.gw _ (List.getElem_mem hi),fun j hj hj2=> ?_⟩⟩
  exact List.pairwise_iff_getElem.1 h.apart j i hj2 hi hj
 ·rintro⟨h1,h2⟩
  refine⟨h1,?_,?_⟩
  ·intro s hs
   obtain⟨i,hi,rfl⟩:=List.getElem_of_mem hs
   exact (h2 i hi).1
  ·rw[List.pairwise_iff_getElem]
   intro i j hi hj hij
   exact (h2 j hj).2 i hij hi
theorem Uu {S:PV} {ss:List ic} {es:List PV} (hS:pb S ss es):∃ b,Nd [.agg [S]]=some (.bool b)∧(b=true↔Lc ss):=by
 have hsz:=hS.sz
 have ln:=hS.Qb
 have hS1:(AV.pv S).one=true:=by rcases hS.is with⟨h,_⟩ | h <;> rw[h] <;> rfl
 by_cases c1:(ss.length:Int) > 32
 ·have d1:=Fa c1
  refine⟨false,?_,by simp;intro h;have:=h.len;omega⟩
  simp -implicitDefEqProofs only[Nd,SX,sevalprocAttr,fh,hS1,Zb,Xa,ln,d1]
 have d1:=Ja c1
 have hloop:Sd (fun r=>∃ E,(r=(.exit 0,⟨E,[]⟩)∧Lc ss)∨(r=(.ret,⟨E,[]⟩)∧E.get 2= .pv (.bool false)∧¬Lc ss))
  (mb (ga (pa (Ba (fun _=>none) 8) Rc) (na 0 [1,3])) qa ⟨Iz [S] 0,[]⟩):=by
  refine ya (Kb (g:=ga (pa (Ba (fun _=>none) 8) Rc) (na 0 [1,3]))
   (fun i t=>t=⟨Iz [S] i,[]⟩∧∀ k,k < i→(hk:k < ss.length)→Be ss[k]∧∀ j,j < k→(h:j < ss.length)→tm ss[j] ss[k])
   ss.length (by unfold qa;unfold maxLen at hsz;omega) _ ⟨rfl,by intro j h;omega⟩ ?_ ?_) (fun r h=>h.2)
  ·rintro i t hi ⟨rfl,hs⟩
   obtain⟨P,ps,hP,a0⟩:=hS.Td hi
   obtain⟨b,hb,hbb⟩:=Kp hP
   have hmt:Be ss[i]→_:=fun h=>dH hS hi (fun j hj hj2=>by
    rcases Nat.lt_or_ge j i with h1 | h1
    ·exact (hs j h1 hj2).1
    ·have:j=i:=by omega
     subst this;exact h)
   have hnext:Be ss[i]→(∀ j,j < i→(h:j < ss.length)→tm ss[j] ss[i])→∀ k,k < i+1→(hk:k < ss.length)→Be ss[k]∧∀ j,j < k→(h:j < ss.length)→tm ss[j] ss[k]:=by
    intro h1 h2 k hk hk2
    rcases Nat.lt_or_ge k i with h3 | h3
    ·exact hs k h3 hk2
    ·have:k=i:=by omega
     subst this;exact⟨h1,h2⟩
   have hbad:¬(Be ss[i]∧∀ j,j < i→(h:j < ss.length)→tm ss[j] ss[i])→¬Lc ss:=fun h hh=>h ((MF.1 hh).2 i hi)
   generalize hgi:ss[i]=p at *
   have e1:decide ((i:Int) < (ss.length:Int))=true:=Fa (by omega)
   have t2:=Za hi hsz
   generalize hQQ:LN _ _ i=QQ
   cases b with
   |false=>
    have hno:¬Be p:=fun h=>by have:=hbb.2 h;cases this
    simp -implicitDefEqProofs only[SX,sevalprocAttr,Rc,e1,ln,Zb,Xa,a0,Cf,hb,Iz]
    subst hQQ
    exact⟨_,.inr ⟨rfl,by simp[Tr.aa],hbad fun h=>hno h.1⟩⟩
   |true=>
    have okp:=hbb.1 rfl
    obtain⟨c,hc,hcc⟩:=hmt okp
    cases c with
    |false=>
     simp -implicitDefEqProofs only[SX,sevalprocAttr,Rc,e1,ln,Zb,Xa,a0,Cf,hb,hc,t2,na,za,AV.cut,ta,Iz]
     subst hQQ
     exact⟨rfl,hnext okp (hcc.1 rfl)⟩
    |true=>
     simp -implicitDefEqProofs only[SX,sevalprocAttr,Rc,e1,ln,Zb,Xa,a0,Cf,hb,hc,Iz]
     subst hQQ
     exact⟨_,.inr ⟨rfl,by simp[Tr.aa],hbad fun h=>by have:=hcc.2 h.2;cases this⟩⟩
  ·rintro t ⟨rfl,hs⟩
   have e1:decide ((ss.length:Int) < (ss.length:Int))=false:=Ja (by omega)
   generalize hQ:(fun r:Ex×St=>r.1.stop=true∧_)=Q
   simp -implicitDefEqProofs only[SX,sevalprocAttr,Rc,e1,ln,Zb,Xa,Iz]
   subst hQ
   exact⟨rfl,_,.inl ⟨rfl,MF.2 ⟨by omega,fun i hi=>hs i hi hi⟩⟩⟩
 have key:Sd (fun r=>∃ b,r=PV.bool b∧(b=true↔Lc ss)) (Nd [.agg [S]]):=by
  generalize hQQ:(fun r:PV=>_)=QQ
  simp -implicitDefEqProofs only[Nd,SX,sevalprocAttr,fh,hS1,Zb,Xa,ln,d1,Gb,na,za,AV.cut,ta]
  refine ya hloop ?_
  rintro _ ⟨E,⟨rfl,hb⟩ | ⟨rfl,hE,hb⟩⟩
  ·simp -implicitDefEqProofs only[SX,sevalprocAttr]
   subst hQQ
   exact⟨true,rfl,by simpa using hb⟩
  ·simp -implicitDefEqProofs only[SX,sevalprocAttr,hE]
   subst hQQ
   exact⟨false,rfl,by simpa using hb⟩
 obtain⟨r,h1,b,rfl,hb⟩:=uc key
 exact⟨b,h1,hb⟩
end Go.AM.B1
namespace Go.AM.B1
open Go.AM Go.AM.So
abbrev HC (rp rq:List PV) (n i:Int) (nl:Bool) (es:List PV):Tr:=((((Tr.lf.set 9 (.pv (i64 i))).set 8 (.uq 0 nl 1 es)).set 4 (.pv (.rp rq 0))).set 3 (.pv (.rp rp 0))).set 2 (.pv (i64 n))
abbrev Oz (rp rq:List PV) (n i x:Int) (nl:Bool) (es:List PV):Tr:=(((((Tr.lf.set 10 (.pv (i64 x))).set 9 (.pv (i64 i))).set 8 (.uq 0 nl 1 es)).set 4 (.pv (.rp rq 0))).set 3 (.pv (.rp rp 0))).set 2 (.pv (i64 n))
theorem fA (call:Wa) {P Q:PV} {a b:PV} {n:Int} {lp lq:List (List (Int×Int))} {ps qs:List PV} (hp:Ze P lp ps) (hq:Ze Q lq qs) {i:Nat} (hip:i < lp.length) (hiq:i < lq.length) (nl:Bool) (es:List PV) (m:Nat):
 Sd (fun r=>∃ E y,r=(.exit 2,⟨E,[.tok 1 m nl]⟩)∧E.get 2= .pv (i64 n)∧E.get 3= .pv (.rp [P,a] 0)∧E.get 4= .pv (.rp [Q,b] 0)∧E.get 8= .uq 0 nl 1 es∧E.get 9= .pv (i64 i)∧E.get 10= .pv (i64 (y:Nat))∧
  ((y < 256∧Bi lp[i] y=true∧Bi lq[i] y=true)∨(y=256∧∀ x,x < 256→¬(Bi lp[i] x=true∧Bi lq[i] x=true))))
  (mb (ga (pa call Ic) (na 1 [2,3,4,8,9,10])) qa ⟨Oz [P,a] [Q,b] n i 0 nl es,[.tok 1 m nl]⟩):=by
 obtain⟨v,hv,hpv,a1⟩:=hp.Td hip [.tok 1 m nl]
 obtain⟨w,hw,hqw,a2⟩:=hq.Td hiq [.tok 1 m nl]
 have hhp:=RA hpv.is hpv.sz
 have hhq:=RA hqw.is hqw.sz
 generalize lp[i]=lv at *
 generalize lq[i]=lw at *
 refine ya (Kb (g:=ga (pa call Ic) (na 1 [2,3,4,8,9,10]))
  (fun x t=>t=⟨Oz [P,a] [Q,b] n i x nl es,[.tok 1 m nl]⟩∧∀ x',x' < x→¬(Bi lv x'=true∧Bi lw x'=true))
  256 (by unfold qa;omega) _ ⟨rfl,by intro x h;omega⟩ ?_ ?_) (fun r h=>h.2)
 ·rintro x t hx ⟨rfl,hs⟩
  have e1:decide ((x:Int) < 256)=true:=Fa (by omega)
  have t2:IntKind.i64.wrap ((x:Int)+1)=((x+1:Nat):Int):=Ca (by omega)
  have hp1:=hhp (x:Int)
  have hq1:=hhq (x:Int)
  rw[Fa (show (0:Int)≤x by omega),Fa (show (x:Int)≤255 by omega),Int.toNat_natCast,Bool.true_and,Bool.true_and] at hp1 hq1
  have hz:(0 < 1)=True:=by simp
  have hnext:¬(Bi lv x=true∧Bi lw x=true)→∀ x',x' < x+1→¬(Bi lv x'=true∧Bi lw x'=true):=by
   intro h x' hx'
   rcases Nat.lt_or_ge x' x with h1 | h1
   ·exact hs x' h1
   ·have:x'=x:=by omega
    subst this;exact h
  generalize hQ:LN _ _ x=QQ
  cases h1:Bi lv x with
  |false=>
   rw[h1] at hp1
   simp -implicitDefEqProofs only[SX,sevalprocAttr,Ic,e1,Kc,wc,Xa,a1,a2,hp1,t2,hz,na,za,AV.cut,oa,ta,Oz]
   subst hQ
   exact⟨rfl,hnext (by rw[h1];simp)⟩
  |true=>
   rw[h1] at hp1
   cases h2:Bi lw x with
   |false=>
    rw[h2] at hq1
    simp -implicitDefEqProofs only[SX,sevalprocAttr,Ic,e1,Kc,wc,Xa,a1,a2,hp1,hq1,t2,hz,na,za,AV.cut,oa,ta,Oz]
    subst hQ
    exact⟨rfl,hnext (by rw[h2];simp)⟩
   |true=>
    rw[h2] at hq1
    simp -implicitDefEqProofs only[SX,sevalprocAttr,Ic,e1,Kc,wc,Xa,a1,a2,hp1,hq1,Oz]
    subst hQ
    exact⟨_,x,rfl,by simp[Tr.aa],by simp[Tr.aa],by simp[Tr.aa],by simp[Tr.aa],by simp[Tr.aa],by simp[Tr.aa],.inl ⟨hx,h1,h2⟩⟩
 ·rintro t ⟨rfl,hs⟩
  have e1:decide (((256:Nat):Int) < 256)=false:=Ja (by omega)
  generalize hQ:(fun r:Ex×St=>r.1.stop=true∧_)=QQ
  simp -implicitDefEqProofs only[SX,sevalprocAttr,Ic,e1,Oz]
  subst hQ
  exact⟨rfl,_,256,rfl,by simp[Tr.aa],by simp[Tr.aa],by simp[Tr.aa],by simp[Tr.aa],by simp[Tr.aa],by simp[Tr.aa],.inr ⟨rfl,hs⟩⟩
theorem Ax {p q:List (List (Int×Int))} {i:Nat} (hp:i < p.length) (hq:i < q.length) (vp:Ma 255 (-2) p[i]=true) (vq:Ma 255 (-2) q[i]=true):
 On p q i≠[]↔∃ x,x < 256∧Bi p[i] x=true∧Bi q[i] x=true:=by
 have hmA:On p q i=Ff (p[i].length+q[i].length) p[i] q[i]:=by
  unfold On
  rw[List.getElem?_eq_getElem hp,List.getElem?_eq_getElem hq]
 have hlaw:=Br _ _ _ (-2) (-2) vp vq (Nat.le_refl _)
 have hme:=dm vp
 rw[hmA]
 generalize p[i]=a at *
 generalize q[i]=b at *
 constructor
 ·intro h
  obtain⟨m,hm⟩:=List.exists_mem_of_ne_nil _ h
  have h2:=(hlaw.1 m.1).1 ⟨m,hm,Int.le_refl _,hlaw.2 m hm⟩
  have h0:0≤m.1∧m.1≤255:=by
   obtain⟨pp,hpp,h3,h4⟩:=h2.1
   have:=hme pp hpp;omega
  refine⟨m.1.toNat,by omega,?_,?_⟩
  ·rw[Bi,vp,Bool.true_and,Pt,Int.toNat_of_nonneg h0.1];exact h2.1
  ·rw[Bi,vq,Bool.true_and,Pt,Int.toNat_of_nonneg h0.1];exact h2.2
 ·rintro⟨x,hx,h1,h2⟩ hnil
  rw[Bi,vp,Bool.true_and,Pt] at h1
  rw[Bi,vq,Bool.true_and,Pt] at h2
  have:=(hlaw.1 x).2 ⟨h1,h2⟩
  rw[hnil] at this
  exact Ul _ this
theorem Kv {e f:PV} {p q:ic} {P Q:PV} {ps qs:List PV} (hp:qf e p P ps) (hq:qf f q Q qs) (op:Be p) (oq:Be q) {n:Nat} (hn:n≤p.parts.length) (hn2:n≤q.parts.length):
 ∃ v,ue [e,f,i64 n]=some (.yc [v,.bool (Xb p.parts q.parts n 0).isSome]):=by
 have hc1:=Av hp op
 have hc2:=Av hq oq
 have hb1:=cq op
 have hb2:=cq oq
 obtain⟨hP1,hP2⟩:=hp.Yw
 obtain⟨hQ1,hQ2⟩:=hq.Yw
 have heq:=hp.eq
 have hfq:=hq.eq
 subst heq hfq
 have h8:=op.hi
 have lP:=hp.parts.Qb
 have lQ:=hq.parts.Qb
 have hloop:Sd (fun r=>∃ E H,(r=(.ret,⟨E,H⟩)∧E.get 6= .pv .ma∧E.get 7= .pv (.bool false)∧(Xb p.parts q.parts n 0).isSome=false)∨(∃ nl es,r=(.exit 0,⟨E,H⟩)∧E.get 8= .uq 0 nl 1 es∧(Xb p.parts q.parts n 0).isSome=true))
  (mb (ga (pa (Ba (fun _=>none) 8) ye) (na 1 [2,3,4,8,9])) qa ⟨HC [P,i64 p.first] [Q,i64 q.first] n 0 true [],[.tok 1 0 true]⟩):=by
  refine ya (Kb (g:=ga (pa (Ba (fun _=>none) 8) ye) (na 1 [2,3,4,8,9]))
   (fun i t=>∃ nl es,t=⟨HC [P,i64 p.first] [Q,i64 q.first] n i nl es,[.tok 1 i nl]⟩∧es.length=i∧(Xb p.parts q.parts n 0).isSome=(Xb p.parts q.parts (n - i) i).isSome)
   n (by unfold qa;omega) _ ⟨true,[],rfl,rfl,rfl⟩ ?_ ?_) (fun r h=>h.2)
  ·rintro i t hi ⟨nl,es,rfl,hlen,hs⟩
   have hip:i < p.parts.length:=by omega
   have hiq:i < q.parts.length:=by omega
   have hin:=fA (Ba (fun _=>none) 8) (a:=i64 p.first) (b:=i64 q.first) (n:=n) hp.parts hq.parts hip hiq nl es i
   have okv:=op.parts _ (List.getElem_mem hip)
   have okw:=oq.parts _ (List.getElem_mem hiq)
   have hma:=Ax hip hiq okv.2 okw.2
   obtain⟨m,hm⟩:∃ m,n - i=m+1:=⟨n - i - 1,by omega⟩
   have hm':n - (i+1)=m:=by omega
   rw[hm,Xb] at hs
   have e1:decide ((i:Int) < (n:Int))=true:=Fa (by omega)
   have t2:=Za (i:=i) (n:=n) hi (by unfold maxLen;omega)
   have hz:(0 < 1)=True:=by simp
   have hLN:∀ (nl':Bool) (es':List PV) (s:St),s=⟨HC [P,i64 p.first] [Q,i64 q.first] n (i+1:Nat) nl' es',[.tok 1 (i+1) nl']⟩→es'.length=i+1→(Xb p.parts q.parts n 0).isSome=(Xb p.parts q.parts m (i+1)).isSome→
    LN (fun i t=>∃ nl es,t=⟨HC [P,i64 p.first] [Q,i64 q.first] n i nl es,[.tok 1 i nl]⟩∧es.length=i∧(Xb p.parts q.parts n 0).isSome=(Xb p.parts q.parts (n - i) i).isSome)
     (fun r=>∃ E H,(r=(.ret,⟨E,H⟩)∧E.get 6= .pv .ma∧E.get 7= .pv (.bool false)∧(Xb p.parts q.parts n 0).isSome=false)∨(∃ nl es,r=(.exit 0,⟨E,H⟩)∧E.get 8= .uq 0 nl 1 es∧(Xb p.parts q.parts n 0).isSome=true)) i (.norm,s):=
    fun nl' es' s h1 h2 h3=>⟨nl',es',h1,h2,by rw[hm'];exact h3⟩
   have hLR:∀ (E:Tr) (H:List ba),E.get 6= .pv .ma→E.get 7= .pv (.bool false)→(Xb p.parts q.parts n 0).isSome=false→
    LN (fun i t=>∃ nl es,t=⟨HC [P,i64 p.first] [Q,i64 q.first] n i nl es,[.tok 1 i nl]⟩∧es.length=i∧(Xb p.parts q.parts n 0).isSome=(Xb p.parts q.parts (n - i) i).isSome)
     (fun r=>∃ E H,(r=(.ret,⟨E,H⟩)∧E.get 6= .pv .ma∧E.get 7= .pv (.bool false)∧(Xb p.parts q.parts n 0).isSome=false)∨(∃ nl es,r=(.exit 0,⟨E,H⟩)∧E.get 8= .uq 0 nl 1 es∧(Xb p.parts q.parts n 0).isSome=true)) i (.ret,⟨E,H⟩):=
    fun E H h1 h2 h3=>⟨E,H,.inl ⟨rfl,h1,h2,h3⟩⟩
   generalize LN _ _ i=QQ at hLN hLR ⊢
   simp -implicitDefEqProofs only[SX,sevalprocAttr,ye,Gb,e1,hz,na,za,AV.cut,oa,ta,HC]
   refine ya hin ?_
   rintro r ⟨E,y,rfl,g2,g3,g4,g8,g9,g10,⟨hy,hy1,hy2⟩ | ⟨rfl,hno⟩⟩
   ·have hne:On p.parts q.parts i≠[]:=hma.2 ⟨y,hy,hy1,hy2⟩
    have hs':(Xb p.parts q.parts n 0).isSome=(Xb p.parts q.parts m (i+1)).isSome:=by
     rw[hs]
     cases hmt:On p.parts q.parts i with
     |nil=>exact absurd hmt hne
     |cons a r=>simp
    have e2:(((y:Nat):Int)==256)=false:=Oh (by omega)
    have t3:IntKind.u8.wrap ((y:Nat):Int)=(y:Int):=wrap_u8 (by omega)
    have hap:=fq (A:=[.tok 1 i nl]) (id:=0) (n:=i) (h:= .uq) (nl:=nl) (bytes:=1) (es:=es) rfl (by simp[hlen]) (by unfold qb;omega) (.int .u8 y)
    rw[List.set_cons_zero] at hap
    simp -implicitDefEqProofs only[SP,WP,fa,sevalprocAttr,g2,g3,g4,g8,g9,g10,e2,t2,t3,hap,hz,na,za,AV.cut,oa,ta]
    exact hLN false (es++[.int .u8 y]) _ rfl (by simp[hlen]) hs'
   ·have hne:On p.parts q.parts i=[]:=by
     apply Decidable.byContradiction
     intro h
     obtain⟨x,hx,h1,h2⟩:=hma.1 h
     exact hno x hx ⟨h1,h2⟩
    have hs':(Xb p.parts q.parts n 0).isSome=false:=by rw[hs,hne];rfl
    have e2:(((256:Nat):Int)==256)=true:=by decide
    simp -implicitDefEqProofs only[SP,WP,fa,sevalprocAttr,g2,g3,g4,g8,g9,g10,e2]
    exact hLR _ _ (by simp[Tr.aa]) (by simp[Tr.aa]) hs'
  ·rintro t ⟨nl,es,rfl,hlen,hs⟩
   rw[Nat.sub_self,Xb] at hs
   have e1:decide ((n:Int) < (n:Int))=false:=Ja (by omega)
   generalize hQ:(fun r:Ex×St=>r.1.stop=true∧_)=QQ
   simp -implicitDefEqProofs only[SX,sevalprocAttr,ye,e1,HC]
   subst hQ
   exact⟨rfl,_,_,.inr ⟨nl,es,rfl,by simp[Tr.aa],hs⟩⟩
 have key:Sd (fun r=>∃ v,r= .yc [v,.bool (Xb p.parts q.parts n 0).isSome]) (ue [.agg [P,i64 p.first],.agg [Q,i64 q.first],i64 n]):=by
  have z1:(Vg 1 p.parts==0)=false:=Oh (by omega)
  have z2:(Vg 1 q.parts==0)=false:=Oh (by omega)
  have d0:decide ((n:Int) < 0)=false:=Ja (by omega)
  have d1:decide ((n:Int) > (p.parts.length:Int))=false:=Ja (by omega)
  have d2:decide ((n:Int) > (q.parts.length:Int))=false:=Ja (by omega)
  have hz:(0 < 1)=True:=by simp
  generalize Vg 1 p.parts=np at *
  generalize Vg 1 q.parts=nq at *
  generalize (Xb p.parts q.parts n 0).isSome=b at *
  generalize hQQ:(fun r:PV=>_)=QQ
  simp -implicitDefEqProofs only[ue,SX,sevalprocAttr,Ni,Gb,hP1,hQ1,Kc,wc,Cf,hc1,hc2,z1,z2,lP,lQ,d0,d1,d2,Ve,hz,na,za,AV.cut,oa,ta]
  refine ya hloop ?_
  rintro _ ⟨E,H,⟨rfl,h6,h7,hb⟩ | ⟨nl,es,rfl,g8,hb⟩⟩
  ·subst hb
   simp -implicitDefEqProofs only[SX,sevalprocAttr,h6,h7]
   subst hQQ
   exact⟨_,rfl⟩
  ·subst hb
   cases nl <;>
   ·simp -implicitDefEqProofs only[SX,sevalprocAttr,g8]
    subst hQQ
    exact⟨_,rfl⟩
 obtain⟨r,h1,v,rfl⟩:=uc key
 exact⟨v,h1⟩
end Go.AM.B1
namespace Go.AM.B1
open Go.AM Go.AM.So
abbrev OM (row:List PV) (i:Int):Tr:=(Tr.lf.set 4 (.pv (i64 i))).set 1 (.pv (.rp row 0))
abbrev XE (row:List PV) (i j:Int):Tr:=((Tr.lf.set 5 (.pv (i64 j))).set 4 (.pv (i64 i))).set 1 (.pv (.rp row 0))
def dR (ss:List ic) (i j:Nat):Prop:=(hi:i < ss.length)→(hj:j < ss.length)→ss[i].parts.length < ss[j].parts.length→Ie ss[i] ss[j]=false
theorem nz (call:Wa) {S:PV} {ss:List ic} {es:List PV} (hS:pb S ss es) (Aa:Lc ss) {i:Nat} (hi:i < ss.length):
 Sd (fun r=>∃ E,(r=(.exit 2,⟨E,[]⟩)∧E.get 1= .pv (.rp [S] 0)∧E.get 4= .pv (i64 i)∧∀ j,dR ss i j)∨(r=(.ret,⟨E,[]⟩)∧E.get 2= .pv (.bool false)∧E.get 3= .pv (i64 0)∧¬Eg ss))
  (mb (ga (pa call Gc) (na 0 [1,4,5])) qa ⟨XE [S] i 0,[]⟩):=by
 have h32:=Aa.len
 have ln:=hS.Qb
 obtain⟨P,ps,hP,a1⟩:=hS.Td hi
 have okp:=Aa.gw _ (List.getElem_mem hi)
 have lP:=hP.parts.Qb
 have hPre:∀ j (hj:j < ss.length),ss[i].parts.length < ss[j].parts.length→Ie ss[i] ss[j]=true→¬Eg ss:=fun j hj h1 h2 h=>by
  have:=h i j hi hj h1;rw[h2] at this;cases this
 have hat:∀ j,dR ss i j↔((hj:j < ss.length)→ss[i].parts.length < ss[j].parts.length→Ie ss[i] ss[j]=false):=fun j=>⟨fun h=>h hi,fun h _=>h⟩
 simp only[hat]
 generalize ss[i]=p at *
 refine ya (Kb (g:=ga (pa call Gc) (na 0 [1,4,5]))
  (fun j t=>t=⟨XE [S] i j,[]⟩∧∀ j',j' < j→(hj:j' < ss.length)→p.parts.length < ss[j'].parts.length→Ie p ss[j']=false)
  ss.length (by unfold qa;omega) _ ⟨rfl,fun j h=>by omega⟩ ?_ ?_) (fun r h=>h.2)
 ·rintro j t hj ⟨rfl,hs⟩
  obtain⟨Q,qs,hQ,a2⟩:=hS.Td hj
  have okq:=Aa.gw _ (List.getElem_mem hj)
  have hcm:=fun (h:p.parts.length≤ss[j].parts.length)=>Kv hP hQ okp okq (n:=p.parts.length) (Nat.le_refl _) h
  have lQ:=hQ.parts.Qb
  have hbad:=hPre j hj
  have hnext:(p.parts.length < ss[j].parts.length→Ie p ss[j]=false)→∀ j',j' < j+1→(hj:j' < ss.length)→p.parts.length < ss[j'].parts.length→Ie p ss[j']=false:=by
   intro h j' h1 h2
   rcases Nat.lt_or_ge j' j with h3 | h3
   ·exact hs j' h3 h2
   ·have:j'=j:=by omega
    subst this;exact h
  unfold Ie at hbad hnext
  generalize ss[j]=q at *
  have e1:decide ((j:Int) < (ss.length:Int))=true:=Fa (by omega)
  have t2:=Za hj (by unfold maxLen;omega)
  generalize hQQ:LN _ _ j=QQ
  by_cases c1:(p.parts.length:Int) < (q.parts.length:Int)
  ·have d1:=Fa c1
   obtain⟨v,hv⟩:=hcm (by omega)
   cases hb:(Xb p.parts q.parts p.parts.length 0).isSome with
   |true=>
    rw[hb] at hv
    simp -implicitDefEqProofs only[SX,sevalprocAttr,Gc,ln,e1,Zb,Xa,Kc,wc,Cf,a1,a2,lP,lQ,d1,hv,XE]
    subst hQQ
    exact⟨_,.inr ⟨rfl,by simp[Tr.aa],by simp[Tr.aa],hbad (by omega) hb⟩⟩
   |false=>
    rw[hb] at hv
    simp -implicitDefEqProofs only[SX,sevalprocAttr,Gc,ln,e1,t2,Zb,Xa,Kc,wc,Cf,a1,a2,lP,lQ,d1,hv,na,za,AV.cut,ta,XE]
    subst hQQ
    exact⟨rfl,hnext fun _=>hb⟩
  ·have d1:=Ja c1
   simp -implicitDefEqProofs only[SX,sevalprocAttr,Gc,ln,e1,t2,Zb,Xa,Kc,wc,Cf,a1,a2,lP,lQ,d1,na,za,AV.cut,ta,XE]
   subst hQQ
   exact⟨rfl,hnext fun h=>absurd h (by omega)⟩
 ·rintro t ⟨rfl,hs⟩
  have e1:decide ((ss.length:Int) < (ss.length:Int))=false:=Ja (by omega)
  generalize hQ:(fun r:Ex×St=>r.1.stop=true∧_)=QQ
  simp -implicitDefEqProofs only[SX,sevalprocAttr,Gc,e1,ln,Zb,Xa,XE]
  subst hQ
  exact⟨rfl,_,.inl ⟨rfl,by simp[Tr.aa],by simp[Tr.aa],fun j hj=>hs j hj hj⟩⟩
theorem QC {S:PV} {ss:List ic} {es:List PV} (hS:pb S ss es):
 (¬ Lc ss→zd [.agg [S]]=some (.yc [.bool false,i64 84]))∧
 (Lc ss→∃ b,zd [.agg [S]]=some (.yc [.bool b,i64 0])∧(b=true↔Eg ss)):=by
 have ln:=hS.Qb
 have hS1:(AV.pv S).one=true:=by rcases hS.is with⟨h,_⟩ | h <;> rw[h] <;> rfl
 obtain⟨b,hb,hbb⟩:=Uu hS
 constructor
 ·intro h
  have:b=false:=by cases b with | false=>rfl | true=>exact absurd (hbb.1 rfl) h
  subst this
  simp -implicitDefEqProofs only[zd,SX,sevalprocAttr,Mg,hS1,Je,hb]
 ·intro Aa
  have h32:=Aa.len
  have:=hbb.2 Aa
  subst this
  have hloop:Sd (fun r=>∃ E,(r=(.exit 0,⟨E,[]⟩)∧Eg ss)∨(r=(.ret,⟨E,[]⟩)∧E.get 2= .pv (.bool false)∧E.get 3= .pv (i64 0)∧¬Eg ss))
   (mb (ga (pa (Ba (fun _=>none) 8) De) (na 0 [1,4])) qa ⟨OM [S] 0,[]⟩):=by
   refine ya (Kb (g:=ga (pa (Ba (fun _=>none) 8) De) (na 0 [1,4]))
    (fun i t=>t=⟨OM [S] i,[]⟩∧∀ i',i' < i→∀ j,dR ss i' j)
    ss.length (by unfold qa;omega) _ ⟨rfl,fun i h=>by omega⟩ ?_ ?_) (fun r h=>h.2)
   ·rintro i t hi ⟨rfl,hs⟩
    have hin:=nz (Ba (fun _=>none) 8) hS Aa hi
    have e1:decide ((i:Int) < (ss.length:Int))=true:=Fa (by omega)
    have t2:=Za hi (by unfold maxLen;omega)
    generalize hQQ:LN _ _ i=QQ
    simp -implicitDefEqProofs only[SX,sevalprocAttr,De,Gb,ln,e1,Zb,Xa,na,za,AV.cut,ta,OM]
    refine ya hin ?_
    rintro _ ⟨E,⟨rfl,g1,g4,hp⟩ | ⟨rfl,g2,g3,hp⟩⟩
    ·simp -implicitDefEqProofs only[SX,sevalprocAttr,g1,g4,t2,na,za,AV.cut,ta]
     subst hQQ
     refine⟨rfl,fun i' hi' j=> ?_⟩
     rcases Nat.lt_or_ge i' i with h3 | h3
     ·exact hs i' h3 j
     ·have:i'=i:=by omega
      subst this;exact hp j
    ·simp -implicitDefEqProofs only[SX,sevalprocAttr]
     subst hQQ
     exact⟨_,.inr ⟨rfl,g2,g3,hp⟩⟩
   ·rintro t ⟨rfl,hs⟩
    have e1:decide ((ss.length:Int) < (ss.length:Int))=false:=Ja (by omega)
    generalize hQ:(fun r:Ex×St=>r.1.stop=true∧_)=QQ
    simp -implicitDefEqProofs only[SX,sevalprocAttr,De,e1,ln,Zb,Xa,OM]
    subst hQ
    exact⟨rfl,_,.inl ⟨rfl,fun i j hi hj=>hs i hi j hi hj⟩⟩
  have key:Sd (fun r=>∃ b,r=PV.yc [.bool b,i64 0]∧(b=true↔Eg ss)) (zd [.agg [S]]):=by
   generalize hQQ:(fun r:PV=>_)=QQ
   simp -implicitDefEqProofs only[zd,SX,sevalprocAttr,Mg,hS1,Zb,Xa,Je,hb,Gb,na,za,AV.cut,ta]
   refine ya hloop ?_
   rintro _ ⟨E,⟨rfl,hp⟩ | ⟨rfl,g2,g3,hp⟩⟩
   ·simp -implicitDefEqProofs only[SX,sevalprocAttr]
    subst hQQ
    exact⟨true,rfl,by simpa using hp⟩
   ·simp -implicitDefEqProofs only[SX,sevalprocAttr,g2,g3]
    subst hQQ
    exact⟨false,rfl,by simpa using hp⟩
  obtain⟨r,h1,b,rfl,hb⟩:=uc key
  exact⟨b,h1,hb⟩
end Go.AM.B1
namespace Go.AM.B1
open Go.AM Go.AM.So
def rH (f:Nat→Bool):List PV:=(List.range 32).map fun i=> .bool (f i)
def ec (d:Int) (f:Nat→Bool):List PV:=i64 d::rH f
def He (a:Al):PV:= .agg (ec a.1 a.2.toNat.testBit)
theorem zB (f:Nat→Bool):(rH f).length=32:=by simp[rH]
theorem lg (d:Int) (f:Nat→Bool):(ec d f).length=33:=by rw[ec,List.length_cons,zB]
theorem vL (f:Nat→Bool) {i:Nat} (h:i < (rH f).length):(rH f)[i]= .bool (f i):=by
 simp only[rH,List.getElem_map,List.getElem_range]
theorem YG (f:Nat→Bool) {i:Nat} (h:i < 32):(rH f)[i]? =some (.bool (f i)):=by
 rw[List.getElem?_eq_getElem (by rw[zB];exact h),vL]
theorem sM (f:Nat→Bool) {i:Nat} (h:i < 32) (b:Bool):(rH f).set i (.bool b)=rH fun j=>if j=i then b else f j:=by
 apply List.ext_getElem
 ·rw[List.length_set,zB,zB]
 ·intro j h1 h2
  rw[List.getElem_set,vL,vL]
  by_cases hj:i=j
  ·subst hj;rw[if_pos rfl,if_pos rfl]
  ·rw[if_neg hj,if_neg (Ne.symm hj)]
theorem Hr {f g:Nat→Bool} (h:∀ x,x < 32→f x=g x):rH f=rH g:=by
 unfold rH
 apply List.map_congr_left
 intro x hx
 rw[h x (by simpa using hx)]
theorem xM {f g:Nat→Bool} (h:rH f=rH g) {i:Nat} (hi:i < 32):f i=g i:=by
 have h1:=YG f hi
 rw[h,YG g hi] at h1
 injection h1 with h1;injection h1 with h1;exact h1.symm
theorem Qu (d:Int) (f:Nat→Bool):∀ e∈ec d f,(AV.pv e).one=true:=by
 intro e he
 rcases List.mem_cons.1 he with rfl | he
 ·rfl
 ·obtain⟨x,_,rfl⟩:=List.mem_map.1 he
  rfl
def gQ (a:Al):Prop:=∃ b:Nat,a.2=(b:Int)∧b < 4294967296
theorem GR {a b:Al} (ha:gQ a) (hb:gQ b) (h:He a=He b):a=b:=by
 obtain⟨d,_⟩:=a;obtain⟨e,_⟩:=b
 obtain⟨m,rfl,hm⟩:=ha
 obtain⟨n,rfl,hn⟩:=hb
 simp only[He,ec,PV.agg.injEq,List.cons.injEq,PV.int.injEq,true_and,Int.toNat_natCast] at h
 have:m=n:=by
  apply Nat.eq_of_testBit_eq
  intro i
  by_cases hi:i < 32
  ·exact xM h.2 hi
  ·rw[Nat.testBit_lt_two_pow (Nat.lt_of_lt_of_le hm (Nat.pow_le_pow_right (n:=2) (by decide) (by omega:32≤i))),Nat.testBit_lt_two_pow (Nat.lt_of_lt_of_le hn (Nat.pow_le_pow_right (n:=2) (by decide) (by omega:32≤i)))]
 subst this
 have h1:d=e:=by have:=h.1;omega
 rw[h1]
theorem Dw:∀ (l:List Nat) (f g:Nat→Bool),Hh (l.map fun _=>0) (l.map fun i=> .bool (f i)) (l.map fun i=> .bool (g i))=some (l.all fun i=>f i==g i)
 | [],f,g=>rfl
 |i::l,f,g=>by
  simp only[List.map_cons,Hh,gp,Option.bind_some,Dw l f g,Option.map_some,List.all_cons]
abbrev eX:Kd:= .row [1,0,0,0,0,0,0,0,0,0,0,0,0,0,0,0,0,0,0,0,0,0,0,0,0,0,0,0,0,0,0,0,0]
theorem eS (a b:Al):∃ c,Rj eX (He a) (He b)=some c∧(c=true↔He a=He b):=by
 have h:=Dw (List.range 32) a.2.toNat.testBit b.2.toNat.testBit
 have h0:(List.range 32).map (fun _=>0)=[0,0,0,0,0,0,0,0,0,0,0,0,0,0,0,0,0,0,0,0,0,0,0,0,0,0,0,0,0,0,0,0]:=by decide
 rw[h0] at h
 refine⟨((a.1:Int)==b.1)&&(List.range 32).all fun i=>a.2.toNat.testBit i==b.2.toNat.testBit i,?_,?_⟩
 ·show Hh (1::[0,0,0,0,0,0,0,0,0,0,0,0,0,0,0,0,0,0,0,0,0,0,0,0,0,0,0,0,0,0,0,0]) (i64 a.1::rH _) (i64 b.1::rH _)=_
  unfold Hh
  rw[show rH a.2.toNat.testBit=(List.range 32).map fun i=> .bool (a.2.toNat.testBit i) from rfl,show rH b.2.toNat.testBit=(List.range 32).map fun i=> .bool (b.2.toNat.testBit i) from rfl,h]
  simp only[gp,if_true,Option.bind_some,Option.map_some]
 ·simp only[Bool.and_eq_true,beq_iff_eq,List.all_eq_true,List.mem_range]
  constructor
  ·rintro⟨h1,h2⟩
   rw[He,He,h1]
   unfold ec
   rw[Hr h2]
  ·intro h
   simp only[He,ec,PV.agg.injEq,List.cons.injEq,PV.int.injEq,true_and] at h
   exact⟨h.1,fun i hi=>xM h.2 hi⟩
theorem uJ (H:List ba) {l:List Al} {i:Nat} (hi:i < l.length):wa H 33 (.pv (.lit 33 (l.map He))) (i:Int)=some (.pv (.rp (ec l[i].1 l[i].2.toNat.testBit) 0)):=by
 simp only[wa]
 rw[if_pos (by refine⟨trivial,?_⟩;unfold Ea;simp;omega)]
 simp[hi,He,PV.cells]
theorem IH (H:List ba) (d:Int) (f:Nat→Bool):xa H true 33 (.pv (.rp (ec d f) 0))=some (.pv (.agg (ec d f))):=by
 have h:=lg d f
 simp only[xa,gl,if_true]
 rw[if_pos (by omega),List.drop_zero,List.take_of_length_le (by omega)]
 rfl
theorem nN {a:Al} {l:List Al} {i k:Nat} (hi:i < l.length):Wk a (l.drop i) k=if a=l[i] then some k else Wk a (l.drop (i+1)) (k+1):=by
 rw[List.drop_eq_getElem_cons hi,Wk]
abbrev uI (v:PV) (row:List PV) (i:Int):Tr:=((Tr.lf.set 5 (.pv (i64 i))).set 3 (.pv (.rp row 0))).set 0 (.pv v)
theorem yR {l:List Al} {a:Al} (hl:l.length≤64) (ha:gQ a) (hb:∀ b∈l,gQ b):Gh [.lit 33 (l.map He),He a]=some (i64 (match Wk a l 0 with | some k=>(k:Int) | none=> -1)):=by
 have hloop:Sd (fun r=>∃ E,(r=(.exit 0,⟨E,[]⟩)∧Wk a l 0=none)∨(∃ k,r=(.ret,⟨E,[]⟩)∧Wk a l 0=some k∧E.get 4= .pv (i64 (k:Nat))))
  (mb (ga (pa (Ba (fun _=>none) 8) Vd) (na 0 [0,3,5])) qa ⟨uI (.lit 33 (l.map He)) (ec a.1 a.2.toNat.testBit) 0,[]⟩):=by
  refine ya (Kb (g:=ga (pa (Ba (fun _=>none) 8) Vd) (na 0 [0,3,5]))
   (fun i t=>t=⟨uI (.lit 33 (l.map He)) (ec a.1 a.2.toNat.testBit) i,[]⟩∧Wk a l 0=Wk a (l.drop i) i)
   l.length (by unfold qa;omega) _ ⟨rfl,rfl⟩ ?_ ?_) (fun r h=>h.2)
  ·rintro i t hi ⟨rfl,hs⟩
   rw[nN hi] at hs
   have a1:=uJ [] hi
   have a2:=IH [] l[i].1 l[i].2.toNat.testBit
   have a3:=IH [] a.1 a.2.toNat.testBit
   obtain⟨c,heq,hce⟩:=eS l[i] a
   have heq:Rj eX (.agg (ec l[i].1 l[i].2.toNat.testBit)) (.agg (ec a.1 a.2.toNat.testBit))=some c:=heq
   have e1:decide ((i:Int) < (l.length:Int))=true:=Fa (by omega)
   have t2:=Za hi (show l.length≤maxLen by unfold maxLen;omega)
   have ln:Qb [] 0 (.pv (.lit 33 (l.map He)))=some l.length:=by simp[Qb]
   have hbi:=hb _ (List.getElem_mem hi)
   generalize ec a.1 a.2.toNat.testBit=row at *
   generalize ec l[i].1 l[i].2.toNat.testBit=row2 at *
   generalize l.map He=es at *
   generalize hQ:LN _ _ i=Q
   by_cases h:a=l[i]
   ·rw[hce.2 (by rw[h])] at heq
    rw[if_pos h] at hs
    simp -implicitDefEqProofs only[SX,sevalprocAttr,Vd,e1,ln,a1,a2,a3,heq,uI]
    subst hQ
    exact⟨_,.inr ⟨i,rfl,hs,by simp[Tr.aa]⟩⟩
   ·have:c=false:=by cases c with | false=>rfl | true=>exact absurd (GR hbi ha (hce.1 rfl)).symm h
    rw[this] at heq
    rw[if_neg h] at hs
    simp -implicitDefEqProofs only[SX,sevalprocAttr,Vd,e1,t2,ln,a1,a2,a3,heq,na,za,AV.cut,ta,uI]
    subst hQ
    exact⟨rfl,hs⟩
  ·rintro t ⟨rfl,hs⟩
   rw[List.drop_length,Wk] at hs
   have e1:decide ((l.length:Int) < (l.length:Int))=false:=Ja (by omega)
   have ln:Qb [] 0 (.pv (.lit 33 (l.map He)))=some l.length:=by simp[Qb]
   generalize l.map He=es at *
   generalize hQ:(fun r:Ex×St=>r.1.stop=true∧_)=Q
   simp -implicitDefEqProofs only[SX,sevalprocAttr,Vd,e1,ln,uI]
   subst hQ
   exact⟨rfl,_,.inl ⟨rfl,hs⟩⟩
 have hln:=lg (a.1:Int) a.2.toNat.testBit
 have hall:∀ e∈ec (a.1:Int) a.2.toNat.testBit,(AV.pv e).one=true:=Qu _ _
 have he:He a= .agg (ec a.1 a.2.toNat.testBit):=rfl
 rw[he]
 generalize ec (a.1:Int) a.2.toNat.testBit=row at *
 have hbx:((row.map AV.pv).length=33∧(row.map AV.pv).all AV.one=true)=True:=by
  refine eq_true ⟨by rw[List.length_map,hln],?_⟩
  rw[List.all_eq_true];intro v hv
  obtain⟨e,he,rfl⟩:=List.mem_map.1 hv
  exact hall e he
 have hmp:Oa (Vb [] 0) (row.map AV.pv)=some row:=BB _ _ _
 generalize l.map He=es at *
 apply Xn
 simp -implicitDefEqProofs only[Gh,SX,sevalprocAttr,Gj,hbx,hmp,Gb,na,za,AV.cut,ta]
 refine ya hloop ?_
 rintro _ ⟨E,⟨rfl,hn⟩ | ⟨k,rfl,hk,g⟩⟩
 ·simp -implicitDefEqProofs only[SX,sevalprocAttr,hn]
 ·simp -implicitDefEqProofs only[SX,sevalprocAttr,g,hk]
end Go.AM.B1
