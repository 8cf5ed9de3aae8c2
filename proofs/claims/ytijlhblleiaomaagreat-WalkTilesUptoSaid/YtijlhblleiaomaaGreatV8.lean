/- What functions of the program compute. -/
import Derived.Test.YtijlhblleiaomaaGreatV7
set_option linter.unusedVariables false
set_option linter.unusedSimpArgs false
namespace Go.AM.B1
open Go.AM Go.AM.So
theorem vP {v:PV} {l:List (Int×Int)} (h:Gm v l):∃ w,Uc [v]=some w∧Vi 2 w (Hd l)∧(l≠[]→w= .lit 2 (Hd l)):=by
 rcases h.is with⟨rfl,hl⟩ | rfl
 ·refine⟨.ma,?_,.inl ⟨rfl,hl⟩,fun hne=>absurd (by simpa[Hd] using hl) hne⟩
  simp -implicitDefEqProofs only[Uc,SP,SA,SQ,WP,WQ,sevalprocAttr,qe]
 ·refine⟨.lit 2 (Hd l),?_,.inr rfl,fun _=>rfl⟩
  have hr:qb (Hd l).length 16:=by have:=h.sz;unfold qb;simp;omega
  generalize Hd l=es at *
  simp -implicitDefEqProofs only[Uc,SP,SA,SQ,WP,WQ,sevalprocAttr,qe,eq_true hr]
abbrev pJ (S P:PV) (n i m j:Int):Tr:=((((((((Tr.lf.set 22 (.pv (i64 j))).set 21 (.pv (i64 m))).set 20 (.pv P)).set 12 (.pv (i64 i))).set 11 (.pv (i64 n))).set 10 (.pv S)).set 6 (.ptr 4 0)).set 3 (.ptr 1 0)).set 2 (.ptr 0 0)
abbrev rP (S:PV) (n i:Int):Tr:=((((Tr.lf.set 12 (.pv (i64 i))).set 11 (.pv (i64 n))).set 10 (.pv S)).set 3 (.ptr 1 0)).set 2 (.ptr 0 0)
abbrev UY (out:List PV) (nl:Bool):List ba:=[.box [.pv .ma],.box [.uq 2 nl 2 out],.tok 2 out.length nl]
abbrev GI (out:List PV) (nl:Bool) (P:PV) (f:Int) (ps:List PV) (nl1:Bool):List ba:=[.box [.pv .ma],.box [.uq 2 nl 2 out],.tok 2 out.length nl,.box [.pv P,.pv (i64 f)],.box [.uq 5 nl1 1 ps,.pv (i64 f)],.tok 1 ps.length nl1]
theorem YM {P S:PV} {ls:List (List (Int×Int))} {ps:List PV} (hP:rf P ls ps) (Ba:∀ l∈ls,l≠[]) (h8:ls.length≤8) (out:List PV) (nl:Bool) (f n i:Int):
 ∃ E nl1,ab (ga (ua (Ea (fun _=>none) 8) Mh) (fa 6 [2,3,6,10,11,12,20,21,22])) qa ⟨pJ S P n i ls.length 0,GI out nl P f [] true⟩=
  some (.exit 2,⟨E,GI out nl P f (ls.map oe) nl1⟩)∧(nl1=true→ls=[])∧E.get 2= .ptr 0 0∧E.get 3= .ptr 1 0∧E.get 6= .ptr 4 0∧E.get 10= .pv S∧E.get 11= .pv (i64 n)∧E.get 12= .pv (i64 i):=by
 have key:=wb (g:=ga (ua (Ea (fun _=>none) 8) Mh) (fa 6 [2,3,6,10,11,12,20,21,22]))
  (fun j t=>∃ nl1,t=⟨pJ S P n i ls.length j,GI out nl P f ((ls.take j).map oe) nl1⟩∧(nl1=true→j=0))
  (Q:=fun r=>∃ E nl1,r=(.exit 2,⟨E,GI out nl P f (ls.map oe) nl1⟩)∧(nl1=true→ls=[])∧E.get 2= .ptr 0 0∧E.get 3= .ptr 1 0∧E.get 6= .ptr 4 0∧E.get 10= .pv S∧E.get 11= .pv (i64 n)∧E.get 12= .pv (i64 i))
  ls.length (by unfold qa;omega) ⟨pJ S P n i ls.length (0:Nat),GI out nl P f [] true⟩ ⟨true,rfl,fun _=>rfl⟩ ?_ ?_
 ·obtain⟨r,h1,_,E,nl1,rfl,h2⟩:=xc key
  exact⟨E,nl1,h1,h2⟩
 ·rintro j t hj ⟨nl1,rfl,hnl⟩
  obtain⟨v,hv,hpt,_⟩:=hP.sd hj []
  have a1:=hP.Dw hv
  obtain⟨w,hcl,_,hw⟩:=vP hpt
  have hw:=hw (Ba _ (List.getElem_mem hj))
  subst hw
  have htk:(ls.take (j+1)).map oe=(ls.take j).map oe++[.lit 2 (Hd ls[j])]:=by
   rw[List.take_succ_eq_append_getElem hj,List.map_append];rfl
  have hpl:((ls.take j).map oe).length=j:=by simp;omega
  generalize ls[j]=l at *
  have e1:decide ((j:Int) < (ls.length:Int))=true:=Fa (by omega)
  have t2:=Ua hj (by unfold maxLen;omega)
  have r1:∀ H (x:PV),xa H false 1 (.pv (.rp [x] 0))=some (.pv x):=fun H x=>rfl
  have hap:=Fh (A:=GI out nl P f ((ls.take j).map oe) nl1) (id:=5) (n:=j) (h:= .uq) (ag:=false) (nl:=nl1) (sz:=1) (bytes:=24) (es:=(ls.take j).map oe) (by show some (ba.tok 1 ((ls.take j).map oe).length nl1)=_;rw[hpl]) hpl.symm (by unfold qb;omega) (.lit 2 (Hd l))
  have hlen1:((ls.take j).map oe++[PV.lit 2 (Hd l)]).length=j+1:=by rw[List.length_append,hpl];rfl
  have hap':Yb (GI out nl P f ((ls.take j).map oe) nl1) false .uq 1 false 24 (.uq 5 nl1 1 ((ls.take j).map oe)) (.pv (.lit 1 [.lit 2 (Hd l)]))=some (.uq 5 false 1 ((ls.take j).map oe++[.lit 2 (Hd l)]),[.box [.pv .ma],.box [.uq 2 nl 2 out],.tok 2 out.length nl,.box [.pv P,.pv (i64 f)],.box [.uq 5 nl1 1 ((ls.take j).map oe),.pv (i64 f)],.tok 1 (j+1) false]):=hap
  unfold GI at hap' ⊢
  rw[hpl] at hap' ⊢
  have p0:∀ (x:AV) (y z:ba),place [.box [.pv .ma],.box [.uq 2 nl 2 out],y,.box [.pv P,.pv (i64 f)],.box [x,.pv (i64 f)],z] 0 (.ptr 4 0)=some (.ptr 4 0):=fun x y z=>rfl
  have l0:∀ (x:AV) (y z:ba),xa [.box [.pv .ma],.box [.uq 2 nl 2 out],y,.box [.pv P,.pv (i64 f)],.box [x,.pv (i64 f)],z] false 1 (.ptr 4 0)=some x:=fun x y z=>rfl
  have s0:∀ (x:AV) (y z:ba) (es:List PV),Oa [.box [.pv .ma],.box [.uq 2 nl 2 out],y,.box [.pv P,.pv (i64 f)],.box [x,.pv (i64 f)],z] 1 (.ptr 4 0) (.uq 5 false 1 es)=some [.box [.pv .ma],.box [.uq 2 nl 2 out],y,.box [.pv P,.pv (i64 f)],.box [.uq 5 false 1 es,.pv (i64 f)],z]:=fun x y z es=>rfl
  generalize hp0:(ls.take j).map oe=ps0 at *
  generalize hL:PV.lit 2 (Hd l)=L at *
  have hL1:(AV.pv L).cells=[.pv L]∧(AV.pv L).one=true:=by rw[← hL];exact⟨rfl,rfl⟩
  have b5:(5 < 6)=True:=by simp
  have b4:(4 < 6)=True:=by simp
  have b2:(2 < 6)=True:=by simp
  have b1:(1 < 6)=True:=by simp
  have b0:(0 < 6)=True:=by simp
  have hLc:L.cells=[L]:=by rw[← hL];rfl
  generalize hQ:LN _ _ j=Q
  subst hL
  simp -implicitDefEqProofs only[SP,WP,oa,sevalprocAttr,Mh,e1,t2,a1,r1,p0,l0,s0,hcl,hap',b0,b1,b2,b4,b5,fa,Aa,AV.cut,na,Ra,pa,pJ]
  subst hQ
  refine⟨false,?_,by simp⟩
  rw[htk,hlen1]
 ·rintro t ⟨nl1,rfl,hnl⟩
  rw[List.take_length]
  have e1:decide ((ls.length:Int) < (ls.length:Int))=false:=Ga (by omega)
  generalize hQ:(fun r:Ex×St=>r.1.stop=true∧_)=Q
  simp -implicitDefEqProofs only[SX,sevalprocAttr,Mh,e1,pJ]
  subst hQ
  exact⟨rfl,_,nl1,rfl,fun h=>List.eq_nil_of_length_eq_zero (hnl h),by simp[Tr.aa],by simp[Tr.aa],by simp[Tr.aa],by simp[Tr.aa],by simp[Tr.aa],by simp[Tr.aa]⟩
theorem ZE {S:PV} {ss:List Lb} {es:List PV} (hS:eb S ss es) (Ba:Tb ss):∃ S',Ti [.agg [S]]=some (.agg [S'])∧Vi 2 S' (ss.map Oe):=by
 have lS:=hS.Vb
 have h32:=Ba.len
 have hSone:(AV.pv S).one=true:=by rcases hS.is with⟨h,_⟩ | h <;> rw[h] <;> rfl
 have hloop:Gd (fun r=>∃ E nl,r=(.exit 0,⟨E,UY (ss.map Oe) nl⟩)∧(nl=true→ss=[])∧E.get 2= .ptr 0 0∧E.get 3= .ptr 1 0)
  (ab (ga (ua (Ea (fun _=>none) 8) Jh) (fa 3 [2,3,10,11,12])) qa ⟨rP S ss.length 0,UY [] true⟩):=by
  refine za (wb (g:=ga (ua (Ea (fun _=>none) 8) Jh) (fa 3 [2,3,10,11,12]))
   (fun i t=>∃ nl,t=⟨rP S ss.length i,UY ((ss.take i).map Oe) nl⟩∧(nl=true→i=0))
   (Q:=fun r=>∃ E nl,r=(.exit 0,⟨E,UY (ss.map Oe) nl⟩)∧(nl=true→ss=[])∧E.get 2= .ptr 0 0∧E.get 3= .ptr 1 0)
   ss.length (by unfold qa;omega) _ ⟨true,rfl,fun _=>rfl⟩ ?_ ?_) (fun r h=>h.2)
  ·rintro i t hi ⟨nl,rfl,hnl⟩
   obtain⟨P,ps,hPs,a1⟩:=hS.sd hi
   have ok:=Ba.Xo _ (List.getElem_mem hi)
   obtain⟨hP1,hP2⟩:=hPs.Pv
   have lP:=hPs.parts.Vb
   have htk:(ss.take (i+1)).map Oe=(ss.take i).map Oe++[Oe ss[i]]:=by
    rw[List.take_succ_eq_append_getElem hi,List.map_append];rfl
   have hpl:((ss.take i).map Oe).length=i:=by simp;omega
   obtain⟨E,nl1,hin,hnl1,g2,g3,g6,g10,g11,g12⟩:=YM (S:=S) hPs.parts (fun l hl=>(ok.parts l hl).1) ok.hi ((ss.take i).map Oe) nl ss[i].first ss.length i
   have hnl1f:nl1=false:=by
    cases nl1 with
    |false=>rfl
    |true=>have:=hnl1 rfl;have h2:=ok.lo;rw[this] at h2;simp at h2
   subst hnl1f
   have hes:Oe ss[i]= .agg [.lit 1 (ss[i].parts.map oe),i64 ss[i].first]:=rfl
   rw[hes] at htk
   generalize ss[i]=p at *
   have e1:decide ((i:Int) < (ss.length:Int))=true:=Fa (by omega)
   have t2:=Ua hi (by unfold maxLen;omega)
   have a2:∀ H,xa H true 2 (.pv (.rp [P,i64 p.first] 0))=some (.pv (.agg [P,i64 p.first])):=fun H=>rfl
   generalize (ss.take i).map Oe=out at *
   generalize p.parts.map oe=pp at *
   subst hpl
   unfold GI at hin
   unfold UY
   have hlo:(out++[PV.agg [.lit 1 pp,i64 p.first]]).length=out.length+1:=by simp
   have hap:∀ (T:List ba),Yb ([.box [.pv .ma],.box [.uq 2 nl 2 out],.tok 2 out.length nl]++T) false .uq 2 true 32 (.uq 2 nl 2 out) (.pv (.lit 2 [.agg [.lit 1 pp,i64 p.first]]))=some (.uq 2 false 2 (out++[.agg [.lit 1 pp,i64 p.first]]),[.box [.pv .ma],.box [.uq 2 nl 2 out],.tok 2 (out.length+1) false]++T):=fun T=>
    Fh (A:=[.box [.pv .ma],.box [.uq 2 nl 2 out],.tok 2 out.length nl]++T) (id:=2) (n:=out.length) (h:= .uq) (ag:=true) (nl:=nl) (sz:=2) (bytes:=32) (es:=out) rfl rfl (by unfold qb;omega) _
   have hap1:=fun a b c=>hap [a,b,c]
   simp only[List.cons_append,List.nil_append] at hap1
   have s1:∀ T:List ba,Oa ([.box [.pv .ma],.box [.uq 2 nl 2 out],.tok 2 out.length nl,.box [.pv .ma,.pv (i64 0)]]) 2 (.ptr 3 0) (.pv (.agg [P,i64 p.first]))=some [.box [.pv .ma],.box [.uq 2 nl 2 out],.tok 2 out.length nl,.box [.pv P,.pv (i64 p.first)]]:=fun T=>
    vj _ _ _ _ hP1 rfl [.box [.pv .ma],.box [.uq 2 nl 2 out],.tok 2 out.length nl] _ rfl
   have s1':=s1 []
   have b5:(5 < 6)=True:=by simp
   have b4:(4 < 6)=True:=by simp
   have b2:(2 < 6)=True:=by simp
   have b1:(1 < 6)=True:=by simp
   have b0:(0 < 6)=True:=by simp
   have c2:(2 < 3)=True:=by simp
   have c1:(1 < 3)=True:=by simp
   have c0:(0 < 3)=True:=by simp
   have hz:(0 < 1)=True:=by simp
   generalize hQ:LN _ _ out.length=Q
   have hin':ab (ga (ua (Ea (fun _=>none) 8) Mh) (fa 6 [2,3,6,10,11,12,20,21,22])) qa ⟨((((((((Tr.lf.set 22 (.pv (.int .i64 0))).set 21 (.pv (i64 p.parts.length))).set 20 (.pv P)).set 12 (.pv (i64 out.length))).set 11 (.pv (i64 ss.length))).set 10 (.pv S)).set 6 (.ptr 4 0)).set 3 (.ptr 1 0)).set 2 (.ptr 0 0),[.box [.pv .ma],.box [.uq 2 nl 2 out],.tok 2 out.length nl,.box [.pv P,.pv (i64 p.first)],.box [.uq 5 true 1 [],.pv (i64 p.first)],.tok 1 0 true]⟩=_:=hin
   simp -implicitDefEqProofs only[SP,SA,SQ,sevalprocAttr,ga,Jh,xb,e1,a1,a2,s1',hP1,lP,Be,hz,b0,b1,b2,b4,b5,fa,Aa,AV.cut,na,Ma,Ra,pa,rP]
   rw[hin']
   simp -implicitDefEqProofs only[SP,SQ,WP,WQ,↓reduceIte,reduceCtorEq,Nat.reduceAdd,Nat.reduceMul,Nat.reduceLeDiff,Nat.reduceEqDiff,Int.reduceLT,Int.reduceLE,Int.reduceBEq,Int.reduceEq,Nat.reduceBEq,Nat.reduceLT,Nat.reduceSub,g2,g3,g6,g10,g11,g12,hap1,t2,c0,c1,c2,fa,Aa,AV.cut,na,Ra,pa]
   subst hQ
   exact⟨false,by rw[htk,hlo],by simp⟩
  ·rintro t ⟨nl,rfl,hnl⟩
   rw[List.take_length]
   have e1:decide ((ss.length:Int) < (ss.length:Int))=false:=Ga (by omega)
   generalize hQ:(fun r:Ex×St=>r.1.stop=true∧_)=Q
   simp -implicitDefEqProofs only[SX,sevalprocAttr,Jh,e1,rP]
   subst hQ
   exact⟨rfl,_,nl,rfl,fun h=>List.eq_nil_of_length_eq_zero (hnl h),by simp[Tr.aa],by simp[Tr.aa]⟩
 obtain⟨r,h1,E,nl,rfl,hnl,g2,g3⟩:=xc hloop
 have h1':ab (ga (ua (Ea (fun _=>none) 8) Jh) (fa 3 [2,3,10,11,12])) qa ⟨((((Tr.lf.set 12 (.pv (.int .i64 0))).set 11 (.pv (i64 ss.length))).set 10 (.pv S)).set 3 (.ptr 1 0)).set 2 (.ptr 0 0),[.box [.pv .ma],.box [.uq 2 true 2 []],.tok 2 0 true]⟩=_:=h1
 have hz:(0 < 2)=True:=by simp
 have c2:(2 < 3)=True:=by simp
 have c1:(1 < 3)=True:=by simp
 have c0:(0 < 3)=True:=by simp
 have hout:nl=true→ss.map Oe=[]:=fun h=>by rw[hnl h];rfl
 generalize ss.map Oe=out at *
 cases nl with
 |true=>
  refine⟨.ma,?_,.inl ⟨rfl,?_⟩⟩
  ·simp -implicitDefEqProofs only[Ti,SP,SA,SQ,sevalprocAttr,ga,Yn,xb,hSone,tF,lS,Be,hz,c0,c1,c2,fa,Aa,AV.cut,na,Ma,Ra,pa,h1',g2,g3]
  ·exact hout rfl
 |false=>
  refine⟨.lit 2 out,?_,.inr rfl⟩
  simp -implicitDefEqProofs only[Ti,SP,SA,SQ,sevalprocAttr,ga,Yn,xb,hSone,tF,lS,Be,hz,c0,c1,c2,fa,Aa,AV.cut,na,Ma,Ra,pa,h1',g2,g3]
end Go.AM.B1
namespace Go.AM.B1
open Go.AM Go.AM.So
theorem Tb.ne {ss:List Lb} (h:Tb ss):∀ s∈ss,0 < s.parts.length:=fun s hs=>(h.Xo s hs).lo
theorem eb.CZ {S:PV} {ss:List Lb} {es:List PV} (h:eb S ss es):∀ s∈ss,∀ l∈s.parts,l.length * 16≤140737488355328:=by
 intro s hs l hl
 obtain⟨i,hi,rfl⟩:=List.getElem_of_mem hs
 obtain⟨e,P,ps,_,_,hp⟩:=h.get hi
 obtain⟨j,hj,rfl⟩:=List.getElem_of_mem hl
 obtain⟨v,_,_,hv⟩:=hp.parts.get hj
 exact hv.sz
theorem yi {S:PV} {ss:List Lb} {es:List PV} (hS:eb S ss es):
 (¬ Tb ss→Cc [.agg [S]]=some (.mc [.agg [.ma],i64 84]))∧
 (Tb ss→¬xg ss→Cc [.agg [S]]=some (.mc [.agg [.ma],i64 110]))∧
 (Tb ss→xg ss→sg ss=none→Cc [.agg [S]]=some (.mc [.agg [.ma],i64 130]))∧
 (Tb ss→xg ss→∀ l,sg ss=some l→Cc [.agg [S]]=some (.mc [.agg [qj l],i64 0])):=by
 have hS0:S= .ma∨∃ l,S= .lit 2 l:=by
  rcases hS.is with⟨h,_⟩ | h
  ·exact .inl h
  ·exact .inr ⟨_,h⟩
 have hp:=gD hS
 refine⟨?_,?_,?_,?_⟩
 ·intro h
  exact SR S hS0 (by decide) (hp.1 h)
 ·intro h1 h2
  obtain⟨y,a,b,h3,h4⟩:=hp.2 h1
  have hy:y=false:=by cases y with | false=>rfl | true=>exact absurd (h4.1 rfl) h2
  subst hy
  exact sV S hS0 h3
 ·intro h1 h2 h5
  obtain⟨y,a,b,h3,h4⟩:=hp.2 h1
  have hy:=h4.2 h2
  subst hy
  obtain⟨S',hc,hs⟩:=ZE hS h1
  exact lN S S' ss hS0 h3 hc hs h1.len hS.CZ h1.ne h5
 ·intro h1 h2 l h5
  obtain⟨y,a,b,h3,h4⟩:=hp.2 h1
  have hy:=h4.2 h2
  subst hy
  obtain⟨S',hc,hs⟩:=ZE hS h1
  exact yS S S' ss hS0 h3 hc hs h1.len hS.CZ h1.ne h5
end Go.AM.B1
namespace Go.AM.B1
open Go.AM Go.AM.So
abbrev Eb (es:List PV):ba:= .box (es.map .pv)
theorem ej {A:List ba} {id:Nat} {es:List PV} (hg:A[id]? =some (Eb es)) (o d:Nat):place A d (.ptr id o)=some (.ptr id (o+d)):=by
 simp only[place,hg]
theorem eE {A:List ba} {id:Nat} {es:List PV} (hg:A[id]? =some (Eb es)) {k:Nat} {e:PV} (hk:es[k]? =some e):xa A false 1 (.ptr id k)=some (.pv e):=by
 simp only[xa,hg,bh,Bool.false_eq_true,if_false,List.getElem?_map,hk,Option.map_some]
theorem cx {A:List ba} {id:Nat} {es:List PV} (hg:A[id]? =some (Eb es)) {k:Nat} (hk:k < es.length) {e:PV} (hc:e.cells=[e]) (h1:(AV.pv e).one=true):Oa A 1 (.ptr id k) (.pv e)=some (A.set id (Eb (es.set k e))):=by
 have hc':(AV.pv e).cells=[.pv e]:=by simp[AV.cells,hc]
 simp only[Oa,hg,hc']
 rw[if_pos ⟨rfl,by simp[h1]⟩,if_pos (by simp;omega),oa,oa]
 show _=some (A.set id (.box ((es.set k e).map .pv)))
 rw[List.map_set]
theorem uf:∀ (es:List PV),ve (es.map .pv)=some es
 | []=>rfl
 |e::es=>by rw[List.map_cons,ve,uf es];rfl
theorem gm {A:List ba} {id n:Nat} {es:List PV} (hg:A[id]? =some (Eb es)) (hn:es.length=n):xa A true n (.ptr id 0)=some (.pv (.agg es)):=by
 simp only[xa,hg,bh,if_true]
 rw[if_pos (by simp;omega)]
 have:List.take n (List.drop 0 (es.map AV.pv))=es.map AV.pv:=by rw[List.drop_zero,List.take_of_length_le (by simp;omega)]
 rw[this,Ir,uf]
theorem Qu {α:Type}:∀ (vs cs pre:List α),cs.length=vs.length→oa (pre++cs) pre.length vs=pre++vs
 | [],cs,pre,h=>by cases cs with | nil=>rfl | cons=>simp at h
 |v::vs,cs,pre,h=>by
  cases cs with
  |nil=>simp at h
  |cons c cs=>
   have:(pre++c::cs).set pre.length v=(pre++[v])++cs:=by simp
   rw[oa,this]
   have h2:=Qu vs cs (pre++[v]) (by simpa using h)
   simp only[List.length_append,List.length_singleton] at h2
   rw[h2];simp
theorem Qp {A:List ba} {id n:Nat} {es fs:List PV} (hg:A[id]? =some (Eb es)) (hn:es.length=n) (hf:fs.length=n) (h1:∀ e∈fs,(AV.pv e).one=true):Oa A n (.ptr id 0) (.pv (.agg fs))=some (A.set id (Eb fs)):=by
 have hc':(AV.pv (.agg fs)).cells=fs.map .pv:=rfl
 simp only[Oa,hg,hc']
 rw[if_pos ⟨by simp[hf],by rw[List.all_eq_true];intro v hv;obtain⟨e,he,rfl⟩:=List.mem_map.1 hv;exact h1 e he⟩,if_pos (by simp;omega)]
 have:=Qu (fs.map AV.pv) (es.map AV.pv) [] (by simp;omega)
 simp only[List.nil_append,List.length_nil] at this
 rw[this]
theorem Mg (es:List PV) (n:Nat):na n (Eb es)=some (Eb es):=by
 have:Ra (AV.cut n deep) (es.map AV.pv)=some (es.map AV.pv):=by
  refine vl ?_
  intro v hv
  obtain⟨e,_,rfl⟩:=List.mem_map.1 hv
  exact Ma
 simp only[na,this,Option.map_some]
def uu (l:List (Int×Int)) (i:Nat):Int:=match i with
 |0=> -2
 |k+1=>match l[k]? with | some p=>p.2 | none=> -2
abbrev gz (v:PV) (i:Int):Tr:=(Tr.lf.set 3 (.pv (i64 i))).set 0 (.pv v)
theorem ay {v:PV} {l:List (Int×Int)} (hv:Vi 2 v (Hd l)) (hw:l.length * 16≤140737488355328):Yf [v]=some (.bool (Qa 255 (-2) l)):=by
 have hloop:Gd (fun r=>∃ E,(r=(.exit 0,⟨E,[]⟩)∧Qa 255 (-2) l=true)∨(r=(.ret,⟨E,[]⟩)∧E.get 2= .pv (.bool false)∧Qa 255 (-2) l=false))
  (ab (ga (ua (Ea (fun _=>none) 8) Mb) (fa 0 [0,3])) qa ⟨gz v 0,[]⟩):=by
  refine za (wb (g:=ga (ua (Ea (fun _=>none) 8) Mb) (fa 0 [0,3]))
   (fun i t=>t=⟨gz v i,[]⟩∧ -2≤uu l i∧uu l i≤255∧Qa 255 (-2) l=Qa 255 (uu l i) (l.drop i))
   l.length (by unfold qa;omega) _ ⟨rfl,Int.le_refl _,by show (-2:Int)≤255;decide,rfl⟩ ?_ ?_) (fun r h=>h.2)
  ·rintro i t hi ⟨rfl,hlz,hla,hs⟩
   have hl:=hv.lit (i:=i) (by simpa using hi)
   subst hl
   have hd:l.drop i=l[i]::l.drop (i+1):=List.drop_eq_getElem_cons hi
   have hnext:uu l (i+1)=l[i].2:=by simp[uu,hi]
   have a1:=Qj [] hi
   have hprev:0 < i→∃ a b,uu l i=b∧IntKind.i64.wrap ((i:Int) - 1)=((i - 1:Nat):Int)∧wa [] 2 (.pv (.lit 2 (Hd l))) ((i - 1:Nat):Int)=some (.pv (.rp [i64 a,i64 b] 0)):=by
    intro h0
    have hi1:i - 1 < l.length:=by omega
    refine⟨l[i - 1].1,l[i - 1].2,?_,?_,Qj [] hi1⟩
    ·obtain⟨k,rfl⟩:∃ k,i=k+1:=⟨i - 1,by omega⟩
     simp[uu,show k < l.length by omega]
    ·rw[show (i:Int) - 1=((i - 1:Nat):Int) by omega]
     exact Ca (by omega)
   have e1:decide ((i:Int) < (l.length:Int))=true:=Fa (by omega)
   have t2:=Ua hi (by unfold maxLen;omega)
   have ln:=Vi.len (sz:=2) (v:= .lit 2 (Hd l)) (es:=Hd l) (.inr rfl) []
   have lp:(Hd l).length=l.length:=by simp[Hd]
   rw[lp] at ln
   rw[hd,Qa] at hs
   have l0:∀ a b:PV,xa [] false 1 (.pv (.rp [a,b] 0))=some (.pv a):=fun a b=>rfl
   have l1:∀ a b:PV,xa [] false 1 (.pv (.rp [a,b] 1))=some (.pv b):=fun a b=>rfl
   have p0:∀ a b:PV,place [] 0 (.pv (.rp [a,b] 0))=some (.pv (.rp [a,b] 0)):=fun a b=>rfl
   have p1:∀ a b:PV,place [] 1 (.pv (.rp [a,b] 0))=some (.pv (.rp [a,b] 1)):=fun a b=>rfl
   generalize l[i]=p at *
   generalize hV:Qa 255 p.2 (l.drop (i+1))=V at *
   generalize Hd l=es at *
   generalize hQ:LN _ _ i=Q
   by_cases c1:p.1 < 0
   ·have d1:=Fa c1
    simp -implicitDefEqProofs only[SX,sevalprocAttr,-List.reduceReplicate,Mb,e1,ln,a1,l0,l1,p0,p1,d1,gz]
    subst hQ
    rw[d1] at hs
    exact⟨_,.inr ⟨rfl,by simp[Tr.aa],by simpa using hs⟩⟩
   have d1:=Ga c1
   by_cases c2:p.1 > p.2
   ·have d2:=Fa c2
    simp -implicitDefEqProofs only[SX,sevalprocAttr,-List.reduceReplicate,Mb,e1,ln,a1,l0,l1,p0,p1,d1,d2,gz]
    subst hQ
    rw[d2] at hs
    exact⟨_,.inr ⟨rfl,by simp[Tr.aa],by simpa using hs⟩⟩
   have d2:=Ga c2
   by_cases c3:p.2 > 255
   ·have d3:=Fa c3
    simp -implicitDefEqProofs only[SX,sevalprocAttr,-List.reduceReplicate,Mb,e1,ln,a1,l0,l1,p0,p1,d1,d2,d3,gz]
    subst hQ
    rw[d3] at hs
    exact⟨_,.inr ⟨rfl,by simp[Tr.aa],by simpa using hs⟩⟩
   have d3:=Ga c3
   have hs3:∀ b,decide (p.1 - 1≤uu l i)=b→Qa 255 (-2) l=(!b&&V):=by
    intro b hb
    rw[hs,d1,d2,d3,hb];simp
   by_cases h0:0 < i
   ·obtain⟨a,b,hb,t3,a2⟩:=hprev h0
    have e0:decide ((i:Int) > 0)=true:=Fa (by omega)
    rw[hb] at hla hlz hs3
    have t5:IntKind.i64.wrap (b+1)=b+1:=Ca (by omega)
    by_cases c4:p.1≤b+1
    ·have d4:=Fa c4
     have hlow:Qa 255 (-2) l=false:=by
      rw[hs3 true (Fa (by omega))];rfl
     simp -implicitDefEqProofs only[SX,sevalprocAttr,-List.reduceReplicate,Mb,e1,ln,a1,l0,l1,p0,p1,d1,d2,d3,e0,t3,t5,a2,d4,gz]
     subst hQ
     exact⟨_,.inr ⟨rfl,by simp[Tr.aa],hlow⟩⟩
    ·have d4:=Ga c4
     simp -implicitDefEqProofs only[SX,sevalprocAttr,-List.reduceReplicate,Mb,e1,ln,a1,l0,l1,p0,p1,d1,d2,d3,e0,t2,t3,t5,a2,d4,fa,Aa,AV.cut,pa,gz]
     subst hQ
     refine⟨rfl,by omega,by omega,?_⟩
     rw[hnext,hV,hs3 false (Ga (by omega))];rfl
   ·have e0:decide ((i:Int) > 0)=false:=Ga (by omega)
    have hi0:uu l i= -2:=by
     have:i=0:=by omega
     subst this;rfl
    simp -implicitDefEqProofs only[SX,sevalprocAttr,-List.reduceReplicate,Mb,e1,ln,a1,l0,l1,p0,p1,d1,d2,d3,e0,t2,fa,Aa,AV.cut,pa,gz]
    subst hQ
    refine⟨rfl,by omega,by omega,?_⟩
    rw[hnext,hV,hs3 false (Ga (by omega))];rfl
  ·rintro t ⟨rfl,hlz,hla,hs⟩
   rw[List.drop_length,Qa] at hs
   have ln:=hv.len []
   rw[show (Hd l).length=l.length by simp[Hd]] at ln
   have e1:decide ((l.length:Int) < (l.length:Int))=false:=Ga (by omega)
   generalize hQ:(fun r:Ex×St=>r.1.stop=true∧_)=Q
   simp -implicitDefEqProofs only[SX,sevalprocAttr,-List.reduceReplicate,Mb,e1,ln,gz]
   subst hQ
   exact⟨rfl,_,.inl ⟨rfl,hs⟩⟩
 apply Yk
 simp -implicitDefEqProofs only[Yf,SX,sevalprocAttr,-List.reduceReplicate,yj,xb,fa,Aa,AV.cut,pa]
 refine za hloop ?_
 rintro _ ⟨E,⟨rfl,hb⟩ | ⟨rfl,hE,hb⟩⟩
 ·simp -implicitDefEqProofs only[SX,sevalprocAttr,-List.reduceReplicate,hb]
 ·simp -implicitDefEqProofs only[SX,sevalprocAttr,-List.reduceReplicate,hE,hb]
def Pf (f:Nat→Bool):List PV:=(List.range 256).map fun x=> .bool (f x)
theorem uo (f:Nat→Bool):(Pf f).length=256:=by simp[Pf]
theorem gO (f:Nat→Bool) {x:Nat} (h:x < 256):(Pf f)[x]? =some (.bool (f x)):=by simp[Pf,h]
theorem pM (f:Nat→Bool) {x:Nat} (h:x < (Pf f).length):(Pf f)[x]= .bool (f x):=by
 simp only[Pf,List.getElem_map,List.getElem_range]
theorem NW (f:Nat→Bool) {x:Nat} (h:x < 256) (b:Bool):(Pf f).set x (.bool b)=Pf fun y=>if y=x then b else f y:=by
 apply List.ext_getElem
 ·rw[List.length_set,uo,uo]
 ·intro j h1 h2
  rw[List.getElem_set,pM,pM]
  by_cases hj:x=j
  ·subst hj;rw[if_pos rfl,if_pos rfl]
  ·rw[if_neg hj,if_neg (Ne.symm hj)]
theorem Bt {f g:Nat→Bool} (h:∀ x,x < 256→f x=g x):Pf f=Pf g:=by
 unfold Pf
 apply List.map_congr_left
 intro x hx
 rw[h x (by simpa using hx)]
theorem iA:List.replicate 256 (PV.bool false)=Pf fun _=>false:=by
 apply List.ext_getElem
 ·rw[List.length_replicate,uo]
 ·intro j h1 h2;rw[List.getElem_replicate,pM]
theorem jO (f:Nat→Bool):∀ e∈Pf f,(AV.pv e).one=true:=by
 intro e he
 obtain⟨x,_,rfl⟩:=List.mem_map.1 he
 rfl
def Tv (l:List (Int×Int)) (x:Nat):Bool:=l.any fun p=>decide (p.1≤(x:Int))&&decide ((x:Int)≤p.2)
theorem Pu {l:List (Int×Int)} {x:Nat}:Tv l x=true↔Lj (x:Int) l:=by
 unfold Tv Lj;simp
abbrev SO (v:PV) (i y:Int):Tr:=((((Tr.lf.set 5 (.pv (i64 y))).set 4 (.pv (i64 i))).set 3 (.ptr 1 0)).set 2 (.ptr 0 0)).set 0 (.pv v)
abbrev WB (v:PV) (i:Int):Tr:=(((Tr.lf.set 4 (.pv (i64 i))).set 3 (.ptr 1 0)).set 2 (.ptr 0 0)).set 0 (.pv v)
theorem FF (call:Wa) {v:PV} {l:List (Int×Int)} (hv:Vi 2 v (Hd l)) {i:Nat} (hi:i < l.length) (hp:0≤l[i].1∧l[i].1≤l[i].2∧l[i].2≤255) (Z:List PV):
 Gd (fun r=>∃ E,r=(.exit 2,⟨E,[Eb Z,Eb (Pf (Tv (l.take (i+1))))]⟩)∧E.get 0= .pv v∧E.get 2= .ptr 0 0∧E.get 3= .ptr 1 0∧E.get 4= .pv (i64 i))
  (ab (ga (ua call we) (fa 2 [0,2,3,4,5])) qa ⟨SO v i l[i].1,[Eb Z,Eb (Pf (Tv (l.take i)))]⟩):=by
 have hl:=hv.lit (i:=i) (by simpa using hi)
 subst hl
 have a1:=fun A=>Qj A hi
 have htk:∀ x,Tv (l.take (i+1)) x=(Tv (l.take i) x||(decide (l[i].1≤(x:Int))&&decide ((x:Int)≤l[i].2))):=by
  intro x
  have:l.take (i+1)=l.take i++[l[i]]:=by simp
  rw[this];simp only[Tv,List.any_append,List.any_cons,List.any_nil,Bool.or_false]
 have l1:∀ (A:List ba) (a b:PV),xa A false 1 (.pv (.rp [a,b] 1))=some (.pv b):=fun A a b=>rfl
 have p1:∀ (A:List ba) (a b:PV),place A 1 (.pv (.rp [a,b] 0))=some (.pv (.rp [a,b] 1)):=fun A a b=>rfl
 generalize l[i]=p at *
 generalize hes:Hd l=es at *
 generalize hf:Tv (l.take i)=f at *
 have hlen:∀ f,(Pf f).length=256:=uo
 refine za (wb (g:=ga (ua call we) (fa 2 [0,2,3,4,5]))
  (fun k t=>t=⟨SO (.lit 2 es) i (p.1+k),[Eb Z,Eb (Pf fun x=>f x||(decide (p.1≤(x:Int))&&decide ((x:Int) < p.1+k)))]⟩)
  (p.2+1 - p.1).toNat (by unfold qa;omega) _ ?_ ?_ ?_) (fun r h=>h.2)
 ·have:(Pf fun x=>f x||(decide (p.1≤(x:Int))&&decide ((x:Int) < p.1+(0:Nat))))=Pf f:=by
   refine Bt fun x hx=> ?_
   have:(decide (p.1≤(x:Int))&&decide ((x:Int) < p.1+(0:Nat)))=false:=by
    rw[Bool.and_eq_false_iff]
    by_cases h:p.1≤(x:Int)
    ·exact .inr (Ga (by omega))
    ·exact .inl (Ga h)
   rw[this,Bool.or_false]
  rw[this,show p.1+((0:Nat):Int)=p.1 by omega]
 ·rintro k t hk rfl
  obtain⟨y,hy⟩:∃ y:Nat,p.1+(k:Int)=y:=⟨(p.1+k).toNat,by omega⟩
  have hy256:y < 256:=by omega
  have e1:decide ((y:Int)≤p.2)=true:=Fa (by omega)
  have hq:Ia (y:Int) 256:=by unfold Ia;omega
  have t1:((y:Int)).toNat=y:=by simp
  have m1:y * 1=y:=by omega
  have z1:0+y=y:=by omega
  have t2:IntKind.i64.wrap ((y:Int)+1)=((y+1:Nat):Int):=Ca (by omega)
  rw[hy]
  have hnew:(Pf fun x=>f x||(decide (p.1≤(x:Int))&&decide ((x:Int) < (y:Int)))).set y (.bool true)=Pf fun x=>f x||(decide (p.1≤(x:Int))&&decide ((x:Int) < p.1+(k+1:Nat))):=by
   rw[NW _ hy256]
   refine Bt fun x hx=> ?_
   by_cases hxy:x=y
   ·have h1:p.1≤(x:Int):=by omega
    have h2:(x:Int) < p.1+(k+1:Nat):=by omega
    rw[if_pos hxy,Fa h1,Fa h2];simp
   ·have:((x:Int) < (y:Int))=((x:Int) < p.1+(k+1:Nat)):=by apply propext;omega
    rw[if_neg hxy];simp only[this]
  have hl1:=hlen fun x=>f x||(decide (p.1≤(x:Int))&&decide ((x:Int) < (y:Int)))
  generalize hT:(Pf fun x=>f x||(decide (p.1≤(x:Int))&&decide ((x:Int) < (y:Int))))=T at *
  have pl:=ej (A:=[Eb Z,Eb T]) (id:=1) (es:=T) rfl 0 y
  have st:=cx (A:=[Eb Z,Eb T]) (id:=1) (es:=T) rfl (k:=y) (by omega) (e:= .bool true) rfl rfl
  rw[hnew] at st
  rw[z1] at pl
  have st2:([Eb Z,Eb T]:List ba).set 1 (Eb (Pf fun x=>f x||(decide (p.1≤(x:Int))&&decide ((x:Int) < p.1+(k+1:Nat)))))=[Eb Z,Eb (Pf fun x=>f x||(decide (p.1≤(x:Int))&&decide ((x:Int) < p.1+(k+1:Nat))))]:=rfl
  rw[st2] at st
  have c1:=Mg Z 2
  have c2:=Mg (Pf fun x=>f x||(decide (p.1≤(x:Int))&&decide ((x:Int) < p.1+(k+1:Nat)))) 2
  have hfin:p.1+((k+1:Nat):Int)=((y+1:Nat):Int):=by omega
  generalize hT':(Pf fun x=>f x||(decide (p.1≤(x:Int))&&decide ((x:Int) < p.1+(k+1:Nat))))=T' at *
  have hcl:Ra (na 2) [Eb Z,Eb T']=some [Eb Z,Eb T']:=by simp[Ra,c1,c2]
  have htk2:([Eb Z,Eb T']:List ba).take 2=[Eb Z,Eb T']:=rfl
  generalize Eb Z=oz at *
  generalize Eb T=ot at *
  generalize hot:Eb T'=ot' at *
  have d0:(0 < 2)=True:=by simp
  have d1:(1 < 2)=True:=by simp
  generalize hQ:LN _ _ k=Q
  simp -implicitDefEqProofs only[SX,sevalprocAttr,-List.reduceReplicate,we,e1,a1,l1,p1,eq_true hq,t1,m1,pl,st,t2,hcl,htk2,d0,d1,fa,Aa,AV.cut,pa,SO]
  subst hQ
  show (_:St)=_
  rw[hT',hot,hfin]
 ·rintro t rfl
  have e1:decide (p.1+((p.2+1 - p.1).toNat:Int)≤p.2)=false:=Ga (by omega)
  have hfin:(Pf fun x=>f x||(decide (p.1≤(x:Int))&&decide ((x:Int) < p.1+((p.2+1 - p.1).toNat:Int))))=Pf (Tv (l.take (i+1))):=by
   refine Bt fun x hx=> ?_
   have:((x:Int) < p.1+((p.2+1 - p.1).toNat:Int))=((x:Int)≤p.2):=by apply propext;omega
   rw[htk];simp only[this]
  rw[hfin]
  generalize Eb (Pf (Tv (l.take (i+1))))=ot
  generalize Eb Z=oz
  generalize hQ:(fun r:Ex×St=>r.1.stop=true∧_)=Q
  simp -implicitDefEqProofs only[SX,sevalprocAttr,-List.reduceReplicate,we,e1,a1,l1,p1,SO]
  subst hQ
  exact⟨rfl,_,rfl,by simp[Tr.aa],by simp[Tr.aa],by simp[Tr.aa],by simp[Tr.aa]⟩
theorem Wm {l:List (Int×Int)} {last:Int} (h:Qa 255 last l=true):∀ p∈l,0≤p.1∧p.1≤p.2∧p.2≤255:=by
 induction l generalizing last with
 |nil=>intro p hp;cases hp
 |cons q l ih=>
  simp only[Qa,Bool.and_eq_true,Bool.not_eq_true',Bool.or_eq_false_iff,decide_eq_false_iff_not] at h
  intro p hp
  rcases List.mem_cons.1 hp with rfl | hp
  ·omega
  ·exact ih h.2 p hp
def wi (l:List (Int×Int)) (x:Nat):Bool:=Qa 255 (-2) l&&Tv l x
theorem gw {v:PV} {l:List (Int×Int)} (hv:Vi 2 v (Hd l)) (hw:l.length * 16≤140737488355328):gd [v]=some (.agg (Pf (wi l))):=by
 have hvr:=ay hv hw
 have hz:([]++[ba.box (List.map AV.pv (List.replicate 256 (PV.bool false)))]++[ba.box (List.map AV.pv (List.replicate 256 (PV.bool false)))]:List ba)=[Eb (Pf fun _=>false),Eb (Pf fun _=>false)]:=by rw[iA];rfl
 have hz1:ba.box (List.map AV.pv (List.replicate 256 (PV.bool false)))=Eb (Pf fun _=>false):=by rw[iA]
 have hone:∀ f,xa [Eb (Pf fun _=>false),Eb (Pf f)] true 256 (.ptr 1 0)=some (.pv (.agg (Pf f))):=fun f=>gm (id:=1) rfl (uo f)
 have hst:∀ f,Oa [Eb (Pf fun _=>false),Eb (Pf f)] 256 (.ptr 0 0) (.pv (.agg (Pf f)))=some [Eb (Pf f),Eb (Pf f)]:=fun f=>Qp (id:=0) rfl (uo _) (uo f) (jO f)
 have hl2:∀ f,xa [Eb (Pf f),Eb (Pf f)] true 256 (.ptr 0 0)=some (.pv (.agg (Pf f))):=fun f=>gm (id:=0) rfl (uo f)
 by_cases Ba:Qa 255 (-2) l=true
 ·rw[Ba] at hvr
  have hfin:Pf (wi l)=Pf (Tv l):=Bt fun x _=>by rw[wi,Ba,Bool.true_and]
  rw[hfin]
  have hpc:=Wm Ba
  have hloop:Gd (fun r=>∃ E,r=(.exit 0,⟨E,[Eb (Pf fun _=>false),Eb (Pf (Tv l))]⟩)∧E.get 2= .ptr 0 0∧E.get 3= .ptr 1 0)
   (ab (ga (ua (Ea (fun _=>none) 8) je) (fa 2 [0,2,3,4])) qa ⟨WB v 0,[Eb (Pf fun _=>false),Eb (Pf fun _=>false)]⟩):=by
   refine za (wb (g:=ga (ua (Ea (fun _=>none) 8) je) (fa 2 [0,2,3,4]))
    (fun i t=>t=⟨WB v i,[Eb (Pf fun _=>false),Eb (Pf (Tv (l.take i)))]⟩)
    l.length (by unfold qa;omega) _ rfl ?_ ?_) (fun r h=>h.2)
   ·rintro i t hi rfl
    have hin:=FF (Ea (fun _=>none) 8) hv hi (hpc _ (List.getElem_mem hi)) (Pf fun _=>false)
    have a1:=fun A=>Qj A hi
    have ln:=hv.len
    have hl:=hv.lit (i:=i) (by simpa using hi)
    subst hl
    have lp:(Hd l).length=l.length:=by simp[Hd]
    simp only[lp] at ln
    have l0:∀ (A:List ba) (a b:PV),xa A false 1 (.pv (.rp [a,b] 0))=some (.pv a):=fun A a b=>rfl
    have p0:∀ (A:List ba) (a b:PV),place A 0 (.pv (.rp [a,b] 0))=some (.pv (.rp [a,b] 0)):=fun A a b=>rfl
    have e1:decide ((i:Int) < (l.length:Int))=true:=Fa (by omega)
    have t2:=Ua hi (by unfold maxLen;omega)
    have hcl:∀ f g,Ra (na 2) [Eb (Pf f),Eb (Pf g)]=some [Eb (Pf f),Eb (Pf g)]:=fun f g=>by
     have c1:=Mg (Pf f) 2
     have c2:=Mg (Pf g) 2
     simp only[Ra,c1,c2,Option.bind_some,Option.map_some]
    have hcl1:=hcl (fun _=>false) (Tv (l.take i))
    have hcl2:=hcl (fun _=>false) (Tv (l.take (i+1)))
    have htk2:∀ a b:ba,([a,b]:List ba).take 2=[a,b]:=fun a b=>rfl
    generalize l[i]=p at *
    generalize hes:Hd l=es at *
    have hI:⟨WB (.lit 2 es) (i+1:Nat),[Eb (Pf fun _=>false),Eb (Pf (Tv (l.take (i+1))))]⟩=(⟨WB (.lit 2 es) (i+1:Nat),[Eb (Pf fun _=>false),Eb (Pf (Tv (l.take (i+1))))]⟩:St):=rfl
    have hLN:∀ s:St,s=⟨WB (.lit 2 es) (i+1:Nat),[Eb (Pf fun _=>false),Eb (Pf (Tv (l.take (i+1))))]⟩→LN (fun i t=>t=⟨WB (.lit 2 es) i,[Eb (Pf fun _=>false),Eb (Pf (Tv (l.take i)))]⟩) (fun r=>∃ E,r=(.exit 0,⟨E,[Eb (Pf fun _=>false),Eb (Pf (Tv l))]⟩)∧E.get 2= .ptr 0 0∧E.get 3= .ptr 1 0) i (.norm,s):=fun s h=>h
    generalize Eb (Pf fun _=>false)=oz at *
    generalize Eb (Pf (Tv (l.take i)))=ot at *
    generalize Eb (Pf (Tv (l.take (i+1))))=ot' at *
    have d0:(0 < 2)=True:=by simp
    have d1:(1 < 2)=True:=by simp
    generalize hQ:LN _ _ i=Q at hLN ⊢
    simp -implicitDefEqProofs only[SX,sevalprocAttr,-List.reduceReplicate,je,xb,e1,ln,a1,l0,p0,hcl1,htk2,d0,d1,fa,Aa,AV.cut,pa,WB]
    refine za hin ?_
    rintro r ⟨E,rfl,g0,g2,g3,g4⟩
    simp -implicitDefEqProofs only[SX,sevalprocAttr,-List.reduceReplicate,g0,g2,g3,g4,t2,hcl2,htk2,d0,d1,fa,Aa,AV.cut,pa]
    exact hLN _ rfl
   ·rintro t rfl
    rw[List.take_length]
    have ln:=hv.len
    simp only[show (Hd l).length=l.length by simp[Hd]] at ln
    have e1:decide ((l.length:Int) < (l.length:Int))=false:=Ga (by omega)
    generalize Eb (Pf (Tv l))=ot
    generalize Eb (Pf fun _=>false)=oz
    generalize hQ:(fun r:Ex×St=>r.1.stop=true∧_)=Q
    simp -implicitDefEqProofs only[SX,sevalprocAttr,-List.reduceReplicate,je,e1,ln,WB]
    subst hQ
    exact⟨rfl,_,rfl,by simp[Tr.aa],by simp[Tr.aa]⟩
  have hcl:Ra (na 2) [Eb (Pf fun _=>false),Eb (Pf fun _=>false)]=some [Eb (Pf fun _=>false),Eb (Pf fun _=>false)]:=by
   have c1:=Mg (Pf fun _=>false) 2
   simp only[Ra,c1,Option.bind_some,Option.map_some]
  have htk2:∀ a b:ba,([a,b]:List ba).take 2=[a,b]:=fun a b=>rfl
  have hst1:=hst (Tv l)
  have hone1:=hone (Tv l)
  have hl21:=hl2 (Tv l)
  have d0:(0 < 2)=True:=by simp
  have d1:(1 < 2)=True:=by simp
  generalize hzs:List.replicate 256 (PV.bool false)=zs at *
  generalize Eb (Pf fun _=>false)=oz at *
  generalize Eb (Pf (Tv l))=ot at *
  generalize Pf (Tv l)=T at *
  apply Yk
  simp -implicitDefEqProofs only[gd,SX,sevalprocAttr,-List.reduceReplicate,Ng,hzs,hz1,xb,hvr,hcl,htk2,d0,d1,fa,Aa,AV.cut,pa]
  refine za hloop ?_
  rintro r ⟨E,rfl,g2,g3⟩
  simp -implicitDefEqProofs only[SX,sevalprocAttr,-List.reduceReplicate,g2,g3,hone1,hst1,hl21]
 ·have hok':Qa 255 (-2) l=false:=by simpa using Ba
  rw[hok'] at hvr
  have hfin:Pf (wi l)=Pf fun _=>false:=Bt fun x _=>by rw[wi,hok',Bool.false_and]
  rw[hfin]
  have hst1:=hst fun _=>false
  have hone1:=hone fun _=>false
  have hl21:=hl2 fun _=>false
  generalize hzs:List.replicate 256 (PV.bool false)=zs at *
  generalize Eb (Pf fun _=>false)=oz at *
  generalize Pf (fun _=>false)=T at *
  apply Yk
  simp -implicitDefEqProofs only[gd,SX,sevalprocAttr,-List.reduceReplicate,Ng,hzs,hz1,hvr,hone1,hst1,hl21]
end Go.AM.B1
namespace Go.AM.B1
open Go.AM Go.AM.So
def Nq (f:Nat→Bool) (n:Nat):Nat:=(List.range n).countP f
theorem IQ (f:Nat→Bool):Nq f 0=0:=rfl
theorem cu (f:Nat→Bool) (n:Nat):Nq f (n+1)=Nq f n+if f n then 1 else 0:=by
 unfold Nq
 rw[List.range_succ,List.countP_append]
 simp[List.countP_cons]
theorem GV (f:Nat→Bool) (n:Nat):Nq f n≤n:=by
 have:=List.countP_le_length (p:=f) (l:=List.range n)
 simpa[Nq] using this
theorem zX {f g h:Nat→Bool} (n:Nat) (hf:∀ x,x < n→f x=(g x||h x)) (hd:∀ x,x < n→g x=true→h x=true→False):Nq f n=Nq g n+Nq h n:=by
 induction n with
 |zero=>rfl
 |succ n ih=>
  rw[cu,cu,cu,ih (fun x hx=>hf x (by omega)) (fun x hx=>hd x (by omega)),hf n (by omega)]
  have:=hd n (by omega)
  cases h1:g n <;> cases h2:h n <;> simp_all <;> omega
theorem aW (a b:Nat) (n:Nat):Nq (fun x=>decide (a≤x)&&decide (x < b)) n=min n b - min a (min n b):=by
 induction n with
 |zero=>simp[IQ]
 |succ n ih=>
  rw[cu,ih]
  by_cases h:a≤n∧n < b
  ·rw[if_pos (by simp[h])];omega
  ·rw[if_neg (by simpa using fun h1=>Nat.le_of_not_lt fun h2=>h ⟨h1,h2⟩)];omega
theorem zG:∀ (l:List (Int×Int)) (last n:Int),Qa 255 last l=true→Ac n l=n+Nq (Tv l) 256
 | [],_,n,_=>by
   have:Nq (Tv []) 256=0:=by
    unfold Nq;rw[List.countP_eq_zero];intro x _;simp[Tv]
   rw[this];simp[Ac]
 |p::l,last,n,h=>by
  have hp:=Wm h p (by simp)
  have h2:=h
  simp only[Qa,Bool.and_eq_true] at h2
  rw[Ac,zG l p.2 _ h2.2]
  have hor:Nq (Tv (p::l)) 256=Nq (fun x=>decide (p.1.toNat≤x)&&decide (x < (p.2+1).toNat)) 256+Nq (Tv l) 256:=by
   apply zX
   ·intro x _
    simp only[Tv,List.any_cons]
    congr 1
    congr 1 <;> (rw[decide_eq_decide];omega)
   ·intro x _ h3 h4
    have:=vo h2.2 (Pu.1 h4)
    simp at h3;omega
  have hiv:=aW p.1.toNat (p.2+1).toNat 256
  rw[hor,hiv];omega
def uO (l:List (Int×Int)):Nat:=Nq (wi l) 256
theorem qV {l:List (Int×Int)} (h:Qa 255 (-2) l=true):(uO l:Int)=Ac 0 l:=by
 rw[zG l _ _ h]
 have:wi l=Tv l:=by funext x;rw[wi,h,Bool.true_and]
 rw[uO,this];omega
abbrev CJ (x n:Int):Tr:=((Tr.lf.set 5 (.pv (i64 x))).set 4 (.pv (i64 n))).set 3 (.ptr 0 0)
theorem SH {v:PV} {l:List (Int×Int)} (hv:Vi 2 v (Hd l)) (hw:l.length * 16≤140737488355328):ai [v]=some (i64 (uO l)):=by
 have hm:=gw hv hw
 unfold uO
 generalize hf:wi l=f at *
 have hloop:Gd (fun r=>∃ E H,r=(.exit 0,⟨E,H⟩)∧E.get 4= .pv (i64 (Nq f 256)))
  (ab (ga (ua (Ea (fun _=>none) 8) Zd) (fa 1 [3,4,5])) qa ⟨CJ 0 0,[Eb (Pf f)]⟩):=by
  refine za (wb (g:=ga (ua (Ea (fun _=>none) 8) Zd) (fa 1 [3,4,5]))
   (fun x t=>t=⟨CJ x (Nq f x),[Eb (Pf f)]⟩)
   256 (by unfold qa;omega) _ rfl ?_ ?_) (fun r h=>h.2)
  ·rintro x t hx rfl
   have e1:decide ((x:Int)≤255)=true:=Fa (by omega)
   have hq:Ia (x:Int) 256:=by unfold Ia;omega
   have t1:((x:Int)).toNat=x:=by simp
   have m1:x * 1=x:=by omega
   have z1:0+x=x:=by omega
   have t2:IntKind.i64.wrap ((x:Int)+1)=((x+1:Nat):Int):=Ca (by omega)
   have hle:=GV f x
   have t3:IntKind.i64.wrap ((Nq f x:Int)+1)=(Nq f x:Int)+1:=Ca (by omega)
   have pl:=ej (A:=[Eb (Pf f)]) (id:=0) (es:=Pf f) rfl 0 x
   rw[z1] at pl
   have ld:=eE (A:=[Eb (Pf f)]) (id:=0) (es:=Pf f) rfl (gO f hx)
   have hcl:Ra (na 1) [Eb (Pf f)]=some [Eb (Pf f)]:=by simp only[Ra,Mg,Option.bind_some,Option.map_some]
   have htk:([Eb (Pf f)]:List ba).take 1=[Eb (Pf f)]:=rfl
   have d0:(0 < 1)=True:=by simp
   have hs:=cu f x
   generalize hO:Eb (Pf f)=O at *
   generalize hQ:LN _ _ x=Q
   cases hfx:f x with
   |true=>
    rw[hfx] at hs ld
    simp -implicitDefEqProofs only[SX,sevalprocAttr,-List.reduceReplicate,Zd,e1,eq_true hq,t1,m1,pl,ld,t2,t3,hcl,htk,d0,fa,Aa,AV.cut,pa,CJ]
    subst hQ
    show (_:St)=_
    rw[hs];rfl
   |false=>
    rw[hfx] at hs ld
    simp -implicitDefEqProofs only[SX,sevalprocAttr,-List.reduceReplicate,Zd,e1,eq_true hq,t1,m1,pl,ld,t2,hcl,htk,d0,fa,Aa,AV.cut,pa,CJ]
    subst hQ
    show (_:St)=_
    rw[hs];rfl
  ·rintro t rfl
   have e1:decide (((256:Nat):Int)≤255)=false:=Ga (by omega)
   generalize Nq f 256=c
   generalize hQ:(fun r:Ex×St=>r.1.stop=true∧_)=Q
   simp -implicitDefEqProofs only[SX,sevalprocAttr,-List.reduceReplicate,Zd,e1,CJ]
   subst hQ
   exact⟨rfl,_,_,rfl,by simp[Tr.aa]⟩
 have hz1:ba.box (List.map AV.pv (List.replicate 256 (PV.bool false)))=Eb (Pf fun _=>false):=by rw[iA]
 have st:Oa [Eb (Pf fun _=>false)] 256 (.ptr 0 0) (.pv (.agg (Pf f)))=some [Eb (Pf f)]:=Qp (id:=0) rfl (uo _) (uo f) (jO f)
 have hcl:Ra (na 1) [Eb (Pf f)]=some [Eb (Pf f)]:=by simp only[Ra,Mg,Option.bind_some,Option.map_some]
 have htk:([Eb (Pf f)]:List ba).take 1=[Eb (Pf f)]:=rfl
 have d0:(0 < 1)=True:=by simp
 generalize Nq f 256=c at *
 generalize hzs:List.replicate 256 (PV.bool false)=zs at *
 generalize Eb (Pf fun _=>false)=oz at *
 generalize Eb (Pf f)=ot at *
 generalize Pf f=T at *
 apply Yk
 simp -implicitDefEqProofs only[ai,SX,sevalprocAttr,-List.reduceReplicate,ak,hzs,hz1,xb,hm,st,hcl,htk,d0,fa,Aa,AV.cut,pa]
 refine za hloop ?_
 rintro r ⟨E,H,rfl,hE⟩
 simp -implicitDefEqProofs only[SX,sevalprocAttr,-List.reduceReplicate,hE]
theorem JB {v:PV} {l:List (Int×Int)} (hv:Vi 2 v (Hd l)) (hw:l.length * 16≤140737488355328) (x:Int):
 Qe [v,i64 x]=some (.bool (decide (0≤x)&&decide (x≤255)&&wi l x.toNat)):=by
 have hm:=gw hv hw
 generalize hf:wi l=f at *
 by_cases h0:0≤x
 ·have e0:decide (x≥0)=true:=Fa (by omega)
  rw[show decide (0≤x)=true from Fa h0]
  by_cases h1:x≤255
  ·have e1:decide (x≤255)=true:=Fa h1
   have hq:Ia x 256:=by unfold Ia;omega
   have m1:x.toNat * 1=x.toNat:=by omega
   have hg:=gO f (x:=x.toNat) (by omega)
   have hp:Hl false 1 (Pf f) x.toNat=some (.bool (f x.toNat)):=by unfold Hl;exact hg
   rw[e1]
   generalize f x.toNat=b at *
   generalize Pf f=T at *
   simp -implicitDefEqProofs only[Qe,SX,sevalprocAttr,-List.reduceReplicate,Wg,e0,e1,hm,eq_true hq,m1,hp,Bool.true_and]
  ·have e1:decide (x≤255)=false:=Ga h1
   simp -implicitDefEqProofs only[Qe,SX,sevalprocAttr,-List.reduceReplicate,Wg,e0,e1,Bool.true_and,Bool.false_and]
 ·have e0:decide (x≥0)=false:=Ga (by omega)
  rw[show decide (0≤x)=false from Ga h0]
  simp -implicitDefEqProofs only[Qe,SX,sevalprocAttr,-List.reduceReplicate,Wg,e0,Bool.false_and]
abbrev bK (row:List PV) (i n:Int):Tr:=((Tr.lf.set 4 (.pv (i64 i))).set 3 (.pv (i64 n))).set 1 (.pv (.rp row 0))
theorem Xn {e:PV} {s:Lb} {P:PV} {ps:List PV} (h:pf e s P ps) (Ba:∀ l∈s.parts,Xc l):Pd [e]=some (i64 (oh 1 s.parts)):=by
 obtain⟨rfl,hP⟩:=h
 have hb:=im s.parts 1 Ba (by omega) (by omega)
 have hsz:=hP.sz
 have ln:=hP.Vb
 have q0:∀ H (x y:PV),place H 0 (.pv (.rp [x,y] 0))=some (.pv (.rp [x,y] 0)):=fun H x y=>rfl
 have r0:∀ H (x y:PV),xa H false 1 (.pv (.rp [x,y] 0))=some (.pv x):=fun H x y=>rfl
 have hloop:Gd (fun r=>∃ E H,r=(.exit 0,⟨E,H⟩)∧E.get 3= .pv (i64 (oh 1 s.parts)))
  (ab (ga (ua (Ea (fun _=>none) 8) Nd) (fa 0 [1,3,4])) qa ⟨bK [P,i64 s.first] 0 1,[]⟩):=by
  refine za (wb (g:=ga (ua (Ea (fun _=>none) 8) Nd) (fa 0 [1,3,4]))
   (fun i t=>∃ n,t=⟨bK [P,i64 s.first] i n,[]⟩∧1≤n∧n≤1073741825∧oh 1 s.parts=oh n (s.parts.drop i))
   s.parts.length (by unfold qa;unfold maxLen at hsz;omega) _ ⟨1,rfl,by omega,by omega,rfl⟩ ?_ ?_) (fun r h=>h.2)
  ·rintro i t hi ⟨n,rfl,h1,h2,hs⟩
   obtain⟨v,hv,hpt,a1⟩:=hP.sd hi []
   have hd:s.parts.drop i=s.parts[i]::s.parts.drop (i+1):=List.drop_eq_getElem_cons hi
   have hpo:=Ba s.parts[i] (List.getElem_mem hi)
   have hss:=SH hpt.is hpt.sz
   rw[qV hpo.2] at hss
   have hsb:=Ah hpo
   rw[hd,oh] at hs
   generalize s.parts[i]=l at *
   have hm:=Cx h1 h2 hsb.1 hsb.2
   have e1:decide ((i:Int) < (s.parts.length:Int))=true:=Fa (by omega)
   have t2:=Ua hi hsz
   have t3:IntKind.i64.wrap (n * Ac 0 l)=n * Ac 0 l:=Ca (by omega)
   have a2:∀ H (v:PV),xa H false 1 (.pv (.rp [v] 0))=some (.pv v):=fun H v=>rfl
   generalize hQ:LN _ _ i=Q
   by_cases hg:n * Ac 0 l > 1073741824
   ·have d1:=Fa hg
    simp -implicitDefEqProofs only[SX,sevalprocAttr,-List.reduceReplicate,Nd,e1,ln,q0,r0,t2,t3,a1,a2,hss,d1,fa,Aa,AV.cut,pa,bK]
    subst hQ
    refine⟨1073741825,rfl,by omega,by omega,?_⟩
    rw[hs];congr 1;split <;> omega
   ·have d1:=Ga hg
    simp -implicitDefEqProofs only[SX,sevalprocAttr,-List.reduceReplicate,Nd,e1,ln,q0,r0,t2,t3,a1,a2,hss,d1,fa,Aa,AV.cut,pa,bK]
    subst hQ
    refine⟨n * Ac 0 l,rfl,by omega,by omega,?_⟩
    rw[hs];congr 1;split <;> omega
  ·rintro t ⟨n,rfl,h1,h2,hs⟩
   rw[List.drop_length,oh] at hs
   have e1:decide ((s.parts.length:Int) < (s.parts.length:Int))=false:=Ga (by omega)
   generalize hQ:(fun r:Ex×St=>r.1.stop=true∧_)=Q
   simp -implicitDefEqProofs only[SX,sevalprocAttr,-List.reduceReplicate,Nd,e1,ln,q0,r0,bK]
   subst hQ
   exact⟨rfl,_,_,rfl,by simp[Tr.aa,hs]⟩
 have hP1:(AV.pv P).one=true:=by rcases hP.is with⟨h,_⟩ | h <;> rw[h] <;> rfl
 generalize oh 1 s.parts=n at *
 apply Yk
 simp -implicitDefEqProofs only[Pd,SX,sevalprocAttr,-List.reduceReplicate,xj,hP1,xb,fa,Aa,AV.cut,pa]
 refine za hloop ?_
 rintro r ⟨E,H,rfl,hE⟩
 simp -implicitDefEqProofs only[SX,sevalprocAttr,-List.reduceReplicate,hE]
end Go.AM.B1
namespace Go.AM.B1
open Go.AM Go.AM.So
theorem Fc (H:List ba) (x y:PV):place H 0 (.pv (.rp [x,y] 0))=some (.pv (.rp [x,y] 0)):=rfl
theorem Ui (H:List ba) (x y:PV):place H 1 (.pv (.rp [x,y] 0))=some (.pv (.rp [x,y] 1)):=rfl
theorem Bd (H:List ba) (x y:PV):xa H false 1 (.pv (.rp [x,y] 0))=some (.pv x):=rfl
theorem cj (H:List ba) (x y:PV):xa H false 1 (.pv (.rp [x,y] 1))=some (.pv y):=rfl
theorem oc (H:List ba) (x y:PV):xa H true 2 (.pv (.rp [x,y] 0))=some (.pv (.agg [x,y])):=rfl
theorem Ta (H:List ba) (x:PV):xa H false 1 (.pv (.rp [x] 0))=some (.pv x):=rfl
theorem Nb (H:List ba) (x:PV):place H 0 (.pv (.rp [x] 0))=some (.pv (.rp [x] 0)):=rfl
theorem zc (H:List ba) (x:PV):xa H true 1 (.pv (.rp [x] 0))=some (.pv (.agg [x])):=rfl
abbrev lH (row:List PV) (i:Int):Tr:=(Tr.lf.set 3 (.pv (i64 i))).set 1 (.pv (.rp row 0))
theorem Tq {e:PV} {s:Lb} {P:PV} {ps:List PV} (h:pf e s P ps):∃ b,Ob [e]=some (.bool b)∧(b=true↔Dd s):=by
 have hh:=h
 obtain⟨rfl,hP⟩:=h
 have hsz:=hP.sz
 have ln:=hP.Vb
 have hP1:(AV.pv P).one=true:=by rcases hP.is with⟨h,_⟩ | h <;> rw[h] <;> rfl
 by_cases c1:(s.parts.length:Int) < 1
 ·have d1:=Fa c1
  refine⟨false,?_,by simp;intro h;have:=h.lo;omega⟩
  simp -implicitDefEqProofs only[Ob,SX,sevalprocAttr,Bb,hP1,Fc,Ui,Bd,cj,ln,d1]
 have d1:=Ga c1
 by_cases c2:(s.parts.length:Int) > 8
 ·have d2:=Fa c2
  refine⟨false,?_,by simp;intro h;have:=h.hi;omega⟩
  simp -implicitDefEqProofs only[Ob,SX,sevalprocAttr,Bb,hP1,Fc,Ui,Bd,cj,ln,d1,d2]
 have d2:=Ga c2
 by_cases c3:s.first < 0
 ·have d3:=Fa c3
  refine⟨false,?_,by simp;intro h;have:=h.f0;omega⟩
  simp -implicitDefEqProofs only[Ob,SX,sevalprocAttr,Bb,hP1,Fc,Ui,Bd,cj,ln,d1,d2,d3]
 have d3:=Ga c3
 by_cases c4:s.first > 1073741823
 ·have d4:=Fa c4
  refine⟨false,?_,by simp;intro h;have:=h.f1;omega⟩
  simp -implicitDefEqProofs only[Ob,SX,sevalprocAttr,Bb,hP1,Fc,Ui,Bd,cj,ln,d1,d2,d3,d4]
 have d4:=Ga c4
 have hloop:Gd (fun r=>∃ E,(r=(.exit 0,⟨E,[]⟩)∧E.get 1= .pv (.rp [P,i64 s.first] 0)∧∀ l∈s.parts,Xc l)∨(r=(.ret,⟨E,[]⟩)∧E.get 2= .pv (.bool false)∧¬∀ l∈s.parts,Xc l))
  (ab (ga (ua (Ea (fun _=>none) 8) bc) (fa 0 [1,3])) qa ⟨lH [P,i64 s.first] 0,[]⟩):=by
  refine za (wb (g:=ga (ua (Ea (fun _=>none) 8) bc) (fa 0 [1,3]))
   (fun i t=>t=⟨lH [P,i64 s.first] i,[]⟩∧∀ l∈s.parts.take i,Xc l)
   s.parts.length (by unfold qa;unfold maxLen at hsz;omega) _ ⟨rfl,by simp⟩ ?_ ?_) (fun r h=>h.2)
  ·rintro i t hi ⟨rfl,hs⟩
   obtain⟨v,hv,hpt,a1⟩:=hP.sd hi []
   have hmem:=List.getElem_mem hi
   have hnext:Xc s.parts[i]→∀ l∈s.parts.take (i+1),Xc l:=by
    intro h l hl
    have:s.parts.take (i+1)=s.parts.take i++[s.parts[i]]:=by simp
    rw[this] at hl
    rcases List.mem_append.1 hl with h1 | h1
    ·exact hs l h1
    ·simp at h1;subst h1;exact h
   have hvl:=ay hpt.is hpt.sz
   have lv:=hpt.is.len
   simp only[Hd,List.length_map] at lv
   generalize s.parts[i]=l at *
   have e1:decide ((i:Int) < (s.parts.length:Int))=true:=Fa (by omega)
   have t2:=Ua hi hsz
   generalize hQ:LN _ _ i=Q
   by_cases h0:l=[]
   ·have e0:((l.length:Int)==0)=true:=by simp[h0]
    simp -implicitDefEqProofs only[SX,sevalprocAttr,bc,e1,ln,Fc,Bd,Ta,a1,lv,e0,lH]
    subst hQ
    exact⟨_,.inr ⟨rfl,by simp[Tr.aa],fun h=>(h _ hmem).1 h0⟩⟩
   ·have e0:((l.length:Int)==0)=false:=by
     have:l.length≠0:=fun e=>h0 (List.eq_nil_of_length_eq_zero e)
     exact vi (by omega)
    cases hb:Qa 255 (-2) l with
    |true=>
     rw[hb] at hvl
     simp -implicitDefEqProofs only[SX,sevalprocAttr,bc,e1,ln,Fc,Bd,Ta,a1,lv,e0,hvl,t2,fa,Aa,AV.cut,pa,lH]
     subst hQ
     exact⟨rfl,hnext ⟨h0,hb⟩⟩
    |false=>
     rw[hb] at hvl
     simp -implicitDefEqProofs only[SX,sevalprocAttr,bc,e1,ln,Fc,Bd,Ta,a1,lv,e0,hvl,lH]
     subst hQ
     exact⟨_,.inr ⟨rfl,by simp[Tr.aa],fun h=>by have:=(h _ hmem).2;rw[hb] at this;cases this⟩⟩
  ·rintro t ⟨rfl,hs⟩
   rw[List.take_length] at hs
   have e1:decide ((s.parts.length:Int) < (s.parts.length:Int))=false:=Ga (by omega)
   generalize hQ:(fun r:Ex×St=>r.1.stop=true∧_)=Q
   simp -implicitDefEqProofs only[SX,sevalprocAttr,bc,e1,ln,Fc,Bd,lH]
   subst hQ
   exact⟨rfl,_,.inl ⟨rfl,by simp[Tr.aa],hs⟩⟩
 have key:Gd (fun r=>∃ b,r=(.pv (.bool b),([]:List ba))∧(b=true↔Dd s)) (Ri (Ea (fun _=>none) 8) Bb [.pv (.agg [P,i64 s.first])] []):=by
  generalize hQQ:(fun r:AV×List ba=>_)=QQ
  simp -implicitDefEqProofs only[SX,sevalprocAttr,Bb,hP1,Fc,Ui,Bd,cj,ln,d1,d2,d3,d4,xb,fa,Aa,AV.cut,pa]
  refine za hloop ?_
  rintro _ ⟨E,⟨rfl,hE,hb⟩ | ⟨rfl,hE,hb⟩⟩
  ·have hct:=Xn hh hb
   have hbd:=im s.parts 1 hb (by omega) (by omega)
   have hif:(decide (s.first+oh 1 s.parts - 1≤1073741823)=true)↔Dd s:=by
    rw[decide_eq_true_iff]
    constructor
    ·intro h;exact⟨by omega,by omega,by omega,by omega,hb,h⟩
    ·intro h;exact h.last
   generalize oh 1 s.parts=n at *
   have t3:IntKind.i64.wrap (s.first+n)=s.first+n:=Ca (by omega)
   have t4:IntKind.i64.wrap (s.first+n - 1)=s.first+n - 1:=Ca (by omega)
   simp -implicitDefEqProofs only[SX,sevalprocAttr,hE,Fc,Ui,Bd,cj,oc,hct,t3,t4]
   subst hQQ
   exact⟨_,rfl,hif⟩
  ·simp -implicitDefEqProofs only[SX,sevalprocAttr,hE]
   subst hQQ
   exact⟨false,rfl,by simp;exact fun h=>hb h.parts⟩
 obtain⟨r,h1,b,rfl,hb⟩:=xc key
 refine⟨b,?_,hb⟩
 generalize hk:Ri (Ea (fun _=>none) 8) Bb [.pv (.agg [P,i64 s.first])] []=k at h1
 subst h1
 have:Ob [.agg [P,i64 s.first]]=(Ri (Ea (fun _=>none) 8) Bb [.pv (.agg [P,i64 s.first])] []).bind fun r=>dc r.2 deep r.1:=rfl
 rw[this,hk];rfl
theorem Tw {e:PV} {s:Lb} {P:PV} {ps:List PV} (h:pf e s P ps) (Ba:Dd s):jg [e]=some (i64 (oh 1 s.parts)):=by
 obtain⟨b,hb,hbb⟩:=Tq h
 have hc:=Xn h Ba.parts
 have:=hbb.2 Ba
 subst this
 obtain⟨rfl,hP⟩:=h
 have hP1:(AV.pv P).one=true:=by rcases hP.is with⟨h,_⟩ | h <;> rw[h] <;> rfl
 simp -implicitDefEqProofs only[jg,SX,sevalprocAttr,uj,hP1,oc,hb,hc]
end Go.AM.B1
namespace Go.AM.B1
open Go.AM Go.AM.So
theorem oS {p q:Lb} (hp:Dd p) (hq:Dd q):Jm p q↔¬(q.first≤yh p∧p.first≤yh q):=by
 have h1:=hp.HC
 have h2:=hq.HC
 unfold Jm
 constructor
 ·intro h hn
  by_cases hle:p.first≤q.first
  ·exact h q.first ⟨⟨hle,hn.1⟩,⟨Int.le_refl _,h2⟩⟩
  ·exact h p.first ⟨⟨Int.le_refl _,h1⟩,⟨by omega,hn.2⟩⟩
 ·intro h x hx
  exact h ⟨by omega,by omega⟩
theorem Cr {p:Lb} (hp:Dd p):1≤oh 1 p.parts∧oh 1 p.parts≤1073741825:=im p.parts 1 hp.parts (by omega) (by omega)
abbrev BG (S:PV) (i j:Int):Tr:=((Tr.lf.set 5 (.pv (i64 j))).set 1 (.pv (i64 i))).set 0 (.pv S)
theorem cI {S:PV} {ss:List Lb} {es:List PV} (hS:eb S ss es) {i:Nat} (hi:i < ss.length) (Ba:∀ j,j≤i→(h:j < ss.length)→Dd ss[j]):
 ∃ b,Bg [S,i64 i]=some (.bool b)∧(b=false↔∀ j,j < i→(h:j < ss.length)→Jm ss[j] ss[i]):=by
 have hsz:=hS.sz
 obtain⟨P,ps,hP,a0⟩:=hS.sd hi
 have okp:=Ba i (Nat.le_refl _) hi
 have hcp:=Xn hP okp.parts
 have hbp:=Cr okp
 have hap:=fun j (hj:j < i) (h:j < ss.length)=>oS (Ba j (by omega) h) okp
 generalize ss[i]=p at *
 have hloop:Gd (fun r=>∃ E,(r=(.exit 0,⟨E,[]⟩)∧∀ j,j < i→(h:j < ss.length)→Jm ss[j] p)∨(r=(.ret,⟨E,[]⟩)∧E.get 4= .pv (.bool true)∧∃ j,j < i∧∃ h:j < ss.length,¬Jm ss[j] p))
  (ab (ga (ua (Ea (fun _=>none) 8) jd) (fa 0 [0,1,5])) qa ⟨BG S i 0,[]⟩):=by
  refine za (wb (g:=ga (ua (Ea (fun _=>none) 8) jd) (fa 0 [0,1,5]))
   (fun j t=>t=⟨BG S i j,[]⟩∧∀ j',j' < j→(h:j' < ss.length)→Jm ss[j'] p)
   i (by unfold qa;unfold maxLen at hsz;omega) _ ⟨rfl,by intro j h;omega⟩ ?_ ?_) (fun r h=>h.2)
  ·rintro j t hj ⟨rfl,hs⟩
   have hj2:j < ss.length:=by omega
   obtain⟨Q,qs,hQ,b0⟩:=hS.sd hj2
   have okq:=Ba j (by omega) hj2
   have hcq:=Xn hQ okq.parts
   have hbq:=Cr okq
   have haq:=hap j hj hj2
   have hnext:Jm ss[j] p→∀ j',j' < j+1→(h:j' < ss.length)→Jm ss[j'] p:=by
    intro h j' h1 h2
    rcases Nat.lt_or_ge j' j with h3 | h3
    ·exact hs j' h3 h2
    ·have:j'=j:=by omega
     subst this;exact h
   have hex:¬Jm ss[j] p→∃ j,j < i∧∃ h:j < ss.length,¬Jm ss[j] p:=fun h=>⟨j,hj,hj2,h⟩
   have hqf0:=okq.f0
   have hqf1:=okq.f1
   have hpf0:=okp.f0
   have hpf1:=okp.f1
   unfold yh at haq
   generalize hq:ss[j]=q at *
   generalize oh 1 p.parts=np at *
   generalize oh 1 q.parts=nq at *
   have e1:decide ((j:Int) < (i:Int))=true:=Fa (by omega)
   have t2:=Ua hj (show i≤maxLen by omega)
   have t3:IntKind.i64.wrap (q.first+nq)=q.first+nq:=Ca (by omega)
   have t4:IntKind.i64.wrap (q.first+nq - 1)=q.first+nq - 1:=Ca (by omega)
   have t5:IntKind.i64.wrap (p.first+np)=p.first+np:=Ca (by omega)
   have t6:IntKind.i64.wrap (p.first+np - 1)=p.first+np - 1:=Ca (by omega)
   generalize hQQ:LN _ _ j=QQ
   by_cases c1:p.first≤q.first+nq - 1
   ·have d1:=Fa c1
    by_cases c2:q.first≤p.first+np - 1
    ·have d2:=Fa c2
     simp -implicitDefEqProofs only[SX,sevalprocAttr,jd,e1,a0,b0,Ui,cj,oc,hcp,hcq,t3,t4,t5,t6,d1,d2,BG]
     subst hQQ
     exact⟨_,.inr ⟨rfl,by simp[Tr.aa],hex (fun h=>(haq.1 h) ⟨c1,c2⟩)⟩⟩
    ·have d2:=Ga c2
     simp -implicitDefEqProofs only[SX,sevalprocAttr,jd,e1,a0,b0,Ui,cj,oc,hcp,hcq,t2,t3,t4,t5,t6,d1,d2,fa,Aa,AV.cut,pa,BG]
     subst hQQ
     exact⟨rfl,hnext (haq.2 fun h=>c2 h.2)⟩
   ·have d1:=Ga c1
    simp -implicitDefEqProofs only[SX,sevalprocAttr,jd,e1,a0,b0,Ui,cj,oc,hcp,hcq,t2,t3,t4,d1,fa,Aa,AV.cut,pa,BG]
    subst hQQ
    exact⟨rfl,hnext (haq.2 fun h=>c1 h.1)⟩
  ·rintro t ⟨rfl,hs⟩
   have e1:decide ((i:Int) < (i:Int))=false:=Ga (by omega)
   generalize hQ:(fun r:Ex×St=>r.1.stop=true∧_)=Q
   simp -implicitDefEqProofs only[SX,sevalprocAttr,jd,e1,BG]
   subst hQ
   exact⟨rfl,_,.inl ⟨rfl,hs⟩⟩
 have key:Gd (fun r=>∃ b,r=PV.bool b∧(b=false↔∀ j,j < i→(h:j < ss.length)→Jm ss[j] p)) (Bg [S,i64 i]):=by
  generalize hQQ:(fun r:PV=>_)=QQ
  simp -implicitDefEqProofs only[Bg,SX,sevalprocAttr,ik,xb,fa,Aa,AV.cut,pa]
  refine za hloop ?_
  rintro _ ⟨E,⟨rfl,hb⟩ | ⟨rfl,hE,j,hj,hj2,hb⟩⟩
  ·simp -implicitDefEqProofs only[SX,sevalprocAttr]
   subst hQQ
   exact⟨false,rfl,by simpa using hb⟩
  ·simp -implicitDefEqProofs only[SX,sevalprocAttr,hE]
   subst hQQ
   exact⟨true,rfl,by simp;exact⟨j,hj,hj2,hb⟩⟩
 obtain⟨r,h1,b,rfl,hb⟩:=xc key
 exact⟨b,h1,hb⟩
abbrev KA (row:List PV) (i:Int):Tr:=(Tr.lf.set 3 (.pv (i64 i))).set 1 (.pv (.rp row 0))
theorem kH {ss:List Lb}:Tb ss↔ss.length≤32∧∀ i,(hi:i < ss.length)→Dd ss[i]∧∀ j,j < i→(h:j < ss.length)→Jm ss[j] ss[i]:=by
 constructor
 ·intro h
  refine⟨h.len,fun i hi=>⟨h.Xo _ (List.getElem_mem hi),fun j hj hj2=> ?_⟩⟩
  exact List.pairwise_iff_getElem.1 h.apart j i hj2 hi hj
 ·rintro⟨h1,h2⟩
  refine⟨h1,?_,?_⟩
  ·intro s hs
   obtain⟨i,hi,rfl⟩:=List.getElem_of_mem hs
   exact (h2 i hi).1
  ·rw[List.pairwise_iff_getElem]
   intro i j hi hj hij
   exact (h2 j hj).2 i hij hi
theorem fw {S:PV} {ss:List Lb} {es:List PV} (hS:eb S ss es):∃ b,Qd [.agg [S]]=some (.bool b)∧(b=true↔Tb ss):=by
 have hsz:=hS.sz
 have ln:=hS.Vb
 have hS1:(AV.pv S).one=true:=by rcases hS.is with⟨h,_⟩ | h <;> rw[h] <;> rfl
 by_cases c1:(ss.length:Int) > 32
 ·have d1:=Fa c1
  refine⟨false,?_,by simp;intro h;have:=h.len;omega⟩
  simp -implicitDefEqProofs only[Qd,SX,sevalprocAttr,qh,hS1,Nb,Ta,ln,d1]
 have d1:=Ga c1
 have hloop:Gd (fun r=>∃ E,(r=(.exit 0,⟨E,[]⟩)∧Tb ss)∨(r=(.ret,⟨E,[]⟩)∧E.get 2= .pv (.bool false)∧¬Tb ss))
  (ab (ga (ua (Ea (fun _=>none) 8) Qc) (fa 0 [1,3])) qa ⟨KA [S] 0,[]⟩):=by
  refine za (wb (g:=ga (ua (Ea (fun _=>none) 8) Qc) (fa 0 [1,3]))
   (fun i t=>t=⟨KA [S] i,[]⟩∧∀ k,k < i→(hk:k < ss.length)→Dd ss[k]∧∀ j,j < k→(h:j < ss.length)→Jm ss[j] ss[k])
   ss.length (by unfold qa;unfold maxLen at hsz;omega) _ ⟨rfl,by intro j h;omega⟩ ?_ ?_) (fun r h=>h.2)
  ·rintro i t hi ⟨rfl,hs⟩
   obtain⟨P,ps,hP,a0⟩:=hS.sd hi
   obtain⟨b,hb,hbb⟩:=Tq hP
   have hmt:Dd ss[i]→_:=fun h=>cI hS hi (fun j hj hj2=>by
    rcases Nat.lt_or_ge j i with h1 | h1
    ·exact (hs j h1 hj2).1
    ·have:j=i:=by omega
     subst this;exact h)
   have hnext:Dd ss[i]→(∀ j,j < i→(h:j < ss.length)→Jm ss[j] ss[i])→∀ k,k < i+1→(hk:k < ss.length)→Dd ss[k]∧∀ j,j < k→(h:j < ss.length)→Jm ss[j] ss[k]:=by
    intro h1 h2 k hk hk2
    rcases Nat.lt_or_ge k i with h3 | h3
    ·exact hs k h3 hk2
    ·have:k=i:=by omega
     subst this;exact⟨h1,h2⟩
   have hbad:¬(Dd ss[i]∧∀ j,j < i→(h:j < ss.length)→Jm ss[j] ss[i])→¬Tb ss:=fun h hh=>h ((kH.1 hh).2 i hi)
   generalize hgi:ss[i]=p at *
   have e1:decide ((i:Int) < (ss.length:Int))=true:=Fa (by omega)
   have t2:=Ua hi hsz
   generalize hQQ:LN _ _ i=QQ
   cases b with
   |false=>
    have hno:¬Dd p:=fun h=>by have:=hbb.2 h;cases this
    simp -implicitDefEqProofs only[SX,sevalprocAttr,Qc,e1,ln,Nb,Ta,a0,oc,hb,KA]
    subst hQQ
    exact⟨_,.inr ⟨rfl,by simp[Tr.aa],hbad fun h=>hno h.1⟩⟩
   |true=>
    have okp:=hbb.1 rfl
    obtain⟨c,hc,hcc⟩:=hmt okp
    cases c with
    |false=>
     simp -implicitDefEqProofs only[SX,sevalprocAttr,Qc,e1,ln,Nb,Ta,a0,oc,hb,hc,t2,fa,Aa,AV.cut,pa,KA]
     subst hQQ
     exact⟨rfl,hnext okp (hcc.1 rfl)⟩
    |true=>
     simp -implicitDefEqProofs only[SX,sevalprocAttr,Qc,e1,ln,Nb,Ta,a0,oc,hb,hc,KA]
     subst hQQ
     exact⟨_,.inr ⟨rfl,by simp[Tr.aa],hbad fun h=>by have:=hcc.2 h.2;cases this⟩⟩
  ·rintro t ⟨rfl,hs⟩
   have e1:decide ((ss.length:Int) < (ss.length:Int))=false:=Ga (by omega)
   generalize hQ:(fun r:Ex×St=>r.1.stop=true∧_)=Q
   simp -implicitDefEqProofs only[SX,sevalprocAttr,Qc,e1,ln,Nb,Ta,KA]
   subst hQ
   exact⟨rfl,_,.inl ⟨rfl,kH.2 ⟨by omega,fun i hi=>hs i hi hi⟩⟩⟩
 have key:Gd (fun r=>∃ b,r=PV.bool b∧(b=true↔Tb ss)) (Qd [.agg [S]]):=by
  generalize hQQ:(fun r:PV=>_)=QQ
  simp -implicitDefEqProofs only[Qd,SX,sevalprocAttr,qh,hS1,Nb,Ta,ln,d1,xb,fa,Aa,AV.cut,pa]
  refine za hloop ?_
  rintro _ ⟨E,⟨rfl,hb⟩ | ⟨rfl,hE,hb⟩⟩
  ·simp -implicitDefEqProofs only[SX,sevalprocAttr]
   subst hQQ
   exact⟨true,rfl,by simpa using hb⟩
  ·simp -implicitDefEqProofs only[SX,sevalprocAttr,hE]
   subst hQQ
   exact⟨false,rfl,by simpa using hb⟩
 obtain⟨r,h1,b,rfl,hb⟩:=xc key
 exact⟨b,h1,hb⟩
end Go.AM.B1
namespace Go.AM.B1
open Go.AM Go.AM.So
abbrev ME (rp rq:List PV) (n i:Int) (nl:Bool) (es:List PV):Tr:=((((Tr.lf.set 9 (.pv (i64 i))).set 8 (.uq 0 nl 1 es)).set 4 (.pv (.rp rq 0))).set 3 (.pv (.rp rp 0))).set 2 (.pv (i64 n))
abbrev uA (rp rq:List PV) (n i x:Int) (nl:Bool) (es:List PV):Tr:=(((((Tr.lf.set 10 (.pv (i64 x))).set 9 (.pv (i64 i))).set 8 (.uq 0 nl 1 es)).set 4 (.pv (.rp rq 0))).set 3 (.pv (.rp rp 0))).set 2 (.pv (i64 n))
theorem dA (call:Wa) {P Q:PV} {a b:PV} {n:Int} {lp lq:List (List (Int×Int))} {ps qs:List PV} (hp:rf P lp ps) (hq:rf Q lq qs) {i:Nat} (hip:i < lp.length) (hiq:i < lq.length) (nl:Bool) (es:List PV) (m:Nat):
 Gd (fun r=>∃ E y,r=(.exit 2,⟨E,[.tok 1 m nl]⟩)∧E.get 2= .pv (i64 n)∧E.get 3= .pv (.rp [P,a] 0)∧E.get 4= .pv (.rp [Q,b] 0)∧E.get 8= .uq 0 nl 1 es∧E.get 9= .pv (i64 i)∧E.get 10= .pv (i64 (y:Nat))∧
  ((y < 256∧wi lp[i] y=true∧wi lq[i] y=true)∨(y=256∧∀ x,x < 256→¬(wi lp[i] x=true∧wi lq[i] x=true))))
  (ab (ga (ua call Lc) (fa 1 [2,3,4,8,9,10])) qa ⟨uA [P,a] [Q,b] n i 0 nl es,[.tok 1 m nl]⟩):=by
 obtain⟨v,hv,hpv,a1⟩:=hp.sd hip [.tok 1 m nl]
 obtain⟨w,hw,hqw,a2⟩:=hq.sd hiq [.tok 1 m nl]
 have hhp:=JB hpv.is hpv.sz
 have hhq:=JB hqw.is hqw.sz
 generalize lp[i]=lv at *
 generalize lq[i]=lw at *
 refine za (wb (g:=ga (ua call Lc) (fa 1 [2,3,4,8,9,10]))
  (fun x t=>t=⟨uA [P,a] [Q,b] n i x nl es,[.tok 1 m nl]⟩∧∀ x',x' < x→¬(wi lv x'=true∧wi lw x'=true))
  256 (by unfold qa;omega) _ ⟨rfl,by intro x h;omega⟩ ?_ ?_) (fun r h=>h.2)
 ·rintro x t hx ⟨rfl,hs⟩
  have e1:decide ((x:Int) < 256)=true:=Fa (by omega)
  have t2:IntKind.i64.wrap ((x:Int)+1)=((x+1:Nat):Int):=Ca (by omega)
  have hp1:=hhp (x:Int)
  have hq1:=hhq (x:Int)
  rw[Fa (show (0:Int)≤x by omega),Fa (show (x:Int)≤255 by omega),Int.toNat_natCast,Bool.true_and,Bool.true_and] at hp1 hq1
  have hz:(0 < 1)=True:=by simp
  have hnext:¬(wi lv x=true∧wi lw x=true)→∀ x',x' < x+1→¬(wi lv x'=true∧wi lw x'=true):=by
   intro h x' hx'
   rcases Nat.lt_or_ge x' x with h1 | h1
   ·exact hs x' h1
   ·have:x'=x:=by omega
    subst this;exact h
  generalize hQ:LN _ _ x=QQ
  cases h1:wi lv x with
  |false=>
   rw[h1] at hp1
   simp -implicitDefEqProofs only[SX,sevalprocAttr,Lc,e1,Fc,Bd,Ta,a1,a2,hp1,t2,hz,fa,Aa,AV.cut,na,pa,uA]
   subst hQ
   exact⟨rfl,hnext (by rw[h1];simp)⟩
  |true=>
   rw[h1] at hp1
   cases h2:wi lw x with
   |false=>
    rw[h2] at hq1
    simp -implicitDefEqProofs only[SX,sevalprocAttr,Lc,e1,Fc,Bd,Ta,a1,a2,hp1,hq1,t2,hz,fa,Aa,AV.cut,na,pa,uA]
    subst hQ
    exact⟨rfl,hnext (by rw[h2];simp)⟩
   |true=>
    rw[h2] at hq1
    simp -implicitDefEqProofs only[SX,sevalprocAttr,Lc,e1,Fc,Bd,Ta,a1,a2,hp1,hq1,uA]
    subst hQ
    exact⟨_,x,rfl,by simp[Tr.aa],by simp[Tr.aa],by simp[Tr.aa],by simp[Tr.aa],by simp[Tr.aa],by simp[Tr.aa],.inl ⟨hx,h1,h2⟩⟩
 ·rintro t ⟨rfl,hs⟩
  have e1:decide (((256:Nat):Int) < 256)=false:=Ga (by omega)
  generalize hQ:(fun r:Ex×St=>r.1.stop=true∧_)=QQ
  simp -implicitDefEqProofs only[SX,sevalprocAttr,Lc,e1,uA]
  subst hQ
  exact⟨rfl,_,256,rfl,by simp[Tr.aa],by simp[Tr.aa],by simp[Tr.aa],by simp[Tr.aa],by simp[Tr.aa],by simp[Tr.aa],.inr ⟨rfl,hs⟩⟩
theorem qy {p q:List (List (Int×Int))} {i:Nat} (hp:i < p.length) (hq:i < q.length) (vp:Qa 255 (-2) p[i]=true) (vq:Qa 255 (-2) q[i]=true):
 Gp p q i≠[]↔∃ x,x < 256∧wi p[i] x=true∧wi q[i] x=true:=by
 have hmA:Gp p q i=Sf (p[i].length+q[i].length) p[i] q[i]:=by
  unfold Gp
  rw[List.getElem?_eq_getElem hp,List.getElem?_eq_getElem hq]
 have hlaw:=Kt _ _ _ (-2) (-2) vp vq (Nat.le_refl _)
 have hme:=Wm vp
 rw[hmA]
 generalize p[i]=a at *
 generalize q[i]=b at *
 constructor
 ·intro h
  obtain⟨m,hm⟩:=List.exists_mem_of_ne_nil _ h
  have h2:=(hlaw.1 m.1).1 ⟨m,hm,Int.le_refl _,hlaw.2 m hm⟩
  have h0:0≤m.1∧m.1≤255:=by
   obtain⟨pp,hpp,h3,h4⟩:=h2.1
   have:=hme pp hpp;omega
  refine⟨m.1.toNat,by omega,?_,?_⟩
  ·rw[wi,vp,Bool.true_and,Pu,Int.toNat_of_nonneg h0.1];exact h2.1
  ·rw[wi,vq,Bool.true_and,Pu,Int.toNat_of_nonneg h0.1];exact h2.2
 ·rintro⟨x,hx,h1,h2⟩ hnil
  rw[wi,vp,Bool.true_and,Pu] at h1
  rw[wi,vq,Bool.true_and,Pu] at h2
  have:=(hlaw.1 x).2 ⟨h1,h2⟩
  rw[hnil] at this
  exact Vm _ this
theorem Cw {e f:PV} {p q:Lb} {P Q:PV} {ps qs:List PV} (hp:pf e p P ps) (hq:pf f q Q qs) (op:Dd p) (oq:Dd q) {n:Nat} (hn:n≤p.parts.length) (hn2:n≤q.parts.length):
 ∃ v,Fe [e,f,i64 n]=some (.mc [v,.bool (Zb p.parts q.parts n 0).isSome]):=by
 have hc1:=Tw hp op
 have hc2:=Tw hq oq
 have hb1:=Cr op
 have hb2:=Cr oq
 obtain⟨hP1,hP2⟩:=hp.Pv
 obtain⟨hQ1,hQ2⟩:=hq.Pv
 have heq:=hp.eq
 have hfq:=hq.eq
 subst heq hfq
 have h8:=op.hi
 have lP:=hp.parts.Vb
 have lQ:=hq.parts.Vb
 have hloop:Gd (fun r=>∃ E H,(r=(.ret,⟨E,H⟩)∧E.get 6= .pv .ma∧E.get 7= .pv (.bool false)∧(Zb p.parts q.parts n 0).isSome=false)∨(∃ nl es,r=(.exit 0,⟨E,H⟩)∧E.get 8= .uq 0 nl 1 es∧(Zb p.parts q.parts n 0).isSome=true))
  (ab (ga (ua (Ea (fun _=>none) 8) Ke) (fa 1 [2,3,4,8,9])) qa ⟨ME [P,i64 p.first] [Q,i64 q.first] n 0 true [],[.tok 1 0 true]⟩):=by
  refine za (wb (g:=ga (ua (Ea (fun _=>none) 8) Ke) (fa 1 [2,3,4,8,9]))
   (fun i t=>∃ nl es,t=⟨ME [P,i64 p.first] [Q,i64 q.first] n i nl es,[.tok 1 i nl]⟩∧es.length=i∧(Zb p.parts q.parts n 0).isSome=(Zb p.parts q.parts (n - i) i).isSome)
   n (by unfold qa;omega) _ ⟨true,[],rfl,rfl,rfl⟩ ?_ ?_) (fun r h=>h.2)
  ·rintro i t hi ⟨nl,es,rfl,hlen,hs⟩
   have hip:i < p.parts.length:=by omega
   have hiq:i < q.parts.length:=by omega
   have hin:=dA (Ea (fun _=>none) 8) (a:=i64 p.first) (b:=i64 q.first) (n:=n) hp.parts hq.parts hip hiq nl es i
   have okv:=op.parts _ (List.getElem_mem hip)
   have okw:=oq.parts _ (List.getElem_mem hiq)
   have hma:=qy hip hiq okv.2 okw.2
   obtain⟨m,hm⟩:∃ m,n - i=m+1:=⟨n - i - 1,by omega⟩
   have hm':n - (i+1)=m:=by omega
   rw[hm,Zb] at hs
   have e1:decide ((i:Int) < (n:Int))=true:=Fa (by omega)
   have t2:=Ua (i:=i) (n:=n) hi (by unfold maxLen;omega)
   have hz:(0 < 1)=True:=by simp
   have hLN:∀ (nl':Bool) (es':List PV) (s:St),s=⟨ME [P,i64 p.first] [Q,i64 q.first] n (i+1:Nat) nl' es',[.tok 1 (i+1) nl']⟩→es'.length=i+1→(Zb p.parts q.parts n 0).isSome=(Zb p.parts q.parts m (i+1)).isSome→
    LN (fun i t=>∃ nl es,t=⟨ME [P,i64 p.first] [Q,i64 q.first] n i nl es,[.tok 1 i nl]⟩∧es.length=i∧(Zb p.parts q.parts n 0).isSome=(Zb p.parts q.parts (n - i) i).isSome)
     (fun r=>∃ E H,(r=(.ret,⟨E,H⟩)∧E.get 6= .pv .ma∧E.get 7= .pv (.bool false)∧(Zb p.parts q.parts n 0).isSome=false)∨(∃ nl es,r=(.exit 0,⟨E,H⟩)∧E.get 8= .uq 0 nl 1 es∧(Zb p.parts q.parts n 0).isSome=true)) i (.norm,s):=
    fun nl' es' s h1 h2 h3=>⟨nl',es',h1,h2,by rw[hm'];exact h3⟩
   have hLR:∀ (E:Tr) (H:List ba),E.get 6= .pv .ma→E.get 7= .pv (.bool false)→(Zb p.parts q.parts n 0).isSome=false→
    LN (fun i t=>∃ nl es,t=⟨ME [P,i64 p.first] [Q,i64 q.first] n i nl es,[.tok 1 i nl]⟩∧es.length=i∧(Zb p.parts q.parts n 0).isSome=(Zb p.parts q.parts (n - i) i).isSome)
     (fun r=>∃ E H,(r=(.ret,⟨E,H⟩)∧E.get 6= .pv .ma∧E.get 7= .pv (.bool false)∧(Zb p.parts q.parts n 0).isSome=false)∨(∃ nl es,r=(.exit 0,⟨E,H⟩)∧E.get 8= .uq 0 nl 1 es∧(Zb p.parts q.parts n 0).isSome=true)) i (.ret,⟨E,H⟩):=
    fun E H h1 h2 h3=>⟨E,H,.inl ⟨rfl,h1,h2,h3⟩⟩
   generalize LN _ _ i=QQ at hLN hLR ⊢
   simp -implicitDefEqProofs only[SX,sevalprocAttr,Ke,xb,e1,hz,fa,Aa,AV.cut,na,pa,ME]
   refine za hin ?_
   rintro r ⟨E,y,rfl,g2,g3,g4,g8,g9,g10,⟨hy,hy1,hy2⟩ | ⟨rfl,hno⟩⟩
   ·have hne:Gp p.parts q.parts i≠[]:=hma.2 ⟨y,hy,hy1,hy2⟩
    have hs':(Zb p.parts q.parts n 0).isSome=(Zb p.parts q.parts m (i+1)).isSome:=by
     rw[hs]
     cases hmt:Gp p.parts q.parts i with
     |nil=>exact absurd hmt hne
     |cons a r=>simp
    have e2:(((y:Nat):Int)==256)=false:=vi (by omega)
    have t3:IntKind.u8.wrap ((y:Nat):Int)=(y:Int):=wrap_u8 (by omega)
    have hap:=Wo (A:=[.tok 1 i nl]) (id:=0) (n:=i) (h:= .uq) (nl:=nl) (bytes:=1) (es:=es) rfl (by simp[hlen]) (by unfold qb;omega) (.int .u8 y)
    rw[List.set_cons_zero] at hap
    simp -implicitDefEqProofs only[SP,WP,oa,sevalprocAttr,g2,g3,g4,g8,g9,g10,e2,t2,t3,hap,hz,fa,Aa,AV.cut,na,pa]
    exact hLN false (es++[.int .u8 y]) _ rfl (by simp[hlen]) hs'
   ·have hne:Gp p.parts q.parts i=[]:=by
     apply Decidable.byContradiction
     intro h
     obtain⟨x,hx,h1,h2⟩:=hma.1 h
     exact hno x hx ⟨h1,h2⟩
    have hs':(Zb p.parts q.parts n 0).isSome=false:=by rw[hs,hne];rfl
    have e2:(((256:Nat):Int)==256)=true:=by decide
    simp -implicitDefEqProofs only[SP,WP,oa,sevalprocAttr,g2,g3,g4,g8,g9,g10,e2]
    exact hLR _ _ (by simp[Tr.aa]) (by simp[Tr.aa]) hs'
  ·rintro t ⟨nl,es,rfl,hlen,hs⟩
   rw[Nat.sub_self,Zb] at hs
   have e1:decide ((n:Int) < (n:Int))=false:=Ga (by omega)
   generalize hQ:(fun r:Ex×St=>r.1.stop=true∧_)=QQ
   simp -implicitDefEqProofs only[SX,sevalprocAttr,Ke,e1,ME]
   subst hQ
   exact⟨rfl,_,_,.inr ⟨nl,es,rfl,by simp[Tr.aa],hs⟩⟩
 have key:Gd (fun r=>∃ v,r= .mc [v,.bool (Zb p.parts q.parts n 0).isSome]) (Fe [.agg [P,i64 p.first],.agg [Q,i64 q.first],i64 n]):=by
  have z1:(oh 1 p.parts==0)=false:=vi (by omega)
  have z2:(oh 1 q.parts==0)=false:=vi (by omega)
  have d0:decide ((n:Int) < 0)=false:=Ga (by omega)
  have d1:decide ((n:Int) > (p.parts.length:Int))=false:=Ga (by omega)
  have d2:decide ((n:Int) > (q.parts.length:Int))=false:=Ga (by omega)
  have hz:(0 < 1)=True:=by simp
  generalize oh 1 p.parts=np at *
  generalize oh 1 q.parts=nq at *
  generalize (Zb p.parts q.parts n 0).isSome=b at *
  generalize hQQ:(fun r:PV=>_)=QQ
  simp -implicitDefEqProofs only[Fe,SX,sevalprocAttr,jj,xb,hP1,hQ1,Fc,Bd,oc,hc1,hc2,z1,z2,lP,lQ,d0,d1,d2,Be,hz,fa,Aa,AV.cut,na,pa]
  refine za hloop ?_
  rintro _ ⟨E,H,⟨rfl,h6,h7,hb⟩ | ⟨nl,es,rfl,g8,hb⟩⟩
  ·subst hb
   simp -implicitDefEqProofs only[SX,sevalprocAttr,h6,h7]
   subst hQQ
   exact⟨_,rfl⟩
  ·subst hb
   cases nl <;>
   ·simp -implicitDefEqProofs only[SX,sevalprocAttr,g8]
    subst hQQ
    exact⟨_,rfl⟩
 obtain⟨r,h1,v,rfl⟩:=xc key
 exact⟨v,h1⟩
end Go.AM.B1
namespace Go.AM.B1
open Go.AM Go.AM.So
abbrev TN (row:List PV) (i:Int):Tr:=(Tr.lf.set 4 (.pv (i64 i))).set 1 (.pv (.rp row 0))
abbrev QG (row:List PV) (i j:Int):Tr:=((Tr.lf.set 5 (.pv (i64 j))).set 4 (.pv (i64 i))).set 1 (.pv (.rp row 0))
def BS (ss:List Lb) (i j:Nat):Prop:=(hi:i < ss.length)→(hj:j < ss.length)→ss[i].parts.length < ss[j].parts.length→Te ss[i] ss[j]=false
theorem qA (call:Wa) {S:PV} {ss:List Lb} {es:List PV} (hS:eb S ss es) (Ba:Tb ss) {i:Nat} (hi:i < ss.length):
 Gd (fun r=>∃ E,(r=(.exit 2,⟨E,[]⟩)∧E.get 1= .pv (.rp [S] 0)∧E.get 4= .pv (i64 i)∧∀ j,BS ss i j)∨(r=(.ret,⟨E,[]⟩)∧E.get 2= .pv (.bool false)∧E.get 3= .pv (i64 0)∧¬xg ss))
  (ab (ga (ua call Ic) (fa 0 [1,4,5])) qa ⟨QG [S] i 0,[]⟩):=by
 have h32:=Ba.len
 have ln:=hS.Vb
 obtain⟨P,ps,hP,a1⟩:=hS.sd hi
 have okp:=Ba.Xo _ (List.getElem_mem hi)
 have lP:=hP.parts.Vb
 have hPre:∀ j (hj:j < ss.length),ss[i].parts.length < ss[j].parts.length→Te ss[i] ss[j]=true→¬xg ss:=fun j hj h1 h2 h=>by
  have:=h i j hi hj h1;rw[h2] at this;cases this
 have hat:∀ j,BS ss i j↔((hj:j < ss.length)→ss[i].parts.length < ss[j].parts.length→Te ss[i] ss[j]=false):=fun j=>⟨fun h=>h hi,fun h _=>h⟩
 simp only[hat]
 generalize ss[i]=p at *
 refine za (wb (g:=ga (ua call Ic) (fa 0 [1,4,5]))
  (fun j t=>t=⟨QG [S] i j,[]⟩∧∀ j',j' < j→(hj:j' < ss.length)→p.parts.length < ss[j'].parts.length→Te p ss[j']=false)
  ss.length (by unfold qa;omega) _ ⟨rfl,fun j h=>by omega⟩ ?_ ?_) (fun r h=>h.2)
 ·rintro j t hj ⟨rfl,hs⟩
  obtain⟨Q,qs,hQ,a2⟩:=hS.sd hj
  have okq:=Ba.Xo _ (List.getElem_mem hj)
  have hcm:=fun (h:p.parts.length≤ss[j].parts.length)=>Cw hP hQ okp okq (n:=p.parts.length) (Nat.le_refl _) h
  have lQ:=hQ.parts.Vb
  have hbad:=hPre j hj
  have hnext:(p.parts.length < ss[j].parts.length→Te p ss[j]=false)→∀ j',j' < j+1→(hj:j' < ss.length)→p.parts.length < ss[j'].parts.length→Te p ss[j']=false:=by
   intro h j' h1 h2
   rcases Nat.lt_or_ge j' j with h3 | h3
   ·exact hs j' h3 h2
   ·have:j'=j:=by omega
    subst this;exact h
  unfold Te at hbad hnext
  generalize ss[j]=q at *
  have e1:decide ((j:Int) < (ss.length:Int))=true:=Fa (by omega)
  have t2:=Ua hj (by unfold maxLen;omega)
  generalize hQQ:LN _ _ j=QQ
  by_cases c1:(p.parts.length:Int) < (q.parts.length:Int)
  ·have d1:=Fa c1
   obtain⟨v,hv⟩:=hcm (by omega)
   cases hb:(Zb p.parts q.parts p.parts.length 0).isSome with
   |true=>
    rw[hb] at hv
    simp -implicitDefEqProofs only[SX,sevalprocAttr,Ic,ln,e1,Nb,Ta,Fc,Bd,oc,a1,a2,lP,lQ,d1,hv,QG]
    subst hQQ
    exact⟨_,.inr ⟨rfl,by simp[Tr.aa],by simp[Tr.aa],hbad (by omega) hb⟩⟩
   |false=>
    rw[hb] at hv
    simp -implicitDefEqProofs only[SX,sevalprocAttr,Ic,ln,e1,t2,Nb,Ta,Fc,Bd,oc,a1,a2,lP,lQ,d1,hv,fa,Aa,AV.cut,pa,QG]
    subst hQQ
    exact⟨rfl,hnext fun _=>hb⟩
  ·have d1:=Ga c1
   simp -implicitDefEqProofs only[SX,sevalprocAttr,Ic,ln,e1,t2,Nb,Ta,Fc,Bd,oc,a1,a2,lP,lQ,d1,fa,Aa,AV.cut,pa,QG]
   subst hQQ
   exact⟨rfl,hnext fun h=>absurd h (by omega)⟩
 ·rintro t ⟨rfl,hs⟩
  have e1:decide ((ss.length:Int) < (ss.length:Int))=false:=Ga (by omega)
  generalize hQ:(fun r:Ex×St=>r.1.stop=true∧_)=QQ
  simp -implicitDefEqProofs only[SX,sevalprocAttr,Ic,e1,ln,Nb,Ta,QG]
  subst hQ
  exact⟨rfl,_,.inl ⟨rfl,by simp[Tr.aa],by simp[Tr.aa],fun j hj=>hs j hj hj⟩⟩
theorem ZC {S:PV} {ss:List Lb} {es:List PV} (hS:eb S ss es):
 (¬ Tb ss→Ad [.agg [S]]=some (.mc [.bool false,i64 84]))∧
 (Tb ss→∃ b,Ad [.agg [S]]=some (.mc [.bool b,i64 0])∧(b=true↔xg ss)):=by
 have ln:=hS.Vb
 have hS1:(AV.pv S).one=true:=by rcases hS.is with⟨h,_⟩ | h <;> rw[h] <;> rfl
 obtain⟨b,hb,hbb⟩:=fw hS
 constructor
 ·intro h
  have:b=false:=by cases b with | false=>rfl | true=>exact absurd (hbb.1 rfl) h
  subst this
  simp -implicitDefEqProofs only[Ad,SX,sevalprocAttr,ah,hS1,zc,hb]
 ·intro Ba
  have h32:=Ba.len
  have:=hbb.2 Ba
  subst this
  have hloop:Gd (fun r=>∃ E,(r=(.exit 0,⟨E,[]⟩)∧xg ss)∨(r=(.ret,⟨E,[]⟩)∧E.get 2= .pv (.bool false)∧E.get 3= .pv (i64 0)∧¬xg ss))
   (ab (ga (ua (Ea (fun _=>none) 8) Me) (fa 0 [1,4])) qa ⟨TN [S] 0,[]⟩):=by
   refine za (wb (g:=ga (ua (Ea (fun _=>none) 8) Me) (fa 0 [1,4]))
    (fun i t=>t=⟨TN [S] i,[]⟩∧∀ i',i' < i→∀ j,BS ss i' j)
    ss.length (by unfold qa;omega) _ ⟨rfl,fun i h=>by omega⟩ ?_ ?_) (fun r h=>h.2)
   ·rintro i t hi ⟨rfl,hs⟩
    have hin:=qA (Ea (fun _=>none) 8) hS Ba hi
    have e1:decide ((i:Int) < (ss.length:Int))=true:=Fa (by omega)
    have t2:=Ua hi (by unfold maxLen;omega)
    generalize hQQ:LN _ _ i=QQ
    simp -implicitDefEqProofs only[SX,sevalprocAttr,Me,xb,ln,e1,Nb,Ta,fa,Aa,AV.cut,pa,TN]
    refine za hin ?_
    rintro _ ⟨E,⟨rfl,g1,g4,hp⟩ | ⟨rfl,g2,g3,hp⟩⟩
    ·simp -implicitDefEqProofs only[SX,sevalprocAttr,g1,g4,t2,fa,Aa,AV.cut,pa]
     subst hQQ
     refine⟨rfl,fun i' hi' j=> ?_⟩
     rcases Nat.lt_or_ge i' i with h3 | h3
     ·exact hs i' h3 j
     ·have:i'=i:=by omega
      subst this;exact hp j
    ·simp -implicitDefEqProofs only[SX,sevalprocAttr]
     subst hQQ
     exact⟨_,.inr ⟨rfl,g2,g3,hp⟩⟩
   ·rintro t ⟨rfl,hs⟩
    have e1:decide ((ss.length:Int) < (ss.length:Int))=false:=Ga (by omega)
    generalize hQ:(fun r:Ex×St=>r.1.stop=true∧_)=QQ
    simp -implicitDefEqProofs only[SX,sevalprocAttr,Me,e1,ln,Nb,Ta,TN]
    subst hQ
    exact⟨rfl,_,.inl ⟨rfl,fun i j hi hj=>hs i hi j hi hj⟩⟩
  have key:Gd (fun r=>∃ b,r=PV.mc [.bool b,i64 0]∧(b=true↔xg ss)) (Ad [.agg [S]]):=by
   generalize hQQ:(fun r:PV=>_)=QQ
   simp -implicitDefEqProofs only[Ad,SX,sevalprocAttr,ah,hS1,Nb,Ta,zc,hb,xb,fa,Aa,AV.cut,pa]
   refine za hloop ?_
   rintro _ ⟨E,⟨rfl,hp⟩ | ⟨rfl,g2,g3,hp⟩⟩
   ·simp -implicitDefEqProofs only[SX,sevalprocAttr]
    subst hQQ
    exact⟨true,rfl,by simpa using hp⟩
   ·simp -implicitDefEqProofs only[SX,sevalprocAttr,g2,g3]
    subst hQQ
    exact⟨false,rfl,by simpa using hp⟩
  obtain⟨r,h1,b,rfl,hb⟩:=xc key
  exact⟨b,h1,hb⟩
end Go.AM.B1
namespace Go.AM.B1
open Go.AM Go.AM.So
def fJ (f:Nat→Bool):List PV:=(List.range 32).map fun i=> .bool (f i)
def ec (d:Int) (f:Nat→Bool):List PV:=i64 d::fJ f
def Ue (a:Al):PV:= .agg (ec a.1 a.2.toNat.testBit)
theorem JC (f:Nat→Bool):(fJ f).length=32:=by simp[fJ]
theorem Ag (d:Int) (f:Nat→Bool):(ec d f).length=33:=by rw[ec,List.length_cons,JC]
theorem ZM (f:Nat→Bool) {i:Nat} (h:i < (fJ f).length):(fJ f)[i]= .bool (f i):=by
 simp only[fJ,List.getElem_map,List.getElem_range]
theorem oI (f:Nat→Bool) {i:Nat} (h:i < 32):(fJ f)[i]? =some (.bool (f i)):=by
 rw[List.getElem?_eq_getElem (by rw[JC];exact h),ZM]
theorem QO (f:Nat→Bool) {i:Nat} (h:i < 32) (b:Bool):(fJ f).set i (.bool b)=fJ fun j=>if j=i then b else f j:=by
 apply List.ext_getElem
 ·rw[List.length_set,JC,JC]
 ·intro j h1 h2
  rw[List.getElem_set,ZM,ZM]
  by_cases hj:i=j
  ·subst hj;rw[if_pos rfl,if_pos rfl]
  ·rw[if_neg hj,if_neg (Ne.symm hj)]
theorem Wt {f g:Nat→Bool} (h:∀ x,x < 32→f x=g x):fJ f=fJ g:=by
 unfold fJ
 apply List.map_congr_left
 intro x hx
 rw[h x (by simpa using hx)]
theorem qO {f g:Nat→Bool} (h:fJ f=fJ g) {i:Nat} (hi:i < 32):f i=g i:=by
 have h1:=oI f hi
 rw[h,oI g hi] at h1
 injection h1 with h1;injection h1 with h1;exact h1.symm
theorem Vv (d:Int) (f:Nat→Bool):∀ e∈ec d f,(AV.pv e).one=true:=by
 intro e he
 rcases List.mem_cons.1 he with rfl | he
 ·rfl
 ·obtain⟨x,_,rfl⟩:=List.mem_map.1 he
  rfl
def SU (a:Al):Prop:=∃ b:Nat,a.2=(b:Int)∧b < 4294967296
theorem uU {a b:Al} (ha:SU a) (hb:SU b) (h:Ue a=Ue b):a=b:=by
 obtain⟨d,_⟩:=a;obtain⟨e,_⟩:=b
 obtain⟨m,rfl,hm⟩:=ha
 obtain⟨n,rfl,hn⟩:=hb
 simp only[Ue,ec,PV.agg.injEq,List.cons.injEq,PV.int.injEq,true_and,Int.toNat_natCast] at h
 have:m=n:=by
  apply Nat.eq_of_testBit_eq
  intro i
  by_cases hi:i < 32
  ·exact qO h.2 hi
  ·rw[Nat.testBit_lt_two_pow (Nat.lt_of_lt_of_le hm (Nat.pow_le_pow_right (n:=2) (by decide) (by omega:32≤i))),Nat.testBit_lt_two_pow (Nat.lt_of_lt_of_le hn (Nat.pow_le_pow_right (n:=2) (by decide) (by omega:32≤i)))]
 subst this
 have h1:d=e:=by have:=h.1;omega
 rw[h1]
theorem Vx:∀ (l:List Nat) (f g:Nat→Bool),Xi (l.map fun _=>0) (l.map fun i=> .bool (f i)) (l.map fun i=> .bool (g i))=some (l.all fun i=>f i==g i)
 | [],f,g=>rfl
 |i::l,f,g=>by
  simp only[List.map_cons,Xi,js,Option.bind_some,Vx l f g,Option.map_some,List.all_cons]
abbrev IZ:Kd:= .row [1,0,0,0,0,0,0,0,0,0,0,0,0,0,0,0,0,0,0,0,0,0,0,0,0,0,0,0,0,0,0,0,0]
theorem nV (a b:Al):∃ c,Zk IZ (Ue a) (Ue b)=some c∧(c=true↔Ue a=Ue b):=by
 have h:=Vx (List.range 32) a.2.toNat.testBit b.2.toNat.testBit
 have h0:(List.range 32).map (fun _=>0)=[0,0,0,0,0,0,0,0,0,0,0,0,0,0,0,0,0,0,0,0,0,0,0,0,0,0,0,0,0,0,0,0]:=by decide
 rw[h0] at h
 refine⟨((a.1:Int)==b.1)&&(List.range 32).all fun i=>a.2.toNat.testBit i==b.2.toNat.testBit i,?_,?_⟩
 ·show Xi (1::[0,0,0,0,0,0,0,0,0,0,0,0,0,0,0,0,0,0,0,0,0,0,0,0,0,0,0,0,0,0,0,0]) (i64 a.1::fJ _) (i64 b.1::fJ _)=_
  unfold Xi
  rw[show fJ a.2.toNat.testBit=(List.range 32).map fun i=> .bool (a.2.toNat.testBit i) from rfl,show fJ b.2.toNat.testBit=(List.range 32).map fun i=> .bool (b.2.toNat.testBit i) from rfl,h]
  simp only[js,if_true,Option.bind_some,Option.map_some]
 ·simp only[Bool.and_eq_true,beq_iff_eq,List.all_eq_true,List.mem_range]
  constructor
  ·rintro⟨h1,h2⟩
   rw[Ue,Ue,h1]
   unfold ec
   rw[Wt h2]
  ·intro h
   simp only[Ue,ec,PV.agg.injEq,List.cons.injEq,PV.int.injEq,true_and] at h
   exact⟨h.1,fun i hi=>qO h.2 hi⟩
theorem HJ (H:List ba) {l:List Al} {i:Nat} (hi:i < l.length):wa H 33 (.pv (.lit 33 (l.map Ue))) (i:Int)=some (.pv (.rp (ec l[i].1 l[i].2.toNat.testBit) 0)):=by
 simp only[wa]
 rw[if_pos (by refine⟨trivial,?_⟩;unfold Ia;simp;omega)]
 simp[hi,Ue,PV.cells]
theorem sJ (H:List ba) (d:Int) (f:Nat→Bool):xa H true 33 (.pv (.rp (ec d f) 0))=some (.pv (.agg (ec d f))):=by
 have h:=Ag d f
 simp only[xa,Hl,if_true]
 rw[if_pos (by omega),List.drop_zero,List.take_of_length_le (by omega)]
 rfl
theorem MQ {a:Al} {l:List Al} {i k:Nat} (hi:i < l.length):cm a (l.drop i) k=if a=l[i] then some k else cm a (l.drop (i+1)) (k+1):=by
 rw[List.drop_eq_getElem_cons hi,cm]
abbrev mK (v:PV) (row:List PV) (i:Int):Tr:=((Tr.lf.set 5 (.pv (i64 i))).set 3 (.pv (.rp row 0))).set 0 (.pv v)
theorem UU {l:List Al} {a:Al} (hl:l.length≤64) (ha:SU a) (hb:∀ b∈l,SU b):oi [.lit 33 (l.map Ue),Ue a]=some (i64 (match cm a l 0 with | some k=>(k:Int) | none=> -1)):=by
 have hloop:Gd (fun r=>∃ E,(r=(.exit 0,⟨E,[]⟩)∧cm a l 0=none)∨(∃ k,r=(.ret,⟨E,[]⟩)∧cm a l 0=some k∧E.get 4= .pv (i64 (k:Nat))))
  (ab (ga (ua (Ea (fun _=>none) 8) Xd) (fa 0 [0,3,5])) qa ⟨mK (.lit 33 (l.map Ue)) (ec a.1 a.2.toNat.testBit) 0,[]⟩):=by
  refine za (wb (g:=ga (ua (Ea (fun _=>none) 8) Xd) (fa 0 [0,3,5]))
   (fun i t=>t=⟨mK (.lit 33 (l.map Ue)) (ec a.1 a.2.toNat.testBit) i,[]⟩∧cm a l 0=cm a (l.drop i) i)
   l.length (by unfold qa;omega) _ ⟨rfl,rfl⟩ ?_ ?_) (fun r h=>h.2)
  ·rintro i t hi ⟨rfl,hs⟩
   rw[MQ hi] at hs
   have a1:=HJ [] hi
   have a2:=sJ [] l[i].1 l[i].2.toNat.testBit
   have a3:=sJ [] a.1 a.2.toNat.testBit
   obtain⟨c,heq,hce⟩:=nV l[i] a
   have heq:Zk IZ (.agg (ec l[i].1 l[i].2.toNat.testBit)) (.agg (ec a.1 a.2.toNat.testBit))=some c:=heq
   have e1:decide ((i:Int) < (l.length:Int))=true:=Fa (by omega)
   have t2:=Ua hi (show l.length≤maxLen by unfold maxLen;omega)
   have ln:Vb [] 0 (.pv (.lit 33 (l.map Ue)))=some l.length:=by simp[Vb]
   have hbi:=hb _ (List.getElem_mem hi)
   generalize ec a.1 a.2.toNat.testBit=row at *
   generalize ec l[i].1 l[i].2.toNat.testBit=row2 at *
   generalize l.map Ue=es at *
   generalize hQ:LN _ _ i=Q
   by_cases h:a=l[i]
   ·rw[hce.2 (by rw[h])] at heq
    rw[if_pos h] at hs
    simp -implicitDefEqProofs only[SX,sevalprocAttr,Xd,e1,ln,a1,a2,a3,heq,mK]
    subst hQ
    exact⟨_,.inr ⟨i,rfl,hs,by simp[Tr.aa]⟩⟩
   ·have:c=false:=by cases c with | false=>rfl | true=>exact absurd (uU hbi ha (hce.1 rfl)).symm h
    rw[this] at heq
    rw[if_neg h] at hs
    simp -implicitDefEqProofs only[SX,sevalprocAttr,Xd,e1,t2,ln,a1,a2,a3,heq,fa,Aa,AV.cut,pa,mK]
    subst hQ
    exact⟨rfl,hs⟩
  ·rintro t ⟨rfl,hs⟩
   rw[List.drop_length,cm] at hs
   have e1:decide ((l.length:Int) < (l.length:Int))=false:=Ga (by omega)
   have ln:Vb [] 0 (.pv (.lit 33 (l.map Ue)))=some l.length:=by simp[Vb]
   generalize l.map Ue=es at *
   generalize hQ:(fun r:Ex×St=>r.1.stop=true∧_)=Q
   simp -implicitDefEqProofs only[SX,sevalprocAttr,Xd,e1,ln,mK]
   subst hQ
   exact⟨rfl,_,.inl ⟨rfl,hs⟩⟩
 have hln:=Ag (a.1:Int) a.2.toNat.testBit
 have hall:∀ e∈ec (a.1:Int) a.2.toNat.testBit,(AV.pv e).one=true:=Vv _ _
 have he:Ue a= .agg (ec a.1 a.2.toNat.testBit):=rfl
 rw[he]
 generalize ec (a.1:Int) a.2.toNat.testBit=row at *
 have hbx:((row.map AV.pv).length=33∧(row.map AV.pv).all AV.one=true)=True:=by
  refine eq_true ⟨by rw[List.length_map,hln],?_⟩
  rw[List.all_eq_true];intro v hv
  obtain⟨e,he,rfl⟩:=List.mem_map.1 hv
  exact hall e he
 have hmp:Ra (dc [] 0) (row.map AV.pv)=some row:=DC _ _ _
 generalize l.map Ue=es at *
 apply Yk
 simp -implicitDefEqProofs only[oi,SX,sevalprocAttr,qk,hbx,hmp,xb,fa,Aa,AV.cut,pa]
 refine za hloop ?_
 rintro _ ⟨E,⟨rfl,hn⟩ | ⟨k,rfl,hk,g⟩⟩
 ·simp -implicitDefEqProofs only[SX,sevalprocAttr,hn]
 ·simp -implicitDefEqProofs only[SX,sevalprocAttr,g,hk]
end Go.AM.B1
