/- What functions of the program compute. -/
import Derived.Test.YtijlhblleiaomaaGreatW7
set_option linter.unusedVariables false
set_option linter.unusedSimpArgs false
namespace Go.AM.B1
open Go.AM Go.AM.So
theorem KO {v:PV} {l:List (Int×Int)} (h:Pn v l):∃ w,Pc [v]=some w∧ri 2 w (Dd l)∧(l≠[]→w= .lit 2 (Dd l)):=by
 rcases h.is with⟨rfl,hl⟩ | rfl
 ·refine⟨.ma,?_,.inl ⟨rfl,hl⟩,fun hne=>absurd (by simpa[Dd] using hl) hne⟩
  simp -implicitDefEqProofs only[Pc,SP,SA,SQ,WP,WQ,sevalprocAttr,ie]
 ·refine⟨.lit 2 (Dd l),?_,.inr rfl,fun _=>rfl⟩
  have hr:mb (Dd l).length 16:=by have:=h.sz;unfold mb;simp;omega
  generalize Dd l=es at *
  simp -implicitDefEqProofs only[Pc,SP,SA,SQ,WP,WQ,sevalprocAttr,ie,eq_true hr]
abbrev mJ (S P:PV) (n i m j:Int):Tr:=((((((((Tr.lf.set 22 (.pv (i64 j))).set 21 (.pv (i64 m))).set 20 (.pv P)).set 12 (.pv (i64 i))).set 11 (.pv (i64 n))).set 10 (.pv S)).set 6 (.ptr 4 0)).set 3 (.ptr 1 0)).set 2 (.ptr 0 0)
abbrev nN (S:PV) (n i:Int):Tr:=((((Tr.lf.set 12 (.pv (i64 i))).set 11 (.pv (i64 n))).set 10 (.pv S)).set 3 (.ptr 1 0)).set 2 (.ptr 0 0)
abbrev CX (out:List PV) (nl:Bool):List ba:=[.box [.pv .ma],.box [.uq 2 nl 2 out],.tok 2 out.length nl]
abbrev BH (out:List PV) (nl:Bool) (P:PV) (f:Int) (ps:List PV) (nl1:Bool):List ba:=[.box [.pv .ma],.box [.uq 2 nl 2 out],.tok 2 out.length nl,.box [.pv P,.pv (i64 f)],.box [.uq 5 nl1 1 ps,.pv (i64 f)],.tok 1 ps.length nl1]
theorem XL {P S:PV} {ls:List (List (Int×Int))} {ps:List PV} (hP:Ze P ls ps) (Ba:∀ l∈ls,l≠[]) (h8:ls.length≤8) (out:List PV) (nl:Bool) (f n i:Int):
 ∃ E nl1,qb (fa (pa (Ea (fun _=>none) 8) Dh) (ga 6 [2,3,6,10,11,12,20,21,22])) qa ⟨mJ S P n i ls.length 0,BH out nl P f [] true⟩=
  some (.exit 2,⟨E,BH out nl P f (ls.map oe) nl1⟩)∧(nl1=true→ls=[])∧E.get 2= .ptr 0 0∧E.get 3= .ptr 1 0∧E.get 6= .ptr 4 0∧E.get 10= .pv S∧E.get 11= .pv (i64 n)∧E.get 12= .pv (i64 i):=by
 have key:=Eb (g:=fa (pa (Ea (fun _=>none) 8) Dh) (ga 6 [2,3,6,10,11,12,20,21,22]))
  (fun j t=>∃ nl1,t=⟨mJ S P n i ls.length j,BH out nl P f ((ls.take j).map oe) nl1⟩∧(nl1=true→j=0))
  (Q:=fun r=>∃ E nl1,r=(.exit 2,⟨E,BH out nl P f (ls.map oe) nl1⟩)∧(nl1=true→ls=[])∧E.get 2= .ptr 0 0∧E.get 3= .ptr 1 0∧E.get 6= .ptr 4 0∧E.get 10= .pv S∧E.get 11= .pv (i64 n)∧E.get 12= .pv (i64 i))
  ls.length (by unfold qa;omega) ⟨mJ S P n i ls.length (0:Nat),BH out nl P f [] true⟩ ⟨true,rfl,fun _=>rfl⟩ ?_ ?_
 ·obtain⟨r,h1,_,E,nl1,rfl,h2⟩:=Gc key
  exact⟨E,nl1,h1,h2⟩
 ·rintro j t hj ⟨nl1,rfl,hnl⟩
  obtain⟨v,hv,hpt,_⟩:=hP.Ad hj []
  have a1:=hP.Fx hv
  obtain⟨w,hcl,_,hw⟩:=KO hpt
  have hw:=hw (Ba _ (List.getElem_mem hj))
  subst hw
  have htk:(ls.take (j+1)).map oe=(ls.take j).map oe++[.lit 2 (Dd ls[j])]:=by
   rw[List.take_succ_eq_append_getElem hj,List.map_append];rfl
  have hpl:((ls.take j).map oe).length=j:=by simp;omega
  generalize ls[j]=l at *
  have e1:decide ((j:Int) < (ls.length:Int))=true:=Fa (by omega)
  have t2:=Ya hj (by unfold maxLen;omega)
  have r1:∀ H (x:PV),ya H false 1 (.pv (.rp [x] 0))=some (.pv x):=fun H x=>rfl
  have hap:=Ah (A:=BH out nl P f ((ls.take j).map oe) nl1) (id:=5) (n:=j) (h:= .uq) (ag:=false) (nl:=nl1) (sz:=1) (bytes:=24) (es:=(ls.take j).map oe) (by show some (ba.tok 1 ((ls.take j).map oe).length nl1)=_;rw[hpl]) hpl.symm (by unfold mb;omega) (.lit 2 (Dd l))
  have hlen1:((ls.take j).map oe++[PV.lit 2 (Dd l)]).length=j+1:=by rw[List.length_append,hpl];rfl
  have hap':Ub (BH out nl P f ((ls.take j).map oe) nl1) false .uq 1 false 24 (.uq 5 nl1 1 ((ls.take j).map oe)) (.pv (.lit 1 [.lit 2 (Dd l)]))=some (.uq 5 false 1 ((ls.take j).map oe++[.lit 2 (Dd l)]),[.box [.pv .ma],.box [.uq 2 nl 2 out],.tok 2 out.length nl,.box [.pv P,.pv (i64 f)],.box [.uq 5 nl1 1 ((ls.take j).map oe),.pv (i64 f)],.tok 1 (j+1) false]):=hap
  unfold BH at hap' ⊢
  rw[hpl] at hap' ⊢
  have p0:∀ (x:AV) (y z:ba),place [.box [.pv .ma],.box [.uq 2 nl 2 out],y,.box [.pv P,.pv (i64 f)],.box [x,.pv (i64 f)],z] 0 (.ptr 4 0)=some (.ptr 4 0):=fun x y z=>rfl
  have l0:∀ (x:AV) (y z:ba),ya [.box [.pv .ma],.box [.uq 2 nl 2 out],y,.box [.pv P,.pv (i64 f)],.box [x,.pv (i64 f)],z] false 1 (.ptr 4 0)=some x:=fun x y z=>rfl
  have s0:∀ (x:AV) (y z:ba) (es:List PV),Ma [.box [.pv .ma],.box [.uq 2 nl 2 out],y,.box [.pv P,.pv (i64 f)],.box [x,.pv (i64 f)],z] 1 (.ptr 4 0) (.uq 5 false 1 es)=some [.box [.pv .ma],.box [.uq 2 nl 2 out],y,.box [.pv P,.pv (i64 f)],.box [.uq 5 false 1 es,.pv (i64 f)],z]:=fun x y z es=>rfl
  generalize hp0:(ls.take j).map oe=ps0 at *
  generalize hL:PV.lit 2 (Dd l)=L at *
  have hL1:(AV.pv L).cells=[.pv L]∧(AV.pv L).one=true:=by rw[← hL];exact⟨rfl,rfl⟩
  have b5:(5 < 6)=True:=by simp
  have b4:(4 < 6)=True:=by simp
  have b2:(2 < 6)=True:=by simp
  have b1:(1 < 6)=True:=by simp
  have b0:(0 < 6)=True:=by simp
  have hLc:L.cells=[L]:=by rw[← hL];rfl
  generalize hQ:LN _ _ j=Q
  subst hL
  simp -implicitDefEqProofs only[SP,WP,na,sevalprocAttr,Dh,e1,t2,a1,r1,p0,l0,s0,hcl,hap',b0,b1,b2,b4,b5,ga,Aa,AV.cut,oa,Sa,ua,mJ]
  subst hQ
  refine⟨false,?_,by simp⟩
  rw[htk,hlen1]
 ·rintro t ⟨nl1,rfl,hnl⟩
  rw[List.take_length]
  have e1:decide ((ls.length:Int) < (ls.length:Int))=false:=Ka (by omega)
  generalize hQ:(fun r:Ex×St=>r.1.stop=true∧_)=Q
  simp -implicitDefEqProofs only[SX,sevalprocAttr,Dh,e1,mJ]
  subst hQ
  exact⟨rfl,_,nl1,rfl,fun h=>List.eq_nil_of_length_eq_zero (hnl h),by simp[Tr.aa],by simp[Tr.aa],by simp[Tr.aa],by simp[Tr.aa],by simp[Tr.aa],by simp[Tr.aa]⟩
theorem FC {S:PV} {ss:List Rb} {es:List PV} (hS:wb S ss es) (Ba:qc ss):∃ S',Ki [.agg [S]]=some (.agg [S'])∧ri 2 S' (ss.map Fe):=by
 have lS:=hS.Sb
 have h32:=Ba.len
 have hSone:(AV.pv S).one=true:=by rcases hS.is with⟨h,_⟩ | h <;> rw[h] <;> rfl
 have hloop:Ld (fun r=>∃ E nl,r=(.exit 0,⟨E,CX (ss.map Fe) nl⟩)∧(nl=true→ss=[])∧E.get 2= .ptr 0 0∧E.get 3= .ptr 1 0)
  (qb (fa (pa (Ea (fun _=>none) 8) wh) (ga 3 [2,3,10,11,12])) qa ⟨nN S ss.length 0,CX [] true⟩):=by
  refine za (Eb (g:=fa (pa (Ea (fun _=>none) 8) wh) (ga 3 [2,3,10,11,12]))
   (fun i t=>∃ nl,t=⟨nN S ss.length i,CX ((ss.take i).map Fe) nl⟩∧(nl=true→i=0))
   (Q:=fun r=>∃ E nl,r=(.exit 0,⟨E,CX (ss.map Fe) nl⟩)∧(nl=true→ss=[])∧E.get 2= .ptr 0 0∧E.get 3= .ptr 1 0)
   ss.length (by unfold qa;omega) _ ⟨true,rfl,fun _=>rfl⟩ ?_ ?_) (fun r h=>h.2)
  ·rintro i t hi ⟨nl,rfl,hnl⟩
   obtain⟨P,ps,hPs,a1⟩:=hS.Ad hi
   have ok:=Ba.Av _ (List.getElem_mem hi)
   obtain⟨hP1,hP2⟩:=hPs.yx
   have lP:=hPs.parts.Sb
   have htk:(ss.take (i+1)).map Fe=(ss.take i).map Fe++[Fe ss[i]]:=by
    rw[List.take_succ_eq_append_getElem hi,List.map_append];rfl
   have hpl:((ss.take i).map Fe).length=i:=by simp;omega
   obtain⟨E,nl1,hin,hnl1,g2,g3,g6,g10,g11,g12⟩:=XL (S:=S) hPs.parts (fun l hl=>(ok.parts l hl).1) ok.hi ((ss.take i).map Fe) nl ss[i].first ss.length i
   have hnl1f:nl1=false:=by
    cases nl1 with
    |false=>rfl
    |true=>have:=hnl1 rfl;have h2:=ok.lo;rw[this] at h2;simp at h2
   subst hnl1f
   have hes:Fe ss[i]= .agg [.lit 1 (ss[i].parts.map oe),i64 ss[i].first]:=rfl
   rw[hes] at htk
   generalize ss[i]=p at *
   have e1:decide ((i:Int) < (ss.length:Int))=true:=Fa (by omega)
   have t2:=Ya hi (by unfold maxLen;omega)
   have a2:∀ H,ya H true 2 (.pv (.rp [P,i64 p.first] 0))=some (.pv (.agg [P,i64 p.first])):=fun H=>rfl
   generalize (ss.take i).map Fe=out at *
   generalize p.parts.map oe=pp at *
   subst hpl
   unfold BH at hin
   unfold CX
   have hlo:(out++[PV.agg [.lit 1 pp,i64 p.first]]).length=out.length+1:=by simp
   have hap:∀ (T:List ba),Ub ([.box [.pv .ma],.box [.uq 2 nl 2 out],.tok 2 out.length nl]++T) false .uq 2 true 32 (.uq 2 nl 2 out) (.pv (.lit 2 [.agg [.lit 1 pp,i64 p.first]]))=some (.uq 2 false 2 (out++[.agg [.lit 1 pp,i64 p.first]]),[.box [.pv .ma],.box [.uq 2 nl 2 out],.tok 2 (out.length+1) false]++T):=fun T=>
    Ah (A:=[.box [.pv .ma],.box [.uq 2 nl 2 out],.tok 2 out.length nl]++T) (id:=2) (n:=out.length) (h:= .uq) (ag:=true) (nl:=nl) (sz:=2) (bytes:=32) (es:=out) rfl rfl (by unfold mb;omega) _
   have hap1:=fun a b c=>hap [a,b,c]
   simp only[List.cons_append,List.nil_append] at hap1
   have s1:∀ T:List ba,Ma ([.box [.pv .ma],.box [.uq 2 nl 2 out],.tok 2 out.length nl,.box [.pv .ma,.pv (i64 0)]]) 2 (.ptr 3 0) (.pv (.agg [P,i64 p.first]))=some [.box [.pv .ma],.box [.uq 2 nl 2 out],.tok 2 out.length nl,.box [.pv P,.pv (i64 p.first)]]:=fun T=>
    Wm _ _ _ _ hP1 rfl [.box [.pv .ma],.box [.uq 2 nl 2 out],.tok 2 out.length nl] _ rfl
   have s1':=s1 []
   have b5:(5 < 6)=True:=by simp
   have b4:(4 < 6)=True:=by simp
   have b2:(2 < 6)=True:=by simp
   have b1:(1 < 6)=True:=by simp
   have b0:(0 < 6)=True:=by simp
   have c2:(2 < 3)=True:=by simp
   have c1:(1 < 3)=True:=by simp
   have c0:(0 < 3)=True:=by simp
   have hz:(0 < 1)=True:=by simp
   generalize hQ:LN _ _ out.length=Q
   have hin':qb (fa (pa (Ea (fun _=>none) 8) Dh) (ga 6 [2,3,6,10,11,12,20,21,22])) qa ⟨((((((((Tr.lf.set 22 (.pv (.int .i64 0))).set 21 (.pv (i64 p.parts.length))).set 20 (.pv P)).set 12 (.pv (i64 out.length))).set 11 (.pv (i64 ss.length))).set 10 (.pv S)).set 6 (.ptr 4 0)).set 3 (.ptr 1 0)).set 2 (.ptr 0 0),[.box [.pv .ma],.box [.uq 2 nl 2 out],.tok 2 out.length nl,.box [.pv P,.pv (i64 p.first)],.box [.uq 5 true 1 [],.pv (i64 p.first)],.tok 1 0 true]⟩=_:=hin
   simp -implicitDefEqProofs only[SP,SA,SQ,sevalprocAttr,fa,wh,Bb,e1,a1,a2,s1',hP1,lP,Ee,hz,b0,b1,b2,b4,b5,ga,Aa,AV.cut,oa,Ja,Sa,ua,nN]
   rw[hin']
   simp -implicitDefEqProofs only[SP,SQ,WP,WQ,↓reduceIte,reduceCtorEq,Nat.reduceAdd,Nat.reduceMul,Nat.reduceLeDiff,Nat.reduceEqDiff,Int.reduceLT,Int.reduceLE,Int.reduceBEq,Int.reduceEq,Nat.reduceBEq,Nat.reduceLT,Nat.reduceSub,g2,g3,g6,g10,g11,g12,hap1,t2,c0,c1,c2,ga,Aa,AV.cut,oa,Sa,ua]
   subst hQ
   exact⟨false,by rw[htk,hlo],by simp⟩
  ·rintro t ⟨nl,rfl,hnl⟩
   rw[List.take_length]
   have e1:decide ((ss.length:Int) < (ss.length:Int))=false:=Ka (by omega)
   generalize hQ:(fun r:Ex×St=>r.1.stop=true∧_)=Q
   simp -implicitDefEqProofs only[SX,sevalprocAttr,wh,e1,nN]
   subst hQ
   exact⟨rfl,_,nl,rfl,fun h=>List.eq_nil_of_length_eq_zero (hnl h),by simp[Tr.aa],by simp[Tr.aa]⟩
 obtain⟨r,h1,E,nl,rfl,hnl,g2,g3⟩:=Gc hloop
 have h1':qb (fa (pa (Ea (fun _=>none) 8) wh) (ga 3 [2,3,10,11,12])) qa ⟨((((Tr.lf.set 12 (.pv (.int .i64 0))).set 11 (.pv (i64 ss.length))).set 10 (.pv S)).set 3 (.ptr 1 0)).set 2 (.ptr 0 0),[.box [.pv .ma],.box [.uq 2 true 2 []],.tok 2 0 true]⟩=_:=h1
 have hz:(0 < 2)=True:=by simp
 have c2:(2 < 3)=True:=by simp
 have c1:(1 < 3)=True:=by simp
 have c0:(0 < 3)=True:=by simp
 have hout:nl=true→ss.map Fe=[]:=fun h=>by rw[hnl h];rfl
 generalize ss.map Fe=out at *
 cases nl with
 |true=>
  refine⟨.ma,?_,.inl ⟨rfl,?_⟩⟩
  ·simp -implicitDefEqProofs only[Ki,SP,SA,SQ,sevalprocAttr,fa,zn,Bb,hSone,gE,lS,Ee,hz,c0,c1,c2,ga,Aa,AV.cut,oa,Ja,Sa,ua,h1',g2,g3]
  ·exact hout rfl
 |false=>
  refine⟨.lit 2 out,?_,.inr rfl⟩
  simp -implicitDefEqProofs only[Ki,SP,SA,SQ,sevalprocAttr,fa,zn,Bb,hSone,gE,lS,Ee,hz,c0,c1,c2,ga,Aa,AV.cut,oa,Ja,Sa,ua,h1',g2,g3]
end Go.AM.B1
namespace Go.AM.B1
open Go.AM Go.AM.So
theorem qc.ne {ss:List Rb} (h:qc ss):∀ s∈ss,0 < s.parts.length:=fun s hs=>(h.Av s hs).lo
theorem wb.WX {S:PV} {ss:List Rb} {es:List PV} (h:wb S ss es):∀ s∈ss,∀ l∈s.parts,l.length * 16≤140737488355328:=by
 intro s hs l hl
 obtain⟨i,hi,rfl⟩:=List.getElem_of_mem hs
 obtain⟨e,P,ps,_,_,hp⟩:=h.get hi
 obtain⟨j,hj,rfl⟩:=List.getElem_of_mem hl
 obtain⟨v,_,_,hv⟩:=hp.parts.get hj
 exact hv.sz
theorem ei {S:PV} {ss:List Rb} {es:List PV} (hS:wb S ss es):
 (¬ qc ss→wc [.agg [S]]=some (.uc [.agg [.ma],i64 84]))∧
 (qc ss→¬Fg ss→wc [.agg [S]]=some (.uc [.agg [.ma],i64 110]))∧
 (qc ss→Fg ss→yg ss=none→wc [.agg [S]]=some (.uc [.agg [.ma],i64 130]))∧
 (qc ss→Fg ss→∀ l,yg ss=some l→wc [.agg [S]]=some (.uc [.agg [zj l],i64 0])):=by
 have hS0:S= .ma∨∃ l,S= .lit 2 l:=by
  rcases hS.is with⟨h,_⟩ | h
  ·exact .inl h
  ·exact .inr ⟨_,h⟩
 have hp:=sD hS
 refine⟨?_,?_,?_,?_⟩
 ·intro h
  exact YQ S hS0 (by decide) (hp.1 h)
 ·intro h1 h2
  obtain⟨y,a,b,h3,h4⟩:=hp.2 h1
  have hy:y=false:=by cases y with | false=>rfl | true=>exact absurd (h4.1 rfl) h2
  subst hy
  exact yS S hS0 h3
 ·intro h1 h2 h5
  obtain⟨y,a,b,h3,h4⟩:=hp.2 h1
  have hy:=h4.2 h2
  subst hy
  obtain⟨S',hc,hs⟩:=FC hS h1
  exact wL S S' ss hS0 h3 hc hs h1.len hS.WX h1.ne h5
 ·intro h1 h2 l h5
  obtain⟨y,a,b,h3,h4⟩:=hp.2 h1
  have hy:=h4.2 h2
  subst hy
  obtain⟨S',hc,hs⟩:=FC hS h1
  exact PR S S' ss hS0 h3 hc hs h1.len hS.WX h1.ne h5
end Go.AM.B1
namespace Go.AM.B1
open Go.AM Go.AM.So
abbrev Hb (es:List PV):ba:= .box (es.map .pv)
theorem cj {A:List ba} {id:Nat} {es:List PV} (hg:A[id]? =some (Hb es)) (o d:Nat):place A d (.ptr id o)=some (.ptr id (o+d)):=by
 simp only[place,hg]
theorem ZD {A:List ba} {id:Nat} {es:List PV} (hg:A[id]? =some (Hb es)) {k:Nat} {e:PV} (hk:es[k]? =some e):ya A false 1 (.ptr id k)=some (.pv e):=by
 simp only[ya,hg,Sg,Bool.false_eq_true,if_false,List.getElem?_map,hk,Option.map_some]
theorem nw {A:List ba} {id:Nat} {es:List PV} (hg:A[id]? =some (Hb es)) {k:Nat} (hk:k < es.length) {e:PV} (hc:e.cells=[e]) (h1:(AV.pv e).one=true):Ma A 1 (.ptr id k) (.pv e)=some (A.set id (Hb (es.set k e))):=by
 have hc':(AV.pv e).cells=[.pv e]:=by simp[AV.cells,hc]
 simp only[Ma,hg,hc']
 rw[if_pos ⟨rfl,by simp[h1]⟩,if_pos (by simp;omega),na,na]
 show _=some (A.set id (.box ((es.set k e).map .pv)))
 rw[List.map_set]
theorem cf:∀ (es:List PV),de (es.map .pv)=some es
 | []=>rfl
 |e::es=>by rw[List.map_cons,de,cf es];rfl
theorem Wl {A:List ba} {id n:Nat} {es:List PV} (hg:A[id]? =some (Hb es)) (hn:es.length=n):ya A true n (.ptr id 0)=some (.pv (.agg es)):=by
 simp only[ya,hg,Sg,if_true]
 rw[if_pos (by simp;omega)]
 have:List.take n (List.drop 0 (es.map AV.pv))=es.map AV.pv:=by rw[List.drop_zero,List.take_of_length_le (by simp;omega)]
 rw[this,Kq,cf]
theorem It {α:Type}:∀ (vs cs pre:List α),cs.length=vs.length→na (pre++cs) pre.length vs=pre++vs
 | [],cs,pre,h=>by cases cs with | nil=>rfl | cons=>simp at h
 |v::vs,cs,pre,h=>by
  cases cs with
  |nil=>simp at h
  |cons c cs=>
   have:(pre++c::cs).set pre.length v=(pre++[v])++cs:=by simp
   rw[na,this]
   have h2:=It vs cs (pre++[v]) (by simpa using h)
   simp only[List.length_append,List.length_singleton] at h2
   rw[h2];simp
theorem Vo {A:List ba} {id n:Nat} {es fs:List PV} (hg:A[id]? =some (Hb es)) (hn:es.length=n) (hf:fs.length=n) (h1:∀ e∈fs,(AV.pv e).one=true):Ma A n (.ptr id 0) (.pv (.agg fs))=some (A.set id (Hb fs)):=by
 have hc':(AV.pv (.agg fs)).cells=fs.map .pv:=rfl
 simp only[Ma,hg,hc']
 rw[if_pos ⟨by simp[hf],by rw[List.all_eq_true];intro v hv;obtain⟨e,he,rfl⟩:=List.mem_map.1 hv;exact h1 e he⟩,if_pos (by simp;omega)]
 have:=It (fs.map AV.pv) (es.map AV.pv) [] (by simp;omega)
 simp only[List.nil_append,List.length_nil] at this
 rw[this]
theorem zg (es:List PV) (n:Nat):oa n (Hb es)=some (Hb es):=by
 have:Sa (AV.cut n deep) (es.map AV.pv)=some (es.map AV.pv):=by
  refine Sk ?_
  intro v hv
  obtain⟨e,_,rfl⟩:=List.mem_map.1 hv
  exact Ja
 simp only[oa,this,Option.map_some]
def eu (l:List (Int×Int)) (i:Nat):Int:=match i with
 |0=> -2
 |k+1=>match l[k]? with | some p=>p.2 | none=> -2
abbrev yy (v:PV) (i:Int):Tr:=(Tr.lf.set 3 (.pv (i64 i))).set 0 (.pv v)
theorem Uw {v:PV} {l:List (Int×Int)} (hv:ri 2 v (Dd l)) (hw:l.length * 16≤140737488355328):Of [v]=some (.bool (Oa 255 (-2) l)):=by
 have hloop:Ld (fun r=>∃ E,(r=(.exit 0,⟨E,[]⟩)∧Oa 255 (-2) l=true)∨(r=(.ret,⟨E,[]⟩)∧E.get 2= .pv (.bool false)∧Oa 255 (-2) l=false))
  (qb (fa (pa (Ea (fun _=>none) 8) Mb) (ga 0 [0,3])) qa ⟨yy v 0,[]⟩):=by
  refine za (Eb (g:=fa (pa (Ea (fun _=>none) 8) Mb) (ga 0 [0,3]))
   (fun i t=>t=⟨yy v i,[]⟩∧ -2≤eu l i∧eu l i≤255∧Oa 255 (-2) l=Oa 255 (eu l i) (l.drop i))
   l.length (by unfold qa;omega) _ ⟨rfl,Int.le_refl _,by show (-2:Int)≤255;decide,rfl⟩ ?_ ?_) (fun r h=>h.2)
  ·rintro i t hi ⟨rfl,hlz,hla,hs⟩
   have hl:=hv.lit (i:=i) (by simpa using hi)
   subst hl
   have hd:l.drop i=l[i]::l.drop (i+1):=List.drop_eq_getElem_cons hi
   have hnext:eu l (i+1)=l[i].2:=by simp[eu,hi]
   have a1:=Lk [] hi
   have hprev:0 < i→∃ a b,eu l i=b∧IntKind.i64.wrap ((i:Int) - 1)=((i - 1:Nat):Int)∧wa [] 2 (.pv (.lit 2 (Dd l))) ((i - 1:Nat):Int)=some (.pv (.rp [i64 a,i64 b] 0)):=by
    intro h0
    have hi1:i - 1 < l.length:=by omega
    refine⟨l[i - 1].1,l[i - 1].2,?_,?_,Lk [] hi1⟩
    ·obtain⟨k,rfl⟩:∃ k,i=k+1:=⟨i - 1,by omega⟩
     simp[eu,show k < l.length by omega]
    ·rw[show (i:Int) - 1=((i - 1:Nat):Int) by omega]
     exact Da (by omega)
   have e1:decide ((i:Int) < (l.length:Int))=true:=Fa (by omega)
   have t2:=Ya hi (by unfold maxLen;omega)
   have ln:=ri.len (sz:=2) (v:= .lit 2 (Dd l)) (es:=Dd l) (.inr rfl) []
   have lp:(Dd l).length=l.length:=by simp[Dd]
   rw[lp] at ln
   rw[hd,Oa] at hs
   have l0:∀ a b:PV,ya [] false 1 (.pv (.rp [a,b] 0))=some (.pv a):=fun a b=>rfl
   have l1:∀ a b:PV,ya [] false 1 (.pv (.rp [a,b] 1))=some (.pv b):=fun a b=>rfl
   have p0:∀ a b:PV,place [] 0 (.pv (.rp [a,b] 0))=some (.pv (.rp [a,b] 0)):=fun a b=>rfl
   have p1:∀ a b:PV,place [] 1 (.pv (.rp [a,b] 0))=some (.pv (.rp [a,b] 1)):=fun a b=>rfl
   generalize l[i]=p at *
   generalize hV:Oa 255 p.2 (l.drop (i+1))=V at *
   generalize Dd l=es at *
   generalize hQ:LN _ _ i=Q
   by_cases c1:p.1 < 0
   ·have d1:=Fa c1
    simp -implicitDefEqProofs only[SX,sevalprocAttr,-List.reduceReplicate,Mb,e1,ln,a1,l0,l1,p0,p1,d1,yy]
    subst hQ
    rw[d1] at hs
    exact⟨_,.inr ⟨rfl,by simp[Tr.aa],by simpa using hs⟩⟩
   have d1:=Ka c1
   by_cases c2:p.1 > p.2
   ·have d2:=Fa c2
    simp -implicitDefEqProofs only[SX,sevalprocAttr,-List.reduceReplicate,Mb,e1,ln,a1,l0,l1,p0,p1,d1,d2,yy]
    subst hQ
    rw[d2] at hs
    exact⟨_,.inr ⟨rfl,by simp[Tr.aa],by simpa using hs⟩⟩
   have d2:=Ka c2
   by_cases c3:p.2 > 255
   ·have d3:=Fa c3
    simp -implicitDefEqProofs only[SX,sevalprocAttr,-List.reduceReplicate,Mb,e1,ln,a1,l0,l1,p0,p1,d1,d2,d3,yy]
    subst hQ
    rw[d3] at hs
    exact⟨_,.inr ⟨rfl,by simp[Tr.aa],by simpa using hs⟩⟩
   have d3:=Ka c3
   have hs3:∀ b,decide (p.1 - 1≤eu l i)=b→Oa 255 (-2) l=(!b&&V):=by
    intro b hb
    rw[hs,d1,d2,d3,hb];simp
   by_cases h0:0 < i
   ·obtain⟨a,b,hb,t3,a2⟩:=hprev h0
    have e0:decide ((i:Int) > 0)=true:=Fa (by omega)
    rw[hb] at hla hlz hs3
    have t5:IntKind.i64.wrap (b+1)=b+1:=Da (by omega)
    by_cases c4:p.1≤b+1
    ·have d4:=Fa c4
     have hlow:Oa 255 (-2) l=false:=by
      rw[hs3 true (Fa (by omega))];rfl
     simp -implicitDefEqProofs only[SX,sevalprocAttr,-List.reduceReplicate,Mb,e1,ln,a1,l0,l1,p0,p1,d1,d2,d3,e0,t3,t5,a2,d4,yy]
     subst hQ
     exact⟨_,.inr ⟨rfl,by simp[Tr.aa],hlow⟩⟩
    ·have d4:=Ka c4
     simp -implicitDefEqProofs only[SX,sevalprocAttr,-List.reduceReplicate,Mb,e1,ln,a1,l0,l1,p0,p1,d1,d2,d3,e0,t2,t3,t5,a2,d4,ga,Aa,AV.cut,ua,yy]
     subst hQ
     refine⟨rfl,by omega,by omega,?_⟩
     rw[hnext,hV,hs3 false (Ka (by omega))];rfl
   ·have e0:decide ((i:Int) > 0)=false:=Ka (by omega)
    have hi0:eu l i= -2:=by
     have:i=0:=by omega
     subst this;rfl
    simp -implicitDefEqProofs only[SX,sevalprocAttr,-List.reduceReplicate,Mb,e1,ln,a1,l0,l1,p0,p1,d1,d2,d3,e0,t2,ga,Aa,AV.cut,ua,yy]
    subst hQ
    refine⟨rfl,by omega,by omega,?_⟩
    rw[hnext,hV,hs3 false (Ka (by omega))];rfl
  ·rintro t ⟨rfl,hlz,hla,hs⟩
   rw[List.drop_length,Oa] at hs
   have ln:=hv.len []
   rw[show (Dd l).length=l.length by simp[Dd]] at ln
   have e1:decide ((l.length:Int) < (l.length:Int))=false:=Ka (by omega)
   generalize hQ:(fun r:Ex×St=>r.1.stop=true∧_)=Q
   simp -implicitDefEqProofs only[SX,sevalprocAttr,-List.reduceReplicate,Mb,e1,ln,yy]
   subst hQ
   exact⟨rfl,_,.inl ⟨rfl,hs⟩⟩
 apply bl
 simp -implicitDefEqProofs only[Of,SX,sevalprocAttr,-List.reduceReplicate,rj,Bb,ga,Aa,AV.cut,ua]
 refine za hloop ?_
 rintro _ ⟨E,⟨rfl,hb⟩ | ⟨rfl,hE,hb⟩⟩
 ·simp -implicitDefEqProofs only[SX,sevalprocAttr,-List.reduceReplicate,hb]
 ·simp -implicitDefEqProofs only[SX,sevalprocAttr,-List.reduceReplicate,hE,hb]
def Gf (f:Nat→Bool):List PV:=(List.range 256).map fun x=> .bool (f x)
theorem Bn (f:Nat→Bool):(Gf f).length=256:=by simp[Gf]
theorem IN (f:Nat→Bool) {x:Nat} (h:x < 256):(Gf f)[x]? =some (.bool (f x)):=by simp[Gf,h]
theorem GK (f:Nat→Bool) {x:Nat} (h:x < (Gf f).length):(Gf f)[x]= .bool (f x):=by
 simp only[Gf,List.getElem_map,List.getElem_range]
theorem kV (f:Nat→Bool) {x:Nat} (h:x < 256) (b:Bool):(Gf f).set x (.bool b)=Gf fun y=>if y=x then b else f y:=by
 apply List.ext_getElem
 ·rw[List.length_set,Bn,Bn]
 ·intro j h1 h2
  rw[List.getElem_set,GK,GK]
  by_cases hj:x=j
  ·subst hj;rw[if_pos rfl,if_pos rfl]
  ·rw[if_neg hj,if_neg (Ne.symm hj)]
theorem Rs {f g:Nat→Bool} (h:∀ x,x < 256→f x=g x):Gf f=Gf g:=by
 unfold Gf
 apply List.map_congr_left
 intro x hx
 rw[h x (by simpa using hx)]
theorem Wz:List.replicate 256 (PV.bool false)=Gf fun _=>false:=by
 apply List.ext_getElem
 ·rw[List.length_replicate,Bn]
 ·intro j h1 h2;rw[List.getElem_replicate,GK]
theorem kN (f:Nat→Bool):∀ e∈Gf f,(AV.pv e).one=true:=by
 intro e he
 obtain⟨x,_,rfl⟩:=List.mem_map.1 he
 rfl
def Yu (l:List (Int×Int)) (x:Nat):Bool:=l.any fun p=>decide (p.1≤(x:Int))&&decide ((x:Int)≤p.2)
theorem Du {l:List (Int×Int)} {x:Nat}:Yu l x=true↔Cj (x:Int) l:=by
 unfold Yu Cj;simp
abbrev OM (v:PV) (i y:Int):Tr:=((((Tr.lf.set 5 (.pv (i64 y))).set 4 (.pv (i64 i))).set 3 (.ptr 1 0)).set 2 (.ptr 0 0)).set 0 (.pv v)
abbrev dB (v:PV) (i:Int):Tr:=(((Tr.lf.set 4 (.pv (i64 i))).set 3 (.ptr 1 0)).set 2 (.ptr 0 0)).set 0 (.pv v)
theorem sE (call:Ua) {v:PV} {l:List (Int×Int)} (hv:ri 2 v (Dd l)) {i:Nat} (hi:i < l.length) (hp:0≤l[i].1∧l[i].1≤l[i].2∧l[i].2≤255) (Z:List PV):
 Ld (fun r=>∃ E,r=(.exit 2,⟨E,[Hb Z,Hb (Gf (Yu (l.take (i+1))))]⟩)∧E.get 0= .pv v∧E.get 2= .ptr 0 0∧E.get 3= .ptr 1 0∧E.get 4= .pv (i64 i))
  (qb (fa (pa call fe) (ga 2 [0,2,3,4,5])) qa ⟨OM v i l[i].1,[Hb Z,Hb (Gf (Yu (l.take i)))]⟩):=by
 have hl:=hv.lit (i:=i) (by simpa using hi)
 subst hl
 have a1:=fun A=>Lk A hi
 have htk:∀ x,Yu (l.take (i+1)) x=(Yu (l.take i) x||(decide (l[i].1≤(x:Int))&&decide ((x:Int)≤l[i].2))):=by
  intro x
  have:l.take (i+1)=l.take i++[l[i]]:=by simp
  rw[this];simp only[Yu,List.any_append,List.any_cons,List.any_nil,Bool.or_false]
 have l1:∀ (A:List ba) (a b:PV),ya A false 1 (.pv (.rp [a,b] 1))=some (.pv b):=fun A a b=>rfl
 have p1:∀ (A:List ba) (a b:PV),place A 1 (.pv (.rp [a,b] 0))=some (.pv (.rp [a,b] 1)):=fun A a b=>rfl
 generalize l[i]=p at *
 generalize hes:Dd l=es at *
 generalize hf:Yu (l.take i)=f at *
 have hlen:∀ f,(Gf f).length=256:=Bn
 refine za (Eb (g:=fa (pa call fe) (ga 2 [0,2,3,4,5]))
  (fun k t=>t=⟨OM (.lit 2 es) i (p.1+k),[Hb Z,Hb (Gf fun x=>f x||(decide (p.1≤(x:Int))&&decide ((x:Int) < p.1+k)))]⟩)
  (p.2+1 - p.1).toNat (by unfold qa;omega) _ ?_ ?_ ?_) (fun r h=>h.2)
 ·have:(Gf fun x=>f x||(decide (p.1≤(x:Int))&&decide ((x:Int) < p.1+(0:Nat))))=Gf f:=by
   refine Rs fun x hx=> ?_
   have:(decide (p.1≤(x:Int))&&decide ((x:Int) < p.1+(0:Nat)))=false:=by
    rw[Bool.and_eq_false_iff]
    by_cases h:p.1≤(x:Int)
    ·exact .inr (Ka (by omega))
    ·exact .inl (Ka h)
   rw[this,Bool.or_false]
  rw[this,show p.1+((0:Nat):Int)=p.1 by omega]
 ·rintro k t hk rfl
  obtain⟨y,hy⟩:∃ y:Nat,p.1+(k:Int)=y:=⟨(p.1+k).toNat,by omega⟩
  have hy256:y < 256:=by omega
  have e1:decide ((y:Int)≤p.2)=true:=Fa (by omega)
  have hq:Ga (y:Int) 256:=by unfold Ga;omega
  have t1:((y:Int)).toNat=y:=by simp
  have m1:y * 1=y:=by omega
  have z1:0+y=y:=by omega
  have t2:IntKind.i64.wrap ((y:Int)+1)=((y+1:Nat):Int):=Da (by omega)
  rw[hy]
  have hnew:(Gf fun x=>f x||(decide (p.1≤(x:Int))&&decide ((x:Int) < (y:Int)))).set y (.bool true)=Gf fun x=>f x||(decide (p.1≤(x:Int))&&decide ((x:Int) < p.1+(k+1:Nat))):=by
   rw[kV _ hy256]
   refine Rs fun x hx=> ?_
   by_cases hxy:x=y
   ·have h1:p.1≤(x:Int):=by omega
    have h2:(x:Int) < p.1+(k+1:Nat):=by omega
    rw[if_pos hxy,Fa h1,Fa h2];simp
   ·have:((x:Int) < (y:Int))=((x:Int) < p.1+(k+1:Nat)):=by apply propext;omega
    rw[if_neg hxy];simp only[this]
  have hl1:=hlen fun x=>f x||(decide (p.1≤(x:Int))&&decide ((x:Int) < (y:Int)))
  generalize hT:(Gf fun x=>f x||(decide (p.1≤(x:Int))&&decide ((x:Int) < (y:Int))))=T at *
  have pl:=cj (A:=[Hb Z,Hb T]) (id:=1) (es:=T) rfl 0 y
  have st:=nw (A:=[Hb Z,Hb T]) (id:=1) (es:=T) rfl (k:=y) (by omega) (e:= .bool true) rfl rfl
  rw[hnew] at st
  rw[z1] at pl
  have st2:([Hb Z,Hb T]:List ba).set 1 (Hb (Gf fun x=>f x||(decide (p.1≤(x:Int))&&decide ((x:Int) < p.1+(k+1:Nat)))))=[Hb Z,Hb (Gf fun x=>f x||(decide (p.1≤(x:Int))&&decide ((x:Int) < p.1+(k+1:Nat))))]:=rfl
  rw[st2] at st
  have c1:=zg Z 2
  have c2:=zg (Gf fun x=>f x||(decide (p.1≤(x:Int))&&decide ((x:Int) < p.1+(k+1:Nat)))) 2
  have hfin:p.1+((k+1:Nat):Int)=((y+1:Nat):Int):=by omega
  generalize hT':(Gf fun x=>f x||(decide (p.1≤(x:Int))&&decide ((x:Int) < p.1+(k+1:Nat))))=T' at *
  have hcl:Sa (oa 2) [Hb Z,Hb T']=some [Hb Z,Hb T']:=by simp[Sa,c1,c2]
  have htk2:([Hb Z,Hb T']:List ba).take 2=[Hb Z,Hb T']:=rfl
  generalize Hb Z=oz at *
  generalize Hb T=ot at *
  generalize hot:Hb T'=ot' at *
  have d0:(0 < 2)=True:=by simp
  have d1:(1 < 2)=True:=by simp
  generalize hQ:LN _ _ k=Q
  simp -implicitDefEqProofs only[SX,sevalprocAttr,-List.reduceReplicate,fe,e1,a1,l1,p1,eq_true hq,t1,m1,pl,st,t2,hcl,htk2,d0,d1,ga,Aa,AV.cut,ua,OM]
  subst hQ
  show (_:St)=_
  rw[hT',hot,hfin]
 ·rintro t rfl
  have e1:decide (p.1+((p.2+1 - p.1).toNat:Int)≤p.2)=false:=Ka (by omega)
  have hfin:(Gf fun x=>f x||(decide (p.1≤(x:Int))&&decide ((x:Int) < p.1+((p.2+1 - p.1).toNat:Int))))=Gf (Yu (l.take (i+1))):=by
   refine Rs fun x hx=> ?_
   have:((x:Int) < p.1+((p.2+1 - p.1).toNat:Int))=((x:Int)≤p.2):=by apply propext;omega
   rw[htk];simp only[this]
  rw[hfin]
  generalize Hb (Gf (Yu (l.take (i+1))))=ot
  generalize Hb Z=oz
  generalize hQ:(fun r:Ex×St=>r.1.stop=true∧_)=Q
  simp -implicitDefEqProofs only[SX,sevalprocAttr,-List.reduceReplicate,fe,e1,a1,l1,p1,OM]
  subst hQ
  exact⟨rfl,_,rfl,by simp[Tr.aa],by simp[Tr.aa],by simp[Tr.aa],by simp[Tr.aa]⟩
theorem Dm {l:List (Int×Int)} {last:Int} (h:Oa 255 last l=true):∀ p∈l,0≤p.1∧p.1≤p.2∧p.2≤255:=by
 induction l generalizing last with
 |nil=>intro p hp;cases hp
 |cons q l ih=>
  simp only[Oa,Bool.and_eq_true,Bool.not_eq_true',Bool.or_eq_false_iff,decide_eq_false_iff_not] at h
  intro p hp
  rcases List.mem_cons.1 hp with rfl | hp
  ·omega
  ·exact ih h.2 p hp
def Li (l:List (Int×Int)) (x:Nat):Bool:=Oa 255 (-2) l&&Yu l x
theorem Rv {v:PV} {l:List (Int×Int)} (hv:ri 2 v (Dd l)) (hw:l.length * 16≤140737488355328):Wc [v]=some (.agg (Gf (Li l))):=by
 have hvr:=Uw hv hw
 have hz:([]++[ba.box (List.map AV.pv (List.replicate 256 (PV.bool false)))]++[ba.box (List.map AV.pv (List.replicate 256 (PV.bool false)))]:List ba)=[Hb (Gf fun _=>false),Hb (Gf fun _=>false)]:=by rw[Wz];rfl
 have hz1:ba.box (List.map AV.pv (List.replicate 256 (PV.bool false)))=Hb (Gf fun _=>false):=by rw[Wz]
 have hone:∀ f,ya [Hb (Gf fun _=>false),Hb (Gf f)] true 256 (.ptr 1 0)=some (.pv (.agg (Gf f))):=fun f=>Wl (id:=1) rfl (Bn f)
 have hst:∀ f,Ma [Hb (Gf fun _=>false),Hb (Gf f)] 256 (.ptr 0 0) (.pv (.agg (Gf f)))=some [Hb (Gf f),Hb (Gf f)]:=fun f=>Vo (id:=0) rfl (Bn _) (Bn f) (kN f)
 have hl2:∀ f,ya [Hb (Gf f),Hb (Gf f)] true 256 (.ptr 0 0)=some (.pv (.agg (Gf f))):=fun f=>Wl (id:=0) rfl (Bn f)
 by_cases Ba:Oa 255 (-2) l=true
 ·rw[Ba] at hvr
  have hfin:Gf (Li l)=Gf (Yu l):=Rs fun x _=>by rw[Li,Ba,Bool.true_and]
  rw[hfin]
  have hpc:=Dm Ba
  have hloop:Ld (fun r=>∃ E,r=(.exit 0,⟨E,[Hb (Gf fun _=>false),Hb (Gf (Yu l))]⟩)∧E.get 2= .ptr 0 0∧E.get 3= .ptr 1 0)
   (qb (fa (pa (Ea (fun _=>none) 8) ae) (ga 2 [0,2,3,4])) qa ⟨dB v 0,[Hb (Gf fun _=>false),Hb (Gf fun _=>false)]⟩):=by
   refine za (Eb (g:=fa (pa (Ea (fun _=>none) 8) ae) (ga 2 [0,2,3,4]))
    (fun i t=>t=⟨dB v i,[Hb (Gf fun _=>false),Hb (Gf (Yu (l.take i)))]⟩)
    l.length (by unfold qa;omega) _ rfl ?_ ?_) (fun r h=>h.2)
   ·rintro i t hi rfl
    have hin:=sE (Ea (fun _=>none) 8) hv hi (hpc _ (List.getElem_mem hi)) (Gf fun _=>false)
    have a1:=fun A=>Lk A hi
    have ln:=hv.len
    have hl:=hv.lit (i:=i) (by simpa using hi)
    subst hl
    have lp:(Dd l).length=l.length:=by simp[Dd]
    simp only[lp] at ln
    have l0:∀ (A:List ba) (a b:PV),ya A false 1 (.pv (.rp [a,b] 0))=some (.pv a):=fun A a b=>rfl
    have p0:∀ (A:List ba) (a b:PV),place A 0 (.pv (.rp [a,b] 0))=some (.pv (.rp [a,b] 0)):=fun A a b=>rfl
    have e1:decide ((i:Int) < (l.length:Int))=true:=Fa (by omega)
    have t2:=Ya hi (by unfold maxLen;omega)
    have hcl:∀ f g,Sa (oa 2) [Hb (Gf f),Hb (Gf g)]=some [Hb (Gf f),Hb (Gf g)]:=fun f g=>by
     have c1:=zg (Gf f) 2
     have c2:=zg (Gf g) 2
     simp only[Sa,c1,c2,Option.bind_some,Option.map_some]
    have hcl1:=hcl (fun _=>false) (Yu (l.take i))
    have hcl2:=hcl (fun _=>false) (Yu (l.take (i+1)))
    have htk2:∀ a b:ba,([a,b]:List ba).take 2=[a,b]:=fun a b=>rfl
    generalize l[i]=p at *
    generalize hes:Dd l=es at *
    have hI:⟨dB (.lit 2 es) (i+1:Nat),[Hb (Gf fun _=>false),Hb (Gf (Yu (l.take (i+1))))]⟩=(⟨dB (.lit 2 es) (i+1:Nat),[Hb (Gf fun _=>false),Hb (Gf (Yu (l.take (i+1))))]⟩:St):=rfl
    have hLN:∀ s:St,s=⟨dB (.lit 2 es) (i+1:Nat),[Hb (Gf fun _=>false),Hb (Gf (Yu (l.take (i+1))))]⟩→LN (fun i t=>t=⟨dB (.lit 2 es) i,[Hb (Gf fun _=>false),Hb (Gf (Yu (l.take i)))]⟩) (fun r=>∃ E,r=(.exit 0,⟨E,[Hb (Gf fun _=>false),Hb (Gf (Yu l))]⟩)∧E.get 2= .ptr 0 0∧E.get 3= .ptr 1 0) i (.norm,s):=fun s h=>h
    generalize Hb (Gf fun _=>false)=oz at *
    generalize Hb (Gf (Yu (l.take i)))=ot at *
    generalize Hb (Gf (Yu (l.take (i+1))))=ot' at *
    have d0:(0 < 2)=True:=by simp
    have d1:(1 < 2)=True:=by simp
    generalize hQ:LN _ _ i=Q at hLN ⊢
    simp -implicitDefEqProofs only[SX,sevalprocAttr,-List.reduceReplicate,ae,Bb,e1,ln,a1,l0,p0,hcl1,htk2,d0,d1,ga,Aa,AV.cut,ua,dB]
    refine za hin ?_
    rintro r ⟨E,rfl,g0,g2,g3,g4⟩
    simp -implicitDefEqProofs only[SX,sevalprocAttr,-List.reduceReplicate,g0,g2,g3,g4,t2,hcl2,htk2,d0,d1,ga,Aa,AV.cut,ua]
    exact hLN _ rfl
   ·rintro t rfl
    rw[List.take_length]
    have ln:=hv.len
    simp only[show (Dd l).length=l.length by simp[Dd]] at ln
    have e1:decide ((l.length:Int) < (l.length:Int))=false:=Ka (by omega)
    generalize Hb (Gf (Yu l))=ot
    generalize Hb (Gf fun _=>false)=oz
    generalize hQ:(fun r:Ex×St=>r.1.stop=true∧_)=Q
    simp -implicitDefEqProofs only[SX,sevalprocAttr,-List.reduceReplicate,ae,e1,ln,dB]
    subst hQ
    exact⟨rfl,_,rfl,by simp[Tr.aa],by simp[Tr.aa]⟩
  have hcl:Sa (oa 2) [Hb (Gf fun _=>false),Hb (Gf fun _=>false)]=some [Hb (Gf fun _=>false),Hb (Gf fun _=>false)]:=by
   have c1:=zg (Gf fun _=>false) 2
   simp only[Sa,c1,Option.bind_some,Option.map_some]
  have htk2:∀ a b:ba,([a,b]:List ba).take 2=[a,b]:=fun a b=>rfl
  have hst1:=hst (Yu l)
  have hone1:=hone (Yu l)
  have hl21:=hl2 (Yu l)
  have d0:(0 < 2)=True:=by simp
  have d1:(1 < 2)=True:=by simp
  generalize hzs:List.replicate 256 (PV.bool false)=zs at *
  generalize Hb (Gf fun _=>false)=oz at *
  generalize Hb (Gf (Yu l))=ot at *
  generalize Gf (Yu l)=T at *
  apply bl
  simp -implicitDefEqProofs only[Wc,SX,sevalprocAttr,-List.reduceReplicate,Dg,hzs,hz1,Bb,hvr,hcl,htk2,d0,d1,ga,Aa,AV.cut,ua]
  refine za hloop ?_
  rintro r ⟨E,rfl,g2,g3⟩
  simp -implicitDefEqProofs only[SX,sevalprocAttr,-List.reduceReplicate,g2,g3,hone1,hst1,hl21]
 ·have hok':Oa 255 (-2) l=false:=by simpa using Ba
  rw[hok'] at hvr
  have hfin:Gf (Li l)=Gf fun _=>false:=Rs fun x _=>by rw[Li,hok',Bool.false_and]
  rw[hfin]
  have hst1:=hst fun _=>false
  have hone1:=hone fun _=>false
  have hl21:=hl2 fun _=>false
  generalize hzs:List.replicate 256 (PV.bool false)=zs at *
  generalize Hb (Gf fun _=>false)=oz at *
  generalize Gf (fun _=>false)=T at *
  apply bl
  simp -implicitDefEqProofs only[Wc,SX,sevalprocAttr,-List.reduceReplicate,Dg,hzs,hz1,hvr,hone1,hst1,hl21]
end Go.AM.B1
namespace Go.AM.B1
open Go.AM Go.AM.So
def cq (f:Nat→Bool) (n:Nat):Nat:=(List.range n).countP f
theorem iP (f:Nat→Bool):cq f 0=0:=rfl
theorem Xr (f:Nat→Bool) (n:Nat):cq f (n+1)=cq f n+if f n then 1 else 0:=by
 unfold cq
 rw[List.range_succ,List.countP_append]
 simp[List.countP_cons]
theorem SV (f:Nat→Bool) (n:Nat):cq f n≤n:=by
 have:=List.countP_le_length (p:=f) (l:=List.range n)
 simpa[cq] using this
theorem fV {f g h:Nat→Bool} (n:Nat) (hf:∀ x,x < n→f x=(g x||h x)) (hd:∀ x,x < n→g x=true→h x=true→False):cq f n=cq g n+cq h n:=by
 induction n with
 |zero=>rfl
 |succ n ih=>
  rw[Xr,Xr,Xr,ih (fun x hx=>hf x (by omega)) (fun x hx=>hd x (by omega)),hf n (by omega)]
  have:=hd n (by omega)
  cases h1:g n <;> cases h2:h n <;> simp_all <;> omega
theorem AU (a b:Nat) (n:Nat):cq (fun x=>decide (a≤x)&&decide (x < b)) n=min n b - min a (min n b):=by
 induction n with
 |zero=>simp[iP]
 |succ n ih=>
  rw[Xr,ih]
  by_cases h:a≤n∧n < b
  ·rw[if_pos (by simp[h])];omega
  ·rw[if_neg (by simpa using fun h1=>Nat.le_of_not_lt fun h2=>h ⟨h1,h2⟩)];omega
theorem mF:∀ (l:List (Int×Int)) (last n:Int),Oa 255 last l=true→Bc n l=n+cq (Yu l) 256
 | [],_,n,_=>by
   have:cq (Yu []) 256=0:=by
    unfold cq;rw[List.countP_eq_zero];intro x _;simp[Yu]
   rw[this];simp[Bc]
 |p::l,last,n,h=>by
  have hp:=Dm h p (by simp)
  have h2:=h
  simp only[Oa,Bool.and_eq_true] at h2
  rw[Bc,mF l p.2 _ h2.2]
  have hor:cq (Yu (p::l)) 256=cq (fun x=>decide (p.1.toNat≤x)&&decide (x < (p.2+1).toNat)) 256+cq (Yu l) 256:=by
   apply fV
   ·intro x _
    simp only[Yu,List.any_cons]
    congr 1
    congr 1 <;> (rw[decide_eq_decide];omega)
   ·intro x _ h3 h4
    have:=Cn h2.2 (Du.1 h4)
    simp at h3;omega
  have hiv:=AU p.1.toNat (p.2+1).toNat 256
  rw[hor,hiv];omega
def JN (l:List (Int×Int)):Nat:=cq (Li l) 256
theorem fR {l:List (Int×Int)} (h:Oa 255 (-2) l=true):(JN l:Int)=Bc 0 l:=by
 rw[mF l _ _ h]
 have:Li l=Yu l:=by funext x;rw[Li,h,Bool.true_and]
 rw[JN,this];omega
abbrev AJ (x n:Int):Tr:=((Tr.lf.set 5 (.pv (i64 x))).set 4 (.pv (i64 n))).set 3 (.ptr 0 0)
theorem lH {v:PV} {l:List (Int×Int)} (hv:ri 2 v (Dd l)) (hw:l.length * 16≤140737488355328):Ph [v]=some (i64 (JN l)):=by
 have hm:=Rv hv hw
 unfold JN
 generalize hf:Li l=f at *
 have hloop:Ld (fun r=>∃ E H,r=(.exit 0,⟨E,H⟩)∧E.get 4= .pv (i64 (cq f 256)))
  (qb (fa (pa (Ea (fun _=>none) 8) Ud) (ga 1 [3,4,5])) qa ⟨AJ 0 0,[Hb (Gf f)]⟩):=by
  refine za (Eb (g:=fa (pa (Ea (fun _=>none) 8) Ud) (ga 1 [3,4,5]))
   (fun x t=>t=⟨AJ x (cq f x),[Hb (Gf f)]⟩)
   256 (by unfold qa;omega) _ rfl ?_ ?_) (fun r h=>h.2)
  ·rintro x t hx rfl
   have e1:decide ((x:Int)≤255)=true:=Fa (by omega)
   have hq:Ga (x:Int) 256:=by unfold Ga;omega
   have t1:((x:Int)).toNat=x:=by simp
   have m1:x * 1=x:=by omega
   have z1:0+x=x:=by omega
   have t2:IntKind.i64.wrap ((x:Int)+1)=((x+1:Nat):Int):=Da (by omega)
   have hle:=SV f x
   have t3:IntKind.i64.wrap ((cq f x:Int)+1)=(cq f x:Int)+1:=Da (by omega)
   have pl:=cj (A:=[Hb (Gf f)]) (id:=0) (es:=Gf f) rfl 0 x
   rw[z1] at pl
   have ld:=ZD (A:=[Hb (Gf f)]) (id:=0) (es:=Gf f) rfl (IN f hx)
   have hcl:Sa (oa 1) [Hb (Gf f)]=some [Hb (Gf f)]:=by simp only[Sa,zg,Option.bind_some,Option.map_some]
   have htk:([Hb (Gf f)]:List ba).take 1=[Hb (Gf f)]:=rfl
   have d0:(0 < 1)=True:=by simp
   have hs:=Xr f x
   generalize hO:Hb (Gf f)=O at *
   generalize hQ:LN _ _ x=Q
   cases hfx:f x with
   |true=>
    rw[hfx] at hs ld
    simp -implicitDefEqProofs only[SX,sevalprocAttr,-List.reduceReplicate,Ud,e1,eq_true hq,t1,m1,pl,ld,t2,t3,hcl,htk,d0,ga,Aa,AV.cut,ua,AJ]
    subst hQ
    show (_:St)=_
    rw[hs];rfl
   |false=>
    rw[hfx] at hs ld
    simp -implicitDefEqProofs only[SX,sevalprocAttr,-List.reduceReplicate,Ud,e1,eq_true hq,t1,m1,pl,ld,t2,hcl,htk,d0,ga,Aa,AV.cut,ua,AJ]
    subst hQ
    show (_:St)=_
    rw[hs];rfl
  ·rintro t rfl
   have e1:decide (((256:Nat):Int)≤255)=false:=Ka (by omega)
   generalize cq f 256=c
   generalize hQ:(fun r:Ex×St=>r.1.stop=true∧_)=Q
   simp -implicitDefEqProofs only[SX,sevalprocAttr,-List.reduceReplicate,Ud,e1,AJ]
   subst hQ
   exact⟨rfl,_,_,rfl,by simp[Tr.aa]⟩
 have hz1:ba.box (List.map AV.pv (List.replicate 256 (PV.bool false)))=Hb (Gf fun _=>false):=by rw[Wz]
 have st:Ma [Hb (Gf fun _=>false)] 256 (.ptr 0 0) (.pv (.agg (Gf f)))=some [Hb (Gf f)]:=Vo (id:=0) rfl (Bn _) (Bn f) (kN f)
 have hcl:Sa (oa 1) [Hb (Gf f)]=some [Hb (Gf f)]:=by simp only[Sa,zg,Option.bind_some,Option.map_some]
 have htk:([Hb (Gf f)]:List ba).take 1=[Hb (Gf f)]:=rfl
 have d0:(0 < 1)=True:=by simp
 generalize cq f 256=c at *
 generalize hzs:List.replicate 256 (PV.bool false)=zs at *
 generalize Hb (Gf fun _=>false)=oz at *
 generalize Hb (Gf f)=ot at *
 generalize Gf f=T at *
 apply bl
 simp -implicitDefEqProofs only[Ph,SX,sevalprocAttr,-List.reduceReplicate,Pj,hzs,hz1,Bb,hm,st,hcl,htk,d0,ga,Aa,AV.cut,ua]
 refine za hloop ?_
 rintro r ⟨E,H,rfl,hE⟩
 simp -implicitDefEqProofs only[SX,sevalprocAttr,-List.reduceReplicate,hE]
theorem FA {v:PV} {l:List (Int×Int)} (hv:ri 2 v (Dd l)) (hw:l.length * 16≤140737488355328) (x:Int):
 De [v,i64 x]=some (.bool (decide (0≤x)&&decide (x≤255)&&Li l x.toNat)):=by
 have hm:=Rv hv hw
 generalize hf:Li l=f at *
 by_cases h0:0≤x
 ·have e0:decide (x≥0)=true:=Fa (by omega)
  rw[show decide (0≤x)=true from Fa h0]
  by_cases h1:x≤255
  ·have e1:decide (x≤255)=true:=Fa h1
   have hq:Ga x 256:=by unfold Ga;omega
   have m1:x.toNat * 1=x.toNat:=by omega
   have hg:=IN f (x:=x.toNat) (by omega)
   have hp:ql false 1 (Gf f) x.toNat=some (.bool (f x.toNat)):=by unfold ql;exact hg
   rw[e1]
   generalize f x.toNat=b at *
   generalize Gf f=T at *
   simp -implicitDefEqProofs only[De,SX,sevalprocAttr,-List.reduceReplicate,Lg,e0,e1,hm,eq_true hq,m1,hp,Bool.true_and]
  ·have e1:decide (x≤255)=false:=Ka h1
   simp -implicitDefEqProofs only[De,SX,sevalprocAttr,-List.reduceReplicate,Lg,e0,e1,Bool.true_and,Bool.false_and]
 ·have e0:decide (x≥0)=false:=Ka (by omega)
  rw[show decide (0≤x)=false from Ka h0]
  simp -implicitDefEqProofs only[De,SX,sevalprocAttr,-List.reduceReplicate,Lg,e0,Bool.false_and]
abbrev uJ (row:List PV) (i n:Int):Tr:=((Tr.lf.set 4 (.pv (i64 i))).set 3 (.pv (i64 n))).set 1 (.pv (.rp row 0))
theorem sn {e:PV} {s:Rb} {P:PV} {ps:List PV} (h:sf e s P ps) (Ba:∀ l∈s.parts,xd l):Gd [e]=some (i64 (ah 1 s.parts)):=by
 obtain⟨rfl,hP⟩:=h
 have hb:=Xl s.parts 1 Ba (by omega) (by omega)
 have hsz:=hP.sz
 have ln:=hP.Sb
 have q0:∀ H (x y:PV),place H 0 (.pv (.rp [x,y] 0))=some (.pv (.rp [x,y] 0)):=fun H x y=>rfl
 have r0:∀ H (x y:PV),ya H false 1 (.pv (.rp [x,y] 0))=some (.pv x):=fun H x y=>rfl
 have hloop:Ld (fun r=>∃ E H,r=(.exit 0,⟨E,H⟩)∧E.get 3= .pv (i64 (ah 1 s.parts)))
  (qb (fa (pa (Ea (fun _=>none) 8) Ed) (ga 0 [1,3,4])) qa ⟨uJ [P,i64 s.first] 0 1,[]⟩):=by
  refine za (Eb (g:=fa (pa (Ea (fun _=>none) 8) Ed) (ga 0 [1,3,4]))
   (fun i t=>∃ n,t=⟨uJ [P,i64 s.first] i n,[]⟩∧1≤n∧n≤1073741825∧ah 1 s.parts=ah n (s.parts.drop i))
   s.parts.length (by unfold qa;unfold maxLen at hsz;omega) _ ⟨1,rfl,by omega,by omega,rfl⟩ ?_ ?_) (fun r h=>h.2)
  ·rintro i t hi ⟨n,rfl,h1,h2,hs⟩
   obtain⟨v,hv,hpt,a1⟩:=hP.Ad hi []
   have hd:s.parts.drop i=s.parts[i]::s.parts.drop (i+1):=List.drop_eq_getElem_cons hi
   have hpo:=Ba s.parts[i] (List.getElem_mem hi)
   have hss:=lH hpt.is hpt.sz
   rw[fR hpo.2] at hss
   have hsb:=sh hpo
   rw[hd,ah] at hs
   generalize s.parts[i]=l at *
   have hm:=jw h1 h2 hsb.1 hsb.2
   have e1:decide ((i:Int) < (s.parts.length:Int))=true:=Fa (by omega)
   have t2:=Ya hi hsz
   have t3:IntKind.i64.wrap (n * Bc 0 l)=n * Bc 0 l:=Da (by omega)
   have a2:∀ H (v:PV),ya H false 1 (.pv (.rp [v] 0))=some (.pv v):=fun H v=>rfl
   generalize hQ:LN _ _ i=Q
   by_cases hg:n * Bc 0 l > 1073741824
   ·have d1:=Fa hg
    simp -implicitDefEqProofs only[SX,sevalprocAttr,-List.reduceReplicate,Ed,e1,ln,q0,r0,t2,t3,a1,a2,hss,d1,ga,Aa,AV.cut,ua,uJ]
    subst hQ
    refine⟨1073741825,rfl,by omega,by omega,?_⟩
    rw[hs];congr 1;split <;> omega
   ·have d1:=Ka hg
    simp -implicitDefEqProofs only[SX,sevalprocAttr,-List.reduceReplicate,Ed,e1,ln,q0,r0,t2,t3,a1,a2,hss,d1,ga,Aa,AV.cut,ua,uJ]
    subst hQ
    refine⟨n * Bc 0 l,rfl,by omega,by omega,?_⟩
    rw[hs];congr 1;split <;> omega
  ·rintro t ⟨n,rfl,h1,h2,hs⟩
   rw[List.drop_length,ah] at hs
   have e1:decide ((s.parts.length:Int) < (s.parts.length:Int))=false:=Ka (by omega)
   generalize hQ:(fun r:Ex×St=>r.1.stop=true∧_)=Q
   simp -implicitDefEqProofs only[SX,sevalprocAttr,-List.reduceReplicate,Ed,e1,ln,q0,r0,uJ]
   subst hQ
   exact⟨rfl,_,_,rfl,by simp[Tr.aa,hs]⟩
 have hP1:(AV.pv P).one=true:=by rcases hP.is with⟨h,_⟩ | h <;> rw[h] <;> rfl
 generalize ah 1 s.parts=n at *
 apply bl
 simp -implicitDefEqProofs only[Gd,SX,sevalprocAttr,-List.reduceReplicate,sj,hP1,Bb,ga,Aa,AV.cut,ua]
 refine za hloop ?_
 rintro r ⟨E,H,rfl,hE⟩
 simp -implicitDefEqProofs only[SX,sevalprocAttr,-List.reduceReplicate,hE]
end Go.AM.B1
namespace Go.AM.B1
open Go.AM Go.AM.So
theorem Ic (H:List ba) (x y:PV):place H 0 (.pv (.rp [x,y] 0))=some (.pv (.rp [x,y] 0)):=rfl
theorem Gi (H:List ba) (x y:PV):place H 1 (.pv (.rp [x,y] 0))=some (.pv (.rp [x,y] 1)):=rfl
theorem yd (H:List ba) (x y:PV):ya H false 1 (.pv (.rp [x,y] 0))=some (.pv x):=rfl
theorem Wi (H:List ba) (x y:PV):ya H false 1 (.pv (.rp [x,y] 1))=some (.pv y):=rfl
theorem Df (H:List ba) (x y:PV):ya H true 2 (.pv (.rp [x,y] 0))=some (.pv (.agg [x,y])):=rfl
theorem Va (H:List ba) (x:PV):ya H false 1 (.pv (.rp [x] 0))=some (.pv x):=rfl
theorem Yb (H:List ba) (x:PV):place H 0 (.pv (.rp [x] 0))=some (.pv (.rp [x] 0)):=rfl
theorem Af (H:List ba) (x:PV):ya H true 1 (.pv (.rp [x] 0))=some (.pv (.agg [x])):=rfl
abbrev tG (row:List PV) (i:Int):Tr:=(Tr.lf.set 3 (.pv (i64 i))).set 1 (.pv (.rp row 0))
theorem Wp {e:PV} {s:Rb} {P:PV} {ps:List PV} (h:sf e s P ps):∃ b,Nb [e]=some (.bool b)∧(b=true↔Zd s):=by
 have hh:=h
 obtain⟨rfl,hP⟩:=h
 have hsz:=hP.sz
 have ln:=hP.Sb
 have hP1:(AV.pv P).one=true:=by rcases hP.is with⟨h,_⟩ | h <;> rw[h] <;> rfl
 by_cases c1:(s.parts.length:Int) < 1
 ·have d1:=Fa c1
  refine⟨false,?_,by simp;intro h;have:=h.lo;omega⟩
  simp -implicitDefEqProofs only[Nb,SX,sevalprocAttr,Ab,hP1,Ic,Gi,yd,Wi,ln,d1]
 have d1:=Ka c1
 by_cases c2:(s.parts.length:Int) > 8
 ·have d2:=Fa c2
  refine⟨false,?_,by simp;intro h;have:=h.hi;omega⟩
  simp -implicitDefEqProofs only[Nb,SX,sevalprocAttr,Ab,hP1,Ic,Gi,yd,Wi,ln,d1,d2]
 have d2:=Ka c2
 by_cases c3:s.first < 0
 ·have d3:=Fa c3
  refine⟨false,?_,by simp;intro h;have:=h.f0;omega⟩
  simp -implicitDefEqProofs only[Nb,SX,sevalprocAttr,Ab,hP1,Ic,Gi,yd,Wi,ln,d1,d2,d3]
 have d3:=Ka c3
 by_cases c4:s.first > 1073741823
 ·have d4:=Fa c4
  refine⟨false,?_,by simp;intro h;have:=h.f1;omega⟩
  simp -implicitDefEqProofs only[Nb,SX,sevalprocAttr,Ab,hP1,Ic,Gi,yd,Wi,ln,d1,d2,d3,d4]
 have d4:=Ka c4
 have hloop:Ld (fun r=>∃ E,(r=(.exit 0,⟨E,[]⟩)∧E.get 1= .pv (.rp [P,i64 s.first] 0)∧∀ l∈s.parts,xd l)∨(r=(.ret,⟨E,[]⟩)∧E.get 2= .pv (.bool false)∧¬∀ l∈s.parts,xd l))
  (qb (fa (pa (Ea (fun _=>none) 8) Zb) (ga 0 [1,3])) qa ⟨tG [P,i64 s.first] 0,[]⟩):=by
  refine za (Eb (g:=fa (pa (Ea (fun _=>none) 8) Zb) (ga 0 [1,3]))
   (fun i t=>t=⟨tG [P,i64 s.first] i,[]⟩∧∀ l∈s.parts.take i,xd l)
   s.parts.length (by unfold qa;unfold maxLen at hsz;omega) _ ⟨rfl,by simp⟩ ?_ ?_) (fun r h=>h.2)
  ·rintro i t hi ⟨rfl,hs⟩
   obtain⟨v,hv,hpt,a1⟩:=hP.Ad hi []
   have hmem:=List.getElem_mem hi
   have hnext:xd s.parts[i]→∀ l∈s.parts.take (i+1),xd l:=by
    intro h l hl
    have:s.parts.take (i+1)=s.parts.take i++[s.parts[i]]:=by simp
    rw[this] at hl
    rcases List.mem_append.1 hl with h1 | h1
    ·exact hs l h1
    ·simp at h1;subst h1;exact h
   have hvl:=Uw hpt.is hpt.sz
   have lv:=hpt.is.len
   simp only[Dd,List.length_map] at lv
   generalize s.parts[i]=l at *
   have e1:decide ((i:Int) < (s.parts.length:Int))=true:=Fa (by omega)
   have t2:=Ya hi hsz
   generalize hQ:LN _ _ i=Q
   by_cases h0:l=[]
   ·have e0:((l.length:Int)==0)=true:=by simp[h0]
    simp -implicitDefEqProofs only[SX,sevalprocAttr,Zb,e1,ln,Ic,yd,Va,a1,lv,e0,tG]
    subst hQ
    exact⟨_,.inr ⟨rfl,by simp[Tr.aa],fun h=>(h _ hmem).1 h0⟩⟩
   ·have e0:((l.length:Int)==0)=false:=by
     have:l.length≠0:=fun e=>h0 (List.eq_nil_of_length_eq_zero e)
     exact Zh (by omega)
    cases hb:Oa 255 (-2) l with
    |true=>
     rw[hb] at hvl
     simp -implicitDefEqProofs only[SX,sevalprocAttr,Zb,e1,ln,Ic,yd,Va,a1,lv,e0,hvl,t2,ga,Aa,AV.cut,ua,tG]
     subst hQ
     exact⟨rfl,hnext ⟨h0,hb⟩⟩
    |false=>
     rw[hb] at hvl
     simp -implicitDefEqProofs only[SX,sevalprocAttr,Zb,e1,ln,Ic,yd,Va,a1,lv,e0,hvl,tG]
     subst hQ
     exact⟨_,.inr ⟨rfl,by simp[Tr.aa],fun h=>by have:=(h _ hmem).2;rw[hb] at this;cases this⟩⟩
  ·rintro t ⟨rfl,hs⟩
   rw[List.take_length] at hs
   have e1:decide ((s.parts.length:Int) < (s.parts.length:Int))=false:=Ka (by omega)
   generalize hQ:(fun r:Ex×St=>r.1.stop=true∧_)=Q
   simp -implicitDefEqProofs only[SX,sevalprocAttr,Zb,e1,ln,Ic,yd,tG]
   subst hQ
   exact⟨rfl,_,.inl ⟨rfl,by simp[Tr.aa],hs⟩⟩
 have key:Ld (fun r=>∃ b,r=(.pv (.bool b),([]:List ba))∧(b=true↔Zd s)) (Ei (Ea (fun _=>none) 8) Ab [.pv (.agg [P,i64 s.first])] []):=by
  generalize hQQ:(fun r:AV×List ba=>_)=QQ
  simp -implicitDefEqProofs only[SX,sevalprocAttr,Ab,hP1,Ic,Gi,yd,Wi,ln,d1,d2,d3,d4,Bb,ga,Aa,AV.cut,ua]
  refine za hloop ?_
  rintro _ ⟨E,⟨rfl,hE,hb⟩ | ⟨rfl,hE,hb⟩⟩
  ·have hct:=sn hh hb
   have hbd:=Xl s.parts 1 hb (by omega) (by omega)
   have hif:(decide (s.first+ah 1 s.parts - 1≤1073741823)=true)↔Zd s:=by
    rw[decide_eq_true_iff]
    constructor
    ·intro h;exact⟨by omega,by omega,by omega,by omega,hb,h⟩
    ·intro h;exact h.last
   generalize ah 1 s.parts=n at *
   have t3:IntKind.i64.wrap (s.first+n)=s.first+n:=Da (by omega)
   have t4:IntKind.i64.wrap (s.first+n - 1)=s.first+n - 1:=Da (by omega)
   simp -implicitDefEqProofs only[SX,sevalprocAttr,hE,Ic,Gi,yd,Wi,Df,hct,t3,t4]
   subst hQQ
   exact⟨_,rfl,hif⟩
  ·simp -implicitDefEqProofs only[SX,sevalprocAttr,hE]
   subst hQQ
   exact⟨false,rfl,by simp;exact fun h=>hb h.parts⟩
 obtain⟨r,h1,b,rfl,hb⟩:=Gc key
 refine⟨b,?_,hb⟩
 generalize hk:Ei (Ea (fun _=>none) 8) Ab [.pv (.agg [P,i64 s.first])] []=k at h1
 subst h1
 have:Nb [.agg [P,i64 s.first]]=(Ei (Ea (fun _=>none) 8) Ab [.pv (.agg [P,i64 s.first])] []).bind fun r=>Xb r.2 deep r.1:=rfl
 rw[this,hk];rfl
theorem Iv {e:PV} {s:Rb} {P:PV} {ps:List PV} (h:sf e s P ps) (Ba:Zd s):bg [e]=some (i64 (ah 1 s.parts)):=by
 obtain⟨b,hb,hbb⟩:=Wp h
 have hc:=sn h Ba.parts
 have:=hbb.2 Ba
 subst this
 obtain⟨rfl,hP⟩:=h
 have hP1:(AV.pv P).one=true:=by rcases hP.is with⟨h,_⟩ | h <;> rw[h] <;> rfl
 simp -implicitDefEqProofs only[bg,SX,sevalprocAttr,mj,hP1,Df,hb,hc]
end Go.AM.B1
namespace Go.AM.B1
open Go.AM Go.AM.So
theorem sO {p q:Rb} (hp:Zd p) (hq:Zd q):om p q↔¬(q.first≤qh p∧p.first≤qh q):=by
 have h1:=hp.nE
 have h2:=hq.nE
 unfold om
 constructor
 ·intro h hn
  by_cases hle:p.first≤q.first
  ·exact h q.first ⟨⟨hle,hn.1⟩,⟨Int.le_refl _,h2⟩⟩
  ·exact h p.first ⟨⟨Int.le_refl _,h1⟩,⟨by omega,hn.2⟩⟩
 ·intro h x hx
  exact h ⟨by omega,by omega⟩
theorem Mq {p:Rb} (hp:Zd p):1≤ah 1 p.parts∧ah 1 p.parts≤1073741825:=Xl p.parts 1 hp.parts (by omega) (by omega)
abbrev uG (S:PV) (i j:Int):Tr:=((Tr.lf.set 5 (.pv (i64 j))).set 1 (.pv (i64 i))).set 0 (.pv S)
theorem sH {S:PV} {ss:List Rb} {es:List PV} (hS:wb S ss es) {i:Nat} (hi:i < ss.length) (Ba:∀ j,j≤i→(h:j < ss.length)→Zd ss[j]):
 ∃ b,og [S,i64 i]=some (.bool b)∧(b=false↔∀ j,j < i→(h:j < ss.length)→om ss[j] ss[i]):=by
 have hsz:=hS.sz
 obtain⟨P,ps,hP,a0⟩:=hS.Ad hi
 have okp:=Ba i (Nat.le_refl _) hi
 have hcp:=sn hP okp.parts
 have hbp:=Mq okp
 have hap:=fun j (hj:j < i) (h:j < ss.length)=>sO (Ba j (by omega) h) okp
 generalize ss[i]=p at *
 have hloop:Ld (fun r=>∃ E,(r=(.exit 0,⟨E,[]⟩)∧∀ j,j < i→(h:j < ss.length)→om ss[j] p)∨(r=(.ret,⟨E,[]⟩)∧E.get 4= .pv (.bool true)∧∃ j,j < i∧∃ h:j < ss.length,¬om ss[j] p))
  (qb (fa (pa (Ea (fun _=>none) 8) Yc) (ga 0 [0,1,5])) qa ⟨uG S i 0,[]⟩):=by
  refine za (Eb (g:=fa (pa (Ea (fun _=>none) 8) Yc) (ga 0 [0,1,5]))
   (fun j t=>t=⟨uG S i j,[]⟩∧∀ j',j' < j→(h:j' < ss.length)→om ss[j'] p)
   i (by unfold qa;unfold maxLen at hsz;omega) _ ⟨rfl,by intro j h;omega⟩ ?_ ?_) (fun r h=>h.2)
  ·rintro j t hj ⟨rfl,hs⟩
   have hj2:j < ss.length:=by omega
   obtain⟨Q,qs,hQ,b0⟩:=hS.Ad hj2
   have okq:=Ba j (by omega) hj2
   have hcq:=sn hQ okq.parts
   have hbq:=Mq okq
   have haq:=hap j hj hj2
   have hnext:om ss[j] p→∀ j',j' < j+1→(h:j' < ss.length)→om ss[j'] p:=by
    intro h j' h1 h2
    rcases Nat.lt_or_ge j' j with h3 | h3
    ·exact hs j' h3 h2
    ·have:j'=j:=by omega
     subst this;exact h
   have hex:¬om ss[j] p→∃ j,j < i∧∃ h:j < ss.length,¬om ss[j] p:=fun h=>⟨j,hj,hj2,h⟩
   have hqf0:=okq.f0
   have hqf1:=okq.f1
   have hpf0:=okp.f0
   have hpf1:=okp.f1
   unfold qh at haq
   generalize hq:ss[j]=q at *
   generalize ah 1 p.parts=np at *
   generalize ah 1 q.parts=nq at *
   have e1:decide ((j:Int) < (i:Int))=true:=Fa (by omega)
   have t2:=Ya hj (show i≤maxLen by omega)
   have t3:IntKind.i64.wrap (q.first+nq)=q.first+nq:=Da (by omega)
   have t4:IntKind.i64.wrap (q.first+nq - 1)=q.first+nq - 1:=Da (by omega)
   have t5:IntKind.i64.wrap (p.first+np)=p.first+np:=Da (by omega)
   have t6:IntKind.i64.wrap (p.first+np - 1)=p.first+np - 1:=Da (by omega)
   generalize hQQ:LN _ _ j=QQ
   by_cases c1:p.first≤q.first+nq - 1
   ·have d1:=Fa c1
    by_cases c2:q.first≤p.first+np - 1
    ·have d2:=Fa c2
     simp -implicitDefEqProofs only[SX,sevalprocAttr,Yc,e1,a0,b0,Gi,Wi,Df,hcp,hcq,t3,t4,t5,t6,d1,d2,uG]
     subst hQQ
     exact⟨_,.inr ⟨rfl,by simp[Tr.aa],hex (fun h=>(haq.1 h) ⟨c1,c2⟩)⟩⟩
    ·have d2:=Ka c2
     simp -implicitDefEqProofs only[SX,sevalprocAttr,Yc,e1,a0,b0,Gi,Wi,Df,hcp,hcq,t2,t3,t4,t5,t6,d1,d2,ga,Aa,AV.cut,ua,uG]
     subst hQQ
     exact⟨rfl,hnext (haq.2 fun h=>c2 h.2)⟩
   ·have d1:=Ka c1
    simp -implicitDefEqProofs only[SX,sevalprocAttr,Yc,e1,a0,b0,Gi,Wi,Df,hcp,hcq,t2,t3,t4,d1,ga,Aa,AV.cut,ua,uG]
    subst hQQ
    exact⟨rfl,hnext (haq.2 fun h=>c1 h.1)⟩
  ·rintro t ⟨rfl,hs⟩
   have e1:decide ((i:Int) < (i:Int))=false:=Ka (by omega)
   generalize hQ:(fun r:Ex×St=>r.1.stop=true∧_)=Q
   simp -implicitDefEqProofs only[SX,sevalprocAttr,Yc,e1,uG]
   subst hQ
   exact⟨rfl,_,.inl ⟨rfl,hs⟩⟩
 have key:Ld (fun r=>∃ b,r=PV.bool b∧(b=false↔∀ j,j < i→(h:j < ss.length)→om ss[j] p)) (og [S,i64 i]):=by
  generalize hQQ:(fun r:PV=>_)=QQ
  simp -implicitDefEqProofs only[og,SX,sevalprocAttr,Nj,Bb,ga,Aa,AV.cut,ua]
  refine za hloop ?_
  rintro _ ⟨E,⟨rfl,hb⟩ | ⟨rfl,hE,j,hj,hj2,hb⟩⟩
  ·simp -implicitDefEqProofs only[SX,sevalprocAttr]
   subst hQQ
   exact⟨false,rfl,by simpa using hb⟩
  ·simp -implicitDefEqProofs only[SX,sevalprocAttr,hE]
   subst hQQ
   exact⟨true,rfl,by simp;exact⟨j,hj,hj2,hb⟩⟩
 obtain⟨r,h1,b,rfl,hb⟩:=Gc key
 exact⟨b,h1,hb⟩
abbrev Qz (row:List PV) (i:Int):Tr:=(Tr.lf.set 3 (.pv (i64 i))).set 1 (.pv (.rp row 0))
theorem VF {ss:List Rb}:qc ss↔ss.length≤32∧∀ i,(hi:i < ss.length)→Zd ss[i]∧∀ j,j < i→(h:j < ss.length)→om ss[j] ss[i]:=by
 constructor
 ·intro h
  refine⟨h.len,fun i hi=>⟨h.Av _ (List.getElem_mem hi),fun j hj hj2=> ?_⟩⟩
  exact List.pairwise_iff_getElem.1 h.apart j i hj2 hi hj
 ·rintro⟨h1,h2⟩
  refine⟨h1,?_,?_⟩
  ·intro s hs
   obtain⟨i,hi,rfl⟩:=List.getElem_of_mem hs
   exact (h2 i hi).1
  ·rw[List.pairwise_iff_getElem]
   intro i j hi hj hij
   exact (h2 j hj).2 i hij hi
theorem zv {S:PV} {ss:List Rb} {es:List PV} (hS:wb S ss es):∃ b,Md [.agg [S]]=some (.bool b)∧(b=true↔qc ss):=by
 have hsz:=hS.sz
 have ln:=hS.Sb
 have hS1:(AV.pv S).one=true:=by rcases hS.is with⟨h,_⟩ | h <;> rw[h] <;> rfl
 by_cases c1:(ss.length:Int) > 32
 ·have d1:=Fa c1
  refine⟨false,?_,by simp;intro h;have:=h.len;omega⟩
  simp -implicitDefEqProofs only[Md,SX,sevalprocAttr,kh,hS1,Yb,Va,ln,d1]
 have d1:=Ka c1
 have hloop:Ld (fun r=>∃ E,(r=(.exit 0,⟨E,[]⟩)∧qc ss)∨(r=(.ret,⟨E,[]⟩)∧E.get 2= .pv (.bool false)∧¬qc ss))
  (qb (fa (pa (Ea (fun _=>none) 8) Nc) (ga 0 [1,3])) qa ⟨Qz [S] 0,[]⟩):=by
  refine za (Eb (g:=fa (pa (Ea (fun _=>none) 8) Nc) (ga 0 [1,3]))
   (fun i t=>t=⟨Qz [S] i,[]⟩∧∀ k,k < i→(hk:k < ss.length)→Zd ss[k]∧∀ j,j < k→(h:j < ss.length)→om ss[j] ss[k])
   ss.length (by unfold qa;unfold maxLen at hsz;omega) _ ⟨rfl,by intro j h;omega⟩ ?_ ?_) (fun r h=>h.2)
  ·rintro i t hi ⟨rfl,hs⟩
   obtain⟨P,ps,hP,a0⟩:=hS.Ad hi
   obtain⟨b,hb,hbb⟩:=Wp hP
   have hmt:Zd ss[i]→_:=fun h=>sH hS hi (fun j hj hj2=>by
    rcases Nat.lt_or_ge j i with h1 | h1
    ·exact (hs j h1 hj2).1
    ·have:j=i:=by omega
     subst this;exact h)
   have hnext:Zd ss[i]→(∀ j,j < i→(h:j < ss.length)→om ss[j] ss[i])→∀ k,k < i+1→(hk:k < ss.length)→Zd ss[k]∧∀ j,j < k→(h:j < ss.length)→om ss[j] ss[k]:=by
    intro h1 h2 k hk hk2
    rcases Nat.lt_or_ge k i with h3 | h3
    ·exact hs k h3 hk2
    ·have:k=i:=by omega
     subst this;exact⟨h1,h2⟩
   have hbad:¬(Zd ss[i]∧∀ j,j < i→(h:j < ss.length)→om ss[j] ss[i])→¬qc ss:=fun h hh=>h ((VF.1 hh).2 i hi)
   generalize hgi:ss[i]=p at *
   have e1:decide ((i:Int) < (ss.length:Int))=true:=Fa (by omega)
   have t2:=Ya hi hsz
   generalize hQQ:LN _ _ i=QQ
   cases b with
   |false=>
    have hno:¬Zd p:=fun h=>by have:=hbb.2 h;cases this
    simp -implicitDefEqProofs only[SX,sevalprocAttr,Nc,e1,ln,Yb,Va,a0,Df,hb,Qz]
    subst hQQ
    exact⟨_,.inr ⟨rfl,by simp[Tr.aa],hbad fun h=>hno h.1⟩⟩
   |true=>
    have okp:=hbb.1 rfl
    obtain⟨c,hc,hcc⟩:=hmt okp
    cases c with
    |false=>
     simp -implicitDefEqProofs only[SX,sevalprocAttr,Nc,e1,ln,Yb,Va,a0,Df,hb,hc,t2,ga,Aa,AV.cut,ua,Qz]
     subst hQQ
     exact⟨rfl,hnext okp (hcc.1 rfl)⟩
    |true=>
     simp -implicitDefEqProofs only[SX,sevalprocAttr,Nc,e1,ln,Yb,Va,a0,Df,hb,hc,Qz]
     subst hQQ
     exact⟨_,.inr ⟨rfl,by simp[Tr.aa],hbad fun h=>by have:=hcc.2 h.2;cases this⟩⟩
  ·rintro t ⟨rfl,hs⟩
   have e1:decide ((ss.length:Int) < (ss.length:Int))=false:=Ka (by omega)
   generalize hQ:(fun r:Ex×St=>r.1.stop=true∧_)=Q
   simp -implicitDefEqProofs only[SX,sevalprocAttr,Nc,e1,ln,Yb,Va,Qz]
   subst hQ
   exact⟨rfl,_,.inl ⟨rfl,VF.2 ⟨by omega,fun i hi=>hs i hi hi⟩⟩⟩
 have key:Ld (fun r=>∃ b,r=PV.bool b∧(b=true↔qc ss)) (Md [.agg [S]]):=by
  generalize hQQ:(fun r:PV=>_)=QQ
  simp -implicitDefEqProofs only[Md,SX,sevalprocAttr,kh,hS1,Yb,Va,ln,d1,Bb,ga,Aa,AV.cut,ua]
  refine za hloop ?_
  rintro _ ⟨E,⟨rfl,hb⟩ | ⟨rfl,hE,hb⟩⟩
  ·simp -implicitDefEqProofs only[SX,sevalprocAttr]
   subst hQQ
   exact⟨true,rfl,by simpa using hb⟩
  ·simp -implicitDefEqProofs only[SX,sevalprocAttr,hE]
   subst hQQ
   exact⟨false,rfl,by simpa using hb⟩
 obtain⟨r,h1,b,rfl,hb⟩:=Gc key
 exact⟨b,h1,hb⟩
end Go.AM.B1
namespace Go.AM.B1
open Go.AM Go.AM.So
abbrev YB (rp rq:List PV) (n i:Int) (nl:Bool) (es:List PV):Tr:=((((Tr.lf.set 9 (.pv (i64 i))).set 8 (.uq 0 nl 1 es)).set 4 (.pv (.rp rq 0))).set 3 (.pv (.rp rp 0))).set 2 (.pv (i64 n))
abbrev Ez (rp rq:List PV) (n i x:Int) (nl:Bool) (es:List PV):Tr:=(((((Tr.lf.set 10 (.pv (i64 x))).set 9 (.pv (i64 i))).set 8 (.uq 0 nl 1 es)).set 4 (.pv (.rp rq 0))).set 3 (.pv (.rp rp 0))).set 2 (.pv (i64 n))
theorem Lz (call:Ua) {P Q:PV} {a b:PV} {n:Int} {lp lq:List (List (Int×Int))} {ps qs:List PV} (hp:Ze P lp ps) (hq:Ze Q lq qs) {i:Nat} (hip:i < lp.length) (hiq:i < lq.length) (nl:Bool) (es:List PV) (m:Nat):
 Ld (fun r=>∃ E y,r=(.exit 2,⟨E,[.tok 1 m nl]⟩)∧E.get 2= .pv (i64 n)∧E.get 3= .pv (.rp [P,a] 0)∧E.get 4= .pv (.rp [Q,b] 0)∧E.get 8= .uq 0 nl 1 es∧E.get 9= .pv (i64 i)∧E.get 10= .pv (i64 (y:Nat))∧
  ((y < 256∧Li lp[i] y=true∧Li lq[i] y=true)∨(y=256∧∀ x,x < 256→¬(Li lp[i] x=true∧Li lq[i] x=true))))
  (qb (fa (pa call Dc) (ga 1 [2,3,4,8,9,10])) qa ⟨Ez [P,a] [Q,b] n i 0 nl es,[.tok 1 m nl]⟩):=by
 obtain⟨v,hv,hpv,a1⟩:=hp.Ad hip [.tok 1 m nl]
 obtain⟨w,hw,hqw,a2⟩:=hq.Ad hiq [.tok 1 m nl]
 have hhp:=FA hpv.is hpv.sz
 have hhq:=FA hqw.is hqw.sz
 generalize lp[i]=lv at *
 generalize lq[i]=lw at *
 refine za (Eb (g:=fa (pa call Dc) (ga 1 [2,3,4,8,9,10]))
  (fun x t=>t=⟨Ez [P,a] [Q,b] n i x nl es,[.tok 1 m nl]⟩∧∀ x',x' < x→¬(Li lv x'=true∧Li lw x'=true))
  256 (by unfold qa;omega) _ ⟨rfl,by intro x h;omega⟩ ?_ ?_) (fun r h=>h.2)
 ·rintro x t hx ⟨rfl,hs⟩
  have e1:decide ((x:Int) < 256)=true:=Fa (by omega)
  have t2:IntKind.i64.wrap ((x:Int)+1)=((x+1:Nat):Int):=Da (by omega)
  have hp1:=hhp (x:Int)
  have hq1:=hhq (x:Int)
  rw[Fa (show (0:Int)≤x by omega),Fa (show (x:Int)≤255 by omega),Int.toNat_natCast,Bool.true_and,Bool.true_and] at hp1 hq1
  have hz:(0 < 1)=True:=by simp
  have hnext:¬(Li lv x=true∧Li lw x=true)→∀ x',x' < x+1→¬(Li lv x'=true∧Li lw x'=true):=by
   intro h x' hx'
   rcases Nat.lt_or_ge x' x with h1 | h1
   ·exact hs x' h1
   ·have:x'=x:=by omega
    subst this;exact h
  generalize hQ:LN _ _ x=QQ
  cases h1:Li lv x with
  |false=>
   rw[h1] at hp1
   simp -implicitDefEqProofs only[SX,sevalprocAttr,Dc,e1,Ic,yd,Va,a1,a2,hp1,t2,hz,ga,Aa,AV.cut,oa,ua,Ez]
   subst hQ
   exact⟨rfl,hnext (by rw[h1];simp)⟩
  |true=>
   rw[h1] at hp1
   cases h2:Li lw x with
   |false=>
    rw[h2] at hq1
    simp -implicitDefEqProofs only[SX,sevalprocAttr,Dc,e1,Ic,yd,Va,a1,a2,hp1,hq1,t2,hz,ga,Aa,AV.cut,oa,ua,Ez]
    subst hQ
    exact⟨rfl,hnext (by rw[h2];simp)⟩
   |true=>
    rw[h2] at hq1
    simp -implicitDefEqProofs only[SX,sevalprocAttr,Dc,e1,Ic,yd,Va,a1,a2,hp1,hq1,Ez]
    subst hQ
    exact⟨_,x,rfl,by simp[Tr.aa],by simp[Tr.aa],by simp[Tr.aa],by simp[Tr.aa],by simp[Tr.aa],by simp[Tr.aa],.inl ⟨hx,h1,h2⟩⟩
 ·rintro t ⟨rfl,hs⟩
  have e1:decide (((256:Nat):Int) < 256)=false:=Ka (by omega)
  generalize hQ:(fun r:Ex×St=>r.1.stop=true∧_)=QQ
  simp -implicitDefEqProofs only[SX,sevalprocAttr,Dc,e1,Ez]
  subst hQ
  exact⟨rfl,_,256,rfl,by simp[Tr.aa],by simp[Tr.aa],by simp[Tr.aa],by simp[Tr.aa],by simp[Tr.aa],by simp[Tr.aa],.inr ⟨rfl,hs⟩⟩
theorem Gx {p q:List (List (Int×Int))} {i:Nat} (hp:i < p.length) (hq:i < q.length) (vp:Oa 255 (-2) p[i]=true) (vq:Oa 255 (-2) q[i]=true):
 vo p q i≠[]↔∃ x,x < 256∧Li p[i] x=true∧Li q[i] x=true:=by
 have hmA:vo p q i=Kf (p[i].length+q[i].length) p[i] q[i]:=by
  unfold vo
  rw[List.getElem?_eq_getElem hp,List.getElem?_eq_getElem hq]
 have hlaw:=Rr _ _ _ (-2) (-2) vp vq (Nat.le_refl _)
 have hme:=Dm vp
 rw[hmA]
 generalize p[i]=a at *
 generalize q[i]=b at *
 constructor
 ·intro h
  obtain⟨m,hm⟩:=List.exists_mem_of_ne_nil _ h
  have h2:=(hlaw.1 m.1).1 ⟨m,hm,Int.le_refl _,hlaw.2 m hm⟩
  have h0:0≤m.1∧m.1≤255:=by
   obtain⟨pp,hpp,h3,h4⟩:=h2.1
   have:=hme pp hpp;omega
  refine⟨m.1.toNat,by omega,?_,?_⟩
  ·rw[Li,vp,Bool.true_and,Du,Int.toNat_of_nonneg h0.1];exact h2.1
  ·rw[Li,vq,Bool.true_and,Du,Int.toNat_of_nonneg h0.1];exact h2.2
 ·rintro⟨x,hx,h1,h2⟩ hnil
  rw[Li,vp,Bool.true_and,Du] at h1
  rw[Li,vq,Bool.true_and,Du] at h2
  have:=(hlaw.1 x).2 ⟨h1,h2⟩
  rw[hnil] at this
  exact Bm _ this
theorem Bv {e f:PV} {p q:Rb} {P Q:PV} {ps qs:List PV} (hp:sf e p P ps) (hq:sf f q Q qs) (op:Zd p) (oq:Zd q) {n:Nat} (hn:n≤p.parts.length) (hn2:n≤q.parts.length):
 ∃ v,ve [e,f,i64 n]=some (.uc [v,.bool (Wb p.parts q.parts n 0).isSome]):=by
 have hc1:=Iv hp op
 have hc2:=Iv hq oq
 have hb1:=Mq op
 have hb2:=Mq oq
 obtain⟨hP1,hP2⟩:=hp.yx
 obtain⟨hQ1,hQ2⟩:=hq.yx
 have heq:=hp.eq
 have hfq:=hq.eq
 subst heq hfq
 have h8:=op.hi
 have lP:=hp.parts.Sb
 have lQ:=hq.parts.Sb
 have hloop:Ld (fun r=>∃ E H,(r=(.ret,⟨E,H⟩)∧E.get 6= .pv .ma∧E.get 7= .pv (.bool false)∧(Wb p.parts q.parts n 0).isSome=false)∨(∃ nl es,r=(.exit 0,⟨E,H⟩)∧E.get 8= .uq 0 nl 1 es∧(Wb p.parts q.parts n 0).isSome=true))
  (qb (fa (pa (Ea (fun _=>none) 8) Je) (ga 1 [2,3,4,8,9])) qa ⟨YB [P,i64 p.first] [Q,i64 q.first] n 0 true [],[.tok 1 0 true]⟩):=by
  refine za (Eb (g:=fa (pa (Ea (fun _=>none) 8) Je) (ga 1 [2,3,4,8,9]))
   (fun i t=>∃ nl es,t=⟨YB [P,i64 p.first] [Q,i64 q.first] n i nl es,[.tok 1 i nl]⟩∧es.length=i∧(Wb p.parts q.parts n 0).isSome=(Wb p.parts q.parts (n - i) i).isSome)
   n (by unfold qa;omega) _ ⟨true,[],rfl,rfl,rfl⟩ ?_ ?_) (fun r h=>h.2)
  ·rintro i t hi ⟨nl,es,rfl,hlen,hs⟩
   have hip:i < p.parts.length:=by omega
   have hiq:i < q.parts.length:=by omega
   have hin:=Lz (Ea (fun _=>none) 8) (a:=i64 p.first) (b:=i64 q.first) (n:=n) hp.parts hq.parts hip hiq nl es i
   have okv:=op.parts _ (List.getElem_mem hip)
   have okw:=oq.parts _ (List.getElem_mem hiq)
   have hma:=Gx hip hiq okv.2 okw.2
   obtain⟨m,hm⟩:∃ m,n - i=m+1:=⟨n - i - 1,by omega⟩
   have hm':n - (i+1)=m:=by omega
   rw[hm,Wb] at hs
   have e1:decide ((i:Int) < (n:Int))=true:=Fa (by omega)
   have t2:=Ya (i:=i) (n:=n) hi (by unfold maxLen;omega)
   have hz:(0 < 1)=True:=by simp
   have hLN:∀ (nl':Bool) (es':List PV) (s:St),s=⟨YB [P,i64 p.first] [Q,i64 q.first] n (i+1:Nat) nl' es',[.tok 1 (i+1) nl']⟩→es'.length=i+1→(Wb p.parts q.parts n 0).isSome=(Wb p.parts q.parts m (i+1)).isSome→
    LN (fun i t=>∃ nl es,t=⟨YB [P,i64 p.first] [Q,i64 q.first] n i nl es,[.tok 1 i nl]⟩∧es.length=i∧(Wb p.parts q.parts n 0).isSome=(Wb p.parts q.parts (n - i) i).isSome)
     (fun r=>∃ E H,(r=(.ret,⟨E,H⟩)∧E.get 6= .pv .ma∧E.get 7= .pv (.bool false)∧(Wb p.parts q.parts n 0).isSome=false)∨(∃ nl es,r=(.exit 0,⟨E,H⟩)∧E.get 8= .uq 0 nl 1 es∧(Wb p.parts q.parts n 0).isSome=true)) i (.norm,s):=
    fun nl' es' s h1 h2 h3=>⟨nl',es',h1,h2,by rw[hm'];exact h3⟩
   have hLR:∀ (E:Tr) (H:List ba),E.get 6= .pv .ma→E.get 7= .pv (.bool false)→(Wb p.parts q.parts n 0).isSome=false→
    LN (fun i t=>∃ nl es,t=⟨YB [P,i64 p.first] [Q,i64 q.first] n i nl es,[.tok 1 i nl]⟩∧es.length=i∧(Wb p.parts q.parts n 0).isSome=(Wb p.parts q.parts (n - i) i).isSome)
     (fun r=>∃ E H,(r=(.ret,⟨E,H⟩)∧E.get 6= .pv .ma∧E.get 7= .pv (.bool false)∧(Wb p.parts q.parts n 0).isSome=false)∨(∃ nl es,r=(.exit 0,⟨E,H⟩)∧E.get 8= .uq 0 nl 1 es∧(Wb p.parts q.parts n 0).isSome=true)) i (.ret,⟨E,H⟩):=
    fun E H h1 h2 h3=>⟨E,H,.inl ⟨rfl,h1,h2,h3⟩⟩
   generalize LN _ _ i=QQ at hLN hLR ⊢
   simp -implicitDefEqProofs only[SX,sevalprocAttr,Je,Bb,e1,hz,ga,Aa,AV.cut,oa,ua,YB]
   refine za hin ?_
   rintro r ⟨E,y,rfl,g2,g3,g4,g8,g9,g10,⟨hy,hy1,hy2⟩ | ⟨rfl,hno⟩⟩
   ·have hne:vo p.parts q.parts i≠[]:=hma.2 ⟨y,hy,hy1,hy2⟩
    have hs':(Wb p.parts q.parts n 0).isSome=(Wb p.parts q.parts m (i+1)).isSome:=by
     rw[hs]
     cases hmt:vo p.parts q.parts i with
     |nil=>exact absurd hmt hne
     |cons a r=>simp
    have e2:(((y:Nat):Int)==256)=false:=Zh (by omega)
    have t3:IntKind.u8.wrap ((y:Nat):Int)=(y:Int):=wrap_u8 (by omega)
    have hap:=tq (A:=[.tok 1 i nl]) (id:=0) (n:=i) (h:= .uq) (nl:=nl) (bytes:=1) (es:=es) rfl (by simp[hlen]) (by unfold mb;omega) (.int .u8 y)
    rw[List.set_cons_zero] at hap
    simp -implicitDefEqProofs only[SP,WP,na,sevalprocAttr,g2,g3,g4,g8,g9,g10,e2,t2,t3,hap,hz,ga,Aa,AV.cut,oa,ua]
    exact hLN false (es++[.int .u8 y]) _ rfl (by simp[hlen]) hs'
   ·have hne:vo p.parts q.parts i=[]:=by
     apply Decidable.byContradiction
     intro h
     obtain⟨x,hx,h1,h2⟩:=hma.1 h
     exact hno x hx ⟨h1,h2⟩
    have hs':(Wb p.parts q.parts n 0).isSome=false:=by rw[hs,hne];rfl
    have e2:(((256:Nat):Int)==256)=true:=by decide
    simp -implicitDefEqProofs only[SP,WP,na,sevalprocAttr,g2,g3,g4,g8,g9,g10,e2]
    exact hLR _ _ (by simp[Tr.aa]) (by simp[Tr.aa]) hs'
  ·rintro t ⟨nl,es,rfl,hlen,hs⟩
   rw[Nat.sub_self,Wb] at hs
   have e1:decide ((n:Int) < (n:Int))=false:=Ka (by omega)
   generalize hQ:(fun r:Ex×St=>r.1.stop=true∧_)=QQ
   simp -implicitDefEqProofs only[SX,sevalprocAttr,Je,e1,YB]
   subst hQ
   exact⟨rfl,_,_,.inr ⟨nl,es,rfl,by simp[Tr.aa],hs⟩⟩
 have key:Ld (fun r=>∃ v,r= .uc [v,.bool (Wb p.parts q.parts n 0).isSome]) (ve [.agg [P,i64 p.first],.agg [Q,i64 q.first],i64 n]):=by
  have z1:(ah 1 p.parts==0)=false:=Zh (by omega)
  have z2:(ah 1 q.parts==0)=false:=Zh (by omega)
  have d0:decide ((n:Int) < 0)=false:=Ka (by omega)
  have d1:decide ((n:Int) > (p.parts.length:Int))=false:=Ka (by omega)
  have d2:decide ((n:Int) > (q.parts.length:Int))=false:=Ka (by omega)
  have hz:(0 < 1)=True:=by simp
  generalize ah 1 p.parts=np at *
  generalize ah 1 q.parts=nq at *
  generalize (Wb p.parts q.parts n 0).isSome=b at *
  generalize hQQ:(fun r:PV=>_)=QQ
  simp -implicitDefEqProofs only[ve,SX,sevalprocAttr,ej,Bb,hP1,hQ1,Ic,yd,Df,hc1,hc2,z1,z2,lP,lQ,d0,d1,d2,Ee,hz,ga,Aa,AV.cut,oa,ua]
  refine za hloop ?_
  rintro _ ⟨E,H,⟨rfl,h6,h7,hb⟩ | ⟨nl,es,rfl,g8,hb⟩⟩
  ·subst hb
   simp -implicitDefEqProofs only[SX,sevalprocAttr,h6,h7]
   subst hQQ
   exact⟨_,rfl⟩
  ·subst hb
   cases nl <;>
   ·simp -implicitDefEqProofs only[SX,sevalprocAttr,g8]
    subst hQQ
    exact⟨_,rfl⟩
 obtain⟨r,h1,v,rfl⟩:=Gc key
 exact⟨v,h1⟩
end Go.AM.B1
namespace Go.AM.B1
open Go.AM Go.AM.So
abbrev JM (row:List PV) (i:Int):Tr:=(Tr.lf.set 4 (.pv (i64 i))).set 1 (.pv (.rp row 0))
abbrev FF (row:List PV) (i j:Int):Tr:=((Tr.lf.set 5 (.pv (i64 j))).set 4 (.pv (i64 i))).set 1 (.pv (.rp row 0))
def IS (ss:List Rb) (i j:Nat):Prop:=(hi:i < ss.length)→(hj:j < ss.length)→ss[i].parts.length < ss[j].parts.length→Oe ss[i] ss[j]=false
theorem Kz (call:Ua) {S:PV} {ss:List Rb} {es:List PV} (hS:wb S ss es) (Ba:qc ss) {i:Nat} (hi:i < ss.length):
 Ld (fun r=>∃ E,(r=(.exit 2,⟨E,[]⟩)∧E.get 1= .pv (.rp [S] 0)∧E.get 4= .pv (i64 i)∧∀ j,IS ss i j)∨(r=(.ret,⟨E,[]⟩)∧E.get 2= .pv (.bool false)∧E.get 3= .pv (i64 0)∧¬Fg ss))
  (qb (fa (pa call Ec) (ga 0 [1,4,5])) qa ⟨FF [S] i 0,[]⟩):=by
 have h32:=Ba.len
 have ln:=hS.Sb
 obtain⟨P,ps,hP,a1⟩:=hS.Ad hi
 have okp:=Ba.Av _ (List.getElem_mem hi)
 have lP:=hP.parts.Sb
 have hPre:∀ j (hj:j < ss.length),ss[i].parts.length < ss[j].parts.length→Oe ss[i] ss[j]=true→¬Fg ss:=fun j hj h1 h2 h=>by
  have:=h i j hi hj h1;rw[h2] at this;cases this
 have hat:∀ j,IS ss i j↔((hj:j < ss.length)→ss[i].parts.length < ss[j].parts.length→Oe ss[i] ss[j]=false):=fun j=>⟨fun h=>h hi,fun h _=>h⟩
 simp only[hat]
 generalize ss[i]=p at *
 refine za (Eb (g:=fa (pa call Ec) (ga 0 [1,4,5]))
  (fun j t=>t=⟨FF [S] i j,[]⟩∧∀ j',j' < j→(hj:j' < ss.length)→p.parts.length < ss[j'].parts.length→Oe p ss[j']=false)
  ss.length (by unfold qa;omega) _ ⟨rfl,fun j h=>by omega⟩ ?_ ?_) (fun r h=>h.2)
 ·rintro j t hj ⟨rfl,hs⟩
  obtain⟨Q,qs,hQ,a2⟩:=hS.Ad hj
  have okq:=Ba.Av _ (List.getElem_mem hj)
  have hcm:=fun (h:p.parts.length≤ss[j].parts.length)=>Bv hP hQ okp okq (n:=p.parts.length) (Nat.le_refl _) h
  have lQ:=hQ.parts.Sb
  have hbad:=hPre j hj
  have hnext:(p.parts.length < ss[j].parts.length→Oe p ss[j]=false)→∀ j',j' < j+1→(hj:j' < ss.length)→p.parts.length < ss[j'].parts.length→Oe p ss[j']=false:=by
   intro h j' h1 h2
   rcases Nat.lt_or_ge j' j with h3 | h3
   ·exact hs j' h3 h2
   ·have:j'=j:=by omega
    subst this;exact h
  unfold Oe at hbad hnext
  generalize ss[j]=q at *
  have e1:decide ((j:Int) < (ss.length:Int))=true:=Fa (by omega)
  have t2:=Ya hj (by unfold maxLen;omega)
  generalize hQQ:LN _ _ j=QQ
  by_cases c1:(p.parts.length:Int) < (q.parts.length:Int)
  ·have d1:=Fa c1
   obtain⟨v,hv⟩:=hcm (by omega)
   cases hb:(Wb p.parts q.parts p.parts.length 0).isSome with
   |true=>
    rw[hb] at hv
    simp -implicitDefEqProofs only[SX,sevalprocAttr,Ec,ln,e1,Yb,Va,Ic,yd,Df,a1,a2,lP,lQ,d1,hv,FF]
    subst hQQ
    exact⟨_,.inr ⟨rfl,by simp[Tr.aa],by simp[Tr.aa],hbad (by omega) hb⟩⟩
   |false=>
    rw[hb] at hv
    simp -implicitDefEqProofs only[SX,sevalprocAttr,Ec,ln,e1,t2,Yb,Va,Ic,yd,Df,a1,a2,lP,lQ,d1,hv,ga,Aa,AV.cut,ua,FF]
    subst hQQ
    exact⟨rfl,hnext fun _=>hb⟩
  ·have d1:=Ka c1
   simp -implicitDefEqProofs only[SX,sevalprocAttr,Ec,ln,e1,t2,Yb,Va,Ic,yd,Df,a1,a2,lP,lQ,d1,ga,Aa,AV.cut,ua,FF]
   subst hQQ
   exact⟨rfl,hnext fun h=>absurd h (by omega)⟩
 ·rintro t ⟨rfl,hs⟩
  have e1:decide ((ss.length:Int) < (ss.length:Int))=false:=Ka (by omega)
  generalize hQ:(fun r:Ex×St=>r.1.stop=true∧_)=QQ
  simp -implicitDefEqProofs only[SX,sevalprocAttr,Ec,e1,ln,Yb,Va,FF]
  subst hQ
  exact⟨rfl,_,.inl ⟨rfl,by simp[Tr.aa],by simp[Tr.aa],fun j hj=>hs j hj hj⟩⟩
theorem OB {S:PV} {ss:List Rb} {es:List PV} (hS:wb S ss es):
 (¬ qc ss→sd [.agg [S]]=some (.uc [.bool false,i64 84]))∧
 (qc ss→∃ b,sd [.agg [S]]=some (.uc [.bool b,i64 0])∧(b=true↔Fg ss)):=by
 have ln:=hS.Sb
 have hS1:(AV.pv S).one=true:=by rcases hS.is with⟨h,_⟩ | h <;> rw[h] <;> rfl
 obtain⟨b,hb,hbb⟩:=zv hS
 constructor
 ·intro h
  have:b=false:=by cases b with | false=>rfl | true=>exact absurd (hbb.1 rfl) h
  subst this
  simp -implicitDefEqProofs only[sd,SX,sevalprocAttr,Rg,hS1,Af,hb]
 ·intro Ba
  have h32:=Ba.len
  have:=hbb.2 Ba
  subst this
  have hloop:Ld (fun r=>∃ E,(r=(.exit 0,⟨E,[]⟩)∧Fg ss)∨(r=(.ret,⟨E,[]⟩)∧E.get 2= .pv (.bool false)∧E.get 3= .pv (i64 0)∧¬Fg ss))
   (qb (fa (pa (Ea (fun _=>none) 8) Ae) (ga 0 [1,4])) qa ⟨JM [S] 0,[]⟩):=by
   refine za (Eb (g:=fa (pa (Ea (fun _=>none) 8) Ae) (ga 0 [1,4]))
    (fun i t=>t=⟨JM [S] i,[]⟩∧∀ i',i' < i→∀ j,IS ss i' j)
    ss.length (by unfold qa;omega) _ ⟨rfl,fun i h=>by omega⟩ ?_ ?_) (fun r h=>h.2)
   ·rintro i t hi ⟨rfl,hs⟩
    have hin:=Kz (Ea (fun _=>none) 8) hS Ba hi
    have e1:decide ((i:Int) < (ss.length:Int))=true:=Fa (by omega)
    have t2:=Ya hi (by unfold maxLen;omega)
    generalize hQQ:LN _ _ i=QQ
    simp -implicitDefEqProofs only[SX,sevalprocAttr,Ae,Bb,ln,e1,Yb,Va,ga,Aa,AV.cut,ua,JM]
    refine za hin ?_
    rintro _ ⟨E,⟨rfl,g1,g4,hp⟩ | ⟨rfl,g2,g3,hp⟩⟩
    ·simp -implicitDefEqProofs only[SX,sevalprocAttr,g1,g4,t2,ga,Aa,AV.cut,ua]
     subst hQQ
     refine⟨rfl,fun i' hi' j=> ?_⟩
     rcases Nat.lt_or_ge i' i with h3 | h3
     ·exact hs i' h3 j
     ·have:i'=i:=by omega
      subst this;exact hp j
    ·simp -implicitDefEqProofs only[SX,sevalprocAttr]
     subst hQQ
     exact⟨_,.inr ⟨rfl,g2,g3,hp⟩⟩
   ·rintro t ⟨rfl,hs⟩
    have e1:decide ((ss.length:Int) < (ss.length:Int))=false:=Ka (by omega)
    generalize hQ:(fun r:Ex×St=>r.1.stop=true∧_)=QQ
    simp -implicitDefEqProofs only[SX,sevalprocAttr,Ae,e1,ln,Yb,Va,JM]
    subst hQ
    exact⟨rfl,_,.inl ⟨rfl,fun i j hi hj=>hs i hi j hi hj⟩⟩
  have key:Ld (fun r=>∃ b,r=PV.uc [.bool b,i64 0]∧(b=true↔Fg ss)) (sd [.agg [S]]):=by
   generalize hQQ:(fun r:PV=>_)=QQ
   simp -implicitDefEqProofs only[sd,SX,sevalprocAttr,Rg,hS1,Yb,Va,Af,hb,Bb,ga,Aa,AV.cut,ua]
   refine za hloop ?_
   rintro _ ⟨E,⟨rfl,hp⟩ | ⟨rfl,g2,g3,hp⟩⟩
   ·simp -implicitDefEqProofs only[SX,sevalprocAttr]
    subst hQQ
    exact⟨true,rfl,by simpa using hp⟩
   ·simp -implicitDefEqProofs only[SX,sevalprocAttr,g2,g3]
    subst hQQ
    exact⟨false,rfl,by simpa using hp⟩
  obtain⟨r,h1,b,rfl,hb⟩:=Gc key
  exact⟨b,h1,hb⟩
end Go.AM.B1
namespace Go.AM.B1
open Go.AM Go.AM.So
def YH (f:Nat→Bool):List PV:=(List.range 32).map fun i=> .bool (f i)
def ec (d:Int) (f:Nat→Bool):List PV:=i64 d::YH f
def Me (a:Al):PV:= .agg (ec a.1 a.2.toNat.testBit)
theorem HB (f:Nat→Bool):(YH f).length=32:=by simp[YH]
theorem ng (d:Int) (f:Nat→Bool):(ec d f).length=33:=by rw[ec,List.length_cons,HB]
theorem bL (f:Nat→Bool) {i:Nat} (h:i < (YH f).length):(YH f)[i]= .bool (f i):=by
 simp only[YH,List.getElem_map,List.getElem_range]
theorem EG (f:Nat→Bool) {i:Nat} (h:i < 32):(YH f)[i]? =some (.bool (f i)):=by
 rw[List.getElem?_eq_getElem (by rw[HB];exact h),bL]
theorem QN (f:Nat→Bool) {i:Nat} (h:i < 32) (b:Bool):(YH f).set i (.bool b)=YH fun j=>if j=i then b else f j:=by
 apply List.ext_getElem
 ·rw[List.length_set,HB,HB]
 ·intro j h1 h2
  rw[List.getElem_set,bL,bL]
  by_cases hj:i=j
  ·subst hj;rw[if_pos rfl,if_pos rfl]
  ·rw[if_neg hj,if_neg (Ne.symm hj)]
theorem pt {f g:Nat→Bool} (h:∀ x,x < 32→f x=g x):YH f=YH g:=by
 unfold YH
 apply List.map_congr_left
 intro x hx
 rw[h x (by simpa using hx)]
theorem AN {f g:Nat→Bool} (h:YH f=YH g) {i:Nat} (hi:i < 32):f i=g i:=by
 have h1:=EG f hi
 rw[h,EG g hi] at h1
 injection h1 with h1;injection h1 with h1;exact h1.symm
theorem Wv (d:Int) (f:Nat→Bool):∀ e∈ec d f,(AV.pv e).one=true:=by
 intro e he
 rcases List.mem_cons.1 he with rfl | he
 ·rfl
 ·obtain⟨x,_,rfl⟩:=List.mem_map.1 he
  rfl
def XS (a:Al):Prop:=∃ b:Nat,a.2=(b:Int)∧b < 4294967296
theorem RR {a b:Al} (ha:XS a) (hb:XS b) (h:Me a=Me b):a=b:=by
 obtain⟨d,_⟩:=a;obtain⟨e,_⟩:=b
 obtain⟨m,rfl,hm⟩:=ha
 obtain⟨n,rfl,hn⟩:=hb
 simp only[Me,ec,PV.agg.injEq,List.cons.injEq,PV.int.injEq,true_and,Int.toNat_natCast] at h
 have:m=n:=by
  apply Nat.eq_of_testBit_eq
  intro i
  by_cases hi:i < 32
  ·exact AN h.2 hi
  ·rw[Nat.testBit_lt_two_pow (Nat.lt_of_lt_of_le hm (Nat.pow_le_pow_right (n:=2) (by decide) (by omega:32≤i))),Nat.testBit_lt_two_pow (Nat.lt_of_lt_of_le hn (Nat.pow_le_pow_right (n:=2) (by decide) (by omega:32≤i)))]
 subst this
 have h1:d=e:=by have:=h.1;omega
 rw[h1]
theorem ax:∀ (l:List Nat) (f g:Nat→Bool),Th (l.map fun _=>0) (l.map fun i=> .bool (f i)) (l.map fun i=> .bool (g i))=some (l.all fun i=>f i==g i)
 | [],f,g=>rfl
 |i::l,f,g=>by
  simp only[List.map_cons,Th,Up,Option.bind_some,ax l f g,Option.map_some,List.all_cons]
abbrev qY:Kd:= .row [1,0,0,0,0,0,0,0,0,0,0,0,0,0,0,0,0,0,0,0,0,0,0,0,0,0,0,0,0,0,0,0,0]
theorem MT (a b:Al):∃ c,rk qY (Me a) (Me b)=some c∧(c=true↔Me a=Me b):=by
 have h:=ax (List.range 32) a.2.toNat.testBit b.2.toNat.testBit
 have h0:(List.range 32).map (fun _=>0)=[0,0,0,0,0,0,0,0,0,0,0,0,0,0,0,0,0,0,0,0,0,0,0,0,0,0,0,0,0,0,0,0]:=by decide
 rw[h0] at h
 refine⟨((a.1:Int)==b.1)&&(List.range 32).all fun i=>a.2.toNat.testBit i==b.2.toNat.testBit i,?_,?_⟩
 ·show Th (1::[0,0,0,0,0,0,0,0,0,0,0,0,0,0,0,0,0,0,0,0,0,0,0,0,0,0,0,0,0,0,0,0]) (i64 a.1::YH _) (i64 b.1::YH _)=_
  unfold Th
  rw[show YH a.2.toNat.testBit=(List.range 32).map fun i=> .bool (a.2.toNat.testBit i) from rfl,show YH b.2.toNat.testBit=(List.range 32).map fun i=> .bool (b.2.toNat.testBit i) from rfl,h]
  simp only[Up,if_true,Option.bind_some,Option.map_some]
 ·simp only[Bool.and_eq_true,beq_iff_eq,List.all_eq_true,List.mem_range]
  constructor
  ·rintro⟨h1,h2⟩
   rw[Me,Me,h1]
   unfold ec
   rw[pt h2]
  ·intro h
   simp only[Me,ec,PV.agg.injEq,List.cons.injEq,PV.int.injEq,true_and] at h
   exact⟨h.1,fun i hi=>AN h.2 hi⟩
theorem cJ (H:List ba) {l:List Al} {i:Nat} (hi:i < l.length):wa H 33 (.pv (.lit 33 (l.map Me))) (i:Int)=some (.pv (.rp (ec l[i].1 l[i].2.toNat.testBit) 0)):=by
 simp only[wa]
 rw[if_pos (by refine⟨trivial,?_⟩;unfold Ga;simp;omega)]
 simp[hi,Me,PV.cells]
theorem OI (H:List ba) (d:Int) (f:Nat→Bool):ya H true 33 (.pv (.rp (ec d f) 0))=some (.pv (.agg (ec d f))):=by
 have h:=ng d f
 simp only[ya,ql,if_true]
 rw[if_pos (by omega),List.drop_zero,List.take_of_length_le (by omega)]
 rfl
theorem JQ {a:Al} {l:List Al} {i k:Nat} (hi:i < l.length):Ll a (l.drop i) k=if a=l[i] then some k else Ll a (l.drop (i+1)) (k+1):=by
 rw[List.drop_eq_getElem_cons hi,Ll]
abbrev eI (v:PV) (row:List PV) (i:Int):Tr:=((Tr.lf.set 5 (.pv (i64 i))).set 3 (.pv (.rp row 0))).set 0 (.pv v)
theorem FT {l:List Al} {a:Al} (hl:l.length≤64) (ha:XS a) (hb:∀ b∈l,XS b):Wh [.lit 33 (l.map Me),Me a]=some (i64 (match Ll a l 0 with | some k=>(k:Int) | none=> -1)):=by
 have hloop:Ld (fun r=>∃ E,(r=(.exit 0,⟨E,[]⟩)∧Ll a l 0=none)∨(∃ k,r=(.ret,⟨E,[]⟩)∧Ll a l 0=some k∧E.get 4= .pv (i64 (k:Nat))))
  (qb (fa (pa (Ea (fun _=>none) 8) Sd) (ga 0 [0,3,5])) qa ⟨eI (.lit 33 (l.map Me)) (ec a.1 a.2.toNat.testBit) 0,[]⟩):=by
  refine za (Eb (g:=fa (pa (Ea (fun _=>none) 8) Sd) (ga 0 [0,3,5]))
   (fun i t=>t=⟨eI (.lit 33 (l.map Me)) (ec a.1 a.2.toNat.testBit) i,[]⟩∧Ll a l 0=Ll a (l.drop i) i)
   l.length (by unfold qa;omega) _ ⟨rfl,rfl⟩ ?_ ?_) (fun r h=>h.2)
  ·rintro i t hi ⟨rfl,hs⟩
   rw[JQ hi] at hs
   have a1:=cJ [] hi
   have a2:=OI [] l[i].1 l[i].2.toNat.testBit
   have a3:=OI [] a.1 a.2.toNat.testBit
   obtain⟨c,heq,hce⟩:=MT l[i] a
   have heq:rk qY (.agg (ec l[i].1 l[i].2.toNat.testBit)) (.agg (ec a.1 a.2.toNat.testBit))=some c:=heq
   have e1:decide ((i:Int) < (l.length:Int))=true:=Fa (by omega)
   have t2:=Ya hi (show l.length≤maxLen by unfold maxLen;omega)
   have ln:Sb [] 0 (.pv (.lit 33 (l.map Me)))=some l.length:=by simp[Sb]
   have hbi:=hb _ (List.getElem_mem hi)
   generalize ec a.1 a.2.toNat.testBit=row at *
   generalize ec l[i].1 l[i].2.toNat.testBit=row2 at *
   generalize l.map Me=es at *
   generalize hQ:LN _ _ i=Q
   by_cases h:a=l[i]
   ·rw[hce.2 (by rw[h])] at heq
    rw[if_pos h] at hs
    simp -implicitDefEqProofs only[SX,sevalprocAttr,Sd,e1,ln,a1,a2,a3,heq,eI]
    subst hQ
    exact⟨_,.inr ⟨i,rfl,hs,by simp[Tr.aa]⟩⟩
   ·have:c=false:=by cases c with | false=>rfl | true=>exact absurd (RR hbi ha (hce.1 rfl)).symm h
    rw[this] at heq
    rw[if_neg h] at hs
    simp -implicitDefEqProofs only[SX,sevalprocAttr,Sd,e1,t2,ln,a1,a2,a3,heq,ga,Aa,AV.cut,ua,eI]
    subst hQ
    exact⟨rfl,hs⟩
  ·rintro t ⟨rfl,hs⟩
   rw[List.drop_length,Ll] at hs
   have e1:decide ((l.length:Int) < (l.length:Int))=false:=Ka (by omega)
   have ln:Sb [] 0 (.pv (.lit 33 (l.map Me)))=some l.length:=by simp[Sb]
   generalize l.map Me=es at *
   generalize hQ:(fun r:Ex×St=>r.1.stop=true∧_)=Q
   simp -implicitDefEqProofs only[SX,sevalprocAttr,Sd,e1,ln,eI]
   subst hQ
   exact⟨rfl,_,.inl ⟨rfl,hs⟩⟩
 have hln:=ng (a.1:Int) a.2.toNat.testBit
 have hall:∀ e∈ec (a.1:Int) a.2.toNat.testBit,(AV.pv e).one=true:=Wv _ _
 have he:Me a= .agg (ec a.1 a.2.toNat.testBit):=rfl
 rw[he]
 generalize ec (a.1:Int) a.2.toNat.testBit=row at *
 have hbx:((row.map AV.pv).length=33∧(row.map AV.pv).all AV.one=true)=True:=by
  refine eq_true ⟨by rw[List.length_map,hln],?_⟩
  rw[List.all_eq_true];intro v hv
  obtain⟨e,he,rfl⟩:=List.mem_map.1 hv
  exact hall e he
 have hmp:Sa (Xb [] 0) (row.map AV.pv)=some row:=LB _ _ _
 generalize l.map Me=es at *
 apply bl
 simp -implicitDefEqProofs only[Wh,SX,sevalprocAttr,Mj,hbx,hmp,Bb,ga,Aa,AV.cut,ua]
 refine za hloop ?_
 rintro _ ⟨E,⟨rfl,hn⟩ | ⟨k,rfl,hk,g⟩⟩
 ·simp -implicitDefEqProofs only[SX,sevalprocAttr,hn]
 ·simp -implicitDefEqProofs only[SX,sevalprocAttr,g,hk]
end Go.AM.B1
