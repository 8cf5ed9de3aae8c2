/- What functions of the program compute. -/
import Derived.Test.YtdglpnpkgngcdaaGreatT6
set_option linter.unusedVariables false
set_option linter.unusedSimpArgs false
namespace Go.AM.B1
open Go.AM Go.AM.So
theorem sP {v:PV} {l:List (Int×Int)} (h:um v l):∃ w,Yc [v]=some w∧Th 2 w (Ld l)∧(l≠[]→w= .lit 2 (Ld l)):=by
 rcases h.is with⟨rfl,hl⟩ | rfl
 ·refine⟨.ma,?_,.inl ⟨rfl,hl⟩,fun hne=>absurd (by simpa[Ld] using hl) hne⟩
  simp -implicitDefEqProofs only[Yc,SP,SA,SQ,WP,WQ,sevalprocAttr,je]
 ·refine⟨.lit 2 (Ld l),?_,.inr rfl,fun _=>rfl⟩
  have hr:xb (Ld l).length 16:=by have:=h.sz;unfold xb;simp;omega
  generalize Ld l=es at *
  simp -implicitDefEqProofs only[Yc,SP,SA,SQ,WP,WQ,sevalprocAttr,je,eq_true hr]
abbrev kJ (S P:PV) (n i m j:Int):Tr:=((((((((Tr.lf.set 22 (.pv (i64 j))).set 21 (.pv (i64 m))).set 20 (.pv P)).set 12 (.pv (i64 i))).set 11 (.pv (i64 n))).set 10 (.pv S)).set 6 (.ptr 4 0)).set 3 (.ptr 1 0)).set 2 (.ptr 0 0)
abbrev jN (S:PV) (n i:Int):Tr:=((((Tr.lf.set 12 (.pv (i64 i))).set 11 (.pv (i64 n))).set 10 (.pv S)).set 3 (.ptr 1 0)).set 2 (.ptr 0 0)
abbrev bX (out:List PV) (nl:Bool):List ba:=[.box [.pv .ma],.box [.uq 2 nl 2 out],.tok 2 out.length nl]
abbrev fI (out:List PV) (nl:Bool) (P:PV) (f:Int) (ps:List PV) (nl1:Bool):List ba:=[.box [.pv .ma],.box [.uq 2 nl 2 out],.tok 2 out.length nl,.box [.pv P,.pv (i64 f)],.box [.uq 5 nl1 1 ps,.pv (i64 f)],.tok 1 ps.length nl1]
theorem ML {P S:PV} {ls:List (List (Int×Int))} {ps:List PV} (hP:cf P ls ps) (Aa:∀ l∈ls,l≠[]) (h8:ls.length≤8) (out:List PV) (nl:Bool) (f n i:Int):
 ∃ E nl1,gb (fa (ta (Ca (fun _=>none) 8) Kh) (ga 6 [2,3,6,10,11,12,20,21,22])) oa ⟨kJ S P n i ls.length 0,fI out nl P f [] true⟩=
  some (.exit 2,⟨E,fI out nl P f (ls.map Yd) nl1⟩)∧(nl1=true→ls=[])∧E.get 2= .ptr 0 0∧E.get 3= .ptr 1 0∧E.get 6= .ptr 4 0∧E.get 10= .pv S∧E.get 11= .pv (i64 n)∧E.get 12= .pv (i64 i):=by
 have key:=yb (g:=fa (ta (Ca (fun _=>none) 8) Kh) (ga 6 [2,3,6,10,11,12,20,21,22]))
  (fun j t=>∃ nl1,t=⟨kJ S P n i ls.length j,fI out nl P f ((ls.take j).map Yd) nl1⟩∧(nl1=true→j=0))
  (Q:=fun r=>∃ E nl1,r=(.exit 2,⟨E,fI out nl P f (ls.map Yd) nl1⟩)∧(nl1=true→ls=[])∧E.get 2= .ptr 0 0∧E.get 3= .ptr 1 0∧E.get 6= .ptr 4 0∧E.get 10= .pv S∧E.get 11= .pv (i64 n)∧E.get 12= .pv (i64 i))
  ls.length (by unfold oa;omega) ⟨kJ S P n i ls.length (0:Nat),fI out nl P f [] true⟩ ⟨true,rfl,fun _=>rfl⟩ ?_ ?_
 ·obtain⟨r,h1,_,E,nl1,rfl,h2⟩:=Fc key
  exact⟨E,nl1,h1,h2⟩
 ·rintro j t hj ⟨nl1,rfl,hnl⟩
  obtain⟨v,hv,hpt,_⟩:=hP.Uc hj []
  have a1:=hP.Su hv
  obtain⟨w,hcl,_,hw⟩:=sP hpt
  have hw:=hw (Aa _ (List.getElem_mem hj))
  subst hw
  have htk:(ls.take (j+1)).map Yd=(ls.take j).map Yd++[.lit 2 (Ld ls[j])]:=by
   rw[List.take_succ_eq_append_getElem hj,List.map_append];rfl
  have hpl:((ls.take j).map Yd).length=j:=by simp;omega
  generalize ls[j]=l at *
  have e1:decide ((j:Int) < (ls.length:Int))=true:=Ga (by omega)
  have t2:=Ua hj (by unfold maxLen;omega)
  have r1:∀ H (x:PV),ya H false 1 (.pv (.rp [x] 0))=some (.pv x):=fun H x=>rfl
  have hap:=Fg (A:=fI out nl P f ((ls.take j).map Yd) nl1) (id:=5) (n:=j) (h:= .uq) (ag:=false) (nl:=nl1) (sz:=1) (bytes:=24) (es:=(ls.take j).map Yd) (by show some (ba.tok 1 ((ls.take j).map Yd).length nl1)=_;rw[hpl]) hpl.symm (by unfold xb;omega) (.lit 2 (Ld l))
  have hlen1:((ls.take j).map Yd++[PV.lit 2 (Ld l)]).length=j+1:=by rw[List.length_append,hpl];rfl
  have hap':Zb (fI out nl P f ((ls.take j).map Yd) nl1) false .uq 1 false 24 (.uq 5 nl1 1 ((ls.take j).map Yd)) (.pv (.lit 1 [.lit 2 (Ld l)]))=some (.uq 5 false 1 ((ls.take j).map Yd++[.lit 2 (Ld l)]),[.box [.pv .ma],.box [.uq 2 nl 2 out],.tok 2 out.length nl,.box [.pv P,.pv (i64 f)],.box [.uq 5 nl1 1 ((ls.take j).map Yd),.pv (i64 f)],.tok 1 (j+1) false]):=hap
  unfold fI at hap' ⊢
  rw[hpl] at hap' ⊢
  have p0:∀ (x:AV) (y z:ba),place [.box [.pv .ma],.box [.uq 2 nl 2 out],y,.box [.pv P,.pv (i64 f)],.box [x,.pv (i64 f)],z] 0 (.ptr 4 0)=some (.ptr 4 0):=fun x y z=>rfl
  have l0:∀ (x:AV) (y z:ba),ya [.box [.pv .ma],.box [.uq 2 nl 2 out],y,.box [.pv P,.pv (i64 f)],.box [x,.pv (i64 f)],z] false 1 (.ptr 4 0)=some x:=fun x y z=>rfl
  have s0:∀ (x:AV) (y z:ba) (es:List PV),Ma [.box [.pv .ma],.box [.uq 2 nl 2 out],y,.box [.pv P,.pv (i64 f)],.box [x,.pv (i64 f)],z] 1 (.ptr 4 0) (.uq 5 false 1 es)=some [.box [.pv .ma],.box [.uq 2 nl 2 out],y,.box [.pv P,.pv (i64 f)],.box [.uq 5 false 1 es,.pv (i64 f)],z]:=fun x y z es=>rfl
  generalize hp0:(ls.take j).map Yd=ps0 at *
  generalize hL:PV.lit 2 (Ld l)=L at *
  have hL1:(AV.pv L).cells=[.pv L]∧(AV.pv L).one=true:=by rw[← hL];exact⟨rfl,rfl⟩
  have b5:(5 < 6)=True:=by simp
  have b4:(4 < 6)=True:=by simp
  have b2:(2 < 6)=True:=by simp
  have b1:(1 < 6)=True:=by simp
  have b0:(0 < 6)=True:=by simp
  have hLc:L.cells=[L]:=by rw[← hL];rfl
  generalize hQ:LN _ _ j=Q
  subst hL
  simp -implicitDefEqProofs only[SP,WP,na,sevalprocAttr,Kh,e1,t2,a1,r1,p0,l0,s0,hcl,hap',b0,b1,b2,b4,b5,ga,za,AV.cut,pa,Ra,qa,kJ]
  subst hQ
  refine⟨false,?_,by simp⟩
  rw[htk,hlen1]
 ·rintro t ⟨nl1,rfl,hnl⟩
  rw[List.take_length]
  have e1:decide ((ls.length:Int) < (ls.length:Int))=false:=Ia (by omega)
  generalize hQ:(fun r:Ex×St=>r.1.stop=true∧_)=Q
  simp -implicitDefEqProofs only[SX,sevalprocAttr,Kh,e1,kJ]
  subst hQ
  exact⟨rfl,_,nl1,rfl,fun h=>List.eq_nil_of_length_eq_zero (hnl h),by simp[Tr.aa],by simp[Tr.aa],by simp[Tr.aa],by simp[Tr.aa],by simp[Tr.aa],by simp[Tr.aa]⟩
theorem Lz {S:PV} {ss:List Yb} {es:List PV} (hS:Xa S ss es) (Aa:wc ss):∃ S',Eh [.agg [S]]=some (.agg [S'])∧Th 2 S' (ss.map Xd):=by
 have lS:=hS.Sb
 have h32:=Aa.len
 have hSone:(AV.pv S).one=true:=by rcases hS.is with⟨h,_⟩ | h <;> rw[h] <;> rfl
 have hloop:Md (fun r=>∃ E nl,r=(.exit 0,⟨E,bX (ss.map Xd) nl⟩)∧(nl=true→ss=[])∧E.get 2= .ptr 0 0∧E.get 3= .ptr 1 0)
  (gb (fa (ta (Ca (fun _=>none) 8) Mh) (ga 3 [2,3,10,11,12])) oa ⟨jN S ss.length 0,bX [] true⟩):=by
  refine wa (yb (g:=fa (ta (Ca (fun _=>none) 8) Mh) (ga 3 [2,3,10,11,12]))
   (fun i t=>∃ nl,t=⟨jN S ss.length i,bX ((ss.take i).map Xd) nl⟩∧(nl=true→i=0))
   (Q:=fun r=>∃ E nl,r=(.exit 0,⟨E,bX (ss.map Xd) nl⟩)∧(nl=true→ss=[])∧E.get 2= .ptr 0 0∧E.get 3= .ptr 1 0)
   ss.length (by unfold oa;omega) _ ⟨true,rfl,fun _=>rfl⟩ ?_ ?_) (fun r h=>h.2)
  ·rintro i t hi ⟨nl,rfl,hnl⟩
   obtain⟨P,ps,hPs,a1⟩:=hS.Uc hi
   have ok:=Aa.jv _ (List.getElem_mem hi)
   obtain⟨hP1,hP2⟩:=hPs.Fx
   have lP:=hPs.parts.Sb
   have htk:(ss.take (i+1)).map Xd=(ss.take i).map Xd++[Xd ss[i]]:=by
    rw[List.take_succ_eq_append_getElem hi,List.map_append];rfl
   have hpl:((ss.take i).map Xd).length=i:=by simp;omega
   obtain⟨E,nl1,hin,hnl1,g2,g3,g6,g10,g11,g12⟩:=ML (S:=S) hPs.parts (fun l hl=>(ok.parts l hl).1) ok.hi ((ss.take i).map Xd) nl ss[i].first ss.length i
   have hnl1f:nl1=false:=by
    cases nl1 with
    |false=>rfl
    |true=>have:=hnl1 rfl;have h2:=ok.lo;rw[this] at h2;simp at h2
   subst hnl1f
   have hes:Xd ss[i]= .agg [.lit 1 (ss[i].parts.map Yd),i64 ss[i].first]:=rfl
   rw[hes] at htk
   generalize ss[i]=p at *
   have e1:decide ((i:Int) < (ss.length:Int))=true:=Ga (by omega)
   have t2:=Ua hi (by unfold maxLen;omega)
   have a2:∀ H,ya H true 2 (.pv (.rp [P,i64 p.first] 0))=some (.pv (.agg [P,i64 p.first])):=fun H=>rfl
   generalize (ss.take i).map Xd=out at *
   generalize p.parts.map Yd=pp at *
   subst hpl
   unfold fI at hin
   unfold bX
   have hlo:(out++[PV.agg [.lit 1 pp,i64 p.first]]).length=out.length+1:=by simp
   have hap:∀ (T:List ba),Zb ([.box [.pv .ma],.box [.uq 2 nl 2 out],.tok 2 out.length nl]++T) false .uq 2 true 32 (.uq 2 nl 2 out) (.pv (.lit 2 [.agg [.lit 1 pp,i64 p.first]]))=some (.uq 2 false 2 (out++[.agg [.lit 1 pp,i64 p.first]]),[.box [.pv .ma],.box [.uq 2 nl 2 out],.tok 2 (out.length+1) false]++T):=fun T=>
    Fg (A:=[.box [.pv .ma],.box [.uq 2 nl 2 out],.tok 2 out.length nl]++T) (id:=2) (n:=out.length) (h:= .uq) (ag:=true) (nl:=nl) (sz:=2) (bytes:=32) (es:=out) rfl rfl (by unfold xb;omega) _
   have hap1:=fun a b c=>hap [a,b,c]
   simp only[List.cons_append,List.nil_append] at hap1
   have s1:∀ T:List ba,Ma ([.box [.pv .ma],.box [.uq 2 nl 2 out],.tok 2 out.length nl,.box [.pv .ma,.pv (i64 0)]]) 2 (.ptr 3 0) (.pv (.agg [P,i64 p.first]))=some [.box [.pv .ma],.box [.uq 2 nl 2 out],.tok 2 out.length nl,.box [.pv P,.pv (i64 p.first)]]:=fun T=>
    Ql _ _ _ _ hP1 rfl [.box [.pv .ma],.box [.uq 2 nl 2 out],.tok 2 out.length nl] _ rfl
   have s1':=s1 []
   have b5:(5 < 6)=True:=by simp
   have b4:(4 < 6)=True:=by simp
   have b2:(2 < 6)=True:=by simp
   have b1:(1 < 6)=True:=by simp
   have b0:(0 < 6)=True:=by simp
   have c2:(2 < 3)=True:=by simp
   have c1:(1 < 3)=True:=by simp
   have c0:(0 < 3)=True:=by simp
   have hz:(0 < 1)=True:=by simp
   generalize hQ:LN _ _ out.length=Q
   have hin':gb (fa (ta (Ca (fun _=>none) 8) Kh) (ga 6 [2,3,6,10,11,12,20,21,22])) oa ⟨((((((((Tr.lf.set 22 (.pv (.int .i64 0))).set 21 (.pv (i64 p.parts.length))).set 20 (.pv P)).set 12 (.pv (i64 out.length))).set 11 (.pv (i64 ss.length))).set 10 (.pv S)).set 6 (.ptr 4 0)).set 3 (.ptr 1 0)).set 2 (.ptr 0 0),[.box [.pv .ma],.box [.uq 2 nl 2 out],.tok 2 out.length nl,.box [.pv P,.pv (i64 p.first)],.box [.uq 5 true 1 [],.pv (i64 p.first)],.tok 1 0 true]⟩=_:=hin
   simp -implicitDefEqProofs only[SP,SA,SQ,sevalprocAttr,fa,Mh,qb,e1,a1,a2,s1',hP1,lP,Ke,hz,b0,b1,b2,b4,b5,ga,za,AV.cut,pa,Ba,Ra,qa,jN]
   rw[hin']
   simp -implicitDefEqProofs only[SP,SQ,WP,WQ,↓reduceIte,reduceCtorEq,Nat.reduceAdd,Nat.reduceMul,Nat.reduceLeDiff,Nat.reduceEqDiff,Int.reduceLT,Int.reduceLE,Int.reduceBEq,Int.reduceEq,Nat.reduceBEq,Nat.reduceLT,Nat.reduceSub,g2,g3,g6,g10,g11,g12,hap1,t2,c0,c1,c2,ga,za,AV.cut,pa,Ra,qa]
   subst hQ
   exact⟨false,by rw[htk,hlo],by simp⟩
  ·rintro t ⟨nl,rfl,hnl⟩
   rw[List.take_length]
   have e1:decide ((ss.length:Int) < (ss.length:Int))=false:=Ia (by omega)
   generalize hQ:(fun r:Ex×St=>r.1.stop=true∧_)=Q
   simp -implicitDefEqProofs only[SX,sevalprocAttr,Mh,e1,jN]
   subst hQ
   exact⟨rfl,_,nl,rfl,fun h=>List.eq_nil_of_length_eq_zero (hnl h),by simp[Tr.aa],by simp[Tr.aa]⟩
 obtain⟨r,h1,E,nl,rfl,hnl,g2,g3⟩:=Fc hloop
 have h1':gb (fa (ta (Ca (fun _=>none) 8) Mh) (ga 3 [2,3,10,11,12])) oa ⟨((((Tr.lf.set 12 (.pv (.int .i64 0))).set 11 (.pv (i64 ss.length))).set 10 (.pv S)).set 3 (.ptr 1 0)).set 2 (.ptr 0 0),[.box [.pv .ma],.box [.uq 2 true 2 []],.tok 2 0 true]⟩=_:=h1
 have hz:(0 < 2)=True:=by simp
 have c2:(2 < 3)=True:=by simp
 have c1:(1 < 3)=True:=by simp
 have c0:(0 < 3)=True:=by simp
 have hout:nl=true→ss.map Xd=[]:=fun h=>by rw[hnl h];rfl
 generalize ss.map Xd=out at *
 cases nl with
 |true=>
  refine⟨.ma,?_,.inl ⟨rfl,?_⟩⟩
  ·simp -implicitDefEqProofs only[Eh,SP,SA,SQ,sevalprocAttr,fa,Ln,qb,hSone,PD,lS,Ke,hz,c0,c1,c2,ga,za,AV.cut,pa,Ba,Ra,qa,h1',g2,g3]
  ·exact hout rfl
 |false=>
  refine⟨.lit 2 out,?_,.inr rfl⟩
  simp -implicitDefEqProofs only[Eh,SP,SA,SQ,sevalprocAttr,fa,Ln,qb,hSone,PD,lS,Ke,hz,c0,c1,c2,ga,za,AV.cut,pa,Ba,Ra,qa,h1',g2,g3]
end Go.AM.B1
namespace Go.AM.B1
open Go.AM Go.AM.So
theorem wc.ne {ss:List Yb} (h:wc ss):∀ s∈ss,0 < s.parts.length:=fun s hs=>(h.jv s hs).lo
theorem Xa.zX {S:PV} {ss:List Yb} {es:List PV} (h:Xa S ss es):∀ s∈ss,∀ l∈s.parts,l.length * 16≤140737488355328:=by
 intro s hs l hl
 obtain⟨i,hi,rfl⟩:=List.getElem_of_mem hs
 obtain⟨e,P,ps,_,_,hp⟩:=h.get hi
 obtain⟨j,hj,rfl⟩:=List.getElem_of_mem hl
 obtain⟨v,_,_,hv⟩:=hp.parts.get hj
 exact hv.sz
theorem Di {S:PV} {ss:List Yb} {es:List PV} (hS:Xa S ss es):
 (¬ wc ss→Cc [.agg [S]]=some (.Jc [.agg [.ma],i64 84]))∧
 (wc ss→¬ch ss→Cc [.agg [S]]=some (.Jc [.agg [.ma],i64 110]))∧
 (wc ss→ch ss→eh ss=none→Cc [.agg [S]]=some (.Jc [.agg [.ma],i64 130]))∧
 (wc ss→ch ss→∀ l,eh ss=some l→Cc [.agg [S]]=some (.Jc [.agg [pf l],i64 0])):=by
 have hS0:S= .ma∨∃ l,S= .lit 2 l:=by
  rcases hS.is with⟨h,_⟩ | h
  ·exact .inl h
  ·exact .inr ⟨_,h⟩
 have hp:=TC hS
 refine⟨?_,?_,?_,?_⟩
 ·intro h
  exact aQ S hS0 (by decide) (hp.1 h)
 ·intro h1 h2
  obtain⟨y,a,b,h3,h4⟩:=hp.2 h1
  have hy:y=false:=by cases y with | false=>rfl | true=>exact absurd (h4.1 rfl) h2
  subst hy
  exact VS S hS0 h3
 ·intro h1 h2 h5
  obtain⟨y,a,b,h3,h4⟩:=hp.2 h1
  have hy:=h4.2 h2
  subst hy
  obtain⟨S',hc,hs⟩:=Lz hS h1
  exact gL S S' ss hS0 h3 hc hs h1.len hS.zX h1.ne h5
 ·intro h1 h2 l h5
  obtain⟨y,a,b,h3,h4⟩:=hp.2 h1
  have hy:=h4.2 h2
  subst hy
  obtain⟨S',hc,hs⟩:=Lz hS h1
  exact vS S S' ss hS0 h3 hc hs h1.len hS.zX h1.ne h5
end Go.AM.B1
namespace Go.AM.B1
open Go.AM Go.AM.So
abbrev Fb (es:List PV):ba:= .box (es.map .pv)
theorem jj {A:List ba} {id:Nat} {es:List PV} (hg:A[id]? =some (Fb es)) (o d:Nat):place A d (.ptr id o)=some (.ptr id (o+d)):=by
 simp only[place,hg]
theorem KD {A:List ba} {id:Nat} {es:List PV} (hg:A[id]? =some (Fb es)) {k:Nat} {e:PV} (hk:es[k]? =some e):ya A false 1 (.ptr id k)=some (.pv e):=by
 simp only[ya,hg,oh,Bool.false_eq_true,if_false,List.getElem?_map,hk,Option.map_some]
theorem Nw {A:List ba} {id:Nat} {es:List PV} (hg:A[id]? =some (Fb es)) {k:Nat} (hk:k < es.length) {e:PV} (hc:e.cells=[e]) (h1:(AV.pv e).one=true):Ma A 1 (.ptr id k) (.pv e)=some (A.set id (Fb (es.set k e))):=by
 have hc':(AV.pv e).cells=[.pv e]:=by simp[AV.cells,hc]
 simp only[Ma,hg,hc']
 rw[if_pos ⟨rfl,by simp[h1]⟩,if_pos (by simp;omega),na,na]
 show _=some (A.set id (.box ((es.set k e).map .pv)))
 rw[List.map_set]
theorem ff:∀ (es:List PV),He (es.map .pv)=some es
 | []=>rfl
 |e::es=>by rw[List.map_cons,He,ff es];rfl
theorem fm {A:List ba} {id n:Nat} {es:List PV} (hg:A[id]? =some (Fb es)) (hn:es.length=n):ya A true n (.ptr id 0)=some (.pv (.agg es)):=by
 simp only[ya,hg,oh,if_true]
 rw[if_pos (by simp;omega)]
 have:List.take n (List.drop 0 (es.map AV.pv))=es.map AV.pv:=by rw[List.drop_zero,List.take_of_length_le (by simp;omega)]
 rw[this,Ar,ff]
theorem Ku {α:Type}:∀ (vs cs pre:List α),cs.length=vs.length→na (pre++cs) pre.length vs=pre++vs
 | [],cs,pre,h=>by cases cs with | nil=>rfl | cons=>simp at h
 |v::vs,cs,pre,h=>by
  cases cs with
  |nil=>simp at h
  |cons c cs=>
   have:(pre++c::cs).set pre.length v=(pre++[v])++cs:=by simp
   rw[na,this]
   have h2:=Ku vs cs (pre++[v]) (by simpa using h)
   simp only[List.length_append,List.length_singleton] at h2
   rw[h2];simp
theorem Ap {A:List ba} {id n:Nat} {es fs:List PV} (hg:A[id]? =some (Fb es)) (hn:es.length=n) (hf:fs.length=n) (h1:∀ e∈fs,(AV.pv e).one=true):Ma A n (.ptr id 0) (.pv (.agg fs))=some (A.set id (Fb fs)):=by
 have hc':(AV.pv (.agg fs)).cells=fs.map .pv:=rfl
 simp only[Ma,hg,hc']
 rw[if_pos ⟨by simp[hf],by rw[List.all_eq_true];intro v hv;obtain⟨e,he,rfl⟩:=List.mem_map.1 hv;exact h1 e he⟩,if_pos (by simp;omega)]
 have:=Ku (fs.map AV.pv) (es.map AV.pv) [] (by simp;omega)
 simp only[List.nil_append,List.length_nil] at this
 rw[this]
theorem Mg (es:List PV) (n:Nat):pa n (Fb es)=some (Fb es):=by
 have:Ra (AV.cut n deep) (es.map AV.pv)=some (es.map AV.pv):=by
  refine al ?_
  intro v hv
  obtain⟨e,_,rfl⟩:=List.mem_map.1 hv
  exact Ba
 simp only[pa,this,Option.map_some]
def zu (l:List (Int×Int)) (i:Nat):Int:=match i with
 |0=> -2
 |k+1=>match l[k]? with | some p=>p.2 | none=> -2
abbrev Xy (v:PV) (i:Int):Tr:=(Tr.lf.set 3 (.pv (i64 i))).set 0 (.pv v)
theorem Nx {v:PV} {l:List (Int×Int)} (hv:Th 2 v (Ld l)) (hw:l.length * 16≤140737488355328):Uf [v]=some (.bool (Pa 255 (-2) l)):=by
 have hloop:Md (fun r=>∃ E,(r=(.exit 0,⟨E,[]⟩)∧Pa 255 (-2) l=true)∨(r=(.ret,⟨E,[]⟩)∧E.get 2= .pv (.bool false)∧Pa 255 (-2) l=false))
  (gb (fa (ta (Ca (fun _=>none) 8) Lb) (ga 0 [0,3])) oa ⟨Xy v 0,[]⟩):=by
  refine wa (yb (g:=fa (ta (Ca (fun _=>none) 8) Lb) (ga 0 [0,3]))
   (fun i t=>t=⟨Xy v i,[]⟩∧ -2≤zu l i∧zu l i≤255∧Pa 255 (-2) l=Pa 255 (zu l i) (l.drop i))
   l.length (by unfold oa;omega) _ ⟨rfl,Int.le_refl _,by show (-2:Int)≤255;decide,rfl⟩ ?_ ?_) (fun r h=>h.2)
  ·rintro i t hi ⟨rfl,hlz,hla,hs⟩
   have hl:=hv.lit (i:=i) (by simpa using hi)
   subst hl
   have hd:l.drop i=l[i]::l.drop (i+1):=List.drop_eq_getElem_cons hi
   have hnext:zu l (i+1)=l[i].2:=by simp[zu,hi]
   have a1:=Sj [] hi
   have hprev:0 < i→∃ a b,zu l i=b∧IntKind.i64.wrap ((i:Int) - 1)=((i - 1:Nat):Int)∧ua [] 2 (.pv (.lit 2 (Ld l))) ((i - 1:Nat):Int)=some (.pv (.rp [i64 a,i64 b] 0)):=by
    intro h0
    have hi1:i - 1 < l.length:=by omega
    refine⟨l[i - 1].1,l[i - 1].2,?_,?_,Sj [] hi1⟩
    ·obtain⟨k,rfl⟩:∃ k,i=k+1:=⟨i - 1,by omega⟩
     simp[zu,show k < l.length by omega]
    ·rw[show (i:Int) - 1=((i - 1:Nat):Int) by omega]
     exact Da (by omega)
   have e1:decide ((i:Int) < (l.length:Int))=true:=Ga (by omega)
   have t2:=Ua hi (by unfold maxLen;omega)
   have ln:=Th.len (sz:=2) (v:= .lit 2 (Ld l)) (es:=Ld l) (.inr rfl) []
   have lp:(Ld l).length=l.length:=by simp[Ld]
   rw[lp] at ln
   rw[hd,Pa] at hs
   have l0:∀ a b:PV,ya [] false 1 (.pv (.rp [a,b] 0))=some (.pv a):=fun a b=>rfl
   have l1:∀ a b:PV,ya [] false 1 (.pv (.rp [a,b] 1))=some (.pv b):=fun a b=>rfl
   have p0:∀ a b:PV,place [] 0 (.pv (.rp [a,b] 0))=some (.pv (.rp [a,b] 0)):=fun a b=>rfl
   have p1:∀ a b:PV,place [] 1 (.pv (.rp [a,b] 0))=some (.pv (.rp [a,b] 1)):=fun a b=>rfl
   generalize l[i]=p at *
   generalize hV:Pa 255 p.2 (l.drop (i+1))=V at *
   generalize Ld l=es at *
   generalize hQ:LN _ _ i=Q
   by_cases c1:p.1 < 0
   ·have d1:=Ga c1
    simp -implicitDefEqProofs only[SX,sevalprocAttr,-List.reduceReplicate,Lb,e1,ln,a1,l0,l1,p0,p1,d1,Xy]
    subst hQ
    rw[d1] at hs
    exact⟨_,.inr ⟨rfl,by simp[Tr.aa],by simpa using hs⟩⟩
   have d1:=Ia c1
   by_cases c2:p.1 > p.2
   ·have d2:=Ga c2
    simp -implicitDefEqProofs only[SX,sevalprocAttr,-List.reduceReplicate,Lb,e1,ln,a1,l0,l1,p0,p1,d1,d2,Xy]
    subst hQ
    rw[d2] at hs
    exact⟨_,.inr ⟨rfl,by simp[Tr.aa],by simpa using hs⟩⟩
   have d2:=Ia c2
   by_cases c3:p.2 > 255
   ·have d3:=Ga c3
    simp -implicitDefEqProofs only[SX,sevalprocAttr,-List.reduceReplicate,Lb,e1,ln,a1,l0,l1,p0,p1,d1,d2,d3,Xy]
    subst hQ
    rw[d3] at hs
    exact⟨_,.inr ⟨rfl,by simp[Tr.aa],by simpa using hs⟩⟩
   have d3:=Ia c3
   have hs3:∀ b,decide (p.1 - 1≤zu l i)=b→Pa 255 (-2) l=(!b&&V):=by
    intro b hb
    rw[hs,d1,d2,d3,hb];simp
   by_cases h0:0 < i
   ·obtain⟨a,b,hb,t3,a2⟩:=hprev h0
    have e0:decide ((i:Int) > 0)=true:=Ga (by omega)
    rw[hb] at hla hlz hs3
    have t5:IntKind.i64.wrap (b+1)=b+1:=Da (by omega)
    by_cases c4:p.1≤b+1
    ·have d4:=Ga c4
     have hlow:Pa 255 (-2) l=false:=by
      rw[hs3 true (Ga (by omega))];rfl
     simp -implicitDefEqProofs only[SX,sevalprocAttr,-List.reduceReplicate,Lb,e1,ln,a1,l0,l1,p0,p1,d1,d2,d3,e0,t3,t5,a2,d4,Xy]
     subst hQ
     exact⟨_,.inr ⟨rfl,by simp[Tr.aa],hlow⟩⟩
    ·have d4:=Ia c4
     simp -implicitDefEqProofs only[SX,sevalprocAttr,-List.reduceReplicate,Lb,e1,ln,a1,l0,l1,p0,p1,d1,d2,d3,e0,t2,t3,t5,a2,d4,ga,za,AV.cut,qa,Xy]
     subst hQ
     refine⟨rfl,by omega,by omega,?_⟩
     rw[hnext,hV,hs3 false (Ia (by omega))];rfl
   ·have e0:decide ((i:Int) > 0)=false:=Ia (by omega)
    have hi0:zu l i= -2:=by
     have:i=0:=by omega
     subst this;rfl
    simp -implicitDefEqProofs only[SX,sevalprocAttr,-List.reduceReplicate,Lb,e1,ln,a1,l0,l1,p0,p1,d1,d2,d3,e0,t2,ga,za,AV.cut,qa,Xy]
    subst hQ
    refine⟨rfl,by omega,by omega,?_⟩
    rw[hnext,hV,hs3 false (Ia (by omega))];rfl
  ·rintro t ⟨rfl,hlz,hla,hs⟩
   rw[List.drop_length,Pa] at hs
   have ln:=hv.len []
   rw[show (Ld l).length=l.length by simp[Ld]] at ln
   have e1:decide ((l.length:Int) < (l.length:Int))=false:=Ia (by omega)
   generalize hQ:(fun r:Ex×St=>r.1.stop=true∧_)=Q
   simp -implicitDefEqProofs only[SX,sevalprocAttr,-List.reduceReplicate,Lb,e1,ln,Xy]
   subst hQ
   exact⟨rfl,_,.inl ⟨rfl,hs⟩⟩
 apply Xj
 simp -implicitDefEqProofs only[Uf,SX,sevalprocAttr,-List.reduceReplicate,Bj,qb,ga,za,AV.cut,qa]
 refine wa hloop ?_
 rintro _ ⟨E,⟨rfl,hb⟩ | ⟨rfl,hE,hb⟩⟩
 ·simp -implicitDefEqProofs only[SX,sevalprocAttr,-List.reduceReplicate,hb]
 ·simp -implicitDefEqProofs only[SX,sevalprocAttr,-List.reduceReplicate,hE,hb]
def Pf (f:Nat→Bool):List PV:=(List.range 256).map fun x=> .bool (f x)
theorem On (f:Nat→Bool):(Pf f).length=256:=by simp[Pf]
theorem vN (f:Nat→Bool) {x:Nat} (h:x < 256):(Pf f)[x]? =some (.bool (f x)):=by simp[Pf,h]
theorem DL (f:Nat→Bool) {x:Nat} (h:x < (Pf f).length):(Pf f)[x]= .bool (f x):=by
 simp only[Pf,List.getElem_map,List.getElem_range]
theorem mU (f:Nat→Bool) {x:Nat} (h:x < 256) (b:Bool):(Pf f).set x (.bool b)=Pf fun y=>if y=x then b else f y:=by
 apply List.ext_getElem
 ·rw[List.length_set,On,On]
 ·intro j h1 h2
  rw[List.getElem_set,DL,DL]
  by_cases hj:x=j
  ·subst hj;rw[if_pos rfl,if_pos rfl]
  ·rw[if_neg hj,if_neg (Ne.symm hj)]
theorem yt {f g:Nat→Bool} (h:∀ x,x < 256→f x=g x):Pf f=Pf g:=by
 unfold Pf
 apply List.map_congr_left
 intro x hx
 rw[h x (by simpa using hx)]
theorem tA:List.replicate 256 (PV.bool false)=Pf fun _=>false:=by
 apply List.ext_getElem
 ·rw[List.length_replicate,On]
 ·intro j h1 h2;rw[List.getElem_replicate,DL]
theorem GN (f:Nat→Bool):∀ e∈Pf f,(AV.pv e).one=true:=by
 intro e he
 obtain⟨x,_,rfl⟩:=List.mem_map.1 he
 rfl
def Jv (l:List (Int×Int)) (x:Nat):Bool:=l.any fun p=>decide (p.1≤(x:Int))&&decide ((x:Int)≤p.2)
theorem Wu {l:List (Int×Int)} {x:Nat}:Jv l x=true↔Nj (x:Int) l:=by
 unfold Jv Nj;simp
abbrev MN (v:PV) (i y:Int):Tr:=((((Tr.lf.set 5 (.pv (i64 y))).set 4 (.pv (i64 i))).set 3 (.ptr 1 0)).set 2 (.ptr 0 0)).set 0 (.pv v)
abbrev vB (v:PV) (i:Int):Tr:=(((Tr.lf.set 4 (.pv (i64 i))).set 3 (.ptr 1 0)).set 2 (.ptr 0 0)).set 0 (.pv v)
theorem VE (call:ab) {v:PV} {l:List (Int×Int)} (hv:Th 2 v (Ld l)) {i:Nat} (hi:i < l.length) (hp:0≤l[i].1∧l[i].1≤l[i].2∧l[i].2≤255) (Z:List PV):
 Md (fun r=>∃ E,r=(.exit 2,⟨E,[Fb Z,Fb (Pf (Jv (l.take (i+1))))]⟩)∧E.get 0= .pv v∧E.get 2= .ptr 0 0∧E.get 3= .ptr 1 0∧E.get 4= .pv (i64 i))
  (gb (fa (ta call oe) (ga 2 [0,2,3,4,5])) oa ⟨MN v i l[i].1,[Fb Z,Fb (Pf (Jv (l.take i)))]⟩):=by
 have hl:=hv.lit (i:=i) (by simpa using hi)
 subst hl
 have a1:=fun A=>Sj A hi
 have htk:∀ x,Jv (l.take (i+1)) x=(Jv (l.take i) x||(decide (l[i].1≤(x:Int))&&decide ((x:Int)≤l[i].2))):=by
  intro x
  have:l.take (i+1)=l.take i++[l[i]]:=by simp
  rw[this];simp only[Jv,List.any_append,List.any_cons,List.any_nil,Bool.or_false]
 have l1:∀ (A:List ba) (a b:PV),ya A false 1 (.pv (.rp [a,b] 1))=some (.pv b):=fun A a b=>rfl
 have p1:∀ (A:List ba) (a b:PV),place A 1 (.pv (.rp [a,b] 0))=some (.pv (.rp [a,b] 1)):=fun A a b=>rfl
 generalize l[i]=p at *
 generalize hes:Ld l=es at *
 generalize hf:Jv (l.take i)=f at *
 have hlen:∀ f,(Pf f).length=256:=On
 refine wa (yb (g:=fa (ta call oe) (ga 2 [0,2,3,4,5]))
  (fun k t=>t=⟨MN (.lit 2 es) i (p.1+k),[Fb Z,Fb (Pf fun x=>f x||(decide (p.1≤(x:Int))&&decide ((x:Int) < p.1+k)))]⟩)
  (p.2+1 - p.1).toNat (by unfold oa;omega) _ ?_ ?_ ?_) (fun r h=>h.2)
 ·have:(Pf fun x=>f x||(decide (p.1≤(x:Int))&&decide ((x:Int) < p.1+(0:Nat))))=Pf f:=by
   refine yt fun x hx=> ?_
   have:(decide (p.1≤(x:Int))&&decide ((x:Int) < p.1+(0:Nat)))=false:=by
    rw[Bool.and_eq_false_iff]
    by_cases h:p.1≤(x:Int)
    ·exact .inr (Ia (by omega))
    ·exact .inl (Ia h)
   rw[this,Bool.or_false]
  rw[this,show p.1+((0:Nat):Int)=p.1 by omega]
 ·rintro k t hk rfl
  obtain⟨y,hy⟩:∃ y:Nat,p.1+(k:Int)=y:=⟨(p.1+k).toNat,by omega⟩
  have hy256:y < 256:=by omega
  have e1:decide ((y:Int)≤p.2)=true:=Ga (by omega)
  have hq:Fa (y:Int) 256:=by unfold Fa;omega
  have t1:((y:Int)).toNat=y:=by simp
  have m1:y * 1=y:=by omega
  have z1:0+y=y:=by omega
  have t2:IntKind.i64.wrap ((y:Int)+1)=((y+1:Nat):Int):=Da (by omega)
  rw[hy]
  have hnew:(Pf fun x=>f x||(decide (p.1≤(x:Int))&&decide ((x:Int) < (y:Int)))).set y (.bool true)=Pf fun x=>f x||(decide (p.1≤(x:Int))&&decide ((x:Int) < p.1+(k+1:Nat))):=by
   rw[mU _ hy256]
   refine yt fun x hx=> ?_
   by_cases hxy:x=y
   ·have h1:p.1≤(x:Int):=by omega
    have h2:(x:Int) < p.1+(k+1:Nat):=by omega
    rw[if_pos hxy,Ga h1,Ga h2];simp
   ·have:((x:Int) < (y:Int))=((x:Int) < p.1+(k+1:Nat)):=by apply propext;omega
    rw[if_neg hxy];simp only[this]
  have hl1:=hlen fun x=>f x||(decide (p.1≤(x:Int))&&decide ((x:Int) < (y:Int)))
  generalize hT:(Pf fun x=>f x||(decide (p.1≤(x:Int))&&decide ((x:Int) < (y:Int))))=T at *
  have pl:=jj (A:=[Fb Z,Fb T]) (id:=1) (es:=T) rfl 0 y
  have st:=Nw (A:=[Fb Z,Fb T]) (id:=1) (es:=T) rfl (k:=y) (by omega) (e:= .bool true) rfl rfl
  rw[hnew] at st
  rw[z1] at pl
  have st2:([Fb Z,Fb T]:List ba).set 1 (Fb (Pf fun x=>f x||(decide (p.1≤(x:Int))&&decide ((x:Int) < p.1+(k+1:Nat)))))=[Fb Z,Fb (Pf fun x=>f x||(decide (p.1≤(x:Int))&&decide ((x:Int) < p.1+(k+1:Nat))))]:=rfl
  rw[st2] at st
  have c1:=Mg Z 2
  have c2:=Mg (Pf fun x=>f x||(decide (p.1≤(x:Int))&&decide ((x:Int) < p.1+(k+1:Nat)))) 2
  have hfin:p.1+((k+1:Nat):Int)=((y+1:Nat):Int):=by omega
  generalize hT':(Pf fun x=>f x||(decide (p.1≤(x:Int))&&decide ((x:Int) < p.1+(k+1:Nat))))=T' at *
  have hcl:Ra (pa 2) [Fb Z,Fb T']=some [Fb Z,Fb T']:=by simp[Ra,c1,c2]
  have htk2:([Fb Z,Fb T']:List ba).take 2=[Fb Z,Fb T']:=rfl
  generalize Fb Z=oz at *
  generalize Fb T=ot at *
  generalize hot:Fb T'=ot' at *
  have d0:(0 < 2)=True:=by simp
  have d1:(1 < 2)=True:=by simp
  generalize hQ:LN _ _ k=Q
  simp -implicitDefEqProofs only[SX,sevalprocAttr,-List.reduceReplicate,oe,e1,a1,l1,p1,eq_true hq,t1,m1,pl,st,t2,hcl,htk2,d0,d1,ga,za,AV.cut,qa,MN]
  subst hQ
  show (_:St)=_
  rw[hT',hot,hfin]
 ·rintro t rfl
  have e1:decide (p.1+((p.2+1 - p.1).toNat:Int)≤p.2)=false:=Ia (by omega)
  have hfin:(Pf fun x=>f x||(decide (p.1≤(x:Int))&&decide ((x:Int) < p.1+((p.2+1 - p.1).toNat:Int))))=Pf (Jv (l.take (i+1))):=by
   refine yt fun x hx=> ?_
   have:((x:Int) < p.1+((p.2+1 - p.1).toNat:Int))=((x:Int)≤p.2):=by apply propext;omega
   rw[htk];simp only[this]
  rw[hfin]
  generalize Fb (Pf (Jv (l.take (i+1))))=ot
  generalize Fb Z=oz
  generalize hQ:(fun r:Ex×St=>r.1.stop=true∧_)=Q
  simp -implicitDefEqProofs only[SX,sevalprocAttr,-List.reduceReplicate,oe,e1,a1,l1,p1,MN]
  subst hQ
  exact⟨rfl,_,rfl,by simp[Tr.aa],by simp[Tr.aa],by simp[Tr.aa],by simp[Tr.aa]⟩
theorem Gm {l:List (Int×Int)} {last:Int} (h:Pa 255 last l=true):∀ p∈l,0≤p.1∧p.1≤p.2∧p.2≤255:=by
 induction l generalizing last with
 |nil=>intro p hp;cases hp
 |cons q l ih=>
  simp only[Pa,Bool.and_eq_true,Bool.not_eq_true',Bool.or_eq_false_iff,decide_eq_false_iff_not] at h
  intro p hp
  rcases List.mem_cons.1 hp with rfl | hp
  ·omega
  ·exact ih h.2 p hp
def aj (l:List (Int×Int)) (x:Nat):Bool:=Pa 255 (-2) l&&Jv l x
theorem Uv {v:PV} {l:List (Int×Int)} (hv:Th 2 v (Ld l)) (hw:l.length * 16≤140737488355328):vd [v]=some (.agg (Pf (aj l))):=by
 have hvr:=Nx hv hw
 have hz:([]++[ba.box (List.map AV.pv (List.replicate 256 (PV.bool false)))]++[ba.box (List.map AV.pv (List.replicate 256 (PV.bool false)))]:List ba)=[Fb (Pf fun _=>false),Fb (Pf fun _=>false)]:=by rw[tA];rfl
 have hz1:ba.box (List.map AV.pv (List.replicate 256 (PV.bool false)))=Fb (Pf fun _=>false):=by rw[tA]
 have hone:∀ f,ya [Fb (Pf fun _=>false),Fb (Pf f)] true 256 (.ptr 1 0)=some (.pv (.agg (Pf f))):=fun f=>fm (id:=1) rfl (On f)
 have hst:∀ f,Ma [Fb (Pf fun _=>false),Fb (Pf f)] 256 (.ptr 0 0) (.pv (.agg (Pf f)))=some [Fb (Pf f),Fb (Pf f)]:=fun f=>Ap (id:=0) rfl (On _) (On f) (GN f)
 have hl2:∀ f,ya [Fb (Pf f),Fb (Pf f)] true 256 (.ptr 0 0)=some (.pv (.agg (Pf f))):=fun f=>fm (id:=0) rfl (On f)
 by_cases Aa:Pa 255 (-2) l=true
 ·rw[Aa] at hvr
  have hfin:Pf (aj l)=Pf (Jv l):=yt fun x _=>by rw[aj,Aa,Bool.true_and]
  rw[hfin]
  have hpc:=Gm Aa
  have hloop:Md (fun r=>∃ E,r=(.exit 0,⟨E,[Fb (Pf fun _=>false),Fb (Pf (Jv l))]⟩)∧E.get 2= .ptr 0 0∧E.get 3= .ptr 1 0)
   (gb (fa (ta (Ca (fun _=>none) 8) ke) (ga 2 [0,2,3,4])) oa ⟨vB v 0,[Fb (Pf fun _=>false),Fb (Pf fun _=>false)]⟩):=by
   refine wa (yb (g:=fa (ta (Ca (fun _=>none) 8) ke) (ga 2 [0,2,3,4]))
    (fun i t=>t=⟨vB v i,[Fb (Pf fun _=>false),Fb (Pf (Jv (l.take i)))]⟩)
    l.length (by unfold oa;omega) _ rfl ?_ ?_) (fun r h=>h.2)
   ·rintro i t hi rfl
    have hin:=VE (Ca (fun _=>none) 8) hv hi (hpc _ (List.getElem_mem hi)) (Pf fun _=>false)
    have a1:=fun A=>Sj A hi
    have ln:=hv.len
    have hl:=hv.lit (i:=i) (by simpa using hi)
    subst hl
    have lp:(Ld l).length=l.length:=by simp[Ld]
    simp only[lp] at ln
    have l0:∀ (A:List ba) (a b:PV),ya A false 1 (.pv (.rp [a,b] 0))=some (.pv a):=fun A a b=>rfl
    have p0:∀ (A:List ba) (a b:PV),place A 0 (.pv (.rp [a,b] 0))=some (.pv (.rp [a,b] 0)):=fun A a b=>rfl
    have e1:decide ((i:Int) < (l.length:Int))=true:=Ga (by omega)
    have t2:=Ua hi (by unfold maxLen;omega)
    have hcl:∀ f g,Ra (pa 2) [Fb (Pf f),Fb (Pf g)]=some [Fb (Pf f),Fb (Pf g)]:=fun f g=>by
     have c1:=Mg (Pf f) 2
     have c2:=Mg (Pf g) 2
     simp only[Ra,c1,c2,Option.bind_some,Option.map_some]
    have hcl1:=hcl (fun _=>false) (Jv (l.take i))
    have hcl2:=hcl (fun _=>false) (Jv (l.take (i+1)))
    have htk2:∀ a b:ba,([a,b]:List ba).take 2=[a,b]:=fun a b=>rfl
    generalize l[i]=p at *
    generalize hes:Ld l=es at *
    have hI:⟨vB (.lit 2 es) (i+1:Nat),[Fb (Pf fun _=>false),Fb (Pf (Jv (l.take (i+1))))]⟩=(⟨vB (.lit 2 es) (i+1:Nat),[Fb (Pf fun _=>false),Fb (Pf (Jv (l.take (i+1))))]⟩:St):=rfl
    have hLN:∀ s:St,s=⟨vB (.lit 2 es) (i+1:Nat),[Fb (Pf fun _=>false),Fb (Pf (Jv (l.take (i+1))))]⟩→LN (fun i t=>t=⟨vB (.lit 2 es) i,[Fb (Pf fun _=>false),Fb (Pf (Jv (l.take i)))]⟩) (fun r=>∃ E,r=(.exit 0,⟨E,[Fb (Pf fun _=>false),Fb (Pf (Jv l))]⟩)∧E.get 2= .ptr 0 0∧E.get 3= .ptr 1 0) i (.norm,s):=fun s h=>h
    generalize Fb (Pf fun _=>false)=oz at *
    generalize Fb (Pf (Jv (l.take i)))=ot at *
    generalize Fb (Pf (Jv (l.take (i+1))))=ot' at *
    have d0:(0 < 2)=True:=by simp
    have d1:(1 < 2)=True:=by simp
    generalize hQ:LN _ _ i=Q at hLN ⊢
    simp -implicitDefEqProofs only[SX,sevalprocAttr,-List.reduceReplicate,ke,qb,e1,ln,a1,l0,p0,hcl1,htk2,d0,d1,ga,za,AV.cut,qa,vB]
    refine wa hin ?_
    rintro r ⟨E,rfl,g0,g2,g3,g4⟩
    simp -implicitDefEqProofs only[SX,sevalprocAttr,-List.reduceReplicate,g0,g2,g3,g4,t2,hcl2,htk2,d0,d1,ga,za,AV.cut,qa]
    exact hLN _ rfl
   ·rintro t rfl
    rw[List.take_length]
    have ln:=hv.len
    simp only[show (Ld l).length=l.length by simp[Ld]] at ln
    have e1:decide ((l.length:Int) < (l.length:Int))=false:=Ia (by omega)
    generalize Fb (Pf (Jv l))=ot
    generalize Fb (Pf fun _=>false)=oz
    generalize hQ:(fun r:Ex×St=>r.1.stop=true∧_)=Q
    simp -implicitDefEqProofs only[SX,sevalprocAttr,-List.reduceReplicate,ke,e1,ln,vB]
    subst hQ
    exact⟨rfl,_,rfl,by simp[Tr.aa],by simp[Tr.aa]⟩
  have hcl:Ra (pa 2) [Fb (Pf fun _=>false),Fb (Pf fun _=>false)]=some [Fb (Pf fun _=>false),Fb (Pf fun _=>false)]:=by
   have c1:=Mg (Pf fun _=>false) 2
   simp only[Ra,c1,Option.bind_some,Option.map_some]
  have htk2:∀ a b:ba,([a,b]:List ba).take 2=[a,b]:=fun a b=>rfl
  have hst1:=hst (Jv l)
  have hone1:=hone (Jv l)
  have hl21:=hl2 (Jv l)
  have d0:(0 < 2)=True:=by simp
  have d1:(1 < 2)=True:=by simp
  generalize hzs:List.replicate 256 (PV.bool false)=zs at *
  generalize Fb (Pf fun _=>false)=oz at *
  generalize Fb (Pf (Jv l))=ot at *
  generalize Pf (Jv l)=T at *
  apply Xj
  simp -implicitDefEqProofs only[vd,SX,sevalprocAttr,-List.reduceReplicate,Rg,hzs,hz1,qb,hvr,hcl,htk2,d0,d1,ga,za,AV.cut,qa]
  refine wa hloop ?_
  rintro r ⟨E,rfl,g2,g3⟩
  simp -implicitDefEqProofs only[SX,sevalprocAttr,-List.reduceReplicate,g2,g3,hone1,hst1,hl21]
 ·have hok':Pa 255 (-2) l=false:=by simpa using Aa
  rw[hok'] at hvr
  have hfin:Pf (aj l)=Pf fun _=>false:=yt fun x _=>by rw[aj,hok',Bool.false_and]
  rw[hfin]
  have hst1:=hst fun _=>false
  have hone1:=hone fun _=>false
  have hl21:=hl2 fun _=>false
  generalize hzs:List.replicate 256 (PV.bool false)=zs at *
  generalize Fb (Pf fun _=>false)=oz at *
  generalize Pf (fun _=>false)=T at *
  apply Xj
  simp -implicitDefEqProofs only[vd,SX,sevalprocAttr,-List.reduceReplicate,Rg,hzs,hz1,hvr,hone1,hst1,hl21]
end Go.AM.B1
namespace Go.AM.B1
open Go.AM Go.AM.So
def Up (f:Nat→Bool) (n:Nat):Nat:=(List.range n).countP f
theorem LO (f:Nat→Bool):Up f 0=0:=rfl
theorem Ht (f:Nat→Bool) (n:Nat):Up f (n+1)=Up f n+if f n then 1 else 0:=by
 unfold Up
 rw[List.range_succ,List.countP_append]
 simp[List.countP_cons]
theorem UU (f:Nat→Bool) (n:Nat):Up f n≤n:=by
 have:=List.countP_le_length (p:=f) (l:=List.range n)
 simpa[Up] using this
theorem yV {f g h:Nat→Bool} (n:Nat) (hf:∀ x,x < n→f x=(g x||h x)) (hd:∀ x,x < n→g x=true→h x=true→False):Up f n=Up g n+Up h n:=by
 induction n with
 |zero=>rfl
 |succ n ih=>
  rw[Ht,Ht,Ht,ih (fun x hx=>hf x (by omega)) (fun x hx=>hd x (by omega)),hf n (by omega)]
  have:=hd n (by omega)
  cases h1:g n <;> cases h2:h n <;> simp_all <;> omega
theorem xU (a b:Nat) (n:Nat):Up (fun x=>decide (a≤x)&&decide (x < b)) n=min n b - min a (min n b):=by
 induction n with
 |zero=>simp[LO]
 |succ n ih=>
  rw[Ht,ih]
  by_cases h:a≤n∧n < b
  ·rw[if_pos (by simp[h])];omega
  ·rw[if_neg (by simpa using fun h1=>Nat.le_of_not_lt fun h2=>h ⟨h1,h2⟩)];omega
theorem HG:∀ (l:List (Int×Int)) (last n:Int),Pa 255 last l=true→Ic n l=n+Up (Jv l) 256
 | [],_,n,_=>by
   have:Up (Jv []) 256=0:=by
    unfold Up;rw[List.countP_eq_zero];intro x _;simp[Jv]
   rw[this];simp[Ic]
 |p::l,last,n,h=>by
  have hp:=Gm h p (by simp)
  have h2:=h
  simp only[Pa,Bool.and_eq_true] at h2
  rw[Ic,HG l p.2 _ h2.2]
  have hor:Up (Jv (p::l)) 256=Up (fun x=>decide (p.1.toNat≤x)&&decide (x < (p.2+1).toNat)) 256+Up (Jv l) 256:=by
   apply yV
   ·intro x _
    simp only[Jv,List.any_cons]
    congr 1
    congr 1 <;> (rw[decide_eq_decide];omega)
   ·intro x _ h3 h4
    have:=Qn h2.2 (Wu.1 h4)
    simp at h3;omega
  have hiv:=xU p.1.toNat (p.2+1).toNat 256
  rw[hor,hiv];omega
def ZM (l:List (Int×Int)):Nat:=Up (aj l) 256
theorem UR {l:List (Int×Int)} (h:Pa 255 (-2) l=true):(ZM l:Int)=Ic 0 l:=by
 rw[HG l _ _ h]
 have:aj l=Jv l:=by funext x;rw[aj,h,Bool.true_and]
 rw[ZM,this];omega
abbrev nJ (x n:Int):Tr:=((Tr.lf.set 5 (.pv (i64 x))).set 4 (.pv (i64 n))).set 3 (.ptr 0 0)
theorem IH {v:PV} {l:List (Int×Int)} (hv:Th 2 v (Ld l)) (hw:l.length * 16≤140737488355328):ri [v]=some (i64 (ZM l)):=by
 have hm:=Uv hv hw
 unfold ZM
 generalize hf:aj l=f at *
 have hloop:Md (fun r=>∃ E H,r=(.exit 0,⟨E,H⟩)∧E.get 4= .pv (i64 (Up f 256)))
  (gb (fa (ta (Ca (fun _=>none) 8) fe) (ga 1 [3,4,5])) oa ⟨nJ 0 0,[Fb (Pf f)]⟩):=by
  refine wa (yb (g:=fa (ta (Ca (fun _=>none) 8) fe) (ga 1 [3,4,5]))
   (fun x t=>t=⟨nJ x (Up f x),[Fb (Pf f)]⟩)
   256 (by unfold oa;omega) _ rfl ?_ ?_) (fun r h=>h.2)
  ·rintro x t hx rfl
   have e1:decide ((x:Int)≤255)=true:=Ga (by omega)
   have hq:Fa (x:Int) 256:=by unfold Fa;omega
   have t1:((x:Int)).toNat=x:=by simp
   have m1:x * 1=x:=by omega
   have z1:0+x=x:=by omega
   have t2:IntKind.i64.wrap ((x:Int)+1)=((x+1:Nat):Int):=Da (by omega)
   have hle:=UU f x
   have t3:IntKind.i64.wrap ((Up f x:Int)+1)=(Up f x:Int)+1:=Da (by omega)
   have pl:=jj (A:=[Fb (Pf f)]) (id:=0) (es:=Pf f) rfl 0 x
   rw[z1] at pl
   have ld:=KD (A:=[Fb (Pf f)]) (id:=0) (es:=Pf f) rfl (vN f hx)
   have hcl:Ra (pa 1) [Fb (Pf f)]=some [Fb (Pf f)]:=by simp only[Ra,Mg,Option.bind_some,Option.map_some]
   have htk:([Fb (Pf f)]:List ba).take 1=[Fb (Pf f)]:=rfl
   have d0:(0 < 1)=True:=by simp
   have hs:=Ht f x
   generalize hO:Fb (Pf f)=O at *
   generalize hQ:LN _ _ x=Q
   cases hfx:f x with
   |true=>
    rw[hfx] at hs ld
    simp -implicitDefEqProofs only[SX,sevalprocAttr,-List.reduceReplicate,fe,e1,eq_true hq,t1,m1,pl,ld,t2,t3,hcl,htk,d0,ga,za,AV.cut,qa,nJ]
    subst hQ
    show (_:St)=_
    rw[hs];rfl
   |false=>
    rw[hfx] at hs ld
    simp -implicitDefEqProofs only[SX,sevalprocAttr,-List.reduceReplicate,fe,e1,eq_true hq,t1,m1,pl,ld,t2,hcl,htk,d0,ga,za,AV.cut,qa,nJ]
    subst hQ
    show (_:St)=_
    rw[hs];rfl
  ·rintro t rfl
   have e1:decide (((256:Nat):Int)≤255)=false:=Ia (by omega)
   generalize Up f 256=c
   generalize hQ:(fun r:Ex×St=>r.1.stop=true∧_)=Q
   simp -implicitDefEqProofs only[SX,sevalprocAttr,-List.reduceReplicate,fe,e1,nJ]
   subst hQ
   exact⟨rfl,_,_,rfl,by simp[Tr.aa]⟩
 have hz1:ba.box (List.map AV.pv (List.replicate 256 (PV.bool false)))=Fb (Pf fun _=>false):=by rw[tA]
 have st:Ma [Fb (Pf fun _=>false)] 256 (.ptr 0 0) (.pv (.agg (Pf f)))=some [Fb (Pf f)]:=Ap (id:=0) rfl (On _) (On f) (GN f)
 have hcl:Ra (pa 1) [Fb (Pf f)]=some [Fb (Pf f)]:=by simp only[Ra,Mg,Option.bind_some,Option.map_some]
 have htk:([Fb (Pf f)]:List ba).take 1=[Fb (Pf f)]:=rfl
 have d0:(0 < 1)=True:=by simp
 generalize Up f 256=c at *
 generalize hzs:List.replicate 256 (PV.bool false)=zs at *
 generalize Fb (Pf fun _=>false)=oz at *
 generalize Fb (Pf f)=ot at *
 generalize Pf f=T at *
 apply Xj
 simp -implicitDefEqProofs only[ri,SX,sevalprocAttr,-List.reduceReplicate,lk,hzs,hz1,qb,hm,st,hcl,htk,d0,ga,za,AV.cut,qa]
 refine wa hloop ?_
 rintro r ⟨E,H,rfl,hE⟩
 simp -implicitDefEqProofs only[SX,sevalprocAttr,-List.reduceReplicate,hE]
theorem DB {v:PV} {l:List (Int×Int)} (hv:Th 2 v (Ld l)) (hw:l.length * 16≤140737488355328) (x:Int):
 Be [v,i64 x]=some (.bool (decide (0≤x)&&decide (x≤255)&&aj l x.toNat)):=by
 have hm:=Uv hv hw
 generalize hf:aj l=f at *
 by_cases h0:0≤x
 ·have e0:decide (x≥0)=true:=Ga (by omega)
  rw[show decide (0≤x)=true from Ga h0]
  by_cases h1:x≤255
  ·have e1:decide (x≤255)=true:=Ga h1
   have hq:Fa x 256:=by unfold Fa;omega
   have m1:x.toNat * 1=x.toNat:=by omega
   have hg:=vN f (x:=x.toNat) (by omega)
   have hp:jm false 1 (Pf f) x.toNat=some (.bool (f x.toNat)):=by unfold jm;exact hg
   rw[e1]
   generalize f x.toNat=b at *
   generalize Pf f=T at *
   simp -implicitDefEqProofs only[Be,SX,sevalprocAttr,-List.reduceReplicate,Wg,e0,e1,hm,eq_true hq,m1,hp,Bool.true_and]
  ·have e1:decide (x≤255)=false:=Ia h1
   simp -implicitDefEqProofs only[Be,SX,sevalprocAttr,-List.reduceReplicate,Wg,e0,e1,Bool.true_and,Bool.false_and]
 ·have e0:decide (x≥0)=false:=Ia (by omega)
  rw[show decide (0≤x)=false from Ia h0]
  simp -implicitDefEqProofs only[Be,SX,sevalprocAttr,-List.reduceReplicate,Wg,e0,Bool.false_and]
abbrev cJ (row:List PV) (i n:Int):Tr:=((Tr.lf.set 4 (.pv (i64 i))).set 3 (.pv (i64 n))).set 1 (.pv (.rp row 0))
theorem Gl {e:PV} {s:Yb} {P:PV} {ps:List PV} (h:Me e s P ps) (Aa:∀ l∈s.parts,Bd l):Zc [e]=some (i64 (sh 1 s.parts)):=by
 obtain⟨rfl,hP⟩:=h
 have hb:=Xl s.parts 1 Aa (by omega) (by omega)
 have hsz:=hP.sz
 have ln:=hP.Sb
 have q0:∀ H (x y:PV),place H 0 (.pv (.rp [x,y] 0))=some (.pv (.rp [x,y] 0)):=fun H x y=>rfl
 have r0:∀ H (x y:PV),ya H false 1 (.pv (.rp [x,y] 0))=some (.pv x):=fun H x y=>rfl
 have hloop:Md (fun r=>∃ E H,r=(.exit 0,⟨E,H⟩)∧E.get 3= .pv (i64 (sh 1 s.parts)))
  (gb (fa (ta (Ca (fun _=>none) 8) Td) (ga 0 [1,3,4])) oa ⟨cJ [P,i64 s.first] 0 1,[]⟩):=by
  refine wa (yb (g:=fa (ta (Ca (fun _=>none) 8) Td) (ga 0 [1,3,4]))
   (fun i t=>∃ n,t=⟨cJ [P,i64 s.first] i n,[]⟩∧1≤n∧n≤1073741825∧sh 1 s.parts=sh n (s.parts.drop i))
   s.parts.length (by unfold oa;unfold maxLen at hsz;omega) _ ⟨1,rfl,by omega,by omega,rfl⟩ ?_ ?_) (fun r h=>h.2)
  ·rintro i t hi ⟨n,rfl,h1,h2,hs⟩
   obtain⟨v,hv,hpt,a1⟩:=hP.Uc hi []
   have hd:s.parts.drop i=s.parts[i]::s.parts.drop (i+1):=List.drop_eq_getElem_cons hi
   have hpo:=Aa s.parts[i] (List.getElem_mem hi)
   have hss:=IH hpt.is hpt.sz
   rw[UR hpo.2] at hss
   have hsb:=Fh hpo
   rw[hd,sh] at hs
   generalize s.parts[i]=l at *
   have hm:=Yw h1 h2 hsb.1 hsb.2
   have e1:decide ((i:Int) < (s.parts.length:Int))=true:=Ga (by omega)
   have t2:=Ua hi hsz
   have t3:IntKind.i64.wrap (n * Ic 0 l)=n * Ic 0 l:=Da (by omega)
   have a2:∀ H (v:PV),ya H false 1 (.pv (.rp [v] 0))=some (.pv v):=fun H v=>rfl
   generalize hQ:LN _ _ i=Q
   by_cases hg:n * Ic 0 l > 1073741824
   ·have d1:=Ga hg
    simp -implicitDefEqProofs only[SX,sevalprocAttr,-List.reduceReplicate,Td,e1,ln,q0,r0,t2,t3,a1,a2,hss,d1,ga,za,AV.cut,qa,cJ]
    subst hQ
    refine⟨1073741825,rfl,by omega,by omega,?_⟩
    rw[hs];congr 1;split <;> omega
   ·have d1:=Ia hg
    simp -implicitDefEqProofs only[SX,sevalprocAttr,-List.reduceReplicate,Td,e1,ln,q0,r0,t2,t3,a1,a2,hss,d1,ga,za,AV.cut,qa,cJ]
    subst hQ
    refine⟨n * Ic 0 l,rfl,by omega,by omega,?_⟩
    rw[hs];congr 1;split <;> omega
  ·rintro t ⟨n,rfl,h1,h2,hs⟩
   rw[List.drop_length,sh] at hs
   have e1:decide ((s.parts.length:Int) < (s.parts.length:Int))=false:=Ia (by omega)
   generalize hQ:(fun r:Ex×St=>r.1.stop=true∧_)=Q
   simp -implicitDefEqProofs only[SX,sevalprocAttr,-List.reduceReplicate,Td,e1,ln,q0,r0,cJ]
   subst hQ
   exact⟨rfl,_,_,rfl,by simp[Tr.aa,hs]⟩
 have hP1:(AV.pv P).one=true:=by rcases hP.is with⟨h,_⟩ | h <;> rw[h] <;> rfl
 generalize sh 1 s.parts=n at *
 apply Xj
 simp -implicitDefEqProofs only[Zc,SX,sevalprocAttr,-List.reduceReplicate,Fj,hP1,qb,ga,za,AV.cut,qa]
 refine wa hloop ?_
 rintro r ⟨E,H,rfl,hE⟩
 simp -implicitDefEqProofs only[SX,sevalprocAttr,-List.reduceReplicate,hE]
end Go.AM.B1
namespace Go.AM.B1
open Go.AM Go.AM.So
theorem xc (H:List ba) (x y:PV):place H 0 (.pv (.rp [x,y] 0))=some (.pv (.rp [x,y] 0)):=rfl
theorem Wh (H:List ba) (x y:PV):place H 1 (.pv (.rp [x,y] 0))=some (.pv (.rp [x,y] 1)):=rfl
theorem Qc (H:List ba) (x y:PV):ya H false 1 (.pv (.rp [x,y] 0))=some (.pv x):=rfl
theorem Oh (H:List ba) (x y:PV):ya H false 1 (.pv (.rp [x,y] 1))=some (.pv y):=rfl
theorem Oe (H:List ba) (x y:PV):ya H true 2 (.pv (.rp [x,y] 0))=some (.pv (.agg [x,y])):=rfl
theorem Na (H:List ba) (x:PV):ya H false 1 (.pv (.rp [x] 0))=some (.pv x):=rfl
theorem Tb (H:List ba) (x:PV):place H 0 (.pv (.rp [x] 0))=some (.pv (.rp [x] 0)):=rfl
theorem Mf (H:List ba) (x:PV):ya H true 1 (.pv (.rp [x] 0))=some (.pv (.agg [x])):=rfl
abbrev hG (row:List PV) (i:Int):Tr:=(Tr.lf.set 3 (.pv (i64 i))).set 1 (.pv (.rp row 0))
theorem bq {e:PV} {s:Yb} {P:PV} {ps:List PV} (h:Me e s P ps):∃ b,Nb [e]=some (.bool b)∧(b=true↔xe s):=by
 have hh:=h
 obtain⟨rfl,hP⟩:=h
 have hsz:=hP.sz
 have ln:=hP.Sb
 have hP1:(AV.pv P).one=true:=by rcases hP.is with⟨h,_⟩ | h <;> rw[h] <;> rfl
 by_cases c1:(s.parts.length:Int) < 1
 ·have d1:=Ga c1
  refine⟨false,?_,by simp;intro h;have:=h.lo;omega⟩
  simp -implicitDefEqProofs only[Nb,SX,sevalprocAttr,Cb,hP1,xc,Wh,Qc,Oh,ln,d1]
 have d1:=Ia c1
 by_cases c2:(s.parts.length:Int) > 8
 ·have d2:=Ga c2
  refine⟨false,?_,by simp;intro h;have:=h.hi;omega⟩
  simp -implicitDefEqProofs only[Nb,SX,sevalprocAttr,Cb,hP1,xc,Wh,Qc,Oh,ln,d1,d2]
 have d2:=Ia c2
 by_cases c3:s.first < 0
 ·have d3:=Ga c3
  refine⟨false,?_,by simp;intro h;have:=h.f0;omega⟩
  simp -implicitDefEqProofs only[Nb,SX,sevalprocAttr,Cb,hP1,xc,Wh,Qc,Oh,ln,d1,d2,d3]
 have d3:=Ia c3
 by_cases c4:s.first > 1073741823
 ·have d4:=Ga c4
  refine⟨false,?_,by simp;intro h;have:=h.f1;omega⟩
  simp -implicitDefEqProofs only[Nb,SX,sevalprocAttr,Cb,hP1,xc,Wh,Qc,Oh,ln,d1,d2,d3,d4]
 have d4:=Ia c4
 have hloop:Md (fun r=>∃ E,(r=(.exit 0,⟨E,[]⟩)∧E.get 1= .pv (.rp [P,i64 s.first] 0)∧∀ l∈s.parts,Bd l)∨(r=(.ret,⟨E,[]⟩)∧E.get 2= .pv (.bool false)∧¬∀ l∈s.parts,Bd l))
  (gb (fa (ta (Ca (fun _=>none) 8) fc) (ga 0 [1,3])) oa ⟨hG [P,i64 s.first] 0,[]⟩):=by
  refine wa (yb (g:=fa (ta (Ca (fun _=>none) 8) fc) (ga 0 [1,3]))
   (fun i t=>t=⟨hG [P,i64 s.first] i,[]⟩∧∀ l∈s.parts.take i,Bd l)
   s.parts.length (by unfold oa;unfold maxLen at hsz;omega) _ ⟨rfl,by simp⟩ ?_ ?_) (fun r h=>h.2)
  ·rintro i t hi ⟨rfl,hs⟩
   obtain⟨v,hv,hpt,a1⟩:=hP.Uc hi []
   have hmem:=List.getElem_mem hi
   have hnext:Bd s.parts[i]→∀ l∈s.parts.take (i+1),Bd l:=by
    intro h l hl
    have:s.parts.take (i+1)=s.parts.take i++[s.parts[i]]:=by simp
    rw[this] at hl
    rcases List.mem_append.1 hl with h1 | h1
    ·exact hs l h1
    ·simp at h1;subst h1;exact h
   have hvl:=Nx hpt.is hpt.sz
   have lv:=hpt.is.len
   simp only[Ld,List.length_map] at lv
   generalize s.parts[i]=l at *
   have e1:decide ((i:Int) < (s.parts.length:Int))=true:=Ga (by omega)
   have t2:=Ua hi hsz
   generalize hQ:LN _ _ i=Q
   by_cases h0:l=[]
   ·have e0:((l.length:Int)==0)=true:=by simp[h0]
    simp -implicitDefEqProofs only[SX,sevalprocAttr,fc,e1,ln,xc,Qc,Na,a1,lv,e0,hG]
    subst hQ
    exact⟨_,.inr ⟨rfl,by simp[Tr.aa],fun h=>(h _ hmem).1 h0⟩⟩
   ·have e0:((l.length:Int)==0)=false:=by
     have:l.length≠0:=fun e=>h0 (List.eq_nil_of_length_eq_zero e)
     exact uh (by omega)
    cases hb:Pa 255 (-2) l with
    |true=>
     rw[hb] at hvl
     simp -implicitDefEqProofs only[SX,sevalprocAttr,fc,e1,ln,xc,Qc,Na,a1,lv,e0,hvl,t2,ga,za,AV.cut,qa,hG]
     subst hQ
     exact⟨rfl,hnext ⟨h0,hb⟩⟩
    |false=>
     rw[hb] at hvl
     simp -implicitDefEqProofs only[SX,sevalprocAttr,fc,e1,ln,xc,Qc,Na,a1,lv,e0,hvl,hG]
     subst hQ
     exact⟨_,.inr ⟨rfl,by simp[Tr.aa],fun h=>by have:=(h _ hmem).2;rw[hb] at this;cases this⟩⟩
  ·rintro t ⟨rfl,hs⟩
   rw[List.take_length] at hs
   have e1:decide ((s.parts.length:Int) < (s.parts.length:Int))=false:=Ia (by omega)
   generalize hQ:(fun r:Ex×St=>r.1.stop=true∧_)=Q
   simp -implicitDefEqProofs only[SX,sevalprocAttr,fc,e1,ln,xc,Qc,hG]
   subst hQ
   exact⟨rfl,_,.inl ⟨rfl,by simp[Tr.aa],hs⟩⟩
 have key:Md (fun r=>∃ b,r=(.pv (.bool b),([]:List ba))∧(b=true↔xe s)) (cj (Ca (fun _=>none) 8) Cb [.pv (.agg [P,i64 s.first])] []):=by
  generalize hQQ:(fun r:AV×List ba=>_)=QQ
  simp -implicitDefEqProofs only[SX,sevalprocAttr,Cb,hP1,xc,Wh,Qc,Oh,ln,d1,d2,d3,d4,qb,ga,za,AV.cut,qa]
  refine wa hloop ?_
  rintro _ ⟨E,⟨rfl,hE,hb⟩ | ⟨rfl,hE,hb⟩⟩
  ·have hct:=Gl hh hb
   have hbd:=Xl s.parts 1 hb (by omega) (by omega)
   have hif:(decide (s.first+sh 1 s.parts - 1≤1073741823)=true)↔xe s:=by
    rw[decide_eq_true_iff]
    constructor
    ·intro h;exact⟨by omega,by omega,by omega,by omega,hb,h⟩
    ·intro h;exact h.last
   generalize sh 1 s.parts=n at *
   have t3:IntKind.i64.wrap (s.first+n)=s.first+n:=Da (by omega)
   have t4:IntKind.i64.wrap (s.first+n - 1)=s.first+n - 1:=Da (by omega)
   simp -implicitDefEqProofs only[SX,sevalprocAttr,hE,xc,Wh,Qc,Oh,Oe,hct,t3,t4]
   subst hQQ
   exact⟨_,rfl,hif⟩
  ·simp -implicitDefEqProofs only[SX,sevalprocAttr,hE]
   subst hQQ
   exact⟨false,rfl,by simp;exact fun h=>hb h.parts⟩
 obtain⟨r,h1,b,rfl,hb⟩:=Fc key
 refine⟨b,?_,hb⟩
 generalize hk:cj (Ca (fun _=>none) 8) Cb [.pv (.agg [P,i64 s.first])] []=k at h1
 subst h1
 have:Nb [.agg [P,i64 s.first]]=(cj (Ca (fun _=>none) 8) Cb [.pv (.agg [P,i64 s.first])] []).bind fun r=>ic r.2 deep r.1:=rfl
 rw[this,hk];rfl
theorem tw {e:PV} {s:Yb} {P:PV} {ps:List PV} (h:Me e s P ps) (Aa:xe s):lg [e]=some (i64 (sh 1 s.parts)):=by
 obtain⟨b,hb,hbb⟩:=bq h
 have hc:=Gl h Aa.parts
 have:=hbb.2 Aa
 subst this
 obtain⟨rfl,hP⟩:=h
 have hP1:(AV.pv P).one=true:=by rcases hP.is with⟨h,_⟩ | h <;> rw[h] <;> rfl
 simp -implicitDefEqProofs only[lg,SX,sevalprocAttr,Dj,hP1,Oe,hb,hc]
end Go.AM.B1
namespace Go.AM.B1
open Go.AM Go.AM.So
theorem xO {p q:Yb} (hp:xe p) (hq:xe q):wm p q↔¬(q.first≤ph p∧p.first≤ph q):=by
 have h1:=hp.UH
 have h2:=hq.UH
 unfold wm
 constructor
 ·intro h hn
  by_cases hle:p.first≤q.first
  ·exact h q.first ⟨⟨hle,hn.1⟩,⟨Int.le_refl _,h2⟩⟩
  ·exact h p.first ⟨⟨Int.le_refl _,h1⟩,⟨by omega,hn.2⟩⟩
 ·intro h x hx
  exact h ⟨by omega,by omega⟩
theorem br {p:Yb} (hp:xe p):1≤sh 1 p.parts∧sh 1 p.parts≤1073741825:=Xl p.parts 1 hp.parts (by omega) (by omega)
abbrev JG (S:PV) (i j:Int):Tr:=((Tr.lf.set 5 (.pv (i64 j))).set 1 (.pv (i64 i))).set 0 (.pv S)
theorem DH {S:PV} {ss:List Yb} {es:List PV} (hS:Xa S ss es) {i:Nat} (hi:i < ss.length) (Aa:∀ j,j≤i→(h:j < ss.length)→xe ss[j]):
 ∃ b,Bg [S,i64 i]=some (.bool b)∧(b=false↔∀ j,j < i→(h:j < ss.length)→wm ss[j] ss[i]):=by
 have hsz:=hS.sz
 obtain⟨P,ps,hP,a0⟩:=hS.Uc hi
 have okp:=Aa i (Nat.le_refl _) hi
 have hcp:=Gl hP okp.parts
 have hbp:=br okp
 have hap:=fun j (hj:j < i) (h:j < ss.length)=>xO (Aa j (by omega) h) okp
 generalize ss[i]=p at *
 have hloop:Md (fun r=>∃ E,(r=(.exit 0,⟨E,[]⟩)∧∀ j,j < i→(h:j < ss.length)→wm ss[j] p)∨(r=(.ret,⟨E,[]⟩)∧E.get 4= .pv (.bool true)∧∃ j,j < i∧∃ h:j < ss.length,¬wm ss[j] p))
  (gb (fa (ta (Ca (fun _=>none) 8) ud) (ga 0 [0,1,5])) oa ⟨JG S i 0,[]⟩):=by
  refine wa (yb (g:=fa (ta (Ca (fun _=>none) 8) ud) (ga 0 [0,1,5]))
   (fun j t=>t=⟨JG S i j,[]⟩∧∀ j',j' < j→(h:j' < ss.length)→wm ss[j'] p)
   i (by unfold oa;unfold maxLen at hsz;omega) _ ⟨rfl,by intro j h;omega⟩ ?_ ?_) (fun r h=>h.2)
  ·rintro j t hj ⟨rfl,hs⟩
   have hj2:j < ss.length:=by omega
   obtain⟨Q,qs,hQ,b0⟩:=hS.Uc hj2
   have okq:=Aa j (by omega) hj2
   have hcq:=Gl hQ okq.parts
   have hbq:=br okq
   have haq:=hap j hj hj2
   have hnext:wm ss[j] p→∀ j',j' < j+1→(h:j' < ss.length)→wm ss[j'] p:=by
    intro h j' h1 h2
    rcases Nat.lt_or_ge j' j with h3 | h3
    ·exact hs j' h3 h2
    ·have:j'=j:=by omega
     subst this;exact h
   have hex:¬wm ss[j] p→∃ j,j < i∧∃ h:j < ss.length,¬wm ss[j] p:=fun h=>⟨j,hj,hj2,h⟩
   have hqf0:=okq.f0
   have hqf1:=okq.f1
   have hpf0:=okp.f0
   have hpf1:=okp.f1
   unfold ph at haq
   generalize hq:ss[j]=q at *
   generalize sh 1 p.parts=np at *
   generalize sh 1 q.parts=nq at *
   have e1:decide ((j:Int) < (i:Int))=true:=Ga (by omega)
   have t2:=Ua hj (show i≤maxLen by omega)
   have t3:IntKind.i64.wrap (q.first+nq)=q.first+nq:=Da (by omega)
   have t4:IntKind.i64.wrap (q.first+nq - 1)=q.first+nq - 1:=Da (by omega)
   have t5:IntKind.i64.wrap (p.first+np)=p.first+np:=Da (by omega)
   have t6:IntKind.i64.wrap (p.first+np - 1)=p.first+np - 1:=Da (by omega)
   generalize hQQ:LN _ _ j=QQ
   by_cases c1:p.first≤q.first+nq - 1
   ·have d1:=Ga c1
    by_cases c2:q.first≤p.first+np - 1
    ·have d2:=Ga c2
     simp -implicitDefEqProofs only[SX,sevalprocAttr,ud,e1,a0,b0,Wh,Oh,Oe,hcp,hcq,t3,t4,t5,t6,d1,d2,JG]
     subst hQQ
     exact⟨_,.inr ⟨rfl,by simp[Tr.aa],hex (fun h=>(haq.1 h) ⟨c1,c2⟩)⟩⟩
    ·have d2:=Ia c2
     simp -implicitDefEqProofs only[SX,sevalprocAttr,ud,e1,a0,b0,Wh,Oh,Oe,hcp,hcq,t2,t3,t4,t5,t6,d1,d2,ga,za,AV.cut,qa,JG]
     subst hQQ
     exact⟨rfl,hnext (haq.2 fun h=>c2 h.2)⟩
   ·have d1:=Ia c1
    simp -implicitDefEqProofs only[SX,sevalprocAttr,ud,e1,a0,b0,Wh,Oh,Oe,hcp,hcq,t2,t3,t4,d1,ga,za,AV.cut,qa,JG]
    subst hQQ
    exact⟨rfl,hnext (haq.2 fun h=>c1 h.1)⟩
  ·rintro t ⟨rfl,hs⟩
   have e1:decide ((i:Int) < (i:Int))=false:=Ia (by omega)
   generalize hQ:(fun r:Ex×St=>r.1.stop=true∧_)=Q
   simp -implicitDefEqProofs only[SX,sevalprocAttr,ud,e1,JG]
   subst hQ
   exact⟨rfl,_,.inl ⟨rfl,hs⟩⟩
 have key:Md (fun r=>∃ b,r=PV.bool b∧(b=false↔∀ j,j < i→(h:j < ss.length)→wm ss[j] p)) (Bg [S,i64 i]):=by
  generalize hQQ:(fun r:PV=>_)=QQ
  simp -implicitDefEqProofs only[Bg,SX,sevalprocAttr,wk,qb,ga,za,AV.cut,qa]
  refine wa hloop ?_
  rintro _ ⟨E,⟨rfl,hb⟩ | ⟨rfl,hE,j,hj,hj2,hb⟩⟩
  ·simp -implicitDefEqProofs only[SX,sevalprocAttr]
   subst hQQ
   exact⟨false,rfl,by simpa using hb⟩
  ·simp -implicitDefEqProofs only[SX,sevalprocAttr,hE]
   subst hQQ
   exact⟨true,rfl,by simp;exact⟨j,hj,hj2,hb⟩⟩
 obtain⟨r,h1,b,rfl,hb⟩:=Fc key
 exact⟨b,h1,hb⟩
abbrev MA (row:List PV) (i:Int):Tr:=(Tr.lf.set 3 (.pv (i64 i))).set 1 (.pv (.rp row 0))
theorem LG {ss:List Yb}:wc ss↔ss.length≤32∧∀ i,(hi:i < ss.length)→xe ss[i]∧∀ j,j < i→(h:j < ss.length)→wm ss[j] ss[i]:=by
 constructor
 ·intro h
  refine⟨h.len,fun i hi=>⟨h.jv _ (List.getElem_mem hi),fun j hj hj2=> ?_⟩⟩
  exact List.pairwise_iff_getElem.1 h.apart j i hj2 hi hj
 ·rintro⟨h1,h2⟩
  refine⟨h1,?_,?_⟩
  ·intro s hs
   obtain⟨i,hi,rfl⟩:=List.getElem_of_mem hs
   exact (h2 i hi).1
  ·rw[List.pairwise_iff_getElem]
   intro i j hi hj hij
   exact (h2 j hj).2 i hij hi
theorem fw {S:PV} {ss:List Yb} {es:List PV} (hS:Xa S ss es):∃ b,Ud [.agg [S]]=some (.bool b)∧(b=true↔wc ss):=by
 have hsz:=hS.sz
 have ln:=hS.Sb
 have hS1:(AV.pv S).one=true:=by rcases hS.is with⟨h,_⟩ | h <;> rw[h] <;> rfl
 by_cases c1:(ss.length:Int) > 32
 ·have d1:=Ga c1
  refine⟨false,?_,by simp;intro h;have:=h.len;omega⟩
  simp -implicitDefEqProofs only[Ud,SX,sevalprocAttr,wh,hS1,Tb,Na,ln,d1]
 have d1:=Ia c1
 have hloop:Md (fun r=>∃ E,(r=(.exit 0,⟨E,[]⟩)∧wc ss)∨(r=(.ret,⟨E,[]⟩)∧E.get 2= .pv (.bool false)∧¬wc ss))
  (gb (fa (ta (Ca (fun _=>none) 8) Sc) (ga 0 [1,3])) oa ⟨MA [S] 0,[]⟩):=by
  refine wa (yb (g:=fa (ta (Ca (fun _=>none) 8) Sc) (ga 0 [1,3]))
   (fun i t=>t=⟨MA [S] i,[]⟩∧∀ k,k < i→(hk:k < ss.length)→xe ss[k]∧∀ j,j < k→(h:j < ss.length)→wm ss[j] ss[k])
   ss.length (by unfold oa;unfold maxLen at hsz;omega) _ ⟨rfl,by intro j h;omega⟩ ?_ ?_) (fun r h=>h.2)
  ·rintro i t hi ⟨rfl,hs⟩
   obtain⟨P,ps,hP,a0⟩:=hS.Uc hi
   obtain⟨b,hb,hbb⟩:=bq hP
   have hmt:xe ss[i]→_:=fun h=>DH hS hi (fun j hj hj2=>by
    rcases Nat.lt_or_ge j i with h1 | h1
    ·exact (hs j h1 hj2).1
    ·have:j=i:=by omega
     subst this;exact h)
   have hnext:xe ss[i]→(∀ j,j < i→(h:j < ss.length)→wm ss[j] ss[i])→∀ k,k < i+1→(hk:k < ss.length)→xe ss[k]∧∀ j,j < k→(h:j < ss.length)→wm ss[j] ss[k]:=by
    intro h1 h2 k hk hk2
    rcases Nat.lt_or_ge k i with h3 | h3
    ·exact hs k h3 hk2
    ·have:k=i:=by omega
     subst this;exact⟨h1,h2⟩
   have hbad:¬(xe ss[i]∧∀ j,j < i→(h:j < ss.length)→wm ss[j] ss[i])→¬wc ss:=fun h hh=>h ((LG.1 hh).2 i hi)
   generalize hgi:ss[i]=p at *
   have e1:decide ((i:Int) < (ss.length:Int))=true:=Ga (by omega)
   have t2:=Ua hi hsz
   generalize hQQ:LN _ _ i=QQ
   cases b with
   |false=>
    have hno:¬xe p:=fun h=>by have:=hbb.2 h;cases this
    simp -implicitDefEqProofs only[SX,sevalprocAttr,Sc,e1,ln,Tb,Na,a0,Oe,hb,MA]
    subst hQQ
    exact⟨_,.inr ⟨rfl,by simp[Tr.aa],hbad fun h=>hno h.1⟩⟩
   |true=>
    have okp:=hbb.1 rfl
    obtain⟨c,hc,hcc⟩:=hmt okp
    cases c with
    |false=>
     simp -implicitDefEqProofs only[SX,sevalprocAttr,Sc,e1,ln,Tb,Na,a0,Oe,hb,hc,t2,ga,za,AV.cut,qa,MA]
     subst hQQ
     exact⟨rfl,hnext okp (hcc.1 rfl)⟩
    |true=>
     simp -implicitDefEqProofs only[SX,sevalprocAttr,Sc,e1,ln,Tb,Na,a0,Oe,hb,hc,MA]
     subst hQQ
     exact⟨_,.inr ⟨rfl,by simp[Tr.aa],hbad fun h=>by have:=hcc.2 h.2;cases this⟩⟩
  ·rintro t ⟨rfl,hs⟩
   have e1:decide ((ss.length:Int) < (ss.length:Int))=false:=Ia (by omega)
   generalize hQ:(fun r:Ex×St=>r.1.stop=true∧_)=Q
   simp -implicitDefEqProofs only[SX,sevalprocAttr,Sc,e1,ln,Tb,Na,MA]
   subst hQ
   exact⟨rfl,_,.inl ⟨rfl,LG.2 ⟨by omega,fun i hi=>hs i hi hi⟩⟩⟩
 have key:Md (fun r=>∃ b,r=PV.bool b∧(b=true↔wc ss)) (Ud [.agg [S]]):=by
  generalize hQQ:(fun r:PV=>_)=QQ
  simp -implicitDefEqProofs only[Ud,SX,sevalprocAttr,wh,hS1,Tb,Na,ln,d1,qb,ga,za,AV.cut,qa]
  refine wa hloop ?_
  rintro _ ⟨E,⟨rfl,hb⟩ | ⟨rfl,hE,hb⟩⟩
  ·simp -implicitDefEqProofs only[SX,sevalprocAttr]
   subst hQQ
   exact⟨true,rfl,by simpa using hb⟩
  ·simp -implicitDefEqProofs only[SX,sevalprocAttr,hE]
   subst hQQ
   exact⟨false,rfl,by simpa using hb⟩
 obtain⟨r,h1,b,rfl,hb⟩:=Fc key
 exact⟨b,h1,hb⟩
end Go.AM.B1
namespace Go.AM.B1
open Go.AM Go.AM.So
abbrev oD (rp rq:List PV) (n i:Int) (nl:Bool) (es:List PV):Tr:=((((Tr.lf.set 9 (.pv (i64 i))).set 8 (.uq 0 nl 1 es)).set 4 (.pv (.rp rq 0))).set 3 (.pv (.rp rp 0))).set 2 (.pv (i64 n))
abbrev WA (rp rq:List PV) (n i x:Int) (nl:Bool) (es:List PV):Tr:=(((((Tr.lf.set 10 (.pv (i64 x))).set 9 (.pv (i64 i))).set 8 (.uq 0 nl 1 es)).set 4 (.pv (.rp rq 0))).set 3 (.pv (.rp rp 0))).set 2 (.pv (i64 n))
theorem iA (call:ab) {P Q:PV} {a b:PV} {n:Int} {lp lq:List (List (Int×Int))} {ps qs:List PV} (hp:cf P lp ps) (hq:cf Q lq qs) {i:Nat} (hip:i < lp.length) (hiq:i < lq.length) (nl:Bool) (es:List PV) (m:Nat):
 Md (fun r=>∃ E y,r=(.exit 2,⟨E,[.tok 1 m nl]⟩)∧E.get 2= .pv (i64 n)∧E.get 3= .pv (.rp [P,a] 0)∧E.get 4= .pv (.rp [Q,b] 0)∧E.get 8= .uq 0 nl 1 es∧E.get 9= .pv (i64 i)∧E.get 10= .pv (i64 (y:Nat))∧
  ((y < 256∧aj lp[i] y=true∧aj lq[i] y=true)∨(y=256∧∀ x,x < 256→¬(aj lp[i] x=true∧aj lq[i] x=true))))
  (gb (fa (ta call Mc) (ga 1 [2,3,4,8,9,10])) oa ⟨WA [P,a] [Q,b] n i 0 nl es,[.tok 1 m nl]⟩):=by
 obtain⟨v,hv,hpv,a1⟩:=hp.Uc hip [.tok 1 m nl]
 obtain⟨w,hw,hqw,a2⟩:=hq.Uc hiq [.tok 1 m nl]
 have hhp:=DB hpv.is hpv.sz
 have hhq:=DB hqw.is hqw.sz
 generalize lp[i]=lv at *
 generalize lq[i]=lw at *
 refine wa (yb (g:=fa (ta call Mc) (ga 1 [2,3,4,8,9,10]))
  (fun x t=>t=⟨WA [P,a] [Q,b] n i x nl es,[.tok 1 m nl]⟩∧∀ x',x' < x→¬(aj lv x'=true∧aj lw x'=true))
  256 (by unfold oa;omega) _ ⟨rfl,by intro x h;omega⟩ ?_ ?_) (fun r h=>h.2)
 ·rintro x t hx ⟨rfl,hs⟩
  have e1:decide ((x:Int) < 256)=true:=Ga (by omega)
  have t2:IntKind.i64.wrap ((x:Int)+1)=((x+1:Nat):Int):=Da (by omega)
  have hp1:=hhp (x:Int)
  have hq1:=hhq (x:Int)
  rw[Ga (show (0:Int)≤x by omega),Ga (show (x:Int)≤255 by omega),Int.toNat_natCast,Bool.true_and,Bool.true_and] at hp1 hq1
  have hz:(0 < 1)=True:=by simp
  have hnext:¬(aj lv x=true∧aj lw x=true)→∀ x',x' < x+1→¬(aj lv x'=true∧aj lw x'=true):=by
   intro h x' hx'
   rcases Nat.lt_or_ge x' x with h1 | h1
   ·exact hs x' h1
   ·have:x'=x:=by omega
    subst this;exact h
  generalize hQ:LN _ _ x=QQ
  cases h1:aj lv x with
  |false=>
   rw[h1] at hp1
   simp -implicitDefEqProofs only[SX,sevalprocAttr,Mc,e1,xc,Qc,Na,a1,a2,hp1,t2,hz,ga,za,AV.cut,pa,qa,WA]
   subst hQ
   exact⟨rfl,hnext (by rw[h1];simp)⟩
  |true=>
   rw[h1] at hp1
   cases h2:aj lw x with
   |false=>
    rw[h2] at hq1
    simp -implicitDefEqProofs only[SX,sevalprocAttr,Mc,e1,xc,Qc,Na,a1,a2,hp1,hq1,t2,hz,ga,za,AV.cut,pa,qa,WA]
    subst hQ
    exact⟨rfl,hnext (by rw[h2];simp)⟩
   |true=>
    rw[h2] at hq1
    simp -implicitDefEqProofs only[SX,sevalprocAttr,Mc,e1,xc,Qc,Na,a1,a2,hp1,hq1,WA]
    subst hQ
    exact⟨_,x,rfl,by simp[Tr.aa],by simp[Tr.aa],by simp[Tr.aa],by simp[Tr.aa],by simp[Tr.aa],by simp[Tr.aa],.inl ⟨hx,h1,h2⟩⟩
 ·rintro t ⟨rfl,hs⟩
  have e1:decide (((256:Nat):Int) < 256)=false:=Ia (by omega)
  generalize hQ:(fun r:Ex×St=>r.1.stop=true∧_)=QQ
  simp -implicitDefEqProofs only[SX,sevalprocAttr,Mc,e1,WA]
  subst hQ
  exact⟨rfl,_,256,rfl,by simp[Tr.aa],by simp[Tr.aa],by simp[Tr.aa],by simp[Tr.aa],by simp[Tr.aa],by simp[Tr.aa],.inr ⟨rfl,hs⟩⟩
theorem Dy {p q:List (List (Int×Int))} {i:Nat} (hp:i < p.length) (hq:i < q.length) (vp:Pa 255 (-2) p[i]=true) (vq:Pa 255 (-2) q[i]=true):
 Mo p q i≠[]↔∃ x,x < 256∧aj p[i] x=true∧aj q[i] x=true:=by
 have hmA:Mo p q i=Sf (p[i].length+q[i].length) p[i] q[i]:=by
  unfold Mo
  rw[List.getElem?_eq_getElem hp,List.getElem?_eq_getElem hq]
 have hlaw:=Xs _ _ _ (-2) (-2) vp vq (Nat.le_refl _)
 have hme:=Gm vp
 rw[hmA]
 generalize p[i]=a at *
 generalize q[i]=b at *
 constructor
 ·intro h
  obtain⟨m,hm⟩:=List.exists_mem_of_ne_nil _ h
  have h2:=(hlaw.1 m.1).1 ⟨m,hm,Int.le_refl _,hlaw.2 m hm⟩
  have h0:0≤m.1∧m.1≤255:=by
   obtain⟨pp,hpp,h3,h4⟩:=h2.1
   have:=hme pp hpp;omega
  refine⟨m.1.toNat,by omega,?_,?_⟩
  ·rw[aj,vp,Bool.true_and,Wu,Int.toNat_of_nonneg h0.1];exact h2.1
  ·rw[aj,vq,Bool.true_and,Wu,Int.toNat_of_nonneg h0.1];exact h2.2
 ·rintro⟨x,hx,h1,h2⟩ hnil
  rw[aj,vp,Bool.true_and,Wu] at h1
  rw[aj,vq,Bool.true_and,Wu] at h2
  have:=(hlaw.1 x).2 ⟨h1,h2⟩
  rw[hnil] at this
  exact Om _ this
theorem Ov {e f:PV} {p q:Yb} {P Q:PV} {ps qs:List PV} (hp:Me e p P ps) (hq:Me f q Q qs) (op:xe p) (oq:xe q) {n:Nat} (hn:n≤p.parts.length) (hn2:n≤q.parts.length):
 ∃ v,we [e,f,i64 n]=some (.Jc [v,.bool (ec p.parts q.parts n 0).isSome]):=by
 have hc1:=tw hp op
 have hc2:=tw hq oq
 have hb1:=br op
 have hb2:=br oq
 obtain⟨hP1,hP2⟩:=hp.Fx
 obtain⟨hQ1,hQ2⟩:=hq.Fx
 have heq:=hp.eq
 have hfq:=hq.eq
 subst heq hfq
 have h8:=op.hi
 have lP:=hp.parts.Sb
 have lQ:=hq.parts.Sb
 have hloop:Md (fun r=>∃ E H,(r=(.ret,⟨E,H⟩)∧E.get 6= .pv .ma∧E.get 7= .pv (.bool false)∧(ec p.parts q.parts n 0).isSome=false)∨(∃ nl es,r=(.exit 0,⟨E,H⟩)∧E.get 8= .uq 0 nl 1 es∧(ec p.parts q.parts n 0).isSome=true))
  (gb (fa (ta (Ca (fun _=>none) 8) Ee) (ga 1 [2,3,4,8,9])) oa ⟨oD [P,i64 p.first] [Q,i64 q.first] n 0 true [],[.tok 1 0 true]⟩):=by
  refine wa (yb (g:=fa (ta (Ca (fun _=>none) 8) Ee) (ga 1 [2,3,4,8,9]))
   (fun i t=>∃ nl es,t=⟨oD [P,i64 p.first] [Q,i64 q.first] n i nl es,[.tok 1 i nl]⟩∧es.length=i∧(ec p.parts q.parts n 0).isSome=(ec p.parts q.parts (n - i) i).isSome)
   n (by unfold oa;omega) _ ⟨true,[],rfl,rfl,rfl⟩ ?_ ?_) (fun r h=>h.2)
  ·rintro i t hi ⟨nl,es,rfl,hlen,hs⟩
   have hip:i < p.parts.length:=by omega
   have hiq:i < q.parts.length:=by omega
   have hin:=iA (Ca (fun _=>none) 8) (a:=i64 p.first) (b:=i64 q.first) (n:=n) hp.parts hq.parts hip hiq nl es i
   have okv:=op.parts _ (List.getElem_mem hip)
   have okw:=oq.parts _ (List.getElem_mem hiq)
   have hma:=Dy hip hiq okv.2 okw.2
   obtain⟨m,hm⟩:∃ m,n - i=m+1:=⟨n - i - 1,by omega⟩
   have hm':n - (i+1)=m:=by omega
   rw[hm,ec] at hs
   have e1:decide ((i:Int) < (n:Int))=true:=Ga (by omega)
   have t2:=Ua (i:=i) (n:=n) hi (by unfold maxLen;omega)
   have hz:(0 < 1)=True:=by simp
   have hLN:∀ (nl':Bool) (es':List PV) (s:St),s=⟨oD [P,i64 p.first] [Q,i64 q.first] n (i+1:Nat) nl' es',[.tok 1 (i+1) nl']⟩→es'.length=i+1→(ec p.parts q.parts n 0).isSome=(ec p.parts q.parts m (i+1)).isSome→
    LN (fun i t=>∃ nl es,t=⟨oD [P,i64 p.first] [Q,i64 q.first] n i nl es,[.tok 1 i nl]⟩∧es.length=i∧(ec p.parts q.parts n 0).isSome=(ec p.parts q.parts (n - i) i).isSome)
     (fun r=>∃ E H,(r=(.ret,⟨E,H⟩)∧E.get 6= .pv .ma∧E.get 7= .pv (.bool false)∧(ec p.parts q.parts n 0).isSome=false)∨(∃ nl es,r=(.exit 0,⟨E,H⟩)∧E.get 8= .uq 0 nl 1 es∧(ec p.parts q.parts n 0).isSome=true)) i (.norm,s):=
    fun nl' es' s h1 h2 h3=>⟨nl',es',h1,h2,by rw[hm'];exact h3⟩
   have hLR:∀ (E:Tr) (H:List ba),E.get 6= .pv .ma→E.get 7= .pv (.bool false)→(ec p.parts q.parts n 0).isSome=false→
    LN (fun i t=>∃ nl es,t=⟨oD [P,i64 p.first] [Q,i64 q.first] n i nl es,[.tok 1 i nl]⟩∧es.length=i∧(ec p.parts q.parts n 0).isSome=(ec p.parts q.parts (n - i) i).isSome)
     (fun r=>∃ E H,(r=(.ret,⟨E,H⟩)∧E.get 6= .pv .ma∧E.get 7= .pv (.bool false)∧(ec p.parts q.parts n 0).isSome=false)∨(∃ nl es,r=(.exit 0,⟨E,H⟩)∧E.get 8= .uq 0 nl 1 es∧(ec p.parts q.parts n 0).isSome=true)) i (.ret,⟨E,H⟩):=
    fun E H h1 h2 h3=>⟨E,H,.inl ⟨rfl,h1,h2,h3⟩⟩
   generalize LN _ _ i=QQ at hLN hLR ⊢
   simp -implicitDefEqProofs only[SX,sevalprocAttr,Ee,qb,e1,hz,ga,za,AV.cut,pa,qa,oD]
   refine wa hin ?_
   rintro r ⟨E,y,rfl,g2,g3,g4,g8,g9,g10,⟨hy,hy1,hy2⟩ | ⟨rfl,hno⟩⟩
   ·have hne:Mo p.parts q.parts i≠[]:=hma.2 ⟨y,hy,hy1,hy2⟩
    have hs':(ec p.parts q.parts n 0).isSome=(ec p.parts q.parts m (i+1)).isSome:=by
     rw[hs]
     cases hmt:Mo p.parts q.parts i with
     |nil=>exact absurd hmt hne
     |cons a r=>simp
    have e2:(((y:Nat):Int)==256)=false:=uh (by omega)
    have t3:IntKind.u8.wrap ((y:Nat):Int)=(y:Int):=wrap_u8 (by omega)
    have hap:=cr (A:=[.tok 1 i nl]) (id:=0) (n:=i) (h:= .uq) (nl:=nl) (bytes:=1) (es:=es) rfl (by simp[hlen]) (by unfold xb;omega) (.int .u8 y)
    rw[List.set_cons_zero] at hap
    simp -implicitDefEqProofs only[SP,WP,na,sevalprocAttr,g2,g3,g4,g8,g9,g10,e2,t2,t3,hap,hz,ga,za,AV.cut,pa,qa]
    exact hLN false (es++[.int .u8 y]) _ rfl (by simp[hlen]) hs'
   ·have hne:Mo p.parts q.parts i=[]:=by
     apply Decidable.byContradiction
     intro h
     obtain⟨x,hx,h1,h2⟩:=hma.1 h
     exact hno x hx ⟨h1,h2⟩
    have hs':(ec p.parts q.parts n 0).isSome=false:=by rw[hs,hne];rfl
    have e2:(((256:Nat):Int)==256)=true:=by decide
    simp -implicitDefEqProofs only[SP,WP,na,sevalprocAttr,g2,g3,g4,g8,g9,g10,e2]
    exact hLR _ _ (by simp[Tr.aa]) (by simp[Tr.aa]) hs'
  ·rintro t ⟨nl,es,rfl,hlen,hs⟩
   rw[Nat.sub_self,ec] at hs
   have e1:decide ((n:Int) < (n:Int))=false:=Ia (by omega)
   generalize hQ:(fun r:Ex×St=>r.1.stop=true∧_)=QQ
   simp -implicitDefEqProofs only[SX,sevalprocAttr,Ee,e1,oD]
   subst hQ
   exact⟨rfl,_,_,.inr ⟨nl,es,rfl,by simp[Tr.aa],hs⟩⟩
 have key:Md (fun r=>∃ v,r= .Jc [v,.bool (ec p.parts q.parts n 0).isSome]) (we [.agg [P,i64 p.first],.agg [Q,i64 q.first],i64 n]):=by
  have z1:(sh 1 p.parts==0)=false:=uh (by omega)
  have z2:(sh 1 q.parts==0)=false:=uh (by omega)
  have d0:decide ((n:Int) < 0)=false:=Ia (by omega)
  have d1:decide ((n:Int) > (p.parts.length:Int))=false:=Ia (by omega)
  have d2:decide ((n:Int) > (q.parts.length:Int))=false:=Ia (by omega)
  have hz:(0 < 1)=True:=by simp
  generalize sh 1 p.parts=np at *
  generalize sh 1 q.parts=nq at *
  generalize (ec p.parts q.parts n 0).isSome=b at *
  generalize hQQ:(fun r:PV=>_)=QQ
  simp -implicitDefEqProofs only[we,SX,sevalprocAttr,mj,qb,hP1,hQ1,xc,Qc,Oe,hc1,hc2,z1,z2,lP,lQ,d0,d1,d2,Ke,hz,ga,za,AV.cut,pa,qa]
  refine wa hloop ?_
  rintro _ ⟨E,H,⟨rfl,h6,h7,hb⟩ | ⟨nl,es,rfl,g8,hb⟩⟩
  ·subst hb
   simp -implicitDefEqProofs only[SX,sevalprocAttr,h6,h7]
   subst hQQ
   exact⟨_,rfl⟩
  ·subst hb
   cases nl <;>
   ·simp -implicitDefEqProofs only[SX,sevalprocAttr,g8]
    subst hQQ
    exact⟨_,rfl⟩
 obtain⟨r,h1,v,rfl⟩:=Fc key
 exact⟨v,h1⟩
end Go.AM.B1
namespace Go.AM.B1
open Go.AM Go.AM.So
abbrev JN (row:List PV) (i:Int):Tr:=(Tr.lf.set 4 (.pv (i64 i))).set 1 (.pv (.rp row 0))
abbrev tG (row:List PV) (i j:Int):Tr:=((Tr.lf.set 5 (.pv (i64 j))).set 4 (.pv (i64 i))).set 1 (.pv (.rp row 0))
def sS (ss:List Yb) (i j:Nat):Prop:=(hi:i < ss.length)→(hj:j < ss.length)→ss[i].parts.length < ss[j].parts.length→Le ss[i] ss[j]=false
theorem JA (call:ab) {S:PV} {ss:List Yb} {es:List PV} (hS:Xa S ss es) (Aa:wc ss) {i:Nat} (hi:i < ss.length):
 Md (fun r=>∃ E,(r=(.exit 2,⟨E,[]⟩)∧E.get 1= .pv (.rp [S] 0)∧E.get 4= .pv (i64 i)∧∀ j,sS ss i j)∨(r=(.ret,⟨E,[]⟩)∧E.get 2= .pv (.bool false)∧E.get 3= .pv (i64 0)∧¬ch ss))
  (gb (fa (ta call Nc) (ga 0 [1,4,5])) oa ⟨tG [S] i 0,[]⟩):=by
 have h32:=Aa.len
 have ln:=hS.Sb
 obtain⟨P,ps,hP,a1⟩:=hS.Uc hi
 have okp:=Aa.jv _ (List.getElem_mem hi)
 have lP:=hP.parts.Sb
 have hPre:∀ j (hj:j < ss.length),ss[i].parts.length < ss[j].parts.length→Le ss[i] ss[j]=true→¬ch ss:=fun j hj h1 h2 h=>by
  have:=h i j hi hj h1;rw[h2] at this;cases this
 have hat:∀ j,sS ss i j↔((hj:j < ss.length)→ss[i].parts.length < ss[j].parts.length→Le ss[i] ss[j]=false):=fun j=>⟨fun h=>h hi,fun h _=>h⟩
 simp only[hat]
 generalize ss[i]=p at *
 refine wa (yb (g:=fa (ta call Nc) (ga 0 [1,4,5]))
  (fun j t=>t=⟨tG [S] i j,[]⟩∧∀ j',j' < j→(hj:j' < ss.length)→p.parts.length < ss[j'].parts.length→Le p ss[j']=false)
  ss.length (by unfold oa;omega) _ ⟨rfl,fun j h=>by omega⟩ ?_ ?_) (fun r h=>h.2)
 ·rintro j t hj ⟨rfl,hs⟩
  obtain⟨Q,qs,hQ,a2⟩:=hS.Uc hj
  have okq:=Aa.jv _ (List.getElem_mem hj)
  have hcm:=fun (h:p.parts.length≤ss[j].parts.length)=>Ov hP hQ okp okq (n:=p.parts.length) (Nat.le_refl _) h
  have lQ:=hQ.parts.Sb
  have hbad:=hPre j hj
  have hnext:(p.parts.length < ss[j].parts.length→Le p ss[j]=false)→∀ j',j' < j+1→(hj:j' < ss.length)→p.parts.length < ss[j'].parts.length→Le p ss[j']=false:=by
   intro h j' h1 h2
   rcases Nat.lt_or_ge j' j with h3 | h3
   ·exact hs j' h3 h2
   ·have:j'=j:=by omega
    subst this;exact h
  unfold Le at hbad hnext
  generalize ss[j]=q at *
  have e1:decide ((j:Int) < (ss.length:Int))=true:=Ga (by omega)
  have t2:=Ua hj (by unfold maxLen;omega)
  generalize hQQ:LN _ _ j=QQ
  by_cases c1:(p.parts.length:Int) < (q.parts.length:Int)
  ·have d1:=Ga c1
   obtain⟨v,hv⟩:=hcm (by omega)
   cases hb:(ec p.parts q.parts p.parts.length 0).isSome with
   |true=>
    rw[hb] at hv
    simp -implicitDefEqProofs only[SX,sevalprocAttr,Nc,ln,e1,Tb,Na,xc,Qc,Oe,a1,a2,lP,lQ,d1,hv,tG]
    subst hQQ
    exact⟨_,.inr ⟨rfl,by simp[Tr.aa],by simp[Tr.aa],hbad (by omega) hb⟩⟩
   |false=>
    rw[hb] at hv
    simp -implicitDefEqProofs only[SX,sevalprocAttr,Nc,ln,e1,t2,Tb,Na,xc,Qc,Oe,a1,a2,lP,lQ,d1,hv,ga,za,AV.cut,qa,tG]
    subst hQQ
    exact⟨rfl,hnext fun _=>hb⟩
  ·have d1:=Ia c1
   simp -implicitDefEqProofs only[SX,sevalprocAttr,Nc,ln,e1,t2,Tb,Na,xc,Qc,Oe,a1,a2,lP,lQ,d1,ga,za,AV.cut,qa,tG]
   subst hQQ
   exact⟨rfl,hnext fun h=>absurd h (by omega)⟩
 ·rintro t ⟨rfl,hs⟩
  have e1:decide ((ss.length:Int) < (ss.length:Int))=false:=Ia (by omega)
  generalize hQ:(fun r:Ex×St=>r.1.stop=true∧_)=QQ
  simp -implicitDefEqProofs only[SX,sevalprocAttr,Nc,e1,ln,Tb,Na,tG]
  subst hQ
  exact⟨rfl,_,.inl ⟨rfl,by simp[Tr.aa],by simp[Tr.aa],fun j hj=>hs j hj hj⟩⟩
theorem IC {S:PV} {ss:List Yb} {es:List PV} (hS:Xa S ss es):
 (¬ wc ss→Cd [.agg [S]]=some (.Jc [.bool false,i64 84]))∧
 (wc ss→∃ b,Cd [.agg [S]]=some (.Jc [.bool b,i64 0])∧(b=true↔ch ss)):=by
 have ln:=hS.Sb
 have hS1:(AV.pv S).one=true:=by rcases hS.is with⟨h,_⟩ | h <;> rw[h] <;> rfl
 obtain⟨b,hb,hbb⟩:=fw hS
 constructor
 ·intro h
  have:b=false:=by cases b with | false=>rfl | true=>exact absurd (hbb.1 rfl) h
  subst this
  simp -implicitDefEqProofs only[Cd,SX,sevalprocAttr,bh,hS1,Mf,hb]
 ·intro Aa
  have h32:=Aa.len
  have:=hbb.2 Aa
  subst this
  have hloop:Md (fun r=>∃ E,(r=(.exit 0,⟨E,[]⟩)∧ch ss)∨(r=(.ret,⟨E,[]⟩)∧E.get 2= .pv (.bool false)∧E.get 3= .pv (i64 0)∧¬ch ss))
   (gb (fa (ta (Ca (fun _=>none) 8) De) (ga 0 [1,4])) oa ⟨JN [S] 0,[]⟩):=by
   refine wa (yb (g:=fa (ta (Ca (fun _=>none) 8) De) (ga 0 [1,4]))
    (fun i t=>t=⟨JN [S] i,[]⟩∧∀ i',i' < i→∀ j,sS ss i' j)
    ss.length (by unfold oa;omega) _ ⟨rfl,fun i h=>by omega⟩ ?_ ?_) (fun r h=>h.2)
   ·rintro i t hi ⟨rfl,hs⟩
    have hin:=JA (Ca (fun _=>none) 8) hS Aa hi
    have e1:decide ((i:Int) < (ss.length:Int))=true:=Ga (by omega)
    have t2:=Ua hi (by unfold maxLen;omega)
    generalize hQQ:LN _ _ i=QQ
    simp -implicitDefEqProofs only[SX,sevalprocAttr,De,qb,ln,e1,Tb,Na,ga,za,AV.cut,qa,JN]
    refine wa hin ?_
    rintro _ ⟨E,⟨rfl,g1,g4,hp⟩ | ⟨rfl,g2,g3,hp⟩⟩
    ·simp -implicitDefEqProofs only[SX,sevalprocAttr,g1,g4,t2,ga,za,AV.cut,qa]
     subst hQQ
     refine⟨rfl,fun i' hi' j=> ?_⟩
     rcases Nat.lt_or_ge i' i with h3 | h3
     ·exact hs i' h3 j
     ·have:i'=i:=by omega
      subst this;exact hp j
    ·simp -implicitDefEqProofs only[SX,sevalprocAttr]
     subst hQQ
     exact⟨_,.inr ⟨rfl,g2,g3,hp⟩⟩
   ·rintro t ⟨rfl,hs⟩
    have e1:decide ((ss.length:Int) < (ss.length:Int))=false:=Ia (by omega)
    generalize hQ:(fun r:Ex×St=>r.1.stop=true∧_)=QQ
    simp -implicitDefEqProofs only[SX,sevalprocAttr,De,e1,ln,Tb,Na,JN]
    subst hQ
    exact⟨rfl,_,.inl ⟨rfl,fun i j hi hj=>hs i hi j hi hj⟩⟩
  have key:Md (fun r=>∃ b,r=PV.Jc [.bool b,i64 0]∧(b=true↔ch ss)) (Cd [.agg [S]]):=by
   generalize hQQ:(fun r:PV=>_)=QQ
   simp -implicitDefEqProofs only[Cd,SX,sevalprocAttr,bh,hS1,Tb,Na,Mf,hb,qb,ga,za,AV.cut,qa]
   refine wa hloop ?_
   rintro _ ⟨E,⟨rfl,hp⟩ | ⟨rfl,g2,g3,hp⟩⟩
   ·simp -implicitDefEqProofs only[SX,sevalprocAttr]
    subst hQQ
    exact⟨true,rfl,by simpa using hp⟩
   ·simp -implicitDefEqProofs only[SX,sevalprocAttr,g2,g3]
    subst hQQ
    exact⟨false,rfl,by simpa using hp⟩
  obtain⟨r,h1,b,rfl,hb⟩:=Fc key
  exact⟨b,h1,hb⟩
end Go.AM.B1
namespace Go.AM.B1
open Go.AM Go.AM.So
def kI (f:Nat→Bool):List PV:=(List.range 32).map fun i=> .bool (f i)
def mc (d:Int) (f:Nat→Bool):List PV:=i64 d::kI f
def Ie (a:Al):PV:= .agg (mc a.1 a.2.toNat.testBit)
theorem qC (f:Nat→Bool):(kI f).length=32:=by simp[kI]
theorem xg (d:Int) (f:Nat→Bool):(mc d f).length=33:=by rw[mc,List.length_cons,qC]
theorem rL (f:Nat→Bool) {i:Nat} (h:i < (kI f).length):(kI f)[i]= .bool (f i):=by
 simp only[kI,List.getElem_map,List.getElem_range]
theorem OH (f:Nat→Bool) {i:Nat} (h:i < 32):(kI f)[i]? =some (.bool (f i)):=by
 rw[List.getElem?_eq_getElem (by rw[qC];exact h),rL]
theorem RM (f:Nat→Bool) {i:Nat} (h:i < 32) (b:Bool):(kI f).set i (.bool b)=kI fun j=>if j=i then b else f j:=by
 apply List.ext_getElem
 ·rw[List.length_set,qC,qC]
 ·intro j h1 h2
  rw[List.getElem_set,rL,rL]
  by_cases hj:i=j
  ·subst hj;rw[if_pos rfl,if_pos rfl]
  ·rw[if_neg hj,if_neg (Ne.symm hj)]
theorem Vs {f g:Nat→Bool} (h:∀ x,x < 32→f x=g x):kI f=kI g:=by
 unfold kI
 apply List.map_congr_left
 intro x hx
 rw[h x (by simpa using hx)]
theorem AN {f g:Nat→Bool} (h:kI f=kI g) {i:Nat} (hi:i < 32):f i=g i:=by
 have h1:=OH f hi
 rw[h,OH g hi] at h1
 injection h1 with h1;injection h1 with h1;exact h1.symm
theorem Nv (d:Int) (f:Nat→Bool):∀ e∈mc d f,(AV.pv e).one=true:=by
 intro e he
 rcases List.mem_cons.1 he with rfl | he
 ·rfl
 ·obtain⟨x,_,rfl⟩:=List.mem_map.1 he
  rfl
def NS (a:Al):Prop:=∃ b:Nat,a.2=(b:Int)∧b < 4294967296
theorem wR {a b:Al} (ha:NS a) (hb:NS b) (h:Ie a=Ie b):a=b:=by
 obtain⟨d,_⟩:=a;obtain⟨e,_⟩:=b
 obtain⟨m,rfl,hm⟩:=ha
 obtain⟨n,rfl,hn⟩:=hb
 simp only[Ie,mc,PV.agg.injEq,List.cons.injEq,PV.int.injEq,true_and,Int.toNat_natCast] at h
 have:m=n:=by
  apply Nat.eq_of_testBit_eq
  intro i
  by_cases hi:i < 32
  ·exact AN h.2 hi
  ·rw[Nat.testBit_lt_two_pow (Nat.lt_of_lt_of_le hm (Nat.pow_le_pow_right (n:=2) (by decide) (by omega:32≤i))),Nat.testBit_lt_two_pow (Nat.lt_of_lt_of_le hn (Nat.pow_le_pow_right (n:=2) (by decide) (by omega:32≤i)))]
 subst this
 have h1:d=e:=by have:=h.1;omega
 rw[h1]
theorem Tx:∀ (l:List Nat) (f g:Nat→Bool),dh (l.map fun _=>0) (l.map fun i=> .bool (f i)) (l.map fun i=> .bool (g i))=some (l.all fun i=>f i==g i)
 | [],f,g=>rfl
 |i::l,f,g=>by
  simp only[List.map_cons,dh,Jn,Option.bind_some,Tx l f g,Option.map_some,List.all_cons]
abbrev HX:Kd:= .row [1,0,0,0,0,0,0,0,0,0,0,0,0,0,0,0,0,0,0,0,0,0,0,0,0,0,0,0,0,0,0,0,0]
theorem aR (a b:Al):∃ c,Zi HX (Ie a) (Ie b)=some c∧(c=true↔Ie a=Ie b):=by
 have h:=Tx (List.range 32) a.2.toNat.testBit b.2.toNat.testBit
 have h0:(List.range 32).map (fun _=>0)=[0,0,0,0,0,0,0,0,0,0,0,0,0,0,0,0,0,0,0,0,0,0,0,0,0,0,0,0,0,0,0,0]:=by decide
 rw[h0] at h
 refine⟨((a.1:Int)==b.1)&&(List.range 32).all fun i=>a.2.toNat.testBit i==b.2.toNat.testBit i,?_,?_⟩
 ·show dh (1::[0,0,0,0,0,0,0,0,0,0,0,0,0,0,0,0,0,0,0,0,0,0,0,0,0,0,0,0,0,0,0,0]) (i64 a.1::kI _) (i64 b.1::kI _)=_
  unfold dh
  rw[show kI a.2.toNat.testBit=(List.range 32).map fun i=> .bool (a.2.toNat.testBit i) from rfl,show kI b.2.toNat.testBit=(List.range 32).map fun i=> .bool (b.2.toNat.testBit i) from rfl,h]
  simp only[Jn,if_true,Option.bind_some,Option.map_some]
 ·simp only[Bool.and_eq_true,beq_iff_eq,List.all_eq_true,List.mem_range]
  constructor
  ·rintro⟨h1,h2⟩
   rw[Ie,Ie,h1]
   unfold mc
   rw[Vs h2]
  ·intro h
   simp only[Ie,mc,PV.agg.injEq,List.cons.injEq,PV.int.injEq,true_and] at h
   exact⟨h.1,fun i hi=>AN h.2 hi⟩
theorem GI (H:List ba) {l:List Al} {i:Nat} (hi:i < l.length):ua H 33 (.pv (.lit 33 (l.map Ie))) (i:Int)=some (.pv (.rp (mc l[i].1 l[i].2.toNat.testBit) 0)):=by
 simp only[ua]
 rw[if_pos (by refine⟨trivial,?_⟩;unfold Fa;simp;omega)]
 simp[hi,Ie,PV.cells]
theorem IK (H:List ba) (d:Int) (f:Nat→Bool):ya H true 33 (.pv (.rp (mc d f) 0))=some (.pv (.agg (mc d f))):=by
 have h:=xg d f
 simp only[ya,jm,if_true]
 rw[if_pos (by omega),List.drop_zero,List.take_of_length_le (by omega)]
 rfl
theorem DO {a:Al} {l:List Al} {i k:Nat} (hi:i < l.length):Ul a (l.drop i) k=if a=l[i] then some k else Ul a (l.drop (i+1)) (k+1):=by
 rw[List.drop_eq_getElem_cons hi,Ul]
abbrev xI (v:PV) (row:List PV) (i:Int):Tr:=((Tr.lf.set 5 (.pv (i64 i))).set 3 (.pv (.rp row 0))).set 0 (.pv v)
theorem iT {l:List Al} {a:Al} (hl:l.length≤64) (ha:NS a) (hb:∀ b∈l,NS b):wi [.lit 33 (l.map Ie),Ie a]=some (i64 (match Ul a l 0 with | some k=>(k:Int) | none=> -1)):=by
 have hloop:Md (fun r=>∃ E,(r=(.exit 0,⟨E,[]⟩)∧Ul a l 0=none)∨(∃ k,r=(.ret,⟨E,[]⟩)∧Ul a l 0=some k∧E.get 4= .pv (i64 (k:Nat))))
  (gb (fa (ta (Ca (fun _=>none) 8) Zd) (ga 0 [0,3,5])) oa ⟨xI (.lit 33 (l.map Ie)) (mc a.1 a.2.toNat.testBit) 0,[]⟩):=by
  refine wa (yb (g:=fa (ta (Ca (fun _=>none) 8) Zd) (ga 0 [0,3,5]))
   (fun i t=>t=⟨xI (.lit 33 (l.map Ie)) (mc a.1 a.2.toNat.testBit) i,[]⟩∧Ul a l 0=Ul a (l.drop i) i)
   l.length (by unfold oa;omega) _ ⟨rfl,rfl⟩ ?_ ?_) (fun r h=>h.2)
  ·rintro i t hi ⟨rfl,hs⟩
   rw[DO hi] at hs
   have a1:=GI [] hi
   have a2:=IK [] l[i].1 l[i].2.toNat.testBit
   have a3:=IK [] a.1 a.2.toNat.testBit
   obtain⟨c,heq,hce⟩:=aR l[i] a
   have heq:Zi HX (.agg (mc l[i].1 l[i].2.toNat.testBit)) (.agg (mc a.1 a.2.toNat.testBit))=some c:=heq
   have e1:decide ((i:Int) < (l.length:Int))=true:=Ga (by omega)
   have t2:=Ua hi (show l.length≤maxLen by unfold maxLen;omega)
   have ln:Sb [] 0 (.pv (.lit 33 (l.map Ie)))=some l.length:=by simp[Sb]
   have hbi:=hb _ (List.getElem_mem hi)
   generalize mc a.1 a.2.toNat.testBit=row at *
   generalize mc l[i].1 l[i].2.toNat.testBit=row2 at *
   generalize l.map Ie=es at *
   generalize hQ:LN _ _ i=Q
   by_cases h:a=l[i]
   ·rw[hce.2 (by rw[h])] at heq
    rw[if_pos h] at hs
    simp -implicitDefEqProofs only[SX,sevalprocAttr,Zd,e1,ln,a1,a2,a3,heq,xI]
    subst hQ
    exact⟨_,.inr ⟨i,rfl,hs,by simp[Tr.aa]⟩⟩
   ·have:c=false:=by cases c with | false=>rfl | true=>exact absurd (wR hbi ha (hce.1 rfl)).symm h
    rw[this] at heq
    rw[if_neg h] at hs
    simp -implicitDefEqProofs only[SX,sevalprocAttr,Zd,e1,t2,ln,a1,a2,a3,heq,ga,za,AV.cut,qa,xI]
    subst hQ
    exact⟨rfl,hs⟩
  ·rintro t ⟨rfl,hs⟩
   rw[List.drop_length,Ul] at hs
   have e1:decide ((l.length:Int) < (l.length:Int))=false:=Ia (by omega)
   have ln:Sb [] 0 (.pv (.lit 33 (l.map Ie)))=some l.length:=by simp[Sb]
   generalize l.map Ie=es at *
   generalize hQ:(fun r:Ex×St=>r.1.stop=true∧_)=Q
   simp -implicitDefEqProofs only[SX,sevalprocAttr,Zd,e1,ln,xI]
   subst hQ
   exact⟨rfl,_,.inl ⟨rfl,hs⟩⟩
 have hln:=xg (a.1:Int) a.2.toNat.testBit
 have hall:∀ e∈mc (a.1:Int) a.2.toNat.testBit,(AV.pv e).one=true:=Nv _ _
 have he:Ie a= .agg (mc a.1 a.2.toNat.testBit):=rfl
 rw[he]
 generalize mc (a.1:Int) a.2.toNat.testBit=row at *
 have hbx:((row.map AV.pv).length=33∧(row.map AV.pv).all AV.one=true)=True:=by
  refine eq_true ⟨by rw[List.length_map,hln],?_⟩
  rw[List.all_eq_true];intro v hv
  obtain⟨e,he,rfl⟩:=List.mem_map.1 hv
  exact hall e he
 have hmp:Ra (ic [] 0) (row.map AV.pv)=some row:=wC _ _ _
 generalize l.map Ie=es at *
 apply Xj
 simp -implicitDefEqProofs only[wi,SX,sevalprocAttr,Yj,hbx,hmp,qb,ga,za,AV.cut,qa]
 refine wa hloop ?_
 rintro _ ⟨E,⟨rfl,hn⟩ | ⟨k,rfl,hk,g⟩⟩
 ·simp -implicitDefEqProofs only[SX,sevalprocAttr,hn]
 ·simp -implicitDefEqProofs only[SX,sevalprocAttr,g,hk]
end Go.AM.B1
