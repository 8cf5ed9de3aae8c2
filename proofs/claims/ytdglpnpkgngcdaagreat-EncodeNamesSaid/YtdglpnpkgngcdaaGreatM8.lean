/- What functions of the program compute. -/
import Derived.Test.YtdglpnpkgngcdaaGreatM7
set_option linter.unusedVariables false
set_option linter.unusedSimpArgs false
namespace Go.AM.B1
open Go.AM Go.AM.So
section
variable {call:CallF} {A:List AObj} (hA:HGood A)
include hA
theorem nx_edges {E:Tr} {tb:Nat} {L S:PV} {x y:PV} {es:List Edg} (hok:EdgesOk es) (hL:IsL 3 L (es.map encE)) (hlen:es.length≤256) (htb:tb < A.length) (h8:E.get 8= .ptr tb 0) (h13:E.get 13= .ptr A.length 0)
 (h101:E.get 101= .pv S) (h102:E.get 102= .pv x) (h103:E.get 103= .pv y) (h114:E.get 114= .pv L) (h115:E.get 115= .pv (i64 es.length)) (h116:E.get 116= .pv (i64 0)):
 wpO (fun r=>r.1.stop=true∧∃ E',r=(.exit 6,⟨E',A++[b8 (nextG es)]⟩)∧∀ t∈[8,13,101,102,103],E'.get t=E.get t)
  (evalC call (.loop [8,13,101,102,103,114,115,116] b_table_Compile_l3) ⟨E,A++[b8 fun _=> -2]⟩):=by
 have hcut:Fit (A.length+1) [8,13,101,102,103,114,115] E:=
  .cons h8 (cut_ptr (by omega)) (.cons h13 (cut_ptr (by omega)) (.cons h101 cut_pv (.cons h102 cut_pv (.cons h103 cut_pv (.cons h114 cut_pv (.cons h115 cut_pv (.nil _ _)))))))
 refine loop_of (fun i t=>Keep [8,13,101,102,103,114,115] E t.env∧t.env.get 116= .pv (i64 i)∧t.H=A++[b8 ((es.take i).foldl setE fun _=> -2)]) es.length (by unfold rounds;omega) ?_ ?_ ?_
 ·rw[List.length_append]
  exact EndOf.all (by simp) (good_b8 hA _ (by simp)) (Fit.sub (.cons h116 cut_pv hcut) rfl) fun E' hE=>⟨Keep.sub hE rfl,by rw[hE 116 (by simp),h116];rfl,rfl⟩
 ·rintro i ⟨E1,H1⟩ hi ⟨k1,k2,k3⟩
  simp only at k1 k2 k3
  subst k3
  have g8:=k1 8 (by simp)
  rw[h8] at g8
  have g13:=k1 13 (by simp)
  rw[h13] at g13
  have g101:=k1 101 (by simp)
  rw[h101] at g101
  have g102:=k1 102 (by simp)
  rw[h102] at g102
  have g103:=k1 103 (by simp)
  rw[h103] at g103
  have g114:=k1 114 (by simp)
  rw[h114] at g114
  have g115:=k1 115 (by simp)
  rw[h115] at g115
  have hle:=hL.lit (i:=i) (by simpa using hi)
  have hea:=hok.rng es[i] (List.getElem_mem hi)
  have htk:(es.take (i+1)).foldl setE (fun _=> -2)=setE ((es.take i).foldl setE fun _=> -2) es[i]:=by
   rw[List.take_succ_eq_append_getElem hi,List.foldl_append];rfl
  have a1:iaddrA' (A++[b8 ((es.take i).foldl setE fun _=> -2)]) 3 (.pv L) (i:Int)=some (.pv (.rp [i64 es[i].lo,i64 es[i].hi,i64 es[i].to] 0)):=by
   rw[hle]
   simp only[iaddrA']
   rw[if_pos ⟨trivial,by unfold idxOk;rw[List.length_map];omega⟩,Int.toNat_natCast,List.getElem?_map,List.getElem?_eq_getElem hi];rfl
  rw[htk]
  generalize (es.take i).foldl setE (fun _=> -2)=g0 at *
  generalize es[i]=e at *
  have e1:decide ((i:Int) < (es.length:Int))=true:=dec_t (by omega)
  have t1:IntKind.i64.wrap ((i:Int)+1)=((i+1:Nat):Int):=wrap_nat1 (by omega)
  have r3:∀ H (x y z:PV),loadA H true 3 (.pv (.rp [x,y,z] 0))=some (.pv (.agg [x,y,z])):=fun H x y z=>rfl
  have hln:(A++[b8 g0]).length=A.length+1:=by simp
  have s1:storeA ((A++[b8 g0])++[.box [.pv (i64 0),.pv (i64 0),.pv (i64 0)]]) 3 (.ptr (A.length+1) 0) (.pv (.agg [i64 e.lo,i64 e.hi,i64 e.to]))=some ((A++[b8 g0])++[bx3 e]):=by
   have:=set_top (A++[b8 g0]) (.box [.pv (i64 0),.pv (i64 0),.pv (i64 0)]) (bx3 e)
   have hg:=get_top (A++[b8 g0]) (.box [.pv (i64 0),.pv (i64 0),.pv (i64 0)])
   rw[hln] at this hg
   simp only[storeA,hg]
   rw[if_pos (by simp[AV.cells,PV.cells,AV.one]),if_pos (by simp)]
   rw[← this];rfl
  have hg2:((A++[b8 g0])++[bx3 e])[A.length+1]? =some (bx3 e):=by
   have:=get_top (A++[b8 g0]) (bx3 e)
   rw[hln] at this;exact this
  have p2:=fun d=>box_place hg2 d 0
  have l0:loadA ((A++[b8 g0])++[bx3 e]) false 1 (.ptr (A.length+1) 0)=some (.pv (i64 e.lo)):=by simp only[loadA,hg2];rfl
  have hed:=fun (E2:Tr) (q8:E2.get 8= .ptr tb 0) (q13:E2.get 13= .ptr A.length 0) (q16:E2.get 16= .ptr (A.length+1) 0) (q17:E2.get 17= .pv (i64 e.lo)) (q101:E2.get 101= .pv S) (q102:E2.get 102= .pv x) (q103:E2.get 103= .pv y) (q114:E2.get 114= .pv L) (q115:E2.get 115= .pv (i64 es.length)) (q116:E2.get 116= .pv (i64 i))=>
   nx_edge (call:=call) hA (g0:=g0) hea htb q8 q13 q16 q17 q101 q102 q103 q114 q115 q116
  generalize hHH:(A++[b8 g0])++[bx3 e]=HH at *
  generalize hHK:(A++[b8 g0])++[AObj.box [.pv (i64 0),.pv (i64 0),.pv (i64 0)]]=HK at *
  generalize hQ:RQ _ _ _ _=Q
  simp (implicitDefEqProofs:=false) only[SP,SA,WP,sevalprocAttr,-List.reduceReplicate,b_table_Compile_l3,k2,g114,g115,e1,a1,r3,hln,hHK,s1,p2,l0]
  generalize hEE:(Tr.set _ 17 _:Tr)=E2
  have q8:E2.get 8= .ptr tb 0:=by rw[← hEE];simp[Tr.get_set,g8]
  have q13:E2.get 13= .ptr A.length 0:=by rw[← hEE];simp[Tr.get_set,g13]
  have q16:E2.get 16= .ptr (A.length+1) 0:=by rw[← hEE];simp[Tr.get_set]
  have q17:E2.get 17= .pv (i64 e.lo):=by rw[← hEE];simp[Tr.get_set]
  have q101:E2.get 101= .pv S:=by rw[← hEE];simp[Tr.get_set,g101]
  have q102:E2.get 102= .pv x:=by rw[← hEE];simp[Tr.get_set,g102]
  have q103:E2.get 103= .pv y:=by rw[← hEE];simp[Tr.get_set,g103]
  have q114:E2.get 114= .pv L:=by rw[← hEE];simp[Tr.get_set,g114]
  have q115:E2.get 115= .pv (i64 es.length):=by rw[← hEE];simp[Tr.get_set,g115]
  have q116:E2.get 116= .pv (i64 i):=by rw[← hEE];simp[Tr.get_set,k2]
  refine wpO_mono (hed E2 q8 q13 q16 q17 q101 q102 q103 q114 q115 q116) ?_
  rintro r ⟨_,E3,rfl,hE3⟩
  have z116:=hE3 116 (by simp)
  rw[q116] at z116
  have kE:Keep [8,13,101,102,103,114,115] E E3:=by
   refine Keep.trans ?_ (Keep.sub hE3 rfl)
   rw[← hEE]
   repeat refine Keep.set ?_ rfl
   exact k1
  simp (implicitDefEqProofs:=false) only[SP,SA,WP,sevalprocAttr,-List.reduceReplicate,z116,t1]
  subst hQ
  rw[RQ_norm]
  have kF:∀ v w,Keep [8,13,101,102,103,114,115] E ((E3.set 133 v).set 116 w):=fun v w=>Keep.set (Keep.set kE rfl) rfl
  rw[List.length_append]
  exact EndOf.front (by simp) (good_b8 hA _ (by simp)) (Fit.sub (.cons (t:=116) (by rw[Tr.get_set,if_pos rfl]) cut_pv (hcut.keep (kF _ _))) rfl) fun E' hE=>⟨(kF _ _).trans (Keep.sub hE rfl),by rw[hE 116 (by simp),Tr.get_set,if_pos rfl],rfl⟩
 ·rintro⟨E1,H1⟩ ⟨k1,k2,k3⟩
  simp only at k1 k2 k3
  subst k3
  have g115:=k1 115 (by simp)
  rw[h115] at g115
  have e1:decide ((es.length:Int) < (es.length:Int))=false:=dec_f (by omega)
  rw[List.take_length,b8_congr (g:=es.foldl setE fun _=> -2) (g':=nextG es) fun b _=>setE_fold es _ hok.ord]
  generalize hQ:(fun r:Ex×St=>r.1.stop=true∧_)=Q
  simp (implicitDefEqProofs:=false) only[SP,SA,WP,sevalprocAttr,-List.reduceReplicate,b_table_Compile_l3,k2,g115,e1]
  subst hQ
  exact⟨rfl,_,rfl,Keep.set (Keep.sub k1 rfl) rfl⟩
end
end Go.AM.B1
namespace Go.AM.B1
open Go.AM Go.AM.So
theorem clone_run {v:PV} {l:List (Int×Int)} (h:HeldPart v l):∃ w,F_slices_Clone_api_Span_api_Span [v]=some w∧IsL 2 w (prs l)∧(l≠[]→w= .lit 2 (prs l)):=by
 rcases h.is with⟨rfl,hl⟩ | rfl
 ·refine⟨.nils,?_,.inl ⟨rfl,hl⟩,fun hne=>absurd (by simpa[prs] using hl) hne⟩
  simp (implicitDefEqProofs:=false) only[F_slices_Clone_api_Span_api_Span,SP,SA,SQ,WP,WQ,sevalprocAttr,-List.reduceReplicate,b_slices_Clone_api_Span_api_Span]
 ·refine⟨.lit 2 (prs l),?_,.inr rfl,fun _=>rfl⟩
  have hr:roomOk (prs l).length 16:=by have:=h.sz;unfold roomOk;simp;omega
  generalize prs l=es at *
  simp (implicitDefEqProofs:=false) only[F_slices_Clone_api_Span_api_Span,SP,SA,SQ,WP,WQ,sevalprocAttr,-List.reduceReplicate,b_slices_Clone_api_Span_api_Span,eq_true hr]
abbrev envK1 (S P:PV) (n i m j:Int):Tr:=((((((((Tr.lf.set 22 (.pv (i64 j))).set 21 (.pv (i64 m))).set 20 (.pv P)).set 12 (.pv (i64 i))).set 11 (.pv (i64 n))).set 10 (.pv S)).set 6 (.ptr 4 0)).set 3 (.ptr 1 0)).set 2 (.ptr 0 0)
abbrev envK0 (S:PV) (n i:Int):Tr:=((((Tr.lf.set 12 (.pv (i64 i))).set 11 (.pv (i64 n))).set 10 (.pv S)).set 3 (.ptr 1 0)).set 2 (.ptr 0 0)
abbrev hpK (out:List PV) (nl:Bool):List AObj:=[.box [.pv .nils],.box [.uq 2 nl 2 out],.tok 2 out.length nl]
abbrev hpK1 (out:List PV) (nl:Bool) (P:PV) (f:Int) (ps:List PV) (nl1:Bool):List AObj:=[.box [.pv .nils],.box [.uq 2 nl 2 out],.tok 2 out.length nl,.box [.pv P,.pv (i64 f)],.box [.uq 5 nl1 1 ps,.pv (i64 f)],.tok 1 ps.length nl1]
theorem copy_inner {P S:PV} {ls:List (List (Int×Int))} {ps:List PV} (hP:HeldParts P ls ps) (hok:∀ l∈ls,l≠[]) (h8:ls.length≤8) (out:List PV) (nl:Bool) (f n i:Int):
 ∃ E nl1,loopA (roundA (evalC (callL (fun _=>none) 8) b_scheme_Copy_l1) (clean 6 [2,3,6,10,11,12,20,21,22])) rounds ⟨envK1 S P n i ls.length 0,hpK1 out nl P f [] true⟩=
  some (.exit 2,⟨E,hpK1 out nl P f (ls.map encPart) nl1⟩)∧(nl1=true→ls=[])∧E.get 2= .ptr 0 0∧E.get 3= .ptr 1 0∧E.get 6= .ptr 4 0∧E.get 10= .pv S∧E.get 11= .pv (i64 n)∧E.get 12= .pv (i64 i):=by
 have key:=loopN_wp (g:=roundA (evalC (callL (fun _=>none) 8) b_scheme_Copy_l1) (clean 6 [2,3,6,10,11,12,20,21,22]))
  (fun j t=>∃ nl1,t=⟨envK1 S P n i ls.length j,hpK1 out nl P f ((ls.take j).map encPart) nl1⟩∧(nl1=true→j=0))
  (Q:=fun r=>∃ E nl1,r=(.exit 2,⟨E,hpK1 out nl P f (ls.map encPart) nl1⟩)∧(nl1=true→ls=[])∧E.get 2= .ptr 0 0∧E.get 3= .ptr 1 0∧E.get 6= .ptr 4 0∧E.get 10= .pv S∧E.get 11= .pv (i64 n)∧E.get 12= .pv (i64 i))
  ls.length (by unfold rounds;omega) ⟨envK1 S P n i ls.length (0:Nat),hpK1 out nl P f [] true⟩ ⟨true,rfl,fun _=>rfl⟩ ?_ ?_
 ·obtain⟨r,h1,_,E,nl1,rfl,h2⟩:=wpO_spec key
  exact⟨E,nl1,h1,h2⟩
 ·rintro j t hj ⟨nl1,rfl,hnl⟩
  obtain⟨v,hv,hpt,_⟩:=hP.iaddr hj []
  have a1:=hP.iaddrU hv
  obtain⟨w,hcl,_,hw⟩:=clone_run hpt
  have hw:=hw (hok _ (List.getElem_mem hj))
  subst hw
  have htk:(ls.take (j+1)).map encPart=(ls.take j).map encPart++[.lit 2 (prs ls[j])]:=by
   rw[List.take_succ_eq_append_getElem hj,List.map_append];rfl
  have hpl:((ls.take j).map encPart).length=j:=by simp;omega
  generalize ls[j]=l at *
  have e1:decide ((j:Int) < (ls.length:Int))=true:=dec_t (by omega)
  have t2:=stepWrap hj (by unfold maxLen;omega)
  have r1:∀ H (x:PV),loadA H false 1 (.pv (.rp [x] 0))=some (.pv x):=fun H x=>rfl
  have hap:=uq_append (A:=hpK1 out nl P f ((ls.take j).map encPart) nl1) (id:=5) (n:=j) (h:= .uq) (ag:=false) (nl:=nl1) (sz:=1) (bytes:=24) (es:=(ls.take j).map encPart) (by show some (AObj.tok 1 ((ls.take j).map encPart).length nl1)=_;rw[hpl]) hpl.symm (by unfold roomOk;omega) (.lit 2 (prs l))
  have hlen1:((ls.take j).map encPart++[PV.lit 2 (prs l)]).length=j+1:=by rw[List.length_append,hpl];rfl
  have hap':appendA (hpK1 out nl P f ((ls.take j).map encPart) nl1) false .uq 1 false 24 (.uq 5 nl1 1 ((ls.take j).map encPart)) (.pv (.lit 1 [.lit 2 (prs l)]))=some (.uq 5 false 1 ((ls.take j).map encPart++[.lit 2 (prs l)]),[.box [.pv .nils],.box [.uq 2 nl 2 out],.tok 2 out.length nl,.box [.pv P,.pv (i64 f)],.box [.uq 5 nl1 1 ((ls.take j).map encPart),.pv (i64 f)],.tok 1 (j+1) false]):=hap
  unfold hpK1 at hap' ⊢
  rw[hpl] at hap' ⊢
  have p0:∀ (x:AV) (y z:AObj),place [.box [.pv .nils],.box [.uq 2 nl 2 out],y,.box [.pv P,.pv (i64 f)],.box [x,.pv (i64 f)],z] 0 (.ptr 4 0)=some (.ptr 4 0):=fun x y z=>rfl
  have l0:∀ (x:AV) (y z:AObj),loadA [.box [.pv .nils],.box [.uq 2 nl 2 out],y,.box [.pv P,.pv (i64 f)],.box [x,.pv (i64 f)],z] false 1 (.ptr 4 0)=some x:=fun x y z=>rfl
  have s0:∀ (x:AV) (y z:AObj) (es:List PV),storeA [.box [.pv .nils],.box [.uq 2 nl 2 out],y,.box [.pv P,.pv (i64 f)],.box [x,.pv (i64 f)],z] 1 (.ptr 4 0) (.uq 5 false 1 es)=some [.box [.pv .nils],.box [.uq 2 nl 2 out],y,.box [.pv P,.pv (i64 f)],.box [.uq 5 false 1 es,.pv (i64 f)],z]:=fun x y z es=>rfl
  generalize hp0:(ls.take j).map encPart=ps0 at *
  generalize hL:PV.lit 2 (prs l)=L at *
  have hL1:(AV.pv L).cells=[.pv L]∧(AV.pv L).one=true:=by rw[← hL];exact⟨rfl,rfl⟩
  have b5:(5 < 6)=True:=by simp
  have b4:(4 < 6)=True:=by simp
  have b2:(2 < 6)=True:=by simp
  have b1:(1 < 6)=True:=by simp
  have b0:(0 < 6)=True:=by simp
  have hLc:L.cells=[L]:=by rw[← hL];rfl
  generalize hQ:LN _ _ j=Q
  subst hL
  simp (implicitDefEqProofs:=false) only[SP,WP,setRow,sevalprocAttr,-List.reduceReplicate,b_scheme_Copy_l1,e1,t2,a1,r1,p0,l0,s0,hcl,hap',b0,b1,b2,b4,b5,clean,cutEnv,AV.cut,cutObj,mapO,deep_eq',envK1]
  subst hQ
  refine⟨false,?_,by simp⟩
  rw[htk,hlen1]
 ·rintro t ⟨nl1,rfl,hnl⟩
  rw[List.take_length]
  have e1:decide ((ls.length:Int) < (ls.length:Int))=false:=dec_f (by omega)
  generalize hQ:(fun r:Ex×St=>r.1.stop=true∧_)=Q
  simp (implicitDefEqProofs:=false) only[SP,SA,WP,sevalprocAttr,-List.reduceReplicate,b_scheme_Copy_l1,e1,envK1]
  subst hQ
  exact⟨rfl,_,nl1,rfl,fun h=>List.eq_nil_of_length_eq_zero (hnl h),by simp[Tr.get_set],by simp[Tr.get_set],by simp[Tr.get_set],by simp[Tr.get_set],by simp[Tr.get_set],by simp[Tr.get_set]⟩
theorem copy_run {S:PV} {ss:List Shp} {es:List PV} (hS:HeldSch S ss es) (hok:SchOk ss):∃ S',F_scheme_Copy [.agg [S]]=some (.agg [S'])∧IsL 2 S' (ss.map encShp):=by
 have lS:=hS.lenA
 have h32:=hok.len
 have hSone:(AV.pv S).one=true:=by rcases hS.is with⟨h,_⟩ | h <;> rw[h] <;> rfl
 have hloop:wpO (fun r=>∃ E nl,r=(.exit 0,⟨E,hpK (ss.map encShp) nl⟩)∧(nl=true→ss=[])∧E.get 2= .ptr 0 0∧E.get 3= .ptr 1 0)
  (loopA (roundA (evalC (callL (fun _=>none) 8) b_scheme_Copy_l0) (clean 3 [2,3,10,11,12])) rounds ⟨envK0 S ss.length 0,hpK [] true⟩):=by
  refine wpO_mono (loopN_wp (g:=roundA (evalC (callL (fun _=>none) 8) b_scheme_Copy_l0) (clean 3 [2,3,10,11,12]))
   (fun i t=>∃ nl,t=⟨envK0 S ss.length i,hpK ((ss.take i).map encShp) nl⟩∧(nl=true→i=0))
   (Q:=fun r=>∃ E nl,r=(.exit 0,⟨E,hpK (ss.map encShp) nl⟩)∧(nl=true→ss=[])∧E.get 2= .ptr 0 0∧E.get 3= .ptr 1 0)
   ss.length (by unfold rounds;omega) _ ⟨true,rfl,fun _=>rfl⟩ ?_ ?_) (fun r h=>h.2)
  ·rintro i t hi ⟨nl,rfl,hnl⟩
   obtain⟨P,ps,hPs,a1⟩:=hS.iaddr hi
   have ok:=hok.shp _ (List.getElem_mem hi)
   obtain⟨hP1,hP2⟩:=hPs.Pone
   have lP:=hPs.parts.lenA
   have htk:(ss.take (i+1)).map encShp=(ss.take i).map encShp++[encShp ss[i]]:=by
    rw[List.take_succ_eq_append_getElem hi,List.map_append];rfl
   have hpl:((ss.take i).map encShp).length=i:=by simp;omega
   obtain⟨E,nl1,hin,hnl1,g2,g3,g6,g10,g11,g12⟩:=copy_inner (S:=S) hPs.parts (fun l hl=>(ok.parts l hl).1) ok.hi ((ss.take i).map encShp) nl ss[i].first ss.length i
   have hnl1f:nl1=false:=by
    cases nl1 with
    |false=>rfl
    |true=>have:=hnl1 rfl;have h2:=ok.lo;rw[this] at h2;simp at h2
   subst hnl1f
   have hes:encShp ss[i]= .agg [.lit 1 (ss[i].parts.map encPart),i64 ss[i].first]:=rfl
   rw[hes] at htk
   generalize ss[i]=p at *
   have e1:decide ((i:Int) < (ss.length:Int))=true:=dec_t (by omega)
   have t2:=stepWrap hi (by unfold maxLen;omega)
   have a2:∀ H,loadA H true 2 (.pv (.rp [P,i64 p.first] 0))=some (.pv (.agg [P,i64 p.first])):=fun H=>rfl
   generalize (ss.take i).map encShp=out at *
   generalize p.parts.map encPart=pp at *
   subst hpl
   unfold hpK1 at hin
   unfold hpK
   have hlo:(out++[PV.agg [.lit 1 pp,i64 p.first]]).length=out.length+1:=by simp
   have hap:∀ (T:List AObj),appendA ([.box [.pv .nils],.box [.uq 2 nl 2 out],.tok 2 out.length nl]++T) false .uq 2 true 32 (.uq 2 nl 2 out) (.pv (.lit 2 [.agg [.lit 1 pp,i64 p.first]]))=some (.uq 2 false 2 (out++[.agg [.lit 1 pp,i64 p.first]]),[.box [.pv .nils],.box [.uq 2 nl 2 out],.tok 2 (out.length+1) false]++T):=fun T=>
    uq_append (A:=[.box [.pv .nils],.box [.uq 2 nl 2 out],.tok 2 out.length nl]++T) (id:=2) (n:=out.length) (h:= .uq) (ag:=true) (nl:=nl) (sz:=2) (bytes:=32) (es:=out) rfl rfl (by unfold roomOk;omega) _
   have hap1:=fun a b c=>hap [a,b,c]
   simp only[List.cons_append,List.nil_append] at hap1
   have s1:∀ T:List AObj,storeA ([.box [.pv .nils],.box [.uq 2 nl 2 out],.tok 2 out.length nl,.box [.pv .nils,.pv (i64 0)]]) 2 (.ptr 3 0) (.pv (.agg [P,i64 p.first]))=some [.box [.pv .nils],.box [.uq 2 nl 2 out],.tok 2 out.length nl,.box [.pv P,.pv (i64 p.first)]]:=fun T=>
    box2_store _ _ _ _ hP1 rfl [.box [.pv .nils],.box [.uq 2 nl 2 out],.tok 2 out.length nl] _ rfl
   have s1':=s1 []
   have b5:(5 < 6)=True:=by simp
   have b4:(4 < 6)=True:=by simp
   have b2:(2 < 6)=True:=by simp
   have b1:(1 < 6)=True:=by simp
   have b0:(0 < 6)=True:=by simp
   have c2:(2 < 3)=True:=by simp
   have c1:(1 < 3)=True:=by simp
   have c0:(0 < 3)=True:=by simp
   have hz:(0 < 1)=True:=by simp
   generalize hQ:LN _ _ out.length=Q
   have hin':loopA (roundA (evalC (callL (fun _=>none) 8) b_scheme_Copy_l1) (clean 6 [2,3,6,10,11,12,20,21,22])) rounds ⟨((((((((Tr.lf.set 22 (.pv (.int .i64 0))).set 21 (.pv (i64 p.parts.length))).set 20 (.pv P)).set 12 (.pv (i64 out.length))).set 11 (.pv (i64 ss.length))).set 10 (.pv S)).set 6 (.ptr 4 0)).set 3 (.ptr 1 0)).set 2 (.ptr 0 0),[.box [.pv .nils],.box [.uq 2 nl 2 out],.tok 2 out.length nl,.box [.pv P,.pv (i64 p.first)],.box [.uq 5 true 1 [],.pv (i64 p.first)],.tok 1 0 true]⟩=_:=hin
   simp (implicitDefEqProofs:=false) only[SP,SA,SQ,sevalprocAttr,-List.reduceReplicate,roundA,b_scheme_Copy_l0,C_loop,e1,a1,a2,s1',hP1,lP,ghostA,hz,b0,b1,b2,b4,b5,clean,cutEnv,AV.cut,cutObj,cut_pv,mapO,deep_eq',envK0]
   rw[hin']
   simp (implicitDefEqProofs:=false) only[SP,SQ,WP,WQ,↓reduceIte,reduceCtorEq,Nat.reduceAdd,Nat.reduceMul,Nat.reduceLeDiff,Nat.reduceEqDiff,Int.reduceLT,Int.reduceLE,Int.reduceBEq,Int.reduceEq,Nat.reduceBEq,Nat.reduceLT,Nat.reduceSub,g2,g3,g6,g10,g11,g12,hap1,t2,c0,c1,c2,clean,cutEnv,AV.cut,cutObj,mapO,deep_eq']
   subst hQ
   exact⟨false,by rw[htk,hlo],by simp⟩
  ·rintro t ⟨nl,rfl,hnl⟩
   rw[List.take_length]
   have e1:decide ((ss.length:Int) < (ss.length:Int))=false:=dec_f (by omega)
   generalize hQ:(fun r:Ex×St=>r.1.stop=true∧_)=Q
   simp (implicitDefEqProofs:=false) only[SP,SA,WP,sevalprocAttr,-List.reduceReplicate,b_scheme_Copy_l0,e1,envK0]
   subst hQ
   exact⟨rfl,_,nl,rfl,fun h=>List.eq_nil_of_length_eq_zero (hnl h),by simp[Tr.get_set],by simp[Tr.get_set]⟩
 obtain⟨r,h1,E,nl,rfl,hnl,g2,g3⟩:=wpO_spec hloop
 have h1':loopA (roundA (evalC (callL (fun _=>none) 8) b_scheme_Copy_l0) (clean 3 [2,3,10,11,12])) rounds ⟨((((Tr.lf.set 12 (.pv (.int .i64 0))).set 11 (.pv (i64 ss.length))).set 10 (.pv S)).set 3 (.ptr 1 0)).set 2 (.ptr 0 0),[.box [.pv .nils],.box [.uq 2 true 2 []],.tok 2 0 true]⟩=_:=h1
 have hz:(0 < 2)=True:=by simp
 have c2:(2 < 3)=True:=by simp
 have c1:(1 < 3)=True:=by simp
 have c0:(0 < 3)=True:=by simp
 have hout:nl=true→ss.map encShp=[]:=fun h=>by rw[hnl h];rfl
 generalize ss.map encShp=out at *
 cases nl with
 |true=>
  refine⟨.nils,?_,.inl ⟨rfl,?_⟩⟩
  ·simp (implicitDefEqProofs:=false) only[F_scheme_Copy,SP,SA,SQ,sevalprocAttr,-List.reduceReplicate,roundA,b_scheme_Copy,C_loop,hSone,toPV_pv',lS,ghostA,hz,c0,c1,c2,clean,cutEnv,AV.cut,cutObj,cut_pv,mapO,deep_eq',h1',g2,g3]
  ·exact hout rfl
 |false=>
  refine⟨.lit 2 out,?_,.inr rfl⟩
  simp (implicitDefEqProofs:=false) only[F_scheme_Copy,SP,SA,SQ,sevalprocAttr,-List.reduceReplicate,roundA,b_scheme_Copy,C_loop,hSone,toPV_pv',lS,ghostA,hz,c0,c1,c2,clean,cutEnv,AV.cut,cutObj,cut_pv,mapO,deep_eq',h1',g2,g3]
end Go.AM.B1
namespace Go.AM.B1
open Go.AM Go.AM.So
theorem SchOk.ne {ss:List Shp} (h:SchOk ss):∀ s∈ss,0 < s.parts.length:=fun s hs=>(h.shp s hs).lo
theorem HeldSch.psz {S:PV} {ss:List Shp} {es:List PV} (h:HeldSch S ss es):∀ s∈ss,∀ l∈s.parts,l.length * 16≤140737488355328:=by
 intro s hs l hl
 obtain⟨i,hi,rfl⟩:=List.getElem_of_mem hs
 obtain⟨e,P,ps,_,_,hp⟩:=h.get hi
 obtain⟨j,hj,rfl⟩:=List.getElem_of_mem hl
 obtain⟨v,_,_,hv⟩:=hp.parts.get hj
 exact hv.sz
theorem build_run {S:PV} {ss:List Shp} {es:List PV} (hS:HeldSch S ss es):
 (¬ SchOk ss→F_auto_Build [.agg [S]]=some (.tup [.agg [.nils],i64 84]))∧
 (SchOk ss→¬PreOk ss→F_auto_Build [.agg [S]]=some (.tup [.agg [.nils],i64 110]))∧
 (SchOk ss→PreOk ss→autoS ss=none→F_auto_Build [.agg [S]]=some (.tup [.agg [.nils],i64 130]))∧
 (SchOk ss→PreOk ss→∀ l,autoS ss=some l→F_auto_Build [.agg [S]]=some (.tup [.agg [encSt l],i64 0])):=by
 have hS0:S= .nils∨∃ l,S= .lit 2 l:=by
  rcases hS.is with⟨h,_⟩ | h
  ·exact .inl h
  ·exact .inr ⟨_,h⟩
 have hp:=prefix_run hS
 refine⟨?_,?_,?_,?_⟩
 ·intro h
  exact build_err S hS0 (by decide) (hp.1 h)
 ·intro h1 h2
  obtain⟨y,a,b,h3,h4⟩:=hp.2 h1
  have hy:y=false:=by cases y with | false=>rfl | true=>exact absurd (h4.1 rfl) h2
  subst hy
  exact build_no S hS0 h3
 ·intro h1 h2 h5
  obtain⟨y,a,b,h3,h4⟩:=hp.2 h1
  have hy:=h4.2 h2
  subst hy
  obtain⟨S',hc,hs⟩:=copy_run hS h1
  exact build_full S S' ss hS0 h3 hc hs h1.len hS.psz h1.ne h5
 ·intro h1 h2 l h5
  obtain⟨y,a,b,h3,h4⟩:=hp.2 h1
  have hy:=h4.2 h2
  subst hy
  obtain⟨S',hc,hs⟩:=copy_run hS h1
  exact build_ok S S' ss hS0 h3 hc hs h1.len hS.psz h1.ne h5
end Go.AM.B1
namespace Go.AM.B1
open Go.AM Go.AM.So
theorem allPV_map:∀ (es:List PV),allPV (es.map .pv)=some es
 | []=>rfl
 |e::es=>by rw[List.map_cons,allPV,allPV_map es];rfl
def tab (f:Nat→Bool):List PV:=(List.range 256).map fun x=> .bool (f x)
def inR (l:List (Int×Int)) (x:Nat):Bool:=l.any fun p=>decide (p.1≤(x:Int))&&decide ((x:Int)≤p.2)
theorem inR_mem {l:List (Int×Int)} {x:Nat}:inR l x=true↔memR (x:Int) l:=by
 unfold inR memR;simp
theorem validR_piece {l:List (Int×Int)} {last:Int} (h:validR 255 last l=true):∀ p∈l,0≤p.1∧p.1≤p.2∧p.2≤255:=by
 induction l generalizing last with
 |nil=>intro p hp;cases hp
 |cons q l ih=>
  simp only[validR,Bool.and_eq_true,Bool.not_eq_true',Bool.or_eq_false_iff,decide_eq_false_iff_not] at h
  intro p hp
  rcases List.mem_cons.1 hp with rfl | hp
  ·omega
  ·exact ih h.2 p hp
def memB (l:List (Int×Int)) (x:Nat):Bool:=validR 255 (-2) l&&inR l x
end Go.AM.B1
namespace Go.AM.B1
open Go.AM Go.AM.So
end Go.AM.B1
namespace Go.AM.B1
open Go.AM Go.AM.So
theorem rp2_loadA (H:List AObj) (x y:PV):loadA H true 2 (.pv (.rp [x,y] 0))=some (.pv (.agg [x,y])):=rfl
theorem rp1_load (H:List AObj) (x:PV):loadA H false 1 (.pv (.rp [x] 0))=some (.pv x):=rfl
theorem rp1_place (H:List AObj) (x:PV):place H 0 (.pv (.rp [x] 0))=some (.pv (.rp [x] 0)):=rfl
theorem rp1_loadA (H:List AObj) (x:PV):loadA H true 1 (.pv (.rp [x] 0))=some (.pv (.agg [x])):=rfl
end Go.AM.B1
namespace Go.AM.B1
open Go.AM Go.AM.So
end Go.AM.B1
namespace Go.AM.B1
open Go.AM Go.AM.So
theorem meetAt_iff {p q:List (List (Int×Int))} {i:Nat} (hp:i < p.length) (hq:i < q.length) (vp:validR 255 (-2) p[i]=true) (vq:validR 255 (-2) q[i]=true):
 meetAt p q i≠[]↔∃ x,x < 256∧memB p[i] x=true∧memB q[i] x=true:=by
 have hmA:meetAt p q i=meetR (p[i].length+q[i].length) p[i] q[i]:=by
  unfold meetAt
  rw[List.getElem?_eq_getElem hp,List.getElem?_eq_getElem hq]
 have hlaw:=meetR_law _ _ _ (-2) (-2) vp vq (Nat.le_refl _)
 have hme:=validR_piece vp
 rw[hmA]
 generalize p[i]=a at *
 generalize q[i]=b at *
 constructor
 ·intro h
  obtain⟨m,hm⟩:=List.exists_mem_of_ne_nil _ h
  have h2:=(hlaw.1 m.1).1 ⟨m,hm,Int.le_refl _,hlaw.2 m hm⟩
  have h0:0≤m.1∧m.1≤255:=by
   obtain⟨pp,hpp,h3,h4⟩:=h2.1
   have:=hme pp hpp;omega
  refine⟨m.1.toNat,by omega,?_,?_⟩
  ·rw[memB,vp,Bool.true_and,inR_mem,Int.toNat_of_nonneg h0.1];exact h2.1
  ·rw[memB,vq,Bool.true_and,inR_mem,Int.toNat_of_nonneg h0.1];exact h2.2
 ·rintro⟨x,hx,h1,h2⟩ hnil
  rw[memB,vp,Bool.true_and,inR_mem] at h1
  rw[memB,vq,Bool.true_and,inR_mem] at h2
  have:=(hlaw.1 x).2 ⟨h1,h2⟩
  rw[hnil] at this
  exact memR_nil _ this
end Go.AM.B1
namespace Go.AM.B1
open Go.AM Go.AM.So
end Go.AM.B1
