/- What functions of the program compute. -/
import Derived.Test.YtdglpnpkgngcdaaGreatM10
import Derived.Test.YtdglpnpkgngcdaaGreatM9
import Derived.Test.YtdglpnpkgngcdaaGreatM7
import Derived.Test.YtdglpnpkgngcdaaGreatM8
set_option linter.unusedVariables false
set_option linter.unusedSimpArgs false
namespace Go.AM.B1
open Go.AM Go.AM.So
attribute [local irreducible] wpO
section
variable (call:CallF) {C:List (List Int)} (hC:Tab C) (hge:∀ r∈C,∀ v∈r,-2≤v) {f:Nat→Nat→Bool} (hf:∀ a,f a a=false)
include hC hge hf
end
section
variable (call:CallF) {C:List (List Int)} (hC:Tab C) (hge:∀ r∈C,∀ v∈r,-2≤v) {f:Nat→Nat→Bool} (hf:∀ a,f a a=false)
include hC hge hf
end
end Go.AM.B1
namespace Go.AM.B1
open Go.AM Go.AM.So
def co (C:List (List Int)) (o:Nat):Int:=if o=0 then 0 else cls C o
section
variable {ss:List Shp} {sets:List Al} {C:List (List Int)} (hok:SchOk ss) (hpre:PreOk ss) (W:WInv ss sets C) (hl:C.length=sets.length)
 {f:Nat→Nat→Bool} (hf:∀ a,f a a=false) (hK:∀ i j,i < C.length→j < C.length→(f i j=false↔cls C i=cls C j))
include hok hpre W hl hf hK
omit hf hK in
theorem cls_pos {t:Nat} (h0:0 < t) (ht:t < C.length):cls C t≠0:=by
 intro h
 have h1:=(W.minv hl).like_rep ht
 have h2:(leastS C.length C.flatten).like.getD t 0=0:=h
 rw[h2] at h1
 exact W.first_alone hok hpre hl h0 ht (((W.minv hl).like_iff (by omega) ht).2 h1.2.2)
omit hok hpre hf hK in
theorem co_row {o x:Nat} (ho:o < C.length) (hx:x < 256):(rowAt (leastS C.length C.flatten).C (co C o).toNat).getD x 0=nxtC C o x:=by
 rw[← W.crow hl ho hx]
 unfold co
 by_cases h:o=0
 ·rw[if_pos h,h];rfl
 ·rw[if_neg h]
  have:=((W.minv hl).like_rep ho).2.2
  unfold cls
  rw[this]
structure Both (C:List (List Int)) (o:Nat) (x:Nat) (rt:List Int×List Int) (rr:List Nat×List Edg):Prop where
 ord:OrdN C.length rr.1
 fst:rt.1=rr.1.map (co C)
 len:rt.2.length=256
 rest:∀ y,x≤y→y < 256→rt.2.getD y 0=nxtC C o y
 edges:rr.2=(List.range x).foldl (fun l (y:Nat)=>edgeR y (rt.2.getD y 0) l) []
end
end Go.AM.B1
namespace Go.AM.B1
open Go.AM Go.AM.So
attribute [local irreducible] wpO
section
variable (call:CallF) {C:List (List Int)} (hC:Tab C) (hge:∀ r∈C,∀ v∈r,-2≤v) {f:Nat→Nat→Bool} (hf:∀ a,f a a=false)
include hC hge hf
end
end Go.AM.B1
namespace Go.AM.B1
open Go.AM Go.AM.So
attribute [local irreducible] wpO
end Go.AM.B1
namespace Go.AM.B1
open Go.AM Go.AM.So
attribute [local irreducible] wpO
end Go.AM.B1
namespace Go.AM.B1
open Go.AM
def matchS (l:List (List Edg)):Nat→Int→List Int→Int×Int
 |i,_,[]=>(i,2)
 |i,st,b::r=>if (stepS l st b).2=false then ((i:Int),3) else if (stepS l st b).1= -1 then (((i+1:Nat):Int),1) else matchS l (i+1) (stepS l st b).1 r
section
variable (call:CallF) (A B:PV) (l:List (List Edg)) (hA:HeldSt A l) (bs:List Int) (hB:IsL 1 B (bs.map u8)) (hb:∀ b∈bs,0≤b∧b≤255) (hw:bs.length≤maxLen)
include hA hB hb hw
end
end Go.AM.B1
namespace Go.AM.B1
open Go.AM
section
variable (A:PV) (l:List (List Edg)) (hA:HeldSt A l)
include hA
end
section
variable (call:CallF) (av bs:List PV) (i:Nat) (a b:List Edg) (V W:PV) (hia:i < av.length) (hib:i < bs.length) (hV:av[i]? =some V) (hW:bs[i]? =some W) (hVL:IsL 3 V (a.map encE)) (hWL:IsL 3 W (b.map encE)) (hw:a.length≤maxLen)
include hia hV hVL
include hib hW hWL hw
end
end Go.AM.B1
namespace Go.AM.B1
open Go.AM
section
variable (A B:PV) (l m:List (List Edg)) (hA:HeldSt A l) (hB:HeldSt B m)
include hA hB
end
end Go.AM.B1
namespace Go.AM.B1
open Go.AM Go.AM.So
theorem edgesGo_len (row:List Int):∀ (xs:List Nat) (l:List Edg),(edgesGo row xs l).length≤l.length+xs.length
 | [],l=>by simp[edgesGo]
 |x::xs,l=>by
  rw[edgesGo]
  have h1:=edgesGo_len row xs (edgeR x (row.getD x 0) l)
  have h2:=edgeR_len x (row.getD x 0) l
  simp only[List.length_cons];omega
theorem edgesS_len (row:List Int):(edgesS row).length≤256:=by
 have:=edgesGo_len row (List.range 256) []
 simpa[edgesS] using this
theorem toldGo_len (C:List Int):∀ (k:Nat) (r:List Int×List (List Edg)),(toldGo C k r).2.length≤r.2.length+k∧∀ e∈(toldGo C k r).2,e∈r.2∨e.length≤256
 |0,r=>⟨by simp[toldGo],fun e he=> .inl he⟩
 |k+1,r=>by
  cases ho:r.1[r.2.length]? with
  |none=>rw[toldGo_end ho];exact⟨by omega,fun e he=> .inl he⟩
  |some o=>
   rw[toldGo_some ho]
   obtain⟨h1,h2⟩:=toldGo_len C k ((toldOne C o r.1).1,r.2++[edgesS (toldOne C o r.1).2])
   simp only[List.length_append,List.length_singleton] at h1
   refine⟨by omega,fun e he=> ?_⟩
   rcases h2 e he with h3 | h3
   ·simp only[List.mem_append,List.mem_singleton] at h3
    rcases h3 with h3 | h3
    ·exact .inl h3
    ·refine .inr ?_;rw[h3];exact edgesS_len _
   ·exact .inr h3
theorem toldK_len (C:List Int) (k:Nat) (o:List Int):(toldGo C k (o,[])).2.length≤k∧∀ e∈(toldGo C k (o,[])).2,e.length≤256:=by
 have h:=toldGo_len C k (o,[])
 generalize toldGo C k (o,[])=r at h ⊢
 refine⟨by simpa using h.1,fun e he=> ?_⟩
 rcases h.2 e he with h | h
 ·cases h
 ·exact h
set_option maxRecDepth 8000 in
theorem toldS_len (C:List Int):(toldS C).length≤64∧∀ e∈toldS C,e.length≤256:=toldK_len C 64 [0]
theorem autoS_len {ss:List Shp} {l:List (List Edg)} (h:autoS ss=some l):l.length≤64∧∀ e∈l,e.length≤256:=by
 unfold autoS at h
 rw[Option.map_eq_some_iff] at h
 obtain⟨r,_,rfl⟩:=h
 exact toldS_len _
theorem encEs_is (e:List Edg):IsL 3 (encEs e) (e.map encE):=by
 unfold encEs
 cases e with
 |nil=>exact .inl ⟨rfl,rfl⟩
 |cons a r=>exact .inr rfl
theorem encSt_held {l:List (List Edg)} (h1:l.length≤64) (h2:∀ e∈l,e.length≤256):HeldSt (encSt l) l:=by
 refine⟨⟨l.map encEs,.inr rfl,by simp,?_⟩,by omega,fun e he=>by have:=h2 e he;omega⟩
 intro i v e hv he
 rw[List.getElem?_map,he] at hv
 simp at hv;subst hv
 exact encEs_is e
end Go.AM.B1
namespace Go.AM.B1
open Go.AM Go.AM.So
def nextP (es:List Edg):PV:= .agg ((List.range 256).map fun b=> .int .i8 (nextG es b))
theorem setRow_full {α:Type} {cs vs:List α} (h:vs.length=cs.length):setRow cs 0 vs=vs:=by
 apply List.ext_getElem?
 intro p
 rw[So.setRow_get]
 by_cases hp:p < cs.length
 ·rw[dif_pos ⟨by omega,by omega,hp⟩];simp
 ·rw[dif_neg (by omega),List.getElem?_eq_none (by omega),List.getElem?_eq_none (by omega)]
theorem setRow_self {α:Type} (cs:List α):setRow cs 0 cs=cs:=setRow_full rfl
theorem b8_zero:AObj.box ((List.replicate 256 (PV.int .i8 0)).map .pv)=b8 fun _=>0:=by
 unfold b8 cellsOf
 rw[List.map_const',List.length_range,List.map_replicate]
theorem rep_one (n:Nat):(List.replicate n (AV.pv (.int .i8 0))).all AV.one=true:=by
 rw[List.all_eq_true];intro x hx;rw[List.eq_of_mem_replicate hx];rfl
def hpT (o0 o1 o4 o5:AObj) (c0 c1 c3 c4 c5:AV) (nl:Bool) (es:List PV):List AObj:=[o0,o1,.box [c0,c1,.uq 3 nl 256 es,c3,c4,c5],.tok 256 es.length nl,o4,o5]
section
variable {call:CallF} {o0 o1 o4 o5:AObj} {c0 c1 c3 c4 c5:AV}
 (hg:∀ nl es,HGood (hpT o0 o1 o4 o5 c0 c1 c3 c4 c5 nl es))
include hg
theorem nx_round {E:Tr} {V:PV} {l:List (List Edg)} {i:Nat} {nl:Bool} {es:List PV} (hV:IsL 1 V (l.map encEs)) (hl:l.length≤64) (hle:∀ e∈l,e.length≤256) (hok:∀ e∈l,EdgesOk e) (hi:i < l.length) (he:es.length=i)
 (h8:E.get 8= .ptr 2 0) (h101:E.get 101= .pv V) (h102:E.get 102= .pv (i64 l.length)) (h103:E.get 103= .pv (i64 i)):
 wpO (fun r=>∃ E',r=(.norm,⟨E',hpT o0 o1 o4 o5 c0 c1 c3 c4 c5 false (es++[nextP l[i]])++[b8 (nextG l[i])]⟩)∧Keep [8,101,102] E E'∧E'.get 103= .pv (i64 (i+1:Nat)))
  (evalC call b_table_Compile_l1 ⟨E,hpT o0 o1 o4 o5 c0 c1 c3 c4 c5 nl es⟩):=by
 have hV1:=hV.lit (i:=i) (by simpa using hi)
 have hml:=List.getElem_mem hi
 have hie:=hok _ hml
 have hilen:=hle _ hml
 have hA:=hg nl es
 have hAl:(hpT o0 o1 o4 o5 c0 c1 c3 c4 c5 nl es).length=6:=rfl
 have e1:decide ((i:Int) < (l.length:Int))=true:=dec_t (by omega)
 have t1:IntKind.i64.wrap ((i:Int)+1)=((i+1:Nat):Int):=wrap_nat1 (by omega)
 have hvc:(encEs l[i]).cells=[encEs l[i]]:=by unfold encEs;split <;> rfl
 have a1:iaddrA' (hpT o0 o1 o4 o5 c0 c1 c3 c4 c5 nl es) 1 (.pv V) (i:Int)=some (.pv (.rp [encEs l[i]] 0)):=by
  rw[hV1]
  simp only[iaddrA']
  rw[if_pos ⟨trivial,by unfold idxOk;rw[List.length_map];omega⟩,Int.toNat_natCast,List.getElem?_map,List.getElem?_eq_getElem hi,Option.map_some,Option.map_some,hvc]
 have hL:=encEs_is l[i]
 have lL:=hL.len
 rw[List.length_map] at lL
 have hclr:=fun (E2:Tr) (q8:E2.get 8= .ptr 2 0) (q12:E2.get 12= .pv (encEs l[i])) (q13:E2.get 13= .ptr 6 0) (q101:E2.get 101= .pv V) (q102:E2.get 102= .pv (i64 l.length)) (q103:E2.get 103= .pv (i64 i)) (q108:E2.get 108= .pv (i64 0))=>
  nx_clear (call:=call) hA (g0:=fun _=>0) (tb:=2) (by rw[hAl];omega) q8 q12 q13 q101 q102 q103 q108
 have hedg:=fun (E2:Tr) (q8:E2.get 8= .ptr 2 0) (q13:E2.get 13= .ptr 6 0) (q101:E2.get 101= .pv V) (q102:E2.get 102= .pv (i64 l.length)) (q103:E2.get 103= .pv (i64 i)) (q114:E2.get 114= .pv (encEs l[i])) (q115:E2.get 115= .pv (i64 l[i].length)) (q116:E2.get 116= .pv (i64 0))=>
  nx_edges (call:=call) hA (tb:=2) hie hL hilen (by rw[hAl];omega) q8 q13 q101 q102 q103 q114 q115 q116
 generalize l[i]=ed at *
 have s0:storeA (hpT o0 o1 o4 o5 c0 c1 c3 c4 c5 nl es++[b8 fun _=>0]) 256 (.ptr 6 0) (.pv (.agg (List.replicate 256 (PV.int .i8 0))))=some (hpT o0 o1 o4 o5 c0 c1 c3 c4 c5 nl es++[b8 fun _=>0]):=by
  have hq:=get_top (hpT o0 o1 o4 o5 c0 c1 c3 c4 c5 nl es) (b8 fun _=>0)
  have hs:=set_top (hpT o0 o1 o4 o5 c0 c1 c3 c4 c5 nl es) (b8 fun _=>0) (b8 fun _=>0)
  rw[hAl] at hq hs
  simp only[storeA,hq,AV.cells,PV.cells,List.length_map,List.length_replicate,List.map_replicate]
  rw[if_pos ⟨trivial,rep_one 256⟩]
  rw[← b8_zero,List.map_replicate] at hs ⊢
  simp only[List.length_replicate]
  rw[if_pos (by omega),setRow_self,hs]
 generalize hA1:hpT o0 o1 o4 o5 c0 c1 c3 c4 c5 nl es++[b8 fun _=>0]=A1 at *
 have hbz:hpT o0 o1 o4 o5 c0 c1 c3 c4 c5 nl es++[AObj.box ((List.replicate 256 (PV.int .i8 0)).map .pv)]=A1:=by rw[b8_zero];exact hA1
 have hap:=So.allPV_map (List.replicate 256 (PV.int .i8 0))
 rw[List.map_replicate] at hap hbz
 generalize hA0:hpT o0 o1 o4 o5 c0 c1 c3 c4 c5 nl es=A0 at *
 generalize hQ:(fun r:Ex×St=>∃ E',r=_∧_)=Q
 simp (implicitDefEqProofs:=false) only[SP,SA,WP,sevalprocAttr,-List.reduceReplicate,b_table_Compile_l1,h8,h101,h102,h103,e1,a1,rp1_load,hap,hAl,hbz,s0,List.map_replicate]
 generalize hEE:(Tr.set _ 108 _:Tr)=E2
 have k2:Keep [8,101,102,103] E E2:=by
  rw[← hEE]
  repeat refine Keep.set ?_ rfl
  exact Keep.refl _ _
 have q12:E2.get 12= .pv (encEs ed):=by rw[← hEE];simp[Tr.get_set,-List.reduceReplicate]
 have q13:E2.get 13= .ptr 6 0:=by rw[← hEE];simp[Tr.get_set,-List.reduceReplicate]
 have q108:E2.get 108= .pv (i64 0):=by rw[← hEE];simp[Tr.get_set,-List.reduceReplicate]
 refine wpO_mono (hclr E2 ((k2 8 (by simp)).trans h8) q12 q13 ((k2 101 (by simp)).trans h101) ((k2 102 (by simp)).trans h102) ((k2 103 (by simp)).trans h103) q108) ?_
 rintro r ⟨_,E3,rfl,k3⟩
 have k3:Keep [8,12,13,101,102,103] E2 E3:=k3
 have z12:=(k3 12 (by simp)).trans q12
 simp (implicitDefEqProofs:=false) only[SP,SA,WP,sevalprocAttr,-List.reduceReplicate,z12,lL]
 generalize hEE4:(Tr.set _ 116 _:Tr)=E4
 have k4:Keep [8,101,102,103] E E4:=by
  rw[← hEE4]
  repeat refine Keep.set ?_ rfl
  exact k2.trans (Keep.sub k3 rfl)
 have q13:E4.get 13= .ptr 6 0:=by rw[← hEE4];simp[Tr.get_set];exact (k3 13 (by simp)).trans q13
 have q114:E4.get 114= .pv (encEs ed):=by rw[← hEE4];simp[Tr.get_set]
 have q115:E4.get 115= .pv (i64 ed.length):=by rw[← hEE4];simp[Tr.get_set]
 have q116:E4.get 116= .pv (i64 0):=by rw[← hEE4];simp[Tr.get_set]
 refine wpO_mono (hedg E4 ((k4 8 (by simp)).trans h8) q13 ((k4 101 (by simp)).trans h101) ((k4 102 (by simp)).trans h102) ((k4 103 (by simp)).trans h103) q114 q115 q116) ?_
 rintro r ⟨_,E5,rfl,k5⟩
 have k5:Keep [8,13,101,102,103] E4 E5:=k5
 have k5':Keep [8,101,102,103] E E5:=k4.trans (Keep.sub k5 rfl)
 have z8:=(k5' 8 (by simp)).trans h8
 have z103:=(k5' 103 (by simp)).trans h103
 have z13:=(k5 13 (by simp)).trans q13
 have p2:∀ d,place (A0++[b8 (nextG ed)]) d (.ptr 2 0)=some (.ptr 2 (0+d)):=fun d=>box_place (by rw[← hA0];rfl) d 0
 have l2:loadA (A0++[b8 (nextG ed)]) false 1 (.ptr 2 2)=some (.uq 3 nl 256 es):=by rw[← hA0];rfl
 have l13:loadA (A0++[b8 (nextG ed)]) true 256 (.ptr 6 0)=some (.pv (nextP ed)):=by
  have hgt:(A0++[b8 (nextG ed)])[6]? =some (b8 (nextG ed)):=by rw[← hA0];rfl
  have hl:(cellsOf 256 fun b=>AV.pv (.int .i8 (nextG ed b))).length=256:=cellsOf_len _ _
  have:cellsOf 256 (fun b=>AV.pv (.int .i8 (nextG ed b)))=((List.range 256).map fun b=>PV.int .i8 (nextG ed b)).map .pv:=by rw[cellsOf,List.map_map];rfl
  rw[loadA,hgt]
  show partA true 256 (cellsOf 256 fun b=>AV.pv (.int .i8 (nextG ed b))) 0=_
  rw[partA,if_pos rfl,if_pos (by rw[hl];exact Nat.le_refl _),List.drop_zero,List.take_of_length_le (by rw[hl];exact Nat.le_refl _),this,mkAgg,So.allPV_map];rfl
 have hap2:appendA (A0++[b8 (nextG ed)]) false .uq 256 true 256 (.uq 3 nl 256 es) (.pv (.lit 256 [nextP ed]))=some (.uq 3 false 256 (es++[nextP ed]),[o0,o1,.box [c0,c1,.uq 3 nl 256 es,c3,c4,c5],.tok 256 (es.length+1) false,o4,o5,b8 (nextG ed)]):=by
  rw[← hA0]
  simp only[appendA,hpT,elemsP,List.cons_append,List.nil_append,List.getElem?_cons_succ,List.getElem?_cons_zero,if_true,Option.bind_some,List.length_cons,List.length_nil]
  rw[if_neg (by simp)]
  rw[if_pos ⟨trivial,trivial,trivial,by unfold roomOk;omega⟩]
  simp
 have p3:∀ d,place [o0,o1,.box [c0,c1,.uq 3 nl 256 es,c3,c4,c5],.tok 256 (es.length+1) false,o4,o5,b8 (nextG ed)] d (.ptr 2 0)=some (.ptr 2 (0+d)):=fun d=>box_place rfl d 0
 have s3:storeA [o0,o1,.box [c0,c1,.uq 3 nl 256 es,c3,c4,c5],.tok 256 (es.length+1) false,o4,o5,b8 (nextG ed)] 1 (.ptr 2 2) (.uq 3 false 256 (es++[nextP ed]))=some (hpT o0 o1 o4 o5 c0 c1 c3 c4 c5 false (es++[nextP ed])++[b8 (nextG ed)]):=by
  have:(es++[nextP ed]).length=es.length+1:=by simp
  unfold hpT
  rw[this];rfl
 obtain⟨N,hN⟩:∃ N,N=(List.range 256).map fun b=>PV.int .i8 (nextG ed b):=⟨_,rfl⟩
 have hNl:N.length=256:=by rw[hN,List.length_map,List.length_range]
 have hNo:(N.map AV.pv).all AV.one=true:=by
  rw[hN,List.all_eq_true];intro x hx
  rw[List.mem_map] at hx;obtain⟨y,hy,rfl⟩:=hx
  rw[List.mem_map] at hy;obtain⟨z,_,rfl⟩:=hy
  rfl
 have hNP:nextP ed= .agg N:=by rw[hN];rfl
 rw[hNP] at l13 hap2 s3 hQ
 have m0:(PV.agg N).cells=N:=rfl
 have m1:setRow (List.map AV.pv (List.replicate 256 (PV.int .i8 0))++[]) 0 (N.map .pv)=N.map .pv:=setRow_full (by rw[List.length_map,List.length_append,List.length_map,List.length_replicate,hNl];rfl)
 have m2:(N.map AV.pv).length=256:=by rw[List.length_map,hNl]
 have m3:=So.allPV_map N
 have m5:(256≤(List.map AV.pv (List.replicate 256 (PV.int .i8 0))++[]).length)=True:=eq_true (by rw[List.length_append,List.length_map,List.length_replicate];exact Nat.le_add_right _ _)
 have m6:List.take 256 N=N:=List.take_of_length_le (by omega)
 clear hN hNP
 simp (implicitDefEqProofs:=false) only[SP,WP,setRow,sevalprocAttr,-List.reduceReplicate,z8,z103,z13,p2,l2,l13,hap2,p3,s3,t1,m0,m1,m2,m3,m5,m6,hNo]
 subst hQ
 refine⟨_,rfl,?_,by simp[Tr.get_set]⟩
 repeat refine Keep.set ?_ rfl
 exact Keep.sub k5' rfl
end
end Go.AM.B1
namespace Go.AM.B1
open Go.AM Go.AM.So
theorem memFrom0_len {p:Int×Int} (h0:0≤p.1) (h1:p.1≤p.2):((memFrom 0 p).length:Int)=p.2 - p.1+1:=by
 rw[memFrom0 h0 h1,List.length_map,List.length_range];omega
theorem memFrom0_get {p:Int×Int} (h0:0≤p.1) (h1:p.1≤p.2) {k:Nat} (hk:(k:Int) < p.2 - p.1+1):(memFrom 0 p)[k]? =some (p.1+k):=by
 rw[memFrom0 h0 h1,List.getElem?_map,List.getElem?_range (by omega)];rfl
theorem memP_len {top:Int}:∀ {l:List (Int×Int)} {last:Int} (n:Int),validR top last l=true→sizeR n l=n+(memP l).length
 | [],_,n,_=>by simp[sizeR,memP]
 |p::l,last,n,h=>by
  obtain⟨h1,h2,h3,h4,h5⟩:=validR_cons h
  replace h1:0≤p.1:=by omega
  replace h2:p.1≤p.2:=by omega
  have hl:=memFrom0_len h1 h2
  rw[sizeR,memP_len _ h5,memP,List.length_append]
  omega
theorem memP_rank {top:Int}:∀ {l:List (Int×Int)} {last:Int} {n x:Int} {k:Nat},validR top last l=true→(memP l)[k]? =some x→rankR x n l=(n+k,true)∧0≤x∧x≤top∧last+1 < x
 | [],_,n,x,k,_,hk=>by simp[memP] at hk
 |p::l,last,n,x,k,h,hk=>by
  obtain⟨h1,h2,h3,h4,h5⟩:=validR_cons h
  replace h1:0≤p.1:=by omega
  replace h2:p.1≤p.2:=by omega
  have hl:=memFrom0_len h1 h2
  rw[memP] at hk
  rcases Nat.lt_or_ge k (memFrom 0 p).length with hlt | hge
  ·rw[List.getElem?_append_left hlt,memFrom0_get h1 h2 (by omega)] at hk
   injection hk with hk
   subst hk
   rw[rankR,if_neg (by omega),if_pos (by omega)]
   exact⟨by rw[Prod.mk.injEq];exact⟨by omega,rfl⟩,by omega,by omega,by omega⟩
  ·rw[List.getElem?_append_right hge] at hk
   obtain⟨g1,g2,g3,g4⟩:=memP_rank (n:=n+(p.2 - p.1+1)) h5 hk
   rw[rankR,if_neg (by omega),if_neg (by omega),g1]
   exact⟨by rw[Prod.mk.injEq];exact⟨by omega,rfl⟩,g2,g3,by omega⟩
theorem memP_of_rank {top:Int}:∀ {l:List (Int×Int)} {last:Int} {n x:Int},validR top last l=true→(rankR x n l).2=true→∃ k:Nat,(memP l)[k]? =some x∧(rankR x n l).1=n+k
 | [],_,n,x,_,hk=>by simp[rankR] at hk
 |p::l,last,n,x,h,hk=>by
  obtain⟨h1,h2,h3,h4,h5⟩:=validR_cons h
  replace h1:0≤p.1:=by omega
  replace h2:p.1≤p.2:=by omega
  have hl:=memFrom0_len h1 h2
  rw[rankR] at hk ⊢
  by_cases c1:x < p.1
  ·rw[if_pos c1] at hk;cases hk
  ·rw[if_neg c1] at hk ⊢
   by_cases c2:x≤p.2
   ·rw[if_pos c2]
    refine⟨(x - p.1).toNat,?_,by show n+x - p.1=_;omega⟩
    rw[memP,List.getElem?_append_left (by omega),memFrom0_get h1 h2 (by omega)]
    congr 1;omega
   ·rw[if_neg c2] at hk ⊢
    obtain⟨k,g1,g2⟩:=memP_of_rank h5 hk
    refine⟨(memFrom 0 p).length+k,?_,by rw[g2];omega⟩
    rw[memP,List.getElem?_append_right (by omega),Nat.add_sub_cancel_left];exact g1
end Go.AM.B1
