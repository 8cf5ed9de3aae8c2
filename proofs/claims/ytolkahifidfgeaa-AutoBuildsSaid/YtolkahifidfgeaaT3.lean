/- What the reference computes: what can be told apart, the automaton. -/
import Derived.Test.YtolkahifidfgeaaT2
set_option linter.unusedVariables false
set_option linter.unusedSimpArgs false
namespace Go.AM.B1
open Go.AM Go.AM.So
attribute [local irreducible] wpO
def owns (n:Nat):List AV:=(List.range n).map fun k=> .own (2 * k+1) n
def bobj (n:Nat) (f:Nat→Bool) (fl:Nat):AObj:= .seq 1 false ((tabN n f).map .pv) fl false
structure Mat (H:List AObj) (n:Nat) (f:Nat→Nat→Bool):Prop where
 len:H.length=2 * n+1
 hd:∃ nl,nl=false∧H[0]? =some (.seq 1 false (owns n) 0 nl)
 row:∀ k,k < n→∃ fl,fl≤n∧H[2 * k+1]? =some (bobj n (f k) fl)
 good:HGood H
theorem owns_len (n:Nat):(owns n).length=n:=by rw[owns,List.length_map,List.length_range]
theorem owns_get {n k:Nat} (h:k < n):(owns n)[k]? =some (.own (2 * k+1) n):=by
 rw[owns,List.getElem?_map,List.getElem?_range h];rfl
theorem bobj_cut (n:Nat) (f:Nat→Bool) (fl m:Nat):cutObj m (bobj n f fl)=some (bobj n f fl):=by
 have:((tabN n f).map AV.pv).all (AV.keep m deep)=true:=by
  rw[List.all_eq_true]
  intro v hv
  obtain⟨p,_,rfl⟩:=List.mem_map.1 hv
  rfl
 simp[cutObj,bobj,this]
theorem tabN_setAt (m:Nat) (g:Nat→Bool) {j:Nat} (hj:j < m) (b:Bool):(tabN m g).set j (.bool b)=tabN m fun x=>if x=j then b else g x:=by
 apply List.ext_getElem
 ·rw[List.length_set,tabN_len,tabN_len]
 ·intro k h1 h2
  rw[List.getElem_set,tabN_at,tabN_at]
  by_cases hk:j=k
  ·subst hk;rw[if_pos rfl,if_pos rfl]
  ·rw[if_neg hk,if_neg (Ne.symm hk)]
section
variable {H:List AObj} {n:Nat} {f:Nat→Nat→Bool} (h:Mat H n f)
include h
theorem Mat.cut:mapO (cutObj (2 * n+1)) (H.take (2 * n+1))=some H:=by
 rw[← h.len,List.take_length];exact HGood.cut h.good
theorem Mat.i0 {i:Nat} (hi:i < n):iaddrA' H 1 (.own 0 n) (i:Int)=some (.eptr 0 n i):=by
 obtain⟨nl,_,h0⟩:=h.hd
 simp only[iaddrA',h0]
 rw[if_pos (by refine⟨trivial,?_,?_⟩ <;> first | (unfold idxOk;omega) | (unfold winOk;rw[owns_len];omega))]
 simp
theorem Mat.l0 {i:Nat} (hi:i < n):loadA H false 1 (.eptr 0 n i)=some (.own (2 * i+1) n):=by
 obtain⟨nl,_,h0⟩:=h.hd
 simp only[loadA,h0]
 rw[if_pos (owns_len n)]
 simp only[partA,Bool.false_eq_true,if_false]
 exact owns_get hi
theorem Mat.i1 {i j:Nat} (hi:i < n) (hj:j < n):iaddrA' H 1 (.own (2 * i+1) n) (j:Int)=some (.eptr (2 * i+1) n j):=by
 obtain⟨fl,hf,h0⟩:=h.row i hi
 simp only[iaddrA',h0,bobj]
 rw[if_pos (by refine⟨trivial,?_,?_⟩ <;> first | (unfold idxOk;omega) | (unfold winOk;rw[List.length_map,tabN_len];omega))]
 simp
theorem Mat.l1 {i j:Nat} (hi:i < n) (hj:j < n):loadA H false 1 (.eptr (2 * i+1) n j)=some (.pv (.bool (f i j))):=by
 obtain⟨fl,hf,h0⟩:=h.row i hi
 simp only[loadA,h0,bobj]
 rw[if_pos (by rw[List.length_map,tabN_len])]
 simp only[partA,Bool.false_eq_true,if_false,List.getElem?_map,tabN_get _ hj,Option.map_some]
end
theorem Mat.store {H:List AObj} {n:Nat} {f:Nat→Nat→Bool} (h:Mat H n f) {i j:Nat} (hi:i < n) (hj:j < n):
 ∃ H',storeA H 1 (.eptr (2 * i+1) n j) (.pv (.bool true))=some H'∧Mat H' n (fun a b=>if a=i∧b=j then true else f a b):=by
 obtain⟨fl,hf,h0⟩:=h.row i hi
 have hc:(AV.pv (.bool true)).cells=[.pv (.bool true)]:=rfl
 refine⟨H.set (2 * i+1) (bobj n (fun b=>if b=j then true else f i b) n),?_,?_⟩
 ·simp only[storeA,h0,bobj,hc]
  rw[if_pos ⟨rfl,rfl⟩,if_pos ⟨by rw[List.length_map,tabN_len],by show j+1≤n;omega⟩,setRow,setRow,←List.map_set,tabN_setAt n _ hj]
 ·refine⟨by rw[List.length_set,h.len],?_,?_,?_⟩
  ·obtain⟨nl,hnl,h1⟩:=h.hd
   exact⟨nl,hnl,by rw[List.getElem?_set_ne (by omega)];exact h1⟩
  ·intro k hk
   by_cases hki:k=i
   ·subst hki
    refine⟨n,Nat.le_refl _,?_⟩
    rw[List.getElem?_set_self (by rw[h.len];omega)]
    have:(fun b=>if k=k∧b=j then true else f k b)=fun b=>if b=j then true else f k b:=by funext b;simp only[true_and]
    show _=some (bobj n (fun b=>if k=k∧b=j then true else f k b) n)
    rw[this]
   ·obtain⟨fl',hf',h1⟩:=h.row k hk
    refine⟨fl',hf',?_⟩
    have:(fun b=>if k=i∧b=j then true else f k b)=f k:=by funext b;rw[if_neg (fun h=>hki h.1)]
    rw[List.getElem?_set_ne (by omega),h1]
    show _=some (bobj n (fun b=>if k=i∧b=j then true else f k b) fl')
    rw[this]
  ·intro m hm o ho
   rw[List.length_set] at hm
   rcases List.mem_or_eq_of_mem_set ho with h1 | h1
   ·exact h.good m hm o h1
   ·subst h1;exact bobj_cut _ _ _ _
def set2 (f:Nat→Nat→Bool) (i j a b:Nat):Bool:=if (a=i∧b=j)∨(a=j∧b=i) then true else f a b
theorem set2_eq (f:Nat→Nat→Bool) (i j:Nat):(fun a b=>if a=j∧b=i then true else (if a=i∧b=j then true else f a b))=set2 f i j:=by
 funext a b
 unfold set2
 by_cases h1:a=i∧b=j
 ·by_cases h2:a=j∧b=i
  ·rw[if_pos h2,if_pos (.inl h1)]
  ·rw[if_neg h2,if_pos h1,if_pos (.inl h1)]
 ·by_cases h2:a=j∧b=i
  ·rw[if_pos h2,if_pos (.inr h2)]
  ·rw[if_neg h2,if_neg h1,if_neg (by intro h;rcases h with h | h <;> contradiction)]
def nxt (C:List (List Int)) (i x:Nat):Int:=(C.getD i []).getD x 0
def tells (C:List (List Int)) (f:Nat→Nat→Bool) (i j x:Nat):Bool:=
 ((nxt C i x != nxt C j x)&&(decide (nxt C i x < 0)||decide (nxt C j x < 0)))||(decide (nxt C i x≥0)&&decide (nxt C j x≥0)&&f (nxt C i x).toNat (nxt C j x).toNat)
structure Tab (C:List (List Int)):Prop where
 row:∀ r∈C,r.length=256
 lt:∀ r∈C,∀ v∈r,v < (C.length:Int)
 sz:C.length≤64
theorem Tab.get {C:List (List Int)} (h:Tab C) {i x:Nat} (hi:i < C.length) (hx:x < 256):C[i][x]? =some (nxt C i x)∧nxt C i x < (C.length:Int):=by
 have hm:=List.getElem_mem hi
 have hl:=h.row _ hm
 have hg:C.getD i []=C[i]:=by rw[List.getD_eq_getElem?_getD,List.getElem?_eq_getElem hi];rfl
 have h1:C[i][x]? =some (nxt C i x):=by
  unfold nxt
  rw[hg,List.getD_eq_getElem?_getD,List.getElem?_eq_getElem (by omega)];rfl
 exact⟨h1,h.lt _ hm _ (List.mem_of_getElem? h1)⟩
theorem Tab.iaddr {C:List (List Int)} (h:Tab C) {i:Nat} (hi:i < C.length) (H:List AObj):iaddrA' H 256 (.pv (.lit 256 (C.map agR))) (i:Int)=some (.pv (.rp (C[i].map i64) 0)):=by
 simp only[iaddrA']
 rw[if_pos (by refine⟨trivial,?_⟩;unfold idxOk;simp;omega)]
 simp[hi,agR,PV.cells]
theorem Tab.load {C:List (List Int)} (h:Tab C) {i x:Nat} (hi:i < C.length) (hx:x < 256) (H:List AObj):loadA H false 1 (.pv (.rp (C[i].map i64) x))=some (.pv (i64 (nxt C i x))):=
 rp_load (by rw[List.getElem?_map,(h.get hi hx).1];rfl) H
abbrev eA4 (v:PV) (n i j x:Int) (g:Bool):Tr:=((((((Tr.lf.set 9 (.pv (i64 x))).set 8 (.pv (i64 j))).set 7 (.pv (i64 i))).set 6 (.pv (.bool g))).set 4 (.own 0 n.toNat)).set 3 (.pv (i64 n))).set 0 (.pv v)
section
variable (call:CallF) {C:List (List Int)} (hC:Tab C) {i j:Nat} (hi:i < C.length) (hj:j < C.length)
include hC hi hj
theorem apart_l4_round {H:List AObj} {f:Nat→Nat→Bool} (hM:Mat H C.length f) (g:Bool) {x:Nat} (hx:x < 256):
 wpO (fun r=>(f i j=true∧∃ E,r=(.exit 8,⟨E,H⟩)∧E.get 0= .pv (.lit 256 (C.map agR))∧E.get 3= .pv (i64 C.length)∧E.get 4= .own 0 C.length∧E.get 6= .pv (.bool g)∧E.get 7= .pv (i64 i)∧E.get 8= .pv (i64 j))∨
  (f i j=false∧tells C f i j x=false∧r=(.norm,⟨eA4 (.lit 256 (C.map agR)) C.length i j (x+1:Nat) g,H⟩))∨
  (f i j=false∧tells C f i j x=true∧∃ H',Mat H' C.length (set2 f i j)∧r=(.norm,⟨eA4 (.lit 256 (C.map agR)) C.length i j (x+1:Nat) true,H'⟩)))
  (roundA (evalC call b_leadtrailref13_apart_l4) (clean (2 * C.length+1) [0,3,4,6,7,8,9]) ⟨eA4 (.lit 256 (C.map agR)) C.length i j x g,H⟩):=by
 have hcut:=hM.cut
 have a0:=hM.i0 hi
 have a1:=hM.l0 hi
 have b0:=hM.i0 hj
 have b1:=hM.l0 hj
 have a2:=hM.i1 hi hj
 have a3:=hM.l1 hi hj
 obtain⟨H1,s1,hM1⟩:=hM.store hi hj
 obtain⟨H2,s2,hM2⟩:=hM1.store hj hi
 rw[set2_eq] at hM2
 have b2:=hM1.i1 hj hi
 have hcut2:=hM2.cut
 have c0:=fun H=>hC.iaddr hi H
 have c1:=fun H=>hC.load hi hx H
 have d0:=fun H=>hC.iaddr hj H
 have d1:=fun H=>hC.load hj hx H
 have hva:=(hC.get hi hx).2
 have hvb:=(hC.get hj hx).2
 have hsz:=hC.sz
 have e1:decide ((x:Int) < 256)=true:=dec_t (by omega)
 have hq:idxOk (x:Int) 256:=by unfold idxOk;omega
 have t1:((x:Int)).toNat=x:=by simp
 have m1:x * 1=x:=by omega
 have z1:0+x=x:=by omega
 have t2:IntKind.i64.wrap ((x:Int)+1)=((x+1:Nat):Int):=wrap_int (by omega)
 have tn:((C.length:Int)).toNat=C.length:=by simp
 have hz:(0 < 2 * C.length+1)=True:=by simp
 have htl:tells C f i j x=(((nxt C i x != nxt C j x)&&(decide (nxt C i x < 0)||decide (nxt C j x < 0)))||(decide (nxt C i x≥0)&&decide (nxt C j x≥0)&&f (nxt C i x).toNat (nxt C j x).toNat)):=rfl
 have hun:0≤nxt C i x→0≤nxt C j x→iaddrA' H 1 (.own 0 C.length) (nxt C i x)=some (.eptr 0 C.length (nxt C i x).toNat)∧loadA H false 1 (.eptr 0 C.length (nxt C i x).toNat)=some (.own (2 * (nxt C i x).toNat+1) C.length)∧
  iaddrA' H 1 (.own (2 * (nxt C i x).toNat+1) C.length) (nxt C j x)=some (.eptr (2 * (nxt C i x).toNat+1) C.length (nxt C j x).toNat)∧loadA H false 1 (.eptr (2 * (nxt C i x).toNat+1) C.length (nxt C j x).toNat)=some (.pv (.bool (f (nxt C i x).toNat (nxt C j x).toNat))):=by
  intro h1 h2
  have k1:=hM.i0 (i:=(nxt C i x).toNat) (by omega)
  have k2:=hM.l0 (i:=(nxt C i x).toNat) (by omega)
  have k3:=hM.i1 (i:=(nxt C i x).toNat) (j:=(nxt C j x).toNat) (by omega) (by omega)
  have k4:=hM.l1 (i:=(nxt C i x).toNat) (j:=(nxt C j x).toNat) (by omega) (by omega)
  rw[Int.toNat_of_nonneg h1] at k1
  rw[Int.toNat_of_nonneg h2] at k3
  exact⟨k1,k2,k3,k4⟩
 generalize nxt C i x=a at *
 generalize nxt C j x=b at *
 generalize hl:(PV.lit 256 (C.map agR))=L at *
 have hR0:f i j=true→∀ E,E.get 0= .pv L→E.get 3= .pv (i64 C.length)→E.get 4= .own 0 C.length→E.get 6= .pv (.bool g)→E.get 7= .pv (i64 i)→E.get 8= .pv (i64 j)→
  ((f i j=true∧∃ E',(Ex.exit 8,(⟨E,H⟩:St))=(.exit 8,⟨E',H⟩)∧E'.get 0= .pv L∧E'.get 3= .pv (i64 C.length)∧E'.get 4= .own 0 C.length∧E'.get 6= .pv (.bool g)∧E'.get 7= .pv (i64 i)∧E'.get 8= .pv (i64 j))∨
   (f i j=false∧tells C f i j x=false∧(Ex.exit 8,(⟨E,H⟩:St))=(.norm,⟨eA4 L C.length i j (x+1:Nat) g,H⟩))∨
   (f i j=false∧tells C f i j x=true∧∃ H',Mat H' C.length (set2 f i j)∧(Ex.exit 8,(⟨E,H⟩:St))=(.norm,⟨eA4 L C.length i j (x+1:Nat) true,H'⟩))):=
  fun h E k0 k3 k4 k6 k7 k8=> .inl ⟨h,E,rfl,k0,k3,k4,k6,k7,k8⟩
 have hR1:f i j=false→tells C f i j x=false→∀ s,s=(⟨eA4 L C.length i j (x+1:Nat) g,H⟩:St)→
  ((f i j=true∧∃ E',(Ex.norm,s)=(.exit 8,⟨E',H⟩)∧E'.get 0= .pv L∧E'.get 3= .pv (i64 C.length)∧E'.get 4= .own 0 C.length∧E'.get 6= .pv (.bool g)∧E'.get 7= .pv (i64 i)∧E'.get 8= .pv (i64 j))∨
   (f i j=false∧tells C f i j x=false∧(Ex.norm,s)=(.norm,⟨eA4 L C.length i j (x+1:Nat) g,H⟩))∨
   (f i j=false∧tells C f i j x=true∧∃ H',Mat H' C.length (set2 f i j)∧(Ex.norm,s)=(.norm,⟨eA4 L C.length i j (x+1:Nat) true,H'⟩))):=
  fun h1 h2 s h3=> .inr (.inl ⟨h1,h2,by rw[h3]⟩)
 have hR2:f i j=false→tells C f i j x=true→∀ s,s=(⟨eA4 L C.length i j (x+1:Nat) true,H2⟩:St)→
  ((f i j=true∧∃ E',(Ex.norm,s)=(.exit 8,⟨E',H⟩)∧E'.get 0= .pv L∧E'.get 3= .pv (i64 C.length)∧E'.get 4= .own 0 C.length∧E'.get 6= .pv (.bool g)∧E'.get 7= .pv (i64 i)∧E'.get 8= .pv (i64 j))∨
   (f i j=false∧tells C f i j x=false∧(Ex.norm,s)=(.norm,⟨eA4 L C.length i j (x+1:Nat) g,H⟩))∨
   (f i j=false∧tells C f i j x=true∧∃ H',Mat H' C.length (set2 f i j)∧(Ex.norm,s)=(.norm,⟨eA4 L C.length i j (x+1:Nat) true,H'⟩))):=
  fun h1 h2 s h3=> .inr (.inr ⟨h1,h2,H2,hM2,by rw[h3]⟩)
 generalize hQQ:(fun r:Ex×St=>_)=QQ
 generalize hu:f i j=u at *
 cases u with
 |true=>
  simp (implicitDefEqProofs:=false) only[SP,SA,WP,sevalprocAttr,-List.reduceReplicate,b_leadtrailref13_apart_l4,e1,tn,a0,a1,a2,a3,eA4]
  subst hQQ
  exact hR0 rfl _ (by simp[Tr.get_set]) (by simp[Tr.get_set]) (by simp[Tr.get_set]) (by simp[Tr.get_set]) (by simp[Tr.get_set]) (by simp[Tr.get_set])
 |false=>
  by_cases hab:a=b
  ·have ne1:(a != b)=false:=by simp[hab]
   subst hab
   by_cases ha:a≥0
   ·have da:=dec_t ha
    have da':decide (a < 0)=false:=dec_f (by omega)
    obtain⟨k1,k2,k3,k4⟩:=hun ha ha
    rw[ne1,da,Bool.false_and,Bool.false_or,Bool.true_and,Bool.true_and] at htl
    generalize hw:f a.toNat a.toNat=w at *
    cases w with
    |true=>
     simp (implicitDefEqProofs:=false) only[SP,SA,WP,sevalprocAttr,-List.reduceReplicate,b_leadtrailref13_apart_l4,e1,tn,a0,a1,a2,a3,b0,b1,b2,c0,c1,d0,d1,eq_true hq,t1,m1,z1,rp_place,ne1,da,k1,k2,k3,k4,s1,s2,t2,hcut2,hz,clean,cutEnv,AV.cut,deep_eq',eA4]
     subst hQQ
     exact hR2 rfl htl _ (by simp only[eA4,tn])
    |false=>
     simp (implicitDefEqProofs:=false) only[SP,SA,WP,sevalprocAttr,-List.reduceReplicate,b_leadtrailref13_apart_l4,e1,tn,a0,a1,a2,a3,b0,b1,b2,c0,c1,d0,d1,eq_true hq,t1,m1,z1,rp_place,ne1,da,k1,k2,k3,k4,t2,hcut,hz,clean,cutEnv,AV.cut,deep_eq',eA4]
     subst hQQ
     exact hR1 rfl htl _ (by simp only[eA4,tn])
   ·have da:=dec_f ha
    rw[ne1,da,Bool.false_and,Bool.false_or,Bool.false_and,Bool.false_and] at htl
    simp (implicitDefEqProofs:=false) only[SP,SA,WP,sevalprocAttr,-List.reduceReplicate,b_leadtrailref13_apart_l4,e1,tn,a0,a1,a2,a3,b0,b1,b2,c0,c1,d0,d1,eq_true hq,t1,m1,z1,rp_place,ne1,da,t2,hcut,hz,clean,cutEnv,AV.cut,deep_eq',eA4]
    subst hQQ
    exact hR1 rfl htl _ (by simp only[eA4,tn])
  ·have ne1:(a != b)=true:=by simp[hab]
   by_cases ha:a < 0
   ·have da:=dec_t ha
    rw[ne1,da] at htl
    simp only[Bool.true_and,Bool.true_or] at htl
    simp (implicitDefEqProofs:=false) only[SP,SA,WP,sevalprocAttr,-List.reduceReplicate,b_leadtrailref13_apart_l4,e1,tn,a0,a1,a2,a3,b0,b1,b2,c0,c1,d0,d1,eq_true hq,t1,m1,z1,rp_place,ne1,da,s1,s2,t2,hcut2,hz,clean,cutEnv,AV.cut,deep_eq',eA4]
    subst hQQ
    exact hR2 rfl htl _ (by simp only[eA4,tn])
   ·have da:=dec_f ha
    have da':decide (a≥0)=true:=dec_t (by omega)
    by_cases hb:b < 0
    ·have db:=dec_t hb
     rw[ne1,da,db] at htl
     simp only[Bool.true_and,Bool.false_or,Bool.true_or] at htl
     simp (implicitDefEqProofs:=false) only[SP,SA,WP,sevalprocAttr,-List.reduceReplicate,b_leadtrailref13_apart_l4,e1,tn,a0,a1,a2,a3,b0,b1,b2,c0,c1,d0,d1,eq_true hq,t1,m1,z1,rp_place,ne1,da,db,s1,s2,t2,hcut2,hz,clean,cutEnv,AV.cut,deep_eq',eA4]
     subst hQQ
     exact hR2 rfl htl _ (by simp only[eA4,tn])
    ·have db:=dec_f hb
     have db':decide (b≥0)=true:=dec_t (by omega)
     obtain⟨k1,k2,k3,k4⟩:=hun (by omega) (by omega)
     rw[ne1,da,db,da',db'] at htl
     simp only[Bool.true_and,Bool.false_or] at htl
     generalize hw:f a.toNat b.toNat=w at *
     cases w with
     |true=>
      simp (implicitDefEqProofs:=false) only[SP,SA,WP,sevalprocAttr,-List.reduceReplicate,b_leadtrailref13_apart_l4,e1,tn,a0,a1,a2,a3,b0,b1,b2,c0,c1,d0,d1,eq_true hq,t1,m1,z1,rp_place,ne1,da,db,da',db',k1,k2,k3,k4,s1,s2,t2,hcut2,hz,clean,cutEnv,AV.cut,deep_eq',eA4]
      subst hQQ
      exact hR2 rfl htl _ (by simp only[eA4,tn])
     |false=>
      simp (implicitDefEqProofs:=false) only[SP,SA,WP,sevalprocAttr,-List.reduceReplicate,b_leadtrailref13_apart_l4,e1,tn,a0,a1,a2,a3,b0,b1,b2,c0,c1,d0,d1,eq_true hq,t1,m1,z1,rp_place,ne1,da,db,da',db',k1,k2,k3,k4,t2,hcut,hz,clean,cutEnv,AV.cut,deep_eq',eA4]
      subst hQQ
      exact hR1 rfl htl _ (by simp only[eA4,tn])
end
end Go.AM.B1
namespace Go.AM.B1
open Go.AM Go.AM.So
attribute [local irreducible] wpO
def PairP (C:List (List Int)) (i j:Nat) (f:Nat→Nat→Bool) (g:Bool) (f':Nat→Nat→Bool) (g':Bool):Prop:=
 (f'=f∧g'=g∧(f i j=true∨∀ x,x < 256→tells C f i j x=false))∨(f i j=false∧(∃ x,x < 256∧tells C f i j x=true)∧f'=set2 f i j∧g'=true)
section
variable (call:CallF) {C:List (List Int)} (hC:Tab C)
include hC
theorem apart_l4 {i j:Nat} (hi:i < C.length) (hj:j < C.length) {H:List AObj} {f:Nat→Nat→Bool} (hM:Mat H C.length f) (g:Bool):
 wpO (fun r=>∃ E H' f' g',r=(.exit 8,⟨E,H'⟩)∧Mat H' C.length f'∧PairP C i j f g f' g'∧E.get 0= .pv (.lit 256 (C.map agR))∧E.get 3= .pv (i64 C.length)∧E.get 4= .own 0 C.length∧E.get 6= .pv (.bool g')∧E.get 7= .pv (i64 i)∧E.get 8= .pv (i64 j))
  (loopA (roundA (evalC call b_leadtrailref13_apart_l4) (clean (2 * C.length+1) [0,3,4,6,7,8,9])) rounds ⟨eA4 (.lit 256 (C.map agR)) C.length i j 0 g,H⟩):=by
 have hs2:set2 f i j i j=true:=by unfold set2;rw[if_pos (.inl ⟨rfl,rfl⟩)]
 refine wpO_mono (loopN_wp (g:=roundA (evalC call b_leadtrailref13_apart_l4) (clean (2 * C.length+1) [0,3,4,6,7,8,9]))
  (fun x t=>∃ H' f' g',t=⟨eA4 (.lit 256 (C.map agR)) C.length i j x g',H'⟩∧Mat H' C.length f'∧((f'=f∧g'=g∧(f i j=true∨∀ x',x' < x→tells C f i j x'=false))∨(f i j=false∧(∃ x,x < 256∧tells C f i j x=true)∧f'=set2 f i j∧g'=true)))
  256 (by unfold rounds;omega) _ ⟨H,f,g,rfl,hM,.inl ⟨rfl,rfl,.inr fun x h=>by omega⟩⟩ ?_ ?_) (fun r h=>h.2)
 ·rintro x t hx ⟨H',f',g',rfl,hM',hP⟩
  refine wpO_mono (apart_l4_round call hC hi hj hM' g' hx) ?_
  rintro r (⟨hu,E,rfl,k0,k3,k4,k6,k7,k8⟩ | ⟨hu,htl,rfl⟩ | ⟨hu,htl,H2,hM2,rfl⟩)
  ·refine⟨E,H',f',g',rfl,hM',?_,k0,k3,k4,k6,k7,k8⟩
   rcases hP with⟨rfl,rfl,hp⟩ | ⟨h1,h2,h3,h4⟩
   ·exact .inl ⟨rfl,rfl,.inl hu⟩
   ·exact .inr ⟨h1,h2,h3,h4⟩
  ·rcases hP with⟨rfl,rfl,hp⟩ | ⟨h1,h2,rfl,h4⟩
   ·refine⟨H',f',g',rfl,hM',.inl ⟨rfl,rfl,.inr fun x' hx'=> ?_⟩⟩
    rcases hp with hp | hp
    ·rw[hu] at hp;cases hp
    ·rcases Nat.lt_or_ge x' x with h | h
     ·exact hp x' h
     ·have:x'=x:=by omega
      subst this;exact htl
   ·rw[hs2] at hu;cases hu
  ·rcases hP with⟨rfl,rfl,hp⟩ | ⟨h1,h2,rfl,h4⟩
   ·exact⟨H2,_,true,rfl,hM2,.inr ⟨hu,⟨x,hx,htl⟩,rfl,rfl⟩⟩
   ·rw[hs2] at hu;cases hu
 ·rintro t ⟨H',f',g',rfl,hM',hP⟩
  have e1:decide (((256:Nat):Int) < 256)=false:=dec_f (by omega)
  have hfin:∀ E,E.get 0= .pv (.lit 256 (C.map agR))→E.get 3= .pv (i64 C.length)→E.get 4= .own 0 C.length→E.get 6= .pv (.bool g')→E.get 7= .pv (i64 i)→E.get 8= .pv (i64 j)→
   (Ex.exit 8,(⟨E,H'⟩:St)).1.stop=true∧∃ E' H2 f' g',(Ex.exit 8,(⟨E,H'⟩:St))=(.exit 8,⟨E',H2⟩)∧Mat H2 C.length f'∧PairP C i j f g f' g'∧E'.get 0= .pv (.lit 256 (C.map agR))∧E'.get 3= .pv (i64 C.length)∧E'.get 4= .own 0 C.length∧E'.get 6= .pv (.bool g')∧E'.get 7= .pv (i64 i)∧E'.get 8= .pv (i64 j):=
   fun E k0 k3 k4 k6 k7 k8=>⟨rfl,E,H',f',g',rfl,hM',hP,k0,k3,k4,k6,k7,k8⟩
  have tn:((C.length:Int)).toNat=C.length:=by simp
  generalize hQ:(fun r:Ex×St=>r.1.stop=true∧_)=Q
  generalize (PV.lit 256 (C.map agR))=L at *
  simp (implicitDefEqProofs:=false) only[SP,SA,WP,sevalprocAttr,-List.reduceReplicate,b_leadtrailref13_apart_l4,e1,tn,eA4]
  subst hQ
  exact hfin _ (by simp[Tr.get_set]) (by simp[Tr.get_set]) (by simp[Tr.get_set]) (by simp[Tr.get_set]) (by simp[Tr.get_set]) (by simp[Tr.get_set])
end
def falses (n:Nat) (f:Nat→Nat→Bool):Nat:=((List.range n).flatMap fun i=>(List.range n).map fun j=>(i,j)).countP fun p=> !f p.1 p.2
theorem countP_lt {α:Type} {p q:α→Bool}:∀ {l:List α},(∀ a∈l,q a=true→p a=true)→(∃ a∈l,p a=true∧q a=false)→l.countP q < l.countP p
 | [],_,⟨a,h,_⟩=>by cases h
 |b::l,h,⟨a,ha,hp,hq⟩=>by
  rw[List.countP_cons,List.countP_cons]
  have hmono:l.countP q≤l.countP p:=List.countP_mono_left fun x hx h1=>h x (by simp[hx]) h1
  rcases List.mem_cons.1 ha with rfl | ha
  ·rw[hp,hq];simp;omega
  ·have ih:=countP_lt (l:=l) (fun x hx=>h x (by simp[hx])) ⟨a,ha,hp,hq⟩
   have hb:=h b (by simp)
   cases hqb:q b with
   |false=>simp;omega
   |true=>rw[hb hqb];simp;omega
theorem falses_lt {n:Nat} {f:Nat→Nat→Bool} {i j:Nat} (hi:i < n) (hj:j < n) (h:f i j=false):falses n (set2 f i j) < falses n f:=by
 refine countP_lt ?_ ⟨(i,j),?_,?_,?_⟩
 ·rintro⟨a,b⟩ _ h1
  simp only[set2,Bool.not_eq_true'] at h1 ⊢
  split at h1
  ·cases h1
  ·exact h1
 ·rw[List.mem_flatMap]
  exact⟨i,by simpa using hi,by rw[List.mem_map];exact⟨j,by simpa using hj,rfl⟩⟩
 ·simp[h]
 ·simp[set2]
theorem falses_le (n:Nat) (f:Nat→Nat→Bool):falses n f≤n * n:=by
 refine Nat.le_trans List.countP_le_length ?_
 have:∀ l:List Nat,(l.flatMap fun i=>(List.range n).map fun j=>(i,j)).length=l.length * n:=by
  intro l
  induction l with
  |nil=>simp
  |cons a l ih=>rw[List.flatMap_cons,List.length_append,ih,List.length_map,List.length_range,List.length_cons,Nat.succ_mul];omega
 rw[this,List.length_range]
 exact Nat.le_refl _
structure PInv (C:List (List Int)) (D:Nat→Nat→Prop) (f0:Nat→Nat→Bool) (done:Nat→Nat→Prop) (f:Nat→Nat→Bool) (g:Bool):Prop where
 snd:∀ a b,f a b=true→D a b
 sym:∀ a b,f a b=f b a
 keep:g=false→f=f0∧∀ i j,done i j→f i j=true∨∀ x,x < 256→tells C f i j x=false
 le:falses C.length f≤falses C.length f0
 lt:g=true→falses C.length f < falses C.length f0
def TrueD (C:List (List Int)) (D:Nat→Nat→Prop):Prop:=(∀ a b,D a b→D b a)∧
 ∀ i j x (f:Nat→Nat→Bool),i < C.length→j < C.length→x < 256→(∀ a b,f a b=true→D a b)→tells C f i j x=true→D i j
theorem PInv.step {C:List (List Int)} {D:Nat→Nat→Prop} (hD:TrueD C D) {f0 f f':Nat→Nat→Bool} {done:Nat→Nat→Prop} {g g':Bool} (h:PInv C D f0 done f g) {i j:Nat} (hi:i < C.length) (hj:j < C.length) (hp:PairP C i j f g f' g'):
 PInv C D f0 (fun a b=>done a b∨(a=i∧b=j)) f' g':=by
 rcases hp with⟨rfl,rfl,hp⟩ | ⟨h1,⟨x,hx,h2⟩,rfl,rfl⟩
 ·refine⟨h.snd,h.sym,fun hg=>⟨(h.keep hg).1,?_⟩,h.le,h.lt⟩
  rintro a b (hd | ⟨rfl,rfl⟩)
  ·exact (h.keep hg).2 a b hd
  ·exact hp
 ·have hd:=hD.2 i j x f hi hj hx h.snd h2
  have hlt:=falses_lt hi hj h1
  have hle:=h.le
  refine⟨?_,?_,fun hg=>(by cases hg),by omega,fun _=>by omega⟩
  ·intro a b hab
   unfold set2 at hab
   split at hab
   ·next hc=>
    rcases hc with⟨rfl,rfl⟩ | ⟨rfl,rfl⟩
    ·exact hd
    ·exact hD.1 _ _ hd
   ·exact h.snd a b hab
  ·intro a b
   unfold set2
   rw[h.sym a b]
   congr 1
   apply propext
   constructor
   ·rintro (⟨h1,h2⟩ | ⟨h1,h2⟩)
    ·exact .inr ⟨h2,h1⟩
    ·exact .inl ⟨h2,h1⟩
   ·rintro (⟨h1,h2⟩ | ⟨h1,h2⟩)
    ·exact .inr ⟨h2,h1⟩
    ·exact .inl ⟨h2,h1⟩
theorem PInv.weaken {C:List (List Int)} {D:Nat→Nat→Prop} {f0 f:Nat→Nat→Bool} {done done':Nat→Nat→Prop} {g:Bool} (h:PInv C D f0 done f g) (hd:∀ a b,done' a b→done a b):PInv C D f0 done' f g:=
 ⟨h.snd,h.sym,fun hg=>⟨(h.keep hg).1,fun a b hab=>(h.keep hg).2 a b (hd a b hab)⟩,h.le,h.lt⟩
end Go.AM.B1
namespace Go.AM.B1
open Go.AM Go.AM.So
attribute [local irreducible] wpO
abbrev eA3 (v:PV) (n i j:Int) (g:Bool):Tr:=(((((Tr.lf.set 8 (.pv (i64 j))).set 7 (.pv (i64 i))).set 6 (.pv (.bool g))).set 4 (.own 0 n.toNat)).set 3 (.pv (i64 n))).set 0 (.pv v)
abbrev eA2 (v:PV) (n i:Int) (g:Bool):Tr:=((((Tr.lf.set 7 (.pv (i64 i))).set 6 (.pv (.bool g))).set 4 (.own 0 n.toNat)).set 3 (.pv (i64 n))).set 0 (.pv v)
abbrev eA1 (v:PV) (n:Int) (g:Bool):Tr:=(((Tr.lf.set 6 (.pv (.bool g))).set 4 (.own 0 n.toNat)).set 3 (.pv (i64 n))).set 0 (.pv v)
section
variable (call:CallF) {C:List (List Int)} (hC:Tab C) {D:Nat→Nat→Prop} (hD:TrueD C D) {f0:Nat→Nat→Bool}
include hC hD
theorem apart_l3 {i:Nat} (hi:i < C.length) {done:Nat→Nat→Prop} {H:List AObj} {f:Nat→Nat→Bool} (hM:Mat H C.length f) {g:Bool} (hP:PInv C D f0 done f g):
 wpO (fun r=>∃ E H' f' g',r=(.exit 6,⟨E,H'⟩)∧Mat H' C.length f'∧PInv C D f0 (fun a b=>done a b∨(a=i∧b < i)) f' g'∧E.get 0= .pv (.lit 256 (C.map agR))∧E.get 3= .pv (i64 C.length)∧E.get 4= .own 0 C.length∧E.get 6= .pv (.bool g')∧E.get 7= .pv (i64 i))
  (loopA (roundA (evalC call b_leadtrailref13_apart_l3) (clean (2 * C.length+1) [0,3,4,6,7,8])) rounds ⟨eA3 (.lit 256 (C.map agR)) C.length i 0 g,H⟩):=by
 have hsz:=hC.sz
 refine wpO_mono (loopN_wp (g:=roundA (evalC call b_leadtrailref13_apart_l3) (clean (2 * C.length+1) [0,3,4,6,7,8]))
  (fun j t=>∃ H' f' g',t=⟨eA3 (.lit 256 (C.map agR)) C.length i j g',H'⟩∧Mat H' C.length f'∧PInv C D f0 (fun a b=>done a b∨(a=i∧b < j)) f' g')
  i (by unfold rounds;omega) _ ⟨H,f,g,rfl,hM,hP.weaken fun a b h=>by rcases h with h | h;exact h;omega⟩ ?_ ?_) (fun r h=>h.2)
 ·rintro j t hj ⟨H',f',g',rfl,hM',hP'⟩
  have hj2:j < C.length:=by omega
  have hin:=apart_l4 call hC hi hj2 hM' g'
  have e1:decide ((j:Int) < (i:Int))=true:=dec_t (by omega)
  have t2:IntKind.i64.wrap ((j:Int)+1)=((j+1:Nat):Int):=wrap_int (by omega)
  have tn:((C.length:Int)).toNat=C.length:=by simp
  have hz:(0 < 2 * C.length+1)=True:=by simp
  have hcut:=hM'.cut
  have hlen:=hM'.len
  have hLN:∀ H2 f2 g2,Mat H2 C.length f2→PairP C i j f' g' f2 g2→
   LN (fun j t=>∃ H' f' g',t=⟨eA3 (.lit 256 (C.map agR)) C.length i j g',H'⟩∧Mat H' C.length f'∧PInv C D f0 (fun a b=>done a b∨(a=i∧b < j)) f' g')
    (fun r=>∃ E H' f' g',r=(.exit 6,⟨E,H'⟩)∧Mat H' C.length f'∧PInv C D f0 (fun a b=>done a b∨(a=i∧b < i)) f' g'∧E.get 0= .pv (.lit 256 (C.map agR))∧E.get 3= .pv (i64 C.length)∧E.get 4= .own 0 C.length∧E.get 6= .pv (.bool g')∧E.get 7= .pv (i64 i)) j
    (.norm,⟨eA3 (.lit 256 (C.map agR)) C.length i (j+1:Nat) g2,H2⟩):=by
   intro H2 f2 g2 h1 h2
   refine⟨H2,f2,g2,rfl,h1,(hP'.step hD hi hj2 h2).weaken ?_⟩
   rintro a b (h | ⟨rfl,h⟩)
   ·exact .inl (.inl h)
   ·rcases Nat.lt_or_ge b j with h3 | h3
    ·exact .inl (.inr ⟨rfl,h3⟩)
    ·exact .inr ⟨rfl,by omega⟩
  generalize LN _ _ j=QQ at hLN ⊢
  generalize (PV.lit 256 (C.map agR))=L at *
  simp (implicitDefEqProofs:=false) only[SP,SA,WP,sevalprocAttr,-List.reduceReplicate,b_leadtrailref13_apart_l3,e1,C_loop,hlen,hcut,hz,tn,clean,cutEnv,AV.cut,deep_eq',eA3]
  simp only[eA4,tn] at hin
  refine wpO_mono hin ?_
  rintro r ⟨E,H2,f2,g2,rfl,hM2,hP2,k0,k3,k4,k6,k7,k8⟩
  have hcut2:=hM2.cut
  have hlen2:=hM2.len
  have hLN':=hLN H2 f2 g2 hM2 hP2
  simp (implicitDefEqProofs:=false) only[SP,SA,WP,sevalprocAttr,-List.reduceReplicate,k0,k3,k4,k6,k7,k8,t2,hlen2,hcut2,hz,clean,cutEnv,AV.cut,deep_eq']
  simp only[eA3,tn] at hLN'
  exact hLN'
 ·rintro t ⟨H',f',g',rfl,hM',hP'⟩
  have e1:decide ((i:Int) < (i:Int))=false:=dec_f (by omega)
  have tn:((C.length:Int)).toNat=C.length:=by simp
  have hfin:∀ E,E.get 0= .pv (.lit 256 (C.map agR))→E.get 3= .pv (i64 C.length)→E.get 4= .own 0 C.length→E.get 6= .pv (.bool g')→E.get 7= .pv (i64 i)→
   (Ex.exit 6,(⟨E,H'⟩:St)).1.stop=true∧∃ E' H2 f' g',(Ex.exit 6,(⟨E,H'⟩:St))=(.exit 6,⟨E',H2⟩)∧Mat H2 C.length f'∧PInv C D f0 (fun a b=>done a b∨(a=i∧b < i)) f' g'∧E'.get 0= .pv (.lit 256 (C.map agR))∧E'.get 3= .pv (i64 C.length)∧E'.get 4= .own 0 C.length∧E'.get 6= .pv (.bool g')∧E'.get 7= .pv (i64 i):=
   fun E k0 k3 k4 k6 k7=>⟨rfl,E,H',f',g',rfl,hM',hP',k0,k3,k4,k6,k7⟩
  generalize hQ:(fun r:Ex×St=>r.1.stop=true∧_)=Q
  generalize (PV.lit 256 (C.map agR))=L at *
  simp (implicitDefEqProofs:=false) only[SP,SA,WP,sevalprocAttr,-List.reduceReplicate,b_leadtrailref13_apart_l3,e1,tn,eA3]
  subst hQ
  exact hfin _ (by simp[Tr.get_set]) (by simp[Tr.get_set]) (by simp[Tr.get_set]) (by simp[Tr.get_set]) (by simp[Tr.get_set])
theorem apart_l2 {H:List AObj} {f:Nat→Nat→Bool} (hM:Mat H C.length f) {g:Bool} (hP:PInv C D f0 (fun _ _=>False) f g):
 wpO (fun r=>∃ E H' f' g',r=(.exit 4,⟨E,H'⟩)∧Mat H' C.length f'∧PInv C D f0 (fun a b=>a < C.length∧b < a) f' g'∧E.get 0= .pv (.lit 256 (C.map agR))∧E.get 3= .pv (i64 C.length)∧E.get 4= .own 0 C.length∧E.get 6= .pv (.bool g'))
  (loopA (roundA (evalC call b_leadtrailref13_apart_l2) (clean (2 * C.length+1) [0,3,4,6,7])) rounds ⟨eA2 (.lit 256 (C.map agR)) C.length 0 g,H⟩):=by
 have hsz:=hC.sz
 refine wpO_mono (loopN_wp (g:=roundA (evalC call b_leadtrailref13_apart_l2) (clean (2 * C.length+1) [0,3,4,6,7]))
  (fun i t=>∃ H' f' g',t=⟨eA2 (.lit 256 (C.map agR)) C.length i g',H'⟩∧Mat H' C.length f'∧PInv C D f0 (fun a b=>a < i∧b < a) f' g')
  C.length (by unfold rounds;omega) _ ⟨H,f,g,rfl,hM,hP.weaken fun a b h=>by omega⟩ ?_ ?_) (fun r h=>h.2)
 ·rintro i t hi ⟨H',f',g',rfl,hM',hP'⟩
  have hin:=apart_l3 call hC hD hi hM' hP'
  have e1:decide ((i:Int) < (C.length:Int))=true:=dec_t (by omega)
  have t2:IntKind.i64.wrap ((i:Int)+1)=((i+1:Nat):Int):=wrap_int (by omega)
  have tn:((C.length:Int)).toNat=C.length:=by simp
  have hz:(0 < 2 * C.length+1)=True:=by simp
  have hcut:=hM'.cut
  have hlen:=hM'.len
  have hLN:∀ H2 f2 g2,Mat H2 C.length f2→PInv C D f0 (fun a b=>(a < i∧b < a)∨(a=i∧b < i)) f2 g2→
   LN (fun i t=>∃ H' f' g',t=⟨eA2 (.lit 256 (C.map agR)) C.length i g',H'⟩∧Mat H' C.length f'∧PInv C D f0 (fun a b=>a < i∧b < a) f' g')
    (fun r=>∃ E H' f' g',r=(.exit 4,⟨E,H'⟩)∧Mat H' C.length f'∧PInv C D f0 (fun a b=>a < C.length∧b < a) f' g'∧E.get 0= .pv (.lit 256 (C.map agR))∧E.get 3= .pv (i64 C.length)∧E.get 4= .own 0 C.length∧E.get 6= .pv (.bool g')) i
    (.norm,⟨eA2 (.lit 256 (C.map agR)) C.length (i+1:Nat) g2,H2⟩):=by
   intro H2 f2 g2 h1 h2
   refine⟨H2,f2,g2,rfl,h1,h2.weaken ?_⟩
   rintro a b ⟨h3,h4⟩
   rcases Nat.lt_or_ge a i with h5 | h5
   ·exact .inl ⟨h5,h4⟩
   ·exact .inr ⟨by omega,by omega⟩
  generalize LN _ _ i=QQ at hLN ⊢
  generalize (PV.lit 256 (C.map agR))=L at *
  simp (implicitDefEqProofs:=false) only[SP,SA,WP,sevalprocAttr,-List.reduceReplicate,b_leadtrailref13_apart_l2,e1,C_loop,hlen,hcut,hz,tn,clean,cutEnv,AV.cut,deep_eq',eA2]
  simp only[eA3,tn] at hin
  refine wpO_mono hin ?_
  rintro r ⟨E,H2,f2,g2,rfl,hM2,hP2,k0,k3,k4,k6,k7⟩
  have hcut2:=hM2.cut
  have hlen2:=hM2.len
  have hLN':=hLN H2 f2 g2 hM2 hP2
  simp (implicitDefEqProofs:=false) only[SP,SA,WP,sevalprocAttr,-List.reduceReplicate,k0,k3,k4,k6,k7,t2,hlen2,hcut2,hz,clean,cutEnv,AV.cut,deep_eq']
  simp only[eA2,tn] at hLN'
  exact hLN'
 ·rintro t ⟨H',f',g',rfl,hM',hP'⟩
  have e1:decide ((C.length:Int) < (C.length:Int))=false:=dec_f (by omega)
  have tn:((C.length:Int)).toNat=C.length:=by simp
  have hfin:∀ E,E.get 0= .pv (.lit 256 (C.map agR))→E.get 3= .pv (i64 C.length)→E.get 4= .own 0 C.length→E.get 6= .pv (.bool g')→
   (Ex.exit 4,(⟨E,H'⟩:St)).1.stop=true∧∃ E' H2 f' g',(Ex.exit 4,(⟨E,H'⟩:St))=(.exit 4,⟨E',H2⟩)∧Mat H2 C.length f'∧PInv C D f0 (fun a b=>a < C.length∧b < a) f' g'∧E'.get 0= .pv (.lit 256 (C.map agR))∧E'.get 3= .pv (i64 C.length)∧E'.get 4= .own 0 C.length∧E'.get 6= .pv (.bool g'):=
   fun E k0 k3 k4 k6=>⟨rfl,E,H',f',g',rfl,hM',hP',k0,k3,k4,k6⟩
  generalize hQ:(fun r:Ex×St=>r.1.stop=true∧_)=Q
  generalize (PV.lit 256 (C.map agR))=L at *
  simp (implicitDefEqProofs:=false) only[SP,SA,WP,sevalprocAttr,-List.reduceReplicate,b_leadtrailref13_apart_l2,e1,tn,eA2]
  subst hQ
  exact hfin _ (by simp[Tr.get_set]) (by simp[Tr.get_set]) (by simp[Tr.get_set]) (by simp[Tr.get_set])
end
structure Known (C:List (List Int)) (D:Nat→Nat→Prop) (f:Nat→Nat→Bool) (g:Bool):Prop where
 snd:∀ a b,f a b=true→D a b
 sym:∀ a b,f a b=f b a
 closed:g=false→∀ i j,i < C.length→j < i→f i j=true∨∀ x,x < 256→tells C f i j x=false
theorem apart_l1 (call:CallF) {C:List (List Int)} (hC:Tab C) {D:Nat→Nat→Prop} (hD:TrueD C D) {H:List AObj} {f:Nat→Nat→Bool} (hM:Mat H C.length f) (hK:Known C D f true):
 wpO (fun r=>∃ E H' f',r=(.exit 2,⟨E,H'⟩)∧Mat H' C.length f'∧Known C D f' false∧E.get 4= .own 0 C.length)
  (loopA (roundA (evalC call b_leadtrailref13_apart_l1) (clean (2 * C.length+1) [0,3,4,6])) rounds ⟨eA1 (.lit 256 (C.map agR)) C.length true,H⟩):=by
 have hsz:=hC.sz
 have hfl:∀ f,falses C.length f≤4096:=fun f=>Nat.le_trans (falses_le _ _) (Nat.mul_le_mul hsz hsz)
 refine wpO_mono (loopA_wp (g:=roundA (evalC call b_leadtrailref13_apart_l1) (clean (2 * C.length+1) [0,3,4,6]))
  (fun k t=>∃ H' f' g',t=⟨eA1 (.lit 256 (C.map agR)) C.length g',H'⟩∧Mat H' C.length f'∧Known C D f' g'∧k=falses C.length f'+if g' then 1 else 0)
  rounds (falses C.length f+1) _ (by have:=hfl f;unfold rounds;omega) ⟨H,f,true,rfl,hM,hK,rfl⟩ ?_) (fun r h=>h.2)
 rintro k t ⟨H',f',g',rfl,hM',hK',hk⟩
 have tn:((C.length:Int)).toNat=C.length:=by simp
 cases g' with
 |false=>
  have hfin:∀ E,E.get 4= .own 0 C.length→
   LQ (fun k t=>∃ H' f' g',t=⟨eA1 (.lit 256 (C.map agR)) C.length g',H'⟩∧Mat H' C.length f'∧Known C D f' g'∧k=falses C.length f'+if g' then 1 else 0)
    (fun r=>∃ E H' f',r=(.exit 2,⟨E,H'⟩)∧Mat H' C.length f'∧Known C D f' false∧E.get 4= .own 0 C.length) k (.exit 2,⟨E,H'⟩):=fun E k4=>⟨E,H',f',rfl,hM',hK',k4⟩
  generalize LQ _ _ k=QQ at hfin ⊢
  generalize (PV.lit 256 (C.map agR))=L at *
  simp (implicitDefEqProofs:=false) only[SP,SA,WP,sevalprocAttr,-List.reduceReplicate,b_leadtrailref13_apart_l1,tn,eA1]
  exact hfin _ (by simp[Tr.get_set])
 |true=>
  have hP0:PInv C D f' (fun _ _=>False) f' false:=⟨hK'.snd,hK'.sym,fun _=>⟨rfl,fun _ _ h=>h.elim⟩,Nat.le_refl _,fun h=>by cases h⟩
  have hin:=apart_l2 call hC hD hM' hP0
  have hz:(0 < 2 * C.length+1)=True:=by simp
  have hcut:=hM'.cut
  have hlen:=hM'.len
  have hLN:∀ H2 f2 g2,Mat H2 C.length f2→PInv C D f' (fun a b=>a < C.length∧b < a) f2 g2→
   LQ (fun k t=>∃ H' f' g',t=⟨eA1 (.lit 256 (C.map agR)) C.length g',H'⟩∧Mat H' C.length f'∧Known C D f' g'∧k=falses C.length f'+if g' then 1 else 0)
    (fun r=>∃ E H' f',r=(.exit 2,⟨E,H'⟩)∧Mat H' C.length f'∧Known C D f' false∧E.get 4= .own 0 C.length) k (.norm,⟨eA1 (.lit 256 (C.map agR)) C.length g2,H2⟩):=by
   intro H2 f2 g2 h1 h2
   refine⟨falses C.length f2+if g2 then 1 else 0,?_,H2,f2,g2,rfl,h1,⟨h2.snd,h2.sym,fun hg i j hi hj=>(h2.keep hg).2 i j ⟨hi,hj⟩⟩,rfl⟩
   rw[hk]
   cases g2 with
   |false=>have:=h2.le;simp;omega
   |true=>have:=h2.lt rfl;simp;omega
  generalize LQ _ _ k=QQ at hLN ⊢
  generalize (PV.lit 256 (C.map agR))=L at *
  simp (implicitDefEqProofs:=false) only[SP,SA,WP,sevalprocAttr,-List.reduceReplicate,b_leadtrailref13_apart_l1,C_loop,hlen,hcut,hz,tn,clean,cutEnv,AV.cut,deep_eq',eA1]
  simp only[eA2,tn] at hin
  refine wpO_mono hin ?_
  rintro r ⟨E,H2,f2,g2,rfl,hM2,hP2,k0,k3,k4,k6⟩
  have hcut2:=hM2.cut
  have hlen2:=hM2.len
  have hLN':=hLN H2 f2 g2 hM2 hP2
  simp (implicitDefEqProofs:=false) only[SP,SA,WP,sevalprocAttr,-List.reduceReplicate,k0,k3,k4,k6,hlen2,hcut2,hz,clean,cutEnv,AV.cut,deep_eq']
  simp only[eA1,tn] at hLN'
  exact hLN'
end Go.AM.B1
namespace Go.AM.B1
open Go.AM Go.AM.So
attribute [local irreducible] wpO
abbrev eA0 (v:PV) (n i:Int):Tr:=(((Tr.lf.set 5 (.pv (i64 i))).set 4 (.own 0 i.toNat)).set 3 (.pv (i64 n))).set 0 (.pv v)
def ownsTo (n i:Nat):List AV:=(List.range i).map fun k=> .own (2 * k+1) n
theorem ownsTo_len (n i:Nat):(ownsTo n i).length=i:=by rw[ownsTo,List.length_map,List.length_range]
theorem ownsTo_succ (n i:Nat):ownsTo n (i+1)=ownsTo n i++[.own (2 * i+1) n]:=by
 rw[ownsTo,List.range_succ,List.map_append];rfl
theorem ownsTo_cut {n i m:Nat} (h:2 * i+1≤m) (fl:Nat) (nl:Bool):cutObj m (.seq 1 false (ownsTo n i) fl nl)=some (.seq 1 false (ownsTo n i) fl nl):=by
 have:(ownsTo n i).all (AV.keep m deep)=true:=by
  rw[List.all_eq_true]
  intro v hv
  obtain⟨k,hk,rfl⟩:=List.mem_map.1 hv
  have:k < i:=by simpa using hk
  show decide (2 * k+1 < m)=true
  exact decide_eq_true (by omega)
 simp[cutObj,this]
structure MatG (H:List AObj) (n i:Nat):Prop where
 len:H.length=2 * i+1
 hd:∃ nl,H[0]? =some (.seq 1 false (ownsTo n i) 0 nl)∧(nl=true→i=0)
 row:∀ k,k < i→H[2 * k+1]? =some (bobj n (fun _=>false) 0)
 good:HGood H
theorem MatG.step {H:List AObj} {n i:Nat} (h:MatG H n i) (Y:AObj) (hY:Y= .seq 1 false [.own (2 * i+1) n] 0 false):
 MatG ((H++[bobj n (fun _=>false) 0]++[Y]).set 0 (.seq 1 false (ownsTo n (i+1)) 0 false)) n (i+1):=by
 have hl:=h.len
 refine⟨by simp[hl];omega,⟨false,?_,fun h=>by cases h⟩,?_,?_⟩
 ·rw[List.getElem?_set_self (by simp)]
 ·intro k hk
  rw[List.getElem?_set_ne (by omega)]
  rcases Nat.lt_or_ge k i with h1 | h1
  ·rw[List.getElem?_append_left (by simp;omega),List.getElem?_append_left (by omega)]
   exact h.row k h1
  ·have:k=i:=by omega
   subst this
   rw[List.getElem?_append_left (by simp;omega),List.getElem?_append_right (by omega),hl,Nat.sub_self]
   rfl
 ·intro m hm o ho
  simp only[List.length_set,List.length_append,List.length_singleton,hl] at hm
  rcases List.mem_or_eq_of_mem_set ho with h1 | h1
  ·rw[List.mem_append,List.mem_append,List.mem_singleton,List.mem_singleton] at h1
   rcases h1 with (h1 | h1) | h1
   ·exact h.good m (by omega) o h1
   ·subst h1;exact bobj_cut _ _ _ _
   ·subst h1 hY
    have:([AV.own (2 * i+1) n]).all (AV.keep m deep)=true:=by
     show (decide (2 * i+1 < m)&&true)=true
     rw[decide_eq_true (by omega)];rfl
    simp[cutObj,this]
  ·subst h1;exact ownsTo_cut (by omega) _ _
theorem repZ_false (n:Nat):repZ [.bool false] n=(tabN n fun _=>false).map AV.pv:=by
 have:∀ n,repZ [.bool false] n=List.replicate n (.pv (.bool false)):=by
  intro n
  induction n with
  |zero=>rfl
  |succ n ih=>rw[repZ,ih];rfl
 rw[this,←tabN_false,List.map_replicate]
theorem apart_l0 (call:CallF) (v:PV) (n:Nat) (hn:n≤64):
 wpO (fun r=>∃ E H,r=(.exit 0,⟨E,H⟩)∧MatG H n n∧E.get 0= .pv v∧E.get 3= .pv (i64 n)∧E.get 4= .own 0 n)
  (loopA (roundA (evalC call b_leadtrailref13_apart_l0) (fun s=>some (tidy [0,3,4,5] s))) rounds ⟨eA0 v n 0,[.seq 1 false [] 0 true]⟩):=by
 refine wpO_mono (loopN_wp (g:=roundA (evalC call b_leadtrailref13_apart_l0) (fun s=>some (tidy [0,3,4,5] s)))
  (fun i t=>∃ H,t=⟨eA0 v n i,H⟩∧MatG H n i)
  n (by unfold rounds;omega) _ ⟨_,rfl,⟨rfl,⟨true,rfl,fun _=>rfl⟩,fun k h=>by omega,?_⟩⟩ ?_ ?_) (fun r h=>h.2)
 ·intro m hm o ho
  rw[List.mem_singleton] at ho
  subst ho;rfl
 ·rintro i t hi ⟨H,rfl,hM⟩
  have e1:decide ((i:Int) < (n:Int))=true:=dec_t (by omega)
  have t2:IntKind.i64.wrap ((i:Int)+1)=((i+1:Nat):Int):=wrap_int (by omega)
  have ti:((i:Int)).toNat=i:=by simp
  have ti1:(((i+1:Nat):Int)).toNat=i+1:=by simp
  have tn:((n:Int)).toNat=n:=by simp
  have hrep:=repZ_false n
  have hl:=hM.len
  have hc:((0:Int)≤(n:Int)∧(n:Int)≤(n:Int)∧roomOk n 1)=True:=eq_true ⟨by omega,by omega,by unfold roomOk;omega⟩
  have hl1:(H++[AObj.seq 1 false ((tabN n fun _=>false).map AV.pv) 0 false]).length=2 * i+2:=by simp[hl]
  obtain⟨nl,hd,hnl⟩:=hM.hd
  have hstep:=hM.step _ rfl
  have hap:appendA (H++[AObj.seq 1 false ((tabN n fun _=>false).map AV.pv) 0 false]++[AObj.seq 1 false [AV.own (2 * i+1) n] 0 false]) true .own 1 false 24 (.own 0 i) (.own (2 * i+2) 1)=
   some (.own 0 (i+1),(H++[AObj.seq 1 false ((tabN n fun _=>false).map AV.pv) 0 false]++[AObj.seq 1 false [AV.own (2 * i+1) n] 0 false]).set 0 (.seq 1 false (ownsTo n (i+1)) 0 false)):=by
   have g0:(H++[AObj.seq 1 false ((tabN n fun _=>false).map AV.pv) 0 false]++[AObj.seq 1 false [AV.own (2 * i+1) n] 0 false])[0]? =some (.seq 1 false (ownsTo n i) 0 nl):=by
    rw[List.getElem?_append_left (by simp),List.getElem?_append_left (by omega)];exact hd
   have g1:(H++[AObj.seq 1 false ((tabN n fun _=>false).map AV.pv) 0 false]++[AObj.seq 1 false [AV.own (2 * i+1) n] 0 false])[2 * i+2]? =some (AObj.seq 1 false [AV.own (2 * i+1) n] 0 false):=by
    rw[List.getElem?_append_right (by rw[hl1];exact Nat.le_refl _),hl1,Nat.sub_self];rfl
   simp only[appendA,if_true,g0,elemsA,g1,List.length_singleton]
   rw[if_pos ⟨trivial,trivial⟩]
   simp only[Option.bind_some]
   rw[if_pos ⟨trivial,by rw[ownsTo_len];omega,by unfold roomOk;omega,rfl⟩,ownsTo_succ]
   simp
  have hLN:LN (fun i t=>∃ H,t=⟨eA0 v n i,H⟩∧MatG H n i) (fun r=>∃ E H,r=(.exit 0,⟨E,H⟩)∧MatG H n n∧E.get 0= .pv v∧E.get 3= .pv (i64 n)∧E.get 4= .own 0 n) i
   (.norm,⟨eA0 v n (i+1:Nat),(H++[AObj.seq 1 false ((tabN n fun _=>false).map AV.pv) 0 false]++[AObj.seq 1 false [AV.own (2 * i+1) n] 0 false]).set 0 (.seq 1 false (ownsTo n (i+1)) 0 false)⟩):=⟨_,rfl,hstep⟩
  generalize LN _ _ i=QQ at hLN ⊢
  generalize ownsTo n (i+1)=ow at *
  simp (implicitDefEqProofs:=false) only[SP,WP,setRow,sevalprocAttr,-List.reduceReplicate,b_leadtrailref13_apart_l0,e1,t2,ti,ti1,tn,hc,hrep,hl,hl1,hap,tidy,keepEnv,eA0]
  simp only[eA0,ti1] at hLN
  exact hLN
 ·rintro t ⟨H,rfl,hM⟩
  have e1:decide ((n:Int) < (n:Int))=false:=dec_f (by omega)
  have tn:((n:Int)).toNat=n:=by simp
  have hfin:∀ E,E.get 0= .pv v→E.get 3= .pv (i64 n)→E.get 4= .own 0 n→(Ex.exit 0,(⟨E,H⟩:St)).1.stop=true∧∃ E' H',(Ex.exit 0,(⟨E,H⟩:St))=(.exit 0,⟨E',H'⟩)∧MatG H' n n∧E'.get 0= .pv v∧E'.get 3= .pv (i64 n)∧E'.get 4= .own 0 n:=fun E k0 k3 k4=>⟨rfl,E,H,rfl,hM,k0,k3,k4⟩
  generalize hQ:(fun r:Ex×St=>r.1.stop=true∧_)=Q
  simp (implicitDefEqProofs:=false) only[SP,SA,WP,sevalprocAttr,-List.reduceReplicate,b_leadtrailref13_apart_l0,e1,tn,eA0]
  subst hQ
  exact hfin _ (by simp[Tr.get_set]) (by simp[Tr.get_set]) (by simp[Tr.get_set])
theorem chunk1:∀ l:List PV,chunk 1 false l.length l=l
 | []=>rfl
 |a::l=>by simp only[List.length_cons,chunk,Bool.false_eq_true,if_false,List.headD_cons,List.drop_succ_cons,List.drop_zero,chunk1 l]
theorem mapO_map {α β γ:Type} (f:β→Option γ) (g:α→β) (k:α→γ):∀ (l:List α),(∀ a∈l,f (g a)=some (k a))→mapO f (l.map g)=some (l.map k)
 | [],_=>rfl
 |a::l,h=>by
  rw[List.map_cons,mapO,h a (by simp),mapO_map f g k l (fun x hx=>h x (by simp[hx]))];rfl
def matP (n:Nat) (f:Nat→Nat→Bool):PV:= .lit 1 ((List.range n).map fun i=> .lit 1 (tabN n (f i)))
theorem Mat.toPV {H:List AObj} {n:Nat} {f:Nat→Nat→Bool} (h:Mat H n f):Go.AM.toPV H 6 (.own 0 n)=some (matP n f):=by
 obtain⟨nl,hnl,h0⟩:=h.hd
 subst hnl
 have hrow:∀ k∈List.range n,Go.AM.toPV H 5 (.own (2 * k+1) n)=some (.lit 1 (tabN n (f k))):=by
  intro k hk
  obtain⟨fl,hf,h1⟩:=h.row k (by simpa using hk)
  simp only[Go.AM.toPV,h1,bobj]
  rw[if_pos ⟨by rw[List.length_map,tabN_len];omega,rfl⟩,mapO_pv]
  simp only[Bool.false_eq_true,if_false,Option.map_some]
  have:=chunk1 (tabN n (f k))
  rw[tabN_len] at this
  rw[this]
 simp only[Go.AM.toPV,h0]
 rw[if_pos ⟨by rw[owns_len];omega,rfl⟩,owns,mapO_map _ _ _ _ hrow]
 simp only[Bool.false_eq_true,if_false,Option.map_some,matP]
 have:=chunk1 ((List.range n).map fun i=>PV.lit 1 (tabN n (f i)))
 rw[List.length_map,List.length_range] at this
 rw[this]
theorem MatG.mat {H:List AObj} {n:Nat} (h:MatG H n n) (hn:0 < n):Mat H n fun _ _=>false:=by
 obtain⟨nl,h1,h2⟩:=h.hd
 refine⟨h.len,⟨nl,?_,h1⟩,fun k hk=>⟨0,by omega,h.row k hk⟩,h.good⟩
 cases nl with
 |false=>rfl
 |true=>have:=h2 rfl;omega
theorem apart_run {C:List (List Int)} (hC:Tab C) (hn:0 < C.length) {D:Nat→Nat→Prop} (hD:TrueD C D):
 ∃ f,Known C D f false∧F_leadtrailref13_apart [.lit 256 (C.map agR)]=some (matP C.length f):=by
 have hl0:=apart_l0 (callL (fun _=>none) 8) (.lit 256 (C.map agR)) C.length hC.sz
 have ln:lenA [] 0 (.pv (.lit 256 (C.map agR)))=some C.length:=by simp[lenA]
 have tn:((C.length:Int)).toNat=C.length:=by simp
 have g1:(0 < 1)=True:=by simp
 have hz:(0 < 2 * C.length+1)=True:=by simp
 have key:wpO (fun r=>∃ f,Known C D f false∧r=matP C.length f) (F_leadtrailref13_apart [.lit 256 (C.map agR)]):=by
  have hl1:=fun {H} (hM:Mat H C.length fun _ _=>false)=>apart_l1 (callL (fun _=>none) 8) hC hD hM ⟨fun a b h=>(by cases h),fun a b=>rfl,fun h=>(by cases h)⟩
  generalize hQQ:(fun r:PV=>_)=QQ
  generalize (PV.lit 256 (C.map agR))=L at *
  simp (implicitDefEqProofs:=false) only[F_leadtrailref13_apart,SP,WP,setRow,sevalprocAttr,-List.reduceReplicate,b_leadtrailref13_apart,ln,ghostA,g1,C_loopG,C_loop,tidy,keepEnv]
  refine wpO_mono hl0 ?_
  rintro r ⟨E,H,rfl,hM,k0,k3,k4⟩
  have hM2:=hM.mat hn
  have hcut:=hM2.cut
  have hlen:=hM2.len
  have hl1':=hl1 hM2
  simp (implicitDefEqProofs:=false) only[SP,WP,setRow,sevalprocAttr,-List.reduceReplicate,C_loop,k0,k3,k4,hlen,hcut,hz,clean,cutEnv,AV.cut,deep_eq']
  simp only[eA1,tn] at hl1'
  refine wpO_mono hl1' ?_
  rintro r ⟨E,H,f,rfl,hM3,hK,k4⟩
  have hpv:=hM3.toPV
  simp (implicitDefEqProofs:=false) only[SP,WP,setRow,sevalprocAttr,-List.reduceReplicate,k4,hpv]
  subst hQQ
  exact⟨f,hK,rfl⟩
 obtain⟨r,h1,f,hK,rfl⟩:=wpO_spec key
 exact⟨f,hK,h1⟩
end Go.AM.B1
namespace Go.AM.B1
open Go.AM
def bTail:ACode:=(.seq (.region [Cv 92 13,Co 93 (.len 0 (.t 92)),Co 94 (.bin .gtr (.t 93) (.c (.int .i64 0))),Cv 95 94,Cg 96 95 true (.move (.t 13)),Cg 97 95 true (.move (.t 13)),Cg 98 95 true (.len 0 (.t 97)),Cg 99 95 true (.bin .sub (.t 98) (.c (.int .i64 1))),Cg 100 95 true (.iaddr 3 (.t 96) (.t 99)),Cg 101 95 true (.faddr 2 (.t 100)),Cg 102 95 true (.load false 1 (.t 101)),Cg 103 95 true (.move (.t 15)),Cg 104 95 true (.bin .eql (.t 102) (.t 103)),Co 105 (.pick (.t 95) (.t 104) (.c (.bool false))),Cv 106 105,Cg 107 106 true (.move (.t 13)),Cg 108 106 true (.move (.t 13)),Cg 109 106 true (.len 0 (.t 108)),Cg 110 106 true (.bin .sub (.t 109) (.c (.int .i64 1))),Cg 111 106 true (.iaddr 3 (.t 107) (.t 110)),Cg 112 106 true (.faddr 1 (.t 111)),Cg 113 106 true (.load false 1 (.t 112)),Cg 114 106 true (.move (.t 14)),Cg 115 106 true (.bin .sub (.t 114) (.c (.int .i64 1))),Cg 116 106 true (.bin .eql (.t 113) (.t 115)),Co 117 (.pick (.t 106) (.t 116) (.c (.bool false)))]) (.cond (.t 117) (.region [Cv 118 13,Cv 119 13,Co 120 (.len 0 (.t 119)),Co 121 (.bin .sub (.t 120) (.c (.int .i64 1))),Cv 122 14,Co 123 (.iaddr 3 (.t 118) (.t 121)),Co 124 (.faddr 1 (.t 123)),Ce (.store 1 (.t 124) (.t 122))]) (.region [Cv 125 13,Cv 126 14,Cv 127 14,Cv 128 15,Co 129 (.build [(.int .i64 0),(.int .i64 0),(.int .i64 0)] [(0,1,(.t 126)),(1,1,(.t 127)),(2,1,(.t 128))]),Co 130 (.bslice .lit 3 true 1 [(.int .i64 0),(.int .i64 0),(.int .i64 0)] [(0,(.t 129))]),Co 131 (.append true .own 3 true 24 (.t 125) (.t 130)),Cv 13 131])))
def bFind:ACode:=(.seq (.region [Cv 63 15,Co 64 (.bin .geq (.t 63) (.c (.int .i64 0)))]) (.cond (.t 64) (.seq (.region [Co 16 (.move (.c (.int .i64 0)))]) (.seq (.block 4 (.loop [2,7,9,10,11,12,13,14,15,16] b_leadtrailref13_Build_l2)) (.seq (.seq (.region [Cv 83 16,Cv 84 10,Co 85 (.len 0 (.t 84)),Co 86 (.bin .eql (.t 83) (.t 85))]) (.cond (.t 86) (.region [Cv 87 10,Cv 88 15,Co 89 (.bslice .lit 1 false 1 [(.int .i64 0)] [(0,(.t 88))]),Co 90 (.append false .uq 1 false 8 (.t 87) (.t 89)),Cv 10 90]) (.skip))) (.region [Cv 91 16,Cv 15 91])))) (.skip)))
theorem build_l1_eq:b_leadtrailref13_Build_l1=
 (.seq (.seq (.region [⟨(some 48),.move (.t 14),none,false⟩,
 ⟨(some 49),.bin .lss (.t 48) (.c (.int .i64 256)),none,false⟩])
 (.cond (.t 49) (.skip) (.exit 2)))
 (.seq (.block 3 (.seq (.region [⟨(some 52),.move (.t 7),none,false⟩,
  ⟨(some 53),.move (.t 10),none,false⟩,
  ⟨(some 54),.move (.t 12),none,false⟩,
  ⟨(some 55),.iaddr 1 (.t 53) (.t 54),none,false⟩,
  ⟨(some 56),.load false 1 (.t 55),none,false⟩,
  ⟨(some 57),.move (.t 14),none,false⟩,
  ⟨(some 58),.iaddr 256 (.t 52) (.t 56),none,false⟩,
  ⟨(some 59),.iaddrA 256 1 (.t 58) (.t 57),none,false⟩,
  ⟨(some 60),.load false 1 (.t 59),none,false⟩,
  ⟨(some 15),.move (.t 60),none,false⟩])
  (.seq (.seq (.region [⟨(some 61),.move (.t 15),none,false⟩,
   ⟨(some 62),.bin .eql (.t 61) (.c (.int .i64 (-2))),none,false⟩])
  (.cond (.t 62) (.exit 3) (.skip)))
  (.seq bFind
  bTail))))
 (.region [⟨(some 50),.move (.t 14),none,false⟩,
  ⟨(some 51),.bin .add (.t 50) (.c (.int .i64 1)),none,false⟩,
  ⟨(some 14),.move (.t 51),none,false⟩]))):=rfl
end Go.AM.B1
namespace Go.AM.B1
open Go.AM Go.AM.So
attribute [local irreducible] wpO
abbrev eob (l:List Edg) (fl:Nat):AObj:= .seq 3 true (rowA (flatE l)) fl l.isEmpty
section
variable (call:CallF) (E:Tr) (o0 o1 o2 o3:AObj) (x:Nat) (to:Int) (g14:E.get 14= .pv (i64 x)) (g15:E.get 15= .pv (i64 to)) (hx:x < 256) (hto:to≠ -2)
include g14 g15 hx hto
omit hx hto in
theorem bTail_first (nl:Bool) (g13:E.get 13= .own 4 0):
 wpO (fun r=>∃ E',r=(.norm,⟨E',[o0,o1,o2,o3,eob [⟨x,x,to⟩] 0]⟩)∧E'.get 13= .own 4 1∧E'.get 2=E.get 2∧E'.get 7=E.get 7∧E'.get 9=E.get 9∧E'.get 10=E.get 10∧E'.get 11=E.get 11∧E'.get 12=E.get 12∧E'.get 14=E.get 14)
  (evalC call bTail ⟨E,[o0,o1,o2,o3,.seq 3 true [] 0 nl]⟩):=by
 have ln:lenA [o0,o1,o2,o3,.seq 3 true [] 0 nl] 0 (.own 4 0)=some 0:=by
  simp only[lenA,List.getElem?_cons_succ,List.getElem?_cons_zero];rfl
 have hap:appendA [o0,o1,o2,o3,.seq 3 true [] 0 nl] true .own 3 true 24 (.own 4 0) (.pv (.lit 3 [.agg [i64 x,i64 x,i64 to]]))=some (.own 4 1,[o0,o1,o2,o3,eob [⟨x,x,to⟩] 0]):=by
  simp only[appendA,if_true,List.getElem?_cons_succ,List.getElem?_cons_zero,elemsA,elemsP,Option.map_some,Option.bind_some]
  rw[if_pos ⟨trivial,rfl,by unfold roomOk;simp,rfl⟩]
  simp[eob,flatE,rowA,flat,PV.cells]
 generalize hQQ:(fun r:Ex×St=>_)=QQ
 generalize hO:eob [⟨x,x,to⟩] 0=O at *
 simp (implicitDefEqProofs:=false) only[SP,WP,setRow,sevalprocAttr,-List.reduceReplicate,bTail,g13,g14,g15,ln,hap,partE,AV.pvu,AV.pvu1]
 subst hQQ
 refine⟨_,rfl,?_,?_,?_,?_,?_,?_,?_,?_⟩ <;> simp[Tr.get_set]
variable (l:List Edg) (e:Edg) (hl:l.length < 256) (fl:Nat) (hfl:fl≤(l.length+1) * 3) (g13:E.get 13= .own 4 (l.length+1))
include hl hfl g13
theorem bTail_next:
 wpO (fun r=>∃ E' fl',fl'≤(edgeR x to (l++[e])).length * 3∧r=(.norm,⟨E',[o0,o1,o2,o3,eob (edgeR x to (l++[e])) fl']⟩)∧E'.get 13= .own 4 (edgeR x to (l++[e])).length∧E'.get 2=E.get 2∧E'.get 7=E.get 7∧E'.get 9=E.get 9∧E'.get 10=E.get 10∧E'.get 11=E.get 11∧E'.get 12=E.get 12∧E'.get 14=E.get 14)
  (evalC call bTail ⟨E,[o0,o1,o2,o3,.seq 3 true (rowA (flatE l++[e.lo,e.hi,e.to])) fl false]⟩):=by
 have e3:decide (((l.length+1:Nat):Int) > 0)=true:=dec_t (by omega)
 have t3:IntKind.i64.wrap (((l.length+1:Nat):Int) - 1)=(l.length:Int):=by rw[wrap_int (by omega)];omega
 have t4:((l.length:Int)).toNat=l.length:=by simp
 have t5:IntKind.i64.wrap ((x:Int) - 1)=(x:Int) - 1:=wrap_int (by omega)
 have hlen:∀ h,(rowA (flatE l++[e.lo,h,e.to])).length=(l.length+1) * 3:=fun h=>by rw[rowA_len,List.length_append,flatE_len];simp;omega
 have ln:lenA [o0,o1,o2,o3,.seq 3 true (rowA (flatE l++[e.lo,e.hi,e.to])) fl false] 0 (.own 4 (l.length+1))=some (l.length+1):=by
  simp only[lenA,List.getElem?_cons_succ,List.getElem?_cons_zero]
  rw[if_pos];rw[hlen];unfold winOk;omega
 have i1:iaddrA' [o0,o1,o2,o3,.seq 3 true (rowA (flatE l++[e.lo,e.hi,e.to])) fl false] 3 (.own 4 (l.length+1)) (l.length:Int)=some (.eptr 4 ((l.length+1) * 3) (l.length * 3)):=by
  simp only[iaddrA',List.getElem?_cons_succ,List.getElem?_cons_zero]
  rw[if_pos,t4]
  refine⟨trivial,?_,?_⟩
  ·unfold idxOk;omega
  ·rw[hlen];unfold winOk;omega
 have pl:∀ d,place [o0,o1,o2,o3,.seq 3 true (rowA (flatE l++[e.lo,e.hi,e.to])) fl false] d (.eptr 4 ((l.length+1) * 3) (l.length * 3))=some (.eptr 4 ((l.length+1) * 3) (l.length * 3+d)):=by
  intro d
  simp only[place,List.getElem?_cons_succ,List.getElem?_cons_zero]
  rw[if_pos (hlen _)]
 have ld:∀ k,k < 3→loadA [o0,o1,o2,o3,.seq 3 true (rowA (flatE l++[e.lo,e.hi,e.to])) fl false] false 1 (.eptr 4 ((l.length+1) * 3) (l.length * 3+k))=some (.pv (i64 (if k=0 then e.lo else if k=1 then e.hi else e.to))):=by
  intro k hk
  simp only[loadA,List.getElem?_cons_succ,List.getElem?_cons_zero]
  rw[if_pos (hlen _)]
  have:=seq_at (flatE l) e k hk
  rw[flatE_len] at this
  simp only[partA,Bool.false_eq_true,if_false,this]
 have l1:=ld 1 (by omega)
 have l2:=ld 2 (by omega)
 simp only[if_true,Nat.one_ne_zero,if_false,show ¬(2=0) by omega,show ¬(2=1) by omega] at l1 l2
 have hst:storeA [o0,o1,o2,o3,.seq 3 true (rowA (flatE l++[e.lo,e.hi,e.to])) fl false] 1 (.eptr 4 ((l.length+1) * 3) (l.length * 3+1)) (.pv (i64 x))=some [o0,o1,o2,o3,eob (l++[⟨e.lo,x,e.to⟩]) ((l.length+1) * 3)]:=by
  have hc:(AV.pv (i64 x)).cells=[.pv (i64 x)]:=rfl
  simp only[storeA,List.getElem?_cons_succ,List.getElem?_cons_zero,hc]
  rw[if_pos ⟨rfl,rfl⟩,if_pos ⟨hlen _,by show l.length * 3+1+1≤(l.length+1) * 3;omega⟩,setRow,setRow,rowA_set]
  have:(flatE l++[e.lo,e.hi,e.to]).set (l.length * 3+1) (x:Int)=flatE (l++[⟨e.lo,x,e.to⟩]):=by
   rw[flatE_push,←flatE_len,List.set_append_right _ _ (by omega),Nat.add_sub_cancel_left];rfl
  rw[this]
  have he:(l++[(⟨e.lo,x,e.to⟩:Edg)]).isEmpty=false:=by cases l <;> rfl
  simp only[eob,he,List.set_cons_succ,List.set_cons_zero]
 have hap:appendA [o0,o1,o2,o3,.seq 3 true (rowA (flatE l++[e.lo,e.hi,e.to])) fl false] true .own 3 true 24 (.own 4 (l.length+1)) (.pv (.lit 3 [.agg [i64 x,i64 x,i64 to]]))=some (.own 4 (l.length+1+1),[o0,o1,o2,o3,eob (l++[e]++[⟨x,x,to⟩]) fl]):=by
  simp only[appendA,if_true,List.getElem?_cons_succ,List.getElem?_cons_zero,elemsA,elemsP,Option.map_some,Option.bind_some]
  rw[if_pos ⟨trivial,(hlen _).symm,by unfold roomOk;simp;omega,rfl⟩]
  have he:(l++[e]++[(⟨x,x,to⟩:Edg)]).isEmpty=false:=by cases l <;> rfl
  simp only[eob,he,flatE_push,rowA_app,List.set_cons_succ,List.set_cons_zero]
  rfl
 have hR:∀ l' fl',edgeR x to (l++[e])=l'→fl'≤l'.length * 3→∀ E',E'.get 13= .own 4 l'.length→E'.get 2=E.get 2→E'.get 7=E.get 7→E'.get 9=E.get 9→E'.get 10=E.get 10→E'.get 11=E.get 11→E'.get 12=E.get 12→E'.get 14=E.get 14→
  ∃ E'' fl'',fl''≤(edgeR x to (l++[e])).length * 3∧(Ex.norm,(⟨E',[o0,o1,o2,o3,eob l' fl']⟩:St))=(.norm,⟨E'',[o0,o1,o2,o3,eob (edgeR x to (l++[e])) fl'']⟩)∧E''.get 13= .own 4 (edgeR x to (l++[e])).length∧E''.get 2=E.get 2∧E''.get 7=E.get 7∧E''.get 9=E.get 9∧E''.get 10=E.get 10∧E''.get 11=E.get 11∧E''.get 12=E.get 12∧E''.get 14=E.get 14:=by
  intro l' fl' h1 h2 E' k13 k2 k7 k9 k10 k11 k12 k14
  subst h1
  exact⟨E',fl',h2,rfl,k13,k2,k7,k9,k10,k11,k12,k14⟩
 have hlj:(l++[(⟨e.lo,x,e.to⟩:Edg)]).length=l.length+1:=by simp
 have hlp:(l++[e]++[(⟨x,x,to⟩:Edg)]).length=l.length+1+1:=by simp
 generalize hQQ:(fun r:Ex×St=>_)=QQ
 by_cases h1:e.to=to
 ·have b1:(e.to==to)=true:=by simp[h1]
  by_cases h2:e.hi=(x:Int) - 1
  ·have b2:(e.hi==(x:Int) - 1)=true:=by simp[h2]
   have hj:edgeR x to (l++[e])=l++[⟨e.lo,x,e.to⟩]:=by rw[← h1];exact edgeR_join (by rw[h1];exact hto) h2
   generalize AObj.seq 3 true (rowA (flatE l++[e.lo,e.hi,e.to])) fl false=oE at *
   generalize hO:eob (l++[⟨e.lo,x,e.to⟩]) ((l.length+1) * 3)=O at *
   simp (implicitDefEqProofs:=false) only[SP,WP,setRow,sevalprocAttr,-List.reduceReplicate,bTail,g13,g14,g15,ln,e3,t3,t5,i1,pl,l1,l2,b1,b2,hst,partE,AV.pvu,AV.pvu1]
   subst hQQ hO
   refine hR _ _ hj (by rw[hlj];exact Nat.le_refl _) _ ?_ ?_ ?_ ?_ ?_ ?_ ?_ ?_
   ·rw[hlj];simp only[Tr.get_set];exact g13
   all_goals simp[Tr.get_set]
  ·have b2:(e.hi==(x:Int) - 1)=false:=beq_ne h2
   have hj:=edgeR_push (l:=l) (x:=(x:Int)) (e:=e) hto (fun h=>h2 h.2)
   generalize AObj.seq 3 true (rowA (flatE l++[e.lo,e.hi,e.to])) fl false=oE at *
   generalize hO:eob (l++[e]++[⟨x,x,to⟩]) fl=O at *
   simp (implicitDefEqProofs:=false) only[SP,WP,setRow,sevalprocAttr,-List.reduceReplicate,bTail,g13,g14,g15,ln,e3,t3,t5,i1,pl,l1,l2,b1,b2,hap,partE,AV.pvu,AV.pvu1]
   subst hQQ hO
   exact hR _ _ hj (by rw[hlp];omega) _ (by rw[hlp];simp[Tr.get_set]) (by simp[Tr.get_set]) (by simp[Tr.get_set]) (by simp[Tr.get_set]) (by simp[Tr.get_set]) (by simp[Tr.get_set]) (by simp[Tr.get_set]) (by simp[Tr.get_set])
 ·have b1:(e.to==to)=false:=beq_ne h1
  have hj:=edgeR_push (l:=l) (x:=(x:Int)) (e:=e) hto (fun h=>h1 h.1)
  generalize AObj.seq 3 true (rowA (flatE l++[e.lo,e.hi,e.to])) fl false=oE at *
  generalize hO:eob (l++[e]++[⟨x,x,to⟩]) fl=O at *
  simp (implicitDefEqProofs:=false) only[SP,WP,setRow,sevalprocAttr,-List.reduceReplicate,bTail,g13,g14,g15,ln,e3,t3,t5,i1,pl,l1,l2,b1,hap,partE,AV.pvu,AV.pvu1]
  subst hQQ hO
  exact hR _ _ hj (by rw[hlp];omega) _ (by rw[hlp];simp[Tr.get_set]) (by simp[Tr.get_set]) (by simp[Tr.get_set]) (by simp[Tr.get_set]) (by simp[Tr.get_set]) (by simp[Tr.get_set]) (by simp[Tr.get_set]) (by simp[Tr.get_set])
end
end Go.AM.B1
namespace Go.AM.B1
open Go.AM Go.AM.So
attribute [local irreducible] wpO
abbrev ints (O:List Nat):List PV:=O.map fun (o:Nat)=>i64 (Int.ofNat o)
def classO (f:Nat→Nat→Bool) (O:List Nat) (to:Int):List Nat×Int:=
 if to < 0 then (O,to) else
  (if O.findIdx (fun o=> !f o to.toNat)=O.length then O++[to.toNat] else O,(O.findIdx (fun o=> !f o to.toNat):Int))
theorem uq1_iaddr (H:List AObj) {id:Nat} {nl:Bool} {O:List Nat} {k:Nat} (hk:k < O.length):iaddrA' H 1 (.uq id nl 1 (ints O)) (k:Int)=some (.pv (.rp [i64 (O[k]:Int)] 0)):=by
 simp only[iaddrA']
 rw[if_pos (by refine⟨trivial,?_⟩;unfold idxOk;simp;omega)]
 simp[hk,PV.cells]
theorem matP_iaddr (H:List AObj) {n:Nat} {f:Nat→Nat→Bool} {k:Nat} (hk:k < n):iaddrA' H 1 (.pv (matP n f)) (k:Int)=some (.pv (.rp [.lit 1 (tabN n (f k))] 0)):=by
 simp only[iaddrA',matP]
 rw[if_pos (by refine⟨trivial,?_⟩;unfold idxOk;simp;omega)]
 simp[hk,PV.cells]
theorem tabN_iaddr (H:List AObj) {n:Nat} {f:Nat→Bool} {k:Nat} (hk:k < n):iaddrA' H 1 (.pv (.lit 1 (tabN n f))) (k:Int)=some (.pv (.rp [.bool (f k)] 0)):=by
 simp only[iaddrA']
 rw[if_pos (by refine⟨trivial,?_⟩;unfold idxOk;rw[tabN_len];omega),Int.toNat_natCast,tabN_get _ hk]
 rfl
theorem rp1_load' (H:List AObj) (x:PV):loadA H false 1 (.pv (.rp [x] 0))=some (.pv x):=rfl
abbrev eB2 (L M:PV) (O:List PV) (k len x:Nat) (to:Int) (m:Int):Tr:=
 (((((((((Tr.lf.set 16 (.pv (i64 m))).set 15 (.pv (i64 to))).set 14 (.pv (i64 x))).set 13 (.own 4 len)).set 12 (.pv (i64 k))).set 11 (.ptr 2 0)).set 10 (.uq 1 false 1 O)).set 9 (.pv M)).set 7 (.pv L)).set 2 (.ptr 0 0)
section
variable (call:CallF) (L:PV) (n:Nat) (f:Nat→Nat→Bool) (O:List Nat) (k len x:Nat) (o0 o2 o3 o4:AObj)
 (hc:mapO (cutObj 5) [o0,.tok 1 O.length false,o2,o3,o4]=some [o0,.tok 1 O.length false,o2,o3,o4]) (hO:∀ o∈O,o < n) (hO2:O.length≤64)
include hc hO hO2
theorem find_loop (to:Nat) (hto:to < n):
 wpO (fun r=>∃ E,r=(.exit 4,⟨E,[o0,.tok 1 O.length false,o2,o3,o4]⟩)∧E.get 2= .ptr 0 0∧E.get 7= .pv L∧E.get 9= .pv (matP n f)∧E.get 10= .uq 1 false 1 (ints O)∧E.get 11= .ptr 2 0∧E.get 12= .pv (i64 k)∧E.get 13= .own 4 len∧E.get 14= .pv (i64 x)∧E.get 15= .pv (i64 to)∧E.get 16= .pv (i64 (O.findIdx (fun o=> !f o to):Nat)))
  (loopA (roundA (evalC call b_leadtrailref13_Build_l2) (clean 5 [2,7,9,10,11,12,13,14,15,16])) rounds ⟨eB2 L (matP n f) (ints O) k len x to 0,[o0,.tok 1 O.length false,o2,o3,o4]⟩):=by
 have hle:O.findIdx (fun o=> !f o to)≤O.length:=List.findIdx_le_length
 have hlO:(ints O).length=O.length:=by rw[List.length_map]
 refine wpO_mono (loopN_wp (g:=roundA (evalC call b_leadtrailref13_Build_l2) (clean 5 [2,7,9,10,11,12,13,14,15,16]))
  (fun m t=>t=⟨eB2 L (matP n f) (ints O) k len x to m,[o0,.tok 1 O.length false,o2,o3,o4]⟩)
  (O.findIdx (fun o=> !f o to)) (by unfold rounds;omega) _ rfl ?_ ?_) (fun r h=>h.2)
 ·rintro m t hm rfl
  have hmO:m < O.length:=by omega
  have hf:f O[m] to=true:=by
   have:=List.not_of_lt_findIdx hm
   simpa using this
  have e1:decide ((m:Int) < (O.length:Int))=true:=dec_t (by omega)
  have t2:IntKind.i64.wrap ((m:Int)+1)=((m+1:Nat):Int):=wrap_int (by omega)
  have i1:=fun H=>uq1_iaddr H (id:=1) (nl:=false) hmO
  have i2:=fun H=>matP_iaddr H (f:=f) (hO _ (List.getElem_mem hmO))
  have i3:=fun H=>tabN_iaddr H (f:=f O[m]) hto
  rw[hf] at i3
  generalize O[m]=o at *
  generalize tabN n (f o)=T at *
  generalize matP n f=M at *
  generalize ints O=os at *
  have d0:(0 < 5)=True:=by simp
  have d1:(1 < 5)=True:=by simp
  have d2:(2 < 5)=True:=by simp
  have d4:(4 < 5)=True:=by simp
  have htk:∀ a b c d e:AObj,([a,b,c,d,e]:List AObj).take 5=[a,b,c,d,e]:=fun a b c d e=>rfl
  generalize hQ:LN _ _ m=Q
  simp (implicitDefEqProofs:=false) only[SP,SA,WP,sevalprocAttr,-List.reduceReplicate,b_leadtrailref13_Build_l2,hlO,e1,t2,i1,i2,i3,rp1_load',hc,htk,d0,d1,d2,d4,clean,cutEnv,AV.cut,deep_eq',eB2]
  subst hQ
  show (_:St)=_
  rfl
 ·rintro t rfl
  generalize hN:O.findIdx (fun o=> !f o to)=N at *
  have hfin:∀ E:Tr,E.get 2= .ptr 0 0→E.get 7= .pv L→E.get 9= .pv (matP n f)→E.get 10= .uq 1 false 1 (ints O)→E.get 11= .ptr 2 0→E.get 12= .pv (i64 k)→E.get 13= .own 4 len→E.get 14= .pv (i64 x)→E.get 15= .pv (i64 to)→E.get 16= .pv (i64 N)→
   (Ex.exit 4,(⟨E,[o0,.tok 1 O.length false,o2,o3,o4]⟩:St)).1.stop=true∧∃ E',(Ex.exit 4,(⟨E,[o0,.tok 1 O.length false,o2,o3,o4]⟩:St))=(.exit 4,⟨E',[o0,.tok 1 O.length false,o2,o3,o4]⟩)∧E'.get 2= .ptr 0 0∧E'.get 7= .pv L∧E'.get 9= .pv (matP n f)∧E'.get 10= .uq 1 false 1 (ints O)∧E'.get 11= .ptr 2 0∧E'.get 12= .pv (i64 k)∧E'.get 13= .own 4 len∧E'.get 14= .pv (i64 x)∧E'.get 15= .pv (i64 to)∧E'.get 16= .pv (i64 N):=
   fun E k2 k7 k9 k10 k11 k12 k13 k14 k15 k16=>⟨rfl,E,rfl,k2,k7,k9,k10,k11,k12,k13,k14,k15,k16⟩
  generalize hQ:(fun r:Ex×St=>r.1.stop=true∧_)=Q
  by_cases hlt:N < O.length
  ·have hf:f O[N] to=false:=by
    have:=List.findIdx_getElem (w:=by rw[hN];exact hlt) (p:=fun o=> !f o to) (xs:=O)
    simp only[hN] at this
    simpa using this
   have e1:decide ((N:Int) < (O.length:Int))=true:=dec_t (by omega)
   have i1:=fun H=>uq1_iaddr H (id:=1) (nl:=false) hlt
   have i2:=fun H=>matP_iaddr H (f:=f) (hO _ (List.getElem_mem hlt))
   have i3:=fun H=>tabN_iaddr H (f:=f O[N]) hto
   rw[hf] at i3
   generalize O[N]=o at *
   generalize tabN n (f o)=T at *
   generalize matP n f=M at *
   generalize ints O=os at *
   simp (implicitDefEqProofs:=false) only[SP,SA,WP,sevalprocAttr,-List.reduceReplicate,b_leadtrailref13_Build_l2,hlO,e1,i1,i2,i3,rp1_load',eB2]
   subst hQ
   exact hfin _ (by simp[Tr.get_set]) (by simp[Tr.get_set]) (by simp[Tr.get_set]) (by simp[Tr.get_set]) (by simp[Tr.get_set]) (by simp[Tr.get_set]) (by simp[Tr.get_set]) (by simp[Tr.get_set]) (by simp[Tr.get_set]) (by simp[Tr.get_set])
  ·have e1:decide ((N:Int) < (O.length:Int))=false:=dec_f (by omega)
   generalize matP n f=M at *
   generalize ints O=os at *
   simp (implicitDefEqProofs:=false) only[SP,SA,WP,sevalprocAttr,-List.reduceReplicate,b_leadtrailref13_Build_l2,hlO,e1,eB2]
   subst hQ
   exact hfin _ (by simp[Tr.get_set]) (by simp[Tr.get_set]) (by simp[Tr.get_set]) (by simp[Tr.get_set]) (by simp[Tr.get_set]) (by simp[Tr.get_set]) (by simp[Tr.get_set]) (by simp[Tr.get_set]) (by simp[Tr.get_set]) (by simp[Tr.get_set])
theorem bFind_run (E:Tr) (to:Int) (hto:to < (n:Int)) (g2:E.get 2= .ptr 0 0) (g7:E.get 7= .pv L) (g9:E.get 9= .pv (matP n f)) (g10:E.get 10= .uq 1 false 1 (ints O)) (g11:E.get 11= .ptr 2 0) (g12:E.get 12= .pv (i64 k)) (g13:E.get 13= .own 4 len) (g14:E.get 14= .pv (i64 x)) (g15:E.get 15= .pv (i64 to)):
 wpO (fun r=>∃ E',r=(.norm,⟨E',[o0,.tok 1 (classO f O to).1.length false,o2,o3,o4]⟩)∧E'.get 2= .ptr 0 0∧E'.get 7= .pv L∧E'.get 9= .pv (matP n f)∧E'.get 10= .uq 1 false 1 (ints (classO f O to).1)∧E'.get 11= .ptr 2 0∧E'.get 12= .pv (i64 k)∧E'.get 13= .own 4 len∧E'.get 14= .pv (i64 x)∧E'.get 15= .pv (i64 (classO f O to).2))
  (evalC call bFind ⟨E,[o0,.tok 1 O.length false,o2,o3,o4]⟩):=by
 have hR:∀ O' v,classO f O to=(O',v)→∀ E':Tr,E'.get 2= .ptr 0 0→E'.get 7= .pv L→E'.get 9= .pv (matP n f)→E'.get 10= .uq 1 false 1 (ints O')→E'.get 11= .ptr 2 0→E'.get 12= .pv (i64 k)→E'.get 13= .own 4 len→E'.get 14= .pv (i64 x)→E'.get 15= .pv (i64 v)→
  ∃ E'',(Ex.norm,(⟨E',[o0,.tok 1 O'.length false,o2,o3,o4]⟩:St))=(.norm,⟨E'',[o0,.tok 1 (classO f O to).1.length false,o2,o3,o4]⟩)∧E''.get 2= .ptr 0 0∧E''.get 7= .pv L∧E''.get 9= .pv (matP n f)∧E''.get 10= .uq 1 false 1 (ints (classO f O to).1)∧E''.get 11= .ptr 2 0∧E''.get 12= .pv (i64 k)∧E''.get 13= .own 4 len∧E''.get 14= .pv (i64 x)∧E''.get 15= .pv (i64 (classO f O to).2):=by
  intro O' v h E' k2 k7 k9 k10 k11 k12 k13 k14 k15
  rw[h]
  exact⟨E',rfl,k2,k7,k9,k10,k11,k12,k13,k14,k15⟩
 by_cases hneg:to < 0
 ·have d1:decide (to≥0)=false:=dec_f (by omega)
  have hcl:classO f O to=(O,to):=by unfold classO;rw[if_pos hneg]
  generalize hQQ:(fun r:Ex×St=>_)=QQ
  simp (implicitDefEqProofs:=false) only[SP,WP,setRow,sevalprocAttr,-List.reduceReplicate,bFind,g15,d1]
  subst hQQ
  exact hR O to hcl _ (by simp[Tr.get_set,g2]) (by simp[Tr.get_set,g7]) (by simp[Tr.get_set,g9]) (by simp[Tr.get_set,g10]) (by simp[Tr.get_set,g11]) (by simp[Tr.get_set,g12]) (by simp[Tr.get_set,g13]) (by simp[Tr.get_set,g14]) (by simp[Tr.get_set,g15])
 ·have d1:decide (to≥0)=true:=dec_t (by omega)
  obtain⟨t,rfl⟩:∃ t:Nat,to=t:=⟨to.toNat,by omega⟩
  have hlp:=find_loop call L n f O k len x o0 o2 o3 o4 hc hO hO2 t (by omega)
  have hcl:classO f O (t:Int)=(if O.findIdx (fun o=> !f o t)=O.length then O++[t] else O,(O.findIdx (fun o=> !f o t):Int)):=by unfold classO;rw[if_neg hneg,Int.toNat_natCast]
  have hlO:(ints O).length=O.length:=by rw[List.length_map]
  generalize O.findIdx (fun o=> !f o t)=N at *
  have d0:(0 < 5)=True:=by simp
  have d1':(1 < 5)=True:=by simp
  have d2:(2 < 5)=True:=by simp
  have d4:(4 < 5)=True:=by simp
  have htk:∀ a b c d e:AObj,([a,b,c,d,e]:List AObj).take 5=[a,b,c,d,e]:=fun a b c d e=>rfl
  have hap:appendA [o0,.tok 1 O.length false,o2,o3,o4] false .uq 1 false 8 (.uq 1 false 1 (ints O)) (.pv (.lit 1 [i64 t]))=some (.uq 1 false 1 (ints (O++[t])),[o0,.tok 1 (O.length+1) false,o2,o3,o4]):=by
   have:=uq_append (A:=[o0,.tok 1 O.length false,o2,o3,o4]) (id:=1) (n:=O.length) (sz:=1) (h:= .uq) (nl:=false) (ag:=false) (bytes:=8) (es:=ints O) rfl (by rw[List.length_map]) (by unfold roomOk;omega) (i64 t)
   rw[this]
   simp[ints]
  have hlen2:(O++[t]).length=O.length+1:=by simp
  generalize hQQ:(fun r:Ex×St=>_)=QQ
  generalize hM:matP n f=M at *
  generalize hos:ints O=os at *
  generalize hos2:ints (O++[t])=os2 at *
  simp (implicitDefEqProofs:=false) only[SP,WP,setRow,sevalprocAttr,-List.reduceReplicate,bFind,g2,g7,g9,g10,g11,g12,g13,g14,g15,d1,C_loop,hc,htk,d0,d1',d2,d4,clean,cutEnv,AV.cut,deep_eq']
  simp only[eB2,hos] at hlp
  refine wpO_mono hlp ?_
  rintro r ⟨E2,rfl,k2,k7,k9,k10,k11,k12,k13,k14,k15,k16⟩
  by_cases hN:N=O.length
  ·have e2:((N:Int)==(O.length:Int))=true:=by simp[hN]
   rw[if_pos hN] at hcl
   simp (implicitDefEqProofs:=false) only[SP,WP,setRow,sevalprocAttr,-List.reduceReplicate,k2,k7,k9,k10,k11,k12,k13,k14,k15,k16,hlO,e2,hap,partE,AV.pvu,AV.pvu1]
   subst hQQ
   rw[← hlen2]
   exact hR (O++[t]) N hcl _ (by simp[Tr.get_set,k2]) (by simp[Tr.get_set,k7]) (by simp[Tr.get_set,k9]) (by simp[Tr.get_set,hos2]) (by simp[Tr.get_set,k11]) (by simp[Tr.get_set,k12]) (by simp[Tr.get_set,k13]) (by simp[Tr.get_set,k14]) (by simp[Tr.get_set])
  ·have e2:((N:Int)==(O.length:Int))=false:=beq_ne (by omega)
   rw[if_neg hN] at hcl
   simp (implicitDefEqProofs:=false) only[SP,WP,setRow,sevalprocAttr,-List.reduceReplicate,k2,k7,k9,k10,k11,k12,k13,k14,k15,k16,hlO,e2]
   subst hQQ
   exact hR O N hcl _ (by simp[Tr.get_set,k2]) (by simp[Tr.get_set,k7]) (by simp[Tr.get_set,k9]) (by simp[Tr.get_set,k10,hos]) (by simp[Tr.get_set,k11]) (by simp[Tr.get_set,k12]) (by simp[Tr.get_set,k13]) (by simp[Tr.get_set,k14]) (by simp[Tr.get_set])
end
end Go.AM.B1
namespace Go.AM.B1
open Go.AM Go.AM.So
attribute [local irreducible] wpO
theorem eob_push (l:List Edg) (e:Edg) (fl:Nat):eob (l++[e]) fl= .seq 3 true (rowA (flatE l++[e.lo,e.hi,e.to])) fl false:=by
 have he:(l++[e]).isEmpty=false:=by cases l <;> rfl
 rw[eob,he,flatE_push]
theorem eob_cut (l:List Edg) (fl n:Nat):cutObj n (eob l fl)=some (eob l fl):=by
 have:(rowA (flatE l)).all (AV.keep n deep)=true:=by
  rw[List.all_eq_true]
  intro v hv
  obtain⟨p,_,rfl⟩:=List.mem_map.1 hv
  rfl
 simp[cutObj,eob,this]
theorem bTail_run (call:CallF) (E:Tr) (o0 o1 o2 o3:AObj) (x:Nat) (to:Int) (g14:E.get 14= .pv (i64 x)) (g15:E.get 15= .pv (i64 to)) (hx:x < 256) (hto:to≠ -2) (l:List Edg) (hl:l.length≤256) (fl:Nat) (hfl:fl≤l.length * 3) (g13:E.get 13= .own 4 l.length):
 wpO (fun r=>∃ E' fl',fl'≤(edgeR x to l).length * 3∧r=(.norm,⟨E',[o0,o1,o2,o3,eob (edgeR x to l) fl']⟩)∧E'.get 13= .own 4 (edgeR x to l).length∧E'.get 2=E.get 2∧E'.get 7=E.get 7∧E'.get 9=E.get 9∧E'.get 10=E.get 10∧E'.get 11=E.get 11∧E'.get 12=E.get 12∧E'.get 14=E.get 14)
  (evalC call bTail ⟨E,[o0,o1,o2,o3,eob l fl]⟩):=by
 rcases List.eq_nil_or_concat l with rfl | ⟨l',e,rfl⟩
 ·have:fl=0:=by simpa using hfl
  subst this
  refine wpO_mono (bTail_first call E o0 o1 o2 o3 x to g14 g15 true g13) ?_
  rintro r ⟨E',rfl,k13,k2,k7,k9,k10,k11,k12,k14⟩
  have hj:=edgeR_first (x:=(x:Int)) hto
  rw[hj]
  exact⟨E',0,by omega,rfl,k13,k2,k7,k9,k10,k11,k12,k14⟩
 ·rw[List.concat_eq_append] at *
  have hl1:(l'++[e]).length=l'.length+1:=by simp
  rw[hl1] at hl hfl g13
  rw[eob_push]
  exact bTail_next call E o0 o1 o2 o3 x to g14 g15 hx hto l' e (by omega) fl hfl g13
theorem edgeR_len (x to:Int) (l:List Edg):(edgeR x to l).length≤l.length+1:=by
 by_cases h:to= -2
 ·subst h;rw[edgeR_none];omega
 ·rcases List.eq_nil_or_concat l with rfl | ⟨l',e,rfl⟩
  ·rw[edgeR_first h];simp
  ·rw[List.concat_eq_append]
   by_cases h2:e.to=to∧e.hi=x - 1
   ·obtain⟨rfl,h3⟩:=h2
    rw[edgeR_join h h3];simp
   ·rw[edgeR_push h h2];simp
def refX (C:List (List Int)) (f:Nat→Nat→Bool) (o:Nat) (r:List Nat×List Edg) (x:Nat):List Nat×List Edg:=
 if nxt C o x= -2 then r else ((classO f r.1 (nxt C o x)).1,edgeR x (classO f r.1 (nxt C o x)).2 r.2)
structure OrdN (n:Nat) (O:List Nat):Prop where
 nd:O.Nodup
 lt:∀ o∈O,o < n
theorem OrdN.len {n:Nat} {O:List Nat} (h:OrdN n O):O.length≤n:=by
 have h1:=nodup_len n (O.map fun (o:Nat)=>Int.ofNat o) ?_ ?_
 ·simpa using h1
 ·rw[List.Nodup,List.pairwise_map]
  exact h.nd.imp fun hne he=>hne (Int.ofNat.inj he)
 ·intro o ho
  obtain⟨p,hp,rfl⟩:=List.mem_map.1 ho
  have:=h.lt p hp
  constructor
  ·exact Int.natCast_nonneg p
  ·exact Int.ofNat_lt.2 this
theorem classO_ord {n:Nat} {f:Nat→Nat→Bool} (hf:∀ a,f a a=false) {O:List Nat} (h:OrdN n O) {to:Int} (hto:to < n):OrdN n (classO f O to).1∧∃ t,(classO f O to).1=O++t:=by
 unfold classO
 by_cases h1:to < 0
 ·rw[if_pos h1];exact⟨h,[],by simp⟩
 ·rw[if_neg h1]
  by_cases h2:O.findIdx (fun o=> !f o to.toNat)=O.length
  ·rw[if_pos h2]
   have hall:∀ o∈O,f o to.toNat=true:=by
    intro o ho
    obtain⟨k,hk,rfl⟩:=List.getElem_of_mem ho
    have:=List.not_of_lt_findIdx (p:=fun o=> !f o to.toNat) (xs:=O) (i:=k) (by omega)
    simpa using this
   refine⟨⟨?_,?_⟩,[to.toNat],rfl⟩
   ·rw[List.nodup_append]
    refine⟨h.nd,by simp,?_⟩
    intro a ha b hb
    rw[List.mem_singleton] at hb
    subst hb
    intro he
    subst he
    have:=hall _ ha
    rw[hf] at this;cases this
   ·intro o ho
    rcases List.mem_append.1 ho with h3 | h3
    ·exact h.lt o h3
    ·rw[List.mem_singleton] at h3;subst h3;omega
  ·rw[if_neg h2];exact⟨h,[],by simp⟩
theorem classO_ge {f:Nat→Nat→Bool} {O:List Nat} {to:Int} (h:to≠ -2) (h2: -2≤to):(classO f O to).2≠ -2:=by
 unfold classO
 by_cases h1:to < 0
 ·rw[if_pos h1];exact h
 ·rw[if_neg h1];simp only;omega
abbrev eB1 (L M:PV) (O:List PV) (k len x:Nat):Tr:=
 (((((((Tr.lf.set 14 (.pv (i64 x))).set 13 (.own 4 len)).set 12 (.pv (i64 k))).set 11 (.ptr 2 0)).set 10 (.uq 1 false 1 O)).set 9 (.pv M)).set 7 (.pv L)).set 2 (.ptr 0 0)
section
variable (call:CallF) {C:List (List Int)} (hC:Tab C) (hge:∀ r∈C,∀ v∈r,-2≤v) {f:Nat→Nat→Bool} (hf:∀ a,f a a=false) (k:Nat) (o0 o2 o3:AObj) (h0:∀ n,cutObj n o0=some o0) (h2:cutObj 5 o2=some o2) (h3:∀ n,cutObj n o3=some o3)
include hC hge hf h0 h2 h3
omit hf in
theorem build_l1_round {O:List Nat} (hO:OrdN C.length O) {o:Nat} (hk:O[k]? =some o) {l:List Edg} {x:Nat} (hx:x < 256) (hl:l.length≤x) {fl:Nat} (hfl:fl≤l.length * 3):
 wpO (fun r=>∃ fl',fl'≤(refX C f o (O,l) x).2.length * 3∧r=(.norm,⟨eB1 (.lit 256 (C.map agR)) (matP C.length f) (ints (refX C f o (O,l) x).1) k (refX C f o (O,l) x).2.length (x+1),[o0,.tok 1 (refX C f o (O,l) x).1.length false,o2,o3,eob (refX C f o (O,l) x).2 fl']⟩))
  (roundA (evalC call b_leadtrailref13_Build_l1) (clean 5 [2,7,9,10,11,12,13,14]) ⟨eB1 (.lit 256 (C.map agR)) (matP C.length f) (ints O) k l.length x,[o0,.tok 1 O.length false,o2,o3,eob l fl]⟩):=by
 have hkO:=(List.getElem?_eq_some_iff.1 hk).1
 have hko:O[k]=o:=(List.getElem?_eq_some_iff.1 hk).2
 have ho:o < C.length:=by rw[← hko];exact hO.lt _ (List.getElem_mem hkO)
 have hO64:O.length≤64:=Nat.le_trans hO.len hC.sz
 have i1:=fun H=>uq1_iaddr H (id:=1) (nl:=false) hkO
 rw[hko] at i1
 have i2:=fun H=>hC.iaddr ho H
 have l2:=fun H=>hC.load ho hx H
 have hv:=(hC.get ho hx).2
 have hv2: -2≤nxt C o x:=hge _ (List.getElem_mem ho) _ (List.mem_of_getElem? (hC.get ho hx).1)
 have e1:decide ((x:Int) < 256)=true:=dec_t (by omega)
 have hq:idxOk (x:Int) 256:=by unfold idxOk;omega
 have t1:((x:Int)).toNat=x:=by simp
 have m1:x * 1=x:=by omega
 have z1:0+x=x:=by omega
 have t2:IntKind.i64.wrap ((x:Int)+1)=((x+1:Nat):Int):=wrap_int (by omega)
 have hcl:∀ (m:Nat) (l:List Edg) (fl:Nat),mapO (cutObj 5) [o0,.tok 1 m false,o2,o3,eob l fl]=some [o0,.tok 1 m false,o2,o3,eob l fl]:=by
  intro m l fl
  have c1:cutObj 5 (.tok 1 m false)=some (.tok 1 m false):=rfl
  simp only[mapO,h0,h2,h3,c1,eob_cut,Option.bind_some,Option.map_some]
 have htk:∀ a b c d e:AObj,([a,b,c,d,e]:List AObj).take 5=[a,b,c,d,e]:=fun a b c d e=>rfl
 have d0:(0 < 5)=True:=by simp
 have d1:(1 < 5)=True:=by simp
 have d2:(2 < 5)=True:=by simp
 have d4:(4 < 5)=True:=by simp
 have hfind:=fun (E:Tr) g2 g7 g9 g10 g11 g12 g13 g14 g15=>bFind_run call (.lit 256 (C.map agR)) C.length f O k l.length x o0 o2 o3 (eob l fl) (hcl _ _ _) hO.lt hO64 E (nxt C o x) hv g2 g7 g9 g10 g11 g12 g13 g14 g15
 have hce:nxt C o x≠ -2→(classO f O (nxt C o x)).2≠ -2:=fun h=>classO_ge h hv2
 have hR:∀ r,refX C f o (O,l) x=r→∀ fl',fl'≤r.2.length * 3→∀ s:St,s=⟨eB1 (.lit 256 (C.map agR)) (matP C.length f) (ints r.1) k r.2.length (x+1),[o0,.tok 1 r.1.length false,o2,o3,eob r.2 fl']⟩→
  ∃ fl',fl'≤(refX C f o (O,l) x).2.length * 3∧(Ex.norm,s)=(.norm,⟨eB1 (.lit 256 (C.map agR)) (matP C.length f) (ints (refX C f o (O,l) x).1) k (refX C f o (O,l) x).2.length (x+1),[o0,.tok 1 (refX C f o (O,l) x).1.length false,o2,o3,eob (refX C f o (O,l) x).2 fl']⟩):=by
  intro r hr fl' hfl' s hs
  subst hr
  exact⟨fl',hfl',by rw[hs]⟩
 have hrx:nxt C o x= -2→refX C f o (O,l) x=(O,l):=fun h=>by unfold refX;rw[if_pos h]
 have hrx2:nxt C o x≠ -2→refX C f o (O,l) x=((classO f O (nxt C o x)).1,edgeR x (classO f O (nxt C o x)).2 l):=fun h=>by unfold refX;rw[if_neg h]
 generalize hQQ:(fun r:Ex×St=>_)=QQ
 generalize nxt C o x=to at *
 generalize hL:(PV.lit 256 (C.map agR))=L at *
 generalize hM:matP C.length f=M at *
 generalize hoR:C[o].map i64=oR at *
 by_cases hto:to= -2
 ·have b1:(to== -2)=true:=by simp[hto]
  have hclx:=hcl O.length l fl
  have hfin:=hR (O,l) (hrx hto) fl hfl
  generalize hos:ints O=os at *
  generalize hO4:eob l fl=o4 at *
  simp (implicitDefEqProofs:=false) only[SP,WP,setRow,sevalprocAttr,-List.reduceReplicate,build_l1_eq,e1,i1,i2,l2,rp1_load',rp_place,eq_true hq,t1,m1,z1,b1,t2,hclx,htk,d0,d1,d2,d4,clean,cutEnv,AV.cut,deep_eq',eB1]
  subst hQQ
  exact hfin _ (by simp only[eB1,hos,hO4])
 ·have b1:(to== -2)=false:=beq_ne hto
  have hce':=hce hto
  generalize hos:ints O=os at *
  generalize hO4:eob l fl=o4 at *
  simp (implicitDefEqProofs:=false) only[SP,WP,setRow,sevalprocAttr,-List.reduceReplicate,build_l1_eq,e1,i1,i2,l2,rp1_load',rp_place,eq_true hq,t1,m1,z1,b1,eB1]
  refine wpO_mono (hfind _ ?_ ?_ ?_ ?_ ?_ ?_ ?_ ?_ ?_) ?_
  any_goals (simp[Tr.get_set];done)
  rintro r ⟨E2,rfl,k2,k7,k9,k10,k11,k12,k13,k14,k15⟩
  simp (implicitDefEqProofs:=false) only[SP,WP,setRow,sevalprocAttr,-List.reduceReplicate]
  subst hO4
  refine wpO_mono (bTail_run call E2 o0 _ o2 o3 x _ k14 k15 hx hce' l (by omega) fl hfl k13) ?_
  rintro r ⟨E3,fl',hfl',rfl,j13,j2,j7,j9,j10,j11,j12,j14⟩
  rw[k2] at j2;rw[k7] at j7;rw[k9] at j9;rw[k10] at j10;rw[k11] at j11;rw[k12] at j12;rw[k14] at j14
  have hclx:=hcl (classO f O to).1.length (edgeR x (classO f O to).2 l) fl'
  have hfin:=hR _ (hrx2 hto) fl' hfl'
  simp only at hfin
  generalize (classO f O to).1.length=n1 at *
  generalize hos1:ints (classO f O to).1=os1 at *
  generalize (edgeR x (classO f O to).2 l).length=n2 at *
  generalize eob (edgeR x (classO f O to).2 l) fl'=o4 at *
  simp (implicitDefEqProofs:=false) only[SP,WP,setRow,sevalprocAttr,-List.reduceReplicate,j2,j7,j9,j10,j11,j12,j13,j14,t2,hclx,htk,d0,d1,d2,d4,clean,cutEnv,AV.cut,deep_eq']
  subst hQQ
  exact hfin _ rfl
end
end Go.AM.B1
namespace Go.AM.B1
open Go.AM Go.AM.So
attribute [local irreducible] wpO
def refIn (C:List (List Int)) (f:Nat→Nat→Bool) (o:Nat) (O:List Nat) (x:Nat):List Nat×List Edg:=(List.range x).foldl (refX C f o) (O,[])
theorem refIn_succ (C:List (List Int)) (f:Nat→Nat→Bool) (o:Nat) (O:List Nat) (x:Nat):refIn C f o O (x+1)=refX C f o (refIn C f o O x) x:=by
 unfold refIn
 rw[List.range_succ,List.foldl_append];rfl
theorem refX_ord {C:List (List Int)} (hC:Tab C) {f:Nat→Nat→Bool} (hf:∀ a,f a a=false) {o:Nat} (ho:o < C.length) {r:List Nat×List Edg} (h:OrdN C.length r.1) {x:Nat} (hx:x < 256):
 OrdN C.length (refX C f o r x).1∧(∃ t,(refX C f o r x).1=r.1++t)∧(refX C f o r x).2.length≤r.2.length+1:=by
 unfold refX
 split
 ·exact⟨h,⟨[],by simp⟩,by omega⟩
 ·obtain⟨h1,h2⟩:=classO_ord hf h (hC.get ho hx).2
  exact⟨h1,h2,edgeR_len _ _ _⟩
theorem refIn_ord {C:List (List Int)} (hC:Tab C) {f:Nat→Nat→Bool} (hf:∀ a,f a a=false) {o:Nat} (ho:o < C.length) {O:List Nat} (h:OrdN C.length O):∀ (x:Nat),x≤256→
 OrdN C.length (refIn C f o O x).1∧(∃ t,(refIn C f o O x).1=O++t)∧(refIn C f o O x).2.length≤x
 |0,_=>⟨h,⟨[],by simp[refIn]⟩,by simp[refIn]⟩
 |x+1,hx=>by
  obtain⟨h1,⟨t,h2⟩,h3⟩:=refIn_ord hC hf ho h x (by omega)
  obtain⟨k1,⟨t',k2⟩,k3⟩:=refX_ord hC hf ho h1 (x:=x) (by omega)
  rw[refIn_succ]
  exact⟨k1,⟨t++t',by rw[k2,h2,List.append_assoc]⟩,by omega⟩
def refGo (C:List (List Int)) (f:Nat→Nat→Bool):Nat→List Nat×List (List Edg)→List Nat×List (List Edg)
 |0,r=>r
 |k+1,r=>match r.1[r.2.length]? with
  |none=>r
  |some o=>refGo C f k ((refIn C f o r.1 256).1,r.2++[(refIn C f o r.1 256).2])
theorem refGo_end {C:List (List Int)} {f:Nat→Nat→Bool} {k:Nat} {r:List Nat×List (List Edg)} (h:r.1[r.2.length]? =none):refGo C f k r=r:=by
 cases k with
 |zero=>rfl
 |succ k=>rw[refGo,h]
theorem refGo_some {C:List (List Int)} {f:Nat→Nat→Bool} {k:Nat} {r:List Nat×List (List Edg)} {o:Nat} (h:r.1[r.2.length]? =some o):refGo C f (k+1) r=refGo C f k ((refIn C f o r.1 256).1,r.2++[(refIn C f o r.1 256).2]):=by
 rw[refGo,h]
section
variable (call:CallF) {C:List (List Int)} (hC:Tab C) (hge:∀ r∈C,∀ v∈r,-2≤v) {f:Nat→Nat→Bool} (hf:∀ a,f a a=false)
include hC hge hf
theorem build_l1 (k:Nat) (o0 o2 o3:AObj) (h0:∀ n,cutObj n o0=some o0) (h2:cutObj 5 o2=some o2) (h3:∀ n,cutObj n o3=some o3) {O:List Nat} (hO:OrdN C.length O) {o:Nat} (hk:O[k]? =some o):
 wpO (fun r=>∃ E fl,r=(.exit 2,⟨E,[o0,.tok 1 (refIn C f o O 256).1.length false,o2,o3,eob (refIn C f o O 256).2 fl]⟩)∧E.get 2= .ptr 0 0∧E.get 7= .pv (.lit 256 (C.map agR))∧E.get 9= .pv (matP C.length f)∧E.get 10= .uq 1 false 1 (ints (refIn C f o O 256).1)∧E.get 11= .ptr 2 0∧E.get 12= .pv (i64 k)∧E.get 13= .own 4 (refIn C f o O 256).2.length)
  (loopA (roundA (evalC call b_leadtrailref13_Build_l1) (clean 5 [2,7,9,10,11,12,13,14])) rounds ⟨eB1 (.lit 256 (C.map agR)) (matP C.length f) (ints O) k 0 0,[o0,.tok 1 O.length false,o2,o3,eob [] 0]⟩):=by
 have hkO:=(List.getElem?_eq_some_iff.1 hk).1
 have hko:O[k]=o:=(List.getElem?_eq_some_iff.1 hk).2
 have ho:o < C.length:=by rw[← hko];exact hO.lt _ (List.getElem_mem hkO)
 refine wpO_mono (loopN_wp (g:=roundA (evalC call b_leadtrailref13_Build_l1) (clean 5 [2,7,9,10,11,12,13,14]))
  (fun x t=>∃ fl,fl≤(refIn C f o O x).2.length * 3∧t=⟨eB1 (.lit 256 (C.map agR)) (matP C.length f) (ints (refIn C f o O x).1) k (refIn C f o O x).2.length x,[o0,.tok 1 (refIn C f o O x).1.length false,o2,o3,eob (refIn C f o O x).2 fl]⟩)
  256 (by unfold rounds;omega) _ ⟨0,by omega,rfl⟩ ?_ ?_) (fun r h=>h.2)
 ·rintro x t hx ⟨fl,hfl,rfl⟩
  obtain⟨q1,⟨t,q2⟩,q3⟩:=refIn_ord hC hf ho hO x (by omega)
  have hk':(refIn C f o O x).1[k]? =some o:=by rw[q2,List.getElem?_append_left hkO];exact hk
  refine wpO_mono (build_l1_round call hC hge k o0 o2 o3 h0 h2 h3 q1 hk' hx q3 hfl) ?_
  rintro r ⟨fl',hfl',rfl⟩
  have:refX C f o ((refIn C f o O x).1,(refIn C f o O x).2) x=refIn C f o O (x+1):=(refIn_succ C f o O x).symm
  rw[this] at hfl' ⊢
  exact⟨fl',hfl',rfl⟩
 ·rintro t ⟨fl,hfl,rfl⟩
  have e1:decide (((256:Nat):Int) < 256)=false:=dec_f (by omega)
  generalize refIn C f o O 256=r at *
  have hfin:∀ E:Tr,E.get 2= .ptr 0 0→E.get 7= .pv (.lit 256 (C.map agR))→E.get 9= .pv (matP C.length f)→E.get 10= .uq 1 false 1 (ints r.1)→E.get 11= .ptr 2 0→E.get 12= .pv (i64 k)→E.get 13= .own 4 r.2.length→
   (Ex.exit 2,(⟨E,[o0,.tok 1 r.1.length false,o2,o3,eob r.2 fl]⟩:St)).1.stop=true∧∃ E' fl',(Ex.exit 2,(⟨E,[o0,.tok 1 r.1.length false,o2,o3,eob r.2 fl]⟩:St))=(.exit 2,⟨E',[o0,.tok 1 r.1.length false,o2,o3,eob r.2 fl']⟩)∧E'.get 2= .ptr 0 0∧E'.get 7= .pv (.lit 256 (C.map agR))∧E'.get 9= .pv (matP C.length f)∧E'.get 10= .uq 1 false 1 (ints r.1)∧E'.get 11= .ptr 2 0∧E'.get 12= .pv (i64 k)∧E'.get 13= .own 4 r.2.length:=
   fun E k2 k7 k9 k10 k11 k12 k13=>⟨rfl,E,fl,rfl,k2,k7,k9,k10,k11,k12,k13⟩
  generalize hQ:(fun r:Ex×St=>r.1.stop=true∧_)=Q
  generalize (PV.lit 256 (C.map agR))=L at *
  generalize matP C.length f=M at *
  generalize ints r.1=os at *
  generalize eob r.2 fl=o4 at *
  simp (implicitDefEqProofs:=false) only[SP,SA,WP,sevalprocAttr,-List.reduceReplicate,build_l1_eq,e1,eB1]
  subst hQ
  exact hfin _ (by simp[Tr.get_set]) (by simp[Tr.get_set]) (by simp[Tr.get_set]) (by simp[Tr.get_set]) (by simp[Tr.get_set]) (by simp[Tr.get_set]) (by simp[Tr.get_set])
end
abbrev eB0 (L M:PV) (O:List PV) (k:Nat):Tr:=
 (((((Tr.lf.set 12 (.pv (i64 k))).set 11 (.ptr 2 0)).set 10 (.uq 1 false 1 O)).set 9 (.pv M)).set 7 (.pv L)).set 2 (.ptr 0 0)
abbrev obx (nl:Bool) (es:List PV):AObj:= .box [.uq 3 nl 1 es]
abbrev oes (out:List (List Edg)):List PV:=out.map encEs
section
variable (call:CallF) {C:List (List Int)} (hC:Tab C) (hge:∀ r∈C,∀ v∈r,-2≤v) {f:Nat→Nat→Bool} (hf:∀ a,f a a=false)
include hC hge hf
theorem build_l0_round (o0:AObj) (h0:∀ n,cutObj n o0=some o0) {O:List Nat} (hO:OrdN C.length O) {out:List (List Edg)} {o:Nat} (hk:O[out.length]? =some o):
 wpO (fun r=>r=(.norm,⟨eB0 (.lit 256 (C.map agR)) (matP C.length f) (ints (refIn C f o O 256).1) (out.length+1),[o0,.tok 1 (refIn C f o O 256).1.length false,obx false (oes (out++[(refIn C f o O 256).2])),.tok 1 (out.length+1) false]⟩))
  (roundA (evalC call b_leadtrailref13_Build_l0) (clean 4 [2,7,9,10,11,12]) ⟨eB0 (.lit 256 (C.map agR)) (matP C.length f) (ints O) out.length,[o0,.tok 1 O.length false,obx out.isEmpty (oes out),.tok 1 out.length out.isEmpty]⟩):=by
 have hkO:=(List.getElem?_eq_some_iff.1 hk).1
 have hko:O[out.length]=o:=(List.getElem?_eq_some_iff.1 hk).2
 have hO64:O.length≤64:=Nat.le_trans hO.len hC.sz
 have ho:o < C.length:=by rw[← hko];exact hO.lt _ (List.getElem_mem hkO)
 have hlO:(ints O).length=O.length:=by rw[List.length_map]
 have hlo:(oes out).length=out.length:=by rw[List.length_map]
 have e1:decide ((out.length:Int) < (O.length:Int))=true:=dec_t (by omega)
 have t2:IntKind.i64.wrap ((out.length:Int)+1)=((out.length+1:Nat):Int):=wrap_int (by omega)
 have hc2:∀ nl es,cutObj 5 (obx nl es)=some (obx nl es):=fun nl es=>rfl
 have hl1:=build_l1 call hC hge hf out.length o0 (obx out.isEmpty (oes out)) (.tok 1 out.length out.isEmpty) h0 (hc2 _ _) (fun n=>rfl) hO hk
 have hcl5:∀ (m:Nat) (nl:Bool) (es:List PV) (n:Nat) (l:List Edg) (fl:Nat),mapO (cutObj 5) [o0,.tok 1 m false,obx nl es,.tok 1 n nl,eob l fl]=some [o0,.tok 1 m false,obx nl es,.tok 1 n nl,eob l fl]:=by
  intro m nl es n l fl
  have c1:∀ m nl,cutObj 5 (.tok 1 m nl)=some (.tok 1 m nl):=fun m nl=>rfl
  simp only[mapO,h0,hc2,c1,eob_cut,Option.bind_some,Option.map_some]
 have hc24:∀ nl es,cutObj 4 (obx nl es)=some (obx nl es):=fun nl es=>rfl
 have hcl4:∀ (m:Nat) (nl:Bool) (es:List PV) (n:Nat),mapO (cutObj 4) [o0,.tok 1 m false,obx nl es,.tok 1 n nl]=some [o0,.tok 1 m false,obx nl es,.tok 1 n nl]:=by
  intro m nl es n
  have c1:∀ m nl,cutObj 4 (.tok 1 m nl)=some (.tok 1 m nl):=fun m nl=>rfl
  simp only[mapO,h0,hc24,c1,Option.bind_some,Option.map_some]
 have hez:AObj.seq 3 true [] 0 true=eob [] 0:=rfl
 have htk5:∀ a b c d e:AObj,([a,b,c,d,e]:List AObj).take 5=[a,b,c,d,e]:=fun a b c d e=>rfl
 have htk4:∀ a b c d e:AObj,([a,b,c,d,e]:List AObj).take 4=[a,b,c,d]:=fun a b c d e=>rfl
 have d50:(0 < 5)=True:=by simp
 have d51:(1 < 5)=True:=by simp
 have d52:(2 < 5)=True:=by simp
 have d54:(4 < 5)=True:=by simp
 have d40:(0 < 4)=True:=by simp
 have d41:(1 < 4)=True:=by simp
 have d42:(2 < 4)=True:=by simp
 have g3:(0 < 3)=True:=by simp
 generalize hr:refIn C f o O 256=r at *
 obtain⟨O',l⟩:=r
 simp only at hl1 ⊢
 have hfz:∀ (E:Tr) (fl:Nat) (a b c d:AObj),E.get 13= .own 4 l.length→ghostA (.freeze 13) ⟨E,[a,b,c,d,eob l fl]⟩=some ⟨E.set 13 (.pv (encEs l)),[a,b,c,d,.dead]⟩:=by
  intro E fl a b c d h
  have h1:l.length * 3=(rowA (flatE l)).length:=by rw[rowA_len,flatE_len]
  simp only[ghostA,h,List.getElem?_cons_succ,List.getElem?_cons_zero,eob]
  rw[if_pos ⟨h1,rfl⟩,List.set_cons_succ,List.set_cons_succ,List.set_cons_succ,List.set_cons_succ,List.set_cons_zero]
  cases hl:l with
  |nil=>rfl
  |cons e l'=>
   rw[← hl]
   have:l.isEmpty=false:=by rw[hl];rfl
   rw[this]
   simp only[Bool.false_eq_true,if_false]
   have h2:allPV (rowA (flatE l))=some ((flatE l).map i64):=by rw[rowA_map,allPV_map]
   rw[h2,Option.map_some,chunkE,encEs,this]
   rfl
 have hpl:∀ (a b c d:AObj) nl es,place [a,b,obx nl es,c,d] 0 (.ptr 2 0)=some (.ptr 2 0):=fun a b c d nl es=>rfl
 have hld:∀ (a b c d:AObj) nl es,loadA [a,b,obx nl es,c,d] false 1 (.ptr 2 0)=some (.uq 3 nl 1 es):=fun a b c d nl es=>rfl
 have hst:∀ (a b c d:AObj) nl nl' es es',storeA [a,b,obx nl es,c,d] 1 (.ptr 2 0) (.uq 3 nl' 1 es')=some [a,b,obx nl' es',c,d]:=fun a b c d nl nl' es es'=>rfl
 have hap:appendA [o0,.tok 1 O'.length false,obx out.isEmpty (oes out),.tok 1 out.length out.isEmpty,.dead] false .uq 1 false 24 (.uq 3 out.isEmpty 1 (oes out)) (.pv (.lit 1 [encEs l]))=some (.uq 3 false 1 (oes (out++[l])),[o0,.tok 1 O'.length false,obx out.isEmpty (oes out),.tok 1 (out.length+1) false,.dead]):=by
  have:=uq_append (A:=[o0,.tok 1 O'.length false,obx out.isEmpty (oes out),.tok 1 out.length out.isEmpty,.dead]) (id:=3) (n:=out.length) (sz:=1) (h:= .uq) (nl:=out.isEmpty) (ag:=false) (bytes:=24) (es:=oes out) rfl hlo.symm (by unfold roomOk;omega) (encEs l)
  rw[this]
  simp[oes]
 have hone:(AV.pv (encEs l)).one=true:=by unfold encEs;split <;> rfl
 have hcel:(AV.pv (encEs l)).cells=[.pv (encEs l)]:=by unfold encEs;split <;> rfl
 have hpu:(AV.pv (encEs l)).pvu= .pv (encEs l):=by unfold encEs;split <;> rfl
 have hpc:(encEs l).cells=[encEs l]:=by unfold encEs;split <;> rfl
 have hcl5z:=hcl5 O.length out.isEmpty (oes out) out.length [] 0
 have hcl4z:=hcl4 O'.length false (oes (out++[l])) (out.length+1)
 generalize encEs l=el at *
 generalize hQQ:(fun r:Ex×St=>_)=QQ
 generalize hL:(PV.lit 256 (C.map agR))=L at *
 generalize hM:matP C.length f=M at *
 generalize hos:ints O=os at *
 generalize hos':ints O'=os' at *
 generalize hou:oes out=ou at *
 generalize hou':oes (out++[l])=ou' at *
 generalize hzb:eob [] 0=zb at *
 generalize hob:obx out.isEmpty ou=ob at *
 simp (implicitDefEqProofs:=false) only[SP,WP,setRow,sevalprocAttr,-List.reduceReplicate,b_leadtrailref13_Build_l0,hlO,e1,ghostA,g3,hez,C_loop,hcl5z,htk5,d50,d51,d52,d54,clean,cutEnv,AV.cut,deep_eq',eB0]
 refine wpO_mono hl1 ?_
 rintro r ⟨E,fl,rfl,k2,k7,k9,k10,k11,k12,k13⟩
 have hfz':=hfz E fl o0 (.tok 1 O'.length false) ob (.tok 1 out.length out.isEmpty) k13
 subst hob
 simp (implicitDefEqProofs:=false) only[SP,WP,setRow,sevalprocAttr,-List.reduceReplicate,hfz',k2,k7,k9,k10,k11,k12,hpl,hld,hap,hst,partE,hone,hcel,hpu,hpc,t2,hcl4z,htk4,d40,d41,d42,clean,cutEnv,AV.cut,deep_eq']
 subst hQQ
 rfl
end
end Go.AM.B1
