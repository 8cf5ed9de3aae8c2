/- What functions of the program compute. -/
import Derived.Test.YtdglpnpkgngcdaaGreatM8
set_option linter.unusedVariables false
set_option linter.unusedSimpArgs false
namespace Go.AM.B1
open Go.AM Go.AM.So
def onC (f:Nat→Bool):List PV:=(List.range 32).map fun i=> .bool (f i)
def setC (d:Int) (f:Nat→Bool):List PV:=i64 d::onC f
theorem onC_congr {f g:Nat→Bool} (h:∀ x,x < 32→f x=g x):onC f=onC g:=by
 unfold onC
 apply List.map_congr_left
 intro x hx
 rw[h x (by simpa using hx)]
def Bit (a:Al):Prop:=∃ b:Nat,a.2=(b:Int)∧b < 4294967296
end Go.AM.B1
namespace Go.AM.B1
open Go.AM Go.AM.So
theorem setRow_get {α:Type}:∀ (vs cs:List α) (off j:Nat),off+vs.length≤cs.length→(setRow cs off vs)[j]? =if off≤j∧j < off+vs.length then vs[j - off]? else cs[j]?
 | [],cs,off,j,h=>by
   rw[if_neg (by simp only[List.length_nil];omega)];rfl
 |v::vs,cs,off,j,h=>by
  simp only[List.length_cons] at h
  rw[setRow,setRow_get vs _ (off+1) j (by simp;omega)]
  by_cases h1:off+1≤j∧j < off+1+vs.length
  ·rw[if_pos h1,if_pos (by simp only[List.length_cons];omega),show j - off=(j - (off+1))+1 by omega,List.getElem?_cons_succ]
  ·rw[if_neg h1]
   by_cases h2:off=j
   ·subst h2
    rw[List.getElem?_set_self (by omega),if_pos (by simp only[List.length_cons];omega),Nat.sub_self,List.getElem?_cons_zero]
   ·rw[List.getElem?_set_ne h2,if_neg (by simp only[List.length_cons];omega)]
def tabN (n:Nat) (f:Nat→Bool):List PV:=(List.range n).map fun x=> .bool (f x)
theorem tabN_len (n:Nat) (f:Nat→Bool):(tabN n f).length=n:=by rw[tabN,List.length_map,List.length_range]
theorem tabN_at (n:Nat) (f:Nat→Bool) {i:Nat} (h:i < (tabN n f).length):(tabN n f)[i]= .bool (f i):=by
 simp only[tabN,List.getElem_map,List.getElem_range]
theorem tabN_get {n:Nat} (f:Nat→Bool) {i:Nat} (h:i < n):(tabN n f)[i]? =some (.bool (f i)):=by
 rw[List.getElem?_eq_getElem (by rw[tabN_len];exact h),tabN_at]
theorem tabN_get? (n:Nat) (f:Nat→Bool) (i:Nat):(tabN n f)[i]? =if i < n then some (.bool (f i)) else none:=by
 by_cases h:i < n
 ·rw[if_pos h,tabN_get f h]
 ·rw[if_neg h,List.getElem?_eq_none (by rw[tabN_len];omega)]
def memAt (s:Shp) (k x:Nat):Bool:=match s.parts[k]? with
 |some l=>memB l x
 |none=>false
end Go.AM.B1
namespace Go.AM.B1
open Go.AM Go.AM.So
end Go.AM.B1
namespace Go.AM.B1
open Go.AM Go.AM.So
def anyTo (f:Nat→Bool):Nat→Bool
 |0=>false
 |n+1=>anyTo f n||f n
def onB (ss:List Shp) (a:Al) (x j:Nat):Bool:=a.2.toNat.testBit j&&(match ss[j]? with | some s=>memAt s a.1 x | none=>false)
def endB (ss:List Shp) (a:Al) (x j:Nat):Bool:=onB ss a x j&&(match ss[j]? with | some s=>((s.parts.length:Int)==(a.1:Int)+1) | none=>false)
theorem rp_load {row:List PV} {k:Nat} {e:PV} (h:row[k]? =some e) (H:List AObj):loadA H false 1 (.pv (.rp row k))=some (.pv e):=by
 simp only[loadA,partP,Bool.false_eq_true,if_false,h,Option.map_some]
end Go.AM.B1
namespace Go.AM.B1
open Go.AM Go.AM.So
theorem rankR_mem {x:Int}:∀ {l:List (Int×Int)} {last n:Int},validR 255 last l=true→((rankR x n l).2=true↔memR x l)
 | [],last,n,h=>by simp[rankR,memR_nil]
 |p::l,last,n,h=>by
  have hp:=validR_piece h p (by simp)
  have h2:=h
  simp only[validR,Bool.and_eq_true] at h2
  rw[rankR,memR_cons]
  by_cases h1:x < p.1
  ·rw[if_pos h1]
   simp only[Bool.false_eq_true,false_iff]
   rintro (h3 | h3)
   ·omega
   ·have:=validR_memlow h2.2 h3;omega
  ·rw[if_neg h1]
   by_cases h3:x≤p.2
   ·rw[if_pos h3];simp;omega
   ·rw[if_neg h3,rankR_mem h2.2]
    constructor
    ·exact .inr
    ·rintro (h4 | h4)
     ·omega
     ·exact h4
theorem hasR_memB (l:List (Int×Int)) (x:Nat):hasR l x=memB l x:=by
 unfold hasR setR memB
 by_cases h:validR 255 (-2) l=true
 ·rw[if_pos h,h,Bool.true_and,Bool.eq_iff_iff,rankR_mem h,inR_mem]
 ·rw[if_neg h]
  have:validR 255 (-2) l=false:=by simpa using h
  rw[this];rfl
theorem hasAt_memAt (s:Shp) (d x:Nat):hasAt s d x=memAt s d x:=by
 unfold hasAt memAt
 cases s.parts[d]? with
 |none=>rfl
 |some l=>exact hasR_memB l x
theorem anyTo_iff (f:Nat→Bool):∀ n,anyTo f n=true↔∃ j,j < n∧f j=true
 |0=>by simp[anyTo]
 |n+1=>by
  rw[anyTo,Bool.or_eq_true,anyTo_iff f n]
  constructor
  ·rintro (⟨j,h1,h2⟩ | h)
   ·exact⟨j,by omega,h2⟩
   ·exact⟨n,by omega,h⟩
  ·rintro⟨j,h1,h2⟩
   by_cases h:j=n
   ·subst h;exact .inr h2
   ·exact .inl ⟨j,by omega,h2⟩
theorem onB_off {ss:List Shp} {a:Al} {x j:Nat} (h:ss.length≤j):onB ss a x j=false:=by
 rw[onB,List.getElem?_eq_none h,Bool.and_false]
structure BehIs (ss:List Shp) (a:Al) (x:Nat) (m:Nat):Prop where
 fst:(behS x a.2 a.1 0 ss (0,false)).1=(m:Int)
 lt:m < 4294967296
 bit:∀ j,m.testBit j=onB ss a x j
 ends:(behS x a.2 a.1 0 ss (0,false)).2=anyTo (endB ss a x) ss.length
 ex:m≠0↔anyTo (onB ss a x) ss.length=true
theorem beh_is {ss:List Shp} {a:Al} (hb:Bit a) (hw:ss.length≤32) (x:Nat):∃ m,BehIs ss a x m:=by
 obtain⟨d,_⟩:=a
 obtain⟨b,rfl,hb⟩:=hb
 have hN:behS x (b:Int) d 0 ss (0,false)=(((behN x b d 0 ss (0,false)).1:Int),(behN x b d 0 ss (0,false)).2):=behS_N (x:=x) (d:=d) hb ss 0 (0,false) (by omega) (by decide)
 have hbit:∀ j,(behN x b d 0 ss (0,false)).1.testBit j=onB ss (d,(b:Int)) x j:=by
  intro j
  rw[behN_spec]
  simp only[Nat.zero_testBit,Nat.zero_le,decide_true,Bool.true_and,Bool.false_or,Nat.sub_zero,onB,Int.toNat_natCast]
  cases ss[j]? with
  |none=>simp
  |some s=>simp only[hasAt_memAt]
 refine⟨(behN x b d 0 ss (0,false)).1,?_,behN_lt ss 0 (0,false) (by omega) (by decide),hbit,?_,?_⟩
 ·show (behS x (b:Int) d 0 ss (0,false)).1=_
  rw[hN]
 ·show (behS x (b:Int) d 0 ss (0,false)).2=_
  rw[hN]
  show (behN x b d 0 ss (0,false)).2=_
  rw[behN_ends,Bool.false_or,Bool.eq_iff_iff,List.any_eq_true,anyTo_iff]
  constructor
  ·rintro⟨⟨s,j⟩,h1,h2⟩
   rw[List.mk_mem_zipIdx_iff_getElem?] at h1
   have hj:=(List.getElem?_eq_some_iff.1 h1).1
   refine⟨j,hj,?_⟩
   simp only[hasAt_memAt,Bool.and_eq_true,beq_iff_eq] at h2
   rw[endB,onB,h1]
   simp only[Int.toNat_natCast,Bool.and_eq_true,beq_iff_eq]
   exact⟨h2.1,by omega⟩
  ·rintro⟨j,hj,h2⟩
   have h1:ss[j]? =some ss[j]:=List.getElem?_eq_getElem hj
   rw[endB,onB,h1] at h2
   simp only[Int.toNat_natCast,Bool.and_eq_true,beq_iff_eq] at h2
   refine⟨(ss[j],j),by rw[List.mk_mem_zipIdx_iff_getElem?];exact h1,?_⟩
   simp only[hasAt_memAt,Bool.and_eq_true,beq_iff_eq]
   exact⟨h2.1,by omega⟩
 ·rw[anyTo_iff]
  constructor
  ·intro h
   apply Decidable.byContradiction
   intro hn
   apply h
   apply Nat.eq_of_testBit_eq
   intro j
   rw[hbit,Nat.zero_testBit]
   by_cases hj:j < ss.length
   ·cases hc:onB ss (d,(b:Int)) x j with
    |false=>rfl
    |true=>exact absurd ⟨j,hj,hc⟩ hn
   ·exact onB_off (by omega)
  ·rintro⟨j,hj,h⟩ h0
   rw[← hbit,h0,Nat.zero_testBit] at h
   cases h
theorem BehIs.enc {ss:List Shp} {a:Al} {x m:Nat} (h:BehIs ss a x m):setC ((a.1:Int)+1) (fun j=>decide (j < ss.length)&&onB ss a x j)=setC ((a.1+1:Nat):Int) m.testBit:=by
 have:((a.1+1:Nat):Int)=(a.1:Int)+1:=by omega
 rw[this]
 unfold setC
 congr 1
 refine onC_congr fun j hj=> ?_
 rw[h.bit]
 by_cases hj:j < ss.length
 ·rw[decide_eq_true hj,Bool.true_and]
 ·rw[decide_eq_false hj,Bool.false_and,onB_off (by omega)]
theorem BehIs.step {ss:List Shp} {a:Al} {x m:Nat} (h:BehIs ss a x m) (sets:List Al):
 stepX ss a x sets=if anyTo (onB ss a x) ss.length=false then some (sets,-2)
  else if anyTo (endB ss a x) ss.length=true then some (sets,-1)
  else match idxR (a.1+1,(m:Int)) sets 0 with
   |some k=>some (sets,(k:Int))
   |none=>if sets.length < 64 then some (sets++[(a.1+1,(m:Int))],(sets.length:Int)) else none:=by
 unfold stepX
 rw[h.ends,h.fst]
 have:((m:Int)=0)=(anyTo (onB ss a x) ss.length=false):=by
  apply propext
  have:=h.ex
  cases hc:anyTo (onB ss a x) ss.length with
  |true=>rw[hc] at this;simp;have:=this.2 rfl;omega
  |false=>
   rw[hc] at this
   simp
   exact Decidable.byContradiction fun hn=>by have:=this.1 hn;cases this
 by_cases h1:anyTo (onB ss a x) ss.length=false
 ·rw[if_pos h1,if_pos (this.mpr h1)]
 ·rw[if_neg h1,if_neg (fun h=>h1 (this.mp h))]
  by_cases h2:anyTo (endB ss a x) ss.length=true
  ·rw[if_pos h2,if_pos h2]
  ·rw[if_neg h2,if_neg h2]
   cases idxR (a.1+1,(m:Int)) sets 0 <;> rfl
end Go.AM.B1
namespace Go.AM.B1
open Go.AM Go.AM.So
section
variable (call:CallF) {S:PV} {ss:List Shp} {es:List PV} (hS:HeldSch S ss es) (hw:ss.length≤32) (h8:∀ s∈ss,s.parts.length≤8) {sets:List Al} {n x:Nat} {a:Al} (ha:sets[n]? =some a) (hx:x < 256)
 (hok:AllOk ss sets) (hd:a.1≤64)
 (nl nl3:Bool) (rs:List PV) (o0 o1 o3:AObj) (h0:∀ n,cutObj n o0=some o0) (h1:∀ n,cutObj n o1=some o1) (h3:∀ n,cutObj n o3=some o3) {row:List Int} (hrow:row.length=256)
include hS hw h8 ha hx hok hd h0 h1 h3 hrow
end
end Go.AM.B1
namespace Go.AM.B1
open Go.AM Go.AM.So
section
variable (call:CallF) {S:PV} {ss:List Shp} {es:List PV} (hS:HeldSch S ss es) (hw:ss.length≤32) (h8:∀ s∈ss,s.parts.length≤8) {n:Nat} {a:Al}
 (hd:a.1≤64)
 (nl nl3:Bool) (rs:List PV) (o0 o1 o3:AObj) (h0:∀ n,cutObj n o0=some o0) (h1:∀ n,cutObj n o1=some o1) (h3:∀ n,cutObj n o3=some o3)
include hS hw h8 hd h0 h1 h3
end
section
variable (call:CallF) {S:PV} {ss:List Shp} {es:List PV} (hS:HeldSch S ss es) (hw:ss.length≤32) (h8:∀ s∈ss,s.parts.length≤8)
 (nl:Bool) (k0:Nat) (F:List PV)
include hS hw h8
end
end Go.AM.B1
namespace Go.AM.B1
open Go.AM Go.AM.So
attribute [local irreducible] wpO
end Go.AM.B1
namespace Go.AM.B1
open Go.AM Go.AM.So
attribute [local irreducible] wpO
def owns (n:Nat):List AV:=(List.range n).map fun k=> .own (2 * k+1) n
def bobj (n:Nat) (f:Nat→Bool) (fl:Nat):AObj:= .seq 1 false ((tabN n f).map .pv) fl false
structure Mat (H:List AObj) (n:Nat) (f:Nat→Nat→Bool):Prop where
 len:H.length=2 * n+1
 hd:∃ nl,nl=false∧H[0]? =some (.seq 1 false (owns n) 0 nl)
 row:∀ k,k < n→∃ fl,fl≤n∧H[2 * k+1]? =some (bobj n (f k) fl)
 good:HGood H
theorem owns_len (n:Nat):(owns n).length=n:=by rw[owns,List.length_map,List.length_range]
theorem owns_get {n k:Nat} (h:k < n):(owns n)[k]? =some (.own (2 * k+1) n):=by
 rw[owns,List.getElem?_map,List.getElem?_range h];rfl
theorem bobj_cut (n:Nat) (f:Nat→Bool) (fl m:Nat):cutObj m (bobj n f fl)=some (bobj n f fl):=by
 have:((tabN n f).map AV.pv).all (AV.keep m deep)=true:=by
  rw[List.all_eq_true]
  intro v hv
  obtain⟨p,_,rfl⟩:=List.mem_map.1 hv
  rfl
 simp[cutObj,bobj,this]
theorem tabN_setAt (m:Nat) (g:Nat→Bool) {j:Nat} (hj:j < m) (b:Bool):(tabN m g).set j (.bool b)=tabN m fun x=>if x=j then b else g x:=by
 apply List.ext_getElem
 ·rw[List.length_set,tabN_len,tabN_len]
 ·intro k h1 h2
  rw[List.getElem_set,tabN_at,tabN_at]
  by_cases hk:j=k
  ·subst hk;rw[if_pos rfl,if_pos rfl]
  ·rw[if_neg hk,if_neg (Ne.symm hk)]
section
variable {H:List AObj} {n:Nat} {f:Nat→Nat→Bool} (h:Mat H n f)
include h
theorem Mat.cut:mapO (cutObj (2 * n+1)) (H.take (2 * n+1))=some H:=by
 rw[← h.len,List.take_length];exact HGood.cut h.good
theorem Mat.i0 {i:Nat} (hi:i < n):iaddrA' H 1 (.own 0 n) (i:Int)=some (.eptr 0 n i):=by
 obtain⟨nl,_,h0⟩:=h.hd
 simp only[iaddrA',h0]
 rw[if_pos (by refine⟨trivial,?_,?_⟩ <;> first | (unfold idxOk;omega) | (unfold winOk;rw[owns_len];omega))]
 simp
theorem Mat.l0 {i:Nat} (hi:i < n):loadA H false 1 (.eptr 0 n i)=some (.own (2 * i+1) n):=by
 obtain⟨nl,_,h0⟩:=h.hd
 simp only[loadA,h0]
 rw[if_pos (owns_len n)]
 simp only[partA,Bool.false_eq_true,if_false]
 exact owns_get hi
theorem Mat.i1 {i j:Nat} (hi:i < n) (hj:j < n):iaddrA' H 1 (.own (2 * i+1) n) (j:Int)=some (.eptr (2 * i+1) n j):=by
 obtain⟨fl,hf,h0⟩:=h.row i hi
 simp only[iaddrA',h0,bobj]
 rw[if_pos (by refine⟨trivial,?_,?_⟩ <;> first | (unfold idxOk;omega) | (unfold winOk;rw[List.length_map,tabN_len];omega))]
 simp
theorem Mat.l1 {i j:Nat} (hi:i < n) (hj:j < n):loadA H false 1 (.eptr (2 * i+1) n j)=some (.pv (.bool (f i j))):=by
 obtain⟨fl,hf,h0⟩:=h.row i hi
 simp only[loadA,h0,bobj]
 rw[if_pos (by rw[List.length_map,tabN_len])]
 simp only[partA,Bool.false_eq_true,if_false,List.getElem?_map,tabN_get _ hj,Option.map_some]
end
theorem Mat.store {H:List AObj} {n:Nat} {f:Nat→Nat→Bool} (h:Mat H n f) {i j:Nat} (hi:i < n) (hj:j < n):
 ∃ H',storeA H 1 (.eptr (2 * i+1) n j) (.pv (.bool true))=some H'∧Mat H' n (fun a b=>if a=i∧b=j then true else f a b):=by
 obtain⟨fl,hf,h0⟩:=h.row i hi
 have hc:(AV.pv (.bool true)).cells=[.pv (.bool true)]:=rfl
 refine⟨H.set (2 * i+1) (bobj n (fun b=>if b=j then true else f i b) n),?_,?_⟩
 ·simp only[storeA,h0,bobj,hc]
  rw[if_pos ⟨rfl,rfl⟩,if_pos ⟨by rw[List.length_map,tabN_len],by show j+1≤n;omega⟩,setRow,setRow,←List.map_set,tabN_setAt n _ hj]
 ·refine⟨by rw[List.length_set,h.len],?_,?_,?_⟩
  ·obtain⟨nl,hnl,h1⟩:=h.hd
   exact⟨nl,hnl,by rw[List.getElem?_set_ne (by omega)];exact h1⟩
  ·intro k hk
   by_cases hki:k=i
   ·subst hki
    refine⟨n,Nat.le_refl _,?_⟩
    rw[List.getElem?_set_self (by rw[h.len];omega)]
    have:(fun b=>if k=k∧b=j then true else f k b)=fun b=>if b=j then true else f k b:=by funext b;simp only[true_and]
    show _=some (bobj n (fun b=>if k=k∧b=j then true else f k b) n)
    rw[this]
   ·obtain⟨fl',hf',h1⟩:=h.row k hk
    refine⟨fl',hf',?_⟩
    have:(fun b=>if k=i∧b=j then true else f k b)=f k:=by funext b;rw[if_neg (fun h=>hki h.1)]
    rw[List.getElem?_set_ne (by omega),h1]
    show _=some (bobj n (fun b=>if k=i∧b=j then true else f k b) fl')
    rw[this]
  ·intro m hm o ho
   rw[List.length_set] at hm
   rcases List.mem_or_eq_of_mem_set ho with h1 | h1
   ·exact h.good m hm o h1
   ·subst h1;exact bobj_cut _ _ _ _
def set2 (f:Nat→Nat→Bool) (i j a b:Nat):Bool:=if (a=i∧b=j)∨(a=j∧b=i) then true else f a b
def nxt (C:List (List Int)) (i x:Nat):Int:=(C.getD i []).getD x 0
def tells (C:List (List Int)) (f:Nat→Nat→Bool) (i j x:Nat):Bool:=
 ((nxt C i x != nxt C j x)&&(decide (nxt C i x < 0)||decide (nxt C j x < 0)))||(decide (nxt C i x≥0)&&decide (nxt C j x≥0)&&f (nxt C i x).toNat (nxt C j x).toNat)
structure Tab (C:List (List Int)):Prop where
 row:∀ r∈C,r.length=256
 lt:∀ r∈C,∀ v∈r,v < (C.length:Int)
 sz:C.length≤64
theorem Tab.get {C:List (List Int)} (h:Tab C) {i x:Nat} (hi:i < C.length) (hx:x < 256):C[i][x]? =some (nxt C i x)∧nxt C i x < (C.length:Int):=by
 have hm:=List.getElem_mem hi
 have hl:=h.row _ hm
 have hg:C.getD i []=C[i]:=by rw[List.getD_eq_getElem?_getD,List.getElem?_eq_getElem hi];rfl
 have h1:C[i][x]? =some (nxt C i x):=by
  unfold nxt
  rw[hg,List.getD_eq_getElem?_getD,List.getElem?_eq_getElem (by omega)];rfl
 exact⟨h1,h.lt _ hm _ (List.mem_of_getElem? h1)⟩
theorem Tab.iaddr {C:List (List Int)} (h:Tab C) {i:Nat} (hi:i < C.length) (H:List AObj):iaddrA' H 256 (.pv (.lit 256 (C.map agR))) (i:Int)=some (.pv (.rp (C[i].map i64) 0)):=by
 simp only[iaddrA']
 rw[if_pos (by refine⟨trivial,?_⟩;unfold idxOk;simp;omega)]
 simp[hi,agR,PV.cells]
theorem Tab.load {C:List (List Int)} (h:Tab C) {i x:Nat} (hi:i < C.length) (hx:x < 256) (H:List AObj):loadA H false 1 (.pv (.rp (C[i].map i64) x))=some (.pv (i64 (nxt C i x))):=
 rp_load (by rw[List.getElem?_map,(h.get hi hx).1];rfl) H
section
variable (call:CallF) {C:List (List Int)} (hC:Tab C) {i j:Nat} (hi:i < C.length) (hj:j < C.length)
include hC hi hj
end
end Go.AM.B1
