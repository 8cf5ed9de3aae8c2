/- What of the reference's texts is used here: members, tables. -/
import Derived.Test.YtolkahifidfgeaaS3
set_option linter.unusedVariables false
set_option linter.unusedSimpArgs false
namespace Go.AM.B1
open Go.AM Go.AM.So
theorem allPV_map:∀ (es:List PV),allPV (es.map .pv)=some es
 | []=>rfl
 |e::es=>by rw[List.map_cons,allPV,allPV_map es];rfl
def tab (f:Nat→Bool):List PV:=(List.range 256).map fun x=> .bool (f x)
def inR (l:List (Int×Int)) (x:Nat):Bool:=l.any fun p=>decide (p.1≤(x:Int))&&decide ((x:Int)≤p.2)
theorem inR_mem {l:List (Int×Int)} {x:Nat}:inR l x=true↔memR (x:Int) l:=by
 unfold inR memR;simp
theorem validR_piece {l:List (Int×Int)} {last:Int} (h:validR 255 last l=true):∀ p∈l,0≤p.1∧p.1≤p.2∧p.2≤255:=by
 induction l generalizing last with
 |nil=>intro p hp;cases hp
 |cons q l ih=>
  simp only[validR,Bool.and_eq_true,Bool.not_eq_true',Bool.or_eq_false_iff,decide_eq_false_iff_not] at h
  intro p hp
  rcases List.mem_cons.1 hp with rfl | hp
  ·omega
  ·exact ih h.2 p hp
def memB (l:List (Int×Int)) (x:Nat):Bool:=validR 255 (-2) l&&inR l x
end Go.AM.B1
namespace Go.AM.B1
open Go.AM Go.AM.So
end Go.AM.B1
namespace Go.AM.B1
open Go.AM Go.AM.So
theorem rp2_place (H:List AObj) (x y:PV):place H 0 (.pv (.rp [x,y] 0))=some (.pv (.rp [x,y] 0)):=rfl
theorem rp2_load (H:List AObj) (x y:PV):loadA H false 1 (.pv (.rp [x,y] 0))=some (.pv x):=rfl
theorem rp2_loadA (H:List AObj) (x y:PV):loadA H true 2 (.pv (.rp [x,y] 0))=some (.pv (.agg [x,y])):=rfl
theorem rp1_load (H:List AObj) (x:PV):loadA H false 1 (.pv (.rp [x] 0))=some (.pv x):=rfl
theorem rp1_place (H:List AObj) (x:PV):place H 0 (.pv (.rp [x] 0))=some (.pv (.rp [x] 0)):=rfl
theorem rp1_loadA (H:List AObj) (x:PV):loadA H true 1 (.pv (.rp [x] 0))=some (.pv (.agg [x])):=rfl
end Go.AM.B1
namespace Go.AM.B1
open Go.AM Go.AM.So
end Go.AM.B1
namespace Go.AM.B1
open Go.AM Go.AM.So
theorem meetAt_iff {p q:List (List (Int×Int))} {i:Nat} (hp:i < p.length) (hq:i < q.length) (vp:validR 255 (-2) p[i]=true) (vq:validR 255 (-2) q[i]=true):
 meetAt p q i≠[]↔∃ x,x < 256∧memB p[i] x=true∧memB q[i] x=true:=by
 have hmA:meetAt p q i=meetR (p[i].length+q[i].length) p[i] q[i]:=by
  unfold meetAt
  rw[List.getElem?_eq_getElem hp,List.getElem?_eq_getElem hq]
 have hlaw:=meetR_law _ _ _ (-2) (-2) vp vq (Nat.le_refl _)
 have hme:=validR_piece vp
 rw[hmA]
 generalize p[i]=a at *
 generalize q[i]=b at *
 constructor
 ·intro h
  obtain⟨m,hm⟩:=List.exists_mem_of_ne_nil _ h
  have h2:=(hlaw.1 m.1).1 ⟨m,hm,Int.le_refl _,hlaw.2 m hm⟩
  have h0:0≤m.1∧m.1≤255:=by
   obtain⟨pp,hpp,h3,h4⟩:=h2.1
   have:=hme pp hpp;omega
  refine⟨m.1.toNat,by omega,?_,?_⟩
  ·rw[memB,vp,Bool.true_and,inR_mem,Int.toNat_of_nonneg h0.1];exact h2.1
  ·rw[memB,vq,Bool.true_and,inR_mem,Int.toNat_of_nonneg h0.1];exact h2.2
 ·rintro⟨x,hx,h1,h2⟩ hnil
  rw[memB,vp,Bool.true_and,inR_mem] at h1
  rw[memB,vq,Bool.true_and,inR_mem] at h2
  have:=(hlaw.1 x).2 ⟨h1,h2⟩
  rw[hnil] at this
  exact memR_nil _ this
end Go.AM.B1
namespace Go.AM.B1
open Go.AM Go.AM.So
end Go.AM.B1
namespace Go.AM.B1
open Go.AM Go.AM.So
def onC (f:Nat→Bool):List PV:=(List.range 32).map fun i=> .bool (f i)
def setC (d:Int) (f:Nat→Bool):List PV:=i64 d::onC f
theorem onC_congr {f g:Nat→Bool} (h:∀ x,x < 32→f x=g x):onC f=onC g:=by
 unfold onC
 apply List.map_congr_left
 intro x hx
 rw[h x (by simpa using hx)]
def Bit (a:Al):Prop:=∃ b:Nat,a.2=(b:Int)∧b < 4294967296
end Go.AM.B1
namespace Go.AM.B1
open Go.AM Go.AM.So
theorem setRow_get {α:Type}:∀ (vs cs:List α) (off j:Nat),off+vs.length≤cs.length→(setRow cs off vs)[j]? =if off≤j∧j < off+vs.length then vs[j - off]? else cs[j]?
 | [],cs,off,j,h=>by
   rw[if_neg (by simp only[List.length_nil];omega)];rfl
 |v::vs,cs,off,j,h=>by
  simp only[List.length_cons] at h
  rw[setRow,setRow_get vs _ (off+1) j (by simp;omega)]
  by_cases h1:off+1≤j∧j < off+1+vs.length
  ·rw[if_pos h1,if_pos (by simp only[List.length_cons];omega),show j - off=(j - (off+1))+1 by omega,List.getElem?_cons_succ]
  ·rw[if_neg h1]
   by_cases h2:off=j
   ·subst h2
    rw[List.getElem?_set_self (by omega),if_pos (by simp only[List.length_cons];omega),Nat.sub_self,List.getElem?_cons_zero]
   ·rw[List.getElem?_set_ne h2,if_neg (by simp only[List.length_cons];omega)]
def tabN (n:Nat) (f:Nat→Bool):List PV:=(List.range n).map fun x=> .bool (f x)
theorem tabN_len (n:Nat) (f:Nat→Bool):(tabN n f).length=n:=by rw[tabN,List.length_map,List.length_range]
theorem tabN_at (n:Nat) (f:Nat→Bool) {i:Nat} (h:i < (tabN n f).length):(tabN n f)[i]= .bool (f i):=by
 simp only[tabN,List.getElem_map,List.getElem_range]
theorem tabN_get {n:Nat} (f:Nat→Bool) {i:Nat} (h:i < n):(tabN n f)[i]? =some (.bool (f i)):=by
 rw[List.getElem?_eq_getElem (by rw[tabN_len];exact h),tabN_at]
theorem tabN_get? (n:Nat) (f:Nat→Bool) (i:Nat):(tabN n f)[i]? =if i < n then some (.bool (f i)) else none:=by
 by_cases h:i < n
 ·rw[if_pos h,tabN_get f h]
 ·rw[if_neg h,List.getElem?_eq_none (by rw[tabN_len];omega)]
def memAt (s:Shp) (k x:Nat):Bool:=match s.parts[k]? with
 |some l=>memB l x
 |none=>false
end Go.AM.B1
namespace Go.AM.B1
open Go.AM Go.AM.So
end Go.AM.B1
namespace Go.AM.B1
open Go.AM Go.AM.So
def anyTo (f:Nat→Bool):Nat→Bool
 |0=>false
 |n+1=>anyTo f n||f n
def onB (ss:List Shp) (a:Al) (x j:Nat):Bool:=a.2.toNat.testBit j&&(match ss[j]? with | some s=>memAt s a.1 x | none=>false)
def endB (ss:List Shp) (a:Al) (x j:Nat):Bool:=onB ss a x j&&(match ss[j]? with | some s=>((s.parts.length:Int)==(a.1:Int)+1) | none=>false)
theorem rp_load {row:List PV} {k:Nat} {e:PV} (h:row[k]? =some e) (H:List AObj):loadA H false 1 (.pv (.rp row k))=some (.pv e):=by
 simp only[loadA,partP,Bool.false_eq_true,if_false,h,Option.map_some]
end Go.AM.B1
namespace Go.AM.B1
open Go.AM Go.AM.So
theorem rankR_mem {x:Int}:∀ {l:List (Int×Int)} {last n:Int},validR 255 last l=true→((rankR x n l).2=true↔memR x l)
 | [],last,n,h=>by simp[rankR,memR_nil]
 |p::l,last,n,h=>by
  have hp:=validR_piece h p (by simp)
  have h2:=h
  simp only[validR,Bool.and_eq_true] at h2
  rw[rankR,memR_cons]
  by_cases h1:x < p.1
  ·rw[if_pos h1]
   simp only[Bool.false_eq_true,false_iff]
   rintro (h3 | h3)
   ·omega
   ·have:=validR_memlow h2.2 h3;omega
  ·rw[if_neg h1]
   by_cases h3:x≤p.2
   ·rw[if_pos h3];simp;omega
   ·rw[if_neg h3,rankR_mem h2.2]
    constructor
    ·exact .inr
    ·rintro (h4 | h4)
     ·omega
     ·exact h4
theorem hasR_memB (l:List (Int×Int)) (x:Nat):hasR l x=memB l x:=by
 unfold hasR setR memB
 by_cases h:validR 255 (-2) l=true
 ·rw[if_pos h,h,Bool.true_and,Bool.eq_iff_iff,rankR_mem h,inR_mem]
 ·rw[if_neg h]
  have:validR 255 (-2) l=false:=by simpa using h
  rw[this];rfl
theorem hasAt_memAt (s:Shp) (d x:Nat):hasAt s d x=memAt s d x:=by
 unfold hasAt memAt
 cases s.parts[d]? with
 |none=>rfl
 |some l=>exact hasR_memB l x
theorem anyTo_iff (f:Nat→Bool):∀ n,anyTo f n=true↔∃ j,j < n∧f j=true
 |0=>by simp[anyTo]
 |n+1=>by
  rw[anyTo,Bool.or_eq_true,anyTo_iff f n]
  constructor
  ·rintro (⟨j,h1,h2⟩ | h)
   ·exact⟨j,by omega,h2⟩
   ·exact⟨n,by omega,h⟩
  ·rintro⟨j,h1,h2⟩
   by_cases h:j=n
   ·subst h;exact .inr h2
   ·exact .inl ⟨j,by omega,h2⟩
theorem onB_off {ss:List Shp} {a:Al} {x j:Nat} (h:ss.length≤j):onB ss a x j=false:=by
 rw[onB,List.getElem?_eq_none h,Bool.and_false]
structure BehIs (ss:List Shp) (a:Al) (x:Nat) (m:Nat):Prop where
 fst:(behS x a.2 a.1 0 ss (0,false)).1=(m:Int)
 lt:m < 4294967296
 bit:∀ j,m.testBit j=onB ss a x j
 ends:(behS x a.2 a.1 0 ss (0,false)).2=anyTo (endB ss a x) ss.length
 ex:m≠0↔anyTo (onB ss a x) ss.length=true
theorem beh_is {ss:List Shp} {a:Al} (hb:Bit a) (hw:ss.length≤32) (x:Nat):∃ m,BehIs ss a x m:=by
 obtain⟨d,_⟩:=a
 obtain⟨b,rfl,hb⟩:=hb
 have hN:behS x (b:Int) d 0 ss (0,false)=(((behN x b d 0 ss (0,false)).1:Int),(behN x b d 0 ss (0,false)).2):=behS_N (x:=x) (d:=d) hb ss 0 (0,false) (by omega) (by decide)
 have hbit:∀ j,(behN x b d 0 ss (0,false)).1.testBit j=onB ss (d,(b:Int)) x j:=by
  intro j
  rw[behN_spec]
  simp only[Nat.zero_testBit,Nat.zero_le,decide_true,Bool.true_and,Bool.false_or,Nat.sub_zero,onB,Int.toNat_natCast]
  cases ss[j]? with
  |none=>simp
  |some s=>simp only[hasAt_memAt]
 refine⟨(behN x b d 0 ss (0,false)).1,?_,behN_lt ss 0 (0,false) (by omega) (by decide),hbit,?_,?_⟩
 ·show (behS x (b:Int) d 0 ss (0,false)).1=_
  rw[hN]
 ·show (behS x (b:Int) d 0 ss (0,false)).2=_
  rw[hN]
  show (behN x b d 0 ss (0,false)).2=_
  rw[behN_ends,Bool.false_or,Bool.eq_iff_iff,List.any_eq_true,anyTo_iff]
  constructor
  ·rintro⟨⟨s,j⟩,h1,h2⟩
   rw[List.mk_mem_zipIdx_iff_getElem?] at h1
   have hj:=(List.getElem?_eq_some_iff.1 h1).1
   refine⟨j,hj,?_⟩
   simp only[hasAt_memAt,Bool.and_eq_true,beq_iff_eq] at h2
   rw[endB,onB,h1]
   simp only[Int.toNat_natCast,Bool.and_eq_true,beq_iff_eq]
   exact⟨h2.1,by omega⟩
  ·rintro⟨j,hj,h2⟩
   have h1:ss[j]? =some ss[j]:=List.getElem?_eq_getElem hj
   rw[endB,onB,h1] at h2
   simp only[Int.toNat_natCast,Bool.and_eq_true,beq_iff_eq] at h2
   refine⟨(ss[j],j),by rw[List.mk_mem_zipIdx_iff_getElem?];exact h1,?_⟩
   simp only[hasAt_memAt,Bool.and_eq_true,beq_iff_eq]
   exact⟨h2.1,by omega⟩
 ·rw[anyTo_iff]
  constructor
  ·intro h
   apply Decidable.byContradiction
   intro hn
   apply h
   apply Nat.eq_of_testBit_eq
   intro j
   rw[hbit,Nat.zero_testBit]
   by_cases hj:j < ss.length
   ·cases hc:onB ss (d,(b:Int)) x j with
    |false=>rfl
    |true=>exact absurd ⟨j,hj,hc⟩ hn
   ·exact onB_off (by omega)
  ·rintro⟨j,hj,h⟩ h0
   rw[← hbit,h0,Nat.zero_testBit] at h
   cases h
theorem BehIs.enc {ss:List Shp} {a:Al} {x m:Nat} (h:BehIs ss a x m):setC ((a.1:Int)+1) (fun j=>decide (j < ss.length)&&onB ss a x j)=setC ((a.1+1:Nat):Int) m.testBit:=by
 have:((a.1+1:Nat):Int)=(a.1:Int)+1:=by omega
 rw[this]
 unfold setC
 congr 1
 refine onC_congr fun j hj=> ?_
 rw[h.bit]
 by_cases hj:j < ss.length
 ·rw[decide_eq_true hj,Bool.true_and]
 ·rw[decide_eq_false hj,Bool.false_and,onB_off (by omega)]
theorem BehIs.step {ss:List Shp} {a:Al} {x m:Nat} (h:BehIs ss a x m) (sets:List Al):
 stepX ss a x sets=if anyTo (onB ss a x) ss.length=false then some (sets,-2)
  else if anyTo (endB ss a x) ss.length=true then some (sets,-1)
  else match idxR (a.1+1,(m:Int)) sets 0 with
   |some k=>some (sets,(k:Int))
   |none=>if sets.length < 64 then some (sets++[(a.1+1,(m:Int))],(sets.length:Int)) else none:=by
 unfold stepX
 rw[h.ends,h.fst]
 have:((m:Int)=0)=(anyTo (onB ss a x) ss.length=false):=by
  apply propext
  have:=h.ex
  cases hc:anyTo (onB ss a x) ss.length with
  |true=>rw[hc] at this;simp;have:=this.2 rfl;omega
  |false=>
   rw[hc] at this
   simp
   exact Decidable.byContradiction fun hn=>by have:=this.1 hn;cases this
 by_cases h1:anyTo (onB ss a x) ss.length=false
 ·rw[if_pos h1,if_pos (this.mpr h1)]
 ·rw[if_neg h1,if_neg (fun h=>h1 (this.mp h))]
  by_cases h2:anyTo (endB ss a x) ss.length=true
  ·rw[if_pos h2,if_pos h2]
  ·rw[if_neg h2,if_neg h2]
   cases idxR (a.1+1,(m:Int)) sets 0 <;> rfl
end Go.AM.B1
namespace Go.AM.B1
open Go.AM Go.AM.So
section
variable (call:CallF) {S:PV} {ss:List Shp} {es:List PV} (hS:HeldSch S ss es) (hw:ss.length≤32) (h8:∀ s∈ss,s.parts.length≤8) {sets:List Al} {n x:Nat} {a:Al} (ha:sets[n]? =some a) (hx:x < 256)
 (hok:AllOk ss sets) (hd:a.1≤64)
 (nl nl3:Bool) (rs:List PV) (o0 o1 o3:AObj) (h0:∀ n,cutObj n o0=some o0) (h1:∀ n,cutObj n o1=some o1) (h3:∀ n,cutObj n o3=some o3) {row:List Int} (hrow:row.length=256)
include hS hw h8 ha hx hok hd h0 h1 h3 hrow
end
end Go.AM.B1
namespace Go.AM.B1
open Go.AM Go.AM.So
section
variable (call:CallF) {S:PV} {ss:List Shp} {es:List PV} (hS:HeldSch S ss es) (hw:ss.length≤32) (h8:∀ s∈ss,s.parts.length≤8) {n:Nat} {a:Al}
 (hd:a.1≤64)
 (nl nl3:Bool) (rs:List PV) (o0 o1 o3:AObj) (h0:∀ n,cutObj n o0=some o0) (h1:∀ n,cutObj n o1=some o1) (h3:∀ n,cutObj n o3=some o3)
include hS hw h8 hd h0 h1 h3
end
section
variable (call:CallF) {S:PV} {ss:List Shp} {es:List PV} (hS:HeldSch S ss es) (hw:ss.length≤32) (h8:∀ s∈ss,s.parts.length≤8)
 (nl:Bool) (k0:Nat) (F:List PV)
include hS hw h8
end
end Go.AM.B1
namespace Go.AM.B1
open Go.AM Go.AM.So
attribute [local irreducible] wpO
end Go.AM.B1
namespace Go.AM.B1
open Go.AM Go.AM.So
attribute [local irreducible] wpO
def owns (n:Nat):List AV:=(List.range n).map fun k=> .own (2 * k+1) n
def bobj (n:Nat) (f:Nat→Bool) (fl:Nat):AObj:= .seq 1 false ((tabN n f).map .pv) fl false
structure Mat (H:List AObj) (n:Nat) (f:Nat→Nat→Bool):Prop where
 len:H.length=2 * n+1
 hd:∃ nl,nl=false∧H[0]? =some (.seq 1 false (owns n) 0 nl)
 row:∀ k,k < n→∃ fl,fl≤n∧H[2 * k+1]? =some (bobj n (f k) fl)
 good:HGood H
theorem owns_len (n:Nat):(owns n).length=n:=by rw[owns,List.length_map,List.length_range]
theorem owns_get {n k:Nat} (h:k < n):(owns n)[k]? =some (.own (2 * k+1) n):=by
 rw[owns,List.getElem?_map,List.getElem?_range h];rfl
theorem bobj_cut (n:Nat) (f:Nat→Bool) (fl m:Nat):cutObj m (bobj n f fl)=some (bobj n f fl):=by
 have:((tabN n f).map AV.pv).all (AV.keep m deep)=true:=by
  rw[List.all_eq_true]
  intro v hv
  obtain⟨p,_,rfl⟩:=List.mem_map.1 hv
  rfl
 simp[cutObj,bobj,this]
theorem tabN_setAt (m:Nat) (g:Nat→Bool) {j:Nat} (hj:j < m) (b:Bool):(tabN m g).set j (.bool b)=tabN m fun x=>if x=j then b else g x:=by
 apply List.ext_getElem
 ·rw[List.length_set,tabN_len,tabN_len]
 ·intro k h1 h2
  rw[List.getElem_set,tabN_at,tabN_at]
  by_cases hk:j=k
  ·subst hk;rw[if_pos rfl,if_pos rfl]
  ·rw[if_neg hk,if_neg (Ne.symm hk)]
section
variable {H:List AObj} {n:Nat} {f:Nat→Nat→Bool} (h:Mat H n f)
include h
theorem Mat.cut:mapO (cutObj (2 * n+1)) (H.take (2 * n+1))=some H:=by
 rw[← h.len,List.take_length];exact HGood.cut h.good
theorem Mat.i0 {i:Nat} (hi:i < n):iaddrA' H 1 (.own 0 n) (i:Int)=some (.eptr 0 n i):=by
 obtain⟨nl,_,h0⟩:=h.hd
 simp only[iaddrA',h0]
 rw[if_pos (by refine⟨trivial,?_,?_⟩ <;> first | (unfold idxOk;omega) | (unfold winOk;rw[owns_len];omega))]
 simp
theorem Mat.l0 {i:Nat} (hi:i < n):loadA H false 1 (.eptr 0 n i)=some (.own (2 * i+1) n):=by
 obtain⟨nl,_,h0⟩:=h.hd
 simp only[loadA,h0]
 rw[if_pos (owns_len n)]
 simp only[partA,Bool.false_eq_true,if_false]
 exact owns_get hi
theorem Mat.i1 {i j:Nat} (hi:i < n) (hj:j < n):iaddrA' H 1 (.own (2 * i+1) n) (j:Int)=some (.eptr (2 * i+1) n j):=by
 obtain⟨fl,hf,h0⟩:=h.row i hi
 simp only[iaddrA',h0,bobj]
 rw[if_pos (by refine⟨trivial,?_,?_⟩ <;> first | (unfold idxOk;omega) | (unfold winOk;rw[List.length_map,tabN_len];omega))]
 simp
theorem Mat.l1 {i j:Nat} (hi:i < n) (hj:j < n):loadA H false 1 (.eptr (2 * i+1) n j)=some (.pv (.bool (f i j))):=by
 obtain⟨fl,hf,h0⟩:=h.row i hi
 simp only[loadA,h0,bobj]
 rw[if_pos (by rw[List.length_map,tabN_len])]
 simp only[partA,Bool.false_eq_true,if_false,List.getElem?_map,tabN_get _ hj,Option.map_some]
end
theorem Mat.store {H:List AObj} {n:Nat} {f:Nat→Nat→Bool} (h:Mat H n f) {i j:Nat} (hi:i < n) (hj:j < n):
 ∃ H',storeA H 1 (.eptr (2 * i+1) n j) (.pv (.bool true))=some H'∧Mat H' n (fun a b=>if a=i∧b=j then true else f a b):=by
 obtain⟨fl,hf,h0⟩:=h.row i hi
 have hc:(AV.pv (.bool true)).cells=[.pv (.bool true)]:=rfl
 refine⟨H.set (2 * i+1) (bobj n (fun b=>if b=j then true else f i b) n),?_,?_⟩
 ·simp only[storeA,h0,bobj,hc]
  rw[if_pos ⟨rfl,rfl⟩,if_pos ⟨by rw[List.length_map,tabN_len],by show j+1≤n;omega⟩,setRow,setRow,←List.map_set,tabN_setAt n _ hj]
 ·refine⟨by rw[List.length_set,h.len],?_,?_,?_⟩
  ·obtain⟨nl,hnl,h1⟩:=h.hd
   exact⟨nl,hnl,by rw[List.getElem?_set_ne (by omega)];exact h1⟩
  ·intro k hk
   by_cases hki:k=i
   ·subst hki
    refine⟨n,Nat.le_refl _,?_⟩
    rw[List.getElem?_set_self (by rw[h.len];omega)]
    have:(fun b=>if k=k∧b=j then true else f k b)=fun b=>if b=j then true else f k b:=by funext b;simp only[true_and]
    show _=some (bobj n (fun b=>if k=k∧b=j then true else f k b) n)
    rw[this]
   ·obtain⟨fl',hf',h1⟩:=h.row k hk
    refine⟨fl',hf',?_⟩
    have:(fun b=>if k=i∧b=j then true else f k b)=f k:=by funext b;rw[if_neg (fun h=>hki h.1)]
    rw[List.getElem?_set_ne (by omega),h1]
    show _=some (bobj n (fun b=>if k=i∧b=j then true else f k b) fl')
    rw[this]
  ·intro m hm o ho
   rw[List.length_set] at hm
   rcases List.mem_or_eq_of_mem_set ho with h1 | h1
   ·exact h.good m hm o h1
   ·subst h1;exact bobj_cut _ _ _ _
def set2 (f:Nat→Nat→Bool) (i j a b:Nat):Bool:=if (a=i∧b=j)∨(a=j∧b=i) then true else f a b
def nxt (C:List (List Int)) (i x:Nat):Int:=(C.getD i []).getD x 0
def tells (C:List (List Int)) (f:Nat→Nat→Bool) (i j x:Nat):Bool:=
 ((nxt C i x != nxt C j x)&&(decide (nxt C i x < 0)||decide (nxt C j x < 0)))||(decide (nxt C i x≥0)&&decide (nxt C j x≥0)&&f (nxt C i x).toNat (nxt C j x).toNat)
structure Tab (C:List (List Int)):Prop where
 row:∀ r∈C,r.length=256
 lt:∀ r∈C,∀ v∈r,v < (C.length:Int)
 sz:C.length≤64
theorem Tab.get {C:List (List Int)} (h:Tab C) {i x:Nat} (hi:i < C.length) (hx:x < 256):C[i][x]? =some (nxt C i x)∧nxt C i x < (C.length:Int):=by
 have hm:=List.getElem_mem hi
 have hl:=h.row _ hm
 have hg:C.getD i []=C[i]:=by rw[List.getD_eq_getElem?_getD,List.getElem?_eq_getElem hi];rfl
 have h1:C[i][x]? =some (nxt C i x):=by
  unfold nxt
  rw[hg,List.getD_eq_getElem?_getD,List.getElem?_eq_getElem (by omega)];rfl
 exact⟨h1,h.lt _ hm _ (List.mem_of_getElem? h1)⟩
theorem Tab.iaddr {C:List (List Int)} (h:Tab C) {i:Nat} (hi:i < C.length) (H:List AObj):iaddrA' H 256 (.pv (.lit 256 (C.map agR))) (i:Int)=some (.pv (.rp (C[i].map i64) 0)):=by
 simp only[iaddrA']
 rw[if_pos (by refine⟨trivial,?_⟩;unfold idxOk;simp;omega)]
 simp[hi,agR,PV.cells]
theorem Tab.load {C:List (List Int)} (h:Tab C) {i x:Nat} (hi:i < C.length) (hx:x < 256) (H:List AObj):loadA H false 1 (.pv (.rp (C[i].map i64) x))=some (.pv (i64 (nxt C i x))):=
 rp_load (by rw[List.getElem?_map,(h.get hi hx).1];rfl) H
section
variable (call:CallF) {C:List (List Int)} (hC:Tab C) {i j:Nat} (hi:i < C.length) (hj:j < C.length)
include hC hi hj
end
end Go.AM.B1
namespace Go.AM.B1
open Go.AM Go.AM.So
attribute [local irreducible] wpO
def PairP (C:List (List Int)) (i j:Nat) (f:Nat→Nat→Bool) (g:Bool) (f':Nat→Nat→Bool) (g':Bool):Prop:=
 (f'=f∧g'=g∧(f i j=true∨∀ x,x < 256→tells C f i j x=false))∨(f i j=false∧(∃ x,x < 256∧tells C f i j x=true)∧f'=set2 f i j∧g'=true)
section
variable (call:CallF) {C:List (List Int)} (hC:Tab C)
include hC
end
def falses (n:Nat) (f:Nat→Nat→Bool):Nat:=((List.range n).flatMap fun i=>(List.range n).map fun j=>(i,j)).countP fun p=> !f p.1 p.2
theorem countP_lt {α:Type} {p q:α→Bool}:∀ {l:List α},(∀ a∈l,q a=true→p a=true)→(∃ a∈l,p a=true∧q a=false)→l.countP q < l.countP p
 | [],_,⟨a,h,_⟩=>by cases h
 |b::l,h,⟨a,ha,hp,hq⟩=>by
  rw[List.countP_cons,List.countP_cons]
  have hmono:l.countP q≤l.countP p:=List.countP_mono_left fun x hx h1=>h x (by simp[hx]) h1
  rcases List.mem_cons.1 ha with rfl | ha
  ·rw[hp,hq];simp;omega
  ·have ih:=countP_lt (l:=l) (fun x hx=>h x (by simp[hx])) ⟨a,ha,hp,hq⟩
   have hb:=h b (by simp)
   cases hqb:q b with
   |false=>simp;omega
   |true=>rw[hb hqb];simp;omega
theorem falses_lt {n:Nat} {f:Nat→Nat→Bool} {i j:Nat} (hi:i < n) (hj:j < n) (h:f i j=false):falses n (set2 f i j) < falses n f:=by
 refine countP_lt ?_ ⟨(i,j),?_,?_,?_⟩
 ·rintro⟨a,b⟩ _ h1
  simp only[set2,Bool.not_eq_true'] at h1 ⊢
  split at h1
  ·cases h1
  ·exact h1
 ·rw[List.mem_flatMap]
  exact⟨i,by simpa using hi,by rw[List.mem_map];exact⟨j,by simpa using hj,rfl⟩⟩
 ·simp[h]
 ·simp[set2]
structure PInv (C:List (List Int)) (D:Nat→Nat→Prop) (f0:Nat→Nat→Bool) (done:Nat→Nat→Prop) (f:Nat→Nat→Bool) (g:Bool):Prop where
 snd:∀ a b,f a b=true→D a b
 sym:∀ a b,f a b=f b a
 keep:g=false→f=f0∧∀ i j,done i j→f i j=true∨∀ x,x < 256→tells C f i j x=false
 le:falses C.length f≤falses C.length f0
 lt:g=true→falses C.length f < falses C.length f0
def TrueD (C:List (List Int)) (D:Nat→Nat→Prop):Prop:=(∀ a b,D a b→D b a)∧
 ∀ i j x (f:Nat→Nat→Bool),i < C.length→j < C.length→x < 256→(∀ a b,f a b=true→D a b)→tells C f i j x=true→D i j
theorem PInv.step {C:List (List Int)} {D:Nat→Nat→Prop} (hD:TrueD C D) {f0 f f':Nat→Nat→Bool} {done:Nat→Nat→Prop} {g g':Bool} (h:PInv C D f0 done f g) {i j:Nat} (hi:i < C.length) (hj:j < C.length) (hp:PairP C i j f g f' g'):
 PInv C D f0 (fun a b=>done a b∨(a=i∧b=j)) f' g':=by
 rcases hp with⟨rfl,rfl,hp⟩ | ⟨h1,⟨x,hx,h2⟩,rfl,rfl⟩
 ·refine⟨h.snd,h.sym,fun hg=>⟨(h.keep hg).1,?_⟩,h.le,h.lt⟩
  rintro a b (hd | ⟨rfl,rfl⟩)
  ·exact (h.keep hg).2 a b hd
  ·exact hp
 ·have hd:=hD.2 i j x f hi hj hx h.snd h2
  have hlt:=falses_lt hi hj h1
  have hle:=h.le
  refine⟨?_,?_,fun hg=>(by cases hg),by omega,fun _=>by omega⟩
  ·intro a b hab
   unfold set2 at hab
   split at hab
   ·next hc=>
    rcases hc with⟨rfl,rfl⟩ | ⟨rfl,rfl⟩
    ·exact hd
    ·exact hD.1 _ _ hd
   ·exact h.snd a b hab
  ·intro a b
   unfold set2
   rw[h.sym a b]
   congr 1
   apply propext
   constructor
   ·rintro (⟨h1,h2⟩ | ⟨h1,h2⟩)
    ·exact .inr ⟨h2,h1⟩
    ·exact .inl ⟨h2,h1⟩
   ·rintro (⟨h1,h2⟩ | ⟨h1,h2⟩)
    ·exact .inr ⟨h2,h1⟩
    ·exact .inl ⟨h2,h1⟩
theorem PInv.weaken {C:List (List Int)} {D:Nat→Nat→Prop} {f0 f:Nat→Nat→Bool} {done done':Nat→Nat→Prop} {g:Bool} (h:PInv C D f0 done f g) (hd:∀ a b,done' a b→done a b):PInv C D f0 done' f g:=
 ⟨h.snd,h.sym,fun hg=>⟨(h.keep hg).1,fun a b hab=>(h.keep hg).2 a b (hd a b hab)⟩,h.le,h.lt⟩
end Go.AM.B1
namespace Go.AM.B1
open Go.AM Go.AM.So
attribute [local irreducible] wpO
section
variable (call:CallF) {C:List (List Int)} (hC:Tab C) {D:Nat→Nat→Prop} (hD:TrueD C D) {f0:Nat→Nat→Bool}
include hC hD
end
structure Known (C:List (List Int)) (D:Nat→Nat→Prop) (f:Nat→Nat→Bool) (g:Bool):Prop where
 snd:∀ a b,f a b=true→D a b
 sym:∀ a b,f a b=f b a
 closed:g=false→∀ i j,i < C.length→j < i→f i j=true∨∀ x,x < 256→tells C f i j x=false
end Go.AM.B1
namespace Go.AM.B1
open Go.AM Go.AM.So
attribute [local irreducible] wpO
def ownsTo (n i:Nat):List AV:=(List.range i).map fun k=> .own (2 * k+1) n
theorem ownsTo_cut {n i m:Nat} (h:2 * i+1≤m) (fl:Nat) (nl:Bool):cutObj m (.seq 1 false (ownsTo n i) fl nl)=some (.seq 1 false (ownsTo n i) fl nl):=by
 have:(ownsTo n i).all (AV.keep m deep)=true:=by
  rw[List.all_eq_true]
  intro v hv
  obtain⟨k,hk,rfl⟩:=List.mem_map.1 hv
  have:k < i:=by simpa using hk
  show decide (2 * k+1 < m)=true
  exact decide_eq_true (by omega)
 simp[cutObj,this]
structure MatG (H:List AObj) (n i:Nat):Prop where
 len:H.length=2 * i+1
 hd:∃ nl,H[0]? =some (.seq 1 false (ownsTo n i) 0 nl)∧(nl=true→i=0)
 row:∀ k,k < i→H[2 * k+1]? =some (bobj n (fun _=>false) 0)
 good:HGood H
theorem MatG.step {H:List AObj} {n i:Nat} (h:MatG H n i) (Y:AObj) (hY:Y= .seq 1 false [.own (2 * i+1) n] 0 false):
 MatG ((H++[bobj n (fun _=>false) 0]++[Y]).set 0 (.seq 1 false (ownsTo n (i+1)) 0 false)) n (i+1):=by
 have hl:=h.len
 refine⟨by simp[hl];omega,⟨false,?_,fun h=>by cases h⟩,?_,?_⟩
 ·rw[List.getElem?_set_self (by simp)]
 ·intro k hk
  rw[List.getElem?_set_ne (by omega)]
  rcases Nat.lt_or_ge k i with h1 | h1
  ·rw[List.getElem?_append_left (by simp;omega),List.getElem?_append_left (by omega)]
   exact h.row k h1
  ·have:k=i:=by omega
   subst this
   rw[List.getElem?_append_left (by simp;omega),List.getElem?_append_right (by omega),hl,Nat.sub_self]
   rfl
 ·intro m hm o ho
  simp only[List.length_set,List.length_append,List.length_singleton,hl] at hm
  rcases List.mem_or_eq_of_mem_set ho with h1 | h1
  ·rw[List.mem_append,List.mem_append,List.mem_singleton,List.mem_singleton] at h1
   rcases h1 with (h1 | h1) | h1
   ·exact h.good m (by omega) o h1
   ·subst h1;exact bobj_cut _ _ _ _
   ·subst h1 hY
    have:([AV.own (2 * i+1) n]).all (AV.keep m deep)=true:=by
     show (decide (2 * i+1 < m)&&true)=true
     rw[decide_eq_true (by omega)];rfl
    simp[cutObj,this]
  ·subst h1;exact ownsTo_cut (by omega) _ _
theorem chunk1:∀ l:List PV,chunk 1 false l.length l=l
 | []=>rfl
 |a::l=>by simp only[List.length_cons,chunk,Bool.false_eq_true,if_false,List.headD_cons,List.drop_succ_cons,List.drop_zero,chunk1 l]
theorem mapO_map {α β γ:Type} (f:β→Option γ) (g:α→β) (k:α→γ):∀ (l:List α),(∀ a∈l,f (g a)=some (k a))→mapO f (l.map g)=some (l.map k)
 | [],_=>rfl
 |a::l,h=>by
  rw[List.map_cons,mapO,h a (by simp),mapO_map f g k l (fun x hx=>h x (by simp[hx]))];rfl
def matP (n:Nat) (f:Nat→Nat→Bool):PV:= .lit 1 ((List.range n).map fun i=> .lit 1 (tabN n (f i)))
theorem Mat.toPV {H:List AObj} {n:Nat} {f:Nat→Nat→Bool} (h:Mat H n f):Go.AM.toPV H 6 (.own 0 n)=some (matP n f):=by
 obtain⟨nl,hnl,h0⟩:=h.hd
 subst hnl
 have hrow:∀ k∈List.range n,Go.AM.toPV H 5 (.own (2 * k+1) n)=some (.lit 1 (tabN n (f k))):=by
  intro k hk
  obtain⟨fl,hf,h1⟩:=h.row k (by simpa using hk)
  simp only[Go.AM.toPV,h1,bobj]
  rw[if_pos ⟨by rw[List.length_map,tabN_len];omega,rfl⟩,mapO_pv]
  simp only[Bool.false_eq_true,if_false,Option.map_some]
  have:=chunk1 (tabN n (f k))
  rw[tabN_len] at this
  rw[this]
 simp only[Go.AM.toPV,h0]
 rw[if_pos ⟨by rw[owns_len];omega,rfl⟩,owns,mapO_map _ _ _ _ hrow]
 simp only[Bool.false_eq_true,if_false,Option.map_some,matP]
 have:=chunk1 ((List.range n).map fun i=>PV.lit 1 (tabN n (f i)))
 rw[List.length_map,List.length_range] at this
 rw[this]
end Go.AM.B1
namespace Go.AM.B1
open Go.AM
end Go.AM.B1
namespace Go.AM.B1
open Go.AM Go.AM.So
attribute [local irreducible] wpO
section
variable (call:CallF) (E:Tr) (o0 o1 o2 o3:AObj) (x:Nat) (to:Int) (g14:E.get 14= .pv (i64 x)) (g15:E.get 15= .pv (i64 to)) (hx:x < 256) (hto:to≠ -2)
include g14 g15 hx hto
variable (l:List Edg) (e:Edg) (hl:l.length < 256) (fl:Nat) (hfl:fl≤(l.length+1) * 3) (g13:E.get 13= .own 4 (l.length+1))
include hl hfl g13
end
end Go.AM.B1
namespace Go.AM.B1
open Go.AM Go.AM.So
attribute [local irreducible] wpO
abbrev ints (O:List Nat):List PV:=O.map fun (o:Nat)=>i64 (Int.ofNat o)
section
variable (call:CallF) (L:PV) (n:Nat) (f:Nat→Nat→Bool) (O:List Nat) (k len x:Nat) (o0 o2 o3 o4:AObj)
 (hc:mapO (cutObj 5) [o0,.tok 1 O.length false,o2,o3,o4]=some [o0,.tok 1 O.length false,o2,o3,o4]) (hO:∀ o∈O,o < n) (hO2:O.length≤64)
include hc hO hO2
end
end Go.AM.B1
namespace Go.AM.B1
open Go.AM Go.AM.So
attribute [local irreducible] wpO
theorem edgeR_len (x to:Int) (l:List Edg):(edgeR x to l).length≤l.length+1:=by
 by_cases h:to= -2
 ·subst h;rw[edgeR_none];omega
 ·rcases List.eq_nil_or_concat l with rfl | ⟨l',e,rfl⟩
  ·rw[edgeR_first h];simp
  ·rw[List.concat_eq_append]
   by_cases h2:e.to=to∧e.hi=x - 1
   ·obtain⟨rfl,h3⟩:=h2
    rw[edgeR_join h h3];simp
   ·rw[edgeR_push h h2];simp
structure OrdN (n:Nat) (O:List Nat):Prop where
 nd:O.Nodup
 lt:∀ o∈O,o < n
theorem OrdN.len {n:Nat} {O:List Nat} (h:OrdN n O):O.length≤n:=by
 have h1:=nodup_len n (O.map fun (o:Nat)=>Int.ofNat o) ?_ ?_
 ·simpa using h1
 ·rw[List.Nodup,List.pairwise_map]
  exact h.nd.imp fun hne he=>hne (Int.ofNat.inj he)
 ·intro o ho
  obtain⟨p,hp,rfl⟩:=List.mem_map.1 ho
  have:=h.lt p hp
  constructor
  ·exact Int.natCast_nonneg p
  ·exact Int.ofNat_lt.2 this
section
variable (call:CallF) {C:List (List Int)} (hC:Tab C) (hge:∀ r∈C,∀ v∈r,-2≤v) {f:Nat→Nat→Bool} (hf:∀ a,f a a=false) (k:Nat) (o0 o2 o3:AObj) (h0:∀ n,cutObj n o0=some o0) (h2:cutObj 5 o2=some o2) (h3:∀ n,cutObj n o3=some o3)
include hC hge hf h0 h2 h3
end
end Go.AM.B1
namespace Go.AM.B1
open Go.AM Go.AM.So
attribute [local irreducible] wpO
section
variable (call:CallF) {C:List (List Int)} (hC:Tab C) (hge:∀ r∈C,∀ v∈r,-2≤v) {f:Nat→Nat→Bool} (hf:∀ a,f a a=false)
include hC hge hf
end
section
variable (call:CallF) {C:List (List Int)} (hC:Tab C) (hge:∀ r∈C,∀ v∈r,-2≤v) {f:Nat→Nat→Bool} (hf:∀ a,f a a=false)
include hC hge hf
end
end Go.AM.B1
