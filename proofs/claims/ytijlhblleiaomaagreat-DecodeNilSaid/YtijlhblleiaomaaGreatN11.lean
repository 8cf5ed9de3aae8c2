/- What functions of the program compute. -/
import Derived.Test.YtijlhblleiaomaaGreatN10
import Derived.Test.YtijlhblleiaomaaGreatN7
set_option linter.unusedVariables false
set_option linter.unusedSimpArgs false
namespace Go.AM.B1
open Go.AM Go.AM.So
attribute [local irreducible] ke
section
variable (call:Fa) (E:Tr) (o0 o1 o2 o3:aa) (x:Nat) (to:Int) (g14:E.get 14= .pv (i64 x)) (g15:E.get 15= .pv (i64 to)) (hx:x < 256) (hto:to≠ -2)
include g14 g15 hx hto
variable (l:List je) (e:je) (hl:l.length < 256) (fl:Nat) (hfl:fl≤(l.length+1) * 3) (g13:E.get 13= .own 4 (l.length+1))
include hl hfl g13
end
end Go.AM.B1
namespace Go.AM.B1
open Go.AM Go.AM.So
attribute [local irreducible] ke
abbrev ints (O:List Nat):List PV:=O.map fun (o:Nat)=>i64 (Int.ofNat o)
section
variable (call:Fa) (L:PV) (n:Nat) (f:Nat→Nat→Bool) (O:List Nat) (k len x:Nat) (o0 o2 o3 o4:aa)
 (hc:Va (pa 5) [o0,.tok 1 O.length false,o2,o3,o4]=some [o0,.tok 1 O.length false,o2,o3,o4]) (hO:∀ o∈O,o < n) (hO2:O.length≤64)
include hc hO hO2
end
end Go.AM.B1
namespace Go.AM.B1
open Go.AM Go.AM.So
attribute [local irreducible] ke
theorem VK (x to:Int) (l:List je):(Ek x to l).length≤l.length+1:=by
 by_cases h:to= -2
 ·subst h;rw[Cz];omega
 ·rcases List.eq_nil_or_concat l with rfl | ⟨l',e,rfl⟩
  ·rw[jy h];simp
  ·rw[List.concat_eq_append]
   by_cases h2:e.to=to∧e.hi=x - 1
   ·obtain⟨rfl,h3⟩:=h2
    rw[pz h h3];simp
   ·rw[cA h h2];simp
structure yS (n:Nat) (O:List Nat):Prop where
 nd:O.Nodup
 lt:∀ o∈O,o < n
theorem yS.len {n:Nat} {O:List Nat} (h:yS n O):O.length≤n:=by
 have h1:=Ww n (O.map fun (o:Nat)=>Int.ofNat o) ?_ ?_
 ·simpa using h1
 ·rw[List.Nodup,List.pairwise_map]
  exact h.nd.imp fun hne he=>hne (Int.ofNat.inj he)
 ·intro o ho
  obtain⟨p,hp,rfl⟩:=List.mem_map.1 ho
  have:=h.lt p hp
  constructor
  ·exact Int.natCast_nonneg p
  ·exact Int.ofNat_lt.2 this
section
variable (call:Fa) {C:List (List Int)} (hC:zJ C) (hge:∀ r∈C,∀ v∈r,-2≤v) {f:Nat→Nat→Bool} (hf:∀ a,f a a=false) (k:Nat) (o0 o2 o3:aa) (h0:∀ n,pa n o0=some o0) (h2:pa 5 o2=some o2) (h3:∀ n,pa n o3=some o3)
include hC hge hf h0 h2 h3
end
end Go.AM.B1
namespace Go.AM.B1
open Go.AM Go.AM.So
attribute [local irreducible] ke
section
variable (call:Fa) {C:List (List Int)} (hC:zJ C) (hge:∀ r∈C,∀ v∈r,-2≤v) {f:Nat→Nat→Bool} (hf:∀ a,f a a=false)
include hC hge hf
end
section
variable (call:Fa) {C:List (List Int)} (hC:zJ C) (hge:∀ r∈C,∀ v∈r,-2≤v) {f:Nat→Nat→Bool} (hf:∀ a,f a a=false)
include hC hge hf
end
end Go.AM.B1
namespace Go.AM.B1
open Go.AM Go.AM.So
def co (C:List (List Int)) (o:Nat):Int:=if o=0 then 0 else cls C o
section
variable {ss:List ec} {sets:List Al} {C:List (List Int)} (ta:ue ss) (hpre:ik ss) (W:gj ss sets C) (hl:C.length=sets.length)
 {f:Nat→Nat→Bool} (hf:∀ a,f a a=false) (hK:∀ i j,i < C.length→j < C.length→(f i j=false↔cls C i=cls C j))
include ta hpre W hl hf hK
omit hf hK in
theorem rQ {t:Nat} (h0:0 < t) (ht:t < C.length):cls C t≠0:=by
 intro h
 have h1:=(W.xD hl).Pr ht
 have h2:(bg C.length C.flatten).Pb.getD t 0=0:=h
 rw[h2] at h1
 exact W.QE ta hpre hl h0 ht (((W.xD hl).SG (by omega) ht).2 h1.2.2)
omit ta hpre hf hK in
theorem HN {o x:Nat} (ho:o < C.length) (hx:x < 256):(Ja (bg C.length C.flatten).C (co C o).toNat).getD x 0=ax C o x:=by
 rw[← W.vM hl ho hx]
 unfold co
 by_cases h:o=0
 ·rw[if_pos h,h];rfl
 ·rw[if_neg h]
  have:=((W.xD hl).Pr ho).2.2
  unfold cls
  rw[this]
structure iU (C:List (List Int)) (o:Nat) (x:Nat) (rt:List Int×List Int) (rr:List Nat×List je):Prop where
 ord:yS C.length rr.1
 fst:rt.1=rr.1.map (co C)
 len:rt.2.length=256
 rest:∀ y,x≤y→y < 256→rt.2.getD y 0=ax C o y
 bU:rr.2=(List.range x).foldl (fun l (y:Nat)=>Ek y (rt.2.getD y 0) l) []
end
end Go.AM.B1
namespace Go.AM.B1
open Go.AM Go.AM.So
attribute [local irreducible] ke
section
variable (call:Fa) {C:List (List Int)} (hC:zJ C) (hge:∀ r∈C,∀ v∈r,-2≤v) {f:Nat→Nat→Bool} (hf:∀ a,f a a=false)
include hC hge hf
end
end Go.AM.B1
namespace Go.AM.B1
open Go.AM Go.AM.So
attribute [local irreducible] ke
end Go.AM.B1
namespace Go.AM.B1
open Go.AM Go.AM.So
attribute [local irreducible] ke
end Go.AM.B1
namespace Go.AM.B1
open Go.AM
def im (l:List (List je)):Nat→Int→List Int→Int×Int
 |i,_,[]=>(i,2)
 |i,st,b::r=>if (de l st b).2=false then ((i:Int),3) else if (de l st b).1= -1 then (((i+1:Nat):Int),1) else im l (i+1) (de l st b).1 r
section
variable (call:Fa) (A B:PV) (l:List (List je)) (hA:qn A l) (bs:List Int) (hB:Ah 1 B (bs.map u8)) (hb:∀ b∈bs,0≤b∧b≤255) (hw:bs.length≤maxLen)
include hA hB hb hw
end
end Go.AM.B1
