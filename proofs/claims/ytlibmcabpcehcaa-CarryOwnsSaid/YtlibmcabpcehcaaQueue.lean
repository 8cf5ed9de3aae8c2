/- One round of CarryQueue. -/
import Derived.Test.YtlibmcabpcehcaaPlays
set_option linter.unusedVariables false
set_option linter.unusedSimpArgs false
namespace Go.AM.C1
open Go.AM

theorem bestA_mx2 (k k' : IntKind) (x y : Int) : bestA true [.pv (.int k x), .pv (.int k' y)] = some (.int k (max x y)) := by
  simp only [bestA, bestOf, if_true]
  congr 2
  split <;> omega
theorem bestA_mn2 (k k' : IntKind) (x y : Int) : bestA false [.pv (.int k x), .pv (.int k' y)] = some (.int k (min x y)) := by
  simp only [bestA, bestOf, Bool.false_eq_true, if_false]
  congr 2
  split <;> omega

theorem bytes_toks (d : Nat) (room at_ n a b : Nat) (p q : Bool) (h2 : at_ < 8) (h3 : n ≤ 8) (r0 r1 r2 r3 r4 r5 r6 r7 : Int) :
    runF (callL tab0 (d + 2)) c_carry_Carry_Bytes [.ptr 0 0] [.box (ring r0 r1 r2 r3 r4 r5 r6 r7 room at_ n), .tok 1 a p, .tok 1 b q] =
      some (.uq 3 false 1 (win at_ n [r0, r1, r2, r3, r4, r5, r6, r7]), [.box (ring r0 r1 r2 r3 r4 r5 r6 r7 room at_ n), .tok 1 a p, .tok 1 b q, .tok 1 n false]) := by
  have e2 : at_ = 0 ∨ at_ = 1 ∨ at_ = 2 ∨ at_ = 3 ∨ at_ = 4 ∨ at_ = 5 ∨ at_ = 6 ∨ at_ = 7 := by omega
  have e3 : n = 0 ∨ n = 1 ∨ n = 2 ∨ n = 3 ∨ n = 4 ∨ n = 5 ∨ n = 6 ∨ n = 7 ∨ n = 8 := by omega
  rcases e3 with rfl | rfl | rfl | rfl | rfl | rfl | rfl | rfl | rfl <;>
    (rcases e2 with rfl | rfl | rfl | rfl | rfl | rfl | rfl | rfl <;> (show _ = _; kernel_rfl))

/-- The temporaries at the loop's head. -/
abbrev envQ (D S : PV) (len i : Int) (I O : AV) : Tr := ((((((Tr.lf.set 28 (.pv (.int .i64 i))).set 27 (.pv (.int .i64 len))).set 26 (.pv S)).set 8 O).set 7 I).set 5 (.ptr 0 0)).set 1 (.pv D)

end Go.AM.C1
