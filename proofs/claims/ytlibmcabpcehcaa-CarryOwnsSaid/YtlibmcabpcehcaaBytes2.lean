/- What Bytes answers, ring place by ring place, beside other objects. -/
import Derived.Test.YtlibmcabpcehcaaBytes
set_option linter.unusedVariables false
namespace Go.AM.C1
open Go.AM

/-- What is kept, in order. -/
abbrev win (at_ n : Nat) (r : List Int) : List PV := (List.range n).map fun i => u8 (r.getD ((at_ + i) % 8) 0)

theorem bytes_pure (d : Nat) (room at_ n : Nat) (h2 : at_ < 8) (h3 : n ≤ 8) (r0 r1 r2 r3 r4 r5 r6 r7 : Int) (x y z w o1 o2 o3 : PV) :
    runF (callL tab0 (d + 2)) c_carry_Carry_Bytes [.ptr 0 0] [.box (ring r0 r1 r2 r3 r4 r5 r6 r7 room at_ n), .box [.pv x, .pv y], .box [.pv z, .pv w], .box [.pv o1, .pv o2, .pv o3]] =
      some (.uq 4 false 1 (win at_ n [r0, r1, r2, r3, r4, r5, r6, r7]), [.box (ring r0 r1 r2 r3 r4 r5 r6 r7 room at_ n), .box [.pv x, .pv y], .box [.pv z, .pv w], .box [.pv o1, .pv o2, .pv o3], .tok 1 n false]) := by
  have e2 : at_ = 0 ∨ at_ = 1 ∨ at_ = 2 ∨ at_ = 3 ∨ at_ = 4 ∨ at_ = 5 ∨ at_ = 6 ∨ at_ = 7 := by omega
  have e3 : n = 0 ∨ n = 1 ∨ n = 2 ∨ n = 3 ∨ n = 4 ∨ n = 5 ∨ n = 6 ∨ n = 7 ∨ n = 8 := by omega
  rcases e3 with rfl | rfl | rfl | rfl | rfl | rfl | rfl | rfl | rfl <;>
    (rcases e2 with rfl | rfl | rfl | rfl | rfl | rfl | rfl | rfl <;> (show _ = _; kernel_rfl))

theorem bytes_three (d : Nat) (room at_ n : Nat) (h2 : at_ < 8) (h3 : n ≤ 8) (r0 r1 r2 r3 r4 r5 r6 r7 : Int) (x y z w : PV) :
    runF (callL tab0 (d + 2)) c_carry_Carry_Bytes [.ptr 0 0] [.box (ring r0 r1 r2 r3 r4 r5 r6 r7 room at_ n), .box [.pv x, .pv y], .box [.pv z, .pv w]] =
      some (.uq 3 false 1 (win at_ n [r0, r1, r2, r3, r4, r5, r6, r7]), [.box (ring r0 r1 r2 r3 r4 r5 r6 r7 room at_ n), .box [.pv x, .pv y], .box [.pv z, .pv w], .tok 1 n false]) := by
  have e2 : at_ = 0 ∨ at_ = 1 ∨ at_ = 2 ∨ at_ = 3 ∨ at_ = 4 ∨ at_ = 5 ∨ at_ = 6 ∨ at_ = 7 := by omega
  have e3 : n = 0 ∨ n = 1 ∨ n = 2 ∨ n = 3 ∨ n = 4 ∨ n = 5 ∨ n = 6 ∨ n = 7 ∨ n = 8 := by omega
  rcases e3 with rfl | rfl | rfl | rfl | rfl | rfl | rfl | rfl | rfl <;>
    (rcases e2 with rfl | rfl | rfl | rfl | rfl | rfl | rfl | rfl <;> (show _ = _; kernel_rfl))

theorem bytes_uq (d : Nat) (room at_ n m : Nat) (h2 : at_ < 8) (h3 : n ≤ 8) (r0 r1 r2 r3 r4 r5 r6 r7 : Int) (x y z o1 o2 o3 : PV) (es : List PV) :
    runF (callL tab0 (d + 2)) c_carry_Carry_Bytes [.ptr 0 0] [.box (ring r0 r1 r2 r3 r4 r5 r6 r7 room at_ n), .box [.pv x, .pv y], .box [.pv z, .uq 4 false 1 es], .box [.pv o1, .pv o2, .pv o3], .tok 1 m false] =
      some (.uq 5 false 1 (win at_ n [r0, r1, r2, r3, r4, r5, r6, r7]), [.box (ring r0 r1 r2 r3 r4 r5 r6 r7 room at_ n), .box [.pv x, .pv y], .box [.pv z, .uq 4 false 1 es], .box [.pv o1, .pv o2, .pv o3], .tok 1 m false, .tok 1 n false]) := by
  have e2 : at_ = 0 ∨ at_ = 1 ∨ at_ = 2 ∨ at_ = 3 ∨ at_ = 4 ∨ at_ = 5 ∨ at_ = 6 ∨ at_ = 7 := by omega
  have e3 : n = 0 ∨ n = 1 ∨ n = 2 ∨ n = 3 ∨ n = 4 ∨ n = 5 ∨ n = 6 ∨ n = 7 ∨ n = 8 := by omega
  rcases e3 with rfl | rfl | rfl | rfl | rfl | rfl | rfl | rfl | rfl <;>
    (rcases e2 with rfl | rfl | rfl | rfl | rfl | rfl | rfl | rfl <;> (show _ = _; kernel_rfl))

end Go.AM.C1
