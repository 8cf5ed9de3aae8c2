/- What Bytes answers, ring place by ring place. -/
import Derived.Test.YtlibmcabpcehcaaAt
set_option linter.unusedVariables false
namespace Go.AM.C1
open Go.AM

abbrev u8 (n : Int) : PV := .int .u8 n

/-- A carry's cells, its ring of bytes. -/
abbrev ring (r0 r1 r2 r3 r4 r5 r6 r7 : Int) (room at_ n : Nat) : List AV := cells (.pv (u8 r0)) (.pv (u8 r1)) (.pv (u8 r2)) (.pv (u8 r3)) (.pv (u8 r4)) (.pv (u8 r5)) (.pv (u8 r6)) (.pv (u8 r7)) room at_ n

theorem bytes_go (d : Nat) (room at_ n : Nat) (h2 : at_ < 8) (h3 : n ≤ 8) (r0 r1 r2 r3 r4 r5 r6 r7 : Int) (x y : PV) :
    runF (callL tab0 (d + 2)) c_carry_Carry_Bytes [.ptr 0 0] [.box (ring r0 r1 r2 r3 r4 r5 r6 r7 room at_ n), .box [.pv x, .pv y]] =
      some (.uq 2 false 1 ((List.range n).map fun i => u8 ([r0, r1, r2, r3, r4, r5, r6, r7].getD ((at_ + i) % 8) 0)), [.box (ring r0 r1 r2 r3 r4 r5 r6 r7 room at_ n), .box [.pv x, .pv y], .tok 1 n false]) := by
  have e2 : at_ = 0 ∨ at_ = 1 ∨ at_ = 2 ∨ at_ = 3 ∨ at_ = 4 ∨ at_ = 5 ∨ at_ = 6 ∨ at_ = 7 := by omega
  have e3 : n = 0 ∨ n = 1 ∨ n = 2 ∨ n = 3 ∨ n = 4 ∨ n = 5 ∨ n = 6 ∨ n = 7 ∨ n = 8 := by omega
  rcases e3 with rfl | rfl | rfl | rfl | rfl | rfl | rfl | rfl | rfl <;>
    (rcases e2 with rfl | rfl | rfl | rfl | rfl | rfl | rfl | rfl <;> (show _ = _; kernel_rfl))

end Go.AM.C1
