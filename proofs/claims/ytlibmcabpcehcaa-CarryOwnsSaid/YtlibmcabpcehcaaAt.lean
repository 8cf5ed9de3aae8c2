/- What At does within the carry, ring place by ring place. -/
import Derived.Test.YtlibmcabpcehcaaRing
set_option linter.unusedVariables false
namespace Go.AM.C1
open Go.AM

theorem at_go (d : Nat) (room at_ n i : Nat) (h2 : at_ < 8) (h3 : n ≤ 8) (h4 : i < n) (r0 r1 r2 r3 r4 r5 r6 r7 : PV) (T : List AObj) :
    runF (callL tab0 (d + 1)) c_carry_Carry_At [.ptr 0 0, pvInt i] (.box (cells (.pv r0) (.pv r1) (.pv r2) (.pv r3) (.pv r4) (.pv r5) (.pv r6) (.pv r7) room at_ n) :: T) =
      some (.pv (.tup [[r0, r1, r2, r3, r4, r5, r6, r7].getD ((at_ + i) % 8) .nilp, .bool true]), .box (cells (.pv r0) (.pv r1) (.pv r2) (.pv r3) (.pv r4) (.pv r5) (.pv r6) (.pv r7) room at_ n) :: T) := by
  have e2 : at_ = 0 ∨ at_ = 1 ∨ at_ = 2 ∨ at_ = 3 ∨ at_ = 4 ∨ at_ = 5 ∨ at_ = 6 ∨ at_ = 7 := by omega
  have e3 : n = 1 ∨ n = 2 ∨ n = 3 ∨ n = 4 ∨ n = 5 ∨ n = 6 ∨ n = 7 ∨ n = 8 := by omega
  have e4 : i = 0 ∨ i = 1 ∨ i = 2 ∨ i = 3 ∨ i = 4 ∨ i = 5 ∨ i = 6 ∨ i = 7 := by omega
  rcases e3 with rfl | rfl | rfl | rfl | rfl | rfl | rfl | rfl <;> rcases e4 with rfl | rfl | rfl | rfl | rfl | rfl | rfl | rfl <;>
    first
      | (exfalso; omega)
      | (rcases e2 with rfl | rfl | rfl | rfl | rfl | rfl | rfl | rfl <;> (show _ = _; kernel_rfl))

end Go.AM.C1
