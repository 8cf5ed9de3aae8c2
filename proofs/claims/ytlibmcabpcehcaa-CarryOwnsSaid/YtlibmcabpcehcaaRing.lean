/- What At and Drop do, ring place by ring place. -/
import Derived.Test.YtlibmcabpcehcaaPush
set_option linter.unusedVariables false
namespace Go.AM.C1
open Go.AM

theorem drop_go (call : CallF) (room at_ n k : Nat) (h2 : at_ < 8) (h3 : n ≤ 8) (h4 : k ≤ n) (r0 r1 r2 r3 r4 r5 r6 r7 : AV) (T : List AObj) :
    runF call c_carry_Carry_Drop [.ptr 0 0, pvInt k] (.box (cells r0 r1 r2 r3 r4 r5 r6 r7 room at_ n) :: T) =
      some (.pv (.int .i64 0), .box (cells r0 r1 r2 r3 r4 r5 r6 r7 room ((at_ + k) % 8) (n - k)) :: T) := by
  have e2 : at_ = 0 ∨ at_ = 1 ∨ at_ = 2 ∨ at_ = 3 ∨ at_ = 4 ∨ at_ = 5 ∨ at_ = 6 ∨ at_ = 7 := by omega
  have e3 : n = 0 ∨ n = 1 ∨ n = 2 ∨ n = 3 ∨ n = 4 ∨ n = 5 ∨ n = 6 ∨ n = 7 ∨ n = 8 := by omega
  have e4 : k = 0 ∨ k = 1 ∨ k = 2 ∨ k = 3 ∨ k = 4 ∨ k = 5 ∨ k = 6 ∨ k = 7 ∨ k = 8 := by omega
  rcases e3 with rfl | rfl | rfl | rfl | rfl | rfl | rfl | rfl | rfl <;> rcases e4 with rfl | rfl | rfl | rfl | rfl | rfl | rfl | rfl | rfl <;>
    first
      | (exfalso; omega)
      | (rcases e2 with rfl | rfl | rfl | rfl | rfl | rfl | rfl | rfl <;> (show _ = _; kernel_rfl))

end Go.AM.C1
