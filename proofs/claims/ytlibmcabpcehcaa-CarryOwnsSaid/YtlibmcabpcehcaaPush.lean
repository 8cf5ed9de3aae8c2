/- What Push and Drop do, ring place by ring place. -/
import Derived.Test.YtlibmcabpcehcaaTab
import Derived.Test.YtlibmcabpcehcaaAm23
set_option linter.unusedVariables false
namespace Go.AM.C1
open Go.AM

/-- A carry's cells. -/
def cells (r0 r1 r2 r3 r4 r5 r6 r7 : AV) (room at_ n : Nat) : List AV := [r0, r1, r2, r3, r4, r5, r6, r7, pvInt room, pvInt at_, pvInt n]

theorem push_go (call : CallF) (room at_ n : Nat) (h1 : 1 ≤ room ∧ room ≤ 8) (h2 : at_ < 8) (h3 : n < room) (r0 r1 r2 r3 r4 r5 r6 r7 : AV) (b : Int) (T : List AObj) :
    runF call c_carry_Carry_Push [.ptr 0 0, .pv (.int .u8 b)] (.box (cells r0 r1 r2 r3 r4 r5 r6 r7 room at_ n) :: T) =
      some (.pv (.int .i64 0), .box ((cells r0 r1 r2 r3 r4 r5 r6 r7 room at_ (n + 1)).set ((at_ + n) % 8) (.pv (.int .u8 b))) :: T) := by
  have e1 : room = 1 ∨ room = 2 ∨ room = 3 ∨ room = 4 ∨ room = 5 ∨ room = 6 ∨ room = 7 ∨ room = 8 := by omega
  have e2 : at_ = 0 ∨ at_ = 1 ∨ at_ = 2 ∨ at_ = 3 ∨ at_ = 4 ∨ at_ = 5 ∨ at_ = 6 ∨ at_ = 7 := by omega
  have e3 : n = 0 ∨ n = 1 ∨ n = 2 ∨ n = 3 ∨ n = 4 ∨ n = 5 ∨ n = 6 ∨ n = 7 := by omega
  rcases e1 with rfl | rfl | rfl | rfl | rfl | rfl | rfl | rfl <;> rcases e3 with rfl | rfl | rfl | rfl | rfl | rfl | rfl | rfl <;>
    first
      | (exfalso; omega)
      | (rcases e2 with rfl | rfl | rfl | rfl | rfl | rfl | rfl | rfl <;> (show _ = _; kernel_rfl))

end Go.AM.C1
