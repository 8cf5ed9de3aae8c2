/- What the calls of CarryOwns do. -/
import Derived.Test.YtlibmcabpcehcaaOwnsCode
import Derived.Test.YtlibmcabpcehcaaPlays
set_option linter.unusedVariables false
set_option linter.unusedSimpArgs false
namespace Go.AM.C1
open Go.AM

/-- What x^0xff is. -/
def x8 (x : Int) : Int := IntKind.u8.wrap ((BitVec.ofInt IntKind.u8.bits x ^^^ BitVec.ofInt IntKind.u8.bits 255).toNat)
theorem x8_fold (x : Int) : IntKind.u8.wrap ((BitVec.ofInt IntKind.u8.bits x ^^^ BitVec.ofInt IntKind.u8.bits 255).toNat) = x8 x := rfl

theorem push_two (call : CallF) (n : Nat) (h3 : n < 8) (r0 r1 r2 r3 r4 r5 r6 r7 : AV) (b : Int) (X : AObj) (T : List AObj) :
    runF call c_carry_Carry_Push [.ptr 1 0, .pv (.int .u8 b)] (X :: .box (cells r0 r1 r2 r3 r4 r5 r6 r7 8 0 n) :: T) =
      some (.pv (.int .i64 0), X :: .box ((cells r0 r1 r2 r3 r4 r5 r6 r7 8 0 (n + 1)).set ((0 + n) % 8) (.pv (.int .u8 b))) :: T) := by
  have e3 : n = 0 ∨ n = 1 ∨ n = 2 ∨ n = 3 ∨ n = 4 ∨ n = 5 ∨ n = 6 ∨ n = 7 := by omega
  rcases e3 with rfl | rfl | rfl | rfl | rfl | rfl | rfl | rfl <;> (show _ = _; kernel_rfl)

/-- An object of bytes. -/
abbrev sq (l : List PV) (fl : Nat) : AObj := .seq 1 false (l.map .pv) fl false

theorem nine {n : Nat} (h3 : n ≤ 8) : n = 0 ∨ n = 1 ∨ n = 2 ∨ n = 3 ∨ n = 4 ∨ n = 5 ∨ n = 6 ∨ n = 7 ∨ n = 8 := by omega

section
variable (n : Nat) (h3 : n ≤ 8) (r0 r1 r2 r3 r4 r5 r6 r7 q0 q1 q2 q3 q4 q5 q6 q7 : Int)
include h3

theorem bytes_x (d : Nat) : runF (callL tabO (d + 2)) o_carry_Carry_Bytes [.ptr 0 0] [.box (ring r0 r1 r2 r3 r4 r5 r6 r7 8 0 n), .box (ring q0 q1 q2 q3 q4 q5 q6 q7 8 0 n)] =
    some (.own 2 n, [.box (ring r0 r1 r2 r3 r4 r5 r6 r7 8 0 n), .box (ring q0 q1 q2 q3 q4 q5 q6 q7 8 0 n), sq (win 0 n [r0, r1, r2, r3, r4, r5, r6, r7]) 0]) := by
  rcases nine h3 with rfl | rfl | rfl | rfl | rfl | rfl | rfl | rfl | rfl <;> (show _ = _; kernel_rfl)

theorem bytes_y (d : Nat) : runF (callL tabO (d + 2)) o_carry_Carry_Bytes [.ptr 0 0] [.box (ring r0 r1 r2 r3 r4 r5 r6 r7 8 0 n), .box (ring q0 q1 q2 q3 q4 q5 q6 q7 8 0 n), sq (win 0 n [r0, r1, r2, r3, r4, r5, r6, r7]) 0] =
    some (.own 3 n, [.box (ring r0 r1 r2 r3 r4 r5 r6 r7 8 0 n), .box (ring q0 q1 q2 q3 q4 q5 q6 q7 8 0 n), sq (win 0 n [r0, r1, r2, r3, r4, r5, r6, r7]) 0, sq (win 0 n [r0, r1, r2, r3, r4, r5, r6, r7]) 0]) := by
  rcases nine h3 with rfl | rfl | rfl | rfl | rfl | rfl | rfl | rfl | rfl <;> (show _ = _; kernel_rfl)

theorem bytes_z (d : Nat) : runF (callL tabO (d + 2)) o_carry_Carry_Bytes [.ptr 1 0] [.box (ring r0 r1 r2 r3 r4 r5 r6 r7 8 0 n), .box (ring q0 q1 q2 q3 q4 q5 q6 q7 8 0 n), sq (win 0 n [r0, r1, r2, r3, r4, r5, r6, r7]) 0, sq (win 0 n [r0, r1, r2, r3, r4, r5, r6, r7]) 0] =
    some (.own 4 n, [.box (ring r0 r1 r2 r3 r4 r5 r6 r7 8 0 n), .box (ring q0 q1 q2 q3 q4 q5 q6 q7 8 0 n), sq (win 0 n [r0, r1, r2, r3, r4, r5, r6, r7]) 0, sq (win 0 n [r0, r1, r2, r3, r4, r5, r6, r7]) 0, sq (win 0 n [q0, q1, q2, q3, q4, q5, q6, q7]) 0]) := by
  rcases nine h3 with rfl | rfl | rfl | rfl | rfl | rfl | rfl | rfl | rfl <;> (show _ = _; kernel_rfl)

end

/-- What OwnBytes leaves. -/
abbrev left (n : Nat) : List AObj := [sq (List.replicate n (u8 0) ++ List.replicate 24 (u8 1)) n, sq (List.replicate n (u8 1) ++ List.replicate 24 (u8 2)) n, sq (List.replicate n (u8 2) ++ List.replicate 24 (u8 3)) n,
  .seq 1 false [.own 2 n, .own 3 n, .own 4 n] 0 false, .seq 1 false [.own 2 (n + 24), .own 3 (n + 24), .own 4 (n + 24)] 0 false]

def OwnGo (n : Nat) : Prop := ∀ (r0 r1 r2 r3 r4 r5 r6 r7 q0 q1 q2 q3 q4 q5 q6 q7 : Int) (d : Nat), runF (callL tabO (d + 2)) o_leadtrailmem_OwnBytes [.own 5 3] [.box (ring r0 r1 r2 r3 r4 r5 r6 r7 8 0 n), .box (ring q0 q1 q2 q3 q4 q5 q6 q7 8 0 n), sq (win 0 n [r0, r1, r2, r3, r4, r5, r6, r7]) 0, sq (win 0 n [r0, r1, r2, r3, r4, r5, r6, r7]) 0, sq (win 0 n [q0, q1, q2, q3, q4, q5, q6, q7]) 0, .seq 1 false [.own 2 n, .own 3 n, .own 4 n] 0 false] =
    some (.pv (.bool true), .box (ring r0 r1 r2 r3 r4 r5 r6 r7 8 0 n) :: .box (ring q0 q1 q2 q3 q4 q5 q6 q7 8 0 n) :: left n)
theorem own_go_0 : OwnGo 0 := by intro r0 r1 r2 r3 r4 r5 r6 r7 q0 q1 q2 q3 q4 q5 q6 q7 d; kernel_rfl
theorem own_go_1 : OwnGo 1 := by intro r0 r1 r2 r3 r4 r5 r6 r7 q0 q1 q2 q3 q4 q5 q6 q7 d; kernel_rfl
theorem own_go_2 : OwnGo 2 := by intro r0 r1 r2 r3 r4 r5 r6 r7 q0 q1 q2 q3 q4 q5 q6 q7 d; kernel_rfl
theorem own_go_3 : OwnGo 3 := by intro r0 r1 r2 r3 r4 r5 r6 r7 q0 q1 q2 q3 q4 q5 q6 q7 d; kernel_rfl
theorem own_go_4 : OwnGo 4 := by intro r0 r1 r2 r3 r4 r5 r6 r7 q0 q1 q2 q3 q4 q5 q6 q7 d; kernel_rfl
theorem own_go_5 : OwnGo 5 := by intro r0 r1 r2 r3 r4 r5 r6 r7 q0 q1 q2 q3 q4 q5 q6 q7 d; kernel_rfl
theorem own_go_6 : OwnGo 6 := by intro r0 r1 r2 r3 r4 r5 r6 r7 q0 q1 q2 q3 q4 q5 q6 q7 d; kernel_rfl
theorem own_go_7 : OwnGo 7 := by intro r0 r1 r2 r3 r4 r5 r6 r7 q0 q1 q2 q3 q4 q5 q6 q7 d; kernel_rfl
theorem own_go_8 : OwnGo 8 := by intro r0 r1 r2 r3 r4 r5 r6 r7 q0 q1 q2 q3 q4 q5 q6 q7 d; kernel_rfl
theorem own_go {n : Nat} (h3 : n ≤ 8) : OwnGo n := by
  rcases nine h3 with rfl | rfl | rfl | rfl | rfl | rfl | rfl | rfl | rfl
  · exact own_go_0
  · exact own_go_1
  · exact own_go_2
  · exact own_go_3
  · exact own_go_4
  · exact own_go_5
  · exact own_go_6
  · exact own_go_7
  · exact own_go_8

section
variable (n : Nat) (h3 : n ≤ 8) (r0 r1 r2 r3 r4 r5 r6 r7 q0 q1 q2 q3 q4 q5 q6 q7 : Int)
include h3

theorem bytes_last (d : Nat) : runF (callL tabO (d + 2)) o_carry_Carry_Bytes [.ptr 0 0] (.box (ring r0 r1 r2 r3 r4 r5 r6 r7 8 0 n) :: .box (ring q0 q1 q2 q3 q4 q5 q6 q7 8 0 n) :: left n) =
    some (.own 7 n, .box (ring r0 r1 r2 r3 r4 r5 r6 r7 8 0 n) :: .box (ring q0 q1 q2 q3 q4 q5 q6 q7 8 0 n) :: left n ++ [sq (win 0 n [r0, r1, r2, r3, r4, r5, r6, r7]) 0]) := by
  rcases nine h3 with rfl | rfl | rfl | rfl | rfl | rfl | rfl | rfl | rfl <;> (show _ = _; kernel_rfl)

theorem cut_left (d0 : AObj) : mapO (cutObj 8) (.box (ring r0 r1 r2 r3 r4 r5 r6 r7 8 0 n) :: .box (ring q0 q1 q2 q3 q4 q5 q6 q7 8 0 n) :: left n ++ [sq (win 0 n [r0, r1, r2, r3, r4, r5, r6, r7]) 0]) =
    some (.box (ring r0 r1 r2 r3 r4 r5 r6 r7 8 0 n) :: .box (ring q0 q1 q2 q3 q4 q5 q6 q7 8 0 n) :: left n ++ [sq (win 0 n [r0, r1, r2, r3, r4, r5, r6, r7]) 0]) := by
  rcases nine h3 with rfl | rfl | rfl | rfl | rfl | rfl | rfl | rfl | rfl <;> (show _ = _; kernel_rfl)
end

theorem at_two (d : Nat) (n i : Nat) (h3 : n ≤ 8) (h4 : i < n) (r0 r1 r2 r3 r4 r5 r6 r7 : PV) (X : AObj) (T : List AObj) :
    runF (callL tabO (d + 1)) c_carry_Carry_At [.ptr 1 0, pvInt i] (X :: .box (cells (.pv r0) (.pv r1) (.pv r2) (.pv r3) (.pv r4) (.pv r5) (.pv r6) (.pv r7) 8 0 n) :: T) =
      some (.pv (.tup [[r0, r1, r2, r3, r4, r5, r6, r7].getD ((0 + i) % 8) .nilp, .bool true]), X :: .box (cells (.pv r0) (.pv r1) (.pv r2) (.pv r3) (.pv r4) (.pv r5) (.pv r6) (.pv r7) 8 0 n) :: T) := by
  have e4 : i = 0 ∨ i = 1 ∨ i = 2 ∨ i = 3 ∨ i = 4 ∨ i = 5 ∨ i = 6 ∨ i = 7 := by omega
  rcases nine h3 with rfl | rfl | rfl | rfl | rfl | rfl | rfl | rfl | rfl <;> rcases e4 with rfl | rfl | rfl | rfl | rfl | rfl | rfl | rfl <;>
    first
      | (exfalso; omega)
      | (show _ = _; kernel_rfl)

end Go.AM.C1
