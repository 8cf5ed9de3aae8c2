/- CarryQueue: what was dropped, with what is kept behind it, is what was pushed and taken, and never more than the room is kept: for all bytes and all drops; no condition. -/
import Derived.Test.YtlibmcabpcehcaaQueue4
import Derived.Test.YtlibmcabpcehcaaAm28
import Derived.Test.YtlibmcabpcehcaaNilRow
set_option linter.unusedVariables false
namespace Go.Proofs.Ytlibmcabpcehcaa
open Go.ChangeShapes Go.WideShapes Go.ChangeAt Go.RowKit Go.AM

theorem cells3 : Try.prog.cellsOf 3 = 1 := by kernel_rfl
theorem cells5 : Try.prog.cellsOf 5 = 1 := by kernel_rfl
theorem bytes5 : Try.prog.bytesOf 5 = 1 := by kernel_rfl

theorem queue_pure : PureFn Try.prog 5 (pureF C1.tab0 C1.c_leadtraillaw02_CarryQueue) := pureF_ok C1.tab0_ok C1.queue_ok

set_option maxHeartbeats 800000 in
set_option maxRecDepth 100000 in
theorem queue_lifted (os : Os) (started : os.Started) (H : Type) (enc : TypeId × Value → H) :
    ReturnsInHanded {} Try.checked os 5 .any (Rows.carryQueueSpec.pre6 enc Try.prog Try.f5 Rows.carryQueueRow.domain false) (Rows.carryQueueSpec.post enc Try.prog Try.f5 false true false false) := by
  refine law_lifted (C := Try.checked) (ts := [22, 46]) (bt := 4) 8 own laidOut started (by kernel_rfl) Try.func5
    (ChangeSpec.witness6 (enc := enc) (C := Try.checked) false ⟨#[], #[.slice none 0 0, .slice none 0 0], []⟩ 8 (by kernel_rfl) (by kernel_rfl) (by kernel_rfl) (by kernel_rfl))
    rfl rfl Try.params5 (by kernel_rfl) Try.underlying4 (by kernel_rfl) queue_pure ?_ ?_
  · intro ds hd
    match ds, hd with
    | [d0, d1], _ => rfl
  · intro ds hs
    obtain ⟨r0, r1, e, h0, h1⟩ := shs_two (P := Try.prog) hs
    show pureF C1.tab0 C1.c_leadtraillaw02_CarryQueue (pvs Try.prog 8 [22, 46] ds) = _
    have g0 : ∃ S l, r0 = [S] ∧ C1.Ints .u8 S l ∧ l.length ≤ reachBytes := by
      rcases sh_ints Try.underlying22 Try.underlying5 h0 with rfl | ⟨l, rfl, _, hl, _⟩
      · exact ⟨_, [], rfl, .inl ⟨rfl, rfl⟩, Nat.zero_le _⟩
      · rw [bytes5, Nat.mul_one] at hl
        exact ⟨_, l, rfl, .inr (by rw [cells5]), hl⟩
    have g1 : ∃ S l, r1 = [S] ∧ C1.Ints .i64 S l := by
      rcases sh_ints Try.underlying46 Try.underlying3 h1 with rfl | ⟨l, rfl, _, hl, _⟩
      · exact ⟨_, [], rfl, .inl ⟨rfl, rfl⟩⟩
      · exact ⟨_, l, rfl, .inr (by rw [cells3])⟩
    obtain ⟨S, l, rfl, hS, hl⟩ := g0
    obtain ⟨D, dl, rfl, hD⟩ := g1
    rw [e, el_slice Try.underlying22, el_slice Try.underlying46]
    exact C1.queue_run hD hS hl

theorem carryQueue_proved : Rows.CarryQueueSaid :=
  OpenClaim.holds_of_wide 5 Try.f5 rfl rfl rfl rfl rfl rfl rfl ⟨rfl, rfl, rfl, rfl, rfl⟩ rfl rfl rfl rfl rfl (by kernel_rfl) Try.func5 (by kernel_rfl)
    (of_decide_eq_true (by kernel_rfl)) (by unfold Func.isWrapper; first | (rw [if_pos (by decide +kernel)]; kernel_rfl) | (rw [if_neg (by decide +kernel)]; exact ⟨rfl, rfl⟩))
    (fun os started H enc _ => queue_lifted os started H enc)

#print axioms carryQueue_proved
end Go.Proofs.Ytlibmcabpcehcaa
