/- CarryOwns: what Bytes answers is new memory, and two carries know nothing of one another: for all bytes; no condition. -/
import Derived.Test.YtlibmcabpcehcaaOwns4
import Derived.Test.YtlibmcabpcehcaaQueueRow
set_option linter.unusedVariables false
namespace Go.Proofs.Ytlibmcabpcehcaa
open Go.ChangeShapes Go.WideShapes Go.ChangeAt Go.RowKit Go.AM

theorem owns_pure : PureFn Try.prog 3 (pureF C1.tabO C1.o_leadtraillaw02_CarryOwns) := pureF_ok C1.tabO_ok C1.owns_ok

set_option maxHeartbeats 800000 in
set_option maxRecDepth 100000 in
theorem owns_lifted (os : Os) (started : os.Started) (H : Type) (enc : TypeId × Value → H) :
    ReturnsInHanded {} Try.checked os 3 .any (Rows.carryOwnsSpec.pre6 enc Try.prog Try.f3 Rows.carryOwnsRow.domain false) (Rows.carryOwnsSpec.post enc Try.prog Try.f3 false true false false) := by
  refine law_lifted (C := Try.checked) (ts := [22]) (bt := 4) 8 own laidOut started (by kernel_rfl) Try.func3
    (ChangeSpec.witness6 (enc := enc) (C := Try.checked) false ⟨#[], #[.slice none 0 0], []⟩ 8 (by kernel_rfl) (by kernel_rfl) (by kernel_rfl) (by kernel_rfl))
    rfl rfl Try.params3 (by kernel_rfl) Try.underlying4 (by kernel_rfl) owns_pure ?_ ?_
  · intro ds hd
    match ds, hd with
    | [d0], _ => rfl
  · intro ds hs
    obtain ⟨r0, e, h0⟩ := shs_one (P := Try.prog) hs
    show pureF C1.tabO C1.o_leadtraillaw02_CarryOwns (pvs Try.prog 8 [22] ds) = _
    have g0 : ∃ S l, r0 = [S] ∧ C1.Ints .u8 S l ∧ l.length ≤ reachBytes := by
      rcases sh_ints Try.underlying22 Try.underlying5 h0 with rfl | ⟨l, rfl, _, hl, _⟩
      · exact ⟨_, [], rfl, .inl ⟨rfl, rfl⟩, Nat.zero_le _⟩
      · rw [bytes5, Nat.mul_one] at hl
        exact ⟨_, l, rfl, .inr (by rw [cells5]), hl⟩
    obtain ⟨S, l, rfl, hS, hl⟩ := g0
    rw [e, el_slice Try.underlying22]
    exact C1.owns_run hS hl

theorem carryOwns_proved : Rows.CarryOwnsSaid :=
  OpenClaim.holds_of_wide 3 Try.f3 rfl rfl rfl rfl rfl rfl rfl ⟨rfl, rfl, rfl, rfl, rfl⟩ rfl rfl rfl rfl rfl (by kernel_rfl) Try.func3 (by kernel_rfl)
    (of_decide_eq_true (by kernel_rfl)) (by unfold Func.isWrapper; first | (rw [if_pos (by decide +kernel)]; kernel_rfl) | (rw [if_neg (by decide +kernel)]; exact ⟨rfl, rfl⟩))
    (fun os started H enc _ => owns_lifted os started H enc)

#print axioms carryOwns_proved
end Go.Proofs.Ytlibmcabpcehcaa
