/- AutoNames: the document's examples of automata and matches hold: no condition. -/
import Derived.Test.YtolkahifidfgeaaS2
import Derived.Test.YtolkahifidfgeaaA3
import Derived.Test.YtolkahifidfgeaaRows

/- AutoNames: the document's examples of automata and matches hold: no condition. -/
set_option linter.unusedVariables false
namespace Go.Proofs.Ytolkahifidfgeaa
open Go.ChangeShapes Go.WideShapes Go.ChangeAt Go.RowKit Go.AM

theorem own : ownKnob Try.prog.godebug = none := by kernel_rfl
theorem laidOut : laidOutB Try.prog = true := by kernel_rfl

set_option maxHeartbeats 800000 in
set_option maxRecDepth 100000 in
theorem names_lifted (os : Os) (started : os.Started) (H : Type) (enc : TypeId × Value → H) :
    ReturnsInHanded {} Try.checked os 6 .any (Rows.autoNamesSpec.pre6 enc Try.prog Try.f6 Rows.autoNamesRow.domain false) (Rows.autoNamesSpec.post enc Try.prog Try.f6 false true false false) := by
  refine law_lifted (C := Try.checked) (ts := []) (bt := 4) 8 own laidOut started (by kernel_rfl) Try.func6
    (ChangeSpec.witness6 (enc := enc) (C := Try.checked) false ⟨#[], #[], []⟩ 8 (by kernel_rfl) (by kernel_rfl) (by kernel_rfl) (by kernel_rfl))
    rfl rfl Try.params6 (by kernel_rfl) Try.underlying4 (by kernel_rfl) B1.p_leadtraillaw13_AutoNames ?_ ?_
  · intro ds hd
    match ds, hd with
    | [], _ => rfl
  · intro ds hs
    obtain rfl := shs_nil hs
    exact B1.names_run

theorem autoNames_proved : Rows.AutoNamesSaid :=
  OpenClaim.holds_of_wide 6 Try.f6 rfl rfl rfl rfl rfl rfl rfl ⟨rfl, rfl, rfl, rfl, rfl⟩ rfl rfl rfl rfl rfl (by kernel_rfl) Try.func6 (by kernel_rfl)
    (of_decide_eq_true (by kernel_rfl)) (by unfold Func.isWrapper; first | (rw [if_pos (by decide +kernel)]; kernel_rfl) | (rw [if_neg (by decide +kernel)]; exact ⟨rfl, rfl⟩))
    (fun os started H enc _ => names_lifted os started H enc)

#print axioms autoNames_proved
end Go.Proofs.Ytolkahifidfgeaa
