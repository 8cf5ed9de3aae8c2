/- The abstract machine, part 24: from a law's reading to the abstract machine and back. -/
import Derived.Test.YtlibmcabpcehcaaAm23
import Derived.ProofKit
import Derived.Carry
set_option linter.unusedSimpArgs false
set_option linter.unusedVariables false
namespace Go.AM
open Go.RowKit

theorem cell_int {P : Program} {w : World} {r : Reach} {base : Nat} {t : TypeId} {v : Value} {k : IntKind} (hu : P.underlying t = some (.int k)) (h : Cell.okWide P w r base t v) : ∃ n, v = .int k n ∧ k.has n := by
  unfold Cell.okWide at h
  rw [hu] at h
  cases v <;> simp [Cell.ok, hu] at h
  obtain ⟨rfl, h⟩ := h
  exact ⟨_, rfl, h⟩

/-- A pure function that answers true, called as a law is. -/
theorem law_calls {P : Program} {f : FuncId} {F : List PV → Option PV} (h : PureFn P f F) {w : World} {args : List PV} {vs : List Value} (hl : LRel (Rw w) args vs) (hr : F args = some (.bool true)) :
    Calls P f ⟨vs⟩ w fun e w' => e = .returned (.bool true) ∧ Below w.heap.size w w' := by
  refine Calls.mono (h.2 w (Rw w) args vs _ (fun _ _ _ h => h) hl hr) ?_
  rintro e w' ⟨v, R', rfl, hb, hv, _⟩
  cases hv
  exact ⟨rfl, hb⟩

end Go.AM
