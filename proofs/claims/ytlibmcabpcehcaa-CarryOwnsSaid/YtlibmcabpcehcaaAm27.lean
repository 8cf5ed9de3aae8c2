/- The abstract machine, part 27: loops, by an invariant. -/
import Derived.Test.YtlibmcabpcehcaaAm26
set_option linter.unusedSimpArgs false
set_option linter.unusedVariables false
namespace Go.AM

def Ex.stop : Ex → Bool
  | .norm => false
  | _ => true

/-- One round of a loop that was begun with so many objects. -/
def roundL (call : CallF) (live : List Nat) (b : ACode) (n : Nat) (s : St) : Option (Ex × St) := roundA (evalC call b) (clean n live) s

theorem loopA_go {g : St → Option (Ex × St)} (I : Nat → St → Prop) (Q : Ex → St → Prop) : ∀ (k N i : Nat) (s : St), N < i + k → i ≤ N → I i s →
    (∀ i, i < N → ∀ s, I i s → (∃ s', g s = some (.norm, s') ∧ I (i + 1) s') ∨ (∃ ex s', g s = some (ex, s') ∧ ex.stop = true ∧ Q ex s')) →
    (∀ s, I N s → ∃ ex s', g s = some (ex, s') ∧ ex.stop = true ∧ Q ex s') →
    ∃ ex s', loopA g k s = some (ex, s') ∧ ex.stop = true ∧ Q ex s' := by
  intro k
  induction k with
  | zero => intro N i s h1 h2; omega
  | succ k ih =>
    intro N i s h1 h2 hI hs he
    have out : (∃ ex s', g s = some (ex, s') ∧ ex.stop = true ∧ Q ex s') → ∃ ex s', loopA g (k + 1) s = some (ex, s') ∧ ex.stop = true ∧ Q ex s' := by
      rintro ⟨ex, s', h, hx, hq⟩
      refine ⟨ex, s', ?_, hx, hq⟩
      show seqA (loopA g k) (g s) = _
      rw [h]
      cases ex with
      | norm => cases hx
      | exit => rfl
      | ret => rfl
    by_cases hi : i < N
    · rcases hs i hi s hI with ⟨s', h, hI'⟩ | h
      · obtain ⟨ex, s'', h2, hx, hq⟩ := ih N (i + 1) s' (by omega) (by omega) hI' hs he
        refine ⟨ex, s'', ?_, hx, hq⟩
        show seqA (loopA g k) (g s) = _
        rw [h]
        exact h2
      · exact out h
    · have : i = N := by omega
      subst this
      exact out (he s hI)

theorem loop_go {call : CallF} {live : List Nat} {b : ACode} {s s0 : St} (I : Nat → St → Prop) (Q : Ex → St → Prop) (N : Nat) (hN : N < rounds)
    (h0 : clean s.H.length live s = some s0) (hI : I 0 s0)
    (hs : ∀ i, i < N → ∀ t, I i t → (∃ t', roundL call live b s.H.length t = some (.norm, t') ∧ I (i + 1) t') ∨ (∃ ex t', roundL call live b s.H.length t = some (ex, t') ∧ ex.stop = true ∧ Q ex t'))
    (he : ∀ t, I N t → ∃ ex t', roundL call live b s.H.length t = some (ex, t') ∧ ex.stop = true ∧ Q ex t') :
    ∃ ex t, evalC call (.loop live b) s = some (ex, t) ∧ ex.stop = true ∧ Q ex t := by
  rw [C_loop, h0]
  exact loopA_go I Q rounds N 0 s0 (by omega) (by omega) hI hs he

theorem seqA_of {f : St → Option (Ex × St)} {ex : Ex} {s : St} (h : ex.stop = true) : seqA f (some (ex, s)) = some (ex, s) := by
  cases ex with
  | norm => cases h
  | exit => rfl
  | ret => rfl

theorem wrap_int {n : Int} (h : -9223372036854775808 ≤ n ∧ n ≤ 9223372036854775807) : IntKind.i64.wrap n = n := by
  rw [IntKind.wrap_i64]
  omega

theorem wrap_u8 {n : Int} (h : 0 ≤ n ∧ n ≤ 255) : IntKind.u8.wrap n = n := by
  have e : IntKind.u8.wrap n = n % 256 := by
    simp [IntKind.signed, IntKind.wrap, IntKind.bits]
  rw [e]
  omega

end Go.AM
