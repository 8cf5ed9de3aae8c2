/- CarryNil: a nil carry answers as the document says: for every input; no condition. -/
import Derived.Test.YtlibmcabpcehcaaNil
import Derived.Test.YtlibmcabpcehcaaAm24
import Derived.Test.YtlibmcabpcehcaaRows
set_option linter.unusedVariables false
namespace Go.Proofs.Ytlibmcabpcehcaa
open Go.ChangeShapes Go.WideShapes Go.ChangeAt Go.RowKit Go.AM

theorem own : ownKnob Try.prog.godebug = none := by kernel_rfl
theorem laidOut : laidOutB Try.prog = true := by kernel_rfl
theorem types41 : Try.prog.cellTypes Try.prog.depth 41 = some [3, 3, 5] := by kernel_rfl
theorem cells41 : Try.prog.cellsOf 41 = 3 := by kernel_rfl

/-- What a call is, opened. -/
theorem open_op {W : World} {base : Nat} {v : Value} (h : Value.okWide Try.prog W .any base 41 v) : ∃ k n b : Int, v = .agg #[.int .i64 k, .int .i64 n, .int .u8 b] := by
  unfold Value.okWide at h
  rw [Try.underlying41] at h
  obtain ⟨cs, rfl, hsz, ts, hts, _, hall⟩ := h
  rw [types41] at hts
  injection hts with hts
  subst hts
  rw [cells41] at hsz
  obtain ⟨l⟩ := cs
  match l, hsz with
  | [x, y, z], _ =>
    obtain ⟨u0, h0, k0⟩ := hall 0 x rfl
    obtain ⟨u1, h1, k1⟩ := hall 1 y rfl
    obtain ⟨u2, h2, k2⟩ := hall 2 z rfl
    simp at h0 h1 h2
    subst h0 h1 h2
    obtain ⟨k, rfl, _⟩ := cell_int Try.underlying3 k0
    obtain ⟨n, rfl, _⟩ := cell_int Try.underlying3 k1
    obtain ⟨b, rfl, _⟩ := cell_int Try.underlying5 k2
    exact ⟨k, n, b, rfl⟩

set_option maxHeartbeats 800000 in
set_option maxRecDepth 100000 in
theorem nil_lifted (os : Os) (started : os.Started) (H : Type) (enc : TypeId × Value → H) :
    ReturnsInHanded {} Try.checked os 6 .any (Rows.carryNilSpec.pre6 enc Try.prog Try.f6 Rows.carryNilRow.domain false) (Rows.carryNilSpec.post enc Try.prog Try.f6 false true false false) := by
  refine returnsInHanded_of_change (C := Try.checked) own started (by kernel_rfl) Try.func6
    (ChangeSpec.witness6 (enc := enc) (C := Try.checked) false ⟨#[], #[.agg #[.int .i64 0, .int .i64 0, .int .u8 0]], []⟩ 8 (by kernel_rfl) (by kernel_rfl) (by kernel_rfl) (by kernel_rfl)) ?_
  intro W base args ds gs before hval0 hW _ _
  have hval : ∀ (j : Nat) t v, Try.f6.params[j]? = some t → args[j]? = some v → Value.okWide Try.prog W .any base t v := hval0
  have hW' := hW
  obtain ⟨p, q, hA0, hV, rfl, _, _⟩ := hW
  have hA : DataW.TrodAll enc Try.prog W 0 (fun _ => true) true Try.f6.params.toList args.toList ds p := hA0
  rw [Try.params6] at hA hval
  obtain ⟨v0, d0, rfl, rfl, h0⟩ := trodAll_one hA
  obtain ⟨rfl, rfl⟩ := trodVars_none hV
  clear hA0 hval0
  simp only [List.append_nil] at hW'
  have hlt : ∀ x ∈ p, x.block < W.heap.size := fun x hx => by simpa using hW'.lt x hx
  obtain ⟨k, n, b, rfl⟩ := open_op (hval 0 41 v0 rfl rfl)
  refine (law_calls C1.nil_pure (args := [.agg [.int .i64 k, .int .i64 n, .int .u8 b]]) (vs := [.agg #[.int .i64 k, .int .i64 n, .int .u8 b]]) (.cons _ _ _ _ (.agg _ _ (.cons _ _ _ _ (.int _ _) (.cons _ _ _ _ (.int _ _) (.cons _ _ _ _ (.int _ _) .nil)))) .nil) (C1.nil_run k n b)).mono fun e W' ⟨he, hb⟩ => ?_
  subst he
  have harg0 : DataW.Trod enc Try.prog W' 0 (fun b => decide (b < W.heap.size)) true 41 (.agg #[.int .i64 k, .int .i64 n, .int .u8 b]) d0 p :=
    Below.trod laidOut (by kernel_rfl) (of_decide_eq_true (by kernel_rfl)) h0 hb hlt
  exact ⟨_, rfl, _, _, _, [], _, [], hW', trodAll_mk1 (shut_bool Try.underlying4 _), trodAll_mk1 harg0, rfl, hb.frame _, fun h => by cases h⟩

theorem carryNil_proved : Rows.CarryNilSaid :=
  OpenClaim.holds_of_wide 6 Try.f6 rfl rfl rfl rfl rfl rfl rfl ⟨rfl, rfl, rfl, rfl, rfl⟩ rfl rfl rfl rfl rfl (by kernel_rfl) Try.func6 (by kernel_rfl)
    (of_decide_eq_true (by kernel_rfl)) (by unfold Func.isWrapper; first | (rw [if_pos (by decide +kernel)]; kernel_rfl) | (rw [if_neg (by decide +kernel)]; exact ⟨rfl, rfl⟩))
    (fun os started H enc _ => nil_lifted os started H enc)

#print axioms carryNil_proved
end Go.Proofs.Ytlibmcabpcehcaa
