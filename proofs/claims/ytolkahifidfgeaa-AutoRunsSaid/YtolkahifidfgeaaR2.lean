/- AutoRuns: Step and Match are right for any automaton, one that comes of no scheme too: for every automaton, state and bytes; no condition. -/
import Derived.Test.YtolkahifidfgeaaS3
import Derived.Test.YtolkahifidfgeaaR1

/- AutoRuns: Step and Match are right for any automaton, one that comes of no scheme too: for every automaton, state and bytes; no condition. -/
set_option linter.unusedVariables false
set_option maxRecDepth 100000
namespace Go.Proofs.Ytolkahifidfgeaa
open Go.ChangeShapes Go.WideShapes Go.ChangeAt Go.RowKit Go.AM

theorem cells5 : Try.prog.cellsOf 5 = 1 := by kernel_rfl
theorem bytes5 : Try.prog.bytesOf 5 = 1 := by kernel_rfl
theorem cells38 : Try.prog.cellsOf 38 = 1 := by kernel_rfl
theorem bytes38 : Try.prog.bytesOf 38 = 24 := by kernel_rfl
theorem cells40 : Try.prog.cellsOf 40 = 3 := by kernel_rfl
theorem bytes40 : Try.prog.bytesOf 40 = 24 := by kernel_rfl
theorem wf_u8 {n : Int} (h : (Lit.int .u8 n).wf = true) : 0 ≤ n ∧ n ≤ 255 := by
  simp only [Lit.wf, Bool.and_eq_true, decide_eq_true_eq] at h
  exact h

theorem sh_edge {g : Nat} {row : List PV} (h : Sh Try.prog (g + 2) 40 row) : ∃ e : B1.Edg, elPV Try.prog 40 row = B1.encE e := by
  rw [el_struct Try.underlying40]
  obtain ⟨rows, hl, rfl, hr⟩ := sh_struct Try.underlying40 h
  match rows, hl with
  | [x, y, z], _ =>
    obtain ⟨a, rfl, _⟩ := sh_int Try.underlying3 (hr 0 _ x rfl rfl)
    obtain ⟨b, rfl, _⟩ := sh_int Try.underlying3 (hr 1 _ y rfl rfl)
    obtain ⟨c, rfl, _⟩ := sh_int Try.underlying3 (hr 2 _ z rfl rfl)
    exact ⟨⟨a, b, c⟩, rfl⟩

/-- A list of what each member is. -/
theorem list_of {α β : Type} {f : α → β} : ∀ {es : List β}, (∀ e ∈ es, ∃ a, e = f a) → ∃ l : List α, es = l.map f
  | [], _ => ⟨[], rfl⟩
  | e :: es, h => by
    obtain ⟨a, ha⟩ := h e (by simp)
    obtain ⟨l, hl⟩ := list_of (es := es) fun e he => h e (by simp [he])
    exact ⟨a :: l, by rw [ha, hl]; rfl⟩

theorem sh_edges {g : Nat} {row : List PV} (h : Sh Try.prog (g + 3) 38 row) : ∃ (V : PV) (l : List B1.Edg), row = [V] ∧ B1.IsL 3 V (l.map B1.encE) ∧ l.length * 24 ≤ reachBytes := by
  rcases sh_slice Try.underlying38 h with rfl | ⟨es, rfl, h1, h2, h3⟩
  · exact ⟨_, [], rfl, .inl ⟨rfl, rfl⟩, Nat.zero_le _⟩
  · obtain ⟨l, hl⟩ := list_of (f := B1.encE) (es := es.map (elPV Try.prog 40)) (by
      intro e he
      obtain ⟨r, hr, rfl⟩ := List.mem_map.1 he
      exact sh_edge (h3 r hr))
    have hlen : l.length = es.length := by have := congrArg List.length hl; simpa using this.symm
    exact ⟨_, l, rfl, .inr (by rw [cells40, hl]), by rw [hlen, ← bytes40]; exact h2⟩

theorem sh_states {g : Nat} {row : List PV} (h : Sh Try.prog (g + 4) 27 row) : ∃ (A : PV) (l : List (List B1.Edg)), row = [A] ∧ B1.HeldSt A l := by
  rcases sh_slice Try.underlying27 h with rfl | ⟨es, rfl, h1, h2, h3⟩
  · exact ⟨_, [], rfl, ⟨[], .inl ⟨rfl, rfl⟩, rfl, by simp⟩, by simp, by simp⟩
  · have key : ∀ es : List (List PV), (∀ r ∈ es, Sh Try.prog (g + 3) 38 r) → ∃ (vs : List PV) (l : List (List B1.Edg)), es.map (elPV Try.prog 38) = vs ∧ vs.length = l.length ∧ (∀ e ∈ l, e.length * 24 ≤ 140737488355328) ∧ ∀ (i : Nat) v e, vs[i]? = some v → l[i]? = some e → B1.IsL 3 v (e.map B1.encE) := by
      intro es
      induction es with
      | nil => intro _; exact ⟨[], [], rfl, rfl, by simp, by simp⟩
      | cons r es ih =>
        intro h
        obtain ⟨vs, l, k1, k2, k3, k4⟩ := ih fun x hx => h x (by simp [hx])
        obtain ⟨V, e, rfl, hV, hle⟩ := sh_edges (h r (by simp))
        refine ⟨V :: vs, e :: l, ?_, by simp [k2], ?_, ?_⟩
        · rw [List.map_cons, k1, el_slice Try.underlying38]
        · intro x hx
          rcases List.mem_cons.1 hx with rfl | hx
          · exact Nat.le_trans hle (by decide)
          · exact k3 x hx
        · intro i v e' hv he
          match i with
          | 0 => simp at hv he; subst hv he; exact hV
          | i + 1 => exact k4 i v e' (by simpa using hv) (by simpa using he)
    obtain ⟨vs, l, k1, k2, k3, k4⟩ := key es h3
    have hlen : l.length = es.length := by rw [← k2, ← k1]; simp
    exact ⟨_, l, rfl, ⟨vs, .inr (by rw [cells38, k1]), k2, k4⟩, by rw [bytes38] at h2; rw [hlen]; exact Nat.le_trans h2 (by decide), k3⟩

theorem sh_auto {g : Nat} {row : List PV} (h : Sh Try.prog (g + 5) 29 row) : ∃ (A : PV) (l : List (List B1.Edg)), row = [A] ∧ B1.HeldSt A l := by
  obtain ⟨rows, hl, rfl, hr⟩ := sh_struct Try.underlying29 h
  match rows, hl with
  | [x], _ =>
    obtain ⟨A, l, rfl, hA⟩ := sh_states (hr 0 _ x rfl rfl)
    exact ⟨A, l, rfl, hA⟩

theorem sh_bytes {g : Nat} {row : List PV} (h : Sh Try.prog (g + 2) 49 row) : ∃ (B : PV) (bs : List Int), row = [B] ∧ B1.IsL 1 B (bs.map B1.u8) ∧ (∀ b ∈ bs, 0 ≤ b ∧ b ≤ 255) ∧ bs.length ≤ 140737488355328 := by
  rcases sh_ints Try.underlying49 Try.underlying5 h with rfl | ⟨l, rfl, _, hl, hw⟩
  · exact ⟨_, [], rfl, .inl ⟨rfl, rfl⟩, by simp, by simp⟩
  · rw [bytes5, Nat.mul_one] at hl
    exact ⟨_, l, rfl, .inr (by rw [cells5]), fun b hb => wf_u8 (hw b hb), Nat.le_trans hl (by decide)⟩

set_option maxHeartbeats 800000 in
set_option maxRecDepth 100000 in
theorem runs_lifted (os : Os) (started : os.Started) (H : Type) (enc : TypeId × Value → H) :
    ReturnsInHanded {} Try.checked os 7 .any (Rows.autoRunsSpec.pre6 enc Try.prog Try.f7 Rows.autoRunsRow.domain false) (Rows.autoRunsSpec.post enc Try.prog Try.f7 false true false false) := by
  refine law_lifted (C := Try.checked) (ts := [29, 3, 49]) (bt := 4) 8 own laidOut started (by kernel_rfl) Try.func7
    (ChangeSpec.witness6 (enc := enc) (C := Try.checked) false ⟨#[], #[.agg #[.slice none 0 0], .int .i64 0, .slice none 0 0], []⟩ 8 (by kernel_rfl) (by kernel_rfl) (by kernel_rfl) (by kernel_rfl))
    rfl rfl Try.params7 (by kernel_rfl) Try.underlying4 (by kernel_rfl) B1.p_leadtraillaw13_AutoRuns ?_ ?_
  · intro ds hd
    match ds, hd with
    | [d0, d1, d2], _ => rfl
  · intro ds hs
    obtain ⟨r0, r1, r2, e, h0, h1, h2⟩ := shs_three (P := Try.prog) hs
    show pureF (fun _ => none) B1.b_leadtraillaw13_AutoRuns (pvs Try.prog 8 [29, 3, 49] ds) = _
    obtain ⟨A, l, rfl, hA⟩ := sh_auto h0
    obtain ⟨n, rfl, _⟩ := sh_int Try.underlying3 h1
    obtain ⟨B, bs, rfl, hB, hb, hw⟩ := sh_bytes h2
    rw [e, el_struct Try.underlying29, el_int Try.underlying3, el_slice Try.underlying49]
    exact B1.runs_run A B l hA n bs hB hb hw

theorem autoRuns_proved : Rows.AutoRunsSaid :=
  OpenClaim.holds_of_wide 7 Try.f7 rfl rfl rfl rfl rfl rfl rfl ⟨rfl, rfl, rfl, rfl, rfl⟩ rfl rfl rfl rfl rfl (by kernel_rfl) Try.func7 (by kernel_rfl)
    (of_decide_eq_true (by kernel_rfl)) (by unfold Func.isWrapper; first | (rw [if_pos (by decide +kernel)]; kernel_rfl) | (rw [if_neg (by decide +kernel)]; exact ⟨rfl, rfl⟩))
    (fun os started H enc _ => runs_lifted os started H enc)

#print axioms autoRuns_proved
end Go.Proofs.Ytolkahifidfgeaa
