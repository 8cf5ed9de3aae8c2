/- The abstract machine, part 22: functions. -/
import Derived.Test.YtlibmcabpcehcaaAm21
set_option linter.unusedSimpArgs false
set_option linter.unusedVariables false
namespace Go.AM
open Go.RowKit

def okRes (P : Program) : List ResultVar → List ARes → Bool
  | [], [] => true
  | .tmp t :: r, .tmp t' :: r' => t == t' && okRes P r r'
  | .cell a ty :: r, .cell t ag n :: r' => a == t && aggP P ty == some ag && (!ag || sizeP P ty == some n) && okRes P r r'
  | _, _ => false

/-- The check of a function. -/
def okFunc (P : Program) (fo : Nat → FuncId) (g : Func) (af : AFn) : Bool :=
  (match g.body with
  | some c => okCode P fo g.ntmps c af.body
  | none => false) && okRes P g.results.toList af.results && !(g.name == "runtime.NumGoroutine") && decide (af.np ≤ g.ntmps)

def dutiesF (g : Func) (af : AFn) : List (FuncId × (List PV → Option PV)) :=
  match g.body with
  | some c => duties c af.body
  | none => []

/-- A function of the program, checked against one of the abstract machine. -/
def FnOk (P : Program) (fo : Nat → FuncId) (f : FuncId) (af : AFn) : Prop :=
  ∃ g, P.funcs[f]? = some g ∧ okFunc P fo g af = true ∧ ∀ d ∈ dutiesF g af, PureFn P d.1 d.2

def TableOk (P : Program) (fo : Nat → FuncId) (L : Nat → Option AFn) : Prop := ∀ ix af, L ix = some af → FnOk P fo (fo ix) af

section
variable {P : Program} {fo : Nat → FuncId} {B0 : Base} {call : CallF}

theorem argEnv_get : ∀ (args : List AV) (i t : Nat), (argEnv i args).get t = (if i ≤ t then args[t - i]? else none).getD .undef := by
  intro args
  induction args with
  | nil => intro i t; simp [argEnv, Tr.get]
  | cons v r ih =>
    intro i t
    simp only [argEnv, Tr.get_set, ih]
    by_cases h : t = i
    · subst h; simp
    · by_cases h2 : i ≤ t
      · rw [if_neg h, if_pos h2, if_pos (by omega)]
        have : t - i = (t - (i + 1)) + 1 := by omega
        rw [this]; simp
      · rw [if_neg h, if_neg h2, if_neg (by omega)]

theorem argEnv_rel {k : AV → Value → Prop} {args : List AV} {vs : List Value} (h : ALRel fo k args vs) (n : Nat) : ERel fo k (argEnv 0 args) { tmps := ⟨vs⟩ ++ Array.replicate n undef, defers := [] } := by
  intro t
  rw [argEnv_get]
  simp only [Nat.zero_le, if_true, Nat.sub_zero]
  cases ha : args[t]? with
  | none => exact .undef _
  | some a =>
    obtain ⟨v, hv, hr⟩ := h.get ha
    have hlt := getElem?_lt hv
    rw [Array.getD_eq_getD_getElem?, Array.getElem?_append_left (by simpa using hlt)]
    simpa [hv] using hr

theorem loadAt_inv {t : TypeId} {vx v : Value} {w w' : World} (h : (Instr.loadAt t vx).run P w = .ok v w') : ∃ a, vx = .pointer (some a) := by
  cases vx with
  | pointer a =>
    cases a with
    | none => simp [Instr.loadAt, Instr.sureAddr] at h
    | some a => exact ⟨a, rfl⟩
  | _ => simp [Instr.loadAt, Instr.sureAddr] at h

def resM (tmps : Array Value) : ResultVar → Sem Value
  | .tmp t => pure (tmps.getD t undef)
  | .cell a t => do loadVar t (← asAddr (tmps.getD a undef))

theorem resM_tmp (tmps : Array Value) (t : Tmp) (w : World) : (resM tmps (.tmp t)).run P w = .ok (tmps.getD t undef) w := by simp only [resM, Sem.run_pure]

theorem res_sim {w : World} {R : Rd} {φ : Pl} {s : St} {a : Act} (hS : SRel fo B0 w R φ s.H) (hE : ERel fo (K R φ s.H) s.env a) : ∀ {rs : List ResultVar} {ars : List ARes} {vs : List AV}, okRes P rs ars = true → mapO (resA s) ars = some vs →
    ∃ us, (rs.mapM (resM a.tmps) : Sem (List Value)).run P w = .ok us w ∧ ALRel fo (K R φ s.H) vs us := by
  intro rs
  induction rs with
  | nil =>
    intro ars vs hok h
    cases ars with
    | nil => simp only [mapO, Option.some.injEq] at h; subst h; exact ⟨[], by simp, .nil⟩
    | cons _ _ => simp [okRes] at hok
  | cons r rs ih =>
    intro ars vs hok h
    cases ars with
    | nil => cases r <;> simp [okRes] at hok
    | cons ar ars =>
      simp only [mapO, Option.bind_eq_some_iff, Option.some.injEq] at h
      obtain ⟨b, h1, bs, h2, rfl⟩ := h
      cases r with
      | tmp t =>
        cases ar with
        | tmp t' =>
          simp only [okRes, Bool.and_eq_true, beq_iff_eq] at hok
          obtain ⟨rfl, hok⟩ := hok
          obtain ⟨us, k1, k2⟩ := ih hok h2
          simp only [resA, Option.some.injEq] at h1
          subst h1
          exact ⟨_ :: us, by simp only [List.mapM_cons, Sem.run_bind, resM_tmp, Result.andThen_ok, k1, Sem.run_pure], .cons _ _ _ _ (hE t) k2⟩
        | cell _ _ _ => simp [okRes] at hok
      | cell x ty =>
        cases ar with
        | tmp t' => simp [okRes] at hok
        | cell t ag n =>
          simp only [okRes, Bool.and_eq_true, beq_iff_eq, Bool.or_eq_true, Bool.not_eq_true'] at hok
          obtain ⟨⟨⟨rfl, ha⟩, hn⟩, hok⟩ := hok
          obtain ⟨us, k1, k2⟩ := ih hok h2
          simp only [resA] at h1
          obtain ⟨v, q1, q2⟩ := load_sim (P := P) hS (hE x) ha (fun e => by rcases hn with hn | hn; rw [e] at hn; cases hn; exact hn) h1
          obtain ⟨ad, hv⟩ := loadAt_inv q1
          rw [hv] at q1
          have q1' : (loadVar ty ad).run P w = .ok v w := by simpa [Instr.loadAt, Instr.sureAddr] using q1
          have q3 : (resM a.tmps (.cell x ty)).run P w = .ok v w := by simp only [resM, hv]; simp [asAddr, q1']
          exact ⟨v :: us, by simp only [List.mapM_cons, Sem.run_bind, q3, Result.andThen_ok, k1, Sem.run_pure], .cons _ _ _ _ q2 k2⟩

theorem results_sim {g : Func} {f : AFn} {w : World} {R : Rd} {φ : Pl} {s : St} {a : Act} (hS : SRel fo B0 w R φ s.H) (hE : ERel fo (K R φ s.H) s.env a) (hok : okRes P g.results.toList f.results = true) {v : AV} (h : retA f s = some v) :
    ∃ u, (results g a.tmps).run P w = .ok u w ∧ ARel fo (K R φ s.H) v u := by
  simp only [retA, Option.map_eq_some_iff] at h
  obtain ⟨vs, h1, rfl⟩ := h
  obtain ⟨us, k1, k2⟩ := res_sim hS hE hok h1
  have hrun : (results g a.tmps).run P w = .ok (if h : us.length = 1 then us[0] else .tuple ⟨us⟩) w := by
    have : results g a.tmps = (do let vs ← g.results.mapM (resM a.tmps); pure (if h : vs.size = 1 then vs[0] else .tuple vs)) := rfl
    rw [this, Array.mapM_eq_mapM_toList]
    simp only [Sem.run_bind, Sem.run_map, k1, Result.andThen_ok, Sem.run_pure]
    simp
  refine ⟨_, hrun, ?_⟩
  cases k2 with
  | nil => exact mkTup_rel .nil
  | cons x xs u us hx hxs =>
    cases hxs with
    | nil => simpa [one1] using hx
    | cons y ys z zs hy hys =>
      have : one1 (x :: y :: ys) = mkTup (x :: y :: ys) := rfl
      rw [this]
      simpa using mkTup_rel (.cons _ _ _ _ hx (.cons _ _ _ _ hy hys))

theorem FnOk.callable {f : FuncId} {af : AFn} (h : FnOk P fo f af) : Callable P f := by
  obtain ⟨g, h1, h2, _⟩ := h
  simp only [okFunc, Bool.and_eq_true, Bool.not_eq_true'] at h2
  cases hb : g.body with
  | none => simp [hb] at h2
  | some c => exact ⟨g, c, h1, hb, h2.1.2⟩

theorem fn_sim {f : FuncId} {af : AFn} (hf : FnOk P fo f af) (hc : CallOk P fo B0 call) {args : List AV} {H H' : List AObj} {v : AV} {w : World} {R : Rd} {φ : Pl} {vs : List Value} (hS : SRel fo B0 w R φ H) (hl : ALRel fo (K R φ H) args vs)
    (h : runF call af args H = some (v, H')) : Calls P f ⟨vs⟩ w (Came fo B0 w R φ H v H') := by
  obtain ⟨g, h1, h2, h3⟩ := hf
  simp only [okFunc, Bool.and_eq_true, Bool.not_eq_true', decide_eq_true_eq] at h2
  obtain ⟨⟨⟨h4, h5⟩, h6⟩, h7⟩ := h2
  cases hb : g.body with
  | none => simp [hb] at h4
  | some c =>
    simp only [hb] at h4
    simp only [dutiesF, hb] at h3
    unfold runF at h
    split at h
    · rename_i hnp
      cases he : evalC call af.body ⟨argEnv 0 args, H⟩ with
      | none => simp [he, outA] at h
      | some r =>
        obtain ⟨ex, s⟩ := r
        refine calls_of_wp h1 hb ?_
        have hlen := hl.length
        refine code_sim hc af.body c h4 h3 (s := ⟨argEnv 0 args, H⟩) hS (argEnv_rel hl _) (by simp; omega) he fun a' w' R' φ' gg => ?_
        have fin : ∀ (v : AV), retA af s = some v → ∃ u, (results g a'.tmps).run P w' = .ok u w' ∧ ARel fo (K R' φ' s.H) v u := fun v hv => results_sim gg.rel gg.env h5 hv
        have done : (retA af s).map (fun v => (v, s.H)) = some (v, H') → a'.defers = [] ∧ ∃ u, (results g a'.tmps).run P w' = .ok u w' ∧ Came fo B0 w R φ H v H' (.returned u) w' := by
          intro hr
          simp only [Option.map_eq_some_iff, Prod.mk.injEq] at hr
          obtain ⟨v1, hv1, rfl, rfl⟩ := hr
          obtain ⟨u, k1, k2⟩ := fin _ hv1
          exact ⟨gg.defers, u, k1, u, R', φ', rfl, gg.rel, k2, gg.mono, gg.below⟩
        cases ex with
        | norm => exact done (by simpa [he, outA] using h)
        | ret => exact done (by simpa [he, outA] using h)
        | exit id => simp [he, outA] at h
    · cases h

theorem callL_ok {L : Nat → Option AFn} (hL : TableOk P fo L) : ∀ d, CallOk P fo B0 (callL L d) := by
  intro d
  induction d with
  | zero => intro ix args H v H' w R φ vs hS hl h; simp [callL] at h
  | succ d ih =>
    intro ix args H v H' w R φ vs hS hl h
    simp only [callL, Option.bind_eq_some_iff] at h
    obtain ⟨af, h1, h2⟩ := h
    have hf := hL ix af h1
    exact ⟨hf.callable, fn_sim hf ih hS hl h2⟩

/-- A checked function computes what the abstract machine says. -/
theorem pureF_ok {L : Nat → Option AFn} (hL : TableOk P fo L) {f : FuncId} {af : AFn} (hf : FnOk P fo f af) : PureFn P f (pureF L af) := by
  refine ⟨hf.callable, fun w R args vs r hR hl h => ?_⟩
  simp only [pureF, Option.bind_eq_some_iff] at h
  obtain ⟨⟨v, H'⟩, h1, h2⟩ := h
  have hS : SRel fo ⟨w.heap.size, R⟩ w R (fun _ => (0, 0)) [] :=
    ⟨Nat.le_refl _, hR, fun id o h => by simp at h, fun i j hi => by obtain ⟨o, ho, _⟩ := hi; simp at ho, fun _ _ _ => rfl⟩
  refine Calls.mono (fn_sim hf (callL_ok hL 8) hS (ALRel.of_pv hl) h1) ?_
  rintro e w' ⟨u, R', φ', rfl, k1, k2, k3, k4⟩
  have hQ : Sub R' (fun b o => if b < w.heap.size then R b o else w'.cell? ⟨b, o, none⟩) := by
    intro b o x hx
    (try dsimp only)
    split
    · rename_i hlt; rw [← hx]; exact (k1.old b o hlt).symm
    · exact k1.sub b o x hx
  have k5 := toPV_sim k1 hQ (fun b o x hb hx => by
    have hb : w.heap.size ≤ b := hb
    (try dsimp only)
    rw [if_neg (by omega)]; exact hx) deep k2 h2
  refine ⟨u, _, rfl, k4, k5, fun b o hlt => if_pos hlt, fun b o x hx => ?_⟩
  split at hx
  · rename_i hlt
    rw [cell_heap (k4.block b hlt)]; exact hR b o x hx
  · exact hx

end
end Go.AM
