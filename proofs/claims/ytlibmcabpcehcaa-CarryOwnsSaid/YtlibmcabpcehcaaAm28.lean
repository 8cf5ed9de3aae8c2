/- The abstract machine, part 28: a law's row, whole: what is left is that the law's pure function answers true. -/
import Derived.Test.YtlibmcabpcehcaaAm27
import Derived.Handed
set_option linter.unusedSimpArgs false
set_option linter.unusedVariables false
namespace Go.AM
open Go.ChangeShapes Go.WideShapes Go.ChangeAt Go.RowKit

/-- What a law is handed, as pure values. -/
def pvs (P : Program) {H : Type} (g : Nat) : List TypeId → List (DataW H) → List PV
  | t :: ts, d :: ds => elPV P t (rowOf P g t d) :: pvs P g ts ds
  | _, _ => []

/-- How it looks. -/
def Shs (P : Program) {H : Type} (g : Nat) : List TypeId → List (DataW H) → Prop
  | t :: ts, d :: ds => Sh P g t (rowOf P g t d) ∧ Shs P g ts ds
  | [], [] => True
  | _, _ => False

def okTs (P : Program) (g : Nat) (ts : List TypeId) : Bool := ts.all fun t => okT P g t && P.readableRec t && decide (t < P.types.size)

section
variable {H : Type} {enc : TypeId × Value → H} {P : Program} {w : World} {base : Nat} {held : Bool}

theorem trodAll_len : ∀ {ts : List TypeId} {vs : List Value} {ds : List (DataW H)} {ps : List MemPlace} {sp : Nat → Bool}, DataW.TrodAll enc P w base sp held ts vs ds ps → vs.length = ts.length ∧ ds.length = ts.length
  | [], [], [], _, _, _ => ⟨rfl, rfl⟩
  | t :: ts, v :: vs, d :: ds, _, _, ⟨p, q, _, h, _⟩ => by have := trodAll_len h; simp [this.1, this.2]
  | [], _ :: _, _, _, _, h => h.elim
  | [], [], _ :: _, _, _, h => h.elim
  | _ :: _, [], _, _, _, h => h.elim
  | _ :: _, _ :: _, [], _, _, h => h.elim

theorem trodAll_rel {r : Reach} {b0 g : Nat} : ∀ {ts : List TypeId} {vs : List Value} {ds : List (DataW H)} {ps : List MemPlace}, okTs P g ts = true →
    (∀ (j : Nat) t v, ts[j]? = some t → vs[j]? = some v → Value.okWide P w r b0 t v) →
    DataW.TrodAll enc P w base (fun _ => true) held ts vs ds ps → LRel (Rw w) (pvs P g ts ds) vs
  | [], [], [], _, _, _, _ => .nil
  | t :: ts, v :: vs, d :: ds, _, hok, hval, ⟨p, q, hd, h, _⟩ => by
    simp only [okTs, List.all_cons, Bool.and_eq_true] at hok
    exact .cons _ _ _ _ (arg_rel hok.1.1.1 (hval 0 t v rfl rfl) hd) (trodAll_rel (by simp only [okTs]; exact hok.2) (fun j t v ht hv => hval (j + 1) t v ht hv) h)
  | [], _ :: _, _, _, _, _, h => h.elim
  | [], [], _ :: _, _, _, _, h => h.elim
  | _ :: _, [], _, _, _, _, h => h.elim
  | _ :: _, _ :: _, [], _, _, _, h => h.elim

theorem trodAll_sh {g : Nat} : ∀ {ts : List TypeId} {vs : List Value} {ds : List (DataW H)} {ps : List MemPlace}, okTs P g ts = true →
    (∀ n ∈ DataW.weightsEach P ts ds, n ≤ reachBytes) →
    DataW.TrodAll enc P w base (fun _ => true) held ts vs ds ps → Shs P g ts ds
  | [], [], [], _, _, _, _ => trivial
  | t :: ts, v :: vs, d :: ds, _, hok, hw, ⟨p, q, ⟨fuel, hd⟩, h, _⟩ => by
    simp only [okTs, List.all_cons, Bool.and_eq_true] at hok
    simp only [DataW.weightsEach, List.mem_append] at hw
    exact ⟨row_sh g t fuel _ (d, p) hok.1.1.1 hd (fun n hn => hw n (.inl hn)), trodAll_sh (by simp only [okTs]; exact hok.2) (fun n hn => hw n (.inr hn)) h⟩
  | [], _ :: _, _, _, _, _, h => h.elim
  | [], [], _ :: _, _, _, _, h => h.elim
  | _ :: _, [], _, _, _, _, h => h.elim
  | _ :: _, _ :: _, [], _, _, _, h => h.elim

theorem trodAll_stays {g : Nat} (hl : laidOutB P = true) {w' : World} (hb : Below w.heap.size w w') : ∀ {ts : List TypeId} {vs : List Value} {ds : List (DataW H)} {ps : List MemPlace}, okTs P g ts = true →
    (∀ x ∈ ps, x.block < w.heap.size) →
    DataW.TrodAll enc P w 0 (fun _ => true) true ts vs ds ps → DataW.TrodAll enc P w' 0 (fun b => decide (b < w.heap.size)) true ts vs ds ps
  | [], [], [], _, _, _, h => h
  | t :: ts, v :: vs, d :: ds, _, hok, hlt, ⟨p, q, hd, h, e⟩ => by
    subst e
    simp only [okTs, List.all_cons, Bool.and_eq_true] at hok
    exact ⟨p, q, Below.trod hl hok.1.1.2 (of_decide_eq_true hok.1.2) hd hb (fun x hx => hlt x (List.mem_append.2 (.inl hx))),
      trodAll_stays hl hb (by simp only [okTs]; exact hok.2) (fun x hx => hlt x (List.mem_append.2 (.inr hx))) h, rfl⟩
  | [], _ :: _, _, _, _, _, h => h.elim
  | [], [], _ :: _, _, _, _, h => h.elim
  | _ :: _, [], _, _, _, _, h => h.elim
  | _ :: _, _ :: _, [], _, _, _, h => h.elim
end

theorem law_lifted {H : Type} {enc : TypeId × Value → H} {C : Checked} {os : Os} {f : FuncId} {fn : Func} {F : List PV → Option PV} {s : ChangeSpec} {bt : TypeId} {ts : List TypeId} (g : Nat)
    (own : ownKnob C.prog.godebug = none) (laid : laidOutB C.prog = true) (started : os.Started) (noInit : C.prog.inits.idxOf? f = none) (hfn : C.prog.funcs[f]? = some fn)
    (witness : ∃ (w : World) (tape : Tape) (i : Input), w.os = os ∧ (w.forCall tape i).Shaped C.prog ∧ i.vars = [] ∧ Input.okWide C.prog (w.forCall tape i) .any w.heap.size f i ∧
      s.pre6 enc C.prog fn [] false (w.forCall tape i).memory i.args ∧ ({} : Assume).holds C.prog (lone (Frame.enter C.prog f i.args .normal) [] (w.forCall tape i)))
    (hvars : s.vars = []) (hplain : s.plain.varTypes C.prog = []) (hts : fn.params = ts.toArray) (hres : fn.resultTypes = #[bt]) (hbt : C.prog.underlying bt = some .bool)
    (hok : okTs C.prog g ts = true) (hpure : PureFn C.prog f F)
    (hspec : ∀ ds : List (DataW H), ds.length = ts.length → s.fn H (ds ++ []) = { results := [.lit (.bool true)], args := ds })
    (run : ∀ ds : List (DataW H), Shs C.prog g ts ds → F (pvs C.prog g ts ds) = some (.bool true)) :
    ReturnsInHanded {} C os f .any (s.pre6 enc C.prog fn [] false) (s.post enc C.prog fn false true false false) := by
  refine returnsInHanded_of_change_sized own started noInit hfn witness ?_
  intro W base args ds gs before hval0 hW _ hwt _
  have hval : ∀ (j : Nat) t v, ts[j]? = some t → args.toList[j]? = some v → Value.okWide C.prog W .any base t v := by
    intro j t v ht hv
    exact hval0 j t v (by rw [hts]; simpa using ht) (by simpa using hv)
  have hW' := hW
  obtain ⟨p, q, hA0, hV, rfl, _, _⟩ := hW
  rw [hvars] at hV
  obtain ⟨rfl, rfl⟩ := trodVars_none hV
  have hA : DataW.TrodAll enc C.prog W 0 (fun _ => true) true ts args.toList ds p := by rw [hts] at hA0; simpa using hA0
  have hlt : ∀ x ∈ p, x.block < W.heap.size := fun x hx => by simpa using hW'.lt x (by simpa using hx)
  have hw' : ∀ n ∈ DataW.weightsEach C.prog ts ds, n ≤ reachBytes := by
    intro n hn
    rw [hts, hplain] at hwt
    simp only [List.append_nil] at hwt
    have := List.all_eq_true.1 hwt n (by simpa using hn)
    simpa using this
  have hrel := trodAll_rel hok hval hA
  have hr := run ds (trodAll_sh hok hw' hA)
  refine (law_calls hpure hrel hr).mono fun e W' ⟨he, hb⟩ => ?_
  subst he
  have hs := hspec ds (trodAll_len hA).2
  refine ⟨_, rfl, ds, [], p ++ [], [], p, [], hW', ?_, ?_, ?_, hb.frame _, fun h => by cases h⟩
  · rw [hs, hres]
    exact trodAll_mk1 (shut_bool hbt _)
  · rw [hs, hts]
    exact trodAll_stays laid hb hok hlt hA
  · rw [hs, hvars]
    exact rfl

theorem shs_cons {P : Program} {H : Type} {g : Nat} {t : TypeId} {ts : List TypeId} {ds : List (DataW H)} (h : Shs P g (t :: ts) ds) : ∃ d r, ds = d :: r ∧ Sh P g t (rowOf P g t d) ∧ Shs P g ts r := by
  cases ds with
  | nil => exact h.elim
  | cons d r => exact ⟨d, r, rfl, h.1, h.2⟩

theorem shs_nil {P : Program} {H : Type} {g : Nat} {ds : List (DataW H)} (h : Shs P g [] ds) : ds = [] := by
  cases ds with
  | nil => rfl
  | cons d r => exact h.elim

theorem shs_one {P : Program} {H : Type} {g : Nat} {t : TypeId} {ds : List (DataW H)} (h : Shs P g [t] ds) : ∃ row, pvs P g [t] ds = [elPV P t row] ∧ Sh P g t row := by
  obtain ⟨d, r, rfl, h1, h2⟩ := shs_cons h
  obtain rfl := shs_nil h2
  exact ⟨_, rfl, h1⟩

theorem shs_two {P : Program} {H : Type} {g : Nat} {t u : TypeId} {ds : List (DataW H)} (h : Shs P g [t, u] ds) : ∃ row row', pvs P g [t, u] ds = [elPV P t row, elPV P u row'] ∧ Sh P g t row ∧ Sh P g u row' := by
  obtain ⟨d, r, rfl, h1, h2⟩ := shs_cons h
  obtain ⟨row, e, h3⟩ := shs_one h2
  exact ⟨_, row, by rw [pvs, e], h1, h3⟩

theorem shs_three {P : Program} {H : Type} {g : Nat} {t u v : TypeId} {ds : List (DataW H)} (h : Shs P g [t, u, v] ds) : ∃ row row' row'', pvs P g [t, u, v] ds = [elPV P t row, elPV P u row', elPV P v row''] ∧ Sh P g t row ∧ Sh P g u row' ∧ Sh P g v row'' := by
  obtain ⟨d, r, rfl, h1, h2⟩ := shs_cons h
  obtain ⟨row, row', e, h3, h4⟩ := shs_two h2
  exact ⟨_, row, row', by rw [pvs, e], h1, h3, h4⟩

/-! ## shapes, opened by the type -/
section
variable {P : Program} {g : Nat} {t e : TypeId} {row : List PV}

theorem sh_int {k : IntKind} (hu : P.underlying t = some (.int k)) (h : Sh P (g + 1) t row) : ∃ n, row = [.int k n] ∧ (Lit.int k n).wf = true := by
  simpa only [Sh, hu] using h

theorem sh_string (hu : P.underlying t = some .string) (h : Sh P (g + 1) t row) : ∃ s : ByteArray, row = [.str s] ∧ s.size ≤ reachBytes := by
  simpa only [Sh, hu] using h

theorem sh_bool (hu : P.underlying t = some .bool) (h : Sh P (g + 1) t row) : ∃ b, row = [.bool b] := by
  simpa only [Sh, hu] using h

theorem sh_slice (hu : P.underlying t = some (.slice e)) (h : Sh P (g + 1) t row) :
    row = [.nils] ∨ ∃ es : List (List PV), row = [.lit (P.cellsOf e) (es.map (elPV P e))] ∧ es.length ≤ maxLen ∧ es.length * P.bytesOf e ≤ reachBytes ∧ ∀ r ∈ es, Sh P g e r := by
  simpa only [Sh, hu] using h

theorem sh_ptr (hu : P.underlying t = some (.pointer e)) (h : Sh P (g + 1) t row) : row = [.nilp] ∨ ∃ r, row = [.rp r 0] ∧ Sh P g e r := by
  simpa only [Sh, hu] using h

theorem sh_struct {fs : Array Field} (hu : P.underlying t = some (.struct fs)) (h : Sh P (g + 1) t row) :
    ∃ rows : List (List PV), rows.length = fs.size ∧ row = rows.flatten ∧ ∀ (i : Nat) (f : Field) (r : List PV), fs.toList[i]? = some f → rows[i]? = some r → Sh P g f.type r := by
  simpa only [Sh, hu] using h

theorem sh_array {n : Nat} (hu : P.underlying t = some (.array n e)) (h : Sh P (g + 1) t row) : ∃ es : List (List PV), es.length = n ∧ row = es.flatten ∧ ∀ r ∈ es, Sh P g e r := by
  simpa only [Sh, hu] using h

theorem el_int {k : IntKind} (hu : P.underlying t = some (.int k)) {n : Int} : elPV P t [.int k n] = .int k n := by
  simp [elPV, isAggT, hu]

theorem el_slice (hu : P.underlying t = some (.slice e)) {v : PV} : elPV P t [v] = v := by
  simp [elPV, isAggT, hu]

theorem el_ptr (hu : P.underlying t = some (.pointer e)) {v : PV} : elPV P t [v] = v := by
  simp [elPV, isAggT, hu]

theorem el_string (hu : P.underlying t = some .string) {v : PV} : elPV P t [v] = v := by
  simp [elPV, isAggT, hu]

theorem el_bool (hu : P.underlying t = some .bool) {v : PV} : elPV P t [v] = v := by
  simp [elPV, isAggT, hu]

theorem el_struct {fs : Array Field} (hu : P.underlying t = some (.struct fs)) : elPV P t row = .agg row := by
  simp [elPV, isAggT, hu]

theorem el_array {n : Nat} (hu : P.underlying t = some (.array n e)) : elPV P t row = .agg row := by
  simp [elPV, isAggT, hu]

/-- A slice of ints, as an argument. -/
theorem sh_ints {k : IntKind} (hu : P.underlying t = some (.slice e)) (hk : P.underlying e = some (.int k)) (h : Sh P (g + 2) t row) :
    row = [.nils] ∨ ∃ l : List Int, row = [.lit (P.cellsOf e) (l.map (.int k))] ∧ l.length ≤ maxLen ∧ l.length * P.bytesOf e ≤ reachBytes ∧ ∀ n ∈ l, (Lit.int k n).wf = true := by
  rcases sh_slice hu h with h | ⟨es, rfl, h1, h2, h3⟩
  · exact .inl h
  · refine .inr ⟨es.map fun r => match r with | [.int _ n] => n | _ => 0, ?_, by simpa using h1, by simpa using h2, ?_⟩
    · congr 2
      rw [List.map_map]
      apply List.map_congr_left
      intro r hr
      obtain ⟨n, rfl, _⟩ := sh_int hk (h3 r hr)
      simp [el_int hk]
    · intro n hn
      obtain ⟨r, hr, rfl⟩ := List.mem_map.1 hn
      obtain ⟨n, rfl, hw⟩ := sh_int hk (h3 r hr)
      exact hw
end

end Go.AM
