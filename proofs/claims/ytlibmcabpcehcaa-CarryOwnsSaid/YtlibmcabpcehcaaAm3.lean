/- The abstract machine, part 3: loads, stores, new objects: what the model's operations do to worlds, and that the relation is kept. -/
import Derived.Test.YtlibmcabpcehcaaAm2
namespace Go.AM
open Go.RowKit

theorem addr_add (b o j : Nat) : (⟨b, o, none⟩ : Addr).add j = ⟨b, o + j, none⟩ := by
  unfold Addr.add
  by_cases h : j = 0
  · subst h; simp
  · simp [h]

theorem setRow_length {α : Type} (cs : List α) (o : Nat) (vs : List α) : (setRow cs o vs).length = cs.length := by
  induction vs generalizing cs o with
  | nil => rfl
  | cons v vs ih => simp [setRow, ih]

theorem setRow_take {α : Type} (vs : List α) : ∀ (cs : List α) (o n : Nat), o + vs.length ≤ n → (setRow cs o vs).take n = setRow (cs.take n) o vs := by
  induction vs with
  | nil => intro cs o n _; rfl
  | cons v vs ih =>
    intro cs o n h
    simp only [List.length_cons] at h
    simp only [setRow]
    rw [ih _ _ _ (by omega), List.take_set]

section rel
variable {fo : Nat → FuncId} {K : AV → Value → Prop}
theorem ALRel.setRow {as bs : List AV} {vs us : List Value} (h : ALRel fo K as vs) (o : Nat) (h' : ALRel fo K bs us) : ALRel fo K (AM.setRow as o bs) (AM.setRow vs o us) := by
  induction bs generalizing as vs us o with
  | nil => cases h'; exact h
  | cons b bs ih => cases h' with | cons _ _ u us h1 h2 => exact ih (h.set o h1) (o + 1) h2
end rel

/-! ## types, by the program -/

def aggP (P : Program) (t : TypeId) : Option Bool :=
  match P.underlying t with
  | some (.struct _) => some true
  | some (.array _ _) => some true
  | some _ => some false
  | none => none

def sizeP (P : Program) (t : TypeId) : Option Nat := (P.info? t).map (·.size)
def bytesP (P : Program) (t : TypeId) : Option Nat := (P.info? t).map (·.bytes)

section runs
variable {P : Program}

theorem run_isAgg' {t : TypeId} {b : Bool} (h : aggP P t = some b) (w : World) : (isAgg t).run P w = .ok b w := by
  unfold aggP at h
  cases hu : P.underlying t with
  | none => simp [hu] at h
  | some d =>
    simp only [hu] at h
    simp only [isAgg, Sem.run_bind, run_underlying hu, Result.andThen_ok]
    cases d <;> simp_all

theorem run_sizeOf' {t : TypeId} {n : Nat} (h : sizeP P t = some n) (w : World) : (sizeOf t).run P w = .ok n w := by
  unfold sizeP at h
  cases hi : P.info? t with
  | none => simp [hi] at h
  | some i =>
    simp only [hi, Option.map_some, Option.some.injEq] at h
    simp [sizeOf, run_typeInfo w hi, h]

theorem run_loadAgg {t : TypeId} {b o n : Nat} {vs : List Value} (w : World) (ha : aggP P t = some true) (hn : sizeP P t = some n) (hl : vs.length = n)
    (hc : ∀ j v, vs[j]? = some v → w.cell? ⟨b, o + j, none⟩ = some v) : (loadVar t ⟨b, o, none⟩).run P w = .ok (.agg ⟨vs⟩) w := by
  have := run_loadCells_list (P := P) w ⟨b, o, none⟩ vs (fun j v hv => by rw [addr_add]; exact hc j v hv)
  rw [hl] at this
  simp [loadVar, run_isAgg' ha, run_sizeOf' hn, this]

theorem run_loadOne {t : TypeId} {b o : Nat} {v : Value} (w : World) (ha : aggP P t = some false) (hc : w.cell? ⟨b, o, none⟩ = some v) : (loadVar t ⟨b, o, none⟩).run P w = .ok v w := by
  simp [loadVar, run_isAgg' ha, hc]

/-- A block written anew. -/
def putB (w : World) (b : Nat) (arr : List Value) (ty : TypeId) (fz : Nat × Nat) : World := { w with heap := w.heap.setIfInBounds b (.cells ⟨arr⟩ ty fz) }

theorem run_storeCells' {b : Nat} {ty : TypeId} {fz : Nat × Nat} (o : Nat) : ∀ (vs : List Value) (i : Nat) (arr : List Value) (w : World), w.heap[b]? = some (.cells ⟨arr⟩ ty fz) →
    (∀ j, j < arr.length → ¬ (fz.1 ≤ j ∧ j < fz.2)) → o + i + vs.length ≤ arr.length → (∀ v ∈ vs, v.oneCell' = true) →
    (storeCells ⟨b, o, none⟩ vs i).run P w = .ok () (putB w b (setRow arr (o + i) vs) ty fz)
  | [], i, arr, w, hb, hf, hl, h1 => by
    obtain ⟨hlt, hbe⟩ := Array.getElem?_eq_some_iff.1 hb
    have : w.heap.setIfInBounds b (.cells ⟨arr⟩ ty fz) = w.heap := by
      apply Array.ext_getElem?
      intro j
      rw [Array.getElem?_setIfInBounds]
      by_cases e : b = j
      · subst e; simp [hlt, hbe]
      · simp [e]
    simp [storeCells, putB, setRow, this]
  | v :: vs, i, arr, w, hb, hf, hl, h1 => by
    obtain ⟨hlt, hbe⟩ := Array.getElem?_eq_some_iff.1 hb
    simp only [List.length_cons] at hl
    have hcell : w.cell? ⟨b, o + i, none⟩ = some (arr[o + i]'(by omega)) := by
      simp only [World.cell?, hb]
      simp
    have hfr : w.frozen? ⟨b, o + i, none⟩ = false := by
      have := hf (o + i) (by omega)
      simp only [World.frozen?, hb]
      rw [← Bool.not_eq_true]
      simpa using this
    have hset : (w.setCell ⟨b, o + i, none⟩ v) = putB w b (arr.set (o + i) v) ty fz := by
      unfold World.setCell putB
      congr 1
      apply Array.ext_getElem?
      intro j
      rw [Array.getElem?_modify, Array.getElem?_setIfInBounds]
      by_cases e : b = j
      · subst e; simp [hlt, hbe]
      · simp [e]
    have ih := run_storeCells' (b := b) (ty := ty) (fz := fz) o vs (i + 1) (arr.set (o + i) v) (putB w b (arr.set (o + i) v) ty fz)
      (by simp [putB, hlt]) (by simpa using hf) (by simp; omega) (fun u hu => h1 u (by simp [hu]))
    simp only [storeCells, Sem.run_bind, addr_add]
    rw [run_store P w _ _ _ (h1 v (by simp))]
    simp only [hcell, hfr, Bool.false_eq_true, if_false, Result.andThen_ok, hset, ih]
    simp [putB, setRow, Nat.add_assoc]

theorem run_storeVar' {t : TypeId} {b o n : Nat} {ty : TypeId} {fz : Nat × Nat} {arr : List Value} {v : Value} (w : World) (hn : sizeP P t = some n) (hv : v.cells.toList.length = n)
    (hb : w.heap[b]? = some (.cells ⟨arr⟩ ty fz)) (hf : ∀ j, j < arr.length → ¬ (fz.1 ≤ j ∧ j < fz.2)) (hl : o + n ≤ arr.length) (h1 : ∀ u ∈ v.cells.toList, u.oneCell' = true) :
    (storeVar t ⟨b, o, none⟩ v).run P w = .ok () (putB w b (setRow arr o v.cells.toList) ty fz) := by
  have := run_storeCells' (P := P) (b := b) o v.cells.toList 0 arr w hb hf (by omega) h1
  have hsz : v.cells.size = n := by simpa using hv
  simp only [Nat.add_zero] at this
  simp [storeVar, run_sizeOf' hn, hsz, this]
end runs

theorem oneCell_cells {v : Value} (h : v.oneCell' = true) : v.cells.toList = [v] := by
  cases v <;> simp_all [Value.cells, Value.oneCell']

theorem PRel.one {R : Rd} {p : PV} {v : Value} (h : PRel R p v) (hp : (AV.pv p).one = true) : v.oneCell' = true := by
  cases h <;> simp_all [AV.one, Value.oneCell']

theorem ARel.one {fo : Nat → FuncId} {R : Rd} {φ : Pl} {H : List AObj} {a : AV} {v : Value} (h : ARel fo (K R φ H) a v) (ha : a.one = true) : v.oneCell' = true := by
  cases h with
  | atom a v h =>
    cases a with
    | pv p => exact PRel.one h ha
    | ptr id off => exact h.2.1
    | eptr id n off => exact h.2.1
    | own id len => exact h.2.1
    | mp id => exact h.2.1
    | uq id nl sz es =>
      obtain ⟨_, h1, h2, _⟩ := h
      cases nl with
      | true => rw [(h1 rfl).1]; rfl
      | false => exact PRel.one (h2 rfl) rfl
    | clo ix cs => exact h.elim
    | agg cs => exact h.elim
    | tup cs => exact h.elim
    | undef => exact h.elim
  | clo ix cs vs h => rfl
  | agg cs vs h => simp [AV.one] at ha
  | tup cs vs h => simp [AV.one] at ha
  | undef v => simp [AV.one] at ha

theorem cells_rel {fo : Nat → FuncId} {R : Rd} {φ : Pl} {H : List AObj} {a : AV} {v : Value} (h : ARel fo (K R φ H) a v) (hu : a.cells.all AV.one = true) :
    ALRel fo (K R φ H) a.cells v.cells.toList := by
  have key : ∀ {a : AV} {v : Value}, ARel fo (K R φ H) a v → a.cells = [a] → a.cells.all AV.one = true → ALRel fo (K R φ H) a.cells v.cells.toList := by
    intro a v h e hu
    rw [e] at hu ⊢
    have h1 : a.one = true := by simpa using hu
    rw [oneCell_cells (h.one h1)]
    exact .cons _ _ _ _ h .nil
  cases h with
  | atom a v h =>
    cases a with
    | pv p =>
      cases p with
      | agg cs =>
        have h2 : PRel R (.agg cs) v := h
        cases h2 with | agg _ vs hh => simpa [AV.cells, PV.cells, Value.cells] using ALRel.of_pv hh
      | _ => exact key (.atom _ _ h) rfl hu
    | agg cs => exact h.elim
    | _ => exact key (.atom _ _ h) rfl hu
  | clo ix cs vs h => exact key (.clo _ _ _ h) rfl hu
  | agg cs vs h => simpa [AV.cells, Value.cells] using h
  | tup cs vs h => exact key (.tup _ _ h) rfl hu
  | undef v => exact key (.undef _) rfl hu

theorem one_all {fo : Nat → FuncId} {R : Rd} {φ : Pl} {H : List AObj} {as : List AV} {vs : List Value} (h : ALRel fo (K R φ H) as vs) (ha : as.all AV.one = true) : ∀ v ∈ vs, v.oneCell' = true := by
  induction as generalizing vs with
  | nil => cases h; simp
  | cons a as ih =>
    cases h with
    | cons _ _ v vs h1 h2 =>
      simp only [List.all_cons, Bool.and_eq_true] at ha
      intro u hu
      rcases List.mem_cons.1 hu with rfl | hu
      · exact h1.one ha.1
      · exact ih h2 ha.2 u hu

end Go.AM
