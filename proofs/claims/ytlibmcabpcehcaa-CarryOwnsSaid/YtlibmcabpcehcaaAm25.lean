/- The abstract machine, part 25: what a law's arguments read as, as pure values. -/
import Derived.Test.YtlibmcabpcehcaaAm24
import Derived.SizedLaws
import Derived.OpenShut
set_option linter.unusedSimpArgs false
set_option linter.unusedVariables false
namespace Go.AM
open Go.RowKit

def isAggT (P : Program) (t : TypeId) : Bool :=
  match P.underlying t with
  | some (.struct _) | some (.array _ _) => true
  | _ => false

def elPV (P : Program) (e : TypeId) (row : List PV) : PV := if isAggT P e then .agg row else row.headD .nilp

/-- The cells of a value of a type, off its reading. -/
def rowOf (P : Program) {H : Type} : Nat → TypeId → DataW H → List PV
  | 0, _, _ => []
  | f + 1, t, d =>
    match P.underlying t, d with
    | some .bool, .lit (.bool b) => [.bool b]
    | some (.int k), .lit (.int _ n) => [.int k n]
    | some .string, .lit (.string l) => [.str ⟨l.toArray⟩]
    | some (.pointer _), .nil => [.nilp]
    | some (.pointer e), .ptr d => [.rp (rowOf P f e d) 0]
    | some (.slice _), .nil => [.nils]
    | some (.slice e), .slice es _ => [.lit (P.cellsOf e) (es.map fun d => elPV P e (rowOf P f e d))]
    | some (.struct fs), .agg ds => ((fs.toList.zip ds).map fun p => rowOf P f p.1.type p.2).flatten
    | some (.array _ e), .agg ds => (ds.map (rowOf P f e)).flatten
    | _, _ => []

def laidF (P : Program) : Nat → List Field → Option Nat
  | o, [] => some o
  | o, f :: r => if f.offset = o then laidF P (o + P.cellsOf f.type) r else none

/-- Types of which readings are opened here. -/
def okT (P : Program) : Nat → TypeId → Bool
  | 0, _ => false
  | f + 1, t =>
    match P.underlying t with
    | some .bool | some (.int _) | some .string => P.cellsOf t == 1
    | some (.pointer e) | some (.slice e) => P.cellsOf t == 1 && decide (0 < P.cellsOf e) && okT P f e
    | some (.struct fs) => laidF P 0 fs.toList == some (P.cellsOf t) && fs.toList.all fun fd => okT P f fd.type
    | some (.array n e) => P.cellsOf t == n * P.cellsOf e && okT P f e
    | _ => false

section
variable {P : Program} {H : Type} {enc : TypeId × Value → H} {w : World} {base : Nat} {sp : Nat → Bool} {held : Bool}

/-- The cells read rightly. -/
structure RowOk (P : Program) (w : World) (t : TypeId) (row : List PV) (cs : List Value) : Prop where
  rel : LRel (Rw w) row cs
  one : ∀ p ∈ row, pone p = true
  len : row.length = P.cellsOf t

theorem mapM_some {α β : Type} {f : α → Option β} : ∀ {l : List α} {r : List β}, l.mapM f = some r → r.length = l.length ∧ ∀ (i : Nat) (x : α), l[i]? = some x → ∃ y, r[i]? = some y ∧ f x = some y := by
  intro l
  induction l with
  | nil => intro r h; simp at h; subst h; exact ⟨rfl, fun i x h => by simp at h⟩
  | cons a l ih =>
    intro r h
    simp only [List.mapM_cons, Option.bind_eq_bind, Option.bind_eq_some_iff, Option.pure_def, Option.some.injEq] at h
    obtain ⟨b, h1, bs, h2, rfl⟩ := h
    obtain ⟨k1, k2⟩ := ih h2
    refine ⟨by simp [k1], fun i x hx => ?_⟩
    cases i with
    | zero => simp at hx; subst hx; exact ⟨b, rfl, h1⟩
    | succ i => simpa using k2 i x (by simpa using hx)

theorem LRel.app {R : Rd} {ps qs : List PV} {vs us : List Value} (h : LRel R ps vs) (h' : LRel R qs us) : LRel R (ps ++ qs) (vs ++ us) := LRel.append h h'

theorem cells_spec {a : Addr} {n : Nat} {cs : List Value} (h : w.cells? base a n = some cs) : cs.length = n ∧ ∀ (i : Nat) (v : Value), cs[i]? = some v → w.cell? (a.add i) = some v := by
  unfold World.cells? at h
  split at h
  · obtain ⟨h1, h2⟩ := mapM_some h
    rw [List.length_range] at h1
    refine ⟨h1, fun i v hv => ?_⟩
    have hlt := getElem?_lt hv
    obtain ⟨y, hy1, hy2⟩ := h2 i i (by rw [List.getElem?_range (by omega)])
    rw [hv] at hy1; injection hy1 with hy1; subst hy1; exact hy2
  · cases h

theorem cell_spot {a : Addr} {v : Value} (h : w.cell? a = some v) : a.spot = none := by
  unfold World.cell? at h
  split at h
  · split at h
    · cases h
    · rename_i hs; cases ha : a.spot with
      | none => rfl
      | some s => simp [ha] at hs
  · cases h

theorem cell_at {a : Addr} {i : Nat} {v : Value} (h : w.cell? (a.add i) = some v) : w.cell? ⟨a.block, a.off + i, none⟩ = some v := by
  have hs := cell_spot h
  obtain ⟨b, o, s⟩ := a
  unfold Addr.add at h hs
  split at h
  · rename_i h0; subst h0
    rw [if_pos rfl] at hs
    simp only at hs
    subst hs
    simpa using h
  · exact h

theorem RRel.flat {R : Rd} {b sz : Nat} : ∀ {es : List PV} {o : Nat}, (∀ e ∈ es, e.cells.length = sz) → (∀ (i : Nat) (e : PV), es[i]? = some e → RRel R e.cells b (o + i * sz)) → RRel R (AM.flat es) b o := by
  intro es
  induction es with
  | nil => intro o _ _; exact .nil _ _
  | cons e es ih =>
    intro o hl h
    have h0 := h 0 e rfl
    simp only [Nat.zero_mul, Nat.add_zero] at h0
    refine RRel.append h0 ?_
    rw [hl e (by simp)]
    refine ih (fun x hx => hl x (by simp [hx])) fun i x hx => ?_
    have := h (i + 1) x (by simpa using hx)
    rw [Nat.add_mul, Nat.one_mul] at this
    rw [show o + sz + i * sz = o + (i * sz + sz) from by omega]
    exact this

theorem el_cells {e : TypeId} {row : List PV} {cs : List Value} (h : RowOk P w e row cs) (hs : isAggT P e = true ∨ P.cellsOf e = 1) : (elPV P e row).cells = row := by
  unfold elPV
  split
  · rfl
  · rename_i hn
    have hc := hs.resolve_left hn
    have hlen := h.len
    rw [hc] at hlen
    match row, hlen with
    | [p], _ => exact pone_cells (h.one p (by simp))

theorem row_at {e : TypeId} {row : List PV} {cs : List Value} {a : Addr} (h : RowOk P w e row cs) (hc : ∀ (i : Nat) (v : Value), cs[i]? = some v → w.cell? (a.add i) = some v) : RRel (Rw w) row a.block a.off :=
  RRel.of_list h.rel (fun v hv => by
    obtain ⟨i, hi⟩ := List.mem_iff_getElem?.1 hv
    have hlt := getElem?_lt hi
    have hl := h.rel.length
    have hp : row[i]? = some (row[i]'(by omega)) := List.getElem?_eq_getElem _
    obtain ⟨u, hu, hr⟩ := h.rel.get hp
    rw [hi] at hu; injection hu with hu; subst hu
    exact hr.one (h.one _ (List.getElem_mem _))) fun i v hv => cell_at (hc i v hv)

theorem okT_one {g : Nat} {t : TypeId} (h : okT P g t = true) : isAggT P t = true ∨ P.cellsOf t = 1 := by
  cases g with
  | zero => simp [okT] at h
  | succ g =>
    simp only [okT] at h
    unfold isAggT
    split at h <;> simp_all

theorem laid_rows {R : Rd} : ∀ (fs : List Field) (o : Nat) (cs : List Value) (rows : List (List PV)), laidF P o fs = some cs.length → rows.length = fs.length →
    (∀ (i : Nat) (f : Field) (r : List PV), fs[i]? = some f → rows[i]? = some r → LRel R r ((cs.drop f.offset).take (P.cellsOf f.type)) ∧ r.length = P.cellsOf f.type) → LRel R rows.flatten (cs.drop o) := by
  intro fs
  induction fs with
  | nil =>
    intro o cs rows h hl _
    simp only [laidF, Option.some.injEq] at h
    subst h
    have : rows = [] := List.eq_nil_of_length_eq_zero (by simpa using hl)
    subst this
    simpa using LRel.nil
  | cons f fs ih =>
    intro o cs rows h hl hr
    cases rows with
    | nil => simp at hl
    | cons r rows =>
      simp only [laidF] at h
      split at h
      · rename_i ho
        obtain ⟨h1, h2⟩ := hr 0 f r rfl rfl
        rw [ho] at h1
        have h3 := ih (o + P.cellsOf f.type) cs rows h (by simpa using hl) fun i g q hg hq => hr (i + 1) g q (by simpa using hg) (by simpa using hq)
        have : cs.drop o = (cs.drop o).take (P.cellsOf f.type) ++ cs.drop (o + P.cellsOf f.type) := by
          rw [← List.drop_drop, List.take_append_drop]
        rw [this, List.flatten_cons]
        exact LRel.app h1 h3
      · cases h

theorem arr_rows {R : Rd} {sz : Nat} : ∀ (n : Nat) (cs : List Value) (rows : List (List PV)), cs.length = n * sz → rows.length = n →
    (∀ (i : Nat) (r : List PV), rows[i]? = some r → LRel R r ((cs.drop (i * sz)).take sz)) → LRel R rows.flatten cs := by
  intro n
  induction n with
  | zero =>
    intro cs rows h hl _
    have : rows = [] := List.eq_nil_of_length_eq_zero hl
    subst this
    have : cs = [] := List.eq_nil_of_length_eq_zero (by simpa using h)
    subst this
    exact .nil
  | succ n ih =>
    intro cs rows h hl hr
    cases rows with
    | nil => simp at hl
    | cons r rows =>
      have h1 := hr 0 r rfl
      simp only [Nat.zero_mul, List.drop_zero] at h1
      have h3 := ih (cs.drop sz) rows (by rw [List.length_drop, h, Nat.add_mul]; omega) (by simpa using hl) fun i q hq => by
        have := hr (i + 1) q (by simpa using hq)
        rw [List.drop_drop]
        rw [Nat.add_mul, Nat.one_mul] at this
        rw [show sz + i * sz = i * sz + sz from by omega]
        exact this
      rw [← List.take_append_drop sz cs, List.flatten_cons]
      exact LRel.app h1 h3

theorem row_rel : ∀ (g : Nat) (t : TypeId) (fuel : Nat) (cs : List Value) (x : DataW H × List MemPlace), okT P g t = true → DataW.trod enc P w base (fun _ => true) held fuel t cs = some x → RowOk P w t (rowOf P g t x.1) cs := by
  intro g
  induction g with
  | zero => intro t fuel cs x h; simp [okT] at h
  | succ g ih =>
    intro t fuel cs x hok h
    simp only [okT] at hok
    -- an element that was read at a place
    have elem : ∀ {e : TypeId} {n : Nat} {a : Addr} {y : DataW H × List MemPlace}, okT P g e = true → (w.cells? base a (P.cellsOf e)).bind (DataW.trod enc P w base (fun _ => true) held n e) = some y →
        RRel (Rw w) (rowOf P g e y.1) a.block a.off ∧ (rowOf P g e y.1).length = P.cellsOf e ∧ (elPV P e (rowOf P g e y.1)).cells = rowOf P g e y.1 ∧ (0 < P.cellsOf e → a.spot = none) := by
      intro e n a y he hy
      simp only [Option.bind_eq_some_iff] at hy
      obtain ⟨ecs, h1, h2⟩ := hy
      obtain ⟨k1, k2⟩ := cells_spec h1
      have hr := ih e n ecs y he h2
      refine ⟨row_at hr k2, hr.len, el_cells hr (okT_one he), fun hpos => ?_⟩
      have hv : ecs[0]? = some (ecs[0]'(by omega)) := List.getElem?_eq_getElem _
      have := cell_spot (k2 0 _ hv)
      simpa [Addr.add] using this
    have atom : ∀ {p : PV} {v : Value}, pone p = true → PRel (Rw w) p v → P.cellsOf t = 1 → RowOk P w t [p] [v] := fun h1 h2 h3 =>
      ⟨.cons _ _ _ _ h2 .nil, by simpa using h1, by simp [h3]⟩
    cases hu : P.underlying t with
    | none => simp [hu] at hok
    | some td =>
      simp only [hu] at hok
      cases td with
      | bool =>
        obtain ⟨b, rfl, rfl⟩ := DataW.trod_bool hu h
        simp only [rowOf, hu]
        exact atom rfl (.bool _) (by simpa using hok)
      | int k =>
        obtain ⟨n, rfl, rfl, _⟩ := DataW.trod_int hu h
        simp only [rowOf, hu]
        exact atom rfl (.int _ _) (by simpa using hok)
      | string =>
        obtain ⟨s, rfl, rfl, _⟩ := DataW.trod_string hu h
        simp only [rowOf, hu]
        obtain ⟨⟨l⟩⟩ := s
        exact atom rfl (.str _) (by simpa using hok)
      | pointer e =>
        simp only [Bool.and_eq_true, beq_iff_eq, decide_eq_true_eq] at hok
        obtain ⟨⟨hc, hpos⟩, he⟩ := hok
        rcases DataW.trod_pointer hu h with ⟨rfl, rfl⟩ | ⟨a, ecs, y, n, rfl, rfl, rfl, h1, h2⟩
        · simp only [rowOf, hu]
          exact atom rfl .nilp hc
        · simp only [rowOf, hu]
          obtain ⟨k1, k2, k3, k4⟩ := elem he (n := n) (a := a) (y := y) (by rw [h1]; exact h2)
          have hs := k4 hpos
          obtain ⟨b, o, s⟩ := a
          simp only at hs
          subst hs
          refine atom rfl ?_ hc
          have := PRel.rp (R := Rw w) _ 0 b o k1
          simpa using this
      | slice e =>
        simp only [Bool.and_eq_true, beq_iff_eq, decide_eq_true_eq] at hok
        obtain ⟨⟨hc, hpos⟩, he⟩ := hok
        rcases DataW.trod_slice hu h with ⟨rfl, rfl⟩ | ⟨a, len, cap, els, rest, n, rfl, rfl, rfl, _, hlc, _, hlen, hel, hsp, _⟩
        · simp only [rowOf, hu]
          exact atom rfl .nils hc
        · simp only [rowOf, hu]
          refine atom rfl ?_ hc
          obtain ⟨hr1, hr2⟩ := hsp rfl
          have each : ∀ (i : Nat) (y : DataW H × List MemPlace), els[i]? = some y → (w.cells? base (a.add (i * P.cellsOf e)) (P.cellsOf e)).bind (DataW.trod enc P w base (fun _ => true) held n e) = some y := by
            intro i y hy
            rw [hel i (by have := getElem?_lt hy; omega), hy]
          by_cases hcap : cap = 0
          · have : len = 0 := by omega
            subst this
            subst hcap
            have : els = [] := List.eq_nil_of_length_eq_zero hlen
            subst this
            exact .lit0 _ _
          · have hs : a.spot = none := by
              rcases Nat.eq_zero_or_pos len with h0 | h0
              · have h1 : 0 < cap - len := by omega
                have hv : rest[0]? = some (rest[0]'(by omega)) := List.getElem?_eq_getElem _
                have := hr2 0 h1
                rw [hv] at this
                have := (elem he this).2.2.2 hpos
                subst h0
                simpa [Addr.add] using this
              · have hv : els[0]? = some (els[0]'(by omega)) := List.getElem?_eq_getElem _
                have := (elem he (each 0 _ hv)).2.2.2 hpos
                simpa [Addr.add] using this
            obtain ⟨b, o, s⟩ := a
            simp only at hs
            subst hs
            have hcl : ∀ p ∈ (els.map (·.1)).map (fun d => elPV P e (rowOf P g e d)), p.cells.length = P.cellsOf e := by
              intro p hp
              simp only [List.map_map, List.mem_map] at hp
              obtain ⟨y, hy, rfl⟩ := hp
              obtain ⟨i, hi⟩ := List.mem_iff_getElem?.1 hy
              obtain ⟨_, k2, k3, _⟩ := elem he (each i y hi)
              simp only [Function.comp]
              rw [k3, k2]
            have := PRel.lit (R := Rw w) (P.cellsOf e) ((els.map (·.1)).map (fun d => elPV P e (rowOf P g e d))) b o cap (by simp; omega) hcl (RRel.flat hcl fun i p hp => by
              simp only [List.map_map, List.getElem?_map, Option.map_eq_some_iff] at hp
              obtain ⟨y, hy, rfl⟩ := hp
              obtain ⟨k1, k2, k3, _⟩ := elem he (each i y hy)
              simp only [Function.comp]
              rw [k3]
              have hb : (Addr.add ⟨b, o, none⟩ (i * P.cellsOf e)) = ⟨b, o + i * P.cellsOf e, none⟩ := by rw [addr_add]
              rw [hb] at k1
              exact k1)
            simpa [hlen] using this
      | struct fs =>
        simp only [Bool.and_eq_true, beq_iff_eq] at hok
        obtain ⟨hlay, hall⟩ := hok
        obtain ⟨xs, n, rfl, rfl, hcs, hxs, hf⟩ := DataW.trod_struct hu h
        simp only [rowOf, hu]
        have each : ∀ (i : Nat) (f : Field) (y : DataW H × List MemPlace), fs.toList[i]? = some f → xs[i]? = some y → RowOk P w f.type (rowOf P g f.type y.1) ((cs.drop f.offset).take (P.cellsOf f.type)) := by
          intro i f y hfi hy
          have := hf i f (by simpa using hfi)
          rw [hy] at this
          exact ih _ n _ y (List.all_eq_true.1 hall f (List.mem_of_getElem? hfi)) this
        have get : ∀ (i : Nat) (r : List PV), ((fs.toList.zip (xs.map (·.1))).map fun p => rowOf P g p.1.type p.2)[i]? = some r → ∃ f y, fs.toList[i]? = some f ∧ xs[i]? = some y ∧ r = rowOf P g f.type y.1 := by
          intro i r hr
          simp only [List.getElem?_map, Option.map_eq_some_iff] at hr
          obtain ⟨p, hp, rfl⟩ := hr
          rw [List.getElem?_zip_eq_some] at hp
          obtain ⟨hp1, hp2⟩ := hp
          simp only [List.getElem?_map, Option.map_eq_some_iff] at hp2
          obtain ⟨y, hy, hy2⟩ := hp2
          exact ⟨p.1, y, hp1, hy, by rw [hy2]⟩
        have hrel := laid_rows (R := Rw w) fs.toList 0 cs ((fs.toList.zip (xs.map (·.1))).map fun p => rowOf P g p.1.type p.2) (by rw [hcs]; exact hlay) (by simp [hxs]) fun i f r hfi hri => by
          obtain ⟨f', y, h1, h2, rfl⟩ := get i r hri
          rw [hfi] at h1; injection h1 with h1; subst h1
          have := each i f y hfi h2
          exact ⟨this.rel, this.len⟩
        rw [List.drop_zero] at hrel
        refine ⟨hrel, fun p hp => ?_, by rw [← hrel.length, hcs]⟩
        rw [List.mem_flatten] at hp
        obtain ⟨r, hr, hp⟩ := hp
        obtain ⟨i, hi⟩ := List.mem_iff_getElem?.1 hr
        obtain ⟨f, y, h1, h2, rfl⟩ := get i r hi
        exact (each i f y h1 h2).one p hp
      | array n e =>
        simp only [Bool.and_eq_true, beq_iff_eq] at hok
        obtain ⟨hlay, he⟩ := hok
        obtain ⟨xs, m, rfl, rfl, hcs, hxs, hf⟩ := DataW.trod_array hu h
        simp only [rowOf, hu]
        have each : ∀ (i : Nat) (y : DataW H × List MemPlace), xs[i]? = some y → RowOk P w e (rowOf P g e y.1) ((cs.drop (i * P.cellsOf e)).take (P.cellsOf e)) := by
          intro i y hy
          have := hf i (by have := getElem?_lt hy; omega)
          rw [hy] at this
          exact ih _ m _ y he this
        have get : ∀ (i : Nat) (r : List PV), ((xs.map (·.1)).map (rowOf P g e))[i]? = some r → ∃ y, xs[i]? = some y ∧ r = rowOf P g e y.1 := by
          intro i r hr
          simp only [List.map_map, List.getElem?_map, Option.map_eq_some_iff] at hr
          obtain ⟨y, hy, rfl⟩ := hr
          exact ⟨y, hy, rfl⟩
        have hrel := arr_rows (R := Rw w) n cs ((xs.map (·.1)).map (rowOf P g e)) (by rw [hcs, hlay]) (by simp [hxs]) fun i r hri => by
          obtain ⟨y, h2, rfl⟩ := get i r hri
          exact (each i y h2).rel
        refine ⟨hrel, fun p hp => ?_, by rw [← hrel.length, hcs]⟩
        rw [List.mem_flatten] at hp
        obtain ⟨r, hr, hp⟩ := hp
        obtain ⟨i, hi⟩ := List.mem_iff_getElem?.1 hr
        obtain ⟨y, h2, rfl⟩ := get i r hi
        exact (each i y h2).one p hp
      | _ => simp at hok

/-- What a row of a type looks like. -/
def Sh (P : Program) : Nat → TypeId → List PV → Prop
  | 0, _, _ => False
  | g + 1, t, row =>
    match P.underlying t with
    | some .bool => ∃ b, row = [.bool b]
    | some (.int k) => ∃ n, row = [.int k n] ∧ (Lit.int k n).wf = true
    | some .string => ∃ s : ByteArray, row = [.str s] ∧ s.size ≤ reachBytes
    | some (.pointer e) => row = [.nilp] ∨ ∃ r, row = [.rp r 0] ∧ Sh P g e r
    | some (.slice e) => row = [.nils] ∨ ∃ es : List (List PV), row = [.lit (P.cellsOf e) (es.map (elPV P e))] ∧ es.length ≤ maxLen ∧ es.length * P.bytesOf e ≤ reachBytes ∧ ∀ r ∈ es, Sh P g e r
    | some (.struct fs) => ∃ rows : List (List PV), rows.length = fs.size ∧ row = rows.flatten ∧ ∀ (i : Nat) (f : Field) (r : List PV), fs.toList[i]? = some f → rows[i]? = some r → Sh P g f.type r
    | some (.array n e) => ∃ es : List (List PV), es.length = n ∧ row = es.flatten ∧ ∀ r ∈ es, Sh P g e r
    | _ => False

theorem weights_all {P : Program} {e : TypeId} : ∀ {ds : List (DataW H)} {d : DataW H} {n : Nat}, d ∈ ds → n ∈ d.weights P e → n ∈ DataW.weightsAll P e ds
  | c :: ds, d, n, hd, hn => by
    simp only [DataW.weightsAll, List.mem_append]
    rcases List.mem_cons.1 hd with rfl | hd
    · exact .inl hn
    · exact .inr (weights_all hd hn)

theorem row_sh : ∀ (g : Nat) (t : TypeId) (fuel : Nat) (cs : List Value) (x : DataW H × List MemPlace), okT P g t = true → DataW.trod enc P w base sp held fuel t cs = some x → (∀ n ∈ x.1.weights P t, n ≤ reachBytes) → Sh P g t (rowOf P g t x.1) := by
  intro g
  induction g with
  | zero => intro t fuel cs x h; simp [okT] at h
  | succ g ih =>
    intro t fuel cs x hok h hwt
    simp only [okT] at hok
    cases hu : P.underlying t with
    | none => simp [hu] at hok
    | some td =>
      simp only [hu] at hok
      cases td with
      | bool => obtain ⟨b, rfl, rfl⟩ := DataW.trod_bool hu h; simp only [Sh, rowOf, hu]; exact ⟨_, rfl⟩
      | int k => obtain ⟨n, rfl, rfl, hw⟩ := DataW.trod_int hu h; simp only [Sh, rowOf, hu]; exact ⟨_, rfl, hw⟩
      | string =>
        obtain ⟨s, rfl, rfl, hs⟩ := DataW.trod_string hu h
        simp only [Sh, rowOf, hu]
        obtain ⟨⟨l⟩⟩ := s
        refine ⟨_, rfl, ?_⟩
        have := hwt l.length (by simp [DataW.weights])
        simpa [ByteArray.size] using this
      | pointer e =>
        simp only [Bool.and_eq_true, beq_iff_eq, decide_eq_true_eq] at hok
        rcases DataW.trod_pointer hu h with ⟨rfl, rfl⟩ | ⟨a, ecs, y, n, rfl, rfl, rfl, h1, h2⟩
        · simp only [Sh, rowOf, hu]; exact .inl trivial
        · simp only [Sh, rowOf, hu]; exact .inr ⟨_, rfl, ih e n _ y hok.2 h2 (fun n hn => hwt n (by simpa [DataW.weights, hu] using hn))⟩
      | slice e =>
        simp only [Bool.and_eq_true, beq_iff_eq, decide_eq_true_eq] at hok
        rcases DataW.trod_slice hu h with ⟨rfl, rfl⟩ | ⟨a, len, cap, els, rest, n, rfl, rfl, rfl, _, hlc, hmax, hlen, hel, _, _⟩
        · simp only [Sh, rowOf, hu]; exact .inl trivial
        · have hsz := hwt _ (show _ by simp only [DataW.weights, hu]; exact List.mem_cons_self ..)
          have hsz' : els.length * P.bytesOf e ≤ reachBytes := by
            refine Nat.le_trans (Nat.mul_le_mul_right _ ?_) hsz
            simp
          simp only [Sh, rowOf, hu]
          refine .inr ⟨els.map fun y => rowOf P g e y.1, by simp [List.map_map, Function.comp_def], by simp; omega, by simpa using hsz', fun r hr => ?_⟩
          obtain ⟨y, hy, rfl⟩ := List.mem_map.1 hr
          obtain ⟨i, hi⟩ := List.mem_iff_getElem?.1 hy
          have h1 := hel i (by have := getElem?_lt hi; omega)
          rw [hi] at h1
          simp only [Option.bind_eq_some_iff] at h1
          obtain ⟨ecs, _, h2⟩ := h1
          refine ih e n ecs y hok.2 h2 (fun k hk => hwt k ?_)
          simp only [DataW.weights, hu, List.mem_cons, List.mem_append]
          exact .inr (.inl (weights_all (List.mem_map.2 ⟨y, hy, rfl⟩) hk))
      | struct fs =>
        simp only [Bool.and_eq_true, beq_iff_eq] at hok
        obtain ⟨xs, n, rfl, rfl, hcs, hxs, hf⟩ := DataW.trod_struct hu h
        simp only [Sh, rowOf, hu]
        refine ⟨_, ?_, rfl, fun i f r hfi hr => ?_⟩
        · simp [hxs]
        · simp only [List.getElem?_map, Option.map_eq_some_iff] at hr
          obtain ⟨p, hp, rfl⟩ := hr
          rw [List.getElem?_zip_eq_some] at hp
          obtain ⟨hp1, hp2⟩ := hp
          have hp2' := hp2
          simp only [List.getElem?_map, Option.map_eq_some_iff] at hp2
          obtain ⟨y, hy, hy2⟩ := hp2
          rw [hfi] at hp1; injection hp1 with hp1
          have := hf i f (by simpa using hfi)
          rw [hy] at this
          rw [← hp1, ← hy2]
          refine ih _ n _ y (List.all_eq_true.1 hok.2 f (List.mem_of_getElem? hfi)) this (fun k hk => hwt k ?_)
          simp only [DataW.weights, hu]
          exact DataW.weights_mem_each (j := i) (t := f.type) (d := y.1) (by simp [hfi]) (by rw [hy2]; exact hp2') k hk
      | array n e =>
        simp only [Bool.and_eq_true, beq_iff_eq] at hok
        obtain ⟨xs, m, rfl, rfl, hcs, hxs, hf⟩ := DataW.trod_array hu h
        simp only [Sh, rowOf, hu]
        refine ⟨_, ?_, rfl, fun r hr => ?_⟩
        · simp [hxs]
        · simp only [List.map_map, List.mem_map] at hr
          obtain ⟨y, hy, rfl⟩ := hr
          obtain ⟨i, hi⟩ := List.mem_iff_getElem?.1 hy
          have := hf i (by have := getElem?_lt hi; omega)
          rw [hi] at this
          refine ih _ m _ y hok.2 this (fun k hk => hwt k ?_)
          simp only [DataW.weights, hu]
          exact weights_all (List.mem_map.2 ⟨y, hy, rfl⟩) hk
      | _ => simp at hok

/-- An argument of a law, opened: what it reads as. -/
theorem arg_rel {r : Reach} {b0 : Nat} {g : Nat} {t : TypeId} {v : Value} {d : DataW H} {ps : List MemPlace} (hok : okT P g t = true) (hval : Value.okWide P w r b0 t v) (hd : DataW.Trod enc P w base (fun _ => true) held t v d ps) :
    PRel (Rw w) (elPV P t (rowOf P g t d)) v := by
  obtain ⟨fuel, hf⟩ := hd
  have hr := row_rel g t fuel _ _ hok hf
  have h1 := okT_one hok
  unfold elPV
  cases ha : isAggT P t with
  | true =>
    simp only [if_true]
    have : ∃ cs, v = .agg cs := by
      unfold isAggT at ha
      unfold Value.okWide at hval
      cases hu : P.underlying t with
      | none => simp [hu] at ha
      | some td => cases td <;> simp [hu] at ha hval <;> exact ⟨_, hval.choose_spec.1⟩
    obtain ⟨⟨cs⟩, rfl⟩ := this
    exact .agg _ _ (by simpa [Value.cells] using hr.rel)
  | false =>
    simp only [Bool.false_eq_true, if_false]
    have hc := h1.resolve_left (by simp [ha])
    have hlen := hr.len
    rw [hc] at hlen
    generalize rowOf P g t d = row at hr hlen ⊢
    have hrel := hr.rel
    match row, hlen with
    | [p], _ =>
      have : ∃ u, v.cells.toList = [u] ∧ PRel (Rw w) p u := by
        generalize v.cells.toList = l at hrel
        cases hrel with
        | cons _ _ u us h2 h3 => cases h3; exact ⟨u, rfl, h2⟩
      obtain ⟨u, hu, hp⟩ := this
      have : v = u := by
        cases v <;> simp [Value.cells] at hu <;> first | exact hu | skip
        rename_i cs
        unfold Value.okWide at hval
        unfold isAggT at ha
        cases hut : P.underlying t with
        | none => simp [hut, Cell.okWide, Cell.ok] at hval
        | some td => cases td <;> simp [hut] at ha <;> simp [hut, Cell.okWide, Cell.ok] at hval
      rw [this]
      exact hp

end
end Go.AM
