/- The abstract machine, part 8: append, the relation kept. -/
import Derived.Test.YtlibmcabpcehcaaAm7
set_option linter.unusedSimpArgs false
namespace Go.AM
open Go.RowKit

section tok
variable {P : Program} {fo : Nat → FuncId} {B0 : Base} {w : World} {R : Rd} {φ : Pl} {H : List AObj}

theorem K.tok_set {id sz n n' : Nat} {nl nl' : Bool} {p : Nat × Nat} (hc : H[id]? = some (.tok sz n nl)) (hn : n < n' ∨ (n = n' ∧ nl' = nl ∧ p = φ id)) (a : AV) (v : Value) (h : K R φ H a v) :
    K R (upd φ id p) (H.set id (.tok sz n' nl')) a v := by
  have hid := getElem?_lt hc
  have old : ∀ {i : Nat} {x : AObj}, (H.set id (.tok sz n' nl'))[i]? = some x → (i ≠ id ∧ H[i]? = some x) ∨ (i = id ∧ x = .tok sz n' nl') := by
    intro i x hx
    by_cases h : i = id
    · subst h; rw [List.getElem?_set_self hid] at hx; injection hx with hx; exact .inr ⟨rfl, hx.symm⟩
    · rw [List.getElem?_set_ne (Ne.symm h)] at hx; exact .inl ⟨h, hx⟩
  cases a with
  | pv p => exact h
  | ptr i off =>
    refine ⟨by simpa using h.1, h.2.1, fun c1 h1 => ?_⟩
    rcases old h1 with ⟨hne, h2⟩ | ⟨rfl, h2⟩
    · rw [upd_ne _ _ hne]; exact h.2.2 _ h2
    · cases h2
  | eptr i n off =>
    refine ⟨by simpa using h.1, h.2.1, fun sz ag c1 fl nl h1 => ?_⟩
    rcases old h1 with ⟨hne, h2⟩ | ⟨rfl, h2⟩
    · rw [upd_ne _ _ hne]; exact h.2.2 _ _ _ _ _ h2
    · cases h2
  | uq i nl1 sz1 es =>
    refine ⟨by simpa using h.1, h.2.1, h.2.2.1, fun sz2 n2 nl2 h1 => ?_⟩
    rcases old h1 with ⟨hne, h2⟩ | ⟨rfl, h2⟩
    · rw [upd_ne _ _ hne]; exact h.2.2.2 _ _ _ h2
    · injection h2 with e1 e2 e3
      subst e1 e2 e3
      obtain ⟨k1, k2⟩ := h.2.2.2 _ _ _ hc
      rcases hn with hlt | ⟨rfl, rfl, rfl⟩
      · exact ⟨by omega, fun e => by omega⟩
      · rw [upd_same]; exact ⟨k1, k2⟩
  | own i len =>
    refine ⟨by simpa using h.1, h.2.1, fun sz ag c1 fl nl h1 => ?_⟩
    rcases old h1 with ⟨hne, h2⟩ | ⟨rfl, h2⟩
    · rw [upd_ne _ _ hne]; exact h.2.2 _ _ _ _ _ h2
    · cases h2
  | mp i =>
    refine ⟨by simpa using h.1, h.2.1, fun es h1 => ?_⟩
    rcases old h1 with ⟨hne, h2⟩ | ⟨rfl, h2⟩
    · rw [upd_ne _ _ hne]; exact h.2.2 _ h2
    · cases h2
  | clo ix cs => exact h.elim
  | agg cs => exact h.elim
  | tup cs => exact h.elim
  | undef => exact h.elim

theorem LRel.append {ps qs : List PV} {vs us : List Value} (h : LRel R ps vs) (h' : LRel R qs us) : LRel R (ps ++ qs) (vs ++ us) := by
  induction ps generalizing vs with
  | nil => cases h; simpa using h'
  | cons p ps ih => cases h with | cons _ _ v vs h1 h2 => exact .cons _ _ _ _ h1 (ih h2)

theorem Src.none (a : Addr) (sz : Nat) : Src P w (.slice (some a) 0 0) sz 0 [] :=
  ⟨fun d => by simp [Builtin.lenOf], fun d => by
    show (loadCells _ _).run P _ = _
    simp [loadCells, loadCellsFrom], by simp, by simp⟩

theorem src_lit (hS : SRel fo B0 w R φ H) {sz : Nat} {ys : List PV} {vx : Value} (h : PRel R (.lit sz ys) vx) :
    ∃ news, LRel R (flat ys) news ∧ Src P w vx sz ys.length news ∧ ∀ e ∈ ys, e.cells.length = sz := by
  cases h with
  | lit _ _ b o cap h1 h2 h3 =>
    obtain ⟨vs, k1, k2, k3⟩ := h3.list
    exact ⟨vs, k1, Src.slice (fun j v hj => hS.sub _ _ _ (k3 j v hj)) (by rw [k1.length, flat_length h2]) k2, h2⟩
  | lit0 _ a => exact ⟨[], .nil, Src.none a sz, by simp⟩

theorem src_sim (hS : SRel fo B0 w R φ H) {x : AV} {vx : Value} (hx : ARel fo (K R φ H) x vx) {sz : Nat} {ys : List PV} (h : elemsP sz x = some ys) :
    ∃ news, LRel R (flat ys) news ∧ Src P w vx sz ys.length news ∧ ∀ e ∈ ys, e.cells.length = sz := by
  cases hx with
  | atom x vx hx =>
    cases x with
    | pv p =>
      have hx : PRel R p vx := hx
      cases p with
      | nils =>
        simp [elemsP] at h; subst h
        cases hx
        exact ⟨[], .nil, Src.nil sz, by simp⟩
      | lit s ys' =>
        simp only [elemsP] at h
        split at h
        · injection h with h; rename_i e; subst e h; exact src_lit hS hx
        · cases h
      | str s =>
        simp only [elemsP] at h
        split at h
        · injection h with h; rename_i e; subst e h
          cases hx
          refine ⟨_, ?_, by have := Src.str (P := P) (w := w) s; rwa [show s.size = (s.data.toList.map fun b => PV.int .u8 b.toNat).length from by rw [List.length_map, Array.length_toList]; rfl] at this, by intro e he; simp only [List.mem_map] at he; obtain ⟨b, _, rfl⟩ := he; rfl⟩
          clear hS
          induction s.data.toList with
          | nil => exact .nil
          | cons b l ih => exact .cons _ _ _ _ (.int _ _) ih
        · cases h
      | _ => simp [elemsP] at h
    | uq id nl s es =>
      simp only [elemsP] at h
      split at h
      · injection h with h; rename_i e; subst e h
        cases nl with
        | true =>
          obtain ⟨rfl, rfl⟩ := hx.2.1 rfl
          exact ⟨[], .nil, Src.nil _, by simp⟩
        | false => exact src_lit hS (hx.2.2.1 rfl)
      · cases h
    | _ => simp [elemsP] at h
  | _ => simp [elemsP] at h

theorem setRow_get {α : Type} (vs : List α) : ∀ (cs : List α) (o j : Nat), j < o → (setRow cs o vs)[j]? = cs[j]? := by
  induction vs with
  | nil => intro cs o j _; rfl
  | cons v vs ih =>
    intro cs o j h
    simp only [setRow]
    rw [ih _ _ _ (by omega), List.getElem?_set_ne (by omega)]

theorem setRow_in {α : Type} (vs : List α) : ∀ (cs : List α) (o j : Nat) (v : α), vs[j]? = some v → o + vs.length ≤ cs.length → (setRow cs o vs)[o + j]? = some v := by
  induction vs with
  | nil => intro cs o j v h; simp at h
  | cons u vs ih =>
    intro cs o j v h hl
    simp only [List.length_cons] at hl
    cases j with
    | zero =>
      simp at h; subst h
      show (setRow (cs.set o u) (o + 1) vs)[o]? = some u
      rw [setRow_get _ _ _ _ (by omega), List.getElem?_set_self (by omega)]
    | succ j =>
      simp only [setRow]
      rw [show o + (j + 1) = o + 1 + j from by omega]
      exact ih _ _ _ _ (by simpa using h) (by simp; omega)

theorem PRel.lit_inv {sz : Nat} {es : List PV} {b len cap : Nat} (h : PRel R (.lit sz es) (.slice (some ⟨b, 0, none⟩) len cap)) : len = es.length ∧ es.length ≤ cap ∧ (∀ e ∈ es, e.cells.length = sz) ∧ RRel R (flat es) b 0 := by
  cases h with
  | lit _ _ _ _ _ h1 h2 h3 => exact ⟨rfl, h1, h2, h3⟩
  | lit0 _ _ => exact ⟨rfl, Nat.le_refl _, by simp, .nil _ _⟩

structure AppOk (P : Program) (t tx e : TypeId) (sz bytes : Nat) : Prop where
  hu : P.underlying t = some (.slice e)
  hx : ∃ dx, P.underlying tx = some dx ∧ (dx = .slice e ∨ dx = .string)
  hsize : sizeP P e = some sz
  hbytes : bytesP P e = some bytes
  pos : 0 < bytes
  pos' : 0 < sz
  hzero : zeroP P e sz = true

theorem append_uq (hS : SRel fo B0 w R φ H) {t tx ty e : TypeId} {sz bytes : Nat} (hA : AppOk P t tx e sz bytes) {id n : Nat} {nl nl' : Bool} {es ys : List PV} {vs vx : Value} {x : AV}
    (hs : ARel fo (K R φ H) (.uq id nl sz es) vs) (hx : ARel fo (K R φ H) x vx) (hid : H[id]? = some (.tok sz n nl')) (hn : n = es.length) (hy : elemsP sz x = some ys) (hroomb : (es.length + ys.length) * bytes ≤ 140737488355328) :
    Res fo B0 w R φ H ((Builtin.append_ #[t, tx] ty #[vs, vx]).run P w) (.uq id (nl && ys.isEmpty) sz (es ++ ys)) (H.set id (.tok sz (es.length + ys.length) (nl && ys.isEmpty))) := by
  obtain ⟨news, hl, hsrc, hey⟩ := src_sim (P := P) hS hx hy
  obtain ⟨dx, hux, hdx⟩ := hA.hx
  have hk0 : K R φ H (.uq id nl sz es) vs := by cases hs with | atom _ _ h => exact h
  obtain ⟨hlt, k1, k2, k3⟩ := hk0
  obtain ⟨k4, k5⟩ := k3 _ _ _ hid
  obtain ⟨e1, e2, k6⟩ := k5 hn
  subst e1 hn
  have hlow := hS.low
  obtain ⟨o1, o2, o3⟩ := hS.obj id _ hid
  have hlenH : ∀ o, id < (H.set id o).length := fun o => by simpa using hlt
  -- the growing case, for both
  have grow : ∀ (base : Option Addr) (cap : Nat) (olds : List Value), vs = .slice base es.length cap → (∀ d, (Builtin.firstCells sz es.length (.slice base es.length cap)).run P (wd w d) = .ok ⟨olds⟩ (wd w d)) →
      LRel R (flat es) olds → (∀ e ∈ es, e.cells.length = sz) → (∀ v ∈ olds, v.oneCell' = true) → cap < es.length + ys.length →
      Res fo B0 w R φ H ((Builtin.append_ #[t, tx] ty #[vs, vx]).run P w) (.uq id (nl' && ys.isEmpty) sz (es ++ ys)) (H.set id (.tok sz (es.length + ys.length) (nl' && ys.isEmpty))) := by
    intro base cap olds hv hfc hlo hes hone hcap
    subst hv
    obtain ⟨C, rest, w', hrun, hC, hrest, hheap, hos, htape, hout⟩ := run_append_grow (ty := ty) hA.hu hux hdx hA.hsize hA.hbytes hA.pos hA.hzero hsrc hfc hcap hroomb
    have hne : (nl' && ys.isEmpty) = false := by
      cases nl' with
      | false => rfl
      | true =>
        cases ys with
        | nil =>
          obtain ⟨q1, q2⟩ := k1 rfl
          simp [q2] at hcap
        | cons y ys => rfl
    rw [hne]
    have hys : 0 < ys.length := by
      cases ys with
      | nil =>
        exfalso
        cases nl' with
        | true => simp at hne
        | false =>
          have h6 := k6 rfl
          injection h6 with h61 h62 h63
          obtain ⟨arr, ha⟩ := (o3 rfl).2.2
          have := ha.2.2
          rw [ha.2.1] at this
          have := Nat.le_of_mul_le_mul_right this hA.pos'
          simp at hcap; omega
      | cons y ys => simp
    have hlen1 : olds.length = es.length * sz := by rw [hlo.length, flat_length hes]
    have hsz2 : w.heap.size < w'.heap.size := by rw [hheap]; simp
    have hold' : ∀ b, b < w.heap.size → w'.heap[b]? = w.heap[b]? := fun b hb => by rw [hheap]; exact heap_push hb
    have hblk : Blk w' w.heap.size ⟨olds ++ news ++ rest⟩ := ⟨e, (0, 0), by rw [hheap]; simp, fun o _ h => by omega⟩
    have hcell : ∀ o, w'.cell? ⟨w.heap.size, o, none⟩ = (olds ++ news ++ rest)[o]? := fun o => by rw [hblk.cell]; simp
    have hsub := extR_sub hS (fun o => if o < (es.length + ys.length) * sz then (olds ++ news ++ rest)[o]? else none)
    have hk := fun a v h => K.tok_set (R := extR R w.heap.size (fun o => if o < (es.length + ys.length) * sz then (olds ++ news ++ rest)[o]? else none)) (φ := φ) (n' := es.length + ys.length) (nl' := false) (p := (w.heap.size, C)) hid (.inl (by omega)) a v (K.sub hsub a v h)
    have hPR : PRel (extR R w.heap.size (fun o => if o < (es.length + ys.length) * sz then (olds ++ news ++ rest)[o]? else none)) (.lit sz (es ++ ys)) (.slice (some ⟨w.heap.size, 0, none⟩) (es.length + ys.length) C) := by
      have := PRel.lit (R := extR R w.heap.size (fun o => if o < (es.length + ys.length) * sz then (olds ++ news ++ rest)[o]? else none)) sz (es ++ ys) w.heap.size 0 C (by simpa using hC)
        (by intro x hx; rcases List.mem_append.1 hx with h | h; exact hes x h; exact hey x h) (by
          rw [flat_append]
          refine RRel.of_list ((hlo.append hl).mono hsub) (fun v hv => by rcases List.mem_append.1 hv with h | h; exact hone v h; exact hsrc.one v h) fun i v hi => ?_
          have hlt2 := getElem?_lt hi
          simp only [List.length_append, hlen1, hsrc.num] at hlt2
          have : i < (es.length + ys.length) * sz := by rw [Nat.add_mul]; exact hlt2
          simp only [extR, if_true, Nat.zero_add, this]
          rw [List.getElem?_append_left (by simp [hlen1, hsrc.num]; exact hlt2)]; exact hi)
      simpa using this
    refine ⟨_, w', _, upd φ id (w.heap.size, C), hrun, ?_, .atom _ _ ?_, hk, ⟨hos, htape, hout, by omega, fun k hk => by rw [hheap]; exact heap_push (by omega)⟩⟩
    · refine hS.upd hid (by omega) (fun b hb _ => hold' b hb) (fun b o hb _ => by unfold extR; rw [if_neg (by omega)]) (fun b o v h => ?_) hk (fun _ => .inr (Nat.le_refl _)) ?_
      · unfold extR at h
        split at h
        · rename_i e; subst e; rw [hcell]
          dsimp only at h
          split at h
          · exact h
          · cases h
        · have := hS.sub b o v h
          rw [cell_heap (hold' b (cell_lt this))]; exact this
      · refine ⟨o1, (fun h => by cases h), fun _ => ?_⟩
        rw [upd_same]
        refine ⟨hlow, fun o ho => by simp [extR]; omega, ⟨olds ++ news ++ rest⟩, hblk, ?_, ?_⟩
        · simp only [List.size_toArray, List.length_append, hlen1, hsrc.num, hrest, ← Nat.add_mul]
          congr 1; omega
        · simp only [List.size_toArray, List.length_append, hlen1, hsrc.num, ← Nat.add_mul]
          omega
    · refine ⟨hlenH _, (fun h => by cases h), fun _ => hPR, fun sz' n' nl2 h => ?_⟩
      rw [List.getElem?_set_self hlt] at h
      injection h with h; injection h with h1 h2 h3
      subst h1 h2 h3
      exact ⟨by simp, fun _ => ⟨rfl, rfl, fun _ => by rw [upd_same]⟩⟩
  cases nl' with
  | true =>
    obtain ⟨rfl, rfl⟩ := k1 rfl
    cases ys with
    | nil =>
      have hnews : news = [] := List.eq_nil_of_length_eq_zero (by rw [hsrc.num]; simp)
      subst hnews
      have hrun := run_append_nil (ty := ty) hA.hu hux hdx hA.hsize hsrc
      have hset : H.set id (.tok sz 0 true) = H := by
        apply List.ext_getElem?
        intro i
        by_cases h : i = id
        · subst h; rw [List.getElem?_set_self hlt]; exact hid.symm
        · rw [List.getElem?_set_ne (Ne.symm h)]
      have : Res fo B0 w R φ H ((Builtin.append_ #[t, tx] ty #[.slice none 0 0, vx]).run P w) (.uq id true sz []) H := Res.same _ hS hrun hs
      simpa [hset] using this
    | cons y ys => exact grow none 0 [] rfl (fun d => by simp [Builtin.firstCells]) .nil (by simp) (by simp) (by simp)
  | false =>
    have hv := k6 rfl
    obtain ⟨q1, q2, arr, ⟨et, fz, q3, hfz⟩, q4, q5⟩ := o3 rfl
    have hpr := k2 rfl
    rw [hv] at hpr
    obtain ⟨_, r1, r2, r3⟩ := PRel.lit_inv hpr
    obtain ⟨olds, s1, s2, s3⟩ := r3.list
    have hlen1 : olds.length = es.length * sz := by rw [s1.length, flat_length r2]
    by_cases hroom : es.length + ys.length ≤ (φ id).2
    · subst hv
      have hblt : (φ id).1 < w.heap.size := Blk.lt ⟨et, fz, q3, hfz⟩
      have hrun := run_append_room (ty := ty) (n0 := es.length) hA.hu hux hdx hA.hsize hsrc (b := (φ id).1) (arr := arr.toList) (et := et) (fz := fz) q3 (by simpa using hfz) (by simpa using q4) hroom
      have hq4 : arr.toList.length = (φ id).2 * sz := by simpa using q4
      have hfit : es.length * sz + news.length ≤ arr.toList.length := by
        rw [hsrc.num, ← Nat.add_mul, hq4]; exact Nat.mul_le_mul_right _ hroom
      have hsub : Sub R (fun b o => if b = (φ id).1 ∧ es.length * sz ≤ o then (if o < (es.length + ys.length) * sz then (setRow arr.toList (es.length * sz) news)[o]? else none) else R b o) := by
        intro b o v h
        dsimp only
        rw [if_neg]
        · exact h
        · rintro ⟨rfl, ho⟩
          rw [q2 o ho] at h; cases h
      have hnl : (false && ys.isEmpty) = false := rfl
      have hk := fun a v h => K.tok_set (R := fun b o => if b = (φ id).1 ∧ es.length * sz ≤ o then (if o < (es.length + ys.length) * sz then (setRow arr.toList (es.length * sz) news)[o]? else none) else R b o) (φ := φ) (n' := es.length + ys.length) (nl' := false) (p := φ id) hid
        (by rcases Nat.eq_zero_or_pos ys.length with h0 | h0; exact .inr ⟨by omega, rfl, rfl⟩; exact .inl (by omega)) a v (K.sub hsub a v h)
      refine ⟨_, _, _, upd φ id (φ id), hrun, ?_, .atom _ _ ?_, hk, putB_below q1⟩
      · refine hS.upd (w' := putB w (φ id).1 (setRow arr.toList (es.length * sz) news) et fz) hid (by simp [putB]) (fun b hb hne => putB_heap (hne rfl)) (fun b j hb hne => if_neg (fun h => hne rfl h.1)) (fun b o v h => ?_) hk (fun _ => .inl ⟨rfl, rfl⟩) ?_
        · split at h
          · rename_i hc
            obtain ⟨rfl, ho⟩ := hc
            split at h
            · rw [Blk.cell (arr := ⟨setRow arr.toList (es.length * sz) news⟩) ⟨et, fz, putB_self hblt, fun o ho => hfz o (by simpa [setRow_length] using ho)⟩]
              simpa using h
            · cases h
          · rename_i hc
            have hs1 := hS.sub b o v h
            by_cases hb : b = (φ id).1
            · subst hb
              have ho : o < es.length * sz := by
                rcases Nat.lt_or_ge o (es.length * sz) with h | h
                · exact h
                · exact absurd ⟨rfl, h⟩ hc
              rw [Blk.cell (arr := ⟨setRow arr.toList (es.length * sz) news⟩) ⟨et, fz, putB_self hblt, fun o ho => hfz o (by simpa [setRow_length] using ho)⟩]
              rw [Blk.cell (arr := arr) ⟨et, fz, q3, hfz⟩] at hs1
              simp only [List.getElem?_toArray]
              rw [setRow_get _ _ _ _ ho]
              simpa using hs1
            · rw [cell_heap (putB_heap hb)]; exact hs1
        · refine ⟨o1, (fun h => by cases h), fun _ => ?_⟩
          rw [upd_same]
          refine ⟨q1, fun o ho => ?_, ⟨setRow arr.toList (es.length * sz) news⟩, ⟨et, fz, putB_self hblt, fun o ho => hfz o (by simpa [setRow_length] using ho)⟩, by simpa [setRow_length] using q4, ?_⟩
          · have : es.length * sz ≤ o := by rw [Nat.add_mul] at ho; omega
            exact (if_pos ⟨rfl, this⟩).trans (if_neg (by omega))
          · show _ ≤ (setRow arr.toList (es.length * sz) news).length
            rw [setRow_length, hq4]
            exact Nat.mul_le_mul_right _ hroom
      · refine ⟨hlenH _, (fun h => by cases h), fun _ => ?_, fun sz' n' nl2 h => ?_⟩
        · have := PRel.lit (R := fun b o => if b = (φ id).1 ∧ es.length * sz ≤ o then (if o < (es.length + ys.length) * sz then (setRow arr.toList (es.length * sz) news)[o]? else none) else R b o) sz (es ++ ys) (φ id).1 0 (φ id).2 (by simpa using hroom)
            (by intro x hx; rcases List.mem_append.1 hx with h | h; exact r2 x h; exact hey x h) (by
              rw [flat_append]
              refine RRel.append (r3.mono hsub) ?_
              rw [flat_length r2, Nat.zero_add]
              refine RRel.of_list (hl.mono hsub) hsrc.one fun i v hi => ?_
              have hlt2 := getElem?_lt hi
              rw [hsrc.num] at hlt2
              exact (if_pos ⟨rfl, Nat.le_add_right _ _⟩).trans ((if_pos (by rw [Nat.add_mul]; omega)).trans (setRow_in _ _ _ _ _ hi hfit)))
          simpa using this
        · rw [List.getElem?_set_self hlt] at h
          injection h with h; injection h with h1 h2 h3
          subst h1 h2 h3
          exact ⟨by simp, fun _ => ⟨rfl, rfl, fun _ => by rw [upd_same]⟩⟩
    · refine grow _ _ olds hv (fun d => ?_) s1 r2 s2 (by omega)
      show (loadCells _ _).run P _ = _
      refine run_loadCells' (w := wd w d) (fun j v hj => ?_) hlen1
      exact hS.sub _ _ _ (s3 j v hj)
end tok
end Go.AM
