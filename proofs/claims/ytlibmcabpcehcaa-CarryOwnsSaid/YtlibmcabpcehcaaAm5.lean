/- The abstract machine, part 5: fresh slices. -/
import Derived.Test.YtlibmcabpcehcaaAm4
namespace Go.AM
open Go.RowKit

def pone (p : PV) : Bool := (AV.pv p).one

theorem pone_cells {p : PV} (h : pone p = true) : p.cells = [p] := by
  cases p <;> simp_all [pone, AV.one, PV.cells]

theorem chunk_spec (sz : Nat) (ag : Bool) (hsz : ag = false → sz = 1) : ∀ (n : Nat) (ps : List PV), ps.length = n * sz → (∀ p ∈ ps, pone p = true) →
    flat (chunk sz ag n ps) = ps ∧ (∀ e ∈ chunk sz ag n ps, e.cells.length = sz) ∧ (chunk sz ag n ps).length = n := by
  intro n
  induction n with
  | zero => intro ps hl _; simp at hl; subst hl; simp [chunk, flat]
  | succ n ih =>
    intro ps hl hp
    obtain ⟨i1, i2, i3⟩ := ih (ps.drop sz) (by simp [hl, Nat.add_mul]) (fun p h => hp p (List.mem_of_mem_drop h))
    cases ag with
    | true =>
      have hc : (PV.agg (ps.take sz)).cells = ps.take sz := rfl
      have hlen : (ps.take sz).length = sz := by rw [List.length_take, hl, Nat.add_mul]; omega
      refine ⟨?_, ?_, ?_⟩
      · simp only [chunk, if_true, flat, hc, i1, List.take_append_drop]
      · intro e he
        simp only [chunk, if_true, List.mem_cons] at he
        rcases he with rfl | he
        · rw [hc]; exact hlen
        · exact i2 e he
      · simp [chunk, i3]
    | false =>
      have h1 := hsz rfl
      subst h1
      cases ps with
      | nil => simp at hl
      | cons p ps =>
        have hp1 := pone_cells (hp p (by simp))
        refine ⟨?_, ?_, ?_⟩
        · simp only [List.drop_succ_cons, List.drop_zero] at i1
          simp [chunk, flat, hp1, i1]
        · intro e he
          simp only [chunk, Bool.false_eq_true, if_false, List.headD_cons, List.mem_cons] at he
          rcases he with rfl | he
          · rw [hp1]; rfl
          · exact i2 e he
        · simp only [List.drop_succ_cons, List.drop_zero] at i3
          simp [chunk, i3]

theorem all_pone {as : List AV} {ps : List PV} (h : allPV as = some ps) (ha : as.all AV.one = true) : ∀ p ∈ ps, pone p = true := by
  have := allPV_map h
  subst this
  intro p hp
  have := List.all_eq_true.1 ha (.pv p) (List.mem_map.2 ⟨p, hp, rfl⟩)
  exact this

/-- One more block that may be read. -/
def extR (R : Rd) (nb : Nat) (f : Nat → Option Value) : Rd := fun b o => if b = nb then f o else R b o

theorem extR_sub {fo : Nat → FuncId} {B0 : Base} {w : World} {R : Rd} {φ : Pl} {H : List AObj} (hS : SRel fo B0 w R φ H) (f : Nat → Option Value) : Sub R (extR R w.heap.size f) := by
  intro b o v h
  have := cell_lt (hS.sub b o v h)
  unfold extR
  rw [if_neg (by omega)]
  exact h

theorem cell_heap {w w' : World} {b o : Nat} (h : w'.heap[b]? = w.heap[b]?) : w'.cell? ⟨b, o, none⟩ = w.cell? ⟨b, o, none⟩ := by
  simp [World.cell?, h]

section fresh
variable {fo : Nat → FuncId} {B0 : Base} {w w' : World} {R : Rd} {φ : Pl} {H : List AObj}

theorem fresh_els (hS : SRel fo B0 w R φ H) {es : List PV} {vs rest : List Value} (hl : LRel R (flat es) vs) (h1 : ∀ v ∈ vs, v.oneCell' = true) {sz cap : Nat} (h0 : 0 < sz) (c2 : ∀ e ∈ es, e.cells.length = sz)
    (hcap : (vs ++ rest).length = cap * sz) {ty : TypeId} {fz : Nat × Nat} (hf : ∀ o, o < (vs ++ rest).length → ¬ (fz.1 ≤ o ∧ o < fz.2))
    (hheap : w'.heap = w.heap.push (.cells ⟨vs ++ rest⟩ ty fz)) (hos : w'.os = w.os) (htape : w'.tape = w.tape) (hout : w'.output = w.output) :
    Res fo B0 w R φ H (.ok (.slice (some ⟨w.heap.size, 0, none⟩) es.length cap) w') (.pv (.lit sz es)) H ∧
    Res fo B0 w R φ H (.ok (.slice (some ⟨w.heap.size, 0, none⟩) es.length cap) w') (.uq H.length false sz es) (H ++ [.tok sz es.length false]) := by
  have hn : vs.length = es.length * sz := by rw [hl.length, flat_length c2]
  have hlow := hS.low
  have hbw : Below B0 w w' := ⟨hos, htape, hout, by simp [hheap], fun k hk => by rw [hheap]; exact heap_push (by omega)⟩
  have hold' : ∀ b, b < w.heap.size → w'.heap[b]? = w.heap[b]? := fun b hb => by rw [hheap]; exact heap_push hb
  have hnewb : w'.heap[w.heap.size]? = some (.cells ⟨vs ++ rest⟩ ty fz) := by rw [hheap]; simp
  have hncap : es.length ≤ cap := by
    have : vs.length ≤ (vs ++ rest).length := by simp
    rw [hn, hcap] at this
    exact Nat.le_of_mul_le_mul_right this h0
  have hblk : Blk w' w.heap.size ⟨vs ++ rest⟩ := ⟨ty, fz, hnewb, fun o ho => hf o (by simpa using ho)⟩
  have hcell : ∀ o, w'.cell? ⟨w.heap.size, o, none⟩ = (vs ++ rest)[o]? := fun o => by rw [hblk.cell]; simp
  have hszle : w.heap.size ≤ w'.heap.size := by simp [hheap]
  constructor
  · have hsub := extR_sub hS (fun o => (vs ++ rest)[o]?)
    have hk := fun a v => K.sub (φ := φ) (H := H) hsub a v
    refine ⟨_, w', extR R w.heap.size (fun o => (vs ++ rest)[o]?), φ, rfl, ?_, .atom _ _ ?_, hk, hbw⟩
    · refine ⟨Nat.le_trans hlow hszle, fun b o v h => ?_, fun id o ho => ?_, hS.inj, fun b o hb => by have := hS.low; unfold extR; rw [if_neg (by omega)]; exact hS.old b o hb⟩
      · unfold extR at h
        split at h
        · rename_i e; subst e; rw [hcell]; exact h
        · have := hS.sub b o v h
          rw [cell_heap (hold' b (cell_lt this))]; exact this
      · have hO := hS.obj id o ho
        refine hO.keep (fun hlv => ⟨hold' _ (hO.lt hlv), fun j hj => ?_⟩) rfl hk
        have := hO.lt hlv
        unfold extR
        rw [if_neg (by omega)]; exact hj
    · show PRel _ _ _
      refine PRel.lit sz es w.heap.size 0 cap hncap c2 (RRel.of_list (hl.mono hsub) h1 fun i v hi => ?_)
      have hlt := getElem?_lt hi
      simp [extR, List.getElem?_append_left hlt, hi]
  · have hsub := extR_sub hS (fun o => if o < es.length * sz then (vs ++ rest)[o]? else none)
    have hk := fun a v h => K.push (.tok sz es.length false) (w.heap.size, cap) a v (K.sub (φ := φ) (H := H) hsub a v h)
    have hPR : PRel (extR R w.heap.size (fun o => if o < es.length * sz then (vs ++ rest)[o]? else none)) (.lit sz es) (.slice (some ⟨w.heap.size, 0, none⟩) es.length cap) := by
      refine PRel.lit sz es w.heap.size 0 cap hncap c2 (RRel.of_list (hl.mono hsub) h1 fun i v hi => ?_)
      have hlt := getElem?_lt hi
      simp [extR, List.getElem?_append_left hlt, hi]; omega
    refine ⟨_, w', _, AM.upd φ H.length (w.heap.size, cap), rfl, ?_, .atom _ _ ?_, hk, hbw⟩
    · refine hS.push hszle hold' (fun b o hb => by unfold extR; rw [if_neg (by omega)]) (fun b o v h => ?_) hk (fun _ => Nat.le_refl _) ?_
      · unfold extR at h
        split at h
        · rename_i e; subst e; rw [hcell]
          dsimp only at h
          split at h
          · exact h
          · cases h
        · have := hS.sub b o v h
          rw [cell_heap (hold' b (cell_lt this))]; exact this
      · refine ⟨h0, (fun h => by cases h), fun _ => ?_⟩
        rw [upd_same]
        refine ⟨hlow, fun o ho => by simp [extR]; omega, ⟨vs ++ rest⟩, hblk, by simpa using hcap, ?_⟩
        simp; omega
    · refine ⟨by simp, (fun h => by cases h), fun _ => hPR, fun sz' n' nl' h => ?_⟩
      simp at h
      obtain ⟨rfl, rfl, rfl⟩ := h
      refine ⟨by omega, fun _ => ⟨rfl, rfl, fun _ => ?_⟩⟩
      rw [upd_same]

theorem fresh_sim (hS : SRel fo B0 w R φ H) {cells : List AV} {vs rest : List Value} (hc : ALRel fo (K R φ H) cells vs) (h1 : cells.all AV.one = true) {sz n cap : Nat} (h0 : 0 < sz) (hn : vs.length = n * sz)
    (hcap : (vs ++ rest).length = cap * sz) {ag : Bool} (hag : ag = false → sz = 1) {ty : TypeId} {fz : Nat × Nat} (hf : ∀ o, o < (vs ++ rest).length → ¬ (fz.1 ≤ o ∧ o < fz.2))
    (hheap : w'.heap = w.heap.push (.cells ⟨vs ++ rest⟩ ty fz)) (hos : w'.os = w.os) (htape : w'.tape = w.tape) (hout : w'.output = w.output)
    {hold : Hold} {v : AV} {H' : List AObj} (hfr : fresh H hold sz ag n cells = some (v, H')) :
    Res fo B0 w R φ H (.ok (.slice (some ⟨w.heap.size, 0, none⟩) n cap) w') v H' := by
  have hlow := hS.low
  have hbw : Below B0 w w' := ⟨hos, htape, hout, by simp [hheap], fun k hk => by rw [hheap]; exact heap_push (by omega)⟩
  have hold' : ∀ b, b < w.heap.size → w'.heap[b]? = w.heap[b]? := fun b hb => by rw [hheap]; exact heap_push hb
  have hnewb : w'.heap[w.heap.size]? = some (.cells ⟨vs ++ rest⟩ ty fz) := by rw [hheap]; simp
  have hncap : n ≤ cap := by
    have : vs.length ≤ (vs ++ rest).length := by simp
    rw [hn, hcap] at this
    exact Nat.le_of_mul_le_mul_right this h0
  have hlc := hc.length
  have hblk : Blk w' w.heap.size ⟨vs ++ rest⟩ := ⟨ty, fz, hnewb, fun o ho => hf o (by simpa using ho)⟩
  have hcell : ∀ o, w'.cell? ⟨w.heap.size, o, none⟩ = (vs ++ rest)[o]? := fun o => by rw [hblk.cell]; simp
  have hszle : w.heap.size ≤ w'.heap.size := by simp [hheap]
  cases hold with
  | lit =>
    simp only [fresh, Option.map_eq_some_iff, Prod.mk.injEq] at hfr
    obtain ⟨ps, hps, rfl, rfl⟩ := hfr
    have hl := allPV_rel hps hc
    have hpl := hl.length
    obtain ⟨c1, c2, c3⟩ := chunk_spec sz ag hag n ps (by omega) (all_pone hps h1)
    have := (fresh_els (fo := fo) (B0 := B0) hS (es := chunk sz ag n ps) (by rw [c1]; exact hl) (one_all hc h1) h0 c2 hcap hf hheap hos htape hout).1
    rwa [c3] at this
  | uq =>
    simp only [fresh, Option.map_eq_some_iff, Prod.mk.injEq] at hfr
    obtain ⟨ps, hps, rfl, rfl⟩ := hfr
    have hl := allPV_rel hps hc
    have hpl := hl.length
    obtain ⟨c1, c2, c3⟩ := chunk_spec sz ag hag n ps (by omega) (all_pone hps h1)
    have := (fresh_els (fo := fo) (B0 := B0) hS (es := chunk sz ag n ps) (by rw [c1]; exact hl) (one_all hc h1) h0 c2 hcap hf hheap hos htape hout).2
    rwa [c3] at this
  | own =>
    simp only [fresh, Option.some.injEq, Prod.mk.injEq] at hfr
    obtain ⟨rfl, rfl⟩ := hfr
    have hk := fun a v h => K.push (R := R) (φ := φ) (H := H) (.seq sz ag cells 0 false) (w.heap.size, cap) a v h
    refine ⟨_, w', R, AM.upd φ H.length (w.heap.size, cap), rfl, ?_, .atom _ _ ?_, hk, hbw⟩
    · refine hS.push hszle hold' (fun _ _ _ => rfl) (fun b o v h => ?_) hk (fun _ => Nat.le_refl _) ?_
      · have := hS.sub b o v h
        rw [cell_heap (hold' b (cell_lt this))]; exact this
      · refine ⟨h0, Nat.zero_le _, (fun h => by cases h), h1, fun _ => ?_⟩
        rw [upd_same]
        refine ⟨hlow, hS.none_new (Nat.le_refl _), ⟨vs ++ rest⟩, hblk, by simpa using hcap, by simp; omega, ?_⟩
        have : (vs ++ rest).take cells.length = vs := by rw [← hlc]; simp
        simp only [this]
        exact hc.mono hk
    · refine ⟨by simp, rfl, fun sz' ag' c' fl' nl' h => ?_⟩
      simp at h
      obtain ⟨rfl, rfl, rfl, rfl, rfl⟩ := h
      refine ⟨by omega, fun _ => ?_⟩
      refine ⟨(fun h => by cases h), fun _ => .inr ⟨w.heap.size, 0, cap, rfl, fun _ => by rw [upd_same]; exact ⟨rfl, rfl, rfl⟩, fun ps _ => .inl (by rw [upd_same]; exact ⟨rfl, rfl⟩)⟩⟩
end fresh
end Go.AM
