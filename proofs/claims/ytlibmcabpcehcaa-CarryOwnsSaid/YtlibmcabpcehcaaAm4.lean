/- The abstract machine, part 4: new objects, objects turned: the relation is kept. -/
import Derived.Test.YtlibmcabpcehcaaAm3
namespace Go.AM
open Go.RowKit

def upd (φ : Pl) (id : Nat) (p : Nat × Nat) : Pl := fun i => if i = id then p else φ i
theorem upd_same (φ : Pl) (id : Nat) (p : Nat × Nat) : upd φ id p id = p := by simp [upd]
theorem upd_ne (φ : Pl) {id j : Nat} (p : Nat × Nat) (h : j ≠ id) : upd φ id p j = φ j := by simp [upd, h]

theorem K.sub {R R' : Rd} {φ : Pl} {H : List AObj} (hs : Sub R R') (a : AV) (v : Value) (h : K R φ H a v) : K R' φ H a v := by
  cases a with
  | pv p => exact PRel.mono hs h
  | ptr id off => exact h
  | eptr id n off =>
    refine ⟨h.1, h.2.1, fun sz ag c fl nl e => ?_⟩
    obtain ⟨k0, k⟩ := h.2.2 sz ag c fl nl e
    refine ⟨k0, fun hf => ?_⟩
    obtain ⟨k1, k2⟩ := k hf
    refine ⟨k1, fun ps hp h0 => ?_⟩
    rcases k2 ps hp h0 with q | ⟨b, o, q1, q2⟩
    · exact .inl q
    · exact .inr ⟨b, o, q1, q2.mono hs⟩
  | uq id nl sz es => exact ⟨h.1, h.2.1, fun e => (h.2.2.1 e).mono hs, h.2.2.2⟩
  | own id len =>
    refine ⟨h.1, h.2.1, fun sz ag c fl nl e => ?_⟩
    obtain ⟨k0, k⟩ := h.2.2 sz ag c fl nl e
    refine ⟨k0, fun hf => ?_⟩
    obtain ⟨k1, k2⟩ := k hf
    refine ⟨k1, fun hn => ?_⟩
    rcases k2 hn with hq | ⟨b, o, cap, q1, q2, q3⟩
    · exact .inl hq
    · exact .inr ⟨b, o, cap, q1, q2, fun ps hp => (q3 ps hp).imp (fun x => x) (RRel.mono hs)⟩
  | mp id => exact h
  | clo ix cs => exact h.elim
  | agg cs => exact h.elim
  | tup cs => exact h.elim
  | undef => exact h.elim

theorem getElem?_push {H : List AObj} {o : AObj} {id : Nat} (h : id < H.length) : (H ++ [o])[id]? = H[id]? := by
  rw [List.getElem?_append_left h]

theorem K.push {R : Rd} {φ : Pl} {H : List AObj} (o : AObj) (p : Nat × Nat) (a : AV) (v : Value) (h : K R φ H a v) : K R (upd φ H.length p) (H ++ [o]) a v := by
  have key : ∀ {id : Nat}, id < H.length → id < (H ++ [o]).length ∧ (H ++ [o])[id]? = H[id]? ∧ upd φ H.length p id = φ id := by
    intro id h
    exact ⟨by simp; omega, getElem?_push h, upd_ne _ _ (by omega)⟩
  cases a with
  | pv p => exact h
  | ptr id off =>
    obtain ⟨k1, k2, k3⟩ := key h.1
    exact ⟨k1, h.2.1, by rw [k2, k3]; exact h.2.2⟩
  | eptr id n off =>
    obtain ⟨k1, k2, k3⟩ := key h.1
    exact ⟨k1, h.2.1, by rw [k2, k3]; exact h.2.2⟩
  | uq id nl sz es =>
    obtain ⟨k1, k2, k3⟩ := key h.1
    exact ⟨k1, h.2.1, h.2.2.1, by rw [k2, k3]; exact h.2.2.2⟩
  | own id len =>
    obtain ⟨k1, k2, k3⟩ := key h.1
    exact ⟨k1, h.2.1, by rw [k2, k3]; exact h.2.2⟩
  | mp id =>
    obtain ⟨k1, k2, k3⟩ := key h.1
    exact ⟨k1, h.2.1, by rw [k2, k3]; exact h.2.2⟩
  | clo ix cs => exact h.elim
  | agg cs => exact h.elim
  | tup cs => exact h.elim
  | undef => exact h.elim

theorem ORel.keep {fo : Nat → FuncId} {B0 : Base} {w w' : World} {R R' : Rd} {φ φ' : Pl} {H H' : List AObj} {id : Nat} {o : AObj} (h : ORel fo B0 w R φ H id o)
    (hl : liveO o → w'.heap[(φ id).1]? = w.heap[(φ id).1]? ∧ ∀ j, R (φ id).1 j = none → R' (φ id).1 j = none) (hφ : φ' id = φ id) (hk : ∀ a v, K R φ H a v → K R' φ' H' a v) :
    ORel fo B0 w' R' φ' H' id o := by
  cases o with
  | box cells =>
    obtain ⟨h1, h2, ha, arr, h3, h4⟩ := h
    obtain ⟨l1, l2⟩ := hl trivial
    exact ⟨by rw [hφ]; exact h1, by rw [hφ]; exact fun j => l2 j (h2 j), ha, arr, by rw [hφ]; exact h3.keep l1, h4.mono hk⟩
  | seq sz ag cells fl nl =>
    obtain ⟨h0, h1, h2, h4, h3⟩ := h
    refine ⟨h0, h1, h2, h4, fun hn => ?_⟩
    obtain ⟨k1, k2, arr, k3, k4, k5, k6⟩ := h3 hn
    obtain ⟨l1, l2⟩ := hl hn
    exact ⟨by rw [hφ]; exact k1, by rw [hφ]; exact fun j => l2 j (k2 j), arr, by rw [hφ]; exact k3.keep l1, by rw [hφ]; exact k4, k5, k6.mono hk⟩
  | tok sz n nl =>
    obtain ⟨h0, h2, h3⟩ := h
    refine ⟨h0, h2, fun hn => ?_⟩
    obtain ⟨k1, k2, arr, k3, k4, k5⟩ := h3 hn
    obtain ⟨l1, l2⟩ := hl hn
    exact ⟨by rw [hφ]; exact k1, by rw [hφ]; exact fun j hj => l2 j (k2 j hj), arr, by rw [hφ]; exact k3.keep l1, by rw [hφ]; exact k4, k5⟩
  | map es => exact h
  | dead => trivial

theorem ORel.lt {fo : Nat → FuncId} {B0 : Base} {w : World} {R : Rd} {φ : Pl} {H : List AObj} {id : Nat} {o : AObj} (h : ORel fo B0 w R φ H id o) (hl : liveO o) : (φ id).1 < w.heap.size := by
  cases o with
  | box cells => obtain ⟨_, _, _, arr, h3, _⟩ := h; exact h3.lt
  | seq sz ag cells fl nl => obtain ⟨_, _, arr, h3, _⟩ := h.2.2.2.2 hl; exact h3.lt
  | tok sz n nl => obtain ⟨_, _, arr, h3, _⟩ := h.2.2 hl; exact h3.lt
  | map es => exact h.elim
  | dead => exact hl.elim

theorem ORel.base {fo : Nat → FuncId} {B0 : Base} {w : World} {R : Rd} {φ : Pl} {H : List AObj} {id : Nat} {o : AObj} (h : ORel fo B0 w R φ H id o) (hl : liveO o) : B0.n ≤ (φ id).1 := by
  cases o with
  | box cells => exact h.1
  | seq sz ag cells fl nl => exact (h.2.2.2.2 hl).1
  | tok sz n nl => exact (h.2.2 hl).1
  | map es => exact h.elim
  | dead => exact hl.elim

theorem getElem?_lt {α : Type} {l : List α} {i : Nat} {x : α} (h : l[i]? = some x) : i < l.length := by
  rcases Nat.lt_or_ge i l.length with hl | hl
  · exact hl
  · rw [List.getElem?_eq_none hl] at h; cases h

theorem SRel.push {fo : Nat → FuncId} {B0 : Base} {w w' : World} {R R' : Rd} {φ : Pl} {H : List AObj} {o : AObj} {p : Nat × Nat} (hS : SRel fo B0 w R φ H)
    (hsz : w.heap.size ≤ w'.heap.size) (hw : ∀ b, b < w.heap.size → w'.heap[b]? = w.heap[b]?) (hR : ∀ b o, b < w.heap.size → R' b o = R b o) (hsub : ∀ b o v, R' b o = some v → w'.cell? ⟨b, o, none⟩ = some v)
    (hk : ∀ a v, K R φ H a v → K R' (upd φ H.length p) (H ++ [o]) a v)
    (hnew : liveO o → w.heap.size ≤ p.1) (hO : ORel fo B0 w' R' (upd φ H.length p) (H ++ [o]) H.length o) : SRel fo B0 w' R' (upd φ H.length p) (H ++ [o]) := by
  have old : ∀ {i : Nat} {x : AObj}, (H ++ [o])[i]? = some x → (i < H.length ∧ H[i]? = some x) ∨ (i = H.length ∧ x = o) := by
    intro i x hx
    rcases Nat.lt_trichotomy i H.length with h | h | h
    · exact .inl ⟨h, by rw [← getElem?_push h (o := o)]; exact hx⟩
    · subst h; simp at hx; exact .inr ⟨rfl, hx.symm⟩
    · rw [List.getElem?_eq_none (by simp; omega)] at hx; cases hx
  refine ⟨Nat.le_trans hS.low hsz, hsub, fun i x hx => ?_, fun i j hi hj e => ?_, fun b o hb => by rw [hR b o (Nat.lt_of_lt_of_le hb hS.low)]; exact hS.old b o hb⟩
  · rcases old hx with ⟨h, hx⟩ | ⟨rfl, rfl⟩
    · have hO1 := hS.obj i x hx
      refine hO1.keep (fun hl => ⟨hw _ (hO1.lt hl), fun j hj => by rw [hR _ _ (hO1.lt hl)]; exact hj⟩) (upd_ne _ _ (by omega)) hk
    · exact hO
  · obtain ⟨x, hx, hlx⟩ := hi
    obtain ⟨y, hy, hly⟩ := hj
    rcases old hx with ⟨h1, hx'⟩ | ⟨e1, e2⟩ <;> rcases old hy with ⟨h2, hy'⟩ | ⟨e3, e4⟩
    · rw [upd_ne _ _ (by omega), upd_ne _ _ (by omega)] at e
      exact hS.inj i j ⟨x, hx', hlx⟩ ⟨y, hy', hly⟩ e
    · subst e3 e4
      rw [upd_ne _ _ (by omega), upd_same] at e
      have := (hS.obj i x hx').lt hlx
      have := hnew hly
      omega
    · subst e1 e2
      rw [upd_same, upd_ne _ _ (by omega)] at e
      have := (hS.obj j y hy').lt hly
      have := hnew hlx
      omega
    · rw [e1, e3]

theorem SRel.upd {fo : Nat → FuncId} {B0 : Base} {w w' : World} {R R' : Rd} {φ : Pl} {H : List AObj} {id : Nat} {o o' : AObj} {p : Nat × Nat} (hS : SRel fo B0 w R φ H) (ho : H[id]? = some o)
    (hsz : w.heap.size ≤ w'.heap.size) (hw : ∀ b, b < w.heap.size → (liveO o → b ≠ (φ id).1) → w'.heap[b]? = w.heap[b]?)
    (hR : ∀ b j, b < w.heap.size → (liveO o → b ≠ (φ id).1) → R' b j = R b j) (hsub : ∀ b o v, R' b o = some v → w'.cell? ⟨b, o, none⟩ = some v)
    (hk : ∀ a v, K R φ H a v → K R' (AM.upd φ id p) (H.set id o') a v)
    (hnew : liveO o' → (liveO o ∧ p.1 = (φ id).1) ∨ w.heap.size ≤ p.1) (hO : ORel fo B0 w' R' (AM.upd φ id p) (H.set id o') id o') : SRel fo B0 w' R' (AM.upd φ id p) (H.set id o') := by
  have hid := getElem?_lt ho
  have old : ∀ {i : Nat} {x : AObj}, (H.set id o')[i]? = some x → (i ≠ id ∧ H[i]? = some x) ∨ (i = id ∧ x = o') := by
    intro i x hx
    by_cases h : i = id
    · subst h; rw [List.getElem?_set_self hid] at hx; injection hx with hx; exact .inr ⟨rfl, hx.symm⟩
    · rw [List.getElem?_set_ne (Ne.symm h)] at hx; exact .inl ⟨h, hx⟩
  have apart : ∀ {i : Nat} {x : AObj}, i ≠ id → H[i]? = some x → liveO x → liveO o → (φ i).1 ≠ (φ id).1 := by
    intro i x hne hx hlx hlo e
    exact hne (hS.inj i id ⟨x, hx, hlx⟩ ⟨o, ho, hlo⟩ e)
  refine ⟨Nat.le_trans hS.low hsz, hsub, fun i x hx => ?_, fun i j hi hj e => ?_, fun b j hb => by rw [hR b j (Nat.lt_of_lt_of_le hb hS.low) (fun hl e => by have := (hS.obj id o ho).base hl; omega)]; exact hS.old b j hb⟩
  · rcases old hx with ⟨h, hx⟩ | ⟨rfl, rfl⟩
    · have hO1 := hS.obj i x hx
      exact hO1.keep (fun hl => ⟨hw _ (hO1.lt hl) (apart h hx hl), fun j hj => by rw [hR _ _ (hO1.lt hl) (apart h hx hl)]; exact hj⟩) (upd_ne _ _ h) hk
    · exact hO
  · obtain ⟨x, hx, hlx⟩ := hi
    obtain ⟨y, hy, hly⟩ := hj
    rcases old hx with ⟨h1, hx'⟩ | ⟨e1, e2⟩ <;> rcases old hy with ⟨h2, hy'⟩ | ⟨e3, e4⟩
    · rw [upd_ne _ _ h1, upd_ne _ _ h2] at e
      exact hS.inj i j ⟨x, hx', hlx⟩ ⟨y, hy', hly⟩ e
    · subst e3 e4
      rw [upd_ne _ _ h1, upd_same] at e
      have hlt := (hS.obj i x hx').lt hlx
      rcases hnew hly with ⟨hlo, hp⟩ | hp
      · exact absurd (e.trans hp) (apart h1 hx' hlx hlo)
      · omega
    · subst e1 e2
      rw [upd_same, upd_ne _ _ h2] at e
      have hlt := (hS.obj j y hy').lt hly
      rcases hnew hlx with ⟨hlo, hp⟩ | hp
      · exact absurd (e.symm.trans hp) (apart h2 hy' hly hlo)
      · omega
    · rw [e1, e3]

/-- What an operation of the model comes to, where the abstract one comes to 'v' and 'H''. -/
def Res (fo : Nat → FuncId) (B0 : Base) (w : World) (R : Rd) (φ : Pl) (H : List AObj) (r : Result Value) (v : AV) (H' : List AObj) : Prop :=
  ∃ v' w' R' φ', r = .ok v' w' ∧ SRel fo B0 w' R' φ' H' ∧ ARel fo (K R' φ' H') v v' ∧ (∀ a u, K R φ H a u → K R' φ' H' a u) ∧ Below B0 w w'

theorem Res.same {fo : Nat → FuncId} {B0 : Base} {w : World} {R : Rd} {φ : Pl} {H : List AObj} {r : Result Value} {v : AV} (v' : Value) (hS : SRel fo B0 w R φ H) (hr : r = .ok v' w) (hv : ARel fo (K R φ H) v v') :
    Res fo B0 w R φ H r v H := ⟨v', w, R, φ, hr, hS, hv, fun _ _ h => h, Below.refl _ _⟩

section ops
variable {P : Program} {fo : Nat → FuncId} {B0 : Base} {w : World} {R : Rd} {φ : Pl} {H : List AObj}

theorem heap_push {w : World} {o : Obj} {b : Nat} (h : b < w.heap.size) : (w.heap.push o)[b]? = w.heap[b]? := by
  rw [Array.getElem?_push, if_neg (by omega)]

theorem below_push (hB : B0 ≤ w.heap.size) (o : Obj) : Below B0 w { w with heap := w.heap.push o } :=
  ⟨rfl, rfl, rfl, by simp, fun k hk => heap_push (by omega)⟩

theorem SRel.none_new (hS : SRel fo B0 w R φ H) {b : Nat} (hb : w.heap.size ≤ b) (o : Nat) : R b o = none := by
  cases h : R b o with
  | none => rfl
  | some v => have := cell_lt (hS.sub b o v h); omega

theorem cell_push {w : World} {ob : Obj} {b o : Nat} (h : b < w.heap.size) : World.cell? { w with heap := w.heap.push ob } ⟨b, o, none⟩ = w.cell? ⟨b, o, none⟩ := by
  simp [World.cell?, heap_push h]

theorem new_box (hS : SRel fo B0 w R φ H) {cells : List AV} {vs : List Value} (hc : ALRel fo (K R φ H) cells vs) (h1 : cells.all AV.one = true) (ty : TypeId) :
    Res fo B0 w R φ H (.ok (.pointer (some ⟨w.heap.size, 0, none⟩)) { w with heap := w.heap.push (.cells ⟨vs⟩ ty) }) (.ptr H.length 0) (H ++ [.box cells]) := by
  have hk := fun a v => K.push (R := R) (φ := φ) (H := H) (.box cells) (w.heap.size, 0) a v
  refine ⟨_, _, R, AM.upd φ H.length (w.heap.size, 0), rfl, ?_, ?_, hk, below_push hS.low _⟩
  · refine hS.push (by simp) (fun b hb => heap_push hb) (fun _ _ _ => rfl) (fun b o v h => ?_) hk (fun _ => Nat.le_refl _) ?_
    · have := hS.sub b o v h
      rw [cell_push (cell_lt this)]; exact this
    · refine ⟨by rw [upd_same]; exact hS.low, by rw [upd_same]; exact hS.none_new (Nat.le_refl _), h1, ⟨vs⟩, ?_, hc.mono hk⟩
      rw [upd_same]
      exact ⟨ty, (0, 0), by simp, fun o _ h => by omega⟩
  · refine .atom _ _ ⟨by simp, rfl, fun c _ => by rw [upd_same]⟩

end ops
end Go.AM
