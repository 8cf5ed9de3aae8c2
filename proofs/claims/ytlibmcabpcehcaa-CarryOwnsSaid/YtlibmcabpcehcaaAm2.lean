/- The abstract machine, part 2: how its states stand to the model's worlds. -/
import Derived.Test.YtlibmcabpcehcaaAm1
namespace Go.AM
open Go.RowKit

abbrev Rd := Nat → Nat → Option Value

/-- Where the function's own memory begins, and what was readable below. -/
structure Base where
  n : Nat
  R : Rd

instance : Coe Base Nat := ⟨Base.n⟩

mutual
/-- A pure value and a value of the model; 'R': the cells that may be read and are never written again. -/
inductive PRel (R : Rd) : PV → Value → Prop
  | int (k : IntKind) (n : Int) : PRel R (.int k n) (.int k n)
  | bool (b : Bool) : PRel R (.bool b) (.bool b)
  | str (s : ByteArray) : PRel R (.str s) (.string s)
  | nilp : PRel R .nilp (.pointer none)
  | nils : PRel R .nils (.slice none 0 0)
  | nilm : PRel R .nilm (.map none)
  | nilf : PRel R .nilf .nilFunc
  | nili : PRel R .nili .nilIface
  | rp (row : List PV) (off b o : Nat) : RRel R row b o → PRel R (.rp row off) (.pointer (some ⟨b, o + off, none⟩))
  | lit (sz : Nat) (es : List PV) (b o cap : Nat) : es.length ≤ cap → (∀ e ∈ es, e.cells.length = sz) → RRel R (flat es) b o → PRel R (.lit sz es) (.slice (some ⟨b, o, none⟩) es.length cap)
  | lit0 (sz : Nat) (a : Addr) : PRel R (.lit sz []) (.slice (some a) 0 0)
  | agg (cs : List PV) (vs : List Value) : LRel R cs vs → PRel R (.agg cs) (.agg ⟨vs⟩)
  | tup (cs : List PV) (vs : List Value) : LRel R cs vs → PRel R (.tup cs) (.tuple ⟨vs⟩)
  | iface (t : TypeId) (p : PV) (v : Value) : PRel R p v → PRel R (.iface t p) (.iface t v)
inductive RRel (R : Rd) : List PV → Nat → Nat → Prop
  | nil (b o : Nat) : RRel R [] b o
  | cons (c : PV) (cs : List PV) (b o : Nat) (v : Value) : R b o = some v → v.oneCell' = true → PRel R c v → RRel R cs b (o + 1) → RRel R (c :: cs) b o
inductive LRel (R : Rd) : List PV → List Value → Prop
  | nil : LRel R [] []
  | cons (c : PV) (cs : List PV) (v : Value) (vs : List Value) : PRel R c v → LRel R cs vs → LRel R (c :: cs) (v :: vs)
end

def Sub (R R' : Rd) : Prop := ∀ b o v, R b o = some v → R' b o = some v

theorem Sub.refl (R : Rd) : Sub R R := fun _ _ _ h => h
theorem Sub.trans {R R' R'' : Rd} (h : Sub R R') (h' : Sub R' R'') : Sub R R'' := fun b o v e => h' b o v (h b o v e)

mutual
theorem PRel.mono {R R' : Rd} (hs : Sub R R') : ∀ {p : PV} {v : Value}, PRel R p v → PRel R' p v
  | _, _, .int _ _ => .int _ _
  | _, _, .bool _ => .bool _
  | _, _, .str _ => .str _
  | _, _, .nilp => .nilp
  | _, _, .nils => .nils
  | _, _, .nilm => .nilm
  | _, _, .nilf => .nilf
  | _, _, .nili => .nili
  | _, _, .rp _ _ _ _ h => .rp _ _ _ _ (RRel.mono hs h)
  | _, _, .lit _ _ _ _ _ h1 h2 h3 => .lit _ _ _ _ _ h1 h2 (RRel.mono hs h3)
  | _, _, .lit0 _ _ => .lit0 _ _
  | _, _, .agg _ _ h => .agg _ _ (LRel.mono hs h)
  | _, _, .tup _ _ h => .tup _ _ (LRel.mono hs h)
  | _, _, .iface _ _ _ h => .iface _ _ _ (PRel.mono hs h)
theorem RRel.mono {R R' : Rd} (hs : Sub R R') : ∀ {p : List PV} {b o : Nat}, RRel R p b o → RRel R' p b o
  | _, _, _, .nil _ _ => .nil _ _
  | _, _, _, .cons _ _ _ _ _ h1 h0 h2 h3 => .cons _ _ _ _ _ (hs _ _ _ h1) h0 (PRel.mono hs h2) (RRel.mono hs h3)
theorem LRel.mono {R R' : Rd} (hs : Sub R R') : ∀ {p : List PV} {v : List Value}, LRel R p v → LRel R' p v
  | _, _, .nil => .nil
  | _, _, .cons _ _ _ _ h1 h2 => .cons _ _ _ _ (PRel.mono hs h1) (LRel.mono hs h2)
end

theorem LRel.length {R : Rd} {ps : List PV} {vs : List Value} (h : LRel R ps vs) : vs.length = ps.length := by
  induction ps generalizing vs with
  | nil => cases h; rfl
  | cons p ps ih => cases h with | cons _ _ _ _ _ h2 => simp [ih h2]

theorem LRel.get {R : Rd} {ps : List PV} {vs : List Value} (h : LRel R ps vs) {i : Nat} {p : PV} (hp : ps[i]? = some p) : ∃ v, vs[i]? = some v ∧ PRel R p v := by
  induction ps generalizing vs i with
  | nil => simp at hp
  | cons q ps ih =>
    cases h with
    | cons _ _ v vs h1 h2 =>
      cases i with
      | zero => simp at hp; subst hp; exact ⟨v, rfl, h1⟩
      | succ i => simpa using ih h2 (by simpa using hp)

theorem LRel.take {R : Rd} {ps : List PV} {vs : List Value} (h : LRel R ps vs) (n : Nat) : LRel R (ps.take n) (vs.take n) := by
  induction ps generalizing vs n with
  | nil => cases h; simpa using LRel.nil
  | cons q ps ih =>
    cases h with
    | cons _ _ v vs h1 h2 =>
      cases n with
      | zero => simpa using LRel.nil
      | succ n => simpa using LRel.cons _ _ _ _ h1 (ih h2 n)

theorem LRel.drop {R : Rd} {ps : List PV} {vs : List Value} (h : LRel R ps vs) (n : Nat) : LRel R (ps.drop n) (vs.drop n) := by
  induction ps generalizing vs n with
  | nil => cases h; simpa using LRel.nil
  | cons q ps ih =>
    cases h with
    | cons _ _ v vs h1 h2 =>
      cases n with
      | zero => simpa using LRel.cons _ _ _ _ h1 h2
      | succ n => simpa using ih h2 n

theorem RRel.get {R : Rd} {ps : List PV} {b o : Nat} (h : RRel R ps b o) {i : Nat} {p : PV} (hp : ps[i]? = some p) : ∃ v, R b (o + i) = some v ∧ PRel R p v := by
  induction ps generalizing o i with
  | nil => simp at hp
  | cons q ps ih =>
    cases h with
    | cons _ _ _ _ v h0 hone h1 h2 =>
      cases i with
      | zero => simp at hp; subst hp; exact ⟨v, h0, h1⟩
      | succ i =>
        obtain ⟨u, hu, hr⟩ := ih h2 (i := i) (by simpa using hp)
        exact ⟨u, by rw [← hu]; congr 1; omega, hr⟩

theorem RRel.drop {R : Rd} {ps : List PV} {b o : Nat} (h : RRel R ps b o) (n : Nat) : RRel R (ps.drop n) b (o + n) := by
  induction ps generalizing o n with
  | nil => simpa using RRel.nil _ _
  | cons q ps ih =>
    cases n with
    | zero => simpa using h
    | succ n =>
      cases h with
      | cons _ _ _ _ v h0 hone h1 h2 =>
        have := ih h2 n
        rw [show o + (n + 1) = o + 1 + n from by omega]
        simpa using this

theorem RRel.take {R : Rd} {ps : List PV} {b o : Nat} (h : RRel R ps b o) (n : Nat) : RRel R (ps.take n) b o := by
  induction ps generalizing o n with
  | nil => simpa using RRel.nil _ _
  | cons q ps ih =>
    cases n with
    | zero => simpa using RRel.nil _ _
    | succ n =>
      cases h with
      | cons _ _ _ _ v h0 hone h1 h2 => simpa using RRel.cons _ _ _ _ _ h0 hone h1 (ih h2 n)

theorem RRel.append {R : Rd} {ps qs : List PV} {b o : Nat} (h : RRel R ps b o) (h' : RRel R qs b (o + ps.length)) : RRel R (ps ++ qs) b o := by
  induction ps generalizing o with
  | nil => simpa using h'
  | cons q ps ih =>
    cases h with
    | cons _ _ _ _ v h0 hone h1 h2 => exact RRel.cons _ _ _ _ _ h0 hone h1 (ih h2 (by rw [show o + 1 + ps.length = o + (q :: ps).length from by simp; omega]; exact h'))

theorem RRel.of_list {R : Rd} {ps : List PV} {vs : List Value} {b o : Nat} (h : LRel R ps vs) (h1s : ∀ v ∈ vs, v.oneCell' = true) (hr : ∀ i v, vs[i]? = some v → R b (o + i) = some v) : RRel R ps b o := by
  induction ps generalizing vs o with
  | nil => exact .nil _ _
  | cons p ps ih =>
    cases h with
    | cons _ _ v vs h1 h2 =>
      refine .cons _ _ _ _ v (by simpa using hr 0 v rfl) (h1s v (by simp)) h1 (ih h2 (fun u hu => h1s u (by simp [hu])) fun i u hu => ?_)
      have := hr (i + 1) u (by simpa using hu)
      rw [← this]; congr 1; omega

theorem RRel.list {R : Rd} {ps : List PV} {b o : Nat} (h : RRel R ps b o) : ∃ vs, LRel R ps vs ∧ (∀ v ∈ vs, v.oneCell' = true) ∧ ∀ i v, vs[i]? = some v → R b (o + i) = some v := by
  induction ps generalizing o with
  | nil => exact ⟨[], .nil, by simp, fun i v h => by simp at h⟩
  | cons p ps ih =>
    cases h with
    | cons _ _ _ _ v h0 hone h1 h2 =>
      obtain ⟨vs, h3, h5, h4⟩ := ih h2
      refine ⟨v :: vs, .cons _ _ _ _ h1 h3, (fun u hu => by rcases List.mem_cons.1 hu with rfl | hu; exact hone; exact h5 u hu), fun i u hu => ?_⟩
      cases i with
      | zero => simp at hu; subst hu; simpa using h0
      | succ i =>
        have := h4 i u (by simpa using hu)
        rw [← this]; congr 1; omega

theorem flat_append (xs ys : List PV) : flat (xs ++ ys) = flat xs ++ flat ys := by
  induction xs with
  | nil => rfl
  | cons x xs ih => simp [flat, ih]

theorem flat_length {sz : Nat} {es : List PV} (h : ∀ e ∈ es, e.cells.length = sz) : (flat es).length = es.length * sz := by
  induction es with
  | nil => simp [flat]
  | cons e es ih =>
    have h1 := h e (by simp)
    have h2 := ih fun x hx => h x (by simp [hx])
    simp [flat, h1, h2, Nat.add_mul]; omega

theorem flat_drop {sz : Nat} {es : List PV} (h : ∀ e ∈ es, e.cells.length = sz) (n : Nat) : flat (es.drop n) = (flat es).drop (n * sz) := by
  induction es generalizing n with
  | nil => simp [flat]
  | cons e es ih =>
    cases n with
    | zero => simp
    | succ n =>
      have h1 := h e (by simp)
      have h2 := ih (fun x hx => h x (by simp [hx])) n
      simp only [List.drop_succ_cons, h2, flat]
      rw [List.drop_append, h1]
      have : (n + 1) * sz - sz = n * sz := by rw [Nat.add_mul]; omega
      rw [List.drop_eq_nil_of_le (as := e.cells) (by rw [h1, Nat.add_mul]; omega), this, List.nil_append]

theorem flat_take {sz : Nat} {es : List PV} (h : ∀ e ∈ es, e.cells.length = sz) (n : Nat) : flat (es.take n) = (flat es).take (n * sz) := by
  induction es generalizing n with
  | nil => simp [flat]
  | cons e es ih =>
    cases n with
    | zero => simp [flat]
    | succ n =>
      have h1 := h e (by simp)
      have h2 := ih (fun x hx => h x (by simp [hx])) n
      simp only [List.take_succ_cons, h2, flat]
      rw [List.take_append, h1]
      have : (n + 1) * sz - sz = n * sz := by rw [Nat.add_mul]; omega
      rw [List.take_of_length_le (l := e.cells) (by rw [h1, Nat.add_mul]; omega), this]

theorem flat_get {sz : Nat} {es : List PV} (h : ∀ e ∈ es, e.cells.length = sz) {i : Nat} {e : PV} (he : es[i]? = some e) : ((flat es).drop (i * sz)).take sz = e.cells := by
  rw [← flat_drop h i]
  have hl : i < es.length := by
    rcases Nat.lt_or_ge i es.length with h | h
    · exact h
    · rw [List.getElem?_eq_none h] at he; cases he
  have : es.drop i = e :: es.drop (i + 1) := by
    rw [List.getElem?_eq_getElem hl] at he
    injection he with he
    rw [← he]; exact List.drop_eq_getElem_cons hl
  rw [this]
  simp only [flat]
  have h1 := h e (List.mem_of_getElem? he)
  rw [List.take_append, h1, Nat.sub_self, List.take_zero, List.append_nil, List.take_of_length_le (by omega)]

/-! ## values that name objects -/

/-- Where an object lies: its block, and the capacity of the slice over it. -/
abbrev Pl := Nat → Nat × Nat

def K (R : Rd) (φ : Pl) (H : List AObj) : AV → Value → Prop
  | .pv p, v => PRel R p v
  | .ptr id off, v => id < H.length ∧ v.oneCell' = true ∧ ∀ c, H[id]? = some (.box c) → v = .pointer (some ⟨(φ id).1, off, none⟩)
  | .eptr id n off, v => id < H.length ∧ v.oneCell' = true ∧ ∀ sz ag c fl nl, H[id]? = some (.seq sz ag c fl nl) → n ≤ c.length ∧ (fl ≤ n → (c.length = n → v = .pointer (some ⟨(φ id).1, off, none⟩)) ∧
      ∀ ps, allPV (c.take n) = some ps → 0 < n → v = .pointer (some ⟨(φ id).1, off, none⟩) ∨ ∃ b o, v = .pointer (some ⟨b, o + off, none⟩) ∧ RRel R ps b o)
  | .uq id nl sz es, v => id < H.length ∧ (nl = true → v = .slice none 0 0 ∧ es = []) ∧ (nl = false → PRel R (.lit sz es) v) ∧
      ∀ sz' n nl', H[id]? = some (.tok sz' n nl') → es.length ≤ n ∧ (n = es.length → nl' = nl ∧ sz' = sz ∧ (nl = false → v = .slice (some ⟨(φ id).1, 0, none⟩) n (φ id).2))
  | .own id len, v => id < H.length ∧ v.oneCell' = true ∧ ∀ sz ag c fl nl, H[id]? = some (.seq sz ag c fl nl) → len * sz ≤ c.length ∧ (fl ≤ len * sz →
      (nl = true → v = .slice none 0 0) ∧
      (nl = false → (len = 0 ∧ c ≠ [] ∧ v = .slice none 0 0) ∨ ∃ b o cap, v = .slice (some ⟨b, o, none⟩) len cap ∧ (len * sz = c.length → b = (φ id).1 ∧ o = 0 ∧ cap = (φ id).2) ∧
        (∀ ps, allPV (c.take (len * sz)) = some ps → (b = (φ id).1 ∧ o = 0) ∨ RRel R ps b o)))
  | .mp id, v => id < H.length ∧ v.oneCell' = true ∧ ∀ es, H[id]? = some (.map es) → v = .map (some (φ id).1)
  | _, _ => False

mutual
inductive ARel (fo : Nat → FuncId) (K : AV → Value → Prop) : AV → Value → Prop
  | atom (a : AV) (v : Value) : K a v → ARel fo K a v
  | clo (ix : Nat) (cs : List AV) (vs : List Value) : ALRel fo K cs vs → ARel fo K (.clo ix cs) (.func (.func (fo ix)) #[] ⟨vs⟩)
  | agg (cs : List AV) (vs : List Value) : ALRel fo K cs vs → ARel fo K (.agg cs) (.agg ⟨vs⟩)
  | tup (cs : List AV) (vs : List Value) : ALRel fo K cs vs → ARel fo K (.tup cs) (.tuple ⟨vs⟩)
  | undef (v : Value) : ARel fo K .undef v
inductive ALRel (fo : Nat → FuncId) (K : AV → Value → Prop) : List AV → List Value → Prop
  | nil : ALRel fo K [] []
  | cons (a : AV) (as : List AV) (v : Value) (vs : List Value) : ARel fo K a v → ALRel fo K as vs → ALRel fo K (a :: as) (v :: vs)
end

mutual
theorem ARel.mono {fo : Nat → FuncId} {K K' : AV → Value → Prop} (hk : ∀ a v, K a v → K' a v) : ∀ {a : AV} {v : Value}, ARel fo K a v → ARel fo K' a v
  | _, _, .atom _ _ h => .atom _ _ (hk _ _ h)
  | _, _, .clo _ _ _ h => .clo _ _ _ (ALRel.mono hk h)
  | _, _, .agg _ _ h => .agg _ _ (ALRel.mono hk h)
  | _, _, .tup _ _ h => .tup _ _ (ALRel.mono hk h)
  | _, _, .undef _ => .undef _
theorem ALRel.mono {fo : Nat → FuncId} {K K' : AV → Value → Prop} (hk : ∀ a v, K a v → K' a v) : ∀ {a : List AV} {v : List Value}, ALRel fo K a v → ALRel fo K' a v
  | _, _, .nil => .nil
  | _, _, .cons _ _ _ _ h1 h2 => .cons _ _ _ _ (ARel.mono hk h1) (ALRel.mono hk h2)
end

section lists
variable {fo : Nat → FuncId} {K : AV → Value → Prop}
theorem ALRel.length {as : List AV} {vs : List Value} (h : ALRel fo K as vs) : vs.length = as.length := by
  induction as generalizing vs with
  | nil => cases h; rfl
  | cons p ps ih => cases h with | cons _ _ _ _ _ h2 => simp [ih h2]

theorem ALRel.get {as : List AV} {vs : List Value} (h : ALRel fo K as vs) {i : Nat} {a : AV} (hp : as[i]? = some a) : ∃ v, vs[i]? = some v ∧ ARel fo K a v := by
  induction as generalizing vs i with
  | nil => simp at hp
  | cons q ps ih =>
    cases h with
    | cons _ _ v vs h1 h2 =>
      cases i with
      | zero => simp at hp; subst hp; exact ⟨v, rfl, h1⟩
      | succ i => simpa using ih h2 (by simpa using hp)

theorem ALRel.take {as : List AV} {vs : List Value} (h : ALRel fo K as vs) (n : Nat) : ALRel fo K (as.take n) (vs.take n) := by
  induction as generalizing vs n with
  | nil => cases h; simpa using ALRel.nil
  | cons q ps ih =>
    cases h with
    | cons _ _ v vs h1 h2 =>
      cases n with
      | zero => simpa using ALRel.nil
      | succ n => simpa using ALRel.cons _ _ _ _ h1 (ih h2 n)

theorem ALRel.drop {as : List AV} {vs : List Value} (h : ALRel fo K as vs) (n : Nat) : ALRel fo K (as.drop n) (vs.drop n) := by
  induction as generalizing vs n with
  | nil => cases h; simpa using ALRel.nil
  | cons q ps ih =>
    cases h with
    | cons _ _ v vs h1 h2 =>
      cases n with
      | zero => simpa using ALRel.cons _ _ _ _ h1 h2
      | succ n => simpa using ih h2 n

theorem ALRel.append {as bs : List AV} {vs us : List Value} (h : ALRel fo K as vs) (h' : ALRel fo K bs us) : ALRel fo K (as ++ bs) (vs ++ us) := by
  induction as generalizing vs with
  | nil => cases h; simpa using h'
  | cons q ps ih =>
    cases h with
    | cons _ _ v vs h1 h2 => exact .cons _ _ _ _ h1 (ih h2)

theorem ALRel.set {as : List AV} {vs : List Value} (h : ALRel fo K as vs) (i : Nat) {a : AV} {v : Value} (hv : ARel fo K a v) : ALRel fo K (as.set i a) (vs.set i v) := by
  induction as generalizing vs i with
  | nil => cases h; simpa using ALRel.nil
  | cons q ps ih =>
    cases h with
    | cons _ _ u us h1 h2 =>
      cases i with
      | zero => exact .cons _ _ _ _ hv h2
      | succ i => exact .cons _ _ _ _ h1 (ih h2 i)

theorem ALRel.of_pv {R : Rd} {φ : Pl} {H : List AObj} {ps : List PV} {vs : List Value} (h : LRel R ps vs) : ALRel fo (AM.K R φ H) (ps.map .pv) vs := by
  induction ps generalizing vs with
  | nil => cases h; exact .nil
  | cons p ps ih => cases h with | cons _ _ v vs h1 h2 => exact .cons _ _ _ _ (.atom _ _ h1) (ih h2)

theorem ALRel.map_of {α : Type} {f : α → AV} {g : α → Value} (l : List α) (h : ∀ x ∈ l, ARel fo K (f x) (g x)) : ALRel fo K (l.map f) (l.map g) := by
  induction l with
  | nil => exact .nil
  | cons x l ih => exact .cons _ _ _ _ (h x (by simp)) (ih fun y hy => h y (by simp [hy]))
end lists

theorem ARel.pv_inv {fo : Nat → FuncId} {R : Rd} {φ : Pl} {H : List AObj} {p : PV} {v : Value} (h : ARel fo (K R φ H) (.pv p) v) : PRel R p v := by
  cases h with | atom _ _ h => exact h

theorem allPV_rel {fo : Nat → FuncId} {R : Rd} {φ : Pl} {H : List AObj} {as : List AV} {ps : List PV} {vs : List Value} (hp : allPV as = some ps) (h : ALRel fo (K R φ H) as vs) : LRel R ps vs := by
  induction as generalizing ps vs with
  | nil => simp [allPV] at hp; subst hp; cases h; exact .nil
  | cons a as ih =>
    cases a with
    | pv p =>
      simp only [allPV, Option.map_eq_some_iff] at hp
      obtain ⟨qs, hq, rfl⟩ := hp
      cases h with | cons _ _ v vs h1 h2 => exact .cons _ _ _ _ h1.pv_inv (ih hq h2)
    | _ => simp [allPV] at hp

theorem allPV_map {as : List AV} {ps : List PV} (hp : allPV as = some ps) : as = ps.map .pv := by
  induction as generalizing ps with
  | nil => simp [allPV] at hp; subst hp; rfl
  | cons a as ih =>
    cases a with
    | pv p =>
      simp only [allPV, Option.map_eq_some_iff] at hp
      obtain ⟨qs, hq, rfl⟩ := hp
      simp [ih hq]
    | _ => simp [allPV] at hp

theorem allPV_of_map (ps : List PV) : allPV (ps.map .pv) = some ps := by
  induction ps with
  | nil => rfl
  | cons p ps ih => simp [allPV, ih]

theorem mkAgg_rel {fo : Nat → FuncId} {R : Rd} {φ : Pl} {H : List AObj} {as : List AV} {vs : List Value} (h : ALRel fo (K R φ H) as vs) : ARel fo (K R φ H) (mkAgg as) (.agg ⟨vs⟩) := by
  unfold mkAgg
  cases e : allPV as with
  | some ps => exact .atom _ _ (show PRel R _ _ from .agg _ _ (allPV_rel e h))
  | none => exact .agg _ _ h

theorem mkTup_rel {fo : Nat → FuncId} {R : Rd} {φ : Pl} {H : List AObj} {as : List AV} {vs : List Value} (h : ALRel fo (K R φ H) as vs) : ARel fo (K R φ H) (mkTup as) (.tuple ⟨vs⟩) := by
  unfold mkTup
  cases e : allPV as with
  | some ps => exact .atom _ _ (show PRel R _ _ from .tup _ _ (allPV_rel e h))
  | none => exact .tup _ _ h

/-! ## objects and worlds -/

def liveO : AObj → Prop
  | .box _ => True
  | .seq _ _ _ _ nl => nl = false
  | .tok _ _ nl => nl = false
  | .map _ => True
  | .dead => False

def live (H : List AObj) (i : Nat) : Prop := ∃ o, H[i]? = some o ∧ liveO o

/-- A block of cells of which none may not be written. -/
def Blk (w : World) (b : Nat) (arr : Array Value) : Prop := ∃ ty fz, w.heap[b]? = some (.cells arr ty fz) ∧ ∀ o, o < arr.size → ¬ (fz.1 ≤ o ∧ o < fz.2)

def ORel (fo : Nat → FuncId) (B0 : Base) (w : World) (R : Rd) (φ : Pl) (H : List AObj) (id : Nat) : AObj → Prop
  | .box cells => B0 ≤ (φ id).1 ∧ (∀ o, R (φ id).1 o = none) ∧ cells.all AV.one = true ∧ ∃ arr, Blk w (φ id).1 arr ∧ ALRel fo (K R φ H) cells arr.toList
  | .seq sz _ cells fl nl => 0 < sz ∧ fl ≤ cells.length ∧ (nl = true → cells = []) ∧ cells.all AV.one = true ∧
      (nl = false → B0 ≤ (φ id).1 ∧ (∀ o, R (φ id).1 o = none) ∧ ∃ arr, Blk w (φ id).1 arr ∧ arr.size = (φ id).2 * sz ∧ cells.length ≤ arr.size ∧ ALRel fo (K R φ H) cells (arr.toList.take cells.length))
  | .tok sz n nl => 0 < sz ∧ (nl = true → n = 0) ∧
      (nl = false → B0 ≤ (φ id).1 ∧ (∀ o, n * sz ≤ o → R (φ id).1 o = none) ∧ ∃ arr, Blk w (φ id).1 arr ∧ arr.size = (φ id).2 * sz ∧ n * sz ≤ arr.size)
  | .map _ => False
  | .dead => True

structure SRel (fo : Nat → FuncId) (B0 : Base) (w : World) (R : Rd) (φ : Pl) (H : List AObj) : Prop where
  low : B0 ≤ w.heap.size
  sub : ∀ b o v, R b o = some v → w.cell? ⟨b, o, none⟩ = some v
  obj : ∀ id o, H[id]? = some o → ORel fo B0 w R φ H id o
  inj : ∀ i j, live H i → live H j → (φ i).1 = (φ j).1 → i = j
  old : ∀ b o, b < B0.n → R b o = B0.R b o

/-- The temporaries. -/
def ERel (fo : Nat → FuncId) (K : AV → Value → Prop) (e : Tr) (a : Act) : Prop := ∀ t, ARel fo K (e.get t) (a.tmps.getD t undef)

theorem ERel.mono {fo : Nat → FuncId} {K K' : AV → Value → Prop} {e : Tr} {a : Act} (h : ERel fo K e a) (hk : ∀ a v, K a v → K' a v) : ERel fo K' e a := fun t => (h t).mono hk

theorem Blk.lt {w : World} {b : Nat} {arr : Array Value} (h : Blk w b arr) : b < w.heap.size := by
  obtain ⟨ty, fz, h, _⟩ := h
  rcases Nat.lt_or_ge b w.heap.size with hlt | hge
  · exact hlt
  · rw [Array.getElem?_eq_none hge] at h; cases h

theorem Blk.cell {w : World} {b : Nat} {arr : Array Value} (h : Blk w b arr) (o : Nat) : w.cell? ⟨b, o, none⟩ = arr[o]? := by
  obtain ⟨ty, fz, h, _⟩ := h
  simp [World.cell?, h]

theorem Blk.frozen {w : World} {b : Nat} {arr : Array Value} (h : Blk w b arr) {o : Nat} (ho : o < arr.size) : w.frozen? ⟨b, o, none⟩ = false := by
  obtain ⟨ty, fz, h, hf⟩ := h
  have := hf o ho
  simp only [World.frozen?, h]
  rw [← Bool.not_eq_true]
  simpa using this

theorem Blk.keep {w w' : World} {b : Nat} {arr : Array Value} (h : Blk w b arr) (hk : w'.heap[b]? = w.heap[b]?) : Blk w' b arr := by
  obtain ⟨ty, fz, h, hf⟩ := h
  exact ⟨ty, fz, hk.trans h, hf⟩

theorem cell_lt {w : World} {b o : Nat} {v : Value} (h : w.cell? ⟨b, o, none⟩ = some v) : b < w.heap.size := by
  rcases Nat.lt_or_ge b w.heap.size with hlt | hge
  · exact hlt
  · simp [World.cell?, Array.getElem?_eq_none hge] at h

end Go.AM
