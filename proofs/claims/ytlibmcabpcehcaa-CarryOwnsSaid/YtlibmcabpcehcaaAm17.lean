/- The abstract machine, part 17: what an operation looks at, and which pairs of operations may change places. -/
import Derived.Test.YtlibmcabpcehcaaAm16
set_option linter.unusedSimpArgs false
set_option linter.unusedVariables false
namespace Go.AM

def AO.look (n : Nat) : AO → Bool
  | .t m => n == m
  | _ => false

/-- Does the operation look at this temporary? -/
def AOp.look (n : Nat) : AOp → Bool
  | .move x | .box _ x | .boxR _ x | .load _ _ x | .nilck x | .un _ x | .conv _ x | .b2s x | .s2b _ x | .faddr _ x | .fld _ _ _ x | .ext _ x | .len _ x => x.look n
  | .alloc _ => false
  | .pick c a b => c.look n || a.look n || b.look n
  | .build _ ps => ps.any fun p => p.2.2.look n
  | .bslice _ _ _ _ _ ps => ps.any fun p => p.2.look n
  | .store _ a v => a.look n || v.look n
  | .bin _ x y | .eq _ _ x y => x.look n || y.look n
  | .mkfn _ xs | .mx xs | .mn xs | .callP _ xs | .callI _ xs => xs.any (·.look n)
  | .mkslice _ _ _ _ _ l c => l.look n || c.look n
  | .slice _ x lo hi => x.look n || (lo.any (·.look n)) || (hi.any (·.look n))
  | .iaddr _ x i | .iaddrA _ _ x i | .ixA _ _ _ x i | .ixS x i => x.look n || i.look n
  | .append _ _ _ _ _ s x => s.look n || x.look n
  | .callV f xs => f.look n || xs.any (·.look n)

/-- Two rows of temporaries that agree on what is looked at. -/
def EqOn (p : Nat → Bool) (e e' : Tr) : Prop := ∀ n, p n = true → e.get n = e'.get n

theorem AO.ev_congr {e e' : Tr} {x : AO} (h : ∀ n, x.look n = true → e.get n = e'.get n) : x.ev e = x.ev e' := by
  cases x with
  | t n => exact h n (by simp [AO.look])
  | c p => rfl
  | f ix => rfl

theorem evs_congr {e e' : Tr} {xs : List AO} (h : ∀ n, xs.any (·.look n) = true → e.get n = e'.get n) : xs.map (·.ev e) = xs.map (·.ev e') :=
  List.map_congr_left fun x hx => AO.ev_congr fun n hn => h n (List.any_eq_true.2 ⟨x, hx, hn⟩)

theorem evalOp_congr {call : CallF} {e e' : Tr} {H : List AObj} {op : AOp} (h : EqOn (fun n => op.look n) e e') : evalOp call e H op = evalOp call e' H op := by
  have one : ∀ x : AO, (∀ n, x.look n = true → op.look n = true) → x.ev e = x.ev e' := fun x hx => AO.ev_congr fun n hn => h n (hx n hn)
  have many : ∀ xs : List AO, (∀ n, xs.any (·.look n) = true → op.look n = true) → xs.map (·.ev e) = xs.map (·.ev e') := fun xs hx => evs_congr fun n hn => h n (hx n hn)
  cases op with
  | move x => simp only [evalOp]; rw [one x (fun n h => by simpa [AOp.look] using h)]
  | pick c a b =>
    simp only [evalOp]
    rw [one c (fun n h => by simp [AOp.look, h]), one a (fun n h => by simp [AOp.look, h]), one b (fun n h => by simp [AOp.look, h])]
  | alloc z => rfl
  | box n x => simp only [evalOp]; rw [one x (fun n h => by simpa [AOp.look] using h)]
  | boxR n x => simp only [evalOp]; rw [one x (fun n h => by simpa [AOp.look] using h)]
  | build z ps =>
    simp only [evalOp]
    rw [List.map_congr_left (f := fun p : Nat × Nat × AO => (p.1, p.2.1, p.2.2.ev e)) (g := fun p => (p.1, p.2.1, p.2.2.ev e')) fun p hp => by
      rw [one p.2.2 (fun n h => by simp only [AOp.look]; exact List.any_eq_true.2 ⟨p, hp, h⟩)]]
  | bslice hh sz ag len z ps =>
    simp only [evalOp]
    rw [List.map_congr_left (f := fun p : Nat × AO => (p.1 * sz, sz, p.2.ev e)) (g := fun p => (p.1 * sz, sz, p.2.ev e')) fun p hp => by
      rw [one p.2 (fun n h => by simp only [AOp.look]; exact List.any_eq_true.2 ⟨p, hp, h⟩)]]
  | load ag n x => simp only [evalOp]; rw [one x (fun n h => by simpa [AOp.look] using h)]
  | store n a v => simp only [evalOp]; rw [one a (fun n h => by simp [AOp.look, h]), one v (fun n h => by simp [AOp.look, h])]
  | nilck x => simp only [evalOp]; rw [one x (fun n h => by simpa [AOp.look] using h)]
  | bin op x y => simp only [evalOp]; rw [one x (fun n h => by simp [AOp.look, h]), one y (fun n h => by simp [AOp.look, h])]
  | eq k ne x y => simp only [evalOp]; rw [one x (fun n h => by simp [AOp.look, h]), one y (fun n h => by simp [AOp.look, h])]
  | un op x => simp only [evalOp]; rw [one x (fun n h => by simpa [AOp.look] using h)]
  | conv k x => simp only [evalOp]; rw [one x (fun n h => by simpa [AOp.look] using h)]
  | b2s x => simp only [evalOp]; rw [one x (fun n h => by simpa [AOp.look] using h)]
  | s2b hh x => simp only [evalOp]; rw [one x (fun n h => by simpa [AOp.look] using h)]
  | mkfn ix xs => simp only [evalOp]; rw [many xs (fun n h => by simpa [AOp.look] using h)]
  | mkslice hh sz ag z b l c => simp only [evalOp]; rw [one l (fun n h => by simp [AOp.look, h]), one c (fun n h => by simp [AOp.look, h])]
  | slice sz x lo hi =>
    have hx := one x (fun n h => by simp [AOp.look, h])
    cases lo with
    | none =>
      cases hi with
      | none => simp only [evalOp]; rw [hx]
      | some hi => simp only [evalOp]; rw [hx, one hi (fun n h => by simp [AOp.look, h])]
    | some lo =>
      cases hi with
      | none => simp only [evalOp]; rw [hx, one lo (fun n h => by simp [AOp.look, h])]
      | some hi => simp only [evalOp]; rw [hx, one lo (fun n h => by simp [AOp.look, h]), one hi (fun n h => by simp [AOp.look, h])]
  | faddr off x => simp only [evalOp]; rw [one x (fun n h => by simpa [AOp.look] using h)]
  | fld off ag n x => simp only [evalOp]; rw [one x (fun n h => by simpa [AOp.look] using h)]
  | iaddr sz x i => simp only [evalOp]; rw [one x (fun n h => by simp [AOp.look, h]), one i (fun n h => by simp [AOp.look, h])]
  | iaddrA n sz x i => simp only [evalOp]; rw [one x (fun n h => by simp [AOp.look, h]), one i (fun n h => by simp [AOp.look, h])]
  | ixA n sz ag x i => simp only [evalOp]; rw [one x (fun n h => by simp [AOp.look, h]), one i (fun n h => by simp [AOp.look, h])]
  | ixS x i => simp only [evalOp]; rw [one x (fun n h => by simp [AOp.look, h]), one i (fun n h => by simp [AOp.look, h])]
  | ext i x => simp only [evalOp]; rw [one x (fun n h => by simpa [AOp.look] using h)]
  | len k x => simp only [evalOp]; rw [one x (fun n h => by simpa [AOp.look] using h)]
  | mx xs => simp only [evalOp]; rw [many xs (fun n h => by simpa [AOp.look] using h)]
  | mn xs => simp only [evalOp]; rw [many xs (fun n h => by simpa [AOp.look] using h)]
  | append o hh sz ag b s x => simp only [evalOp]; rw [one s (fun n h => by simp [AOp.look, h]), one x (fun n h => by simp [AOp.look, h])]
  | callP F xs => simp only [evalOp]; rw [many xs (fun n h => by simpa [AOp.look] using h)]
  | callI ix xs => simp only [evalOp]; rw [many xs (fun n h => by simpa [AOp.look] using h)]
  | callV f xs => simp only [evalOp]; rw [one f (fun n h => by simp [AOp.look, h]), many xs (fun n h => by simp only [AOp.look, h, Bool.or_true])]

/-! ## classes -/

def AObj.isTok : AObj → Bool
  | .tok _ _ _ => true
  | _ => false

/-- What is read of one heap is so in the other. -/
def Agr (H H' : List AObj) : Prop := ∀ (id : Nat) (o : AObj), H[id]? = some o → o.isTok = false → H'[id]? = some o

theorem Agr.refl (H : List AObj) : Agr H H := fun _ _ h _ => h

theorem Agr.push (H : List AObj) (o : AObj) : Agr H (H ++ [o]) := fun id o' h _ => by
  have hl : id < H.length := (List.getElem?_eq_some_iff.1 h).1
  rw [List.getElem?_append_left hl]; exact h

theorem Agr.push_tok (H : List AObj) (a b : Nat) (c : Bool) : Agr (H ++ [.tok a b c]) H := fun id o h ht => by
  by_cases hl : id < H.length
  · rw [List.getElem?_append_left hl] at h; exact h
  · rw [List.getElem?_append_right (by omega)] at h
    by_cases h0 : id - H.length = 0
    · rw [h0] at h; simp at h; subst h; simp [AObj.isTok] at ht
    · rw [List.getElem?_eq_none (by simp; omega)] at h; cases h

theorem Agr.set_tok {H : List AObj} {id : Nat} {a b : Nat} {c : Bool} (h : H[id]? = some (.tok a b c)) (a' b' : Nat) (c' : Bool) :
    Agr H (H.set id (.tok a' b' c')) ∧ Agr (H.set id (.tok a' b' c')) H := by
  constructor
  · intro i o hi ht
    by_cases e : id = i
    · subst e; rw [h] at hi; injection hi with hi; subst hi; simp [AObj.isTok] at ht
    · rw [List.getElem?_set_ne e]; exact hi
  · intro i o hi ht
    by_cases e : id = i
    · subst e
      have hl : id < H.length := (List.getElem?_eq_some_iff.1 h).1
      rw [List.getElem?_set_self hl] at hi; injection hi with hi; subst hi; simp [AObj.isTok] at ht
    · rw [List.getElem?_set_ne e] at hi; exact hi

def Hold.isLit : Hold → Bool
  | .lit => true
  | _ => false
def Hold.isOwn : Hold → Bool
  | .own => true
  | _ => false

/-- 0: looks at no memory; 1: reads; 2: makes or lengthens what may be appended to; 3: makes an object; 4: anything. -/
def AOp.cls : AOp → Nat
  | .move _ | .pick _ _ _ | .build _ _ | .bin _ _ _ | .un _ _ | .conv _ _ | .mkfn _ _ | .fld _ _ _ _ | .ixA _ _ _ _ _ | .ixS _ _ | .ext _ _ | .mx _ | .mn _ | .boxR _ _ => 0
  | .load _ _ _ | .nilck _ | .faddr _ _ | .iaddr _ _ _ | .iaddrA _ _ _ _ | .len _ _ | .eq _ _ _ _ | .slice _ _ _ _ | .b2s _ | .callP _ _ => 1
  | .bslice h _ _ _ _ _ | .s2b h _ | .mkslice h _ _ _ _ _ _ => (if h.isLit then 0 else if h.isOwn then 3 else 2)
  | .append own h _ _ _ _ _ => (if own then 4 else if h.isOwn then 4 else 2)
  | .alloc _ | .box _ _ => 3
  | _ => 4

theorem toPV_agr {H H' : List AObj} (h : Agr H H') : ∀ (d : Nat) (v : AV) (p : PV), toPV H d v = some p → toPV H' d v = some p := by
  intro d
  induction d with
  | zero => intro v p hp; cases v <;> simp_all [toPV]
  | succ d ih =>
    have many : ∀ (cs : List AV) (ps : List PV), mapO (toPV H d) cs = some ps → mapO (toPV H' d) cs = some ps := by
      intro cs
      induction cs with
      | nil => intro ps h; simpa [mapO] using h
      | cons c cs ihc =>
        intro ps h
        simp only [mapO, Option.bind_eq_some_iff] at h ⊢
        obtain ⟨b, h1, bs, h2, h3⟩ := h
        exact ⟨b, ih _ _ h1, bs, ihc _ h2, h3⟩
    intro v p hp
    cases v with
    | pv q => simpa [toPV] using hp
    | uq => simpa [toPV] using hp
    | own id len =>
      simp only [toPV] at hp ⊢
      split at hp
      · rename_i sz ag cells fl nl hid
        rw [h _ _ hid rfl]
        split at hp
        · rename_i hc
          simp only [if_pos hc]
          cases nl with
          | true => simpa using hp
          | false =>
            simp only [Bool.false_eq_true, if_false, Option.map_eq_some_iff] at hp ⊢
            obtain ⟨ps, h1, h2⟩ := hp
            exact ⟨ps, many _ _ h1, h2⟩
        · cases hp
      · cases hp
    | ptr id off =>
      simp only [toPV] at hp ⊢
      split at hp
      · rename_i cells hid
        rw [h _ _ hid rfl]
        simp only [Option.map_eq_some_iff] at hp ⊢
        obtain ⟨ps, h1, h2⟩ := hp
        exact ⟨ps, many _ _ h1, h2⟩
      · cases hp
    | agg cs =>
      simp only [toPV, Option.map_eq_some_iff] at hp ⊢
      obtain ⟨ps, h1, h2⟩ := hp
      exact ⟨ps, many _ _ h1, h2⟩
    | tup cs =>
      simp only [toPV, Option.map_eq_some_iff] at hp ⊢
      obtain ⟨ps, h1, h2⟩ := hp
      exact ⟨ps, many _ _ h1, h2⟩
    | eptr => simp [toPV] at hp
    | clo => simp [toPV] at hp
    | mp => simp [toPV] at hp
    | undef => simp [toPV] at hp

theorem toPVs_agr {H H' : List AObj} (h : Agr H H') {d : Nat} : ∀ {cs : List AV} {ps : List PV}, mapO (toPV H d) cs = some ps → mapO (toPV H' d) cs = some ps := by
  intro cs
  induction cs with
  | nil => intro ps h; simpa [mapO] using h
  | cons c cs ihc =>
    intro ps hp
    simp only [mapO, Option.bind_eq_some_iff] at hp ⊢
    obtain ⟨b, h1, bs, h2, h3⟩ := hp
    exact ⟨b, toPV_agr h _ _ _ h1, bs, ihc h2, h3⟩

theorem place_agr {H H' : List AObj} (h : Agr H H') {d : Nat} {x v : AV} (hp : place H d x = some v) : place H' d x = some v := by
  unfold place at hp ⊢
  split at hp
  · exact hp
  · split at hp
    · rename_i hid; rw [h _ _ hid rfl]; exact hp
    · cases hp
  · split at hp
    · rename_i hid; rw [h _ _ hid rfl]; exact hp
    · cases hp
  · cases hp

theorem loadA_agr {H H' : List AObj} (h : Agr H H') {ag : Bool} {n : Nat} {x v : AV} (hp : loadA H ag n x = some v) : loadA H' ag n x = some v := by
  unfold loadA at hp ⊢
  split at hp
  · exact hp
  · split at hp
    · rename_i hid; rw [h _ _ hid rfl]; exact hp
    · cases hp
  · split at hp
    · rename_i hid; rw [h _ _ hid rfl]; exact hp
    · cases hp
  · cases hp

theorem iaddr_agr {H H' : List AObj} (h : Agr H H') {sz : Nat} {x v : AV} {i : Int} (hp : iaddrA' H sz x i = some v) : iaddrA' H' sz x i = some v := by
  unfold iaddrA' at hp ⊢
  split at hp
  · exact hp
  · exact hp
  · split at hp
    · rename_i hid; rw [h _ _ hid rfl]; exact hp
    · cases hp
  · cases hp

theorem lenA_agr {H H' : List AObj} (h : Agr H H') {k : Nat} {x : AV} {n : Nat} (hp : lenA H k x = some n) : lenA H' k x = some n := by
  unfold lenA at hp ⊢
  split at hp
  · exact hp
  · exact hp
  · exact hp
  · exact hp
  · split at hp
    · rename_i hid; rw [h _ _ hid rfl]; exact hp
    · cases hp
  · exact hp
  · split at hp
    · rename_i hid; rw [h _ _ hid rfl]; exact hp
    · cases hp
  · cases hp

theorem eqA_agr {H H' : List AObj} (h : Agr H H') {k : Nat} {x y : AV} {b : Bool} (hp : eqA H k x y = some b) : eqA H' k x y = some b := by
  unfold eqA at hp ⊢
  split at hp <;> first
    | exact hp
    | (split at hp
       · rename_i hid; simp only [h _ _ hid rfl]; exact hp
       · cases hp)
    | cases hp

theorem b2sA_agr {H H' : List AObj} (h : Agr H H') {x : AV} {b : ByteArray} (hp : b2sA H x = some b) : b2sA H' x = some b := by
  unfold b2sA at hp ⊢
  split at hp <;> first
    | exact hp
    | (split at hp
       · rename_i hid; rw [h _ _ hid rfl]; exact hp
       · cases hp)
    | cases hp

theorem sliceA_agr {H H' : List AObj} (h : Agr H H') {sz : Nat} {x v : AV} {lo hi : Option Int} (hp : sliceA H sz x lo hi = some v) : sliceA H' sz x lo hi = some v := by
  unfold sliceA at hp ⊢
  split at hp <;> first
    | exact hp
    | (split at hp
       · rename_i hid; rw [h _ _ hid rfl]; exact hp
       · cases hp)
    | cases hp

theorem fresh_lit {H : List AObj} {sz : Nat} {ag : Bool} {n : Nat} {cs : List AV} {v : AV} {H' : List AObj} (h : fresh H .lit sz ag n cs = some (v, H')) :
    H' = H ∧ ∀ H2, fresh H2 .lit sz ag n cs = some (v, H2) := by
  simp only [fresh, Option.map_eq_some_iff, Prod.mk.injEq] at h ⊢
  obtain ⟨ps, h1, rfl, rfl⟩ := h
  exact ⟨rfl, fun H2 => ⟨ps, h1, rfl, trivial⟩⟩

theorem fresh_uq {H : List AObj} {sz : Nat} {ag : Bool} {n : Nat} {cs : List AV} {v : AV} {H' : List AObj} (h : fresh H .uq sz ag n cs = some (v, H')) :
    Agr H H' ∧ Agr H' H := by
  simp only [fresh, Option.map_eq_some_iff, Prod.mk.injEq] at h
  obtain ⟨ps, h1, rfl, rfl⟩ := h
  exact ⟨Agr.push _ _, Agr.push_tok _ _ _ _⟩

theorem fresh_own {H : List AObj} {sz : Nat} {ag : Bool} {n : Nat} {cs : List AV} {v : AV} {H' : List AObj} (h : fresh H .own sz ag n cs = some (v, H')) :
    Agr H H' := by
  simp only [fresh, Option.some.injEq, Prod.mk.injEq] at h
  obtain ⟨rfl, rfl⟩ := h
  exact Agr.push _ _

theorem cls0 {call : CallF} {e : Tr} {H H' : List AObj} {op : AOp} {v : AV} (hc : op.cls = 0) (h : evalOp call e H op = some (v, H')) :
    H' = H ∧ ∀ H2, evalOp call e H2 op = some (v, H2) := by
  have ob : ∀ {α : Type} {x : Option α} {f : α → AV}, (x.map fun v => (f v, H)) = some (v, H') → H' = H ∧ ∀ H2 : List AObj, (x.map fun v => (f v, H2)) = some (v, H2) := by
    intro α x f h
    cases x with
    | none => simp at h
    | some x => simp at h; exact ⟨h.2.symm, fun H2 => by simp [h.1]⟩
  cases op with
  | move x => simp only [evalOp, Option.some.injEq, Prod.mk.injEq] at h ⊢; exact ⟨h.2.symm, fun H2 => ⟨h.1, trivial⟩⟩
  | pick c a b =>
    simp only [evalOp, Option.bind_eq_some_iff, Option.some.injEq, Prod.mk.injEq] at h ⊢
    obtain ⟨t, h1, h2, h3⟩ := h
    exact ⟨h3.symm, fun H2 => ⟨t, h1, h2, trivial⟩⟩
  | boxR n x =>
    simp only [evalOp] at h ⊢
    split at h
    · rename_i h0; simp only [if_pos h0]; exact ob h
    · cases h
  | build z ps => exact ob h
  | bin o x y => exact ob h
  | un o x => exact ob h
  | conv k x => exact ob h
  | mx xs => exact ob h
  | mn xs => exact ob h
  | mkfn ix xs => simp only [evalOp, Option.some.injEq, Prod.mk.injEq] at h ⊢; exact ⟨h.2.symm, fun H2 => ⟨h.1, trivial⟩⟩
  | fld off ag n x => simp only [evalOp] at h ⊢; split at h <;> first | exact ob h | cases h
  | ext i x => simp only [evalOp] at h ⊢; split at h <;> first | exact ob h | cases h
  | ixA n sz ag x i =>
    simp only [evalOp] at h ⊢
    cases hi : asInt (i.ev e) with
    | none => simp [hi] at h
    | some k =>
      simp only [hi, Option.bind_some] at h ⊢
      split at h
      · rename_i hx; simp only [if_pos hx]; split at h <;> first | exact ob h | cases h
      · cases h
  | ixS x i =>
    simp only [evalOp] at h ⊢
    cases hi : asInt (i.ev e) with
    | none => simp [hi] at h
    | some k =>
      simp only [hi, Option.bind_some] at h ⊢
      split at h
      · split at h
        · rename_i h0; simp only [if_pos h0]; exact ob h
        · cases h
      · cases h
  | bslice hh sz ag len z ps =>
    cases hh with
    | lit =>
      simp only [evalOp] at h ⊢
      cases hf : fillA (repZ z len) (ps.map fun p => (p.1 * sz, sz, p.2.ev e)) with
      | none => simp [hf] at h
      | some cs =>
        simp only [hf, Option.bind_some] at h ⊢
        split at h
        · rename_i h0; simp only [if_pos h0]; exact fresh_lit h
        · cases h
    | uq => simp [AOp.cls, Hold.isLit, Hold.isOwn] at hc
    | own => simp [AOp.cls, Hold.isLit, Hold.isOwn] at hc
  | s2b hh x =>
    cases hh with
    | lit =>
      simp only [evalOp] at h ⊢
      split at h
      · exact fresh_lit h
      · cases h
    | uq => simp [AOp.cls, Hold.isLit, Hold.isOwn] at hc
    | own => simp [AOp.cls, Hold.isLit, Hold.isOwn] at hc
  | mkslice hh sz ag z b l c =>
    cases hh with
    | lit =>
      simp only [evalOp] at h ⊢
      cases hl : asInt (l.ev e) with
      | none => simp [hl] at h
      | some l =>
        cases hcc : asInt (c.ev e) with
        | none => simp [hl, hcc] at h
        | some c =>
          simp only [hl, hcc, Option.bind_some] at h ⊢
          split at h
          · rename_i h0; simp only [if_pos h0]; exact fresh_lit h
          · cases h
    | uq => simp [AOp.cls, Hold.isLit, Hold.isOwn] at hc
    | own => simp [AOp.cls, Hold.isLit, Hold.isOwn] at hc
  | append o hh _ _ _ _ _ => exfalso; simp only [AOp.cls] at hc; split at hc <;> first | cases hc | (split at hc <;> cases hc)
  | _ => simp [AOp.cls] at hc

theorem cls1 {call : CallF} {e : Tr} {H H' : List AObj} {op : AOp} {v : AV} (hc : op.cls = 1) (h : evalOp call e H op = some (v, H')) :
    H' = H ∧ ∀ H2, Agr H H2 → evalOp call e H2 op = some (v, H2) := by
  have ob : ∀ {α : Type} {g : List AObj → Option α} {f : α → AV}, ((g H).map fun v => (f v, H)) = some (v, H') → (∀ H2 a, Agr H H2 → g H = some a → g H2 = some a) →
      H' = H ∧ ∀ H2 : List AObj, Agr H H2 → ((g H2).map fun v => (f v, H2)) = some (v, H2) := by
    intro α g f h hg
    cases hx : g H with
    | none => simp [hx] at h
    | some x => simp [hx] at h; exact ⟨h.2.symm, fun H2 ha => by simp [hg H2 x ha hx, h.1]⟩
  cases op with
  | load ag n x => exact ob (g := fun H => loadA H ag n (x.ev e)) h fun H2 a ha hp => loadA_agr ha hp
  | faddr off x => exact ob (g := fun H => place H off (x.ev e)) h fun H2 a ha hp => place_agr ha hp
  | len k x => exact ob (g := fun H => lenA H k (x.ev e)) h fun H2 a ha hp => lenA_agr ha hp
  | b2s x => exact ob (g := fun H => b2sA H (x.ev e)) h fun H2 a ha hp => b2sA_agr ha hp
  | eq k ne x y => exact ob (g := fun H => eqA H k (x.ev e) (y.ev e)) h fun H2 a ha hp => eqA_agr ha hp
  | nilck x =>
    simp only [evalOp] at h ⊢
    split at h
    · simp only [Option.some.injEq, Prod.mk.injEq] at h ⊢; exact ⟨h.2.symm, fun H2 _ => ⟨h.1, trivial⟩⟩
    · exact ob (g := fun H => place H 0 (x.ev e)) h fun H2 a ha hp => place_agr ha hp
  | iaddr sz x i =>
    simp only [evalOp] at h ⊢
    cases hi : asInt (i.ev e) with
    | none => simp [hi] at h
    | some k =>
      simp only [hi, Option.bind_some] at h ⊢
      exact ob (g := fun H => iaddrA' H sz (x.ev e) k.2) h fun H2 a ha hp => iaddr_agr ha hp
  | iaddrA n sz x i =>
    simp only [evalOp] at h ⊢
    cases hi : asInt (i.ev e) with
    | none => simp [hi] at h
    | some k =>
      simp only [hi, Option.bind_some] at h ⊢
      split at h
      · rename_i h0
        simp only [if_pos h0]
        exact ob (g := fun H => place H (k.2.toNat * sz) (x.ev e)) h fun H2 a ha hp => place_agr ha hp
      · cases h
  | slice sz x lo hi =>
    cases lo with
    | none =>
      cases hi with
      | none => exact ob (g := fun H => sliceA H sz (x.ev e) none none) h fun H2 a ha hp => sliceA_agr ha hp
      | some hi =>
        simp only [evalOp] at h ⊢
        cases hh : asInt (hi.ev e) with
        | none => simp [hh] at h
        | some k =>
          simp only [hh, Option.bind_some] at h ⊢
          exact ob (g := fun H => sliceA H sz (x.ev e) none (some k.2)) h fun H2 a ha hp => sliceA_agr ha hp
    | some lo =>
      cases hi with
      | none =>
        simp only [evalOp] at h ⊢
        cases hh : asInt (lo.ev e) with
        | none => simp [hh] at h
        | some k =>
          simp only [hh, Option.bind_some] at h ⊢
          exact ob (g := fun H => sliceA H sz (x.ev e) (some k.2) none) h fun H2 a ha hp => sliceA_agr ha hp
      | some hi =>
        simp only [evalOp] at h ⊢
        cases hl : asInt (lo.ev e) with
        | none => simp [hl] at h
        | some l =>
          cases hh : asInt (hi.ev e) with
          | none => simp [hl, hh] at h
          | some k =>
            simp only [hl, hh, Option.bind_some] at h ⊢
            exact ob (g := fun H => sliceA H sz (x.ev e) (some l.2) (some k.2)) h fun H2 a ha hp => sliceA_agr ha hp
  | callP F xs =>
    simp only [evalOp, Option.bind_eq_some_iff] at h ⊢
    obtain ⟨ps, h1, r, h2, h3⟩ := h
    split at h3
    · rename_i h5
      simp only [Option.some.injEq, Prod.mk.injEq] at h3
      obtain ⟨h3, h4⟩ := h3
      exact ⟨h4.symm, fun H2 ha => ⟨ps, toPVs_agr ha h1, r, h2, by rw [if_pos h5, h3]⟩⟩
    · cases h3
  | bslice hh _ _ _ _ _ => cases hh <;> simp [AOp.cls, Hold.isLit, Hold.isOwn] at hc
  | s2b hh _ => cases hh <;> simp [AOp.cls, Hold.isLit, Hold.isOwn] at hc
  | mkslice hh _ _ _ _ _ _ => cases hh <;> simp [AOp.cls, Hold.isLit, Hold.isOwn] at hc
  | append o hh _ _ _ _ _ => cases o <;> cases hh <;> simp [AOp.cls, Hold.isOwn] at hc
  | _ => simp [AOp.cls] at hc

theorem cls2 {call : CallF} {e : Tr} {H H' : List AObj} {op : AOp} {v : AV} (hc : op.cls = 2) (h : evalOp call e H op = some (v, H')) : Agr H H' ∧ Agr H' H := by
  cases op with
  | bslice hh sz ag len z ps =>
    cases hh with
    | uq =>
      simp only [evalOp] at h
      cases hf : fillA (repZ z len) (ps.map fun p => (p.1 * sz, sz, p.2.ev e)) with
      | none => simp [hf] at h
      | some cs =>
        simp only [hf, Option.bind_some] at h
        split at h
        · exact fresh_uq h
        · cases h
    | lit => simp [AOp.cls, Hold.isLit, Hold.isOwn] at hc
    | own => simp [AOp.cls, Hold.isLit, Hold.isOwn] at hc
  | s2b hh x =>
    cases hh with
    | uq =>
      simp only [evalOp] at h
      split at h
      · exact fresh_uq h
      · cases h
    | lit => simp [AOp.cls, Hold.isLit, Hold.isOwn] at hc
    | own => simp [AOp.cls, Hold.isLit, Hold.isOwn] at hc
  | mkslice hh sz ag z b l c =>
    cases hh with
    | uq =>
      simp only [evalOp] at h
      cases hl : asInt (l.ev e) with
      | none => simp [hl] at h
      | some l =>
        cases hcc : asInt (c.ev e) with
        | none => simp [hl, hcc] at h
        | some c =>
          simp only [hl, hcc, Option.bind_some] at h
          split at h
          · exact fresh_uq h
          · cases h
    | lit => simp [AOp.cls, Hold.isLit, Hold.isOwn] at hc
    | own => simp [AOp.cls, Hold.isLit, Hold.isOwn] at hc
  | append o hh sz ag b s x =>
    cases o with
    | true => simp [AOp.cls] at hc
    | false =>
      simp only [evalOp, appendA, Bool.false_eq_true, if_false] at h
      split at h
      · split at h
        · rename_i hid
          simp only [Option.bind_eq_some_iff] at h
          obtain ⟨ys, h1, h2⟩ := h
          split at h2
          · simp only [Option.some.injEq, Prod.mk.injEq] at h2
            obtain ⟨_, rfl⟩ := h2
            exact Agr.set_tok hid _ _ _
          · cases h2
        · cases h
      · simp only [Option.bind_eq_some_iff] at h
        obtain ⟨ys, h1, h2⟩ := h
        split at h2
        · unfold nilApp at h2
          split at h2
          · simp only [Option.some.injEq, Prod.mk.injEq] at h2
            obtain ⟨_, rfl⟩ := h2
            exact ⟨Agr.refl _, Agr.refl _⟩
          · split at h2
            · simp only [Option.some.injEq, Prod.mk.injEq] at h2
              obtain ⟨_, rfl⟩ := h2
              exact ⟨Agr.refl _, Agr.refl _⟩
            · simp only [Option.some.injEq, Prod.mk.injEq] at h2
              obtain ⟨_, rfl⟩ := h2
              exact ⟨Agr.push _ _, Agr.push_tok _ _ _ _⟩
            · cases h2
        · cases h2
      · cases h
  | _ => simp [AOp.cls] at hc

theorem cls3 {call : CallF} {e : Tr} {H H' : List AObj} {op : AOp} {v : AV} (hc : op.cls = 3) (h : evalOp call e H op = some (v, H')) : Agr H H' := by
  cases op with
  | alloc z => simp only [evalOp, Option.some.injEq, Prod.mk.injEq] at h; obtain ⟨_, rfl⟩ := h; exact Agr.push _ _
  | box n x =>
    simp only [evalOp] at h
    split at h
    · simp only [Option.some.injEq, Prod.mk.injEq] at h; obtain ⟨_, rfl⟩ := h; exact Agr.push _ _
    · cases h
  | bslice hh sz ag len z ps =>
    cases hh with
    | own =>
      simp only [evalOp] at h
      cases hf : fillA (repZ z len) (ps.map fun p => (p.1 * sz, sz, p.2.ev e)) with
      | none => simp [hf] at h
      | some cs =>
        simp only [hf, Option.bind_some] at h
        split at h
        · exact fresh_own h
        · cases h
    | lit => simp [AOp.cls, Hold.isLit, Hold.isOwn] at hc
    | uq => simp [AOp.cls, Hold.isLit, Hold.isOwn] at hc
  | s2b hh x =>
    cases hh with
    | own =>
      simp only [evalOp] at h
      split at h
      · exact fresh_own h
      · cases h
    | lit => simp [AOp.cls, Hold.isLit, Hold.isOwn] at hc
    | uq => simp [AOp.cls, Hold.isLit, Hold.isOwn] at hc
  | mkslice hh sz ag z b l c =>
    cases hh with
    | own =>
      simp only [evalOp] at h
      cases hl : asInt (l.ev e) with
      | none => simp [hl] at h
      | some l =>
        cases hcc : asInt (c.ev e) with
        | none => simp [hl, hcc] at h
        | some c =>
          simp only [hl, hcc, Option.bind_some] at h
          split at h
          · exact fresh_own h
          · cases h
    | lit => simp [AOp.cls, Hold.isLit, Hold.isOwn] at hc
    | uq => simp [AOp.cls, Hold.isLit, Hold.isOwn] at hc
  | append o hh _ _ _ _ _ => cases o <;> cases hh <;> simp [AOp.cls, Hold.isOwn] at hc
  | _ => simp [AOp.cls] at hc

/-- May the second operation be done before the first? -/
def calmC (x y : Nat) : Bool := x == 0 || y == 0 || (x == 1 && decide (y ≤ 3)) || (x == 2 && y == 1)

def AOper.cls (o : AOper) : Nat := if o.pr then 0 else o.op.cls

theorem evalG_congr {call : CallF} {e e' : Tr} {H : List AObj} {o : AOper} (h : EqOn (fun n => o.op.look n) e e') : evalG call e H o = evalG call e' H o := by
  unfold evalG
  rw [evalOp_congr h, evalOp_congr (H := H) h]

theorem onH_some {H : List AObj} {r : Option (AV × List AObj)} {v : AV} {H' : List AObj} (h : onH H r = some (v, H')) : r = some (v, []) ∧ H' = H := by
  unfold onH at h
  split at h
  · simp only [Option.some.injEq, Prod.mk.injEq] at h
    obtain ⟨rfl, rfl⟩ := h
    exact ⟨rfl, rfl⟩
  · cases h

theorem cls0G {call : CallF} {e : Tr} {H H' : List AObj} {o : AOper} {v : AV} (hc : o.cls = 0) (h : evalG call e H o = some (v, H')) : H' = H ∧ ∀ H2, evalG call e H2 o = some (v, H2) := by
  unfold evalG AOper.cls at *
  cases hp : o.pr with
  | true =>
    simp only [hp, cond_true] at h ⊢
    obtain ⟨h1, rfl⟩ := onH_some h
    exact ⟨rfl, fun H2 => by rw [h1]; rfl⟩
  | false => simp only [hp, cond_false, Bool.false_eq_true, if_false] at h hc ⊢; exact cls0 hc h

theorem clsG {call : CallF} {e : Tr} {H : List AObj} {o : AOper} (hc : o.cls ≠ 0) : evalG call e H o = evalOp call e H o.op ∧ o.cls = o.op.cls := by
  unfold evalG AOper.cls at *
  cases hp : o.pr with
  | true => simp [hp] at hc
  | false => simp

theorem swap_ops {call : CallF} {e : Tr} {H H1 H2 : List AObj} {x y : AOper} {v1 v2 : AV} (hc : calmC x.cls y.cls = true)
    (h1 : evalG call e H x = some (v1, H1)) (h2 : evalG call e H1 y = some (v2, H2)) :
    ∃ H3, evalG call e H y = some (v2, H3) ∧ evalG call e H3 x = some (v1, H2) := by
  simp only [calmC, Bool.or_eq_true, beq_iff_eq, Bool.and_eq_true, decide_eq_true_eq] at hc
  rcases hc with ((hx | hy) | ⟨hx, hy⟩) | ⟨hx, hy⟩
  · obtain ⟨rfl, h⟩ := cls0G hx h1
    exact ⟨H2, h2, h H2⟩
  · obtain ⟨rfl, h⟩ := cls0G hy h2
    exact ⟨H, h H, h1⟩
  · have kx := fun H => clsG (call := call) (e := e) (H := H) (o := x) (by omega)
    rw [(kx H).1] at h1
    rw [(kx H).2] at hx
    obtain ⟨rfl, h⟩ := cls1 hx h1
    refine ⟨H2, h2, ?_⟩
    rw [(kx H2).1]
    refine h H2 ?_
    by_cases hy0 : y.cls = 0
    · rw [(cls0G hy0 h2).1]; exact Agr.refl _
    · have ky := clsG (call := call) (e := e) (H := H1) hy0
      rw [ky.1] at h2
      rw [ky.2] at hy hy0
      have : y.op.cls = 1 ∨ y.op.cls = 2 ∨ y.op.cls = 3 := by omega
      rcases this with hy | hy | hy
      · rw [(cls1 hy h2).1]; exact Agr.refl _
      · exact (cls2 hy h2).1
      · exact cls3 hy h2
  · have kx := fun H => clsG (call := call) (e := e) (H := H) (o := x) (by omega)
    have ky := fun H => clsG (call := call) (e := e) (H := H) (o := y) (by omega)
    rw [(kx H).1] at h1
    rw [(kx H).2] at hx
    rw [(ky H1).1] at h2
    rw [(ky H).2] at hy
    obtain ⟨rfl, h⟩ := cls1 hy h2
    exact ⟨H, by rw [(ky H).1]; exact h H (cls2 hx h1).2, by rw [(kx H).1]; exact h1⟩

end Go.AM
