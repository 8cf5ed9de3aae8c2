/- The abstract machine, part 19: what is held as an object read as a pure value; cleaning; the steps that only change how things are held. -/
import Derived.Test.YtlibmcabpcehcaaAm18
set_option linter.unusedSimpArgs false
set_option linter.unusedVariables false
namespace Go.AM
open Go.RowKit

section
variable {P : Program} {fo : Nat → FuncId} {B0 : Base}

/-- All that can be read in a world. -/
def Rw (w : World) : Rd := fun b o => w.cell? ⟨b, o, none⟩

theorem mapO_spec {α β : Type} {f : α → Option β} : ∀ {l : List α} {r : List β}, mapO f l = some r → r.length = l.length ∧ ∀ (i : Nat) (x : α), l[i]? = some x → ∃ y, r[i]? = some y ∧ f x = some y := by
  intro l
  induction l with
  | nil => intro r h; simp [mapO] at h; subst h; exact ⟨rfl, fun i x h => by simp at h⟩
  | cons a l ih =>
    intro r h
    simp only [mapO, Option.bind_eq_some_iff, Option.some.injEq] at h
    obtain ⟨b, h1, bs, h2, rfl⟩ := h
    obtain ⟨k1, k2⟩ := ih h2
    refine ⟨by simp [k1], fun i x hx => ?_⟩
    cases i with
    | zero => simp at hx; subst hx; exact ⟨b, rfl, h1⟩
    | succ i => simpa using k2 i x (by simpa using hx)

theorem toPV_one {H : List AObj} {d : Nat} {v : AV} {p : PV} (h1 : v.one = true) (h : toPV H d v = some p) : pone p = true := by
  cases v with
  | pv q => simp [toPV] at h; subst h; exact h1
  | uq id nl sz es => simp [toPV] at h; subst h; cases nl <;> rfl
  | ptr id off =>
    cases d with
    | zero => simp [toPV] at h
    | succ d =>
      simp only [toPV] at h
      split at h
      · simp only [Option.map_eq_some_iff] at h; obtain ⟨ps, _, rfl⟩ := h; rfl
      · cases h
  | own id len =>
    cases d with
    | zero => simp [toPV] at h
    | succ d =>
      simp only [toPV] at h
      split at h
      · split at h
        · rename_i nl _ _
          cases nl with
          | true => simp at h; subst h; rfl
          | false => simp only [Bool.false_eq_true, if_false, Option.map_eq_some_iff] at h; obtain ⟨ps, _, rfl⟩ := h; rfl
        · cases h
      · cases h
  | eptr => cases d <;> simp [toPV] at h
  | clo => cases d <;> simp [toPV] at h
  | mp => cases d <;> simp [toPV] at h
  | undef => cases d <;> simp [toPV] at h
  | agg => simp [AV.one] at h1
  | tup => simp [AV.one] at h1

theorem toPVs_one {H : List AObj} {d : Nat} {cs : List AV} {ps : List PV} (h1 : cs.all AV.one = true) (h : mapO (toPV H d) cs = some ps) : ∀ p ∈ ps, pone p = true := by
  obtain ⟨k1, k2⟩ := mapO_spec h
  intro p hp
  obtain ⟨i, hi⟩ := List.mem_iff_getElem?.1 hp
  have hlt := getElem?_lt hi
  have hx : cs[i]? = some (cs[i]'(by omega)) := List.getElem?_eq_getElem _
  obtain ⟨y, hy1, hy2⟩ := k2 i _ hx
  rw [hi] at hy1; injection hy1 with hy1; subst hy1
  exact toPV_one (List.all_eq_true.1 h1 _ (List.getElem_mem _)) hy2

/-- What is held as an object, read as a pure value. -/
theorem toPV_sim {w : World} {R Q : Rd} {φ : Pl} {H : List AObj} (hS : SRel fo B0 w R φ H) (hsub : Sub R Q) (hQ : ∀ b o v, B0.n ≤ b → w.cell? ⟨b, o, none⟩ = some v → Q b o = some v) : ∀ (d : Nat) {v : AV} {u : Value} {p : PV}, ARel fo (K R φ H) v u → toPV H d v = some p → PRel Q p u := by
  intro d
  induction d with
  | zero =>
    intro v u p hv h
    cases v with
    | pv q => simp [toPV] at h; subst h; exact hv.pv_inv.mono hsub
    | uq id nl sz es =>
      simp [toPV] at h
      have h1 := hv.uq_inv
      cases nl with
      | true => simp at h; subst h; rw [(h1.2.1 rfl).1]; exact .nils
      | false => simp at h; subst h; exact (h1.2.2.1 rfl).mono hsub
    | _ => simp [toPV] at h
  | succ d ih =>
    have many : ∀ {cs : List AV} {ps : List PV} {vs : List Value}, ALRel fo (K R φ H) cs vs → mapO (toPV H d) cs = some ps → LRel Q ps vs := by
      intro cs
      induction cs with
      | nil => intro ps vs hl h; simp [mapO] at h; subst h; cases hl; exact .nil
      | cons c cs ihc =>
        intro ps vs hl h
        simp only [mapO, Option.bind_eq_some_iff, Option.some.injEq] at h
        obtain ⟨b, h1, bs, h2, rfl⟩ := h
        cases hl with
        | cons _ _ v vs hc hcs => exact .cons _ _ _ _ (ih hc h1) (ihc hcs h2)
    intro v u p hv h
    cases v with
    | pv q => simp [toPV] at h; subst h; exact hv.pv_inv.mono hsub
    | uq id nl sz es =>
      simp [toPV] at h
      have h1 := hv.uq_inv
      cases nl with
      | true => simp at h; subst h; rw [(h1.2.1 rfl).1]; exact .nils
      | false => simp at h; subst h; exact (h1.2.2.1 rfl).mono hsub
    | own id len =>
      simp only [toPV] at h
      split at h
      · rename_i sz ag cells fl nl hid
        split at h
        · rename_i hc
          obtain ⟨hlen, hag⟩ := hc
          have h1 := hv.own_inv
          obtain ⟨k0, k⟩ := h1.2.2 _ _ _ _ _ hid
          obtain ⟨o0, o1, o2, oone, o3⟩ := hS.obj _ _ hid
          obtain ⟨k1, k2⟩ := k (by omega)
          cases nl with
          | true => simp at h; subst h; rw [k1 rfl]; exact .nils
          | false =>
            simp only [Bool.false_eq_true, if_false, Option.map_eq_some_iff] at h
            obtain ⟨ps, hps, rfl⟩ := h
            obtain ⟨hbase, _, arr, hB, hsz, hle, hrel⟩ := o3 rfl
            rcases k2 rfl with ⟨q1, q2, _⟩ | ⟨b, o, cap, rfl, q2, _⟩
            · subst q1; exact absurd (List.eq_nil_of_length_eq_zero (by omega)) q2
            · obtain ⟨rfl, rfl, rfl⟩ := q2 hlen
              have hl := many hrel hps
              have hone := toPVs_one oone hps
              have hplen : ps.length = len * sz := by rw [(mapO_spec hps).1, hlen]
              obtain ⟨c1, c2, c3⟩ := chunk_spec sz ag (fun e => by subst e; simpa using hag) len ps hplen hone
              have := PRel.lit (R := Q) sz (chunk sz ag len ps) (φ id).1 0 (φ id).2 (by
                rw [c3]
                have : len * sz ≤ (φ id).2 * sz := by rw [← hsz]; omega
                exact Nat.le_of_mul_le_mul_right this o0) c2 (by
                rw [c1]
                refine RRel.of_list hl (one_all hrel oone) fun i v hv => ?_
                have hlt := getElem?_lt hv
                rw [List.getElem?_take] at hv
                split at hv
                · refine hQ _ _ _ hbase ?_
                  rw [hB.cell, Nat.zero_add]; simpa using hv
                · cases hv)
              rw [c3] at this
              exact this
        · cases h
      · cases h
    | ptr id off =>
      simp only [toPV] at h
      split at h
      · rename_i cells hid
        simp only [Option.map_eq_some_iff] at h
        obtain ⟨ps, hps, rfl⟩ := h
        obtain ⟨hbase, _, oone, arr, hB, hrel⟩ := hS.obj _ _ hid
        rw [hv.ptr_inv.2.2 _ hid]
        have := PRel.rp (R := Q) ps off (φ id).1 0 (RRel.of_list (many hrel hps) (one_all hrel oone) fun i v hv => by
          refine hQ _ _ _ hbase ?_
          rw [hB.cell, Nat.zero_add]; simpa using hv)
        rw [Nat.zero_add] at this
        exact this
      · cases h
    | agg cs =>
      simp only [toPV, Option.map_eq_some_iff] at h
      obtain ⟨ps, hps, rfl⟩ := h
      cases hv with
      | atom _ _ h => exact h.elim
      | agg _ vs hl => exact .agg _ _ (many hl hps)
    | tup cs =>
      simp only [toPV, Option.map_eq_some_iff] at h
      obtain ⟨ps, hps, rfl⟩ := h
      cases hv with
      | atom _ _ h => exact h.elim
      | tup _ vs hl => exact .tup _ _ (many hl hps)
    | eptr => simp [toPV] at h
    | clo => simp [toPV] at h
    | mp => simp [toPV] at h
    | undef => simp [toPV] at h

/-- .. and what is held without an object is so at once. -/
theorem toPV_free {w : World} {R : Rd} {φ : Pl} {H : List AObj} {d : Nat} {v : AV} {u : Value} {p : PV} (hf : v.free = true) (hv : ARel fo (K R φ H) v u) (h : toPV H d v = some p) : PRel R p u := by
  cases v with
  | pv q => simp [toPV] at h; subst h; exact hv.pv_inv
  | uq id nl sz es =>
    simp [toPV] at h
    have h1 := hv.uq_inv
    cases nl with
    | true => simp at h; subst h; rw [(h1.2.1 rfl).1]; exact .nils
    | false => simp at h; subst h; exact h1.2.2.1 rfl
  | _ => simp [AV.free] at hf

theorem toPVs_sim {w : World} {R : Rd} {φ : Pl} {H : List AObj} (hS : SRel fo B0 w R φ H) {d : Nat} : ∀ {vs : List AV} {us : List Value} {ps : List PV}, ALRel fo (K R φ H) vs us → mapO (toPV H d) vs = some ps → LRel (Rw w) ps us := by
  intro vs
  induction vs with
  | nil => intro us ps hl h; simp [mapO] at h; subst h; cases hl; exact .nil
  | cons c cs ihc =>
    intro us ps hl h
    simp only [mapO, Option.bind_eq_some_iff, Option.some.injEq] at h
    obtain ⟨b, h1, bs, h2, rfl⟩ := h
    cases hl with
    | cons _ _ v vs hc hcs => exact .cons _ _ _ _ (toPV_sim hS (fun b o v h => hS.sub b o v h) (fun _ _ _ _ h => h) d hc h1) (ihc hcs h2)

theorem toPVs_free {w : World} {R : Rd} {φ : Pl} {H : List AObj} {d : Nat} : ∀ {vs : List AV} {us : List Value} {ps : List PV}, vs.all AV.free = true → ALRel fo (K R φ H) vs us → mapO (toPV H d) vs = some ps → LRel R ps us := by
  intro vs
  induction vs with
  | nil => intro us ps _ hl h; simp [mapO] at h; subst h; cases hl; exact .nil
  | cons c cs ihc =>
    intro us ps hf hl h
    simp only [mapO, Option.bind_eq_some_iff, Option.some.injEq] at h
    obtain ⟨b, h1, bs, h2, rfl⟩ := h
    simp only [List.all_cons, Bool.and_eq_true] at hf
    cases hl with
    | cons _ _ v vs hc hcs => exact .cons _ _ _ _ (toPV_free (w := w) hf.1 hc h1) (ihc hf.2 hcs h2)

mutual
theorem flat_rel {R R' : Rd} : ∀ {p : PV} {v : Value}, flatV p = true → PRel R p v → PRel R' p v
  | _, _, _, .int _ _ => .int _ _
  | _, _, _, .bool _ => .bool _
  | _, _, _, .str _ => .str _
  | _, _, _, .nilp => .nilp
  | _, _, _, .nils => .nils
  | _, _, _, .nilm => .nilm
  | _, _, _, .nilf => .nilf
  | _, _, _, .nili => .nili
  | _, _, hf, .rp _ _ _ _ h => by simp [flatV] at hf
  | _, _, hf, .lit _ _ _ _ _ h1 h2 h3 => by simp [flatV] at hf
  | _, _, hf, .lit0 _ _ => by simp [flatV] at hf
  | _, _, hf, .agg _ _ h => .agg _ _ (flat_rels (by simpa [flatV] using hf) h)
  | _, _, hf, .tup _ _ h => .tup _ _ (flat_rels (by simpa [flatV] using hf) h)
  | _, _, hf, .iface _ _ _ h => by simp [flatV] at hf
theorem flat_rels {R R' : Rd} : ∀ {p : List PV} {v : List Value}, flatVs p = true → LRel R p v → LRel R' p v
  | _, _, _, .nil => .nil
  | _, _, hf, .cons _ _ _ _ h1 h2 => by
    simp only [flatVs, Bool.and_eq_true] at hf
    exact .cons _ _ _ _ (flat_rel hf.1 h1) (flat_rels hf.2 h2)
end

/-! ## cleaning -/

/-- What an older heap's atoms are worth in the cleaned one. -/
structure Cleaned (n : Nat) (H H2 : List AObj) : Prop where
  obj : ∀ (id : Nat) (o2 : AObj), H2[id]? = some o2 → id < n ∧ ∃ o, H[id]? = some o ∧ cutObj n o = some o2
  len : ∀ id, id < n → id < H.length → id < H2.length

theorem cleaned_of {n : Nat} {H H2 : List AObj} (h : mapO (cutObj n) (H.take n) = some H2) : Cleaned n H H2 := by
  obtain ⟨h1, h2⟩ := mapO_spec h
  rw [List.length_take] at h1
  refine ⟨fun id o2 ho => ?_, fun id hn hl => by rw [h1]; omega⟩
  have hlt := getElem?_lt ho
  have hid : id < n ∧ id < H.length := by rw [h1] at hlt; omega
  have hx : (H.take n)[id]? = some (H[id]'hid.2) := by rw [List.getElem?_take, if_pos hid.1]; exact List.getElem?_eq_getElem _
  obtain ⟨y, hy1, hy2⟩ := h2 id _ hx
  rw [ho] at hy1; injection hy1 with hy1; subst hy1
  exact ⟨hid.1, _, List.getElem?_eq_getElem _, hy2⟩

def AV.idOf : AV → Option Nat
  | .ptr id _ | .eptr id _ _ | .uq id _ _ _ | .own id _ | .mp id => some id
  | _ => none

theorem K.clean {n : Nat} {R : Rd} {φ : Pl} {H H2 : List AObj} (hc : Cleaned n H H2) {x : AV} {u : Value} (hx : ∀ id, x.idOf = some id → id < n) (h : K R φ H x u) : K R φ H2 x u := by
  have box : ∀ {id : Nat} {c : List AV}, H2[id]? = some (.box c) → ∃ c', H[id]? = some (.box c') := by
    intro id c hb
    obtain ⟨_, o, ho, hcut⟩ := hc.obj _ _ hb
    cases o with
    | box c' => exact ⟨c', ho⟩
    | seq => simp only [cutObj] at hcut; split at hcut <;> cases hcut
    | tok => cases hcut
    | map es => simp [cutObj] at hcut
    | dead => cases hcut
  have seq : ∀ {id : Nat} {sz : Nat} {ag : Bool} {c : List AV} {fl : Nat} {nl : Bool}, H2[id]? = some (.seq sz ag c fl nl) → H[id]? = some (.seq sz ag c fl nl) := by
    intro id sz ag c fl nl hb
    obtain ⟨_, o, ho, hcut⟩ := hc.obj _ _ hb
    cases o with
    | box c' => simp [cutObj] at hcut
    | seq =>
      simp only [cutObj] at hcut
      split at hcut
      · injection hcut with hcut; rw [ho, hcut]
      · cases hcut
    | tok => cases hcut
    | map es => simp [cutObj] at hcut
    | dead => cases hcut
  have tok : ∀ {id : Nat} {sz m : Nat} {nl : Bool}, H2[id]? = some (.tok sz m nl) → H[id]? = some (.tok sz m nl) := by
    intro id sz m nl hb
    obtain ⟨_, o, ho, hcut⟩ := hc.obj _ _ hb
    cases o with
    | box c' => simp [cutObj] at hcut
    | seq =>
      simp only [cutObj] at hcut
      split at hcut
      · cases hcut
      · cases hcut
    | tok => injection hcut with hcut; rw [ho, hcut]
    | map es => simp [cutObj] at hcut
    | dead => cases hcut
  have map : ∀ {id : Nat} {es : List (PV × AV)}, H2[id]? = some (.map es) → ∃ es', H[id]? = some (.map es') := by
    intro id c hb
    obtain ⟨_, o, ho, hcut⟩ := hc.obj _ _ hb
    cases o with
    | box c' => simp [cutObj] at hcut
    | seq => simp only [cutObj] at hcut; split at hcut <;> cases hcut
    | tok => cases hcut
    | map es => exact ⟨es, ho⟩
    | dead => cases hcut
  cases x with
  | pv p => exact h
  | ptr id off => exact ⟨hc.len _ (hx _ rfl) h.1, h.2.1, fun c hb => by obtain ⟨c', hb'⟩ := box hb; exact h.2.2 _ hb'⟩
  | eptr id m off => exact ⟨hc.len _ (hx _ rfl) h.1, h.2.1, fun sz ag c fl nl hb => h.2.2 sz ag c fl nl (seq hb)⟩
  | uq id nl sz es => exact ⟨hc.len _ (hx _ rfl) h.1, h.2.1, h.2.2.1, fun sz' m nl' hb => h.2.2.2 sz' m nl' (tok hb)⟩
  | own id len => exact ⟨hc.len _ (hx _ rfl) h.1, h.2.1, fun sz ag c fl nl hb => h.2.2 sz ag c fl nl (seq hb)⟩
  | mp id => exact ⟨hc.len _ (hx _ rfl) h.1, h.2.1, fun es hb => by obtain ⟨c', hb'⟩ := map hb; exact h.2.2 _ hb'⟩
  | clo ix cs => exact h.elim
  | agg cs => exact h.elim
  | tup cs => exact h.elim
  | undef => exact h.elim

theorem cut_rel {n : Nat} {R : Rd} {φ : Pl} {H H2 : List AObj} (hc : Cleaned n H H2) : ∀ (d : Nat) {v v' : AV} {u : Value}, AV.cut n d v = some v' → ARel fo (K R φ H) v u → ARel fo (K R φ H2) v' u := by
  have base : ∀ {d : Nat} {v v' : AV} {u : Value}, (∀ ix cs, v ≠ .clo ix cs) → (∀ cs, v ≠ .agg cs) → (∀ cs, v ≠ .tup cs) → AV.cut n d v = some v' → ARel fo (K R φ H) v u → ARel fo (K R φ H2) v' u := by
    intro d v v' u n1 n2 n3 h hv
    cases v with
    | pv p => simp only [AV.cut, Option.some.injEq] at h; subst h; exact .atom _ _ hv.pv_inv
    | ptr id off =>
      simp only [AV.cut] at h
      split at h
      · rename_i hlt; injection h with h; subst h; exact .atom _ _ (K.clean hc (fun _ e => by injection e with e; omega) hv.ptr_inv)
      · cases h
    | eptr id m off =>
      simp only [AV.cut] at h
      split at h
      · rename_i hlt; injection h with h; subst h
        cases hv with | atom _ _ hv => exact .atom _ _ (K.clean hc (fun _ e => by injection e with e; omega) hv)
      · cases h
    | uq id nl sz es =>
      simp only [AV.cut] at h
      split at h
      · rename_i hlt; injection h with h; subst h; exact .atom _ _ (K.clean hc (fun _ e => by injection e with e; omega) hv.uq_inv)
      · injection h with h
        subst h
        have h1 := hv.uq_inv
        cases nl with
        | true => simp only [if_true]; rw [(h1.2.1 rfl).1]; exact .atom _ _ (show PRel R _ _ from .nils)
        | false => exact .atom _ _ (show PRel R _ _ from h1.2.2.1 rfl)
    | own id len =>
      simp only [AV.cut] at h
      split at h
      · rename_i hlt; injection h with h; subst h; exact .atom _ _ (K.clean hc (fun _ e => by injection e with e; omega) hv.own_inv)
      · cases h
    | mp id =>
      simp only [AV.cut] at h
      split at h
      · rename_i hlt; injection h with h; subst h
        cases hv with | atom _ _ hv => exact .atom _ _ (K.clean hc (fun _ e => by injection e with e; omega) hv)
      · cases h
    | undef => simp only [AV.cut, Option.some.injEq] at h; subst h; exact .undef _
    | clo ix cs => exact absurd rfl (n1 ix cs)
    | agg cs => exact absurd rfl (n2 cs)
    | tup cs => exact absurd rfl (n3 cs)
  intro d
  induction d with
  | zero =>
    intro v v' u h hv
    cases v with
    | clo ix cs => simp [AV.cut] at h
    | agg cs => simp [AV.cut] at h
    | tup cs => simp [AV.cut] at h
    | _ => exact base (by intros; simp) (by intros; simp) (by intros; simp) h hv
  | succ d ih =>
    have many : ∀ {cs cs' : List AV} {vs : List Value}, ALRel fo (K R φ H) cs vs → mapO (AV.cut n d) cs = some cs' → ALRel fo (K R φ H2) cs' vs := by
      intro cs
      induction cs with
      | nil => intro ps vs hl h; simp [mapO] at h; subst h; cases hl; exact .nil
      | cons c cs ihc =>
        intro ps vs hl h
        simp only [mapO, Option.bind_eq_some_iff, Option.some.injEq] at h
        obtain ⟨b, h1, bs, h2, rfl⟩ := h
        cases hl with
        | cons _ _ v vs hc hcs => exact .cons _ _ _ _ (ih h1 hc) (ihc hcs h2)
    intro v v' u h hv
    cases v with
    | clo ix cs =>
      simp only [AV.cut, Option.map_eq_some_iff] at h
      obtain ⟨cs', h1, rfl⟩ := h
      cases hv with
      | atom _ _ h => exact h.elim
      | clo _ _ vs hl => exact .clo _ _ _ (many hl h1)
    | agg cs =>
      simp only [AV.cut, Option.map_eq_some_iff] at h
      obtain ⟨cs', h1, rfl⟩ := h
      cases hv with
      | atom _ _ h => exact h.elim
      | agg _ vs hl => exact .agg _ _ (many hl h1)
    | tup cs =>
      simp only [AV.cut, Option.map_eq_some_iff] at h
      obtain ⟨cs', h1, rfl⟩ := h
      cases hv with
      | atom _ _ h => exact h.elim
      | tup _ vs hl => exact .tup _ _ (many hl h1)
    | _ => exact base (by intros; simp) (by intros; simp) (by intros; simp) h hv

theorem cuts_rel {n : Nat} {R : Rd} {φ : Pl} {H H2 : List AObj} (hc : Cleaned n H H2) {d : Nat} {cs cs' : List AV} {vs : List Value} (hl : ALRel fo (K R φ H) cs vs) (h : mapO (AV.cut n d) cs = some cs') : ALRel fo (K R φ H2) cs' vs := by
  induction cs generalizing cs' vs with
  | nil => simp [mapO] at h; subst h; cases hl; exact .nil
  | cons c cs ihc =>
    simp only [mapO, Option.bind_eq_some_iff, Option.some.injEq] at h
    obtain ⟨b, h1, bs, h2, rfl⟩ := h
    cases hl with
    | cons _ _ v vs hcc hcs => exact .cons _ _ _ _ (cut_rel hc d h1 hcc) (ihc hcs h2)

theorem keep_cut {n : Nat} : ∀ (d : Nat) {v : AV}, AV.keep n d v = true → AV.cut n d v = some v := by
  intro d
  induction d with
  | zero => intro v h; cases v <;> simp_all [AV.keep, AV.cut]
  | succ d ih =>
    have many : ∀ {cs : List AV}, cs.all (AV.keep n d) = true → mapO (AV.cut n d) cs = some cs := by
      intro cs
      induction cs with
      | nil => intro _; rfl
      | cons c cs ihc => intro h; simp only [List.all_cons, Bool.and_eq_true] at h; simp [mapO, ih h.1, ihc h.2]
    intro v h
    cases v with
    | clo ix cs => simp only [AV.keep] at h; simp [AV.cut, many h]
    | agg cs => simp only [AV.keep] at h; simp [AV.cut, many h]
    | tup cs => simp only [AV.keep] at h; simp [AV.cut, many h]
    | _ => simp_all [AV.keep, AV.cut]

theorem keeps_cut {n d : Nat} {cs : List AV} (h : cs.all (AV.keep n d) = true) : mapO (AV.cut n d) cs = some cs := by
  induction cs with
  | nil => rfl
  | cons c cs ihc => simp only [List.all_cons, Bool.and_eq_true] at h; simp [mapO, keep_cut d h.1, ihc h.2]

theorem cut_one {n d : Nat} {v v' : AV} (h : AV.cut n d v = some v') (h1 : v.one = true) : v'.one = true := by
  cases v with
  | uq id nl sz es =>
    simp only [AV.cut] at h
    split at h
    · injection h with h; subst h; rfl
    · injection h with h; subst h; cases nl <;> rfl
  | clo ix cs =>
    cases d with
    | zero => simp [AV.cut] at h
    | succ d => simp only [AV.cut, Option.map_eq_some_iff] at h; obtain ⟨_, _, rfl⟩ := h; rfl
  | agg => simp [AV.one] at h1
  | tup => simp [AV.one] at h1
  | undef => simp [AV.one] at h1
  | pv p => simp only [AV.cut, Option.some.injEq] at h; subst h; exact h1
  | _ =>
    simp only [AV.cut] at h
    split at h
    · injection h with h; subst h; exact h1
    · cases h

theorem cuts_one {n d : Nat} {cs cs' : List AV} (h : mapO (AV.cut n d) cs = some cs') (h1 : cs.all AV.one = true) : cs'.all AV.one = true := by
  induction cs generalizing cs' with
  | nil => simp [mapO] at h; subst h; rfl
  | cons c cs ihc =>
    simp only [mapO, Option.bind_eq_some_iff, Option.some.injEq] at h
    obtain ⟨b, h2, bs, h3, rfl⟩ := h
    simp only [List.all_cons, Bool.and_eq_true] at h1 ⊢
    exact ⟨cut_one h2 h1.1, ihc h3 h1.2⟩

theorem SRel.clean {n : Nat} {w : World} {R : Rd} {φ : Pl} {H H2 : List AObj} (hc : Cleaned n H H2) (hS : SRel fo B0 w R φ H) : SRel fo B0 w R φ H2 := by
  have lv : ∀ {i}, live H2 i → live H i := by
    intro i ⟨o2, ho2, hl⟩
    obtain ⟨_, o, ho, hcut⟩ := hc.obj _ _ ho2
    refine ⟨o, ho, ?_⟩
    cases o with
    | box c => trivial
    | seq sz ag c fl nl =>
      simp only [cutObj] at hcut
      split at hcut
      · injection hcut with hcut; subst hcut; exact hl
      · cases hcut
    | tok sz m nl => injection hcut with hcut; subst hcut; exact hl
    | map es => trivial
    | dead => injection hcut with hcut; subst hcut; exact hl
  refine ⟨hS.low, hS.sub, fun id o2 ho2 => ?_, fun i j hi hj => hS.inj i j (lv hi) (lv hj), hS.old⟩
  obtain ⟨_, o, ho, hcut⟩ := hc.obj _ _ ho2
  have hO := hS.obj _ _ ho
  cases o with
  | box c =>
    simp only [cutObj, Option.map_eq_some_iff] at hcut
    obtain ⟨c', h1, rfl⟩ := hcut
    obtain ⟨h2, h3, h4, arr, h5, h6⟩ := hO
    exact ⟨h2, h3, cuts_one h1 h4, arr, h5, cuts_rel hc h6 h1⟩
  | seq sz ag c fl nl =>
    simp only [cutObj] at hcut
    split at hcut
    · rename_i hk
      injection hcut with hcut; subst hcut
      obtain ⟨h1, h2, h3, h4, h5⟩ := hO
      refine ⟨h1, h2, h3, h4, fun e => ?_⟩
      obtain ⟨k1, k2, arr, k3, k4, k5, k6⟩ := h5 e
      exact ⟨k1, k2, arr, k3, k4, k5, cuts_rel hc k6 (keeps_cut hk)⟩
    · cases hcut
  | tok sz m nl => injection hcut with hcut; subst hcut; exact hO
  | map es => exact hO.elim
  | dead => injection hcut with hcut; subst hcut; trivial

theorem cutEnv_rel {n : Nat} {R : Rd} {φ : Pl} {H H2 : List AObj} (hc : Cleaned n H H2) {e e' : Tr} {a : Act} (hE : ERel fo (K R φ H) e a) : ∀ {l : List Nat}, cutEnv n e l = some e' → ERel fo (K R φ H2) e' a := by
  intro l
  induction l generalizing e' with
  | nil => intro h; simp only [cutEnv, Option.some.injEq] at h; subst h; intro t; exact .undef _
  | cons x l ih =>
    intro h
    simp only [cutEnv, Option.bind_eq_some_iff, Option.map_eq_some_iff] at h
    obtain ⟨v, h1, e1, h2, rfl⟩ := h
    intro t
    rw [Tr.get_set]
    split
    · rename_i ht; subst ht; exact cut_rel hc deep h1 (hE t)
    · exact ih h2 t

/-- Cleaning at a loop's head. -/
theorem clean_goes {w0 w : World} {R0 R : Rd} {φ0 φ : Pl} {H0 : List AObj} {a0 a : Act} {s s2 : St} {l : List Nat} (g : Goes fo B0 w0 R0 φ0 H0 a0 w R φ s a) (h : clean H0.length l s = some s2) : Goes fo B0 w0 R0 φ0 H0 a0 w R φ s2 a := by
  simp only [clean, Option.bind_eq_some_iff, Option.map_eq_some_iff] at h
  obtain ⟨e, h1, H2, h2, rfl⟩ := h
  have hc := cleaned_of h2
  refine ⟨g.rel.clean hc, cutEnv_rel hc g.env h1, fun x u hx => K.clean hc (fun id hid => ?_) (g.mono x u hx), g.below, g.size, g.defers⟩
  cases x with
  | ptr => injection hid with hid; subst hid; exact hx.1
  | eptr => injection hid with hid; subst hid; exact hx.1
  | uq => injection hid with hid; subst hid; exact hx.1
  | own => injection hid with hid; subst hid; exact hx.1
  | mp => injection hid with hid; subst hid; exact hx.1
  | _ => cases hid

end
end Go.AM
