/- The abstract machine, part 20: the steps that only change how things are held. -/
import Derived.Test.YtlibmcabpcehcaaAm19
set_option linter.unusedSimpArgs false
set_option linter.unusedVariables false
namespace Go.AM
open Go.RowKit

section
variable {P : Program} {fo : Nat → FuncId} {B0 : Base}

theorem env_set {k : AV → Value → Prop} {e : Tr} {a : Act} (h : ERel fo k e a) {t : Nat} {v : AV} (hv : ARel fo k v (a.tmps.getD t undef)) : ERel fo k (e.set t v) a := by
  intro j
  rw [Tr.get_set]
  split
  · rename_i e; subst e; exact hv
  · exact h j

theorem push_empty {w : World} {R : Rd} {φ : Pl} {H : List AObj} (hS : SRel fo B0 w R φ H) {o : AObj} (hl : ¬ liveO o) (hO : ∀ φ' H', ORel fo B0 w R φ' H' H.length o) : SRel fo B0 w R (upd φ H.length (0, 0)) (H ++ [o]) :=
  hS.push (Nat.le_refl _) (fun _ _ => rfl) (fun _ _ _ => rfl) hS.sub (fun a v => K.push o (0, 0) a v) (fun h => absurd h hl) (hO _ _)

theorem uq_new {w : World} {R : Rd} {φ : Pl} {H : List AObj} {sz : Nat} : K R φ (H ++ [.tok sz 0 true]) (.uq H.length true sz []) (.slice none 0 0) := by
  refine ⟨by simp, fun _ => ⟨rfl, rfl⟩, (fun e => by cases e), fun sz' n nl' h => ?_⟩
  simp at h
  obtain ⟨rfl, rfl, rfl⟩ := h
  exact ⟨by simp, fun _ => ⟨rfl, rfl, fun e => by cases e⟩⟩

theorem own_new {w : World} {R : Rd} {φ : Pl} {H : List AObj} {sz : Nat} {ag : Bool} : K R φ (H ++ [.seq sz ag [] 0 true]) (.own H.length 0) (.slice none 0 0) := by
  refine ⟨by simp, rfl, fun sz' ag' c fl nl h => ?_⟩
  simp at h
  obtain ⟨rfl, rfl, rfl, rfl, rfl⟩ := h
  exact ⟨by simp, fun _ => ⟨fun _ => rfl, fun e => by cases e⟩⟩

theorem box_put {w : World} {R : Rd} {φ : Pl} {H : List AObj} (hS : SRel fo B0 w R φ H) {id : Nat} {cells : List AV} (hid : H[id]? = some (.box cells)) {i : Nat} (hi : cells[i]? = some (.pv .nils)) {x : AV} (hx : K R φ H x (.slice none 0 0)) (h1 : x.one = true) :
    SRel fo B0 w R (upd φ id (φ id)) (H.set id (.box (cells.set i x))) ∧ ∀ a u, K R φ H a u → K R (upd φ id (φ id)) (H.set id (.box (cells.set i x))) a u := by
  have hk := fun a v => K.box_set (R := R) (φ := φ) (H := H) (c' := cells.set i x) hid a v
  refine ⟨hS.upd hid (Nat.le_refl _) (fun _ _ _ => rfl) (fun _ _ _ _ => rfl) hS.sub hk (fun _ => .inl ⟨trivial, rfl⟩) ?_, hk⟩
  obtain ⟨o1, o2, o3, arr, o4, o5⟩ := hS.obj _ _ hid
  refine ⟨by rw [upd_same]; exact o1, by rw [upd_same]; exact o2, ?_, arr, by rw [upd_same]; exact o4, ?_⟩
  · rw [List.all_eq_true] at o3 ⊢
    intro y hy
    rcases List.mem_or_eq_of_mem_set hy with hy | rfl
    · exact o3 y hy
    · exact h1
  · obtain ⟨u, hu, hr⟩ := o5.get hi
    have hr := hr.pv_inv
    cases hr
    have : arr.toList = arr.toList.set i (.slice none 0 0) := by
      apply List.ext_getElem?
      intro j
      by_cases e : i = j
      · subst e
        rw [List.getElem?_set_self (getElem?_lt hu)]; exact hu
      · rw [List.getElem?_set_ne e]
    rw [this]
    exact (o5.mono hk).set i (.atom _ _ (hk _ _ hx))

theorem ghost_sim {g : Ghost} {w : World} {R : Rd} {φ : Pl} {s s' : St} {a : Act} (hS : SRel fo B0 w R φ s.H) (hE : ERel fo (K R φ s.H) s.env a) (h : ghostA g s = some s') : ∃ R' φ', Goes fo B0 w R φ s.H a w R' φ' s' a := by
  obtain ⟨e, H⟩ := s
  cases g with
  | mkuq t sz =>
    simp only [ghostA] at h
    split at h
    · rename_i ht
      split at h
      · rename_i h0
        injection h with h; subst h
        have hk := fun a v => K.push (R := R) (φ := φ) (H := H) (.tok sz 0 true) (0, 0) a v
        have hv := hE t
        simp only [ht] at hv
        have hv := hv.pv_inv
        refine ⟨R, _, push_empty hS (by simp [liveO]) (fun φ' H' => ⟨h0, fun _ => rfl, fun e => by cases e⟩), env_set (hE.mono hk) ?_, hk, Below.refl _ _, rfl, rfl⟩
        generalize a.tmps.getD t undef = v at hv
        cases hv
        exact .atom _ _ (uq_new (w := w))
      · cases h
    · cases h
  | mkown t sz ag =>
    simp only [ghostA] at h
    split at h
    · rename_i ht
      split at h
      · rename_i h0
        injection h with h; subst h
        have hk := fun a v => K.push (R := R) (φ := φ) (H := H) (.seq sz ag [] 0 true) (0, 0) a v
        have hv := hE t
        simp only [ht] at hv
        have hv := hv.pv_inv
        refine ⟨R, _, push_empty hS (by simp [liveO]) (fun φ' H' => ⟨h0, Nat.le_refl _, fun _ => rfl, rfl, fun e => by cases e⟩), env_set (hE.mono hk) ?_, hk, Below.refl _ _, rfl, rfl⟩
        generalize a.tmps.getD t undef = v at hv
        cases hv
        exact .atom _ _ (own_new (w := w))
      · cases h
    · cases h
  | mkuqC t off sz =>
    simp only [ghostA] at h
    split at h
    · rename_i id o ht
      split at h
      · rename_i cells hid
        split at h
        · rename_i hc
          split at h
          · rename_i h0
            injection h with h; subst h
            have hlt := getElem?_lt hid
            have hk := fun a v => K.push (R := R) (φ := φ) (H := H) (.tok sz 0 true) (0, 0) a v
            have hS1 := push_empty hS (o := .tok sz 0 true) (by simp [liveO]) (fun φ' H' => ⟨h0, fun _ => rfl, fun e => by cases e⟩)
            obtain ⟨hS2, hk2⟩ := box_put hS1 (by rw [getElem?_push hlt]; exact hid) hc (uq_new (w := w)) rfl
            have e : H.set id (.box (cells.set (o + off) (.uq H.length true sz []))) ++ [AObj.tok sz 0 true] = (H ++ [AObj.tok sz 0 true]).set id (.box (cells.set (o + off) (.uq H.length true sz []))) := by
              rw [List.set_append_left _ _ hlt]
            simp only [e]
            exact ⟨R, _, hS2, hE.mono fun a v h => hk2 a v (hk a v h), fun x u h => hk2 x u (hk x u h), Below.refl _ _, rfl, rfl⟩
          · cases h
        · cases h
      · cases h
    · cases h
  | mkownC t off sz ag =>
    simp only [ghostA] at h
    split at h
    · rename_i id o ht
      split at h
      · rename_i cells hid
        split at h
        · rename_i hc
          split at h
          · rename_i h0
            injection h with h; subst h
            have hlt := getElem?_lt hid
            have hk := fun a v => K.push (R := R) (φ := φ) (H := H) (.seq sz ag [] 0 true) (0, 0) a v
            have hS1 := push_empty hS (o := .seq sz ag [] 0 true) (by simp [liveO]) (fun φ' H' => ⟨h0, Nat.le_refl _, fun _ => rfl, rfl, fun e => by cases e⟩)
            obtain ⟨hS2, hk2⟩ := box_put hS1 (by rw [getElem?_push hlt]; exact hid) hc (own_new (w := w)) rfl
            have e : H.set id (.box (cells.set (o + off) (.own H.length 0))) ++ [AObj.seq sz ag [] 0 true] = (H ++ [AObj.seq sz ag [] 0 true]).set id (.box (cells.set (o + off) (.own H.length 0))) := by
              rw [List.set_append_left _ _ hlt]
            simp only [e]
            exact ⟨R, _, hS2, hE.mono fun a v h => hk2 a v (hk a v h), fun x u h => hk2 x u (hk x u h), Below.refl _ _, rfl, rfl⟩
          · cases h
        · cases h
      · cases h
    · cases h
  | freeze t =>
    simp only [ghostA] at h
    split at h
    · rename_i id len ht
      split at h
      · rename_i sz ag cells fl nl hid
        split at h
        · rename_i hc
          obtain ⟨hlen, hag⟩ := hc
          have hid0 := hid
          have hv := hE t
          simp only [ht] at hv
          have h1 := hv.own_inv
          obtain ⟨k0, k⟩ := h1.2.2 _ _ _ _ _ hid
          obtain ⟨o0, o1, o2, oone, o3⟩ := hS.obj _ _ hid
          obtain ⟨k1, k2⟩ := k (by omega)
          -- the object is given up; what it held may be read
          have hkd : ∀ (R' : Rd) (p : Nat × Nat), Sub R R' → ∀ a v, K R φ H a v → K R' (upd φ id p) (H.set id .dead) a v := by
            intro R' p hs a v hk
            have hk := K.sub hs a v hk
            have hl : (H.set id .dead).length = H.length := by simp
            have inv : ∀ {i : Nat} {x : AObj}, (H.set id .dead)[i]? = some x → x ≠ .dead → i ≠ id ∧ H[i]? = some x := by
              intro i x hx hd
              by_cases e : i = id
              · subst e; rw [List.getElem?_set_self (getElem?_lt hid)] at hx; injection hx with hx; exact absurd hx.symm hd
              · rw [List.getElem?_set_ne (Ne.symm e)] at hx; exact ⟨e, hx⟩
            cases a with
            | pv p => exact hk
            | ptr i off => exact ⟨by rw [hl]; exact hk.1, hk.2.1, fun c hc => by obtain ⟨q1, q2⟩ := inv hc (by simp); rw [upd_ne _ _ q1]; exact hk.2.2 c q2⟩
            | eptr i n off => exact ⟨by rw [hl]; exact hk.1, hk.2.1, fun sz ag c fl nl hc => by obtain ⟨q1, q2⟩ := inv hc (by simp); rw [upd_ne _ _ q1]; exact hk.2.2 _ _ _ _ _ q2⟩
            | uq i nl sz es => exact ⟨by rw [hl]; exact hk.1, hk.2.1, hk.2.2.1, fun sz n nl hc => by obtain ⟨q1, q2⟩ := inv hc (by simp); rw [upd_ne _ _ q1]; exact hk.2.2.2 _ _ _ q2⟩
            | own i n => exact ⟨by rw [hl]; exact hk.1, hk.2.1, fun sz ag c fl nl hc => by obtain ⟨q1, q2⟩ := inv hc (by simp); rw [upd_ne _ _ q1]; exact hk.2.2 _ _ _ _ _ q2⟩
            | mp i => exact ⟨by rw [hl]; exact hk.1, hk.2.1, fun es hc => by obtain ⟨q1, q2⟩ := inv hc (by simp); rw [upd_ne _ _ q1]; exact hk.2.2 _ q2⟩
            | clo => exact hk.elim
            | agg => exact hk.elim
            | tup => exact hk.elim
            | undef => exact hk.elim
          cases nl with
          | true =>
            simp only [if_true, Option.some.injEq] at h
            subst h
            have hk := hkd R (φ id) (Sub.refl R)
            refine ⟨R, upd φ id (φ id), hS.upd hid (Nat.le_refl _) (fun _ _ _ => rfl) (fun _ _ _ _ => rfl) hS.sub hk (fun h => h.elim) trivial, env_set (hE.mono hk) ?_, hk, Below.refl _ _, rfl, rfl⟩
            rw [k1 rfl]
            exact .atom _ _ (show PRel R _ _ from .nils)
          | false =>
            simp only [Bool.false_eq_true, if_false, Option.map_eq_some_iff] at h
            obtain ⟨ps, hps, rfl⟩ := h
            obtain ⟨b0, hnone, arr, hB, hsz, hle, hrel⟩ := o3 rfl
            have hsub : Sub R (fun b o => if b = (φ id).1 then w.cell? ⟨b, o, none⟩ else R b o) := by
              intro b o v h
              dsimp only
              split
              · exact hS.sub b o v h
              · exact h
            have hk := hkd _ (φ id) hsub
            refine ⟨_, upd φ id (φ id), hS.upd (R' := fun b o => if b = (φ id).1 then w.cell? ⟨b, o, none⟩ else R b o) hid (Nat.le_refl _) (fun _ _ _ => rfl) (fun b j _ hne => if_neg (hne rfl)) (fun b o v h => ?_) hk (fun h => h.elim) trivial, env_set (hE.mono hk) ?_, hk, Below.refl _ _, rfl, rfl⟩
            · split at h
              · exact h
              · exact hS.sub b o v h
            · rcases k2 rfl with ⟨q1, q2, _⟩ | ⟨b, o, cap, q1, q2, _⟩
              · subst q1; exact absurd (List.eq_nil_of_length_eq_zero (by omega)) q2
              · rw [q1]
                obtain ⟨rfl, rfl, rfl⟩ := q2 hlen
                have hl := allPV_rel hps hrel
                have hmap := allPV_map hps
                have hone : ∀ p ∈ ps, pone p = true := by
                  intro p hp
                  rw [hmap] at oone
                  exact List.all_eq_true.1 oone _ (List.mem_map_of_mem hp)
                have hplen : ps.length = len * sz := by rw [hlen, hmap]; simp
                obtain ⟨c1, c2, c3⟩ := chunk_spec sz ag (fun e => by subst e; simpa using hag) len ps hplen hone
                refine .atom _ _ (show PRel _ _ _ from ?_)
                have := PRel.lit (R := fun b o => if b = (φ id).1 then w.cell? ⟨b, o, none⟩ else R b o) sz (chunk sz ag len ps) (φ id).1 0 (φ id).2 (by
                  rw [c3]
                  have : len * sz ≤ (φ id).2 * sz := by rw [← hsz]; omega
                  exact Nat.le_of_mul_le_mul_right this o0) c2 (by
                  rw [c1]
                  refine RRel.of_list (hl.mono hsub) (one_all hrel oone) fun i v hv => ?_
                  have hlt := getElem?_lt hv
                  rw [List.getElem?_take] at hv
                  split at hv
                  · rw [if_pos rfl, hB.cell, Nat.zero_add]; simpa using hv
                  · cases hv)
                rw [c3] at this
                exact this
        · cases h
      · cases h
    · cases h

end
end Go.AM
