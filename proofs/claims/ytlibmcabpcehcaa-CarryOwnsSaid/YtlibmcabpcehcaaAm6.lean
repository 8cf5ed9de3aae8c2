/- The abstract machine, part 6: loads, stores, appends, addresses. -/
import Derived.Test.YtlibmcabpcehcaaAm5
namespace Go.AM
open Go.RowKit

section loads
variable {P : Program} {fo : Nat → FuncId} {B0 : Base} {w : World} {R : Rd} {φ : Pl} {H : List AObj}

theorem partA_sim {cells : List AV} {vs : List Value} (hc : ALRel fo (K R φ H) cells vs) {t : TypeId} {ag : Bool} {n b off : Nat} (ha : aggP P t = some ag) (hn : ag = true → sizeP P t = some n)
    (hr : ∀ j v, vs[j]? = some v → w.cell? ⟨b, j, none⟩ = some v) {y : AV} (hp : partA ag n cells off = some y) :
    ∃ v, (loadVar t ⟨b, off, none⟩).run P w = .ok v w ∧ ARel fo (K R φ H) y v := by
  cases ag with
  | true =>
    simp only [partA, if_true] at hp
    split at hp
    · injection hp with hp
      subst hp
      rename_i hle
      have h2 := (hc.drop off).take n
      have hl := hc.length
      refine ⟨_, run_loadAgg (vs := (vs.drop off).take n) w ha (hn rfl) (by simp; omega) (fun j v hj => hr _ _ ?_), mkAgg_rel h2⟩
      rw [List.getElem?_take] at hj
      split at hj
      · rw [List.getElem?_drop] at hj; exact hj
      · cases hj
    · cases hp
  | false =>
    simp only [partA, Bool.false_eq_true, if_false] at hp
    obtain ⟨v, hv, h2⟩ := hc.get hp
    exact ⟨v, run_loadOne w ha (hr _ _ hv), h2⟩

theorem partP_sim (hS : SRel fo B0 w R φ H) {row : List PV} {b o : Nat} (hrow : RRel R row b o) {t : TypeId} {ag : Bool} {n off : Nat} (ha : aggP P t = some ag) (hn : ag = true → sizeP P t = some n)
    {y : PV} (hp : partP ag n row off = some y) : ∃ v, (loadVar t ⟨b, o + off, none⟩).run P w = .ok v w ∧ PRel R y v := by
  cases ag with
  | true =>
    simp only [partP, if_true] at hp
    split at hp
    · injection hp with hp
      subst hp
      rename_i hle
      obtain ⟨vs, h2, _, h3⟩ := ((hrow.drop off).take n).list
      have hl := h2.length
      refine ⟨_, run_loadAgg (vs := vs) w ha (hn rfl) (by rw [hl]; simp; omega) (fun j v hj => hS.sub _ _ _ (h3 j v hj)), .agg _ _ h2⟩
    · cases hp
  | false =>
    simp only [partP, Bool.false_eq_true, if_false] at hp
    obtain ⟨v, hv, h2⟩ := hrow.get hp
    exact ⟨v, run_loadOne w ha (hS.sub _ _ _ hv), h2⟩

theorem load_sim (hS : SRel fo B0 w R φ H) {x : AV} {vx : Value} (hx : ARel fo (K R φ H) x vx) {t : TypeId} {ag : Bool} {n : Nat} (ha : aggP P t = some ag) (hn : ag = true → sizeP P t = some n)
    {y : AV} (hl : loadA H ag n x = some y) : ∃ v, (Instr.loadAt t vx).run P w = .ok v w ∧ ARel fo (K R φ H) y v := by
  have go : ∀ (a : Addr), (Instr.loadAt t (.pointer (some a))).run P w = (loadVar t a).run P w := by
    intro a; simp [Instr.loadAt, Instr.sureAddr]
  cases hx with
  | atom x vx hx =>
    cases x with
    | pv p =>
      cases p with
      | rp row off =>
        have hx : PRel R (.rp row off) vx := hx
        simp only [loadA, Option.map_eq_some_iff] at hl
        obtain ⟨q, hq, rfl⟩ := hl
        cases hx with
        | rp _ _ b o hrow =>
          obtain ⟨v, h1, h2⟩ := partP_sim hS hrow ha hn hq
          exact ⟨v, by rw [go]; exact h1, .atom _ _ h2⟩
      | _ => simp [loadA] at hl
    | ptr id off =>
      simp only [loadA] at hl
      split at hl
      · rename_i c hc
        obtain ⟨h1, h2, _, arr, h3, h4⟩ := hS.obj id _ hc
        rw [hx.2.2 c hc]
        obtain ⟨v, k1, k2⟩ := partA_sim (w := w) (b := (φ id).1) h4 ha hn (fun j v hj => by rw [h3.cell]; simpa using hj) hl
        exact ⟨v, by rw [go]; exact k1, k2⟩
      · cases hl
    | eptr id m off =>
      simp only [loadA] at hl
      split at hl
      · rename_i sz ag' c fl nl hc
        obtain ⟨k0, kk⟩ := hx.2.2 _ _ _ _ _ hc
        obtain ⟨h0, h1, h2, hao, h3⟩ := hS.obj id _ hc
        split at hl
        · rename_i hm
          rw [(kk (by omega)).1 hm]
          cases nl with
          | true =>
            have := h2 rfl
            subst this
            obtain ⟨v, k1, k2⟩ := partA_sim (w := w) (b := (φ id).1) (vs := []) (fo := fo) (R := R) (φ := φ) (H := H) .nil ha hn (fun j v hj => by simp at hj) hl
            exact ⟨v, by rw [go]; exact k1, k2⟩
          | false =>
            obtain ⟨k1, k2, arr, k3, k4, k5, k6⟩ := h3 rfl
            obtain ⟨v, q1, q2⟩ := partA_sim (w := w) (b := (φ id).1) k6 ha hn (fun j v hj => by
              rw [k3.cell]
              rw [List.getElem?_take] at hj
              split at hj
              · simpa using hj
              · cases hj) hl
            exact ⟨v, by rw [go]; exact q1, q2⟩
        · split at hl
          · rename_i hm hf
            obtain ⟨hf, hm0⟩ := hf
            simp only [Option.bind_eq_some_iff, Option.map_eq_some_iff] at hl
            obtain ⟨ps, hps, q, hq, rfl⟩ := hl
            have hnl : nl = false := by
              cases nl with
              | false => rfl
              | true =>
                have := h2 rfl
                subst this
                simp only [List.length_nil] at k0 hm
                omega
            subst hnl
            obtain ⟨k1, k2, arr, k3, k4, k5, k6⟩ := h3 rfl
            have hcm : (c.take m).length = ps.length := by
              have := allPV_map hps
              rw [this]; simp
            · rcases (kk hf).2 ps hps hm0 with rfl | ⟨b, o, rfl, hr⟩
              · have h7 := allPV_rel hps (k6.take m)
                have hA : ALRel fo (K R φ H) (ps.map .pv) ((arr.toList.take c.length).take m) := ALRel.of_pv h7
                have hq' : partA ag n (ps.map .pv) off = some (.pv q) := by
                  unfold partP at hq
                  unfold partA
                  cases ag with
                  | true =>
                    simp only [if_true] at hq ⊢
                    split at hq
                    · injection hq with hq; subst hq
                      rw [if_pos (by simpa using ‹off + n ≤ ps.length›)]
                      simp [mkAgg, ← List.map_drop, ← List.map_take, allPV_of_map]
                    · cases hq
                  | false =>
                    simp only [Bool.false_eq_true, if_false] at hq ⊢
                    simp [hq]
                obtain ⟨v, q1, q2⟩ := partA_sim (w := w) (b := (φ id).1) hA ha hn (fun j v hj => by
                  rw [k3.cell]
                  rw [List.getElem?_take] at hj
                  split at hj
                  · rw [List.getElem?_take] at hj
                    split at hj
                    · simpa using hj
                    · cases hj
                  · cases hj) hq'
                exact ⟨v, by rw [go]; exact q1, q2⟩
              · obtain ⟨v, q1, q2⟩ := partP_sim hS hr ha hn hq
                exact ⟨v, by rw [go]; exact q1, .atom _ _ q2⟩
          · cases hl
      · cases hl
    | _ => simp [loadA] at hl
  | _ => simp [loadA] at hl

/-! ## stores -/

theorem K.box_set {id : Nat} {c c' : List AV} (hc : H[id]? = some (.box c)) (a : AV) (v : Value) (h : K R φ H a v) : K R (upd φ id (φ id)) (H.set id (.box c')) a v := by
  have hφ : upd φ id (φ id) = φ := by
    funext i
    unfold upd
    split
    · rename_i e; rw [e]
    · rfl
  rw [hφ]
  have hid := getElem?_lt hc
  have old : ∀ {i : Nat} {x : AObj}, (H.set id (.box c'))[i]? = some x → (i ≠ id ∧ H[i]? = some x) ∨ (i = id ∧ x = .box c') := by
    intro i x hx
    by_cases h : i = id
    · subst h; rw [List.getElem?_set_self hid] at hx; injection hx with hx; exact .inr ⟨rfl, hx.symm⟩
    · rw [List.getElem?_set_ne (Ne.symm h)] at hx; exact .inl ⟨h, hx⟩
  cases a with
  | pv p => exact h
  | ptr i off =>
    refine ⟨by simpa using h.1, h.2.1, fun c1 h1 => ?_⟩
    rcases old h1 with ⟨_, h2⟩ | ⟨rfl, _⟩
    · exact h.2.2 _ h2
    · exact h.2.2 _ hc
  | eptr i n off =>
    refine ⟨by simpa using h.1, h.2.1, fun sz ag c1 fl nl h1 => ?_⟩
    rcases old h1 with ⟨_, h2⟩ | ⟨rfl, h2⟩
    · exact h.2.2 _ _ _ _ _ h2
    · cases h2
  | uq i nl sz es =>
    refine ⟨by simpa using h.1, h.2.1, h.2.2.1, fun sz' n nl' h1 => ?_⟩
    rcases old h1 with ⟨_, h2⟩ | ⟨rfl, h2⟩
    · exact h.2.2.2 _ _ _ h2
    · cases h2
  | own i len =>
    refine ⟨by simpa using h.1, h.2.1, fun sz ag c1 fl nl h1 => ?_⟩
    rcases old h1 with ⟨_, h2⟩ | ⟨rfl, h2⟩
    · exact h.2.2 _ _ _ _ _ h2
    · cases h2
  | mp i =>
    refine ⟨by simpa using h.1, h.2.1, fun es h1 => ?_⟩
    rcases old h1 with ⟨_, h2⟩ | ⟨rfl, h2⟩
    · exact h.2.2 _ h2
    · cases h2
  | clo ix cs => exact h.elim
  | agg cs => exact h.elim
  | tup cs => exact h.elim
  | undef => exact h.elim

theorem K.seq_set {id : Nat} {sz : Nat} {ag ag' : Bool} {c c' : List AV} {fl : Nat} {nl : Bool} (hc : H[id]? = some (.seq sz ag c fl nl)) (hfl : fl ≤ c.length) (hlen : c'.length = c.length) (a : AV) (v : Value) (h : K R φ H a v) :
    K R (upd φ id (φ id)) (H.set id (.seq sz ag' c' c.length nl)) a v := by
  have hφ : upd φ id (φ id) = φ := by
    funext i
    unfold upd
    split
    · rename_i e; rw [e]
    · rfl
  rw [hφ]
  have hid := getElem?_lt hc
  have old : ∀ {i : Nat} {x : AObj}, (H.set id (.seq sz ag' c' c.length nl))[i]? = some x → (i ≠ id ∧ H[i]? = some x) ∨ (i = id ∧ x = .seq sz ag' c' c.length nl) := by
    intro i x hx
    by_cases h : i = id
    · subst h; rw [List.getElem?_set_self hid] at hx; injection hx with hx; exact .inr ⟨rfl, hx.symm⟩
    · rw [List.getElem?_set_ne (Ne.symm h)] at hx; exact .inl ⟨h, hx⟩
  cases a with
  | pv p => exact h
  | ptr i off =>
    refine ⟨by simpa using h.1, h.2.1, fun c1 h1 => ?_⟩
    rcases old h1 with ⟨_, h2⟩ | ⟨rfl, h2⟩
    · exact h.2.2 _ h2
    · cases h2
  | eptr i n off =>
    refine ⟨by simpa using h.1, h.2.1, fun sz1 ag1 c1 fl1 nl1 h1 => ?_⟩
    rcases old h1 with ⟨_, h2⟩ | ⟨rfl, h2⟩
    · exact h.2.2 _ _ _ _ _ h2
    · injection h2 with e1 e2 e3 e4 e5
      subst e1 e2 e3 e4 e5
      obtain ⟨k0, k⟩ := h.2.2 _ _ _ _ _ hc
      refine ⟨by omega, fun e => ?_⟩
      have hv := (k (by omega)).1 (by omega)
      exact ⟨fun _ => hv, fun _ _ _ => .inl hv⟩
  | uq i nl sz es =>
    refine ⟨by simpa using h.1, h.2.1, h.2.2.1, fun sz' n nl' h1 => ?_⟩
    rcases old h1 with ⟨_, h2⟩ | ⟨rfl, h2⟩
    · exact h.2.2.2 _ _ _ h2
    · cases h2
  | own i len =>
    refine ⟨by simpa using h.1, h.2.1, fun sz1 ag1 c1 fl1 nl1 h1 => ?_⟩
    rcases old h1 with ⟨_, h2⟩ | ⟨rfl, h2⟩
    · exact h.2.2 _ _ _ _ _ h2
    · injection h2 with e1 e2 e3 e4 e5
      subst e1 e2 e3 e4 e5
      obtain ⟨k0, k⟩ := h.2.2 _ _ _ _ _ hc
      refine ⟨by omega, fun hfl1 => ?_⟩
      obtain ⟨k1, k2⟩ := k (by omega)
      refine ⟨k1, fun hn => ?_⟩
      rcases k2 hn with ⟨q1, q2, q3⟩ | ⟨b, o, cap, q1, q2, q3⟩
      · refine .inl ⟨q1, fun e => q2 ?_, q3⟩
        rw [e] at hlen
        exact List.eq_nil_of_length_eq_zero hlen.symm
      · exact .inr ⟨b, o, cap, q1, fun e => q2 (by omega), fun ps _ => .inl ⟨(q2 (by omega)).1, (q2 (by omega)).2.1⟩⟩
  | mp i =>
    refine ⟨by simpa using h.1, h.2.1, fun es h1 => ?_⟩
    rcases old h1 with ⟨_, h2⟩ | ⟨rfl, h2⟩
    · exact h.2.2 _ h2
    · cases h2
  | clo ix cs => exact h.elim
  | agg cs => exact h.elim
  | tup cs => exact h.elim
  | undef => exact h.elim

theorem putB_heap {b : Nat} {arr : List Value} {ty : TypeId} {fz : Nat × Nat} {k : Nat} (h : k ≠ b) : (putB w b arr ty fz).heap[k]? = w.heap[k]? := by
  simp only [putB]
  rw [Array.getElem?_setIfInBounds_ne (Ne.symm h)]

theorem putB_self {b : Nat} {arr : List Value} {ty : TypeId} {fz : Nat × Nat} (h : b < w.heap.size) : (putB w b arr ty fz).heap[b]? = some (.cells ⟨arr⟩ ty fz) := by
  simp [putB, h]

theorem putB_below {b : Nat} {arr : List Value} {ty : TypeId} {fz : Nat × Nat} (h : B0 ≤ b) : Below B0 w (putB w b arr ty fz) :=
  ⟨rfl, rfl, rfl, by simp [putB], fun k hk => putB_heap (by omega)⟩

theorem setRow_one (vs : List AV) : ∀ (cs : List AV) (o : Nat), cs.all AV.one = true → vs.all AV.one = true → (setRow cs o vs).all AV.one = true := by
  induction vs with
  | nil => intro cs o h _; exact h
  | cons v vs ih =>
    intro cs o h h2
    simp only [List.all_cons, Bool.and_eq_true] at h2
    refine ih _ _ ?_ h2.2
    rw [List.all_eq_true] at h ⊢
    intro x hx
    rcases List.mem_or_eq_of_mem_set hx with hx | rfl
    · exact h x hx
    · exact h2.1

theorem store_sim (hS : SRel fo B0 w R φ H) {p x : AV} {vp vx : Value} (hp : ARel fo (K R φ H) p vp) (hx : ARel fo (K R φ H) x vx) {t : TypeId} {n : Nat} (hn : sizeP P t = some n)
    {H' : List AObj} (hl : storeA H n p x = some H') : ∃ w' φ', (Instr.storeAt t vp vx).run P w = .ok () w' ∧ SRel fo B0 w' R φ' H' ∧ (∀ a u, K R φ H a u → K R φ' H' a u) ∧ Below B0 w w' := by
  have go : ∀ (a : Addr), (Instr.storeAt t (.pointer (some a)) vx).run P w = (storeVar t a vx).run P w := by
    intro a; simp [Instr.storeAt, Instr.sureAddr]
  unfold storeA at hl
  split at hl
  case isFalse => cases hl
  rename_i hcond
  obtain ⟨hcl, hone⟩ := hcond
  have hcr := cells_rel hx hone
  have hcl2 : vx.cells.toList.length = n := by rw [hcr.length]; exact hcl
  have hones := one_all hcr hone
  cases hp with
  | atom p vp hp =>
    cases p with
    | ptr id off =>
      dsimp only at hl
      split at hl
      · rename_i c hc
        split at hl
        · rename_i hle
          injection hl with hl
          subst hl
          obtain ⟨h1, h2, hao, arr, ⟨ty, fz, h3, hfz⟩, h4⟩ := hS.obj id _ hc
          have hid := getElem?_lt hc
          have hlen := h4.length
          rw [hp.2.2 c hc, go]
          have hst := run_storeVar' (P := P) (o := off) (v := vx) w hn hcl2 (b := (φ id).1) (arr := arr.toList) (ty := ty) (fz := fz) h3 (by simpa using hfz) (by rw [hlen]; exact hle) hones
          have hlt : (φ id).1 < w.heap.size := Blk.lt ⟨ty, fz, h3, hfz⟩
          have hk := fun a v => K.box_set (R := R) (φ := φ) (c' := setRow c off x.cells) hc a v
          refine ⟨_, upd φ id (φ id), hst, ?_, hk, putB_below h1⟩
          refine hS.upd (w' := putB w (φ id).1 (setRow arr.toList off vx.cells.toList) ty fz) hc (by simp [putB]) (fun b hb hne => putB_heap (hne trivial)) (fun _ _ _ _ => rfl) (fun b o v hv => ?_) hk (fun _ => .inl ⟨trivial, rfl⟩) ?_
          · rw [cell_heap (putB_heap (fun e => by subst e; rw [h2] at hv; cases hv))]; exact hS.sub b o v hv
          · refine ⟨by rw [upd_same]; exact h1, by rw [upd_same]; exact h2, setRow_one _ _ _ hao hone, ⟨setRow arr.toList off vx.cells.toList⟩, ?_, ?_⟩
            · rw [upd_same]
              exact ⟨ty, fz, putB_self hlt, fun o ho => hfz o (by simpa [setRow_length] using ho)⟩
            · exact (h4.mono hk).setRow off (hcr.mono hk)
        · cases hl
      · cases hl
    | eptr id m off =>
      dsimp only at hl
      split at hl
      · rename_i sz ag c fl nl hc
        split at hl
        · rename_i hle
          injection hl with hl
          subst hl
          obtain ⟨hm, hle⟩ := hle
          obtain ⟨h0, h1, h2, hao, h3⟩ := hS.obj id _ hc
          rw [((hp.2.2 _ _ c _ _ hc).2 (by omega)).1 hm, go]
          subst hm
          have hk := fun a v => K.seq_set (R := R) (φ := φ) (ag' := ag) (c' := setRow c off x.cells) hc h1 (setRow_length _ _ _) a v
          cases nl with
          | true =>
            have hce := h2 rfl
            subst hce
            have hn0 : n = 0 := by simp at hle; omega
            subst hn0
            have hvx : vx.cells.toList = [] := List.eq_nil_of_length_eq_zero hcl2
            have hxc : x.cells = [] := List.eq_nil_of_length_eq_zero hcl
            refine ⟨w, upd φ id (φ id), ?_, ?_, hk, Below.refl _ _⟩
            · have : vx.cells.size = 0 := by simpa using hcl2
              simp [storeVar, run_sizeOf' hn, this, hvx, storeCells]
            · refine hS.upd (w' := w) hc (Nat.le_refl _) (fun _ _ _ => rfl) (fun _ _ _ _ => rfl) hS.sub hk (fun h => by cases h) ?_
              exact ⟨h0, by simp [setRow_length], (fun _ => by rw [hxc]; rfl), (by rw [hxc]; rfl), fun h => by cases h⟩
          | false =>
            obtain ⟨k1, k2, arr, ⟨ty, fz, k3, hfz⟩, k4, k5, k6⟩ := h3 rfl
            have hst := run_storeVar' (P := P) (o := off) (v := vx) w hn hcl2 (b := (φ id).1) (arr := arr.toList) (ty := ty) (fz := fz) k3 (by simpa using hfz) (by simp; omega) hones
            have hlt : (φ id).1 < w.heap.size := Blk.lt ⟨ty, fz, k3, hfz⟩
            refine ⟨_, upd φ id (φ id), hst, ?_, hk, putB_below k1⟩
            refine hS.upd (w' := putB w (φ id).1 (setRow arr.toList off vx.cells.toList) ty fz) hc (by simp [putB]) (fun b hb hne => putB_heap (hne rfl)) (fun _ _ _ _ => rfl) (fun b o v hv => ?_) hk (fun _ => .inl ⟨rfl, rfl⟩) ?_
            · rw [cell_heap (putB_heap (fun e => by subst e; rw [k2] at hv; cases hv))]; exact hS.sub b o v hv
            · refine ⟨h0, by rw [setRow_length]; exact Nat.le_refl _, (fun h => by cases h), setRow_one _ _ _ hao hone, fun _ => ?_⟩
              rw [upd_same]
              refine ⟨k1, k2, ⟨setRow arr.toList off vx.cells.toList⟩, ⟨ty, fz, putB_self hlt, fun o ho => hfz o (by simpa [setRow_length] using ho)⟩, by simpa [setRow_length] using k4, by simpa [setRow_length] using k5, ?_⟩
              have hq := (k6.mono hk).setRow off (hcr.mono hk)
              have : (setRow arr.toList off vx.cells.toList).take (setRow c off x.cells).length = setRow (arr.toList.take c.length) off vx.cells.toList := by
                rw [setRow_length]
                exact setRow_take _ _ _ _ (by omega)
              dsimp only
              rw [this]
              exact hq
        · cases hl
      · cases hl
    | _ => simp at hl
  | _ => simp at hl
end loads
end Go.AM
