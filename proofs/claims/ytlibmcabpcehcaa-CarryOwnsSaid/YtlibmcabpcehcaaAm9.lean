/- The abstract machine, part 9: append to an object. -/
import Derived.Test.YtlibmcabpcehcaaAm8
set_option linter.unusedSimpArgs false
namespace Go.AM
open Go.RowKit

section own
variable {P : Program} {fo : Nat → FuncId} {B0 : Base} {w : World} {R : Rd} {φ : Pl} {H : List AObj}

theorem src_simA (hS : SRel fo B0 w R φ H) {x : AV} {vx : Value} (hx : ARel fo (K R φ H) x vx) {sz m : Nat} {cs : List AV} (h : elemsA H sz x = some (m, cs)) :
    ∃ news, ALRel fo (K R φ H) cs news ∧ Src P w vx sz m news := by
  have gen : ∀ {x : AV}, ARel fo (K R φ H) x vx → ((elemsP sz x).map fun ys => (ys.length, (flat ys).map AV.pv)) = some (m, cs) → ∃ news, ALRel fo (K R φ H) cs news ∧ Src P w vx sz m news := by
    intro x hx h
    simp only [Option.map_eq_some_iff, Prod.mk.injEq] at h
    obtain ⟨ys, hy, rfl, rfl⟩ := h
    obtain ⟨news, h1, h2, _⟩ := src_sim (P := P) hS hx hy
    exact ⟨news, ALRel.of_pv h1, h2⟩
  cases hx with
  | atom x vx hx =>
    cases x with
    | own id len =>
      simp only [elemsA] at h
      split at h
      · rename_i s ag c fl nl hc
        split at h
        · rename_i he
          obtain ⟨rfl, he⟩ := he
          simp only [Option.some.injEq, Prod.mk.injEq] at h
          obtain ⟨rfl, rfl⟩ := h
          obtain ⟨h0, h1, h2, hao, h3⟩ := hS.obj id _ hc
          obtain ⟨_, hk⟩ := hx.2.2 _ _ _ _ _ hc
          obtain ⟨k1, k2⟩ := hk (by omega)
          cases nl with
          | true =>
            have := h2 rfl
            subst this
            simp only [List.length_nil] at he
            have hl0 : len = 0 := by
              rcases Nat.mul_eq_zero.1 he with h | h
              · exact h
              · omega
            subst hl0
            rw [k1 rfl]
            exact ⟨[], .nil, Src.nil _⟩
          | false =>
            obtain ⟨b, o, cap, q1, q2, q3⟩ := (k2 rfl).resolve_left (by
              rintro ⟨rfl, hne, _⟩
              exact hne (List.eq_nil_of_length_eq_zero (by omega)))
            obtain ⟨rfl, rfl, rfl⟩ := q2 he
            obtain ⟨p1, p2, arr, p3, p4, p5, p6⟩ := h3 rfl
            subst q1
            refine ⟨_, p6, Src.slice (fun j v hj => ?_) (by rw [p6.length]; omega) (one_all p6 hao)⟩
            rw [Nat.zero_add, p3.cell]
            rw [List.getElem?_take] at hj
            split at hj
            · simpa using hj
            · cases hj
        · cases h
      · cases h
    | _ => exact gen (.atom _ _ hx) (by simpa [elemsA] using h)
  | clo ix cs vs h1 => exact gen (.clo _ _ _ h1) (by simpa [elemsA] using h)
  | agg cs vs h1 => exact gen (.agg _ _ h1) (by simpa [elemsA] using h)
  | tup cs vs h1 => exact gen (.tup _ _ h1) (by simpa [elemsA] using h)
  | undef v => exact gen (.undef _) (by simpa [elemsA] using h)

/-- An object to which something has been appended, where it lies or elsewhere; then what it held there may be read. -/
theorem K.seq_app {R' : Rd} {id sz : Nat} {ag ag' : Bool} {c cs : List AV} {fl : Nat} {nl nl' : Bool} {p : Nat × Nat} (hsub : Sub R R') (h0 : 0 < sz) (hc : H[id]? = some (.seq sz ag c fl nl)) (hnl : nl = true → c = [])
    (hp : (nl' = nl ∧ p = φ id) ∨ (cs ≠ [] ∧ nl' = false ∧ (nl = false → ∀ k ps, allPV (c.take k) = some ps → RRel R' ps (φ id).1 0))) (hcs : cs = [] → nl' = nl ∧ p = φ id) (a : AV) (v : Value) (h : K R φ H a v) :
    K R' (upd φ id p) (H.set id (.seq sz ag' (c ++ cs) fl nl')) a v := by
  have hid := getElem?_lt hc
  have h := K.sub hsub a v h
  have old : ∀ {i : Nat} {x : AObj}, (H.set id (.seq sz ag' (c ++ cs) fl nl'))[i]? = some x → (i ≠ id ∧ H[i]? = some x) ∨ (i = id ∧ x = .seq sz ag' (c ++ cs) fl nl') := by
    intro i x hx
    by_cases h : i = id
    · subst h; rw [List.getElem?_set_self hid] at hx; injection hx with hx; exact .inr ⟨rfl, hx.symm⟩
    · rw [List.getElem?_set_ne (Ne.symm h)] at hx; exact .inl ⟨h, hx⟩
  cases a with
  | pv p => exact h
  | ptr i off =>
    refine ⟨by simpa using h.1, h.2.1, fun c1 h1 => ?_⟩
    rcases old h1 with ⟨hne, h2⟩ | ⟨rfl, h2⟩
    · rw [upd_ne _ _ hne]; exact h.2.2 _ h2
    · cases h2
  | eptr i n off =>
    refine ⟨by simpa using h.1, h.2.1, fun sz1 ag1 c1 fl1 nl1 h1 => ?_⟩
    rcases old h1 with ⟨hne, h2⟩ | ⟨rfl, h2⟩
    · rw [upd_ne _ _ hne]; exact h.2.2 _ _ _ _ _ h2
    · injection h2 with e1 e2 e3 e4 e5
      subst e1 e2 e3 e4 e5
      obtain ⟨k0, k⟩ := h.2.2 _ _ _ _ _ hc
      refine ⟨by simp; omega, fun hf => ?_⟩
      obtain ⟨k1, k2⟩ := k hf
      by_cases hcs0 : cs = []
      · obtain ⟨rfl, rfl⟩ := hcs hcs0
        subst hcs0
        rw [upd_same]
        simpa using ⟨k1, k2⟩
      · have hlen : 0 < cs.length := List.length_pos_iff.2 hcs0
        refine ⟨fun e => by simp at e; omega, fun ps hps hn0 => ?_⟩
        have htake : (c ++ cs).take n = c.take n := by
          rw [List.take_append, show n - c.length = 0 from by omega]; simp
        rw [htake] at hps
        rcases hp with ⟨_, rfl⟩ | ⟨_, _, hold⟩
        · rw [upd_same]; exact k2 ps hps hn0
        · have hnl0 : nl = false := by
            cases nl with
            | false => rfl
            | true =>
              have := hnl rfl
              subst this
              simp at k0; omega
          rcases k2 ps hps hn0 with rfl | hr
          · exact .inr ⟨_, 0, by rw [Nat.zero_add], hold hnl0 _ ps hps⟩
          · exact .inr hr
  | uq i nl sz es =>
    refine ⟨by simpa using h.1, h.2.1, h.2.2.1, fun sz' n nl' h1 => ?_⟩
    rcases old h1 with ⟨hne, h2⟩ | ⟨rfl, h2⟩
    · rw [upd_ne _ _ hne]; exact h.2.2.2 _ _ _ h2
    · cases h2
  | own i len =>
    refine ⟨by simpa using h.1, h.2.1, fun sz1 ag1 c1 fl1 nl1 h1 => ?_⟩
    rcases old h1 with ⟨hne, h2⟩ | ⟨rfl, h2⟩
    · rw [upd_ne _ _ hne]; exact h.2.2 _ _ _ _ _ h2
    · injection h2 with e1 e2 e3 e4 e5
      subst e1 e2 e3 e4 e5
      obtain ⟨k0, k⟩ := h.2.2 _ _ _ _ _ hc
      refine ⟨by simp; omega, fun hf => ?_⟩
      obtain ⟨k1, k2⟩ := k hf
      by_cases hcs0 : cs = []
      · obtain ⟨rfl, rfl⟩ := hcs hcs0
        subst hcs0
        rw [upd_same]
        simpa using ⟨k1, k2⟩
      · have hlen : 0 < cs.length := List.length_pos_iff.2 hcs0
        have htake : (c ++ cs).take (len * sz1) = c.take (len * sz1) := by
          rw [List.take_append, show len * sz1 - c.length = 0 from by omega]; simp
        cases nl with
        | true =>
          have hc0 := hnl rfl
          subst hc0
          simp only [List.length_nil] at k0
          have hl0 : len = 0 := by
            rcases Nat.mul_eq_zero.1 (Nat.le_zero.1 k0) with h | h
            · exact h
            · omega
          exact ⟨fun _ => k1 rfl, fun _ => .inl ⟨hl0, by simpa using hcs0, k1 rfl⟩⟩
        | false =>
          have hnl' : nl1 = false := by
            rcases hp with ⟨e, _⟩ | ⟨_, e, _⟩ <;> exact e
          subst hnl'
          refine ⟨(fun h => by cases h), fun _ => ?_⟩
          rcases k2 rfl with ⟨q1, q2, q3⟩ | ⟨b, o, cap, q1, q2, q3⟩
          · exact .inl ⟨q1, by simp [q2], q3⟩
          · refine .inr ⟨b, o, cap, q1, fun e => by simp at e; omega, fun ps hps => ?_⟩
            rw [htake] at hps
            rcases hp with ⟨_, rfl⟩ | ⟨_, _, hold⟩
            · rw [upd_same]; exact q3 ps hps
            · rcases q3 ps hps with ⟨rfl, rfl⟩ | hr
              · exact .inr (hold rfl _ ps hps)
              · exact .inr hr
  | mp i =>
    refine ⟨by simpa using h.1, h.2.1, fun es h1 => ?_⟩
    rcases old h1 with ⟨hne, h2⟩ | ⟨rfl, h2⟩
    · rw [upd_ne _ _ hne]; exact h.2.2 _ h2
    · cases h2
  | clo ix cs => exact h.elim
  | agg cs => exact h.elim
  | tup cs => exact h.elim
  | undef => exact h.elim

theorem append_own (hS : SRel fo B0 w R φ H) {t tx ty e : TypeId} {sz bytes : Nat} (hA : AppOk P t tx e sz bytes) {id len m fl : Nat} {ag' nl : Bool} {cells cs : List AV} {vs vx : Value} {x : AV}
    (hs : ARel fo (K R φ H) (.own id len) vs) (hx : ARel fo (K R φ H) x vx) (hid : H[id]? = some (.seq sz ag' cells fl nl)) (hn : len * sz = cells.length) (hy : elemsA H sz x = some (m, cs)) (hcs1 : cs.all AV.one = true)
    (hroomb : (len + m) * bytes ≤ 140737488355328) :
    Res fo B0 w R φ H ((Builtin.append_ #[t, tx] ty #[vs, vx]).run P w) (.own id (len + m)) (H.set id (.seq sz ag' (cells ++ cs) fl (nl && (m == 0)))) := by
  obtain ⟨news, hl, hsrc⟩ := src_simA (P := P) hS hx hy
  obtain ⟨dx, hux, hdx⟩ := hA.hx
  have hk0 : K R φ H (.own id len) vs := by cases hs with | atom _ _ h => exact h
  obtain ⟨hlt, k1, k2⟩ := hk0
  obtain ⟨_, k3⟩ := k2 _ _ _ _ _ hid
  obtain ⟨o1, o2, o3, o4, o5⟩ := hS.obj id _ hid
  obtain ⟨k4, k5⟩ := k3 (by omega)
  have hlow := hS.low
  have hlcs : cs.length = m * sz := by rw [← hl.length, hsrc.num]
  have hall : (cells ++ cs).all AV.one = true := by simp only [List.all_append, Bool.and_eq_true]; exact ⟨o4, hcs1⟩
  have hlenH : ∀ o, id < (H.set id o).length := fun o => by simpa using hlt
  have hm0 : cs = [] → m = 0 := fun h => by
    subst h
    rcases Nat.mul_eq_zero.1 hlcs.symm with h | h
    · exact h
    · omega
  have hcur : ∀ {R' : Rd} {φ' : Pl} {nl' : Bool} {v' : Value}, (nl' = true → v' = .slice none 0 0) → (nl' = false → v' = .slice (some ⟨(φ' id).1, 0, none⟩) (len + m) (φ' id).2) → v'.oneCell' = true →
      K R' φ' (H.set id (.seq sz ag' (cells ++ cs) fl nl')) (.own id (len + m)) v' := by
    intro R' φ' nl' v' hv1 hv2 hv3
    refine ⟨hlenH _, hv3, fun sz1 ag1 c1 fl1 nl1 h => ?_⟩
    rw [List.getElem?_set_self hlt] at h
    injection h with h; injection h with h1 h2 h3 h4 h5
    subst h1 h2 h3 h4 h5
    refine ⟨by simp [hlcs, Nat.add_mul]; omega, fun _ => ⟨hv1, fun e => .inr ⟨_, _, _, hv2 e, fun _ => ⟨rfl, rfl, rfl⟩, fun ps _ => .inl ⟨rfl, rfl⟩⟩⟩⟩
  -- growing
  have grow : ∀ (base : Option Addr) (cap : Nat) (olds : List Value), vs = .slice base len cap → (∀ d, (Builtin.firstCells sz len (.slice base len cap)).run P (wd w d) = .ok ⟨olds⟩ (wd w d)) →
      ALRel fo (K R φ H) cells olds → (nl = false → ∀ i v, olds[i]? = some v → w.cell? ⟨(φ id).1, i, none⟩ = some v) → cap < len + m → (nl && (m == 0)) = false →
      Res fo B0 w R φ H ((Builtin.append_ #[t, tx] ty #[vs, vx]).run P w) (.own id (len + m)) (H.set id (.seq sz ag' (cells ++ cs) fl (nl && (m == 0)))) := by
    intro base cap olds hv hfc hlo hoc hcap hne
    subst hv
    rw [hne]
    obtain ⟨C, rest, w', hrun, hC, hrest, hheap, hos, htape, hout⟩ := run_append_grow (ty := ty) hA.hu hux hdx hA.hsize hA.hbytes hA.pos hA.hzero hsrc hfc hcap hroomb
    have hsz2 : w.heap.size < w'.heap.size := by rw [hheap]; simp
    have hold' : ∀ b, b < w.heap.size → w'.heap[b]? = w.heap[b]? := fun b hb => by rw [hheap]; exact heap_push hb
    have hblk : Blk w' w.heap.size ⟨olds ++ news ++ rest⟩ := ⟨e, (0, 0), by rw [hheap]; simp, fun o _ h => by omega⟩
    have hlo1 := hlo.length
    -- what the old block holds may be read from now on
    have hsub : Sub R (fun b o => if nl = false ∧ b = (φ id).1 then w.cell? ⟨b, o, none⟩ else R b o) := by
      intro b o v h
      dsimp only
      split
      · exact hS.sub b o v h
      · exact h
    have hnlx : cs ≠ [] := by
      intro h
      have hm := hm0 h
      subst hm
      cases nl with
      | true => simp at hne
      | false =>
        rcases k5 rfl with ⟨q1, q2, q3⟩ | ⟨b, o, cap', q1, q2, q3⟩
        · subst q1
          exact q2 (List.eq_nil_of_length_eq_zero (by omega))
        · injection q1 with q11 q12 q13
          obtain ⟨_, _, q4⟩ := q2 hn
          subst q13 q4
          obtain ⟨_, _, arr, _, a4, a5, _⟩ := o5 rfl
          rw [a4, ← hn] at a5
          have := Nat.le_of_mul_le_mul_right a5 o1
          omega
    have hk := fun a v h => K.seq_app (R := R) (φ := φ) (R' := fun b o => if nl = false ∧ b = (φ id).1 then w.cell? ⟨b, o, none⟩ else R b o) (ag' := ag') (cs := cs) (nl' := false) (p := (w.heap.size, C)) hsub o1 hid o3
      (.inr ⟨hnlx, rfl, fun hnl k ps hps => by
        have h1 := hlo.take k
        refine RRel.of_list ((allPV_rel hps h1).mono hsub) (one_all h1 ?_) fun i v hi => ?_
        · rw [List.all_eq_true] at o4 ⊢
          exact fun x hx => o4 x (List.mem_of_mem_take hx)
        · refine (if_pos ⟨hnl, rfl⟩).trans ?_
          rw [Nat.zero_add]
          refine hoc hnl i v ?_
          rw [List.getElem?_take] at hi
          split at hi
          · exact hi
          · cases hi⟩) (fun h => absurd h hnlx) a v h
    refine ⟨_, w', _, upd φ id (w.heap.size, C), hrun, ?_, .atom _ _ (hcur (fun h => by cases h) (fun _ => by rw [upd_same]) rfl), hk, ⟨hos, htape, hout, by omega, fun k hk => by rw [hheap]; exact heap_push (by omega)⟩⟩
    refine hS.upd hid (by omega) (fun b hb _ => hold' b hb) (fun b o hb hne2 => if_neg (fun h => hne2 h.1 h.2)) (fun b o v h => ?_) hk (fun _ => .inr (Nat.le_refl _)) ?_
    · split at h
      · rw [cell_heap (hold' b (cell_lt h))]; exact h
      · have := hS.sub b o v h
        rw [cell_heap (hold' b (cell_lt this))]; exact this
    · refine ⟨o1, by simp; omega, (fun h => by cases h), hall, fun _ => ?_⟩
      rw [upd_same]
      refine ⟨hlow, fun o => ?_, ⟨olds ++ news ++ rest⟩, hblk, ?_, ?_, ?_⟩
      · refine (if_neg ?_).trans (hS.none_new (Nat.le_refl _) o)
        rintro ⟨hnl, he⟩
        obtain ⟨_, _, arr, a3, _⟩ := o5 hnl
        have := a3.lt
        omega
      · show (olds ++ news ++ rest).length = C * sz
        simp only [List.length_append, hlo1, ← hn, hsrc.num, hrest, ← Nat.add_mul]
        congr 1; omega
      · show _ ≤ (olds ++ news ++ rest).length
        simp only [List.length_append, hlo1, hsrc.num, hlcs]
        omega
      · have : (olds ++ news ++ rest).take (cells ++ cs).length = olds ++ news := by
          rw [List.take_append_of_le_length (by simp [hlo1, hsrc.num, hlcs]), List.take_of_length_le (by simp [hlo1, hsrc.num, hlcs])]
        simp only [this]
        exact (hlo.append hl).mono hk
  cases nl with
  | true =>
    have hc0 := o3 rfl
    subst hc0
    have hv := k4 rfl
    have hl0 : len = 0 := by
      rcases Nat.mul_eq_zero.1 hn with h | h
      · exact h
      · omega
    subst hl0
    by_cases hm : m = 0
    · subst hm
      have hnews : news = [] := List.eq_nil_of_length_eq_zero (by rw [hsrc.num]; simp)
      have hcs0 : cs = [] := List.eq_nil_of_length_eq_zero (by omega)
      subst hnews hcs0
      subst hv
      have hrun := run_append_nil (ty := ty) hA.hu hux hdx hA.hsize hsrc
      have hset : H.set id (.seq sz ag' ([] ++ []) fl (true && (0 == 0))) = H := by
        apply List.ext_getElem?
        intro i
        by_cases h : i = id
        · subst h; rw [List.getElem?_set_self hlt]; exact hid.symm
        · rw [List.getElem?_set_ne (Ne.symm h)]
      rw [hset]
      exact Res.same _ hS hrun hs
    · have hmb : (m == 0) = false := by simpa using hm
      exact grow none 0 [] hv (fun d => by simp [Builtin.firstCells]) .nil (fun h => by cases h) (by omega) (by simp [hmb])
  | false =>
    obtain ⟨q1, q2, arr, ⟨et, fz, q3, hfz⟩, q4, q5, q6⟩ := o5 rfl
    rcases k5 rfl with ⟨r1, r2, r3⟩ | ⟨b, o, cap, r1, r2, r3⟩
    · subst r1
      exact absurd (List.eq_nil_of_length_eq_zero (by omega)) r2
    obtain ⟨rfl, rfl, rfl⟩ := r2 hn
    have hq4 : arr.toList.length = (φ id).2 * sz := by simpa using q4
    by_cases hroom : len + m ≤ (φ id).2
    · subst r1
      have hblt : (φ id).1 < w.heap.size := Blk.lt ⟨et, fz, q3, hfz⟩
      have hrun := run_append_room (ty := ty) (n0 := len) hA.hu hux hdx hA.hsize hsrc (b := (φ id).1) (arr := arr.toList) (et := et) (fz := fz) q3 (by simpa using hfz) hq4 hroom
      have hfit : len * sz + news.length ≤ arr.toList.length := by
        rw [hsrc.num, ← Nat.add_mul, hq4]; exact Nat.mul_le_mul_right _ hroom
      have hk := fun a v h => K.seq_app (R := R) (φ := φ) (ag' := ag') (cs := cs) (nl' := false) (p := φ id) (Sub.refl R) o1 hid o3 (.inl ⟨rfl, rfl⟩) (fun _ => ⟨rfl, rfl⟩) a v h
      refine ⟨_, _, R, upd φ id (φ id), hrun, ?_, .atom _ _ (hcur (fun h => by cases h) (fun _ => by rw [upd_same]) rfl), hk, putB_below q1⟩
      refine hS.upd (w' := putB w (φ id).1 (setRow arr.toList (len * sz) news) et fz) hid (by simp [putB]) (fun b hb hne => putB_heap (hne rfl)) (fun _ _ _ _ => rfl) (fun b o v hv => ?_) hk (fun _ => .inl ⟨rfl, rfl⟩) ?_
      · rw [cell_heap (putB_heap (fun e => by subst e; rw [q2] at hv; cases hv))]; exact hS.sub b o v hv
      · refine ⟨o1, by simp; omega, (fun h => by cases h), hall, fun _ => ?_⟩
        rw [upd_same]
        refine ⟨q1, q2, ⟨setRow arr.toList (len * sz) news⟩, ⟨et, fz, putB_self hblt, fun o ho => hfz o (by simpa [setRow_length] using ho)⟩, by simpa [setRow_length] using q4, ?_, ?_⟩
        · show _ ≤ (setRow arr.toList (len * sz) news).length
          rw [setRow_length]
          simp only [List.length_append, hlcs, ← hn]
          rw [hsrc.num] at hfit
          exact hfit
        · have hfit2 := hfit
          rw [hsrc.num] at hfit2
          have h1 : (cells ++ cs).length = (len + m) * sz := by simp [hlcs, ← hn, Nat.add_mul]
          have : (setRow arr.toList (len * sz) news).take (cells ++ cs).length = arr.toList.take cells.length ++ news := by
            apply List.ext_getElem?
            intro i
            rw [List.getElem?_take]
            have hlt1 : (arr.toList.take cells.length).length = len * sz := by rw [List.length_take, ← hn]; omega
            split
            · rename_i hi
              rw [h1] at hi
              by_cases hi2 : i < len * sz
              · rw [setRow_get _ _ _ _ hi2, List.getElem?_append_left (by omega), List.getElem?_take, if_pos (by omega)]
              · have hi3 : i - len * sz < news.length := by rw [hsrc.num]; rw [Nat.add_mul] at hi; omega
                have := setRow_in news arr.toList (len * sz) (i - len * sz) news[i - len * sz] (List.getElem?_eq_getElem hi3) hfit
                rw [show len * sz + (i - len * sz) = i from by omega] at this
                rw [this, List.getElem?_append_right (by omega), hlt1, List.getElem?_eq_getElem hi3]
            · rename_i hi
              rw [h1] at hi
              rw [List.getElem?_eq_none]
              rw [List.length_append, hlt1, hsrc.num, ← Nat.add_mul]; omega
          simp only [this]
          exact (q6.append hl).mono hk
    · refine grow _ _ (arr.toList.take cells.length) r1 (fun d => ?_) q6 (fun _ i v hi => ?_) (by omega) rfl
      · show (loadCells _ _).run P _ = _
        refine run_loadCells' (w := wd w d) (fun j v hj => ?_) (by rw [List.length_take, hn]; simp; omega)
        rw [Nat.zero_add, wd_cell, Blk.cell (arr := arr) ⟨et, fz, q3, hfz⟩]
        rw [List.getElem?_take] at hj
        split at hj
        · simpa using hj
        · cases hj
      · rw [Blk.cell (arr := arr) ⟨et, fz, q3, hfz⟩]
        rw [List.getElem?_take] at hi
        split at hi
        · simpa using hi
        · cases hi

end own
end Go.AM
