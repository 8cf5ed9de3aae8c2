/- The abstract machine, part 11: further operations. -/
import Derived.Test.YtlibmcabpcehcaaAm10
set_option linter.unusedSimpArgs false
set_option linter.unusedVariables false
namespace Go.AM
open Go.RowKit

section ops
variable {P : Program} {fo : Nat → FuncId} {B0 : Base} {w : World} {R : Rd} {φ : Pl} {H : List AObj} {e : Tr} {a : Act}

theorem alloc_sim (hS : SRel fo B0 w R φ H) {t : TypeId} {zero : List PV} (hz : zerosP P t zero = true) : ResV fo B0 w R φ H P (Instr.alloc t true (.tuple #[])) (.ptr H.length 0) (H ++ [.box (zero.map .pv)]) := by
  unfold zerosP at hz
  cases hi : P.info? t with
  | none => simp [hi] at hz
  | some i =>
    simp only [hi] at hz
    cases hzz : i.zero with
    | none => simp [hzz] at hz
    | some z =>
      simp only [hzz] at hz
      obtain ⟨h1, h2⟩ := eqConsts_rel (R := R) hz
      have := new_box (fo := fo) (B0 := B0) hS (ALRel.of_pv h1) h2 t
      simpa [ResV, Instr.alloc, zeroValue, run_typeInfo w hi, hzz, newVar, newRow] using this

theorem box_sim (hS : SRel fo B0 w R φ H) {t : TypeId} {x : AV} {vx : Value} (hx : ARel fo (K R φ H) x vx) (h1 : x.cells.all AV.one = true) : ResV fo B0 w R φ H P (Instr.box t vx) (.ptr H.length 0) (H ++ [.box x.cells]) := by
  have := new_box hS (cells_rel hx h1) h1 t
  simpa [ResV, Instr.box, newVar, newRow] using this

theorem toPV0_rel {cs : List AV} {ps : List PV} {vs : List Value} (h : mapO (toPV [] 0) cs = some ps) (hc : ALRel fo (K R φ H) cs vs) : LRel R ps vs := by
  induction cs generalizing ps vs with
  | nil => simp [mapO] at h; subst h; cases hc; exact .nil
  | cons c cs ih =>
    simp only [mapO, Option.bind_eq_some_iff, Option.some.injEq] at h
    obtain ⟨b, h1, bs, h2, rfl⟩ := h
    cases hc with
    | cons _ _ v vs hv hvs =>
      refine .cons _ _ _ _ ?_ (ih h2 hvs)
      cases c with
      | pv p => simp [toPV] at h1; subst h1; exact hv.pv_inv
      | uq id nl sz es =>
        have hk : K R φ H (.uq id nl sz es) v := by cases hv with | atom _ _ h => exact h
        simp [toPV] at h1
        cases nl with
        | true => simp at h1; subst h1; rw [(hk.2.1 rfl).1]; exact .nils
        | false => simp at h1; subst h1; exact hk.2.2.1 rfl
      | _ => simp [toPV] at h1

theorem boxR_sim (hS : SRel fo B0 w R φ H) {t : TypeId} {x : AV} {vx : Value} (hx : ARel fo (K R φ H) x vx) (h1 : x.cells.all AV.one = true) {ps : List PV} (hps : mapO (toPV [] 0) x.cells = some ps) : ResV fo B0 w R φ H P (Instr.box t vx) (.pv (.rp ps 0)) H := by
  have hc := cells_rel hx h1
  have hone := one_all hc h1
  have hl := toPV0_rel hps hc
  have hsub := extR_sub hS (fun o => vx.cells.toList[o]?)
  have hk := fun a v => K.sub (φ := φ) (H := H) hsub a v
  have hold : ∀ b, b < w.heap.size → ({ w with heap := w.heap.push (.cells ⟨vx.cells.toList⟩ t) } : World).heap[b]? = w.heap[b]? := fun b hb => heap_push hb
  have hblk : Blk { w with heap := w.heap.push (.cells ⟨vx.cells.toList⟩ t) } w.heap.size ⟨vx.cells.toList⟩ := ⟨t, (0, 0), by simp, fun o _ h => by omega⟩
  have hrun : (Instr.box t vx).run P w = .ok (.pointer (some ⟨w.heap.size, 0, none⟩)) { w with heap := w.heap.push (.cells ⟨vx.cells.toList⟩ t) } := by simp [Instr.box, newVar, newRow]
  refine ⟨_, _, extR R w.heap.size (fun o => vx.cells.toList[o]?), φ, hrun, ⟨Nat.le_trans hS.low (by simp), fun b o v h => ?_, fun id o ho => ?_, hS.inj, fun b o hb => by have := hS.low; unfold extR; rw [if_neg (by omega)]; exact hS.old b o hb⟩, .atom _ _ (show PRel _ _ _ from ?_), hk, below_push hS.low _⟩
  · unfold extR at h
    split at h
    · rename_i e; subst e; rw [hblk.cell]; simpa using h
    · have := hS.sub b o v h
      rw [cell_heap (hold b (cell_lt this))]; exact this
  · have hO := hS.obj id o ho
    refine hO.keep (fun hlv => ⟨hold _ (hO.lt hlv), fun j hj => ?_⟩) rfl hk
    have := hO.lt hlv
    unfold extR
    rw [if_neg (by omega)]; exact hj
  · have := PRel.rp (R := extR R w.heap.size (fun o => vx.cells.toList[o]?)) ps 0 w.heap.size 0 (RRel.of_list (hl.mono hsub) hone fun i v hi => by
      simp only [extR, Nat.zero_add, if_true]; exact hi)
    simpa using this

theorem len_sim (hS : SRel fo B0 w R φ H) {t ty : TypeId} {x : AV} {vx : Value} {k n : Nat} (hx : ARel fo (K R φ H) x vx) (hu : (k = 0 ∧ ∃ e, P.underlying t = some (.slice e)) ∨ (k = 1 ∧ P.underlying t = some .string)) (h : lenA H k x = some n) :
    ResV fo B0 w R φ H P (Builtin.len_ #[t] ty #[vx]) (pvInt n) H := by
  rcases hu with ⟨rfl, e, hu⟩ | ⟨rfl, hu⟩
  · have slices : (∃ a c, vx = .slice a n c) → ResV fo B0 w R φ H P (Builtin.len_ #[t] ty #[vx]) (pvInt n) H := by
      rintro ⟨a, c, rfl⟩
      refine Res.same (.int .i64 n) hS ?_ (.atom _ _ (show PRel R _ _ from .int _ _))
      simp [Builtin.len_, run_underlying hu, goInt]
    cases hx with
    | atom x vx hx =>
      cases x with
      | pv p =>
        have hx : PRel R p vx := hx
        cases p with
        | nils => simp [lenA] at h; subst h; cases hx <;> exact slices ⟨_, _, rfl⟩
        | lit s es => simp [lenA] at h; subst h; cases hx <;> exact slices ⟨_, _, rfl⟩
        | _ => simp [lenA] at h
      | uq id nl s es =>
        simp [lenA] at h; subst h
        cases nl with
        | true => obtain ⟨rfl, rfl⟩ := hx.2.1 rfl; exact slices ⟨_, _, rfl⟩
        | false =>
          have := hx.2.2.1 rfl
          cases this <;> exact slices ⟨_, _, rfl⟩
      | own id len =>
        simp only [lenA] at h
        split at h
        · rename_i sz ag c fl nl hc
          split at h
          · rename_i hw
            injection h with h; subst h
            obtain ⟨k0, k⟩ := hx.2.2 _ _ _ _ _ hc
            obtain ⟨k1, k2⟩ := k hw.1
            obtain ⟨h0, h1, h2, _⟩ := hS.obj id _ hc
            cases nl with
            | true =>
              have := h2 rfl
              subst this
              have hl0 : len = 0 := by
                rcases Nat.mul_eq_zero.1 (Nat.le_zero.1 k0) with h | h
                · exact h
                · omega
              subst hl0
              exact slices ⟨_, _, k1 rfl⟩
            | false =>
              rcases k2 rfl with ⟨q1, _, q3⟩ | ⟨b, o, cap, q1, _, _⟩
              · subst q1; exact slices ⟨_, _, q3⟩
              · exact slices ⟨_, _, q1⟩
          · cases h
        · cases h
      | _ => simp [lenA] at h
    | _ => simp [lenA] at h
  · cases x with
    | pv p =>
      cases p with
      | str s =>
        simp [lenA] at h; subst h
        have := hx.pv_inv
        cases this
        refine Res.same (.int .i64 s.size) hS ?_ (.atom _ _ (show PRel R _ _ from .int _ _))
        simp [Builtin.len_, run_underlying hu, goInt]
      | _ => simp [lenA] at h
    | _ => simp [lenA] at h

theorem run_sliceBounds {len cap : Nat} {lo hi : Option Value} {l h : Int} (hlo : (lo = none ∧ l = 0) ∨ ∃ k, lo = some (.int k l)) (hhi : (hi = none ∧ h = len) ∨ ∃ k, hi = some (.int k h)) (isS : Bool) (h0 : 0 ≤ l) (h1 : l ≤ h) (h2 : h ≤ cap) :
    (Instr.sliceBounds isS len cap lo hi none).run P w = .ok (l.toNat, h.toNat, cap) w := by
  have hh : 0 ≤ h := by omega
  have hb : l ≤ (h.toNat : Int) := by omega
  rcases hlo with ⟨rfl, rfl⟩ | ⟨k, rfl⟩ <;> rcases hhi with ⟨rfl, rfl⟩ | ⟨k', rfl⟩ <;>
    simp [Instr.sliceBounds, Instr.sliceBound, asIntOf, h0, hh, h2, hb] <;> (intro hlt; exfalso; omega)

theorem slice_sim (hS : SRel fo B0 w R φ H) {t : TypeId} {x y : AV} {vx : Value} {sz : Nat} (hx : ARel fo (K R φ H) x vx) (hu : (sz ≠ 0 ∧ ∃ el, P.underlying t = some (.slice el) ∧ sizeP P el = some sz) ∨ (sz = 0 ∧ P.underlying t = some .string))
    {lo hi : Option Value} {lo' hi' : Option Int} (hlo : (lo = none ∧ lo' = none) ∨ ∃ k l, lo = some (.int k l) ∧ lo' = some l) (hhi : (hi = none ∧ hi' = none) ∨ ∃ k h, hi = some (.int k h) ∧ hi' = some h)
    (h : sliceA H sz x lo' hi' = some y) : ResV fo B0 w R φ H P (Instr.sliceAt t vx lo hi none) y H := by
  have hb1 : (lo = none ∧ lo'.getD 0 = 0) ∨ ∃ k, lo = some (.int k (lo'.getD 0)) := by
    rcases hlo with ⟨rfl, rfl⟩ | ⟨k, l, rfl, rfl⟩
    · exact .inl ⟨rfl, rfl⟩
    · exact .inr ⟨k, rfl⟩
  have hb2 : ∀ n : Nat, (hi = none ∧ hi'.getD n = n) ∨ ∃ k, hi = some (.int k (hi'.getD n)) := by
    intro n
    rcases hhi with ⟨rfl, rfl⟩ | ⟨k, l, rfl, rfl⟩
    · exact .inl ⟨rfl, rfl⟩
    · exact .inr ⟨k, rfl⟩
  have litc : ∀ {es : List PV}, sz ≠ 0 → PRel R (.lit sz es) vx → 0 ≤ lo'.getD 0 → lo'.getD 0 ≤ hi'.getD (es.length : Int) → hi'.getD (es.length : Int) ≤ (es.length : Int) →
      ResV fo B0 w R φ H P (Instr.sliceAt t vx lo hi none) (.pv (.lit sz ((es.take (hi'.getD (es.length : Int)).toNat).drop (lo'.getD 0).toNat))) H := by
    intro es hsz hp h1 h2 h3
    obtain ⟨_, el, hut, hel⟩ := hu.resolve_right (fun h => hsz h.1)
    cases hp with
    | lit _ _ b o cap c1 c2 c3 =>
      have hrun := run_sliceBounds (P := P) (w := w) (cap := cap) hb1 (hb2 es.length) true h1 h2 (by omega)
      have hlen : ((es.take (hi'.getD (es.length : Int)).toNat).drop (lo'.getD 0).toNat).length = (hi'.getD (es.length : Int)).toNat - (lo'.getD 0).toNat := by simp; omega
      have hmem : ∀ e ∈ (es.take (hi'.getD (es.length : Int)).toNat).drop (lo'.getD 0).toNat, e.cells.length = sz := fun e he => c2 e (List.mem_of_mem_take (List.mem_of_mem_drop he))
      have hmem1 : ∀ e ∈ es.take (hi'.getD (es.length : Int)).toNat, e.cells.length = sz := fun e he => c2 e (List.mem_of_mem_take he)
      by_cases hm : cap = (lo'.getD 0).toNat
      · refine Res.same (.slice (some ⟨b, o, none⟩) ((hi'.getD (es.length : Int)).toNat - (lo'.getD 0).toNat) (cap - (lo'.getD 0).toNat)) hS ?_ (.atom _ _ ?_)
        · simp [Instr.sliceAt, Instr.slice, run_underlying hut, hrun, run_sizeOf' hel]
          intro hne; exact absurd hm hne
        · have h0 : (es.take (hi'.getD (es.length : Int)).toNat).drop (lo'.getD 0).toNat = [] := List.eq_nil_of_length_eq_zero (by omega)
          show PRel _ _ _
          have := PRel.lit (R := R) sz ((es.take (hi'.getD (es.length : Int)).toNat).drop (lo'.getD 0).toNat) b o (cap - (lo'.getD 0).toNat) (by omega) hmem (by rw [h0]; exact .nil _ _)
          rw [hlen] at this
          exact this
      · refine Res.same (.slice (some ⟨b, o + (lo'.getD 0).toNat * sz, none⟩) ((hi'.getD (es.length : Int)).toNat - (lo'.getD 0).toNat) (cap - (lo'.getD 0).toNat)) hS ?_ (.atom _ _ ?_)
        · simp [Instr.sliceAt, Instr.slice, run_underlying hut, hrun, run_sizeOf' hel, hm, addr_add]
        · show PRel _ _ _
          have := PRel.lit (R := R) sz ((es.take (hi'.getD (es.length : Int)).toNat).drop (lo'.getD 0).toNat) b (o + (lo'.getD 0).toNat * sz) (cap - (lo'.getD 0).toNat) (by omega) hmem (by
            rw [flat_drop hmem1, flat_take c2]
            exact (c3.take _).drop _)
          rw [hlen] at this
          exact this
    | lit0 _ a =>
      have e1 : hi'.getD (([] : List PV).length : Int) = 0 := by simp only [List.length_nil] at h2 h3 ⊢; omega
      have e2 : lo'.getD 0 = 0 := by omega
      have hrun := run_sliceBounds (P := P) (w := w) (cap := 0) hb1 (hb2 0) true h1 h2 (by simpa using h3)
      have e3 : hi'.getD ((0 : Nat) : Int) = 0 := e1
      rw [e2, e3] at hrun
      refine Res.same (.slice (some a) 0 0) hS ?_ (.atom _ _ (by simp only [List.take_nil, List.drop_nil]; exact (show PRel R _ _ from .lit0 _ _)))
      simp [Instr.sliceAt, Instr.slice, run_underlying hut, hrun, run_sizeOf' hel]
  have nilc : sz ≠ 0 → vx = .slice none 0 0 → lo'.getD 0 = 0 → hi'.getD 0 = 0 → ResV fo B0 w R φ H P (Instr.sliceAt t vx lo hi none) (.pv .nils) H := by
    intro hsz hv h1 h2
    subst hv
    obtain ⟨_, el, hut, hel⟩ := hu.resolve_right (fun h => hsz h.1)
    have hrun := run_sliceBounds (P := P) (w := w) (len := 0) (cap := 0) hb1 (hb2 0) true (by omega) (by simp [h1, h2]) (by simp [h2])
    rw [h1] at hrun
    have h2' : hi'.getD ((0 : Nat) : Int) = 0 := h2
    rw [h2'] at hrun
    refine Res.same _ hS ?_ (.atom _ _ (show PRel R _ _ from .nils))
    simp at hrun
    simp [Instr.sliceAt, Instr.slice, run_underlying hut, hrun, run_sizeOf' hel]
  cases hx with
  | atom x vx hx =>
    cases x with
    | pv p =>
      have hx : PRel R p vx := hx
      cases p with
      | nils =>
        simp only [sliceA] at h
        split at h
        · rename_i hc
          injection h with h; subst h
          cases hx
          exact nilc (by omega) rfl hc.2.1 hc.2.2
        · cases h
      | lit s es =>
        simp only [sliceA] at h
        split at h
        · rename_i hc
          obtain ⟨c0, rfl, c1, c2, c3⟩ := hc
          injection h with h; subst h
          exact litc (by omega) hx c1 c2 c3
        · cases h
      | str s =>
        simp only [sliceA] at h
        split at h
        · rename_i hc
          obtain ⟨c0, c1, c2, c3⟩ := hc
          injection h with h; subst h
          cases hx
          have hut := (hu.resolve_left (fun h => h.1 c0)).2
          have hrun := run_sliceBounds (P := P) (w := w) (len := s.size) (cap := s.size) hb1 (hb2 s.size) false c1 c2 c3
          refine Res.same _ hS ?_ (.atom _ _ (show PRel R _ _ from .str _))
          simp [Instr.sliceAt, Instr.slice, run_underlying hut, hrun]
        · cases h
      | _ => simp [sliceA] at h
    | uq id nl s es =>
      simp only [sliceA] at h
      split at h
      · rename_i hc
        obtain ⟨c0, rfl, c1, c2, c3⟩ := hc
        injection h with h; subst h
        cases nl with
        | true =>
          obtain ⟨rfl, rfl⟩ := hx.2.1 rfl
          simp at c2 c3
          refine nilc (by omega) rfl ?_ ?_ <;> omega
        | false => exact litc (by omega) (hx.2.2.1 rfl) c1 c2 c3
      · cases h
    | _ => simp [sliceA] at h
  | _ => simp [sliceA] at h

end ops
end Go.AM
