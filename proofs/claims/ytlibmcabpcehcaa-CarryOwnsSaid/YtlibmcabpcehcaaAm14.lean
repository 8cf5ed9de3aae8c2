/- The abstract machine, part 14: the rest of the plain operations. -/
import Derived.Test.YtlibmcabpcehcaaAm13
set_option linter.unusedSimpArgs false
set_option linter.unusedVariables false
namespace Go.AM
open Go.RowKit

section ops
variable {P : Program} {fo : Nat → FuncId} {B0 : Base} {w : World} {R : Rd} {φ : Pl} {H : List AObj} {e : Tr} {a : Act}

theorem append_nils (hS : SRel fo B0 w R φ H) {t tx ty el : TypeId} {sz bytes : Nat} (hA : AppOk P t tx el sz bytes) {ys : List PV} {vx : Value} {x : AV} (hx : ARel fo (K R φ H) x vx) (hy : elemsP sz x = some ys)
    (hroomb : ys.length * bytes ≤ 140737488355328) {hold : Hold} {v : AV} {H' : List AObj}
    (h : nilApp H hold sz ys = some (v, H')) : ResV fo B0 w R φ H P (Builtin.append_ #[t, tx] ty #[.slice none 0 0, vx]) v H' := by
  obtain ⟨news, hl, hsrc, hey⟩ := src_sim (P := P) hS hx hy
  obtain ⟨dx, hux, hdx⟩ := hA.hx
  cases ys with
  | nil =>
    have hnews : news = [] := List.eq_nil_of_length_eq_zero (by rw [hsrc.num]; simp)
    subst hnews
    simp [nilApp] at h
    obtain ⟨rfl, rfl⟩ := h
    exact Res.same _ hS (run_append_nil (ty := ty) hA.hu hux hdx hA.hsize hsrc) (.atom _ _ (show PRel R _ _ from .nils))
  | cons y ys =>
    obtain ⟨C, rest, w', hrun, hC, hrest, hheap, hos, htape, hout⟩ := run_append_grow (ty := ty) (n0 := 0) (cap := 0) (olds := []) (base := none) hA.hu hux hdx hA.hsize hA.hbytes hA.pos hA.hzero hsrc (fun d => by simp [Builtin.firstCells]) (by simp) (by simpa using hroomb)
    rw [ResV, hrun]
    simp only [Nat.zero_add, List.nil_append] at hC hrest hheap ⊢
    have hfit : (news ++ rest).length = C * sz := by
      rw [List.length_append, hsrc.num, hrest, ← Nat.add_mul]; congr 1; omega
    have := fresh_els (fo := fo) (B0 := B0) hS hl hsrc.one hA.pos' hey hfit (fun o _ h => by omega) hheap hos htape hout
    cases hold with
    | lit => simp only [nilApp, Option.some.injEq, Prod.mk.injEq] at h; obtain ⟨rfl, rfl⟩ := h; exact this.1
    | uq => simp only [nilApp, Option.some.injEq, Prod.mk.injEq] at h; obtain ⟨rfl, rfl⟩ := h; exact this.2
    | own => simp [nilApp] at h

theorem s2b_sim (hS : SRel fo B0 w R φ H) {s d el : TypeId} {ds : TypeDesc} (hs : P.underlying s = some ds) (hd : P.underlying d = some (.slice el)) (he : P.underlying el = some (.int .u8)) {b : ByteArray}
    {hold : Hold} {v : AV} {H' : List AObj} (hfr : fresh H hold 1 false b.size (b.data.toList.map fun x => AV.pv (.int .u8 x.toNat)) = some (v, H')) :
    ResV fo B0 w R φ H P (convert s d (.string b)) v H' := by
  have hbl : b.data.toList.length = b.size := by rw [Array.length_toList]; rfl
  have hforced : (Question.appendCap b.size 0 el).forced = false := rfl
  have hcap : b.size ≤ (Question.appendCap b.size 0 el).cut (w.tape w.drawn (.appendCap b.size 0 el)) := by simp only [Question.cut]; omega
  have hch : (choose (.appendCap b.size 0 el)).run P w = .ok ((Question.appendCap b.size 0 el).cut (w.tape w.drawn (.appendCap b.size 0 el))) (wd w (w.drawn + 1)) := by
    simp [hforced]; rfl
  generalize (Question.appendCap b.size 0 el).cut (w.tape w.drawn (.appendCap b.size 0 el)) = C at hch hcap
  have hvs : ALRel fo (K R φ H) (b.data.toList.map fun x => AV.pv (.int .u8 x.toNat)) (b.data.toList.map fun x => Value.int .u8 x.toNat) := ALRel.map_of _ fun x _ => .atom _ _ (show PRel R _ _ from .int _ _)
  have h1 : (b.data.toList.map fun x => AV.pv (.int .u8 x.toNat)).all AV.one = true := by
    rw [List.all_eq_true]
    intro x hx
    simp only [List.mem_map] at hx
    obtain ⟨y, _, rfl⟩ := hx
    rfl
  have harr : (b.data.map fun x => Value.int .u8 x.toNat) ++ Array.replicate (C - b.size) (Value.int .u8 0) = ⟨(b.data.toList.map fun x => Value.int .u8 x.toNat) ++ List.replicate (C - b.size) (Value.int .u8 0)⟩ := by
    apply Array.ext'; simp
  have hlen : ((b.data.toList.map fun x => Value.int .u8 x.toNat) ++ List.replicate (C - b.size) (Value.int .u8 0)).length = C * 1 := by
    rw [List.length_append, List.length_map, hbl, List.length_replicate]; omega
  have := fresh_sim (w' := { wd w (w.drawn + 1) with heap := w.heap.push (.cells ⟨(b.data.toList.map fun x => Value.int .u8 x.toNat) ++ List.replicate (C - b.size) (Value.int .u8 0)⟩ el (C, C + 1)) }) hS (rest := List.replicate (C - b.size) (Value.int .u8 0)) hvs h1 (sz := 1) (n := b.size) (cap := C) (by omega)
    (by rw [List.length_map, hbl]; omega) hlen (fun _ => rfl) (fun o ho h => by rw [hlen] at ho; simp at h; omega) rfl rfl rfl rfl hfr
  have hrun : (convert s d (.string b)).run P w = .ok (.slice (some ⟨w.heap.size, 0, none⟩) b.size C) { wd w (w.drawn + 1) with heap := w.heap.push (.cells ⟨(b.data.toList.map fun x => Value.int .u8 x.toNat) ++ List.replicate (C - b.size) (Value.int .u8 0)⟩ el (C, C + 1)) } := by
    have hshape : World.shape? { wd w (w.drawn + 1) with heap := w.heap.push (.cells ⟨(b.data.toList.map fun x => Value.int .u8 x.toNat) ++ List.replicate (C - b.size) (Value.int .u8 0)⟩ el) } w.heap.size = some (el, C) := by
      simp [World.shape?]; omega
    have hfreeze : World.freeze { wd w (w.drawn + 1) with heap := w.heap.push (.cells ⟨(b.data.toList.map fun x => Value.int .u8 x.toNat) ++ List.replicate (C - b.size) (Value.int .u8 0)⟩ el) } ⟨w.heap.size, C, none⟩ 1 =
        { wd w (w.drawn + 1) with heap := w.heap.push (.cells ⟨(b.data.toList.map fun x => Value.int .u8 x.toNat) ++ List.replicate (C - b.size) (Value.int .u8 0)⟩ el (C, C + 1)) } := by
      simp only [World.freeze]
      rw [if_neg (by omega)]
      congr 1
      apply Array.ext_getElem?
      intro i
      rw [Array.getElem?_modify, Array.getElem?_push, Array.getElem?_push]
      by_cases hi : i = w.heap.size
      · subst hi; simp
      · simp [hi, Ne.symm hi]
    have hconv : (Conv.stringToBytes el b).run P w = .ok (.slice (some ⟨w.heap.size, 0, none⟩) b.size C) { wd w (w.drawn + 1) with heap := w.heap.push (.cells ⟨(b.data.toList.map fun x => Value.int .u8 x.toNat) ++ List.replicate (C - b.size) (Value.int .u8 0)⟩ el (C, C + 1)) } := by
      simp only [Conv.stringToBytes, Sem.run_bind, hch, Result.andThen_ok, newRow, harr, run_newObj, Sem.run_pure, markStringish, run_shape]
      rw [show (wd w (w.drawn + 1)).heap = w.heap from rfl]
      simp only [hshape, run_freeze, Result.andThen_ok, hfreeze]
    cases ds <;> simp [convert, run_underlying hs, run_underlying hd, run_underlying he, hconv]
  rw [ResV, hrun]
  exact this

theorem part_run {t : TypeId} {ag : Bool} {n off : Nat} {cs : Array Value} (ha : aggP P t = some ag) (hn : ag = true → sizeP P t = some n) (hv : ag = false → ∃ v, cs[off]? = some v) :
    (part t cs off).run P w = .ok (if ag then .agg (cs.extract off (off + n)) else cs.getD off undef) w := by
  cases ag with
  | true => simp [part, run_isAgg' ha, run_sizeOf' (hn rfl)]
  | false =>
    obtain ⟨v, hv⟩ := hv rfl
    simp [part, run_isAgg' ha, hv, Array.getD_eq_getD_getElem?]

theorem fldP_sim (hS : SRel fo B0 w R φ H) {t : TypeId} {ag : Bool} {n off : Nat} {cs : List PV} {vs : List Value} (ha : aggP P t = some ag) (hn : ag = true → sizeP P t = some n) (hl : LRel R cs vs) {p : PV} (hp : partP ag n cs off = some p) :
    ResV fo B0 w R φ H P (part t ⟨vs⟩ off) (.pv p) H := by
  cases ag with
  | true =>
    simp only [partP, if_true] at hp
    split at hp
    · injection hp with hp; subst hp
      refine Res.same _ hS (part_run ha hn (fun h => by cases h)) (.atom _ _ ?_)
      show PRel _ _ _
      have : (⟨vs⟩ : Array Value).extract off (off + n) = ⟨(vs.drop off).take n⟩ := by
        apply Array.ext'; simp [List.extract_eq_take_drop]
      simp only [if_true, this]
      exact .agg _ _ ((hl.drop off).take n)
    · cases hp
  | false =>
    simp only [partP, Bool.false_eq_true, if_false] at hp
    obtain ⟨v, hv, h2⟩ := hl.get hp
    refine Res.same v hS ?_ (.atom _ _ h2)
    rw [part_run (cs := ⟨vs⟩) ha hn (fun _ => ⟨v, by simpa using hv⟩)]
    simp [Array.getD_eq_getD_getElem?, hv]

theorem fldA_sim (hS : SRel fo B0 w R φ H) {t : TypeId} {ag : Bool} {n off : Nat} {cs : List AV} {vs : List Value} (ha : aggP P t = some ag) (hn : ag = true → sizeP P t = some n) (hl : ALRel fo (K R φ H) cs vs) {p : AV} (hp : partA ag n cs off = some p) :
    ResV fo B0 w R φ H P (part t ⟨vs⟩ off) p H := by
  cases ag with
  | true =>
    simp only [partA, if_true] at hp
    split at hp
    · injection hp with hp; subst hp
      refine Res.same _ hS (part_run ha hn (fun h => by cases h)) ?_
      have : (⟨vs⟩ : Array Value).extract off (off + n) = ⟨(vs.drop off).take n⟩ := by
        apply Array.ext'; simp [List.extract_eq_take_drop]
      simp only [if_true, this]
      exact mkAgg_rel ((hl.drop off).take n)
    · cases hp
  | false =>
    simp only [partA, Bool.false_eq_true, if_false] at hp
    obtain ⟨v, hv, h2⟩ := hl.get hp
    refine Res.same v hS ?_ h2
    rw [part_run (cs := ⟨vs⟩) ha hn (fun _ => ⟨v, by simpa using hv⟩)]
    simp [Array.getD_eq_getD_getElem?, hv]

theorem agg_inv {x : AV} {vx : Value} (hx : ARel fo (K R φ H) x vx) : (∀ cs, x = .pv (.agg cs) → ∃ vs, vx = .agg ⟨vs⟩ ∧ LRel R cs vs) ∧ (∀ cs, x = .agg cs → ∃ vs, vx = .agg ⟨vs⟩ ∧ ALRel fo (K R φ H) cs vs) := by
  constructor
  · rintro cs rfl
    have := hx.pv_inv
    cases this with | agg _ vs h => exact ⟨vs, rfl, h⟩
  · rintro cs rfl
    cases hx with
    | atom _ _ h => exact h.elim
    | agg _ vs h => exact ⟨vs, rfl, h⟩

theorem tup_inv {x : AV} {vx : Value} (hx : ARel fo (K R φ H) x vx) : (∀ cs, x = .pv (.tup cs) → ∃ vs, vx = .tuple ⟨vs⟩ ∧ LRel R cs vs) ∧ (∀ cs, x = .tup cs → ∃ vs, vx = .tuple ⟨vs⟩ ∧ ALRel fo (K R φ H) cs vs) := by
  constructor
  · rintro cs rfl
    have := hx.pv_inv
    cases this with | tup _ vs h => exact ⟨vs, rfl, h⟩
  · rintro cs rfl
    cases hx with
    | atom _ _ h => exact h.elim
    | tup _ vs h => exact ⟨vs, rfl, h⟩

theorem best_run (mx : Bool) : ∀ {xs : List AV} {vs : List Value} {k : IntKind} {x : Int} {p : PV}, ALRel fo (K R φ H) xs vs → bestOf mx k x xs = some p → ∃ v, (vs.foldlM (if mx then Builtin.max2 else Builtin.min2) (.int k x)).run P w = .ok v w ∧ PRel R p v
  | [], _, k, x, p, h, hb => by
    cases h
    simp [bestOf] at hb; subst hb
    exact ⟨.int k x, by simp, .int _ _⟩
  | .pv (.int k' y) :: xs, _, k, x, p, h, hb => by
    cases h with
    | cons _ _ v vs h1 h2 =>
      rw [asInt_rel h1 rfl]
      simp only [bestOf] at hb
      obtain ⟨u, q1, q2⟩ := best_run mx h2 hb
      refine ⟨u, ?_, q2⟩
      rw [← q1]
      cases mx <;> simp [List.foldlM_cons, Builtin.max2, Builtin.min2]
  | .pv (.bool _) :: _, _, _, _, _, _, hb => by simp [bestOf] at hb
  | .pv (.str _) :: _, _, _, _, _, _, hb => by simp [bestOf] at hb
  | .pv .nilp :: _, _, _, _, _, _, hb => by simp [bestOf] at hb
  | .pv .nils :: _, _, _, _, _, _, hb => by simp [bestOf] at hb
  | .pv .nilm :: _, _, _, _, _, _, hb => by simp [bestOf] at hb
  | .pv .nilf :: _, _, _, _, _, _, hb => by simp [bestOf] at hb
  | .pv .nili :: _, _, _, _, _, _, hb => by simp [bestOf] at hb
  | .pv (.rp _ _) :: _, _, _, _, _, _, hb => by simp [bestOf] at hb
  | .pv (.lit _ _) :: _, _, _, _, _, _, hb => by simp [bestOf] at hb
  | .pv (.agg _) :: _, _, _, _, _, _, hb => by simp [bestOf] at hb
  | .pv (.tup _) :: _, _, _, _, _, _, hb => by simp [bestOf] at hb
  | .pv (.iface _ _) :: _, _, _, _, _, _, hb => by simp [bestOf] at hb
  | .ptr _ _ :: _, _, _, _, _, _, hb => by simp [bestOf] at hb
  | .eptr _ _ _ :: _, _, _, _, _, _, hb => by simp [bestOf] at hb
  | .uq _ _ _ _ :: _, _, _, _, _, _, hb => by simp [bestOf] at hb
  | .own _ _ :: _, _, _, _, _, _, hb => by simp [bestOf] at hb
  | .clo _ _ :: _, _, _, _, _, _, hb => by simp [bestOf] at hb
  | .mp _ :: _, _, _, _, _, _, hb => by simp [bestOf] at hb
  | .agg _ :: _, _, _, _, _, _, hb => by simp [bestOf] at hb
  | .tup _ :: _, _, _, _, _, _, hb => by simp [bestOf] at hb
  | .undef :: _, _, _, _, _, _, hb => by simp [bestOf] at hb

end ops
end Go.AM
