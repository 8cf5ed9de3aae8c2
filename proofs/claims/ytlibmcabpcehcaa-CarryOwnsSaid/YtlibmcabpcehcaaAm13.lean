/- The abstract machine, part 13: composites, slices made, parts of values, equality. -/
import Derived.Test.YtlibmcabpcehcaaAm12
set_option linter.unusedSimpArgs false
set_option linter.unusedVariables false
namespace Go.AM
open Go.RowKit

def repV (zs : List Value) : Nat → List Value
  | 0 => []
  | n + 1 => zs ++ repV zs n

theorem repV_length (zs : List Value) (n : Nat) : (repV zs n).length = n * zs.length := by
  induction n with
  | zero => simp [repV]
  | succ n ih => simp [repV, ih, Nat.add_mul]; omega

theorem repV_add (zs : List Value) (m n : Nat) : repV zs (m + n) = repV zs m ++ repV zs n := by
  induction m with
  | zero => simp [repV]
  | succ m ih => rw [Nat.add_right_comm]; simp [repV, ih]

theorem repV_get (zs : List Value) (h0 : 0 < zs.length) : ∀ (n i : Nat), i < n * zs.length → (repV zs n)[i]? = zs[i % zs.length]? := by
  intro n
  induction n with
  | zero => intro i hi; simp at hi
  | succ n ih =>
    intro i hi
    simp only [repV]
    by_cases hlt : i < zs.length
    · rw [List.getElem?_append_left hlt, Nat.mod_eq_of_lt hlt]
    · rw [List.getElem?_append_right (by omega), ih _ (by rw [Nat.add_mul] at hi; omega)]
      rw [Nat.mod_eq_sub_mod (by omega : i ≥ zs.length)]

theorem range_rep (z : Array Value) (n sz : Nat) (hz : z.size = sz) (h0 : 0 < sz) : ((Array.range (n * sz)).map fun i => z[i % z.size]!).toList = repV z.toList n := by
  apply List.ext_getElem?
  intro i
  by_cases hi : i < n * sz
  · rw [repV_get _ (by simpa [hz] using h0) _ _ (by simpa [hz] using hi)]
    have hm : i % sz < z.size := by rw [hz]; exact Nat.mod_lt _ h0
    simp [hi, hz]
    rw [getElem!_pos z _ hm, getElem?_pos z _ hm]
  · rw [List.getElem?_eq_none (by simp; omega), List.getElem?_eq_none (by rw [repV_length]; simp [hz]; omega)]

section ops
variable {P : Program} {fo : Nat → FuncId} {B0 : Base} {w : World} {R : Rd} {φ : Pl} {H : List AObj} {e : Tr} {a : Act}

theorem repZ_rel {zero : List PV} {zs : List Value} (h : LRel R zero zs) : ∀ n, ALRel fo (K R φ H) (repZ zero n) (repV zs n)
  | 0 => .nil
  | n + 1 => (ALRel.of_pv h).append (repZ_rel h n)

theorem repZ_one {zero : List PV} (h : (zero.map AV.pv).all AV.one = true) : ∀ n, (repZ zero n).all AV.one = true
  | 0 => rfl
  | n + 1 => by simp only [repZ, List.all_append, Bool.and_eq_true]; exact ⟨h, repZ_one h n⟩

/-- An element's type: its size, its zero, whether it is a struct or array. -/
structure ElOk (P : Program) (el : TypeId) (sz : Nat) (ag : Bool) (zero : List PV) : Prop where
  hsize : sizeP P el = some sz
  pos : 0 < sz
  hag : ag = false → sz = 1
  hz : zerosP P el zero = true
  hzl : zero.length = sz

theorem ElOk.zero {el : TypeId} {sz : Nat} {ag : Bool} {zero : List PV} (h : ElOk P el sz ag zero) : ∃ i z, P.info? el = some i ∧ i.zero = some z ∧ z.cells.size = sz ∧ LRel R zero z.cells.toList ∧ (zero.map AV.pv).all AV.one = true := by
  have hz := h.hz
  unfold zerosP at hz
  cases hi : P.info? el with
  | none => simp [hi] at hz
  | some i =>
    simp only [hi] at hz
    cases hzz : i.zero with
    | none => simp [hzz] at hz
    | some z =>
      simp only [hzz] at hz
      obtain ⟨h1, h2⟩ := eqConsts_rel (R := R) hz
      have := h1.length
      exact ⟨i, z, rfl, hzz, by rw [← h.hzl, ← this]; simp, h1, h2⟩

theorem bslice_sim (hS : SRel fo B0 w R φ H) {t el : TypeId} {sz len : Nat} {ag : Bool} {zero : List PV} (hu : P.underlying t = some (.slice el)) (hE : ElOk P el sz ag zero) (hmax : len * sz ≤ 2 ^ 24)
    {parts : List (Nat × Value)} {aparts : List (Nat × Nat × AV)} (hl : parts.length = aparts.length)
    (hp : ∀ (j : Nat) (i : Nat) (v : Value) (off s : Nat) (x : AV), parts[j]? = some (i, v) → aparts[j]? = some (off, s, x) → off = i * sz ∧ s = sz ∧ ARel fo (K R φ H) x v)
    {hold : Hold} {cs : List AV} (hf : fillA (repZ zero len) aparts = some cs) (hone : cs.all AV.one = true) {v : AV} {H' : List AObj} (hfr : fresh H hold sz ag len cs = some (v, H')) :
    ResV fo B0 w R φ H P (Instr.buildSlice t len parts.toArray) v H' := by
  obtain ⟨i, z, hi, hz, hzs, hzr, hz1⟩ := hE.zero (R := R)
  have hpos := hE.pos
  have hzero : (if len * sz = 0 then (pure #[] : Sem (Array Value)) else do pure (← zeroValue el).cells).run P w = .ok (if len * sz = 0 then #[] else z.cells) w := by
    by_cases h0 : len * sz = 0
    · simp [h0]
    · simp [h0, zeroValue, run_typeInfo w hi, hz]
  have hinit : ALRel fo (K R φ H) (repZ zero len) ((Array.range (len * sz)).map fun i => (if len * sz = 0 then #[] else z.cells)[i % (if len * sz = 0 then #[] else z.cells).size]!).toList := by
    by_cases h0 : len * sz = 0
    · have : len = 0 := by
        rcases Nat.mul_eq_zero.1 h0 with h | h
        · exact h
        · omega
      subst this
      simpa [repZ] using ALRel.nil
    · simp only [if_neg h0]
      rw [range_rep _ _ _ hzs hpos]
      exact repZ_rel hzr _
  obtain ⟨cs', hfill, hrel⟩ := fill_rel (fo := fo) (R := R) (φ := φ) (H := H) (fun i => some (i * sz, sz)) hl (fun j i v off s x e1 e2 => by
    obtain ⟨q1, q2, q3⟩ := hp j i v off s x e1 e2
    subst q1 q2
    exact ⟨rfl, q3⟩) hinit hf
  have hlen : cs.length = len * sz := by
    rw [← hrel.length]
    have : cs'.size = len * sz := by
      have h1 := fill_size (fun i => some (i * sz, sz)) _ _ _ hfill
      rw [h1]; simp
    simpa using this
  have := fresh_sim (w' := { w with heap := w.heap.push (.cells ⟨cs'.toList ++ []⟩ el (0, 0)) }) hS (rest := []) hrel hone hpos (n := len) (cap := len) (by rw [hrel.length, hlen]) (by simp; rw [← hlen, ← hrel.length]; simp) hE.hag (fun o _ h => by omega) rfl rfl rfl rfl hfr
  have hle : ¬ (len * sz > 2 ^ 24) := by omega
  have hrun : (Instr.buildSlice t len parts.toArray).run P w = .ok (.slice (some ⟨w.heap.size, 0, none⟩) len len) { w with heap := w.heap.push (.cells ⟨cs'.toList ++ []⟩ el (0, 0)) } := by
    have hpl : parts.toArray.toList = parts := by simp
    by_cases h0 : len * sz = 0
    · simp only [if_pos h0] at hfill
      simp only [Instr.buildSlice, Sem.run_bind, run_underlying hu, Result.andThen_ok, run_sizeOf' hE.hsize, Sem.run_ite, hle, if_false, Sem.run_pure, if_pos h0, hpl, hfill]
      simp [newRow]
    · simp only [if_neg h0] at hfill
      simp only [Instr.buildSlice, Sem.run_bind, run_underlying hu, Result.andThen_ok, run_sizeOf' hE.hsize, Sem.run_ite, hle, if_false, Sem.run_pure, if_neg h0, hpl, zeroValue, run_typeInfo w hi, hz, hfill]
      simp [newRow]
  rw [ResV, hrun]
  exact this

theorem i64_nat {n : Int} (h0 : 0 ≤ n) (h : n ≤ 9223372036854775807) : IntKind.i64.wrap n = n := IntWalk.i64_in _ (by omega)

theorem mkslice_sim (hS : SRel fo B0 w R φ H) {t el : TypeId} {sz bytes : Nat} {ag : Bool} {zero : List PV} (hu : P.underlying t = some (.slice el)) (hE : ElOk P el sz ag zero) (hby : bytesP P el = some bytes) (hb0 : 0 < bytes)
    {k k' : IntKind} {l c : Int} (h0 : 0 ≤ l) (h1 : l ≤ c) (h2 : c.toNat * bytes ≤ 140737488355328) {hold : Hold} {v : AV} {H' : List AObj} (hfr : fresh H hold sz ag l.toNat (repZ zero l.toNat) = some (v, H')) :
    ResV fo B0 w R φ H P (Instr.makeSlice t (.int k l) (.int k' c)) v H' := by
  obtain ⟨i, z, hi, hz, hzs, hzr, hz1⟩ := hE.zero (R := R)
  have hpos := hE.pos
  unfold bytesP at hby
  simp only [hi, Option.map_some, Option.some.injEq] at hby
  have hcb : (c.toNat : Int) = c := by omega
  have hcle : c.toNat ≤ c.toNat * bytes := Nat.le_mul_of_pos_right _ hb0
  have hc63 : c ≤ 9223372036854775807 := by omega
  have hwl := i64_nat h0 (by omega : l ≤ 9223372036854775807)
  have hwc := i64_nat (by omega : 0 ≤ c) hc63
  have hbig : ¬ ((bytes : Int) * c > 2 ^ 48) := by
    have : (bytes : Int) * c = ((c.toNat * bytes : Nat) : Int) := by rw [Nat.mul_comm]; push_cast; rw [hcb]
    rw [this]; omega
  have hbig2 : ¬ ((bytes : Int) * c > 281474976710656) := by simpa using hbig
  obtain ⟨d, hd⟩ : ∃ d : Nat, c.toNat = l.toNat + d := ⟨c.toNat - l.toNat, by omega⟩
  have hzero : (if c.toNat * sz = 0 then (pure #[] : Sem (Array Value)) else do pure (← zeroValue el).cells).run P w = .ok (if c.toNat * sz = 0 then #[] else z.cells) w := by
    by_cases h0 : c.toNat * sz = 0
    · simp [h0]
    · simp [h0, zeroValue, run_typeInfo w hi, hz]
  have harr : ((Array.range (c.toNat * sz)).map fun i => (if c.toNat * sz = 0 then #[] else z.cells)[i % (if c.toNat * sz = 0 then #[] else z.cells).size]!) = ⟨repV z.cells.toList l.toNat ++ repV z.cells.toList d⟩ := by
    apply Array.ext'
    show _ = repV z.cells.toList l.toNat ++ repV z.cells.toList d
    rw [← repV_add, ← hd]
    by_cases h0 : c.toNat * sz = 0
    · have : c.toNat = 0 := by
        rcases Nat.mul_eq_zero.1 h0 with h | h
        · exact h
        · omega
      rw [this]
      simp [repV]
    · simp only [if_neg h0]
      exact range_rep _ _ _ hzs hpos
  have hzl : z.cells.toList.length = sz := by simpa using hzs
  have := fresh_sim (w' := { w with heap := w.heap.push (.cells ⟨repV z.cells.toList l.toNat ++ repV z.cells.toList d⟩ el (0, 0)) }) hS (rest := repV z.cells.toList d) (repZ_rel (fo := fo) (φ := φ) (H := H) hzr l.toNat) (repZ_one hz1 _) hpos (n := l.toNat) (cap := c.toNat)
    (by rw [repV_length, hzl]) (by rw [List.length_append, repV_length, repV_length, hzl, hd, Nat.add_mul]) hE.hag (fun o _ h => by omega) rfl rfl rfl rfl hfr
  have hrun : (Instr.makeSlice t (.int k l) (.int k' c)).run P w = .ok (.slice (some ⟨w.heap.size, 0, none⟩) l.toNat c.toNat) { w with heap := w.heap.push (.cells ⟨repV z.cells.toList l.toNat ++ repV z.cells.toList d⟩ el (0, 0)) } := by
    have hn1 : ¬ (c < 0) := by omega
    have hn2 : ¬ (l < 0) := by omega
    have hn3 : ¬ (l > c) := by omega
    have hif : ((decide (c < 0) || decide ((bytes : Int) * c > 2 ^ 48)) || decide (l < 0) || decide (l > c)) = false := by
      simp only [hn1, hn2, hn3, hbig, decide_false, Bool.or_false]
    by_cases h0 : c.toNat * sz = 0
    · simp only [if_pos h0] at harr
      simp only [Instr.makeSlice, Sem.run_bind, run_underlying hu, Result.andThen_ok, Go.asInt, asIntOf, Sem.run_pure, run_typeInfo w hi, hwl, hwc, hby, hif, Bool.false_eq_true, if_false, run_askRoom, run_sizeOf' hE.hsize, Sem.run_ite, if_pos h0, harr, newRow, run_newObj]
    · simp only [if_neg h0] at harr
      simp only [Instr.makeSlice, Sem.run_bind, run_underlying hu, Result.andThen_ok, Go.asInt, asIntOf, Sem.run_pure, run_typeInfo w hi, hwl, hwc, hby, hif, Bool.false_eq_true, if_false, run_askRoom, run_sizeOf' hE.hsize, Sem.run_ite, if_neg h0, zeroValue, hz, harr, newRow, run_newObj]
  rw [ResV, hrun]
  exact this

end ops
end Go.AM
