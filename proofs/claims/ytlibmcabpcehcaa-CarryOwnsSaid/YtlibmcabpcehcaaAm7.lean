/- The abstract machine, part 7: append. -/
import Derived.Test.YtlibmcabpcehcaaAm6
namespace Go.AM
open Go.RowKit

def wd (w : World) (d : Nat) : World := { w with drawn := d }

/-- What is to be appended: so many elements, these cells, in whatever state of the draws. -/
structure Src (P : Program) (w : World) (vx : Value) (sz n : Nat) (news : List Value) : Prop where
  len : ∀ d, (Builtin.lenOf vx).run P (wd w d) = .ok n (wd w d)
  cells : ∀ d, (Builtin.firstCells sz n vx).run P (wd w d) = .ok ⟨news⟩ (wd w d)
  num : news.length = n * sz
  one : ∀ v ∈ news, v.oneCell' = true

section append
variable {P : Program} {fo : Nat → FuncId} {B0 : Base} {w : World} {R : Rd} {φ : Pl} {H : List AObj}

theorem wd_cell (d b o : Nat) : (wd w d).cell? ⟨b, o, none⟩ = w.cell? ⟨b, o, none⟩ := rfl

theorem run_loadCells' {b o : Nat} {vs : List Value} (hc : ∀ j v, vs[j]? = some v → w.cell? ⟨b, o + j, none⟩ = some v) {n : Nat} (hn : vs.length = n) : (loadCells ⟨b, o, none⟩ n).run P w = .ok ⟨vs⟩ w := by
  have := run_loadCells_list (P := P) w ⟨b, o, none⟩ vs (fun j v hv => by rw [addr_add]; exact hc j v hv)
  rw [hn] at this
  simpa using this

theorem Src.slice {b o n cap sz : Nat} {vs : List Value} (hc : ∀ j v, vs[j]? = some v → w.cell? ⟨b, o + j, none⟩ = some v) (hn : vs.length = n * sz) (h1 : ∀ v ∈ vs, v.oneCell' = true) :
    Src P w (.slice (some ⟨b, o, none⟩) n cap) sz n vs :=
  ⟨fun d => by simp [Builtin.lenOf], fun d => by
    show (loadCells _ _).run P _ = _
    exact run_loadCells' (w := wd w d) hc hn, hn, h1⟩

theorem Src.nil (sz : Nat) : Src P w (.slice none 0 0) sz 0 [] :=
  ⟨fun d => by simp [Builtin.lenOf], fun d => by simp [Builtin.firstCells], by simp, by simp⟩

theorem bytes_take (s : ByteArray) : (s.extract 0 s.size).data.toList = s.data.toList := by
  simp

theorem Src.str (s : ByteArray) : Src P w (.string s) 1 s.size (s.data.toList.map fun b => .int .u8 b.toNat) := by
  refine ⟨fun d => by simp [Builtin.lenOf], fun d => ?_, by rw [List.length_map, Array.length_toList, Nat.mul_one]; rfl, ?_⟩
  · simp only [Builtin.firstCells, Sem.run_pure]
    congr 1
    apply Array.ext'
    simp
  · intro v hv
    simp only [List.mem_map] at hv
    obtain ⟨b, _, rfl⟩ := hv
    rfl


/-- The slice that is appended to: where its elements lie. -/
theorem run_append_room {t tx ty e : TypeId} {dx : TypeDesc} {b n0 cap sz n : Nat} {arr news : List Value} {et : TypeId} {fz : Nat × Nat} {vx : Value} (hu : P.underlying t = some (.slice e)) (hux : P.underlying tx = some dx)
    (hdx : dx = .slice e ∨ dx = .string) (hsz : sizeP P e = some sz) (hs : Src P w vx sz n news) (hb : w.heap[b]? = some (.cells ⟨arr⟩ et fz)) (hf : ∀ j, j < arr.length → ¬ (fz.1 ≤ j ∧ j < fz.2)) (harr : arr.length = cap * sz)
    (hroom : n0 + n ≤ cap) : (Builtin.append_ #[t, tx] ty #[.slice (some ⟨b, 0, none⟩) n0 cap, vx]).run P w = .ok (.slice (some ⟨b, 0, none⟩) (n0 + n) cap) (putB w b (setRow arr (n0 * sz) news) et fz) := by
  have h1 := hs.len w.drawn
  have h2 := hs.cells w.drawn
  rw [show wd w w.drawn = w from rfl] at h1 h2
  have hle : n0 * sz + 0 + news.length ≤ arr.length := by rw [hs.num, harr]; have := Nat.mul_le_mul_right sz hroom; rw [Nat.add_mul] at this; omega
  have h3 := run_storeCells' (P := P) (b := b) (n0 * sz) news 0 arr w hb hf hle hs.one
  rcases hdx with rfl | rfl <;>
    simp [Builtin.append_, run_underlying hu, run_underlying hux, run_sizeOf' hsz, h1, h2, hroom, addr_add, h3]

theorem run_append_nil {t tx ty e : TypeId} {dx : TypeDesc} {sz : Nat} {vx : Value} (hu : P.underlying t = some (.slice e)) (hux : P.underlying tx = some dx)
    (hdx : dx = .slice e ∨ dx = .string) (hsz : sizeP P e = some sz) (hs : Src P w vx sz 0 []) : (Builtin.append_ #[t, tx] ty #[.slice none 0 0, vx]).run P w = .ok (.slice none 0 0) w := by
  have h1 := hs.len w.drawn
  have h2 := hs.cells w.drawn
  rw [show wd w w.drawn = w from rfl] at h1 h2
  rcases hdx with rfl | rfl <;>
    simp [Builtin.append_, run_underlying hu, run_underlying hux, run_sizeOf' hsz, h1, h2]

/-- What an element's type must have: its zero's cells are as many as its size. -/
def zeroP (P : Program) (e : TypeId) (sz : Nat) : Bool :=
  match P.info? e with
  | some i => match i.zero with
    | some z => z.cells.size == sz
    | none => false
  | none => false

theorem run_append_grow {t tx ty e : TypeId} {dx : TypeDesc} {n0 cap sz n bytes : Nat} {olds news : List Value} {base : Option Addr} {vx : Value} (hu : P.underlying t = some (.slice e)) (hux : P.underlying tx = some dx)
    (hdx : dx = .slice e ∨ dx = .string) (hsz : sizeP P e = some sz) (hby : bytesP P e = some bytes) (hb0 : 0 < bytes) (hz : zeroP P e sz = true) (hs : Src P w vx sz n news)
    (ho : ∀ d, (Builtin.firstCells sz n0 (.slice base n0 cap)).run P (wd w d) = .ok ⟨olds⟩ (wd w d)) (hroom : cap < n0 + n) (hbytes : (n0 + n) * bytes ≤ 140737488355328) :
    ∃ newCap rest w', (Builtin.append_ #[t, tx] ty #[.slice base n0 cap, vx]).run P w = .ok (.slice (some ⟨w.heap.size, 0, none⟩) (n0 + n) newCap) w' ∧ n0 + n ≤ newCap ∧ rest.length = (newCap - (n0 + n)) * sz ∧
      w'.heap = w.heap.push (.cells ⟨olds ++ news ++ rest⟩ e) ∧ w'.os = w.os ∧ w'.tape = w.tape ∧ w'.output = w.output := by
  have h1 := hs.len w.drawn
  rw [show wd w w.drawn = w from rfl] at h1
  unfold zeroP at hz
  unfold bytesP at hby
  cases hi : P.info? e with
  | none => simp [hi] at hz
  | some i =>
    simp only [hi] at hz
    cases hzz : i.zero with
    | none => simp [hzz] at hz
    | some z =>
      simp only [hzz, beq_iff_eq] at hz
      simp only [hi, Option.map_some, Option.some.injEq] at hby
      have hnot : ¬ cap ≥ n0 + n := by omega
      have hle := nextslicecap_le hroom
      have hb1 : ¬ (Builtin.nextslicecap (n0 + n) cap * i.bytes > 2 ^ 48) := by
        rw [hby]
        have := Nat.mul_le_mul_right bytes hle
        rw [Nat.mul_assoc] at this
        omega
      have hb2 : ¬ i.bytes = 0 := by omega
      have hcond : ¬ (((n0 + n : Nat) : Int) > IntKind.i64.max ∧ (false = true ∨ i.bytes = 0)) := by
        rintro ⟨_, h | h⟩
        · cases h
        · exact hb2 h
      have h2 := hs.cells (w.drawn + 1)
      have h3 := ho (w.drawn + 1)
      have hforced : (Question.appendCap (n0 + n) cap e).forced = false := rfl
      have hzv : ∀ d, (zeroValue e).run P (wd w d) = .ok z (wd w d) := fun d => by simp [zeroValue, run_typeInfo (wd w d) hi, hzz]
      have hti : ∀ d, (typeInfo e).run P (wd w d) = .ok i (wd w d) := fun d => run_typeInfo (wd w d) hi
      have hti0 : (typeInfo e).run P w = .ok i w := run_typeInfo w hi
      have hch : (choose (.appendCap (n0 + n) cap e)).run P w = .ok ((Question.appendCap (n0 + n) cap e).cut (w.tape w.drawn (.appendCap (n0 + n) cap e))) (wd w (w.drawn + 1)) := by
        simp [hforced]; rfl
      have hcap : n0 + n ≤ (Question.appendCap (n0 + n) cap e).cut (w.tape w.drawn (.appendCap (n0 + n) cap e)) := by simp only [Question.cut]; omega
      generalize (Question.appendCap (n0 + n) cap e).cut (w.tape w.drawn (.appendCap (n0 + n) cap e)) = C at hch hcap
      have hroom' : ¬ n0 + n ≤ cap := by omega
      have hif : (if ((n0 + n : Nat) : Int) > IntKind.i64.max ∧ (false = true ∨ i.bytes = 0) then (runtimePanic (.error "growslice: len out of range") : Sem PUnit) else pure PUnit.unit) = pure PUnit.unit := if_neg hcond
      refine ⟨C, (Builtin.zeroCells z.cells (C - (n0 + n))).toList, { wd w (w.drawn + 1) with heap := w.heap.push (.cells ⟨olds ++ news ++ (Builtin.zeroCells z.cells (C - (n0 + n))).toList⟩ e) }, ?_, hcap, ?_, rfl, rfl, rfl, rfl⟩
      · have harr : (⟨olds⟩ : Array Value) ++ (⟨news⟩ : Array Value) ++ Builtin.zeroCells z.cells (C - (n0 + n)) = ⟨olds ++ news ++ (Builtin.zeroCells z.cells (C - (n0 + n))).toList⟩ := by
          apply Array.ext'; simp
        have hmax : ¬ (IntKind.i64.max < ((n0 + n : Nat) : Int) ∧ i.bytes = 0) := fun h => hb2 h.2
        rcases hdx with rfl | rfl <;>
          simp only [Builtin.append_, List.getElem?_toArray, List.getElem?_cons_zero, List.getElem?_cons_succ, Sem.run_bind, run_underlying hu, run_underlying hux, Result.andThen_ok, run_sizeOf' hsz, Sem.run_pure, Bool.false_eq_true, if_false, h1, hroom', Sem.run_ite,
            hti0, hb1, hb2, hch, h2, h3, hti, hzv, run_askRoom, false_or, and_false, gt_iff_lt, newRow, run_newObj, harr, Bool.not_false, if_true] <;> rfl
      · simp [size_zeroCells, hz]
end append
end Go.AM
