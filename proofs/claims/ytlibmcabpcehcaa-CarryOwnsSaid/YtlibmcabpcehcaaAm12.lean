/- The abstract machine, part 12: numbers, texts, parts, composites. -/
import Derived.Test.YtlibmcabpcehcaaAm11
set_option linter.unusedSimpArgs false
set_option linter.unusedVariables false
namespace Go.AM
open Go.RowKit

section ops
variable {P : Program} {fo : Nat → FuncId} {B0 : Base} {w : World} {R : Rd} {φ : Pl} {H : List AObj} {e : Tr} {a : Act}

theorem bin_run {op : BinOp} {x y : AV} {vx vy : Value} {p : PV} (hx : ARel fo (K R φ H) x vx) (hy : ARel fo (K R φ H) y vy) (h : binA op x y = some p) (t : TypeId) (ox oy : Operand) :
    ∃ v, (do eqGuard op t ox oy vx vy; binOp op t vx vy : Sem Value).run P w = .ok v w ∧ PRel R p v := by
  have ints : ∀ {k : IntKind} {m n : Int}, vx = .int k m → vy = .int k n → (op ≠ .shl) → (op ≠ .shr) → intBin op k m n = some p → ∃ v, (do eqGuard op t ox oy vx vy; binOp op t vx vy : Sem Value).run P w = .ok v w ∧ PRel R p v := by
    rintro k m n rfl rfl h1 h2 hb
    cases op <;> simp only [intBin] at hb <;> first
      | exact absurd rfl h1
      | exact absurd rfl h2
      | (cases hb; done)
      | (injection hb with hb; subst hb; exact ⟨_, by simp [eqGuard, binOp, Op.intArith, Op.intBits, Op.intCmp]; rfl, by constructor⟩)
      | (injection hb with hb; subst hb; exact ⟨.int k _, rfl, .int _ _⟩)
      | (split at hb
         · cases hb
         · rename_i hn; injection hb with hb; subst hb; exact ⟨_, by simp [eqGuard, binOp, Op.intDiv, hn]; rfl, by constructor⟩)
  have shifts : ∀ {k k' : IntKind} {m n : Int}, vx = .int k m → vy = .int k' n → ¬ n < 0 → (op = .shl ∧ p = .int k (k.wrap (m * 2 ^ (min n.toNat k.bits)))) ∨ (op = .shr ∧ p = .int k (m.fdiv (2 ^ (min n.toNat k.bits)))) →
      ∃ v, (do eqGuard op t ox oy vx vy; binOp op t vx vy : Sem Value).run P w = .ok v w ∧ PRel R p v := by
    rintro k k' m n rfl rfl hn hp
    rcases hp with ⟨rfl, rfl⟩ | ⟨rfl, rfl⟩ <;> exact ⟨_, by simp [eqGuard, binOp, Op.shift, hn]; rfl, by constructor⟩
  have strs : ∀ {s u : ByteArray}, vx = .string s → vy = .string u → strBin op s u = some p → ∃ v, (do eqGuard op t ox oy vx vy; binOp op t vx vy : Sem Value).run P w = .ok v w ∧ PRel R p v := by
    rintro s u rfl rfl hb
    cases op <;> simp only [strBin] at hb <;> first
      | cases hb; done
      | (injection hb with hb; subst hb; exact ⟨_, by simp [eqGuard, binOp, Op.stringOp, ByteArray.toList_eq]; rfl, by constructor⟩)
      | (injection hb with hb; subst hb; rw [← ByteArray.toList_eq, ← ByteArray.toList_eq]; exact ⟨.bool _, rfl, .bool _⟩)
      | (split at hb
         · rename_i hn
           injection hb with hb; subst hb
           have hn' : ¬ (((s.size + u.size : Nat) : Int) > IntKind.i64.max) := by omega
           exact ⟨_, by simp only [eqGuard, binOp, Op.stringOp, if_neg hn']; simp; rfl, by constructor⟩
         · cases hb)
  unfold binA at h
  split at h
  · split at h
    · cases h
    · rename_i hn
      injection h with h
      refine shifts (asInt_rel hx rfl) (asInt_rel hy rfl) hn (.inl ⟨rfl, h.symm⟩)
  · split at h
    · cases h
    · rename_i hn
      injection h with h
      refine shifts (asInt_rel hx rfl) (asInt_rel hy rfl) hn (.inr ⟨rfl, h.symm⟩)
  · rename_i h1 h2
    split at h
    · rename_i hk
      subst hk
      exact ints (asInt_rel hx rfl) (asInt_rel hy rfl) (fun e => h1 e) (fun e => h2 e) h
    · cases h
  · have h1 := hx.pv_inv
    have h2 := hy.pv_inv
    cases h1; cases h2
    exact strs rfl rfl h
  · cases h

theorem un_run {op : UnOp} {x : AV} {vx : Value} {p : PV} (hx : ARel fo (K R φ H) x vx) (h : unA op x = some p) : ∃ v, (Op.unary op vx).run P w = .ok v w ∧ PRel R p v := by
  unfold unA at h
  split at h
  · injection h with h; subst h
    rw [asInt_rel hx rfl]
    exact ⟨_, by simp [Op.unary, Op.intArith]; rfl, by simpa using PRel.int _ _⟩
  · injection h with h; subst h
    rw [asBool_rel hx rfl]
    exact ⟨_, by simp [Op.unary]; rfl, by constructor⟩
  · injection h with h; subst h
    rw [asInt_rel hx rfl]
    exact ⟨_, by simp [Op.unary, Op.intBits]; rfl, by constructor⟩
  · cases h

theorem conv_run {s d : TypeId} {ds : TypeDesc} {k k' : IntKind} {n : Int} (hs : P.underlying s = some ds) (hd : P.underlying d = some (.int k)) : (convert s d (.int k' n)).run P w = .ok (.int k (k.wrap n)) w := by
  simp [convert, run_underlying hs, run_underlying hd, Conv.intToInt]

theorem bytes_rel {es : List PV} {l : List UInt8} {vs : List Value} (hb : bytesOf es = some l) (hl : LRel R es vs) : ∃ ns : List Int, vs = ns.map (Value.int .u8) ∧ l = ns.map fun n => UInt8.ofNat n.toNat := by
  induction es generalizing l vs with
  | nil => simp [bytesOf] at hb; subst hb; cases hl; exact ⟨[], rfl, rfl⟩
  | cons p es ih =>
    cases p with
    | int k n =>
      cases k with
      | u8 =>
        simp only [bytesOf, Option.map_eq_some_iff] at hb
        obtain ⟨l', h1, rfl⟩ := hb
        cases hl with
        | cons _ _ v vs h2 h3 =>
          cases h2
          obtain ⟨ns, rfl, rfl⟩ := ih h1 h3
          exact ⟨n :: ns, rfl, rfl⟩
      | _ => simp [bytesOf] at hb
    | _ => simp [bytesOf] at hb

theorem foldl_push (ns : List Int) (s : ByteArray) : (ns.foldl (fun r n => r.push (UInt8.ofNat n.toNat)) s).data.toList = s.data.toList ++ ns.map fun n => UInt8.ofNat n.toNat := by
  induction ns generalizing s with
  | nil => simp
  | cons n ns ih => simp [ih]

theorem flat_bytes {es : List PV} {l : List UInt8} (h : bytesOf es = some l) : flat es = es := by
  induction es generalizing l with
  | nil => rfl
  | cons p es ih =>
    cases p with
    | int k n =>
      cases k with
      | u8 =>
        simp only [bytesOf, Option.map_eq_some_iff] at h
        obtain ⟨l', h1, _⟩ := h
        simp [flat, PV.cells, ih h1]
      | _ => simp [bytesOf] at h
    | _ => simp [bytesOf] at h

theorem b2s_lit (hS : SRel fo B0 w R φ H) {es : List PV} {l : List UInt8} {vx : Value} (hp : PRel R (.lit 1 es) vx) (hb : bytesOf es = some l) : (Conv.bytesToString vx).run P w = .ok (.string ⟨l.toArray⟩) w := by
  cases hp with
  | lit _ _ b o cap h1 h2 h3 =>
    obtain ⟨vs, k1, k2, k3⟩ := h3.list
    rw [flat_bytes hb] at k1
    obtain ⟨ns, rfl, rfl⟩ := bytes_rel hb k1
    have hl := k1.length
    have := run_bytesToString (P := P) w ⟨b, o, none⟩ es.length cap ns (by
      have := run_loadCells' (P := P) (w := w) (b := b) (o := o) (vs := ns.map (Value.int .u8)) (fun j v hj => hS.sub _ _ _ (k3 j v hj)) hl
      simpa using this)
    rw [this]
    congr 2
    have h4 := foldl_push ns ByteArray.empty
    generalize ns.foldl (fun r n => r.push (UInt8.ofNat n.toNat)) ByteArray.empty = z at h4
    obtain ⟨⟨z⟩⟩ := z
    simp at h4
    subst h4
    rfl
  | lit0 _ a =>
    simp only [bytesOf, Option.some.injEq] at hb
    subst hb
    simp [Conv.bytesToString, loadCells, loadCellsFrom]
    rfl

/-! ### laying parts into a row -/

theorem foldl_setRow (off : Nat) : ∀ (vs : List Value) (k : Nat) (cs : Array Value), ((vs.zipIdx k).foldl (fun (cs : Array Value) (x : Value × Nat) => cs.setIfInBounds (off + x.2) x.1) cs).toList = setRow cs.toList (off + k) vs := by
  intro vs
  induction vs with
  | nil => intro k cs; simp [setRow]
  | cons v vs ih =>
    intro k cs
    simp only [List.zipIdx_cons, List.foldl_cons]
    rw [ih]
    simp [setRow, Nat.add_assoc]

theorem fill_rel (place : Nat → Option (Nat × Nat)) : ∀ {parts : List (Nat × Value)} {aparts : List (Nat × Nat × AV)} {cs : Array Value} {acs acs' : List AV}, parts.length = aparts.length →
    (∀ (j : Nat) (i : Nat) (v : Value) (off sz : Nat) (x : AV), parts[j]? = some (i, v) → aparts[j]? = some (off, sz, x) → place i = some (off, sz) ∧ ARel fo (K R φ H) x v) →
    ALRel fo (K R φ H) acs cs.toList → fillA acs aparts = some acs' → ∃ cs', Instr.fill place cs parts = some cs' ∧ ALRel fo (K R φ H) acs' cs'.toList
  | [], [], cs, acs, acs', _, _, hc, h => by
    simp [fillA] at h; subst h
    exact ⟨cs, rfl, hc⟩
  | (i, v) :: parts, (off, sz, x) :: aparts, cs, acs, acs', hl, hp, hc, h => by
    obtain ⟨h1, h2⟩ := hp 0 i v off sz x rfl rfl
    simp only [fillA] at h
    split at h
    · rename_i hcond
      obtain ⟨q1, q2, h3⟩ := hcond
      have hcr := cells_rel h2 h3
      have hlen := hcr.length
      have hcl := hc.length
      have hsz : v.cells.size = sz := by rw [← q1, ← hlen]; simp
      have hfit : ¬ (v.cells.size ≠ sz ∨ off + v.cells.size > cs.size) := by
        have : cs.size = acs.length := by rw [← hcl]; simp
        omega
      have hnew : ALRel fo (K R φ H) (setRow acs off x.cells) (v.cells.zipIdx.foldl (fun (cs : Array Value) (y : Value × Nat) => cs.setIfInBounds (off + y.2) y.1) cs).toList := by
        have : (v.cells.zipIdx.foldl (fun (cs : Array Value) (y : Value × Nat) => cs.setIfInBounds (off + y.2) y.1) cs).toList = setRow cs.toList off v.cells.toList := by
          have := foldl_setRow off v.cells.toList 0 cs
          rw [Nat.add_zero] at this
          rw [← this]
          congr 1
          rw [← Array.foldl_toList, Array.toList_zipIdx]
        rw [this]
        exact hc.setRow off hcr
      obtain ⟨cs', r1, r2⟩ := fill_rel place (parts := parts) (aparts := aparts) (by simpa using hl) (fun j i v off sz x e1 e2 => hp (j + 1) i v off sz x (by simpa using e1) (by simpa using e2)) hnew h
      refine ⟨cs', ?_, r2⟩
      simp only [Instr.fill, h1]
      rw [if_neg (by simpa using hfit)]
      exact r1
    · cases h
  | [], _ :: _, _, _, _, hl, _, _, _ => by simp at hl
  | _ :: _, [], _, _, _, hl, _, _, _ => by simp at hl

theorem fill_size (place : Nat → Option (Nat × Nat)) : ∀ (parts : List (Nat × Value)) (cs cs' : Array Value), Instr.fill place cs parts = some cs' → cs'.size = cs.size
  | [], cs, cs', h => by simp [Instr.fill] at h; rw [h]
  | (i, v) :: parts, cs, cs', h => by
    simp only [Instr.fill] at h
    split at h
    · cases h
    · split at h
      · cases h
      · rw [fill_size place parts _ _ h]
        have key : ∀ (l : List (Value × Nat)) (cs : Array Value) (off : Nat), (l.foldl (fun (cs : Array Value) (x : Value × Nat) => cs.setIfInBounds (off + x.2) x.1) cs).size = cs.size := by
          intro l
          induction l with
          | nil => intro cs off; rfl
          | cons x l ih => intro cs off; simp only [List.foldl_cons]; rw [ih]; simp
        rw [← Array.foldl_toList]
        exact key _ _ _

end ops
end Go.AM
