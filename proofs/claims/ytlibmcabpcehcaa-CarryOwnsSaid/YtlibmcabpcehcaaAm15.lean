/- The abstract machine, part 15: the check of an operation, and what it is worth. -/
import Derived.Test.YtlibmcabpcehcaaAm14
set_option linter.unusedSimpArgs false
set_option linter.unusedVariables false
namespace Go.AM
open Go.RowKit

def isU (P : Program) (t : TypeId) (f : TypeDesc → Bool) : Bool :=
  match P.underlying t with
  | some d => f d
  | none => false

/-- Types of which two values are compared in one step: bools, pointers, slices, functions. -/
def eqK (P : Program) (t : TypeId) : Option Nat :=
  match P.underlying t with
  | some .bool => some 0
  | some (.pointer _) => some 1
  | some (.slice _) => some 2
  | some (.func _ _ _) => some 3
  | _ => none

def isB (P : Program) (t : TypeId) : Bool :=
  match P.underlying t with
  | some (.int .u8) => true
  | _ => false

def isS (P : Program) (t : TypeId) : Bool :=
  match P.underlying t with
  | some .string => true
  | _ => false

def isI (P : Program) (t : TypeId) (k : IntKind) : Bool :=
  match P.underlying t with
  | some (.int k') => decide (k' = k)
  | _ => false

def slEl (P : Program) (t : TypeId) : Option TypeId :=
  match P.underlying t with
  | some (.slice e) => some e
  | _ => none

def okEl (P : Program) (el : TypeId) (sz : Nat) (ag : Bool) (zero : List PV) : Bool :=
  sizeP P el == some sz && decide (0 < sz) && (ag || sz == 1) && zerosP P el zero && zero.length == sz && aggP P el == some ag

def okApp (P : Program) (t tx e : TypeId) (sz bytes : Nat) : Bool :=
  slEl P t == some e && (isU P tx fun d => match d with | .slice e' => e' == e | .string => true | _ => false) && sizeP P e == some sz && bytesP P e == some bytes && decide (0 < bytes) && decide (0 < sz) && zeroP P e sz

def okParts (fo : Nat → FuncId) : List (Nat × Operand) → List (Nat × AO) → Bool
  | [], [] => true
  | (i, x) :: xs, (j, y) :: ys => i == j && okO fo x y && okParts fo xs ys
  | _, _ => false

def okOpt (fo : Nat → FuncId) : Option Operand → Option AO → Bool
  | none, none => true
  | some x, some y => okO fo x y
  | _, _ => false

def stF (P : Program) (t : TypeId) (f : Nat) : Option Field :=
  match P.underlying t with
  | some (.struct fs) => fs[f]?
  | _ => none

def okBuildS (P : Program) (fo : Nat → FuncId) (fs : Array Field) : List (Nat × Operand) → List (Nat × Nat × AO) → Bool
  | [], [] => true
  | (i, x) :: xs, (off, sz, y) :: ys =>
    (match fs[i]? with | some f => f.offset == off && sizeP P f.type == some sz | none => false) && okO fo x y && okBuildS P fo fs xs ys
  | _, _ => false

/-- The check of an operation that calls nothing. -/
def okOp (P : Program) (fo : Nat → FuncId) : Op → AOp → Bool
  | .move x, .move y => okO fo x y
  | .assign x, .move y => okO fo x y
  | .pick c a b, .pick c' a' b' => okO fo c c' && okO fo a a' && okO fo b b'
  | .alloc t, .alloc zero => zerosP P t zero
  | .box _ x, .box _ y => okO fo x y
  | .build t parts, .build zero aparts =>
    (match P.underlying t with
    | some (.struct fs) => okBuildS P fo fs parts.toList aparts && fs.all fun f => (sizeP P f.type).isSome
    | _ => false) && zerosP P t zero
  | .buildSlice t len parts, .bslice _ sz ag len' zero aparts =>
    (match slEl P t with
    | some el => okEl P el sz ag zero
    | none => false) && len == len' && decide (len * sz ≤ 2 ^ 24) && okParts fo parts.toList aparts
  | .load t x, .load ag n y => aggP P t == some ag && (!ag || sizeP P t == some n) && okO fo x y
  | .store t p x, .store n q y => sizeP P t == some n && okO fo p q && okO fo x y
  | .nilCheck x, .nilck y => okO fo x y
  | .binOp op _ x y _, .bin op' x' y' => decide (op = op') && okO fo x x' && okO fo y y'
  | .binOp .eql t x y _, .eq k false x' y' => eqK P t == some k && okO fo x x' && okO fo y y'
  | .binOp .neq t x y _, .eq k true x' y' => eqK P t == some k && okO fo x x' && okO fo y y'
  | .unOp op _ x, .un op' y => decide (op = op') && okO fo x y
  | .convert s d x, .conv k y => (P.underlying s).isSome && isI P d k && okO fo x y
  | .convert s d x, .b2s y => (match slEl P s with | some el => isB P el | none => false) && isS P d && okO fo x y
  | .convert s d x, .s2b _ y => (P.underlying s).isSome && (match slEl P d with | some el => isB P el | none => false) && okO fo x y
  | .makeFunc (.func f) first caps, .mkfn ix ys => first.size == 0 && fo ix == f && okOs fo caps.toList ys
  | .makeSlice t l c, .mkslice _ sz ag zero bytes l' c' =>
    (match slEl P t with
    | some el => okEl P el sz ag zero && bytesP P el == some bytes
    | none => false) && decide (0 < bytes) && okO fo l l' && okO fo c c'
  | .slice t x lo hi none, .slice sz y lo' hi' =>
    (match P.underlying t with
    | some (.slice el) => sz != 0 && sizeP P el == some sz
    | some .string => sz == 0
    | _ => false) && okO fo x y && okOpt fo lo lo' && okOpt fo hi hi'
  | .fieldAddr t x f, .faddr off y =>
    (match stF P t f with
    | some fd => fd.offset == off && (match sizeP P fd.type with | some n => n != 0 | none => false)
    | none => false) && okO fo x y
  | .field t x f, .fld off ag n y =>
    (match stF P t f with
    | some fd => fd.offset == off && aggP P fd.type == some ag && (!ag || sizeP P fd.type == some n)
    | none => false) && okO fo x y
  | .indexAddr t x i, .iaddr sz y j => (match slEl P t with | some el => sizeP P el == some sz | none => false) && okO fo x y && okO fo i j
  | .indexAddr t x i, .iaddrA n sz y j =>
    (match P.underlying t with
    | some (.array n' el) => n' == n && sizeP P el == some sz
    | _ => false) && okO fo x y && okO fo i j
  | .index t x i, .ixA n sz ag y j =>
    (match P.underlying t with
    | some (.array n' el) => n' == n && sizeP P el == some sz && aggP P el == some ag
    | _ => false) && okO fo x y && okO fo i j
  | .index t x i, .ixS y j => isS P t && okO fo x y && okO fo i j
  | .extract x i, .ext i' y => i == i' && okO fo x y
  | .call { callee := .builtin .len, args, argTypes }, .len k y =>
    (match args.toList, argTypes.toList with
    | [x], [t] => okO fo x y && (match P.underlying t with | some (.slice _) => k == 0 | some .string => k == 1 | _ => false)
    | _, _ => false)
  | .call { callee := .builtin .max, args, .. }, .mx ys => okOs fo args.toList ys
  | .call { callee := .builtin .min, args, .. }, .mn ys => okOs fo args.toList ys
  | .call { callee := .builtin .append, args, argTypes }, .append _ _ sz ag bytes s y =>
    (match args.toList, argTypes.toList with
    | [x, z], [t, tx] => okO fo x s && okO fo z y && (match slEl P t with | some el => okApp P t tx el sz bytes && aggP P el == some ag | none => false)
    | _, _ => false)
  | .box _ x, .boxR _ y => okO fo x y
  | _, _ => false

/-- An operation's own duty: whatever follows it, if it holds where the abstract machine comes to, holds here. -/
def Meets (P : Program) (fo : Nat → FuncId) (B0 : Base) (o : Oper) (a : Act) (w : World) (R : Rd) (φ : Pl) (H : List AObj) (v : AV) (H' : List AObj) : Prop :=
  ∀ (next : Act → World → Prop) (Q : Exit → Act → World → Prop),
    (∀ v' w' R' φ', SRel fo B0 w' R' φ' H' → ARel fo (K R' φ' H') v v' → (∀ a u, K R φ H a u → K R' φ' H' a u) → Below B0 w w' → next (a.put o.dst v') w') → o.wp P a w next Q

section ops
variable {P : Program} {fo : Nat → FuncId} {B0 : Base} {w : World} {R : Rd} {φ : Pl} {H H' : List AObj} {e : Tr} {a : Act}

theorem Meets.of_value {o : Oper} {v : AV} {s : Sem Value} (h : execOp a.eval o = (do pure (.value (← s)))) (hr : ResV fo B0 w R φ H P s v H') : Meets P fo B0 o a w R φ H v H' := by
  intro next Q hn
  obtain ⟨v', w', R', φ', h1, h2, h3, h4, h5⟩ := hr
  unfold Oper.wp
  rw [h, Sem.run_bind, h1]
  exact hn v' w' R' φ' h2 h3 h4 h5

theorem Meets.of_run {o : Oper} {v : AV} {v' : Value} (hS : SRel fo B0 w R φ H) (h : (execOp a.eval o).run P w = .ok (.value v') w) (hv : ARel fo (K R φ H) v v') : Meets P fo B0 o a w R φ H v H := by
  intro next Q hn
  unfold Oper.wp
  rw [h]
  exact hn v' w R φ hS hv (fun _ _ h => h) (Below.refl _ _)

theorem okEl_spec {el : TypeId} {sz : Nat} {ag : Bool} {zero : List PV} (h : okEl P el sz ag zero = true) : ElOk P el sz ag zero := by
  simp only [okEl, Bool.and_eq_true, beq_iff_eq, decide_eq_true_eq, Bool.or_eq_true] at h
  obtain ⟨⟨⟨⟨⟨h1, h2⟩, h3⟩, h4⟩, h5⟩, h6⟩ := h
  exact ⟨h1, h2, fun e => by rcases h3 with h | h; simp [e] at h; exact h, h4, h5⟩

theorem slEl_spec {t el : TypeId} (h : slEl P t = some el) : P.underlying t = some (.slice el) := by
  unfold slEl at h
  split at h
  · rename_i e he; injection h with h; subst h; exact he
  · cases h

theorem isU_spec {t : TypeId} {f : TypeDesc → Bool} (h : isU P t f = true) : ∃ d, P.underlying t = some d ∧ f d = true := by
  unfold isU at h
  split at h
  · rename_i d hd; exact ⟨d, hd, h⟩
  · cases h

theorem okApp_spec {t tx el : TypeId} {sz bytes : Nat} (h : okApp P t tx el sz bytes = true) : AppOk P t tx el sz bytes := by
  simp only [okApp, Bool.and_eq_true, beq_iff_eq, decide_eq_true_eq] at h
  obtain ⟨⟨⟨⟨⟨⟨h1, h2⟩, h3⟩, h4⟩, h5⟩, h6⟩, h7⟩ := h
  obtain ⟨d, hd, hf⟩ := isU_spec h2
  refine ⟨slEl_spec h1, ⟨d, hd, ?_⟩, h3, h4, h5, h6, h7⟩
  cases d <;> simp at hf
  · exact .inr rfl
  · exact .inl (by rw [hf])

theorem eqK_spec {t : TypeId} {k : Nat} (h : eqK P t = some k) : (k = 0 ∧ P.underlying t = some .bool) ∨ (k = 1 ∧ ∃ e, P.underlying t = some (.pointer e)) ∨ (k = 2 ∧ ∃ e, P.underlying t = some (.slice e)) ∨ (k = 3 ∧ ∃ p r v, P.underlying t = some (.func p r v)) := by
  unfold eqK at h
  split at h <;> first
    | cases h; done
    | (injection h with h; subst h; simp_all)

theorem ARel.ptr_inv {K : AV → Value → Prop} {id off : Nat} {v : Value} (h : ARel fo K (.ptr id off) v) : K (.ptr id off) v := by cases h with | atom _ _ h => exact h
theorem ARel.own_inv {K : AV → Value → Prop} {id off : Nat} {v : Value} (h : ARel fo K (.own id off) v) : K (.own id off) v := by cases h with | atom _ _ h => exact h
theorem ARel.uq_inv {K : AV → Value → Prop} {id sz : Nat} {nl : Bool} {es : List PV} {v : Value} (h : ARel fo K (.uq id nl sz es) v) : K (.uq id nl sz es) v := by cases h with | atom _ _ h => exact h

theorem eqI_bool {t : TypeId} (hu : P.underlying t = some .bool) (d : Nat) (a b : Bool) : (Op.equalIn (d + 1) t (.bool a) (.bool b)).run P w = .ok (a == b) w := by
  simp [Op.equalIn, run_underlying hu]
theorem eqI_ptr {t el : TypeId} (hu : P.underlying t = some (.pointer el)) (d : Nat) (a : Option Addr) : (Op.equalIn (d + 1) t (.pointer a) (.pointer none)).run P w = .ok a.isNone w := by
  cases a <;> simp [Op.equalIn, run_underlying hu]
theorem eqI_ptr' {t el : TypeId} (hu : P.underlying t = some (.pointer el)) (d : Nat) (a : Option Addr) : (Op.equalIn (d + 1) t (.pointer none) (.pointer a)).run P w = .ok a.isNone w := by
  cases a <;> simp [Op.equalIn, run_underlying hu]
theorem eqI_slice {t el : TypeId} (hu : P.underlying t = some (.slice el)) (d : Nat) (a : Option Addr) (n c m k : Nat) : (Op.equalIn (d + 1) t (.slice a n c) (.slice none m k)).run P w = .ok a.isNone w := by
  cases a <;> simp [Op.equalIn, run_underlying hu]
theorem eqI_func {t : TypeId} {p r : Array TypeId} {v : Bool} (hu : P.underlying t = some (.func p r v)) (d : Nat) (f : Fn) (x y : Array Value) : (Op.equalIn (d + 1) t (.func f x y) .nilFunc).run P w = .ok false w := by
  simp [Op.equalIn, run_underlying hu]
theorem eqI_func' {t : TypeId} {p r : Array TypeId} {v : Bool} (hu : P.underlying t = some (.func p r v)) (d : Nat) : (Op.equalIn (d + 1) t .nilFunc .nilFunc).run P w = .ok true w := by
  simp [Op.equalIn, run_underlying hu]

theorem eq_run {t : TypeId} {k : Nat} (ht : eqK P t = some k) (hS : SRel fo B0 w R φ H) {x y : AV} {vx vy : Value} (hx : ARel fo (K R φ H) x vx) (hy : ARel fo (K R φ H) y vy) {b : Bool} (h : eqA H k x y = some b) :
    (∀ op : BinOp, op = .eql ∨ op = .neq → ∀ (ox oy : Operand), (do eqGuard op t ox oy vx vy; binOp op t vx vy : Sem Value).run P w = .ok (.bool (if op = .neq then !b else b)) w) := by
  have key : (Op.equal t vx vy).run P w = .ok b w → (∀ (op : BinOp) (ox oy : Operand), (eqGuard op t ox oy vx vy) = pure ()) → (∀ op : BinOp, (op = .eql → binOp op t vx vy = (do pure (.bool (← Op.equal t vx vy)))) ∧ (op = .neq → binOp op t vx vy = (do pure (.bool (!(← Op.equal t vx vy)))))) →
      (∀ op : BinOp, op = .eql ∨ op = .neq → ∀ (ox oy : Operand), (do eqGuard op t ox oy vx vy; binOp op t vx vy : Sem Value).run P w = .ok (.bool (if op = .neq then !b else b)) w) := by
    intro h1 h2 h3 op hop ox oy
    rcases hop with rfl | rfl
    · simp [h2, (h3 .eql).1 rfl, h1]
    · simp [h2, (h3 .neq).2 rfl, h1]
  have one : ∀ (x y : Value), (Op.equal t x y).run P w = (Op.equalIn (9999 + 1) t x y).run P w := fun _ _ => rfl
  unfold eqA at h
  split at h
  · -- bools
    have h1 := hx.pv_inv; have h2 := hy.pv_inv
    cases h1; cases h2
    injection h with h; subst h
    have hu := eqK_spec ht
    simp at hu
    refine key ?_ (fun op ox oy => by cases op <;> rfl) (fun op => ⟨fun e => by subst e; rfl, fun e => by subst e; rfl⟩)
    rw [one]
    first | exact eqI_bool hu 9999 _ _ | exact eqI_ptr hu 9999 _ | exact eqI_ptr' hu 9999 _ | exact eqI_slice hu 9999 _ _ _ _ _ | exact eqI_func hu 9999 _ _ _ | exact eqI_func' hu 9999
  · have h1 := hx.pv_inv; have h2 := hy.pv_inv
    cases h1; cases h2
    injection h with h; subst h
    have hu := eqK_spec ht
    simp at hu
    obtain ⟨e, hu⟩ := hu
    refine key ?_ (fun op ox oy => by cases op <;> rfl) (fun op => ⟨fun e => by subst e; rfl, fun e => by subst e; rfl⟩)
    rw [one]
    first | exact eqI_bool hu 9999 _ _ | exact eqI_ptr hu 9999 _ | exact eqI_ptr' hu 9999 _ | exact eqI_slice hu 9999 _ _ _ _ _ | exact eqI_func hu 9999 _ _ _ | exact eqI_func' hu 9999
  · have h1 := hx.pv_inv; have h2 := hy.pv_inv
    cases h1; cases h2
    injection h with h; subst h
    have hu := eqK_spec ht
    simp at hu
    obtain ⟨e, hu⟩ := hu
    refine key ?_ (fun op ox oy => by cases op <;> rfl) (fun op => ⟨fun e => by subst e; rfl, fun e => by subst e; rfl⟩)
    rw [one]
    first | exact eqI_bool hu 9999 _ _ | exact eqI_ptr hu 9999 _ | exact eqI_ptr' hu 9999 _ | exact eqI_slice hu 9999 _ _ _ _ _ | exact eqI_func hu 9999 _ _ _ | exact eqI_func' hu 9999
  · have h1 := hx.pv_inv; have h2 := hy.pv_inv
    cases h1; cases h2
    injection h with h; subst h
    have hu := eqK_spec ht
    simp at hu
    obtain ⟨e, hu⟩ := hu
    refine key ?_ (fun op ox oy => by cases op <;> rfl) (fun op => ⟨fun e => by subst e; rfl, fun e => by subst e; rfl⟩)
    rw [one]
    first | exact eqI_bool hu 9999 _ _ | exact eqI_ptr hu 9999 _ | exact eqI_ptr' hu 9999 _ | exact eqI_slice hu 9999 _ _ _ _ _ | exact eqI_func hu 9999 _ _ _ | exact eqI_func' hu 9999
  · -- a pointer to a box
    split at h
    · rename_i hc
      have h2 := hy.pv_inv
      cases h2
      injection h with h; subst h
      have h1 := hx.ptr_inv
      rw [h1.2.2 _ hc]
      have hu := eqK_spec ht
      simp at hu
      obtain ⟨e, hu⟩ := hu
      rw [h1.2.2 _ hc] at key
      refine key ?_ (fun op ox oy => by cases op <;> rfl) (fun op => ⟨fun e => by subst e; rfl, fun e => by subst e; rfl⟩)
      rw [one]
      first | exact eqI_bool hu 9999 _ _ | exact eqI_ptr hu 9999 _ | exact eqI_ptr' hu 9999 _ | exact eqI_slice hu 9999 _ _ _ _ _ | exact eqI_func hu 9999 _ _ _ | exact eqI_func' hu 9999
    · cases h
  · have h1 := hx.pv_inv; have h2 := hy.pv_inv
    cases h1; cases h2
    injection h with h; subst h
    have hu := eqK_spec ht
    simp at hu
    obtain ⟨e, hu⟩ := hu
    refine key ?_ (fun op ox oy => by cases op <;> rfl) (fun op => ⟨fun e => by subst e; rfl, fun e => by subst e; rfl⟩)
    rw [one]
    first | exact eqI_bool hu 9999 _ _ | exact eqI_ptr hu 9999 _ | exact eqI_ptr' hu 9999 _ | exact eqI_slice hu 9999 _ _ _ _ _ | exact eqI_func hu 9999 _ _ _ | exact eqI_func' hu 9999
  · have h1 := hx.pv_inv; have h2 := hy.pv_inv
    cases h2
    obtain ⟨a7, n7, c7, rfl⟩ : ∃ a n c, vx = .slice (some a) n c := by cases h1 <;> exact ⟨_, _, _, rfl⟩
    injection h with h; subst h
    have hu := eqK_spec ht
    simp at hu
    obtain ⟨e, hu⟩ := hu
    refine key ?_ (fun op ox oy => by cases op <;> rfl) (fun op => ⟨fun e => by subst e; rfl, fun e => by subst e; rfl⟩)
    rw [one]
    first | exact eqI_bool hu 9999 _ _ | exact eqI_ptr hu 9999 _ | exact eqI_ptr' hu 9999 _ | exact eqI_slice hu 9999 _ _ _ _ _ | exact eqI_func hu 9999 _ _ _ | exact eqI_func' hu 9999
  · -- one that may be appended to
    rename_i nl sz es
    have h2 := hy.pv_inv
    cases h2
    injection h with h; subst h
    have h1 := hx.uq_inv
    have hu := eqK_spec ht
    simp at hu
    obtain ⟨e, hu⟩ := hu
    cases nl with
    | true =>
      rw [(h1.2.1 rfl).1] at key ⊢
      refine key ?_ (fun op ox oy => by cases op <;> rfl) (fun op => ⟨fun e => by subst e; rfl, fun e => by subst e; rfl⟩)
      rw [one]
      first | exact eqI_bool hu 9999 _ _ | exact eqI_ptr hu 9999 _ | exact eqI_ptr' hu 9999 _ | exact eqI_slice hu 9999 _ _ _ _ _ | exact eqI_func hu 9999 _ _ _ | exact eqI_func' hu 9999
    | false =>
      have h3 := h1.2.2.1 rfl
      obtain ⟨a8, n8, c8, rfl⟩ : ∃ a n c, vx = .slice (some a) n c := by cases h3 <;> exact ⟨_, _, _, rfl⟩
      refine key ?_ (fun op ox oy => by cases op <;> rfl) (fun op => ⟨fun e => by subst e; rfl, fun e => by subst e; rfl⟩)
      rw [one]
      first | exact eqI_bool hu 9999 _ _ | exact eqI_ptr hu 9999 _ | exact eqI_ptr' hu 9999 _ | exact eqI_slice hu 9999 _ _ _ _ _ | exact eqI_func hu 9999 _ _ _ | exact eqI_func' hu 9999
  · -- an object
    split at h
    · rename_i sz ag c fl nl hc
      split at h
      · rename_i hcur
        injection h with h; subst h
        have h2 := hy.pv_inv
        cases h2
        have h1 := hx.own_inv
        obtain ⟨k0, k⟩ := h1.2.2 _ _ _ _ _ hc
        obtain ⟨o0, o1, o2, _⟩ := hS.obj _ _ hc
        obtain ⟨k1, k2⟩ := k (by omega)
        have hu := eqK_spec ht
        simp at hu
        obtain ⟨e, hu⟩ := hu
        cases nl with
        | true =>
          rw [k1 rfl] at key ⊢
          refine key ?_ (fun op ox oy => by cases op <;> rfl) (fun op => ⟨fun e => by subst e; rfl, fun e => by subst e; rfl⟩)
          rw [one]
          first | exact eqI_bool hu 9999 _ _ | exact eqI_ptr hu 9999 _ | exact eqI_ptr' hu 9999 _ | exact eqI_slice hu 9999 _ _ _ _ _ | exact eqI_func hu 9999 _ _ _ | exact eqI_func' hu 9999
        | false =>
          rcases k2 rfl with ⟨q1, q2, _⟩ | ⟨b, o, cap, q1, _, _⟩
          · subst q1; exact absurd (List.eq_nil_of_length_eq_zero (by omega)) q2
          · rw [q1] at key ⊢
            refine key ?_ (fun op ox oy => by cases op <;> rfl) (fun op => ⟨fun e => by subst e; rfl, fun e => by subst e; rfl⟩)
            rw [one]
            first | exact eqI_bool hu 9999 _ _ | exact eqI_ptr hu 9999 _ | exact eqI_ptr' hu 9999 _ | exact eqI_slice hu 9999 _ _ _ _ _ | exact eqI_func hu 9999 _ _ _ | exact eqI_func' hu 9999
      · cases h
    · cases h
  · have h2 := hy.pv_inv
    cases h2
    injection h with h; subst h
    cases hx with
    | atom _ _ h => exact h.elim
    | clo ix cs vs hc =>
      have hu := eqK_spec ht
      replace hu := ((hu.resolve_left (by simp)).resolve_left (by simp)).resolve_left (by simp)
      obtain ⟨_, p, r, v, hu⟩ := hu
      refine key ?_ (fun op ox oy => by cases op <;> rfl) (fun op => ⟨fun e => by subst e; rfl, fun e => by subst e; rfl⟩)
      rw [one]
      first | exact eqI_bool hu 9999 _ _ | exact eqI_ptr hu 9999 _ | exact eqI_ptr' hu 9999 _ | exact eqI_slice hu 9999 _ _ _ _ _ | exact eqI_func hu 9999 _ _ _ | exact eqI_func' hu 9999
  · have h1 := hx.pv_inv; have h2 := hy.pv_inv
    cases h1; cases h2
    injection h with h; subst h
    have hu := eqK_spec ht
    replace hu := ((hu.resolve_left (by simp)).resolve_left (by simp)).resolve_left (by simp)
    obtain ⟨_, p, r, v, hu⟩ := hu
    refine key ?_ (fun op ox oy => by cases op <;> rfl) (fun op => ⟨fun e => by subst e; rfl, fun e => by subst e; rfl⟩)
    rw [one]
    first | exact eqI_bool hu 9999 _ _ | exact eqI_ptr hu 9999 _ | exact eqI_ptr' hu 9999 _ | exact eqI_slice hu 9999 _ _ _ _ _ | exact eqI_func hu 9999 _ _ _ | exact eqI_func' hu 9999
  · have := eqK_spec ht
    simp at this
  · cases h

end ops
end Go.AM
