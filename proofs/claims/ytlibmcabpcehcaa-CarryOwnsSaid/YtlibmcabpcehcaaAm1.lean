/- The abstract machine, part 1: values, state, evaluation. Deterministic, executable, over plain values. -/
import Derived.WalkKit
import Derived.Orders
import Derived.KernelRfl
namespace Go.AM

/-- Pure values: what can be read off memory that is never written again. -/
inductive PV where
  | int (k : IntKind) (n : Int)
  | bool (b : Bool)
  | str (s : ByteArray)
  | nilp | nils | nilm | nilf | nili
  | rp (row : List PV) (off : Nat)
  | lit (sz : Nat) (es : List PV)
  | agg (cs : List PV)
  | tup (vs : List PV)
  | iface (t : TypeId) (v : PV)
  deriving Inhabited

def PV.cells : PV → List PV
  | .agg cs => cs
  | v => [v]

/-- The cells of a list of elements, one behind the other. -/
def flat : List PV → List PV
  | [] => []
  | e :: es => e.cells ++ flat es

/-- Values of the abstract machine: pure ones, and those that name an object of the abstract heap. -/
inductive AV where
  | pv (p : PV)
  | ptr (id off : Nat)
  | eptr (id n off : Nat)
  | uq (id : Nat) (nl : Bool) (sz : Nat) (es : List PV)
  | own (id len : Nat)
  | clo (ix : Nat) (caps : List AV)
  | mp (id : Nat)
  | agg (cs : List AV)
  | tup (vs : List AV)
  | undef
  deriving Inhabited

def AV.cells : AV → List AV
  | .pv p => p.cells.map .pv
  | .agg cs => cs
  | v => [v]

/-- May the value stand in one cell? -/
def AV.one : AV → Bool
  | .pv (.agg _) | .pv (.tup _) | .agg _ | .tup _ | .undef => false
  | _ => true

def allPV : List AV → Option (List PV)
  | [] => some []
  | .pv p :: r => (allPV r).map (p :: ·)
  | _ => none

def mkAgg (cs : List AV) : AV :=
  match allPV cs with
  | some ps => .pv (.agg ps)
  | none => .agg cs

def mkTup (cs : List AV) : AV :=
  match allPV cs with
  | some ps => .pv (.tup ps)
  | none => .tup cs

inductive AObj where
  | box (cells : List AV)
  | seq (sz : Nat) (ag : Bool) (cells : List AV) (fl : Nat) (nl : Bool)
  | tok (sz n : Nat) (nl : Bool)
  | map (es : List (PV × AV))
  | dead
  deriving Inhabited

/-- The temporaries: a tree by the number's binary digits. -/
inductive Tr where
  | lf
  | nd (v : AV) (a b : Tr)

def Tr.get : Tr → Nat → AV
  | .lf, _ => .undef
  | .nd v a b, k => cond (Nat.beq k 0) v (cond (Nat.beq (k % 2) 1) (a.get (k / 2)) (b.get (k / 2 - 1)))

def Tr.setF : Nat → Tr → Nat → AV → Tr
  | 0, t, _, _ => t
  | f + 1, .lf, k, v => cond (Nat.beq k 0) (.nd v .lf .lf) (cond (Nat.beq (k % 2) 1) (.nd .undef (setF f .lf (k / 2) v) .lf) (.nd .undef .lf (setF f .lf (k / 2 - 1) v)))
  | f + 1, .nd u a b, k, v => cond (Nat.beq k 0) (.nd v a b) (cond (Nat.beq (k % 2) 1) (.nd u (setF f a (k / 2) v) b) (.nd u a (setF f b (k / 2 - 1) v)))

def Tr.set (t : Tr) (k : Nat) (v : AV) : Tr := t.setF (k + 1) k v

theorem beqF {a b : Nat} (h : ¬ a = b) : Nat.beq a b = false := by
  cases e : Nat.beq a b with
  | false => rfl
  | true => exact absurd (Nat.eq_of_beq_eq_true e) h
theorem beqT {a b : Nat} (h : a = b) : Nat.beq a b = true := by subst h; exact Nat.beq_refl a

theorem Tr.get_setF : ∀ (f : Nat) (t : Tr) (k : Nat) (v : AV) (j : Nat), k < f → (t.setF f k v).get j = if j = k then v else t.get j := by
  intro f
  induction f with
  | zero => intro t k v j h; omega
  | succ f ih =>
    intro t k v j h
    cases t with
    | lf =>
      unfold Tr.setF
      by_cases hk : k = 0
      · subst hk
        simp only [Nat.beq_refl, cond_true, Tr.get]
        by_cases hj : j = 0
        · subst hj; simp
        · have : Nat.beq j 0 = false := beqF hj
          simp [this, hj]
      · have hk' : Nat.beq k 0 = false := beqF hk
        simp only [hk', cond_false]
        by_cases hp : k % 2 = 1
        · have hp' : Nat.beq (k % 2) 1 = true := beqT hp
          simp only [hp', cond_true, Tr.get]
          by_cases hj : j = 0
          · subst hj; simp [Ne.symm hk]
          · have hj' : Nat.beq j 0 = false := beqF hj
            simp only [hj', cond_false]
            by_cases hjp : j % 2 = 1
            · have hjp' : Nat.beq (j % 2) 1 = true := beqT hjp
              simp only [hjp', cond_true]
              rw [ih _ _ _ _ (by omega)]
              by_cases hjk : j = k
              · subst hjk; simp
              · have : ¬ j / 2 = k / 2 := by omega
                simp [this, hjk, Tr.get]
            · have hjp' : Nat.beq (j % 2) 1 = false := beqF hjp
              have : ¬ j = k := by intro e; subst e; exact hjp hp
              simp [hjp', this]
        · have hp' : Nat.beq (k % 2) 1 = false := beqF hp
          simp only [hp', cond_false, Tr.get]
          by_cases hj : j = 0
          · subst hj; simp [Ne.symm hk]
          · have hj' : Nat.beq j 0 = false := beqF hj
            simp only [hj', cond_false]
            by_cases hjp : j % 2 = 1
            · have hjp' : Nat.beq (j % 2) 1 = true := beqT hjp
              have : ¬ j = k := by intro e; subst e; exact hp hjp
              simp [hjp', this]
            · have hjp' : Nat.beq (j % 2) 1 = false := beqF hjp
              simp only [hjp', cond_false]
              rw [ih _ _ _ _ (by omega)]
              by_cases hjk : j = k
              · subst hjk; simp
              · have : ¬ j / 2 - 1 = k / 2 - 1 := by omega
                simp [this, hjk, Tr.get]
    | nd u a b =>
      unfold Tr.setF
      by_cases hk : k = 0
      · subst hk
        simp only [Nat.beq_refl, cond_true, Tr.get]
        by_cases hj : j = 0
        · subst hj; simp
        · have : Nat.beq j 0 = false := beqF hj
          simp [this, hj]
      · have hk' : Nat.beq k 0 = false := beqF hk
        simp only [hk', cond_false]
        by_cases hp : k % 2 = 1
        · have hp' : Nat.beq (k % 2) 1 = true := beqT hp
          simp only [hp', cond_true, Tr.get]
          by_cases hj : j = 0
          · subst hj; simp [Ne.symm hk]
          · have hj' : Nat.beq j 0 = false := beqF hj
            simp only [hj', cond_false]
            by_cases hjp : j % 2 = 1
            · have hjp' : Nat.beq (j % 2) 1 = true := beqT hjp
              simp only [hjp', cond_true]
              rw [ih _ _ _ _ (by omega)]
              by_cases hjk : j = k
              · subst hjk; simp
              · have : ¬ j / 2 = k / 2 := by omega
                simp [this, hjk]
            · have hjp' : Nat.beq (j % 2) 1 = false := beqF hjp
              have : ¬ j = k := by intro e; subst e; exact hjp hp
              simp [hjp', this]
        · have hp' : Nat.beq (k % 2) 1 = false := beqF hp
          simp only [hp', cond_false, Tr.get]
          by_cases hj : j = 0
          · subst hj; simp [Ne.symm hk]
          · have hj' : Nat.beq j 0 = false := beqF hj
            simp only [hj', cond_false]
            by_cases hjp : j % 2 = 1
            · have hjp' : Nat.beq (j % 2) 1 = true := beqT hjp
              have : ¬ j = k := by intro e; subst e; exact hp hjp
              simp [hjp', this]
            · have hjp' : Nat.beq (j % 2) 1 = false := beqF hjp
              simp only [hjp', cond_false]
              rw [ih _ _ _ _ (by omega)]
              by_cases hjk : j = k
              · subst hjk; simp
              · have : ¬ j / 2 - 1 = k / 2 - 1 := by omega
                simp [this, hjk]

theorem Tr.get_set (t : Tr) (k : Nat) (v : AV) (j : Nat) : (t.set k v).get j = if j = k then v else t.get j := Tr.get_setF _ _ _ _ _ (Nat.lt_succ_self k)

def Tr.ofList : List (Nat × AV) → Tr
  | [] => .lf
  | (k, v) :: r => (Tr.ofList r).set k v

structure St where
  env : Tr
  H : List AObj

inductive AO where
  | t (n : Nat)
  | c (p : PV)
  | f (ix : Nat)

def AO.ev (e : Tr) : AO → AV
  | .t n => e.get n
  | .c p => .pv p
  | .f ix => .clo ix []

/-- How a slice that an operation makes is held: as a pure value, as one that may be appended to, or as an object that is written. -/
inductive Hold where
  | lit | uq | own

inductive AOp where
  | move (x : AO)
  | pick (c a b : AO)
  | alloc (zero : List PV)
  | box (n : Nat) (x : AO)
  | boxR (n : Nat) (x : AO)
  | build (zero : List PV) (parts : List (Nat × Nat × AO))
  | bslice (h : Hold) (sz : Nat) (ag : Bool) (len : Nat) (zero : List PV) (parts : List (Nat × AO))
  | load (ag : Bool) (n : Nat) (x : AO)
  | store (n : Nat) (a v : AO)
  | nilck (x : AO)
  | bin (op : BinOp) (x y : AO)
  | eq (k : Nat) (neq : Bool) (x y : AO)
  | un (op : UnOp) (x : AO)
  | conv (k : IntKind) (x : AO)
  | b2s (x : AO)
  | s2b (h : Hold) (x : AO)
  | mkfn (ix : Nat) (caps : List AO)
  | mkslice (h : Hold) (sz : Nat) (ag : Bool) (zero : List PV) (bytes : Nat) (len cap : AO)
  | slice (sz : Nat) (x : AO) (lo hi : Option AO)
  | faddr (off : Nat) (x : AO)
  | fld (off : Nat) (ag : Bool) (n : Nat) (x : AO)
  | iaddr (sz : Nat) (x i : AO)
  | iaddrA (n sz : Nat) (x i : AO)
  | ixA (n sz : Nat) (ag : Bool) (x i : AO)
  | ixS (x i : AO)
  | ext (i : Nat) (x : AO)
  | len (k : Nat) (x : AO)
  | mx (xs : List AO)
  | mn (xs : List AO)
  | append (own : Bool) (h : Hold) (sz : Nat) (ag : Bool) (bytes : Nat) (s x : AO)
  | callP (F : List PV → Option PV) (args : List AO)
  | callI (ix : Nat) (args : List AO)
  | callV (f : AO) (args : List AO)

/-- 'pr': the operation is carried out without a look at any object. -/
structure AOper where
  dst : Option Nat
  op : AOp
  guard : Option (Nat × Bool)
  pr : Bool

/-- Steps that only change how the abstract machine holds things. -/
inductive Ghost where
  | mkuq (t sz : Nat)
  | mkown (t sz : Nat) (ag : Bool)
  | mkuqC (t off sz : Nat)
  | mkownC (t off sz : Nat) (ag : Bool)
  | freeze (t : Nat)

inductive ACode where
  | skip
  | region (ops : List AOper)
  | seq (a b : ACode)
  | cond (c : AO) (a b : ACode)
  | block (id : Nat) (b : ACode)
  | loop (live : List Nat) (b : ACode)
  | exit (id : Nat)
  | ret
  | ghost (g : Ghost) (c : ACode)

inductive Ex where
  | norm
  | exit (id : Nat)
  | ret

inductive ARes where
  | tmp (t : Nat)
  | cell (t : Nat) (ag : Bool) (n : Nat)

structure AFn where
  np : Nat
  results : List ARes
  body : ACode

/-! ## pieces -/
set_option linter.unusedVariables false

def mapO {α β : Type} (f : α → Option β) : List α → Option (List β)
  | [] => some []
  | a :: r => (f a).bind fun b => (mapO f r).bind fun bs => some (b :: bs)

def chunk (sz : Nat) (ag : Bool) : Nat → List PV → List PV
  | 0, _ => []
  | n + 1, cs => ((if ag then (.agg (cs.take sz)) else (cs.headD .nilp))) :: chunk sz ag n (cs.drop sz)

/-- May the window of so many elements be read? -/
abbrev winOk (sz len fl n : Nat) : Prop := fl ≤ len * sz ∧ len * sz ≤ n

def toPV (H : List AObj) : Nat → AV → Option PV
  | _, .pv p => some p
  | _, .uq _ nl sz es => some ((if nl then .nils else (.lit sz es)))
  | 0, _ => none
  | d + 1, .own id len =>
    match H[id]? with
    | some (.seq sz ag cells fl nl) =>
      (if (len * sz = cells.length ∧ (ag || sz == 1) = true) then ((if nl then (some .nils) else ((mapO (toPV H d) cells).map fun ps => .lit sz (chunk sz ag len ps)))) else none)
    | _ => none
  | d + 1, .ptr id off =>
    match H[id]? with
    | some (.box cells) => (mapO (toPV H d) cells).map fun ps => .rp ps off
    | _ => none
  | d + 1, .agg cs => (mapO (toPV H d) cs).map .agg
  | d + 1, .tup cs => (mapO (toPV H d) cs).map .tup
  | _, _ => none

def deep : Nat := 6

/-- Is the value held without an object that is still written? -/
def AV.free : AV → Bool
  | .pv _ => true
  | .uq _ _ _ _ => true
  | _ => false

mutual
/-- Does the value hold no way into memory? -/
def flatV : PV → Bool
  | .rp _ _ => false
  | .lit _ _ => false
  | .iface _ _ => false
  | .agg cs => flatVs cs
  | .tup cs => flatVs cs
  | _ => true
def flatVs : List PV → Bool
  | [] => true
  | c :: cs => flatV c && flatVs cs
end

def asInt : AV → Option (IntKind × Int)
  | .pv (.int k n) => some (k, n)
  | _ => none

def asBool : AV → Option Bool
  | .pv (.bool b) => some b
  | _ => none

def pvInt (n : Int) : AV := .pv (.int .i64 n)

/-- A part of a row of cells, as a value. -/
def partP (ag : Bool) (n : Nat) (cs : List PV) (off : Nat) : Option PV :=
  (if ag then ((if ((off + n) ≤ cs.length) then (some (.agg ((cs.drop off).take n))) else none)) else cs[off]?)

def partA (ag : Bool) (n : Nat) (cs : List AV) (off : Nat) : Option AV :=
  (if ag then ((if ((off + n) ≤ cs.length) then (some (mkAgg ((cs.drop off).take n))) else none)) else cs[off]?)

def setRow {α : Type} (cs : List α) (off : Nat) : List α → List α
  | [] => cs
  | v :: vs => setRow (cs.set off v) (off + 1) vs

def loadA (H : List AObj) (ag : Bool) (n : Nat) : AV → Option AV
  | .pv (.rp row off) => (partP ag n row off).map .pv
  | .ptr id off =>
    match H[id]? with
    | some (.box cells) => partA ag n cells off
    | _ => none
  | .eptr id m off =>
    match H[id]? with
    | some (.seq _ _ cells fl _) => (if (cells.length = m) then (partA ag n cells off) else (if fl ≤ m ∧ 0 < m then ((allPV (cells.take m)).bind fun ps => (partP ag n ps off).map .pv) else none))
    | _ => none
  | _ => none

def storeA (H : List AObj) (n : Nat) (p v : AV) : Option (List AObj) :=
  (if (v.cells.length = n ∧ v.cells.all AV.one) then (match p with
    | .ptr id off =>
      match H[id]? with
      | some (.box cells) => (if ((off + n) ≤ cells.length) then (some (H.set id (.box (setRow cells off v.cells)))) else none)
      | _ => none
    | .eptr id m off =>
      match H[id]? with
      | some (.seq sz ag cells _ nl) => (if (cells.length = m ∧ (off + n) ≤ m) then (some (H.set id (.seq sz ag (setRow cells off v.cells) m nl))) else none)
      | _ => none
    | _ => none) else none)

/-- The elements of a slice or string, to be appended: as pure elements of a size. -/
def elemsP (sz : Nat) : AV → Option (List PV)
  | .pv .nils => some []
  | .pv (.lit s ys) => (if (s = sz) then (some ys) else none)
  | .pv (.str s) => (if (sz = 1) then (some (s.data.toList.map fun b => .int .u8 b.toNat)) else none)
  | .uq _ _ s ys => (if (s = sz) then (some ys) else none)
  | _ => none

/-- .. and as cells, with how many elements there are. -/
def elemsA (H : List AObj) (sz : Nat) : AV → Option (Nat × List AV)
  | .own id len =>
    match H[id]? with
    | some (.seq s _ cells fl nl) => (if (s = sz ∧ len * sz = cells.length) then (some (len, cells)) else none)
    | _ => none
  | v => (elemsP sz v).map fun ys => (ys.length, (flat ys).map .pv)

abbrev roomOk (n bytes : Nat) : Prop := n * bytes ≤ 140737488355328

/-- A fresh slice of these elements, held as is asked. -/
def fresh (H : List AObj) (h : Hold) (sz : Nat) (ag : Bool) (n : Nat) (cells : List AV) : Option (AV × List AObj) :=
  match h with
  | .lit => (allPV cells).map fun ps => (.pv (.lit sz (chunk sz ag n ps)), H)
  | .uq => (allPV cells).map fun ps => (.uq H.length false sz (chunk sz ag n ps), H ++ [.tok sz n false])
  | .own => some (.own H.length n, H ++ [.seq sz ag cells 0 false])

/-- What appending to nil makes. -/
def nilApp (H : List AObj) (h : Hold) (sz : Nat) : List PV → Option (AV × List AObj)
  | [] => some (.pv .nils, H)
  | y :: ys => match h with
    | .lit => some (.pv (.lit sz (y :: ys)), H)
    | .uq => some (.uq H.length false sz (y :: ys), H ++ [.tok sz (ys.length + 1) false])
    | .own => none

def appendA (H : List AObj) (own : Bool) (h : Hold) (sz : Nat) (ag : Bool) (bytes : Nat) (s x : AV) : Option (AV × List AObj) :=
  (if own then (match s with
    | .own id len =>
      match H[id]? with
      | some (.seq sz' ag' cells fl nl) =>
        (elemsA H sz x).bind fun r =>
          (if (sz = sz' ∧ (len * sz) = cells.length ∧ roomOk (len + r.1) bytes ∧ r.2.all AV.one) then (some (.own id (len + r.1), H.set id (.seq sz ag' (cells ++ r.2) fl (nl && (r.1 == 0))))) else none)
      | _ => none
    | _ => none) else (match s with
    | .uq id nl sz' es =>
      match H[id]? with
      | some (.tok sz'' n _) =>
        (elemsP sz x).bind fun ys =>
          (if (sz = sz' ∧ sz = sz'' ∧ n = es.length ∧ roomOk (es.length + ys.length) bytes) then (some (.uq id (nl && ys.isEmpty) sz (es ++ ys), H.set id (.tok sz (es.length + ys.length) (nl && ys.isEmpty)))) else none)
      | _ => none
    | .pv .nils =>
      (elemsP sz x).bind fun ys =>
        (if (roomOk ys.length bytes) then nilApp H h sz ys else none)
    | _ => none))

/-- A pointer to memory that is there, so many cells further on. -/
def place (H : List AObj) (d : Nat) : AV → Option AV
  | .pv (.rp row o) => some (.pv (.rp row (o + d)))
  | .ptr id o =>
    match H[id]? with
    | some (.box _) => some (.ptr id (o + d))
    | _ => none
  | .eptr id n o =>
    match H[id]? with
    | some (.seq _ _ cells fl _) => (if cells.length = n then (some (.eptr id n (o + d))) else (if fl ≤ n ∧ 0 < n then ((allPV (cells.take n)).map fun _ => .eptr id n (o + d)) else none))
    | _ => none
  | _ => none

abbrev idxOk (i : Int) (n : Nat) : Prop := 0 ≤ i ∧ i < (n : Int)

def iaddrA' (H : List AObj) (sz : Nat) (x : AV) (i : Int) : Option AV :=
  match x with
  | .pv (.lit s es) => (if (s = sz ∧ idxOk i es.length) then (es[i.toNat]?.map fun e => .pv (.rp e.cells 0)) else none)
  | .uq _ _ s es => (if (s = sz ∧ idxOk i es.length) then (es[i.toNat]?.map fun e => .pv (.rp e.cells 0)) else none)
  | .own id len =>
    match H[id]? with
    | some (.seq s _ cells fl _) =>
      (if (s = sz ∧ idxOk i len ∧ winOk sz len fl cells.length) then (some (.eptr id (len * sz) (i.toNat * sz))) else none)
    | _ => none
  | _ => none

/-- The length; what is asked: 0 a slice, 1 a string, 2 a map. -/
def lenA (H : List AObj) : Nat → AV → Option Nat
  | 0, .pv .nils => some 0
  | 0, .pv (.lit _ es) => some es.length
  | 1, .pv (.str s) => some s.size
  | 0, .uq _ _ _ es => some es.length
  | 0, .own id len =>
    match H[id]? with
    | some (.seq sz _ cells fl _) => (if (winOk sz len fl cells.length) then (some len) else none)
    | _ => none
  | 2, .pv .nilm => some 0
  | 2, .mp id =>
    match H[id]? with
    | some (.map es) => some es.length
    | _ => none
  | _, _ => none

def sliceA (H : List AObj) (sz : Nat) (x : AV) (lo : Option Int) (hi : Option Int) : Option AV :=
  match x with
  | .pv .nils => (if (0 < sz ∧ lo.getD 0 = 0 ∧ hi.getD 0 = 0) then (some (.pv .nils)) else none)
  | .pv (.lit s es) =>
    let l := lo.getD 0
    let h := hi.getD es.length
    (if (0 < sz ∧ s = sz ∧ 0 ≤ l ∧ l ≤ h ∧ h ≤ (es.length : Int)) then (some (.pv (.lit sz ((es.take h.toNat).drop l.toNat)))) else none)
  | .uq _ nl s es =>
    let l := lo.getD 0
    let h := hi.getD es.length
    (if (0 < sz ∧ s = sz ∧ 0 ≤ l ∧ l ≤ h ∧ h ≤ (es.length : Int)) then (some (.pv ((if nl then .nils else (.lit sz ((es.take h.toNat).drop l.toNat)))))) else none)
  | .pv (.str s) =>
    let l := lo.getD 0
    let h := hi.getD s.size
    (if (sz = 0 ∧ 0 ≤ l ∧ l ≤ h ∧ h ≤ (s.size : Int)) then (some (.pv (.str (s.extract l.toNat h.toNat)))) else none)
  | _ => none

mutual
def eqPV : PV → PV → Option Bool
  | .int k a, .int k' b => if k = k' then some (a == b) else none
  | .bool a, .bool b => some (a == b)
  | .str a, .str b => some (a == b)
  | .nilp, .nilp => some true
  | .nilp, .rp _ _ => some false
  | .rp _ _, .nilp => some false
  | .nils, .nils => some true
  | .nils, .lit _ _ => some false
  | .lit _ _, .nils => some false
  | .agg xs, .agg ys => eqPVs xs ys
  | _, _ => none
def eqPVs : List PV → List PV → Option Bool
  | [], [] => some true
  | x :: xs, y :: ys => (eqPV x y).bind fun b => (if b then (eqPVs xs ys) else (some false))
  | _, _ => none
end

/-- Equality; of what: 0 bools, 1 pointers, 2 slices, 3 functions, 4 maps, 5 structs and arrays. -/
def eqA (H : List AObj) (k : Nat) (x y : AV) : Option Bool :=
  match k, x, y with
  | 0, .pv (.bool a), .pv (.bool b) => some (a == b)
  | 1, .pv .nilp, .pv .nilp => some true
  | 1, .pv (.rp _ _), .pv .nilp => some false
  | 1, .pv .nilp, .pv (.rp _ _) => some false
  | 1, .ptr id _, .pv .nilp =>
    match H[id]? with
    | some (.box _) => some false
    | _ => none
  | 2, .pv .nils, .pv .nils => some true
  | 2, .pv (.lit _ _), .pv .nils => some false
  | 2, .uq _ nl _ _, .pv .nils => some nl
  | 2, .own id len, .pv .nils =>
    match H[id]? with
    | some (.seq sz _ cells _ nl) => (if (len * sz = cells.length) then (some nl) else none)
    | _ => none
  | 3, .clo _ _, .pv .nilf => some false
  | 3, .pv .nilf, .pv .nilf => some true
  | 5, .pv p, .pv q => eqPV p q
  | _, _, _ => none

def intBin (op : BinOp) (k : IntKind) (x y : Int) : Option PV :=
  match op with
  | .add => some (.int k (k.wrap (x + y)))
  | .sub => some (.int k (k.wrap (x - y)))
  | .mul => some (.int k (k.wrap (x * y)))
  | .quo => (if (y = 0) then none else (some (.int k (k.wrap (x.tdiv y)))))
  | .rem => (if (y = 0) then none else (some (.int k (x.tmod y))))
  | .and => some (.int k (k.wrap ((BitVec.ofInt k.bits x &&& BitVec.ofInt k.bits y).toNat)))
  | .or => some (.int k (k.wrap ((BitVec.ofInt k.bits x ||| BitVec.ofInt k.bits y).toNat)))
  | .xor => some (.int k (k.wrap ((BitVec.ofInt k.bits x ^^^ BitVec.ofInt k.bits y).toNat)))
  | .eql => some (.bool (x == y))
  | .neq => some (.bool (x != y))
  | .lss => some (.bool (decide (x < y)))
  | .leq => some (.bool (decide (x ≤ y)))
  | .gtr => some (.bool (decide (x > y)))
  | .geq => some (.bool (decide (x ≥ y)))
  | _ => none

def strBin (op : BinOp) (x y : ByteArray) : Option PV :=
  match op with
  | .add => (if (((x.size + y.size : Nat) : Int) ≤ IntKind.i64.max) then (some (.str (x ++ y))) else none)
  | .eql => some (.bool (x.data.toList == y.data.toList))
  | .neq => some (.bool (!(x.data.toList == y.data.toList)))
  | .lss => some (.bool (Op.bytesLess x.data.toList y.data.toList))
  | .geq => some (.bool (!(Op.bytesLess x.data.toList y.data.toList)))
  | _ => none

def binA (op : BinOp) (x y : AV) : Option PV :=
  match op, x, y with
  | .shl, .pv (.int k a), .pv (.int _ b) => (if (b < 0) then none else (some (.int k (k.wrap (a * 2 ^ (min b.toNat k.bits))))))
  | .shr, .pv (.int k a), .pv (.int _ b) => (if (b < 0) then none else (some (.int k (a.fdiv (2 ^ (min b.toNat k.bits))))))
  | op, .pv (.int k a), .pv (.int k' b) => if k = k' then intBin op k a b else none
  | op, .pv (.str a), .pv (.str b) => strBin op a b
  | _, _, _ => none

def unA (op : UnOp) (x : AV) : Option PV :=
  match op, x with
  | .neg, .pv (.int k n) => some (.int k (k.wrap (0 - n)))
  | .not, .pv (.bool b) => some (.bool !b)
  | .xor, .pv (.int k n) => some (.int k (k.wrap ((BitVec.ofInt k.bits (if k.signed then -1 else k.max) ^^^ BitVec.ofInt k.bits n).toNat)))
  | _, _ => none

def bytesOf : List PV → Option (List UInt8)
  | [] => some []
  | .int .u8 n :: r => (bytesOf r).map (UInt8.ofNat n.toNat :: ·)
  | _ => none

def b2sA (H : List AObj) (x : AV) : Option ByteArray :=
  match x with
  | .pv .nils => some ByteArray.empty
  | .pv (.lit 1 es) => (bytesOf es).map fun l => ⟨l.toArray⟩
  | .uq _ _ 1 es => (bytesOf es).map fun l => ⟨l.toArray⟩
  | .own id len =>
    match H[id]? with
    | some (.seq sz _ cells _ nl) =>
      (if sz = 1 ∧ len * sz = cells.length then (if nl then some ByteArray.empty else ((allPV cells).bind bytesOf).map fun l => ⟨l.toArray⟩) else none)
    | _ => none
  | _ => none

def bestOf (mx : Bool) : IntKind → Int → List AV → Option PV
  | k, x, [] => some (.int k x)
  | k, x, .pv (.int _ y) :: r => bestOf mx k ((if mx then (if y > x then y else x) else (if y < x then y else x))) r
  | _, _, _ => none

def bestA (mx : Bool) : List AV → Option PV
  | .pv (.int k x) :: r => bestOf mx k x r
  | _ => none

/-- Cells laid into a row at places. -/
def fillA (cs : List AV) : List (Nat × Nat × AV) → Option (List AV)
  | [] => some cs
  | (off, sz, v) :: r => (if (v.cells.length = sz ∧ off + sz ≤ cs.length ∧ v.cells.all AV.one) then (fillA (setRow cs off v.cells) r) else none)

def repZ (zero : List PV) : Nat → List AV
  | 0 => []
  | n + 1 => zero.map .pv ++ repZ zero n

/-- A call's way: by number, with arguments and the abstract heap. -/
abbrev CallF := Nat → List AV → List AObj → Option (AV × List AObj)

def evalOp (call : CallF) (e : Tr) (H : List AObj) : AOp → Option (AV × List AObj)
  | .move x => some (x.ev e, H)
  | .pick c a b => (asBool (c.ev e)).bind fun t => some ((if t then (a.ev e) else (b.ev e)), H)
  | .alloc zero => some (.ptr H.length 0, H ++ [.box (zero.map .pv)])
  | .box n x => (if ((x.ev e).cells.length = n ∧ (x.ev e).cells.all AV.one) then (some (.ptr H.length 0, H ++ [.box (x.ev e).cells])) else none)
  | .boxR n x => (if ((x.ev e).cells.length = n ∧ (x.ev e).cells.all AV.one) then ((mapO (toPV [] 0) (x.ev e).cells).map fun ps => (.pv (.rp ps 0), H)) else none)
  | .build zero parts => (fillA (zero.map .pv) (parts.map fun p => (p.1, p.2.1, p.2.2.ev e))).map fun cs => (mkAgg cs, H)
  | .bslice h sz ag len zero parts =>
    (fillA (repZ zero len) (parts.map fun p => (p.1 * sz, sz, p.2.ev e))).bind fun cs =>
      (if (cs.all AV.one) then (fresh H h sz ag len cs) else none)
  | .load ag n x => (loadA H ag n (x.ev e)).map fun v => (v, H)
  | .store n a v => (storeA H n (a.ev e) (v.ev e)).map fun H' => (.pv (.tup []), H')
  | .nilck x =>
    match x.ev e with
    | .clo ix caps => some (.clo ix caps, H)
    | v => (place H 0 v).map fun v => (v, H)
  | .bin op x y => (binA op (x.ev e) (y.ev e)).map fun p => (.pv p, H)
  | .eq k neq x y => (eqA H k (x.ev e) (y.ev e)).map fun b => (.pv (.bool ((if neq then (!b) else b))), H)
  | .un op x => (unA op (x.ev e)).map fun p => (.pv p, H)
  | .conv k x => (asInt (x.ev e)).map fun n => (.pv (.int k (k.wrap n.2)), H)
  | .b2s x => (b2sA H (x.ev e)).map fun s => (.pv (.str s), H)
  | .s2b h x =>
    match x.ev e with
    | .pv (.str s) => fresh H h 1 false s.size (s.data.toList.map fun b => .pv (.int .u8 b.toNat))
    | _ => none
  | .mkfn ix caps => some (.clo ix (caps.map (·.ev e)), H)
  | .mkslice h sz ag zero bytes len cap =>
    (asInt (len.ev e)).bind fun l => (asInt (cap.ev e)).bind fun c =>
      (if (0 ≤ l.2 ∧ l.2 ≤ c.2 ∧ roomOk c.2.toNat bytes) then (fresh H h sz ag l.2.toNat (repZ zero l.2.toNat)) else none)
  | .slice sz x lo hi =>
    match lo, hi with
    | none, none => (sliceA H sz (x.ev e) none none).map fun v => (v, H)
    | some l, none => (asInt (l.ev e)).bind fun l => (sliceA H sz (x.ev e) (some l.2) none).map fun v => (v, H)
    | none, some h => (asInt (h.ev e)).bind fun h => (sliceA H sz (x.ev e) none (some h.2)).map fun v => (v, H)
    | some l, some h => (asInt (l.ev e)).bind fun l => (asInt (h.ev e)).bind fun h => (sliceA H sz (x.ev e) (some l.2) (some h.2)).map fun v => (v, H)
  | .faddr off x => (place H off (x.ev e)).map fun v => (v, H)
  | .fld off ag n x =>
    match x.ev e with
    | .pv (.agg cs) => (partP ag n cs off).map fun p => (.pv p, H)
    | .agg cs => (partA ag n cs off).map fun p => (p, H)
    | _ => none
  | .iaddr sz x i => (asInt (i.ev e)).bind fun i => (iaddrA' H sz (x.ev e) i.2).map fun v => (v, H)
  | .iaddrA n sz x i =>
    (asInt (i.ev e)).bind fun i => (if idxOk i.2 n then ((place H (i.2.toNat * sz) (x.ev e)).map fun v => (v, H)) else none)
  | .ixA n sz ag x i =>
    (asInt (i.ev e)).bind fun i => (if (idxOk i.2 n) then (match x.ev e with
      | .pv (.agg cs) => (partP ag sz cs (i.2.toNat * sz)).map fun p => (.pv p, H)
      | .agg cs => (partA ag sz cs (i.2.toNat * sz)).map fun p => (p, H)
      | _ => none) else none)
  | .ixS x i =>
    (asInt (i.ev e)).bind fun i =>
      match x.ev e with
      | .pv (.str s) => (if (0 ≤ i.2) then (s.data.toList[i.2.toNat]?.map fun b => (.pv (.int .u8 b.toNat), H)) else none)
      | _ => none
  | .ext i x =>
    match x.ev e with
    | .pv (.tup vs) => vs[i]?.map fun p => (.pv p, H)
    | .tup vs => vs[i]?.map fun p => (p, H)
    | _ => none
  | .len k x => (lenA H k (x.ev e)).map fun (n : Nat) => (pvInt (n : Int), H)
  | .mx xs => (bestA true (xs.map (·.ev e))).map fun p => (.pv p, H)
  | .mn xs => (bestA false (xs.map (·.ev e))).map fun p => (.pv p, H)
  | .append own h sz ag bytes s x => appendA H own h sz ag bytes (s.ev e) (x.ev e)
  | .callP F args => (mapO (toPV H deep) (args.map (·.ev e))).bind fun ps => (F ps).bind fun r => (if (((args.map (·.ev e)).all AV.free || flatV r) = true) then (some (.pv r, H)) else none)
  | .callI ix args => call ix (args.map (·.ev e)) H
  | .callV f args =>
    match f.ev e with
    | .clo ix caps => call ix (args.map (·.ev e) ++ caps) H
    | _ => none

/-- Is an operation to be carried out? -/
def wantedA (e : Tr) : Option (Nat × Bool) → Option Bool
  | none => some true
  | some (t, want) =>
    match e.get t with
    | .pv (.bool b) => some (b == want)
    | .pv (.tup []) => some false
    | _ => none

def putA (e : Tr) (d : Option Nat) (v : AV) : Tr :=
  match d with
  | some d => e.set d v
  | none => e

def putR (d : Option Nat) (e : Tr) : Option (AV × List AObj) → Option St
  | some (v, H) => some ⟨putA e d v, H⟩
  | none => none

/-- What was done without a look at any object, beside any. -/
def onH (H : List AObj) : Option (AV × List AObj) → Option (AV × List AObj)
  | some (v, []) => some (v, H)
  | _ => none

def evalG (call : CallF) (e : Tr) (H : List AObj) (o : AOper) : Option (AV × List AObj) := cond o.pr (onH H (evalOp call e [] o.op)) (evalOp call e H o.op)

def doOp (call : CallF) (o : AOper) (s : St) : Option St := putR o.dst s.env (evalG call s.env s.H o)
def skipOp (o : AOper) (s : St) : Option St := some ⟨putA s.env o.dst (.pv (.tup [])), s.H⟩

def guardA (f g : St → Option St) (s : St) : Option Bool → Option St
  | some true => f s
  | some false => g s
  | none => none

def evalOper (call : CallF) (o : AOper) (s : St) : Option St := guardA (doOp call o) (skipOp o) s (wantedA s.env o.guard)

def nextA (f : St → Option St) : Option St → Option St
  | some s => f s
  | none => none

def evalOps (call : CallF) : List AOper → St → Option St
  | [], s => some s
  | o :: r, s => nextA (evalOps call r) (evalOper call o s)

/-! ## cleaning at a loop's head -/

/-- A value behind which nothing younger than n stands; what may be appended to and is younger is held as a pure value. -/
def AV.cut (n : Nat) : Nat → AV → Option AV
  | _, .pv p => some (.pv p)
  | _, .ptr id off => (if (id < n) then (some (.ptr id off)) else none)
  | _, .eptr id m off => (if (id < n) then (some (.eptr id m off)) else none)
  | _, .uq id nl sz es => (if (id < n) then (some (.uq id nl sz es)) else (some (.pv ((if nl then .nils else (.lit sz es))))))
  | _, .own id len => (if (id < n) then (some (.own id len)) else none)
  | _, .mp id => (if (id < n) then (some (.mp id)) else none)
  | _, .undef => some .undef
  | 0, _ => none
  | d + 1, .clo ix caps => (mapO (AV.cut n d) caps).map (.clo ix)
  | d + 1, .agg cs => (mapO (AV.cut n d) cs).map .agg
  | d + 1, .tup cs => (mapO (AV.cut n d) cs).map .tup

def cutEnv (n : Nat) (e : Tr) : List Nat → Option Tr
  | [] => some .lf
  | t :: r => ((e.get t).cut n deep).bind fun v => (cutEnv n e r).map fun e' => e'.set t v

def cutMap (n : Nat) : List (PV × AV) → Option (List (PV × AV))
  | [] => some []
  | (k, v) :: r => (v.cut n deep).bind fun v => (cutMap n r).map ((k, v) :: ·)

/-- Is every object behind the value older? -/
def AV.keep (n : Nat) : Nat → AV → Bool
  | _, .pv _ => true
  | _, .ptr id _ => decide (id < n)
  | _, .eptr id _ _ => decide (id < n)
  | _, .uq id _ _ _ => decide (id < n)
  | _, .own id _ => decide (id < n)
  | _, .mp id => decide (id < n)
  | _, .undef => true
  | 0, _ => false
  | d + 1, .clo _ caps => caps.all (AV.keep n d)
  | d + 1, .agg cs => cs.all (AV.keep n d)
  | d + 1, .tup cs => cs.all (AV.keep n d)

def cutObj (n : Nat) : AObj → Option AObj
  | .box cells => (mapO (AV.cut n deep) cells).map .box
  | .seq sz ag cells fl nl => (if (cells.all (AV.keep n deep) = true) then (some (.seq sz ag cells fl nl)) else none)
  | .tok sz m nl => some (.tok sz m nl)
  | .map es => (cutMap n es).map .map
  | .dead => some .dead

def clean (n : Nat) (live : List Nat) (s : St) : Option St :=
  (cutEnv n s.env live).bind fun e => (mapO (cutObj n) (s.H.take n)).map fun H => ⟨e, H⟩

def ghostA (g : Ghost) (s : St) : Option St :=
  match g with
  | .mkuq t sz =>
    match s.env.get t with
    | .pv .nils => (if 0 < sz then (some ⟨s.env.set t (.uq s.H.length true sz []), s.H ++ [.tok sz 0 true]⟩) else none)
    | _ => none
  | .mkown t sz ag =>
    match s.env.get t with
    | .pv .nils => (if 0 < sz then (some ⟨s.env.set t (.own s.H.length 0), s.H ++ [.seq sz ag [] 0 true]⟩) else none)
    | _ => none
  | .mkuqC t off sz =>
    match s.env.get t with
    | .ptr id o =>
      match s.H[id]? with
      | some (.box cells) =>
        match cells[o + off]? with
        | some (.pv .nils) => (if 0 < sz then (some ⟨s.env, s.H.set id (.box (cells.set (o + off) (.uq s.H.length true sz []))) ++ [.tok sz 0 true]⟩) else none)
        | _ => none
      | _ => none
    | _ => none
  | .mkownC t off sz ag =>
    match s.env.get t with
    | .ptr id o =>
      match s.H[id]? with
      | some (.box cells) =>
        match cells[o + off]? with
        | some (.pv .nils) => (if 0 < sz then (some ⟨s.env, s.H.set id (.box (cells.set (o + off) (.own s.H.length 0))) ++ [.seq sz ag [] 0 true]⟩) else none)
        | _ => none
      | _ => none
    | _ => none
  | .freeze t =>
    match s.env.get t with
    | .own id len =>
      match s.H[id]? with
      | some (.seq sz ag cells _ nl) =>
        (if (len * sz = cells.length ∧ (ag || sz == 1) = true) then ((if nl then (some ⟨s.env.set t (.pv .nils), s.H.set id .dead⟩) else ((allPV cells).map fun ps => ⟨s.env.set t (.pv (.lit sz (chunk sz ag len ps))), s.H.set id .dead⟩))) else none)
      | _ => none
    | _ => none

def rounds : Nat := 18446744073709551616

/-- What follows where a piece of code goes on. -/
def seqA (f : St → Option (Ex × St)) : Option (Ex × St) → Option (Ex × St)
  | some (.norm, s) => f s
  | r => r

def normA : Option St → Option (Ex × St)
  | some s => some (.norm, s)
  | none => none

def condA (f g : St → Option (Ex × St)) (s : St) : Option Bool → Option (Ex × St)
  | some true => f s
  | some false => g s
  | none => none

def blockA (id : Nat) : Option (Ex × St) → Option (Ex × St)
  | some (.exit id', s) => if id' = id then some (.norm, s) else some (.exit id', s)
  | r => r

/-- One round: the body, and, where it goes on, the cleaning. -/
def roundA (f : St → Option (Ex × St)) (cl : St → Option St) (s : St) : Option (Ex × St) := seqA (fun s => normA (cl s)) (f s)

def loopA (g : St → Option (Ex × St)) : Nat → St → Option (Ex × St)
  | 0, _ => none
  | n + 1, s => seqA (loopA g n) (g s)

def startA (f : St → Option (Ex × St)) : Option St → Option (Ex × St)
  | some s => f s
  | none => none

def evalC (call : CallF) : ACode → St → Option (Ex × St)
  | .skip, s => some (.norm, s)
  | .region ops, s => normA (evalOps call ops s)
  | .seq a b, s => seqA (evalC call b) (evalC call a s)
  | .cond c a b, s => condA (evalC call a) (evalC call b) s (asBool (c.ev s.env))
  | .block id b, s => blockA id (evalC call b s)
  | .loop live b, s => startA (loopA (roundA (evalC call b) (clean s.H.length live)) rounds) (clean s.H.length live s)
  | .exit id, s => some (.exit id, s)
  | .ret, s => some (.ret, s)
  | .ghost g c, s => startA (evalC call c) (ghostA g s)

def argEnv : Nat → List AV → Tr
  | _, [] => .lf
  | i, v :: r => (argEnv (i + 1) r).set i v

def resA (s : St) : ARes → Option AV
  | .tmp t => some (s.env.get t)
  | .cell t ag n => loadA s.H ag n (s.env.get t)

def one1 : List AV → AV
  | [v] => v
  | vs => mkTup vs

def retA (f : AFn) (s : St) : Option AV := (mapO (resA s) f.results).map one1

def outA (f : AFn) : Option (Ex × St) → Option (AV × List AObj)
  | some (.exit _, _) => none
  | some (_, s) => (retA f s).map fun v => (v, s.H)
  | none => none

def runF (call : CallF) (f : AFn) (args : List AV) (H : List AObj) : Option (AV × List AObj) :=
  if args.length = f.np then outA f (evalC call f.body ⟨argEnv 0 args, H⟩) else none

/-- Calls by number, out of a table, to a depth. -/
def callL (L : Nat → Option AFn) : Nat → CallF
  | 0 => fun _ _ _ => none
  | d + 1 => fun ix args H => (L ix).bind fun f => runF (callL L d) f args H

/-- What a function computes of pure values. -/
def pureF (L : Nat → Option AFn) (f : AFn) (args : List PV) : Option PV :=
  (runF (callL L 8) f (args.map .pv) []).bind fun r => toPV r.2 deep r.1

end Go.AM
