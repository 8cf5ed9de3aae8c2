/- The abstract machine, part 10: the check of an operation, and that it is met: what reads no memory, and addresses. -/
import Derived.Test.YtlibmcabpcehcaaAm9
set_option linter.unusedSimpArgs false
set_option linter.unusedVariables false
namespace Go.AM
open Go.RowKit

def eqConst : Value → PV → Bool
  | .int k n, .int k' n' => decide (k = k') && decide (n = n')
  | .bool a, .bool b => a == b
  | .string s, .str t => s.data.toList == t.data.toList
  | .pointer none, .nilp => true
  | .slice none 0 0, .nils => true
  | .map none, .nilm => true
  | .nilFunc, .nilf => true
  | .nilIface, .nili => true
  | .tuple vs, .tup [] => vs.size == 0
  | _, _ => false

theorem eqConst_rel {R : Rd} {v : Value} {p : PV} (h : eqConst v p = true) : PRel R p v := by
  unfold eqConst at h
  split at h
  · simp only [Bool.and_eq_true, decide_eq_true_eq] at h
    obtain ⟨rfl, rfl⟩ := h
    exact .int _ _
  · simp at h; subst h; exact .bool _
  · rename_i s t
    have : s = t := by
      cases s; cases t
      simp at h; subst h; rfl
    subst this; exact .str _
  · exact .nilp
  · exact .nils
  · exact .nilm
  · exact .nilf
  · exact .nili
  · rename_i vs
    have : vs = #[] := by simpa using h
    subst this
    exact .tup [] [] .nil
  · cases h

def eqConsts : List Value → List PV → Bool
  | [], [] => true
  | v :: vs, p :: ps => eqConst v p && pone p && eqConsts vs ps
  | _, _ => false

theorem eqConsts_rel {R : Rd} : ∀ {vs : List Value} {ps : List PV}, eqConsts vs ps = true → LRel R ps vs ∧ (ps.map AV.pv).all AV.one = true
  | [], [], _ => ⟨.nil, rfl⟩
  | v :: vs, p :: ps, h => by
    simp only [eqConsts, Bool.and_eq_true] at h
    obtain ⟨h1, h2⟩ := eqConsts_rel (R := R) h.2
    exact ⟨.cons _ _ _ _ (eqConst_rel h.1.1) h1, by simp only [List.map_cons, List.all_cons, h2, Bool.and_true]; exact h.1.2⟩
  | [], _ :: _, h => by simp [eqConsts] at h
  | _ :: _, [], h => by simp [eqConsts] at h

def zerosP (P : Program) (t : TypeId) (zero : List PV) : Bool :=
  match P.info? t with
  | some i => match i.zero with
    | some z => eqConsts z.cells.toList zero
    | none => false
  | none => false

def okO (fo : Nat → FuncId) : Operand → AO → Bool
  | .tmp n, .t m => n == m
  | .const v, .c p => eqConst v p
  | .func f, .f ix => fo ix == f
  | _, _ => false

section ops
variable {P : Program} {fo : Nat → FuncId} {B0 : Base} {w : World} {R : Rd} {φ : Pl} {H : List AObj} {e : Tr} {a : Act}

theorem ev_rel (hE : ERel fo (K R φ H) e a) {x : Operand} {y : AO} (h : okO fo x y = true) : ARel fo (K R φ H) (y.ev e) (a.eval x) := by
  unfold okO at h
  split at h
  · simp at h; subst h; exact hE _
  · exact .atom _ _ (eqConst_rel h)
  · simp at h; subst h; exact .clo _ [] [] .nil
  · cases h

def okOs (fo : Nat → FuncId) : List Operand → List AO → Bool
  | [], [] => true
  | x :: xs, y :: ys => okO fo x y && okOs fo xs ys
  | _, _ => false

theorem evs_rel (hE : ERel fo (K R φ H) e a) : ∀ {xs : List Operand} {ys : List AO}, okOs fo xs ys = true → ALRel fo (K R φ H) (ys.map (·.ev e)) (xs.map a.eval)
  | [], [], _ => .nil
  | x :: xs, y :: ys, h => by
    simp only [okOs, Bool.and_eq_true] at h
    exact .cons _ _ _ _ (ev_rel hE h.1) (evs_rel hE h.2)
  | [], _ :: _, h => by simp [okOs] at h
  | _ :: _, [], h => by simp [okOs] at h

/-- What is to be shown of an operation's own part. -/
abbrev ResV (fo : Nat → FuncId) (B0 : Base) (w : World) (R : Rd) (φ : Pl) (H : List AObj) (P : Program) (s : Sem Value) (v : AV) (H' : List AObj) : Prop := Res fo B0 w R φ H (s.run P w) v H'

theorem asInt_rel {x : AV} {vx : Value} (hx : ARel fo (K R φ H) x vx) {k : IntKind} {n : Int} (h : AM.asInt x = some (k, n)) : vx = .int k n := by
  cases x with
  | pv p =>
    cases p with
    | int k' n' =>
      simp [AM.asInt] at h
      obtain ⟨rfl, rfl⟩ := h
      have := hx.pv_inv
      cases this
      rfl
    | _ => simp [AM.asInt] at h
  | _ => simp [AM.asInt] at h

theorem asBool_rel {x : AV} {vx : Value} (hx : ARel fo (K R φ H) x vx) {b : Bool} (h : AM.asBool x = some b) : vx = .bool b := by
  cases x with
  | pv p =>
    cases p with
    | bool b' =>
      simp [AM.asBool] at h
      subst h
      have := hx.pv_inv
      cases this
      rfl
    | _ => simp [AM.asBool] at h
  | _ => simp [AM.asBool] at h

theorem place_rel (hS : SRel fo B0 w R φ H) {x y : AV} {vx : Value} (hx : ARel fo (K R φ H) x vx) {d : Nat} (h : place H d x = some y) : ∃ b o, vx = .pointer (some ⟨b, o, none⟩) ∧ ARel fo (K R φ H) y (.pointer (some ⟨b, o + d, none⟩)) := by
  cases hx with
  | atom x vx hx =>
    cases x with
    | pv p =>
      have hx : PRel R p vx := hx
      cases p with
      | rp row off =>
        simp [place] at h; subst h
        cases hx with
        | rp _ _ b o hr => exact ⟨b, o + off, rfl, .atom _ _ (by rw [Nat.add_assoc]; exact PRel.rp row (off + d) b o hr)⟩
      | _ => simp [place] at h
    | ptr id off =>
      simp only [place] at h
      split at h
      · rename_i c hc
        injection h with h; subst h
        refine ⟨_, _, hx.2.2 c hc, .atom _ _ ⟨hx.1, rfl, fun c' hc' => rfl⟩⟩
      · cases h
    | eptr id n off =>
      simp only [place] at h
      split at h
      · rename_i sz ag c fl nl hc
        obtain ⟨k0, kk⟩ := hx.2.2 _ _ _ _ _ hc
        obtain ⟨h0, h1, h2, hao, h3⟩ := hS.obj id _ hc
        have out : ∀ {v : Value} {bb oo : Nat}, v = .pointer (some ⟨bb, oo + d, none⟩) → ((c.length = n → bb = (φ id).1 ∧ oo = off) ∧ (∀ ps, allPV (c.take n) = some ps → 0 < n → (bb = (φ id).1 ∧ oo = off) ∨ ∃ o, oo = o + off ∧ RRel R ps bb o)) → fl ≤ n →
            ARel fo (K R φ H) (.eptr id n (off + d)) v := by
          intro v bb oo hv hq hfl
          subst hv
          refine .atom _ _ ⟨hx.1, rfl, fun sz' ag' c' fl' nl' hc' => ?_⟩
          rw [hc] at hc'
          injection hc' with hc'; injection hc' with e1 e2 e3 e4 e5
          subst e1 e2 e3 e4 e5
          refine ⟨k0, fun _ => ⟨fun e => ?_, fun ps hps hn0 => ?_⟩⟩
          · obtain ⟨rfl, rfl⟩ := hq.1 e; rfl
          · rcases hq.2 ps hps hn0 with ⟨rfl, rfl⟩ | ⟨o, rfl, hr⟩
            · exact .inl rfl
            · exact .inr ⟨bb, o, by rw [Nat.add_assoc], hr⟩
        split at h
        · rename_i hn
          injection h with h; subst h
          have hv := (kk (by omega)).1 hn
          exact ⟨_, _, hv, out rfl ⟨fun _ => ⟨rfl, rfl⟩, fun _ _ _ => .inl ⟨rfl, rfl⟩⟩ (by omega)⟩
        · split at h
          · rename_i hn hf
            simp only [Option.map_eq_some_iff] at h
            obtain ⟨ps, hps, rfl⟩ := h
            rcases (kk hf.1).2 ps hps hf.2 with hv | ⟨b, o, hv, hr⟩
            · exact ⟨_, _, hv, out rfl ⟨fun e => absurd e hn, fun _ _ _ => .inl ⟨rfl, rfl⟩⟩ hf.1⟩
            · refine ⟨_, _, hv, out rfl ⟨fun e => absurd e hn, fun ps' hps' _ => .inr ⟨o, rfl, ?_⟩⟩ hf.1⟩
              rw [hps] at hps'; injection hps' with hps'; subst hps'; exact hr
          · cases h
      · cases h
    | _ => simp [place] at h
  | _ => simp [place] at h

theorem place_zero {x y : AV} (h : place H 0 x = some y) : y = x := by
  cases x with
  | pv p => cases p <;> simp_all [place]
  | ptr id off => simp only [place] at h; split at h <;> simp_all
  | eptr id n off =>
    simp only [place] at h
    split at h
    · split at h
      · simp_all
      · split at h
        · simp only [Option.map_eq_some_iff] at h; obtain ⟨_, _, rfl⟩ := h; rfl
        · cases h
    · cases h
  | _ => simp [place] at h

/-! ### addresses -/

theorem faddr_sim (hS : SRel fo B0 w R φ H) {x y : AV} {vx : Value} (hx : ARel fo (K R φ H) x vx) {s : TypeId} {f : Nat} {fs : Array Field} {fd : Field} {n : Nat} (hu : P.underlying s = some (.struct fs)) (hf : fs[f]? = some fd)
    (hn : sizeP P fd.type = some n) (hn0 : n ≠ 0) (h : place H fd.offset x = some y) : ResV fo B0 w R φ H P (Instr.fieldAt s vx f) y H := by
  obtain ⟨b, o, rfl, h2⟩ := place_rel hS hx h
  refine Res.same _ hS ?_ h2
  simp [Instr.fieldAt, run_underlying hu, hf, Instr.sureAddr, fieldPlace, run_sizeOf' hn, hn0, addr_add]

theorem iaddrA_sim (hS : SRel fo B0 w R φ H) {x y : AV} {vx : Value} (hx : ARel fo (K R φ H) x vx) {t el : TypeId} {n sz : Nat} {k : IntKind} {i : Int} (hu : P.underlying t = some (.array n el)) (hsz : sizeP P el = some sz) (hi : idxOk i n)
    (h : place H (i.toNat * sz) x = some y) : ResV fo B0 w R φ H P (Instr.indexAt t vx (.int k i)) y H := by
  obtain ⟨b, o, rfl, h2⟩ := place_rel hS hx h
  refine Res.same _ hS ?_ h2
  obtain ⟨i1, i2⟩ := hi
  simp [Instr.indexAt, asIntOf, run_underlying hu, Instr.sureAddr, i1, i2, run_sizeOf' hsz, addr_add]

theorem iaddr_sim (hS : SRel fo B0 w R φ H) {x y : AV} {vx : Value} (hx : ARel fo (K R φ H) x vx) {t el : TypeId} {sz : Nat} {k : IntKind} {i : Int} (hu : P.underlying t = some (.slice el)) (hsz : sizeP P el = some sz)
    (h : iaddrA' H sz x i = some y) : ResV fo B0 w R φ H P (Instr.indexAt t vx (.int k i)) y H := by
  have run : ∀ (b o len cap : Nat), 0 ≤ i → i < (len : Int) → (Instr.indexAt t (.slice (some ⟨b, o, none⟩) len cap) (.int k i)).run P w = .ok (.pointer (some ⟨b, o + i.toNat * sz, none⟩)) w := by
    intro b o len cap i1 i2
    simp [Instr.indexAt, asIntOf, run_underlying hu, i1, i2, run_sizeOf' hsz, addr_add]
  have litc : ∀ {es : List PV}, PRel R (.lit sz es) vx → idxOk i es.length → es[i.toNat]?.map (fun e => AV.pv (.rp e.cells 0)) = some y → ResV fo B0 w R φ H P (Instr.indexAt t vx (.int k i)) y H := by
    intro es hp hi hy
    cases hp with
    | lit _ _ b o cap h1 h2 h3 =>
      simp only [Option.map_eq_some_iff] at hy
      obtain ⟨el, he, rfl⟩ := hy
      refine Res.same _ hS (run b o _ _ hi.1 hi.2) (.atom _ _ ?_)
      show PRel _ _ _
      have h4 := (h3.drop (i.toNat * sz)).take sz
      rw [flat_get h2 he] at h4
      exact PRel.rp _ 0 b _ h4
    | lit0 _ a => simp at hy
  cases hx with
  | atom x vx hx =>
    cases x with
    | pv p =>
      cases p with
      | lit s es =>
        simp only [iaddrA'] at h
        split at h
        · rename_i hc; obtain ⟨rfl, hi⟩ := hc; exact litc hx hi h
        · cases h
      | _ => simp [iaddrA'] at h
    | uq id nl s es =>
      simp only [iaddrA'] at h
      split at h
      · rename_i hc
        obtain ⟨rfl, hi⟩ := hc
        cases nl with
        | true =>
          obtain ⟨_, rfl⟩ := hx.2.1 rfl
          simp [idxOk] at hi; omega
        | false => exact litc (hx.2.2.1 rfl) hi h
      · cases h
    | own id len =>
      simp only [iaddrA'] at h
      split at h
      · rename_i s ag c fl nl hc
        split at h
        · rename_i hi
          obtain ⟨rfl, hi, hw1, hw2⟩ := hi
          obtain ⟨k0, k⟩ := hx.2.2 _ _ _ _ _ hc
          obtain ⟨h0, h1, h2, hao, h3⟩ := hS.obj id _ hc
          have hlen : 0 < len := by have := hi.1; have := hi.2; omega
          have hnl : nl = false := by
            cases nl with
            | false => rfl
            | true =>
              have := h2 rfl
              subst this
              simp only [List.length_nil] at k0
              have : 0 < len * s := Nat.mul_pos hlen h0
              omega
          subst hnl
          injection h with h; subst h
          obtain ⟨k1, k2⟩ := k hw1
          rcases k2 rfl with ⟨q1, _, _⟩ | ⟨b, o, cap, q1, q2, q3⟩
          · omega
          · subst q1
            refine Res.same _ hS (run _ _ _ _ hi.1 hi.2) (.atom _ _ ⟨hx.1, rfl, fun sz' ag' c' fl' nl' hc' => ?_⟩)
            rw [hc] at hc'
            injection hc' with hc'; injection hc' with e1 e2 e3 e4 e5
            subst e1 e2 e3 e4 e5
            refine ⟨k0, fun _ => ⟨fun e => ?_, fun ps hps _ => ?_⟩⟩
            · obtain ⟨rfl, rfl, _⟩ := q2 e.symm
              rw [Nat.zero_add]
            · rcases q3 ps hps with ⟨rfl, rfl⟩ | hr
              · rw [Nat.zero_add]; exact .inl rfl
              · exact .inr ⟨b, o, rfl, hr⟩
        · cases h
      · cases h
    | _ => simp [iaddrA'] at h
  | _ => simp [iaddrA'] at h

end ops
end Go.AM
