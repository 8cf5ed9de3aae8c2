/- The abstract machine, part 18: regions. -/
import Derived.Test.YtlibmcabpcehcaaAm17
set_option linter.unusedSimpArgs false
set_option linter.unusedVariables false
namespace Go.AM
open Go.RowKit

/-! ## changing places -/

def Eqv (s s' : St) : Prop := s.H = s'.H ∧ ∀ t, s.env.get t = s'.env.get t

theorem Eqv.refl (s : St) : Eqv s s := ⟨rfl, fun _ => rfl⟩
theorem Eqv.symm {s s' : St} (h : Eqv s s') : Eqv s' s := ⟨h.1.symm, fun t => (h.2 t).symm⟩
theorem Eqv.trans {s s' s'' : St} (h : Eqv s s') (k : Eqv s' s'') : Eqv s s'' := ⟨h.1.trans k.1, fun t => (h.2 t).trans (k.2 t)⟩

def AOper.look (n : Nat) (o : AOper) : Bool := o.op.look n || (match o.guard with | some (t, _) => n == t | none => false)

def dstOff (d : Option Nat) (p : Nat → Bool) : Bool :=
  match d with
  | some d => p d
  | none => false

def calmA (x y : AOper) : Bool :=
  !dstOff x.dst (fun d => y.look d) && !dstOff y.dst (fun d => x.look d) && !dstOff x.dst (fun d => y.dst == some d) && calmC x.cls y.cls

theorem wantedA_congr {e e' : Tr} {g : Option (Nat × Bool)} (h : ∀ t b, g = some (t, b) → e.get t = e'.get t) : wantedA e g = wantedA e' g := by
  cases g with
  | none => rfl
  | some g => obtain ⟨t, b⟩ := g; simp only [wantedA, h t b rfl]

theorem get_putA (e : Tr) (d : Option Nat) (v : AV) (t : Nat) : (putA e d v).get t = if d = some t then v else e.get t := by
  cases d with
  | none => simp [putA]
  | some d =>
    simp only [putA, Tr.get_set, Option.some.injEq]
    by_cases h : t = d
    · subst h; simp
    · simp [h, Ne.symm h]

theorem evalOper_congr {call : CallF} {o : AOper} {e e' : Tr} {H : List AObj} (h : ∀ n, o.look n = true → e.get n = e'.get n) {s1 : St} (h1 : evalOper call o ⟨e, H⟩ = some s1) :
    ∃ v, s1.env = putA e o.dst v ∧ evalOper call o ⟨e', H⟩ = some ⟨putA e' o.dst v, s1.H⟩ := by
  have hw : wantedA e o.guard = wantedA e' o.guard := wantedA_congr fun t b hg => h t (by simp [AOper.look, hg])
  have ho : evalG call e H o = evalG call e' H o := evalG_congr fun n hn => h n (by simp [AOper.look, hn])
  unfold evalOper at h1 ⊢
  simp only at h1 ⊢
  rw [← hw]
  cases hc : wantedA e o.guard with
  | none => simp [hc, guardA] at h1
  | some b =>
    cases b with
    | true =>
      simp only [hc, guardA, doOp] at h1 ⊢
      rw [← ho]
      cases hv : evalG call e H o with
      | none => simp [hv, putR] at h1
      | some r =>
        obtain ⟨v, H'⟩ := r
        simp only [hv, putR, Option.some.injEq] at h1 ⊢
        subst h1
        exact ⟨v, rfl, rfl⟩
    | false =>
      simp only [hc, guardA, skipOp, Option.some.injEq] at h1 ⊢
      subst h1
      exact ⟨_, rfl, rfl⟩

theorem evalOper_eqv {call : CallF} {o : AOper} {s s' s1 : St} (he : Eqv s s') (h : evalOper call o s = some s1) : ∃ s1', evalOper call o s' = some s1' ∧ Eqv s1 s1' := by
  obtain ⟨e, H⟩ := s
  obtain ⟨e', H'⟩ := s'
  obtain ⟨h1, h2⟩ := he
  simp only at h1 h2
  subst h1
  obtain ⟨v, hv, hh⟩ := evalOper_congr (e' := e') (fun n _ => h2 n) h
  refine ⟨_, hh, rfl, fun t => ?_⟩
  simp only [hv, get_putA, h2]

theorem evalOps_eqv {call : CallF} {os : List AOper} : ∀ {s s' s1 : St}, Eqv s s' → evalOps call os s = some s1 → ∃ s1', evalOps call os s' = some s1' ∧ Eqv s1 s1' := by
  induction os with
  | nil => intro s s' s1 he h; simp only [evalOps, Option.some.injEq] at h ⊢; subst h; exact ⟨s', rfl, he⟩
  | cons o os ih =>
    intro s s' s1 he h
    simp only [evalOps] at h ⊢
    cases ho : evalOper call o s with
    | none => simp [ho, nextA] at h
    | some s2 =>
      simp only [ho, nextA] at h
      obtain ⟨s2', h2, e2⟩ := evalOper_eqv he ho
      obtain ⟨s1', h3, e3⟩ := ih e2 h
      exact ⟨s1', by simp [h2, nextA, h3], e3⟩

/-- How an operation was carried out. -/
theorem evalOper_inv {call : CallF} {o : AOper} {e : Tr} {H : List AObj} {s1 : St} (h : evalOper call o ⟨e, H⟩ = some s1) :
    (wantedA e o.guard = some true ∧ ∃ v, evalG call e H o = some (v, s1.H) ∧ s1.env = putA e o.dst v) ∨
    (wantedA e o.guard = some false ∧ s1 = ⟨putA e o.dst (.pv (.tup [])), H⟩) := by
  unfold evalOper at h
  simp only at h
  cases hc : wantedA e o.guard with
  | none => simp [hc, guardA] at h
  | some b =>
    cases b with
    | true =>
      simp only [hc, guardA, doOp] at h
      cases hv : evalG call e H o with
      | none => simp [hv, putR] at h
      | some r =>
        obtain ⟨v, H'⟩ := r
        simp only [hv, putR, Option.some.injEq] at h
        subst h
        exact .inl ⟨rfl, v, by simp, rfl⟩
    | false =>
      simp only [hc, guardA, skipOp, Option.some.injEq] at h
      exact .inr ⟨rfl, h.symm⟩

theorem evalOper_do {call : CallF} {o : AOper} {e : Tr} {H H' : List AObj} {v : AV} (h : wantedA e o.guard = some true) (hv : evalG call e H o = some (v, H')) :
    evalOper call o ⟨e, H⟩ = some ⟨putA e o.dst v, H'⟩ := by
  simp [evalOper, h, guardA, doOp, hv, putR]

theorem evalOper_skip {call : CallF} {o : AOper} {e : Tr} {H : List AObj} (h : wantedA e o.guard = some false) :
    evalOper call o ⟨e, H⟩ = some ⟨putA e o.dst (.pv (.tup [])), H⟩ := by
  simp [evalOper, h, guardA, skipOp]

theorem put_swap {e : Tr} {x y : Option Nat} {v u : AV} (h : ∀ d, x = some d → y ≠ some d) (t : Nat) : (putA (putA e x v) y u).get t = (putA (putA e y u) x v).get t := by
  simp only [get_putA]
  by_cases hx : x = some t
  · have := h t hx
    simp [hx, this]
  · simp [hx]

theorem swap_oper {call : CallF} {x y : AOper} {s s1 s2 : St} (hc : calmA x y = true) (h1 : evalOper call x s = some s1) (h2 : evalOper call y s1 = some s2) :
    ∃ s3 s4, evalOper call y s = some s3 ∧ evalOper call x s3 = some s4 ∧ Eqv s2 s4 := by
  obtain ⟨e, H⟩ := s
  simp only [calmA, Bool.and_eq_true, Bool.not_eq_true'] at hc
  obtain ⟨⟨⟨ca, cb⟩, cc⟩, cd⟩ := hc
  have ha : ∀ d, x.dst = some d → y.look d = false := fun d hd => by simpa [dstOff, hd] using ca
  have hb : ∀ d, y.dst = some d → x.look d = false := fun d hd => by simpa [dstOff, hd] using cb
  have hcc : ∀ d, x.dst = some d → y.dst ≠ some d := fun d hd he => by simp [dstOff, hd, he] at cc
  have lx : ∀ (e : Tr) (u : AV) n, x.look n = true → (putA e y.dst u).get n = e.get n := fun e u n hn => by
    rw [get_putA]
    by_cases hd : y.dst = some n
    · rw [hb n hd] at hn; cases hn
    · simp [hd]
  have ly : ∀ (e : Tr) (u : AV) n, y.look n = true → (putA e x.dst u).get n = e.get n := fun e u n hn => by
    rw [get_putA]
    by_cases hd : x.dst = some n
    · rw [ha n hd] at hn; cases hn
    · simp [hd]
  have wx : ∀ (e : Tr) u, wantedA (putA e y.dst u) x.guard = wantedA e x.guard := fun e u => wantedA_congr fun t b hg => lx e u t (by simp [AOper.look, hg])
  have wy : ∀ (e : Tr) u, wantedA (putA e x.dst u) y.guard = wantedA e y.guard := fun e u => wantedA_congr fun t b hg => ly e u t (by simp [AOper.look, hg])
  have ox : ∀ (e : Tr) u H, evalG call (putA e y.dst u) H x = evalG call e H x := fun e u H => evalG_congr fun n hn => lx e u n (by simp [AOper.look, hn])
  have oy : ∀ (e : Tr) u H, evalG call (putA e x.dst u) H y = evalG call e H y := fun e u H => evalG_congr fun n hn => ly e u n (by simp [AOper.look, hn])
  obtain ⟨e1, H1⟩ := s1
  obtain ⟨e2, H2⟩ := s2
  rcases evalOper_inv h1 with ⟨g1, v1, q1, r1⟩ | ⟨g1, r1⟩
  · simp only at q1 r1
    subst r1
    rcases evalOper_inv h2 with ⟨g2, v2, q2, r2⟩ | ⟨g2, r2⟩
    · simp only at q2 r2
      subst r2
      rw [wy] at g2
      rw [oy] at q2
      obtain ⟨H3, k1, k2⟩ := swap_ops cd q1 q2
      exact ⟨_, _, evalOper_do g2 k1, evalOper_do (by rw [wx]; exact g1) (by rw [ox]; exact k2), rfl, fun t => put_swap hcc t⟩
    · injection r2 with r2 r3
      subst r2 r3
      rw [wy] at g2
      exact ⟨_, _, evalOper_skip g2, evalOper_do (by rw [wx]; exact g1) (by rw [ox]; exact q1), rfl, fun t => put_swap hcc t⟩
  · injection r1 with r1 r3
    subst r1 r3
    rcases evalOper_inv h2 with ⟨g2, v2, q2, r2⟩ | ⟨g2, r2⟩
    · simp only at q2 r2
      subst r2
      rw [wy] at g2
      rw [oy] at q2
      exact ⟨_, _, evalOper_do g2 q2, evalOper_skip (by rw [wx]; exact g1), rfl, fun t => put_swap hcc t⟩
    · injection r2 with r2 r3
      subst r2 r3
      rw [wy] at g2
      exact ⟨_, _, evalOper_skip g2, evalOper_skip (by rw [wx]; exact g1), rfl, fun t => put_swap hcc t⟩

/-- An operation that is calm behind all of a row may be done first. -/
theorem bubble {call : CallF} {y : AOper} {rest : List AOper} : ∀ {pre : List AOper} {s s' : St}, (∀ x ∈ pre, calmA x y = true) → evalOps call (pre ++ y :: rest) s = some s' →
    ∃ s1 s'', evalOper call y s = some s1 ∧ evalOps call (pre ++ rest) s1 = some s'' ∧ Eqv s' s'' := by
  intro pre
  induction pre with
  | nil =>
    intro s s' _ h
    simp only [List.nil_append, evalOps] at h ⊢
    cases ho : evalOper call y s with
    | none => simp [ho, nextA] at h
    | some s1 => simp only [ho, nextA] at h; exact ⟨s1, s', rfl, h, Eqv.refl _⟩
  | cons x pre ih =>
    intro s s' hc h
    simp only [List.cons_append, evalOps] at h ⊢
    cases ho : evalOper call x s with
    | none => simp [ho, nextA] at h
    | some s1 =>
      simp only [ho, nextA] at h
      obtain ⟨s2, s'', k1, k2, k3⟩ := ih (fun z hz => hc z (by simp [hz])) h
      obtain ⟨s3, s4, j1, j2, j3⟩ := swap_oper (hc x (by simp)) ho k1
      obtain ⟨s5, i1, i2⟩ := evalOps_eqv j3 k2
      exact ⟨s3, s5, j1, by simp [j2, nextA, i1], k3.trans i2⟩

/-! ## the simulation of a region -/

/-- How far the model has come along with the abstract machine. -/
structure Goes (fo : Nat → FuncId) (B0 : Base) (w : World) (R : Rd) (φ : Pl) (H : List AObj) (a : Act) (w' : World) (R' : Rd) (φ' : Pl) (s' : St) (a' : Act) : Prop where
  rel : SRel fo B0 w' R' φ' s'.H
  env : ERel fo (K R' φ' s'.H) s'.env a'
  mono : ∀ x u, K R φ H x u → K R' φ' s'.H x u
  below : Below B0 w w'
  size : a'.tmps.size = a.tmps.size
  defers : a'.defers = a.defers

section
variable {P : Program} {fo : Nat → FuncId} {B0 : Base} {call : CallF}

theorem Goes.refl {w : World} {R : Rd} {φ : Pl} {s : St} {a : Act} (hS : SRel fo B0 w R φ s.H) (hE : ERel fo (K R φ s.H) s.env a) : Goes fo B0 w R φ s.H a w R φ s a :=
  ⟨hS, hE, fun _ _ h => h, Below.refl _ _, rfl, rfl⟩

theorem Goes.trans {w w' w'' : World} {R R' R'' : Rd} {φ φ' φ'' : Pl} {H : List AObj} {s' s'' : St} {a a' a'' : Act}
    (h : Goes fo B0 w R φ H a w' R' φ' s' a') (k : Goes fo B0 w' R' φ' s'.H a' w'' R'' φ'' s'' a'') : Goes fo B0 w R φ H a w'' R'' φ'' s'' a'' :=
  ⟨k.rel, k.env, fun x u hx => k.mono _ _ (h.mono _ _ hx), h.below.trans k.below, k.size.trans h.size, k.defers.trans h.defers⟩

theorem Goes.eqv {w w' : World} {R R' : Rd} {φ φ' : Pl} {H : List AObj} {s' s'' : St} {a a' : Act} (h : Goes fo B0 w R φ H a w' R' φ' s' a') (he : Eqv s' s'') : Goes fo B0 w R φ H a w' R' φ' s'' a' := by
  obtain ⟨e1, e2⟩ := he
  exact ⟨e1 ▸ h.rel, fun t => by rw [← e2, ← e1]; exact h.env t, e1 ▸ h.mono, h.below, h.size, h.defers⟩

theorem SRel.drew {w w' : World} {R : Rd} {φ : Pl} {H : List AObj} (h : SRel fo B0 w R φ H) (hw : w'.heap = w.heap) : SRel fo B0 w' R φ H := by
  have hb : ∀ b arr, Blk w b arr → Blk w' b arr := fun b arr hb => hb.keep (by rw [hw])
  refine ⟨by rw [hw]; exact h.low, fun b o v hv => by rw [← h.sub b o v hv]; simp [World.cell?, hw], fun id o ho => ?_, h.inj, h.old⟩
  have := h.obj id o ho
  cases o with
  | box cells => exact ⟨this.1, this.2.1, this.2.2.1, this.2.2.2.imp fun arr q => ⟨hb _ _ q.1, q.2⟩⟩
  | seq sz ag cells fl nl => exact ⟨this.1, this.2.1, this.2.2.1, this.2.2.2.1, fun e => ⟨(this.2.2.2.2 e).1, (this.2.2.2.2 e).2.1, (this.2.2.2.2 e).2.2.imp fun arr q => ⟨hb _ _ q.1, q.2⟩⟩⟩
  | tok sz n nl => exact ⟨this.1, this.2.1, fun e => ⟨(this.2.2 e).1, (this.2.2 e).2.1, (this.2.2 e).2.2.imp fun arr q => ⟨hb _ _ q.1, q.2⟩⟩⟩
  | map es => exact this
  | dead => trivial

theorem ERel.put {k : AV → Value → Prop} {e : Tr} {a : Act} (h : ERel fo k e a) (d : Option Nat) (hd : ∀ t, d = some t → t < a.tmps.size) {v : AV} {u : Value} (hv : ARel fo k v u) :
    ERel fo k (putA e d v) (a.put d u) := by
  intro t
  rw [get_putA]
  cases d with
  | none => simp only [reduceCtorEq, if_false]; exact h t
  | some d =>
    by_cases ht : d = t
    · subst ht
      simp only [if_true, Act.put]
      rw [Array.getD_eq_getD_getElem?, Array.getElem?_setIfInBounds_self_of_lt (hd d rfl)]
      exact hv
    · simp only [Option.some.injEq, ht, if_false, Act.put]
      rw [Array.getD_eq_getD_getElem?, Array.getElem?_setIfInBounds_ne ht, ← Array.getD_eq_getD_getElem?]
      exact h t

/-- The check of an operation within its region: its target, its guard. -/
def okSlot (nt : Nat) (ops : Array Oper) (o : Oper) (ao : AOper) : Bool :=
  o.dst == ao.dst && (match o.dst with | some d => decide (d < nt) | none => true) &&
  (match o.guard, ao.guard with
  | none, none => true
  | some (g, want), some (t, want') => want == want' && ((ops[g]?).bind (·.dst)) == some t
  | _, _ => false)

/-- What an operation of the abstract machine owes. -/
def Owes (P : Program) (fo : Nat → FuncId) (B0 : Base) (call : CallF) (o : Oper) (ao : AOper) : Prop :=
  ∀ (w : World) (R : Rd) (φ : Pl) (e : Tr) (H H' : List AObj) (a : Act) (v : AV), SRel fo B0 w R φ H → ERel fo (K R φ H) e a → evalG call e H ao = some (v, H') → Meets P fo B0 o a w R φ H v H'

theorem wanted_of {nt : Nat} {ops : Array Oper} {o : Oper} {ao : AOper} (hk : okSlot nt ops o ao = true) {k : AV → Value → Prop} {R : Rd} {φ : Pl} {H : List AObj} {e : Tr} {a : Act} (hE : ERel fo (K R φ H) e a) {b : Bool}
    (h : wantedA e ao.guard = some b) : Region.wanted o (yielded ops a.tmps) = b := by
  simp only [okSlot, Bool.and_eq_true] at hk
  obtain ⟨_, hg⟩ := hk
  unfold Region.wanted
  cases h1 : o.guard with
  | none =>
    cases h2 : ao.guard with
    | none => simp [h2, wantedA] at h; simp [h]
    | some g => simp [h1, h2] at hg
  | some g =>
    obtain ⟨g, want⟩ := g
    cases h2 : ao.guard with
    | none => simp [h1, h2] at hg
    | some g' =>
      obtain ⟨t, want'⟩ := g'
      simp only [h1, h2, Bool.and_eq_true, beq_iff_eq] at hg
      obtain ⟨rfl, hg⟩ := hg
      have ht := hE t
      simp only [h2, wantedA] at h
      simp only [yielded, hg, Option.bind_some]
      split at h
      · rename_i b' hb
        rw [hb] at ht
        have := ht.pv_inv
        injection h with h
        cases hv : a.tmps[t]? with
        | none => rw [Array.getD_eq_getD_getElem?, hv] at this; cases this
        | some v =>
          rw [Array.getD_eq_getD_getElem?, hv] at this
          simp only [Option.getD_some] at this
          cases this
          simp only [← h]
          cases b' <;> cases want <;> rfl
      · rename_i hb
        rw [hb] at ht
        have := ht.pv_inv
        injection h with h
        subst h
        cases hv : a.tmps[t]? with
        | none => simp
        | some v =>
          rw [Array.getD_eq_getD_getElem?, hv] at this
          simp only [Option.getD_some] at this
          cases this
          simp
      · cases h

theorem oper_sim {nt : Nat} {ops : Array Oper} {i : Nat} {o : Oper} {ao : AOper} (hi : ops[i]? = some o) (hk : okSlot nt ops o ao = true) (ho : Owes P fo B0 call o ao)
    {w : World} {R : Rd} {φ : Pl} {s s1 : St} {a : Act} (hS : SRel fo B0 w R φ s.H) (hE : ERel fo (K R φ s.H) s.env a) (hn : a.tmps.size = nt) (h : evalOper call ao s = some s1)
    {Q : Exit → Act → World → Prop} {next : Act → World → Prop} (hq : ∀ a' w' R' φ', Goes fo B0 w R φ s.H a w' R' φ' s1 a' → next a' w') : wpOp P ops Q i next a w := by
  have hk' := hk
  simp only [okSlot, Bool.and_eq_true, beq_iff_eq] at hk'
  obtain ⟨⟨hd, hlt⟩, _⟩ := hk'
  have hd' : ∀ t, ao.dst = some t → t < a.tmps.size := fun t ht => by rw [hd, ht] at hlt; rw [hn]; simpa using hlt
  have sz : ∀ (a : Act) (d : Option Nat) (u : Value), (a.put d u).tmps.size = a.tmps.size := fun a d u => by cases d <;> simp [Act.put]
  have df : ∀ (a : Act) (d : Option Nat) (u : Value), (a.put d u).defers = a.defers := fun a d u => by cases d <;> rfl
  obtain ⟨e, H⟩ := s
  unfold wpOp
  simp only [hi]
  rcases evalOper_inv h with ⟨g, v, q, r⟩ | ⟨g, r⟩
  · rw [wanted_of (k := fun _ _ => True) hk hE g]
    simp only [if_true]
    refine .inl (ho w R φ e H s1.H a v hS hE q next Q fun v' w' R' φ' h1 h2 h3 h4 => hq _ _ R' φ' ⟨h1, ?_, h3, h4, sz _ _ _, df _ _ _⟩)
    rw [r, hd]
    exact (hE.mono h3).put ao.dst hd' h2
  · rw [wanted_of (k := fun _ _ => True) hk hE g]
    simp only [Bool.false_eq_true, if_false]
    subst r
    refine hq _ _ R φ ⟨hS, ?_, fun _ _ h => h, Below.refl _ _, sz _ _ _, df _ _ _⟩
    rw [hd]
    exact hE.put ao.dst hd' (.atom _ _ (show PRel R _ _ from .tup _ _ .nil))

def sel (aops : List AOper) (L : List Nat) : List AOper := L.filterMap (aops[·]?)

theorem sel_cons {aops : List AOper} {i : Nat} {ao : AOper} (h : aops[i]? = some ao) (L : List Nat) : sel aops (i :: L) = ao :: sel aops L := by simp [sel, h]

theorem sel_append (aops : List AOper) (L M : List Nat) : sel aops (L ++ M) = sel aops L ++ sel aops M := by simp [sel]

theorem filterMap_congr' {α β : Type} {f g : α → Option β} : ∀ {l : List α}, (∀ x ∈ l, f x = g x) → l.filterMap f = l.filterMap g := by
  intro l
  induction l with
  | nil => intro _; rfl
  | cons x l ih => intro h; simp only [List.filterMap_cons, h x (by simp), ih fun y hy => h y (by simp [hy])]

theorem sel_range (aops : List AOper) : sel aops (List.range aops.length) = aops := by
  suffices ∀ n, n ≤ aops.length → sel aops (List.range n) = aops.take n by simpa using this aops.length (Nat.le_refl _)
  intro n
  induction n with
  | zero => intro _; simp [sel]
  | succ n ih =>
    intro h
    rw [List.range_succ, sel_append, ih (by omega), List.take_add_one]
    simp [sel, List.getElem?_eq_getElem (show n < aops.length by omega)]

/-- The slots of a region, all together. -/
structure Slots (P : Program) (fo : Nat → FuncId) (B0 : Base) (call : CallF) (nt : Nat) (ops : Array Oper) (aops : List AOper) : Prop where
  len : aops.length = ops.size
  slot : ∀ (i : Nat) (o : Oper) (ao : AOper), ops[i]? = some o → aops[i]? = some ao → okSlot nt ops o ao = true
  owes : ∀ (i : Nat) (o : Oper) (ao : AOper), ops[i]? = some o → aops[i]? = some ao → Owes P fo B0 call o ao

theorem ops_sim {nt : Nat} {ops : Array Oper} {aops : List AOper} (hs : Slots P fo B0 call nt ops aops) {Q : Exit → Act → World → Prop} : ∀ (L : List Nat), (∀ i ∈ L, i < ops.size) → ∀ {w : World} {R : Rd} {φ : Pl} {s s' : St} {a : Act},
    SRel fo B0 w R φ s.H → ERel fo (K R φ s.H) s.env a → a.tmps.size = nt → evalOps call (sel aops L) s = some s' →
    (∀ a' w' R' φ', Goes fo B0 w R φ s.H a w' R' φ' s' a' → Q .normal a' w') → wpOps P ops Q L a w := by
  intro L
  induction L with
  | nil =>
    intro _ w R φ s s' a hS hE hn h hq
    simp only [sel, List.filterMap_nil, evalOps, Option.some.injEq] at h
    subst h
    exact hq _ _ R φ (.refl hS hE)
  | cons i L ih =>
    intro hL w R φ s s' a hS hE hn h hq
    have hi : i < ops.size := hL i (by simp)
    have h1 : ops[i]? = some ops[i] := Array.getElem?_eq_getElem hi
    have h2 : aops[i]? = some (aops[i]'(by rw [hs.len]; exact hi)) := List.getElem?_eq_getElem _
    rw [sel_cons h2, evalOps] at h
    cases ho : evalOper call (aops[i]'(by rw [hs.len]; exact hi)) s with
    | none => simp [ho, nextA] at h
    | some s1 =>
      simp only [ho, nextA] at h
      rw [wpOps_cons]
      refine oper_sim h1 (hs.slot _ _ _ h1 h2) (hs.owes _ _ _ h1 h2) hS hE hn ho fun a' w' R' φ' g => ?_
      exact ih (fun j hj => hL j (by simp [hj])) g.rel g.env (g.size.trans hn) h fun a'' w'' R'' φ'' g' => hq _ _ _ _ (g.trans g')

/-- Regions carried out in the order of the text. -/
theorem region_sim {nt : Nat} {id : Nat} {ops : Array Oper} {aops : List AOper} (hs : Slots P fo B0 call nt ops aops) {Q : Exit → Act → World → Prop} {w : World} {R : Rd} {φ : Pl} {s s' : St} {a : Act}
    (hS : SRel fo B0 w R φ s.H) (hE : ERel fo (K R φ s.H) s.env a) (hn : a.tmps.size = nt) (h : evalOps call aops s = some s')
    (hq : ∀ a' w' R' φ', Goes fo B0 w R φ s.H a w' R' φ' s' a' → Q .normal a' w') : (Code.region id ops false).wp P Q a w :=
  wp_region (ops_sim hs _ (fun i hi => List.mem_range.1 hi) hS hE hn (by rw [← hs.len, sel_range]; exact h) hq)

/-! ## regions of which the order is not given -/

def ancB (ops : Array Oper) : Nat → Nat → Nat → Bool
  | 0, _, _ => false
  | f + 1, j, i =>
    match ops[i]? with
    | some o => o.after.toList.any fun e => Region.binds .any e && (e.on == j || (decide (j < e.on) && ancB ops f j e.on))
    | none => false

/-- The edges run backwards, and what is not ordered may change places. -/
def okDraw (ops : Array Oper) (aops : List AOper) : Bool :=
  (List.range ops.size).all fun i =>
    (match ops[i]? with | some o => o.after.toList.all fun e => !Region.binds .any e || decide (e.on < i) | none => true) &&
    (List.range i).all fun j =>
      (match aops[j]?, aops[i]? with
      | some x, some y => calmA x y
      | _, _ => false) || ancB ops 8 j i

def remL (ops : Array Oper) (listed : Array Bool) : List Nat := (List.range ops.size).filter fun i => !listed.getD i true

def Closed (ops : Array Oper) (listed : Array Bool) : Prop := ∀ f j k, ancB ops f j k = true → listed.getD k true = true → k < ops.size → listed.getD j true = true

theorem getD_both {listed : Array Bool} {i : Nat} (h : i < listed.size) : listed.getD i true = listed.getD i false := by
  simp [Array.getD_eq_getD_getElem?, h]

theorem draw_go {nt : Nat} {ops : Array Oper} {aops : List AOper} (hs : Slots P fo B0 call nt ops aops) (hd : okDraw ops aops = true) {Q : Exit → Act → World → Prop} : ∀ (n : Nat) (listed : Array Bool) {w : World} {R : Rd} {φ : Pl} {s s' s'' : St} {a : Act},
    (remL ops listed).length ≤ n → listed.size = ops.size → Closed ops listed → SRel fo B0 w R φ s.H → ERel fo (K R φ s.H) s.env a → a.tmps.size = nt →
    evalOps call (sel aops (remL ops listed)) s = some s'' → Eqv s' s'' →
    (∀ a' w' R' φ', Goes fo B0 w R φ s.H a w' R' φ' s' a' → Q .normal a' w') → wpAny P .any ops Q n listed a w := by
  have hdd : ∀ i, i < ops.size → (∀ o, ops[i]? = some o → ∀ e ∈ o.after, Region.binds .any e = true → e.on < i) ∧ ∀ j, j < i → (∀ x y, aops[j]? = some x → aops[i]? = some y → calmA x y = true) ∨ ancB ops 8 j i = true := by
    intro i hi
    have := List.all_eq_true.1 hd i (List.mem_range.2 hi)
    simp only [Bool.and_eq_true] at this
    refine ⟨fun o ho e he hb => ?_, fun j hj => ?_⟩
    · have h1 := this.1
      simp only [ho] at h1
      have := List.all_eq_true.1 h1 e (by simpa using he)
      simpa [hb] using this
    · have h2 := List.all_eq_true.1 this.2 j (List.mem_range.2 hj)
      simp only [Bool.or_eq_true] at h2
      rcases h2 with h2 | h2
      · left; intro x y hx hy; simpa [hx, hy] using h2
      · exact .inr h2
  have empty : ∀ (listed : Array Bool), listed.size = ops.size → Region.ready .any ops listed = [] → remL ops listed = [] := by
    intro listed hsz hr
    cases hrem : remL ops listed with
    | nil => rfl
    | cons i rest =>
      exfalso
      have hsorted : (remL ops listed).Pairwise (· < ·) := List.Pairwise.filter _ List.pairwise_lt_range
      have hmem : i ∈ remL ops listed := by rw [hrem]; simp
      have him := List.mem_filter.1 hmem
      have hi := List.mem_range.1 him.1
      have h1 : ops[i]? = some ops[i] := Array.getElem?_eq_getElem hi
      have : i ∈ Region.ready .any ops listed := by
        rw [mem_ready]
        refine ⟨by simpa using him.2, _, h1, fun e he hb => ?_⟩
        have hlt := (hdd i hi).1 _ h1 e he hb
        rw [← getD_both (by omega)]
        cases hg : listed.getD e.on true with
        | true => rfl
        | false =>
          exfalso
          have : e.on ∈ remL ops listed := List.mem_filter.2 ⟨List.mem_range.2 (by omega), by simp [hg]⟩
          rw [hrem] at this hsorted
          rcases List.mem_cons.1 this with he' | he'
          · omega
          · have := (List.pairwise_cons.1 hsorted).1 _ he'; omega
      rw [hr] at this
      cases this
  have done : ∀ (listed : Array Bool) {w : World} {R : Rd} {φ : Pl} {s s' s'' : St} {a : Act}, listed.size = ops.size → SRel fo B0 w R φ s.H → ERel fo (K R φ s.H) s.env a →
      evalOps call (sel aops (remL ops listed)) s = some s'' → Eqv s' s'' → (∀ a' w' R' φ', Goes fo B0 w R φ s.H a w' R' φ' s' a' → Q .normal a' w') → Region.ready .any ops listed = [] → Q .normal a w := by
    intro listed w R φ s s' s'' a hsz hS hE hev he hq hr
    rw [empty listed hsz hr] at hev
    simp only [sel, List.filterMap_nil, evalOps, Option.some.injEq] at hev
    subst hev
    exact hq _ _ R φ ((Goes.refl hS hE).eqv he.symm)
  intro n
  induction n with
  | zero =>
    intro listed w R φ s s' s'' a hlen hsz hcl hS hE hn hev he hq
    have hnil : remL ops listed = [] := List.eq_nil_of_length_eq_zero (by omega)
    have hr : Region.ready .any ops listed = [] := by
      cases hr : Region.ready .any ops listed with
      | nil => rfl
      | cons i rest =>
        exfalso
        have hi : i ∈ Region.ready .any ops listed := by rw [hr]; simp
        obtain ⟨h0, o, ho, _⟩ := mem_ready.1 hi
        have : i ∈ remL ops listed := List.mem_filter.2 ⟨List.mem_range.2 (Array.getElem?_eq_some_iff.1 ho).1, by simp [h0]⟩
        rw [hnil] at this; cases this
    exact ⟨hr, done listed hsz hS hE hev he hq hr⟩
  | succ n ih =>
    intro listed w R φ s s' s'' a hlen hsz hcl hS hE hn hev he hq
    refine ⟨done listed hsz hS hE hev he hq, fun i hi => ?_⟩
    obtain ⟨h0, o, ho, haft⟩ := mem_ready.1 hi
    have hilt : i < ops.size := (Array.getElem?_eq_some_iff.1 ho).1
    have hao : aops[i]? = some (aops[i]'(by rw [hs.len]; exact hilt)) := List.getElem?_eq_getElem _
    generalize aops[i]'(by rw [hs.len]; exact hilt) = ao at hao
    have hmem : i ∈ remL ops listed := List.mem_filter.2 ⟨List.mem_range.2 hilt, by simp [h0]⟩
    have hsorted : (remL ops listed).Pairwise (· < ·) := List.Pairwise.filter _ List.pairwise_lt_range
    obtain ⟨pre, post, hsplit⟩ := List.append_of_mem hmem
    rw [hsplit] at hsorted
    rw [List.pairwise_append] at hsorted
    obtain ⟨_, hs2, hs3⟩ := hsorted
    have hrem' : remL ops (listed.setIfInBounds i true) = pre ++ post := by
      have : remL ops (listed.setIfInBounds i true) = (remL ops listed).filter (fun j => decide (j ≠ i)) := by
        unfold remL
        rw [List.filter_filter]
        apply List.filter_congr
        intro j hj
        by_cases hji : j = i
        · subst hji
          have : (listed.setIfInBounds j true).getD j true = true := by
            rw [Array.getD_eq_getD_getElem?, Array.getElem?_setIfInBounds_self_of_lt (by omega)]; rfl
          simp [this]
        · rw [getD_set_ne true (Ne.symm hji)]; simp [hji]
      rw [this, hsplit, List.filter_append, List.filter_cons]
      simp only [ne_eq, not_true_eq_false, decide_false, Bool.false_eq_true, if_false]
      rw [List.filter_eq_self.2 fun j hj => by have := hs3 j hj i (by simp); simp; omega,
        List.filter_eq_self.2 fun j hj => by have := (List.pairwise_cons.1 hs2).1 j hj; simp; omega]
    have hcalm : ∀ x ∈ sel aops pre, calmA x ao = true := by
      intro x hx
      simp only [sel, List.mem_filterMap] at hx
      obtain ⟨j, hj, hxj⟩ := hx
      have hji : j < i := hs3 j hj i (by simp)
      rcases (hdd i hilt).2 j hji with h | h
      · exact h x ao hxj hao
      · exfalso
        have hjmem : j ∈ remL ops listed := by rw [hsplit]; simp [hj]
        have hj0 : listed.getD j true = false := by simpa using (List.mem_filter.1 hjmem).2
        rw [show (8 : Nat) = 7 + 1 from rfl] at h
        simp only [ancB, ho] at h
        obtain ⟨ed, hed, hb⟩ := List.any_eq_true.1 h
        simp only [Bool.and_eq_true, Bool.or_eq_true, beq_iff_eq, decide_eq_true_eq] at hb
        obtain ⟨hb1, hb2⟩ := hb
        have hl := haft ed (by simpa using hed) hb1
        have hlt := (hdd i hilt).1 o ho ed (by simpa using hed) hb1
        have hl' : listed.getD ed.on true = true := by rw [getD_both (by omega)]; exact hl
        rcases hb2 with rfl | ⟨_, hb2⟩
        · rw [hl'] at hj0; cases hj0
        · rw [hcl 7 j ed.on hb2 hl' (by omega)] at hj0; cases hj0
    rw [hsplit, sel_append, sel_cons hao] at hev
    obtain ⟨s1, s2, k1, k2, k3⟩ := bubble hcalm hev
    refine oper_sim ho (hs.slot _ _ _ ho hao) (hs.owes _ _ _ ho hao) hS hE hn k1 fun a' w' R' φ' g => ?_
    refine ih (listed.setIfInBounds i true) (s' := s') (s'' := s2) ?_ (by simp [hsz]) ?_ g.rel g.env (g.size.trans hn) (by rw [hrem', sel_append]; exact k2) (he.trans k3) fun a'' w'' R'' φ'' g' => hq _ _ _ _ (g.trans g')
    · rw [hrem']; rw [hsplit] at hlen; simp at hlen ⊢; omega
    · intro f j k hanc hk hklt
      by_cases hji : j = i
      · subst hji
        rw [Array.getD_eq_getD_getElem?, Array.getElem?_setIfInBounds_self_of_lt (by omega)]; rfl
      rw [getD_set_ne true (Ne.symm hji)]
      by_cases hki : k = i
      · subst hki
        cases f with
        | zero => simp [ancB] at hanc
        | succ f =>
          simp only [ancB, ho] at hanc
          obtain ⟨ed, hed, hb⟩ := List.any_eq_true.1 hanc
          simp only [Bool.and_eq_true, Bool.or_eq_true, beq_iff_eq, decide_eq_true_eq] at hb
          obtain ⟨hb1, hb2⟩ := hb
          have hl := haft ed (by simpa using hed) hb1
          have hlt := (hdd k hilt).1 o ho ed (by simpa using hed) hb1
          have hl' : listed.getD ed.on true = true := by rw [getD_both (by omega)]; exact hl
          rcases hb2 with rfl | ⟨_, hb2⟩
          · exact hl'
          · exact hcl f j ed.on hb2 hl' (by omega)
      · rw [getD_set_ne true (Ne.symm hki)] at hk
        exact hcl f j k hanc hk hklt

theorem region_draw {nt : Nat} {id : Nat} {ops : Array Oper} {aops : List AOper} (hm : P.follows .mixedOrders = true) (hs : Slots P fo B0 call nt ops aops) (hd : okDraw ops aops = true) {Q : Exit → Act → World → Prop} {w : World} {R : Rd} {φ : Pl} {s s' : St} {a : Act}
    (hS : SRel fo B0 w R φ s.H) (hE : ERel fo (K R φ s.H) s.env a) (hn : a.tmps.size = nt) (h : evalOps call aops s = some s')
    (hq : ∀ a' w' R' φ', Goes fo B0 w R φ s.H a w' R' φ' s' a' → Q .normal a' w') : (Code.region id ops true).wp P Q a w := by
  have hrem : remL ops (Array.replicate ops.size false) = List.range ops.size := by
    unfold remL
    apply List.filter_eq_self.2
    intro i hi
    rw [List.mem_range] at hi
    simp [Array.getD_eq_getD_getElem?, hi]
  refine wp_region_any hm (draw_go hs hd ops.size _ (s' := s') (s'' := s') (s := s) (R := R) (φ := φ) (by rw [hrem]; simp) (by simp) ?_ (hS.drew rfl) hE hn ?_ (Eqv.refl _) ?_)
  · intro f j k _ hk hlt
    simp [Array.getD_eq_getD_getElem?, hlt] at hk
  · rw [hrem, ← hs.len, sel_range]; exact h
  · intro a' w' R' φ' g
    exact hq _ _ _ _ ⟨g.rel, g.env, g.mono, Below.trans ((Below.refl B0 w).drew) g.below, g.size, g.defers⟩

end
end Go.AM
