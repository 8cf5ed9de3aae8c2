/- The abstract machine, part 21: calls, and code. -/
import Derived.Test.YtlibmcabpcehcaaAm20
import Derived.LoopN
set_option linter.unusedSimpArgs false
set_option linter.unusedVariables false
namespace Go.AM
open Go.RowKit

/-- A function with a body. -/
def Callable (P : Program) (f : FuncId) : Prop := ∃ fn c, P.funcs[f]? = some fn ∧ fn.body = some c ∧ (fn.name == "runtime.NumGoroutine") = false

/-- The function computes F of pure values: it writes nothing that was there, and what it returns can be read. -/
def PureFn (P : Program) (f : FuncId) (F : List PV → Option PV) : Prop :=
  Callable P f ∧ ∀ (w : World) (R : Rd) (args : List PV) (vs : List Value) (r : PV), (∀ b o v, R b o = some v → w.cell? ⟨b, o, none⟩ = some v) → LRel R args vs → F args = some r →
    Calls P f ⟨vs⟩ w fun e w' => ∃ v R', e = .returned v ∧ Below w.heap.size w w' ∧ PRel R' r v ∧ (∀ b o, b < w.heap.size → R' b o = R b o) ∧ ∀ b o v, R' b o = some v → w'.cell? ⟨b, o, none⟩ = some v

/-- How a call's end is told. -/
def Came (fo : Nat → FuncId) (B0 : Base) (w : World) (R : Rd) (φ : Pl) (H : List AObj) (v : AV) (H' : List AObj) (e : Ending) (w' : World) : Prop :=
  ∃ u R' φ', e = .returned u ∧ SRel fo B0 w' R' φ' H' ∧ ARel fo (K R' φ' H') v u ∧ (∀ x u, K R φ H x u → K R' φ' H' x u) ∧ Below B0 w w'

/-- Calls by number do in the model what they do in the abstract machine. -/
def CallOk (P : Program) (fo : Nat → FuncId) (B0 : Base) (call : CallF) : Prop :=
  ∀ (ix : Nat) (args : List AV) (H : List AObj) (v : AV) (H' : List AObj) (w : World) (R : Rd) (φ : Pl) (vs : List Value), SRel fo B0 w R φ H → ALRel fo (K R φ H) args vs → call ix args H = some (v, H') →
    Callable P (fo ix) ∧ Calls P (fo ix) ⟨vs⟩ w (Came fo B0 w R φ H v H')

def okCall (P : Program) (fo : Nat → FuncId) : Op → AOp → Bool
  | .call { callee := .value (.func _), args, .. }, .callP _ ys => okOs fo args.toList ys
  | .call { callee := .value (.func f), args, .. }, .callI ix ys => fo ix == f && okOs fo args.toList ys
  | .call { callee := .value x, args, .. }, .callV y ys => okO fo x y && okOs fo args.toList ys
  | _, _ => false

/-- The pure calls of an operation: the function, and what it is held to compute. -/
def dutyOf : Op → AOp → List (FuncId × (List PV → Option PV))
  | .call { callee := .value (.func f), .. }, .callP F _ => [(f, F)]
  | _, _ => []

section
variable {P : Program} {fo : Nat → FuncId} {B0 : Base} {call : CallF}

theorem run_invoke {f : FuncId} (hf : Callable P f) {caps args : Array Value} (w : World) : (invoke (.fn (.func f) caps) args).run P w = .ok (.enter f (args ++ caps)) w := by
  obtain ⟨fn, c, h1, h2, h3⟩ := hf
  have h3' : ¬ fn.name = "runtime.NumGoroutine" := by simpa using h3
  simp [invoke, callFunc, h1, h2, h3']

theorem call_owes {o : Oper} {op : Op} {aop : AOp} (ho : o.op = op) (hok : okCall P fo op aop = true) (hd : ∀ d ∈ dutyOf op aop, PureFn P d.1 d.2) (hc : CallOk P fo B0 call)
    {w : World} {R : Rd} {φ : Pl} {e : Tr} {H H' : List AObj} {a : Act} {v : AV} (hS : SRel fo B0 w R φ H) (hE : ERel fo (K R φ H) e a) (hev : evalOp call e H aop = some (v, H')) : Meets P fo B0 o a w R φ H v H' := by
  intro next Q hn
  unfold okCall at hok
  split at hok
  · -- a pure call
    rename_i f args tys F ys
    have hpf := hd (f, F) (by simp [dutyOf])
    obtain ⟨hcal, hp⟩ := hpf
    simp only [evalOp, Option.bind_eq_some_iff] at hev
    obtain ⟨ps, h1, r, h2, h3⟩ := hev
    split at h3
    · rename_i hfree
      simp only [Option.some.injEq, Prod.mk.injEq] at h3
      obtain ⟨rfl, rfl⟩ := h3
      have hl := evs_rel (R := R) (φ := φ) (H := H) hE hok
      have hrun : (execOp a.eval o).run P w = .ok (.enter f ⟨args.toList.map a.eval⟩) w := by
        have := run_invoke (P := P) hcal (caps := #[]) (args := #[] ++ args.map a.eval) w
        simp only [execOp, ho, resolve, Act.eval, Deferred.ofValue, Sem.run_bind, Sem.run_pure, Result.andThen_ok, this]
        congr 2
        apply Array.ext'
        simp
      unfold Oper.wp
      rw [hrun, Oper.upon_enter]
      -- with what may be read the call is made
      have fin : ∀ (R1 : Rd), (∀ b o v, R1 b o = some v → w.cell? ⟨b, o, none⟩ = some v) → LRel R1 ps (args.toList.map a.eval) → (∀ {R' : Rd} {v : Value}, (∀ b o, b < w.heap.size → R' b o = R1 b o) → (∀ b o v, R' b o = some v → R1 b o = some v ∨ w.heap.size ≤ b) → PRel R' r v → PRel (fun b o => if b < w.heap.size then R b o else R' b o) r v) →
          Calls P f ⟨args.toList.map a.eval⟩ w fun x w'' => match x, w'' with
            | .returned v, w'' => next (a.put o.dst v) w''
            | .panicked chain, w'' => Q (.panic chain) a w''
            | .outgrown, _ => LetsOut Q := by
        intro R1 hR1 hl1 hres
        refine Calls.mono (hp w R1 ps _ r hR1 hl1 h2) ?_
        rintro e w' ⟨v, R', rfl, hb, hv, hsame, hcell⟩
        simp only
        have hsub : Sub R (fun b o => if b < w.heap.size then R b o else R' b o) := by
          intro b o v h
          have := cell_lt (hS.sub b o v h)
          simp [this, h]
        have hk := fun x u h => K.sub (R := R) (φ := φ) (H := H) hsub x u h
        refine hn v w' (fun b o => if b < w.heap.size then R b o else R' b o) φ ⟨Nat.le_trans hS.low hb.size, fun b o v h => ?_, fun id ob hob => ?_, hS.inj, fun b o hlt => ?_⟩ (.atom _ _ (show PRel _ _ _ from ?_)) hk (hb.mono hS.low)
        · try dsimp only at h
          split at h
          · rename_i hlt
            rw [cell_heap (hb.block b hlt)]; exact hS.sub b o v h
          · exact hcell b o v h
        · have hO := hS.obj id ob hob
          exact hO.keep (fun hl => ⟨hb.block _ (hO.lt hl), fun j hj => by (try dsimp only); rw [if_pos (hO.lt hl)]; exact hj⟩) rfl hk
        · have := hS.low
          try dsimp only
          rw [if_pos (by omega)]; exact hS.old b o hlt
        · refine hres hsame (fun b o v h => ?_) hv
          rcases Nat.lt_or_ge b w.heap.size with hlt | hge
          · rw [hsame b o hlt] at h; exact .inl h
          · exact .inr hge
      simp only [Bool.or_eq_true] at hfree
      rcases hfree with hfree | hflat
      · refine fin R hS.sub (toPVs_free (w := w) hfree hl h1) fun {R' v} hsame _ hv => hv.mono fun b o u hu => ?_
        try dsimp only
        split
        · rename_i hlt; rw [← hsame b o hlt]; exact hu
        · exact hu
      · exact fin (Rw w) (fun b o v h => h) (toPVs_sim hS hl h1) fun {R' v} _ _ hv => flat_rel hflat hv
    · cases h3
  · -- a call of one in the table
    rename_i f args tys ix ys
    simp only [Bool.and_eq_true, beq_iff_eq] at hok
    obtain ⟨rfl, hok⟩ := hok
    have hl := evs_rel (R := R) (φ := φ) (H := H) hE hok
    simp only [evalOp] at hev
    obtain ⟨hcal, hcc⟩ := hc ix _ H v H' w R φ _ hS hl hev
    have hrun : (execOp a.eval o).run P w = .ok (.enter (fo ix) ⟨args.toList.map a.eval⟩) w := by
      have := run_invoke (P := P) hcal (caps := #[]) (args := #[] ++ args.map a.eval) w
      simp only [execOp, ho, resolve, Act.eval, Deferred.ofValue, Sem.run_bind, Sem.run_pure, Result.andThen_ok, this]
      congr 2
      apply Array.ext'
      simp
    unfold Oper.wp
    rw [hrun, Oper.upon_enter]
    refine Calls.mono hcc ?_
    rintro e w' ⟨u, R', φ', rfl, k1, k2, k3, k4⟩
    exact hn u w' R' φ' k1 k2 k3 k4
  · -- a call of a value
    rename_i x args tys y ys
    simp only [Bool.and_eq_true] at hok
    obtain ⟨hx, hok⟩ := hok
    have hl := evs_rel (R := R) (φ := φ) (H := H) hE hok
    have hxr := ev_rel (R := R) (φ := φ) (H := H) hE hx
    simp only [evalOp] at hev
    split at hev
    · rename_i ix caps hy
      rw [hy] at hxr
      have hcr : ∃ us : List Value, a.eval x = .func (.func (fo ix)) #[] ⟨us⟩ ∧ ALRel fo (K R φ H) caps us := by
        generalize a.eval x = vx at hxr
        cases hxr with
        | atom _ _ h => exact h.elim
        | clo _ _ us h => exact ⟨us, rfl, h⟩
      obtain ⟨us, hu, hur⟩ := hcr
      obtain ⟨hcal, hcc⟩ := hc ix _ H v H' w R φ _ hS (hl.append hur) hev
      have hrun : (execOp a.eval o).run P w = .ok (.enter (fo ix) ⟨args.toList.map a.eval ++ us⟩) w := by
        have := run_invoke (P := P) hcal (caps := ⟨us⟩) (args := #[] ++ args.map a.eval) w
        simp only [execOp, ho, resolve, hu, Deferred.ofValue, Sem.run_bind, Sem.run_pure, Result.andThen_ok, this]
        congr 2
        apply Array.ext'
        simp
      unfold Oper.wp
      rw [hrun, Oper.upon_enter]
      refine Calls.mono hcc ?_
      rintro e w' ⟨u, R', φ', rfl, k1, k2, k3, k4⟩
      exact hn u w' R' φ' k1 k2 k3 k4
    · cases hev
  · cases hok

/-! ## code -/

def okOpers (P : Program) (fo : Nat → FuncId) (nt : Nat) (ops : Array Oper) : List Oper → List AOper → Bool
  | [], [] => true
  | o :: os, ao :: aos => okSlot nt ops o ao && (okOp P fo o.op ao.op || okCall P fo o.op ao.op) && (!ao.pr || decide (ao.op.cls ≤ 1)) && okOpers P fo nt ops os aos
  | _, _ => false

def dutyOps : List Oper → List AOper → List (FuncId × (List PV → Option PV))
  | o :: os, ao :: aos => dutyOf o.op ao.op ++ dutyOps os aos
  | _, _ => []

def okCode (P : Program) (fo : Nat → FuncId) (nt : Nat) : Code → ACode → Bool
  | c, .ghost _ ac => okCode P fo nt c ac
  | .skip, .skip => true
  | .region _ ops draw, .region aops => okOpers P fo nt ops ops.toList aops && (!draw || (P.follows .mixedOrders && okDraw ops aops))
  | .seq a b, .seq a' b' => okCode P fo nt a a' && okCode P fo nt b b'
  | .cond c a b, .cond c' a' b' => okO fo c c' && okCode P fo nt a a' && okCode P fo nt b b'
  | .block id b, .block id' b' => id == id' && okCode P fo nt b b'
  | .loop b, .loop _ b' => okCode P fo nt b b'
  | .exit id, .exit id' => id == id'
  | .ret, .ret => true
  | _, _ => false

def duties : Code → ACode → List (FuncId × (List PV → Option PV))
  | c, .ghost _ ac => duties c ac
  | .region _ ops _, .region aops => dutyOps ops.toList aops
  | .seq a b, .seq a' b' => duties a a' ++ duties b b'
  | .cond _ a b, .cond _ a' b' => duties a a' ++ duties b b'
  | .block _ b, .block _ b' => duties b b'
  | .loop b, .loop _ b' => duties b b'
  | _, _ => []

theorem slots_of {nt : Nat} {ops : Array Oper} {aops : List AOper} (hc : CallOk P fo B0 call) (hok : okOpers P fo nt ops ops.toList aops = true) (hd : ∀ d ∈ dutyOps ops.toList aops, PureFn P d.1 d.2) : Slots P fo B0 call nt ops aops := by
  have key : ∀ {os : List Oper} {aos : List AOper}, okOpers P fo nt ops os aos = true → (∀ d ∈ dutyOps os aos, PureFn P d.1 d.2) → aos.length = os.length ∧ ∀ (i : Nat) (o : Oper) (ao : AOper), os[i]? = some o → aos[i]? = some ao → okSlot nt ops o ao = true ∧ Owes P fo B0 call o ao := by
    intro os
    induction os with
    | nil =>
      intro aos h _
      cases aos with
      | nil => exact ⟨rfl, fun i o ao h => by simp at h⟩
      | cons _ _ => simp [okOpers] at h
    | cons o os ih =>
      intro aos h hd
      cases aos with
      | nil => simp [okOpers] at h
      | cons ao aos =>
        simp only [okOpers, Bool.and_eq_true, Bool.or_eq_true, Bool.not_eq_true', decide_eq_true_eq] at h
        obtain ⟨⟨⟨h1, h2⟩, hpr⟩, h3⟩ := h
        obtain ⟨k1, k2⟩ := ih h3 fun d hd' => hd d (by simp [dutyOps, hd'])
        refine ⟨by simp [k1], fun i x y hx hy => ?_⟩
        cases i with
        | zero =>
          simp at hx hy; subst hx; subst hy
          refine ⟨h1, ?_⟩
          intro w R φ e H H' a v hS hE hev
          have hev : evalOp call e H ao.op = some (v, H') := by
            unfold evalG at hev
            cases hp : ao.pr with
            | false => simpa [hp] using hev
            | true =>
              simp only [hp, cond_true] at hev
              obtain ⟨k, rfl⟩ := onH_some hev
              have hpr : ao.op.cls ≤ 1 := hpr.resolve_left (by rw [hp]; simp)
              have : ao.op.cls = 0 ∨ ao.op.cls = 1 := by omega
              rcases this with h0 | h0
              · exact (cls0 h0 k).2 H'
              · exact (cls1 h0 k).2 H' (fun id o h => by simp at h)
          rcases h2 with h2 | h2
          · exact evalOp_sim rfl h2 hS hE hev
          · exact call_owes rfl h2 (fun d hd' => hd d (by simp [dutyOps, hd'])) hc hS hE hev
        | succ i => exact k2 i x y (by simpa using hx) (by simpa using hy)
  obtain ⟨k1, k2⟩ := key hok hd
  exact ⟨by simpa using k1, fun i o ao h1 h2 => (k2 i o ao (by simpa using h1) h2).1, fun i o ao h1 h2 => (k2 i o ao (by simpa using h1) h2).2⟩

/-- The model's exit. -/
def Ex.to : Ex → Exit
  | .norm => .normal
  | .exit id => .exit id
  | .ret => .ret

theorem seqA_some {f : St → Option (Ex × St)} {r : Option (Ex × St)} {x : Ex × St} (h : seqA f r = some x) : (∃ s, r = some (.norm, s) ∧ f s = some x) ∨ (r = some x ∧ x.1 ≠ .norm) := by
  cases r with
  | none => cases h
  | some y =>
    obtain ⟨ex, s⟩ := y
    cases ex with
    | norm => exact .inl ⟨s, rfl, h⟩
    | exit id => simp only [seqA, Option.some.injEq] at h; subst h; exact .inr ⟨rfl, by simp⟩
    | ret => simp only [seqA, Option.some.injEq] at h; subst h; exact .inr ⟨rfl, by simp⟩

theorem startA_some {f : St → Option (Ex × St)} {r : Option St} {x : Ex × St} (h : startA f r = some x) : ∃ s, r = some s ∧ f s = some x := by
  cases r with
  | none => cases h
  | some s => exact ⟨s, rfl, h⟩

/-- What code does in the abstract machine it does in the model. -/
theorem code_sim {nt : Nat} (hc : CallOk P fo B0 call) : ∀ (ac : ACode) (c : Code), okCode P fo nt c ac = true → (∀ d ∈ duties c ac, PureFn P d.1 d.2) →
    ∀ {w : World} {R : Rd} {φ : Pl} {s s' : St} {ex : Ex} {a : Act} {Q : Exit → Act → World → Prop}, SRel fo B0 w R φ s.H → ERel fo (K R φ s.H) s.env a → a.tmps.size = nt → evalC call ac s = some (ex, s') →
    (∀ a' w' R' φ', Goes fo B0 w R φ s.H a w' R' φ' s' a' → Q ex.to a' w') → c.wp P Q a w := by
  intro ac
  induction ac with
  | skip =>
    intro c hok hd w R φ s s' ex a Q hS hE hn h hq
    cases c <;> simp [okCode] at hok
    simp only [evalC, Option.some.injEq, Prod.mk.injEq] at h
    obtain ⟨rfl, rfl⟩ := h
    exact wp_skip (hq _ _ R φ (.refl hS hE))
  | region aops =>
    intro c hok hd w R φ s s' ex a Q hS hE hn h hq
    cases c with
    | region id ops draw =>
      simp only [okCode, Bool.and_eq_true, Bool.or_eq_true, Bool.not_eq_true'] at hok
      have hs := slots_of hc hok.1 hd
      simp only [evalC] at h
      cases ho : evalOps call aops s with
      | none => simp [ho, normA] at h
      | some s1 =>
        simp only [ho, normA, Option.some.injEq, Prod.mk.injEq] at h
        obtain ⟨rfl, rfl⟩ := h
        cases draw with
        | false => exact region_sim hs hS hE hn ho hq
        | true =>
          rcases hok.2 with h | h
          · cases h
          · exact region_draw h.1 hs h.2 hS hE hn ho hq
    | _ => simp [okCode] at hok
  | seq x y ihx ihy =>
    intro c hok hd w R φ s s' ex a Q hS hE hn h hq
    cases c with
    | seq a1 b1 =>
      simp only [okCode, Bool.and_eq_true] at hok
      simp only [evalC] at h
      have hd1 : ∀ d ∈ duties a1 x, PureFn P d.1 d.2 := fun d hd' => hd d (by simp [duties, hd'])
      have hd2 : ∀ d ∈ duties b1 y, PureFn P d.1 d.2 := fun d hd' => hd d (by simp [duties, hd'])
      refine wp_seq ?_
      rcases seqA_some h with ⟨s1, h1, h2⟩ | ⟨h1, h2⟩
      · refine ihx a1 hok.1 hd1 hS hE hn h1 fun a' w' R' φ' g => ?_
        exact ihy b1 hok.2 hd2 g.rel g.env (g.size.trans hn) h2 fun a'' w'' R'' φ'' g' => hq _ _ _ _ (g.trans g')
      · refine ihx a1 hok.1 hd1 hS hE hn h1 fun a' w' R' φ' g => ?_
        cases ex with
        | norm => exact absurd rfl h2
        | exit id => exact hq _ _ _ _ g
        | ret => exact hq _ _ _ _ g
    | _ => simp [okCode] at hok
  | cond co x y ihx ihy =>
    intro c hok hd w R φ s s' ex a Q hS hE hn h hq
    cases c with
    | cond co1 a1 b1 =>
      simp only [okCode, Bool.and_eq_true] at hok
      simp only [evalC] at h
      have hd1 : ∀ d ∈ duties a1 x, PureFn P d.1 d.2 := fun d hd' => hd d (by simp [duties, hd'])
      have hd2 : ∀ d ∈ duties b1 y, PureFn P d.1 d.2 := fun d hd' => hd d (by simp [duties, hd'])
      cases hb : asBool (co.ev s.env) with
      | none => simp [hb, condA] at h
      | some b =>
        have hv := asBool_rel (ev_rel (R := R) (φ := φ) (H := s.H) hE hok.1.1) hb
        refine wp_cond hv ?_
        cases b with
        | true => simp only [hb, condA] at h; exact ihx a1 hok.1.2 hd1 hS hE hn h hq
        | false => simp only [hb, condA] at h; exact ihy b1 hok.2 hd2 hS hE hn h hq
    | _ => simp [okCode] at hok
  | block id b ih =>
    intro c hok hd w R φ s s' ex a Q hS hE hn h hq
    cases c with
    | block id1 b1 =>
      simp only [okCode, Bool.and_eq_true, beq_iff_eq] at hok
      obtain ⟨rfl, hok⟩ := hok
      simp only [evalC] at h
      refine wp_block ?_
      cases hb : evalC call b s with
      | none => simp [hb, blockA] at h
      | some r =>
        obtain ⟨ex1, s1⟩ := r
        refine ih b1 hok hd hS hE hn hb fun a' w' R' φ' g => ?_
        cases ex1 with
        | norm => simp only [hb, blockA, Option.some.injEq, Prod.mk.injEq] at h; obtain ⟨rfl, rfl⟩ := h; exact hq _ _ _ _ g
        | ret => simp only [hb, blockA, Option.some.injEq, Prod.mk.injEq] at h; obtain ⟨rfl, rfl⟩ := h; exact hq _ _ _ _ g
        | exit id2 =>
          simp only [hb, blockA] at h
          show Exit.inBlock id1 Q (.exit id2) a' w'
          simp only [Exit.inBlock]
          split at h
          · rename_i e
            simp only [Option.some.injEq, Prod.mk.injEq] at h; obtain ⟨rfl, rfl⟩ := h
            rw [if_pos e]; exact hq _ _ _ _ g
          · rename_i e
            simp only [Option.some.injEq, Prod.mk.injEq] at h; obtain ⟨rfl, rfl⟩ := h
            rw [if_neg e]; exact hq _ _ _ _ g
    | _ => simp [okCode] at hok
  | loop live b ih =>
    intro c hok hd w R φ s s' ex a Q hS hE hn h hq
    cases c with
    | loop b1 =>
      simp only [okCode] at hok
      simp only [evalC] at h
      obtain ⟨s0, h0, h⟩ := startA_some h
      have g0 := clean_goes (Goes.refl hS hE) h0
      refine wp_loop_rounds rounds ?_
      have key : ∀ (n : Nat) {w1 : World} {R1 : Rd} {φ1 : Pl} {s1 : St} {a1 : Act}, Goes fo B0 w R φ s.H a w1 R1 φ1 s1 a1 → loopA (roundA (evalC call b) (clean s.H.length live)) n s1 = some (ex, s') → Code.rounds P b1 Q n a1 w1 := by
        intro n
        induction n with
        | zero => intro w1 R1 φ1 s1 a1 g hl; simp [loopA] at hl
        | succ n ihn =>
          intro w1 R1 φ1 s1 a1 g hl
          simp only [loopA] at hl
          rw [rounds_succ]
          rcases seqA_some hl with ⟨s2, k1, k2⟩ | ⟨k1, k2⟩
          · simp only [roundA] at k1
            rcases seqA_some k1 with ⟨s3, j1, j2⟩ | ⟨j1, j2⟩
            · refine ih b1 hok hd g.rel g.env (g.size.trans hn) j1 fun a' w' R' φ' g' => ?_
              cases hcl : clean s.H.length live s3 with
              | none => simp [hcl, normA] at j2
              | some s4 =>
                simp only [hcl, normA, Option.some.injEq, Prod.mk.injEq, true_and] at j2
                subst j2
                exact ihn (clean_goes (g.trans g') hcl) k2
            · exact absurd rfl j2
          · simp only [roundA] at k1
            rcases seqA_some k1 with ⟨s3, j1, j2⟩ | ⟨j1, j2⟩
            · cases hcl : clean s.H.length live s3 with
              | none => simp [hcl, normA] at j2
              | some s4 =>
                simp only [hcl, normA, Option.some.injEq, Prod.mk.injEq] at j2
                exact absurd j2.1.symm k2
            · refine ih b1 hok hd g.rel g.env (g.size.trans hn) j1 fun a' w' R' φ' g' => ?_
              cases ex with
              | norm => exact absurd rfl j2
              | exit id => exact hq _ _ _ _ (g.trans g')
              | ret => exact hq _ _ _ _ (g.trans g')
      exact key rounds g0 h
    | _ => simp [okCode] at hok
  | exit id =>
    intro c hok hd w R φ s s' ex a Q hS hE hn h hq
    cases c with
    | exit id1 =>
      simp only [okCode, beq_iff_eq] at hok
      subst hok
      simp only [evalC, Option.some.injEq, Prod.mk.injEq] at h
      obtain ⟨rfl, rfl⟩ := h
      exact wp_exit (hq _ _ R φ (.refl hS hE))
    | _ => simp [okCode] at hok
  | ret =>
    intro c hok hd w R φ s s' ex a Q hS hE hn h hq
    cases c with
    | ret =>
      simp only [evalC, Option.some.injEq, Prod.mk.injEq] at h
      obtain ⟨rfl, rfl⟩ := h
      exact wp_ret (hq _ _ R φ (.refl hS hE))
    | _ => simp [okCode] at hok
  | ghost g b ih =>
    intro c hok hd w R φ s s' ex a Q hS hE hn h hq
    have hok' : okCode P fo nt c b = true := by cases c <;> simpa [okCode] using hok
    have hd' : ∀ d ∈ duties c b, PureFn P d.1 d.2 := by cases c <;> simpa [duties] using hd
    simp only [evalC] at h
    obtain ⟨s0, h0, h⟩ := startA_some h
    obtain ⟨R', φ', g0⟩ := ghost_sim hS hE h0
    exact ih c hok' hd' g0.rel g0.env hn h fun a' w' R'' φ'' g' => hq _ _ _ _ (g0.trans g')

end
end Go.AM
