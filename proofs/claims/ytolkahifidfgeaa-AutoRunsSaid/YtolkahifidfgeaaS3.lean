/- What Step and Match, the program's and the document's, compute, and AutoRuns. -/
import Derived.Test.YtolkahifidfgeaaS2

/- auto.Step and the document's Step: where a byte leads. -/
set_option linter.unusedVariables false
set_option linter.unusedSimpArgs false
namespace Go.AM.B1
open Go.AM

/-- A loop, by what is left to be found. -/
theorem loop_acc {α β : Type} {g : St → Option (Ex × St)} (st : Nat → β → St) (f : Nat → β → α) (I : Nat → β → Prop) (Q : α → Ex → St → Prop) (N : Nat) (hN : N < rounds) (a0 : β) (h0 : I 0 a0)
    (hs : ∀ i, i < N → ∀ a, I i a → (∃ a', g (st i a) = some (.norm, st (i + 1) a') ∧ f i a = f (i + 1) a' ∧ I (i + 1) a') ∨ ∃ ex t, g (st i a) = some (ex, t) ∧ ex.stop = true ∧ Q (f i a) ex t)
    (he : ∀ a, I N a → ∃ ex t, g (st N a) = some (ex, t) ∧ ex.stop = true ∧ Q (f N a) ex t) :
    ∃ ex t, loopA g rounds (st 0 a0) = some (ex, t) ∧ ex.stop = true ∧ Q (f 0 a0) ex t := by
  refine loopA_go (fun i t => ∃ a, t = st i a ∧ I i a ∧ f 0 a0 = f i a) (fun ex t => Q (f 0 a0) ex t) rounds N 0 (st 0 a0) (by omega) (by omega) ⟨a0, rfl, h0, rfl⟩ ?_ ?_
  · rintro i hi t ⟨a, rfl, ha, hf⟩
    rw [hf]
    rcases hs i hi a ha with ⟨a', h1, h2, h3⟩ | h
    · exact .inl ⟨_, h1, a', rfl, h3, by rw [h2]⟩
    · exact .inr h
  · rintro t ⟨a, rfl, ha, hf⟩
    rw [hf]
    exact he a ha

/-- It returns, a temporary is so, and the objects. -/
inductive retIsE (k : Nat) (v : AV) (H : List AObj) : Option (Ex × St) → Prop
  | mk (s : St) : s.env.get k = v → s.H = H → retIsE k v H (some (.ret, s))
theorem retIsE_ret {k : Nat} {v : AV} {H : List AObj} {s : St} : retIsE k v H (some (.ret, s)) = (s.env.get k = v ∧ s.H = H) :=
  propext ⟨fun h => by cases h with | mk _ h h' => exact ⟨h, h'⟩, fun h => .mk s h.1 h.2⟩
theorem retIsE_spec {k : Nat} {v : AV} {H : List AObj} {r : Option (Ex × St)} (h : retIsE k v H r) : ∃ t, r = some (.ret, t) ∧ t.env.get k = v ∧ t.H = H := by
  cases h with | mk s h h' => exact ⟨s, rfl, h, h'⟩

abbrev u8 (n : Int) : PV := .int .u8 n

/-- An automaton's states, as they are held. -/
structure HeldSt (A : PV) (l : List (List Edg)) : Prop where
  held : ∃ es, IsL 1 A es ∧ es.length = l.length ∧ ∀ (i : Nat) v e, es[i]? = some v → l[i]? = some e → IsL 3 v (e.map encE)
  len : l.length * 24 ≤ 140737488355328
  lens : ∀ e ∈ l, e.length * 24 ≤ 140737488355328

def stepI (b : Int) : List Edg → Nat → Int
  | [], _ => -1
  | e :: r, i => if e.lo ≤ b ∧ b ≤ e.hi then (i : Int) else stepI b r (i + 1)
def stepL (b : Int) : List Edg → Option Int
  | [] => none
  | e :: r => if e.lo ≤ b ∧ b ≤ e.hi then some e.to else stepL b r
def stepS (l : List (List Edg)) (st b : Int) : Int × Bool :=
  if st < 0 then (0, false) else match l[st.toNat]? with
    | some e => match stepL b e with
      | some t => (t, true)
      | none => (0, false)
    | none => (0, false)

theorem stepI_L {b : Int} : ∀ (r : List Edg) (i : Nat), (stepI b r i = -1 ∧ stepL b r = none) ∨ ∃ k e, stepI b r i = ((i + k : Nat) : Int) ∧ r[k]? = some e ∧ stepL b r = some e.to
  | [], i => .inl ⟨rfl, rfl⟩
  | e :: r, i => by
    rw [stepI, stepL]
    by_cases h : e.lo ≤ b ∧ b ≤ e.hi
    · rw [if_pos h, if_pos h]; exact .inr ⟨0, e, by simp, rfl, rfl⟩
    · rw [if_neg h, if_neg h]
      rcases stepI_L (b := b) r (i + 1) with h | ⟨k, e', h1, h2, h3⟩
      · exact .inl h
      · exact .inr ⟨k + 1, e', by rw [h1]; congr 1; omega, h2, h3⟩

theorem encE_get {l : List Edg} {i : Nat} (hi : i < l.length) : (l.map encE)[i]? = some (encE l[i]) := by simp [hi]

section
variable (b : Int) (hb : 0 ≤ b ∧ b ≤ 255)
include hb

theorem cmp_run (call : CallF) (e : Edg) : runF call b_auto_Step_1 [.pv (encE e), .ptr 0 0] [.box [.pv (u8 b)]] = some (.pv (.bool (decide (e.lo ≤ b ∧ b ≤ e.hi))), [.box [.pv (u8 b)]]) := by
  have t1 : IntKind.i64.wrap b = b := wrap_int (by omega)
  by_cases h1 : e.lo ≤ b
  · have d1 := dec_t h1
    by_cases h2 : b ≤ e.hi
    · have d2 := dec_t h2
      have d3 : decide (e.lo ≤ b ∧ b ≤ e.hi) = true := dec_t ⟨h1, h2⟩
      rw [d3]
      simp (implicitDefEqProofs := false) only [pureF, runF_go, callL_succ, C_skip, C_region, C_seq, C_cond, C_block, C_scope, C_exit, C_ret, C_ghost, ops_cons, ops_nil, oper_go, oper_pr, oper_if, guard_t, guard_f, do_go, do_pr, skip_do, skip_no, onH_go, evalOp, List.map, List.length, if_true, ↓reduceIte, argEnv, AO.ev, Tr.get_set, wantedA, putR_do, putR_no, nextA_some, seqA_norm, seqA_ret, seqA_exit, normA_some, condA_t, condA_f, startA_go, blockA_norm, blockA_ret, blockA_exit, AV.cells, PV.cells, outR_ret, outR_norm, resA, one1, mapO, toPV, Option.bind_some, Option.map_some, AV.one, List.all, Bool.and_self, true_and, and_self, and_true, flatV, Bool.or_true, Bool.true_or, unA, asBool, asInt, Bool.not_true, Bool.not_false, fillA, mkAgg, mkTup, allPV, storeA, loadA, partA, partP, place, lenA_nils, lenA_lit, lenA_uq, lenA_str, lenA_nilm, lenA_own, lenA_mp, setRow, binA, intBin, eqA, fresh, chunk, List.append, List.nil_append, List.cons_append, List.getElem?_cons_zero, List.getElem?_cons_succ, List.getElem?_nil, List.set_cons_zero, List.set_cons_succ, List.length_cons, List.length_nil, Nat.zero_add, Nat.add_zero, List.drop, List.take, flat, elemsP, nilApp, appendA, Bool.false_eq_true, beq_self_eq_true, bne_self_eq_false, Bool.not_eq_true, decide_true, decide_false, reduceCtorEq, Nat.reduceAdd, Nat.reduceMul, Nat.reduceLeDiff, Nat.reduceEqDiff, Nat.le_refl, Int.reduceLT, Int.reduceLE, Int.reduceBEq, Int.reduceEq, Nat.reduceBEq, Option.bind_none, Option.map_none, b_tt, b_tf, b_ft, b_ff, pvInt, Int.cast_ofNat_Int, repZ, Bool.false_and, Bool.and_false, List.headD_cons, List.headD_nil, Nat.reduceLT, Nat.lt_add_one, Nat.reduceSub, Nat.sub_zero, Int.reduceBNe, List.isEmpty_cons, List.isEmpty_nil, Int.reduceGT, Int.reduceGE, Int.reduceAdd, Int.reduceSub, Int.reduceMul, Int.reduceNeg, AV.free, Bool.or_false, Bool.false_or, Nat.mul_one, b_auto_Step_1, encE, t1, d1, d2]
    · have d2 := dec_f h2
      have d3 : decide (e.lo ≤ b ∧ b ≤ e.hi) = false := dec_f fun h => h2 h.2
      rw [d3]
      simp (implicitDefEqProofs := false) only [pureF, runF_go, callL_succ, C_skip, C_region, C_seq, C_cond, C_block, C_scope, C_exit, C_ret, C_ghost, ops_cons, ops_nil, oper_go, oper_pr, oper_if, guard_t, guard_f, do_go, do_pr, skip_do, skip_no, onH_go, evalOp, List.map, List.length, if_true, ↓reduceIte, argEnv, AO.ev, Tr.get_set, wantedA, putR_do, putR_no, nextA_some, seqA_norm, seqA_ret, seqA_exit, normA_some, condA_t, condA_f, startA_go, blockA_norm, blockA_ret, blockA_exit, AV.cells, PV.cells, outR_ret, outR_norm, resA, one1, mapO, toPV, Option.bind_some, Option.map_some, AV.one, List.all, Bool.and_self, true_and, and_self, and_true, flatV, Bool.or_true, Bool.true_or, unA, asBool, asInt, Bool.not_true, Bool.not_false, fillA, mkAgg, mkTup, allPV, storeA, loadA, partA, partP, place, lenA_nils, lenA_lit, lenA_uq, lenA_str, lenA_nilm, lenA_own, lenA_mp, setRow, binA, intBin, eqA, fresh, chunk, List.append, List.nil_append, List.cons_append, List.getElem?_cons_zero, List.getElem?_cons_succ, List.getElem?_nil, List.set_cons_zero, List.set_cons_succ, List.length_cons, List.length_nil, Nat.zero_add, Nat.add_zero, List.drop, List.take, flat, elemsP, nilApp, appendA, Bool.false_eq_true, beq_self_eq_true, bne_self_eq_false, Bool.not_eq_true, decide_true, decide_false, reduceCtorEq, Nat.reduceAdd, Nat.reduceMul, Nat.reduceLeDiff, Nat.reduceEqDiff, Nat.le_refl, Int.reduceLT, Int.reduceLE, Int.reduceBEq, Int.reduceEq, Nat.reduceBEq, Option.bind_none, Option.map_none, b_tt, b_tf, b_ft, b_ff, pvInt, Int.cast_ofNat_Int, repZ, Bool.false_and, Bool.and_false, List.headD_cons, List.headD_nil, Nat.reduceLT, Nat.lt_add_one, Nat.reduceSub, Nat.sub_zero, Int.reduceBNe, List.isEmpty_cons, List.isEmpty_nil, Int.reduceGT, Int.reduceGE, Int.reduceAdd, Int.reduceSub, Int.reduceMul, Int.reduceNeg, AV.free, Bool.or_false, Bool.false_or, Nat.mul_one, b_auto_Step_1, encE, t1, d1, d2]
  · have d1 := dec_f h1
    have d3 : decide (e.lo ≤ b ∧ b ≤ e.hi) = false := dec_f fun h => h1 h.1
    rw [d3]
    simp (implicitDefEqProofs := false) only [pureF, runF_go, callL_succ, C_skip, C_region, C_seq, C_cond, C_block, C_scope, C_exit, C_ret, C_ghost, ops_cons, ops_nil, oper_go, oper_pr, oper_if, guard_t, guard_f, do_go, do_pr, skip_do, skip_no, onH_go, evalOp, List.map, List.length, if_true, ↓reduceIte, argEnv, AO.ev, Tr.get_set, wantedA, putR_do, putR_no, nextA_some, seqA_norm, seqA_ret, seqA_exit, normA_some, condA_t, condA_f, startA_go, blockA_norm, blockA_ret, blockA_exit, AV.cells, PV.cells, outR_ret, outR_norm, resA, one1, mapO, toPV, Option.bind_some, Option.map_some, AV.one, List.all, Bool.and_self, true_and, and_self, and_true, flatV, Bool.or_true, Bool.true_or, unA, asBool, asInt, Bool.not_true, Bool.not_false, fillA, mkAgg, mkTup, allPV, storeA, loadA, partA, partP, place, lenA_nils, lenA_lit, lenA_uq, lenA_str, lenA_nilm, lenA_own, lenA_mp, setRow, binA, intBin, eqA, fresh, chunk, List.append, List.nil_append, List.cons_append, List.getElem?_cons_zero, List.getElem?_cons_succ, List.getElem?_nil, List.set_cons_zero, List.set_cons_succ, List.length_cons, List.length_nil, Nat.zero_add, Nat.add_zero, List.drop, List.take, flat, elemsP, nilApp, appendA, Bool.false_eq_true, beq_self_eq_true, bne_self_eq_false, Bool.not_eq_true, decide_true, decide_false, reduceCtorEq, Nat.reduceAdd, Nat.reduceMul, Nat.reduceLeDiff, Nat.reduceEqDiff, Nat.le_refl, Int.reduceLT, Int.reduceLE, Int.reduceBEq, Int.reduceEq, Nat.reduceBEq, Option.bind_none, Option.map_none, b_tt, b_tf, b_ft, b_ff, pvInt, Int.cast_ofNat_Int, repZ, Bool.false_and, Bool.and_false, List.headD_cons, List.headD_nil, Nat.reduceLT, Nat.lt_add_one, Nat.reduceSub, Nat.sub_zero, Int.reduceBNe, List.isEmpty_cons, List.isEmpty_nil, Int.reduceGT, Int.reduceGE, Int.reduceAdd, Int.reduceSub, Int.reduceMul, Int.reduceNeg, AV.free, Bool.or_false, Bool.false_or, Nat.mul_one, b_auto_Step_1, encE, t1, d1]

abbrev envX (V : PV) (len i : Int) : Tr := (((Tr.lf.set 8 (.pv (i64 i))).set 7 (.pv (i64 len))).set 1 (.clo 32 [.ptr 0 0])).set 0 (.pv V)

variable (V : PV) (l : List Edg) (hV : IsL 3 V (l.map encE)) (hw : l.length ≤ maxLen)
include hV hw
theorem index_round (i : Nat) (hi : i < l.length) :
    ((l[i].lo ≤ b ∧ b ≤ l[i].hi) → retIsE 4 (.pv (i64 i)) [.box [.pv (u8 b)]] (roundL (callL t_auto_Step 7) [0, 1, 7, 8] b_slices_IndexFunc_api_Edge_api_Edge_l0 1 ⟨envX V l.length i, [.box [.pv (u8 b)]]⟩)) ∧
    (¬ (l[i].lo ≤ b ∧ b ≤ l[i].hi) → roundL (callL t_auto_Step 7) [0, 1, 7, 8] b_slices_IndexFunc_api_Edge_api_Edge_l0 1 ⟨envX V l.length i, [.box [.pv (u8 b)]]⟩ = some (.norm, ⟨envX V l.length (i + 1 : Nat), [.box [.pv (u8 b)]]⟩)) := by
  have hV := hV.lit (i := i) (by simpa using hi)
  subst hV
  have e1 : decide ((i : Int) < (l.length : Int)) = true := dec_t (by omega)
  have hq : idxOk (i : Int) (l.map encE).length := by unfold idxOk; simp; omega
  have t1 : ((i : Int)).toNat = i := by simp
  have t2 := stepWrap hi hw
  have hg : (l.map encE)[i]? = some (.agg [i64 l[i].lo, i64 l[i].hi, i64 l[i].to]) := encE_get hi
  have hc := cmp_run b hb (callL t_auto_Step 6) l[i]
  simp only [encE] at hc
  generalize l.map encE = es at *
  constructor
  · intro h
    have d := dec_t h
    rw [d] at hc
    generalize l[i] = e at *
    simp (implicitDefEqProofs := false) only [pureF, runF_go, callL_succ, C_skip, C_region, C_seq, C_cond, C_block, C_scope, C_exit, C_ret, C_ghost, ops_cons, ops_nil, oper_go, oper_pr, oper_if, guard_t, guard_f, do_go, do_pr, skip_do, skip_no, onH_go, evalOp, List.map, List.length, if_true, ↓reduceIte, argEnv, AO.ev, Tr.get_set, wantedA, putR_do, putR_no, nextA_some, seqA_norm, seqA_ret, seqA_exit, normA_some, condA_t, condA_f, startA_go, blockA_norm, blockA_ret, blockA_exit, AV.cells, PV.cells, outR_ret, outR_norm, resA, one1, mapO, toPV, Option.bind_some, Option.map_some, AV.one, List.all, Bool.and_self, true_and, and_self, and_true, flatV, Bool.or_true, Bool.true_or, unA, asBool, asInt, Bool.not_true, Bool.not_false, fillA, mkAgg, mkTup, allPV, storeA, loadA, partA, partP, place, lenA_nils, lenA_lit, lenA_uq, lenA_str, lenA_nilm, lenA_own, lenA_mp, setRow, binA, intBin, eqA, fresh, chunk, List.append, List.nil_append, List.cons_append, List.getElem?_cons_zero, List.getElem?_cons_succ, List.getElem?_nil, List.set_cons_zero, List.set_cons_succ, List.length_cons, List.length_nil, Nat.zero_add, Nat.add_zero, List.drop, List.take, flat, elemsP, nilApp, appendA, Bool.false_eq_true, beq_self_eq_true, bne_self_eq_false, Bool.not_eq_true, decide_true, decide_false, reduceCtorEq, Nat.reduceAdd, Nat.reduceMul, Nat.reduceLeDiff, Nat.reduceEqDiff, Nat.le_refl, Int.reduceLT, Int.reduceLE, Int.reduceBEq, Int.reduceEq, Nat.reduceBEq, Option.bind_none, Option.map_none, b_tt, b_tf, b_ft, b_ff, pvInt, Int.cast_ofNat_Int, repZ, Bool.false_and, Bool.and_false, List.headD_cons, List.headD_nil, Nat.reduceLT, Nat.lt_add_one, Nat.reduceSub, Nat.sub_zero, Int.reduceBNe, List.isEmpty_cons, List.isEmpty_nil, Int.reduceGT, Int.reduceGE, Int.reduceAdd, Int.reduceSub, Int.reduceMul, Int.reduceNeg, AV.free, Bool.or_false, Bool.false_or, Nat.mul_one, roundL, roundA, b_slices_IndexFunc_api_Edge_api_Edge_l0, t_auto_Step, e1, eq_true hq, t1, t2, hg, hc, iaddrA', envX, retIsE_ret]
  · intro h
    have d := dec_f h
    rw [d] at hc
    generalize l[i] = e at *
    simp (implicitDefEqProofs := false) only [pureF, runF_go, callL_succ, C_skip, C_region, C_seq, C_cond, C_block, C_scope, C_exit, C_ret, C_ghost, ops_cons, ops_nil, oper_go, oper_pr, oper_if, guard_t, guard_f, do_go, do_pr, skip_do, skip_no, onH_go, evalOp, List.map, List.length, if_true, ↓reduceIte, argEnv, AO.ev, Tr.get_set, wantedA, putR_do, putR_no, nextA_some, seqA_norm, seqA_ret, seqA_exit, normA_some, condA_t, condA_f, startA_go, blockA_norm, blockA_ret, blockA_exit, AV.cells, PV.cells, outR_ret, outR_norm, resA, one1, mapO, toPV, Option.bind_some, Option.map_some, AV.one, List.all, Bool.and_self, true_and, and_self, and_true, flatV, Bool.or_true, Bool.true_or, unA, asBool, asInt, Bool.not_true, Bool.not_false, fillA, mkAgg, mkTup, allPV, storeA, loadA, partA, partP, place, lenA_nils, lenA_lit, lenA_uq, lenA_str, lenA_nilm, lenA_own, lenA_mp, setRow, binA, intBin, eqA, fresh, chunk, List.append, List.nil_append, List.cons_append, List.getElem?_cons_zero, List.getElem?_cons_succ, List.getElem?_nil, List.set_cons_zero, List.set_cons_succ, List.length_cons, List.length_nil, Nat.zero_add, Nat.add_zero, List.drop, List.take, flat, elemsP, nilApp, appendA, Bool.false_eq_true, beq_self_eq_true, bne_self_eq_false, Bool.not_eq_true, decide_true, decide_false, reduceCtorEq, Nat.reduceAdd, Nat.reduceMul, Nat.reduceLeDiff, Nat.reduceEqDiff, Nat.le_refl, Int.reduceLT, Int.reduceLE, Int.reduceBEq, Int.reduceEq, Nat.reduceBEq, Option.bind_none, Option.map_none, b_tt, b_tf, b_ft, b_ff, pvInt, Int.cast_ofNat_Int, repZ, Bool.false_and, Bool.and_false, List.headD_cons, List.headD_nil, Nat.reduceLT, Nat.lt_add_one, Nat.reduceSub, Nat.sub_zero, Int.reduceBNe, List.isEmpty_cons, List.isEmpty_nil, Int.reduceGT, Int.reduceGE, Int.reduceAdd, Int.reduceSub, Int.reduceMul, Int.reduceNeg, AV.free, Bool.or_false, Bool.false_or, Nat.mul_one, roundL, roundA, b_slices_IndexFunc_api_Edge_api_Edge_l0, t_auto_Step, e1, eq_true hq, t1, t2, hg, hc, iaddrA', envX, clean, cutEnv, cutO_box, cut_pv, AV.cut, deep_eq]

theorem index_run : runF (callL t_auto_Step 7) b_slices_IndexFunc_api_Edge_api_Edge [.pv V, .clo 32 [.ptr 0 0]] [.box [.pv (u8 b)]] = some (.pv (i64 (stepI b l 0)), [.box [.pv (u8 b)]]) := by
  have ls := hV.len
  simp only [List.length_map] at ls
  have key := loop_acc (g := roundL (callL t_auto_Step 7) [0, 1, 7, 8] b_slices_IndexFunc_api_Edge_api_Edge_l0 1)
    (fun i (_ : Unit) => ⟨envX V l.length i, [.box [.pv (u8 b)]]⟩) (fun i _ => stepI b (l.drop i) i) (fun _ _ => True)
    (fun r ex t => (ex = .exit 0 ∧ r = -1 ∧ t.H = [.box [.pv (u8 b)]]) ∨ (ex = .ret ∧ t.env.get 4 = .pv (i64 r) ∧ t.H = [.box [.pv (u8 b)]]))
    l.length (by unfold rounds; unfold maxLen at hw; omega) () trivial ?_ ?_
  · obtain ⟨ex, ⟨e, H⟩, h, _, hq⟩ := key
    have h' : loopA (roundA (evalC (callL t_auto_Step 7) b_slices_IndexFunc_api_Edge_api_Edge_l0) (clean 1 [0, 1, 7, 8])) rounds ⟨envX V l.length 0, [.box [.pv (u8 b)]]⟩ = some (ex, ⟨e, H⟩) := h
    simp only [envX] at h'
    rw [List.drop_zero] at hq
    generalize stepI b l 0 = r at *
    rcases hq with ⟨rfl, rfl, g2⟩ | ⟨rfl, g1, g2⟩
    · simp only at g2
      subst g2
      simp (implicitDefEqProofs := false) only [pureF, runF_go, callL_succ, C_skip, C_region, C_seq, C_cond, C_block, C_scope, C_exit, C_ret, C_ghost, ops_cons, ops_nil, oper_go, oper_pr, oper_if, guard_t, guard_f, do_go, do_pr, skip_do, skip_no, onH_go, evalOp, List.map, List.length, if_true, ↓reduceIte, argEnv, AO.ev, Tr.get_set, wantedA, putR_do, putR_no, nextA_some, seqA_norm, seqA_ret, seqA_exit, normA_some, condA_t, condA_f, startA_go, blockA_norm, blockA_ret, blockA_exit, AV.cells, PV.cells, outR_ret, outR_norm, resA, one1, mapO, toPV, Option.bind_some, Option.map_some, AV.one, List.all, Bool.and_self, true_and, and_self, and_true, flatV, Bool.or_true, Bool.true_or, unA, asBool, asInt, Bool.not_true, Bool.not_false, fillA, mkAgg, mkTup, allPV, storeA, loadA, partA, partP, place, lenA_nils, lenA_lit, lenA_uq, lenA_str, lenA_nilm, lenA_own, lenA_mp, setRow, binA, intBin, eqA, fresh, chunk, List.append, List.nil_append, List.cons_append, List.getElem?_cons_zero, List.getElem?_cons_succ, List.getElem?_nil, List.set_cons_zero, List.set_cons_succ, List.length_cons, List.length_nil, Nat.zero_add, Nat.add_zero, List.drop, List.take, flat, elemsP, nilApp, appendA, Bool.false_eq_true, beq_self_eq_true, bne_self_eq_false, Bool.not_eq_true, decide_true, decide_false, reduceCtorEq, Nat.reduceAdd, Nat.reduceMul, Nat.reduceLeDiff, Nat.reduceEqDiff, Nat.le_refl, Int.reduceLT, Int.reduceLE, Int.reduceBEq, Int.reduceEq, Nat.reduceBEq, Option.bind_none, Option.map_none, b_tt, b_tf, b_ft, b_ff, pvInt, Int.cast_ofNat_Int, repZ, Bool.false_and, Bool.and_false, List.headD_cons, List.headD_nil, Nat.reduceLT, Nat.lt_add_one, Nat.reduceSub, Nat.sub_zero, Int.reduceBNe, List.isEmpty_cons, List.isEmpty_nil, Int.reduceGT, Int.reduceGE, Int.reduceAdd, Int.reduceSub, Int.reduceMul, Int.reduceNeg, AV.free, Bool.or_false, Bool.false_or, Nat.mul_one, b_slices_IndexFunc_api_Edge_api_Edge, ls, C_loop, clean, cutEnv, cutO_box, cut_pv, AV.cut, deep_eq]
      rw [h']
      simp (implicitDefEqProofs := false) only [pureF, runF_go, callL_succ, C_skip, C_region, C_seq, C_cond, C_block, C_scope, C_exit, C_ret, C_ghost, ops_cons, ops_nil, oper_go, oper_pr, oper_if, guard_t, guard_f, do_go, do_pr, skip_do, skip_no, onH_go, evalOp, List.map, List.length, if_true, ↓reduceIte, argEnv, AO.ev, Tr.get_set, wantedA, putR_do, putR_no, nextA_some, seqA_norm, seqA_ret, seqA_exit, normA_some, condA_t, condA_f, startA_go, blockA_norm, blockA_ret, blockA_exit, AV.cells, PV.cells, outR_ret, outR_norm, resA, one1, mapO, toPV, Option.bind_some, Option.map_some, AV.one, List.all, Bool.and_self, true_and, and_self, and_true, flatV, Bool.or_true, Bool.true_or, unA, asBool, asInt, Bool.not_true, Bool.not_false, fillA, mkAgg, mkTup, allPV, storeA, loadA, partA, partP, place, lenA_nils, lenA_lit, lenA_uq, lenA_str, lenA_nilm, lenA_own, lenA_mp, setRow, binA, intBin, eqA, fresh, chunk, List.append, List.nil_append, List.cons_append, List.getElem?_cons_zero, List.getElem?_cons_succ, List.getElem?_nil, List.set_cons_zero, List.set_cons_succ, List.length_cons, List.length_nil, Nat.zero_add, Nat.add_zero, List.drop, List.take, flat, elemsP, nilApp, appendA, Bool.false_eq_true, beq_self_eq_true, bne_self_eq_false, Bool.not_eq_true, decide_true, decide_false, reduceCtorEq, Nat.reduceAdd, Nat.reduceMul, Nat.reduceLeDiff, Nat.reduceEqDiff, Nat.le_refl, Int.reduceLT, Int.reduceLE, Int.reduceBEq, Int.reduceEq, Nat.reduceBEq, Option.bind_none, Option.map_none, b_tt, b_tf, b_ft, b_ff, pvInt, Int.cast_ofNat_Int, repZ, Bool.false_and, Bool.and_false, List.headD_cons, List.headD_nil, Nat.reduceLT, Nat.lt_add_one, Nat.reduceSub, Nat.sub_zero, Int.reduceBNe, List.isEmpty_cons, List.isEmpty_nil, Int.reduceGT, Int.reduceGE, Int.reduceAdd, Int.reduceSub, Int.reduceMul, Int.reduceNeg, AV.free, Bool.or_false, Bool.false_or, Nat.mul_one]
    · simp only at g1 g2
      subst g2
      simp (implicitDefEqProofs := false) only [pureF, runF_go, callL_succ, C_skip, C_region, C_seq, C_cond, C_block, C_scope, C_exit, C_ret, C_ghost, ops_cons, ops_nil, oper_go, oper_pr, oper_if, guard_t, guard_f, do_go, do_pr, skip_do, skip_no, onH_go, evalOp, List.map, List.length, if_true, ↓reduceIte, argEnv, AO.ev, Tr.get_set, wantedA, putR_do, putR_no, nextA_some, seqA_norm, seqA_ret, seqA_exit, normA_some, condA_t, condA_f, startA_go, blockA_norm, blockA_ret, blockA_exit, AV.cells, PV.cells, outR_ret, outR_norm, resA, one1, mapO, toPV, Option.bind_some, Option.map_some, AV.one, List.all, Bool.and_self, true_and, and_self, and_true, flatV, Bool.or_true, Bool.true_or, unA, asBool, asInt, Bool.not_true, Bool.not_false, fillA, mkAgg, mkTup, allPV, storeA, loadA, partA, partP, place, lenA_nils, lenA_lit, lenA_uq, lenA_str, lenA_nilm, lenA_own, lenA_mp, setRow, binA, intBin, eqA, fresh, chunk, List.append, List.nil_append, List.cons_append, List.getElem?_cons_zero, List.getElem?_cons_succ, List.getElem?_nil, List.set_cons_zero, List.set_cons_succ, List.length_cons, List.length_nil, Nat.zero_add, Nat.add_zero, List.drop, List.take, flat, elemsP, nilApp, appendA, Bool.false_eq_true, beq_self_eq_true, bne_self_eq_false, Bool.not_eq_true, decide_true, decide_false, reduceCtorEq, Nat.reduceAdd, Nat.reduceMul, Nat.reduceLeDiff, Nat.reduceEqDiff, Nat.le_refl, Int.reduceLT, Int.reduceLE, Int.reduceBEq, Int.reduceEq, Nat.reduceBEq, Option.bind_none, Option.map_none, b_tt, b_tf, b_ft, b_ff, pvInt, Int.cast_ofNat_Int, repZ, Bool.false_and, Bool.and_false, List.headD_cons, List.headD_nil, Nat.reduceLT, Nat.lt_add_one, Nat.reduceSub, Nat.sub_zero, Int.reduceBNe, List.isEmpty_cons, List.isEmpty_nil, Int.reduceGT, Int.reduceGE, Int.reduceAdd, Int.reduceSub, Int.reduceMul, Int.reduceNeg, AV.free, Bool.or_false, Bool.false_or, Nat.mul_one, b_slices_IndexFunc_api_Edge_api_Edge, ls, C_loop, clean, cutEnv, cutO_box, cut_pv, AV.cut, deep_eq]
      rw [h']
      simp (implicitDefEqProofs := false) only [pureF, runF_go, callL_succ, C_skip, C_region, C_seq, C_cond, C_block, C_scope, C_exit, C_ret, C_ghost, ops_cons, ops_nil, oper_go, oper_pr, oper_if, guard_t, guard_f, do_go, do_pr, skip_do, skip_no, onH_go, evalOp, List.map, List.length, if_true, ↓reduceIte, argEnv, AO.ev, Tr.get_set, wantedA, putR_do, putR_no, nextA_some, seqA_norm, seqA_ret, seqA_exit, normA_some, condA_t, condA_f, startA_go, blockA_norm, blockA_ret, blockA_exit, AV.cells, PV.cells, outR_ret, outR_norm, resA, one1, mapO, toPV, Option.bind_some, Option.map_some, AV.one, List.all, Bool.and_self, true_and, and_self, and_true, flatV, Bool.or_true, Bool.true_or, unA, asBool, asInt, Bool.not_true, Bool.not_false, fillA, mkAgg, mkTup, allPV, storeA, loadA, partA, partP, place, lenA_nils, lenA_lit, lenA_uq, lenA_str, lenA_nilm, lenA_own, lenA_mp, setRow, binA, intBin, eqA, fresh, chunk, List.append, List.nil_append, List.cons_append, List.getElem?_cons_zero, List.getElem?_cons_succ, List.getElem?_nil, List.set_cons_zero, List.set_cons_succ, List.length_cons, List.length_nil, Nat.zero_add, Nat.add_zero, List.drop, List.take, flat, elemsP, nilApp, appendA, Bool.false_eq_true, beq_self_eq_true, bne_self_eq_false, Bool.not_eq_true, decide_true, decide_false, reduceCtorEq, Nat.reduceAdd, Nat.reduceMul, Nat.reduceLeDiff, Nat.reduceEqDiff, Nat.le_refl, Int.reduceLT, Int.reduceLE, Int.reduceBEq, Int.reduceEq, Nat.reduceBEq, Option.bind_none, Option.map_none, b_tt, b_tf, b_ft, b_ff, pvInt, Int.cast_ofNat_Int, repZ, Bool.false_and, Bool.and_false, List.headD_cons, List.headD_nil, Nat.reduceLT, Nat.lt_add_one, Nat.reduceSub, Nat.sub_zero, Int.reduceBNe, List.isEmpty_cons, List.isEmpty_nil, Int.reduceGT, Int.reduceGE, Int.reduceAdd, Int.reduceSub, Int.reduceMul, Int.reduceNeg, AV.free, Bool.or_false, Bool.false_or, Nat.mul_one, g1]
  · rintro i hi _ _
    have hr := index_round b hb V l hV hw i hi
    have hd : l.drop i = l[i] :: l.drop (i + 1) := List.drop_eq_getElem_cons hi
    simp only [hd, stepI]
    by_cases h : l[i].lo ≤ b ∧ b ≤ l[i].hi
    · obtain ⟨t, k1, k2, k3⟩ := retIsE_spec (hr.1 h)
      rw [if_pos h]
      exact .inr ⟨.ret, t, k1, rfl, .inr ⟨rfl, k2, k3⟩⟩
    · rw [if_neg h]
      exact .inl ⟨(), hr.2 h, rfl, trivial⟩
  · rintro _ _
    rw [List.drop_length]
    have e1 : decide ((l.length : Int) < (l.length : Int)) = false := dec_f (by omega)
    refine ⟨.exit 0, ⟨(envX V l.length l.length).set 9 (.pv (.bool false)), [.box [.pv (u8 b)]]⟩, ?_, rfl, .inl ⟨rfl, rfl, rfl⟩⟩
    simp (implicitDefEqProofs := false) only [pureF, runF_go, callL_succ, C_skip, C_region, C_seq, C_cond, C_block, C_scope, C_exit, C_ret, C_ghost, ops_cons, ops_nil, oper_go, oper_pr, oper_if, guard_t, guard_f, do_go, do_pr, skip_do, skip_no, onH_go, evalOp, List.map, List.length, if_true, ↓reduceIte, argEnv, AO.ev, Tr.get_set, wantedA, putR_do, putR_no, nextA_some, seqA_norm, seqA_ret, seqA_exit, normA_some, condA_t, condA_f, startA_go, blockA_norm, blockA_ret, blockA_exit, AV.cells, PV.cells, outR_ret, outR_norm, resA, one1, mapO, toPV, Option.bind_some, Option.map_some, AV.one, List.all, Bool.and_self, true_and, and_self, and_true, flatV, Bool.or_true, Bool.true_or, unA, asBool, asInt, Bool.not_true, Bool.not_false, fillA, mkAgg, mkTup, allPV, storeA, loadA, partA, partP, place, lenA_nils, lenA_lit, lenA_uq, lenA_str, lenA_nilm, lenA_own, lenA_mp, setRow, binA, intBin, eqA, fresh, chunk, List.append, List.nil_append, List.cons_append, List.getElem?_cons_zero, List.getElem?_cons_succ, List.getElem?_nil, List.set_cons_zero, List.set_cons_succ, List.length_cons, List.length_nil, Nat.zero_add, Nat.add_zero, List.drop, List.take, flat, elemsP, nilApp, appendA, Bool.false_eq_true, beq_self_eq_true, bne_self_eq_false, Bool.not_eq_true, decide_true, decide_false, reduceCtorEq, Nat.reduceAdd, Nat.reduceMul, Nat.reduceLeDiff, Nat.reduceEqDiff, Nat.le_refl, Int.reduceLT, Int.reduceLE, Int.reduceBEq, Int.reduceEq, Nat.reduceBEq, Option.bind_none, Option.map_none, b_tt, b_tf, b_ft, b_ff, pvInt, Int.cast_ofNat_Int, repZ, Bool.false_and, Bool.and_false, List.headD_cons, List.headD_nil, Nat.reduceLT, Nat.lt_add_one, Nat.reduceSub, Nat.sub_zero, Int.reduceBNe, List.isEmpty_cons, List.isEmpty_nil, Int.reduceGT, Int.reduceGE, Int.reduceAdd, Int.reduceSub, Int.reduceMul, Int.reduceNeg, AV.free, Bool.or_false, Bool.false_or, Nat.mul_one, roundL, roundA, b_slices_IndexFunc_api_Edge_api_Edge_l0, e1, envX]
end

theorem HeldSt.get {A : PV} {l : List (List Edg)} (h : HeldSt A l) {i : Nat} (hi : i < l.length) : ∃ es V, A = .lit 1 es ∧ es.length = l.length ∧ es[i]? = some V ∧ IsL 3 V (l[i].map encE) := by
  obtain ⟨es, h1, h2, h3⟩ := h.held
  have hie : i < es.length := by omega
  refine ⟨es, es[i], h1.lit hie, h2, by simp [hie], h3 i _ _ (by simp [hie]) (by simp [hi])⟩
theorem HeldSt.lenA {A : PV} {l : List (List Edg)} (h : HeldSt A l) (H : List AObj) : lenA H 0 (.pv A) = some l.length := by
  obtain ⟨es, h1, h2, h3⟩ := h.held
  rw [h1.len, h2]
theorem HeldSt.form {A : PV} {l : List (List Edg)} (h : HeldSt A l) : A = .nils ∨ ∃ es, A = .lit 1 es := by
  obtain ⟨es, h1, h2, h3⟩ := h.held
  rcases h1 with ⟨rfl, _⟩ | rfl
  · exact .inl rfl
  · exact .inr ⟨_, rfl⟩
theorem IsL.form {sz : Nat} {v : PV} {es : List PV} (h : IsL sz v es) : v = .nils ∨ ∃ es, v = .lit sz es := by
  rcases h with ⟨rfl, _⟩ | rfl
  · exact .inl rfl
  · exact .inr ⟨_, rfl⟩

section
variable (A : PV) (l : List (List Edg)) (hA : HeldSt A l) (st b : Int) (hb : 0 ≤ b ∧ b ≤ 255)
include hA hb
theorem step_run : F_auto_Step [.agg [A], i64 st, u8 b] = some (.tup [i64 (stepS l st b).1, .bool (stepS l st b).2]) := by
  have hla := hA.lenA
  by_cases h0 : st < 0
  · have e : stepS l st b = (0, false) := by simp [stepS, h0]
    have d := dec_t h0
    rw [e]
    rcases hA.form with rfl | ⟨es, rfl⟩ <;>
    simp (implicitDefEqProofs := false) only [F_auto_Step, pureF, runF_go, callL_succ, C_skip, C_region, C_seq, C_cond, C_block, C_scope, C_exit, C_ret, C_ghost, ops_cons, ops_nil, oper_go, oper_pr, oper_if, guard_t, guard_f, do_go, do_pr, skip_do, skip_no, onH_go, evalOp, List.map, List.length, if_true, ↓reduceIte, argEnv, AO.ev, Tr.get_set, wantedA, putR_do, putR_no, nextA_some, seqA_norm, seqA_ret, seqA_exit, normA_some, condA_t, condA_f, startA_go, blockA_norm, blockA_ret, blockA_exit, AV.cells, PV.cells, outR_ret, outR_norm, resA, one1, mapO, toPV, Option.bind_some, Option.map_some, AV.one, List.all, Bool.and_self, true_and, and_self, and_true, flatV, Bool.or_true, Bool.true_or, unA, asBool, asInt, Bool.not_true, Bool.not_false, fillA, mkAgg, mkTup, allPV, storeA, loadA, partA, partP, place, lenA_nils, lenA_lit, lenA_uq, lenA_str, lenA_nilm, lenA_own, lenA_mp, setRow, binA, intBin, eqA, fresh, chunk, List.append, List.nil_append, List.cons_append, List.getElem?_cons_zero, List.getElem?_cons_succ, List.getElem?_nil, List.set_cons_zero, List.set_cons_succ, List.length_cons, List.length_nil, Nat.zero_add, Nat.add_zero, List.drop, List.take, flat, elemsP, nilApp, appendA, Bool.false_eq_true, beq_self_eq_true, bne_self_eq_false, Bool.not_eq_true, decide_true, decide_false, reduceCtorEq, Nat.reduceAdd, Nat.reduceMul, Nat.reduceLeDiff, Nat.reduceEqDiff, Nat.le_refl, Int.reduceLT, Int.reduceLE, Int.reduceBEq, Int.reduceEq, Nat.reduceBEq, Option.bind_none, Option.map_none, b_tt, b_tf, b_ft, b_ff, pvInt, Int.cast_ofNat_Int, repZ, Bool.false_and, Bool.and_false, List.headD_cons, List.headD_nil, Nat.reduceLT, Nat.lt_add_one, Nat.reduceSub, Nat.sub_zero, Int.reduceBNe, List.isEmpty_cons, List.isEmpty_nil, Int.reduceGT, Int.reduceGE, Int.reduceAdd, Int.reduceSub, Int.reduceMul, Int.reduceNeg, AV.free, Bool.or_false, Bool.false_or, Nat.mul_one, b_auto_Step, d, toPV_pv, deep_eq]
  have d0 := dec_f h0
  by_cases h1 : st.toNat < l.length
  · obtain ⟨es, V, rfl, hel, hV, hVL⟩ := hA.get h1
    have d1 : decide (st ≥ (l.length : Int)) = false := dec_f (by omega)
    have hq : idxOk st l.length := by unfold idxOk; omega
    have hlen := hA.lens l[st.toNat] (List.getElem_mem h1)
    have hix := index_run b hb V l[st.toNat] hVL (by unfold maxLen; omega)
    have hget : l[st.toNat]? = some l[st.toNat] := by simp [h1]
    simp only [stepS, if_neg h0, hget]
    generalize l[st.toNat] = e at *
    rcases stepI_L (b := b) e 0 with ⟨k1, k2⟩ | ⟨k, ed, k1, k2, k3⟩
    · rw [k1] at hix
      simp only [k2]
      rcases hVL.form with rfl | ⟨vs, rfl⟩ <;>
      simp (implicitDefEqProofs := false) only [F_auto_Step, pureF, runF_go, callL_succ, C_skip, C_region, C_seq, C_cond, C_block, C_scope, C_exit, C_ret, C_ghost, ops_cons, ops_nil, oper_go, oper_pr, oper_if, guard_t, guard_f, do_go, do_pr, skip_do, skip_no, onH_go, evalOp, List.map, List.length, if_true, ↓reduceIte, argEnv, AO.ev, Tr.get_set, wantedA, putR_do, putR_no, nextA_some, seqA_norm, seqA_ret, seqA_exit, normA_some, condA_t, condA_f, startA_go, blockA_norm, blockA_ret, blockA_exit, AV.cells, PV.cells, outR_ret, outR_norm, resA, one1, mapO, toPV, Option.bind_some, Option.map_some, AV.one, List.all, Bool.and_self, true_and, and_self, and_true, flatV, Bool.or_true, Bool.true_or, unA, asBool, asInt, Bool.not_true, Bool.not_false, fillA, mkAgg, mkTup, allPV, storeA, loadA, partA, partP, place, lenA_nils, lenA_lit, lenA_uq, lenA_str, lenA_nilm, lenA_own, lenA_mp, setRow, binA, intBin, eqA, fresh, chunk, List.append, List.nil_append, List.cons_append, List.getElem?_cons_zero, List.getElem?_cons_succ, List.getElem?_nil, List.set_cons_zero, List.set_cons_succ, List.length_cons, List.length_nil, Nat.zero_add, Nat.add_zero, List.drop, List.take, flat, elemsP, nilApp, appendA, Bool.false_eq_true, beq_self_eq_true, bne_self_eq_false, Bool.not_eq_true, decide_true, decide_false, reduceCtorEq, Nat.reduceAdd, Nat.reduceMul, Nat.reduceLeDiff, Nat.reduceEqDiff, Nat.le_refl, Int.reduceLT, Int.reduceLE, Int.reduceBEq, Int.reduceEq, Nat.reduceBEq, Option.bind_none, Option.map_none, b_tt, b_tf, b_ft, b_ff, pvInt, Int.cast_ofNat_Int, repZ, Bool.false_and, Bool.and_false, List.headD_cons, List.headD_nil, Nat.reduceLT, Nat.lt_add_one, Nat.reduceSub, Nat.sub_zero, Int.reduceBNe, List.isEmpty_cons, List.isEmpty_nil, Int.reduceGT, Int.reduceGE, Int.reduceAdd, Int.reduceSub, Int.reduceMul, Int.reduceNeg, AV.free, Bool.or_false, Bool.false_or, Nat.mul_one, b_auto_Step, d0, d1, hel, eq_true hq, hV, t_auto_Step, iaddrA', hix, toPV_pv, deep_eq]
    · have hkl := (List.getElem?_eq_some_iff.1 k2).1
      have hVl := hVL.lit (i := k) (by simpa using hkl)
      subst hVl
      have hge : (e.map encE)[k]? = some (.agg [i64 ed.lo, i64 ed.hi, i64 ed.to]) := by rw [List.getElem?_map, k2]; rfl
      have hq2 : idxOk (k : Int) (e.map encE).length := by unfold idxOk; simp; omega
      have t1 : ((k : Int)).toNat = k := by simp
      have d2 : decide ((k : Int) < 0) = false := dec_f (by omega)
      rw [Nat.zero_add] at k1
      rw [k1] at hix
      simp only [k3]
      generalize e.map encE = vs at *
      simp (implicitDefEqProofs := false) only [F_auto_Step, pureF, runF_go, callL_succ, C_skip, C_region, C_seq, C_cond, C_block, C_scope, C_exit, C_ret, C_ghost, ops_cons, ops_nil, oper_go, oper_pr, oper_if, guard_t, guard_f, do_go, do_pr, skip_do, skip_no, onH_go, evalOp, List.map, List.length, if_true, ↓reduceIte, argEnv, AO.ev, Tr.get_set, wantedA, putR_do, putR_no, nextA_some, seqA_norm, seqA_ret, seqA_exit, normA_some, condA_t, condA_f, startA_go, blockA_norm, blockA_ret, blockA_exit, AV.cells, PV.cells, outR_ret, outR_norm, resA, one1, mapO, toPV, Option.bind_some, Option.map_some, AV.one, List.all, Bool.and_self, true_and, and_self, and_true, flatV, Bool.or_true, Bool.true_or, unA, asBool, asInt, Bool.not_true, Bool.not_false, fillA, mkAgg, mkTup, allPV, storeA, loadA, partA, partP, place, lenA_nils, lenA_lit, lenA_uq, lenA_str, lenA_nilm, lenA_own, lenA_mp, setRow, binA, intBin, eqA, fresh, chunk, List.append, List.nil_append, List.cons_append, List.getElem?_cons_zero, List.getElem?_cons_succ, List.getElem?_nil, List.set_cons_zero, List.set_cons_succ, List.length_cons, List.length_nil, Nat.zero_add, Nat.add_zero, List.drop, List.take, flat, elemsP, nilApp, appendA, Bool.false_eq_true, beq_self_eq_true, bne_self_eq_false, Bool.not_eq_true, decide_true, decide_false, reduceCtorEq, Nat.reduceAdd, Nat.reduceMul, Nat.reduceLeDiff, Nat.reduceEqDiff, Nat.le_refl, Int.reduceLT, Int.reduceLE, Int.reduceBEq, Int.reduceEq, Nat.reduceBEq, Option.bind_none, Option.map_none, b_tt, b_tf, b_ft, b_ff, pvInt, Int.cast_ofNat_Int, repZ, Bool.false_and, Bool.and_false, List.headD_cons, List.headD_nil, Nat.reduceLT, Nat.lt_add_one, Nat.reduceSub, Nat.sub_zero, Int.reduceBNe, List.isEmpty_cons, List.isEmpty_nil, Int.reduceGT, Int.reduceGE, Int.reduceAdd, Int.reduceSub, Int.reduceMul, Int.reduceNeg, AV.free, Bool.or_false, Bool.false_or, Nat.mul_one, b_auto_Step, d0, d1, d2, hel, eq_true hq, eq_true hq2, t1, hV, hge, t_auto_Step, iaddrA', hix, toPV_pv, deep_eq]
  · have hn : l[st.toNat]? = none := by simp; omega
    have e : stepS l st b = (0, false) := by simp [stepS, hn]
    have d1 : decide (st ≥ (l.length : Int)) = true := dec_t (by omega)
    rw [e]
    rcases hA.form with rfl | ⟨es, rfl⟩
    · have hl0 : l.length = 0 := by have := hla []; simp [lenA] at this; omega
      have d1 : decide (st ≥ 0) = true := dec_t (by omega)
      simp (implicitDefEqProofs := false) only [F_auto_Step, pureF, runF_go, callL_succ, C_skip, C_region, C_seq, C_cond, C_block, C_scope, C_exit, C_ret, C_ghost, ops_cons, ops_nil, oper_go, oper_pr, oper_if, guard_t, guard_f, do_go, do_pr, skip_do, skip_no, onH_go, evalOp, List.map, List.length, if_true, ↓reduceIte, argEnv, AO.ev, Tr.get_set, wantedA, putR_do, putR_no, nextA_some, seqA_norm, seqA_ret, seqA_exit, normA_some, condA_t, condA_f, startA_go, blockA_norm, blockA_ret, blockA_exit, AV.cells, PV.cells, outR_ret, outR_norm, resA, one1, mapO, toPV, Option.bind_some, Option.map_some, AV.one, List.all, Bool.and_self, true_and, and_self, and_true, flatV, Bool.or_true, Bool.true_or, unA, asBool, asInt, Bool.not_true, Bool.not_false, fillA, mkAgg, mkTup, allPV, storeA, loadA, partA, partP, place, lenA_nils, lenA_lit, lenA_uq, lenA_str, lenA_nilm, lenA_own, lenA_mp, setRow, binA, intBin, eqA, fresh, chunk, List.append, List.nil_append, List.cons_append, List.getElem?_cons_zero, List.getElem?_cons_succ, List.getElem?_nil, List.set_cons_zero, List.set_cons_succ, List.length_cons, List.length_nil, Nat.zero_add, Nat.add_zero, List.drop, List.take, flat, elemsP, nilApp, appendA, Bool.false_eq_true, beq_self_eq_true, bne_self_eq_false, Bool.not_eq_true, decide_true, decide_false, reduceCtorEq, Nat.reduceAdd, Nat.reduceMul, Nat.reduceLeDiff, Nat.reduceEqDiff, Nat.le_refl, Int.reduceLT, Int.reduceLE, Int.reduceBEq, Int.reduceEq, Nat.reduceBEq, Option.bind_none, Option.map_none, b_tt, b_tf, b_ft, b_ff, pvInt, Int.cast_ofNat_Int, repZ, Bool.false_and, Bool.and_false, List.headD_cons, List.headD_nil, Nat.reduceLT, Nat.lt_add_one, Nat.reduceSub, Nat.sub_zero, Int.reduceBNe, List.isEmpty_cons, List.isEmpty_nil, Int.reduceGT, Int.reduceGE, Int.reduceAdd, Int.reduceSub, Int.reduceMul, Int.reduceNeg, AV.free, Bool.or_false, Bool.false_or, Nat.mul_one, b_auto_Step, d0, d1, toPV_pv, deep_eq]
    · have hel : es.length = l.length := by have := hla []; simpa [lenA] using this
      simp (implicitDefEqProofs := false) only [F_auto_Step, pureF, runF_go, callL_succ, C_skip, C_region, C_seq, C_cond, C_block, C_scope, C_exit, C_ret, C_ghost, ops_cons, ops_nil, oper_go, oper_pr, oper_if, guard_t, guard_f, do_go, do_pr, skip_do, skip_no, onH_go, evalOp, List.map, List.length, if_true, ↓reduceIte, argEnv, AO.ev, Tr.get_set, wantedA, putR_do, putR_no, nextA_some, seqA_norm, seqA_ret, seqA_exit, normA_some, condA_t, condA_f, startA_go, blockA_norm, blockA_ret, blockA_exit, AV.cells, PV.cells, outR_ret, outR_norm, resA, one1, mapO, toPV, Option.bind_some, Option.map_some, AV.one, List.all, Bool.and_self, true_and, and_self, and_true, flatV, Bool.or_true, Bool.true_or, unA, asBool, asInt, Bool.not_true, Bool.not_false, fillA, mkAgg, mkTup, allPV, storeA, loadA, partA, partP, place, lenA_nils, lenA_lit, lenA_uq, lenA_str, lenA_nilm, lenA_own, lenA_mp, setRow, binA, intBin, eqA, fresh, chunk, List.append, List.nil_append, List.cons_append, List.getElem?_cons_zero, List.getElem?_cons_succ, List.getElem?_nil, List.set_cons_zero, List.set_cons_succ, List.length_cons, List.length_nil, Nat.zero_add, Nat.add_zero, List.drop, List.take, flat, elemsP, nilApp, appendA, Bool.false_eq_true, beq_self_eq_true, bne_self_eq_false, Bool.not_eq_true, decide_true, decide_false, reduceCtorEq, Nat.reduceAdd, Nat.reduceMul, Nat.reduceLeDiff, Nat.reduceEqDiff, Nat.le_refl, Int.reduceLT, Int.reduceLE, Int.reduceBEq, Int.reduceEq, Nat.reduceBEq, Option.bind_none, Option.map_none, b_tt, b_tf, b_ft, b_ff, pvInt, Int.cast_ofNat_Int, repZ, Bool.false_and, Bool.and_false, List.headD_cons, List.headD_nil, Nat.reduceLT, Nat.lt_add_one, Nat.reduceSub, Nat.sub_zero, Int.reduceBNe, List.isEmpty_cons, List.isEmpty_nil, Int.reduceGT, Int.reduceGE, Int.reduceAdd, Int.reduceSub, Int.reduceMul, Int.reduceNeg, AV.free, Bool.or_false, Bool.false_or, Nat.mul_one, b_auto_Step, d0, d1, hel, toPV_pv, deep_eq]
end

abbrev envY (A : PV) (st b i : Int) : Tr := (((Tr.lf.set 8 (.pv (i64 i))).set 3 (.pv (.rp [A] 0))).set 2 (.pv (u8 b))).set 1 (.pv (i64 st))

section
variable (call : CallF) (es : List PV) (st b : Int) (hb : 0 ≤ b ∧ b ≤ 255) (e : List Edg) (V : PV) (h0 : 0 ≤ st ∧ st < es.length) (hV : es[st.toNat]? = some V) (hVL : IsL 3 V (e.map encE)) (hw : e.length ≤ maxLen)
include h0 hV hVL
theorem refstep_end : roundL call [1, 2, 3, 8] b_leadtrailref13_Step_l0 0 ⟨envY (.lit 1 es) st b e.length, []⟩ = some (.exit 0, ⟨((((((((envY (.lit 1 es) st b e.length).set 19 (.pv (i64 e.length))).set 20 (.pv (.rp [.lit 1 es] 0))).set 21 (.pv (.lit 1 es))).set 22 (.pv (i64 st))).set 23 (.pv (.rp [V] 0))).set 24 (.pv V)).set 25 (.pv (i64 e.length))).set 26 (.pv (.bool false)), []⟩) := by
  have ls := hVL.len []
  simp only [List.length_map] at ls
  have e1 : decide ((e.length : Int) < (e.length : Int)) = false := dec_f (by omega)
  have hq : idxOk st es.length := by unfold idxOk; omega
  rcases hVL.form with rfl | ⟨vs, rfl⟩ <;>
  simp (implicitDefEqProofs := false) only [pureF, runF_go, callL_succ, C_skip, C_region, C_seq, C_cond, C_block, C_scope, C_exit, C_ret, C_ghost, ops_cons, ops_nil, oper_go, oper_pr, oper_if, guard_t, guard_f, do_go, do_pr, skip_do, skip_no, onH_go, evalOp, List.map, List.length, if_true, ↓reduceIte, argEnv, AO.ev, Tr.get_set, wantedA, putR_do, putR_no, nextA_some, seqA_norm, seqA_ret, seqA_exit, normA_some, condA_t, condA_f, startA_go, blockA_norm, blockA_ret, blockA_exit, AV.cells, PV.cells, outR_ret, outR_norm, resA, one1, mapO, toPV, Option.bind_some, Option.map_some, AV.one, List.all, Bool.and_self, true_and, and_self, and_true, flatV, Bool.or_true, Bool.true_or, unA, asBool, asInt, Bool.not_true, Bool.not_false, fillA, mkAgg, mkTup, allPV, storeA, loadA, partA, partP, place, lenA_nils, lenA_lit, lenA_uq, lenA_str, lenA_nilm, lenA_own, lenA_mp, setRow, binA, intBin, eqA, fresh, chunk, List.append, List.nil_append, List.cons_append, List.getElem?_cons_zero, List.getElem?_cons_succ, List.getElem?_nil, List.set_cons_zero, List.set_cons_succ, List.length_cons, List.length_nil, Nat.zero_add, Nat.add_zero, List.drop, List.take, flat, elemsP, nilApp, appendA, Bool.false_eq_true, beq_self_eq_true, bne_self_eq_false, Bool.not_eq_true, decide_true, decide_false, reduceCtorEq, Nat.reduceAdd, Nat.reduceMul, Nat.reduceLeDiff, Nat.reduceEqDiff, Nat.le_refl, Int.reduceLT, Int.reduceLE, Int.reduceBEq, Int.reduceEq, Nat.reduceBEq, Option.bind_none, Option.map_none, b_tt, b_tf, b_ft, b_ff, pvInt, Int.cast_ofNat_Int, repZ, Bool.false_and, Bool.and_false, List.headD_cons, List.headD_nil, Nat.reduceLT, Nat.lt_add_one, Nat.reduceSub, Nat.sub_zero, Int.reduceBNe, List.isEmpty_cons, List.isEmpty_nil, Int.reduceGT, Int.reduceGE, Int.reduceAdd, Int.reduceSub, Int.reduceMul, Int.reduceNeg, AV.free, Bool.or_false, Bool.false_or, Nat.mul_one, roundL, roundA, b_leadtrailref13_Step_l0, e1, ls, eq_true hq, hV, iaddrA', envY]
include hb hw
theorem refstep_round (i : Nat) (hi : i < e.length) :
    ((e[i].lo ≤ b ∧ b ≤ e[i].hi) → retIs2 6 (.pv (i64 e[i].to)) 7 (.pv (.bool true)) (roundL call [1, 2, 3, 8] b_leadtrailref13_Step_l0 0 ⟨envY (.lit 1 es) st b i, []⟩)) ∧
    (¬ (e[i].lo ≤ b ∧ b ≤ e[i].hi) → roundL call [1, 2, 3, 8] b_leadtrailref13_Step_l0 0 ⟨envY (.lit 1 es) st b i, []⟩ = some (.norm, ⟨envY (.lit 1 es) st b (i + 1 : Nat), []⟩)) := by
  have hVl := hVL.lit (i := i) (by simpa using hi)
  subst hVl
  have e1 : decide ((i : Int) < (e.length : Int)) = true := dec_t (by omega)
  have hq : idxOk st es.length := by unfold idxOk; omega
  have hlen : (e.map encE).length = e.length := by simp
  have hq2 : idxOk (i : Int) e.length := by unfold idxOk; omega
  have t1 : ((i : Int)).toNat = i := by simp
  have t2 := stepWrap hi hw
  have t3 : IntKind.i64.wrap b = b := wrap_int (by omega)
  have hg : (e.map encE)[i]? = some (.agg [i64 e[i].lo, i64 e[i].hi, i64 e[i].to]) := encE_get hi
  generalize e.map encE = vs at *
  generalize e[i] = ed at *
  constructor
  · intro h
    have d1 : decide (b ≥ ed.lo) = true := dec_t h.1
    have d2 := dec_t h.2
    simp (implicitDefEqProofs := false) only [pureF, runF_go, callL_succ, C_skip, C_region, C_seq, C_cond, C_block, C_scope, C_exit, C_ret, C_ghost, ops_cons, ops_nil, oper_go, oper_pr, oper_if, guard_t, guard_f, do_go, do_pr, skip_do, skip_no, onH_go, evalOp, List.map, List.length, if_true, ↓reduceIte, argEnv, AO.ev, Tr.get_set, wantedA, putR_do, putR_no, nextA_some, seqA_norm, seqA_ret, seqA_exit, normA_some, condA_t, condA_f, startA_go, blockA_norm, blockA_ret, blockA_exit, AV.cells, PV.cells, outR_ret, outR_norm, resA, one1, mapO, toPV, Option.bind_some, Option.map_some, AV.one, List.all, Bool.and_self, true_and, and_self, and_true, flatV, Bool.or_true, Bool.true_or, unA, asBool, asInt, Bool.not_true, Bool.not_false, fillA, mkAgg, mkTup, allPV, storeA, loadA, partA, partP, place, lenA_nils, lenA_lit, lenA_uq, lenA_str, lenA_nilm, lenA_own, lenA_mp, setRow, binA, intBin, eqA, fresh, chunk, List.append, List.nil_append, List.cons_append, List.getElem?_cons_zero, List.getElem?_cons_succ, List.getElem?_nil, List.set_cons_zero, List.set_cons_succ, List.length_cons, List.length_nil, Nat.zero_add, Nat.add_zero, List.drop, List.take, flat, elemsP, nilApp, appendA, Bool.false_eq_true, beq_self_eq_true, bne_self_eq_false, Bool.not_eq_true, decide_true, decide_false, reduceCtorEq, Nat.reduceAdd, Nat.reduceMul, Nat.reduceLeDiff, Nat.reduceEqDiff, Nat.le_refl, Int.reduceLT, Int.reduceLE, Int.reduceBEq, Int.reduceEq, Nat.reduceBEq, Option.bind_none, Option.map_none, b_tt, b_tf, b_ft, b_ff, pvInt, Int.cast_ofNat_Int, repZ, Bool.false_and, Bool.and_false, List.headD_cons, List.headD_nil, Nat.reduceLT, Nat.lt_add_one, Nat.reduceSub, Nat.sub_zero, Int.reduceBNe, List.isEmpty_cons, List.isEmpty_nil, Int.reduceGT, Int.reduceGE, Int.reduceAdd, Int.reduceSub, Int.reduceMul, Int.reduceNeg, AV.free, Bool.or_false, Bool.false_or, Nat.mul_one, roundL, roundA, b_leadtrailref13_Step_l0, e1, hlen, eq_true hq, eq_true hq2, t1, t2, t3, hV, hg, d1, d2, iaddrA', envY, retIs2_ret]
  · intro h
    by_cases h1 : b ≥ ed.lo
    · have d1 := dec_t h1
      have d2 : decide (b ≤ ed.hi) = false := dec_f fun h2 => h ⟨h1, h2⟩
      simp (implicitDefEqProofs := false) only [pureF, runF_go, callL_succ, C_skip, C_region, C_seq, C_cond, C_block, C_scope, C_exit, C_ret, C_ghost, ops_cons, ops_nil, oper_go, oper_pr, oper_if, guard_t, guard_f, do_go, do_pr, skip_do, skip_no, onH_go, evalOp, List.map, List.length, if_true, ↓reduceIte, argEnv, AO.ev, Tr.get_set, wantedA, putR_do, putR_no, nextA_some, seqA_norm, seqA_ret, seqA_exit, normA_some, condA_t, condA_f, startA_go, blockA_norm, blockA_ret, blockA_exit, AV.cells, PV.cells, outR_ret, outR_norm, resA, one1, mapO, toPV, Option.bind_some, Option.map_some, AV.one, List.all, Bool.and_self, true_and, and_self, and_true, flatV, Bool.or_true, Bool.true_or, unA, asBool, asInt, Bool.not_true, Bool.not_false, fillA, mkAgg, mkTup, allPV, storeA, loadA, partA, partP, place, lenA_nils, lenA_lit, lenA_uq, lenA_str, lenA_nilm, lenA_own, lenA_mp, setRow, binA, intBin, eqA, fresh, chunk, List.append, List.nil_append, List.cons_append, List.getElem?_cons_zero, List.getElem?_cons_succ, List.getElem?_nil, List.set_cons_zero, List.set_cons_succ, List.length_cons, List.length_nil, Nat.zero_add, Nat.add_zero, List.drop, List.take, flat, elemsP, nilApp, appendA, Bool.false_eq_true, beq_self_eq_true, bne_self_eq_false, Bool.not_eq_true, decide_true, decide_false, reduceCtorEq, Nat.reduceAdd, Nat.reduceMul, Nat.reduceLeDiff, Nat.reduceEqDiff, Nat.le_refl, Int.reduceLT, Int.reduceLE, Int.reduceBEq, Int.reduceEq, Nat.reduceBEq, Option.bind_none, Option.map_none, b_tt, b_tf, b_ft, b_ff, pvInt, Int.cast_ofNat_Int, repZ, Bool.false_and, Bool.and_false, List.headD_cons, List.headD_nil, Nat.reduceLT, Nat.lt_add_one, Nat.reduceSub, Nat.sub_zero, Int.reduceBNe, List.isEmpty_cons, List.isEmpty_nil, Int.reduceGT, Int.reduceGE, Int.reduceAdd, Int.reduceSub, Int.reduceMul, Int.reduceNeg, AV.free, Bool.or_false, Bool.false_or, Nat.mul_one, roundL, roundA, b_leadtrailref13_Step_l0, e1, hlen, eq_true hq, eq_true hq2, t1, t2, t3, hV, hg, d1, d2, iaddrA', envY, clean, cutEnv, cutO_box, cut_pv, AV.cut, deep_eq]
    · have d1 := dec_f h1
      simp (implicitDefEqProofs := false) only [pureF, runF_go, callL_succ, C_skip, C_region, C_seq, C_cond, C_block, C_scope, C_exit, C_ret, C_ghost, ops_cons, ops_nil, oper_go, oper_pr, oper_if, guard_t, guard_f, do_go, do_pr, skip_do, skip_no, onH_go, evalOp, List.map, List.length, if_true, ↓reduceIte, argEnv, AO.ev, Tr.get_set, wantedA, putR_do, putR_no, nextA_some, seqA_norm, seqA_ret, seqA_exit, normA_some, condA_t, condA_f, startA_go, blockA_norm, blockA_ret, blockA_exit, AV.cells, PV.cells, outR_ret, outR_norm, resA, one1, mapO, toPV, Option.bind_some, Option.map_some, AV.one, List.all, Bool.and_self, true_and, and_self, and_true, flatV, Bool.or_true, Bool.true_or, unA, asBool, asInt, Bool.not_true, Bool.not_false, fillA, mkAgg, mkTup, allPV, storeA, loadA, partA, partP, place, lenA_nils, lenA_lit, lenA_uq, lenA_str, lenA_nilm, lenA_own, lenA_mp, setRow, binA, intBin, eqA, fresh, chunk, List.append, List.nil_append, List.cons_append, List.getElem?_cons_zero, List.getElem?_cons_succ, List.getElem?_nil, List.set_cons_zero, List.set_cons_succ, List.length_cons, List.length_nil, Nat.zero_add, Nat.add_zero, List.drop, List.take, flat, elemsP, nilApp, appendA, Bool.false_eq_true, beq_self_eq_true, bne_self_eq_false, Bool.not_eq_true, decide_true, decide_false, reduceCtorEq, Nat.reduceAdd, Nat.reduceMul, Nat.reduceLeDiff, Nat.reduceEqDiff, Nat.le_refl, Int.reduceLT, Int.reduceLE, Int.reduceBEq, Int.reduceEq, Nat.reduceBEq, Option.bind_none, Option.map_none, b_tt, b_tf, b_ft, b_ff, pvInt, Int.cast_ofNat_Int, repZ, Bool.false_and, Bool.and_false, List.headD_cons, List.headD_nil, Nat.reduceLT, Nat.lt_add_one, Nat.reduceSub, Nat.sub_zero, Int.reduceBNe, List.isEmpty_cons, List.isEmpty_nil, Int.reduceGT, Int.reduceGE, Int.reduceAdd, Int.reduceSub, Int.reduceMul, Int.reduceNeg, AV.free, Bool.or_false, Bool.false_or, Nat.mul_one, roundL, roundA, b_leadtrailref13_Step_l0, e1, hlen, eq_true hq, eq_true hq2, t1, t2, t3, hV, hg, d1, iaddrA', envY, clean, cutEnv, cutO_box, cut_pv, AV.cut, deep_eq]

theorem refstep_loop : ∃ ex t, loopA (roundA (evalC call b_leadtrailref13_Step_l0) (clean 0 [1, 2, 3, 8])) rounds ⟨envY (.lit 1 es) st b 0, []⟩ = some (ex, t) ∧ ex.stop = true ∧
    ((ex = .exit 0 ∧ stepL b e = none) ∨ (ex = .ret ∧ ∃ r, stepL b e = some r ∧ t.env.get 6 = .pv (i64 r) ∧ t.env.get 7 = .pv (.bool true))) := by
  have key := loop_acc (g := roundL call [1, 2, 3, 8] b_leadtrailref13_Step_l0 0)
    (fun i (_ : Unit) => ⟨envY (.lit 1 es) st b i, []⟩) (fun i _ => stepL b (e.drop i)) (fun _ _ => True)
    (fun r ex t => (ex = .exit 0 ∧ r = none) ∨ (ex = .ret ∧ ∃ r', r = some r' ∧ t.env.get 6 = .pv (i64 r') ∧ t.env.get 7 = .pv (.bool true)))
    e.length (by unfold rounds; unfold maxLen at hw; omega) () trivial ?_ ?_
  · exact key
  · rintro i hi _ _
    have hr := refstep_round call es st b hb e V h0 hV hVL hw i hi
    have hd : e.drop i = e[i] :: e.drop (i + 1) := List.drop_eq_getElem_cons hi
    simp only [hd, stepL]
    by_cases h : e[i].lo ≤ b ∧ b ≤ e[i].hi
    · obtain ⟨t, k1, k2, k3⟩ := retIs2_spec (hr.1 h)
      rw [if_pos h]
      exact .inr ⟨.ret, t, k1, rfl, .inr ⟨rfl, _, rfl, k2, k3⟩⟩
    · rw [if_neg h]
      exact .inl ⟨(), hr.2 h, rfl, trivial⟩
  · rintro _ _
    rw [List.drop_length]
    exact ⟨.exit 0, _, refstep_end call es st b e V h0 hV hVL, rfl, .inl ⟨rfl, rfl⟩⟩
end

section
variable (A : PV) (l : List (List Edg)) (hA : HeldSt A l) (st b : Int) (hb : 0 ≤ b ∧ b ≤ 255)
include hA hb
theorem refstep_run : F_leadtrailref13_Step [.agg [A], i64 st, u8 b] = some (.tup [i64 (stepS l st b).1, .bool (stepS l st b).2]) := by
  have hla := hA.lenA
  by_cases h0 : st < 0
  · have e : stepS l st b = (0, false) := by simp [stepS, h0]
    have d := dec_t h0
    rw [e]
    rcases hA.form with rfl | ⟨es, rfl⟩ <;>
    simp (implicitDefEqProofs := false) only [F_leadtrailref13_Step, pureF, runF_go, callL_succ, C_skip, C_region, C_seq, C_cond, C_block, C_scope, C_exit, C_ret, C_ghost, ops_cons, ops_nil, oper_go, oper_pr, oper_if, guard_t, guard_f, do_go, do_pr, skip_do, skip_no, onH_go, evalOp, List.map, List.length, if_true, ↓reduceIte, argEnv, AO.ev, Tr.get_set, wantedA, putR_do, putR_no, nextA_some, seqA_norm, seqA_ret, seqA_exit, normA_some, condA_t, condA_f, startA_go, blockA_norm, blockA_ret, blockA_exit, AV.cells, PV.cells, outR_ret, outR_norm, resA, one1, mapO, toPV, Option.bind_some, Option.map_some, AV.one, List.all, Bool.and_self, true_and, and_self, and_true, flatV, Bool.or_true, Bool.true_or, unA, asBool, asInt, Bool.not_true, Bool.not_false, fillA, mkAgg, mkTup, allPV, storeA, loadA, partA, partP, place, lenA_nils, lenA_lit, lenA_uq, lenA_str, lenA_nilm, lenA_own, lenA_mp, setRow, binA, intBin, eqA, fresh, chunk, List.append, List.nil_append, List.cons_append, List.getElem?_cons_zero, List.getElem?_cons_succ, List.getElem?_nil, List.set_cons_zero, List.set_cons_succ, List.length_cons, List.length_nil, Nat.zero_add, Nat.add_zero, List.drop, List.take, flat, elemsP, nilApp, appendA, Bool.false_eq_true, beq_self_eq_true, bne_self_eq_false, Bool.not_eq_true, decide_true, decide_false, reduceCtorEq, Nat.reduceAdd, Nat.reduceMul, Nat.reduceLeDiff, Nat.reduceEqDiff, Nat.le_refl, Int.reduceLT, Int.reduceLE, Int.reduceBEq, Int.reduceEq, Nat.reduceBEq, Option.bind_none, Option.map_none, b_tt, b_tf, b_ft, b_ff, pvInt, Int.cast_ofNat_Int, repZ, Bool.false_and, Bool.and_false, List.headD_cons, List.headD_nil, Nat.reduceLT, Nat.lt_add_one, Nat.reduceSub, Nat.sub_zero, Int.reduceBNe, List.isEmpty_cons, List.isEmpty_nil, Int.reduceGT, Int.reduceGE, Int.reduceAdd, Int.reduceSub, Int.reduceMul, Int.reduceNeg, AV.free, Bool.or_false, Bool.false_or, Nat.mul_one, b_leadtrailref13_Step, d, toPV_pv, deep_eq]
  have d0 := dec_f h0
  by_cases h1 : st.toNat < l.length
  · obtain ⟨es, V, rfl, hel, hV, hVL⟩ := hA.get h1
    have d1 : decide (st ≥ (l.length : Int)) = false := dec_f (by omega)
    have hlen := hA.lens l[st.toNat] (List.getElem_mem h1)
    have hget : l[st.toNat]? = some l[st.toNat] := by simp [h1]
    simp only [stepS, if_neg h0, hget]
    generalize l[st.toNat] = e at *
    obtain ⟨ex, ⟨E, H⟩, hl, _, hq⟩ := refstep_loop (callL (fun _ => none) 8) es st b hb e V (by omega) hV hVL (by unfold maxLen; omega)
    simp only [envY] at hl
    rcases hq with ⟨rfl, k2⟩ | ⟨rfl, r, k2, k3, k4⟩
    · simp only [k2]
      simp (implicitDefEqProofs := false) only [F_leadtrailref13_Step, pureF, runF_go, callL_succ, C_skip, C_region, C_seq, C_cond, C_block, C_scope, C_exit, C_ret, C_ghost, ops_cons, ops_nil, oper_go, oper_pr, oper_if, guard_t, guard_f, do_go, do_pr, skip_do, skip_no, onH_go, evalOp, List.map, List.length, if_true, ↓reduceIte, argEnv, AO.ev, Tr.get_set, wantedA, putR_do, putR_no, nextA_some, seqA_norm, seqA_ret, seqA_exit, normA_some, condA_t, condA_f, startA_go, blockA_norm, blockA_ret, blockA_exit, AV.cells, PV.cells, outR_ret, outR_norm, resA, one1, mapO, toPV, Option.bind_some, Option.map_some, AV.one, List.all, Bool.and_self, true_and, and_self, and_true, flatV, Bool.or_true, Bool.true_or, unA, asBool, asInt, Bool.not_true, Bool.not_false, fillA, mkAgg, mkTup, allPV, storeA, loadA, partA, partP, place, lenA_nils, lenA_lit, lenA_uq, lenA_str, lenA_nilm, lenA_own, lenA_mp, setRow, binA, intBin, eqA, fresh, chunk, List.append, List.nil_append, List.cons_append, List.getElem?_cons_zero, List.getElem?_cons_succ, List.getElem?_nil, List.set_cons_zero, List.set_cons_succ, List.length_cons, List.length_nil, Nat.zero_add, Nat.add_zero, List.drop, List.take, flat, elemsP, nilApp, appendA, Bool.false_eq_true, beq_self_eq_true, bne_self_eq_false, Bool.not_eq_true, decide_true, decide_false, reduceCtorEq, Nat.reduceAdd, Nat.reduceMul, Nat.reduceLeDiff, Nat.reduceEqDiff, Nat.le_refl, Int.reduceLT, Int.reduceLE, Int.reduceBEq, Int.reduceEq, Nat.reduceBEq, Option.bind_none, Option.map_none, b_tt, b_tf, b_ft, b_ff, pvInt, Int.cast_ofNat_Int, repZ, Bool.false_and, Bool.and_false, List.headD_cons, List.headD_nil, Nat.reduceLT, Nat.lt_add_one, Nat.reduceSub, Nat.sub_zero, Int.reduceBNe, List.isEmpty_cons, List.isEmpty_nil, Int.reduceGT, Int.reduceGE, Int.reduceAdd, Int.reduceSub, Int.reduceMul, Int.reduceNeg, AV.free, Bool.or_false, Bool.false_or, Nat.mul_one, b_leadtrailref13_Step, d0, d1, hel, C_loop, clean, cutEnv, cutO_box, cut_pv, AV.cut, deep_eq]
      rw [hl]
      simp (implicitDefEqProofs := false) only [pureF, runF_go, callL_succ, C_skip, C_region, C_seq, C_cond, C_block, C_scope, C_exit, C_ret, C_ghost, ops_cons, ops_nil, oper_go, oper_pr, oper_if, guard_t, guard_f, do_go, do_pr, skip_do, skip_no, onH_go, evalOp, List.map, List.length, if_true, ↓reduceIte, argEnv, AO.ev, Tr.get_set, wantedA, putR_do, putR_no, nextA_some, seqA_norm, seqA_ret, seqA_exit, normA_some, condA_t, condA_f, startA_go, blockA_norm, blockA_ret, blockA_exit, AV.cells, PV.cells, outR_ret, outR_norm, resA, one1, mapO, toPV, Option.bind_some, Option.map_some, AV.one, List.all, Bool.and_self, true_and, and_self, and_true, flatV, Bool.or_true, Bool.true_or, unA, asBool, asInt, Bool.not_true, Bool.not_false, fillA, mkAgg, mkTup, allPV, storeA, loadA, partA, partP, place, lenA_nils, lenA_lit, lenA_uq, lenA_str, lenA_nilm, lenA_own, lenA_mp, setRow, binA, intBin, eqA, fresh, chunk, List.append, List.nil_append, List.cons_append, List.getElem?_cons_zero, List.getElem?_cons_succ, List.getElem?_nil, List.set_cons_zero, List.set_cons_succ, List.length_cons, List.length_nil, Nat.zero_add, Nat.add_zero, List.drop, List.take, flat, elemsP, nilApp, appendA, Bool.false_eq_true, beq_self_eq_true, bne_self_eq_false, Bool.not_eq_true, decide_true, decide_false, reduceCtorEq, Nat.reduceAdd, Nat.reduceMul, Nat.reduceLeDiff, Nat.reduceEqDiff, Nat.le_refl, Int.reduceLT, Int.reduceLE, Int.reduceBEq, Int.reduceEq, Nat.reduceBEq, Option.bind_none, Option.map_none, b_tt, b_tf, b_ft, b_ff, pvInt, Int.cast_ofNat_Int, repZ, Bool.false_and, Bool.and_false, List.headD_cons, List.headD_nil, Nat.reduceLT, Nat.lt_add_one, Nat.reduceSub, Nat.sub_zero, Int.reduceBNe, List.isEmpty_cons, List.isEmpty_nil, Int.reduceGT, Int.reduceGE, Int.reduceAdd, Int.reduceSub, Int.reduceMul, Int.reduceNeg, AV.free, Bool.or_false, Bool.false_or, Nat.mul_one]
    · simp only [k2]
      simp only at k3 k4
      simp (implicitDefEqProofs := false) only [F_leadtrailref13_Step, pureF, runF_go, callL_succ, C_skip, C_region, C_seq, C_cond, C_block, C_scope, C_exit, C_ret, C_ghost, ops_cons, ops_nil, oper_go, oper_pr, oper_if, guard_t, guard_f, do_go, do_pr, skip_do, skip_no, onH_go, evalOp, List.map, List.length, if_true, ↓reduceIte, argEnv, AO.ev, Tr.get_set, wantedA, putR_do, putR_no, nextA_some, seqA_norm, seqA_ret, seqA_exit, normA_some, condA_t, condA_f, startA_go, blockA_norm, blockA_ret, blockA_exit, AV.cells, PV.cells, outR_ret, outR_norm, resA, one1, mapO, toPV, Option.bind_some, Option.map_some, AV.one, List.all, Bool.and_self, true_and, and_self, and_true, flatV, Bool.or_true, Bool.true_or, unA, asBool, asInt, Bool.not_true, Bool.not_false, fillA, mkAgg, mkTup, allPV, storeA, loadA, partA, partP, place, lenA_nils, lenA_lit, lenA_uq, lenA_str, lenA_nilm, lenA_own, lenA_mp, setRow, binA, intBin, eqA, fresh, chunk, List.append, List.nil_append, List.cons_append, List.getElem?_cons_zero, List.getElem?_cons_succ, List.getElem?_nil, List.set_cons_zero, List.set_cons_succ, List.length_cons, List.length_nil, Nat.zero_add, Nat.add_zero, List.drop, List.take, flat, elemsP, nilApp, appendA, Bool.false_eq_true, beq_self_eq_true, bne_self_eq_false, Bool.not_eq_true, decide_true, decide_false, reduceCtorEq, Nat.reduceAdd, Nat.reduceMul, Nat.reduceLeDiff, Nat.reduceEqDiff, Nat.le_refl, Int.reduceLT, Int.reduceLE, Int.reduceBEq, Int.reduceEq, Nat.reduceBEq, Option.bind_none, Option.map_none, b_tt, b_tf, b_ft, b_ff, pvInt, Int.cast_ofNat_Int, repZ, Bool.false_and, Bool.and_false, List.headD_cons, List.headD_nil, Nat.reduceLT, Nat.lt_add_one, Nat.reduceSub, Nat.sub_zero, Int.reduceBNe, List.isEmpty_cons, List.isEmpty_nil, Int.reduceGT, Int.reduceGE, Int.reduceAdd, Int.reduceSub, Int.reduceMul, Int.reduceNeg, AV.free, Bool.or_false, Bool.false_or, Nat.mul_one, b_leadtrailref13_Step, d0, d1, hel, C_loop, clean, cutEnv, cutO_box, cut_pv, AV.cut, deep_eq]
      rw [hl]
      simp (implicitDefEqProofs := false) only [pureF, runF_go, callL_succ, C_skip, C_region, C_seq, C_cond, C_block, C_scope, C_exit, C_ret, C_ghost, ops_cons, ops_nil, oper_go, oper_pr, oper_if, guard_t, guard_f, do_go, do_pr, skip_do, skip_no, onH_go, evalOp, List.map, List.length, if_true, ↓reduceIte, argEnv, AO.ev, Tr.get_set, wantedA, putR_do, putR_no, nextA_some, seqA_norm, seqA_ret, seqA_exit, normA_some, condA_t, condA_f, startA_go, blockA_norm, blockA_ret, blockA_exit, AV.cells, PV.cells, outR_ret, outR_norm, resA, one1, mapO, toPV, Option.bind_some, Option.map_some, AV.one, List.all, Bool.and_self, true_and, and_self, and_true, flatV, Bool.or_true, Bool.true_or, unA, asBool, asInt, Bool.not_true, Bool.not_false, fillA, mkAgg, mkTup, allPV, storeA, loadA, partA, partP, place, lenA_nils, lenA_lit, lenA_uq, lenA_str, lenA_nilm, lenA_own, lenA_mp, setRow, binA, intBin, eqA, fresh, chunk, List.append, List.nil_append, List.cons_append, List.getElem?_cons_zero, List.getElem?_cons_succ, List.getElem?_nil, List.set_cons_zero, List.set_cons_succ, List.length_cons, List.length_nil, Nat.zero_add, Nat.add_zero, List.drop, List.take, flat, elemsP, nilApp, appendA, Bool.false_eq_true, beq_self_eq_true, bne_self_eq_false, Bool.not_eq_true, decide_true, decide_false, reduceCtorEq, Nat.reduceAdd, Nat.reduceMul, Nat.reduceLeDiff, Nat.reduceEqDiff, Nat.le_refl, Int.reduceLT, Int.reduceLE, Int.reduceBEq, Int.reduceEq, Nat.reduceBEq, Option.bind_none, Option.map_none, b_tt, b_tf, b_ft, b_ff, pvInt, Int.cast_ofNat_Int, repZ, Bool.false_and, Bool.and_false, List.headD_cons, List.headD_nil, Nat.reduceLT, Nat.lt_add_one, Nat.reduceSub, Nat.sub_zero, Int.reduceBNe, List.isEmpty_cons, List.isEmpty_nil, Int.reduceGT, Int.reduceGE, Int.reduceAdd, Int.reduceSub, Int.reduceMul, Int.reduceNeg, AV.free, Bool.or_false, Bool.false_or, Nat.mul_one, k3, k4]
  · have hn : l[st.toNat]? = none := by simp; omega
    have e : stepS l st b = (0, false) := by simp [stepS, hn]
    have d1 : decide (st ≥ (l.length : Int)) = true := dec_t (by omega)
    rw [e]
    rcases hA.form with rfl | ⟨es, rfl⟩
    · have d1 : decide (st ≥ 0) = true := dec_t (by omega)
      simp (implicitDefEqProofs := false) only [F_leadtrailref13_Step, pureF, runF_go, callL_succ, C_skip, C_region, C_seq, C_cond, C_block, C_scope, C_exit, C_ret, C_ghost, ops_cons, ops_nil, oper_go, oper_pr, oper_if, guard_t, guard_f, do_go, do_pr, skip_do, skip_no, onH_go, evalOp, List.map, List.length, if_true, ↓reduceIte, argEnv, AO.ev, Tr.get_set, wantedA, putR_do, putR_no, nextA_some, seqA_norm, seqA_ret, seqA_exit, normA_some, condA_t, condA_f, startA_go, blockA_norm, blockA_ret, blockA_exit, AV.cells, PV.cells, outR_ret, outR_norm, resA, one1, mapO, toPV, Option.bind_some, Option.map_some, AV.one, List.all, Bool.and_self, true_and, and_self, and_true, flatV, Bool.or_true, Bool.true_or, unA, asBool, asInt, Bool.not_true, Bool.not_false, fillA, mkAgg, mkTup, allPV, storeA, loadA, partA, partP, place, lenA_nils, lenA_lit, lenA_uq, lenA_str, lenA_nilm, lenA_own, lenA_mp, setRow, binA, intBin, eqA, fresh, chunk, List.append, List.nil_append, List.cons_append, List.getElem?_cons_zero, List.getElem?_cons_succ, List.getElem?_nil, List.set_cons_zero, List.set_cons_succ, List.length_cons, List.length_nil, Nat.zero_add, Nat.add_zero, List.drop, List.take, flat, elemsP, nilApp, appendA, Bool.false_eq_true, beq_self_eq_true, bne_self_eq_false, Bool.not_eq_true, decide_true, decide_false, reduceCtorEq, Nat.reduceAdd, Nat.reduceMul, Nat.reduceLeDiff, Nat.reduceEqDiff, Nat.le_refl, Int.reduceLT, Int.reduceLE, Int.reduceBEq, Int.reduceEq, Nat.reduceBEq, Option.bind_none, Option.map_none, b_tt, b_tf, b_ft, b_ff, pvInt, Int.cast_ofNat_Int, repZ, Bool.false_and, Bool.and_false, List.headD_cons, List.headD_nil, Nat.reduceLT, Nat.lt_add_one, Nat.reduceSub, Nat.sub_zero, Int.reduceBNe, List.isEmpty_cons, List.isEmpty_nil, Int.reduceGT, Int.reduceGE, Int.reduceAdd, Int.reduceSub, Int.reduceMul, Int.reduceNeg, AV.free, Bool.or_false, Bool.false_or, Nat.mul_one, b_leadtrailref13_Step, d0, d1, toPV_pv, deep_eq]
    · have hel : es.length = l.length := by have := hla []; simpa [lenA] using this
      simp (implicitDefEqProofs := false) only [F_leadtrailref13_Step, pureF, runF_go, callL_succ, C_skip, C_region, C_seq, C_cond, C_block, C_scope, C_exit, C_ret, C_ghost, ops_cons, ops_nil, oper_go, oper_pr, oper_if, guard_t, guard_f, do_go, do_pr, skip_do, skip_no, onH_go, evalOp, List.map, List.length, if_true, ↓reduceIte, argEnv, AO.ev, Tr.get_set, wantedA, putR_do, putR_no, nextA_some, seqA_norm, seqA_ret, seqA_exit, normA_some, condA_t, condA_f, startA_go, blockA_norm, blockA_ret, blockA_exit, AV.cells, PV.cells, outR_ret, outR_norm, resA, one1, mapO, toPV, Option.bind_some, Option.map_some, AV.one, List.all, Bool.and_self, true_and, and_self, and_true, flatV, Bool.or_true, Bool.true_or, unA, asBool, asInt, Bool.not_true, Bool.not_false, fillA, mkAgg, mkTup, allPV, storeA, loadA, partA, partP, place, lenA_nils, lenA_lit, lenA_uq, lenA_str, lenA_nilm, lenA_own, lenA_mp, setRow, binA, intBin, eqA, fresh, chunk, List.append, List.nil_append, List.cons_append, List.getElem?_cons_zero, List.getElem?_cons_succ, List.getElem?_nil, List.set_cons_zero, List.set_cons_succ, List.length_cons, List.length_nil, Nat.zero_add, Nat.add_zero, List.drop, List.take, flat, elemsP, nilApp, appendA, Bool.false_eq_true, beq_self_eq_true, bne_self_eq_false, Bool.not_eq_true, decide_true, decide_false, reduceCtorEq, Nat.reduceAdd, Nat.reduceMul, Nat.reduceLeDiff, Nat.reduceEqDiff, Nat.le_refl, Int.reduceLT, Int.reduceLE, Int.reduceBEq, Int.reduceEq, Nat.reduceBEq, Option.bind_none, Option.map_none, b_tt, b_tf, b_ft, b_ff, pvInt, Int.cast_ofNat_Int, repZ, Bool.false_and, Bool.and_false, List.headD_cons, List.headD_nil, Nat.reduceLT, Nat.lt_add_one, Nat.reduceSub, Nat.sub_zero, Int.reduceBNe, List.isEmpty_cons, List.isEmpty_nil, Int.reduceGT, Int.reduceGE, Int.reduceAdd, Int.reduceSub, Int.reduceMul, Int.reduceNeg, AV.free, Bool.or_false, Bool.false_or, Nat.mul_one, b_leadtrailref13_Step, d0, d1, hel, toPV_pv, deep_eq]
end
end Go.AM.B1

/- auto.Match and the document's Match: how bytes begin. -/
set_option linter.unusedVariables false
set_option linter.unusedSimpArgs false
namespace Go.AM.B1
open Go.AM

def matchS (l : List (List Edg)) : Nat → Int → List Int → Int × Int
  | i, _, [] => (i, 2)
  | i, st, b :: r => if (stepS l st b).2 = false then ((i : Int), 3) else if (stepS l st b).1 = -1 then (((i + 1 : Nat) : Int), 1) else matchS l (i + 1) (stepS l st b).1 r

theorem u8_get {bs : List Int} {i : Nat} (hi : i < bs.length) : (bs.map u8)[i]? = some (u8 bs[i]) := by simp [hi]

abbrev envM1 (A B : PV) (st len i : Int) : Tr := (((((Tr.lf.set 13 (.pv (i64 i))).set 12 (.pv (i64 len))).set 11 (.pv B)).set 6 (.pv (i64 st))).set 2 (.pv (.rp [A] 0))).set 1 (.pv B)
abbrev envM2 (A B : PV) (st i : Int) : Tr := (((Tr.lf.set 7 (.pv (i64 i))).set 6 (.pv (i64 st))).set 2 (.pv (.rp [A] 0))).set 1 (.pv B)

section
variable (call : CallF) (A B : PV) (l : List (List Edg)) (hA : HeldSt A l) (bs : List Int) (hB : IsL 1 B (bs.map u8)) (hb : ∀ b ∈ bs, 0 ≤ b ∧ b ≤ 255) (hw : bs.length ≤ maxLen)
include hA hB hb hw
theorem match_round (st : Int) (i : Nat) (hi : i < bs.length) :
    ((stepS l st bs[i]).2 = false → retIs2 4 (.pv (i64 i)) 5 (.pv (i64 3)) (roundL call [1, 2, 6, 11, 12, 13] b_auto_Match_l0 0 ⟨envM1 A B st bs.length i, []⟩)) ∧
    ((stepS l st bs[i]).2 = true → (stepS l st bs[i]).1 = -1 → retIs2 4 (.pv (i64 (i + 1 : Nat))) 5 (.pv (i64 1)) (roundL call [1, 2, 6, 11, 12, 13] b_auto_Match_l0 0 ⟨envM1 A B st bs.length i, []⟩)) ∧
    ((stepS l st bs[i]).2 = true → (stepS l st bs[i]).1 ≠ -1 → roundL call [1, 2, 6, 11, 12, 13] b_auto_Match_l0 0 ⟨envM1 A B st bs.length i, []⟩ = some (.norm, ⟨envM1 A B (stepS l st bs[i]).1 bs.length (i + 1 : Nat), []⟩)) := by
  have hBl := hB.lit (i := i) (by simpa using hi)
  subst hBl
  have e1 : decide ((i : Int) < (bs.length : Int)) = true := dec_t (by omega)
  have hq : idxOk (i : Int) (bs.map u8).length := by unfold idxOk; simp; omega
  have t1 : ((i : Int)).toNat = i := by simp
  have t2 := stepWrap hi hw
  have hg := u8_get hi
  have hs := step_run A l hA st bs[i] (hb _ (List.getElem_mem hi))
  generalize stepS l st bs[i] = p at *
  generalize bs[i] = b at *
  obtain ⟨to, ok⟩ := p
  generalize bs.map u8 = es at *
  refine ⟨?_, ?_, ?_⟩
  · rintro rfl
    rcases hA.form with rfl | ⟨av, rfl⟩ <;>
    simp (implicitDefEqProofs := false) only [pureF, runF_go, callL_succ, C_skip, C_region, C_seq, C_cond, C_block, C_scope, C_exit, C_ret, C_ghost, ops_cons, ops_nil, oper_go, oper_pr, oper_if, guard_t, guard_f, do_go, do_pr, skip_do, skip_no, onH_go, evalOp, List.map, List.length, if_true, ↓reduceIte, argEnv, AO.ev, Tr.get_set, wantedA, putR_do, putR_no, nextA_some, seqA_norm, seqA_ret, seqA_exit, normA_some, condA_t, condA_f, startA_go, blockA_norm, blockA_ret, blockA_exit, AV.cells, PV.cells, outR_ret, outR_norm, resA, one1, mapO, toPV, Option.bind_some, Option.map_some, AV.one, List.all, Bool.and_self, true_and, and_self, and_true, flatV, Bool.or_true, Bool.true_or, unA, asBool, asInt, Bool.not_true, Bool.not_false, fillA, mkAgg, mkTup, allPV, storeA, loadA, partA, partP, place, lenA_nils, lenA_lit, lenA_uq, lenA_str, lenA_nilm, lenA_own, lenA_mp, setRow, binA, intBin, eqA, fresh, chunk, List.append, List.nil_append, List.cons_append, List.getElem?_cons_zero, List.getElem?_cons_succ, List.getElem?_nil, List.set_cons_zero, List.set_cons_succ, List.length_cons, List.length_nil, Nat.zero_add, Nat.add_zero, List.drop, List.take, flat, elemsP, nilApp, appendA, Bool.false_eq_true, beq_self_eq_true, bne_self_eq_false, Bool.not_eq_true, decide_true, decide_false, reduceCtorEq, Nat.reduceAdd, Nat.reduceMul, Nat.reduceLeDiff, Nat.reduceEqDiff, Nat.le_refl, Int.reduceLT, Int.reduceLE, Int.reduceBEq, Int.reduceEq, Nat.reduceBEq, Option.bind_none, Option.map_none, b_tt, b_tf, b_ft, b_ff, pvInt, Int.cast_ofNat_Int, repZ, Bool.false_and, Bool.and_false, List.headD_cons, List.headD_nil, Nat.reduceLT, Nat.lt_add_one, Nat.reduceSub, Nat.sub_zero, Int.reduceBNe, List.isEmpty_cons, List.isEmpty_nil, Int.reduceGT, Int.reduceGE, Int.reduceAdd, Int.reduceSub, Int.reduceMul, Int.reduceNeg, AV.free, Bool.or_false, Bool.false_or, Nat.mul_one, roundL, roundA, b_auto_Match_l0, e1, eq_true hq, t1, t2, hg, hs, toPV_pv, deep_eq, iaddrA', envM1, retIs2_ret]
  · rintro rfl rfl
    rcases hA.form with rfl | ⟨av, rfl⟩ <;>
    simp (implicitDefEqProofs := false) only [pureF, runF_go, callL_succ, C_skip, C_region, C_seq, C_cond, C_block, C_scope, C_exit, C_ret, C_ghost, ops_cons, ops_nil, oper_go, oper_pr, oper_if, guard_t, guard_f, do_go, do_pr, skip_do, skip_no, onH_go, evalOp, List.map, List.length, if_true, ↓reduceIte, argEnv, AO.ev, Tr.get_set, wantedA, putR_do, putR_no, nextA_some, seqA_norm, seqA_ret, seqA_exit, normA_some, condA_t, condA_f, startA_go, blockA_norm, blockA_ret, blockA_exit, AV.cells, PV.cells, outR_ret, outR_norm, resA, one1, mapO, toPV, Option.bind_some, Option.map_some, AV.one, List.all, Bool.and_self, true_and, and_self, and_true, flatV, Bool.or_true, Bool.true_or, unA, asBool, asInt, Bool.not_true, Bool.not_false, fillA, mkAgg, mkTup, allPV, storeA, loadA, partA, partP, place, lenA_nils, lenA_lit, lenA_uq, lenA_str, lenA_nilm, lenA_own, lenA_mp, setRow, binA, intBin, eqA, fresh, chunk, List.append, List.nil_append, List.cons_append, List.getElem?_cons_zero, List.getElem?_cons_succ, List.getElem?_nil, List.set_cons_zero, List.set_cons_succ, List.length_cons, List.length_nil, Nat.zero_add, Nat.add_zero, List.drop, List.take, flat, elemsP, nilApp, appendA, Bool.false_eq_true, beq_self_eq_true, bne_self_eq_false, Bool.not_eq_true, decide_true, decide_false, reduceCtorEq, Nat.reduceAdd, Nat.reduceMul, Nat.reduceLeDiff, Nat.reduceEqDiff, Nat.le_refl, Int.reduceLT, Int.reduceLE, Int.reduceBEq, Int.reduceEq, Nat.reduceBEq, Option.bind_none, Option.map_none, b_tt, b_tf, b_ft, b_ff, pvInt, Int.cast_ofNat_Int, repZ, Bool.false_and, Bool.and_false, List.headD_cons, List.headD_nil, Nat.reduceLT, Nat.lt_add_one, Nat.reduceSub, Nat.sub_zero, Int.reduceBNe, List.isEmpty_cons, List.isEmpty_nil, Int.reduceGT, Int.reduceGE, Int.reduceAdd, Int.reduceSub, Int.reduceMul, Int.reduceNeg, AV.free, Bool.or_false, Bool.false_or, Nat.mul_one, roundL, roundA, b_auto_Match_l0, e1, eq_true hq, t1, t2, hg, hs, toPV_pv, deep_eq, iaddrA', envM1, retIs2_ret]
  · rintro rfl h
    have d := beq_ne h
    rcases hA.form with rfl | ⟨av, rfl⟩ <;>
    simp (implicitDefEqProofs := false) only [pureF, runF_go, callL_succ, C_skip, C_region, C_seq, C_cond, C_block, C_scope, C_exit, C_ret, C_ghost, ops_cons, ops_nil, oper_go, oper_pr, oper_if, guard_t, guard_f, do_go, do_pr, skip_do, skip_no, onH_go, evalOp, List.map, List.length, if_true, ↓reduceIte, argEnv, AO.ev, Tr.get_set, wantedA, putR_do, putR_no, nextA_some, seqA_norm, seqA_ret, seqA_exit, normA_some, condA_t, condA_f, startA_go, blockA_norm, blockA_ret, blockA_exit, AV.cells, PV.cells, outR_ret, outR_norm, resA, one1, mapO, toPV, Option.bind_some, Option.map_some, AV.one, List.all, Bool.and_self, true_and, and_self, and_true, flatV, Bool.or_true, Bool.true_or, unA, asBool, asInt, Bool.not_true, Bool.not_false, fillA, mkAgg, mkTup, allPV, storeA, loadA, partA, partP, place, lenA_nils, lenA_lit, lenA_uq, lenA_str, lenA_nilm, lenA_own, lenA_mp, setRow, binA, intBin, eqA, fresh, chunk, List.append, List.nil_append, List.cons_append, List.getElem?_cons_zero, List.getElem?_cons_succ, List.getElem?_nil, List.set_cons_zero, List.set_cons_succ, List.length_cons, List.length_nil, Nat.zero_add, Nat.add_zero, List.drop, List.take, flat, elemsP, nilApp, appendA, Bool.false_eq_true, beq_self_eq_true, bne_self_eq_false, Bool.not_eq_true, decide_true, decide_false, reduceCtorEq, Nat.reduceAdd, Nat.reduceMul, Nat.reduceLeDiff, Nat.reduceEqDiff, Nat.le_refl, Int.reduceLT, Int.reduceLE, Int.reduceBEq, Int.reduceEq, Nat.reduceBEq, Option.bind_none, Option.map_none, b_tt, b_tf, b_ft, b_ff, pvInt, Int.cast_ofNat_Int, repZ, Bool.false_and, Bool.and_false, List.headD_cons, List.headD_nil, Nat.reduceLT, Nat.lt_add_one, Nat.reduceSub, Nat.sub_zero, Int.reduceBNe, List.isEmpty_cons, List.isEmpty_nil, Int.reduceGT, Int.reduceGE, Int.reduceAdd, Int.reduceSub, Int.reduceMul, Int.reduceNeg, AV.free, Bool.or_false, Bool.false_or, Nat.mul_one, roundL, roundA, b_auto_Match_l0, e1, eq_true hq, t1, t2, hg, hs, d, toPV_pv, iaddrA', envM1, clean, cutEnv, cut_pv, AV.cut, deep_eq]

theorem match_run : F_auto_Match [.agg [A], B] = some (.tup [i64 (matchS l 0 0 bs).1, i64 (matchS l 0 0 bs).2]) := by
  have ls := hB.len
  simp only [List.length_map] at ls
  have key := loop_acc (g := roundL (callL (fun _ => none) 8) [1, 2, 6, 11, 12, 13] b_auto_Match_l0 0)
    (fun i st => ⟨envM1 A B st bs.length i, []⟩) (fun i st => matchS l i st (bs.drop i)) (fun _ _ => True)
    (fun r ex t => (ex = .exit 0 ∧ r = ((bs.length : Int), 2) ∧ ∃ st, t = ⟨(envM1 A B st bs.length bs.length).set 14 (.pv (.bool false)), []⟩) ∨ (ex = .ret ∧ t.env.get 4 = .pv (i64 r.1) ∧ t.env.get 5 = .pv (i64 r.2)))
    bs.length (by unfold rounds; unfold maxLen at hw; omega) 0 trivial ?_ ?_
  · obtain ⟨ex, ⟨E, H⟩, h, _, hq⟩ := key
    have h' : loopA (roundA (evalC (callL (fun _ => none) 8) b_auto_Match_l0) (clean 0 [1, 2, 6, 11, 12, 13])) rounds ⟨envM1 A B 0 bs.length 0, []⟩ = some (ex, ⟨E, H⟩) := h
    simp only [envM1] at h'
    rw [List.drop_zero] at hq
    generalize matchS l 0 0 bs = r at *
    have hBf := hB.form
    rcases hq with ⟨rfl, rfl, st, g⟩ | ⟨rfl, g1, g2⟩
    · rw [g] at h'
      simp only [envM1] at h'
      rcases hA.form with rfl | ⟨av, rfl⟩ <;>
      · simp (implicitDefEqProofs := false) only [F_auto_Match, pureF, runF_go, callL_succ, C_skip, C_region, C_seq, C_cond, C_block, C_scope, C_exit, C_ret, C_ghost, ops_cons, ops_nil, oper_go, oper_pr, oper_if, guard_t, guard_f, do_go, do_pr, skip_do, skip_no, onH_go, evalOp, List.map, List.length, if_true, ↓reduceIte, argEnv, AO.ev, Tr.get_set, wantedA, putR_do, putR_no, nextA_some, seqA_norm, seqA_ret, seqA_exit, normA_some, condA_t, condA_f, startA_go, blockA_norm, blockA_ret, blockA_exit, AV.cells, PV.cells, outR_ret, outR_norm, resA, one1, mapO, toPV, Option.bind_some, Option.map_some, AV.one, List.all, Bool.and_self, true_and, and_self, and_true, flatV, Bool.or_true, Bool.true_or, unA, asBool, asInt, Bool.not_true, Bool.not_false, fillA, mkAgg, mkTup, allPV, storeA, loadA, partA, partP, place, lenA_nils, lenA_lit, lenA_uq, lenA_str, lenA_nilm, lenA_own, lenA_mp, setRow, binA, intBin, eqA, fresh, chunk, List.append, List.nil_append, List.cons_append, List.getElem?_cons_zero, List.getElem?_cons_succ, List.getElem?_nil, List.set_cons_zero, List.set_cons_succ, List.length_cons, List.length_nil, Nat.zero_add, Nat.add_zero, List.drop, List.take, flat, elemsP, nilApp, appendA, Bool.false_eq_true, beq_self_eq_true, bne_self_eq_false, Bool.not_eq_true, decide_true, decide_false, reduceCtorEq, Nat.reduceAdd, Nat.reduceMul, Nat.reduceLeDiff, Nat.reduceEqDiff, Nat.le_refl, Int.reduceLT, Int.reduceLE, Int.reduceBEq, Int.reduceEq, Nat.reduceBEq, Option.bind_none, Option.map_none, b_tt, b_tf, b_ft, b_ff, pvInt, Int.cast_ofNat_Int, repZ, Bool.false_and, Bool.and_false, List.headD_cons, List.headD_nil, Nat.reduceLT, Nat.lt_add_one, Nat.reduceSub, Nat.sub_zero, Int.reduceBNe, List.isEmpty_cons, List.isEmpty_nil, Int.reduceGT, Int.reduceGE, Int.reduceAdd, Int.reduceSub, Int.reduceMul, Int.reduceNeg, AV.free, Bool.or_false, Bool.false_or, Nat.mul_one, b_auto_Match, ls, C_loop, clean, cutEnv, cut_pv, AV.cut, deep_eq]
        rw [h']
        simp (implicitDefEqProofs := false) only [pureF, runF_go, callL_succ, C_skip, C_region, C_seq, C_cond, C_block, C_scope, C_exit, C_ret, C_ghost, ops_cons, ops_nil, oper_go, oper_pr, oper_if, guard_t, guard_f, do_go, do_pr, skip_do, skip_no, onH_go, evalOp, List.map, List.length, if_true, ↓reduceIte, argEnv, AO.ev, Tr.get_set, wantedA, putR_do, putR_no, nextA_some, seqA_norm, seqA_ret, seqA_exit, normA_some, condA_t, condA_f, startA_go, blockA_norm, blockA_ret, blockA_exit, AV.cells, PV.cells, outR_ret, outR_norm, resA, one1, mapO, toPV, Option.bind_some, Option.map_some, AV.one, List.all, Bool.and_self, true_and, and_self, and_true, flatV, Bool.or_true, Bool.true_or, unA, asBool, asInt, Bool.not_true, Bool.not_false, fillA, mkAgg, mkTup, allPV, storeA, loadA, partA, partP, place, lenA_nils, lenA_lit, lenA_uq, lenA_str, lenA_nilm, lenA_own, lenA_mp, setRow, binA, intBin, eqA, fresh, chunk, List.append, List.nil_append, List.cons_append, List.getElem?_cons_zero, List.getElem?_cons_succ, List.getElem?_nil, List.set_cons_zero, List.set_cons_succ, List.length_cons, List.length_nil, Nat.zero_add, Nat.add_zero, List.drop, List.take, flat, elemsP, nilApp, appendA, Bool.false_eq_true, beq_self_eq_true, bne_self_eq_false, Bool.not_eq_true, decide_true, decide_false, reduceCtorEq, Nat.reduceAdd, Nat.reduceMul, Nat.reduceLeDiff, Nat.reduceEqDiff, Nat.le_refl, Int.reduceLT, Int.reduceLE, Int.reduceBEq, Int.reduceEq, Nat.reduceBEq, Option.bind_none, Option.map_none, b_tt, b_tf, b_ft, b_ff, pvInt, Int.cast_ofNat_Int, repZ, Bool.false_and, Bool.and_false, List.headD_cons, List.headD_nil, Nat.reduceLT, Nat.lt_add_one, Nat.reduceSub, Nat.sub_zero, Int.reduceBNe, List.isEmpty_cons, List.isEmpty_nil, Int.reduceGT, Int.reduceGE, Int.reduceAdd, Int.reduceSub, Int.reduceMul, Int.reduceNeg, AV.free, Bool.or_false, Bool.false_or, Nat.mul_one, ls]
    · simp only at g1 g2
      rcases hA.form with rfl | ⟨av, rfl⟩ <;>
      · simp (implicitDefEqProofs := false) only [F_auto_Match, pureF, runF_go, callL_succ, C_skip, C_region, C_seq, C_cond, C_block, C_scope, C_exit, C_ret, C_ghost, ops_cons, ops_nil, oper_go, oper_pr, oper_if, guard_t, guard_f, do_go, do_pr, skip_do, skip_no, onH_go, evalOp, List.map, List.length, if_true, ↓reduceIte, argEnv, AO.ev, Tr.get_set, wantedA, putR_do, putR_no, nextA_some, seqA_norm, seqA_ret, seqA_exit, normA_some, condA_t, condA_f, startA_go, blockA_norm, blockA_ret, blockA_exit, AV.cells, PV.cells, outR_ret, outR_norm, resA, one1, mapO, toPV, Option.bind_some, Option.map_some, AV.one, List.all, Bool.and_self, true_and, and_self, and_true, flatV, Bool.or_true, Bool.true_or, unA, asBool, asInt, Bool.not_true, Bool.not_false, fillA, mkAgg, mkTup, allPV, storeA, loadA, partA, partP, place, lenA_nils, lenA_lit, lenA_uq, lenA_str, lenA_nilm, lenA_own, lenA_mp, setRow, binA, intBin, eqA, fresh, chunk, List.append, List.nil_append, List.cons_append, List.getElem?_cons_zero, List.getElem?_cons_succ, List.getElem?_nil, List.set_cons_zero, List.set_cons_succ, List.length_cons, List.length_nil, Nat.zero_add, Nat.add_zero, List.drop, List.take, flat, elemsP, nilApp, appendA, Bool.false_eq_true, beq_self_eq_true, bne_self_eq_false, Bool.not_eq_true, decide_true, decide_false, reduceCtorEq, Nat.reduceAdd, Nat.reduceMul, Nat.reduceLeDiff, Nat.reduceEqDiff, Nat.le_refl, Int.reduceLT, Int.reduceLE, Int.reduceBEq, Int.reduceEq, Nat.reduceBEq, Option.bind_none, Option.map_none, b_tt, b_tf, b_ft, b_ff, pvInt, Int.cast_ofNat_Int, repZ, Bool.false_and, Bool.and_false, List.headD_cons, List.headD_nil, Nat.reduceLT, Nat.lt_add_one, Nat.reduceSub, Nat.sub_zero, Int.reduceBNe, List.isEmpty_cons, List.isEmpty_nil, Int.reduceGT, Int.reduceGE, Int.reduceAdd, Int.reduceSub, Int.reduceMul, Int.reduceNeg, AV.free, Bool.or_false, Bool.false_or, Nat.mul_one, b_auto_Match, ls, C_loop, clean, cutEnv, cut_pv, AV.cut, deep_eq]
        rw [h']
        simp (implicitDefEqProofs := false) only [pureF, runF_go, callL_succ, C_skip, C_region, C_seq, C_cond, C_block, C_scope, C_exit, C_ret, C_ghost, ops_cons, ops_nil, oper_go, oper_pr, oper_if, guard_t, guard_f, do_go, do_pr, skip_do, skip_no, onH_go, evalOp, List.map, List.length, if_true, ↓reduceIte, argEnv, AO.ev, Tr.get_set, wantedA, putR_do, putR_no, nextA_some, seqA_norm, seqA_ret, seqA_exit, normA_some, condA_t, condA_f, startA_go, blockA_norm, blockA_ret, blockA_exit, AV.cells, PV.cells, outR_ret, outR_norm, resA, one1, mapO, toPV, Option.bind_some, Option.map_some, AV.one, List.all, Bool.and_self, true_and, and_self, and_true, flatV, Bool.or_true, Bool.true_or, unA, asBool, asInt, Bool.not_true, Bool.not_false, fillA, mkAgg, mkTup, allPV, storeA, loadA, partA, partP, place, lenA_nils, lenA_lit, lenA_uq, lenA_str, lenA_nilm, lenA_own, lenA_mp, setRow, binA, intBin, eqA, fresh, chunk, List.append, List.nil_append, List.cons_append, List.getElem?_cons_zero, List.getElem?_cons_succ, List.getElem?_nil, List.set_cons_zero, List.set_cons_succ, List.length_cons, List.length_nil, Nat.zero_add, Nat.add_zero, List.drop, List.take, flat, elemsP, nilApp, appendA, Bool.false_eq_true, beq_self_eq_true, bne_self_eq_false, Bool.not_eq_true, decide_true, decide_false, reduceCtorEq, Nat.reduceAdd, Nat.reduceMul, Nat.reduceLeDiff, Nat.reduceEqDiff, Nat.le_refl, Int.reduceLT, Int.reduceLE, Int.reduceBEq, Int.reduceEq, Nat.reduceBEq, Option.bind_none, Option.map_none, b_tt, b_tf, b_ft, b_ff, pvInt, Int.cast_ofNat_Int, repZ, Bool.false_and, Bool.and_false, List.headD_cons, List.headD_nil, Nat.reduceLT, Nat.lt_add_one, Nat.reduceSub, Nat.sub_zero, Int.reduceBNe, List.isEmpty_cons, List.isEmpty_nil, Int.reduceGT, Int.reduceGE, Int.reduceAdd, Int.reduceSub, Int.reduceMul, Int.reduceNeg, AV.free, Bool.or_false, Bool.false_or, Nat.mul_one, g1, g2]
  · rintro i hi st _
    obtain ⟨r1, r2, r3⟩ := match_round (callL (fun _ => none) 8) A B l hA bs hB hb hw st i hi
    have hd : bs.drop i = bs[i] :: bs.drop (i + 1) := List.drop_eq_getElem_cons hi
    simp only [hd, matchS]
    cases h2 : (stepS l st bs[i]).2 with
    | false =>
      obtain ⟨t, k1, k2, k3⟩ := retIs2_spec (r1 h2)
      exact .inr ⟨.ret, t, k1, rfl, .inr ⟨rfl, k2, k3⟩⟩
    | true =>
      simp only [Bool.true_eq_false, if_false]
      by_cases h1 : (stepS l st bs[i]).1 = -1
      · obtain ⟨t, k1, k2, k3⟩ := retIs2_spec (r2 h2 h1)
        rw [if_pos h1]
        exact .inr ⟨.ret, t, k1, rfl, .inr ⟨rfl, k2, k3⟩⟩
      · rw [if_neg h1]
        exact .inl ⟨_, r3 h2 h1, rfl, trivial⟩
  · rintro st _
    rw [List.drop_length]
    have e1 : decide ((bs.length : Int) < (bs.length : Int)) = false := dec_f (by omega)
    refine ⟨.exit 0, ⟨(envM1 A B st bs.length bs.length).set 14 (.pv (.bool false)), []⟩, ?_, rfl, .inl ⟨rfl, rfl, st, rfl⟩⟩
    simp (implicitDefEqProofs := false) only [pureF, runF_go, callL_succ, C_skip, C_region, C_seq, C_cond, C_block, C_scope, C_exit, C_ret, C_ghost, ops_cons, ops_nil, oper_go, oper_pr, oper_if, guard_t, guard_f, do_go, do_pr, skip_do, skip_no, onH_go, evalOp, List.map, List.length, if_true, ↓reduceIte, argEnv, AO.ev, Tr.get_set, wantedA, putR_do, putR_no, nextA_some, seqA_norm, seqA_ret, seqA_exit, normA_some, condA_t, condA_f, startA_go, blockA_norm, blockA_ret, blockA_exit, AV.cells, PV.cells, outR_ret, outR_norm, resA, one1, mapO, toPV, Option.bind_some, Option.map_some, AV.one, List.all, Bool.and_self, true_and, and_self, and_true, flatV, Bool.or_true, Bool.true_or, unA, asBool, asInt, Bool.not_true, Bool.not_false, fillA, mkAgg, mkTup, allPV, storeA, loadA, partA, partP, place, lenA_nils, lenA_lit, lenA_uq, lenA_str, lenA_nilm, lenA_own, lenA_mp, setRow, binA, intBin, eqA, fresh, chunk, List.append, List.nil_append, List.cons_append, List.getElem?_cons_zero, List.getElem?_cons_succ, List.getElem?_nil, List.set_cons_zero, List.set_cons_succ, List.length_cons, List.length_nil, Nat.zero_add, Nat.add_zero, List.drop, List.take, flat, elemsP, nilApp, appendA, Bool.false_eq_true, beq_self_eq_true, bne_self_eq_false, Bool.not_eq_true, decide_true, decide_false, reduceCtorEq, Nat.reduceAdd, Nat.reduceMul, Nat.reduceLeDiff, Nat.reduceEqDiff, Nat.le_refl, Int.reduceLT, Int.reduceLE, Int.reduceBEq, Int.reduceEq, Nat.reduceBEq, Option.bind_none, Option.map_none, b_tt, b_tf, b_ft, b_ff, pvInt, Int.cast_ofNat_Int, repZ, Bool.false_and, Bool.and_false, List.headD_cons, List.headD_nil, Nat.reduceLT, Nat.lt_add_one, Nat.reduceSub, Nat.sub_zero, Int.reduceBNe, List.isEmpty_cons, List.isEmpty_nil, Int.reduceGT, Int.reduceGE, Int.reduceAdd, Int.reduceSub, Int.reduceMul, Int.reduceNeg, AV.free, Bool.or_false, Bool.false_or, Nat.mul_one, roundL, roundA, b_auto_Match_l0, e1, envM1]

theorem refmatch_round (st : Int) (i : Nat) (hi : i < bs.length) :
    ((stepS l st bs[i]).2 = false → retIs2 4 (.pv (i64 i)) 5 (.pv (i64 3)) (roundL call [1, 2, 6, 7] b_leadtrailref13_Match_l0 0 ⟨envM2 A B st i, []⟩)) ∧
    ((stepS l st bs[i]).2 = true → (stepS l st bs[i]).1 = -1 → retIs2 4 (.pv (i64 (i + 1 : Nat))) 5 (.pv (i64 1)) (roundL call [1, 2, 6, 7] b_leadtrailref13_Match_l0 0 ⟨envM2 A B st i, []⟩)) ∧
    ((stepS l st bs[i]).2 = true → (stepS l st bs[i]).1 ≠ -1 → roundL call [1, 2, 6, 7] b_leadtrailref13_Match_l0 0 ⟨envM2 A B st i, []⟩ = some (.norm, ⟨envM2 A B (stepS l st bs[i]).1 (i + 1 : Nat), []⟩)) := by
  have hBl := hB.lit (i := i) (by simpa using hi)
  subst hBl
  have e1 : decide ((i : Int) < (bs.length : Int)) = true := dec_t (by omega)
  have hlen : (bs.map u8).length = bs.length := by simp
  have hq : idxOk (i : Int) bs.length := by unfold idxOk; omega
  have t1 : ((i : Int)).toNat = i := by simp
  have t2 := stepWrap hi hw
  have hg := u8_get hi
  have hs := refstep_run A l hA st bs[i] (hb _ (List.getElem_mem hi))
  generalize stepS l st bs[i] = p at *
  generalize bs[i] = b at *
  obtain ⟨to, ok⟩ := p
  generalize bs.map u8 = es at *
  refine ⟨?_, ?_, ?_⟩
  · rintro rfl
    rcases hA.form with rfl | ⟨av, rfl⟩ <;>
    simp (implicitDefEqProofs := false) only [pureF, runF_go, callL_succ, C_skip, C_region, C_seq, C_cond, C_block, C_scope, C_exit, C_ret, C_ghost, ops_cons, ops_nil, oper_go, oper_pr, oper_if, guard_t, guard_f, do_go, do_pr, skip_do, skip_no, onH_go, evalOp, List.map, List.length, if_true, ↓reduceIte, argEnv, AO.ev, Tr.get_set, wantedA, putR_do, putR_no, nextA_some, seqA_norm, seqA_ret, seqA_exit, normA_some, condA_t, condA_f, startA_go, blockA_norm, blockA_ret, blockA_exit, AV.cells, PV.cells, outR_ret, outR_norm, resA, one1, mapO, toPV, Option.bind_some, Option.map_some, AV.one, List.all, Bool.and_self, true_and, and_self, and_true, flatV, Bool.or_true, Bool.true_or, unA, asBool, asInt, Bool.not_true, Bool.not_false, fillA, mkAgg, mkTup, allPV, storeA, loadA, partA, partP, place, lenA_nils, lenA_lit, lenA_uq, lenA_str, lenA_nilm, lenA_own, lenA_mp, setRow, binA, intBin, eqA, fresh, chunk, List.append, List.nil_append, List.cons_append, List.getElem?_cons_zero, List.getElem?_cons_succ, List.getElem?_nil, List.set_cons_zero, List.set_cons_succ, List.length_cons, List.length_nil, Nat.zero_add, Nat.add_zero, List.drop, List.take, flat, elemsP, nilApp, appendA, Bool.false_eq_true, beq_self_eq_true, bne_self_eq_false, Bool.not_eq_true, decide_true, decide_false, reduceCtorEq, Nat.reduceAdd, Nat.reduceMul, Nat.reduceLeDiff, Nat.reduceEqDiff, Nat.le_refl, Int.reduceLT, Int.reduceLE, Int.reduceBEq, Int.reduceEq, Nat.reduceBEq, Option.bind_none, Option.map_none, b_tt, b_tf, b_ft, b_ff, pvInt, Int.cast_ofNat_Int, repZ, Bool.false_and, Bool.and_false, List.headD_cons, List.headD_nil, Nat.reduceLT, Nat.lt_add_one, Nat.reduceSub, Nat.sub_zero, Int.reduceBNe, List.isEmpty_cons, List.isEmpty_nil, Int.reduceGT, Int.reduceGE, Int.reduceAdd, Int.reduceSub, Int.reduceMul, Int.reduceNeg, AV.free, Bool.or_false, Bool.false_or, Nat.mul_one, roundL, roundA, b_leadtrailref13_Match_l0, e1, hlen, eq_true hq, t1, t2, hg, hs, toPV_pv, deep_eq, iaddrA', envM2, retIs2_ret]
  · rintro rfl rfl
    rcases hA.form with rfl | ⟨av, rfl⟩ <;>
    simp (implicitDefEqProofs := false) only [pureF, runF_go, callL_succ, C_skip, C_region, C_seq, C_cond, C_block, C_scope, C_exit, C_ret, C_ghost, ops_cons, ops_nil, oper_go, oper_pr, oper_if, guard_t, guard_f, do_go, do_pr, skip_do, skip_no, onH_go, evalOp, List.map, List.length, if_true, ↓reduceIte, argEnv, AO.ev, Tr.get_set, wantedA, putR_do, putR_no, nextA_some, seqA_norm, seqA_ret, seqA_exit, normA_some, condA_t, condA_f, startA_go, blockA_norm, blockA_ret, blockA_exit, AV.cells, PV.cells, outR_ret, outR_norm, resA, one1, mapO, toPV, Option.bind_some, Option.map_some, AV.one, List.all, Bool.and_self, true_and, and_self, and_true, flatV, Bool.or_true, Bool.true_or, unA, asBool, asInt, Bool.not_true, Bool.not_false, fillA, mkAgg, mkTup, allPV, storeA, loadA, partA, partP, place, lenA_nils, lenA_lit, lenA_uq, lenA_str, lenA_nilm, lenA_own, lenA_mp, setRow, binA, intBin, eqA, fresh, chunk, List.append, List.nil_append, List.cons_append, List.getElem?_cons_zero, List.getElem?_cons_succ, List.getElem?_nil, List.set_cons_zero, List.set_cons_succ, List.length_cons, List.length_nil, Nat.zero_add, Nat.add_zero, List.drop, List.take, flat, elemsP, nilApp, appendA, Bool.false_eq_true, beq_self_eq_true, bne_self_eq_false, Bool.not_eq_true, decide_true, decide_false, reduceCtorEq, Nat.reduceAdd, Nat.reduceMul, Nat.reduceLeDiff, Nat.reduceEqDiff, Nat.le_refl, Int.reduceLT, Int.reduceLE, Int.reduceBEq, Int.reduceEq, Nat.reduceBEq, Option.bind_none, Option.map_none, b_tt, b_tf, b_ft, b_ff, pvInt, Int.cast_ofNat_Int, repZ, Bool.false_and, Bool.and_false, List.headD_cons, List.headD_nil, Nat.reduceLT, Nat.lt_add_one, Nat.reduceSub, Nat.sub_zero, Int.reduceBNe, List.isEmpty_cons, List.isEmpty_nil, Int.reduceGT, Int.reduceGE, Int.reduceAdd, Int.reduceSub, Int.reduceMul, Int.reduceNeg, AV.free, Bool.or_false, Bool.false_or, Nat.mul_one, roundL, roundA, b_leadtrailref13_Match_l0, e1, hlen, eq_true hq, t1, t2, hg, hs, toPV_pv, deep_eq, iaddrA', envM2, retIs2_ret]
  · rintro rfl h
    have d := beq_ne h
    rcases hA.form with rfl | ⟨av, rfl⟩ <;>
    simp (implicitDefEqProofs := false) only [pureF, runF_go, callL_succ, C_skip, C_region, C_seq, C_cond, C_block, C_scope, C_exit, C_ret, C_ghost, ops_cons, ops_nil, oper_go, oper_pr, oper_if, guard_t, guard_f, do_go, do_pr, skip_do, skip_no, onH_go, evalOp, List.map, List.length, if_true, ↓reduceIte, argEnv, AO.ev, Tr.get_set, wantedA, putR_do, putR_no, nextA_some, seqA_norm, seqA_ret, seqA_exit, normA_some, condA_t, condA_f, startA_go, blockA_norm, blockA_ret, blockA_exit, AV.cells, PV.cells, outR_ret, outR_norm, resA, one1, mapO, toPV, Option.bind_some, Option.map_some, AV.one, List.all, Bool.and_self, true_and, and_self, and_true, flatV, Bool.or_true, Bool.true_or, unA, asBool, asInt, Bool.not_true, Bool.not_false, fillA, mkAgg, mkTup, allPV, storeA, loadA, partA, partP, place, lenA_nils, lenA_lit, lenA_uq, lenA_str, lenA_nilm, lenA_own, lenA_mp, setRow, binA, intBin, eqA, fresh, chunk, List.append, List.nil_append, List.cons_append, List.getElem?_cons_zero, List.getElem?_cons_succ, List.getElem?_nil, List.set_cons_zero, List.set_cons_succ, List.length_cons, List.length_nil, Nat.zero_add, Nat.add_zero, List.drop, List.take, flat, elemsP, nilApp, appendA, Bool.false_eq_true, beq_self_eq_true, bne_self_eq_false, Bool.not_eq_true, decide_true, decide_false, reduceCtorEq, Nat.reduceAdd, Nat.reduceMul, Nat.reduceLeDiff, Nat.reduceEqDiff, Nat.le_refl, Int.reduceLT, Int.reduceLE, Int.reduceBEq, Int.reduceEq, Nat.reduceBEq, Option.bind_none, Option.map_none, b_tt, b_tf, b_ft, b_ff, pvInt, Int.cast_ofNat_Int, repZ, Bool.false_and, Bool.and_false, List.headD_cons, List.headD_nil, Nat.reduceLT, Nat.lt_add_one, Nat.reduceSub, Nat.sub_zero, Int.reduceBNe, List.isEmpty_cons, List.isEmpty_nil, Int.reduceGT, Int.reduceGE, Int.reduceAdd, Int.reduceSub, Int.reduceMul, Int.reduceNeg, AV.free, Bool.or_false, Bool.false_or, Nat.mul_one, roundL, roundA, b_leadtrailref13_Match_l0, e1, hlen, eq_true hq, t1, t2, hg, hs, d, toPV_pv, iaddrA', envM2, clean, cutEnv, cut_pv, AV.cut, deep_eq]

theorem refmatch_run : F_leadtrailref13_Match [.agg [A], B] = some (.tup [i64 (matchS l 0 0 bs).1, i64 (matchS l 0 0 bs).2]) := by
  have ls := hB.len
  simp only [List.length_map] at ls
  have key := loop_acc (g := roundL (callL (fun _ => none) 8) [1, 2, 6, 7] b_leadtrailref13_Match_l0 0)
    (fun i st => ⟨envM2 A B st i, []⟩) (fun i st => matchS l i st (bs.drop i)) (fun _ _ => True)
    (fun r ex t => (ex = .exit 0 ∧ r = ((bs.length : Int), 2) ∧ ∃ st, t = ⟨((((envM2 A B st bs.length).set 10 (.pv (i64 bs.length))).set 11 (.pv B)).set 12 (.pv (i64 bs.length))).set 13 (.pv (.bool false)), []⟩) ∨ (ex = .ret ∧ t.env.get 4 = .pv (i64 r.1) ∧ t.env.get 5 = .pv (i64 r.2)))
    bs.length (by unfold rounds; unfold maxLen at hw; omega) 0 trivial ?_ ?_
  · obtain ⟨ex, ⟨E, H⟩, h, _, hq⟩ := key
    have h' : loopA (roundA (evalC (callL (fun _ => none) 8) b_leadtrailref13_Match_l0) (clean 0 [1, 2, 6, 7])) rounds ⟨envM2 A B 0 0, []⟩ = some (ex, ⟨E, H⟩) := h
    simp only [envM2] at h'
    rw [List.drop_zero] at hq
    generalize matchS l 0 0 bs = r at *
    rcases hq with ⟨rfl, rfl, st, g⟩ | ⟨rfl, g1, g2⟩
    · rw [g] at h'
      simp only [envM2] at h'
      rcases hA.form with rfl | ⟨av, rfl⟩ <;>
      · simp (implicitDefEqProofs := false) only [F_leadtrailref13_Match, pureF, runF_go, callL_succ, C_skip, C_region, C_seq, C_cond, C_block, C_scope, C_exit, C_ret, C_ghost, ops_cons, ops_nil, oper_go, oper_pr, oper_if, guard_t, guard_f, do_go, do_pr, skip_do, skip_no, onH_go, evalOp, List.map, List.length, if_true, ↓reduceIte, argEnv, AO.ev, Tr.get_set, wantedA, putR_do, putR_no, nextA_some, seqA_norm, seqA_ret, seqA_exit, normA_some, condA_t, condA_f, startA_go, blockA_norm, blockA_ret, blockA_exit, AV.cells, PV.cells, outR_ret, outR_norm, resA, one1, mapO, toPV, Option.bind_some, Option.map_some, AV.one, List.all, Bool.and_self, true_and, and_self, and_true, flatV, Bool.or_true, Bool.true_or, unA, asBool, asInt, Bool.not_true, Bool.not_false, fillA, mkAgg, mkTup, allPV, storeA, loadA, partA, partP, place, lenA_nils, lenA_lit, lenA_uq, lenA_str, lenA_nilm, lenA_own, lenA_mp, setRow, binA, intBin, eqA, fresh, chunk, List.append, List.nil_append, List.cons_append, List.getElem?_cons_zero, List.getElem?_cons_succ, List.getElem?_nil, List.set_cons_zero, List.set_cons_succ, List.length_cons, List.length_nil, Nat.zero_add, Nat.add_zero, List.drop, List.take, flat, elemsP, nilApp, appendA, Bool.false_eq_true, beq_self_eq_true, bne_self_eq_false, Bool.not_eq_true, decide_true, decide_false, reduceCtorEq, Nat.reduceAdd, Nat.reduceMul, Nat.reduceLeDiff, Nat.reduceEqDiff, Nat.le_refl, Int.reduceLT, Int.reduceLE, Int.reduceBEq, Int.reduceEq, Nat.reduceBEq, Option.bind_none, Option.map_none, b_tt, b_tf, b_ft, b_ff, pvInt, Int.cast_ofNat_Int, repZ, Bool.false_and, Bool.and_false, List.headD_cons, List.headD_nil, Nat.reduceLT, Nat.lt_add_one, Nat.reduceSub, Nat.sub_zero, Int.reduceBNe, List.isEmpty_cons, List.isEmpty_nil, Int.reduceGT, Int.reduceGE, Int.reduceAdd, Int.reduceSub, Int.reduceMul, Int.reduceNeg, AV.free, Bool.or_false, Bool.false_or, Nat.mul_one, b_leadtrailref13_Match, ls, C_loop, clean, cutEnv, cut_pv, AV.cut, deep_eq]
        rw [h']
        simp (implicitDefEqProofs := false) only [pureF, runF_go, callL_succ, C_skip, C_region, C_seq, C_cond, C_block, C_scope, C_exit, C_ret, C_ghost, ops_cons, ops_nil, oper_go, oper_pr, oper_if, guard_t, guard_f, do_go, do_pr, skip_do, skip_no, onH_go, evalOp, List.map, List.length, if_true, ↓reduceIte, argEnv, AO.ev, Tr.get_set, wantedA, putR_do, putR_no, nextA_some, seqA_norm, seqA_ret, seqA_exit, normA_some, condA_t, condA_f, startA_go, blockA_norm, blockA_ret, blockA_exit, AV.cells, PV.cells, outR_ret, outR_norm, resA, one1, mapO, toPV, Option.bind_some, Option.map_some, AV.one, List.all, Bool.and_self, true_and, and_self, and_true, flatV, Bool.or_true, Bool.true_or, unA, asBool, asInt, Bool.not_true, Bool.not_false, fillA, mkAgg, mkTup, allPV, storeA, loadA, partA, partP, place, lenA_nils, lenA_lit, lenA_uq, lenA_str, lenA_nilm, lenA_own, lenA_mp, setRow, binA, intBin, eqA, fresh, chunk, List.append, List.nil_append, List.cons_append, List.getElem?_cons_zero, List.getElem?_cons_succ, List.getElem?_nil, List.set_cons_zero, List.set_cons_succ, List.length_cons, List.length_nil, Nat.zero_add, Nat.add_zero, List.drop, List.take, flat, elemsP, nilApp, appendA, Bool.false_eq_true, beq_self_eq_true, bne_self_eq_false, Bool.not_eq_true, decide_true, decide_false, reduceCtorEq, Nat.reduceAdd, Nat.reduceMul, Nat.reduceLeDiff, Nat.reduceEqDiff, Nat.le_refl, Int.reduceLT, Int.reduceLE, Int.reduceBEq, Int.reduceEq, Nat.reduceBEq, Option.bind_none, Option.map_none, b_tt, b_tf, b_ft, b_ff, pvInt, Int.cast_ofNat_Int, repZ, Bool.false_and, Bool.and_false, List.headD_cons, List.headD_nil, Nat.reduceLT, Nat.lt_add_one, Nat.reduceSub, Nat.sub_zero, Int.reduceBNe, List.isEmpty_cons, List.isEmpty_nil, Int.reduceGT, Int.reduceGE, Int.reduceAdd, Int.reduceSub, Int.reduceMul, Int.reduceNeg, AV.free, Bool.or_false, Bool.false_or, Nat.mul_one, ls]
    · simp only at g1 g2
      rcases hA.form with rfl | ⟨av, rfl⟩ <;>
      · simp (implicitDefEqProofs := false) only [F_leadtrailref13_Match, pureF, runF_go, callL_succ, C_skip, C_region, C_seq, C_cond, C_block, C_scope, C_exit, C_ret, C_ghost, ops_cons, ops_nil, oper_go, oper_pr, oper_if, guard_t, guard_f, do_go, do_pr, skip_do, skip_no, onH_go, evalOp, List.map, List.length, if_true, ↓reduceIte, argEnv, AO.ev, Tr.get_set, wantedA, putR_do, putR_no, nextA_some, seqA_norm, seqA_ret, seqA_exit, normA_some, condA_t, condA_f, startA_go, blockA_norm, blockA_ret, blockA_exit, AV.cells, PV.cells, outR_ret, outR_norm, resA, one1, mapO, toPV, Option.bind_some, Option.map_some, AV.one, List.all, Bool.and_self, true_and, and_self, and_true, flatV, Bool.or_true, Bool.true_or, unA, asBool, asInt, Bool.not_true, Bool.not_false, fillA, mkAgg, mkTup, allPV, storeA, loadA, partA, partP, place, lenA_nils, lenA_lit, lenA_uq, lenA_str, lenA_nilm, lenA_own, lenA_mp, setRow, binA, intBin, eqA, fresh, chunk, List.append, List.nil_append, List.cons_append, List.getElem?_cons_zero, List.getElem?_cons_succ, List.getElem?_nil, List.set_cons_zero, List.set_cons_succ, List.length_cons, List.length_nil, Nat.zero_add, Nat.add_zero, List.drop, List.take, flat, elemsP, nilApp, appendA, Bool.false_eq_true, beq_self_eq_true, bne_self_eq_false, Bool.not_eq_true, decide_true, decide_false, reduceCtorEq, Nat.reduceAdd, Nat.reduceMul, Nat.reduceLeDiff, Nat.reduceEqDiff, Nat.le_refl, Int.reduceLT, Int.reduceLE, Int.reduceBEq, Int.reduceEq, Nat.reduceBEq, Option.bind_none, Option.map_none, b_tt, b_tf, b_ft, b_ff, pvInt, Int.cast_ofNat_Int, repZ, Bool.false_and, Bool.and_false, List.headD_cons, List.headD_nil, Nat.reduceLT, Nat.lt_add_one, Nat.reduceSub, Nat.sub_zero, Int.reduceBNe, List.isEmpty_cons, List.isEmpty_nil, Int.reduceGT, Int.reduceGE, Int.reduceAdd, Int.reduceSub, Int.reduceMul, Int.reduceNeg, AV.free, Bool.or_false, Bool.false_or, Nat.mul_one, b_leadtrailref13_Match, ls, C_loop, clean, cutEnv, cut_pv, AV.cut, deep_eq]
        rw [h']
        simp (implicitDefEqProofs := false) only [pureF, runF_go, callL_succ, C_skip, C_region, C_seq, C_cond, C_block, C_scope, C_exit, C_ret, C_ghost, ops_cons, ops_nil, oper_go, oper_pr, oper_if, guard_t, guard_f, do_go, do_pr, skip_do, skip_no, onH_go, evalOp, List.map, List.length, if_true, ↓reduceIte, argEnv, AO.ev, Tr.get_set, wantedA, putR_do, putR_no, nextA_some, seqA_norm, seqA_ret, seqA_exit, normA_some, condA_t, condA_f, startA_go, blockA_norm, blockA_ret, blockA_exit, AV.cells, PV.cells, outR_ret, outR_norm, resA, one1, mapO, toPV, Option.bind_some, Option.map_some, AV.one, List.all, Bool.and_self, true_and, and_self, and_true, flatV, Bool.or_true, Bool.true_or, unA, asBool, asInt, Bool.not_true, Bool.not_false, fillA, mkAgg, mkTup, allPV, storeA, loadA, partA, partP, place, lenA_nils, lenA_lit, lenA_uq, lenA_str, lenA_nilm, lenA_own, lenA_mp, setRow, binA, intBin, eqA, fresh, chunk, List.append, List.nil_append, List.cons_append, List.getElem?_cons_zero, List.getElem?_cons_succ, List.getElem?_nil, List.set_cons_zero, List.set_cons_succ, List.length_cons, List.length_nil, Nat.zero_add, Nat.add_zero, List.drop, List.take, flat, elemsP, nilApp, appendA, Bool.false_eq_true, beq_self_eq_true, bne_self_eq_false, Bool.not_eq_true, decide_true, decide_false, reduceCtorEq, Nat.reduceAdd, Nat.reduceMul, Nat.reduceLeDiff, Nat.reduceEqDiff, Nat.le_refl, Int.reduceLT, Int.reduceLE, Int.reduceBEq, Int.reduceEq, Nat.reduceBEq, Option.bind_none, Option.map_none, b_tt, b_tf, b_ft, b_ff, pvInt, Int.cast_ofNat_Int, repZ, Bool.false_and, Bool.and_false, List.headD_cons, List.headD_nil, Nat.reduceLT, Nat.lt_add_one, Nat.reduceSub, Nat.sub_zero, Int.reduceBNe, List.isEmpty_cons, List.isEmpty_nil, Int.reduceGT, Int.reduceGE, Int.reduceAdd, Int.reduceSub, Int.reduceMul, Int.reduceNeg, AV.free, Bool.or_false, Bool.false_or, Nat.mul_one, g1, g2]
  · rintro i hi st _
    obtain ⟨r1, r2, r3⟩ := refmatch_round (callL (fun _ => none) 8) A B l hA bs hB hb hw st i hi
    have hd : bs.drop i = bs[i] :: bs.drop (i + 1) := List.drop_eq_getElem_cons hi
    simp only [hd, matchS]
    cases h2 : (stepS l st bs[i]).2 with
    | false =>
      obtain ⟨t, k1, k2, k3⟩ := retIs2_spec (r1 h2)
      exact .inr ⟨.ret, t, k1, rfl, .inr ⟨rfl, k2, k3⟩⟩
    | true =>
      simp only [Bool.true_eq_false, if_false]
      by_cases h1 : (stepS l st bs[i]).1 = -1
      · obtain ⟨t, k1, k2, k3⟩ := retIs2_spec (r2 h2 h1)
        rw [if_pos h1]
        exact .inr ⟨.ret, t, k1, rfl, .inr ⟨rfl, k2, k3⟩⟩
      · rw [if_neg h1]
        exact .inl ⟨_, r3 h2 h1, rfl, trivial⟩
  · rintro st _
    rw [List.drop_length]
    have e1 : decide ((bs.length : Int) < (bs.length : Int)) = false := dec_f (by omega)
    refine ⟨.exit 0, ⟨((((envM2 A B st bs.length).set 10 (.pv (i64 bs.length))).set 11 (.pv B)).set 12 (.pv (i64 bs.length))).set 13 (.pv (.bool false)), []⟩, ?_, rfl, .inl ⟨rfl, rfl, st, rfl⟩⟩
    rcases hB.form with rfl | ⟨av, rfl⟩ <;>
    simp (implicitDefEqProofs := false) only [pureF, runF_go, callL_succ, C_skip, C_region, C_seq, C_cond, C_block, C_scope, C_exit, C_ret, C_ghost, ops_cons, ops_nil, oper_go, oper_pr, oper_if, guard_t, guard_f, do_go, do_pr, skip_do, skip_no, onH_go, evalOp, List.map, List.length, if_true, ↓reduceIte, argEnv, AO.ev, Tr.get_set, wantedA, putR_do, putR_no, nextA_some, seqA_norm, seqA_ret, seqA_exit, normA_some, condA_t, condA_f, startA_go, blockA_norm, blockA_ret, blockA_exit, AV.cells, PV.cells, outR_ret, outR_norm, resA, one1, mapO, toPV, Option.bind_some, Option.map_some, AV.one, List.all, Bool.and_self, true_and, and_self, and_true, flatV, Bool.or_true, Bool.true_or, unA, asBool, asInt, Bool.not_true, Bool.not_false, fillA, mkAgg, mkTup, allPV, storeA, loadA, partA, partP, place, lenA_nils, lenA_lit, lenA_uq, lenA_str, lenA_nilm, lenA_own, lenA_mp, setRow, binA, intBin, eqA, fresh, chunk, List.append, List.nil_append, List.cons_append, List.getElem?_cons_zero, List.getElem?_cons_succ, List.getElem?_nil, List.set_cons_zero, List.set_cons_succ, List.length_cons, List.length_nil, Nat.zero_add, Nat.add_zero, List.drop, List.take, flat, elemsP, nilApp, appendA, Bool.false_eq_true, beq_self_eq_true, bne_self_eq_false, Bool.not_eq_true, decide_true, decide_false, reduceCtorEq, Nat.reduceAdd, Nat.reduceMul, Nat.reduceLeDiff, Nat.reduceEqDiff, Nat.le_refl, Int.reduceLT, Int.reduceLE, Int.reduceBEq, Int.reduceEq, Nat.reduceBEq, Option.bind_none, Option.map_none, b_tt, b_tf, b_ft, b_ff, pvInt, Int.cast_ofNat_Int, repZ, Bool.false_and, Bool.and_false, List.headD_cons, List.headD_nil, Nat.reduceLT, Nat.lt_add_one, Nat.reduceSub, Nat.sub_zero, Int.reduceBNe, List.isEmpty_cons, List.isEmpty_nil, Int.reduceGT, Int.reduceGE, Int.reduceAdd, Int.reduceSub, Int.reduceMul, Int.reduceNeg, AV.free, Bool.or_false, Bool.false_or, Nat.mul_one, roundL, roundA, b_leadtrailref13_Match_l0, e1, ls, envM2]
end
end Go.AM.B1

/- The document's Copy of an automaton, and whether two are the same. -/
set_option linter.unusedVariables false
set_option linter.unusedSimpArgs false
namespace Go.AM.B1
open Go.AM

abbrev cpE (e : List Edg) : PV := .lit 3 (e.map encE)
def encC (l : List (List Edg)) : PV := if l.isEmpty then .nils else .lit 1 (l.map cpE)

theorem encC_held {A : PV} {l : List (List Edg)} (h : HeldSt A l) : HeldSt (encC l) l := by
  refine ⟨⟨l.map cpE, ?_, by simp, ?_⟩, h.len, h.lens⟩
  · cases l with
    | nil => exact .inl ⟨rfl, rfl⟩
    | cons e l => exact .inr rfl
  · intro i v e hv he
    rw [List.getElem?_map, he] at hv
    simp at hv
    exact .inr hv.symm

abbrev envC (A : PV) (i : Int) : Tr := (((Tr.lf.set 4 (.pv (i64 i))).set 3 (.ptr 1 0)).set 2 (.ptr 0 0)).set 1 (.pv (.rp [A] 0))
abbrev hpC (out : List PV) (nl : Bool) : List AObj := [.box [.pv .nils], .box [.uq 2 nl 1 out], .tok 1 out.length nl]

section
variable (A : PV) (l : List (List Edg)) (hA : HeldSt A l)
include hA
theorem copy13_round (i : Nat) (hi : i < l.length) (out : List PV) (ho : out.length = i) (nl : Bool) (call : CallF) :
    roundL call [1, 2, 3, 4] b_leadtrailref13_Copy_l0 3 ⟨envC A i, hpC out nl⟩ = some (.norm, ⟨envC A (i + 1 : Nat), hpC (out ++ [cpE l[i]]) false⟩) := by
  obtain ⟨es, V, rfl, hel, hV, hVL⟩ := hA.get hi
  have hlen := hA.lens l[i] (List.getElem_mem hi)
  have hll := hA.len
  generalize l[i] = e at *
  have e1 : decide ((i : Int) < (l.length : Int)) = true := dec_t (by omega)
  have hq : idxOk (i : Int) l.length := by unfold idxOk; omega
  have t1 : ((i : Int)).toNat = i := by simp
  have t2 := stepWrap hi (by unfold maxLen; omega)
  have hme : (e.map encE).length = e.length := by simp
  have q1 : roomOk e.length 24 := by unfold roomOk; omega
  have q2 : roomOk (out.length + 1) 24 := by unfold roomOk; omega
  have hlo : (out ++ [cpE e]).length = out.length + 1 := by simp
  unfold hpC
  rw [hlo]
  unfold cpE
  have q0 : roomOk 0 24 := by unfold roomOk; omega
  generalize hvs : e.map encE = vs at *
  rcases hVL with ⟨rfl, rfl⟩ | rfl
  · have : e.length = 0 := by simpa using hme.symm
    simp (implicitDefEqProofs := false) only [pureF, runF_go, callL_succ, C_skip, C_region, C_seq, C_cond, C_block, C_scope, C_exit, C_ret, C_ghost, ops_cons, ops_nil, oper_go, oper_pr, oper_if, guard_t, guard_f, do_go, do_pr, skip_do, skip_no, onH_go, evalOp, List.map, List.length, if_true, ↓reduceIte, argEnv, AO.ev, Tr.get_set, wantedA, putR_do, putR_no, nextA_some, seqA_norm, seqA_ret, seqA_exit, normA_some, condA_t, condA_f, startA_go, blockA_norm, blockA_ret, blockA_exit, AV.cells, PV.cells, outR_ret, outR_norm, resA, one1, mapO, toPV, Option.bind_some, Option.map_some, AV.one, List.all, Bool.and_self, true_and, and_self, and_true, flatV, Bool.or_true, Bool.true_or, unA, asBool, asInt, Bool.not_true, Bool.not_false, fillA, mkAgg, mkTup, allPV, storeA, loadA, partA, partP, place, lenA_nils, lenA_lit, lenA_uq, lenA_str, lenA_nilm, lenA_own, lenA_mp, setRow, binA, intBin, eqA, fresh, chunk, List.append, List.nil_append, List.cons_append, List.getElem?_cons_zero, List.getElem?_cons_succ, List.getElem?_nil, List.set_cons_zero, List.set_cons_succ, List.length_cons, List.length_nil, Nat.zero_add, Nat.add_zero, List.drop, List.take, flat, elemsP, nilApp, appendA, Bool.false_eq_true, beq_self_eq_true, bne_self_eq_false, Bool.not_eq_true, decide_true, decide_false, reduceCtorEq, Nat.reduceAdd, Nat.reduceMul, Nat.reduceLeDiff, Nat.reduceEqDiff, Nat.le_refl, Int.reduceLT, Int.reduceLE, Int.reduceBEq, Int.reduceEq, Nat.reduceBEq, Option.bind_none, Option.map_none, b_tt, b_tf, b_ft, b_ff, pvInt, Int.cast_ofNat_Int, repZ, Bool.false_and, Bool.and_false, List.headD_cons, List.headD_nil, Nat.reduceLT, Nat.lt_add_one, Nat.reduceSub, Nat.sub_zero, Int.reduceBNe, List.isEmpty_cons, List.isEmpty_nil, Int.reduceGT, Int.reduceGE, Int.reduceAdd, Int.reduceSub, Int.reduceMul, Int.reduceNeg, AV.free, Bool.or_false, Bool.false_or, Nat.mul_one, roundL, roundA, b_leadtrailref13_Copy_l0, e1, hel, eq_true hq, t1, t2, hV, eq_true q0, eq_true q2, iaddrA', envC, partE, AV.pvu, AV.pvu1, List.append_nil, clean, cutEnv, cutO_box, cutO_tok, cut_pv, AV.cut, deep_eq]
  · simp (implicitDefEqProofs := false) only [pureF, runF_go, callL_succ, C_skip, C_region, C_seq, C_cond, C_block, C_scope, C_exit, C_ret, C_ghost, ops_cons, ops_nil, oper_go, oper_pr, oper_if, guard_t, guard_f, do_go, do_pr, skip_do, skip_no, onH_go, evalOp, List.map, List.length, if_true, ↓reduceIte, argEnv, AO.ev, Tr.get_set, wantedA, putR_do, putR_no, nextA_some, seqA_norm, seqA_ret, seqA_exit, normA_some, condA_t, condA_f, startA_go, blockA_norm, blockA_ret, blockA_exit, AV.cells, PV.cells, outR_ret, outR_norm, resA, one1, mapO, toPV, Option.bind_some, Option.map_some, AV.one, List.all, Bool.and_self, true_and, and_self, and_true, flatV, Bool.or_true, Bool.true_or, unA, asBool, asInt, Bool.not_true, Bool.not_false, fillA, mkAgg, mkTup, allPV, storeA, loadA, partA, partP, place, lenA_nils, lenA_lit, lenA_uq, lenA_str, lenA_nilm, lenA_own, lenA_mp, setRow, binA, intBin, eqA, fresh, chunk, List.append, List.nil_append, List.cons_append, List.getElem?_cons_zero, List.getElem?_cons_succ, List.getElem?_nil, List.set_cons_zero, List.set_cons_succ, List.length_cons, List.length_nil, Nat.zero_add, Nat.add_zero, List.drop, List.take, flat, elemsP, nilApp, appendA, Bool.false_eq_true, beq_self_eq_true, bne_self_eq_false, Bool.not_eq_true, decide_true, decide_false, reduceCtorEq, Nat.reduceAdd, Nat.reduceMul, Nat.reduceLeDiff, Nat.reduceEqDiff, Nat.le_refl, Int.reduceLT, Int.reduceLE, Int.reduceBEq, Int.reduceEq, Nat.reduceBEq, Option.bind_none, Option.map_none, b_tt, b_tf, b_ft, b_ff, pvInt, Int.cast_ofNat_Int, repZ, Bool.false_and, Bool.and_false, List.headD_cons, List.headD_nil, Nat.reduceLT, Nat.lt_add_one, Nat.reduceSub, Nat.sub_zero, Int.reduceBNe, List.isEmpty_cons, List.isEmpty_nil, Int.reduceGT, Int.reduceGE, Int.reduceAdd, Int.reduceSub, Int.reduceMul, Int.reduceNeg, AV.free, Bool.or_false, Bool.false_or, Nat.mul_one, roundL, roundA, b_leadtrailref13_Copy_l0, e1, hel, hme, eq_true hq, t1, t2, hV, eq_true q1, eq_true q2, iaddrA', envC, partE, AV.pvu, AV.pvu1, List.append_nil, clean, cutEnv, cutO_box, cutO_tok, cut_pv, AV.cut, deep_eq]

theorem copy13_run : F_leadtrailref13_Copy [.agg [A]] = some (.agg [encC l]) := by
  have hla := hA.lenA
  have hll := hA.len
  have key := loop_acc (g := roundL (callL (fun _ => none) 8) [1, 2, 3, 4] b_leadtrailref13_Copy_l0 3)
    (fun i (_ : Unit) => ⟨envC A i, hpC ((l.take i).map cpE) (i == 0)⟩) (fun i _ => ()) (fun i _ => True)
    (fun _ ex t => ex = .exit 0 ∧ t = ⟨((((((envC A l.length).set 6 (.pv (i64 l.length))).set 7 (.pv (.rp [A] 0))).set 8 (.pv A)).set 9 (.pv (i64 l.length))).set 10 (.pv (.bool false))), hpC (l.map cpE) (l.length == 0)⟩)
    l.length (by unfold rounds; omega) () trivial ?_ ?_
  · obtain ⟨ex, ⟨E, H⟩, h, _, rfl, hq⟩ := key
    have h' : loopA (roundA (evalC (callL (fun _ => none) 8) b_leadtrailref13_Copy_l0) (clean 3 [1, 2, 3, 4])) rounds ⟨envC A 0, [.box [.pv .nils], .box [.uq 2 true 1 []], .tok 1 0 true]⟩ = some (.exit 0, ⟨E, H⟩) := h
    rw [hq] at h'
    have hem : (l.length == 0) = l.isEmpty := by cases l <;> rfl
    rw [hem] at h'
    unfold encC
    generalize l.map cpE = out at *
    generalize l.isEmpty = em at *
    simp only [envC, hpC] at h'
    rcases hA.form with rfl | ⟨av, rfl⟩ <;>
    · simp (implicitDefEqProofs := false) only [F_leadtrailref13_Copy, pureF, runF_go, callL_succ, C_skip, C_region, C_seq, C_cond, C_block, C_scope, C_exit, C_ret, C_ghost, ops_cons, ops_nil, oper_go, oper_pr, oper_if, guard_t, guard_f, do_go, do_pr, skip_do, skip_no, onH_go, evalOp, List.map, List.length, if_true, ↓reduceIte, argEnv, AO.ev, Tr.get_set, wantedA, putR_do, putR_no, nextA_some, seqA_norm, seqA_ret, seqA_exit, normA_some, condA_t, condA_f, startA_go, blockA_norm, blockA_ret, blockA_exit, AV.cells, PV.cells, outR_ret, outR_norm, resA, one1, mapO, toPV, Option.bind_some, Option.map_some, AV.one, List.all, Bool.and_self, true_and, and_self, and_true, flatV, Bool.or_true, Bool.true_or, unA, asBool, asInt, Bool.not_true, Bool.not_false, fillA, mkAgg, mkTup, allPV, storeA, loadA, partA, partP, place, lenA_nils, lenA_lit, lenA_uq, lenA_str, lenA_nilm, lenA_own, lenA_mp, setRow, binA, intBin, eqA, fresh, chunk, List.append, List.nil_append, List.cons_append, List.getElem?_cons_zero, List.getElem?_cons_succ, List.getElem?_nil, List.set_cons_zero, List.set_cons_succ, List.length_cons, List.length_nil, Nat.zero_add, Nat.add_zero, List.drop, List.take, flat, elemsP, nilApp, appendA, Bool.false_eq_true, beq_self_eq_true, bne_self_eq_false, Bool.not_eq_true, decide_true, decide_false, reduceCtorEq, Nat.reduceAdd, Nat.reduceMul, Nat.reduceLeDiff, Nat.reduceEqDiff, Nat.le_refl, Int.reduceLT, Int.reduceLE, Int.reduceBEq, Int.reduceEq, Nat.reduceBEq, Option.bind_none, Option.map_none, b_tt, b_tf, b_ft, b_ff, pvInt, Int.cast_ofNat_Int, repZ, Bool.false_and, Bool.and_false, List.headD_cons, List.headD_nil, Nat.reduceLT, Nat.lt_add_one, Nat.reduceSub, Nat.sub_zero, Int.reduceBNe, List.isEmpty_cons, List.isEmpty_nil, Int.reduceGT, Int.reduceGE, Int.reduceAdd, Int.reduceSub, Int.reduceMul, Int.reduceNeg, AV.free, Bool.or_false, Bool.false_or, Nat.mul_one, b_leadtrailref13_Copy, ghostA, C_loop, clean, cutEnv, cutO_box, cutO_tok, cut_pv, AV.cut, deep_eq]
      rw [h']
      cases em <;>
      simp (implicitDefEqProofs := false) only [pureF, runF_go, callL_succ, C_skip, C_region, C_seq, C_cond, C_block, C_scope, C_exit, C_ret, C_ghost, ops_cons, ops_nil, oper_go, oper_pr, oper_if, guard_t, guard_f, do_go, do_pr, skip_do, skip_no, onH_go, evalOp, List.map, List.length, if_true, ↓reduceIte, argEnv, AO.ev, Tr.get_set, wantedA, putR_do, putR_no, nextA_some, seqA_norm, seqA_ret, seqA_exit, normA_some, condA_t, condA_f, startA_go, blockA_norm, blockA_ret, blockA_exit, AV.cells, PV.cells, outR_ret, outR_norm, resA, one1, mapO, toPV, Option.bind_some, Option.map_some, AV.one, List.all, Bool.and_self, true_and, and_self, and_true, flatV, Bool.or_true, Bool.true_or, unA, asBool, asInt, Bool.not_true, Bool.not_false, fillA, mkAgg, mkTup, allPV, storeA, loadA, partA, partP, place, lenA_nils, lenA_lit, lenA_uq, lenA_str, lenA_nilm, lenA_own, lenA_mp, setRow, binA, intBin, eqA, fresh, chunk, List.append, List.nil_append, List.cons_append, List.getElem?_cons_zero, List.getElem?_cons_succ, List.getElem?_nil, List.set_cons_zero, List.set_cons_succ, List.length_cons, List.length_nil, Nat.zero_add, Nat.add_zero, List.drop, List.take, flat, elemsP, nilApp, appendA, Bool.false_eq_true, beq_self_eq_true, bne_self_eq_false, Bool.not_eq_true, decide_true, decide_false, reduceCtorEq, Nat.reduceAdd, Nat.reduceMul, Nat.reduceLeDiff, Nat.reduceEqDiff, Nat.le_refl, Int.reduceLT, Int.reduceLE, Int.reduceBEq, Int.reduceEq, Nat.reduceBEq, Option.bind_none, Option.map_none, b_tt, b_tf, b_ft, b_ff, pvInt, Int.cast_ofNat_Int, repZ, Bool.false_and, Bool.and_false, List.headD_cons, List.headD_nil, Nat.reduceLT, Nat.lt_add_one, Nat.reduceSub, Nat.sub_zero, Int.reduceBNe, List.isEmpty_cons, List.isEmpty_nil, Int.reduceGT, Int.reduceGE, Int.reduceAdd, Int.reduceSub, Int.reduceMul, Int.reduceNeg, AV.free, Bool.or_false, Bool.false_or, Nat.mul_one]
  · rintro i hi _ _
    have hr := copy13_round A l hA i hi ((l.take i).map cpE) (by simp; omega) (i == 0) (callL (fun _ => none) 8)
    refine .inl ⟨(), ?_, rfl, trivial⟩
    show roundL _ _ _ _ _ = _
    rw [hr, List.take_succ_eq_append_getElem hi, List.map_append]
    rfl
  · rintro _ _
    refine ⟨.exit 0, _, ?_, rfl, rfl, rfl⟩
    rw [List.take_length]
    have e1 : decide ((l.length : Int) < (l.length : Int)) = false := dec_f (by omega)
    generalize l.map cpE = out
    generalize (l.length == 0) = em
    simp (implicitDefEqProofs := false) only [pureF, runF_go, callL_succ, C_skip, C_region, C_seq, C_cond, C_block, C_scope, C_exit, C_ret, C_ghost, ops_cons, ops_nil, oper_go, oper_pr, oper_if, guard_t, guard_f, do_go, do_pr, skip_do, skip_no, onH_go, evalOp, List.map, List.length, if_true, ↓reduceIte, argEnv, AO.ev, Tr.get_set, wantedA, putR_do, putR_no, nextA_some, seqA_norm, seqA_ret, seqA_exit, normA_some, condA_t, condA_f, startA_go, blockA_norm, blockA_ret, blockA_exit, AV.cells, PV.cells, outR_ret, outR_norm, resA, one1, mapO, toPV, Option.bind_some, Option.map_some, AV.one, List.all, Bool.and_self, true_and, and_self, and_true, flatV, Bool.or_true, Bool.true_or, unA, asBool, asInt, Bool.not_true, Bool.not_false, fillA, mkAgg, mkTup, allPV, storeA, loadA, partA, partP, place, lenA_nils, lenA_lit, lenA_uq, lenA_str, lenA_nilm, lenA_own, lenA_mp, setRow, binA, intBin, eqA, fresh, chunk, List.append, List.nil_append, List.cons_append, List.getElem?_cons_zero, List.getElem?_cons_succ, List.getElem?_nil, List.set_cons_zero, List.set_cons_succ, List.length_cons, List.length_nil, Nat.zero_add, Nat.add_zero, List.drop, List.take, flat, elemsP, nilApp, appendA, Bool.false_eq_true, beq_self_eq_true, bne_self_eq_false, Bool.not_eq_true, decide_true, decide_false, reduceCtorEq, Nat.reduceAdd, Nat.reduceMul, Nat.reduceLeDiff, Nat.reduceEqDiff, Nat.le_refl, Int.reduceLT, Int.reduceLE, Int.reduceBEq, Int.reduceEq, Nat.reduceBEq, Option.bind_none, Option.map_none, b_tt, b_tf, b_ft, b_ff, pvInt, Int.cast_ofNat_Int, repZ, Bool.false_and, Bool.and_false, List.headD_cons, List.headD_nil, Nat.reduceLT, Nat.lt_add_one, Nat.reduceSub, Nat.sub_zero, Int.reduceBNe, List.isEmpty_cons, List.isEmpty_nil, Int.reduceGT, Int.reduceGE, Int.reduceAdd, Int.reduceSub, Int.reduceMul, Int.reduceNeg, AV.free, Bool.or_false, Bool.false_or, Nat.mul_one, roundL, roundA, b_leadtrailref13_Copy_l0, e1, hla, envC, hpC]
end

/-! ## Same -/

theorem eqKd_E (a b : Edg) : eqKd (.row [1, 1, 1]) (.agg [i64 a.lo, i64 a.hi, i64 a.to]) (.agg [i64 b.lo, i64 b.hi, i64 b.to]) = some (decide (a = b)) := by
  obtain ⟨a1, a2, a3⟩ := a; obtain ⟨b1, b2, b3⟩ := b
  simp only [eqKd, eqCells, eqCell, if_true, Option.bind_some, Option.map_some, Bool.and_true, Edg.mk.injEq, Bool.decide_and]
  congr 1

def same1 : List Edg → List Edg → Bool
  | a :: l, b :: m => decide (a = b) && same1 l m
  | _, _ => true
theorem same1_eq : ∀ (l m : List Edg), l.length = m.length → same1 l m = decide (l = m)
  | [], [], _ => rfl
  | a :: l, b :: m, h => by
    have := same1_eq l m (by simpa using h)
    rw [same1, this]
    simp only [List.cons.injEq, Bool.decide_and]
  | [], _ :: _, h => by cases h
  | _ :: _, [], h => by cases h
def same2 : List (List Edg) → List (List Edg) → Bool
  | a :: l, b :: m => decide (a.length = b.length) && same1 a b && same2 l m
  | _, _ => true
theorem same2_eq : ∀ (l m : List (List Edg)), l.length = m.length → same2 l m = decide (l = m)
  | [], [], _ => rfl
  | a :: l, b :: m, h => by
    have := same2_eq l m (by simpa using h)
    rw [same2, this]
    by_cases hl : a.length = b.length
    · rw [same1_eq a b hl]
      simp only [hl, decide_true, Bool.true_and, List.cons.injEq, Bool.decide_and]
    · have : a ≠ b := fun e => hl (by rw [e])
      simp [hl, this]
  | [], _ :: _, h => by cases h
  | _ :: _, [], h => by cases h

abbrev envS (A B : PV) (i k : Int) : Tr := (((Tr.lf.set 6 (.pv (i64 k))).set 5 (.pv (i64 i))).set 3 (.pv (.rp [B] 0))).set 2 (.pv (.rp [A] 0))
abbrev envS0 (A B : PV) (i : Int) : Tr := ((Tr.lf.set 5 (.pv (i64 i))).set 3 (.pv (.rp [B] 0))).set 2 (.pv (.rp [A] 0))

section
variable (call : CallF) (av bs : List PV) (i : Nat) (a b : List Edg) (V W : PV) (hia : i < av.length) (hib : i < bs.length) (hV : av[i]? = some V) (hW : bs[i]? = some W) (hVL : IsL 3 V (a.map encE)) (hWL : IsL 3 W (b.map encE)) (hw : a.length ≤ maxLen)
include hia hV hVL
theorem same_end : roundL call [2, 3, 5, 6] b_leadtrailref13_Same_l1 0 ⟨envS (.lit 1 av) (.lit 1 bs) i a.length, []⟩ =
    some (.exit 2, ⟨((((((((envS (.lit 1 av) (.lit 1 bs) i a.length).set 34 (.pv (i64 a.length))).set 35 (.pv (.rp [.lit 1 av] 0))).set 36 (.pv (.lit 1 av))).set 37 (.pv (i64 i))).set 38 (.pv (.rp [V] 0))).set 39 (.pv V)).set 40 (.pv (i64 a.length))).set 41 (.pv (.bool false)), []⟩) := by
  have e1 : decide ((a.length : Int) < (a.length : Int)) = false := dec_f (by omega)
  have hq : idxOk (i : Int) av.length := by unfold idxOk; omega
  have t1 : ((i : Int)).toNat = i := by simp
  have ls := hVL.len []
  simp only [List.length_map] at ls
  rcases hVL.form with rfl | ⟨vs, rfl⟩ <;>
  simp (implicitDefEqProofs := false) only [pureF, runF_go, callL_succ, C_skip, C_region, C_seq, C_cond, C_block, C_scope, C_exit, C_ret, C_ghost, ops_cons, ops_nil, oper_go, oper_pr, oper_if, guard_t, guard_f, do_go, do_pr, skip_do, skip_no, onH_go, evalOp, List.map, List.length, if_true, ↓reduceIte, argEnv, AO.ev, Tr.get_set, wantedA, putR_do, putR_no, nextA_some, seqA_norm, seqA_ret, seqA_exit, normA_some, condA_t, condA_f, startA_go, blockA_norm, blockA_ret, blockA_exit, AV.cells, PV.cells, outR_ret, outR_norm, resA, one1, mapO, toPV, Option.bind_some, Option.map_some, AV.one, List.all, Bool.and_self, true_and, and_self, and_true, flatV, Bool.or_true, Bool.true_or, unA, asBool, asInt, Bool.not_true, Bool.not_false, fillA, mkAgg, mkTup, allPV, storeA, loadA, partA, partP, place, lenA_nils, lenA_lit, lenA_uq, lenA_str, lenA_nilm, lenA_own, lenA_mp, setRow, binA, intBin, eqA, fresh, chunk, List.append, List.nil_append, List.cons_append, List.getElem?_cons_zero, List.getElem?_cons_succ, List.getElem?_nil, List.set_cons_zero, List.set_cons_succ, List.length_cons, List.length_nil, Nat.zero_add, Nat.add_zero, List.drop, List.take, flat, elemsP, nilApp, appendA, Bool.false_eq_true, beq_self_eq_true, bne_self_eq_false, Bool.not_eq_true, decide_true, decide_false, reduceCtorEq, Nat.reduceAdd, Nat.reduceMul, Nat.reduceLeDiff, Nat.reduceEqDiff, Nat.le_refl, Int.reduceLT, Int.reduceLE, Int.reduceBEq, Int.reduceEq, Nat.reduceBEq, Option.bind_none, Option.map_none, b_tt, b_tf, b_ft, b_ff, pvInt, Int.cast_ofNat_Int, repZ, Bool.false_and, Bool.and_false, List.headD_cons, List.headD_nil, Nat.reduceLT, Nat.lt_add_one, Nat.reduceSub, Nat.sub_zero, Int.reduceBNe, List.isEmpty_cons, List.isEmpty_nil, Int.reduceGT, Int.reduceGE, Int.reduceAdd, Int.reduceSub, Int.reduceMul, Int.reduceNeg, AV.free, Bool.or_false, Bool.false_or, Nat.mul_one, roundL, roundA, b_leadtrailref13_Same_l1, e1, ls, eq_true hq, t1, hV, iaddrA', envS]
include hib hW hWL hw
theorem same_in (k : Nat) (hk : k < a.length) (hkb : k < b.length) :
    (a[k] = b[k] → roundL call [2, 3, 5, 6] b_leadtrailref13_Same_l1 0 ⟨envS (.lit 1 av) (.lit 1 bs) i k, []⟩ = some (.norm, ⟨envS (.lit 1 av) (.lit 1 bs) i (k + 1 : Nat), []⟩)) ∧
    (¬ a[k] = b[k] → retIs 4 (.pv (.bool false)) (roundL call [2, 3, 5, 6] b_leadtrailref13_Same_l1 0 ⟨envS (.lit 1 av) (.lit 1 bs) i k, []⟩)) := by
  have hVl := hVL.lit (i := k) (by simpa using hk)
  have hWl := hWL.lit (i := k) (by simpa using hkb)
  subst hVl hWl
  have e1 : decide ((k : Int) < (a.length : Int)) = true := dec_t (by omega)
  have hq : idxOk (i : Int) av.length := by unfold idxOk; omega
  have hq2 : idxOk (i : Int) bs.length := by unfold idxOk; omega
  have hq3 : idxOk (k : Int) a.length := by unfold idxOk; omega
  have hq4 : idxOk (k : Int) b.length := by unfold idxOk; omega
  have t1 : ((i : Int)).toNat = i := by simp
  have t2 : ((k : Int)).toNat = k := by simp
  have t3 := stepWrap hk hw
  have g1 : (a.map encE)[k]? = some (.agg [i64 a[k].lo, i64 a[k].hi, i64 a[k].to]) := encE_get hk
  have g2 : (b.map encE)[k]? = some (.agg [i64 b[k].lo, i64 b[k].hi, i64 b[k].to]) := encE_get hkb
  have l1 : (a.map encE).length = a.length := by simp
  have l2 : (b.map encE).length = b.length := by simp
  have he := eqKd_E a[k] b[k]
  generalize a.map encE = vs at *
  generalize b.map encE = ws at *
  generalize a[k] = x at *
  generalize b[k] = y at *
  constructor
  · intro h
    rw [dec_t h] at he
    simp (implicitDefEqProofs := false) only [pureF, runF_go, callL_succ, C_skip, C_region, C_seq, C_cond, C_block, C_scope, C_exit, C_ret, C_ghost, ops_cons, ops_nil, oper_go, oper_pr, oper_if, guard_t, guard_f, do_go, do_pr, skip_do, skip_no, onH_go, evalOp, List.map, List.length, if_true, ↓reduceIte, argEnv, AO.ev, Tr.get_set, wantedA, putR_do, putR_no, nextA_some, seqA_norm, seqA_ret, seqA_exit, normA_some, condA_t, condA_f, startA_go, blockA_norm, blockA_ret, blockA_exit, AV.cells, PV.cells, outR_ret, outR_norm, resA, one1, mapO, toPV, Option.bind_some, Option.map_some, AV.one, List.all, Bool.and_self, true_and, and_self, and_true, flatV, Bool.or_true, Bool.true_or, unA, asBool, asInt, Bool.not_true, Bool.not_false, fillA, mkAgg, mkTup, allPV, storeA, loadA, partA, partP, place, lenA_nils, lenA_lit, lenA_uq, lenA_str, lenA_nilm, lenA_own, lenA_mp, setRow, binA, intBin, eqA, fresh, chunk, List.append, List.nil_append, List.cons_append, List.getElem?_cons_zero, List.getElem?_cons_succ, List.getElem?_nil, List.set_cons_zero, List.set_cons_succ, List.length_cons, List.length_nil, Nat.zero_add, Nat.add_zero, List.drop, List.take, flat, elemsP, nilApp, appendA, Bool.false_eq_true, beq_self_eq_true, bne_self_eq_false, Bool.not_eq_true, decide_true, decide_false, reduceCtorEq, Nat.reduceAdd, Nat.reduceMul, Nat.reduceLeDiff, Nat.reduceEqDiff, Nat.le_refl, Int.reduceLT, Int.reduceLE, Int.reduceBEq, Int.reduceEq, Nat.reduceBEq, Option.bind_none, Option.map_none, b_tt, b_tf, b_ft, b_ff, pvInt, Int.cast_ofNat_Int, repZ, Bool.false_and, Bool.and_false, List.headD_cons, List.headD_nil, Nat.reduceLT, Nat.lt_add_one, Nat.reduceSub, Nat.sub_zero, Int.reduceBNe, List.isEmpty_cons, List.isEmpty_nil, Int.reduceGT, Int.reduceGE, Int.reduceAdd, Int.reduceSub, Int.reduceMul, Int.reduceNeg, AV.free, Bool.or_false, Bool.false_or, Nat.mul_one, roundL, roundA, b_leadtrailref13_Same_l1, e1, eq_true hq, eq_true hq2, eq_true hq3, eq_true hq4, t1, t2, t3, g1, g2, l1, l2, hV, hW, he, iaddrA', envS, clean, cutEnv, cut_pv, AV.cut, deep_eq]
  · intro h
    rw [dec_f h] at he
    simp (implicitDefEqProofs := false) only [pureF, runF_go, callL_succ, C_skip, C_region, C_seq, C_cond, C_block, C_scope, C_exit, C_ret, C_ghost, ops_cons, ops_nil, oper_go, oper_pr, oper_if, guard_t, guard_f, do_go, do_pr, skip_do, skip_no, onH_go, evalOp, List.map, List.length, if_true, ↓reduceIte, argEnv, AO.ev, Tr.get_set, wantedA, putR_do, putR_no, nextA_some, seqA_norm, seqA_ret, seqA_exit, normA_some, condA_t, condA_f, startA_go, blockA_norm, blockA_ret, blockA_exit, AV.cells, PV.cells, outR_ret, outR_norm, resA, one1, mapO, toPV, Option.bind_some, Option.map_some, AV.one, List.all, Bool.and_self, true_and, and_self, and_true, flatV, Bool.or_true, Bool.true_or, unA, asBool, asInt, Bool.not_true, Bool.not_false, fillA, mkAgg, mkTup, allPV, storeA, loadA, partA, partP, place, lenA_nils, lenA_lit, lenA_uq, lenA_str, lenA_nilm, lenA_own, lenA_mp, setRow, binA, intBin, eqA, fresh, chunk, List.append, List.nil_append, List.cons_append, List.getElem?_cons_zero, List.getElem?_cons_succ, List.getElem?_nil, List.set_cons_zero, List.set_cons_succ, List.length_cons, List.length_nil, Nat.zero_add, Nat.add_zero, List.drop, List.take, flat, elemsP, nilApp, appendA, Bool.false_eq_true, beq_self_eq_true, bne_self_eq_false, Bool.not_eq_true, decide_true, decide_false, reduceCtorEq, Nat.reduceAdd, Nat.reduceMul, Nat.reduceLeDiff, Nat.reduceEqDiff, Nat.le_refl, Int.reduceLT, Int.reduceLE, Int.reduceBEq, Int.reduceEq, Nat.reduceBEq, Option.bind_none, Option.map_none, b_tt, b_tf, b_ft, b_ff, pvInt, Int.cast_ofNat_Int, repZ, Bool.false_and, Bool.and_false, List.headD_cons, List.headD_nil, Nat.reduceLT, Nat.lt_add_one, Nat.reduceSub, Nat.sub_zero, Int.reduceBNe, List.isEmpty_cons, List.isEmpty_nil, Int.reduceGT, Int.reduceGE, Int.reduceAdd, Int.reduceSub, Int.reduceMul, Int.reduceNeg, AV.free, Bool.or_false, Bool.false_or, Nat.mul_one, roundL, roundA, b_leadtrailref13_Same_l1, e1, eq_true hq, eq_true hq2, eq_true hq3, eq_true hq4, t1, t2, t3, g1, g2, l1, l2, hV, hW, he, iaddrA', envS, retIs_ret]

theorem same_inner (hab : a.length = b.length) : ∃ ex t, loopA (roundA (evalC call b_leadtrailref13_Same_l1) (clean 0 [2, 3, 5, 6])) rounds ⟨envS (.lit 1 av) (.lit 1 bs) i 0, []⟩ = some (ex, t) ∧ ex.stop = true ∧
    ((same1 a b = true ∧ ex = .exit 2 ∧ t = ⟨((((((((envS (.lit 1 av) (.lit 1 bs) i a.length).set 34 (.pv (i64 a.length))).set 35 (.pv (.rp [.lit 1 av] 0))).set 36 (.pv (.lit 1 av))).set 37 (.pv (i64 i))).set 38 (.pv (.rp [V] 0))).set 39 (.pv V)).set 40 (.pv (i64 a.length))).set 41 (.pv (.bool false)), []⟩) ∨
      (same1 a b = false ∧ ex = .ret ∧ t.env.get 4 = .pv (.bool false))) := by
  have key := loop_acc (g := roundL call [2, 3, 5, 6] b_leadtrailref13_Same_l1 0)
    (fun k (_ : Unit) => ⟨envS (.lit 1 av) (.lit 1 bs) i k, []⟩) (fun k _ => same1 (a.drop k) (b.drop k)) (fun _ _ => True)
    (fun r ex t => (r = true ∧ ex = .exit 2 ∧ t = ⟨((((((((envS (.lit 1 av) (.lit 1 bs) i a.length).set 34 (.pv (i64 a.length))).set 35 (.pv (.rp [.lit 1 av] 0))).set 36 (.pv (.lit 1 av))).set 37 (.pv (i64 i))).set 38 (.pv (.rp [V] 0))).set 39 (.pv V)).set 40 (.pv (i64 a.length))).set 41 (.pv (.bool false)), []⟩) ∨
      (r = false ∧ ex = .ret ∧ t.env.get 4 = .pv (.bool false)))
    a.length (by unfold rounds; unfold maxLen at hw; omega) () trivial ?_ ?_
  · exact key
  · rintro k hk _ _
    obtain ⟨r1, r2⟩ := same_in call av bs i a b V W hia hib hV hW hVL hWL hw k hk (by omega)
    have hd1 : a.drop k = a[k] :: a.drop (k + 1) := List.drop_eq_getElem_cons hk
    have hd2 : b.drop k = b[k] :: b.drop (k + 1) := List.drop_eq_getElem_cons (by omega)
    simp only [hd1, hd2, same1]
    by_cases h : a[k] = b[k]
    · rw [dec_t h, Bool.true_and]
      exact .inl ⟨(), r1 h, rfl, trivial⟩
    · obtain ⟨t, k1, k2⟩ := retIs_spec (r2 h)
      rw [dec_f h, Bool.false_and]
      exact .inr ⟨.ret, t, k1, rfl, .inr ⟨rfl, rfl, k2⟩⟩
  · rintro _ _
    rw [List.drop_length]
    refine ⟨.exit 2, _, same_end call av bs i a V hia hV hVL, rfl, .inl ⟨by cases b.drop a.length <;> rfl, rfl, rfl⟩⟩
end
end Go.AM.B1

/- Whether two automata are the same, by the document. -/
set_option linter.unusedVariables false
set_option linter.unusedSimpArgs false
namespace Go.AM.B1
open Go.AM

section
variable (A B : PV) (l m : List (List Edg)) (hA : HeldSt A l) (hB : HeldSt B m)
include hA hB

theorem same_round (call : CallF) (i : Nat) (hi : i < l.length) (him : i < m.length) :
    (l[i].length = m[i].length → same1 l[i] m[i] = true → roundL call [2, 3, 5] b_leadtrailref13_Same_l0 0 ⟨envS0 A B i, []⟩ = some (.norm, ⟨envS0 A B (i + 1 : Nat), []⟩)) ∧
    (l[i].length = m[i].length → same1 l[i] m[i] = false → retIs 4 (.pv (.bool false)) (roundL call [2, 3, 5] b_leadtrailref13_Same_l0 0 ⟨envS0 A B i, []⟩)) ∧
    (¬ l[i].length = m[i].length → retIs 4 (.pv (.bool false)) (roundL call [2, 3, 5] b_leadtrailref13_Same_l0 0 ⟨envS0 A B i, []⟩)) := by
  obtain ⟨av, V, rfl, hel, hV, hVL⟩ := hA.get hi
  obtain ⟨bv, W, rfl, hel2, hW, hWL⟩ := hB.get him
  have hll := hA.len
  have hla := hA.lens l[i] (List.getElem_mem hi)
  generalize l[i] = a at *
  generalize m[i] = b at *
  have e1 : decide ((i : Int) < (l.length : Int)) = true := dec_t (by omega)
  have hq : idxOk (i : Int) l.length := by unfold idxOk; omega
  have hq2 : idxOk (i : Int) m.length := by unfold idxOk; omega
  have t1 : ((i : Int)).toNat = i := by simp
  have t3 := stepWrap hi (by unfold maxLen; omega)
  have ls := hVL.len
  have ls2 := hWL.len
  simp only [List.length_map] at ls ls2
  refine ⟨?_, ?_, ?_⟩
  · intro h1 h2
    have b1 : ((a.length : Int) == (b.length : Int)) = true := by simp [h1]
    obtain ⟨ex, t, hl, _, hq5⟩ := same_inner call av bv i a b V W (by omega) (by omega) hV hW hVL hWL (by unfold maxLen; omega) h1
    simp only [envS] at hl
    rcases hq5 with ⟨_, rfl, rfl⟩ | ⟨h3, _, _⟩
    · rcases hVL.form with rfl | ⟨vs, rfl⟩ <;> rcases hWL.form with rfl | ⟨ws, rfl⟩ <;>
      · simp (implicitDefEqProofs := false) only [pureF, runF_go, callL_succ, C_skip, C_region, C_seq, C_cond, C_block, C_scope, C_exit, C_ret, C_ghost, ops_cons, ops_nil, oper_go, oper_pr, oper_if, guard_t, guard_f, do_go, do_pr, skip_do, skip_no, onH_go, evalOp, List.map, List.length, if_true, ↓reduceIte, argEnv, AO.ev, Tr.get_set, wantedA, putR_do, putR_no, nextA_some, seqA_norm, seqA_ret, seqA_exit, normA_some, condA_t, condA_f, startA_go, blockA_norm, blockA_ret, blockA_exit, AV.cells, PV.cells, outR_ret, outR_norm, resA, one1, mapO, toPV, Option.bind_some, Option.map_some, AV.one, List.all, Bool.and_self, true_and, and_self, and_true, flatV, Bool.or_true, Bool.true_or, unA, asBool, asInt, Bool.not_true, Bool.not_false, fillA, mkAgg, mkTup, allPV, storeA, loadA, partA, partP, place, lenA_nils, lenA_lit, lenA_uq, lenA_str, lenA_nilm, lenA_own, lenA_mp, setRow, binA, intBin, eqA, fresh, chunk, List.append, List.nil_append, List.cons_append, List.getElem?_cons_zero, List.getElem?_cons_succ, List.getElem?_nil, List.set_cons_zero, List.set_cons_succ, List.length_cons, List.length_nil, Nat.zero_add, Nat.add_zero, List.drop, List.take, flat, elemsP, nilApp, appendA, Bool.false_eq_true, beq_self_eq_true, bne_self_eq_false, Bool.not_eq_true, decide_true, decide_false, reduceCtorEq, Nat.reduceAdd, Nat.reduceMul, Nat.reduceLeDiff, Nat.reduceEqDiff, Nat.le_refl, Int.reduceLT, Int.reduceLE, Int.reduceBEq, Int.reduceEq, Nat.reduceBEq, Option.bind_none, Option.map_none, b_tt, b_tf, b_ft, b_ff, pvInt, Int.cast_ofNat_Int, repZ, Bool.false_and, Bool.and_false, List.headD_cons, List.headD_nil, Nat.reduceLT, Nat.lt_add_one, Nat.reduceSub, Nat.sub_zero, Int.reduceBNe, List.isEmpty_cons, List.isEmpty_nil, Int.reduceGT, Int.reduceGE, Int.reduceAdd, Int.reduceSub, Int.reduceMul, Int.reduceNeg, AV.free, Bool.or_false, Bool.false_or, Nat.mul_one, roundL, roundA, b_leadtrailref13_Same_l0, e1, hel, hel2, eq_true hq, eq_true hq2, t1, hV, hW, ls, ls2, bne, b1, iaddrA', C_loop, envS0, clean, cutEnv, cut_pv, AV.cut, deep_eq]
        rw [hl]
        simp (implicitDefEqProofs := false) only [pureF, runF_go, callL_succ, C_skip, C_region, C_seq, C_cond, C_block, C_scope, C_exit, C_ret, C_ghost, ops_cons, ops_nil, oper_go, oper_pr, oper_if, guard_t, guard_f, do_go, do_pr, skip_do, skip_no, onH_go, evalOp, List.map, List.length, if_true, ↓reduceIte, argEnv, AO.ev, Tr.get_set, wantedA, putR_do, putR_no, nextA_some, seqA_norm, seqA_ret, seqA_exit, normA_some, condA_t, condA_f, startA_go, blockA_norm, blockA_ret, blockA_exit, AV.cells, PV.cells, outR_ret, outR_norm, resA, one1, mapO, toPV, Option.bind_some, Option.map_some, AV.one, List.all, Bool.and_self, true_and, and_self, and_true, flatV, Bool.or_true, Bool.true_or, unA, asBool, asInt, Bool.not_true, Bool.not_false, fillA, mkAgg, mkTup, allPV, storeA, loadA, partA, partP, place, lenA_nils, lenA_lit, lenA_uq, lenA_str, lenA_nilm, lenA_own, lenA_mp, setRow, binA, intBin, eqA, fresh, chunk, List.append, List.nil_append, List.cons_append, List.getElem?_cons_zero, List.getElem?_cons_succ, List.getElem?_nil, List.set_cons_zero, List.set_cons_succ, List.length_cons, List.length_nil, Nat.zero_add, Nat.add_zero, List.drop, List.take, flat, elemsP, nilApp, appendA, Bool.false_eq_true, beq_self_eq_true, bne_self_eq_false, Bool.not_eq_true, decide_true, decide_false, reduceCtorEq, Nat.reduceAdd, Nat.reduceMul, Nat.reduceLeDiff, Nat.reduceEqDiff, Nat.le_refl, Int.reduceLT, Int.reduceLE, Int.reduceBEq, Int.reduceEq, Nat.reduceBEq, Option.bind_none, Option.map_none, b_tt, b_tf, b_ft, b_ff, pvInt, Int.cast_ofNat_Int, repZ, Bool.false_and, Bool.and_false, List.headD_cons, List.headD_nil, Nat.reduceLT, Nat.lt_add_one, Nat.reduceSub, Nat.sub_zero, Int.reduceBNe, List.isEmpty_cons, List.isEmpty_nil, Int.reduceGT, Int.reduceGE, Int.reduceAdd, Int.reduceSub, Int.reduceMul, Int.reduceNeg, AV.free, Bool.or_false, Bool.false_or, Nat.mul_one, t3, envS, clean, cutEnv, cut_pv, AV.cut, deep_eq]
    · rw [h2] at h3; cases h3
  · intro h1 h2
    have b1 : ((a.length : Int) == (b.length : Int)) = true := by simp [h1]
    obtain ⟨ex, t, hl, _, hq5⟩ := same_inner call av bv i a b V W (by omega) (by omega) hV hW hVL hWL (by unfold maxLen; omega) h1
    simp only [envS] at hl
    rcases hq5 with ⟨h3, _, _⟩ | ⟨_, rfl, h4⟩
    · rw [h2] at h3; cases h3
    · rcases hVL.form with rfl | ⟨vs, rfl⟩ <;> rcases hWL.form with rfl | ⟨ws, rfl⟩ <;>
      · simp (implicitDefEqProofs := false) only [pureF, runF_go, callL_succ, C_skip, C_region, C_seq, C_cond, C_block, C_scope, C_exit, C_ret, C_ghost, ops_cons, ops_nil, oper_go, oper_pr, oper_if, guard_t, guard_f, do_go, do_pr, skip_do, skip_no, onH_go, evalOp, List.map, List.length, if_true, ↓reduceIte, argEnv, AO.ev, Tr.get_set, wantedA, putR_do, putR_no, nextA_some, seqA_norm, seqA_ret, seqA_exit, normA_some, condA_t, condA_f, startA_go, blockA_norm, blockA_ret, blockA_exit, AV.cells, PV.cells, outR_ret, outR_norm, resA, one1, mapO, toPV, Option.bind_some, Option.map_some, AV.one, List.all, Bool.and_self, true_and, and_self, and_true, flatV, Bool.or_true, Bool.true_or, unA, asBool, asInt, Bool.not_true, Bool.not_false, fillA, mkAgg, mkTup, allPV, storeA, loadA, partA, partP, place, lenA_nils, lenA_lit, lenA_uq, lenA_str, lenA_nilm, lenA_own, lenA_mp, setRow, binA, intBin, eqA, fresh, chunk, List.append, List.nil_append, List.cons_append, List.getElem?_cons_zero, List.getElem?_cons_succ, List.getElem?_nil, List.set_cons_zero, List.set_cons_succ, List.length_cons, List.length_nil, Nat.zero_add, Nat.add_zero, List.drop, List.take, flat, elemsP, nilApp, appendA, Bool.false_eq_true, beq_self_eq_true, bne_self_eq_false, Bool.not_eq_true, decide_true, decide_false, reduceCtorEq, Nat.reduceAdd, Nat.reduceMul, Nat.reduceLeDiff, Nat.reduceEqDiff, Nat.le_refl, Int.reduceLT, Int.reduceLE, Int.reduceBEq, Int.reduceEq, Nat.reduceBEq, Option.bind_none, Option.map_none, b_tt, b_tf, b_ft, b_ff, pvInt, Int.cast_ofNat_Int, repZ, Bool.false_and, Bool.and_false, List.headD_cons, List.headD_nil, Nat.reduceLT, Nat.lt_add_one, Nat.reduceSub, Nat.sub_zero, Int.reduceBNe, List.isEmpty_cons, List.isEmpty_nil, Int.reduceGT, Int.reduceGE, Int.reduceAdd, Int.reduceSub, Int.reduceMul, Int.reduceNeg, AV.free, Bool.or_false, Bool.false_or, Nat.mul_one, roundL, roundA, b_leadtrailref13_Same_l0, e1, hel, hel2, eq_true hq, eq_true hq2, t1, hV, hW, ls, ls2, bne, b1, iaddrA', C_loop, envS0, clean, cutEnv, cut_pv, AV.cut, deep_eq]
        rw [hl]
        simp (implicitDefEqProofs := false) only [pureF, runF_go, callL_succ, C_skip, C_region, C_seq, C_cond, C_block, C_scope, C_exit, C_ret, C_ghost, ops_cons, ops_nil, oper_go, oper_pr, oper_if, guard_t, guard_f, do_go, do_pr, skip_do, skip_no, onH_go, evalOp, List.map, List.length, if_true, ↓reduceIte, argEnv, AO.ev, Tr.get_set, wantedA, putR_do, putR_no, nextA_some, seqA_norm, seqA_ret, seqA_exit, normA_some, condA_t, condA_f, startA_go, blockA_norm, blockA_ret, blockA_exit, AV.cells, PV.cells, outR_ret, outR_norm, resA, one1, mapO, toPV, Option.bind_some, Option.map_some, AV.one, List.all, Bool.and_self, true_and, and_self, and_true, flatV, Bool.or_true, Bool.true_or, unA, asBool, asInt, Bool.not_true, Bool.not_false, fillA, mkAgg, mkTup, allPV, storeA, loadA, partA, partP, place, lenA_nils, lenA_lit, lenA_uq, lenA_str, lenA_nilm, lenA_own, lenA_mp, setRow, binA, intBin, eqA, fresh, chunk, List.append, List.nil_append, List.cons_append, List.getElem?_cons_zero, List.getElem?_cons_succ, List.getElem?_nil, List.set_cons_zero, List.set_cons_succ, List.length_cons, List.length_nil, Nat.zero_add, Nat.add_zero, List.drop, List.take, flat, elemsP, nilApp, appendA, Bool.false_eq_true, beq_self_eq_true, bne_self_eq_false, Bool.not_eq_true, decide_true, decide_false, reduceCtorEq, Nat.reduceAdd, Nat.reduceMul, Nat.reduceLeDiff, Nat.reduceEqDiff, Nat.le_refl, Int.reduceLT, Int.reduceLE, Int.reduceBEq, Int.reduceEq, Nat.reduceBEq, Option.bind_none, Option.map_none, b_tt, b_tf, b_ft, b_ff, pvInt, Int.cast_ofNat_Int, repZ, Bool.false_and, Bool.and_false, List.headD_cons, List.headD_nil, Nat.reduceLT, Nat.lt_add_one, Nat.reduceSub, Nat.sub_zero, Int.reduceBNe, List.isEmpty_cons, List.isEmpty_nil, Int.reduceGT, Int.reduceGE, Int.reduceAdd, Int.reduceSub, Int.reduceMul, Int.reduceNeg, AV.free, Bool.or_false, Bool.false_or, Nat.mul_one, retIs_ret, h4]
  · intro h1
    have b1 : ((a.length : Int) == (b.length : Int)) = false := beq_ne (by omega)
    have hne : ¬ (V = .nils ∧ W = .nils) := by
      rintro ⟨rfl, rfl⟩
      have k1 := ls []
      have k2 := ls2 []
      simp only [lenA_nils, Option.some.injEq] at k1 k2
      omega
    rcases hVL.form with rfl | ⟨vs, rfl⟩ <;> rcases hWL.form with rfl | ⟨ws, rfl⟩ <;>
    first
    | exact absurd ⟨rfl, rfl⟩ hne
    | simp (implicitDefEqProofs := false) only [pureF, runF_go, callL_succ, C_skip, C_region, C_seq, C_cond, C_block, C_scope, C_exit, C_ret, C_ghost, ops_cons, ops_nil, oper_go, oper_pr, oper_if, guard_t, guard_f, do_go, do_pr, skip_do, skip_no, onH_go, evalOp, List.map, List.length, if_true, ↓reduceIte, argEnv, AO.ev, Tr.get_set, wantedA, putR_do, putR_no, nextA_some, seqA_norm, seqA_ret, seqA_exit, normA_some, condA_t, condA_f, startA_go, blockA_norm, blockA_ret, blockA_exit, AV.cells, PV.cells, outR_ret, outR_norm, resA, one1, mapO, toPV, Option.bind_some, Option.map_some, AV.one, List.all, Bool.and_self, true_and, and_self, and_true, flatV, Bool.or_true, Bool.true_or, unA, asBool, asInt, Bool.not_true, Bool.not_false, fillA, mkAgg, mkTup, allPV, storeA, loadA, partA, partP, place, lenA_nils, lenA_lit, lenA_uq, lenA_str, lenA_nilm, lenA_own, lenA_mp, setRow, binA, intBin, eqA, fresh, chunk, List.append, List.nil_append, List.cons_append, List.getElem?_cons_zero, List.getElem?_cons_succ, List.getElem?_nil, List.set_cons_zero, List.set_cons_succ, List.length_cons, List.length_nil, Nat.zero_add, Nat.add_zero, List.drop, List.take, flat, elemsP, nilApp, appendA, Bool.false_eq_true, beq_self_eq_true, bne_self_eq_false, Bool.not_eq_true, decide_true, decide_false, reduceCtorEq, Nat.reduceAdd, Nat.reduceMul, Nat.reduceLeDiff, Nat.reduceEqDiff, Nat.le_refl, Int.reduceLT, Int.reduceLE, Int.reduceBEq, Int.reduceEq, Nat.reduceBEq, Option.bind_none, Option.map_none, b_tt, b_tf, b_ft, b_ff, pvInt, Int.cast_ofNat_Int, repZ, Bool.false_and, Bool.and_false, List.headD_cons, List.headD_nil, Nat.reduceLT, Nat.lt_add_one, Nat.reduceSub, Nat.sub_zero, Int.reduceBNe, List.isEmpty_cons, List.isEmpty_nil, Int.reduceGT, Int.reduceGE, Int.reduceAdd, Int.reduceSub, Int.reduceMul, Int.reduceNeg, AV.free, Bool.or_false, Bool.false_or, Nat.mul_one, roundL, roundA, b_leadtrailref13_Same_l0, e1, hel, hel2, eq_true hq, eq_true hq2, t1, hV, hW, ls, ls2, bne, b1, iaddrA', envS0, retIs_ret]

theorem same13_run : F_leadtrailref13_Same [.agg [A], .agg [B]] = some (.bool (decide (l = m))) := by
  have hla := hA.lenA
  have hlb := hB.lenA
  have hll := hA.len
  by_cases hlm : l.length = m.length
  · rw [← same2_eq l m hlm]
    have key := loop_acc (g := roundL (callL (fun _ => none) 8) [2, 3, 5] b_leadtrailref13_Same_l0 0)
      (fun i (_ : Unit) => ⟨envS0 A B i, []⟩) (fun i _ => same2 (l.drop i) (m.drop i)) (fun _ _ => True)
      (fun r ex t => (r = true ∧ ex = .exit 0) ∨ (r = false ∧ ex = .ret ∧ t.env.get 4 = .pv (.bool false)))
      l.length (by unfold rounds; omega) () trivial ?_ ?_
    · obtain ⟨ex, ⟨E, H⟩, h, _, hq⟩ := key
      have h' : loopA (roundA (evalC (callL (fun _ => none) 8) b_leadtrailref13_Same_l0) (clean 0 [2, 3, 5])) rounds ⟨envS0 A B 0, []⟩ = some (ex, ⟨E, H⟩) := h
      simp only [envS0] at h'
      rw [List.drop_zero, List.drop_zero] at hq
      generalize same2 l m = r at *
      have b1 : ((l.length : Int) == (m.length : Int)) = true := by simp [hlm]
      rcases hq with ⟨rfl, rfl⟩ | ⟨rfl, rfl, g⟩
      · rcases hA.form with rfl | ⟨av, rfl⟩ <;> rcases hB.form with rfl | ⟨bv, rfl⟩ <;>
        · simp (implicitDefEqProofs := false) only [F_leadtrailref13_Same, pureF, runF_go, callL_succ, C_skip, C_region, C_seq, C_cond, C_block, C_scope, C_exit, C_ret, C_ghost, ops_cons, ops_nil, oper_go, oper_pr, oper_if, guard_t, guard_f, do_go, do_pr, skip_do, skip_no, onH_go, evalOp, List.map, List.length, if_true, ↓reduceIte, argEnv, AO.ev, Tr.get_set, wantedA, putR_do, putR_no, nextA_some, seqA_norm, seqA_ret, seqA_exit, normA_some, condA_t, condA_f, startA_go, blockA_norm, blockA_ret, blockA_exit, AV.cells, PV.cells, outR_ret, outR_norm, resA, one1, mapO, toPV, Option.bind_some, Option.map_some, AV.one, List.all, Bool.and_self, true_and, and_self, and_true, flatV, Bool.or_true, Bool.true_or, unA, asBool, asInt, Bool.not_true, Bool.not_false, fillA, mkAgg, mkTup, allPV, storeA, loadA, partA, partP, place, lenA_nils, lenA_lit, lenA_uq, lenA_str, lenA_nilm, lenA_own, lenA_mp, setRow, binA, intBin, eqA, fresh, chunk, List.append, List.nil_append, List.cons_append, List.getElem?_cons_zero, List.getElem?_cons_succ, List.getElem?_nil, List.set_cons_zero, List.set_cons_succ, List.length_cons, List.length_nil, Nat.zero_add, Nat.add_zero, List.drop, List.take, flat, elemsP, nilApp, appendA, Bool.false_eq_true, beq_self_eq_true, bne_self_eq_false, Bool.not_eq_true, decide_true, decide_false, reduceCtorEq, Nat.reduceAdd, Nat.reduceMul, Nat.reduceLeDiff, Nat.reduceEqDiff, Nat.le_refl, Int.reduceLT, Int.reduceLE, Int.reduceBEq, Int.reduceEq, Nat.reduceBEq, Option.bind_none, Option.map_none, b_tt, b_tf, b_ft, b_ff, pvInt, Int.cast_ofNat_Int, repZ, Bool.false_and, Bool.and_false, List.headD_cons, List.headD_nil, Nat.reduceLT, Nat.lt_add_one, Nat.reduceSub, Nat.sub_zero, Int.reduceBNe, List.isEmpty_cons, List.isEmpty_nil, Int.reduceGT, Int.reduceGE, Int.reduceAdd, Int.reduceSub, Int.reduceMul, Int.reduceNeg, AV.free, Bool.or_false, Bool.false_or, Nat.mul_one, b_leadtrailref13_Same, hla, hlb, bne, b1, C_loop, clean, cutEnv, cut_pv, AV.cut, deep_eq]
          rw [h']
          simp (implicitDefEqProofs := false) only [pureF, runF_go, callL_succ, C_skip, C_region, C_seq, C_cond, C_block, C_scope, C_exit, C_ret, C_ghost, ops_cons, ops_nil, oper_go, oper_pr, oper_if, guard_t, guard_f, do_go, do_pr, skip_do, skip_no, onH_go, evalOp, List.map, List.length, if_true, ↓reduceIte, argEnv, AO.ev, Tr.get_set, wantedA, putR_do, putR_no, nextA_some, seqA_norm, seqA_ret, seqA_exit, normA_some, condA_t, condA_f, startA_go, blockA_norm, blockA_ret, blockA_exit, AV.cells, PV.cells, outR_ret, outR_norm, resA, one1, mapO, toPV, Option.bind_some, Option.map_some, AV.one, List.all, Bool.and_self, true_and, and_self, and_true, flatV, Bool.or_true, Bool.true_or, unA, asBool, asInt, Bool.not_true, Bool.not_false, fillA, mkAgg, mkTup, allPV, storeA, loadA, partA, partP, place, lenA_nils, lenA_lit, lenA_uq, lenA_str, lenA_nilm, lenA_own, lenA_mp, setRow, binA, intBin, eqA, fresh, chunk, List.append, List.nil_append, List.cons_append, List.getElem?_cons_zero, List.getElem?_cons_succ, List.getElem?_nil, List.set_cons_zero, List.set_cons_succ, List.length_cons, List.length_nil, Nat.zero_add, Nat.add_zero, List.drop, List.take, flat, elemsP, nilApp, appendA, Bool.false_eq_true, beq_self_eq_true, bne_self_eq_false, Bool.not_eq_true, decide_true, decide_false, reduceCtorEq, Nat.reduceAdd, Nat.reduceMul, Nat.reduceLeDiff, Nat.reduceEqDiff, Nat.le_refl, Int.reduceLT, Int.reduceLE, Int.reduceBEq, Int.reduceEq, Nat.reduceBEq, Option.bind_none, Option.map_none, b_tt, b_tf, b_ft, b_ff, pvInt, Int.cast_ofNat_Int, repZ, Bool.false_and, Bool.and_false, List.headD_cons, List.headD_nil, Nat.reduceLT, Nat.lt_add_one, Nat.reduceSub, Nat.sub_zero, Int.reduceBNe, List.isEmpty_cons, List.isEmpty_nil, Int.reduceGT, Int.reduceGE, Int.reduceAdd, Int.reduceSub, Int.reduceMul, Int.reduceNeg, AV.free, Bool.or_false, Bool.false_or, Nat.mul_one]
      · simp only at g
        rcases hA.form with rfl | ⟨av, rfl⟩ <;> rcases hB.form with rfl | ⟨bv, rfl⟩ <;>
        · simp (implicitDefEqProofs := false) only [F_leadtrailref13_Same, pureF, runF_go, callL_succ, C_skip, C_region, C_seq, C_cond, C_block, C_scope, C_exit, C_ret, C_ghost, ops_cons, ops_nil, oper_go, oper_pr, oper_if, guard_t, guard_f, do_go, do_pr, skip_do, skip_no, onH_go, evalOp, List.map, List.length, if_true, ↓reduceIte, argEnv, AO.ev, Tr.get_set, wantedA, putR_do, putR_no, nextA_some, seqA_norm, seqA_ret, seqA_exit, normA_some, condA_t, condA_f, startA_go, blockA_norm, blockA_ret, blockA_exit, AV.cells, PV.cells, outR_ret, outR_norm, resA, one1, mapO, toPV, Option.bind_some, Option.map_some, AV.one, List.all, Bool.and_self, true_and, and_self, and_true, flatV, Bool.or_true, Bool.true_or, unA, asBool, asInt, Bool.not_true, Bool.not_false, fillA, mkAgg, mkTup, allPV, storeA, loadA, partA, partP, place, lenA_nils, lenA_lit, lenA_uq, lenA_str, lenA_nilm, lenA_own, lenA_mp, setRow, binA, intBin, eqA, fresh, chunk, List.append, List.nil_append, List.cons_append, List.getElem?_cons_zero, List.getElem?_cons_succ, List.getElem?_nil, List.set_cons_zero, List.set_cons_succ, List.length_cons, List.length_nil, Nat.zero_add, Nat.add_zero, List.drop, List.take, flat, elemsP, nilApp, appendA, Bool.false_eq_true, beq_self_eq_true, bne_self_eq_false, Bool.not_eq_true, decide_true, decide_false, reduceCtorEq, Nat.reduceAdd, Nat.reduceMul, Nat.reduceLeDiff, Nat.reduceEqDiff, Nat.le_refl, Int.reduceLT, Int.reduceLE, Int.reduceBEq, Int.reduceEq, Nat.reduceBEq, Option.bind_none, Option.map_none, b_tt, b_tf, b_ft, b_ff, pvInt, Int.cast_ofNat_Int, repZ, Bool.false_and, Bool.and_false, List.headD_cons, List.headD_nil, Nat.reduceLT, Nat.lt_add_one, Nat.reduceSub, Nat.sub_zero, Int.reduceBNe, List.isEmpty_cons, List.isEmpty_nil, Int.reduceGT, Int.reduceGE, Int.reduceAdd, Int.reduceSub, Int.reduceMul, Int.reduceNeg, AV.free, Bool.or_false, Bool.false_or, Nat.mul_one, b_leadtrailref13_Same, hla, hlb, bne, b1, C_loop, clean, cutEnv, cut_pv, AV.cut, deep_eq]
          rw [h']
          simp (implicitDefEqProofs := false) only [pureF, runF_go, callL_succ, C_skip, C_region, C_seq, C_cond, C_block, C_scope, C_exit, C_ret, C_ghost, ops_cons, ops_nil, oper_go, oper_pr, oper_if, guard_t, guard_f, do_go, do_pr, skip_do, skip_no, onH_go, evalOp, List.map, List.length, if_true, ↓reduceIte, argEnv, AO.ev, Tr.get_set, wantedA, putR_do, putR_no, nextA_some, seqA_norm, seqA_ret, seqA_exit, normA_some, condA_t, condA_f, startA_go, blockA_norm, blockA_ret, blockA_exit, AV.cells, PV.cells, outR_ret, outR_norm, resA, one1, mapO, toPV, Option.bind_some, Option.map_some, AV.one, List.all, Bool.and_self, true_and, and_self, and_true, flatV, Bool.or_true, Bool.true_or, unA, asBool, asInt, Bool.not_true, Bool.not_false, fillA, mkAgg, mkTup, allPV, storeA, loadA, partA, partP, place, lenA_nils, lenA_lit, lenA_uq, lenA_str, lenA_nilm, lenA_own, lenA_mp, setRow, binA, intBin, eqA, fresh, chunk, List.append, List.nil_append, List.cons_append, List.getElem?_cons_zero, List.getElem?_cons_succ, List.getElem?_nil, List.set_cons_zero, List.set_cons_succ, List.length_cons, List.length_nil, Nat.zero_add, Nat.add_zero, List.drop, List.take, flat, elemsP, nilApp, appendA, Bool.false_eq_true, beq_self_eq_true, bne_self_eq_false, Bool.not_eq_true, decide_true, decide_false, reduceCtorEq, Nat.reduceAdd, Nat.reduceMul, Nat.reduceLeDiff, Nat.reduceEqDiff, Nat.le_refl, Int.reduceLT, Int.reduceLE, Int.reduceBEq, Int.reduceEq, Nat.reduceBEq, Option.bind_none, Option.map_none, b_tt, b_tf, b_ft, b_ff, pvInt, Int.cast_ofNat_Int, repZ, Bool.false_and, Bool.and_false, List.headD_cons, List.headD_nil, Nat.reduceLT, Nat.lt_add_one, Nat.reduceSub, Nat.sub_zero, Int.reduceBNe, List.isEmpty_cons, List.isEmpty_nil, Int.reduceGT, Int.reduceGE, Int.reduceAdd, Int.reduceSub, Int.reduceMul, Int.reduceNeg, AV.free, Bool.or_false, Bool.false_or, Nat.mul_one, g]
    · rintro i hi _ _
      obtain ⟨r1, r2, r3⟩ := same_round A B l m hA hB (callL (fun _ => none) 8) i hi (by omega)
      have hd1 : l.drop i = l[i] :: l.drop (i + 1) := List.drop_eq_getElem_cons hi
      have hd2 : m.drop i = m[i] :: m.drop (i + 1) := List.drop_eq_getElem_cons (by omega)
      simp only [hd1, hd2, same2]
      by_cases h1 : l[i].length = m[i].length
      · rw [dec_t h1, Bool.true_and]
        cases h2 : same1 l[i] m[i] with
        | true => exact .inl ⟨(), r1 h1 h2, rfl, trivial⟩
        | false =>
          obtain ⟨t, k1, k2⟩ := retIs_spec (r2 h1 h2)
          exact .inr ⟨.ret, t, k1, rfl, .inr ⟨rfl, rfl, k2⟩⟩
      · obtain ⟨t, k1, k2⟩ := retIs_spec (r3 h1)
        rw [dec_f h1, Bool.false_and, Bool.false_and]
        exact .inr ⟨.ret, t, k1, rfl, .inr ⟨rfl, rfl, k2⟩⟩
    · rintro _ _
      rw [List.drop_length]
      have e1 : decide ((l.length : Int) < (l.length : Int)) = false := dec_f (by omega)
      have e2 : same2 [] (m.drop l.length) = true := by cases m.drop l.length <;> rfl
      refine ⟨.exit 0, ⟨(((((envS0 A B l.length).set 14 (.pv (i64 l.length))).set 15 (.pv (.rp [A] 0))).set 16 (.pv A)).set 17 (.pv (i64 l.length))).set 18 (.pv (.bool false)), []⟩, ?_, rfl, .inl ⟨e2, rfl⟩⟩
      simp (implicitDefEqProofs := false) only [pureF, runF_go, callL_succ, C_skip, C_region, C_seq, C_cond, C_block, C_scope, C_exit, C_ret, C_ghost, ops_cons, ops_nil, oper_go, oper_pr, oper_if, guard_t, guard_f, do_go, do_pr, skip_do, skip_no, onH_go, evalOp, List.map, List.length, if_true, ↓reduceIte, argEnv, AO.ev, Tr.get_set, wantedA, putR_do, putR_no, nextA_some, seqA_norm, seqA_ret, seqA_exit, normA_some, condA_t, condA_f, startA_go, blockA_norm, blockA_ret, blockA_exit, AV.cells, PV.cells, outR_ret, outR_norm, resA, one1, mapO, toPV, Option.bind_some, Option.map_some, AV.one, List.all, Bool.and_self, true_and, and_self, and_true, flatV, Bool.or_true, Bool.true_or, unA, asBool, asInt, Bool.not_true, Bool.not_false, fillA, mkAgg, mkTup, allPV, storeA, loadA, partA, partP, place, lenA_nils, lenA_lit, lenA_uq, lenA_str, lenA_nilm, lenA_own, lenA_mp, setRow, binA, intBin, eqA, fresh, chunk, List.append, List.nil_append, List.cons_append, List.getElem?_cons_zero, List.getElem?_cons_succ, List.getElem?_nil, List.set_cons_zero, List.set_cons_succ, List.length_cons, List.length_nil, Nat.zero_add, Nat.add_zero, List.drop, List.take, flat, elemsP, nilApp, appendA, Bool.false_eq_true, beq_self_eq_true, bne_self_eq_false, Bool.not_eq_true, decide_true, decide_false, reduceCtorEq, Nat.reduceAdd, Nat.reduceMul, Nat.reduceLeDiff, Nat.reduceEqDiff, Nat.le_refl, Int.reduceLT, Int.reduceLE, Int.reduceBEq, Int.reduceEq, Nat.reduceBEq, Option.bind_none, Option.map_none, b_tt, b_tf, b_ft, b_ff, pvInt, Int.cast_ofNat_Int, repZ, Bool.false_and, Bool.and_false, List.headD_cons, List.headD_nil, Nat.reduceLT, Nat.lt_add_one, Nat.reduceSub, Nat.sub_zero, Int.reduceBNe, List.isEmpty_cons, List.isEmpty_nil, Int.reduceGT, Int.reduceGE, Int.reduceAdd, Int.reduceSub, Int.reduceMul, Int.reduceNeg, AV.free, Bool.or_false, Bool.false_or, Nat.mul_one, roundL, roundA, b_leadtrailref13_Same_l0, e1, hla, envS0]
  · have : l ≠ m := fun e => hlm (by rw [e])
    rw [dec_f this]
    have b1 : ((l.length : Int) == (m.length : Int)) = false := beq_ne (by omega)
    have hne : ¬ (A = .nils ∧ B = .nils) := by
      rintro ⟨rfl, rfl⟩
      have k1 := hla []
      have k2 := hlb []
      simp only [lenA_nils, Option.some.injEq] at k1 k2
      omega
    rcases hA.form with rfl | ⟨av, rfl⟩ <;> rcases hB.form with rfl | ⟨bv, rfl⟩ <;>
    first
    | exact absurd ⟨rfl, rfl⟩ hne
    | simp (implicitDefEqProofs := false) only [F_leadtrailref13_Same, pureF, runF_go, callL_succ, C_skip, C_region, C_seq, C_cond, C_block, C_scope, C_exit, C_ret, C_ghost, ops_cons, ops_nil, oper_go, oper_pr, oper_if, guard_t, guard_f, do_go, do_pr, skip_do, skip_no, onH_go, evalOp, List.map, List.length, if_true, ↓reduceIte, argEnv, AO.ev, Tr.get_set, wantedA, putR_do, putR_no, nextA_some, seqA_norm, seqA_ret, seqA_exit, normA_some, condA_t, condA_f, startA_go, blockA_norm, blockA_ret, blockA_exit, AV.cells, PV.cells, outR_ret, outR_norm, resA, one1, mapO, toPV, Option.bind_some, Option.map_some, AV.one, List.all, Bool.and_self, true_and, and_self, and_true, flatV, Bool.or_true, Bool.true_or, unA, asBool, asInt, Bool.not_true, Bool.not_false, fillA, mkAgg, mkTup, allPV, storeA, loadA, partA, partP, place, lenA_nils, lenA_lit, lenA_uq, lenA_str, lenA_nilm, lenA_own, lenA_mp, setRow, binA, intBin, eqA, fresh, chunk, List.append, List.nil_append, List.cons_append, List.getElem?_cons_zero, List.getElem?_cons_succ, List.getElem?_nil, List.set_cons_zero, List.set_cons_succ, List.length_cons, List.length_nil, Nat.zero_add, Nat.add_zero, List.drop, List.take, flat, elemsP, nilApp, appendA, Bool.false_eq_true, beq_self_eq_true, bne_self_eq_false, Bool.not_eq_true, decide_true, decide_false, reduceCtorEq, Nat.reduceAdd, Nat.reduceMul, Nat.reduceLeDiff, Nat.reduceEqDiff, Nat.le_refl, Int.reduceLT, Int.reduceLE, Int.reduceBEq, Int.reduceEq, Nat.reduceBEq, Option.bind_none, Option.map_none, b_tt, b_tf, b_ft, b_ff, pvInt, Int.cast_ofNat_Int, repZ, Bool.false_and, Bool.and_false, List.headD_cons, List.headD_nil, Nat.reduceLT, Nat.lt_add_one, Nat.reduceSub, Nat.sub_zero, Int.reduceBNe, List.isEmpty_cons, List.isEmpty_nil, Int.reduceGT, Int.reduceGE, Int.reduceAdd, Int.reduceSub, Int.reduceMul, Int.reduceNeg, AV.free, Bool.or_false, Bool.false_or, Nat.mul_one, b_leadtrailref13_Same, hla, hlb, bne, b1, deep_eq]
end
end Go.AM.B1

/- AutoRuns: Step and Match are right for any automaton. -/
set_option linter.unusedVariables false
set_option linter.unusedSimpArgs false
namespace Go.AM.B1
open Go.AM

/-- It leaves a block, with what is so then. -/
inductive exitP (n : Nat) (p : St → Prop) : Option (Ex × St) → Prop
  | mk (s : St) : p s → exitP n p (some (.exit n, s))
theorem exitP_exit {n : Nat} {p : St → Prop} {s : St} : exitP n p (some (.exit n, s)) = p s :=
  propext ⟨fun h => by cases h with | mk _ h => exact h, fun h => .mk s h⟩
theorem exitP_spec {n : Nat} {p : St → Prop} {r : Option (Ex × St)} (h : exitP n p r) : ∃ t, r = some (.exit n, t) ∧ p t := by
  cases h with | mk s h => exact ⟨s, rfl, h⟩
abbrev envRu (A B : PV) (st len i : Int) : Tr := (((((Tr.lf.set 46 (.pv (i64 i))).set 45 (.pv (i64 len))).set 44 (.pv B)).set 7 (.ptr 0 0)).set 3 (.pv (.rp [A] 0))).set 1 (.pv (i64 st))

section
variable (A B : PV) (l : List (List Edg)) (hA : HeldSt A l) (st : Int) (bs : List Int) (hB : IsL 1 B (bs.map u8)) (hb : ∀ b ∈ bs, 0 ≤ b ∧ b ≤ 255) (hw : bs.length ≤ 140737488355328)
include hA hB hb hw

theorem runs_round (call : CallF) (i : Nat) (hi : i < bs.length) (H : List AObj) (hH : H = [.box [.pv (encC l)], .tok 1 bs.length false]) :
    ((i : Int) > 50 → exitP 0 (fun t => t.H = H ∧ t.env.get 7 = .ptr 0 0 ∧ t.env.get 3 = .pv (.rp [A] 0)) (roundL call [1, 3, 7, 44, 45, 46] b_leadtraillaw13_AutoRuns_l0 2 ⟨envRu A B st bs.length i, H⟩)) ∧
    (¬ (i : Int) > 50 → roundL call [1, 3, 7, 44, 45, 46] b_leadtraillaw13_AutoRuns_l0 2 ⟨envRu A B st bs.length i, H⟩ = some (.norm, ⟨envRu A B st bs.length (i + 1 : Nat), H⟩)) := by
  have hBl := hB.lit (i := i) (by simpa using hi)
  subst hBl hH
  have e1 : decide ((i : Int) < (bs.length : Int)) = true := dec_t (by omega)
  have hq : idxOk (i : Int) (bs.map u8).length := by unfold idxOk; simp; omega
  have t1 : ((i : Int)).toNat = i := by simp
  have t2 := stepWrap hi (by unfold maxLen; omega)
  have hg := u8_get hi
  have hbb := hb _ (List.getElem_mem hi)
  have hC := encC_held hA
  have hs := refstep_run A l hA st bs[i] hbb
  have hs2 := step_run (encC l) l hC st bs[i] hbb
  generalize stepS l st bs[i] = p at *
  generalize bs[i] = b at *
  obtain ⟨to, ok⟩ := p
  generalize encC l = C at *
  generalize bs.map u8 = es at *
  have b1 : (to == to) = true := by simp
  constructor
  · intro h
    have d := dec_t h
    simp (implicitDefEqProofs := false) only [pureF, runF_go, callL_succ, C_skip, C_region, C_seq, C_cond, C_block, C_scope, C_exit, C_ret, C_ghost, ops_cons, ops_nil, oper_go, oper_pr, oper_if, guard_t, guard_f, do_go, do_pr, skip_do, skip_no, onH_go, evalOp, List.map, List.length, if_true, ↓reduceIte, argEnv, AO.ev, Tr.get_set, wantedA, putR_do, putR_no, nextA_some, seqA_norm, seqA_ret, seqA_exit, normA_some, condA_t, condA_f, startA_go, blockA_norm, blockA_ret, blockA_exit, AV.cells, PV.cells, outR_ret, outR_norm, resA, one1, mapO, toPV, Option.bind_some, Option.map_some, AV.one, List.all, Bool.and_self, true_and, and_self, and_true, flatV, Bool.or_true, Bool.true_or, unA, asBool, asInt, Bool.not_true, Bool.not_false, fillA, mkAgg, mkTup, allPV, storeA, loadA, partA, partP, place, lenA_nils, lenA_lit, lenA_uq, lenA_str, lenA_nilm, lenA_own, lenA_mp, setRow, binA, intBin, eqA, fresh, chunk, List.append, List.nil_append, List.cons_append, List.getElem?_cons_zero, List.getElem?_cons_succ, List.getElem?_nil, List.set_cons_zero, List.set_cons_succ, List.length_cons, List.length_nil, Nat.zero_add, Nat.add_zero, List.drop, List.take, flat, elemsP, nilApp, appendA, Bool.false_eq_true, beq_self_eq_true, bne_self_eq_false, Bool.not_eq_true, decide_true, decide_false, reduceCtorEq, Nat.reduceAdd, Nat.reduceMul, Nat.reduceLeDiff, Nat.reduceEqDiff, Nat.le_refl, Int.reduceLT, Int.reduceLE, Int.reduceBEq, Int.reduceEq, Nat.reduceBEq, Option.bind_none, Option.map_none, b_tt, b_tf, b_ft, b_ff, pvInt, Int.cast_ofNat_Int, repZ, Bool.false_and, Bool.and_false, List.headD_cons, List.headD_nil, Nat.reduceLT, Nat.lt_add_one, Nat.reduceSub, Nat.sub_zero, Int.reduceBNe, List.isEmpty_cons, List.isEmpty_nil, Int.reduceGT, Int.reduceGE, Int.reduceAdd, Int.reduceSub, Int.reduceMul, Int.reduceNeg, AV.free, Bool.or_false, Bool.false_or, Nat.mul_one, roundL, roundA, b_leadtraillaw13_AutoRuns_l0, e1, eq_true hq, t1, t2, hg, d, iaddrA', envRu, exitP_exit]
  · intro h
    have d := dec_f h
    have b2 : (ok == ok) = true := by simp
    cases ok <;> rcases hA.form with rfl | ⟨av, rfl⟩ <;> rcases hC.form with rfl | ⟨cv, rfl⟩ <;>
    simp (implicitDefEqProofs := false) only [pureF, runF_go, callL_succ, C_skip, C_region, C_seq, C_cond, C_block, C_scope, C_exit, C_ret, C_ghost, ops_cons, ops_nil, oper_go, oper_pr, oper_if, guard_t, guard_f, do_go, do_pr, skip_do, skip_no, onH_go, evalOp, List.map, List.length, if_true, ↓reduceIte, argEnv, AO.ev, Tr.get_set, wantedA, putR_do, putR_no, nextA_some, seqA_norm, seqA_ret, seqA_exit, normA_some, condA_t, condA_f, startA_go, blockA_norm, blockA_ret, blockA_exit, AV.cells, PV.cells, outR_ret, outR_norm, resA, one1, mapO, toPV, Option.bind_some, Option.map_some, AV.one, List.all, Bool.and_self, true_and, and_self, and_true, flatV, Bool.or_true, Bool.true_or, unA, asBool, asInt, Bool.not_true, Bool.not_false, fillA, mkAgg, mkTup, allPV, storeA, loadA, partA, partP, place, lenA_nils, lenA_lit, lenA_uq, lenA_str, lenA_nilm, lenA_own, lenA_mp, setRow, binA, intBin, eqA, fresh, chunk, List.append, List.nil_append, List.cons_append, List.getElem?_cons_zero, List.getElem?_cons_succ, List.getElem?_nil, List.set_cons_zero, List.set_cons_succ, List.length_cons, List.length_nil, Nat.zero_add, Nat.add_zero, List.drop, List.take, flat, elemsP, nilApp, appendA, Bool.false_eq_true, beq_self_eq_true, bne_self_eq_false, Bool.not_eq_true, decide_true, decide_false, reduceCtorEq, Nat.reduceAdd, Nat.reduceMul, Nat.reduceLeDiff, Nat.reduceEqDiff, Nat.le_refl, Int.reduceLT, Int.reduceLE, Int.reduceBEq, Int.reduceEq, Nat.reduceBEq, Option.bind_none, Option.map_none, b_tt, b_tf, b_ft, b_ff, pvInt, Int.cast_ofNat_Int, repZ, Bool.false_and, Bool.and_false, List.headD_cons, List.headD_nil, Nat.reduceLT, Nat.lt_add_one, Nat.reduceSub, Nat.sub_zero, Int.reduceBNe, List.isEmpty_cons, List.isEmpty_nil, Int.reduceGT, Int.reduceGE, Int.reduceAdd, Int.reduceSub, Int.reduceMul, Int.reduceNeg, AV.free, Bool.or_false, Bool.false_or, Nat.mul_one, roundL, roundA, b_leadtraillaw13_AutoRuns_l0, e1, eq_true hq, t1, t2, hg, d, hs, hs2, b1, b2, bne, toPV_pv, iaddrA', envRu, clean, cutEnv, cutO_box, cutO_tok, cut_pv, AV.cut, deep_eq]

theorem runs_run : pureF (fun _ => none) b_leadtraillaw13_AutoRuns [.agg [A], i64 st, B] = some (.bool true) := by
  have ls := hB.len
  simp only [List.length_map] at ls
  have hC := encC_held hA
  have key := loop_acc (g := roundL (callL (fun _ => none) 8) [1, 3, 7, 44, 45, 46] b_leadtraillaw13_AutoRuns_l0 2)
    (fun i (_ : Unit) => ⟨envRu A B st bs.length i, [.box [.pv (encC l)], .tok 1 bs.length false]⟩) (fun i _ => ()) (fun _ _ => True)
    (fun r ex t => ex = .exit 0 ∧ t.H = [.box [.pv (encC l)], .tok 1 bs.length false] ∧ t.env.get 7 = .ptr 0 0 ∧ t.env.get 3 = .pv (.rp [A] 0))
    bs.length (by unfold rounds; omega) () trivial ?_ ?_
  · obtain ⟨ex, ⟨E, H⟩, h, _, rfl, g1, g2, g3⟩ := key
    have h' : loopA (roundA (evalC (callL (fun _ => none) 8) b_leadtraillaw13_AutoRuns_l0) (clean 2 [1, 3, 7, 44, 45, 46])) rounds ⟨envRu A B st bs.length 0, [.box [.pv (encC l)], .tok 1 bs.length false]⟩ = some (.exit 0, ⟨E, H⟩) := h
    simp only [envRu] at h'
    simp only at g1 g2 g3
    subst g1
    have h1 := fixed_run
    have h2 := copy13_run A l hA
    have h3 := match_run (encC l) (.lit 1 (bs.map u8)) l hC bs (.inr rfl) hb (by unfold maxLen; omega)
    have h4 := refmatch_run A B l hA bs hB hb (by unfold maxLen; omega)
    have h5 := same13_run (encC l) A l l hC hA
    rw [dec_t rfl] at h5
    have hlen : (bs.map u8).length = bs.length := by simp
    have q1 : roomOk bs.length 1 := by unfold roomOk; omega
    generalize matchS l 0 0 bs = p at *
    obtain ⟨n, f⟩ := p
    have b1 : (n == n) = true := by simp
    have b2 : (f == f) = true := by simp
    generalize encC l = C at *
    rcases hB with ⟨rfl, hbs⟩ | rfl
    · obtain rfl : bs = [] := by simpa using hbs
      have q0 : roomOk 0 1 := by unfold roomOk; omega
      have h3' : F_auto_Match [.agg [C], .lit 1 []] = some (.tup [i64 n, i64 f]) := h3
      have h'' : loopA (roundA (evalC (callL (fun _ => none) 8) b_leadtraillaw13_AutoRuns_l0) (clean 2 [1, 3, 7, 44, 45, 46])) rounds ⟨(((((Tr.lf.set 46 (.pv (i64 0))).set 45 (.pv (i64 0))).set 44 (.pv .nils)).set 7 (.ptr 0 0)).set 3 (.pv (.rp [A] 0))).set 1 (.pv (i64 st)), [.box [.pv C], .tok 1 0 false]⟩ = some (.exit 0, ⟨E, [.box [.pv C], .tok 1 0 false]⟩) := h'
      rcases hA.form with rfl | ⟨av, rfl⟩ <;> rcases hC.form with rfl | ⟨cv, rfl⟩ <;>
      · simp (implicitDefEqProofs := false) only [pureF, runF_go, callL_succ, C_skip, C_region, C_seq, C_cond, C_block, C_scope, C_exit, C_ret, C_ghost, ops_cons, ops_nil, oper_go, oper_pr, oper_if, guard_t, guard_f, do_go, do_pr, skip_do, skip_no, onH_go, evalOp, List.map, List.length, if_true, ↓reduceIte, argEnv, AO.ev, Tr.get_set, wantedA, putR_do, putR_no, nextA_some, seqA_norm, seqA_ret, seqA_exit, normA_some, condA_t, condA_f, startA_go, blockA_norm, blockA_ret, blockA_exit, AV.cells, PV.cells, outR_ret, outR_norm, resA, one1, mapO, toPV, Option.bind_some, Option.map_some, AV.one, List.all, Bool.and_self, true_and, and_self, and_true, flatV, Bool.or_true, Bool.true_or, unA, asBool, asInt, Bool.not_true, Bool.not_false, fillA, mkAgg, mkTup, allPV, storeA, loadA, partA, partP, place, lenA_nils, lenA_lit, lenA_uq, lenA_str, lenA_nilm, lenA_own, lenA_mp, setRow, binA, intBin, eqA, fresh, chunk, List.append, List.nil_append, List.cons_append, List.getElem?_cons_zero, List.getElem?_cons_succ, List.getElem?_nil, List.set_cons_zero, List.set_cons_succ, List.length_cons, List.length_nil, Nat.zero_add, Nat.add_zero, List.drop, List.take, flat, elemsP, nilApp, appendA, Bool.false_eq_true, beq_self_eq_true, bne_self_eq_false, Bool.not_eq_true, decide_true, decide_false, reduceCtorEq, Nat.reduceAdd, Nat.reduceMul, Nat.reduceLeDiff, Nat.reduceEqDiff, Nat.le_refl, Int.reduceLT, Int.reduceLE, Int.reduceBEq, Int.reduceEq, Nat.reduceBEq, Option.bind_none, Option.map_none, b_tt, b_tf, b_ft, b_ff, pvInt, Int.cast_ofNat_Int, repZ, Bool.false_and, Bool.and_false, List.headD_cons, List.headD_nil, Nat.reduceLT, Nat.lt_add_one, Nat.reduceSub, Nat.sub_zero, Int.reduceBNe, List.isEmpty_cons, List.isEmpty_nil, Int.reduceGT, Int.reduceGE, Int.reduceAdd, Int.reduceSub, Int.reduceMul, Int.reduceNeg, AV.free, Bool.or_false, Bool.false_or, Nat.mul_one, b_leadtraillaw13_AutoRuns, h1, h2, h3', h4, h5, b1, b2, bne, eq_true q0, partE, AV.pvu, AV.pvu1, C_loop, toPV_pv, clean, cutEnv, cutO_box, cutO_tok, cut_pv, AV.cut, deep_eq]
        rw [h'']
        simp (implicitDefEqProofs := false) only [pureF, runF_go, callL_succ, C_skip, C_region, C_seq, C_cond, C_block, C_scope, C_exit, C_ret, C_ghost, ops_cons, ops_nil, oper_go, oper_pr, oper_if, guard_t, guard_f, do_go, do_pr, skip_do, skip_no, onH_go, evalOp, List.map, List.length, if_true, ↓reduceIte, argEnv, AO.ev, Tr.get_set, wantedA, putR_do, putR_no, nextA_some, seqA_norm, seqA_ret, seqA_exit, normA_some, condA_t, condA_f, startA_go, blockA_norm, blockA_ret, blockA_exit, AV.cells, PV.cells, outR_ret, outR_norm, resA, one1, mapO, toPV, Option.bind_some, Option.map_some, AV.one, List.all, Bool.and_self, true_and, and_self, and_true, flatV, Bool.or_true, Bool.true_or, unA, asBool, asInt, Bool.not_true, Bool.not_false, fillA, mkAgg, mkTup, allPV, storeA, loadA, partA, partP, place, lenA_nils, lenA_lit, lenA_uq, lenA_str, lenA_nilm, lenA_own, lenA_mp, setRow, binA, intBin, eqA, fresh, chunk, List.append, List.nil_append, List.cons_append, List.getElem?_cons_zero, List.getElem?_cons_succ, List.getElem?_nil, List.set_cons_zero, List.set_cons_succ, List.length_cons, List.length_nil, Nat.zero_add, Nat.add_zero, List.drop, List.take, flat, elemsP, nilApp, appendA, Bool.false_eq_true, beq_self_eq_true, bne_self_eq_false, Bool.not_eq_true, decide_true, decide_false, reduceCtorEq, Nat.reduceAdd, Nat.reduceMul, Nat.reduceLeDiff, Nat.reduceEqDiff, Nat.le_refl, Int.reduceLT, Int.reduceLE, Int.reduceBEq, Int.reduceEq, Nat.reduceBEq, Option.bind_none, Option.map_none, b_tt, b_tf, b_ft, b_ff, pvInt, Int.cast_ofNat_Int, repZ, Bool.false_and, Bool.and_false, List.headD_cons, List.headD_nil, Nat.reduceLT, Nat.lt_add_one, Nat.reduceSub, Nat.sub_zero, Int.reduceBNe, List.isEmpty_cons, List.isEmpty_nil, Int.reduceGT, Int.reduceGE, Int.reduceAdd, Int.reduceSub, Int.reduceMul, Int.reduceNeg, AV.free, Bool.or_false, Bool.false_or, Nat.mul_one, g2, g3, h5, toPV_pv]
    · generalize bs.map u8 = es at *
      rcases hA.form with rfl | ⟨av, rfl⟩ <;> rcases hC.form with rfl | ⟨cv, rfl⟩ <;>
      · simp (implicitDefEqProofs := false) only [pureF, runF_go, callL_succ, C_skip, C_region, C_seq, C_cond, C_block, C_scope, C_exit, C_ret, C_ghost, ops_cons, ops_nil, oper_go, oper_pr, oper_if, guard_t, guard_f, do_go, do_pr, skip_do, skip_no, onH_go, evalOp, List.map, List.length, if_true, ↓reduceIte, argEnv, AO.ev, Tr.get_set, wantedA, putR_do, putR_no, nextA_some, seqA_norm, seqA_ret, seqA_exit, normA_some, condA_t, condA_f, startA_go, blockA_norm, blockA_ret, blockA_exit, AV.cells, PV.cells, outR_ret, outR_norm, resA, one1, mapO, toPV, Option.bind_some, Option.map_some, AV.one, List.all, Bool.and_self, true_and, and_self, and_true, flatV, Bool.or_true, Bool.true_or, unA, asBool, asInt, Bool.not_true, Bool.not_false, fillA, mkAgg, mkTup, allPV, storeA, loadA, partA, partP, place, lenA_nils, lenA_lit, lenA_uq, lenA_str, lenA_nilm, lenA_own, lenA_mp, setRow, binA, intBin, eqA, fresh, chunk, List.append, List.nil_append, List.cons_append, List.getElem?_cons_zero, List.getElem?_cons_succ, List.getElem?_nil, List.set_cons_zero, List.set_cons_succ, List.length_cons, List.length_nil, Nat.zero_add, Nat.add_zero, List.drop, List.take, flat, elemsP, nilApp, appendA, Bool.false_eq_true, beq_self_eq_true, bne_self_eq_false, Bool.not_eq_true, decide_true, decide_false, reduceCtorEq, Nat.reduceAdd, Nat.reduceMul, Nat.reduceLeDiff, Nat.reduceEqDiff, Nat.le_refl, Int.reduceLT, Int.reduceLE, Int.reduceBEq, Int.reduceEq, Nat.reduceBEq, Option.bind_none, Option.map_none, b_tt, b_tf, b_ft, b_ff, pvInt, Int.cast_ofNat_Int, repZ, Bool.false_and, Bool.and_false, List.headD_cons, List.headD_nil, Nat.reduceLT, Nat.lt_add_one, Nat.reduceSub, Nat.sub_zero, Int.reduceBNe, List.isEmpty_cons, List.isEmpty_nil, Int.reduceGT, Int.reduceGE, Int.reduceAdd, Int.reduceSub, Int.reduceMul, Int.reduceNeg, AV.free, Bool.or_false, Bool.false_or, Nat.mul_one, b_leadtraillaw13_AutoRuns, h1, h2, h3, h4, h5, ls, b1, b2, bne, hlen, eq_true q1, partE, AV.pvu, AV.pvu1, C_loop, toPV_pv, clean, cutEnv, cutO_box, cutO_tok, cut_pv, AV.cut, deep_eq]
        rw [h']
        simp (implicitDefEqProofs := false) only [pureF, runF_go, callL_succ, C_skip, C_region, C_seq, C_cond, C_block, C_scope, C_exit, C_ret, C_ghost, ops_cons, ops_nil, oper_go, oper_pr, oper_if, guard_t, guard_f, do_go, do_pr, skip_do, skip_no, onH_go, evalOp, List.map, List.length, if_true, ↓reduceIte, argEnv, AO.ev, Tr.get_set, wantedA, putR_do, putR_no, nextA_some, seqA_norm, seqA_ret, seqA_exit, normA_some, condA_t, condA_f, startA_go, blockA_norm, blockA_ret, blockA_exit, AV.cells, PV.cells, outR_ret, outR_norm, resA, one1, mapO, toPV, Option.bind_some, Option.map_some, AV.one, List.all, Bool.and_self, true_and, and_self, and_true, flatV, Bool.or_true, Bool.true_or, unA, asBool, asInt, Bool.not_true, Bool.not_false, fillA, mkAgg, mkTup, allPV, storeA, loadA, partA, partP, place, lenA_nils, lenA_lit, lenA_uq, lenA_str, lenA_nilm, lenA_own, lenA_mp, setRow, binA, intBin, eqA, fresh, chunk, List.append, List.nil_append, List.cons_append, List.getElem?_cons_zero, List.getElem?_cons_succ, List.getElem?_nil, List.set_cons_zero, List.set_cons_succ, List.length_cons, List.length_nil, Nat.zero_add, Nat.add_zero, List.drop, List.take, flat, elemsP, nilApp, appendA, Bool.false_eq_true, beq_self_eq_true, bne_self_eq_false, Bool.not_eq_true, decide_true, decide_false, reduceCtorEq, Nat.reduceAdd, Nat.reduceMul, Nat.reduceLeDiff, Nat.reduceEqDiff, Nat.le_refl, Int.reduceLT, Int.reduceLE, Int.reduceBEq, Int.reduceEq, Nat.reduceBEq, Option.bind_none, Option.map_none, b_tt, b_tf, b_ft, b_ff, pvInt, Int.cast_ofNat_Int, repZ, Bool.false_and, Bool.and_false, List.headD_cons, List.headD_nil, Nat.reduceLT, Nat.lt_add_one, Nat.reduceSub, Nat.sub_zero, Int.reduceBNe, List.isEmpty_cons, List.isEmpty_nil, Int.reduceGT, Int.reduceGE, Int.reduceAdd, Int.reduceSub, Int.reduceMul, Int.reduceNeg, AV.free, Bool.or_false, Bool.false_or, Nat.mul_one, g2, g3, h5, toPV_pv]
  · rintro i hi _ _
    obtain ⟨r1, r2⟩ := runs_round A B l hA st bs hB hb hw (callL (fun _ => none) 8) i hi _ rfl
    by_cases h : (i : Int) > 50
    · obtain ⟨t, k1, k2⟩ := exitP_spec (r1 h)
      exact .inr ⟨.exit 0, t, k1, rfl, rfl, k2⟩
    · exact .inl ⟨(), r2 h, rfl, trivial⟩
  · rintro _ _
    have e1 : decide ((bs.length : Int) < (bs.length : Int)) = false := dec_f (by omega)
    generalize encC l = C
    refine ⟨.exit 0, ⟨(envRu A B st bs.length bs.length).set 47 (.pv (.bool false)), [.box [.pv C], .tok 1 bs.length false]⟩, ?_, rfl, rfl, rfl, rfl, rfl⟩
    simp (implicitDefEqProofs := false) only [pureF, runF_go, callL_succ, C_skip, C_region, C_seq, C_cond, C_block, C_scope, C_exit, C_ret, C_ghost, ops_cons, ops_nil, oper_go, oper_pr, oper_if, guard_t, guard_f, do_go, do_pr, skip_do, skip_no, onH_go, evalOp, List.map, List.length, if_true, ↓reduceIte, argEnv, AO.ev, Tr.get_set, wantedA, putR_do, putR_no, nextA_some, seqA_norm, seqA_ret, seqA_exit, normA_some, condA_t, condA_f, startA_go, blockA_norm, blockA_ret, blockA_exit, AV.cells, PV.cells, outR_ret, outR_norm, resA, one1, mapO, toPV, Option.bind_some, Option.map_some, AV.one, List.all, Bool.and_self, true_and, and_self, and_true, flatV, Bool.or_true, Bool.true_or, unA, asBool, asInt, Bool.not_true, Bool.not_false, fillA, mkAgg, mkTup, allPV, storeA, loadA, partA, partP, place, lenA_nils, lenA_lit, lenA_uq, lenA_str, lenA_nilm, lenA_own, lenA_mp, setRow, binA, intBin, eqA, fresh, chunk, List.append, List.nil_append, List.cons_append, List.getElem?_cons_zero, List.getElem?_cons_succ, List.getElem?_nil, List.set_cons_zero, List.set_cons_succ, List.length_cons, List.length_nil, Nat.zero_add, Nat.add_zero, List.drop, List.take, flat, elemsP, nilApp, appendA, Bool.false_eq_true, beq_self_eq_true, bne_self_eq_false, Bool.not_eq_true, decide_true, decide_false, reduceCtorEq, Nat.reduceAdd, Nat.reduceMul, Nat.reduceLeDiff, Nat.reduceEqDiff, Nat.le_refl, Int.reduceLT, Int.reduceLE, Int.reduceBEq, Int.reduceEq, Nat.reduceBEq, Option.bind_none, Option.map_none, b_tt, b_tf, b_ft, b_ff, pvInt, Int.cast_ofNat_Int, repZ, Bool.false_and, Bool.and_false, List.headD_cons, List.headD_nil, Nat.reduceLT, Nat.lt_add_one, Nat.reduceSub, Nat.sub_zero, Int.reduceBNe, List.isEmpty_cons, List.isEmpty_nil, Int.reduceGT, Int.reduceGE, Int.reduceAdd, Int.reduceSub, Int.reduceMul, Int.reduceNeg, AV.free, Bool.or_false, Bool.false_or, Nat.mul_one, roundL, roundA, b_leadtraillaw13_AutoRuns_l0, e1, envRu]
end
end Go.AM.B1
