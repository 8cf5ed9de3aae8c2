/- What CarryNil computes: true, whatever the call. -/
import Derived.Test.YtlibmcabpcehcaaTab
import Derived.Test.YtlibmcabpcehcaaAm23
set_option linter.unusedVariables false
set_option linter.unusedSimpArgs false
namespace Go.AM.C1
open Go.AM

theorem same_nil : runF (callL tab0 7) c_leadtraillaw02_same [.pv .nilp, .pv (.agg [.int .i64 0, .nils])] [.box [.pv (.int .i64 0), .pv .nils]] = some (.pv (.bool true), [.box [.pv (.int .i64 0), .pv .nils], .tok 1 0 false]) := by kernel_rfl

theorem nil_run (k n b : Int) : pureF tab0 c_leadtraillaw02_CarryNil [.agg [.int .i64 k, .int .i64 n, .int .u8 b]] = some (.bool true) := by
  by_cases h1 : k = 1
  · subst h1; kernel_rfl
  by_cases h3 : k = 3
  · subst h3; kernel_rfl
  have e1 : (k == 1) = false := by simp [h1]
  have e3 : (k == 3) = false := by simp [h3]
  by_cases h2 : k = 2
  · subst h2
    by_cases hn : n < 0
    · have hd : decide (n < 0) = true := by simp [hn]
      simp (implicitDefEqProofs := false) only [pureF, runF_go, callL_succ, C_skip, C_region, C_seq, C_cond, C_block, C_exit, C_ret, C_ghost, ops_cons, ops_nil, oper_go, oper_pr, oper_if, guard_t, guard_f, do_go, do_pr, skip_do, skip_no, onH_go, evalOp, List.map, List.length, if_true, ↓reduceIte, argEnv, AO.ev, Tr.get_set, wantedA, putR_do, putR_no, nextA_some, seqA_norm, seqA_ret, seqA_exit, normA_some, condA_t, condA_f, startA_go, blockA_norm, blockA_ret, blockA_exit, AV.cells, PV.cells, outR_ret, outR_norm, resA, one1, mapO, toPV, Option.bind_some, Option.map_some, AV.one, List.all, Bool.and_self, true_and, and_self, and_true, flatV, Bool.or_true, Bool.true_or, unA, asBool, asInt, Bool.not_true, Bool.not_false, fillA, mkAgg, mkTup, allPV, storeA, loadA, partA, partP, place, lenA, setRow, binA, intBin, eqA, fresh, chunk, List.append, List.nil_append, List.cons_append, List.getElem?_cons_zero, List.getElem?_cons_succ, List.getElem?_nil, List.set_cons_zero, List.set_cons_succ, List.length_cons, List.length_nil, Nat.zero_add, Nat.add_zero, List.drop, List.take, flat, elemsP, nilApp, appendA, Bool.false_eq_true, beq_self_eq_true, bne_self_eq_false, Bool.not_eq_true, decide_true, decide_false, reduceCtorEq, Nat.reduceAdd, Nat.reduceMul, Nat.reduceLeDiff, Nat.reduceEqDiff, Nat.le_refl, Int.reduceLT, Int.reduceLE, Int.reduceBEq, Int.reduceEq, Nat.reduceBEq, Option.bind_none, Option.map_none, b_tt, b_tf, b_ft, b_ff, pvInt, Int.cast_ofNat_Int, hd, F_fixed, same_nil, c_leadtraillaw02_CarryNil, c_leadtraillaw02_step, c_carry_Carry_At, c_carry_Carry_Len, tab0]
    · have hd : decide (n < 0) = false := by simp [hn]
      have hd2 : decide (0 ≤ n) = true := by simp; omega
      have hd3 : decide (n ≥ 0) = true := by simp; omega
      simp (implicitDefEqProofs := false) only [pureF, runF_go, callL_succ, C_skip, C_region, C_seq, C_cond, C_block, C_exit, C_ret, C_ghost, ops_cons, ops_nil, oper_go, oper_pr, oper_if, guard_t, guard_f, do_go, do_pr, skip_do, skip_no, onH_go, evalOp, List.map, List.length, if_true, ↓reduceIte, argEnv, AO.ev, Tr.get_set, wantedA, putR_do, putR_no, nextA_some, seqA_norm, seqA_ret, seqA_exit, normA_some, condA_t, condA_f, startA_go, blockA_norm, blockA_ret, blockA_exit, AV.cells, PV.cells, outR_ret, outR_norm, resA, one1, mapO, toPV, Option.bind_some, Option.map_some, AV.one, List.all, Bool.and_self, true_and, and_self, and_true, flatV, Bool.or_true, Bool.true_or, unA, asBool, asInt, Bool.not_true, Bool.not_false, fillA, mkAgg, mkTup, allPV, storeA, loadA, partA, partP, place, lenA, setRow, binA, intBin, eqA, fresh, chunk, List.append, List.nil_append, List.cons_append, List.getElem?_cons_zero, List.getElem?_cons_succ, List.getElem?_nil, List.set_cons_zero, List.set_cons_succ, List.length_cons, List.length_nil, Nat.zero_add, Nat.add_zero, List.drop, List.take, flat, elemsP, nilApp, appendA, Bool.false_eq_true, beq_self_eq_true, bne_self_eq_false, Bool.not_eq_true, decide_true, decide_false, reduceCtorEq, Nat.reduceAdd, Nat.reduceMul, Nat.reduceLeDiff, Nat.reduceEqDiff, Nat.le_refl, Int.reduceLT, Int.reduceLE, Int.reduceBEq, Int.reduceEq, Nat.reduceBEq, Option.bind_none, Option.map_none, b_tt, b_tf, b_ft, b_ff, pvInt, Int.cast_ofNat_Int, hd, hd2, hd3, F_fixed, same_nil, c_leadtraillaw02_CarryNil, c_leadtraillaw02_step, c_carry_Carry_At, c_carry_Carry_Len, tab0]
  · have e2 : (k == 2) = false := by simp [h2]
    simp (implicitDefEqProofs := false) only [pureF, runF_go, callL_succ, C_skip, C_region, C_seq, C_cond, C_block, C_exit, C_ret, C_ghost, ops_cons, ops_nil, oper_go, oper_pr, oper_if, guard_t, guard_f, do_go, do_pr, skip_do, skip_no, onH_go, evalOp, List.map, List.length, if_true, ↓reduceIte, argEnv, AO.ev, Tr.get_set, wantedA, putR_do, putR_no, nextA_some, seqA_norm, seqA_ret, seqA_exit, normA_some, condA_t, condA_f, startA_go, blockA_norm, blockA_ret, blockA_exit, AV.cells, PV.cells, outR_ret, outR_norm, resA, one1, mapO, toPV, Option.bind_some, Option.map_some, AV.one, List.all, Bool.and_self, true_and, and_self, and_true, flatV, Bool.or_true, Bool.true_or, unA, asBool, asInt, Bool.not_true, Bool.not_false, fillA, mkAgg, mkTup, allPV, storeA, loadA, partA, partP, place, lenA, setRow, binA, intBin, eqA, fresh, chunk, List.append, List.nil_append, List.cons_append, List.getElem?_cons_zero, List.getElem?_cons_succ, List.getElem?_nil, List.set_cons_zero, List.set_cons_succ, List.length_cons, List.length_nil, Nat.zero_add, Nat.add_zero, List.drop, List.take, flat, elemsP, nilApp, appendA, Bool.false_eq_true, beq_self_eq_true, bne_self_eq_false, Bool.not_eq_true, decide_true, decide_false, reduceCtorEq, Nat.reduceAdd, Nat.reduceMul, Nat.reduceLeDiff, Nat.reduceEqDiff, Nat.le_refl, Int.reduceLT, Int.reduceLE, Int.reduceBEq, Int.reduceEq, Nat.reduceBEq, Option.bind_none, Option.map_none, b_tt, b_tf, b_ft, b_ff, pvInt, Int.cast_ofNat_Int, e1, e2, e3, F_fixed, same_nil, c_leadtraillaw02_CarryNil, c_leadtraillaw02_step, tab0]

theorem nil_pure : PureFn P 6 (pureF tab0 c_leadtraillaw02_CarryNil) := pureF_ok tab0_ok nil_ok

end Go.AM.C1
