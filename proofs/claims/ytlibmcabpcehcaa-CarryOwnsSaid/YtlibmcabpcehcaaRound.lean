/- One round of CarryPlays. -/
import Derived.Test.YtlibmcabpcehcaaStep2
import Derived.Test.YtlibmcabpcehcaaAm28
set_option linter.unusedVariables false
set_option linter.unusedSimpArgs false
namespace Go.AM.C1
open Go.AM

/-- The temporaries at the loop's head. -/
abbrev envP (S : PV) (len i : Int) : Tr := ((((Tr.lf.set 37 (.pv (.int .i64 i))).set 36 (.pv (.int .i64 len))).set 35 (.pv S)).set 7 (.ptr 2 0)).set 5 (.ptr 0 0)

theorem cut_ring (n d room at_ m : Nat) (r0 r1 r2 r3 r4 r5 r6 r7 : Int) : mapO (AV.cut n d) (ring r0 r1 r2 r3 r4 r5 r6 r7 room at_ m) = some (ring r0 r1 r2 r3 r4 r5 r6 r7 room at_ m) := by
  simp only [cells, mapO, pvInt, cut_pv, Option.bind_some]

theorem deep_eq : deep = 5 + 1 := rfl

theorem round_uq (room at_ n at' n' m : Nat) (h2 : at' < 8) (h3 : n' ≤ 8) (r0 r1 r2 r3 r4 r5 r6 r7 q0 q1 q2 q3 q4 q5 q6 q7 : Int) (x y B : PV) (ops : List PV) (len i : Nat) (hi : i < len) (hl : len = ops.length) (hw : len ≤ maxLen) (k N b : Int) (ho : ops[i]? = some (.agg [.int .i64 k, .int .i64 N, .int .u8 b]))
    (hs : runF (callL tab0 7) c_leadtraillaw02_step [.ptr 0 0, .ptr 2 0, opV k N b] [.box (ring r0 r1 r2 r3 r4 r5 r6 r7 room at_ n), .box [.pv x, .pv y], .box [pvInt room, .pv B], .box [.pv (.int .i64 k), .pv (.int .i64 N), .pv (.int .u8 b)]] =
      some (.pv (.bool true), [.box (ring q0 q1 q2 q3 q4 q5 q6 q7 room at' n'), .box [.pv x, .pv y], .box [pvInt room, .uq 4 false 1 (win at' n' [q0, q1, q2, q3, q4, q5, q6, q7])], .box [.pv (.int .i64 k), .pv (.int .i64 N), .pv (.int .u8 b)], .tok 1 m false])) :
    roundL (callL tab0 8) [5, 7, 35, 36, 37] c_leadtraillaw02_CarryPlays_l0 3 ⟨envP (.lit 3 ops) len i, [.box (ring r0 r1 r2 r3 r4 r5 r6 r7 room at_ n), .box [.pv x, .pv y], .box [pvInt room, .pv B]]⟩ =
      some (.norm, ⟨envP (.lit 3 ops) len (i + 1 : Nat), [.box (ring q0 q1 q2 q3 q4 q5 q6 q7 room at' n'), .box [.pv x, .pv y], .box [pvInt room, .pv (.lit 1 (win at' n' [q0, q1, q2, q3, q4, q5, q6, q7]))]]⟩) := by
  have e1 : decide ((i : Int) < (len : Int)) = true := by simp; omega
  have hq : idxOk (i : Int) ops.length := by unfold idxOk; omega
  have t1 : ((i : Int)).toNat = i := by simp
  have t2 : IntKind.i64.wrap ((i : Int) + 1) = ((i + 1 : Nat) : Int) := wrap_int (by unfold maxLen at hw; omega)
  have hsm := same_uq 4 room at' n' m h2 h3 q0 q1 q2 q3 q4 q5 q6 q7 x y (.int .i64 room) (.int .i64 k) (.int .i64 N) (.int .u8 b)
  unfold pvInt at hs hsm
  generalize win at' n' [q0, q1, q2, q3, q4, q5, q6, q7] = es at *
  simp (implicitDefEqProofs := false) only [pureF, runF_go, callL_succ, C_skip, C_region, C_seq, C_cond, C_block, C_exit, C_ret, C_ghost, ops_cons, ops_nil, oper_go, oper_pr, oper_if, guard_t, guard_f, do_go, do_pr, skip_do, skip_no, onH_go, evalOp, List.map, List.length, if_true, ↓reduceIte, argEnv, AO.ev, Tr.get_set, wantedA, putR_do, putR_no, nextA_some, seqA_norm, seqA_ret, seqA_exit, normA_some, condA_t, condA_f, startA_go, blockA_norm, blockA_ret, blockA_exit, AV.cells, PV.cells, outR_ret, outR_norm, resA, one1, mapO, toPV, Option.bind_some, Option.map_some, AV.one, List.all, Bool.and_self, true_and, and_self, and_true, flatV, Bool.or_true, Bool.true_or, unA, asBool, asInt, Bool.not_true, Bool.not_false, fillA, mkAgg, mkTup, allPV, storeA, loadA, partA, partP, place, lenA_nils, lenA_lit, lenA_uq, lenA_str, lenA_nilm, lenA_own, lenA_mp, setRow, binA, intBin, eqA, fresh, chunk, List.append, List.nil_append, List.cons_append, List.getElem?_cons_zero, List.getElem?_cons_succ, List.getElem?_nil, List.set_cons_zero, List.set_cons_succ, List.length_cons, List.length_nil, Nat.zero_add, Nat.add_zero, List.drop, List.take, flat, elemsP, nilApp, appendA, Bool.false_eq_true, beq_self_eq_true, bne_self_eq_false, Bool.not_eq_true, decide_true, decide_false, reduceCtorEq, Nat.reduceAdd, Nat.reduceMul, Nat.reduceLeDiff, Nat.reduceEqDiff, Nat.le_refl, Int.reduceLT, Int.reduceLE, Int.reduceBEq, Int.reduceEq, Nat.reduceBEq, Option.bind_none, Option.map_none, b_tt, b_tf, b_ft, b_ff, pvInt, Int.cast_ofNat_Int, repZ, Bool.false_and, Bool.and_false, List.headD_cons, List.headD_nil, Nat.reduceLT, Nat.lt_add_one, Nat.reduceSub, Nat.sub_zero, Int.reduceBNe, roundL, roundA, c_leadtraillaw02_CarryPlays_l0, tab0, hs, hsm, e1, eq_true hq, t1, t2, ho, iaddrA', clean, cutEnv, cutObj, cut_ring, cut_pv, AV.cut, deep_eq, envP]

theorem round_lit (room at_ n : Nat) (h2 : at_ < 8) (h3 : n ≤ 8) (r0 r1 r2 r3 r4 r5 r6 r7 : Int) (x y : PV) (ops : List PV) (len i : Nat) (hi : i < len) (hl : len = ops.length) (hw : len ≤ maxLen) (k N b : Int) (ho : ops[i]? = some (.agg [.int .i64 k, .int .i64 N, .int .u8 b]))
    (hs : runF (callL tab0 7) c_leadtraillaw02_step [.ptr 0 0, .ptr 2 0, opV k N b] [.box (ring r0 r1 r2 r3 r4 r5 r6 r7 room at_ n), .box [.pv x, .pv y], .box [pvInt room, .pv (.lit 1 (win at_ n [r0, r1, r2, r3, r4, r5, r6, r7]))], .box [.pv (.int .i64 k), .pv (.int .i64 N), .pv (.int .u8 b)]] =
      some (.pv (.bool true), [.box (ring r0 r1 r2 r3 r4 r5 r6 r7 room at_ n), .box [.pv x, .pv y], .box [pvInt room, .pv (.lit 1 (win at_ n [r0, r1, r2, r3, r4, r5, r6, r7]))], .box [.pv (.int .i64 k), .pv (.int .i64 N), .pv (.int .u8 b)]])) :
    roundL (callL tab0 8) [5, 7, 35, 36, 37] c_leadtraillaw02_CarryPlays_l0 3 ⟨envP (.lit 3 ops) len i, [.box (ring r0 r1 r2 r3 r4 r5 r6 r7 room at_ n), .box [.pv x, .pv y], .box [pvInt room, .pv (.lit 1 (win at_ n [r0, r1, r2, r3, r4, r5, r6, r7]))]]⟩ =
      some (.norm, ⟨envP (.lit 3 ops) len (i + 1 : Nat), [.box (ring r0 r1 r2 r3 r4 r5 r6 r7 room at_ n), .box [.pv x, .pv y], .box [pvInt room, .pv (.lit 1 (win at_ n [r0, r1, r2, r3, r4, r5, r6, r7]))]]⟩) := by
  have e1 : decide ((i : Int) < (len : Int)) = true := by simp; omega
  have hq : idxOk (i : Int) ops.length := by unfold idxOk; omega
  have t1 : ((i : Int)).toNat = i := by simp
  have t2 : IntKind.i64.wrap ((i : Int) + 1) = ((i + 1 : Nat) : Int) := wrap_int (by unfold maxLen at hw; omega)
  have hsm := same_pure 4 room at_ n h2 h3 r0 r1 r2 r3 r4 r5 r6 r7 x y (.int .i64 room) (.lit 1 (win at_ n [r0, r1, r2, r3, r4, r5, r6, r7])) (.int .i64 k) (.int .i64 N) (.int .u8 b)
  unfold pvInt at hs hsm
  generalize win at_ n [r0, r1, r2, r3, r4, r5, r6, r7] = es at *
  simp (implicitDefEqProofs := false) only [pureF, runF_go, callL_succ, C_skip, C_region, C_seq, C_cond, C_block, C_exit, C_ret, C_ghost, ops_cons, ops_nil, oper_go, oper_pr, oper_if, guard_t, guard_f, do_go, do_pr, skip_do, skip_no, onH_go, evalOp, List.map, List.length, if_true, ↓reduceIte, argEnv, AO.ev, Tr.get_set, wantedA, putR_do, putR_no, nextA_some, seqA_norm, seqA_ret, seqA_exit, normA_some, condA_t, condA_f, startA_go, blockA_norm, blockA_ret, blockA_exit, AV.cells, PV.cells, outR_ret, outR_norm, resA, one1, mapO, toPV, Option.bind_some, Option.map_some, AV.one, List.all, Bool.and_self, true_and, and_self, and_true, flatV, Bool.or_true, Bool.true_or, unA, asBool, asInt, Bool.not_true, Bool.not_false, fillA, mkAgg, mkTup, allPV, storeA, loadA, partA, partP, place, lenA_nils, lenA_lit, lenA_uq, lenA_str, lenA_nilm, lenA_own, lenA_mp, setRow, binA, intBin, eqA, fresh, chunk, List.append, List.nil_append, List.cons_append, List.getElem?_cons_zero, List.getElem?_cons_succ, List.getElem?_nil, List.set_cons_zero, List.set_cons_succ, List.length_cons, List.length_nil, Nat.zero_add, Nat.add_zero, List.drop, List.take, flat, elemsP, nilApp, appendA, Bool.false_eq_true, beq_self_eq_true, bne_self_eq_false, Bool.not_eq_true, decide_true, decide_false, reduceCtorEq, Nat.reduceAdd, Nat.reduceMul, Nat.reduceLeDiff, Nat.reduceEqDiff, Nat.le_refl, Int.reduceLT, Int.reduceLE, Int.reduceBEq, Int.reduceEq, Nat.reduceBEq, Option.bind_none, Option.map_none, b_tt, b_tf, b_ft, b_ff, pvInt, Int.cast_ofNat_Int, repZ, Bool.false_and, Bool.and_false, List.headD_cons, List.headD_nil, Nat.reduceLT, Nat.lt_add_one, Nat.reduceSub, Nat.sub_zero, Int.reduceBNe, roundL, roundA, c_leadtraillaw02_CarryPlays_l0, tab0, hs, hsm, e1, eq_true hq, t1, t2, ho, iaddrA', clean, cutEnv, cutObj, cut_ring, cut_pv, AV.cut, deep_eq, envP]

theorem round_nils (room at_ : Nat) (h2 : at_ < 8) (r0 r1 r2 r3 r4 r5 r6 r7 : Int) (x y : PV) (ops : List PV) (len i : Nat) (hi : i < len) (hl : len = ops.length) (hw : len ≤ maxLen) (k N b : Int) (ho : ops[i]? = some (.agg [.int .i64 k, .int .i64 N, .int .u8 b]))
    (hs : runF (callL tab0 7) c_leadtraillaw02_step [.ptr 0 0, .ptr 2 0, opV k N b] [.box (ring r0 r1 r2 r3 r4 r5 r6 r7 room at_ 0), .box [.pv x, .pv y], .box [pvInt room, .pv .nils], .box [.pv (.int .i64 k), .pv (.int .i64 N), .pv (.int .u8 b)]] =
      some (.pv (.bool true), [.box (ring r0 r1 r2 r3 r4 r5 r6 r7 room at_ 0), .box [.pv x, .pv y], .box [pvInt room, .pv .nils], .box [.pv (.int .i64 k), .pv (.int .i64 N), .pv (.int .u8 b)]])) :
    roundL (callL tab0 8) [5, 7, 35, 36, 37] c_leadtraillaw02_CarryPlays_l0 3 ⟨envP (.lit 3 ops) len i, [.box (ring r0 r1 r2 r3 r4 r5 r6 r7 room at_ 0), .box [.pv x, .pv y], .box [pvInt room, .pv .nils]]⟩ =
      some (.norm, ⟨envP (.lit 3 ops) len (i + 1 : Nat), [.box (ring r0 r1 r2 r3 r4 r5 r6 r7 room at_ 0), .box [.pv x, .pv y], .box [pvInt room, .pv .nils]]⟩) := by
  have e1 : decide ((i : Int) < (len : Int)) = true := by simp; omega
  have hq : idxOk (i : Int) ops.length := by unfold idxOk; omega
  have t1 : ((i : Int)).toNat = i := by simp
  have t2 : IntKind.i64.wrap ((i : Int) + 1) = ((i + 1 : Nat) : Int) := wrap_int (by unfold maxLen at hw; omega)
  have hsm := same_pure_nils 4 room at_ h2 r0 r1 r2 r3 r4 r5 r6 r7 x y (.int .i64 room) .nils (.int .i64 k) (.int .i64 N) (.int .u8 b)
  unfold pvInt at hs hsm
  simp (implicitDefEqProofs := false) only [pureF, runF_go, callL_succ, C_skip, C_region, C_seq, C_cond, C_block, C_exit, C_ret, C_ghost, ops_cons, ops_nil, oper_go, oper_pr, oper_if, guard_t, guard_f, do_go, do_pr, skip_do, skip_no, onH_go, evalOp, List.map, List.length, if_true, ↓reduceIte, argEnv, AO.ev, Tr.get_set, wantedA, putR_do, putR_no, nextA_some, seqA_norm, seqA_ret, seqA_exit, normA_some, condA_t, condA_f, startA_go, blockA_norm, blockA_ret, blockA_exit, AV.cells, PV.cells, outR_ret, outR_norm, resA, one1, mapO, toPV, Option.bind_some, Option.map_some, AV.one, List.all, Bool.and_self, true_and, and_self, and_true, flatV, Bool.or_true, Bool.true_or, unA, asBool, asInt, Bool.not_true, Bool.not_false, fillA, mkAgg, mkTup, allPV, storeA, loadA, partA, partP, place, lenA_nils, lenA_lit, lenA_uq, lenA_str, lenA_nilm, lenA_own, lenA_mp, setRow, binA, intBin, eqA, fresh, chunk, List.append, List.nil_append, List.cons_append, List.getElem?_cons_zero, List.getElem?_cons_succ, List.getElem?_nil, List.set_cons_zero, List.set_cons_succ, List.length_cons, List.length_nil, Nat.zero_add, Nat.add_zero, List.drop, List.take, flat, elemsP, nilApp, appendA, Bool.false_eq_true, beq_self_eq_true, bne_self_eq_false, Bool.not_eq_true, decide_true, decide_false, reduceCtorEq, Nat.reduceAdd, Nat.reduceMul, Nat.reduceLeDiff, Nat.reduceEqDiff, Nat.le_refl, Int.reduceLT, Int.reduceLE, Int.reduceBEq, Int.reduceEq, Nat.reduceBEq, Option.bind_none, Option.map_none, b_tt, b_tf, b_ft, b_ff, pvInt, Int.cast_ofNat_Int, repZ, Bool.false_and, Bool.and_false, List.headD_cons, List.headD_nil, Nat.reduceLT, Nat.lt_add_one, Nat.reduceSub, Nat.sub_zero, Int.reduceBNe, roundL, roundA, c_leadtraillaw02_CarryPlays_l0, tab0, hs, hsm, e1, eq_true hq, t1, t2, ho, iaddrA', clean, cutEnv, cutObj, cut_ring, cut_pv, AV.cut, deep_eq, envP]

end Go.AM.C1
