/- One round of CarryQueue, its four ways. -/
import Derived.Test.YtlibmcabpcehcaaQueue
set_option linter.unusedVariables false
set_option linter.unusedSimpArgs false
namespace Go.AM.C1
open Go.AM

section
variable (at_ n : Nat) (r0 r1 r2 r3 r4 r5 r6 r7 q0 q1 q2 q3 q4 q5 q6 q7 : Int) (D : PV) (bs : List PV) (len i : Nat) (hi : i < len) (hl : len = bs.length) (hw : len ≤ reachBytes)
  (x : Int) (hx : bs[i]? = some (u8 x)) (I O : List PV) (p q : Bool)
include hi hl hw hx

theorem round_room (h2 : at_ < 8) (dl : Nat) (hD : ∀ H, lenA H 0 (.pv D) = some dl) (h3 : n < 8) (hI : I.length ≤ i) (hd : dl ≤ i)
    (hp : ((ring r0 r1 r2 r3 r4 r5 r6 r7 8 at_ (n + 1)).set ((at_ + n) % 8) (.pv (.int .u8 x))) = ring q0 q1 q2 q3 q4 q5 q6 q7 8 at_ (n + 1)) :
    roundL (callL tab0 8) [1, 5, 7, 8, 26, 27, 28] c_leadtraillaw02_CarryQueue_l0 3 ⟨envQ D (.lit 1 bs) len i (.uq 1 p 1 I) (.uq 2 q 1 O), [.box (ring r0 r1 r2 r3 r4 r5 r6 r7 8 at_ n), .tok 1 I.length p, .tok 1 O.length q]⟩ =
      some (.norm, ⟨envQ D (.lit 1 bs) len (i + 1 : Nat) (.uq 1 false 1 (I ++ [u8 x])) (.uq 2 q 1 O), [.box (ring q0 q1 q2 q3 q4 q5 q6 q7 8 at_ (n + 1)), .tok 1 (I.length + 1) false, .tok 1 O.length q]⟩) := by
  have e1 : decide ((i : Int) < (len : Int)) = true := by simp; omega
  have e2 : decide ((i : Int) < (dl : Int)) = false := by simp; omega
  have hq : idxOk (i : Int) bs.length := by unfold idxOk; omega
  have t1 : ((i : Int)).toNat = i := by simp
  have t2 : IntKind.i64.wrap ((i : Int) + 1) = ((i + 1 : Nat) : Int) := wrap_int (by unfold reachBytes at hw; omega)
  have e3 : ((n : Int) == 8) = false := beq_ne (by omega)
  have e4 : decide (((n + 1 : Nat) : Int) > 8) = false := by simp; omega
  have q1' : roomOk (I.length + 1) 1 := by unfold roomOk; unfold reachBytes at hw; omega
  have hpush := fun T => push_go (callL tab0 7) 8 at_ n (by omega) h2 h3 (.pv (u8 r0)) (.pv (u8 r1)) (.pv (u8 r2)) (.pv (u8 r3)) (.pv (u8 r4)) (.pv (u8 r5)) (.pv (u8 r6)) (.pv (u8 r7)) x T
  simp only [hp] at hpush
  have hl1 := fun T => len_go (callL tab0 7) 8 at_ n (.pv (u8 r0)) (.pv (u8 r1)) (.pv (u8 r2)) (.pv (u8 r3)) (.pv (u8 r4)) (.pv (u8 r5)) (.pv (u8 r6)) (.pv (u8 r7)) T
  simp (implicitDefEqProofs := false) only [pureF, runF_go, callL_succ, C_skip, C_region, C_seq, C_cond, C_block, C_exit, C_ret, C_ghost, ops_cons, ops_nil, oper_go, oper_pr, oper_if, guard_t, guard_f, do_go, do_pr, skip_do, skip_no, onH_go, evalOp, List.map, List.length, if_true, ↓reduceIte, argEnv, AO.ev, Tr.get_set, wantedA, putR_do, putR_no, nextA_some, seqA_norm, seqA_ret, seqA_exit, normA_some, condA_t, condA_f, startA_go, blockA_norm, blockA_ret, blockA_exit, AV.cells, PV.cells, outR_ret, outR_norm, resA, one1, mapO, toPV, Option.bind_some, Option.map_some, AV.one, List.all, Bool.and_self, true_and, and_self, and_true, flatV, Bool.or_true, Bool.true_or, unA, asBool, asInt, Bool.not_true, Bool.not_false, fillA, mkAgg, mkTup, allPV, storeA, loadA, partA, partP, place, lenA_nils, lenA_lit, lenA_uq, lenA_str, lenA_nilm, lenA_own, lenA_mp, setRow, binA, intBin, eqA, fresh, chunk, List.append, List.nil_append, List.cons_append, List.getElem?_cons_zero, List.getElem?_cons_succ, List.getElem?_nil, List.set_cons_zero, List.set_cons_succ, List.length_cons, List.length_nil, Nat.zero_add, Nat.add_zero, List.drop, List.take, flat, elemsP, nilApp, appendA, Bool.false_eq_true, beq_self_eq_true, bne_self_eq_false, Bool.not_eq_true, decide_true, decide_false, reduceCtorEq, Nat.reduceAdd, Nat.reduceMul, Nat.reduceLeDiff, Nat.reduceEqDiff, Nat.le_refl, Int.reduceLT, Int.reduceLE, Int.reduceBEq, Int.reduceEq, Nat.reduceBEq, Option.bind_none, Option.map_none, b_tt, b_tf, b_ft, b_ff, pvInt, Int.cast_ofNat_Int, repZ, Bool.false_and, Bool.and_false, List.headD_cons, List.headD_nil, Nat.reduceLT, Nat.lt_add_one, Nat.reduceSub, Nat.sub_zero, Int.reduceBNe, List.isEmpty_cons, List.isEmpty_nil, Int.reduceGT, Int.reduceGE, Int.reduceAdd, Int.reduceSub, Int.reduceMul, Int.reduceNeg, roundL, roundA, c_leadtraillaw02_CarryQueue_l0, tab0, hpush, len_go, room_go, e1, e2, e3, e4, eq_true hq, eq_true q1', t1, t2, hx, hD, iaddrA', clean, cutEnv, cutObj, cut_ring, cut_pv, AV.cut, deep_eq, envQ]

theorem round_full (dl : Nat) (hD : ∀ H, lenA H 0 (.pv D) = some dl) (hI : I.length ≤ i) (hd : dl ≤ i) :
    roundL (callL tab0 8) [1, 5, 7, 8, 26, 27, 28] c_leadtraillaw02_CarryQueue_l0 3 ⟨envQ D (.lit 1 bs) len i (.uq 1 p 1 I) (.uq 2 q 1 O), [.box (ring r0 r1 r2 r3 r4 r5 r6 r7 8 at_ 8), .tok 1 I.length p, .tok 1 O.length q]⟩ =
      some (.norm, ⟨envQ D (.lit 1 bs) len (i + 1 : Nat) (.uq 1 p 1 I) (.uq 2 q 1 O), [.box (ring r0 r1 r2 r3 r4 r5 r6 r7 8 at_ 8), .tok 1 I.length p, .tok 1 O.length q]⟩) := by
  have e1 : decide ((i : Int) < (len : Int)) = true := by simp; omega
  have hq : idxOk (i : Int) bs.length := by unfold idxOk; omega
  have t1 : ((i : Int)).toNat = i := by simp
  have t2 : IntKind.i64.wrap ((i : Int) + 1) = ((i + 1 : Nat) : Int) := wrap_int (by unfold reachBytes at hw; omega)
  have e2 : decide ((i : Int) < (dl : Int)) = false := by simp; omega
  have e4 : decide ((8 : Int) > 8) = false := by decide
  have hpush := push_full (callL tab0 7) 8 at_ 8 (Nat.le_refl _) (.pv (u8 r0)) (.pv (u8 r1)) (.pv (u8 r2)) (.pv (u8 r3)) (.pv (u8 r4)) (.pv (u8 r5)) (.pv (u8 r6)) (.pv (u8 r7))
  simp (implicitDefEqProofs := false) only [pureF, runF_go, callL_succ, C_skip, C_region, C_seq, C_cond, C_block, C_exit, C_ret, C_ghost, ops_cons, ops_nil, oper_go, oper_pr, oper_if, guard_t, guard_f, do_go, do_pr, skip_do, skip_no, onH_go, evalOp, List.map, List.length, if_true, ↓reduceIte, argEnv, AO.ev, Tr.get_set, wantedA, putR_do, putR_no, nextA_some, seqA_norm, seqA_ret, seqA_exit, normA_some, condA_t, condA_f, startA_go, blockA_norm, blockA_ret, blockA_exit, AV.cells, PV.cells, outR_ret, outR_norm, resA, one1, mapO, toPV, Option.bind_some, Option.map_some, AV.one, List.all, Bool.and_self, true_and, and_self, and_true, flatV, Bool.or_true, Bool.true_or, unA, asBool, asInt, Bool.not_true, Bool.not_false, fillA, mkAgg, mkTup, allPV, storeA, loadA, partA, partP, place, lenA_nils, lenA_lit, lenA_uq, lenA_str, lenA_nilm, lenA_own, lenA_mp, setRow, binA, intBin, eqA, fresh, chunk, List.append, List.nil_append, List.cons_append, List.getElem?_cons_zero, List.getElem?_cons_succ, List.getElem?_nil, List.set_cons_zero, List.set_cons_succ, List.length_cons, List.length_nil, Nat.zero_add, Nat.add_zero, List.drop, List.take, flat, elemsP, nilApp, appendA, Bool.false_eq_true, beq_self_eq_true, bne_self_eq_false, Bool.not_eq_true, decide_true, decide_false, reduceCtorEq, Nat.reduceAdd, Nat.reduceMul, Nat.reduceLeDiff, Nat.reduceEqDiff, Nat.le_refl, Int.reduceLT, Int.reduceLE, Int.reduceBEq, Int.reduceEq, Nat.reduceBEq, Option.bind_none, Option.map_none, b_tt, b_tf, b_ft, b_ff, pvInt, Int.cast_ofNat_Int, repZ, Bool.false_and, Bool.and_false, List.headD_cons, List.headD_nil, Nat.reduceLT, Nat.lt_add_one, Nat.reduceSub, Nat.sub_zero, Int.reduceBNe, List.isEmpty_cons, List.isEmpty_nil, Int.reduceGT, Int.reduceGE, Int.reduceAdd, Int.reduceSub, Int.reduceMul, Int.reduceNeg, roundL, roundA, c_leadtraillaw02_CarryQueue_l0, tab0, hpush, len_go, room_go, e1, e2, e4, eq_true hq, t1, t2, hx, hD, iaddrA', clean, cutEnv, cutObj, cut_ring, cut_pv, AV.cut, deep_eq, envQ]

theorem round_room_drop (h2 : at_ < 8) (h3 : n < 8) (hI : I.length ≤ i) (hO : O.length ≤ i) (ds : List PV) (hd : i < ds.length) (y : Int) (hy : ds[i]? = some (.int .i64 y)) (k : Nat) (hk : k ≤ n + 1) (hm : min (max y 0) ((n + 1 : Nat) : Int) = k)
    (hp : ((ring r0 r1 r2 r3 r4 r5 r6 r7 8 at_ (n + 1)).set ((at_ + n) % 8) (.pv (.int .u8 x))) = ring q0 q1 q2 q3 q4 q5 q6 q7 8 at_ (n + 1)) :
    ∃ q', roundL (callL tab0 8) [1, 5, 7, 8, 26, 27, 28] c_leadtraillaw02_CarryQueue_l0 3 ⟨envQ (.lit 1 ds) (.lit 1 bs) len i (.uq 1 p 1 I) (.uq 2 q 1 O), [.box (ring r0 r1 r2 r3 r4 r5 r6 r7 8 at_ n), .tok 1 I.length p, .tok 1 O.length q]⟩ =
      some (.norm, ⟨envQ (.lit 1 ds) (.lit 1 bs) len (i + 1 : Nat) (.uq 1 false 1 (I ++ [u8 x])) (.uq 2 q' 1 (O ++ (win at_ (n + 1) [q0, q1, q2, q3, q4, q5, q6, q7]).take k)), [.box (ring q0 q1 q2 q3 q4 q5 q6 q7 8 ((at_ + k) % 8) (n + 1 - k)), .tok 1 (I.length + 1) false, .tok 1 (O.length + k) q']⟩) := by
  refine ⟨q && ((win at_ (n + 1) [q0, q1, q2, q3, q4, q5, q6, q7]).take k).isEmpty, ?_⟩
  have e1 : decide ((i : Int) < (len : Int)) = true := by simp; omega
  have hq : idxOk (i : Int) bs.length := by unfold idxOk; omega
  have t1 : ((i : Int)).toNat = i := by simp
  have t2 : IntKind.i64.wrap ((i : Int) + 1) = ((i + 1 : Nat) : Int) := wrap_int (by unfold reachBytes at hw; omega)
  have e2 : decide ((i : Int) < (ds.length : Int)) = true := by simp; omega
  have hq2 : idxOk (i : Int) ds.length := by unfold idxOk; omega
  have hld : ∀ H, lenA H 0 (.pv (.lit 1 ds)) = some ds.length := fun _ => rfl
  have e3 : ((n : Int) == 8) = false := beq_ne (by omega)
  have e4 : decide (((n + 1 - k : Nat) : Int) > 8) = false := by simp; omega
  have q1' : roomOk (I.length + 1) 1 := by unfold roomOk; unfold reachBytes at hw; omega
  have q2' : roomOk (O.length + k) 1 := by unfold roomOk; unfold reachBytes at hw; omega
  have hpush := fun T => push_go (callL tab0 7) 8 at_ n (by omega) h2 h3 (.pv (u8 r0)) (.pv (u8 r1)) (.pv (u8 r2)) (.pv (u8 r3)) (.pv (u8 r4)) (.pv (u8 r5)) (.pv (u8 r6)) (.pv (u8 r7)) x T
  simp only [hp] at hpush
  have g1 : ((0 : Int) ≤ (k : Int)) = True := by simp
  have g2 : ((k : Int) ≤ ((win at_ (n + 1) [q0, q1, q2, q3, q4, q5, q6, q7]).length : Int)) = True := by simp only [List.length_map, List.length_range, eq_iff_iff, iff_true]; omega
  have t4 : ((k : Int)).toNat = k := by simp
  have hlw : ((win at_ (n + 1) [q0, q1, q2, q3, q4, q5, q6, q7]).take k).length = k := by simp; omega
  have hdrop := drop_go (callL tab0 7) 8 at_ (n + 1) k h2 (by omega) hk
  unfold pvInt at hdrop
  have hb := fun a b p q => bytes_toks 5 8 at_ (n + 1) a b p q h2 (by omega) q0 q1 q2 q3 q4 q5 q6 q7
  generalize win at_ (n + 1) [q0, q1, q2, q3, q4, q5, q6, q7] = es at *
  simp (implicitDefEqProofs := false) only [pureF, runF_go, callL_succ, C_skip, C_region, C_seq, C_cond, C_block, C_exit, C_ret, C_ghost, ops_cons, ops_nil, oper_go, oper_pr, oper_if, guard_t, guard_f, do_go, do_pr, skip_do, skip_no, onH_go, evalOp, List.map, List.length, if_true, ↓reduceIte, argEnv, AO.ev, Tr.get_set, wantedA, putR_do, putR_no, nextA_some, seqA_norm, seqA_ret, seqA_exit, normA_some, condA_t, condA_f, startA_go, blockA_norm, blockA_ret, blockA_exit, AV.cells, PV.cells, outR_ret, outR_norm, resA, one1, mapO, toPV, Option.bind_some, Option.map_some, AV.one, List.all, Bool.and_self, true_and, and_self, and_true, flatV, Bool.or_true, Bool.true_or, unA, asBool, asInt, Bool.not_true, Bool.not_false, fillA, mkAgg, mkTup, allPV, storeA, loadA, partA, partP, place, lenA_nils, lenA_lit, lenA_uq, lenA_str, lenA_nilm, lenA_own, lenA_mp, setRow, binA, intBin, eqA, fresh, chunk, List.append, List.nil_append, List.cons_append, List.getElem?_cons_zero, List.getElem?_cons_succ, List.getElem?_nil, List.set_cons_zero, List.set_cons_succ, List.length_cons, List.length_nil, Nat.zero_add, Nat.add_zero, List.drop, List.take, flat, elemsP, nilApp, appendA, Bool.false_eq_true, beq_self_eq_true, bne_self_eq_false, Bool.not_eq_true, decide_true, decide_false, reduceCtorEq, Nat.reduceAdd, Nat.reduceMul, Nat.reduceLeDiff, Nat.reduceEqDiff, Nat.le_refl, Int.reduceLT, Int.reduceLE, Int.reduceBEq, Int.reduceEq, Nat.reduceBEq, Option.bind_none, Option.map_none, b_tt, b_tf, b_ft, b_ff, pvInt, Int.cast_ofNat_Int, repZ, Bool.false_and, Bool.and_false, List.headD_cons, List.headD_nil, Nat.reduceLT, Nat.lt_add_one, Nat.reduceSub, Nat.sub_zero, Int.reduceBNe, List.isEmpty_cons, List.isEmpty_nil, Int.reduceGT, Int.reduceGE, Int.reduceAdd, Int.reduceSub, Int.reduceMul, Int.reduceNeg, roundL, roundA, c_leadtraillaw02_CarryQueue_l0, tab0, hpush, len_go, room_go, hdrop, hb, hlw, e1, e2, e3, e4, g1, g2, eq_true hq, eq_true hq2, eq_true q1', eq_true q2', t1, t2, t4, hx, hy, hld, hm, bestA_mx2, bestA_mn2, sliceA, Option.getD_some, Option.getD_none, Int.le_refl, Int.toNat_zero, List.drop_zero, iaddrA', clean, cutEnv, cutObj, cut_ring, cut_pv, AV.cut, deep_eq, envQ]

theorem round_full_drop (h2 : at_ < 8) (hI : I.length ≤ i) (hO : O.length ≤ i) (ds : List PV) (hd : i < ds.length) (y : Int) (hy : ds[i]? = some (.int .i64 y)) (k : Nat) (hk : k ≤ 8) (hm : min (max y 0) 8 = (k : Int)) :
    ∃ q', roundL (callL tab0 8) [1, 5, 7, 8, 26, 27, 28] c_leadtraillaw02_CarryQueue_l0 3 ⟨envQ (.lit 1 ds) (.lit 1 bs) len i (.uq 1 p 1 I) (.uq 2 q 1 O), [.box (ring r0 r1 r2 r3 r4 r5 r6 r7 8 at_ 8), .tok 1 I.length p, .tok 1 O.length q]⟩ =
      some (.norm, ⟨envQ (.lit 1 ds) (.lit 1 bs) len (i + 1 : Nat) (.uq 1 p 1 I) (.uq 2 q' 1 (O ++ (win at_ 8 [r0, r1, r2, r3, r4, r5, r6, r7]).take k)), [.box (ring r0 r1 r2 r3 r4 r5 r6 r7 8 ((at_ + k) % 8) (8 - k)), .tok 1 I.length p, .tok 1 (O.length + k) q']⟩) := by
  refine ⟨q && ((win at_ 8 [r0, r1, r2, r3, r4, r5, r6, r7]).take k).isEmpty, ?_⟩
  have e1 : decide ((i : Int) < (len : Int)) = true := by simp; omega
  have hq : idxOk (i : Int) bs.length := by unfold idxOk; omega
  have t1 : ((i : Int)).toNat = i := by simp
  have t2 : IntKind.i64.wrap ((i : Int) + 1) = ((i + 1 : Nat) : Int) := wrap_int (by unfold reachBytes at hw; omega)
  have e2 : decide ((i : Int) < (ds.length : Int)) = true := by simp; omega
  have hq2 : idxOk (i : Int) ds.length := by unfold idxOk; omega
  have hld : ∀ H, lenA H 0 (.pv (.lit 1 ds)) = some ds.length := fun _ => rfl
  have e4 : decide (((8 - k : Nat) : Int) > 8) = false := by simp; omega
  have q2' : roomOk (O.length + k) 1 := by unfold roomOk; unfold reachBytes at hw; omega
  have hpush := push_full (callL tab0 7) 8 at_ 8 (Nat.le_refl _) (.pv (u8 r0)) (.pv (u8 r1)) (.pv (u8 r2)) (.pv (u8 r3)) (.pv (u8 r4)) (.pv (u8 r5)) (.pv (u8 r6)) (.pv (u8 r7))
  have g1 : ((0 : Int) ≤ (k : Int)) = True := by simp
  have g2 : ((k : Int) ≤ ((win at_ 8 [r0, r1, r2, r3, r4, r5, r6, r7]).length : Int)) = True := by simp only [List.length_map, List.length_range, eq_iff_iff, iff_true]; omega
  have t4 : ((k : Int)).toNat = k := by simp
  have hlw : ((win at_ 8 [r0, r1, r2, r3, r4, r5, r6, r7]).take k).length = k := by simp; omega
  have hdrop := drop_go (callL tab0 7) 8 at_ (8) k h2 (by omega) hk
  unfold pvInt at hdrop
  have hb := fun a b p q => bytes_toks 5 8 at_ (8) a b p q h2 (by omega) r0 r1 r2 r3 r4 r5 r6 r7
  generalize win at_ 8 [r0, r1, r2, r3, r4, r5, r6, r7] = es at *
  simp (implicitDefEqProofs := false) only [pureF, runF_go, callL_succ, C_skip, C_region, C_seq, C_cond, C_block, C_exit, C_ret, C_ghost, ops_cons, ops_nil, oper_go, oper_pr, oper_if, guard_t, guard_f, do_go, do_pr, skip_do, skip_no, onH_go, evalOp, List.map, List.length, if_true, ↓reduceIte, argEnv, AO.ev, Tr.get_set, wantedA, putR_do, putR_no, nextA_some, seqA_norm, seqA_ret, seqA_exit, normA_some, condA_t, condA_f, startA_go, blockA_norm, blockA_ret, blockA_exit, AV.cells, PV.cells, outR_ret, outR_norm, resA, one1, mapO, toPV, Option.bind_some, Option.map_some, AV.one, List.all, Bool.and_self, true_and, and_self, and_true, flatV, Bool.or_true, Bool.true_or, unA, asBool, asInt, Bool.not_true, Bool.not_false, fillA, mkAgg, mkTup, allPV, storeA, loadA, partA, partP, place, lenA_nils, lenA_lit, lenA_uq, lenA_str, lenA_nilm, lenA_own, lenA_mp, setRow, binA, intBin, eqA, fresh, chunk, List.append, List.nil_append, List.cons_append, List.getElem?_cons_zero, List.getElem?_cons_succ, List.getElem?_nil, List.set_cons_zero, List.set_cons_succ, List.length_cons, List.length_nil, Nat.zero_add, Nat.add_zero, List.drop, List.take, flat, elemsP, nilApp, appendA, Bool.false_eq_true, beq_self_eq_true, bne_self_eq_false, Bool.not_eq_true, decide_true, decide_false, reduceCtorEq, Nat.reduceAdd, Nat.reduceMul, Nat.reduceLeDiff, Nat.reduceEqDiff, Nat.le_refl, Int.reduceLT, Int.reduceLE, Int.reduceBEq, Int.reduceEq, Nat.reduceBEq, Option.bind_none, Option.map_none, b_tt, b_tf, b_ft, b_ff, pvInt, Int.cast_ofNat_Int, repZ, Bool.false_and, Bool.and_false, List.headD_cons, List.headD_nil, Nat.reduceLT, Nat.lt_add_one, Nat.reduceSub, Nat.sub_zero, Int.reduceBNe, List.isEmpty_cons, List.isEmpty_nil, Int.reduceGT, Int.reduceGE, Int.reduceAdd, Int.reduceSub, Int.reduceMul, Int.reduceNeg, roundL, roundA, c_leadtraillaw02_CarryQueue_l0, tab0, hpush, len_go, room_go, hdrop, hb, hlw, e1, e2, e4, g1, g2, eq_true hq, eq_true hq2, eq_true q2', t1, t2, t4, hx, hy, hld, hm, bestA_mx2, bestA_mn2, sliceA, Option.getD_some, Option.getD_none, Int.le_refl, Int.toNat_zero, List.drop_zero, iaddrA', clean, cutEnv, cutObj, cut_ring, cut_pv, AV.cut, deep_eq, envQ]

end
end Go.AM.C1
