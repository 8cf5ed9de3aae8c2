/- CarryOwns: what it computes is true: the whole. -/
import Derived.Test.YtlibmcabpcehcaaOwns3
set_option linter.unusedVariables false
set_option linter.unusedSimpArgs false
namespace Go.AM.C1
open Go.AM

theorem slice_to {N : Nat} {l : List PV} (h : N ≤ l.length) (H : List AObj) : sliceA H 1 (.pv (.lit 1 l)) none (some (N : Int)) = some (.pv (.lit 1 (l.take N))) := by
  have c : 0 < 1 ∧ 1 = 1 ∧ (0 : Int) ≤ 0 ∧ (0 : Int) ≤ (N : Int) ∧ (N : Int) ≤ (l.length : Int) := ⟨by decide, rfl, by decide, by omega, by omega⟩
  simp only [sliceA, Option.getD_none, Option.getD_some, if_pos c]
  simp [h]

set_option maxRecDepth 10000 in
theorem owns_run {S : PV} {bs : List Int} (hS : Ints .u8 S bs) (hw : bs.length ≤ reachBytes) : pureF tabO o_leadtraillaw02_CarryOwns [S] = some (.bool true) := by
  have ls := hS.len
  obtain ⟨r0, r1, r2, r3, r4, r5, r6, r7, q0, q1, q2, q3, q4, q5, q6, q7, hr, hq, hl⟩ := owns_loop hS hw
  have hN : min bs.length 8 ≤ 8 := by omega
  have hm : min (bs.length : Int) 8 = ((min bs.length 8 : Nat) : Int) := by omega
  have b1 := bytes_x (min bs.length 8) hN r0 r1 r2 r3 r4 r5 r6 r7 q0 q1 q2 q3 q4 q5 q6 q7 5
  have b2 := bytes_y (min bs.length 8) hN r0 r1 r2 r3 r4 r5 r6 r7 q0 q1 q2 q3 q4 q5 q6 q7 5
  have b3 := bytes_z (min bs.length 8) hN r0 r1 r2 r3 r4 r5 r6 r7 q0 q1 q2 q3 q4 q5 q6 q7 5
  have b4 := own_go hN r0 r1 r2 r3 r4 r5 r6 r7 q0 q1 q2 q3 q4 q5 q6 q7 5
  have b5 : runF (callL tabO (5 + 2)) o_carry_Carry_Bytes [.ptr 0 0] (.box (ring r0 r1 r2 r3 r4 r5 r6 r7 8 0 (min bs.length 8)) :: .box (ring q0 q1 q2 q3 q4 q5 q6 q7 8 0 (min bs.length 8)) :: left (min bs.length 8)) =
      some (.own 7 (min bs.length 8), .box (ring r0 r1 r2 r3 r4 r5 r6 r7 8 0 (min bs.length 8)) :: .box (ring q0 q1 q2 q3 q4 q5 q6 q7 8 0 (min bs.length 8)) :: (left (min bs.length 8) ++ [sq (win 0 (min bs.length 8) [r0, r1, r2, r3, r4, r5, r6, r7]) 0])) := bytes_last (min bs.length 8) hN r0 r1 r2 r3 r4 r5 r6 r7 q0 q1 q2 q3 q4 q5 q6 q7 5
  have ct := cut_tail (min bs.length 8) hN r0 r1 r2 r3 r4 r5 r6 r7
  have tl : (left (min bs.length 8) ++ [sq (win 0 (min bs.length 8) [r0, r1, r2, r3, r4, r5, r6, r7]) 0]).length = 6 := rfl
  have t5 : (left (min bs.length 8) ++ [sq (win 0 (min bs.length 8) [r0, r1, r2, r3, r4, r5, r6, r7]) 0])[5]? = some (sq (win 0 (min bs.length 8) [r0, r1, r2, r3, r4, r5, r6, r7]) 0) := rfl
  have tt : (left (min bs.length 8) ++ [sq (win 0 (min bs.length 8) [r0, r1, r2, r3, r4, r5, r6, r7]) 0]).take 6 = left (min bs.length 8) ++ [sq (win 0 (min bs.length 8) [r0, r1, r2, r3, r4, r5, r6, r7]) 0] := rfl
  have hl2 := ends_loop hS r0 r1 r2 r3 r4 r5 r6 r7 q0 q1 q2 q3 q4 q5 q6 q7 _ tt ct hq
  have sl : ∃ S' : PV, (∀ H, sliceA H 1 (.pv S) none (some ((min bs.length 8 : Nat) : Int)) = some (.pv S')) ∧ ∀ H, b2sA H (.pv S') = some ⟨((bs.take (min bs.length 8)).map fun x => UInt8.ofNat x.toNat).toArray⟩ := by
    rcases hS with ⟨rfl, rfl⟩ | rfl
    · exact ⟨.nils, fun H => rfl, fun H => rfl⟩
    · refine ⟨.lit 1 ((bs.map u8).take (min bs.length 8)), fun H => ?_, fun H => ?_⟩
      · exact slice_to (by simp; omega) H
      · rw [← List.map_take]
        simp only [b2sA, bytesOf_map (fun n => n), Option.map_some]
  obtain ⟨S', s1, s2⟩ := sl
  have hb : bytesOf (win 0 (min bs.length 8) [r0, r1, r2, r3, r4, r5, r6, r7]) = some ((bs.take (min bs.length 8)).map fun x => UInt8.ofNat x.toNat) := by
    rw [hr]; exact bytesOf_map (fun n => n) _
  have hWl : (win 0 (min bs.length 8) [r0, r1, r2, r3, r4, r5, r6, r7]).length = min bs.length 8 := by simp
  have x1 : ∀ a b c d : AObj, b2sA [a, b, sq (win 0 (min bs.length 8) [r0, r1, r2, r3, r4, r5, r6, r7]) 0, c, d] (.own 2 (min bs.length 8)) = some ⟨((bs.take (min bs.length 8)).map fun x => UInt8.ofNat x.toNat).toArray⟩ :=
    fun a b c d => b2s_own rfl hWl hb
  have x2 : ∀ a b : AObj, b2sA (a :: b :: (left (min bs.length 8) ++ [sq (win 0 (min bs.length 8) [r0, r1, r2, r3, r4, r5, r6, r7]) 0])) (.own 7 (min bs.length 8)) = some ⟨((bs.take (min bs.length 8)).map fun x => UInt8.ofNat x.toNat).toArray⟩ :=
    fun a b => b2s_own rfl hWl hb
  have c1 := fun n d => cut_ring n d 8 0 (min bs.length 8) r0 r1 r2 r3 r4 r5 r6 r7
  have c2 := fun n d => cut_ring n d 8 0 (min bs.length 8) q0 q1 q2 q3 q4 q5 q6 q7
  generalize (bs.take (min bs.length 8)).map (fun x => UInt8.ofNat x.toNat) = bw at *
  generalize left (min bs.length 8) ++ [sq (win 0 (min bs.length 8) [r0, r1, r2, r3, r4, r5, r6, r7]) 0] = T at *
  generalize win 0 (min bs.length 8) [r0, r1, r2, r3, r4, r5, r6, r7] = W at *
  generalize win 0 (min bs.length 8) [q0, q1, q2, q3, q4, q5, q6, q7] = V at *
  generalize left (min bs.length 8) = L at *
  generalize ring r0 r1 r2 r3 r4 r5 r6 r7 8 0 (min bs.length 8) = C at *
  generalize ring q0 q1 q2 q3 q4 q5 q6 q7 8 0 (min bs.length 8) = D at *
  simp (implicitDefEqProofs := false) only [pureF, runF_go, callL_succ, C_skip, C_region, C_seq, C_cond, C_block, C_exit, C_ret, C_ghost, ops_cons, ops_nil, oper_go, oper_pr, oper_if, guard_t, guard_f, do_go, do_pr, skip_do, skip_no, onH_go, evalOp, List.map, List.length, if_true, ↓reduceIte, argEnv, AO.ev, Tr.get_set, wantedA, putR_do, putR_no, nextA_some, seqA_norm, seqA_ret, seqA_exit, normA_some, condA_t, condA_f, startA_go, blockA_norm, blockA_ret, blockA_exit, AV.cells, PV.cells, outR_ret, outR_norm, resA, one1, mapO, toPV, Option.bind_some, Option.map_some, AV.one, List.all, Bool.and_self, true_and, and_self, and_true, flatV, Bool.or_true, Bool.true_or, unA, asBool, asInt, Bool.not_true, Bool.not_false, fillA, mkAgg, mkTup, allPV, storeA, loadA, partA, partP, place, lenA_nils, lenA_lit, lenA_uq, lenA_str, lenA_nilm, lenA_own, lenA_mp, setRow, binA, intBin, eqA, fresh, chunk, List.append, List.nil_append, List.cons_append, List.getElem?_cons_zero, List.getElem?_cons_succ, List.getElem?_nil, List.set_cons_zero, List.set_cons_succ, List.length_cons, List.length_nil, Nat.zero_add, Nat.add_zero, List.drop, List.take, flat, elemsP, nilApp, appendA, Bool.false_eq_true, beq_self_eq_true, bne_self_eq_false, Bool.not_eq_true, decide_true, decide_false, reduceCtorEq, Nat.reduceAdd, Nat.reduceMul, Nat.reduceLeDiff, Nat.reduceEqDiff, Nat.le_refl, Int.reduceLT, Int.reduceLE, Int.reduceBEq, Int.reduceEq, Nat.reduceBEq, Option.bind_none, Option.map_none, b_tt, b_tf, b_ft, b_ff, pvInt, Int.cast_ofNat_Int, repZ, Bool.false_and, Bool.and_false, List.headD_cons, List.headD_nil, Nat.reduceLT, Nat.lt_add_one, Nat.reduceSub, Nat.sub_zero, Int.reduceBNe, List.isEmpty_cons, List.isEmpty_nil, Int.reduceGT, Int.reduceGE, Int.reduceAdd, Int.reduceSub, Int.reduceMul, Int.reduceNeg, C_loop, clean, cutEnv, AV.cut, cut_pv, deep_eq, cutObj, o_leadtraillaw02_CarryOwns, c_carry_New, tabO, F_fixed, ls]
  simp only [envO, cells, pvInt, Int.cast_ofNat_Int] at hl
  rw [hl]
  simp (implicitDefEqProofs := false) only [pureF, runF_go, callL_succ, C_skip, C_region, C_seq, C_cond, C_block, C_exit, C_ret, C_ghost, ops_cons, ops_nil, oper_go, oper_pr, oper_if, guard_t, guard_f, do_go, do_pr, skip_do, skip_no, onH_go, evalOp, List.map, List.length, if_true, ↓reduceIte, argEnv, AO.ev, Tr.get_set, wantedA, putR_do, putR_no, nextA_some, seqA_norm, seqA_ret, seqA_exit, normA_some, condA_t, condA_f, startA_go, blockA_norm, blockA_ret, blockA_exit, AV.cells, PV.cells, outR_ret, outR_norm, resA, one1, mapO, toPV, Option.bind_some, Option.map_some, AV.one, List.all, Bool.and_self, true_and, and_self, and_true, flatV, Bool.or_true, Bool.true_or, unA, asBool, asInt, Bool.not_true, Bool.not_false, fillA, mkAgg, mkTup, allPV, storeA, loadA, partA, partP, place, lenA_nils, lenA_lit, lenA_uq, lenA_str, lenA_nilm, lenA_own, lenA_mp, setRow, binA, intBin, eqA, fresh, chunk, List.append, List.nil_append, List.cons_append, List.getElem?_cons_zero, List.getElem?_cons_succ, List.getElem?_nil, List.set_cons_zero, List.set_cons_succ, List.length_cons, List.length_nil, Nat.zero_add, Nat.add_zero, List.drop, List.take, flat, elemsP, nilApp, appendA, Bool.false_eq_true, beq_self_eq_true, bne_self_eq_false, Bool.not_eq_true, decide_true, decide_false, reduceCtorEq, Nat.reduceAdd, Nat.reduceMul, Nat.reduceLeDiff, Nat.reduceEqDiff, Nat.le_refl, Int.reduceLT, Int.reduceLE, Int.reduceBEq, Int.reduceEq, Nat.reduceBEq, Option.bind_none, Option.map_none, b_tt, b_tf, b_ft, b_ff, pvInt, Int.cast_ofNat_Int, repZ, Bool.false_and, Bool.and_false, List.headD_cons, List.headD_nil, Nat.reduceLT, Nat.lt_add_one, Nat.reduceSub, Nat.sub_zero, Int.reduceBNe, List.isEmpty_cons, List.isEmpty_nil, Int.reduceGT, Int.reduceGE, Int.reduceAdd, Int.reduceSub, Int.reduceMul, Int.reduceNeg, tabO, bestA_mn2, ls, hm, b1, b2, b3, b4, b5, s1, s2, x1, x2, strBin, beq_list, C_loop, clean, cutEnv, AV.cut, cut_pv, deep_eq, cutObj, tl, tt, ct, c1, c2]
  simp only [envE, pvInt, Int.cast_ofNat_Int] at hl2
  rw [hl2]
  simp (implicitDefEqProofs := false) only [pureF, runF_go, callL_succ, C_skip, C_region, C_seq, C_cond, C_block, C_exit, C_ret, C_ghost, ops_cons, ops_nil, oper_go, oper_pr, oper_if, guard_t, guard_f, do_go, do_pr, skip_do, skip_no, onH_go, evalOp, List.map, List.length, if_true, ↓reduceIte, argEnv, AO.ev, Tr.get_set, wantedA, putR_do, putR_no, nextA_some, seqA_norm, seqA_ret, seqA_exit, normA_some, condA_t, condA_f, startA_go, blockA_norm, blockA_ret, blockA_exit, AV.cells, PV.cells, outR_ret, outR_norm, resA, one1, mapO, toPV, Option.bind_some, Option.map_some, AV.one, List.all, Bool.and_self, true_and, and_self, and_true, flatV, Bool.or_true, Bool.true_or, unA, asBool, asInt, Bool.not_true, Bool.not_false, fillA, mkAgg, mkTup, allPV, storeA, loadA, partA, partP, place, lenA_nils, lenA_lit, lenA_uq, lenA_str, lenA_nilm, lenA_own, lenA_mp, setRow, binA, intBin, eqA, fresh, chunk, List.append, List.nil_append, List.cons_append, List.getElem?_cons_zero, List.getElem?_cons_succ, List.getElem?_nil, List.set_cons_zero, List.set_cons_succ, List.length_cons, List.length_nil, Nat.zero_add, Nat.add_zero, List.drop, List.take, flat, elemsP, nilApp, appendA, Bool.false_eq_true, beq_self_eq_true, bne_self_eq_false, Bool.not_eq_true, decide_true, decide_false, reduceCtorEq, Nat.reduceAdd, Nat.reduceMul, Nat.reduceLeDiff, Nat.reduceEqDiff, Nat.le_refl, Int.reduceLT, Int.reduceLE, Int.reduceBEq, Int.reduceEq, Nat.reduceBEq, Option.bind_none, Option.map_none, b_tt, b_tf, b_ft, b_ff, pvInt, Int.cast_ofNat_Int, repZ, Bool.false_and, Bool.and_false, List.headD_cons, List.headD_nil, Nat.reduceLT, Nat.lt_add_one, Nat.reduceSub, Nat.sub_zero, Int.reduceBNe, List.isEmpty_cons, List.isEmpty_nil, Int.reduceGT, Int.reduceGE, Int.reduceAdd, Int.reduceSub, Int.reduceMul, Int.reduceNeg, deep_eq]

end Go.AM.C1
