/- CarryOwns: what it computes is true. -/
import Derived.Test.YtlibmcabpcehcaaOwns2
set_option linter.unusedVariables false
set_option linter.unusedSimpArgs false
namespace Go.AM.C1
open Go.AM

theorem cut_tail (n : Nat) (h3 : n ≤ 8) (r0 r1 r2 r3 r4 r5 r6 r7 : Int) : mapO (cutObj 8) (left n ++ [sq (win 0 n [r0, r1, r2, r3, r4, r5, r6, r7]) 0]) = some (left n ++ [sq (win 0 n [r0, r1, r2, r3, r4, r5, r6, r7]) 0]) := by
  rcases nine h3 with rfl | rfl | rfl | rfl | rfl | rfl | rfl | rfl | rfl <;> (show _ = _; kernel_rfl)

/-- The temporaries at the second loop's head. -/
abbrev envE (S : PV) (n i : Int) : Tr := (((Tr.lf.set 90 (.pv (.int .i64 i))).set 89 (.pv (.int .i64 n))).set 5 (.ptr 1 0)).set 0 (.pv S)

theorem ends_round (n i : Nat) (h3 : n ≤ 8) (hi : i < n) (r0 r1 r2 r3 r4 r5 r6 r7 q0 q1 q2 q3 q4 q5 q6 q7 : Int) (T : List AObj) (hT1 : T.take 6 = T) (hT2 : mapO (cutObj 8) T = some T) (bs : List PV) (hl : n ≤ bs.length) (x : Int) (hx : bs[i]? = some (u8 x))
    (hq : [u8 q0, u8 q1, u8 q2, u8 q3, u8 q4, u8 q5, u8 q6, u8 q7].getD ((0 + i) % 8) .nilp = u8 (x8 x)) :
    roundL (callL tabO 8) [0, 5, 89, 90] o_leadtraillaw02_CarryOwns_l1 8 ⟨envE (.lit 1 bs) n i, .box (ring r0 r1 r2 r3 r4 r5 r6 r7 8 0 n) :: .box (ring q0 q1 q2 q3 q4 q5 q6 q7 8 0 n) :: T⟩ =
      some (.norm, ⟨envE (.lit 1 bs) n (i + 1 : Nat), .box (ring r0 r1 r2 r3 r4 r5 r6 r7 8 0 n) :: .box (ring q0 q1 q2 q3 q4 q5 q6 q7 8 0 n) :: T⟩) := by
  have e1 : decide ((i : Int) < (n : Int)) = true := by simp; omega
  have hq' : idxOk (i : Int) bs.length := by unfold idxOk; omega
  have t1 : ((i : Int)).toNat = i := by simp
  have t2 : IntKind.i64.wrap ((i : Int) + 1) = ((i + 1 : Nat) : Int) := wrap_int (by omega)
  have h1 := at_two 6 n i h3 hi (u8 q0) (u8 q1) (u8 q2) (u8 q3) (u8 q4) (u8 q5) (u8 q6) (u8 q7) (.box (ring r0 r1 r2 r3 r4 r5 r6 r7 8 0 n)) T
  rw [hq] at h1
  unfold pvInt at h1
  simp (implicitDefEqProofs := false) only [pureF, runF_go, callL_succ, C_skip, C_region, C_seq, C_cond, C_block, C_exit, C_ret, C_ghost, ops_cons, ops_nil, oper_go, oper_pr, oper_if, guard_t, guard_f, do_go, do_pr, skip_do, skip_no, onH_go, evalOp, List.map, List.length, if_true, ↓reduceIte, argEnv, AO.ev, Tr.get_set, wantedA, putR_do, putR_no, nextA_some, seqA_norm, seqA_ret, seqA_exit, normA_some, condA_t, condA_f, startA_go, blockA_norm, blockA_ret, blockA_exit, AV.cells, PV.cells, outR_ret, outR_norm, resA, one1, mapO, toPV, Option.bind_some, Option.map_some, AV.one, List.all, Bool.and_self, true_and, and_self, and_true, flatV, Bool.or_true, Bool.true_or, unA, asBool, asInt, Bool.not_true, Bool.not_false, fillA, mkAgg, mkTup, allPV, storeA, loadA, partA, partP, place, lenA_nils, lenA_lit, lenA_uq, lenA_str, lenA_nilm, lenA_own, lenA_mp, setRow, binA, intBin, eqA, fresh, chunk, List.append, List.nil_append, List.cons_append, List.getElem?_cons_zero, List.getElem?_cons_succ, List.getElem?_nil, List.set_cons_zero, List.set_cons_succ, List.length_cons, List.length_nil, Nat.zero_add, Nat.add_zero, List.drop, List.take, flat, elemsP, nilApp, appendA, Bool.false_eq_true, beq_self_eq_true, bne_self_eq_false, Bool.not_eq_true, decide_true, decide_false, reduceCtorEq, Nat.reduceAdd, Nat.reduceMul, Nat.reduceLeDiff, Nat.reduceEqDiff, Nat.le_refl, Int.reduceLT, Int.reduceLE, Int.reduceBEq, Int.reduceEq, Nat.reduceBEq, Option.bind_none, Option.map_none, b_tt, b_tf, b_ft, b_ff, pvInt, Int.cast_ofNat_Int, repZ, Bool.false_and, Bool.and_false, List.headD_cons, List.headD_nil, Nat.reduceLT, Nat.lt_add_one, Nat.reduceSub, Nat.sub_zero, Int.reduceBNe, List.isEmpty_cons, List.isEmpty_nil, Int.reduceGT, Int.reduceGE, Int.reduceAdd, Int.reduceSub, Int.reduceMul, Int.reduceNeg, roundL, roundA, o_leadtraillaw02_CarryOwns_l1, tabO, h1, x8_fold, e1, eq_true hq', t1, t2, hx, iaddrA', clean, cutEnv, cutObj, cut_ring, cut_pv, AV.cut, deep_eq, envE, hT1, hT2]

theorem ends_loop {bs : List Int} {S : PV} (hS : Ints .u8 S bs) (r0 r1 r2 r3 r4 r5 r6 r7 q0 q1 q2 q3 q4 q5 q6 q7 : Int) (T : List AObj) (hT1 : T.take 6 = T) (hT2 : mapO (cutObj 8) T = some T)
    (hq : win 0 (min bs.length 8) [q0, q1, q2, q3, q4, q5, q6, q7] = (bs.take (min bs.length 8)).map (fun x => u8 (x8 x))) :
    loopA (roundA (evalC (callL tabO 8) o_leadtraillaw02_CarryOwns_l1) (clean 8 [0, 5, 89, 90])) rounds ⟨envE S (min bs.length 8 : Nat) 0, .box (ring r0 r1 r2 r3 r4 r5 r6 r7 8 0 (min bs.length 8)) :: .box (ring q0 q1 q2 q3 q4 q5 q6 q7 8 0 (min bs.length 8)) :: T⟩ =
      some (.exit 2, ⟨(envE S (min bs.length 8 : Nat) (min bs.length 8 : Nat)).set 91 (.pv (.bool false)), .box (ring r0 r1 r2 r3 r4 r5 r6 r7 8 0 (min bs.length 8)) :: .box (ring q0 q1 q2 q3 q4 q5 q6 q7 8 0 (min bs.length 8)) :: T⟩) := by
  have hN : min bs.length 8 ≤ 8 := by omega
  have hNb : min bs.length 8 ≤ bs.length := by omega
  generalize hNe : min bs.length 8 = N at *
  have key := loopA_go (g := roundL (callL tabO 8) [0, 5, 89, 90] o_leadtraillaw02_CarryOwns_l1 8)
    (fun i t => t = ⟨envE S N i, .box (ring r0 r1 r2 r3 r4 r5 r6 r7 8 0 N) :: .box (ring q0 q1 q2 q3 q4 q5 q6 q7 8 0 N) :: T⟩)
    (fun ex t => ex = .exit 2 ∧ t = ⟨(envE S N N).set 91 (.pv (.bool false)), .box (ring r0 r1 r2 r3 r4 r5 r6 r7 8 0 N) :: .box (ring q0 q1 q2 q3 q4 q5 q6 q7 8 0 N) :: T⟩)
    rounds N 0 _ (by unfold rounds; omega) (by omega) rfl ?_ ?_
  · obtain ⟨ex, t, h, _, rfl, rfl⟩ := key
    exact h
  · rintro i hi t rfl
    rcases hS with ⟨rfl, rfl⟩ | rfl
    · simp at hNb; omega
    · have hib : i < bs.length := by omega
      refine .inl ⟨_, ends_round N i hN hi r0 r1 r2 r3 r4 r5 r6 r7 q0 q1 q2 q3 q4 q5 q6 q7 T hT1 hT2 (bs.map u8) (by simpa using hNb) bs[i] (by simp [hib]) ?_, rfl⟩
      have e : (win 0 N [q0, q1, q2, q3, q4, q5, q6, q7])[i]? = some (u8 (x8 bs[i])) := by
        rw [hq]; simp [hi, hib]
      have e2 : (win 0 N [q0, q1, q2, q3, q4, q5, q6, q7])[i]? = some (u8 ([q0, q1, q2, q3, q4, q5, q6, q7].getD ((0 + i) % 8) 0)) := by simp [hi]
      have hk : (0 + i) % 8 < 8 := Nat.mod_lt _ (by decide)
      rw [e2] at e
      injection e with e
      rw [← e]
      generalize (0 + i) % 8 = k at hk
      match k, hk with
      | 0, _ | 1, _ | 2, _ | 3, _ | 4, _ | 5, _ | 6, _ | 7, _ => rfl
  · rintro t rfl
    refine ⟨.exit 2, _, ?_, rfl, rfl, rfl⟩
    have e1 : decide ((N : Int) < (N : Int)) = false := by simp
    simp (implicitDefEqProofs := false) only [pureF, runF_go, callL_succ, C_skip, C_region, C_seq, C_cond, C_block, C_exit, C_ret, C_ghost, ops_cons, ops_nil, oper_go, oper_pr, oper_if, guard_t, guard_f, do_go, do_pr, skip_do, skip_no, onH_go, evalOp, List.map, List.length, if_true, ↓reduceIte, argEnv, AO.ev, Tr.get_set, wantedA, putR_do, putR_no, nextA_some, seqA_norm, seqA_ret, seqA_exit, normA_some, condA_t, condA_f, startA_go, blockA_norm, blockA_ret, blockA_exit, AV.cells, PV.cells, outR_ret, outR_norm, resA, one1, mapO, toPV, Option.bind_some, Option.map_some, AV.one, List.all, Bool.and_self, true_and, and_self, and_true, flatV, Bool.or_true, Bool.true_or, unA, asBool, asInt, Bool.not_true, Bool.not_false, fillA, mkAgg, mkTup, allPV, storeA, loadA, partA, partP, place, lenA_nils, lenA_lit, lenA_uq, lenA_str, lenA_nilm, lenA_own, lenA_mp, setRow, binA, intBin, eqA, fresh, chunk, List.append, List.nil_append, List.cons_append, List.getElem?_cons_zero, List.getElem?_cons_succ, List.getElem?_nil, List.set_cons_zero, List.set_cons_succ, List.length_cons, List.length_nil, Nat.zero_add, Nat.add_zero, List.drop, List.take, flat, elemsP, nilApp, appendA, Bool.false_eq_true, beq_self_eq_true, bne_self_eq_false, Bool.not_eq_true, decide_true, decide_false, reduceCtorEq, Nat.reduceAdd, Nat.reduceMul, Nat.reduceLeDiff, Nat.reduceEqDiff, Nat.le_refl, Int.reduceLT, Int.reduceLE, Int.reduceBEq, Int.reduceEq, Nat.reduceBEq, Option.bind_none, Option.map_none, b_tt, b_tf, b_ft, b_ff, pvInt, Int.cast_ofNat_Int, repZ, Bool.false_and, Bool.and_false, List.headD_cons, List.headD_nil, Nat.reduceLT, Nat.lt_add_one, Nat.reduceSub, Nat.sub_zero, Int.reduceBNe, List.isEmpty_cons, List.isEmpty_nil, Int.reduceGT, Int.reduceGE, Int.reduceAdd, Int.reduceSub, Int.reduceMul, Int.reduceNeg, roundL, roundA, o_leadtraillaw02_CarryOwns_l1, e1, envE]

theorem b2s_own {H : List AObj} {id n fl : Nat} {W : List PV} {bw : List UInt8} (h : H[id]? = some (sq W fl)) (hl : W.length = n) (hb : bytesOf W = some bw) : b2sA H (.own id n) = some ⟨bw.toArray⟩ := by
  have ha : allPV (W.map .pv) = some W := by
    clear h hl hb
    induction W with
    | nil => rfl
    | cons a l ih => simp [allPV, ih]
  simp [b2sA, h, hl, ha, hb]

end Go.AM.C1
