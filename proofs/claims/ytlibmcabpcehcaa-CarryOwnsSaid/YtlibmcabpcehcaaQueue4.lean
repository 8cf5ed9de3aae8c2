/- CarryQueue: what it computes is true: the whole. -/
import Derived.Test.YtlibmcabpcehcaaQueue3
set_option linter.unusedVariables false
set_option linter.unusedSimpArgs false
namespace Go.AM.C1
open Go.AM

theorem queue_loop {D S : PV} {ds bs : List Int} (hD : Ints .i64 D ds) (hS : Ints .u8 S bs) (hw : bs.length ≤ reachBytes) :
    ∃ (r0 r1 r2 r3 r4 r5 r6 r7 : Int) (at_ n : Nat) (I : List PV) (OL : List Int) (p q : Bool), at_ < 8 ∧ n ≤ 8 ∧ I.length ≤ bs.length ∧ I = OL.map u8 ++ win at_ n [r0, r1, r2, r3, r4, r5, r6, r7] ∧
    loopA (roundA (evalC (callL tab0 8) c_leadtraillaw02_CarryQueue_l0) (clean 3 [1, 5, 7, 8, 26, 27, 28])) rounds ⟨envQ D S bs.length 0 (.uq 1 true 1 []) (.uq 2 true 1 []), [.box (ring 0 0 0 0 0 0 0 0 8 0 0), .tok 1 0 true, .tok 1 0 true]⟩ =
      some (.exit 0, ⟨(envQ D S bs.length bs.length (.uq 1 p 1 I) (.uq 2 q 1 (OL.map u8))).set 29 (.pv (.bool false)), [.box (ring r0 r1 r2 r3 r4 r5 r6 r7 8 at_ n), .tok 1 I.length p, .tok 1 (OL.map u8).length q]⟩) := by
  have hend : ∀ t, InvQ D S bs.length bs.length t → ∃ ex s', roundL (callL tab0 8) [1, 5, 7, 8, 26, 27, 28] c_leadtraillaw02_CarryQueue_l0 3 t = some (ex, s') ∧ ex.stop = true ∧
      ∃ (r0 r1 r2 r3 r4 r5 r6 r7 : Int) (at_ n : Nat) (I : List PV) (OL : List Int) (p q : Bool), at_ < 8 ∧ n ≤ 8 ∧ I.length ≤ bs.length ∧ I = OL.map u8 ++ win at_ n [r0, r1, r2, r3, r4, r5, r6, r7] ∧ ex = .exit 0 ∧
      s' = ⟨(envQ D S bs.length bs.length (.uq 1 p 1 I) (.uq 2 q 1 (OL.map u8))).set 29 (.pv (.bool false)), [.box (ring r0 r1 r2 r3 r4 r5 r6 r7 8 at_ n), .tok 1 I.length p, .tok 1 (OL.map u8).length q]⟩ := by
    rintro t ⟨r0, r1, r2, r3, r4, r5, r6, r7, at_, n, I, OL, p, q, h2, h3, hIl, hIe, rfl⟩
    refine ⟨.exit 0, _, ?_, rfl, r0, r1, r2, r3, r4, r5, r6, r7, at_, n, I, OL, p, q, h2, h3, hIl, hIe, rfl, rfl⟩
    have e1 : decide ((bs.length : Int) < (bs.length : Int)) = false := by simp
    simp (implicitDefEqProofs := false) only [pureF, runF_go, callL_succ, C_skip, C_region, C_seq, C_cond, C_block, C_exit, C_ret, C_ghost, ops_cons, ops_nil, oper_go, oper_pr, oper_if, guard_t, guard_f, do_go, do_pr, skip_do, skip_no, onH_go, evalOp, List.map, List.length, if_true, ↓reduceIte, argEnv, AO.ev, Tr.get_set, wantedA, putR_do, putR_no, nextA_some, seqA_norm, seqA_ret, seqA_exit, normA_some, condA_t, condA_f, startA_go, blockA_norm, blockA_ret, blockA_exit, AV.cells, PV.cells, outR_ret, outR_norm, resA, one1, mapO, toPV, Option.bind_some, Option.map_some, AV.one, List.all, Bool.and_self, true_and, and_self, and_true, flatV, Bool.or_true, Bool.true_or, unA, asBool, asInt, Bool.not_true, Bool.not_false, fillA, mkAgg, mkTup, allPV, storeA, loadA, partA, partP, place, lenA_nils, lenA_lit, lenA_uq, lenA_str, lenA_nilm, lenA_own, lenA_mp, setRow, binA, intBin, eqA, fresh, chunk, List.append, List.nil_append, List.cons_append, List.getElem?_cons_zero, List.getElem?_cons_succ, List.getElem?_nil, List.set_cons_zero, List.set_cons_succ, List.length_cons, List.length_nil, Nat.zero_add, Nat.add_zero, List.drop, List.take, flat, elemsP, nilApp, appendA, Bool.false_eq_true, beq_self_eq_true, bne_self_eq_false, Bool.not_eq_true, decide_true, decide_false, reduceCtorEq, Nat.reduceAdd, Nat.reduceMul, Nat.reduceLeDiff, Nat.reduceEqDiff, Nat.le_refl, Int.reduceLT, Int.reduceLE, Int.reduceBEq, Int.reduceEq, Nat.reduceBEq, Option.bind_none, Option.map_none, b_tt, b_tf, b_ft, b_ff, pvInt, Int.cast_ofNat_Int, repZ, Bool.false_and, Bool.and_false, List.headD_cons, List.headD_nil, Nat.reduceLT, Nat.lt_add_one, Nat.reduceSub, Nat.sub_zero, Int.reduceBNe, List.isEmpty_cons, List.isEmpty_nil, Int.reduceGT, Int.reduceGE, Int.reduceAdd, Int.reduceSub, Int.reduceMul, Int.reduceNeg, roundL, roundA, c_leadtraillaw02_CarryQueue_l0, e1, envQ]
  have h0 : InvQ D S bs.length 0 ⟨envQ D S bs.length (0 : Nat) (.uq 1 true 1 []) (.uq 2 true 1 []), [.box (ring 0 0 0 0 0 0 0 0 8 0 0), .tok 1 0 true, .tok 1 0 true]⟩ :=
    ⟨0, 0, 0, 0, 0, 0, 0, 0, 0, 0, [], [], true, true, by omega, by omega, by simp, rfl, rfl⟩
  have key := loopA_go (g := roundL (callL tab0 8) [1, 5, 7, 8, 26, 27, 28] c_leadtraillaw02_CarryQueue_l0 3) (InvQ D S bs.length) _ rounds bs.length 0 _ (by unfold rounds; unfold reachBytes at hw; omega) (by omega) h0 ?_ hend
  · obtain ⟨ex, s', h, _, r0, r1, r2, r3, r4, r5, r6, r7, at_, n, I, OL, p, q, h2, h3, hIl, hIe, rfl, rfl⟩ := key
    exact ⟨r0, r1, r2, r3, r4, r5, r6, r7, at_, n, I, OL, p, q, h2, h3, hIl, hIe, h⟩
  · intro i hi t hI
    rcases hS with ⟨rfl, rfl⟩ | rfl
    · simp at hi
    · exact .inl (queue_step hD hw i hi t hI)

theorem str_parts (a b : List UInt8) : ((⟨a.toArray⟩ : ByteArray) ++ ⟨b.toArray⟩).data.toList = a ++ b := by
  simp [ByteArray.data_append]

theorem str_size (a : List UInt8) : (⟨a.toArray⟩ : ByteArray).size = a.length := by simp [ByteArray.size]

set_option maxRecDepth 10000 in
theorem queue_run {D S : PV} {ds bs : List Int} (hD : Ints .i64 D ds) (hS : Ints .u8 S bs) (hw : bs.length ≤ reachBytes) : pureF tab0 c_leadtraillaw02_CarryQueue [S, D] = some (.bool true) := by
  have ls := hS.len
  obtain ⟨r0, r1, r2, r3, r4, r5, r6, r7, at_, n, I, OL, p, q, h2, h3, hIl, hIe, hl⟩ := queue_loop hD hS hw
  have hb := fun a b p q => bytes_toks 5 8 at_ n a b p q h2 h3 r0 r1 r2 r3 r4 r5 r6 r7
  have s1 : bytesOf (OL.map u8) = some (OL.map fun n => UInt8.ofNat n.toNat) := bytesOf_map (fun n => n) OL
  have s2 : bytesOf (win at_ n [r0, r1, r2, r3, r4, r5, r6, r7]) = some ((winI at_ n [r0, r1, r2, r3, r4, r5, r6, r7]).map fun n => UInt8.ofNat n.toNat) := by
    rw [win_map]; exact bytesOf_map (fun n => n) _
  have s3 : bytesOf I = some ((OL.map fun n => UInt8.ofNat n.toNat) ++ (winI at_ n [r0, r1, r2, r3, r4, r5, r6, r7]).map fun n => UInt8.ofNat n.toNat) := by
    rw [hIe, win_map, ← List.map_append, ← List.map_append]; exact bytesOf_map (fun n => n) _
  have g : ((((OL.map fun n => UInt8.ofNat n.toNat).length + ((winI at_ n [r0, r1, r2, r3, r4, r5, r6, r7]).map fun n => UInt8.ofNat n.toNat).length : Nat) : Int) ≤ IntKind.i64.max) = True := by
    have : OL.length + n = I.length := by rw [hIe]; simp
    have e : IntKind.i64.max = 9223372036854775807 := by decide
    rw [e]
    simp only [List.length_map, List.length_range, eq_iff_iff, iff_true]
    unfold reachBytes at hw
    omega
  generalize hW : win at_ n [r0, r1, r2, r3, r4, r5, r6, r7] = W at *
  generalize hO : OL.map u8 = O at *
  generalize (OL.map fun n => UInt8.ofNat n.toNat) = bo at *
  generalize ((winI at_ n [r0, r1, r2, r3, r4, r5, r6, r7]).map fun n => UInt8.ofNat n.toNat) = bw at *
  simp (implicitDefEqProofs := false) only [pureF, runF_go, callL_succ, C_skip, C_region, C_seq, C_cond, C_block, C_exit, C_ret, C_ghost, ops_cons, ops_nil, oper_go, oper_pr, oper_if, guard_t, guard_f, do_go, do_pr, skip_do, skip_no, onH_go, evalOp, List.map, List.length, if_true, ↓reduceIte, argEnv, AO.ev, Tr.get_set, wantedA, putR_do, putR_no, nextA_some, seqA_norm, seqA_ret, seqA_exit, normA_some, condA_t, condA_f, startA_go, blockA_norm, blockA_ret, blockA_exit, AV.cells, PV.cells, outR_ret, outR_norm, resA, one1, mapO, toPV, Option.bind_some, Option.map_some, AV.one, List.all, Bool.and_self, true_and, and_self, and_true, flatV, Bool.or_true, Bool.true_or, unA, asBool, asInt, Bool.not_true, Bool.not_false, fillA, mkAgg, mkTup, allPV, storeA, loadA, partA, partP, place, lenA_nils, lenA_lit, lenA_uq, lenA_str, lenA_nilm, lenA_own, lenA_mp, setRow, binA, intBin, eqA, fresh, chunk, List.append, List.nil_append, List.cons_append, List.getElem?_cons_zero, List.getElem?_cons_succ, List.getElem?_nil, List.set_cons_zero, List.set_cons_succ, List.length_cons, List.length_nil, Nat.zero_add, Nat.add_zero, List.drop, List.take, flat, elemsP, nilApp, appendA, Bool.false_eq_true, beq_self_eq_true, bne_self_eq_false, Bool.not_eq_true, decide_true, decide_false, reduceCtorEq, Nat.reduceAdd, Nat.reduceMul, Nat.reduceLeDiff, Nat.reduceEqDiff, Nat.le_refl, Int.reduceLT, Int.reduceLE, Int.reduceBEq, Int.reduceEq, Nat.reduceBEq, Option.bind_none, Option.map_none, b_tt, b_tf, b_ft, b_ff, pvInt, Int.cast_ofNat_Int, repZ, Bool.false_and, Bool.and_false, List.headD_cons, List.headD_nil, Nat.reduceLT, Nat.lt_add_one, Nat.reduceSub, Nat.sub_zero, Int.reduceBNe, List.isEmpty_cons, List.isEmpty_nil, Int.reduceGT, Int.reduceGE, Int.reduceAdd, Int.reduceSub, Int.reduceMul, Int.reduceNeg, ghostA, C_loop, clean, cutEnv, AV.cut, cut_pv, deep_eq, cutObj, c_leadtraillaw02_CarryQueue, c_carry_New, tab0, F_fixed, ls]
  simp only [envQ, cells, pvInt, Int.cast_ofNat_Int] at hl hb
  rw [hl]
  simp (implicitDefEqProofs := false) only [pureF, runF_go, callL_succ, C_skip, C_region, C_seq, C_cond, C_block, C_exit, C_ret, C_ghost, ops_cons, ops_nil, oper_go, oper_pr, oper_if, guard_t, guard_f, do_go, do_pr, skip_do, skip_no, onH_go, evalOp, List.map, List.length, if_true, ↓reduceIte, argEnv, AO.ev, Tr.get_set, wantedA, putR_do, putR_no, nextA_some, seqA_norm, seqA_ret, seqA_exit, normA_some, condA_t, condA_f, startA_go, blockA_norm, blockA_ret, blockA_exit, AV.cells, PV.cells, outR_ret, outR_norm, resA, one1, mapO, toPV, Option.bind_some, Option.map_some, AV.one, List.all, Bool.and_self, true_and, and_self, and_true, flatV, Bool.or_true, Bool.true_or, unA, asBool, asInt, Bool.not_true, Bool.not_false, fillA, mkAgg, mkTup, allPV, storeA, loadA, partA, partP, place, lenA_nils, lenA_lit, lenA_uq, lenA_str, lenA_nilm, lenA_own, lenA_mp, setRow, binA, intBin, eqA, fresh, chunk, List.append, List.nil_append, List.cons_append, List.getElem?_cons_zero, List.getElem?_cons_succ, List.getElem?_nil, List.set_cons_zero, List.set_cons_succ, List.length_cons, List.length_nil, Nat.zero_add, Nat.add_zero, List.drop, List.take, flat, elemsP, nilApp, appendA, Bool.false_eq_true, beq_self_eq_true, bne_self_eq_false, Bool.not_eq_true, decide_true, decide_false, reduceCtorEq, Nat.reduceAdd, Nat.reduceMul, Nat.reduceLeDiff, Nat.reduceEqDiff, Nat.le_refl, Int.reduceLT, Int.reduceLE, Int.reduceBEq, Int.reduceEq, Nat.reduceBEq, Option.bind_none, Option.map_none, b_tt, b_tf, b_ft, b_ff, pvInt, Int.cast_ofNat_Int, repZ, Bool.false_and, Bool.and_false, List.headD_cons, List.headD_nil, Nat.reduceLT, Nat.lt_add_one, Nat.reduceSub, Nat.sub_zero, Int.reduceBNe, List.isEmpty_cons, List.isEmpty_nil, Int.reduceGT, Int.reduceGE, Int.reduceAdd, Int.reduceSub, Int.reduceMul, Int.reduceNeg, tab0, hb, b2sA, s1, s2, s3, strBin, str_size, g, str_parts, beq_list]

end Go.AM.C1
