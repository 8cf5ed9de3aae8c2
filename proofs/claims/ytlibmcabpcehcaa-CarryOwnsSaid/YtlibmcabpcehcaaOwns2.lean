/- The loops of CarryOwns. -/
import Derived.Test.YtlibmcabpcehcaaOwns
import Derived.Test.YtlibmcabpcehcaaQueue3
set_option linter.unusedVariables false
set_option linter.unusedSimpArgs false
namespace Go.AM.C1
open Go.AM

/-- The temporaries at the first loop's head. -/
abbrev envO (S : PV) (len i : Int) : Tr := (((((Tr.lf.set 34 (.pv (.int .i64 i))).set 33 (.pv (.int .i64 len))).set 32 (.pv S)).set 5 (.ptr 1 0)).set 3 (.ptr 0 0)).set 0 (.pv S)

def InvO (bs : List Int) (S : PV) (i : Nat) (t : St) : Prop :=
  ∃ (r0 r1 r2 r3 r4 r5 r6 r7 q0 q1 q2 q3 q4 q5 q6 q7 : Int), win 0 (min i 8) [r0, r1, r2, r3, r4, r5, r6, r7] = (bs.take (min i 8)).map u8 ∧ win 0 (min i 8) [q0, q1, q2, q3, q4, q5, q6, q7] = (bs.take (min i 8)).map (fun x => u8 (x8 x)) ∧
    t = ⟨envO S bs.length i, [.box (ring r0 r1 r2 r3 r4 r5 r6 r7 8 0 (min i 8)), .box (ring q0 q1 q2 q3 q4 q5 q6 q7 8 0 (min i 8))]⟩

theorem owns_push (i : Nat) (h3 : i < 8) (r0 r1 r2 r3 r4 r5 r6 r7 q0 q1 q2 q3 q4 q5 q6 q7 p0 p1 p2 p3 p4 p5 p6 p7 s0 s1 s2 s3 s4 s5 s6 s7 : Int) (bs : List PV) (len : Nat) (hi : i < len) (hl : len = bs.length) (hw : len ≤ reachBytes) (x : Int) (hx : bs[i]? = some (u8 x))
    (hp : ((ring r0 r1 r2 r3 r4 r5 r6 r7 8 0 (i + 1)).set ((0 + i) % 8) (.pv (.int .u8 x))) = ring p0 p1 p2 p3 p4 p5 p6 p7 8 0 (i + 1))
    (hs : ((ring q0 q1 q2 q3 q4 q5 q6 q7 8 0 (i + 1)).set ((0 + i) % 8) (.pv (.int .u8 (x8 x)))) = ring s0 s1 s2 s3 s4 s5 s6 s7 8 0 (i + 1)) :
    roundL (callL tabO 8) [0, 3, 5, 32, 33, 34] o_leadtraillaw02_CarryOwns_l0 2 ⟨envO (.lit 1 bs) len i, [.box (ring r0 r1 r2 r3 r4 r5 r6 r7 8 0 i), .box (ring q0 q1 q2 q3 q4 q5 q6 q7 8 0 i)]⟩ =
      some (.norm, ⟨envO (.lit 1 bs) len (i + 1 : Nat), [.box (ring p0 p1 p2 p3 p4 p5 p6 p7 8 0 (i + 1)), .box (ring s0 s1 s2 s3 s4 s5 s6 s7 8 0 (i + 1))]⟩) := by
  have e1 : decide ((i : Int) < (len : Int)) = true := by simp; omega
  have e2 : decide ((i : Int) < 8) = true := by simp; omega
  have hq : idxOk (i : Int) bs.length := by unfold idxOk; omega
  have t1 : ((i : Int)).toNat = i := by simp
  have t2 : IntKind.i64.wrap ((i : Int) + 1) = ((i + 1 : Nat) : Int) := wrap_int (by unfold reachBytes at hw; omega)
  have h1 := push_go (callL tabO 7) 8 0 i (by omega) (by omega) (by omega) (.pv (u8 r0)) (.pv (u8 r1)) (.pv (u8 r2)) (.pv (u8 r3)) (.pv (u8 r4)) (.pv (u8 r5)) (.pv (u8 r6)) (.pv (u8 r7)) x
  have h2 := push_two (callL tabO 7) i (by omega) (.pv (u8 q0)) (.pv (u8 q1)) (.pv (u8 q2)) (.pv (u8 q3)) (.pv (u8 q4)) (.pv (u8 q5)) (.pv (u8 q6)) (.pv (u8 q7)) (x8 x)
  simp only [hp] at h1
  simp only [hs] at h2
  simp (implicitDefEqProofs := false) only [pureF, runF_go, callL_succ, C_skip, C_region, C_seq, C_cond, C_block, C_exit, C_ret, C_ghost, ops_cons, ops_nil, oper_go, oper_pr, oper_if, guard_t, guard_f, do_go, do_pr, skip_do, skip_no, onH_go, evalOp, List.map, List.length, if_true, ↓reduceIte, argEnv, AO.ev, Tr.get_set, wantedA, putR_do, putR_no, nextA_some, seqA_norm, seqA_ret, seqA_exit, normA_some, condA_t, condA_f, startA_go, blockA_norm, blockA_ret, blockA_exit, AV.cells, PV.cells, outR_ret, outR_norm, resA, one1, mapO, toPV, Option.bind_some, Option.map_some, AV.one, List.all, Bool.and_self, true_and, and_self, and_true, flatV, Bool.or_true, Bool.true_or, unA, asBool, asInt, Bool.not_true, Bool.not_false, fillA, mkAgg, mkTup, allPV, storeA, loadA, partA, partP, place, lenA_nils, lenA_lit, lenA_uq, lenA_str, lenA_nilm, lenA_own, lenA_mp, setRow, binA, intBin, eqA, fresh, chunk, List.append, List.nil_append, List.cons_append, List.getElem?_cons_zero, List.getElem?_cons_succ, List.getElem?_nil, List.set_cons_zero, List.set_cons_succ, List.length_cons, List.length_nil, Nat.zero_add, Nat.add_zero, List.drop, List.take, flat, elemsP, nilApp, appendA, Bool.false_eq_true, beq_self_eq_true, bne_self_eq_false, Bool.not_eq_true, decide_true, decide_false, reduceCtorEq, Nat.reduceAdd, Nat.reduceMul, Nat.reduceLeDiff, Nat.reduceEqDiff, Nat.le_refl, Int.reduceLT, Int.reduceLE, Int.reduceBEq, Int.reduceEq, Nat.reduceBEq, Option.bind_none, Option.map_none, b_tt, b_tf, b_ft, b_ff, pvInt, Int.cast_ofNat_Int, repZ, Bool.false_and, Bool.and_false, List.headD_cons, List.headD_nil, Nat.reduceLT, Nat.lt_add_one, Nat.reduceSub, Nat.sub_zero, Int.reduceBNe, List.isEmpty_cons, List.isEmpty_nil, Int.reduceGT, Int.reduceGE, Int.reduceAdd, Int.reduceSub, Int.reduceMul, Int.reduceNeg, roundL, roundA, o_leadtraillaw02_CarryOwns_l0, tabO, h1, h2, x8_fold, e1, e2, eq_true hq, t1, t2, hx, iaddrA', clean, cutEnv, cutObj, cut_ring, cut_pv, AV.cut, deep_eq, envO]

theorem owns_past (i n : Nat) (h3 : 8 ≤ i) (r0 r1 r2 r3 r4 r5 r6 r7 q0 q1 q2 q3 q4 q5 q6 q7 : Int) (bs : List PV) (len : Nat) (hi : i < len) (hl : len = bs.length) (hw : len ≤ reachBytes) (x : Int) (hx : bs[i]? = some (u8 x)) :
    roundL (callL tabO 8) [0, 3, 5, 32, 33, 34] o_leadtraillaw02_CarryOwns_l0 2 ⟨envO (.lit 1 bs) len i, [.box (ring r0 r1 r2 r3 r4 r5 r6 r7 8 0 n), .box (ring q0 q1 q2 q3 q4 q5 q6 q7 8 0 n)]⟩ =
      some (.norm, ⟨envO (.lit 1 bs) len (i + 1 : Nat), [.box (ring r0 r1 r2 r3 r4 r5 r6 r7 8 0 n), .box (ring q0 q1 q2 q3 q4 q5 q6 q7 8 0 n)]⟩) := by
  have e1 : decide ((i : Int) < (len : Int)) = true := by simp; omega
  have e2 : decide ((i : Int) < 8) = false := by simp; omega
  have hq : idxOk (i : Int) bs.length := by unfold idxOk; omega
  have t1 : ((i : Int)).toNat = i := by simp
  have t2 : IntKind.i64.wrap ((i : Int) + 1) = ((i + 1 : Nat) : Int) := wrap_int (by unfold reachBytes at hw; omega)
  simp (implicitDefEqProofs := false) only [pureF, runF_go, callL_succ, C_skip, C_region, C_seq, C_cond, C_block, C_exit, C_ret, C_ghost, ops_cons, ops_nil, oper_go, oper_pr, oper_if, guard_t, guard_f, do_go, do_pr, skip_do, skip_no, onH_go, evalOp, List.map, List.length, if_true, ↓reduceIte, argEnv, AO.ev, Tr.get_set, wantedA, putR_do, putR_no, nextA_some, seqA_norm, seqA_ret, seqA_exit, normA_some, condA_t, condA_f, startA_go, blockA_norm, blockA_ret, blockA_exit, AV.cells, PV.cells, outR_ret, outR_norm, resA, one1, mapO, toPV, Option.bind_some, Option.map_some, AV.one, List.all, Bool.and_self, true_and, and_self, and_true, flatV, Bool.or_true, Bool.true_or, unA, asBool, asInt, Bool.not_true, Bool.not_false, fillA, mkAgg, mkTup, allPV, storeA, loadA, partA, partP, place, lenA_nils, lenA_lit, lenA_uq, lenA_str, lenA_nilm, lenA_own, lenA_mp, setRow, binA, intBin, eqA, fresh, chunk, List.append, List.nil_append, List.cons_append, List.getElem?_cons_zero, List.getElem?_cons_succ, List.getElem?_nil, List.set_cons_zero, List.set_cons_succ, List.length_cons, List.length_nil, Nat.zero_add, Nat.add_zero, List.drop, List.take, flat, elemsP, nilApp, appendA, Bool.false_eq_true, beq_self_eq_true, bne_self_eq_false, Bool.not_eq_true, decide_true, decide_false, reduceCtorEq, Nat.reduceAdd, Nat.reduceMul, Nat.reduceLeDiff, Nat.reduceEqDiff, Nat.le_refl, Int.reduceLT, Int.reduceLE, Int.reduceBEq, Int.reduceEq, Nat.reduceBEq, Option.bind_none, Option.map_none, b_tt, b_tf, b_ft, b_ff, pvInt, Int.cast_ofNat_Int, repZ, Bool.false_and, Bool.and_false, List.headD_cons, List.headD_nil, Nat.reduceLT, Nat.lt_add_one, Nat.reduceSub, Nat.sub_zero, Int.reduceBNe, List.isEmpty_cons, List.isEmpty_nil, Int.reduceGT, Int.reduceGE, Int.reduceAdd, Int.reduceSub, Int.reduceMul, Int.reduceNeg, roundL, roundA, o_leadtraillaw02_CarryOwns_l0, tabO, e1, e2, eq_true hq, t1, t2, hx, iaddrA', clean, cutEnv, cutObj, cut_ring, cut_pv, AV.cut, deep_eq, envO]

theorem owns_step {bs : List Int} (hw : bs.length ≤ reachBytes) (i : Nat) (hi : i < bs.length) (t : St) (hI : InvO bs (.lit 1 (bs.map u8)) i t) :
    ∃ t', roundL (callL tabO 8) [0, 3, 5, 32, 33, 34] o_leadtraillaw02_CarryOwns_l0 2 t = some (.norm, t') ∧ InvO bs (.lit 1 (bs.map u8)) (i + 1) t' := by
  obtain ⟨r0, r1, r2, r3, r4, r5, r6, r7, q0, q1, q2, q3, q4, q5, q6, q7, hr, hq, rfl⟩ := hI
  have hx : (bs.map u8)[i]? = some (u8 (bs[i])) := by simp [hi]
  have hlb : bs.length = (bs.map u8).length := by simp
  by_cases h8 : i < 8
  · have m1 : min i 8 = i := by omega
    have m2 : min (i + 1) 8 = i + 1 := by omega
    rw [m1] at hr hq ⊢
    obtain ⟨p0, p1, p2, p3, p4, p5, p6, p7, hp, hl⟩ := set_ring (Nat.mod_lt (0 + i) (by decide : 0 < 8)) r0 r1 r2 r3 r4 r5 r6 r7 8 0 (i + 1) bs[i]
    obtain ⟨s0, s1, s2, s3, s4, s5, s6, s7, hs, hm⟩ := set_ring (Nat.mod_lt (0 + i) (by decide : 0 < 8)) q0 q1 q2 q3 q4 q5 q6 q7 8 0 (i + 1) (x8 bs[i])
    have w1 := win_push (at_ := 0) (n := i) (r := [r0, r1, r2, r3, r4, r5, r6, r7]) (b := bs[i]) (by omega) h8 rfl
    have w2 := win_push (at_ := 0) (n := i) (r := [q0, q1, q2, q3, q4, q5, q6, q7]) (b := x8 bs[i]) (by omega) h8 rfl
    rw [hl] at w1; rw [hm] at w2
    refine ⟨_, owns_push i h8 r0 r1 r2 r3 r4 r5 r6 r7 q0 q1 q2 q3 q4 q5 q6 q7 p0 p1 p2 p3 p4 p5 p6 p7 s0 s1 s2 s3 s4 s5 s6 s7 (bs.map u8) bs.length hi hlb hw bs[i] hx hp hs,
      p0, p1, p2, p3, p4, p5, p6, p7, s0, s1, s2, s3, s4, s5, s6, s7, ?_, ?_, by rw [m2]⟩
    · rw [m2, w1, hr, List.take_succ_eq_append_getElem hi, List.map_append]; rfl
    · rw [m2, w2, hq, List.take_succ_eq_append_getElem hi, List.map_append]; rfl
  · have m1 : min i 8 = 8 := by omega
    have m2 : min (i + 1) 8 = 8 := by omega
    rw [m1] at hr hq ⊢
    exact ⟨_, owns_past i 8 (by omega) r0 r1 r2 r3 r4 r5 r6 r7 q0 q1 q2 q3 q4 q5 q6 q7 (bs.map u8) bs.length hi hlb hw bs[i] hx,
      r0, r1, r2, r3, r4, r5, r6, r7, q0, q1, q2, q3, q4, q5, q6, q7, by rw [m2]; exact hr, by rw [m2]; exact hq, by rw [m2]⟩

theorem owns_loop {bs : List Int} {S : PV} (hS : Ints .u8 S bs) (hw : bs.length ≤ reachBytes) :
    ∃ (r0 r1 r2 r3 r4 r5 r6 r7 q0 q1 q2 q3 q4 q5 q6 q7 : Int), win 0 (min bs.length 8) [r0, r1, r2, r3, r4, r5, r6, r7] = (bs.take (min bs.length 8)).map u8 ∧ win 0 (min bs.length 8) [q0, q1, q2, q3, q4, q5, q6, q7] = (bs.take (min bs.length 8)).map (fun x => u8 (x8 x)) ∧
    loopA (roundA (evalC (callL tabO 8) o_leadtraillaw02_CarryOwns_l0) (clean 2 [0, 3, 5, 32, 33, 34])) rounds ⟨envO S bs.length 0, [.box (ring 0 0 0 0 0 0 0 0 8 0 0), .box (ring 0 0 0 0 0 0 0 0 8 0 0)]⟩ =
      some (.exit 0, ⟨(envO S bs.length bs.length).set 35 (.pv (.bool false)), [.box (ring r0 r1 r2 r3 r4 r5 r6 r7 8 0 (min bs.length 8)), .box (ring q0 q1 q2 q3 q4 q5 q6 q7 8 0 (min bs.length 8))]⟩) := by
  have hend : ∀ t, InvO bs S bs.length t → ∃ ex s', roundL (callL tabO 8) [0, 3, 5, 32, 33, 34] o_leadtraillaw02_CarryOwns_l0 2 t = some (ex, s') ∧ ex.stop = true ∧
      ∃ (r0 r1 r2 r3 r4 r5 r6 r7 q0 q1 q2 q3 q4 q5 q6 q7 : Int), win 0 (min bs.length 8) [r0, r1, r2, r3, r4, r5, r6, r7] = (bs.take (min bs.length 8)).map u8 ∧ win 0 (min bs.length 8) [q0, q1, q2, q3, q4, q5, q6, q7] = (bs.take (min bs.length 8)).map (fun x => u8 (x8 x)) ∧ ex = .exit 0 ∧
      s' = ⟨(envO S bs.length bs.length).set 35 (.pv (.bool false)), [.box (ring r0 r1 r2 r3 r4 r5 r6 r7 8 0 (min bs.length 8)), .box (ring q0 q1 q2 q3 q4 q5 q6 q7 8 0 (min bs.length 8))]⟩ := by
    rintro t ⟨r0, r1, r2, r3, r4, r5, r6, r7, q0, q1, q2, q3, q4, q5, q6, q7, hr, hq, rfl⟩
    refine ⟨.exit 0, _, ?_, rfl, r0, r1, r2, r3, r4, r5, r6, r7, q0, q1, q2, q3, q4, q5, q6, q7, hr, hq, rfl, rfl⟩
    have e1 : decide ((bs.length : Int) < (bs.length : Int)) = false := by simp
    generalize min bs.length 8 = m at *
    simp (implicitDefEqProofs := false) only [pureF, runF_go, callL_succ, C_skip, C_region, C_seq, C_cond, C_block, C_exit, C_ret, C_ghost, ops_cons, ops_nil, oper_go, oper_pr, oper_if, guard_t, guard_f, do_go, do_pr, skip_do, skip_no, onH_go, evalOp, List.map, List.length, if_true, ↓reduceIte, argEnv, AO.ev, Tr.get_set, wantedA, putR_do, putR_no, nextA_some, seqA_norm, seqA_ret, seqA_exit, normA_some, condA_t, condA_f, startA_go, blockA_norm, blockA_ret, blockA_exit, AV.cells, PV.cells, outR_ret, outR_norm, resA, one1, mapO, toPV, Option.bind_some, Option.map_some, AV.one, List.all, Bool.and_self, true_and, and_self, and_true, flatV, Bool.or_true, Bool.true_or, unA, asBool, asInt, Bool.not_true, Bool.not_false, fillA, mkAgg, mkTup, allPV, storeA, loadA, partA, partP, place, lenA_nils, lenA_lit, lenA_uq, lenA_str, lenA_nilm, lenA_own, lenA_mp, setRow, binA, intBin, eqA, fresh, chunk, List.append, List.nil_append, List.cons_append, List.getElem?_cons_zero, List.getElem?_cons_succ, List.getElem?_nil, List.set_cons_zero, List.set_cons_succ, List.length_cons, List.length_nil, Nat.zero_add, Nat.add_zero, List.drop, List.take, flat, elemsP, nilApp, appendA, Bool.false_eq_true, beq_self_eq_true, bne_self_eq_false, Bool.not_eq_true, decide_true, decide_false, reduceCtorEq, Nat.reduceAdd, Nat.reduceMul, Nat.reduceLeDiff, Nat.reduceEqDiff, Nat.le_refl, Int.reduceLT, Int.reduceLE, Int.reduceBEq, Int.reduceEq, Nat.reduceBEq, Option.bind_none, Option.map_none, b_tt, b_tf, b_ft, b_ff, pvInt, Int.cast_ofNat_Int, repZ, Bool.false_and, Bool.and_false, List.headD_cons, List.headD_nil, Nat.reduceLT, Nat.lt_add_one, Nat.reduceSub, Nat.sub_zero, Int.reduceBNe, List.isEmpty_cons, List.isEmpty_nil, Int.reduceGT, Int.reduceGE, Int.reduceAdd, Int.reduceSub, Int.reduceMul, Int.reduceNeg, roundL, roundA, o_leadtraillaw02_CarryOwns_l0, e1, envO]
  have h0 : InvO bs S 0 ⟨envO S bs.length (0 : Nat), [.box (ring 0 0 0 0 0 0 0 0 8 0 0), .box (ring 0 0 0 0 0 0 0 0 8 0 0)]⟩ :=
    ⟨0, 0, 0, 0, 0, 0, 0, 0, 0, 0, 0, 0, 0, 0, 0, 0, rfl, rfl, rfl⟩
  have key := loopA_go (g := roundL (callL tabO 8) [0, 3, 5, 32, 33, 34] o_leadtraillaw02_CarryOwns_l0 2) (InvO bs S) _ rounds bs.length 0 _ (by unfold rounds; unfold reachBytes at hw; omega) (by omega) h0 ?_ hend
  · obtain ⟨ex, s', h, _, r0, r1, r2, r3, r4, r5, r6, r7, q0, q1, q2, q3, q4, q5, q6, q7, hr, hq, rfl, rfl⟩ := key
    exact ⟨r0, r1, r2, r3, r4, r5, r6, r7, q0, q1, q2, q3, q4, q5, q6, q7, hr, hq, h⟩
  · intro i hi t hI
    rcases hS with ⟨rfl, rfl⟩ | rfl
    · simp at hi
    · exact .inl (owns_step hw i hi t hI)

end Go.AM.C1
