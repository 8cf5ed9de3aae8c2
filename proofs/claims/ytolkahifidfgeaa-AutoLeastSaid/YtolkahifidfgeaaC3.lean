/- What the functions of sets, spans and scalars compute. -/
import Derived.Test.YtolkahifidfgeaaC2
set_option linter.unusedVariables false
namespace Go.AM.B1
open Go.AM
def b_cmp_Compare_int:AFn:=⟨2,[.tmp 4],(.seq (.region [Co 4 (.move (.c (.int .i64 0)))]) (.seq (.region [Cv 7 0,Co 8 (.callP F_cmp_isNaN_int [(.t 7)]),Cv 5 8]) (.seq (.region [Cv 9 1,Co 10 (.callP F_cmp_isNaN_int [(.t 9)]),Cv 6 10]) (.seq (.seq (.region [Cv 11 5]) (.cond (.t 11) (.seq (.seq (.region [Cv 12 6]) (.cond (.t 12) (.seq (.region [Co 4 (.move (.c (.int .i64 0)))]) (.ret)) (.skip))) (.seq (.region [Co 4 (.move (.c (.int .i64 (-1))))]) (.ret))) (.skip))) (.seq (.seq (.region [Cv 13 6]) (.cond (.t 13) (.seq (.region [Co 4 (.move (.c (.int .i64 1)))]) (.ret)) (.skip))) (.seq (.seq (.region [Cv 14 0,Cv 15 1,Co 16 (.bin .lss (.t 14) (.t 15))]) (.cond (.t 16) (.seq (.region [Co 4 (.move (.c (.int .i64 (-1))))]) (.ret)) (.skip))) (.seq (.seq (.region [Cv 17 0,Cv 18 1,Co 19 (.bin .gtr (.t 17) (.t 18))]) (.cond (.t 19) (.seq (.region [Co 4 (.move (.c (.int .i64 1)))]) (.ret)) (.skip))) (.seq (.region [Co 4 (.move (.c (.int .i64 0)))]) (.ret)))))))))⟩
theorem fn_cmp_Compare_int:FnOk P fo 109 b_cmp_Compare_int:=fM Go.Proofs.Try.func109 (dC p_cmp_isNaN_int (dC p_cmp_isNaN_int dN)) (by kernel_rfl) (by kernel_rfl)
def F_cmp_Compare_int:List PV→Option PV:=pureF (fun _=>none) b_cmp_Compare_int
theorem p_cmp_Compare_int:PureFn P 109 F_cmp_Compare_int:=pureF_ok noTable fn_cmp_Compare_int
def b_sets_Norm_1:AFn:=⟨2,[.tmp 4],(.seq (.region [Co 2 (.boxR 2 (.t 0)),Co 3 (.boxR 2 (.t 1)),Co 4 (.move (.c (.int .i64 0)))]) (.seq (.region [Cp 5 (.faddr 0 (.t 2)),Cp 6 (.load false 1 (.t 5)),Cp 7 (.faddr 0 (.t 3)),Cp 8 (.load false 1 (.t 7)),Co 9 (.callP F_cmp_Compare_int [(.t 6),(.t 8)]),Cv 4 9]) (.ret)))⟩
theorem fn_sets_Norm_1:FnOk P fo 108 b_sets_Norm_1:=fM Go.Proofs.Try.func108 (dC p_cmp_Compare_int dN) (by kernel_rfl) (by kernel_rfl)
def b_sets_Norm_l0:ACode:=(.seq (.region [Co 12 (.bin .lss (.t 11) (.t 10))]) (.seq (.cond (.t 12) (.skip) (.exit 0)) (.seq (.block 1 (.seq (.region [Co 13 (.iaddr 2 (.t 9) (.t 11)),Co 14 (.load true 2 (.t 13)),Co 5 (.alloc [(.int .i64 0),(.int .i64 0)]),Ce (.store 2 (.t 5) (.t 14))]) (.seq (.seq (.region [Cv 15 3,Co 16 (.len 0 (.t 15)),Cv 6 16]) (.seq (.region [Cv 17 6,Co 18 (.bin .gtr (.t 17) (.c (.int .i64 0))),Cv 19 18,Cg 20 19 true (.faddr 0 (.t 5)),Cg 21 19 true (.load false 1 (.t 20)),Cg 22 19 true (.move (.t 3)),Cg 23 19 true (.move (.t 6)),Cg 24 19 true (.bin .sub (.t 23) (.c (.int .i64 1))),Cg 25 19 true (.iaddr 2 (.t 22) (.t 24)),Cg 26 19 true (.faddr 1 (.t 25)),Cg 27 19 true (.load false 1 (.t 26)),Cg 28 19 true (.bin .add (.t 27) (.c (.int .i64 1))),Cg 29 19 true (.bin .leq (.t 21) (.t 28)),Co 30 (.pick (.t 19) (.t 29) (.c (.bool false)))]) (.cond (.t 30) (.seq (.region [Cv 31 3,Cv 32 6,Co 33 (.bin .sub (.t 32) (.c (.int .i64 1))),Cv 34 3,Cv 35 6,Co 36 (.bin .sub (.t 35) (.c (.int .i64 1))),Co 37 (.iaddr 2 (.t 34) (.t 36)),Co 38 (.faddr 1 (.t 37)),Co 39 (.load false 1 (.t 38)),Co 40 (.faddr 1 (.t 5)),Co 41 (.load false 1 (.t 40)),Co 42 (.mx [(.t 39),(.t 41)]),Co 43 (.iaddr 2 (.t 31) (.t 33)),Co 44 (.faddr 1 (.t 43)),Ce (.store 1 (.t 44) (.t 42))]) (.exit 1)) (.skip)))) (.region [Cv 45 3,Co 46 (.load true 2 (.t 5)),Co 47 (.bslice .lit 2 true 1 [(.int .i64 0),(.int .i64 0)] [(0,(.t 46))]),Co 48 (.append true .own 2 true 16 (.t 45) (.t 47)),Cv 3 48])))) (.region [Co 49 (.bin .add (.t 11) (.c (.int .i64 1))),Cv 11 49]))))
def b_sets_Norm:AFn:=⟨1,[.tmp 2],(.seq (.region [Co 2 (.move (.c .nils))]) (.seq (.region [Cv 7 0,Co 8 (.callI 22 [(.t 7),(.f 23)])]) (.seq (.region [Co 3 (.move (.c .nils))]) (.ghost (.mkown 3 2 true) (.seq (.seq (.region [Cv 9 0,Co 10 (.len 0 (.t 9)),Co 11 (.move (.c (.int .i64 0)))]) (.block 0 (.loop [3,9,10,11] b_sets_Norm_l0))) (.seq (.region [Cv 50 3,Cv 2 50]) (.ret)))))))⟩
theorem fn_sets_Norm:FnOk P fo 94 b_sets_Norm:=fM Go.Proofs.Try.func94 dN (by kernel_rfl) (by kernel_rfl)
def b_sets_To_sets_Run_api_Range_own_l0:ACode:=(.seq (.region [Co 12 (.bin .lss (.t 11) (.t 10))]) (.seq (.cond (.t 12) (.skip) (.exit 0)) (.seq (.block 1 (.seq (.region [Co 13 (.iaddr 2 (.t 9) (.t 11)),Co 14 (.load true 2 (.t 13)),Co 5 (.alloc [(.int .i64 0),(.int .i64 0)]),Ce (.store 2 (.t 5) (.t 14))]) (.region [Cv 15 3,Co 16 (.load true 2 (.t 5)),Co 17 (.bslice .lit 2 true 1 [(.int .i64 0),(.int .i64 0)] [(0,(.t 16))]),Co 18 (.append true .own 2 true 16 (.t 15) (.t 17)),Cv 3 18]))) (.region [Co 19 (.bin .add (.t 11) (.c (.int .i64 1))),Cv 11 19]))))
def b_sets_To_sets_Run_api_Range_own:AFn:=⟨1,[.tmp 2],(.seq (.region [Co 2 (.move (.c .nils))]) (.seq (.region [Cv 6 0,Co 7 (.len 0 (.t 6)),Co 8 (.mkslice .own 2 true [(.int .i64 0),(.int .i64 0)] 16 (.c (.int .i64 0)) (.t 7)),Cv 3 8]) (.seq (.seq (.region [Cv 9 0,Co 10 (.len 0 (.t 9)),Co 11 (.move (.c (.int .i64 0)))]) (.block 0 (.loop [3,9,10,11] b_sets_To_sets_Run_api_Range_own_l0))) (.seq (.region [Cv 20 3,Cv 2 20]) (.ret)))))⟩
theorem fn_sets_To_sets_Run_api_Range_own:FnOk P fo 106 b_sets_To_sets_Run_api_Range_own:=fM Go.Proofs.Try.func106 dN (by kernel_rfl) (by kernel_rfl)
def b_scalars_set_own:AFn:=⟨1,[.tmp 2],(.seq (.region [Co 2 (.move (.c .nils))]) (.seq (.region [Cv 4 0,Co 5 (.callI 0 [(.t 4)]),Cv 3 5]) (.seq (.seq (.region [Cv 6 3,Co 7 (.callP F_sets_Valid [(.t 6),(.c (.int .i64 1073741823))]),Co 8 (.un .not (.t 7))]) (.cond (.t 8) (.seq (.region [Co 2 (.move (.c .nils))]) (.ret)) (.skip))) (.seq (.region [Cv 9 3,Cv 2 9]) (.ret)))))⟩
theorem fn_scalars_set_own:FnOk P fo 93 b_scalars_set_own:=fM Go.Proofs.Try.func93 (dC p_sets_Valid dN) (by kernel_rfl) (by kernel_rfl)
def b_sets_To_api_Range_sets_Run_in_l0:ACode:=(.seq (.region [Co 12 (.bin .lss (.t 11) (.t 10))]) (.seq (.cond (.t 12) (.skip) (.exit 0)) (.seq (.block 1 (.seq (.region [Co 13 (.iaddr 2 (.t 9) (.t 11)),Co 14 (.load true 2 (.t 13)),Co 5 (.alloc [(.int .i64 0),(.int .i64 0)]),Ce (.store 2 (.t 5) (.t 14))]) (.region [Cv 15 3,Co 16 (.load true 2 (.t 5)),Co 17 (.bslice .lit 2 true 1 [(.int .i64 0),(.int .i64 0)] [(0,(.t 16))]),Co 18 (.append false .uq 2 true 16 (.t 15) (.t 17)),Cv 3 18]))) (.region [Co 19 (.bin .add (.t 11) (.c (.int .i64 1))),Cv 11 19]))))
def b_sets_To_api_Range_sets_Run_in:AFn:=⟨1,[.tmp 2],(.seq (.region [Co 2 (.move (.c .nils))]) (.seq (.region [Cv 6 0,Co 7 (.len 0 (.t 6)),Co 8 (.mkslice .uq 2 true [(.int .i64 0),(.int .i64 0)] 16 (.c (.int .i64 0)) (.t 7)),Cv 3 8]) (.seq (.seq (.region [Cv 9 0,Co 10 (.len 0 (.t 9)),Co 11 (.move (.c (.int .i64 0)))]) (.block 0 (.loop [3,9,10,11] b_sets_To_api_Range_sets_Run_in_l0))) (.seq (.region [Cv 20 3,Cv 2 20]) (.ret)))))⟩
theorem fn_sets_To_api_Range_sets_Run_in:FnOk P fo 105 b_sets_To_api_Range_sets_Run_in:=fM Go.Proofs.Try.func105 dN (by kernel_rfl) (by kernel_rfl)
def b_scalars_back_in:AFn:=⟨1,[.tmp 2],(.seq (.region [Co 2 (.move (.c .nils))]) (.seq (.region [Cv 3 0,Co 4 (.callI 2 [(.t 3)]),Cv 2 4]) (.ret)))⟩
theorem fn_scalars_back_in:FnOk P fo 91 b_scalars_back_in:=fM Go.Proofs.Try.func91 dN (by kernel_rfl) (by kernel_rfl)
def b_scalars_Union:AFn:=⟨2,[.tmp 4],(.seq (.region [Co 4 (.move (.c .nils))]) (.seq (.region [Cv 5 0,Co 6 (.callI 1 [(.t 5)]),Cv 7 1,Co 8 (.callI 1 [(.t 7)]),Co 9 (.append true .own 2 true 16 (.t 6) (.t 8)),Co 10 (.callI 24 [(.t 9)]),Co 11 (.callI 3 [(.t 10)]),Cv 4 11]) (.ret)))⟩
theorem fn_scalars_Union:FnOk P fo 74 b_scalars_Union:=fM Go.Proofs.Try.func74 dN (by kernel_rfl) (by kernel_rfl)
def t_scalars_Union:Nat→Option AFn
 |8=>some b_slices_insertionSortCmpFunc_sets_Run
 |9=>some b_slices_siftDownCmpFunc_sets_Run
 |10=>some b_slices_heapSortCmpFunc_sets_Run
 |11=>some b_slices_xorshift_Next
 |12=>some b_slices_breakPatternsCmpFunc_sets_Run
 |13=>some b_slices_order2CmpFunc_sets_Run
 |14=>some b_slices_medianCmpFunc_sets_Run
 |15=>some b_slices_medianAdjacentCmpFunc_sets_Run
 |16=>some b_slices_choosePivotCmpFunc_sets_Run
 |17=>some b_slices_reverseRangeCmpFunc_sets_Run
 |18=>some b_slices_partialInsertionSortCmpFunc_sets_Run
 |19=>some b_slices_partitionEqualCmpFunc_sets_Run
 |20=>some b_slices_partitionCmpFunc_sets_Run
 |21=>some b_slices_pdqsortCmpFunc_sets_Run
 |22=>some b_slices_SortFunc_sets_Run_sets_Run
 |23=>some b_sets_Norm_1
 |24=>some b_sets_Norm
 |0=>some b_sets_To_sets_Run_api_Range_own
 |1=>some b_scalars_set_own
 |2=>some b_sets_To_api_Range_sets_Run_in
 |3=>some b_scalars_back_in
 |_=>none
theorem tok_scalars_Union:TableOk P fo t_scalars_Union:=by
 intro ix af h
 unfold t_scalars_Union at h
 split at h
 ·injection h with h;subst h;exact fn_slices_insertionSortCmpFunc_sets_Run
 ·injection h with h;subst h;exact fn_slices_siftDownCmpFunc_sets_Run
 ·injection h with h;subst h;exact fn_slices_heapSortCmpFunc_sets_Run
 ·injection h with h;subst h;exact fn_slices_xorshift_Next
 ·injection h with h;subst h;exact fn_slices_breakPatternsCmpFunc_sets_Run
 ·injection h with h;subst h;exact fn_slices_order2CmpFunc_sets_Run
 ·injection h with h;subst h;exact fn_slices_medianCmpFunc_sets_Run
 ·injection h with h;subst h;exact fn_slices_medianAdjacentCmpFunc_sets_Run
 ·injection h with h;subst h;exact fn_slices_choosePivotCmpFunc_sets_Run
 ·injection h with h;subst h;exact fn_slices_reverseRangeCmpFunc_sets_Run
 ·injection h with h;subst h;exact fn_slices_partialInsertionSortCmpFunc_sets_Run
 ·injection h with h;subst h;exact fn_slices_partitionEqualCmpFunc_sets_Run
 ·injection h with h;subst h;exact fn_slices_partitionCmpFunc_sets_Run
 ·injection h with h;subst h;exact fn_slices_pdqsortCmpFunc_sets_Run
 ·injection h with h;subst h;exact fn_slices_SortFunc_sets_Run_sets_Run
 ·injection h with h;subst h;exact fn_sets_Norm_1
 ·injection h with h;subst h;exact fn_sets_Norm
 ·injection h with h;subst h;exact fn_sets_To_sets_Run_api_Range_own
 ·injection h with h;subst h;exact fn_scalars_set_own
 ·injection h with h;subst h;exact fn_sets_To_api_Range_sets_Run_in
 ·injection h with h;subst h;exact fn_scalars_back_in
 ·cases h
def F_scalars_Union:List PV→Option PV:=pureF t_scalars_Union b_scalars_Union
theorem p_scalars_Union:PureFn P 74 F_scalars_Union:=pureF_ok tok_scalars_Union fn_scalars_Union
def b_scheme_Valid_l0:ACode:=(.seq (.region [Co 15 (.bin .lss (.t 14) (.t 13))]) (.seq (.cond (.t 15) (.skip) (.exit 0)) (.seq (.block 1 (.seq (.region [Co 16 (.iaddr 2 (.t 12) (.t 14)),Co 17 (.load true 2 (.t 16)),Co 5 (.alloc [.nils,(.int .i64 0)]),Ce (.store 2 (.t 5) (.t 17))]) (.seq (.seq (.region [Co 18 (.faddr 0 (.t 5)),Co 19 (.load false 1 (.t 18)),Co 20 (.len 0 (.t 19)),Co 21 (.bin .lss (.t 20) (.c (.int .i64 1))),Cv 22 21,Cg 23 22 false (.faddr 0 (.t 5)),Cg 24 22 false (.load false 1 (.t 23)),Cg 25 22 false (.len 0 (.t 24)),Cg 26 22 false (.bin .gtr (.t 25) (.c (.int .i64 8))),Co 27 (.pick (.t 22) (.c (.bool true)) (.t 26)),Cv 28 27,Cg 29 28 false (.faddr 1 (.t 5)),Cg 30 28 false (.load false 1 (.t 29)),Cg 31 28 false (.bin .lss (.t 30) (.c (.int .i64 0))),Co 32 (.pick (.t 28) (.c (.bool true)) (.t 31)),Cv 33 32,Cg 34 33 false (.faddr 1 (.t 5)),Cg 35 33 false (.load false 1 (.t 34)),Cg 36 33 false (.bin .gtr (.t 35) (.c (.int .i64 1073741823))),Co 37 (.pick (.t 33) (.c (.bool true)) (.t 36)),Cv 38 37,Cg 39 38 false (.faddr 0 (.t 5)),Cg 40 38 false (.load false 1 (.t 39)),Cg 41 38 false (.callI 6 [(.t 40),(.f 7)]),Co 42 (.pick (.t 38) (.c (.bool true)) (.t 41))]) (.cond (.t 42) (.seq (.region [Co 2 (.move (.c (.bool false)))]) (.ret)) (.skip))) (.seq (.region [Co 43 (.faddr 1 (.t 5)),Co 44 (.load false 1 (.t 43)),Co 45 (.load true 2 (.t 5)),Co 46 (.callP F_scheme_last [(.t 45)]),Co 47 (.build [(.int .i64 0),(.int .i64 0)] [(0,1,(.t 44)),(1,1,(.t 46))]),Co 48 (.bslice .lit 2 true 1 [(.int .i64 0),(.int .i64 0)] [(0,(.t 47))]),Cv 6 48]) (.seq (.seq (.region [Cv 49 6,Co 50 (.iaddr 2 (.t 49) (.c (.int .i64 0))),Co 51 (.faddr 1 (.t 50)),Co 52 (.load false 1 (.t 51)),Co 53 (.bin .gtr (.t 52) (.c (.int .i64 1073741823))),Cv 54 53,Cg 55 54 false (.move (.t 3)),Cg 56 54 false (.move (.t 6)),Cg 57 54 false (.callP F_scalars_Meet [(.t 55),(.t 56)]),Cg 58 54 false (.len 0 (.t 57)),Cg 59 54 false (.bin .gtr (.t 58) (.c (.int .i64 0))),Co 60 (.pick (.t 54) (.c (.bool true)) (.t 59))]) (.cond (.t 60) (.seq (.region [Co 2 (.move (.c (.bool false)))]) (.ret)) (.skip))) (.region [Cv 61 3,Cv 62 6,Co 63 (.callP F_scalars_Union [(.t 61),(.t 62)]),Cv 3 63])))))) (.region [Co 64 (.bin .add (.t 14) (.c (.int .i64 1))),Cv 14 64]))))
def b_scheme_Valid:AFn:=⟨1,[.tmp 2],(.seq (.region [Co 1 (.boxR 1 (.t 0)),Co 2 (.move (.c (.bool false)))]) (.seq (.seq (.region [Cp 7 (.faddr 0 (.t 1)),Cp 8 (.load false 1 (.t 7)),Co 9 (.len 0 (.t 8)),Co 10 (.bin .gtr (.t 9) (.c (.int .i64 32)))]) (.cond (.t 10) (.seq (.region [Co 2 (.move (.c (.bool false)))]) (.ret)) (.skip))) (.seq (.region [Co 3 (.move (.c .nils))]) (.seq (.seq (.region [Cp 11 (.faddr 0 (.t 1)),Cp 12 (.load false 1 (.t 11)),Co 13 (.len 0 (.t 12)),Co 14 (.move (.c (.int .i64 0)))]) (.block 0 (.loop [3,12,13,14] b_scheme_Valid_l0))) (.seq (.region [Co 2 (.move (.c (.bool true)))]) (.ret))))))⟩
theorem fn_scheme_Valid:FnOk P fo 48 b_scheme_Valid:=fM Go.Proofs.Try.func48 (dC p_scheme_last (dC p_scalars_Meet (dC p_scalars_Union dN))) (by kernel_rfl) (by kernel_rfl)
def t_scheme_Valid:Nat→Option AFn
 |5=>some b_slices_IndexFunc_api_Span_api_Span
 |6=>some b_slices_ContainsFunc_api_Span_api_Span
 |7=>some b_scheme_none
 |_=>none
theorem tok_scheme_Valid:TableOk P fo t_scheme_Valid:=by
 intro ix af h
 unfold t_scheme_Valid at h
 split at h
 ·injection h with h;subst h;exact fn_slices_IndexFunc_api_Span_api_Span
 ·injection h with h;subst h;exact fn_slices_ContainsFunc_api_Span_api_Span
 ·injection h with h;subst h;exact fn_scheme_none
 ·cases h
def F_scheme_Valid:List PV→Option PV:=pureF t_scheme_Valid b_scheme_Valid
theorem p_scheme_Valid:PureFn P 48 F_scheme_Valid:=pureF_ok tok_scheme_Valid fn_scheme_Valid
def b_shape_Valid:AFn:=⟨1,[.tmp 2],(.seq (.region [Co 1 (.boxR 2 (.t 0)),Co 2 (.move (.c (.bool false)))]) (.seq (.region [Cp 3 (.load true 2 (.t 1)),Co 4 (.bslice .lit 2 true 1 [.nils,(.int .i64 0)] [(0,(.t 3))]),Co 5 (.build [.nils] [(0,1,(.t 4))]),Co 6 (.callP F_scheme_Valid [(.t 5)]),Cv 2 6]) (.ret)))⟩
theorem fn_shape_Valid:FnOk P fo 75 b_shape_Valid:=fM Go.Proofs.Try.func75 (dC p_scheme_Valid dN) (by kernel_rfl) (by kernel_rfl)
def F_shape_Valid:List PV→Option PV:=pureF (fun _=>none) b_shape_Valid
theorem p_shape_Valid:PureFn P 75 F_shape_Valid:=pureF_ok noTable fn_shape_Valid
def b_shape_Common_l0:ACode:=(.seq (.region [Co 36 (.bin .lss (.t 35) (.t 34))]) (.seq (.cond (.t 36) (.skip) (.exit 0)) (.seq (.block 1 (.seq (.region [Cv 37 35,Cv 9 37]) (.seq (.region [Cp 38 (.faddr 0 (.t 3)),Cp 39 (.load false 1 (.t 38)),Cv 40 9,Cp 41 (.iaddr 1 (.t 39) (.t 40)),Cp 42 (.load false 1 (.t 41)),Cp 43 (.faddr 0 (.t 4)),Cp 44 (.load false 1 (.t 43)),Cv 45 9,Cp 46 (.iaddr 1 (.t 44) (.t 45)),Cp 47 (.load false 1 (.t 46)),Co 48 (.callP F_spans_Meet [(.t 42),(.t 47)]),Cv 10 48]) (.seq (.seq (.region [Cv 49 10,Co 50 (.len 0 (.t 49)),Co 51 (.bin .eql (.t 50) (.c (.int .i64 0)))]) (.cond (.t 51) (.seq (.region [Co 6 (.move (.c .nils)),Co 7 (.move (.c (.bool false)))]) (.ret)) (.skip))) (.region [Cv 52 8,Cv 53 10,Co 54 (.iaddr 2 (.t 53) (.c (.int .i64 0))),Co 55 (.faddr 0 (.t 54)),Co 56 (.load false 1 (.t 55)),Co 57 (.conv .u8 (.t 56)),Co 58 (.bslice .lit 1 false 1 [(.int .u8 0)] [(0,(.t 57))]),Co 59 (.append false .uq 1 false 1 (.t 52) (.t 58)),Cv 8 59]))))) (.region [Co 60 (.bin .add (.t 35) (.c (.int .i64 1))),Cv 35 60]))))
def b_shape_Common:AFn:=⟨3,[.tmp 6,.tmp 7],(.seq (.region [Co 3 (.boxR 2 (.t 0)),Co 4 (.boxR 2 (.t 1)),Co 6 (.move (.c .nils)),Co 7 (.move (.c (.bool false)))]) (.seq (.seq (.region [Cp 11 (.load true 2 (.t 3)),Co 12 (.callP F_shape_Valid [(.t 11)]),Co 13 (.un .not (.t 12)),Cv 14 13,Cq 15 14 false (.load true 2 (.t 4)),Cg 16 14 false (.callP F_shape_Valid [(.t 15)]),Cg 17 14 false (.un .not (.t 16)),Co 18 (.pick (.t 14) (.c (.bool true)) (.t 17)),Cv 19 18,Cg 20 19 false (.move (.t 2)),Cg 21 19 false (.bin .lss (.t 20) (.c (.int .i64 0))),Co 22 (.pick (.t 19) (.c (.bool true)) (.t 21)),Cv 23 22,Cg 24 23 false (.move (.t 2)),Cq 25 23 false (.faddr 0 (.t 3)),Cq 26 23 false (.load false 1 (.t 25)),Cg 27 23 false (.len 0 (.t 26)),Cq 28 23 false (.faddr 0 (.t 4)),Cq 29 23 false (.load false 1 (.t 28)),Cg 30 23 false (.len 0 (.t 29)),Cg 31 23 false (.mn [(.t 27),(.t 30)]),Cg 32 23 false (.bin .gtr (.t 24) (.t 31)),Co 33 (.pick (.t 23) (.c (.bool true)) (.t 32))]) (.cond (.t 33) (.seq (.region [Co 6 (.move (.c .nils)),Co 7 (.move (.c (.bool false)))]) (.ret)) (.skip))) (.seq (.region [Co 8 (.move (.c .nils))]) (.ghost (.mkuq 8 1) (.seq (.seq (.region [Cv 34 2,Co 35 (.move (.c (.int .i64 0)))]) (.block 0 (.loop [3,4,8,34,35] b_shape_Common_l0))) (.seq (.region [Cv 61 8,Cv 6 61,Co 7 (.move (.c (.bool true)))]) (.ret)))))))⟩
theorem fn_shape_Common:FnOk P fo 83 b_shape_Common:=fM Go.Proofs.Try.func83 (dC p_shape_Valid (dC p_shape_Valid (dC p_spans_Meet dN))) (by kernel_rfl) (by kernel_rfl)
def F_shape_Common:List PV→Option PV:=pureF (fun _=>none) b_shape_Common
theorem p_shape_Common:PureFn P 83 F_shape_Common:=pureF_ok noTable fn_shape_Common
def b_shape_steps_l0:ACode:=(.seq (.seq (.region [Cv 14 5,Co 15 (.bin .gtr (.t 14) (.c (.int .i64 0)))]) (.cond (.t 15) (.skip) (.exit 0))) (.seq (.block 1 (.seq (.region [Cv 18 3,Cv 19 5,Cv 20 4,Co 21 (.iaddr 1 (.t 18) (.t 19)),Ce (.store 1 (.t 21) (.t 20))]) (.region [Cv 22 4,Cp 23 (.faddr 0 (.t 1)),Cp 24 (.load false 1 (.t 23)),Cv 25 5,Co 26 (.bin .sub (.t 25) (.c (.int .i64 1))),Co 27 (.iaddr 1 (.t 24) (.t 26)),Co 28 (.load false 1 (.t 27)),Co 29 (.callP F_spans_Size [(.t 28)]),Co 30 (.bin .mul (.t 22) (.t 29)),Cv 4 30]))) (.region [Cv 16 5,Co 17 (.bin .sub (.t 16) (.c (.int .i64 1))),Cv 5 17])))
def b_shape_steps:AFn:=⟨1,[.tmp 2],(.seq (.region [Co 1 (.boxR 2 (.t 0)),Co 2 (.move (.c .nils))]) (.seq (.region [Cp 6 (.faddr 0 (.t 1)),Cp 7 (.load false 1 (.t 6)),Co 8 (.len 0 (.t 7)),Co 9 (.bin .add (.t 8) (.c (.int .i64 1))),Co 10 (.mkslice .own 1 false [(.int .i64 0)] 8 (.t 9) (.t 9)),Cv 3 10]) (.seq (.region [Co 4 (.move (.c (.int .i64 1)))]) (.seq (.seq (.region [Cp 11 (.faddr 0 (.t 1)),Cp 12 (.load false 1 (.t 11)),Co 13 (.len 0 (.t 12)),Cv 5 13]) (.block 0 (.loop [1,3,4,5] b_shape_steps_l0))) (.seq (.region [Cv 31 3,Cv 32 4,Co 33 (.iaddr 1 (.t 31) (.c (.int .i64 0))),Ce (.store 1 (.t 33) (.t 32))]) (.seq (.region [Cv 34 3,Cv 2 34]) (.ret)))))))⟩
theorem fn_shape_steps:FnOk P fo 76 b_shape_steps:=fM Go.Proofs.Try.func76 (dC p_spans_Size dN) (by kernel_rfl) (by kernel_rfl)
def F_shape_steps:List PV→Option PV:=pureF (fun _=>none) b_shape_steps
theorem p_shape_steps:PureFn P 76 F_shape_steps:=pureF_ok noTable fn_shape_steps
def b_shape_Rank_l0:ACode:=(.seq (.region [Co 27 (.bin .lss (.t 26) (.t 25))]) (.seq (.cond (.t 27) (.skip) (.exit 0)) (.seq (.block 1 (.seq (.region [Cv 28 26,Co 29 (.iaddr 1 (.t 24) (.t 26)),Co 30 (.load false 1 (.t 29)),Cv 7 28,Cv 8 30]) (.seq (.region [Cp 32 (.faddr 0 (.t 2)),Cp 33 (.load false 1 (.t 32)),Cv 34 7,Cp 35 (.iaddr 1 (.t 33) (.t 34)),Cp 36 (.load false 1 (.t 35)),Cv 37 1,Cv 38 7,Cp 39 (.iaddr 1 (.t 37) (.t 38)),Cp 40 (.load false 1 (.t 39)),Cp 41 (.conv .i64 (.t 40)),Co 42 (.callP F_spans_Rank [(.t 36),(.t 41)]),Cv 31 42,Co 43 (.ext 0 (.t 31)),Co 44 (.ext 1 (.t 31)),Cv 9 43,Cv 10 44]) (.seq (.seq (.region [Cv 45 10,Co 46 (.un .not (.t 45))]) (.cond (.t 46) (.seq (.region [Co 4 (.move (.c (.int .i64 0))),Co 5 (.move (.c (.bool false)))]) (.ret)) (.skip))) (.region [Cv 47 6,Cv 48 9,Cv 49 8,Co 50 (.bin .mul (.t 48) (.t 49)),Co 51 (.bin .add (.t 47) (.t 50)),Cv 6 51]))))) (.region [Co 52 (.bin .add (.t 26) (.c (.int .i64 1))),Cv 26 52]))))
def b_shape_Rank:AFn:=⟨2,[.tmp 4,.tmp 5],(.seq (.region [Co 2 (.boxR 2 (.t 0)),Co 4 (.move (.c (.int .i64 0))),Co 5 (.move (.c (.bool false)))]) (.seq (.seq (.region [Cp 11 (.load true 2 (.t 2)),Co 12 (.callP F_shape_Valid [(.t 11)]),Co 13 (.un .not (.t 12)),Cv 14 13,Cg 15 14 false (.move (.t 1)),Cg 16 14 false (.len 0 (.t 15)),Cq 17 14 false (.faddr 0 (.t 2)),Cq 18 14 false (.load false 1 (.t 17)),Cg 19 14 false (.len 0 (.t 18)),Cg 20 14 false (.bin .neq (.t 16) (.t 19)),Co 21 (.pick (.t 14) (.c (.bool true)) (.t 20))]) (.cond (.t 21) (.seq (.region [Co 4 (.move (.c (.int .i64 0))),Co 5 (.move (.c (.bool false)))]) (.ret)) (.skip))) (.seq (.region [Co 6 (.move (.c (.int .i64 0)))]) (.seq (.seq (.region [Cp 22 (.load true 2 (.t 2)),Co 23 (.callP F_shape_steps [(.t 22)]),Co 24 (.slice 1 (.t 23) (some (.c (.int .i64 1))) none),Co 25 (.len 0 (.t 24)),Co 26 (.move (.c (.int .i64 0)))]) (.block 0 (.loop [1,2,6,24,25,26] b_shape_Rank_l0))) (.seq (.region [Cv 53 6,Cv 4 53,Co 5 (.move (.c (.bool true)))]) (.ret))))))⟩
theorem fn_shape_Rank:FnOk P fo 49 b_shape_Rank:=fM Go.Proofs.Try.func49 (dC p_shape_Valid (dC p_shape_steps (dC p_spans_Rank dN))) (by kernel_rfl) (by kernel_rfl)
def F_shape_Rank:List PV→Option PV:=pureF (fun _=>none) b_shape_Rank
theorem p_shape_Rank:PureFn P 49 F_shape_Rank:=pureF_ok noTable fn_shape_Rank
def b_clash_first_l0:ACode:=(.seq (.region [Co 20 (.bin .lss (.t 19) (.t 18))]) (.seq (.cond (.t 20) (.skip) (.exit 0)) (.seq (.block 1 (.seq (.region [Co 21 (.iaddr 1 (.t 17) (.t 19)),Co 22 (.load false 1 (.t 21)),Cv 7 22]) (.region [Cv 23 5,Cv 24 7,Co 25 (.iaddr 2 (.t 24) (.c (.int .i64 0))),Co 26 (.faddr 0 (.t 25)),Co 27 (.load false 1 (.t 26)),Co 28 (.conv .u8 (.t 27)),Co 29 (.bslice .lit 1 false 1 [(.int .u8 0)] [(0,(.t 28))]),Co 30 (.append false .uq 1 false 1 (.t 23) (.t 29)),Cv 5 30]))) (.region [Co 31 (.bin .add (.t 19) (.c (.int .i64 1))),Cv 19 31]))))
def b_clash_first:AFn:=⟨2,[.tmp 4],(.seq (.region [Co 2 (.boxR 2 (.t 0)),Co 4 (.move (.c (.int .i64 0)))]) (.seq (.region [Co 10 (.bslice .uq 1 false 0 [(.int .u8 0)] []),Cv 11 1,Co 12 (.append false .uq 1 false 1 (.t 10) (.t 11)),Cv 5 12]) (.seq (.seq (.region [Cp 13 (.faddr 0 (.t 2)),Cp 14 (.load false 1 (.t 13)),Cv 15 1,Co 16 (.len 0 (.t 15)),Co 17 (.slice 1 (.t 14) (some (.t 16)) none),Co 18 (.len 0 (.t 17)),Co 19 (.move (.c (.int .i64 0)))]) (.block 0 (.loop [2,5,17,18,19] b_clash_first_l0))) (.seq (.region [Cp 33 (.load true 2 (.t 2)),Cv 34 5,Co 35 (.callP F_shape_Rank [(.t 33),(.t 34)]),Cv 32 35,Co 36 (.ext 0 (.t 32)),Co 37 (.ext 1 (.t 32)),Cv 8 36,Cv 9 37]) (.seq (.region [Cp 38 (.faddr 1 (.t 2)),Cp 39 (.load false 1 (.t 38)),Cv 40 8,Co 41 (.bin .add (.t 39) (.t 40)),Cv 4 41]) (.ret))))))⟩
theorem fn_clash_first:FnOk P fo 84 b_clash_first:=fM Go.Proofs.Try.func84 (dC p_shape_Rank dN) (by kernel_rfl) (by kernel_rfl)
def F_clash_first:List PV→Option PV:=pureF (fun _=>none) b_clash_first
theorem p_clash_first:PureFn P 84 F_clash_first:=pureF_ok noTable fn_clash_first
def b_clash_search_l1:ACode:=(.seq (.region [Co 30 (.bin .lss (.t 29) (.t 28))]) (.seq (.cond (.t 30) (.skip) (.exit 2)) (.seq (.block 3 (.seq (.region [Cv 31 29,Co 32 (.iaddr 2 (.t 27) (.t 29)),Co 33 (.load true 2 (.t 32)),Co 10 (.alloc [.nils,(.int .i64 0)]),Cv 9 31,Ce (.store 2 (.t 10) (.t 33))]) (.seq (.seq (.region [Cv 34 1,Cv 35 7,Cv 36 9,Co 37 (.callV (.t 34) [(.t 35),(.t 36)]),Co 38 (.un .not (.t 37))]) (.cond (.t 38) (.exit 3) (.skip))) (.seq (.region [Co 40 (.load true 2 (.t 8)),Co 41 (.load true 2 (.t 10)),Co 42 (.faddr 0 (.t 8)),Co 43 (.load false 1 (.t 42)),Co 44 (.len 0 (.t 43)),Co 45 (.callP F_shape_Common [(.t 40),(.t 41),(.t 44)]),Cv 39 45,Co 46 (.ext 0 (.t 39)),Co 47 (.ext 1 (.t 39)),Cv 11 46,Cv 12 47]) (.seq (.region [Cv 48 12]) (.cond (.t 48) (.seq (.region [Co 49 (.load true 2 (.t 8)),Cv 50 11,Co 51 (.callP F_clash_first [(.t 49),(.t 50)]),Co 52 (.load true 2 (.t 10)),Cv 53 11,Co 54 (.callP F_clash_first [(.t 52),(.t 53)]),Co 55 (.build [(.bool false),(.int .i64 0),(.int .i64 0)] [(1,1,(.t 51)),(2,1,(.t 54))]),Ce (.store 3 (.t 6) (.t 55))]) (.exit 0)) (.skip))))))) (.region [Co 56 (.bin .add (.t 29) (.c (.int .i64 1))),Cv 29 56]))))
def b_clash_search_l0:ACode:=(.seq (.region [Co 22 (.bin .lss (.t 21) (.t 20))]) (.seq (.cond (.t 22) (.skip) (.exit 0)) (.seq (.block 1 (.seq (.region [Cv 23 21,Co 24 (.iaddr 2 (.t 19) (.t 21)),Co 25 (.load true 2 (.t 24)),Co 8 (.alloc [.nils,(.int .i64 0)]),Cv 7 23,Ce (.store 2 (.t 8) (.t 25))]) (.seq (.region [Cp 26 (.faddr 0 (.t 2)),Cp 27 (.load false 1 (.t 26)),Co 28 (.len 0 (.t 27)),Co 29 (.move (.c (.int .i64 0)))]) (.block 2 (.loop [1,2,4,6,7,8,19,20,21,27,28,29] b_clash_search_l1))))) (.region [Co 57 (.bin .add (.t 21) (.c (.int .i64 1))),Cv 21 57]))))
def b_clash_search:AFn:=⟨2,[.cell 4 true 3,.tmp 5],(.seq (.region [Co 2 (.boxR 1 (.t 0)),Co 4 (.alloc [(.bool false),(.int .i64 0),(.int .i64 0)]),Co 5 (.move (.c (.int .i64 0)))]) (.scope (.seq (.seq (.region [Cp 13 (.load true 1 (.t 2)),Co 14 (.callP F_scheme_Valid [(.t 13)]),Co 15 (.un .not (.t 14))]) (.cond (.t 15) (.seq (.region [Co 16 (.build [(.bool false),(.int .i64 0),(.int .i64 0)] []),Ce (.store 3 (.t 4) (.t 16)),Co 5 (.move (.c (.int .i64 84)))]) (.ret)) (.skip))) (.seq (.region [Co 17 (.build [(.bool false),(.int .i64 0),(.int .i64 0)] [(0,1,(.c (.bool true)))]),Co 6 (.alloc [(.bool false),(.int .i64 0),(.int .i64 0)]),Ce (.store 3 (.t 6) (.t 17))]) (.seq (.skip) (.seq (.seq (.region [Cp 18 (.faddr 0 (.t 2)),Cp 19 (.load false 1 (.t 18)),Co 20 (.len 0 (.t 19)),Co 21 (.move (.c (.int .i64 0)))]) (.block 0 (.loop [1,2,4,6,19,20,21] b_clash_search_l0))) (.seq (.region [Co 58 (.load true 3 (.t 6)),Ce (.store 3 (.t 4) (.t 58)),Co 5 (.move (.c (.int .i64 0)))]) (.ret))))))))⟩
theorem fn_clash_search:FnOk P fo 57 b_clash_search:=fM Go.Proofs.Try.func57 (dC p_scheme_Valid (dC p_shape_Common (dC p_clash_first (dC p_clash_first dN)))) (by kernel_rfl) (by kernel_rfl)
def b_clash_Prefix:AFn:=⟨1,[.cell 2 true 3,.tmp 3],(.seq (.region [Co 1 (.box 1 (.t 0)),Co 2 (.alloc [(.bool false),(.int .i64 0),(.int .i64 0)]),Co 3 (.move (.c (.int .i64 0)))]) (.seq (.region [Co 4 (.load true 1 (.t 1)),Co 5 (.mkfn 4 [(.t 1)]),Co 6 (.callI 25 [(.t 4),(.t 5)]),Co 7 (.ext 0 (.t 6)),Co 8 (.ext 1 (.t 6)),Ce (.store 3 (.t 2) (.t 7)),Cv 3 8]) (.ret)))⟩
theorem fn_clash_Prefix:FnOk P fo 35 b_clash_Prefix:=fM Go.Proofs.Try.func35 dN (by kernel_rfl) (by kernel_rfl)
def t_clash_Prefix:Nat→Option AFn
 |4=>some b_clash_Prefix_1
 |25=>some b_clash_search
 |_=>none
theorem tok_clash_Prefix:TableOk P fo t_clash_Prefix:=by
 intro ix af h
 unfold t_clash_Prefix at h
 split at h
 ·injection h with h;subst h;exact fn_clash_Prefix_1
 ·injection h with h;subst h;exact fn_clash_search
 ·cases h
def F_clash_Prefix:List PV→Option PV:=pureF t_clash_Prefix b_clash_Prefix
theorem p_clash_Prefix:PureFn P 35 F_clash_Prefix:=pureF_ok tok_clash_Prefix fn_clash_Prefix
def b_slices_Clone_api_Span_api_Span:AFn:=⟨1,[.tmp 2],(.seq (.region [Co 2 (.move (.c .nils))]) (.seq (.seq (.region [Cv 3 0,Co 4 (.eq 2 false (.t 3) (.c .nils))]) (.cond (.t 4) (.seq (.region [Co 2 (.move (.c .nils))]) (.ret)) (.skip))) (.seq (.region [Co 5 (.bslice .uq 2 true 0 [(.int .i64 0),(.int .i64 0)] []),Cv 6 0,Co 7 (.append false .uq 2 true 16 (.t 5) (.t 6)),Cv 2 7]) (.ret))))⟩
theorem fn_slices_Clone_api_Span_api_Span:FnOk P fo 59 b_slices_Clone_api_Span_api_Span:=fM Go.Proofs.Try.func59 dN (by kernel_rfl) (by kernel_rfl)
def F_slices_Clone_api_Span_api_Span:List PV→Option PV:=pureF (fun _=>none) b_slices_Clone_api_Span_api_Span
theorem p_slices_Clone_api_Span_api_Span:PureFn P 59 F_slices_Clone_api_Span_api_Span:=pureF_ok noTable fn_slices_Clone_api_Span_api_Span
def b_scheme_Copy_l1:ACode:=(.seq (.region [Co 23 (.bin .lss (.t 22) (.t 21))]) (.seq (.cond (.t 23) (.skip) (.exit 2)) (.seq (.block 3 (.seq (.region [Co 24 (.iaddr 1 (.t 20) (.t 22)),Co 25 (.load false 1 (.t 24)),Cv 8 25]) (.region [Co 26 (.faddr 0 (.t 6)),Co 27 (.load false 1 (.t 26)),Cv 28 8,Co 29 (.callP F_slices_Clone_api_Span_api_Span [(.t 28)]),Co 30 (.bslice .lit 1 false 1 [.nils] [(0,(.t 29))]),Co 31 (.append false .uq 1 false 24 (.t 27) (.t 30)),Co 32 (.faddr 0 (.t 6)),Ce (.store 1 (.t 32) (.t 31))]))) (.region [Co 33 (.bin .add (.t 22) (.c (.int .i64 1))),Cv 22 33]))))
def b_scheme_Copy_l0:ACode:=(.seq (.region [Co 13 (.bin .lss (.t 12) (.t 11))]) (.seq (.cond (.t 13) (.skip) (.exit 0)) (.seq (.block 1 (.seq (.region [Co 14 (.iaddr 2 (.t 10) (.t 12)),Co 15 (.load true 2 (.t 14)),Co 5 (.alloc [.nils,(.int .i64 0)]),Ce (.store 2 (.t 5) (.t 15))]) (.seq (.region [Co 16 (.faddr 1 (.t 5)),Co 17 (.load false 1 (.t 16)),Co 18 (.build [.nils,(.int .i64 0)] [(1,1,(.t 17))]),Co 6 (.alloc [.nils,(.int .i64 0)]),Ce (.store 2 (.t 6) (.t 18))]) (.ghost (.mkuqC 6 0 1) (.seq (.seq (.region [Co 19 (.faddr 0 (.t 5)),Co 20 (.load false 1 (.t 19)),Co 21 (.len 0 (.t 20)),Co 22 (.move (.c (.int .i64 0)))]) (.block 2 (.loop [2,3,6,10,11,12,20,21,22] b_scheme_Copy_l1))) (.region [Co 34 (.faddr 0 (.t 3)),Co 35 (.load false 1 (.t 34)),Co 36 (.load true 2 (.t 6)),Co 37 (.bslice .lit 2 true 1 [.nils,(.int .i64 0)] [(0,(.t 36))]),Co 38 (.append false .uq 2 true 32 (.t 35) (.t 37)),Co 39 (.faddr 0 (.t 3)),Ce (.store 1 (.t 39) (.t 38))])))))) (.region [Co 40 (.bin .add (.t 12) (.c (.int .i64 1))),Cv 12 40]))))
def b_scheme_Copy:AFn:=⟨1,[.cell 2 true 1],(.seq (.region [Co 1 (.boxR 1 (.t 0)),Co 2 (.alloc [.nils])]) (.seq (.region [Co 3 (.alloc [.nils])]) (.ghost (.mkuqC 3 0 2) (.seq (.seq (.region [Cp 9 (.faddr 0 (.t 1)),Cp 10 (.load false 1 (.t 9)),Co 11 (.len 0 (.t 10)),Co 12 (.move (.c (.int .i64 0)))]) (.block 0 (.loop [2,3,10,11,12] b_scheme_Copy_l0))) (.seq (.region [Co 41 (.load true 1 (.t 3)),Ce (.store 1 (.t 2) (.t 41))]) (.ret))))))⟩
theorem fn_scheme_Copy:FnOk P fo 36 b_scheme_Copy:=fM Go.Proofs.Try.func36 (dC p_slices_Clone_api_Span_api_Span dN) (by kernel_rfl) (by kernel_rfl)
def F_scheme_Copy:List PV→Option PV:=pureF (fun _=>none) b_scheme_Copy
theorem p_scheme_Copy:PureFn P 36 F_scheme_Copy:=pureF_ok noTable fn_scheme_Copy
def b_auto_builder_met:AFn:=⟨2,[.tmp 4,.tmp 5],(.seq (.region [Co 3 (.boxR 2 (.t 1)),Co 4 (.move (.c (.int .i64 0))),Co 5 (.move (.c (.bool false)))]) (.seq (.region [Cv 9 0,Co 10 (.nilck (.t 9)),Co 11 (.faddr 1 (.t 10)),Co 12 (.load false 1 (.t 11)),Cp 13 (.load true 2 (.t 3)),Co 14 (.lookup (.row [1,1]) (.int .i64 0) true (.t 12) (.t 13)),Cv 8 14,Co 15 (.ext 0 (.t 8)),Co 16 (.ext 1 (.t 8)),Cv 6 15,Cv 7 16]) (.seq (.seq (.region [Cv 17 7,Co 18 (.un .not (.t 17))]) (.cond (.t 18) (.seq (.region [Cv 19 0,Co 20 (.nilck (.t 19)),Co 21 (.faddr 2 (.t 20)),Co 22 (.load false 1 (.t 21)),Co 23 (.len 0 (.t 22)),Cv 6 23]) (.seq (.seq (.region [Cv 24 6,Co 25 (.bin .eql (.t 24) (.c (.int .i64 64)))]) (.cond (.t 25) (.seq (.region [Co 4 (.move (.c (.int .i64 0))),Co 5 (.move (.c (.bool false)))]) (.ret)) (.skip))) (.seq (.region [Cv 26 0,Co 27 (.nilck (.t 26)),Co 28 (.faddr 1 (.t 27)),Co 29 (.load false 1 (.t 28)),Cp 30 (.load true 2 (.t 3)),Cv 31 6,Ce (.mapset (.row [1,1]) (.t 29) (.t 30) (.t 31))]) (.region [Cv 32 0,Cv 33 0,Co 34 (.nilck (.t 33)),Co 35 (.faddr 2 (.t 34)),Co 36 (.load false 1 (.t 35)),Cp 37 (.load true 2 (.t 3)),Co 38 (.bslice .lit 2 true 1 [(.int .i64 0),(.int .u32 0)] [(0,(.t 37))]),Co 39 (.append false .uq 2 true 16 (.t 36) (.t 38)),Co 40 (.nilck (.t 32)),Co 41 (.faddr 2 (.t 40)),Ce (.store 1 (.t 41) (.t 39))])))) (.skip))) (.seq (.region [Cv 42 6,Cv 4 42,Co 5 (.move (.c (.bool true)))]) (.ret)))))⟩
theorem fn_auto_builder_met:FnOk P fo 60 b_auto_builder_met:=fM Go.Proofs.Try.func60 dN (by kernel_rfl) (by kernel_rfl)
def b_auto_builder_behind_l0:ACode:=(.seq (.region [Co 19 (.bin .lss (.t 18) (.t 17))]) (.seq (.cond (.t 19) (.skip) (.exit 0)) (.seq (.block 1 (.seq (.region [Cv 20 18,Co 21 (.iaddr 2 (.t 16) (.t 18)),Co 22 (.load true 2 (.t 21)),Co 11 (.alloc [.nils,(.int .i64 0)]),Cv 10 20,Ce (.store 2 (.t 11) (.t 22))]) (.seq (.region [Cp 23 (.faddr 1 (.t 4)),Cp 24 (.load false 1 (.t 23)),Cv 25 10,Co 26 (.bin .shr (.t 24) (.t 25)),Co 27 (.bin .and (.t 26) (.c (.int .u32 1))),Co 28 (.bin .eql (.t 27) (.c (.int .u32 1))),Cv 29 28,Cg 30 29 true (.faddr 0 (.t 11)),Cg 31 29 true (.load false 1 (.t 30)),Cq 32 29 true (.faddr 0 (.t 4)),Cq 33 29 true (.load false 1 (.t 32)),Cg 34 29 true (.iaddr 1 (.t 31) (.t 33)),Cg 35 29 true (.load false 1 (.t 34)),Cg 36 29 true (.move (.t 2)),Cg 37 29 true (.callP C_spans_Has [(.t 35),(.t 36)]),Co 38 (.pick (.t 29) (.t 37) (.c (.bool false)))]) (.cond (.t 38) (.seq (.region [Cv 39 8,Cv 40 10,Co 41 (.bin .shl (.c (.int .u32 1)) (.t 40)),Co 42 (.bin .or (.t 39) (.t 41)),Cv 8 42]) (.region [Cv 43 9,Cv 44 43,Cg 45 44 false (.faddr 0 (.t 11)),Cg 46 44 false (.load false 1 (.t 45)),Cg 47 44 false (.len 0 (.t 46)),Cq 48 44 false (.faddr 0 (.t 4)),Cq 49 44 false (.load false 1 (.t 48)),Cg 50 44 false (.bin .add (.t 49) (.c (.int .i64 1))),Cg 51 44 false (.bin .eql (.t 47) (.t 50)),Co 52 (.pick (.t 44) (.c (.bool true)) (.t 51)),Cv 9 52])) (.skip))))) (.region [Co 53 (.bin .add (.t 18) (.c (.int .i64 1))),Cv 18 53]))))
def b_auto_builder_behind:AFn:=⟨3,[.tmp 6,.tmp 7],(.seq (.region [Co 4 (.boxR 2 (.t 1)),Co 6 (.move (.c (.int .u32 0))),Co 7 (.move (.c (.bool false)))]) (.seq (.region [Co 8 (.move (.c (.int .u32 0)))]) (.seq (.region [Co 9 (.move (.c (.bool false)))]) (.seq (.seq (.region [Cv 12 0,Co 13 (.nilck (.t 12)),Co 14 (.faddr 0 (.t 13)),Co 15 (.faddr 0 (.t 14)),Co 16 (.load false 1 (.t 15)),Co 17 (.len 0 (.t 16)),Co 18 (.move (.c (.int .i64 0)))]) (.block 0 (.loopG [2,4,8,9,16,17,18] b_auto_builder_behind_l0))) (.seq (.region [Cv 54 8,Cv 55 9,Cv 6 54,Cv 7 55]) (.ret))))))⟩
theorem fn_auto_builder_behind:FnOk P fo 61 b_auto_builder_behind:=fM Go.Proofs.Try.func61 (dC c_spans_Has dN) (by kernel_rfl) (by kernel_rfl)
def b_auto_builder_walk_l1:ACode:=(.seq (.region [Co 31 (.bin .lss (.t 30) (.c (.int .i64 256)))]) (.seq (.cond (.t 31) (.skip) (.exit 2)) (.seq (.block 3 (.seq (.region [Cv 32 30,Cv 5 32]) (.seq (.region [Cv 34 0,Cv 35 0,Co 36 (.nilck (.t 35)),Co 37 (.faddr 2 (.t 36)),Co 38 (.load false 1 (.t 37)),Cv 39 3,Co 40 (.iaddr 2 (.t 38) (.t 39)),Co 41 (.load true 2 (.t 40)),Cv 42 5,Co 43 (.callI 27 [(.t 34),(.t 41),(.t 42)]),Cv 33 43,Co 44 (.ext 0 (.t 33)),Co 45 (.ext 1 (.t 33)),Cv 6 44,Cv 7 45]) (.block 4 (.seq (.region [Cv 68 6,Co 69 (.bin .eql (.t 68) (.c (.int .u32 0))),Cv 67 69]) (.cond (.t 67) (.region [Cv 70 5,Co 71 (.iaddrA 256 1 (.t 4) (.t 70)),Ce (.store 1 (.t 71) (.c (.int .i64 (-2))))]) (.seq (.region [Cv 73 7,Cv 72 73]) (.cond (.t 72) (.region [Cv 74 5,Co 75 (.iaddrA 256 1 (.t 4) (.t 74)),Ce (.store 1 (.t 75) (.c (.int .i64 (-1))))]) (.seq (.region [Cv 47 0,Cv 48 0,Co 49 (.nilck (.t 48)),Co 50 (.faddr 2 (.t 49)),Co 51 (.load false 1 (.t 50)),Cv 52 3,Co 53 (.iaddr 2 (.t 51) (.t 52)),Co 54 (.faddr 0 (.t 53)),Co 55 (.load false 1 (.t 54)),Co 56 (.bin .add (.t 55) (.c (.int .i64 1))),Cv 57 6,Co 58 (.build [(.int .i64 0),(.int .u32 0)] [(0,1,(.t 56)),(1,1,(.t 57))]),Co 59 (.callI 26 [(.t 47),(.t 58)]),Cv 46 59,Co 60 (.ext 0 (.t 46)),Co 61 (.ext 1 (.t 46)),Cv 8 60,Cv 9 61]) (.seq (.seq (.region [Cv 62 9,Co 63 (.un .not (.t 62))]) (.cond (.t 63) (.seq (.region [Co 2 (.move (.c (.bool false)))]) (.ret)) (.skip))) (.region [Cv 64 5,Cv 65 8,Co 66 (.iaddrA 256 1 (.t 4) (.t 64)),Ce (.store 1 (.t 66) (.t 65))]))))))))))) (.region [Co 76 (.bin .add (.t 30) (.c (.int .i64 1))),Cv 30 76]))))
def b_auto_builder_walk_l0:ACode:=(.seq (.seq (.region [Cv 21 3,Cv 22 0,Co 23 (.nilck (.t 22)),Co 24 (.faddr 2 (.t 23)),Co 25 (.load false 1 (.t 24)),Co 26 (.len 0 (.t 25)),Co 27 (.bin .lss (.t 21) (.t 26))]) (.cond (.t 27) (.skip) (.exit 0))) (.seq (.block 1 (.seq (.region [Co 4 (.alloc (List.replicate 256 (.int .i64 0)))]) (.seq (.seq (.region [Co 30 (.move (.c (.int .i64 0)))]) (.block 2 (.loop [0,3,4,30] b_auto_builder_walk_l1))) (.region [Cv 77 0,Cv 78 0,Co 79 (.nilck (.t 78)),Co 80 (.faddr 3 (.t 79)),Co 81 (.load false 1 (.t 80)),Co 82 (.load true 256 (.t 4)),Co 83 (.bslice .lit 256 true 1 (List.replicate 256 (.int .i64 0)) [(0,(.t 82))]),Co 84 (.append true .own 256 true 2048 (.t 81) (.t 83)),Co 85 (.nilck (.t 77)),Co 86 (.faddr 3 (.t 85)),Ce (.store 1 (.t 86) (.t 84))])))) (.region [Cv 28 3,Co 29 (.bin .add (.t 28) (.c (.int .i64 1))),Cv 3 29])))
def b_auto_builder_walk:AFn:=⟨1,[.tmp 2],(.seq (.region [Co 2 (.move (.c (.bool false)))]) (.seq (.region [Cv 10 0,Cv 11 0,Co 12 (.nilck (.t 11)),Co 13 (.faddr 0 (.t 12)),Co 14 (.faddr 0 (.t 13)),Co 15 (.load false 1 (.t 14)),Co 16 (.len 0 (.t 15)),Co 17 (.bin .shl (.c (.int .u32 1)) (.t 16)),Co 18 (.bin .sub (.t 17) (.c (.int .u32 1))),Co 19 (.build [(.int .i64 0),(.int .u32 0)] [(1,1,(.t 18))]),Co 20 (.callI 26 [(.t 10),(.t 19)])]) (.seq (.seq (.region [Co 3 (.move (.c (.int .i64 0)))]) (.block 0 (.loop [0,3] b_auto_builder_walk_l0))) (.seq (.region [Co 2 (.move (.c (.bool true)))]) (.ret)))))⟩
theorem fn_auto_builder_walk:FnOk P fo 37 b_auto_builder_walk:=fM Go.Proofs.Try.func37 dN (by kernel_rfl) (by kernel_rfl)
end Go.AM.B1
set_option linter.unusedSimpArgs false
namespace Go.AM.B1
open Go.AM Go.AM.So
theorem to_range_eq:F_sets_To_sets_Run_api_Range=F_sets_To_sets_Run_api_Span:=rfl
theorem to_range2_eq:F_sets_To_api_Range_sets_Run=F_sets_To_sets_Run_api_Span:=rfl
theorem to_span2_eq:F_sets_To_api_Span_sets_Run=F_sets_To_sets_Run_api_Span:=rfl
def prow (p:Int×Int):List PV:=[i64 p.1,i64 p.2]
def prowsA (l:List (Int×Int)):Array (List PV):=(l.map prow).toArray
def PRow (r:List PV):Prop:=∃ p,r=prow p
theorem prow_sz (r:List PV) (h:PRow r):RowSz 2 r:=by
 obtain⟨p,rfl⟩:=h
 exact⟨rfl,by intro c hc;simp[prow] at hc;rcases hc with rfl | rfl <;> rfl⟩
theorem prows_mem (l:List (Int×Int)):∀ r∈(prowsA l).toList,PRow r:=by
 intro r hr
 simp[prowsA] at hr
 obtain⟨a,b,_,rfl⟩:=hr
 exact⟨(a,b),rfl⟩
theorem prowsA_size (l:List (Int×Int)):(prowsA l).size=l.length:=by simp[prowsA]
def pobj (l:List (Int×Int)) (fl:Nat) (nl:Bool):AObj:=rowsObj 2 (prowsA l) fl nl
theorem pobj_len (l:List (Int×Int)):(flatR (prowsA l)).length=l.length * 2:=by
 rw[flatR_len fun r hr=>prow_sz r (prows_mem l r hr),prowsA_size]
theorem pobj_append {A:List AObj} {id n fl bytes:Nat} {nl:Bool} {h:Hold} {l:List (Int×Int)} (hg:A[id]? =some (pobj l fl nl)) (hn:n=l.length) (hr:roomOk (n+1) bytes) (p:Int×Int):
 appendA A true h 2 true bytes (.own id n) (.pv (.lit 2 [pr p]))=some (.own id (n+1),A.set id (pobj (l++[p]) fl false)):=by
 subst hn
 have hl:=pobj_len l
 have e:flatR (prowsA (l++[p]))=flatR (prowsA l)++[.pv (i64 p.1),.pv (i64 p.2)]:=by
  simp[flatR,prowsA,prow]
 simp only[appendA,if_true,hg,pobj,rowsObj,elemsA,elemsP,Option.map_some,Option.bind_some,flat,PV.cells,pr,List.append_nil,List.map_cons,List.map_nil,List.length_cons,List.length_nil,e]
 rw[if_pos]
 ·simp
 ·exact⟨trivial,by omega,hr,rfl⟩
theorem mapO_pv (H:List AObj) (d:Nat) (l:List PV):mapO (toPV H d) (l.map .pv)=some l:=by
 induction l with
 |nil=>rfl
 |cons a l ih=>simp only[List.map_cons,mapO,toPV_pv,Option.bind_some,ih]
theorem chunk_pairs:∀ (l:List (Int×Int)),chunk 2 true l.length ((l.map prow).flatten)=prs l
 | []=>rfl
 |p::l=>by
  have ih:=chunk_pairs l
  simp only[List.length_cons,List.map_cons,List.flatten_cons,chunk,if_true,prow] at ih ⊢
  simp only[List.cons_append,List.nil_append,List.take_succ_cons,List.take_zero,List.drop_succ_cons,List.drop_zero,prs,List.map_cons]
  rw[ih]
theorem pobj_toPV {A:List AObj} {id n fl:Nat} {nl:Bool} {l:List (Int×Int)} (hg:A[id]? =some (pobj l fl nl)) (hn:n=l.length) (d:Nat):toPV A (d+1) (.own id n)=some (if nl then .nils else .lit 2 (prs l)):=by
 subst hn
 have hl:=pobj_len l
 have e:flatR (prowsA l)=((l.map prow).flatten).map .pv:=by simp[flatR,prowsA]
 simp only[toPV,hg,pobj,rowsObj]
 rw[if_pos ⟨by omega,rfl⟩,e,mapO_pv]
 cases nl with
 |true=>rfl
 |false=>simp only[Bool.false_eq_true,if_false,Option.map_some,chunk_pairs]
theorem pbox_store (A:List AObj) (x y:AV) (p:Int×Int):storeA (A++[.box [x,y]]) 2 (.ptr A.length 0) (.pv (pr p))=some (A++[.box [.pv (i64 p.1),.pv (i64 p.2)]]):=by
 simp only[storeA,AV.cells,PV.cells,pr,List.map_cons,List.map_nil,List.length_cons,List.length_nil,List.all,AV.one,get_top,set_top]
 simp[setRow]
theorem pbox_load (A:List AObj) (p:Int×Int):loadA (A++[.box [.pv (i64 p.1),.pv (i64 p.2)]]) true 2 (.ptr A.length 0)=some (.pv (pr p)):=by
 simp[loadA,partA,mkAgg,allPV]
theorem pobj_cut (l:List (Int×Int)) (fl:Nat) (nl:Bool) (n:Nat):cutObj n (pobj l fl nl)=some (pobj l fl nl):=rowsObj_cut _ _ _ _ _
abbrev envTn (v:PV) (id n len i:Nat):Tr:=(((Tr.lf.set 11 (.pv (i64 i))).set 10 (.pv (i64 len))).set 9 (.pv v)).set 3 (.own id n)
theorem lit_iaddr (A:List AObj) {l:List (Int×Int)} {i:Nat} (hi:i < l.length):iaddrA' A 2 (.pv (.lit 2 (prs l))) (i:Int)=some (.pv (.rp [i64 l[i].1,i64 l[i].2] 0)):=by
 have hg:=prs_get hi
 simp only[iaddrA']
 rw[if_pos (by unfold idxOk;simp;omega),Int.toNat_natCast,hg];rfl
theorem rp_load2 (A:List AObj) (p:Int×Int):loadA A true 2 (.pv (.rp [i64 p.1,i64 p.2] 0))=some (.pv (pr p)):=by
 simp[loadA,partP]
theorem to_own_run (call:CallF) (v:PV) (l:List (Int×Int)) (hv:IsL 2 v (prs l)) (hw:l.length * 16≤140737488355328) (H:List AObj) (hH:HGood H):
 runF call b_sets_To_sets_Run_api_Range_own [.pv v] H=some (.own H.length l.length,H++[pobj l 0 false]):=by
 have ls:=hv.len
 simp only[prs,List.length_map] at ls
 have hid:H.length < H.length+1:=Nat.lt_succ_self _
 have hlen:∀ l',(H++[pobj l' 0 false]).length=H.length+1:=fun l'=>by simp
 have hcut:∀ l',mapO (cutObj (H.length+1)) (H++[pobj l' 0 false])=some (H++[pobj l' 0 false]):=fun l'=>mapO_id fun o ho=>by
  rcases List.mem_append.1 ho with h | h
  ·exact hH _ (by omega) o h
  ·simp at h;subst h;exact pobj_cut _ _ _ _
 have hloop:wpO (fun r=>∃ E,r=(.exit 0,⟨E,H++[pobj l 0 false]⟩)∧E.get 3= .own H.length l.length)
  (loopA (roundA (evalC call b_sets_To_sets_Run_api_Range_own_l0) (clean (H.length+1) [3,9,10,11])) rounds ⟨envTn v H.length 0 l.length 0,H++[pobj [] 0 false]⟩):=by
  refine wpO_mono (loopN_wp (g:=roundA (evalC call b_sets_To_sets_Run_api_Range_own_l0) (clean (H.length+1) [3,9,10,11]))
   (fun i t=>t=⟨envTn v H.length i l.length i,H++[pobj (l.take i) 0 false]⟩)
   l.length (by unfold rounds;omega) _ rfl ?_ ?_) (fun r h=>h.2)
  ·rintro i t hi rfl
   have hv:=hv.lit (i:=i) (by simpa using hi)
   subst hv
   have e1:decide ((i:Int) < (l.length:Int))=true:=dec_t (by omega)
   have t2:=stepWrap hi (by unfold maxLen;omega)
   have a1:=lit_iaddr (H++[pobj (l.take i) 0 false]) hi
   have l1:=rp_load2 (H++[pobj (l.take i) 0 false]) l[i]
   have s1:=pbox_store (H++[pobj (l.take i) 0 false]) (.pv (i64 0)) (.pv (i64 0)) l[i]
   have l2:=pbox_load (H++[pobj (l.take i) 0 false]) l[i]
   have hap:=pobj_append (A:=H++[pobj (l.take i) 0 false]++[.box [.pv (i64 l[i].1),.pv (i64 l[i].2)]]) (id:=H.length) (n:=i) (h:= .own) (bytes:=16) (by rw[List.getElem?_append_left (by simp)];exact get_top _ _) (by simp;omega) (by unfold roomOk;omega) l[i]
   rw[List.set_append_left _ _ (by simp),set_top,←List.take_succ_eq_append_getElem hi] at hap
   have htk:(H++[pobj (l.take (i+1)) 0 false]++[AObj.box [.pv (i64 l[i].1),.pv (i64 l[i].2)]]).take (H.length+1)=H++[pobj (l.take (i+1)) 0 false]:=by
    rw[List.take_append_of_le_length (by simp),List.take_of_length_le (by simp)]
   have hc:=hcut (l.take (i+1))
   generalize l[i]=p at *
   generalize hQ:LN _ _ i=Q
   simp (implicitDefEqProofs:=false) only[SP,WP,setRow,sevalprocAttr,-List.reduceReplicate,b_sets_To_sets_Run_api_Range_own_l0,e1,t2,a1,l1,s1,l2,hap,htk,hc,hid,clean,cutEnv,AV.cut,deep_eq',envTn]
   subst hQ
   rfl
  ·rintro t rfl
   rw[List.take_length]
   have e1:decide ((l.length:Int) < (l.length:Int))=false:=dec_f (by omega)
   generalize hQ:(fun r:Ex×St=>r.1.stop=true∧_)=Q
   simp (implicitDefEqProofs:=false) only[SP,SA,WP,sevalprocAttr,-List.reduceReplicate,b_sets_To_sets_Run_api_Range_own_l0,e1,envTn]
   subst hQ
   exact⟨rfl,_,rfl,by simp[Tr.get_set]⟩
 have h2:(0:Int)≤(l.length:Int):=by omega
 have h3:roomOk l.length 16:=by unfold roomOk;omega
 have n0:(0:Int).toNat=0:=rfl
 have ho:AObj.seq 2 true [] 0 false=pobj [] 0 false:=rfl
 apply wpO_eq
 simp (implicitDefEqProofs:=false) only[SP,SA,WP,sevalprocAttr,-List.reduceReplicate,b_sets_To_sets_Run_api_Range_own,C_loop,ls,Int.le_refl,eq_true h2,eq_true h3,n0,ho,hlen,hcut,hid,List.take_of_length_le (show (H++[pobj [] 0 false]).length≤H.length+1 by simp),clean,cutEnv,AV.cut,deep_eq']
 refine wpO_mono hloop ?_
 rintro _ ⟨E,rfl,hE⟩
 simp (implicitDefEqProofs:=false) only[SP,SA,WP,sevalprocAttr,-List.reduceReplicate,hE]
end Go.AM.B1
namespace Go.AM.B1
open Go.AM Go.AM.So
theorem uq_append {A:List AObj} {id n sz bytes:Nat} {nl ag:Bool} {h:Hold} {es:List PV} (hg:A[id]? =some (.tok sz n nl)) (hn:n=es.length) (hr:roomOk (n+1) bytes) (e:PV):
 appendA A false h sz ag bytes (.uq id nl sz es) (.pv (.lit sz [e]))=some (.uq id false sz (es++[e]),A.set id (.tok sz (n+1) false)):=by
 subst hn
 simp only[appendA,Bool.false_eq_true,if_false,hg,elemsP,if_true,Option.bind_some,List.length_cons,List.length_nil]
 rw[if_pos ⟨trivial,trivial,trivial,hr⟩]
 simp
abbrev envTi (id n i tk:Nat) (nl:Bool) (es:List PV):Tr:=(((Tr.lf.set 11 (.pv (i64 i))).set 10 (.pv (i64 n))).set 9 (.own id n)).set 3 (.uq tk nl 2 es)
theorem pobj_hp {A:List AObj} {id fl:Nat} {nl:Bool} {l:List (Int×Int)} (hg:A[id]? =some (pobj l fl nl)) (hf:fl≤l.length * 2) (hA:HGood A):Hp id 2 PRow A (prowsA l) A:=
 Hp.refl (fl:=fl) (nl:=nl) hA (by rw[prowsA_size];exact hf) hg (prows_mem l)
theorem prowsA_get {l:List (Int×Int)} {i:Nat} (hi:i < l.length):(prowsA l)[i]! =prow l[i]:=by
 rw[getB (by rw[prowsA_size];exact hi)];simp[prowsA]
theorem to_in_run (call:CallF) (l:List (Int×Int)) {id fl:Nat} {nl:Bool} (H:List AObj) (hH:HGood H) (hg:H[id]? =some (pobj l fl nl)) (hf:fl≤l.length * 2) (hw:l.length * 16≤140737488355328):
 runF call b_sets_To_api_Range_sets_Run_in [.own id l.length] H=some (.uq H.length false 2 (prs l),H++[.tok 2 l.length false]):=by
 have hp:=pobj_hp hg hf hH
 have hid:id < H.length:=hp.lt
 have hid1:id < H.length+1:=by omega
 have htk:H.length < H.length+1:=Nat.lt_succ_self _
 have hl:=pobj_len l
 have hn:l.length=(prowsA l).size:=(prowsA_size l).symm
 have hlen:∀ m b,(H++[AObj.tok 2 m b]).length=H.length+1:=fun m b=>by simp
 have hcut:∀ m b,mapO (cutObj (H.length+1)) (H++[AObj.tok 2 m b])=some (H++[AObj.tok 2 m b]):=fun m b=>mapO_id fun o ho=>by
  rcases List.mem_append.1 ho with h | h
  ·exact hH _ (by omega) o h
  ·simp at h;subst h;rfl
 have hlA:∀ T,lenA (H++T) 0 (.own id l.length)=some l.length:=by
  intro T
  rw[lenA_own,List.getElem?_append_left hid,hg]
  simp only[pobj,rowsObj]
  rw[if_pos];unfold winOk;omega
 have hlA0:lenA H 0 (.own id l.length)=some l.length:=by have:=hlA [];rwa [List.append_nil] at this
 have hloop:wpO (fun r=>∃ E,r=(.exit 0,⟨E,H++[.tok 2 l.length false]⟩)∧E.get 3= .uq H.length false 2 (prs l))
  (loopA (roundA (evalC call b_sets_To_api_Range_sets_Run_in_l0) (clean (H.length+1) [3,9,10,11])) rounds ⟨envTi id l.length 0 H.length false [],H++[.tok 2 0 false]⟩):=by
  refine wpO_mono (loopN_wp (g:=roundA (evalC call b_sets_To_api_Range_sets_Run_in_l0) (clean (H.length+1) [3,9,10,11]))
   (fun i t=>t=⟨envTi id l.length i H.length false (prs (l.take i)),H++[.tok 2 i false]⟩)
   l.length (by unfold rounds;omega) _ rfl ?_ ?_) (fun r h=>h.2)
  ·rintro i t hi rfl
   have e1:decide ((i:Int) < (l.length:Int))=true:=dec_t (by omega)
   have t2:=stepWrap hi (by unfold maxLen;omega)
   have a1:=iaddr_app [.tok 2 i false] hid (hp.iaddr prow_sz hn (i:=(i:Int)) rfl (by omega))
   have l1:=load_app [.tok 2 i false] hid (hp.load prow_sz hn (k:=i) (by omega))
   rw[prowsA_get hi] at l1
   have l1':loadA (H++[.tok 2 i false]) true 2 (.eptr id (l.length * 2) (i * 2))=some (.pv (pr l[i])):=l1
   have s1:=pbox_store (H++[.tok 2 i false]) (.pv (i64 0)) (.pv (i64 0)) l[i]
   have l2:=pbox_load (H++[.tok 2 i false]) l[i]
   have hap:=uq_append (A:=H++[.tok 2 i false]++[.box [.pv (i64 l[i].1),.pv (i64 l[i].2)]]) (id:=H.length) (n:=i) (h:= .uq) (ag:=true) (nl:=false) (sz:=2) (bytes:=16) (es:=prs (l.take i)) (by rw[List.getElem?_append_left (by simp)];exact get_top _ _) (by simp;omega) (by unfold roomOk;omega) (pr l[i])
   have hs:prs (l.take (i+1))=prs (l.take i)++[pr l[i]]:=by rw[List.take_succ_eq_append_getElem hi];simp only[prs,List.map_append,List.map_cons,List.map_nil]
   rw[List.set_append_left _ _ (by simp),set_top,←hs] at hap
   have htk2:(H++[AObj.tok 2 (i+1) false]++[AObj.box [.pv (i64 l[i].1),.pv (i64 l[i].2)]]).take (H.length+1)=H++[AObj.tok 2 (i+1) false]:=by
    rw[List.take_append_of_le_length (by simp),List.take_of_length_le (by simp)]
   have hc:=hcut (i+1) false
   generalize l[i]=p at *
   generalize hes':prs (l.take (i+1))=es' at *
   generalize prs (l.take i)=es at *
   generalize hQ:LN _ _ i=Q
   simp (implicitDefEqProofs:=false) only[SP,WP,setRow,sevalprocAttr,-List.reduceReplicate,b_sets_To_api_Range_sets_Run_in_l0,e1,t2,a1,l1',s1,l2,hap,htk,htk2,hc,hid1,clean,cutEnv,AV.cut,deep_eq',envTi]
   subst hQ
   subst hes'
   rfl
  ·rintro t rfl
   rw[List.take_length]
   have e1:decide ((l.length:Int) < (l.length:Int))=false:=dec_f (by omega)
   generalize hQ:(fun r:Ex×St=>r.1.stop=true∧_)=Q
   simp (implicitDefEqProofs:=false) only[SP,SA,WP,sevalprocAttr,-List.reduceReplicate,b_sets_To_api_Range_sets_Run_in_l0,e1,envTi]
   subst hQ
   exact⟨rfl,_,rfl,by simp[Tr.get_set]⟩
 have h2:(0:Int)≤(l.length:Int):=by omega
 have h3:roomOk l.length 16:=by unfold roomOk;omega
 have n0:(0:Int).toNat=0:=rfl
 apply wpO_eq
 simp (implicitDefEqProofs:=false) only[SP,SA,WP,sevalprocAttr,-List.reduceReplicate,b_sets_To_api_Range_sets_Run_in,C_loop,hlA,hlA0,Int.le_refl,eq_true h2,eq_true h3,n0,hlen,hcut,hid1,htk,List.take_of_length_le (show (H++[AObj.tok 2 0 false]).length≤H.length+1 by simp),clean,cutEnv,AV.cut,deep_eq']
 refine wpO_mono hloop ?_
 rintro _ ⟨E,rfl,hE⟩
 simp (implicitDefEqProofs:=false) only[SP,SA,WP,sevalprocAttr,-List.reduceReplicate,hE]
def memR (x:Int) (l:List (Int×Int)):Prop:=∃ p∈l,p.1≤x∧x≤p.2
end Go.AM.B1
namespace Go.AM.B1
open Go.AM Go.AM.So
def normR:List (Int×Int)→List (Int×Int)→List (Int×Int)
 |out,[]=>out
 |out,r::rest=>match out.getLast? with
  |some q=>if r.1≤q.2+1 then normR (out.dropLast++[(q.1,if r.2 > q.2 then r.2 else q.2)]) rest else normR (out++[r]) rest
  |none=>normR (out++[r]) rest
theorem normR_nil (r:Int×Int) (rest:List (Int×Int)):normR [] (r::rest)=normR [r] rest:=rfl
theorem normR_join {out rest:List (Int×Int)} {q r:Int×Int} (h:r.1≤q.2+1):normR (out++[q]) (r::rest)=normR (out++[(q.1,if r.2 > q.2 then r.2 else q.2)]) rest:=by
 rw[normR,List.getLast?_append];simp[h]
theorem normR_new {out rest:List (Int×Int)} {q r:Int×Int} (h:¬r.1≤q.2+1):normR (out++[q]) (r::rest)=normR (out++[q]++[r]) rest:=by
 rw[normR,List.getLast?_append];simp[h]
section
variable {A:List AObj} {id fl:Nat} {nl:Bool} {out:List (Int×Int)} {q:Int×Int} (hg:A[id]? =some (pobj (out++[q]) fl nl)) (hf:fl≤(out.length+1) * 2)
include hg hf
theorem last_iaddr:iaddrA' A 2 (.own id (out.length+1)) (out.length:Int)=some (.eptr id ((out.length+1) * 2) (out.length * 2)):=by
 have hl:=pobj_len (out++[q])
 rw[List.length_append,List.length_cons,List.length_nil] at hl
 simp only[iaddrA',hg,pobj,rowsObj]
 rw[if_pos (by refine⟨trivial,?_,?_⟩ <;> first | (unfold idxOk;omega) | (unfold winOk;omega))]
 simp
omit hf in
theorem last_place:place A 1 (.eptr id ((out.length+1) * 2) (out.length * 2))=some (.eptr id ((out.length+1) * 2) (out.length * 2+1)):=by
 have hl:=pobj_len (out++[q])
 rw[List.length_append,List.length_cons,List.length_nil] at hl
 simp only[place,hg,pobj,rowsObj,hl,if_true]
omit hf in
theorem last_load:loadA A false 1 (.eptr id ((out.length+1) * 2) (out.length * 2+1))=some (.pv (i64 q.2)):=by
 have hl:=pobj_len (out++[q])
 rw[List.length_append,List.length_cons,List.length_nil] at hl
 simp only[loadA,hg,pobj,rowsObj,hl,if_true,partA,Bool.false_eq_true,if_false]
 have e:flatR (prowsA (out++[q]))=flatR (prowsA out)++[.pv (i64 q.1),.pv (i64 q.2)]:=by simp[flatR,prowsA,prow]
 have hl2:=pobj_len out
 rw[e,List.getElem?_append_right (by omega),hl2]
 have:out.length * 2+1 - out.length * 2=1:=by omega
 rw[this];rfl
omit hf in
theorem last_store (v:Int):storeA A 1 (.eptr id ((out.length+1) * 2) (out.length * 2+1)) (.pv (i64 v))=some (A.set id (pobj (out++[(q.1,v)]) ((out.length+1) * 2) nl)):=by
 have hl:=pobj_len (out++[q])
 rw[List.length_append,List.length_cons,List.length_nil] at hl
 have e:∀ q:Int×Int,flatR (prowsA (out++[q]))=flatR (prowsA out)++[.pv (i64 q.1),.pv (i64 q.2)]:=fun q=>by simp[flatR,prowsA,prow]
 have hl2:=pobj_len out
 have hs:setRow (flatR (prowsA (out++[q]))) (out.length * 2+1) [.pv (i64 v)]=flatR (prowsA (out++[(q.1,v)])):=by
  rw[e,e,setRow,setRow,List.set_append_right _ _ (by omega),hl2]
  have:out.length * 2+1 - out.length * 2=1:=by omega
  rw[this];rfl
 have hc:(AV.pv (i64 v)).cells=[.pv (i64 v)]:=rfl
 simp only[storeA,hg,pobj,rowsObj,hc]
 rw[if_pos ⟨rfl,rfl⟩,if_pos ⟨hl,by omega⟩,hs]
end
abbrev envNm (id0 n i id1 m:Nat):Tr:=(((Tr.lf.set 11 (.pv (i64 i))).set 10 (.pv (i64 n))).set 9 (.own id0 n)).set 3 (.own id1 m)
def Sane (l:List (Int×Int)):Prop:=∀ p∈l,-4611686018427387904≤p.2∧p.2≤4611686018427387904
theorem sane_app {a b:List (Int×Int)} (ha:Sane a) (hb:Sane b):Sane (a++b):=by
 intro p hp
 rcases List.mem_append.1 hp with h | h
 ·exact ha p h
 ·exact hb p h
theorem norm_loop (call:CallF) (l:List (Int×Int)) (hl:Sane l) {id0 fl0:Nat} {nl0:Bool} (H:List AObj) (hH:HGood H) (hg0:H[id0]? =some (pobj l fl0 nl0)) (hf0:fl0≤l.length * 2) (hw:l.length≤1000000):
 wpO (fun r=>∃ E fl nl,r=(.exit 0,⟨E,H++[pobj (normR [] l) fl nl]⟩)∧E.get 3= .own H.length (normR [] l).length∧fl≤(normR [] l).length * 2)
  (loopA (roundA (evalC call b_sets_Norm_l0) (clean (H.length+1) [3,9,10,11])) rounds ⟨envNm id0 l.length 0 H.length 0,H++[pobj [] 0 true]⟩):=by
 have hp:=pobj_hp hg0 hf0 hH
 have hid:id0 < H.length:=hp.lt
 have hid1:id0 < H.length+1:=by omega
 have htk:H.length < H.length+1:=Nat.lt_succ_self _
 have hn:l.length=(prowsA l).size:=(prowsA_size l).symm
 have hcut:∀ a b c,mapO (cutObj (H.length+1)) (H++[pobj a b c])=some (H++[pobj a b c]):=fun a b c=>mapO_id fun o ho=>by
  rcases List.mem_append.1 ho with h | h
  ·exact hH _ (by omega) o h
  ·simp at h;subst h;exact pobj_cut _ _ _ _
 refine wpO_mono (loopN_wp (g:=roundA (evalC call b_sets_Norm_l0) (clean (H.length+1) [3,9,10,11]))
  (fun i t=>∃ out fl nl,t=⟨envNm id0 l.length i H.length out.length,H++[pobj out fl nl]⟩∧fl≤out.length * 2∧Sane out∧out.length≤i∧normR [] l=normR out (l.drop i))
  l.length (by unfold rounds;omega) _ ⟨[],0,true,rfl,by omega,by intro p hp;simp at hp,by simp,rfl⟩ ?_ ?_) (fun r h=>h.2)
 ·rintro i t hi ⟨out,fl,nl,rfl,hfl,hsa,hle,hs⟩
  have hd:l.drop i=l[i]::l.drop (i+1):=List.drop_eq_getElem_cons hi
  rw[hd] at hs
  have hsp:=hl l[i] (List.getElem_mem hi)
  have e1:decide ((i:Int) < (l.length:Int))=true:=dec_t (by omega)
  have t2:=stepWrap hi (by unfold maxLen;omega)
  have a1:=iaddr_app [pobj out fl nl] hid (hp.iaddr prow_sz hn (i:=(i:Int)) rfl (by omega))
  have l1:=load_app [pobj out fl nl] hid (hp.load prow_sz hn (k:=i) (by omega))
  rw[prowsA_get hi] at l1
  have l1':loadA (H++[pobj out fl nl]) true 2 (.eptr id0 (l.length * 2) (i * 2))=some (.pv (pr l[i])):=l1
  have s1:=pbox_store (H++[pobj out fl nl]) (.pv (i64 0)) (.pv (i64 0)) l[i]
  have l2:=pbox_load (H++[pobj out fl nl]) l[i]
  have b0:∀ p:Int×Int,place (H++[pobj out fl nl]++[AObj.box [.pv (i64 p.1),.pv (i64 p.2)]]) 0 (.ptr (H++[pobj out fl nl]).length 0)=some (.ptr (H++[pobj out fl nl]).length 0):=fun p=>by simp[place]
  have b1:∀ p:Int×Int,place (H++[pobj out fl nl]++[AObj.box [.pv (i64 p.1),.pv (i64 p.2)]]) 1 (.ptr (H++[pobj out fl nl]).length 0)=some (.ptr (H++[pobj out fl nl]).length 1):=fun p=>by simp[place]
  have b2:∀ p:Int×Int,loadA (H++[pobj out fl nl]++[AObj.box [.pv (i64 p.1),.pv (i64 p.2)]]) false 1 (.ptr (H++[pobj out fl nl]).length 0)=some (.pv (i64 p.1)):=fun p=>by simp[loadA,partA]
  have b3:∀ p:Int×Int,loadA (H++[pobj out fl nl]++[AObj.box [.pv (i64 p.1),.pv (i64 p.2)]]) false 1 (.ptr (H++[pobj out fl nl]).length 1)=some (.pv (i64 p.2)):=fun p=>by simp[loadA,partA]
  have hap:=pobj_append (A:=H++[pobj out fl nl]++[.box [.pv (i64 l[i].1),.pv (i64 l[i].2)]]) (id:=H.length) (n:=out.length) (h:= .own) (bytes:=16) (by rw[List.getElem?_append_left (by simp)];exact get_top _ _) rfl (by unfold roomOk;omega) l[i]
  rw[List.set_append_left _ _ (by simp),set_top] at hap
  have htk2:∀ (o o2:AObj),(H++[o]++[o2]).take (H.length+1)=H++[o]:=fun o o2=>by
   rw[List.take_append_of_le_length (by simp),List.take_of_length_le (by simp)]
  have hlen:lenA (H++[pobj out fl nl]++[.box [.pv (i64 l[i].1),.pv (i64 l[i].2)]]) 0 (.own H.length out.length)=some out.length:=by
   rw[lenA_own,List.getElem?_append_left (by simp),get_top]
   have:=pobj_len out
   simp only[pobj,rowsObj]
   rw[if_pos];unfold winOk;omega
  rcases List.eq_nil_or_concat out with rfl | ⟨out,q,rfl⟩
  ·have hz:decide (((0:Nat):Int) > 0)=false:=by decide
   rw[normR_nil] at hs
   rw[List.length_nil] at hap hlen
   rw[Nat.zero_add,List.nil_append] at hap
   generalize l[i]=p at *
   generalize hQ:LN _ _ i=Q
   simp (implicitDefEqProofs:=false) only[SP,WP,setRow,sevalprocAttr,-List.reduceReplicate,b_sets_Norm_l0,e1,t2,a1,l1',s1,l2,hlen,hz,hap,htk2,hcut,hid1,htk,clean,cutEnv,AV.cut,deep_eq',envNm]
   subst hQ
   exact⟨[p],fl,false,rfl,by simp at hfl ⊢;omega,by intro x hx;simp at hx;subst hx;exact hsp,by simp,hs⟩
  ·rw[List.concat_eq_append] at *
   have hql:=hsa q (by simp)
   have hol:(out++[q]).length=out.length+1:=by simp
   have hg1:(H++[pobj (out++[q]) fl nl]++[AObj.box [.pv (i64 l[i].1),.pv (i64 l[i].2)]])[H.length]? =some (pobj (out++[q]) fl nl):=by rw[List.getElem?_append_left (by simp)];exact get_top _ _
   have c1:=last_iaddr hg1 (by rw[hol] at hfl;exact hfl)
   have c2:=last_place hg1
   have c3:=last_load hg1
   have c4:=last_store hg1 (if l[i].2 > q.2 then l[i].2 else q.2)
   rw[List.set_append_left _ _ (by simp),set_top] at c4
   have t3:IntKind.i64.wrap (((out.length+1:Nat):Int) - 1)=(out.length:Int):=by rw[wrap_int (by omega)];omega
   have t4:IntKind.i64.wrap (q.2+1)=q.2+1:=wrap_int (by omega)
   have hz:decide (((out.length+1:Nat):Int) > 0)=true:=dec_t (by omega)
   rw[hol] at hlen hap hfl hle
   by_cases hj:l[i].1≤q.2+1
   ·have e2:decide (l[i].1≤q.2+1)=true:=dec_t hj
    rw[normR_join hj] at hs
    generalize l[i]=p at *
    generalize hmx:(if p.2 > q.2 then p.2 else q.2)=mx at *
    generalize hQ:LN _ _ i=Q
    simp (implicitDefEqProofs:=false) only[SP,WP,setRow,sevalprocAttr,-List.reduceReplicate,b_sets_Norm_l0,e1,t2,a1,l1',s1,l2,hol,hlen,hz,b0,b1,b2,b3,c1,c2,c3,c4,t3,t4,e2,bestA,bestOf,hmx,htk2,hcut,hid1,htk,clean,cutEnv,AV.cut,deep_eq',envNm]
    subst hQ
    refine⟨out++[(q.1,mx)],(out.length+1) * 2,nl,by simp[envNm,hol],by simp,?_,by simp;omega,hs⟩
    intro x hx
    rcases List.mem_append.1 hx with h | h
    ·exact hsa x (by simp[h])
    ·simp at h;subst h
     rw[← hmx];split <;> simp only <;> omega
   ·have e2:decide (l[i].1≤q.2+1)=false:=dec_f hj
    rw[normR_new hj] at hs
    generalize l[i]=p at *
    generalize hQ:LN _ _ i=Q
    simp (implicitDefEqProofs:=false) only[SP,WP,setRow,sevalprocAttr,-List.reduceReplicate,b_sets_Norm_l0,e1,t2,a1,l1',s1,l2,hol,hlen,hz,b0,b1,b2,b3,c1,c2,c3,t3,t4,e2,hap,htk2,hcut,hid1,htk,clean,cutEnv,AV.cut,deep_eq',envNm]
    subst hQ
    refine⟨out++[q]++[p],fl,false,by simp[envNm],by simp;omega,?_,by simp;omega,hs⟩
    exact sane_app hsa (by intro x hx;simp at hx;subst hx;exact hsp)
 ·rintro t ⟨out,fl,nl,rfl,hfl,hsa,hle,hs⟩
  rw[List.drop_length,normR] at hs
  have e1:decide ((l.length:Int) < (l.length:Int))=false:=dec_f (by omega)
  generalize hQ:(fun r:Ex×St=>r.1.stop=true∧_)=Q
  simp (implicitDefEqProofs:=false) only[SP,SA,WP,sevalprocAttr,-List.reduceReplicate,b_sets_Norm_l0,e1,envNm]
  subst hQ
  rw[hs]
  exact⟨rfl,_,fl,nl,rfl,by simp[Tr.get_set],hfl⟩
end Go.AM.B1
namespace Go.AM.B1
open Go.AM Go.AM.So
def lastHi (last:Int) (a:List (Int×Int)):Int:=(a.getLast?.map (·.2)).getD last
theorem lastHi_cons (last:Int) (p:Int×Int) (a:List (Int×Int)):lastHi last (p::a)=lastHi p.2 a:=by
 cases a with
 |nil=>rfl
 |cons q a=>simp[lastHi,List.getLast?_cons]
theorem lastHi_snoc (last:Int) (a:List (Int×Int)) (q:Int×Int):lastHi last (a++[q])=q.2:=by simp[lastHi]
theorem validR_app (top:Int):∀ (a b:List (Int×Int)) (last:Int),validR top last (a++b)=(validR top last a&&validR top (lastHi last a) b)
 | [],b,last=>by simp[validR,lastHi]
 |p::a,b,last=>by
  rw[List.cons_append,validR,validR,validR_app top a b p.2,lastHi_cons,Bool.and_assoc]
theorem validR_one {top last:Int} {p:Int×Int}:validR top last [p]=true↔0≤p.1∧p.1≤p.2∧p.2≤top∧last < p.1 - 1:=by
 simp only[validR,Bool.and_true,Bool.not_eq_true',Bool.or_eq_false_iff,decide_eq_false_iff_not]
 constructor <;> intro h <;> refine⟨?_,?_⟩ <;> omega
theorem memR_app (x:Int) (a b:List (Int×Int)):memR x (a++b)↔memR x a∨memR x b:=by
 unfold memR
 simp only[List.mem_append]
 constructor
 ·rintro⟨p,h | h,hp⟩
  ·exact .inl ⟨p,h,hp⟩
  ·exact .inr ⟨p,h,hp⟩
 ·rintro (⟨p,h,hp⟩ | ⟨p,h,hp⟩)
  ·exact⟨p,.inl h,hp⟩
  ·exact⟨p,.inr h,hp⟩
theorem memR_one (x:Int) (p:Int×Int):memR x [p]↔p.1≤x∧x≤p.2:=by
 unfold memR;simp
theorem memR_nil (x:Int):¬memR x []:=by unfold memR;simp
theorem memR_cons (x:Int) (p:Int×Int) (l:List (Int×Int)):memR x (p::l)↔(p.1≤x∧x≤p.2)∨memR x l:=by
 unfold memR;simp
theorem normR_law {top:Int}:∀ (rest out:List (Int×Int)) (q:Int×Int),validR top (-2) (out++[q])=true→(∀ p∈rest,0≤p.1∧p.1≤p.2∧p.2≤top∧q.1≤p.1)→rest.Pairwise (fun p q=>p.1≤q.1)→
 validR top (-2) (normR (out++[q]) rest)=true∧(∀ x,memR x (normR (out++[q]) rest)↔memR x (out++[q])∨memR x rest)∧(normR (out++[q]) rest).length≤out.length+1+rest.length
 | [],out,q,hv,_,_=>by
   rw[normR]
   exact⟨hv,fun x=>by simp[memR_nil],by simp⟩
 |r::rest,out,q,hv,hr,hs=>by
  have h1:=hr r (by simp)
  rw[List.pairwise_cons] at hs
  have hv':=hv
  rw[validR_app,Bool.and_eq_true,validR_one] at hv'
  by_cases hj:r.1≤q.2+1
  ·rw[normR_join hj]
   have ih:=normR_law rest out (q.1,if r.2 > q.2 then r.2 else q.2) (by
    rw[validR_app,Bool.and_eq_true,validR_one]
    refine⟨hv'.1,hv'.2.1,?_,?_,hv'.2.2.2.2⟩ <;> simp only <;> split <;> omega) (fun p hp=>by
     have:=hr p (by simp[hp])
     exact⟨this.1,this.2.1,this.2.2.1,this.2.2.2⟩) hs.2
   refine⟨ih.1,fun x=> ?_,by have:=ih.2.2;simp only[List.length_cons];omega⟩
   rw[ih.2.1,memR_app,memR_app,memR_one,memR_one,memR_cons]
   have e:(q.1≤x∧x≤(if r.2 > q.2 then r.2 else q.2))↔(q.1≤x∧x≤q.2)∨(r.1≤x∧x≤r.2):=by
    split <;> constructor <;> intro h <;> omega
   simp only[e]
   constructor
   ·rintro ((h | h | h) | h)
    ·exact .inl (.inl h)
    ·exact .inl (.inr h)
    ·exact .inr (.inl h)
    ·exact .inr (.inr h)
   ·rintro ((h | h) | h | h)
    ·exact .inl (.inl h)
    ·exact .inl (.inr (.inl h))
    ·exact .inl (.inr (.inr h))
    ·exact .inr h
  ·rw[normR_new hj]
   have ih:=normR_law rest (out++[q]) r (by
    rw[validR_app,Bool.and_eq_true,validR_one,lastHi_snoc]
    exact⟨hv,h1.1,h1.2.1,h1.2.2.1,by omega⟩) (fun p hp=>by
     have h2:=hr p (by simp[hp])
     exact⟨h2.1,h2.2.1,h2.2.2.1,hs.1 p hp⟩) hs.2
   refine⟨ih.1,fun x=> ?_,by have:=ih.2.2;simp only[List.length_cons,List.length_append,List.length_nil] at this ⊢;omega⟩
   rw[ih.2.1,memR_app,memR_one,memR_cons]
   constructor
   ·rintro ((h | h) | h)
    ·exact .inl h
    ·exact .inr (.inl h)
    ·exact .inr (.inr h)
   ·rintro (h | h | h)
    ·exact .inl (.inl h)
    ·exact .inl (.inr h)
    ·exact .inr h
theorem normR_all {top:Int} (l:List (Int×Int)) (hr:∀ p∈l,0≤p.1∧p.1≤p.2∧p.2≤top) (hs:l.Pairwise (fun p q=>p.1≤q.1)):
 validR top (-2) (normR [] l)=true∧(∀ x,memR x (normR [] l)↔memR x l)∧(normR [] l).length≤l.length:=by
 cases l with
 |nil=>exact⟨rfl,fun x=>Iff.rfl,Nat.le_refl _⟩
 |cons r rest=>
  rw[normR_nil]
  have h1:=hr r (by simp)
  rw[List.pairwise_cons] at hs
  have:=normR_law rest [] r (by rw[List.nil_append,validR_one];exact⟨h1.1,h1.2.1,h1.2.2,by omega⟩) (fun p hp=>by
   have h2:=hr p (by simp[hp])
   exact⟨h2.1,h2.2.1,h2.2.2,hs.1 p hp⟩) hs.2
  rw[List.nil_append] at this
  refine⟨this.1,fun x=> ?_,by have:=this.2.2;simp at this ⊢;omega⟩
  rw[this.2.1,memR_one,memR_cons]
theorem validR_all {top:Int}:∀ {l:List (Int×Int)} {last:Int},validR top last l=true→∀ p∈l,0≤p.1∧p.1≤p.2∧p.2≤top
 |q::l,last,h,p,hp=>by
  obtain⟨h1,h2,h3,h4,h5⟩:=validR_cons h
  rcases List.mem_cons.1 hp with rfl | hp
  ·exact⟨by omega,by omega,by omega⟩
  ·exact validR_all h5 p hp
def cmp3 (x y:Int):Int:=if x < y then -1 else if x > y then 1 else 0
def keyR (r:List PV):Int:=match r with
 | .int _ x::_=>x
 |_=>0
def cmpK (a b:List PV):Int:=cmp3 (keyR a) (keyR b)
theorem ltC_K (a b:List PV):ltC cmpK a b=decide (keyR a < keyR b):=by
 unfold ltC cmpK cmp3
 rw[Bool.eq_iff_iff]
 simp only[decide_eq_true_eq]
 split
 ·simp[*]
 ·split <;> simp <;> omega
theorem swo_K:Go.Sort.SWO (ltC cmpK):=by
 refine⟨fun x=> ?_,fun x y z h1 h2=> ?_,fun x y z h1 h2=> ?_⟩ <;> simp only[ltC_K,decide_eq_true_eq,decide_eq_false_iff_not] at * <;> omega
theorem compare_run (x y:Int):F_cmp_Compare_int [i64 x,i64 y]=some (i64 (cmp3 x y)):=by
 have hn:∀ x:Int,F_cmp_isNaN_int [i64 x]=some (.bool false):=fun x=>by
  have e:(x != x)=false:=by simp
  simp (implicitDefEqProofs:=false) only[F_cmp_isNaN_int,SP,SA,SQ,sevalprocAttr,-List.reduceReplicate,b_cmp_isNaN_int,toPV_pv,deep_eq,e]
 have h1:=hn x
 have h2:=hn y
 unfold cmp3
 by_cases hxy:x < y
 ·have d1:=dec_t hxy
  rw[if_pos hxy]
  simp (implicitDefEqProofs:=false) only[F_cmp_Compare_int,SP,SA,SQ,sevalprocAttr,-List.reduceReplicate,b_cmp_Compare_int,toPV_pv,deep_eq,h1,h2,d1]
 ·have d1:=dec_f hxy
  rw[if_neg hxy]
  by_cases hyx:x > y
  ·have d2:=dec_t hyx
   rw[if_pos hyx]
   simp (implicitDefEqProofs:=false) only[F_cmp_Compare_int,SP,SA,SQ,sevalprocAttr,-List.reduceReplicate,b_cmp_Compare_int,toPV_pv,deep_eq,h1,h2,d1,d2]
  ·have d2:=dec_f hyx
   rw[if_neg hyx]
   simp (implicitDefEqProofs:=false) only[F_cmp_Compare_int,SP,SA,SQ,sevalprocAttr,-List.reduceReplicate,b_cmp_Compare_int,toPV_pv,deep_eq,h1,h2,d1,d2]
theorem norm1_run (call:CallF) (p q:Int×Int) (H:List AObj):runF call b_sets_Norm_1 [.pv (.agg (prow p)),.pv (.agg (prow q))] H=some (.pv (i64 (cmp3 p.1 q.1)),H):=by
 have h:=compare_run p.1 q.1
 unfold prow
 simp (implicitDefEqProofs:=false) only[SP,SA,SQ,sevalprocAttr,-List.reduceReplicate,b_sets_Norm_1,toPV_pv,deep_eq,h]
theorem unionTab:SortTab t_scalars_Union 2 8:=⟨rfl,rfl,rfl,rfl,rfl,rfl,rfl,rfl,rfl,rfl,rfl,rfl,rfl,rfl,rfl⟩
theorem unionCmp (d:Nat):Cmp (callL t_scalars_Union (d+1)) 2 23 PRow cmpK where
 row:=prow_sz
 run:=by
  rintro H _ _ ⟨p,rfl⟩ ⟨q,rfl⟩
  rw[callL_go t_scalars_Union d 23 _ H (f:=b_sets_Norm_1) rfl,norm1_run]
  rfl
theorem prows_of {D:Array (List PV)} (h:∀ r∈D.toList,PRow r):∃ l,D=prowsA l:=by
 have key:∀ (ds:List (List PV)),(∀ r∈ds,PRow r)→∃ l:List (Int×Int),ds=l.map prow:=by
  intro ds
  induction ds with
  |nil=>intro _;exact⟨[],rfl⟩
  |cons r ds ih=>
   intro h
   obtain⟨p,rfl⟩:=h r (by simp)
   obtain⟨l,rfl⟩:=ih fun x hx=>h x (by simp[hx])
   exact⟨p::l,rfl⟩
 obtain⟨l,hl⟩:=key D.toList h
 exact⟨l,by rw[prowsA,←hl]⟩
theorem norm_run (l:List (Int×Int)) (hl:Sane l) {id0 fl0:Nat} {nl0:Bool} (H:List AObj) (hH:HGood H) (hg0:H[id0]? =some (pobj l fl0 nl0)) (hf0:fl0≤l.length * 2) (hw:l.length < 50):
 wpO (fun r=>∃ l' fl nl,l'.Perm l∧l'.Pairwise (fun p q=>p.1≤q.1)∧r.1= .own (r.2.length - 1) (normR [] l').length∧HGood r.2∧r.2[r.2.length - 1]? =some (pobj (normR [] l') fl nl)∧fl≤(normR [] l').length * 2)
  (runF (callL t_scalars_Union 7) b_sets_Norm [.own id0 l.length] H):=by
 have hp:=pobj_hp hg0 hf0 hH
 have hn:l.length=(prowsA l).size:=(prowsA_size l).symm
 have hst:=sort_run (n:=l.length) unionTab unionCmp (by omega) swo_K 6 (by omega) (by omega) (prowsA l) H hH hp.lt hp hn
 have h22:t_scalars_Union 22=some (bg_SortFunc 2 8):=rfl
 simp (implicitDefEqProofs:=false) only[SP,SA,WP,sevalprocAttr,-List.reduceReplicate,b_sets_Norm,h22]
 refine wpO_mono hst ?_
 rintro⟨v,H2⟩ ⟨hv,D',hp2,hs2,hperm,hsrt⟩
 dsimp only at hv hp2 hs2
 obtain⟨l',rfl⟩:=prows_of hp2.rows
 have hpl:l'.Perm l:=by
  have h1:(l'.map prow).Perm (l.map prow):=by simpa[prowsA] using hperm
  have key:∀ (l:List (Int×Int)),(l.map prow).map (fun r=>(keyR r,keyR r.tail))=l:=by
   intro l
   rw[List.map_map]
   conv=>rhs;rw[← List.map_id l]
   apply List.map_congr_left
   intro p _;rfl
  have:=h1.map (fun r=>(keyR r,keyR r.tail))
  rwa [key,key] at this
 have hps:l'.Pairwise (fun p q=>p.1≤q.1):=by
  rw[List.pairwise_iff_getElem]
  intro i j hi hj hij
  have:=hsrt i j hij (by rw[← prowsA_size l'] at hj;omega)
  rw[prowsA_get hi,prowsA_get hj] at this
  unfold cmpK cmp3 at this
  by_cases h:l'[j].1 < l'[i].1
  ·exfalso;apply this
   have e:keyR (prow l'[j]) < keyR (prow l'[i]):=h
   rw[if_pos e];decide
  ·omega
 obtain⟨fl,nl,hfl,hg⟩:=hp2.get
 rw[prowsA_size] at hfl hs2
 have hl':Sane l':=fun p hpp=>hl p (hpl.mem_iff.1 hpp)
 have hlp:=norm_loop (callL t_scalars_Union 7) l' hl' H2 hp2.good hg hfl (by omega)
 rw[hs2] at hlp
 have hlen:lenA (H2++[pobj [] 0 true]) 0 (.own id0 l.length)=some l.length:=by
  have hid:id0 < H2.length:=(List.getElem?_eq_some_iff.1 hg).1
  have:=pobj_len l'
  rw[lenA_own,List.getElem?_append_left hid,hg]
  simp only[rowsObj]
  unfold flatR at this ⊢
  rw[if_pos];unfold winOk;omega
 have hg2:H2.length < H2.length+1:=Nat.lt_succ_self _
 have hid1:id0 < H2.length+1:=by have:=(List.getElem?_eq_some_iff.1 hg).1;omega
 have hgood:HGood (H2++[pobj [] 0 true]):=by
  intro n hn o ho
  rcases List.mem_append.1 ho with h | h
  ·exact hp2.good n (by simp at hn;omega) o h
  ·simp at h;subst h;exact pobj_cut _ _ _ _
 have hcut:=HGood.cut hgood
 have hlen1:(H2++[pobj [] 0 true]).length=H2.length+1:=by simp
 rw[hlen1] at hcut
 have hz:(0 < 2)=True:=by simp
 have ho:AObj.seq 2 true [] 0 true=pobj [] 0 true:=rfl
 simp (implicitDefEqProofs:=false) only[SP,SA,WP,sevalprocAttr,-List.reduceReplicate,C_loop,ghostA,hz,ho,hlen,hlen1,hcut,hg2,hid1,List.take_of_length_le (show (H2++[pobj [] 0 true]).length≤H2.length+1 by simp),clean,cutEnv,AV.cut,deep_eq']
 refine wpO_mono hlp ?_
 rintro _ ⟨E,fl2,nl2,rfl,hE,hfl2⟩
 simp (implicitDefEqProofs:=false) only[SP,SA,WP,sevalprocAttr,-List.reduceReplicate,hE]
 refine⟨l',fl2,nl2,hpl,hps,by simp,?_,by simp,hfl2⟩
 intro n hn o ho
 rcases List.mem_append.1 ho with h | h
 ·exact hp2.good n (by simp at hn;omega) o h
 ·simp at h;subst h;exact pobj_cut _ _ _ _
end Go.AM.B1
namespace Go.AM.B1
open Go.AM Go.AM.So
abbrev topM:Int:=1073741823
theorem pobj_join {A:List AObj} {id1 id2 n1 n2 f1 f2 bytes:Nat} {k1 k2:Bool} {h:Hold} {a b:List (Int×Int)} (h1:A[id1]? =some (pobj a f1 k1)) (h2:A[id2]? =some (pobj b f2 k2)) (hn1:n1=a.length) (hn2:n2=b.length) (hr:roomOk (n1+n2) bytes):
 ∃ k,appendA A true h 2 true bytes (.own id1 n1) (.own id2 n2)=some (.own id1 (n1+n2),A.set id1 (pobj (a++b) f1 k)):=by
 subst hn1 hn2
 have la:=pobj_len a
 have lb:=pobj_len b
 have e:flatR (prowsA (a++b))=flatR (prowsA a)++flatR (prowsA b):=by simp[flatR,prowsA]
 have hone:(flatR (prowsA b)).all AV.one=true:=by
  rw[List.all_eq_true]
  intro v hv
  obtain⟨c,hc,rfl⟩:=List.mem_map.1 hv
  rw[List.mem_flatten] at hc
  obtain⟨r,hr,hc⟩:=hc
  exact (prow_sz r (prows_mem b r hr)).2 c hc
 refine⟨k1&&(b.length==0),?_⟩
 simp only[appendA,if_true,h1,pobj,rowsObj,elemsA,h2,e]
 rw[if_pos ⟨trivial,by omega⟩]
 simp only[Option.bind_some]
 rw[if_pos ⟨trivial,by omega,hr,hone⟩]
theorem scalars_set_own_run (v:PV) (l:List (Int×Int)) (hv:IsL 2 v (prs l)) (hw:l.length * 16≤140737488355328) (hval:validR topM (-2) l=true) (H:List AObj) (hH:HGood H):
 runF (callL t_scalars_Union 7) b_scalars_set_own [.pv v] H=some (.own H.length l.length,H++[pobj l 0 false]):=by
 have h1:=to_own_run (callL t_scalars_Union 6) v l hv hw H hH
 have h2:=valid_run (.lit 2 (prs l)) l (.inr rfl) (by unfold maxLen;omega) topM (by decide)
 rw[hval] at h2
 have h0:t_scalars_Union 0=some b_sets_To_sets_Run_api_Range_own:=rfl
 have h3:=pobj_toPV (A:=H++[pobj l 0 false]) (id:=H.length) (n:=l.length) (get_top _ _) rfl 5
 rw[if_neg (by simp)] at h3
 simp (implicitDefEqProofs:=false) only[SP,SA,WP,sevalprocAttr,-List.reduceReplicate,b_scalars_set_own,h0,h1,h2,h3]
theorem hgood_push {H:List AObj} (hH:HGood H) {o:AObj} (ho:∀ n,cutObj n o=some o):HGood (H++[o]):=by
 intro n hn x hx
 rcases List.mem_append.1 hx with h | h
 ·exact hH n (by simp at hn;omega) x h
 ·simp at h;subst h;exact ho n
theorem union_run (A B:PV) (a b:List (Int×Int)) (hA:IsL 2 A (prs a)) (hB:IsL 2 B (prs b)) (hva:validR topM (-2) a=true) (hvb:validR topM (-2) b=true) (hl:a.length+b.length < 50):
 ∃ u,F_scalars_Union [A,B]=some (.lit 2 (prs u))∧validR topM (-2) u=true∧(∀ x,memR x u↔memR x a∨memR x b)∧u.length≤a.length+b.length:=by
 have h1:=scalars_set_own_run A a hA (by omega) hva [] (by intro n _ o ho;simp at ho)
 have hg1:HGood ([]++[pobj a 0 false]):=hgood_push (by intro n _ o ho;simp at ho) (pobj_cut _ _ _)
 have h2:=scalars_set_own_run B b hB (by omega) hvb ([]++[pobj a 0 false]) hg1
 obtain⟨k,h3⟩:=pobj_join (A:=[pobj a 0 false,pobj b 0 false]) (id1:=0) (id2:=1) (n1:=a.length) (n2:=b.length) (bytes:=16) (h:= .own) rfl rfl rfl rfl (by unfold roomOk;omega)
 have hg3:HGood [pobj (a++b) 0 k,pobj b 0 false]:=by
  intro n _ o ho
  simp at ho
  rcases ho with rfl | rfl <;> exact pobj_cut _ _ _ _
 have ra:=validR_all hva
 have rb:=validR_all hvb
 have rab:∀ p∈a++b,0≤p.1∧p.1≤p.2∧p.2≤topM:=fun p hp=>by
  rcases List.mem_append.1 hp with h | h
  ·exact ra p h
  ·exact rb p h
 have h4:=norm_run (a++b) (fun p hp=>by have:=rab p hp;unfold topM at this;omega) (id0:=0) [pobj (a++b) 0 k,pobj b 0 false] hg3 rfl (by omega) (by simp;omega)
 obtain⟨⟨v,H4⟩,e4,l',fl,nl,hpl,hps,hv,hg4,hget,hfl⟩:=wpO_spec h4
 dsimp only at hv hg4 hget
 subst hv
 have law:=normR_all (top:=topM) l' (fun p hp=>rab p (hpl.mem_iff.1 hp)) hps
 have hll:(normR [] l').length≤a.length+b.length:=by have:=hpl.length_eq;simp at this;omega
 have h5:=to_in_run (callL t_scalars_Union 6) (normR [] l') H4 hg4 hget hfl (by omega)
 have hmem:∀ x,memR x (normR [] l')↔memR x a∨memR x b:=by
  intro x
  rw[law.2.1,←memR_app]
  unfold memR
  constructor
  ·rintro⟨p,h,hx⟩;exact⟨p,hpl.mem_iff.1 h,hx⟩
  ·rintro⟨p,h,hx⟩;exact⟨p,hpl.mem_iff.2 h,hx⟩
 refine⟨normR [] l',?_,law.1,hmem,hll⟩
 generalize normR [] l'=u at *
 simp only[List.nil_append,List.length_nil,List.cons_append,List.length_cons,Nat.zero_add] at h1 h2 h3
 rw[List.set_cons_zero] at h3
 have c1:t_scalars_Union 1=some b_scalars_set_own:=rfl
 have c24:t_scalars_Union 24=some b_sets_Norm:=rfl
 have c3:t_scalars_Union 3=some b_scalars_back_in:=rfl
 have c2:t_scalars_Union 2=some b_sets_To_api_Range_sets_Run_in:=rfl
 have hab:(a++b).length=a.length+b.length:=by simp
 rw[hab] at e4
 simp (implicitDefEqProofs:=false) only[F_scalars_Union,SP,WP,setRow,sevalprocAttr,-List.reduceReplicate,b_scalars_Union,c1,h1,h2,h3,c24,e4,c3,b_scalars_back_in,c2,h5]
theorem scalars_set_run (v:PV) (l:List (Int×Int)) (hv:IsL 2 v (prs l)) (hw:l.length * 16≤140737488355328) (hval:validR topM (-2) l=true):F_scalars_set [v]=some (.lit 2 (prs l)):=by
 have h1:=to_span_run v l hv hw
 rw[← to_range_eq] at h1
 have h2:=valid_run (.lit 2 (prs l)) l (.inr rfl) (by unfold maxLen;omega) topM (by decide)
 rw[hval] at h2
 simp (implicitDefEqProofs:=false) only[F_scalars_set,SP,SA,SQ,sevalprocAttr,-List.reduceReplicate,b_scalars_set,toPV_pv,deep_eq,h1,h2]
def meetR:Nat→List (Int×Int)→List (Int×Int)→List (Int×Int)
 |0,_,_=>[]
 |n+1,a,b=>match a,b with
  |p::a',q::b'=>(if (if q.1 > p.1 then q.1 else p.1)≤(if q.2 < p.2 then q.2 else p.2) then [((if q.1 > p.1 then q.1 else p.1),(if q.2 < p.2 then q.2 else p.2))] else [])++(if p.2 < q.2 then meetR n a' (q::b') else meetR n (p::a') b')
  |_,_=>[]
abbrev envMt (va vb:PV) (tk:Nat) (nl:Bool) (es:List PV):Tr:=((Tr.lf.set 5 (.uq tk nl 2 es)).set 1 (.pv vb)).set 0 (.pv va)
theorem IsL.drop1 {v:PV} {p:PV} {es:List PV} (h:IsL 2 v (p::es)):∀ H,sliceA H 2 (.pv v) (some 1) none=some (.pv (.lit 2 es)):=by
 intro H
 rcases h with⟨_,h⟩ | rfl
 ·cases h
 ·simp[sliceA]
  omega
theorem meet_run (A B:PV) (a b:List (Int×Int)) (hA:IsL 2 A (prs a)) (hB:IsL 2 B (prs b)) (hw:(a.length+b.length) * 16≤140737488355328):
 ∃ u,F_sets_Meet [A,B]=some u∧IsL 2 u (prs (meetR (a.length+b.length) a b)):=by
 have hloop:wpO (fun r=>∃ E H nl,r=(.exit 0,⟨E,H⟩)∧E.get 5= .uq 0 nl 2 (prs (meetR (a.length+b.length) a b))∧(nl=true→meetR (a.length+b.length) a b=[]))
  (loopA (roundA (evalC (callL (fun _=>none) 8) b_sets_Meet_l0) (clean 1 [0,1,5])) rounds ⟨envMt A B 0 true [],[.tok 2 0 true]⟩):=by
  refine wpO_mono (loopA_wp (g:=roundA (evalC (callL (fun _=>none) 8) b_sets_Meet_l0) (clean 1 [0,1,5]))
   (fun m t=>∃ va vb a' b' nl out,m=a'.length+b'.length∧IsL 2 va (prs a')∧IsL 2 vb (prs b')∧t=⟨envMt va vb 0 nl (prs out),[.tok 2 out.length nl]⟩∧out.length+m≤a.length+b.length∧(nl=true→out=[])∧meetR (a.length+b.length) a b=out++meetR m a' b')
   rounds (a.length+b.length) _ (by unfold rounds;omega) ⟨A,B,a,b,true,[],rfl,hA,hB,rfl,by simp,fun _=>rfl,rfl⟩ ?_) (fun r h=>h.2)
  rintro m t ⟨va,vb,a',b',nl,out,rfl,ha,hb,rfl,hlen,hnl,hs⟩
  have la:=ha.len
  have lb:=hb.len
  simp only[prs,List.length_map] at la lb
  cases a' with
  |nil=>
   have hs':meetR (a.length+b.length) a b=out:=by
    rw[hs];cases b' <;> simp[meetR]
   have z1:decide (((([]:List (Int×Int)).length:Nat):Int) > 0)=false:=by decide
   generalize hQ:LQ _ _ _=Q
   simp (implicitDefEqProofs:=false) only[SP,SA,WP,sevalprocAttr,-List.reduceReplicate,b_sets_Meet_l0,la,z1,envMt]
   subst hQ
   rw[hs']
   exact⟨_,_,nl,rfl,by simp[Tr.get_set],hnl⟩
  |cons p a'=>
   have z1:decide ((((p::a').length:Nat):Int) > 0)=true:=dec_t (by simp)
   cases b' with
   |nil=>
    have hs':meetR (a.length+b.length) a b=out:=by
     rw[hs];simp[meetR]
    have z2:decide (((([]:List (Int×Int)).length:Nat):Int) > 0)=false:=by decide
    generalize hQ:LQ _ _ _=Q
    have la':∀ H,lenA H 0 (.pv va)=some (a'.length+1):=la
    have z1':decide ((((a'.length+1):Nat):Int) > 0)=true:=z1
    have lb':∀ H,lenA H 0 (.pv vb)=some 0:=lb
    have z2':decide (((0:Nat):Int) > 0)=false:=z2
    simp (implicitDefEqProofs:=false) only[SP,SA,WP,sevalprocAttr,-List.reduceReplicate,b_sets_Meet_l0,la',lb',z1',z2',envMt]
    subst hQ
    rw[hs']
    exact⟨_,_,nl,rfl,by simp[Tr.get_set],hnl⟩
   |cons q b'=>
    have la':∀ H,lenA H 0 (.pv va)=some (a'.length+1):=la
    have z1':decide ((((a'.length+1):Nat):Int) > 0)=true:=z1
    have lb':∀ H,lenA H 0 (.pv vb)=some (b'.length+1):=lb
    have z2':decide ((((b'.length+1):Nat):Int) > 0)=true:=dec_t (by omega)
    have hva:va= .lit 2 (prs (p::a')):=ha.lit (i:=0) (by simp)
    have hvb:vb= .lit 2 (prs (q::b')):=hb.lit (i:=0) (by simp)
    have sa:=IsL.drop1 ha
    have sb:=IsL.drop1 hb
    have i1:∀ H,iaddrA' H 2 (.pv va) 0=some (.pv (.rp [i64 p.1,i64 p.2] 0)):=fun H=>by
     rw[hva];exact lit_iaddr H (i:=0) (l:=p::a') (by simp)
    have i2:∀ H,iaddrA' H 2 (.pv vb) 0=some (.pv (.rp [i64 q.1,i64 q.2] 0)):=fun H=>by
     rw[hvb];exact lit_iaddr H (i:=0) (l:=q::b') (by simp)
    have hap:=uq_append (A:=[.tok 2 out.length nl]) (id:=0) (n:=out.length) (h:= .uq) (ag:=true) (nl:=nl) (sz:=2) (bytes:=16) (es:=prs out) rfl (by simp) (by unfold roomOk;simp only[List.length_cons] at hlen;omega) (pr ((if q.1 > p.1 then q.1 else p.1),(if q.2 < p.2 then q.2 else p.2)))
    rw[List.set_cons_zero] at hap
    have hm:∀ n,meetR (n+1) (p::a') (q::b')=(if (if q.1 > p.1 then q.1 else p.1)≤(if q.2 < p.2 then q.2 else p.2) then [((if q.1 > p.1 then q.1 else p.1),(if q.2 < p.2 then q.2 else p.2))] else [])++(if p.2 < q.2 then meetR n a' (q::b') else meetR n (p::a') b'):=fun n=>rfl
    have hmn:(p::a').length+(q::b').length=(a'.length+b'.length+1)+1:=by simp;omega
    have l0:∀ H (x y:PV),loadA H false 1 (.pv (.rp [x,y] 0))=some (.pv x):=fun H x y=>rfl
    have l1:∀ H (x y:PV),loadA H false 1 (.pv (.rp [x,y] 1))=some (.pv y):=fun H x y=>rfl
    have p0:∀ H (x y:PV),place H 0 (.pv (.rp [x,y] 0))=some (.pv (.rp [x,y] 0)):=fun H x y=>rfl
    have p1:∀ H (x y:PV),place H 1 (.pv (.rp [x,y] 0))=some (.pv (.rp [x,y] 1)):=fun H x y=>rfl
    rw[hmn] at hlen
    rw[hmn,hm] at hs
    generalize hlo:(if q.1 > p.1 then q.1 else p.1)=lo at *
    generalize hhi:(if q.2 < p.2 then q.2 else p.2)=hi at *
    clear hva hvb
    have hprs:prs (out++[(lo,hi)])=prs out++[pr (lo,hi)]:=by simp[prs]
    generalize hQ:LQ _ _ _=Q
    by_cases c1:lo≤hi
    ·have d1:=dec_t c1
     rw[if_pos c1] at hs
     by_cases c2:p.2 < q.2
     ·have d2:=dec_t c2
      rw[if_pos c2] at hs
      simp (implicitDefEqProofs:=false) only[SP,WP,setRow,sevalprocAttr,-List.reduceReplicate,b_sets_Meet_l0,la',lb',z1',z2',i1,i2,l0,l1,p0,p1,bestA,bestOf,hlo,hhi,hap,d1,d2,sa,sb,clean,cutEnv,AV.cut,cutObj,deep_eq',envMt]
      subst hQ
      exact⟨a'.length+b'.length+1,by rw[hmn];omega,_,vb,a',q::b',false,out++[(lo,hi)],by simp;omega,.inr rfl,hb,by rw[hprs];simp[envMt],by simp;omega,by simp,by rw[hs,List.append_assoc]⟩
     ·have d2:=dec_f c2
      rw[if_neg c2] at hs
      simp (implicitDefEqProofs:=false) only[SP,WP,setRow,sevalprocAttr,-List.reduceReplicate,b_sets_Meet_l0,la',lb',z1',z2',i1,i2,l0,l1,p0,p1,bestA,bestOf,hlo,hhi,hap,d1,d2,sa,sb,clean,cutEnv,AV.cut,cutObj,deep_eq',envMt]
      subst hQ
      exact⟨a'.length+b'.length+1,by rw[hmn];omega,va,_,p::a',b',false,out++[(lo,hi)],by simp;omega,ha,.inr rfl,by rw[hprs];simp[envMt],by simp;omega,by simp,by rw[hs,List.append_assoc]⟩
    ·have d1:=dec_f c1
     rw[if_neg c1,List.nil_append] at hs
     by_cases c2:p.2 < q.2
     ·have d2:=dec_t c2
      rw[if_pos c2] at hs
      simp (implicitDefEqProofs:=false) only[SP,WP,setRow,sevalprocAttr,-List.reduceReplicate,b_sets_Meet_l0,la',lb',z1',z2',i1,i2,l0,l1,p0,p1,bestA,bestOf,hlo,hhi,d1,d2,sa,sb,clean,cutEnv,AV.cut,cutObj,deep_eq',envMt]
      subst hQ
      exact⟨a'.length+b'.length+1,by rw[hmn];omega,_,vb,a',q::b',nl,out,by simp;omega,.inr rfl,hb,rfl,by omega,hnl,hs⟩
     ·have d2:=dec_f c2
      rw[if_neg c2] at hs
      simp (implicitDefEqProofs:=false) only[SP,WP,setRow,sevalprocAttr,-List.reduceReplicate,b_sets_Meet_l0,la',lb',z1',z2',i1,i2,l0,l1,p0,p1,bestA,bestOf,hlo,hhi,d1,d2,sa,sb,clean,cutEnv,AV.cut,cutObj,deep_eq',envMt]
      subst hQ
      exact⟨a'.length+b'.length+1,by rw[hmn];omega,va,_,p::a',b',nl,out,by simp;omega,ha,.inr rfl,rfl,by omega,hnl,hs⟩
 obtain⟨r,h1,E,H,nl,rfl,hE,hnl⟩:=wpO_spec hloop
 simp only[envMt,prs,List.map_nil] at h1
 generalize meetR (a.length+b.length) a b=u at *
 have hz:(0 < 2)=True:=by simp
 cases nl with
 |true=>
  refine⟨.nils,?_,.inl ⟨rfl,by rw[hnl rfl];rfl⟩⟩
  simp (implicitDefEqProofs:=false) only[F_sets_Meet,SP,SA,WP,sevalprocAttr,-List.reduceReplicate,b_sets_Meet,C_loop,ghostA,hz,clean,cutEnv,AV.cut,cutObj,deep_eq',h1,hE]
 |false=>
  refine⟨.lit 2 (prs u),?_,.inr rfl⟩
  simp (implicitDefEqProofs:=false) only[F_sets_Meet,SP,SA,WP,sevalprocAttr,-List.reduceReplicate,b_sets_Meet,C_loop,ghostA,hz,clean,cutEnv,AV.cut,cutObj,deep_eq',h1,hE]
end Go.AM.B1
namespace Go.AM.B1
open Go.AM Go.AM.So
theorem validR_low {top:Int}:∀ {l:List (Int×Int)} {last:Int},validR top last l=true→∀ p∈l,last < p.1 - 1
 |q::l,last,h,p,hp=>by
  obtain⟨h1,h2,h3,h4,h5⟩:=validR_cons h
  rcases List.mem_cons.1 hp with rfl | hp
  ·omega
  ·have:=validR_low h5 p hp;omega
theorem validR_memlow {top last x:Int} {l:List (Int×Int)} (h:validR top last l=true) (hx:memR x l):last+1 < x:=by
 obtain⟨p,hp,h1,h2⟩:=hx
 have:=validR_low h p hp;omega
theorem meetR_law {top:Int}:∀ (n:Nat) (a b:List (Int×Int)) (la lb:Int),validR top la a=true→validR top lb b=true→a.length+b.length≤n→
 (∀ x,memR x (meetR n a b)↔memR x a∧memR x b)∧∀ p∈meetR n a b,p.1≤p.2
 |0,a,b,la,lb,_,_,hn=>by
  have:a=[]:=List.eq_nil_of_length_eq_zero (by omega)
  subst this
  exact⟨fun x=>by simp[meetR,memR_nil],by simp[meetR]⟩
 |n+1,[],b,la,lb,_,_,hn=>⟨fun x=>by simp[meetR,memR_nil],by simp[meetR]⟩
 |n+1,p::a,[],la,lb,_,_,hn=>⟨fun x=>by simp[meetR,memR_nil],by simp[meetR]⟩
 |n+1,p::a,q::b,la,lb,ha,hb,hn=>by
  obtain⟨a1,a2,a3,a4,a5⟩:=validR_cons ha
  obtain⟨b1,b2,b3,b4,b5⟩:=validR_cons hb
  rw[meetR]
  have hlo:p.1≤(if q.1 > p.1 then q.1 else p.1)∧q.1≤(if q.1 > p.1 then q.1 else p.1)∧((if q.1 > p.1 then q.1 else p.1)=p.1∨(if q.1 > p.1 then q.1 else p.1)=q.1):=by split <;> omega
  have hhi:(if q.2 < p.2 then q.2 else p.2)≤p.2∧(if q.2 < p.2 then q.2 else p.2)≤q.2∧((if q.2 < p.2 then q.2 else p.2)=p.2∨(if q.2 < p.2 then q.2 else p.2)=q.2):=by split <;> omega
  generalize (if q.1 > p.1 then q.1 else p.1)=lo at *
  generalize (if q.2 < p.2 then q.2 else p.2)=hi at *
  have hpc:∀ x,memR x (if lo≤hi then [(lo,hi)] else [])↔(p.1≤x∧x≤p.2)∧(q.1≤x∧x≤q.2):=by
   intro x
   by_cases h:lo≤hi
   ·rw[if_pos h,memR_one];simp only;omega
   ·rw[if_neg h]
    simp only[memR_nil,false_iff]
    omega
  have hpl:∀ r∈(if lo≤hi then [(lo,hi)] else []),r.1≤r.2:=by
   intro r hr
   by_cases h:lo≤hi
   ·rw[if_pos h] at hr;simp at hr;subst hr;exact h
   ·rw[if_neg h] at hr;simp at hr
  by_cases c:p.2 < q.2
  ·rw[if_pos c]
   have ih:=meetR_law n a (q::b) p.2 lb a5 hb (by simp at hn ⊢;omega)
   refine⟨fun x=> ?_,fun r hr=> ?_⟩
   ·rw[memR_app,hpc,ih.1,memR_cons,memR_cons]
    have hfar:memR x b→q.2+1 < x:=validR_memlow b5
    constructor
    ·rintro (⟨h1,h2⟩ | ⟨h1,h2⟩)
     ·exact⟨.inl h1,.inl h2⟩
     ·exact⟨.inr h1,h2⟩
    ·rintro⟨h1 | h1,h2⟩
     ·rcases h2 with h2 | h2
      ·exact .inl ⟨h1,h2⟩
      ·have:=hfar h2;omega
     ·exact .inr ⟨h1,h2⟩
   ·rcases List.mem_append.1 hr with h | h
    ·exact hpl r h
    ·exact ih.2 r h
  ·rw[if_neg c]
   have ih:=meetR_law n (p::a) b la q.2 ha b5 (by simp at hn ⊢;omega)
   refine⟨fun x=> ?_,fun r hr=> ?_⟩
   ·rw[memR_app,hpc,ih.1,memR_cons,memR_cons]
    have hfar:memR x a→p.2+1 < x:=validR_memlow a5
    constructor
    ·rintro (⟨h1,h2⟩ | ⟨h1,h2⟩)
     ·exact⟨.inl h1,.inl h2⟩
     ·exact⟨h1,.inr h2⟩
    ·rintro⟨h1,h2 | h2⟩
     ·rcases h1 with h1 | h1
      ·exact .inl ⟨h1,h2⟩
      ·have:=hfar h1;omega
     ·exact .inr ⟨h1,h2⟩
   ·rcases List.mem_append.1 hr with h | h
    ·exact hpl r h
    ·exact ih.2 r h
theorem meetR_some {top:Int} {a b:List (Int×Int)} (ha:validR top (-2) a=true) (hb:validR top (-2) b=true):meetR (a.length+b.length) a b≠[]↔∃ x,memR x a∧memR x b:=by
 have h:=meetR_law (a.length+b.length) a b (-2) (-2) ha hb (Nat.le_refl _)
 constructor
 ·intro hne
  obtain⟨p,r,hpr⟩:=List.exists_cons_of_ne_nil hne
  have hp:p∈meetR (a.length+b.length) a b:=by rw[hpr];simp
  exact⟨p.1,(h.1 p.1).1 ⟨p,hp,Int.le_refl _,h.2 p hp⟩⟩
 ·rintro⟨x,hx⟩ he
  have:=(h.1 x).2 hx
  rw[he] at this
  exact memR_nil x this
theorem meetR_len:∀ (n:Nat) (a b:List (Int×Int)),(meetR n a b).length≤n
 |0,a,b=>by simp[meetR]
 |n+1,[],b=>by simp[meetR]
 |n+1,p::a,[]=>by simp[meetR]
 |n+1,p::a,q::b=>by
  rw[meetR,List.length_append]
  generalize (if q.1 > p.1 then q.1 else p.1)=lo
  generalize (if q.2 < p.2 then q.2 else p.2)=hi
  have h1:(if lo≤hi then [(lo,hi)] else []).length≤1:=by
   by_cases h:lo≤hi
   ·rw[if_pos h];simp
   ·rw[if_neg h];simp
  by_cases c:p.2 < q.2
  ·rw[if_pos c];have:=meetR_len n a (q::b);omega
  ·rw[if_neg c];have:=meetR_len n (p::a) b;omega
theorem scalars_meet_run (A B:PV) (a b:List (Int×Int)) (hA:IsL 2 A (prs a)) (hB:IsL 2 B (prs b)) (hva:validR topM (-2) a=true) (hvb:validR topM (-2) b=true) (hw:(a.length+b.length) * 16≤140737488355328):
 F_scalars_Meet [A,B]=some (.lit 2 (prs (meetR (a.length+b.length) a b))):=by
 have h1:=scalars_set_run A a hA (by omega) hva
 have h2:=scalars_set_run B b hB (by omega) hvb
 obtain⟨u,h3,h4⟩:=meet_run (.lit 2 (prs a)) (.lit 2 (prs b)) a b (.inr rfl) (.inr rfl) hw
 have h5:=to_span_run u _ h4 (by have:=meetR_len (a.length+b.length) a b;omega)
 rw[← to_range2_eq] at h5
 have h6:F_scalars_back [u]=some (.lit 2 (prs (meetR (a.length+b.length) a b))):=by
  simp (implicitDefEqProofs:=false) only[F_scalars_back,SP,SA,SQ,sevalprocAttr,-List.reduceReplicate,b_scalars_back,toPV_pv,deep_eq,h5]
 simp (implicitDefEqProofs:=false) only[F_scalars_Meet,SP,SA,SQ,sevalprocAttr,-List.reduceReplicate,b_scalars_Meet,toPV_pv,deep_eq,h1,h2,h3,h6]
theorem spans_set_lit (v:PV) (l:List (Int×Int)) (hv:IsL 2 v (prs l)) (hw:l.length * 16≤140737488355328) (hval:validR 255 (-2) l=true):F_spans_set [v]=some (.lit 2 (prs l)):=by
 have h1:=to_span_run v l hv hw
 have h2:=valid_run (.lit 2 (prs l)) l (.inr rfl) (by unfold maxLen;omega) 255 (by decide)
 rw[hval] at h2
 simp (implicitDefEqProofs:=false) only[F_spans_set,SP,SA,SQ,sevalprocAttr,-List.reduceReplicate,b_spans_set,toPV_pv,deep_eq,h1,h2]
theorem spans_meet_run (A B:PV) (a b:List (Int×Int)) (hA:IsL 2 A (prs a)) (hB:IsL 2 B (prs b)) (hva:validR 255 (-2) a=true) (hvb:validR 255 (-2) b=true) (hw:(a.length+b.length) * 16≤140737488355328):
 F_spans_Meet [A,B]=some (.lit 2 (prs (meetR (a.length+b.length) a b))):=by
 have h1:=spans_set_lit A a hA (by omega) hva
 have h2:=spans_set_lit B b hB (by omega) hvb
 obtain⟨u,h3,h4⟩:=meet_run (.lit 2 (prs a)) (.lit 2 (prs b)) a b (.inr rfl) (.inr rfl) hw
 have h5:=to_span_run u _ h4 (by have:=meetR_len (a.length+b.length) a b;omega)
 rw[← to_span2_eq] at h5
 have h6:F_spans_back [u]=some (.lit 2 (prs (meetR (a.length+b.length) a b))):=by
  simp (implicitDefEqProofs:=false) only[F_spans_back,SP,SA,SQ,sevalprocAttr,-List.reduceReplicate,b_spans_back,toPV_pv,deep_eq,h5]
 simp (implicitDefEqProofs:=false) only[F_spans_Meet,SP,SA,SQ,sevalprocAttr,-List.reduceReplicate,b_spans_Meet,toPV_pv,deep_eq,h1,h2,h3,h6]
theorem sizeR_acc (n:Int) (l:List (Int×Int)):sizeR n l=n+sizeR 0 l:=by
 induction l generalizing n with
 |nil=>simp[sizeR]
 |cons p l ih=>rw[sizeR,sizeR,ih,ih (0+(p.2 - p.1+1))];omega
theorem sizeR_bound {top:Int}:∀ {l:List (Int×Int)} {last:Int},validR top last l=true→0≤sizeR 0 l∧(l≠[]→1≤sizeR 0 l∧sizeR 0 l≤top - last - 1∧sizeR 0 l≤top+1)∧sizeR 0 l≤max 0 (top+1)
 | [],last,_=>⟨by simp[sizeR],fun h=>absurd rfl h,by simp[sizeR];omega⟩
 |p::l,last,h=>by
  obtain⟨h1,h2,h3,h4,h5⟩:=validR_cons h
  have ih:=sizeR_bound h5
  rw[sizeR,sizeR_acc]
  have key:l≠[]∨l=[]:=by cases l <;> simp
  rcases key with hl | hl
  ·have:=ih.2.1 hl
   exact⟨by omega,fun _=>⟨by omega,by omega,by omega⟩,by omega⟩
  ·subst hl
   simp only[sizeR]
   exact⟨by omega,fun _=>⟨by omega,by omega,by omega⟩,by omega⟩
theorem validR_len {top:Int}:∀ {l:List (Int×Int)} {last:Int},validR top last l=true→(l.length:Int)≤max 0 (top - last)
 | [],last,_=>by simp;omega
 |p::l,last,h=>by
  obtain⟨h1,h2,h3,h4,h5⟩:=validR_cons h
  have:=validR_len h5
  simp only[List.length_cons]
  omega
theorem spans_size_run (v:PV) (l:List (Int×Int)) (hv:IsL 2 v (prs l)) (hw:l.length * 16≤140737488355328) (hval:validR 255 (-2) l=true):F_spans_Size [v]=some (i64 (sizeR 0 l)):=by
 have h1:=spans_set_lit v l hv hw hval
 have h2:=size_run (.lit 2 (prs l)) l (.inr rfl) (by unfold maxLen;omega) (top:=255) (by decide) hval
 simp (implicitDefEqProofs:=false) only[F_spans_Size,SP,SA,SQ,sevalprocAttr,-List.reduceReplicate,b_spans_Size,toPV_pv,deep_eq,h1,h2]
end Go.AM.B1
