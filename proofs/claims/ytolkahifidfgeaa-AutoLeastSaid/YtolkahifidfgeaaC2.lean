/- The abstract code, continued; what slices.SortFunc computes. -/
import Derived.Test.YtolkahifidfgeaaC1
import Derived.Sort.AssemblyPlain
import Derived.Test.YtolkahifidfgeaaA3
set_option linter.unusedVariables false
namespace Go.AM.B1
open Go.AM
def b_slices_heapSortCmpFunc_sets_Run_l0:ACode:=(.seq (.seq (.region [Cv 20 11,Co 21 (.bin .geq (.t 20) (.c (.int .i64 0)))]) (.cond (.t 21) (.skip) (.exit 0))) (.seq (.block 1 (.region [Cv 24 0,Cv 25 11,Cv 26 10,Cv 27 8,Cv 28 3,Co 29 (.callI 9 [(.t 24),(.t 25),(.t 26),(.t 27),(.t 28)])])) (.region [Cv 22 11,Co 23 (.bin .sub (.t 22) (.c (.int .i64 1))),Cv 11 23])))
def b_slices_heapSortCmpFunc_sets_Run_l1:ACode:=(.seq (.seq (.region [Cv 32 12,Co 33 (.bin .geq (.t 32) (.c (.int .i64 0)))]) (.cond (.t 33) (.skip) (.exit 2))) (.seq (.block 3 (.seq (.region [Cv 36 0,Cv 37 8,Cv 38 0,Cv 39 8,Cv 40 12,Co 41 (.bin .add (.t 39) (.t 40)),Cv 42 0,Cv 43 8,Cv 44 12,Co 45 (.bin .add (.t 43) (.t 44)),Co 46 (.iaddr 2 (.t 42) (.t 45)),Co 47 (.load true 2 (.t 46)),Cv 48 0,Cv 49 8,Co 50 (.iaddr 2 (.t 48) (.t 49)),Co 51 (.load true 2 (.t 50)),Co 52 (.iaddr 2 (.t 36) (.t 37)),Ce (.store 2 (.t 52) (.t 47)),Co 53 (.iaddr 2 (.t 38) (.t 41)),Ce (.store 2 (.t 53) (.t 51))]) (.region [Cv 54 0,Cv 55 9,Cv 56 12,Cv 57 8,Cv 58 3,Co 59 (.callI 9 [(.t 54),(.t 55),(.t 56),(.t 57),(.t 58)])]))) (.region [Cv 34 12,Co 35 (.bin .sub (.t 34) (.c (.int .i64 1))),Cv 12 35])))
def b_slices_heapSortCmpFunc_sets_Run:AFn:=⟨4,[],(.seq (.region [Cv 13 1,Cv 8 13]) (.seq (.region [Co 9 (.move (.c (.int .i64 0)))]) (.seq (.region [Cv 14 2,Cv 15 1,Co 16 (.bin .sub (.t 14) (.t 15)),Cv 10 16]) (.seq (.seq (.region [Cv 17 10,Co 18 (.bin .sub (.t 17) (.c (.int .i64 1))),Co 19 (.bin .quo (.t 18) (.c (.int .i64 2))),Cv 11 19]) (.block 0 (.loop [0,3,8,9,10,11] b_slices_heapSortCmpFunc_sets_Run_l0))) (.seq (.region [Cv 30 10,Co 31 (.bin .sub (.t 30) (.c (.int .i64 1))),Cv 12 31]) (.block 2 (.loop [0,3,8,9,12] b_slices_heapSortCmpFunc_sets_Run_l1)))))))⟩
theorem fn_slices_heapSortCmpFunc_sets_Run:FnOk P fo 118 b_slices_heapSortCmpFunc_sets_Run:=fM Go.Proofs.Try.func118 dN (by kernel_rfl) (by kernel_rfl)
def b_slices_nextPowerOfTwo:AFn:=⟨1,[.tmp 2],(.seq (.region [Co 2 (.move (.c (.int .u64 0)))]) (.seq (.region [Cv 3 0,Co 4 (.conv .u64 (.t 3)),Co 5 (.callP F_math_bits_Len [(.t 4)]),Co 6 (.bin .shl (.c (.int .u64 1)) (.t 5)),Cv 2 6]) (.ret)))⟩
theorem fn_slices_nextPowerOfTwo:FnOk P fo 128 b_slices_nextPowerOfTwo:=fM Go.Proofs.Try.func128 (dC p_math_bits_Len dN) (by kernel_rfl) (by kernel_rfl)
def F_slices_nextPowerOfTwo:List PV→Option PV:=pureF (fun _=>none) b_slices_nextPowerOfTwo
theorem p_slices_nextPowerOfTwo:PureFn P 128 F_slices_nextPowerOfTwo:=pureF_ok noTable fn_slices_nextPowerOfTwo
def b_slices_xorshift_Next:AFn:=⟨1,[.tmp 2],(.seq (.region [Co 2 (.move (.c (.int .u64 0)))]) (.seq (.region [Cv 3 0,Co 4 (.nilck (.t 3)),Co 5 (.load false 1 (.t 4)),Cv 6 0,Co 7 (.nilck (.t 6)),Co 8 (.load false 1 (.t 7)),Co 9 (.bin .shl (.t 8) (.c (.int .u64 13))),Co 10 (.bin .xor (.t 5) (.t 9)),Co 11 (.nilck (.t 3)),Ce (.store 1 (.t 11) (.t 10))]) (.seq (.region [Cv 12 0,Co 13 (.nilck (.t 12)),Co 14 (.load false 1 (.t 13)),Cv 15 0,Co 16 (.nilck (.t 15)),Co 17 (.load false 1 (.t 16)),Co 18 (.bin .shr (.t 17) (.c (.int .u64 7))),Co 19 (.bin .xor (.t 14) (.t 18)),Co 20 (.nilck (.t 12)),Ce (.store 1 (.t 20) (.t 19))]) (.seq (.region [Cv 21 0,Co 22 (.nilck (.t 21)),Co 23 (.load false 1 (.t 22)),Cv 24 0,Co 25 (.nilck (.t 24)),Co 26 (.load false 1 (.t 25)),Co 27 (.bin .shl (.t 26) (.c (.int .u64 17))),Co 28 (.bin .xor (.t 23) (.t 27)),Co 29 (.nilck (.t 21)),Ce (.store 1 (.t 29) (.t 28))]) (.seq (.region [Cv 30 0,Co 31 (.nilck (.t 30)),Co 32 (.load false 1 (.t 31)),Cv 2 32]) (.ret))))))⟩
theorem fn_slices_xorshift_Next:FnOk P fo 129 b_slices_xorshift_Next:=fM Go.Proofs.Try.func129 dN (by kernel_rfl) (by kernel_rfl)
def b_slices_breakPatternsCmpFunc_sets_Run_l0:ACode:=(.seq (.seq (.region [Cv 28 11,Cv 29 1,Cv 30 8,Co 31 (.bin .quo (.t 30) (.c (.int .i64 4))),Co 32 (.bin .mul (.t 31) (.c (.int .i64 2))),Co 33 (.bin .add (.t 29) (.t 32)),Co 34 (.bin .add (.t 33) (.c (.int .i64 1))),Co 35 (.bin .leq (.t 28) (.t 34))]) (.cond (.t 35) (.skip) (.exit 0))) (.seq (.block 1 (.seq (.region [Co 38 (.callI 11 [(.t 9)]),Cv 39 10,Co 40 (.bin .sub (.t 39) (.c (.int .u64 1))),Co 41 (.bin .and (.t 38) (.t 40)),Co 42 (.conv .i64 (.t 41)),Cv 12 42]) (.seq (.seq (.region [Cv 43 12,Cv 44 8,Co 45 (.bin .geq (.t 43) (.t 44))]) (.cond (.t 45) (.region [Cv 46 12,Cv 47 8,Co 48 (.bin .sub (.t 46) (.t 47)),Cv 12 48]) (.skip))) (.region [Cv 49 0,Cv 50 11,Cv 51 0,Cv 52 1,Cv 53 12,Co 54 (.bin .add (.t 52) (.t 53)),Cv 55 0,Cv 56 1,Cv 57 12,Co 58 (.bin .add (.t 56) (.t 57)),Co 59 (.iaddr 2 (.t 55) (.t 58)),Co 60 (.load true 2 (.t 59)),Cv 61 0,Cv 62 11,Co 63 (.iaddr 2 (.t 61) (.t 62)),Co 64 (.load true 2 (.t 63)),Co 65 (.iaddr 2 (.t 49) (.t 50)),Ce (.store 2 (.t 65) (.t 60)),Co 66 (.iaddr 2 (.t 51) (.t 54)),Ce (.store 2 (.t 66) (.t 64))])))) (.region [Cv 36 11,Co 37 (.bin .add (.t 36) (.c (.int .i64 1))),Cv 11 37])))
def b_slices_breakPatternsCmpFunc_sets_Run:AFn:=⟨4,[],(.seq (.region [Cv 13 2,Cv 14 1,Co 15 (.bin .sub (.t 13) (.t 14)),Cv 8 15]) (.seq (.region [Cv 16 8,Co 17 (.bin .geq (.t 16) (.c (.int .i64 8)))]) (.cond (.t 17) (.seq (.region [Cv 18 8,Co 19 (.conv .u64 (.t 18)),Co 9 (.alloc [(.int .u64 0)]),Ce (.store 1 (.t 9) (.t 19))]) (.seq (.region [Cv 20 8,Co 21 (.callP F_slices_nextPowerOfTwo [(.t 20)]),Cv 10 21]) (.seq (.region [Cv 22 1,Cv 23 8,Co 24 (.bin .quo (.t 23) (.c (.int .i64 4))),Co 25 (.bin .mul (.t 24) (.c (.int .i64 2))),Co 26 (.bin .add (.t 22) (.t 25)),Co 27 (.bin .sub (.t 26) (.c (.int .i64 1))),Cv 11 27]) (.block 0 (.loop [0,1,8,9,10,11] b_slices_breakPatternsCmpFunc_sets_Run_l0))))) (.skip))))⟩
theorem fn_slices_breakPatternsCmpFunc_sets_Run:FnOk P fo 119 b_slices_breakPatternsCmpFunc_sets_Run:=fM Go.Proofs.Try.func119 (dC p_slices_nextPowerOfTwo dN) (by kernel_rfl) (by kernel_rfl)
def b_slices_order2CmpFunc_sets_Run:AFn:=⟨5,[.tmp 10,.tmp 11],(.seq (.region [Co 10 (.move (.c (.int .i64 0))),Co 11 (.move (.c (.int .i64 0)))]) (.seq (.seq (.region [Cv 12 4,Cv 13 0,Cv 14 2,Co 15 (.iaddr 2 (.t 13) (.t 14)),Co 16 (.load true 2 (.t 15)),Cv 17 0,Cv 18 1,Co 19 (.iaddr 2 (.t 17) (.t 18)),Co 20 (.load true 2 (.t 19)),Co 21 (.callV (.t 12) [(.t 16),(.t 20)]),Co 22 (.bin .lss (.t 21) (.c (.int .i64 0)))]) (.cond (.t 22) (.seq (.region [Cv 23 3,Co 24 (.nilck (.t 23)),Co 25 (.load false 1 (.t 24)),Co 26 (.bin .add (.t 25) (.c (.int .i64 1))),Co 27 (.nilck (.t 23)),Ce (.store 1 (.t 27) (.t 26))]) (.seq (.region [Cv 28 2,Cv 29 1,Cv 10 28,Cv 11 29]) (.ret))) (.skip))) (.seq (.region [Cv 30 1,Cv 31 2,Cv 10 30,Cv 11 31]) (.ret))))⟩
theorem fn_slices_order2CmpFunc_sets_Run:FnOk P fo 132 b_slices_order2CmpFunc_sets_Run:=fM Go.Proofs.Try.func132 dN (by kernel_rfl) (by kernel_rfl)
def b_slices_medianCmpFunc_sets_Run:AFn:=⟨6,[.tmp 12],(.seq (.region [Co 12 (.move (.c (.int .i64 0)))]) (.seq (.region [Cv 14 0,Cv 15 1,Cv 16 2,Cv 17 4,Cv 18 5,Co 19 (.callI 13 [(.t 14),(.t 15),(.t 16),(.t 17),(.t 18)]),Cv 13 19,Co 20 (.ext 0 (.t 13)),Co 21 (.ext 1 (.t 13)),Cv 1 20,Cv 2 21]) (.seq (.region [Cv 23 0,Cv 24 2,Cv 25 3,Cv 26 4,Cv 27 5,Co 28 (.callI 13 [(.t 23),(.t 24),(.t 25),(.t 26),(.t 27)]),Cv 22 28,Co 29 (.ext 0 (.t 22)),Co 30 (.ext 1 (.t 22)),Cv 2 29,Cv 3 30]) (.seq (.region [Cv 32 0,Cv 33 1,Cv 34 2,Cv 35 4,Cv 36 5,Co 37 (.callI 13 [(.t 32),(.t 33),(.t 34),(.t 35),(.t 36)]),Cv 31 37,Co 38 (.ext 0 (.t 31)),Co 39 (.ext 1 (.t 31)),Cv 1 38,Cv 2 39]) (.seq (.region [Cv 40 2,Cv 12 40]) (.ret))))))⟩
theorem fn_slices_medianCmpFunc_sets_Run:FnOk P fo 131 b_slices_medianCmpFunc_sets_Run:=fM Go.Proofs.Try.func131 dN (by kernel_rfl) (by kernel_rfl)
def b_slices_medianAdjacentCmpFunc_sets_Run:AFn:=⟨4,[.tmp 8],(.seq (.region [Co 8 (.move (.c (.int .i64 0)))]) (.seq (.region [Cv 9 0,Cv 10 1,Co 11 (.bin .sub (.t 10) (.c (.int .i64 1))),Cv 12 1,Cv 13 1,Co 14 (.bin .add (.t 13) (.c (.int .i64 1))),Cv 15 2,Cv 16 3,Co 17 (.callI 14 [(.t 9),(.t 11),(.t 12),(.t 14),(.t 15),(.t 16)]),Cv 8 17]) (.ret)))⟩
theorem fn_slices_medianAdjacentCmpFunc_sets_Run:FnOk P fo 130 b_slices_medianAdjacentCmpFunc_sets_Run:=fM Go.Proofs.Try.func130 dN (by kernel_rfl) (by kernel_rfl)
def b_slices_choosePivotCmpFunc_sets_Run:AFn:=⟨4,[.tmp 8,.tmp 9],(.seq (.region [Co 8 (.move (.c (.int .i64 0))),Co 9 (.move (.c (.int .i64 0)))]) (.seq (.region [Cv 15 2,Cv 16 1,Co 17 (.bin .sub (.t 15) (.t 16)),Cv 10 17]) (.seq (.region [Co 11 (.alloc [(.int .i64 0)])]) (.seq (.region [Cv 18 1,Cv 19 10,Co 20 (.bin .quo (.t 19) (.c (.int .i64 4))),Co 21 (.bin .mul (.t 20) (.c (.int .i64 1))),Co 22 (.bin .add (.t 18) (.t 21)),Cv 12 22]) (.seq (.region [Cv 23 1,Cv 24 10,Co 25 (.bin .quo (.t 24) (.c (.int .i64 4))),Co 26 (.bin .mul (.t 25) (.c (.int .i64 2))),Co 27 (.bin .add (.t 23) (.t 26)),Cv 13 27]) (.seq (.region [Cv 28 1,Cv 29 10,Co 30 (.bin .quo (.t 29) (.c (.int .i64 4))),Co 31 (.bin .mul (.t 30) (.c (.int .i64 3))),Co 32 (.bin .add (.t 28) (.t 31)),Cv 14 32]) (.seq (.seq (.region [Cv 33 10,Co 34 (.bin .geq (.t 33) (.c (.int .i64 8)))]) (.cond (.t 34) (.seq (.seq (.region [Cv 35 10,Co 36 (.bin .geq (.t 35) (.c (.int .i64 50)))]) (.cond (.t 36) (.seq (.region [Cv 37 0,Cv 38 12,Cv 39 3,Co 40 (.callI 15 [(.t 37),(.t 38),(.t 11),(.t 39)]),Cv 12 40]) (.seq (.region [Cv 41 0,Cv 42 13,Cv 43 3,Co 44 (.callI 15 [(.t 41),(.t 42),(.t 11),(.t 43)]),Cv 13 44]) (.region [Cv 45 0,Cv 46 14,Cv 47 3,Co 48 (.callI 15 [(.t 45),(.t 46),(.t 11),(.t 47)]),Cv 14 48]))) (.skip))) (.region [Cv 49 0,Cv 50 12,Cv 51 13,Cv 52 14,Cv 53 3,Co 54 (.callI 14 [(.t 49),(.t 50),(.t 51),(.t 52),(.t 11),(.t 53)]),Cv 13 54])) (.skip))) (.seq (.region [Co 55 (.load false 1 (.t 11))]) (.block 0 (.seq (.region [Co 58 (.bin .eql (.t 55) (.c (.int .i64 0))),Cv 57 58]) (.cond (.t 57) (.seq (.region [Cv 59 13,Cv 8 59,Co 9 (.move (.c (.int .i64 1)))]) (.ret)) (.seq (.region [Co 61 (.bin .eql (.t 55) (.c (.int .i64 12))),Cv 60 61]) (.cond (.t 60) (.seq (.region [Cv 62 13,Cv 8 62,Co 9 (.move (.c (.int .i64 2)))]) (.ret)) (.seq (.region [Cv 56 13,Cv 8 56,Co 9 (.move (.c (.int .i64 0)))]) (.ret)))))))))))))))⟩
theorem fn_slices_choosePivotCmpFunc_sets_Run:FnOk P fo 120 b_slices_choosePivotCmpFunc_sets_Run:=fM Go.Proofs.Try.func120 dN (by kernel_rfl) (by kernel_rfl)
def b_slices_reverseRangeCmpFunc_sets_Run_l0:ACode:=(.seq (.seq (.region [Cv 13 8,Cv 14 9,Co 15 (.bin .lss (.t 13) (.t 14))]) (.cond (.t 15) (.skip) (.exit 0))) (.block 1 (.seq (.region [Cv 16 0,Cv 17 8,Cv 18 0,Cv 19 9,Cv 20 0,Cv 21 9,Co 22 (.iaddr 2 (.t 20) (.t 21)),Co 23 (.load true 2 (.t 22)),Cv 24 0,Cv 25 8,Co 26 (.iaddr 2 (.t 24) (.t 25)),Co 27 (.load true 2 (.t 26)),Co 28 (.iaddr 2 (.t 16) (.t 17)),Ce (.store 2 (.t 28) (.t 23)),Co 29 (.iaddr 2 (.t 18) (.t 19)),Ce (.store 2 (.t 29) (.t 27))]) (.seq (.region [Cv 30 8,Co 31 (.bin .add (.t 30) (.c (.int .i64 1))),Cv 8 31]) (.region [Cv 32 9,Co 33 (.bin .sub (.t 32) (.c (.int .i64 1))),Cv 9 33])))))
def b_slices_reverseRangeCmpFunc_sets_Run:AFn:=⟨4,[],(.seq (.region [Cv 10 1,Cv 8 10]) (.seq (.region [Cv 11 2,Co 12 (.bin .sub (.t 11) (.c (.int .i64 1))),Cv 9 12]) (.block 0 (.loop [0,8,9] b_slices_reverseRangeCmpFunc_sets_Run_l0))))⟩
theorem fn_slices_reverseRangeCmpFunc_sets_Run:FnOk P fo 121 b_slices_reverseRangeCmpFunc_sets_Run:=fM Go.Proofs.Try.func121 dN (by kernel_rfl) (by kernel_rfl)
def b_slices_partialInsertionSortCmpFunc_sets_Run_l1:ACode:=(.seq (.seq (.region [Cv 19 9,Cv 20 2,Co 21 (.bin .lss (.t 19) (.t 20)),Cv 22 21,Cg 23 22 true (.move (.t 3)),Cg 24 22 true (.move (.t 0)),Cg 25 22 true (.move (.t 9)),Cg 26 22 true (.iaddr 2 (.t 24) (.t 25)),Cg 27 22 true (.load true 2 (.t 26)),Cg 28 22 true (.move (.t 0)),Cg 29 22 true (.move (.t 9)),Cg 30 22 true (.bin .sub (.t 29) (.c (.int .i64 1))),Cg 31 22 true (.iaddr 2 (.t 28) (.t 30)),Cg 32 22 true (.load true 2 (.t 31)),Cg 33 22 true (.callV (.t 23) [(.t 27),(.t 32)]),Cg 34 22 true (.bin .lss (.t 33) (.c (.int .i64 0))),Cg 35 22 true (.un .not (.t 34)),Co 36 (.pick (.t 22) (.t 35) (.c (.bool false)))]) (.cond (.t 36) (.skip) (.exit 2))) (.block 3 (.region [Cv 37 9,Co 38 (.bin .add (.t 37) (.c (.int .i64 1))),Cv 9 38])))
def b_slices_partialInsertionSortCmpFunc_sets_Run_l2:ACode:=(.seq (.seq (.region [Cv 68 11,Co 69 (.bin .geq (.t 68) (.c (.int .i64 1)))]) (.cond (.t 69) (.skip) (.exit 4))) (.seq (.block 5 (.seq (.seq (.region [Cv 72 3,Cv 73 0,Cv 74 11,Co 75 (.iaddr 2 (.t 73) (.t 74)),Co 76 (.load true 2 (.t 75)),Cv 77 0,Cv 78 11,Co 79 (.bin .sub (.t 78) (.c (.int .i64 1))),Co 80 (.iaddr 2 (.t 77) (.t 79)),Co 81 (.load true 2 (.t 80)),Co 82 (.callV (.t 72) [(.t 76),(.t 81)]),Co 83 (.bin .lss (.t 82) (.c (.int .i64 0))),Co 84 (.un .not (.t 83))]) (.cond (.t 84) (.exit 4) (.skip))) (.region [Cv 85 0,Cv 86 11,Cv 87 0,Cv 88 11,Co 89 (.bin .sub (.t 88) (.c (.int .i64 1))),Cv 90 0,Cv 91 11,Co 92 (.bin .sub (.t 91) (.c (.int .i64 1))),Co 93 (.iaddr 2 (.t 90) (.t 92)),Co 94 (.load true 2 (.t 93)),Cv 95 0,Cv 96 11,Co 97 (.iaddr 2 (.t 95) (.t 96)),Co 98 (.load true 2 (.t 97)),Co 99 (.iaddr 2 (.t 85) (.t 86)),Ce (.store 2 (.t 99) (.t 94)),Co 100 (.iaddr 2 (.t 87) (.t 89)),Ce (.store 2 (.t 100) (.t 98))]))) (.region [Cv 70 11,Co 71 (.bin .sub (.t 70) (.c (.int .i64 1))),Cv 11 71])))
def b_slices_partialInsertionSortCmpFunc_sets_Run_l3:ACode:=(.seq (.seq (.region [Cv 107 12,Cv 108 2,Co 109 (.bin .lss (.t 107) (.t 108))]) (.cond (.t 109) (.skip) (.exit 6))) (.seq (.block 7 (.seq (.seq (.region [Cv 112 3,Cv 113 0,Cv 114 12,Co 115 (.iaddr 2 (.t 113) (.t 114)),Co 116 (.load true 2 (.t 115)),Cv 117 0,Cv 118 12,Co 119 (.bin .sub (.t 118) (.c (.int .i64 1))),Co 120 (.iaddr 2 (.t 117) (.t 119)),Co 121 (.load true 2 (.t 120)),Co 122 (.callV (.t 112) [(.t 116),(.t 121)]),Co 123 (.bin .lss (.t 122) (.c (.int .i64 0))),Co 124 (.un .not (.t 123))]) (.cond (.t 124) (.exit 6) (.skip))) (.region [Cv 125 0,Cv 126 12,Cv 127 0,Cv 128 12,Co 129 (.bin .sub (.t 128) (.c (.int .i64 1))),Cv 130 0,Cv 131 12,Co 132 (.bin .sub (.t 131) (.c (.int .i64 1))),Co 133 (.iaddr 2 (.t 130) (.t 132)),Co 134 (.load true 2 (.t 133)),Cv 135 0,Cv 136 12,Co 137 (.iaddr 2 (.t 135) (.t 136)),Co 138 (.load true 2 (.t 137)),Co 139 (.iaddr 2 (.t 125) (.t 126)),Ce (.store 2 (.t 139) (.t 134)),Co 140 (.iaddr 2 (.t 127) (.t 129)),Ce (.store 2 (.t 140) (.t 138))]))) (.region [Cv 110 12,Co 111 (.bin .add (.t 110) (.c (.int .i64 1))),Cv 12 111])))
def b_slices_partialInsertionSortCmpFunc_sets_Run_l0:ACode:=(.seq (.seq (.region [Cv 15 10,Co 16 (.bin .lss (.t 15) (.c (.int .i64 5)))]) (.cond (.t 16) (.skip) (.exit 0))) (.seq (.block 1 (.seq (.block 2 (.loop [0,1,2,3,9,10] b_slices_partialInsertionSortCmpFunc_sets_Run_l1)) (.seq (.seq (.region [Cv 39 9,Cv 40 2,Co 41 (.bin .eql (.t 39) (.t 40))]) (.cond (.t 41) (.seq (.region [Co 8 (.move (.c (.bool true)))]) (.ret)) (.skip))) (.seq (.seq (.region [Cv 42 2,Cv 43 1,Co 44 (.bin .sub (.t 42) (.t 43)),Co 45 (.bin .lss (.t 44) (.c (.int .i64 50)))]) (.cond (.t 45) (.seq (.region [Co 8 (.move (.c (.bool false)))]) (.ret)) (.skip))) (.seq (.region [Cv 46 0,Cv 47 9,Cv 48 0,Cv 49 9,Co 50 (.bin .sub (.t 49) (.c (.int .i64 1))),Cv 51 0,Cv 52 9,Co 53 (.bin .sub (.t 52) (.c (.int .i64 1))),Co 54 (.iaddr 2 (.t 51) (.t 53)),Co 55 (.load true 2 (.t 54)),Cv 56 0,Cv 57 9,Co 58 (.iaddr 2 (.t 56) (.t 57)),Co 59 (.load true 2 (.t 58)),Co 60 (.iaddr 2 (.t 46) (.t 47)),Ce (.store 2 (.t 60) (.t 55)),Co 61 (.iaddr 2 (.t 48) (.t 50)),Ce (.store 2 (.t 61) (.t 59))]) (.seq (.seq (.region [Cv 62 9,Cv 63 1,Co 64 (.bin .sub (.t 62) (.t 63)),Co 65 (.bin .geq (.t 64) (.c (.int .i64 2)))]) (.cond (.t 65) (.seq (.region [Cv 66 9,Co 67 (.bin .sub (.t 66) (.c (.int .i64 1))),Cv 11 67]) (.block 4 (.loop [0,1,2,3,9,10,11] b_slices_partialInsertionSortCmpFunc_sets_Run_l2))) (.skip))) (.seq (.region [Cv 101 2,Cv 102 9,Co 103 (.bin .sub (.t 101) (.t 102)),Co 104 (.bin .geq (.t 103) (.c (.int .i64 2)))]) (.cond (.t 104) (.seq (.region [Cv 105 9,Co 106 (.bin .add (.t 105) (.c (.int .i64 1))),Cv 12 106]) (.block 6 (.loop [0,1,2,3,9,10,12] b_slices_partialInsertionSortCmpFunc_sets_Run_l3))) (.skip))))))))) (.region [Cv 17 10,Co 18 (.bin .add (.t 17) (.c (.int .i64 1))),Cv 10 18])))
def b_slices_partialInsertionSortCmpFunc_sets_Run:AFn:=⟨4,[.tmp 8],(.seq (.region [Co 8 (.move (.c (.bool false)))]) (.seq (.region [Cv 13 1,Co 14 (.bin .add (.t 13) (.c (.int .i64 1))),Cv 9 14]) (.seq (.seq (.region [Co 10 (.move (.c (.int .i64 0)))]) (.block 0 (.loop [0,1,2,3,9,10] b_slices_partialInsertionSortCmpFunc_sets_Run_l0))) (.seq (.region [Co 8 (.move (.c (.bool false)))]) (.ret)))))⟩
theorem fn_slices_partialInsertionSortCmpFunc_sets_Run:FnOk P fo 122 b_slices_partialInsertionSortCmpFunc_sets_Run:=fM Go.Proofs.Try.func122 dN (by kernel_rfl) (by kernel_rfl)
def b_slices_partitionEqualCmpFunc_sets_Run_l1:ACode:=(.seq (.seq (.region [Cv 31 11,Cv 32 12,Co 33 (.bin .leq (.t 31) (.t 32)),Cv 34 33,Cg 35 34 true (.move (.t 4)),Cg 36 34 true (.move (.t 0)),Cg 37 34 true (.move (.t 1)),Cg 38 34 true (.iaddr 2 (.t 36) (.t 37)),Cg 39 34 true (.load true 2 (.t 38)),Cg 40 34 true (.move (.t 0)),Cg 41 34 true (.move (.t 11)),Cg 42 34 true (.iaddr 2 (.t 40) (.t 41)),Cg 43 34 true (.load true 2 (.t 42)),Cg 44 34 true (.callV (.t 35) [(.t 39),(.t 43)]),Cg 45 34 true (.bin .lss (.t 44) (.c (.int .i64 0))),Cg 46 34 true (.un .not (.t 45)),Co 47 (.pick (.t 34) (.t 46) (.c (.bool false)))]) (.cond (.t 47) (.skip) (.exit 2))) (.block 3 (.region [Cv 48 11,Co 49 (.bin .add (.t 48) (.c (.int .i64 1))),Cv 11 49])))
def b_slices_partitionEqualCmpFunc_sets_Run_l2:ACode:=(.seq (.seq (.region [Cv 50 11,Cv 51 12,Co 52 (.bin .leq (.t 50) (.t 51)),Cv 53 52,Cg 54 53 true (.move (.t 4)),Cg 55 53 true (.move (.t 0)),Cg 56 53 true (.move (.t 1)),Cg 57 53 true (.iaddr 2 (.t 55) (.t 56)),Cg 58 53 true (.load true 2 (.t 57)),Cg 59 53 true (.move (.t 0)),Cg 60 53 true (.move (.t 12)),Cg 61 53 true (.iaddr 2 (.t 59) (.t 60)),Cg 62 53 true (.load true 2 (.t 61)),Cg 63 53 true (.callV (.t 54) [(.t 58),(.t 62)]),Cg 64 53 true (.bin .lss (.t 63) (.c (.int .i64 0))),Co 65 (.pick (.t 53) (.t 64) (.c (.bool false)))]) (.cond (.t 65) (.skip) (.exit 4))) (.block 5 (.region [Cv 66 12,Co 67 (.bin .sub (.t 66) (.c (.int .i64 1))),Cv 12 67])))
def b_slices_partitionEqualCmpFunc_sets_Run_l0:ACode:=(.block 1 (.seq (.block 2 (.loop [0,1,4,11,12] b_slices_partitionEqualCmpFunc_sets_Run_l1)) (.seq (.block 4 (.loop [0,1,4,11,12] b_slices_partitionEqualCmpFunc_sets_Run_l2)) (.seq (.seq (.region [Cv 68 11,Cv 69 12,Co 70 (.bin .gtr (.t 68) (.t 69))]) (.cond (.t 70) (.exit 0) (.skip))) (.seq (.region [Cv 71 0,Cv 72 11,Cv 73 0,Cv 74 12,Cv 75 0,Cv 76 12,Co 77 (.iaddr 2 (.t 75) (.t 76)),Co 78 (.load true 2 (.t 77)),Cv 79 0,Cv 80 11,Co 81 (.iaddr 2 (.t 79) (.t 80)),Co 82 (.load true 2 (.t 81)),Co 83 (.iaddr 2 (.t 71) (.t 72)),Ce (.store 2 (.t 83) (.t 78)),Co 84 (.iaddr 2 (.t 73) (.t 74)),Ce (.store 2 (.t 84) (.t 82))]) (.seq (.region [Cv 85 11,Co 86 (.bin .add (.t 85) (.c (.int .i64 1))),Cv 11 86]) (.region [Cv 87 12,Co 88 (.bin .sub (.t 87) (.c (.int .i64 1))),Cv 12 88])))))))
def b_slices_partitionEqualCmpFunc_sets_Run:AFn:=⟨5,[.tmp 10],(.seq (.region [Co 10 (.move (.c (.int .i64 0)))]) (.seq (.region [Cv 13 0,Cv 14 1,Cv 15 0,Cv 16 3,Cv 17 0,Cv 18 3,Co 19 (.iaddr 2 (.t 17) (.t 18)),Co 20 (.load true 2 (.t 19)),Cv 21 0,Cv 22 1,Co 23 (.iaddr 2 (.t 21) (.t 22)),Co 24 (.load true 2 (.t 23)),Co 25 (.iaddr 2 (.t 13) (.t 14)),Ce (.store 2 (.t 25) (.t 20)),Co 26 (.iaddr 2 (.t 15) (.t 16)),Ce (.store 2 (.t 26) (.t 24))]) (.seq (.region [Cv 27 1,Co 28 (.bin .add (.t 27) (.c (.int .i64 1))),Cv 29 2,Co 30 (.bin .sub (.t 29) (.c (.int .i64 1))),Cv 11 28,Cv 12 30]) (.seq (.block 0 (.loop [0,1,4,11,12] b_slices_partitionEqualCmpFunc_sets_Run_l0)) (.seq (.region [Cv 89 11,Cv 10 89]) (.ret))))))⟩
theorem fn_slices_partitionEqualCmpFunc_sets_Run:FnOk P fo 123 b_slices_partitionEqualCmpFunc_sets_Run:=fM Go.Proofs.Try.func123 dN (by kernel_rfl) (by kernel_rfl)
def b_slices_partitionCmpFunc_sets_Run_l0:ACode:=(.seq (.seq (.region [Cv 32 12,Cv 33 13,Co 34 (.bin .leq (.t 32) (.t 33)),Cv 35 34,Cg 36 35 true (.move (.t 4)),Cg 37 35 true (.move (.t 0)),Cg 38 35 true (.move (.t 12)),Cg 39 35 true (.iaddr 2 (.t 37) (.t 38)),Cg 40 35 true (.load true 2 (.t 39)),Cg 41 35 true (.move (.t 0)),Cg 42 35 true (.move (.t 1)),Cg 43 35 true (.iaddr 2 (.t 41) (.t 42)),Cg 44 35 true (.load true 2 (.t 43)),Cg 45 35 true (.callV (.t 36) [(.t 40),(.t 44)]),Cg 46 35 true (.bin .lss (.t 45) (.c (.int .i64 0))),Co 47 (.pick (.t 35) (.t 46) (.c (.bool false)))]) (.cond (.t 47) (.skip) (.exit 0))) (.block 1 (.region [Cv 48 12,Co 49 (.bin .add (.t 48) (.c (.int .i64 1))),Cv 12 49])))
def b_slices_partitionCmpFunc_sets_Run_l1:ACode:=(.seq (.seq (.region [Cv 50 12,Cv 51 13,Co 52 (.bin .leq (.t 50) (.t 51)),Cv 53 52,Cg 54 53 true (.move (.t 4)),Cg 55 53 true (.move (.t 0)),Cg 56 53 true (.move (.t 13)),Cg 57 53 true (.iaddr 2 (.t 55) (.t 56)),Cg 58 53 true (.load true 2 (.t 57)),Cg 59 53 true (.move (.t 0)),Cg 60 53 true (.move (.t 1)),Cg 61 53 true (.iaddr 2 (.t 59) (.t 60)),Cg 62 53 true (.load true 2 (.t 61)),Cg 63 53 true (.callV (.t 54) [(.t 58),(.t 62)]),Cg 64 53 true (.bin .lss (.t 63) (.c (.int .i64 0))),Cg 65 53 true (.un .not (.t 64)),Co 66 (.pick (.t 53) (.t 65) (.c (.bool false)))]) (.cond (.t 66) (.skip) (.exit 2))) (.block 3 (.region [Cv 67 13,Co 68 (.bin .sub (.t 67) (.c (.int .i64 1))),Cv 13 68])))
def b_slices_partitionCmpFunc_sets_Run_l3:ACode:=(.seq (.seq (.region [Cv 105 12,Cv 106 13,Co 107 (.bin .leq (.t 105) (.t 106)),Cv 108 107,Cg 109 108 true (.move (.t 4)),Cg 110 108 true (.move (.t 0)),Cg 111 108 true (.move (.t 12)),Cg 112 108 true (.iaddr 2 (.t 110) (.t 111)),Cg 113 108 true (.load true 2 (.t 112)),Cg 114 108 true (.move (.t 0)),Cg 115 108 true (.move (.t 1)),Cg 116 108 true (.iaddr 2 (.t 114) (.t 115)),Cg 117 108 true (.load true 2 (.t 116)),Cg 118 108 true (.callV (.t 109) [(.t 113),(.t 117)]),Cg 119 108 true (.bin .lss (.t 118) (.c (.int .i64 0))),Co 120 (.pick (.t 108) (.t 119) (.c (.bool false)))]) (.cond (.t 120) (.skip) (.exit 6))) (.block 7 (.region [Cv 121 12,Co 122 (.bin .add (.t 121) (.c (.int .i64 1))),Cv 12 122])))
def b_slices_partitionCmpFunc_sets_Run_l4:ACode:=(.seq (.seq (.region [Cv 123 12,Cv 124 13,Co 125 (.bin .leq (.t 123) (.t 124)),Cv 126 125,Cg 127 126 true (.move (.t 4)),Cg 128 126 true (.move (.t 0)),Cg 129 126 true (.move (.t 13)),Cg 130 126 true (.iaddr 2 (.t 128) (.t 129)),Cg 131 126 true (.load true 2 (.t 130)),Cg 132 126 true (.move (.t 0)),Cg 133 126 true (.move (.t 1)),Cg 134 126 true (.iaddr 2 (.t 132) (.t 133)),Cg 135 126 true (.load true 2 (.t 134)),Cg 136 126 true (.callV (.t 127) [(.t 131),(.t 135)]),Cg 137 126 true (.bin .lss (.t 136) (.c (.int .i64 0))),Cg 138 126 true (.un .not (.t 137)),Co 139 (.pick (.t 126) (.t 138) (.c (.bool false)))]) (.cond (.t 139) (.skip) (.exit 8))) (.block 9 (.region [Cv 140 13,Co 141 (.bin .sub (.t 140) (.c (.int .i64 1))),Cv 13 141])))
def b_slices_partitionCmpFunc_sets_Run_l2:ACode:=(.block 5 (.seq (.block 6 (.loop [0,1,4,12,13] b_slices_partitionCmpFunc_sets_Run_l3)) (.seq (.block 8 (.loop [0,1,4,12,13] b_slices_partitionCmpFunc_sets_Run_l4)) (.seq (.seq (.region [Cv 142 12,Cv 143 13,Co 144 (.bin .gtr (.t 142) (.t 143))]) (.cond (.t 144) (.exit 4) (.skip))) (.seq (.region [Cv 145 0,Cv 146 12,Cv 147 0,Cv 148 13,Cv 149 0,Cv 150 13,Co 151 (.iaddr 2 (.t 149) (.t 150)),Co 152 (.load true 2 (.t 151)),Cv 153 0,Cv 154 12,Co 155 (.iaddr 2 (.t 153) (.t 154)),Co 156 (.load true 2 (.t 155)),Co 157 (.iaddr 2 (.t 145) (.t 146)),Ce (.store 2 (.t 157) (.t 152)),Co 158 (.iaddr 2 (.t 147) (.t 148)),Ce (.store 2 (.t 158) (.t 156))]) (.seq (.region [Cv 159 12,Co 160 (.bin .add (.t 159) (.c (.int .i64 1))),Cv 12 160]) (.region [Cv 161 13,Co 162 (.bin .sub (.t 161) (.c (.int .i64 1))),Cv 13 162])))))))
def b_slices_partitionCmpFunc_sets_Run:AFn:=⟨5,[.tmp 10,.tmp 11],(.seq (.region [Co 10 (.move (.c (.int .i64 0))),Co 11 (.move (.c (.bool false)))]) (.seq (.region [Cv 14 0,Cv 15 1,Cv 16 0,Cv 17 3,Cv 18 0,Cv 19 3,Co 20 (.iaddr 2 (.t 18) (.t 19)),Co 21 (.load true 2 (.t 20)),Cv 22 0,Cv 23 1,Co 24 (.iaddr 2 (.t 22) (.t 23)),Co 25 (.load true 2 (.t 24)),Co 26 (.iaddr 2 (.t 14) (.t 15)),Ce (.store 2 (.t 26) (.t 21)),Co 27 (.iaddr 2 (.t 16) (.t 17)),Ce (.store 2 (.t 27) (.t 25))]) (.seq (.region [Cv 28 1,Co 29 (.bin .add (.t 28) (.c (.int .i64 1))),Cv 30 2,Co 31 (.bin .sub (.t 30) (.c (.int .i64 1))),Cv 12 29,Cv 13 31]) (.seq (.block 0 (.loop [0,1,4,12,13] b_slices_partitionCmpFunc_sets_Run_l0)) (.seq (.block 2 (.loop [0,1,4,12,13] b_slices_partitionCmpFunc_sets_Run_l1)) (.seq (.seq (.region [Cv 69 12,Cv 70 13,Co 71 (.bin .gtr (.t 69) (.t 70))]) (.cond (.t 71) (.seq (.region [Cv 72 0,Cv 73 13,Cv 74 0,Cv 75 1,Cv 76 0,Cv 77 1,Co 78 (.iaddr 2 (.t 76) (.t 77)),Co 79 (.load true 2 (.t 78)),Cv 80 0,Cv 81 13,Co 82 (.iaddr 2 (.t 80) (.t 81)),Co 83 (.load true 2 (.t 82)),Co 84 (.iaddr 2 (.t 72) (.t 73)),Ce (.store 2 (.t 84) (.t 79)),Co 85 (.iaddr 2 (.t 74) (.t 75)),Ce (.store 2 (.t 85) (.t 83))]) (.seq (.region [Cv 86 13,Cv 10 86,Co 11 (.move (.c (.bool true)))]) (.ret))) (.skip))) (.seq (.region [Cv 87 0,Cv 88 12,Cv 89 0,Cv 90 13,Cv 91 0,Cv 92 13,Co 93 (.iaddr 2 (.t 91) (.t 92)),Co 94 (.load true 2 (.t 93)),Cv 95 0,Cv 96 12,Co 97 (.iaddr 2 (.t 95) (.t 96)),Co 98 (.load true 2 (.t 97)),Co 99 (.iaddr 2 (.t 87) (.t 88)),Ce (.store 2 (.t 99) (.t 94)),Co 100 (.iaddr 2 (.t 89) (.t 90)),Ce (.store 2 (.t 100) (.t 98))]) (.seq (.region [Cv 101 12,Co 102 (.bin .add (.t 101) (.c (.int .i64 1))),Cv 12 102]) (.seq (.region [Cv 103 13,Co 104 (.bin .sub (.t 103) (.c (.int .i64 1))),Cv 13 104]) (.seq (.block 4 (.loop [0,1,4,12,13] b_slices_partitionCmpFunc_sets_Run_l2)) (.seq (.region [Cv 163 0,Cv 164 13,Cv 165 0,Cv 166 1,Cv 167 0,Cv 168 1,Co 169 (.iaddr 2 (.t 167) (.t 168)),Co 170 (.load true 2 (.t 169)),Cv 171 0,Cv 172 13,Co 173 (.iaddr 2 (.t 171) (.t 172)),Co 174 (.load true 2 (.t 173)),Co 175 (.iaddr 2 (.t 163) (.t 164)),Ce (.store 2 (.t 175) (.t 170)),Co 176 (.iaddr 2 (.t 165) (.t 166)),Ce (.store 2 (.t 176) (.t 174))]) (.seq (.region [Cv 177 13,Cv 10 177,Co 11 (.move (.c (.bool false)))]) (.ret)))))))))))))⟩
theorem fn_slices_partitionCmpFunc_sets_Run:FnOk P fo 124 b_slices_partitionCmpFunc_sets_Run:=fM Go.Proofs.Try.func124 dN (by kernel_rfl) (by kernel_rfl)
def b_slices_pdqsortCmpFunc_sets_Run_l0:ACode:=(.block 1 (.seq (.region [Cv 21 2,Cv 22 1,Co 23 (.bin .sub (.t 21) (.t 22)),Cv 12 23]) (.seq (.seq (.region [Cv 24 12,Co 25 (.bin .leq (.t 24) (.c (.int .i64 12)))]) (.cond (.t 25) (.seq (.region [Cv 26 0,Cv 27 1,Cv 28 2,Cv 29 4,Co 30 (.callI 8 [(.t 26),(.t 27),(.t 28),(.t 29)])]) (.ret)) (.skip))) (.seq (.seq (.region [Cv 31 3,Co 32 (.bin .eql (.t 31) (.c (.int .i64 0)))]) (.cond (.t 32) (.seq (.region [Cv 33 0,Cv 34 1,Cv 35 2,Cv 36 4,Co 37 (.callI 10 [(.t 33),(.t 34),(.t 35),(.t 36)])]) (.ret)) (.skip))) (.seq (.seq (.region [Cv 38 10,Co 39 (.un .not (.t 38))]) (.cond (.t 39) (.seq (.region [Cv 40 0,Cv 41 1,Cv 42 2,Cv 43 4,Co 44 (.callI 12 [(.t 40),(.t 41),(.t 42),(.t 43)])]) (.region [Cv 45 3,Co 46 (.bin .sub (.t 45) (.c (.int .i64 1))),Cv 3 46])) (.skip))) (.seq (.region [Cv 48 0,Cv 49 1,Cv 50 2,Cv 51 4,Co 52 (.callI 16 [(.t 48),(.t 49),(.t 50),(.t 51)]),Cv 47 52,Co 53 (.ext 0 (.t 47)),Co 54 (.ext 1 (.t 47)),Cv 13 53,Cv 14 54]) (.seq (.seq (.region [Cv 55 14,Co 56 (.bin .eql (.t 55) (.c (.int .i64 2)))]) (.cond (.t 56) (.seq (.region [Cv 57 0,Cv 58 1,Cv 59 2,Cv 60 4,Co 61 (.callI 17 [(.t 57),(.t 58),(.t 59),(.t 60)])]) (.seq (.region [Cv 62 2,Co 63 (.bin .sub (.t 62) (.c (.int .i64 1))),Cv 64 13,Cv 65 1,Co 66 (.bin .sub (.t 64) (.t 65)),Co 67 (.bin .sub (.t 63) (.t 66)),Cv 13 67]) (.region [Co 14 (.move (.c (.int .i64 1)))]))) (.skip))) (.seq (.seq (.region [Cv 68 10,Cv 69 68,Cg 70 69 true (.move (.t 11)),Co 71 (.pick (.t 69) (.t 70) (.c (.bool false))),Cv 72 71,Cg 73 72 true (.move (.t 14)),Cg 74 72 true (.bin .eql (.t 73) (.c (.int .i64 1))),Co 75 (.pick (.t 72) (.t 74) (.c (.bool false)))]) (.cond (.t 75) (.seq (.region [Cv 76 0,Cv 77 1,Cv 78 2,Cv 79 4,Co 80 (.callI 18 [(.t 76),(.t 77),(.t 78),(.t 79)])]) (.cond (.t 80) (.ret) (.skip))) (.skip))) (.seq (.seq (.region [Cv 81 1,Co 82 (.bin .gtr (.t 81) (.c (.int .i64 0))),Cv 83 82,Cg 84 83 true (.move (.t 4)),Cg 85 83 true (.move (.t 0)),Cg 86 83 true (.move (.t 1)),Cg 87 83 true (.bin .sub (.t 86) (.c (.int .i64 1))),Cg 88 83 true (.iaddr 2 (.t 85) (.t 87)),Cg 89 83 true (.load true 2 (.t 88)),Cg 90 83 true (.move (.t 0)),Cg 91 83 true (.move (.t 13)),Cg 92 83 true (.iaddr 2 (.t 90) (.t 91)),Cg 93 83 true (.load true 2 (.t 92)),Cg 94 83 true (.callV (.t 84) [(.t 89),(.t 93)]),Cg 95 83 true (.bin .lss (.t 94) (.c (.int .i64 0))),Cg 96 83 true (.un .not (.t 95)),Co 97 (.pick (.t 83) (.t 96) (.c (.bool false)))]) (.cond (.t 97) (.seq (.region [Cv 98 0,Cv 99 1,Cv 100 2,Cv 101 13,Cv 102 4,Co 103 (.callI 19 [(.t 98),(.t 99),(.t 100),(.t 101),(.t 102)]),Cv 15 103]) (.seq (.region [Cv 104 15,Cv 1 104]) (.exit 1))) (.skip))) (.seq (.region [Cv 106 0,Cv 107 1,Cv 108 2,Cv 109 13,Cv 110 4,Co 111 (.callI 20 [(.t 106),(.t 107),(.t 108),(.t 109),(.t 110)]),Cv 105 111,Co 112 (.ext 0 (.t 105)),Co 113 (.ext 1 (.t 105)),Cv 16 112,Cv 17 113]) (.seq (.region [Cv 114 17,Cv 11 114]) (.seq (.region [Cv 115 16,Cv 116 1,Co 117 (.bin .sub (.t 115) (.t 116)),Cv 118 2,Cv 119 16,Co 120 (.bin .sub (.t 118) (.t 119)),Cv 18 117,Cv 19 120]) (.seq (.region [Cv 121 12,Co 122 (.bin .quo (.t 121) (.c (.int .i64 8))),Cv 20 122]) (.seq (.region [Cv 123 18,Cv 124 19,Co 125 (.bin .lss (.t 123) (.t 124))]) (.cond (.t 125) (.seq (.region [Cv 126 18,Cv 127 20,Co 128 (.bin .geq (.t 126) (.t 127)),Cv 10 128]) (.seq (.region [Cv 129 0,Cv 130 1,Cv 131 16,Cv 132 3,Cv 133 4,Co 134 (.callI 21 [(.t 129),(.t 130),(.t 131),(.t 132),(.t 133)])]) (.region [Cv 135 16,Co 136 (.bin .add (.t 135) (.c (.int .i64 1))),Cv 1 136]))) (.seq (.region [Cv 137 19,Cv 138 20,Co 139 (.bin .geq (.t 137) (.t 138)),Cv 10 139]) (.seq (.region [Cv 140 0,Cv 141 16,Co 142 (.bin .add (.t 141) (.c (.int .i64 1))),Cv 143 2,Cv 144 3,Cv 145 4,Co 146 (.callI 21 [(.t 140),(.t 142),(.t 143),(.t 144),(.t 145)])]) (.region [Cv 147 16,Cv 2 147]))))))))))))))))))
def b_slices_pdqsortCmpFunc_sets_Run:AFn:=⟨5,[],(.seq (.region [Co 10 (.move (.c (.bool true)))]) (.seq (.region [Co 11 (.move (.c (.bool true)))]) (.block 0 (.loop [0,1,2,3,4,10,11] b_slices_pdqsortCmpFunc_sets_Run_l0))))⟩
theorem fn_slices_pdqsortCmpFunc_sets_Run:FnOk P fo 113 b_slices_pdqsortCmpFunc_sets_Run:=fM Go.Proofs.Try.func113 dN (by kernel_rfl) (by kernel_rfl)
def b_slices_SortFunc_sets_Run_sets_Run:AFn:=⟨2,[],(.seq (.region [Cv 5 0,Co 6 (.len 0 (.t 5)),Cv 4 6]) (.region [Cv 7 0,Cv 8 4,Cv 9 4,Co 10 (.conv .u64 (.t 9)),Co 11 (.callP F_math_bits_Len [(.t 10)]),Cv 12 1,Co 13 (.callI 21 [(.t 7),(.c (.int .i64 0)),(.t 8),(.t 11),(.t 12)])]))⟩
theorem fn_slices_SortFunc_sets_Run_sets_Run:FnOk P fo 107 b_slices_SortFunc_sets_Run_sets_Run:=fM Go.Proofs.Try.func107 (dC p_math_bits_Len dN) (by kernel_rfl) (by kernel_rfl)
def b_cmp_isNaN_int:AFn:=⟨1,[.tmp 2],(.seq (.region [Co 2 (.move (.c (.bool false)))]) (.seq (.region [Cv 3 0,Cv 4 0,Co 5 (.bin .neq (.t 3) (.t 4)),Cv 2 5]) (.ret)))⟩
theorem fn_cmp_isNaN_int:FnOk P fo 115 b_cmp_isNaN_int:=fM Go.Proofs.Try.func115 dN (by kernel_rfl) (by kernel_rfl)
def F_cmp_isNaN_int:List PV→Option PV:=pureF (fun _=>none) b_cmp_isNaN_int
theorem p_cmp_isNaN_int:PureFn P 115 F_cmp_isNaN_int:=pureF_ok noTable fn_cmp_isNaN_int
end Go.AM.B1
namespace Go.AM.B1
open Go.AM
def bg_insertionSort_l1 (sz k:Nat):ACode:=(.seq (.seq (.region [Cv 18 9,Cv 19 1,Co 20 (.bin .gtr (.t 18) (.t 19)),Cv 21 20,Cg 22 21 true (.move (.t 3)),Cg 23 21 true (.move (.t 0)),Cg 24 21 true (.move (.t 9)),Cg 25 21 true (.iaddr sz (.t 23) (.t 24)),Cg 26 21 true (.load true sz (.t 25)),Cg 27 21 true (.move (.t 0)),Cg 28 21 true (.move (.t 9)),Cg 29 21 true (.bin .sub (.t 28) (.c (.int .i64 1))),Cg 30 21 true (.iaddr sz (.t 27) (.t 29)),Cg 31 21 true (.load true sz (.t 30)),Cg 32 21 true (.callV (.t 22) [(.t 26),(.t 31)]),Cg 33 21 true (.bin .lss (.t 32) (.c (.int .i64 0))),Co 34 (.pick (.t 21) (.t 33) (.c (.bool false)))]) (.cond (.t 34) (.skip) (.exit 2))) (.seq (.block 3 (.region [Cv 37 0,Cv 38 9,Cv 39 0,Cv 40 9,Co 41 (.bin .sub (.t 40) (.c (.int .i64 1))),Cv 42 0,Cv 43 9,Co 44 (.bin .sub (.t 43) (.c (.int .i64 1))),Co 45 (.iaddr sz (.t 42) (.t 44)),Co 46 (.load true sz (.t 45)),Cv 47 0,Cv 48 9,Co 49 (.iaddr sz (.t 47) (.t 48)),Co 50 (.load true sz (.t 49)),Co 51 (.iaddr sz (.t 37) (.t 38)),Ce (.store sz (.t 51) (.t 46)),Co 52 (.iaddr sz (.t 39) (.t 41)),Ce (.store sz (.t 52) (.t 50))])) (.region [Cv 35 9,Co 36 (.bin .sub (.t 35) (.c (.int .i64 1))),Cv 9 36])))
def bg_insertionSort_l0 (sz k:Nat):ACode:=(.seq (.seq (.region [Cv 12 8,Cv 13 2,Co 14 (.bin .lss (.t 12) (.t 13))]) (.cond (.t 14) (.skip) (.exit 0))) (.seq (.block 1 (.seq (.region [Cv 17 8,Cv 9 17]) (.block 2 (.loop [0,1,2,3,8,9] (bg_insertionSort_l1 sz k))))) (.region [Cv 15 8,Co 16 (.bin .add (.t 15) (.c (.int .i64 1))),Cv 8 16])))
def bg_insertionSort (sz k:Nat):AFn:=⟨4,[],(.seq (.region [Cv 10 1,Co 11 (.bin .add (.t 10) (.c (.int .i64 1))),Cv 8 11]) (.block 0 (.loop [0,1,2,3,8] (bg_insertionSort_l0 sz k))))⟩
def bg_siftDown_l0 (sz k:Nat):ACode:=(.block 1 (.seq (.region [Cv 13 10,Co 14 (.bin .mul (.c (.int .i64 2)) (.t 13)),Co 15 (.bin .add (.t 14) (.c (.int .i64 1))),Cv 11 15]) (.seq (.seq (.region [Cv 16 11,Cv 17 2,Co 18 (.bin .geq (.t 16) (.t 17))]) (.cond (.t 18) (.exit 0) (.skip))) (.seq (.seq (.region [Cv 19 11,Co 20 (.bin .add (.t 19) (.c (.int .i64 1))),Cv 21 2,Co 22 (.bin .lss (.t 20) (.t 21)),Cv 23 22,Cg 24 23 true (.move (.t 4)),Cg 25 23 true (.move (.t 0)),Cg 26 23 true (.move (.t 3)),Cg 27 23 true (.move (.t 11)),Cg 28 23 true (.bin .add (.t 26) (.t 27)),Cg 29 23 true (.iaddr sz (.t 25) (.t 28)),Cg 30 23 true (.load true sz (.t 29)),Cg 31 23 true (.move (.t 0)),Cg 32 23 true (.move (.t 3)),Cg 33 23 true (.move (.t 11)),Cg 34 23 true (.bin .add (.t 32) (.t 33)),Cg 35 23 true (.bin .add (.t 34) (.c (.int .i64 1))),Cg 36 23 true (.iaddr sz (.t 31) (.t 35)),Cg 37 23 true (.load true sz (.t 36)),Cg 38 23 true (.callV (.t 24) [(.t 30),(.t 37)]),Cg 39 23 true (.bin .lss (.t 38) (.c (.int .i64 0))),Co 40 (.pick (.t 23) (.t 39) (.c (.bool false)))]) (.cond (.t 40) (.region [Cv 41 11,Co 42 (.bin .add (.t 41) (.c (.int .i64 1))),Cv 11 42]) (.skip))) (.seq (.seq (.region [Cv 43 4,Cv 44 0,Cv 45 3,Cv 46 10,Co 47 (.bin .add (.t 45) (.t 46)),Co 48 (.iaddr sz (.t 44) (.t 47)),Co 49 (.load true sz (.t 48)),Cv 50 0,Cv 51 3,Cv 52 11,Co 53 (.bin .add (.t 51) (.t 52)),Co 54 (.iaddr sz (.t 50) (.t 53)),Co 55 (.load true sz (.t 54)),Co 56 (.callV (.t 43) [(.t 49),(.t 55)]),Co 57 (.bin .lss (.t 56) (.c (.int .i64 0))),Co 58 (.un .not (.t 57))]) (.cond (.t 58) (.ret) (.skip))) (.seq (.region [Cv 59 0,Cv 60 3,Cv 61 10,Co 62 (.bin .add (.t 60) (.t 61)),Cv 63 0,Cv 64 3,Cv 65 11,Co 66 (.bin .add (.t 64) (.t 65)),Cv 67 0,Cv 68 3,Cv 69 11,Co 70 (.bin .add (.t 68) (.t 69)),Co 71 (.iaddr sz (.t 67) (.t 70)),Co 72 (.load true sz (.t 71)),Cv 73 0,Cv 74 3,Cv 75 10,Co 76 (.bin .add (.t 74) (.t 75)),Co 77 (.iaddr sz (.t 73) (.t 76)),Co 78 (.load true sz (.t 77)),Co 79 (.iaddr sz (.t 59) (.t 62)),Ce (.store sz (.t 79) (.t 72)),Co 80 (.iaddr sz (.t 63) (.t 66)),Ce (.store sz (.t 80) (.t 78))]) (.region [Cv 81 11,Cv 10 81])))))))
def bg_siftDown (sz k:Nat):AFn:=⟨5,[],(.seq (.region [Cv 12 1,Cv 10 12]) (.block 0 (.loop [0,2,3,4,10] (bg_siftDown_l0 sz k))))⟩
def bg_heapSort_l0 (sz k:Nat):ACode:=(.seq (.seq (.region [Cv 20 11,Co 21 (.bin .geq (.t 20) (.c (.int .i64 0)))]) (.cond (.t 21) (.skip) (.exit 0))) (.seq (.block 1 (.region [Cv 24 0,Cv 25 11,Cv 26 10,Cv 27 8,Cv 28 3,Co 29 (.callI (k+1) [(.t 24),(.t 25),(.t 26),(.t 27),(.t 28)])])) (.region [Cv 22 11,Co 23 (.bin .sub (.t 22) (.c (.int .i64 1))),Cv 11 23])))
def bg_heapSort_l1 (sz k:Nat):ACode:=(.seq (.seq (.region [Cv 32 12,Co 33 (.bin .geq (.t 32) (.c (.int .i64 0)))]) (.cond (.t 33) (.skip) (.exit 2))) (.seq (.block 3 (.seq (.region [Cv 36 0,Cv 37 8,Cv 38 0,Cv 39 8,Cv 40 12,Co 41 (.bin .add (.t 39) (.t 40)),Cv 42 0,Cv 43 8,Cv 44 12,Co 45 (.bin .add (.t 43) (.t 44)),Co 46 (.iaddr sz (.t 42) (.t 45)),Co 47 (.load true sz (.t 46)),Cv 48 0,Cv 49 8,Co 50 (.iaddr sz (.t 48) (.t 49)),Co 51 (.load true sz (.t 50)),Co 52 (.iaddr sz (.t 36) (.t 37)),Ce (.store sz (.t 52) (.t 47)),Co 53 (.iaddr sz (.t 38) (.t 41)),Ce (.store sz (.t 53) (.t 51))]) (.region [Cv 54 0,Cv 55 9,Cv 56 12,Cv 57 8,Cv 58 3,Co 59 (.callI (k+1) [(.t 54),(.t 55),(.t 56),(.t 57),(.t 58)])]))) (.region [Cv 34 12,Co 35 (.bin .sub (.t 34) (.c (.int .i64 1))),Cv 12 35])))
def bg_heapSort (sz k:Nat):AFn:=⟨4,[],(.seq (.region [Cv 13 1,Cv 8 13]) (.seq (.region [Co 9 (.move (.c (.int .i64 0)))]) (.seq (.region [Cv 14 2,Cv 15 1,Co 16 (.bin .sub (.t 14) (.t 15)),Cv 10 16]) (.seq (.seq (.region [Cv 17 10,Co 18 (.bin .sub (.t 17) (.c (.int .i64 1))),Co 19 (.bin .quo (.t 18) (.c (.int .i64 2))),Cv 11 19]) (.block 0 (.loop [0,3,8,9,10,11] (bg_heapSort_l0 sz k)))) (.seq (.region [Cv 30 10,Co 31 (.bin .sub (.t 30) (.c (.int .i64 1))),Cv 12 31]) (.block 2 (.loop [0,3,8,9,12] (bg_heapSort_l1 sz k))))))))⟩
def bg_xorshift_Next (sz k:Nat):AFn:=⟨1,[.tmp 2],(.seq (.region [Co 2 (.move (.c (.int .u64 0)))]) (.seq (.region [Cv 3 0,Co 4 (.nilck (.t 3)),Co 5 (.load false 1 (.t 4)),Cv 6 0,Co 7 (.nilck (.t 6)),Co 8 (.load false 1 (.t 7)),Co 9 (.bin .shl (.t 8) (.c (.int .u64 13))),Co 10 (.bin .xor (.t 5) (.t 9)),Co 11 (.nilck (.t 3)),Ce (.store 1 (.t 11) (.t 10))]) (.seq (.region [Cv 12 0,Co 13 (.nilck (.t 12)),Co 14 (.load false 1 (.t 13)),Cv 15 0,Co 16 (.nilck (.t 15)),Co 17 (.load false 1 (.t 16)),Co 18 (.bin .shr (.t 17) (.c (.int .u64 7))),Co 19 (.bin .xor (.t 14) (.t 18)),Co 20 (.nilck (.t 12)),Ce (.store 1 (.t 20) (.t 19))]) (.seq (.region [Cv 21 0,Co 22 (.nilck (.t 21)),Co 23 (.load false 1 (.t 22)),Cv 24 0,Co 25 (.nilck (.t 24)),Co 26 (.load false 1 (.t 25)),Co 27 (.bin .shl (.t 26) (.c (.int .u64 17))),Co 28 (.bin .xor (.t 23) (.t 27)),Co 29 (.nilck (.t 21)),Ce (.store 1 (.t 29) (.t 28))]) (.seq (.region [Cv 30 0,Co 31 (.nilck (.t 30)),Co 32 (.load false 1 (.t 31)),Cv 2 32]) (.ret))))))⟩
def bg_breakPatterns_l0 (sz k:Nat):ACode:=(.seq (.seq (.region [Cv 28 11,Cv 29 1,Cv 30 8,Co 31 (.bin .quo (.t 30) (.c (.int .i64 4))),Co 32 (.bin .mul (.t 31) (.c (.int .i64 2))),Co 33 (.bin .add (.t 29) (.t 32)),Co 34 (.bin .add (.t 33) (.c (.int .i64 1))),Co 35 (.bin .leq (.t 28) (.t 34))]) (.cond (.t 35) (.skip) (.exit 0))) (.seq (.block 1 (.seq (.region [Co 38 (.callI (k+3) [(.t 9)]),Cv 39 10,Co 40 (.bin .sub (.t 39) (.c (.int .u64 1))),Co 41 (.bin .and (.t 38) (.t 40)),Co 42 (.conv .i64 (.t 41)),Cv 12 42]) (.seq (.seq (.region [Cv 43 12,Cv 44 8,Co 45 (.bin .geq (.t 43) (.t 44))]) (.cond (.t 45) (.region [Cv 46 12,Cv 47 8,Co 48 (.bin .sub (.t 46) (.t 47)),Cv 12 48]) (.skip))) (.region [Cv 49 0,Cv 50 11,Cv 51 0,Cv 52 1,Cv 53 12,Co 54 (.bin .add (.t 52) (.t 53)),Cv 55 0,Cv 56 1,Cv 57 12,Co 58 (.bin .add (.t 56) (.t 57)),Co 59 (.iaddr sz (.t 55) (.t 58)),Co 60 (.load true sz (.t 59)),Cv 61 0,Cv 62 11,Co 63 (.iaddr sz (.t 61) (.t 62)),Co 64 (.load true sz (.t 63)),Co 65 (.iaddr sz (.t 49) (.t 50)),Ce (.store sz (.t 65) (.t 60)),Co 66 (.iaddr sz (.t 51) (.t 54)),Ce (.store sz (.t 66) (.t 64))])))) (.region [Cv 36 11,Co 37 (.bin .add (.t 36) (.c (.int .i64 1))),Cv 11 37])))
def bg_breakPatterns (sz k:Nat):AFn:=⟨4,[],(.seq (.region [Cv 13 2,Cv 14 1,Co 15 (.bin .sub (.t 13) (.t 14)),Cv 8 15]) (.seq (.region [Cv 16 8,Co 17 (.bin .geq (.t 16) (.c (.int .i64 8)))]) (.cond (.t 17) (.seq (.region [Cv 18 8,Co 19 (.conv .u64 (.t 18)),Co 9 (.alloc [(.int .u64 0)]),Ce (.store 1 (.t 9) (.t 19))]) (.seq (.region [Cv 20 8,Co 21 (.callP F_slices_nextPowerOfTwo [(.t 20)]),Cv 10 21]) (.seq (.region [Cv 22 1,Cv 23 8,Co 24 (.bin .quo (.t 23) (.c (.int .i64 4))),Co 25 (.bin .mul (.t 24) (.c (.int .i64 2))),Co 26 (.bin .add (.t 22) (.t 25)),Co 27 (.bin .sub (.t 26) (.c (.int .i64 1))),Cv 11 27]) (.block 0 (.loop [0,1,8,9,10,11] (bg_breakPatterns_l0 sz k)))))) (.skip))))⟩
def bg_order2 (sz k:Nat):AFn:=⟨5,[.tmp 10,.tmp 11],(.seq (.region [Co 10 (.move (.c (.int .i64 0))),Co 11 (.move (.c (.int .i64 0)))]) (.seq (.seq (.region [Cv 12 4,Cv 13 0,Cv 14 2,Co 15 (.iaddr sz (.t 13) (.t 14)),Co 16 (.load true sz (.t 15)),Cv 17 0,Cv 18 1,Co 19 (.iaddr sz (.t 17) (.t 18)),Co 20 (.load true sz (.t 19)),Co 21 (.callV (.t 12) [(.t 16),(.t 20)]),Co 22 (.bin .lss (.t 21) (.c (.int .i64 0)))]) (.cond (.t 22) (.seq (.region [Cv 23 3,Co 24 (.nilck (.t 23)),Co 25 (.load false 1 (.t 24)),Co 26 (.bin .add (.t 25) (.c (.int .i64 1))),Co 27 (.nilck (.t 23)),Ce (.store 1 (.t 27) (.t 26))]) (.seq (.region [Cv 28 2,Cv 29 1,Cv 10 28,Cv 11 29]) (.ret))) (.skip))) (.seq (.region [Cv 30 1,Cv 31 2,Cv 10 30,Cv 11 31]) (.ret))))⟩
def bg_median (sz k:Nat):AFn:=⟨6,[.tmp 12],(.seq (.region [Co 12 (.move (.c (.int .i64 0)))]) (.seq (.region [Cv 14 0,Cv 15 1,Cv 16 2,Cv 17 4,Cv 18 5,Co 19 (.callI (k+5) [(.t 14),(.t 15),(.t 16),(.t 17),(.t 18)]),Cv 13 19,Co 20 (.ext 0 (.t 13)),Co 21 (.ext 1 (.t 13)),Cv 1 20,Cv 2 21]) (.seq (.region [Cv 23 0,Cv 24 2,Cv 25 3,Cv 26 4,Cv 27 5,Co 28 (.callI (k+5) [(.t 23),(.t 24),(.t 25),(.t 26),(.t 27)]),Cv 22 28,Co 29 (.ext 0 (.t 22)),Co 30 (.ext 1 (.t 22)),Cv 2 29,Cv 3 30]) (.seq (.region [Cv 32 0,Cv 33 1,Cv 34 2,Cv 35 4,Cv 36 5,Co 37 (.callI (k+5) [(.t 32),(.t 33),(.t 34),(.t 35),(.t 36)]),Cv 31 37,Co 38 (.ext 0 (.t 31)),Co 39 (.ext 1 (.t 31)),Cv 1 38,Cv 2 39]) (.seq (.region [Cv 40 2,Cv 12 40]) (.ret))))))⟩
def bg_medianAdjacent (sz k:Nat):AFn:=⟨4,[.tmp 8],(.seq (.region [Co 8 (.move (.c (.int .i64 0)))]) (.seq (.region [Cv 9 0,Cv 10 1,Co 11 (.bin .sub (.t 10) (.c (.int .i64 1))),Cv 12 1,Cv 13 1,Co 14 (.bin .add (.t 13) (.c (.int .i64 1))),Cv 15 2,Cv 16 3,Co 17 (.callI (k+6) [(.t 9),(.t 11),(.t 12),(.t 14),(.t 15),(.t 16)]),Cv 8 17]) (.ret)))⟩
def bg_choosePivot (sz k:Nat):AFn:=⟨4,[.tmp 8,.tmp 9],(.seq (.region [Co 8 (.move (.c (.int .i64 0))),Co 9 (.move (.c (.int .i64 0)))]) (.seq (.region [Cv 15 2,Cv 16 1,Co 17 (.bin .sub (.t 15) (.t 16)),Cv 10 17]) (.seq (.region [Co 11 (.alloc [(.int .i64 0)])]) (.seq (.region [Cv 18 1,Cv 19 10,Co 20 (.bin .quo (.t 19) (.c (.int .i64 4))),Co 21 (.bin .mul (.t 20) (.c (.int .i64 1))),Co 22 (.bin .add (.t 18) (.t 21)),Cv 12 22]) (.seq (.region [Cv 23 1,Cv 24 10,Co 25 (.bin .quo (.t 24) (.c (.int .i64 4))),Co 26 (.bin .mul (.t 25) (.c (.int .i64 2))),Co 27 (.bin .add (.t 23) (.t 26)),Cv 13 27]) (.seq (.region [Cv 28 1,Cv 29 10,Co 30 (.bin .quo (.t 29) (.c (.int .i64 4))),Co 31 (.bin .mul (.t 30) (.c (.int .i64 3))),Co 32 (.bin .add (.t 28) (.t 31)),Cv 14 32]) (.seq (.seq (.region [Cv 33 10,Co 34 (.bin .geq (.t 33) (.c (.int .i64 8)))]) (.cond (.t 34) (.seq (.seq (.region [Cv 35 10,Co 36 (.bin .geq (.t 35) (.c (.int .i64 50)))]) (.cond (.t 36) (.seq (.region [Cv 37 0,Cv 38 12,Cv 39 3,Co 40 (.callI (k+7) [(.t 37),(.t 38),(.t 11),(.t 39)]),Cv 12 40]) (.seq (.region [Cv 41 0,Cv 42 13,Cv 43 3,Co 44 (.callI (k+7) [(.t 41),(.t 42),(.t 11),(.t 43)]),Cv 13 44]) (.region [Cv 45 0,Cv 46 14,Cv 47 3,Co 48 (.callI (k+7) [(.t 45),(.t 46),(.t 11),(.t 47)]),Cv 14 48]))) (.skip))) (.region [Cv 49 0,Cv 50 12,Cv 51 13,Cv 52 14,Cv 53 3,Co 54 (.callI (k+6) [(.t 49),(.t 50),(.t 51),(.t 52),(.t 11),(.t 53)]),Cv 13 54])) (.skip))) (.seq (.region [Co 55 (.load false 1 (.t 11))]) (.block 0 (.seq (.region [Co 58 (.bin .eql (.t 55) (.c (.int .i64 0))),Cv 57 58]) (.cond (.t 57) (.seq (.region [Cv 59 13,Cv 8 59,Co 9 (.move (.c (.int .i64 1)))]) (.ret)) (.seq (.region [Co 61 (.bin .eql (.t 55) (.c (.int .i64 12))),Cv 60 61]) (.cond (.t 60) (.seq (.region [Cv 62 13,Cv 8 62,Co 9 (.move (.c (.int .i64 2)))]) (.ret)) (.seq (.region [Cv 56 13,Cv 8 56,Co 9 (.move (.c (.int .i64 0)))]) (.ret)))))))))))))))⟩
def bg_reverseRange_l0 (sz k:Nat):ACode:=(.seq (.seq (.region [Cv 13 8,Cv 14 9,Co 15 (.bin .lss (.t 13) (.t 14))]) (.cond (.t 15) (.skip) (.exit 0))) (.block 1 (.seq (.region [Cv 16 0,Cv 17 8,Cv 18 0,Cv 19 9,Cv 20 0,Cv 21 9,Co 22 (.iaddr sz (.t 20) (.t 21)),Co 23 (.load true sz (.t 22)),Cv 24 0,Cv 25 8,Co 26 (.iaddr sz (.t 24) (.t 25)),Co 27 (.load true sz (.t 26)),Co 28 (.iaddr sz (.t 16) (.t 17)),Ce (.store sz (.t 28) (.t 23)),Co 29 (.iaddr sz (.t 18) (.t 19)),Ce (.store sz (.t 29) (.t 27))]) (.seq (.region [Cv 30 8,Co 31 (.bin .add (.t 30) (.c (.int .i64 1))),Cv 8 31]) (.region [Cv 32 9,Co 33 (.bin .sub (.t 32) (.c (.int .i64 1))),Cv 9 33])))))
def bg_reverseRange (sz k:Nat):AFn:=⟨4,[],(.seq (.region [Cv 10 1,Cv 8 10]) (.seq (.region [Cv 11 2,Co 12 (.bin .sub (.t 11) (.c (.int .i64 1))),Cv 9 12]) (.block 0 (.loop [0,8,9] (bg_reverseRange_l0 sz k)))))⟩
def bg_partialInsertionSort_l1 (sz k:Nat):ACode:=(.seq (.seq (.region [Cv 19 9,Cv 20 2,Co 21 (.bin .lss (.t 19) (.t 20)),Cv 22 21,Cg 23 22 true (.move (.t 3)),Cg 24 22 true (.move (.t 0)),Cg 25 22 true (.move (.t 9)),Cg 26 22 true (.iaddr sz (.t 24) (.t 25)),Cg 27 22 true (.load true sz (.t 26)),Cg 28 22 true (.move (.t 0)),Cg 29 22 true (.move (.t 9)),Cg 30 22 true (.bin .sub (.t 29) (.c (.int .i64 1))),Cg 31 22 true (.iaddr sz (.t 28) (.t 30)),Cg 32 22 true (.load true sz (.t 31)),Cg 33 22 true (.callV (.t 23) [(.t 27),(.t 32)]),Cg 34 22 true (.bin .lss (.t 33) (.c (.int .i64 0))),Cg 35 22 true (.un .not (.t 34)),Co 36 (.pick (.t 22) (.t 35) (.c (.bool false)))]) (.cond (.t 36) (.skip) (.exit 2))) (.block 3 (.region [Cv 37 9,Co 38 (.bin .add (.t 37) (.c (.int .i64 1))),Cv 9 38])))
def bg_partialInsertionSort_l2 (sz k:Nat):ACode:=(.seq (.seq (.region [Cv 68 11,Co 69 (.bin .geq (.t 68) (.c (.int .i64 1)))]) (.cond (.t 69) (.skip) (.exit 4))) (.seq (.block 5 (.seq (.seq (.region [Cv 72 3,Cv 73 0,Cv 74 11,Co 75 (.iaddr sz (.t 73) (.t 74)),Co 76 (.load true sz (.t 75)),Cv 77 0,Cv 78 11,Co 79 (.bin .sub (.t 78) (.c (.int .i64 1))),Co 80 (.iaddr sz (.t 77) (.t 79)),Co 81 (.load true sz (.t 80)),Co 82 (.callV (.t 72) [(.t 76),(.t 81)]),Co 83 (.bin .lss (.t 82) (.c (.int .i64 0))),Co 84 (.un .not (.t 83))]) (.cond (.t 84) (.exit 4) (.skip))) (.region [Cv 85 0,Cv 86 11,Cv 87 0,Cv 88 11,Co 89 (.bin .sub (.t 88) (.c (.int .i64 1))),Cv 90 0,Cv 91 11,Co 92 (.bin .sub (.t 91) (.c (.int .i64 1))),Co 93 (.iaddr sz (.t 90) (.t 92)),Co 94 (.load true sz (.t 93)),Cv 95 0,Cv 96 11,Co 97 (.iaddr sz (.t 95) (.t 96)),Co 98 (.load true sz (.t 97)),Co 99 (.iaddr sz (.t 85) (.t 86)),Ce (.store sz (.t 99) (.t 94)),Co 100 (.iaddr sz (.t 87) (.t 89)),Ce (.store sz (.t 100) (.t 98))]))) (.region [Cv 70 11,Co 71 (.bin .sub (.t 70) (.c (.int .i64 1))),Cv 11 71])))
def bg_partialInsertionSort_l3 (sz k:Nat):ACode:=(.seq (.seq (.region [Cv 107 12,Cv 108 2,Co 109 (.bin .lss (.t 107) (.t 108))]) (.cond (.t 109) (.skip) (.exit 6))) (.seq (.block 7 (.seq (.seq (.region [Cv 112 3,Cv 113 0,Cv 114 12,Co 115 (.iaddr sz (.t 113) (.t 114)),Co 116 (.load true sz (.t 115)),Cv 117 0,Cv 118 12,Co 119 (.bin .sub (.t 118) (.c (.int .i64 1))),Co 120 (.iaddr sz (.t 117) (.t 119)),Co 121 (.load true sz (.t 120)),Co 122 (.callV (.t 112) [(.t 116),(.t 121)]),Co 123 (.bin .lss (.t 122) (.c (.int .i64 0))),Co 124 (.un .not (.t 123))]) (.cond (.t 124) (.exit 6) (.skip))) (.region [Cv 125 0,Cv 126 12,Cv 127 0,Cv 128 12,Co 129 (.bin .sub (.t 128) (.c (.int .i64 1))),Cv 130 0,Cv 131 12,Co 132 (.bin .sub (.t 131) (.c (.int .i64 1))),Co 133 (.iaddr sz (.t 130) (.t 132)),Co 134 (.load true sz (.t 133)),Cv 135 0,Cv 136 12,Co 137 (.iaddr sz (.t 135) (.t 136)),Co 138 (.load true sz (.t 137)),Co 139 (.iaddr sz (.t 125) (.t 126)),Ce (.store sz (.t 139) (.t 134)),Co 140 (.iaddr sz (.t 127) (.t 129)),Ce (.store sz (.t 140) (.t 138))]))) (.region [Cv 110 12,Co 111 (.bin .add (.t 110) (.c (.int .i64 1))),Cv 12 111])))
def bg_partialInsertionSort_l0 (sz k:Nat):ACode:=(.seq (.seq (.region [Cv 15 10,Co 16 (.bin .lss (.t 15) (.c (.int .i64 5)))]) (.cond (.t 16) (.skip) (.exit 0))) (.seq (.block 1 (.seq (.block 2 (.loop [0,1,2,3,9,10] (bg_partialInsertionSort_l1 sz k))) (.seq (.seq (.region [Cv 39 9,Cv 40 2,Co 41 (.bin .eql (.t 39) (.t 40))]) (.cond (.t 41) (.seq (.region [Co 8 (.move (.c (.bool true)))]) (.ret)) (.skip))) (.seq (.seq (.region [Cv 42 2,Cv 43 1,Co 44 (.bin .sub (.t 42) (.t 43)),Co 45 (.bin .lss (.t 44) (.c (.int .i64 50)))]) (.cond (.t 45) (.seq (.region [Co 8 (.move (.c (.bool false)))]) (.ret)) (.skip))) (.seq (.region [Cv 46 0,Cv 47 9,Cv 48 0,Cv 49 9,Co 50 (.bin .sub (.t 49) (.c (.int .i64 1))),Cv 51 0,Cv 52 9,Co 53 (.bin .sub (.t 52) (.c (.int .i64 1))),Co 54 (.iaddr sz (.t 51) (.t 53)),Co 55 (.load true sz (.t 54)),Cv 56 0,Cv 57 9,Co 58 (.iaddr sz (.t 56) (.t 57)),Co 59 (.load true sz (.t 58)),Co 60 (.iaddr sz (.t 46) (.t 47)),Ce (.store sz (.t 60) (.t 55)),Co 61 (.iaddr sz (.t 48) (.t 50)),Ce (.store sz (.t 61) (.t 59))]) (.seq (.seq (.region [Cv 62 9,Cv 63 1,Co 64 (.bin .sub (.t 62) (.t 63)),Co 65 (.bin .geq (.t 64) (.c (.int .i64 2)))]) (.cond (.t 65) (.seq (.region [Cv 66 9,Co 67 (.bin .sub (.t 66) (.c (.int .i64 1))),Cv 11 67]) (.block 4 (.loop [0,1,2,3,9,10,11] (bg_partialInsertionSort_l2 sz k)))) (.skip))) (.seq (.region [Cv 101 2,Cv 102 9,Co 103 (.bin .sub (.t 101) (.t 102)),Co 104 (.bin .geq (.t 103) (.c (.int .i64 2)))]) (.cond (.t 104) (.seq (.region [Cv 105 9,Co 106 (.bin .add (.t 105) (.c (.int .i64 1))),Cv 12 106]) (.block 6 (.loop [0,1,2,3,9,10,12] (bg_partialInsertionSort_l3 sz k)))) (.skip))))))))) (.region [Cv 17 10,Co 18 (.bin .add (.t 17) (.c (.int .i64 1))),Cv 10 18])))
def bg_partialInsertionSort (sz k:Nat):AFn:=⟨4,[.tmp 8],(.seq (.region [Co 8 (.move (.c (.bool false)))]) (.seq (.region [Cv 13 1,Co 14 (.bin .add (.t 13) (.c (.int .i64 1))),Cv 9 14]) (.seq (.seq (.region [Co 10 (.move (.c (.int .i64 0)))]) (.block 0 (.loop [0,1,2,3,9,10] (bg_partialInsertionSort_l0 sz k)))) (.seq (.region [Co 8 (.move (.c (.bool false)))]) (.ret)))))⟩
def bg_partitionEqual_l1 (sz k:Nat):ACode:=(.seq (.seq (.region [Cv 31 11,Cv 32 12,Co 33 (.bin .leq (.t 31) (.t 32)),Cv 34 33,Cg 35 34 true (.move (.t 4)),Cg 36 34 true (.move (.t 0)),Cg 37 34 true (.move (.t 1)),Cg 38 34 true (.iaddr sz (.t 36) (.t 37)),Cg 39 34 true (.load true sz (.t 38)),Cg 40 34 true (.move (.t 0)),Cg 41 34 true (.move (.t 11)),Cg 42 34 true (.iaddr sz (.t 40) (.t 41)),Cg 43 34 true (.load true sz (.t 42)),Cg 44 34 true (.callV (.t 35) [(.t 39),(.t 43)]),Cg 45 34 true (.bin .lss (.t 44) (.c (.int .i64 0))),Cg 46 34 true (.un .not (.t 45)),Co 47 (.pick (.t 34) (.t 46) (.c (.bool false)))]) (.cond (.t 47) (.skip) (.exit 2))) (.block 3 (.region [Cv 48 11,Co 49 (.bin .add (.t 48) (.c (.int .i64 1))),Cv 11 49])))
def bg_partitionEqual_l2 (sz k:Nat):ACode:=(.seq (.seq (.region [Cv 50 11,Cv 51 12,Co 52 (.bin .leq (.t 50) (.t 51)),Cv 53 52,Cg 54 53 true (.move (.t 4)),Cg 55 53 true (.move (.t 0)),Cg 56 53 true (.move (.t 1)),Cg 57 53 true (.iaddr sz (.t 55) (.t 56)),Cg 58 53 true (.load true sz (.t 57)),Cg 59 53 true (.move (.t 0)),Cg 60 53 true (.move (.t 12)),Cg 61 53 true (.iaddr sz (.t 59) (.t 60)),Cg 62 53 true (.load true sz (.t 61)),Cg 63 53 true (.callV (.t 54) [(.t 58),(.t 62)]),Cg 64 53 true (.bin .lss (.t 63) (.c (.int .i64 0))),Co 65 (.pick (.t 53) (.t 64) (.c (.bool false)))]) (.cond (.t 65) (.skip) (.exit 4))) (.block 5 (.region [Cv 66 12,Co 67 (.bin .sub (.t 66) (.c (.int .i64 1))),Cv 12 67])))
def bg_partitionEqual_l0 (sz k:Nat):ACode:=(.block 1 (.seq (.block 2 (.loop [0,1,4,11,12] (bg_partitionEqual_l1 sz k))) (.seq (.block 4 (.loop [0,1,4,11,12] (bg_partitionEqual_l2 sz k))) (.seq (.seq (.region [Cv 68 11,Cv 69 12,Co 70 (.bin .gtr (.t 68) (.t 69))]) (.cond (.t 70) (.exit 0) (.skip))) (.seq (.region [Cv 71 0,Cv 72 11,Cv 73 0,Cv 74 12,Cv 75 0,Cv 76 12,Co 77 (.iaddr sz (.t 75) (.t 76)),Co 78 (.load true sz (.t 77)),Cv 79 0,Cv 80 11,Co 81 (.iaddr sz (.t 79) (.t 80)),Co 82 (.load true sz (.t 81)),Co 83 (.iaddr sz (.t 71) (.t 72)),Ce (.store sz (.t 83) (.t 78)),Co 84 (.iaddr sz (.t 73) (.t 74)),Ce (.store sz (.t 84) (.t 82))]) (.seq (.region [Cv 85 11,Co 86 (.bin .add (.t 85) (.c (.int .i64 1))),Cv 11 86]) (.region [Cv 87 12,Co 88 (.bin .sub (.t 87) (.c (.int .i64 1))),Cv 12 88])))))))
def bg_partitionEqual (sz k:Nat):AFn:=⟨5,[.tmp 10],(.seq (.region [Co 10 (.move (.c (.int .i64 0)))]) (.seq (.region [Cv 13 0,Cv 14 1,Cv 15 0,Cv 16 3,Cv 17 0,Cv 18 3,Co 19 (.iaddr sz (.t 17) (.t 18)),Co 20 (.load true sz (.t 19)),Cv 21 0,Cv 22 1,Co 23 (.iaddr sz (.t 21) (.t 22)),Co 24 (.load true sz (.t 23)),Co 25 (.iaddr sz (.t 13) (.t 14)),Ce (.store sz (.t 25) (.t 20)),Co 26 (.iaddr sz (.t 15) (.t 16)),Ce (.store sz (.t 26) (.t 24))]) (.seq (.region [Cv 27 1,Co 28 (.bin .add (.t 27) (.c (.int .i64 1))),Cv 29 2,Co 30 (.bin .sub (.t 29) (.c (.int .i64 1))),Cv 11 28,Cv 12 30]) (.seq (.block 0 (.loop [0,1,4,11,12] (bg_partitionEqual_l0 sz k))) (.seq (.region [Cv 89 11,Cv 10 89]) (.ret))))))⟩
def bg_partition_l0 (sz k:Nat):ACode:=(.seq (.seq (.region [Cv 32 12,Cv 33 13,Co 34 (.bin .leq (.t 32) (.t 33)),Cv 35 34,Cg 36 35 true (.move (.t 4)),Cg 37 35 true (.move (.t 0)),Cg 38 35 true (.move (.t 12)),Cg 39 35 true (.iaddr sz (.t 37) (.t 38)),Cg 40 35 true (.load true sz (.t 39)),Cg 41 35 true (.move (.t 0)),Cg 42 35 true (.move (.t 1)),Cg 43 35 true (.iaddr sz (.t 41) (.t 42)),Cg 44 35 true (.load true sz (.t 43)),Cg 45 35 true (.callV (.t 36) [(.t 40),(.t 44)]),Cg 46 35 true (.bin .lss (.t 45) (.c (.int .i64 0))),Co 47 (.pick (.t 35) (.t 46) (.c (.bool false)))]) (.cond (.t 47) (.skip) (.exit 0))) (.block 1 (.region [Cv 48 12,Co 49 (.bin .add (.t 48) (.c (.int .i64 1))),Cv 12 49])))
def bg_partition_l1 (sz k:Nat):ACode:=(.seq (.seq (.region [Cv 50 12,Cv 51 13,Co 52 (.bin .leq (.t 50) (.t 51)),Cv 53 52,Cg 54 53 true (.move (.t 4)),Cg 55 53 true (.move (.t 0)),Cg 56 53 true (.move (.t 13)),Cg 57 53 true (.iaddr sz (.t 55) (.t 56)),Cg 58 53 true (.load true sz (.t 57)),Cg 59 53 true (.move (.t 0)),Cg 60 53 true (.move (.t 1)),Cg 61 53 true (.iaddr sz (.t 59) (.t 60)),Cg 62 53 true (.load true sz (.t 61)),Cg 63 53 true (.callV (.t 54) [(.t 58),(.t 62)]),Cg 64 53 true (.bin .lss (.t 63) (.c (.int .i64 0))),Cg 65 53 true (.un .not (.t 64)),Co 66 (.pick (.t 53) (.t 65) (.c (.bool false)))]) (.cond (.t 66) (.skip) (.exit 2))) (.block 3 (.region [Cv 67 13,Co 68 (.bin .sub (.t 67) (.c (.int .i64 1))),Cv 13 68])))
def bg_partition_l3 (sz k:Nat):ACode:=(.seq (.seq (.region [Cv 105 12,Cv 106 13,Co 107 (.bin .leq (.t 105) (.t 106)),Cv 108 107,Cg 109 108 true (.move (.t 4)),Cg 110 108 true (.move (.t 0)),Cg 111 108 true (.move (.t 12)),Cg 112 108 true (.iaddr sz (.t 110) (.t 111)),Cg 113 108 true (.load true sz (.t 112)),Cg 114 108 true (.move (.t 0)),Cg 115 108 true (.move (.t 1)),Cg 116 108 true (.iaddr sz (.t 114) (.t 115)),Cg 117 108 true (.load true sz (.t 116)),Cg 118 108 true (.callV (.t 109) [(.t 113),(.t 117)]),Cg 119 108 true (.bin .lss (.t 118) (.c (.int .i64 0))),Co 120 (.pick (.t 108) (.t 119) (.c (.bool false)))]) (.cond (.t 120) (.skip) (.exit 6))) (.block 7 (.region [Cv 121 12,Co 122 (.bin .add (.t 121) (.c (.int .i64 1))),Cv 12 122])))
def bg_partition_l4 (sz k:Nat):ACode:=(.seq (.seq (.region [Cv 123 12,Cv 124 13,Co 125 (.bin .leq (.t 123) (.t 124)),Cv 126 125,Cg 127 126 true (.move (.t 4)),Cg 128 126 true (.move (.t 0)),Cg 129 126 true (.move (.t 13)),Cg 130 126 true (.iaddr sz (.t 128) (.t 129)),Cg 131 126 true (.load true sz (.t 130)),Cg 132 126 true (.move (.t 0)),Cg 133 126 true (.move (.t 1)),Cg 134 126 true (.iaddr sz (.t 132) (.t 133)),Cg 135 126 true (.load true sz (.t 134)),Cg 136 126 true (.callV (.t 127) [(.t 131),(.t 135)]),Cg 137 126 true (.bin .lss (.t 136) (.c (.int .i64 0))),Cg 138 126 true (.un .not (.t 137)),Co 139 (.pick (.t 126) (.t 138) (.c (.bool false)))]) (.cond (.t 139) (.skip) (.exit 8))) (.block 9 (.region [Cv 140 13,Co 141 (.bin .sub (.t 140) (.c (.int .i64 1))),Cv 13 141])))
def bg_partition_l2 (sz k:Nat):ACode:=(.block 5 (.seq (.block 6 (.loop [0,1,4,12,13] (bg_partition_l3 sz k))) (.seq (.block 8 (.loop [0,1,4,12,13] (bg_partition_l4 sz k))) (.seq (.seq (.region [Cv 142 12,Cv 143 13,Co 144 (.bin .gtr (.t 142) (.t 143))]) (.cond (.t 144) (.exit 4) (.skip))) (.seq (.region [Cv 145 0,Cv 146 12,Cv 147 0,Cv 148 13,Cv 149 0,Cv 150 13,Co 151 (.iaddr sz (.t 149) (.t 150)),Co 152 (.load true sz (.t 151)),Cv 153 0,Cv 154 12,Co 155 (.iaddr sz (.t 153) (.t 154)),Co 156 (.load true sz (.t 155)),Co 157 (.iaddr sz (.t 145) (.t 146)),Ce (.store sz (.t 157) (.t 152)),Co 158 (.iaddr sz (.t 147) (.t 148)),Ce (.store sz (.t 158) (.t 156))]) (.seq (.region [Cv 159 12,Co 160 (.bin .add (.t 159) (.c (.int .i64 1))),Cv 12 160]) (.region [Cv 161 13,Co 162 (.bin .sub (.t 161) (.c (.int .i64 1))),Cv 13 162])))))))
def bg_partition (sz k:Nat):AFn:=⟨5,[.tmp 10,.tmp 11],(.seq (.region [Co 10 (.move (.c (.int .i64 0))),Co 11 (.move (.c (.bool false)))]) (.seq (.region [Cv 14 0,Cv 15 1,Cv 16 0,Cv 17 3,Cv 18 0,Cv 19 3,Co 20 (.iaddr sz (.t 18) (.t 19)),Co 21 (.load true sz (.t 20)),Cv 22 0,Cv 23 1,Co 24 (.iaddr sz (.t 22) (.t 23)),Co 25 (.load true sz (.t 24)),Co 26 (.iaddr sz (.t 14) (.t 15)),Ce (.store sz (.t 26) (.t 21)),Co 27 (.iaddr sz (.t 16) (.t 17)),Ce (.store sz (.t 27) (.t 25))]) (.seq (.region [Cv 28 1,Co 29 (.bin .add (.t 28) (.c (.int .i64 1))),Cv 30 2,Co 31 (.bin .sub (.t 30) (.c (.int .i64 1))),Cv 12 29,Cv 13 31]) (.seq (.block 0 (.loop [0,1,4,12,13] (bg_partition_l0 sz k))) (.seq (.block 2 (.loop [0,1,4,12,13] (bg_partition_l1 sz k))) (.seq (.seq (.region [Cv 69 12,Cv 70 13,Co 71 (.bin .gtr (.t 69) (.t 70))]) (.cond (.t 71) (.seq (.region [Cv 72 0,Cv 73 13,Cv 74 0,Cv 75 1,Cv 76 0,Cv 77 1,Co 78 (.iaddr sz (.t 76) (.t 77)),Co 79 (.load true sz (.t 78)),Cv 80 0,Cv 81 13,Co 82 (.iaddr sz (.t 80) (.t 81)),Co 83 (.load true sz (.t 82)),Co 84 (.iaddr sz (.t 72) (.t 73)),Ce (.store sz (.t 84) (.t 79)),Co 85 (.iaddr sz (.t 74) (.t 75)),Ce (.store sz (.t 85) (.t 83))]) (.seq (.region [Cv 86 13,Cv 10 86,Co 11 (.move (.c (.bool true)))]) (.ret))) (.skip))) (.seq (.region [Cv 87 0,Cv 88 12,Cv 89 0,Cv 90 13,Cv 91 0,Cv 92 13,Co 93 (.iaddr sz (.t 91) (.t 92)),Co 94 (.load true sz (.t 93)),Cv 95 0,Cv 96 12,Co 97 (.iaddr sz (.t 95) (.t 96)),Co 98 (.load true sz (.t 97)),Co 99 (.iaddr sz (.t 87) (.t 88)),Ce (.store sz (.t 99) (.t 94)),Co 100 (.iaddr sz (.t 89) (.t 90)),Ce (.store sz (.t 100) (.t 98))]) (.seq (.region [Cv 101 12,Co 102 (.bin .add (.t 101) (.c (.int .i64 1))),Cv 12 102]) (.seq (.region [Cv 103 13,Co 104 (.bin .sub (.t 103) (.c (.int .i64 1))),Cv 13 104]) (.seq (.block 4 (.loop [0,1,4,12,13] (bg_partition_l2 sz k))) (.seq (.region [Cv 163 0,Cv 164 13,Cv 165 0,Cv 166 1,Cv 167 0,Cv 168 1,Co 169 (.iaddr sz (.t 167) (.t 168)),Co 170 (.load true sz (.t 169)),Cv 171 0,Cv 172 13,Co 173 (.iaddr sz (.t 171) (.t 172)),Co 174 (.load true sz (.t 173)),Co 175 (.iaddr sz (.t 163) (.t 164)),Ce (.store sz (.t 175) (.t 170)),Co 176 (.iaddr sz (.t 165) (.t 166)),Ce (.store sz (.t 176) (.t 174))]) (.seq (.region [Cv 177 13,Cv 10 177,Co 11 (.move (.c (.bool false)))]) (.ret)))))))))))))⟩
def bg_pdqsort_l0 (sz k:Nat):ACode:=(.block 1 (.seq (.region [Cv 21 2,Cv 22 1,Co 23 (.bin .sub (.t 21) (.t 22)),Cv 12 23]) (.seq (.seq (.region [Cv 24 12,Co 25 (.bin .leq (.t 24) (.c (.int .i64 12)))]) (.cond (.t 25) (.seq (.region [Cv 26 0,Cv 27 1,Cv 28 2,Cv 29 4,Co 30 (.callI (k+0) [(.t 26),(.t 27),(.t 28),(.t 29)])]) (.ret)) (.skip))) (.seq (.seq (.region [Cv 31 3,Co 32 (.bin .eql (.t 31) (.c (.int .i64 0)))]) (.cond (.t 32) (.seq (.region [Cv 33 0,Cv 34 1,Cv 35 2,Cv 36 4,Co 37 (.callI (k+2) [(.t 33),(.t 34),(.t 35),(.t 36)])]) (.ret)) (.skip))) (.seq (.seq (.region [Cv 38 10,Co 39 (.un .not (.t 38))]) (.cond (.t 39) (.seq (.region [Cv 40 0,Cv 41 1,Cv 42 2,Cv 43 4,Co 44 (.callI (k+4) [(.t 40),(.t 41),(.t 42),(.t 43)])]) (.region [Cv 45 3,Co 46 (.bin .sub (.t 45) (.c (.int .i64 1))),Cv 3 46])) (.skip))) (.seq (.region [Cv 48 0,Cv 49 1,Cv 50 2,Cv 51 4,Co 52 (.callI (k+8) [(.t 48),(.t 49),(.t 50),(.t 51)]),Cv 47 52,Co 53 (.ext 0 (.t 47)),Co 54 (.ext 1 (.t 47)),Cv 13 53,Cv 14 54]) (.seq (.seq (.region [Cv 55 14,Co 56 (.bin .eql (.t 55) (.c (.int .i64 2)))]) (.cond (.t 56) (.seq (.region [Cv 57 0,Cv 58 1,Cv 59 2,Cv 60 4,Co 61 (.callI (k+9) [(.t 57),(.t 58),(.t 59),(.t 60)])]) (.seq (.region [Cv 62 2,Co 63 (.bin .sub (.t 62) (.c (.int .i64 1))),Cv 64 13,Cv 65 1,Co 66 (.bin .sub (.t 64) (.t 65)),Co 67 (.bin .sub (.t 63) (.t 66)),Cv 13 67]) (.region [Co 14 (.move (.c (.int .i64 1)))]))) (.skip))) (.seq (.seq (.region [Cv 68 10,Cv 69 68,Cg 70 69 true (.move (.t 11)),Co 71 (.pick (.t 69) (.t 70) (.c (.bool false))),Cv 72 71,Cg 73 72 true (.move (.t 14)),Cg 74 72 true (.bin .eql (.t 73) (.c (.int .i64 1))),Co 75 (.pick (.t 72) (.t 74) (.c (.bool false)))]) (.cond (.t 75) (.seq (.region [Cv 76 0,Cv 77 1,Cv 78 2,Cv 79 4,Co 80 (.callI (k+10) [(.t 76),(.t 77),(.t 78),(.t 79)])]) (.cond (.t 80) (.ret) (.skip))) (.skip))) (.seq (.seq (.region [Cv 81 1,Co 82 (.bin .gtr (.t 81) (.c (.int .i64 0))),Cv 83 82,Cg 84 83 true (.move (.t 4)),Cg 85 83 true (.move (.t 0)),Cg 86 83 true (.move (.t 1)),Cg 87 83 true (.bin .sub (.t 86) (.c (.int .i64 1))),Cg 88 83 true (.iaddr sz (.t 85) (.t 87)),Cg 89 83 true (.load true sz (.t 88)),Cg 90 83 true (.move (.t 0)),Cg 91 83 true (.move (.t 13)),Cg 92 83 true (.iaddr sz (.t 90) (.t 91)),Cg 93 83 true (.load true sz (.t 92)),Cg 94 83 true (.callV (.t 84) [(.t 89),(.t 93)]),Cg 95 83 true (.bin .lss (.t 94) (.c (.int .i64 0))),Cg 96 83 true (.un .not (.t 95)),Co 97 (.pick (.t 83) (.t 96) (.c (.bool false)))]) (.cond (.t 97) (.seq (.region [Cv 98 0,Cv 99 1,Cv 100 2,Cv 101 13,Cv 102 4,Co 103 (.callI (k+11) [(.t 98),(.t 99),(.t 100),(.t 101),(.t 102)]),Cv 15 103]) (.seq (.region [Cv 104 15,Cv 1 104]) (.exit 1))) (.skip))) (.seq (.region [Cv 106 0,Cv 107 1,Cv 108 2,Cv 109 13,Cv 110 4,Co 111 (.callI (k+12) [(.t 106),(.t 107),(.t 108),(.t 109),(.t 110)]),Cv 105 111,Co 112 (.ext 0 (.t 105)),Co 113 (.ext 1 (.t 105)),Cv 16 112,Cv 17 113]) (.seq (.region [Cv 114 17,Cv 11 114]) (.seq (.region [Cv 115 16,Cv 116 1,Co 117 (.bin .sub (.t 115) (.t 116)),Cv 118 2,Cv 119 16,Co 120 (.bin .sub (.t 118) (.t 119)),Cv 18 117,Cv 19 120]) (.seq (.region [Cv 121 12,Co 122 (.bin .quo (.t 121) (.c (.int .i64 8))),Cv 20 122]) (.seq (.region [Cv 123 18,Cv 124 19,Co 125 (.bin .lss (.t 123) (.t 124))]) (.cond (.t 125) (.seq (.region [Cv 126 18,Cv 127 20,Co 128 (.bin .geq (.t 126) (.t 127)),Cv 10 128]) (.seq (.region [Cv 129 0,Cv 130 1,Cv 131 16,Cv 132 3,Cv 133 4,Co 134 (.callI (k+13) [(.t 129),(.t 130),(.t 131),(.t 132),(.t 133)])]) (.region [Cv 135 16,Co 136 (.bin .add (.t 135) (.c (.int .i64 1))),Cv 1 136]))) (.seq (.region [Cv 137 19,Cv 138 20,Co 139 (.bin .geq (.t 137) (.t 138)),Cv 10 139]) (.seq (.region [Cv 140 0,Cv 141 16,Co 142 (.bin .add (.t 141) (.c (.int .i64 1))),Cv 143 2,Cv 144 3,Cv 145 4,Co 146 (.callI (k+13) [(.t 140),(.t 142),(.t 143),(.t 144),(.t 145)])]) (.region [Cv 147 16,Cv 2 147]))))))))))))))))))
def bg_pdqsort (sz k:Nat):AFn:=⟨5,[],(.seq (.region [Co 10 (.move (.c (.bool true)))]) (.seq (.region [Co 11 (.move (.c (.bool true)))]) (.block 0 (.loop [0,1,2,3,4,10,11] (bg_pdqsort_l0 sz k)))))⟩
def bg_SortFunc (sz k:Nat):AFn:=⟨2,[],(.seq (.region [Cv 5 0,Co 6 (.len 0 (.t 5)),Cv 4 6]) (.region [Cv 7 0,Cv 8 4,Cv 9 4,Co 10 (.conv .u64 (.t 9)),Co 11 (.callP F_math_bits_Len [(.t 10)]),Cv 12 1,Co 13 (.callI (k+13) [(.t 7),(.c (.int .i64 0)),(.t 8),(.t 11),(.t 12)])]))⟩
end Go.AM.B1
set_option linter.unusedSimpArgs false
namespace Go.AM.B1
open Go.AM
def sizeR:Int→List (Int×Int)→Int
 |n,[]=>n
 |n,p::r=>sizeR (n+(p.2 - p.1+1)) r
abbrev envZ (v:PV) (len i n:Int):Tr:=(((Tr.lf.set 8 (.pv (i64 i))).set 7 (.pv (i64 len))).set 6 (.pv v)).set 3 (.pv (i64 n))
theorem size_run (v:PV) (l:List (Int×Int)) (hv:IsL 2 v (prs l)) (hw:l.length≤maxLen) {top:Int} (ht:top≤4611686018427387900) (hval:validR top (-2) l=true):F_sets_Size [v]=some (i64 (sizeR 0 l)):=by
 have ls:=hv.len
 simp only[prs,List.length_map] at ls
 have key:=loopN_wp (g:=roundL (callL (fun _=>none) 8) [3,6,7,8] b_sets_Size_l0 0)
  (fun i t=>∃ n last,t=⟨envZ v l.length i n,[]⟩∧sizeR 0 l=sizeR n (l.drop i)∧validR top last (l.drop i)=true∧0≤n∧n≤max 0 (last+1)∧last≤top)
  (Q:=fun r=>∃ E H,r=(.exit 0,⟨E,H⟩)∧E.get 3= .pv (i64 (sizeR 0 l)))
  l.length (by unfold rounds;unfold maxLen at hw;omega) ⟨envZ v l.length (0:Nat) 0,[]⟩ ?_ ?_ ?_
 ·obtain⟨⟨ex,t⟩,h,_,E,H,he,hE⟩:=wpO_spec key
  cases he
  have h':loopA (roundA (evalC (callL (fun _=>none) 8) b_sets_Size_l0) (clean 0 [3,6,7,8])) rounds ⟨envZ v l.length 0 0,[]⟩=some (.exit 0,⟨E,H⟩):=h
  simp only[envZ] at h'
  simp (implicitDefEqProofs:=false) only[F_sets_Size,SP,SA,SQ,WP,WQ,sevalprocAttr,-List.reduceReplicate,b_sets_Size,ls,C_loop,h',hE]
 ·refine⟨0,min (-2) top,rfl,rfl,?_,by omega,by omega,by omega⟩
  have mono:∀ {a b:Int} {r:List (Int×Int)},a≤b→validR top b r=true→validR top a r=true:=by
   intro a b r hab h
   cases r with
   |nil=>rfl
   |cons p r=>
    obtain⟨h1,h2,h3,h4,h5⟩:=validR_cons h
    simp only[validR,h5,Bool.and_true,Bool.not_eq_true',Bool.or_eq_false_iff,decide_eq_false_iff_not]
    exact⟨⟨⟨h1,h2⟩,h3⟩,by omega⟩
  exact mono (by omega) hval
 ·rintro i t hi ⟨n,last,rfl,hr,hva,hn0,hn1,hlast⟩
  have hv:=hv.lit (i:=i) (by simpa using hi)
  subst hv
  have hd:l.drop i=l[i]::l.drop (i+1):=List.drop_eq_getElem_cons hi
  rw[hd] at hr hva
  obtain⟨h1,h2,h3,h4,h5⟩:=validR_cons hva
  rw[sizeR] at hr
  have t2:=stepWrap hi hw
  have hg:=prs_get hi
  have hl:(prs l).length=l.length:=by simp
  generalize l[i]=p at *
  have t3:IntKind.i64.wrap (p.2 - p.1)=p.2 - p.1:=wrap_int (by omega)
  have t4:IntKind.i64.wrap (p.2 - p.1+1)=p.2 - p.1+1:=wrap_int (by omega)
  have t5:IntKind.i64.wrap (n+(p.2 - p.1+1))=n+(p.2 - p.1+1):=wrap_int (by omega)
  generalize hes:prs l=es at *
  generalize hQ:LN _ _ i=Q
  simp (implicitDefEqProofs:=false) only[SP,SA,SQ,WP,WQ,sevalprocAttr,-List.reduceReplicate,b_sets_Size_l0,hi,hl,t2,t3,t4,t5,hg,envZ]
  subst hQ
  exact⟨_,p.2,rfl,hr,h5,by omega,by omega,by omega⟩
 ·rintro t ⟨n,last,rfl,hr,_⟩
  rw[List.drop_length,sizeR] at hr
  have e1:decide (l.length < l.length)=false:=dec_f (by omega)
  generalize hQ:(fun r:Ex×St=>r.1.stop=true∧_)=Q
  simp (implicitDefEqProofs:=false) only[SP,SA,SQ,WP,WQ,sevalprocAttr,-List.reduceReplicate,b_sets_Size_l0,e1,envZ]
  subst hQ
  exact⟨rfl,_,_,rfl,by rw[hr];rfl⟩
end Go.AM.B1
namespace Go.AM.B1
open Go.AM Go.AM.So
structure Cmp (call:CallF) (sz cix:Nat) (P:List PV→Prop) (cmp:List PV→List PV→Int):Prop where
 row:∀ r,P r→RowSz sz r
 run:∀ (H:List AObj) a b,P a→P b→call cix [.pv (.agg a),.pv (.agg b)] H=some (.pv (i64 (cmp a b)),H)
def ltC (cmp:List PV→List PV→Int) (a b:List PV):Bool:=decide (cmp a b < 0)
theorem swp_size {α:Type} [Inhabited α] (d:Array α) (i j:Nat):(Go.Sort.swp d i j).size=d.size:=by simp[Go.Sort.swp]
section
variable {id sz:Nat} {P:List PV→Prop} {H0 H:List AObj} {D:Array (List PV)} (hP:∀ r,P r→RowSz sz r)
include hP
theorem hp_swap (h:Hp id sz P H0 D H) {n:Nat} (hn:n=D.size) {i j:Nat} (hi:i < D.size) (hj:j < D.size):
 ∃ H1 H2,storeA H sz (.eptr id (n * sz) (i * sz)) (.pv (.agg D[j]!))=some H1∧iaddrA' H1 sz (.own id n) (j:Int)=some (.eptr id (n * sz) (j * sz))∧
  storeA H1 sz (.eptr id (n * sz) (j * sz)) (.pv (.agg D[i]!))=some H2∧Hp id sz P H0 (Go.Sort.swp D i j) H2∧H2.length=H.length:=by
 obtain⟨H1,s1,h1,l1⟩:=h.store hP hn hi (h.rows _ (getB_mem hj))
 obtain⟨H2,s2,h2,l2⟩:=h1.store hP (n:=n) (by simpa using hn) (k:=j) (by simpa using hj) (h.rows _ (getB_mem hi))
 exact⟨H1,H2,s1,h1.iaddr hP (by simpa using hn) rfl (by simpa using hj),s2,h2,by rw[l2,l1]⟩
end
section
variable {call:CallF} {sz k cix:Nat} {P:List PV→Prop} {cmp:List PV→List PV→Int} (hc:Cmp call sz cix P cmp)
 {id n:Nat} {H0:List AObj} (g0:HGood H0) (hid:id < H0.length) (hw:n≤4611686018427387904)
abbrev envI1 (id n a b cix i j:Nat):Tr:=(((((Tr.lf.set 9 (.pv (i64 j))).set 8 (.pv (i64 i))).set 3 (.clo cix [])).set 2 (.pv (i64 b))).set 1 (.pv (i64 a))).set 0 (.own id n)
include hc g0 hid hw
theorem ins_inner (a b i j:Nat) (D:Array (List PV)) (H:List AObj) (hl:H.length=H0.length) (hp:Hp id sz P H0 D H) (hn:n=D.size) (hj:j < n):
 wpO (fun r=>∃ E H',r=(.exit 2,⟨E,H'⟩)∧Hp id sz P H0 (Go.Sort.insInner (ltC cmp) a j D) H'∧(Go.Sort.insInner (ltC cmp) a j D).size=n∧E.get 8= .pv (i64 i)∧E.get 0= .own id n∧E.get 1= .pv (i64 a)∧E.get 2= .pv (i64 b)∧E.get 3= .clo cix [])
  (loopA (roundA (evalC call (bg_insertionSort_l1 sz k)) (clean H0.length [0,1,2,3,8,9])) rounds ⟨envI1 id n a b cix i j,H⟩):=by
 refine wpO_mono (loopA_wp (g:=roundA (evalC call (bg_insertionSort_l1 sz k)) (clean H0.length [0,1,2,3,8,9]))
  (fun m t=>∃ H D',m < n∧t=⟨envI1 id n a b cix i m,H⟩∧H.length=H0.length∧Hp id sz P H0 D' H∧n=D'.size∧Go.Sort.insInner (ltC cmp) a j D=Go.Sort.insInner (ltC cmp) a m D')
  rounds j _ (by unfold rounds;omega) ⟨H,D,hj,rfl,hl,hp,hn,rfl⟩ ?_) (fun r h=>h.2)
 rintro m t ⟨H,D',hm,rfl,hl,hp,hn,hs⟩
 by_cases hja:a < m
 ·obtain⟨m,rfl⟩:∃ m',m=m'+1:=⟨m - 1,by omega⟩
  have e1:decide (((m+1:Nat):Int) > (a:Int))=true:=dec_t (by omega)
  have t1:IntKind.i64.wrap (((m+1:Nat):Int) - 1)=(m:Int):=by rw[wrap_int (by omega)];omega
  have a1:=hp.iaddr hc.row hn (i:=((m+1:Nat):Int)) rfl (by omega)
  have a2:=hp.iaddr hc.row hn (i:=(m:Int)) rfl (by omega)
  have l1:=hp.load hc.row hn (k:=m+1) (by omega)
  have l2:=hp.load hc.row hn (k:=m) (by omega)
  have c1:=hc.run H _ _ (hp.rows _ (getB_mem (i:=m+1) (by omega))) (hp.rows _ (getB_mem (i:=m) (by omega)))
  rw[Go.Sort.insInner] at hs
  have e3:decide (m+1 > a)=true:=dec_t hja
  rw[e3,Bool.true_and] at hs
  by_cases hlt:cmp D'[m+1]! D'[m]! < 0
  ·have e2:decide (cmp D'[m+1]! D'[m]! < 0)=true:=dec_t hlt
   have e4:ltC cmp D'[m+1]! D'[m]! =true:=e2
   rw[e4,if_pos rfl] at hs
   obtain⟨H1,H2,s1,a3,s2,hp2,l3⟩:=hp_swap hc.row hp hn (i:=m+1) (j:=m) (by omega) (by omega)
   obtain⟨q1,q2,q3⟩:=hp2.clean rfl g0
   generalize hQ:LQ _ _ _=Q
   simp (implicitDefEqProofs:=false) only[SP,SA,WP,sevalprocAttr,-List.reduceReplicate,bg_insertionSort_l1,e1,e2,t1,a1,a2,l1,l2,c1,s1,a3,s2,clean,cutEnv,AV.cut,hid,q1,deep_eq',envI1,mapO]
   subst hQ
   exact⟨m,by omega,_,_,by omega,rfl,q3,q2,by rw[swp_size];exact hn,hs⟩
  ·have e2:decide (cmp D'[m+1]! D'[m]! < 0)=false:=dec_f hlt
   have e4:ltC cmp D'[m+1]! D'[m]! =false:=e2
   rw[e4,if_neg (by simp)] at hs
   generalize hQ:LQ _ _ _=Q
   simp (implicitDefEqProofs:=false) only[SP,SA,WP,sevalprocAttr,-List.reduceReplicate,bg_insertionSort_l1,e1,e2,t1,a1,a2,l1,l2,c1,envI1]
   subst hQ
   exact⟨_,_,rfl,by rw[hs];exact hp,by rw[hs,hn],by simp[Tr.get_set],by simp[Tr.get_set],by simp[Tr.get_set],by simp[Tr.get_set],by simp[Tr.get_set]⟩
 ·have e1:decide ((m:Int) > (a:Int))=false:=dec_f (by omega)
  have hs':Go.Sort.insInner (ltC cmp) a j D=D':=by
   rw[hs]
   cases m with
   |zero=>rfl
   |succ m=>rw[Go.Sort.insInner,dec_f (show ¬m+1 > a from hja)];simp
  generalize hQ:LQ _ _ _=Q
  simp (implicitDefEqProofs:=false) only[SP,SA,WP,sevalprocAttr,-List.reduceReplicate,bg_insertionSort_l1,e1,envI1]
  subst hQ
  exact⟨_,_,rfl,by rw[hs'];exact hp,by rw[hs',hn],by simp[Tr.get_set],by simp[Tr.get_set],by simp[Tr.get_set],by simp[Tr.get_set],by simp[Tr.get_set]⟩
abbrev envI0 (id n a b cix i:Nat):Tr:=((((Tr.lf.set 8 (.pv (i64 i))).set 3 (.clo cix [])).set 2 (.pv (i64 b))).set 1 (.pv (i64 a))).set 0 (.own id n)
theorem ins_outer (a b i:Nat) (hb:b≤n) (D:Array (List PV)) (H:List AObj) (hl:H.length=H0.length) (hp:Hp id sz P H0 D H) (hn:n=D.size):
 wpO (fun r=>∃ E H',r=(.exit 0,⟨E,H'⟩)∧Hp id sz P H0 (Go.Sort.insOuter (ltC cmp) a b i D) H'∧(Go.Sort.insOuter (ltC cmp) a b i D).size=n)
  (loopA (roundA (evalC call (bg_insertionSort_l0 sz k)) (clean H0.length [0,1,2,3,8])) rounds ⟨envI0 id n a b cix i,H⟩):=by
 refine wpO_mono (loopA_wp (g:=roundA (evalC call (bg_insertionSort_l0 sz k)) (clean H0.length [0,1,2,3,8]))
  (fun m t=>∃ H D' i',m=b - i'∧t=⟨envI0 id n a b cix i',H⟩∧H.length=H0.length∧Hp id sz P H0 D' H∧n=D'.size∧Go.Sort.insOuter (ltC cmp) a b i D=Go.Sort.insOuter (ltC cmp) a b i' D')
  rounds (b - i) _ (by unfold rounds;omega) ⟨H,D,i,rfl,rfl,hl,hp,hn,rfl⟩ ?_) (fun r h=>h.2)
 rintro m t ⟨H,D',i',rfl,rfl,hl,hp,hn,hs⟩
 have hu:Go.Sort.insOuter (ltC cmp) a b i' D'=if i' < b then Go.Sort.insOuter (ltC cmp) a b (i'+1) (Go.Sort.insInner (ltC cmp) a i' D') else D':=by rw[Go.Sort.insOuter]
 rw[hu] at hs
 by_cases hib:i' < b
 ·rw[if_pos hib] at hs
  have e1:decide ((i':Int) < (b:Int))=true:=dec_t (by omega)
  have t1:IntKind.i64.wrap ((i':Int)+1)=((i'+1:Nat):Int):=wrap_int (by omega)
  have hid':id < H.length:=by omega
  have hcut:mapO (cutObj H.length) H=some H:=mapO_id fun o ho=>hp.good _ (Nat.le_refl _) o ho
  have hin:=ins_inner (k:=k) hc hp.good hid' hw a b i' i' D' H rfl hp.same hn (by omega)
  generalize hQ:LQ _ _ _=Q
  simp (implicitDefEqProofs:=false) only[SP,SA,WP,sevalprocAttr,-List.reduceReplicate,bg_insertionSort_l0,C_loop,e1,clean,cutEnv,AV.cut,hid',List.take_length,hcut,deep_eq',envI0]
  refine wpO_mono hin ?_
  rintro _ ⟨E,H',rfl,hp',hs',g8,g0',g1,g2,g3⟩
  have hp2:=hp.trans hp'
  obtain⟨q1,q2,q3⟩:=hp2.clean rfl g0
  simp (implicitDefEqProofs:=false) only[SP,SA,WP,sevalprocAttr,-List.reduceReplicate,g8,g0',g1,g2,g3,t1,clean,cutEnv,AV.cut,hid,q1,deep_eq']
  subst hQ
  exact⟨b - (i'+1),by omega,_,_,i'+1,rfl,rfl,q3,q2,hs'.symm,hs⟩
 ·rw[if_neg hib] at hs
  have e1:decide ((i':Int) < (b:Int))=false:=dec_f (by omega)
  generalize hQ:LQ _ _ _=Q
  simp (implicitDefEqProofs:=false) only[SP,SA,WP,sevalprocAttr,-List.reduceReplicate,bg_insertionSort_l0,e1,envI0]
  subst hQ
  exact⟨_,_,rfl,by rw[hs];exact hp,by rw[hs,hn]⟩
theorem ins_run (a b:Nat) (ha:a≤n) (hb:b≤n) (D:Array (List PV)) (hp:Hp id sz P H0 D H0) (hn:n=D.size):
 wpO (fun r=>r.1= .pv (.tup [])∧Hp id sz P H0 (Go.Sort.insertionSort (ltC cmp) D a b) r.2∧(Go.Sort.insertionSort (ltC cmp) D a b).size=n)
  (runF call (bg_insertionSort sz k) [.own id n,.pv (i64 a),.pv (i64 b),.clo cix []] H0):=by
 have t1:IntKind.i64.wrap ((a:Int)+1)=((a+1:Nat):Int):=wrap_int (by omega)
 have hcut:mapO (cutObj H0.length) H0=some H0:=mapO_id fun o ho=>hp.good _ (Nat.le_refl _) o ho
 have ho:=ins_outer (k:=k) hc g0 hid hw a b (a+1) hb D H0 rfl hp hn
 simp (implicitDefEqProofs:=false) only[SP,SA,WP,sevalprocAttr,-List.reduceReplicate,bg_insertionSort,C_loop,t1,clean,cutEnv,AV.cut,hid,List.take_length,hcut,deep_eq']
 refine wpO_mono ho ?_
 rintro _ ⟨E,H',rfl,hp',hs'⟩
 simp (implicitDefEqProofs:=false) only[SP,SA,WP,sevalprocAttr,-List.reduceReplicate]
 exact⟨hp',hs'⟩
end
end Go.AM.B1
namespace Go.AM.B1
open Go.AM Go.AM.So
theorem HGood.cut {H:List AObj} (h:HGood H):mapO (cutObj H.length) H=some H:=mapO_id fun o ho=>h _ (Nat.le_refl _) o ho
section
variable {call:CallF} {sz k cix:Nat} {P:List PV→Prop} {cmp:List PV→List PV→Int} (hc:Cmp call sz cix P cmp)
 {id n:Nat} {H0:List AObj} (g0:HGood H0) (hid:id < H0.length) (hw:n≤1000000)
abbrev envSi (id n hi first cix root:Nat):Tr:=((((Tr.lf.set 10 (.pv (i64 root))).set 4 (.clo cix [])).set 3 (.pv (i64 first))).set 2 (.pv (i64 hi))).set 0 (.own id n)
include hc g0 hid hw
theorem sift_loop (hi first root:Nat) (hb:first+hi≤n) (D:Array (List PV)) (H:List AObj) (hl:H.length=H0.length) (hp:Hp id sz P H0 D H) (hn:n=D.size) (hr:root≤hi):
 wpO (fun r=>∃ E H',(r=(.exit 0,⟨E,H'⟩)∨r=(.ret,⟨E,H'⟩))∧Hp id sz P H0 (Go.Sort.siftDown (ltC cmp) hi first root D) H'∧(Go.Sort.siftDown (ltC cmp) hi first root D).size=n)
  (loopA (roundA (evalC call (bg_siftDown_l0 sz k)) (clean H0.length [0,2,3,4,10])) rounds ⟨envSi id n hi first cix root,H⟩):=by
 refine wpO_mono (loopA_wp (g:=roundA (evalC call (bg_siftDown_l0 sz k)) (clean H0.length [0,2,3,4,10]))
  (fun m t=>∃ H D' root',m=hi - root'∧root'≤hi∧t=⟨envSi id n hi first cix root',H⟩∧H.length=H0.length∧Hp id sz P H0 D' H∧n=D'.size∧Go.Sort.siftDown (ltC cmp) hi first root D=Go.Sort.siftDown (ltC cmp) hi first root' D')
  rounds (hi - root) _ (by unfold rounds;omega) ⟨H,D,root,rfl,hr,rfl,hl,hp,hn,rfl⟩ ?_) (fun r h=>h.2)
 rintro m t ⟨H,D',r,rfl,hr,rfl,hl,hp,hn,hs⟩
 have t1:IntKind.i64.wrap (2 * (r:Int))=((2 * r:Nat):Int):=by rw[wrap_int (by omega)];omega
 have t2:IntKind.i64.wrap (((2 * r:Nat):Int)+1)=((2 * r+1:Nat):Int):=by rw[wrap_int (by omega)];omega
 have t3:IntKind.i64.wrap (((2 * r+1:Nat):Int)+1)=((2 * r+2:Nat):Int):=by rw[wrap_int (by omega)];omega
 have t4:IntKind.i64.wrap ((first:Int)+(r:Int))=((first+r:Nat):Int):=by rw[wrap_int (by omega)];omega
 have t5:IntKind.i64.wrap ((first:Int)+((2 * r+1:Nat):Int))=((first+(2 * r+1):Nat):Int):=by rw[wrap_int (by omega)];omega
 have t6:IntKind.i64.wrap (((first+(2 * r+1):Nat):Int)+1)=((first+(2 * r+2):Nat):Int):=by rw[wrap_int (by omega)];omega
 have t7:IntKind.i64.wrap ((first:Int)+((2 * r+2:Nat):Int))=((first+(2 * r+2):Nat):Int):=by rw[wrap_int (by omega)];omega
 have hu:Go.Sort.siftDown (ltC cmp) hi first r D'=if 2 * r+1≥hi then D' else
  if 2 * r+2 < hi∧ltC cmp D'[first+(2 * r+1)]! D'[first+(2 * r+2)]! =true then
   (if ltC cmp D'[first+r]! D'[first+(2 * r+2)]! =true then Go.Sort.siftDown (ltC cmp) hi first (2 * r+2) (Go.Sort.swp D' (first+r) (first+(2 * r+2))) else D')
  else if ltC cmp D'[first+r]! D'[first+(2 * r+1)]! =true then Go.Sort.siftDown (ltC cmp) hi first (2 * r+1) (Go.Sort.swp D' (first+r) (first+(2 * r+1))) else D':=by
  rw[Go.Sort.siftDown]
  by_cases h1:2 * r+1≥hi
  ·simp[h1]
  ·rw[dif_neg h1,if_neg h1]
   have e:first+(2 * r+1)+1=first+(2 * r+2):=by omega
   simp only[e,Bool.and_eq_true,decide_eq_true_eq]
   by_cases h2:2 * r+2 < hi
   ·by_cases h3:ltC cmp D'[first+(2 * r+1)]! D'[first+(2 * r+2)]! =true
    ·by_cases h4:ltC cmp D'[first+r]! D'[first+(2 * r+2)]! =true <;> simp[h2,h3,h4]
    ·by_cases h4:ltC cmp D'[first+r]! D'[first+(2 * r+1)]! =true <;> simp[h2,h3,h4]
   ·have h2':¬(2 * r+1+1 < hi):=by omega
    by_cases h4:ltC cmp D'[first+r]! D'[first+(2 * r+1)]! =true <;> simp[h2,h2',h4]
 rw[hu] at hs
 by_cases hA:2 * r+1≥hi
 ·rw[if_pos hA] at hs
  have e1:decide (((2 * r+1:Nat):Int)≥(hi:Int))=true:=dec_t (by omega)
  generalize hQ:LQ _ _ _=Q
  simp (implicitDefEqProofs:=false) only[SP,SA,WP,sevalprocAttr,-List.reduceReplicate,bg_siftDown_l0,e1,t1,t2,envSi]
  subst hQ
  exact⟨_,_,.inl rfl,by rw[hs];exact hp,by rw[hs,hn]⟩
 rw[if_neg hA] at hs
 have e1:decide (((2 * r+1:Nat):Int)≥(hi:Int))=false:=dec_f (by omega)
 have a0:=hp.iaddr hc.row hn (i:=((first+r:Nat):Int)) rfl (by omega)
 have a1:=hp.iaddr hc.row hn (i:=((first+(2 * r+1):Nat):Int)) rfl (by omega)
 have l0:=hp.load hc.row hn (k:=first+r) (by omega)
 have l1:=hp.load hc.row hn (k:=first+(2 * r+1)) (by omega)
 have P0:=hp.rows _ (getB_mem (i:=first+r) (by omega))
 have P1:=hp.rows _ (getB_mem (i:=first+(2 * r+1)) (by omega))
 have c01:=hc.run H _ _ P0 P1
 obtain⟨H1,H2,s1,b1,s2,hp1,w1⟩:=hp_swap hc.row hp hn (i:=first+r) (j:=first+(2 * r+1)) (by omega) (by omega)
 obtain⟨q1,q2,q3⟩:=hp1.clean rfl g0
 by_cases h2:2 * r+2 < hi
 ·have e2:decide (((2 * r+2:Nat):Int) < (hi:Int))=true:=dec_t (by omega)
  have a2:=hp.iaddr hc.row hn (i:=((first+(2 * r+2):Nat):Int)) rfl (by omega)
  have l2:=hp.load hc.row hn (k:=first+(2 * r+2)) (by omega)
  have P2:=hp.rows _ (getB_mem (i:=first+(2 * r+2)) (by omega))
  have c02:=hc.run H _ _ P0 P2
  have c12:=hc.run H _ _ P1 P2
  obtain⟨H3,H4,s3,b3,s4,hp3,w3⟩:=hp_swap hc.row hp hn (i:=first+r) (j:=first+(2 * r+2)) (by omega) (by omega)
  obtain⟨q4,q5,q6⟩:=hp3.clean rfl g0
  generalize hQ:LQ _ _ _=Q
  simp (implicitDefEqProofs:=false) only[SP,SA,WP,sevalprocAttr,-List.reduceReplicate,bg_siftDown_l0,e1,e2,t1,t2,t3,t4,t5,t6,t7,a0,a1,a2,l0,l1,l2,c01,c02,c12,s1,b1,s2,s3,b3,s4,clean,cutEnv,AV.cut,hid,q1,q4,deep_eq',envSi]
  subst hQ
  refine⟨fun h=>⟨fun h'=> ?_,fun h'=> ?_⟩,fun h=>⟨fun h'=> ?_,fun h'=> ?_⟩⟩
  ·have e3:ltC cmp D'[first+(2 * r+1)]! D'[first+(2 * r+2)]! =true:=h
   have e4:ltC cmp D'[first+r]! D'[first+(2 * r+2)]! =false:=by simpa[ltC] using h'
   rw[if_pos ⟨h2,e3⟩,e4,if_neg (by simp)] at hs
   exact⟨_,_,.inr rfl,by rw[hs];exact hp,by rw[hs,hn]⟩
  ·have e3:ltC cmp D'[first+(2 * r+1)]! D'[first+(2 * r+2)]! =true:=h
   have e4:ltC cmp D'[first+r]! D'[first+(2 * r+2)]! =true:=by simpa[ltC] using h'
   rw[if_pos ⟨h2,e3⟩,if_pos e4] at hs
   exact⟨hi - (2 * r+2),by omega,_,_,2 * r+2,rfl,by omega,rfl,q6,q5,by rw[swp_size];exact hn,hs⟩
  ·have e3:ltC cmp D'[first+(2 * r+1)]! D'[first+(2 * r+2)]! =false:=h
   have e4:ltC cmp D'[first+r]! D'[first+(2 * r+1)]! =false:=by simpa[ltC] using h'
   rw[if_neg (by rw[e3];simp),e4,if_neg (by simp)] at hs
   exact⟨_,_,.inr rfl,by rw[hs];exact hp,by rw[hs,hn]⟩
  ·have e3:ltC cmp D'[first+(2 * r+1)]! D'[first+(2 * r+2)]! =false:=h
   have e4:ltC cmp D'[first+r]! D'[first+(2 * r+1)]! =true:=by simpa[ltC] using h'
   rw[if_neg (by rw[e3];simp),if_pos e4] at hs
   exact⟨hi - (2 * r+1),by omega,_,_,2 * r+1,rfl,by omega,rfl,q3,q2,by rw[swp_size];exact hn,hs⟩
 ·have e2:decide (((2 * r+2:Nat):Int) < (hi:Int))=false:=dec_f (by omega)
  rw[if_neg (fun h=>h2 h.1)] at hs
  generalize hQ:LQ _ _ _=Q
  simp (implicitDefEqProofs:=false) only[SP,SA,WP,sevalprocAttr,-List.reduceReplicate,bg_siftDown_l0,e1,e2,t1,t2,t3,t4,t5,a0,a1,l0,l1,c01,s1,b1,s2,clean,cutEnv,AV.cut,hid,q1,deep_eq',envSi]
  subst hQ
  refine⟨fun h'=> ?_,fun h'=> ?_⟩
  ·have e4:ltC cmp D'[first+r]! D'[first+(2 * r+1)]! =false:=by simpa[ltC] using h'
   rw[e4,if_neg (by simp)] at hs
   exact⟨_,_,.inr rfl,by rw[hs];exact hp,by rw[hs,hn]⟩
  ·have e4:ltC cmp D'[first+r]! D'[first+(2 * r+1)]! =true:=by simpa[ltC] using h'
   rw[if_pos e4] at hs
   exact⟨hi - (2 * r+1),by omega,_,_,2 * r+1,rfl,by omega,rfl,q3,q2,by rw[swp_size];exact hn,hs⟩
theorem sift_run (lo hi first:Nat) (hb:first+hi≤n) (hr:lo≤hi) (D:Array (List PV)) (hp:Hp id sz P H0 D H0) (hn:n=D.size):
 wpO (fun r=>r.1= .pv (.tup [])∧Hp id sz P H0 (Go.Sort.siftDown (ltC cmp) hi first lo D) r.2∧(Go.Sort.siftDown (ltC cmp) hi first lo D).size=n)
  (runF call (bg_siftDown sz k) [.own id n,.pv (i64 lo),.pv (i64 hi),.pv (i64 first),.clo cix []] H0):=by
 have hcut:=HGood.cut g0
 have ho:=sift_loop (k:=k) hc g0 hid hw hi first lo hb D H0 rfl hp hn hr
 simp (implicitDefEqProofs:=false) only[SP,SA,WP,sevalprocAttr,-List.reduceReplicate,bg_siftDown,C_loop,clean,cutEnv,AV.cut,hid,List.take_length,hcut,deep_eq']
 refine wpO_mono ho ?_
 rintro _ ⟨E,H',h | h,hp',hs'⟩ <;> subst h
 ·simp (implicitDefEqProofs:=false) only[SP,SA,WP,sevalprocAttr,-List.reduceReplicate]
  exact⟨hp',hs'⟩
 ·simp (implicitDefEqProofs:=false) only[SP,SA,WP,sevalprocAttr,-List.reduceReplicate]
  exact⟨hp',hs'⟩
end
structure SortTab (tab:Nat→Option AFn) (sz k:Nat):Prop where
 ins:tab (k+0)=some (bg_insertionSort sz k)
 sift:tab (k+1)=some (bg_siftDown sz k)
 heap:tab (k+2)=some (bg_heapSort sz k)
 xor:tab (k+3)=some (bg_xorshift_Next sz k)
 brk:tab (k+4)=some (bg_breakPatterns sz k)
 ord:tab (k+5)=some (bg_order2 sz k)
 med:tab (k+6)=some (bg_median sz k)
 madj:tab (k+7)=some (bg_medianAdjacent sz k)
 piv:tab (k+8)=some (bg_choosePivot sz k)
 rev:tab (k+9)=some (bg_reverseRange sz k)
 pins:tab (k+10)=some (bg_partialInsertionSort sz k)
 peq:tab (k+11)=some (bg_partitionEqual sz k)
 part:tab (k+12)=some (bg_partition sz k)
 pdq:tab (k+13)=some (bg_pdqsort sz k)
 srt:tab (k+14)=some (bg_SortFunc sz k)
section
variable {tab:Nat→Option AFn} {sz k cix:Nat} {P:List PV→Prop} {cmp:List PV→List PV→Int} (hT:SortTab tab sz k) (hc:∀ d,Cmp (callL tab (d+1)) sz cix P cmp)
 {id n:Nat} {H0:List AObj} (g0:HGood H0) (hid:id < H0.length) (hw:n≤1000000)
abbrev envH0 (id n first cix hi:Nat) (i:Int):Tr:=(((((Tr.lf.set 11 (.pv (i64 i))).set 10 (.pv (i64 hi))).set 9 (.pv (i64 0))).set 8 (.pv (i64 first))).set 3 (.clo cix [])).set 0 (.own id n)
abbrev envH1 (id n first cix:Nat) (i:Int):Tr:=((((Tr.lf.set 12 (.pv (i64 i))).set 9 (.pv (i64 0))).set 8 (.pv (i64 first))).set 3 (.clo cix [])).set 0 (.own id n)
include hT hc g0 hid hw
theorem heap_build (d hi first m:Nat) (hb:first+hi≤n) (hm:m≤hi+1) (D:Array (List PV)) (H:List AObj) (hl:H.length=H0.length) (hp:Hp id sz P H0 D H) (hn:n=D.size):
 wpO (fun r=>∃ E H',r=(.exit 0,⟨E,H'⟩)∧Hp id sz P H0 (Go.Sort.heapBuild (ltC cmp) hi first m D) H'∧(Go.Sort.heapBuild (ltC cmp) hi first m D).size=n∧E.get 0= .own id n∧E.get 3= .clo cix []∧E.get 8= .pv (i64 first)∧E.get 9= .pv (i64 0)∧E.get 10= .pv (i64 hi))
  (loopA (roundA (evalC (callL tab (d+2)) (bg_heapSort_l0 sz k)) (clean H0.length [0,3,8,9,10,11])) rounds ⟨envH0 id n first cix hi ((m:Int) - 1),H⟩):=by
 refine wpO_mono (loopA_wp (g:=roundA (evalC (callL tab (d+2)) (bg_heapSort_l0 sz k)) (clean H0.length [0,3,8,9,10,11]))
  (fun m' t=>∃ H D',m'≤hi+1∧t=⟨envH0 id n first cix hi ((m':Int) - 1),H⟩∧H.length=H0.length∧Hp id sz P H0 D' H∧n=D'.size∧Go.Sort.heapBuild (ltC cmp) hi first m D=Go.Sort.heapBuild (ltC cmp) hi first m' D')
  rounds m _ (by unfold rounds;omega) ⟨H,D,hm,rfl,hl,hp,hn,rfl⟩ ?_) (fun r h=>h.2)
 rintro m' t ⟨H,D',hm',rfl,hl,hp,hn,hs⟩
 cases m' with
 |zero=>
  have e1:decide (((0:Nat):Int) - 1≥0)=false:=by decide
  generalize hQ:LQ _ _ _=Q
  simp (implicitDefEqProofs:=false) only[SP,SA,WP,sevalprocAttr,-List.reduceReplicate,bg_heapSort_l0,e1,envH0]
  subst hQ
  exact⟨_,_,rfl,by rw[hs];exact hp,by rw[hs];exact hn.symm,by simp[Tr.get_set],by simp[Tr.get_set],by simp[Tr.get_set],by simp[Tr.get_set],by simp[Tr.get_set]⟩
 |succ m'=>
  have e0:((m'+1:Nat):Int) - 1=(m':Int):=by omega
  have e1:decide ((m':Int)≥0)=true:=dec_t (by omega)
  have t1:IntKind.i64.wrap ((m':Int) - 1)=(m':Int) - 1:=wrap_int (by omega)
  have hr:=sift_run (k:=k) (hc d) hp.good (show id < H.length by omega) hw m' hi first hb (by omega) D' hp.same hn
  rw[Go.Sort.heapBuild] at hs
  generalize hQ:LQ _ _ _=Q
  rw[e0]
  simp (implicitDefEqProofs:=false) only[SP,SA,WP,sevalprocAttr,-List.reduceReplicate,bg_heapSort_l0,e1,hT.sift,envH0]
  refine wpO_mono hr ?_
  rintro⟨v,H'⟩ ⟨hv,hp',hs'⟩
  have hp2:=hp.trans hp'
  obtain⟨q1,q2,q3⟩:=hp2.clean rfl g0
  simp (implicitDefEqProofs:=false) only[SP,SA,WP,sevalprocAttr,-List.reduceReplicate,t1,clean,cutEnv,AV.cut,hid,q1,deep_eq']
  subst hQ
  exact⟨m',by omega,_,_,by omega,rfl,q3,q2,hs'.symm,hs⟩
theorem heap_pop (d first m:Nat) (hb:first+m≤n) (D:Array (List PV)) (H:List AObj) (hl:H.length=H0.length) (hp:Hp id sz P H0 D H) (hn:n=D.size):
 wpO (fun r=>∃ E H',r=(.exit 2,⟨E,H'⟩)∧Hp id sz P H0 (Go.Sort.heapPop (ltC cmp) first m D) H'∧(Go.Sort.heapPop (ltC cmp) first m D).size=n)
  (loopA (roundA (evalC (callL tab (d+2)) (bg_heapSort_l1 sz k)) (clean H0.length [0,3,8,9,12])) rounds ⟨envH1 id n first cix ((m:Int) - 1),H⟩):=by
 refine wpO_mono (loopA_wp (g:=roundA (evalC (callL tab (d+2)) (bg_heapSort_l1 sz k)) (clean H0.length [0,3,8,9,12]))
  (fun m' t=>∃ H D',m'≤m∧t=⟨envH1 id n first cix ((m':Int) - 1),H⟩∧H.length=H0.length∧Hp id sz P H0 D' H∧n=D'.size∧Go.Sort.heapPop (ltC cmp) first m D=Go.Sort.heapPop (ltC cmp) first m' D')
  rounds m _ (by unfold rounds;omega) ⟨H,D,by omega,rfl,hl,hp,hn,rfl⟩ ?_) (fun r h=>h.2)
 rintro m' t ⟨H,D',hm',rfl,hl,hp,hn,hs⟩
 cases m' with
 |zero=>
  have e1:decide (((0:Nat):Int) - 1≥0)=false:=by decide
  generalize hQ:LQ _ _ _=Q
  simp (implicitDefEqProofs:=false) only[SP,SA,WP,sevalprocAttr,-List.reduceReplicate,bg_heapSort_l1,e1,envH1]
  subst hQ
  exact⟨_,_,rfl,by rw[hs];exact hp,by rw[hs];exact hn.symm⟩
 |succ m'=>
  have e0:((m'+1:Nat):Int) - 1=(m':Int):=by omega
  have e1:decide ((m':Int)≥0)=true:=dec_t (by omega)
  have t1:IntKind.i64.wrap ((m':Int) - 1)=(m':Int) - 1:=wrap_int (by omega)
  have t2:IntKind.i64.wrap ((first:Int)+(m':Int))=((first+m':Nat):Int):=by rw[wrap_int (by omega)];omega
  have a1:=hp.iaddr (hc d).row hn (i:=((first+m':Nat):Int)) rfl (by omega)
  have a2:=hp.iaddr (hc d).row hn (i:=((first:Nat):Int)) rfl (by omega)
  have l1:=hp.load (hc d).row hn (k:=first+m') (by omega)
  have l2:=hp.load (hc d).row hn (k:=first) (by omega)
  obtain⟨H1,H2,s1,a3,s2,hp2,w1⟩:=hp_swap (hc d).row hp hn (i:=first) (j:=first+m') (by omega) (by omega)
  have hr:=sift_run (k:=k) (hc d) hp2.good (show id < H2.length by omega) hw 0 m' first (by omega) (by omega) _ hp2.same (by rw[swp_size];exact hn)
  rw[Go.Sort.heapPop] at hs
  generalize hQ:LQ _ _ _=Q
  rw[e0]
  simp (implicitDefEqProofs:=false) only[SP,SA,WP,sevalprocAttr,-List.reduceReplicate,bg_heapSort_l1,e1,t2,a1,a2,l1,l2,s1,a3,s2,hT.sift,envH1]
  refine wpO_mono hr ?_
  rintro⟨v,H'⟩ ⟨hv,hp',hs'⟩
  have hp3:=hp2.trans hp'
  obtain⟨q1,q2,q3⟩:=hp3.clean rfl g0
  simp (implicitDefEqProofs:=false) only[SP,SA,WP,sevalprocAttr,-List.reduceReplicate,t1,clean,cutEnv,AV.cut,hid,q1,deep_eq']
  subst hQ
  exact⟨m',by omega,_,_,by omega,rfl,q3,q2,hs'.symm,hs⟩
theorem heap_run (d a b:Nat) (hab:a < b) (hb:b≤n) (D:Array (List PV)) (hp:Hp id sz P H0 D H0) (hn:n=D.size):
 wpO (fun r=>r.1= .pv (.tup [])∧Hp id sz P H0 (Go.Sort.heapSort (ltC cmp) D a b) r.2∧(Go.Sort.heapSort (ltC cmp) D a b).size=n)
  (runF (callL tab (d+2)) (bg_heapSort sz k) [.own id n,.pv (i64 a),.pv (i64 b),.clo cix []] H0):=by
 have hcut:=HGood.cut g0
 have t1:IntKind.i64.wrap ((b:Int) - (a:Int))=((b - a:Nat):Int):=by rw[wrap_int (by omega)];omega
 have t2:IntKind.i64.wrap (((b - a:Nat):Int) - 1)=((b - a - 1:Nat):Int):=by rw[wrap_int (by omega)];omega
 have t3:IntKind.i64.wrap ((((b - a - 1:Nat):Int)).tdiv 2)=(((b - a - 1) / 2+1:Nat):Int) - 1:=by
  rw[Int.tdiv_eq_ediv_of_nonneg (by omega),wrap_int (by omega)];omega
 have t4:((b - a - 1:Nat):Int)=((b - a:Nat):Int) - 1:=by omega
 have ho:=heap_build (k:=k) hT hc g0 hid hw d (b - a) a ((b - a - 1) / 2+1) (by omega) (by omega) D H0 rfl hp hn
 unfold Go.Sort.heapSort
 simp (implicitDefEqProofs:=false) only[SP,SA,WP,sevalprocAttr,-List.reduceReplicate,bg_heapSort,C_loop,t1,t2,t3,clean,cutEnv,AV.cut,hid,List.take_length,hcut,deep_eq']
 refine wpO_mono ho ?_
 rintro _ ⟨E,H',rfl,hp',hs',g0',g3,g8,g9,g10⟩
 have hid':id < H'.length:=Nat.lt_of_lt_of_le hid hp'.le
 have ho2:=heap_pop (k:=k) hT hc hp'.good hid' hw d a (b - a) (by omega) _ H' rfl hp'.same hs'.symm
 simp (implicitDefEqProofs:=false) only[SP,SA,WP,sevalprocAttr,-List.reduceReplicate,C_loop,g0',g3,g8,g9,g10,t2,t4,clean,cutEnv,AV.cut,hid',List.take_length,HGood.cut hp'.good,deep_eq']
 refine wpO_mono ho2 ?_
 rintro _ ⟨E',H'',rfl,hp2,hs2⟩
 simp (implicitDefEqProofs:=false) only[SP,SA,WP,sevalprocAttr,-List.reduceReplicate]
 exact⟨hp'.trans hp2,hs2⟩
end
end Go.AM.B1
namespace Go.AM.B1
open Go.AM Go.AM.So
theorem get_top (A:List AObj) (o:AObj):(A++[o])[A.length]? =some o:=by simp
theorem set_top (A:List AObj) (o o':AObj):(A++[o]).set A.length o'=A++[o']:=by
 rw[List.set_append_right _ _ (Nat.le_refl _)];simp
theorem load_box (A:List AObj) (v:AV):loadA (A++[.box [v]]) false 1 (.ptr A.length 0)=some v:=by
 simp[loadA,partA]
theorem store_box (A:List AObj) (v w:AV) (hw:w.cells=[w]) (h1:w.one=true):storeA (A++[.box [v]]) 1 (.ptr A.length 0) w=some (A++[.box [w]]):=by
 simp only[storeA,hw,get_top,set_top,List.length_cons,List.length_nil,List.all,h1]
 simp[setRow]
theorem place_box (A:List AObj) (cs:List AV):place (A++[.box cs]) 0 (.ptr A.length 0)=some (.ptr A.length 0):=by
 simp[place]
def hintI:Go.Sort.Hint→Int
 | .unknown=>0
 | .increasing=>1
 | .decreasing=>2
section
variable {id sz:Nat} {P:List PV→Prop} {H0 H:List AObj} {D:Array (List PV)}
theorem hp_push (h:Hp id sz P H0 D H) {o:AObj} (ho:∀ n,cutObj n o=some o):Hp id sz P H0 D (H++[o]):=by
 have hlt:=Nat.lt_of_lt_of_le h.lt h.le
 refine⟨by rw[List.length_append];exact Nat.le_trans h.le (Nat.le_add_right _ _),?_,?_,?_,h.rows,h.lt⟩
 ·intro n hn x hx
  rcases List.mem_append.1 hx with hx | hx
  ·exact h.good n (by rw[List.length_append] at hn;omega) x hx
  ·simp at hx;subst hx;exact ho n
 ·intro k hk hne
  rw[List.getElem?_append_left (Nat.lt_of_lt_of_le hk h.le)];exact h.keep k hk hne
 ·obtain⟨fl,nl,hf,hg⟩:=h.get
  exact⟨fl,nl,hf,by rw[List.getElem?_append_left hlt];exact hg⟩
theorem cut_ibox (n:Nat) (k:IntKind) (x:Int):cutObj n (.box [.pv (.int k x)])=some (.box [.pv (.int k x)]):=by
 simp[cutObj,mapO,cut_pv]
end
section
variable {call:CallF} {sz k cix:Nat} {P:List PV→Prop} {cmp:List PV→List PV→Int} (hc:Cmp call sz cix P cmp)
 {id n:Nat} {H0:List AObj} {D:Array (List PV)} (hp:Hp id sz P H0 D H0) (hn:n=D.size)
include hc hp hn
theorem order2_run (a b s:Nat) (ha:a < n) (hb:b < n) (hs:s≤1000):
 runF call (bg_order2 sz k) [.own id n,.pv (i64 a),.pv (i64 b),.ptr H0.length 0,.clo cix []] (H0++[.box [.pv (i64 s)]])=
  some (.pv (.tup [i64 (Go.Sort.order2 (ltC cmp) D a b s).1,i64 (Go.Sort.order2 (ltC cmp) D a b s).2.1]),H0++[.box [.pv (i64 (Go.Sort.order2 (ltC cmp) D a b s).2.2)]]):=by
 have hq:=hp_push hp (o:= .box [.pv (i64 s)]) (fun n=>cut_ibox n _ _)
 have a1:=hq.iaddr hc.row hn (i:=(a:Int)) rfl (by omega)
 have a2:=hq.iaddr hc.row hn (i:=(b:Int)) rfl (by omega)
 have l1:=hq.load hc.row hn (k:=a) (by omega)
 have l2:=hq.load hc.row hn (k:=b) (by omega)
 have c1:=hc.run (H0++[.box [.pv (i64 s)]]) _ _ (hp.rows _ (getB_mem (i:=b) (by omega))) (hp.rows _ (getB_mem (i:=a) (by omega)))
 have t1:IntKind.i64.wrap ((s:Int)+1)=((s+1:Nat):Int):=by rw[wrap_int (by omega)];omega
 have b1:=load_box H0 (.pv (i64 s))
 have b2:=store_box H0 (.pv (i64 s)) (.pv (i64 (s+1:Nat))) rfl rfl
 have b3:=place_box H0 [.pv (i64 s)]
 unfold Go.Sort.order2
 by_cases hlt:cmp D[b]! D[a]! < 0
 ·have e2:decide (cmp D[b]! D[a]! < 0)=true:=dec_t hlt
  rw[if_pos (show ltC cmp D[b]! D[a]! =true from e2)]
  simp (implicitDefEqProofs:=false) only[SP,SA,WP,sevalprocAttr,-List.reduceReplicate,bg_order2,e2,a1,a2,l1,l2,c1,t1,b1,b2,b3]
 ·have e2:decide (cmp D[b]! D[a]! < 0)=false:=dec_f hlt
  rw[if_neg (show ¬ltC cmp D[b]! D[a]! =true by rw[show ltC cmp D[b]! D[a]! =false from e2];simp)]
  simp (implicitDefEqProofs:=false) only[SP,SA,WP,sevalprocAttr,-List.reduceReplicate,bg_order2,e2,a1,a2,l1,l2,c1]
end
theorem order2_lt {α:Type} [Inhabited α] {lt:α→α→Bool} {D:Array α} {a b s n:Nat} (ha:a < n) (hb:b < n):(Go.Sort.order2 lt D a b s).1 < n∧(Go.Sort.order2 lt D a b s).2.1 < n∧(Go.Sort.order2 lt D a b s).2.2≤s+1:=by
 unfold Go.Sort.order2
 split
 ·exact⟨hb,ha,Nat.le_refl _⟩
 ·exact⟨ha,hb,Nat.le_succ _⟩
section
variable {tab:Nat→Option AFn} {sz k cix:Nat} {P:List PV→Prop} {cmp:List PV→List PV→Int} (hT:SortTab tab sz k) (hc:∀ d,Cmp (callL tab (d+1)) sz cix P cmp)
 {id n:Nat} {H0:List AObj} {D:Array (List PV)} (hp:Hp id sz P H0 D H0) (hn:n=D.size)
include hT hc hp hn
theorem median_run (d a b c s:Nat) (ha:a < n) (hb:b < n) (hc':c < n) (hs:s≤100):
 runF (callL tab (d+2)) (bg_median sz k) [.own id n,.pv (i64 a),.pv (i64 b),.pv (i64 c),.ptr H0.length 0,.clo cix []] (H0++[.box [.pv (i64 s)]])=
  some (.pv (i64 (Go.Sort.median (ltC cmp) D a b c s).1),H0++[.box [.pv (i64 (Go.Sort.median (ltC cmp) D a b c s).2)]]):=by
 unfold Go.Sort.median
 dsimp only
 have q1:=order2_run (k:=k) (hc d) hp hn a b s ha hb (by omega)
 have k1:=order2_lt (lt:=ltC cmp) (D:=D) (s:=s) ha hb
 generalize Go.Sort.order2 (ltC cmp) D a b s=r1 at *
 have q2:=order2_run (k:=k) (hc d) hp hn r1.2.1 c r1.2.2 k1.2.1 hc' (by omega)
 have k2:=order2_lt (lt:=ltC cmp) (D:=D) (s:=r1.2.2) k1.2.1 hc'
 generalize Go.Sort.order2 (ltC cmp) D r1.2.1 c r1.2.2=r2 at *
 have q3:=order2_run (k:=k) (hc d) hp hn r1.1 r2.1 r2.2.2 k1.1 k2.1 (by omega)
 generalize Go.Sort.order2 (ltC cmp) D r1.1 r2.1 r2.2.2=r3 at *
 simp (implicitDefEqProofs:=false) only[SP,SA,WP,sevalprocAttr,-List.reduceReplicate,bg_median,hT.ord,q1,q2,q3]
theorem pivot_run (hw:n≤1000000) (d a b:Nat) (hab:a+8≤b) (hb:b≤n) (h50:b < a+50):
 ∃ o,(∀ n,cutObj n o=some o)∧runF (callL tab (d+3)) (bg_choosePivot sz k) [.own id n,.pv (i64 a),.pv (i64 b),.clo cix []] H0=
  some (.pv (.tup [i64 (Go.Sort.choosePivot (ltC cmp) D a b).1,i64 (hintI (Go.Sort.choosePivot (ltC cmp) D a b).2)]),H0++[o]):=by
 have hm:=median_run (k:=k) hT hc hp hn d (a+(b - a) / 4 * 1) (a+(b - a) / 4 * 2) (a+(b - a) / 4 * 3) 0 (by omega) (by omega) (by omega) (by omega)
 have t1:IntKind.i64.wrap ((b:Int) - (a:Int))=((b - a:Nat):Int):=by rw[wrap_int (by omega)];omega
 have t2:IntKind.i64.wrap (((b - a:Nat):Int).tdiv 4)=(((b - a) / 4:Nat):Int):=by
  rw[Int.tdiv_eq_ediv_of_nonneg (by omega),wrap_int (by omega)];omega
 have m1:IntKind.i64.wrap ((((b - a) / 4:Nat):Int) * 1)=(((b - a) / 4:Nat):Int):=by rw[wrap_int (by omega)];omega
 have m2:IntKind.i64.wrap ((((b - a) / 4:Nat):Int) * 2)=(((b - a) / 4 * 2:Nat):Int):=by rw[wrap_int (by omega)];omega
 have m3:IntKind.i64.wrap ((((b - a) / 4:Nat):Int) * 3)=(((b - a) / 4 * 3:Nat):Int):=by rw[wrap_int (by omega)];omega
 have p1:IntKind.i64.wrap ((a:Int)+(((b - a) / 4:Nat):Int))=((a+(b - a) / 4:Nat):Int):=by rw[wrap_int (by omega)];omega
 have p2:IntKind.i64.wrap ((a:Int)+(((b - a) / 4 * 2:Nat):Int))=((a+(b - a) / 4 * 2:Nat):Int):=by rw[wrap_int (by omega)];omega
 have p3:IntKind.i64.wrap ((a:Int)+(((b - a) / 4 * 3:Nat):Int))=((a+(b - a) / 4 * 3:Nat):Int):=by rw[wrap_int (by omega)];omega
 have e8:decide (((b - a:Nat):Int)≥8)=true:=dec_t (by omega)
 have e50:decide (((b - a:Nat):Int)≥50)=false:=dec_f (by omega)
 have hcp:Go.Sort.choosePivot (ltC cmp) D a b=((Go.Sort.median (ltC cmp) D (a+(b - a) / 4 * 1) (a+(b - a) / 4 * 2) (a+(b - a) / 4 * 3) 0).1,if (Go.Sort.median (ltC cmp) D (a+(b - a) / 4 * 1) (a+(b - a) / 4 * 2) (a+(b - a) / 4 * 3) 0).2=0 then .increasing else if (Go.Sort.median (ltC cmp) D (a+(b - a) / 4 * 1) (a+(b - a) / 4 * 2) (a+(b - a) / 4 * 3) 0).2=12 then .decreasing else .unknown):=by
  unfold Go.Sort.choosePivot
  dsimp only
  rw[if_pos (by omega:b - a≥8),if_neg (by omega:¬b - a≥50)]
 rw[hcp]
 rw[Nat.mul_one] at hm ⊢
 generalize Go.Sort.median (ltC cmp) D (a+(b - a) / 4) (a+(b - a) / 4 * 2) (a+(b - a) / 4 * 3) 0=r at *
 have hm0:runF (callL tab (d+2)) (bg_median sz k) [.own id n,.pv (i64 (a+(b - a) / 4:Nat)),.pv (i64 (a+(b - a) / 4 * 2:Nat)),.pv (i64 (a+(b - a) / 4 * 3:Nat)),.ptr H0.length 0,.clo cix []] (H0++[.box [.pv (.int .i64 0)]])=_:=hm
 have b1:=load_box H0 (.pv (i64 r.2))
 refine⟨.box [.pv (i64 r.2)],fun n=>cut_ibox n _ _,?_⟩
 by_cases h0:r.2=0
 ·have e0:((r.2:Int)==0)=true:=by simp[h0]
  rw[if_pos h0]
  simp (implicitDefEqProofs:=false) only[SP,SA,WP,sevalprocAttr,-List.reduceReplicate,bg_choosePivot,hT.med,t1,t2,m1,m2,m3,p1,p2,p3,e8,e50,hm0,b1,e0,hintI]
 ·have e0:((r.2:Int)==0)=false:=by simp[h0]
  rw[if_neg h0]
  by_cases h12:r.2=12
  ·have e12:((r.2:Int)==12)=true:=by simp[h12]
   rw[if_pos h12]
   simp (implicitDefEqProofs:=false) only[SP,SA,WP,sevalprocAttr,-List.reduceReplicate,bg_choosePivot,hT.med,t1,t2,m1,m2,m3,p1,p2,p3,e8,e50,hm0,b1,e0,e12,hintI]
  ·have e12:((r.2:Int)==12)=false:=beq_ne (by omega)
   rw[if_neg h12]
   simp (implicitDefEqProofs:=false) only[SP,SA,WP,sevalprocAttr,-List.reduceReplicate,bg_choosePivot,hT.med,t1,t2,m1,m2,m3,p1,p2,p3,e8,e50,hm0,b1,e0,e12,hintI]
end
section
variable {call:CallF} {sz k cix:Nat} {P:List PV→Prop} {cmp:List PV→List PV→Int} (hc:Cmp call sz cix P cmp)
 {id n:Nat} {H0:List AObj} (g0:HGood H0) (hid:id < H0.length) (hw:n≤1000000)
abbrev envRv (id n i j:Nat):Tr:=((Tr.lf.set 9 (.pv (i64 j))).set 8 (.pv (i64 i))).set 0 (.own id n)
include hc g0 hid hw
theorem rev_loop (i j:Nat) (hj:j < n) (D:Array (List PV)) (H:List AObj) (hl:H.length=H0.length) (hp:Hp id sz P H0 D H) (hn:n=D.size):
 wpO (fun r=>∃ E H',r=(.exit 0,⟨E,H'⟩)∧Hp id sz P H0 (Go.Sort.reverseLoop i j D) H'∧(Go.Sort.reverseLoop i j D).size=n)
  (loopA (roundA (evalC call (bg_reverseRange_l0 sz k)) (clean H0.length [0,8,9])) rounds ⟨envRv id n i j,H⟩):=by
 refine wpO_mono (loopA_wp (g:=roundA (evalC call (bg_reverseRange_l0 sz k)) (clean H0.length [0,8,9]))
  (fun m t=>∃ H D' i' j',m=j' - i'∧j' < n∧t=⟨envRv id n i' j',H⟩∧H.length=H0.length∧Hp id sz P H0 D' H∧n=D'.size∧Go.Sort.reverseLoop i j D=Go.Sort.reverseLoop i' j' D')
  rounds (j - i) _ (by unfold rounds;omega) ⟨H,D,i,j,rfl,hj,rfl,hl,hp,hn,rfl⟩ ?_) (fun r h=>h.2)
 rintro m t ⟨H,D',i',j',rfl,hj',rfl,hl,hp,hn,hs⟩
 have hu:Go.Sort.reverseLoop i' j' D'=if i' < j' then Go.Sort.reverseLoop (i'+1) (j' - 1) (Go.Sort.swp D' i' j') else D':=by rw[Go.Sort.reverseLoop]
 rw[hu] at hs
 by_cases hij:i' < j'
 ·rw[if_pos hij] at hs
  have e1:decide ((i':Int) < (j':Int))=true:=dec_t (by omega)
  have t1:IntKind.i64.wrap ((i':Int)+1)=((i'+1:Nat):Int):=wrap_int (by omega)
  have t2:IntKind.i64.wrap ((j':Int) - 1)=((j' - 1:Nat):Int):=by rw[wrap_int (by omega)];omega
  have a1:=hp.iaddr hc.row hn (i:=(i':Int)) rfl (by omega)
  have a2:=hp.iaddr hc.row hn (i:=(j':Int)) rfl (by omega)
  have l1:=hp.load hc.row hn (k:=i') (by omega)
  have l2:=hp.load hc.row hn (k:=j') (by omega)
  obtain⟨H1,H2,s1,a3,s2,hp2,w1⟩:=hp_swap hc.row hp hn (i:=i') (j:=j') (by omega) (by omega)
  obtain⟨q1,q2,q3⟩:=hp2.clean rfl g0
  generalize hQ:LQ _ _ _=Q
  simp (implicitDefEqProofs:=false) only[SP,SA,WP,sevalprocAttr,-List.reduceReplicate,bg_reverseRange_l0,e1,t1,t2,a1,a2,l1,l2,s1,a3,s2,clean,cutEnv,AV.cut,hid,q1,deep_eq',envRv]
  subst hQ
  exact⟨j' - 1 - (i'+1),by omega,_,_,i'+1,j' - 1,rfl,by omega,rfl,q3,q2,by rw[swp_size];exact hn,hs⟩
 ·rw[if_neg hij] at hs
  have e1:decide ((i':Int) < (j':Int))=false:=dec_f (by omega)
  generalize hQ:LQ _ _ _=Q
  simp (implicitDefEqProofs:=false) only[SP,SA,WP,sevalprocAttr,-List.reduceReplicate,bg_reverseRange_l0,e1,envRv]
  subst hQ
  exact⟨_,_,rfl,by rw[hs];exact hp,by rw[hs,hn]⟩
theorem rev_run (a b:Nat) (ha:a < b) (hb:b≤n) (D:Array (List PV)) (hp:Hp id sz P H0 D H0) (hn:n=D.size) (v:AV):
 wpO (fun r=>r.1= .pv (.tup [])∧Hp id sz P H0 (Go.Sort.reverseRange D a b) r.2∧(Go.Sort.reverseRange D a b).size=n)
  (runF call (bg_reverseRange sz k) [.own id n,.pv (i64 a),.pv (i64 b),v] H0):=by
 have t1:IntKind.i64.wrap ((b:Int) - 1)=((b - 1:Nat):Int):=by rw[wrap_int (by omega)];omega
 have ho:=rev_loop (k:=k) hc g0 hid hw a (b - 1) (by omega) D H0 rfl hp hn
 simp (implicitDefEqProofs:=false) only[SP,SA,WP,sevalprocAttr,-List.reduceReplicate,bg_reverseRange,C_loop,t1,clean,cutEnv,AV.cut,hid,List.take_length,HGood.cut g0,deep_eq']
 refine wpO_mono ho ?_
 rintro _ ⟨E,H',rfl,hp',hs'⟩
 simp (implicitDefEqProofs:=false) only[SP,SA,WP,sevalprocAttr,-List.reduceReplicate]
 exact⟨hp',hs'⟩
end
end Go.AM.B1
namespace Go.AM.B1
open Go.AM Go.AM.So
section
variable {call:CallF} {sz k cix:Nat} {P:List PV→Prop} {cmp:List PV→List PV→Int} (hc:Cmp call sz cix P cmp)
 {id n:Nat} {H0:List AObj} {D:Array (List PV)} (hp:Hp id sz P H0 D H0) (hn:n=D.size) (hw:n≤1000000)
abbrev envP12 (id n a cix i j:Nat):Tr:=((((Tr.lf.set 13 (.pv (i64 j))).set 12 (.pv (i64 i))).set 4 (.clo cix [])).set 1 (.pv (i64 a))).set 0 (.own id n)
abbrev envP11 (id n a cix i j:Nat):Tr:=((((Tr.lf.set 12 (.pv (i64 j))).set 11 (.pv (i64 i))).set 4 (.clo cix [])).set 1 (.pv (i64 a))).set 0 (.own id n)
include hc hp hn hw
theorem part_up0 (a i j:Nat) (ha:a < n) (hj:j < n):wpO (fun r=>∃ E,r=(.exit 0,⟨E,H0⟩)∧E.get 0= .own id n∧E.get 1= .pv (i64 a)∧E.get 4= .clo cix []∧E.get 12= .pv (i64 (Go.Sort.scanUp (fun x=>ltC cmp x D[a]!) D j i:Nat))∧E.get 13= .pv (i64 (j:Nat)))
 (loopA (roundA (evalC call (bg_partition_l0 sz k)) (clean H0.length [0,1,4,12,13])) rounds ⟨envP12 id n a cix i j,H0⟩):=by
 refine wpO_mono (loopA_wp (g:=roundA (evalC call (bg_partition_l0 sz k)) (clean H0.length [0,1,4,12,13]))
  (fun m t=>∃ i',m=j+1 - i'∧t=⟨envP12 id n a cix i' j,H0⟩∧Go.Sort.scanUp (fun x=>ltC cmp x D[a]!) D j i=Go.Sort.scanUp (fun x=>ltC cmp x D[a]!) D j i')
  rounds (j+1 - i) _ (by unfold rounds;omega) ⟨i,rfl,rfl,rfl⟩ ?_) (fun r h=>h.2)
 rintro m t ⟨i',rfl,rfl,hs⟩
 have hid:=hp.lt
 have hcut:=HGood.cut hp.good
 have hu:Go.Sort.scanUp (fun x=>ltC cmp x D[a]!) D j i'=if i'≤j&&ltC cmp D[i']! D[a]! then Go.Sort.scanUp (fun x=>ltC cmp x D[a]!) D j (i'+1) else i':=by rw[Go.Sort.scanUp]
 rw[hu] at hs
 by_cases hij:i'≤j
 ·have e1:decide ((i':Int)≤(j:Int))=true:=dec_t (by omega)
  have t1:IntKind.i64.wrap ((i':Int)+1)=((i'+1:Nat):Int):=wrap_int (by omega)
  have a1:=hp.iaddr hc.row hn (i:=(i':Int)) rfl (by omega)
  have a2:=hp.iaddr hc.row hn (i:=(a:Int)) rfl (by omega)
  have l1:=hp.load hc.row hn (k:=i') (by omega)
  have l2:=hp.load hc.row hn (k:=a) (by omega)
  have c1:=hc.run H0 _ _ (hp.rows _ (getB_mem (i:=i') (by omega))) (hp.rows _ (getB_mem (i:=a) (by omega)))
  rw[dec_t hij,Bool.true_and] at hs
  generalize hQ:LQ _ _ _=Q
  by_cases hlt:cmp D[i']! D[a]! < 0
  ·have e2:decide (cmp D[i']! D[a]! < 0)=true:=dec_t hlt
   have e3:ltC cmp D[i']! D[a]! =true:=e2
   rw[e3] at hs
   simp (implicitDefEqProofs:=false) only[SP,SA,WP,sevalprocAttr,-List.reduceReplicate,bg_partition_l0,e1,e2,t1,a1,a2,l1,l2,c1,clean,cutEnv,AV.cut,hid,List.take_length,hcut,deep_eq',envP12]
   subst hQ
   exact⟨j+1 - (i'+1),by omega,i'+1,rfl,rfl,hs⟩
  ·have e2:decide (cmp D[i']! D[a]! < 0)=false:=dec_f hlt
   have e3:ltC cmp D[i']! D[a]! =false:=e2
   rw[e3] at hs
   simp (implicitDefEqProofs:=false) only[SP,SA,WP,sevalprocAttr,-List.reduceReplicate,bg_partition_l0,e1,e2,t1,a1,a2,l1,l2,c1,clean,cutEnv,AV.cut,hid,List.take_length,hcut,deep_eq',envP12]
   subst hQ
   exact⟨_,rfl,by simp[Tr.get_set],by simp[Tr.get_set],by simp[Tr.get_set],by simp[Tr.get_set,hs],by simp[Tr.get_set]⟩
 ·have e1:decide ((i':Int)≤(j:Int))=false:=dec_f (by omega)
  rw[dec_f hij,Bool.false_and] at hs
  generalize hQ:LQ _ _ _=Q
  simp (implicitDefEqProofs:=false) only[SP,SA,WP,sevalprocAttr,-List.reduceReplicate,bg_partition_l0,e1,envP12]
  subst hQ
  exact⟨_,rfl,by simp[Tr.get_set],by simp[Tr.get_set],by simp[Tr.get_set],by simp[Tr.get_set,hs],by simp[Tr.get_set]⟩
theorem part_dn0 (a i j:Nat) (ha:a < n) (hj:j < n) (hi:1≤i):wpO (fun r=>∃ E,r=(.exit 2,⟨E,H0⟩)∧E.get 0= .own id n∧E.get 1= .pv (i64 a)∧E.get 4= .clo cix []∧E.get 12= .pv (i64 (i:Nat))∧E.get 13= .pv (i64 (Go.Sort.scanDown (fun x=> !ltC cmp x D[a]!) D i j:Nat)))
 (loopA (roundA (evalC call (bg_partition_l1 sz k)) (clean H0.length [0,1,4,12,13])) rounds ⟨envP12 id n a cix i j,H0⟩):=by
 refine wpO_mono (loopA_wp (g:=roundA (evalC call (bg_partition_l1 sz k)) (clean H0.length [0,1,4,12,13]))
  (fun m t=>m≤j∧t=⟨envP12 id n a cix i m,H0⟩∧Go.Sort.scanDown (fun x=> !ltC cmp x D[a]!) D i j=Go.Sort.scanDown (fun x=> !ltC cmp x D[a]!) D i m)
  rounds j _ (by unfold rounds;omega) ⟨Nat.le_refl _,rfl,rfl⟩ ?_) (fun r h=>h.2)
 rintro m t ⟨hm,rfl,hs⟩
 have hid:=hp.lt
 have hcut:=HGood.cut hp.good
 by_cases hij:i≤m
 ·obtain⟨m,rfl⟩:∃ m',m=m'+1:=⟨m - 1,by omega⟩
  have e1:decide ((i:Int)≤((m+1:Nat):Int))=true:=dec_t (by omega)
  have t1:IntKind.i64.wrap (((m+1:Nat):Int) - 1)=(m:Int):=by rw[wrap_int (by omega)];omega
  have a1:=hp.iaddr hc.row hn (i:=((m+1:Nat):Int)) rfl (by omega)
  have a2:=hp.iaddr hc.row hn (i:=(a:Int)) rfl (by omega)
  have l1:=hp.load hc.row hn (k:=m+1) (by omega)
  have l2:=hp.load hc.row hn (k:=a) (by omega)
  have c1:=hc.run H0 _ _ (hp.rows _ (getB_mem (i:=m+1) (by omega))) (hp.rows _ (getB_mem (i:=a) (by omega)))
  rw[Go.Sort.scanDown,dec_t hij,Bool.true_and] at hs
  generalize hQ:LQ _ _ _=Q
  by_cases hlt:cmp D[m+1]! D[a]! < 0
  ·have e2:decide (cmp D[m+1]! D[a]! < 0)=true:=dec_t hlt
   have e3:ltC cmp D[m+1]! D[a]! =true:=e2
   rw[e3] at hs
   simp (implicitDefEqProofs:=false) only[SP,SA,WP,sevalprocAttr,-List.reduceReplicate,bg_partition_l1,e1,e2,t1,a1,a2,l1,l2,c1,clean,cutEnv,AV.cut,hid,List.take_length,hcut,deep_eq',envP12]
   subst hQ
   exact⟨_,rfl,by simp[Tr.get_set],by simp[Tr.get_set],by simp[Tr.get_set],by simp[Tr.get_set],by simp[Tr.get_set,hs]⟩
  ·have e2:decide (cmp D[m+1]! D[a]! < 0)=false:=dec_f hlt
   have e3:ltC cmp D[m+1]! D[a]! =false:=e2
   rw[e3] at hs
   simp (implicitDefEqProofs:=false) only[SP,SA,WP,sevalprocAttr,-List.reduceReplicate,bg_partition_l1,e1,e2,t1,a1,a2,l1,l2,c1,clean,cutEnv,AV.cut,hid,List.take_length,hcut,deep_eq',envP12]
   subst hQ
   exact⟨m,by omega,by omega,rfl,hs⟩
 ·have e1:decide ((i:Int)≤(m:Int))=false:=dec_f (by omega)
  have hs':Go.Sort.scanDown (fun x=> !ltC cmp x D[a]!) D i j=m:=by
   rw[hs]
   cases m with
   |zero=>rfl
   |succ m=>rw[Go.Sort.scanDown,dec_f hij];rfl
  generalize hQ:LQ _ _ _=Q
  simp (implicitDefEqProofs:=false) only[SP,SA,WP,sevalprocAttr,-List.reduceReplicate,bg_partition_l1,e1,envP12]
  subst hQ
  exact⟨_,rfl,by simp[Tr.get_set],by simp[Tr.get_set],by simp[Tr.get_set],by simp[Tr.get_set],by simp[Tr.get_set,hs']⟩
theorem part_up (a i j:Nat) (ha:a < n) (hj:j < n):wpO (fun r=>∃ E,r=(.exit 6,⟨E,H0⟩)∧E.get 0= .own id n∧E.get 1= .pv (i64 a)∧E.get 4= .clo cix []∧E.get 12= .pv (i64 (Go.Sort.scanUp (fun x=>ltC cmp x D[a]!) D j i:Nat))∧E.get 13= .pv (i64 (j:Nat)))
 (loopA (roundA (evalC call (bg_partition_l3 sz k)) (clean H0.length [0,1,4,12,13])) rounds ⟨envP12 id n a cix i j,H0⟩):=by
 refine wpO_mono (loopA_wp (g:=roundA (evalC call (bg_partition_l3 sz k)) (clean H0.length [0,1,4,12,13]))
  (fun m t=>∃ i',m=j+1 - i'∧t=⟨envP12 id n a cix i' j,H0⟩∧Go.Sort.scanUp (fun x=>ltC cmp x D[a]!) D j i=Go.Sort.scanUp (fun x=>ltC cmp x D[a]!) D j i')
  rounds (j+1 - i) _ (by unfold rounds;omega) ⟨i,rfl,rfl,rfl⟩ ?_) (fun r h=>h.2)
 rintro m t ⟨i',rfl,rfl,hs⟩
 have hid:=hp.lt
 have hcut:=HGood.cut hp.good
 have hu:Go.Sort.scanUp (fun x=>ltC cmp x D[a]!) D j i'=if i'≤j&&ltC cmp D[i']! D[a]! then Go.Sort.scanUp (fun x=>ltC cmp x D[a]!) D j (i'+1) else i':=by rw[Go.Sort.scanUp]
 rw[hu] at hs
 by_cases hij:i'≤j
 ·have e1:decide ((i':Int)≤(j:Int))=true:=dec_t (by omega)
  have t1:IntKind.i64.wrap ((i':Int)+1)=((i'+1:Nat):Int):=wrap_int (by omega)
  have a1:=hp.iaddr hc.row hn (i:=(i':Int)) rfl (by omega)
  have a2:=hp.iaddr hc.row hn (i:=(a:Int)) rfl (by omega)
  have l1:=hp.load hc.row hn (k:=i') (by omega)
  have l2:=hp.load hc.row hn (k:=a) (by omega)
  have c1:=hc.run H0 _ _ (hp.rows _ (getB_mem (i:=i') (by omega))) (hp.rows _ (getB_mem (i:=a) (by omega)))
  rw[dec_t hij,Bool.true_and] at hs
  generalize hQ:LQ _ _ _=Q
  by_cases hlt:cmp D[i']! D[a]! < 0
  ·have e2:decide (cmp D[i']! D[a]! < 0)=true:=dec_t hlt
   have e3:ltC cmp D[i']! D[a]! =true:=e2
   rw[e3] at hs
   simp (implicitDefEqProofs:=false) only[SP,SA,WP,sevalprocAttr,-List.reduceReplicate,bg_partition_l3,e1,e2,t1,a1,a2,l1,l2,c1,clean,cutEnv,AV.cut,hid,List.take_length,hcut,deep_eq',envP12]
   subst hQ
   exact⟨j+1 - (i'+1),by omega,i'+1,rfl,rfl,hs⟩
  ·have e2:decide (cmp D[i']! D[a]! < 0)=false:=dec_f hlt
   have e3:ltC cmp D[i']! D[a]! =false:=e2
   rw[e3] at hs
   simp (implicitDefEqProofs:=false) only[SP,SA,WP,sevalprocAttr,-List.reduceReplicate,bg_partition_l3,e1,e2,t1,a1,a2,l1,l2,c1,clean,cutEnv,AV.cut,hid,List.take_length,hcut,deep_eq',envP12]
   subst hQ
   exact⟨_,rfl,by simp[Tr.get_set],by simp[Tr.get_set],by simp[Tr.get_set],by simp[Tr.get_set,hs],by simp[Tr.get_set]⟩
 ·have e1:decide ((i':Int)≤(j:Int))=false:=dec_f (by omega)
  rw[dec_f hij,Bool.false_and] at hs
  generalize hQ:LQ _ _ _=Q
  simp (implicitDefEqProofs:=false) only[SP,SA,WP,sevalprocAttr,-List.reduceReplicate,bg_partition_l3,e1,envP12]
  subst hQ
  exact⟨_,rfl,by simp[Tr.get_set],by simp[Tr.get_set],by simp[Tr.get_set],by simp[Tr.get_set,hs],by simp[Tr.get_set]⟩
theorem part_dn (a i j:Nat) (ha:a < n) (hj:j < n) (hi:1≤i):wpO (fun r=>∃ E,r=(.exit 8,⟨E,H0⟩)∧E.get 0= .own id n∧E.get 1= .pv (i64 a)∧E.get 4= .clo cix []∧E.get 12= .pv (i64 (i:Nat))∧E.get 13= .pv (i64 (Go.Sort.scanDown (fun x=> !ltC cmp x D[a]!) D i j:Nat)))
 (loopA (roundA (evalC call (bg_partition_l4 sz k)) (clean H0.length [0,1,4,12,13])) rounds ⟨envP12 id n a cix i j,H0⟩):=by
 refine wpO_mono (loopA_wp (g:=roundA (evalC call (bg_partition_l4 sz k)) (clean H0.length [0,1,4,12,13]))
  (fun m t=>m≤j∧t=⟨envP12 id n a cix i m,H0⟩∧Go.Sort.scanDown (fun x=> !ltC cmp x D[a]!) D i j=Go.Sort.scanDown (fun x=> !ltC cmp x D[a]!) D i m)
  rounds j _ (by unfold rounds;omega) ⟨Nat.le_refl _,rfl,rfl⟩ ?_) (fun r h=>h.2)
 rintro m t ⟨hm,rfl,hs⟩
 have hid:=hp.lt
 have hcut:=HGood.cut hp.good
 by_cases hij:i≤m
 ·obtain⟨m,rfl⟩:∃ m',m=m'+1:=⟨m - 1,by omega⟩
  have e1:decide ((i:Int)≤((m+1:Nat):Int))=true:=dec_t (by omega)
  have t1:IntKind.i64.wrap (((m+1:Nat):Int) - 1)=(m:Int):=by rw[wrap_int (by omega)];omega
  have a1:=hp.iaddr hc.row hn (i:=((m+1:Nat):Int)) rfl (by omega)
  have a2:=hp.iaddr hc.row hn (i:=(a:Int)) rfl (by omega)
  have l1:=hp.load hc.row hn (k:=m+1) (by omega)
  have l2:=hp.load hc.row hn (k:=a) (by omega)
  have c1:=hc.run H0 _ _ (hp.rows _ (getB_mem (i:=m+1) (by omega))) (hp.rows _ (getB_mem (i:=a) (by omega)))
  rw[Go.Sort.scanDown,dec_t hij,Bool.true_and] at hs
  generalize hQ:LQ _ _ _=Q
  by_cases hlt:cmp D[m+1]! D[a]! < 0
  ·have e2:decide (cmp D[m+1]! D[a]! < 0)=true:=dec_t hlt
   have e3:ltC cmp D[m+1]! D[a]! =true:=e2
   rw[e3] at hs
   simp (implicitDefEqProofs:=false) only[SP,SA,WP,sevalprocAttr,-List.reduceReplicate,bg_partition_l4,e1,e2,t1,a1,a2,l1,l2,c1,clean,cutEnv,AV.cut,hid,List.take_length,hcut,deep_eq',envP12]
   subst hQ
   exact⟨_,rfl,by simp[Tr.get_set],by simp[Tr.get_set],by simp[Tr.get_set],by simp[Tr.get_set],by simp[Tr.get_set,hs]⟩
  ·have e2:decide (cmp D[m+1]! D[a]! < 0)=false:=dec_f hlt
   have e3:ltC cmp D[m+1]! D[a]! =false:=e2
   rw[e3] at hs
   simp (implicitDefEqProofs:=false) only[SP,SA,WP,sevalprocAttr,-List.reduceReplicate,bg_partition_l4,e1,e2,t1,a1,a2,l1,l2,c1,clean,cutEnv,AV.cut,hid,List.take_length,hcut,deep_eq',envP12]
   subst hQ
   exact⟨m,by omega,by omega,rfl,hs⟩
 ·have e1:decide ((i:Int)≤(m:Int))=false:=dec_f (by omega)
  have hs':Go.Sort.scanDown (fun x=> !ltC cmp x D[a]!) D i j=m:=by
   rw[hs]
   cases m with
   |zero=>rfl
   |succ m=>rw[Go.Sort.scanDown,dec_f hij];rfl
  generalize hQ:LQ _ _ _=Q
  simp (implicitDefEqProofs:=false) only[SP,SA,WP,sevalprocAttr,-List.reduceReplicate,bg_partition_l4,e1,envP12]
  subst hQ
  exact⟨_,rfl,by simp[Tr.get_set],by simp[Tr.get_set],by simp[Tr.get_set],by simp[Tr.get_set],by simp[Tr.get_set,hs']⟩
theorem peq_up (a i j:Nat) (ha:a < n) (hj:j < n):wpO (fun r=>∃ E,r=(.exit 2,⟨E,H0⟩)∧E.get 0= .own id n∧E.get 1= .pv (i64 a)∧E.get 4= .clo cix []∧E.get 11= .pv (i64 (Go.Sort.scanUp (fun x=> !ltC cmp D[a]! x) D j i:Nat))∧E.get 12= .pv (i64 (j:Nat)))
 (loopA (roundA (evalC call (bg_partitionEqual_l1 sz k)) (clean H0.length [0,1,4,11,12])) rounds ⟨envP11 id n a cix i j,H0⟩):=by
 refine wpO_mono (loopA_wp (g:=roundA (evalC call (bg_partitionEqual_l1 sz k)) (clean H0.length [0,1,4,11,12]))
  (fun m t=>∃ i',m=j+1 - i'∧t=⟨envP11 id n a cix i' j,H0⟩∧Go.Sort.scanUp (fun x=> !ltC cmp D[a]! x) D j i=Go.Sort.scanUp (fun x=> !ltC cmp D[a]! x) D j i')
  rounds (j+1 - i) _ (by unfold rounds;omega) ⟨i,rfl,rfl,rfl⟩ ?_) (fun r h=>h.2)
 rintro m t ⟨i',rfl,rfl,hs⟩
 have hid:=hp.lt
 have hcut:=HGood.cut hp.good
 have hu:Go.Sort.scanUp (fun x=> !ltC cmp D[a]! x) D j i'=if i'≤j&& !ltC cmp D[a]! D[i']! then Go.Sort.scanUp (fun x=> !ltC cmp D[a]! x) D j (i'+1) else i':=by rw[Go.Sort.scanUp]
 rw[hu] at hs
 by_cases hij:i'≤j
 ·have e1:decide ((i':Int)≤(j:Int))=true:=dec_t (by omega)
  have t1:IntKind.i64.wrap ((i':Int)+1)=((i'+1:Nat):Int):=wrap_int (by omega)
  have a1:=hp.iaddr hc.row hn (i:=(i':Int)) rfl (by omega)
  have a2:=hp.iaddr hc.row hn (i:=(a:Int)) rfl (by omega)
  have l1:=hp.load hc.row hn (k:=i') (by omega)
  have l2:=hp.load hc.row hn (k:=a) (by omega)
  have c1:=hc.run H0 _ _ (hp.rows _ (getB_mem (i:=a) (by omega))) (hp.rows _ (getB_mem (i:=i') (by omega)))
  rw[dec_t hij,Bool.true_and] at hs
  generalize hQ:LQ _ _ _=Q
  by_cases hlt:cmp D[a]! D[i']! < 0
  ·have e2:decide (cmp D[a]! D[i']! < 0)=true:=dec_t hlt
   have e3:ltC cmp D[a]! D[i']! =true:=e2
   rw[e3] at hs
   simp (implicitDefEqProofs:=false) only[SP,SA,WP,sevalprocAttr,-List.reduceReplicate,bg_partitionEqual_l1,e1,e2,t1,a1,a2,l1,l2,c1,clean,cutEnv,AV.cut,hid,List.take_length,hcut,deep_eq',envP11]
   subst hQ
   exact⟨_,rfl,by simp[Tr.get_set],by simp[Tr.get_set],by simp[Tr.get_set],by simp[Tr.get_set,hs],by simp[Tr.get_set]⟩
  ·have e2:decide (cmp D[a]! D[i']! < 0)=false:=dec_f hlt
   have e3:ltC cmp D[a]! D[i']! =false:=e2
   rw[e3] at hs
   simp (implicitDefEqProofs:=false) only[SP,SA,WP,sevalprocAttr,-List.reduceReplicate,bg_partitionEqual_l1,e1,e2,t1,a1,a2,l1,l2,c1,clean,cutEnv,AV.cut,hid,List.take_length,hcut,deep_eq',envP11]
   subst hQ
   exact⟨j+1 - (i'+1),by omega,i'+1,rfl,rfl,hs⟩
 ·have e1:decide ((i':Int)≤(j:Int))=false:=dec_f (by omega)
  rw[dec_f hij,Bool.false_and] at hs
  generalize hQ:LQ _ _ _=Q
  simp (implicitDefEqProofs:=false) only[SP,SA,WP,sevalprocAttr,-List.reduceReplicate,bg_partitionEqual_l1,e1,envP11]
  subst hQ
  exact⟨_,rfl,by simp[Tr.get_set],by simp[Tr.get_set],by simp[Tr.get_set],by simp[Tr.get_set,hs],by simp[Tr.get_set]⟩
theorem peq_dn (a i j:Nat) (ha:a < n) (hj:j < n) (hi:1≤i):wpO (fun r=>∃ E,r=(.exit 4,⟨E,H0⟩)∧E.get 0= .own id n∧E.get 1= .pv (i64 a)∧E.get 4= .clo cix []∧E.get 11= .pv (i64 (i:Nat))∧E.get 12= .pv (i64 (Go.Sort.scanDown (fun x=>ltC cmp D[a]! x) D i j:Nat)))
 (loopA (roundA (evalC call (bg_partitionEqual_l2 sz k)) (clean H0.length [0,1,4,11,12])) rounds ⟨envP11 id n a cix i j,H0⟩):=by
 refine wpO_mono (loopA_wp (g:=roundA (evalC call (bg_partitionEqual_l2 sz k)) (clean H0.length [0,1,4,11,12]))
  (fun m t=>m≤j∧t=⟨envP11 id n a cix i m,H0⟩∧Go.Sort.scanDown (fun x=>ltC cmp D[a]! x) D i j=Go.Sort.scanDown (fun x=>ltC cmp D[a]! x) D i m)
  rounds j _ (by unfold rounds;omega) ⟨Nat.le_refl _,rfl,rfl⟩ ?_) (fun r h=>h.2)
 rintro m t ⟨hm,rfl,hs⟩
 have hid:=hp.lt
 have hcut:=HGood.cut hp.good
 by_cases hij:i≤m
 ·obtain⟨m,rfl⟩:∃ m',m=m'+1:=⟨m - 1,by omega⟩
  have e1:decide ((i:Int)≤((m+1:Nat):Int))=true:=dec_t (by omega)
  have t1:IntKind.i64.wrap (((m+1:Nat):Int) - 1)=(m:Int):=by rw[wrap_int (by omega)];omega
  have a1:=hp.iaddr hc.row hn (i:=((m+1:Nat):Int)) rfl (by omega)
  have a2:=hp.iaddr hc.row hn (i:=(a:Int)) rfl (by omega)
  have l1:=hp.load hc.row hn (k:=m+1) (by omega)
  have l2:=hp.load hc.row hn (k:=a) (by omega)
  have c1:=hc.run H0 _ _ (hp.rows _ (getB_mem (i:=a) (by omega))) (hp.rows _ (getB_mem (i:=m+1) (by omega)))
  rw[Go.Sort.scanDown,dec_t hij,Bool.true_and] at hs
  generalize hQ:LQ _ _ _=Q
  by_cases hlt:cmp D[a]! D[m+1]! < 0
  ·have e2:decide (cmp D[a]! D[m+1]! < 0)=true:=dec_t hlt
   have e3:ltC cmp D[a]! D[m+1]! =true:=e2
   rw[e3] at hs
   simp (implicitDefEqProofs:=false) only[SP,SA,WP,sevalprocAttr,-List.reduceReplicate,bg_partitionEqual_l2,e1,e2,t1,a1,a2,l1,l2,c1,clean,cutEnv,AV.cut,hid,List.take_length,hcut,deep_eq',envP11]
   subst hQ
   exact⟨m,by omega,by omega,rfl,hs⟩
  ·have e2:decide (cmp D[a]! D[m+1]! < 0)=false:=dec_f hlt
   have e3:ltC cmp D[a]! D[m+1]! =false:=e2
   rw[e3] at hs
   simp (implicitDefEqProofs:=false) only[SP,SA,WP,sevalprocAttr,-List.reduceReplicate,bg_partitionEqual_l2,e1,e2,t1,a1,a2,l1,l2,c1,clean,cutEnv,AV.cut,hid,List.take_length,hcut,deep_eq',envP11]
   subst hQ
   exact⟨_,rfl,by simp[Tr.get_set],by simp[Tr.get_set],by simp[Tr.get_set],by simp[Tr.get_set],by simp[Tr.get_set,hs]⟩
 ·have e1:decide ((i:Int)≤(m:Int))=false:=dec_f (by omega)
  have hs':Go.Sort.scanDown (fun x=>ltC cmp D[a]! x) D i j=m:=by
   rw[hs]
   cases m with
   |zero=>rfl
   |succ m=>rw[Go.Sort.scanDown,dec_f hij];rfl
  generalize hQ:LQ _ _ _=Q
  simp (implicitDefEqProofs:=false) only[SP,SA,WP,sevalprocAttr,-List.reduceReplicate,bg_partitionEqual_l2,e1,envP11]
  subst hQ
  exact⟨_,rfl,by simp[Tr.get_set],by simp[Tr.get_set],by simp[Tr.get_set],by simp[Tr.get_set],by simp[Tr.get_set,hs']⟩
end
end Go.AM.B1
namespace Go.AM.B1
open Go.AM Go.AM.So
theorem _root_.Go.Sort.partLoop_bounds {α:Type} [Inhabited α] (lt:α→α→Bool) {n:Nat} (a:Nat):∀ (i j:Nat) (d:Array α),a < i→i≤j+1→j < n→a≤(Go.Sort.partLoop lt a i j d).1∧(Go.Sort.partLoop lt a i j d).1 < n:=by
 have key:∀ (m i j:Nat) (d:Array α),j+1 - i≤m→a < i→i≤j+1→j < n→a≤(Go.Sort.partLoop lt a i j d).1∧(Go.Sort.partLoop lt a i j d).1 < n:=by
  intro m
  induction m with
  |zero=>
   intro i j d hm ha hij hj
   have su:=Go.Sort.scanUp_spec (fun x=>lt x d[a]!) d j _ i rfl
   have sd:=Go.Sort.scanDown_spec (fun x=> !lt x d[a]!) d (Go.Sort.scanUp (fun x=>lt x d[a]!) d j i) j
   have su1:=su.1;have su2:=su.2.1 hij;have sd1:=sd.1;have sd2:=sd.2.1 su2
   rw[Go.Sort.partLoop_eq]
   split
   ·exact⟨by omega,by omega⟩
   ·omega
  |succ m ih=>
   intro i j d hm ha hij hj
   have su:=Go.Sort.scanUp_spec (fun x=>lt x d[a]!) d j _ i rfl
   have sd:=Go.Sort.scanDown_spec (fun x=> !lt x d[a]!) d (Go.Sort.scanUp (fun x=>lt x d[a]!) d j i) j
   have su1:=su.1;have su2:=su.2.1 hij;have sd1:=sd.1;have sd2:=sd.2.1 su2
   rw[Go.Sort.partLoop_eq]
   split
   ·exact⟨by omega,by omega⟩
   ·have su3:=su.2.2.2;have sd3:=sd.2.2.2
    generalize hI:Go.Sort.scanUp (fun x=>lt x d[a]!) d j i=i2 at *
    generalize hJ:Go.Sort.scanDown (fun x=> !lt x d[a]!) d i2 j=j2 at *
    have hne:i2≠j2:=by
     intro e
     have h1:=su3 (by omega)
     have h2:=sd3 (by omega) (by omega)
     rw[e] at h1
     rw[h1] at h2;cases h2
    exact ih _ _ _ (by omega) (by omega) (by omega) (by omega)
 exact fun i j d=>key _ i j d (Nat.le_refl _)
section
variable {call:CallF} {sz k cix:Nat} {P:List PV→Prop} {cmp:List PV→List PV→Int} (hc:Cmp call sz cix P cmp)
 {id n:Nat} {H0:List AObj} (g0:HGood H0) (hid:id < H0.length) (hw:n≤1000000)
include hc g0 hid hw
theorem partEq_loop (a i j:Nat) (ha:a < i) (hij:i≤j+1) (hj:j < n) (D:Array (List PV)) (H:List AObj) (hl:H.length=H0.length) (hp:Hp id sz P H0 D H) (hn:n=D.size):
 wpO (fun r=>∃ E H',r=(.exit 0,⟨E,H'⟩)∧Hp id sz P H0 (Go.Sort.partEqLoop (ltC cmp) a i j D).2 H'∧(Go.Sort.partEqLoop (ltC cmp) a i j D).2.size=n∧E.get 0= .own id n∧E.get 1= .pv (i64 a)∧E.get 4= .clo cix []∧E.get 11= .pv (i64 ((Go.Sort.partEqLoop (ltC cmp) a i j D).1:Nat)))
  (loopA (roundA (evalC call (bg_partitionEqual_l0 sz k)) (clean H0.length [0,1,4,11,12])) rounds ⟨envP11 id n a cix i j,H⟩):=by
 refine wpO_mono (loopA_wp (g:=roundA (evalC call (bg_partitionEqual_l0 sz k)) (clean H0.length [0,1,4,11,12]))
  (fun m t=>∃ H D' i' j',m=j'+1 - i'∧a < i'∧i'≤j'+1∧j' < n∧t=⟨envP11 id n a cix i' j',H⟩∧H.length=H0.length∧Hp id sz P H0 D' H∧n=D'.size∧Go.Sort.partEqLoop (ltC cmp) a i j D=Go.Sort.partEqLoop (ltC cmp) a i' j' D')
  rounds (j+1 - i) _ (by unfold rounds;omega) ⟨H,D,i,j,rfl,ha,hij,hj,rfl,hl,hp,hn,rfl⟩ ?_) (fun r h=>h.2)
 rintro m t ⟨H,D',i',j',rfl,ha',hij',hj',rfl,hl,hp,hn,hs⟩
 rw[Go.Sort.partEqLoop_eq (ltC cmp) a i' j' D'] at hs
 have hid':id < H.length:=by omega
 have hcut:=HGood.cut hp.good
 have su:=Go.Sort.scanUp_spec (fun x=> !ltC cmp D'[a]! x) D' j' _ i' rfl
 have sd:=Go.Sort.scanDown_spec (fun x=>ltC cmp D'[a]! x) D' (Go.Sort.scanUp (fun x=> !ltC cmp D'[a]! x) D' j' i') j'
 have su1:=su.1
 have su2:=su.2.1 hij'
 have sd1:=sd.1
 have sd2:=sd.2.1 su2
 have su3:=su.2.2.2
 have sd3:=sd.2.2.2
 have hu:=peq_up (k:=k) hc hp.same hn hw a i' j' (by omega) hj'
 have hd:=peq_dn (k:=k) hc hp.same hn hw a (Go.Sort.scanUp (fun x=> !ltC cmp D'[a]! x) D' j' i') j' (by omega) hj' (by omega)
 generalize hI:Go.Sort.scanUp (fun x=> !ltC cmp D'[a]! x) D' j' i'=i2 at *
 generalize hJ:Go.Sort.scanDown (fun x=>ltC cmp D'[a]! x) D' i2 j'=j2 at *
 clear hI hJ su sd
 generalize hQ:LQ _ _ _=Q
 simp (implicitDefEqProofs:=false) only[SP,SA,WP,sevalprocAttr,-List.reduceReplicate,bg_partitionEqual_l0,C_loop,clean,cutEnv,AV.cut,hid',List.take_length,hcut,deep_eq',envP11]
 refine wpO_mono hu ?_
 rintro _ ⟨E,rfl,e0,e1,e4,ev,ew⟩
 simp (implicitDefEqProofs:=false) only[SP,SA,WP,sevalprocAttr,-List.reduceReplicate,e0,e1,e4,ev,ew,C_loop,clean,cutEnv,AV.cut,hid',List.take_length,hcut,deep_eq']
 refine wpO_mono hd ?_
 rintro _ ⟨E,rfl,e0,e1,e4,ev,ew⟩
 by_cases hgt:i2 > j2
 ·rw[if_pos hgt] at hs
  have x1:decide ((i2:Int) > (j2:Int))=true:=dec_t (by omega)
  simp (implicitDefEqProofs:=false) only[SP,SA,WP,sevalprocAttr,-List.reduceReplicate,e0,e1,e4,ev,ew,x1]
  subst hQ
  exact⟨_,_,rfl,by rw[hs];exact hp,by rw[hs];exact hn.symm,by simp[Tr.get_set,e0],by simp[Tr.get_set,e1],by simp[Tr.get_set,e4],by rw[hs];simp[Tr.get_set,ev,ew]⟩
 ·rw[if_neg hgt] at hs
  have hne:i2≠j2:=by
   intro e
   have h1:=su3 (by omega)
   have h2:=sd3 (by omega) (by omega)
   rw[e] at h1
   first | (rw[h1] at h2;cases h2) | (rw[h2] at h1;cases h1)
  have x1:decide ((i2:Int) > (j2:Int))=false:=dec_f (by omega)
  have t1:IntKind.i64.wrap ((i2:Int)+1)=((i2+1:Nat):Int):=wrap_int (by omega)
  have t2:IntKind.i64.wrap ((j2:Int) - 1)=((j2 - 1:Nat):Int):=by rw[wrap_int (by omega)];omega
  have a1:=hp.iaddr hc.row hn (i:=(i2:Int)) rfl (by omega)
  have a2:=hp.iaddr hc.row hn (i:=(j2:Int)) rfl (by omega)
  have l1:=hp.load hc.row hn (k:=i2) (by omega)
  have l2:=hp.load hc.row hn (k:=j2) (by omega)
  obtain⟨H1,H2,s1,a3,s2,hp2,w1⟩:=hp_swap hc.row hp hn (i:=i2) (j:=j2) (by omega) (by omega)
  obtain⟨q1,q2,q3⟩:=hp2.clean rfl g0
  simp (implicitDefEqProofs:=false) only[SP,SA,WP,sevalprocAttr,-List.reduceReplicate,e0,e1,e4,ev,ew,x1,t1,t2,a1,a2,l1,l2,s1,a3,s2,clean,cutEnv,AV.cut,hid,q1,deep_eq']
  subst hQ
  exact⟨j2 - 1+1 - (i2+1),by omega,_,_,i2+1,j2 - 1,rfl,by omega,by omega,by omega,rfl,q3,q2,by rw[swp_size];exact hn,hs⟩
theorem part_loop (a i j:Nat) (ha:a < i) (hij:i≤j+1) (hj:j < n) (D:Array (List PV)) (H:List AObj) (hl:H.length=H0.length) (hp:Hp id sz P H0 D H) (hn:n=D.size):
 wpO (fun r=>∃ E H',r=(.exit 4,⟨E,H'⟩)∧Hp id sz P H0 (Go.Sort.partLoop (ltC cmp) a i j D).2 H'∧(Go.Sort.partLoop (ltC cmp) a i j D).2.size=n∧E.get 0= .own id n∧E.get 1= .pv (i64 a)∧E.get 4= .clo cix []∧E.get 13= .pv (i64 ((Go.Sort.partLoop (ltC cmp) a i j D).1:Nat)))
  (loopA (roundA (evalC call (bg_partition_l2 sz k)) (clean H0.length [0,1,4,12,13])) rounds ⟨envP12 id n a cix i j,H⟩):=by
 refine wpO_mono (loopA_wp (g:=roundA (evalC call (bg_partition_l2 sz k)) (clean H0.length [0,1,4,12,13]))
  (fun m t=>∃ H D' i' j',m=j'+1 - i'∧a < i'∧i'≤j'+1∧j' < n∧t=⟨envP12 id n a cix i' j',H⟩∧H.length=H0.length∧Hp id sz P H0 D' H∧n=D'.size∧Go.Sort.partLoop (ltC cmp) a i j D=Go.Sort.partLoop (ltC cmp) a i' j' D')
  rounds (j+1 - i) _ (by unfold rounds;omega) ⟨H,D,i,j,rfl,ha,hij,hj,rfl,hl,hp,hn,rfl⟩ ?_) (fun r h=>h.2)
 rintro m t ⟨H,D',i',j',rfl,ha',hij',hj',rfl,hl,hp,hn,hs⟩
 rw[Go.Sort.partLoop_eq (ltC cmp) a i' j' D'] at hs
 have hid':id < H.length:=by omega
 have hcut:=HGood.cut hp.good
 have su:=Go.Sort.scanUp_spec (fun x=>ltC cmp x D'[a]!) D' j' _ i' rfl
 have sd:=Go.Sort.scanDown_spec (fun x=> !ltC cmp x D'[a]!) D' (Go.Sort.scanUp (fun x=>ltC cmp x D'[a]!) D' j' i') j'
 have su1:=su.1
 have su2:=su.2.1 hij'
 have sd1:=sd.1
 have sd2:=sd.2.1 su2
 have su3:=su.2.2.2
 have sd3:=sd.2.2.2
 have hu:=part_up (k:=k) hc hp.same hn hw a i' j' (by omega) hj'
 have hd:=part_dn (k:=k) hc hp.same hn hw a (Go.Sort.scanUp (fun x=>ltC cmp x D'[a]!) D' j' i') j' (by omega) hj' (by omega)
 generalize hI:Go.Sort.scanUp (fun x=>ltC cmp x D'[a]!) D' j' i'=i2 at *
 generalize hJ:Go.Sort.scanDown (fun x=> !ltC cmp x D'[a]!) D' i2 j'=j2 at *
 clear hI hJ su sd
 generalize hQ:LQ _ _ _=Q
 simp (implicitDefEqProofs:=false) only[SP,SA,WP,sevalprocAttr,-List.reduceReplicate,bg_partition_l2,C_loop,clean,cutEnv,AV.cut,hid',List.take_length,hcut,deep_eq',envP12]
 refine wpO_mono hu ?_
 rintro _ ⟨E,rfl,e0,e1,e4,ev,ew⟩
 simp (implicitDefEqProofs:=false) only[SP,SA,WP,sevalprocAttr,-List.reduceReplicate,e0,e1,e4,ev,ew,C_loop,clean,cutEnv,AV.cut,hid',List.take_length,hcut,deep_eq']
 refine wpO_mono hd ?_
 rintro _ ⟨E,rfl,e0,e1,e4,ev,ew⟩
 by_cases hgt:i2 > j2
 ·rw[if_pos hgt] at hs
  have x1:decide ((i2:Int) > (j2:Int))=true:=dec_t (by omega)
  simp (implicitDefEqProofs:=false) only[SP,SA,WP,sevalprocAttr,-List.reduceReplicate,e0,e1,e4,ev,ew,x1]
  subst hQ
  exact⟨_,_,rfl,by rw[hs];exact hp,by rw[hs];exact hn.symm,by simp[Tr.get_set,e0],by simp[Tr.get_set,e1],by simp[Tr.get_set,e4],by rw[hs];simp[Tr.get_set,ev,ew]⟩
 ·rw[if_neg hgt] at hs
  have hne:i2≠j2:=by
   intro e
   have h1:=su3 (by omega)
   have h2:=sd3 (by omega) (by omega)
   rw[e] at h1
   first | (rw[h1] at h2;cases h2) | (rw[h2] at h1;cases h1)
  have x1:decide ((i2:Int) > (j2:Int))=false:=dec_f (by omega)
  have t1:IntKind.i64.wrap ((i2:Int)+1)=((i2+1:Nat):Int):=wrap_int (by omega)
  have t2:IntKind.i64.wrap ((j2:Int) - 1)=((j2 - 1:Nat):Int):=by rw[wrap_int (by omega)];omega
  have a1:=hp.iaddr hc.row hn (i:=(i2:Int)) rfl (by omega)
  have a2:=hp.iaddr hc.row hn (i:=(j2:Int)) rfl (by omega)
  have l1:=hp.load hc.row hn (k:=i2) (by omega)
  have l2:=hp.load hc.row hn (k:=j2) (by omega)
  obtain⟨H1,H2,s1,a3,s2,hp2,w1⟩:=hp_swap hc.row hp hn (i:=i2) (j:=j2) (by omega) (by omega)
  obtain⟨q1,q2,q3⟩:=hp2.clean rfl g0
  simp (implicitDefEqProofs:=false) only[SP,SA,WP,sevalprocAttr,-List.reduceReplicate,e0,e1,e4,ev,ew,x1,t1,t2,a1,a2,l1,l2,s1,a3,s2,clean,cutEnv,AV.cut,hid,q1,deep_eq']
  subst hQ
  exact⟨j2 - 1+1 - (i2+1),by omega,_,_,i2+1,j2 - 1,rfl,by omega,by omega,by omega,rfl,q3,q2,by rw[swp_size];exact hn,hs⟩
omit g0 in
theorem partEq_run (a b p:Nat) (hap:a≤p) (hpb:p < b) (hb:b≤n) (D:Array (List PV)) (hp:Hp id sz P H0 D H0) (hn:n=D.size):
 wpO (fun r=>r.1= .pv (i64 ((Go.Sort.partitionEqual (ltC cmp) D a b p).1:Nat))∧Hp id sz P H0 (Go.Sort.partitionEqual (ltC cmp) D a b p).2 r.2∧(Go.Sort.partitionEqual (ltC cmp) D a b p).2.size=n)
  (runF call (bg_partitionEqual sz k) [.own id n,.pv (i64 a),.pv (i64 b),.pv (i64 p),.clo cix []] H0):=by
 have t1:IntKind.i64.wrap ((a:Int)+1)=((a+1:Nat):Int):=wrap_int (by omega)
 have t2:IntKind.i64.wrap ((b:Int) - 1)=((b - 1:Nat):Int):=by rw[wrap_int (by omega)];omega
 have a1:=hp.iaddr hc.row hn (i:=(a:Int)) rfl (by omega)
 have a2:=hp.iaddr hc.row hn (i:=(p:Int)) rfl (by omega)
 have l1:=hp.load hc.row hn (k:=a) (by omega)
 have l2:=hp.load hc.row hn (k:=p) (by omega)
 obtain⟨H1,H2,s1,a3,s2,hp2,w1⟩:=hp_swap hc.row hp hn (i:=a) (j:=p) (by omega) (by omega)
 have hid':id < H2.length:=Nat.lt_of_lt_of_le hid hp2.le
 have hlp:=partEq_loop (k:=k) hc hp2.good hid' hw a (a+1) (b - 1) (by omega) (by omega) (by omega) _ H2 rfl hp2.same (by rw[swp_size];exact hn)
 unfold Go.Sort.partitionEqual
 simp (implicitDefEqProofs:=false) only[SP,SA,WP,sevalprocAttr,-List.reduceReplicate,bg_partitionEqual,C_loop,t1,t2,a1,a2,l1,l2,s1,a3,s2,clean,cutEnv,AV.cut,hid',List.take_length,HGood.cut hp2.good,deep_eq']
 refine wpO_mono hlp ?_
 rintro _ ⟨E,H',rfl,hp',hs',e0,e1,e4,ev⟩
 simp (implicitDefEqProofs:=false) only[SP,SA,WP,sevalprocAttr,-List.reduceReplicate,ev]
 exact⟨hp2.trans hp',hs'⟩
omit g0 in
theorem part_run (a b p:Nat) (hap:a≤p) (hpb:p < b) (hb:b≤n) (D:Array (List PV)) (hp:Hp id sz P H0 D H0) (hn:n=D.size):
 wpO (fun r=>r.1= .pv (.tup [i64 ((Go.Sort.partition (ltC cmp) D a b p).1:Nat),.bool (Go.Sort.partition (ltC cmp) D a b p).2.1])∧Hp id sz P H0 (Go.Sort.partition (ltC cmp) D a b p).2.2 r.2∧(Go.Sort.partition (ltC cmp) D a b p).2.2.size=n)
  (runF call (bg_partition sz k) [.own id n,.pv (i64 a),.pv (i64 b),.pv (i64 p),.clo cix []] H0):=by
 have t1:IntKind.i64.wrap ((a:Int)+1)=((a+1:Nat):Int):=wrap_int (by omega)
 have t2:IntKind.i64.wrap ((b:Int) - 1)=((b - 1:Nat):Int):=by rw[wrap_int (by omega)];omega
 have a1:=hp.iaddr hc.row hn (i:=(a:Int)) rfl (by omega)
 have a2:=hp.iaddr hc.row hn (i:=(p:Int)) rfl (by omega)
 have l1:=hp.load hc.row hn (k:=a) (by omega)
 have l2:=hp.load hc.row hn (k:=p) (by omega)
 obtain⟨H1,H2,s1,a3,s2,hp2,w1⟩:=hp_swap hc.row hp hn (i:=a) (j:=p) (by omega) (by omega)
 have hid':id < H2.length:=Nat.lt_of_lt_of_le hid hp2.le
 have hcut:=HGood.cut hp2.good
 have hn2:n=(Go.Sort.swp D a p).size:=by rw[swp_size];exact hn
 unfold Go.Sort.partition
 generalize Go.Sort.swp D a p=D2 at *
 have su:=Go.Sort.scanUp_spec (fun x=>ltC cmp x D2[a]!) D2 (b - 1) _ (a+1) rfl
 have sd:=Go.Sort.scanDown_spec (fun x=> !ltC cmp x D2[a]!) D2 (Go.Sort.scanUp (fun x=>ltC cmp x D2[a]!) D2 (b - 1) (a+1)) (b - 1)
 have su1:=su.1
 have su2:=su.2.1 (by omega)
 have sd1:=sd.1
 have sd2:=sd.2.1 su2
 have su3:=su.2.2.2
 have sd3:=sd.2.2.2
 have hu:=part_up0 (k:=k) hc hp2.same hn2 hw a (a+1) (b - 1) (by omega) (by omega)
 have hd:=part_dn0 (k:=k) hc hp2.same hn2 hw a (Go.Sort.scanUp (fun x=>ltC cmp x D2[a]!) D2 (b - 1) (a+1)) (b - 1) (by omega) (by omega) (by omega)
 dsimp only
 generalize hI:Go.Sort.scanUp (fun x=>ltC cmp x D2[a]!) D2 (b - 1) (a+1)=i2 at *
 generalize hJ:Go.Sort.scanDown (fun x=> !ltC cmp x D2[a]!) D2 i2 (b - 1)=j2 at *
 clear hI hJ su sd
 simp (implicitDefEqProofs:=false) only[SP,SA,WP,sevalprocAttr,-List.reduceReplicate,bg_partition,C_loop,t1,t2,a1,a2,l1,l2,s1,a3,s2,clean,cutEnv,AV.cut,hid',List.take_length,hcut,deep_eq']
 refine wpO_mono hu ?_
 rintro _ ⟨E,rfl,e0,e1,e4,ev,ew⟩
 simp (implicitDefEqProofs:=false) only[SP,SA,WP,sevalprocAttr,-List.reduceReplicate,e0,e1,e4,ev,ew,C_loop,clean,cutEnv,AV.cut,hid',List.take_length,hcut,deep_eq']
 refine wpO_mono hd ?_
 rintro _ ⟨E,rfl,e0,e1,e4,ev,ew⟩
 by_cases hgt:i2 > j2
 ·have x1:decide ((i2:Int) > (j2:Int))=true:=dec_t (by omega)
  rw[if_pos hgt]
  have a4:=hp2.iaddr hc.row hn2 (i:=(a:Int)) rfl (by omega)
  have a5:=hp2.iaddr hc.row hn2 (i:=(j2:Int)) rfl (by omega)
  have l4:=hp2.load hc.row hn2 (k:=a) (by omega)
  have l5:=hp2.load hc.row hn2 (k:=j2) (by omega)
  obtain⟨H3,H4,s3,a6,s4,hp3,w3⟩:=hp_swap hc.row hp2 hn2 (i:=j2) (j:=a) (by omega) (by omega)
  simp (implicitDefEqProofs:=false) only[SP,SA,WP,sevalprocAttr,-List.reduceReplicate,e0,e1,e4,ev,ew,x1,a4,a5,l4,l5,s3,a6,s4]
  exact⟨hp3,by rw[swp_size];exact hn2.symm⟩
 ·have x1:decide ((i2:Int) > (j2:Int))=false:=dec_f (by omega)
  rw[if_neg hgt]
  have hne:i2≠j2:=by
   intro e
   have h1:=su3 (by omega)
   have h2:=sd3 (by omega) (by omega)
   rw[e] at h1
   first | (rw[h1] at h2;cases h2) | (rw[h2] at h1;cases h1)
  have t3:IntKind.i64.wrap ((i2:Int)+1)=((i2+1:Nat):Int):=wrap_int (by omega)
  have t4:IntKind.i64.wrap ((j2:Int) - 1)=((j2 - 1:Nat):Int):=by rw[wrap_int (by omega)];omega
  have a4:=hp2.iaddr hc.row hn2 (i:=(i2:Int)) rfl (by omega)
  have a5:=hp2.iaddr hc.row hn2 (i:=(j2:Int)) rfl (by omega)
  have l4:=hp2.load hc.row hn2 (k:=i2) (by omega)
  have l5:=hp2.load hc.row hn2 (k:=j2) (by omega)
  obtain⟨H3,H4,s3,a6,s4,hp3,w3⟩:=hp_swap hc.row hp2 hn2 (i:=i2) (j:=j2) (by omega) (by omega)
  have hid3:id < H4.length:=by omega
  have hn3:n=(Go.Sort.swp D2 i2 j2).size:=by rw[swp_size];exact hn2
  have hlp:=part_loop (k:=k) hc hp3.good hid3 hw a (i2+1) (j2 - 1) (by omega) (by omega) (by omega) _ H4 rfl hp3.same hn3
  have hsp:=Go.Sort.partLoop_bounds (ltC cmp) (n:=n) a (i2+1) (j2 - 1) (Go.Sort.swp D2 i2 j2) (by omega) (by omega) (by omega)
  simp (implicitDefEqProofs:=false) only[SP,SA,WP,sevalprocAttr,-List.reduceReplicate,e0,e1,e4,ev,ew,x1,t3,t4,a4,a5,l4,l5,s3,a6,s4,C_loop,clean,cutEnv,AV.cut,hid3,List.take_length,HGood.cut hp3.good,deep_eq']
  refine wpO_mono hlp ?_
  rintro _ ⟨E,H',rfl,hp',hs',e0,e1,e4,ev⟩
  generalize Go.Sort.partLoop (ltC cmp) a (i2+1) (j2 - 1) (Go.Sort.swp D2 i2 j2)=r at *
  have a7:=hp'.iaddr hc.row hs'.symm (i:=(a:Int)) rfl (by omega)
  have a8:=hp'.iaddr hc.row hs'.symm (i:=(r.1:Int)) rfl (by omega)
  have l7:=hp'.load hc.row hs'.symm (k:=a) (by omega)
  have l8:=hp'.load hc.row hs'.symm (k:=r.1) (by omega)
  obtain⟨H5,H6,s5,a9,s6,hp4,w5⟩:=hp_swap hc.row hp' hs'.symm (i:=r.1) (j:=a) (by omega) (by omega)
  simp (implicitDefEqProofs:=false) only[SP,SA,WP,sevalprocAttr,-List.reduceReplicate,e0,e1,e4,ev,a7,a8,l7,l8,s5,a9,s6]
  exact⟨hp3.trans hp4,by rw[swp_size];exact hs'⟩
abbrev envPi (id n a b cix i:Nat):Tr:=(((((Tr.lf.set 10 (.pv (i64 0))).set 9 (.pv (i64 i))).set 3 (.clo cix [])).set 2 (.pv (i64 b))).set 1 (.pv (i64 a))).set 0 (.own id n)
theorem pins_scan (a b i:Nat) (hb:b≤n) (hi:1≤i) (hib:i≤b) (D:Array (List PV)) (hp:Hp id sz P H0 D H0) (hn:n=D.size):
 wpO (fun r=>∃ E,r=(.exit 2,⟨E,H0⟩)∧E.get 0= .own id n∧E.get 1= .pv (i64 a)∧E.get 2= .pv (i64 b)∧E.get 3= .clo cix []∧E.get 9= .pv (i64 (Go.Sort.scanSorted (ltC cmp) D b i:Nat))∧E.get 10= .pv (i64 0))
  (loopA (roundA (evalC call (bg_partialInsertionSort_l1 sz k)) (clean H0.length [0,1,2,3,9,10])) rounds ⟨envPi id n a b cix i,H0⟩):=by
 refine wpO_mono (loopA_wp (g:=roundA (evalC call (bg_partialInsertionSort_l1 sz k)) (clean H0.length [0,1,2,3,9,10]))
  (fun m t=>∃ i',m=b - i'∧1≤i'∧i'≤b∧t=⟨envPi id n a b cix i',H0⟩∧Go.Sort.scanSorted (ltC cmp) D b i=Go.Sort.scanSorted (ltC cmp) D b i')
  rounds (b - i) _ (by unfold rounds;omega) ⟨i,rfl,hi,hib,rfl,rfl⟩ ?_) (fun r h=>h.2)
 rintro m t ⟨i',rfl,hi',hib',rfl,hs⟩
 have hcut:=HGood.cut g0
 have hu:Go.Sort.scanSorted (ltC cmp) D b i'=if i' < b&& !ltC cmp D[i']! D[i' - 1]! then Go.Sort.scanSorted (ltC cmp) D b (i'+1) else i':=by rw[Go.Sort.scanSorted]
 rw[hu] at hs
 by_cases hlt:i' < b
 ·have e1:decide ((i':Int) < (b:Int))=true:=dec_t (by omega)
  have t1:IntKind.i64.wrap ((i':Int)+1)=((i'+1:Nat):Int):=wrap_int (by omega)
  have t2:IntKind.i64.wrap ((i':Int) - 1)=((i' - 1:Nat):Int):=by rw[wrap_int (by omega)];omega
  have a1:=hp.iaddr hc.row hn (i:=(i':Int)) rfl (by omega)
  have a2:=hp.iaddr hc.row hn (i:=((i' - 1:Nat):Int)) rfl (by omega)
  have l1:=hp.load hc.row hn (k:=i') (by omega)
  have l2:=hp.load hc.row hn (k:=i' - 1) (by omega)
  have c1:=hc.run H0 _ _ (hp.rows _ (getB_mem (i:=i') (by omega))) (hp.rows _ (getB_mem (i:=i' - 1) (by omega)))
  rw[dec_t hlt,Bool.true_and] at hs
  generalize hQ:LQ _ _ _=Q
  simp (implicitDefEqProofs:=false) only[SP,SA,WP,sevalprocAttr,-List.reduceReplicate,bg_partialInsertionSort_l1,e1,t1,t2,a1,a2,l1,l2,c1,clean,cutEnv,AV.cut,hid,List.take_length,hcut,deep_eq',envPi]
  subst hQ
  refine⟨fun h=> ?_,fun h=> ?_⟩
  ·have e3:ltC cmp D[i']! D[i' - 1]! =false:=by simpa[ltC] using h
   rw[e3,Bool.not_false,if_pos rfl] at hs
   exact⟨b - (i'+1),by omega,i'+1,rfl,by omega,by omega,rfl,hs⟩
  ·have e3:ltC cmp D[i']! D[i' - 1]! =true:=by simpa[ltC] using h
   rw[e3,Bool.not_true,if_neg (by simp)] at hs
   exact⟨_,rfl,by simp[Tr.get_set],by simp[Tr.get_set],by simp[Tr.get_set],by simp[Tr.get_set],by simp[Tr.get_set,hs],by simp[Tr.get_set]⟩
 ·have e1:decide ((i':Int) < (b:Int))=false:=dec_f (by omega)
  rw[dec_f hlt,Bool.false_and,if_neg (by simp)] at hs
  generalize hQ:LQ _ _ _=Q
  simp (implicitDefEqProofs:=false) only[SP,SA,WP,sevalprocAttr,-List.reduceReplicate,bg_partialInsertionSort_l1,e1,envPi]
  subst hQ
  exact⟨_,rfl,by simp[Tr.get_set],by simp[Tr.get_set],by simp[Tr.get_set],by simp[Tr.get_set],by simp[Tr.get_set,hs],by simp[Tr.get_set]⟩
theorem pins_run (a b:Nat) (hab:a < b) (hb:b≤n) (h50:b < a+50) (D:Array (List PV)) (hp:Hp id sz P H0 D H0) (hn:n=D.size):
 runF call (bg_partialInsertionSort sz k) [.own id n,.pv (i64 a),.pv (i64 b),.clo cix []] H0=some (.pv (.bool (Go.Sort.partialInsertionSort (ltC cmp) D a b).2),H0)∧(Go.Sort.partialInsertionSort (ltC cmp) D a b).1=D:=by
 have hps:Go.Sort.partialInsertionSort (ltC cmp) D a b=(D,decide (Go.Sort.scanSorted (ltC cmp) D b (a+1)=b)):=by
  unfold Go.Sort.partialInsertionSort
  rw[Go.Sort.partialIns]
  dsimp only
  by_cases h:Go.Sort.scanSorted (ltC cmp) D b (a+1)=b
  ·rw[if_pos h,dec_t h]
  ·rw[if_neg h,if_pos (by omega),dec_f h]
 rw[hps]
 refine⟨?_,rfl⟩
 have t1:IntKind.i64.wrap ((a:Int)+1)=((a+1:Nat):Int):=wrap_int (by omega)
 have t2:IntKind.i64.wrap ((b:Int) - (a:Int))=((b - a:Nat):Int):=by rw[wrap_int (by omega)];omega
 have x1:decide (((b - a:Nat):Int) < 50)=true:=dec_t (by omega)
 have hcut:=HGood.cut g0
 have hsc:=pins_scan (k:=k) hc g0 hid hw a b (a+1) hb (by omega) (by omega) D hp hn
 generalize Go.Sort.scanSorted (ltC cmp) D b (a+1)=q at *
 apply wpO_eq
 have hround:wpO (fun r=>∃ E,r=(.ret,⟨E,H0⟩)∧E.get 8= .pv (.bool (decide (q=b)))) (roundA (evalC call (bg_partialInsertionSort_l0 sz k)) (clean H0.length [0,1,2,3,9,10]) ⟨envPi id n a b cix (a+1),H0⟩):=by
  generalize hQ:(fun r:Ex×St=>∃ E,_)=Q
  simp (implicitDefEqProofs:=false) only[SP,SA,WP,sevalprocAttr,-List.reduceReplicate,bg_partialInsertionSort_l0,C_loop,clean,cutEnv,AV.cut,hid,List.take_length,hcut,deep_eq',envPi]
  refine wpO_mono hsc ?_
  rintro _ ⟨E,rfl,e0,e1,e2,e3,e9,e10⟩
  by_cases hq:q=b
  ·have y1:((q:Int)==(b:Int))=true:=by simp[hq]
   simp (implicitDefEqProofs:=false) only[SP,SA,WP,sevalprocAttr,-List.reduceReplicate,e0,e1,e2,e3,e9,e10,y1]
   subst hQ
   exact⟨_,rfl,by simp[Tr.get_set,hq]⟩
  ·have y1:((q:Int)==(b:Int))=false:=beq_ne (by omega)
   simp (implicitDefEqProofs:=false) only[SP,SA,WP,sevalprocAttr,-List.reduceReplicate,e0,e1,e2,e3,e9,e10,y1,t2,x1]
   subst hQ
   exact⟨_,rfl,by simp[Tr.get_set,hq]⟩
 have hloop:wpO (fun r=>∃ E,r=(.ret,⟨E,H0⟩)∧E.get 8= .pv (.bool (decide (q=b)))) (loopA (roundA (evalC call (bg_partialInsertionSort_l0 sz k)) (clean H0.length [0,1,2,3,9,10])) rounds ⟨envPi id n a b cix (a+1),H0⟩):=by
  obtain⟨r,h1,E,rfl,h2⟩:=wpO_spec hround
  show wpO _ (seqA _ (roundA _ _ _))
  rw[h1]
  exact⟨E,rfl,h2⟩
 simp (implicitDefEqProofs:=false) only[SP,SA,WP,sevalprocAttr,-List.reduceReplicate,bg_partialInsertionSort,C_loop,t1,clean,cutEnv,AV.cut,hid,List.take_length,hcut,deep_eq']
 refine wpO_mono hloop ?_
 rintro _ ⟨E,rfl,h8⟩
 simp (implicitDefEqProofs:=false) only[SP,SA,WP,sevalprocAttr,-List.reduceReplicate,h8]
end
end Go.AM.B1
namespace Go.AM.B1
open Go.AM Go.AM.So
abbrev u64 (n:Int):PV:= .int .u64 n
theorem wrap_u64 (n:Int):IntKind.u64.wrap n=n % 18446744073709551616:=by
 simp[IntKind.signed,IntKind.wrap,IntKind.bits]
theorem u64_lt (r:UInt64):r.toNat < 18446744073709551616:=r.toNat_lt
theorem wrap_u64_nat {n:Nat} (h:n < 18446744073709551616):IntKind.u64.wrap (n:Int)=(n:Int):=by rw[wrap_u64];omega
theorem u64_shl (r:UInt64) (c:Nat) (hc:c < 64):IntKind.u64.wrap ((r.toNat:Int) * 2 ^ min c IntKind.u64.bits)=((r <<< UInt64.ofNat c).toNat:Int):=by
 have hm:min c IntKind.u64.bits=c:=by show min c 64=c;omega
 have e:((r.toNat:Int) * 2 ^ c)=((r.toNat * 2 ^ c:Nat):Int):=by push_cast;rfl
 have hc2:(UInt64.ofNat c).toNat % 64=c:=by
  rw[UInt64.toNat_ofNat_of_lt' (by show c < 18446744073709551616;omega)];omega
 rw[hm,e,wrap_u64,UInt64.toNat_shiftLeft,hc2,Nat.shiftLeft_eq]
 omega
theorem u64_shr (r:UInt64) (c:Nat) (hc:c < 64):(r.toNat:Int).fdiv (2 ^ min c IntKind.u64.bits)=((r >>> UInt64.ofNat c).toNat:Int):=by
 have hm:min c IntKind.u64.bits=c:=by show min c 64=c;omega
 have hc2:(UInt64.ofNat c).toNat % 64=c:=by
  rw[UInt64.toNat_ofNat_of_lt' (by show c < 18446744073709551616;omega)];omega
 rw[hm,show ((2:Int) ^ c)=((2 ^ c:Nat):Int) by push_cast;rfl,←Int.ofNat_fdiv,UInt64.toNat_shiftRight,hc2,Nat.shiftRight_eq_div_pow]
theorem bv64 (n:Nat) (h:n < 18446744073709551616):(BitVec.ofInt IntKind.u64.bits (n:Int)).toNat=n:=by
 show (BitVec.ofInt 64 (n:Int)).toNat=n
 rw[BitVec.ofInt_natCast,BitVec.toNat_ofNat];omega
theorem u64_xor (a b:UInt64):IntKind.u64.wrap (((BitVec.ofInt IntKind.u64.bits (a.toNat:Int) ^^^ BitVec.ofInt IntKind.u64.bits (b.toNat:Int)).toNat:Nat):Int)=((a ^^^ b).toNat:Int):=by
 rw[BitVec.toNat_xor,bv64 _ (u64_lt a),bv64 _ (u64_lt b),←UInt64.toNat_xor,wrap_u64_nat (u64_lt _)]
theorem u64_and (a b:Nat) (ha:a < 18446744073709551616) (hb:b < 18446744073709551616):IntKind.u64.wrap (((BitVec.ofInt IntKind.u64.bits (a:Int) &&& BitVec.ofInt IntKind.u64.bits (b:Int)).toNat:Nat):Int)=((a &&& b:Nat):Int):=by
 rw[BitVec.toNat_and,bv64 _ ha,bv64 _ hb,wrap_u64_nat (Nat.lt_of_le_of_lt Nat.and_le_left ha)]
theorem xor_run (call:CallF) (sz k:Nat) (A:List AObj) (r:UInt64):
 runF call (bg_xorshift_Next sz k) [.ptr A.length 0] (A++[.box [.pv (u64 r.toNat)]])=some (.pv (u64 (Go.Sort.xorNext r).toNat),A++[.box [.pv (u64 (Go.Sort.xorNext r).toNat)]]):=by
 have hb:=fun n=>load_box A (.pv (u64 n))
 have hs:=fun n m=>store_box A (.pv (u64 n)) (.pv (u64 m)) rfl rfl
 have hp:=fun n=>place_box A [.pv (u64 n)]
 have k1:=u64_shl r 13 (by decide)
 have k2:=u64_xor r (r <<< UInt64.ofNat 13)
 have hx:Go.Sort.xorNext r=((r ^^^ (r <<< UInt64.ofNat 13)) ^^^ ((r ^^^ (r <<< UInt64.ofNat 13)) >>> UInt64.ofNat 7)) ^^^ (((r ^^^ (r <<< UInt64.ofNat 13)) ^^^ ((r ^^^ (r <<< UInt64.ofNat 13)) >>> UInt64.ofNat 7)) <<< UInt64.ofNat 17):=rfl
 rw[hx]
 generalize r <<< UInt64.ofNat 13=q1 at *
 generalize hr1:r ^^^ q1=r1 at *
 have k3:=u64_shr r1 7 (by decide)
 have k4:=u64_xor r1 (r1 >>> UInt64.ofNat 7)
 generalize r1 >>> UInt64.ofNat 7=q2 at *
 generalize hr2:r1 ^^^ q2=r2 at *
 have k5:=u64_shl r2 17 (by decide)
 have k6:=u64_xor r2 (r2 <<< UInt64.ofNat 17)
 generalize r2 <<< UInt64.ofNat 17=q3 at *
 generalize hr3:r2 ^^^ q3=r3 at *
 have n13:(13:Int).toNat=13:=rfl
 have n7:(7:Int).toNat=7:=rfl
 have n17:(17:Int).toNat=17:=rfl
 simp (implicitDefEqProofs:=false) only[SP,SA,WP,sevalprocAttr,-List.reduceReplicate,bg_xorshift_Next,hb,hs,hp,n13,n7,n17,k1,k2,k3,k4,k5,k6]
def npChk (L:Nat):Bool:=match F_slices_nextPowerOfTwo [i64 L] with
 |some (.int .u64 v)=>v==((1 <<< Go.Sort.bitsLen L:Nat):Int)
 |_=>false
theorem np_all:(List.range 64).all npChk=true:=by kernel_rfl
theorem np_run {L:Nat} (h:L < 64):F_slices_nextPowerOfTwo [i64 L]=some (u64 ((1 <<< Go.Sort.bitsLen L:Nat):Int)):=by
 have:=List.all_eq_true.1 np_all L (by simpa using h)
 unfold npChk at this
 split at this
 ·next v e=>rw[e,eq_of_beq this]
 ·cases this
section
variable {id sz:Nat} {P:List PV→Prop} {H0 A:List AObj} {D:Array (List PV)} (T:List AObj)
theorem store_app {m off:Nat} {v:AV} {A':List AObj} (hid:id < A.length) (h:storeA A sz (.eptr id m off) v=some A'):storeA (A++T) sz (.eptr id m off) v=some (A'++T):=by
 simp only[storeA] at h ⊢
 split at h
 ·next hc=>
  rw[if_pos hc,List.getElem?_append_left hid]
  split at h
  ·next s ag cells fl nl hg=>
   split at h
   ·next hc2=>
    rw[if_pos hc2]
    injection h with h
    rw[← h,List.set_append_left _ _ hid]
   ·cases h
  ·cases h
 ·cases h
theorem store_len {H H':List AObj} {m:Nat} {p v:AV} (h:storeA H m p v=some H'):H'.length=H.length:=by
 simp only[storeA] at h
 repeat' split at h
 all_goals first | (injection h with h;rw[← h];simp) | cases h
theorem iaddr_app {n:Nat} {i:Int} {v:AV} (hid:id < A.length) (h:iaddrA' A sz (.own id n) i=some v):iaddrA' (A++T) sz (.own id n) i=some v:=by
 simp only[iaddrA'] at h ⊢
 rw[List.getElem?_append_left hid];exact h
theorem load_app {ag:Bool} {m off:Nat} {v:AV} (hid:id < A.length) (h:loadA A ag sz (.eptr id m off)=some v):loadA (A++T) ag sz (.eptr id m off)=some v:=by
 simp only[loadA] at h ⊢
 rw[List.getElem?_append_left hid];exact h
end
def brk (a len md:Nat):Nat→Nat→UInt64×Array (List PV)→UInt64×Array (List PV)
 |0,_,st=>st
 |m+1,idx,st=>brk a len md m (idx+1) (Go.Sort.breakStep a len md st idx)
section
variable {tab:Nat→Option AFn} {sz k cix:Nat} {P:List PV→Prop} {cmp:List PV→List PV→Int} (hT:SortTab tab sz k) (hP:∀ r,P r→RowSz sz r)
 {id n:Nat} {H0:List AObj} (g0:HGood H0) (hid:id < H0.length) (hw:n≤1000000)
abbrev envBk (id n a len p md idx:Nat):Tr:=(((((Tr.lf.set 11 (.pv (i64 idx))).set 10 (.pv (u64 md))).set 9 (.ptr p 0)).set 8 (.pv (i64 len))).set 1 (.pv (i64 a))).set 0 (.own id n)
include hT hP g0 hid hw
omit g0 in
theorem brk_loop (d a len:Nat) (h8:8≤len) (h64:len < 64) (hb:a+len≤n) (D:Array (List PV)) (r:UInt64) (A:List AObj) (hl:A.length=H0.length) (hp:Hp id sz P H0 D A) (hn:n=D.size):
 wpO (fun x=>∃ (E:Tr) (A':List AObj) (r':UInt64),x=(.exit 0,⟨E,A'++[.box [.pv (u64 r'.toNat)]]⟩)∧Hp id sz P H0 (brk a len ((1:Nat) <<< Go.Sort.bitsLen len) 3 (a+len / 4 * 2 - 1) (r,D)).2 A'∧(brk a len ((1:Nat) <<< Go.Sort.bitsLen len) 3 (a+len / 4 * 2 - 1) (r,D)).2.size=n)
  (loopA (roundA (evalC (callL tab (d+1)) (bg_breakPatterns_l0 sz k)) (clean (H0.length+1) [0,1,8,9,10,11])) rounds ⟨envBk id n a len H0.length ((1:Nat) <<< Go.Sort.bitsLen len) (a+len / 4 * 2 - 1),A++[.box [.pv (u64 r.toNat)]]⟩):=by
 have hmd1:1 <<< Go.Sort.bitsLen len≤2 * len:=by
  rw[Nat.one_shiftLeft];exact Go.Sort.two_pow_bitsLen_le (by omega)
 have hmd0:0 < 1 <<< Go.Sort.bitsLen len:=by rw[Nat.one_shiftLeft];exact Nat.two_pow_pos _
 generalize 1 <<< Go.Sort.bitsLen len=md at *
 refine wpO_mono (loopA_wp (g:=roundA (evalC (callL tab (d+1)) (bg_breakPatterns_l0 sz k)) (clean (H0.length+1) [0,1,8,9,10,11]))
  (fun m t=>∃ (A':List AObj) (D':Array (List PV)) (r':UInt64) (idx:Nat),m≤3∧idx+m=a+len / 4 * 2+2∧t=⟨envBk id n a len H0.length md idx,A'++[.box [.pv (u64 r'.toNat)]]⟩∧A'.length=H0.length∧Hp id sz P H0 D' A'∧n=D'.size∧brk a len md 3 (a+len / 4 * 2 - 1) (r,D)=brk a len md m idx (r',D'))
  rounds 3 _ (by decide) ⟨A,D,r,_,by omega,by omega,rfl,hl,hp,hn,rfl⟩ ?_) (fun r h=>h.2)
 rintro m t ⟨A',D',r',idx,hm,hidx,rfl,hl,hp,hn,hs⟩
 have t1:IntKind.i64.wrap ((len:Int).tdiv 4)=((len / 4:Nat):Int):=by
  rw[Int.tdiv_eq_ediv_of_nonneg (by omega),wrap_int (by omega)];omega
 have t2:IntKind.i64.wrap (((len / 4:Nat):Int) * 2)=((len / 4 * 2:Nat):Int):=by rw[wrap_int (by omega)];omega
 have t3:IntKind.i64.wrap ((a:Int)+((len / 4 * 2:Nat):Int))=((a+len / 4 * 2:Nat):Int):=by rw[wrap_int (by omega)];omega
 have t4:IntKind.i64.wrap (((a+len / 4 * 2:Nat):Int)+1)=((a+len / 4 * 2+1:Nat):Int):=by rw[wrap_int (by omega)];omega
 cases m with
 |zero=>
  have e1:decide ((idx:Int)≤((a+len / 4 * 2+1:Nat):Int))=false:=dec_f (by omega)
  generalize hQ:LQ _ _ _=Q
  simp (implicitDefEqProofs:=false) only[SP,SA,WP,sevalprocAttr,-List.reduceReplicate,bg_breakPatterns_l0,t1,t2,t3,t4,e1,envBk]
  subst hQ
  exact⟨_,_,_,rfl,by rw[hs];exact hp,by rw[hs];exact hn.symm⟩
 |succ m=>
  have e1:decide ((idx:Int)≤((a+len / 4 * 2+1:Nat):Int))=true:=dec_t (by omega)
  have x1:=xor_run (callL tab d) sz k A' r'
  rw[hl] at x1
  rw[show brk a len md (m+1) idx (r',D')=brk a len md m (idx+1) (Go.Sort.breakStep a len md (r',D') idx) from rfl] at hs
  unfold Go.Sort.breakStep at hs
  dsimp only at hs
  generalize Go.Sort.xorNext r'=r2 at *
  have hlt:=u64_lt r2
  have m1:IntKind.u64.wrap ((md:Int) - 1)=((md - 1:Nat):Int):=by rw[wrap_u64];omega
  have m2:=u64_and r2.toNat (md - 1) hlt (by omega)
  have hle:r2.toNat &&& (md - 1)≤md - 1:=Nat.and_le_right
  generalize r2.toNat &&& (md - 1)=o at *
  have m3:IntKind.i64.wrap (o:Int)=(o:Int):=wrap_int (by omega)
  have t5:IntKind.i64.wrap ((idx:Int)+1)=((idx+1:Nat):Int):=wrap_int (by omega)
  have hid':id < A'.length:=by omega
  have a1:=iaddr_app [.box [.pv (u64 r2.toNat)]] hid' (hp.iaddr hP hn (i:=(idx:Int)) rfl (by omega))
  have l1:=load_app [.box [.pv (u64 r2.toNat)]] hid' (hp.load hP hn (k:=idx) (by omega))
  have hid1:id < H0.length+1:=by omega
  have hpt:H0.length < H0.length+1:=Nat.lt_succ_self _
  have fin:∀ o',o' < len→(if o≥len then o - len else o)=o'→
   ∃ H1 H2,iaddrA' (A'++[.box [.pv (u64 r2.toNat)]]) sz (.own id n) ((a+o':Nat):Int)=some (.eptr id (n * sz) ((a+o') * sz))∧loadA (A'++[.box [.pv (u64 r2.toNat)]]) true sz (.eptr id (n * sz) ((a+o') * sz))=some (.pv (.agg D'[a+o']!))∧
   storeA (A'++[.box [.pv (u64 r2.toNat)]]) sz (.eptr id (n * sz) (idx * sz)) (.pv (.agg D'[a+o']!))=some (H1++[.box [.pv (u64 r2.toNat)]])∧iaddrA' (H1++[.box [.pv (u64 r2.toNat)]]) sz (.own id n) ((a+o':Nat):Int)=some (.eptr id (n * sz) ((a+o') * sz))∧
   storeA (H1++[.box [.pv (u64 r2.toNat)]]) sz (.eptr id (n * sz) ((a+o') * sz)) (.pv (.agg D'[idx]!))=some (H2++[.box [.pv (u64 r2.toNat)]])∧
   mapO (cutObj (H0.length+1)) ((H2++[AObj.box [.pv (u64 r2.toNat)]]).take (H0.length+1))=some (H2++[.box [.pv (u64 r2.toNat)]])∧
   (∃ (A'':List AObj) (D'':Array (List PV)) (r'':UInt64) (idx':Nat),m≤3∧idx'+m=a+len / 4 * 2+2∧(⟨envBk id n a len H0.length md (idx+1),H2++[.box [.pv (u64 r2.toNat)]]⟩:St)=⟨envBk id n a len H0.length md idx',A''++[.box [.pv (u64 r''.toNat)]]⟩∧A''.length=H0.length∧Hp id sz P H0 D'' A''∧n=D''.size∧brk a len md 3 (a+len / 4 * 2 - 1) (r,D)=brk a len md m idx' (r'',D'')):=by
   intro o' ho ho2
   rw[ho2] at hs
   obtain⟨H1,H2,s1,a3,s2,hp2,w1⟩:=hp_swap hP hp hn (i:=idx) (j:=a+o') (by omega) (by omega)
   have w2:H1.length=A'.length:=by
    have:=store_len s1;omega
   refine⟨H1,H2,iaddr_app _ hid' (hp.iaddr hP hn rfl (by omega)),load_app _ hid' (hp.load hP hn (by omega)),store_app _ hid' s1,iaddr_app _ (by omega) a3,store_app _ (by omega) s2,?_,⟨H2,_,r2,idx+1,by omega,by omega,rfl,by omega,hp2,by rw[swp_size];exact hn,hs⟩⟩
   have hg:=(hp_push hp2 (o:= .box [.pv (u64 r2.toNat)]) (fun n=>cut_ibox n _ _)).good
   have hlen:(H2++[AObj.box [.pv (u64 r2.toNat)]]).length=H0.length+1:=by simp;omega
   rw[List.take_of_length_le (by omega),←hlen]
   exact HGood.cut hg
  by_cases ho:o≥len
  ·have e2:decide ((o:Int)≥(len:Int))=true:=dec_t (by omega)
   have t6:IntKind.i64.wrap ((o:Int) - (len:Int))=((o - len:Nat):Int):=by rw[wrap_int (by omega)];omega
   have t7:IntKind.i64.wrap ((a:Int)+((o - len:Nat):Int))=((a+(o - len):Nat):Int):=by rw[wrap_int (by omega)];omega
   obtain⟨H1,H2,b1,b2,b3,b4,b5,b6,b7⟩:=fin (o - len) (by omega) (if_pos ho)
   generalize hQ:LQ _ _ _=Q
   simp (implicitDefEqProofs:=false) only[SP,SA,WP,sevalprocAttr,-List.reduceReplicate,bg_breakPatterns_l0,t1,t2,t3,t4,t5,t6,t7,e1,e2,hT.xor,x1,m1,m2,m3,a1,l1,b1,b2,b3,b4,b5,b6,clean,cutEnv,AV.cut,hid1,hpt,deep_eq',envBk]
   subst hQ
   exact⟨m,by omega,b7⟩
  ·have e2:decide ((o:Int)≥(len:Int))=false:=dec_f (by omega)
   have t7:IntKind.i64.wrap ((a:Int)+(o:Int))=((a+o:Nat):Int):=by rw[wrap_int (by omega)];omega
   obtain⟨H1,H2,b1,b2,b3,b4,b5,b6,b7⟩:=fin o (by omega) (if_neg ho)
   generalize hQ:LQ _ _ _=Q
   simp (implicitDefEqProofs:=false) only[SP,SA,WP,sevalprocAttr,-List.reduceReplicate,bg_breakPatterns_l0,t1,t2,t3,t4,t5,t7,e1,e2,hT.xor,x1,m1,m2,m3,a1,l1,b1,b2,b3,b4,b5,b6,clean,cutEnv,AV.cut,hid1,hpt,deep_eq',envBk]
   subst hQ
   exact⟨m,by omega,b7⟩
omit g0 in
theorem brk_run (d a b:Nat) (hab:a+8≤b) (hb:b≤n) (h50:b < a+50) (D:Array (List PV)) (hp:Hp id sz P H0 D H0) (hn:n=D.size) (v:AV):
 wpO (fun r=>r.1= .pv (.tup [])∧Hp id sz P H0 (Go.Sort.breakPatterns D a b) r.2∧(Go.Sort.breakPatterns D a b).size=n)
  (runF (callL tab (d+1)) (bg_breakPatterns sz k) [.own id n,.pv (i64 a),.pv (i64 b),v] H0):=by
 have t0:IntKind.i64.wrap ((b:Int) - (a:Int))=((b - a:Nat):Int):=by rw[wrap_int (by omega)];omega
 have e8:decide (((b - a:Nat):Int)≥8)=true:=dec_t (by omega)
 have hnp:=np_run (L:=b - a) (by omega)
 have hlp:=brk_loop (k:=k) hT hP hid hw d a (b - a) (by omega) (by omega) (by omega) D (UInt64.ofNat (b - a)) H0 rfl hp hn
 have hbp:Go.Sort.breakPatterns D a b=(brk a (b - a) ((1:Nat) <<< Go.Sort.bitsLen (b - a)) 3 (a+(b - a) / 4 * 2 - 1) (UInt64.ofNat (b - a),D)).2:=by
  unfold Go.Sort.breakPatterns
  dsimp only
  rw[if_pos (by omega)]
  rfl
 rw[hbp]
 have hof:(UInt64.ofNat (b - a)).toNat=b - a:=UInt64.toNat_ofNat_of_lt' (by show b - a < 18446744073709551616;omega)
 rw[hof] at hlp
 generalize brk a (b - a) ((1:Nat) <<< Go.Sort.bitsLen (b - a)) 3 (a+(b - a) / 4 * 2 - 1) (UInt64.ofNat (b - a),D)=res at *
 generalize 1 <<< Go.Sort.bitsLen (b - a)=md at *
 have t1:IntKind.i64.wrap (((b - a:Nat):Int).tdiv 4)=(((b - a) / 4:Nat):Int):=by
  rw[Int.tdiv_eq_ediv_of_nonneg (by omega),wrap_int (by omega)];omega
 have t2:IntKind.i64.wrap ((((b - a) / 4:Nat):Int) * 2)=(((b - a) / 4 * 2:Nat):Int):=by rw[wrap_int (by omega)];omega
 have t3:IntKind.i64.wrap ((a:Int)+(((b - a) / 4 * 2:Nat):Int))=((a+(b - a) / 4 * 2:Nat):Int):=by rw[wrap_int (by omega)];omega
 have t4:IntKind.i64.wrap (((a+(b - a) / 4 * 2:Nat):Int) - 1)=((a+(b - a) / 4 * 2 - 1:Nat):Int):=by rw[wrap_int (by omega)];omega
 have t5:IntKind.u64.wrap ((b - a:Nat):Int)=((b - a:Nat):Int):=wrap_u64_nat (by omega)
 have s1:=store_box H0 (.pv (u64 0)) (.pv (u64 (b - a:Nat))) rfl rfl
 have hg:=HGood.cut (hp_push hp (o:= .box [.pv (u64 (b - a:Nat))]) (fun n=>cut_ibox n _ _)).good
 have hlen:(H0++[AObj.box [.pv (u64 (b - a:Nat))]]).length=H0.length+1:=by simp
 rw[hlen] at hg
 have htk:(H0++[AObj.box [.pv (u64 (b - a:Nat))]]).take (H0.length+1)=H0++[AObj.box [.pv (u64 (b - a:Nat))]]:=List.take_of_length_le (by rw[hlen];exact Nat.le_refl _)
 have hid1:id < H0.length+1:=by omega
 have hpt:H0.length < H0.length+1:=Nat.lt_succ_self _
 simp (implicitDefEqProofs:=false) only[SP,SA,WP,sevalprocAttr,-List.reduceReplicate,bg_breakPatterns,C_loop,t0,t1,t2,t3,t4,t5,e8,hnp,s1,hlen,htk,hg,clean,cutEnv,AV.cut,hid1,hpt,deep_eq']
 refine wpO_mono hlp ?_
 rintro _ ⟨E,A',r',rfl,hp',hs'⟩
 simp (implicitDefEqProofs:=false) only[SP,SA,WP,sevalprocAttr,-List.reduceReplicate]
 exact⟨hp_push hp' (fun n=>cut_ibox n _ _),hs'⟩
end
end Go.AM.B1
namespace Go.AM.B1
open Go.AM Go.AM.So
def tl:ACode→ACode
 | .seq _ b=>b
 | .block _ b=>b
 |c=>c
def hd:ACode→ACode
 | .seq a _=>a
 |c=>c
def pqB (sz k:Nat):ACode:=tl (tl (tl (tl (bg_pdqsort_l0 sz k))))
def pqC (sz k:Nat):ACode:=tl (pqB sz k)
def pqD (sz k:Nat):ACode:=tl (tl (pqC sz k))
def pqE (sz k:Nat):ACode:=tl (pqD sz k)
def pqF (sz k:Nat):ACode:=tl (pqE sz k)
theorem partEq_bounds {α:Type} [Inhabited α] (lt:α→α→Bool) {b:Nat} (a:Nat) (d:Array α) (p:Nat) (hab:a < b):a < (Go.Sort.partitionEqual lt d a b p).1∧(Go.Sort.partitionEqual lt d a b p).1≤b:=by
 have key:∀ (m i j:Nat) (d:Array α),j+1 - i≤m→a < i→i≤j+1→j < b→a < (Go.Sort.partEqLoop lt a i j d).1∧(Go.Sort.partEqLoop lt a i j d).1≤b:=by
  intro m
  induction m with
  |zero=>
   intro i j d hm ha hij hj
   have su:=Go.Sort.scanUp_spec (fun x=> !lt d[a]! x) d j _ i rfl
   have sd:=Go.Sort.scanDown_spec (fun x=>lt d[a]! x) d (Go.Sort.scanUp (fun x=> !lt d[a]! x) d j i) j
   have su1:=su.1;have su2:=su.2.1 hij;have sd1:=sd.1;have sd2:=sd.2.1 su2
   rw[Go.Sort.partEqLoop_eq]
   split
   ·exact⟨by omega,by omega⟩
   ·omega
  |succ m ih=>
   intro i j d hm ha hij hj
   have su:=Go.Sort.scanUp_spec (fun x=> !lt d[a]! x) d j _ i rfl
   have sd:=Go.Sort.scanDown_spec (fun x=>lt d[a]! x) d (Go.Sort.scanUp (fun x=> !lt d[a]! x) d j i) j
   have su1:=su.1;have su2:=su.2.1 hij;have sd1:=sd.1;have sd2:=sd.2.1 su2
   rw[Go.Sort.partEqLoop_eq]
   split
   ·exact⟨by omega,by omega⟩
   ·have su3:=su.2.2.2;have sd3:=sd.2.2.2
    generalize hI:Go.Sort.scanUp (fun x=> !lt d[a]! x) d j i=i2 at *
    generalize hJ:Go.Sort.scanDown (fun x=>lt d[a]! x) d i2 j=j2 at *
    have hne:i2≠j2:=by
     intro e
     have h1:=su3 (by omega)
     have h2:=sd3 (by omega) (by omega)
     rw[e] at h1
     rw[h2] at h1;cases h1
    exact ih _ _ _ (by omega) (by omega) (by omega) (by omega)
 exact key _ (a+1) (b - 1) _ (Nat.le_refl _) (by omega) (by omega) (by omega)
theorem part_bounds {α:Type} [Inhabited α] (lt:α→α→Bool) {b:Nat} (a:Nat) (d:Array α) (p:Nat) (hab:a < b):a≤(Go.Sort.partition lt d a b p).1∧(Go.Sort.partition lt d a b p).1 < b:=by
 rw[Go.Sort.partition_fst]
 exact Go.Sort.partLoop_bounds lt a (a+1) (b - 1) _ (by omega) (by omega) (by omega)
theorem hintI_one (h:Go.Sort.Hint):(hintI h==1)=decide (h= .increasing):=by cases h <;> rfl
theorem hintI_two (h:Go.Sort.Hint):(hintI h==2)=decide (h= .decreasing):=by cases h <;> rfl
theorem pins_fst {lt:List PV→List PV→Bool} (D:Array (List PV)) (a b:Nat) (h50:b < a+50):(Go.Sort.partialInsertionSort lt D a b).1=D:=by
 unfold Go.Sort.partialInsertionSort
 rw[Go.Sort.partialIns]
 dsimp only
 by_cases h:Go.Sort.scanSorted lt D b (a+1)=b
 ·rw[if_pos h]
 ·rw[if_neg h,if_pos (by omega)]
def pqOk (d m:Nat):Prop:=(2≤d∧m≤12)∨(4≤d∧m≤25)∨(5≤d∧m≤49)
section
variable {tab:Nat→Option AFn} {sz k cix:Nat} {P:List PV→Prop} {cmp:List PV→List PV→Int} (hT:SortTab tab sz k) (hc:∀ d,Cmp (callL tab (d+1)) sz cix P cmp)
 {id n:Nat} {H0:List AObj} (hid:id < H0.length) (hw:n≤1000000)
structure PqE (E:Tr) (id n a b limit cix:Nat) (wb wp:Bool):Prop where
 e0:E.get 0= .own id n
 e1:E.get 1= .pv (i64 a)
 e2:E.get 2= .pv (i64 b)
 e3:E.get 3= .pv (i64 limit)
 e4:E.get 4= .clo cix []
 e10:E.get 10= .pv (.bool wb)
 e11:E.get 11= .pv (.bool wp)
def PqQ (id sz:Nat) (P:List PV→Prop) (H0:List AObj) (cix n m:Nat) (cmp:List PV→List PV→Int) (res:Array (List PV)) (r:Ex×St):Prop:=
 (r.1= .ret∧Hp id sz P H0 res r.2.H∧res.size=n)∨((r.1= .norm∨r.1= .exit 1)∧∃ (a b limit:Nat) (wb wp:Bool) (D:Array (List PV)),b - a < m∧a≤b∧b≤n∧PqE r.2.env id n a b limit cix wb wp∧limit≤1000∧Hp id sz P H0 D r.2.H∧D.size=n∧Go.Sort.pdq (ltC cmp) D a b limit wb wp=res)
def pdqF (cmp:List PV→List PV→Int) (D:Array (List PV)) (a b limit pivot:Nat):Array (List PV):=
 let q:=Go.Sort.partition (ltC cmp) D a b pivot
 if q.1 - a < b - q.1 then Go.Sort.pdq (ltC cmp) (Go.Sort.pdq (ltC cmp) q.2.2 a q.1 limit true true) (q.1+1) b limit (decide (q.1 - a≥(b - a) / 8)) q.2.1
 else Go.Sort.pdq (ltC cmp) (Go.Sort.pdq (ltC cmp) q.2.2 (q.1+1) b limit true true) a q.1 limit (decide (b - q.1≥(b - a) / 8)) q.2.1
def PqCall (tab:Nat→Option AFn) (sz k cix:Nat) (P:List PV→Prop) (cmp:List PV→List PV→Int) (id n d m:Nat):Prop:=
 ∀ (a b limit:Nat) (D:Array (List PV)) (H:List AObj),a≤b→b≤n→b - a≤m→limit≤1000→HGood H→id < H.length→Hp id sz P H D H→D.size=n→
  wpO (fun r=>Hp id sz P H (Go.Sort.pdq (ltC cmp) D a b limit true true) r.2∧(Go.Sort.pdq (ltC cmp) D a b limit true true).size=n∧r.1= .pv (.tup []))
   (callL tab d (k+13) [.own id n,.pv (i64 a),.pv (i64 b),.pv (i64 limit),.clo cix []] H)
include hT hc hid hw
theorem pqF_run (d a b limit pivot:Nat) (wb wp:Bool) (hab:a < b) (hb:b≤n) (hl:limit≤1000) (hpa:a≤pivot) (hpb:pivot < b) (D:Array (List PV)) (E:Tr) (H:List AObj)
 (hE:PqE E id n a b limit cix wb wp) (e12:E.get 12= .pv (i64 (b - a:Nat))) (e13:E.get 13= .pv (i64 pivot)) (hp:Hp id sz P H0 D H) (hn:n=D.size) (hcall:PqCall tab sz k cix P cmp id n (d+2) ((b - a - 1) / 2)):
 wpO (PqQ id sz P H0 cix n (b - a) cmp (pdqF cmp D a b limit pivot)) (evalC (callL tab (d+2)) (pqF sz k) ⟨E,H⟩):=by
 obtain⟨e0,e1,e2,e3,e4,e10,e11⟩:=hE
 have hid1:id < H.length:=Nat.lt_of_lt_of_le hid hp.le
 have hpr:=part_run (k:=k) (hc d) hid1 hw a b pivot hpa hpb hb D hp.same hn
 have hbd:=part_bounds (ltC cmp) a D pivot hab
 unfold pdqF
 dsimp only
 generalize Go.Sort.partition (ltC cmp) D a b pivot=q at *
 obtain⟨mid,ap,D2⟩:=q
 dsimp only at hpr hbd ⊢
 have t1:IntKind.i64.wrap ((mid:Int) - (a:Int))=((mid - a:Nat):Int):=by rw[wrap_int (by omega)];omega
 have t2:IntKind.i64.wrap ((b:Int) - (mid:Int))=((b - mid:Nat):Int):=by rw[wrap_int (by omega)];omega
 have t3:IntKind.i64.wrap (((b - a:Nat):Int).tdiv 8)=(((b - a) / 8:Nat):Int):=by
  rw[Int.tdiv_eq_ediv_of_nonneg (by omega),wrap_int (by omega)];omega
 have t4:IntKind.i64.wrap ((mid:Int)+1)=((mid+1:Nat):Int):=wrap_int (by omega)
 have x3:decide (((mid - a:Nat):Int)≥(((b - a) / 8:Nat):Int))=decide (mid - a≥(b - a) / 8):=by
  rw[Bool.eq_iff_iff];simp;omega
 have x4:decide (((b - mid:Nat):Int)≥(((b - a) / 8:Nat):Int))=decide (b - mid≥(b - a) / 8):=by
  rw[Bool.eq_iff_iff];simp;omega
 have hstart:evalC (callL tab (d+2)) (pqF sz k) ⟨E,H⟩=evalC (callL tab (d+2)) (tl (tl (tl (tl (tl (tl (tl (tl (tl (bg_pdqsort_l0 sz k)))))))))) ⟨E,H⟩:=rfl
 rw[hstart]
 generalize hQ:PqQ _ _ _ _ _ _ _ _ _=Q
 simp (implicitDefEqProofs:=false) only[SP,SA,WP,sevalprocAttr,-List.reduceReplicate,tl,bg_pdqsort_l0,hT.part,e0,e1,e2,e3,e4,e10,e11,e12,e13]
 refine wpO_mono hpr ?_
 rintro⟨v,H2⟩ ⟨hv,hp2,hs2⟩
 dsimp only at hv hp2 hs2
 subst hv
 have hid2:id < H2.length:=Nat.lt_of_lt_of_le hid1 hp2.le
 by_cases hlt:mid - a < b - mid
 ·have x1:decide (((mid - a:Nat):Int) < ((b - mid:Nat):Int))=true:=dec_t (by omega)
  have hcl:=hcall a mid limit D2 H2 (by omega) (by omega) (by omega) hl hp2.good hid2 hp2.same hs2
  rw[callL_go _ _ _ _ _ hT.pdq] at hcl
  rw[if_pos hlt] at hQ
  simp (implicitDefEqProofs:=false) only[SP,SA,WP,sevalprocAttr,-List.reduceReplicate,e0,e1,e2,e3,e4,e10,e11,e12,e13,t1,t2,t3,t4,x1,x3,hT.pdq]
  refine wpO_mono hcl ?_
  rintro⟨v,H3⟩ ⟨hp3,hs3,hv⟩
  dsimp only at hp3
  simp (implicitDefEqProofs:=false) only[SP,SA,WP,sevalprocAttr,-List.reduceReplicate,e0,e1,e2,e3,e4,e10,e11,e12,e13,t4]
  subst hQ
  exact .inr ⟨.inl rfl,mid+1,b,limit,_,_,_,by omega,by omega,hb,⟨by simp[Tr.get_set,e0],by simp[Tr.get_set],by simp[Tr.get_set,e2],by simp[Tr.get_set,e3],by simp[Tr.get_set,e4],by simp[Tr.get_set],by simp[Tr.get_set]⟩,hl,(hp.trans hp2).trans hp3,hs3,rfl⟩
 ·have x1:decide (((mid - a:Nat):Int) < ((b - mid:Nat):Int))=false:=dec_f (by omega)
  have hcl:=hcall (mid+1) b limit D2 H2 (by omega) (by omega) (by omega) hl hp2.good hid2 hp2.same hs2
  rw[callL_go _ _ _ _ _ hT.pdq] at hcl
  rw[if_neg hlt] at hQ
  simp (implicitDefEqProofs:=false) only[SP,SA,WP,sevalprocAttr,-List.reduceReplicate,e0,e1,e2,e3,e4,e10,e11,e12,e13,t1,t2,t3,t4,x1,x4,hT.pdq]
  refine wpO_mono hcl ?_
  rintro⟨v,H3⟩ ⟨hp3,hs3,hv⟩
  dsimp only at hp3
  simp (implicitDefEqProofs:=false) only[SP,SA,WP,sevalprocAttr,-List.reduceReplicate,e0,e1,e2,e3,e4,e10,e11,e12,e13,t4]
  subst hQ
  exact .inr ⟨.inl rfl,a,mid,limit,_,_,_,by omega,by omega,by omega,⟨by simp[Tr.get_set,e0],by simp[Tr.get_set,e1],by simp[Tr.get_set],by simp[Tr.get_set,e3],by simp[Tr.get_set,e4],by simp[Tr.get_set],by simp[Tr.get_set]⟩,hl,(hp.trans hp2).trans hp3,hs3,rfl⟩
def pdqE (cmp:List PV→List PV→Int) (D:Array (List PV)) (a b limit pivot:Nat) (wb wp:Bool):Array (List PV):=
 if a > 0∧ltC cmp D[a - 1]! D[pivot]! =false then Go.Sort.pdq (ltC cmp) (Go.Sort.partitionEqual (ltC cmp) D a b pivot).2 (Go.Sort.partitionEqual (ltC cmp) D a b pivot).1 b limit wb wp
 else pdqF cmp D a b limit pivot
theorem pqE_run (d a b limit pivot:Nat) (wb wp:Bool) (hab:a < b) (hb:b≤n) (hl:limit≤1000) (hpa:a≤pivot) (hpb:pivot < b) (D:Array (List PV)) (E:Tr) (H:List AObj)
 (hE:PqE E id n a b limit cix wb wp) (e12:E.get 12= .pv (i64 (b - a:Nat))) (e13:E.get 13= .pv (i64 pivot)) (hp:Hp id sz P H0 D H) (hn:n=D.size) (hcall:PqCall tab sz k cix P cmp id n (d+2) ((b - a - 1) / 2)):
 wpO (PqQ id sz P H0 cix n (b - a) cmp (pdqE cmp D a b limit pivot wb wp)) (evalC (callL tab (d+2)) (pqE sz k) ⟨E,H⟩):=by
 have hE':=hE
 obtain⟨e0,e1,e2,e3,e4,e10,e11⟩:=hE
 have hid1:id < H.length:=Nat.lt_of_lt_of_le hid hp.le
 have hstart:evalC (callL tab (d+2)) (pqE sz k) ⟨E,H⟩=seqA (evalC (callL tab (d+2)) (pqF sz k)) (evalC (callL tab (d+2)) (hd (pqE sz k)) ⟨E,H⟩):=rfl
 have hh:hd (pqE sz k)=hd (tl (tl (tl (tl (tl (tl (tl (tl (bg_pdqsort_l0 sz k))))))))):=rfl
 rw[hstart,hh,wp_seqA]
 have hF:∀ E',PqE E' id n a b limit cix wb wp→E'.get 12= .pv (i64 (b - a:Nat))→E'.get 13= .pv (i64 pivot)→wpO (PqQ id sz P H0 cix n (b - a) cmp (pdqF cmp D a b limit pivot)) (evalC (callL tab (d+2)) (pqF sz k) ⟨E',H⟩):=
  fun E' h1 h2 h3=>pqF_run hT hc hid hw d a b limit pivot wb wp hab hb hl hpa hpb D E' H h1 h2 h3 hp hn hcall
 unfold pdqE
 generalize hF':evalC (callL tab (d+2)) (pqF sz k)=F at *
 by_cases ha:0 < a
 ·have y1:decide ((a:Int) > 0)=true:=dec_t (by omega)
  have t1:IntKind.i64.wrap ((a:Int) - 1)=((a - 1:Nat):Int):=by rw[wrap_int (by omega)];omega
  have a1:=hp.iaddr (hc d).row hn (i:=((a - 1:Nat):Int)) rfl (by omega)
  have a2:=hp.iaddr (hc d).row hn (i:=(pivot:Int)) rfl (by omega)
  have l1:=hp.load (hc d).row hn (k:=a - 1) (by omega)
  have l2:=hp.load (hc d).row hn (k:=pivot) (by omega)
  have c1:=(hc (d+1)).run H _ _ (hp.rows _ (getB_mem (i:=a - 1) (by omega))) (hp.rows _ (getB_mem (i:=pivot) (by omega)))
  rw[callL_succ] at c1
  by_cases hlt:cmp D[a - 1]! D[pivot]! < 0
  ·have y2:decide (cmp D[a - 1]! D[pivot]! < 0)=true:=dec_t hlt
   have y3:ltC cmp D[a - 1]! D[pivot]! =true:=y2
   rw[if_neg (by rw[y3];simp)]
   generalize hQ:PqQ _ _ _ _ _ _ _ _ _=Q at *
   simp (implicitDefEqProofs:=false) only[SP,SA,WP,sevalprocAttr,-List.reduceReplicate,hd,tl,bg_pdqsort_l0,e0,e1,e2,e3,e4,e10,e11,e12,e13,y1,y2,t1,a1,a2,l1,l2,c1]
   exact hF _ ⟨by simp[Tr.get_set,e0],by simp[Tr.get_set,e1],by simp[Tr.get_set,e2],by simp[Tr.get_set,e3],by simp[Tr.get_set,e4],by simp[Tr.get_set,e10],by simp[Tr.get_set,e11]⟩ (by simp[Tr.get_set,e12]) (by simp[Tr.get_set,e13])
  ·have y2:decide (cmp D[a - 1]! D[pivot]! < 0)=false:=dec_f hlt
   have y3:ltC cmp D[a - 1]! D[pivot]! =false:=y2
   rw[if_pos ⟨ha,y3⟩]
   have hpr:=partEq_run (k:=k) (hc d) hid1 hw a b pivot hpa hpb hb D hp.same hn
   have hbd:=partEq_bounds (ltC cmp) a D pivot hab
   generalize hQ:PqQ _ _ _ _ _ _ _ _ _=Q at *
   simp (implicitDefEqProofs:=false) only[SP,SA,WP,sevalprocAttr,-List.reduceReplicate,hd,tl,bg_pdqsort_l0,e0,e1,e2,e3,e4,e10,e11,e12,e13,y1,y2,t1,a1,a2,l1,l2,c1,hT.peq]
   refine wpO_mono hpr ?_
   rintro⟨v,H2⟩ ⟨hv,hp2,hs2⟩
   dsimp only at hv hp2 hs2
   subst hv
   simp (implicitDefEqProofs:=false) only[SP,SA,WP,sevalprocAttr,-List.reduceReplicate,e0,e1,e2,e3,e4,e10,e11,e12,e13]
   subst hQ
   exact .inr ⟨.inr rfl,_,b,limit,wb,wp,_,by omega,by omega,hb,⟨by simp[Tr.get_set,e0],by simp[Tr.get_set],by simp[Tr.get_set,e2],by simp[Tr.get_set,e3],by simp[Tr.get_set,e4],by simp[Tr.get_set,e10],by simp[Tr.get_set,e11]⟩,hl,hp.trans hp2,hs2,rfl⟩
 ·have y1:decide ((a:Int) > 0)=false:=dec_f (by omega)
  rw[if_neg (fun h=>ha h.1)]
  generalize hQ:PqQ _ _ _ _ _ _ _ _ _=Q at *
  simp (implicitDefEqProofs:=false) only[SP,SA,WP,sevalprocAttr,-List.reduceReplicate,hd,tl,bg_pdqsort_l0,e0,e1,e2,e3,e4,e10,e11,e12,e13,y1]
  exact hF _ ⟨by simp[Tr.get_set,e0],by simp[Tr.get_set,e1],by simp[Tr.get_set,e2],by simp[Tr.get_set,e3],by simp[Tr.get_set,e4],by simp[Tr.get_set,e10],by simp[Tr.get_set,e11]⟩ (by simp[Tr.get_set,e12]) (by simp[Tr.get_set,e13])
def pdqD (cmp:List PV→List PV→Int) (D:Array (List PV)) (a b limit pivot:Nat) (hint:Go.Sort.Hint) (wb wp:Bool):Array (List PV):=
 if (wb&&wp)=true∧hint= .increasing∧(Go.Sort.partialInsertionSort (ltC cmp) D a b).2=true then D else pdqE cmp D a b limit pivot wb wp
theorem pqD_run (d a b limit pivot:Nat) (hint:Go.Sort.Hint) (wb wp:Bool) (hab:a < b) (hb:b≤n) (h50:b < a+50) (hl:limit≤1000) (hpa:a≤pivot) (hpb:pivot < b) (D:Array (List PV)) (E:Tr) (H:List AObj)
 (hE:PqE E id n a b limit cix wb wp) (e12:E.get 12= .pv (i64 (b - a:Nat))) (e13:E.get 13= .pv (i64 pivot)) (e14:E.get 14= .pv (i64 (hintI hint))) (hp:Hp id sz P H0 D H) (hn:n=D.size) (hcall:PqCall tab sz k cix P cmp id n (d+2) ((b - a - 1) / 2)):
 wpO (PqQ id sz P H0 cix n (b - a) cmp (pdqD cmp D a b limit pivot hint wb wp)) (evalC (callL tab (d+2)) (pqD sz k) ⟨E,H⟩):=by
 have hE':=hE
 obtain⟨e0,e1,e2,e3,e4,e10,e11⟩:=hE
 have hid1:id < H.length:=Nat.lt_of_lt_of_le hid hp.le
 have hstart:evalC (callL tab (d+2)) (pqD sz k) ⟨E,H⟩=seqA (evalC (callL tab (d+2)) (pqE sz k)) (evalC (callL tab (d+2)) (hd (pqD sz k)) ⟨E,H⟩):=rfl
 have hh:hd (pqD sz k)=hd (tl (tl (tl (tl (tl (tl (tl (bg_pdqsort_l0 sz k)))))))):=rfl
 rw[hstart,hh,wp_seqA]
 have hF:∀ E',PqE E' id n a b limit cix wb wp→E'.get 12= .pv (i64 (b - a:Nat))→E'.get 13= .pv (i64 pivot)→wpO (PqQ id sz P H0 cix n (b - a) cmp (pdqE cmp D a b limit pivot wb wp)) (evalC (callL tab (d+2)) (pqE sz k) ⟨E',H⟩):=
  fun E' h1 h2 h3=>pqE_run hT hc hid hw d a b limit pivot wb wp hab hb hl hpa hpb D E' H h1 h2 h3 hp hn hcall
 unfold pdqD
 generalize hF':evalC (callL tab (d+2)) (pqE sz k)=F at *
 obtain⟨hpi,hpi2⟩:=pins_run (k:=k) (hc d) hp.good hid1 hw a b hab hb h50 D hp.same hn
 have hx:=hintI_one hint
 generalize (Go.Sort.partialInsertionSort (ltC cmp) D a b).2=done at *
 cases wb with
 |false=>
  rw[if_neg (by simp)]
  simp (implicitDefEqProofs:=false) only[SP,SA,WP,sevalprocAttr,-List.reduceReplicate,hd,tl,bg_pdqsort_l0,e0,e1,e2,e3,e4,e10,e11,e12,e13,e14]
  exact hF _ ⟨by simp[Tr.get_set,e0],by simp[Tr.get_set,e1],by simp[Tr.get_set,e2],by simp[Tr.get_set,e3],by simp[Tr.get_set,e4],by simp[Tr.get_set,e10],by simp[Tr.get_set,e11]⟩ (by simp[Tr.get_set,e12]) (by simp[Tr.get_set,e13])
 |true=>
  cases wp with
  |false=>
   rw[if_neg (by simp)]
   simp (implicitDefEqProofs:=false) only[SP,SA,WP,sevalprocAttr,-List.reduceReplicate,hd,tl,bg_pdqsort_l0,e0,e1,e2,e3,e4,e10,e11,e12,e13,e14]
   exact hF _ ⟨by simp[Tr.get_set,e0],by simp[Tr.get_set,e1],by simp[Tr.get_set,e2],by simp[Tr.get_set,e3],by simp[Tr.get_set,e4],by simp[Tr.get_set,e10],by simp[Tr.get_set,e11]⟩ (by simp[Tr.get_set,e12]) (by simp[Tr.get_set,e13])
  |true=>
   by_cases hi:hint= .increasing
   ·rw[dec_t hi] at hx
    cases done with
    |false=>
     rw[if_neg (by simp)]
     simp (implicitDefEqProofs:=false) only[SP,SA,WP,sevalprocAttr,-List.reduceReplicate,hd,tl,bg_pdqsort_l0,e0,e1,e2,e3,e4,e10,e11,e12,e13,e14,hx,hT.pins,hpi]
     exact hF _ ⟨by simp[Tr.get_set,e0],by simp[Tr.get_set,e1],by simp[Tr.get_set,e2],by simp[Tr.get_set,e3],by simp[Tr.get_set,e4],by simp[Tr.get_set,e10],by simp[Tr.get_set,e11]⟩ (by simp[Tr.get_set,e12]) (by simp[Tr.get_set,e13])
    |true=>
     rw[if_pos ⟨rfl,hi,rfl⟩]
     simp (implicitDefEqProofs:=false) only[SP,SA,WP,sevalprocAttr,-List.reduceReplicate,hd,tl,bg_pdqsort_l0,e0,e1,e2,e3,e4,e10,e11,e12,e13,e14,hx,hT.pins,hpi]
     exact .inl ⟨rfl,hp,hn.symm⟩
   ·rw[dec_f hi] at hx
    rw[if_neg (fun h=>hi h.2.1)]
    simp (implicitDefEqProofs:=false) only[SP,SA,WP,sevalprocAttr,-List.reduceReplicate,hd,tl,bg_pdqsort_l0,e0,e1,e2,e3,e4,e10,e11,e12,e13,e14,hx]
    exact hF _ ⟨by simp[Tr.get_set,e0],by simp[Tr.get_set,e1],by simp[Tr.get_set,e2],by simp[Tr.get_set,e3],by simp[Tr.get_set,e4],by simp[Tr.get_set,e10],by simp[Tr.get_set,e11]⟩ (by simp[Tr.get_set,e12]) (by simp[Tr.get_set,e13])
def pdqC (cmp:List PV→List PV→Int) (D:Array (List PV)) (a b limit:Nat) (wb wp:Bool):Array (List PV):=
 if (Go.Sort.choosePivot (ltC cmp) D a b).2= .decreasing then pdqD cmp (Go.Sort.reverseRange D a b) a b limit ((b - 1) - ((Go.Sort.choosePivot (ltC cmp) D a b).1 - a)) .increasing wb wp
 else pdqD cmp D a b limit (Go.Sort.choosePivot (ltC cmp) D a b).1 (Go.Sort.choosePivot (ltC cmp) D a b).2 wb wp
theorem pqC_run (d a b limit:Nat) (wb wp:Bool) (h8:a+8≤b) (hb:b≤n) (h50:b < a+50) (hl:limit≤1000) (D:Array (List PV)) (E:Tr) (H:List AObj)
 (hE:PqE E id n a b limit cix wb wp) (e12:E.get 12= .pv (i64 (b - a:Nat))) (hp:Hp id sz P H0 D H) (hn:n=D.size) (hcall:PqCall tab sz k cix P cmp id n (d+4) ((b - a - 1) / 2)):
 wpO (PqQ id sz P H0 cix n (b - a) cmp (pdqC cmp D a b limit wb wp)) (evalC (callL tab (d+4)) (pqC sz k) ⟨E,H⟩):=by
 have hE':=hE
 obtain⟨e0,e1,e2,e3,e4,e10,e11⟩:=hE
 have hid1:id < H.length:=Nat.lt_of_lt_of_le hid hp.le
 have hstart:evalC (callL tab (d+4)) (pqC sz k) ⟨E,H⟩=seqA (fun s=>seqA (evalC (callL tab (d+4)) (pqD sz k)) (evalC (callL tab (d+4)) (hd (tl (pqC sz k))) s)) (evalC (callL tab (d+4)) (hd (pqC sz k)) ⟨E,H⟩):=rfl
 have hh:hd (pqC sz k)=hd (tl (tl (tl (tl (tl (bg_pdqsort_l0 sz k)))))):=rfl
 have hh2:hd (tl (pqC sz k))=hd (tl (tl (tl (tl (tl (tl (bg_pdqsort_l0 sz k))))))):=rfl
 rw[hstart,hh,hh2,wp_seqA]
 obtain⟨o,ho,hpv⟩:=pivot_run (k:=k) hT hc hp.same hn hw d a b h8 hb h50
 have hbd:=Go.Sort.choosePivot_holds (ltC cmp) D a b (by omega)
 have hp2:=hp_push hp ho
 unfold pdqC
 generalize Go.Sort.choosePivot (ltC cmp) D a b=c at *
 obtain⟨pv,hint⟩:=c
 dsimp only at hbd hpv ⊢
 have hx:=hintI_two hint
 by_cases hi:hint= .decreasing
 ·rw[dec_t hi] at hx
  have hid2:id < (H++[o]).length:=by simp;omega
  have hr:=rev_run (k:=k) (hc (d+2)) hp2.good hid2 hw a b (by omega) hb D hp2.same hn (.clo cix [])
  have t1:IntKind.i64.wrap ((b:Int) - 1)=((b - 1:Nat):Int):=by rw[wrap_int (by omega)];omega
  have t2:IntKind.i64.wrap ((pv:Int) - (a:Int))=((pv - a:Nat):Int):=by rw[wrap_int (by omega)];omega
  have t3:IntKind.i64.wrap (((b - 1:Nat):Int) - ((pv - a:Nat):Int))=((b - 1 - (pv - a):Nat):Int):=by rw[wrap_int (by omega)];omega
  rw[if_pos hi]
  have hF:∀ E' H',PqE E' id n a b limit cix wb wp→E'.get 12= .pv (i64 (b - a:Nat))→E'.get 13= .pv (i64 (b - 1 - (pv - a):Nat))→E'.get 14= .pv (i64 1)→Hp id sz P H0 (Go.Sort.reverseRange D a b) H'→(Go.Sort.reverseRange D a b).size=n→
   wpO (PqQ id sz P H0 cix n (b - a) cmp (pdqD cmp (Go.Sort.reverseRange D a b) a b limit (b - 1 - (pv - a)) .increasing wb wp)) (evalC (callL tab (d+4)) (pqD sz k) ⟨E',H'⟩):=
   fun E' H' h1 h2 h3 h4 h5 h6=>pqD_run hT hc hid hw (d+2) a b limit _ .increasing wb wp (by omega) hb h50 hl (by omega) (by omega) _ E' H' h1 h2 h3 h4 h5 h6.symm hcall
  generalize hF':evalC (callL tab (d+4)) (pqD sz k)=F at *
  generalize hQ:PqQ _ _ _ _ _ _ _ _ _=Q at *
  simp (implicitDefEqProofs:=false) only[SP,SA,WP,sevalprocAttr,-List.reduceReplicate,hd,tl,bg_pdqsort_l0,e0,e1,e2,e3,e4,e10,e11,e12,hT.piv,hpv,hx,hT.rev]
  refine wpO_mono hr ?_
  rintro⟨v,H2⟩ ⟨hv,hp3,hs3⟩
  dsimp only at hv hp3 hs3
  simp (implicitDefEqProofs:=false) only[SP,SA,WP,sevalprocAttr,-List.reduceReplicate,e0,e1,e2,e3,e4,e10,e11,e12,t1,t2,t3]
  exact hF _ _ ⟨by simp[Tr.get_set,e0],by simp[Tr.get_set,e1],by simp[Tr.get_set,e2],by simp[Tr.get_set,e3],by simp[Tr.get_set,e4],by simp[Tr.get_set,e10],by simp[Tr.get_set,e11]⟩ (by simp[Tr.get_set,e12]) (by simp[Tr.get_set]) (by simp[Tr.get_set]) (hp2.trans hp3) hs3
 ·rw[dec_f hi] at hx
  rw[if_neg hi]
  have hF:∀ E' H',PqE E' id n a b limit cix wb wp→E'.get 12= .pv (i64 (b - a:Nat))→E'.get 13= .pv (i64 pv)→E'.get 14= .pv (i64 (hintI hint))→Hp id sz P H0 D H'→
   wpO (PqQ id sz P H0 cix n (b - a) cmp (pdqD cmp D a b limit pv hint wb wp)) (evalC (callL tab (d+4)) (pqD sz k) ⟨E',H'⟩):=
   fun E' H' h1 h2 h3 h4 h5=>pqD_run hT hc hid hw (d+2) a b limit _ hint wb wp (by omega) hb h50 hl (by omega) (by omega) _ E' H' h1 h2 h3 h4 h5 hn hcall
  generalize hF':evalC (callL tab (d+4)) (pqD sz k)=F at *
  generalize hQ:PqQ _ _ _ _ _ _ _ _ _=Q at *
  simp (implicitDefEqProofs:=false) only[SP,SA,WP,sevalprocAttr,-List.reduceReplicate,hd,tl,bg_pdqsort_l0,e0,e1,e2,e3,e4,e10,e11,e12,hT.piv,hpv,hx]
  exact hF _ _ ⟨by simp[Tr.get_set,e0],by simp[Tr.get_set,e1],by simp[Tr.get_set,e2],by simp[Tr.get_set,e3],by simp[Tr.get_set,e4],by simp[Tr.get_set,e10],by simp[Tr.get_set,e11]⟩ (by simp[Tr.get_set,e12]) (by simp[Tr.get_set]) (by simp[Tr.get_set]) hp2
theorem pqB_run (d a b limit:Nat) (wb wp:Bool) (h8:a+8≤b) (hb:b≤n) (h50:b < a+50) (hl:limit≤1000) (hl0:limit≠0) (D:Array (List PV)) (E:Tr) (H:List AObj)
 (hE:PqE E id n a b limit cix wb wp) (e12:E.get 12= .pv (i64 (b - a:Nat))) (hp:Hp id sz P H0 D H) (hn:n=D.size) (hcall:PqCall tab sz k cix P cmp id n (d+4) ((b - a - 1) / 2)):
 wpO (PqQ id sz P H0 cix n (b - a) cmp (pdqC cmp (if wb then D else Go.Sort.breakPatterns D a b) a b (if wb then limit else limit - 1) wb wp)) (evalC (callL tab (d+4)) (pqB sz k) ⟨E,H⟩):=by
 have hE':=hE
 obtain⟨e0,e1,e2,e3,e4,e10,e11⟩:=hE
 have hid1:id < H.length:=Nat.lt_of_lt_of_le hid hp.le
 have hstart:evalC (callL tab (d+4)) (pqB sz k) ⟨E,H⟩=seqA (evalC (callL tab (d+4)) (pqC sz k)) (evalC (callL tab (d+4)) (hd (pqB sz k)) ⟨E,H⟩):=rfl
 have hh:hd (pqB sz k)=hd (tl (tl (tl (tl (bg_pdqsort_l0 sz k))))):=rfl
 rw[hstart,hh,wp_seqA]
 cases wb with
 |true=>
  have hF:∀ E',PqE E' id n a b limit cix true wp→E'.get 12= .pv (i64 (b - a:Nat))→wpO (PqQ id sz P H0 cix n (b - a) cmp (pdqC cmp D a b limit true wp)) (evalC (callL tab (d+4)) (pqC sz k) ⟨E',H⟩):=
   fun E' h1 h2=>pqC_run hT hc hid hw d a b limit true wp h8 hb h50 hl D E' H h1 h2 hp hn hcall
  rw[if_pos rfl,if_pos rfl]
  generalize hF':evalC (callL tab (d+4)) (pqC sz k)=F at *
  simp (implicitDefEqProofs:=false) only[SP,SA,WP,sevalprocAttr,-List.reduceReplicate,hd,tl,bg_pdqsort_l0,e0,e1,e2,e3,e4,e10,e11,e12]
  exact hF _ ⟨by simp[Tr.get_set,e0],by simp[Tr.get_set,e1],by simp[Tr.get_set,e2],by simp[Tr.get_set,e3],by simp[Tr.get_set,e4],by simp[Tr.get_set,e10],by simp[Tr.get_set,e11]⟩ (by simp[Tr.get_set,e12])
 |false=>
  have hr:=brk_run (k:=k) hT (hc d).row hid1 hw (d+2) a b h8 hb h50 D hp.same hn (.clo cix [])
  have t1:IntKind.i64.wrap ((limit:Int) - 1)=((limit - 1:Nat):Int):=by rw[wrap_int (by omega)];omega
  rw[if_neg (by simp),if_neg (by simp)]
  have hF:∀ E' H',PqE E' id n a b (limit - 1) cix false wp→E'.get 12= .pv (i64 (b - a:Nat))→Hp id sz P H0 (Go.Sort.breakPatterns D a b) H'→(Go.Sort.breakPatterns D a b).size=n→wpO (PqQ id sz P H0 cix n (b - a) cmp (pdqC cmp (Go.Sort.breakPatterns D a b) a b (limit - 1) false wp)) (evalC (callL tab (d+4)) (pqC sz k) ⟨E',H'⟩):=
   fun E' H' h1 h2 h3 h4=>pqC_run hT hc hid hw d a b (limit - 1) false wp h8 hb h50 (by omega) _ E' H' h1 h2 h3 h4.symm hcall
  generalize hF':evalC (callL tab (d+4)) (pqC sz k)=F at *
  simp (implicitDefEqProofs:=false) only[SP,SA,WP,sevalprocAttr,-List.reduceReplicate,hd,tl,bg_pdqsort_l0,e0,e1,e2,e3,e4,e10,e11,e12,hT.brk]
  refine wpO_mono hr ?_
  rintro⟨v,H2⟩ ⟨hv,hp3,hs3⟩
  dsimp only at hv hp3 hs3
  simp (implicitDefEqProofs:=false) only[SP,SA,WP,sevalprocAttr,-List.reduceReplicate,e0,e1,e2,e3,e4,e10,e11,e12,t1]
  exact hF _ _ ⟨by simp[Tr.get_set,e0],by simp[Tr.get_set,e1],by simp[Tr.get_set,e2],by simp[Tr.get_set],by simp[Tr.get_set,e4],by simp[Tr.get_set,e10],by simp[Tr.get_set,e11]⟩ (by simp[Tr.get_set,e12]) (hp.trans hp3) hs3
omit hT hc hid hw in
theorem pdq_eq (D:Array (List PV)) (a b limit:Nat) (wb wp:Bool) (h12:12 < b - a) (hl0:limit≠0) (h50:b < a+50):
 Go.Sort.pdq (ltC cmp) D a b limit wb wp=pdqC cmp (if wb then D else Go.Sort.breakPatterns D a b) a b (if wb then limit else limit - 1) wb wp:=by
 have hab:a < b:=by omega
 have hPE:∀ (D:Array (List PV)) (limit pivot:Nat),(if a > 0&& !ltC cmp D[a - 1]! D[pivot]! then
  match Go.Sort.partitionEqual (ltC cmp) D a b pivot with
  | (mid,d4)=>if _h:a < mid∧mid≤b then Go.Sort.pdq (ltC cmp) d4 mid b limit wb wp else d4
  else
   match Go.Sort.partition (ltC cmp) D a b pivot with
   | (mid,alreadyPartitioned,d4)=>
     if _h:a≤mid∧mid < b then
      if mid - a < b - mid then
       Go.Sort.pdq (ltC cmp) (Go.Sort.pdq (ltC cmp) d4 a mid limit true true) (mid+1) b limit (decide (mid - a≥(b - a) / 8)) alreadyPartitioned
      else
       Go.Sort.pdq (ltC cmp) (Go.Sort.pdq (ltC cmp) d4 (mid+1) b limit true true) a mid limit (decide (b - mid≥(b - a) / 8)) alreadyPartitioned
     else d4)=pdqE cmp D a b limit pivot wb wp:=by
  intro D limit pivot
  unfold pdqE pdqF
  have hb1:=partEq_bounds (ltC cmp) a D pivot hab
  have hb2:=part_bounds (ltC cmp) a D pivot hab
  by_cases h:a > 0∧ltC cmp D[a - 1]! D[pivot]! =false
  ·rw[if_pos h,if_pos (by simp[h.1,h.2])]
   dsimp only
   rw[dif_pos hb1]
  ·have h':¬(a > 0&& !ltC cmp D[a - 1]! D[pivot]!)=true:=by
    intro e;apply h;simpa using e
   rw[if_neg h,if_neg h']
   dsimp only
   rw[dif_pos hb2]
 have hPD:∀ (D:Array (List PV)) (limit pivot:Nat) (hint:Go.Sort.Hint),(if (if wb&&wp&&hint= .increasing then Go.Sort.partialInsertionSort (ltC cmp) D a b else (D,false)).2 then (if wb&&wp&&hint= .increasing then Go.Sort.partialInsertionSort (ltC cmp) D a b else (D,false)).1 else
  pdqE cmp (if wb&&wp&&hint= .increasing then Go.Sort.partialInsertionSort (ltC cmp) D a b else (D,false)).1 a b limit pivot wb wp)=pdqD cmp D a b limit pivot hint wb wp:=by
  intro D limit pivot hint
  unfold pdqD
  have hf:=pins_fst (lt:=ltC cmp) D a b h50
  by_cases h1:(wb&&wp&&decide (hint= .increasing))=true
  ·have h1':(wb&&wp)=true∧hint= .increasing:=by simpa using h1
   simp only[h1,if_true,hf]
   by_cases h2:(Go.Sort.partialInsertionSort (ltC cmp) D a b).2=true
   ·rw[if_pos h2,if_pos ⟨h1'.1,h1'.2,h2⟩]
   ·rw[if_neg h2,if_neg (fun h=>h2 h.2.2)]
  ·have h3:¬((wb&&wp)=true∧hint= .increasing∧(Go.Sort.partialInsertionSort (ltC cmp) D a b).2=true):=fun h=>h1 (by simp[h.1,h.2.1])
   rw[if_neg h3,if_neg h1]
   rfl
 rw[Go.Sort.pdq,if_neg (by omega),if_neg hl0]
 unfold pdqC
 dsimp only
 cases wb with
 |true=>
  simp only[Bool.not_true,if_false,if_true,Bool.false_eq_true]
  generalize Go.Sort.choosePivot (ltC cmp) D a b=c
  by_cases hd:c.2= .decreasing
  ·simp only[hd,if_true]
   rw[← hPD,←hPE]
   all_goals rfl
  ·simp only[hd,if_false]
   rw[← hPD,←hPE]
   all_goals rfl
 |false=>
  simp only[Bool.not_false,if_false,if_true,Bool.false_eq_true]
  generalize Go.Sort.breakPatterns D a b=D1
  generalize Go.Sort.choosePivot (ltC cmp) D1 a b=c
  by_cases hd:c.2= .decreasing
  ·simp only[hd,if_true]
   rw[← hPD,←hPE]
   all_goals rfl
  ·simp only[hd,if_false]
   rw[← hPD,←hPE]
   all_goals rfl
end
end Go.AM.B1
namespace Go.AM.B1
open Go.AM Go.AM.So
def lnChk (L:Nat):Bool:=match F_math_bits_Len [u64 L] with
 |some (.int .i64 v)=>v==(Go.Sort.bitsLen L:Int)
 |_=>false
theorem ln_all:(List.range 64).all lnChk=true:=by kernel_rfl
theorem ln_run {L:Nat} (h:L < 64):F_math_bits_Len [u64 L]=some (i64 (Go.Sort.bitsLen L:Nat)):=by
 have:=List.all_eq_true.1 ln_all L (by simpa using h)
 unfold lnChk at this
 split at this
 ·next v e=>rw[e,eq_of_beq this]
 ·cases this
section
variable {tab:Nat→Option AFn} {sz k cix:Nat} {P:List PV→Prop} {cmp:List PV→List PV→Int} (hT:SortTab tab sz k) (hc:∀ d,Cmp (callL tab (d+1)) sz cix P cmp)
 {id n:Nat} (hw:n≤1000000)
abbrev envPd (id n a b limit cix:Nat) (wb wp:Bool):Tr:=((((((Tr.lf.set 11 (.pv (.bool wp))).set 10 (.pv (.bool wb))).set 4 (.clo cix [])).set 3 (.pv (i64 limit))).set 2 (.pv (i64 b))).set 1 (.pv (i64 a))).set 0 (.own id n)
include hT hc hw
theorem pqA_run {H0:List AObj} (hid:id < H0.length) (d a b limit:Nat) (wb wp:Bool) (hdd:pqOk d (b - a)) (hab:a≤b) (hb:b≤n) (h50:b < a+50) (hl:limit≤1000) (D:Array (List PV)) (H:List AObj)
 (hp:Hp id sz P H0 D H) (hn:n=D.size) (hcall:12 < b - a→PqCall tab sz k cix P cmp id n d ((b - a - 1) / 2)):
 wpO (PqQ id sz P H0 cix n (b - a) cmp (Go.Sort.pdq (ltC cmp) D a b limit wb wp)) (evalC (callL tab d) (tl (bg_pdqsort_l0 sz k)) ⟨envPd id n a b limit cix wb wp,H⟩):=by
 have hid1:id < H.length:=Nat.lt_of_lt_of_le hid hp.le
 have t1:IntKind.i64.wrap ((b:Int) - (a:Int))=((b - a:Nat):Int):=by rw[wrap_int (by omega)];omega
 have hk0:tab k=some (bg_insertionSort sz k):=hT.ins
 by_cases h12:b - a≤12
 ·have y1:decide (((b - a:Nat):Int)≤12)=true:=dec_t (by omega)
  obtain⟨d,rfl⟩:∃ d',d=d'+2:=⟨d - 2,by unfold pqOk at hdd;omega⟩
  have hr:=ins_run (k:=k) (hc d) hp.good hid1 (by omega:n≤4611686018427387904) a b (by omega) hb D hp.same hn
  have hpq:Go.Sort.pdq (ltC cmp) D a b limit wb wp=Go.Sort.insertionSort (ltC cmp) D a b:=by rw[Go.Sort.pdq,if_pos h12]
  rw[hpq]
  simp (implicitDefEqProofs:=false) only[SP,SA,WP,sevalprocAttr,-List.reduceReplicate,tl,bg_pdqsort_l0,t1,y1,hT.ins,hk0,envPd]
  refine wpO_mono hr ?_
  rintro⟨v,H2⟩ ⟨hv,hp3,hs3⟩
  dsimp only at hv hp3 hs3
  simp (implicitDefEqProofs:=false) only[SP,SA,WP,sevalprocAttr,-List.reduceReplicate]
  exact .inl ⟨rfl,hp.trans hp3,hs3⟩
 ·have y1:decide (((b - a:Nat):Int)≤12)=false:=dec_f (by omega)
  obtain⟨d,rfl⟩:∃ d',d=d'+4:=⟨d - 4,by unfold pqOk at hdd;omega⟩
  by_cases hl0:limit=0
  ·have y2:((limit:Int)==0)=true:=by simp[hl0]
   have hr:=heap_run (k:=k) hT hc hp.good hid1 hw (d+1) a b (by omega) hb D hp.same hn
   have hpq:Go.Sort.pdq (ltC cmp) D a b limit wb wp=Go.Sort.heapSort (ltC cmp) D a b:=by rw[Go.Sort.pdq,if_neg h12,if_pos hl0]
   rw[hpq]
   simp (implicitDefEqProofs:=false) only[SP,SA,WP,sevalprocAttr,-List.reduceReplicate,tl,bg_pdqsort_l0,t1,y1,y2,hT.heap,envPd]
   refine wpO_mono hr ?_
   rintro⟨v,H2⟩ ⟨hv,hp3,hs3⟩
   dsimp only at hv hp3 hs3
   simp (implicitDefEqProofs:=false) only[SP,SA,WP,sevalprocAttr,-List.reduceReplicate]
   exact .inl ⟨rfl,hp.trans hp3,hs3⟩
  ·have y2:((limit:Int)==0)=false:=beq_ne (by omega)
   rw[pdq_eq D a b limit wb wp (by omega) hl0 h50]
   have hF:∀ E',PqE E' id n a b limit cix wb wp→E'.get 12= .pv (i64 (b - a:Nat))→wpO (PqQ id sz P H0 cix n (b - a) cmp (pdqC cmp (if wb then D else Go.Sort.breakPatterns D a b) a b (if wb then limit else limit - 1) wb wp)) (evalC (callL tab (d+4)) (pqB sz k) ⟨E',H⟩):=
    fun E' h1 h2=>pqB_run hT hc hid hw d a b limit wb wp (by omega) hb h50 hl hl0 D E' H h1 h2 hp hn (hcall (by omega))
   have hstart:evalC (callL tab (d+4)) (tl (bg_pdqsort_l0 sz k)) ⟨envPd id n a b limit cix wb wp,H⟩=
    seqA (fun s=>seqA (fun s=>seqA (evalC (callL tab (d+4)) (pqB sz k)) (evalC (callL tab (d+4)) (hd (tl (tl (tl (bg_pdqsort_l0 sz k))))) s)) (evalC (callL tab (d+4)) (hd (tl (tl (bg_pdqsort_l0 sz k)))) s)) (evalC (callL tab (d+4)) (hd (tl (bg_pdqsort_l0 sz k))) ⟨envPd id n a b limit cix wb wp,H⟩):=rfl
   rw[hstart,wp_seqA]
   generalize hF':evalC (callL tab (d+4)) (pqB sz k)=F at *
   simp (implicitDefEqProofs:=false) only[SP,SA,WP,sevalprocAttr,-List.reduceReplicate,hd,tl,bg_pdqsort_l0,t1,y1,y2,envPd]
   exact hF _ ⟨by simp[Tr.get_set],by simp[Tr.get_set],by simp[Tr.get_set],by simp[Tr.get_set],by simp[Tr.get_set],by simp[Tr.get_set],by simp[Tr.get_set]⟩ (by simp[Tr.get_set])
theorem pdq_loop (m:Nat):∀ (d:Nat),pqOk d m→(12 < m→∀ m',m'≤(m - 1) / 2→PqCall tab sz k cix P cmp id n d m')→∀ (N a b limit:Nat) (wb wp:Bool) (D:Array (List PV)) (H0 H:List AObj),b - a≤m→b - a < N→a≤b→b≤n→limit≤1000→
 HGood H0→id < H0.length→H.length=H0.length→Hp id sz P H0 D H→n=D.size→
 wpO (fun r=>r.1= .ret∧Hp id sz P H0 (Go.Sort.pdq (ltC cmp) D a b limit wb wp) r.2.H∧(Go.Sort.pdq (ltC cmp) D a b limit wb wp).size=n)
  (loopA (roundA (evalC (callL tab d) (bg_pdqsort_l0 sz k)) (clean H0.length [0,1,2,3,4,10,11])) N ⟨envPd id n a b limit cix wb wp,H⟩):=by
 induction m with
 |zero=>
  intro d hd hcall N a b limit wb wp D H0 H hm hN hab hb hl g0 hid hlen hp hn
  obtain⟨N,rfl⟩:∃ N',N=N'+1:=⟨N - 1,by omega⟩
  have hr:=pqA_run hT hc hw hid d a b limit wb wp (by unfold pqOk at hd ⊢;omega) hab hb (by omega) hl D H hp hn (fun h=>by omega)
  obtain⟨⟨ex,s⟩,h1,h2⟩:=wpO_spec hr
  show wpO _ (seqA _ (seqA _ (blockA 1 (evalC (callL tab d) (tl (bg_pdqsort_l0 sz k)) _))))
  rw[h1]
  rcases h2 with⟨rfl,h3,h4⟩ | ⟨_,a',b',_,_,_,_,h3,h4,_⟩
  ·exact⟨rfl,h3,h4⟩
  ·omega
 |succ m ih=>
  intro d hd hcall N a b limit wb wp D H0 H hm hN hab hb hl g0 hid hlen hp hn
  obtain⟨N,rfl⟩:∃ N',N=N'+1:=⟨N - 1,by omega⟩
  have hr:=pqA_run hT hc hw hid d a b limit wb wp (by unfold pqOk at hd ⊢;omega) hab hb (by unfold pqOk at hd;omega) hl D H hp hn (fun h=>hcall (by omega) _ (by omega))
  obtain⟨⟨ex,s⟩,h1,h2⟩:=wpO_spec hr
  show wpO _ (seqA _ (seqA _ (blockA 1 (evalC (callL tab d) (tl (bg_pdqsort_l0 sz k)) _))))
  rw[h1]
  rcases h2 with⟨rfl,h3,h4⟩ | ⟨hex,a',b',l',wb',wp',D',h3,h4,h5,hE,h6,hp',h7,h8⟩
  ·exact⟨rfl,h3,h4⟩
  ·obtain⟨q1,q2,q3⟩:=hp'.clean rfl g0
   have hcl:clean H0.length [0,1,2,3,4,10,11] s=some ⟨envPd id n a' b' l' cix wb' wp',s.H.take H0.length⟩:=by
    obtain⟨e0,e1,e2,e3,e4,e10,e11⟩:=hE
    simp only[clean,cutEnv,e0,e1,e2,e3,e4,e10,e11,AV.cut,hid,cut_pv,q1,Option.bind_some,Option.map_some,mapO,deep_eq',if_true]
   have hb1:blockA 1 (some (ex,s))=some (.norm,s):=by
    rcases hex with h | h
    ·dsimp only at h;subst h;rfl
    ·dsimp only at h;subst h;rfl
   rw[hb1,seqA_norm,hcl,normA_some,seqA_norm,←h8]
   refine ih d (by unfold pqOk at hd ⊢;omega) (fun h m' h'=>hcall (by omega) m' (by omega)) N a' b' l' wb' wp' D' H0 _ (by omega) (by omega) h4 h5 h6 g0 hid q3 q2 h7.symm
theorem pdq_run (m d:Nat) (hd:pqOk d m) (hcall:12 < m→∀ m',m'≤(m - 1) / 2→PqCall tab sz k cix P cmp id n d m') (a b limit:Nat) (D:Array (List PV)) (H0:List AObj) (hm:b - a≤m) (hab:a≤b) (hb:b≤n) (hl:limit≤1000)
 (g0:HGood H0) (hid:id < H0.length) (hp:Hp id sz P H0 D H0) (hn:n=D.size):
 wpO (fun r=>Hp id sz P H0 (Go.Sort.pdq (ltC cmp) D a b limit true true) r.2∧(Go.Sort.pdq (ltC cmp) D a b limit true true).size=n∧r.1= .pv (.tup []))
  (runF (callL tab d) (bg_pdqsort sz k) [.own id n,.pv (i64 a),.pv (i64 b),.pv (i64 limit),.clo cix []] H0):=by
 have hlp:=pdq_loop hT hc hw m d hd hcall rounds a b limit true true D H0 H0 hm (by unfold rounds;omega) hab hb hl g0 hid rfl hp hn
 simp (implicitDefEqProofs:=false) only[SP,SA,WP,sevalprocAttr,-List.reduceReplicate,bg_pdqsort,C_loop,clean,cutEnv,AV.cut,hid,List.take_length,HGood.cut g0,deep_eq']
 refine wpO_mono hlp ?_
 rintro⟨ex,s⟩ ⟨rfl,h1,h2⟩
 simp (implicitDefEqProofs:=false) only[SP,SA,WP,sevalprocAttr,-List.reduceReplicate]
 exact⟨h1,h2⟩
theorem pdq_call (m:Nat):∀ d,(1≤d∧pqOk (d - 1) m)→∀ m',m'≤m→PqCall tab sz k cix P cmp id n d m':=by
 induction m using Nat.strongRecOn with
 |ind m ih=>
  intro d hd m' hm' a b limit D H hab hb hm hl g0 hid hp hn
  obtain⟨d,rfl⟩:∃ d',d=d'+1:=⟨d - 1,by omega⟩
  rw[callL_go _ _ _ _ _ hT.pdq]
  refine pdq_run hT hc hw m' d ?_ (fun h m2 h2=>ih ((m - 1) / 2) (by omega) d ?_ m2 (by omega)) a b limit D H hm hab hb hl g0 hid hp hn.symm
  ·have:=hd.2;simp only[Nat.add_sub_cancel] at this;unfold pqOk at this ⊢;omega
  ·have:=hd.2;simp only[Nat.add_sub_cancel] at this;unfold pqOk at this ⊢;omega
theorem sort_run (hS:Go.Sort.SWO (ltC cmp)) (d:Nat) (hd:6≤d) (hn50:n < 50) (D:Array (List PV)) (H0:List AObj) (g0:HGood H0) (hid:id < H0.length) (hp:Hp id sz P H0 D H0) (hn:n=D.size):
 wpO (fun r=>r.1= .pv (.tup [])∧∃ D',Hp id sz P H0 D' r.2∧D'.size=n∧D'.toList.Perm D.toList∧∀ i j,i < j→j < n→¬cmp D'[j]! D'[i]! < 0)
  (runF (callL tab d) (bg_SortFunc sz k) [.own id n,.clo cix []] H0):=by
 have t1:IntKind.u64.wrap (n:Int)=(n:Int):=wrap_u64_nat (by omega)
 have hln:=ln_run (L:=n) (by omega)
 have hlb:Go.Sort.bitsLen n≤1000:=by
  have:=(Go.Sort.bitsLen_le_iff n 6).2 (by omega);omega
 have hcl:=pdq_call hT hc hw (id:=id) n d ⟨by omega,by unfold pqOk;omega⟩ n (Nat.le_refl _) 0 n (Go.Sort.bitsLen n) D H0 (by omega) (Nat.le_refl _) (by omega) hlb g0 hid hp hn.symm
 obtain⟨d,rfl⟩:∃ d',d=d'+1:=⟨d - 1,by omega⟩
 rw[callL_go _ _ _ _ _ hT.pdq] at hcl
 have hsort:=Go.Sort.pdq_sorts (ltC cmp) hS D 0 n (Go.Sort.bitsLen n) true true (by omega) (by omega) (.inl rfl)
 obtain⟨fl,nl,hf,hg⟩:=hp.get
 have hfl:=flatR_len fun r hr=>(hc d).row r (hp.rows r hr)
 have hlen:lenA H0 0 (.own id n)=some n:=by
  rw[lenA_own,hg]
  simp only[rowsObj]
  rw[if_pos]
  unfold winOk
  rw[hfl,hn];omega
 generalize Go.Sort.pdq (ltC cmp) D 0 n (Go.Sort.bitsLen n) true true=R at *
 have hcl':wpO (fun r=>Hp id sz P H0 R r.2∧R.size=n∧r.1= .pv (.tup [])) (runF (callL tab d) (bg_pdqsort sz k) [.own id n,.pv (i64 0),.pv (i64 n),.pv (i64 (Go.Sort.bitsLen n)),.clo cix []] H0):=hcl
 unfold bg_SortFunc
 rw[runF_go]
 simp (implicitDefEqProofs:=false) only[SP,SA,WP,sevalprocAttr,-List.reduceReplicate,hlen,t1,hln,hT.pdq]
 refine wpO_mono hcl' ?_
 rintro⟨v,H2⟩ ⟨hp3,hs3,hv⟩
 simp (implicitDefEqProofs:=false) only[SP,SA,WP,sevalprocAttr,-List.reduceReplicate]
 have hperm:=hsort.1.2.2
 rw[Go.Sort.extract_toList _ _ _ (by omega),Go.Sort.extract_toList _ _ _ (by omega)] at hperm
 have hfull:∀ (A:Array (List PV)),A.size=n→(List.range' 0 (n - 0)).map (fun i=>A[i]!)=A.toList:=by
  intro A hA
  apply List.ext_getElem
  ·simp[hA]
  ·intro i h1 h2
   simp at h1 h2
   simp[getB h2]
 rw[hfull R hs3,hfull D hn.symm] at hperm
 refine⟨R,hp3,hs3,hperm,fun i j hij hj=> ?_⟩
 have:=hsort.2 i j (by omega) hij hj
 unfold ltC at this
 simpa using this
end
end Go.AM.B1
