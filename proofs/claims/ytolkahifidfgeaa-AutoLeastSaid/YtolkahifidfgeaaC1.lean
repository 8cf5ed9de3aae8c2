/- The abstract code of the program's functions, and what those of sets and spans compute. -/
import Derived.Test.YtolkahifidfgeaaA3
import Derived.Test.YtolkahifidfgeaaProg
set_option linter.unusedVariables false
namespace Go.AM.B1
open Go.AM
noncomputable abbrev P:Program:=Go.Proofs.Try.prog
def fo:Nat→FuncId
 |0=>106
 |1=>93
 |2=>105
 |3=>91
 |4=>58
 |5=>88
 |6=>70
 |7=>71
 |8=>117
 |9=>127
 |10=>118
 |11=>129
 |12=>119
 |13=>132
 |14=>131
 |15=>130
 |16=>120
 |17=>121
 |18=>122
 |19=>123
 |20=>124
 |21=>113
 |22=>107
 |23=>108
 |24=>94
 |25=>57
 |26=>60
 |27=>61
 |28=>37
 |29=>38
 |30=>39
 |31=>18
 |32=>47
 |33=>46
 |_=>0
theorem noTable:TableOk P fo (fun _=>none):=fun ix af h=>by cases h
def b_sets_To_sets_Run_api_Span_l0:ACode:=(.seq (.region [Co 12 (.bin .lss (.t 11) (.t 10))]) (.seq (.cond (.t 12) (.skip) (.exit 0)) (.seq (.block 1 (.seq (.region [Co 13 (.iaddr 2 (.t 9) (.t 11)),Co 14 (.load true 2 (.t 13)),Co 5 (.alloc [(.int .i64 0),(.int .i64 0)]),Ce (.store 2 (.t 5) (.t 14))]) (.region [Cv 15 3,Co 16 (.load true 2 (.t 5)),Co 17 (.bslice .lit 2 true 1 [(.int .i64 0),(.int .i64 0)] [(0,(.t 16))]),Co 18 (.append false .uq 2 true 16 (.t 15) (.t 17)),Cv 3 18]))) (.region [Co 19 (.bin .add (.t 11) (.c (.int .i64 1))),Cv 11 19]))))
def b_sets_To_sets_Run_api_Span:AFn:=⟨1,[.tmp 2],(.seq (.region [Co 2 (.move (.c .nils))]) (.seq (.region [Cv 6 0,Co 7 (.len 0 (.t 6)),Co 8 (.mkslice .uq 2 true [(.int .i64 0),(.int .i64 0)] 16 (.c (.int .i64 0)) (.t 7)),Cv 3 8]) (.seq (.seq (.region [Cv 9 0,Co 10 (.len 0 (.t 9)),Co 11 (.move (.c (.int .i64 0)))]) (.block 0 (.loop [3,9,10,11] b_sets_To_sets_Run_api_Span_l0))) (.seq (.region [Cv 20 3,Cv 2 20]) (.ret)))))⟩
theorem fn_sets_To_sets_Run_api_Span:FnOk P fo 103 b_sets_To_sets_Run_api_Span:=fM Go.Proofs.Try.func103 dN (by kernel_rfl) (by kernel_rfl)
def F_sets_To_sets_Run_api_Span:List PV→Option PV:=pureF (fun _=>none) b_sets_To_sets_Run_api_Span
theorem p_sets_To_sets_Run_api_Span:PureFn P 103 F_sets_To_sets_Run_api_Span:=pureF_ok noTable fn_sets_To_sets_Run_api_Span
def b_sets_Valid_l0:ACode:=(.seq (.region [Co 11 (.bin .lss (.t 10) (.t 9))]) (.seq (.cond (.t 11) (.skip) (.exit 0)) (.seq (.block 1 (.seq (.region [Co 12 (.iaddr 2 (.t 8) (.t 10)),Co 13 (.load true 2 (.t 12)),Co 7 (.alloc [(.int .i64 0),(.int .i64 0)]),Ce (.store 2 (.t 7) (.t 13))]) (.seq (.seq (.region [Co 14 (.faddr 0 (.t 7)),Co 15 (.load false 1 (.t 14)),Co 16 (.bin .lss (.t 15) (.c (.int .i64 0))),Cv 17 16,Cg 18 17 false (.faddr 0 (.t 7)),Cg 19 17 false (.load false 1 (.t 18)),Cg 20 17 false (.faddr 1 (.t 7)),Cg 21 17 false (.load false 1 (.t 20)),Cg 22 17 false (.bin .gtr (.t 19) (.t 21)),Co 23 (.pick (.t 17) (.c (.bool true)) (.t 22)),Cv 24 23,Cg 25 24 false (.faddr 1 (.t 7)),Cg 26 24 false (.load false 1 (.t 25)),Cg 27 24 false (.move (.t 1)),Cg 28 24 false (.bin .gtr (.t 26) (.t 27)),Co 29 (.pick (.t 24) (.c (.bool true)) (.t 28)),Cv 30 29,Cg 31 30 false (.faddr 0 (.t 7)),Cg 32 30 false (.load false 1 (.t 31)),Cg 33 30 false (.bin .sub (.t 32) (.c (.int .i64 1))),Cg 34 30 false (.move (.t 5)),Cg 35 30 false (.bin .leq (.t 33) (.t 34)),Co 36 (.pick (.t 30) (.c (.bool true)) (.t 35))]) (.cond (.t 36) (.seq (.region [Co 4 (.move (.c (.bool false)))]) (.ret)) (.skip))) (.region [Co 37 (.faddr 1 (.t 7)),Co 38 (.load false 1 (.t 37)),Cv 5 38])))) (.region [Co 39 (.bin .add (.t 10) (.c (.int .i64 1))),Cv 10 39]))))
def b_sets_Valid:AFn:=⟨2,[.tmp 4],(.seq (.region [Co 4 (.move (.c (.bool false)))]) (.seq (.region [Co 5 (.move (.c (.int .i64 (-2))))]) (.seq (.seq (.region [Cv 8 0,Co 9 (.len 0 (.t 8)),Co 10 (.move (.c (.int .i64 0)))]) (.block 0 (.loop [1,5,8,9,10] b_sets_Valid_l0))) (.seq (.region [Co 4 (.move (.c (.bool true)))]) (.ret)))))⟩
theorem fn_sets_Valid:FnOk P fo 102 b_sets_Valid:=fM Go.Proofs.Try.func102 dN (by kernel_rfl) (by kernel_rfl)
def F_sets_Valid:List PV→Option PV:=pureF (fun _=>none) b_sets_Valid
theorem p_sets_Valid:PureFn P 102 F_sets_Valid:=pureF_ok noTable fn_sets_Valid
def b_spans_Valid:AFn:=⟨1,[.tmp 2],(.seq (.region [Co 2 (.move (.c (.bool false)))]) (.seq (.region [Cv 3 0,Co 4 (.callP F_sets_To_sets_Run_api_Span [(.t 3)]),Co 5 (.callP F_sets_Valid [(.t 4),(.c (.int .i64 255))]),Cv 2 5]) (.ret)))⟩
theorem fn_spans_Valid:FnOk P fo 89 b_spans_Valid:=fM Go.Proofs.Try.func89 (dC p_sets_To_sets_Run_api_Span (dC p_sets_Valid dN)) (by kernel_rfl) (by kernel_rfl)
def F_spans_Valid:List PV→Option PV:=pureF (fun _=>none) b_spans_Valid
theorem p_spans_Valid:PureFn P 89 F_spans_Valid:=pureF_ok noTable fn_spans_Valid
def b_spans_set:AFn:=⟨1,[.tmp 2],(.seq (.region [Co 2 (.move (.c .nils))]) (.seq (.region [Cv 4 0,Co 5 (.callP F_sets_To_sets_Run_api_Span [(.t 4)]),Cv 3 5]) (.seq (.seq (.region [Cv 6 3,Co 7 (.callP F_sets_Valid [(.t 6),(.c (.int .i64 255))]),Co 8 (.un .not (.t 7))]) (.cond (.t 8) (.seq (.region [Co 2 (.move (.c .nils))]) (.ret)) (.skip))) (.seq (.region [Cv 9 3,Cv 2 9]) (.ret)))))⟩
theorem fn_spans_set:FnOk P fo 96 b_spans_set:=fM Go.Proofs.Try.func96 (dC p_sets_To_sets_Run_api_Span (dC p_sets_Valid dN)) (by kernel_rfl) (by kernel_rfl)
def F_spans_set:List PV→Option PV:=pureF (fun _=>none) b_spans_set
theorem p_spans_set:PureFn P 96 F_spans_set:=pureF_ok noTable fn_spans_set
def b_sets_Size_l0:ACode:=(.seq (.region [Co 9 (.bin .lss (.t 8) (.t 7))]) (.seq (.cond (.t 9) (.skip) (.exit 0)) (.seq (.block 1 (.seq (.region [Co 10 (.iaddr 2 (.t 6) (.t 8)),Co 11 (.load true 2 (.t 10)),Co 5 (.alloc [(.int .i64 0),(.int .i64 0)]),Ce (.store 2 (.t 5) (.t 11))]) (.region [Cv 12 3,Co 13 (.faddr 1 (.t 5)),Co 14 (.load false 1 (.t 13)),Co 15 (.faddr 0 (.t 5)),Co 16 (.load false 1 (.t 15)),Co 17 (.bin .sub (.t 14) (.t 16)),Co 18 (.bin .add (.t 17) (.c (.int .i64 1))),Co 19 (.bin .add (.t 12) (.t 18)),Cv 3 19]))) (.region [Co 20 (.bin .add (.t 8) (.c (.int .i64 1))),Cv 8 20]))))
def b_sets_Size:AFn:=⟨1,[.tmp 2],(.seq (.region [Co 2 (.move (.c (.int .i64 0)))]) (.seq (.region [Co 3 (.move (.c (.int .i64 0)))]) (.seq (.seq (.region [Cv 6 0,Co 7 (.len 0 (.t 6)),Co 8 (.move (.c (.int .i64 0)))]) (.block 0 (.loop [3,6,7,8] b_sets_Size_l0))) (.seq (.region [Cv 21 3,Cv 2 21]) (.ret)))))⟩
theorem fn_sets_Size:FnOk P fo 104 b_sets_Size:=fM Go.Proofs.Try.func104 dN (by kernel_rfl) (by kernel_rfl)
def F_sets_Size:List PV→Option PV:=pureF (fun _=>none) b_sets_Size
theorem p_sets_Size:PureFn P 104 F_sets_Size:=pureF_ok noTable fn_sets_Size
def b_spans_Size:AFn:=⟨1,[.tmp 2],(.seq (.region [Co 2 (.move (.c (.int .i64 0)))]) (.seq (.region [Cv 3 0,Co 4 (.callP F_spans_set [(.t 3)]),Co 5 (.callP F_sets_Size [(.t 4)]),Cv 2 5]) (.ret)))⟩
theorem fn_spans_Size:FnOk P fo 90 b_spans_Size:=fM Go.Proofs.Try.func90 (dC p_spans_set (dC p_sets_Size dN)) (by kernel_rfl) (by kernel_rfl)
def F_spans_Size:List PV→Option PV:=pureF (fun _=>none) b_spans_Size
theorem p_spans_Size:PureFn P 90 F_spans_Size:=pureF_ok noTable fn_spans_Size
def b_sets_To_sets_Run_api_Range_l0:ACode:=(.seq (.region [Co 12 (.bin .lss (.t 11) (.t 10))]) (.seq (.cond (.t 12) (.skip) (.exit 0)) (.seq (.block 1 (.seq (.region [Co 13 (.iaddr 2 (.t 9) (.t 11)),Co 14 (.load true 2 (.t 13)),Co 5 (.alloc [(.int .i64 0),(.int .i64 0)]),Ce (.store 2 (.t 5) (.t 14))]) (.region [Cv 15 3,Co 16 (.load true 2 (.t 5)),Co 17 (.bslice .lit 2 true 1 [(.int .i64 0),(.int .i64 0)] [(0,(.t 16))]),Co 18 (.append false .uq 2 true 16 (.t 15) (.t 17)),Cv 3 18]))) (.region [Co 19 (.bin .add (.t 11) (.c (.int .i64 1))),Cv 11 19]))))
def b_sets_To_sets_Run_api_Range:AFn:=⟨1,[.tmp 2],(.seq (.region [Co 2 (.move (.c .nils))]) (.seq (.region [Cv 6 0,Co 7 (.len 0 (.t 6)),Co 8 (.mkslice .uq 2 true [(.int .i64 0),(.int .i64 0)] 16 (.c (.int .i64 0)) (.t 7)),Cv 3 8]) (.seq (.seq (.region [Cv 9 0,Co 10 (.len 0 (.t 9)),Co 11 (.move (.c (.int .i64 0)))]) (.block 0 (.loop [3,9,10,11] b_sets_To_sets_Run_api_Range_l0))) (.seq (.region [Cv 20 3,Cv 2 20]) (.ret)))))⟩
theorem fn_sets_To_sets_Run_api_Range:FnOk P fo 106 b_sets_To_sets_Run_api_Range:=fM Go.Proofs.Try.func106 dN (by kernel_rfl) (by kernel_rfl)
def F_sets_To_sets_Run_api_Range:List PV→Option PV:=pureF (fun _=>none) b_sets_To_sets_Run_api_Range
theorem p_sets_To_sets_Run_api_Range:PureFn P 106 F_sets_To_sets_Run_api_Range:=pureF_ok noTable fn_sets_To_sets_Run_api_Range
def b_sets_Meet_l0:ACode:=(.seq (.seq (.region [Cv 8 0,Co 9 (.len 0 (.t 8)),Co 10 (.bin .gtr (.t 9) (.c (.int .i64 0))),Cv 11 10,Cg 12 11 true (.move (.t 1)),Cg 13 11 true (.len 0 (.t 12)),Cg 14 11 true (.bin .gtr (.t 13) (.c (.int .i64 0))),Co 15 (.pick (.t 11) (.t 14) (.c (.bool false)))]) (.cond (.t 15) (.skip) (.exit 0))) (.block 1 (.seq (.region [Cv 16 0,Cp 17 (.iaddr 2 (.t 16) (.c (.int .i64 0))),Co 18 (.faddr 0 (.t 17)),Co 19 (.load false 1 (.t 18)),Cv 20 1,Cp 21 (.iaddr 2 (.t 20) (.c (.int .i64 0))),Co 22 (.faddr 0 (.t 21)),Co 23 (.load false 1 (.t 22)),Co 24 (.mx [(.t 19),(.t 23)]),Cv 25 0,Cp 26 (.iaddr 2 (.t 25) (.c (.int .i64 0))),Co 27 (.faddr 1 (.t 26)),Co 28 (.load false 1 (.t 27)),Cv 29 1,Cp 30 (.iaddr 2 (.t 29) (.c (.int .i64 0))),Co 31 (.faddr 1 (.t 30)),Co 32 (.load false 1 (.t 31)),Co 33 (.mn [(.t 28),(.t 32)]),Cv 6 24,Cv 7 33]) (.seq (.seq (.region [Cv 34 6,Cv 35 7,Co 36 (.bin .leq (.t 34) (.t 35))]) (.cond (.t 36) (.region [Cv 37 5,Cv 38 6,Cv 39 7,Co 40 (.build [(.int .i64 0),(.int .i64 0)] [(0,1,(.t 38)),(1,1,(.t 39))]),Co 41 (.bslice .lit 2 true 1 [(.int .i64 0),(.int .i64 0)] [(0,(.t 40))]),Co 42 (.append false .uq 2 true 16 (.t 37) (.t 41)),Cv 5 42]) (.skip))) (.seq (.region [Cv 43 0,Cp 44 (.iaddr 2 (.t 43) (.c (.int .i64 0))),Co 45 (.faddr 1 (.t 44)),Co 46 (.load false 1 (.t 45)),Cv 47 1,Cp 48 (.iaddr 2 (.t 47) (.c (.int .i64 0))),Co 49 (.faddr 1 (.t 48)),Co 50 (.load false 1 (.t 49)),Co 51 (.bin .lss (.t 46) (.t 50))]) (.cond (.t 51) (.region [Cv 52 0,Co 53 (.slice 2 (.t 52) (some (.c (.int .i64 1))) none),Cv 0 53]) (.region [Cv 54 1,Co 55 (.slice 2 (.t 54) (some (.c (.int .i64 1))) none),Cv 1 55])))))))
def b_sets_Meet:AFn:=⟨2,[.tmp 4],(.seq (.region [Co 4 (.move (.c .nils))]) (.seq (.region [Co 5 (.move (.c .nils))]) (.ghost (.mkuq 5 2) (.seq (.block 0 (.loop [0,1,5] b_sets_Meet_l0)) (.seq (.region [Cv 56 5,Cv 4 56]) (.ret))))))⟩
theorem fn_sets_Meet:FnOk P fo 92 b_sets_Meet:=fM Go.Proofs.Try.func92 dN (by kernel_rfl) (by kernel_rfl)
def F_sets_Meet:List PV→Option PV:=pureF (fun _=>none) b_sets_Meet
theorem p_sets_Meet:PureFn P 92 F_sets_Meet:=pureF_ok noTable fn_sets_Meet
def b_sets_To_api_Range_sets_Run_l0:ACode:=(.seq (.region [Co 12 (.bin .lss (.t 11) (.t 10))]) (.seq (.cond (.t 12) (.skip) (.exit 0)) (.seq (.block 1 (.seq (.region [Co 13 (.iaddr 2 (.t 9) (.t 11)),Co 14 (.load true 2 (.t 13)),Co 5 (.alloc [(.int .i64 0),(.int .i64 0)]),Ce (.store 2 (.t 5) (.t 14))]) (.region [Cv 15 3,Co 16 (.load true 2 (.t 5)),Co 17 (.bslice .lit 2 true 1 [(.int .i64 0),(.int .i64 0)] [(0,(.t 16))]),Co 18 (.append false .uq 2 true 16 (.t 15) (.t 17)),Cv 3 18]))) (.region [Co 19 (.bin .add (.t 11) (.c (.int .i64 1))),Cv 11 19]))))
def b_sets_To_api_Range_sets_Run:AFn:=⟨1,[.tmp 2],(.seq (.region [Co 2 (.move (.c .nils))]) (.seq (.region [Cv 6 0,Co 7 (.len 0 (.t 6)),Co 8 (.mkslice .uq 2 true [(.int .i64 0),(.int .i64 0)] 16 (.c (.int .i64 0)) (.t 7)),Cv 3 8]) (.seq (.seq (.region [Cv 9 0,Co 10 (.len 0 (.t 9)),Co 11 (.move (.c (.int .i64 0)))]) (.block 0 (.loop [3,9,10,11] b_sets_To_api_Range_sets_Run_l0))) (.seq (.region [Cv 20 3,Cv 2 20]) (.ret)))))⟩
theorem fn_sets_To_api_Range_sets_Run:FnOk P fo 105 b_sets_To_api_Range_sets_Run:=fM Go.Proofs.Try.func105 dN (by kernel_rfl) (by kernel_rfl)
def F_sets_To_api_Range_sets_Run:List PV→Option PV:=pureF (fun _=>none) b_sets_To_api_Range_sets_Run
theorem p_sets_To_api_Range_sets_Run:PureFn P 105 F_sets_To_api_Range_sets_Run:=pureF_ok noTable fn_sets_To_api_Range_sets_Run
def b_sets_To_api_Span_sets_Run_l0:ACode:=(.seq (.region [Co 12 (.bin .lss (.t 11) (.t 10))]) (.seq (.cond (.t 12) (.skip) (.exit 0)) (.seq (.block 1 (.seq (.region [Co 13 (.iaddr 2 (.t 9) (.t 11)),Co 14 (.load true 2 (.t 13)),Co 5 (.alloc [(.int .i64 0),(.int .i64 0)]),Ce (.store 2 (.t 5) (.t 14))]) (.region [Cv 15 3,Co 16 (.load true 2 (.t 5)),Co 17 (.bslice .lit 2 true 1 [(.int .i64 0),(.int .i64 0)] [(0,(.t 16))]),Co 18 (.append false .uq 2 true 16 (.t 15) (.t 17)),Cv 3 18]))) (.region [Co 19 (.bin .add (.t 11) (.c (.int .i64 1))),Cv 11 19]))))
def b_sets_To_api_Span_sets_Run:AFn:=⟨1,[.tmp 2],(.seq (.region [Co 2 (.move (.c .nils))]) (.seq (.region [Cv 6 0,Co 7 (.len 0 (.t 6)),Co 8 (.mkslice .uq 2 true [(.int .i64 0),(.int .i64 0)] 16 (.c (.int .i64 0)) (.t 7)),Cv 3 8]) (.seq (.seq (.region [Cv 9 0,Co 10 (.len 0 (.t 9)),Co 11 (.move (.c (.int .i64 0)))]) (.block 0 (.loop [3,9,10,11] b_sets_To_api_Span_sets_Run_l0))) (.seq (.region [Cv 20 3,Cv 2 20]) (.ret)))))⟩
theorem fn_sets_To_api_Span_sets_Run:FnOk P fo 116 b_sets_To_api_Span_sets_Run:=fM Go.Proofs.Try.func116 dN (by kernel_rfl) (by kernel_rfl)
def F_sets_To_api_Span_sets_Run:List PV→Option PV:=pureF (fun _=>none) b_sets_To_api_Span_sets_Run
theorem p_sets_To_api_Span_sets_Run:PureFn P 116 F_sets_To_api_Span_sets_Run:=pureF_ok noTable fn_sets_To_api_Span_sets_Run
def b_spans_back:AFn:=⟨1,[.tmp 2],(.seq (.region [Co 2 (.move (.c .nils))]) (.seq (.region [Cv 3 0,Co 4 (.callP F_sets_To_api_Span_sets_Run [(.t 3)]),Cv 2 4]) (.ret)))⟩
theorem fn_spans_back:FnOk P fo 112 b_spans_back:=fM Go.Proofs.Try.func112 (dC p_sets_To_api_Span_sets_Run dN) (by kernel_rfl) (by kernel_rfl)
def F_spans_back:List PV→Option PV:=pureF (fun _=>none) b_spans_back
theorem p_spans_back:PureFn P 112 F_spans_back:=pureF_ok noTable fn_spans_back
def b_spans_Meet:AFn:=⟨2,[.tmp 4],(.seq (.region [Co 4 (.move (.c .nils))]) (.seq (.region [Cv 5 0,Co 6 (.callP F_spans_set [(.t 5)]),Cv 7 1,Co 8 (.callP F_spans_set [(.t 7)]),Co 9 (.callP F_sets_Meet [(.t 6),(.t 8)]),Co 10 (.callP F_spans_back [(.t 9)]),Cv 4 10]) (.ret)))⟩
theorem fn_spans_Meet:FnOk P fo 101 b_spans_Meet:=fM Go.Proofs.Try.func101 (dC p_spans_set (dC p_spans_set (dC p_sets_Meet (dC p_spans_back dN)))) (by kernel_rfl) (by kernel_rfl)
def F_spans_Meet:List PV→Option PV:=pureF (fun _=>none) b_spans_Meet
theorem p_spans_Meet:PureFn P 101 F_spans_Meet:=pureF_ok noTable fn_spans_Meet
def b_sets_Rank_l0:ACode:=(.seq (.region [Co 12 (.bin .lss (.t 11) (.t 10))]) (.seq (.cond (.t 12) (.skip) (.exit 0)) (.seq (.block 1 (.seq (.region [Co 13 (.iaddr 2 (.t 9) (.t 11)),Co 14 (.load true 2 (.t 13)),Co 8 (.alloc [(.int .i64 0),(.int .i64 0)]),Ce (.store 2 (.t 8) (.t 14))]) (.seq (.seq (.region [Cv 15 1,Co 16 (.faddr 0 (.t 8)),Co 17 (.load false 1 (.t 16)),Co 18 (.bin .lss (.t 15) (.t 17))]) (.cond (.t 18) (.exit 0) (.skip))) (.seq (.seq (.region [Cv 19 1,Co 20 (.faddr 1 (.t 8)),Co 21 (.load false 1 (.t 20)),Co 22 (.bin .leq (.t 19) (.t 21))]) (.cond (.t 22) (.seq (.region [Cv 23 6,Cv 24 1,Co 25 (.bin .add (.t 23) (.t 24)),Co 26 (.faddr 0 (.t 8)),Co 27 (.load false 1 (.t 26)),Co 28 (.bin .sub (.t 25) (.t 27)),Cv 4 28,Co 5 (.move (.c (.bool true)))]) (.ret)) (.skip))) (.region [Cv 29 6,Co 30 (.faddr 1 (.t 8)),Co 31 (.load false 1 (.t 30)),Co 32 (.faddr 0 (.t 8)),Co 33 (.load false 1 (.t 32)),Co 34 (.bin .sub (.t 31) (.t 33)),Co 35 (.bin .add (.t 34) (.c (.int .i64 1))),Co 36 (.bin .add (.t 29) (.t 35)),Cv 6 36]))))) (.region [Co 37 (.bin .add (.t 11) (.c (.int .i64 1))),Cv 11 37]))))
def b_sets_Rank:AFn:=⟨2,[.tmp 4,.tmp 5],(.seq (.region [Co 4 (.move (.c (.int .i64 0))),Co 5 (.move (.c (.bool false)))]) (.seq (.region [Co 6 (.move (.c (.int .i64 0)))]) (.seq (.seq (.region [Cv 9 0,Co 10 (.len 0 (.t 9)),Co 11 (.move (.c (.int .i64 0)))]) (.block 0 (.loop [1,6,9,10,11] b_sets_Rank_l0))) (.seq (.region [Co 4 (.move (.c (.int .i64 0))),Co 5 (.move (.c (.bool false)))]) (.ret)))))⟩
theorem fn_sets_Rank:FnOk P fo 95 b_sets_Rank:=fM Go.Proofs.Try.func95 dN (by kernel_rfl) (by kernel_rfl)
def F_sets_Rank:List PV→Option PV:=pureF (fun _=>none) b_sets_Rank
theorem p_sets_Rank:PureFn P 95 F_sets_Rank:=pureF_ok noTable fn_sets_Rank
def b_spans_Rank:AFn:=⟨2,[.tmp 4,.tmp 5],(.seq (.region [Co 4 (.move (.c (.int .i64 0))),Co 5 (.move (.c (.bool false)))]) (.seq (.region [Cv 6 0,Co 7 (.callP F_spans_set [(.t 6)]),Cv 8 1,Co 9 (.callP F_sets_Rank [(.t 7),(.t 8)]),Co 10 (.ext 0 (.t 9)),Co 11 (.ext 1 (.t 9)),Cv 4 10,Cv 5 11]) (.ret)))⟩
theorem fn_spans_Rank:FnOk P fo 77 b_spans_Rank:=fM Go.Proofs.Try.func77 (dC p_spans_set (dC p_sets_Rank dN)) (by kernel_rfl) (by kernel_rfl)
def F_spans_Rank:List PV→Option PV:=pureF (fun _=>none) b_spans_Rank
theorem p_spans_Rank:PureFn P 77 F_spans_Rank:=pureF_ok noTable fn_spans_Rank
def b_spans_Has:AFn:=⟨2,[.tmp 4],(.seq (.region [Co 4 (.move (.c (.bool false)))]) (.seq (.region [Cv 8 0,Cv 9 1,Co 10 (.callP F_spans_Rank [(.t 8),(.t 9)]),Cv 7 10,Co 11 (.ext 0 (.t 7)),Co 12 (.ext 1 (.t 7)),Cv 5 11,Cv 6 12]) (.seq (.region [Cv 13 6,Cv 4 13]) (.ret))))⟩
theorem fn_spans_Has:FnOk P fo 78 b_spans_Has:=fM Go.Proofs.Try.func78 (dC p_spans_Rank dN) (by kernel_rfl) (by kernel_rfl)
def F_spans_Has:List PV→Option PV:=pureF (fun _=>none) b_spans_Has
theorem p_spans_Has:PureFn P 78 F_spans_Has:=pureF_ok noTable fn_spans_Has
def b_sets_Select_l0:ACode:=(.seq (.region [Co 13 (.bin .lss (.t 12) (.t 11))]) (.seq (.cond (.t 13) (.skip) (.exit 0)) (.seq (.block 1 (.seq (.region [Co 14 (.iaddr 2 (.t 10) (.t 12)),Co 15 (.load true 2 (.t 14)),Co 7 (.alloc [(.int .i64 0),(.int .i64 0)]),Ce (.store 2 (.t 7) (.t 15))]) (.seq (.seq (.region [Cv 16 1,Co 17 (.faddr 1 (.t 7)),Co 18 (.load false 1 (.t 17)),Co 19 (.faddr 0 (.t 7)),Co 20 (.load false 1 (.t 19)),Co 21 (.bin .sub (.t 18) (.t 20)),Co 22 (.bin .leq (.t 16) (.t 21))]) (.cond (.t 22) (.seq (.region [Co 23 (.faddr 0 (.t 7)),Co 24 (.load false 1 (.t 23)),Cv 25 1,Co 26 (.bin .add (.t 24) (.t 25)),Cv 4 26,Co 5 (.move (.c (.bool true)))]) (.ret)) (.skip))) (.region [Cv 27 1,Co 28 (.faddr 1 (.t 7)),Co 29 (.load false 1 (.t 28)),Co 30 (.faddr 0 (.t 7)),Co 31 (.load false 1 (.t 30)),Co 32 (.bin .sub (.t 29) (.t 31)),Co 33 (.bin .add (.t 32) (.c (.int .i64 1))),Co 34 (.bin .sub (.t 27) (.t 33)),Cv 1 34])))) (.region [Co 35 (.bin .add (.t 12) (.c (.int .i64 1))),Cv 12 35]))))
def b_sets_Select:AFn:=⟨2,[.tmp 4,.tmp 5],(.seq (.region [Co 4 (.move (.c (.int .i64 0))),Co 5 (.move (.c (.bool false)))]) (.seq (.seq (.region [Cv 8 1,Co 9 (.bin .lss (.t 8) (.c (.int .i64 0)))]) (.cond (.t 9) (.seq (.region [Co 4 (.move (.c (.int .i64 0))),Co 5 (.move (.c (.bool false)))]) (.ret)) (.skip))) (.seq (.seq (.region [Cv 10 0,Co 11 (.len 0 (.t 10)),Co 12 (.move (.c (.int .i64 0)))]) (.block 0 (.loop [1,10,11,12] b_sets_Select_l0))) (.seq (.region [Co 4 (.move (.c (.int .i64 0))),Co 5 (.move (.c (.bool false)))]) (.ret)))))⟩
theorem fn_sets_Select:FnOk P fo 110 b_sets_Select:=fM Go.Proofs.Try.func110 dN (by kernel_rfl) (by kernel_rfl)
def F_sets_Select:List PV→Option PV:=pureF (fun _=>none) b_sets_Select
theorem p_sets_Select:PureFn P 110 F_sets_Select:=pureF_ok noTable fn_sets_Select
def b_spans_Select:AFn:=⟨2,[.tmp 4,.tmp 5],(.seq (.region [Co 4 (.move (.c (.int .i64 0))),Co 5 (.move (.c (.bool false)))]) (.seq (.region [Cv 6 0,Co 7 (.callP F_spans_set [(.t 6)]),Cv 8 1,Co 9 (.callP F_sets_Select [(.t 7),(.t 8)]),Co 10 (.ext 0 (.t 9)),Co 11 (.ext 1 (.t 9)),Cv 4 10,Cv 5 11]) (.ret)))⟩
theorem fn_spans_Select:FnOk P fo 98 b_spans_Select:=fM Go.Proofs.Try.func98 (dC p_spans_set (dC p_sets_Select dN)) (by kernel_rfl) (by kernel_rfl)
def F_spans_Select:List PV→Option PV:=pureF (fun _=>none) b_spans_Select
theorem p_spans_Select:PureFn P 98 F_spans_Select:=pureF_ok noTable fn_spans_Select
def b_leadtraillaw13_some:AFn:=⟨0,[.cell 0 true 1],(.seq (.region [Co 0 (.alloc [.nils])]) (.seq (.region [Co 2 (.build [(.int .i64 0),(.int .i64 0)] [(0,1,(.c (.int .i64 128))),(1,1,(.c (.int .i64 191)))]),Co 3 (.bslice .lit 2 true 1 [(.int .i64 0),(.int .i64 0)] [(0,(.t 2))]),Cv 1 3]) (.seq (.region [Co 4 (.build [(.int .i64 0),(.int .i64 0)] [(0,1,(.c (.int .i64 0))),(1,1,(.c (.int .i64 127)))]),Co 5 (.bslice .lit 2 true 1 [(.int .i64 0),(.int .i64 0)] [(0,(.t 4))]),Co 6 (.bslice .lit 1 false 1 [.nils] [(0,(.t 5))]),Co 7 (.build [.nils,(.int .i64 0)] [(0,1,(.t 6))]),Co 8 (.build [(.int .i64 0),(.int .i64 0)] [(0,1,(.c (.int .i64 194))),(1,1,(.c (.int .i64 223)))]),Co 9 (.bslice .lit 2 true 1 [(.int .i64 0),(.int .i64 0)] [(0,(.t 8))]),Cv 10 1,Co 11 (.bslice .lit 1 false 2 [.nils] [(0,(.t 9)),(1,(.t 10))]),Co 12 (.build [.nils,(.int .i64 0)] [(0,1,(.t 11)),(1,1,(.c (.int .i64 128)))]),Co 13 (.build [(.int .i64 0),(.int .i64 0)] [(0,1,(.c (.int .i64 224))),(1,1,(.c (.int .i64 224)))]),Co 14 (.bslice .lit 2 true 1 [(.int .i64 0),(.int .i64 0)] [(0,(.t 13))]),Co 15 (.build [(.int .i64 0),(.int .i64 0)] [(0,1,(.c (.int .i64 160))),(1,1,(.c (.int .i64 191)))]),Co 16 (.bslice .lit 2 true 1 [(.int .i64 0),(.int .i64 0)] [(0,(.t 15))]),Cv 17 1,Co 18 (.bslice .lit 1 false 3 [.nils] [(0,(.t 14)),(1,(.t 16)),(2,(.t 17))]),Co 19 (.build [.nils,(.int .i64 0)] [(0,1,(.t 18)),(1,1,(.c (.int .i64 2048)))]),Co 20 (.bslice .lit 2 true 3 [.nils,(.int .i64 0)] [(0,(.t 7)),(1,(.t 12)),(2,(.t 19))]),Co 21 (.build [.nils] [(0,1,(.t 20))]),Ce (.store 1 (.t 0) (.t 21))]) (.ret))))⟩
theorem fn_leadtraillaw13_some:FnOk P fo 20 b_leadtraillaw13_some:=fM Go.Proofs.Try.func20 dN (by kernel_rfl) (by kernel_rfl)
def F_leadtraillaw13_some:List PV→Option PV:=pureF (fun _=>none) b_leadtraillaw13_some
theorem p_leadtraillaw13_some:PureFn P 20 F_leadtraillaw13_some:=pureF_ok noTable fn_leadtraillaw13_some
def b_clash_Prefix_1:AFn:=⟨3,[.tmp 5],(.seq (.region [Co 5 (.move (.c (.bool false)))]) (.seq (.region [Co 6 (.faddr 0 (.t 2)),Co 7 (.load false 1 (.t 6)),Cv 8 0,Cp 9 (.iaddr 2 (.t 7) (.t 8)),Co 10 (.faddr 0 (.t 9)),Co 11 (.load false 1 (.t 10)),Cp 12 (.len 0 (.t 11)),Co 13 (.faddr 0 (.t 2)),Co 14 (.load false 1 (.t 13)),Cv 15 1,Cp 16 (.iaddr 2 (.t 14) (.t 15)),Co 17 (.faddr 0 (.t 16)),Co 18 (.load false 1 (.t 17)),Cp 19 (.len 0 (.t 18)),Co 20 (.bin .lss (.t 12) (.t 19)),Cv 5 20]) (.ret)))⟩
theorem fn_clash_Prefix_1:FnOk P fo 58 b_clash_Prefix_1:=fM Go.Proofs.Try.func58 dN (by kernel_rfl) (by kernel_rfl)
def b_slices_IndexFunc_api_Span_api_Span_l0:ACode:=(.seq (.region [Co 9 (.bin .lss (.t 8) (.t 7))]) (.seq (.cond (.t 9) (.skip) (.exit 0)) (.seq (.block 1 (.seq (.region [Cv 10 8,Cv 5 10]) (.seq (.region [Cv 11 1,Cv 12 0,Cv 13 5,Co 14 (.iaddr 1 (.t 12) (.t 13)),Co 15 (.load false 1 (.t 14)),Co 16 (.callV (.t 11) [(.t 15)])]) (.cond (.t 16) (.seq (.region [Cv 17 5,Cv 4 17]) (.ret)) (.skip))))) (.region [Co 18 (.bin .add (.t 8) (.c (.int .i64 1))),Cv 8 18]))))
def b_slices_IndexFunc_api_Span_api_Span:AFn:=⟨2,[.tmp 4],(.seq (.region [Co 4 (.move (.c (.int .i64 0)))]) (.seq (.seq (.region [Cv 6 0,Co 7 (.len 0 (.t 6)),Co 8 (.move (.c (.int .i64 0)))]) (.block 0 (.loop [0,1,7,8] b_slices_IndexFunc_api_Span_api_Span_l0))) (.seq (.region [Co 4 (.move (.c (.int .i64 (-1))))]) (.ret))))⟩
theorem fn_slices_IndexFunc_api_Span_api_Span:FnOk P fo 88 b_slices_IndexFunc_api_Span_api_Span:=fM Go.Proofs.Try.func88 dN (by kernel_rfl) (by kernel_rfl)
def b_slices_ContainsFunc_api_Span_api_Span:AFn:=⟨2,[.tmp 4],(.seq (.region [Co 4 (.move (.c (.bool false)))]) (.seq (.region [Cv 5 0,Cv 6 1,Co 7 (.callI 5 [(.t 5),(.t 6)]),Co 8 (.bin .geq (.t 7) (.c (.int .i64 0))),Cv 4 8]) (.ret)))⟩
theorem fn_slices_ContainsFunc_api_Span_api_Span:FnOk P fo 70 b_slices_ContainsFunc_api_Span_api_Span:=fM Go.Proofs.Try.func70 dN (by kernel_rfl) (by kernel_rfl)
def b_scheme_none:AFn:=⟨1,[.tmp 2],(.seq (.region [Co 2 (.move (.c (.bool false)))]) (.seq (.region [Cv 3 0,Co 4 (.len 0 (.t 3)),Co 5 (.bin .eql (.t 4) (.c (.int .i64 0))),Cv 6 5,Cg 7 6 false (.move (.t 0)),Cg 8 6 false (.callP F_spans_Valid [(.t 7)]),Cg 9 6 false (.un .not (.t 8)),Co 10 (.pick (.t 6) (.c (.bool true)) (.t 9)),Cv 2 10]) (.ret)))⟩
theorem fn_scheme_none:FnOk P fo 71 b_scheme_none:=fM Go.Proofs.Try.func71 (dC p_spans_Valid dN) (by kernel_rfl) (by kernel_rfl)
def b_scheme_last_l0:ACode:=(.seq (.region [Co 10 (.bin .lss (.t 9) (.t 8))]) (.seq (.cond (.t 10) (.skip) (.exit 0)) (.seq (.block 1 (.seq (.region [Co 11 (.iaddr 1 (.t 7) (.t 9)),Co 12 (.load false 1 (.t 11)),Cv 5 12]) (.region [Cv 13 3,Cv 14 5,Co 15 (.callP F_spans_Size [(.t 14)]),Co 16 (.bin .mul (.t 13) (.t 15)),Co 17 (.mn [(.t 16),(.c (.int .i64 1073741825))]),Cv 3 17]))) (.region [Co 18 (.bin .add (.t 9) (.c (.int .i64 1))),Cv 9 18]))))
def b_scheme_last:AFn:=⟨1,[.tmp 2],(.seq (.region [Co 1 (.boxR 2 (.t 0)),Co 2 (.move (.c (.int .i64 0)))]) (.seq (.region [Co 3 (.move (.c (.int .i64 1)))]) (.seq (.seq (.region [Cp 6 (.faddr 0 (.t 1)),Cp 7 (.load false 1 (.t 6)),Co 8 (.len 0 (.t 7)),Co 9 (.move (.c (.int .i64 0)))]) (.block 0 (.loop [1,3,7,8,9] b_scheme_last_l0))) (.seq (.region [Cp 19 (.faddr 1 (.t 1)),Cp 20 (.load false 1 (.t 19)),Cv 21 3,Co 22 (.bin .add (.t 20) (.t 21)),Co 23 (.bin .sub (.t 22) (.c (.int .i64 1))),Cv 2 23]) (.ret)))))⟩
theorem fn_scheme_last:FnOk P fo 72 b_scheme_last:=fM Go.Proofs.Try.func72 (dC p_spans_Size dN) (by kernel_rfl) (by kernel_rfl)
def F_scheme_last:List PV→Option PV:=pureF (fun _=>none) b_scheme_last
theorem p_scheme_last:PureFn P 72 F_scheme_last:=pureF_ok noTable fn_scheme_last
def b_scalars_set:AFn:=⟨1,[.tmp 2],(.seq (.region [Co 2 (.move (.c .nils))]) (.seq (.region [Cv 4 0,Co 5 (.callP F_sets_To_sets_Run_api_Range [(.t 4)]),Cv 3 5]) (.seq (.seq (.region [Cv 6 3,Co 7 (.callP F_sets_Valid [(.t 6),(.c (.int .i64 1073741823))]),Co 8 (.un .not (.t 7))]) (.cond (.t 8) (.seq (.region [Co 2 (.move (.c .nils))]) (.ret)) (.skip))) (.seq (.region [Cv 9 3,Cv 2 9]) (.ret)))))⟩
theorem fn_scalars_set:FnOk P fo 93 b_scalars_set:=fM Go.Proofs.Try.func93 (dC p_sets_To_sets_Run_api_Range (dC p_sets_Valid dN)) (by kernel_rfl) (by kernel_rfl)
def F_scalars_set:List PV→Option PV:=pureF (fun _=>none) b_scalars_set
theorem p_scalars_set:PureFn P 93 F_scalars_set:=pureF_ok noTable fn_scalars_set
def b_scalars_back:AFn:=⟨1,[.tmp 2],(.seq (.region [Co 2 (.move (.c .nils))]) (.seq (.region [Cv 3 0,Co 4 (.callP F_sets_To_api_Range_sets_Run [(.t 3)]),Cv 2 4]) (.ret)))⟩
theorem fn_scalars_back:FnOk P fo 91 b_scalars_back:=fM Go.Proofs.Try.func91 (dC p_sets_To_api_Range_sets_Run dN) (by kernel_rfl) (by kernel_rfl)
def F_scalars_back:List PV→Option PV:=pureF (fun _=>none) b_scalars_back
theorem p_scalars_back:PureFn P 91 F_scalars_back:=pureF_ok noTable fn_scalars_back
def b_scalars_Meet:AFn:=⟨2,[.tmp 4],(.seq (.region [Co 4 (.move (.c .nils))]) (.seq (.region [Cv 5 0,Co 6 (.callP F_scalars_set [(.t 5)]),Cv 7 1,Co 8 (.callP F_scalars_set [(.t 7)]),Co 9 (.callP F_sets_Meet [(.t 6),(.t 8)]),Co 10 (.callP F_scalars_back [(.t 9)]),Cv 4 10]) (.ret)))⟩
theorem fn_scalars_Meet:FnOk P fo 73 b_scalars_Meet:=fM Go.Proofs.Try.func73 (dC p_scalars_set (dC p_scalars_set (dC p_sets_Meet (dC p_scalars_back dN)))) (by kernel_rfl) (by kernel_rfl)
def F_scalars_Meet:List PV→Option PV:=pureF (fun _=>none) b_scalars_Meet
theorem p_scalars_Meet:PureFn P 73 F_scalars_Meet:=pureF_ok noTable fn_scalars_Meet
def b_math_bits_Len32:AFn:=⟨1,[.tmp 2],(.seq (.region [Co 2 (.move (.c (.int .i64 0)))]) (.seq (.seq (.region [Cv 3 0,Co 4 (.bin .geq (.t 3) (.c (.int .u32 65536)))]) (.cond (.t 4) (.seq (.region [Cv 5 0,Co 6 (.bin .shr (.t 5) (.c (.int .u64 16))),Cv 0 6]) (.region [Co 2 (.move (.c (.int .i64 16)))])) (.skip))) (.seq (.seq (.region [Cv 7 0,Co 8 (.bin .geq (.t 7) (.c (.int .u32 256)))]) (.cond (.t 8) (.seq (.region [Cv 9 0,Co 10 (.bin .shr (.t 9) (.c (.int .u64 8))),Cv 0 10]) (.region [Cv 11 2,Co 12 (.bin .add (.t 11) (.c (.int .i64 8))),Cv 2 12])) (.skip))) (.seq (.region [Cv 13 2,Cv 14 0,Co 15 (.conv .u8 (.t 14)),⟨(some 16),.ixS (.c (.str ⟨#[0,1,2,2,3,3,3,3,4,4,4,4,4,4,4,4,5,5,5,5,5,5,5,5,5,5,5,5,5,5,5,5,6,6,6,6,6,6,6,6,6,6,6,6,6,6,6,6,6,6,6,6,6,6,6,6,6,6,6,6,6,6,6,6,7,7,7,7,7,7,7,7,7,7,7,7,7,7,7,7,7,7,7,7,7,7,7,7,7,7,7,7,7,7,7,7,7,7,7,7,7,7,7,7,7,7,7,7,7,7,7,7,7,7,7,7,7,7,7,7,7,7,7,7,7,7,7,7,8,8,8,8,8,8,8,8,8,8,8,8,8,8,8,8,8,8,8,8,8,8,8,8,8,8,8,8,8,8,8,8,8,8,8,8,8,8,8,8,8,8,8,8,8,8,8,8,8,8,8,8,8,8,8,8,8,8,8,8,8,8,8,8,8,8,8,8,8,8,8,8,8,8,8,8,8,8,8,8,8,8,8,8,8,8,8,8,8,8,8,8,8,8,8,8,8,8,8,8,8,8,8,8,8,8,8,8,8,8,8,8,8,8,8,8,8,8,8,8,8,8,8,8,8,8,8,8]⟩)) (.t 15),none,false⟩,Co 17 (.conv .i64 (.t 16)),Co 18 (.bin .add (.t 13) (.t 17)),Cv 2 18]) (.ret)))))⟩
theorem fn_math_bits_Len32:FnOk P fo 125 b_math_bits_Len32:=fM Go.Proofs.Try.func125 dN (by kernel_rfl) (by kernel_rfl)
def F_math_bits_Len32:List PV→Option PV:=pureF (fun _=>none) b_math_bits_Len32
theorem p_math_bits_Len32:PureFn P 125 F_math_bits_Len32:=pureF_ok noTable fn_math_bits_Len32
def b_math_bits_Len64:AFn:=⟨1,[.tmp 2],(.seq (.region [Co 2 (.move (.c (.int .i64 0)))]) (.seq (.seq (.region [Cv 3 0,Co 4 (.bin .geq (.t 3) (.c (.int .u64 4294967296)))]) (.cond (.t 4) (.seq (.region [Cv 5 0,Co 6 (.bin .shr (.t 5) (.c (.int .u64 32))),Cv 0 6]) (.region [Co 2 (.move (.c (.int .i64 32)))])) (.skip))) (.seq (.seq (.region [Cv 7 0,Co 8 (.bin .geq (.t 7) (.c (.int .u64 65536)))]) (.cond (.t 8) (.seq (.region [Cv 9 0,Co 10 (.bin .shr (.t 9) (.c (.int .u64 16))),Cv 0 10]) (.region [Cv 11 2,Co 12 (.bin .add (.t 11) (.c (.int .i64 16))),Cv 2 12])) (.skip))) (.seq (.seq (.region [Cv 13 0,Co 14 (.bin .geq (.t 13) (.c (.int .u64 256)))]) (.cond (.t 14) (.seq (.region [Cv 15 0,Co 16 (.bin .shr (.t 15) (.c (.int .u64 8))),Cv 0 16]) (.region [Cv 17 2,Co 18 (.bin .add (.t 17) (.c (.int .i64 8))),Cv 2 18])) (.skip))) (.seq (.region [Cv 19 2,Cv 20 0,Co 21 (.conv .u8 (.t 20)),⟨(some 22),.ixS (.c (.str ⟨#[0,1,2,2,3,3,3,3,4,4,4,4,4,4,4,4,5,5,5,5,5,5,5,5,5,5,5,5,5,5,5,5,6,6,6,6,6,6,6,6,6,6,6,6,6,6,6,6,6,6,6,6,6,6,6,6,6,6,6,6,6,6,6,6,7,7,7,7,7,7,7,7,7,7,7,7,7,7,7,7,7,7,7,7,7,7,7,7,7,7,7,7,7,7,7,7,7,7,7,7,7,7,7,7,7,7,7,7,7,7,7,7,7,7,7,7,7,7,7,7,7,7,7,7,7,7,7,7,8,8,8,8,8,8,8,8,8,8,8,8,8,8,8,8,8,8,8,8,8,8,8,8,8,8,8,8,8,8,8,8,8,8,8,8,8,8,8,8,8,8,8,8,8,8,8,8,8,8,8,8,8,8,8,8,8,8,8,8,8,8,8,8,8,8,8,8,8,8,8,8,8,8,8,8,8,8,8,8,8,8,8,8,8,8,8,8,8,8,8,8,8,8,8,8,8,8,8,8,8,8,8,8,8,8,8,8,8,8,8,8,8,8,8,8,8,8,8,8,8,8,8,8,8,8,8,8]⟩)) (.t 21),none,false⟩,Co 23 (.conv .i64 (.t 22)),Co 24 (.bin .add (.t 19) (.t 23)),Cv 2 24]) (.ret))))))⟩
theorem fn_math_bits_Len64:FnOk P fo 126 b_math_bits_Len64:=fM Go.Proofs.Try.func126 dN (by kernel_rfl) (by kernel_rfl)
def F_math_bits_Len64:List PV→Option PV:=pureF (fun _=>none) b_math_bits_Len64
theorem p_math_bits_Len64:PureFn P 126 F_math_bits_Len64:=pureF_ok noTable fn_math_bits_Len64
def b_math_bits_Len:AFn:=⟨1,[.tmp 2],(.seq (.region [Co 2 (.move (.c (.int .i64 0)))]) (.seq (.cond (.c (.bool false)) (.seq (.region [Cv 3 0,Co 4 (.conv .u32 (.t 3)),Co 5 (.callP F_math_bits_Len32 [(.t 4)]),Cv 2 5]) (.ret)) (.skip)) (.seq (.region [Cv 6 0,Co 7 (.callP F_math_bits_Len64 [(.t 6)]),Cv 2 7]) (.ret))))⟩
theorem fn_math_bits_Len:FnOk P fo 114 b_math_bits_Len:=fM Go.Proofs.Try.func114 (dC p_math_bits_Len32 (dC p_math_bits_Len64 dN)) (by kernel_rfl) (by kernel_rfl)
def F_math_bits_Len:List PV→Option PV:=pureF (fun _=>none) b_math_bits_Len
theorem p_math_bits_Len:PureFn P 114 F_math_bits_Len:=pureF_ok noTable fn_math_bits_Len
def b_slices_insertionSortCmpFunc_sets_Run_l1:ACode:=(.seq (.seq (.region [Cv 18 9,Cv 19 1,Co 20 (.bin .gtr (.t 18) (.t 19)),Cv 21 20,Cg 22 21 true (.move (.t 3)),Cg 23 21 true (.move (.t 0)),Cg 24 21 true (.move (.t 9)),Cg 25 21 true (.iaddr 2 (.t 23) (.t 24)),Cg 26 21 true (.load true 2 (.t 25)),Cg 27 21 true (.move (.t 0)),Cg 28 21 true (.move (.t 9)),Cg 29 21 true (.bin .sub (.t 28) (.c (.int .i64 1))),Cg 30 21 true (.iaddr 2 (.t 27) (.t 29)),Cg 31 21 true (.load true 2 (.t 30)),Cg 32 21 true (.callV (.t 22) [(.t 26),(.t 31)]),Cg 33 21 true (.bin .lss (.t 32) (.c (.int .i64 0))),Co 34 (.pick (.t 21) (.t 33) (.c (.bool false)))]) (.cond (.t 34) (.skip) (.exit 2))) (.seq (.block 3 (.region [Cv 37 0,Cv 38 9,Cv 39 0,Cv 40 9,Co 41 (.bin .sub (.t 40) (.c (.int .i64 1))),Cv 42 0,Cv 43 9,Co 44 (.bin .sub (.t 43) (.c (.int .i64 1))),Co 45 (.iaddr 2 (.t 42) (.t 44)),Co 46 (.load true 2 (.t 45)),Cv 47 0,Cv 48 9,Co 49 (.iaddr 2 (.t 47) (.t 48)),Co 50 (.load true 2 (.t 49)),Co 51 (.iaddr 2 (.t 37) (.t 38)),Ce (.store 2 (.t 51) (.t 46)),Co 52 (.iaddr 2 (.t 39) (.t 41)),Ce (.store 2 (.t 52) (.t 50))])) (.region [Cv 35 9,Co 36 (.bin .sub (.t 35) (.c (.int .i64 1))),Cv 9 36])))
def b_slices_insertionSortCmpFunc_sets_Run_l0:ACode:=(.seq (.seq (.region [Cv 12 8,Cv 13 2,Co 14 (.bin .lss (.t 12) (.t 13))]) (.cond (.t 14) (.skip) (.exit 0))) (.seq (.block 1 (.seq (.region [Cv 17 8,Cv 9 17]) (.block 2 (.loop [0,1,2,3,8,9] b_slices_insertionSortCmpFunc_sets_Run_l1)))) (.region [Cv 15 8,Co 16 (.bin .add (.t 15) (.c (.int .i64 1))),Cv 8 16])))
def b_slices_insertionSortCmpFunc_sets_Run:AFn:=⟨4,[],(.seq (.region [Cv 10 1,Co 11 (.bin .add (.t 10) (.c (.int .i64 1))),Cv 8 11]) (.block 0 (.loop [0,1,2,3,8] b_slices_insertionSortCmpFunc_sets_Run_l0)))⟩
theorem fn_slices_insertionSortCmpFunc_sets_Run:FnOk P fo 117 b_slices_insertionSortCmpFunc_sets_Run:=fM Go.Proofs.Try.func117 dN (by kernel_rfl) (by kernel_rfl)
def b_slices_siftDownCmpFunc_sets_Run_l0:ACode:=(.block 1 (.seq (.region [Cv 13 10,Co 14 (.bin .mul (.c (.int .i64 2)) (.t 13)),Co 15 (.bin .add (.t 14) (.c (.int .i64 1))),Cv 11 15]) (.seq (.seq (.region [Cv 16 11,Cv 17 2,Co 18 (.bin .geq (.t 16) (.t 17))]) (.cond (.t 18) (.exit 0) (.skip))) (.seq (.seq (.region [Cv 19 11,Co 20 (.bin .add (.t 19) (.c (.int .i64 1))),Cv 21 2,Co 22 (.bin .lss (.t 20) (.t 21)),Cv 23 22,Cg 24 23 true (.move (.t 4)),Cg 25 23 true (.move (.t 0)),Cg 26 23 true (.move (.t 3)),Cg 27 23 true (.move (.t 11)),Cg 28 23 true (.bin .add (.t 26) (.t 27)),Cg 29 23 true (.iaddr 2 (.t 25) (.t 28)),Cg 30 23 true (.load true 2 (.t 29)),Cg 31 23 true (.move (.t 0)),Cg 32 23 true (.move (.t 3)),Cg 33 23 true (.move (.t 11)),Cg 34 23 true (.bin .add (.t 32) (.t 33)),Cg 35 23 true (.bin .add (.t 34) (.c (.int .i64 1))),Cg 36 23 true (.iaddr 2 (.t 31) (.t 35)),Cg 37 23 true (.load true 2 (.t 36)),Cg 38 23 true (.callV (.t 24) [(.t 30),(.t 37)]),Cg 39 23 true (.bin .lss (.t 38) (.c (.int .i64 0))),Co 40 (.pick (.t 23) (.t 39) (.c (.bool false)))]) (.cond (.t 40) (.region [Cv 41 11,Co 42 (.bin .add (.t 41) (.c (.int .i64 1))),Cv 11 42]) (.skip))) (.seq (.seq (.region [Cv 43 4,Cv 44 0,Cv 45 3,Cv 46 10,Co 47 (.bin .add (.t 45) (.t 46)),Co 48 (.iaddr 2 (.t 44) (.t 47)),Co 49 (.load true 2 (.t 48)),Cv 50 0,Cv 51 3,Cv 52 11,Co 53 (.bin .add (.t 51) (.t 52)),Co 54 (.iaddr 2 (.t 50) (.t 53)),Co 55 (.load true 2 (.t 54)),Co 56 (.callV (.t 43) [(.t 49),(.t 55)]),Co 57 (.bin .lss (.t 56) (.c (.int .i64 0))),Co 58 (.un .not (.t 57))]) (.cond (.t 58) (.ret) (.skip))) (.seq (.region [Cv 59 0,Cv 60 3,Cv 61 10,Co 62 (.bin .add (.t 60) (.t 61)),Cv 63 0,Cv 64 3,Cv 65 11,Co 66 (.bin .add (.t 64) (.t 65)),Cv 67 0,Cv 68 3,Cv 69 11,Co 70 (.bin .add (.t 68) (.t 69)),Co 71 (.iaddr 2 (.t 67) (.t 70)),Co 72 (.load true 2 (.t 71)),Cv 73 0,Cv 74 3,Cv 75 10,Co 76 (.bin .add (.t 74) (.t 75)),Co 77 (.iaddr 2 (.t 73) (.t 76)),Co 78 (.load true 2 (.t 77)),Co 79 (.iaddr 2 (.t 59) (.t 62)),Ce (.store 2 (.t 79) (.t 72)),Co 80 (.iaddr 2 (.t 63) (.t 66)),Ce (.store 2 (.t 80) (.t 78))]) (.region [Cv 81 11,Cv 10 81])))))))
def b_slices_siftDownCmpFunc_sets_Run:AFn:=⟨5,[],(.seq (.region [Cv 12 1,Cv 10 12]) (.block 0 (.loop [0,2,3,4,10] b_slices_siftDownCmpFunc_sets_Run_l0)))⟩
theorem fn_slices_siftDownCmpFunc_sets_Run:FnOk P fo 127 b_slices_siftDownCmpFunc_sets_Run:=fM Go.Proofs.Try.func127 dN (by kernel_rfl) (by kernel_rfl)
end Go.AM.B1
set_option linter.unusedSimpArgs false
namespace Go.AM.B1
open Go.AM
def IsL (sz:Nat) (v:PV) (es:List PV):Prop:=(v= .nils∧es=[])∨v= .lit sz es
theorem IsL.len {sz:Nat} {v:PV} {es:List PV} (h:IsL sz v es) (H:List AObj):lenA H 0 (.pv v)=some es.length:=by
 rcases h with⟨rfl,rfl⟩ | rfl <;> rfl
theorem IsL.lit {sz:Nat} {v:PV} {es:List PV} (h:IsL sz v es) {i:Nat} (hi:i < es.length):v= .lit sz es:=by
 rcases h with⟨rfl,rfl⟩ | rfl
 ·simp at hi
 ·rfl
abbrev i64 (n:Int):PV:= .int .i64 n
abbrev pr (p:Int×Int):PV:= .agg [i64 p.1,i64 p.2]
abbrev prs (l:List (Int×Int)):List PV:=l.map pr
theorem deep_eq:deep=5+1:=rfl
theorem beq_ne {a b:Int} (h:a≠b):(a==b)=false:=by simp[h]
theorem dec_t {p:Prop} [Decidable p] (h:p):decide p=true:=by simp[h]
theorem dec_f {p:Prop} [Decidable p] (h:¬p):decide p=false:=by simp[h]
theorem prs_get {l:List (Int×Int)} {i:Nat} (hi:i < l.length):(prs l)[i]? =some (pr l[i]):=by simp[prs,hi]
theorem stepWrap {i n:Nat} (hi:i < n) (hw:n≤maxLen):IntKind.i64.wrap ((i:Int)+1)=((i+1:Nat):Int):=wrap_int (by unfold maxLen at hw;omega)
inductive retIs (k:Nat) (v:AV):Option (Ex×St)→Prop
 |mk (s:St):s.env.get k=v→retIs k v (some (.ret,s))
theorem retIs_ret {k:Nat} {v:AV} {s:St}:retIs k v (some (.ret,s))=(s.env.get k=v):=
 propext ⟨fun h=>by cases h with | mk _ h=>exact h,fun h=> .mk s h⟩
theorem retIs_spec {k:Nat} {v:AV} {r:Option (Ex×St)} (h:retIs k v r):∃ t,r=some (.ret,t)∧t.env.get k=v:=by
 cases h with | mk s h=>exact⟨s,rfl,h⟩
inductive exitIs (k:Nat):Option (Ex×St)→Prop
 |mk (e:Tr) (H:List AObj):exitIs k (some (.exit k,⟨e,H⟩))
theorem exitIs_exit {k i:Nat} {e:Tr} {H:List AObj}:exitIs k (some (.exit i,⟨e,H⟩))=(i=k):=
 propext ⟨fun h=>by cases h;rfl,fun h=>by subst h;exact .mk e H⟩
theorem exitIs_spec {k:Nat} {r:Option (Ex×St)} (h:exitIs k r):∃ e H,r=some (.exit k,⟨e,H⟩):=by
 cases h with | mk e H=>exact⟨e,H,rfl⟩
inductive retIs2 (k:Nat) (v:AV) (j:Nat) (u:AV):Option (Ex×St)→Prop
 |mk (s:St):s.env.get k=v→s.env.get j=u→retIs2 k v j u (some (.ret,s))
theorem retIs2_ret {k j:Nat} {v u:AV} {s:St}:retIs2 k v j u (some (.ret,s))=(s.env.get k=v∧s.env.get j=u):=
 propext ⟨fun h=>by cases h with | mk _ h h'=>exact⟨h,h'⟩,fun h=> .mk s h.1 h.2⟩
theorem retIs2_spec {k j:Nat} {v u:AV} {r:Option (Ex×St)} (h:retIs2 k v j u r):∃ t,r=some (.ret,t)∧t.env.get k=v∧t.env.get j=u:=by
 cases h with | mk s h h'=>exact⟨s,rfl,h,h'⟩
section To
variable (v:PV) (l:List (Int×Int)) (hv:IsL 2 v (prs l)) (hw:l.length * 16≤140737488355328)
abbrev envTo (v:PV) (len i:Int) (o:AV):Tr:=((((Tr.lf.set 11 (.pv (i64 i))).set 10 (.pv (i64 len))).set 9 (.pv v)).set 3 o)
include hv hw
theorem to_span_round (i:Nat) (hi:i < l.length):
 roundL (callL (fun _=>none) 8) [3,9,10,11] b_sets_To_sets_Run_api_Span_l0 1 ⟨envTo v l.length i (.uq 0 false 2 (prs (l.take i))),[.tok 2 i false]⟩=
  some (.norm,⟨envTo v l.length (i+1:Nat) (.uq 0 false 2 (prs (l.take (i+1)))),[.tok 2 (i+1) false]⟩):=by
 have hv:=hv.lit (i:=i) (by simpa using hi)
 subst hv
 have e1:decide ((i:Int) < (l.length:Int))=true:=dec_t (by omega)
 have hq:idxOk (i:Int) (prs l).length:=by unfold idxOk;simp;omega
 have t1:((i:Int)).toNat=i:=by simp
 have t2:=stepWrap hi (by unfold maxLen;omega)
 have lt:(prs (l.take i)).length=i:=by simp;omega
 have q1:roomOk (i+1) 16:=by unfold roomOk;omega
 have hs:prs (l.take (i+1))=prs (l.take i)++[pr l[i]]:=by rw[List.take_succ_eq_append_getElem hi];simp only[prs,List.map_append,List.map_cons,List.map_nil]
 rw[hs]
 have hg:=prs_get hi
 generalize prs (l.take i)=T at *
 subst lt
 generalize prs l=es at *
 simp (implicitDefEqProofs:=false) only[SP,SA,SQ,sevalprocAttr,-List.reduceReplicate,roundL,roundA,b_sets_To_sets_Run_api_Span_l0,e1,eq_true hq,t1,t2,hg,eq_true q1,iaddrA',partE,AV.pvu,AV.pvu1,clean,cutEnv,cutObj,cut_pv,AV.cut,deep_eq,envTo]
theorem to_span_run:F_sets_To_sets_Run_api_Span [v]=some (.lit 2 (prs l)):=by
 have ls:=hv.len
 simp only[prs,List.length_map] at ls
 have hl:loopA (roundA (evalC (callL (fun _=>none) 8) b_sets_To_sets_Run_api_Span_l0) (clean 1 [3,9,10,11])) rounds ⟨envTo v l.length 0 (.uq 0 false 2 []),[.tok 2 0 false]⟩=
  some (.exit 0,⟨(envTo v l.length l.length (.uq 0 false 2 (prs l))).set 12 (.pv (.bool false)),[.tok 2 l.length false]⟩):=by
  have key:=loopA_go (g:=roundL (callL (fun _=>none) 8) [3,9,10,11] b_sets_To_sets_Run_api_Span_l0 1)
   (fun i t=>t=⟨envTo v l.length i (.uq 0 false 2 (prs (l.take i))),[.tok 2 i false]⟩)
   (fun ex t=>ex= .exit 0∧t=⟨(envTo v l.length l.length (.uq 0 false 2 (prs l))).set 12 (.pv (.bool false)),[.tok 2 l.length false]⟩)
   rounds l.length 0 _ (by unfold rounds;omega) (by omega) rfl ?_ ?_
  ·obtain⟨ex,t,h,_,rfl,rfl⟩:=key;exact h
  ·rintro i hi t rfl
   exact .inl ⟨_,to_span_round v l hv hw i hi,rfl⟩
  ·rintro t rfl
   refine⟨.exit 0,_,?_,rfl,rfl,rfl⟩
   have e1:decide ((l.length:Int) < (l.length:Int))=false:=dec_f (by omega)
   rw[List.take_length]
   simp (implicitDefEqProofs:=false) only[SP,SA,SQ,sevalprocAttr,-List.reduceReplicate,roundL,roundA,b_sets_To_sets_Run_api_Span_l0,e1,envTo]
 have h1:decide ((0:Int)≤0)=true:=by decide
 have h2:(0:Int)≤(l.length:Int):=by omega
 have h3:roomOk ((l.length:Int)).toNat 16:=by unfold roomOk;simp;omega
 simp (implicitDefEqProofs:=false) only[F_sets_To_sets_Run_api_Span,SP,SA,SQ,sevalprocAttr,-List.reduceReplicate,b_sets_To_sets_Run_api_Span,ls,C_loop,clean,cutEnv,cutObj,cut_pv,AV.cut,deep_eq,Int.le_refl,eq_true h2,eq_true h3,Int.toNat_zero]
 simp only[envTo] at hl
 rw[hl]
 simp (implicitDefEqProofs:=false) only[SP,SA,SQ,sevalprocAttr,-List.reduceReplicate]
end To
end Go.AM.B1
namespace Go.AM.B1
open Go.AM
def validR (top:Int):Int→List (Int×Int)→Bool
 |_,[]=>true
 |last,p::r=> !(decide (p.1 < 0)||decide (p.1 > p.2)||decide (p.2 > top)||decide (p.1 - 1≤last))&&validR top p.2 r
abbrev envV (v:PV) (top len i last:Int):Tr:=(((((Tr.lf.set 10 (.pv (i64 i))).set 9 (.pv (i64 len))).set 8 (.pv v)).set 5 (.pv (i64 last))).set 1 (.pv (i64 top)))
section
variable (v:PV) (l:List (Int×Int)) (hv:IsL 2 v (prs l)) (hw:l.length≤maxLen) (top:Int) (ht:top≤9223372036854775807)
theorem valid_good (i:Nat) (hi:i < l.length) (hv:IsL 2 v (prs l)) (hw:l.length≤maxLen) (last:Int) (ht:top≤9223372036854775807) (c1:¬l[i].1 < 0) (c2:¬l[i].1 > l[i].2) (c3:¬l[i].2 > top) (c4:¬l[i].1 - 1≤last):
 roundL (callL (fun _=>none) 8) [1,5,8,9,10] b_sets_Valid_l0 0 ⟨envV v top l.length i last,[]⟩=some (.norm,⟨envV v top l.length (i+1:Nat) l[i].2,[]⟩):=by
 have hv:=hv.lit (i:=i) (by simpa using hi)
 subst hv
 have e1:decide ((i:Int) < (l.length:Int))=true:=dec_t (by omega)
 have hq:idxOk (i:Int) (prs l).length:=by unfold idxOk;simp;omega
 have t1:((i:Int)).toNat=i:=by simp
 have t2:=stepWrap hi hw
 have t3:IntKind.i64.wrap (l[i].1 - 1)=l[i].1 - 1:=wrap_int (by omega)
 have hg:=prs_get hi
 have d1:=dec_f c1;have d2:=dec_f c2;have d3:=dec_f c3;have d4:=dec_f c4
 generalize prs l=es at *
 generalize l[i]=p at *
 simp (implicitDefEqProofs:=false) only[SP,SA,SQ,sevalprocAttr,-List.reduceReplicate,roundL,roundA,b_sets_Valid_l0,e1,eq_true hq,t1,t2,t3,hg,d1,d2,d3,d4,iaddrA',clean,cutEnv,cutObj,cut_pv,AV.cut,deep_eq,envV]
theorem valid_bad (i:Nat) (hi:i < l.length) (hv:IsL 2 v (prs l)) (hw:l.length≤maxLen) (last:Int) (ht:top≤9223372036854775807) (hc:l[i].1 < 0∨l[i].1 > l[i].2∨l[i].2 > top∨l[i].1 - 1≤last):
 retIs 4 (.pv (.bool false)) (roundL (callL (fun _=>none) 8) [1,5,8,9,10] b_sets_Valid_l0 0 ⟨envV v top l.length i last,[]⟩):=by
 have hv:=hv.lit (i:=i) (by simpa using hi)
 subst hv
 have e1:decide ((i:Int) < (l.length:Int))=true:=dec_t (by omega)
 have hq:idxOk (i:Int) (prs l).length:=by unfold idxOk;simp;omega
 have t1:((i:Int)).toNat=i:=by simp
 have hg:=prs_get hi
 generalize prs l=es at *
 generalize l[i]=p at *
 by_cases c1:p.1 < 0
 ·have d1:=dec_t c1
  simp (implicitDefEqProofs:=false) only[SP,SA,SQ,sevalprocAttr,-List.reduceReplicate,roundL,roundA,b_sets_Valid_l0,e1,eq_true hq,t1,hg,d1,iaddrA',envV,retIs_ret]
 have d1:=dec_f c1
 by_cases c2:p.1 > p.2
 ·have d2:=dec_t c2
  simp (implicitDefEqProofs:=false) only[SP,SA,SQ,sevalprocAttr,-List.reduceReplicate,roundL,roundA,b_sets_Valid_l0,e1,eq_true hq,t1,hg,d1,d2,iaddrA',envV,retIs_ret]
 have d2:=dec_f c2
 by_cases c3:p.2 > top
 ·have d3:=dec_t c3
  simp (implicitDefEqProofs:=false) only[SP,SA,SQ,sevalprocAttr,-List.reduceReplicate,roundL,roundA,b_sets_Valid_l0,e1,eq_true hq,t1,hg,d1,d2,d3,iaddrA',envV,retIs_ret]
 have d3:=dec_f c3
 have c4:p.1 - 1≤last:=by rcases hc with h | h | h | h <;> first | exact h | omega
 have t3:IntKind.i64.wrap (p.1 - 1)=p.1 - 1:=wrap_int (by omega)
 have d4:=dec_t c4
 simp (implicitDefEqProofs:=false) only[SP,SA,SQ,sevalprocAttr,-List.reduceReplicate,roundL,roundA,b_sets_Valid_l0,e1,eq_true hq,t1,t3,hg,d1,d2,d3,d4,iaddrA',envV,retIs_ret]
include hv hw ht
theorem valid_run:F_sets_Valid [v,i64 top]=some (.bool (validR top (-2) l)):=by
 have ls:=hv.len
 simp only[prs,List.length_map] at ls
 have key:=loopA_go (g:=roundL (callL (fun _=>none) 8) [1,5,8,9,10] b_sets_Valid_l0 0)
  (fun i t=>∃ last,t=⟨envV v top l.length i last,[]⟩∧validR top (-2) l=validR top last (l.drop i))
  (fun ex t=>(ex= .exit 0∧validR top (-2) l=true∧∃ last,t=⟨(envV v top l.length l.length last).set 11 (.pv (.bool false)),[]⟩)∨(ex= .ret∧validR top (-2) l=false∧t.env.get 4= .pv (.bool false)))
  rounds l.length 0 ⟨envV v top l.length (0:Nat) (-2),[]⟩ (by unfold rounds;unfold maxLen at hw;omega) (by omega) ⟨-2,rfl,rfl⟩ ?_ ?_
 ·have hl:loopA (roundA (evalC (callL (fun _=>none) 8) b_sets_Valid_l0) (clean 0 [1,5,8,9,10])) rounds ⟨envV v top l.length 0 (-2),[]⟩=loopA (roundL (callL (fun _=>none) 8) [1,5,8,9,10] b_sets_Valid_l0 0) rounds ⟨envV v top l.length (0:Nat) (-2),[]⟩:=rfl
  obtain⟨ex,t,h,_,hq⟩:=key
  rw[h] at hl
  simp only[envV] at hl
  rcases hq with⟨rfl,hval,last,rfl⟩ | ⟨rfl,hval,hg⟩
  ·rw[hval]
   simp (implicitDefEqProofs:=false) only[F_sets_Valid,SP,SA,SQ,sevalprocAttr,-List.reduceReplicate,b_sets_Valid,ls,C_loop,clean,cutEnv,cutObj,cut_pv,AV.cut,deep_eq,hl,envV]
  ·rw[hval]
   simp (implicitDefEqProofs:=false) only[F_sets_Valid,SP,SA,SQ,sevalprocAttr,-List.reduceReplicate,b_sets_Valid,ls,C_loop,clean,cutEnv,cutObj,cut_pv,AV.cut,deep_eq,hl,envV,hg]
 ·rintro i hi t ⟨last,rfl,hval⟩
  have hd:l.drop i=l[i]::l.drop (i+1):=List.drop_eq_getElem_cons hi
  rw[hd,validR] at hval
  by_cases hc:l[i].1 < 0∨l[i].1 > l[i].2∨l[i].2 > top∨l[i].1 - 1≤last
  ·obtain⟨t,h1,h2⟩:=retIs_spec (valid_bad v l top i hi hv hw last ht hc)
   refine .inr ⟨.ret,t,h1,rfl,.inr ⟨rfl,?_,h2⟩⟩
   rw[hval]
   rcases hc with h | h | h | h <;> simp[h]
  ·have hc':¬l[i].1 < 0∧¬l[i].1 > l[i].2∧¬l[i].2 > top∧¬l[i].1 - 1≤last:=by
    refine⟨fun h=>hc (.inl h),fun h=>hc (.inr (.inl h)),fun h=>hc (.inr (.inr (.inl h))),fun h=>hc (.inr (.inr (.inr h)))⟩
   refine .inl ⟨_,valid_good v l top i hi hv hw last ht hc'.1 hc'.2.1 hc'.2.2.1 hc'.2.2.2,l[i].2,rfl,?_⟩
   rw[hval,dec_f hc'.1,dec_f hc'.2.1,dec_f hc'.2.2.1,dec_f hc'.2.2.2]
   rfl
 ·rintro t ⟨last,rfl,hval⟩
  refine⟨.exit 0,_,?_,rfl,.inl ⟨rfl,?_,last,rfl⟩⟩
  ·have e1:decide ((l.length:Int) < (l.length:Int))=false:=dec_f (by omega)
   simp (implicitDefEqProofs:=false) only[SP,SA,SQ,sevalprocAttr,-List.reduceReplicate,roundL,roundA,b_sets_Valid_l0,e1,envV]
  ·rw[hval,List.drop_length];rfl
end
end Go.AM.B1
namespace Go.AM.B1
open Go.AM
def rankR (x:Int):Int→List (Int×Int)→Int×Bool
 |_,[]=>(0,false)
 |n,p::r=>if x < p.1 then (0,false) else if x≤p.2 then (n+x - p.1,true) else rankR x (n+(p.2 - p.1+1)) r
abbrev envR (v:PV) (x len i n:Int):Tr:=(((((Tr.lf.set 11 (.pv (i64 i))).set 10 (.pv (i64 len))).set 9 (.pv v)).set 6 (.pv (i64 n))).set 1 (.pv (i64 x)))
section
variable (v:PV) (l:List (Int×Int)) (hv:IsL 2 v (prs l)) (hw:l.length≤maxLen) (x n:Int)
theorem rank_low (i:Nat) (hi:i < l.length) (hv:IsL 2 v (prs l)) (c:x < l[i].1):
 exitIs 0 (roundL (callL (fun _=>none) 8) [1,6,9,10,11] b_sets_Rank_l0 0 ⟨envR v x l.length i n,[]⟩):=by
 have hv:=hv.lit (i:=i) (by simpa using hi)
 subst hv
 have e1:decide ((i:Int) < (l.length:Int))=true:=dec_t (by omega)
 have hq:idxOk (i:Int) (prs l).length:=by unfold idxOk;simp;omega
 have t1:((i:Int)).toNat=i:=by simp
 have hg:=prs_get hi
 have d1:=dec_t c
 generalize prs l=es at *
 generalize l[i]=p at *
 simp (implicitDefEqProofs:=false) only[SP,SA,SQ,sevalprocAttr,-List.reduceReplicate,roundL,roundA,b_sets_Rank_l0,e1,eq_true hq,t1,hg,d1,iaddrA',envR,exitIs_exit]
theorem rank_in (i:Nat) (hi:i < l.length) (hv:IsL 2 v (prs l)) (c:¬x < l[i].1) (c2:x≤l[i].2) (hb:0≤l[i].1∧l[i].2≤4611686018427387904∧0≤n∧n≤4611686018427387903):
 retIs2 4 (.pv (i64 (n+x - l[i].1))) 5 (.pv (.bool true)) (roundL (callL (fun _=>none) 8) [1,6,9,10,11] b_sets_Rank_l0 0 ⟨envR v x l.length i n,[]⟩):=by
 have hv:=hv.lit (i:=i) (by simpa using hi)
 subst hv
 have e1:decide ((i:Int) < (l.length:Int))=true:=dec_t (by omega)
 have hq:idxOk (i:Int) (prs l).length:=by unfold idxOk;simp;omega
 have t1:((i:Int)).toNat=i:=by simp
 have hg:=prs_get hi
 have d1:=dec_f c
 have d2:=dec_t c2
 have t3:IntKind.i64.wrap (n+x)=n+x:=wrap_int (by omega)
 have t4:IntKind.i64.wrap (n+x - l[i].1)=n+x - l[i].1:=wrap_int (by omega)
 generalize prs l=es at *
 generalize l[i]=p at *
 simp (implicitDefEqProofs:=false) only[SP,SA,SQ,sevalprocAttr,-List.reduceReplicate,roundL,roundA,b_sets_Rank_l0,e1,eq_true hq,t1,t3,t4,hg,d1,d2,iaddrA',envR,retIs2_ret]
theorem rank_on (i:Nat) (hi:i < l.length) (hv:IsL 2 v (prs l)) (hw:l.length≤maxLen) (c:¬x < l[i].1) (c2:¬x≤l[i].2) (hb:0≤l[i].1∧l[i].1≤l[i].2∧l[i].2≤4611686018427387902∧0≤n∧n≤l[i].1):
 roundL (callL (fun _=>none) 8) [1,6,9,10,11] b_sets_Rank_l0 0 ⟨envR v x l.length i n,[]⟩=some (.norm,⟨envR v x l.length (i+1:Nat) (n+(l[i].2 - l[i].1+1)),[]⟩):=by
 have hv:=hv.lit (i:=i) (by simpa using hi)
 subst hv
 have e1:decide ((i:Int) < (l.length:Int))=true:=dec_t (by omega)
 have hq:idxOk (i:Int) (prs l).length:=by unfold idxOk;simp;omega
 have t1:((i:Int)).toNat=i:=by simp
 have t2:=stepWrap hi hw
 have hg:=prs_get hi
 have d1:=dec_f c
 have d2:=dec_f c2
 have t3:IntKind.i64.wrap (l[i].2 - l[i].1)=l[i].2 - l[i].1:=wrap_int (by omega)
 have t4:IntKind.i64.wrap (l[i].2 - l[i].1+1)=l[i].2 - l[i].1+1:=wrap_int (by omega)
 have t5:IntKind.i64.wrap (n+(l[i].2 - l[i].1+1))=n+(l[i].2 - l[i].1+1):=wrap_int (by omega)
 generalize prs l=es at *
 generalize l[i]=p at *
 simp (implicitDefEqProofs:=false) only[SP,SA,SQ,sevalprocAttr,-List.reduceReplicate,roundL,roundA,b_sets_Rank_l0,e1,eq_true hq,t1,t2,t3,t4,t5,hg,d1,d2,iaddrA',clean,cutEnv,cutObj,cut_pv,AV.cut,deep_eq,envR]
theorem validR_cons {top last:Int} {p:Int×Int} {r:List (Int×Int)} (h:validR top last (p::r)=true):¬p.1 < 0∧¬p.1 > p.2∧¬p.2 > top∧¬p.1 - 1≤last∧validR top p.2 r=true:=by
 simp only[validR,Bool.and_eq_true,Bool.not_eq_true',Bool.or_eq_false_iff,decide_eq_false_iff_not] at h
 exact⟨h.1.1.1.1,h.1.1.1.2,h.1.1.2,h.1.2,h.2⟩
include hv hw
theorem sets_rank_run {top:Int} (ht:top≤4611686018427387900) (hval:validR top (-2) l=true):F_sets_Rank [v,i64 x]=some (.tup [i64 (rankR x 0 l).1,.bool (rankR x 0 l).2]):=by
 have ls:=hv.len
 simp only[prs,List.length_map] at ls
 have key:=loopA_go (g:=roundL (callL (fun _=>none) 8) [1,6,9,10,11] b_sets_Rank_l0 0)
  (fun i t=>∃ n last,t=⟨envR v x l.length i n,[]⟩∧rankR x 0 l=rankR x n (l.drop i)∧validR top last (l.drop i)=true∧0≤n∧n≤max 0 (last+1)∧last≤top)
  (fun ex t=>(ex= .exit 0∧rankR x 0 l=(0,false))∨(ex= .ret∧∃ r,rankR x 0 l=(r,true)∧t.env.get 4= .pv (i64 r)∧t.env.get 5= .pv (.bool true)))
  rounds l.length 0 ⟨envR v x l.length (0:Nat) 0,[]⟩ (by unfold rounds;unfold maxLen at hw;omega) (by omega) ?_ ?_ ?_
 ·have hl:loopA (roundA (evalC (callL (fun _=>none) 8) b_sets_Rank_l0) (clean 0 [1,6,9,10,11])) rounds ⟨envR v x l.length 0 0,[]⟩=loopA (roundL (callL (fun _=>none) 8) [1,6,9,10,11] b_sets_Rank_l0 0) rounds ⟨envR v x l.length (0:Nat) 0,[]⟩:=rfl
  obtain⟨ex,⟨e,H⟩,h,_,hq⟩:=key
  rw[h] at hl
  simp only[envR] at hl
  rcases hq with⟨rfl,hr⟩ | ⟨rfl,r,hr,g4,g5⟩
  ·rw[hr]
   simp (implicitDefEqProofs:=false) only[F_sets_Rank,SP,SA,SQ,sevalprocAttr,-List.reduceReplicate,b_sets_Rank,ls,C_loop,clean,cutEnv,cutObj,cut_pv,AV.cut,deep_eq,hl,envR]
  ·rw[hr]
   simp only at g4 g5
   simp (implicitDefEqProofs:=false) only[F_sets_Rank,SP,SA,SQ,sevalprocAttr,-List.reduceReplicate,b_sets_Rank,ls,C_loop,clean,cutEnv,cutObj,cut_pv,AV.cut,deep_eq,hl,envR,g4,g5]
 ·refine⟨0,min (-2) top,rfl,rfl,?_,by omega,by omega,by omega⟩
  have mono:∀ {a b:Int} {r:List (Int×Int)},a≤b→validR top b r=true→validR top a r=true:=by
   intro a b r hab h
   cases r with
   |nil=>rfl
   |cons p r=>
    obtain⟨h1,h2,h3,h4,h5⟩:=validR_cons h
    simp only[validR,h5,Bool.and_true,Bool.not_eq_true',Bool.or_eq_false_iff,decide_eq_false_iff_not]
    exact⟨⟨⟨h1,h2⟩,h3⟩,by omega⟩
  exact mono (by omega) hval
 ·rintro i hi t ⟨n,last,rfl,hr,hva,hn0,hn1,hlast⟩
  have hd:l.drop i=l[i]::l.drop (i+1):=List.drop_eq_getElem_cons hi
  rw[hd] at hr hva
  obtain⟨h1,h2,h3,h4,h5⟩:=validR_cons hva
  rw[rankR] at hr
  by_cases c:x < l[i].1
  ·obtain⟨e,H,hx⟩:=exitIs_spec (rank_low v l x n i hi hv c)
   rw[if_pos c] at hr
   exact .inr ⟨.exit 0,⟨e,H⟩,hx,rfl,.inl ⟨rfl,hr⟩⟩
  by_cases c2:x≤l[i].2
  ·obtain⟨t,hx,g4,g5⟩:=retIs2_spec (rank_in v l x n i hi hv c c2 (by omega))
   rw[if_neg c,if_pos c2] at hr
   exact .inr ⟨.ret,t,hx,rfl,.inr ⟨rfl,_,hr,g4,g5⟩⟩
  ·rw[if_neg c,if_neg c2] at hr
   exact .inl ⟨_,rank_on v l x n i hi hv hw c c2 (by omega),_,l[i].2,rfl,hr,h5,by omega,by omega,by omega⟩
 ·rintro t ⟨n,last,rfl,hr,_⟩
  refine⟨.exit 0,⟨(envR v x l.length l.length n).set 12 (.pv (.bool false)),[]⟩,?_,rfl,.inl ⟨rfl,?_⟩⟩
  ·have e1:decide ((l.length:Int) < (l.length:Int))=false:=dec_f (by omega)
   simp (implicitDefEqProofs:=false) only[SP,SA,SQ,sevalprocAttr,-List.reduceReplicate,roundL,roundA,b_sets_Rank_l0,e1,envR]
  ·rw[hr,List.drop_length];rfl
end
def setR (l:List (Int×Int)):List (Int×Int):=if validR 255 (-2) l then l else []
theorem toPV_pv (H:List AObj) (d:Nat) (p:PV):toPV H d (.pv p)=some p:=by cases d <;> rfl
theorem setR_valid (l:List (Int×Int)):validR 255 (-2) (setR l)=true:=by
 unfold setR
 cases hb:validR 255 (-2) l with
 |true=>exact hb
 |false=>rfl
theorem setR_len (l:List (Int×Int)):(setR l).length≤l.length:=by
 unfold setR
 split <;> simp
section
variable (v:PV) (l:List (Int×Int)) (hv:IsL 2 v (prs l)) (hw:l.length * 16≤140737488355328)
include hv hw
theorem spans_valid_run:F_spans_Valid [v]=some (.bool (validR 255 (-2) l)):=by
 have h1:=to_span_run v l hv hw
 have h2:=valid_run (.lit 2 (prs l)) l (.inr rfl) (by unfold maxLen;omega) 255 (by decide)
 simp (implicitDefEqProofs:=false) only[F_spans_Valid,SP,SA,SQ,sevalprocAttr,-List.reduceReplicate,b_spans_Valid,toPV_pv,deep_eq,h1,h2]
theorem spans_set_run:∃ u,F_spans_set [v]=some u∧IsL 2 u (prs (setR l)):=by
 have h1:=to_span_run v l hv hw
 have h2:=valid_run (.lit 2 (prs l)) l (.inr rfl) (by unfold maxLen;omega) 255 (by decide)
 unfold setR
 cases hb:validR 255 (-2) l with
 |true=>
  rw[hb] at h2
  refine⟨.lit 2 (prs l),?_,.inr rfl⟩
  simp (implicitDefEqProofs:=false) only[F_spans_set,SP,SA,SQ,sevalprocAttr,-List.reduceReplicate,b_spans_set,toPV_pv,deep_eq,h1,h2]
 |false=>
  rw[hb] at h2
  refine⟨.nils,?_,.inl ⟨rfl,rfl⟩⟩
  simp (implicitDefEqProofs:=false) only[F_spans_set,SP,SA,SQ,sevalprocAttr,-List.reduceReplicate,b_spans_set,toPV_pv,deep_eq,h1,h2]
theorem spans_rank_run (x:Int):F_spans_Rank [v,i64 x]=some (.tup [i64 (rankR x 0 (setR l)).1,.bool (rankR x 0 (setR l)).2]):=by
 obtain⟨u,h1,h2⟩:=spans_set_run v l hv hw
 have h3:=sets_rank_run u (setR l) h2 (by have:=setR_len l;unfold maxLen;omega) x (top:=255) (by decide) (setR_valid l)
 simp (implicitDefEqProofs:=false) only[F_spans_Rank,SP,SA,SQ,sevalprocAttr,-List.reduceReplicate,b_spans_Rank,toPV_pv,deep_eq,h1,h3]
theorem spans_has_run (x:Int):F_spans_Has [v,i64 x]=some (.bool (rankR x 0 (setR l)).2):=by
 have h3:=spans_rank_run v l hv hw x
 simp (implicitDefEqProofs:=false) only[F_spans_Has,SP,SA,SQ,sevalprocAttr,-List.reduceReplicate,b_spans_Has,toPV_pv,deep_eq,h3]
end
end Go.AM.B1
namespace Go.AM.B1
open Go.AM
theorem _root_.Go.AM.PureFn.weaken {P:Program} {f:FuncId} {F G:List PV→Option PV} (h:PureFn P f G) (hF:∀ xs r,F xs=some r→G xs=some r):PureFn P f F:=
 ⟨h.1,fun w R args vs r hR hl hr=>h.2 w R args vs r hR hl (hF _ _ hr)⟩
def decPair:PV→Option (Int×Int)
 | .agg [.int .i64 a,.int .i64 b]=>some (a,b)
 |_=>none
def decPairs:PV→Option (List (Int×Int))
 | .nils=>some []
 | .lit 2 es=>mapO decPair es
 |_=>none
theorem decPair_pr {v:PV} {p:Int×Int} (h:decPair v=some p):v=pr p:=by
 unfold decPair at h
 split at h
 ·injection h with h;subst h;rfl
 ·cases h
theorem decPairs_isL {v:PV} {l:List (Int×Int)} (h:decPairs v=some l):IsL 2 v (prs l):=by
 unfold decPairs at h
 split at h
 ·injection h with h;subst h;exact .inl ⟨rfl,rfl⟩
 ·rename_i es
  refine .inr ?_
  congr 1
  induction es generalizing l with
  |nil=>simp only[mapO,Option.some.injEq] at h;subst h;rfl
  |cons e es ih=>
   simp only[mapO,Option.bind_eq_some_iff,Option.some.injEq] at h
   obtain⟨p,h1,r,h2,rfl⟩:=h
   rw[ih h2,decPair_pr h1]
   rfl
 ·cases h
def C_spans_Has:List PV→Option PV
 | [v,.int .i64 x]=>(decPairs v).bind fun l=>if l.length * 16≤140737488355328 then some (.bool (rankR x 0 (setR l)).2) else none
 |_=>none
theorem c_spans_Has:PureFn P 78 C_spans_Has:=p_spans_Has.weaken fun xs r h=>by
 unfold C_spans_Has at h
 split at h
 ·rename_i v x
  simp only[Option.bind_eq_some_iff] at h
  obtain⟨l,h1,h2⟩:=h
  split at h2
  ·rename_i hw
   injection h2 with h2
   rw[spans_has_run v l (decPairs_isL h1) hw x,←h2]
  ·cases h2
 ·cases h
end Go.AM.B1
