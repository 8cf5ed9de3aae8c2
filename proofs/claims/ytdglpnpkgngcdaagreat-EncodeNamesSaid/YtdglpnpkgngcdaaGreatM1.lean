/- What functions of the program compute. -/
import Derived.Test.YtdglpnpkgngcdaaGreatA3
import Derived.Test.YtdglpnpkgngcdaaGreatProg
import Derived.Shelf.SlicesG.Cmp
import Derived.Shelf.Lay
import Derived.Ground.SlsfProg
import Derived.Ground.SlgcProg
set_option linter.unusedVariables false
namespace Go.AM.B1
open Go.AM
noncomputable abbrev P:Program:=Go.Proofs.Tryz.prog
def fo:Nat→FuncId
 |0=>171
 |1=>155
 |2=>170
 |3=>153
 |4=>128
 |5=>151
 |6=>122
 |7=>123
 |8=>181
 |9=>189
 |22=>172
 |23=>173
 |24=>156
 |25=>99
 |26=>129
 |27=>130
 |28=>96
 |29=>97
 |30=>98
 |31=>25
 |34=>68
 |35=>162
 |36=>69
 |37=>100
 |38=>135
 |39=>104
 |40=>113
 |41=>114
 |60=>34
 |61=>37
 |62=>85
 |63=>56
 |64=>38
 |65=>58
 |66=>40
 |67=>53
 |68=>54
 |69=>57
 |70=>26
 |72=>60
 |73=>24
 |74=>50
 |75=>47
 |76=>89
 |77=>119
 |78=>49
 |79=>44
 |130=>77
 |131=>80
 |132=>101
 |133=>20
 |134=>21
 |135=>23
 |136=>22
 |137=>79
 |138=>65
 |139=>15
 |140=>62
 |_=>0
theorem noTable:TableOk P fo (fun _=>none):=fun ix af h=>by cases h
def b_sets_To_sets_Run_api_Span_l0:ACode:=(.seq (.region [Co 12 (.bin .lss (.t 11) (.t 10))]) (.seq (.cond (.t 12) (.skip) (.exit 0)) (.seq (.block 1 (.seq (.region [Co 13 (.iaddr 2 (.t 9) (.t 11)),Co 14 (.load true 2 (.t 13)),Co 5 (.alloc [(.int .i64 0),(.int .i64 0)]),Ce (.store 2 (.t 5) (.t 14))]) (.region [Cv 15 3,Co 16 (.load true 2 (.t 5)),Co 17 (.bslice .lit 2 true 1 [(.int .i64 0),(.int .i64 0)] [(0,(.t 16))]),Co 18 (.append false .uq 2 true 16 (.t 15) (.t 17)),Cv 3 18]))) (.region [Co 19 (.bin .add (.t 11) (.c (.int .i64 1))),Cv 11 19]))))
def b_sets_To_sets_Run_api_Span:AFn:=⟨1,[.tmp 2],(.seq (.region [Co 2 (.move (.c .nils))]) (.seq (.region [Cv 6 0,Co 7 (.len 0 (.t 6)),Co 8 (.mkslice .uq 2 true [(.int .i64 0),(.int .i64 0)] 16 (.c (.int .i64 0)) (.t 7)),Cv 3 8]) (.seq (.seq (.region [Cv 9 0,Co 10 (.len 0 (.t 9)),Co 11 (.move (.c (.int .i64 0)))]) (.block 0 (.loop [3,9,10,11] b_sets_To_sets_Run_api_Span_l0))) (.seq (.region [Cv 20 3,Cv 2 20]) (.ret)))))⟩
theorem fn_sets_To_sets_Run_api_Span:FnOk P fo 163 b_sets_To_sets_Run_api_Span:=fM Go.Proofs.Tryz.func163 dN (by kernel_rfl) (by kernel_rfl)
def F_sets_To_sets_Run_api_Span:List PV→Option PV:=pureF (fun _=>none) b_sets_To_sets_Run_api_Span
theorem p_sets_To_sets_Run_api_Span:PureFn P 163 F_sets_To_sets_Run_api_Span:=pureF_ok noTable fn_sets_To_sets_Run_api_Span
def b_sets_Valid_l0:ACode:=(.seq (.region [Co 11 (.bin .lss (.t 10) (.t 9))]) (.seq (.cond (.t 11) (.skip) (.exit 0)) (.seq (.block 1 (.seq (.region [Co 12 (.iaddr 2 (.t 8) (.t 10)),Co 13 (.load true 2 (.t 12)),Co 7 (.alloc [(.int .i64 0),(.int .i64 0)]),Ce (.store 2 (.t 7) (.t 13))]) (.seq (.seq (.region [Co 14 (.faddr 0 (.t 7)),Co 15 (.load false 1 (.t 14)),Co 16 (.bin .lss (.t 15) (.c (.int .i64 0))),Cv 17 16,Cg 18 17 false (.faddr 0 (.t 7)),Cg 19 17 false (.load false 1 (.t 18)),Cg 20 17 false (.faddr 1 (.t 7)),Cg 21 17 false (.load false 1 (.t 20)),Cg 22 17 false (.bin .gtr (.t 19) (.t 21)),Co 23 (.pick (.t 17) (.c (.bool true)) (.t 22)),Cv 24 23,Cg 25 24 false (.faddr 1 (.t 7)),Cg 26 24 false (.load false 1 (.t 25)),Cg 27 24 false (.move (.t 1)),Cg 28 24 false (.bin .gtr (.t 26) (.t 27)),Co 29 (.pick (.t 24) (.c (.bool true)) (.t 28)),Cv 30 29,Cg 31 30 false (.faddr 0 (.t 7)),Cg 32 30 false (.load false 1 (.t 31)),Cg 33 30 false (.bin .sub (.t 32) (.c (.int .i64 1))),Cg 34 30 false (.move (.t 5)),Cg 35 30 false (.bin .leq (.t 33) (.t 34)),Co 36 (.pick (.t 30) (.c (.bool true)) (.t 35))]) (.cond (.t 36) (.seq (.region [Co 4 (.move (.c (.bool false)))]) (.ret)) (.skip))) (.region [Co 37 (.faddr 1 (.t 7)),Co 38 (.load false 1 (.t 37)),Cv 5 38])))) (.region [Co 39 (.bin .add (.t 10) (.c (.int .i64 1))),Cv 10 39]))))
def b_sets_Valid:AFn:=⟨2,[.tmp 4],(.seq (.region [Co 4 (.move (.c (.bool false)))]) (.seq (.region [Co 5 (.move (.c (.int .i64 (-2))))]) (.seq (.seq (.region [Cv 8 0,Co 9 (.len 0 (.t 8)),Co 10 (.move (.c (.int .i64 0)))]) (.block 0 (.loop [1,5,8,9,10] b_sets_Valid_l0))) (.seq (.region [Co 4 (.move (.c (.bool true)))]) (.ret)))))⟩
theorem fn_sets_Valid:FnOk P fo 164 b_sets_Valid:=fM Go.Proofs.Tryz.func164 dN (by kernel_rfl) (by kernel_rfl)
def F_sets_Valid:List PV→Option PV:=pureF (fun _=>none) b_sets_Valid
theorem p_sets_Valid:PureFn P 164 F_sets_Valid:=pureF_ok noTable fn_sets_Valid
def b_spans_Valid:AFn:=⟨1,[.tmp 2],(.seq (.region [Co 2 (.move (.c (.bool false)))]) (.seq (.region [Cv 3 0,Co 4 (.callP F_sets_To_sets_Run_api_Span [(.t 3)]),Co 5 (.callP F_sets_Valid [(.t 4),(.c (.int .i64 255))]),Cv 2 5]) (.ret)))⟩
theorem fn_spans_Valid:FnOk P fo 152 b_spans_Valid:=fM Go.Proofs.Tryz.func152 (dC p_sets_To_sets_Run_api_Span (dC p_sets_Valid dN)) (by kernel_rfl) (by kernel_rfl)
def F_spans_Valid:List PV→Option PV:=pureF (fun _=>none) b_spans_Valid
theorem p_spans_Valid:PureFn P 152 F_spans_Valid:=pureF_ok noTable fn_spans_Valid
def b_spans_set:AFn:=⟨1,[.tmp 2],(.seq (.region [Co 2 (.move (.c .nils))]) (.seq (.region [Cv 4 0,Co 5 (.callP F_sets_To_sets_Run_api_Span [(.t 4)]),Cv 3 5]) (.seq (.seq (.region [Cv 6 3,Co 7 (.callP F_sets_Valid [(.t 6),(.c (.int .i64 255))]),Co 8 (.un .not (.t 7))]) (.cond (.t 8) (.seq (.region [Co 2 (.move (.c .nils))]) (.ret)) (.skip))) (.seq (.region [Cv 9 3,Cv 2 9]) (.ret)))))⟩
theorem fn_spans_set:FnOk P fo 136 b_spans_set:=fM Go.Proofs.Tryz.func136 (dC p_sets_To_sets_Run_api_Span (dC p_sets_Valid dN)) (by kernel_rfl) (by kernel_rfl)
def F_spans_set:List PV→Option PV:=pureF (fun _=>none) b_spans_set
theorem p_spans_set:PureFn P 136 F_spans_set:=pureF_ok noTable fn_spans_set
def b_sets_Size_l0:ACode:=(.seq (.region [Co 9 (.bin .lss (.t 8) (.t 7))]) (.seq (.cond (.t 9) (.skip) (.exit 0)) (.seq (.block 1 (.seq (.region [Co 10 (.iaddr 2 (.t 6) (.t 8)),Co 11 (.load true 2 (.t 10)),Co 5 (.alloc [(.int .i64 0),(.int .i64 0)]),Ce (.store 2 (.t 5) (.t 11))]) (.region [Cv 12 3,Co 13 (.faddr 1 (.t 5)),Co 14 (.load false 1 (.t 13)),Co 15 (.faddr 0 (.t 5)),Co 16 (.load false 1 (.t 15)),Co 17 (.bin .sub (.t 14) (.t 16)),Co 18 (.bin .add (.t 17) (.c (.int .i64 1))),Co 19 (.bin .add (.t 12) (.t 18)),Cv 3 19]))) (.region [Co 20 (.bin .add (.t 8) (.c (.int .i64 1))),Cv 8 20]))))
def b_sets_Size:AFn:=⟨1,[.tmp 2],(.seq (.region [Co 2 (.move (.c (.int .i64 0)))]) (.seq (.region [Co 3 (.move (.c (.int .i64 0)))]) (.seq (.seq (.region [Cv 6 0,Co 7 (.len 0 (.t 6)),Co 8 (.move (.c (.int .i64 0)))]) (.block 0 (.loop [3,6,7,8] b_sets_Size_l0))) (.seq (.region [Cv 21 3,Cv 2 21]) (.ret)))))⟩
theorem fn_sets_Size:FnOk P fo 161 b_sets_Size:=fM Go.Proofs.Tryz.func161 dN (by kernel_rfl) (by kernel_rfl)
def F_sets_Size:List PV→Option PV:=pureF (fun _=>none) b_sets_Size
theorem p_sets_Size:PureFn P 161 F_sets_Size:=pureF_ok noTable fn_sets_Size
def b_spans_Size:AFn:=⟨1,[.tmp 2],(.seq (.region [Co 2 (.move (.c (.int .i64 0)))]) (.seq (.region [Cv 3 0,Co 4 (.callP F_spans_set [(.t 3)]),Co 5 (.callP F_sets_Size [(.t 4)]),Cv 2 5]) (.ret)))⟩
theorem fn_spans_Size:FnOk P fo 134 b_spans_Size:=fM Go.Proofs.Tryz.func134 (dC p_spans_set (dC p_sets_Size dN)) (by kernel_rfl) (by kernel_rfl)
def F_spans_Size:List PV→Option PV:=pureF (fun _=>none) b_spans_Size
theorem p_spans_Size:PureFn P 134 F_spans_Size:=pureF_ok noTable fn_spans_Size
def b_sets_To_sets_Run_api_Range_l0:ACode:=(.seq (.region [Co 12 (.bin .lss (.t 11) (.t 10))]) (.seq (.cond (.t 12) (.skip) (.exit 0)) (.seq (.block 1 (.seq (.region [Co 13 (.iaddr 2 (.t 9) (.t 11)),Co 14 (.load true 2 (.t 13)),Co 5 (.alloc [(.int .i64 0),(.int .i64 0)]),Ce (.store 2 (.t 5) (.t 14))]) (.region [Cv 15 3,Co 16 (.load true 2 (.t 5)),Co 17 (.bslice .lit 2 true 1 [(.int .i64 0),(.int .i64 0)] [(0,(.t 16))]),Co 18 (.append false .uq 2 true 16 (.t 15) (.t 17)),Cv 3 18]))) (.region [Co 19 (.bin .add (.t 11) (.c (.int .i64 1))),Cv 11 19]))))
def b_sets_To_sets_Run_api_Range:AFn:=⟨1,[.tmp 2],(.seq (.region [Co 2 (.move (.c .nils))]) (.seq (.region [Cv 6 0,Co 7 (.len 0 (.t 6)),Co 8 (.mkslice .uq 2 true [(.int .i64 0),(.int .i64 0)] 16 (.c (.int .i64 0)) (.t 7)),Cv 3 8]) (.seq (.seq (.region [Cv 9 0,Co 10 (.len 0 (.t 9)),Co 11 (.move (.c (.int .i64 0)))]) (.block 0 (.loop [3,9,10,11] b_sets_To_sets_Run_api_Range_l0))) (.seq (.region [Cv 20 3,Cv 2 20]) (.ret)))))⟩
theorem fn_sets_To_sets_Run_api_Range:FnOk P fo 171 b_sets_To_sets_Run_api_Range:=fM Go.Proofs.Tryz.func171 dN (by kernel_rfl) (by kernel_rfl)
def F_sets_To_sets_Run_api_Range:List PV→Option PV:=pureF (fun _=>none) b_sets_To_sets_Run_api_Range
theorem p_sets_To_sets_Run_api_Range:PureFn P 171 F_sets_To_sets_Run_api_Range:=pureF_ok noTable fn_sets_To_sets_Run_api_Range
def b_sets_Meet_l0:ACode:=(.seq (.seq (.region [Cv 8 0,Co 9 (.len 0 (.t 8)),Co 10 (.bin .gtr (.t 9) (.c (.int .i64 0))),Cv 11 10,Cg 12 11 true (.move (.t 1)),Cg 13 11 true (.len 0 (.t 12)),Cg 14 11 true (.bin .gtr (.t 13) (.c (.int .i64 0))),Co 15 (.pick (.t 11) (.t 14) (.c (.bool false)))]) (.cond (.t 15) (.skip) (.exit 0))) (.block 1 (.seq (.region [Cv 16 0,Cp 17 (.iaddr 2 (.t 16) (.c (.int .i64 0))),Co 18 (.faddr 0 (.t 17)),Co 19 (.load false 1 (.t 18)),Cv 20 1,Cp 21 (.iaddr 2 (.t 20) (.c (.int .i64 0))),Co 22 (.faddr 0 (.t 21)),Co 23 (.load false 1 (.t 22)),Co 24 (.mx [(.t 19),(.t 23)]),Cv 25 0,Cp 26 (.iaddr 2 (.t 25) (.c (.int .i64 0))),Co 27 (.faddr 1 (.t 26)),Co 28 (.load false 1 (.t 27)),Cv 29 1,Cp 30 (.iaddr 2 (.t 29) (.c (.int .i64 0))),Co 31 (.faddr 1 (.t 30)),Co 32 (.load false 1 (.t 31)),Co 33 (.mn [(.t 28),(.t 32)]),Cv 6 24,Cv 7 33]) (.seq (.seq (.region [Cv 34 6,Cv 35 7,Co 36 (.bin .leq (.t 34) (.t 35))]) (.cond (.t 36) (.region [Cv 37 5,Cv 38 6,Cv 39 7,Co 40 (.build [(.int .i64 0),(.int .i64 0)] [(0,1,(.t 38)),(1,1,(.t 39))]),Co 41 (.bslice .lit 2 true 1 [(.int .i64 0),(.int .i64 0)] [(0,(.t 40))]),Co 42 (.append false .uq 2 true 16 (.t 37) (.t 41)),Cv 5 42]) (.skip))) (.seq (.region [Cv 43 0,Cp 44 (.iaddr 2 (.t 43) (.c (.int .i64 0))),Co 45 (.faddr 1 (.t 44)),Co 46 (.load false 1 (.t 45)),Cv 47 1,Cp 48 (.iaddr 2 (.t 47) (.c (.int .i64 0))),Co 49 (.faddr 1 (.t 48)),Co 50 (.load false 1 (.t 49)),Co 51 (.bin .lss (.t 46) (.t 50))]) (.cond (.t 51) (.region [Cv 52 0,Co 53 (.slice 2 (.t 52) (some (.c (.int .i64 1))) none),Cv 0 53]) (.region [Cv 54 1,Co 55 (.slice 2 (.t 54) (some (.c (.int .i64 1))) none),Cv 1 55])))))))
def b_sets_Meet:AFn:=⟨2,[.tmp 4],(.seq (.region [Co 4 (.move (.c .nils))]) (.seq (.region [Co 5 (.move (.c .nils))]) (.ghost (.mkuq 5 2) (.seq (.block 0 (.loop [0,1,5] b_sets_Meet_l0)) (.seq (.region [Cv 56 5,Cv 4 56]) (.ret))))))⟩
theorem fn_sets_Meet:FnOk P fo 154 b_sets_Meet:=fM Go.Proofs.Tryz.func154 dN (by kernel_rfl) (by kernel_rfl)
def F_sets_Meet:List PV→Option PV:=pureF (fun _=>none) b_sets_Meet
theorem p_sets_Meet:PureFn P 154 F_sets_Meet:=pureF_ok noTable fn_sets_Meet
def b_sets_To_api_Range_sets_Run_l0:ACode:=(.seq (.region [Co 12 (.bin .lss (.t 11) (.t 10))]) (.seq (.cond (.t 12) (.skip) (.exit 0)) (.seq (.block 1 (.seq (.region [Co 13 (.iaddr 2 (.t 9) (.t 11)),Co 14 (.load true 2 (.t 13)),Co 5 (.alloc [(.int .i64 0),(.int .i64 0)]),Ce (.store 2 (.t 5) (.t 14))]) (.region [Cv 15 3,Co 16 (.load true 2 (.t 5)),Co 17 (.bslice .lit 2 true 1 [(.int .i64 0),(.int .i64 0)] [(0,(.t 16))]),Co 18 (.append false .uq 2 true 16 (.t 15) (.t 17)),Cv 3 18]))) (.region [Co 19 (.bin .add (.t 11) (.c (.int .i64 1))),Cv 11 19]))))
def b_sets_To_api_Range_sets_Run:AFn:=⟨1,[.tmp 2],(.seq (.region [Co 2 (.move (.c .nils))]) (.seq (.region [Cv 6 0,Co 7 (.len 0 (.t 6)),Co 8 (.mkslice .uq 2 true [(.int .i64 0),(.int .i64 0)] 16 (.c (.int .i64 0)) (.t 7)),Cv 3 8]) (.seq (.seq (.region [Cv 9 0,Co 10 (.len 0 (.t 9)),Co 11 (.move (.c (.int .i64 0)))]) (.block 0 (.loop [3,9,10,11] b_sets_To_api_Range_sets_Run_l0))) (.seq (.region [Cv 20 3,Cv 2 20]) (.ret)))))⟩
theorem fn_sets_To_api_Range_sets_Run:FnOk P fo 170 b_sets_To_api_Range_sets_Run:=fM Go.Proofs.Tryz.func170 dN (by kernel_rfl) (by kernel_rfl)
def F_sets_To_api_Range_sets_Run:List PV→Option PV:=pureF (fun _=>none) b_sets_To_api_Range_sets_Run
theorem p_sets_To_api_Range_sets_Run:PureFn P 170 F_sets_To_api_Range_sets_Run:=pureF_ok noTable fn_sets_To_api_Range_sets_Run
def b_sets_To_api_Span_sets_Run_l0:ACode:=(.seq (.region [Co 12 (.bin .lss (.t 11) (.t 10))]) (.seq (.cond (.t 12) (.skip) (.exit 0)) (.seq (.block 1 (.seq (.region [Co 13 (.iaddr 2 (.t 9) (.t 11)),Co 14 (.load true 2 (.t 13)),Co 5 (.alloc [(.int .i64 0),(.int .i64 0)]),Ce (.store 2 (.t 5) (.t 14))]) (.region [Cv 15 3,Co 16 (.load true 2 (.t 5)),Co 17 (.bslice .lit 2 true 1 [(.int .i64 0),(.int .i64 0)] [(0,(.t 16))]),Co 18 (.append false .uq 2 true 16 (.t 15) (.t 17)),Cv 3 18]))) (.region [Co 19 (.bin .add (.t 11) (.c (.int .i64 1))),Cv 11 19]))))
def b_sets_To_api_Span_sets_Run:AFn:=⟨1,[.tmp 2],(.seq (.region [Co 2 (.move (.c .nils))]) (.seq (.region [Cv 6 0,Co 7 (.len 0 (.t 6)),Co 8 (.mkslice .uq 2 true [(.int .i64 0),(.int .i64 0)] 16 (.c (.int .i64 0)) (.t 7)),Cv 3 8]) (.seq (.seq (.region [Cv 9 0,Co 10 (.len 0 (.t 9)),Co 11 (.move (.c (.int .i64 0)))]) (.block 0 (.loop [3,9,10,11] b_sets_To_api_Span_sets_Run_l0))) (.seq (.region [Cv 20 3,Cv 2 20]) (.ret)))))⟩
theorem fn_sets_To_api_Span_sets_Run:FnOk P fo 180 b_sets_To_api_Span_sets_Run:=fM Go.Proofs.Tryz.func180 dN (by kernel_rfl) (by kernel_rfl)
def F_sets_To_api_Span_sets_Run:List PV→Option PV:=pureF (fun _=>none) b_sets_To_api_Span_sets_Run
theorem p_sets_To_api_Span_sets_Run:PureFn P 180 F_sets_To_api_Span_sets_Run:=pureF_ok noTable fn_sets_To_api_Span_sets_Run
def b_spans_back:AFn:=⟨1,[.tmp 2],(.seq (.region [Co 2 (.move (.c .nils))]) (.seq (.region [Cv 3 0,Co 4 (.callP F_sets_To_api_Span_sets_Run [(.t 3)]),Cv 2 4]) (.ret)))⟩
theorem fn_spans_back:FnOk P fo 176 b_spans_back:=fM Go.Proofs.Tryz.func176 (dC p_sets_To_api_Span_sets_Run dN) (by kernel_rfl) (by kernel_rfl)
def F_spans_back:List PV→Option PV:=pureF (fun _=>none) b_spans_back
theorem p_spans_back:PureFn P 176 F_spans_back:=pureF_ok noTable fn_spans_back
def b_spans_Meet:AFn:=⟨2,[.tmp 4],(.seq (.region [Co 4 (.move (.c .nils))]) (.seq (.region [Cv 5 0,Co 6 (.callP F_spans_set [(.t 5)]),Cv 7 1,Co 8 (.callP F_spans_set [(.t 7)]),Co 9 (.callP F_sets_Meet [(.t 6),(.t 8)]),Co 10 (.callP F_spans_back [(.t 9)]),Cv 4 10]) (.ret)))⟩
theorem fn_spans_Meet:FnOk P fo 159 b_spans_Meet:=fM Go.Proofs.Tryz.func159 (dC p_spans_set (dC p_spans_set (dC p_sets_Meet (dC p_spans_back dN)))) (by kernel_rfl) (by kernel_rfl)
def F_spans_Meet:List PV→Option PV:=pureF (fun _=>none) b_spans_Meet
theorem p_spans_Meet:PureFn P 159 F_spans_Meet:=pureF_ok noTable fn_spans_Meet
def b_sets_Rank_l0:ACode:=(.seq (.region [Co 12 (.bin .lss (.t 11) (.t 10))]) (.seq (.cond (.t 12) (.skip) (.exit 0)) (.seq (.block 1 (.seq (.region [Co 13 (.iaddr 2 (.t 9) (.t 11)),Co 14 (.load true 2 (.t 13)),Co 8 (.alloc [(.int .i64 0),(.int .i64 0)]),Ce (.store 2 (.t 8) (.t 14))]) (.seq (.seq (.region [Cv 15 1,Co 16 (.faddr 0 (.t 8)),Co 17 (.load false 1 (.t 16)),Co 18 (.bin .lss (.t 15) (.t 17))]) (.cond (.t 18) (.exit 0) (.skip))) (.seq (.seq (.region [Cv 19 1,Co 20 (.faddr 1 (.t 8)),Co 21 (.load false 1 (.t 20)),Co 22 (.bin .leq (.t 19) (.t 21))]) (.cond (.t 22) (.seq (.region [Cv 23 6,Cv 24 1,Co 25 (.bin .add (.t 23) (.t 24)),Co 26 (.faddr 0 (.t 8)),Co 27 (.load false 1 (.t 26)),Co 28 (.bin .sub (.t 25) (.t 27)),Cv 4 28,Co 5 (.move (.c (.bool true)))]) (.ret)) (.skip))) (.region [Cv 29 6,Co 30 (.faddr 1 (.t 8)),Co 31 (.load false 1 (.t 30)),Co 32 (.faddr 0 (.t 8)),Co 33 (.load false 1 (.t 32)),Co 34 (.bin .sub (.t 31) (.t 33)),Co 35 (.bin .add (.t 34) (.c (.int .i64 1))),Co 36 (.bin .add (.t 29) (.t 35)),Cv 6 36]))))) (.region [Co 37 (.bin .add (.t 11) (.c (.int .i64 1))),Cv 11 37]))))
def b_sets_Rank:AFn:=⟨2,[.tmp 4,.tmp 5],(.seq (.region [Co 4 (.move (.c (.int .i64 0))),Co 5 (.move (.c (.bool false)))]) (.seq (.region [Co 6 (.move (.c (.int .i64 0)))]) (.seq (.seq (.region [Cv 9 0,Co 10 (.len 0 (.t 9)),Co 11 (.move (.c (.int .i64 0)))]) (.block 0 (.loop [1,6,9,10,11] b_sets_Rank_l0))) (.seq (.region [Co 4 (.move (.c (.int .i64 0))),Co 5 (.move (.c (.bool false)))]) (.ret)))))⟩
theorem fn_sets_Rank:FnOk P fo 179 b_sets_Rank:=fM Go.Proofs.Tryz.func179 dN (by kernel_rfl) (by kernel_rfl)
def F_sets_Rank:List PV→Option PV:=pureF (fun _=>none) b_sets_Rank
theorem p_sets_Rank:PureFn P 179 F_sets_Rank:=pureF_ok noTable fn_sets_Rank
def b_spans_Rank:AFn:=⟨2,[.tmp 4,.tmp 5],(.seq (.region [Co 4 (.move (.c (.int .i64 0))),Co 5 (.move (.c (.bool false)))]) (.seq (.region [Cv 6 0,Co 7 (.callP F_spans_set [(.t 6)]),Cv 8 1,Co 9 (.callP F_sets_Rank [(.t 7),(.t 8)]),Co 10 (.ext 0 (.t 9)),Co 11 (.ext 1 (.t 9)),Cv 4 10,Cv 5 11]) (.ret)))⟩
theorem fn_spans_Rank:FnOk P fo 175 b_spans_Rank:=fM Go.Proofs.Tryz.func175 (dC p_spans_set (dC p_sets_Rank dN)) (by kernel_rfl) (by kernel_rfl)
def F_spans_Rank:List PV→Option PV:=pureF (fun _=>none) b_spans_Rank
theorem p_spans_Rank:PureFn P 175 F_spans_Rank:=pureF_ok noTable fn_spans_Rank
def b_spans_Has:AFn:=⟨2,[.tmp 4],(.seq (.region [Co 4 (.move (.c (.bool false)))]) (.seq (.region [Cv 8 0,Cv 9 1,Co 10 (.callP F_spans_Rank [(.t 8),(.t 9)]),Cv 7 10,Co 11 (.ext 0 (.t 7)),Co 12 (.ext 1 (.t 7)),Cv 5 11,Cv 6 12]) (.seq (.region [Cv 13 6,Cv 4 13]) (.ret))))⟩
theorem fn_spans_Has:FnOk P fo 158 b_spans_Has:=fM Go.Proofs.Tryz.func158 (dC p_spans_Rank dN) (by kernel_rfl) (by kernel_rfl)
def F_spans_Has:List PV→Option PV:=pureF (fun _=>none) b_spans_Has
theorem p_spans_Has:PureFn P 158 F_spans_Has:=pureF_ok noTable fn_spans_Has
def b_clash_Prefix_1:AFn:=⟨3,[.tmp 5],(.seq (.region [Co 5 (.move (.c (.bool false)))]) (.seq (.region [Co 6 (.faddr 0 (.t 2)),Co 7 (.load false 1 (.t 6)),Cv 8 0,Cp 9 (.iaddr 2 (.t 7) (.t 8)),Co 10 (.faddr 0 (.t 9)),Co 11 (.load false 1 (.t 10)),Cp 12 (.len 0 (.t 11)),Co 13 (.faddr 0 (.t 2)),Co 14 (.load false 1 (.t 13)),Cv 15 1,Cp 16 (.iaddr 2 (.t 14) (.t 15)),Co 17 (.faddr 0 (.t 16)),Co 18 (.load false 1 (.t 17)),Cp 19 (.len 0 (.t 18)),Co 20 (.bin .lss (.t 12) (.t 19)),Cv 5 20]) (.ret)))⟩
theorem fn_clash_Prefix_1:FnOk P fo 128 b_clash_Prefix_1:=fM Go.Proofs.Tryz.func128 dN (by kernel_rfl) (by kernel_rfl)
def b_slices_IndexFunc_api_Span_api_Span_l0:ACode:=(.seq (.region [Co 9 (.bin .lss (.t 8) (.t 7))]) (.seq (.cond (.t 9) (.skip) (.exit 0)) (.seq (.block 1 (.seq (.region [Cv 10 8,Cv 5 10]) (.seq (.region [Cv 11 1,Cv 12 0,Cv 13 5,Co 14 (.iaddr 1 (.t 12) (.t 13)),Co 15 (.load false 1 (.t 14)),Co 16 (.callV (.t 11) [(.t 15)])]) (.cond (.t 16) (.seq (.region [Cv 17 5,Cv 4 17]) (.ret)) (.skip))))) (.region [Co 18 (.bin .add (.t 8) (.c (.int .i64 1))),Cv 8 18]))))
def b_slices_IndexFunc_api_Span_api_Span:AFn:=⟨2,[.tmp 4],(.seq (.region [Co 4 (.move (.c (.int .i64 0)))]) (.seq (.seq (.region [Cv 6 0,Co 7 (.len 0 (.t 6)),Co 8 (.move (.c (.int .i64 0)))]) (.block 0 (.loop [0,1,7,8] b_slices_IndexFunc_api_Span_api_Span_l0))) (.seq (.region [Co 4 (.move (.c (.int .i64 (-1))))]) (.ret))))⟩
theorem fn_slices_IndexFunc_api_Span_api_Span:FnOk P fo 151 b_slices_IndexFunc_api_Span_api_Span:=fM Go.Proofs.Tryz.func151 dN (by kernel_rfl) (by kernel_rfl)
def b_slices_ContainsFunc_api_Span_api_Span:AFn:=⟨2,[.tmp 4],(.seq (.region [Co 4 (.move (.c (.bool false)))]) (.seq (.region [Cv 5 0,Cv 6 1,Co 7 (.callI 5 [(.t 5),(.t 6)]),Co 8 (.bin .geq (.t 7) (.c (.int .i64 0))),Cv 4 8]) (.ret)))⟩
theorem fn_slices_ContainsFunc_api_Span_api_Span:FnOk P fo 122 b_slices_ContainsFunc_api_Span_api_Span:=fM Go.Proofs.Tryz.func122 dN (by kernel_rfl) (by kernel_rfl)
def b_scheme_none:AFn:=⟨1,[.tmp 2],(.seq (.region [Co 2 (.move (.c (.bool false)))]) (.seq (.region [Cv 3 0,Co 4 (.len 0 (.t 3)),Co 5 (.bin .eql (.t 4) (.c (.int .i64 0))),Cv 6 5,Cg 7 6 false (.move (.t 0)),Cg 8 6 false (.callP F_spans_Valid [(.t 7)]),Cg 9 6 false (.un .not (.t 8)),Co 10 (.pick (.t 6) (.c (.bool true)) (.t 9)),Cv 2 10]) (.ret)))⟩
theorem fn_scheme_none:FnOk P fo 123 b_scheme_none:=fM Go.Proofs.Tryz.func123 (dC p_spans_Valid dN) (by kernel_rfl) (by kernel_rfl)
def b_scheme_last_l0:ACode:=(.seq (.region [Co 10 (.bin .lss (.t 9) (.t 8))]) (.seq (.cond (.t 10) (.skip) (.exit 0)) (.seq (.block 1 (.seq (.region [Co 11 (.iaddr 1 (.t 7) (.t 9)),Co 12 (.load false 1 (.t 11)),Cv 5 12]) (.region [Cv 13 3,Cv 14 5,Co 15 (.callP F_spans_Size [(.t 14)]),Co 16 (.bin .mul (.t 13) (.t 15)),Co 17 (.mn [(.t 16),(.c (.int .i64 1073741825))]),Cv 3 17]))) (.region [Co 18 (.bin .add (.t 9) (.c (.int .i64 1))),Cv 9 18]))))
def b_scheme_last:AFn:=⟨1,[.tmp 2],(.seq (.region [Co 1 (.boxR 2 (.t 0)),Co 2 (.move (.c (.int .i64 0)))]) (.seq (.region [Co 3 (.move (.c (.int .i64 1)))]) (.seq (.seq (.region [Cp 6 (.faddr 0 (.t 1)),Cp 7 (.load false 1 (.t 6)),Co 8 (.len 0 (.t 7)),Co 9 (.move (.c (.int .i64 0)))]) (.block 0 (.loop [1,3,7,8,9] b_scheme_last_l0))) (.seq (.region [Cp 19 (.faddr 1 (.t 1)),Cp 20 (.load false 1 (.t 19)),Cv 21 3,Co 22 (.bin .add (.t 20) (.t 21)),Co 23 (.bin .sub (.t 22) (.c (.int .i64 1))),Cv 2 23]) (.ret)))))⟩
theorem fn_scheme_last:FnOk P fo 124 b_scheme_last:=fM Go.Proofs.Tryz.func124 (dC p_spans_Size dN) (by kernel_rfl) (by kernel_rfl)
def F_scheme_last:List PV→Option PV:=pureF (fun _=>none) b_scheme_last
theorem p_scheme_last:PureFn P 124 F_scheme_last:=pureF_ok noTable fn_scheme_last
def b_scalars_set:AFn:=⟨1,[.tmp 2],(.seq (.region [Co 2 (.move (.c .nils))]) (.seq (.region [Cv 4 0,Co 5 (.callP F_sets_To_sets_Run_api_Range [(.t 4)]),Cv 3 5]) (.seq (.seq (.region [Cv 6 3,Co 7 (.callP F_sets_Valid [(.t 6),(.c (.int .i64 1073741823))]),Co 8 (.un .not (.t 7))]) (.cond (.t 8) (.seq (.region [Co 2 (.move (.c .nils))]) (.ret)) (.skip))) (.seq (.region [Cv 9 3,Cv 2 9]) (.ret)))))⟩
theorem fn_scalars_set:FnOk P fo 155 b_scalars_set:=fM Go.Proofs.Tryz.func155 (dC p_sets_To_sets_Run_api_Range (dC p_sets_Valid dN)) (by kernel_rfl) (by kernel_rfl)
def F_scalars_set:List PV→Option PV:=pureF (fun _=>none) b_scalars_set
theorem p_scalars_set:PureFn P 155 F_scalars_set:=pureF_ok noTable fn_scalars_set
def b_scalars_back:AFn:=⟨1,[.tmp 2],(.seq (.region [Co 2 (.move (.c .nils))]) (.seq (.region [Cv 3 0,Co 4 (.callP F_sets_To_api_Range_sets_Run [(.t 3)]),Cv 2 4]) (.ret)))⟩
theorem fn_scalars_back:FnOk P fo 153 b_scalars_back:=fM Go.Proofs.Tryz.func153 (dC p_sets_To_api_Range_sets_Run dN) (by kernel_rfl) (by kernel_rfl)
def F_scalars_back:List PV→Option PV:=pureF (fun _=>none) b_scalars_back
theorem p_scalars_back:PureFn P 153 F_scalars_back:=pureF_ok noTable fn_scalars_back
def b_scalars_Meet:AFn:=⟨2,[.tmp 4],(.seq (.region [Co 4 (.move (.c .nils))]) (.seq (.region [Cv 5 0,Co 6 (.callP F_scalars_set [(.t 5)]),Cv 7 1,Co 8 (.callP F_scalars_set [(.t 7)]),Co 9 (.callP F_sets_Meet [(.t 6),(.t 8)]),Co 10 (.callP F_scalars_back [(.t 9)]),Cv 4 10]) (.ret)))⟩
theorem fn_scalars_Meet:FnOk P fo 125 b_scalars_Meet:=fM Go.Proofs.Tryz.func125 (dC p_scalars_set (dC p_scalars_set (dC p_sets_Meet (dC p_scalars_back dN)))) (by kernel_rfl) (by kernel_rfl)
def F_scalars_Meet:List PV→Option PV:=pureF (fun _=>none) b_scalars_Meet
theorem p_scalars_Meet:PureFn P 125 F_scalars_Meet:=pureF_ok noTable fn_scalars_Meet
end Go.AM.B1
set_option linter.unusedSimpArgs false
namespace Go.AM.B1
open Go.AM
def IsL (sz:Nat) (v:PV) (es:List PV):Prop:=(v= .nils∧es=[])∨v= .lit sz es
theorem IsL.len {sz:Nat} {v:PV} {es:List PV} (h:IsL sz v es) (H:List AObj):lenA H 0 (.pv v)=some es.length:=by
 rcases h with⟨rfl,rfl⟩ | rfl <;> rfl
theorem IsL.lit {sz:Nat} {v:PV} {es:List PV} (h:IsL sz v es) {i:Nat} (hi:i < es.length):v= .lit sz es:=by
 rcases h with⟨rfl,rfl⟩ | rfl
 ·simp at hi
 ·rfl
abbrev i64 (n:Int):PV:= .int .i64 n
abbrev pr (p:Int×Int):PV:= .agg [i64 p.1,i64 p.2]
abbrev prs (l:List (Int×Int)):List PV:=l.map pr
theorem deep_eq:deep=5+1:=rfl
theorem beq_ne {a b:Int} (h:a≠b):(a==b)=false:=by simp[h]
theorem dec_t {p:Prop} [Decidable p] (h:p):decide p=true:=by simp[h]
theorem dec_f {p:Prop} [Decidable p] (h:¬p):decide p=false:=by simp[h]
theorem prs_get {l:List (Int×Int)} {i:Nat} (hi:i < l.length):(prs l)[i]? =some (pr l[i]):=by simp[prs,hi]
theorem stepWrap {i n:Nat} (hi:i < n) (hw:n≤maxLen):IntKind.i64.wrap ((i:Int)+1)=((i+1:Nat):Int):=wrap_int (by unfold maxLen at hw;omega)
inductive retIs (k:Nat) (v:AV):Option (Ex×St)→Prop
 |mk (s:St):s.env.get k=v→retIs k v (some (.ret,s))
theorem retIs_ret {k:Nat} {v:AV} {s:St}:retIs k v (some (.ret,s))=(s.env.get k=v):=
 propext ⟨fun h=>by cases h with | mk _ h=>exact h,fun h=> .mk s h⟩
theorem retIs_spec {k:Nat} {v:AV} {r:Option (Ex×St)} (h:retIs k v r):∃ t,r=some (.ret,t)∧t.env.get k=v:=by
 cases h with | mk s h=>exact⟨s,rfl,h⟩
inductive exitIs (k:Nat):Option (Ex×St)→Prop
 |mk (e:Tr) (H:List AObj):exitIs k (some (.exit k,⟨e,H⟩))
theorem exitIs_exit {k i:Nat} {e:Tr} {H:List AObj}:exitIs k (some (.exit i,⟨e,H⟩))=(i=k):=
 propext ⟨fun h=>by cases h;rfl,fun h=>by subst h;exact .mk e H⟩
theorem exitIs_spec {k:Nat} {r:Option (Ex×St)} (h:exitIs k r):∃ e H,r=some (.exit k,⟨e,H⟩):=by
 cases h with | mk e H=>exact⟨e,H,rfl⟩
inductive retIs2 (k:Nat) (v:AV) (j:Nat) (u:AV):Option (Ex×St)→Prop
 |mk (s:St):s.env.get k=v→s.env.get j=u→retIs2 k v j u (some (.ret,s))
theorem retIs2_ret {k j:Nat} {v u:AV} {s:St}:retIs2 k v j u (some (.ret,s))=(s.env.get k=v∧s.env.get j=u):=
 propext ⟨fun h=>by cases h with | mk _ h h'=>exact⟨h,h'⟩,fun h=> .mk s h.1 h.2⟩
theorem retIs2_spec {k j:Nat} {v u:AV} {r:Option (Ex×St)} (h:retIs2 k v j u r):∃ t,r=some (.ret,t)∧t.env.get k=v∧t.env.get j=u:=by
 cases h with | mk s h h'=>exact⟨s,rfl,h,h'⟩
section To
variable (v:PV) (l:List (Int×Int)) (hv:IsL 2 v (prs l)) (hw:l.length * 16≤140737488355328)
abbrev envTo (v:PV) (len i:Int) (o:AV):Tr:=((((Tr.lf.set 11 (.pv (i64 i))).set 10 (.pv (i64 len))).set 9 (.pv v)).set 3 o)
include hv hw
theorem to_span_round (i:Nat) (hi:i < l.length):
 roundL (callL (fun _=>none) 8) [3,9,10,11] b_sets_To_sets_Run_api_Span_l0 1 ⟨envTo v l.length i (.uq 0 false 2 (prs (l.take i))),[.tok 2 i false]⟩=
  some (.norm,⟨envTo v l.length (i+1:Nat) (.uq 0 false 2 (prs (l.take (i+1)))),[.tok 2 (i+1) false]⟩):=by
 have hv:=hv.lit (i:=i) (by simpa using hi)
 subst hv
 have e1:decide ((i:Int) < (l.length:Int))=true:=dec_t (by omega)
 have hq:idxOk (i:Int) (prs l).length:=by unfold idxOk;simp;omega
 have t1:((i:Int)).toNat=i:=by simp
 have t2:=stepWrap hi (by unfold maxLen;omega)
 have lt:(prs (l.take i)).length=i:=by simp;omega
 have q1:roomOk (i+1) 16:=by unfold roomOk;omega
 have hs:prs (l.take (i+1))=prs (l.take i)++[pr l[i]]:=by rw[List.take_succ_eq_append_getElem hi];simp only[prs,List.map_append,List.map_cons,List.map_nil]
 rw[hs]
 have hg:=prs_get hi
 generalize prs (l.take i)=T at *
 subst lt
 generalize prs l=es at *
 simp (implicitDefEqProofs:=false) only[SP,SA,SQ,sevalprocAttr,-List.reduceReplicate,roundL,roundA,b_sets_To_sets_Run_api_Span_l0,e1,eq_true hq,t1,t2,hg,eq_true q1,iaddrA',partE,AV.pvu,AV.pvu1,clean,cutEnv,cutObj,cut_pv,AV.cut,deep_eq,envTo]
theorem to_span_run:F_sets_To_sets_Run_api_Span [v]=some (.lit 2 (prs l)):=by
 have ls:=hv.len
 simp only[prs,List.length_map] at ls
 have hl:loopA (roundA (evalC (callL (fun _=>none) 8) b_sets_To_sets_Run_api_Span_l0) (clean 1 [3,9,10,11])) rounds ⟨envTo v l.length 0 (.uq 0 false 2 []),[.tok 2 0 false]⟩=
  some (.exit 0,⟨(envTo v l.length l.length (.uq 0 false 2 (prs l))).set 12 (.pv (.bool false)),[.tok 2 l.length false]⟩):=by
  have key:=loopA_go (g:=roundL (callL (fun _=>none) 8) [3,9,10,11] b_sets_To_sets_Run_api_Span_l0 1)
   (fun i t=>t=⟨envTo v l.length i (.uq 0 false 2 (prs (l.take i))),[.tok 2 i false]⟩)
   (fun ex t=>ex= .exit 0∧t=⟨(envTo v l.length l.length (.uq 0 false 2 (prs l))).set 12 (.pv (.bool false)),[.tok 2 l.length false]⟩)
   rounds l.length 0 _ (by unfold rounds;omega) (by omega) rfl ?_ ?_
  ·obtain⟨ex,t,h,_,rfl,rfl⟩:=key;exact h
  ·rintro i hi t rfl
   exact .inl ⟨_,to_span_round v l hv hw i hi,rfl⟩
  ·rintro t rfl
   refine⟨.exit 0,_,?_,rfl,rfl,rfl⟩
   have e1:decide ((l.length:Int) < (l.length:Int))=false:=dec_f (by omega)
   rw[List.take_length]
   simp (implicitDefEqProofs:=false) only[SP,SA,SQ,sevalprocAttr,-List.reduceReplicate,roundL,roundA,b_sets_To_sets_Run_api_Span_l0,e1,envTo]
 have h1:decide ((0:Int)≤0)=true:=by decide
 have h2:(0:Int)≤(l.length:Int):=by omega
 have h3:roomOk ((l.length:Int)).toNat 16:=by unfold roomOk;simp;omega
 simp (implicitDefEqProofs:=false) only[F_sets_To_sets_Run_api_Span,SP,SA,SQ,sevalprocAttr,-List.reduceReplicate,b_sets_To_sets_Run_api_Span,ls,C_loop,clean,cutEnv,cutObj,cut_pv,AV.cut,deep_eq,Int.le_refl,eq_true h2,eq_true h3,Int.toNat_zero]
 simp only[envTo] at hl
 rw[hl]
 simp (implicitDefEqProofs:=false) only[SP,SA,SQ,sevalprocAttr,-List.reduceReplicate]
end To
end Go.AM.B1
namespace Go.AM.B1
open Go.AM
def validR (top:Int):Int→List (Int×Int)→Bool
 |_,[]=>true
 |last,p::r=> !(decide (p.1 < 0)||decide (p.1 > p.2)||decide (p.2 > top)||decide (p.1 - 1≤last))&&validR top p.2 r
abbrev envV (v:PV) (top len i last:Int):Tr:=(((((Tr.lf.set 10 (.pv (i64 i))).set 9 (.pv (i64 len))).set 8 (.pv v)).set 5 (.pv (i64 last))).set 1 (.pv (i64 top)))
section
variable (v:PV) (l:List (Int×Int)) (hv:IsL 2 v (prs l)) (hw:l.length≤maxLen) (top:Int) (ht:top≤9223372036854775807)
theorem valid_good (i:Nat) (hi:i < l.length) (hv:IsL 2 v (prs l)) (hw:l.length≤maxLen) (last:Int) (ht:top≤9223372036854775807) (c1:¬l[i].1 < 0) (c2:¬l[i].1 > l[i].2) (c3:¬l[i].2 > top) (c4:¬l[i].1 - 1≤last):
 roundL (callL (fun _=>none) 8) [1,5,8,9,10] b_sets_Valid_l0 0 ⟨envV v top l.length i last,[]⟩=some (.norm,⟨envV v top l.length (i+1:Nat) l[i].2,[]⟩):=by
 have hv:=hv.lit (i:=i) (by simpa using hi)
 subst hv
 have e1:decide ((i:Int) < (l.length:Int))=true:=dec_t (by omega)
 have hq:idxOk (i:Int) (prs l).length:=by unfold idxOk;simp;omega
 have t1:((i:Int)).toNat=i:=by simp
 have t2:=stepWrap hi hw
 have t3:IntKind.i64.wrap (l[i].1 - 1)=l[i].1 - 1:=wrap_int (by omega)
 have hg:=prs_get hi
 have d1:=dec_f c1;have d2:=dec_f c2;have d3:=dec_f c3;have d4:=dec_f c4
 generalize prs l=es at *
 generalize l[i]=p at *
 simp (implicitDefEqProofs:=false) only[SP,SA,SQ,sevalprocAttr,-List.reduceReplicate,roundL,roundA,b_sets_Valid_l0,e1,eq_true hq,t1,t2,t3,hg,d1,d2,d3,d4,iaddrA',clean,cutEnv,cutObj,cut_pv,AV.cut,deep_eq,envV]
theorem valid_bad (i:Nat) (hi:i < l.length) (hv:IsL 2 v (prs l)) (hw:l.length≤maxLen) (last:Int) (ht:top≤9223372036854775807) (hc:l[i].1 < 0∨l[i].1 > l[i].2∨l[i].2 > top∨l[i].1 - 1≤last):
 retIs 4 (.pv (.bool false)) (roundL (callL (fun _=>none) 8) [1,5,8,9,10] b_sets_Valid_l0 0 ⟨envV v top l.length i last,[]⟩):=by
 have hv:=hv.lit (i:=i) (by simpa using hi)
 subst hv
 have e1:decide ((i:Int) < (l.length:Int))=true:=dec_t (by omega)
 have hq:idxOk (i:Int) (prs l).length:=by unfold idxOk;simp;omega
 have t1:((i:Int)).toNat=i:=by simp
 have hg:=prs_get hi
 generalize prs l=es at *
 generalize l[i]=p at *
 by_cases c1:p.1 < 0
 ·have d1:=dec_t c1
  simp (implicitDefEqProofs:=false) only[SP,SA,SQ,sevalprocAttr,-List.reduceReplicate,roundL,roundA,b_sets_Valid_l0,e1,eq_true hq,t1,hg,d1,iaddrA',envV,retIs_ret]
 have d1:=dec_f c1
 by_cases c2:p.1 > p.2
 ·have d2:=dec_t c2
  simp (implicitDefEqProofs:=false) only[SP,SA,SQ,sevalprocAttr,-List.reduceReplicate,roundL,roundA,b_sets_Valid_l0,e1,eq_true hq,t1,hg,d1,d2,iaddrA',envV,retIs_ret]
 have d2:=dec_f c2
 by_cases c3:p.2 > top
 ·have d3:=dec_t c3
  simp (implicitDefEqProofs:=false) only[SP,SA,SQ,sevalprocAttr,-List.reduceReplicate,roundL,roundA,b_sets_Valid_l0,e1,eq_true hq,t1,hg,d1,d2,d3,iaddrA',envV,retIs_ret]
 have d3:=dec_f c3
 have c4:p.1 - 1≤last:=by rcases hc with h | h | h | h <;> first | exact h | omega
 have t3:IntKind.i64.wrap (p.1 - 1)=p.1 - 1:=wrap_int (by omega)
 have d4:=dec_t c4
 simp (implicitDefEqProofs:=false) only[SP,SA,SQ,sevalprocAttr,-List.reduceReplicate,roundL,roundA,b_sets_Valid_l0,e1,eq_true hq,t1,t3,hg,d1,d2,d3,d4,iaddrA',envV,retIs_ret]
include hv hw ht
theorem valid_run:F_sets_Valid [v,i64 top]=some (.bool (validR top (-2) l)):=by
 have ls:=hv.len
 simp only[prs,List.length_map] at ls
 have key:=loopA_go (g:=roundL (callL (fun _=>none) 8) [1,5,8,9,10] b_sets_Valid_l0 0)
  (fun i t=>∃ last,t=⟨envV v top l.length i last,[]⟩∧validR top (-2) l=validR top last (l.drop i))
  (fun ex t=>(ex= .exit 0∧validR top (-2) l=true∧∃ last,t=⟨(envV v top l.length l.length last).set 11 (.pv (.bool false)),[]⟩)∨(ex= .ret∧validR top (-2) l=false∧t.env.get 4= .pv (.bool false)))
  rounds l.length 0 ⟨envV v top l.length (0:Nat) (-2),[]⟩ (by unfold rounds;unfold maxLen at hw;omega) (by omega) ⟨-2,rfl,rfl⟩ ?_ ?_
 ·have hl:loopA (roundA (evalC (callL (fun _=>none) 8) b_sets_Valid_l0) (clean 0 [1,5,8,9,10])) rounds ⟨envV v top l.length 0 (-2),[]⟩=loopA (roundL (callL (fun _=>none) 8) [1,5,8,9,10] b_sets_Valid_l0 0) rounds ⟨envV v top l.length (0:Nat) (-2),[]⟩:=rfl
  obtain⟨ex,t,h,_,hq⟩:=key
  rw[h] at hl
  simp only[envV] at hl
  rcases hq with⟨rfl,hval,last,rfl⟩ | ⟨rfl,hval,hg⟩
  ·rw[hval]
   simp (implicitDefEqProofs:=false) only[F_sets_Valid,SP,SA,SQ,sevalprocAttr,-List.reduceReplicate,b_sets_Valid,ls,C_loop,clean,cutEnv,cutObj,cut_pv,AV.cut,deep_eq,hl,envV]
  ·rw[hval]
   simp (implicitDefEqProofs:=false) only[F_sets_Valid,SP,SA,SQ,sevalprocAttr,-List.reduceReplicate,b_sets_Valid,ls,C_loop,clean,cutEnv,cutObj,cut_pv,AV.cut,deep_eq,hl,envV,hg]
 ·rintro i hi t ⟨last,rfl,hval⟩
  have hd:l.drop i=l[i]::l.drop (i+1):=List.drop_eq_getElem_cons hi
  rw[hd,validR] at hval
  by_cases hc:l[i].1 < 0∨l[i].1 > l[i].2∨l[i].2 > top∨l[i].1 - 1≤last
  ·obtain⟨t,h1,h2⟩:=retIs_spec (valid_bad v l top i hi hv hw last ht hc)
   refine .inr ⟨.ret,t,h1,rfl,.inr ⟨rfl,?_,h2⟩⟩
   rw[hval]
   rcases hc with h | h | h | h <;> simp[h]
  ·have hc':¬l[i].1 < 0∧¬l[i].1 > l[i].2∧¬l[i].2 > top∧¬l[i].1 - 1≤last:=by
    refine⟨fun h=>hc (.inl h),fun h=>hc (.inr (.inl h)),fun h=>hc (.inr (.inr (.inl h))),fun h=>hc (.inr (.inr (.inr h)))⟩
   refine .inl ⟨_,valid_good v l top i hi hv hw last ht hc'.1 hc'.2.1 hc'.2.2.1 hc'.2.2.2,l[i].2,rfl,?_⟩
   rw[hval,dec_f hc'.1,dec_f hc'.2.1,dec_f hc'.2.2.1,dec_f hc'.2.2.2]
   rfl
 ·rintro t ⟨last,rfl,hval⟩
  refine⟨.exit 0,_,?_,rfl,.inl ⟨rfl,?_,last,rfl⟩⟩
  ·have e1:decide ((l.length:Int) < (l.length:Int))=false:=dec_f (by omega)
   simp (implicitDefEqProofs:=false) only[SP,SA,SQ,sevalprocAttr,-List.reduceReplicate,roundL,roundA,b_sets_Valid_l0,e1,envV]
  ·rw[hval,List.drop_length];rfl
end
end Go.AM.B1
namespace Go.AM.B1
open Go.AM
def rankR (x:Int):Int→List (Int×Int)→Int×Bool
 |_,[]=>(0,false)
 |n,p::r=>if x < p.1 then (0,false) else if x≤p.2 then (n+x - p.1,true) else rankR x (n+(p.2 - p.1+1)) r
abbrev envR (v:PV) (x len i n:Int):Tr:=(((((Tr.lf.set 11 (.pv (i64 i))).set 10 (.pv (i64 len))).set 9 (.pv v)).set 6 (.pv (i64 n))).set 1 (.pv (i64 x)))
section
variable (v:PV) (l:List (Int×Int)) (hv:IsL 2 v (prs l)) (hw:l.length≤maxLen) (x n:Int)
theorem rank_low (i:Nat) (hi:i < l.length) (hv:IsL 2 v (prs l)) (c:x < l[i].1):
 exitIs 0 (roundL (callL (fun _=>none) 8) [1,6,9,10,11] b_sets_Rank_l0 0 ⟨envR v x l.length i n,[]⟩):=by
 have hv:=hv.lit (i:=i) (by simpa using hi)
 subst hv
 have e1:decide ((i:Int) < (l.length:Int))=true:=dec_t (by omega)
 have hq:idxOk (i:Int) (prs l).length:=by unfold idxOk;simp;omega
 have t1:((i:Int)).toNat=i:=by simp
 have hg:=prs_get hi
 have d1:=dec_t c
 generalize prs l=es at *
 generalize l[i]=p at *
 simp (implicitDefEqProofs:=false) only[SP,SA,SQ,sevalprocAttr,-List.reduceReplicate,roundL,roundA,b_sets_Rank_l0,e1,eq_true hq,t1,hg,d1,iaddrA',envR,exitIs_exit]
theorem rank_in (i:Nat) (hi:i < l.length) (hv:IsL 2 v (prs l)) (c:¬x < l[i].1) (c2:x≤l[i].2) (hb:0≤l[i].1∧l[i].2≤4611686018427387904∧0≤n∧n≤4611686018427387903):
 retIs2 4 (.pv (i64 (n+x - l[i].1))) 5 (.pv (.bool true)) (roundL (callL (fun _=>none) 8) [1,6,9,10,11] b_sets_Rank_l0 0 ⟨envR v x l.length i n,[]⟩):=by
 have hv:=hv.lit (i:=i) (by simpa using hi)
 subst hv
 have e1:decide ((i:Int) < (l.length:Int))=true:=dec_t (by omega)
 have hq:idxOk (i:Int) (prs l).length:=by unfold idxOk;simp;omega
 have t1:((i:Int)).toNat=i:=by simp
 have hg:=prs_get hi
 have d1:=dec_f c
 have d2:=dec_t c2
 have t3:IntKind.i64.wrap (n+x)=n+x:=wrap_int (by omega)
 have t4:IntKind.i64.wrap (n+x - l[i].1)=n+x - l[i].1:=wrap_int (by omega)
 generalize prs l=es at *
 generalize l[i]=p at *
 simp (implicitDefEqProofs:=false) only[SP,SA,SQ,sevalprocAttr,-List.reduceReplicate,roundL,roundA,b_sets_Rank_l0,e1,eq_true hq,t1,t3,t4,hg,d1,d2,iaddrA',envR,retIs2_ret]
theorem rank_on (i:Nat) (hi:i < l.length) (hv:IsL 2 v (prs l)) (hw:l.length≤maxLen) (c:¬x < l[i].1) (c2:¬x≤l[i].2) (hb:0≤l[i].1∧l[i].1≤l[i].2∧l[i].2≤4611686018427387902∧0≤n∧n≤l[i].1):
 roundL (callL (fun _=>none) 8) [1,6,9,10,11] b_sets_Rank_l0 0 ⟨envR v x l.length i n,[]⟩=some (.norm,⟨envR v x l.length (i+1:Nat) (n+(l[i].2 - l[i].1+1)),[]⟩):=by
 have hv:=hv.lit (i:=i) (by simpa using hi)
 subst hv
 have e1:decide ((i:Int) < (l.length:Int))=true:=dec_t (by omega)
 have hq:idxOk (i:Int) (prs l).length:=by unfold idxOk;simp;omega
 have t1:((i:Int)).toNat=i:=by simp
 have t2:=stepWrap hi hw
 have hg:=prs_get hi
 have d1:=dec_f c
 have d2:=dec_f c2
 have t3:IntKind.i64.wrap (l[i].2 - l[i].1)=l[i].2 - l[i].1:=wrap_int (by omega)
 have t4:IntKind.i64.wrap (l[i].2 - l[i].1+1)=l[i].2 - l[i].1+1:=wrap_int (by omega)
 have t5:IntKind.i64.wrap (n+(l[i].2 - l[i].1+1))=n+(l[i].2 - l[i].1+1):=wrap_int (by omega)
 generalize prs l=es at *
 generalize l[i]=p at *
 simp (implicitDefEqProofs:=false) only[SP,SA,SQ,sevalprocAttr,-List.reduceReplicate,roundL,roundA,b_sets_Rank_l0,e1,eq_true hq,t1,t2,t3,t4,t5,hg,d1,d2,iaddrA',clean,cutEnv,cutObj,cut_pv,AV.cut,deep_eq,envR]
theorem validR_cons {top last:Int} {p:Int×Int} {r:List (Int×Int)} (h:validR top last (p::r)=true):¬p.1 < 0∧¬p.1 > p.2∧¬p.2 > top∧¬p.1 - 1≤last∧validR top p.2 r=true:=by
 simp only[validR,Bool.and_eq_true,Bool.not_eq_true',Bool.or_eq_false_iff,decide_eq_false_iff_not] at h
 exact⟨h.1.1.1.1,h.1.1.1.2,h.1.1.2,h.1.2,h.2⟩
include hv hw
theorem sets_rank_run {top:Int} (ht:top≤4611686018427387900) (hval:validR top (-2) l=true):F_sets_Rank [v,i64 x]=some (.tup [i64 (rankR x 0 l).1,.bool (rankR x 0 l).2]):=by
 have ls:=hv.len
 simp only[prs,List.length_map] at ls
 have key:=loopA_go (g:=roundL (callL (fun _=>none) 8) [1,6,9,10,11] b_sets_Rank_l0 0)
  (fun i t=>∃ n last,t=⟨envR v x l.length i n,[]⟩∧rankR x 0 l=rankR x n (l.drop i)∧validR top last (l.drop i)=true∧0≤n∧n≤max 0 (last+1)∧last≤top)
  (fun ex t=>(ex= .exit 0∧rankR x 0 l=(0,false))∨(ex= .ret∧∃ r,rankR x 0 l=(r,true)∧t.env.get 4= .pv (i64 r)∧t.env.get 5= .pv (.bool true)))
  rounds l.length 0 ⟨envR v x l.length (0:Nat) 0,[]⟩ (by unfold rounds;unfold maxLen at hw;omega) (by omega) ?_ ?_ ?_
 ·have hl:loopA (roundA (evalC (callL (fun _=>none) 8) b_sets_Rank_l0) (clean 0 [1,6,9,10,11])) rounds ⟨envR v x l.length 0 0,[]⟩=loopA (roundL (callL (fun _=>none) 8) [1,6,9,10,11] b_sets_Rank_l0 0) rounds ⟨envR v x l.length (0:Nat) 0,[]⟩:=rfl
  obtain⟨ex,⟨e,H⟩,h,_,hq⟩:=key
  rw[h] at hl
  simp only[envR] at hl
  rcases hq with⟨rfl,hr⟩ | ⟨rfl,r,hr,g4,g5⟩
  ·rw[hr]
   simp (implicitDefEqProofs:=false) only[F_sets_Rank,SP,SA,SQ,sevalprocAttr,-List.reduceReplicate,b_sets_Rank,ls,C_loop,clean,cutEnv,cutObj,cut_pv,AV.cut,deep_eq,hl,envR]
  ·rw[hr]
   simp only at g4 g5
   simp (implicitDefEqProofs:=false) only[F_sets_Rank,SP,SA,SQ,sevalprocAttr,-List.reduceReplicate,b_sets_Rank,ls,C_loop,clean,cutEnv,cutObj,cut_pv,AV.cut,deep_eq,hl,envR,g4,g5]
 ·refine⟨0,min (-2) top,rfl,rfl,?_,by omega,by omega,by omega⟩
  have mono:∀ {a b:Int} {r:List (Int×Int)},a≤b→validR top b r=true→validR top a r=true:=by
   intro a b r hab h
   cases r with
   |nil=>rfl
   |cons p r=>
    obtain⟨h1,h2,h3,h4,h5⟩:=validR_cons h
    simp only[validR,h5,Bool.and_true,Bool.not_eq_true',Bool.or_eq_false_iff,decide_eq_false_iff_not]
    exact⟨⟨⟨h1,h2⟩,h3⟩,by omega⟩
  exact mono (by omega) hval
 ·rintro i hi t ⟨n,last,rfl,hr,hva,hn0,hn1,hlast⟩
  have hd:l.drop i=l[i]::l.drop (i+1):=List.drop_eq_getElem_cons hi
  rw[hd] at hr hva
  obtain⟨h1,h2,h3,h4,h5⟩:=validR_cons hva
  rw[rankR] at hr
  by_cases c:x < l[i].1
  ·obtain⟨e,H,hx⟩:=exitIs_spec (rank_low v l x n i hi hv c)
   rw[if_pos c] at hr
   exact .inr ⟨.exit 0,⟨e,H⟩,hx,rfl,.inl ⟨rfl,hr⟩⟩
  by_cases c2:x≤l[i].2
  ·obtain⟨t,hx,g4,g5⟩:=retIs2_spec (rank_in v l x n i hi hv c c2 (by omega))
   rw[if_neg c,if_pos c2] at hr
   exact .inr ⟨.ret,t,hx,rfl,.inr ⟨rfl,_,hr,g4,g5⟩⟩
  ·rw[if_neg c,if_neg c2] at hr
   exact .inl ⟨_,rank_on v l x n i hi hv hw c c2 (by omega),_,l[i].2,rfl,hr,h5,by omega,by omega,by omega⟩
 ·rintro t ⟨n,last,rfl,hr,_⟩
  refine⟨.exit 0,⟨(envR v x l.length l.length n).set 12 (.pv (.bool false)),[]⟩,?_,rfl,.inl ⟨rfl,?_⟩⟩
  ·have e1:decide ((l.length:Int) < (l.length:Int))=false:=dec_f (by omega)
   simp (implicitDefEqProofs:=false) only[SP,SA,SQ,sevalprocAttr,-List.reduceReplicate,roundL,roundA,b_sets_Rank_l0,e1,envR]
  ·rw[hr,List.drop_length];rfl
end
def setR (l:List (Int×Int)):List (Int×Int):=if validR 255 (-2) l then l else []
theorem toPV_pv (H:List AObj) (d:Nat) (p:PV):toPV H d (.pv p)=some p:=by cases d <;> rfl
theorem setR_valid (l:List (Int×Int)):validR 255 (-2) (setR l)=true:=by
 unfold setR
 cases hb:validR 255 (-2) l with
 |true=>exact hb
 |false=>rfl
theorem setR_len (l:List (Int×Int)):(setR l).length≤l.length:=by
 unfold setR
 split <;> simp
section
variable (v:PV) (l:List (Int×Int)) (hv:IsL 2 v (prs l)) (hw:l.length * 16≤140737488355328)
include hv hw
theorem spans_valid_run:F_spans_Valid [v]=some (.bool (validR 255 (-2) l)):=by
 have h1:=to_span_run v l hv hw
 have h2:=valid_run (.lit 2 (prs l)) l (.inr rfl) (by unfold maxLen;omega) 255 (by decide)
 simp (implicitDefEqProofs:=false) only[F_spans_Valid,SP,SA,SQ,sevalprocAttr,-List.reduceReplicate,b_spans_Valid,toPV_pv,deep_eq,h1,h2]
theorem spans_set_run:∃ u,F_spans_set [v]=some u∧IsL 2 u (prs (setR l)):=by
 have h1:=to_span_run v l hv hw
 have h2:=valid_run (.lit 2 (prs l)) l (.inr rfl) (by unfold maxLen;omega) 255 (by decide)
 unfold setR
 cases hb:validR 255 (-2) l with
 |true=>
  rw[hb] at h2
  refine⟨.lit 2 (prs l),?_,.inr rfl⟩
  simp (implicitDefEqProofs:=false) only[F_spans_set,SP,SA,SQ,sevalprocAttr,-List.reduceReplicate,b_spans_set,toPV_pv,deep_eq,h1,h2]
 |false=>
  rw[hb] at h2
  refine⟨.nils,?_,.inl ⟨rfl,rfl⟩⟩
  simp (implicitDefEqProofs:=false) only[F_spans_set,SP,SA,SQ,sevalprocAttr,-List.reduceReplicate,b_spans_set,toPV_pv,deep_eq,h1,h2]
theorem spans_rank_run (x:Int):F_spans_Rank [v,i64 x]=some (.tup [i64 (rankR x 0 (setR l)).1,.bool (rankR x 0 (setR l)).2]):=by
 obtain⟨u,h1,h2⟩:=spans_set_run v l hv hw
 have h3:=sets_rank_run u (setR l) h2 (by have:=setR_len l;unfold maxLen;omega) x (top:=255) (by decide) (setR_valid l)
 simp (implicitDefEqProofs:=false) only[F_spans_Rank,SP,SA,SQ,sevalprocAttr,-List.reduceReplicate,b_spans_Rank,toPV_pv,deep_eq,h1,h3]
theorem spans_has_run (x:Int):F_spans_Has [v,i64 x]=some (.bool (rankR x 0 (setR l)).2):=by
 have h3:=spans_rank_run v l hv hw x
 simp (implicitDefEqProofs:=false) only[F_spans_Has,SP,SA,SQ,sevalprocAttr,-List.reduceReplicate,b_spans_Has,toPV_pv,deep_eq,h3]
end
end Go.AM.B1
namespace Go.AM.B1
open Go.AM
theorem _root_.Go.AM.PureFn.weaken {P:Program} {f:FuncId} {F G:List PV→Option PV} (h:PureFn P f G) (hF:∀ xs r,F xs=some r→G xs=some r):PureFn P f F:=
 ⟨h.1,fun w R args vs r hR hl hr=>h.2 w R args vs r hR hl (hF _ _ hr)⟩
def decPair:PV→Option (Int×Int)
 | .agg [.int .i64 a,.int .i64 b]=>some (a,b)
 |_=>none
def decPairs:PV→Option (List (Int×Int))
 | .nils=>some []
 | .lit 2 es=>mapO decPair es
 |_=>none
theorem decPair_pr {v:PV} {p:Int×Int} (h:decPair v=some p):v=pr p:=by
 unfold decPair at h
 split at h
 ·injection h with h;subst h;rfl
 ·cases h
theorem decPairs_isL {v:PV} {l:List (Int×Int)} (h:decPairs v=some l):IsL 2 v (prs l):=by
 unfold decPairs at h
 split at h
 ·injection h with h;subst h;exact .inl ⟨rfl,rfl⟩
 ·rename_i es
  refine .inr ?_
  congr 1
  induction es generalizing l with
  |nil=>simp only[mapO,Option.some.injEq] at h;subst h;rfl
  |cons e es ih=>
   simp only[mapO,Option.bind_eq_some_iff,Option.some.injEq] at h
   obtain⟨p,h1,r,h2,rfl⟩:=h
   rw[ih h2,decPair_pr h1]
   rfl
 ·cases h
def C_spans_Has:List PV→Option PV
 | [v,.int .i64 x]=>(decPairs v).bind fun l=>if l.length * 16≤140737488355328 then some (.bool (rankR x 0 (setR l)).2) else none
 |_=>none
theorem c_spans_Has:PureFn P 158 C_spans_Has:=p_spans_Has.weaken fun xs r h=>by
 unfold C_spans_Has at h
 split at h
 ·rename_i v x
  simp only[Option.bind_eq_some_iff] at h
  obtain⟨l,h1,h2⟩:=h
  split at h2
  ·rename_i hw
   injection h2 with h2
   rw[spans_has_run v l (decPairs_isL h1) hw x,←h2]
  ·cases h2
 ·cases h
end Go.AM.B1
namespace Go.Proofs
open Go.Shelf Go.RowKit Go.Lib Go.Sort
shelf_lay_g SlLaysF0.n6 Slsf 6 at Tryz 172 as Tryz.sortRun
shelf_lay_g SlLaysC2.n5 Slgc 5 at Tryz 70 as Tryz.cmpInt
theorem encI2 (r:List Int):∃ a b:Int,AM.encI 2 r=[.int .i64 a,.int .i64 b]∧AM.keyI 2 0 r=a:=by
 unfold AM.encI AM.keyI
 by_cases h:r.length=2
 ·match r,h with
  | [a,b],_=>exact⟨a,b,rfl,rfl⟩
 ·rw[if_neg h,if_neg h];exact⟨0,0,rfl,rfl⟩
set_option maxHeartbeats 1000000 in
theorem normCmp (a b c d:Int) (W:World):Calls Tryz.prog 173 #[.agg #[.int .i64 a,.int .i64 b],.agg #[.int .i64 c,.int .i64 d]] W fun e w'=>e= .returned (.int .i64 (Lib.compareInt a c))∧∃ q os',w'=grow (W.drewN q) os':=by
 have hcon:=fun W'=>AnyG.cmp_Compare_int Tryz.cmpInt a c W'
 change ∀ W',Calls Tryz.prog 70 _ _ _ at hcon
 generalize Lib.compareInt a c=r at hcon ⊢
 go_enter Tryz.func173,Tryz.ntmps173
 go_wp2_with (go_at_call 70;refine (hcon _).mono ?_;rintro e w' ⟨rfl,rfl⟩)
 go_ret
 exact⟨rfl,0,_,by rw[alloc_eq_grow,alloc_eq_grow,grow_grow];rfl⟩
theorem normSort:AM.SortFn Tryz.prog 172 173 2 0 where
 call:=⟨_,_,Tryz.func172,rfl,by kernel_rfl⟩
 many:=by
  intro blk ofs cap D w hH hb hs
  refine AnyQ.slices_SortFunc_eq Tryz.sortRun 2 Tryz.isAgg258 Tryz.sizeOf258 (AM.encI 2) (fun x=>by obtain⟨a,b,h,_⟩:=encI2 x;rw[h];rfl) (fun x v hv=>by
   obtain⟨a,b,h,_⟩:=encI2 x
   rw[h] at hv
   simp at hv
   rcases hv with rfl | rfl <;> rfl) (AM.cfI 2 0) (AM.swoI 2 0) 173 #[] blk ofs cap D w (enters_of Tryz.func173 (by kernel_rfl) rfl) (fun m os dk _ x y=> ?_) hH hb hs
  obtain⟨a,b,h1,h2⟩:=encI2 x
  obtain⟨c,d,h3,h4⟩:=encI2 y
  rw[h1,h3]
  unfold AM.cfI
  rw[h2,h4]
  exact normCmp a b c d _
 none:=fun p cap w=>AnyF.slices_SortFunc_none Tryz.sortRun p cap _ w
end Go.Proofs
namespace Go.AM.B1
open Go.AM
def b_sets_Norm_l0:ACode:=(.seq (.region [Co 12 (.bin .lss (.t 11) (.t 10))]) (.seq (.cond (.t 12) (.skip) (.exit 0)) (.seq (.block 1 (.seq (.region [Co 13 (.iaddr 2 (.t 9) (.t 11)),Co 14 (.load true 2 (.t 13)),Co 5 (.alloc [(.int .i64 0),(.int .i64 0)]),Ce (.store 2 (.t 5) (.t 14))]) (.seq (.seq (.region [Cv 15 3,Co 16 (.len 0 (.t 15)),Cv 6 16]) (.seq (.region [Cv 17 6,Co 18 (.bin .gtr (.t 17) (.c (.int .i64 0))),Cv 19 18,Cg 20 19 true (.faddr 0 (.t 5)),Cg 21 19 true (.load false 1 (.t 20)),Cg 22 19 true (.move (.t 3)),Cg 23 19 true (.move (.t 6)),Cg 24 19 true (.bin .sub (.t 23) (.c (.int .i64 1))),Cg 25 19 true (.iaddr 2 (.t 22) (.t 24)),Cg 26 19 true (.faddr 1 (.t 25)),Cg 27 19 true (.load false 1 (.t 26)),Cg 28 19 true (.bin .add (.t 27) (.c (.int .i64 1))),Cg 29 19 true (.bin .leq (.t 21) (.t 28)),Co 30 (.pick (.t 19) (.t 29) (.c (.bool false)))]) (.cond (.t 30) (.seq (.region [Cv 31 3,Cv 32 6,Co 33 (.bin .sub (.t 32) (.c (.int .i64 1))),Cv 34 3,Cv 35 6,Co 36 (.bin .sub (.t 35) (.c (.int .i64 1))),Co 37 (.iaddr 2 (.t 34) (.t 36)),Co 38 (.faddr 1 (.t 37)),Co 39 (.load false 1 (.t 38)),Co 40 (.faddr 1 (.t 5)),Co 41 (.load false 1 (.t 40)),Co 42 (.mx [(.t 39),(.t 41)]),Co 43 (.iaddr 2 (.t 31) (.t 33)),Co 44 (.faddr 1 (.t 43)),Ce (.store 1 (.t 44) (.t 42))]) (.exit 1)) (.skip)))) (.region [Cv 45 3,Co 46 (.load true 2 (.t 5)),Co 47 (.bslice .lit 2 true 1 [(.int .i64 0),(.int .i64 0)] [(0,(.t 46))]),Co 48 (.append true .own 2 true 16 (.t 45) (.t 47)),Cv 3 48])))) (.region [Co 49 (.bin .add (.t 11) (.c (.int .i64 1))),Cv 11 49]))))
def b_sets_Norm:AFn:=⟨1,[.tmp 2],(.seq (.region [Co 2 (.move (.c .nils))]) (.seq (.region [Cv 7 0,Co 8 (.callI 22 [(.t 7),(.f 23)])]) (.seq (.region [Co 3 (.move (.c .nils))]) (.ghost (.mkown 3 2 true) (.seq (.seq (.region [Cv 9 0,Co 10 (.len 0 (.t 9)),Co 11 (.move (.c (.int .i64 0)))]) (.block 0 (.loop [3,9,10,11] b_sets_Norm_l0))) (.seq (.region [Cv 50 3,Cv 2 50]) (.ret)))))))⟩
theorem fn_sets_Norm:FnOk P fo 156 b_sets_Norm:=fM Go.Proofs.Tryz.func156 dN (by kernel_rfl) (by kernel_rfl)
def b_sets_To_sets_Run_api_Range_own_l0:ACode:=(.seq (.region [Co 12 (.bin .lss (.t 11) (.t 10))]) (.seq (.cond (.t 12) (.skip) (.exit 0)) (.seq (.block 1 (.seq (.region [Co 13 (.iaddr 2 (.t 9) (.t 11)),Co 14 (.load true 2 (.t 13)),Co 5 (.alloc [(.int .i64 0),(.int .i64 0)]),Ce (.store 2 (.t 5) (.t 14))]) (.region [Cv 15 3,Co 16 (.load true 2 (.t 5)),Co 17 (.bslice .lit 2 true 1 [(.int .i64 0),(.int .i64 0)] [(0,(.t 16))]),Co 18 (.append true .own 2 true 16 (.t 15) (.t 17)),Cv 3 18]))) (.region [Co 19 (.bin .add (.t 11) (.c (.int .i64 1))),Cv 11 19]))))
def b_sets_To_sets_Run_api_Range_own:AFn:=⟨1,[.tmp 2],(.seq (.region [Co 2 (.move (.c .nils))]) (.seq (.region [Cv 6 0,Co 7 (.len 0 (.t 6)),Co 8 (.mkslice .own 2 true [(.int .i64 0),(.int .i64 0)] 16 (.c (.int .i64 0)) (.t 7)),Cv 3 8]) (.seq (.seq (.region [Cv 9 0,Co 10 (.len 0 (.t 9)),Co 11 (.move (.c (.int .i64 0)))]) (.block 0 (.loop [3,9,10,11] b_sets_To_sets_Run_api_Range_own_l0))) (.seq (.region [Cv 20 3,Cv 2 20]) (.ret)))))⟩
theorem fn_sets_To_sets_Run_api_Range_own:FnOk P fo 171 b_sets_To_sets_Run_api_Range_own:=fM Go.Proofs.Tryz.func171 dN (by kernel_rfl) (by kernel_rfl)
def b_scalars_set_own:AFn:=⟨1,[.tmp 2],(.seq (.region [Co 2 (.move (.c .nils))]) (.seq (.region [Cv 4 0,Co 5 (.callI 0 [(.t 4)]),Cv 3 5]) (.seq (.seq (.region [Cv 6 3,Co 7 (.callP F_sets_Valid [(.t 6),(.c (.int .i64 1073741823))]),Co 8 (.un .not (.t 7))]) (.cond (.t 8) (.seq (.region [Co 2 (.move (.c .nils))]) (.ret)) (.skip))) (.seq (.region [Cv 9 3,Cv 2 9]) (.ret)))))⟩
theorem fn_scalars_set_own:FnOk P fo 155 b_scalars_set_own:=fM Go.Proofs.Tryz.func155 (dC p_sets_Valid dN) (by kernel_rfl) (by kernel_rfl)
def b_sets_To_api_Range_sets_Run_in_l0:ACode:=(.seq (.region [Co 12 (.bin .lss (.t 11) (.t 10))]) (.seq (.cond (.t 12) (.skip) (.exit 0)) (.seq (.block 1 (.seq (.region [Co 13 (.iaddr 2 (.t 9) (.t 11)),Co 14 (.load true 2 (.t 13)),Co 5 (.alloc [(.int .i64 0),(.int .i64 0)]),Ce (.store 2 (.t 5) (.t 14))]) (.region [Cv 15 3,Co 16 (.load true 2 (.t 5)),Co 17 (.bslice .lit 2 true 1 [(.int .i64 0),(.int .i64 0)] [(0,(.t 16))]),Co 18 (.append false .uq 2 true 16 (.t 15) (.t 17)),Cv 3 18]))) (.region [Co 19 (.bin .add (.t 11) (.c (.int .i64 1))),Cv 11 19]))))
def b_sets_To_api_Range_sets_Run_in:AFn:=⟨1,[.tmp 2],(.seq (.region [Co 2 (.move (.c .nils))]) (.seq (.region [Cv 6 0,Co 7 (.len 0 (.t 6)),Co 8 (.mkslice .uq 2 true [(.int .i64 0),(.int .i64 0)] 16 (.c (.int .i64 0)) (.t 7)),Cv 3 8]) (.seq (.seq (.region [Cv 9 0,Co 10 (.len 0 (.t 9)),Co 11 (.move (.c (.int .i64 0)))]) (.block 0 (.loop [3,9,10,11] b_sets_To_api_Range_sets_Run_in_l0))) (.seq (.region [Cv 20 3,Cv 2 20]) (.ret)))))⟩
theorem fn_sets_To_api_Range_sets_Run_in:FnOk P fo 170 b_sets_To_api_Range_sets_Run_in:=fM Go.Proofs.Tryz.func170 dN (by kernel_rfl) (by kernel_rfl)
def b_scalars_back_in:AFn:=⟨1,[.tmp 2],(.seq (.region [Co 2 (.move (.c .nils))]) (.seq (.region [Cv 3 0,Co 4 (.callI 2 [(.t 3)]),Cv 2 4]) (.ret)))⟩
theorem fn_scalars_back_in:FnOk P fo 153 b_scalars_back_in:=fM Go.Proofs.Tryz.func153 dN (by kernel_rfl) (by kernel_rfl)
def b_scalars_Union:AFn:=⟨2,[.tmp 4],(.seq (.region [Co 4 (.move (.c .nils))]) (.seq (.region [Cv 5 0,Co 6 (.callI 1 [(.t 5)]),Cv 7 1,Co 8 (.callI 1 [(.t 7)]),Co 9 (.append true .own 2 true 16 (.t 6) (.t 8)),Co 10 (.callI 24 [(.t 9)]),Co 11 (.callI 3 [(.t 10)]),Cv 4 11]) (.ret)))⟩
theorem fn_scalars_Union:FnOk P fo 126 b_scalars_Union:=fM Go.Proofs.Tryz.func126 dN (by kernel_rfl) (by kernel_rfl)
def t_scalars_Union:Nat→Option AFn
 |24=>some b_sets_Norm
 |0=>some b_sets_To_sets_Run_api_Range_own
 |1=>some b_scalars_set_own
 |2=>some b_sets_To_api_Range_sets_Run_in
 |3=>some b_scalars_back_in
 |_=>none
theorem tok_scalars_Union:TableOk P fo t_scalars_Union:=by
 intro ix af h
 unfold t_scalars_Union at h
 split at h
 ·injection h with h;subst h;exact fn_sets_Norm
 ·injection h with h;subst h;exact fn_sets_To_sets_Run_api_Range_own
 ·injection h with h;subst h;exact fn_scalars_set_own
 ·injection h with h;subst h;exact fn_sets_To_api_Range_sets_Run_in
 ·injection h with h;subst h;exact fn_scalars_back_in
 ·cases h
def S_norm:CallF:=fun ix args H=>if ix=22 then sortA 2 0 23 args H else none
theorem S_norm_ok (B0:Base):CallOk P fo B0 S_norm:=sortA_ok (s:=22) (g:=23) Go.Proofs.normSort B0
def F_scalars_Union:List PV→Option PV:=pureS S_norm t_scalars_Union b_scalars_Union
theorem p_scalars_Union:PureFn P 126 F_scalars_Union:=pureS_ok tok_scalars_Union S_norm_ok fn_scalars_Union
def b_scheme_Valid_l0:ACode:=(.seq (.region [Co 15 (.bin .lss (.t 14) (.t 13))]) (.seq (.cond (.t 15) (.skip) (.exit 0)) (.seq (.block 1 (.seq (.region [Co 16 (.iaddr 2 (.t 12) (.t 14)),Co 17 (.load true 2 (.t 16)),Co 5 (.alloc [.nils,(.int .i64 0)]),Ce (.store 2 (.t 5) (.t 17))]) (.seq (.seq (.region [Co 18 (.faddr 0 (.t 5)),Co 19 (.load false 1 (.t 18)),Co 20 (.len 0 (.t 19)),Co 21 (.bin .lss (.t 20) (.c (.int .i64 1))),Cv 22 21,Cg 23 22 false (.faddr 0 (.t 5)),Cg 24 22 false (.load false 1 (.t 23)),Cg 25 22 false (.len 0 (.t 24)),Cg 26 22 false (.bin .gtr (.t 25) (.c (.int .i64 8))),Co 27 (.pick (.t 22) (.c (.bool true)) (.t 26)),Cv 28 27,Cg 29 28 false (.faddr 1 (.t 5)),Cg 30 28 false (.load false 1 (.t 29)),Cg 31 28 false (.bin .lss (.t 30) (.c (.int .i64 0))),Co 32 (.pick (.t 28) (.c (.bool true)) (.t 31)),Cv 33 32,Cg 34 33 false (.faddr 1 (.t 5)),Cg 35 33 false (.load false 1 (.t 34)),Cg 36 33 false (.bin .gtr (.t 35) (.c (.int .i64 1073741823))),Co 37 (.pick (.t 33) (.c (.bool true)) (.t 36)),Cv 38 37,Cg 39 38 false (.faddr 0 (.t 5)),Cg 40 38 false (.load false 1 (.t 39)),Cg 41 38 false (.callI 6 [(.t 40),(.f 7)]),Co 42 (.pick (.t 38) (.c (.bool true)) (.t 41))]) (.cond (.t 42) (.seq (.region [Co 2 (.move (.c (.bool false)))]) (.ret)) (.skip))) (.seq (.region [Co 43 (.faddr 1 (.t 5)),Co 44 (.load false 1 (.t 43)),Co 45 (.load true 2 (.t 5)),Co 46 (.callP F_scheme_last [(.t 45)]),Co 47 (.build [(.int .i64 0),(.int .i64 0)] [(0,1,(.t 44)),(1,1,(.t 46))]),Co 48 (.bslice .lit 2 true 1 [(.int .i64 0),(.int .i64 0)] [(0,(.t 47))]),Cv 6 48]) (.seq (.seq (.region [Cv 49 6,Co 50 (.iaddr 2 (.t 49) (.c (.int .i64 0))),Co 51 (.faddr 1 (.t 50)),Co 52 (.load false 1 (.t 51)),Co 53 (.bin .gtr (.t 52) (.c (.int .i64 1073741823))),Cv 54 53,Cg 55 54 false (.move (.t 3)),Cg 56 54 false (.move (.t 6)),Cg 57 54 false (.callP F_scalars_Meet [(.t 55),(.t 56)]),Cg 58 54 false (.len 0 (.t 57)),Cg 59 54 false (.bin .gtr (.t 58) (.c (.int .i64 0))),Co 60 (.pick (.t 54) (.c (.bool true)) (.t 59))]) (.cond (.t 60) (.seq (.region [Co 2 (.move (.c (.bool false)))]) (.ret)) (.skip))) (.region [Cv 61 3,Cv 62 6,Co 63 (.callP F_scalars_Union [(.t 61),(.t 62)]),Cv 3 63])))))) (.region [Co 64 (.bin .add (.t 14) (.c (.int .i64 1))),Cv 14 64]))))
def b_scheme_Valid:AFn:=⟨1,[.tmp 2],(.seq (.region [Co 1 (.boxR 1 (.t 0)),Co 2 (.move (.c (.bool false)))]) (.seq (.seq (.region [Cp 7 (.faddr 0 (.t 1)),Cp 8 (.load false 1 (.t 7)),Co 9 (.len 0 (.t 8)),Co 10 (.bin .gtr (.t 9) (.c (.int .i64 32)))]) (.cond (.t 10) (.seq (.region [Co 2 (.move (.c (.bool false)))]) (.ret)) (.skip))) (.seq (.region [Co 3 (.move (.c .nils))]) (.seq (.seq (.region [Cp 11 (.faddr 0 (.t 1)),Cp 12 (.load false 1 (.t 11)),Co 13 (.len 0 (.t 12)),Co 14 (.move (.c (.int .i64 0)))]) (.block 0 (.loop [3,12,13,14] b_scheme_Valid_l0))) (.seq (.region [Co 2 (.move (.c (.bool true)))]) (.ret))))))⟩
theorem fn_scheme_Valid:FnOk P fo 93 b_scheme_Valid:=fM Go.Proofs.Tryz.func93 (dC p_scheme_last (dC p_scalars_Meet (dC p_scalars_Union dN))) (by kernel_rfl) (by kernel_rfl)
def t_scheme_Valid:Nat→Option AFn
 |5=>some b_slices_IndexFunc_api_Span_api_Span
 |6=>some b_slices_ContainsFunc_api_Span_api_Span
 |7=>some b_scheme_none
 |_=>none
theorem tok_scheme_Valid:TableOk P fo t_scheme_Valid:=by
 intro ix af h
 unfold t_scheme_Valid at h
 split at h
 ·injection h with h;subst h;exact fn_slices_IndexFunc_api_Span_api_Span
 ·injection h with h;subst h;exact fn_slices_ContainsFunc_api_Span_api_Span
 ·injection h with h;subst h;exact fn_scheme_none
 ·cases h
def F_scheme_Valid:List PV→Option PV:=pureF t_scheme_Valid b_scheme_Valid
theorem p_scheme_Valid:PureFn P 93 F_scheme_Valid:=pureF_ok tok_scheme_Valid fn_scheme_Valid
def b_shape_Valid:AFn:=⟨1,[.tmp 2],(.seq (.region [Co 1 (.boxR 2 (.t 0)),Co 2 (.move (.c (.bool false)))]) (.seq (.region [Cp 3 (.load true 2 (.t 1)),Co 4 (.bslice .lit 2 true 1 [.nils,(.int .i64 0)] [(0,(.t 3))]),Co 5 (.build [.nils] [(0,1,(.t 4))]),Co 6 (.callP F_scheme_Valid [(.t 5)]),Cv 2 6]) (.ret)))⟩
theorem fn_shape_Valid:FnOk P fo 102 b_shape_Valid:=fM Go.Proofs.Tryz.func102 (dC p_scheme_Valid dN) (by kernel_rfl) (by kernel_rfl)
def F_shape_Valid:List PV→Option PV:=pureF (fun _=>none) b_shape_Valid
theorem p_shape_Valid:PureFn P 102 F_shape_Valid:=pureF_ok noTable fn_shape_Valid
def b_shape_Common_l0:ACode:=(.seq (.region [Co 36 (.bin .lss (.t 35) (.t 34))]) (.seq (.cond (.t 36) (.skip) (.exit 0)) (.seq (.block 1 (.seq (.region [Cv 37 35,Cv 9 37]) (.seq (.region [Cp 38 (.faddr 0 (.t 3)),Cp 39 (.load false 1 (.t 38)),Cv 40 9,Cp 41 (.iaddr 1 (.t 39) (.t 40)),Cp 42 (.load false 1 (.t 41)),Cp 43 (.faddr 0 (.t 4)),Cp 44 (.load false 1 (.t 43)),Cv 45 9,Cp 46 (.iaddr 1 (.t 44) (.t 45)),Cp 47 (.load false 1 (.t 46)),Co 48 (.callP F_spans_Meet [(.t 42),(.t 47)]),Cv 10 48]) (.seq (.seq (.region [Cv 49 10,Co 50 (.len 0 (.t 49)),Co 51 (.bin .eql (.t 50) (.c (.int .i64 0)))]) (.cond (.t 51) (.seq (.region [Co 6 (.move (.c .nils)),Co 7 (.move (.c (.bool false)))]) (.ret)) (.skip))) (.region [Cv 52 8,Cv 53 10,Co 54 (.iaddr 2 (.t 53) (.c (.int .i64 0))),Co 55 (.faddr 0 (.t 54)),Co 56 (.load false 1 (.t 55)),Co 57 (.conv .u8 (.t 56)),Co 58 (.bslice .lit 1 false 1 [(.int .u8 0)] [(0,(.t 57))]),Co 59 (.append false .uq 1 false 1 (.t 52) (.t 58)),Cv 8 59]))))) (.region [Co 60 (.bin .add (.t 35) (.c (.int .i64 1))),Cv 35 60]))))
def b_shape_Common:AFn:=⟨3,[.tmp 6,.tmp 7],(.seq (.region [Co 3 (.boxR 2 (.t 0)),Co 4 (.boxR 2 (.t 1)),Co 6 (.move (.c .nils)),Co 7 (.move (.c (.bool false)))]) (.seq (.seq (.region [Cp 11 (.load true 2 (.t 3)),Co 12 (.callP F_shape_Valid [(.t 11)]),Co 13 (.un .not (.t 12)),Cv 14 13,Cq 15 14 false (.load true 2 (.t 4)),Cg 16 14 false (.callP F_shape_Valid [(.t 15)]),Cg 17 14 false (.un .not (.t 16)),Co 18 (.pick (.t 14) (.c (.bool true)) (.t 17)),Cv 19 18,Cg 20 19 false (.move (.t 2)),Cg 21 19 false (.bin .lss (.t 20) (.c (.int .i64 0))),Co 22 (.pick (.t 19) (.c (.bool true)) (.t 21)),Cv 23 22,Cg 24 23 false (.move (.t 2)),Cq 25 23 false (.faddr 0 (.t 3)),Cq 26 23 false (.load false 1 (.t 25)),Cg 27 23 false (.len 0 (.t 26)),Cq 28 23 false (.faddr 0 (.t 4)),Cq 29 23 false (.load false 1 (.t 28)),Cg 30 23 false (.len 0 (.t 29)),Cg 31 23 false (.mn [(.t 27),(.t 30)]),Cg 32 23 false (.bin .gtr (.t 24) (.t 31)),Co 33 (.pick (.t 23) (.c (.bool true)) (.t 32))]) (.cond (.t 33) (.seq (.region [Co 6 (.move (.c .nils)),Co 7 (.move (.c (.bool false)))]) (.ret)) (.skip))) (.seq (.region [Co 8 (.move (.c .nils))]) (.ghost (.mkuq 8 1) (.seq (.seq (.region [Cv 34 2,Co 35 (.move (.c (.int .i64 0)))]) (.block 0 (.loop [3,4,8,34,35] b_shape_Common_l0))) (.seq (.region [Cv 61 8,Cv 6 61,Co 7 (.move (.c (.bool true)))]) (.ret)))))))⟩
theorem fn_shape_Common:FnOk P fo 132 b_shape_Common:=fM Go.Proofs.Tryz.func132 (dC p_shape_Valid (dC p_shape_Valid (dC p_spans_Meet dN))) (by kernel_rfl) (by kernel_rfl)
def F_shape_Common:List PV→Option PV:=pureF (fun _=>none) b_shape_Common
theorem p_shape_Common:PureFn P 132 F_shape_Common:=pureF_ok noTable fn_shape_Common
def b_shape_steps_l0:ACode:=(.seq (.seq (.region [Cv 14 5,Co 15 (.bin .gtr (.t 14) (.c (.int .i64 0)))]) (.cond (.t 15) (.skip) (.exit 0))) (.seq (.block 1 (.seq (.region [Cv 18 3,Cv 19 5,Cv 20 4,Co 21 (.iaddr 1 (.t 18) (.t 19)),Ce (.store 1 (.t 21) (.t 20))]) (.region [Cv 22 4,Cp 23 (.faddr 0 (.t 1)),Cp 24 (.load false 1 (.t 23)),Cv 25 5,Co 26 (.bin .sub (.t 25) (.c (.int .i64 1))),Co 27 (.iaddr 1 (.t 24) (.t 26)),Co 28 (.load false 1 (.t 27)),Co 29 (.callP F_spans_Size [(.t 28)]),Co 30 (.bin .mul (.t 22) (.t 29)),Cv 4 30]))) (.region [Cv 16 5,Co 17 (.bin .sub (.t 16) (.c (.int .i64 1))),Cv 5 17])))
def b_shape_steps:AFn:=⟨1,[.tmp 2],(.seq (.region [Co 1 (.boxR 2 (.t 0)),Co 2 (.move (.c .nils))]) (.seq (.region [Cp 6 (.faddr 0 (.t 1)),Cp 7 (.load false 1 (.t 6)),Co 8 (.len 0 (.t 7)),Co 9 (.bin .add (.t 8) (.c (.int .i64 1))),Co 10 (.mkslice .own 1 false [(.int .i64 0)] 8 (.t 9) (.t 9)),Cv 3 10]) (.seq (.region [Co 4 (.move (.c (.int .i64 1)))]) (.seq (.seq (.region [Cp 11 (.faddr 0 (.t 1)),Cp 12 (.load false 1 (.t 11)),Co 13 (.len 0 (.t 12)),Cv 5 13]) (.block 0 (.loop [1,3,4,5] b_shape_steps_l0))) (.seq (.region [Cv 31 3,Cv 32 4,Co 33 (.iaddr 1 (.t 31) (.c (.int .i64 0))),Ce (.store 1 (.t 33) (.t 32))]) (.seq (.region [Cv 34 3,Cv 2 34]) (.ret)))))))⟩
theorem fn_shape_steps:FnOk P fo 103 b_shape_steps:=fM Go.Proofs.Tryz.func103 (dC p_spans_Size dN) (by kernel_rfl) (by kernel_rfl)
def F_shape_steps:List PV→Option PV:=pureF (fun _=>none) b_shape_steps
theorem p_shape_steps:PureFn P 103 F_shape_steps:=pureF_ok noTable fn_shape_steps
def b_shape_Rank_l0:ACode:=(.seq (.region [Co 27 (.bin .lss (.t 26) (.t 25))]) (.seq (.cond (.t 27) (.skip) (.exit 0)) (.seq (.block 1 (.seq (.region [Cv 28 26,Co 29 (.iaddr 1 (.t 24) (.t 26)),Co 30 (.load false 1 (.t 29)),Cv 7 28,Cv 8 30]) (.seq (.region [Cp 32 (.faddr 0 (.t 2)),Cp 33 (.load false 1 (.t 32)),Cv 34 7,Cp 35 (.iaddr 1 (.t 33) (.t 34)),Cp 36 (.load false 1 (.t 35)),Cv 37 1,Cv 38 7,Cp 39 (.iaddr 1 (.t 37) (.t 38)),Cp 40 (.load false 1 (.t 39)),Cp 41 (.conv .i64 (.t 40)),Co 42 (.callP F_spans_Rank [(.t 36),(.t 41)]),Cv 31 42,Co 43 (.ext 0 (.t 31)),Co 44 (.ext 1 (.t 31)),Cv 9 43,Cv 10 44]) (.seq (.seq (.region [Cv 45 10,Co 46 (.un .not (.t 45))]) (.cond (.t 46) (.seq (.region [Co 4 (.move (.c (.int .i64 0))),Co 5 (.move (.c (.bool false)))]) (.ret)) (.skip))) (.region [Cv 47 6,Cv 48 9,Cv 49 8,Co 50 (.bin .mul (.t 48) (.t 49)),Co 51 (.bin .add (.t 47) (.t 50)),Cv 6 51]))))) (.region [Co 52 (.bin .add (.t 26) (.c (.int .i64 1))),Cv 26 52]))))
def b_shape_Rank:AFn:=⟨2,[.tmp 4,.tmp 5],(.seq (.region [Co 2 (.boxR 2 (.t 0)),Co 4 (.move (.c (.int .i64 0))),Co 5 (.move (.c (.bool false)))]) (.seq (.seq (.region [Cp 11 (.load true 2 (.t 2)),Co 12 (.callP F_shape_Valid [(.t 11)]),Co 13 (.un .not (.t 12)),Cv 14 13,Cg 15 14 false (.move (.t 1)),Cg 16 14 false (.len 0 (.t 15)),Cq 17 14 false (.faddr 0 (.t 2)),Cq 18 14 false (.load false 1 (.t 17)),Cg 19 14 false (.len 0 (.t 18)),Cg 20 14 false (.bin .neq (.t 16) (.t 19)),Co 21 (.pick (.t 14) (.c (.bool true)) (.t 20))]) (.cond (.t 21) (.seq (.region [Co 4 (.move (.c (.int .i64 0))),Co 5 (.move (.c (.bool false)))]) (.ret)) (.skip))) (.seq (.region [Co 6 (.move (.c (.int .i64 0)))]) (.seq (.seq (.region [Cp 22 (.load true 2 (.t 2)),Co 23 (.callP F_shape_steps [(.t 22)]),Co 24 (.slice 1 (.t 23) (some (.c (.int .i64 1))) none),Co 25 (.len 0 (.t 24)),Co 26 (.move (.c (.int .i64 0)))]) (.block 0 (.loop [1,2,6,24,25,26] b_shape_Rank_l0))) (.seq (.region [Cv 53 6,Cv 4 53,Co 5 (.move (.c (.bool true)))]) (.ret))))))⟩
theorem fn_shape_Rank:FnOk P fo 160 b_shape_Rank:=fM Go.Proofs.Tryz.func160 (dC p_shape_Valid (dC p_shape_steps (dC p_spans_Rank dN))) (by kernel_rfl) (by kernel_rfl)
def F_shape_Rank:List PV→Option PV:=pureF (fun _=>none) b_shape_Rank
theorem p_shape_Rank:PureFn P 160 F_shape_Rank:=pureF_ok noTable fn_shape_Rank
def b_clash_first_l0:ACode:=(.seq (.region [Co 20 (.bin .lss (.t 19) (.t 18))]) (.seq (.cond (.t 20) (.skip) (.exit 0)) (.seq (.block 1 (.seq (.region [Co 21 (.iaddr 1 (.t 17) (.t 19)),Co 22 (.load false 1 (.t 21)),Cv 7 22]) (.region [Cv 23 5,Cv 24 7,Co 25 (.iaddr 2 (.t 24) (.c (.int .i64 0))),Co 26 (.faddr 0 (.t 25)),Co 27 (.load false 1 (.t 26)),Co 28 (.conv .u8 (.t 27)),Co 29 (.bslice .lit 1 false 1 [(.int .u8 0)] [(0,(.t 28))]),Co 30 (.append false .uq 1 false 1 (.t 23) (.t 29)),Cv 5 30]))) (.region [Co 31 (.bin .add (.t 19) (.c (.int .i64 1))),Cv 19 31]))))
def b_clash_first:AFn:=⟨2,[.tmp 4],(.seq (.region [Co 2 (.boxR 2 (.t 0)),Co 4 (.move (.c (.int .i64 0)))]) (.seq (.region [Co 10 (.bslice .uq 1 false 0 [(.int .u8 0)] []),Cv 11 1,Co 12 (.append false .uq 1 false 1 (.t 10) (.t 11)),Cv 5 12]) (.seq (.seq (.region [Cp 13 (.faddr 0 (.t 2)),Cp 14 (.load false 1 (.t 13)),Cv 15 1,Co 16 (.len 0 (.t 15)),Co 17 (.slice 1 (.t 14) (some (.t 16)) none),Co 18 (.len 0 (.t 17)),Co 19 (.move (.c (.int .i64 0)))]) (.block 0 (.loop [2,5,17,18,19] b_clash_first_l0))) (.seq (.region [Cp 33 (.load true 2 (.t 2)),Cv 34 5,Co 35 (.callP F_shape_Rank [(.t 33),(.t 34)]),Cv 32 35,Co 36 (.ext 0 (.t 32)),Co 37 (.ext 1 (.t 32)),Cv 8 36,Cv 9 37]) (.seq (.region [Cp 38 (.faddr 1 (.t 2)),Cp 39 (.load false 1 (.t 38)),Cv 40 8,Co 41 (.bin .add (.t 39) (.t 40)),Cv 4 41]) (.ret))))))⟩
theorem fn_clash_first:FnOk P fo 133 b_clash_first:=fM Go.Proofs.Tryz.func133 (dC p_shape_Rank dN) (by kernel_rfl) (by kernel_rfl)
def F_clash_first:List PV→Option PV:=pureF (fun _=>none) b_clash_first
theorem p_clash_first:PureFn P 133 F_clash_first:=pureF_ok noTable fn_clash_first
def b_clash_search_l1:ACode:=(.seq (.region [Co 30 (.bin .lss (.t 29) (.t 28))]) (.seq (.cond (.t 30) (.skip) (.exit 2)) (.seq (.block 3 (.seq (.region [Cv 31 29,Co 32 (.iaddr 2 (.t 27) (.t 29)),Co 33 (.load true 2 (.t 32)),Co 10 (.alloc [.nils,(.int .i64 0)]),Cv 9 31,Ce (.store 2 (.t 10) (.t 33))]) (.seq (.seq (.region [Cv 34 1,Cv 35 7,Cv 36 9,Co 37 (.callV (.t 34) [(.t 35),(.t 36)]),Co 38 (.un .not (.t 37))]) (.cond (.t 38) (.exit 3) (.skip))) (.seq (.region [Co 40 (.load true 2 (.t 8)),Co 41 (.load true 2 (.t 10)),Co 42 (.faddr 0 (.t 8)),Co 43 (.load false 1 (.t 42)),Co 44 (.len 0 (.t 43)),Co 45 (.callP F_shape_Common [(.t 40),(.t 41),(.t 44)]),Cv 39 45,Co 46 (.ext 0 (.t 39)),Co 47 (.ext 1 (.t 39)),Cv 11 46,Cv 12 47]) (.seq (.region [Cv 48 12]) (.cond (.t 48) (.seq (.region [Co 49 (.load true 2 (.t 8)),Cv 50 11,Co 51 (.callP F_clash_first [(.t 49),(.t 50)]),Co 52 (.load true 2 (.t 10)),Cv 53 11,Co 54 (.callP F_clash_first [(.t 52),(.t 53)]),Co 55 (.build [(.bool false),(.int .i64 0),(.int .i64 0)] [(1,1,(.t 51)),(2,1,(.t 54))]),Ce (.store 3 (.t 6) (.t 55))]) (.exit 0)) (.skip))))))) (.region [Co 56 (.bin .add (.t 29) (.c (.int .i64 1))),Cv 29 56]))))
def b_clash_search_l0:ACode:=(.seq (.region [Co 22 (.bin .lss (.t 21) (.t 20))]) (.seq (.cond (.t 22) (.skip) (.exit 0)) (.seq (.block 1 (.seq (.region [Cv 23 21,Co 24 (.iaddr 2 (.t 19) (.t 21)),Co 25 (.load true 2 (.t 24)),Co 8 (.alloc [.nils,(.int .i64 0)]),Cv 7 23,Ce (.store 2 (.t 8) (.t 25))]) (.seq (.region [Cp 26 (.faddr 0 (.t 2)),Cp 27 (.load false 1 (.t 26)),Co 28 (.len 0 (.t 27)),Co 29 (.move (.c (.int .i64 0)))]) (.block 2 (.loop [1,2,4,6,7,8,19,20,21,27,28,29] b_clash_search_l1))))) (.region [Co 57 (.bin .add (.t 21) (.c (.int .i64 1))),Cv 21 57]))))
def b_clash_search:AFn:=⟨2,[.cell 4 true 3,.tmp 5],(.seq (.region [Co 2 (.boxR 1 (.t 0)),Co 4 (.alloc [(.bool false),(.int .i64 0),(.int .i64 0)]),Co 5 (.move (.c (.int .i64 0)))]) (.scope (.seq (.seq (.region [Cp 13 (.load true 1 (.t 2)),Co 14 (.callP F_scheme_Valid [(.t 13)]),Co 15 (.un .not (.t 14))]) (.cond (.t 15) (.seq (.region [Co 16 (.build [(.bool false),(.int .i64 0),(.int .i64 0)] []),Ce (.store 3 (.t 4) (.t 16)),Co 5 (.move (.c (.int .i64 84)))]) (.ret)) (.skip))) (.seq (.region [Co 17 (.build [(.bool false),(.int .i64 0),(.int .i64 0)] [(0,1,(.c (.bool true)))]),Co 6 (.alloc [(.bool false),(.int .i64 0),(.int .i64 0)]),Ce (.store 3 (.t 6) (.t 17))]) (.seq (.skip) (.seq (.seq (.region [Cp 18 (.faddr 0 (.t 2)),Cp 19 (.load false 1 (.t 18)),Co 20 (.len 0 (.t 19)),Co 21 (.move (.c (.int .i64 0)))]) (.block 0 (.loop [1,2,4,6,19,20,21] b_clash_search_l0))) (.seq (.region [Co 58 (.load true 3 (.t 6)),Ce (.store 3 (.t 4) (.t 58)),Co 5 (.move (.c (.int .i64 0)))]) (.ret))))))))⟩
theorem fn_clash_search:FnOk P fo 99 b_clash_search:=fM Go.Proofs.Tryz.func99 (dC p_scheme_Valid (dC p_shape_Common (dC p_clash_first (dC p_clash_first dN)))) (by kernel_rfl) (by kernel_rfl)
def b_clash_Prefix:AFn:=⟨1,[.cell 2 true 3,.tmp 3],(.seq (.region [Co 1 (.box 1 (.t 0)),Co 2 (.alloc [(.bool false),(.int .i64 0),(.int .i64 0)]),Co 3 (.move (.c (.int .i64 0)))]) (.seq (.region [Co 4 (.load true 1 (.t 1)),Co 5 (.mkfn 4 [(.t 1)]),Co 6 (.callI 25 [(.t 4),(.t 5)]),Co 7 (.ext 0 (.t 6)),Co 8 (.ext 1 (.t 6)),Ce (.store 3 (.t 2) (.t 7)),Cv 3 8]) (.ret)))⟩
theorem fn_clash_Prefix:FnOk P fo 95 b_clash_Prefix:=fM Go.Proofs.Tryz.func95 dN (by kernel_rfl) (by kernel_rfl)
def t_clash_Prefix:Nat→Option AFn
 |4=>some b_clash_Prefix_1
 |25=>some b_clash_search
 |_=>none
theorem tok_clash_Prefix:TableOk P fo t_clash_Prefix:=by
 intro ix af h
 unfold t_clash_Prefix at h
 split at h
 ·injection h with h;subst h;exact fn_clash_Prefix_1
 ·injection h with h;subst h;exact fn_clash_search
 ·cases h
def F_clash_Prefix:List PV→Option PV:=pureF t_clash_Prefix b_clash_Prefix
theorem p_clash_Prefix:PureFn P 95 F_clash_Prefix:=pureF_ok tok_clash_Prefix fn_clash_Prefix
def b_slices_Clone_api_Span_api_Span:AFn:=⟨1,[.tmp 2],(.seq (.region [Co 2 (.move (.c .nils))]) (.seq (.seq (.region [Cv 3 0,Co 4 (.eq 2 false (.t 3) (.c .nils))]) (.cond (.t 4) (.seq (.region [Co 2 (.move (.c .nils))]) (.ret)) (.skip))) (.seq (.region [Co 5 (.bslice .uq 2 true 0 [(.int .i64 0),(.int .i64 0)] []),Cv 6 0,Co 7 (.append false .uq 2 true 16 (.t 5) (.t 6)),Cv 2 7]) (.ret))))⟩
theorem fn_slices_Clone_api_Span_api_Span:FnOk P fo 101 b_slices_Clone_api_Span_api_Span:=fM Go.Proofs.Tryz.func101 dN (by kernel_rfl) (by kernel_rfl)
def F_slices_Clone_api_Span_api_Span:List PV→Option PV:=pureF (fun _=>none) b_slices_Clone_api_Span_api_Span
theorem p_slices_Clone_api_Span_api_Span:PureFn P 101 F_slices_Clone_api_Span_api_Span:=pureF_ok noTable fn_slices_Clone_api_Span_api_Span
def b_scheme_Copy_l1:ACode:=(.seq (.region [Co 23 (.bin .lss (.t 22) (.t 21))]) (.seq (.cond (.t 23) (.skip) (.exit 2)) (.seq (.block 3 (.seq (.region [Co 24 (.iaddr 1 (.t 20) (.t 22)),Co 25 (.load false 1 (.t 24)),Cv 8 25]) (.region [Co 26 (.faddr 0 (.t 6)),Co 27 (.load false 1 (.t 26)),Cv 28 8,Co 29 (.callP F_slices_Clone_api_Span_api_Span [(.t 28)]),Co 30 (.bslice .lit 1 false 1 [.nils] [(0,(.t 29))]),Co 31 (.append false .uq 1 false 24 (.t 27) (.t 30)),Co 32 (.faddr 0 (.t 6)),Ce (.store 1 (.t 32) (.t 31))]))) (.region [Co 33 (.bin .add (.t 22) (.c (.int .i64 1))),Cv 22 33]))))
def b_scheme_Copy_l0:ACode:=(.seq (.region [Co 13 (.bin .lss (.t 12) (.t 11))]) (.seq (.cond (.t 13) (.skip) (.exit 0)) (.seq (.block 1 (.seq (.region [Co 14 (.iaddr 2 (.t 10) (.t 12)),Co 15 (.load true 2 (.t 14)),Co 5 (.alloc [.nils,(.int .i64 0)]),Ce (.store 2 (.t 5) (.t 15))]) (.seq (.region [Co 16 (.faddr 1 (.t 5)),Co 17 (.load false 1 (.t 16)),Co 18 (.build [.nils,(.int .i64 0)] [(1,1,(.t 17))]),Co 6 (.alloc [.nils,(.int .i64 0)]),Ce (.store 2 (.t 6) (.t 18))]) (.ghost (.mkuqC 6 0 1) (.seq (.seq (.region [Co 19 (.faddr 0 (.t 5)),Co 20 (.load false 1 (.t 19)),Co 21 (.len 0 (.t 20)),Co 22 (.move (.c (.int .i64 0)))]) (.block 2 (.loop [2,3,6,10,11,12,20,21,22] b_scheme_Copy_l1))) (.region [Co 34 (.faddr 0 (.t 3)),Co 35 (.load false 1 (.t 34)),Co 36 (.load true 2 (.t 6)),Co 37 (.bslice .lit 2 true 1 [.nils,(.int .i64 0)] [(0,(.t 36))]),Co 38 (.append false .uq 2 true 32 (.t 35) (.t 37)),Co 39 (.faddr 0 (.t 3)),Ce (.store 1 (.t 39) (.t 38))])))))) (.region [Co 40 (.bin .add (.t 12) (.c (.int .i64 1))),Cv 12 40]))))
def b_scheme_Copy:AFn:=⟨1,[.cell 2 true 1],(.seq (.region [Co 1 (.boxR 1 (.t 0)),Co 2 (.alloc [.nils])]) (.seq (.region [Co 3 (.alloc [.nils])]) (.ghost (.mkuqC 3 0 2) (.seq (.seq (.region [Cp 9 (.faddr 0 (.t 1)),Cp 10 (.load false 1 (.t 9)),Co 11 (.len 0 (.t 10)),Co 12 (.move (.c (.int .i64 0)))]) (.block 0 (.loop [2,3,10,11,12] b_scheme_Copy_l0))) (.seq (.region [Co 41 (.load true 1 (.t 3)),Ce (.store 1 (.t 2) (.t 41))]) (.ret))))))⟩
theorem fn_scheme_Copy:FnOk P fo 65 b_scheme_Copy:=fM Go.Proofs.Tryz.func65 (dC p_slices_Clone_api_Span_api_Span dN) (by kernel_rfl) (by kernel_rfl)
def F_scheme_Copy:List PV→Option PV:=pureF (fun _=>none) b_scheme_Copy
theorem p_scheme_Copy:PureFn P 65 F_scheme_Copy:=pureF_ok noTable fn_scheme_Copy
def b_auto_builder_met:AFn:=⟨2,[.tmp 4,.tmp 5],(.seq (.region [Co 3 (.boxR 2 (.t 1)),Co 4 (.move (.c (.int .i64 0))),Co 5 (.move (.c (.bool false)))]) (.seq (.region [Cv 9 0,Co 10 (.nilck (.t 9)),Co 11 (.faddr 1 (.t 10)),Co 12 (.load false 1 (.t 11)),Cp 13 (.load true 2 (.t 3)),Co 14 (.lookup (.row [1,1]) (.int .i64 0) true (.t 12) (.t 13)),Cv 8 14,Co 15 (.ext 0 (.t 8)),Co 16 (.ext 1 (.t 8)),Cv 6 15,Cv 7 16]) (.seq (.seq (.region [Cv 17 7,Co 18 (.un .not (.t 17))]) (.cond (.t 18) (.seq (.region [Cv 19 0,Co 20 (.nilck (.t 19)),Co 21 (.faddr 2 (.t 20)),Co 22 (.load false 1 (.t 21)),Co 23 (.len 0 (.t 22)),Cv 6 23]) (.seq (.seq (.region [Cv 24 6,Co 25 (.bin .eql (.t 24) (.c (.int .i64 64)))]) (.cond (.t 25) (.seq (.region [Co 4 (.move (.c (.int .i64 0))),Co 5 (.move (.c (.bool false)))]) (.ret)) (.skip))) (.seq (.region [Cv 26 0,Co 27 (.nilck (.t 26)),Co 28 (.faddr 1 (.t 27)),Co 29 (.load false 1 (.t 28)),Cp 30 (.load true 2 (.t 3)),Cv 31 6,Ce (.mapset (.row [1,1]) (.t 29) (.t 30) (.t 31))]) (.region [Cv 32 0,Cv 33 0,Co 34 (.nilck (.t 33)),Co 35 (.faddr 2 (.t 34)),Co 36 (.load false 1 (.t 35)),Cp 37 (.load true 2 (.t 3)),Co 38 (.bslice .lit 2 true 1 [(.int .i64 0),(.int .u32 0)] [(0,(.t 37))]),Co 39 (.append false .uq 2 true 16 (.t 36) (.t 38)),Co 40 (.nilck (.t 32)),Co 41 (.faddr 2 (.t 40)),Ce (.store 1 (.t 41) (.t 39))])))) (.skip))) (.seq (.region [Cv 42 6,Cv 4 42,Co 5 (.move (.c (.bool true)))]) (.ret)))))⟩
theorem fn_auto_builder_met:FnOk P fo 129 b_auto_builder_met:=fM Go.Proofs.Tryz.func129 dN (by kernel_rfl) (by kernel_rfl)
def b_auto_builder_behind_l0:ACode:=(.seq (.region [Co 19 (.bin .lss (.t 18) (.t 17))]) (.seq (.cond (.t 19) (.skip) (.exit 0)) (.seq (.block 1 (.seq (.region [Cv 20 18,Co 21 (.iaddr 2 (.t 16) (.t 18)),Co 22 (.load true 2 (.t 21)),Co 11 (.alloc [.nils,(.int .i64 0)]),Cv 10 20,Ce (.store 2 (.t 11) (.t 22))]) (.seq (.region [Cp 23 (.faddr 1 (.t 4)),Cp 24 (.load false 1 (.t 23)),Cv 25 10,Co 26 (.bin .shr (.t 24) (.t 25)),Co 27 (.bin .and (.t 26) (.c (.int .u32 1))),Co 28 (.bin .eql (.t 27) (.c (.int .u32 1))),Cv 29 28,Cg 30 29 true (.faddr 0 (.t 11)),Cg 31 29 true (.load false 1 (.t 30)),Cq 32 29 true (.faddr 0 (.t 4)),Cq 33 29 true (.load false 1 (.t 32)),Cg 34 29 true (.iaddr 1 (.t 31) (.t 33)),Cg 35 29 true (.load false 1 (.t 34)),Cg 36 29 true (.move (.t 2)),Cg 37 29 true (.callP C_spans_Has [(.t 35),(.t 36)]),Co 38 (.pick (.t 29) (.t 37) (.c (.bool false)))]) (.cond (.t 38) (.seq (.region [Cv 39 8,Cv 40 10,Co 41 (.bin .shl (.c (.int .u32 1)) (.t 40)),Co 42 (.bin .or (.t 39) (.t 41)),Cv 8 42]) (.region [Cv 43 9,Cv 44 43,Cg 45 44 false (.faddr 0 (.t 11)),Cg 46 44 false (.load false 1 (.t 45)),Cg 47 44 false (.len 0 (.t 46)),Cq 48 44 false (.faddr 0 (.t 4)),Cq 49 44 false (.load false 1 (.t 48)),Cg 50 44 false (.bin .add (.t 49) (.c (.int .i64 1))),Cg 51 44 false (.bin .eql (.t 47) (.t 50)),Co 52 (.pick (.t 44) (.c (.bool true)) (.t 51)),Cv 9 52])) (.skip))))) (.region [Co 53 (.bin .add (.t 18) (.c (.int .i64 1))),Cv 18 53]))))
def b_auto_builder_behind:AFn:=⟨3,[.tmp 6,.tmp 7],(.seq (.region [Co 4 (.boxR 2 (.t 1)),Co 6 (.move (.c (.int .u32 0))),Co 7 (.move (.c (.bool false)))]) (.seq (.region [Co 8 (.move (.c (.int .u32 0)))]) (.seq (.region [Co 9 (.move (.c (.bool false)))]) (.seq (.seq (.region [Cv 12 0,Co 13 (.nilck (.t 12)),Co 14 (.faddr 0 (.t 13)),Co 15 (.faddr 0 (.t 14)),Co 16 (.load false 1 (.t 15)),Co 17 (.len 0 (.t 16)),Co 18 (.move (.c (.int .i64 0)))]) (.block 0 (.loopG [2,4,8,9,16,17,18] b_auto_builder_behind_l0))) (.seq (.region [Cv 54 8,Cv 55 9,Cv 6 54,Cv 7 55]) (.ret))))))⟩
theorem fn_auto_builder_behind:FnOk P fo 130 b_auto_builder_behind:=fM Go.Proofs.Tryz.func130 (dC c_spans_Has dN) (by kernel_rfl) (by kernel_rfl)
def b_auto_builder_walk_l1:ACode:=(.seq (.region [Co 31 (.bin .lss (.t 30) (.c (.int .i64 256)))]) (.seq (.cond (.t 31) (.skip) (.exit 2)) (.seq (.block 3 (.seq (.region [Cv 32 30,Cv 5 32]) (.seq (.region [Cv 34 0,Cv 35 0,Co 36 (.nilck (.t 35)),Co 37 (.faddr 2 (.t 36)),Co 38 (.load false 1 (.t 37)),Cv 39 3,Co 40 (.iaddr 2 (.t 38) (.t 39)),Co 41 (.load true 2 (.t 40)),Cv 42 5,Co 43 (.callI 27 [(.t 34),(.t 41),(.t 42)]),Cv 33 43,Co 44 (.ext 0 (.t 33)),Co 45 (.ext 1 (.t 33)),Cv 6 44,Cv 7 45]) (.block 4 (.seq (.region [Cv 68 6,Co 69 (.bin .eql (.t 68) (.c (.int .u32 0))),Cv 67 69]) (.cond (.t 67) (.region [Cv 70 5,Co 71 (.iaddrA 256 1 (.t 4) (.t 70)),Ce (.store 1 (.t 71) (.c (.int .i64 (-2))))]) (.seq (.region [Cv 73 7,Cv 72 73]) (.cond (.t 72) (.region [Cv 74 5,Co 75 (.iaddrA 256 1 (.t 4) (.t 74)),Ce (.store 1 (.t 75) (.c (.int .i64 (-1))))]) (.seq (.region [Cv 47 0,Cv 48 0,Co 49 (.nilck (.t 48)),Co 50 (.faddr 2 (.t 49)),Co 51 (.load false 1 (.t 50)),Cv 52 3,Co 53 (.iaddr 2 (.t 51) (.t 52)),Co 54 (.faddr 0 (.t 53)),Co 55 (.load false 1 (.t 54)),Co 56 (.bin .add (.t 55) (.c (.int .i64 1))),Cv 57 6,Co 58 (.build [(.int .i64 0),(.int .u32 0)] [(0,1,(.t 56)),(1,1,(.t 57))]),Co 59 (.callI 26 [(.t 47),(.t 58)]),Cv 46 59,Co 60 (.ext 0 (.t 46)),Co 61 (.ext 1 (.t 46)),Cv 8 60,Cv 9 61]) (.seq (.seq (.region [Cv 62 9,Co 63 (.un .not (.t 62))]) (.cond (.t 63) (.seq (.region [Co 2 (.move (.c (.bool false)))]) (.ret)) (.skip))) (.region [Cv 64 5,Cv 65 8,Co 66 (.iaddrA 256 1 (.t 4) (.t 64)),Ce (.store 1 (.t 66) (.t 65))]))))))))))) (.region [Co 76 (.bin .add (.t 30) (.c (.int .i64 1))),Cv 30 76]))))
def b_auto_builder_walk_l0:ACode:=(.seq (.seq (.region [Cv 21 3,Cv 22 0,Co 23 (.nilck (.t 22)),Co 24 (.faddr 2 (.t 23)),Co 25 (.load false 1 (.t 24)),Co 26 (.len 0 (.t 25)),Co 27 (.bin .lss (.t 21) (.t 26))]) (.cond (.t 27) (.skip) (.exit 0))) (.seq (.block 1 (.seq (.region [Co 4 (.alloc (List.replicate 256 (.int .i64 0)))]) (.seq (.seq (.region [Co 30 (.move (.c (.int .i64 0)))]) (.block 2 (.loop [0,3,4,30] b_auto_builder_walk_l1))) (.region [Cv 77 0,Cv 78 0,Co 79 (.nilck (.t 78)),Co 80 (.faddr 3 (.t 79)),Co 81 (.load false 1 (.t 80)),Co 82 (.load true 256 (.t 4)),Co 83 (.bslice .lit 256 true 1 (List.replicate 256 (.int .i64 0)) [(0,(.t 82))]),Co 84 (.append true .own 256 true 2048 (.t 81) (.t 83)),Co 85 (.nilck (.t 77)),Co 86 (.faddr 3 (.t 85)),Ce (.store 1 (.t 86) (.t 84))])))) (.region [Cv 28 3,Co 29 (.bin .add (.t 28) (.c (.int .i64 1))),Cv 3 29])))
def b_auto_builder_walk:AFn:=⟨1,[.tmp 2],(.seq (.region [Co 2 (.move (.c (.bool false)))]) (.seq (.region [Cv 10 0,Cv 11 0,Co 12 (.nilck (.t 11)),Co 13 (.faddr 0 (.t 12)),Co 14 (.faddr 0 (.t 13)),Co 15 (.load false 1 (.t 14)),Co 16 (.len 0 (.t 15)),Co 17 (.bin .shl (.c (.int .u32 1)) (.t 16)),Co 18 (.bin .sub (.t 17) (.c (.int .u32 1))),Co 19 (.build [(.int .i64 0),(.int .u32 0)] [(1,1,(.t 18))]),Co 20 (.callI 26 [(.t 10),(.t 19)])]) (.seq (.seq (.region [Co 3 (.move (.c (.int .i64 0)))]) (.block 0 (.loop [0,3] b_auto_builder_walk_l0))) (.seq (.region [Co 2 (.move (.c (.bool true)))]) (.ret)))))⟩
theorem fn_auto_builder_walk:FnOk P fo 96 b_auto_builder_walk:=fM Go.Proofs.Tryz.func96 dN (by kernel_rfl) (by kernel_rfl)
end Go.AM.B1
