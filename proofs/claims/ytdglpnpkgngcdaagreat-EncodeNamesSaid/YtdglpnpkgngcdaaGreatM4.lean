/- What functions of the program compute. -/
import Derived.Test.YtdglpnpkgngcdaaGreatM3
import Derived.Test.YtdglpnpkgngcdaaGreatM1
import Derived.Test.YtdglpnpkgngcdaaGreatA3
set_option linter.unusedVariables false
namespace Go.AM.B1
open Go.AM
def b_cmp_isNaN_int:AFn:=⟨1,[.tmp 2],(.seq (.region [Co 2 (.move (.c (.bool false)))]) (.seq (.region [Cv 3 0,Cv 4 0,Co 5 (.bin .neq (.t 3) (.t 4)),Cv 2 5]) (.ret)))⟩
theorem fn_cmp_isNaN_int:FnOk P fo 107 b_cmp_isNaN_int:=fM Go.Proofs.Tryz.func107 dN (by kernel_rfl) (by kernel_rfl)
def F_cmp_isNaN_int:List PV→Option PV:=pureF (fun _=>none) b_cmp_isNaN_int
theorem p_cmp_isNaN_int:PureFn P 107 F_cmp_isNaN_int:=pureF_ok noTable fn_cmp_isNaN_int
def b_cmp_Compare_int:AFn:=⟨2,[.tmp 4],(.seq (.region [Co 4 (.move (.c (.int .i64 0)))]) (.seq (.region [Cv 7 0,Co 8 (.callP F_cmp_isNaN_int [(.t 7)]),Cv 5 8]) (.seq (.region [Cv 9 1,Co 10 (.callP F_cmp_isNaN_int [(.t 9)]),Cv 6 10]) (.seq (.seq (.region [Cv 11 5]) (.cond (.t 11) (.seq (.seq (.region [Cv 12 6]) (.cond (.t 12) (.seq (.region [Co 4 (.move (.c (.int .i64 0)))]) (.ret)) (.skip))) (.seq (.region [Co 4 (.move (.c (.int .i64 (-1))))]) (.ret))) (.skip))) (.seq (.seq (.region [Cv 13 6]) (.cond (.t 13) (.seq (.region [Co 4 (.move (.c (.int .i64 1)))]) (.ret)) (.skip))) (.seq (.seq (.region [Cv 14 0,Cv 15 1,Co 16 (.bin .lss (.t 14) (.t 15))]) (.cond (.t 16) (.seq (.region [Co 4 (.move (.c (.int .i64 (-1))))]) (.ret)) (.skip))) (.seq (.seq (.region [Cv 17 0,Cv 18 1,Co 19 (.bin .gtr (.t 17) (.t 18))]) (.cond (.t 19) (.seq (.region [Co 4 (.move (.c (.int .i64 1)))]) (.ret)) (.skip))) (.seq (.region [Co 4 (.move (.c (.int .i64 0)))]) (.ret)))))))))⟩
theorem fn_cmp_Compare_int:FnOk P fo 70 b_cmp_Compare_int:=fM Go.Proofs.Tryz.func70 (dC p_cmp_isNaN_int (dC p_cmp_isNaN_int dN)) (by kernel_rfl) (by kernel_rfl)
def F_cmp_Compare_int:List PV→Option PV:=pureF (fun _=>none) b_cmp_Compare_int
theorem p_cmp_Compare_int:PureFn P 70 F_cmp_Compare_int:=pureF_ok noTable fn_cmp_Compare_int
def b_clash_Inject_1:AFn:=⟨3,[.tmp 5],(.seq (.region [Co 5 (.move (.c (.bool false)))]) (.seq (.region [Cv 6 0,Cv 7 1,Co 8 (.bin .lss (.t 6) (.t 7)),Cv 9 8,Cg 10 9 true (.faddr 0 (.t 2)),Cg 11 9 true (.load false 1 (.t 10)),Cg 12 9 true (.move (.t 0)),Cq 13 9 true (.iaddr 2 (.t 11) (.t 12)),Cg 14 9 true (.faddr 0 (.t 13)),Cg 15 9 true (.load false 1 (.t 14)),Cq 16 9 true (.len 0 (.t 15)),Cg 17 9 true (.faddr 0 (.t 2)),Cg 18 9 true (.load false 1 (.t 17)),Cg 19 9 true (.move (.t 1)),Cq 20 9 true (.iaddr 2 (.t 18) (.t 19)),Cg 21 9 true (.faddr 0 (.t 20)),Cg 22 9 true (.load false 1 (.t 21)),Cq 23 9 true (.len 0 (.t 22)),Cg 24 9 true (.bin .eql (.t 16) (.t 23)),Co 25 (.pick (.t 9) (.t 24) (.c (.bool false))),Cv 5 25]) (.ret)))⟩
theorem fn_clash_Inject_1:FnOk P fo 100 b_clash_Inject_1:=fM Go.Proofs.Tryz.func100 dN (by kernel_rfl) (by kernel_rfl)
def b_clash_Inject:AFn:=⟨1,[.cell 2 true 3,.tmp 3],(.seq (.region [Co 1 (.box 1 (.t 0)),Co 2 (.alloc [(.bool false),(.int .i64 0),(.int .i64 0)]),Co 3 (.move (.c (.int .i64 0)))]) (.seq (.region [Co 4 (.load true 1 (.t 1)),Co 5 (.mkfn 37 [(.t 1)]),Co 6 (.callI 25 [(.t 4),(.t 5)]),Co 7 (.ext 0 (.t 6)),Co 8 (.ext 1 (.t 6)),Ce (.store 3 (.t 2) (.t 7)),Cv 3 8]) (.ret)))⟩
theorem fn_clash_Inject:FnOk P fo 64 b_clash_Inject:=fM Go.Proofs.Tryz.func64 dN (by kernel_rfl) (by kernel_rfl)
def t_clash_Inject:Nat→Option AFn
 |37=>some b_clash_Inject_1
 |25=>some b_clash_search
 |_=>none
theorem tok_clash_Inject:TableOk P fo t_clash_Inject:=by
 intro ix af h
 unfold t_clash_Inject at h
 split at h
 ·injection h with h;subst h;exact fn_clash_Inject_1
 ·injection h with h;subst h;exact fn_clash_search
 ·cases h
def F_clash_Inject:List PV→Option PV:=pureF t_clash_Inject b_clash_Inject
theorem p_clash_Inject:PureFn P 64 F_clash_Inject:=pureF_ok tok_clash_Inject fn_clash_Inject
def b_sets_All:AFn:=⟨2,[.tmp 4],(.seq (.region [Co 2 (.boxR 1 (.t 0)),Co 3 (.boxR 1 (.t 1)),Co 4 (.move (.c .nilf))]) (.seq (.region [Co 5 (.mkfn 35 [(.t 2),(.t 3)]),Cv 4 5]) (.ret)))⟩
theorem fn_sets_All:FnOk P fo 135 b_sets_All:=fM Go.Proofs.Tryz.func135 dN (by kernel_rfl) (by kernel_rfl)
def b_spans_All:AFn:=⟨2,[.tmp 4],(.seq (.region [Co 4 (.move (.c .nilf))]) (.seq (.region [Cv 5 0,Co 6 (.callP F_spans_set [(.t 5)]),Cv 7 1,Co 8 (.callI 38 [(.t 6),(.t 7)]),Cv 4 8]) (.ret)))⟩
theorem fn_spans_All:FnOk P fo 104 b_spans_All:=fM Go.Proofs.Tryz.func104 (dC p_spans_set dN) (by kernel_rfl) (by kernel_rfl)
def b_digits_Of_r0:ACode:=(.block 3 (.seq (.region [Co 41 (.load false 1 (.t 6)),Co 42 (.load false 1 (.t 6)),Co 43 (.nilck (.t 42)),Co 44 (.faddr 0 (.t 43)),Co 45 (.load false 1 (.t 44)),Cv 46 7,Co 47 (.conv .u8 (.t 46)),Co 48 (.bslice .lit 1 false 1 [(.int .u8 0)] [(0,(.t 47))]),Co 49 (.append false .uq 1 false 1 (.t 45) (.t 48)),Co 50 (.nilck (.t 41)),Co 51 (.faddr 0 (.t 50)),Ce (.store 1 (.t 51) (.t 49))]) (.region [Co 52 (.load false 1 (.t 6)),Cv 53 7,Co 54 (.load false 1 (.t 6)),Co 55 (.nilck (.t 54)),Co 56 (.faddr 0 (.t 55)),Co 57 (.load false 1 (.t 56)),Co 58 (.len 0 (.t 57)),Co 59 (.conv .u16 (.t 58)),Co 60 (.nilck (.t 52)),Co 61 (.faddr 1 (.t 60)),Co 62 (.iaddrA 256 1 (.t 61) (.t 53)),Ce (.store 1 (.t 62) (.t 59))])))
def b_digits_Of_l0:ACode:=(.seq (.seq (.region [Cv 20 5,Co 21 (.bin .geq (.t 20) (.c (.int .i64 0)))]) (.cond (.t 21) (.skip) (.exit 0))) (.seq (.block 1 (.seq (.region [Cv 24 3,Co 25 (.nilck (.t 24)),Co 26 (.faddr 0 (.t 25)),Co 27 (.load false 1 (.t 26)),Cv 28 5,Co 29 (.iaddr 258 (.t 27) (.t 28)),Co 6 (.alloc [.nilp]),Ce (.store 1 (.t 6) (.t 29))]) (.seq (.region [Co 30 (.load false 1 (.t 6)),Cv 31 4,Co 32 (.nilck (.t 30)),Co 33 (.faddr 257 (.t 32)),Ce (.store 1 (.t 33) (.t 31))]) (.seq (.seq (.region [Cp 34 (.faddr 0 (.t 1)),Cp 35 (.load false 1 (.t 34)),Cv 36 5,Co 37 (.iaddr 1 (.t 35) (.t 36)),Co 38 (.load false 1 (.t 37)),Co 39 (.callI 39 [(.t 38),(.c (.int .i64 0))])]) (.block 2 (.range 35 I_sets_All (.t 39) [40] [(7,40)] b_digits_Of_r0))) (.region [Cv 63 4,Co 64 (.load false 1 (.t 6)),Co 65 (.nilck (.t 64)),Co 66 (.faddr 0 (.t 65)),Co 67 (.load false 1 (.t 66)),Co 68 (.len 0 (.t 67)),Co 69 (.bin .mul (.t 63) (.t 68)),Cv 4 69]))))) (.region [Cv 22 5,Co 23 (.bin .sub (.t 22) (.c (.int .i64 1))),Cv 5 23])))
def b_digits_Of:AFn:=⟨1,[.tmp 2],(.seq (.region [Co 1 (.boxR 2 (.t 0)),Co 2 (.move (.c .nilp))]) (.seq (.region [Cp 8 (.faddr 0 (.t 1)),Cp 9 (.load false 1 (.t 8)),Co 10 (.len 0 (.t 9)),Co 11 (.mkslice .own 258 true ([.nils]++List.replicate 256 (.int .u16 0)++[(.int .i64 0)]) 544 (.t 10) (.t 10)),Co 12 (.build [.nils] [(0,1,(.t 11))]),Co 13 (.box 1 (.t 12)),Cv 3 13]) (.seq (.region [Co 4 (.move (.c (.int .i64 1)))]) (.seq (.seq (.region [Cv 14 3,Co 15 (.nilck (.t 14)),Co 16 (.faddr 0 (.t 15)),Co 17 (.load false 1 (.t 16)),Co 18 (.len 0 (.t 17)),Co 19 (.bin .sub (.t 18) (.c (.int .i64 1))),Cv 5 19]) (.block 0 (.loopG [1,2,3,4,5] b_digits_Of_l0))) (.seq (.region [Cv 70 3,Cv 2 70]) (.ret))))))⟩
theorem di_digits_Of:∀ d∈dutiesI b_digits_Of.body,IterFn P (fo d.1) d.2:=by
 intro d hd
 obtain rfl:d=(35,I_sets_All):=List.mem_singleton.1 hd
 exact Go.Proofs.all_iter
theorem fn_digits_Of:FnOk P fo 67 b_digits_Of:=fMI Go.Proofs.Tryz.func67 dN (di_digits_Of) (by kernel_rfl) (by kernel_rfl)
def t_digits_Of:Nat→Option AFn
 |39=>some b_spans_All
 |38=>some b_sets_All
 |_=>none
theorem tok_digits_Of:TableOk P fo t_digits_Of:=by
 intro ix af h
 unfold t_digits_Of at h
 split at h
 ·injection h with h;subst h;exact fn_spans_All
 ·injection h with h;subst h;exact fn_sets_All
 ·cases h
def F_digits_Of:List PV→Option PV:=pureF t_digits_Of b_digits_Of
theorem p_digits_Of:PureFn P 67 F_digits_Of:=pureF_ok tok_digits_Of fn_digits_Of
def b_table_Compile_l0:ACode:=(.seq (.region [Co 49 (.bin .lss (.t 48) (.t 47))]) (.seq (.cond (.t 49) (.skip) (.exit 0)) (.seq (.block 1 (.seq (.region [Cv 50 48,Co 51 (.iaddr 2 (.t 46) (.t 48)),Co 52 (.load true 2 (.t 51)),Co 10 (.alloc [.nils,(.int .i64 0)]),Cv 9 50,Ce (.store 2 (.t 10) (.t 52))]) (.seq (.region [Cv 53 8,Cv 54 8,Co 55 (.nilck (.t 54)),Co 56 (.faddr 4 (.t 55)),Co 57 (.load false 1 (.t 56)),Co 58 (.faddr 1 (.t 10)),Co 59 (.load false 1 (.t 58)),Co 60 (.faddr 1 (.t 10)),Co 61 (.load false 1 (.t 60)),Co 62 (.load true 2 (.t 10)),Co 63 (.callP F_shape_Count [(.t 62)]),Co 64 (.bin .add (.t 61) (.t 63)),Co 65 (.bin .sub (.t 64) (.c (.int .i64 1))),Cv 66 9,Co 67 (.build [(.int .i64 0),(.int .i64 0),(.int .i64 0)] [(0,1,(.t 59)),(1,1,(.t 65)),(2,1,(.t 66))]),Co 68 (.bslice .lit 3 true 1 [(.int .i64 0),(.int .i64 0),(.int .i64 0)] [(0,(.t 67))]),Co 69 (.append true .own 3 true 24 (.t 57) (.t 68)),Co 70 (.nilck (.t 53)),Co 71 (.faddr 4 (.t 70)),Ce (.store 1 (.t 71) (.t 69))]) (.seq (.region [Cv 72 8,Cv 73 8,Co 74 (.nilck (.t 73)),Co 75 (.faddr 5 (.t 74)),Co 76 (.load false 1 (.t 75)),Co 77 (.faddr 0 (.t 10)),Co 78 (.load false 1 (.t 77)),Co 79 (.len 0 (.t 78)),Co 80 (.mx [(.t 76),(.t 79)]),Co 81 (.nilck (.t 72)),Co 82 (.faddr 5 (.t 81)),Ce (.store 1 (.t 82) (.t 80))]) (.region [Cv 83 8,Cv 84 8,Co 85 (.nilck (.t 84)),Co 86 (.faddr 3 (.t 85)),Co 87 (.load false 1 (.t 86)),Co 88 (.load true 2 (.t 10)),Co 89 (.callP F_digits_Of [(.t 88)]),Co 90 (.bslice .lit 1 false 1 [.nilp] [(0,(.t 89))]),Co 91 (.append false .uq 1 false 8 (.t 87) (.t 90)),Co 92 (.nilck (.t 83)),Co 93 (.faddr 3 (.t 92)),Ce (.store 1 (.t 93) (.t 91))]))))) (.region [Co 94 (.bin .add (.t 48) (.c (.int .i64 1))),Cv 48 94]))))
def b_table_Compile_l2:ACode:=(.seq (.region [Co 109 (.bin .lss (.t 108) (.c (.int .i64 256)))]) (.seq (.cond (.t 109) (.skip) (.exit 4)) (.seq (.block 5 (.seq (.region [Cv 110 108,Cv 14 110]) (.region [Cv 111 14,Co 112 (.iaddrA 256 1 (.t 13) (.t 111)),Ce (.store 1 (.t 112) (.c (.int .i8 (-2))))]))) (.region [Co 113 (.bin .add (.t 108) (.c (.int .i64 1))),Cv 108 113]))))
def b_table_Compile_l4:ACode:=(.seq (.seq (.region [Cv 122 17,Co 123 (.faddr 1 (.t 16)),Co 124 (.load false 1 (.t 123)),Co 125 (.bin .leq (.t 122) (.t 124))]) (.cond (.t 125) (.skip) (.exit 8))) (.seq (.block 9 (.region [Cv 128 17,Co 129 (.faddr 2 (.t 16)),Co 130 (.load false 1 (.t 129)),Co 131 (.conv .i8 (.t 130)),Co 132 (.iaddrA 256 1 (.t 13) (.t 128)),Ce (.store 1 (.t 132) (.t 131))])) (.region [Cv 126 17,Co 127 (.bin .add (.t 126) (.c (.int .i64 1))),Cv 17 127])))
def b_table_Compile_l3:ACode:=(.seq (.region [Co 117 (.bin .lss (.t 116) (.t 115))]) (.seq (.cond (.t 117) (.skip) (.exit 6)) (.seq (.block 7 (.seq (.region [Co 118 (.iaddr 3 (.t 114) (.t 116)),Co 119 (.load true 3 (.t 118)),Co 16 (.alloc [(.int .i64 0),(.int .i64 0),(.int .i64 0)]),Ce (.store 3 (.t 16) (.t 119))]) (.seq (.region [Co 120 (.faddr 0 (.t 16)),Co 121 (.load false 1 (.t 120)),Cv 17 121]) (.block 8 (.loop [8,13,16,17,101,102,103,114,115,116] b_table_Compile_l4))))) (.region [Co 133 (.bin .add (.t 116) (.c (.int .i64 1))),Cv 116 133]))))
def b_table_Compile_l1:ACode:=(.seq (.region [Co 104 (.bin .lss (.t 103) (.t 102))]) (.seq (.cond (.t 104) (.skip) (.exit 2)) (.seq (.block 3 (.seq (.region [Co 105 (.iaddr 1 (.t 101) (.t 103)),Co 106 (.load false 1 (.t 105)),Cv 12 106]) (.seq (.region [Co 107 (.build (List.replicate 256 (.int .i8 0)) []),Co 13 (.alloc (List.replicate 256 (.int .i8 0))),Ce (.store 256 (.t 13) (.t 107))]) (.seq (.seq (.region [Co 108 (.move (.c (.int .i64 0)))]) (.block 4 (.loop [8,12,13,101,102,103,108] b_table_Compile_l2))) (.seq (.seq (.region [Cv 114 12,Co 115 (.len 0 (.t 114)),Co 116 (.move (.c (.int .i64 0)))]) (.block 6 (.loop [8,13,101,102,103,114,115,116] b_table_Compile_l3))) (.region [Cv 134 8,Cv 135 8,Co 136 (.nilck (.t 135)),Co 137 (.faddr 2 (.t 136)),Co 138 (.load false 1 (.t 137)),Co 139 (.load true 256 (.t 13)),Co 140 (.bslice .lit 256 true 1 (List.replicate 256 (.int .i8 0)) [(0,(.t 139))]),Co 141 (.append false .uq 256 true 256 (.t 138) (.t 140)),Co 142 (.nilck (.t 134)),Co 143 (.faddr 2 (.t 142)),Ce (.store 1 (.t 143) (.t 141))])))))) (.region [Co 144 (.bin .add (.t 103) (.c (.int .i64 1))),Cv 103 144]))))
def b_table_Compile:AFn:=⟨1,[.tmp 2,.tmp 3],(.seq (.region [Co 1 (.boxR 1 (.t 0)),Co 2 (.move (.c .nilp)),Co 3 (.move (.c (.int .i64 0)))]) (.seq (.region [Cp 19 (.load true 1 (.t 1)),Co 20 (.callP F_auto_Build [(.t 19)]),Cv 18 20,Co 21 (.ext 0 (.t 18)),Co 22 (.ext 1 (.t 18)),Co 4 (.alloc [.nils]),Ce (.store 1 (.t 4) (.t 21)),Cv 5 22]) (.seq (.seq (.region [Cv 23 5,Co 24 (.bin .eql (.t 23) (.c (.int .i64 0))),Cv 25 24,Cg 26 25 false (.move (.t 5)),Cg 27 25 false (.bin .eql (.t 26) (.c (.int .i64 130))),Co 28 (.pick (.t 25) (.c (.bool true)) (.t 27))]) (.cond (.t 28) (.seq (.region [Cp 30 (.load true 1 (.t 1)),Co 31 (.callP F_clash_Inject [(.t 30)]),Cv 29 31,Co 32 (.ext 0 (.t 29)),Co 33 (.ext 1 (.t 29)),Co 6 (.alloc [(.bool false),(.int .i64 0),(.int .i64 0)]),Ce (.store 3 (.t 6) (.t 32)),Cv 7 33]) (.seq (.region [Co 34 (.faddr 0 (.t 6)),Co 35 (.load false 1 (.t 34)),Co 36 (.un .not (.t 35))]) (.cond (.t 36) (.region [Co 5 (.move (.c (.int .i64 111)))]) (.skip)))) (.skip))) (.seq (.seq (.region [Cv 37 5,Co 38 (.bin .neq (.t 37) (.c (.int .i64 0)))]) (.cond (.t 38) (.seq (.region [Cv 39 5,Co 2 (.move (.c .nilp)),Cv 3 39]) (.ret)) (.skip))) (.seq (.region [Cp 40 (.load true 1 (.t 1)),Co 41 (.callP F_scheme_Copy [(.t 40)]),Co 42 (.load true 1 (.t 4)),Co 43 (.build [.nils,.nils,.nils,.nils,.nils,(.int .i64 0)] [(0,1,(.t 41)),(1,1,(.t 42))]),Co 44 (.box 6 (.t 43)),Cv 8 44]) (.ghost (.mkuqC 8 2 256) (.ghost (.mkuqC 8 3 1) (.ghost (.mkownC 8 4 3 true) (.seq (.seq (.region [Cp 45 (.faddr 0 (.t 1)),Cp 46 (.load false 1 (.t 45)),Co 47 (.len 0 (.t 46)),Co 48 (.move (.c (.int .i64 0)))]) (.block 0 (.loop [4,8,46,47,48] b_table_Compile_l0))) (.seq (.region [Cv 95 8,Co 96 (.nilck (.t 95)),Co 97 (.faddr 4 (.t 96)),Co 98 (.load false 1 (.t 97)),Co 99 (.callI 34 [(.t 98),(.f 36)])]) (.seq (.seq (.region [Co 100 (.faddr 0 (.t 4)),Co 101 (.load false 1 (.t 100)),Co 102 (.len 0 (.t 101)),Co 103 (.move (.c (.int .i64 0)))]) (.block 2 (.loop [8,101,102,103] b_table_Compile_l1))) (.seq (.region [Cv 145 8,Cv 2 145,Co 3 (.move (.c (.int .i64 0)))]) (.ret)))))))))))))⟩
theorem fn_table_Compile:FnOk P fo 16 b_table_Compile:=fM Go.Proofs.Tryz.func16 (dC p_auto_Build (dC p_clash_Inject (dC p_scheme_Copy (dC p_shape_Count (dC p_digits_Of dN))))) (by kernel_rfl) (by kernel_rfl)
def sortRow:CallF:=fun ix args H=>if ix=34 then sortA 3 0 36 args H else none
def F_table_Compile:List PV→Option PV:=pureS sortRow (fun _=>none) b_table_Compile
theorem p_table_Compile:PureFn P 16 F_table_Compile:=pureS_ok noTable (sortA_ok (fo:=fo) (s:=34) (g:=36) Go.Proofs.rowSort) fn_table_Compile
def b_slices_BinarySearchFunc_api_Row_api_Row_int_l0:ACode:=(.seq (.seq (.region [Cv 15 9,Cv 16 10,Co 17 (.bin .lss (.t 15) (.t 16))]) (.cond (.t 17) (.skip) (.exit 0))) (.block 1 (.seq (.region [Cv 18 9,Cv 19 10,Co 20 (.bin .add (.t 18) (.t 19)),Co 21 (.conv .u64 (.t 20)),Co 22 (.bin .shr (.t 21) (.c (.int .u64 1))),Co 23 (.conv .i64 (.t 22)),Cv 11 23]) (.seq (.region [Cv 24 2,Cv 25 0,Cv 26 11,Co 27 (.iaddr 3 (.t 25) (.t 26)),Co 28 (.load true 3 (.t 27)),Cv 29 1,Co 30 (.callV (.t 24) [(.t 28),(.t 29)]),Co 31 (.bin .lss (.t 30) (.c (.int .i64 0)))]) (.cond (.t 31) (.region [Cv 32 11,Co 33 (.bin .add (.t 32) (.c (.int .i64 1))),Cv 9 33]) (.region [Cv 34 11,Cv 10 34]))))))
def b_slices_BinarySearchFunc_api_Row_api_Row_int:AFn:=⟨3,[.tmp 6,.tmp 7],(.seq (.region [Co 6 (.move (.c (.int .i64 0))),Co 7 (.move (.c (.bool false)))]) (.seq (.region [Cv 12 0,Co 13 (.len 0 (.t 12)),Cv 8 13]) (.seq (.region [Cv 14 8,Co 9 (.move (.c (.int .i64 0))),Cv 10 14]) (.seq (.block 0 (.loop [0,1,2,8,9,10] b_slices_BinarySearchFunc_api_Row_api_Row_int_l0)) (.seq (.region [Cv 35 9,Cv 36 9,Cv 37 8,Co 38 (.bin .lss (.t 36) (.t 37)),Cv 39 38,Cg 40 39 true (.move (.t 2)),Cg 41 39 true (.move (.t 0)),Cg 42 39 true (.move (.t 9)),Cg 43 39 true (.iaddr 3 (.t 41) (.t 42)),Cg 44 39 true (.load true 3 (.t 43)),Cg 45 39 true (.move (.t 1)),Cg 46 39 true (.callV (.t 40) [(.t 44),(.t 45)]),Cg 47 39 true (.bin .eql (.t 46) (.c (.int .i64 0))),Co 48 (.pick (.t 39) (.t 47) (.c (.bool false))),Cv 6 35,Cv 7 48]) (.ret))))))⟩
theorem fn_slices_BinarySearchFunc_api_Row_api_Row_int:FnOk P fo 113 b_slices_BinarySearchFunc_api_Row_api_Row_int:=fM Go.Proofs.Tryz.func113 dN (by kernel_rfl) (by kernel_rfl)
def b_table_Table_row_1:AFn:=⟨2,[.tmp 4],(.seq (.region [Co 2 (.boxR 3 (.t 0)),Co 4 (.move (.c (.int .i64 0)))]) (.seq (.region [Cp 5 (.faddr 0 (.t 2)),Cp 6 (.load false 1 (.t 5)),Cv 7 1,Co 8 (.callP F_cmp_Compare_int [(.t 6),(.t 7)]),Cv 4 8]) (.ret)))⟩
theorem fn_table_Table_row_1:FnOk P fo 114 b_table_Table_row_1:=fM Go.Proofs.Tryz.func114 (dC p_cmp_Compare_int dN) (by kernel_rfl) (by kernel_rfl)
def b_table_Table_row:AFn:=⟨2,[.cell 4 true 3,.tmp 5],(.seq (.region [Co 4 (.alloc [(.int .i64 0),(.int .i64 0),(.int .i64 0)]),Co 5 (.move (.c (.bool false)))]) (.seq (.seq (.region [Cv 8 0,Co 9 (.eq 1 false (.t 8) (.c .nilp))]) (.cond (.t 9) (.seq (.region [Co 10 (.build [(.int .i64 0),(.int .i64 0),(.int .i64 0)] []),Ce (.store 3 (.t 4) (.t 10)),Co 5 (.move (.c (.bool false)))]) (.ret)) (.skip))) (.seq (.region [Cv 12 0,Co 13 (.nilck (.t 12)),Co 14 (.faddr 4 (.t 13)),Co 15 (.load false 1 (.t 14)),Cv 16 1,Co 17 (.callI 40 [(.t 15),(.t 16),(.f 41)]),Cv 11 17,Co 18 (.ext 0 (.t 11)),Co 19 (.ext 1 (.t 11)),Cv 6 18,Cv 7 19]) (.seq (.seq (.region [Cv 20 7,Co 21 (.un .not (.t 20))]) (.cond (.t 21) (.region [Cv 22 6,Co 23 (.bin .sub (.t 22) (.c (.int .i64 1))),Cv 6 23]) (.skip))) (.seq (.seq (.region [Cv 24 6,Co 25 (.bin .lss (.t 24) (.c (.int .i64 0))),Cv 26 25,Cg 27 26 false (.move (.t 1)),Cg 28 26 false (.move (.t 0)),Cg 29 26 false (.nilck (.t 28)),Cg 30 26 false (.faddr 4 (.t 29)),Cg 31 26 false (.load false 1 (.t 30)),Cg 32 26 false (.move (.t 6)),Cg 33 26 false (.iaddr 3 (.t 31) (.t 32)),Cg 34 26 false (.faddr 1 (.t 33)),Cg 35 26 false (.load false 1 (.t 34)),Cg 36 26 false (.bin .gtr (.t 27) (.t 35)),Co 37 (.pick (.t 26) (.c (.bool true)) (.t 36))]) (.cond (.t 37) (.seq (.region [Co 38 (.build [(.int .i64 0),(.int .i64 0),(.int .i64 0)] []),Ce (.store 3 (.t 4) (.t 38)),Co 5 (.move (.c (.bool false)))]) (.ret)) (.skip))) (.seq (.region [Cv 39 0,Co 40 (.nilck (.t 39)),Co 41 (.faddr 4 (.t 40)),Co 42 (.load false 1 (.t 41)),Cv 43 6,Co 44 (.iaddr 3 (.t 42) (.t 43)),Co 45 (.load true 3 (.t 44)),Ce (.store 3 (.t 4) (.t 45)),Co 5 (.move (.c (.bool true)))]) (.ret)))))))⟩
theorem fn_table_Table_row:FnOk P fo 78 b_table_Table_row:=fM Go.Proofs.Tryz.func78 dN (by kernel_rfl) (by kernel_rfl)
def t_table_Table_row:Nat→Option AFn
 |40=>some b_slices_BinarySearchFunc_api_Row_api_Row_int
 |41=>some b_table_Table_row_1
 |_=>none
theorem tok_table_Table_row:TableOk P fo t_table_Table_row:=by
 intro ix af h
 unfold t_table_Table_row at h
 split at h
 ·injection h with h;subst h;exact fn_slices_BinarySearchFunc_api_Row_api_Row_int
 ·injection h with h;subst h;exact fn_table_Table_row_1
 ·cases h
def F_table_Table_row:List PV→Option PV:=pureF t_table_Table_row b_table_Table_row
theorem p_table_Table_row:PureFn P 78 F_table_Table_row:=pureF_ok tok_table_Table_row fn_table_Table_row
def b_digits_Shape_Unrank_l0:ACode:=(.seq (.region [Co 20 (.bin .lss (.t 19) (.t 18))]) (.seq (.cond (.t 20) (.skip) (.exit 0)) (.seq (.block 1 (.seq (.region [Cv 21 19,Cv 6 21]) (.seq (.region [Cv 22 0,Co 23 (.nilck (.t 22)),Co 24 (.faddr 0 (.t 23)),Co 25 (.load false 1 (.t 24)),Cv 26 6,Co 27 (.iaddr 258 (.t 25) (.t 26)),Cv 7 27]) (.seq (.region [Cv 28 5,Cv 29 7,Co 30 (.nilck (.t 29)),Co 31 (.faddr 0 (.t 30)),Co 32 (.load false 1 (.t 31)),Cv 33 1,Cv 34 7,Co 35 (.nilck (.t 34)),Co 36 (.faddr 257 (.t 35)),Co 37 (.load false 1 (.t 36)),Co 38 (.bin .quo (.t 33) (.t 37)),Cp 39 (.iaddr 1 (.t 32) (.t 38)),Cp 40 (.load false 1 (.t 39)),Co 41 (.bslice .lit 1 false 1 [(.int .u8 0)] [(0,(.t 40))]),Co 42 (.append false .uq 1 false 1 (.t 28) (.t 41)),Cv 5 42]) (.region [Cv 43 1,Cv 44 7,Co 45 (.nilck (.t 44)),Co 46 (.faddr 257 (.t 45)),Co 47 (.load false 1 (.t 46)),Co 48 (.bin .rem (.t 43) (.t 47)),Cv 1 48]))))) (.region [Co 49 (.bin .add (.t 19) (.c (.int .i64 1))),Cv 19 49]))))
def b_digits_Shape_Unrank:AFn:=⟨2,[.tmp 4],(.seq (.region [Co 4 (.move (.c .nils))]) (.seq (.region [Cv 8 0,Co 9 (.nilck (.t 8)),Co 10 (.faddr 0 (.t 9)),Co 11 (.load false 1 (.t 10)),Co 12 (.len 0 (.t 11)),Co 13 (.mkslice .uq 1 false [(.int .u8 0)] 1 (.c (.int .i64 0)) (.t 12)),Cv 5 13]) (.seq (.seq (.region [Cv 14 0,Co 15 (.nilck (.t 14)),Co 16 (.faddr 0 (.t 15)),Co 17 (.load false 1 (.t 16)),Co 18 (.len 0 (.t 17)),Co 19 (.move (.c (.int .i64 0)))]) (.block 0 (.loop [0,1,5,18,19] b_digits_Shape_Unrank_l0))) (.seq (.region [Cv 50 5,Cv 4 50]) (.ret)))))⟩
theorem fn_digits_Shape_Unrank:FnOk P fo 79 b_digits_Shape_Unrank:=fM Go.Proofs.Tryz.func79 dN (by kernel_rfl) (by kernel_rfl)
def F_digits_Shape_Unrank:List PV→Option PV:=pureF (fun _=>none) b_digits_Shape_Unrank
theorem p_digits_Shape_Unrank:PureFn P 79 F_digits_Shape_Unrank:=pureF_ok noTable fn_digits_Shape_Unrank
def b_table_Table_Encode:AFn:=⟨2,[.tmp 4,.tmp 5],(.seq (.region [Co 4 (.move (.c .nils)),Co 5 (.move (.c (.bool false)))]) (.seq (.region [Cv 9 0,Cv 10 1,Co 11 (.callP F_table_Table_row [(.t 9),(.t 10)]),Cv 8 11,Co 12 (.ext 0 (.t 8)),Co 13 (.ext 1 (.t 8)),Co 6 (.alloc [(.int .i64 0),(.int .i64 0),(.int .i64 0)]),Ce (.store 3 (.t 6) (.t 12)),Cv 7 13]) (.seq (.seq (.region [Cv 14 7,Co 15 (.un .not (.t 14))]) (.cond (.t 15) (.seq (.region [Co 4 (.move (.c .nils)),Co 5 (.move (.c (.bool false)))]) (.ret)) (.skip))) (.seq (.region [Cv 16 0,Co 17 (.nilck (.t 16)),Co 18 (.faddr 3 (.t 17)),Co 19 (.load false 1 (.t 18)),Co 20 (.faddr 2 (.t 6)),Co 21 (.load false 1 (.t 20)),Cp 22 (.iaddr 1 (.t 19) (.t 21)),Cp 23 (.load false 1 (.t 22)),Cv 24 1,Co 25 (.faddr 0 (.t 6)),Co 26 (.load false 1 (.t 25)),Co 27 (.bin .sub (.t 24) (.t 26)),Co 28 (.callP F_digits_Shape_Unrank [(.t 23),(.t 27)]),Cv 4 28,Co 5 (.move (.c (.bool true)))]) (.ret)))))⟩
theorem fn_table_Table_Encode:FnOk P fo 22 b_table_Table_Encode:=fM Go.Proofs.Tryz.func22 (dC p_table_Table_row (dC p_digits_Shape_Unrank dN)) (by kernel_rfl) (by kernel_rfl)
def F_table_Table_Encode:List PV→Option PV:=pureF (fun _=>none) b_table_Table_Encode
theorem p_table_Table_Encode:PureFn P 22 F_table_Table_Encode:=pureF_ok noTable fn_table_Table_Encode
end Go.AM.B1
set_option linter.unusedSimpArgs false
namespace Go.AM.B1
open Go.AM
def sizeR:Int→List (Int×Int)→Int
 |n,[]=>n
 |n,p::r=>sizeR (n+(p.2 - p.1+1)) r
abbrev envZ (v:PV) (len i n:Int):Tr:=(((Tr.lf.set 8 (.pv (i64 i))).set 7 (.pv (i64 len))).set 6 (.pv v)).set 3 (.pv (i64 n))
theorem size_run (v:PV) (l:List (Int×Int)) (hv:IsL 2 v (prs l)) (hw:l.length≤maxLen) {top:Int} (ht:top≤4611686018427387900) (hval:validR top (-2) l=true):F_sets_Size [v]=some (i64 (sizeR 0 l)):=by
 have ls:=hv.len
 simp only[prs,List.length_map] at ls
 have key:=loopN_wp (g:=roundL (callL (fun _=>none) 8) [3,6,7,8] b_sets_Size_l0 0)
  (fun i t=>∃ n last,t=⟨envZ v l.length i n,[]⟩∧sizeR 0 l=sizeR n (l.drop i)∧validR top last (l.drop i)=true∧0≤n∧n≤max 0 (last+1)∧last≤top)
  (Q:=fun r=>∃ E H,r=(.exit 0,⟨E,H⟩)∧E.get 3= .pv (i64 (sizeR 0 l)))
  l.length (by unfold rounds;unfold maxLen at hw;omega) ⟨envZ v l.length (0:Nat) 0,[]⟩ ?_ ?_ ?_
 ·obtain⟨⟨ex,t⟩,h,_,E,H,he,hE⟩:=wpO_spec key
  cases he
  have h':loopA (roundA (evalC (callL (fun _=>none) 8) b_sets_Size_l0) (clean 0 [3,6,7,8])) rounds ⟨envZ v l.length 0 0,[]⟩=some (.exit 0,⟨E,H⟩):=h
  simp only[envZ] at h'
  simp (implicitDefEqProofs:=false) only[F_sets_Size,SP,SA,SQ,WP,WQ,sevalprocAttr,-List.reduceReplicate,b_sets_Size,ls,C_loop,h',hE]
 ·refine⟨0,min (-2) top,rfl,rfl,?_,by omega,by omega,by omega⟩
  have mono:∀ {a b:Int} {r:List (Int×Int)},a≤b→validR top b r=true→validR top a r=true:=by
   intro a b r hab h
   cases r with
   |nil=>rfl
   |cons p r=>
    obtain⟨h1,h2,h3,h4,h5⟩:=validR_cons h
    simp only[validR,h5,Bool.and_true,Bool.not_eq_true',Bool.or_eq_false_iff,decide_eq_false_iff_not]
    exact⟨⟨⟨h1,h2⟩,h3⟩,by omega⟩
  exact mono (by omega) hval
 ·rintro i t hi ⟨n,last,rfl,hr,hva,hn0,hn1,hlast⟩
  have hv:=hv.lit (i:=i) (by simpa using hi)
  subst hv
  have hd:l.drop i=l[i]::l.drop (i+1):=List.drop_eq_getElem_cons hi
  rw[hd] at hr hva
  obtain⟨h1,h2,h3,h4,h5⟩:=validR_cons hva
  rw[sizeR] at hr
  have t2:=stepWrap hi hw
  have hg:=prs_get hi
  have hl:(prs l).length=l.length:=by simp
  generalize l[i]=p at *
  have t3:IntKind.i64.wrap (p.2 - p.1)=p.2 - p.1:=wrap_int (by omega)
  have t4:IntKind.i64.wrap (p.2 - p.1+1)=p.2 - p.1+1:=wrap_int (by omega)
  have t5:IntKind.i64.wrap (n+(p.2 - p.1+1))=n+(p.2 - p.1+1):=wrap_int (by omega)
  generalize hes:prs l=es at *
  generalize hQ:LN _ _ i=Q
  simp (implicitDefEqProofs:=false) only[SP,SA,SQ,WP,WQ,sevalprocAttr,-List.reduceReplicate,b_sets_Size_l0,hi,hl,t2,t3,t4,t5,hg,envZ]
  subst hQ
  exact⟨_,p.2,rfl,hr,h5,by omega,by omega,by omega⟩
 ·rintro t ⟨n,last,rfl,hr,_⟩
  rw[List.drop_length,sizeR] at hr
  have e1:decide (l.length < l.length)=false:=dec_f (by omega)
  generalize hQ:(fun r:Ex×St=>r.1.stop=true∧_)=Q
  simp (implicitDefEqProofs:=false) only[SP,SA,SQ,WP,WQ,sevalprocAttr,-List.reduceReplicate,b_sets_Size_l0,e1,envZ]
  subst hQ
  exact⟨rfl,_,_,rfl,by rw[hr];rfl⟩
theorem _root_.Go.AM.So.HGood.cut {H:List AObj} (h:So.HGood H):mapO (cutObj H.length) H=some H:=So.mapO_id fun o ho=>h _ (Nat.le_refl _) o ho
theorem get_top (A:List AObj) (o:AObj):(A++[o])[A.length]? =some o:=by simp
theorem set_top (A:List AObj) (o o':AObj):(A++[o]).set A.length o'=A++[o']:=by
 rw[List.set_append_right _ _ (Nat.le_refl _)];simp
theorem iaddr_app {A:List AObj} (T:List AObj) {sz id n:Nat} {i:Int} {v:AV} (hid:id < A.length) (h:iaddrA' A sz (.own id n) i=some v):iaddrA' (A++T) sz (.own id n) i=some v:=by
 simp only[iaddrA'] at h ⊢
 rw[List.getElem?_append_left hid];exact h
theorem load_app {A:List AObj} (T:List AObj) {sz id:Nat} {ag:Bool} {m off:Nat} {v:AV} (hid:id < A.length) (h:loadA A ag sz (.eptr id m off)=some v):loadA (A++T) ag sz (.eptr id m off)=some v:=by
 simp only[loadA] at h ⊢
 rw[List.getElem?_append_left hid];exact h
end Go.AM.B1
namespace Go.AM.B1
open Go.AM Go.AM.So
theorem cutEnv_get {n:Nat} {E:Tr}:∀ {live:List Nat},(∀ t∈live,(E.get t).cut n deep=some (E.get t))→∃ E',cutEnv n E live=some E'∧∀ t∈live,E'.get t=E.get t
 | [],_=>⟨.lf,rfl,by simp⟩
 |a::live,h=>by
  obtain⟨E',h1,h2⟩:=cutEnv_get (live:=live) fun t ht=>h t (by simp[ht])
  refine⟨E'.set a (E.get a),by rw[cutEnv,h a (by simp),Option.bind_some,h1];rfl,fun t ht=> ?_⟩
  rw[Tr.get_set]
  by_cases he:t=a
  ·rw[if_pos he,he]
  ·rw[if_neg he]
   rcases List.mem_cons.1 ht with h3 | h3
   ·exact absurd h3 he
   ·exact h2 t h3
theorem clean_get {n:Nat} {live:List Nat} {E:Tr} {A T:List AObj} (hn:A.length=n) (hA:∀ o∈A,cutObj n o=some o) (hE:∀ t∈live,(E.get t).cut n deep=some (E.get t)):
 ∃ E',clean n live ⟨E,A++T⟩=some ⟨E',A⟩∧∀ t∈live,E'.get t=E.get t:=by
 obtain⟨E',h1,h2⟩:=cutEnv_get hE
 refine⟨E',?_,h2⟩
 subst hn
 simp only[clean,h1,Option.bind_some]
 rw[List.take_left' rfl,mapO_id hA];rfl
def EndOf (n:Nat) (live:List Nat) (J:St→Prop) (s:St):Prop:=
 ∃ A T,s.H=A++T∧A.length=n∧(∀ o∈A,cutObj n o=some o)∧(∀ t∈live,(s.env.get t).cut n deep=some (s.env.get t))∧∀ E',(∀ t∈live,E'.get t=s.env.get t)→J ⟨E',A⟩
theorem EndOf.clean {n:Nat} {live:List Nat} {J:St→Prop} {s:St} (h:EndOf n live J s):∃ s',clean n live s=some s'∧J s':=by
 obtain⟨A,T,h1,h2,h3,h4,h5⟩:=h
 obtain⟨E,H⟩:=s
 simp only at h1 h4 h5
 subst h1
 obtain⟨E',h6,h7⟩:=clean_get (T:=T) h2 h3 h4
 exact⟨_,h6,h5 E' h7⟩
def RQ (n:Nat) (live:List Nat) (J:St→Prop) (Q:Ex×St→Prop):Ex×St→Prop
 | (.norm,s)=>EndOf n live J s
 |r=>Q r
theorem RQ_norm {n:Nat} {live:List Nat} {J:St→Prop} {Q:Ex×St→Prop} {s:St}:RQ n live J Q (.norm,s)=EndOf n live J s:=rfl
theorem round_of {call:CallF} {b:ACode} {n:Nat} {live:List Nat} {I:Nat→St→Prop} {Q:Ex×St→Prop} {i:Nat} {s:St} (h:wpO (RQ n live (I (i+1)) Q) (evalC call b s)):
 wpO (LN I Q i) (roundA (evalC call b) (clean n live) s):=by
 rw[roundA,wp_seqA]
 refine wpO_mono h ?_
 rintro⟨ex,t⟩ hr
 cases ex with
 |norm=>
  obtain⟨s',h1,h2⟩:=EndOf.clean hr
  show wpO _ (normA (Go.AM.clean n live t))
  rw[h1];exact h2
 |exit=>exact hr
 |ret=>exact hr
theorem round_end {call:CallF} {b:ACode} {cl:St→Option St} {Q:Ex×St→Prop} {s:St} (h:wpO (fun r=>r.1.stop=true∧Q r) (evalC call b s)):
 wpO (fun r=>r.1.stop=true∧Q r) (roundA (evalC call b) cl s):=by
 rw[roundA,wp_seqA]
 refine wpO_mono h ?_
 rintro⟨ex,t⟩ ⟨h1,h2⟩
 cases ex with
 |norm=>cases h1
 |exit=>exact⟨h1,h2⟩
 |ret=>exact⟨h1,h2⟩
theorem loop_of {call:CallF} {b:ACode} {live:List Nat} {Q:Ex×St→Prop} {s:St} (I:Nat→St→Prop) (N:Nat) (hN:N < rounds) (h0:EndOf s.H.length live (I 0) s)
 (hs:∀ i t,i < N→I i t→wpO (RQ s.H.length live (I (i+1)) Q) (evalC call b t)) (he:∀ t,I N t→wpO (fun r=>r.1.stop=true∧Q r) (evalC call b t)):
 wpO (fun r=>r.1.stop=true∧Q r) (evalC call (.loop live b) s):=by
 obtain⟨s',h1,h2⟩:=h0.clean
 rw[C_loop,h1]
 exact loopN_wp I N hN s' h2 (fun i t hi hI=>round_of (hs i t hi hI)) (fun t hI=>round_end (he t hI))
theorem loop_meas {call:CallF} {b:ACode} {live:List Nat} {Q:Ex×St→Prop} {s:St} (I:Nat→St→Prop) (N:Nat) (hN:N < rounds) (h0:EndOf s.H.length live (I N) s)
 (hs:∀ k t,I k t→wpO (RQ s.H.length live (fun s'=>∃ j,j < k∧I j s') Q) (evalC call b t)):
 wpO (fun r=>r.1.stop=true∧Q r) (evalC call (.loop live b) s):=by
 obtain⟨s',h1,h2⟩:=h0.clean
 rw[C_loop,h1]
 refine loopA_wp I rounds N s' hN h2 fun k t hI=> ?_
 rw[roundA,wp_seqA]
 refine wpO_mono (hs k t hI) ?_
 rintro⟨ex,t⟩ hr
 cases ex with
 |norm=>
  obtain⟨s',h1,h2⟩:=EndOf.clean (J:=fun s'=>∃ j,j < k∧I j s') hr
  show wpO _ (normA (Go.AM.clean _ live t))
  rw[h1];exact h2
 |exit=>exact hr
 |ret=>exact hr
theorem EndOf.all {live:List Nat} {J:St→Prop} {E:Tr} {H:List AObj} {n:Nat} (hn:n=H.length) (h1:∀ o∈H,cutObj n o=some o) (h2:∀ t∈live,(E.get t).cut n deep=some (E.get t)) (h3:∀ E',(∀ t∈live,E'.get t=E.get t)→J ⟨E',H⟩):EndOf n live J ⟨E,H⟩:=
 ⟨H,[],by simp,hn.symm,h1,h2,h3⟩
theorem EndOf.front {live:List Nat} {J:St→Prop} {E:Tr} {A T:List AObj} {n:Nat} (hn:n=A.length) (h1:∀ o∈A,cutObj n o=some o) (h2:∀ t∈live,(E.get t).cut n deep=some (E.get t)) (h3:∀ E',(∀ t∈live,E'.get t=E.get t)→J ⟨E',A⟩):EndOf n live J ⟨E,A++T⟩:=
 ⟨A,T,rfl,hn.symm,h1,h2,h3⟩
theorem cut_ptr {n d id off:Nat} (h:id < n):AV.cut n d (.ptr id off)=some (.ptr id off):=by
 cases d <;> simp[AV.cut,h]
theorem cut_own {n d id len:Nat} (h:id < n):AV.cut n d (.own id len)=some (.own id len):=by
 cases d <;> simp[AV.cut,h]
theorem cut_uq {n d id sz:Nat} {nl:Bool} {es:List PV} (h:id < n):AV.cut n d (.uq id nl sz es)=some (.uq id nl sz es):=by
 cases d <;> simp[AV.cut,h]
theorem boxP_cut (n:Nat) (cs:List PV):cutObj n (.box (cs.map .pv))=some (.box (cs.map .pv)):=by
 have:mapO (AV.cut n deep) (cs.map .pv)=some (cs.map .pv):=mapO_id fun a ha=>by
  obtain⟨p,_,rfl⟩:=List.mem_map.1 ha
  exact cut_pv
 simp[cutObj,this]
def Keep (l:List Nat) (E E':Tr):Prop:=∀ t∈l,E'.get t=E.get t
theorem Keep.refl (l:List Nat) (E:Tr):Keep l E E:=fun _ _=>rfl
theorem Keep.trans {l:List Nat} {E E' E'':Tr} (h1:Keep l E E') (h2:Keep l E' E''):Keep l E E'':=fun t ht=>(h2 t ht).trans (h1 t ht)
theorem Keep.sub {l l':List Nat} {E E':Tr} (h:Keep l E E') (hs:l'.all l.contains=true):Keep l' E E':=fun t ht=>h t (by
 have:=List.all_eq_true.1 hs t ht
 simpa using this)
theorem Keep.set {l:List Nat} {E E':Tr} {k:Nat} {v:AV} (h:Keep l E E') (hk:l.contains k=false):Keep l E (E'.set k v):=fun t ht=>by
 have:t≠k:=by
  rintro rfl
  have:l.contains t=true:=by simpa using ht
  rw[hk] at this;cases this
 rw[Tr.get_set,if_neg this];exact h t ht
def Fit (n:Nat) (l:List Nat) (E:Tr):Prop:=∀ t∈l,(E.get t).cut n deep=some (E.get t)
theorem Fit.nil (n:Nat) (E:Tr):Fit n [] E:=fun _ h=>by cases h
theorem Fit.cons {n t:Nat} {l:List Nat} {E:Tr} {v:AV} (h:E.get t=v) (hv:v.cut n deep=some v) (hl:Fit n l E):Fit n (t::l) E:=fun u hu=>by
 rcases List.mem_cons.1 hu with rfl | hu
 ·rw[h];exact hv
 ·exact hl u hu
theorem Fit.keep {n:Nat} {l:List Nat} {E E':Tr} (h:Fit n l E) (hk:Keep l E E'):Fit n l E':=fun t ht=>by rw[hk t ht];exact h t ht
theorem Fit.sub {n:Nat} {l l':List Nat} {E:Tr} (h:Fit n l E) (hs:l'.all l.contains=true):Fit n l' E:=fun t ht=>h t (by
 have:=List.all_eq_true.1 hs t ht
 simpa using this)
end Go.AM.B1
namespace Go.AM.B1
open Go.AM Go.AM.So
theorem to_range_eq:F_sets_To_sets_Run_api_Range=F_sets_To_sets_Run_api_Span:=rfl
theorem to_range2_eq:F_sets_To_api_Range_sets_Run=F_sets_To_sets_Run_api_Span:=rfl
theorem to_span2_eq:F_sets_To_api_Span_sets_Run=F_sets_To_sets_Run_api_Span:=rfl
def prow (p:Int×Int):List PV:=[i64 p.1,i64 p.2]
def prowsA (l:List (Int×Int)):Array (List PV):=(l.map prow).toArray
def PRow (r:List PV):Prop:=∃ p,r=prow p
theorem prow_sz (r:List PV) (h:PRow r):RowSz 2 r:=by
 obtain⟨p,rfl⟩:=h
 exact⟨rfl,by intro c hc;simp[prow] at hc;rcases hc with rfl | rfl <;> rfl⟩
theorem prows_mem (l:List (Int×Int)):∀ r∈(prowsA l).toList,PRow r:=by
 intro r hr
 simp[prowsA] at hr
 obtain⟨a,b,_,rfl⟩:=hr
 exact⟨(a,b),rfl⟩
theorem prowsA_size (l:List (Int×Int)):(prowsA l).size=l.length:=by simp[prowsA]
def pobj (l:List (Int×Int)) (fl:Nat) (nl:Bool):AObj:=rowsObj 2 (prowsA l) fl nl
theorem pobj_len (l:List (Int×Int)):(flatR (prowsA l)).length=l.length * 2:=by
 rw[flatR_len fun r hr=>prow_sz r (prows_mem l r hr),prowsA_size]
theorem pobj_append {A:List AObj} {id n fl bytes:Nat} {nl:Bool} {h:Hold} {l:List (Int×Int)} (hg:A[id]? =some (pobj l fl nl)) (hn:n=l.length) (hr:roomOk (n+1) bytes) (p:Int×Int):
 appendA A true h 2 true bytes (.own id n) (.pv (.lit 2 [pr p]))=some (.own id (n+1),A.set id (pobj (l++[p]) fl false)):=by
 subst hn
 have hl:=pobj_len l
 have e:flatR (prowsA (l++[p]))=flatR (prowsA l)++[.pv (i64 p.1),.pv (i64 p.2)]:=by
  simp[flatR,prowsA,prow]
 simp only[appendA,if_true,hg,pobj,rowsObj,elemsA,elemsP,Option.map_some,Option.bind_some,flat,PV.cells,pr,List.append_nil,List.map_cons,List.map_nil,List.length_cons,List.length_nil,e]
 rw[if_pos]
 ·simp
 ·exact⟨trivial,by omega,hr,rfl⟩
theorem mapO_pv (H:List AObj) (d:Nat) (l:List PV):mapO (toPV H d) (l.map .pv)=some l:=by
 induction l with
 |nil=>rfl
 |cons a l ih=>simp only[List.map_cons,mapO,toPV_pv,Option.bind_some,ih]
theorem chunk_pairs:∀ (l:List (Int×Int)),chunk 2 true l.length ((l.map prow).flatten)=prs l
 | []=>rfl
 |p::l=>by
  have ih:=chunk_pairs l
  simp only[List.length_cons,List.map_cons,List.flatten_cons,chunk,if_true,prow] at ih ⊢
  simp only[List.cons_append,List.nil_append,List.take_succ_cons,List.take_zero,List.drop_succ_cons,List.drop_zero,prs,List.map_cons]
  rw[ih]
theorem pobj_toPV {A:List AObj} {id n fl:Nat} {nl:Bool} {l:List (Int×Int)} (hg:A[id]? =some (pobj l fl nl)) (hn:n=l.length) (d:Nat):toPV A (d+1) (.own id n)=some (if nl then .nils else .lit 2 (prs l)):=by
 subst hn
 have hl:=pobj_len l
 have e:flatR (prowsA l)=((l.map prow).flatten).map .pv:=by simp[flatR,prowsA]
 simp only[toPV,hg,pobj,rowsObj]
 rw[if_pos ⟨by omega,rfl⟩,e,mapO_pv]
 cases nl with
 |true=>rfl
 |false=>simp only[Bool.false_eq_true,if_false,Option.map_some,chunk_pairs]
theorem pbox_store (A:List AObj) (x y:AV) (p:Int×Int):storeA (A++[.box [x,y]]) 2 (.ptr A.length 0) (.pv (pr p))=some (A++[.box [.pv (i64 p.1),.pv (i64 p.2)]]):=by
 simp only[storeA,AV.cells,PV.cells,pr,List.map_cons,List.map_nil,List.length_cons,List.length_nil,List.all,AV.one,get_top,set_top]
 simp[setRow]
theorem pbox_load (A:List AObj) (p:Int×Int):loadA (A++[.box [.pv (i64 p.1),.pv (i64 p.2)]]) true 2 (.ptr A.length 0)=some (.pv (pr p)):=by
 simp[loadA,partA,mkAgg,allPV]
theorem pobj_cut (l:List (Int×Int)) (fl:Nat) (nl:Bool) (n:Nat):cutObj n (pobj l fl nl)=some (pobj l fl nl):=rowsObj_cut _ _ _ _ _
abbrev envTn (v:PV) (id n len i:Nat):Tr:=(((Tr.lf.set 11 (.pv (i64 i))).set 10 (.pv (i64 len))).set 9 (.pv v)).set 3 (.own id n)
theorem lit_iaddr (A:List AObj) {l:List (Int×Int)} {i:Nat} (hi:i < l.length):iaddrA' A 2 (.pv (.lit 2 (prs l))) (i:Int)=some (.pv (.rp [i64 l[i].1,i64 l[i].2] 0)):=by
 have hg:=prs_get hi
 simp only[iaddrA']
 rw[if_pos (by unfold idxOk;simp;omega),Int.toNat_natCast,hg];rfl
theorem rp_load2 (A:List AObj) (p:Int×Int):loadA A true 2 (.pv (.rp [i64 p.1,i64 p.2] 0))=some (.pv (pr p)):=by
 simp[loadA,partP]
theorem to_own_run (call:CallF) (v:PV) (l:List (Int×Int)) (hv:IsL 2 v (prs l)) (hw:l.length * 16≤140737488355328) (H:List AObj) (hH:HGood H):
 runF call b_sets_To_sets_Run_api_Range_own [.pv v] H=some (.own H.length l.length,H++[pobj l 0 false]):=by
 have ls:=hv.len
 simp only[prs,List.length_map] at ls
 have hid:H.length < H.length+1:=Nat.lt_succ_self _
 have hlen:∀ l',(H++[pobj l' 0 false]).length=H.length+1:=fun l'=>by simp
 have hcut:∀ l',mapO (cutObj (H.length+1)) (H++[pobj l' 0 false])=some (H++[pobj l' 0 false]):=fun l'=>mapO_id fun o ho=>by
  rcases List.mem_append.1 ho with h | h
  ·exact hH _ (by omega) o h
  ·simp at h;subst h;exact pobj_cut _ _ _ _
 have hloop:wpO (fun r=>∃ E,r=(.exit 0,⟨E,H++[pobj l 0 false]⟩)∧E.get 3= .own H.length l.length)
  (loopA (roundA (evalC call b_sets_To_sets_Run_api_Range_own_l0) (clean (H.length+1) [3,9,10,11])) rounds ⟨envTn v H.length 0 l.length 0,H++[pobj [] 0 false]⟩):=by
  refine wpO_mono (loopN_wp (g:=roundA (evalC call b_sets_To_sets_Run_api_Range_own_l0) (clean (H.length+1) [3,9,10,11]))
   (fun i t=>t=⟨envTn v H.length i l.length i,H++[pobj (l.take i) 0 false]⟩)
   l.length (by unfold rounds;omega) _ rfl ?_ ?_) (fun r h=>h.2)
  ·rintro i t hi rfl
   have hv:=hv.lit (i:=i) (by simpa using hi)
   subst hv
   have e1:decide ((i:Int) < (l.length:Int))=true:=dec_t (by omega)
   have t2:=stepWrap hi (by unfold maxLen;omega)
   have a1:=lit_iaddr (H++[pobj (l.take i) 0 false]) hi
   have l1:=rp_load2 (H++[pobj (l.take i) 0 false]) l[i]
   have s1:=pbox_store (H++[pobj (l.take i) 0 false]) (.pv (i64 0)) (.pv (i64 0)) l[i]
   have l2:=pbox_load (H++[pobj (l.take i) 0 false]) l[i]
   have hap:=pobj_append (A:=H++[pobj (l.take i) 0 false]++[.box [.pv (i64 l[i].1),.pv (i64 l[i].2)]]) (id:=H.length) (n:=i) (h:= .own) (bytes:=16) (by rw[List.getElem?_append_left (by simp)];exact get_top _ _) (by simp;omega) (by unfold roomOk;omega) l[i]
   rw[List.set_append_left _ _ (by simp),set_top,←List.take_succ_eq_append_getElem hi] at hap
   have htk:(H++[pobj (l.take (i+1)) 0 false]++[AObj.box [.pv (i64 l[i].1),.pv (i64 l[i].2)]]).take (H.length+1)=H++[pobj (l.take (i+1)) 0 false]:=by
    rw[List.take_append_of_le_length (by simp),List.take_of_length_le (by simp)]
   have hc:=hcut (l.take (i+1))
   generalize l[i]=p at *
   generalize hQ:LN _ _ i=Q
   simp (implicitDefEqProofs:=false) only[SP,WP,setRow,sevalprocAttr,-List.reduceReplicate,b_sets_To_sets_Run_api_Range_own_l0,e1,t2,a1,l1,s1,l2,hap,htk,hc,hid,clean,cutEnv,AV.cut,deep_eq',envTn]
   subst hQ
   rfl
  ·rintro t rfl
   rw[List.take_length]
   have e1:decide ((l.length:Int) < (l.length:Int))=false:=dec_f (by omega)
   generalize hQ:(fun r:Ex×St=>r.1.stop=true∧_)=Q
   simp (implicitDefEqProofs:=false) only[SP,SA,WP,sevalprocAttr,-List.reduceReplicate,b_sets_To_sets_Run_api_Range_own_l0,e1,envTn]
   subst hQ
   exact⟨rfl,_,rfl,by simp[Tr.get_set]⟩
 have h2:(0:Int)≤(l.length:Int):=by omega
 have h3:roomOk l.length 16:=by unfold roomOk;omega
 have n0:(0:Int).toNat=0:=rfl
 have ho:AObj.seq 2 true [] 0 false=pobj [] 0 false:=rfl
 apply wpO_eq
 simp (implicitDefEqProofs:=false) only[SP,SA,WP,sevalprocAttr,-List.reduceReplicate,b_sets_To_sets_Run_api_Range_own,C_loop,ls,Int.le_refl,eq_true h2,eq_true h3,n0,ho,hlen,hcut,hid,List.take_of_length_le (show (H++[pobj [] 0 false]).length≤H.length+1 by simp),clean,cutEnv,AV.cut,deep_eq']
 refine wpO_mono hloop ?_
 rintro _ ⟨E,rfl,hE⟩
 simp (implicitDefEqProofs:=false) only[SP,SA,WP,sevalprocAttr,-List.reduceReplicate,hE]
end Go.AM.B1
namespace Go.AM.B1
open Go.AM Go.AM.So
theorem uq_append {A:List AObj} {id n sz bytes:Nat} {nl ag:Bool} {h:Hold} {es:List PV} (hg:A[id]? =some (.tok sz n nl)) (hn:n=es.length) (hr:roomOk (n+1) bytes) (e:PV):
 appendA A false h sz ag bytes (.uq id nl sz es) (.pv (.lit sz [e]))=some (.uq id false sz (es++[e]),A.set id (.tok sz (n+1) false)):=by
 subst hn
 simp only[appendA,Bool.false_eq_true,if_false,hg,elemsP,if_true,Option.bind_some,List.length_cons,List.length_nil]
 rw[if_pos ⟨trivial,trivial,trivial,hr⟩]
 simp
abbrev envTi (id n i tk:Nat) (nl:Bool) (es:List PV):Tr:=(((Tr.lf.set 11 (.pv (i64 i))).set 10 (.pv (i64 n))).set 9 (.own id n)).set 3 (.uq tk nl 2 es)
theorem pobj_hp {A:List AObj} {id fl:Nat} {nl:Bool} {l:List (Int×Int)} (hg:A[id]? =some (pobj l fl nl)) (hf:fl≤l.length * 2) (hA:HGood A):Hp id 2 PRow A (prowsA l) A:=
 Hp.refl (fl:=fl) (nl:=nl) hA (by rw[prowsA_size];exact hf) hg (prows_mem l)
theorem prowsA_get {l:List (Int×Int)} {i:Nat} (hi:i < l.length):(prowsA l)[i]! =prow l[i]:=by
 rw[getB (by rw[prowsA_size];exact hi)];simp[prowsA]
theorem to_in_run (call:CallF) (l:List (Int×Int)) {id fl:Nat} {nl:Bool} (H:List AObj) (hH:HGood H) (hg:H[id]? =some (pobj l fl nl)) (hf:fl≤l.length * 2) (hw:l.length * 16≤140737488355328):
 runF call b_sets_To_api_Range_sets_Run_in [.own id l.length] H=some (.uq H.length false 2 (prs l),H++[.tok 2 l.length false]):=by
 have hp:=pobj_hp hg hf hH
 have hid:id < H.length:=hp.lt
 have hid1:id < H.length+1:=by omega
 have htk:H.length < H.length+1:=Nat.lt_succ_self _
 have hl:=pobj_len l
 have hn:l.length=(prowsA l).size:=(prowsA_size l).symm
 have hlen:∀ m b,(H++[AObj.tok 2 m b]).length=H.length+1:=fun m b=>by simp
 have hcut:∀ m b,mapO (cutObj (H.length+1)) (H++[AObj.tok 2 m b])=some (H++[AObj.tok 2 m b]):=fun m b=>mapO_id fun o ho=>by
  rcases List.mem_append.1 ho with h | h
  ·exact hH _ (by omega) o h
  ·simp at h;subst h;rfl
 have hlA:∀ T,lenA (H++T) 0 (.own id l.length)=some l.length:=by
  intro T
  rw[lenA_own,List.getElem?_append_left hid,hg]
  simp only[pobj,rowsObj]
  rw[if_pos];unfold winOk;omega
 have hlA0:lenA H 0 (.own id l.length)=some l.length:=by have:=hlA [];rwa [List.append_nil] at this
 have hloop:wpO (fun r=>∃ E,r=(.exit 0,⟨E,H++[.tok 2 l.length false]⟩)∧E.get 3= .uq H.length false 2 (prs l))
  (loopA (roundA (evalC call b_sets_To_api_Range_sets_Run_in_l0) (clean (H.length+1) [3,9,10,11])) rounds ⟨envTi id l.length 0 H.length false [],H++[.tok 2 0 false]⟩):=by
  refine wpO_mono (loopN_wp (g:=roundA (evalC call b_sets_To_api_Range_sets_Run_in_l0) (clean (H.length+1) [3,9,10,11]))
   (fun i t=>t=⟨envTi id l.length i H.length false (prs (l.take i)),H++[.tok 2 i false]⟩)
   l.length (by unfold rounds;omega) _ rfl ?_ ?_) (fun r h=>h.2)
  ·rintro i t hi rfl
   have e1:decide ((i:Int) < (l.length:Int))=true:=dec_t (by omega)
   have t2:=stepWrap hi (by unfold maxLen;omega)
   have a1:=iaddr_app [.tok 2 i false] hid (hp.iaddr prow_sz hn (i:=(i:Int)) rfl (by omega))
   have l1:=load_app [.tok 2 i false] hid (hp.load prow_sz hn (k:=i) (by omega))
   rw[prowsA_get hi] at l1
   have l1':loadA (H++[.tok 2 i false]) true 2 (.eptr id (l.length * 2) (i * 2))=some (.pv (pr l[i])):=l1
   have s1:=pbox_store (H++[.tok 2 i false]) (.pv (i64 0)) (.pv (i64 0)) l[i]
   have l2:=pbox_load (H++[.tok 2 i false]) l[i]
   have hap:=uq_append (A:=H++[.tok 2 i false]++[.box [.pv (i64 l[i].1),.pv (i64 l[i].2)]]) (id:=H.length) (n:=i) (h:= .uq) (ag:=true) (nl:=false) (sz:=2) (bytes:=16) (es:=prs (l.take i)) (by rw[List.getElem?_append_left (by simp)];exact get_top _ _) (by simp;omega) (by unfold roomOk;omega) (pr l[i])
   have hs:prs (l.take (i+1))=prs (l.take i)++[pr l[i]]:=by rw[List.take_succ_eq_append_getElem hi];simp only[prs,List.map_append,List.map_cons,List.map_nil]
   rw[List.set_append_left _ _ (by simp),set_top,←hs] at hap
   have htk2:(H++[AObj.tok 2 (i+1) false]++[AObj.box [.pv (i64 l[i].1),.pv (i64 l[i].2)]]).take (H.length+1)=H++[AObj.tok 2 (i+1) false]:=by
    rw[List.take_append_of_le_length (by simp),List.take_of_length_le (by simp)]
   have hc:=hcut (i+1) false
   generalize l[i]=p at *
   generalize hes':prs (l.take (i+1))=es' at *
   generalize prs (l.take i)=es at *
   generalize hQ:LN _ _ i=Q
   simp (implicitDefEqProofs:=false) only[SP,WP,setRow,sevalprocAttr,-List.reduceReplicate,b_sets_To_api_Range_sets_Run_in_l0,e1,t2,a1,l1',s1,l2,hap,htk,htk2,hc,hid1,clean,cutEnv,AV.cut,deep_eq',envTi]
   subst hQ
   subst hes'
   rfl
  ·rintro t rfl
   rw[List.take_length]
   have e1:decide ((l.length:Int) < (l.length:Int))=false:=dec_f (by omega)
   generalize hQ:(fun r:Ex×St=>r.1.stop=true∧_)=Q
   simp (implicitDefEqProofs:=false) only[SP,SA,WP,sevalprocAttr,-List.reduceReplicate,b_sets_To_api_Range_sets_Run_in_l0,e1,envTi]
   subst hQ
   exact⟨rfl,_,rfl,by simp[Tr.get_set]⟩
 have h2:(0:Int)≤(l.length:Int):=by omega
 have h3:roomOk l.length 16:=by unfold roomOk;omega
 have n0:(0:Int).toNat=0:=rfl
 apply wpO_eq
 simp (implicitDefEqProofs:=false) only[SP,SA,WP,sevalprocAttr,-List.reduceReplicate,b_sets_To_api_Range_sets_Run_in,C_loop,hlA,hlA0,Int.le_refl,eq_true h2,eq_true h3,n0,hlen,hcut,hid1,htk,List.take_of_length_le (show (H++[AObj.tok 2 0 false]).length≤H.length+1 by simp),clean,cutEnv,AV.cut,deep_eq']
 refine wpO_mono hloop ?_
 rintro _ ⟨E,rfl,hE⟩
 simp (implicitDefEqProofs:=false) only[SP,SA,WP,sevalprocAttr,-List.reduceReplicate,hE]
def memR (x:Int) (l:List (Int×Int)):Prop:=∃ p∈l,p.1≤x∧x≤p.2
end Go.AM.B1
namespace Go.AM.B1
open Go.AM Go.AM.So
def normR:List (Int×Int)→List (Int×Int)→List (Int×Int)
 |out,[]=>out
 |out,r::rest=>match out.getLast? with
  |some q=>if r.1≤q.2+1 then normR (out.dropLast++[(q.1,if r.2 > q.2 then r.2 else q.2)]) rest else normR (out++[r]) rest
  |none=>normR (out++[r]) rest
theorem normR_nil (r:Int×Int) (rest:List (Int×Int)):normR [] (r::rest)=normR [r] rest:=rfl
theorem normR_join {out rest:List (Int×Int)} {q r:Int×Int} (h:r.1≤q.2+1):normR (out++[q]) (r::rest)=normR (out++[(q.1,if r.2 > q.2 then r.2 else q.2)]) rest:=by
 rw[normR,List.getLast?_append];simp[h]
theorem normR_new {out rest:List (Int×Int)} {q r:Int×Int} (h:¬r.1≤q.2+1):normR (out++[q]) (r::rest)=normR (out++[q]++[r]) rest:=by
 rw[normR,List.getLast?_append];simp[h]
section
variable {A:List AObj} {id fl:Nat} {nl:Bool} {out:List (Int×Int)} {q:Int×Int} (hg:A[id]? =some (pobj (out++[q]) fl nl)) (hf:fl≤(out.length+1) * 2)
include hg hf
theorem last_iaddr:iaddrA' A 2 (.own id (out.length+1)) (out.length:Int)=some (.eptr id ((out.length+1) * 2) (out.length * 2)):=by
 have hl:=pobj_len (out++[q])
 rw[List.length_append,List.length_cons,List.length_nil] at hl
 simp only[iaddrA',hg,pobj,rowsObj]
 rw[if_pos (by refine⟨trivial,?_,?_⟩ <;> first | (unfold idxOk;omega) | (unfold winOk;omega))]
 simp
omit hf in
theorem last_place:place A 1 (.eptr id ((out.length+1) * 2) (out.length * 2))=some (.eptr id ((out.length+1) * 2) (out.length * 2+1)):=by
 have hl:=pobj_len (out++[q])
 rw[List.length_append,List.length_cons,List.length_nil] at hl
 simp only[place,hg,pobj,rowsObj,hl,if_true]
omit hf in
theorem last_load:loadA A false 1 (.eptr id ((out.length+1) * 2) (out.length * 2+1))=some (.pv (i64 q.2)):=by
 have hl:=pobj_len (out++[q])
 rw[List.length_append,List.length_cons,List.length_nil] at hl
 simp only[loadA,hg,pobj,rowsObj,hl,if_true,partA,Bool.false_eq_true,if_false]
 have e:flatR (prowsA (out++[q]))=flatR (prowsA out)++[.pv (i64 q.1),.pv (i64 q.2)]:=by simp[flatR,prowsA,prow]
 have hl2:=pobj_len out
 rw[e,List.getElem?_append_right (by omega),hl2]
 have:out.length * 2+1 - out.length * 2=1:=by omega
 rw[this];rfl
omit hf in
theorem last_store (v:Int):storeA A 1 (.eptr id ((out.length+1) * 2) (out.length * 2+1)) (.pv (i64 v))=some (A.set id (pobj (out++[(q.1,v)]) ((out.length+1) * 2) nl)):=by
 have hl:=pobj_len (out++[q])
 rw[List.length_append,List.length_cons,List.length_nil] at hl
 have e:∀ q:Int×Int,flatR (prowsA (out++[q]))=flatR (prowsA out)++[.pv (i64 q.1),.pv (i64 q.2)]:=fun q=>by simp[flatR,prowsA,prow]
 have hl2:=pobj_len out
 have hs:setRow (flatR (prowsA (out++[q]))) (out.length * 2+1) [.pv (i64 v)]=flatR (prowsA (out++[(q.1,v)])):=by
  rw[e,e,setRow,setRow,List.set_append_right _ _ (by omega),hl2]
  have:out.length * 2+1 - out.length * 2=1:=by omega
  rw[this];rfl
 have hc:(AV.pv (i64 v)).cells=[.pv (i64 v)]:=rfl
 simp only[storeA,hg,pobj,rowsObj,hc]
 rw[if_pos ⟨rfl,rfl⟩,if_pos ⟨hl,by omega⟩,hs]
end
abbrev envNm (id0 n i id1 m:Nat):Tr:=(((Tr.lf.set 11 (.pv (i64 i))).set 10 (.pv (i64 n))).set 9 (.own id0 n)).set 3 (.own id1 m)
def Sane (l:List (Int×Int)):Prop:=∀ p∈l,-4611686018427387904≤p.2∧p.2≤4611686018427387904
theorem sane_app {a b:List (Int×Int)} (ha:Sane a) (hb:Sane b):Sane (a++b):=by
 intro p hp
 rcases List.mem_append.1 hp with h | h
 ·exact ha p h
 ·exact hb p h
theorem norm_loop (call:CallF) (l:List (Int×Int)) (hl:Sane l) {id0 fl0:Nat} {nl0:Bool} (H:List AObj) (hH:HGood H) (hg0:H[id0]? =some (pobj l fl0 nl0)) (hf0:fl0≤l.length * 2) (hw:l.length≤1000000):
 wpO (fun r=>∃ E fl nl,r=(.exit 0,⟨E,H++[pobj (normR [] l) fl nl]⟩)∧E.get 3= .own H.length (normR [] l).length∧fl≤(normR [] l).length * 2)
  (loopA (roundA (evalC call b_sets_Norm_l0) (clean (H.length+1) [3,9,10,11])) rounds ⟨envNm id0 l.length 0 H.length 0,H++[pobj [] 0 true]⟩):=by
 have hp:=pobj_hp hg0 hf0 hH
 have hid:id0 < H.length:=hp.lt
 have hid1:id0 < H.length+1:=by omega
 have htk:H.length < H.length+1:=Nat.lt_succ_self _
 have hn:l.length=(prowsA l).size:=(prowsA_size l).symm
 have hcut:∀ a b c,mapO (cutObj (H.length+1)) (H++[pobj a b c])=some (H++[pobj a b c]):=fun a b c=>mapO_id fun o ho=>by
  rcases List.mem_append.1 ho with h | h
  ·exact hH _ (by omega) o h
  ·simp at h;subst h;exact pobj_cut _ _ _ _
 refine wpO_mono (loopN_wp (g:=roundA (evalC call b_sets_Norm_l0) (clean (H.length+1) [3,9,10,11]))
  (fun i t=>∃ out fl nl,t=⟨envNm id0 l.length i H.length out.length,H++[pobj out fl nl]⟩∧fl≤out.length * 2∧Sane out∧out.length≤i∧normR [] l=normR out (l.drop i))
  l.length (by unfold rounds;omega) _ ⟨[],0,true,rfl,by omega,by intro p hp;simp at hp,by simp,rfl⟩ ?_ ?_) (fun r h=>h.2)
 ·rintro i t hi ⟨out,fl,nl,rfl,hfl,hsa,hle,hs⟩
  have hd:l.drop i=l[i]::l.drop (i+1):=List.drop_eq_getElem_cons hi
  rw[hd] at hs
  have hsp:=hl l[i] (List.getElem_mem hi)
  have e1:decide ((i:Int) < (l.length:Int))=true:=dec_t (by omega)
  have t2:=stepWrap hi (by unfold maxLen;omega)
  have a1:=iaddr_app [pobj out fl nl] hid (hp.iaddr prow_sz hn (i:=(i:Int)) rfl (by omega))
  have l1:=load_app [pobj out fl nl] hid (hp.load prow_sz hn (k:=i) (by omega))
  rw[prowsA_get hi] at l1
  have l1':loadA (H++[pobj out fl nl]) true 2 (.eptr id0 (l.length * 2) (i * 2))=some (.pv (pr l[i])):=l1
  have s1:=pbox_store (H++[pobj out fl nl]) (.pv (i64 0)) (.pv (i64 0)) l[i]
  have l2:=pbox_load (H++[pobj out fl nl]) l[i]
  have b0:∀ p:Int×Int,place (H++[pobj out fl nl]++[AObj.box [.pv (i64 p.1),.pv (i64 p.2)]]) 0 (.ptr (H++[pobj out fl nl]).length 0)=some (.ptr (H++[pobj out fl nl]).length 0):=fun p=>by simp[place]
  have b1:∀ p:Int×Int,place (H++[pobj out fl nl]++[AObj.box [.pv (i64 p.1),.pv (i64 p.2)]]) 1 (.ptr (H++[pobj out fl nl]).length 0)=some (.ptr (H++[pobj out fl nl]).length 1):=fun p=>by simp[place]
  have b2:∀ p:Int×Int,loadA (H++[pobj out fl nl]++[AObj.box [.pv (i64 p.1),.pv (i64 p.2)]]) false 1 (.ptr (H++[pobj out fl nl]).length 0)=some (.pv (i64 p.1)):=fun p=>by simp[loadA,partA]
  have b3:∀ p:Int×Int,loadA (H++[pobj out fl nl]++[AObj.box [.pv (i64 p.1),.pv (i64 p.2)]]) false 1 (.ptr (H++[pobj out fl nl]).length 1)=some (.pv (i64 p.2)):=fun p=>by simp[loadA,partA]
  have hap:=pobj_append (A:=H++[pobj out fl nl]++[.box [.pv (i64 l[i].1),.pv (i64 l[i].2)]]) (id:=H.length) (n:=out.length) (h:= .own) (bytes:=16) (by rw[List.getElem?_append_left (by simp)];exact get_top _ _) rfl (by unfold roomOk;omega) l[i]
  rw[List.set_append_left _ _ (by simp),set_top] at hap
  have htk2:∀ (o o2:AObj),(H++[o]++[o2]).take (H.length+1)=H++[o]:=fun o o2=>by
   rw[List.take_append_of_le_length (by simp),List.take_of_length_le (by simp)]
  have hlen:lenA (H++[pobj out fl nl]++[.box [.pv (i64 l[i].1),.pv (i64 l[i].2)]]) 0 (.own H.length out.length)=some out.length:=by
   rw[lenA_own,List.getElem?_append_left (by simp),get_top]
   have:=pobj_len out
   simp only[pobj,rowsObj]
   rw[if_pos];unfold winOk;omega
  rcases List.eq_nil_or_concat out with rfl | ⟨out,q,rfl⟩
  ·have hz:decide (((0:Nat):Int) > 0)=false:=by decide
   rw[normR_nil] at hs
   rw[List.length_nil] at hap hlen
   rw[Nat.zero_add,List.nil_append] at hap
   generalize l[i]=p at *
   generalize hQ:LN _ _ i=Q
   simp (implicitDefEqProofs:=false) only[SP,WP,setRow,sevalprocAttr,-List.reduceReplicate,b_sets_Norm_l0,e1,t2,a1,l1',s1,l2,hlen,hz,hap,htk2,hcut,hid1,htk,clean,cutEnv,AV.cut,deep_eq',envNm]
   subst hQ
   exact⟨[p],fl,false,rfl,by simp at hfl ⊢;omega,by intro x hx;simp at hx;subst hx;exact hsp,by simp,hs⟩
  ·rw[List.concat_eq_append] at *
   have hql:=hsa q (by simp)
   have hol:(out++[q]).length=out.length+1:=by simp
   have hg1:(H++[pobj (out++[q]) fl nl]++[AObj.box [.pv (i64 l[i].1),.pv (i64 l[i].2)]])[H.length]? =some (pobj (out++[q]) fl nl):=by rw[List.getElem?_append_left (by simp)];exact get_top _ _
   have c1:=last_iaddr hg1 (by rw[hol] at hfl;exact hfl)
   have c2:=last_place hg1
   have c3:=last_load hg1
   have c4:=last_store hg1 (if l[i].2 > q.2 then l[i].2 else q.2)
   rw[List.set_append_left _ _ (by simp),set_top] at c4
   have t3:IntKind.i64.wrap (((out.length+1:Nat):Int) - 1)=(out.length:Int):=by rw[wrap_int (by omega)];omega
   have t4:IntKind.i64.wrap (q.2+1)=q.2+1:=wrap_int (by omega)
   have hz:decide (((out.length+1:Nat):Int) > 0)=true:=dec_t (by omega)
   rw[hol] at hlen hap hfl hle
   by_cases hj:l[i].1≤q.2+1
   ·have e2:decide (l[i].1≤q.2+1)=true:=dec_t hj
    rw[normR_join hj] at hs
    generalize l[i]=p at *
    generalize hmx:(if p.2 > q.2 then p.2 else q.2)=mx at *
    generalize hQ:LN _ _ i=Q
    simp (implicitDefEqProofs:=false) only[SP,WP,setRow,sevalprocAttr,-List.reduceReplicate,b_sets_Norm_l0,e1,t2,a1,l1',s1,l2,hol,hlen,hz,b0,b1,b2,b3,c1,c2,c3,c4,t3,t4,e2,bestA,bestOf,hmx,htk2,hcut,hid1,htk,clean,cutEnv,AV.cut,deep_eq',envNm]
    subst hQ
    refine⟨out++[(q.1,mx)],(out.length+1) * 2,nl,by simp[envNm,hol],by simp,?_,by simp;omega,hs⟩
    intro x hx
    rcases List.mem_append.1 hx with h | h
    ·exact hsa x (by simp[h])
    ·simp at h;subst h
     rw[← hmx];split <;> simp only <;> omega
   ·have e2:decide (l[i].1≤q.2+1)=false:=dec_f hj
    rw[normR_new hj] at hs
    generalize l[i]=p at *
    generalize hQ:LN _ _ i=Q
    simp (implicitDefEqProofs:=false) only[SP,WP,setRow,sevalprocAttr,-List.reduceReplicate,b_sets_Norm_l0,e1,t2,a1,l1',s1,l2,hol,hlen,hz,b0,b1,b2,b3,c1,c2,c3,t3,t4,e2,hap,htk2,hcut,hid1,htk,clean,cutEnv,AV.cut,deep_eq',envNm]
    subst hQ
    refine⟨out++[q]++[p],fl,false,by simp[envNm],by simp;omega,?_,by simp;omega,hs⟩
    exact sane_app hsa (by intro x hx;simp at hx;subst hx;exact hsp)
 ·rintro t ⟨out,fl,nl,rfl,hfl,hsa,hle,hs⟩
  rw[List.drop_length,normR] at hs
  have e1:decide ((l.length:Int) < (l.length:Int))=false:=dec_f (by omega)
  generalize hQ:(fun r:Ex×St=>r.1.stop=true∧_)=Q
  simp (implicitDefEqProofs:=false) only[SP,SA,WP,sevalprocAttr,-List.reduceReplicate,b_sets_Norm_l0,e1,envNm]
  subst hQ
  rw[hs]
  exact⟨rfl,_,fl,nl,rfl,by simp[Tr.get_set],hfl⟩
end Go.AM.B1
namespace Go.AM.B1
open Go.AM Go.AM.So
def lastHi (last:Int) (a:List (Int×Int)):Int:=(a.getLast?.map (·.2)).getD last
theorem lastHi_cons (last:Int) (p:Int×Int) (a:List (Int×Int)):lastHi last (p::a)=lastHi p.2 a:=by
 cases a with
 |nil=>rfl
 |cons q a=>simp[lastHi,List.getLast?_cons]
theorem lastHi_snoc (last:Int) (a:List (Int×Int)) (q:Int×Int):lastHi last (a++[q])=q.2:=by simp[lastHi]
theorem validR_app (top:Int):∀ (a b:List (Int×Int)) (last:Int),validR top last (a++b)=(validR top last a&&validR top (lastHi last a) b)
 | [],b,last=>by simp[validR,lastHi]
 |p::a,b,last=>by
  rw[List.cons_append,validR,validR,validR_app top a b p.2,lastHi_cons,Bool.and_assoc]
theorem validR_one {top last:Int} {p:Int×Int}:validR top last [p]=true↔0≤p.1∧p.1≤p.2∧p.2≤top∧last < p.1 - 1:=by
 simp only[validR,Bool.and_true,Bool.not_eq_true',Bool.or_eq_false_iff,decide_eq_false_iff_not]
 constructor <;> intro h <;> refine⟨?_,?_⟩ <;> omega
theorem memR_app (x:Int) (a b:List (Int×Int)):memR x (a++b)↔memR x a∨memR x b:=by
 unfold memR
 simp only[List.mem_append]
 constructor
 ·rintro⟨p,h | h,hp⟩
  ·exact .inl ⟨p,h,hp⟩
  ·exact .inr ⟨p,h,hp⟩
 ·rintro (⟨p,h,hp⟩ | ⟨p,h,hp⟩)
  ·exact⟨p,.inl h,hp⟩
  ·exact⟨p,.inr h,hp⟩
theorem memR_one (x:Int) (p:Int×Int):memR x [p]↔p.1≤x∧x≤p.2:=by
 unfold memR;simp
theorem memR_nil (x:Int):¬memR x []:=by unfold memR;simp
theorem memR_cons (x:Int) (p:Int×Int) (l:List (Int×Int)):memR x (p::l)↔(p.1≤x∧x≤p.2)∨memR x l:=by
 unfold memR;simp
theorem normR_law {top:Int}:∀ (rest out:List (Int×Int)) (q:Int×Int),validR top (-2) (out++[q])=true→(∀ p∈rest,0≤p.1∧p.1≤p.2∧p.2≤top∧q.1≤p.1)→rest.Pairwise (fun p q=>p.1≤q.1)→
 validR top (-2) (normR (out++[q]) rest)=true∧(∀ x,memR x (normR (out++[q]) rest)↔memR x (out++[q])∨memR x rest)∧(normR (out++[q]) rest).length≤out.length+1+rest.length
 | [],out,q,hv,_,_=>by
   rw[normR]
   exact⟨hv,fun x=>by simp[memR_nil],by simp⟩
 |r::rest,out,q,hv,hr,hs=>by
  have h1:=hr r (by simp)
  rw[List.pairwise_cons] at hs
  have hv':=hv
  rw[validR_app,Bool.and_eq_true,validR_one] at hv'
  by_cases hj:r.1≤q.2+1
  ·rw[normR_join hj]
   have ih:=normR_law rest out (q.1,if r.2 > q.2 then r.2 else q.2) (by
    rw[validR_app,Bool.and_eq_true,validR_one]
    refine⟨hv'.1,hv'.2.1,?_,?_,hv'.2.2.2.2⟩ <;> simp only <;> split <;> omega) (fun p hp=>by
     have:=hr p (by simp[hp])
     exact⟨this.1,this.2.1,this.2.2.1,this.2.2.2⟩) hs.2
   refine⟨ih.1,fun x=> ?_,by have:=ih.2.2;simp only[List.length_cons];omega⟩
   rw[ih.2.1,memR_app,memR_app,memR_one,memR_one,memR_cons]
   have e:(q.1≤x∧x≤(if r.2 > q.2 then r.2 else q.2))↔(q.1≤x∧x≤q.2)∨(r.1≤x∧x≤r.2):=by
    split <;> constructor <;> intro h <;> omega
   simp only[e]
   constructor
   ·rintro ((h | h | h) | h)
    ·exact .inl (.inl h)
    ·exact .inl (.inr h)
    ·exact .inr (.inl h)
    ·exact .inr (.inr h)
   ·rintro ((h | h) | h | h)
    ·exact .inl (.inl h)
    ·exact .inl (.inr (.inl h))
    ·exact .inl (.inr (.inr h))
    ·exact .inr h
  ·rw[normR_new hj]
   have ih:=normR_law rest (out++[q]) r (by
    rw[validR_app,Bool.and_eq_true,validR_one,lastHi_snoc]
    exact⟨hv,h1.1,h1.2.1,h1.2.2.1,by omega⟩) (fun p hp=>by
     have h2:=hr p (by simp[hp])
     exact⟨h2.1,h2.2.1,h2.2.2.1,hs.1 p hp⟩) hs.2
   refine⟨ih.1,fun x=> ?_,by have:=ih.2.2;simp only[List.length_cons,List.length_append,List.length_nil] at this ⊢;omega⟩
   rw[ih.2.1,memR_app,memR_one,memR_cons]
   constructor
   ·rintro ((h | h) | h)
    ·exact .inl h
    ·exact .inr (.inl h)
    ·exact .inr (.inr h)
   ·rintro (h | h | h)
    ·exact .inl (.inl h)
    ·exact .inl (.inr h)
    ·exact .inr h
theorem normR_all {top:Int} (l:List (Int×Int)) (hr:∀ p∈l,0≤p.1∧p.1≤p.2∧p.2≤top) (hs:l.Pairwise (fun p q=>p.1≤q.1)):
 validR top (-2) (normR [] l)=true∧(∀ x,memR x (normR [] l)↔memR x l)∧(normR [] l).length≤l.length:=by
 cases l with
 |nil=>exact⟨rfl,fun x=>Iff.rfl,Nat.le_refl _⟩
 |cons r rest=>
  rw[normR_nil]
  have h1:=hr r (by simp)
  rw[List.pairwise_cons] at hs
  have:=normR_law rest [] r (by rw[List.nil_append,validR_one];exact⟨h1.1,h1.2.1,h1.2.2,by omega⟩) (fun p hp=>by
   have h2:=hr p (by simp[hp])
   exact⟨h2.1,h2.2.1,h2.2.2,hs.1 p hp⟩) hs.2
  rw[List.nil_append] at this
  refine⟨this.1,fun x=> ?_,by have:=this.2.2;simp at this ⊢;omega⟩
  rw[this.2.1,memR_one,memR_cons]
theorem validR_all {top:Int}:∀ {l:List (Int×Int)} {last:Int},validR top last l=true→∀ p∈l,0≤p.1∧p.1≤p.2∧p.2≤top
 |q::l,last,h,p,hp=>by
  obtain⟨h1,h2,h3,h4,h5⟩:=validR_cons h
  rcases List.mem_cons.1 hp with rfl | hp
  ·exact⟨by omega,by omega,by omega⟩
  ·exact validR_all h5 p hp
theorem swap_row:∀ (l:List (Int×Int)),flatR (prowsA l)=cellI (l.flatMap fun p=>[p.1,p.2])
 | []=>rfl
 |p::l=>by
  have h:=swap_row l
  simp only[flatR,prowsA,cellI] at h ⊢
  simp[prow,h]
theorem chunks_row:∀ (l:List (Int×Int)),chunksI 2 l.length (l.flatMap fun p=>[p.1,p.2])=l.map fun p=>[p.1,p.2]
 | []=>rfl
 |p::l=>by
  rw[List.length_cons,chunksI,List.flatMap_cons,List.map_cons,←chunks_row l];rfl
theorem sort_pobj {l:List (Int×Int)} (hw:l.length < 50) {H:List AObj} {id fl:Nat} {nl:Bool} (hg:H[id]? =some (pobj l fl nl)):
 ∃ l',l'.Perm l∧l'.Pairwise (fun p q=>p.1≤q.1)∧sortA 2 0 23 [.own id l.length,.clo 23 []] H=some (.pv (.tup []),H.set id (pobj l' (l.length * 2) nl)):=by
 obtain⟨s1,s2,s3⟩:=sortI_ok 2 0 (l.map fun p=>[p.1,p.2]).toArray
 have hso:∀ F,intsA (flatR (prowsA l))=some F→chunksI 2 l.length F=l.map fun p=>[p.1,p.2]:=by
  intro F hF
  rw[swap_row,intsA_cell] at hF
  injection hF with hF
  rw[← hF,chunks_row]
 generalize hE:sortI 2 0 (l.map fun p=>[p.1,p.2]).toArray=E at *
 have hEl:∃ l':List (Int×Int),E.toList=l'.map fun p=>[p.1,p.2]:=by
  have key:∀ (L:List (List Int)),(∀ r∈L,∃ p:Int×Int,r=[p.1,p.2])→∃ l':List (Int×Int),L=l'.map fun p=>[p.1,p.2]:=by
   intro L
   induction L with
   |nil=>intro _;exact⟨[],rfl⟩
   |cons r L ih=>
    intro h
    obtain⟨p,rfl⟩:=h r (by simp)
    obtain⟨l',rfl⟩:=ih fun x hx=>h x (by simp[hx])
    exact⟨p::l',rfl⟩
  refine key _ fun r hr=> ?_
  have:=s2.mem_iff.1 hr
  simp only[List.mem_map] at this
  obtain⟨p,_,rfl⟩:=this
  exact⟨p,rfl⟩
 obtain⟨l',hl'⟩:=hEl
 have hs:E.size=l.length:=by rw[s1];simp
 have hll:l'.length=l.length:=by rw[← hs,←Array.length_toList,hl',List.length_map]
 refine⟨l',?_,?_,?_⟩
 ·rw[hl'] at s2
  have:=s2.map fun r=>(r.getD 0 0,r.getD 1 0)
  simpa[List.map_map,Function.comp_def] using this
 ·rw[List.pairwise_iff_getElem]
  intro i j hi hj hij
  have h:=s3 i j hij (by simp;omega)
  have hg:∀ q (hq:q < l'.length),keyI 2 0 E[q]! =l'[q].1:=by
   intro q hq
   have h1:q < E.size:=by omega
   have:E[q]=[l'[q].1,l'[q].2]:=by
    have h2:E.toList[q]? =some [l'[q].1,l'[q].2]:=by rw[hl',List.getElem?_map,List.getElem?_eq_getElem hq];rfl
    rw[Array.getElem?_toList,Array.getElem?_eq_getElem h1] at h2
    exact Option.some.inj h2
   rw[getElem!_pos E q h1,this];rfl
  rw[hg i hi,hg j hj] at h
  omega
 ·have hfl:=pobj_len l
  unfold sortA
  simp only[hg,pobj,rowsObj]
  rw[if_pos ⟨trivial,trivial,by rw[hfl],by omega⟩]
  have hF:=swap_row l
  have hI:=intsA_cell (l.flatMap fun p=>[p.1,p.2])
  rw[← hF] at hI
  rw[hI,Option.map_some,hso _ hI,hE,hl',hfl]
  have e:cellI (List.map (fun p:Int×Int=>[p.1,p.2]) l').flatten=flatR (prowsA l'):=by rw[swap_row,List.flatMap_def]
  rw[e]
theorem norm_sort (d:Nat) (args:List AV) (H:List AObj):callLS S_norm t_scalars_Union (d+1) 22 args H=sortA 2 0 23 args H:=rfl
theorem norm_run (l:List (Int×Int)) (hl:Sane l) {id0 fl0:Nat} {nl0:Bool} (H:List AObj) (hH:HGood H) (hg0:H[id0]? =some (pobj l fl0 nl0)) (hf0:fl0≤l.length * 2) (hw:l.length < 50):
 wpO (fun r=>∃ l' fl nl,l'.Perm l∧l'.Pairwise (fun p q=>p.1≤q.1)∧r.1= .own (r.2.length - 1) (normR [] l').length∧HGood r.2∧r.2[r.2.length - 1]? =some (pobj (normR [] l') fl nl)∧fl≤(normR [] l').length * 2)
  (runF (callLS S_norm t_scalars_Union 7) b_sets_Norm [.own id0 l.length] H):=by
 obtain⟨l',hpl,hps,hst⟩:=sort_pobj hw hg0
 have hid0:=(List.getElem?_eq_some_iff.1 hg0).1
 have hs2:l'.length=l.length:=hpl.length_eq
 have hg:(H.set id0 (pobj l' (l.length * 2) nl0))[id0]? =some (pobj l' (l.length * 2) nl0):=List.getElem?_set_self hid0
 have hgd:HGood (H.set id0 (pobj l' (l.length * 2) nl0)):=by
  intro n hn o ho
  rcases List.mem_or_eq_of_mem_set ho with h | h
  ·exact hH n (by simpa using hn) o h
  ·subst h;exact pobj_cut _ _ _ _
 have hfl:l.length * 2≤l'.length * 2:=by omega
 simp (implicitDefEqProofs:=false) only[SP,SA,WP,sevalprocAttr,-List.reduceReplicate,b_sets_Norm,norm_sort,hst]
 generalize H.set id0 (pobj l' (l.length * 2) nl0)=H2 at *
 have hl':Sane l':=fun p hpp=>hl p (hpl.mem_iff.1 hpp)
 have hlp:=norm_loop (callLS S_norm t_scalars_Union 7) l' hl' H2 hgd hg hfl (by omega)
 rw[hs2] at hlp
 have hlen:lenA (H2++[pobj [] 0 true]) 0 (.own id0 l.length)=some l.length:=by
  have hid:id0 < H2.length:=(List.getElem?_eq_some_iff.1 hg).1
  have:=pobj_len l'
  rw[lenA_own,List.getElem?_append_left hid,hg]
  simp only[pobj,rowsObj]
  unfold flatR at this ⊢
  rw[if_pos];unfold winOk;omega
 have hg2:H2.length < H2.length+1:=Nat.lt_succ_self _
 have hid1:id0 < H2.length+1:=by have:=(List.getElem?_eq_some_iff.1 hg).1;omega
 have hgood:HGood (H2++[pobj [] 0 true]):=by
  intro n hn o ho
  rcases List.mem_append.1 ho with h | h
  ·exact hgd n (by simp at hn;omega) o h
  ·simp at h;subst h;exact pobj_cut _ _ _ _
 have hcut:=HGood.cut hgood
 have hlen1:(H2++[pobj [] 0 true]).length=H2.length+1:=by simp
 rw[hlen1] at hcut
 have hz:(0 < 2)=True:=by simp
 have ho:AObj.seq 2 true [] 0 true=pobj [] 0 true:=rfl
 simp (implicitDefEqProofs:=false) only[SP,SA,WP,sevalprocAttr,-List.reduceReplicate,C_loop,ghostA,hz,ho,hlen,hlen1,hcut,hg2,hid1,List.take_of_length_le (show (H2++[pobj [] 0 true]).length≤H2.length+1 by simp),clean,cutEnv,AV.cut,deep_eq']
 refine wpO_mono hlp ?_
 rintro _ ⟨E,fl2,nl2,rfl,hE,hfl2⟩
 simp (implicitDefEqProofs:=false) only[SP,SA,WP,sevalprocAttr,-List.reduceReplicate,hE]
 refine⟨l',fl2,nl2,hpl,hps,by simp,?_,by simp,hfl2⟩
 intro n hn o ho
 rcases List.mem_append.1 ho with h | h
 ·exact hgd n (by simp at hn;omega) o h
 ·simp at h;subst h;exact pobj_cut _ _ _ _
end Go.AM.B1
