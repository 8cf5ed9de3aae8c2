/- What functions of the program compute. -/
import Derived.Test.YtdglpnpkgngcdaaGreatM13
set_option linter.unusedVariables false
namespace Go.AM.B1
open Go.AM
def b_encode_New:AFn:=⟨3,[.tmp 6,.tmp 7],(.seq (.region [Co 6 (.move (.c .nilp)),Co 7 (.move (.c (.int .i64 0)))]) (.seq (.block 0 (.seq (.region [Cv 12 0,Co 13 (.eq 1 false (.t 12) (.c .nilp)),Cv 11 13]) (.cond (.t 11) (.seq (.region [Co 6 (.move (.c .nilp)),Co 7 (.move (.c (.int .i64 2)))]) (.ret)) (.seq (.region [Cv 15 1,Co 16 (.bin .lss (.t 15) (.c (.int .i64 1))),Cv 17 16,Cg 18 17 false (.move (.t 1)),Cg 19 17 false (.bin .gtr (.t 18) (.c (.int .i64 3))),Co 20 (.pick (.t 17) (.c (.bool true)) (.t 19)),Cv 14 20]) (.cond (.t 14) (.seq (.region [Co 6 (.move (.c .nilp)),Co 7 (.move (.c (.int .i64 180)))]) (.ret)) (.skip)))))) (.seq (.region [Cv 21 0,Cv 22 1,Co 23 (.build [.nilp,(.int .i64 0),.nils,(.int .i64 0),(.int .i64 0),(.bool false),(.bool false)] [(0,1,(.t 21)),(1,1,(.t 22))]),Co 24 (.box 7 (.t 23)),Cv 8 24]) (.seq (.seq (.region [Cv 25 1,Co 26 (.bin .eql (.t 25) (.c (.int .i64 2)))]) (.cond (.t 26) (.seq (.region [Cv 28 0,Cv 29 2,Co 30 (.callP F_table_Table_Encode [(.t 28),(.t 29)]),Cv 27 30,Co 31 (.ext 0 (.t 27)),Co 32 (.ext 1 (.t 27)),Cv 9 31,Cv 10 32]) (.seq (.seq (.region [Cv 33 10,Co 34 (.un .not (.t 33))]) (.cond (.t 34) (.seq (.region [Co 6 (.move (.c .nilp)),Co 7 (.move (.c (.int .i64 190)))]) (.ret)) (.skip))) (.region [Cv 35 8,Cv 36 9,Co 37 (.nilck (.t 35)),Co 38 (.faddr 2 (.t 37)),Ce (.store 1 (.t 38) (.t 36))]))) (.skip))) (.seq (.region [Cv 39 8,Cv 6 39,Co 7 (.move (.c (.int .i64 0)))]) (.ret))))))⟩
theorem fn_encode_New:FnOk P fo 34 b_encode_New:=fM Go.Proofs.Tryz.func34 (dC p_table_Table_Encode dN) (by kernel_rfl) (by kernel_rfl)
def b_leadtraillaw19_two:AFn:=⟨0,[.tmp 0],(.seq (.region [Co 0 (.move (.c .nilp))]) (.seq (.region [Co 4 (.build [(.int .i64 0),(.int .i64 0)] [(0,1,(.c (.int .i64 128))),(1,1,(.c (.int .i64 191)))]),Co 5 (.bslice .lit 2 true 1 [(.int .i64 0),(.int .i64 0)] [(0,(.t 4))]),Cv 1 5]) (.seq (.region [Co 7 (.build [(.int .i64 0),(.int .i64 0)] [(0,1,(.c (.int .i64 0))),(1,1,(.c (.int .i64 127)))]),Co 8 (.bslice .lit 2 true 1 [(.int .i64 0),(.int .i64 0)] [(0,(.t 7))]),Co 9 (.bslice .lit 1 false 1 [.nils] [(0,(.t 8))]),Co 10 (.build [.nils,(.int .i64 0)] [(0,1,(.t 9))]),Co 11 (.build [(.int .i64 0),(.int .i64 0)] [(0,1,(.c (.int .i64 194))),(1,1,(.c (.int .i64 223)))]),Co 12 (.bslice .lit 2 true 1 [(.int .i64 0),(.int .i64 0)] [(0,(.t 11))]),Cv 13 1,Co 14 (.bslice .lit 1 false 2 [.nils] [(0,(.t 12)),(1,(.t 13))]),Co 15 (.build [.nils,(.int .i64 0)] [(0,1,(.t 14)),(1,1,(.c (.int .i64 128)))]),Co 16 (.build [(.int .i64 0),(.int .i64 0)] [(0,1,(.c (.int .i64 225))),(1,1,(.c (.int .i64 225)))]),Co 17 (.bslice .lit 2 true 1 [(.int .i64 0),(.int .i64 0)] [(0,(.t 16))]),Cv 18 1,Cv 19 1,Co 20 (.bslice .lit 1 false 3 [.nils] [(0,(.t 17)),(1,(.t 18)),(2,(.t 19))]),Co 21 (.build [.nils,(.int .i64 0)] [(0,1,(.t 20)),(1,1,(.c (.int .i64 4096)))]),Co 22 (.bslice .lit 2 true 3 [.nils,(.int .i64 0)] [(0,(.t 10)),(1,(.t 15)),(2,(.t 21))]),Co 23 (.build [.nils] [(0,1,(.t 22))]),Co 24 (.callP F_table_Compile [(.t 23)]),Cv 6 24,Co 25 (.ext 0 (.t 6)),Co 26 (.ext 1 (.t 6)),Cv 2 25,Cv 3 26]) (.seq (.region [Cv 27 2,Cv 0 27]) (.ret)))))⟩
theorem fn_leadtraillaw19_two:FnOk P fo 35 b_leadtraillaw19_two:=fM Go.Proofs.Tryz.func35 (dC p_table_Compile dN) (by kernel_rfl) (by kernel_rfl)
def F_leadtraillaw19_two:List PV→Option PV:=pureF (fun _=>none) b_leadtraillaw19_two
theorem p_leadtraillaw19_two:PureFn P 35 F_leadtraillaw19_two:=pureF_ok noTable fn_leadtraillaw19_two
def b_encode_Encoder_fault:AFn:=⟨2,[.tmp 4],(.seq (.region [Co 4 (.move (.c (.int .i64 0)))]) (.seq (.block 0 (.seq (.region [Cv 6 0,Co 7 (.eq 1 false (.t 6) (.c .nilp)),Cv 5 7]) (.cond (.t 5) (.seq (.region [Co 4 (.move (.c (.int .i64 2)))]) (.ret)) (.seq (.region [Cv 9 0,Co 10 (.nilck (.t 9)),Co 11 (.faddr 6 (.t 10)),Co 12 (.load false 1 (.t 11)),Cv 8 12]) (.cond (.t 8) (.seq (.region [Co 4 (.move (.c (.int .i64 181)))]) (.ret)) (.seq (.region [Cv 14 0,Co 15 (.nilck (.t 14)),Co 16 (.faddr 5 (.t 15)),Co 17 (.load false 1 (.t 16)),Cv 13 17]) (.cond (.t 13) (.seq (.region [Co 4 (.move (.c (.int .i64 182)))]) (.ret)) (.seq (.region [Cv 19 1,Cv 20 0,Co 21 (.nilck (.t 20)),Co 22 (.faddr 3 (.t 21)),Co 23 (.load false 1 (.t 22)),Co 24 (.bin .sub (.c (.int .i64 65536)) (.t 23)),Co 25 (.bin .gtr (.t 19) (.t 24)),Cv 18 25]) (.cond (.t 18) (.seq (.region [Co 4 (.move (.c (.int .i64 183)))]) (.ret)) (.skip)))))))))) (.seq (.region [Co 4 (.move (.c (.int .i64 0)))]) (.ret))))⟩
theorem fn_encode_Encoder_fault:FnOk P fo 85 b_encode_Encoder_fault:=fM Go.Proofs.Tryz.func85 dN (by kernel_rfl) (by kernel_rfl)
def b_encode_Encoder_Feed_l0:ACode:=(.seq (.region [Co 38 (.bin .lss (.t 37) (.t 36))]) (.seq (.cond (.t 38) (.skip) (.exit 0)) (.seq (.block 1 (.seq (.region [Cv 39 37,Co 40 (.iaddr 1 (.t 35) (.t 37)),Co 41 (.load false 1 (.t 40)),Cv 11 39,Cv 12 41]) (.seq (.region [Cv 43 0,Co 44 (.nilck (.t 43)),Co 45 (.faddr 0 (.t 44)),Co 46 (.load false 1 (.t 45)),Cv 47 12,Co 48 (.callP F_table_Table_Encode [(.t 46),(.t 47)]),Cv 42 48,Co 49 (.ext 0 (.t 42)),Co 50 (.ext 1 (.t 42)),Cv 13 49,Cv 14 50]) (.seq (.seq (.region [Cv 51 14]) (.cond (.t 51) (.seq (.region [Cv 52 8,Cv 53 13,Co 54 (.append false .uq 1 false 1 (.t 52) (.t 53)),Cv 8 54]) (.exit 1)) (.skip))) (.seq (.region [Cv 55 9,Cv 56 10,Cv 57 11,Co 58 (.bin .add (.t 56) (.t 57)),Cv 59 12,Cv 60 0,Co 61 (.nilck (.t 60)),Co 62 (.faddr 4 (.t 61)),Co 63 (.load false 1 (.t 62)),Cv 64 8,Co 65 (.len 0 (.t 64)),Co 66 (.bin .add (.t 63) (.t 65)),Co 67 (.build [(.int .i64 0),(.int .i64 0),(.int .i64 0),(.int .i64 0),(.int .i64 0)] [(0,1,(.c (.int .i64 4))),(1,1,(.t 58)),(2,1,(.c (.int .i64 1))),(3,1,(.t 59)),(4,1,(.t 66))]),Co 68 (.bslice .lit 5 true 1 [(.int .i64 0),(.int .i64 0),(.int .i64 0),(.int .i64 0),(.int .i64 0)] [(0,(.t 67))]),Co 69 (.append false .uq 5 true 40 (.t 55) (.t 68)),Cv 9 69]) (.seq (.region [Cv 70 0,Co 71 (.nilck (.t 70)),Co 72 (.faddr 1 (.t 71)),Co 73 (.load false 1 (.t 72))]) (.block 2 (.seq (.region [Co 75 (.bin .eql (.t 73) (.c (.int .i64 2))),Cv 74 75]) (.cond (.t 74) (.region [Cv 76 8,Cv 77 0,Co 78 (.nilck (.t 77)),Co 79 (.faddr 2 (.t 78)),Co 80 (.load false 1 (.t 79)),Co 81 (.append false .uq 1 false 1 (.t 76) (.t 80)),Cv 8 81]) (.seq (.region [Co 83 (.bin .eql (.t 73) (.c (.int .i64 3))),Cv 82 83]) (.cond (.t 82) (.seq (.region [Cv 84 0,Co 85 (.nilck (.t 84)),Co 86 (.faddr 5 (.t 85)),Ce (.store 1 (.t 86) (.c (.bool true)))]) (.exit 0)) (.skip)))))))))))) (.region [Co 87 (.bin .add (.t 37) (.c (.int .i64 1))),Cv 37 87]))))
def b_encode_Encoder_Feed:AFn:=⟨2,[.tmp 4,.tmp 5,.tmp 6],(.seq (.region [Co 4 (.move (.c .nils)),Co 5 (.move (.c .nils)),Co 6 (.move (.c (.int .i64 0)))]) (.scope (.seq (.seq (.region [Cv 15 0,Cv 16 1,Co 17 (.len 0 (.t 16)),Co 18 (.callI 62 [(.t 15),(.t 17)]),Cv 7 18]) (.seq (.region [Cv 19 7,Co 20 (.bin .neq (.t 19) (.c (.int .i64 0)))]) (.cond (.t 20) (.seq (.region [Cv 21 7,Co 4 (.move (.c .nils)),Co 5 (.move (.c .nils)),Cv 6 21]) (.ret)) (.skip)))) (.seq (.region [Co 8 (.move (.c .nils))]) (.ghost (.mkuq 8 1) (.seq (.region [Co 9 (.move (.c .nils))]) (.ghost (.mkuq 9 5) (.seq (.region [Cv 22 0,Co 23 (.nilck (.t 22)),Co 24 (.faddr 3 (.t 23)),Co 25 (.load false 1 (.t 24)),Cv 10 25]) (.seq (.region [Cv 26 0,Co 27 (.nilck (.t 26)),Co 28 (.faddr 3 (.t 27)),Co 29 (.load false 1 (.t 28)),Cv 30 1,Co 31 (.len 0 (.t 30)),Co 32 (.bin .add (.t 29) (.t 31)),Co 33 (.nilck (.t 26)),Co 34 (.faddr 3 (.t 33)),Ce (.store 1 (.t 34) (.t 32))]) (.seq (.skip) (.seq (.seq (.region [Cv 35 1,Co 36 (.len 0 (.t 35)),Co 37 (.move (.c (.int .i64 0)))]) (.block 0 (.loop [0,8,9,10,35,36,37] b_encode_Encoder_Feed_l0))) (.seq (.region [Cv 88 0,Co 89 (.nilck (.t 88)),Co 90 (.faddr 4 (.t 89)),Co 91 (.load false 1 (.t 90)),Cv 92 8,Co 93 (.len 0 (.t 92)),Co 94 (.bin .add (.t 91) (.t 93)),Co 95 (.nilck (.t 88)),Co 96 (.faddr 4 (.t 95)),Ce (.store 1 (.t 96) (.t 94))]) (.seq (.region [Cv 97 8,Cv 98 9,Cv 4 97,Cv 5 98,Co 6 (.move (.c (.int .i64 0)))]) (.ret))))))))))))))⟩
theorem fn_encode_Encoder_Feed:FnOk P fo 37 b_encode_Encoder_Feed:=fM Go.Proofs.Tryz.func37 (dC p_table_Table_Encode dN) (by kernel_rfl) (by kernel_rfl)
def b_leadtrailref17_Same_l0:ACode:=(.seq (.seq (.region [Cv 11 5,Cv 12 0,Co 13 (.len 0 (.t 12)),Co 14 (.bin .lss (.t 11) (.t 13))]) (.cond (.t 14) (.skip) (.exit 0))) (.seq (.block 1 (.seq (.region [Cv 17 0,Cv 18 5,Cp 19 (.iaddr 5 (.t 17) (.t 18)),Cp 20 (.load true 5 (.t 19)),Cv 21 1,Cv 22 5,Cp 23 (.iaddr 5 (.t 21) (.t 22)),Cp 24 (.load true 5 (.t 23)),Co 25 (.eqR (.row [1,1,1,1,1]) true (.t 20) (.t 24))]) (.cond (.t 25) (.seq (.region [Co 4 (.move (.c (.bool false)))]) (.ret)) (.skip)))) (.region [Cv 15 5,Co 16 (.bin .add (.t 15) (.c (.int .i64 1))),Cv 5 16])))
def b_leadtrailref17_Same:AFn:=⟨2,[.tmp 4],(.seq (.region [Co 4 (.move (.c (.bool false)))]) (.seq (.seq (.region [Cv 6 0,Co 7 (.len 0 (.t 6)),Cv 8 1,Co 9 (.len 0 (.t 8)),Co 10 (.bin .neq (.t 7) (.t 9))]) (.cond (.t 10) (.seq (.region [Co 4 (.move (.c (.bool false)))]) (.ret)) (.skip))) (.seq (.seq (.region [Co 5 (.move (.c (.int .i64 0)))]) (.block 0 (.loop [0,1,5] b_leadtrailref17_Same_l0))) (.seq (.region [Co 4 (.move (.c (.bool true)))]) (.ret)))))⟩
theorem fn_leadtrailref17_Same:FnOk P fo 55 b_leadtrailref17_Same:=fM Go.Proofs.Tryz.func55 dN (by kernel_rfl) (by kernel_rfl)
def F_leadtrailref17_Same:List PV→Option PV:=pureF (fun _=>none) b_leadtrailref17_Same
theorem p_leadtrailref17_Same:PureFn P 55 F_leadtrailref17_Same:=pureF_ok noTable fn_leadtrailref17_Same
def b_encode_Encoder_Total:AFn:=⟨1,[.tmp 2],(.seq (.region [Co 2 (.move (.c (.int .i64 0)))]) (.seq (.seq (.region [Cv 3 0,Co 4 (.eq 1 false (.t 3) (.c .nilp))]) (.cond (.t 4) (.seq (.region [Co 2 (.move (.c (.int .i64 0)))]) (.ret)) (.skip))) (.seq (.region [Cv 5 0,Co 6 (.nilck (.t 5)),Co 7 (.faddr 3 (.t 6)),Co 8 (.load false 1 (.t 7)),Cv 2 8]) (.ret))))⟩
theorem fn_encode_Encoder_Total:FnOk P fo 38 b_encode_Encoder_Total:=fM Go.Proofs.Tryz.func38 dN (by kernel_rfl) (by kernel_rfl)
def F_encode_Encoder_Total:List PV→Option PV:=pureF (fun _=>none) b_encode_Encoder_Total
theorem p_encode_Encoder_Total:PureFn P 38 F_encode_Encoder_Total:=pureF_ok noTable fn_encode_Encoder_Total
def b_encode_Encoder_Out:AFn:=⟨1,[.tmp 2],(.seq (.region [Co 2 (.move (.c (.int .i64 0)))]) (.seq (.seq (.region [Cv 3 0,Co 4 (.eq 1 false (.t 3) (.c .nilp))]) (.cond (.t 4) (.seq (.region [Co 2 (.move (.c (.int .i64 0)))]) (.ret)) (.skip))) (.seq (.region [Cv 5 0,Co 6 (.nilck (.t 5)),Co 7 (.faddr 4 (.t 6)),Co 8 (.load false 1 (.t 7)),Cv 2 8]) (.ret))))⟩
theorem fn_encode_Encoder_Out:FnOk P fo 58 b_encode_Encoder_Out:=fM Go.Proofs.Tryz.func58 dN (by kernel_rfl) (by kernel_rfl)
def F_encode_Encoder_Out:List PV→Option PV:=pureF (fun _=>none) b_encode_Encoder_Out
theorem p_encode_Encoder_Out:PureFn P 58 F_encode_Encoder_Out:=pureF_ok noTable fn_encode_Encoder_Out
def b_leadtraillaw19_fixed:AFn:=⟨0,[.tmp 0],(.seq (.region [Co 0 (.move (.c (.bool false)))]) (.seq (.region [Co 10 (.callP F_leadtraillaw19_two []),Co 11 (.callI 60 [(.t 10),(.c (.int .i64 2)),(.c (.int .i64 63))]),Cv 9 11,Co 12 (.ext 0 (.t 9)),Co 13 (.ext 1 (.t 9)),Cv 1 12,Cv 2 13]) (.seq (.seq (.region [Cv 14 1,Co 15 (.eq 1 false (.t 14) (.c .nilp)),Cv 16 15,Cg 17 16 false (.move (.t 2)),Cg 18 16 false (.bin .neq (.t 17) (.c (.int .i64 0))),Co 19 (.pick (.t 16) (.c (.bool true)) (.t 18))]) (.cond (.t 19) (.seq (.region [Co 0 (.move (.c (.bool false)))]) (.ret)) (.skip))) (.seq (.region [Cv 21 1,Co 22 (.bslice .lit 1 false 2 [(.int .i64 0)] [(0,(.c (.int .i64 65))),(1,(.c (.int .i64 233)))]),Co 23 (.callI 61 [(.t 21),(.t 22)]),Cv 20 23,Co 24 (.ext 0 (.t 20)),Co 25 (.ext 1 (.t 20)),Co 26 (.ext 2 (.t 20)),Cv 3 24,Cv 4 25,Cv 5 26]) (.seq (.region [Cv 28 1,Co 29 (.bslice .lit 1 false 2 [(.int .i64 0)] [(0,(.c (.int .i64 3000))),(1,(.c (.int .i64 66)))]),Co 30 (.callI 61 [(.t 28),(.t 29)]),Cv 27 30,Co 31 (.ext 0 (.t 27)),Co 32 (.ext 1 (.t 27)),Co 33 (.ext 2 (.t 27)),Cv 6 31,Cv 7 32,Cv 8 33]) (.seq (.region [Cv 34 5,Co 35 (.bin .eql (.t 34) (.c (.int .i64 0))),Cv 36 35,Cg 37 36 true (.move (.t 8)),Cg 38 36 true (.bin .eql (.t 37) (.c (.int .i64 0))),Co 39 (.pick (.t 36) (.t 38) (.c (.bool false))),Cv 40 39,Cg 41 40 true (.move (.t 3)),Cg 42 40 true (.b2s (.t 41)),⟨(some 43),.bin .eql (.t 42) (.c (.str ⟨#[65,195,169]⟩)),(some (40,true)),false⟩,Co 44 (.pick (.t 40) (.t 43) (.c (.bool false))),Cv 45 44,Cg 46 45 true (.move (.t 4)),Cg 47 45 true (.len 0 (.t 46)),Cg 48 45 true (.bin .eql (.t 47) (.c (.int .i64 0))),Co 49 (.pick (.t 45) (.t 48) (.c (.bool false))),Cv 50 49,Cg 51 50 true (.move (.t 6)),Cg 52 50 true (.b2s (.t 51)),⟨(some 53),.bin .eql (.t 52) (.c (.str ⟨#[63,66]⟩)),(some (50,true)),false⟩,Co 54 (.pick (.t 50) (.t 53) (.c (.bool false))),Cv 55 54,Cg 56 55 true (.move (.t 7)),Cg 57 55 true (.build [(.int .i64 0),(.int .i64 0),(.int .i64 0),(.int .i64 0),(.int .i64 0)] [(0,1,(.c (.int .i64 4))),(1,1,(.c (.int .i64 2))),(2,1,(.c (.int .i64 1))),(3,1,(.c (.int .i64 3000))),(4,1,(.c (.int .i64 3)))]),Cg 58 55 true (.bslice .lit 5 true 1 [(.int .i64 0),(.int .i64 0),(.int .i64 0),(.int .i64 0),(.int .i64 0)] [(0,(.t 57))]),Cg 59 55 true (.callP F_leadtrailref17_Same [(.t 56),(.t 58)]),Co 60 (.pick (.t 55) (.t 59) (.c (.bool false))),Cv 61 60,Cg 62 61 true (.move (.t 1)),Cg 63 61 true (.callP F_encode_Encoder_Total [(.t 62)]),Cg 64 61 true (.bin .eql (.t 63) (.c (.int .i64 4))),Co 65 (.pick (.t 61) (.t 64) (.c (.bool false))),Cv 66 65,Cg 67 66 true (.move (.t 1)),Cg 68 66 true (.callP F_encode_Encoder_Out [(.t 67)]),Cg 69 66 true (.bin .eql (.t 68) (.c (.int .i64 5))),Co 70 (.pick (.t 66) (.t 69) (.c (.bool false))),Cv 0 70]) (.ret)))))))⟩
theorem fn_leadtraillaw19_fixed:FnOk P fo 36 b_leadtraillaw19_fixed:=fM Go.Proofs.Tryz.func36 (dC p_leadtraillaw19_two (dC p_leadtrailref17_Same (dC p_encode_Encoder_Total (dC p_encode_Encoder_Out dN)))) (by kernel_rfl) (by kernel_rfl)
def t_leadtraillaw19_fixed:Nat→Option AFn
 |60=>some b_encode_New
 |61=>some b_encode_Encoder_Feed
 |62=>some b_encode_Encoder_fault
 |_=>none
theorem tok_leadtraillaw19_fixed:TableOk P fo t_leadtraillaw19_fixed:=by
 intro ix af h
 unfold t_leadtraillaw19_fixed at h
 split at h
 ·injection h with h;subst h;exact fn_encode_New
 ·injection h with h;subst h;exact fn_encode_Encoder_Feed
 ·injection h with h;subst h;exact fn_encode_Encoder_fault
 ·cases h
def F_leadtraillaw19_fixed:List PV→Option PV:=pureF t_leadtraillaw19_fixed b_leadtraillaw19_fixed
theorem p_leadtraillaw19_fixed:PureFn P 36 F_leadtraillaw19_fixed:=pureF_ok tok_leadtraillaw19_fixed fn_leadtraillaw19_fixed
def b_leadtraillaw19_EncodeNames:AFn:=⟨0,[.tmp 0],(.seq (.region [Co 0 (.move (.c (.bool false)))]) (.seq (.region [Co 20 (.callI 60 [(.c .nilp),(.c (.int .i64 0)),(.c (.int .i64 0))]),Cv 19 20,Co 21 (.ext 0 (.t 19)),Co 22 (.ext 1 (.t 19)),Cv 1 21,Cv 2 22]) (.seq (.region [Co 24 (.callP F_leadtraillaw19_two []),Co 25 (.callI 60 [(.t 24),(.c (.int .i64 4)),(.c (.int .i64 65))]),Cv 23 25,Co 26 (.ext 0 (.t 23)),Co 27 (.ext 1 (.t 23)),Cv 3 26,Cv 4 27]) (.seq (.region [Co 29 (.callP F_leadtraillaw19_two []),Co 30 (.callI 60 [(.t 29),(.c (.int .i64 2)),(.c (.int .i64 3000))]),Cv 28 30,Co 31 (.ext 0 (.t 28)),Co 32 (.ext 1 (.t 28)),Cv 5 31,Cv 6 32]) (.seq (.region [Co 34 (.callP F_leadtraillaw19_two []),Co 35 (.callI 60 [(.t 34),(.c (.int .i64 1)),(.c (.int .i64 3000))]),Cv 33 35,Co 36 (.ext 0 (.t 33)),Co 37 (.ext 1 (.t 33)),Cv 7 36,Cv 8 37]) (.seq (.seq (.region [Co 38 (.callP F_leadtraillaw19_fixed []),Co 39 (.un .not (.t 38)),Cv 40 39,Co 41 (.pick (.t 40) (.c (.bool true)) (.c (.bool false))),Cv 42 41,Cg 43 42 false (.move (.t 1)),Cg 44 42 false (.eq 1 true (.t 43) (.c .nilp)),Co 45 (.pick (.t 42) (.c (.bool true)) (.t 44)),Cv 46 45,Cg 47 46 false (.move (.t 2)),Cg 48 46 false (.bin .neq (.t 47) (.c (.int .i64 2))),Co 49 (.pick (.t 46) (.c (.bool true)) (.t 48)),Cv 50 49,Cg 51 50 false (.move (.t 3)),Cg 52 50 false (.eq 1 true (.t 51) (.c .nilp)),Co 53 (.pick (.t 50) (.c (.bool true)) (.t 52)),Cv 54 53,Cg 55 54 false (.move (.t 4)),Cg 56 54 false (.bin .neq (.t 55) (.c (.int .i64 180))),Co 57 (.pick (.t 54) (.c (.bool true)) (.t 56)),Cv 58 57,Cg 59 58 false (.move (.t 5)),Cg 60 58 false (.eq 1 true (.t 59) (.c .nilp)),Co 61 (.pick (.t 58) (.c (.bool true)) (.t 60)),Cv 62 61,Cg 63 62 false (.move (.t 6)),Cg 64 62 false (.bin .neq (.t 63) (.c (.int .i64 190))),Co 65 (.pick (.t 62) (.c (.bool true)) (.t 64)),Cv 66 65,Cg 67 66 false (.move (.t 7)),Cg 68 66 false (.eq 1 false (.t 67) (.c .nilp)),Co 69 (.pick (.t 66) (.c (.bool true)) (.t 68)),Cv 70 69,Cg 71 70 false (.move (.t 8)),Cg 72 70 false (.bin .neq (.t 71) (.c (.int .i64 0))),Co 73 (.pick (.t 70) (.c (.bool true)) (.t 72))]) (.cond (.t 73) (.seq (.region [Co 0 (.move (.c (.bool false)))]) (.ret)) (.skip))) (.seq (.region [Co 74 (.mkslice .lit 1 false [(.int .i64 0)] 8 (.c (.int .i64 65536)) (.c (.int .i64 65536))),Cv 9 74]) (.seq (.region [Cv 76 7,Cv 77 9,Co 78 (.callI 61 [(.t 76),(.t 77)]),Cv 75 78,Co 79 (.ext 0 (.t 75)),Co 80 (.ext 1 (.t 75)),Co 81 (.ext 2 (.t 75)),Cv 10 79,Cv 11 80,Cv 12 81]) (.seq (.region [Cv 83 7,Cv 84 9,Co 85 (.slice 1 (.t 84) none (some (.c (.int .i64 1)))),Co 86 (.callI 61 [(.t 83),(.t 85)]),Cv 82 86,Co 87 (.ext 0 (.t 82)),Co 88 (.ext 1 (.t 82)),Co 89 (.ext 2 (.t 82)),Cv 13 87,Cv 14 88,Cv 15 89]) (.seq (.region [Cv 91 7,Co 92 (.callI 61 [(.t 91),(.c .nils)]),Cv 90 92,Co 93 (.ext 0 (.t 90)),Co 94 (.ext 1 (.t 90)),Co 95 (.ext 2 (.t 90)),Cv 16 93,Cv 17 94,Cv 18 95]) (.seq (.region [Cv 96 12,Co 97 (.bin .eql (.t 96) (.c (.int .i64 0))),Cv 98 97,Cg 99 98 true (.move (.t 10)),Cg 100 98 true (.len 0 (.t 99)),Cg 101 98 true (.bin .eql (.t 100) (.c (.int .i64 65536))),Co 102 (.pick (.t 98) (.t 101) (.c (.bool false))),Cv 103 102,Cg 104 103 true (.move (.t 15)),Cg 105 103 true (.bin .eql (.t 104) (.c (.int .i64 183))),Co 106 (.pick (.t 103) (.t 105) (.c (.bool false))),Cv 107 106,Cg 108 107 true (.move (.t 18)),Cg 109 107 true (.bin .eql (.t 108) (.c (.int .i64 0))),Co 110 (.pick (.t 107) (.t 109) (.c (.bool false))),Cv 111 110,Cg 112 111 true (.move (.t 7)),Cg 113 111 true (.callP F_encode_Encoder_Total [(.t 112)]),Cg 114 111 true (.bin .eql (.t 113) (.c (.int .i64 65536))),Co 115 (.pick (.t 111) (.t 114) (.c (.bool false))),Cv 0 115]) (.ret))))))))))))⟩
theorem fn_leadtraillaw19_EncodeNames:FnOk P fo 6 b_leadtraillaw19_EncodeNames:=fM Go.Proofs.Tryz.func6 (dC p_leadtraillaw19_two (dC p_leadtraillaw19_two (dC p_leadtraillaw19_two (dC p_leadtraillaw19_fixed (dC p_encode_Encoder_Total dN))))) (by kernel_rfl) (by kernel_rfl)
def t_leadtraillaw19_EncodeNames:Nat→Option AFn
 |60=>some b_encode_New
 |61=>some b_encode_Encoder_Feed
 |62=>some b_encode_Encoder_fault
 |_=>none
theorem tok_leadtraillaw19_EncodeNames:TableOk P fo t_leadtraillaw19_EncodeNames:=by
 intro ix af h
 unfold t_leadtraillaw19_EncodeNames at h
 split at h
 ·injection h with h;subst h;exact fn_encode_New
 ·injection h with h;subst h;exact fn_encode_Encoder_Feed
 ·injection h with h;subst h;exact fn_encode_Encoder_fault
 ·cases h
def F_leadtraillaw19_EncodeNames:List PV→Option PV:=pureF t_leadtraillaw19_EncodeNames b_leadtraillaw19_EncodeNames
theorem p_leadtraillaw19_EncodeNames:PureFn P 6 F_leadtraillaw19_EncodeNames:=pureF_ok tok_leadtraillaw19_EncodeNames fn_leadtraillaw19_EncodeNames
end Go.AM.B1
set_option linter.unusedSimpArgs false
namespace Go.AM.B1
open Go.AM Go.AM.So
def encB (T R:PV) (un tot out:Int) (st fin:Bool):AObj:= .box ([T,i64 un,R,i64 tot,i64 out,.bool st,.bool fin].map .pv)
theorem encB_eq {T R:PV} {un tot out:Int} {st fin:Bool}:encB T R un tot out st fin= .box [.pv T,.pv (i64 un),.pv R,.pv (i64 tot),.pv (i64 out),.pv (.bool st),.pv (.bool fin)]:=rfl
def evP (a u o:Int):PV:= .agg [i64 4,i64 a,i64 1,i64 u,i64 o]
def feedGo (cd:Int→Option (List Int)) (un:Int) (rb:List Int) (base out:Int):Nat→List Int→List PV→List Int→List Int×List PV×Bool
 |_,acc,evs,[]=>(acc,evs,false)
 |i,acc,evs,u::us=>match cd u with
  |some b=>feedGo cd un rb base out (i+1) (acc++b) evs us
  |none=>if un=3 then (acc,evs++[evP (base+i) u (out+acc.length)],true) else feedGo cd un rb base out (i+1) (acc++rb) (evs++[evP (base+i) u (out+acc.length)]) us
structure EncT (T:PV) (cd:Int→Option (List Int)):Prop where
 enc:∀ u,F_table_Table_Encode [T,i64 u]=some (match cd u with | some b=> .tup [.lit 1 (b.map u8),.bool true] | none=> .tup [.nils,.bool false])
 len:∀ u b,cd u=some b→b.length≤8
 ptr:∃ R,T= .rp R 0
structure UsIs (U:AV) (us:List Int) (n0:Nat):Prop where
 len:∀ H,lenA H 0 U=some us.length
 at':∀ H (i:Nat) (h:i < us.length),iaddrA' H 1 U i=some (.pv (.rp [i64 us[i]] 0))
 cut:∀ n,n0≤n→AV.cut n deep U=some U
theorem uq_appends {A:List AObj} {id n sz bytes:Nat} {nl nl' ag:Bool} {h:Hold} {es ys:List PV} (hg:A[id]? =some (.tok sz n nl')) (hn:n=es.length) (hr:roomOk (es.length+ys.length) bytes):
 appendA A false h sz ag bytes (.uq id nl sz es) (.pv (.lit sz ys))=some (.uq id (nl&&ys.isEmpty) sz (es++ys),A.set id (.tok sz (es.length+ys.length) (nl&&ys.isEmpty))):=by
 subst hn
 simp only[appendA,Bool.false_eq_true,if_false,hg,elemsP,if_true,Option.bind_some]
 rw[if_pos ⟨trivial,trivial,trivial,hr⟩]
section
variable {A:List AObj} {c:Nat}
def hpE (A:List AObj) (c:Nat) (b:AObj) (k1:Nat) (n1:Bool) (k5:Nat) (n5:Bool):List AObj:=A.set c b++[.tok 1 k1 n1,.tok 5 k5 n5]
theorem hpE_c (hc:c < A.length) (b:AObj) (k1:Nat) (n1:Bool) (k5:Nat) (n5:Bool):(hpE A c b k1 n1 k5 n5)[c]? =some b:=by
 unfold hpE
 rw[List.getElem?_append_left (by rw[List.length_set];exact hc),List.getElem?_set_self hc]
theorem hpE_1 (b:AObj) (k1:Nat) (n1:Bool) (k5:Nat) (n5:Bool):(hpE A c b k1 n1 k5 n5)[A.length]? =some (.tok 1 k1 n1):=by
 unfold hpE
 rw[List.getElem?_append_right (by rw[List.length_set];exact Nat.le_refl _),List.length_set,Nat.sub_self];rfl
theorem hpE_5 (b:AObj) (k1:Nat) (n1:Bool) (k5:Nat) (n5:Bool):(hpE A c b k1 n1 k5 n5)[A.length+1]? =some (.tok 5 k5 n5):=by
 unfold hpE
 rw[List.getElem?_append_right (by rw[List.length_set];omega),List.length_set,show A.length+1 - A.length=1 by omega];rfl
theorem hpE_setc (hc:c < A.length) (b b':AObj) (k1:Nat) (n1:Bool) (k5:Nat) (n5:Bool):(hpE A c b k1 n1 k5 n5).set c b'=hpE A c b' k1 n1 k5 n5:=by
 unfold hpE
 rw[List.set_append_left _ _ (by rw[List.length_set];exact hc),List.set_set]
theorem hpE_set1 (b:AObj) (k1 j:Nat) (n1 m:Bool) (k5:Nat) (n5:Bool):(hpE A c b k1 n1 k5 n5).set A.length (.tok 1 j m)=hpE A c b j m k5 n5:=by
 unfold hpE
 rw[List.set_append_right _ _ (by rw[List.length_set];exact Nat.le_refl _),List.length_set,Nat.sub_self];rfl
theorem hpE_set5 (b:AObj) (k1 j:Nat) (n1 m:Bool) (k5:Nat) (n5:Bool):(hpE A c b k1 n1 k5 n5).set (A.length+1) (.tok 5 j m)=hpE A c b k1 n1 j m:=by
 unfold hpE
 rw[List.set_append_right _ _ (by rw[List.length_set];omega),List.length_set,show A.length+1 - A.length=1 by omega];rfl
theorem hpE_len (b:AObj) (k1:Nat) (n1:Bool) (k5:Nat) (n5:Bool):(hpE A c b k1 n1 k5 n5).length=A.length+2:=by
 simp[hpE]
theorem hpE_good (hA:HGood A) {T R:PV} {un tot out:Int} {st fin:Bool} (k1:Nat) (n1:Bool) (k5:Nat) (n5:Bool):∀ o∈hpE A c (encB T R un tot out st fin) k1 n1 k5 n5,cutObj (A.length+2) o=some o:=by
 intro o ho
 unfold hpE at ho
 rcases List.mem_append.1 ho with h | h
 ·rcases List.mem_or_eq_of_mem_set h with h | rfl
  ·exact hA _ (by omega) _ h
  ·exact boxP_cut _ _
 ·simp only[List.mem_cons,List.not_mem_nil,or_false] at h
  rcases h with rfl | rfl <;> rfl
theorem fault_run {call:CallF} {H:List AObj} {T R:PV} {un tot out:Int} {st fin:Bool} (hc:H[c]? =some (encB T R un tot out st fin)) (h0:0≤tot) (h1:tot≤65536) {n:Nat}:
 runF call b_encode_Encoder_fault [.ptr c 0,.pv (i64 n)] H=some (.pv (i64 (if fin then 181 else if st then 182 else if (n:Int) > 65536 - tot then 183 else 0)),H):=by
 have e1:eqA H 1 (.ptr c 0) (.pv .nilp)=some false:=by simp only[eqA,hc,encB_eq]
 have p1:∀ d,place H d (.ptr c 0)=some (.ptr c (0+d)):=fun d=>box_place hc d 0
 have l6:loadA H false 1 (.ptr c 6)=some (.pv (.bool fin)):=by simp only[loadA,hc,encB_eq];rfl
 have l5:loadA H false 1 (.ptr c 5)=some (.pv (.bool st)):=by simp only[loadA,hc,encB_eq];rfl
 have l3:loadA H false 1 (.ptr c 3)=some (.pv (i64 tot)):=by simp only[loadA,hc,encB_eq];rfl
 have w1:IntKind.i64.wrap (65536 - tot)=65536 - tot:=wrap_int (by omega)
 cases fin with
 |true=>simp (implicitDefEqProofs:=false) only[SP,SA,WP,sevalprocAttr,-List.reduceReplicate,b_encode_Encoder_fault,e1,p1,l6]
 |false=>
  cases st with
  |true=>simp (implicitDefEqProofs:=false) only[SP,SA,WP,sevalprocAttr,-List.reduceReplicate,b_encode_Encoder_fault,e1,p1,l6,l5,Bool.false_eq_true,if_false]
  |false=>
   by_cases h:(n:Int) > 65536 - tot
   ·have d1:decide ((n:Int) > 65536 - tot)=true:=decide_eq_true h
    simp (implicitDefEqProofs:=false) only[SP,SA,WP,sevalprocAttr,-List.reduceReplicate,b_encode_Encoder_fault,e1,p1,l6,l5,l3,w1,d1,Bool.false_eq_true,if_false,if_pos h]
   ·have d1:decide ((n:Int) > 65536 - tot)=false:=decide_eq_false h
    simp (implicitDefEqProofs:=false) only[SP,SA,WP,sevalprocAttr,-List.reduceReplicate,b_encode_Encoder_fault,e1,p1,l6,l5,l3,w1,d1,Bool.false_eq_true,if_false,if_neg h]
theorem fd_loop {call:CallF} {E:Tr} (hA:HGood A) (hc:c < A.length) {T R:PV} {cd:Int→Option (List Int)} (hT:EncT T cd) {un tot tot' out:Int} {fin:Bool} {rb:List Int} (hR:un=2→R= .lit 1 (rb.map u8)) (hn:un≠2→rb=[]) (hrb:rb.length≤8)
 {U:AV} {us:List Int} (hU:UsIs U us A.length) (hus:us.length≤65536) (ht0:0≤tot) (ht1:tot≤65536) (ho0:0≤out) (ho1:out≤524288)
 (h0:E.get 0= .ptr c 0) (h8:E.get 8= .uq A.length true 1 []) (h9:E.get 9= .uq (A.length+1) true 5 []) (h10:E.get 10= .pv (i64 tot)) (h35:E.get 35=U) (h36:E.get 36= .pv (i64 us.length)) (h37:E.get 37= .pv (i64 0)):
 wpO (fun r=>r.1.stop=true∧∃ E' acc evs st n1 n5,r=(.exit 0,⟨E',hpE A c (encB T R un tot' out st fin) acc.length n1 evs.length n5⟩)∧E'.get 0= .ptr c 0∧E'.get 8= .uq A.length n1 1 (acc.map u8)∧E'.get 9= .uq (A.length+1) n5 5 evs∧
  feedGo cd un rb tot out 0 [] [] us=(acc,evs,st)∧(n1=true→acc=[])∧(n5=true→evs=[])∧acc.length≤8 * us.length)
  (evalC call (.loop [0,8,9,10,35,36,37] b_encode_Encoder_Feed_l0) ⟨E,hpE A c (encB T R un tot' out false fin) 0 true 0 true⟩):=by
 have hcut:Fit (A.length+2) [0,10,35,36] E:= .cons h0 (cut_ptr (by omega)) (.cons h10 cut_pv (.cons h35 (hU.cut _ (by omega)) (.cons h36 cut_pv (.nil _ _))))
 have hgd:=fun st k1 n1 k5 n5=>hpE_good (c:=c) hA (T:=T) (R:=R) (un:=un) (tot:=tot') (out:=out) (st:=st) (fin:=fin) k1 n1 k5 n5
 refine loop_of (fun i t=>Keep [0,10,35,36] E t.env∧t.env.get 37= .pv (i64 i)∧∃ acc evs n1 n5,t.H=hpE A c (encB T R un tot' out false fin) acc.length n1 evs.length n5∧t.env.get 8= .uq A.length n1 1 (acc.map u8)∧t.env.get 9= .uq (A.length+1) n5 5 evs∧
  feedGo cd un rb tot out 0 [] [] us=feedGo cd un rb tot out i acc evs (us.drop i)∧(n1=true→acc=[])∧(n5=true→evs=[])∧acc.length≤8 * i∧evs.length≤i) us.length (by unfold rounds;omega) ?_ ?_ ?_
 ·rw[hpE_len]
  exact EndOf.all (hpE_len ..).symm (hgd false 0 true 0 true) (Fit.sub (.cons h37 cut_pv (.cons h8 (cut_uq (by omega)) (.cons h9 (cut_uq (by omega)) hcut))) rfl) fun E' hE=>⟨Keep.sub hE rfl,by rw[hE 37 (by simp),h37];rfl,[],[],true,true,rfl,by rw[hE 8 (by simp),h8];rfl,by rw[hE 9 (by simp),h9],rfl,fun _=>rfl,fun _=>rfl,by simp,by simp⟩
 ·rintro i ⟨E1,H1⟩ hi ⟨k1,k2,acc,evs,n1,n5,k3,k8,k9,k4,k5,k6,k7,k10⟩
  simp only at k1 k2 k3 k8 k9
  subst k3
  have g0:=(k1 0 (by simp)).trans h0
  have g10:=(k1 10 (by simp)).trans h10
  have g35:=(k1 35 (by simp)).trans h35
  have g36:=(k1 36 (by simp)).trans h36
  have e1:decide ((i:Int) < (us.length:Int))=true:=dec_t (by omega)
  have t1:IntKind.i64.wrap ((i:Int)+1)=((i+1:Nat):Int):=wrap_nat1 (by omega)
  have t2:IntKind.i64.wrap (tot+(i:Int))=tot+i:=wrap_int (by omega)
  have t3:IntKind.i64.wrap (out+(acc.length:Int))=out+acc.length:=wrap_int (by omega)
  have hat:=fun H=>hU.at' H i hi
  have hen:=hT.enc us[i]
  have hlb:=hT.len us[i]
  rw[List.drop_eq_getElem_cons hi,feedGo] at k4
  generalize us[i]=u at *
  have p1:∀ b k1 n1 k5 n5 d,place (hpE A c (.box b) k1 n1 k5 n5) d (.ptr c 0)=some (.ptr c (0+d)):=fun b k1 n1 k5 n5 d=>box_place (hpE_c hc _ _ _ _ _) d 0
  have hB:∀ st,encB T R un tot' out st fin= .box [.pv T,.pv (i64 un),.pv R,.pv (i64 tot'),.pv (i64 out),.pv (.bool st),.pv (.bool fin)]:=fun _=>rfl
  have ld:∀ st k1 n1 k5 n5 o,loadA (hpE A c (encB T R un tot' out st fin) k1 n1 k5 n5) false 1 (.ptr c o)=partA false 1 [.pv T,.pv (i64 un),.pv R,.pv (i64 tot'),.pv (i64 out),.pv (.bool st),.pv (.bool fin)] o:=fun st k1 n1 k5 n5 o=>by simp only[loadA,hpE_c hc,hB]
  have l0:∀ st k1 n1 k5 n5,loadA (hpE A c (encB T R un tot' out st fin) k1 n1 k5 n5) false 1 (.ptr c 0)=some (.pv T):=fun st k1 n1 k5 n5=>ld ..
  have l1:∀ st k1 n1 k5 n5,loadA (hpE A c (encB T R un tot' out st fin) k1 n1 k5 n5) false 1 (.ptr c 1)=some (.pv (i64 un)):=fun st k1 n1 k5 n5=>ld ..
  have l2:∀ st k1 n1 k5 n5,loadA (hpE A c (encB T R un tot' out st fin) k1 n1 k5 n5) false 1 (.ptr c 2)=some (.pv R):=fun st k1 n1 k5 n5=>ld ..
  have l4:∀ st k1 n1 k5 n5,loadA (hpE A c (encB T R un tot' out st fin) k1 n1 k5 n5) false 1 (.ptr c 4)=some (.pv (i64 out)):=fun st k1 n1 k5 n5=>ld ..
  have pl:∀ st k1 n1 k5 n5 d,place (hpE A c (encB T R un tot' out st fin) k1 n1 k5 n5) d (.ptr c 0)=some (.ptr c (0+d)):=fun st k1 n1 k5 n5 d=>box_place (hpE_c hc _ _ _ _ _) d 0
  have s5:∀ k1 n1 k5 n5,storeA (hpE A c (encB T R un tot' out false fin) k1 n1 k5 n5) 1 (.ptr c 5) (.pv (.bool true))=some (hpE A c (encB T R un tot' out true fin) k1 n1 k5 n5):=fun k1 n1 k5 n5=>by
   have h:=hpE_setc hc (encB T R un tot' out false fin) (encB T R un tot' out true fin) k1 n1 k5 n5
   rw[← h]
   simp only[storeA,hpE_c hc,hB];rfl
  have ap1:∀ k5 n5 (b:List Int),b.length≤8→appendA (hpE A c (encB T R un tot' out false fin) acc.length n1 k5 n5) false .uq 1 false 1 (.uq A.length n1 1 (acc.map u8)) (.pv (.lit 1 (b.map u8)))=some (.uq A.length (n1&&(b.map u8).isEmpty) 1 ((acc++b).map u8),hpE A c (encB T R un tot' out false fin) (acc++b).length (n1&&(b.map u8).isEmpty) k5 n5):=fun k5 n5 b hb=>by
   rw[uq_appends (hpE_1 _ _ _ _ _) (by rw[List.length_map]) (by unfold roomOk;rw[List.length_map,List.length_map];omega),hpE_set1,List.map_append,List.length_map,List.length_map,List.length_append]
  have ap5:∀ e,appendA (hpE A c (encB T R un tot' out false fin) acc.length n1 evs.length n5) false .uq 5 true 40 (.uq (A.length+1) n5 5 evs) (.pv (.lit 5 [e]))=some (.uq (A.length+1) false 5 (evs++[e]),hpE A c (encB T R un tot' out false fin) acc.length n1 (evs++[e]).length false):=fun e=>by
   rw[uq_append (hpE_5 _ _ _ _ _) rfl (by unfold roomOk;omega),hpE_set5,List.length_append];rfl
  have lu:∀ H,lenA H 0 (.uq A.length n1 1 (acc.map u8))=some acc.length:=fun H=>by simp[lenA]
  have m1:fillA (List.map AV.pv [PV.int .i64 0,.int .i64 0,.int .i64 0,.int .i64 0,.int .i64 0]) [(0,1,.pv (.int .i64 4)),(1,1,.pv (.int .i64 (tot+i))),(2,1,.pv (.int .i64 1)),(3,1,.pv (i64 u)),(4,1,.pv (.int .i64 (out+acc.length)))]=some ([i64 4,i64 (tot+i),i64 1,i64 u,i64 (out+acc.length)].map AV.pv):=rfl
  rw[hpE_len]
  generalize hQ:RQ _ _ _ _=Q
  cases hcd:cd u with
  |some b=>
   rw[hcd] at hen k4
   have hb8:=hlb b hcd
   have ap:=ap1 evs.length n5 b hb8
   simp (implicitDefEqProofs:=false) only[SP,SA,WP,sevalprocAttr,-List.reduceReplicate,b_encode_Encoder_Feed_l0,g0,g10,g35,g36,k2,k8,k9,e1,hat,rp1_load,pl,l0,hen,ap,t1]
   subst hQ
   rw[RQ_norm]
   generalize hEE:(Tr.set _ 37 _:Tr)=E2
   have kk:Keep [0,10,35,36] E E2:=by
    rw[← hEE]
    repeat refine Keep.set ?_ rfl
    exact k1
   have z37:E2.get 37= .pv (i64 (i+1:Nat)):=by rw[← hEE];simp[Tr.get_set]
   have z8:E2.get 8= .uq A.length (n1&&(b.map u8).isEmpty) 1 ((acc++b).map u8):=by rw[← hEE];simp[Tr.get_set]
   have z9:E2.get 9= .uq (A.length+1) n5 5 evs:=by rw[← hEE];simp[Tr.get_set,k9]
   exact EndOf.all (hpE_len ..).symm (hgd _ _ _ _ _) (Fit.sub (.cons z37 cut_pv (.cons z8 (cut_uq (by omega)) (.cons z9 (cut_uq (by omega)) (hcut.keep kk)))) rfl) fun E' hE=>⟨kk.trans (Keep.sub hE rfl),by rw[hE 37 (by simp),z37],acc++b,evs,_,n5,rfl,by rw[hE 8 (by simp),z8],by rw[hE 9 (by simp),z9],k4,fun h=>by
    rw[Bool.and_eq_true] at h
    rw[k5 h.1]
    cases b with
    |nil=>rfl
    |cons x y=>simp at h,k6,by rw[List.length_append];omega,by omega⟩
  |none=>
   rw[hcd] at hen k4
   have ap:=ap5 (evP (tot+i) u (out+acc.length))
   unfold evP at ap
   by_cases h3:un=3
   ·have d2:(un==2)=false:=beq_false_of_ne (by omega)
    have d3:(un==3)=true:=by rw[h3];rfl
    rw[if_pos h3] at k4
    simp (implicitDefEqProofs:=false) only[SP,SA,WP,sevalprocAttr,-List.reduceReplicate,b_encode_Encoder_Feed_l0,g0,g10,g35,g36,k2,k8,k9,e1,hat,rp1_load,pl,l0,l1,l4,lu,hen,t2,t3,ap,d2,d3,s5,setRow.eq_1,setRow.eq_2,List.set,allPV]
    subst hQ
    exact⟨_,acc,evs++[evP (tot+i) u (out+acc.length)],true,n1,false,rfl,by simp[Tr.get_set,g0],by simp[Tr.get_set,k8],by simp[Tr.get_set,evP],k4,k5,fun h=>(by cases h),by omega⟩
   ·have d3:(un==3)=false:=beq_false_of_ne h3
    rw[if_neg h3] at k4
    by_cases h2:un=2
    ·have d2:(un==2)=true:=by rw[h2];rfl
     have hR2:=hR h2
     have ap':=ap1 (evs++[evP (tot+i) u (out+acc.length)]).length false rb hrb
     unfold evP at ap'
     have l2':∀ st k1 n1 k5 n5,loadA (hpE A c (encB T R un tot' out st fin) k1 n1 k5 n5) false 1 (.ptr c 2)=some (.pv (.lit 1 (rb.map u8))):=fun st k1 n1 k5 n5=>by rw[l2,hR2]
     simp (implicitDefEqProofs:=false) only[SP,SA,WP,sevalprocAttr,-List.reduceReplicate,b_encode_Encoder_Feed_l0,g0,g10,g35,g36,k2,k8,k9,e1,hat,rp1_load,pl,l0,l1,l4,lu,hen,t1,t2,t3,ap,d2,l2',ap',setRow.eq_1,setRow.eq_2,List.set,allPV]
     subst hQ
     rw[RQ_norm]
     generalize hEE:(Tr.set _ 37 _:Tr)=E2
     have kk:Keep [0,10,35,36] E E2:=by
      rw[← hEE]
      repeat refine Keep.set ?_ rfl
      exact k1
     have z37:E2.get 37= .pv (i64 (i+1:Nat)):=by rw[← hEE];simp[Tr.get_set]
     have z8:E2.get 8= .uq A.length (n1&&(rb.map u8).isEmpty) 1 ((acc++rb).map u8):=by rw[← hEE];simp[Tr.get_set]
     have z9:E2.get 9= .uq (A.length+1) false 5 (evs++[evP (tot+i) u (out+acc.length)]):=by rw[← hEE];simp[Tr.get_set,evP]
     exact EndOf.all (hpE_len ..).symm (hgd _ _ _ _ _) (Fit.sub (.cons z37 cut_pv (.cons z8 (cut_uq (by omega)) (.cons z9 (cut_uq (by omega)) (hcut.keep kk)))) rfl) fun E' hE=>⟨kk.trans (Keep.sub hE rfl),by rw[hE 37 (by simp),z37],acc++rb,evs++[evP (tot+i) u (out+acc.length)],_,false,rfl,by rw[hE 8 (by simp),z8],by rw[hE 9 (by simp),z9],k4,fun h=>by
      rw[Bool.and_eq_true] at h
      rw[k5 h.1]
      cases rb with
      |nil=>rfl
      |cons x y=>simp at h,fun h=>(by cases h),by rw[List.length_append];omega,by rw[List.length_append];simpa using k10⟩
    ·have d2:(un==2)=false:=beq_false_of_ne h2
     rw[show acc++rb=acc by rw[hn h2,List.append_nil]] at k4
     simp (implicitDefEqProofs:=false) only[SP,SA,WP,sevalprocAttr,-List.reduceReplicate,b_encode_Encoder_Feed_l0,g0,g10,g35,g36,k2,k8,k9,e1,hat,rp1_load,pl,l0,l1,l4,lu,hen,t1,t2,t3,ap,d2,d3,setRow.eq_1,setRow.eq_2,List.set,allPV]
     subst hQ
     rw[RQ_norm]
     generalize hEE:(Tr.set _ 37 _:Tr)=E2
     have kk:Keep [0,10,35,36] E E2:=by
      rw[← hEE]
      repeat refine Keep.set ?_ rfl
      exact k1
     have z37:E2.get 37= .pv (i64 (i+1:Nat)):=by rw[← hEE];simp[Tr.get_set]
     have z8:E2.get 8= .uq A.length n1 1 (acc.map u8):=by rw[← hEE];simp[Tr.get_set,k8]
     have z9:E2.get 9= .uq (A.length+1) false 5 (evs++[evP (tot+i) u (out+acc.length)]):=by rw[← hEE];simp[Tr.get_set,evP]
     exact EndOf.all (hpE_len ..).symm (hgd _ _ _ _ _) (Fit.sub (.cons z37 cut_pv (.cons z8 (cut_uq (by omega)) (.cons z9 (cut_uq (by omega)) (hcut.keep kk)))) rfl) fun E' hE=>⟨kk.trans (Keep.sub hE rfl),by rw[hE 37 (by simp),z37],acc,evs++[evP (tot+i) u (out+acc.length)],n1,false,rfl,by rw[hE 8 (by simp),z8],by rw[hE 9 (by simp),z9],k4,k5,fun h=>(by cases h),by omega,by rw[List.length_append];simpa using k10⟩
 ·rintro⟨E1,H1⟩ ⟨k1,k2,acc,evs,n1,n5,k3,k8,k9,k4,k5,k6,k7,k10⟩
  simp only at k1 k2 k3 k8 k9
  subst k3
  have g36:=(k1 36 (by simp)).trans h36
  have g0:=(k1 0 (by simp)).trans h0
  rw[List.drop_length,feedGo] at k4
  have e1:decide ((us.length:Int) < (us.length:Int))=false:=dec_f (by omega)
  generalize hQ:(fun r:Ex×St=>r.1.stop=true∧_)=Q
  simp (implicitDefEqProofs:=false) only[SP,SA,WP,sevalprocAttr,-List.reduceReplicate,b_encode_Encoder_Feed_l0,g36,k2,e1]
  subst hQ
  exact⟨rfl,_,acc,evs,false,n1,n5,rfl,by simp[Tr.get_set,g0],by simp[Tr.get_set,k8],by simp[Tr.get_set,k9],k4,k5,k6,k7⟩
theorem feed_run {call:CallF} {call':CallF} (hcall:∀ H n,call 62 [.ptr c 0,.pv (i64 n)] H=runF call' b_encode_Encoder_fault [.ptr c 0,.pv (i64 n)] H) (hA:HGood A) (hc:c < A.length) {T R:PV} {cd:Int→Option (List Int)} (hT:EncT T cd) {un tot out:Int} {rb:List Int} (hR:un=2→R= .lit 1 (rb.map u8)) (hn:un≠2→rb=[]) (hrb:rb.length≤8)
 {U:AV} {us:List Int} (hU:UsIs U us A.length) (ht0:0≤tot) (ht1:tot+us.length≤65536) (ho0:0≤out) (ho1:out≤524288) (hb:A[c]? =some (encB T R un tot out false false)):
 wpO (fun r=>∃ acc evs st n1 n5,r=(.tup [.uq A.length n1 1 (acc.map u8),.uq (A.length+1) n5 5 evs,.pv (i64 0)],hpE A c (encB T R un (tot+us.length) (out+acc.length) st false) acc.length n1 evs.length n5)∧
  feedGo cd un rb tot out 0 [] [] us=(acc,evs,st)∧(n1=true→acc=[])∧(n5=true→evs=[])∧acc.length≤8 * us.length) (runF call b_encode_Encoder_Feed [.ptr c 0,U] A):=by
 have hf:=hcall A us.length
 rw[fault_run hb ht0 (by omega) (n:=us.length),if_neg (by simp),if_neg (by simp),if_neg (by omega)] at hf
 have lU:=hU.len
 have hB:∀ tot out st,encB T R un tot out st false= .box [.pv T,.pv (i64 un),.pv R,.pv (i64 tot),.pv (i64 out),.pv (.bool st),.pv (.bool false)]:=fun _ _ _=>rfl
 have hA2:A++[.tok 1 0 true]++[.tok 5 0 true]=hpE A c (encB T R un tot out false false) 0 true 0 true:=by
  have:A.set c (encB T R un tot out false false)=A:=by
   obtain⟨hl,hg⟩:=List.getElem?_eq_some_iff.1 hb
   rw[← hg];exact List.set_getElem_self hl
  unfold hpE
  rw[this,List.append_assoc];rfl
 have hlen1:(A++[AObj.tok 1 0 true]).length=A.length+1:=by simp
 have ld:∀ tot out st k1 n1 k5 n5 o,loadA (hpE A c (encB T R un tot out st false) k1 n1 k5 n5) false 1 (.ptr c o)=partA false 1 [.pv T,.pv (i64 un),.pv R,.pv (i64 tot),.pv (i64 out),.pv (.bool st),.pv (.bool false)] o:=fun tot out st k1 n1 k5 n5 o=>by simp only[loadA,hpE_c hc,hB]
 have l3:∀ tot out st k1 n1 k5 n5,loadA (hpE A c (encB T R un tot out st false) k1 n1 k5 n5) false 1 (.ptr c 3)=some (.pv (i64 tot)):=fun tot out st k1 n1 k5 n5=>ld ..
 have l4:∀ tot out st k1 n1 k5 n5,loadA (hpE A c (encB T R un tot out st false) k1 n1 k5 n5) false 1 (.ptr c 4)=some (.pv (i64 out)):=fun tot out st k1 n1 k5 n5=>ld ..
 have pl:∀ tot out st k1 n1 k5 n5 d,place (hpE A c (encB T R un tot out st false) k1 n1 k5 n5) d (.ptr c 0)=some (.ptr c (0+d)):=fun tot out st k1 n1 k5 n5 d=>box_place (hpE_c hc _ _ _ _ _) d 0
 have s3:∀ k1 n1 k5 n5 v,storeA (hpE A c (encB T R un tot out false false) k1 n1 k5 n5) 1 (.ptr c 3) (.pv (.int .i64 v))=some (hpE A c (encB T R un v out false false) k1 n1 k5 n5):=fun k1 n1 k5 n5 v=>by
  rw[← hpE_setc hc (encB T R un tot out false false) (encB T R un v out false false) k1 n1 k5 n5]
  simp only[storeA,hpE_c hc,hB];rfl
 have s4:∀ tot st k1 n1 k5 n5 v,storeA (hpE A c (encB T R un tot out st false) k1 n1 k5 n5) 1 (.ptr c 4) (.pv (.int .i64 v))=some (hpE A c (encB T R un tot v st false) k1 n1 k5 n5):=fun tot st k1 n1 k5 n5 v=>by
  rw[← hpE_setc hc (encB T R un tot out st false) (encB T R un tot v st false) k1 n1 k5 n5]
  simp only[storeA,hpE_c hc,hB];rfl
 have w1:IntKind.i64.wrap (tot+(us.length:Int))=tot+us.length:=wrap_int (by omega)
 have z0:((0:Int) != 0)=false:=rfl
 have hz1:(0 < 1)=True:=by simp
 have hz5:(0 < 5)=True:=by simp
 generalize hQ:(fun r:AV×List AObj=>∃ acc evs st n1 n5,r=_∧_)=Q
 simp (implicitDefEqProofs:=false) only[SP,SA,WP,sevalprocAttr,-List.reduceReplicate,b_encode_Encoder_Feed,hf,lU,z0,C_ghost,ghostA,hz1,hz5,hlen1,hA2,pl,l3,s3,w1]
 generalize hEE:(Tr.set _ 37 _:Tr)=E
 refine wpO_mono (fd_loop (call:=call) (E:=E) (fin:=false) (tot:=tot) (tot':=tot+us.length) (cd:=cd) (rb:=rb) hA hc hT hR hn hrb hU (by omega) ht0 (by omega) ho0 ho1 (by rw[← hEE];simp[Tr.get_set]) (by rw[← hEE];simp[Tr.get_set]) (by rw[← hEE];simp[Tr.get_set]) (by rw[← hEE];simp[Tr.get_set]) (by rw[← hEE];simp[Tr.get_set]) (by rw[← hEE];simp[Tr.get_set]) (by rw[← hEE];simp[Tr.get_set])) ?_
 rintro r ⟨_,E2,acc,evs,st,n1,n5,rfl,g0,g8,g9,k4,k5,k6,k7⟩
 have w2:IntKind.i64.wrap (out+(acc.length:Int))=out+acc.length:=wrap_int (by omega)
 have lu:∀ H,lenA H 0 (.uq A.length n1 1 (acc.map u8))=some acc.length:=fun H=>by simp[lenA]
 have hm:mkTup [AV.uq A.length n1 1 (acc.map u8),.uq (A.length+1) n5 5 evs,.pv (.int .i64 0)]= .tup [.uq A.length n1 1 (acc.map u8),.uq (A.length+1) n5 5 evs,.pv (.int .i64 0)]:=rfl
 simp (implicitDefEqProofs:=false) only[SP,SA,WP,sevalprocAttr,-List.reduceReplicate,g0,g8,g9,pl,l4,lu,w2,s4,hm]
 subst hQ
 exact⟨acc,evs,st,n1,n5,rfl,k4,k5,k6,k7⟩
end
end Go.AM.B1
