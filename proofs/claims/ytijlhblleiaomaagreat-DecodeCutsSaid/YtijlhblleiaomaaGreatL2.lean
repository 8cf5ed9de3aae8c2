/- What functions of the program compute. -/
import Derived.Test.YtijlhblleiaomaaGreatL1
import Derived.Test.YtijlhblleiaomaaGreatK3
set_option linter.unusedVariables false
set_option linter.unusedSimpArgs false
namespace Go.AM.B1
open Go.AM
def YV:Xa:=⟨1,[.tmp 2],(jQ [jb 2 false] (jr [Cv 3 0,Cv 4 0,jB 5 .neq 3 4,Cv 2 5]))⟩
def VJ:=oc (fun _=>none) YV
def VK:Xa:=⟨2,[.tmp 4],(jQ [jk 4 0] (jQ [Cv 7 0,jp 8 VJ 7,Cv 5 8] (jQ [Cv 9 1,jp 10 VJ 9,Cv 6 10] (.seq (jQ [Cv 11 5] (jC 11 (.seq (jQ [Cv 12 6] (jC 12 (jr [jk 4 0]) .skip)) (jr [jk 4 (-1)])) .skip)) (.seq (jQ [Cv 13 6] (jC 13 (jr [jk 4 1]) .skip)) (.seq (jQ [Cv 14 0,Cv 15 1,jB 16 .lss 14 15] (jC 16 (jr [jk 4 (-1)]) .skip)) (.seq (jQ [Cv 17 0,Cv 18 1,jB 19 .gtr 17 18] (jC 19 (jr [jk 4 1]) .skip)) (jr [jk 4 0]))))))))⟩
def MF:=oc (fun _=>none) VK
def gA:Xa:=⟨3,[.tmp 5],(jQ [jb 5 false] (jr [Cv 6 0,Cv 7 1,jB 8 .lss 6 7,Cv 9 8,jT 10 9 (.kf 0 2),jT 11 9 (.kl 1 10),jT 12 9 (.km 0),JT 13 9 (.ki 2 11 12),jT 14 9 (.kf 0 13),jT 15 9 (.kl 1 14),JT 16 9 (.kn 0 15),jT 17 9 (.kf 0 2),jT 18 9 (.kl 1 17),jT 19 9 (.km 1),JT 20 9 (.ki 2 18 19),jT 21 9 (.kf 0 20),jT 22 9 (.kl 1 21),JT 23 9 (.kn 0 22),jT 24 9 (.kB .eql 16 23),ja 25 9 24,Cv 5 25]))⟩
theorem Zae:Hb P fo 95 gA:=fM Go.Proofs.Tryz.func95 dN
def IP:Xa:=⟨1,[.cell 2 true 3,.tmp 3],(jQ [Co 1 (.box 1 (.t 0)),Co 2 (.alloc [(.bool false),(.int .i64 0),(.int .i64 0)]),jk 3 0] (jr [jL 4 1 1,Co 5 (.Fw 37 [(.t 1)]),Co 6 (.zf 25 [(.t 4),(.t 5)]),jx 7 0 6,jx 8 1 6,jS 3 2 7,Cv 3 8]))⟩
theorem Yae:Hb P fo 63 IP:=fM Go.Proofs.Tryz.func63 dN
def AF:Nat->Option Xa
 |37=>some gA
 |25=>some Bv
 |_=>none
theorem Far:Vo P fo AF:=by
 intro ix af h;unfold AF at h
 split at h
 ·injection h with h;subst h;exact Zae
 ·injection h with h;subst h;exact zY
 ·cases h
def ax:=oc AF IP
theorem ean:Nb P 63 ax:=Jc Far Yae
def oL:Xa:=⟨2,[.tmp 4],(jQ [jR 2 1 0,jR 3 1 1,jc 4 .Fk] (jr [Co 5 (.Fw 35 [(.t 2),(.t 3)]),Cv 4 5]))⟩
theorem Vaf:Hb P fo 124 oL:=fM Go.Proofs.Tryz.func124 dN
def CD:Xa:=⟨2,[.tmp 4],(jQ [jc 4 .Fk] (jr [Cv 5 0,jp 6 Sr 5,Cv 7 1,Co 8 (.zf 38 [(.t 6),(.t 7)]),Cv 4 8]))⟩
theorem qag:Hb P fo 97 CD:=fM Go.Proofs.Tryz.func97 (dC bJ dN)
def uG:Ya:=(.block 3 (jQ [jl 41 1 6,jl 42 1 6,jz 43 42,jf 44 0 43,jl 45 1 44,Cv 46 7,Co 47 (.conv .u8 (.t 46)),Co 48 (.Fc .lit 1 false 1 [(.int .u8 0)] [(0,(.t 47))]),Co 49 (.ku 1 false 1 45 48),jz 50 41,jf 51 0 50,jS 1 51 49] (.region [jl 52 1 6,Cv 53 7,jl 54 1 6,jz 55 54,jf 56 0 55,jl 57 1 56,jn 58 0 57,Co 59 (.conv .u16 (.t 58)),jz 60 52,jf 61 1 60,Co 62 (.kA 256 1 61 53),jS 1 62 59])))
def tG:Ya:=(.seq (jQ [Cv 20 5,jK 21 .geq 20 0] (jX 21 0)) (.seq (.block 1 (jQ [Cv 24 3,jz 25 24,jf 26 0 25,jl 27 1 26,Cv 28 5,ji 29 258 27 28,Co 6 (.alloc [.Ic]),jS 1 6 29] (jQ [jl 30 1 6,Cv 31 4,jz 32 30,jf 33 257 32,jS 1 33 31] (.seq (jQ [Jf 34 0 1,Jl 35 1 34,Cv 36 5,ji 37 1 35 36,jl 38 1 37,Co 39 (.zf 39 [(.t 38),(.c (.int .i64 0))])] (.block 2 (.range 35 ux (.t 39) [40] [(7,40)] uG))) (.region [Cv 63 4,jl 64 1 6,jz 65 64,jf 66 0 65,jl 67 1 66,jn 68 0 67,jB 69 .mul 63 68,Cv 4 69]))))) (.region [Cv 22 5,jK 23 .sub 22 1,Cv 5 23])))
def XK:Xa:=⟨1,[.tmp 2],(jQ [jR 1 2 0,jc 2 .Ic] (jQ [Jf 8 0 1,Jl 9 1 8,jn 10 0 9,Co 11 (.oj .own 258 true ([.oa]++List.replicate 256 (.int .u16 0)++[(.int .i64 0)]) 544 (.t 10) (.t 10)),Co 12 (.build [.oa] [(0,1,(.t 11))]),Co 13 (.box 1 (.t 12)),Cv 3 13] (jQ [jk 4 1] (.seq (jQ [Cv 14 3,jz 15 14,jf 16 0 15,jl 17 1 16,jn 18 0 17,jK 19 .sub 18 1,Cv 5 19] (.block 0 (.ml [1,2,3,4,5] tG))) (jr [Cv 70 3,Cv 2 70])))))⟩
theorem yad:∀ d∈Ag XK.body,Dq P (fo d.1) d.2:=by
 intro d hd;obtain rfl:d=(35,ux):=ym.1 hd
 exact Go.Proofs.oaa
theorem gaf:Hb P fo 66 XK:=fMI Go.Proofs.Tryz.func66 dN (yad)
def Kt:Nat->Option Xa
 |39=>some CD
 |38=>some oL
 |_=>none
theorem Har:Vo P fo Kt:=by
 intro ix af h;unfold Kt at h
 split at h
 ·injection h with h;subst h;exact qag
 ·injection h with h;subst h;exact Vaf
 ·cases h
def WJ:=oc Kt XK
theorem gan:Nb P 66 WJ:=Jc Har gaf
def aH:Ya:=(jQ [jB 49 .lss 48 47] (.seq (jX 49 0) (.seq (.block 1 (jQ [Cv 50 48,ji 51 2 46 48,jL 52 2 51,Co 10 (.alloc [.oa,(.int .i64 0)]),Cv 9 50,jS 2 10 52] (jQ [Cv 53 8,Cv 54 8,jz 55 54,jf 56 4 55,jl 57 1 56,jf 58 1 10,jl 59 1 58,jf 60 1 10,jl 61 1 60,jL 62 2 10,jp 63 pK 62,jB 64 .add 61 63,jK 65 .sub 64 1,Cv 66 9,Co 67 (.build [(.int .i64 0),(.int .i64 0),(.int .i64 0)] [(0,1,(.t 59)),(1,1,(.t 65)),(2,1,(.t 66))]),Co 68 (.Fc .lit 3 true 1 [(.int .i64 0),(.int .i64 0),(.int .i64 0)] [(0,(.t 67))]),Co 69 (.append true .own 3 true 24 (.t 57) (.t 68)),jz 70 53,jf 71 4 70,jS 1 71 69] (jQ [Cv 72 8,Cv 73 8,jz 74 73,jf 75 5 74,jl 76 1 75,jf 77 0 10,jl 78 1 77,jn 79 0 78,Co 80 (.mx [(.t 76),(.t 79)]),jz 81 72,jf 82 5 81,jS 1 82 80] (.region [Cv 83 8,Cv 84 8,jz 85 84,jf 86 3 85,jl 87 1 86,jL 88 2 10,jp 89 WJ 88,Co 90 (.Fc .lit 1 false 1 [.Ic] [(0,(.t 89))]),Co 91 (.ku 1 false 8 87 90),jz 92 83,jf 93 3 92,jS 1 93 91]))))) (.region [jK 94 .add 48 1,Cv 48 94]))))
def tL:Ya:=(jQ [jK 109 .lss 108 256] (.seq (jX 109 4) (.seq (.block 5 (jQ [Cv 110 108,Cv 14 110] (.region [Cv 111 14,Co 112 (.kA 256 1 13 111),Ce (.store 1 (.t 112) (.c (.int .i8 (-2))))]))) (.region [jK 113 .add 108 1,Cv 108 113]))))
def vL:Ya:=(.seq (jQ [Cv 122 17,jf 123 1 16,jl 124 1 123,jB 125 .leq 122 124] (jX 125 8)) (.seq (.block 9 (.region [Cv 128 17,jf 129 2 16,jl 130 1 129,Co 131 (.conv .i8 (.t 130)),Co 132 (.kA 256 1 13 128),jS 1 132 131])) (.region [Cv 126 17,jK 127 .add 126 1,Cv 17 127])))
def uL:Ya:=(jQ [jB 117 .lss 116 115] (.seq (jX 117 6) (.seq (.block 7 (jQ [ji 118 3 114 116,jL 119 3 118,Co 16 (.alloc [(.int .i64 0),(.int .i64 0),(.int .i64 0)]),jS 3 16 119] (jQ [jf 120 0 16,jl 121 1 120,Cv 17 121] (.block 8 (.loop [8,13,16,17,101,102,103,114,115,116] vL))))) (.region [jK 133 .add 116 1,Cv 116 133]))))
def bH:Ya:=(jQ [jB 104 .lss 103 102] (.seq (jX 104 2) (.seq (.block 3 (jQ [ji 105 1 101 103,jl 106 1 105,Cv 12 106] (jQ [Co 107 (.build (List.replicate 256 (.int .i8 0)) []),Co 13 (.alloc (List.replicate 256 (.int .i8 0))),jS 256 13 107] (.seq (jQ [jk 108 0] (.block 4 (.loop [8,12,13,101,102,103,108] tL))) (.seq (jQ [Cv 114 12,jn 115 0 114,jk 116 0] (.block 6 (.loop [8,13,101,102,103,114,115,116] uL))) (.region [Cv 134 8,Cv 135 8,jz 136 135,jf 137 2 136,jl 138 1 137,jL 139 256 13,Co 140 (.Fc .lit 256 true 1 (List.replicate 256 (.int .i8 0)) [(0,(.t 139))]),Co 141 (.ku 256 true 256 138 140),jz 142 134,jf 143 2 142,jS 1 143 141])))))) (.region [jK 144 .add 103 1,Cv 103 144]))))
def DD:Xa:=⟨1,[.tmp 2,.tmp 3],(jQ [jR 1 1 0,jc 2 .Ic,jk 3 0] (jQ [JL 19 1 1,jp 20 qk 19,Cv 18 20,jx 21 0 18,jx 22 1 18,Co 4 (.alloc [.oa]),jS 1 4 21,Cv 5 22] (.seq (jQ [Cv 23 5,jK 24 .eql 23 0,Cv 25 24,jF 26 25 (.km 5),jF 27 25 (.kK .eql 26 130),jo 28 25 27] (jC 28 (jQ [JL 30 1 1,jp 31 ax 30,Cv 29 31,jx 32 0 29,jx 33 1 29,Co 6 (.alloc [(.bool false),(.int .i64 0),(.int .i64 0)]),jS 3 6 32,Cv 7 33] (jQ [jf 34 0 6,jl 35 1 34,jt 36 35] (jC 36 (.region [jk 5 111]) .skip))) .skip)) (.seq (jQ [Cv 37 5,jK 38 .neq 37 0] (jC 38 (jr [Cv 39 5,jc 2 .Ic,Cv 3 39]) .skip)) (jQ [JL 40 1 1,jp 41 Hz 40,jL 42 1 4,Co 43 (.build [.oa,.oa,.oa,.oa,.oa,(.int .i64 0)] [(0,1,(.t 41)),(1,1,(.t 42))]),Co 44 (.box 6 (.t 43)),Cv 8 44] (.ghost (.yt 8 2 256) (.ghost (.yt 8 3 1) (.ghost (.JN 8 4 3 true) (.seq (jQ [Jf 45 0 1,Jl 46 1 45,jn 47 0 46,jk 48 0] (.block 0 (.loop [4,8,46,47,48] aH))) (jQ [Cv 95 8,jz 96 95,jf 97 4 96,jl 98 1 97,Co 99 (.zf 34 [(.t 98),(.f 36)])] (.seq (jQ [jf 100 0 4,jl 101 1 100,jn 102 0 101,jk 103 0] (.block 2 (.loop [8,101,102,103] bH))) (jr [Cv 145 8,Cv 2 145,jk 3 0]))))))))))))⟩
theorem zag:Hb P fo 44 DD:=fM Go.Proofs.Tryz.func44 (dC Zam (dC ean (dC Q5 (dC Qan (dC gan dN)))))
def rz:Ab:=fun ix args H=>if ix=34 then Pw 3 0 36 args H else none
def rk:=ez rz (fun _=>none) DD
theorem X5:Nb P 44 rk:=D6 Rc (K8 (fo:=fo) (s:=34) (g:=36) Go.Proofs.kap) zag
def XG:Ya:=(.seq (jQ [Cv 15 9,Cv 16 10,jB 17 .lss 15 16] (jX 17 0)) (.block 1 (jQ [Cv 18 9,Cv 19 10,jB 20 .add 18 19,Co 21 (.conv .u64 (.t 20)),Co 22 (.bin .shr (.t 21) (.c (.int .u64 1))),Co 23 (.conv .i64 (.t 22)),Cv 11 23] (jQ [Cv 24 2,Cv 25 0,Cv 26 11,ji 27 3 25 26,jL 28 3 27,Cv 29 1,Co 30 (.Lx (.t 24) [(.t 28),(.t 29)]),jK 31 .lss 30 0] (jC 31 (.region [Cv 32 11,jK 33 .add 32 1,Cv 9 33]) (.region [Cv 34 11,Cv 10 34]))))))
def zD:Xa:=⟨3,[.tmp 6,.tmp 7],(jQ [jk 6 0,jb 7 false] (jQ [Cv 12 0,jn 13 0 12,Cv 8 13] (jQ [Cv 14 8,jk 9 0,Cv 10 14] (.seq (.block 0 (.loop [0,1,2,8,9,10] XG)) (jr [Cv 35 9,Cv 36 9,Cv 37 8,jB 38 .lss 36 37,Cv 39 38,jT 40 39 (.km 2),jT 41 39 (.km 0),jT 42 39 (.km 9),jT 43 39 (.ki 3 41 42),jT 44 39 (.kL 3 43),jT 45 39 (.km 1),jT 46 39 (.Lx (.t 40) [(.t 44),(.t 45)]),jT 47 39 (.kK .eql 46 0),ja 48 39 47,Cv 6 35,Cv 7 48])))))⟩
def wL:Xa:=⟨2,[.tmp 4],(jQ [jR 2 3 0,jk 4 0] (jr [Jf 5 0 2,Jl 6 1 5,Cv 7 1,jq 8 MF 6 7,Cv 4 8]))⟩
def FD:Xa:=⟨2,[.cell 4 true 3,.tmp 5],(jQ [Co 4 (.alloc [(.int .i64 0),(.int .i64 0),(.int .i64 0)]),jb 5 false] (.seq (jQ [Cv 8 0,Co 9 (.kE 1 false 8)] (jC 9 (jr [Co 10 (.build [(.int .i64 0),(.int .i64 0),(.int .i64 0)] []),jS 3 4 10,jb 5 false]) .skip)) (jQ [Cv 12 0,jz 13 12,jf 14 4 13,jl 15 1 14,Cv 16 1,Co 17 (.zf 40 [(.t 15),(.t 16),(.f 41)]),Cv 11 17,jx 18 0 11,jx 19 1 11,Cv 6 18,Cv 7 19] (.seq (jQ [Cv 20 7,jt 21 20] (jC 21 (.region [Cv 22 6,jK 23 .sub 22 1,Cv 6 23]) .skip)) (.seq (jQ [Cv 24 6,jK 25 .lss 24 0,Cv 26 25,jF 27 26 (.km 1),jF 28 26 (.km 0),jF 29 26 (.kz 28),jF 30 26 (.kf 4 29),jF 31 26 (.kl 1 30),jF 32 26 (.km 6),jF 33 26 (.ki 3 31 32),jF 34 26 (.kf 1 33),jF 35 26 (.kl 1 34),jF 36 26 (.kB .gtr 27 35),jo 37 26 36] (jC 37 (jr [Co 38 (.build [(.int .i64 0),(.int .i64 0),(.int .i64 0)] []),jS 3 4 38,jb 5 false]) .skip)) (jr [Cv 39 0,jz 40 39,jf 41 4 40,jl 42 1 41,Cv 43 6,ji 44 3 42 43,jL 45 3 44,jS 3 4 45,jb 5 true]))))))⟩
def Qw:Nat->Option Xa
 |40=>some zD
 |41=>some wL
 |_=>none
def cv:=oc Qw FD
def wG:Ya:=(jQ [jB 20 .lss 19 18] (.seq (jX 20 0) (.seq (.block 1 (jQ [Cv 21 19,Cv 6 21] (jQ [Cv 22 0,jz 23 22,jf 24 0 23,jl 25 1 24,Cv 26 6,ji 27 258 25 26,Cv 7 27] (jQ [Cv 28 5,Cv 29 7,jz 30 29,jf 31 0 30,jl 32 1 31,Cv 33 1,Cv 34 7,jz 35 34,jf 36 257 35,jl 37 1 36,jB 38 .quo 33 37,Ji 39 1 32 38,Jl 40 1 39,Co 41 (.Fc .lit 1 false 1 [(.int .u8 0)] [(0,(.t 40))]),Co 42 (.ku 1 false 1 28 41),Cv 5 42] (.region [Cv 43 1,Cv 44 7,jz 45 44,jf 46 257 45,jl 47 1 46,jB 48 .rem 43 47,Cv 1 48]))))) (.region [jK 49 .add 19 1,Cv 19 49]))))
def bW:Xa:=⟨2,[.tmp 4],(jQ [jc 4 .oa] (jQ [Cv 8 0,jz 9 8,jf 10 0 9,jl 11 1 10,jn 12 0 11,Co 13 (.oj .uq 1 false [(.int .u8 0)] 1 (.c (.int .i64 0)) (.t 12)),Cv 5 13] (.seq (jQ [Cv 14 0,jz 15 14,jf 16 0 15,jl 17 1 16,jn 18 0 17,jk 19 0] (.block 0 (.loop [0,1,5,18,19] wG))) (jr [Cv 50 5,Cv 4 50]))))⟩
def pP:=oc (fun _=>none) bW
def CQ:Xa:=⟨2,[.tmp 4,.tmp 5],(jQ [jc 4 .oa,jb 5 false] (jQ [Cv 9 0,Cv 10 1,jq 11 cv 9 10,Cv 8 11,jx 12 0 8,jx 13 1 8,Co 6 (.alloc [(.int .i64 0),(.int .i64 0),(.int .i64 0)]),jS 3 6 12,Cv 7 13] (.seq (jQ [Cv 14 7,jt 15 14] (jC 15 (jr [jc 4 .oa,jb 5 false]) .skip)) (jr [Cv 16 0,jz 17 16,jf 18 3 17,jl 19 1 18,jf 20 2 6,jl 21 1 20,Ji 22 1 19 21,Jl 23 1 22,Cv 24 1,jf 25 0 6,jl 26 1 25,jB 27 .sub 24 26,jq 28 pP 23 27,Cv 4 28,jb 5 true]))))⟩
def tK:=oc (fun _=>none) CQ
def nA:Ya:=(jQ [jB 23 .lss 22 21] (.seq (jX 23 0) (.seq (.block 1 (jQ [Cv 24 22,Cv 7 24] (jQ [Cv 25 0,jz 26 25,jf 27 0 26,jl 28 1 27,Cv 29 7,Cv 30 1,Cv 31 7,Ji 32 1 30 31,Jl 33 1 32,Ji 34 258 28 29,jf 35 1 34,Co 36 (.kA 256 1 35 33),jl 37 1 36,Cp 38 (.conv .i64 (.t 37)),Cv 8 38] (.seq (jQ [Cv 39 8,jK 40 .eql 39 0] (jC 40 (jr [jk 4 0,jb 5 false]) .skip)) (.region [Cv 41 6,Cv 42 8,jK 43 .sub 42 1,Cv 44 0,jz 45 44,jf 46 0 45,jl 47 1 46,Cv 48 7,ji 49 258 47 48,jf 50 257 49,jl 51 1 50,jB 52 .mul 43 51,jB 53 .add 41 52,Cv 6 53]))))) (.region [jK 54 .add 22 1,Cv 22 54]))))
def vG:Xa:=⟨2,[.tmp 4,.tmp 5],(jQ [jk 4 0,jb 5 false] (.seq (jQ [Cv 9 1,jn 10 0 9,Cv 11 0,jz 12 11,jf 13 0 12,jl 14 1 13,jn 15 0 14,jB 16 .neq 10 15] (jC 16 (jr [jk 4 0,jb 5 false]) .skip)) (jQ [jk 6 0] (.seq (jQ [Cv 17 0,jz 18 17,jf 19 0 18,jl 20 1 19,jn 21 0 20,jk 22 0] (.block 0 (.loop [0,1,6,21,22] nA))) (jr [Cv 55 6,Cv 4 55,jb 5 true])))))⟩
theorem haf:Hb P fo 106 vG:=fM Go.Proofs.Tryz.func106 dN
def Az:=oc (fun _=>none) vG
theorem ian:Nb P 106 Az:=Jc Rc haf
def cH:Ya:=(jQ [jB 18 .lss 17 16] (.seq (jX 18 0) (.seq (.block 1 (jQ [Cv 19 17,ji 20 1 15 17,jl 21 1 20,Cv 6 19,Cv 7 21] (jQ [Cv 23 7,Cv 24 1,jq 25 Az 23 24,Cv 22 25,jx 26 0 22,jx 27 1 22,Cv 8 26,Cv 9 27] (jQ [Cv 28 9] (jC 28 (jr [Cv 29 0,jz 30 29,jf 31 0 30,jf 32 0 31,jl 33 1 32,Cv 34 6,ji 35 2 33 34,jf 36 1 35,jl 37 1 36,Cv 38 8,jB 39 .add 37 38,Cv 4 39,jb 5 true]) .skip))))) (.region [jK 40 .add 17 1,Cv 17 40]))))
def BQ:Xa:=⟨2,[.tmp 4,.tmp 5],(jQ [jk 4 0,jb 5 false] (.seq (jQ [Cv 10 0,Co 11 (.kE 1 false 10)] (jC 11 (jr [jk 4 0,jb 5 false]) .skip)) (.seq (jQ [Cv 12 0,jz 13 12,jf 14 3 13,jl 15 1 14,jn 16 0 15,jk 17 0] (.block 0 (.loop [0,1,15,16,17] cH))) (jr [jk 4 0,jb 5 false]))))⟩
theorem Aag:Hb P fo 76 BQ:=fM Go.Proofs.Tryz.func76 (dC ian dN)
def ZF:=oc (fun _=>none) BQ
theorem Xan:Nb P 76 ZF:=Jc Rc Aag
def ED:Xa:=⟨3,[.tmp 6,.tmp 7],(jQ [jk 6 0,jb 7 false] (.seq (jQ [Cv 8 0,Co 9 (.kE 1 false 8),Cv 10 9,jF 11 10 (.km 1),jF 12 10 (.kK .lss 11 0),jo 13 10 12,Cv 14 13,jF 15 14 (.km 1),jF 16 14 (.km 0),jF 17 14 (.kz 16),jF 18 14 (.kf 2 17),jF 19 14 (.kl 1 18),jF 20 14 (.kn 0 19),jF 21 14 (.kB .geq 15 20),jo 22 14 21,Cv 23 22,jF 24 23 (.km 0),jF 25 23 (.kz 24),jF 26 23 (.kf 2 25),jF 27 23 (.kl 1 26),jF 28 23 (.km 1),jF 29 23 (.km 2),jF 30 23 (.ki 256 27 28),jF 31 23 (.kA 256 1 30 29),jF 32 23 (.kl 1 31),jF 33 23 (.bin .eql (.t 32) (.c (.int .i8 (-2)))),jo 34 23 33] (jC 34 (jr [jk 6 0,jb 7 false]) .skip)) (jr [Cv 35 0,jz 36 35,jf 37 2 36,jl 38 1 37,Cv 39 1,Cv 40 2,ji 41 256 38 39,Co 42 (.kA 256 1 41 40),jl 43 1 42,Co 44 (.conv .i64 (.t 43)),Cv 6 44,jb 7 true])))⟩
theorem Bag:Hb P fo 86 ED:=fM Go.Proofs.Tryz.func86 dN
def Kz:=oc (fun _=>none) ED
theorem Y5:Nb P 86 Kz:=Jc Rc Bag
def nD:Ya:=(.seq (jQ [Cv 19 5,Cv 20 4,jB 21 .lss 19 20] (jX 21 2)) (.seq (.block 3 (jQ [Jf 24 0 1,Jl 25 1 24,Cv 26 4,ji 27 2 25 26,jf 28 0 27,jl 29 1 28,jn 30 0 29,Cv 6 30] (jQ [Cv 31 6,Jf 32 0 1,Jl 33 1 32,Cv 34 5,ji 35 2 33 34,jf 36 0 35,jl 37 1 36,jn 38 0 37,jB 39 .eql 31 38] (jC 39 (jQ [Jf 41 0 1,Jl 42 1 41,Cv 43 4,Ji 44 2 42 43,JL 45 2 44,Jf 46 0 1,Jl 47 1 46,Cv 48 5,Ji 49 2 47 48,JL 50 2 49,Cv 51 6,Co 52 (.kr GC 45 50 51),Cv 40 52,jx 53 0 40,jx 54 1 40,Cv 7 53,Cv 8 54] (jQ [Cv 55 8] (jC 55 (jr [jb 2 false,jk 3 0]) .skip))) .skip)))) (.region [Cv 22 5,jK 23 .add 22 1,Cv 5 23])))
def bL:Ya:=(.seq (jQ [Cv 12 4,Jf 13 0 1,Jl 14 1 13,jn 15 0 14,jB 16 .lss 12 15] (jX 16 0)) (.seq (.block 1 (jQ [jk 5 0] (.block 2 (.loop [1,4,5] nD)))) (.region [Cv 17 4,jK 18 .add 17 1,Cv 4 18])))
def ZP:Xa:=⟨1,[.tmp 2,.tmp 3],(jQ [jR 1 1 0,jb 2 false,jk 3 0] (.seq (jQ [JL 9 1 1,jp 10 Ez 9,jt 11 10] (jC 11 (jr [jb 2 false,jk 3 84]) .skip)) (.seq (jQ [jk 4 0] (.block 0 (.loop [1,4] bL))) (jr [jb 2 true,jk 3 0]))))⟩
theorem zaf:Hb P fo 72 ZP:=fM Go.Proofs.Tryz.func72 (dC L5 (dC N5 dN))
def HC:=oc (fun _=>none) ZP
theorem uan:Nb P 72 HC:=Jc Rc zaf
def dL:Xa:=⟨1,[.cell 2 true 1,.tmp 3],(jQ [jR 1 1 0,Co 2 (.alloc [.oa]),jk 3 0] (jQ [JL 9 1 1,jp 10 Tm 9,Cv 8 10,jx 11 0 8,jx 12 1 8,Co 4 (.alloc [.oa]),jS 1 4 11,Cv 5 12] (.seq (jQ [Cv 13 5,jK 14 .eql 13 84,Cv 15 14,jF 16 15 (.km 5),jF 17 15 (.kK .eql 16 110),jo 18 15 17] (jC 18 (jr [Co 19 (.build [.oa] []),Cv 20 5,jS 1 2 19,Cv 3 20]) .skip)) (jQ [JL 22 1 1,jp 23 HC 22,Cv 21 23,jx 24 0 21,jx 25 1 21,Cv 6 24,Cv 7 25] (.seq (jQ [Cv 26 6,jt 27 26] (jC 27 (jr [Co 28 (.build [.oa] []),jS 1 2 28,jk 3 111]) .skip)) (jr [jL 29 1 4,Cv 30 5,jS 1 2 29,Cv 3 30]))))))⟩
theorem Faf:Hb P fo 46 dL:=fM Go.Proofs.Tryz.func46 (dC wan (dC uan dN))
def Gz:=oc (fun _=>none) dL
theorem Aan:Nb P 46 Gz:=Jc Rc Faf
def gL:Ya:=(.seq (jQ [Cv 11 5,Cv 12 0,jn 13 0 12,jB 14 .lss 11 13] (jX 14 0)) (.seq (.block 1 (jQ [Cv 17 0,Cv 18 5,Ji 19 5 17 18,JL 20 5 19,Cv 21 1,Cv 22 5,Ji 23 5 21 22,JL 24 5 23,Co 25 (.Sv (.row [1,1,1,1,1]) true (.t 20) (.t 24))] (jC 25 (jr [jb 4 false]) .skip))) (.region [Cv 15 5,jK 16 .add 15 1,Cv 5 16])))
def fQ:Xa:=⟨2,[.tmp 4],(jQ [jb 4 false] (.seq (jQ [Cv 6 0,jn 7 0 6,Cv 8 1,jn 9 0 8,jB 10 .neq 7 9] (jC 10 (jr [jb 4 false]) .skip)) (.seq (jQ [jk 5 0] (.block 0 (.loop [0,1,5] gL))) (jr [jb 4 true]))))⟩
theorem Iaf:Hb P fo 22 fQ:=fM Go.Proofs.Tryz.func22 dN
def Mt:=oc (fun _=>none) fQ
theorem UN:Nb P 22 Mt:=Jc Rc Iaf
def sD:Ya:=(.seq (jQ [Cv 7 6,Cv 8 0,jn 9 0 8,jB 10 .lss 7 9] (jX 10 0)) (.seq (.block 1 (.seq (jQ [Cv 13 1,Cv 14 0,Cv 15 6,ji 16 2 14 15,jf 17 0 16,jl 18 1 17,jB 19 .geq 13 18,Cv 20 19,jT 21 20 (.km 1),jT 22 20 (.km 0),jT 23 20 (.km 6),jT 24 20 (.ki 2 22 23),jT 25 20 (.kf 1 24),jT 26 20 (.kl 1 25),jT 27 20 (.kB .leq 21 26),ja 28 20 27] (jC 28 (jr [Cv 29 5,Cv 30 1,jB 31 .add 29 30,Cv 32 0,Cv 33 6,ji 34 2 32 33,jf 35 0 34,jl 36 1 35,jB 37 .sub 31 36,Cv 4 37]) .skip)) (.region [Cv 38 5,Cv 39 0,Cv 40 6,Ji 41 2 39 40,jf 42 1 41,jl 43 1 42,Cv 44 0,Cv 45 6,Ji 46 2 44 45,jf 47 0 46,jl 48 1 47,jB 49 .sub 43 48,jK 50 .add 49 1,jB 51 .add 38 50,Cv 5 51]))) (.region [Cv 11 6,jK 12 .add 11 1,Cv 6 12])))
def gQ:Xa:=⟨2,[.tmp 4],(jQ [jk 4 0] (jQ [jk 5 0] (.seq (jQ [jk 6 0] (.block 0 (.loop [0,1,5,6] sD))) (jr [jk 4 (-1)]))))⟩
theorem Jaf:Hb P fo 73 gQ:=fM Go.Proofs.Tryz.func73 dN
def fK:=oc (fun _=>none) gQ
theorem Ean:Nb P 73 fK:=Jc Rc Jaf
def iL:Ya:=(.seq (jQ [Cv 5 4,Cv 6 0,jn 7 0 6,jB 8 .lss 5 7] (jX 8 0)) (.seq (.block 1 (.region [Cv 11 3,Cv 12 0,Cv 13 4,Ji 14 2 12 13,jf 15 1 14,jl 16 1 15,Cv 17 0,Cv 18 4,Ji 19 2 17 18,jf 20 0 19,jl 21 1 20,jB 22 .sub 16 21,jK 23 .add 22 1,jB 24 .add 11 23,Cv 3 24])) (.region [Cv 9 4,jK 10 .add 9 1,Cv 4 10])))
def iQ:Xa:=⟨1,[.tmp 2],(jQ [jk 2 0] (jQ [jk 3 0] (.seq (jQ [jk 4 0] (.block 0 (.loop [0,3,4] iL))) (jr [Cv 25 3,Cv 2 25]))))⟩
theorem Kaf:Hb P fo 74 iQ:=fM Go.Proofs.Tryz.func74 dN
def gK:=oc (fun _=>none) iQ
theorem Fan:Nb P 74 gK:=Jc Rc Kaf
def yA:Ya:=(.seq (jQ [Cv 25 10,jf 26 0 9,jl 27 1 26,jn 28 0 27,jB 29 .lss 25 28,Cv 30 29,jT 31 30 (.km 2),jT 32 30 (.km 10),jT 33 30 (.kB .add 31 32),jT 34 30 (.km 1),jT 35 30 (.kn 0 34),jT 36 30 (.kB .lss 33 35),ja 37 30 36] (jX 37 2)) (.block 3 (jQ [jf 38 0 9,jl 39 1 38,Cv 40 10,Ji 41 1 39 40,Jl 42 1 41,Cv 43 1,Cv 44 2,Cv 45 10,jB 46 .add 44 45,Ji 47 1 43 46,Jl 48 1 47,Cp 49 (.conv .i64 (.t 48)),jq 50 fK 42 49,Cv 12 50] (.seq (jQ [Cv 51 12,jK 52 .lss 51 0] (jC 52 (.exit 2) .skip)) (jQ [Cv 53 11,jf 54 0 9,jl 55 1 54,Cv 56 10,ji 57 1 55 56,jl 58 1 57,jp 59 gK 58,jB 60 .mul 53 59,Cv 61 12,jB 62 .add 60 61,Cv 11 62] (.region [Cv 63 10,jK 64 .add 63 1,Cv 10 64]))))))
def eL:Ya:=(.seq (jQ [Cv 13 8,Jf 14 0 3,Jl 15 1 14,jn 16 0 15,jB 17 .lss 13 16] (jX 17 0)) (.seq (.block 1 (jQ [Jf 20 0 3,Jl 21 1 20,Cv 22 8,ji 23 2 21 22,jL 24 2 23,Co 9 (.alloc [.oa,(.int .i64 0)]),jS 2 9 24] (jQ [jk 10 0,jk 11 0] (.seq (.block 2 (.loop [1,2,3,6,7,8,9,10,11] yA)) (.seq (jQ [Cv 65 10,jf 66 0 9,jl 67 1 66,jn 68 0 67,jB 69 .eql 65 68] (jC 69 (jr [Cv 70 2,Cv 71 10,jf 72 1 9,jl 73 1 72,Cv 74 11,jB 75 .add 73 74,Co 76 (.build [(.int .i64 0),(.int .i64 0),(.int .i64 0),(.int .i64 0),(.int .i64 0)] [(0,1,(.c (.int .i64 1))),(1,1,(.t 70)),(2,1,(.t 71)),(3,1,(.t 75))]),jS 5 6 76]) .skip)) (.region [Cv 77 7,Cv 78 10,Co 79 (.mx [(.t 77),(.t 78)]),Cv 7 79])))))) (.region [Cv 18 8,jK 19 .add 18 1,Cv 8 19])))
def dQ:Xa:=⟨3,[.cell 6 true 5],(jQ [jR 3 1 0,Co 6 (.alloc [(.int .i64 0),(.int .i64 0),(.int .i64 0),(.int .i64 0),(.int .i64 0)])] (jQ [jk 7 0] (.seq (jQ [jk 8 0] (.block 0 (.loop [1,2,3,6,7,8] eL))) (.seq (jQ [Cv 80 7,jK 81 .gtr 80 0,Cv 82 81,jT 83 82 (.km 2),jT 84 82 (.km 7),jT 85 82 (.kB .add 83 84),jT 86 82 (.km 1),jT 87 82 (.kn 0 86),jT 88 82 (.kB .eql 85 87),ja 89 82 88] (jC 89 (jr [Cv 90 2,Cv 91 7,Co 92 (.build [(.int .i64 0),(.int .i64 0),(.int .i64 0),(.int .i64 0),(.int .i64 0)] [(0,1,(.c (.int .i64 3))),(1,1,(.t 90)),(2,1,(.t 91))]),jS 5 6 92]) .skip)) (jr [Cv 93 2,Cv 94 7,Co 95 (.mx [(.t 94),(.c (.int .i64 1))]),Co 96 (.build [(.int .i64 0),(.int .i64 0),(.int .i64 0),(.int .i64 0),(.int .i64 0)] [(0,1,(.c (.int .i64 2))),(1,1,(.t 93)),(2,1,(.t 95))]),jS 5 6 96])))))⟩
theorem Gaf:Hb P fo 47 dQ:=fM Go.Proofs.Tryz.func47 (dC Ean (dC Fan dN))
def eK:=oc (fun _=>none) dQ
theorem Ban:Nb P 47 eK:=Jc Rc Gaf
def fL:Ya:=(.seq (jQ [Cv 13 8,Cv 14 1,jn 15 0 14,jB 16 .lss 13 15] (jX 16 0)) (.block 1 (jQ [JL 17 1 3,Cv 18 1,Cv 19 8,Co 20 (.kr eK 17 18 19),Co 9 (.alloc [(.int .i64 0),(.int .i64 0),(.int .i64 0),(.int .i64 0),(.int .i64 0)]),jS 5 9 20] (jQ [Cv 21 7,jL 22 5 9,Co 23 (.Fc .lit 5 true 1 [(.int .i64 0),(.int .i64 0),(.int .i64 0),(.int .i64 0),(.int .i64 0)] [(0,(.t 22))]),Co 24 (.ku 5 true 40 21 23),Cv 7 24] (.region [Cv 25 8,jf 26 2 9,jl 27 1 26,jB 28 .add 25 27,Cv 8 28])))))
def eQ:Xa:=⟨3,[.tmp 6],(jQ [jR 3 1 0,jc 6 .oa] (jQ [jc 7 .oa] (.ghost (.Ln 7 5) (.seq (jQ [Cv 10 2,jK 11 .lss 10 0] (jC 11 (jr [jc 6 .oa]) .skip)) (.seq (jQ [Cv 12 2,Cv 8 12] (.block 0 (.loop [1,3,7,8] fL))) (jr [Cv 29 7,Cv 6 29]))))))⟩
theorem Haf:Hb P fo 18 eQ:=fM Go.Proofs.Tryz.func18 (dC Ban dN)
def JC:=oc (fun _=>none) eQ
theorem Dan:Nb P 18 JC:=Jc Rc Haf
end Go.AM.B1
namespace Go.AM
open Go
section
variable {P:Program}{F:Fence}{n:Nat}{ops:Array Oper}{md:Region.Mode}
end
section
variable {P:Program}{fo:Nat->FuncId}{B0:qd}{call:Ab}
end
end Go.AM
namespace Go.AM.B1
open Go.AM
theorem wM:∀ (es:List PV)(k:Nat),(∀ e∈es,e.cells.length=1)->(flat es).drop k=flat (es.drop k)
 | [],k,_=>by simp[flat]
 |e::es,0,_=>rfl
 |e::es,k+1,h=>by have he:=h e (by simp);rw[flat,Nz,yK,he,uP (by omega),Kf,Nat.add_sub_cancel];exact wM es k fun x hx=>h x (by simp[hx])
end Go.AM.B1
namespace Go.Proofs
open Go.RowKit Go.Shelf
attribute [local go_sem] Oper.semAt_some
end Go.Proofs
namespace Go.AM.B1
open Go.AM
def NP:Xa:=⟨0,[.tmp 0],(jQ [jc 0 .Ic] (jQ [Co 4 (.build [(.int .i64 0),(.int .i64 0)] [(0,1,(.c (.int .i64 128))),(1,1,(.c (.int .i64 191)))]),Co 5 (.Fc .lit 2 true 1 [(.int .i64 0),(.int .i64 0)] [(0,(.t 4))]),Cv 1 5] (jQ [Co 7 (.build [(.int .i64 0),(.int .i64 0)] [(0,1,(.c (.int .i64 0))),(1,1,(.c (.int .i64 127)))]),Co 8 (.Fc .lit 2 true 1 [(.int .i64 0),(.int .i64 0)] [(0,(.t 7))]),Co 9 (.Fc .lit 1 false 1 [.oa] [(0,(.t 8))]),Co 10 (.build [.oa,(.int .i64 0)] [(0,1,(.t 9))]),Co 11 (.build [(.int .i64 0),(.int .i64 0)] [(0,1,(.c (.int .i64 194))),(1,1,(.c (.int .i64 223)))]),Co 12 (.Fc .lit 2 true 1 [(.int .i64 0),(.int .i64 0)] [(0,(.t 11))]),Cv 13 1,Co 14 (.Fc .lit 1 false 2 [.oa] [(0,(.t 12)),(1,(.t 13))]),Co 15 (.build [.oa,(.int .i64 0)] [(0,1,(.t 14)),(1,1,(.c (.int .i64 128)))]),Co 16 (.build [(.int .i64 0),(.int .i64 0)] [(0,1,(.c (.int .i64 225))),(1,1,(.c (.int .i64 225)))]),Co 17 (.Fc .lit 2 true 1 [(.int .i64 0),(.int .i64 0)] [(0,(.t 16))]),Cv 18 1,Cv 19 1,Co 20 (.Fc .lit 1 false 3 [.oa] [(0,(.t 17)),(1,(.t 18)),(2,(.t 19))]),Co 21 (.build [.oa,(.int .i64 0)] [(0,1,(.t 20)),(1,1,(.c (.int .i64 4096)))]),Co 22 (.Fc .lit 2 true 3 [.oa,(.int .i64 0)] [(0,(.t 10)),(1,(.t 15)),(2,(.t 21))]),Co 23 (.build [.oa] [(0,1,(.t 22))]),jp 24 rk 23,Cv 6 24,jx 25 0 6,jx 26 1 6,Cv 2 25,Cv 3 26] (jr [Cv 27 2,Cv 0 27]))))⟩
theorem maf:Hb P fo 32 NP:=fM Go.Proofs.Tryz.func32 (dC X5 dN)
def ZJ:List PV->Option PV:=oc (fun _=>none) NP
theorem oan:Nb P 32 ZJ:=Jc Rc maf
def fA:Xa:=⟨1,[.tmp 2,.tmp 3],(jQ [jc 2 .Ic,jk 3 0] (.seq (jQ [Cv 4 0,jK 5 .lss 4 1,Cv 6 5,jF 7 6 (.km 0),jF 8 6 (.kK .gtr 7 8),jo 9 6 8] (jC 9 (jr [jc 2 .Ic,jk 3 1]) .skip)) (jr [Cv 10 0,Co 11 (.build [(.int .u8 0),(.int .u8 0),(.int .u8 0),(.int .u8 0),(.int .u8 0),(.int .u8 0),(.int .u8 0),(.int .u8 0),(.int .i64 0),(.int .i64 0),(.int .i64 0)] [(8,1,(.t 10))]),Co 12 (.box 11 (.t 11)),Cv 2 12,jk 3 0])))⟩
theorem yY:Hb P fo 54 fA:=fM Go.Proofs.Tryz.func54 dN
def mA:Xa:=⟨2,[.tmp 4,.tmp 5],(jQ [jc 4 .Ic,jk 5 0] (.seq (.block 0 (jQ [Cv 9 0,Co 10 (.kE 1 false 9),Cv 8 10] (jC 8 (jr [jc 4 .Ic,jk 5 2]) (jQ [Cv 12 1,jK 13 .neq 12 1,Cv 14 13,jT 15 14 (.km 1),jT 16 14 (.kK .neq 15 3),ja 17 14 16,Cv 11 17] (jC 11 (jr [jc 4 .Ic,jk 5 180]) .skip))))) (jQ [Co 19 (.zf 80 [(.c (.int .i64 8))]),Cv 18 19,jx 20 0 18,jx 21 1 18,Cv 6 20,Cv 7 21] (jr [Cv 22 0,Cv 23 1,Cv 24 6,Co 25 (.build [.Ic,(.int .i64 0),.Ic,(.int .i64 0),(.int .i64 0),(.int .i64 0),(.bool false),(.bool false)] [(0,1,(.t 22)),(1,1,(.t 23)),(2,1,(.t 24))]),Co 26 (.box 8 (.t 25)),Cv 27 7,Cv 4 26,Cv 5 27]))))⟩
theorem EY:Hb P fo 31 mA:=fM Go.Proofs.Tryz.func31 dN
def sG:Xa:=⟨1,[.tmp 2],(jQ [jk 2 0] (.seq (.block 0 (jQ [Cv 4 0,Co 5 (.kE 1 false 4),Cv 3 5] (jC 3 (jr [jk 2 2]) (jQ [Cv 7 0,jz 8 7,jf 9 7 8,jl 10 1 9,Cv 6 10] (jC 6 (jr [jk 2 181]) (jQ [Cv 12 0,jz 13 12,jf 14 6 13,jl 15 1 14,Cv 11 15] (jC 11 (jr [jk 2 182]) .skip))))))) (jr [jk 2 0])))⟩
theorem faf:Hb P fo 55 sG:=fM Go.Proofs.Tryz.func55 dN
def zz:List PV->Option PV:=oc (fun _=>none) sG
theorem I5:Nb P 55 zz:=Jc Rc faf
def GP:Xa:=⟨1,[.tmp 2],(jQ [jk 2 0] (.seq (jQ [Cv 3 0,Co 4 (.kE 1 false 3)] (jC 4 (jr [jk 2 0]) .skip)) (jr [Cv 5 0,jz 6 5,jf 7 10 6,jl 8 1 7,Cv 2 8])))⟩
theorem Wae:Hb P fo 57 GP:=fM Go.Proofs.Tryz.func57 dN
def Zw:List PV->Option PV:=oc (fun _=>none) GP
theorem aJ:Nb P 57 Zw:=Jc Rc Wae
def FP:Xa:=⟨2,[.tmp 4,.tmp 5],(jQ [Co 4 (.move (.c (.int .u8 0))),jb 5 false] (.seq (jQ [Cv 6 1,jK 7 .lss 6 0,Cv 8 7,jF 9 8 (.km 1),jF 10 8 (.km 0),jF 11 8 (.kp Zw 10),jF 12 8 (.kB .geq 9 11),jo 13 8 12] (jC 13 (jr [Co 4 (.move (.c (.int .u8 0))),jb 5 false]) .skip)) (jr [Cv 14 0,Cv 15 0,jz 16 15,jf 17 9 16,jl 18 1 17,Cv 19 1,jB 20 .add 18 19,jK 21 .rem 20 8,jz 22 14,jf 23 0 22,Co 24 (.kA 8 1 23 21),jl 25 1 24,Cv 4 25,jb 5 true])))⟩
theorem Vae:Hb P fo 117 FP:=fM Go.Proofs.Tryz.func117 (dC aJ dN)
def TJ:List PV->Option PV:=oc (fun _=>none) FP
theorem ban:Nb P 117 TJ:=Jc Rc Vae
def qG:Ya:=(jQ [jB 13 .lss 12 11] (.seq (jX 13 0) (.seq (.block 1 (jQ [Cv 14 12,Cv 4 14] (jQ [Cv 16 0,Cv 17 4,jq 18 TJ 16 17,Cv 15 18,jx 19 0 15,jx 20 1 15,Cv 5 19,Cv 6 20] (.region [Cv 21 3,Cv 22 5,Co 23 (.Fc .lit 1 false 1 [(.int .u8 0)] [(0,(.t 22))]),Co 24 (.ku 1 false 1 21 23),Cv 3 24])))) (.region [jK 25 .add 12 1,Cv 12 25]))))
def As:Xa:=⟨1,[.tmp 2],(jQ [jc 2 .oa] (jQ [Cv 7 0,jp 8 Zw 7,Co 9 (.oj .uq 1 false [(.int .u8 0)] 1 (.c (.int .i64 0)) (.t 8)),Cv 3 9] (.seq (jQ [Cv 10 0,jp 11 Zw 10,jk 12 0] (.block 0 (.loop [0,3,11,12] qG))) (jr [Cv 26 3,Cv 2 26]))))⟩
theorem vY:Hb P fo 88 As:=fM Go.Proofs.Tryz.func88 (dC aJ (dC aJ (dC ban dN)))
def Bs:Xa:=⟨2,[.tmp 4],(jQ [jk 4 0] (.seq (.block 0 (jQ [Cv 6 0,Co 7 (.kE 1 false 6),Cv 5 7] (jC 5 (jr [jk 4 2]) (jQ [Cv 9 1,jK 10 .lss 9 0,Cv 11 10,jF 12 11 (.km 1),jF 13 11 (.km 0),jF 14 11 (.kz 13),jF 15 11 (.kf 10 14),jF 16 11 (.kl 1 15),jF 17 11 (.kB .gtr 12 16),jo 18 11 17,Cv 8 18] (jC 8 (jr [jk 4 1]) .skip))))) (jQ [Cv 19 0,Cv 20 0,jz 21 20,jf 22 9 21,jl 23 1 22,Cv 24 1,jB 25 .add 23 24,jK 26 .rem 25 8,jz 27 19,jf 28 9 27,jS 1 28 26] (jQ [Cv 29 0,jz 30 29,jf 31 10 30,jl 32 1 31,Cv 33 1,jB 34 .sub 32 33,jz 35 29,jf 36 10 35,jS 1 36 34] (jr [jk 4 0])))))⟩
theorem wY:Hb P fo 89 Bs:=fM Go.Proofs.Tryz.func89 dN
def Cs:Xa:=⟨2,[.cell 4 true 5],(jQ [Co 4 (.alloc [(.int .i64 0),(.int .i64 0),(.int .i64 0),(.int .i64 0),(.int .i64 0)])] (jQ [Cv 6 1,Cv 7 0,jz 8 7,jf 9 4 8,jl 10 1 9,Cv 11 0,jz 12 11,jf 13 2 12,jl 14 1 13,jp 15 Zw 14,Co 16 (.build [(.int .i64 0),(.int .i64 0),(.int .i64 0),(.int .i64 0),(.int .i64 0)] [(0,1,(.t 6)),(1,1,(.t 10)),(2,1,(.t 15))]),Co 5 (.alloc [(.int .i64 0),(.int .i64 0),(.int .i64 0),(.int .i64 0),(.int .i64 0)]),jS 5 5 16] (.seq (jQ [Cv 17 1,jK 18 .eql 17 1] (jC 18 (.region [Cv 20 0,jz 21 20,jf 22 0 21,jl 23 1 22,Cv 24 0,jz 25 24,jf 26 2 25,jl 27 1 26,Co 28 (.EA 83 [(.t 27)]),jq 29 ZF 23 28,Cv 19 29,jx 30 0 19,jx 31 1 19,jf 32 3 5,jS 1 32 30]) .skip)) (jQ [Cv 33 0,jz 34 33,jf 35 4 34,jl 36 1 35,jf 37 2 5,jl 38 1 37,jB 39 .add 36 38,jz 40 33,jf 41 4 40,jS 1 41 39] (jQ [Cv 42 0,jz 43 42,jf 44 2 43,jl 45 1 44,jf 46 2 5,jl 47 1 46,Co 48 (.zf 82 [(.t 45),(.t 47)])] (jQ [Cv 49 0,jz 50 49,jf 51 3 50,Ce (.store 1 (.t 51) (.c (.int .i64 0)))] (jr [jL 52 5 5,jS 5 4 52])))))))⟩
theorem DY:Hb P fo 58 Cs:=fM Go.Proofs.Tryz.func58 (dC aJ (dC Xan dN))
def Av:Xa:=⟨2,[.tmp 4],(jQ [jk 4 0] (.seq (.block 0 (jQ [Cv 6 0,Co 7 (.kE 1 false 6),Cv 5 7] (jC 5 (jr [jk 4 2]) (jQ [Cv 9 0,jz 10 9,jf 11 10 10,jl 12 1 11,Cv 13 0,jz 14 13,jf 15 8 14,jl 16 1 15,jB 17 .geq 12 16,Cv 8 17] (jC 8 (jr [jk 4 3]) .skip))))) (jQ [Cv 18 0,Cv 19 0,jz 20 19,jf 21 9 20,jl 22 1 21,Cv 23 0,jz 24 23,jf 25 10 24,jl 26 1 25,jB 27 .add 22 26,jK 28 .rem 27 8,Cv 29 1,jz 30 18,jf 31 0 30,Co 32 (.kA 8 1 31 28),jS 1 32 29] (jQ [Cv 33 0,jz 34 33,jf 35 10 34,jl 36 1 35,jK 37 .add 36 1,jz 38 33,jf 39 10 38,jS 1 39 37] (jr [jk 4 0])))))⟩
theorem xY:Hb P fo 87 Av:=fM Go.Proofs.Tryz.func87 dN
def Xt:Ya:=(jQ [Cv 9 0,jz 10 9,jf 11 0 10,jl 12 1 11,Cv 13 0,jz 14 13,jf 15 3 14,jl 16 1 15,Cv 17 1,Co 18 (.kr Kz 12 16 17),Cv 8 18,jx 19 0 8,jx 20 1 8,Cv 6 19,Cv 7 20] (.seq (jQ [Cv 21 7,jt 22 21,Cv 23 22,jT 24 23 (.km 0),jT 25 23 (.kz 24),jT 26 23 (.kf 3 25),jT 27 23 (.kl 1 26),jT 28 23 (.kK .neq 27 0),ja 29 23 28] (jC 29 (jQ [Cv 30 5,Cv 31 0,Co 32 (.zf 89 [(.t 31),(.c (.int .i64 2))]),Co 33 (.Fc .lit 5 true 1 [(.int .i64 0),(.int .i64 0),(.int .i64 0),(.int .i64 0),(.int .i64 0)] [(0,(.t 32))]),Co 34 (.ku 5 true 40 30 33),Cv 5 34] (.seq (jQ [Cv 35 0,jz 36 35,jf 37 1 36,jl 38 1 37,jK 39 .eql 38 3] (jC 39 (jr [Cv 40 5,Cv 4 40]) .skip)) (.goto 0))) .skip)) (jQ [Cv 41 0,jz 42 41,jf 43 2 42,jl 44 1 43,Cv 45 1,Co 46 (.zf 81 [(.t 44),(.t 45)])] (.seq (.block 0 (jQ [Cv 52 7,jt 53 52,Cv 51 53] (jC 51 (.region [Cv 54 5,Cv 55 0,Co 56 (.zf 89 [(.t 55),(.c (.int .i64 2))]),Co 57 (.Fc .lit 5 true 1 [(.int .i64 0),(.int .i64 0),(.int .i64 0),(.int .i64 0),(.int .i64 0)] [(0,(.t 56))]),Co 58 (.ku 5 true 40 54 57),Cv 5 58]) (jQ [Cv 60 6,jK 61 .eql 60 (-1),Cv 59 61] (jC 59 (.region [Cv 62 5,Cv 63 0,Co 64 (.zf 89 [(.t 63),(.c (.int .i64 1))]),Co 65 (.Fc .lit 5 true 1 [(.int .i64 0),(.int .i64 0),(.int .i64 0),(.int .i64 0),(.int .i64 0)] [(0,(.t 64))]),Co 66 (.ku 5 true 40 62 65),Cv 5 66]) (.region [Cv 47 0,Cv 48 6,jz 49 47,jf 50 3 49,jS 1 50 48])))))) (jr [Cv 67 5,Cv 4 67])))))
def jA:Xa:=⟨2,[.tmp 4],(jQ [jc 4 .oa] (.jumps 0 (jQ [jc 5 .oa] (.ghost (.Ln 5 5) (.seq .skip Xt))) (.seq .skip Xt)))⟩
theorem CY:Hb P fo 56 jA:=fM Go.Proofs.Tryz.func56 (dC Y5 (dC Y5 dN))
def jD:Ya:=(jQ [jB 49 .lss 48 47] (.seq (jX 49 2) (.seq (.block 3 (jQ [ji 50 5 46 48,jL 51 5 50,Co 11 (.alloc [(.int .i64 0),(.int .i64 0),(.int .i64 0),(.int .i64 0),(.int .i64 0)]),jS 5 11 51] (jQ [Cv 52 7,jL 53 5 11,Co 54 (.Fc .lit 5 true 1 [(.int .i64 0),(.int .i64 0),(.int .i64 0),(.int .i64 0),(.int .i64 0)] [(0,(.t 53))]),Co 55 (.ku 5 true 40 52 54),Cv 7 55] (jQ [jf 56 0 11,jl 57 1 56,jK 58 .eql 57 2,Cv 59 58,jT 60 59 (.km 0),jT 61 59 (.kz 60),jT 62 59 (.kf 1 61),jT 63 59 (.kl 1 62),jT 64 59 (.kK .eql 63 3),ja 65 59 64] (jC 65 (jQ [Cv 66 0,jz 67 66,jf 68 6 67,Ce (.store 1 (.t 68) (.c (.bool true)))] (.exit 0)) .skip))))) (.region [jK 69 .add 48 1,Cv 48 69]))))
def WK:Ya:=(jQ [jB 41 .lss 40 39] (.seq (jX 41 0) (.seq (.block 1 (jQ [ji 42 1 38 40,jl 43 1 42,Cv 9 43] (jQ [Cv 44 0,Cv 45 9,Co 46 (.zf 90 [(.t 44),(.t 45)]),jn 47 0 46,jk 48 0] (.block 2 (.loop [0,7,38,39,40,46,47,48] jD))))) (.region [jK 70 .add 40 1,Cv 40 70]))))
def iD:Xa:=⟨2,[.tmp 4,.tmp 5],(jQ [jc 4 .oa,jk 5 0] (.scope (jQ [Cv 12 0,jp 13 zz 12,Cv 6 13] (.seq (jQ [Cv 14 6,jK 15 .eql 14 0,Cv 16 15,jT 17 16 (.km 1),jT 18 16 (.kn 0 17),jT 19 16 (.km 0),jT 20 16 (.kz 19),jT 21 16 (.kf 5 20),jT 22 16 (.kl 1 21),jT 23 16 (.bin .sub (.c (.int .i64 65536)) (.t 22)),jT 24 16 (.kB .gtr 18 23),ja 25 16 24] (jC 25 (.region [jk 6 183]) .skip)) (.seq (jQ [Cv 26 6,jK 27 .neq 26 0] (jC 27 (jr [Cv 28 6,jc 4 .oa,Cv 5 28]) .skip)) (jQ [Cv 29 0,jz 30 29,jf 31 5 30,jl 32 1 31,Cv 33 1,jn 34 0 33,jB 35 .add 32 34,jz 36 29,jf 37 5 36,jS 1 37 35] (jQ [jc 7 .oa] (.ghost (.Ln 7 5) (.seq .skip (.seq (jQ [Cv 38 1,jn 39 0 38,jk 40 0] (.block 0 (.loop [0,7,38,39,40] WK))) (jr [Cv 71 7,Cv 4 71,jk 5 0])))))))))))⟩
theorem AY:Hb P fo 33 iD:=fM Go.Proofs.Tryz.func33 (dC I5 dN)
def KP:Xa:=⟨1,[.tmp 2],(jQ [jk 2 0] (.seq (jQ [Cv 3 0,Co 4 (.kE 1 false 3)] (jC 4 (jr [jk 2 0]) .skip)) (jr [Cv 5 0,jz 6 5,jf 7 2 6,jl 8 1 7,jp 9 Zw 8,Cv 2 9])))⟩
theorem daf:Hb P fo 36 KP:=fM Go.Proofs.Tryz.func36 (dC aJ dN)
def Rr:List PV->Option PV:=oc (fun _=>none) KP
theorem fF:Nb P 36 Rr:=Jc Rc daf
def Wt:Xa:=⟨1,[.tmp 2,.tmp 3],(jQ [jc 2 .oa,jk 3 0] (.seq (jQ [Cv 5 0,jp 6 zz 5,Cv 4 6] (jQ [Cv 7 4,jK 8 .neq 7 0,Cv 9 8,jT 10 9 (.km 4),jT 11 9 (.kK .neq 10 182),ja 12 9 11] (jC 12 (jr [Cv 13 4,jc 2 .oa,Cv 3 13]) .skip))) (jQ [Cv 14 0,jz 15 14,jf 16 7 15,Ce (.store 1 (.t 16) (.c (.bool true)))] (.seq (jQ [Cv 17 0,jp 18 Rr 17,jK 19 .eql 18 0] (jC 19 (jr [jc 2 .oa,jk 3 0]) .skip)) (jr [Cv 20 0,Co 21 (.zf 89 [(.t 20),(.c (.int .i64 3))]),Co 22 (.Fc .lit 5 true 1 [(.int .i64 0),(.int .i64 0),(.int .i64 0),(.int .i64 0),(.int .i64 0)] [(0,(.t 21))]),Cv 2 22,jk 3 0])))))⟩
theorem BY:Hb P fo 37 Wt:=fM Go.Proofs.Tryz.func37 (dC I5 (dC fF dN))
def MP:Xa:=⟨0,[.tmp 0],(jQ [jb 0 false] (jQ [Co 11 (.Sl ZJ []),Co 12 (.zf 86 [(.t 11),(.c (.int .i64 1))]),Cv 10 12,jx 13 0 10,jx 14 1 10,Cv 1 13,Cv 2 14] (.seq (jQ [Cv 15 1,Co 16 (.kE 1 false 15),Cv 17 16,jF 18 17 (.km 2),jF 19 17 (.kK .neq 18 0),jo 20 17 19] (jC 20 (jr [jb 0 false]) .skip)) (jQ [Cv 22 1,Co 23 (.Fc .uq 1 false 3 [(.int .u8 0)] [(0,(.c (.int .u8 65))),(1,(.c (.int .u8 225))),(2,(.c (.int .u8 128)))]),Co 24 (.yF (.t 23)),Co 25 (.zf 87 [(.t 22),(.t 24)]),Cv 21 25,jx 26 0 21,jx 27 1 21,Cv 3 26,Cv 4 27] (jQ [Cv 28 1,jp 29 Rr 28,Cv 5 29] (jQ [Cv 31 1,Co 32 (.Fc .uq 1 false 2 [(.int .u8 0)] [(0,(.c (.int .u8 66))),(1,(.c (.int .u8 195)))]),Co 33 (.yF (.t 32)),Co 34 (.zf 87 [(.t 31),(.t 33)]),Cv 30 34,jx 35 0 30,jx 36 1 30,Cv 6 35,Cv 7 36] (jQ [Cv 38 1,Co 39 (.zf 88 [(.t 38)]),Cv 37 39,jx 40 0 37,jx 41 1 37,Cv 8 40,Cv 9 41] (jr [Cv 42 4,jK 43 .eql 42 0,Cv 44 43,jT 45 44 (.km 7),jT 46 44 (.kK .eql 45 0),ja 47 44 46,Cv 48 47,jT 49 48 (.km 9),jT 50 48 (.kK .eql 49 0),ja 51 48 50,Cv 52 51,jT 53 52 (.km 5),jT 54 52 (.kK .eql 53 2),ja 55 52 54,Cv 56 55,jT 57 56 (.km 3),jT 58 56 (.build [(.int .i64 0),(.int .i64 0),(.int .i64 0),(.int .i64 0),(.int .i64 0)] [(0,1,(.c (.int .i64 1))),(2,1,(.c (.int .i64 1))),(3,1,(.c (.int .i64 65)))]),jT 59 56 (.Fc .lit 5 true 1 [(.int .i64 0),(.int .i64 0),(.int .i64 0),(.int .i64 0),(.int .i64 0)] [(0,(.t 58))]),jT 60 56 (.kq Mt 57 59),ja 61 56 60,Cv 62 61,jT 63 62 (.km 6),jT 64 62 (.build [(.int .i64 0),(.int .i64 0),(.int .i64 0),(.int .i64 0),(.int .i64 0)] [(0,1,(.c (.int .i64 2))),(1,1,(.c (.int .i64 1))),(2,1,(.c (.int .i64 2)))]),jT 65 62 (.build [(.int .i64 0),(.int .i64 0),(.int .i64 0),(.int .i64 0),(.int .i64 0)] [(0,1,(.c (.int .i64 1))),(1,1,(.c (.int .i64 3))),(2,1,(.c (.int .i64 1))),(3,1,(.c (.int .i64 66)))]),jT 66 62 (.Fc .lit 5 true 2 [(.int .i64 0),(.int .i64 0),(.int .i64 0),(.int .i64 0),(.int .i64 0)] [(0,(.t 64)),(1,(.t 65))]),jT 67 62 (.kq Mt 63 66),ja 68 62 67,Cv 69 68,jT 70 69 (.km 8),jT 71 69 (.build [(.int .i64 0),(.int .i64 0),(.int .i64 0),(.int .i64 0),(.int .i64 0)] [(0,1,(.c (.int .i64 3))),(1,1,(.c (.int .i64 4))),(2,1,(.c (.int .i64 1)))]),jT 72 69 (.Fc .lit 5 true 1 [(.int .i64 0),(.int .i64 0),(.int .i64 0),(.int .i64 0),(.int .i64 0)] [(0,(.t 71))]),jT 73 69 (.kq Mt 70 72),ja 74 69 73,Cv 0 74]))))))))⟩
theorem kaf:Hb P fo 30 MP:=fM Go.Proofs.Tryz.func30 (dC oan (dC fF (dC UN (dC UN (dC UN dN)))))
def xJ:Nat->Option Xa
 |86=>some mA
 |87=>some iD
 |88=>some Wt
 |89=>some Cs
 |83=>some As
 |82=>some Bs
 |90=>some jA
 |81=>some Av
 |80=>some fA
 |_=>none
theorem Jar:Vo P fo xJ:=by
 intro ix af h;unfold xJ at h
 split at h
 ·injection h with h;subst h;exact EY
 ·injection h with h;subst h;exact AY
 ·injection h with h;subst h;exact BY
 ·injection h with h;subst h;exact DY
 ·injection h with h;subst h;exact vY
 ·injection h with h;subst h;exact wY
 ·injection h with h;subst h;exact CY
 ·injection h with h;subst h;exact xY
 ·injection h with h;subst h;exact yY
 ·cases h
def YJ:List PV->Option PV:=oc xJ MP
theorem lan:Nb P 30 YJ:=Jc Jar kaf
def aW:Xa:=⟨1,[.tmp 2],(jQ [jk 2 0] (.seq (jQ [Cv 3 0,Co 4 (.kE 1 false 3)] (jC 4 (jr [jk 2 0]) .skip)) (jr [Cv 5 0,jz 6 5,jf 7 5 6,jl 8 1 7,Cv 2 8])))⟩
def oP:List PV->Option PV:=oc (fun _=>none) aW
def HP:Xa:=⟨1,[.tmp 2],(jQ [jk 2 0] (.seq (jQ [Cv 3 0,Co 4 (.kE 1 false 3)] (jC 4 (jr [jk 2 0]) .skip)) (jr [Cv 5 0,jz 6 5,jf 7 8 6,jl 8 1 7,Cv 2 8])))⟩
theorem Xae:Hb P fo 59 HP:=fM Go.Proofs.Tryz.func59 dN
def UJ:List PV->Option PV:=oc (fun _=>none) HP
theorem dan:Nb P 59 UJ:=Jc Rc Xae
def LP:Xa:=⟨1,[.tmp 2],(jQ [jk 2 0] (.seq (jQ [Cv 3 0,Co 4 (.kE 1 false 3)] (jC 4 (jr [jk 2 0]) .skip)) (jr [Cv 5 0,jz 6 5,jf 7 2 6,jl 8 1 7,jp 9 UJ 8,Cv 2 9])))⟩
theorem eaf:Hb P fo 40 LP:=fM Go.Proofs.Tryz.func40 (dC dan dN)
def EC:List PV->Option PV:=oc (fun _=>none) LP
theorem G5:Nb P 40 EC:=Jc Rc eaf
def ZV:Xa:=⟨1,[.tmp 2],(jQ [jb 2 false] (jr [Cv 3 0,Co 4 (.kE 1 true 3),Cv 5 4,jT 6 5 (.km 0),jT 7 5 (.kz 6),jT 8 5 (.kf 6 7),jT 9 5 (.kl 1 8),ja 10 5 9,Cv 2 10]))⟩
def nP:List PV->Option PV:=oc (fun _=>none) ZV
def YK:Xa:=⟨1,[.tmp 2,.tmp 3],(jQ [jR 1 1 0,jc 2 .Ic,jb 3 false] (jQ [JL 9 1 1,jp 10 bK 9,jp 11 rk 10,Cv 8 11,jx 12 0 8,jx 13 1 8,Cv 4 12,Cv 5 13] (jQ [JL 15 1 1,jp 16 Gz 15,Cv 14 16,jx 17 0 14,jx 18 1 14,Co 6 (.alloc [.oa]),jS 1 6 17,Cv 7 18] (jr [Cv 19 4,Cv 20 5,Cv 21 7,jB 22 .eql 20 21,Cv 23 22,jT 24 23 (.km 4),jT 25 23 (.kE 1 false 24),jT 26 23 (.km 7),jT 27 23 (.kK .neq 26 0),jT 28 23 (.ke 0 25 27),ja 29 23 28,Cv 2 19,Cv 3 29]))))⟩
theorem laf:Hb P fo 35 YK:=fM Go.Proofs.Tryz.func35 (dC qan (dC X5 (dC Aan dN)))
def NF:List PV->Option PV:=oc (fun _=>none) YK
theorem man:Nb P 35 NF:=Jc Rc laf
def pA:Ya:=(.seq (jQ [Cv 32 13,Cv 33 2,jn 34 0 33,jB 35 .leq 32 34] (jX 35 0)) (.seq (.block 1 (jQ [Cv 38 1,jn 39 0 38,Cv 40 12,jB 41 .sub 39 40,Cv 14 41] (.seq (jQ [Cv 42 13,Cv 43 2,jn 44 0 43,jB 45 .lss 42 44] (jC 45 (.region [Cv 46 2,Cv 47 13,ji 48 1 46 47,jl 49 1 48,Co 50 (.mx [(.t 49),(.c (.int .i64 0))]),Cv 51 14,Co 52 (.mn [(.t 50),(.t 51)]),Cv 14 52]) .skip)) (jQ [Cv 54 9,Co 55 (.Fc .uq 1 false 0 [(.int .u8 0)] []),Cv 56 1,Cv 57 12,Cv 58 12,Cv 59 14,jB 60 .add 58 59,Co 61 (.slice 1 (.t 56) (some (.t 57)) (some (.t 60))),Co 62 (.ku 1 false 1 55 61),Co 63 (.zf 87 [(.t 54),(.t 62)]),Cv 53 63,jx 64 0 53,jx 65 1 53,Cv 15 64,Cv 16 65] (jQ [Cv 66 12,Cv 67 14,jB 68 .add 66 67,Cv 12 68] (jQ [Cv 69 11,Cv 70 15,Co 71 (.ku 5 true 40 69 70),Cv 11 71] (jQ [jk 17 0] (.seq (jQ [Cv 72 11,jn 73 0 72,jK 74 .gtr 73 0] (jC 74 (.region [Cv 75 11,Cv 76 11,Cp 77 (.kn 0 76),jK 78 .sub 77 1,Ji 79 5 75 78,jf 80 1 79,jl 81 1 80,Cv 82 11,Cv 83 11,Cp 84 (.kn 0 83),jK 85 .sub 84 1,Ji 86 5 82 85,jf 87 2 86,jl 88 1 87,jB 89 .add 81 88,Cv 17 89]) .skip)) (jQ [Cv 90 16,jK 91 .neq 90 0,Cv 92 91,jF 93 92 (.km 9),jF 94 92 (.kp Rr 93),jF 95 92 (.km 12),jF 96 92 (.km 17),jF 97 92 (.kB .sub 95 96),jF 98 92 (.kB .neq 94 97),jo 99 92 98,Cv 100 99,jF 101 100 (.km 9),jF 102 100 (.kp Rr 101),jF 103 100 (.kK .geq 102 8),jo 104 100 103,Cv 105 104,jF 106 105 (.km 9),jF 107 105 (.kp EC 106),jF 108 105 (.kK .gtr 107 64),jo 109 105 108,Cv 110 109,jF 111 110 (.km 9),jF 112 110 (.kp EC 111),jF 113 110 (.km 9),jF 114 110 (.kp Rr 113),jF 115 110 (.kB .lss 112 114),jo 116 110 115] (jC 116 (jr [jc 6 .oa,jk 7 0,jb 8 false]) .skip)))))))))) (.region [Cv 36 13,jK 37 .add 36 1,Cv 13 37])))
def xG:Xa:=⟨3,[.tmp 6,.tmp 7,.tmp 8],(jQ [jc 6 .oa,jk 7 0,jb 8 false] (jQ [Cv 22 0,Co 23 (.zf 86 [(.t 22),(.c (.int .i64 1))]),Cv 21 23,jx 24 0 21,jx 25 1 21,Cv 9 24,Cv 10 25] (.seq (jQ [Cv 26 9,Co 27 (.kE 1 false 26),Cv 28 27,jF 29 28 (.km 10),jF 30 28 (.kK .neq 29 0),jo 31 28 30] (jC 31 (jr [jc 6 .oa,jk 7 0,jb 8 false]) .skip)) (jQ [jc 11 .oa] (.ghost (.Ln 11 5) (jQ [jk 12 0] (.seq (jQ [jk 13 0] (.block 0 (.loop [1,2,9,11,12,13] pA))) (jQ [Cv 117 11,jn 118 0 117,Cv 18 118] (jQ [Cv 120 9,Co 121 (.zf 88 [(.t 120)]),Cv 119 121,jx 122 0 119,jx 123 1 119,Cv 19 122,Cv 20 123] (jr [Cv 124 11,Cv 125 19,Co 126 (.ku 5 true 40 124 125),Cv 127 18,Cv 128 20,jK 129 .eql 128 0,Cv 130 129,jT 131 130 (.km 9),jT 132 130 (.kp Rr 131),jT 133 130 (.kK .eql 132 0),ja 134 130 133,Cv 6 126,Cv 7 127,Cv 8 134]))))))))))⟩
theorem jaf:Hb P fo 38 xG:=fM Go.Proofs.Tryz.func38 (dC fF (dC fF (dC G5 (dC G5 (dC fF (dC fF dN))))))
def CF:Nat->Option Xa
 |86=>some mA
 |87=>some iD
 |88=>some Wt
 |89=>some Cs
 |83=>some As
 |82=>some Bs
 |90=>some jA
 |81=>some Av
 |80=>some fA
 |_=>none
theorem Iar:Vo P fo CF:=by
 intro ix af h;unfold CF at h
 split at h
 ·injection h with h;subst h;exact EY
 ·injection h with h;subst h;exact AY
 ·injection h with h;subst h;exact BY
 ·injection h with h;subst h;exact DY
 ·injection h with h;subst h;exact vY
 ·injection h with h;subst h;exact wY
 ·injection h with h;subst h;exact CY
 ·injection h with h;subst h;exact xY
 ·injection h with h;subst h;exact yY
 ·cases h
def XJ:List PV->Option PV:=oc CF xG
theorem kan:Nb P 38 XJ:=Jc Iar jaf
def oA:Xa:=⟨3,[.tmp 6],(jQ [jR 3 1 0,jb 6 false] (.seq (jQ [Co 13 (.Sl YJ []),jt 14 13] (jC 14 (jr [jb 6 false]) .skip)) (jQ [JL 16 1 3,jp 17 NF 16,Cv 15 17,jx 18 0 15,jx 19 1 15,Cv 7 18,Cv 8 19] (.seq (jQ [Cv 20 7,Co 21 (.kE 1 false 20)] (jC 21 (jr [Cv 22 8,Cv 6 22]) .skip)) (.seq (jQ [Cv 23 1,jn 24 0 23,jK 25 .gtr 24 65536] (jC 25 (jr [jb 6 true]) .skip)) (jQ [Cv 27 7,Cv 28 1,Cv 29 2,Co 30 (.kr XJ 27 28 29),Cv 26 30,jx 31 0 26,jx 32 1 26,jx 33 2 26,Cv 9 31,Cv 10 32,Cv 11 33] (jQ [JL 34 1 3,Cv 35 1,Co 36 (.Sl JC [(.t 34),(.t 35),(.c (.int .i64 0))]),Cv 12 36] (jr [Cv 37 11,Cv 38 37,jT 39 38 (.km 9),jT 40 38 (.km 12),jT 41 38 (.kq Mt 39 40),ja 42 38 41,Cv 43 42,jT 44 43 (.km 10),jT 45 43 (.km 12),jT 46 43 (.kn 0 45),jT 47 43 (.kB .leq 44 46),ja 48 43 47,Cv 49 48,jT 50 49 (.km 10),jT 51 49 (.km 12),jT 52 49 (.kn 0 51),jT 53 49 (.kB .eql 50 52),jT 54 49 (.km 53),jF 55 54 (.km 10),jF 56 54 (.km 12),jF 57 54 (.kn 0 56),jF 58 54 (.kK .sub 57 1),jF 59 54 (.kB .eql 55 58),jF 60 54 (.km 59),jT 61 60 (.km 12),jT 62 60 (.km 10),jT 63 60 (.ki 5 61 62),jT 64 60 (.kf 0 63),jT 65 60 (.kl 1 64),jT 66 60 (.kK .eql 65 3),jF 67 54 (.ka 60 66),jT 68 49 (.ko 54 67),ja 69 49 68,Cv 6 69]))))))))⟩
theorem iaf:Hb P fo 10 oA:=fM Go.Proofs.Tryz.func10 (dC lan (dC man (dC kan (dC Dan (dC UN dN)))))
def FC:List PV->Option PV:=oc (fun _=>none) oA
theorem jan:Nb P 10 FC:=Jc Rc iaf
def Tb:Int->List (Int×Int)->Int
 |n,[]=>n
 |n,p::r=>Tb (n+(p.2 - p.1+1)) r
abbrev cE(v:PV)(len i n:Int):Tr:=(((Tr.lf.set 8 (.pv (aa i))).set 7 (.pv (aa len))).set 6 (.pv v)).set 3 (.pv (aa n))
theorem Daq(v:PV)(l:List (Int×Int))(hv:Pb 2 v (Pa l))(hw:l.length<=maxLen){top:Int}(ht:top<=4611686018427387900)(oe:Ub top (-2) l=true):oK [v]=some (aa (Tb 0 l)):=by
 have ls:=hv.len
 simp only[Pa,wb] at ls;have key:=We (g:=Be (La (fun _=>none) 8) [3,6,7,8] QG 0)
  (fun i t=>∃ n last,t=⟨cE v l.length i n,[]⟩/\Tb 0 l=Tb n (l.drop i)/\Ub top last (l.drop i)=true/\0<=n/\n<=max 0 (last+1)/\last<=top)
  (Q:=fun r=>∃ E H,r=(.exit 0,⟨E,H⟩)/\E.get 3= .pv (aa (Tb 0 l)))
  l.length (by unfold Ga;unfold maxLen at hw;omega) ⟨cE v l.length (0:Nat) 0,[]⟩ ?_ ?_ ?_
 ·obtain⟨⟨ex,t⟩,h,_,E,H,he,hE⟩:=wg key
  cases he;have h':Mb (Aa (ua (La (fun _=>none) 8) QG) (ta 0 [3,6,7,8])) Ga ⟨cE v l.length 0 0,[]⟩=some (.exit 0,⟨E,H⟩):=h;simp only[cE] at h';simp -implicitDefEqProofs only[oK,SP,SA,SQ,WP,WQ,sevalprocAttr,qQ,ls,Oc,h',hE]
 ·refine⟨0,min (-2) top,rfl,rfl,?_,by omega,by omega,by omega⟩
  have mono:∀ {a b:Int}{r:List (Int×Int)},a<=b->Ub top b r=true->Ub top a r=true:=by
   intro a b r Hm h;cases r with
   |nil=>rfl
   |cons p r=>obtain⟨h1,h2,h3,h4,h5⟩:=ik h;simp only[Ub,h5,wz,Lo,IF,decide_eq_false_iff_not];exact⟨⟨⟨h1,h2⟩,h3⟩,by omega⟩
  exact mono (by omega) oe
 ·rintro i t hi ⟨n,last,rfl,hr,nj,xo,xB,Ay⟩
  have hv:=hv.lit (i:=i) (by simpa using hi)
  subst hv;have hd:l.drop i=l[i]::l.drop (i+1):=Hh hi
  rw[hd] at hr nj;obtain⟨h1,h2,h3,h4,h5⟩:=ik nj;rw[Tb] at hr;have t2:=ee hi hw;have hg:=Hw hi;have hl:(Pa l).length=l.length:=by simp
  generalize l[i]=p at *;have t3:IntKind.i64.wrap (p.2 - p.1)=p.2 - p.1:=Gb (by omega)
  have t4:IntKind.i64.wrap (p.2 - p.1+1)=p.2 - p.1+1:=Gb (by omega)
  have t5:IntKind.i64.wrap (n+(p.2 - p.1+1))=n+(p.2 - p.1+1):=Gb (by omega)
  generalize xn:Pa l=es at *;generalize hQ:LN _ _ i=Q;simp -implicitDefEqProofs only[SP,SA,SQ,WP,WQ,sevalprocAttr,QG,hi,hl,t2,t3,t4,t5,hg,cE];subst hQ;exact⟨_,p.2,rfl,hr,h5,by omega,by omega,by omega⟩
 ·rintro t ⟨n,last,rfl,hr,_⟩
  rw[Zh,Tb] at hr;have e1:decide (l.length < l.length)=false:=Ra (by omega);generalize hQ:(fun r:Ex×St=>r.1.stop=true/\_)=Q;simp -implicitDefEqProofs only[SP,SA,SQ,WP,WQ,sevalprocAttr,QG,e1,cE];subst hQ;exact⟨rfl,_,_,rfl,by rw[hr];rfl⟩
theorem _root_.Go.AM.So.Pd.cut{H:List fa}(h:So.Pd H):Ha (Fa H.length) H=some H:=So.gq fun o ho=>h _ (gb _) o ho
theorem dn(A:List fa)(o:fa):(A++[o])[A.length]? =some o:=by simp
theorem Uu(A:List fa)(o o':fa):(A++[o]).set A.length o'=A++[o']:=by
 rw[Po _ _ (gb _)];simp
theorem O0{A:List fa}(T:List fa){sz id n:Nat}{i:Int}{v:AV}(Ma:id < A.length)(h:Ua A sz (.own id n) i=some v):Ua (A++T) sz (.own id n) i=some v:=by
 simp only[Ua] at h ⊢;rw[Kc Ma];exact h
theorem Q2{A:List fa}(T:List fa){sz id:Nat}{ag:Bool}{m off:Nat}{v:AV}(Ma:id < A.length)(h:wa A ag sz (.Sb id m off)=some v):wa (A++T) ag sz (.Sb id m off)=some v:=by
 simp only[wa] at h ⊢;rw[Kc Ma];exact h
open Go.AM Go.AM.So
theorem gX{n:Nat}{E:Tr}:∀ {live:List Nat},(∀ t∈live,(E.get t).cut n deep=some (E.get t))->∃ E',Za n E live=some E'/\∀ t∈live,E'.get t=E.get t
 | [],_=>⟨.lf,rfl,by simp⟩
 |a::live,h=>by
  obtain⟨E',h1,h2⟩:=gX (live:=live) fun t ht=>h t (by simp[ht]);refine⟨E'.set a (E.get a),by rw[Za,h a (by simp),Lc,h1];rfl,fun t ht=> ?_⟩;rw[Tr.na]
  by_cases he:t=a
  ·rw[if_pos he,he]
  ·rw[qa he]
   rcases Ae.1 ht with h3 | h3
   ·exact absurd h3 he
   ·exact h2 t h3
theorem Dac{n:Nat}{live:List Nat}{E:Tr}{A T:List fa}(hn:A.length=n)(hA:∀ o∈A,Fa n o=some o)(hE:∀ t∈live,(E.get t).cut n deep=some (E.get t)):
 ∃ E',ta n live ⟨E,A++T⟩=some ⟨E',A⟩/\∀ t∈live,E'.get t=E.get t:=by
 obtain⟨E',h1,h2⟩:=gX hE;refine⟨E',?_,h2⟩;subst hn;simp only[ta,h1,Lc];rw[List.take_left' rfl,gq hA];rfl
def yg(n:Nat)(live:List Nat)(J:St->Prop)(s:St):Prop:=
 ∃ A T,s.H=A++T/\A.length=n/\(∀ o∈A,Fa n o=some o)/\(∀ t∈live,(s.env.get t).cut n deep=some (s.env.get t))/\∀ E',(∀ t∈live,E'.get t=s.env.get t)->J ⟨E',A⟩
theorem yg.ta{n:Nat}{live:List Nat}{J:St->Prop}{s:St}(h:yg n live J s):∃ s',ta n live s=some s'/\J s':=by
 obtain⟨A,T,h1,h2,h3,h4,h5⟩:=h;obtain⟨E,H⟩:=s;simp only at h1 h4 h5;subst h1;obtain⟨E',h6,h7⟩:=Dac (T:=T) h2 h3 h4;exact⟨_,h6,h5 E' h7⟩
def RQ(n:Nat)(live:List Nat)(J:St->Prop)(Q:Ex×St->Prop):Ex×St->Prop
 | (.norm,s)=>yg n live J s
 |r=>Q r
theorem Xr{n:Nat}{live:List Nat}{J:St->Prop}{Q:Ex×St->Prop}{s:St}:RQ n live J Q (.norm,s)=yg n live J s:=rfl
theorem dap{call:Ab}{b:Ya}{n:Nat}{live:List Nat}{I:Nat->St->Prop}{Q:Ex×St->Prop}{i:Nat}{s:St}(h:Ia (RQ n live (I (i+1)) Q) (ua call b s)):
 Ia (LN I Q i) (Aa (ua call b) (ta n live) s):=by
 rw[Aa,JJ];refine Bb h ?_;rintro⟨ex,t⟩ hr;cases ex with
 |norm=>
  obtain⟨s',h1,h2⟩:=yg.ta hr
  show Ia _ (Zj (Go.AM.ta n live t));rw[h1];exact h2
 |exit=>exact hr
 |ret=>exact hr
 |goto=>exact hr
theorem bap{call:Ab}{b:Ya}{cl:St->Option St}{Q:Ex×St->Prop}{s:St}(h:Ia (fun r=>r.1.stop=true/\Q r) (ua call b s)):
 Ia (fun r=>r.1.stop=true/\Q r) (Aa (ua call b) cl s):=by
 rw[Aa,JJ];refine Bb h ?_;rintro⟨ex,t⟩ ⟨h1,h2⟩;cases ex with
 |norm=>cases h1
 |exit=>exact⟨h1,h2⟩
 |ret=>exact⟨h1,h2⟩
 |goto=>exact⟨h1,h2⟩
theorem Bw{call:Ab}{b:Ya}{live:List Nat}{Q:Ex×St->Prop}{s:St}(I:Nat->St->Prop)(N:Nat)(hN:N < Ga)(h0:yg s.H.length live (I 0) s)
 (hs:∀ i t,i < N->I i t->Ia (RQ s.H.length live (I (i+1)) Q) (ua call b t)) (he:∀ t,I N t->Ia (fun r=>r.1.stop=true/\Q r) (ua call b t)):
 Ia (fun r=>r.1.stop=true/\Q r) (ua call (.loop live b) s):=by
 obtain⟨s',h1,h2⟩:=h0.ta
 rw[Oc,h1];exact We I N hN s' h2 (fun i t hi hI=>dap (hs i t hi hI)) (fun t hI=>bap (he t hI))
theorem V2{call:Ab}{b:Ya}{live:List Nat}{Q:Ex×St->Prop}{s:St}(I:Nat->St->Prop)(N:Nat)(hN:N < Ga)(h0:yg s.H.length live (I N) s)
 (hs:∀ k t,I k t->Ia (RQ s.H.length live (fun s'=>∃ j,j < k/\I j s') Q) (ua call b t)):
 Ia (fun r=>r.1.stop=true/\Q r) (ua call (.loop live b) s):=by
 obtain⟨s',h1,h2⟩:=h0.ta
 rw[Oc,h1];refine LB I Ga N s' hN h2 fun k t hI=> ?_;rw[Aa,JJ];refine Bb (hs k t hI) ?_;rintro⟨ex,t⟩ hr;cases ex with
 |norm=>
  obtain⟨s',h1,h2⟩:=yg.ta (J:=fun s'=>∃ j,j < k/\I j s') hr
  show Ia _ (Zj (Go.AM.ta _ live t));rw[h1];exact h2
 |exit=>exact hr
 |ret=>exact hr
 |goto=>exact hr
theorem yg.all{live:List Nat}{J:St->Prop}{E:Tr}{H:List fa}{n:Nat}(hn:n=H.length)(h1:∀ o∈H,Fa n o=some o)(h2:∀ t∈live,(E.get t).cut n deep=some (E.get t))(h3:∀ E',(∀ t∈live,E'.get t=E.get t)->J ⟨E',H⟩):yg n live J ⟨E,H⟩:=
 ⟨H,[],by simp,hn.symm,h1,h2,h3⟩
theorem yg.front{live:List Nat}{J:St->Prop}{E:Tr}{A T:List fa}{n:Nat}(hn:n=A.length)(h1:∀ o∈A,Fa n o=some o)(h2:∀ t∈live,(E.get t).cut n deep=some (E.get t))(h3:∀ E',(∀ t∈live,E'.get t=E.get t)->J ⟨E',A⟩):yg n live J ⟨E,A++T⟩:=
 ⟨A,T,rfl,hn.symm,h1,h2,h3⟩
theorem GA{n d id off:Nat}(h:id < n):AV.cut n d (.ptr id off)=some (.ptr id off):=by
 cases d <;> simp[AV.cut,h]
theorem iX{n d id len:Nat}(h:id < n):AV.cut n d (.own id len)=some (.own id len):=by
 cases d <;> simp[AV.cut,h]
theorem oH{n d id sz:Nat}{nl:Bool}{es:List PV}(h:id < n):AV.cut n d (.uq id nl sz es)=some (.uq id nl sz es):=by
 cases d <;> simp[AV.cut,h]
theorem CA(n:Nat)(cs:List PV):Fa n (.box (cs.map .pv))=some (.box (cs.map .pv)):=by
 have:Ha (AV.cut n deep) (cs.map .pv)=some (cs.map .pv):=gq fun a ha=>by
  obtain⟨p,_,rfl⟩:=Re.1 ha
  exact bc
 simp[Fa,this]
def Bc(l:List Nat)(E E':Tr):Prop:=∀ t∈l,E'.get t=E.get t
theorem Bc.refl(l:List Nat)(E:Tr):Bc l E E:=fun _ _=>rfl
theorem Bc.trans{l:List Nat}{E E' Oi:Tr}(h1:Bc l E E')(h2:Bc l E' Oi):Bc l E Oi:=fun t ht=>(h2 t ht).trans (h1 t ht)
theorem Bc.sub{l l':List Nat}{E E':Tr}(h:Bc l E E')(hs:l'.all l.contains=true):Bc l' E E':=fun t ht=>h t (by
 have:=Df.1 hs t ht
 simpa using this)
theorem Bc.set{l:List Nat}{E E':Tr}{k:Nat}{v:AV}(h:Bc l E E')(hk:l.contains k=false):Bc l E (E'.set k v):=fun t ht=>by
 have:t≠k:=by
  rintro rfl;have:l.contains t=true:=by simpa using ht
  rw[hk] at this;cases this
 rw[Tr.na,qa this];exact h t ht
def Fit(n:Nat)(l:List Nat)(E:Tr):Prop:=∀ t∈l,(E.get t).cut n deep=some (E.get t)
theorem Fit.nil(n:Nat)(E:Tr):Fit n [] E:=fun _ h=>by cases h
theorem Fit.cons{n t:Nat}{l:List Nat}{E:Tr}{v:AV}(h:E.get t=v)(hv:v.cut n deep=some v)(hl:Fit n l E):Fit n (t::l) E:=fun u hu=>by
 rcases Ae.1 hu with rfl | hu
 ·rw[h];exact hv
 ·exact hl u hu
theorem Fit.qc{n:Nat}{l:List Nat}{E E':Tr}(h:Fit n l E)(hk:Bc l E E'):Fit n l E':=fun t ht=>by rw[hk t ht];exact h t ht
theorem Fit.sub{n:Nat}{l l':List Nat}{E:Tr}(h:Fit n l E)(hs:l'.all l.contains=true):Fit n l' E:=fun t ht=>h t (by
 have:=Df.1 hs t ht
 simpa using this)
def Has(E:Tr):List (Nat×AV)->Prop
 | []=>True
 | (k,v)::l=>E.get k=v/\Has E l
theorem Has.mem{E:Tr}{p:Nat×AV}:∀ {l:List (Nat×AV)},Has E l->p∈l->E.get p.1=p.2
 |q::l,h,hm=>by
  rcases Ae.1 hm with rfl | hm
  ·exact h.1
  ·exact Has.mem h.2 hm
theorem Has.move{E E':Tr}:∀ {l:List (Nat×AV)},Has E l->(∀ t∈l.map (·.1),E'.get t=E.get t)->Has E' l
 | [],_,_=>trivial
 |q::l,h,hk=>⟨(hk _ (by simp)).trans h.1,Has.move h.2 fun t ht=>hk t (by simp at ht ⊢;exact .inr ht)⟩
def Er(n:Nat):fa->Bool
 | .box cells=>cells.all (AV.qc n deep)
 | .seq _ _ cells _ _=>cells.all (AV.qc n deep)
 |_=>true
theorem QB{n:Nat}{o:fa}(h:Er n o=true):Fa n o=some o:=by
 cases o with
 |box cells=>simp only[Er] at h;simp only[Fa,Y1 h];rfl
 |seq sz ag cells fl nl=>simp only[Er] at h;simp only[Fa,h];rfl
 |tok=>rfl
 |map=>rfl
 |dead=>rfl
theorem fm{n d:Nat}(p:PV):AV.qc n d (.pv p)=true:=by cases d <;> rfl
theorem tw{n d id off:Nat}(h:id < n):AV.qc n d (.ptr id off)=true:=by cases d <;> simp[AV.qc,h]
theorem WE{n d id sz:Nat}{nl:Bool}{es:List PV}(h:id < n):AV.qc n d (.uq id nl sz es)=true:=by cases d <;> simp[AV.qc,h]
theorem NN(n:Nat)(cs:List PV):Er n (.box (cs.map .pv))=true:=by
 simp only[Er,List.all_map,Df];exact fun p _=>fm p
theorem Gw{n:Nat}{H:List fa}(h:H.all (Er n)=true):∀ o∈H,Fa n o=some o:=fun o ho=>QB (Df.1 h o ho)
def RH{σ:Type}(L:σ->List (Nat×AV))(Hp:σ->List fa)(P:σ->Prop)(Q:Ex×St->Prop):Ex×St->Prop
 | (.norm,s)=>∃ x T,Has s.env (L x)/\s.H=Hp x++T/\P x
 |r=>Q r
section
variable {σ:Type}{call:Ab}{b:Ya}{live:List Nat}{Q:Ex×St->Prop}{E0:Tr}{H0:List fa}
 (L:σ->List (Nat×AV)) (Hp:σ->List fa) (hk:∀ x,(L x).map (·.1)=live)
theorem UL{n:Nat}{P:σ->Prop}{s:St}(hk:∀ x,(L x).map (·.1)=live)(hc:∀ x,P x->(L x).all (fun p=>AV.qc n deep p.2)=true/\(∀ o∈Hp x,Fa n o=some o)/\(Hp x).length=n)(h:∃ x T,Has s.env (L x)/\s.H=Hp x++T/\P x):
 yg n live (fun t=>∃ x,Has t.env (L x)/\t.H=Hp x/\P x) s:=by
 obtain⟨x,T,h1,h2,h3⟩:=h;obtain⟨c1,c2,c3⟩:=hc x h3;refine⟨Hp x,T,h2,c3,c2,fun t ht=> ?_,fun E' hE=>⟨x,h1.move fun t ht=>hE t (by rw[<- hk x];exact ht),rfl,h3⟩⟩;rw[<- hk x] at ht;obtain⟨p,hp,rfl⟩:=Re.1 ht
 rw[h1.mem hp];exact X1 _ (Df.1 c1 p hp)
theorem Aw(P:Nat->σ->Prop)(N:Nat)(hN:N < Ga)(hk:∀ x,(L x).map (·.1)=live)
 (hc:∀ i x,P i x->(L x).all (fun p=>AV.qc H0.length deep p.2)=true/\(∀ o∈Hp x,Fa H0.length o=some o)/\(Hp x).length=H0.length)
 (h0:∃ x,Has E0 (L x)/\H0=Hp x/\P 0 x)
 (hs:∀ i x E,i < N->P i x->Has E (L x)->Ia (RH L Hp (P (i+1)) Q) (ua call b ⟨E,Hp x⟩))
 (he:∀ x E,P N x->Has E (L x)->Ia (fun r=>r.1.stop=true/\Q r) (ua call b ⟨E,Hp x⟩)):
 Ia (fun r=>r.1.stop=true/\Q r) (ua call (.loop live b) ⟨E0,H0⟩):=by
 obtain⟨x0,a1,a2,a3⟩:=h0;refine Bw (fun i t=>∃ x,Has t.env (L x)/\t.H=Hp x/\P i x) N hN (UL L Hp hk (hc 0) ⟨x0,[],a1,by rw[yi];exact a2,a3⟩) ?_ ?_
 ·rintro i ⟨E,H⟩ hi ⟨x,h1,h2,h3⟩
  simp only at h2;subst h2;refine Bb (hs i x E hi h3 h1) ?_;rintro⟨ex,s⟩ hr;cases ex with
  |norm=>exact UL L Hp hk (hc (i+1)) hr
  |exit=>exact hr
  |ret=>exact hr
  |goto=>exact hr
 ·rintro⟨E,H⟩ ⟨x,h1,h2,h3⟩
  simp only at h2;subst h2;exact he x E h3 h1
theorem Eal(P:σ->Prop)(μ:σ->Nat)(N:Nat)(hN:N < Ga)(hk:∀ x,(L x).map (·.1)=live)
 (hc:∀ x,P x->(L x).all (fun p=>AV.qc H0.length deep p.2)=true/\(∀ o∈Hp x,Fa H0.length o=some o)/\(Hp x).length=H0.length)
 (h0:∃ x,Has E0 (L x)/\H0=Hp x/\P x/\μ x<=N)
 (hs:∀ x E,P x->Has E (L x)->Ia (RH L Hp (fun y=>P y/\μ y < μ x) Q) (ua call b ⟨E,Hp x⟩)):
 Ia (fun r=>r.1.stop=true/\Q r) (ua call (.loop live b) ⟨E0,H0⟩):=by
 obtain⟨x0,a1,a2,a3,a4⟩:=h0;refine V2 (fun k t=>∃ x,Has t.env (L x)/\t.H=Hp x/\(P x/\μ x<=k)) N hN ?_ ?_
 ·exact UL L Hp hk (fun x h=>hc x h.1) ⟨x0,[],a1,by rw[yi];exact a2,a3,a4⟩
 ·rintro k ⟨E,H⟩ ⟨x,h1,h2,h3,h4⟩
  simp only at h2;subst h2;refine Bb (hs x E h3 h1) ?_;rintro⟨ex,s⟩ hr;cases ex with
  |norm=>
   obtain⟨y,T,r1,r2,r3,r4⟩:=hr;obtain⟨A,T',e1,e2,e3,e4,e5⟩:=UL L Hp (P:=fun z=>P z/\μ z < μ x) hk (fun z h=>hc z h.1) ⟨y,T,r1,r2,r3,r4⟩;exact⟨A,T',e1,e2,e3,e4,fun E' hE=>by obtain⟨z,z1,z2,z3,z4⟩:=e5 E' hE;exact⟨μ z,by omega,z,z1,z2,z3,gb _⟩⟩
  |exit=>exact hr
  |ret=>exact hr
  |goto=>exact hr
end
end Go.AM.B1
