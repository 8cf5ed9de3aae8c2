/- What functions of the program compute. -/
import Derived.Test.YtdglpnpkgngcdaaGreatQ2
import Derived.Test.YtdglpnpkgngcdaaGreatQ1
import Derived.Test.YtdglpnpkgngcdaaGreatG3
set_option linter.unusedVariables false
namespace Go.AM.B1
open Go.AM
def cp:Hf:=⟨1,[.tmp 2],(jQ [jb 2 false] (jr [Cv 3 0,Cv 4 0,jB 5 .neq 3 4,Cv 2 5]))⟩
theorem dA:vc P fo 107 cp:=fM Go.Proofs.Tryz.func107 dN
def Sj:=Xb (fun _=>none) cp
theorem ov:Ma P 107 Sj:=Ja Sa dA
def Ii:Hf:=⟨2,[.tmp 4],(jQ [jk 4 0] (jQ [Cv 7 0,jp 8 Sj 7,Cv 5 8] (jQ [Cv 9 1,jp 10 Sj 9,Cv 6 10] (.seq (jQ [Cv 11 5] (jC 11 (.seq (jQ [Cv 12 6] (jC 12 (jr [jk 4 0]) .skip)) (jr [jk 4 (-1)])) .skip)) (.seq (jQ [Cv 13 6] (jC 13 (jr [jk 4 1]) .skip)) (.seq (jQ [Cv 14 0,Cv 15 1,jB 16 .lss 14 15] (jC 16 (jr [jk 4 (-1)]) .skip)) (.seq (jQ [Cv 17 0,Cv 18 1,jB 19 .gtr 17 18] (jC 19 (jr [jk 4 1]) .skip)) (jr [jk 4 0]))))))))⟩
theorem Py:vc P fo 70 Ii:=fM Go.Proofs.Tryz.func70 (dC ov (dC ov dN))
def mh:=Xb (fun _=>none) Ii
theorem Uy:Ma P 70 mh:=Ja Sa Py
def Lg:Hf:=⟨3,[.tmp 5],(jQ [jb 5 false] (jr [Cv 6 0,Cv 7 1,jB 8 .lss 6 7,Cv 9 8,jT 10 9 (.kf 0 2),jT 11 9 (.kl 1 10),jT 12 9 (.km 0),JT 13 9 (.ki 2 11 12),jT 14 9 (.kf 0 13),jT 15 9 (.kl 1 14),JT 16 9 (.kn 0 15),jT 17 9 (.kf 0 2),jT 18 9 (.kl 1 17),jT 19 9 (.km 1),JT 20 9 (.ki 2 18 19),jT 21 9 (.kf 0 20),jT 22 9 (.kl 1 21),JT 23 9 (.kn 0 22),jT 24 9 (.kB .eql 16 23),ja 25 9 24,Cv 5 25]))⟩
theorem bz:vc P fo 100 Lg:=fM Go.Proofs.Tryz.func100 dN
def qq:Hf:=⟨1,[.cell 2 true 3,.tmp 3],(jQ [Co 1 (.box 1 (.t 0)),Co 2 (.alloc [(.bool false),(.int .i64 0),(.int .i64 0)]),jk 3 0] (jr [jL 4 1 1,Co 5 (.zH 37 [(.t 1)]),Co 6 (.Nj 25 [(.t 4),(.t 5)]),jx 7 0 6,jx 8 1 6,jS 3 2 7,Cv 3 8]))⟩
theorem qC:vc P fo 64 qq:=fM Go.Proofs.Tryz.func64 dN
def pj:Nat→Option Hf
 |37=>some Lg
 |25=>some jg
 |_=>none
theorem AA:Vl P fo pj:=by
 intro ix af h
 unfold pj at h
 split at h
 ·injection h with h;subst h;exact bz
 ·injection h with h;subst h;exact jv
 ·cases h
def ch:=Xb pj qq
theorem xE:Ma P 64 ch:=Ja AA qC
def Iu:Hf:=⟨2,[.tmp 4],(jQ [jR 2 1 0,jR 3 1 1,jc 4 .Ew] (jr [Co 5 (.zH 35 [(.t 2),(.t 3)]),Cv 4 5]))⟩
theorem QK:vc P fo 135 Iu:=fM Go.Proofs.Tryz.func135 dN
def om:Hf:=⟨2,[.tmp 4],(jQ [jc 4 .Ew] (jr [Cv 5 0,jp 6 ah 5,Cv 7 1,Co 8 (.Nj 38 [(.t 6),(.t 7)]),Cv 4 8]))⟩
theorem iI:vc P fo 104 om:=fM Go.Proofs.Tryz.func104 (dC bo dN)
def Rk:Na:=(.block 3 (jQ [jl 41 1 6,jl 42 1 6,jz 43 42,jf 44 0 43,jl 45 1 44,Cv 46 7,Co 47 (.conv .u8 (.t 46)),Co 48 (.Yb .lit 1 false 1 [(.int .u8 0)] [(0,(.t 47))]),Co 49 (.ku 1 false 1 45 48),jz 50 41,jf 51 0 50,jS 1 51 49] (.region [jl 52 1 6,Cv 53 7,jl 54 1 6,jz 55 54,jf 56 0 55,jl 57 1 56,jn 58 0 57,Co 59 (.conv .u16 (.t 58)),jz 60 52,jf 61 1 60,Co 62 (.kA 256 1 61 53),jS 1 62 59])))
def Nk:Na:=(.seq (jQ [Cv 20 5,jK 21 .geq 20 0] (jX 21 0)) (.seq (.block 1 (jQ [Cv 24 3,jz 25 24,jf 26 0 25,jl 27 1 26,Cv 28 5,ji 29 258 27 28,Co 6 (.alloc [.Mi]),jS 1 6 29] (jQ [jl 30 1 6,Cv 31 4,jz 32 30,jf 33 257 32,jS 1 33 31] (.seq (jQ [Jf 34 0 1,Jl 35 1 34,Cv 36 5,ji 37 1 35 36,jl 38 1 37,Co 39 (.Nj 39 [(.t 38),(.c (.int .i64 0))])] (.block 2 (.range 35 Tk (.t 39) [40] [(7,40)] Rk))) (.region [Cv 63 4,jl 64 1 6,jz 65 64,jf 66 0 65,jl 67 1 66,jn 68 0 67,jB 69 .mul 63 68,Cv 4 69]))))) (.region [Cv 22 5,jK 23 .sub 22 1,Cv 5 23])))
def lr:Hf:=⟨1,[.tmp 2],(jQ [jR 1 2 0,jc 2 .Mi] (jQ [Jf 8 0 1,Jl 9 1 8,jn 10 0 9,Co 11 (.Tg .own 258 true ([.pa]++List.replicate 256 (.int .u16 0)++[(.int .i64 0)]) 544 (.t 10) (.t 10)),Co 12 (.build [.pa] [(0,1,(.t 11))]),Co 13 (.box 1 (.t 12)),Cv 3 13] (jQ [jk 4 1] (.seq (jQ [Cv 14 3,jz 15 14,jf 16 0 15,jl 17 1 16,jn 18 0 17,jK 19 .sub 18 1,Cv 5 19] (.block 0 (.tp [1,2,3,4,5] Nk))) (jr [Cv 70 3,Cv 2 70])))))⟩
theorem QH:∀ d∈Kf lr.body,js P (fo d.1) d.2:=by
 intro d hd
 obtain rfl:d=(35,Tk):=List.mem_singleton.1 hd
 exact Go.Proofs.yT
theorem MH:vc P fo 67 lr:=zY Go.Proofs.Tryz.func67 dN (QH)
def bh:Nat→Option Hf
 |39=>some om
 |38=>some Iu
 |_=>none
theorem lF:Vl P fo bh:=by
 intro ix af h
 unfold bh at h
 split at h
 ·injection h with h;subst h;exact iI
 ·injection h with h;subst h;exact QK
 ·cases h
def er:=Xb bh lr
theorem RK:Ma P 67 er:=Ja lF MH
def fi:Na:=(jQ [jB 49 .lss 48 47] (.seq (jX 49 0) (.seq (.block 1 (jQ [Cv 50 48,ji 51 2 46 48,jL 52 2 51,Co 10 (.alloc [.pa,(.int .i64 0)]),Cv 9 50,jS 2 10 52] (jQ [Cv 53 8,Cv 54 8,jz 55 54,jf 56 4 55,jl 57 1 56,jf 58 1 10,jl 59 1 58,jf 60 1 10,jl 61 1 60,jL 62 2 10,jp 63 Ln 62,jB 64 .add 61 63,jK 65 .sub 64 1,Cv 66 9,Co 67 (.build [(.int .i64 0),(.int .i64 0),(.int .i64 0)] [(0,1,(.t 59)),(1,1,(.t 65)),(2,1,(.t 66))]),Co 68 (.Yb .lit 3 true 1 [(.int .i64 0),(.int .i64 0),(.int .i64 0)] [(0,(.t 67))]),Co 69 (.append true .own 3 true 24 (.t 57) (.t 68)),jz 70 53,jf 71 4 70,jS 1 71 69] (jQ [Cv 72 8,Cv 73 8,jz 74 73,jf 75 5 74,jl 76 1 75,jf 77 0 10,jl 78 1 77,jn 79 0 78,Co 80 (.mx [(.t 76),(.t 79)]),jz 81 72,jf 82 5 81,jS 1 82 80] (.region [Cv 83 8,Cv 84 8,jz 85 84,jf 86 3 85,jl 87 1 86,jL 88 2 10,jp 89 er 88,Co 90 (.Yb .lit 1 false 1 [.Mi] [(0,(.t 89))]),Co 91 (.ku 1 false 8 87 90),jz 92 83,jf 93 3 92,jS 1 93 91]))))) (.region [jK 94 .add 48 1,Cv 48 94]))))
def xj:Na:=(jQ [jK 109 .lss 108 256] (.seq (jX 109 4) (.seq (.block 5 (jQ [Cv 110 108,Cv 14 110] (.region [Cv 111 14,Co 112 (.kA 256 1 13 111),Ce (.store 1 (.t 112) (.c (.int .i8 (-2))))]))) (.region [jK 113 .add 108 1,Cv 108 113]))))
def Ij:Na:=(.seq (jQ [Cv 122 17,jf 123 1 16,jl 124 1 123,jB 125 .leq 122 124] (jX 125 8)) (.seq (.block 9 (.region [Cv 128 17,jf 129 2 16,jl 130 1 129,Co 131 (.conv .i8 (.t 130)),Co 132 (.kA 256 1 13 128),jS 1 132 131])) (.region [Cv 126 17,jK 127 .add 126 1,Cv 17 127])))
def Dj:Na:=(jQ [jB 117 .lss 116 115] (.seq (jX 117 6) (.seq (.block 7 (jQ [ji 118 3 114 116,jL 119 3 118,Co 16 (.alloc [(.int .i64 0),(.int .i64 0),(.int .i64 0)]),jS 3 16 119] (jQ [jf 120 0 16,jl 121 1 120,Cv 17 121] (.block 8 (.loop [8,13,16,17,101,102,103,114,115,116] Ij))))) (.region [jK 133 .add 116 1,Cv 116 133]))))
def qi:Na:=(jQ [jB 104 .lss 103 102] (.seq (jX 104 2) (.seq (.block 3 (jQ [ji 105 1 101 103,jl 106 1 105,Cv 12 106] (jQ [Co 107 (.build (List.replicate 256 (.int .i8 0)) []),Co 13 (.alloc (List.replicate 256 (.int .i8 0))),jS 256 13 107] (.seq (jQ [jk 108 0] (.block 4 (.loop [8,12,13,101,102,103,108] xj))) (.seq (jQ [Cv 114 12,jn 115 0 114,jk 116 0] (.block 6 (.loop [8,13,101,102,103,114,115,116] Dj))) (.region [Cv 134 8,Cv 135 8,jz 136 135,jf 137 2 136,jl 138 1 137,jL 139 256 13,Co 140 (.Yb .lit 256 true 1 (List.replicate 256 (.int .i8 0)) [(0,(.t 139))]),Co 141 (.ku 256 true 256 138 140),jz 142 134,jf 143 2 142,jS 1 143 141])))))) (.region [jK 144 .add 103 1,Cv 103 144]))))
def Ei:Hf:=⟨1,[.tmp 2,.tmp 3],(jQ [jR 1 1 0,jc 2 .Mi,jk 3 0] (jQ [JL 19 1 1,jp 20 Ec 19,Cv 18 20,jx 21 0 18,jx 22 1 18,Co 4 (.alloc [.pa]),jS 1 4 21,Cv 5 22] (.seq (jQ [Cv 23 5,jK 24 .eql 23 0,Cv 25 24,jF 26 25 (.km 5),jF 27 25 (.kK .eql 26 130),jo 28 25 27] (jC 28 (jQ [JL 30 1 1,jp 31 ch 30,Cv 29 31,jx 32 0 29,jx 33 1 29,Co 6 (.alloc [(.bool false),(.int .i64 0),(.int .i64 0)]),jS 3 6 32,Cv 7 33] (jQ [jf 34 0 6,jl 35 1 34,jt 36 35] (jC 36 (.region [jk 5 111]) .skip))) .skip)) (.seq (jQ [Cv 37 5,jK 38 .neq 37 0] (jC 38 (jr [Cv 39 5,jc 2 .Mi,Cv 3 39]) .skip)) (jQ [JL 40 1 1,jp 41 Ui 40,jL 42 1 4,Co 43 (.build [.pa,.pa,.pa,.pa,.pa,(.int .i64 0)] [(0,1,(.t 41)),(1,1,(.t 42))]),Co 44 (.box 6 (.t 43)),Cv 8 44] (.ghost (.Cz 8 2 256) (.ghost (.Cz 8 3 1) (.ghost (.DI 8 4 3 true) (.seq (jQ [Jf 45 0 1,Jl 46 1 45,jn 47 0 46,jk 48 0] (.block 0 (.loop [4,8,46,47,48] fi))) (jQ [Cv 95 8,jz 96 95,jf 97 4 96,jl 98 1 97,Co 99 (.Nj 34 [(.t 98),(.f 36)])] (.seq (jQ [jf 100 0 4,jl 101 1 100,jn 102 0 101,jk 103 0] (.block 2 (.loop [8,101,102,103] qi))) (jr [Cv 145 8,Cv 2 145,jk 3 0]))))))))))))⟩
theorem aB:vc P fo 16 Ei:=fM Go.Proofs.Tryz.func16 (dC wI (dC xE (dC Ux (dC gF (dC RK dN)))))
def Vq:Za:=fun ix args H=>if ix=34 then rz 3 0 36 args H else none
def Eb:=XB Vq (fun _=>none) Ei
theorem kv:Ma P 16 Eb:=OI Sa (BK (fo:=fo) (s:=34) (g:=36) Go.Proofs.oW) aB
def wb:Na:=(.seq (jQ [Cv 15 9,Cv 16 10,jB 17 .lss 15 16] (jX 17 0)) (.block 1 (jQ [Cv 18 9,Cv 19 10,jB 20 .add 18 19,Co 21 (.conv .u64 (.t 20)),Co 22 (.bin .shr (.t 21) (.c (.int .u64 1))),Co 23 (.conv .i64 (.t 22)),Cv 11 23] (jQ [Cv 24 2,Cv 25 0,Cv 26 11,ji 27 3 25 26,jL 28 3 27,Cv 29 1,Co 30 (.EB (.t 24) [(.t 28),(.t 29)]),jK 31 .lss 30 0] (jC 31 (.region [Cv 32 11,jK 33 .add 32 1,Cv 9 33]) (.region [Cv 34 11,Cv 10 34]))))))
def Ta:Hf:=⟨3,[.tmp 6,.tmp 7],(jQ [jk 6 0,jb 7 false] (jQ [Cv 12 0,jn 13 0 12,Cv 8 13] (jQ [Cv 14 8,jk 9 0,Cv 10 14] (.seq (.block 0 (.loop [0,1,2,8,9,10] wb)) (jr [Cv 35 9,Cv 36 9,Cv 37 8,jB 38 .lss 36 37,Cv 39 38,jT 40 39 (.km 2),jT 41 39 (.km 0),jT 42 39 (.km 9),jT 43 39 (.ki 3 41 42),jT 44 39 (.kL 3 43),jT 45 39 (.km 1),jT 46 39 (.EB (.t 40) [(.t 44),(.t 45)]),jT 47 39 (.kK .eql 46 0),ja 48 39 47,Cv 6 35,Cv 7 48])))))⟩
theorem Wi:vc P fo 113 Ta:=fM Go.Proofs.Tryz.func113 dN
def yh:Hf:=⟨2,[.tmp 4],(jQ [jR 2 3 0,jk 4 0] (jr [Jf 5 0 2,Jl 6 1 5,Cv 7 1,jq 8 mh 6 7,Cv 4 8]))⟩
theorem mw:vc P fo 114 yh:=fM Go.Proofs.Tryz.func114 (dC Uy dN)
def og:Hf:=⟨2,[.cell 4 true 3,.tmp 5],(jQ [Co 4 (.alloc [(.int .i64 0),(.int .i64 0),(.int .i64 0)]),jb 5 false] (.seq (jQ [Cv 8 0,Co 9 (.kE 1 false 8)] (jC 9 (jr [Co 10 (.build [(.int .i64 0),(.int .i64 0),(.int .i64 0)] []),jS 3 4 10,jb 5 false]) .skip)) (jQ [Cv 12 0,jz 13 12,jf 14 4 13,jl 15 1 14,Cv 16 1,Co 17 (.Nj 40 [(.t 15),(.t 16),(.f 41)]),Cv 11 17,jx 18 0 11,jx 19 1 11,Cv 6 18,Cv 7 19] (.seq (jQ [Cv 20 7,jt 21 20] (jC 21 (.region [Cv 22 6,jK 23 .sub 22 1,Cv 6 23]) .skip)) (.seq (jQ [Cv 24 6,jK 25 .lss 24 0,Cv 26 25,jF 27 26 (.km 1),jF 28 26 (.km 0),jF 29 26 (.kz 28),jF 30 26 (.kf 4 29),jF 31 26 (.kl 1 30),jF 32 26 (.km 6),jF 33 26 (.ki 3 31 32),jF 34 26 (.kf 1 33),jF 35 26 (.kl 1 34),jF 36 26 (.kB .gtr 27 35),jo 37 26 36] (jC 37 (jr [Co 38 (.build [(.int .i64 0),(.int .i64 0),(.int .i64 0)] []),jS 3 4 38,jb 5 false]) .skip)) (jr [Cv 39 0,jz 40 39,jf 41 4 40,jl 42 1 41,Cv 43 6,ji 44 3 42 43,jL 45 3 44,jS 3 4 45,jb 5 true]))))))⟩
theorem Jy:vc P fo 78 og:=fM Go.Proofs.Tryz.func78 dN
def jd:Nat→Option Hf
 |40=>some Ta
 |41=>some yh
 |_=>none
theorem Kx:Vl P fo jd:=by
 intro ix af h
 unfold jd at h
 split at h
 ·injection h with h;subst h;exact Wi
 ·injection h with h;subst h;exact mw
 ·cases h
def Jd:=Xb jd og
theorem iz:Ma P 78 Jd:=Ja Kx Jy
def Ff:Na:=(jQ [jB 20 .lss 19 18] (.seq (jX 20 0) (.seq (.block 1 (jQ [Cv 21 19,Cv 6 21] (jQ [Cv 22 0,jz 23 22,jf 24 0 23,jl 25 1 24,Cv 26 6,ji 27 258 25 26,Cv 7 27] (jQ [Cv 28 5,Cv 29 7,jz 30 29,jf 31 0 30,jl 32 1 31,Cv 33 1,Cv 34 7,jz 35 34,jf 36 257 35,jl 37 1 36,jB 38 .quo 33 37,Ji 39 1 32 38,Jl 40 1 39,Co 41 (.Yb .lit 1 false 1 [(.int .u8 0)] [(0,(.t 40))]),Co 42 (.ku 1 false 1 28 41),Cv 5 42] (.region [Cv 43 1,Cv 44 7,jz 45 44,jf 46 257 45,jl 47 1 46,jB 48 .rem 43 47,Cv 1 48]))))) (.region [jK 49 .add 19 1,Cv 19 49]))))
def bk:Hf:=⟨2,[.tmp 4],(jQ [jc 4 .pa] (jQ [Cv 8 0,jz 9 8,jf 10 0 9,jl 11 1 10,jn 12 0 11,Co 13 (.Tg .uq 1 false [(.int .u8 0)] 1 (.c (.int .i64 0)) (.t 12)),Cv 5 13] (.seq (jQ [Cv 14 0,jz 15 14,jf 16 0 15,jl 17 1 16,jn 18 0 17,jk 19 0] (.block 0 (.loop [0,1,5,18,19] Ff))) (jr [Cv 50 5,Cv 4 50]))))⟩
theorem Wt:vc P fo 79 bk:=fM Go.Proofs.Tryz.func79 dN
def zi:=Xb (fun _=>none) bk
theorem uv:Ma P 79 zi:=Ja Sa Wt
def Ri:Hf:=⟨2,[.tmp 4,.tmp 5],(jQ [jc 4 .pa,jb 5 false] (jQ [Cv 9 0,Cv 10 1,jq 11 Jd 9 10,Cv 8 11,jx 12 0 8,jx 13 1 8,Co 6 (.alloc [(.int .i64 0),(.int .i64 0),(.int .i64 0)]),jS 3 6 12,Cv 7 13] (.seq (jQ [Cv 14 7,jt 15 14] (jC 15 (jr [jc 4 .pa,jb 5 false]) .skip)) (jr [Cv 16 0,jz 17 16,jf 18 3 17,jl 19 1 18,jf 20 2 6,jl 21 1 20,Ji 22 1 19 21,Jl 23 1 22,Cv 24 1,jf 25 0 6,jl 26 1 25,jB 27 .sub 24 26,jq 28 zi 23 27,Cv 4 28,jb 5 true]))))⟩
theorem Fv:vc P fo 22 Ri:=fM Go.Proofs.Tryz.func22 (dC iz (dC uv dN))
def Sd:=Xb (fun _=>none) Ri
theorem Jo:Ma P 22 Sd:=Ja Sa Fv
def Wd:Na:=(jQ [jB 23 .lss 22 21] (.seq (jX 23 0) (.seq (.block 1 (jQ [Cv 24 22,Cv 7 24] (jQ [Cv 25 0,jz 26 25,jf 27 0 26,jl 28 1 27,Cv 29 7,Cv 30 1,Cv 31 7,Ji 32 1 30 31,Jl 33 1 32,Ji 34 258 28 29,jf 35 1 34,Co 36 (.kA 256 1 35 33),jl 37 1 36,Cp 38 (.conv .i64 (.t 37)),Cv 8 38] (.seq (jQ [Cv 39 8,jK 40 .eql 39 0] (jC 40 (jr [jk 4 0,jb 5 false]) .skip)) (.region [Cv 41 6,Cv 42 8,jK 43 .sub 42 1,Cv 44 0,jz 45 44,jf 46 0 45,jl 47 1 46,Cv 48 7,ji 49 258 47 48,jf 50 257 49,jl 51 1 50,jB 52 .mul 43 51,jB 53 .add 41 52,Cv 6 53]))))) (.region [jK 54 .add 22 1,Cv 22 54]))))
def xh:Hf:=⟨2,[.tmp 4,.tmp 5],(jQ [jk 4 0,jb 5 false] (.seq (jQ [Cv 9 1,jn 10 0 9,Cv 11 0,jz 12 11,jf 13 0 12,jl 14 1 13,jn 15 0 14,jB 16 .neq 10 15] (jC 16 (jr [jk 4 0,jb 5 false]) .skip)) (jQ [jk 6 0] (.seq (jQ [Cv 17 0,jz 18 17,jf 19 0 18,jl 20 1 19,jn 21 0 20,jk 22 0] (.block 0 (.loop [0,1,6,21,22] Wd))) (jr [Cv 55 6,Cv 4 55,jb 5 true])))))⟩
theorem Gw:vc P fo 83 xh:=fM Go.Proofs.Tryz.func83 dN
def ff:=Xb (fun _=>none) xh
theorem Hx:Ma P 83 ff:=Ja Sa Gw
def Tf:Na:=(jQ [jB 18 .lss 17 16] (.seq (jX 18 0) (.seq (.block 1 (jQ [Cv 19 17,ji 20 1 15 17,jl 21 1 20,Cv 6 19,Cv 7 21] (jQ [Cv 23 7,Cv 24 1,jq 25 ff 23 24,Cv 22 25,jx 26 0 22,jx 27 1 22,Cv 8 26,Cv 9 27] (jQ [Cv 28 9] (jC 28 (jr [Cv 29 0,jz 30 29,jf 31 0 30,jf 32 0 31,jl 33 1 32,Cv 34 6,ji 35 2 33 34,jf 36 1 35,jl 37 1 36,Cv 38 8,jB 39 .add 37 38,Cv 4 39,jb 5 true]) .skip))))) (.region [jK 40 .add 17 1,Cv 17 40]))))
def Zk:Hf:=⟨2,[.tmp 4,.tmp 5],(jQ [jk 4 0,jb 5 false] (.seq (jQ [Cv 10 0,Co 11 (.kE 1 false 10)] (jC 11 (jr [jk 4 0,jb 5 false]) .skip)) (.seq (jQ [Cv 12 0,jz 13 12,jf 14 3 13,jl 15 1 14,jn 16 0 15,jk 17 0] (.block 0 (.loop [0,1,15,16,17] Tf))) (jr [jk 4 0,jb 5 false]))))⟩
theorem Dv:vc P fo 28 Zk:=fM Go.Proofs.Tryz.func28 (dC Hx dN)
def Yg:=Xb (fun _=>none) Zk
theorem Yn:Ma P 28 Yg:=Ja Sa Dv
def Ve:Hf:=⟨1,[.tmp 2],(jQ [jc 2 .pa] (.seq (jQ [Cv 3 0,Co 4 (.eq 2 false (.t 3) (.c .pa))] (jC 4 (jr [jc 2 .pa]) .skip)) (jr [Co 5 (.Yb .uq 3 true 0 [(.int .i64 0),(.int .i64 0),(.int .i64 0)] []),Cv 6 0,Co 7 (.ku 3 true 24 5 6),Cv 2 7])))⟩
theorem dn:vc P fo 80 Ve:=fM Go.Proofs.Tryz.func80 dN
def Bd:=Xb (fun _=>none) Ve
theorem Gn:Ma P 80 Bd:=Ja Sa dn
def cm:Hf:=⟨1,[.tmp 2],(jQ [jc 2 .pa] (.seq (jQ [Cv 3 0,Co 4 (.kE 1 false 3)] (jC 4 (jr [jc 2 .pa]) .skip)) (jr [Cv 5 0,jz 6 5,jf 7 4 6,jl 8 1 7,jp 9 Bd 8,Cv 2 9])))⟩
theorem Lx:vc P fo 23 cm:=fM Go.Proofs.Tryz.func23 (dC Gn dN)
def yj:=Xb (fun _=>none) cm
theorem yy:Ma P 23 yj:=Ja Sa Lx
def uk:Hf:=⟨1,[.tmp 2],(jQ [jk 2 0] (.seq (jQ [Cv 3 0,Co 4 (.kE 1 false 3)] (jC 4 (jr [jk 2 0]) .skip)) (jr [Cv 5 0,jz 6 5,jf 7 5 6,jl 8 1 7,Cv 2 8])))⟩
theorem qu:vc P fo 41 uk:=fM Go.Proofs.Tryz.func41 dN
def xi:=Xb (fun _=>none) uk
theorem Jv:Ma P 41 xi:=Ja Sa qu
def zj:Hf:=⟨0,[.tmp 0],(jQ [jb 0 false] (jQ [Co 9 (.build [(.int .i64 0),(.int .i64 0)] [(0,1,(.c (.int .i64 194))),(1,1,(.c (.int .i64 223)))]),Co 10 (.Yb .lit 2 true 1 [(.int .i64 0),(.int .i64 0)] [(0,(.t 9))]),Co 11 (.build [(.int .i64 0),(.int .i64 0)] [(0,1,(.c (.int .i64 128))),(1,1,(.c (.int .i64 191)))]),Co 12 (.Yb .lit 2 true 1 [(.int .i64 0),(.int .i64 0)] [(0,(.t 11))]),Co 13 (.Yb .lit 1 false 2 [.pa] [(0,(.t 10)),(1,(.t 12))]),Co 14 (.build [.pa,(.int .i64 0)] [(0,1,(.t 13)),(1,1,(.c (.int .i64 128)))]),Co 15 (.build [(.int .i64 0),(.int .i64 0)] [(0,1,(.c (.int .i64 0))),(1,1,(.c (.int .i64 127)))]),Co 16 (.Yb .lit 2 true 1 [(.int .i64 0),(.int .i64 0)] [(0,(.t 15))]),Co 17 (.Yb .lit 1 false 1 [.pa] [(0,(.t 16))]),Co 18 (.build [.pa,(.int .i64 0)] [(0,1,(.t 17))]),Co 19 (.Yb .lit 2 true 2 [.pa,(.int .i64 0)] [(0,(.t 14)),(1,(.t 18))]),Co 20 (.build [.pa] [(0,1,(.t 19))]),jp 21 Eb 20,Cv 8 21,jx 22 0 8,jx 23 1 8,Cv 1 22,Cv 2 23] (.seq (jQ [Cv 24 1,Co 25 (.kE 1 false 24),Cv 26 25,jF 27 26 (.km 2),jF 28 26 (.kK .neq 27 0),jo 29 26 28] (jC 29 (jr [jb 0 false]) .skip)) (jQ [Cv 31 1,Co 32 (.Ap Sd [(.t 31),(.c (.int .i64 233))]),Cv 30 32,jx 33 0 30,jx 34 1 30,Cv 3 33,Cv 4 34] (jQ [Cv 36 1,Co 37 (.Yb .uq 1 false 2 [(.int .u8 0)] [(0,(.c (.int .u8 195))),(1,(.c (.int .u8 169)))]),Co 38 (.TX (.t 37)),jq 39 Yg 36 38,Cv 35 39,jx 40 0 35,jx 41 1 35,Cv 5 40,Cv 6 41] (jQ [Cv 42 1,jp 43 yj 42,Cv 7 43] (jr [Cv 44 4,Cv 45 44,jT 46 45 (.km 3),jT 47 45 (.dV (.t 46)),⟨(some 48),.bin .eql (.t 47) (.c (.str ⟨#[195,169]⟩)),(some (45,true)),false⟩,ja 49 45 48,Cv 50 49,jT 51 50 (.km 6),ja 52 50 51,Cv 53 52,jT 54 53 (.km 5),jT 55 53 (.kK .eql 54 233),ja 56 53 55,Cv 57 56,jT 58 57 (.km 7),jT 59 57 (.kn 0 58),jT 60 57 (.kK .eql 59 2),ja 61 57 60,Cv 62 61,jT 63 62 (.km 7),jT 64 62 (.kj 3 63 0),jT 65 62 (.kL 3 64),jT 66 62 (.build [(.int .i64 0),(.int .i64 0),(.int .i64 0)] [(0,1,(.c (.int .i64 0))),(1,1,(.c (.int .i64 127))),(2,1,(.c (.int .i64 1)))]),jT 67 62 (.nU (.row [1,1,1]) false (.t 65) (.t 66)),ja 68 62 67,Cv 69 68,jT 70 69 (.km 7),jT 71 69 (.kj 3 70 1),jT 72 69 (.kL 3 71),jT 73 69 (.build [(.int .i64 0),(.int .i64 0),(.int .i64 0)] [(0,1,(.c (.int .i64 128))),(1,1,(.c (.int .i64 2047))),(2,1,(.c (.int .i64 0)))]),jT 74 69 (.nU (.row [1,1,1]) false (.t 72) (.t 73)),ja 75 69 74,Cv 76 75,jT 77 76 (.km 1),jT 78 76 (.kp xi 77),jT 79 76 (.kK .eql 78 2),ja 80 76 79,Cv 0 80])))))))⟩
theorem Xs:vc P fo 14 zj:=fM Go.Proofs.Tryz.func14 (dC kv (dC Jo (dC Yn (dC yy (dC Jv dN)))))
def Dh:=Xb (fun _=>none) zj
theorem Nu:Ma P 14 Dh:=Ja Sa Xs
def Kg:Hf:=⟨3,[.tmp 6,.tmp 7],(jQ [jk 6 0,jb 7 false] (.seq (jQ [Cv 8 0,Co 9 (.kE 1 false 8),Cv 10 9,jF 11 10 (.km 1),jF 12 10 (.kK .lss 11 0),jo 13 10 12,Cv 14 13,jF 15 14 (.km 1),jF 16 14 (.km 0),jF 17 14 (.kz 16),jF 18 14 (.kf 2 17),jF 19 14 (.kl 1 18),jF 20 14 (.kn 0 19),jF 21 14 (.kB .geq 15 20),jo 22 14 21,Cv 23 22,jF 24 23 (.km 0),jF 25 23 (.kz 24),jF 26 23 (.kf 2 25),jF 27 23 (.kl 1 26),jF 28 23 (.km 1),jF 29 23 (.km 2),jF 30 23 (.ki 256 27 28),jF 31 23 (.kA 256 1 30 29),jF 32 23 (.kl 1 31),jF 33 23 (.bin .eql (.t 32) (.c (.int .i8 (-2)))),jo 34 23 33] (jC 34 (jr [jk 6 0,jb 7 false]) .skip)) (jr [Cv 35 0,jz 36 35,jf 37 2 36,jl 38 1 37,Cv 39 1,Cv 40 2,ji 41 256 38 39,Co 42 (.kA 256 1 41 40),jl 43 1 42,Co 44 (.conv .i64 (.t 43)),Cv 6 44,jb 7 true])))⟩
theorem Cx:vc P fo 32 Kg:=fM Go.Proofs.Tryz.func32 dN
def Mc:=Xb (fun _=>none) Kg
theorem Lq:Ma P 32 Mc:=Ja Sa Cx
def Qe:Na:=(jQ [jB 14 .lss 13 12] (.seq (jX 14 0) (.seq (.block 1 (jQ [Cv 15 13,ji 16 1 11 13,jl 17 1 16,Cv 7 15,Cv 8 17] (jQ [Cv 19 0,Cv 20 6,Cv 21 8,Co 22 (.kr Mc 19 20 21),Cv 18 22,jx 23 0 18,jx 24 1 18,Cv 9 23,Cv 10 24] (.seq (.block 2 (jQ [Cv 26 10,jt 27 26,Cv 25 27] (jC 25 (jr [Cv 28 7,Cv 4 28,jk 5 3]) (jQ [Cv 30 9,jK 31 .eql 30 (-1),Cv 29 31] (jC 29 (jr [Cv 32 7,jK 33 .add 32 1,Cv 4 33,jk 5 1]) .skip))))) (.region [Cv 34 9,Cv 6 34]))))) (.region [jK 35 .add 13 1,Cv 13 35]))))
def Kl:Hf:=⟨2,[.tmp 4,.tmp 5],(jQ [jk 4 0,jk 5 0] (jQ [jk 6 0] (.seq (jQ [Cv 11 1,jn 12 0 11,jk 13 0] (.block 0 (.loop [0,1,6,11,12,13] Qe))) (jr [Cv 36 1,jn 37 0 36,Cv 4 37,jk 5 2]))))⟩
theorem Qv:vc P fo 30 Kl:=fM Go.Proofs.Tryz.func30 (dC Lq dN)
def th:=Xb (fun _=>none) Kl
theorem xx:Ma P 30 th:=Ja Sa Qv
end Go.AM.B1
namespace Go.AM.B1
open Go.AM
def Ad:Na:=(.seq (jQ [Cv 19 5,Cv 20 4,jB 21 .lss 19 20] (jX 21 2)) (.seq (.block 3 (jQ [Jf 24 0 1,Jl 25 1 24,Cv 26 4,ji 27 2 25 26,jf 28 0 27,jl 29 1 28,jn 30 0 29,Cv 6 30] (jQ [Cv 31 6,Jf 32 0 1,Jl 33 1 32,Cv 34 5,ji 35 2 33 34,jf 36 0 35,jl 37 1 36,jn 38 0 37,jB 39 .eql 31 38] (jC 39 (jQ [Jf 41 0 1,Jl 42 1 41,Cv 43 4,Ji 44 2 42 43,JL 45 2 44,Jf 46 0 1,Jl 47 1 46,Cv 48 5,Ji 49 2 47 48,JL 50 2 49,Cv 51 6,Co 52 (.kr De 45 50 51),Cv 40 52,jx 53 0 40,jx 54 1 40,Cv 7 53,Cv 8 54] (jQ [Cv 55 8] (jC 55 (jr [jb 2 false,jk 3 0]) .skip))) .skip)))) (.region [Cv 22 5,jK 23 .add 22 1,Cv 5 23])))
def kg:Na:=(.seq (jQ [Cv 12 4,Jf 13 0 1,Jl 14 1 13,jn 15 0 14,jB 16 .lss 12 15] (jX 16 0)) (.seq (.block 1 (jQ [jk 5 0] (.block 2 (.loop [1,4,5] Ad)))) (.region [Cv 17 4,jK 18 .add 17 1,Cv 4 18])))
def fj:Hf:=⟨1,[.tmp 2,.tmp 3],(jQ [jR 1 1 0,jb 2 false,jk 3 0] (.seq (jQ [JL 9 1 1,jp 10 Vd 9,jt 11 10] (jC 11 (jr [jb 2 false,jk 3 84]) .skip)) (.seq (jQ [jk 4 0] (.block 0 (.loop [1,4] kg))) (jr [jb 2 true,jk 3 0]))))⟩
theorem Ar:vc P fo 72 fj:=fM Go.Proofs.Tryz.func72 (dC Rm (dC rm dN))
def Ee:=Xb (fun _=>none) fj
theorem vt:Ma P 72 Ee:=Ja Sa Ar
def Sg:Hf:=⟨1,[.cell 2 true 1,.tmp 3],(jQ [jR 1 1 0,Co 2 (.alloc [.pa]),jk 3 0] (jQ [JL 9 1 1,jp 10 Ya 9,Cv 8 10,jx 11 0 8,jx 12 1 8,Co 4 (.alloc [.pa]),jS 1 4 11,Cv 5 12] (.seq (jQ [Cv 13 5,jK 14 .eql 13 84,Cv 15 14,jF 16 15 (.km 5),jF 17 15 (.kK .eql 16 110),jo 18 15 17] (jC 18 (jr [Co 19 (.build [.pa] []),Cv 20 5,jS 1 2 19,Cv 3 20]) .skip)) (jQ [JL 22 1 1,jp 23 Ee 22,Cv 21 23,jx 24 0 21,jx 25 1 21,Cv 6 24,Cv 7 25] (.seq (jQ [Cv 26 6,jt 27 26] (jC 27 (jr [Co 28 (.build [.pa] []),jS 1 2 28,jk 3 111]) .skip)) (jr [jL 29 1 4,Cv 30 5,jS 1 2 29,Cv 3 30]))))))⟩
theorem Pq:vc P fo 17 Sg:=fM Go.Proofs.Tryz.func17 (dC Uu (dC vt dN))
def qd:=Xb (fun _=>none) Sg
theorem Jr:Ma P 17 qd:=Ja Sa Pq
end Go.AM.B1
namespace Go.AM.B1
open Go.AM
def ie:Na:=(.seq (jQ [Cv 6 5,Jf 7 0 2,Jl 8 1 7,jn 9 0 8,jB 10 .lss 6 9] (jX 10 0)) (.seq (.block 1 (jQ [Cv 13 1,Jf 14 0 2,Jl 15 1 14,Cv 16 5,Ji 17 2 15 16,jf 18 1 17,jl 19 1 18,jB 20 .geq 13 19,Cv 21 20,jT 22 21 (.km 1),JT 23 21 (.kf 0 2),JT 24 21 (.kl 1 23),jT 25 21 (.km 5),JT 26 21 (.ki 2 24 25),jT 27 21 (.kf 1 26),jT 28 21 (.kl 1 27),JT 29 21 (.kf 0 2),JT 30 21 (.kl 1 29),jT 31 21 (.km 5),JT 32 21 (.ki 2 30 31),JT 33 21 (.kL 2 32),jT 34 21 (.kp od 33),jT 35 21 (.kB .add 28 34),jT 36 21 (.kK .sub 35 1),jT 37 21 (.kB .leq 22 36),ja 38 21 37] (jC 38 (jr [Cv 39 5,Cv 4 39]) .skip))) (.region [Cv 11 5,jK 12 .add 11 1,Cv 5 12])))
def lk:Hf:=⟨2,[.tmp 4],(jQ [jR 2 1 0,jk 4 0] (.seq (jQ [jk 5 0] (.block 0 (.loop [1,2,5] ie))) (jr [jk 4 (-1)])))⟩
theorem mu:vc P fo 81 lk:=fM Go.Proofs.Tryz.func81 (dC pg dN)
def tf:=Xb (fun _=>none) lk
theorem Av:Ma P 81 tf:=Ja Sa mu
def He:Na:=(.seq (jQ [Cv 11 8,jK 12 .leq 11 255] (jX 12 0)) (.seq (.block 1 (.seq (jQ [Cv 15 8,Co 16 (.kA 256 1 6 15),jl 17 1 16,Cv 18 17,jT 19 18 (.km 7),jT 20 18 (.km 1),jT 21 18 (.kB .eql 19 20),ja 22 18 21] (jC 22 (jr [Cv 23 8,Cv 4 23,jb 5 true]) .skip)) (jQ [Cv 24 8,Co 25 (.kA 256 1 6 24),jl 26 1 25] (jC 26 (.region [Cv 27 7,jK 28 .add 27 1,Cv 7 28]) .skip)))) (.region [Cv 13 8,jK 14 .add 13 1,Cv 8 14])))
def jj:Hf:=⟨2,[.tmp 4,.tmp 5],(jQ [jk 4 0,jb 5 false] (jQ [Cv 9 0,jp 10 pc 9,Co 6 (.alloc (List.replicate 256 (.bool false))),jS 256 6 10,jk 7 0] (.seq (jQ [jk 8 0] (.block 0 (.loop [1,6,7,8] He))) (jr [jk 4 0,jb 5 false]))))⟩
theorem Pr:vc P fo 117 jj:=fM Go.Proofs.Tryz.func117 (dC Ef dN)
def jh:=Xb (fun _=>none) jj
theorem ft:Ma P 117 jh:=Ja Sa Pr
def ug:Na:=(.seq (jQ [Cv 26 7,jK 27 .geq 26 0] (jX 27 0)) (.seq (.block 1 (jQ [Jf 30 0 2,Jl 31 1 30,Cv 32 7,ji 33 1 31 32,jl 34 1 33,jp 35 vf 34,Cv 8 35] (jQ [Jf 37 0 2,Jl 38 1 37,Cv 39 7,ji 40 1 38 39,jl 41 1 40,Cv 42 1,Cv 43 8,jB 44 .rem 42 43,jq 45 jh 41 44,Cv 36 45,jx 46 0 36,jx 47 1 36,Cv 9 46,Cv 10 47] (jQ [Cv 48 6,Cv 49 7,Cv 50 9,Co 51 (.conv .u8 (.t 50)),ji 52 1 48 49,jS 1 52 51] (.region [Cv 53 1,Cv 54 8,jB 55 .quo 53 54,Cv 1 55]))))) (.region [Cv 28 7,jK 29 .sub 28 1,Cv 7 29])))
def Sf:Hf:=⟨2,[.tmp 4,.tmp 5],(jQ [jR 2 2 0,jc 4 .pa,jb 5 false] (.seq (jQ [Cv 11 1,jK 12 .lss 11 0,Cv 13 12,jF 14 13 (.km 1),JF 15 13 (.kL 2 2),jF 16 13 (.kp Yd 15),jF 17 13 (.kB .geq 14 16),jo 18 13 17] (jC 18 (jr [jc 4 .pa,jb 5 false]) .skip)) (jQ [Jf 19 0 2,Jl 20 1 19,jn 21 0 20,Co 22 (.Tg .own 1 false [(.int .u8 0)] 1 (.t 21) (.t 21)),Cv 6 22] (.seq (jQ [Cv 23 6,jn 24 0 23,jK 25 .sub 24 1,Cv 7 25] (.block 0 (.loop [1,2,6,7] ug))) (jr [Cv 56 6,Cv 4 56,jb 5 true])))))⟩
theorem Mr:vc P fo 82 Sf:=fM Go.Proofs.Tryz.func82 (dC Gh (dC zk (dC ft dN)))
def ij:=Xb (fun _=>none) Sf
theorem pt:Ma P 82 ij:=Ja Sa Mr
def cj:Hf:=⟨2,[.tmp 4,.tmp 5],(jQ [jR 2 1 0,jc 4 .pa,jb 5 false] (jQ [JL 7 1 2,Cv 8 1,jq 9 tf 7 8,Cv 6 9] (.seq (jQ [Cv 10 6,jK 11 .lss 10 0] (jC 11 (jr [jc 4 .pa,jb 5 false]) .skip)) (jr [Jf 12 0 2,Jl 13 1 12,Cv 14 6,Ji 15 2 13 14,JL 16 2 15,Cv 17 1,Jf 18 0 2,Jl 19 1 18,Cv 20 6,Ji 21 2 19 20,jf 22 1 21,jl 23 1 22,jB 24 .sub 17 23,jq 25 ij 16 24,jx 26 0 25,jx 27 1 25,Cv 4 26,Cv 5 27]))))⟩
theorem zw:vc P fo 27 cj:=fM Go.Proofs.Tryz.func27 (dC Av (dC pt dN))
def Ah:=Xb (fun _=>none) cj
theorem Ix:Ma P 27 Ah:=Ja Sa zw
end Go.AM.B1
set_option linter.unusedSimpArgs false
namespace Go.AM.B1
open Go.AM Go.AM.So
theorem MK:sh=fc:=rfl
theorem iH:ph=fc:=rfl
theorem GJ:Ch=fc:=rfl
def pD (p:Int×Int):List PV:=[i64 p.1,i64 p.2]
def gf (l:List (Int×Int)):Array (List PV):=(l.map pD).toArray
def ZW (r:List PV):Prop:=∃ p,r=pD p
theorem ax (r:List PV) (h:ZW r):US 2 r:=by
 obtain⟨p,rfl⟩:=h
 exact⟨rfl,by intro c hc;simp[pD] at hc;rcases hc with rfl | rfl <;> rfl⟩
theorem xA (l:List (Int×Int)):∀ r∈(gf l).toList,ZW r:=by
 intro r hr
 simp[gf] at hr
 obtain⟨a,b,_,rfl⟩:=hr
 exact⟨(a,b),rfl⟩
theorem mo (l:List (Int×Int)):(gf l).size=l.length:=by simp[gf]
def ud (l:List (Int×Int)) (fl:Nat) (nl:Bool):ba:=Wg 2 (gf l) fl nl
theorem Fi (l:List (Int×Int)):(zh (gf l)).length=l.length * 2:=by
 rw[Kw fun r hr=>ax r (xA l r hr),mo]
theorem GB {A:List ba} {id n fl bytes:Nat} {nl:Bool} {h:Cf} {l:List (Int×Int)} (hg:A[id]? =some (ud l fl nl)) (hn:n=l.length) (hr:pb (n+1) bytes) (p:Int×Int):
 ic A true h 2 true bytes (.own id n) (.pv (.lit 2 [pr p]))=some (.own id (n+1),A.set id (ud (l++[p]) fl false)):=by
 subst hn
 have hl:=Fi l
 have e:zh (gf (l++[p]))=zh (gf l)++[.pv (i64 p.1),.pv (i64 p.2)]:=by
  simp[zh,gf,pD]
 simp only[ic,if_true,hg,ud,Wg,Bj,Gf,Option.map_some,Option.bind_some,flat,PV.cells,pr,List.append_nil,List.map_cons,List.map_nil,List.length_cons,List.length_nil,e]
 rw[if_pos]
 ·simp
 ·exact⟨trivial,by omega,hr,rfl⟩
theorem wC (H:List ba) (d:Nat) (l:List PV):Qa (Ub H d) (l.map .pv)=some l:=by
 induction l with
 |nil=>rfl
 |cons a l ih=>simp only[List.map_cons,Qa,Fe,Option.bind_some,ih]
theorem iB:∀ (l:List (Int×Int)),chunk 2 true l.length ((l.map pD).flatten)=de l
 | []=>rfl
 |p::l=>by
  have ih:=iB l
  simp only[List.length_cons,List.map_cons,List.flatten_cons,chunk,if_true,pD] at ih ⊢
  simp only[List.cons_append,List.nil_append,List.take_succ_cons,List.take_zero,List.drop_succ_cons,List.drop_zero,de,List.map_cons]
  rw[ih]
theorem NP {A:List ba} {id n fl:Nat} {nl:Bool} {l:List (Int×Int)} (hg:A[id]? =some (ud l fl nl)) (hn:n=l.length) (d:Nat):Ub A (d+1) (.own id n)=some (if nl then .pa else .lit 2 (de l)):=by
 subst hn
 have hl:=Fi l
 have e:zh (gf l)=((l.map pD).flatten).map .pv:=by simp[zh,gf]
 simp only[Ub,hg,ud,Wg]
 rw[if_pos ⟨by omega,rfl⟩,e,wC]
 cases nl with
 |true=>rfl
 |false=>simp only[Bool.false_eq_true,if_false,Option.map_some,iB]
theorem dy (A:List ba) (x y:AV) (p:Int×Int):Ra (A++[.box [x,y]]) 2 (.ptr A.length 0) (.pv (pr p))=some (A++[.box [.pv (i64 p.1),.pv (i64 p.2)]]):=by
 simp only[Ra,AV.cells,PV.cells,pr,List.map_cons,List.map_nil,List.length_cons,List.length_nil,List.all,AV.one,Jj,Rn]
 simp[na]
theorem JA (A:List ba) (p:Int×Int):ya (A++[.box [.pv (i64 p.1),.pv (i64 p.2)]]) true 2 (.ptr A.length 0)=some (.pv (pr p)):=by
 simp[ya,lh,Xq,nf]
theorem dq (l:List (Int×Int)) (fl:Nat) (nl:Bool) (n:Nat):ma n (ud l fl nl)=some (ud l fl nl):=Ov _ _ _ _ _
abbrev DN (v:PV) (id n len i:Nat):Tr:=(((Tr.lf.set 11 (.pv (i64 i))).set 10 (.pv (i64 len))).set 9 (.pv v)).set 3 (.own id n)
theorem ll (A:List ba) {l:List (Int×Int)} {i:Nat} (hi:i < l.length):qa A 2 (.pv (.lit 2 (de l))) (i:Int)=some (.pv (.rp [i64 l[i].1,i64 l[i].2] 0)):=by
 have hg:=tr hi
 simp only[qa]
 rw[if_pos (by unfold Fa;simp;omega),Int.toNat_natCast,hg];rfl
theorem eU (A:List ba) (p:Int×Int):ya A true 2 (.pv (.rp [i64 p.1,i64 p.2] 0))=some (.pv (pr p)):=by
 simp[ya,Tl]
theorem GM (call:Za) (v:PV) (l:List (Int×Int)) (hv:Di 2 v (de l)) (hw:l.length * 16≤140737488355328) (H:List ba) (hH:Ng H):
 Ni call Zc [.pv v] H=some (.own H.length l.length,H++[ud l 0 false]):=by
 have ls:=hv.len
 simp only[de,List.length_map] at ls
 have hid:H.length < H.length+1:=Nat.lt_succ_self _
 have hlen:∀ l',(H++[ud l' 0 false]).length=H.length+1:=fun l'=>by simp
 have hcut:∀ l',Qa (ma (H.length+1)) (H++[ud l' 0 false])=some (H++[ud l' 0 false]):=fun l'=>Gl fun o ho=>by
  rcases List.mem_append.1 ho with h | h
  ·exact hH _ (by omega) o h
  ·simp at h;subst h;exact dq _ _ _ _
 have hloop:Td (fun r=>∃ E,r=(.exit 0,⟨E,H++[ud l 0 false]⟩)∧E.get 3= .own H.length l.length)
  (gb (fa (ta call Ic) (ga (H.length+1) [3,9,10,11])) oa ⟨DN v H.length 0 l.length 0,H++[ud [] 0 false]⟩):=by
  refine xa (Nb (g:=fa (ta call Ic) (ga (H.length+1) [3,9,10,11]))
   (fun i t=>t=⟨DN v H.length i l.length i,H++[ud (l.take i) 0 false]⟩)
   l.length (by unfold oa;omega) _ rfl ?_ ?_) (fun r h=>h.2)
  ·rintro i t hi rfl
   have hv:=hv.lit (i:=i) (by simpa using hi)
   subst hv
   have e1:decide ((i:Int) < (l.length:Int))=true:=Da (by omega)
   have t2:=Ua hi (by unfold maxLen;omega)
   have a1:=ll (H++[ud (l.take i) 0 false]) hi
   have l1:=eU (H++[ud (l.take i) 0 false]) l[i]
   have s1:=dy (H++[ud (l.take i) 0 false]) (.pv (i64 0)) (.pv (i64 0)) l[i]
   have l2:=JA (H++[ud (l.take i) 0 false]) l[i]
   have hap:=GB (A:=H++[ud (l.take i) 0 false]++[.box [.pv (i64 l[i].1),.pv (i64 l[i].2)]]) (id:=H.length) (n:=i) (h:= .own) (bytes:=16) (by rw[List.getElem?_append_left (by simp)];exact Jj _ _) (by simp;omega) (by unfold pb;omega) l[i]
   rw[List.set_append_left _ _ (by simp),Rn,←List.take_succ_eq_append_getElem hi] at hap
   have htk:(H++[ud (l.take (i+1)) 0 false]++[ba.box [.pv (i64 l[i].1),.pv (i64 l[i].2)]]).take (H.length+1)=H++[ud (l.take (i+1)) 0 false]:=by
    rw[List.take_append_of_le_length (by simp),List.take_of_length_le (by simp)]
   have hc:=hcut (l.take (i+1))
   generalize l[i]=p at *
   generalize hQ:LN _ _ i=Q
   simp -implicitDefEqProofs only[SP,WP,na,sevalprocAttr,Ic,e1,t2,a1,l1,s1,l2,hap,htk,hc,hid,ga,za,AV.cut,wa,DN]
   subst hQ
   rfl
  ·rintro t rfl
   rw[List.take_length]
   have e1:decide ((l.length:Int) < (l.length:Int))=false:=Ha (by omega)
   generalize hQ:(fun r:Ex×St=>r.1.stop=true∧_)=Q
   simp -implicitDefEqProofs only[SX,sevalprocAttr,Ic,e1,DN]
   subst hQ
   exact⟨rfl,_,rfl,by simp[Tr.aa]⟩
 have h2:(0:Int)≤(l.length:Int):=by omega
 have h3:pb l.length 16:=by unfold pb;omega
 have n0:(0:Int).toNat=0:=rfl
 have ho:ba.seq 2 true [] 0 false=ud [] 0 false:=rfl
 apply Lk
 simp -implicitDefEqProofs only[SX,sevalprocAttr,Zc,xb,ls,Int.le_refl,eq_true h2,eq_true h3,n0,ho,hlen,hcut,hid,List.take_of_length_le (show (H++[ud [] 0 false]).length≤H.length+1 by simp),ga,za,AV.cut,wa]
 refine xa hloop ?_
 rintro _ ⟨E,rfl,hE⟩
 simp -implicitDefEqProofs only[SX,sevalprocAttr,hE]
end Go.AM.B1
namespace Go.AM.B1
open Go.AM Go.AM.So
theorem qj {A:List ba} {id n sz bytes:Nat} {nl ag:Bool} {h:Cf} {es:List PV} (hg:A[id]? =some (.tok sz n nl)) (hn:n=es.length) (hr:pb (n+1) bytes) (e:PV):
 ic A false h sz ag bytes (.uq id nl sz es) (.pv (.lit sz [e]))=some (.uq id false sz (es++[e]),A.set id (.tok sz (n+1) false)):=by
 subst hn
 simp only[ic,Bool.false_eq_true,if_false,hg,Gf,if_true,Option.bind_some,List.length_cons,List.length_nil]
 rw[if_pos ⟨trivial,trivial,trivial,hr⟩]
 simp
abbrev iO (id n i tk:Nat) (nl:Bool) (es:List PV):Tr:=(((Tr.lf.set 11 (.pv (i64 i))).set 10 (.pv (i64 n))).set 9 (.own id n)).set 3 (.uq tk nl 2 es)
theorem sN {A:List ba} {id fl:Nat} {nl:Bool} {l:List (Int×Int)} (hg:A[id]? =some (ud l fl nl)) (hf:fl≤l.length * 2) (hA:Ng A):Hp id 2 ZW A (gf l) A:=
 Hp.refl (fl:=fl) (nl:=nl) hA (by rw[mo];exact hf) hg (xA l)
theorem VD {l:List (Int×Int)} {i:Nat} (hi:i < l.length):(gf l)[i]! =pD l[i]:=by
 rw[QX (by rw[mo];exact hi)];simp[gf]
theorem RP (call:Za) (l:List (Int×Int)) {id fl:Nat} {nl:Bool} (H:List ba) (hH:Ng H) (hg:H[id]? =some (ud l fl nl)) (hf:fl≤l.length * 2) (hw:l.length * 16≤140737488355328):
 Ni call xd [.own id l.length] H=some (.uq H.length false 2 (de l),H++[.tok 2 l.length false]):=by
 have hp:=sN hg hf hH
 have hid:id < H.length:=hp.lt
 have hid1:id < H.length+1:=by omega
 have htk:H.length < H.length+1:=Nat.lt_succ_self _
 have hl:=Fi l
 have hn:l.length=(gf l).size:=(mo l).symm
 have hlen:∀ m b,(H++[ba.tok 2 m b]).length=H.length+1:=fun m b=>by simp
 have hcut:∀ m b,Qa (ma (H.length+1)) (H++[ba.tok 2 m b])=some (H++[ba.tok 2 m b]):=fun m b=>Gl fun o ho=>by
  rcases List.mem_append.1 ho with h | h
  ·exact hH _ (by omega) o h
  ·simp at h;subst h;rfl
 have hlA:∀ T,Wb (H++T) 0 (.own id l.length)=some l.length:=by
  intro T
  rw[Dz,List.getElem?_append_left hid,hg]
  simp only[ud,Wg]
  rw[if_pos];unfold nh;omega
 have hlA0:Wb H 0 (.own id l.length)=some l.length:=by have:=hlA [];rwa [List.append_nil] at this
 have hloop:Td (fun r=>∃ E,r=(.exit 0,⟨E,H++[.tok 2 l.length false]⟩)∧E.get 3= .uq H.length false 2 (de l))
  (gb (fa (ta call Nc) (ga (H.length+1) [3,9,10,11])) oa ⟨iO id l.length 0 H.length false [],H++[.tok 2 0 false]⟩):=by
  refine xa (Nb (g:=fa (ta call Nc) (ga (H.length+1) [3,9,10,11]))
   (fun i t=>t=⟨iO id l.length i H.length false (de (l.take i)),H++[.tok 2 i false]⟩)
   l.length (by unfold oa;omega) _ rfl ?_ ?_) (fun r h=>h.2)
  ·rintro i t hi rfl
   have e1:decide ((i:Int) < (l.length:Int))=true:=Da (by omega)
   have t2:=Ua hi (by unfold maxLen;omega)
   have a1:=dH [.tok 2 i false] hid (hp.pd ax hn (i:=(i:Int)) rfl (by omega))
   have l1:=nJ [.tok 2 i false] hid (hp.load ax hn (k:=i) (by omega))
   rw[VD hi] at l1
   have l1':ya (H++[.tok 2 i false]) true 2 (.Gc id (l.length * 2) (i * 2))=some (.pv (pr l[i])):=l1
   have s1:=dy (H++[.tok 2 i false]) (.pv (i64 0)) (.pv (i64 0)) l[i]
   have l2:=JA (H++[.tok 2 i false]) l[i]
   have hap:=qj (A:=H++[.tok 2 i false]++[.box [.pv (i64 l[i].1),.pv (i64 l[i].2)]]) (id:=H.length) (n:=i) (h:= .uq) (ag:=true) (nl:=false) (sz:=2) (bytes:=16) (es:=de (l.take i)) (by rw[List.getElem?_append_left (by simp)];exact Jj _ _) (by simp;omega) (by unfold pb;omega) (pr l[i])
   have hs:de (l.take (i+1))=de (l.take i)++[pr l[i]]:=by rw[List.take_succ_eq_append_getElem hi];simp only[de,List.map_append,List.map_cons,List.map_nil]
   rw[List.set_append_left _ _ (by simp),Rn,←hs] at hap
   have htk2:(H++[ba.tok 2 (i+1) false]++[ba.box [.pv (i64 l[i].1),.pv (i64 l[i].2)]]).take (H.length+1)=H++[ba.tok 2 (i+1) false]:=by
    rw[List.take_append_of_le_length (by simp),List.take_of_length_le (by simp)]
   have hc:=hcut (i+1) false
   generalize l[i]=p at *
   generalize hes':de (l.take (i+1))=es' at *
   generalize de (l.take i)=es at *
   generalize hQ:LN _ _ i=Q
   simp -implicitDefEqProofs only[SP,WP,na,sevalprocAttr,Nc,e1,t2,a1,l1',s1,l2,hap,htk,htk2,hc,hid1,ga,za,AV.cut,wa,iO]
   subst hQ
   subst hes'
   rfl
  ·rintro t rfl
   rw[List.take_length]
   have e1:decide ((l.length:Int) < (l.length:Int))=false:=Ha (by omega)
   generalize hQ:(fun r:Ex×St=>r.1.stop=true∧_)=Q
   simp -implicitDefEqProofs only[SX,sevalprocAttr,Nc,e1,iO]
   subst hQ
   exact⟨rfl,_,rfl,by simp[Tr.aa]⟩
 have h2:(0:Int)≤(l.length:Int):=by omega
 have h3:pb l.length 16:=by unfold pb;omega
 have n0:(0:Int).toNat=0:=rfl
 apply Lk
 simp -implicitDefEqProofs only[SX,sevalprocAttr,xd,xb,hlA,hlA0,Int.le_refl,eq_true h2,eq_true h3,n0,hlen,hcut,hid1,htk,List.take_of_length_le (show (H++[ba.tok 2 0 false]).length≤H.length+1 by simp),ga,za,AV.cut,wa]
 refine xa hloop ?_
 rintro _ ⟨E,rfl,hE⟩
 simp -implicitDefEqProofs only[SX,sevalprocAttr,hE]
def Xj (x:Int) (l:List (Int×Int)):Prop:=∃ p∈l,p.1≤x∧x≤p.2
end Go.AM.B1
