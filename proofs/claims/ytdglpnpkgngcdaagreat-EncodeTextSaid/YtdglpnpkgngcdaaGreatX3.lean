/- What functions of the program compute. -/
import Derived.Test.YtdglpnpkgngcdaaGreatX2
import Derived.Test.YtdglpnpkgngcdaaGreatX1
import Derived.Test.YtdglpnpkgngcdaaGreatC3
set_option linter.unusedVariables false
namespace Go.AM.B1
open Go.AM
def vo:mf:=⟨1,[.tmp 2],(jQ [jb 2 false] (jr [Cv 3 0,Cv 4 0,jB 5 .neq 3 4,Cv 2 5]))⟩
theorem mA:tc P fo 107 vo:=fM Go.Proofs.Tryz.func107 dN
def vj:=Xb (fun _=>none) vo
theorem Ju:Ma P 107 vj:=Ia Ya mA
def Xh:mf:=⟨2,[.tmp 4],(jQ [jk 4 0] (jQ [Cv 7 0,jp 8 vj 7,Cv 5 8] (jQ [Cv 9 1,jp 10 vj 9,Cv 6 10] (.seq (jQ [Cv 11 5] (jC 11 (.seq (jQ [Cv 12 6] (jC 12 (jr [jk 4 0]) .skip)) (jr [jk 4 (-1)])) .skip)) (.seq (jQ [Cv 13 6] (jC 13 (jr [jk 4 1]) .skip)) (.seq (jQ [Cv 14 0,Cv 15 1,jB 16 .lss 14 15] (jC 16 (jr [jk 4 (-1)]) .skip)) (.seq (jQ [Cv 17 0,Cv 18 1,jB 19 .gtr 17 18] (jC 19 (jr [jk 4 1]) .skip)) (jr [jk 4 0]))))))))⟩
theorem Yx:tc P fo 70 Xh:=fM Go.Proofs.Tryz.func70 (dC Ju (dC Ju dN))
def Mg:=Xb (fun _=>none) Xh
theorem Cy:Ma P 70 Mg:=Ia Ya Yx
def pg:mf:=⟨3,[.tmp 5],(jQ [jb 5 false] (jr [Cv 6 0,Cv 7 1,jB 8 .lss 6 7,Cv 9 8,jT 10 9 (.kf 0 2),jT 11 9 (.kl 1 10),jT 12 9 (.km 0),JT 13 9 (.ki 2 11 12),jT 14 9 (.kf 0 13),jT 15 9 (.kl 1 14),JT 16 9 (.kn 0 15),jT 17 9 (.kf 0 2),jT 18 9 (.kl 1 17),jT 19 9 (.km 1),JT 20 9 (.ki 2 18 19),jT 21 9 (.kf 0 20),jT 22 9 (.kl 1 21),JT 23 9 (.kn 0 22),jT 24 9 (.kB .eql 16 23),ja 25 9 24,Cv 5 25]))⟩
theorem xz:tc P fo 100 pg:=fM Go.Proofs.Tryz.func100 dN
def Kp:mf:=⟨1,[.cell 2 true 3,.tmp 3],(jQ [Co 1 (.box 1 (.t 0)),Co 2 (.alloc [(.bool false),(.int .i64 0),(.int .i64 0)]),jk 3 0] (jr [jL 4 1 1,Co 5 (.EH 37 [(.t 1)]),Co 6 (.Dh 25 [(.t 4),(.t 5)]),jx 7 0 6,jx 8 1 6,jS 3 2 7,Cv 3 8]))⟩
theorem MB:tc P fo 64 Kp:=fM Go.Proofs.Tryz.func64 dN
def Ri:Nat→Option mf
 |37=>some pg
 |25=>some Hf
 |_=>none
theorem dA:Tj P fo Ri:=by
 intro ix af h
 unfold Ri at h
 split at h
 ·injection h with h;subst h;exact xz
 ·injection h with h;subst h;exact Nu
 ·cases h
def Eg:=Xb Ri Kp
theorem zE:Ma P 64 Eg:=Ia dA MB
def Ot:mf:=⟨2,[.tmp 4],(jQ [jR 2 1 0,jR 3 1 1,jc 4 .Av] (jr [Co 5 (.EH 35 [(.t 2),(.t 3)]),Cv 4 5]))⟩
theorem PI:tc P fo 135 Ot:=fM Go.Proofs.Tryz.func135 dN
def Dl:mf:=⟨2,[.tmp 4],(jQ [jc 4 .Av] (jr [Cv 5 0,jp 6 cg 5,Cv 7 1,Co 8 (.Dh 38 [(.t 6),(.t 7)]),Cv 4 8]))⟩
theorem XH:tc P fo 104 Dl:=fM Go.Proofs.Tryz.func104 (dC Hl dN)
def uk:Oa:=(.block 3 (jQ [jl 41 1 6,jl 42 1 6,jz 43 42,jf 44 0 43,jl 45 1 44,Cv 46 7,Co 47 (.conv .u8 (.t 46)),Co 48 (.Fb .lit 1 false 1 [(.int .u8 0)] [(0,(.t 47))]),Co 49 (.ku 1 false 1 45 48),jz 50 41,jf 51 0 50,jS 1 51 49] (.region [jl 52 1 6,Cv 53 7,jl 54 1 6,jz 55 54,jf 56 0 55,jl 57 1 56,jn 58 0 57,Co 59 (.conv .u16 (.t 58)),jz 60 52,jf 61 1 60,Co 62 (.kA 256 1 61 53),jS 1 62 59])))
def pk:Oa:=(.seq (jQ [Cv 20 5,jK 21 .geq 20 0] (jX 21 0)) (.seq (.block 1 (jQ [Cv 24 3,jz 25 24,jf 26 0 25,jl 27 1 26,Cv 28 5,ji 29 258 27 28,Co 6 (.alloc [.Kf]),jS 1 6 29] (jQ [jl 30 1 6,Cv 31 4,jz 32 30,jf 33 257 32,jS 1 33 31] (.seq (jQ [Jf 34 0 1,Jl 35 1 34,Cv 36 5,ji 37 1 35 36,jl 38 1 37,Co 39 (.Dh 39 [(.t 38),(.c (.int .i64 0))])] (.block 2 (.range 35 yk (.t 39) [40] [(7,40)] uk))) (.region [Cv 63 4,jl 64 1 6,jz 65 64,jf 66 0 65,jl 67 1 66,jn 68 0 67,jB 69 .mul 63 68,Cv 4 69]))))) (.region [Cv 22 5,jK 23 .sub 22 1,Cv 5 23])))
def Sq:mf:=⟨1,[.tmp 2],(jQ [jR 1 2 0,jc 2 .Kf] (jQ [Jf 8 0 1,Jl 9 1 8,jn 10 0 9,Co 11 (.Jg .own 258 true ([.fa]++List.replicate 256 (.int .u16 0)++[(.int .i64 0)]) 544 (.t 10) (.t 10)),Co 12 (.build [.fa] [(0,1,(.t 11))]),Co 13 (.box 1 (.t 12)),Cv 3 13] (jQ [jk 4 1] (.seq (jQ [Cv 14 3,jz 15 14,jf 16 0 15,jl 17 1 16,jn 18 0 17,jK 19 .sub 18 1,Cv 5 19] (.block 0 (.Oo [1,2,3,4,5] pk))) (jr [Cv 70 3,Cv 2 70])))))⟩
theorem oH:∀ d∈zf Sq.body,tr P (fo d.1) d.2:=by
 intro d hd
 obtain rfl:d=(35,yk):=List.mem_singleton.1 hd
 exact Go.Proofs.xT
theorem RG:tc P fo 67 Sq:=eY Go.Proofs.Tryz.func67 dN (oH)
def Gg:Nat→Option mf
 |39=>some Dl
 |38=>some Ot
 |_=>none
theorem bF:Tj P fo Gg:=by
 intro ix af h
 unfold Gg at h
 split at h
 ·injection h with h;subst h;exact XH
 ·injection h with h;subst h;exact PI
 ·cases h
def Iq:=Xb Gg Sq
theorem JJ:Ma P 67 Iq:=Ia bF RG
def Ch:Oa:=(jQ [jB 49 .lss 48 47] (.seq (jX 49 0) (.seq (.block 1 (jQ [Cv 50 48,ji 51 2 46 48,jL 52 2 51,Co 10 (.alloc [.fa,(.int .i64 0)]),Cv 9 50,jS 2 10 52] (jQ [Cv 53 8,Cv 54 8,jz 55 54,jf 56 4 55,jl 57 1 56,jf 58 1 10,jl 59 1 58,jf 60 1 10,jl 61 1 60,jL 62 2 10,jp 63 Zk 62,jB 64 .add 61 63,jK 65 .sub 64 1,Cv 66 9,Co 67 (.build [(.int .i64 0),(.int .i64 0),(.int .i64 0)] [(0,1,(.t 59)),(1,1,(.t 65)),(2,1,(.t 66))]),Co 68 (.Fb .lit 3 true 1 [(.int .i64 0),(.int .i64 0),(.int .i64 0)] [(0,(.t 67))]),Co 69 (.append true .own 3 true 24 (.t 57) (.t 68)),jz 70 53,jf 71 4 70,jS 1 71 69] (jQ [Cv 72 8,Cv 73 8,jz 74 73,jf 75 5 74,jl 76 1 75,jf 77 0 10,jl 78 1 77,jn 79 0 78,Co 80 (.mx [(.t 76),(.t 79)]),jz 81 72,jf 82 5 81,jS 1 82 80] (.region [Cv 83 8,Cv 84 8,jz 85 84,jf 86 3 85,jl 87 1 86,jL 88 2 10,jp 89 Iq 88,Co 90 (.Fb .lit 1 false 1 [.Kf] [(0,(.t 89))]),Co 91 (.ku 1 false 8 87 90),jz 92 83,jf 93 3 92,jS 1 93 91]))))) (.region [jK 94 .add 48 1,Cv 48 94]))))
def ej:Oa:=(jQ [jK 109 .lss 108 256] (.seq (jX 109 4) (.seq (.block 5 (jQ [Cv 110 108,Cv 14 110] (.region [Cv 111 14,Co 112 (.kA 256 1 13 111),Ce (.store 1 (.t 112) (.c (.int .i8 (-2))))]))) (.region [jK 113 .add 108 1,Cv 108 113]))))
def lj:Oa:=(.seq (jQ [Cv 122 17,jf 123 1 16,jl 124 1 123,jB 125 .leq 122 124] (jX 125 8)) (.seq (.block 9 (.region [Cv 128 17,jf 129 2 16,jl 130 1 129,Co 131 (.conv .i8 (.t 130)),Co 132 (.kA 256 1 13 128),jS 1 132 131])) (.region [Cv 126 17,jK 127 .add 126 1,Cv 17 127])))
def mj:Oa:=(jQ [jB 117 .lss 116 115] (.seq (jX 117 6) (.seq (.block 7 (jQ [ji 118 3 114 116,jL 119 3 118,Co 16 (.alloc [(.int .i64 0),(.int .i64 0),(.int .i64 0)]),jS 3 16 119] (jQ [jf 120 0 16,jl 121 1 120,Cv 17 121] (.block 8 (.loop [8,13,16,17,101,102,103,114,115,116] lj))))) (.region [jK 133 .add 116 1,Cv 116 133]))))
def zh:Oa:=(jQ [jB 104 .lss 103 102] (.seq (jX 104 2) (.seq (.block 3 (jQ [ji 105 1 101 103,jl 106 1 105,Cv 12 106] (jQ [Co 107 (.build (List.replicate 256 (.int .i8 0)) []),Co 13 (.alloc (List.replicate 256 (.int .i8 0))),jS 256 13 107] (.seq (jQ [jk 108 0] (.block 4 (.loop [8,12,13,101,102,103,108] ej))) (.seq (jQ [Cv 114 12,jn 115 0 114,jk 116 0] (.block 6 (.loop [8,13,101,102,103,114,115,116] mj))) (.region [Cv 134 8,Cv 135 8,jz 136 135,jf 137 2 136,jl 138 1 137,jL 139 256 13,Co 140 (.Fb .lit 256 true 1 (List.replicate 256 (.int .i8 0)) [(0,(.t 139))]),Co 141 (.ku 256 true 256 138 140),jz 142 134,jf 143 2 142,jS 1 143 141])))))) (.region [jK 144 .add 103 1,Cv 103 144]))))
def Vh:mf:=⟨1,[.tmp 2,.tmp 3],(jQ [jR 1 1 0,jc 2 .Kf,jk 3 0] (jQ [JL 19 1 1,jp 20 yc 19,Cv 18 20,jx 21 0 18,jx 22 1 18,Co 4 (.alloc [.fa]),jS 1 4 21,Cv 5 22] (.seq (jQ [Cv 23 5,jK 24 .eql 23 0,Cv 25 24,jF 26 25 (.km 5),jF 27 25 (.kK .eql 26 130),jo 28 25 27] (jC 28 (jQ [JL 30 1 1,jp 31 Eg 30,Cv 29 31,jx 32 0 29,jx 33 1 29,Co 6 (.alloc [(.bool false),(.int .i64 0),(.int .i64 0)]),jS 3 6 32,Cv 7 33] (jQ [jf 34 0 6,jl 35 1 34,jt 36 35] (jC 36 (.region [jk 5 111]) .skip))) .skip)) (.seq (jQ [Cv 37 5,jK 38 .neq 37 0] (jC 38 (jr [Cv 39 5,jc 2 .Kf,Cv 3 39]) .skip)) (jQ [JL 40 1 1,jp 41 Ci 40,jL 42 1 4,Co 43 (.build [.fa,.fa,.fa,.fa,.fa,(.int .i64 0)] [(0,1,(.t 41)),(1,1,(.t 42))]),Co 44 (.box 6 (.t 43)),Cv 8 44] (.ghost (.Fv 8 2 256) (.ghost (.Fv 8 3 1) (.ghost (.yH 8 4 3 true) (.seq (jQ [Jf 45 0 1,Jl 46 1 45,jn 47 0 46,jk 48 0] (.block 0 (.loop [4,8,46,47,48] Ch))) (jQ [Cv 95 8,jz 96 95,jf 97 4 96,jl 98 1 97,Co 99 (.Dh 34 [(.t 98),(.f 36)])] (.seq (jQ [jf 100 0 4,jl 101 1 100,jn 102 0 101,jk 103 0] (.block 2 (.loop [8,101,102,103] zh))) (jr [Cv 145 8,Cv 2 145,jk 3 0]))))))))))))⟩
theorem Wz:tc P fo 16 Vh:=fM Go.Proofs.Tryz.func16 (dC WG (dC zE (dC cx (dC sx (dC JJ dN)))))
def Yq:Xa:=fun ix args H=>if ix=34 then Ny 3 0 36 args H else none
def Gb:=fB Yq (fun _=>none) Vh
theorem Ku:Ma P 16 Gb:=xK Ya (nK (fo:=fo) (s:=34) (g:=36) Go.Proofs.gV) Wz
def xb:Oa:=(.seq (jQ [Cv 15 9,Cv 16 10,jB 17 .lss 15 16] (jX 17 0)) (.block 1 (jQ [Cv 18 9,Cv 19 10,jB 20 .add 18 19,Co 21 (.conv .u64 (.t 20)),Co 22 (.bin .shr (.t 21) (.c (.int .u64 1))),Co 23 (.conv .i64 (.t 22)),Cv 11 23] (jQ [Cv 24 2,Cv 25 0,Cv 26 11,ji 27 3 25 26,jL 28 3 27,Cv 29 1,Co 30 (.PA (.t 24) [(.t 28),(.t 29)]),jK 31 .lss 30 0] (jC 31 (.region [Cv 32 11,jK 33 .add 32 1,Cv 9 33]) (.region [Cv 34 11,Cv 10 34]))))))
def Sa:mf:=⟨3,[.tmp 6,.tmp 7],(jQ [jk 6 0,jb 7 false] (jQ [Cv 12 0,jn 13 0 12,Cv 8 13] (jQ [Cv 14 8,jk 9 0,Cv 10 14] (.seq (.block 0 (.loop [0,1,2,8,9,10] xb)) (jr [Cv 35 9,Cv 36 9,Cv 37 8,jB 38 .lss 36 37,Cv 39 38,jT 40 39 (.km 2),jT 41 39 (.km 0),jT 42 39 (.km 9),jT 43 39 (.ki 3 41 42),jT 44 39 (.kL 3 43),jT 45 39 (.km 1),jT 46 39 (.PA (.t 40) [(.t 44),(.t 45)]),jT 47 39 (.kK .eql 46 0),ja 48 39 47,Cv 6 35,Cv 7 48])))))⟩
theorem Di:tc P fo 113 Sa:=fM Go.Proofs.Tryz.func113 dN
def Wg:mf:=⟨2,[.tmp 4],(jQ [jR 2 3 0,jk 4 0] (jr [Jf 5 0 2,Jl 6 1 5,Cv 7 1,jq 8 Mg 6 7,Cv 4 8]))⟩
theorem Zv:tc P fo 114 Wg:=fM Go.Proofs.Tryz.func114 (dC Cy dN)
def Tf:mf:=⟨2,[.cell 4 true 3,.tmp 5],(jQ [Co 4 (.alloc [(.int .i64 0),(.int .i64 0),(.int .i64 0)]),jb 5 false] (.seq (jQ [Cv 8 0,Co 9 (.kE 1 false 8)] (jC 9 (jr [Co 10 (.build [(.int .i64 0),(.int .i64 0),(.int .i64 0)] []),jS 3 4 10,jb 5 false]) .skip)) (jQ [Cv 12 0,jz 13 12,jf 14 4 13,jl 15 1 14,Cv 16 1,Co 17 (.Dh 40 [(.t 15),(.t 16),(.f 41)]),Cv 11 17,jx 18 0 11,jx 19 1 11,Cv 6 18,Cv 7 19] (.seq (jQ [Cv 20 7,jt 21 20] (jC 21 (.region [Cv 22 6,jK 23 .sub 22 1,Cv 6 23]) .skip)) (.seq (jQ [Cv 24 6,jK 25 .lss 24 0,Cv 26 25,jF 27 26 (.km 1),jF 28 26 (.km 0),jF 29 26 (.kz 28),jF 30 26 (.kf 4 29),jF 31 26 (.kl 1 30),jF 32 26 (.km 6),jF 33 26 (.ki 3 31 32),jF 34 26 (.kf 1 33),jF 35 26 (.kl 1 34),jF 36 26 (.kB .gtr 27 35),jo 37 26 36] (jC 37 (jr [Co 38 (.build [(.int .i64 0),(.int .i64 0),(.int .i64 0)] []),jS 3 4 38,jb 5 false]) .skip)) (jr [Cv 39 0,jz 40 39,jf 41 4 40,jl 42 1 41,Cv 43 6,ji 44 3 42 43,jL 45 3 44,jS 3 4 45,jb 5 true]))))))⟩
theorem Fx:tc P fo 78 Tf:=fM Go.Proofs.Tryz.func78 dN
def Yc:Nat→Option mf
 |40=>some Sa
 |41=>some Wg
 |_=>none
theorem Pw:Tj P fo Yc:=by
 intro ix af h
 unfold Yc at h
 split at h
 ·injection h with h;subst h;exact Di
 ·injection h with h;subst h;exact Zv
 ·cases h
def Ed:=Xb Yc Tf
theorem Sy:Ma P 78 Ed:=Ia Pw Fx
def xf:Oa:=(jQ [jB 20 .lss 19 18] (.seq (jX 20 0) (.seq (.block 1 (jQ [Cv 21 19,Cv 6 21] (jQ [Cv 22 0,jz 23 22,jf 24 0 23,jl 25 1 24,Cv 26 6,ji 27 258 25 26,Cv 7 27] (jQ [Cv 28 5,Cv 29 7,jz 30 29,jf 31 0 30,jl 32 1 31,Cv 33 1,Cv 34 7,jz 35 34,jf 36 257 35,jl 37 1 36,jB 38 .quo 33 37,Ji 39 1 32 38,Jl 40 1 39,Co 41 (.Fb .lit 1 false 1 [(.int .u8 0)] [(0,(.t 40))]),Co 42 (.ku 1 false 1 28 41),Cv 5 42] (.region [Cv 43 1,Cv 44 7,jz 45 44,jf 46 257 45,jl 47 1 46,jB 48 .rem 43 47,Cv 1 48]))))) (.region [jK 49 .add 19 1,Cv 19 49]))))
def Jj:mf:=⟨2,[.tmp 4],(jQ [jc 4 .fa] (jQ [Cv 8 0,jz 9 8,jf 10 0 9,jl 11 1 10,jn 12 0 11,Co 13 (.Jg .uq 1 false [(.int .u8 0)] 1 (.c (.int .i64 0)) (.t 12)),Cv 5 13] (.seq (jQ [Cv 14 0,jz 15 14,jf 16 0 15,jl 17 1 16,jn 18 0 17,jk 19 0] (.block 0 (.loop [0,1,5,18,19] xf))) (jr [Cv 50 5,Cv 4 50]))))⟩
theorem Yt:tc P fo 79 Jj:=fM Go.Proofs.Tryz.func79 dN
def Jh:=Xb (fun _=>none) Jj
theorem Zu:Ma P 79 Jh:=Ia Ya Yt
def qi:mf:=⟨2,[.tmp 4,.tmp 5],(jQ [jc 4 .fa,jb 5 false] (jQ [Cv 9 0,Cv 10 1,jq 11 Ed 9 10,Cv 8 11,jx 12 0 8,jx 13 1 8,Co 6 (.alloc [(.int .i64 0),(.int .i64 0),(.int .i64 0)]),jS 3 6 12,Cv 7 13] (.seq (jQ [Cv 14 7,jt 15 14] (jC 15 (jr [jc 4 .fa,jb 5 false]) .skip)) (jr [Cv 16 0,jz 17 16,jf 18 3 17,jl 19 1 18,jf 20 2 6,jl 21 1 20,Ji 22 1 19 21,Jl 23 1 22,Cv 24 1,jf 25 0 6,jl 26 1 25,jB 27 .sub 24 26,jq 28 Jh 23 27,Cv 4 28,jb 5 true]))))⟩
theorem mv:tc P fo 22 qi:=fM Go.Proofs.Tryz.func22 (dC Sy (dC Zu dN))
def Be:=Xb (fun _=>none) qi
theorem Vn:Ma P 22 Be:=Ia Ya mv
end Go.AM.B1
namespace Go.AM.B1
open Go.AM
def Bd:Oa:=(.seq (jQ [Cv 19 5,Cv 20 4,jB 21 .lss 19 20] (jX 21 2)) (.seq (.block 3 (jQ [Jf 24 0 1,Jl 25 1 24,Cv 26 4,ji 27 2 25 26,jf 28 0 27,jl 29 1 28,jn 30 0 29,Cv 6 30] (jQ [Cv 31 6,Jf 32 0 1,Jl 33 1 32,Cv 34 5,ji 35 2 33 34,jf 36 0 35,jl 37 1 36,jn 38 0 37,jB 39 .eql 31 38] (jC 39 (jQ [Jf 41 0 1,Jl 42 1 41,Cv 43 4,Ji 44 2 42 43,JL 45 2 44,Jf 46 0 1,Jl 47 1 46,Cv 48 5,Ji 49 2 47 48,JL 50 2 49,Cv 51 6,Co 52 (.kr xe 45 50 51),Cv 40 52,jx 53 0 40,jx 54 1 40,Cv 7 53,Cv 8 54] (jQ [Cv 55 8] (jC 55 (jr [jb 2 false,jk 3 0]) .skip))) .skip)))) (.region [Cv 22 5,jK 23 .add 22 1,Cv 5 23])))
def Mf:Oa:=(.seq (jQ [Cv 12 4,Jf 13 0 1,Jl 14 1 13,jn 15 0 14,jB 16 .lss 12 15] (jX 16 0)) (.seq (.block 1 (jQ [jk 5 0] (.block 2 (.loop [1,4,5] Bd)))) (.region [Cv 17 4,jK 18 .add 17 1,Cv 4 18])))
def Xi:mf:=⟨1,[.tmp 2,.tmp 3],(jQ [jR 1 1 0,jb 2 false,jk 3 0] (.seq (jQ [JL 9 1 1,jp 10 Td 9,jt 11 10] (jC 11 (jr [jb 2 false,jk 3 84]) .skip)) (.seq (jQ [jk 4 0] (.block 0 (.loop [1,4] Mf))) (jr [jb 2 true,jk 3 0]))))⟩
theorem Br:tc P fo 72 Xi:=fM Go.Proofs.Tryz.func72 (dC qm (dC Il dN))
def ve:=Xb (fun _=>none) Xi
theorem Is:Ma P 72 ve:=Ia Ya Br
def zg:mf:=⟨1,[.cell 2 true 1,.tmp 3],(jQ [jR 1 1 0,Co 2 (.alloc [.fa]),jk 3 0] (jQ [JL 9 1 1,jp 10 Za 9,Cv 8 10,jx 11 0 8,jx 12 1 8,Co 4 (.alloc [.fa]),jS 1 4 11,Cv 5 12] (.seq (jQ [Cv 13 5,jK 14 .eql 13 84,Cv 15 14,jF 16 15 (.km 5),jF 17 15 (.kK .eql 16 110),jo 18 15 17] (jC 18 (jr [Co 19 (.build [.fa] []),Cv 20 5,jS 1 2 19,Cv 3 20]) .skip)) (jQ [JL 22 1 1,jp 23 ve 22,Cv 21 23,jx 24 0 21,jx 25 1 21,Cv 6 24,Cv 7 25] (.seq (jQ [Cv 26 6,jt 27 26] (jC 27 (jr [Co 28 (.build [.fa] []),jS 1 2 28,jk 3 111]) .skip)) (jr [jL 29 1 4,Cv 30 5,jS 1 2 29,Cv 3 30]))))))⟩
theorem Bq:tc P fo 17 zg:=fM Go.Proofs.Tryz.func17 (dC su (dC Is dN))
def bd:=Xb (fun _=>none) zg
theorem Mr:Ma P 17 bd:=Ia Ya Bq
end Go.AM.B1
set_option linter.unusedSimpArgs false
namespace Go.AM.B1
open Go.AM
def Lc:Int→List (Int×Int)→Int
 |n,[]=>n
 |n,p::r=>Lc (n+(p.2 - p.1+1)) r
abbrev sQ (v:PV) (len i n:Int):Tr:=(((Tr.lf.set 8 (.pv (i64 i))).set 7 (.pv (i64 len))).set 6 (.pv v)).set 3 (.pv (i64 n))
theorem KS (v:PV) (l:List (Int×Int)) (hv:Th 2 v (Jd l)) (hw:l.length≤maxLen) {top:Int} (ht:top≤4611686018427387900) (hval:Na top (-2) l=true):Wq [v]=some (i64 (Lc 0 l)):=by
 have ls:=hv.len
 simp only[Jd,List.length_map] at ls
 have key:=yb (g:=Mc (Ca (fun _=>none) 8) [3,6,7,8] zk 0)
  (fun i t=>∃ n last,t=⟨sQ v l.length i n,[]⟩∧Lc 0 l=Lc n (l.drop i)∧Na top last (l.drop i)=true∧0≤n∧n≤max 0 (last+1)∧last≤top)
  (Q:=fun r=>∃ E H,r=(.exit 0,⟨E,H⟩)∧E.get 3= .pv (i64 (Lc 0 l)))
  l.length (by unfold qa;unfold maxLen at hw;omega) ⟨sQ v l.length (0:Nat) 0,[]⟩ ?_ ?_ ?_
 ·obtain⟨⟨ex,t⟩,h,_,E,H,he,hE⟩:=ec key
  cases he
  have h':fb (ma (ta (Ca (fun _=>none) 8) zk) (ga 0 [3,6,7,8])) qa ⟨sQ v l.length 0 0,[]⟩=some (.exit 0,⟨E,H⟩):=h
  simp only[sQ] at h'
  simp -implicitDefEqProofs only[Wq,SP,SA,SQ,WP,WQ,sevalprocAttr,dw,ls,Cb,h',hE]
 ·refine⟨0,min (-2) top,rfl,rfl,?_,by omega,by omega,by omega⟩
  have mono:∀ {a b:Int} {r:List (Int×Int)},a≤b→Na top b r=true→Na top a r=true:=by
   intro a b r hab h
   cases r with
   |nil=>rfl
   |cons p r=>
    obtain⟨h1,h2,h3,h4,h5⟩:=ee h
    simp only[Na,h5,Bool.and_true,Bool.not_eq_true',Bool.or_eq_false_iff,decide_eq_false_iff_not]
    exact⟨⟨⟨h1,h2⟩,h3⟩,by omega⟩
  exact mono (by omega) hval
 ·rintro i t hi ⟨n,last,rfl,hr,hva,hn0,hn1,hlast⟩
  have hv:=hv.lit (i:=i) (by simpa using hi)
  subst hv
  have hd:l.drop i=l[i]::l.drop (i+1):=List.drop_eq_getElem_cons hi
  rw[hd] at hr hva
  obtain⟨h1,h2,h3,h4,h5⟩:=ee hva
  rw[Lc] at hr
  have t2:=Va hi hw
  have hg:=Nq hi
  have hl:(Jd l).length=l.length:=by simp
  generalize l[i]=p at *
  have t3:IntKind.i64.wrap (p.2 - p.1)=p.2 - p.1:=Ba (by omega)
  have t4:IntKind.i64.wrap (p.2 - p.1+1)=p.2 - p.1+1:=Ba (by omega)
  have t5:IntKind.i64.wrap (n+(p.2 - p.1+1))=n+(p.2 - p.1+1):=Ba (by omega)
  generalize hes:Jd l=es at *
  generalize hQ:LN _ _ i=Q
  simp -implicitDefEqProofs only[SP,SA,SQ,WP,WQ,sevalprocAttr,zk,hi,hl,t2,t3,t4,t5,hg,sQ]
  subst hQ
  exact⟨_,p.2,rfl,hr,h5,by omega,by omega,by omega⟩
 ·rintro t ⟨n,last,rfl,hr,_⟩
  rw[List.drop_length,Lc] at hr
  have e1:decide (l.length < l.length)=false:=Fa (by omega)
  generalize hQ:(fun r:Ex×St=>r.1.stop=true∧_)=Q
  simp -implicitDefEqProofs only[SP,SA,SQ,WP,WQ,sevalprocAttr,zk,e1,sQ]
  subst hQ
  exact⟨rfl,_,_,rfl,by rw[hr];rfl⟩
theorem _root_.Go.AM.So.cf.cut {H:List ba} (h:So.cf H):Pa (oa H.length) H=some H:=So.Ik fun o ho=>h _ (Nat.le_refl _) o ho
theorem gj (A:List ba) (o:ba):(A++[o])[A.length]? =some o:=by simp
theorem sn (A:List ba) (o o':ba):(A++[o]).set A.length o'=A++[o']:=by
 rw[List.set_append_right _ _ (Nat.le_refl _)];simp
theorem gG {A:List ba} (T:List ba) {sz id n:Nat} {i:Int} {v:AV} (hid:id < A.length) (h:wa A sz (.own id n) i=some v):wa (A++T) sz (.own id n) i=some v:=by
 simp only[wa] at h ⊢
 rw[List.getElem?_append_left hid];exact h
theorem ZI {A:List ba} (T:List ba) {sz id:Nat} {ag:Bool} {m off:Nat} {v:AV} (hid:id < A.length) (h:ya A ag sz (.Fc id m off)=some v):ya (A++T) ag sz (.Fc id m off)=some v:=by
 simp only[ya] at h ⊢
 rw[List.getElem?_append_left hid];exact h
end Go.AM.B1
namespace Go.AM.B1
open Go.AM Go.AM.So
theorem HE {n:Nat} {E:Tr}:∀ {live:List Nat},(∀ t∈live,(E.get t).cut n deep=some (E.get t))→∃ E',za n E live=some E'∧∀ t∈live,E'.get t=E.get t
 | [],_=>⟨.lf,rfl,by simp⟩
 |a::live,h=>by
  obtain⟨E',h1,h2⟩:=HE (live:=live) fun t ht=>h t (by simp[ht])
  refine⟨E'.set a (E.get a),by rw[za,h a (by simp),Option.bind_some,h1];rfl,fun t ht=> ?_⟩
  rw[Tr.aa]
  by_cases he:t=a
  ·rw[if_pos he,he]
  ·rw[if_neg he]
   rcases List.mem_cons.1 ht with h3 | h3
   ·exact absurd h3 he
   ·exact h2 t h3
theorem DP {n:Nat} {live:List Nat} {E:Tr} {A T:List ba} (hn:A.length=n) (hA:∀ o∈A,oa n o=some o) (hE:∀ t∈live,(E.get t).cut n deep=some (E.get t)):
 ∃ E',ga n live ⟨E,A++T⟩=some ⟨E',A⟩∧∀ t∈live,E'.get t=E.get t:=by
 obtain⟨E',h1,h2⟩:=HE hE
 refine⟨E',?_,h2⟩
 subst hn
 simp only[ga,h1,Option.bind_some]
 rw[List.take_left' rfl,Ik hA];rfl
def Sf (n:Nat) (live:List Nat) (J:St→Prop) (s:St):Prop:=
 ∃ A T,s.H=A++T∧A.length=n∧(∀ o∈A,oa n o=some o)∧(∀ t∈live,(s.env.get t).cut n deep=some (s.env.get t))∧∀ E',(∀ t∈live,E'.get t=s.env.get t)→J ⟨E',A⟩
theorem Sf.ga {n:Nat} {live:List Nat} {J:St→Prop} {s:St} (h:Sf n live J s):∃ s',ga n live s=some s'∧J s':=by
 obtain⟨A,T,h1,h2,h3,h4,h5⟩:=h
 obtain⟨E,H⟩:=s
 simp only at h1 h4 h5
 subst h1
 obtain⟨E',h6,h7⟩:=DP (T:=T) h2 h3 h4
 exact⟨_,h6,h5 E' h7⟩
def RQ (n:Nat) (live:List Nat) (J:St→Prop) (Q:Ex×St→Prop):Ex×St→Prop
 | (.norm,s)=>Sf n live J s
 |r=>Q r
theorem Ii {n:Nat} {live:List Nat} {J:St→Prop} {Q:Ex×St→Prop} {s:St}:RQ n live J Q (.norm,s)=Sf n live J s:=rfl
theorem AS {call:Xa} {b:Oa} {n:Nat} {live:List Nat} {I:Nat→St→Prop} {Q:Ex×St→Prop} {i:Nat} {s:St} (h:Ld (RQ n live (I (i+1)) Q) (ta call b s)):
 Ld (LN I Q i) (ma (ta call b) (ga n live) s):=by
 rw[ma,zy]
 refine xa h ?_
 rintro⟨ex,t⟩ hr
 cases ex with
 |norm=>
  obtain⟨s',h1,h2⟩:=Sf.ga hr
  show Ld _ (Pp (Go.AM.ga n live t))
  rw[h1];exact h2
 |exit=>exact hr
 |ret=>exact hr
theorem yQ {call:Xa} {b:Oa} {cl:St→Option St} {Q:Ex×St→Prop} {s:St} (h:Ld (fun r=>r.1.stop=true∧Q r) (ta call b s)):
 Ld (fun r=>r.1.stop=true∧Q r) (ma (ta call b) cl s):=by
 rw[ma,zy]
 refine xa h ?_
 rintro⟨ex,t⟩ ⟨h1,h2⟩
 cases ex with
 |norm=>cases h1
 |exit=>exact⟨h1,h2⟩
 |ret=>exact⟨h1,h2⟩
theorem vn {call:Xa} {b:Oa} {live:List Nat} {Q:Ex×St→Prop} {s:St} (I:Nat→St→Prop) (N:Nat) (hN:N < qa) (h0:Sf s.H.length live (I 0) s)
 (hs:∀ i t,i < N→I i t→Ld (RQ s.H.length live (I (i+1)) Q) (ta call b t)) (he:∀ t,I N t→Ld (fun r=>r.1.stop=true∧Q r) (ta call b t)):
 Ld (fun r=>r.1.stop=true∧Q r) (ta call (.loop live b) s):=by
 obtain⟨s',h1,h2⟩:=h0.ga
 rw[Cb,h1]
 exact yb I N hN s' h2 (fun i t hi hI=>AS (hs i t hi hI)) (fun t hI=>yQ (he t hI))
theorem YN {call:Xa} {b:Oa} {live:List Nat} {Q:Ex×St→Prop} {s:St} (I:Nat→St→Prop) (N:Nat) (hN:N < qa) (h0:Sf s.H.length live (I N) s)
 (hs:∀ k t,I k t→Ld (RQ s.H.length live (fun s'=>∃ j,j < k∧I j s') Q) (ta call b t)):
 Ld (fun r=>r.1.stop=true∧Q r) (ta call (.loop live b) s):=by
 obtain⟨s',h1,h2⟩:=h0.ga
 rw[Cb,h1]
 refine Np I qa N s' hN h2 fun k t hI=> ?_
 rw[ma,zy]
 refine xa (hs k t hI) ?_
 rintro⟨ex,t⟩ hr
 cases ex with
 |norm=>
  obtain⟨s',h1,h2⟩:=Sf.ga (J:=fun s'=>∃ j,j < k∧I j s') hr
  show Ld _ (Pp (Go.AM.ga _ live t))
  rw[h1];exact h2
 |exit=>exact hr
 |ret=>exact hr
theorem Sf.all {live:List Nat} {J:St→Prop} {E:Tr} {H:List ba} {n:Nat} (hn:n=H.length) (h1:∀ o∈H,oa n o=some o) (h2:∀ t∈live,(E.get t).cut n deep=some (E.get t)) (h3:∀ E',(∀ t∈live,E'.get t=E.get t)→J ⟨E',H⟩):Sf n live J ⟨E,H⟩:=
 ⟨H,[],by simp,hn.symm,h1,h2,h3⟩
theorem Sf.front {live:List Nat} {J:St→Prop} {E:Tr} {A T:List ba} {n:Nat} (hn:n=A.length) (h1:∀ o∈A,oa n o=some o) (h2:∀ t∈live,(E.get t).cut n deep=some (E.get t)) (h3:∀ E',(∀ t∈live,E'.get t=E.get t)→J ⟨E',A⟩):Sf n live J ⟨E,A++T⟩:=
 ⟨A,T,rfl,hn.symm,h1,h2,h3⟩
theorem Qo {n d id off:Nat} (h:id < n):AV.cut n d (.ptr id off)=some (.ptr id off):=by
 cases d <;> simp[AV.cut,h]
theorem oN {n d id len:Nat} (h:id < n):AV.cut n d (.own id len)=some (.own id len):=by
 cases d <;> simp[AV.cut,h]
theorem Qj {n d id sz:Nat} {nl:Bool} {es:List PV} (h:id < n):AV.cut n d (.uq id nl sz es)=some (.uq id nl sz es):=by
 cases d <;> simp[AV.cut,h]
theorem yj (n:Nat) (cs:List PV):oa n (.box (cs.map .pv))=some (.box (cs.map .pv)):=by
 have:Pa (AV.cut n deep) (cs.map .pv)=some (cs.map .pv):=Ik fun a ha=>by
  obtain⟨p,_,rfl⟩:=List.mem_map.1 ha
  exact Ha
 simp[oa,this]
def Jc (l:List Nat) (E E':Tr):Prop:=∀ t∈l,E'.get t=E.get t
theorem Jc.refl (l:List Nat) (E:Tr):Jc l E E:=fun _ _=>rfl
theorem Jc.trans {l:List Nat} {E E' E'':Tr} (h1:Jc l E E') (h2:Jc l E' E''):Jc l E E'':=fun t ht=>(h2 t ht).trans (h1 t ht)
theorem Jc.sub {l l':List Nat} {E E':Tr} (h:Jc l E E') (hs:l'.all l.contains=true):Jc l' E E':=fun t ht=>h t (by
 have:=List.all_eq_true.1 hs t ht
 simpa using this)
theorem Jc.set {l:List Nat} {E E':Tr} {k:Nat} {v:AV} (h:Jc l E E') (hk:l.contains k=false):Jc l E (E'.set k v):=fun t ht=>by
 have:t≠k:=by
  rintro rfl
  have:l.contains t=true:=by simpa using ht
  rw[hk] at this;cases this
 rw[Tr.aa,if_neg this];exact h t ht
def Fit (n:Nat) (l:List Nat) (E:Tr):Prop:=∀ t∈l,(E.get t).cut n deep=some (E.get t)
theorem Fit.nil (n:Nat) (E:Tr):Fit n [] E:=fun _ h=>by cases h
theorem Fit.cons {n t:Nat} {l:List Nat} {E:Tr} {v:AV} (h:E.get t=v) (hv:v.cut n deep=some v) (hl:Fit n l E):Fit n (t::l) E:=fun u hu=>by
 rcases List.mem_cons.1 hu with rfl | hu
 ·rw[h];exact hv
 ·exact hl u hu
theorem Fit.Te {n:Nat} {l:List Nat} {E E':Tr} (h:Fit n l E) (hk:Jc l E E'):Fit n l E':=fun t ht=>by rw[hk t ht];exact h t ht
theorem Fit.sub {n:Nat} {l l':List Nat} {E:Tr} (h:Fit n l E) (hs:l'.all l.contains=true):Fit n l' E:=fun t ht=>h t (by
 have:=List.all_eq_true.1 hs t ht
 simpa using this)
end Go.AM.B1
namespace Go.AM.B1
open Go.AM Go.AM.So
theorem TJ:Tg=Zb:=rfl
theorem SH:Ug=Zb:=rfl
theorem EI:jh=Zb:=rfl
def jE (p:Int×Int):List PV:=[i64 p.1,i64 p.2]
def Xe (l:List (Int×Int)):Array (List PV):=(l.map jE).toArray
def gW (r:List PV):Prop:=∃ p,r=jE p
theorem yw (r:List PV) (h:gW r):sR 2 r:=by
 obtain⟨p,rfl⟩:=h
 exact⟨rfl,by intro c hc;simp[jE] at hc;rcases hc with rfl | rfl <;> rfl⟩
theorem sA (l:List (Int×Int)):∀ r∈(Xe l).toList,gW r:=by
 intro r hr
 simp[Xe] at hr
 obtain⟨a,b,_,rfl⟩:=hr
 exact⟨(a,b),rfl⟩
theorem On (l:List (Int×Int)):(Xe l).size=l.length:=by simp[Xe]
def jd (l:List (Int×Int)) (fl:Nat) (nl:Bool):ba:=yg 2 (Xe l) fl nl
theorem wi (l:List (Int×Int)):(Yg (Xe l)).length=l.length * 2:=by
 rw[Cw fun r hr=>yw r (sA l r hr),On]
theorem tB {A:List ba} {id n fl bytes:Nat} {nl:Bool} {h:rf} {l:List (Int×Int)} (hg:A[id]? =some (jd l fl nl)) (hn:n=l.length) (hr:mb (n+1) bytes) (p:Int×Int):
 Ob A true h 2 true bytes (.own id n) (.pv (.lit 2 [pr p]))=some (.own id (n+1),A.set id (jd (l++[p]) fl false)):=by
 subst hn
 have hl:=wi l
 have e:Yg (Xe (l++[p]))=Yg (Xe l)++[.pv (i64 p.1),.pv (i64 p.2)]:=by
  simp[Yg,Xe,jE]
 simp only[Ob,if_true,hg,jd,yg,cj,Je,Option.map_some,Option.bind_some,flat,PV.cells,pr,List.append_nil,List.map_cons,List.map_nil,List.length_cons,List.length_nil,e]
 rw[if_pos]
 ·simp
 ·exact⟨trivial,by omega,hr,rfl⟩
theorem eC (H:List ba) (d:Nat) (l:List PV):Pa (Vb H d) (l.map .pv)=some l:=by
 induction l with
 |nil=>rfl
 |cons a l ih=>simp only[List.map_cons,Pa,jg,Option.bind_some,ih]
theorem YA:∀ (l:List (Int×Int)),chunk 2 true l.length ((l.map jE).flatten)=Jd l
 | []=>rfl
 |p::l=>by
  have ih:=YA l
  simp only[List.length_cons,List.map_cons,List.flatten_cons,chunk,if_true,jE] at ih ⊢
  simp only[List.cons_append,List.nil_append,List.take_succ_cons,List.take_zero,List.drop_succ_cons,List.drop_zero,Jd,List.map_cons]
  rw[ih]
theorem DO {A:List ba} {id n fl:Nat} {nl:Bool} {l:List (Int×Int)} (hg:A[id]? =some (jd l fl nl)) (hn:n=l.length) (d:Nat):Vb A (d+1) (.own id n)=some (if nl then .fa else .lit 2 (Jd l)):=by
 subst hn
 have hl:=wi l
 have e:Yg (Xe l)=((l.map jE).flatten).map .pv:=by simp[Yg,Xe]
 simp only[Vb,hg,jd,yg]
 rw[if_pos ⟨by omega,rfl⟩,e,eC]
 cases nl with
 |true=>rfl
 |false=>simp only[Bool.false_eq_true,if_false,Option.map_some,YA]
theorem Ox (A:List ba) (x y:AV) (p:Int×Int):La (A++[.box [x,y]]) 2 (.ptr A.length 0) (.pv (pr p))=some (A++[.box [.pv (i64 p.1),.pv (i64 p.2)]]):=by
 simp only[La,AV.cells,PV.cells,pr,List.map_cons,List.map_nil,List.length_cons,List.length_nil,List.all,AV.one,gj,sn]
 simp[na]
theorem Xz (A:List ba) (p:Int×Int):ya (A++[.box [.pv (i64 p.1),.pv (i64 p.2)]]) true 2 (.ptr A.length 0)=some (.pv (pr p)):=by
 simp[ya,Dg,Hq,Vd]
theorem gq (l:List (Int×Int)) (fl:Nat) (nl:Bool) (n:Nat):oa n (jd l fl nl)=some (jd l fl nl):=yv _ _ _ _ _
abbrev HN (v:PV) (id n len i:Nat):Tr:=(((Tr.lf.set 11 (.pv (i64 i))).set 10 (.pv (i64 len))).set 9 (.pv v)).set 3 (.own id n)
theorem Gj (A:List ba) {l:List (Int×Int)} {i:Nat} (hi:i < l.length):wa A 2 (.pv (.lit 2 (Jd l))) (i:Int)=some (.pv (.rp [i64 l[i].1,i64 l[i].2] 0)):=by
 have hg:=Nq hi
 simp only[wa]
 rw[if_pos (by unfold Ga;simp;omega),Int.toNat_natCast,hg];rfl
theorem AR (A:List ba) (p:Int×Int):ya A true 2 (.pv (.rp [i64 p.1,i64 p.2] 0))=some (.pv (pr p)):=by
 simp[ya,xl]
theorem fL (call:Xa) (v:PV) (l:List (Int×Int)) (hv:Th 2 v (Jd l)) (hw:l.length * 16≤140737488355328) (H:List ba) (hH:cf H):
 og call Tc [.pv v] H=some (.own H.length l.length,H++[jd l 0 false]):=by
 have ls:=hv.len
 simp only[Jd,List.length_map] at ls
 have hid:H.length < H.length+1:=Nat.lt_succ_self _
 have hlen:∀ l',(H++[jd l' 0 false]).length=H.length+1:=fun l'=>by simp
 have hcut:∀ l',Pa (oa (H.length+1)) (H++[jd l' 0 false])=some (H++[jd l' 0 false]):=fun l'=>Ik fun o ho=>by
  rcases List.mem_append.1 ho with h | h
  ·exact hH _ (by omega) o h
  ·simp at h;subst h;exact gq _ _ _ _
 have hloop:Ld (fun r=>∃ E,r=(.exit 0,⟨E,H++[jd l 0 false]⟩)∧E.get 3= .own H.length l.length)
  (fb (ma (ta call Bc) (ga (H.length+1) [3,9,10,11])) qa ⟨HN v H.length 0 l.length 0,H++[jd [] 0 false]⟩):=by
  refine xa (yb (g:=ma (ta call Bc) (ga (H.length+1) [3,9,10,11]))
   (fun i t=>t=⟨HN v H.length i l.length i,H++[jd (l.take i) 0 false]⟩)
   l.length (by unfold qa;omega) _ rfl ?_ ?_) (fun r h=>h.2)
  ·rintro i t hi rfl
   have hv:=hv.lit (i:=i) (by simpa using hi)
   subst hv
   have e1:decide ((i:Int) < (l.length:Int))=true:=Ea (by omega)
   have t2:=Va hi (by unfold maxLen;omega)
   have a1:=Gj (H++[jd (l.take i) 0 false]) hi
   have l1:=AR (H++[jd (l.take i) 0 false]) l[i]
   have s1:=Ox (H++[jd (l.take i) 0 false]) (.pv (i64 0)) (.pv (i64 0)) l[i]
   have l2:=Xz (H++[jd (l.take i) 0 false]) l[i]
   have hap:=tB (A:=H++[jd (l.take i) 0 false]++[.box [.pv (i64 l[i].1),.pv (i64 l[i].2)]]) (id:=H.length) (n:=i) (h:= .own) (bytes:=16) (by rw[List.getElem?_append_left (by simp)];exact gj _ _) (by simp;omega) (by unfold mb;omega) l[i]
   rw[List.set_append_left _ _ (by simp),sn,←List.take_succ_eq_append_getElem hi] at hap
   have htk:(H++[jd (l.take (i+1)) 0 false]++[ba.box [.pv (i64 l[i].1),.pv (i64 l[i].2)]]).take (H.length+1)=H++[jd (l.take (i+1)) 0 false]:=by
    rw[List.take_append_of_le_length (by simp),List.take_of_length_le (by simp)]
   have hc:=hcut (l.take (i+1))
   generalize l[i]=p at *
   generalize hQ:LN _ _ i=Q
   simp -implicitDefEqProofs only[SP,WP,na,sevalprocAttr,Bc,e1,t2,a1,l1,s1,l2,hap,htk,hc,hid,ga,za,AV.cut,pa,HN]
   subst hQ
   rfl
  ·rintro t rfl
   rw[List.take_length]
   have e1:decide ((l.length:Int) < (l.length:Int))=false:=Fa (by omega)
   generalize hQ:(fun r:Ex×St=>r.1.stop=true∧_)=Q
   simp -implicitDefEqProofs only[SX,sevalprocAttr,Bc,e1,HN]
   subst hQ
   exact⟨rfl,_,rfl,by simp[Tr.aa]⟩
 have h2:(0:Int)≤(l.length:Int):=by omega
 have h3:mb l.length 16:=by unfold mb;omega
 have n0:(0:Int).toNat=0:=rfl
 have ho:ba.seq 2 true [] 0 false=jd [] 0 false:=rfl
 apply Rm
 simp -implicitDefEqProofs only[SX,sevalprocAttr,Tc,Cb,ls,Int.le_refl,eq_true h2,eq_true h3,n0,ho,hlen,hcut,hid,List.take_of_length_le (show (H++[jd [] 0 false]).length≤H.length+1 by simp),ga,za,AV.cut,pa]
 refine xa hloop ?_
 rintro _ ⟨E,rfl,hE⟩
 simp -implicitDefEqProofs only[SX,sevalprocAttr,hE]
end Go.AM.B1
namespace Go.AM.B1
open Go.AM Go.AM.So
theorem Kg {A:List ba} {id n sz bytes:Nat} {nl ag:Bool} {h:rf} {es:List PV} (hg:A[id]? =some (.tok sz n nl)) (hn:n=es.length) (hr:mb (n+1) bytes) (e:PV):
 Ob A false h sz ag bytes (.uq id nl sz es) (.pv (.lit sz [e]))=some (.uq id false sz (es++[e]),A.set id (.tok sz (n+1) false)):=by
 subst hn
 simp only[Ob,Bool.false_eq_true,if_false,hg,Je,if_true,Option.bind_some,List.length_cons,List.length_nil]
 rw[if_pos ⟨trivial,trivial,trivial,hr⟩]
 simp
abbrev uN (id n i tk:Nat) (nl:Bool) (es:List PV):Tr:=(((Tr.lf.set 11 (.pv (i64 i))).set 10 (.pv (i64 n))).set 9 (.own id n)).set 3 (.uq tk nl 2 es)
theorem kN {A:List ba} {id fl:Nat} {nl:Bool} {l:List (Int×Int)} (hg:A[id]? =some (jd l fl nl)) (hf:fl≤l.length * 2) (hA:cf A):Hp id 2 gW A (Xe l) A:=
 Hp.refl (fl:=fl) (nl:=nl) hA (by rw[On];exact hf) hg (sA l)
theorem uD {l:List (Int×Int)} {i:Nat} (hi:i < l.length):(Xe l)[i]! =jE l[i]:=by
 rw[wX (by rw[On];exact hi)];simp[Xe]
theorem xO (call:Xa) (l:List (Int×Int)) {id fl:Nat} {nl:Bool} (H:List ba) (hH:cf H) (hg:H[id]? =some (jd l fl nl)) (hf:fl≤l.length * 2) (hw:l.length * 16≤140737488355328):
 og call qd [.own id l.length] H=some (.uq H.length false 2 (Jd l),H++[.tok 2 l.length false]):=by
 have hp:=kN hg hf hH
 have hid:id < H.length:=hp.lt
 have hid1:id < H.length+1:=by omega
 have htk:H.length < H.length+1:=Nat.lt_succ_self _
 have hl:=wi l
 have hn:l.length=(Xe l).size:=(On l).symm
 have hlen:∀ m b,(H++[ba.tok 2 m b]).length=H.length+1:=fun m b=>by simp
 have hcut:∀ m b,Pa (oa (H.length+1)) (H++[ba.tok 2 m b])=some (H++[ba.tok 2 m b]):=fun m b=>Ik fun o ho=>by
  rcases List.mem_append.1 ho with h | h
  ·exact hH _ (by omega) o h
  ·simp at h;subst h;rfl
 have hlA:∀ T,Tb (H++T) 0 (.own id l.length)=some l.length:=by
  intro T
  rw[ny,List.getElem?_append_left hid,hg]
  simp only[jd,yg]
  rw[if_pos];unfold Ih;omega
 have hlA0:Tb H 0 (.own id l.length)=some l.length:=by have:=hlA [];rwa [List.append_nil] at this
 have hloop:Ld (fun r=>∃ E,r=(.exit 0,⟨E,H++[.tok 2 l.length false]⟩)∧E.get 3= .uq H.length false 2 (Jd l))
  (fb (ma (ta call Hc) (ga (H.length+1) [3,9,10,11])) qa ⟨uN id l.length 0 H.length false [],H++[.tok 2 0 false]⟩):=by
  refine xa (yb (g:=ma (ta call Hc) (ga (H.length+1) [3,9,10,11]))
   (fun i t=>t=⟨uN id l.length i H.length false (Jd (l.take i)),H++[.tok 2 i false]⟩)
   l.length (by unfold qa;omega) _ rfl ?_ ?_) (fun r h=>h.2)
  ·rintro i t hi rfl
   have e1:decide ((i:Int) < (l.length:Int))=true:=Ea (by omega)
   have t2:=Va hi (by unfold maxLen;omega)
   have a1:=gG [.tok 2 i false] hid (hp.Pd yw hn (i:=(i:Int)) rfl (by omega))
   have l1:=ZI [.tok 2 i false] hid (hp.load yw hn (k:=i) (by omega))
   rw[uD hi] at l1
   have l1':ya (H++[.tok 2 i false]) true 2 (.Fc id (l.length * 2) (i * 2))=some (.pv (pr l[i])):=l1
   have s1:=Ox (H++[.tok 2 i false]) (.pv (i64 0)) (.pv (i64 0)) l[i]
   have l2:=Xz (H++[.tok 2 i false]) l[i]
   have hap:=Kg (A:=H++[.tok 2 i false]++[.box [.pv (i64 l[i].1),.pv (i64 l[i].2)]]) (id:=H.length) (n:=i) (h:= .uq) (ag:=true) (nl:=false) (sz:=2) (bytes:=16) (es:=Jd (l.take i)) (by rw[List.getElem?_append_left (by simp)];exact gj _ _) (by simp;omega) (by unfold mb;omega) (pr l[i])
   have hs:Jd (l.take (i+1))=Jd (l.take i)++[pr l[i]]:=by rw[List.take_succ_eq_append_getElem hi];simp only[Jd,List.map_append,List.map_cons,List.map_nil]
   rw[List.set_append_left _ _ (by simp),sn,←hs] at hap
   have htk2:(H++[ba.tok 2 (i+1) false]++[ba.box [.pv (i64 l[i].1),.pv (i64 l[i].2)]]).take (H.length+1)=H++[ba.tok 2 (i+1) false]:=by
    rw[List.take_append_of_le_length (by simp),List.take_of_length_le (by simp)]
   have hc:=hcut (i+1) false
   generalize l[i]=p at *
   generalize hes':Jd (l.take (i+1))=es' at *
   generalize Jd (l.take i)=es at *
   generalize hQ:LN _ _ i=Q
   simp -implicitDefEqProofs only[SP,WP,na,sevalprocAttr,Hc,e1,t2,a1,l1',s1,l2,hap,htk,htk2,hc,hid1,ga,za,AV.cut,pa,uN]
   subst hQ
   subst hes'
   rfl
  ·rintro t rfl
   rw[List.take_length]
   have e1:decide ((l.length:Int) < (l.length:Int))=false:=Fa (by omega)
   generalize hQ:(fun r:Ex×St=>r.1.stop=true∧_)=Q
   simp -implicitDefEqProofs only[SX,sevalprocAttr,Hc,e1,uN]
   subst hQ
   exact⟨rfl,_,rfl,by simp[Tr.aa]⟩
 have h2:(0:Int)≤(l.length:Int):=by omega
 have h3:mb l.length 16:=by unfold mb;omega
 have n0:(0:Int).toNat=0:=rfl
 apply Rm
 simp -implicitDefEqProofs only[SX,sevalprocAttr,qd,Cb,hlA,hlA0,Int.le_refl,eq_true h2,eq_true h3,n0,hlen,hcut,hid1,htk,List.take_of_length_le (show (H++[ba.tok 2 0 false]).length≤H.length+1 by simp),ga,za,AV.cut,pa]
 refine xa hloop ?_
 rintro _ ⟨E,rfl,hE⟩
 simp -implicitDefEqProofs only[SX,sevalprocAttr,hE]
def uj (x:Int) (l:List (Int×Int)):Prop:=∃ p∈l,p.1≤x∧x≤p.2
end Go.AM.B1
namespace Go.AM.B1
open Go.AM Go.AM.So
def lh:List (Int×Int)→List (Int×Int)→List (Int×Int)
 |out,[]=>out
 |out,r::rest=>match out.getLast? with
  |some q=>if r.1≤q.2+1 then lh (out.dropLast++[(q.1,if r.2 > q.2 then r.2 else q.2)]) rest else lh (out++[r]) rest
  |none=>lh (out++[r]) rest
theorem iG (r:Int×Int) (rest:List (Int×Int)):lh [] (r::rest)=lh [r] rest:=rfl
theorem fE {out rest:List (Int×Int)} {q r:Int×Int} (h:r.1≤q.2+1):lh (out++[q]) (r::rest)=lh (out++[(q.1,if r.2 > q.2 then r.2 else q.2)]) rest:=by
 rw[lh,List.getLast?_append];simp[h]
theorem cG {out rest:List (Int×Int)} {q r:Int×Int} (h:¬r.1≤q.2+1):lh (out++[q]) (r::rest)=lh (out++[q]++[r]) rest:=by
 rw[lh,List.getLast?_append];simp[h]
section
variable {A:List ba} {id fl:Nat} {nl:Bool} {out:List (Int×Int)} {q:Int×Int} (hg:A[id]? =some (jd (out++[q]) fl nl)) (hf:fl≤(out.length+1) * 2)
include hg hf
theorem SK:wa A 2 (.own id (out.length+1)) (out.length:Int)=some (.Fc id ((out.length+1) * 2) (out.length * 2)):=by
 have hl:=wi (out++[q])
 rw[List.length_append,List.length_cons,List.length_nil] at hl
 simp only[wa,hg,jd,yg]
 rw[if_pos (by refine⟨trivial,?_,?_⟩ <;> first | (unfold Ga;omega) | (unfold Ih;omega))]
 simp
omit hf in
theorem qM:place A 1 (.Fc id ((out.length+1) * 2) (out.length * 2))=some (.Fc id ((out.length+1) * 2) (out.length * 2+1)):=by
 have hl:=wi (out++[q])
 rw[List.length_append,List.length_cons,List.length_nil] at hl
 simp only[place,hg,jd,yg,hl,if_true]
omit hf in
theorem NP:ya A false 1 (.Fc id ((out.length+1) * 2) (out.length * 2+1))=some (.pv (i64 q.2)):=by
 have hl:=wi (out++[q])
 rw[List.length_append,List.length_cons,List.length_nil] at hl
 simp only[ya,hg,jd,yg,hl,if_true,Dg,Bool.false_eq_true,if_false]
 have e:Yg (Xe (out++[q]))=Yg (Xe out)++[.pv (i64 q.1),.pv (i64 q.2)]:=by simp[Yg,Xe,jE]
 have hl2:=wi out
 rw[e,List.getElem?_append_right (by omega),hl2]
 have:out.length * 2+1 - out.length * 2=1:=by omega
 rw[this];rfl
omit hf in
theorem XK (v:Int):La A 1 (.Fc id ((out.length+1) * 2) (out.length * 2+1)) (.pv (i64 v))=some (A.set id (jd (out++[(q.1,v)]) ((out.length+1) * 2) nl)):=by
 have hl:=wi (out++[q])
 rw[List.length_append,List.length_cons,List.length_nil] at hl
 have e:∀ q:Int×Int,Yg (Xe (out++[q]))=Yg (Xe out)++[.pv (i64 q.1),.pv (i64 q.2)]:=fun q=>by simp[Yg,Xe,jE]
 have hl2:=wi out
 have hs:na (Yg (Xe (out++[q]))) (out.length * 2+1) [.pv (i64 v)]=Yg (Xe (out++[(q.1,v)])):=by
  rw[e,e,na,na,List.set_append_right _ _ (by omega),hl2]
  have:out.length * 2+1 - out.length * 2=1:=by omega
  rw[this];rfl
 have hc:(AV.pv (i64 v)).cells=[.pv (i64 v)]:=rfl
 simp only[La,hg,jd,yg,hc]
 rw[if_pos ⟨rfl,rfl⟩,if_pos ⟨hl,by omega⟩,hs]
end
abbrev uB (id0 n i id1 m:Nat):Tr:=(((Tr.lf.set 11 (.pv (i64 i))).set 10 (.pv (i64 n))).set 9 (.own id0 n)).set 3 (.own id1 m)
def eM (l:List (Int×Int)):Prop:=∀ p∈l,-4611686018427387904≤p.2∧p.2≤4611686018427387904
theorem pT {a b:List (Int×Int)} (ha:eM a) (hb:eM b):eM (a++b):=by
 intro p hp
 rcases List.mem_append.1 hp with h | h
 ·exact ha p h
 ·exact hb p h
theorem aQ (call:Xa) (l:List (Int×Int)) (hl:eM l) {id0 fl0:Nat} {nl0:Bool} (H:List ba) (hH:cf H) (hg0:H[id0]? =some (jd l fl0 nl0)) (hf0:fl0≤l.length * 2) (hw:l.length≤1000000):
 Ld (fun r=>∃ E fl nl,r=(.exit 0,⟨E,H++[jd (lh [] l) fl nl]⟩)∧E.get 3= .own H.length (lh [] l).length∧fl≤(lh [] l).length * 2)
  (fb (ma (ta call Bh) (ga (H.length+1) [3,9,10,11])) qa ⟨uB id0 l.length 0 H.length 0,H++[jd [] 0 true]⟩):=by
 have hp:=kN hg0 hf0 hH
 have hid:id0 < H.length:=hp.lt
 have hid1:id0 < H.length+1:=by omega
 have htk:H.length < H.length+1:=Nat.lt_succ_self _
 have hn:l.length=(Xe l).size:=(On l).symm
 have hcut:∀ a b c,Pa (oa (H.length+1)) (H++[jd a b c])=some (H++[jd a b c]):=fun a b c=>Ik fun o ho=>by
  rcases List.mem_append.1 ho with h | h
  ·exact hH _ (by omega) o h
  ·simp at h;subst h;exact gq _ _ _ _
 refine xa (yb (g:=ma (ta call Bh) (ga (H.length+1) [3,9,10,11]))
  (fun i t=>∃ out fl nl,t=⟨uB id0 l.length i H.length out.length,H++[jd out fl nl]⟩∧fl≤out.length * 2∧eM out∧out.length≤i∧lh [] l=lh out (l.drop i))
  l.length (by unfold qa;omega) _ ⟨[],0,true,rfl,by omega,by intro p hp;simp at hp,by simp,rfl⟩ ?_ ?_) (fun r h=>h.2)
 ·rintro i t hi ⟨out,fl,nl,rfl,hfl,hsa,hle,hs⟩
  have hd:l.drop i=l[i]::l.drop (i+1):=List.drop_eq_getElem_cons hi
  rw[hd] at hs
  have hsp:=hl l[i] (List.getElem_mem hi)
  have e1:decide ((i:Int) < (l.length:Int))=true:=Ea (by omega)
  have t2:=Va hi (by unfold maxLen;omega)
  have a1:=gG [jd out fl nl] hid (hp.Pd yw hn (i:=(i:Int)) rfl (by omega))
  have l1:=ZI [jd out fl nl] hid (hp.load yw hn (k:=i) (by omega))
  rw[uD hi] at l1
  have l1':ya (H++[jd out fl nl]) true 2 (.Fc id0 (l.length * 2) (i * 2))=some (.pv (pr l[i])):=l1
  have s1:=Ox (H++[jd out fl nl]) (.pv (i64 0)) (.pv (i64 0)) l[i]
  have l2:=Xz (H++[jd out fl nl]) l[i]
  have b0:∀ p:Int×Int,place (H++[jd out fl nl]++[ba.box [.pv (i64 p.1),.pv (i64 p.2)]]) 0 (.ptr (H++[jd out fl nl]).length 0)=some (.ptr (H++[jd out fl nl]).length 0):=fun p=>by simp[place]
  have b1:∀ p:Int×Int,place (H++[jd out fl nl]++[ba.box [.pv (i64 p.1),.pv (i64 p.2)]]) 1 (.ptr (H++[jd out fl nl]).length 0)=some (.ptr (H++[jd out fl nl]).length 1):=fun p=>by simp[place]
  have b2:∀ p:Int×Int,ya (H++[jd out fl nl]++[ba.box [.pv (i64 p.1),.pv (i64 p.2)]]) false 1 (.ptr (H++[jd out fl nl]).length 0)=some (.pv (i64 p.1)):=fun p=>by simp[ya,Dg]
  have b3:∀ p:Int×Int,ya (H++[jd out fl nl]++[ba.box [.pv (i64 p.1),.pv (i64 p.2)]]) false 1 (.ptr (H++[jd out fl nl]).length 1)=some (.pv (i64 p.2)):=fun p=>by simp[ya,Dg]
  have hap:=tB (A:=H++[jd out fl nl]++[.box [.pv (i64 l[i].1),.pv (i64 l[i].2)]]) (id:=H.length) (n:=out.length) (h:= .own) (bytes:=16) (by rw[List.getElem?_append_left (by simp)];exact gj _ _) rfl (by unfold mb;omega) l[i]
  rw[List.set_append_left _ _ (by simp),sn] at hap
  have htk2:∀ (o o2:ba),(H++[o]++[o2]).take (H.length+1)=H++[o]:=fun o o2=>by
   rw[List.take_append_of_le_length (by simp),List.take_of_length_le (by simp)]
  have hlen:Tb (H++[jd out fl nl]++[.box [.pv (i64 l[i].1),.pv (i64 l[i].2)]]) 0 (.own H.length out.length)=some out.length:=by
   rw[ny,List.getElem?_append_left (by simp),gj]
   have:=wi out
   simp only[jd,yg]
   rw[if_pos];unfold Ih;omega
  rcases List.eq_nil_or_concat out with rfl | ⟨out,q,rfl⟩
  ·have hz:decide (((0:Nat):Int) > 0)=false:=by decide
   rw[iG] at hs
   rw[List.length_nil] at hap hlen
   rw[Nat.zero_add,List.nil_append] at hap
   generalize l[i]=p at *
   generalize hQ:LN _ _ i=Q
   simp -implicitDefEqProofs only[SP,WP,na,sevalprocAttr,Bh,e1,t2,a1,l1',s1,l2,hlen,hz,hap,htk2,hcut,hid1,htk,ga,za,AV.cut,pa,uB]
   subst hQ
   exact⟨[p],fl,false,rfl,by simp at hfl ⊢;omega,by intro x hx;simp at hx;subst hx;exact hsp,by simp,hs⟩
  ·rw[List.concat_eq_append] at *
   have hql:=hsa q (by simp)
   have hol:(out++[q]).length=out.length+1:=by simp
   have hg1:(H++[jd (out++[q]) fl nl]++[ba.box [.pv (i64 l[i].1),.pv (i64 l[i].2)]])[H.length]? =some (jd (out++[q]) fl nl):=by rw[List.getElem?_append_left (by simp)];exact gj _ _
   have c1:=SK hg1 (by rw[hol] at hfl;exact hfl)
   have c2:=qM hg1
   have c3:=NP hg1
   have c4:=XK hg1 (if l[i].2 > q.2 then l[i].2 else q.2)
   rw[List.set_append_left _ _ (by simp),sn] at c4
   have t3:IntKind.i64.wrap (((out.length+1:Nat):Int) - 1)=(out.length:Int):=by rw[Ba (by omega)];omega
   have t4:IntKind.i64.wrap (q.2+1)=q.2+1:=Ba (by omega)
   have hz:decide (((out.length+1:Nat):Int) > 0)=true:=Ea (by omega)
   rw[hol] at hlen hap hfl hle
   by_cases hj:l[i].1≤q.2+1
   ·have e2:decide (l[i].1≤q.2+1)=true:=Ea hj
    rw[fE hj] at hs
    generalize l[i]=p at *
    generalize hmx:(if p.2 > q.2 then p.2 else q.2)=mx at *
    generalize hQ:LN _ _ i=Q
    simp -implicitDefEqProofs only[SP,WP,na,sevalprocAttr,Bh,e1,t2,a1,l1',s1,l2,hol,hlen,hz,b0,b1,b2,b3,c1,c2,c3,c4,t3,t4,e2,No,oe,hmx,htk2,hcut,hid1,htk,ga,za,AV.cut,pa,uB]
    subst hQ
    refine⟨out++[(q.1,mx)],(out.length+1) * 2,nl,by simp[uB,hol],by simp,?_,by simp;omega,hs⟩
    intro x hx
    rcases List.mem_append.1 hx with h | h
    ·exact hsa x (by simp[h])
    ·simp at h;subst h
     rw[← hmx];split <;> simp only <;> omega
   ·have e2:decide (l[i].1≤q.2+1)=false:=Fa hj
    rw[cG hj] at hs
    generalize l[i]=p at *
    generalize hQ:LN _ _ i=Q
    simp -implicitDefEqProofs only[SP,WP,na,sevalprocAttr,Bh,e1,t2,a1,l1',s1,l2,hol,hlen,hz,b0,b1,b2,b3,c1,c2,c3,t3,t4,e2,hap,htk2,hcut,hid1,htk,ga,za,AV.cut,pa,uB]
    subst hQ
    refine⟨out++[q]++[p],fl,false,by simp[uB],by simp;omega,?_,by simp;omega,hs⟩
    exact pT hsa (by intro x hx;simp at hx;subst hx;exact hsp)
 ·rintro t ⟨out,fl,nl,rfl,hfl,hsa,hle,hs⟩
  rw[List.drop_length,lh] at hs
  have e1:decide ((l.length:Int) < (l.length:Int))=false:=Fa (by omega)
  generalize hQ:(fun r:Ex×St=>r.1.stop=true∧_)=Q
  simp -implicitDefEqProofs only[SX,sevalprocAttr,Bh,e1,uB]
  subst hQ
  rw[hs]
  exact⟨rfl,_,fl,nl,rfl,by simp[Tr.aa],hfl⟩
end Go.AM.B1
namespace Go.AM.B1
open Go.AM Go.AM.So
def iy (last:Int) (a:List (Int×Int)):Int:=(a.getLast?.map (·.2)).getD last
theorem BK (last:Int) (p:Int×Int) (a:List (Int×Int)):iy last (p::a)=iy p.2 a:=by
 cases a with
 |nil=>rfl
 |cons q a=>simp[iy,List.getLast?_cons]
theorem XJ (last:Int) (a:List (Int×Int)) (q:Int×Int):iy last (a++[q])=q.2:=by simp[iy]
theorem Xt (top:Int):∀ (a b:List (Int×Int)) (last:Int),Na top last (a++b)=(Na top last a&&Na top (iy last a) b)
 | [],b,last=>by simp[Na,iy]
 |p::a,b,last=>by
  rw[List.cons_append,Na,Na,Xt top a b p.2,BK,Bool.and_assoc]
theorem fq {top last:Int} {p:Int×Int}:Na top last [p]=true↔0≤p.1∧p.1≤p.2∧p.2≤top∧last < p.1 - 1:=by
 simp only[Na,Bool.and_true,Bool.not_eq_true',Bool.or_eq_false_iff,decide_eq_false_iff_not]
 constructor <;> intro h <;> refine⟨?_,?_⟩ <;> omega
theorem Rr (x:Int) (a b:List (Int×Int)):uj x (a++b)↔uj x a∨uj x b:=by
 unfold uj
 simp only[List.mem_append]
 constructor
 ·rintro⟨p,h | h,hp⟩
  ·exact .inl ⟨p,h,hp⟩
  ·exact .inr ⟨p,h,hp⟩
 ·rintro (⟨p,h,hp⟩ | ⟨p,h,hp⟩)
  ·exact⟨p,.inl h,hp⟩
  ·exact⟨p,.inr h,hp⟩
theorem Nn (x:Int) (p:Int×Int):uj x [p]↔p.1≤x∧x≤p.2:=by
 unfold uj;simp
theorem wm (x:Int):¬uj x []:=by unfold uj;simp
theorem El (x:Int) (p:Int×Int) (l:List (Int×Int)):uj x (p::l)↔(p.1≤x∧x≤p.2)∨uj x l:=by
 unfold uj;simp
theorem iA {top:Int}:∀ (rest out:List (Int×Int)) (q:Int×Int),Na top (-2) (out++[q])=true→(∀ p∈rest,0≤p.1∧p.1≤p.2∧p.2≤top∧q.1≤p.1)→rest.Pairwise (fun p q=>p.1≤q.1)→
 Na top (-2) (lh (out++[q]) rest)=true∧(∀ x,uj x (lh (out++[q]) rest)↔uj x (out++[q])∨uj x rest)∧(lh (out++[q]) rest).length≤out.length+1+rest.length
 | [],out,q,hv,_,_=>by
   rw[lh]
   exact⟨hv,fun x=>by simp[wm],by simp⟩
 |r::rest,out,q,hv,hr,hs=>by
  have h1:=hr r (by simp)
  rw[List.pairwise_cons] at hs
  have hv':=hv
  rw[Xt,Bool.and_eq_true,fq] at hv'
  by_cases hj:r.1≤q.2+1
  ·rw[fE hj]
   have ih:=iA rest out (q.1,if r.2 > q.2 then r.2 else q.2) (by
    rw[Xt,Bool.and_eq_true,fq]
    refine⟨hv'.1,hv'.2.1,?_,?_,hv'.2.2.2.2⟩ <;> simp only <;> split <;> omega) (fun p hp=>by
     have:=hr p (by simp[hp])
     exact⟨this.1,this.2.1,this.2.2.1,this.2.2.2⟩) hs.2
   refine⟨ih.1,fun x=> ?_,by have:=ih.2.2;simp only[List.length_cons];omega⟩
   rw[ih.2.1,Rr,Rr,Nn,Nn,El]
   have e:(q.1≤x∧x≤(if r.2 > q.2 then r.2 else q.2))↔(q.1≤x∧x≤q.2)∨(r.1≤x∧x≤r.2):=by
    split <;> constructor <;> intro h <;> omega
   simp only[e]
   constructor
   ·rintro ((h | h | h) | h)
    ·exact .inl (.inl h)
    ·exact .inl (.inr h)
    ·exact .inr (.inl h)
    ·exact .inr (.inr h)
   ·rintro ((h | h) | h | h)
    ·exact .inl (.inl h)
    ·exact .inl (.inr (.inl h))
    ·exact .inl (.inr (.inr h))
    ·exact .inr h
  ·rw[cG hj]
   have ih:=iA rest (out++[q]) r (by
    rw[Xt,Bool.and_eq_true,fq,XJ]
    exact⟨hv,h1.1,h1.2.1,h1.2.2.1,by omega⟩) (fun p hp=>by
     have h2:=hr p (by simp[hp])
     exact⟨h2.1,h2.2.1,h2.2.2.1,hs.1 p hp⟩) hs.2
   refine⟨ih.1,fun x=> ?_,by have:=ih.2.2;simp only[List.length_cons,List.length_append,List.length_nil] at this ⊢;omega⟩
   rw[ih.2.1,Rr,Nn,El]
   constructor
   ·rintro ((h | h) | h)
    ·exact .inl h
    ·exact .inr (.inl h)
    ·exact .inr (.inr h)
   ·rintro (h | h | h)
    ·exact .inl (.inl h)
    ·exact .inl (.inr h)
    ·exact .inr h
theorem MP {top:Int} (l:List (Int×Int)) (hr:∀ p∈l,0≤p.1∧p.1≤p.2∧p.2≤top) (hs:l.Pairwise (fun p q=>p.1≤q.1)):
 Na top (-2) (lh [] l)=true∧(∀ x,uj x (lh [] l)↔uj x l)∧(lh [] l).length≤l.length:=by
 cases l with
 |nil=>exact⟨rfl,fun x=>Iff.rfl,Nat.le_refl _⟩
 |cons r rest=>
  rw[iG]
  have h1:=hr r (by simp)
  rw[List.pairwise_cons] at hs
  have:=iA rest [] r (by rw[List.nil_append,fq];exact⟨h1.1,h1.2.1,h1.2.2,by omega⟩) (fun p hp=>by
   have h2:=hr p (by simp[hp])
   exact⟨h2.1,h2.2.1,h2.2.2,hs.1 p hp⟩) hs.2
  rw[List.nil_append] at this
  refine⟨this.1,fun x=> ?_,by have:=this.2.2;simp at this ⊢;omega⟩
  rw[this.2.1,Nn,El]
theorem Wm {top:Int}:∀ {l:List (Int×Int)} {last:Int},Na top last l=true→∀ p∈l,0≤p.1∧p.1≤p.2∧p.2≤top
 |q::l,last,h,p,hp=>by
  obtain⟨h1,h2,h3,h4,h5⟩:=ee h
  rcases List.mem_cons.1 hp with rfl | hp
  ·exact⟨by omega,by omega,by omega⟩
  ·exact Wm h5 p hp
theorem wz:∀ (l:List (Int×Int)),Yg (Xe l)=Bf (l.flatMap fun p=>[p.1,p.2])
 | []=>rfl
 |p::l=>by
  have h:=wz l
  simp only[Yg,Xe,Bf] at h ⊢
  simp[jE,h]
theorem xD:∀ (l:List (Int×Int)),ch 2 l.length (l.flatMap fun p=>[p.1,p.2])=l.map fun p=>[p.1,p.2]
 | []=>rfl
 |p::l=>by
  rw[List.length_cons,ch,List.flatMap_cons,List.map_cons,←xD l];rfl
theorem nO {l:List (Int×Int)} (hw:l.length < 50) {H:List ba} {id fl:Nat} {nl:Bool} (hg:H[id]? =some (jd l fl nl)):
 ∃ l',l'.Perm l∧l'.Pairwise (fun p q=>p.1≤q.1)∧Ny 2 0 23 [.own id l.length,.Gk 23 []] H=some (.pv (.oc []),H.set id (jd l' (l.length * 2) nl)):=by
 obtain⟨s1,s2,s3⟩:=qy 2 0 (l.map fun p=>[p.1,p.2]).toArray
 have hso:∀ F,yC (Yg (Xe l))=some F→ch 2 l.length F=l.map fun p=>[p.1,p.2]:=by
  intro F hF
  rw[wz,Gu] at hF
  injection hF with hF
  rw[← hF,xD]
 generalize hE:Zn 2 0 (l.map fun p=>[p.1,p.2]).toArray=E at *
 have hEl:∃ l':List (Int×Int),E.toList=l'.map fun p=>[p.1,p.2]:=by
  have key:∀ (L:List (List Int)),(∀ r∈L,∃ p:Int×Int,r=[p.1,p.2])→∃ l':List (Int×Int),L=l'.map fun p=>[p.1,p.2]:=by
   intro L
   induction L with
   |nil=>intro _;exact⟨[],rfl⟩
   |cons r L ih=>
    intro h
    obtain⟨p,rfl⟩:=h r (by simp)
    obtain⟨l',rfl⟩:=ih fun x hx=>h x (by simp[hx])
    exact⟨p::l',rfl⟩
  refine key _ fun r hr=> ?_
  have:=s2.mem_iff.1 hr
  simp only[List.mem_map] at this
  obtain⟨p,_,rfl⟩:=this
  exact⟨p,rfl⟩
 obtain⟨l',hl'⟩:=hEl
 have hs:E.size=l.length:=by rw[s1];simp
 have hll:l'.length=l.length:=by rw[← hs,←Array.length_toList,hl',List.length_map]
 refine⟨l',?_,?_,?_⟩
 ·rw[hl'] at s2
  have:=s2.map fun r=>(r.getD 0 0,r.getD 1 0)
  simpa[List.map_map,Function.comp_def] using this
 ·rw[List.pairwise_iff_getElem]
  intro i j hi hj hij
  have h:=s3 i j hij (by simp;omega)
  have hg:∀ q (hq:q < l'.length),mw 2 0 E[q]! =l'[q].1:=by
   intro q hq
   have h1:q < E.size:=by omega
   have:E[q]=[l'[q].1,l'[q].2]:=by
    have h2:E.toList[q]? =some [l'[q].1,l'[q].2]:=by rw[hl',List.getElem?_map,List.getElem?_eq_getElem hq];rfl
    rw[Array.getElem?_toList,Array.getElem?_eq_getElem h1] at h2
    exact Option.some.inj h2
   rw[getElem!_pos E q h1,this];rfl
  rw[hg i hi,hg j hj] at h
  omega
 ·have hfl:=wi l
  unfold Ny
  simp only[hg,jd,yg]
  rw[if_pos ⟨trivial,trivial,by rw[hfl],by omega⟩]
  have hF:=wz l
  have hI:=Gu (l.flatMap fun p=>[p.1,p.2])
  rw[← hF] at hI
  rw[hI,Option.map_some,hso _ hI,hE,hl',hfl]
  have e:Bf (List.map (fun p:Int×Int=>[p.1,p.2]) l').flatten=Yg (Xe l'):=by rw[wz,List.flatMap_def]
  rw[e]
theorem kO (d:Nat) (args:List AV) (H:List ba):fh Hj Ib (d+1) 22 args H=Ny 2 0 23 args H:=rfl
theorem vR (l:List (Int×Int)) (hl:eM l) {id0 fl0:Nat} {nl0:Bool} (H:List ba) (hH:cf H) (hg0:H[id0]? =some (jd l fl0 nl0)) (hf0:fl0≤l.length * 2) (hw:l.length < 50):
 Ld (fun r=>∃ l' fl nl,l'.Perm l∧l'.Pairwise (fun p q=>p.1≤q.1)∧r.1= .own (r.2.length - 1) (lh [] l').length∧cf r.2∧r.2[r.2.length - 1]? =some (jd (lh [] l') fl nl)∧fl≤(lh [] l').length * 2)
  (og (fh Hj Ib 7) En [.own id0 l.length] H):=by
 obtain⟨l',hpl,hps,hst⟩:=nO hw hg0
 have hid0:=(List.getElem?_eq_some_iff.1 hg0).1
 have hs2:l'.length=l.length:=hpl.length_eq
 have hg:(H.set id0 (jd l' (l.length * 2) nl0))[id0]? =some (jd l' (l.length * 2) nl0):=List.getElem?_set_self hid0
 have hgd:cf (H.set id0 (jd l' (l.length * 2) nl0)):=by
  intro n hn o ho
  rcases List.mem_or_eq_of_mem_set ho with h | h
  ·exact hH n (by simpa using hn) o h
  ·subst h;exact gq _ _ _ _
 have hfl:l.length * 2≤l'.length * 2:=by omega
 simp -implicitDefEqProofs only[SX,sevalprocAttr,En,kO,hst]
 generalize H.set id0 (jd l' (l.length * 2) nl0)=H2 at *
 have hl':eM l':=fun p hpp=>hl p (hpl.mem_iff.1 hpp)
 have hlp:=aQ (fh Hj Ib 7) l' hl' H2 hgd hg hfl (by omega)
 rw[hs2] at hlp
 have hlen:Tb (H2++[jd [] 0 true]) 0 (.own id0 l.length)=some l.length:=by
  have hid:id0 < H2.length:=(List.getElem?_eq_some_iff.1 hg).1
  have:=wi l'
  rw[ny,List.getElem?_append_left hid,hg]
  simp only[jd,yg]
  unfold Yg at this ⊢
  rw[if_pos];unfold Ih;omega
 have hg2:H2.length < H2.length+1:=Nat.lt_succ_self _
 have hid1:id0 < H2.length+1:=by have:=(List.getElem?_eq_some_iff.1 hg).1;omega
 have hgood:cf (H2++[jd [] 0 true]):=by
  intro n hn o ho
  rcases List.mem_append.1 ho with h | h
  ·exact hgd n (by simp at hn;omega) o h
  ·simp at h;subst h;exact gq _ _ _ _
 have hcut:=cf.cut hgood
 have hlen1:(H2++[jd [] 0 true]).length=H2.length+1:=by simp
 rw[hlen1] at hcut
 have hz:(0 < 2)=True:=by simp
 have ho:ba.seq 2 true [] 0 true=jd [] 0 true:=rfl
 simp -implicitDefEqProofs only[SX,sevalprocAttr,Cb,qe,hz,ho,hlen,hlen1,hcut,hg2,hid1,List.take_of_length_le (show (H2++[jd [] 0 true]).length≤H2.length+1 by simp),ga,za,AV.cut,pa]
 refine xa hlp ?_
 rintro _ ⟨E,fl2,nl2,rfl,hE,hfl2⟩
 simp -implicitDefEqProofs only[SX,sevalprocAttr,hE]
 refine⟨l',fl2,nl2,hpl,hps,by simp,?_,by simp,hfl2⟩
 intro n hn o ho
 rcases List.mem_append.1 ho with h | h
 ·exact hgd n (by simp at hn;omega) o h
 ·simp at h;subst h;exact gq _ _ _ _
end Go.AM.B1
namespace Go.AM.B1
open Go.AM Go.AM.So
abbrev Kx:Int:=1073741823
theorem aP {A:List ba} {id1 id2 n1 n2 f1 f2 bytes:Nat} {k1 k2:Bool} {h:rf} {a b:List (Int×Int)} (h1:A[id1]? =some (jd a f1 k1)) (h2:A[id2]? =some (jd b f2 k2)) (hn1:n1=a.length) (hn2:n2=b.length) (hr:mb (n1+n2) bytes):
 ∃ k,Ob A true h 2 true bytes (.own id1 n1) (.own id2 n2)=some (.own id1 (n1+n2),A.set id1 (jd (a++b) f1 k)):=by
 subst hn1 hn2
 have la:=wi a
 have lb:=wi b
 have e:Yg (Xe (a++b))=Yg (Xe a)++Yg (Xe b):=by simp[Yg,Xe]
 have hone:(Yg (Xe b)).all AV.one=true:=by
  rw[List.all_eq_true]
  intro v hv
  obtain⟨c,hc,rfl⟩:=List.mem_map.1 hv
  rw[List.mem_flatten] at hc
  obtain⟨r,hr,hc⟩:=hc
  exact (yw r (sA b r hr)).2 c hc
 refine⟨k1&&(b.length==0),?_⟩
 simp only[Ob,if_true,h1,jd,yg,cj,h2,e]
 rw[if_pos ⟨trivial,by omega⟩]
 simp only[Option.bind_some]
 rw[if_pos ⟨trivial,by omega,hr,hone⟩]
theorem Mo (v:PV) (l:List (Int×Int)) (hv:Th 2 v (Jd l)) (hw:l.length * 16≤140737488355328) (hval:Na Kx (-2) l=true) (H:List ba) (hH:cf H):
 og (fh Hj Ib 7) xi [.pv v] H=some (.own H.length l.length,H++[jd l 0 false]):=by
 have h1:=fL (fh Hj Ib 6) v l hv hw H hH
 have h2:=Js (.lit 2 (Jd l)) l (.inr rfl) (by unfold maxLen;omega) Kx (by decide)
 rw[hval] at h2
 have h0:∀ args H,fh Hj Ib 7 0 args H=og (fh Hj Ib 6) Tc args H:=fun _ _=>rfl
 have h3:=DO (A:=H++[jd l 0 false]) (id:=H.length) (n:=l.length) (gj _ _) rfl 5
 rw[if_neg (by simp)] at h3
 simp -implicitDefEqProofs only[SX,sevalprocAttr,xi,h0,h1,h2,h3]
theorem VK {H:List ba} (hH:cf H) {o:ba} (ho:∀ n,oa n o=some o):cf (H++[o]):=by
 intro n hn x hx
 rcases List.mem_append.1 hx with h | h
 ·exact hH n (by simp at hn;omega) x h
 ·simp at h;subst h;exact ho n
theorem tP (A B:PV) (a b:List (Int×Int)) (hA:Th 2 A (Jd a)) (hB:Th 2 B (Jd b)) (hva:Na Kx (-2) a=true) (hvb:Na Kx (-2) b=true) (hl:a.length+b.length < 50):
 ∃ u,gl [A,B]=some (.lit 2 (Jd u))∧Na Kx (-2) u=true∧(∀ x,uj x u↔uj x a∨uj x b)∧u.length≤a.length+b.length:=by
 have h1:=Mo A a hA (by omega) hva [] (by intro n _ o ho;simp at ho)
 have hg1:cf ([]++[jd a 0 false]):=VK (by intro n _ o ho;simp at ho) (gq _ _ _)
 have h2:=Mo B b hB (by omega) hvb ([]++[jd a 0 false]) hg1
 obtain⟨k,h3⟩:=aP (A:=[jd a 0 false,jd b 0 false]) (id1:=0) (id2:=1) (n1:=a.length) (n2:=b.length) (bytes:=16) (h:= .own) rfl rfl rfl rfl (by unfold mb;omega)
 have hg3:cf [jd (a++b) 0 k,jd b 0 false]:=by
  intro n _ o ho
  simp at ho
  rcases ho with rfl | rfl <;> exact gq _ _ _ _
 have ra:=Wm hva
 have rb:=Wm hvb
 have rab:∀ p∈a++b,0≤p.1∧p.1≤p.2∧p.2≤Kx:=fun p hp=>by
  rcases List.mem_append.1 hp with h | h
  ·exact ra p h
  ·exact rb p h
 have h4:=vR (a++b) (fun p hp=>by have:=rab p hp;unfold Kx at this;omega) (id0:=0) [jd (a++b) 0 k,jd b 0 false] hg3 rfl (by omega) (by simp;omega)
 obtain⟨⟨v,H4⟩,e4,l',fl,nl,hpl,hps,hv,hg4,hget,hfl⟩:=ec h4
 dsimp only at hv hg4 hget
 subst hv
 have law:=MP (top:=Kx) l' (fun p hp=>rab p (hpl.mem_iff.1 hp)) hps
 have hll:(lh [] l').length≤a.length+b.length:=by have:=hpl.length_eq;simp at this;omega
 have h5:=xO (fh Hj Ib 6) (lh [] l') H4 hg4 hget hfl (by omega)
 have hmem:∀ x,uj x (lh [] l')↔uj x a∨uj x b:=by
  intro x
  rw[law.2.1,←Rr]
  unfold uj
  constructor
  ·rintro⟨p,h,hx⟩;exact⟨p,hpl.mem_iff.1 h,hx⟩
  ·rintro⟨p,h,hx⟩;exact⟨p,hpl.mem_iff.2 h,hx⟩
 refine⟨lh [] l',?_,law.1,hmem,hll⟩
 generalize lh [] l'=u at *
 simp only[List.nil_append,List.length_nil,List.cons_append,List.length_cons,Nat.zero_add] at h1 h2 h3
 rw[List.set_cons_zero] at h3
 have c1:∀ args H,fh Hj Ib 8 1 args H=og (fh Hj Ib 7) xi args H:=fun _ _=>rfl
 have c24:∀ args H,fh Hj Ib 8 24 args H=og (fh Hj Ib 7) En args H:=fun _ _=>rfl
 have c3:∀ args H,fh Hj Ib 8 3 args H=og (fh Hj Ib 7) Yj args H:=fun _ _=>rfl
 have c2:∀ args H,fh Hj Ib 7 2 args H=og (fh Hj Ib 6) qd args H:=fun _ _=>rfl
 have hab:(a++b).length=a.length+b.length:=by simp
 rw[hab] at e4
 simp -implicitDefEqProofs only[gl,fB,SP,WP,na,sevalprocAttr,Eo,c1,h1,h2,h3,c24,e4,c3,Yj,c2,h5]
theorem Ou (v:PV) (l:List (Int×Int)) (hv:Th 2 v (Jd l)) (hw:l.length * 16≤140737488355328) (hval:Na Kx (-2) l=true):Vk [v]=some (.lit 2 (Jd l)):=by
 have h1:=Gl v l hv hw
 rw[← TJ] at h1
 have h2:=Js (.lit 2 (Jd l)) l (.inr rfl) (by unfold maxLen;omega) Kx (by decide)
 rw[hval] at h2
 simp -implicitDefEqProofs only[Vk,SP,SA,SQ,sevalprocAttr,Ar,jg,Ac,h1,h2]
def Gf:Nat→List (Int×Int)→List (Int×Int)→List (Int×Int)
 |0,_,_=>[]
 |n+1,a,b=>match a,b with
  |p::a',q::b'=>(if (if q.1 > p.1 then q.1 else p.1)≤(if q.2 < p.2 then q.2 else p.2) then [((if q.1 > p.1 then q.1 else p.1),(if q.2 < p.2 then q.2 else p.2))] else [])++(if p.2 < q.2 then Gf n a' (q::b') else Gf n (p::a') b')
  |_,_=>[]
abbrev cw (va vb:PV) (tk:Nat) (nl:Bool) (es:List PV):Tr:=((Tr.lf.set 5 (.uq tk nl 2 es)).set 1 (.pv vb)).set 0 (.pv va)
theorem Th.dW {v:PV} {p:PV} {es:List PV} (h:Th 2 v (p::es)):∀ H,Ze H 2 (.pv v) (some 1) none=some (.pv (.lit 2 es)):=by
 intro H
 rcases h with⟨_,h⟩ | rfl
 ·cases h
 ·simp[Ze]
  omega
theorem OI (A B:PV) (a b:List (Int×Int)) (hA:Th 2 A (Jd a)) (hB:Th 2 B (Jd b)) (hw:(a.length+b.length) * 16≤140737488355328):
 ∃ u,Ll [A,B]=some u∧Th 2 u (Jd (Gf (a.length+b.length) a b)):=by
 have hloop:Ld (fun r=>∃ E H nl,r=(.exit 0,⟨E,H⟩)∧E.get 5= .uq 0 nl 2 (Jd (Gf (a.length+b.length) a b))∧(nl=true→Gf (a.length+b.length) a b=[]))
  (fb (ma (ta (Ca (fun _=>none) 8) Xf) (ga 1 [0,1,5])) qa ⟨cw A B 0 true [],[.tok 2 0 true]⟩):=by
  refine xa (Np (g:=ma (ta (Ca (fun _=>none) 8) Xf) (ga 1 [0,1,5]))
   (fun m t=>∃ va vb a' b' nl out,m=a'.length+b'.length∧Th 2 va (Jd a')∧Th 2 vb (Jd b')∧t=⟨cw va vb 0 nl (Jd out),[.tok 2 out.length nl]⟩∧out.length+m≤a.length+b.length∧(nl=true→out=[])∧Gf (a.length+b.length) a b=out++Gf m a' b')
   qa (a.length+b.length) _ (by unfold qa;omega) ⟨A,B,a,b,true,[],rfl,hA,hB,rfl,by simp,fun _=>rfl,rfl⟩ ?_) (fun r h=>h.2)
  rintro m t ⟨va,vb,a',b',nl,out,rfl,ha,hb,rfl,hlen,hnl,hs⟩
  have la:=ha.len
  have lb:=hb.len
  simp only[Jd,List.length_map] at la lb
  cases a' with
  |nil=>
   have hs':Gf (a.length+b.length) a b=out:=by
    rw[hs];cases b' <;> simp[Gf]
   have z1:decide (((([]:List (Int×Int)).length:Nat):Int) > 0)=false:=by decide
   generalize hQ:LQ _ _ _=Q
   simp -implicitDefEqProofs only[SX,sevalprocAttr,Xf,la,z1,cw]
   subst hQ
   rw[hs']
   exact⟨_,_,nl,rfl,by simp[Tr.aa],hnl⟩
  |cons p a'=>
   have z1:decide ((((p::a').length:Nat):Int) > 0)=true:=Ea (by simp)
   cases b' with
   |nil=>
    have hs':Gf (a.length+b.length) a b=out:=by
     rw[hs];simp[Gf]
    have z2:decide (((([]:List (Int×Int)).length:Nat):Int) > 0)=false:=by decide
    generalize hQ:LQ _ _ _=Q
    have la':∀ H,Tb H 0 (.pv va)=some (a'.length+1):=la
    have z1':decide ((((a'.length+1):Nat):Int) > 0)=true:=z1
    have lb':∀ H,Tb H 0 (.pv vb)=some 0:=lb
    have z2':decide (((0:Nat):Int) > 0)=false:=z2
    simp -implicitDefEqProofs only[SX,sevalprocAttr,Xf,la',lb',z1',z2',cw]
    subst hQ
    rw[hs']
    exact⟨_,_,nl,rfl,by simp[Tr.aa],hnl⟩
   |cons q b'=>
    have la':∀ H,Tb H 0 (.pv va)=some (a'.length+1):=la
    have z1':decide ((((a'.length+1):Nat):Int) > 0)=true:=z1
    have lb':∀ H,Tb H 0 (.pv vb)=some (b'.length+1):=lb
    have z2':decide ((((b'.length+1):Nat):Int) > 0)=true:=Ea (by omega)
    have hva:va= .lit 2 (Jd (p::a')):=ha.lit (i:=0) (by simp)
    have hvb:vb= .lit 2 (Jd (q::b')):=hb.lit (i:=0) (by simp)
    have sa:=Th.dW ha
    have sb:=Th.dW hb
    have i1:∀ H,wa H 2 (.pv va) 0=some (.pv (.rp [i64 p.1,i64 p.2] 0)):=fun H=>by
     rw[hva];exact Gj H (i:=0) (l:=p::a') (by simp)
    have i2:∀ H,wa H 2 (.pv vb) 0=some (.pv (.rp [i64 q.1,i64 q.2] 0)):=fun H=>by
     rw[hvb];exact Gj H (i:=0) (l:=q::b') (by simp)
    have hap:=Kg (A:=[.tok 2 out.length nl]) (id:=0) (n:=out.length) (h:= .uq) (ag:=true) (nl:=nl) (sz:=2) (bytes:=16) (es:=Jd out) rfl (by simp) (by unfold mb;simp only[List.length_cons] at hlen;omega) (pr ((if q.1 > p.1 then q.1 else p.1),(if q.2 < p.2 then q.2 else p.2)))
    rw[List.set_cons_zero] at hap
    have hm:∀ n,Gf (n+1) (p::a') (q::b')=(if (if q.1 > p.1 then q.1 else p.1)≤(if q.2 < p.2 then q.2 else p.2) then [((if q.1 > p.1 then q.1 else p.1),(if q.2 < p.2 then q.2 else p.2))] else [])++(if p.2 < q.2 then Gf n a' (q::b') else Gf n (p::a') b'):=fun n=>rfl
    have hmn:(p::a').length+(q::b').length=(a'.length+b'.length+1)+1:=by simp;omega
    have l0:∀ H (x y:PV),ya H false 1 (.pv (.rp [x,y] 0))=some (.pv x):=fun H x y=>rfl
    have l1:∀ H (x y:PV),ya H false 1 (.pv (.rp [x,y] 1))=some (.pv y):=fun H x y=>rfl
    have p0:∀ H (x y:PV),place H 0 (.pv (.rp [x,y] 0))=some (.pv (.rp [x,y] 0)):=fun H x y=>rfl
    have p1:∀ H (x y:PV),place H 1 (.pv (.rp [x,y] 0))=some (.pv (.rp [x,y] 1)):=fun H x y=>rfl
    rw[hmn] at hlen
    rw[hmn,hm] at hs
    generalize hlo:(if q.1 > p.1 then q.1 else p.1)=lo at *
    generalize hhi:(if q.2 < p.2 then q.2 else p.2)=hi at *
    clear hva hvb
    have hprs:Jd (out++[(lo,hi)])=Jd out++[pr (lo,hi)]:=by simp[Jd]
    generalize hQ:LQ _ _ _=Q
    by_cases c1:lo≤hi
    ·have d1:=Ea c1
     rw[if_pos c1] at hs
     by_cases c2:p.2 < q.2
     ·have d2:=Ea c2
      rw[if_pos c2] at hs
      simp -implicitDefEqProofs only[SP,WP,na,sevalprocAttr,Xf,la',lb',z1',z2',i1,i2,l0,l1,p0,p1,No,oe,hlo,hhi,hap,d1,d2,sa,sb,ga,za,AV.cut,oa,pa,cw]
      subst hQ
      exact⟨a'.length+b'.length+1,by rw[hmn];omega,_,vb,a',q::b',false,out++[(lo,hi)],by simp;omega,.inr rfl,hb,by rw[hprs];simp[cw],by simp;omega,by simp,by rw[hs,List.append_assoc]⟩
     ·have d2:=Fa c2
      rw[if_neg c2] at hs
      simp -implicitDefEqProofs only[SP,WP,na,sevalprocAttr,Xf,la',lb',z1',z2',i1,i2,l0,l1,p0,p1,No,oe,hlo,hhi,hap,d1,d2,sa,sb,ga,za,AV.cut,oa,pa,cw]
      subst hQ
      exact⟨a'.length+b'.length+1,by rw[hmn];omega,va,_,p::a',b',false,out++[(lo,hi)],by simp;omega,ha,.inr rfl,by rw[hprs];simp[cw],by simp;omega,by simp,by rw[hs,List.append_assoc]⟩
    ·have d1:=Fa c1
     rw[if_neg c1,List.nil_append] at hs
     by_cases c2:p.2 < q.2
     ·have d2:=Ea c2
      rw[if_pos c2] at hs
      simp -implicitDefEqProofs only[SP,WP,na,sevalprocAttr,Xf,la',lb',z1',z2',i1,i2,l0,l1,p0,p1,No,oe,hlo,hhi,d1,d2,sa,sb,ga,za,AV.cut,oa,pa,cw]
      subst hQ
      exact⟨a'.length+b'.length+1,by rw[hmn];omega,_,vb,a',q::b',nl,out,by simp;omega,.inr rfl,hb,rfl,by omega,hnl,hs⟩
     ·have d2:=Fa c2
      rw[if_neg c2] at hs
      simp -implicitDefEqProofs only[SP,WP,na,sevalprocAttr,Xf,la',lb',z1',z2',i1,i2,l0,l1,p0,p1,No,oe,hlo,hhi,d1,d2,sa,sb,ga,za,AV.cut,oa,pa,cw]
      subst hQ
      exact⟨a'.length+b'.length+1,by rw[hmn];omega,va,_,p::a',b',nl,out,by simp;omega,ha,.inr rfl,rfl,by omega,hnl,hs⟩
 obtain⟨r,h1,E,H,nl,rfl,hE,hnl⟩:=ec hloop
 simp only[cw,Jd,List.map_nil] at h1
 generalize Gf (a.length+b.length) a b=u at *
 have hz:(0 < 2)=True:=by simp
 cases nl with
 |true=>
  refine⟨.fa,?_,.inl ⟨rfl,by rw[hnl rfl];rfl⟩⟩
  simp -implicitDefEqProofs only[Ll,SX,sevalprocAttr,Qq,Cb,qe,hz,ga,za,AV.cut,oa,pa,h1,hE]
 |false=>
  refine⟨.lit 2 (Jd u),?_,.inr rfl⟩
  simp -implicitDefEqProofs only[Ll,SX,sevalprocAttr,Qq,Cb,qe,hz,ga,za,AV.cut,oa,pa,h1,hE]
end Go.AM.B1
