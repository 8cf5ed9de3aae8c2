/- What functions of the program compute. -/
import Derived.Test.YtdglpnpkgngcdaaGreatO2
import Derived.Test.YtdglpnpkgngcdaaGreatO1
import Derived.Test.YtdglpnpkgngcdaaGreatA3
set_option linter.unusedVariables false
namespace Go.AM.B1
open Go.AM
def Nn:xf:=⟨1,[.tmp 2],(jQ [jb 2 false] (jr [Cv 3 0,Cv 4 0,jB 5 .neq 3 4,Cv 2 5]))⟩
theorem Hz:Ac P fo 107 Nn:=fM Go.Proofs.Tryz.func107 dN
def oj:=mc (fun _=>none) Nn
theorem mu:Na P 107 oj:=La gb Hz
def ei:xf:=⟨2,[.tmp 4],(jQ [jk 4 0] (jQ [Cv 7 0,jp 8 oj 7,Cv 5 8] (jQ [Cv 9 1,jp 10 oj 9,Cv 6 10] (.seq (jQ [Cv 11 5] (jC 11 (.seq (jQ [Cv 12 6] (jC 12 (jr [jk 4 0]) .skip)) (jr [jk 4 (-1)])) .skip)) (.seq (jQ [Cv 13 6] (jC 13 (jr [jk 4 1]) .skip)) (.seq (jQ [Cv 14 0,Cv 15 1,jB 16 .lss 14 15] (jC 16 (jr [jk 4 (-1)]) .skip)) (.seq (jQ [Cv 17 0,Cv 18 1,jB 19 .gtr 17 18] (jC 19 (jr [jk 4 1]) .skip)) (jr [jk 4 0]))))))))⟩
theorem Vw:Ac P fo 70 ei:=fM Go.Proofs.Tryz.func70 (dC mu (dC mu dN))
def Jg:=mc (fun _=>none) ei
theorem Zy:Na P 70 Jg:=La gb Vw
def ng:xf:=⟨3,[.tmp 5],(jQ [jb 5 false] (jr [Cv 6 0,Cv 7 1,jB 8 .lss 6 7,Cv 9 8,jT 10 9 (.kf 0 2),jT 11 9 (.kl 1 10),jT 12 9 (.km 0),JT 13 9 (.ki 2 11 12),jT 14 9 (.kf 0 13),jT 15 9 (.kl 1 14),JT 16 9 (.kn 0 15),jT 17 9 (.kf 0 2),jT 18 9 (.kl 1 17),jT 19 9 (.km 1),JT 20 9 (.ki 2 18 19),jT 21 9 (.kf 0 20),jT 22 9 (.kl 1 21),JT 23 9 (.kn 0 22),jT 24 9 (.kB .eql 16 23),ja 25 9 24,Cv 5 25]))⟩
theorem cy:Ac P fo 100 ng:=fM Go.Proofs.Tryz.func100 dN
def Rp:xf:=⟨1,[.cell 2 true 3,.tmp 3],(jQ [Co 1 (.box 1 (.t 0)),Co 2 (.alloc [(.bool false),(.int .i64 0),(.int .i64 0)]),jk 3 0] (jr [jL 4 1 1,Co 5 (.pG 37 [(.t 1)]),Co 6 (.Ah 25 [(.t 4),(.t 5)]),jx 7 0 6,jx 8 1 6,jS 3 2 7,Cv 3 8]))⟩
theorem nB:Ac P fo 64 Rp:=fM Go.Proofs.Tryz.func64 dN
def Mi:Nat→Option xf
 |37=>some ng
 |25=>some Kf
 |_=>none
theorem gA:Oj P fo Mi:=by
 intro ix af h
 unfold Mi at h
 split at h
 ·injection h with h;subst h;exact cy
 ·injection h with h;subst h;exact su
 ·cases h
def Fg:=mc Mi Rp
theorem wD:Na P 64 Fg:=La gA nB
def Bt:xf:=⟨2,[.tmp 4],(jQ [jR 2 1 0,jR 3 1 1,jc 4 .Iv] (jr [Co 5 (.pG 35 [(.t 2),(.t 3)]),Cv 4 5]))⟩
theorem RI:Ac P fo 135 Bt:=fM Go.Proofs.Tryz.func135 dN
def yl:xf:=⟨2,[.tmp 4],(jQ [jc 4 .Iv] (jr [Cv 5 0,jp 6 Dg 5,Cv 7 1,Co 8 (.Ah 38 [(.t 6),(.t 7)]),Cv 4 8]))⟩
theorem PG:Ac P fo 104 yl:=fM Go.Proofs.Tryz.func104 (dC an dN)
def Vj:Pa:=(.block 3 (jQ [jl 41 1 6,jl 42 1 6,jz 43 42,jf 44 0 43,jl 45 1 44,Cv 46 7,Co 47 (.conv .u8 (.t 46)),Co 48 (.Hb .lit 1 false 1 [(.int .u8 0)] [(0,(.t 47))]),Co 49 (.ku 1 false 1 45 48),jz 50 41,jf 51 0 50,jS 1 51 49] (.region [jl 52 1 6,Cv 53 7,jl 54 1 6,jz 55 54,jf 56 0 55,jl 57 1 56,jn 58 0 57,Co 59 (.conv .u16 (.t 58)),jz 60 52,jf 61 1 60,Co 62 (.kA 256 1 61 53),jS 1 62 59])))
def qk:Pa:=(.seq (jQ [Cv 20 5,jK 21 .geq 20 0] (jX 21 0)) (.seq (.block 1 (jQ [Cv 24 3,jz 25 24,jf 26 0 25,jl 27 1 26,Cv 28 5,ji 29 258 27 28,Co 6 (.alloc [.Bf]),jS 1 6 29] (jQ [jl 30 1 6,Cv 31 4,jz 32 30,jf 33 257 32,jS 1 33 31] (.seq (jQ [Jf 34 0 1,Jl 35 1 34,Cv 36 5,ji 37 1 35 36,jl 38 1 37,Co 39 (.Ah 39 [(.t 38),(.c (.int .i64 0))])] (.block 2 (.range 35 Zj (.t 39) [40] [(7,40)] Vj))) (.region [Cv 63 4,jl 64 1 6,jz 65 64,jf 66 0 65,jl 67 1 66,jn 68 0 67,jB 69 .mul 63 68,Cv 4 69]))))) (.region [Cv 22 5,jK 23 .sub 22 1,Cv 5 23])))
def Gq:xf:=⟨1,[.tmp 2],(jQ [jR 1 2 0,jc 2 .Bf] (jQ [Jf 8 0 1,Jl 9 1 8,jn 10 0 9,Co 11 (.Ng .own 258 true ([.ma]++List.replicate 256 (.int .u16 0)++[(.int .i64 0)]) 544 (.t 10) (.t 10)),Co 12 (.build [.ma] [(0,1,(.t 11))]),Co 13 (.box 1 (.t 12)),Cv 3 13] (jQ [jk 4 1] (.seq (jQ [Cv 14 3,jz 15 14,jf 16 0 15,jl 17 1 16,jn 18 0 17,jK 19 .sub 18 1,Cv 5 19] (.block 0 (.bo [1,2,3,4,5] qk))) (jr [Cv 70 3,Cv 2 70])))))⟩
theorem kG:∀ d∈tf Gq.body,Wq P (fo d.1) d.2:=by
 intro d hd
 obtain rfl:d=(35,Zj):=List.mem_singleton.1 hd
 exact Go.Proofs.NQ
theorem fG:Ac P fo 67 Gq:=pX Go.Proofs.Tryz.func67 dN (kG)
def zg:Nat→Option xf
 |39=>some yl
 |38=>some Bt
 |_=>none
theorem tE:Oj P fo zg:=by
 intro ix af h
 unfold zg at h
 split at h
 ·injection h with h;subst h;exact PG
 ·injection h with h;subst h;exact RI
 ·cases h
def Zp:=mc zg Gq
theorem yJ:Na P 67 Zp:=La tE fG
def Ch:Pa:=(jQ [jB 49 .lss 48 47] (.seq (jX 49 0) (.seq (.block 1 (jQ [Cv 50 48,ji 51 2 46 48,jL 52 2 51,Co 10 (.alloc [.ma,(.int .i64 0)]),Cv 9 50,jS 2 10 52] (jQ [Cv 53 8,Cv 54 8,jz 55 54,jf 56 4 55,jl 57 1 56,jf 58 1 10,jl 59 1 58,jf 60 1 10,jl 61 1 60,jL 62 2 10,jp 63 Om 62,jB 64 .add 61 63,jK 65 .sub 64 1,Cv 66 9,Co 67 (.build [(.int .i64 0),(.int .i64 0),(.int .i64 0)] [(0,1,(.t 59)),(1,1,(.t 65)),(2,1,(.t 66))]),Co 68 (.Hb .lit 3 true 1 [(.int .i64 0),(.int .i64 0),(.int .i64 0)] [(0,(.t 67))]),Co 69 (.append true .own 3 true 24 (.t 57) (.t 68)),jz 70 53,jf 71 4 70,jS 1 71 69] (jQ [Cv 72 8,Cv 73 8,jz 74 73,jf 75 5 74,jl 76 1 75,jf 77 0 10,jl 78 1 77,jn 79 0 78,Co 80 (.mx [(.t 76),(.t 79)]),jz 81 72,jf 82 5 81,jS 1 82 80] (.region [Cv 83 8,Cv 84 8,jz 85 84,jf 86 3 85,jl 87 1 86,jL 88 2 10,jp 89 Zp 88,Co 90 (.Hb .lit 1 false 1 [.Bf] [(0,(.t 89))]),Co 91 (.ku 1 false 8 87 90),jz 92 83,jf 93 3 92,jS 1 93 91]))))) (.region [jK 94 .add 48 1,Cv 48 94]))))
def Wi:Pa:=(jQ [jK 109 .lss 108 256] (.seq (jX 109 4) (.seq (.block 5 (jQ [Cv 110 108,Cv 14 110] (.region [Cv 111 14,Co 112 (.kA 256 1 13 111),Ce (.store 1 (.t 112) (.c (.int .i8 (-2))))]))) (.region [jK 113 .add 108 1,Cv 108 113]))))
def Zi:Pa:=(.seq (jQ [Cv 122 17,jf 123 1 16,jl 124 1 123,jB 125 .leq 122 124] (jX 125 8)) (.seq (.block 9 (.region [Cv 128 17,jf 129 2 16,jl 130 1 129,Co 131 (.conv .i8 (.t 130)),Co 132 (.kA 256 1 13 128),jS 1 132 131])) (.region [Cv 126 17,jK 127 .add 126 1,Cv 17 127])))
def fj:Pa:=(jQ [jB 117 .lss 116 115] (.seq (jX 117 6) (.seq (.block 7 (jQ [ji 118 3 114 116,jL 119 3 118,Co 16 (.alloc [(.int .i64 0),(.int .i64 0),(.int .i64 0)]),jS 3 16 119] (jQ [jf 120 0 16,jl 121 1 120,Cv 17 121] (.block 8 (.loop [8,13,16,17,101,102,103,114,115,116] Zi))))) (.region [jK 133 .add 116 1,Cv 116 133]))))
def wh:Pa:=(jQ [jB 104 .lss 103 102] (.seq (jX 104 2) (.seq (.block 3 (jQ [ji 105 1 101 103,jl 106 1 105,Cv 12 106] (jQ [Co 107 (.build (List.replicate 256 (.int .i8 0)) []),Co 13 (.alloc (List.replicate 256 (.int .i8 0))),jS 256 13 107] (.seq (jQ [jk 108 0] (.block 4 (.loop [8,12,13,101,102,103,108] Wi))) (.seq (jQ [Cv 114 12,jn 115 0 114,jk 116 0] (.block 6 (.loop [8,13,101,102,103,114,115,116] fj))) (.region [Cv 134 8,Cv 135 8,jz 136 135,jf 137 2 136,jl 138 1 137,jL 139 256 13,Co 140 (.Hb .lit 256 true 1 (List.replicate 256 (.int .i8 0)) [(0,(.t 139))]),Co 141 (.ku 256 true 256 138 140),jz 142 134,jf 143 2 142,jS 1 143 141])))))) (.region [jK 144 .add 103 1,Cv 103 144]))))
def Qh:xf:=⟨1,[.tmp 2,.tmp 3],(jQ [jR 1 1 0,jc 2 .Bf,jk 3 0] (jQ [JL 19 1 1,jp 20 Cc 19,Cv 18 20,jx 21 0 18,jx 22 1 18,Co 4 (.alloc [.ma]),jS 1 4 21,Cv 5 22] (.seq (jQ [Cv 23 5,jK 24 .eql 23 0,Cv 25 24,jF 26 25 (.km 5),jF 27 25 (.kK .eql 26 130),jo 28 25 27] (jC 28 (jQ [JL 30 1 1,jp 31 Fg 30,Cv 29 31,jx 32 0 29,jx 33 1 29,Co 6 (.alloc [(.bool false),(.int .i64 0),(.int .i64 0)]),jS 3 6 32,Cv 7 33] (jQ [jf 34 0 6,jl 35 1 34,jt 36 35] (jC 36 (.region [jk 5 111]) .skip))) .skip)) (.seq (jQ [Cv 37 5,jK 38 .neq 37 0] (jC 38 (jr [Cv 39 5,jc 2 .Bf,Cv 3 39]) .skip)) (jQ [JL 40 1 1,jp 41 xi 40,jL 42 1 4,Co 43 (.build [.ma,.ma,.ma,.ma,.ma,(.int .i64 0)] [(0,1,(.t 41)),(1,1,(.t 42))]),Co 44 (.box 6 (.t 43)),Cv 8 44] (.ghost (.Fv 8 2 256) (.ghost (.Fv 8 3 1) (.ghost (.qG 8 4 3 true) (.seq (jQ [Jf 45 0 1,Jl 46 1 45,jn 47 0 46,jk 48 0] (.block 0 (.loop [4,8,46,47,48] Ch))) (jQ [Cv 95 8,jz 96 95,jf 97 4 96,jl 98 1 97,Co 99 (.Ah 34 [(.t 98),(.f 36)])] (.seq (jQ [jf 100 0 4,jl 101 1 100,jn 102 0 101,jk 103 0] (.block 2 (.loop [8,101,102,103] wh))) (jr [Cv 145 8,Cv 2 145,jk 3 0]))))))))))))⟩
theorem Xz:Ac P fo 16 Qh:=fM Go.Proofs.Tryz.func16 (dC lH (dC wD (dC Hw (dC lE (dC yJ dN)))))
def yq:Wa:=fun ix args H=>if ix=34 then yy 3 0 36 args H else none
def Eb:=EA yq (fun _=>none) Qh
theorem tu:Na P 16 Eb:=EI gb (KI (fo:=fo) (s:=34) (g:=36) Go.Proofs.vT) Xz
def xb:Pa:=(.seq (jQ [Cv 15 9,Cv 16 10,jB 17 .lss 15 16] (jX 17 0)) (.block 1 (jQ [Cv 18 9,Cv 19 10,jB 20 .add 18 19,Co 21 (.conv .u64 (.t 20)),Co 22 (.bin .shr (.t 21) (.c (.int .u64 1))),Co 23 (.conv .i64 (.t 22)),Cv 11 23] (jQ [Cv 24 2,Cv 25 0,Cv 26 11,ji 27 3 25 26,jL 28 3 27,Cv 29 1,Co 30 (.HA (.t 24) [(.t 28),(.t 29)]),jK 31 .lss 30 0] (jC 31 (.region [Cv 32 11,jK 33 .add 32 1,Cv 9 33]) (.region [Cv 34 11,Cv 10 34]))))))
def Ra:xf:=⟨3,[.tmp 6,.tmp 7],(jQ [jk 6 0,jb 7 false] (jQ [Cv 12 0,jn 13 0 12,Cv 8 13] (jQ [Cv 14 8,jk 9 0,Cv 10 14] (.seq (.block 0 (.loop [0,1,2,8,9,10] xb)) (jr [Cv 35 9,Cv 36 9,Cv 37 8,jB 38 .lss 36 37,Cv 39 38,jT 40 39 (.km 2),jT 41 39 (.km 0),jT 42 39 (.km 9),jT 43 39 (.ki 3 41 42),jT 44 39 (.kL 3 43),jT 45 39 (.km 1),jT 46 39 (.HA (.t 40) [(.t 44),(.t 45)]),jT 47 39 (.kK .eql 46 0),ja 48 39 47,Cv 6 35,Cv 7 48])))))⟩
theorem yi:Ac P fo 113 Ra:=fM Go.Proofs.Tryz.func113 dN
def Tg:xf:=⟨2,[.tmp 4],(jQ [jR 2 3 0,jk 4 0] (jr [Jf 5 0 2,Jl 6 1 5,Cv 7 1,jq 8 Jg 6 7,Cv 4 8]))⟩
theorem Nu:Ac P fo 114 Tg:=fM Go.Proofs.Tryz.func114 (dC Zy dN)
def Sf:xf:=⟨2,[.cell 4 true 3,.tmp 5],(jQ [Co 4 (.alloc [(.int .i64 0),(.int .i64 0),(.int .i64 0)]),jb 5 false] (.seq (jQ [Cv 8 0,Co 9 (.kE 1 false 8)] (jC 9 (jr [Co 10 (.build [(.int .i64 0),(.int .i64 0),(.int .i64 0)] []),jS 3 4 10,jb 5 false]) .skip)) (jQ [Cv 12 0,jz 13 12,jf 14 4 13,jl 15 1 14,Cv 16 1,Co 17 (.Ah 40 [(.t 15),(.t 16),(.f 41)]),Cv 11 17,jx 18 0 11,jx 19 1 11,Cv 6 18,Cv 7 19] (.seq (jQ [Cv 20 7,jt 21 20] (jC 21 (.region [Cv 22 6,jK 23 .sub 22 1,Cv 6 23]) .skip)) (.seq (jQ [Cv 24 6,jK 25 .lss 24 0,Cv 26 25,jF 27 26 (.km 1),jF 28 26 (.km 0),jF 29 26 (.kz 28),jF 30 26 (.kf 4 29),jF 31 26 (.kl 1 30),jF 32 26 (.km 6),jF 33 26 (.ki 3 31 32),jF 34 26 (.kf 1 33),jF 35 26 (.kl 1 34),jF 36 26 (.kB .gtr 27 35),jo 37 26 36] (jC 37 (jr [Co 38 (.build [(.int .i64 0),(.int .i64 0),(.int .i64 0)] []),jS 3 4 38,jb 5 false]) .skip)) (jr [Cv 39 0,jz 40 39,jf 41 4 40,jl 42 1 41,Cv 43 6,ji 44 3 42 43,jL 45 3 44,jS 3 4 45,jb 5 true]))))))⟩
theorem Mx:Ac P fo 78 Sf:=fM Go.Proofs.Tryz.func78 dN
def bd:Nat→Option xf
 |40=>some Ra
 |41=>some Tg
 |_=>none
theorem uw:Oj P fo bd:=by
 intro ix af h
 unfold bd at h
 split at h
 ·injection h with h;subst h;exact yi
 ·injection h with h;subst h;exact Nu
 ·cases h
def Ed:=mc bd Sf
theorem ry:Na P 78 Ed:=La uw Mx
def pf:Pa:=(jQ [jB 20 .lss 19 18] (.seq (jX 20 0) (.seq (.block 1 (jQ [Cv 21 19,Cv 6 21] (jQ [Cv 22 0,jz 23 22,jf 24 0 23,jl 25 1 24,Cv 26 6,ji 27 258 25 26,Cv 7 27] (jQ [Cv 28 5,Cv 29 7,jz 30 29,jf 31 0 30,jl 32 1 31,Cv 33 1,Cv 34 7,jz 35 34,jf 36 257 35,jl 37 1 36,jB 38 .quo 33 37,Ji 39 1 32 38,Jl 40 1 39,Co 41 (.Hb .lit 1 false 1 [(.int .u8 0)] [(0,(.t 40))]),Co 42 (.ku 1 false 1 28 41),Cv 5 42] (.region [Cv 43 1,Cv 44 7,jz 45 44,jf 46 257 45,jl 47 1 46,jB 48 .rem 43 47,Cv 1 48]))))) (.region [jK 49 .add 19 1,Cv 19 49]))))
def Aj:xf:=⟨2,[.tmp 4],(jQ [jc 4 .ma] (jQ [Cv 8 0,jz 9 8,jf 10 0 9,jl 11 1 10,jn 12 0 11,Co 13 (.Ng .uq 1 false [(.int .u8 0)] 1 (.c (.int .i64 0)) (.t 12)),Cv 5 13] (.seq (jQ [Cv 14 0,jz 15 14,jf 16 0 15,jl 17 1 16,jn 18 0 17,jk 19 0] (.block 0 (.loop [0,1,5,18,19] pf))) (jr [Cv 50 5,Cv 4 50]))))⟩
theorem Mt:Ac P fo 79 Aj:=fM Go.Proofs.Tryz.func79 dN
def Mh:=mc (fun _=>none) Aj
theorem Au:Na P 79 Mh:=La gb Mt
def oi:xf:=⟨2,[.tmp 4,.tmp 5],(jQ [jc 4 .ma,jb 5 false] (jQ [Cv 9 0,Cv 10 1,jq 11 Ed 9 10,Cv 8 11,jx 12 0 8,jx 13 1 8,Co 6 (.alloc [(.int .i64 0),(.int .i64 0),(.int .i64 0)]),jS 3 6 12,Cv 7 13] (.seq (jQ [Cv 14 7,jt 15 14] (jC 15 (jr [jc 4 .ma,jb 5 false]) .skip)) (jr [Cv 16 0,jz 17 16,jf 18 3 17,jl 19 1 18,jf 20 2 6,jl 21 1 20,Ji 22 1 19 21,Jl 23 1 22,Cv 24 1,jf 25 0 6,jl 26 1 25,jB 27 .sub 24 26,jq 28 Mh 23 27,Cv 4 28,jb 5 true]))))⟩
theorem zu:Ac P fo 22 oi:=fM Go.Proofs.Tryz.func22 (dC ry (dC Au dN))
def Yc:=mc (fun _=>none) oi
theorem Yh:Na P 22 Yc:=La gb zu
end Go.AM.B1
namespace Go.AM.B1
open Go.AM
def Cd:Pa:=(.seq (jQ [Cv 19 5,Cv 20 4,jB 21 .lss 19 20] (jX 21 2)) (.seq (.block 3 (jQ [Jf 24 0 1,Jl 25 1 24,Cv 26 4,ji 27 2 25 26,jf 28 0 27,jl 29 1 28,jn 30 0 29,Cv 6 30] (jQ [Cv 31 6,Jf 32 0 1,Jl 33 1 32,Cv 34 5,ji 35 2 33 34,jf 36 0 35,jl 37 1 36,jn 38 0 37,jB 39 .eql 31 38] (jC 39 (jQ [Jf 41 0 1,Jl 42 1 41,Cv 43 4,Ji 44 2 42 43,JL 45 2 44,Jf 46 0 1,Jl 47 1 46,Cv 48 5,Ji 49 2 47 48,JL 50 2 49,Cv 51 6,Co 52 (.kr ue 45 50 51),Cv 40 52,jx 53 0 40,jx 54 1 40,Cv 7 53,Cv 8 54] (jQ [Cv 55 8] (jC 55 (jr [jb 2 false,jk 3 0]) .skip))) .skip)))) (.region [Cv 22 5,jK 23 .add 22 1,Cv 5 23])))
def Wf:Pa:=(.seq (jQ [Cv 12 4,Jf 13 0 1,Jl 14 1 13,jn 15 0 14,jB 16 .lss 12 15] (jX 16 0)) (.seq (.block 1 (jQ [jk 5 0] (.block 2 (.loop [1,4,5] Cd)))) (.region [Cv 17 4,jK 18 .add 17 1,Cv 4 18])))
def Hi:xf:=⟨1,[.tmp 2,.tmp 3],(jQ [jR 1 1 0,jb 2 false,jk 3 0] (.seq (jQ [JL 9 1 1,jp 10 Nd 9,jt 11 10] (jC 11 (jr [jb 2 false,jk 3 84]) .skip)) (.seq (jQ [jk 4 0] (.block 0 (.loop [1,4] Wf))) (jr [jb 2 true,jk 3 0]))))⟩
theorem cr:Ac P fo 72 Hi:=fM Go.Proofs.Tryz.func72 (dC im (dC rl dN))
def te:=mc (fun _=>none) Hi
theorem Wr:Na P 72 te:=La gb cr
def wg:xf:=⟨1,[.cell 2 true 1,.tmp 3],(jQ [jR 1 1 0,Co 2 (.alloc [.ma]),jk 3 0] (jQ [JL 9 1 1,jp 10 Va 9,Cv 8 10,jx 11 0 8,jx 12 1 8,Co 4 (.alloc [.ma]),jS 1 4 11,Cv 5 12] (.seq (jQ [Cv 13 5,jK 14 .eql 13 84,Cv 15 14,jF 16 15 (.km 5),jF 17 15 (.kK .eql 16 110),jo 18 15 17] (jC 18 (jr [Co 19 (.build [.ma] []),Cv 20 5,jS 1 2 19,Cv 3 20]) .skip)) (jQ [JL 22 1 1,jp 23 te 22,Cv 21 23,jx 24 0 21,jx 25 1 21,Cv 6 24,Cv 7 25] (.seq (jQ [Cv 26 6,jt 27 26] (jC 27 (jr [Co 28 (.build [.ma] []),jS 1 2 28,jk 3 111]) .skip)) (jr [jL 29 1 4,Cv 30 5,jS 1 2 29,Cv 3 30]))))))⟩
theorem Xp:Ac P fo 17 wg:=fM Go.Proofs.Tryz.func17 (dC qt (dC Wr dN))
def od:=mc (fun _=>none) wg
theorem gr:Na P 17 od:=La gb Xp
end Go.AM.B1
set_option linter.unusedSimpArgs false
namespace Go.AM.B1
open Go.AM
def Sc:Int→List (Int×Int)→Int
 |n,[]=>n
 |n,p::r=>Sc (n+(p.2 - p.1+1)) r
abbrev wP (v:PV) (len i n:Int):Tr:=(((Tr.lf.set 8 (.pv (i64 i))).set 7 (.pv (i64 len))).set 6 (.pv v)).set 3 (.pv (i64 n))
theorem YP (v:PV) (l:List (Int×Int)) (hv:Ai 2 v (Md l)) (hw:l.length≤maxLen) {top:Int} (ht:top≤4611686018427387900) (hval:Ma top (-2) l=true):dq [v]=some (i64 (Sc 0 l)):=by
 have ls:=hv.len
 simp only[Md,List.length_map] at ls
 have key:=Kb (g:=Nc (Ba (fun _=>none) 8) [3,6,7,8] rk 0)
  (fun i t=>∃ n last,t=⟨wP v l.length i n,[]⟩∧Sc 0 l=Sc n (l.drop i)∧Ma top last (l.drop i)=true∧0≤n∧n≤max 0 (last+1)∧last≤top)
  (Q:=fun r=>∃ E H,r=(.exit 0,⟨E,H⟩)∧E.get 3= .pv (i64 (Sc 0 l)))
  l.length (by unfold qa;unfold maxLen at hw;omega) ⟨wP v l.length (0:Nat) 0,[]⟩ ?_ ?_ ?_
 ·obtain⟨⟨ex,t⟩,h,_,E,H,he,hE⟩:=uc key
  cases he
  have h':mb (ga (pa (Ba (fun _=>none) 8) rk) (na 0 [3,6,7,8])) qa ⟨wP v l.length 0 0,[]⟩=some (.exit 0,⟨E,H⟩):=h
  simp only[wP] at h'
  simp -implicitDefEqProofs only[dq,SP,SA,SQ,WP,WQ,sevalprocAttr,Xu,ls,Gb,h',hE]
 ·refine⟨0,min (-2) top,rfl,rfl,?_,by omega,by omega,by omega⟩
  have mono:∀ {a b:Int} {r:List (Int×Int)},a≤b→Ma top b r=true→Ma top a r=true:=by
   intro a b r hab h
   cases r with
   |nil=>rfl
   |cons p r=>
    obtain⟨h1,h2,h3,h4,h5⟩:=ae h
    simp only[Ma,h5,Bool.and_true,Bool.not_eq_true',Bool.or_eq_false_iff,decide_eq_false_iff_not]
    exact⟨⟨⟨h1,h2⟩,h3⟩,by omega⟩
  exact mono (by omega) hval
 ·rintro i t hi ⟨n,last,rfl,hr,hva,hn0,hn1,hlast⟩
  have hv:=hv.lit (i:=i) (by simpa using hi)
  subst hv
  have hd:l.drop i=l[i]::l.drop (i+1):=List.drop_eq_getElem_cons hi
  rw[hd] at hr hva
  obtain⟨h1,h2,h3,h4,h5⟩:=ae hva
  rw[Sc] at hr
  have t2:=Za hi hw
  have hg:=tq hi
  have hl:(Md l).length=l.length:=by simp
  generalize l[i]=p at *
  have t3:IntKind.i64.wrap (p.2 - p.1)=p.2 - p.1:=Ca (by omega)
  have t4:IntKind.i64.wrap (p.2 - p.1+1)=p.2 - p.1+1:=Ca (by omega)
  have t5:IntKind.i64.wrap (n+(p.2 - p.1+1))=n+(p.2 - p.1+1):=Ca (by omega)
  generalize hes:Md l=es at *
  generalize hQ:LN _ _ i=Q
  simp -implicitDefEqProofs only[SP,SA,SQ,WP,WQ,sevalprocAttr,rk,hi,hl,t2,t3,t4,t5,hg,wP]
  subst hQ
  exact⟨_,p.2,rfl,hr,h5,by omega,by omega,by omega⟩
 ·rintro t ⟨n,last,rfl,hr,_⟩
  rw[List.drop_length,Sc] at hr
  have e1:decide (l.length < l.length)=false:=Ja (by omega)
  generalize hQ:(fun r:Ex×St=>r.1.stop=true∧_)=Q
  simp -implicitDefEqProofs only[SP,SA,SQ,WP,WQ,sevalprocAttr,rk,e1,wP]
  subst hQ
  exact⟨rfl,_,_,rfl,by rw[hr];rfl⟩
theorem _root_.Go.AM.So.Fe.cut {H:List ba} (h:So.Fe H):Oa (oa H.length) H=some H:=So.Ck fun o ho=>h _ (Nat.le_refl _) o ho
theorem aj (A:List ba) (o:ba):(A++[o])[A.length]? =some o:=by simp
theorem Pm (A:List ba) (o o':ba):(A++[o]).set A.length o'=A++[o']:=by
 rw[List.set_append_right _ _ (Nat.le_refl _)];simp
theorem sF {A:List ba} (T:List ba) {sz id n:Nat} {i:Int} {v:AV} (hid:id < A.length) (h:wa A sz (.own id n) i=some v):wa (A++T) sz (.own id n) i=some v:=by
 simp only[wa] at h ⊢
 rw[List.getElem?_append_left hid];exact h
theorem NJ {A:List ba} (T:List ba) {sz id:Nat} {ag:Bool} {m off:Nat} {v:AV} (hid:id < A.length) (h:xa A ag sz (.Fc id m off)=some v):xa (A++T) ag sz (.Fc id m off)=some v:=by
 simp only[xa] at h ⊢
 rw[List.getElem?_append_left hid];exact h
end Go.AM.B1
namespace Go.AM.B1
open Go.AM Go.AM.So
theorem eD {n:Nat} {E:Tr}:∀ {live:List Nat},(∀ t∈live,(E.get t).cut n deep=some (E.get t))→∃ E',za n E live=some E'∧∀ t∈live,E'.get t=E.get t
 | [],_=>⟨.lf,rfl,by simp⟩
 |a::live,h=>by
  obtain⟨E',h1,h2⟩:=eD (live:=live) fun t ht=>h t (by simp[ht])
  refine⟨E'.set a (E.get a),by rw[za,h a (by simp),Option.bind_some,h1];rfl,fun t ht=> ?_⟩
  rw[Tr.aa]
  by_cases he:t=a
  ·rw[if_pos he,he]
  ·rw[if_neg he]
   rcases List.mem_cons.1 ht with h3 | h3
   ·exact absurd h3 he
   ·exact h2 t h3
theorem UO {n:Nat} {live:List Nat} {E:Tr} {A T:List ba} (hn:A.length=n) (hA:∀ o∈A,oa n o=some o) (hE:∀ t∈live,(E.get t).cut n deep=some (E.get t)):
 ∃ E',na n live ⟨E,A++T⟩=some ⟨E',A⟩∧∀ t∈live,E'.get t=E.get t:=by
 obtain⟨E',h1,h2⟩:=eD hE
 refine⟨E',?_,h2⟩
 subst hn
 simp only[na,h1,Option.bind_some]
 rw[List.take_left' rfl,Ck hA];rfl
def cg (n:Nat) (live:List Nat) (J:St→Prop) (s:St):Prop:=
 ∃ A T,s.H=A++T∧A.length=n∧(∀ o∈A,oa n o=some o)∧(∀ t∈live,(s.env.get t).cut n deep=some (s.env.get t))∧∀ E',(∀ t∈live,E'.get t=s.env.get t)→J ⟨E',A⟩
theorem cg.na {n:Nat} {live:List Nat} {J:St→Prop} {s:St} (h:cg n live J s):∃ s',na n live s=some s'∧J s':=by
 obtain⟨A,T,h1,h2,h3,h4,h5⟩:=h
 obtain⟨E,H⟩:=s
 simp only at h1 h4 h5
 subst h1
 obtain⟨E',h6,h7⟩:=UO (T:=T) h2 h3 h4
 exact⟨_,h6,h5 E' h7⟩
def RQ (n:Nat) (live:List Nat) (J:St→Prop) (Q:Ex×St→Prop):Ex×St→Prop
 | (.norm,s)=>cg n live J s
 |r=>Q r
theorem Di {n:Nat} {live:List Nat} {J:St→Prop} {Q:Ex×St→Prop} {s:St}:RQ n live J Q (.norm,s)=cg n live J s:=rfl
theorem FR {call:Wa} {b:Pa} {n:Nat} {live:List Nat} {I:Nat→St→Prop} {Q:Ex×St→Prop} {i:Nat} {s:St} (h:Sd (RQ n live (I (i+1)) Q) (pa call b s)):
 Sd (LN I Q i) (ga (pa call b) (na n live) s):=by
 rw[ga,Oy]
 refine ya h ?_
 rintro⟨ex,t⟩ hr
 cases ex with
 |norm=>
  obtain⟨s',h1,h2⟩:=cg.na hr
  show Sd _ (Gp (Go.AM.na n live t))
  rw[h1];exact h2
 |exit=>exact hr
 |ret=>exact hr
theorem pP {call:Wa} {b:Pa} {cl:St→Option St} {Q:Ex×St→Prop} {s:St} (h:Sd (fun r=>r.1.stop=true∧Q r) (pa call b s)):
 Sd (fun r=>r.1.stop=true∧Q r) (ga (pa call b) cl s):=by
 rw[ga,Oy]
 refine ya h ?_
 rintro⟨ex,t⟩ ⟨h1,h2⟩
 cases ex with
 |norm=>cases h1
 |exit=>exact⟨h1,h2⟩
 |ret=>exact⟨h1,h2⟩
theorem Ho {call:Wa} {b:Pa} {live:List Nat} {Q:Ex×St→Prop} {s:St} (I:Nat→St→Prop) (N:Nat) (hN:N < qa) (h0:cg s.H.length live (I 0) s)
 (hs:∀ i t,i < N→I i t→Sd (RQ s.H.length live (I (i+1)) Q) (pa call b t)) (he:∀ t,I N t→Sd (fun r=>r.1.stop=true∧Q r) (pa call b t)):
 Sd (fun r=>r.1.stop=true∧Q r) (pa call (.loop live b) s):=by
 obtain⟨s',h1,h2⟩:=h0.na
 rw[Gb,h1]
 exact Kb I N hN s' h2 (fun i t hi hI=>FR (hs i t hi hI)) (fun t hI=>pP (he t hI))
theorem BP {call:Wa} {b:Pa} {live:List Nat} {Q:Ex×St→Prop} {s:St} (I:Nat→St→Prop) (N:Nat) (hN:N < qa) (h0:cg s.H.length live (I N) s)
 (hs:∀ k t,I k t→Sd (RQ s.H.length live (fun s'=>∃ j,j < k∧I j s') Q) (pa call b t)):
 Sd (fun r=>r.1.stop=true∧Q r) (pa call (.loop live b) s):=by
 obtain⟨s',h1,h2⟩:=h0.na
 rw[Gb,h1]
 refine Ip I qa N s' hN h2 fun k t hI=> ?_
 rw[ga,Oy]
 refine ya (hs k t hI) ?_
 rintro⟨ex,t⟩ hr
 cases ex with
 |norm=>
  obtain⟨s',h1,h2⟩:=cg.na (J:=fun s'=>∃ j,j < k∧I j s') hr
  show Sd _ (Gp (Go.AM.na _ live t))
  rw[h1];exact h2
 |exit=>exact hr
 |ret=>exact hr
theorem cg.all {live:List Nat} {J:St→Prop} {E:Tr} {H:List ba} {n:Nat} (hn:n=H.length) (h1:∀ o∈H,oa n o=some o) (h2:∀ t∈live,(E.get t).cut n deep=some (E.get t)) (h3:∀ E',(∀ t∈live,E'.get t=E.get t)→J ⟨E',H⟩):cg n live J ⟨E,H⟩:=
 ⟨H,[],by simp,hn.symm,h1,h2,h3⟩
theorem cg.front {live:List Nat} {J:St→Prop} {E:Tr} {A T:List ba} {n:Nat} (hn:n=A.length) (h1:∀ o∈A,oa n o=some o) (h2:∀ t∈live,(E.get t).cut n deep=some (E.get t)) (h3:∀ E',(∀ t∈live,E'.get t=E.get t)→J ⟨E',A⟩):cg n live J ⟨E,A++T⟩:=
 ⟨A,T,rfl,hn.symm,h1,h2,h3⟩
theorem xo {n d id off:Nat} (h:id < n):AV.cut n d (.ptr id off)=some (.ptr id off):=by
 cases d <;> simp[AV.cut,h]
theorem aM {n d id len:Nat} (h:id < n):AV.cut n d (.own id len)=some (.own id len):=by
 cases d <;> simp[AV.cut,h]
theorem Vk {n d id sz:Nat} {nl:Bool} {es:List PV} (h:id < n):AV.cut n d (.uq id nl sz es)=some (.uq id nl sz es):=by
 cases d <;> simp[AV.cut,h]
theorem sj (n:Nat) (cs:List PV):oa n (.box (cs.map .pv))=some (.box (cs.map .pv)):=by
 have:Oa (AV.cut n deep) (cs.map .pv)=some (cs.map .pv):=Ck fun a ha=>by
  obtain⟨p,_,rfl⟩:=List.mem_map.1 ha
  exact Ga
 simp[oa,this]
def Mc (l:List Nat) (E E':Tr):Prop:=∀ t∈l,E'.get t=E.get t
theorem Mc.refl (l:List Nat) (E:Tr):Mc l E E:=fun _ _=>rfl
theorem Mc.trans {l:List Nat} {E E' E'':Tr} (h1:Mc l E E') (h2:Mc l E' E''):Mc l E E'':=fun t ht=>(h2 t ht).trans (h1 t ht)
theorem Mc.sub {l l':List Nat} {E E':Tr} (h:Mc l E E') (hs:l'.all l.contains=true):Mc l' E E':=fun t ht=>h t (by
 have:=List.all_eq_true.1 hs t ht
 simpa using this)
theorem Mc.set {l:List Nat} {E E':Tr} {k:Nat} {v:AV} (h:Mc l E E') (hk:l.contains k=false):Mc l E (E'.set k v):=fun t ht=>by
 have:t≠k:=by
  rintro rfl
  have:l.contains t=true:=by simpa using ht
  rw[hk] at this;cases this
 rw[Tr.aa,if_neg this];exact h t ht
def Fit (n:Nat) (l:List Nat) (E:Tr):Prop:=∀ t∈l,(E.get t).cut n deep=some (E.get t)
theorem Fit.nil (n:Nat) (E:Tr):Fit n [] E:=fun _ h=>by cases h
theorem Fit.cons {n t:Nat} {l:List Nat} {E:Tr} {v:AV} (h:E.get t=v) (hv:v.cut n deep=some v) (hl:Fit n l E):Fit n (t::l) E:=fun u hu=>by
 rcases List.mem_cons.1 hu with rfl | hu
 ·rw[h];exact hv
 ·exact hl u hu
theorem Fit.Qe {n:Nat} {l:List Nat} {E E':Tr} (h:Fit n l E) (hk:Mc l E E'):Fit n l E':=fun t ht=>by rw[hk t ht];exact h t ht
theorem Fit.sub {n:Nat} {l l':List Nat} {E:Tr} (h:Fit n l E) (hs:l'.all l.contains=true):Fit n l' E:=fun t ht=>h t (by
 have:=List.all_eq_true.1 hs t ht
 simpa using this)
end Go.AM.B1
namespace Go.AM.B1
open Go.AM Go.AM.So
theorem YH:Sg=Yb:=rfl
theorem zG:Pg=Yb:=rfl
theorem SH:bh=Yb:=rfl
def aC (p:Int×Int):List PV:=[i64 p.1,i64 p.2]
def We (l:List (Int×Int)):Array (List PV):=(l.map aC).toArray
def OV (r:List PV):Prop:=∃ p,r=aC p
theorem nw (r:List PV) (h:OV r):cR 2 r:=by
 obtain⟨p,rfl⟩:=h
 exact⟨rfl,by intro c hc;simp[aC] at hc;rcases hc with rfl | rfl <;> rfl⟩
theorem Qz (l:List (Int×Int)):∀ r∈(We l).toList,OV r:=by
 intro r hr
 simp[We] at hr
 obtain⟨a,b,_,rfl⟩:=hr
 exact⟨(a,b),rfl⟩
theorem gn (l:List (Int×Int)):(We l).size=l.length:=by simp[We]
def gd (l:List (Int×Int)) (fl:Nat) (nl:Bool):ba:=xg 2 (We l) fl nl
theorem qi (l:List (Int×Int)):(Wg (We l)).length=l.length * 2:=by
 rw[Wv fun r hr=>nw r (Qz l r hr),gn]
theorem DA {A:List ba} {id n fl bytes:Nat} {nl:Bool} {h:nf} {l:List (Int×Int)} (hg:A[id]? =some (gd l fl nl)) (hn:n=l.length) (hr:qb (n+1) bytes) (p:Int×Int):
 Ub A true h 2 true bytes (.own id n) (.pv (.lit 2 [pr p]))=some (.own id (n+1),A.set id (gd (l++[p]) fl false)):=by
 subst hn
 have hl:=qi l
 have e:Wg (We (l++[p]))=Wg (We l)++[.pv (i64 p.1),.pv (i64 p.2)]:=by
  simp[Wg,We,aC]
 simp only[Ub,if_true,hg,gd,xg,Yi,Te,Option.map_some,Option.bind_some,flat,PV.cells,pr,List.append_nil,List.map_cons,List.map_nil,List.length_cons,List.length_nil,e]
 rw[if_pos]
 ·simp
 ·exact⟨trivial,by omega,hr,rfl⟩
theorem BB (H:List ba) (d:Nat) (l:List PV):Oa (Vb H d) (l.map .pv)=some l:=by
 induction l with
 |nil=>rfl
 |cons a l ih=>simp only[List.map_cons,Oa,fg,Option.bind_some,ih]
theorem wA:∀ (l:List (Int×Int)),chunk 2 true l.length ((l.map aC).flatten)=Md l
 | []=>rfl
 |p::l=>by
  have ih:=wA l
  simp only[List.length_cons,List.map_cons,List.flatten_cons,chunk,if_true,aC] at ih ⊢
  simp only[List.cons_append,List.nil_append,List.take_succ_cons,List.take_zero,List.drop_succ_cons,List.drop_zero,Md,List.map_cons]
  rw[ih]
theorem sP {A:List ba} {id n fl:Nat} {nl:Bool} {l:List (Int×Int)} (hg:A[id]? =some (gd l fl nl)) (hn:n=l.length) (d:Nat):Vb A (d+1) (.own id n)=some (if nl then .ma else .lit 2 (Md l)):=by
 subst hn
 have hl:=qi l
 have e:Wg (We l)=((l.map aC).flatten).map .pv:=by simp[Wg,We]
 simp only[Vb,hg,gd,xg]
 rw[if_pos ⟨by omega,rfl⟩,e,BB]
 cases nl with
 |true=>rfl
 |false=>simp only[Bool.false_eq_true,if_false,Option.map_some,wA]
theorem Uw (A:List ba) (x y:AV) (p:Int×Int):Ka (A++[.box [x,y]]) 2 (.ptr A.length 0) (.pv (pr p))=some (A++[.box [.pv (i64 p.1),.pv (i64 p.2)]]):=by
 simp only[Ka,AV.cells,PV.cells,pr,List.map_cons,List.map_nil,List.length_cons,List.length_nil,List.all,AV.one,aj,Pm]
 simp[fa]
theorem Vz (A:List ba) (p:Int×Int):xa (A++[.box [.pv (i64 p.1),.pv (i64 p.2)]]) true 2 (.ptr A.length 0)=some (.pv (pr p)):=by
 simp[xa,Ag,mq,Ad]
theorem yp (l:List (Int×Int)) (fl:Nat) (nl:Bool) (n:Nat):oa n (gd l fl nl)=some (gd l fl nl):=Ru _ _ _ _ _
abbrev XL (v:PV) (id n len i:Nat):Tr:=(((Tr.lf.set 11 (.pv (i64 i))).set 10 (.pv (i64 len))).set 9 (.pv v)).set 3 (.own id n)
theorem zk (A:List ba) {l:List (Int×Int)} {i:Nat} (hi:i < l.length):wa A 2 (.pv (.lit 2 (Md l))) (i:Int)=some (.pv (.rp [i64 l[i].1,i64 l[i].2] 0)):=by
 have hg:=tq hi
 simp only[wa]
 rw[if_pos (by unfold Ea;simp;omega),Int.toNat_natCast,hg];rfl
theorem NP (A:List ba) (p:Int×Int):xa A true 2 (.pv (.rp [i64 p.1,i64 p.2] 0))=some (.pv (pr p)):=by
 simp[xa,gl]
theorem xK (call:Wa) (v:PV) (l:List (Int×Int)) (hv:Ai 2 v (Md l)) (hw:l.length * 16≤140737488355328) (H:List ba) (hH:Fe H):
 mg call Wc [.pv v] H=some (.own H.length l.length,H++[gd l 0 false]):=by
 have ls:=hv.len
 simp only[Md,List.length_map] at ls
 have hid:H.length < H.length+1:=Nat.lt_succ_self _
 have hlen:∀ l',(H++[gd l' 0 false]).length=H.length+1:=fun l'=>by simp
 have hcut:∀ l',Oa (oa (H.length+1)) (H++[gd l' 0 false])=some (H++[gd l' 0 false]):=fun l'=>Ck fun o ho=>by
  rcases List.mem_append.1 ho with h | h
  ·exact hH _ (by omega) o h
  ·simp at h;subst h;exact yp _ _ _ _
 have hloop:Sd (fun r=>∃ E,r=(.exit 0,⟨E,H++[gd l 0 false]⟩)∧E.get 3= .own H.length l.length)
  (mb (ga (pa call Dc) (na (H.length+1) [3,9,10,11])) qa ⟨XL v H.length 0 l.length 0,H++[gd [] 0 false]⟩):=by
  refine ya (Kb (g:=ga (pa call Dc) (na (H.length+1) [3,9,10,11]))
   (fun i t=>t=⟨XL v H.length i l.length i,H++[gd (l.take i) 0 false]⟩)
   l.length (by unfold qa;omega) _ rfl ?_ ?_) (fun r h=>h.2)
  ·rintro i t hi rfl
   have hv:=hv.lit (i:=i) (by simpa using hi)
   subst hv
   have e1:decide ((i:Int) < (l.length:Int))=true:=Fa (by omega)
   have t2:=Za hi (by unfold maxLen;omega)
   have a1:=zk (H++[gd (l.take i) 0 false]) hi
   have l1:=NP (H++[gd (l.take i) 0 false]) l[i]
   have s1:=Uw (H++[gd (l.take i) 0 false]) (.pv (i64 0)) (.pv (i64 0)) l[i]
   have l2:=Vz (H++[gd (l.take i) 0 false]) l[i]
   have hap:=DA (A:=H++[gd (l.take i) 0 false]++[.box [.pv (i64 l[i].1),.pv (i64 l[i].2)]]) (id:=H.length) (n:=i) (h:= .own) (bytes:=16) (by rw[List.getElem?_append_left (by simp)];exact aj _ _) (by simp;omega) (by unfold qb;omega) l[i]
   rw[List.set_append_left _ _ (by simp),Pm,←List.take_succ_eq_append_getElem hi] at hap
   have htk:(H++[gd (l.take (i+1)) 0 false]++[ba.box [.pv (i64 l[i].1),.pv (i64 l[i].2)]]).take (H.length+1)=H++[gd (l.take (i+1)) 0 false]:=by
    rw[List.take_append_of_le_length (by simp),List.take_of_length_le (by simp)]
   have hc:=hcut (l.take (i+1))
   generalize l[i]=p at *
   generalize hQ:LN _ _ i=Q
   simp -implicitDefEqProofs only[SP,WP,fa,sevalprocAttr,Dc,e1,t2,a1,l1,s1,l2,hap,htk,hc,hid,na,za,AV.cut,ta,XL]
   subst hQ
   rfl
  ·rintro t rfl
   rw[List.take_length]
   have e1:decide ((l.length:Int) < (l.length:Int))=false:=Ja (by omega)
   generalize hQ:(fun r:Ex×St=>r.1.stop=true∧_)=Q
   simp -implicitDefEqProofs only[SX,sevalprocAttr,Dc,e1,XL]
   subst hQ
   exact⟨rfl,_,rfl,by simp[Tr.aa]⟩
 have h2:(0:Int)≤(l.length:Int):=by omega
 have h3:qb l.length 16:=by unfold qb;omega
 have n0:(0:Int).toNat=0:=rfl
 have ho:ba.seq 2 true [] 0 false=gd [] 0 false:=rfl
 apply Xn
 simp -implicitDefEqProofs only[SX,sevalprocAttr,Wc,Gb,ls,Int.le_refl,eq_true h2,eq_true h3,n0,ho,hlen,hcut,hid,List.take_of_length_le (show (H++[gd [] 0 false]).length≤H.length+1 by simp),na,za,AV.cut,ta]
 refine ya hloop ?_
 rintro _ ⟨E,rfl,hE⟩
 simp -implicitDefEqProofs only[SX,sevalprocAttr,hE]
end Go.AM.B1
namespace Go.AM.B1
open Go.AM Go.AM.So
theorem Lg {A:List ba} {id n sz bytes:Nat} {nl ag:Bool} {h:nf} {es:List PV} (hg:A[id]? =some (.tok sz n nl)) (hn:n=es.length) (hr:qb (n+1) bytes) (e:PV):
 Ub A false h sz ag bytes (.uq id nl sz es) (.pv (.lit sz [e]))=some (.uq id false sz (es++[e]),A.set id (.tok sz (n+1) false)):=by
 subst hn
 simp only[Ub,Bool.false_eq_true,if_false,hg,Te,if_true,Option.bind_some,List.length_cons,List.length_nil]
 rw[if_pos ⟨trivial,trivial,trivial,hr⟩]
 simp
abbrev vM (id n i tk:Nat) (nl:Bool) (es:List PV):Tr:=(((Tr.lf.set 11 (.pv (i64 i))).set 10 (.pv (i64 n))).set 9 (.own id n)).set 3 (.uq tk nl 2 es)
theorem EM {A:List ba} {id fl:Nat} {nl:Bool} {l:List (Int×Int)} (hg:A[id]? =some (gd l fl nl)) (hf:fl≤l.length * 2) (hA:Fe A):Hp id 2 OV A (We l) A:=
 Hp.refl (fl:=fl) (nl:=nl) hA (by rw[gn];exact hf) hg (Qz l)
theorem oD {l:List (Int×Int)} {i:Nat} (hi:i < l.length):(We l)[i]! =aC l[i]:=by
 rw[rW (by rw[gn];exact hi)];simp[We]
theorem rO (call:Wa) (l:List (Int×Int)) {id fl:Nat} {nl:Bool} (H:List ba) (hH:Fe H) (hg:H[id]? =some (gd l fl nl)) (hf:fl≤l.length * 2) (hw:l.length * 16≤140737488355328):
 mg call ud [.own id l.length] H=some (.uq H.length false 2 (Md l),H++[.tok 2 l.length false]):=by
 have hp:=EM hg hf hH
 have hid:id < H.length:=hp.lt
 have hid1:id < H.length+1:=by omega
 have htk:H.length < H.length+1:=Nat.lt_succ_self _
 have hl:=qi l
 have hn:l.length=(We l).size:=(gn l).symm
 have hlen:∀ m b,(H++[ba.tok 2 m b]).length=H.length+1:=fun m b=>by simp
 have hcut:∀ m b,Oa (oa (H.length+1)) (H++[ba.tok 2 m b])=some (H++[ba.tok 2 m b]):=fun m b=>Ck fun o ho=>by
  rcases List.mem_append.1 ho with h | h
  ·exact hH _ (by omega) o h
  ·simp at h;subst h;rfl
 have hlA:∀ T,Qb (H++T) 0 (.own id l.length)=some l.length:=by
  intro T
  rw[Ty,List.getElem?_append_left hid,hg]
  simp only[gd,xg]
  rw[if_pos];unfold vh;omega
 have hlA0:Qb H 0 (.own id l.length)=some l.length:=by have:=hlA [];rwa [List.append_nil] at this
 have hloop:Sd (fun r=>∃ E,r=(.exit 0,⟨E,H++[.tok 2 l.length false]⟩)∧E.get 3= .uq H.length false 2 (Md l))
  (mb (ga (pa call Hc) (na (H.length+1) [3,9,10,11])) qa ⟨vM id l.length 0 H.length false [],H++[.tok 2 0 false]⟩):=by
  refine ya (Kb (g:=ga (pa call Hc) (na (H.length+1) [3,9,10,11]))
   (fun i t=>t=⟨vM id l.length i H.length false (Md (l.take i)),H++[.tok 2 i false]⟩)
   l.length (by unfold qa;omega) _ rfl ?_ ?_) (fun r h=>h.2)
  ·rintro i t hi rfl
   have e1:decide ((i:Int) < (l.length:Int))=true:=Fa (by omega)
   have t2:=Za hi (by unfold maxLen;omega)
   have a1:=sF [.tok 2 i false] hid (hp.Td nw hn (i:=(i:Int)) rfl (by omega))
   have l1:=NJ [.tok 2 i false] hid (hp.load nw hn (k:=i) (by omega))
   rw[oD hi] at l1
   have l1':xa (H++[.tok 2 i false]) true 2 (.Fc id (l.length * 2) (i * 2))=some (.pv (pr l[i])):=l1
   have s1:=Uw (H++[.tok 2 i false]) (.pv (i64 0)) (.pv (i64 0)) l[i]
   have l2:=Vz (H++[.tok 2 i false]) l[i]
   have hap:=Lg (A:=H++[.tok 2 i false]++[.box [.pv (i64 l[i].1),.pv (i64 l[i].2)]]) (id:=H.length) (n:=i) (h:= .uq) (ag:=true) (nl:=false) (sz:=2) (bytes:=16) (es:=Md (l.take i)) (by rw[List.getElem?_append_left (by simp)];exact aj _ _) (by simp;omega) (by unfold qb;omega) (pr l[i])
   have hs:Md (l.take (i+1))=Md (l.take i)++[pr l[i]]:=by rw[List.take_succ_eq_append_getElem hi];simp only[Md,List.map_append,List.map_cons,List.map_nil]
   rw[List.set_append_left _ _ (by simp),Pm,←hs] at hap
   have htk2:(H++[ba.tok 2 (i+1) false]++[ba.box [.pv (i64 l[i].1),.pv (i64 l[i].2)]]).take (H.length+1)=H++[ba.tok 2 (i+1) false]:=by
    rw[List.take_append_of_le_length (by simp),List.take_of_length_le (by simp)]
   have hc:=hcut (i+1) false
   generalize l[i]=p at *
   generalize hes':Md (l.take (i+1))=es' at *
   generalize Md (l.take i)=es at *
   generalize hQ:LN _ _ i=Q
   simp -implicitDefEqProofs only[SP,WP,fa,sevalprocAttr,Hc,e1,t2,a1,l1',s1,l2,hap,htk,htk2,hc,hid1,na,za,AV.cut,ta,vM]
   subst hQ
   subst hes'
   rfl
  ·rintro t rfl
   rw[List.take_length]
   have e1:decide ((l.length:Int) < (l.length:Int))=false:=Ja (by omega)
   generalize hQ:(fun r:Ex×St=>r.1.stop=true∧_)=Q
   simp -implicitDefEqProofs only[SX,sevalprocAttr,Hc,e1,vM]
   subst hQ
   exact⟨rfl,_,rfl,by simp[Tr.aa]⟩
 have h2:(0:Int)≤(l.length:Int):=by omega
 have h3:qb l.length 16:=by unfold qb;omega
 have n0:(0:Int).toNat=0:=rfl
 apply Xn
 simp -implicitDefEqProofs only[SX,sevalprocAttr,ud,Gb,hlA,hlA0,Int.le_refl,eq_true h2,eq_true h3,n0,hlen,hcut,hid1,htk,List.take_of_length_le (show (H++[ba.tok 2 0 false]).length≤H.length+1 by simp),na,za,AV.cut,ta]
 refine ya hloop ?_
 rintro _ ⟨E,rfl,hE⟩
 simp -implicitDefEqProofs only[SX,sevalprocAttr,hE]
def jj (x:Int) (l:List (Int×Int)):Prop:=∃ p∈l,p.1≤x∧x≤p.2
end Go.AM.B1
namespace Go.AM.B1
open Go.AM Go.AM.So
def jh:List (Int×Int)→List (Int×Int)→List (Int×Int)
 |out,[]=>out
 |out,r::rest=>match out.getLast? with
  |some q=>if r.1≤q.2+1 then jh (out.dropLast++[(q.1,if r.2 > q.2 then r.2 else q.2)]) rest else jh (out++[r]) rest
  |none=>jh (out++[r]) rest
theorem JE (r:Int×Int) (rest:List (Int×Int)):jh [] (r::rest)=jh [r] rest:=rfl
theorem MC {out rest:List (Int×Int)} {q r:Int×Int} (h:r.1≤q.2+1):jh (out++[q]) (r::rest)=jh (out++[(q.1,if r.2 > q.2 then r.2 else q.2)]) rest:=by
 rw[jh,List.getLast?_append];simp[h]
theorem PF {out rest:List (Int×Int)} {q r:Int×Int} (h:¬r.1≤q.2+1):jh (out++[q]) (r::rest)=jh (out++[q]++[r]) rest:=by
 rw[jh,List.getLast?_append];simp[h]
section
variable {A:List ba} {id fl:Nat} {nl:Bool} {out:List (Int×Int)} {q:Int×Int} (hg:A[id]? =some (gd (out++[q]) fl nl)) (hf:fl≤(out.length+1) * 2)
include hg hf
theorem VJ:wa A 2 (.own id (out.length+1)) (out.length:Int)=some (.Fc id ((out.length+1) * 2) (out.length * 2)):=by
 have hl:=qi (out++[q])
 rw[List.length_append,List.length_cons,List.length_nil] at hl
 simp only[wa,hg,gd,xg]
 rw[if_pos (by refine⟨trivial,?_,?_⟩ <;> first | (unfold Ea;omega) | (unfold vh;omega))]
 simp
omit hf in
theorem AL:place A 1 (.Fc id ((out.length+1) * 2) (out.length * 2))=some (.Fc id ((out.length+1) * 2) (out.length * 2+1)):=by
 have hl:=qi (out++[q])
 rw[List.length_append,List.length_cons,List.length_nil] at hl
 simp only[place,hg,gd,xg,hl,if_true]
omit hf in
theorem lN:xa A false 1 (.Fc id ((out.length+1) * 2) (out.length * 2+1))=some (.pv (i64 q.2)):=by
 have hl:=qi (out++[q])
 rw[List.length_append,List.length_cons,List.length_nil] at hl
 simp only[xa,hg,gd,xg,hl,if_true,Ag,Bool.false_eq_true,if_false]
 have e:Wg (We (out++[q]))=Wg (We out)++[.pv (i64 q.1),.pv (i64 q.2)]:=by simp[Wg,We,aC]
 have hl2:=qi out
 rw[e,List.getElem?_append_right (by omega),hl2]
 have:out.length * 2+1 - out.length * 2=1:=by omega
 rw[this];rfl
omit hf in
theorem HL (v:Int):Ka A 1 (.Fc id ((out.length+1) * 2) (out.length * 2+1)) (.pv (i64 v))=some (A.set id (gd (out++[(q.1,v)]) ((out.length+1) * 2) nl)):=by
 have hl:=qi (out++[q])
 rw[List.length_append,List.length_cons,List.length_nil] at hl
 have e:∀ q:Int×Int,Wg (We (out++[q]))=Wg (We out)++[.pv (i64 q.1),.pv (i64 q.2)]:=fun q=>by simp[Wg,We,aC]
 have hl2:=qi out
 have hs:fa (Wg (We (out++[q]))) (out.length * 2+1) [.pv (i64 v)]=Wg (We (out++[(q.1,v)])):=by
  rw[e,e,fa,fa,List.set_append_right _ _ (by omega),hl2]
  have:out.length * 2+1 - out.length * 2=1:=by omega
  rw[this];rfl
 have hc:(AV.pv (i64 v)).cells=[.pv (i64 v)]:=rfl
 simp only[Ka,hg,gd,xg,hc]
 rw[if_pos ⟨rfl,rfl⟩,if_pos ⟨hl,by omega⟩,hs]
end
abbrev KA (id0 n i id1 m:Nat):Tr:=(((Tr.lf.set 11 (.pv (i64 i))).set 10 (.pv (i64 n))).set 9 (.own id0 n)).set 3 (.own id1 m)
def AK (l:List (Int×Int)):Prop:=∀ p∈l,-4611686018427387904≤p.2∧p.2≤4611686018427387904
theorem DQ {a b:List (Int×Int)} (ha:AK a) (hb:AK b):AK (a++b):=by
 intro p hp
 rcases List.mem_append.1 hp with h | h
 ·exact ha p h
 ·exact hb p h
theorem FO (call:Wa) (l:List (Int×Int)) (hl:AK l) {id0 fl0:Nat} {nl0:Bool} (H:List ba) (hH:Fe H) (hg0:H[id0]? =some (gd l fl0 nl0)) (hf0:fl0≤l.length * 2) (hw:l.length≤1000000):
 Sd (fun r=>∃ E fl nl,r=(.exit 0,⟨E,H++[gd (jh [] l) fl nl]⟩)∧E.get 3= .own H.length (jh [] l).length∧fl≤(jh [] l).length * 2)
  (mb (ga (pa call xh) (na (H.length+1) [3,9,10,11])) qa ⟨KA id0 l.length 0 H.length 0,H++[gd [] 0 true]⟩):=by
 have hp:=EM hg0 hf0 hH
 have hid:id0 < H.length:=hp.lt
 have hid1:id0 < H.length+1:=by omega
 have htk:H.length < H.length+1:=Nat.lt_succ_self _
 have hn:l.length=(We l).size:=(gn l).symm
 have hcut:∀ a b c,Oa (oa (H.length+1)) (H++[gd a b c])=some (H++[gd a b c]):=fun a b c=>Ck fun o ho=>by
  rcases List.mem_append.1 ho with h | h
  ·exact hH _ (by omega) o h
  ·simp at h;subst h;exact yp _ _ _ _
 refine ya (Kb (g:=ga (pa call xh) (na (H.length+1) [3,9,10,11]))
  (fun i t=>∃ out fl nl,t=⟨KA id0 l.length i H.length out.length,H++[gd out fl nl]⟩∧fl≤out.length * 2∧AK out∧out.length≤i∧jh [] l=jh out (l.drop i))
  l.length (by unfold qa;omega) _ ⟨[],0,true,rfl,by omega,by intro p hp;simp at hp,by simp,rfl⟩ ?_ ?_) (fun r h=>h.2)
 ·rintro i t hi ⟨out,fl,nl,rfl,hfl,hsa,hle,hs⟩
  have hd:l.drop i=l[i]::l.drop (i+1):=List.drop_eq_getElem_cons hi
  rw[hd] at hs
  have hsp:=hl l[i] (List.getElem_mem hi)
  have e1:decide ((i:Int) < (l.length:Int))=true:=Fa (by omega)
  have t2:=Za hi (by unfold maxLen;omega)
  have a1:=sF [gd out fl nl] hid (hp.Td nw hn (i:=(i:Int)) rfl (by omega))
  have l1:=NJ [gd out fl nl] hid (hp.load nw hn (k:=i) (by omega))
  rw[oD hi] at l1
  have l1':xa (H++[gd out fl nl]) true 2 (.Fc id0 (l.length * 2) (i * 2))=some (.pv (pr l[i])):=l1
  have s1:=Uw (H++[gd out fl nl]) (.pv (i64 0)) (.pv (i64 0)) l[i]
  have l2:=Vz (H++[gd out fl nl]) l[i]
  have b0:∀ p:Int×Int,place (H++[gd out fl nl]++[ba.box [.pv (i64 p.1),.pv (i64 p.2)]]) 0 (.ptr (H++[gd out fl nl]).length 0)=some (.ptr (H++[gd out fl nl]).length 0):=fun p=>by simp[place]
  have b1:∀ p:Int×Int,place (H++[gd out fl nl]++[ba.box [.pv (i64 p.1),.pv (i64 p.2)]]) 1 (.ptr (H++[gd out fl nl]).length 0)=some (.ptr (H++[gd out fl nl]).length 1):=fun p=>by simp[place]
  have b2:∀ p:Int×Int,xa (H++[gd out fl nl]++[ba.box [.pv (i64 p.1),.pv (i64 p.2)]]) false 1 (.ptr (H++[gd out fl nl]).length 0)=some (.pv (i64 p.1)):=fun p=>by simp[xa,Ag]
  have b3:∀ p:Int×Int,xa (H++[gd out fl nl]++[ba.box [.pv (i64 p.1),.pv (i64 p.2)]]) false 1 (.ptr (H++[gd out fl nl]).length 1)=some (.pv (i64 p.2)):=fun p=>by simp[xa,Ag]
  have hap:=DA (A:=H++[gd out fl nl]++[.box [.pv (i64 l[i].1),.pv (i64 l[i].2)]]) (id:=H.length) (n:=out.length) (h:= .own) (bytes:=16) (by rw[List.getElem?_append_left (by simp)];exact aj _ _) rfl (by unfold qb;omega) l[i]
  rw[List.set_append_left _ _ (by simp),Pm] at hap
  have htk2:∀ (o o2:ba),(H++[o]++[o2]).take (H.length+1)=H++[o]:=fun o o2=>by
   rw[List.take_append_of_le_length (by simp),List.take_of_length_le (by simp)]
  have hlen:Qb (H++[gd out fl nl]++[.box [.pv (i64 l[i].1),.pv (i64 l[i].2)]]) 0 (.own H.length out.length)=some out.length:=by
   rw[Ty,List.getElem?_append_left (by simp),aj]
   have:=qi out
   simp only[gd,xg]
   rw[if_pos];unfold vh;omega
  rcases List.eq_nil_or_concat out with rfl | ⟨out,q,rfl⟩
  ·have hz:decide (((0:Nat):Int) > 0)=false:=by decide
   rw[JE] at hs
   rw[List.length_nil] at hap hlen
   rw[Nat.zero_add,List.nil_append] at hap
   generalize l[i]=p at *
   generalize hQ:LN _ _ i=Q
   simp -implicitDefEqProofs only[SP,WP,fa,sevalprocAttr,xh,e1,t2,a1,l1',s1,l2,hlen,hz,hap,htk2,hcut,hid1,htk,na,za,AV.cut,ta,KA]
   subst hQ
   exact⟨[p],fl,false,rfl,by simp at hfl ⊢;omega,by intro x hx;simp at hx;subst hx;exact hsp,by simp,hs⟩
  ·rw[List.concat_eq_append] at *
   have hql:=hsa q (by simp)
   have hol:(out++[q]).length=out.length+1:=by simp
   have hg1:(H++[gd (out++[q]) fl nl]++[ba.box [.pv (i64 l[i].1),.pv (i64 l[i].2)]])[H.length]? =some (gd (out++[q]) fl nl):=by rw[List.getElem?_append_left (by simp)];exact aj _ _
   have c1:=VJ hg1 (by rw[hol] at hfl;exact hfl)
   have c2:=AL hg1
   have c3:=lN hg1
   have c4:=HL hg1 (if l[i].2 > q.2 then l[i].2 else q.2)
   rw[List.set_append_left _ _ (by simp),Pm] at c4
   have t3:IntKind.i64.wrap (((out.length+1:Nat):Int) - 1)=(out.length:Int):=by rw[Ca (by omega)];omega
   have t4:IntKind.i64.wrap (q.2+1)=q.2+1:=Ca (by omega)
   have hz:decide (((out.length+1:Nat):Int) > 0)=true:=Fa (by omega)
   rw[hol] at hlen hap hfl hle
   by_cases hj:l[i].1≤q.2+1
   ·have e2:decide (l[i].1≤q.2+1)=true:=Fa hj
    rw[MC hj] at hs
    generalize l[i]=p at *
    generalize hmx:(if p.2 > q.2 then p.2 else q.2)=mx at *
    generalize hQ:LN _ _ i=Q
    simp -implicitDefEqProofs only[SP,WP,fa,sevalprocAttr,xh,e1,t2,a1,l1',s1,l2,hol,hlen,hz,b0,b1,b2,b3,c1,c2,c3,c4,t3,t4,e2,aq,me,hmx,htk2,hcut,hid1,htk,na,za,AV.cut,ta,KA]
    subst hQ
    refine⟨out++[(q.1,mx)],(out.length+1) * 2,nl,by simp[KA,hol],by simp,?_,by simp;omega,hs⟩
    intro x hx
    rcases List.mem_append.1 hx with h | h
    ·exact hsa x (by simp[h])
    ·simp at h;subst h
     rw[← hmx];split <;> simp only <;> omega
   ·have e2:decide (l[i].1≤q.2+1)=false:=Ja hj
    rw[PF hj] at hs
    generalize l[i]=p at *
    generalize hQ:LN _ _ i=Q
    simp -implicitDefEqProofs only[SP,WP,fa,sevalprocAttr,xh,e1,t2,a1,l1',s1,l2,hol,hlen,hz,b0,b1,b2,b3,c1,c2,c3,t3,t4,e2,hap,htk2,hcut,hid1,htk,na,za,AV.cut,ta,KA]
    subst hQ
    refine⟨out++[q]++[p],fl,false,by simp[KA],by simp;omega,?_,by simp;omega,hs⟩
    exact DQ hsa (by intro x hx;simp at hx;subst hx;exact hsp)
 ·rintro t ⟨out,fl,nl,rfl,hfl,hsa,hle,hs⟩
  rw[List.drop_length,jh] at hs
  have e1:decide ((l.length:Int) < (l.length:Int))=false:=Ja (by omega)
  generalize hQ:(fun r:Ex×St=>r.1.stop=true∧_)=Q
  simp -implicitDefEqProofs only[SX,sevalprocAttr,xh,e1,KA]
  subst hQ
  rw[hs]
  exact⟨rfl,_,fl,nl,rfl,by simp[Tr.aa],hfl⟩
end Go.AM.B1
namespace Go.AM.B1
open Go.AM Go.AM.So
def Bx (last:Int) (a:List (Int×Int)):Int:=(a.getLast?.map (·.2)).getD last
theorem zH (last:Int) (p:Int×Int) (a:List (Int×Int)):Bx last (p::a)=Bx p.2 a:=by
 cases a with
 |nil=>rfl
 |cons q a=>simp[Bx,List.getLast?_cons]
theorem KJ (last:Int) (a:List (Int×Int)) (q:Int×Int):Bx last (a++[q])=q.2:=by simp[Bx]
theorem Vs (top:Int):∀ (a b:List (Int×Int)) (last:Int),Ma top last (a++b)=(Ma top last a&&Ma top (Bx last a) b)
 | [],b,last=>by simp[Ma,Bx]
 |p::a,b,last=>by
  rw[List.cons_append,Ma,Ma,Vs top a b p.2,zH,Bool.and_assoc]
theorem Yo {top last:Int} {p:Int×Int}:Ma top last [p]=true↔0≤p.1∧p.1≤p.2∧p.2≤top∧last < p.1 - 1:=by
 simp only[Ma,Bool.and_true,Bool.not_eq_true',Bool.or_eq_false_iff,decide_eq_false_iff_not]
 constructor <;> intro h <;> refine⟨?_,?_⟩ <;> omega
theorem mr (x:Int) (a b:List (Int×Int)):jj x (a++b)↔jj x a∨jj x b:=by
 unfold jj
 simp only[List.mem_append]
 constructor
 ·rintro⟨p,h | h,hp⟩
  ·exact .inl ⟨p,h,hp⟩
  ·exact .inr ⟨p,h,hp⟩
 ·rintro (⟨p,h,hp⟩ | ⟨p,h,hp⟩)
  ·exact⟨p,.inl h,hp⟩
  ·exact⟨p,.inr h,hp⟩
theorem Dn (x:Int) (p:Int×Int):jj x [p]↔p.1≤x∧x≤p.2:=by
 unfold jj;simp
theorem Ul (x:Int):¬jj x []:=by unfold jj;simp
theorem ql (x:Int) (p:Int×Int) (l:List (Int×Int)):jj x (p::l)↔(p.1≤x∧x≤p.2)∨jj x l:=by
 unfold jj;simp
theorem Mz {top:Int}:∀ (rest out:List (Int×Int)) (q:Int×Int),Ma top (-2) (out++[q])=true→(∀ p∈rest,0≤p.1∧p.1≤p.2∧p.2≤top∧q.1≤p.1)→rest.Pairwise (fun p q=>p.1≤q.1)→
 Ma top (-2) (jh (out++[q]) rest)=true∧(∀ x,jj x (jh (out++[q]) rest)↔jj x (out++[q])∨jj x rest)∧(jh (out++[q]) rest).length≤out.length+1+rest.length
 | [],out,q,hv,_,_=>by
   rw[jh]
   exact⟨hv,fun x=>by simp[Ul],by simp⟩
 |r::rest,out,q,hv,hr,hs=>by
  have h1:=hr r (by simp)
  rw[List.pairwise_cons] at hs
  have hv':=hv
  rw[Vs,Bool.and_eq_true,Yo] at hv'
  by_cases hj:r.1≤q.2+1
  ·rw[MC hj]
   have ih:=Mz rest out (q.1,if r.2 > q.2 then r.2 else q.2) (by
    rw[Vs,Bool.and_eq_true,Yo]
    refine⟨hv'.1,hv'.2.1,?_,?_,hv'.2.2.2.2⟩ <;> simp only <;> split <;> omega) (fun p hp=>by
     have:=hr p (by simp[hp])
     exact⟨this.1,this.2.1,this.2.2.1,this.2.2.2⟩) hs.2
   refine⟨ih.1,fun x=> ?_,by have:=ih.2.2;simp only[List.length_cons];omega⟩
   rw[ih.2.1,mr,mr,Dn,Dn,ql]
   have e:(q.1≤x∧x≤(if r.2 > q.2 then r.2 else q.2))↔(q.1≤x∧x≤q.2)∨(r.1≤x∧x≤r.2):=by
    split <;> constructor <;> intro h <;> omega
   simp only[e]
   constructor
   ·rintro ((h | h | h) | h)
    ·exact .inl (.inl h)
    ·exact .inl (.inr h)
    ·exact .inr (.inl h)
    ·exact .inr (.inr h)
   ·rintro ((h | h) | h | h)
    ·exact .inl (.inl h)
    ·exact .inl (.inr (.inl h))
    ·exact .inl (.inr (.inr h))
    ·exact .inr h
  ·rw[PF hj]
   have ih:=Mz rest (out++[q]) r (by
    rw[Vs,Bool.and_eq_true,Yo,KJ]
    exact⟨hv,h1.1,h1.2.1,h1.2.2.1,by omega⟩) (fun p hp=>by
     have h2:=hr p (by simp[hp])
     exact⟨h2.1,h2.2.1,h2.2.2.1,hs.1 p hp⟩) hs.2
   refine⟨ih.1,fun x=> ?_,by have:=ih.2.2;simp only[List.length_cons,List.length_append,List.length_nil] at this ⊢;omega⟩
   rw[ih.2.1,mr,Dn,ql]
   constructor
   ·rintro ((h | h) | h)
    ·exact .inl h
    ·exact .inr (.inl h)
    ·exact .inr (.inr h)
   ·rintro (h | h | h)
    ·exact .inl (.inl h)
    ·exact .inl (.inr h)
    ·exact .inr h
theorem EN {top:Int} (l:List (Int×Int)) (hr:∀ p∈l,0≤p.1∧p.1≤p.2∧p.2≤top) (hs:l.Pairwise (fun p q=>p.1≤q.1)):
 Ma top (-2) (jh [] l)=true∧(∀ x,jj x (jh [] l)↔jj x l)∧(jh [] l).length≤l.length:=by
 cases l with
 |nil=>exact⟨rfl,fun x=>Iff.rfl,Nat.le_refl _⟩
 |cons r rest=>
  rw[JE]
  have h1:=hr r (by simp)
  rw[List.pairwise_cons] at hs
  have:=Mz rest [] r (by rw[List.nil_append,Yo];exact⟨h1.1,h1.2.1,h1.2.2,by omega⟩) (fun p hp=>by
   have h2:=hr p (by simp[hp])
   exact⟨h2.1,h2.2.1,h2.2.2,hs.1 p hp⟩) hs.2
  rw[List.nil_append] at this
  refine⟨this.1,fun x=> ?_,by have:=this.2.2;simp at this ⊢;omega⟩
  rw[this.2.1,Dn,ql]
theorem bp {top:Int}:∀ {l:List (Int×Int)} {last:Int},Ma top last l=true→∀ p∈l,0≤p.1∧p.1≤p.2∧p.2≤top
 |q::l,last,h,p,hp=>by
  obtain⟨h1,h2,h3,h4,h5⟩:=ae h
  rcases List.mem_cons.1 hp with rfl | hp
  ·exact⟨by omega,by omega,by omega⟩
  ·exact bp h5 p hp
theorem Jy:∀ (l:List (Int×Int)),Wg (We l)=vf (l.flatMap fun p=>[p.1,p.2])
 | []=>rfl
 |p::l=>by
  have h:=Jy l
  simp only[Wg,We,vf] at h ⊢
  simp[aC,h]
theorem JB:∀ (l:List (Int×Int)),Zg 2 l.length (l.flatMap fun p=>[p.1,p.2])=l.map fun p=>[p.1,p.2]
 | []=>rfl
 |p::l=>by
  rw[List.length_cons,Zg,List.flatMap_cons,List.map_cons,←JB l];rfl
theorem vO {l:List (Int×Int)} (hw:l.length < 50) {H:List ba} {id fl:Nat} {nl:Bool} (hg:H[id]? =some (gd l fl nl)):
 ∃ l',l'.Perm l∧l'.Pairwise (fun p q=>p.1≤q.1)∧yy 2 0 23 [.own id l.length,.uk 23 []] H=some (.pv (.yc []),H.set id (gd l' (l.length * 2) nl)):=by
 obtain⟨s1,s2,s3⟩:=dy 2 0 (l.map fun p=>[p.1,p.2]).toArray
 have hso:∀ F,OD (Wg (We l))=some F→Zg 2 l.length F=l.map fun p=>[p.1,p.2]:=by
  intro F hF
  rw[Jy,Xs] at hF
  injection hF with hF
  rw[← hF,JB]
 generalize hE:dn 2 0 (l.map fun p=>[p.1,p.2]).toArray=E at *
 have hEl:∃ l':List (Int×Int),E.toList=l'.map fun p=>[p.1,p.2]:=by
  have key:∀ (L:List (List Int)),(∀ r∈L,∃ p:Int×Int,r=[p.1,p.2])→∃ l':List (Int×Int),L=l'.map fun p=>[p.1,p.2]:=by
   intro L
   induction L with
   |nil=>intro _;exact⟨[],rfl⟩
   |cons r L ih=>
    intro h
    obtain⟨p,rfl⟩:=h r (by simp)
    obtain⟨l',rfl⟩:=ih fun x hx=>h x (by simp[hx])
    exact⟨p::l',rfl⟩
  refine key _ fun r hr=> ?_
  have:=s2.mem_iff.1 hr
  simp only[List.mem_map] at this
  obtain⟨p,_,rfl⟩:=this
  exact⟨p,rfl⟩
 obtain⟨l',hl'⟩:=hEl
 have hs:E.size=l.length:=by rw[s1];simp
 have hll:l'.length=l.length:=by rw[← hs,←Array.length_toList,hl',List.length_map]
 refine⟨l',?_,?_,?_⟩
 ·rw[hl'] at s2
  have:=s2.map fun r=>(r.getD 0 0,r.getD 1 0)
  simpa[List.map_map,Function.comp_def] using this
 ·rw[List.pairwise_iff_getElem]
  intro i j hi hj hij
  have h:=s3 i j hij (by simp;omega)
  have hg:∀ q (hq:q < l'.length),Jv 2 0 E[q]! =l'[q].1:=by
   intro q hq
   have h1:q < E.size:=by omega
   have:E[q]=[l'[q].1,l'[q].2]:=by
    have h2:E.toList[q]? =some [l'[q].1,l'[q].2]:=by rw[hl',List.getElem?_map,List.getElem?_eq_getElem hq];rfl
    rw[Array.getElem?_toList,Array.getElem?_eq_getElem h1] at h2
    exact Option.some.inj h2
   rw[getElem!_pos E q h1,this];rfl
  rw[hg i hi,hg j hj] at h
  omega
 ·have hfl:=qi l
  unfold yy
  simp only[hg,gd,xg]
  rw[if_pos ⟨trivial,trivial,by rw[hfl],by omega⟩]
  have hF:=Jy l
  have hI:=Xs (l.flatMap fun p=>[p.1,p.2])
  rw[← hF] at hI
  rw[hI,Option.map_some,hso _ hI,hE,hl',hfl]
  have e:vf (List.map (fun p:Int×Int=>[p.1,p.2]) l').flatten=Wg (We l'):=by rw[Jy,List.flatMap_def]
  rw[e]
theorem HO (d:Nat) (args:List AV) (H:List ba):ch Dj Db (d+1) 22 args H=yy 2 0 23 args H:=rfl
theorem KQ (l:List (Int×Int)) (hl:AK l) {id0 fl0:Nat} {nl0:Bool} (H:List ba) (hH:Fe H) (hg0:H[id0]? =some (gd l fl0 nl0)) (hf0:fl0≤l.length * 2) (hw:l.length < 50):
 Sd (fun r=>∃ l' fl nl,l'.Perm l∧l'.Pairwise (fun p q=>p.1≤q.1)∧r.1= .own (r.2.length - 1) (jh [] l').length∧Fe r.2∧r.2[r.2.length - 1]? =some (gd (jh [] l') fl nl)∧fl≤(jh [] l').length * 2)
  (mg (ch Dj Db 7) Gn [.own id0 l.length] H):=by
 obtain⟨l',hpl,hps,hst⟩:=vO hw hg0
 have hid0:=(List.getElem?_eq_some_iff.1 hg0).1
 have hs2:l'.length=l.length:=hpl.length_eq
 have hg:(H.set id0 (gd l' (l.length * 2) nl0))[id0]? =some (gd l' (l.length * 2) nl0):=List.getElem?_set_self hid0
 have hgd:Fe (H.set id0 (gd l' (l.length * 2) nl0)):=by
  intro n hn o ho
  rcases List.mem_or_eq_of_mem_set ho with h | h
  ·exact hH n (by simpa using hn) o h
  ·subst h;exact yp _ _ _ _
 have hfl:l.length * 2≤l'.length * 2:=by omega
 simp -implicitDefEqProofs only[SX,sevalprocAttr,Gn,HO,hst]
 generalize H.set id0 (gd l' (l.length * 2) nl0)=H2 at *
 have hl':AK l':=fun p hpp=>hl p (hpl.mem_iff.1 hpp)
 have hlp:=FO (ch Dj Db 7) l' hl' H2 hgd hg hfl (by omega)
 rw[hs2] at hlp
 have hlen:Qb (H2++[gd [] 0 true]) 0 (.own id0 l.length)=some l.length:=by
  have hid:id0 < H2.length:=(List.getElem?_eq_some_iff.1 hg).1
  have:=qi l'
  rw[Ty,List.getElem?_append_left hid,hg]
  simp only[gd,xg]
  unfold Wg at this ⊢
  rw[if_pos];unfold vh;omega
 have hg2:H2.length < H2.length+1:=Nat.lt_succ_self _
 have hid1:id0 < H2.length+1:=by have:=(List.getElem?_eq_some_iff.1 hg).1;omega
 have hgood:Fe (H2++[gd [] 0 true]):=by
  intro n hn o ho
  rcases List.mem_append.1 ho with h | h
  ·exact hgd n (by simp at hn;omega) o h
  ·simp at h;subst h;exact yp _ _ _ _
 have hcut:=Fe.cut hgood
 have hlen1:(H2++[gd [] 0 true]).length=H2.length+1:=by simp
 rw[hlen1] at hcut
 have hz:(0 < 2)=True:=by simp
 have ho:ba.seq 2 true [] 0 true=gd [] 0 true:=rfl
 simp -implicitDefEqProofs only[SX,sevalprocAttr,Gb,Ve,hz,ho,hlen,hlen1,hcut,hg2,hid1,List.take_of_length_le (show (H2++[gd [] 0 true]).length≤H2.length+1 by simp),na,za,AV.cut,ta]
 refine ya hlp ?_
 rintro _ ⟨E,fl2,nl2,rfl,hE,hfl2⟩
 simp -implicitDefEqProofs only[SX,sevalprocAttr,hE]
 refine⟨l',fl2,nl2,hpl,hps,by simp,?_,by simp,hfl2⟩
 intro n hn o ho
 rcases List.mem_append.1 ho with h | h
 ·exact hgd n (by simp at hn;omega) o h
 ·simp at h;subst h;exact yp _ _ _ _
end Go.AM.B1
namespace Go.AM.B1
open Go.AM Go.AM.So
abbrev qx:Int:=1073741823
theorem mP {A:List ba} {id1 id2 n1 n2 f1 f2 bytes:Nat} {k1 k2:Bool} {h:nf} {a b:List (Int×Int)} (h1:A[id1]? =some (gd a f1 k1)) (h2:A[id2]? =some (gd b f2 k2)) (hn1:n1=a.length) (hn2:n2=b.length) (hr:qb (n1+n2) bytes):
 ∃ k,Ub A true h 2 true bytes (.own id1 n1) (.own id2 n2)=some (.own id1 (n1+n2),A.set id1 (gd (a++b) f1 k)):=by
 subst hn1 hn2
 have la:=qi a
 have lb:=qi b
 have e:Wg (We (a++b))=Wg (We a)++Wg (We b):=by simp[Wg,We]
 have hone:(Wg (We b)).all AV.one=true:=by
  rw[List.all_eq_true]
  intro v hv
  obtain⟨c,hc,rfl⟩:=List.mem_map.1 hv
  rw[List.mem_flatten] at hc
  obtain⟨r,hr,hc⟩:=hc
  exact (nw r (Qz b r hr)).2 c hc
 refine⟨k1&&(b.length==0),?_⟩
 simp only[Ub,if_true,h1,gd,xg,Yi,h2,e]
 rw[if_pos ⟨trivial,by omega⟩]
 simp only[Option.bind_some]
 rw[if_pos ⟨trivial,by omega,hr,hone⟩]
theorem eo (v:PV) (l:List (Int×Int)) (hv:Ai 2 v (Md l)) (hw:l.length * 16≤140737488355328) (hval:Ma qx (-2) l=true) (H:List ba) (hH:Fe H):
 mg (ch Dj Db 7) Uh [.pv v] H=some (.own H.length l.length,H++[gd l 0 false]):=by
 have h1:=xK (ch Dj Db 6) v l hv hw H hH
 have h2:=Lr (.lit 2 (Md l)) l (.inr rfl) (by unfold maxLen;omega) qx (by decide)
 rw[hval] at h2
 have h0:∀ args H,ch Dj Db 7 0 args H=mg (ch Dj Db 6) Wc args H:=fun _ _=>rfl
 have h3:=sP (A:=H++[gd l 0 false]) (id:=H.length) (n:=l.length) (aj _ _) rfl 5
 rw[if_neg (by simp)] at h3
 simp -implicitDefEqProofs only[SX,sevalprocAttr,Uh,h0,h1,h2,h3]
theorem TJ {H:List ba} (hH:Fe H) {o:ba} (ho:∀ n,oa n o=some o):Fe (H++[o]):=by
 intro n hn x hx
 rcases List.mem_append.1 hx with h | h
 ·exact hH n (by simp at hn;omega) x h
 ·simp at h;subst h;exact ho n
theorem fN (A B:PV) (a b:List (Int×Int)) (hA:Ai 2 A (Md a)) (hB:Ai 2 B (Md b)) (hva:Ma qx (-2) a=true) (hvb:Ma qx (-2) b=true) (hl:a.length+b.length < 50):
 ∃ u,Tk [A,B]=some (.lit 2 (Md u))∧Ma qx (-2) u=true∧(∀ x,jj x u↔jj x a∨jj x b)∧u.length≤a.length+b.length:=by
 have h1:=eo A a hA (by omega) hva [] (by intro n _ o ho;simp at ho)
 have hg1:Fe ([]++[gd a 0 false]):=TJ (by intro n _ o ho;simp at ho) (yp _ _ _)
 have h2:=eo B b hB (by omega) hvb ([]++[gd a 0 false]) hg1
 obtain⟨k,h3⟩:=mP (A:=[gd a 0 false,gd b 0 false]) (id1:=0) (id2:=1) (n1:=a.length) (n2:=b.length) (bytes:=16) (h:= .own) rfl rfl rfl rfl (by unfold qb;omega)
 have hg3:Fe [gd (a++b) 0 k,gd b 0 false]:=by
  intro n _ o ho
  simp at ho
  rcases ho with rfl | rfl <;> exact yp _ _ _ _
 have ra:=bp hva
 have rb:=bp hvb
 have rab:∀ p∈a++b,0≤p.1∧p.1≤p.2∧p.2≤qx:=fun p hp=>by
  rcases List.mem_append.1 hp with h | h
  ·exact ra p h
  ·exact rb p h
 have h4:=KQ (a++b) (fun p hp=>by have:=rab p hp;unfold qx at this;omega) (id0:=0) [gd (a++b) 0 k,gd b 0 false] hg3 rfl (by omega) (by simp;omega)
 obtain⟨⟨v,H4⟩,e4,l',fl,nl,hpl,hps,hv,hg4,hget,hfl⟩:=uc h4
 dsimp only at hv hg4 hget
 subst hv
 have law:=EN (top:=qx) l' (fun p hp=>rab p (hpl.mem_iff.1 hp)) hps
 have hll:(jh [] l').length≤a.length+b.length:=by have:=hpl.length_eq;simp at this;omega
 have h5:=rO (ch Dj Db 6) (jh [] l') H4 hg4 hget hfl (by omega)
 have hmem:∀ x,jj x (jh [] l')↔jj x a∨jj x b:=by
  intro x
  rw[law.2.1,←mr]
  unfold jj
  constructor
  ·rintro⟨p,h,hx⟩;exact⟨p,hpl.mem_iff.1 h,hx⟩
  ·rintro⟨p,h,hx⟩;exact⟨p,hpl.mem_iff.2 h,hx⟩
 refine⟨jh [] l',?_,law.1,hmem,hll⟩
 generalize jh [] l'=u at *
 simp only[List.nil_append,List.length_nil,List.cons_append,List.length_cons,Nat.zero_add] at h1 h2 h3
 rw[List.set_cons_zero] at h3
 have c1:∀ args H,ch Dj Db 8 1 args H=mg (ch Dj Db 7) Uh args H:=fun _ _=>rfl
 have c24:∀ args H,ch Dj Db 8 24 args H=mg (ch Dj Db 7) Gn args H:=fun _ _=>rfl
 have c3:∀ args H,ch Dj Db 8 3 args H=mg (ch Dj Db 7) Pj args H:=fun _ _=>rfl
 have c2:∀ args H,ch Dj Db 7 2 args H=mg (ch Dj Db 6) ud args H:=fun _ _=>rfl
 have hab:(a++b).length=a.length+b.length:=by simp
 rw[hab] at e4
 simp -implicitDefEqProofs only[Tk,EA,SP,WP,fa,sevalprocAttr,Un,c1,h1,h2,h3,c24,e4,c3,Pj,c2,h5]
theorem qu (v:PV) (l:List (Int×Int)) (hv:Ai 2 v (Md l)) (hw:l.length * 16≤140737488355328) (hval:Ma qx (-2) l=true):Pk [v]=some (.lit 2 (Md l)):=by
 have h1:=Zk v l hv hw
 rw[← YH] at h1
 have h2:=Lr (.lit 2 (Md l)) l (.inr rfl) (by unfold maxLen;omega) qx (by decide)
 rw[hval] at h2
 simp -implicitDefEqProofs only[Pk,SP,SA,SQ,sevalprocAttr,Uq,fg,zc,h1,h2]
def Ff:Nat→List (Int×Int)→List (Int×Int)→List (Int×Int)
 |0,_,_=>[]
 |n+1,a,b=>match a,b with
  |p::a',q::b'=>(if (if q.1 > p.1 then q.1 else p.1)≤(if q.2 < p.2 then q.2 else p.2) then [((if q.1 > p.1 then q.1 else p.1),(if q.2 < p.2 then q.2 else p.2))] else [])++(if p.2 < q.2 then Ff n a' (q::b') else Ff n (p::a') b')
  |_,_=>[]
abbrev Ou (va vb:PV) (tk:Nat) (nl:Bool) (es:List PV):Tr:=((Tr.lf.set 5 (.uq tk nl 2 es)).set 1 (.pv vb)).set 0 (.pv va)
theorem Ai.pV {v:PV} {p:PV} {es:List PV} (h:Ai 2 v (p::es)):∀ H,yf H 2 (.pv v) (some 1) none=some (.pv (.lit 2 es)):=by
 intro H
 rcases h with⟨_,h⟩ | rfl
 ·cases h
 ·simp[yf]
  omega
theorem pI (A B:PV) (a b:List (Int×Int)) (hA:Ai 2 A (Md a)) (hB:Ai 2 B (Md b)) (hw:(a.length+b.length) * 16≤140737488355328):
 ∃ u,ml [A,B]=some u∧Ai 2 u (Md (Ff (a.length+b.length) a b)):=by
 have hloop:Sd (fun r=>∃ E H nl,r=(.exit 0,⟨E,H⟩)∧E.get 5= .uq 0 nl 2 (Md (Ff (a.length+b.length) a b))∧(nl=true→Ff (a.length+b.length) a b=[]))
  (mb (ga (pa (Ba (fun _=>none) 8) Hf) (na 1 [0,1,5])) qa ⟨Ou A B 0 true [],[.tok 2 0 true]⟩):=by
  refine ya (Ip (g:=ga (pa (Ba (fun _=>none) 8) Hf) (na 1 [0,1,5]))
   (fun m t=>∃ va vb a' b' nl out,m=a'.length+b'.length∧Ai 2 va (Md a')∧Ai 2 vb (Md b')∧t=⟨Ou va vb 0 nl (Md out),[.tok 2 out.length nl]⟩∧out.length+m≤a.length+b.length∧(nl=true→out=[])∧Ff (a.length+b.length) a b=out++Ff m a' b')
   qa (a.length+b.length) _ (by unfold qa;omega) ⟨A,B,a,b,true,[],rfl,hA,hB,rfl,by simp,fun _=>rfl,rfl⟩ ?_) (fun r h=>h.2)
  rintro m t ⟨va,vb,a',b',nl,out,rfl,ha,hb,rfl,hlen,hnl,hs⟩
  have la:=ha.len
  have lb:=hb.len
  simp only[Md,List.length_map] at la lb
  cases a' with
  |nil=>
   have hs':Ff (a.length+b.length) a b=out:=by
    rw[hs];cases b' <;> simp[Ff]
   have z1:decide (((([]:List (Int×Int)).length:Nat):Int) > 0)=false:=by decide
   generalize hQ:LQ _ _ _=Q
   simp -implicitDefEqProofs only[SX,sevalprocAttr,Hf,la,z1,Ou]
   subst hQ
   rw[hs']
   exact⟨_,_,nl,rfl,by simp[Tr.aa],hnl⟩
  |cons p a'=>
   have z1:decide ((((p::a').length:Nat):Int) > 0)=true:=Fa (by simp)
   cases b' with
   |nil=>
    have hs':Ff (a.length+b.length) a b=out:=by
     rw[hs];simp[Ff]
    have z2:decide (((([]:List (Int×Int)).length:Nat):Int) > 0)=false:=by decide
    generalize hQ:LQ _ _ _=Q
    have la':∀ H,Qb H 0 (.pv va)=some (a'.length+1):=la
    have z1':decide ((((a'.length+1):Nat):Int) > 0)=true:=z1
    have lb':∀ H,Qb H 0 (.pv vb)=some 0:=lb
    have z2':decide (((0:Nat):Int) > 0)=false:=z2
    simp -implicitDefEqProofs only[SX,sevalprocAttr,Hf,la',lb',z1',z2',Ou]
    subst hQ
    rw[hs']
    exact⟨_,_,nl,rfl,by simp[Tr.aa],hnl⟩
   |cons q b'=>
    have la':∀ H,Qb H 0 (.pv va)=some (a'.length+1):=la
    have z1':decide ((((a'.length+1):Nat):Int) > 0)=true:=z1
    have lb':∀ H,Qb H 0 (.pv vb)=some (b'.length+1):=lb
    have z2':decide ((((b'.length+1):Nat):Int) > 0)=true:=Fa (by omega)
    have hva:va= .lit 2 (Md (p::a')):=ha.lit (i:=0) (by simp)
    have hvb:vb= .lit 2 (Md (q::b')):=hb.lit (i:=0) (by simp)
    have sa:=Ai.pV ha
    have sb:=Ai.pV hb
    have i1:∀ H,wa H 2 (.pv va) 0=some (.pv (.rp [i64 p.1,i64 p.2] 0)):=fun H=>by
     rw[hva];exact zk H (i:=0) (l:=p::a') (by simp)
    have i2:∀ H,wa H 2 (.pv vb) 0=some (.pv (.rp [i64 q.1,i64 q.2] 0)):=fun H=>by
     rw[hvb];exact zk H (i:=0) (l:=q::b') (by simp)
    have hap:=Lg (A:=[.tok 2 out.length nl]) (id:=0) (n:=out.length) (h:= .uq) (ag:=true) (nl:=nl) (sz:=2) (bytes:=16) (es:=Md out) rfl (by simp) (by unfold qb;simp only[List.length_cons] at hlen;omega) (pr ((if q.1 > p.1 then q.1 else p.1),(if q.2 < p.2 then q.2 else p.2)))
    rw[List.set_cons_zero] at hap
    have hm:∀ n,Ff (n+1) (p::a') (q::b')=(if (if q.1 > p.1 then q.1 else p.1)≤(if q.2 < p.2 then q.2 else p.2) then [((if q.1 > p.1 then q.1 else p.1),(if q.2 < p.2 then q.2 else p.2))] else [])++(if p.2 < q.2 then Ff n a' (q::b') else Ff n (p::a') b'):=fun n=>rfl
    have hmn:(p::a').length+(q::b').length=(a'.length+b'.length+1)+1:=by simp;omega
    have l0:∀ H (x y:PV),xa H false 1 (.pv (.rp [x,y] 0))=some (.pv x):=fun H x y=>rfl
    have l1:∀ H (x y:PV),xa H false 1 (.pv (.rp [x,y] 1))=some (.pv y):=fun H x y=>rfl
    have p0:∀ H (x y:PV),place H 0 (.pv (.rp [x,y] 0))=some (.pv (.rp [x,y] 0)):=fun H x y=>rfl
    have p1:∀ H (x y:PV),place H 1 (.pv (.rp [x,y] 0))=some (.pv (.rp [x,y] 1)):=fun H x y=>rfl
    rw[hmn] at hlen
    rw[hmn,hm] at hs
    generalize hlo:(if q.1 > p.1 then q.1 else p.1)=lo at *
    generalize hhi:(if q.2 < p.2 then q.2 else p.2)=hi at *
    clear hva hvb
    have hprs:Md (out++[(lo,hi)])=Md out++[pr (lo,hi)]:=by simp[Md]
    generalize hQ:LQ _ _ _=Q
    by_cases c1:lo≤hi
    ·have d1:=Fa c1
     rw[if_pos c1] at hs
     by_cases c2:p.2 < q.2
     ·have d2:=Fa c2
      rw[if_pos c2] at hs
      simp -implicitDefEqProofs only[SP,WP,fa,sevalprocAttr,Hf,la',lb',z1',z2',i1,i2,l0,l1,p0,p1,aq,me,hlo,hhi,hap,d1,d2,sa,sb,na,za,AV.cut,oa,ta,Ou]
      subst hQ
      exact⟨a'.length+b'.length+1,by rw[hmn];omega,_,vb,a',q::b',false,out++[(lo,hi)],by simp;omega,.inr rfl,hb,by rw[hprs];simp[Ou],by simp;omega,by simp,by rw[hs,List.append_assoc]⟩
     ·have d2:=Ja c2
      rw[if_neg c2] at hs
      simp -implicitDefEqProofs only[SP,WP,fa,sevalprocAttr,Hf,la',lb',z1',z2',i1,i2,l0,l1,p0,p1,aq,me,hlo,hhi,hap,d1,d2,sa,sb,na,za,AV.cut,oa,ta,Ou]
      subst hQ
      exact⟨a'.length+b'.length+1,by rw[hmn];omega,va,_,p::a',b',false,out++[(lo,hi)],by simp;omega,ha,.inr rfl,by rw[hprs];simp[Ou],by simp;omega,by simp,by rw[hs,List.append_assoc]⟩
    ·have d1:=Ja c1
     rw[if_neg c1,List.nil_append] at hs
     by_cases c2:p.2 < q.2
     ·have d2:=Fa c2
      rw[if_pos c2] at hs
      simp -implicitDefEqProofs only[SP,WP,fa,sevalprocAttr,Hf,la',lb',z1',z2',i1,i2,l0,l1,p0,p1,aq,me,hlo,hhi,d1,d2,sa,sb,na,za,AV.cut,oa,ta,Ou]
      subst hQ
      exact⟨a'.length+b'.length+1,by rw[hmn];omega,_,vb,a',q::b',nl,out,by simp;omega,.inr rfl,hb,rfl,by omega,hnl,hs⟩
     ·have d2:=Ja c2
      rw[if_neg c2] at hs
      simp -implicitDefEqProofs only[SP,WP,fa,sevalprocAttr,Hf,la',lb',z1',z2',i1,i2,l0,l1,p0,p1,aq,me,hlo,hhi,d1,d2,sa,sb,na,za,AV.cut,oa,ta,Ou]
      subst hQ
      exact⟨a'.length+b'.length+1,by rw[hmn];omega,va,_,p::a',b',nl,out,by simp;omega,ha,.inr rfl,rfl,by omega,hnl,hs⟩
 obtain⟨r,h1,E,H,nl,rfl,hE,hnl⟩:=uc hloop
 simp only[Ou,Md,List.map_nil] at h1
 generalize Ff (a.length+b.length) a b=u at *
 have hz:(0 < 2)=True:=by simp
 cases nl with
 |true=>
  refine⟨.ma,?_,.inl ⟨rfl,by rw[hnl rfl];rfl⟩⟩
  simp -implicitDefEqProofs only[ml,SX,sevalprocAttr,xq,Gb,Ve,hz,na,za,AV.cut,oa,ta,h1,hE]
 |false=>
  refine⟨.lit 2 (Md u),?_,.inr rfl⟩
  simp -implicitDefEqProofs only[ml,SX,sevalprocAttr,xq,Gb,Ve,hz,na,za,AV.cut,oa,ta,h1,hE]
end Go.AM.B1
