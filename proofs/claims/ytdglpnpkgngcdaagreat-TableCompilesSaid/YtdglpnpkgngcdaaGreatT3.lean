/- What functions of the program compute. -/
import Derived.Test.YtdglpnpkgngcdaaGreatT2
import Derived.Test.YtdglpnpkgngcdaaGreatT1
import Derived.Test.YtdglpnpkgngcdaaGreatE3
set_option linter.unusedVariables false
namespace Go.AM.B1
open Go.AM
def Po:rf:=⟨1,[.tmp 2],(jQ [jb 2 false] (jr [Cv 3 0,Cv 4 0,jB 5 .neq 3 4,Cv 2 5]))⟩
theorem VA:tc P fo 107 Po:=fM Go.Proofs.Tryz.func107 dN
def Jj:=Wb (fun _=>none) Po
theorem Yu:La P 107 Jj:=Ha Sa VA
def Ni:rf:=⟨2,[.tmp 4],(jQ [jk 4 0] (jQ [Cv 7 0,jp 8 Jj 7,Cv 5 8] (jQ [Cv 9 1,jp 10 Jj 9,Cv 6 10] (.seq (jQ [Cv 11 5] (jC 11 (.seq (jQ [Cv 12 6] (jC 12 (jr [jk 4 0]) .skip)) (jr [jk 4 (-1)])) .skip)) (.seq (jQ [Cv 13 6] (jC 13 (jr [jk 4 1]) .skip)) (.seq (jQ [Cv 14 0,Cv 15 1,jB 16 .lss 14 15] (jC 16 (jr [jk 4 (-1)]) .skip)) (.seq (jQ [Cv 17 0,Cv 18 1,jB 19 .gtr 17 18] (jC 19 (jr [jk 4 1]) .skip)) (jr [jk 4 0]))))))))⟩
theorem ry:tc P fo 70 Ni:=fM Go.Proofs.Tryz.func70 (dC Yu (dC Yu dN))
def ah:=Wb (fun _=>none) Ni
theorem Ez:La P 70 ah:=Ha Sa ry
def Hg:rf:=⟨3,[.tmp 5],(jQ [jb 5 false] (jr [Cv 6 0,Cv 7 1,jB 8 .lss 6 7,Cv 9 8,jT 10 9 (.kf 0 2),jT 11 9 (.kl 1 10),jT 12 9 (.km 0),JT 13 9 (.ki 2 11 12),jT 14 9 (.kf 0 13),jT 15 9 (.kl 1 14),JT 16 9 (.kn 0 15),jT 17 9 (.kf 0 2),jT 18 9 (.kl 1 17),jT 19 9 (.km 1),JT 20 9 (.ki 2 18 19),jT 21 9 (.kf 0 20),jT 22 9 (.kl 1 21),JT 23 9 (.kn 0 22),jT 24 9 (.kB .eql 16 23),ja 25 9 24,Cv 5 25]))⟩
theorem Nz:tc P fo 100 Hg:=fM Go.Proofs.Tryz.func100 dN
def Iq:rf:=⟨1,[.cell 2 true 3,.tmp 3],(jQ [Co 1 (.box 1 (.t 0)),Co 2 (.alloc [(.bool false),(.int .i64 0),(.int .i64 0)]),jk 3 0] (jr [jL 4 1 1,Co 5 (.rH 37 [(.t 1)]),Co 6 (.Kj 25 [(.t 4),(.t 5)]),jx 7 0 6,jx 8 1 6,jS 3 2 7,Cv 3 8]))⟩
theorem kC:tc P fo 64 Iq:=fM Go.Proofs.Tryz.func64 dN
def pj:Nat→Option rf
 |37=>some Hg
 |25=>some ig
 |_=>none
theorem RA:Ll P fo pj:=by
 intro ix af h
 unfold pj at h
 split at h
 ·injection h with h;subst h;exact Nz
 ·injection h with h;subst h;exact Zu
 ·cases h
def Vg:=Wb pj Iq
theorem MC:La P 64 Vg:=Ha RA kC
def su:rf:=⟨2,[.tmp 4],(jQ [jR 2 1 0,jR 3 1 1,jc 4 .vw] (jr [Co 5 (.rH 35 [(.t 2),(.t 3)]),Cv 4 5]))⟩
theorem rJ:tc P fo 135 su:=fM Go.Proofs.Tryz.func135 dN
def gm:rf:=⟨2,[.tmp 4],(jQ [jc 4 .vw] (jr [Cv 5 0,jp 6 Tg 5,Cv 7 1,Co 8 (.Kj 38 [(.t 6),(.t 7)]),Cv 4 8]))⟩
theorem GH:tc P fo 104 gm:=fM Go.Proofs.Tryz.func104 (dC xo dN)
def Tk:Oa:=(.block 3 (jQ [jl 41 1 6,jl 42 1 6,jz 43 42,jf 44 0 43,jl 45 1 44,Cv 46 7,Co 47 (.conv .u8 (.t 46)),Co 48 (.Mb .lit 1 false 1 [(.int .u8 0)] [(0,(.t 47))]),Co 49 (.ku 1 false 1 45 48),jz 50 41,jf 51 0 50,jS 1 51 49] (.region [jl 52 1 6,Cv 53 7,jl 54 1 6,jz 55 54,jf 56 0 55,jl 57 1 56,jn 58 0 57,Co 59 (.conv .u16 (.t 58)),jz 60 52,jf 61 1 60,Co 62 (.kA 256 1 61 53),jS 1 62 59])))
def Nk:Oa:=(.seq (jQ [Cv 20 5,jK 21 .geq 20 0] (jX 21 0)) (.seq (.block 1 (jQ [Cv 24 3,jz 25 24,jf 26 0 25,jl 27 1 26,Cv 28 5,ji 29 258 27 28,Co 6 (.alloc [.Bi]),jS 1 6 29] (jQ [jl 30 1 6,Cv 31 4,jz 32 30,jf 33 257 32,jS 1 33 31] (.seq (jQ [Jf 34 0 1,Jl 35 1 34,Cv 36 5,ji 37 1 35 36,jl 38 1 37,Co 39 (.Kj 39 [(.t 38),(.c (.int .i64 0))])] (.block 2 (.range 35 Gk (.t 39) [40] [(7,40)] Tk))) (.region [Cv 63 4,jl 64 1 6,jz 65 64,jf 66 0 65,jl 67 1 66,jn 68 0 67,jB 69 .mul 63 68,Cv 4 69]))))) (.region [Cv 22 5,jK 23 .sub 22 1,Cv 5 23])))
def ir:rf:=⟨1,[.tmp 2],(jQ [jR 1 2 0,jc 2 .Bi] (jQ [Jf 8 0 1,Jl 9 1 8,jn 10 0 9,Co 11 (.Zg .own 258 true ([.ma]++List.replicate 256 (.int .u16 0)++[(.int .i64 0)]) 544 (.t 10) (.t 10)),Co 12 (.build [.ma] [(0,1,(.t 11))]),Co 13 (.box 1 (.t 12)),Cv 3 13] (jQ [jk 4 1] (.seq (jQ [Cv 14 3,jz 15 14,jf 16 0 15,jl 17 1 16,jn 18 0 17,jK 19 .sub 18 1,Cv 5 19] (.block 0 (.ep [1,2,3,4,5] Nk))) (jr [Cv 70 3,Cv 2 70])))))⟩
theorem JH:∀ d∈Df ir.body,Lr P (fo d.1) d.2:=by
 intro d hd
 obtain rfl:d=(35,Gk):=List.mem_singleton.1 hd
 exact Go.Proofs.OQ
theorem TH:tc P fo 67 ir:=TX Go.Proofs.Tryz.func67 dN (JH)
def Sg:Nat→Option rf
 |39=>some gm
 |38=>some su
 |_=>none
theorem qF:Ll P fo Sg:=by
 intro ix af h
 unfold Sg at h
 split at h
 ·injection h with h;subst h;exact GH
 ·injection h with h;subst h;exact rJ
 ·cases h
def lr:=Wb Sg ir
theorem nK:La P 67 lr:=Ha qF TH
def ai:Oa:=(jQ [jB 49 .lss 48 47] (.seq (jX 49 0) (.seq (.block 1 (jQ [Cv 50 48,ji 51 2 46 48,jL 52 2 51,Co 10 (.alloc [.ma,(.int .i64 0)]),Cv 9 50,jS 2 10 52] (jQ [Cv 53 8,Cv 54 8,jz 55 54,jf 56 4 55,jl 57 1 56,jf 58 1 10,jl 59 1 58,jf 60 1 10,jl 61 1 60,jL 62 2 10,jp 63 Pn 62,jB 64 .add 61 63,jK 65 .sub 64 1,Cv 66 9,Co 67 (.build [(.int .i64 0),(.int .i64 0),(.int .i64 0)] [(0,1,(.t 59)),(1,1,(.t 65)),(2,1,(.t 66))]),Co 68 (.Mb .lit 3 true 1 [(.int .i64 0),(.int .i64 0),(.int .i64 0)] [(0,(.t 67))]),Co 69 (.append true .own 3 true 24 (.t 57) (.t 68)),jz 70 53,jf 71 4 70,jS 1 71 69] (jQ [Cv 72 8,Cv 73 8,jz 74 73,jf 75 5 74,jl 76 1 75,jf 77 0 10,jl 78 1 77,jn 79 0 78,Co 80 (.mx [(.t 76),(.t 79)]),jz 81 72,jf 82 5 81,jS 1 82 80] (.region [Cv 83 8,Cv 84 8,jz 85 84,jf 86 3 85,jl 87 1 86,jL 88 2 10,jp 89 lr 88,Co 90 (.Mb .lit 1 false 1 [.Bi] [(0,(.t 89))]),Co 91 (.ku 1 false 8 87 90),jz 92 83,jf 93 3 92,jS 1 93 91]))))) (.region [jK 94 .add 48 1,Cv 48 94]))))
def zj:Oa:=(jQ [jK 109 .lss 108 256] (.seq (jX 109 4) (.seq (.block 5 (jQ [Cv 110 108,Cv 14 110] (.region [Cv 111 14,Co 112 (.kA 256 1 13 111),Ce (.store 1 (.t 112) (.c (.int .i8 (-2))))]))) (.region [jK 113 .add 108 1,Cv 108 113]))))
def xj:Oa:=(.seq (jQ [Cv 122 17,jf 123 1 16,jl 124 1 123,jB 125 .leq 122 124] (jX 125 8)) (.seq (.block 9 (.region [Cv 128 17,jf 129 2 16,jl 130 1 129,Co 131 (.conv .i8 (.t 130)),Co 132 (.kA 256 1 13 128),jS 1 132 131])) (.region [Cv 126 17,jK 127 .add 126 1,Cv 17 127])))
def uj:Oa:=(jQ [jB 117 .lss 116 115] (.seq (jX 117 6) (.seq (.block 7 (jQ [ji 118 3 114 116,jL 119 3 118,Co 16 (.alloc [(.int .i64 0),(.int .i64 0),(.int .i64 0)]),jS 3 16 119] (jQ [jf 120 0 16,jl 121 1 120,Cv 17 121] (.block 8 (.loop [8,13,16,17,101,102,103,114,115,116] xj))))) (.region [jK 133 .add 116 1,Cv 116 133]))))
def oi:Oa:=(jQ [jB 104 .lss 103 102] (.seq (jX 104 2) (.seq (.block 3 (jQ [ji 105 1 101 103,jl 106 1 105,Cv 12 106] (jQ [Co 107 (.build (List.replicate 256 (.int .i8 0)) []),Co 13 (.alloc (List.replicate 256 (.int .i8 0))),jS 256 13 107] (.seq (jQ [jk 108 0] (.block 4 (.loop [8,12,13,101,102,103,108] zj))) (.seq (jQ [Cv 114 12,jn 115 0 114,jk 116 0] (.block 6 (.loop [8,13,101,102,103,114,115,116] uj))) (.region [Cv 134 8,Cv 135 8,jz 136 135,jf 137 2 136,jl 138 1 137,jL 139 256 13,Co 140 (.Mb .lit 256 true 1 (List.replicate 256 (.int .i8 0)) [(0,(.t 139))]),Co 141 (.ku 256 true 256 138 140),jz 142 134,jf 143 2 142,jS 1 143 141])))))) (.region [jK 144 .add 103 1,Cv 103 144]))))
def Ei:rf:=⟨1,[.tmp 2,.tmp 3],(jQ [jR 1 1 0,jc 2 .Bi,jk 3 0] (jQ [JL 19 1 1,jp 20 Cc 19,Cv 18 20,jx 21 0 18,jx 22 1 18,Co 4 (.alloc [.ma]),jS 1 4 21,Cv 5 22] (.seq (jQ [Cv 23 5,jK 24 .eql 23 0,Cv 25 24,jF 26 25 (.km 5),jF 27 25 (.kK .eql 26 130),jo 28 25 27] (jC 28 (jQ [JL 30 1 1,jp 31 Vg 30,Cv 29 31,jx 32 0 29,jx 33 1 29,Co 6 (.alloc [(.bool false),(.int .i64 0),(.int .i64 0)]),jS 3 6 32,Cv 7 33] (jQ [jf 34 0 6,jl 35 1 34,jt 36 35] (jC 36 (.region [jk 5 111]) .skip))) .skip)) (.seq (jQ [Cv 37 5,jK 38 .neq 37 0] (jC 38 (jr [Cv 39 5,jc 2 .Bi,Cv 3 39]) .skip)) (jQ [JL 40 1 1,jp 41 Eh 40,jL 42 1 4,Co 43 (.build [.ma,.ma,.ma,.ma,.ma,(.int .i64 0)] [(0,1,(.t 41)),(1,1,(.t 42))]),Co 44 (.box 6 (.t 43)),Cv 8 44] (.ghost (.mv 8 2 256) (.ghost (.mv 8 3 1) (.ghost (.wH 8 4 3 true) (.seq (jQ [Jf 45 0 1,Jl 46 1 45,jn 47 0 46,jk 48 0] (.block 0 (.loop [4,8,46,47,48] ai))) (jQ [Cv 95 8,jz 96 95,jf 97 4 96,jl 98 1 97,Co 99 (.Kj 34 [(.t 98),(.f 36)])] (.seq (jQ [jf 100 0 4,jl 101 1 100,jn 102 0 101,jk 103 0] (.block 2 (.loop [8,101,102,103] oi))) (jr [Cv 145 8,Cv 2 145,jk 3 0]))))))))))))⟩
theorem Wz:tc P fo 16 Ei:=fM Go.Proofs.Tryz.func16 (dC zH (dC MC (dC Er (dC tF (dC nK dN)))))
def Uq:ab:=fun ix args H=>if ix=34 then mz 3 0 36 args H else none
def Gb:=gB Uq (fun _=>none) Ei
theorem cv:La P 16 Gb:=AJ Sa (RJ (fo:=fo) (s:=34) (g:=36) Go.Proofs.hU) Wz
def Bb:Oa:=(.seq (jQ [Cv 15 9,Cv 16 10,jB 17 .lss 15 16] (jX 17 0)) (.block 1 (jQ [Cv 18 9,Cv 19 10,jB 20 .add 18 19,Co 21 (.conv .u64 (.t 20)),Co 22 (.bin .shr (.t 21) (.c (.int .u64 1))),Co 23 (.conv .i64 (.t 22)),Cv 11 23] (jQ [Cv 24 2,Cv 25 0,Cv 26 11,ji 27 3 25 26,jL 28 3 27,Cv 29 1,Co 30 (.eB (.t 24) [(.t 28),(.t 29)]),jK 31 .lss 30 0] (jC 31 (.region [Cv 32 11,jK 33 .add 32 1,Cv 9 33]) (.region [Cv 34 11,Cv 10 34]))))))
def Ta:rf:=⟨3,[.tmp 6,.tmp 7],(jQ [jk 6 0,jb 7 false] (jQ [Cv 12 0,jn 13 0 12,Cv 8 13] (jQ [Cv 14 8,jk 9 0,Cv 10 14] (.seq (.block 0 (.loop [0,1,2,8,9,10] Bb)) (jr [Cv 35 9,Cv 36 9,Cv 37 8,jB 38 .lss 36 37,Cv 39 38,jT 40 39 (.km 2),jT 41 39 (.km 0),jT 42 39 (.km 9),jT 43 39 (.ki 3 41 42),jT 44 39 (.kL 3 43),jT 45 39 (.km 1),jT 46 39 (.eB (.t 40) [(.t 44),(.t 45)]),jT 47 39 (.kK .eql 46 0),ja 48 39 47,Cv 6 35,Cv 7 48])))))⟩
theorem Ui:tc P fo 113 Ta:=fM Go.Proofs.Tryz.func113 dN
def qh:rf:=⟨2,[.tmp 4],(jQ [jR 2 3 0,jk 4 0] (jr [Jf 5 0 2,Jl 6 1 5,Cv 7 1,jq 8 ah 6 7,Cv 4 8]))⟩
theorem jw:tc P fo 114 qh:=fM Go.Proofs.Tryz.func114 (dC Ez dN)
def eg:rf:=⟨2,[.cell 4 true 3,.tmp 5],(jQ [Co 4 (.alloc [(.int .i64 0),(.int .i64 0),(.int .i64 0)]),jb 5 false] (.seq (jQ [Cv 8 0,Co 9 (.kE 1 false 8)] (jC 9 (jr [Co 10 (.build [(.int .i64 0),(.int .i64 0),(.int .i64 0)] []),jS 3 4 10,jb 5 false]) .skip)) (jQ [Cv 12 0,jz 13 12,jf 14 4 13,jl 15 1 14,Cv 16 1,Co 17 (.Kj 40 [(.t 15),(.t 16),(.f 41)]),Cv 11 17,jx 18 0 11,jx 19 1 11,Cv 6 18,Cv 7 19] (.seq (jQ [Cv 20 7,jt 21 20] (jC 21 (.region [Cv 22 6,jK 23 .sub 22 1,Cv 6 23]) .skip)) (.seq (jQ [Cv 24 6,jK 25 .lss 24 0,Cv 26 25,jF 27 26 (.km 1),jF 28 26 (.km 0),jF 29 26 (.kz 28),jF 30 26 (.kf 4 29),jF 31 26 (.kl 1 30),jF 32 26 (.km 6),jF 33 26 (.ki 3 31 32),jF 34 26 (.kf 1 33),jF 35 26 (.kl 1 34),jF 36 26 (.kB .gtr 27 35),jo 37 26 36] (jC 37 (jr [Co 38 (.build [(.int .i64 0),(.int .i64 0),(.int .i64 0)] []),jS 3 4 38,jb 5 false]) .skip)) (jr [Cv 39 0,jz 40 39,jf 41 4 40,jl 42 1 41,Cv 43 6,ji 44 3 42 43,jL 45 3 44,jS 3 4 45,jb 5 true]))))))⟩
theorem cy:tc P fo 78 eg:=fM Go.Proofs.Tryz.func78 dN
def Xc:Nat→Option rf
 |40=>some Ta
 |41=>some qh
 |_=>none
theorem Bx:Ll P fo Xc:=by
 intro ix af h
 unfold Xc at h
 split at h
 ·injection h with h;subst h;exact Ui
 ·injection h with h;subst h;exact jw
 ·cases h
def Jd:=Wb Xc eg
theorem Kz:La P 78 Jd:=Ha Bx cy
def uf:Oa:=(jQ [jB 20 .lss 19 18] (.seq (jX 20 0) (.seq (.block 1 (jQ [Cv 21 19,Cv 6 21] (jQ [Cv 22 0,jz 23 22,jf 24 0 23,jl 25 1 24,Cv 26 6,ji 27 258 25 26,Cv 7 27] (jQ [Cv 28 5,Cv 29 7,jz 30 29,jf 31 0 30,jl 32 1 31,Cv 33 1,Cv 34 7,jz 35 34,jf 36 257 35,jl 37 1 36,jB 38 .quo 33 37,Ji 39 1 32 38,Jl 40 1 39,Co 41 (.Mb .lit 1 false 1 [(.int .u8 0)] [(0,(.t 40))]),Co 42 (.ku 1 false 1 28 41),Cv 5 42] (.region [Cv 43 1,Cv 44 7,jz 45 44,jf 46 257 45,jl 47 1 46,jB 48 .rem 43 47,Cv 1 48]))))) (.region [jK 49 .add 19 1,Cv 19 49]))))
def Vj:rf:=⟨2,[.tmp 4],(jQ [jc 4 .ma] (jQ [Cv 8 0,jz 9 8,jf 10 0 9,jl 11 1 10,jn 12 0 11,Co 13 (.Zg .uq 1 false [(.int .u8 0)] 1 (.c (.int .i64 0)) (.t 12)),Cv 5 13] (.seq (jQ [Cv 14 0,jz 15 14,jf 16 0 15,jl 17 1 16,jn 18 0 17,jk 19 0] (.block 0 (.loop [0,1,5,18,19] uf))) (jr [Cv 50 5,Cv 4 50]))))⟩
theorem Xt:tc P fo 79 Vj:=fM Go.Proofs.Tryz.func79 dN
def xi:=Wb (fun _=>none) Vj
theorem wv:La P 79 xi:=Ha Sa Xt
def Hi:rf:=⟨2,[.tmp 4,.tmp 5],(jQ [jc 4 .ma,jb 5 false] (jQ [Cv 9 0,Cv 10 1,jq 11 Jd 9 10,Cv 8 11,jx 12 0 8,jx 13 1 8,Co 6 (.alloc [(.int .i64 0),(.int .i64 0),(.int .i64 0)]),jS 3 6 12,Cv 7 13] (.seq (jQ [Cv 14 7,jt 15 14] (jC 15 (jr [jc 4 .ma,jb 5 false]) .skip)) (jr [Cv 16 0,jz 17 16,jf 18 3 17,jl 19 1 18,jf 20 2 6,jl 21 1 20,Ji 22 1 19 21,Jl 23 1 22,Cv 24 1,jf 25 0 6,jl 26 1 25,jB 27 .sub 24 26,jq 28 xi 23 27,Cv 4 28,jb 5 true]))))⟩
theorem Dv:tc P fo 22 Hi:=fM Go.Proofs.Tryz.func22 (dC Kz (dC wv dN))
def Hf:=Wb (fun _=>none) Hi
theorem Mv:La P 22 Hf:=Ha Sa Dv
def Vd:Oa:=(jQ [jB 23 .lss 22 21] (.seq (jX 23 0) (.seq (.block 1 (jQ [Cv 24 22,Cv 7 24] (jQ [Cv 25 0,jz 26 25,jf 27 0 26,jl 28 1 27,Cv 29 7,Cv 30 1,Cv 31 7,Ji 32 1 30 31,Jl 33 1 32,Ji 34 258 28 29,jf 35 1 34,Co 36 (.kA 256 1 35 33),jl 37 1 36,Cp 38 (.conv .i64 (.t 37)),Cv 8 38] (.seq (jQ [Cv 39 8,jK 40 .eql 39 0] (jC 40 (jr [jk 4 0,jb 5 false]) .skip)) (.region [Cv 41 6,Cv 42 8,jK 43 .sub 42 1,Cv 44 0,jz 45 44,jf 46 0 45,jl 47 1 46,Cv 48 7,ji 49 258 47 48,jf 50 257 49,jl 51 1 50,jB 52 .mul 43 51,jB 53 .add 41 52,Cv 6 53]))))) (.region [jK 54 .add 22 1,Cv 22 54]))))
def nh:rf:=⟨2,[.tmp 4,.tmp 5],(jQ [jk 4 0,jb 5 false] (.seq (jQ [Cv 9 1,jn 10 0 9,Cv 11 0,jz 12 11,jf 13 0 12,jl 14 1 13,jn 15 0 14,jB 16 .neq 10 15] (jC 16 (jr [jk 4 0,jb 5 false]) .skip)) (jQ [jk 6 0] (.seq (jQ [Cv 17 0,jz 18 17,jf 19 0 18,jl 20 1 19,jn 21 0 20,jk 22 0] (.block 0 (.loop [0,1,6,21,22] Vd))) (jr [Cv 55 6,Cv 4 55,jb 5 true])))))⟩
theorem Bw:tc P fo 83 nh:=fM Go.Proofs.Tryz.func83 dN
def Ye:=Wb (fun _=>none) nh
theorem Dx:La P 83 Ye:=Ha Sa Bw
def Nf:Oa:=(jQ [jB 18 .lss 17 16] (.seq (jX 18 0) (.seq (.block 1 (jQ [Cv 19 17,ji 20 1 15 17,jl 21 1 20,Cv 6 19,Cv 7 21] (jQ [Cv 23 7,Cv 24 1,jq 25 Ye 23 24,Cv 22 25,jx 26 0 22,jx 27 1 22,Cv 8 26,Cv 9 27] (jQ [Cv 28 9] (jC 28 (jr [Cv 29 0,jz 30 29,jf 31 0 30,jf 32 0 31,jl 33 1 32,Cv 34 6,ji 35 2 33 34,jf 36 1 35,jl 37 1 36,Cv 38 8,jB 39 .add 37 38,Cv 4 39,jb 5 true]) .skip))))) (.region [jK 40 .add 17 1,Cv 17 40]))))
def Mk:rf:=⟨2,[.tmp 4,.tmp 5],(jQ [jk 4 0,jb 5 false] (.seq (jQ [Cv 10 0,Co 11 (.kE 1 false 10)] (jC 11 (jr [jk 4 0,jb 5 false]) .skip)) (.seq (jQ [Cv 12 0,jz 13 12,jf 14 3 13,jl 15 1 14,jn 16 0 15,jk 17 0] (.block 0 (.loop [0,1,15,16,17] Nf))) (jr [jk 4 0,jb 5 false]))))⟩
theorem Iv:tc P fo 28 Mk:=fM Go.Proofs.Tryz.func28 (dC Dx dN)
def Li:=Wb (fun _=>none) Mk
theorem ew:La P 28 Li:=Ha Sa Iv
def Pe:rf:=⟨1,[.tmp 2],(jQ [jc 2 .ma] (.seq (jQ [Cv 3 0,Co 4 (.eq 2 false (.t 3) (.c .ma))] (jC 4 (jr [jc 2 .ma]) .skip)) (jr [Co 5 (.Mb .uq 3 true 0 [(.int .i64 0),(.int .i64 0),(.int .i64 0)] []),Cv 6 0,Co 7 (.ku 3 true 24 5 6),Cv 2 7])))⟩
theorem cn:tc P fo 80 Pe:=fM Go.Proofs.Tryz.func80 dN
def Dd:=Wb (fun _=>none) Pe
theorem Cn:La P 80 Dd:=Ha Sa cn
def Rl:rf:=⟨1,[.tmp 2],(jQ [jc 2 .ma] (.seq (jQ [Cv 3 0,Co 4 (.kE 1 false 3)] (jC 4 (jr [jc 2 .ma]) .skip)) (jr [Cv 5 0,jz 6 5,jf 7 4 6,jl 8 1 7,jp 9 Dd 8,Cv 2 9])))⟩
theorem Ax:tc P fo 23 Rl:=fM Go.Proofs.Tryz.func23 (dC Cn dN)
def Yh:=Wb (fun _=>none) Rl
theorem sq:La P 23 Yh:=Ha Sa Ax
def ak:rf:=⟨1,[.tmp 2],(jQ [jk 2 0] (.seq (jQ [Cv 3 0,Co 4 (.kE 1 false 3)] (jC 4 (jr [jk 2 0]) .skip)) (jr [Cv 5 0,jz 6 5,jf 7 5 6,jl 8 1 7,Cv 2 8])))⟩
theorem qu:tc P fo 41 ak:=fM Go.Proofs.Tryz.func41 dN
def zg:=Wb (fun _=>none) ak
theorem rn:La P 41 zg:=Ha Sa qu
def vj:rf:=⟨0,[.tmp 0],(jQ [jb 0 false] (jQ [Co 9 (.build [(.int .i64 0),(.int .i64 0)] [(0,1,(.c (.int .i64 194))),(1,1,(.c (.int .i64 223)))]),Co 10 (.Mb .lit 2 true 1 [(.int .i64 0),(.int .i64 0)] [(0,(.t 9))]),Co 11 (.build [(.int .i64 0),(.int .i64 0)] [(0,1,(.c (.int .i64 128))),(1,1,(.c (.int .i64 191)))]),Co 12 (.Mb .lit 2 true 1 [(.int .i64 0),(.int .i64 0)] [(0,(.t 11))]),Co 13 (.Mb .lit 1 false 2 [.ma] [(0,(.t 10)),(1,(.t 12))]),Co 14 (.build [.ma,(.int .i64 0)] [(0,1,(.t 13)),(1,1,(.c (.int .i64 128)))]),Co 15 (.build [(.int .i64 0),(.int .i64 0)] [(0,1,(.c (.int .i64 0))),(1,1,(.c (.int .i64 127)))]),Co 16 (.Mb .lit 2 true 1 [(.int .i64 0),(.int .i64 0)] [(0,(.t 15))]),Co 17 (.Mb .lit 1 false 1 [.ma] [(0,(.t 16))]),Co 18 (.build [.ma,(.int .i64 0)] [(0,1,(.t 17))]),Co 19 (.Mb .lit 2 true 2 [.ma,(.int .i64 0)] [(0,(.t 14)),(1,(.t 18))]),Co 20 (.build [.ma] [(0,1,(.t 19))]),jp 21 Gb 20,Cv 8 21,jx 22 0 8,jx 23 1 8,Cv 1 22,Cv 2 23] (.seq (jQ [Cv 24 1,Co 25 (.kE 1 false 24),Cv 26 25,jF 27 26 (.km 2),jF 28 26 (.kK .neq 27 0),jo 29 26 28] (jC 29 (jr [jb 0 false]) .skip)) (jQ [Cv 31 1,Co 32 (.fp Hf [(.t 31),(.c (.int .i64 233))]),Cv 30 32,jx 33 0 30,jx 34 1 30,Cv 3 33,Cv 4 34] (jQ [Cv 36 1,Co 37 (.Mb .uq 1 false 2 [(.int .u8 0)] [(0,(.c (.int .u8 195))),(1,(.c (.int .u8 169)))]),Co 38 (.mX (.t 37)),jq 39 Li 36 38,Cv 35 39,jx 40 0 35,jx 41 1 35,Cv 5 40,Cv 6 41] (jQ [Cv 42 1,jp 43 Yh 42,Cv 7 43] (jr [Cv 44 4,Cv 45 44,jT 46 45 (.km 3),jT 47 45 (.yW (.t 46)),⟨(some 48),.bin .eql (.t 47) (.c (.str ⟨#[195,169]⟩)),(some (45,true)),false⟩,ja 49 45 48,Cv 50 49,jT 51 50 (.km 6),ja 52 50 51,Cv 53 52,jT 54 53 (.km 5),jT 55 53 (.kK .eql 54 233),ja 56 53 55,Cv 57 56,jT 58 57 (.km 7),jT 59 57 (.kn 0 58),jT 60 57 (.kK .eql 59 2),ja 61 57 60,Cv 62 61,jT 63 62 (.km 7),jT 64 62 (.kj 3 63 0),jT 65 62 (.kL 3 64),jT 66 62 (.build [(.int .i64 0),(.int .i64 0),(.int .i64 0)] [(0,1,(.c (.int .i64 0))),(1,1,(.c (.int .i64 127))),(2,1,(.c (.int .i64 1)))]),jT 67 62 (.pP (.row [1,1,1]) false (.t 65) (.t 66)),ja 68 62 67,Cv 69 68,jT 70 69 (.km 7),jT 71 69 (.kj 3 70 1),jT 72 69 (.kL 3 71),jT 73 69 (.build [(.int .i64 0),(.int .i64 0),(.int .i64 0)] [(0,1,(.c (.int .i64 128))),(1,1,(.c (.int .i64 2047))),(2,1,(.c (.int .i64 0)))]),jT 74 69 (.pP (.row [1,1,1]) false (.t 72) (.t 73)),ja 75 69 74,Cv 76 75,jT 77 76 (.km 1),jT 78 76 (.kp zg 77),jT 79 76 (.kK .eql 78 2),ja 80 76 79,Cv 0 80])))))))⟩
theorem qt:tc P fo 14 vj:=fM Go.Proofs.Tryz.func14 (dC cv (dC Mv (dC ew (dC sq (dC rn dN)))))
def th:=Wb (fun _=>none) vj
theorem iu:La P 14 th:=Ha Sa qt
def Uk:rf:=⟨1,[.cell 2 true 1],(jQ [Co 2 (.alloc [.ma])] (.seq (jQ [Cv 3 0,Co 4 (.kE 1 false 3)] (jC 4 (jr [Co 5 (.build [.ma] []),jS 1 2 5]) .skip)) (jr [Cv 6 0,jz 7 6,jf 8 0 7,jL 9 1 8,jp 10 Eh 9,jS 1 2 10])))⟩
theorem Av:tc P fo 20 Uk:=fM Go.Proofs.Tryz.func20 (dC Er dN)
def Ii:=Wb (fun _=>none) Uk
theorem Rv:La P 20 Ii:=Ha Sa Av
def me:rf:=⟨1,[.tmp 2],(jQ [jc 2 .ma] (.seq (jQ [Cv 3 0,Co 4 (.eq 2 false (.t 3) (.c .ma))] (jC 4 (jr [jc 2 .ma]) .skip)) (jr [Co 5 (.Mb .uq 3 true 0 [(.int .i64 0),(.int .i64 0),(.int .i64 0)] []),Cv 6 0,Co 7 (.ku 3 true 24 5 6),Cv 2 7])))⟩
theorem rm:tc P fo 77 me:=fM Go.Proofs.Tryz.func77 dN
def Wc:=Wb (fun _=>none) me
theorem Lm:La P 77 Wc:=Ha Sa rm
def si:Oa:=(jQ [jB 15 .lss 14 13] (.seq (jX 15 0) (.seq (.block 1 (jQ [ji 16 1 12 14,jl 17 1 16,Cv 5 17] (.region [jf 18 0 3,jl 19 1 18,Cv 20 5,jp 21 Wc 20,Co 22 (.Mb .lit 1 false 1 [.ma] [(0,(.t 21))]),Co 23 (.ku 1 false 24 19 22),jf 24 0 3,jS 1 24 23]))) (.region [jK 25 .add 14 1,Cv 14 25]))))
def Sl:rf:=⟨1,[.cell 2 true 1],(jQ [Co 2 (.alloc [.ma])] (jQ [Co 3 (.alloc [.ma])] (.ghost (.mv 3 0 1) (.seq (jQ [Cv 6 0,Co 7 (.kE 1 true 6)] (jC 7 (jQ [Cv 8 0,jz 9 8,jf 10 1 9,jf 11 0 10,jl 12 1 11,jn 13 0 12,jk 14 0] (.block 0 (.loop [2,3,12,13,14] si))) .skip)) (jr [jL 26 1 3,jS 1 2 26])))))⟩
theorem Gx:tc P fo 21 Sl:=fM Go.Proofs.Tryz.func21 (dC Lm dN)
def Xh:=Wb (fun _=>none) Sl
theorem ey:La P 21 Xh:=Ha Sa Gx
end Go.AM.B1
set_option linter.unusedSimpArgs false
namespace Go.AM.B1
open Go.AM
def Ic:Int→List (Int×Int)→Int
 |n,[]=>n
 |n,p::r=>Ic (n+(p.2 - p.1+1)) r
abbrev gP (v:PV) (len i n:Int):Tr:=(((Tr.lf.set 8 (.pv (i64 i))).set 7 (.pv (i64 len))).set 6 (.pv v)).set 3 (.pv (i64 n))
theorem TS (v:PV) (l:List (Int×Int)) (hv:Th 2 v (Ld l)) (hw:l.length≤maxLen) {top:Int} (ht:top≤4611686018427387900) (hval:Pa top (-2) l=true):Xq [v]=some (i64 (Ic 0 l)):=by
 have ls:=hv.len
 simp only[Ld,List.length_map] at ls
 have key:=yb (g:=Pb (Ca (fun _=>none) 8) [3,6,7,8] Pk 0)
  (fun i t=>∃ n last,t=⟨gP v l.length i n,[]⟩∧Ic 0 l=Ic n (l.drop i)∧Pa top last (l.drop i)=true∧0≤n∧n≤max 0 (last+1)∧last≤top)
  (Q:=fun r=>∃ E H,r=(.exit 0,⟨E,H⟩)∧E.get 3= .pv (i64 (Ic 0 l)))
  l.length (by unfold oa;unfold maxLen at hw;omega) ⟨gP v l.length (0:Nat) 0,[]⟩ ?_ ?_ ?_
 ·obtain⟨⟨ex,t⟩,h,_,E,H,he,hE⟩:=Fc key
  cases he
  have h':gb (fa (ta (Ca (fun _=>none) 8) Pk) (ga 0 [3,6,7,8])) oa ⟨gP v l.length 0 0,[]⟩=some (.exit 0,⟨E,H⟩):=h
  simp only[gP] at h'
  simp -implicitDefEqProofs only[Xq,SP,SA,SQ,WP,WQ,sevalprocAttr,yw,ls,qb,h',hE]
 ·refine⟨0,min (-2) top,rfl,rfl,?_,by omega,by omega,by omega⟩
  have mono:∀ {a b:Int} {r:List (Int×Int)},a≤b→Pa top b r=true→Pa top a r=true:=by
   intro a b r hab h
   cases r with
   |nil=>rfl
   |cons p r=>
    obtain⟨h1,h2,h3,h4,h5⟩:=ie h
    simp only[Pa,h5,Bool.and_true,Bool.not_eq_true',Bool.or_eq_false_iff,decide_eq_false_iff_not]
    exact⟨⟨⟨h1,h2⟩,h3⟩,by omega⟩
  exact mono (by omega) hval
 ·rintro i t hi ⟨n,last,rfl,hr,hva,hn0,hn1,hlast⟩
  have hv:=hv.lit (i:=i) (by simpa using hi)
  subst hv
  have hd:l.drop i=l[i]::l.drop (i+1):=List.drop_eq_getElem_cons hi
  rw[hd] at hr hva
  obtain⟨h1,h2,h3,h4,h5⟩:=ie hva
  rw[Ic] at hr
  have t2:=Ua hi hw
  have hg:=yr hi
  have hl:(Ld l).length=l.length:=by simp
  generalize l[i]=p at *
  have t3:IntKind.i64.wrap (p.2 - p.1)=p.2 - p.1:=Da (by omega)
  have t4:IntKind.i64.wrap (p.2 - p.1+1)=p.2 - p.1+1:=Da (by omega)
  have t5:IntKind.i64.wrap (n+(p.2 - p.1+1))=n+(p.2 - p.1+1):=Da (by omega)
  generalize hes:Ld l=es at *
  generalize hQ:LN _ _ i=Q
  simp -implicitDefEqProofs only[SP,SA,SQ,WP,WQ,sevalprocAttr,Pk,hi,hl,t2,t3,t4,t5,hg,gP]
  subst hQ
  exact⟨_,p.2,rfl,hr,h5,by omega,by omega,by omega⟩
 ·rintro t ⟨n,last,rfl,hr,_⟩
  rw[List.drop_length,Ic] at hr
  have e1:decide (l.length < l.length)=false:=Ia (by omega)
  generalize hQ:(fun r:Ex×St=>r.1.stop=true∧_)=Q
  simp -implicitDefEqProofs only[SP,SA,SQ,WP,WQ,sevalprocAttr,Pk,e1,gP]
  subst hQ
  exact⟨rfl,_,_,rfl,by rw[hr];rfl⟩
theorem _root_.Go.AM.So.Lg.cut {H:List ba} (h:So.Lg H):Ra (pa H.length) H=some H:=So.al fun o ho=>h _ (Nat.le_refl _) o ho
theorem Cj (A:List ba) (o:ba):(A++[o])[A.length]? =some o:=by simp
theorem Sn (A:List ba) (o o':ba):(A++[o]).set A.length o'=A++[o']:=by
 rw[List.set_append_right _ _ (Nat.le_refl _)];simp
theorem FF {A:List ba} (T:List ba) {sz id n:Nat} {i:Int} {v:AV} (hid:id < A.length) (h:ua A sz (.own id n) i=some v):ua (A++T) sz (.own id n) i=some v:=by
 simp only[ua] at h ⊢
 rw[List.getElem?_append_left hid];exact h
theorem wJ {A:List ba} (T:List ba) {sz id:Nat} {ag:Bool} {m off:Nat} {v:AV} (hid:id < A.length) (h:ya A ag sz (.Kc id m off)=some v):ya (A++T) ag sz (.Kc id m off)=some v:=by
 simp only[ya] at h ⊢
 rw[List.getElem?_append_left hid];exact h
end Go.AM.B1
namespace Go.AM.B1
open Go.AM Go.AM.So
theorem UC {n:Nat} {E:Tr}:∀ {live:List Nat},(∀ t∈live,(E.get t).cut n deep=some (E.get t))→∃ E',za n E live=some E'∧∀ t∈live,E'.get t=E.get t
 | [],_=>⟨.lf,rfl,by simp⟩
 |a::live,h=>by
  obtain⟨E',h1,h2⟩:=UC (live:=live) fun t ht=>h t (by simp[ht])
  refine⟨E'.set a (E.get a),by rw[za,h a (by simp),Option.bind_some,h1];rfl,fun t ht=> ?_⟩
  rw[Tr.aa]
  by_cases he:t=a
  ·rw[if_pos he,he]
  ·rw[if_neg he]
   rcases List.mem_cons.1 ht with h3 | h3
   ·exact absurd h3 he
   ·exact h2 t h3
theorem VO {n:Nat} {live:List Nat} {E:Tr} {A T:List ba} (hn:A.length=n) (hA:∀ o∈A,pa n o=some o) (hE:∀ t∈live,(E.get t).cut n deep=some (E.get t)):
 ∃ E',ga n live ⟨E,A++T⟩=some ⟨E',A⟩∧∀ t∈live,E'.get t=E.get t:=by
 obtain⟨E',h1,h2⟩:=UC hE
 refine⟨E',?_,h2⟩
 subst hn
 simp only[ga,h1,Option.bind_some]
 rw[List.take_left' rfl,al hA];rfl
def Ff (n:Nat) (live:List Nat) (J:St→Prop) (s:St):Prop:=
 ∃ A T,s.H=A++T∧A.length=n∧(∀ o∈A,pa n o=some o)∧(∀ t∈live,(s.env.get t).cut n deep=some (s.env.get t))∧∀ E',(∀ t∈live,E'.get t=s.env.get t)→J ⟨E',A⟩
theorem Ff.ga {n:Nat} {live:List Nat} {J:St→Prop} {s:St} (h:Ff n live J s):∃ s',ga n live s=some s'∧J s':=by
 obtain⟨A,T,h1,h2,h3,h4,h5⟩:=h
 obtain⟨E,H⟩:=s
 simp only at h1 h4 h5
 subst h1
 obtain⟨E',h6,h7⟩:=VO (T:=T) h2 h3 h4
 exact⟨_,h6,h5 E' h7⟩
def RQ (n:Nat) (live:List Nat) (J:St→Prop) (Q:Ex×St→Prop):Ex×St→Prop
 | (.norm,s)=>Ff n live J s
 |r=>Q r
theorem ej {n:Nat} {live:List Nat} {J:St→Prop} {Q:Ex×St→Prop} {s:St}:RQ n live J Q (.norm,s)=Ff n live J s:=rfl
theorem DR {call:ab} {b:Oa} {n:Nat} {live:List Nat} {I:Nat→St→Prop} {Q:Ex×St→Prop} {i:Nat} {s:St} (h:Md (RQ n live (I (i+1)) Q) (ta call b s)):
 Md (LN I Q i) (fa (ta call b) (ga n live) s):=by
 rw[fa,gz]
 refine wa h ?_
 rintro⟨ex,t⟩ hr
 cases ex with
 |norm=>
  obtain⟨s',h1,h2⟩:=Ff.ga hr
  show Md _ (Kq (Go.AM.ga n live t))
  rw[h1];exact h2
 |exit=>exact hr
 |ret=>exact hr
theorem XP {call:ab} {b:Oa} {cl:St→Option St} {Q:Ex×St→Prop} {s:St} (h:Md (fun r=>r.1.stop=true∧Q r) (ta call b s)):
 Md (fun r=>r.1.stop=true∧Q r) (fa (ta call b) cl s):=by
 rw[fa,gz]
 refine wa h ?_
 rintro⟨ex,t⟩ ⟨h1,h2⟩
 cases ex with
 |norm=>cases h1
 |exit=>exact⟨h1,h2⟩
 |ret=>exact⟨h1,h2⟩
theorem bl {call:ab} {b:Oa} {live:List Nat} {Q:Ex×St→Prop} {s:St} (I:Nat→St→Prop) (N:Nat) (hN:N < oa) (h0:Ff s.H.length live (I 0) s)
 (hs:∀ i t,i < N→I i t→Md (RQ s.H.length live (I (i+1)) Q) (ta call b t)) (he:∀ t,I N t→Md (fun r=>r.1.stop=true∧Q r) (ta call b t)):
 Md (fun r=>r.1.stop=true∧Q r) (ta call (.loop live b) s):=by
 obtain⟨s',h1,h2⟩:=h0.ga
 rw[qb,h1]
 exact yb I N hN s' h2 (fun i t hi hI=>DR (hs i t hi hI)) (fun t hI=>XP (he t hI))
theorem vP {call:ab} {b:Oa} {live:List Nat} {Q:Ex×St→Prop} {s:St} (I:Nat→St→Prop) (N:Nat) (hN:N < oa) (h0:Ff s.H.length live (I N) s)
 (hs:∀ k t,I k t→Md (RQ s.H.length live (fun s'=>∃ j,j < k∧I j s') Q) (ta call b t)):
 Md (fun r=>r.1.stop=true∧Q r) (ta call (.loop live b) s):=by
 obtain⟨s',h1,h2⟩:=h0.ga
 rw[qb,h1]
 refine Tp I oa N s' hN h2 fun k t hI=> ?_
 rw[fa,gz]
 refine wa (hs k t hI) ?_
 rintro⟨ex,t⟩ hr
 cases ex with
 |norm=>
  obtain⟨s',h1,h2⟩:=Ff.ga (J:=fun s'=>∃ j,j < k∧I j s') hr
  show Md _ (Kq (Go.AM.ga _ live t))
  rw[h1];exact h2
 |exit=>exact hr
 |ret=>exact hr
theorem Ff.all {live:List Nat} {J:St→Prop} {E:Tr} {H:List ba} {n:Nat} (hn:n=H.length) (h1:∀ o∈H,pa n o=some o) (h2:∀ t∈live,(E.get t).cut n deep=some (E.get t)) (h3:∀ E',(∀ t∈live,E'.get t=E.get t)→J ⟨E',H⟩):Ff n live J ⟨E,H⟩:=
 ⟨H,[],by simp,hn.symm,h1,h2,h3⟩
theorem Ff.front {live:List Nat} {J:St→Prop} {E:Tr} {A T:List ba} {n:Nat} (hn:n=A.length) (h1:∀ o∈A,pa n o=some o) (h2:∀ t∈live,(E.get t).cut n deep=some (E.get t)) (h3:∀ E',(∀ t∈live,E'.get t=E.get t)→J ⟨E',A⟩):Ff n live J ⟨E,A++T⟩:=
 ⟨A,T,rfl,hn.symm,h1,h2,h3⟩
theorem Jm {n d id off:Nat} (h:id < n):AV.cut n d (.ptr id off)=some (.ptr id off):=by
 cases d <;> simp[AV.cut,h]
theorem WN {n d id len:Nat} (h:id < n):AV.cut n d (.own id len)=some (.own id len):=by
 cases d <;> simp[AV.cut,h]
theorem uw {n d id sz:Nat} {nl:Bool} {es:List PV} (h:id < n):AV.cut n d (.uq id nl sz es)=some (.uq id nl sz es):=by
 cases d <;> simp[AV.cut,h]
theorem bo (n:Nat) (cs:List PV):pa n (.box (cs.map .pv))=some (.box (cs.map .pv)):=by
 have:Ra (AV.cut n deep) (cs.map .pv)=some (cs.map .pv):=al fun a ha=>by
  obtain⟨p,_,rfl⟩:=List.mem_map.1 ha
  exact Ba
 simp[pa,this]
def qc (l:List Nat) (E E':Tr):Prop:=∀ t∈l,E'.get t=E.get t
theorem qc.refl (l:List Nat) (E:Tr):qc l E E:=fun _ _=>rfl
theorem qc.trans {l:List Nat} {E E' E'':Tr} (h1:qc l E E') (h2:qc l E' E''):qc l E E'':=fun t ht=>(h2 t ht).trans (h1 t ht)
theorem qc.sub {l l':List Nat} {E E':Tr} (h:qc l E E') (hs:l'.all l.contains=true):qc l' E E':=fun t ht=>h t (by
 have:=List.all_eq_true.1 hs t ht
 simpa using this)
theorem qc.set {l:List Nat} {E E':Tr} {k:Nat} {v:AV} (h:qc l E E') (hk:l.contains k=false):qc l E (E'.set k v):=fun t ht=>by
 have:t≠k:=by
  rintro rfl
  have:l.contains t=true:=by simpa using ht
  rw[hk] at this;cases this
 rw[Tr.aa,if_neg this];exact h t ht
def Fit (n:Nat) (l:List Nat) (E:Tr):Prop:=∀ t∈l,(E.get t).cut n deep=some (E.get t)
theorem Fit.nil (n:Nat) (E:Tr):Fit n [] E:=fun _ h=>by cases h
theorem Fit.cons {n t:Nat} {l:List Nat} {E:Tr} {v:AV} (h:E.get t=v) (hv:v.cut n deep=some v) (hl:Fit n l E):Fit n (t::l) E:=fun u hu=>by
 rcases List.mem_cons.1 hu with rfl | hu
 ·rw[h];exact hv
 ·exact hl u hu
theorem Fit.Ze {n:Nat} {l:List Nat} {E E':Tr} (h:Fit n l E) (hk:qc l E E'):Fit n l E':=fun t ht=>by rw[hk t ht];exact h t ht
theorem Fit.sub {n:Nat} {l l':List Nat} {E:Tr} (h:Fit n l E) (hs:l'.all l.contains=true):Fit n l' E:=fun t ht=>h t (by
 have:=List.all_eq_true.1 hs t ht
 simpa using this)
end Go.AM.B1
namespace Go.AM.B1
open Go.AM Go.AM.So
theorem tJ:lh=dc:=rfl
theorem nH:kh=dc:=rfl
theorem UI:xh=dc:=rfl
def zE (p:Int×Int):List PV:=[i64 p.1,i64 p.2]
def bf (l:List (Int×Int)):Array (List PV):=(l.map zE).toArray
def LW (r:List PV):Prop:=∃ p,r=zE p
theorem Qw (r:List PV) (h:LW r):HR 2 r:=by
 obtain⟨p,rfl⟩:=h
 exact⟨rfl,by intro c hc;simp[zE] at hc;rcases hc with rfl | rfl <;> rfl⟩
theorem OA (l:List (Int×Int)):∀ r∈(bf l).toList,LW r:=by
 intro r hr
 simp[bf] at hr
 obtain⟨a,b,_,rfl⟩:=hr
 exact⟨(a,b),rfl⟩
theorem Ao (l:List (Int×Int)):(bf l).size=l.length:=by simp[bf]
def sd (l:List (Int×Int)) (fl:Nat) (nl:Bool):ba:=Qg 2 (bf l) fl nl
theorem Fi (l:List (Int×Int)):(mh (bf l)).length=l.length * 2:=by
 rw[Pw fun r hr=>Qw r (OA l r hr),Ao]
theorem fB {A:List ba} {id n fl bytes:Nat} {nl:Bool} {h:Bf} {l:List (Int×Int)} (hg:A[id]? =some (sd l fl nl)) (hn:n=l.length) (hr:xb (n+1) bytes) (p:Int×Int):
 Zb A true h 2 true bytes (.own id n) (.pv (.lit 2 [pr p]))=some (.own id (n+1),A.set id (sd (l++[p]) fl false)):=by
 subst hn
 have hl:=Fi l
 have e:mh (bf (l++[p]))=mh (bf l)++[.pv (i64 p.1),.pv (i64 p.2)]:=by
  simp[mh,bf,zE]
 simp only[Zb,if_true,hg,sd,Qg,yj,nf,Option.map_some,Option.bind_some,flat,PV.cells,pr,List.append_nil,List.map_cons,List.map_nil,List.length_cons,List.length_nil,e]
 rw[if_pos]
 ·simp
 ·exact⟨trivial,by omega,hr,rfl⟩
theorem wC (H:List ba) (d:Nat) (l:List PV):Ra (ic H d) (l.map .pv)=some l:=by
 induction l with
 |nil=>rfl
 |cons a l ih=>simp only[List.map_cons,Ra,wg,Option.bind_some,ih]
theorem CB:∀ (l:List (Int×Int)),chunk 2 true l.length ((l.map zE).flatten)=Ld l
 | []=>rfl
 |p::l=>by
  have ih:=CB l
  simp only[List.length_cons,List.map_cons,List.flatten_cons,chunk,if_true,zE] at ih ⊢
  simp only[List.cons_append,List.nil_append,List.take_succ_cons,List.take_zero,List.drop_succ_cons,List.drop_zero,Ld,List.map_cons]
  rw[ih]
theorem TO {A:List ba} {id n fl:Nat} {nl:Bool} {l:List (Int×Int)} (hg:A[id]? =some (sd l fl nl)) (hn:n=l.length) (d:Nat):ic A (d+1) (.own id n)=some (if nl then .ma else .lit 2 (Ld l)):=by
 subst hn
 have hl:=Fi l
 have e:mh (bf l)=((l.map zE).flatten).map .pv:=by simp[mh,bf]
 simp only[ic,hg,sd,Qg]
 rw[if_pos ⟨by omega,rfl⟩,e,wC]
 cases nl with
 |true=>rfl
 |false=>simp only[Bool.false_eq_true,if_false,Option.map_some,CB]
theorem Gy (A:List ba) (x y:AV) (p:Int×Int):Ma (A++[.box [x,y]]) 2 (.ptr A.length 0) (.pv (pr p))=some (A++[.box [.pv (i64 p.1),.pv (i64 p.2)]]):=by
 simp only[Ma,AV.cells,PV.cells,pr,List.map_cons,List.map_nil,List.length_cons,List.length_nil,List.all,AV.one,Cj,Sn]
 simp[na]
theorem vA (A:List ba) (p:Int×Int):ya (A++[.box [.pv (i64 p.1),.pv (i64 p.2)]]) true 2 (.ptr A.length 0)=some (.pv (pr p)):=by
 simp[ya,oh,Ar,He]
theorem Mq (l:List (Int×Int)) (fl:Nat) (nl:Bool) (n:Nat):pa n (sd l fl nl)=some (sd l fl nl):=Lv _ _ _ _ _
abbrev ON (v:PV) (id n len i:Nat):Tr:=(((Tr.lf.set 11 (.pv (i64 i))).set 10 (.pv (i64 len))).set 9 (.pv v)).set 3 (.own id n)
theorem Sj (A:List ba) {l:List (Int×Int)} {i:Nat} (hi:i < l.length):ua A 2 (.pv (.lit 2 (Ld l))) (i:Int)=some (.pv (.rp [i64 l[i].1,i64 l[i].2] 0)):=by
 have hg:=yr hi
 simp only[ua]
 rw[if_pos (by unfold Fa;simp;omega),Int.toNat_natCast,hg];rfl
theorem FR (A:List ba) (p:Int×Int):ya A true 2 (.pv (.rp [i64 p.1,i64 p.2] 0))=some (.pv (pr p)):=by
 simp[ya,jm]
theorem LL (call:ab) (v:PV) (l:List (Int×Int)) (hv:Th 2 v (Ld l)) (hw:l.length * 16≤140737488355328) (H:List ba) (hH:Lg H):
 cj call gd [.pv v] H=some (.own H.length l.length,H++[sd l 0 false]):=by
 have ls:=hv.len
 simp only[Ld,List.length_map] at ls
 have hid:H.length < H.length+1:=Nat.lt_succ_self _
 have hlen:∀ l',(H++[sd l' 0 false]).length=H.length+1:=fun l'=>by simp
 have hcut:∀ l',Ra (pa (H.length+1)) (H++[sd l' 0 false])=some (H++[sd l' 0 false]):=fun l'=>al fun o ho=>by
  rcases List.mem_append.1 ho with h | h
  ·exact hH _ (by omega) o h
  ·simp at h;subst h;exact Mq _ _ _ _
 have hloop:Md (fun r=>∃ E,r=(.exit 0,⟨E,H++[sd l 0 false]⟩)∧E.get 3= .own H.length l.length)
  (gb (fa (ta call Ec) (ga (H.length+1) [3,9,10,11])) oa ⟨ON v H.length 0 l.length 0,H++[sd [] 0 false]⟩):=by
  refine wa (yb (g:=fa (ta call Ec) (ga (H.length+1) [3,9,10,11]))
   (fun i t=>t=⟨ON v H.length i l.length i,H++[sd (l.take i) 0 false]⟩)
   l.length (by unfold oa;omega) _ rfl ?_ ?_) (fun r h=>h.2)
  ·rintro i t hi rfl
   have hv:=hv.lit (i:=i) (by simpa using hi)
   subst hv
   have e1:decide ((i:Int) < (l.length:Int))=true:=Ga (by omega)
   have t2:=Ua hi (by unfold maxLen;omega)
   have a1:=Sj (H++[sd (l.take i) 0 false]) hi
   have l1:=FR (H++[sd (l.take i) 0 false]) l[i]
   have s1:=Gy (H++[sd (l.take i) 0 false]) (.pv (i64 0)) (.pv (i64 0)) l[i]
   have l2:=vA (H++[sd (l.take i) 0 false]) l[i]
   have hap:=fB (A:=H++[sd (l.take i) 0 false]++[.box [.pv (i64 l[i].1),.pv (i64 l[i].2)]]) (id:=H.length) (n:=i) (h:= .own) (bytes:=16) (by rw[List.getElem?_append_left (by simp)];exact Cj _ _) (by simp;omega) (by unfold xb;omega) l[i]
   rw[List.set_append_left _ _ (by simp),Sn,←List.take_succ_eq_append_getElem hi] at hap
   have htk:(H++[sd (l.take (i+1)) 0 false]++[ba.box [.pv (i64 l[i].1),.pv (i64 l[i].2)]]).take (H.length+1)=H++[sd (l.take (i+1)) 0 false]:=by
    rw[List.take_append_of_le_length (by simp),List.take_of_length_le (by simp)]
   have hc:=hcut (l.take (i+1))
   generalize l[i]=p at *
   generalize hQ:LN _ _ i=Q
   simp -implicitDefEqProofs only[SP,WP,na,sevalprocAttr,Ec,e1,t2,a1,l1,s1,l2,hap,htk,hc,hid,ga,za,AV.cut,qa,ON]
   subst hQ
   rfl
  ·rintro t rfl
   rw[List.take_length]
   have e1:decide ((l.length:Int) < (l.length:Int))=false:=Ia (by omega)
   generalize hQ:(fun r:Ex×St=>r.1.stop=true∧_)=Q
   simp -implicitDefEqProofs only[SX,sevalprocAttr,Ec,e1,ON]
   subst hQ
   exact⟨rfl,_,rfl,by simp[Tr.aa]⟩
 have h2:(0:Int)≤(l.length:Int):=by omega
 have h3:xb l.length 16:=by unfold xb;omega
 have n0:(0:Int).toNat=0:=rfl
 have ho:ba.seq 2 true [] 0 false=sd [] 0 false:=rfl
 apply Xj
 simp -implicitDefEqProofs only[SX,sevalprocAttr,gd,qb,ls,Int.le_refl,eq_true h2,eq_true h3,n0,ho,hlen,hcut,hid,List.take_of_length_le (show (H++[sd [] 0 false]).length≤H.length+1 by simp),ga,za,AV.cut,qa]
 refine wa hloop ?_
 rintro _ ⟨E,rfl,hE⟩
 simp -implicitDefEqProofs only[SX,sevalprocAttr,hE]
end Go.AM.B1
namespace Go.AM.B1
open Go.AM Go.AM.So
theorem Fg {A:List ba} {id n sz bytes:Nat} {nl ag:Bool} {h:Bf} {es:List PV} (hg:A[id]? =some (.tok sz n nl)) (hn:n=es.length) (hr:xb (n+1) bytes) (e:PV):
 Zb A false h sz ag bytes (.uq id nl sz es) (.pv (.lit sz [e]))=some (.uq id false sz (es++[e]),A.set id (.tok sz (n+1) false)):=by
 subst hn
 simp only[Zb,Bool.false_eq_true,if_false,hg,nf,if_true,Option.bind_some,List.length_cons,List.length_nil]
 rw[if_pos ⟨trivial,trivial,trivial,hr⟩]
 simp
abbrev IN (id n i tk:Nat) (nl:Bool) (es:List PV):Tr:=(((Tr.lf.set 11 (.pv (i64 i))).set 10 (.pv (i64 n))).set 9 (.own id n)).set 3 (.uq tk nl 2 es)
theorem wN {A:List ba} {id fl:Nat} {nl:Bool} {l:List (Int×Int)} (hg:A[id]? =some (sd l fl nl)) (hf:fl≤l.length * 2) (hA:Lg A):Hp id 2 LW A (bf l) A:=
 Hp.refl (fl:=fl) (nl:=nl) hA (by rw[Ao];exact hf) hg (OA l)
theorem yE {l:List (Int×Int)} {i:Nat} (hi:i < l.length):(bf l)[i]! =zE l[i]:=by
 rw[qX (by rw[Ao];exact hi)];simp[bf]
theorem gO (call:ab) (l:List (Int×Int)) {id fl:Nat} {nl:Bool} (H:List ba) (hH:Lg H) (hg:H[id]? =some (sd l fl nl)) (hf:fl≤l.length * 2) (hw:l.length * 16≤140737488355328):
 cj call xd [.own id l.length] H=some (.uq H.length false 2 (Ld l),H++[.tok 2 l.length false]):=by
 have hp:=wN hg hf hH
 have hid:id < H.length:=hp.lt
 have hid1:id < H.length+1:=by omega
 have htk:H.length < H.length+1:=Nat.lt_succ_self _
 have hl:=Fi l
 have hn:l.length=(bf l).size:=(Ao l).symm
 have hlen:∀ m b,(H++[ba.tok 2 m b]).length=H.length+1:=fun m b=>by simp
 have hcut:∀ m b,Ra (pa (H.length+1)) (H++[ba.tok 2 m b])=some (H++[ba.tok 2 m b]):=fun m b=>al fun o ho=>by
  rcases List.mem_append.1 ho with h | h
  ·exact hH _ (by omega) o h
  ·simp at h;subst h;rfl
 have hlA:∀ T,Sb (H++T) 0 (.own id l.length)=some l.length:=by
  intro T
  rw[bz,List.getElem?_append_left hid,hg]
  simp only[sd,Qg]
  rw[if_pos];unfold mi;omega
 have hlA0:Sb H 0 (.own id l.length)=some l.length:=by have:=hlA [];rwa [List.append_nil] at this
 have hloop:Md (fun r=>∃ E,r=(.exit 0,⟨E,H++[.tok 2 l.length false]⟩)∧E.get 3= .uq H.length false 2 (Ld l))
  (gb (fa (ta call Lc) (ga (H.length+1) [3,9,10,11])) oa ⟨IN id l.length 0 H.length false [],H++[.tok 2 0 false]⟩):=by
  refine wa (yb (g:=fa (ta call Lc) (ga (H.length+1) [3,9,10,11]))
   (fun i t=>t=⟨IN id l.length i H.length false (Ld (l.take i)),H++[.tok 2 i false]⟩)
   l.length (by unfold oa;omega) _ rfl ?_ ?_) (fun r h=>h.2)
  ·rintro i t hi rfl
   have e1:decide ((i:Int) < (l.length:Int))=true:=Ga (by omega)
   have t2:=Ua hi (by unfold maxLen;omega)
   have a1:=FF [.tok 2 i false] hid (hp.Uc Qw hn (i:=(i:Int)) rfl (by omega))
   have l1:=wJ [.tok 2 i false] hid (hp.load Qw hn (k:=i) (by omega))
   rw[yE hi] at l1
   have l1':ya (H++[.tok 2 i false]) true 2 (.Kc id (l.length * 2) (i * 2))=some (.pv (pr l[i])):=l1
   have s1:=Gy (H++[.tok 2 i false]) (.pv (i64 0)) (.pv (i64 0)) l[i]
   have l2:=vA (H++[.tok 2 i false]) l[i]
   have hap:=Fg (A:=H++[.tok 2 i false]++[.box [.pv (i64 l[i].1),.pv (i64 l[i].2)]]) (id:=H.length) (n:=i) (h:= .uq) (ag:=true) (nl:=false) (sz:=2) (bytes:=16) (es:=Ld (l.take i)) (by rw[List.getElem?_append_left (by simp)];exact Cj _ _) (by simp;omega) (by unfold xb;omega) (pr l[i])
   have hs:Ld (l.take (i+1))=Ld (l.take i)++[pr l[i]]:=by rw[List.take_succ_eq_append_getElem hi];simp only[Ld,List.map_append,List.map_cons,List.map_nil]
   rw[List.set_append_left _ _ (by simp),Sn,←hs] at hap
   have htk2:(H++[ba.tok 2 (i+1) false]++[ba.box [.pv (i64 l[i].1),.pv (i64 l[i].2)]]).take (H.length+1)=H++[ba.tok 2 (i+1) false]:=by
    rw[List.take_append_of_le_length (by simp),List.take_of_length_le (by simp)]
   have hc:=hcut (i+1) false
   generalize l[i]=p at *
   generalize hes':Ld (l.take (i+1))=es' at *
   generalize Ld (l.take i)=es at *
   generalize hQ:LN _ _ i=Q
   simp -implicitDefEqProofs only[SP,WP,na,sevalprocAttr,Lc,e1,t2,a1,l1',s1,l2,hap,htk,htk2,hc,hid1,ga,za,AV.cut,qa,IN]
   subst hQ
   subst hes'
   rfl
  ·rintro t rfl
   rw[List.take_length]
   have e1:decide ((l.length:Int) < (l.length:Int))=false:=Ia (by omega)
   generalize hQ:(fun r:Ex×St=>r.1.stop=true∧_)=Q
   simp -implicitDefEqProofs only[SX,sevalprocAttr,Lc,e1,IN]
   subst hQ
   exact⟨rfl,_,rfl,by simp[Tr.aa]⟩
 have h2:(0:Int)≤(l.length:Int):=by omega
 have h3:xb l.length 16:=by unfold xb;omega
 have n0:(0:Int).toNat=0:=rfl
 apply Xj
 simp -implicitDefEqProofs only[SX,sevalprocAttr,xd,qb,hlA,hlA0,Int.le_refl,eq_true h2,eq_true h3,n0,hlen,hcut,hid1,htk,List.take_of_length_le (show (H++[ba.tok 2 0 false]).length≤H.length+1 by simp),ga,za,AV.cut,qa]
 refine wa hloop ?_
 rintro _ ⟨E,rfl,hE⟩
 simp -implicitDefEqProofs only[SX,sevalprocAttr,hE]
def Nj (x:Int) (l:List (Int×Int)):Prop:=∃ p∈l,p.1≤x∧x≤p.2
end Go.AM.B1
namespace Go.AM.B1
open Go.AM Go.AM.So
def Ch:List (Int×Int)→List (Int×Int)→List (Int×Int)
 |out,[]=>out
 |out,r::rest=>match out.getLast? with
  |some q=>if r.1≤q.2+1 then Ch (out.dropLast++[(q.1,if r.2 > q.2 then r.2 else q.2)]) rest else Ch (out++[r]) rest
  |none=>Ch (out++[r]) rest
theorem LF (r:Int×Int) (rest:List (Int×Int)):Ch [] (r::rest)=Ch [r] rest:=rfl
theorem XD {out rest:List (Int×Int)} {q r:Int×Int} (h:r.1≤q.2+1):Ch (out++[q]) (r::rest)=Ch (out++[(q.1,if r.2 > q.2 then r.2 else q.2)]) rest:=by
 rw[Ch,List.getLast?_append];simp[h]
theorem wG {out rest:List (Int×Int)} {q r:Int×Int} (h:¬r.1≤q.2+1):Ch (out++[q]) (r::rest)=Ch (out++[q]++[r]) rest:=by
 rw[Ch,List.getLast?_append];simp[h]
section
variable {A:List ba} {id fl:Nat} {nl:Bool} {out:List (Int×Int)} {q:Int×Int} (hg:A[id]? =some (sd (out++[q]) fl nl)) (hf:fl≤(out.length+1) * 2)
include hg hf
theorem bM:ua A 2 (.own id (out.length+1)) (out.length:Int)=some (.Kc id ((out.length+1) * 2) (out.length * 2)):=by
 have hl:=Fi (out++[q])
 rw[List.length_append,List.length_cons,List.length_nil] at hl
 simp only[ua,hg,sd,Qg]
 rw[if_pos (by refine⟨trivial,?_,?_⟩ <;> first | (unfold Fa;omega) | (unfold mi;omega))]
 simp
omit hf in
theorem uL:place A 1 (.Kc id ((out.length+1) * 2) (out.length * 2))=some (.Kc id ((out.length+1) * 2) (out.length * 2+1)):=by
 have hl:=Fi (out++[q])
 rw[List.length_append,List.length_cons,List.length_nil] at hl
 simp only[place,hg,sd,Qg,hl,if_true]
omit hf in
theorem UO:ya A false 1 (.Kc id ((out.length+1) * 2) (out.length * 2+1))=some (.pv (i64 q.2)):=by
 have hl:=Fi (out++[q])
 rw[List.length_append,List.length_cons,List.length_nil] at hl
 simp only[ya,hg,sd,Qg,hl,if_true,oh,Bool.false_eq_true,if_false]
 have e:mh (bf (out++[q]))=mh (bf out)++[.pv (i64 q.1),.pv (i64 q.2)]:=by simp[mh,bf,zE]
 have hl2:=Fi out
 rw[e,List.getElem?_append_right (by omega),hl2]
 have:out.length * 2+1 - out.length * 2=1:=by omega
 rw[this];rfl
omit hf in
theorem zM (v:Int):Ma A 1 (.Kc id ((out.length+1) * 2) (out.length * 2+1)) (.pv (i64 v))=some (A.set id (sd (out++[(q.1,v)]) ((out.length+1) * 2) nl)):=by
 have hl:=Fi (out++[q])
 rw[List.length_append,List.length_cons,List.length_nil] at hl
 have e:∀ q:Int×Int,mh (bf (out++[q]))=mh (bf out)++[.pv (i64 q.1),.pv (i64 q.2)]:=fun q=>by simp[mh,bf,zE]
 have hl2:=Fi out
 have hs:na (mh (bf (out++[q]))) (out.length * 2+1) [.pv (i64 v)]=mh (bf (out++[(q.1,v)])):=by
  rw[e,e,na,na,List.set_append_right _ _ (by omega),hl2]
  have:out.length * 2+1 - out.length * 2=1:=by omega
  rw[this];rfl
 have hc:(AV.pv (i64 v)).cells=[.pv (i64 v)]:=rfl
 simp only[Ma,hg,sd,Qg,hc]
 rw[if_pos ⟨rfl,rfl⟩,if_pos ⟨hl,by omega⟩,hs]
end
abbrev FB (id0 n i id1 m:Nat):Tr:=(((Tr.lf.set 11 (.pv (i64 i))).set 10 (.pv (i64 n))).set 9 (.own id0 n)).set 3 (.own id1 m)
def vL (l:List (Int×Int)):Prop:=∀ p∈l,-4611686018427387904≤p.2∧p.2≤4611686018427387904
theorem wS {a b:List (Int×Int)} (ha:vL a) (hb:vL b):vL (a++b):=by
 intro p hp
 rcases List.mem_append.1 hp with h | h
 ·exact ha p h
 ·exact hb p h
theorem OO (call:ab) (l:List (Int×Int)) (hl:vL l) {id0 fl0:Nat} {nl0:Bool} (H:List ba) (hH:Lg H) (hg0:H[id0]? =some (sd l fl0 nl0)) (hf0:fl0≤l.length * 2) (hw:l.length≤1000000):
 Md (fun r=>∃ E fl nl,r=(.exit 0,⟨E,H++[sd (Ch [] l) fl nl]⟩)∧E.get 3= .own H.length (Ch [] l).length∧fl≤(Ch [] l).length * 2)
  (gb (fa (ta call ei) (ga (H.length+1) [3,9,10,11])) oa ⟨FB id0 l.length 0 H.length 0,H++[sd [] 0 true]⟩):=by
 have hp:=wN hg0 hf0 hH
 have hid:id0 < H.length:=hp.lt
 have hid1:id0 < H.length+1:=by omega
 have htk:H.length < H.length+1:=Nat.lt_succ_self _
 have hn:l.length=(bf l).size:=(Ao l).symm
 have hcut:∀ a b c,Ra (pa (H.length+1)) (H++[sd a b c])=some (H++[sd a b c]):=fun a b c=>al fun o ho=>by
  rcases List.mem_append.1 ho with h | h
  ·exact hH _ (by omega) o h
  ·simp at h;subst h;exact Mq _ _ _ _
 refine wa (yb (g:=fa (ta call ei) (ga (H.length+1) [3,9,10,11]))
  (fun i t=>∃ out fl nl,t=⟨FB id0 l.length i H.length out.length,H++[sd out fl nl]⟩∧fl≤out.length * 2∧vL out∧out.length≤i∧Ch [] l=Ch out (l.drop i))
  l.length (by unfold oa;omega) _ ⟨[],0,true,rfl,by omega,by intro p hp;simp at hp,by simp,rfl⟩ ?_ ?_) (fun r h=>h.2)
 ·rintro i t hi ⟨out,fl,nl,rfl,hfl,hsa,hle,hs⟩
  have hd:l.drop i=l[i]::l.drop (i+1):=List.drop_eq_getElem_cons hi
  rw[hd] at hs
  have hsp:=hl l[i] (List.getElem_mem hi)
  have e1:decide ((i:Int) < (l.length:Int))=true:=Ga (by omega)
  have t2:=Ua hi (by unfold maxLen;omega)
  have a1:=FF [sd out fl nl] hid (hp.Uc Qw hn (i:=(i:Int)) rfl (by omega))
  have l1:=wJ [sd out fl nl] hid (hp.load Qw hn (k:=i) (by omega))
  rw[yE hi] at l1
  have l1':ya (H++[sd out fl nl]) true 2 (.Kc id0 (l.length * 2) (i * 2))=some (.pv (pr l[i])):=l1
  have s1:=Gy (H++[sd out fl nl]) (.pv (i64 0)) (.pv (i64 0)) l[i]
  have l2:=vA (H++[sd out fl nl]) l[i]
  have b0:∀ p:Int×Int,place (H++[sd out fl nl]++[ba.box [.pv (i64 p.1),.pv (i64 p.2)]]) 0 (.ptr (H++[sd out fl nl]).length 0)=some (.ptr (H++[sd out fl nl]).length 0):=fun p=>by simp[place]
  have b1:∀ p:Int×Int,place (H++[sd out fl nl]++[ba.box [.pv (i64 p.1),.pv (i64 p.2)]]) 1 (.ptr (H++[sd out fl nl]).length 0)=some (.ptr (H++[sd out fl nl]).length 1):=fun p=>by simp[place]
  have b2:∀ p:Int×Int,ya (H++[sd out fl nl]++[ba.box [.pv (i64 p.1),.pv (i64 p.2)]]) false 1 (.ptr (H++[sd out fl nl]).length 0)=some (.pv (i64 p.1)):=fun p=>by simp[ya,oh]
  have b3:∀ p:Int×Int,ya (H++[sd out fl nl]++[ba.box [.pv (i64 p.1),.pv (i64 p.2)]]) false 1 (.ptr (H++[sd out fl nl]).length 1)=some (.pv (i64 p.2)):=fun p=>by simp[ya,oh]
  have hap:=fB (A:=H++[sd out fl nl]++[.box [.pv (i64 l[i].1),.pv (i64 l[i].2)]]) (id:=H.length) (n:=out.length) (h:= .own) (bytes:=16) (by rw[List.getElem?_append_left (by simp)];exact Cj _ _) rfl (by unfold xb;omega) l[i]
  rw[List.set_append_left _ _ (by simp),Sn] at hap
  have htk2:∀ (o o2:ba),(H++[o]++[o2]).take (H.length+1)=H++[o]:=fun o o2=>by
   rw[List.take_append_of_le_length (by simp),List.take_of_length_le (by simp)]
  have hlen:Sb (H++[sd out fl nl]++[.box [.pv (i64 l[i].1),.pv (i64 l[i].2)]]) 0 (.own H.length out.length)=some out.length:=by
   rw[bz,List.getElem?_append_left (by simp),Cj]
   have:=Fi out
   simp only[sd,Qg]
   rw[if_pos];unfold mi;omega
  rcases List.eq_nil_or_concat out with rfl | ⟨out,q,rfl⟩
  ·have hz:decide (((0:Nat):Int) > 0)=false:=by decide
   rw[LF] at hs
   rw[List.length_nil] at hap hlen
   rw[Nat.zero_add,List.nil_append] at hap
   generalize l[i]=p at *
   generalize hQ:LN _ _ i=Q
   simp -implicitDefEqProofs only[SP,WP,na,sevalprocAttr,ei,e1,t2,a1,l1',s1,l2,hlen,hz,hap,htk2,hcut,hid1,htk,ga,za,AV.cut,qa,FB]
   subst hQ
   exact⟨[p],fl,false,rfl,by simp at hfl ⊢;omega,by intro x hx;simp at hx;subst hx;exact hsp,by simp,hs⟩
  ·rw[List.concat_eq_append] at *
   have hql:=hsa q (by simp)
   have hol:(out++[q]).length=out.length+1:=by simp
   have hg1:(H++[sd (out++[q]) fl nl]++[ba.box [.pv (i64 l[i].1),.pv (i64 l[i].2)]])[H.length]? =some (sd (out++[q]) fl nl):=by rw[List.getElem?_append_left (by simp)];exact Cj _ _
   have c1:=bM hg1 (by rw[hol] at hfl;exact hfl)
   have c2:=uL hg1
   have c3:=UO hg1
   have c4:=zM hg1 (if l[i].2 > q.2 then l[i].2 else q.2)
   rw[List.set_append_left _ _ (by simp),Sn] at c4
   have t3:IntKind.i64.wrap (((out.length+1:Nat):Int) - 1)=(out.length:Int):=by rw[Da (by omega)];omega
   have t4:IntKind.i64.wrap (q.2+1)=q.2+1:=Da (by omega)
   have hz:decide (((out.length+1:Nat):Int) > 0)=true:=Ga (by omega)
   rw[hol] at hlen hap hfl hle
   by_cases hj:l[i].1≤q.2+1
   ·have e2:decide (l[i].1≤q.2+1)=true:=Ga hj
    rw[XD hj] at hs
    generalize l[i]=p at *
    generalize hmx:(if p.2 > q.2 then p.2 else q.2)=mx at *
    generalize hQ:LN _ _ i=Q
    simp -implicitDefEqProofs only[SP,WP,na,sevalprocAttr,ei,e1,t2,a1,l1',s1,l2,hol,hlen,hz,b0,b1,b2,b3,c1,c2,c3,c4,t3,t4,e2,Jq,ue,hmx,htk2,hcut,hid1,htk,ga,za,AV.cut,qa,FB]
    subst hQ
    refine⟨out++[(q.1,mx)],(out.length+1) * 2,nl,by simp[FB,hol],by simp,?_,by simp;omega,hs⟩
    intro x hx
    rcases List.mem_append.1 hx with h | h
    ·exact hsa x (by simp[h])
    ·simp at h;subst h
     rw[← hmx];split <;> simp only <;> omega
   ·have e2:decide (l[i].1≤q.2+1)=false:=Ia hj
    rw[wG hj] at hs
    generalize l[i]=p at *
    generalize hQ:LN _ _ i=Q
    simp -implicitDefEqProofs only[SP,WP,na,sevalprocAttr,ei,e1,t2,a1,l1',s1,l2,hol,hlen,hz,b0,b1,b2,b3,c1,c2,c3,t3,t4,e2,hap,htk2,hcut,hid1,htk,ga,za,AV.cut,qa,FB]
    subst hQ
    refine⟨out++[q]++[p],fl,false,by simp[FB],by simp;omega,?_,by simp;omega,hs⟩
    exact wS hsa (by intro x hx;simp at hx;subst hx;exact hsp)
 ·rintro t ⟨out,fl,nl,rfl,hfl,hsa,hle,hs⟩
  rw[List.drop_length,Ch] at hs
  have e1:decide ((l.length:Int) < (l.length:Int))=false:=Ia (by omega)
  generalize hQ:(fun r:Ex×St=>r.1.stop=true∧_)=Q
  simp -implicitDefEqProofs only[SX,sevalprocAttr,ei,e1,FB]
  subst hQ
  rw[hs]
  exact⟨rfl,_,fl,nl,rfl,by simp[Tr.aa],hfl⟩
end Go.AM.B1
namespace Go.AM.B1
open Go.AM Go.AM.So
def qy (last:Int) (a:List (Int×Int)):Int:=(a.getLast?.map (·.2)).getD last
theorem rI (last:Int) (p:Int×Int) (a:List (Int×Int)):qy last (p::a)=qy p.2 a:=by
 cases a with
 |nil=>rfl
 |cons q a=>simp[qy,List.getLast?_cons]
theorem OJ (last:Int) (a:List (Int×Int)) (q:Int×Int):qy last (a++[q])=q.2:=by simp[qy]
theorem Qt (top:Int):∀ (a b:List (Int×Int)) (last:Int),Pa top last (a++b)=(Pa top last a&&Pa top (qy last a) b)
 | [],b,last=>by simp[Pa,qy]
 |p::a,b,last=>by
  rw[List.cons_append,Pa,Pa,Qt top a b p.2,rI,Bool.and_assoc]
theorem Yp {top last:Int} {p:Int×Int}:Pa top last [p]=true↔0≤p.1∧p.1≤p.2∧p.2≤top∧last < p.1 - 1:=by
 simp only[Pa,Bool.and_true,Bool.not_eq_true',Bool.or_eq_false_iff,decide_eq_false_iff_not]
 constructor <;> intro h <;> refine⟨?_,?_⟩ <;> omega
theorem zt (x:Int) (a b:List (Int×Int)):Nj x (a++b)↔Nj x a∨Nj x b:=by
 unfold Nj
 simp only[List.mem_append]
 constructor
 ·rintro⟨p,h | h,hp⟩
  ·exact .inl ⟨p,h,hp⟩
  ·exact .inr ⟨p,h,hp⟩
 ·rintro (⟨p,h,hp⟩ | ⟨p,h,hp⟩)
  ·exact⟨p,.inl h,hp⟩
  ·exact⟨p,.inr h,hp⟩
theorem eo (x:Int) (p:Int×Int):Nj x [p]↔p.1≤x∧x≤p.2:=by
 unfold Nj;simp
theorem Om (x:Int):¬Nj x []:=by unfold Nj;simp
theorem Yl (x:Int) (p:Int×Int) (l:List (Int×Int)):Nj x (p::l)↔(p.1≤x∧x≤p.2)∨Nj x l:=by
 unfold Nj;simp
theorem sA {top:Int}:∀ (rest out:List (Int×Int)) (q:Int×Int),Pa top (-2) (out++[q])=true→(∀ p∈rest,0≤p.1∧p.1≤p.2∧p.2≤top∧q.1≤p.1)→rest.Pairwise (fun p q=>p.1≤q.1)→
 Pa top (-2) (Ch (out++[q]) rest)=true∧(∀ x,Nj x (Ch (out++[q]) rest)↔Nj x (out++[q])∨Nj x rest)∧(Ch (out++[q]) rest).length≤out.length+1+rest.length
 | [],out,q,hv,_,_=>by
   rw[Ch]
   exact⟨hv,fun x=>by simp[Om],by simp⟩
 |r::rest,out,q,hv,hr,hs=>by
  have h1:=hr r (by simp)
  rw[List.pairwise_cons] at hs
  have hv':=hv
  rw[Qt,Bool.and_eq_true,Yp] at hv'
  by_cases hj:r.1≤q.2+1
  ·rw[XD hj]
   have ih:=sA rest out (q.1,if r.2 > q.2 then r.2 else q.2) (by
    rw[Qt,Bool.and_eq_true,Yp]
    refine⟨hv'.1,hv'.2.1,?_,?_,hv'.2.2.2.2⟩ <;> simp only <;> split <;> omega) (fun p hp=>by
     have:=hr p (by simp[hp])
     exact⟨this.1,this.2.1,this.2.2.1,this.2.2.2⟩) hs.2
   refine⟨ih.1,fun x=> ?_,by have:=ih.2.2;simp only[List.length_cons];omega⟩
   rw[ih.2.1,zt,zt,eo,eo,Yl]
   have e:(q.1≤x∧x≤(if r.2 > q.2 then r.2 else q.2))↔(q.1≤x∧x≤q.2)∨(r.1≤x∧x≤r.2):=by
    split <;> constructor <;> intro h <;> omega
   simp only[e]
   constructor
   ·rintro ((h | h | h) | h)
    ·exact .inl (.inl h)
    ·exact .inl (.inr h)
    ·exact .inr (.inl h)
    ·exact .inr (.inr h)
   ·rintro ((h | h) | h | h)
    ·exact .inl (.inl h)
    ·exact .inl (.inr (.inl h))
    ·exact .inl (.inr (.inr h))
    ·exact .inr h
  ·rw[wG hj]
   have ih:=sA rest (out++[q]) r (by
    rw[Qt,Bool.and_eq_true,Yp,OJ]
    exact⟨hv,h1.1,h1.2.1,h1.2.2.1,by omega⟩) (fun p hp=>by
     have h2:=hr p (by simp[hp])
     exact⟨h2.1,h2.2.1,h2.2.2.1,hs.1 p hp⟩) hs.2
   refine⟨ih.1,fun x=> ?_,by have:=ih.2.2;simp only[List.length_cons,List.length_append,List.length_nil] at this ⊢;omega⟩
   rw[ih.2.1,zt,eo,Yl]
   constructor
   ·rintro ((h | h) | h)
    ·exact .inl h
    ·exact .inr (.inl h)
    ·exact .inr (.inr h)
   ·rintro (h | h | h)
    ·exact .inl (.inl h)
    ·exact .inl (.inr h)
    ·exact .inr h
theorem uQ {top:Int} (l:List (Int×Int)) (hr:∀ p∈l,0≤p.1∧p.1≤p.2∧p.2≤top) (hs:l.Pairwise (fun p q=>p.1≤q.1)):
 Pa top (-2) (Ch [] l)=true∧(∀ x,Nj x (Ch [] l)↔Nj x l)∧(Ch [] l).length≤l.length:=by
 cases l with
 |nil=>exact⟨rfl,fun x=>Iff.rfl,Nat.le_refl _⟩
 |cons r rest=>
  rw[LF]
  have h1:=hr r (by simp)
  rw[List.pairwise_cons] at hs
  have:=sA rest [] r (by rw[List.nil_append,Yp];exact⟨h1.1,h1.2.1,h1.2.2,by omega⟩) (fun p hp=>by
   have h2:=hr p (by simp[hp])
   exact⟨h2.1,h2.2.1,h2.2.2,hs.1 p hp⟩) hs.2
  rw[List.nil_append] at this
  refine⟨this.1,fun x=> ?_,by have:=this.2.2;simp at this ⊢;omega⟩
  rw[this.2.1,eo,Yl]
theorem Dq {top:Int}:∀ {l:List (Int×Int)} {last:Int},Pa top last l=true→∀ p∈l,0≤p.1∧p.1≤p.2∧p.2≤top
 |q::l,last,h,p,hp=>by
  obtain⟨h1,h2,h3,h4,h5⟩:=ie h
  rcases List.mem_cons.1 hp with rfl | hp
  ·exact⟨by omega,by omega,by omega⟩
  ·exact Dq h5 p hp
theorem tz:∀ (l:List (Int×Int)),mh (bf l)=Ef (l.flatMap fun p=>[p.1,p.2])
 | []=>rfl
 |p::l=>by
  have h:=tz l
  simp only[mh,bf,Ef] at h ⊢
  simp[zE,h]
theorem ED:∀ (l:List (Int×Int)),Bh 2 l.length (l.flatMap fun p=>[p.1,p.2])=l.map fun p=>[p.1,p.2]
 | []=>rfl
 |p::l=>by
  rw[List.length_cons,Bh,List.flatMap_cons,List.map_cons,←ED l];rfl
theorem uO {l:List (Int×Int)} (hw:l.length < 50) {H:List ba} {id fl:Nat} {nl:Bool} (hg:H[id]? =some (sd l fl nl)):
 ∃ l',l'.Perm l∧l'.Pairwise (fun p q=>p.1≤q.1)∧mz 2 0 23 [.own id l.length,.Wk 23 []] H=some (.pv (.Jc []),H.set id (sd l' (l.length * 2) nl)):=by
 obtain⟨s1,s2,s3⟩:=dz 2 0 (l.map fun p=>[p.1,p.2]).toArray
 have hso:∀ F,BE (mh (bf l))=some F→Bh 2 l.length F=l.map fun p=>[p.1,p.2]:=by
  intro F hF
  rw[tz,Wt] at hF
  injection hF with hF
  rw[← hF,ED]
 generalize hE:Vn 2 0 (l.map fun p=>[p.1,p.2]).toArray=E at *
 have hEl:∃ l':List (Int×Int),E.toList=l'.map fun p=>[p.1,p.2]:=by
  have key:∀ (L:List (List Int)),(∀ r∈L,∃ p:Int×Int,r=[p.1,p.2])→∃ l':List (Int×Int),L=l'.map fun p=>[p.1,p.2]:=by
   intro L
   induction L with
   |nil=>intro _;exact⟨[],rfl⟩
   |cons r L ih=>
    intro h
    obtain⟨p,rfl⟩:=h r (by simp)
    obtain⟨l',rfl⟩:=ih fun x hx=>h x (by simp[hx])
    exact⟨p::l',rfl⟩
  refine key _ fun r hr=> ?_
  have:=s2.mem_iff.1 hr
  simp only[List.mem_map] at this
  obtain⟨p,_,rfl⟩:=this
  exact⟨p,rfl⟩
 obtain⟨l',hl'⟩:=hEl
 have hs:E.size=l.length:=by rw[s1];simp
 have hll:l'.length=l.length:=by rw[← hs,←Array.length_toList,hl',List.length_map]
 refine⟨l',?_,?_,?_⟩
 ·rw[hl'] at s2
  have:=s2.map fun r=>(r.getD 0 0,r.getD 1 0)
  simpa[List.map_map,Function.comp_def] using this
 ·rw[List.pairwise_iff_getElem]
  intro i j hi hj hij
  have h:=s3 i j hij (by simp;omega)
  have hg:∀ q (hq:q < l'.length),Fw 2 0 E[q]! =l'[q].1:=by
   intro q hq
   have h1:q < E.size:=by omega
   have:E[q]=[l'[q].1,l'[q].2]:=by
    have h2:E.toList[q]? =some [l'[q].1,l'[q].2]:=by rw[hl',List.getElem?_map,List.getElem?_eq_getElem hq];rfl
    rw[Array.getElem?_toList,Array.getElem?_eq_getElem h1] at h2
    exact Option.some.inj h2
   rw[getElem!_pos E q h1,this];rfl
  rw[hg i hi,hg j hj] at h
  omega
 ·have hfl:=Fi l
  unfold mz
  simp only[hg,sd,Qg]
  rw[if_pos ⟨trivial,trivial,by rw[hfl],by omega⟩]
  have hF:=tz l
  have hI:=Wt (l.flatMap fun p=>[p.1,p.2])
  rw[← hF] at hI
  rw[hI,Option.map_some,hso _ hI,hE,hl',hfl]
  have e:Ef (List.map (fun p:Int×Int=>[p.1,p.2]) l').flatten=mh (bf l'):=by rw[tz,List.flatMap_def]
  rw[e]
theorem IP (d:Nat) (args:List AV) (H:List ba):zh Zj Hb (d+1) 22 args H=mz 2 0 23 args H:=rfl
theorem LS (l:List (Int×Int)) (hl:vL l) {id0 fl0:Nat} {nl0:Bool} (H:List ba) (hH:Lg H) (hg0:H[id0]? =some (sd l fl0 nl0)) (hf0:fl0≤l.length * 2) (hw:l.length < 50):
 Md (fun r=>∃ l' fl nl,l'.Perm l∧l'.Pairwise (fun p q=>p.1≤q.1)∧r.1= .own (r.2.length - 1) (Ch [] l').length∧Lg r.2∧r.2[r.2.length - 1]? =some (sd (Ch [] l') fl nl)∧fl≤(Ch [] l').length * 2)
  (cj (zh Zj Hb 7) yo [.own id0 l.length] H):=by
 obtain⟨l',hpl,hps,hst⟩:=uO hw hg0
 have hid0:=(List.getElem?_eq_some_iff.1 hg0).1
 have hs2:l'.length=l.length:=hpl.length_eq
 have hg:(H.set id0 (sd l' (l.length * 2) nl0))[id0]? =some (sd l' (l.length * 2) nl0):=List.getElem?_set_self hid0
 have hgd:Lg (H.set id0 (sd l' (l.length * 2) nl0)):=by
  intro n hn o ho
  rcases List.mem_or_eq_of_mem_set ho with h | h
  ·exact hH n (by simpa using hn) o h
  ·subst h;exact Mq _ _ _ _
 have hfl:l.length * 2≤l'.length * 2:=by omega
 simp -implicitDefEqProofs only[SX,sevalprocAttr,yo,IP,hst]
 generalize H.set id0 (sd l' (l.length * 2) nl0)=H2 at *
 have hl':vL l':=fun p hpp=>hl p (hpl.mem_iff.1 hpp)
 have hlp:=OO (zh Zj Hb 7) l' hl' H2 hgd hg hfl (by omega)
 rw[hs2] at hlp
 have hlen:Sb (H2++[sd [] 0 true]) 0 (.own id0 l.length)=some l.length:=by
  have hid:id0 < H2.length:=(List.getElem?_eq_some_iff.1 hg).1
  have:=Fi l'
  rw[bz,List.getElem?_append_left hid,hg]
  simp only[sd,Qg]
  unfold mh at this ⊢
  rw[if_pos];unfold mi;omega
 have hg2:H2.length < H2.length+1:=Nat.lt_succ_self _
 have hid1:id0 < H2.length+1:=by have:=(List.getElem?_eq_some_iff.1 hg).1;omega
 have hgood:Lg (H2++[sd [] 0 true]):=by
  intro n hn o ho
  rcases List.mem_append.1 ho with h | h
  ·exact hgd n (by simp at hn;omega) o h
  ·simp at h;subst h;exact Mq _ _ _ _
 have hcut:=Lg.cut hgood
 have hlen1:(H2++[sd [] 0 true]).length=H2.length+1:=by simp
 rw[hlen1] at hcut
 have hz:(0 < 2)=True:=by simp
 have ho:ba.seq 2 true [] 0 true=sd [] 0 true:=rfl
 simp -implicitDefEqProofs only[SX,sevalprocAttr,qb,Ke,hz,ho,hlen,hlen1,hcut,hg2,hid1,List.take_of_length_le (show (H2++[sd [] 0 true]).length≤H2.length+1 by simp),ga,za,AV.cut,qa]
 refine wa hlp ?_
 rintro _ ⟨E,fl2,nl2,rfl,hE,hfl2⟩
 simp -implicitDefEqProofs only[SX,sevalprocAttr,hE]
 refine⟨l',fl2,nl2,hpl,hps,by simp,?_,by simp,hfl2⟩
 intro n hn o ho
 rcases List.mem_append.1 ho with h | h
 ·exact hgd n (by simp at hn;omega) o h
 ·simp at h;subst h;exact Mq _ _ _ _
end Go.AM.B1
namespace Go.AM.B1
open Go.AM Go.AM.So
abbrev Ly:Int:=1073741823
theorem tO {A:List ba} {id1 id2 n1 n2 f1 f2 bytes:Nat} {k1 k2:Bool} {h:Bf} {a b:List (Int×Int)} (h1:A[id1]? =some (sd a f1 k1)) (h2:A[id2]? =some (sd b f2 k2)) (hn1:n1=a.length) (hn2:n2=b.length) (hr:xb (n1+n2) bytes):
 ∃ k,Zb A true h 2 true bytes (.own id1 n1) (.own id2 n2)=some (.own id1 (n1+n2),A.set id1 (sd (a++b) f1 k)):=by
 subst hn1 hn2
 have la:=Fi a
 have lb:=Fi b
 have e:mh (bf (a++b))=mh (bf a)++mh (bf b):=by simp[mh,bf]
 have hone:(mh (bf b)).all AV.one=true:=by
  rw[List.all_eq_true]
  intro v hv
  obtain⟨c,hc,rfl⟩:=List.mem_map.1 hv
  rw[List.mem_flatten] at hc
  obtain⟨r,hr,hc⟩:=hc
  exact (Qw r (OA b r hr)).2 c hc
 refine⟨k1&&(b.length==0),?_⟩
 simp only[Zb,if_true,h1,sd,Qg,yj,h2,e]
 rw[if_pos ⟨trivial,by omega⟩]
 simp only[Option.bind_some]
 rw[if_pos ⟨trivial,by omega,hr,hone⟩]
theorem cp (v:PV) (l:List (Int×Int)) (hv:Th 2 v (Ld l)) (hw:l.length * 16≤140737488355328) (hval:Pa Ly (-2) l=true) (H:List ba) (hH:Lg H):
 cj (zh Zj Hb 7) Ki [.pv v] H=some (.own H.length l.length,H++[sd l 0 false]):=by
 have h1:=LL (zh Zj Hb 6) v l hv hw H hH
 have h2:=Ct (.lit 2 (Ld l)) l (.inr rfl) (by unfold maxLen;omega) Ly (by decide)
 rw[hval] at h2
 have h0:∀ args H,zh Zj Hb 7 0 args H=cj (zh Zj Hb 6) gd args H:=fun _ _=>rfl
 have h3:=TO (A:=H++[sd l 0 false]) (id:=H.length) (n:=l.length) (Cj _ _) rfl 5
 rw[if_neg (by simp)] at h3
 simp -implicitDefEqProofs only[SX,sevalprocAttr,Ki,h0,h1,h2,h3]
theorem rM {H:List ba} (hH:Lg H) {o:ba} (ho:∀ n,pa n o=some o):Lg (H++[o]):=by
 intro n hn x hx
 rcases List.mem_append.1 hx with h | h
 ·exact hH n (by simp at hn;omega) x h
 ·simp at h;subst h;exact ho n
theorem mO (A B:PV) (a b:List (Int×Int)) (hA:Th 2 A (Ld a)) (hB:Th 2 B (Ld b)) (hva:Pa Ly (-2) a=true) (hvb:Pa Ly (-2) b=true) (hl:a.length+b.length < 50):
 ∃ u,Kl [A,B]=some (.lit 2 (Ld u))∧Pa Ly (-2) u=true∧(∀ x,Nj x u↔Nj x a∨Nj x b)∧u.length≤a.length+b.length:=by
 have h1:=cp A a hA (by omega) hva [] (by intro n _ o ho;simp at ho)
 have hg1:Lg ([]++[sd a 0 false]):=rM (by intro n _ o ho;simp at ho) (Mq _ _ _)
 have h2:=cp B b hB (by omega) hvb ([]++[sd a 0 false]) hg1
 obtain⟨k,h3⟩:=tO (A:=[sd a 0 false,sd b 0 false]) (id1:=0) (id2:=1) (n1:=a.length) (n2:=b.length) (bytes:=16) (h:= .own) rfl rfl rfl rfl (by unfold xb;omega)
 have hg3:Lg [sd (a++b) 0 k,sd b 0 false]:=by
  intro n _ o ho
  simp at ho
  rcases ho with rfl | rfl <;> exact Mq _ _ _ _
 have ra:=Dq hva
 have rb:=Dq hvb
 have rab:∀ p∈a++b,0≤p.1∧p.1≤p.2∧p.2≤Ly:=fun p hp=>by
  rcases List.mem_append.1 hp with h | h
  ·exact ra p h
  ·exact rb p h
 have h4:=LS (a++b) (fun p hp=>by have:=rab p hp;unfold Ly at this;omega) (id0:=0) [sd (a++b) 0 k,sd b 0 false] hg3 rfl (by omega) (by simp;omega)
 obtain⟨⟨v,H4⟩,e4,l',fl,nl,hpl,hps,hv,hg4,hget,hfl⟩:=Fc h4
 dsimp only at hv hg4 hget
 subst hv
 have law:=uQ (top:=Ly) l' (fun p hp=>rab p (hpl.mem_iff.1 hp)) hps
 have hll:(Ch [] l').length≤a.length+b.length:=by have:=hpl.length_eq;simp at this;omega
 have h5:=gO (zh Zj Hb 6) (Ch [] l') H4 hg4 hget hfl (by omega)
 have hmem:∀ x,Nj x (Ch [] l')↔Nj x a∨Nj x b:=by
  intro x
  rw[law.2.1,←zt]
  unfold Nj
  constructor
  ·rintro⟨p,h,hx⟩;exact⟨p,hpl.mem_iff.1 h,hx⟩
  ·rintro⟨p,h,hx⟩;exact⟨p,hpl.mem_iff.2 h,hx⟩
 refine⟨Ch [] l',?_,law.1,hmem,hll⟩
 generalize Ch [] l'=u at *
 simp only[List.nil_append,List.length_nil,List.cons_append,List.length_cons,Nat.zero_add] at h1 h2 h3
 rw[List.set_cons_zero] at h3
 have c1:∀ args H,zh Zj Hb 8 1 args H=cj (zh Zj Hb 7) Ki args H:=fun _ _=>rfl
 have c24:∀ args H,zh Zj Hb 8 24 args H=cj (zh Zj Hb 7) yo args H:=fun _ _=>rfl
 have c3:∀ args H,zh Zj Hb 8 3 args H=cj (zh Zj Hb 7) Ck args H:=fun _ _=>rfl
 have c2:∀ args H,zh Zj Hb 7 2 args H=cj (zh Zj Hb 6) xd args H:=fun _ _=>rfl
 have hab:(a++b).length=a.length+b.length:=by simp
 rw[hab] at e4
 simp -implicitDefEqProofs only[Kl,gB,SP,WP,na,sevalprocAttr,Io,c1,h1,h2,h3,c24,e4,c3,Ck,c2,h5]
theorem dv (v:PV) (l:List (Int×Int)) (hv:Th 2 v (Ld l)) (hw:l.length * 16≤140737488355328) (hval:Pa Ly (-2) l=true):Fl [v]=some (.lit 2 (Ld l)):=by
 have h1:=Zl v l hv hw
 rw[← tJ] at h1
 have h2:=Ct (.lit 2 (Ld l)) l (.inr rfl) (by unfold maxLen;omega) Ly (by decide)
 rw[hval] at h2
 simp -implicitDefEqProofs only[Fl,SP,SA,SQ,sevalprocAttr,Mr,wg,Xb,h1,h2]
def Sf:Nat→List (Int×Int)→List (Int×Int)→List (Int×Int)
 |0,_,_=>[]
 |n+1,a,b=>match a,b with
  |p::a',q::b'=>(if (if q.1 > p.1 then q.1 else p.1)≤(if q.2 < p.2 then q.2 else p.2) then [((if q.1 > p.1 then q.1 else p.1),(if q.2 < p.2 then q.2 else p.2))] else [])++(if p.2 < q.2 then Sf n a' (q::b') else Sf n (p::a') b')
  |_,_=>[]
abbrev Aw (va vb:PV) (tk:Nat) (nl:Bool) (es:List PV):Tr:=((Tr.lf.set 5 (.uq tk nl 2 es)).set 1 (.pv vb)).set 0 (.pv va)
theorem Th.QV {v:PV} {p:PV} {es:List PV} (h:Th 2 v (p::es)):∀ H,sg H 2 (.pv v) (some 1) none=some (.pv (.lit 2 es)):=by
 intro H
 rcases h with⟨_,h⟩ | rfl
 ·cases h
 ·simp[sg]
  omega
theorem bK (A B:PV) (a b:List (Int×Int)) (hA:Th 2 A (Ld a)) (hB:Th 2 B (Ld b)) (hw:(a.length+b.length) * 16≤140737488355328):
 ∃ u,Vl [A,B]=some u∧Th 2 u (Ld (Sf (a.length+b.length) a b)):=by
 have hloop:Md (fun r=>∃ E H nl,r=(.exit 0,⟨E,H⟩)∧E.get 5= .uq 0 nl 2 (Ld (Sf (a.length+b.length) a b))∧(nl=true→Sf (a.length+b.length) a b=[]))
  (gb (fa (ta (Ca (fun _=>none) 8) mg) (ga 1 [0,1,5])) oa ⟨Aw A B 0 true [],[.tok 2 0 true]⟩):=by
  refine wa (Tp (g:=fa (ta (Ca (fun _=>none) 8) mg) (ga 1 [0,1,5]))
   (fun m t=>∃ va vb a' b' nl out,m=a'.length+b'.length∧Th 2 va (Ld a')∧Th 2 vb (Ld b')∧t=⟨Aw va vb 0 nl (Ld out),[.tok 2 out.length nl]⟩∧out.length+m≤a.length+b.length∧(nl=true→out=[])∧Sf (a.length+b.length) a b=out++Sf m a' b')
   oa (a.length+b.length) _ (by unfold oa;omega) ⟨A,B,a,b,true,[],rfl,hA,hB,rfl,by simp,fun _=>rfl,rfl⟩ ?_) (fun r h=>h.2)
  rintro m t ⟨va,vb,a',b',nl,out,rfl,ha,hb,rfl,hlen,hnl,hs⟩
  have la:=ha.len
  have lb:=hb.len
  simp only[Ld,List.length_map] at la lb
  cases a' with
  |nil=>
   have hs':Sf (a.length+b.length) a b=out:=by
    rw[hs];cases b' <;> simp[Sf]
   have z1:decide (((([]:List (Int×Int)).length:Nat):Int) > 0)=false:=by decide
   generalize hQ:LQ _ _ _=Q
   simp -implicitDefEqProofs only[SX,sevalprocAttr,mg,la,z1,Aw]
   subst hQ
   rw[hs']
   exact⟨_,_,nl,rfl,by simp[Tr.aa],hnl⟩
  |cons p a'=>
   have z1:decide ((((p::a').length:Nat):Int) > 0)=true:=Ga (by simp)
   cases b' with
   |nil=>
    have hs':Sf (a.length+b.length) a b=out:=by
     rw[hs];simp[Sf]
    have z2:decide (((([]:List (Int×Int)).length:Nat):Int) > 0)=false:=by decide
    generalize hQ:LQ _ _ _=Q
    have la':∀ H,Sb H 0 (.pv va)=some (a'.length+1):=la
    have z1':decide ((((a'.length+1):Nat):Int) > 0)=true:=z1
    have lb':∀ H,Sb H 0 (.pv vb)=some 0:=lb
    have z2':decide (((0:Nat):Int) > 0)=false:=z2
    simp -implicitDefEqProofs only[SX,sevalprocAttr,mg,la',lb',z1',z2',Aw]
    subst hQ
    rw[hs']
    exact⟨_,_,nl,rfl,by simp[Tr.aa],hnl⟩
   |cons q b'=>
    have la':∀ H,Sb H 0 (.pv va)=some (a'.length+1):=la
    have z1':decide ((((a'.length+1):Nat):Int) > 0)=true:=z1
    have lb':∀ H,Sb H 0 (.pv vb)=some (b'.length+1):=lb
    have z2':decide ((((b'.length+1):Nat):Int) > 0)=true:=Ga (by omega)
    have hva:va= .lit 2 (Ld (p::a')):=ha.lit (i:=0) (by simp)
    have hvb:vb= .lit 2 (Ld (q::b')):=hb.lit (i:=0) (by simp)
    have sa:=Th.QV ha
    have sb:=Th.QV hb
    have i1:∀ H,ua H 2 (.pv va) 0=some (.pv (.rp [i64 p.1,i64 p.2] 0)):=fun H=>by
     rw[hva];exact Sj H (i:=0) (l:=p::a') (by simp)
    have i2:∀ H,ua H 2 (.pv vb) 0=some (.pv (.rp [i64 q.1,i64 q.2] 0)):=fun H=>by
     rw[hvb];exact Sj H (i:=0) (l:=q::b') (by simp)
    have hap:=Fg (A:=[.tok 2 out.length nl]) (id:=0) (n:=out.length) (h:= .uq) (ag:=true) (nl:=nl) (sz:=2) (bytes:=16) (es:=Ld out) rfl (by simp) (by unfold xb;simp only[List.length_cons] at hlen;omega) (pr ((if q.1 > p.1 then q.1 else p.1),(if q.2 < p.2 then q.2 else p.2)))
    rw[List.set_cons_zero] at hap
    have hm:∀ n,Sf (n+1) (p::a') (q::b')=(if (if q.1 > p.1 then q.1 else p.1)≤(if q.2 < p.2 then q.2 else p.2) then [((if q.1 > p.1 then q.1 else p.1),(if q.2 < p.2 then q.2 else p.2))] else [])++(if p.2 < q.2 then Sf n a' (q::b') else Sf n (p::a') b'):=fun n=>rfl
    have hmn:(p::a').length+(q::b').length=(a'.length+b'.length+1)+1:=by simp;omega
    have l0:∀ H (x y:PV),ya H false 1 (.pv (.rp [x,y] 0))=some (.pv x):=fun H x y=>rfl
    have l1:∀ H (x y:PV),ya H false 1 (.pv (.rp [x,y] 1))=some (.pv y):=fun H x y=>rfl
    have p0:∀ H (x y:PV),place H 0 (.pv (.rp [x,y] 0))=some (.pv (.rp [x,y] 0)):=fun H x y=>rfl
    have p1:∀ H (x y:PV),place H 1 (.pv (.rp [x,y] 0))=some (.pv (.rp [x,y] 1)):=fun H x y=>rfl
    rw[hmn] at hlen
    rw[hmn,hm] at hs
    generalize hlo:(if q.1 > p.1 then q.1 else p.1)=lo at *
    generalize hhi:(if q.2 < p.2 then q.2 else p.2)=hi at *
    clear hva hvb
    have hprs:Ld (out++[(lo,hi)])=Ld out++[pr (lo,hi)]:=by simp[Ld]
    generalize hQ:LQ _ _ _=Q
    by_cases c1:lo≤hi
    ·have d1:=Ga c1
     rw[if_pos c1] at hs
     by_cases c2:p.2 < q.2
     ·have d2:=Ga c2
      rw[if_pos c2] at hs
      simp -implicitDefEqProofs only[SP,WP,na,sevalprocAttr,mg,la',lb',z1',z2',i1,i2,l0,l1,p0,p1,Jq,ue,hlo,hhi,hap,d1,d2,sa,sb,ga,za,AV.cut,pa,qa,Aw]
      subst hQ
      exact⟨a'.length+b'.length+1,by rw[hmn];omega,_,vb,a',q::b',false,out++[(lo,hi)],by simp;omega,.inr rfl,hb,by rw[hprs];simp[Aw],by simp;omega,by simp,by rw[hs,List.append_assoc]⟩
     ·have d2:=Ia c2
      rw[if_neg c2] at hs
      simp -implicitDefEqProofs only[SP,WP,na,sevalprocAttr,mg,la',lb',z1',z2',i1,i2,l0,l1,p0,p1,Jq,ue,hlo,hhi,hap,d1,d2,sa,sb,ga,za,AV.cut,pa,qa,Aw]
      subst hQ
      exact⟨a'.length+b'.length+1,by rw[hmn];omega,va,_,p::a',b',false,out++[(lo,hi)],by simp;omega,ha,.inr rfl,by rw[hprs];simp[Aw],by simp;omega,by simp,by rw[hs,List.append_assoc]⟩
    ·have d1:=Ia c1
     rw[if_neg c1,List.nil_append] at hs
     by_cases c2:p.2 < q.2
     ·have d2:=Ga c2
      rw[if_pos c2] at hs
      simp -implicitDefEqProofs only[SP,WP,na,sevalprocAttr,mg,la',lb',z1',z2',i1,i2,l0,l1,p0,p1,Jq,ue,hlo,hhi,d1,d2,sa,sb,ga,za,AV.cut,pa,qa,Aw]
      subst hQ
      exact⟨a'.length+b'.length+1,by rw[hmn];omega,_,vb,a',q::b',nl,out,by simp;omega,.inr rfl,hb,rfl,by omega,hnl,hs⟩
     ·have d2:=Ia c2
      rw[if_neg c2] at hs
      simp -implicitDefEqProofs only[SP,WP,na,sevalprocAttr,mg,la',lb',z1',z2',i1,i2,l0,l1,p0,p1,Jq,ue,hlo,hhi,d1,d2,sa,sb,ga,za,AV.cut,pa,qa,Aw]
      subst hQ
      exact⟨a'.length+b'.length+1,by rw[hmn];omega,va,_,p::a',b',nl,out,by simp;omega,ha,.inr rfl,rfl,by omega,hnl,hs⟩
 obtain⟨r,h1,E,H,nl,rfl,hE,hnl⟩:=Fc hloop
 simp only[Aw,Ld,List.map_nil] at h1
 generalize Sf (a.length+b.length) a b=u at *
 have hz:(0 < 2)=True:=by simp
 cases nl with
 |true=>
  refine⟨.ma,?_,.inl ⟨rfl,by rw[hnl rfl];rfl⟩⟩
  simp -implicitDefEqProofs only[Vl,SX,sevalprocAttr,Yq,qb,Ke,hz,ga,za,AV.cut,pa,qa,h1,hE]
 |false=>
  refine⟨.lit 2 (Ld u),?_,.inr rfl⟩
  simp -implicitDefEqProofs only[Vl,SX,sevalprocAttr,Yq,qb,Ke,hz,ga,za,AV.cut,pa,qa,h1,hE]
end Go.AM.B1
namespace Go.AM.B1
open Go.AM Go.AM.So
theorem qD {top:Int}:∀ {l:List (Int×Int)} {last:Int},Pa top last l=true→∀ p∈l,last < p.1 - 1
 |q::l,last,h,p,hp=>by
  obtain⟨h1,h2,h3,h4,h5⟩:=ie h
  rcases List.mem_cons.1 hp with rfl | hp
  ·omega
  ·have:=qD h5 p hp;omega
theorem Qn {top last x:Int} {l:List (Int×Int)} (h:Pa top last l=true) (hx:Nj x l):last+1 < x:=by
 obtain⟨p,hp,h1,h2⟩:=hx
 have:=qD h p hp;omega
theorem Xs {top:Int}:∀ (n:Nat) (a b:List (Int×Int)) (la lb:Int),Pa top la a=true→Pa top lb b=true→a.length+b.length≤n→
 (∀ x,Nj x (Sf n a b)↔Nj x a∧Nj x b)∧∀ p∈Sf n a b,p.1≤p.2
 |0,a,b,la,lb,_,_,hn=>by
  have:a=[]:=List.eq_nil_of_length_eq_zero (by omega)
  subst this
  exact⟨fun x=>by simp[Sf,Om],by simp[Sf]⟩
 |n+1,[],b,la,lb,_,_,hn=>⟨fun x=>by simp[Sf,Om],by simp[Sf]⟩
 |n+1,p::a,[],la,lb,_,_,hn=>⟨fun x=>by simp[Sf,Om],by simp[Sf]⟩
 |n+1,p::a,q::b,la,lb,ha,hb,hn=>by
  obtain⟨a1,a2,a3,a4,a5⟩:=ie ha
  obtain⟨b1,b2,b3,b4,b5⟩:=ie hb
  rw[Sf]
  have hlo:p.1≤(if q.1 > p.1 then q.1 else p.1)∧q.1≤(if q.1 > p.1 then q.1 else p.1)∧((if q.1 > p.1 then q.1 else p.1)=p.1∨(if q.1 > p.1 then q.1 else p.1)=q.1):=by split <;> omega
  have hhi:(if q.2 < p.2 then q.2 else p.2)≤p.2∧(if q.2 < p.2 then q.2 else p.2)≤q.2∧((if q.2 < p.2 then q.2 else p.2)=p.2∨(if q.2 < p.2 then q.2 else p.2)=q.2):=by split <;> omega
  generalize (if q.1 > p.1 then q.1 else p.1)=lo at *
  generalize (if q.2 < p.2 then q.2 else p.2)=hi at *
  have hpc:∀ x,Nj x (if lo≤hi then [(lo,hi)] else [])↔(p.1≤x∧x≤p.2)∧(q.1≤x∧x≤q.2):=by
   intro x
   by_cases h:lo≤hi
   ·rw[if_pos h,eo];simp only;omega
   ·rw[if_neg h]
    simp only[Om,false_iff]
    omega
  have hpl:∀ r∈(if lo≤hi then [(lo,hi)] else []),r.1≤r.2:=by
   intro r hr
   by_cases h:lo≤hi
   ·rw[if_pos h] at hr;simp at hr;subst hr;exact h
   ·rw[if_neg h] at hr;simp at hr
  by_cases c:p.2 < q.2
  ·rw[if_pos c]
   have ih:=Xs n a (q::b) p.2 lb a5 hb (by simp at hn ⊢;omega)
   refine⟨fun x=> ?_,fun r hr=> ?_⟩
   ·rw[zt,hpc,ih.1,Yl,Yl]
    have hfar:Nj x b→q.2+1 < x:=Qn b5
    constructor
    ·rintro (⟨h1,h2⟩ | ⟨h1,h2⟩)
     ·exact⟨.inl h1,.inl h2⟩
     ·exact⟨.inr h1,h2⟩
    ·rintro⟨h1 | h1,h2⟩
     ·rcases h2 with h2 | h2
      ·exact .inl ⟨h1,h2⟩
      ·have:=hfar h2;omega
     ·exact .inr ⟨h1,h2⟩
   ·rcases List.mem_append.1 hr with h | h
    ·exact hpl r h
    ·exact ih.2 r h
  ·rw[if_neg c]
   have ih:=Xs n (p::a) b la q.2 ha b5 (by simp at hn ⊢;omega)
   refine⟨fun x=> ?_,fun r hr=> ?_⟩
   ·rw[zt,hpc,ih.1,Yl,Yl]
    have hfar:Nj x a→p.2+1 < x:=Qn a5
    constructor
    ·rintro (⟨h1,h2⟩ | ⟨h1,h2⟩)
     ·exact⟨.inl h1,.inl h2⟩
     ·exact⟨h1,.inr h2⟩
    ·rintro⟨h1,h2 | h2⟩
     ·rcases h1 with h1 | h1
      ·exact .inl ⟨h1,h2⟩
      ·have:=hfar h1;omega
     ·exact .inr ⟨h1,h2⟩
   ·rcases List.mem_append.1 hr with h | h
    ·exact hpl r h
    ·exact ih.2 r h
theorem SL {top:Int} {a b:List (Int×Int)} (ha:Pa top (-2) a=true) (hb:Pa top (-2) b=true):Sf (a.length+b.length) a b≠[]↔∃ x,Nj x a∧Nj x b:=by
 have h:=Xs (a.length+b.length) a b (-2) (-2) ha hb (Nat.le_refl _)
 constructor
 ·intro hne
  obtain⟨p,r,hpr⟩:=List.exists_cons_of_ne_nil hne
  have hp:p∈Sf (a.length+b.length) a b:=by rw[hpr];simp
  exact⟨p.1,(h.1 p.1).1 ⟨p,hp,Int.le_refl _,h.2 p hp⟩⟩
 ·rintro⟨x,hx⟩ he
  have:=(h.1 x).2 hx
  rw[he] at this
  exact Om x this
theorem gx:∀ (n:Nat) (a b:List (Int×Int)),(Sf n a b).length≤n
 |0,a,b=>by simp[Sf]
 |n+1,[],b=>by simp[Sf]
 |n+1,p::a,[]=>by simp[Sf]
 |n+1,p::a,q::b=>by
  rw[Sf,List.length_append]
  generalize (if q.1 > p.1 then q.1 else p.1)=lo
  generalize (if q.2 < p.2 then q.2 else p.2)=hi
  have h1:(if lo≤hi then [(lo,hi)] else []).length≤1:=by
   by_cases h:lo≤hi
   ·rw[if_pos h];simp
   ·rw[if_neg h];simp
  by_cases c:p.2 < q.2
  ·rw[if_pos c];have:=gx n a (q::b);omega
  ·rw[if_neg c];have:=gx n (p::a) b;omega
theorem pA (A B:PV) (a b:List (Int×Int)) (hA:Th 2 A (Ld a)) (hB:Th 2 B (Ld b)) (hva:Pa Ly (-2) a=true) (hvb:Pa Ly (-2) b=true) (hw:(a.length+b.length) * 16≤140737488355328):
 Km [A,B]=some (.lit 2 (Ld (Sf (a.length+b.length) a b))):=by
 have h1:=dv A a hA (by omega) hva
 have h2:=dv B b hB (by omega) hvb
 obtain⟨u,h3,h4⟩:=bK (.lit 2 (Ld a)) (.lit 2 (Ld b)) a b (.inr rfl) (.inr rfl) hw
 have h5:=Zl u _ h4 (by have:=gx (a.length+b.length) a b;omega)
 rw[← nH] at h5
 have h6:xm [u]=some (.lit 2 (Ld (Sf (a.length+b.length) a b))):=by
  simp -implicitDefEqProofs only[xm,SP,SA,SQ,sevalprocAttr,tq,wg,Xb,h5]
 simp -implicitDefEqProofs only[Km,SP,SA,SQ,sevalprocAttr,Bq,wg,Xb,h1,h2,h3,h6]
theorem Jr (v:PV) (l:List (Int×Int)) (hv:Th 2 v (Ld l)) (hw:l.length * 16≤140737488355328) (hval:Pa 255 (-2) l=true):Tg [v]=some (.lit 2 (Ld l)):=by
 have h1:=Zl v l hv hw
 have h2:=Ct (.lit 2 (Ld l)) l (.inr rfl) (by unfold maxLen;omega) 255 (by decide)
 rw[hval] at h2
 simp -implicitDefEqProofs only[Tg,SP,SA,SQ,sevalprocAttr,Zn,wg,Xb,h1,h2]
theorem ZC (A B:PV) (a b:List (Int×Int)) (hA:Th 2 A (Ld a)) (hB:Th 2 B (Ld b)) (hva:Pa 255 (-2) a=true) (hvb:Pa 255 (-2) b=true) (hw:(a.length+b.length) * 16≤140737488355328):
 Gp [A,B]=some (.lit 2 (Ld (Sf (a.length+b.length) a b))):=by
 have h1:=Jr A a hA (by omega) hva
 have h2:=Jr B b hB (by omega) hvb
 obtain⟨u,h3,h4⟩:=bK (.lit 2 (Ld a)) (.lit 2 (Ld b)) a b (.inr rfl) (.inr rfl) hw
 have h5:=Zl u _ h4 (by have:=gx (a.length+b.length) a b;omega)
 rw[← UI] at h5
 have h6:Ep [u]=some (.lit 2 (Ld (Sf (a.length+b.length) a b))):=by
  simp -implicitDefEqProofs only[Ep,SP,SA,SQ,sevalprocAttr,Hu,wg,Xb,h5]
 simp -implicitDefEqProofs only[Gp,SP,SA,SQ,sevalprocAttr,Uu,wg,Xb,h1,h2,h3,h6]
theorem AA (n:Int) (l:List (Int×Int)):Ic n l=n+Ic 0 l:=by
 induction l generalizing n with
 |nil=>simp[Ic]
 |cons p l ih=>rw[Ic,Ic,ih,ih (0+(p.2 - p.1+1))];omega
theorem vr {top:Int}:∀ {l:List (Int×Int)} {last:Int},Pa top last l=true→0≤Ic 0 l∧(l≠[]→1≤Ic 0 l∧Ic 0 l≤top - last - 1∧Ic 0 l≤top+1)∧Ic 0 l≤max 0 (top+1)
 | [],last,_=>⟨by simp[Ic],fun h=>absurd rfl h,by simp[Ic];omega⟩
 |p::l,last,h=>by
  obtain⟨h1,h2,h3,h4,h5⟩:=ie h
  have ih:=vr h5
  rw[Ic,AA]
  have key:l≠[]∨l=[]:=by cases l <;> simp
  rcases key with hl | hl
  ·have:=ih.2.1 hl
   exact⟨by omega,fun _=>⟨by omega,by omega,by omega⟩,by omega⟩
  ·subst hl
   simp only[Ic]
   exact⟨by omega,fun _=>⟨by omega,by omega,by omega⟩,by omega⟩
theorem fq {top:Int}:∀ {l:List (Int×Int)} {last:Int},Pa top last l=true→(l.length:Int)≤max 0 (top - last)
 | [],last,_=>by simp;omega
 |p::l,last,h=>by
  obtain⟨h1,h2,h3,h4,h5⟩:=ie h
  have:=fq h5
  simp only[List.length_cons]
  omega
theorem Sv (v:PV) (l:List (Int×Int)) (hv:Th 2 v (Ld l)) (hw:l.length * 16≤140737488355328) (hval:Pa 255 (-2) l=true):Cm [v]=some (i64 (Ic 0 l)):=by
 have h1:=Jr v l hv hw hval
 have h2:=TS (.lit 2 (Ld l)) l (.inr rfl) (by unfold maxLen;omega) (top:=255) (by decide) hval
 simp -implicitDefEqProofs only[Cm,SP,SA,SQ,sevalprocAttr,Nu,wg,Xb,h1,h2]
end Go.AM.B1
