/- What functions of the program compute. -/
import Derived.Test.YtdglpnpkgngcdaaGreatP2
import Derived.Test.YtdglpnpkgngcdaaGreatP1
import Derived.Test.YtdglpnpkgngcdaaGreatF3
set_option linter.unusedVariables false
namespace Go.AM.B1
open Go.AM
def Jo:uf:=⟨1,[.tmp 2],(jQ [jb 2 false] (jr [Cv 3 0,Cv 4 0,jB 5 .neq 3 4,Cv 2 5]))⟩
theorem bB:vc P fo 107 Jo:=fM Go.Proofs.Tryz.func107 dN
def Ij:=Zb (fun _=>none) Jo
theorem zv:Ma P 107 Ij:=Ia Ya bB
def Fi:uf:=⟨2,[.tmp 4],(jQ [jk 4 0] (jQ [Cv 7 0,jp 8 Ij 7,Cv 5 8] (jQ [Cv 9 1,jp 10 Ij 9,Cv 6 10] (.seq (jQ [Cv 11 5] (jC 11 (.seq (jQ [Cv 12 6] (jC 12 (jr [jk 4 0]) .skip)) (jr [jk 4 (-1)])) .skip)) (.seq (jQ [Cv 13 6] (jC 13 (jr [jk 4 1]) .skip)) (.seq (jQ [Cv 14 0,Cv 15 1,jB 16 .lss 14 15] (jC 16 (jr [jk 4 (-1)]) .skip)) (.seq (jQ [Cv 17 0,Cv 18 1,jB 19 .gtr 17 18] (jC 19 (jr [jk 4 1]) .skip)) (jr [jk 4 0]))))))))⟩
theorem Qy:vc P fo 70 Fi:=fM Go.Proofs.Tryz.func70 (dC zv (dC zv dN))
def lh:=Zb (fun _=>none) Fi
theorem iz:Ma P 70 lh:=Ia Ya Qy
def Mg:uf:=⟨3,[.tmp 5],(jQ [jb 5 false] (jr [Cv 6 0,Cv 7 1,jB 8 .lss 6 7,Cv 9 8,jT 10 9 (.kf 0 2),jT 11 9 (.kl 1 10),jT 12 9 (.km 0),JT 13 9 (.ki 2 11 12),jT 14 9 (.kf 0 13),jT 15 9 (.kl 1 14),JT 16 9 (.kn 0 15),jT 17 9 (.kf 0 2),jT 18 9 (.kl 1 17),jT 19 9 (.km 1),JT 20 9 (.ki 2 18 19),jT 21 9 (.kf 0 20),jT 22 9 (.kl 1 21),JT 23 9 (.kn 0 22),jT 24 9 (.kB .eql 16 23),ja 25 9 24,Cv 5 25]))⟩
theorem Fz:vc P fo 100 Mg:=fM Go.Proofs.Tryz.func100 dN
def Gq:uf:=⟨1,[.cell 2 true 3,.tmp 3],(jQ [Co 1 (.box 1 (.t 0)),Co 2 (.alloc [(.bool false),(.int .i64 0),(.int .i64 0)]),jk 3 0] (jr [jL 4 1 1,Co 5 (.bI 37 [(.t 1)]),Co 6 (.ch 25 [(.t 4),(.t 5)]),jx 7 0 6,jx 8 1 6,jS 3 2 7,Cv 3 8]))⟩
theorem DC:vc P fo 64 Gq:=fM Go.Proofs.Tryz.func64 dN
def gj:Nat→Option uf
 |37=>some Mg
 |25=>some lg
 |_=>none
theorem mB:uk P fo gj:=by
 intro ix af h
 unfold gj at h
 split at h
 ·injection h with h;subst h;exact Fz
 ·injection h with h;subst h;exact tv
 ·cases h
def fh:=Zb gj Gq
theorem bF:Ma P 64 fh:=Ia mB DC
def Vu:uf:=⟨2,[.tmp 4],(jQ [jR 2 1 0,jR 3 1 1,jc 4 .xw] (jr [Co 5 (.bI 35 [(.t 2),(.t 3)]),Cv 4 5]))⟩
theorem kJ:vc P fo 135 Vu:=fM Go.Proofs.Tryz.func135 dN
def dm:uf:=⟨2,[.tmp 4],(jQ [jc 4 .xw] (jr [Cv 5 0,jp 6 Zg 5,Cv 7 1,Co 8 (.ch 38 [(.t 6),(.t 7)]),Cv 4 8]))⟩
theorem WH:vc P fo 104 dm:=fM Go.Proofs.Tryz.func104 (dC xo dN)
def Kk:Oa:=(.block 3 (jQ [jl 41 1 6,jl 42 1 6,jz 43 42,jf 44 0 43,jl 45 1 44,Cv 46 7,Co 47 (.conv .u8 (.t 46)),Co 48 (.Bb .lit 1 false 1 [(.int .u8 0)] [(0,(.t 47))]),Co 49 (.ku 1 false 1 45 48),jz 50 41,jf 51 0 50,jS 1 51 49] (.region [jl 52 1 6,Cv 53 7,jl 54 1 6,jz 55 54,jf 56 0 55,jl 57 1 56,jn 58 0 57,Co 59 (.conv .u16 (.t 58)),jz 60 52,jf 61 1 60,Co 62 (.kA 256 1 61 53),jS 1 62 59])))
def Mk:Oa:=(.seq (jQ [Cv 20 5,jK 21 .geq 20 0] (jX 21 0)) (.seq (.block 1 (jQ [Cv 24 3,jz 25 24,jf 26 0 25,jl 27 1 26,Cv 28 5,ji 29 258 27 28,Co 6 (.alloc [.Ye]),jS 1 6 29] (jQ [jl 30 1 6,Cv 31 4,jz 32 30,jf 33 257 32,jS 1 33 31] (.seq (jQ [Jf 34 0 1,Jl 35 1 34,Cv 36 5,ji 37 1 35 36,jl 38 1 37,Co 39 (.ch 39 [(.t 38),(.c (.int .i64 0))])] (.block 2 (.range 35 Jk (.t 39) [40] [(7,40)] Kk))) (.region [Cv 63 4,jl 64 1 6,jz 65 64,jf 66 0 65,jl 67 1 66,jn 68 0 67,jB 69 .mul 63 68,Cv 4 69]))))) (.region [Cv 22 5,jK 23 .sub 22 1,Cv 5 23])))
def tr:uf:=⟨1,[.tmp 2],(jQ [jR 1 2 0,jc 2 .Ye] (jQ [Jf 8 0 1,Jl 9 1 8,jn 10 0 9,Co 11 (.Ug .own 258 true ([.fa]++List.replicate 256 (.int .u16 0)++[(.int .i64 0)]) 544 (.t 10) (.t 10)),Co 12 (.build [.fa] [(0,1,(.t 11))]),Co 13 (.box 1 (.t 12)),Cv 3 13] (jQ [jk 4 1] (.seq (jQ [Cv 14 3,jz 15 14,jf 16 0 15,jl 17 1 16,jn 18 0 17,jK 19 .sub 18 1,Cv 5 19] (.block 0 (.qp [1,2,3,4,5] Mk))) (jr [Cv 70 3,Cv 2 70])))))⟩
theorem JH:∀ d∈Pf tr.body,Lr P (fo d.1) d.2:=by
 intro d hd
 obtain rfl:d=(35,Jk):=List.mem_singleton.1 hd
 exact Go.Proofs.BS
theorem aI:vc P fo 67 tr:=YY Go.Proofs.Tryz.func67 dN (JH)
def eh:Nat→Option uf
 |39=>some dm
 |38=>some Vu
 |_=>none
theorem FF:uk P fo eh:=by
 intro ix af h
 unfold eh at h
 split at h
 ·injection h with h;subst h;exact WH
 ·injection h with h;subst h;exact kJ
 ·cases h
def Ar:=Zb eh tr
theorem wJ:Ma P 67 Ar:=Ia FF aI
def Yh:Oa:=(jQ [jB 49 .lss 48 47] (.seq (jX 49 0) (.seq (.block 1 (jQ [Cv 50 48,ji 51 2 46 48,jL 52 2 51,Co 10 (.alloc [.fa,(.int .i64 0)]),Cv 9 50,jS 2 10 52] (jQ [Cv 53 8,Cv 54 8,jz 55 54,jf 56 4 55,jl 57 1 56,jf 58 1 10,jl 59 1 58,jf 60 1 10,jl 61 1 60,jL 62 2 10,jp 63 On 62,jB 64 .add 61 63,jK 65 .sub 64 1,Cv 66 9,Co 67 (.build [(.int .i64 0),(.int .i64 0),(.int .i64 0)] [(0,1,(.t 59)),(1,1,(.t 65)),(2,1,(.t 66))]),Co 68 (.Bb .lit 3 true 1 [(.int .i64 0),(.int .i64 0),(.int .i64 0)] [(0,(.t 67))]),Co 69 (.append true .own 3 true 24 (.t 57) (.t 68)),jz 70 53,jf 71 4 70,jS 1 71 69] (jQ [Cv 72 8,Cv 73 8,jz 74 73,jf 75 5 74,jl 76 1 75,jf 77 0 10,jl 78 1 77,jn 79 0 78,Co 80 (.mx [(.t 76),(.t 79)]),jz 81 72,jf 82 5 81,jS 1 82 80] (.region [Cv 83 8,Cv 84 8,jz 85 84,jf 86 3 85,jl 87 1 86,jL 88 2 10,jp 89 Ar 88,Co 90 (.Bb .lit 1 false 1 [.Ye] [(0,(.t 89))]),Co 91 (.ku 1 false 8 87 90),jz 92 83,jf 93 3 92,jS 1 93 91]))))) (.region [jK 94 .add 48 1,Cv 48 94]))))
def Cj:Oa:=(jQ [jK 109 .lss 108 256] (.seq (jX 109 4) (.seq (.block 5 (jQ [Cv 110 108,Cv 14 110] (.region [Cv 111 14,Co 112 (.kA 256 1 13 111),Ce (.store 1 (.t 112) (.c (.int .i8 (-2))))]))) (.region [jK 113 .add 108 1,Cv 108 113]))))
def wj:Oa:=(.seq (jQ [Cv 122 17,jf 123 1 16,jl 124 1 123,jB 125 .leq 122 124] (jX 125 8)) (.seq (.block 9 (.region [Cv 128 17,jf 129 2 16,jl 130 1 129,Co 131 (.conv .i8 (.t 130)),Co 132 (.kA 256 1 13 128),jS 1 132 131])) (.region [Cv 126 17,jK 127 .add 126 1,Cv 17 127])))
def uj:Oa:=(jQ [jB 117 .lss 116 115] (.seq (jX 117 6) (.seq (.block 7 (jQ [ji 118 3 114 116,jL 119 3 118,Co 16 (.alloc [(.int .i64 0),(.int .i64 0),(.int .i64 0)]),jS 3 16 119] (jQ [jf 120 0 16,jl 121 1 120,Cv 17 121] (.block 8 (.loop [8,13,16,17,101,102,103,114,115,116] wj))))) (.region [jK 133 .add 116 1,Cv 116 133]))))
def ni:Oa:=(jQ [jB 104 .lss 103 102] (.seq (jX 104 2) (.seq (.block 3 (jQ [ji 105 1 101 103,jl 106 1 105,Cv 12 106] (jQ [Co 107 (.build (List.replicate 256 (.int .i8 0)) []),Co 13 (.alloc (List.replicate 256 (.int .i8 0))),jS 256 13 107] (.seq (jQ [jk 108 0] (.block 4 (.loop [8,12,13,101,102,103,108] Cj))) (.seq (jQ [Cv 114 12,jn 115 0 114,jk 116 0] (.block 6 (.loop [8,13,101,102,103,114,115,116] uj))) (.region [Cv 134 8,Cv 135 8,jz 136 135,jf 137 2 136,jl 138 1 137,jL 139 256 13,Co 140 (.Bb .lit 256 true 1 (List.replicate 256 (.int .i8 0)) [(0,(.t 139))]),Co 141 (.ku 256 true 256 138 140),jz 142 134,jf 143 2 142,jS 1 143 141])))))) (.region [jK 144 .add 103 1,Cv 103 144]))))
def Ci:uf:=⟨1,[.tmp 2,.tmp 3],(jQ [jR 1 1 0,jc 2 .Ye,jk 3 0] (jQ [JL 19 1 1,jp 20 Ic 19,Cv 18 20,jx 21 0 18,jx 22 1 18,Co 4 (.alloc [.fa]),jS 1 4 21,Cv 5 22] (.seq (jQ [Cv 23 5,jK 24 .eql 23 0,Cv 25 24,jF 26 25 (.km 5),jF 27 25 (.kK .eql 26 130),jo 28 25 27] (jC 28 (jQ [JL 30 1 1,jp 31 fh 30,Cv 29 31,jx 32 0 29,jx 33 1 29,Co 6 (.alloc [(.bool false),(.int .i64 0),(.int .i64 0)]),jS 3 6 32,Cv 7 33] (jQ [jf 34 0 6,jl 35 1 34,jt 36 35] (jC 36 (.region [jk 5 111]) .skip))) .skip)) (.seq (jQ [Cv 37 5,jK 38 .neq 37 0] (jC 38 (jr [Cv 39 5,jc 2 .Ye,Cv 3 39]) .skip)) (jQ [JL 40 1 1,jp 41 Yi 40,jL 42 1 4,Co 43 (.build [.fa,.fa,.fa,.fa,.fa,(.int .i64 0)] [(0,1,(.t 41)),(1,1,(.t 42))]),Co 44 (.box 6 (.t 43)),Cv 8 44] (.ghost (.fw 8 2 256) (.ghost (.fw 8 3 1) (.ghost (.qI 8 4 3 true) (.seq (jQ [Jf 45 0 1,Jl 46 1 45,jn 47 0 46,jk 48 0] (.block 0 (.loop [4,8,46,47,48] Yh))) (jQ [Cv 95 8,jz 96 95,jf 97 4 96,jl 98 1 97,Co 99 (.ch 34 [(.t 98),(.f 36)])] (.seq (jQ [jf 100 0 4,jl 101 1 100,jn 102 0 101,jk 103 0] (.block 2 (.loop [8,101,102,103] ni))) (jr [Cv 145 8,Cv 2 145,jk 3 0]))))))))))))⟩
theorem WA:vc P fo 16 Ci:=fM Go.Proofs.Tryz.func16 (dC EI (dC bF (dC dy (dC GF (dC wJ dN)))))
def Zq:Ta:=fun ix args H=>if ix=34 then mz 3 0 36 args H else none
def Eb:=FB Zq (fun _=>none) Ci
theorem yv:Ma P 16 Eb:=mL Ya (fL (fo:=fo) (s:=34) (g:=36) Go.Proofs.NU) WA
def xb:Oa:=(.seq (jQ [Cv 15 9,Cv 16 10,jB 17 .lss 15 16] (jX 17 0)) (.block 1 (jQ [Cv 18 9,Cv 19 10,jB 20 .add 18 19,Co 21 (.conv .u64 (.t 20)),Co 22 (.bin .shr (.t 21) (.c (.int .u64 1))),Co 23 (.conv .i64 (.t 22)),Cv 11 23] (jQ [Cv 24 2,Cv 25 0,Cv 26 11,ji 27 3 25 26,jL 28 3 27,Cv 29 1,Co 30 (.NB (.t 24) [(.t 28),(.t 29)]),jK 31 .lss 30 0] (jC 31 (.region [Cv 32 11,jK 33 .add 32 1,Cv 9 33]) (.region [Cv 34 11,Cv 10 34]))))))
def Ra:uf:=⟨3,[.tmp 6,.tmp 7],(jQ [jk 6 0,jb 7 false] (jQ [Cv 12 0,jn 13 0 12,Cv 8 13] (jQ [Cv 14 8,jk 9 0,Cv 10 14] (.seq (.block 0 (.loop [0,1,2,8,9,10] xb)) (jr [Cv 35 9,Cv 36 9,Cv 37 8,jB 38 .lss 36 37,Cv 39 38,jT 40 39 (.km 2),jT 41 39 (.km 0),jT 42 39 (.km 9),jT 43 39 (.ki 3 41 42),jT 44 39 (.kL 3 43),jT 45 39 (.km 1),jT 46 39 (.NB (.t 40) [(.t 44),(.t 45)]),jT 47 39 (.kK .eql 46 0),ja 48 39 47,Cv 6 35,Cv 7 48])))))⟩
theorem Wi:vc P fo 113 Ra:=fM Go.Proofs.Tryz.func113 dN
def xh:uf:=⟨2,[.tmp 4],(jQ [jR 2 3 0,jk 4 0] (jr [Jf 5 0 2,Jl 6 1 5,Cv 7 1,jq 8 lh 6 7,Cv 4 8]))⟩
theorem jw:vc P fo 114 xh:=fM Go.Proofs.Tryz.func114 (dC iz dN)
def jg:uf:=⟨2,[.cell 4 true 3,.tmp 5],(jQ [Co 4 (.alloc [(.int .i64 0),(.int .i64 0),(.int .i64 0)]),jb 5 false] (.seq (jQ [Cv 8 0,Co 9 (.kE 1 false 8)] (jC 9 (jr [Co 10 (.build [(.int .i64 0),(.int .i64 0),(.int .i64 0)] []),jS 3 4 10,jb 5 false]) .skip)) (jQ [Cv 12 0,jz 13 12,jf 14 4 13,jl 15 1 14,Cv 16 1,Co 17 (.ch 40 [(.t 15),(.t 16),(.f 41)]),Cv 11 17,jx 18 0 11,jx 19 1 11,Cv 6 18,Cv 7 19] (.seq (jQ [Cv 20 7,jt 21 20] (jC 21 (.region [Cv 22 6,jK 23 .sub 22 1,Cv 6 23]) .skip)) (.seq (jQ [Cv 24 6,jK 25 .lss 24 0,Cv 26 25,jF 27 26 (.km 1),jF 28 26 (.km 0),jF 29 26 (.kz 28),jF 30 26 (.kf 4 29),jF 31 26 (.kl 1 30),jF 32 26 (.km 6),jF 33 26 (.ki 3 31 32),jF 34 26 (.kf 1 33),jF 35 26 (.kl 1 34),jF 36 26 (.kB .gtr 27 35),jo 37 26 36] (jC 37 (jr [Co 38 (.build [(.int .i64 0),(.int .i64 0),(.int .i64 0)] []),jS 3 4 38,jb 5 false]) .skip)) (jr [Cv 39 0,jz 40 39,jf 41 4 40,jl 42 1 41,Cv 43 6,ji 44 3 42 43,jL 45 3 44,jS 3 4 45,jb 5 true]))))))⟩
theorem ny:vc P fo 78 jg:=fM Go.Proofs.Tryz.func78 dN
def ud:Nat→Option uf
 |40=>some Ra
 |41=>some xh
 |_=>none
theorem Nx:uk P fo ud:=by
 intro ix af h
 unfold ud at h
 split at h
 ·injection h with h;subst h;exact Wi
 ·injection h with h;subst h;exact jw
 ·cases h
def Td:=Zb ud jg
theorem Dz:Ma P 78 Td:=Ia Nx ny
def Kf:Oa:=(jQ [jB 20 .lss 19 18] (.seq (jX 20 0) (.seq (.block 1 (jQ [Cv 21 19,Cv 6 21] (jQ [Cv 22 0,jz 23 22,jf 24 0 23,jl 25 1 24,Cv 26 6,ji 27 258 25 26,Cv 7 27] (jQ [Cv 28 5,Cv 29 7,jz 30 29,jf 31 0 30,jl 32 1 31,Cv 33 1,Cv 34 7,jz 35 34,jf 36 257 35,jl 37 1 36,jB 38 .quo 33 37,Ji 39 1 32 38,Jl 40 1 39,Co 41 (.Bb .lit 1 false 1 [(.int .u8 0)] [(0,(.t 40))]),Co 42 (.ku 1 false 1 28 41),Cv 5 42] (.region [Cv 43 1,Cv 44 7,jz 45 44,jf 46 257 45,jl 47 1 46,jB 48 .rem 43 47,Cv 1 48]))))) (.region [jK 49 .add 19 1,Cv 19 49]))))
def Yj:uf:=⟨2,[.tmp 4],(jQ [jc 4 .fa] (jQ [Cv 8 0,jz 9 8,jf 10 0 9,jl 11 1 10,jn 12 0 11,Co 13 (.Ug .uq 1 false [(.int .u8 0)] 1 (.c (.int .i64 0)) (.t 12)),Cv 5 13] (.seq (jQ [Cv 14 0,jz 15 14,jf 16 0 15,jl 17 1 16,jn 18 0 17,jk 19 0] (.block 0 (.loop [0,1,5,18,19] Kf))) (jr [Cv 50 5,Cv 4 50]))))⟩
theorem cv:vc P fo 79 Yj:=fM Go.Proofs.Tryz.func79 dN
def ui:=Zb (fun _=>none) Yj
theorem Iv:Ma P 79 ui:=Ia Ya cv
def Ki:uf:=⟨2,[.tmp 4,.tmp 5],(jQ [jc 4 .fa,jb 5 false] (jQ [Cv 9 0,Cv 10 1,jq 11 Td 9 10,Cv 8 11,jx 12 0 8,jx 13 1 8,Co 6 (.alloc [(.int .i64 0),(.int .i64 0),(.int .i64 0)]),jS 3 6 12,Cv 7 13] (.seq (jQ [Cv 14 7,jt 15 14] (jC 15 (jr [jc 4 .fa,jb 5 false]) .skip)) (jr [Cv 16 0,jz 17 16,jf 18 3 17,jl 19 1 18,jf 20 2 6,jl 21 1 20,Ji 22 1 19 21,Jl 23 1 22,Cv 24 1,jf 25 0 6,jl 26 1 25,jB 27 .sub 24 26,jq 28 ui 23 27,Cv 4 28,jb 5 true]))))⟩
theorem Kv:vc P fo 22 Ki:=fM Go.Proofs.Tryz.func22 (dC Dz (dC Iv dN))
def Qe:=Zb (fun _=>none) Ki
theorem Zn:Ma P 22 Qe:=Ia Ya Kv
end Go.AM.B1
namespace Go.AM.B1
open Go.AM
def Jd:Oa:=(.seq (jQ [Cv 19 5,Cv 20 4,jB 21 .lss 19 20] (jX 21 2)) (.seq (.block 3 (jQ [Jf 24 0 1,Jl 25 1 24,Cv 26 4,ji 27 2 25 26,jf 28 0 27,jl 29 1 28,jn 30 0 29,Cv 6 30] (jQ [Cv 31 6,Jf 32 0 1,Jl 33 1 32,Cv 34 5,ji 35 2 33 34,jf 36 0 35,jl 37 1 36,jn 38 0 37,jB 39 .eql 31 38] (jC 39 (jQ [Jf 41 0 1,Jl 42 1 41,Cv 43 4,Ji 44 2 42 43,JL 45 2 44,Jf 46 0 1,Jl 47 1 46,Cv 48 5,Ji 49 2 47 48,JL 50 2 49,Cv 51 6,Co 52 (.kr Je 45 50 51),Cv 40 52,jx 53 0 40,jx 54 1 40,Cv 7 53,Cv 8 54] (jQ [Cv 55 8] (jC 55 (jr [jb 2 false,jk 3 0]) .skip))) .skip)))) (.region [Cv 22 5,jK 23 .add 22 1,Cv 5 23])))
def cg:Oa:=(.seq (jQ [Cv 12 4,Jf 13 0 1,Jl 14 1 13,jn 15 0 14,jB 16 .lss 12 15] (jX 16 0)) (.seq (.block 1 (jQ [jk 5 0] (.block 2 (.loop [1,4,5] Jd)))) (.region [Cv 17 4,jK 18 .add 17 1,Cv 4 18])))
def sj:uf:=⟨1,[.tmp 2,.tmp 3],(jQ [jR 1 1 0,jb 2 false,jk 3 0] (.seq (jQ [JL 9 1 1,jp 10 de 9,jt 11 10] (jC 11 (jr [jb 2 false,jk 3 84]) .skip)) (.seq (jQ [jk 4 0] (.block 0 (.loop [1,4] cg))) (jr [jb 2 true,jk 3 0]))))⟩
theorem Mr:vc P fo 72 sj:=fM Go.Proofs.Tryz.func72 (dC Qm (dC Sl dN))
def Ke:=Zb (fun _=>none) sj
theorem Ft:Ma P 72 Ke:=Ia Ya Mr
def Tg:uf:=⟨1,[.cell 2 true 1,.tmp 3],(jQ [jR 1 1 0,Co 2 (.alloc [.fa]),jk 3 0] (jQ [JL 9 1 1,jp 10 Xa 9,Cv 8 10,jx 11 0 8,jx 12 1 8,Co 4 (.alloc [.fa]),jS 1 4 11,Cv 5 12] (.seq (jQ [Cv 13 5,jK 14 .eql 13 84,Cv 15 14,jF 16 15 (.km 5),jF 17 15 (.kK .eql 16 110),jo 18 15 17] (jC 18 (jr [Co 19 (.build [.fa] []),Cv 20 5,jS 1 2 19,Cv 3 20]) .skip)) (jQ [JL 22 1 1,jp 23 Ke 22,Cv 21 23,jx 24 0 21,jx 25 1 21,Cv 6 24,Cv 7 25] (.seq (jQ [Cv 26 6,jt 27 26] (jC 27 (jr [Co 28 (.build [.fa] []),jS 1 2 28,jk 3 111]) .skip)) (jr [jL 29 1 4,Cv 30 5,jS 1 2 29,Cv 3 30]))))))⟩
theorem Rq:vc P fo 17 Tg:=fM Go.Proofs.Tryz.func17 (dC Tu (dC Ft dN))
def zd:=Zb (fun _=>none) Tg
theorem Wr:Ma P 17 zd:=Ia Ya Rq
end Go.AM.B1
namespace Go.AM.B1
open Go.AM
def Ee:uf:=⟨3,[.tmp 6,.tmp 7],(jQ [jc 6 .Ye,jk 7 0] (.seq (.block 0 (jQ [Cv 12 0,Co 13 (.kE 1 false 12),Cv 11 13] (jC 11 (jr [jc 6 .Ye,jk 7 2]) (jQ [Cv 15 1,jK 16 .lss 15 1,Cv 17 16,jF 18 17 (.km 1),jF 19 17 (.kK .gtr 18 3),jo 20 17 19,Cv 14 20] (jC 14 (jr [jc 6 .Ye,jk 7 180]) .skip))))) (jQ [Cv 21 0,Cv 22 1,Co 23 (.build [.Ye,(.int .i64 0),.fa,(.int .i64 0),(.int .i64 0),(.bool false),(.bool false)] [(0,1,(.t 21)),(1,1,(.t 22))]),Co 24 (.box 7 (.t 23)),Cv 8 24] (.seq (jQ [Cv 25 1,jK 26 .eql 25 2] (jC 26 (jQ [Cv 28 0,Cv 29 2,jq 30 Qe 28 29,Cv 27 30,jx 31 0 27,jx 32 1 27,Cv 9 31,Cv 10 32] (.seq (jQ [Cv 33 10,jt 34 33] (jC 34 (jr [jc 6 .Ye,jk 7 190]) .skip)) (.region [Cv 35 8,Cv 36 9,jz 37 35,jf 38 2 37,jS 1 38 36]))) .skip)) (jr [Cv 39 8,Cv 6 39,jk 7 0])))))⟩
theorem Zx:vc P fo 34 Ee:=fM Go.Proofs.Tryz.func34 (dC Zn dN)
def Ik:uf:=⟨0,[.tmp 0],(jQ [jc 0 .Ye] (jQ [Co 4 (.build [(.int .i64 0),(.int .i64 0)] [(0,1,(.c (.int .i64 128))),(1,1,(.c (.int .i64 191)))]),Co 5 (.Bb .lit 2 true 1 [(.int .i64 0),(.int .i64 0)] [(0,(.t 4))]),Cv 1 5] (jQ [Co 7 (.build [(.int .i64 0),(.int .i64 0)] [(0,1,(.c (.int .i64 0))),(1,1,(.c (.int .i64 127)))]),Co 8 (.Bb .lit 2 true 1 [(.int .i64 0),(.int .i64 0)] [(0,(.t 7))]),Co 9 (.Bb .lit 1 false 1 [.fa] [(0,(.t 8))]),Co 10 (.build [.fa,(.int .i64 0)] [(0,1,(.t 9))]),Co 11 (.build [(.int .i64 0),(.int .i64 0)] [(0,1,(.c (.int .i64 194))),(1,1,(.c (.int .i64 223)))]),Co 12 (.Bb .lit 2 true 1 [(.int .i64 0),(.int .i64 0)] [(0,(.t 11))]),Cv 13 1,Co 14 (.Bb .lit 1 false 2 [.fa] [(0,(.t 12)),(1,(.t 13))]),Co 15 (.build [.fa,(.int .i64 0)] [(0,1,(.t 14)),(1,1,(.c (.int .i64 128)))]),Co 16 (.build [(.int .i64 0),(.int .i64 0)] [(0,1,(.c (.int .i64 225))),(1,1,(.c (.int .i64 225)))]),Co 17 (.Bb .lit 2 true 1 [(.int .i64 0),(.int .i64 0)] [(0,(.t 16))]),Cv 18 1,Cv 19 1,Co 20 (.Bb .lit 1 false 3 [.fa] [(0,(.t 17)),(1,(.t 18)),(2,(.t 19))]),Co 21 (.build [.fa,(.int .i64 0)] [(0,1,(.t 20)),(1,1,(.c (.int .i64 4096)))]),Co 22 (.Bb .lit 2 true 3 [.fa,(.int .i64 0)] [(0,(.t 10)),(1,(.t 15)),(2,(.t 21))]),Co 23 (.build [.fa] [(0,1,(.t 22))]),jp 24 Eb 23,Cv 6 24,jx 25 0 6,jx 26 1 6,Cv 2 25,Cv 3 26] (jr [Cv 27 2,Cv 0 27]))))⟩
theorem Gv:vc P fo 35 Ik:=fM Go.Proofs.Tryz.func35 (dC yv dN)
def Ri:=Zb (fun _=>none) Ik
theorem vw:Ma P 35 Ri:=Ia Ya Gv
def qb:uf:=⟨2,[.tmp 4],(jQ [jk 4 0] (.seq (.block 0 (jQ [Cv 6 0,Co 7 (.kE 1 false 6),Cv 5 7] (jC 5 (jr [jk 4 2]) (jQ [Cv 9 0,jz 10 9,jf 11 6 10,jl 12 1 11,Cv 8 12] (jC 8 (jr [jk 4 181]) (jQ [Cv 14 0,jz 15 14,jf 16 5 15,jl 17 1 16,Cv 13 17] (jC 13 (jr [jk 4 182]) (jQ [Cv 19 1,Cv 20 0,jz 21 20,jf 22 3 21,jl 23 1 22,Co 24 (.bin .sub (.c (.int .i64 65536)) (.t 23)),jB 25 .gtr 19 24,Cv 18 25] (jC 18 (jr [jk 4 183]) .skip))))))))) (jr [jk 4 0])))⟩
theorem fm:vc P fo 85 qb:=fM Go.Proofs.Tryz.func85 dN
def Cd:Oa:=(jQ [jB 38 .lss 37 36] (.seq (jX 38 0) (.seq (.block 1 (jQ [Cv 39 37,ji 40 1 35 37,jl 41 1 40,Cv 11 39,Cv 12 41] (jQ [Cv 43 0,jz 44 43,jf 45 0 44,jl 46 1 45,Cv 47 12,jq 48 Qe 46 47,Cv 42 48,jx 49 0 42,jx 50 1 42,Cv 13 49,Cv 14 50] (.seq (jQ [Cv 51 14] (jC 51 (jQ [Cv 52 8,Cv 53 13,Co 54 (.ku 1 false 1 52 53),Cv 8 54] (.exit 1)) .skip)) (jQ [Cv 55 9,Cv 56 10,Cv 57 11,jB 58 .add 56 57,Cv 59 12,Cv 60 0,jz 61 60,jf 62 4 61,jl 63 1 62,Cv 64 8,jn 65 0 64,jB 66 .add 63 65,Co 67 (.build [(.int .i64 0),(.int .i64 0),(.int .i64 0),(.int .i64 0),(.int .i64 0)] [(0,1,(.c (.int .i64 4))),(1,1,(.t 58)),(2,1,(.c (.int .i64 1))),(3,1,(.t 59)),(4,1,(.t 66))]),Co 68 (.Bb .lit 5 true 1 [(.int .i64 0),(.int .i64 0),(.int .i64 0),(.int .i64 0),(.int .i64 0)] [(0,(.t 67))]),Co 69 (.ku 5 true 40 55 68),Cv 9 69] (jQ [Cv 70 0,jz 71 70,jf 72 1 71,jl 73 1 72] (.block 2 (jQ [jK 75 .eql 73 2,Cv 74 75] (jC 74 (.region [Cv 76 8,Cv 77 0,jz 78 77,jf 79 2 78,jl 80 1 79,Co 81 (.ku 1 false 1 76 80),Cv 8 81]) (jQ [jK 83 .eql 73 3,Cv 82 83] (jC 82 (jQ [Cv 84 0,jz 85 84,jf 86 5 85,Ce (.store 1 (.t 86) (.c (.bool true)))] (.exit 0)) .skip))))))))))) (.region [jK 87 .add 37 1,Cv 37 87]))))
def zc:uf:=⟨2,[.tmp 4,.tmp 5,.tmp 6],(jQ [jc 4 .fa,jc 5 .fa,jk 6 0] (.scope (.seq (jQ [Cv 15 0,Cv 16 1,jn 17 0 16,Co 18 (.ch 62 [(.t 15),(.t 17)]),Cv 7 18] (jQ [Cv 19 7,jK 20 .neq 19 0] (jC 20 (jr [Cv 21 7,jc 4 .fa,jc 5 .fa,Cv 6 21]) .skip))) (jQ [jc 8 .fa] (.ghost (.VC 8 1) (jQ [jc 9 .fa] (.ghost (.VC 9 5) (jQ [Cv 22 0,jz 23 22,jf 24 3 23,jl 25 1 24,Cv 10 25] (jQ [Cv 26 0,jz 27 26,jf 28 3 27,jl 29 1 28,Cv 30 1,jn 31 0 30,jB 32 .add 29 31,jz 33 26,jf 34 3 33,jS 1 34 32] (.seq .skip (.seq (jQ [Cv 35 1,jn 36 0 35,jk 37 0] (.block 0 (.loop [0,8,9,10,35,36,37] Cd))) (jQ [Cv 88 0,jz 89 88,jf 90 4 89,jl 91 1 90,Cv 92 8,jn 93 0 92,jB 94 .add 91 93,jz 95 88,jf 96 4 95,jS 1 96 94] (jr [Cv 97 8,Cv 98 9,Cv 4 97,Cv 5 98,jk 6 0])))))))))))))⟩
theorem Dm:vc P fo 37 zc:=fM Go.Proofs.Tryz.func37 (dC Zn dN)
def Xg:Oa:=(.seq (jQ [Cv 11 5,Cv 12 0,jn 13 0 12,jB 14 .lss 11 13] (jX 14 0)) (.seq (.block 1 (jQ [Cv 17 0,Cv 18 5,Ji 19 5 17 18,JL 20 5 19,Cv 21 1,Cv 22 5,Ji 23 5 21 22,JL 24 5 23,Co 25 (.XV (.row [1,1,1,1,1]) true (.t 20) (.t 24))] (jC 25 (jr [jb 4 false]) .skip))) (.region [Cv 15 5,jK 16 .add 15 1,Cv 5 16])))
def gk:uf:=⟨2,[.tmp 4],(jQ [jb 4 false] (.seq (jQ [Cv 6 0,jn 7 0 6,Cv 8 1,jn 9 0 8,jB 10 .neq 7 9] (jC 10 (jr [jb 4 false]) .skip)) (.seq (jQ [jk 5 0] (.block 0 (.loop [0,1,5] Xg))) (jr [jb 4 true]))))⟩
theorem Pu:vc P fo 55 gk:=fM Go.Proofs.Tryz.func55 dN
def ye:=Zb (fun _=>none) gk
theorem gn:Ma P 55 ye:=Ia Ya Pu
def Cm:uf:=⟨1,[.tmp 2],(jQ [jk 2 0] (.seq (jQ [Cv 3 0,Co 4 (.kE 1 false 3)] (jC 4 (jr [jk 2 0]) .skip)) (jr [Cv 5 0,jz 6 5,jf 7 3 6,jl 8 1 7,Cv 2 8])))⟩
theorem It:vc P fo 38 Cm:=fM Go.Proofs.Tryz.func38 dN
def Ah:=Zb (fun _=>none) Cm
theorem Gm:Ma P 38 Ah:=Ia Ya It
def Bo:uf:=⟨1,[.tmp 2],(jQ [jk 2 0] (.seq (jQ [Cv 3 0,Co 4 (.kE 1 false 3)] (jC 4 (jr [jk 2 0]) .skip)) (jr [Cv 5 0,jz 6 5,jf 7 4 6,jl 8 1 7,Cv 2 8])))⟩
theorem Hv:vc P fo 58 Bo:=fM Go.Proofs.Tryz.func58 dN
def Oi:=Zb (fun _=>none) Bo
theorem Ho:Ma P 58 Oi:=Ia Ya Hv
def Bj:uf:=⟨0,[.tmp 0],(jQ [jb 0 false] (jQ [Co 10 (.Yn Ri []),Co 11 (.ch 60 [(.t 10),(.c (.int .i64 2)),(.c (.int .i64 63))]),Cv 9 11,jx 12 0 9,jx 13 1 9,Cv 1 12,Cv 2 13] (.seq (jQ [Cv 14 1,Co 15 (.kE 1 false 14),Cv 16 15,jF 17 16 (.km 2),jF 18 16 (.kK .neq 17 0),jo 19 16 18] (jC 19 (jr [jb 0 false]) .skip)) (jQ [Cv 21 1,Co 22 (.Bb .lit 1 false 2 [(.int .i64 0)] [(0,(.c (.int .i64 65))),(1,(.c (.int .i64 233)))]),Co 23 (.ch 61 [(.t 21),(.t 22)]),Cv 20 23,jx 24 0 20,jx 25 1 20,jx 26 2 20,Cv 3 24,Cv 4 25,Cv 5 26] (jQ [Cv 28 1,Co 29 (.Bb .lit 1 false 2 [(.int .i64 0)] [(0,(.c (.int .i64 3000))),(1,(.c (.int .i64 66)))]),Co 30 (.ch 61 [(.t 28),(.t 29)]),Cv 27 30,jx 31 0 27,jx 32 1 27,jx 33 2 27,Cv 6 31,Cv 7 32,Cv 8 33] (jr [Cv 34 5,jK 35 .eql 34 0,Cv 36 35,jT 37 36 (.km 8),jT 38 36 (.kK .eql 37 0),ja 39 36 38,Cv 40 39,jT 41 40 (.km 3),jT 42 40 (.xU (.t 41)),⟨(some 43),.bin .eql (.t 42) (.c (.str ⟨#[65,195,169]⟩)),(some (40,true)),false⟩,ja 44 40 43,Cv 45 44,jT 46 45 (.km 4),jT 47 45 (.kn 0 46),jT 48 45 (.kK .eql 47 0),ja 49 45 48,Cv 50 49,jT 51 50 (.km 6),jT 52 50 (.xU (.t 51)),⟨(some 53),.bin .eql (.t 52) (.c (.str ⟨#[63,66]⟩)),(some (50,true)),false⟩,ja 54 50 53,Cv 55 54,jT 56 55 (.km 7),jT 57 55 (.build [(.int .i64 0),(.int .i64 0),(.int .i64 0),(.int .i64 0),(.int .i64 0)] [(0,1,(.c (.int .i64 4))),(1,1,(.c (.int .i64 2))),(2,1,(.c (.int .i64 1))),(3,1,(.c (.int .i64 3000))),(4,1,(.c (.int .i64 3)))]),jT 58 55 (.Bb .lit 5 true 1 [(.int .i64 0),(.int .i64 0),(.int .i64 0),(.int .i64 0),(.int .i64 0)] [(0,(.t 57))]),jT 59 55 (.kq ye 56 58),ja 60 55 59,Cv 61 60,jT 62 61 (.km 1),jT 63 61 (.kp Ah 62),jT 64 61 (.kK .eql 63 4),ja 65 61 64,Cv 66 65,jT 67 66 (.km 1),jT 68 66 (.kp Oi 67),jT 69 66 (.kK .eql 68 5),ja 70 66 69,Cv 0 70]))))))⟩
theorem Zs:vc P fo 36 Bj:=fM Go.Proofs.Tryz.func36 (dC vw (dC gn (dC Gm (dC Ho dN))))
def Wb:Nat→Option uf
 |60=>some Ee
 |61=>some zc
 |62=>some qb
 |_=>none
theorem Qr:uk P fo Wb:=by
 intro ix af h
 unfold Wb at h
 split at h
 ·injection h with h;subst h;exact Zx
 ·injection h with h;subst h;exact Dm
 ·injection h with h;subst h;exact fm
 ·cases h
def Ch:=Zb Wb Bj
theorem Cu:Ma P 36 Ch:=Ia Qr Zs
def vi:uf:=⟨1,[.tmp 2,.tmp 3],(jQ [jR 1 1 0,jc 2 .Ye,jb 3 false] (jQ [JL 9 1 1,jp 10 ri 9,jp 11 Eb 10,Cv 8 11,jx 12 0 8,jx 13 1 8,Cv 4 12,Cv 5 13] (jQ [JL 15 1 1,jp 16 zd 15,Cv 14 16,jx 17 0 14,jx 18 1 14,Co 6 (.alloc [.fa]),jS 1 6 17,Cv 7 18] (jr [Cv 19 4,Cv 20 5,Cv 21 7,jB 22 .eql 20 21,Cv 23 22,jT 24 23 (.km 4),jT 25 23 (.kE 1 false 24),jT 26 23 (.km 7),jT 27 23 (.kK .neq 26 0),jT 28 23 (.ke 0 25 27),ja 29 23 28,Cv 2 19,Cv 3 29]))))⟩
theorem su:vc P fo 39 vi:=fM Go.Proofs.Tryz.func39 (dC Jv (dC yv (dC Wr dN)))
def Jg:=Zb (fun _=>none) vi
theorem Ov:Ma P 39 Jg:=Ia Ya su
def yl:uf:=⟨1,[.tmp 2],(jQ [jb 2 false] (jr [Cv 3 0,Co 4 (.kE 1 true 3),Cv 5 4,jT 6 5 (.km 0),jT 7 5 (.kz 6),jT 8 5 (.kf 5 7),jT 9 5 (.kl 1 8),ja 10 5 9,Cv 2 10]))⟩
theorem Qq:vc P fo 40 yl:=fM Go.Proofs.Tryz.func40 dN
def Vi:=Zb (fun _=>none) yl
theorem Cs:Ma P 40 Vi:=Ia Ya Qq
def te:Oa:=(.seq (jQ [Cv 6 5,Jf 7 0 2,Jl 8 1 7,jn 9 0 8,jB 10 .lss 6 9] (jX 10 0)) (.seq (.block 1 (jQ [Cv 13 1,Jf 14 0 2,Jl 15 1 14,Cv 16 5,Ji 17 2 15 16,jf 18 1 17,jl 19 1 18,jB 20 .geq 13 19,Cv 21 20,jT 22 21 (.km 1),JT 23 21 (.kf 0 2),JT 24 21 (.kl 1 23),jT 25 21 (.km 5),JT 26 21 (.ki 2 24 25),jT 27 21 (.kf 1 26),jT 28 21 (.kl 1 27),JT 29 21 (.kf 0 2),JT 30 21 (.kl 1 29),jT 31 21 (.km 5),JT 32 21 (.ki 2 30 31),JT 33 21 (.kL 2 32),jT 34 21 (.kp sd 33),jT 35 21 (.kB .add 28 34),jT 36 21 (.kK .sub 35 1),jT 37 21 (.kB .leq 22 36),ja 38 21 37] (jC 38 (jr [Cv 39 5,Cv 4 39]) .skip))) (.region [Cv 11 5,jK 12 .add 11 1,Cv 5 12])))
def Wj:uf:=⟨2,[.tmp 4],(jQ [jR 2 1 0,jk 4 0] (.seq (jQ [jk 5 0] (.block 0 (.loop [1,2,5] te))) (jr [jk 4 (-1)])))⟩
theorem Ku:vc P fo 81 Wj:=fM Go.Proofs.Tryz.func81 (dC fg dN)
def Cf:=Zb (fun _=>none) Wj
theorem Dv:Ma P 81 Cf:=Ia Ya Ku
def Oe:Oa:=(.seq (jQ [Cv 11 8,jK 12 .leq 11 255] (jX 12 0)) (.seq (.block 1 (.seq (jQ [Cv 15 8,Co 16 (.kA 256 1 6 15),jl 17 1 16,Cv 18 17,jT 19 18 (.km 7),jT 20 18 (.km 1),jT 21 18 (.kB .eql 19 20),ja 22 18 21] (jC 22 (jr [Cv 23 8,Cv 4 23,jb 5 true]) .skip)) (jQ [Cv 24 8,Co 25 (.kA 256 1 6 24),jl 26 1 25] (jC 26 (.region [Cv 27 7,jK 28 .add 27 1,Cv 7 28]) .skip)))) (.region [Cv 13 8,jK 14 .add 13 1,Cv 8 14])))
def cj:uf:=⟨2,[.tmp 4,.tmp 5],(jQ [jk 4 0,jb 5 false] (jQ [Cv 9 0,jp 10 Nc 9,Co 6 (.alloc (List.replicate 256 (.bool false))),jS 256 6 10,jk 7 0] (.seq (jQ [jk 8 0] (.block 0 (.loop [1,6,7,8] Oe))) (jr [jk 4 0,jb 5 false]))))⟩
theorem Kr:vc P fo 117 cj:=fM Go.Proofs.Tryz.func117 (dC Rg dN)
def mh:=Zb (fun _=>none) cj
theorem Ns:Ma P 117 mh:=Ia Ya Kr
def sg:Oa:=(.seq (jQ [Cv 26 7,jK 27 .geq 26 0] (jX 27 0)) (.seq (.block 1 (jQ [Jf 30 0 2,Jl 31 1 30,Cv 32 7,ji 33 1 31 32,jl 34 1 33,jp 35 Hg 34,Cv 8 35] (jQ [Jf 37 0 2,Jl 38 1 37,Cv 39 7,ji 40 1 38 39,jl 41 1 40,Cv 42 1,Cv 43 8,jB 44 .rem 42 43,jq 45 mh 41 44,Cv 36 45,jx 46 0 36,jx 47 1 36,Cv 9 46,Cv 10 47] (jQ [Cv 48 6,Cv 49 7,Cv 50 9,Co 51 (.conv .u8 (.t 50)),ji 52 1 48 49,jS 1 52 51] (.region [Cv 53 1,Cv 54 8,jB 55 .quo 53 54,Cv 1 55]))))) (.region [Cv 28 7,jK 29 .sub 28 1,Cv 7 29])))
def Uf:uf:=⟨2,[.tmp 4,.tmp 5],(jQ [jR 2 2 0,jc 4 .fa,jb 5 false] (.seq (jQ [Cv 11 1,jK 12 .lss 11 0,Cv 13 12,jF 14 13 (.km 1),JF 15 13 (.kL 2 2),jF 16 13 (.kp ef 15),jF 17 13 (.kB .geq 14 16),jo 18 13 17] (jC 18 (jr [jc 4 .fa,jb 5 false]) .skip)) (jQ [Jf 19 0 2,Jl 20 1 19,jn 21 0 20,Co 22 (.Ug .own 1 false [(.int .u8 0)] 1 (.t 21) (.t 21)),Cv 6 22] (.seq (jQ [Cv 23 6,jn 24 0 23,jK 25 .sub 24 1,Cv 7 25] (.block 0 (.loop [1,2,6,7] sg))) (jr [Cv 56 6,Cv 4 56,jb 5 true])))))⟩
theorem Zr:vc P fo 82 Uf:=fM Go.Proofs.Tryz.func82 (dC Dj (dC dn (dC Ns dN)))
def qj:=Zb (fun _=>none) Uf
theorem ct:Ma P 82 qj:=Ia Ya Zr
def aj:uf:=⟨2,[.tmp 4,.tmp 5],(jQ [jR 2 1 0,jc 4 .fa,jb 5 false] (jQ [JL 7 1 2,Cv 8 1,jq 9 Cf 7 8,Cv 6 9] (.seq (jQ [Cv 10 6,jK 11 .lss 10 0] (jC 11 (jr [jc 4 .fa,jb 5 false]) .skip)) (jr [Jf 12 0 2,Jl 13 1 12,Cv 14 6,Ji 15 2 13 14,JL 16 2 15,Cv 17 1,Jf 18 0 2,Jl 19 1 18,Cv 20 6,Ji 21 2 19 20,jf 22 1 21,jl 23 1 22,jB 24 .sub 17 23,jq 25 qj 16 24,jx 26 0 25,jx 27 1 25,Cv 4 26,Cv 5 27]))))⟩
theorem gw:vc P fo 27 aj:=fM Go.Proofs.Tryz.func27 (dC Dv (dC ct dN))
def wg:=Zb (fun _=>none) aj
theorem gp:Ma P 27 wg:=Ia Ya gw
def Kc:uf:=⟨3,[.tmp 6,.tmp 7],(jQ [jR 3 1 0,jc 6 .Ye,jk 7 0] (.seq (jQ [Cv 11 1,jK 12 .lss 11 1,Cv 13 12,jF 14 13 (.km 1),jF 15 13 (.kK .gtr 14 3),jo 16 13 15] (jC 16 (jr [jc 6 .Ye,jk 7 180]) .skip)) (jQ [JL 17 1 3,Cv 18 1,Co 19 (.build [.fa,(.int .i64 0),.fa,(.int .i64 0),(.int .i64 0),(.bool false),(.bool false)] [(0,1,(.t 17)),(1,1,(.t 18))]),Co 20 (.box 7 (.t 19)),Cv 8 20] (.seq (jQ [Cv 21 1,jK 22 .eql 21 2] (jC 22 (jQ [JL 24 1 3,Cv 25 2,jq 26 wg 24 25,Cv 23 26,jx 27 0 23,jx 28 1 23,Cv 9 27,Cv 10 28] (.seq (jQ [Cv 29 10,jt 30 29] (jC 30 (jr [jc 6 .Ye,jk 7 190]) .skip)) (.region [Cv 31 8,Cv 32 9,jz 33 31,jf 34 2 33,jS 1 34 32]))) .skip)) (jr [Cv 35 8,Cv 6 35,jk 7 0])))))⟩
theorem Lv:vc P fo 53 Kc:=fM Go.Proofs.Tryz.func53 (dC gp dN)
def gf:uf:=⟨4,[.tmp 8],(jQ [jk 8 0] (.seq (jQ [Cv 9 0] (jC 9 (jr [jk 8 181]) .skip)) (.seq (jQ [Cv 10 1] (jC 10 (jr [jk 8 182]) .skip)) (.seq (jQ [Cv 11 3,Cv 12 2,Co 13 (.bin .sub (.c (.int .i64 65536)) (.t 12)),jB 14 .gtr 11 13] (jC 14 (jr [jk 8 183]) .skip)) (jr [jk 8 0])))))⟩
theorem Dt:vc P fo 91 gf:=fM Go.Proofs.Tryz.func91 dN
def ae:=Zb (fun _=>none) gf
theorem Ou:Ma P 91 ae:=Ia Ya Dt
def Ac:Oa:=(.seq (jQ [Cv 31 10,Cv 32 1,jn 33 0 32,jB 34 .lss 31 33,Cv 35 34,jT 36 35 (.km 0),jT 37 35 (.kz 36),jT 38 35 (.kf 5 37),jT 39 35 (.kl 1 38),jT 40 35 (.kt 39),ja 41 35 40] (jX 41 0)) (.seq (.block 1 (jQ [Cv 45 0,jz 46 45,jf 47 0 46,jL 48 1 47,Cv 49 1,Cv 50 10,Ji 51 1 49 50,Jl 52 1 51,jq 53 wg 48 52,Cv 44 53,jx 54 0 44,jx 55 1 44,Cv 11 54,Cv 12 55] (.seq (jQ [Cv 56 12,jt 57 56] (jC 57 (jQ [Cv 58 9,Cv 59 0,jz 60 59,jf 61 3 60,jl 62 1 61,Cv 63 10,jB 64 .add 62 63,Cv 65 1,Cv 66 10,Ji 67 1 65 66,Jl 68 1 67,Cv 69 0,jz 70 69,jf 71 4 70,jl 72 1 71,Cv 73 8,Cp 74 (.kn 0 73),jB 75 .add 72 74,Co 76 (.build [(.int .i64 0),(.int .i64 0),(.int .i64 0),(.int .i64 0),(.int .i64 0)] [(0,1,(.c (.int .i64 4))),(1,1,(.t 64)),(2,1,(.c (.int .i64 1))),(3,1,(.t 68)),(4,1,(.t 75))]),Co 77 (.Bb .lit 5 true 1 [(.int .i64 0),(.int .i64 0),(.int .i64 0),(.int .i64 0),(.int .i64 0)] [(0,(.t 76))]),Co 78 (.ku 5 true 40 58 77),Cv 9 78] (jQ [Cv 79 0,jz 80 79,jf 81 2 80,jl 82 1 81,Cv 11 82] (.region [Cv 83 0,Cv 84 0,jz 85 84,jf 86 1 85,jl 87 1 86,jK 88 .eql 87 3,jz 89 83,jf 90 5 89,jS 1 90 88]))) .skip)) (.region [Cv 91 8,Cv 92 11,Co 93 (.ku 1 false 1 91 92),Cv 8 93])))) (.region [Cv 42 10,jK 43 .add 42 1,Cv 10 43])))
def Bc:uf:=⟨2,[.tmp 4,.tmp 5,.tmp 6],(jQ [jc 4 .fa,jc 5 .fa,jk 6 0] (jQ [Cv 13 0,jz 14 13,jf 15 6 14,jl 16 1 15,Cv 17 0,jz 18 17,jf 19 5 18,jl 20 1 19,Cv 21 0,jz 22 21,jf 23 3 22,jl 24 1 23,Cv 25 1,Cp 26 (.kn 0 25),Co 27 (.Yn ae [(.t 16),(.t 20),(.t 24),(.t 26)]),Cv 7 27] (.seq (jQ [Cv 28 7,jK 29 .neq 28 0] (jC 29 (jr [Cv 30 7,jc 4 .fa,jc 5 .fa,Cv 6 30]) .skip)) (jQ [jc 8 .fa] (.ghost (.VC 8 1) (jQ [jc 9 .fa] (.ghost (.VC 9 5) (.seq (jQ [jk 10 0] (.block 0 (.loop [0,1,8,9,10] Ac))) (jQ [Cv 94 0,jz 95 94,jf 96 3 95,jl 97 1 96,Cv 98 1,jn 99 0 98,jB 100 .add 97 99,jz 101 94,jf 102 3 101,jS 1 102 100] (jQ [Cv 103 0,jz 104 103,jf 105 4 104,jl 106 1 105,Cv 107 8,jn 108 0 107,jB 109 .add 106 108,jz 110 103,jf 111 4 110,jS 1 111 109] (jr [Cv 112 8,Cv 113 9,Cv 4 112,Cv 5 113,jk 6 0])))))))))))⟩
theorem pq:vc P fo 54 Bc:=fM Go.Proofs.Tryz.func54 (dC Ou (dC gp dN))
def fe:uf:=⟨1,[.tmp 2],(jQ [jk 2 0] (.seq (.block 0 (jQ [Cv 4 0,Co 5 (.kE 1 false 4),Cv 3 5] (jC 3 (jr [jk 2 2]) (jQ [Cv 7 0,jz 8 7,jf 9 6 8,jl 10 1 9,Cv 6 10] (jC 6 (jr [jk 2 181]) .skip))))) (jQ [Cv 11 0,jz 12 11,jf 13 6 12,Ce (.store 1 (.t 13) (.c (.bool true)))] (jr [jk 2 0]))))⟩
theorem Yt:vc P fo 56 fe:=fM Go.Proofs.Tryz.func56 dN
def Pc:uf:=⟨1,[.tmp 2],(jQ [jk 2 0] (.seq (jQ [Cv 3 0,jz 4 3,jf 5 6 4,jl 6 1 5] (jC 6 (jr [jk 2 181]) .skip)) (jQ [Cv 7 0,jz 8 7,jf 9 6 8,Ce (.store 1 (.t 9) (.c (.bool true)))] (jr [jk 2 0]))))⟩
theorem Kp:vc P fo 57 Pc:=fM Go.Proofs.Tryz.func57 dN
def Yb:Oa:=(jQ [jB 73 .lss 72 71] (.seq (jX 73 0) (.seq (.block 1 (jQ [ji 74 2 70 72,jL 75 2 74,Co 14 (.alloc [(.int .i64 0),.fa]),jS 2 14 75] (.seq (jQ [jf 76 0 14,jl 77 1 76] (.block 2 (jQ [jK 79 .eql 77 1,Cv 78 79] (jC 78 (jQ [Cv 81 9,Co 82 (.Bb .uq 1 false 0 [(.int .i64 0)] []),jf 83 1 14,jl 84 1 83,Co 85 (.ku 1 false 8 82 84),Co 86 (.ch 61 [(.t 81),(.t 85)]),Cv 80 86,jx 87 0 80,jx 88 1 80,jx 89 2 80,Cv 15 87,Cv 16 88,Cv 17 89] (jQ [Cv 91 11,jf 92 1 14,jl 93 1 92,Co 94 (.ch 68 [(.t 91),(.t 93)]),Cv 90 94,jx 95 0 90,jx 96 1 90,jx 97 2 90,Cv 18 95,Cv 19 96,Cv 20 97] (jQ [Cv 98 15,Co 99 (.xU (.t 98)),Cv 100 18,Co 101 (.xU (.t 100)),jB 102 .neq 99 101,Cv 103 102,jF 104 103 (.km 16),jF 105 103 (.km 19),jF 106 103 (.kq ye 104 105),jF 107 103 (.kt 106),jo 108 103 107,Cv 109 108,jF 110 109 (.km 17),jF 111 109 (.km 20),jF 112 109 (.kB .neq 110 111),jo 113 109 112] (jC 113 (jr [jb 6 false]) .skip)))) (jQ [jK 115 .eql 77 2,Cv 114 115] (jC 114 (jQ [Cv 116 9,Co 117 (.ch 63 [(.t 116)]),Cv 118 11,Co 119 (.ch 69 [(.t 118)]),jB 120 .neq 117 119] (jC 120 (jr [jb 6 false]) .skip)) .skip)))))) (jQ [Cv 121 9,jp 122 Ah 121,Cv 123 11,jz 124 123,jf 125 3 124,jl 126 1 125,jB 127 .neq 122 126,Cv 128 127,jF 129 128 (.km 9),jF 130 128 (.kp Oi 129),jF 131 128 (.km 11),jF 132 128 (.kz 131),jF 133 128 (.kf 4 132),jF 134 128 (.kl 1 133),jF 135 128 (.kB .neq 130 134),jo 136 128 135,Cv 137 136,jF 138 137 (.km 9),jF 139 137 (.kp Vi 138),jF 140 137 (.km 11),jF 141 137 (.kz 140),jF 142 137 (.kf 5 141),jF 143 137 (.kl 1 142),jF 144 137 (.eq 0 true (.t 139) (.t 143)),jo 145 137 144] (jC 145 (jr [jb 6 false]) .skip))))) (.region [jK 146 .add 72 1,Cv 72 146]))))
def Ib:uf:=⟨3,[.tmp 6],(jQ [jR 3 1 0,jR 4 2 1,jb 6 false] (.seq (jQ [Co 21 (.Yn Ch []),jt 22 21] (jC 22 (jr [jb 6 false]) .skip)) (jQ [JL 24 1 3,jp 25 Jg 24,Cv 23 25,jx 26 0 23,jx 27 1 23,Cv 7 26,Cv 8 27] (jQ [Cv 29 7,Jf 30 0 4,Jl 31 1 30,Jf 32 1 4,Jl 33 1 32,Co 34 (.ch 60 [(.t 29),(.t 31),(.t 33)]),Cv 28 34,jx 35 0 28,jx 36 1 28,Cv 9 35,Cv 10 36] (.seq (jQ [Cv 37 7,Co 38 (.kE 1 false 37)] (jC 38 (jr [Cv 39 8,Cv 40 39,jT 41 40 (.km 9),jT 42 40 (.kE 1 false 41),ja 43 40 42,Cv 44 43,jT 45 44 (.km 10),jT 46 44 (.kK .eql 45 2),ja 47 44 46,Cv 6 47]) .skip)) (jQ [JL 49 1 3,Jf 50 0 4,Jl 51 1 50,Jf 52 1 4,Jl 53 1 52,Co 54 (.ch 67 [(.t 49),(.t 51),(.t 53)]),Cv 48 54,jx 55 0 48,jx 56 1 48,Cv 11 55,Cv 12 56] (.seq (jQ [Cv 57 10,Cv 58 12,jB 59 .neq 57 58,Cv 60 59,jF 61 60 (.km 9),jF 62 60 (.kE 1 false 61),jF 63 60 (.km 12),jF 64 60 (.kK .neq 63 0),jF 65 60 (.eq 0 true (.t 62) (.t 64)),jo 66 60 65] (jC 66 (jr [jb 6 false]) .skip)) (.seq (jQ [Cv 67 9,Co 68 (.kE 1 false 67)] (jC 68 (jr [Cv 69 8,Cv 6 69]) .skip)) (.seq (jQ [Cv 70 2,jn 71 0 70,jk 72 0] (.block 0 (.loop [8,9,11,70,71,72] Yb))) (jr [Cv 147 8,Cv 6 147]))))))))))⟩
theorem Ao:vc P fo 11 Ib:=fM Go.Proofs.Tryz.func11 (dC Cu (dC Ov (dC gn (dC Gm (dC Ho (dC Cs dN))))))
def Xb:Nat→Option uf
 |60=>some Ee
 |67=>some Kc
 |61=>some zc
 |68=>some Bc
 |63=>some fe
 |69=>some Pc
 |62=>some qb
 |_=>none
theorem xn:uk P fo Xb:=by
 intro ix af h
 unfold Xb at h
 split at h
 ·injection h with h;subst h;exact Zx
 ·injection h with h;subst h;exact Lv
 ·injection h with h;subst h;exact Dm
 ·injection h with h;subst h;exact pq
 ·injection h with h;subst h;exact Yt
 ·injection h with h;subst h;exact Kp
 ·injection h with h;subst h;exact fm
 ·cases h
def Wo:=Zb Xb Ib
theorem dp:Ma P 11 Wo:=Ia xn Ao
end Go.AM.B1
set_option linter.unusedSimpArgs false
namespace Go.AM.B1
open Go.AM Go.AM.So
theorem nL:sh=ec:=rfl
theorem sH:ph=ec:=rfl
theorem AJ:yh=ec:=rfl
def nE (p:Int×Int):List PV:=[i64 p.1,i64 p.2]
def yf (l:List (Int×Int)):Array (List PV):=(l.map nE).toArray
def rX (r:List PV):Prop:=∃ p,r=nE p
theorem yx (r:List PV) (h:rX r):DR 2 r:=by
 obtain⟨p,rfl⟩:=h
 exact⟨rfl,by intro c hc;simp[nE] at hc;rcases hc with rfl | rfl <;> rfl⟩
theorem AA (l:List (Int×Int)):∀ r∈(yf l).toList,rX r:=by
 intro r hr
 simp[yf] at hr
 obtain⟨a,b,_,rfl⟩:=hr
 exact⟨(a,b),rfl⟩
theorem zo (l:List (Int×Int)):(yf l).size=l.length:=by simp[yf]
def Ad (l:List (Int×Int)) (fl:Nat) (nl:Bool):ba:=Vg 2 (yf l) fl nl
theorem Li (l:List (Int×Int)):(uh (yf l)).length=l.length * 2:=by
 rw[qx fun r hr=>yx r (AA l r hr),zo]
theorem QB {A:List ba} {id n fl bytes:Nat} {nl:Bool} {h:Nf} {l:List (Int×Int)} (hg:A[id]? =some (Ad l fl nl)) (hn:n=l.length) (hr:ab (n+1) bytes) (p:Int×Int):
 Gb A true h 2 true bytes (.own id n) (.pv (.lit 2 [pr p]))=some (.own id (n+1),A.set id (Ad (l++[p]) fl false)):=by
 subst hn
 have hl:=Li l
 have e:uh (yf (l++[p]))=uh (yf l)++[.pv (i64 p.1),.pv (i64 p.2)]:=by
  simp[uh,yf,nE]
 simp only[Gb,if_true,hg,Ad,Vg,Fj,xf,Option.map_some,Option.bind_some,flat,PV.cells,pr,List.append_nil,List.map_cons,List.map_nil,List.length_cons,List.length_nil,e]
 rw[if_pos]
 ·simp
 ·exact⟨trivial,by omega,hr,rfl⟩
theorem HC (H:List ba) (d:Nat) (l:List PV):Pa (Rb H d) (l.map .pv)=some l:=by
 induction l with
 |nil=>rfl
 |cons a l ih=>simp only[List.map_cons,Pa,Eg,Option.bind_some,ih]
theorem IB:∀ (l:List (Int×Int)),chunk 2 true l.length ((l.map nE).flatten)=Xd l
 | []=>rfl
 |p::l=>by
  have ih:=IB l
  simp only[List.length_cons,List.map_cons,List.flatten_cons,chunk,if_true,nE] at ih ⊢
  simp only[List.cons_append,List.nil_append,List.take_succ_cons,List.take_zero,List.drop_succ_cons,List.drop_zero,Xd,List.map_cons]
  rw[ih]
theorem eR {A:List ba} {id n fl:Nat} {nl:Bool} {l:List (Int×Int)} (hg:A[id]? =some (Ad l fl nl)) (hn:n=l.length) (d:Nat):Rb A (d+1) (.own id n)=some (if nl then .fa else .lit 2 (Xd l)):=by
 subst hn
 have hl:=Li l
 have e:uh (yf l)=((l.map nE).flatten).map .pv:=by simp[uh,yf]
 simp only[Rb,hg,Ad,Vg]
 rw[if_pos ⟨by omega,rfl⟩,e,HC]
 cases nl with
 |true=>rfl
 |false=>simp only[Bool.false_eq_true,if_false,Option.map_some,IB]
theorem My (A:List ba) (x y:AV) (p:Int×Int):Ea (A++[.box [x,y]]) 2 (.ptr A.length 0) (.pv (pr p))=some (A++[.box [.pv (i64 p.1),.pv (i64 p.2)]]):=by
 simp only[Ea,AV.cells,PV.cells,pr,List.map_cons,List.map_nil,List.length_cons,List.length_nil,List.all,AV.one,Ej,Jn]
 simp[ga]
theorem CA (A:List ba) (p:Int×Int):ta (A++[.box [.pv (i64 p.1),.pv (i64 p.2)]]) true 2 (.ptr A.length 0)=some (.pv (pr p)):=by
 simp[ta,Og,ir,Dd]
theorem Lq (l:List (Int×Int)) (fl:Nat) (nl:Bool) (n:Nat):oa n (Ad l fl nl)=some (Ad l fl nl):=Aw _ _ _ _ _
abbrev SN (v:PV) (id n len i:Nat):Tr:=(((Tr.lf.set 11 (.pv (i64 i))).set 10 (.pv (i64 len))).set 9 (.pv v)).set 3 (.own id n)
theorem Wk (A:List ba) {l:List (Int×Int)} {i:Nat} (hi:i < l.length):wa A 2 (.pv (.lit 2 (Xd l))) (i:Int)=some (.pv (.rp [i64 l[i].1,i64 l[i].2] 0)):=by
 have hg:=lr hi
 simp only[wa]
 rw[if_pos (by unfold Ga;simp;omega),Int.toNat_natCast,hg];rfl
theorem qT (A:List ba) (p:Int×Int):ta A true 2 (.pv (.rp [i64 p.1,i64 p.2] 0))=some (.pv (pr p)):=by
 simp[ta,im]
theorem EL (call:Ta) (v:PV) (l:List (Int×Int)) (hv:Vh 2 v (Xd l)) (hw:l.length * 16≤140737488355328) (H:List ba) (hH:He H):
 xe call qd [.pv v] H=some (.own H.length l.length,H++[Ad l 0 false]):=by
 have ls:=hv.len
 simp only[Xd,List.length_map] at ls
 have hid:H.length < H.length+1:=Nat.lt_succ_self _
 have hlen:∀ l',(H++[Ad l' 0 false]).length=H.length+1:=fun l'=>by simp
 have hcut:∀ l',Pa (oa (H.length+1)) (H++[Ad l' 0 false])=some (H++[Ad l' 0 false]):=fun l'=>Yk fun o ho=>by
  rcases List.mem_append.1 ho with h | h
  ·exact hH _ (by omega) o h
  ·simp at h;subst h;exact Lq _ _ _ _
 have hloop:Pd (fun r=>∃ E,r=(.exit 0,⟨E,H++[Ad l 0 false]⟩)∧E.get 3= .own H.length l.length)
  (pb (ma (qa call Lc) (na (H.length+1) [3,9,10,11])) pa ⟨SN v H.length 0 l.length 0,H++[Ad [] 0 false]⟩):=by
  refine ya (Mb (g:=ma (qa call Lc) (na (H.length+1) [3,9,10,11]))
   (fun i t=>t=⟨SN v H.length i l.length i,H++[Ad (l.take i) 0 false]⟩)
   l.length (by unfold pa;omega) _ rfl ?_ ?_) (fun r h=>h.2)
  ·rintro i t hi rfl
   have hv:=hv.lit (i:=i) (by simpa using hi)
   subst hv
   have e1:decide ((i:Int) < (l.length:Int))=true:=Fa (by omega)
   have t2:=eb hi (by unfold maxLen;omega)
   have a1:=Wk (H++[Ad (l.take i) 0 false]) hi
   have l1:=qT (H++[Ad (l.take i) 0 false]) l[i]
   have s1:=My (H++[Ad (l.take i) 0 false]) (.pv (i64 0)) (.pv (i64 0)) l[i]
   have l2:=CA (H++[Ad (l.take i) 0 false]) l[i]
   have hap:=QB (A:=H++[Ad (l.take i) 0 false]++[.box [.pv (i64 l[i].1),.pv (i64 l[i].2)]]) (id:=H.length) (n:=i) (h:= .own) (bytes:=16) (by rw[List.getElem?_append_left (by simp)];exact Ej _ _) (by simp;omega) (by unfold ab;omega) l[i]
   rw[List.set_append_left _ _ (by simp),Jn,←List.take_succ_eq_append_getElem hi] at hap
   have htk:(H++[Ad (l.take (i+1)) 0 false]++[ba.box [.pv (i64 l[i].1),.pv (i64 l[i].2)]]).take (H.length+1)=H++[Ad (l.take (i+1)) 0 false]:=by
    rw[List.take_append_of_le_length (by simp),List.take_of_length_le (by simp)]
   have hc:=hcut (l.take (i+1))
   generalize l[i]=p at *
   generalize hQ:LN _ _ i=Q
   simp -implicitDefEqProofs only[SP,WP,ga,sevalprocAttr,Lc,e1,t2,a1,l1,s1,l2,hap,htk,hc,hid,na,za,AV.cut,ua,SN]
   subst hQ
   rfl
  ·rintro t rfl
   rw[List.take_length]
   have e1:decide ((l.length:Int) < (l.length:Int))=false:=Ha (by omega)
   generalize hQ:(fun r:Ex×St=>r.1.stop=true∧_)=Q
   simp -implicitDefEqProofs only[SX,sevalprocAttr,Lc,e1,SN]
   subst hQ
   exact⟨rfl,_,rfl,by simp[Tr.aa]⟩
 have h2:(0:Int)≤(l.length:Int):=by omega
 have h3:ab l.length 16:=by unfold ab;omega
 have n0:(0:Int).toNat=0:=rfl
 have ho:ba.seq 2 true [] 0 false=Ad [] 0 false:=rfl
 apply Km
 simp -implicitDefEqProofs only[SX,sevalprocAttr,qd,Fb,ls,Int.le_refl,eq_true h2,eq_true h3,n0,ho,hlen,hcut,hid,List.take_of_length_le (show (H++[Ad [] 0 false]).length≤H.length+1 by simp),na,za,AV.cut,ua]
 refine ya hloop ?_
 rintro _ ⟨E,rfl,hE⟩
 simp -implicitDefEqProofs only[SX,sevalprocAttr,hE]
end Go.AM.B1
namespace Go.AM.B1
open Go.AM Go.AM.So
theorem Lg {A:List ba} {id n sz bytes:Nat} {nl ag:Bool} {h:Nf} {es:List PV} (hg:A[id]? =some (.tok sz n nl)) (hn:n=es.length) (hr:ab (n+1) bytes) (e:PV):
 Gb A false h sz ag bytes (.uq id nl sz es) (.pv (.lit sz [e]))=some (.uq id false sz (es++[e]),A.set id (.tok sz (n+1) false)):=by
 subst hn
 simp only[Gb,Bool.false_eq_true,if_false,hg,xf,if_true,Option.bind_some,List.length_cons,List.length_nil]
 rw[if_pos ⟨trivial,trivial,trivial,hr⟩]
 simp
abbrev wN (id n i tk:Nat) (nl:Bool) (es:List PV):Tr:=(((Tr.lf.set 11 (.pv (i64 i))).set 10 (.pv (i64 n))).set 9 (.own id n)).set 3 (.uq tk nl 2 es)
theorem DN {A:List ba} {id fl:Nat} {nl:Bool} {l:List (Int×Int)} (hg:A[id]? =some (Ad l fl nl)) (hf:fl≤l.length * 2) (hA:He A):Hp id 2 rX A (yf l) A:=
 Hp.refl (fl:=fl) (nl:=nl) hA (by rw[zo];exact hf) hg (AA l)
theorem yE {l:List (Int×Int)} {i:Nat} (hi:i < l.length):(yf l)[i]! =nE l[i]:=by
 rw[lY (by rw[zo];exact hi)];simp[yf]
theorem OO (call:Ta) (l:List (Int×Int)) {id fl:Nat} {nl:Bool} (H:List ba) (hH:He H) (hg:H[id]? =some (Ad l fl nl)) (hf:fl≤l.length * 2) (hw:l.length * 16≤140737488355328):
 xe call Ed [.own id l.length] H=some (.uq H.length false 2 (Xd l),H++[.tok 2 l.length false]):=by
 have hp:=DN hg hf hH
 have hid:id < H.length:=hp.lt
 have hid1:id < H.length+1:=by omega
 have htk:H.length < H.length+1:=Nat.lt_succ_self _
 have hl:=Li l
 have hn:l.length=(yf l).size:=(zo l).symm
 have hlen:∀ m b,(H++[ba.tok 2 m b]).length=H.length+1:=fun m b=>by simp
 have hcut:∀ m b,Pa (oa (H.length+1)) (H++[ba.tok 2 m b])=some (H++[ba.tok 2 m b]):=fun m b=>Yk fun o ho=>by
  rcases List.mem_append.1 ho with h | h
  ·exact hH _ (by omega) o h
  ·simp at h;subst h;rfl
 have hlA:∀ T,Tb (H++T) 0 (.own id l.length)=some l.length:=by
  intro T
  rw[Bz,List.getElem?_append_left hid,hg]
  simp only[Ad,Vg]
  rw[if_pos];unfold jh;omega
 have hlA0:Tb H 0 (.own id l.length)=some l.length:=by have:=hlA [];rwa [List.append_nil] at this
 have hloop:Pd (fun r=>∃ E,r=(.exit 0,⟨E,H++[.tok 2 l.length false]⟩)∧E.get 3= .uq H.length false 2 (Xd l))
  (pb (ma (qa call Rc) (na (H.length+1) [3,9,10,11])) pa ⟨wN id l.length 0 H.length false [],H++[.tok 2 0 false]⟩):=by
  refine ya (Mb (g:=ma (qa call Rc) (na (H.length+1) [3,9,10,11]))
   (fun i t=>t=⟨wN id l.length i H.length false (Xd (l.take i)),H++[.tok 2 i false]⟩)
   l.length (by unfold pa;omega) _ rfl ?_ ?_) (fun r h=>h.2)
  ·rintro i t hi rfl
   have e1:decide ((i:Int) < (l.length:Int))=true:=Fa (by omega)
   have t2:=eb hi (by unfold maxLen;omega)
   have a1:=TG [.tok 2 i false] hid (hp.Sd yx hn (i:=(i:Int)) rfl (by omega))
   have l1:=QI [.tok 2 i false] hid (hp.load yx hn (k:=i) (by omega))
   rw[yE hi] at l1
   have l1':ta (H++[.tok 2 i false]) true 2 (.Mc id (l.length * 2) (i * 2))=some (.pv (pr l[i])):=l1
   have s1:=My (H++[.tok 2 i false]) (.pv (i64 0)) (.pv (i64 0)) l[i]
   have l2:=CA (H++[.tok 2 i false]) l[i]
   have hap:=Lg (A:=H++[.tok 2 i false]++[.box [.pv (i64 l[i].1),.pv (i64 l[i].2)]]) (id:=H.length) (n:=i) (h:= .uq) (ag:=true) (nl:=false) (sz:=2) (bytes:=16) (es:=Xd (l.take i)) (by rw[List.getElem?_append_left (by simp)];exact Ej _ _) (by simp;omega) (by unfold ab;omega) (pr l[i])
   have hs:Xd (l.take (i+1))=Xd (l.take i)++[pr l[i]]:=by rw[List.take_succ_eq_append_getElem hi];simp only[Xd,List.map_append,List.map_cons,List.map_nil]
   rw[List.set_append_left _ _ (by simp),Jn,←hs] at hap
   have htk2:(H++[ba.tok 2 (i+1) false]++[ba.box [.pv (i64 l[i].1),.pv (i64 l[i].2)]]).take (H.length+1)=H++[ba.tok 2 (i+1) false]:=by
    rw[List.take_append_of_le_length (by simp),List.take_of_length_le (by simp)]
   have hc:=hcut (i+1) false
   generalize l[i]=p at *
   generalize hes':Xd (l.take (i+1))=es' at *
   generalize Xd (l.take i)=es at *
   generalize hQ:LN _ _ i=Q
   simp -implicitDefEqProofs only[SP,WP,ga,sevalprocAttr,Rc,e1,t2,a1,l1',s1,l2,hap,htk,htk2,hc,hid1,na,za,AV.cut,ua,wN]
   subst hQ
   subst hes'
   rfl
  ·rintro t rfl
   rw[List.take_length]
   have e1:decide ((l.length:Int) < (l.length:Int))=false:=Ha (by omega)
   generalize hQ:(fun r:Ex×St=>r.1.stop=true∧_)=Q
   simp -implicitDefEqProofs only[SX,sevalprocAttr,Rc,e1,wN]
   subst hQ
   exact⟨rfl,_,rfl,by simp[Tr.aa]⟩
 have h2:(0:Int)≤(l.length:Int):=by omega
 have h3:ab l.length 16:=by unfold ab;omega
 have n0:(0:Int).toNat=0:=rfl
 apply Km
 simp -implicitDefEqProofs only[SX,sevalprocAttr,Ed,Fb,hlA,hlA0,Int.le_refl,eq_true h2,eq_true h3,n0,hlen,hcut,hid1,htk,List.take_of_length_le (show (H++[ba.tok 2 0 false]).length≤H.length+1 by simp),na,za,AV.cut,ua]
 refine ya hloop ?_
 rintro _ ⟨E,rfl,hE⟩
 simp -implicitDefEqProofs only[SX,sevalprocAttr,hE]
def Lj (x:Int) (l:List (Int×Int)):Prop:=∃ p∈l,p.1≤x∧x≤p.2
end Go.AM.B1
