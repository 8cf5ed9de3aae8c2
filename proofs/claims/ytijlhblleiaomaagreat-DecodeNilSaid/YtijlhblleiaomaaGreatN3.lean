/- What functions of the program compute. -/
import Derived.Test.YtijlhblleiaomaaGreatN2
import Derived.Test.YtijlhblleiaomaaGreatJ3
set_option linter.unusedVariables false
namespace Go.AM.B1
open Go.AM
def cr:re:=⟨1,[.tmp 2],(jQ [jb 2 false] (jr [Cv 3 0,Cv 4 0,jB 5 .neq 3 4,Cv 2 5]))⟩
def mj:=fc (fun _=>none) cr
def ei:re:=⟨2,[.tmp 4],(jQ [jk 4 0] (jQ [Cv 7 0,jp 8 mj 7,Cv 5 8] (jQ [Cv 9 1,jp 10 mj 9,Cv 6 10] (.seq (jQ [Cv 11 5] (jC 11 (.seq (jQ [Cv 12 6] (jC 12 (jr [jk 4 0]) .skip)) (jr [jk 4 (-1)])) .skip)) (.seq (jQ [Cv 13 6] (jC 13 (jr [jk 4 1]) .skip)) (.seq (jQ [Cv 14 0,Cv 15 1,jB 16 .lss 14 15] (jC 16 (jr [jk 4 (-1)]) .skip)) (.seq (jQ [Cv 17 0,Cv 18 1,jB 19 .gtr 17 18] (jC 19 (jr [jk 4 1]) .skip)) (jr [jk 4 0]))))))))⟩
def Eg:=fc (fun _=>none) ei
def Kp:re:=⟨3,[.tmp 5],(jQ [jb 5 false] (jr [Cv 6 0,Cv 7 1,jB 8 .lss 6 7,Cv 9 8,jT 10 9 (.kf 0 2),jT 11 9 (.kl 1 10),jT 12 9 (.km 0),JT 13 9 (.ki 2 11 12),jT 14 9 (.kf 0 13),jT 15 9 (.kl 1 14),JT 16 9 (.kn 0 15),jT 17 9 (.kf 0 2),jT 18 9 (.kl 1 17),jT 19 9 (.km 1),JT 20 9 (.ki 2 18 19),jT 21 9 (.kf 0 20),jT 22 9 (.kl 1 21),JT 23 9 (.kn 0 22),jT 24 9 (.kB .eql 16 23),ja 25 9 24,Cv 5 25]))⟩
theorem cv:zc P fo 95 Kp:=fM Go.Proofs.Tryz.func95 dN
def Xr:re:=⟨1,[.cell 2 true 3,.tmp 3],(jQ [Co 1 (.box 1 (.t 0)),Co 2 (.alloc [(.bool false),(.int .i64 0),(.int .i64 0)]),jk 3 0] (jr [jL 4 1 1,Co 5 (.pD 37 [(.t 1)]),Co 6 (.Bd 25 [(.t 4),(.t 5)]),jx 7 0 6,jx 8 1 6,jS 3 2 7,Cv 3 8]))⟩
theorem Ly:zc P fo 63 Xr:=fM Go.Proofs.Tryz.func63 dN
def dn:Nat→Option re
 |37=>some Kp
 |25=>some cf
 |_=>none
theorem Aw:Xh P fo dn:=by
 intro ix af h
 unfold dn at h
 split at h
 ·injection h with h;subst h;exact cv
 ·injection h with h;subst h;exact gr
 ·cases h
def ni:=fc dn Xr
theorem Zz:Ga P 63 ni:=Na Aw Ly
def aq:re:=⟨2,[.tmp 4],(jQ [jR 2 1 0,jR 3 1 1,jc 4 .Vp] (jr [Co 5 (.pD 35 [(.t 2),(.t 3)]),Cv 4 5]))⟩
theorem dG:zc P fo 124 aq:=fM Go.Proofs.Tryz.func124 dN
def Fj:re:=⟨2,[.tmp 4],(jQ [jc 4 .Vp] (jr [Cv 5 0,jp 6 ef 5,Cv 7 1,Co 8 (.Bd 38 [(.t 6),(.t 7)]),Cv 4 8]))⟩
theorem RD:zc P fo 97 Fj:=fM Go.Proofs.Tryz.func97 (dC Nl dN)
def ui:Ia:=(.block 3 (jQ [jl 41 1 6,jl 42 1 6,jz 43 42,jf 44 0 43,jl 45 1 44,Cv 46 7,Co 47 (.conv .u8 (.t 46)),Co 48 (.Hb .lit 1 false 1 [(.int .u8 0)] [(0,(.t 47))]),Co 49 (.ku 1 false 1 45 48),jz 50 41,jf 51 0 50,jS 1 51 49] (.region [jl 52 1 6,Cv 53 7,jl 54 1 6,jz 55 54,jf 56 0 55,jl 57 1 56,jn 58 0 57,Co 59 (.conv .u16 (.t 58)),jz 60 52,jf 61 1 60,Co 62 (.kA 256 1 61 53),jS 1 62 59])))
def vi:Ia:=(.seq (jQ [Cv 20 5,jK 21 .geq 20 0] (jX 21 0)) (.seq (.block 1 (jQ [Cv 24 3,jz 25 24,jf 26 0 25,jl 27 1 26,Cv 28 5,ji 29 258 27 28,Co 6 (.alloc [.yd]),jS 1 6 29] (jQ [jl 30 1 6,Cv 31 4,jz 32 30,jf 33 257 32,jS 1 33 31] (.seq (jQ [Jf 34 0 1,Jl 35 1 34,Cv 36 5,ji 37 1 35 36,jl 38 1 37,Co 39 (.Bd 39 [(.t 38),(.c (.int .i64 0))])] (.block 2 (.range 35 Ei (.t 39) [40] [(7,40)] ui))) (.region [Cv 63 4,jl 64 1 6,jz 65 64,jf 66 0 65,jl 67 1 66,jn 68 0 67,jB 69 .mul 63 68,Cv 4 69]))))) (.region [Cv 22 5,jK 23 .sub 22 1,Cv 5 23])))
def Mn:re:=⟨1,[.tmp 2],(jQ [jR 1 2 0,jc 2 .yd] (jQ [Jf 8 0 1,Jl 9 1 8,jn 10 0 9,Co 11 (.ye .own 258 true ([.qa]++List.replicate 256 (.int .u16 0)++[(.int .i64 0)]) 544 (.t 10) (.t 10)),Co 12 (.build [.qa] [(0,1,(.t 11))]),Co 13 (.box 1 (.t 12)),Cv 3 13] (jQ [jk 4 1] (.seq (jQ [Cv 14 3,jz 15 14,jf 16 0 15,jl 17 1 16,jn 18 0 17,jK 19 .sub 18 1,Cv 5 19] (.block 0 (.Ll [1,2,3,4,5] vi))) (jr [Cv 70 3,Cv 2 70])))))⟩
theorem YD:∀ d∈Gc Mn.body,Vl P (fo d.1) d.2:=by
 intro d hd
 obtain rfl:d=(35,Ei):=List.mem_singleton.1 hd
 exact Go.Proofs.ZN
theorem qE:zc P fo 66 Mn:=gU Go.Proofs.Tryz.func66 dN (YD)
def bf:Nat→Option re
 |39=>some Fj
 |38=>some aq
 |_=>none
theorem DB:Xh P fo bf:=by
 intro ix af h
 unfold bf at h
 split at h
 ·injection h with h;subst h;exact RD
 ·injection h with h;subst h;exact dG
 ·cases h
def Kn:=fc bf Mn
theorem IE:Ga P 66 Kn:=Na DB qE
def cg:Ia:=(jQ [jB 49 .lss 48 47] (.seq (jX 49 0) (.seq (.block 1 (jQ [Cv 50 48,ji 51 2 46 48,jL 52 2 51,Co 10 (.alloc [.qa,(.int .i64 0)]),Cv 9 50,jS 2 10 52] (jQ [Cv 53 8,Cv 54 8,jz 55 54,jf 56 4 55,jl 57 1 56,jf 58 1 10,jl 59 1 58,jf 60 1 10,jl 61 1 60,jL 62 2 10,jp 63 bl 62,jB 64 .add 61 63,jK 65 .sub 64 1,Cv 66 9,Co 67 (.build [(.int .i64 0),(.int .i64 0),(.int .i64 0)] [(0,1,(.t 59)),(1,1,(.t 65)),(2,1,(.t 66))]),Co 68 (.Hb .lit 3 true 1 [(.int .i64 0),(.int .i64 0),(.int .i64 0)] [(0,(.t 67))]),Co 69 (.append true .own 3 true 24 (.t 57) (.t 68)),jz 70 53,jf 71 4 70,jS 1 71 69] (jQ [Cv 72 8,Cv 73 8,jz 74 73,jf 75 5 74,jl 76 1 75,jf 77 0 10,jl 78 1 77,jn 79 0 78,Co 80 (.mx [(.t 76),(.t 79)]),jz 81 72,jf 82 5 81,jS 1 82 80] (.region [Cv 83 8,Cv 84 8,jz 85 84,jf 86 3 85,jl 87 1 86,jL 88 2 10,jp 89 Kn 88,Co 90 (.Hb .lit 1 false 1 [.yd] [(0,(.t 89))]),Co 91 (.ku 1 false 8 87 90),jz 92 83,jf 93 3 92,jS 1 93 91]))))) (.region [jK 94 .add 48 1,Cv 48 94]))))
def jh:Ia:=(jQ [jK 109 .lss 108 256] (.seq (jX 109 4) (.seq (.block 5 (jQ [Cv 110 108,Cv 14 110] (.region [Cv 111 14,Co 112 (.kA 256 1 13 111),Ce (.store 1 (.t 112) (.c (.int .i8 (-2))))]))) (.region [jK 113 .add 108 1,Cv 108 113]))))
def mh:Ia:=(.seq (jQ [Cv 122 17,jf 123 1 16,jl 124 1 123,jB 125 .leq 122 124] (jX 125 8)) (.seq (.block 9 (.region [Cv 128 17,jf 129 2 16,jl 130 1 129,Co 131 (.conv .i8 (.t 130)),Co 132 (.kA 256 1 13 128),jS 1 132 131])) (.region [Cv 126 17,jK 127 .add 126 1,Cv 17 127])))
def nh:Ia:=(jQ [jB 117 .lss 116 115] (.seq (jX 117 6) (.seq (.block 7 (jQ [ji 118 3 114 116,jL 119 3 118,Co 16 (.alloc [(.int .i64 0),(.int .i64 0),(.int .i64 0)]),jS 3 16 119] (jQ [jf 120 0 16,jl 121 1 120,Cv 17 121] (.block 8 (.loop [8,13,16,17,101,102,103,114,115,116] mh))))) (.region [jK 133 .add 116 1,Cv 116 133]))))
def eg:Ia:=(jQ [jB 104 .lss 103 102] (.seq (jX 104 2) (.seq (.block 3 (jQ [ji 105 1 101 103,jl 106 1 105,Cv 12 106] (jQ [Co 107 (.build (List.replicate 256 (.int .i8 0)) []),Co 13 (.alloc (List.replicate 256 (.int .i8 0))),jS 256 13 107] (.seq (jQ [jk 108 0] (.block 4 (.loop [8,12,13,101,102,103,108] jh))) (.seq (jQ [Cv 114 12,jn 115 0 114,jk 116 0] (.block 6 (.loop [8,13,101,102,103,114,115,116] nh))) (.region [Cv 134 8,Cv 135 8,jz 136 135,jf 137 2 136,jl 138 1 137,jL 139 256 13,Co 140 (.Hb .lit 256 true 1 (List.replicate 256 (.int .i8 0)) [(0,(.t 139))]),Co 141 (.ku 256 true 256 138 140),jz 142 134,jf 143 2 142,jS 1 143 141])))))) (.region [jK 144 .add 103 1,Cv 103 144]))))
def Zl:re:=⟨1,[.tmp 2,.tmp 3],(jQ [jR 1 1 0,jc 2 .yd,jk 3 0] (jQ [JL 19 1 1,jp 20 qd 19,Cv 18 20,jx 21 0 18,jx 22 1 18,Co 4 (.alloc [.qa]),jS 1 4 21,Cv 5 22] (.seq (jQ [Cv 23 5,jK 24 .eql 23 0,Cv 25 24,jF 26 25 (.km 5),jF 27 25 (.kK .eql 26 130),jo 28 25 27] (jC 28 (jQ [JL 30 1 1,jp 31 ni 30,Cv 29 31,jx 32 0 29,jx 33 1 29,Co 6 (.alloc [(.bool false),(.int .i64 0),(.int .i64 0)]),jS 3 6 32,Cv 7 33] (jQ [jf 34 0 6,jl 35 1 34,jt 36 35] (jC 36 (.region [jk 5 111]) .skip))) .skip)) (.seq (jQ [Cv 37 5,jK 38 .neq 37 0] (jC 38 (jr [Cv 39 5,jc 2 .yd,Cv 3 39]) .skip)) (jQ [JL 40 1 1,jp 41 Pg 40,jL 42 1 4,Co 43 (.build [.qa,.qa,.qa,.qa,.qa,(.int .i64 0)] [(0,1,(.t 41)),(1,1,(.t 42))]),Co 44 (.box 6 (.t 43)),Cv 8 44] (.ghost (.sy 8 2 256) (.ghost (.sy 8 3 1) (.ghost (.XD 8 4 3 true) (.seq (jQ [Jf 45 0 1,Jl 46 1 45,jn 47 0 46,jk 48 0] (.block 0 (.loop [4,8,46,47,48] cg))) (jQ [Cv 95 8,jz 96 95,jf 97 4 96,jl 98 1 97,Co 99 (.Bd 34 [(.t 98),(.f 36)])] (.seq (jQ [jf 100 0 4,jl 101 1 100,jn 102 0 101,jk 103 0] (.block 2 (.loop [8,101,102,103] eg))) (jr [Cv 145 8,Cv 2 145,jk 3 0]))))))))))))⟩
theorem pw:zc P fo 44 Zl:=fM Go.Proofs.Tryz.func44 (dC fE (dC Zz (dC mu (dC gB (dC IE dN)))))
def Hn:Fa:=fun ix args H=>if ix=34 then Iv 3 0 36 args H else none
def tg:=eG Hn (fun _=>none) Zl
theorem yy:Ga P 44 tg:=MF Lb (kG (fo:=fo) (s:=34) (g:=36) Go.Proofs.pQ) pw
def Ua:Ia:=(.seq (jQ [Cv 15 9,Cv 16 10,jB 17 .lss 15 16] (jX 17 0)) (.block 1 (jQ [Cv 18 9,Cv 19 10,jB 20 .add 18 19,Co 21 (.conv .u64 (.t 20)),Co 22 (.bin .shr (.t 21) (.c (.int .u64 1))),Co 23 (.conv .i64 (.t 22)),Cv 11 23] (jQ [Cv 24 2,Cv 25 0,Cv 26 11,ji 27 3 25 26,jL 28 3 27,Cv 29 1,Co 30 (.Px (.t 24) [(.t 28),(.t 29)]),jK 31 .lss 30 0] (jC 31 (.region [Cv 32 11,jK 33 .add 32 1,Cv 9 33]) (.region [Cv 34 11,Cv 10 34]))))))
def Ma:re:=⟨3,[.tmp 6,.tmp 7],(jQ [jk 6 0,jb 7 false] (jQ [Cv 12 0,jn 13 0 12,Cv 8 13] (jQ [Cv 14 8,jk 9 0,Cv 10 14] (.seq (.block 0 (.loop [0,1,2,8,9,10] Ua)) (jr [Cv 35 9,Cv 36 9,Cv 37 8,jB 38 .lss 36 37,Cv 39 38,jT 40 39 (.km 2),jT 41 39 (.km 0),jT 42 39 (.km 9),jT 43 39 (.ki 3 41 42),jT 44 39 (.kL 3 43),jT 45 39 (.km 1),jT 46 39 (.Px (.t 40) [(.t 44),(.t 45)]),jT 47 39 (.kK .eql 46 0),ja 48 39 47,Cv 6 35,Cv 7 48])))))⟩
def Vg:re:=⟨2,[.tmp 4],(jQ [jR 2 3 0,jk 4 0] (jr [Jf 5 0 2,Jl 6 1 5,Cv 7 1,jq 8 Eg 6 7,Cv 4 8]))⟩
def pf:re:=⟨2,[.cell 4 true 3,.tmp 5],(jQ [Co 4 (.alloc [(.int .i64 0),(.int .i64 0),(.int .i64 0)]),jb 5 false] (.seq (jQ [Cv 8 0,Co 9 (.kE 1 false 8)] (jC 9 (jr [Co 10 (.build [(.int .i64 0),(.int .i64 0),(.int .i64 0)] []),jS 3 4 10,jb 5 false]) .skip)) (jQ [Cv 12 0,jz 13 12,jf 14 4 13,jl 15 1 14,Cv 16 1,Co 17 (.Bd 40 [(.t 15),(.t 16),(.f 41)]),Cv 11 17,jx 18 0 11,jx 19 1 11,Cv 6 18,Cv 7 19] (.seq (jQ [Cv 20 7,jt 21 20] (jC 21 (.region [Cv 22 6,jK 23 .sub 22 1,Cv 6 23]) .skip)) (.seq (jQ [Cv 24 6,jK 25 .lss 24 0,Cv 26 25,jF 27 26 (.km 1),jF 28 26 (.km 0),jF 29 26 (.kz 28),jF 30 26 (.kf 4 29),jF 31 26 (.kl 1 30),jF 32 26 (.km 6),jF 33 26 (.ki 3 31 32),jF 34 26 (.kf 1 33),jF 35 26 (.kl 1 34),jF 36 26 (.kB .gtr 27 35),jo 37 26 36] (jC 37 (jr [Co 38 (.build [(.int .i64 0),(.int .i64 0),(.int .i64 0)] []),jS 3 4 38,jb 5 false]) .skip)) (jr [Cv 39 0,jz 40 39,jf 41 4 40,jl 42 1 41,Cv 43 6,ji 44 3 42 43,jL 45 3 44,jS 3 4 45,jb 5 true]))))))⟩
def ud:Nat→Option re
 |40=>some Ma
 |41=>some Vg
 |_=>none
def od:=fc ud pf
def Xd:Ia:=(jQ [jB 20 .lss 19 18] (.seq (jX 20 0) (.seq (.block 1 (jQ [Cv 21 19,Cv 6 21] (jQ [Cv 22 0,jz 23 22,jf 24 0 23,jl 25 1 24,Cv 26 6,ji 27 258 25 26,Cv 7 27] (jQ [Cv 28 5,Cv 29 7,jz 30 29,jf 31 0 30,jl 32 1 31,Cv 33 1,Cv 34 7,jz 35 34,jf 36 257 35,jl 37 1 36,jB 38 .quo 33 37,Ji 39 1 32 38,Jl 40 1 39,Co 41 (.Hb .lit 1 false 1 [(.int .u8 0)] [(0,(.t 40))]),Co 42 (.ku 1 false 1 28 41),Cv 5 42] (.region [Cv 43 1,Cv 44 7,jz 45 44,jf 46 257 45,jl 47 1 46,jB 48 .rem 43 47,Cv 1 48]))))) (.region [jK 49 .add 19 1,Cv 19 49]))))
def Hk:re:=⟨2,[.tmp 4],(jQ [jc 4 .qa] (jQ [Cv 8 0,jz 9 8,jf 10 0 9,jl 11 1 10,jn 12 0 11,Co 13 (.ye .uq 1 false [(.int .u8 0)] 1 (.c (.int .i64 0)) (.t 12)),Cv 5 13] (.seq (jQ [Cv 14 0,jz 15 14,jf 16 0 15,jl 17 1 16,jn 18 0 17,jk 19 0] (.block 0 (.loop [0,1,5,18,19] Xd))) (jr [Cv 50 5,Cv 4 50]))))⟩
def Lh:=fc (fun _=>none) Hk
def Fi:re:=⟨2,[.tmp 4,.tmp 5],(jQ [jc 4 .qa,jb 5 false] (jQ [Cv 9 0,Cv 10 1,jq 11 od 9 10,Cv 8 11,jx 12 0 8,jx 13 1 8,Co 6 (.alloc [(.int .i64 0),(.int .i64 0),(.int .i64 0)]),jS 3 6 12,Cv 7 13] (.seq (jQ [Cv 14 7,jt 15 14] (jC 15 (jr [jc 4 .qa,jb 5 false]) .skip)) (jr [Cv 16 0,jz 17 16,jf 18 3 17,jl 19 1 18,jf 20 2 6,jl 21 1 20,Ji 22 1 19 21,Jl 23 1 22,Cv 24 1,jf 25 0 6,jl 26 1 25,jB 27 .sub 24 26,jq 28 Lh 23 27,Cv 4 28,jb 5 true]))))⟩
def vg:=fc (fun _=>none) Fi
def Rc:Ia:=(jQ [jB 23 .lss 22 21] (.seq (jX 23 0) (.seq (.block 1 (jQ [Cv 24 22,Cv 7 24] (jQ [Cv 25 0,jz 26 25,jf 27 0 26,jl 28 1 27,Cv 29 7,Cv 30 1,Cv 31 7,Ji 32 1 30 31,Jl 33 1 32,Ji 34 258 28 29,jf 35 1 34,Co 36 (.kA 256 1 35 33),jl 37 1 36,Cp 38 (.conv .i64 (.t 37)),Cv 8 38] (.seq (jQ [Cv 39 8,jK 40 .eql 39 0] (jC 40 (jr [jk 4 0,jb 5 false]) .skip)) (.region [Cv 41 6,Cv 42 8,jK 43 .sub 42 1,Cv 44 0,jz 45 44,jf 46 0 45,jl 47 1 46,Cv 48 7,ji 49 258 47 48,jf 50 257 49,jl 51 1 50,jB 52 .mul 43 51,jB 53 .add 41 52,Cv 6 53]))))) (.region [jK 54 .add 22 1,Cv 22 54]))))
def Af:re:=⟨2,[.tmp 4,.tmp 5],(jQ [jk 4 0,jb 5 false] (.seq (jQ [Cv 9 1,jn 10 0 9,Cv 11 0,jz 12 11,jf 13 0 12,jl 14 1 13,jn 15 0 14,jB 16 .neq 10 15] (jC 16 (jr [jk 4 0,jb 5 false]) .skip)) (jQ [jk 6 0] (.seq (jQ [Cv 17 0,jz 18 17,jf 19 0 18,jl 20 1 19,jn 21 0 20,jk 22 0] (.block 0 (.loop [0,1,6,21,22] Rc))) (jr [Cv 55 6,Cv 4 55,jb 5 true])))))⟩
theorem Yr:zc P fo 106 Af:=fM Go.Proofs.Tryz.func106 dN
def Nd:=fc (fun _=>none) Af
theorem au:Ga P 106 Nd:=Na Lb Yr
def qe:Ia:=(jQ [jB 18 .lss 17 16] (.seq (jX 18 0) (.seq (.block 1 (jQ [Cv 19 17,ji 20 1 15 17,jl 21 1 20,Cv 6 19,Cv 7 21] (jQ [Cv 23 7,Cv 24 1,jq 25 Nd 23 24,Cv 22 25,jx 26 0 22,jx 27 1 22,Cv 8 26,Cv 9 27] (jQ [Cv 28 9] (jC 28 (jr [Cv 29 0,jz 30 29,jf 31 0 30,jf 32 0 31,jl 33 1 32,Cv 34 6,ji 35 2 33 34,jf 36 1 35,jl 37 1 36,Cv 38 8,jB 39 .add 37 38,Cv 4 39,jb 5 true]) .skip))))) (.region [jK 40 .add 17 1,Cv 17 40]))))
def qi:re:=⟨2,[.tmp 4,.tmp 5],(jQ [jk 4 0,jb 5 false] (.seq (jQ [Cv 10 0,Co 11 (.kE 1 false 10)] (jC 11 (jr [jk 4 0,jb 5 false]) .skip)) (.seq (jQ [Cv 12 0,jz 13 12,jf 14 3 13,jl 15 1 14,jn 16 0 15,jk 17 0] (.block 0 (.loop [0,1,15,16,17] qe))) (jr [jk 4 0,jb 5 false]))))⟩
theorem Ar:zc P fo 76 qi:=fM Go.Proofs.Tryz.func76 (dC au dN)
def Ze:=fc (fun _=>none) qi
theorem Wr:Ga P 76 Ze:=Na Lb Ar
def We:re:=⟨3,[.tmp 6,.tmp 7],(jQ [jk 6 0,jb 7 false] (.seq (jQ [Cv 8 0,Co 9 (.kE 1 false 8),Cv 10 9,jF 11 10 (.km 1),jF 12 10 (.kK .lss 11 0),jo 13 10 12,Cv 14 13,jF 15 14 (.km 1),jF 16 14 (.km 0),jF 17 14 (.kz 16),jF 18 14 (.kf 2 17),jF 19 14 (.kl 1 18),jF 20 14 (.kn 0 19),jF 21 14 (.kB .geq 15 20),jo 22 14 21,Cv 23 22,jF 24 23 (.km 0),jF 25 23 (.kz 24),jF 26 23 (.kf 2 25),jF 27 23 (.kl 1 26),jF 28 23 (.km 1),jF 29 23 (.km 2),jF 30 23 (.ki 256 27 28),jF 31 23 (.kA 256 1 30 29),jF 32 23 (.kl 1 31),jF 33 23 (.bin .eql (.t 32) (.c (.int .i8 (-2)))),jo 34 23 33] (jC 34 (jr [jk 6 0,jb 7 false]) .skip)) (jr [Cv 35 0,jz 36 35,jf 37 2 36,jl 38 1 37,Cv 39 1,Cv 40 2,ji 41 256 38 39,Co 42 (.kA 256 1 41 40),jl 43 1 42,Co 44 (.conv .i64 (.t 43)),Cv 6 44,jb 7 true])))⟩
theorem Yt:zc P fo 86 We:=fM Go.Proofs.Tryz.func86 dN
def ie:=fc (fun _=>none) We
theorem Lm:Ga P 86 ie:=Na Lb Yt
end Go.AM.B1
namespace Go.AM.B1
open Go.AM
end Go.AM.B1
namespace Go.AM.B1
open Go.AM
def Fo:Ia:=(.seq (jQ [Cv 11 5,Cv 12 0,jn 13 0 12,jB 14 .lss 11 13] (jX 14 0)) (.seq (.block 1 (jQ [Cv 17 0,Cv 18 5,Ji 19 5 17 18,JL 20 5 19,Cv 21 1,Cv 22 5,Ji 23 5 21 22,JL 24 5 23,Co 25 (.GR (.row [1,1,1,1,1]) true (.t 20) (.t 24))] (jC 25 (jr [jb 4 false]) .skip))) (.region [Cv 15 5,jK 16 .add 15 1,Cv 5 16])))
def Dk:re:=⟨2,[.tmp 4],(jQ [jb 4 false] (.seq (jQ [Cv 6 0,jn 7 0 6,Cv 8 1,jn 9 0 8,jB 10 .neq 7 9] (jC 10 (jr [jb 4 false]) .skip)) (.seq (jQ [jk 5 0] (.block 0 (.loop [0,1,5] Fo))) (jr [jb 4 true]))))⟩
theorem Hq:zc P fo 22 Dk:=fM Go.Proofs.Tryz.func22 dN
def bd:=fc (fun _=>none) Dk
theorem Uh:Ga P 22 bd:=Na Lb Hq
end Go.AM.B1
namespace Go.AM.B1
open Go.AM
end Go.AM.B1
set_option linter.unusedSimpArgs false
namespace Go.AM
open Go
section
variable {P:Program} {F:Fence} {n:Nat} {ops:Array Oper} {md:Region.Mode}
end
section
variable {P:Program} {fo:Nat→FuncId} {B0:se} {call:Fa}
end
end Go.AM
