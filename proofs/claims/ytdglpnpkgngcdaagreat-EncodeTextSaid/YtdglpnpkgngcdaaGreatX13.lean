/- What functions of the program compute. -/
import Derived.Test.YtdglpnpkgngcdaaGreatX3
import Derived.Test.YtdglpnpkgngcdaaGreatX12
import Derived.Test.YtdglpnpkgngcdaaGreatX11
import Derived.Test.YtdglpnpkgngcdaaGreatX6
import Derived.Test.YtdglpnpkgngcdaaGreatX7
import Derived.Test.YtdglpnpkgngcdaaGreatX10
set_option linter.unusedVariables false
namespace Go.AM.B1
open Go.AM
def ei:mf:=⟨3,[.tmp 6,.tmp 7],(jQ [jc 6 .Kf,jk 7 0] (.seq (.block 0 (jQ [Cv 12 0,Co 13 (.kE 1 false 12),Cv 11 13] (jC 11 (jr [jc 6 .Kf,jk 7 2]) (jQ [Cv 15 1,jK 16 .lss 15 1,Cv 17 16,jF 18 17 (.km 1),jF 19 17 (.kK .gtr 18 3),jo 20 17 19,Cv 14 20] (jC 14 (jr [jc 6 .Kf,jk 7 180]) .skip))))) (jQ [Cv 21 0,Cv 22 1,Co 23 (.build [.Kf,(.int .i64 0),.fa,(.int .i64 0),(.int .i64 0),(.bool false),(.bool false)] [(0,1,(.t 21)),(1,1,(.t 22))]),Co 24 (.box 7 (.t 23)),Cv 8 24] (.seq (jQ [Cv 25 1,jK 26 .eql 25 2] (jC 26 (jQ [Cv 28 0,Cv 29 2,jq 30 Be 28 29,Cv 27 30,jx 31 0 27,jx 32 1 27,Cv 9 31,Cv 10 32] (.seq (jQ [Cv 33 10,jt 34 33] (jC 34 (jr [jc 6 .Kf,jk 7 190]) .skip)) (.region [Cv 35 8,Cv 36 9,jz 37 35,jf 38 2 37,jS 1 38 36]))) .skip)) (jr [Cv 39 8,Cv 6 39,jk 7 0])))))⟩
theorem ax:tc P fo 34 ei:=fM Go.Proofs.Tryz.func34 (dC Vn dN)
def sk:mf:=⟨0,[.tmp 0],(jQ [jc 0 .Kf] (jQ [Co 4 (.build [(.int .i64 0),(.int .i64 0)] [(0,1,(.c (.int .i64 128))),(1,1,(.c (.int .i64 191)))]),Co 5 (.Fb .lit 2 true 1 [(.int .i64 0),(.int .i64 0)] [(0,(.t 4))]),Cv 1 5] (jQ [Co 7 (.build [(.int .i64 0),(.int .i64 0)] [(0,1,(.c (.int .i64 0))),(1,1,(.c (.int .i64 127)))]),Co 8 (.Fb .lit 2 true 1 [(.int .i64 0),(.int .i64 0)] [(0,(.t 7))]),Co 9 (.Fb .lit 1 false 1 [.fa] [(0,(.t 8))]),Co 10 (.build [.fa,(.int .i64 0)] [(0,1,(.t 9))]),Co 11 (.build [(.int .i64 0),(.int .i64 0)] [(0,1,(.c (.int .i64 194))),(1,1,(.c (.int .i64 223)))]),Co 12 (.Fb .lit 2 true 1 [(.int .i64 0),(.int .i64 0)] [(0,(.t 11))]),Cv 13 1,Co 14 (.Fb .lit 1 false 2 [.fa] [(0,(.t 12)),(1,(.t 13))]),Co 15 (.build [.fa,(.int .i64 0)] [(0,1,(.t 14)),(1,1,(.c (.int .i64 128)))]),Co 16 (.build [(.int .i64 0),(.int .i64 0)] [(0,1,(.c (.int .i64 225))),(1,1,(.c (.int .i64 225)))]),Co 17 (.Fb .lit 2 true 1 [(.int .i64 0),(.int .i64 0)] [(0,(.t 16))]),Cv 18 1,Cv 19 1,Co 20 (.Fb .lit 1 false 3 [.fa] [(0,(.t 17)),(1,(.t 18)),(2,(.t 19))]),Co 21 (.build [.fa,(.int .i64 0)] [(0,1,(.t 20)),(1,1,(.c (.int .i64 4096)))]),Co 22 (.Fb .lit 2 true 3 [.fa,(.int .i64 0)] [(0,(.t 10)),(1,(.t 15)),(2,(.t 21))]),Co 23 (.build [.fa] [(0,1,(.t 22))]),jp 24 Gb 23,Cv 6 24,jx 25 0 6,jx 26 1 6,Cv 2 25,Cv 3 26] (jr [Cv 27 2,Cv 0 27]))))⟩
theorem Yu:tc P fo 35 sk:=fM Go.Proofs.Tryz.func35 (dC Ku dN)
def oi:=Xb (fun _=>none) sk
theorem zv:Ma P 35 oi:=Ia Ya Yu
def Hb:mf:=⟨2,[.tmp 4],(jQ [jk 4 0] (.seq (.block 0 (jQ [Cv 6 0,Co 7 (.kE 1 false 6),Cv 5 7] (jC 5 (jr [jk 4 2]) (jQ [Cv 9 0,jz 10 9,jf 11 6 10,jl 12 1 11,Cv 8 12] (jC 8 (jr [jk 4 181]) (jQ [Cv 14 0,jz 15 14,jf 16 5 15,jl 17 1 16,Cv 13 17] (jC 13 (jr [jk 4 182]) (jQ [Cv 19 1,Cv 20 0,jz 21 20,jf 22 3 21,jl 23 1 22,Co 24 (.bin .sub (.c (.int .i64 65536)) (.t 23)),jB 25 .gtr 19 24,Cv 18 25] (jC 18 (jr [jk 4 183]) .skip))))))))) (jr [jk 4 0])))⟩
theorem Nl:tc P fo 85 Hb:=fM Go.Proofs.Tryz.func85 dN
def od:Oa:=(jQ [jB 38 .lss 37 36] (.seq (jX 38 0) (.seq (.block 1 (jQ [Cv 39 37,ji 40 1 35 37,jl 41 1 40,Cv 11 39,Cv 12 41] (jQ [Cv 43 0,jz 44 43,jf 45 0 44,jl 46 1 45,Cv 47 12,jq 48 Be 46 47,Cv 42 48,jx 49 0 42,jx 50 1 42,Cv 13 49,Cv 14 50] (.seq (jQ [Cv 51 14] (jC 51 (jQ [Cv 52 8,Cv 53 13,Co 54 (.ku 1 false 1 52 53),Cv 8 54] (.exit 1)) .skip)) (jQ [Cv 55 9,Cv 56 10,Cv 57 11,jB 58 .add 56 57,Cv 59 12,Cv 60 0,jz 61 60,jf 62 4 61,jl 63 1 62,Cv 64 8,jn 65 0 64,jB 66 .add 63 65,Co 67 (.build [(.int .i64 0),(.int .i64 0),(.int .i64 0),(.int .i64 0),(.int .i64 0)] [(0,1,(.c (.int .i64 4))),(1,1,(.t 58)),(2,1,(.c (.int .i64 1))),(3,1,(.t 59)),(4,1,(.t 66))]),Co 68 (.Fb .lit 5 true 1 [(.int .i64 0),(.int .i64 0),(.int .i64 0),(.int .i64 0),(.int .i64 0)] [(0,(.t 67))]),Co 69 (.ku 5 true 40 55 68),Cv 9 69] (jQ [Cv 70 0,jz 71 70,jf 72 1 71,jl 73 1 72] (.block 2 (jQ [jK 75 .eql 73 2,Cv 74 75] (jC 74 (.region [Cv 76 8,Cv 77 0,jz 78 77,jf 79 2 78,jl 80 1 79,Co 81 (.ku 1 false 1 76 80),Cv 8 81]) (jQ [jK 83 .eql 73 3,Cv 82 83] (jC 82 (jQ [Cv 84 0,jz 85 84,jf 86 5 85,Ce (.store 1 (.t 86) (.c (.bool true)))] (.exit 0)) .skip))))))))))) (.region [jK 87 .add 37 1,Cv 37 87]))))
def ud:mf:=⟨2,[.tmp 4,.tmp 5,.tmp 6],(jQ [jc 4 .fa,jc 5 .fa,jk 6 0] (.scope (.seq (jQ [Cv 15 0,Cv 16 1,jn 17 0 16,Co 18 (.Dh 62 [(.t 15),(.t 17)]),Cv 7 18] (jQ [Cv 19 7,jK 20 .neq 19 0] (jC 20 (jr [Cv 21 7,jc 4 .fa,jc 5 .fa,Cv 6 21]) .skip))) (jQ [jc 8 .fa] (.ghost (.LB 8 1) (jQ [jc 9 .fa] (.ghost (.LB 9 5) (jQ [Cv 22 0,jz 23 22,jf 24 3 23,jl 25 1 24,Cv 10 25] (jQ [Cv 26 0,jz 27 26,jf 28 3 27,jl 29 1 28,Cv 30 1,jn 31 0 30,jB 32 .add 29 31,jz 33 26,jf 34 3 33,jS 1 34 32] (.seq .skip (.seq (jQ [Cv 35 1,jn 36 0 35,jk 37 0] (.block 0 (.loop [0,8,9,10,35,36,37] od))) (jQ [Cv 88 0,jz 89 88,jf 90 4 89,jl 91 1 90,Cv 92 8,jn 93 0 92,jB 94 .add 91 93,jz 95 88,jf 96 4 95,jS 1 96 94] (jr [Cv 97 8,Cv 98 9,Cv 4 97,Cv 5 98,jk 6 0])))))))))))))⟩
theorem sm:tc P fo 37 ud:=fM Go.Proofs.Tryz.func37 (dC Vn dN)
def Cr:Oa:=(.seq (jQ [Cv 11 5,Cv 12 0,jn 13 0 12,jB 14 .lss 11 13] (jX 14 0)) (.seq (.block 1 (jQ [Cv 17 0,Cv 18 5,Ji 19 5 17 18,JL 20 5 19,Cv 21 1,Cv 22 5,Ji 23 5 21 22,JL 24 5 23,Co 25 (.zV (.row [1,1,1,1,1]) true (.t 20) (.t 24))] (jC 25 (jr [jb 4 false]) .skip))) (.region [Cv 15 5,jK 16 .add 15 1,Cv 5 16])))
def Om:mf:=⟨2,[.tmp 4],(jQ [jb 4 false] (.seq (jQ [Cv 6 0,jn 7 0 6,Cv 8 1,jn 9 0 8,jB 10 .neq 7 9] (jC 10 (jr [jb 4 false]) .skip)) (.seq (jQ [jk 5 0] (.block 0 (.loop [0,1,5] Cr))) (jr [jb 4 true]))))⟩
theorem fu:tc P fo 55 Om:=fM Go.Proofs.Tryz.func55 dN
def Lj:=Xb (fun _=>none) Om
theorem gv:Ma P 55 Lj:=Ia Ya fu
def cm:mf:=⟨1,[.tmp 2],(jQ [jk 2 0] (.seq (jQ [Cv 3 0,Co 4 (.kE 1 false 3)] (jC 4 (jr [jk 2 0]) .skip)) (jr [Cv 5 0,jz 6 5,jf 7 3 6,jl 8 1 7,Cv 2 8])))⟩
theorem js:tc P fo 38 cm:=fM Go.Proofs.Tryz.func38 dN
def eh:=Xb (fun _=>none) cm
theorem Dm:Ma P 38 eh:=Ia Ya js
def Qn:mf:=⟨1,[.tmp 2],(jQ [jk 2 0] (.seq (jQ [Cv 3 0,Co 4 (.kE 1 false 3)] (jC 4 (jr [jk 2 0]) .skip)) (jr [Cv 5 0,jz 6 5,jf 7 4 6,jl 8 1 7,Cv 2 8])))⟩
theorem Su:tc P fo 58 Qn:=fM Go.Proofs.Tryz.func58 dN
def ai:=Xb (fun _=>none) Qn
theorem Un:Ma P 58 ai:=Ia Ya Su
def ij:mf:=⟨0,[.tmp 0],(jQ [jb 0 false] (jQ [Co 10 (.Po oi []),Co 11 (.Dh 60 [(.t 10),(.c (.int .i64 2)),(.c (.int .i64 63))]),Cv 9 11,jx 12 0 9,jx 13 1 9,Cv 1 12,Cv 2 13] (.seq (jQ [Cv 14 1,Co 15 (.kE 1 false 14),Cv 16 15,jF 17 16 (.km 2),jF 18 16 (.kK .neq 17 0),jo 19 16 18] (jC 19 (jr [jb 0 false]) .skip)) (jQ [Cv 21 1,Co 22 (.Fb .lit 1 false 2 [(.int .i64 0)] [(0,(.c (.int .i64 65))),(1,(.c (.int .i64 233)))]),Co 23 (.Dh 61 [(.t 21),(.t 22)]),Cv 20 23,jx 24 0 20,jx 25 1 20,jx 26 2 20,Cv 3 24,Cv 4 25,Cv 5 26] (jQ [Cv 28 1,Co 29 (.Fb .lit 1 false 2 [(.int .i64 0)] [(0,(.c (.int .i64 3000))),(1,(.c (.int .i64 66)))]),Co 30 (.Dh 61 [(.t 28),(.t 29)]),Cv 27 30,jx 31 0 27,jx 32 1 27,jx 33 2 27,Cv 6 31,Cv 7 32,Cv 8 33] (jr [Cv 34 5,jK 35 .eql 34 0,Cv 36 35,jT 37 36 (.km 8),jT 38 36 (.kK .eql 37 0),ja 39 36 38,Cv 40 39,jT 41 40 (.km 3),jT 42 40 (.CT (.t 41)),⟨(some 43),.bin .eql (.t 42) (.c (.str ⟨#[65,195,169]⟩)),(some (40,true)),false⟩,ja 44 40 43,Cv 45 44,jT 46 45 (.km 4),jT 47 45 (.kn 0 46),jT 48 45 (.kK .eql 47 0),ja 49 45 48,Cv 50 49,jT 51 50 (.km 6),jT 52 50 (.CT (.t 51)),⟨(some 53),.bin .eql (.t 52) (.c (.str ⟨#[63,66]⟩)),(some (50,true)),false⟩,ja 54 50 53,Cv 55 54,jT 56 55 (.km 7),jT 57 55 (.build [(.int .i64 0),(.int .i64 0),(.int .i64 0),(.int .i64 0),(.int .i64 0)] [(0,1,(.c (.int .i64 4))),(1,1,(.c (.int .i64 2))),(2,1,(.c (.int .i64 1))),(3,1,(.c (.int .i64 3000))),(4,1,(.c (.int .i64 3)))]),jT 58 55 (.Fb .lit 5 true 1 [(.int .i64 0),(.int .i64 0),(.int .i64 0),(.int .i64 0),(.int .i64 0)] [(0,(.t 57))]),jT 59 55 (.kq Lj 56 58),ja 60 55 59,Cv 61 60,jT 62 61 (.km 1),jT 63 61 (.kp eh 62),jT 64 61 (.kK .eql 63 4),ja 65 61 64,Cv 66 65,jT 67 66 (.km 1),jT 68 66 (.kp ai 67),jT 69 66 (.kK .eql 68 5),ja 70 66 69,Cv 0 70]))))))⟩
theorem Ws:tc P fo 36 ij:=fM Go.Proofs.Tryz.func36 (dC zv (dC gv (dC Dm (dC Un dN))))
def Ub:Nat→Option mf
 |60=>some ei
 |61=>some ud
 |62=>some Hb
 |_=>none
theorem br:Tj P fo Ub:=by
 intro ix af h
 unfold Ub at h
 split at h
 ·injection h with h;subst h;exact ax
 ·injection h with h;subst h;exact sm
 ·injection h with h;subst h;exact Nl
 ·cases h
def Zg:=Xb Ub ij
theorem Du:Ma P 36 Zg:=Ia br Ws
def Nh:mf:=⟨1,[.tmp 2,.tmp 3],(jQ [jR 1 1 0,jc 2 .Kf,jb 3 false] (jQ [JL 9 1 1,jp 10 Kh 9,jp 11 Gb 10,Cv 8 11,jx 12 0 8,jx 13 1 8,Cv 4 12,Cv 5 13] (jQ [JL 15 1 1,jp 16 bd 15,Cv 14 16,jx 17 0 14,jx 18 1 14,Co 6 (.alloc [.fa]),jS 1 6 17,Cv 7 18] (jr [Cv 19 4,Cv 20 5,Cv 21 7,jB 22 .eql 20 21,Cv 23 22,jT 24 23 (.km 4),jT 25 23 (.kE 1 false 24),jT 26 23 (.km 7),jT 27 23 (.kK .neq 26 0),jT 28 23 (.ke 0 25 27),ja 29 23 28,Cv 2 19,Cv 3 29]))))⟩
theorem Eu:tc P fo 39 Nh:=fM Go.Proofs.Tryz.func39 (dC dv (dC Ku (dC Mr dN)))
def kg:=Xb (fun _=>none) Nh
theorem Qu:Ma P 39 kg:=Ia Ya Eu
def Wk:mf:=⟨1,[.tmp 2],(jQ [jb 2 false] (jr [Cv 3 0,Co 4 (.kE 1 true 3),Cv 5 4,jT 6 5 (.km 0),jT 7 5 (.kz 6),jT 8 5 (.kf 5 7),jT 9 5 (.kl 1 8),ja 10 5 9,Cv 2 10]))⟩
theorem Aq:tc P fo 40 Wk:=fM Go.Proofs.Tryz.func40 dN
def Ai:=Xb (fun _=>none) Wk
theorem Hr:Ma P 40 Ai:=Ia Ya Aq
def bk:Oa:=(jQ [jB 17 .lss 16 15] (.seq (jX 17 0) (.seq (.block 1 (jQ [Cv 18 16,ji 19 1 14 16,jl 20 1 19,Cv 8 18,Cv 9 20] (jQ [JL 21 1 2,Cv 22 9,jq 23 Bj 21 22,Cv 10 23] (.seq (jQ [Cv 24 10,Co 25 (.eq 2 false (.t 24) (.c .fa))] (jC 25 (jr [Cv 26 8,jc 4 .fa,Cv 5 26,jk 6 100]) .skip)) (.region [Cv 27 7,Cv 28 10,Co 29 (.ku 1 false 1 27 28),Cv 7 29]))))) (.region [jK 30 .add 16 1,Cv 16 30]))))
def Kq:mf:=⟨2,[.tmp 4,.tmp 5,.tmp 6],(jQ [jR 2 1 0,jc 4 .fa,jk 5 0,jk 6 0] (.seq (jQ [JL 11 1 2,jp 12 qf 11,jt 13 12] (jC 13 (jr [jc 4 .fa,jk 5 0,jk 6 84]) .skip)) (jQ [jc 7 .fa] (.ghost (.LB 7 1) (.seq (jQ [Cv 14 1,jn 15 0 14,jk 16 0] (.block 0 (.loop [2,7,14,15,16] bk))) (jr [Cv 31 7,Cv 4 31,jk 5 0,jk 6 0]))))))⟩
theorem TG:tc P fo 61 Kq:=fM Go.Proofs.Tryz.func61 (dC Vp (dC cF dN))
def Cl:=Xb (fun _=>none) Kq
theorem sJ:Ma P 61 Cl:=Ia Ya TG
def Cd:Oa:=(.seq (jQ [Cv 58 16,Cv 59 2,jn 60 0 59,jB 61 .leq 58 60] (jX 61 0)) (.seq (.block 1 (jQ [Cv 64 1,jn 65 0 64,Cv 66 15,jB 67 .sub 65 66,Cv 17 67] (.seq (jQ [Cv 68 16,Cv 69 2,jn 70 0 69,jB 71 .lss 68 70] (jC 71 (.region [Cv 72 2,Cv 73 16,ji 74 1 72 73,jl 75 1 74,Co 76 (.mx [(.t 75),(.c (.int .i64 0))]),Cv 77 17,Co 78 (.mn [(.t 76),(.t 77)]),Cv 17 78]) .skip)) (jQ [Cv 80 12,Co 81 (.Fb .uq 1 false 0 [(.int .i64 0)] []),Cv 82 1,Cv 83 15,Cv 84 15,Cv 85 17,jB 86 .add 84 85,Co 87 (.slice 1 (.t 82) (some (.t 83)) (some (.t 86))),Co 88 (.ku 1 false 8 81 87),Co 89 (.Dh 61 [(.t 80),(.t 88)]),Cv 79 89,jx 90 0 79,jx 91 1 79,jx 92 2 79,Cv 18 90,Cv 19 91,Cv 20 92] (jQ [Cv 93 15,Cv 94 17,jB 95 .add 93 94,Cv 15 95] (jQ [Cv 96 14,Cv 97 18,Co 98 (.ku 1 false 1 96 97),Cv 14 98] (jQ [Cv 99 20,jK 100 .neq 99 0,Cv 101 100,jF 102 101 (.km 19),jF 103 101 (.kn 0 102),jF 104 101 (.kK .neq 103 0),jo 105 101 104,Cv 106 105,jF 107 106 (.km 12),jF 108 106 (.kp ai 107),jF 109 106 (.km 14),jF 110 106 (.kn 0 109),jF 111 106 (.kB .neq 108 110),jo 112 106 111,Cv 113 112,jF 114 113 (.km 12),jF 115 113 (.kp eh 114),jF 116 113 (.km 15),jF 117 113 (.kB .neq 115 116),jo 118 113 117] (jC 118 (jr [jb 6 false]) .skip)))))))) (.region [Cv 62 16,jK 63 .add 62 1,Cv 16 63])))
def Bb:mf:=⟨3,[.tmp 6],(jQ [jR 3 1 0,jb 6 false] (.seq (jQ [Co 21 (.Po Zg []),jt 22 21] (jC 22 (jr [jb 6 false]) .skip)) (jQ [JL 24 1 3,jp 25 kg 24,Cv 23 25,jx 26 0 23,jx 27 1 23,Cv 7 26,Cv 8 27] (jQ [JL 29 1 3,Cv 30 1,jq 31 Cl 29 30,Cv 28 31,jx 32 0 28,jx 33 1 28,jx 34 2 28,Cv 9 32,Cv 10 33,Cv 11 34] (.seq (jQ [Cv 35 7,Co 36 (.kE 1 false 35),Cv 37 36,jF 38 37 (.km 11),jF 39 37 (.kK .neq 38 0),jo 40 37 39,Cv 41 40,jF 42 41 (.km 1),jF 43 41 (.kn 0 42),jF 44 41 (.kK .gtr 43 65536),jo 45 41 44] (jC 45 (jr [Cv 46 8,Cv 6 46]) .skip)) (jQ [Cv 48 7,Co 49 (.Dh 60 [(.t 48),(.c (.int .i64 3)),(.c (.int .i64 (-1)))]),Cv 47 49,jx 50 0 47,jx 51 1 47,Cv 12 50,Cv 13 51] (.seq (jQ [Cv 52 12,Co 53 (.kE 1 false 52),Cv 54 53,jF 55 54 (.km 13),jF 56 54 (.kK .neq 55 0),jo 57 54 56] (jC 57 (jr [jb 6 false]) .skip)) (jQ [jc 14 .fa] (.ghost (.LB 14 1) (jQ [jk 15 0] (.seq (jQ [jk 16 0] (.block 0 (.loop [1,2,9,12,14,15,16] Cd))) (jr [Cv 119 14,Co 120 (.CT (.t 119)),Cv 121 9,Co 122 (.CT (.t 121)),jB 123 .eql 120 122,Cv 124 123,jT 125 124 (.km 12),jT 126 124 (.kp Ai 125),jT 127 124 (.kt 126),ja 128 124 127,Cv 6 128]))))))))))))⟩
theorem yo:tc P fo 13 Bb:=fM Go.Proofs.Tryz.func13 (dC Du (dC Qu (dC sJ (dC Un (dC Dm (dC Hr dN))))))
def Ra:Nat→Option mf
 |60=>some ei
 |61=>some ud
 |62=>some Hb
 |_=>none
theorem Sn:Tj P fo Ra:=by
 intro ix af h
 unfold Ra at h
 split at h
 ·injection h with h;subst h;exact ax
 ·injection h with h;subst h;exact sm
 ·injection h with h;subst h;exact Nl
 ·cases h
def Uo:=Xb Ra Bb
theorem cp:Ma P 13 Uo:=Ia Sn yo
end Go.AM.B1
set_option linter.unusedSimpArgs false
namespace Go.AM.B1
open Go.AM Go.AM.So
def Ue (T R:PV) (un tot out:Int) (st fin:Bool):ba:= .box ([T,i64 un,R,i64 tot,i64 out,.bool st,.bool fin].map .pv)
theorem Aw {T R:PV} {un tot out:Int} {st fin:Bool}:Ue T R un tot out st fin= .box [.pv T,.pv (i64 un),.pv R,.pv (i64 tot),.pv (i64 out),.pv (.bool st),.pv (.bool fin)]:=rfl
def qF (a u o:Int):PV:= .agg [i64 4,i64 a,i64 1,i64 u,i64 o]
def ml (cd:Int→Option (List Int)) (un:Int) (rb:List Int) (base out:Int):Nat→List Int→List PV→List Int→List Int×List PV×Bool
 |_,acc,evs,[]=>(acc,evs,false)
 |i,acc,evs,u::us=>match cd u with
  |some b=>ml cd un rb base out (i+1) (acc++b) evs us
  |none=>if un=3 then (acc,evs++[qF (base+i) u (out+acc.length)],true) else ml cd un rb base out (i+1) (acc++rb) (evs++[qF (base+i) u (out+acc.length)]) us
structure nF (T:PV) (cd:Int→Option (List Int)):Prop where
 enc:∀ u,Be [T,i64 u]=some (match cd u with | some b=> .oc [.lit 1 (b.map u8),.bool true] | none=> .oc [.fa,.bool false])
 len:∀ u b,cd u=some b→b.length≤8
 ptr:∃ R,T= .rp R 0
structure nv (U:AV) (us:List Int) (n0:Nat):Prop where
 len:∀ H,Tb H 0 U=some us.length
 LX:∀ H (i:Nat) (h:i < us.length),wa H 1 U i=some (.pv (.rp [i64 us[i]] 0))
 cut:∀ n,n0≤n→AV.cut n deep U=some U
theorem VD {A:List ba} {id n sz bytes:Nat} {nl nl' ag:Bool} {h:rf} {es ys:List PV} (hg:A[id]? =some (.tok sz n nl')) (hn:n=es.length) (hr:mb (es.length+ys.length) bytes):
 Ob A false h sz ag bytes (.uq id nl sz es) (.pv (.lit sz ys))=some (.uq id (nl&&ys.isEmpty) sz (es++ys),A.set id (.tok sz (es.length+ys.length) (nl&&ys.isEmpty))):=by
 subst hn
 simp only[Ob,Bool.false_eq_true,if_false,hg,Je,if_true,Option.bind_some]
 rw[if_pos ⟨trivial,trivial,trivial,hr⟩]
section
variable {A:List ba} {c:Nat}
def Um (A:List ba) (c:Nat) (b:ba) (k1:Nat) (n1:Bool) (k5:Nat) (n5:Bool):List ba:=A.set c b++[.tok 1 k1 n1,.tok 5 k5 n5]
theorem Py (hc:c < A.length) (b:ba) (k1:Nat) (n1:Bool) (k5:Nat) (n5:Bool):(Um A c b k1 n1 k5 n5)[c]? =some b:=by
 unfold Um
 rw[List.getElem?_append_left (by rw[List.length_set];exact hc),List.getElem?_set_self hc]
theorem pX (b:ba) (k1:Nat) (n1:Bool) (k5:Nat) (n5:Bool):(Um A c b k1 n1 k5 n5)[A.length]? =some (.tok 1 k1 n1):=by
 unfold Um
 rw[List.getElem?_append_right (by rw[List.length_set];exact Nat.le_refl _),List.length_set,Nat.sub_self];rfl
theorem rX (b:ba) (k1:Nat) (n1:Bool) (k5:Nat) (n5:Bool):(Um A c b k1 n1 k5 n5)[A.length+1]? =some (.tok 5 k5 n5):=by
 unfold Um
 rw[List.getElem?_append_right (by rw[List.length_set];omega),List.length_set,show A.length+1 - A.length=1 by omega];rfl
theorem AE (hc:c < A.length) (b b':ba) (k1:Nat) (n1:Bool) (k5:Nat) (n5:Bool):(Um A c b k1 n1 k5 n5).set c b'=Um A c b' k1 n1 k5 n5:=by
 unfold Um
 rw[List.set_append_left _ _ (by rw[List.length_set];exact hc),List.set_set]
theorem ZQ (b:ba) (k1 j:Nat) (n1 m:Bool) (k5:Nat) (n5:Bool):(Um A c b k1 n1 k5 n5).set A.length (.tok 1 j m)=Um A c b j m k5 n5:=by
 unfold Um
 rw[List.set_append_right _ _ (by rw[List.length_set];exact Nat.le_refl _),List.length_set,Nat.sub_self];rfl
theorem iR (b:ba) (k1 j:Nat) (n1 m:Bool) (k5:Nat) (n5:Bool):(Um A c b k1 n1 k5 n5).set (A.length+1) (.tok 5 j m)=Um A c b k1 n1 j m:=by
 unfold Um
 rw[List.set_append_right _ _ (by rw[List.length_set];omega),List.length_set,show A.length+1 - A.length=1 by omega];rfl
theorem Qt (b:ba) (k1:Nat) (n1:Bool) (k5:Nat) (n5:Bool):(Um A c b k1 n1 k5 n5).length=A.length+2:=by
 simp[Um]
theorem dR (hA:cf A) {T R:PV} {un tot out:Int} {st fin:Bool} (k1:Nat) (n1:Bool) (k5:Nat) (n5:Bool):∀ o∈Um A c (Ue T R un tot out st fin) k1 n1 k5 n5,oa (A.length+2) o=some o:=by
 intro o ho
 unfold Um at ho
 rcases List.mem_append.1 ho with h | h
 ·rcases List.mem_or_eq_of_mem_set h with h | rfl
  ·exact hA _ (by omega) _ h
  ·exact yj _ _
 ·simp only[List.mem_cons,List.not_mem_nil,or_false] at h
  rcases h with rfl | rfl <;> rfl
theorem CO {call:Xa} {H:List ba} {T R:PV} {un tot out:Int} {st fin:Bool} (hc:H[c]? =some (Ue T R un tot out st fin)) (h0:0≤tot) (h1:tot≤65536) {n:Nat}:
 og call Hb [.ptr c 0,.pv (i64 n)] H=some (.pv (i64 (if fin then 181 else if st then 182 else if (n:Int) > 65536 - tot then 183 else 0)),H):=by
 have e1:Hu H 1 (.ptr c 0) (.pv .Kf)=some false:=by simp only[Hu,hc,Aw]
 have p1:∀ d,place H d (.ptr c 0)=some (.ptr c (0+d)):=fun d=>we hc d 0
 have l6:ya H false 1 (.ptr c 6)=some (.pv (.bool fin)):=by simp only[ya,hc,Aw];rfl
 have l5:ya H false 1 (.ptr c 5)=some (.pv (.bool st)):=by simp only[ya,hc,Aw];rfl
 have l3:ya H false 1 (.ptr c 3)=some (.pv (i64 tot)):=by simp only[ya,hc,Aw];rfl
 have w1:IntKind.i64.wrap (65536 - tot)=65536 - tot:=Ba (by omega)
 cases fin with
 |true=>simp -implicitDefEqProofs only[SX,sevalprocAttr,Hb,e1,p1,l6]
 |false=>
  cases st with
  |true=>simp -implicitDefEqProofs only[SX,sevalprocAttr,Hb,e1,p1,l6,l5,Bool.false_eq_true,if_false]
  |false=>
   by_cases h:(n:Int) > 65536 - tot
   ·have d1:decide ((n:Int) > 65536 - tot)=true:=decide_eq_true h
    simp -implicitDefEqProofs only[SX,sevalprocAttr,Hb,e1,p1,l6,l5,l3,w1,d1,Bool.false_eq_true,if_false,if_pos h]
   ·have d1:decide ((n:Int) > 65536 - tot)=false:=decide_eq_false h
    simp -implicitDefEqProofs only[SX,sevalprocAttr,Hb,e1,p1,l6,l5,l3,w1,d1,Bool.false_eq_true,if_false,if_neg h]
theorem CU {call:Xa} {E:Tr} (hA:cf A) (hc:c < A.length) {T R:PV} {cd:Int→Option (List Int)} (hT:nF T cd) {un tot tot' out:Int} {fin:Bool} {rb:List Int} (hR:un=2→R= .lit 1 (rb.map u8)) (hn:un≠2→rb=[]) (hrb:rb.length≤8)
 {U:AV} {us:List Int} (hU:nv U us A.length) (hus:us.length≤65536) (ht0:0≤tot) (ht1:tot≤65536) (ho0:0≤out) (ho1:out≤524288)
 (h0:E.get 0= .ptr c 0) (h8:E.get 8= .uq A.length true 1 []) (h9:E.get 9= .uq (A.length+1) true 5 []) (h10:E.get 10= .pv (i64 tot)) (h35:E.get 35=U) (h36:E.get 36= .pv (i64 us.length)) (h37:E.get 37= .pv (i64 0)):
 Ld (fun r=>r.1.stop=true∧∃ E' acc evs st n1 n5,r=(.exit 0,⟨E',Um A c (Ue T R un tot' out st fin) acc.length n1 evs.length n5⟩)∧E'.get 0= .ptr c 0∧E'.get 8= .uq A.length n1 1 (acc.map u8)∧E'.get 9= .uq (A.length+1) n5 5 evs∧
  ml cd un rb tot out 0 [] [] us=(acc,evs,st)∧(n1=true→acc=[])∧(n5=true→evs=[])∧acc.length≤8 * us.length)
  (ta call (.loop [0,8,9,10,35,36,37] od) ⟨E,Um A c (Ue T R un tot' out false fin) 0 true 0 true⟩):=by
 have hcut:Fit (A.length+2) [0,10,35,36] E:= .cons h0 (Qo (by omega)) (.cons h10 Ha (.cons h35 (hU.cut _ (by omega)) (.cons h36 Ha (.nil _ _))))
 have hgd:=fun st k1 n1 k5 n5=>dR (c:=c) hA (T:=T) (R:=R) (un:=un) (tot:=tot') (out:=out) (st:=st) (fin:=fin) k1 n1 k5 n5
 refine vn (fun i t=>Jc [0,10,35,36] E t.env∧t.env.get 37= .pv (i64 i)∧∃ acc evs n1 n5,t.H=Um A c (Ue T R un tot' out false fin) acc.length n1 evs.length n5∧t.env.get 8= .uq A.length n1 1 (acc.map u8)∧t.env.get 9= .uq (A.length+1) n5 5 evs∧
  ml cd un rb tot out 0 [] [] us=ml cd un rb tot out i acc evs (us.drop i)∧(n1=true→acc=[])∧(n5=true→evs=[])∧acc.length≤8 * i∧evs.length≤i) us.length (by unfold qa;omega) ?_ ?_ ?_
 ·rw[Qt]
  exact Sf.all (Qt ..).symm (hgd false 0 true 0 true) (Fit.sub (.cons h37 Ha (.cons h8 (Qj (by omega)) (.cons h9 (Qj (by omega)) hcut))) rfl) fun E' hE=>⟨Jc.sub hE rfl,by rw[hE 37 (by simp),h37];rfl,[],[],true,true,rfl,by rw[hE 8 (by simp),h8];rfl,by rw[hE 9 (by simp),h9],rfl,fun _=>rfl,fun _=>rfl,by simp,by simp⟩
 ·rintro i ⟨E1,H1⟩ hi ⟨k1,k2,acc,evs,n1,n5,k3,k8,k9,k4,k5,k6,k7,k10⟩
  simp only at k1 k2 k3 k8 k9
  subst k3
  have g0:=(k1 0 (by simp)).trans h0
  have g10:=(k1 10 (by simp)).trans h10
  have g35:=(k1 35 (by simp)).trans h35
  have g36:=(k1 36 (by simp)).trans h36
  have e1:decide ((i:Int) < (us.length:Int))=true:=Ea (by omega)
  have t1:IntKind.i64.wrap ((i:Int)+1)=((i+1:Nat):Int):=Hk (by omega)
  have t2:IntKind.i64.wrap (tot+(i:Int))=tot+i:=Ba (by omega)
  have t3:IntKind.i64.wrap (out+(acc.length:Int))=out+acc.length:=Ba (by omega)
  have hat:=fun H=>hU.LX H i hi
  have hen:=hT.enc us[i]
  have hlb:=hT.len us[i]
  rw[List.drop_eq_getElem_cons hi,ml] at k4
  generalize us[i]=u at *
  have p1:∀ b k1 n1 k5 n5 d,place (Um A c (.box b) k1 n1 k5 n5) d (.ptr c 0)=some (.ptr c (0+d)):=fun b k1 n1 k5 n5 d=>we (Py hc _ _ _ _ _) d 0
  have hB:∀ st,Ue T R un tot' out st fin= .box [.pv T,.pv (i64 un),.pv R,.pv (i64 tot'),.pv (i64 out),.pv (.bool st),.pv (.bool fin)]:=fun _=>rfl
  have ld:∀ st k1 n1 k5 n5 o,ya (Um A c (Ue T R un tot' out st fin) k1 n1 k5 n5) false 1 (.ptr c o)=Dg false 1 [.pv T,.pv (i64 un),.pv R,.pv (i64 tot'),.pv (i64 out),.pv (.bool st),.pv (.bool fin)] o:=fun st k1 n1 k5 n5 o=>by simp only[ya,Py hc,hB]
  have l0:∀ st k1 n1 k5 n5,ya (Um A c (Ue T R un tot' out st fin) k1 n1 k5 n5) false 1 (.ptr c 0)=some (.pv T):=fun st k1 n1 k5 n5=>ld ..
  have l1:∀ st k1 n1 k5 n5,ya (Um A c (Ue T R un tot' out st fin) k1 n1 k5 n5) false 1 (.ptr c 1)=some (.pv (i64 un)):=fun st k1 n1 k5 n5=>ld ..
  have l2:∀ st k1 n1 k5 n5,ya (Um A c (Ue T R un tot' out st fin) k1 n1 k5 n5) false 1 (.ptr c 2)=some (.pv R):=fun st k1 n1 k5 n5=>ld ..
  have l4:∀ st k1 n1 k5 n5,ya (Um A c (Ue T R un tot' out st fin) k1 n1 k5 n5) false 1 (.ptr c 4)=some (.pv (i64 out)):=fun st k1 n1 k5 n5=>ld ..
  have pl:∀ st k1 n1 k5 n5 d,place (Um A c (Ue T R un tot' out st fin) k1 n1 k5 n5) d (.ptr c 0)=some (.ptr c (0+d)):=fun st k1 n1 k5 n5 d=>we (Py hc _ _ _ _ _) d 0
  have s5:∀ k1 n1 k5 n5,La (Um A c (Ue T R un tot' out false fin) k1 n1 k5 n5) 1 (.ptr c 5) (.pv (.bool true))=some (Um A c (Ue T R un tot' out true fin) k1 n1 k5 n5):=fun k1 n1 k5 n5=>by
   have h:=AE hc (Ue T R un tot' out false fin) (Ue T R un tot' out true fin) k1 n1 k5 n5
   rw[← h]
   simp only[La,Py hc,hB];rfl
  have ap1:∀ k5 n5 (b:List Int),b.length≤8→Ob (Um A c (Ue T R un tot' out false fin) acc.length n1 k5 n5) false .uq 1 false 1 (.uq A.length n1 1 (acc.map u8)) (.pv (.lit 1 (b.map u8)))=some (.uq A.length (n1&&(b.map u8).isEmpty) 1 ((acc++b).map u8),Um A c (Ue T R un tot' out false fin) (acc++b).length (n1&&(b.map u8).isEmpty) k5 n5):=fun k5 n5 b hb=>by
   rw[VD (pX _ _ _ _ _) (by rw[List.length_map]) (by unfold mb;rw[List.length_map,List.length_map];omega),ZQ,List.map_append,List.length_map,List.length_map,List.length_append]
  have ap5:∀ e,Ob (Um A c (Ue T R un tot' out false fin) acc.length n1 evs.length n5) false .uq 5 true 40 (.uq (A.length+1) n5 5 evs) (.pv (.lit 5 [e]))=some (.uq (A.length+1) false 5 (evs++[e]),Um A c (Ue T R un tot' out false fin) acc.length n1 (evs++[e]).length false):=fun e=>by
   rw[Kg (rX _ _ _ _ _) rfl (by unfold mb;omega),iR,List.length_append];rfl
  have lu:∀ H,Tb H 0 (.uq A.length n1 1 (acc.map u8))=some acc.length:=fun H=>by simp[Tb]
  have m1:Am (List.map AV.pv [PV.int .i64 0,.int .i64 0,.int .i64 0,.int .i64 0,.int .i64 0]) [(0,1,.pv (.int .i64 4)),(1,1,.pv (.int .i64 (tot+i))),(2,1,.pv (.int .i64 1)),(3,1,.pv (i64 u)),(4,1,.pv (.int .i64 (out+acc.length)))]=some ([i64 4,i64 (tot+i),i64 1,i64 u,i64 (out+acc.length)].map AV.pv):=rfl
  rw[Qt]
  generalize hQ:RQ _ _ _ _=Q
  cases hcd:cd u with
  |some b=>
   rw[hcd] at hen k4
   have hb8:=hlb b hcd
   have ap:=ap1 evs.length n5 b hb8
   simp -implicitDefEqProofs only[SX,sevalprocAttr,od,g0,g10,g35,g36,k2,k8,k9,e1,hat,ab,pl,l0,hen,ap,t1]
   subst hQ
   rw[Ii]
   generalize hEE:(Tr.set _ 37 _:Tr)=E2
   have kk:Jc [0,10,35,36] E E2:=by
    rw[← hEE]
    repeat refine Jc.set ?_ rfl
    exact k1
   have z37:E2.get 37= .pv (i64 (i+1:Nat)):=by rw[← hEE];simp[Tr.aa]
   have z8:E2.get 8= .uq A.length (n1&&(b.map u8).isEmpty) 1 ((acc++b).map u8):=by rw[← hEE];simp[Tr.aa]
   have z9:E2.get 9= .uq (A.length+1) n5 5 evs:=by rw[← hEE];simp[Tr.aa,k9]
   exact Sf.all (Qt ..).symm (hgd _ _ _ _ _) (Fit.sub (.cons z37 Ha (.cons z8 (Qj (by omega)) (.cons z9 (Qj (by omega)) (hcut.Te kk)))) rfl) fun E' hE=>⟨kk.trans (Jc.sub hE rfl),by rw[hE 37 (by simp),z37],acc++b,evs,_,n5,rfl,by rw[hE 8 (by simp),z8],by rw[hE 9 (by simp),z9],k4,fun h=>by
    rw[Bool.and_eq_true] at h
    rw[k5 h.1]
    cases b with
    |nil=>rfl
    |cons x y=>simp at h,k6,by rw[List.length_append];omega,by omega⟩
  |none=>
   rw[hcd] at hen k4
   have ap:=ap5 (qF (tot+i) u (out+acc.length))
   unfold qF at ap
   by_cases h3:un=3
   ·have d2:(un==2)=false:=beq_false_of_ne (by omega)
    have d3:(un==3)=true:=by rw[h3];rfl
    rw[if_pos h3] at k4
    simp -implicitDefEqProofs only[SX,sevalprocAttr,od,g0,g10,g35,g36,k2,k8,k9,e1,hat,ab,pl,l0,l1,l4,lu,hen,t2,t3,ap,d2,d3,s5,na.eq_1,na.eq_2,List.set,Vd]
    subst hQ
    exact⟨_,acc,evs++[qF (tot+i) u (out+acc.length)],true,n1,false,rfl,by simp[Tr.aa,g0],by simp[Tr.aa,k8],by simp[Tr.aa,qF],k4,k5,fun h=>(by cases h),by omega⟩
   ·have d3:(un==3)=false:=beq_false_of_ne h3
    rw[if_neg h3] at k4
    by_cases h2:un=2
    ·have d2:(un==2)=true:=by rw[h2];rfl
     have hR2:=hR h2
     have ap':=ap1 (evs++[qF (tot+i) u (out+acc.length)]).length false rb hrb
     unfold qF at ap'
     have l2':∀ st k1 n1 k5 n5,ya (Um A c (Ue T R un tot' out st fin) k1 n1 k5 n5) false 1 (.ptr c 2)=some (.pv (.lit 1 (rb.map u8))):=fun st k1 n1 k5 n5=>by rw[l2,hR2]
     simp -implicitDefEqProofs only[SX,sevalprocAttr,od,g0,g10,g35,g36,k2,k8,k9,e1,hat,ab,pl,l0,l1,l4,lu,hen,t1,t2,t3,ap,d2,l2',ap',na.eq_1,na.eq_2,List.set,Vd]
     subst hQ
     rw[Ii]
     generalize hEE:(Tr.set _ 37 _:Tr)=E2
     have kk:Jc [0,10,35,36] E E2:=by
      rw[← hEE]
      repeat refine Jc.set ?_ rfl
      exact k1
     have z37:E2.get 37= .pv (i64 (i+1:Nat)):=by rw[← hEE];simp[Tr.aa]
     have z8:E2.get 8= .uq A.length (n1&&(rb.map u8).isEmpty) 1 ((acc++rb).map u8):=by rw[← hEE];simp[Tr.aa]
     have z9:E2.get 9= .uq (A.length+1) false 5 (evs++[qF (tot+i) u (out+acc.length)]):=by rw[← hEE];simp[Tr.aa,qF]
     exact Sf.all (Qt ..).symm (hgd _ _ _ _ _) (Fit.sub (.cons z37 Ha (.cons z8 (Qj (by omega)) (.cons z9 (Qj (by omega)) (hcut.Te kk)))) rfl) fun E' hE=>⟨kk.trans (Jc.sub hE rfl),by rw[hE 37 (by simp),z37],acc++rb,evs++[qF (tot+i) u (out+acc.length)],_,false,rfl,by rw[hE 8 (by simp),z8],by rw[hE 9 (by simp),z9],k4,fun h=>by
      rw[Bool.and_eq_true] at h
      rw[k5 h.1]
      cases rb with
      |nil=>rfl
      |cons x y=>simp at h,fun h=>(by cases h),by rw[List.length_append];omega,by rw[List.length_append];simpa using k10⟩
    ·have d2:(un==2)=false:=beq_false_of_ne h2
     rw[show acc++rb=acc by rw[hn h2,List.append_nil]] at k4
     simp -implicitDefEqProofs only[SX,sevalprocAttr,od,g0,g10,g35,g36,k2,k8,k9,e1,hat,ab,pl,l0,l1,l4,lu,hen,t1,t2,t3,ap,d2,d3,na.eq_1,na.eq_2,List.set,Vd]
     subst hQ
     rw[Ii]
     generalize hEE:(Tr.set _ 37 _:Tr)=E2
     have kk:Jc [0,10,35,36] E E2:=by
      rw[← hEE]
      repeat refine Jc.set ?_ rfl
      exact k1
     have z37:E2.get 37= .pv (i64 (i+1:Nat)):=by rw[← hEE];simp[Tr.aa]
     have z8:E2.get 8= .uq A.length n1 1 (acc.map u8):=by rw[← hEE];simp[Tr.aa,k8]
     have z9:E2.get 9= .uq (A.length+1) false 5 (evs++[qF (tot+i) u (out+acc.length)]):=by rw[← hEE];simp[Tr.aa,qF]
     exact Sf.all (Qt ..).symm (hgd _ _ _ _ _) (Fit.sub (.cons z37 Ha (.cons z8 (Qj (by omega)) (.cons z9 (Qj (by omega)) (hcut.Te kk)))) rfl) fun E' hE=>⟨kk.trans (Jc.sub hE rfl),by rw[hE 37 (by simp),z37],acc,evs++[qF (tot+i) u (out+acc.length)],n1,false,rfl,by rw[hE 8 (by simp),z8],by rw[hE 9 (by simp),z9],k4,k5,fun h=>(by cases h),by omega,by rw[List.length_append];simpa using k10⟩
 ·rintro⟨E1,H1⟩ ⟨k1,k2,acc,evs,n1,n5,k3,k8,k9,k4,k5,k6,k7,k10⟩
  simp only at k1 k2 k3 k8 k9
  subst k3
  have g36:=(k1 36 (by simp)).trans h36
  have g0:=(k1 0 (by simp)).trans h0
  rw[List.drop_length,ml] at k4
  have e1:decide ((us.length:Int) < (us.length:Int))=false:=Fa (by omega)
  generalize hQ:(fun r:Ex×St=>r.1.stop=true∧_)=Q
  simp -implicitDefEqProofs only[SX,sevalprocAttr,od,g36,k2,e1]
  subst hQ
  exact⟨rfl,_,acc,evs,false,n1,n5,rfl,by simp[Tr.aa,g0],by simp[Tr.aa,k8],by simp[Tr.aa,k9],k4,k5,k6,k7⟩
theorem NC {call:Xa} {call':Xa} (hcall:∀ H n,call 62 [.ptr c 0,.pv (i64 n)] H=og call' Hb [.ptr c 0,.pv (i64 n)] H) (hA:cf A) (hc:c < A.length) {T R:PV} {cd:Int→Option (List Int)} (hT:nF T cd) {un tot out:Int} {rb:List Int} (hR:un=2→R= .lit 1 (rb.map u8)) (hn:un≠2→rb=[]) (hrb:rb.length≤8)
 {U:AV} {us:List Int} (hU:nv U us A.length) (ht0:0≤tot) (ht1:tot+us.length≤65536) (ho0:0≤out) (ho1:out≤524288) (hb:A[c]? =some (Ue T R un tot out false false)):
 Ld (fun r=>∃ acc evs st n1 n5,r=(.oc [.uq A.length n1 1 (acc.map u8),.uq (A.length+1) n5 5 evs,.pv (i64 0)],Um A c (Ue T R un (tot+us.length) (out+acc.length) st false) acc.length n1 evs.length n5)∧
  ml cd un rb tot out 0 [] [] us=(acc,evs,st)∧(n1=true→acc=[])∧(n5=true→evs=[])∧acc.length≤8 * us.length) (og call ud [.ptr c 0,U] A):=by
 have hf:=hcall A us.length
 rw[CO hb ht0 (by omega) (n:=us.length),if_neg (by simp),if_neg (by simp),if_neg (by omega)] at hf
 have lU:=hU.len
 have hB:∀ tot out st,Ue T R un tot out st false= .box [.pv T,.pv (i64 un),.pv R,.pv (i64 tot),.pv (i64 out),.pv (.bool st),.pv (.bool false)]:=fun _ _ _=>rfl
 have hA2:A++[.tok 1 0 true]++[.tok 5 0 true]=Um A c (Ue T R un tot out false false) 0 true 0 true:=by
  have:A.set c (Ue T R un tot out false false)=A:=by
   obtain⟨hl,hg⟩:=List.getElem?_eq_some_iff.1 hb
   rw[← hg];exact List.set_getElem_self hl
  unfold Um
  rw[this,List.append_assoc];rfl
 have hlen1:(A++[ba.tok 1 0 true]).length=A.length+1:=by simp
 have ld:∀ tot out st k1 n1 k5 n5 o,ya (Um A c (Ue T R un tot out st false) k1 n1 k5 n5) false 1 (.ptr c o)=Dg false 1 [.pv T,.pv (i64 un),.pv R,.pv (i64 tot),.pv (i64 out),.pv (.bool st),.pv (.bool false)] o:=fun tot out st k1 n1 k5 n5 o=>by simp only[ya,Py hc,hB]
 have l3:∀ tot out st k1 n1 k5 n5,ya (Um A c (Ue T R un tot out st false) k1 n1 k5 n5) false 1 (.ptr c 3)=some (.pv (i64 tot)):=fun tot out st k1 n1 k5 n5=>ld ..
 have l4:∀ tot out st k1 n1 k5 n5,ya (Um A c (Ue T R un tot out st false) k1 n1 k5 n5) false 1 (.ptr c 4)=some (.pv (i64 out)):=fun tot out st k1 n1 k5 n5=>ld ..
 have pl:∀ tot out st k1 n1 k5 n5 d,place (Um A c (Ue T R un tot out st false) k1 n1 k5 n5) d (.ptr c 0)=some (.ptr c (0+d)):=fun tot out st k1 n1 k5 n5 d=>we (Py hc _ _ _ _ _) d 0
 have s3:∀ k1 n1 k5 n5 v,La (Um A c (Ue T R un tot out false false) k1 n1 k5 n5) 1 (.ptr c 3) (.pv (.int .i64 v))=some (Um A c (Ue T R un v out false false) k1 n1 k5 n5):=fun k1 n1 k5 n5 v=>by
  rw[← AE hc (Ue T R un tot out false false) (Ue T R un v out false false) k1 n1 k5 n5]
  simp only[La,Py hc,hB];rfl
 have s4:∀ tot st k1 n1 k5 n5 v,La (Um A c (Ue T R un tot out st false) k1 n1 k5 n5) 1 (.ptr c 4) (.pv (.int .i64 v))=some (Um A c (Ue T R un tot v st false) k1 n1 k5 n5):=fun tot st k1 n1 k5 n5 v=>by
  rw[← AE hc (Ue T R un tot out st false) (Ue T R un tot v st false) k1 n1 k5 n5]
  simp only[La,Py hc,hB];rfl
 have w1:IntKind.i64.wrap (tot+(us.length:Int))=tot+us.length:=Ba (by omega)
 have z0:((0:Int) != 0)=false:=rfl
 have hz1:(0 < 1)=True:=by simp
 have hz5:(0 < 5)=True:=by simp
 generalize hQ:(fun r:AV×List ba=>∃ acc evs st n1 n5,r=_∧_)=Q
 simp -implicitDefEqProofs only[SX,sevalprocAttr,ud,hf,lU,z0,az,qe,hz1,hz5,hlen1,hA2,pl,l3,s3,w1]
 generalize hEE:(Tr.set _ 37 _:Tr)=E
 refine xa (CU (call:=call) (E:=E) (fin:=false) (tot:=tot) (tot':=tot+us.length) (cd:=cd) (rb:=rb) hA hc hT hR hn hrb hU (by omega) ht0 (by omega) ho0 ho1 (by rw[← hEE];simp[Tr.aa]) (by rw[← hEE];simp[Tr.aa]) (by rw[← hEE];simp[Tr.aa]) (by rw[← hEE];simp[Tr.aa]) (by rw[← hEE];simp[Tr.aa]) (by rw[← hEE];simp[Tr.aa]) (by rw[← hEE];simp[Tr.aa])) ?_
 rintro r ⟨_,E2,acc,evs,st,n1,n5,rfl,g0,g8,g9,k4,k5,k6,k7⟩
 have w2:IntKind.i64.wrap (out+(acc.length:Int))=out+acc.length:=Ba (by omega)
 have lu:∀ H,Tb H 0 (.uq A.length n1 1 (acc.map u8))=some acc.length:=fun H=>by simp[Tb]
 have hm:nw [AV.uq A.length n1 1 (acc.map u8),.uq (A.length+1) n5 5 evs,.pv (.int .i64 0)]= .oc [.uq A.length n1 1 (acc.map u8),.uq (A.length+1) n5 5 evs,.pv (.int .i64 0)]:=rfl
 simp -implicitDefEqProofs only[SX,sevalprocAttr,g0,g8,g9,pl,l4,lu,w2,s4,hm]
 subst hQ
 exact⟨acc,evs,st,n1,n5,rfl,k4,k5,k6,k7⟩
end
end Go.AM.B1
namespace Go.AM.B1
open Go.AM Go.AM.So
theorem Oq.take {B:PV} {bs:List Int} (h:Oq B bs) {n:Nat} (hn:n≤bs.length):∃ B',(∀ H,Ze H 1 (.pv B) none (some (n:Int))=some (.pv B'))∧Oq B' (bs.take n)∧(AV.pv B').one=true:=by
 rcases h.is with⟨rfl,hb⟩ | rfl
 ·have:bs=[]:=by simpa using hb
  subst this
  have:n=0:=by simpa using hn
  subst this
  exact⟨.fa,fun H=>rfl,⟨.inl ⟨rfl,rfl⟩,by simp⟩,rfl⟩
 ·refine⟨.lit 1 ((bs.take n).map (PV.int .u8)),fun H=> ?_,⟨.inr rfl,fun b hb=>h.fI b (List.mem_of_mem_take hb)⟩,rfl⟩
  simp only[Ze,Option.getD_some,Option.getD_none]
  rw[if_pos ⟨by omega,trivial,by omega,by omega,by simp;omega⟩]
  simp[List.map_take]
end Go.AM.B1
namespace Go.AM.B1
open Go.AM Go.AM.So
end Go.AM.B1
