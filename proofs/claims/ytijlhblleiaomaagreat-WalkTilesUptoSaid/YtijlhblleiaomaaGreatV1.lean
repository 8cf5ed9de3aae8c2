/- What functions of the program compute. -/
import Derived.Test.YtijlhblleiaomaaGreatI3
import Derived.Test.YtijlhblleiaomaaGreatProg
import Derived.Shelf.SlicesG.Cmp
import Derived.Shelf.Lay
import Derived.Ground.SlsfProg
import Derived.Ground.SlgcProg
set_option linter.unusedVariables false
namespace Go.AM.B1
open Go.AM
noncomputable abbrev P:Program:=Go.Proofs.Tryz.prog
def fo:Nat→FuncId
 |0=>145
 |1=>112
 |2=>144
 |3=>110
 |4=>118
 |5=>107
 |6=>77
 |7=>78
 |8=>163
 |9=>172
 |22=>146
 |23=>147
 |24=>113
 |25=>94
 |26=>119
 |27=>120
 |28=>91
 |29=>92
 |30=>93
 |34=>67
 |35=>151
 |36=>68
 |37=>95
 |38=>124
 |39=>97
 |74=>19
 |80=>54
 |81=>87
 |82=>89
 |83=>88
 |84=>57
 |85=>59
 |86=>31
 |87=>33
 |88=>37
 |89=>58
 |90=>56
 |91=>55
 |92=>36
 |93=>34
 |94=>40
 |95=>39
 |96=>41
 |97=>42
 |98=>20
 |99=>49
 |127=>23
 |128=>24
 |132=>96
 |138=>64
 |139=>45
 |140=>70
 |_=>0
theorem Va:Sl P fo (fun _=>none):=fun ix af h=>by cases h
def Hc:Pa:=(jQ [jB 12 .lss 11 10] (.seq (jX 12 0) (.seq (.block 1 (jQ [ji 13 2 9 11,jL 14 2 13,Co 5 (.alloc [(.int .i64 0),(.int .i64 0)]),jS 2 5 14] (.region [Cv 15 3,jL 16 2 5,Co 17 (.Gb .lit 2 true 1 [(.int .i64 0),(.int .i64 0)] [(0,(.t 16))]),Co 18 (.ku 2 true 16 15 17),Cv 3 18]))) (.region [jK 19 .add 11 1,Cv 11 19]))))
def ph:gf:=⟨1,[.tmp 2],(jQ [jc 2 .ma] (jQ [Cv 6 0,jn 7 0 6,Co 8 (.Xg .uq 2 true [(.int .i64 0),(.int .i64 0)] 16 (.c (.int .i64 0)) (.t 7)),Cv 3 8] (.seq (jQ [Cv 9 0,jn 10 0 9,jk 11 0] (.block 0 (.loop [3,9,10,11] Hc))) (jr [Cv 20 3,Cv 2 20]))))⟩
theorem dp:wc P fo 142 ph:=fM Go.Proofs.Tryz.func142 dN
def Xb:=Ub (fun _=>none) ph
theorem wk:Na P 142 Xb:=Ja Va dp
def ud:Pa:=(jQ [jB 11 .lss 10 9] (.seq (jX 11 0) (.seq (.block 1 (jQ [ji 12 2 8 10,jL 13 2 12,Co 7 (.alloc [(.int .i64 0),(.int .i64 0)]),jS 2 7 13] (.seq (jQ [jf 14 0 7,jl 15 1 14,jK 16 .lss 15 0,Cv 17 16,jF 18 17 (.kf 0 7),jF 19 17 (.kl 1 18),jF 20 17 (.kf 1 7),jF 21 17 (.kl 1 20),jF 22 17 (.kB .gtr 19 21),jo 23 17 22,Cv 24 23,jF 25 24 (.kf 1 7),jF 26 24 (.kl 1 25),jF 27 24 (.km 1),jF 28 24 (.kB .gtr 26 27),jo 29 24 28,Cv 30 29,jF 31 30 (.kf 0 7),jF 32 30 (.kl 1 31),jF 33 30 (.kK .sub 32 1),jF 34 30 (.km 5),jF 35 30 (.kB .leq 33 34),jo 36 30 35] (jC 36 (jr [jb 4 false]) .skip)) (.region [jf 37 1 7,jl 38 1 37,Cv 5 38])))) (.region [jK 39 .add 10 1,Cv 10 39]))))
def Rp:gf:=⟨2,[.tmp 4],(jQ [jb 4 false] (jQ [jk 5 (-2)] (.seq (jQ [Cv 8 0,jn 9 0 8,jk 10 0] (.block 0 (.loop [1,5,8,9,10] ud))) (jr [jb 4 true]))))⟩
theorem HF:wc P fo 141 Rp:=fM Go.Proofs.Tryz.func141 dN
def Ci:=Ub (fun _=>none) Rp
theorem Up:Na P 141 Ci:=Ja Va HF
def Es:gf:=⟨1,[.tmp 2],(jQ [jb 2 false] (jr [Cv 3 0,jp 4 Xb 3,Co 5 (.Bn Ci [(.t 4),(.c (.int .i64 255))]),Cv 2 5]))⟩
theorem pD:wc P fo 108 Es:=fM Go.Proofs.Tryz.func108 (dC wk (dC Up dN))
def eo:=Ub (fun _=>none) Es
theorem fG:Na P 108 eo:=Ja Va pD
def xo:gf:=⟨1,[.tmp 2],(jQ [jc 2 .ma] (jQ [Cv 4 0,jp 5 Xb 4,Cv 3 5] (.seq (jQ [Cv 6 3,Co 7 (.Bn Ci [(.t 6),(.c (.int .i64 255))]),jt 8 7] (jC 8 (jr [jc 2 .ma]) .skip)) (jr [Cv 9 3,Cv 2 9]))))⟩
theorem EI:wc P fo 116 xo:=fM Go.Proofs.Tryz.func116 (dC wk (dC Up dN))
def og:=Ub (fun _=>none) xo
theorem wm:Na P 116 og:=Ja Va EI
def Lk:Pa:=(jQ [jB 9 .lss 8 7] (.seq (jX 9 0) (.seq (.block 1 (jQ [ji 10 2 6 8,jL 11 2 10,Co 5 (.alloc [(.int .i64 0),(.int .i64 0)]),jS 2 5 11] (.region [Cv 12 3,jf 13 1 5,jl 14 1 13,jf 15 0 5,jl 16 1 15,jB 17 .sub 14 16,jK 18 .add 17 1,jB 19 .add 12 18,Cv 3 19]))) (.region [jK 20 .add 8 1,Cv 8 20]))))
def vw:gf:=⟨1,[.tmp 2],(jQ [jk 2 0] (jQ [jk 3 0] (.seq (jQ [Cv 6 0,jn 7 0 6,jk 8 0] (.block 0 (.loop [3,6,7,8] Lk))) (jr [Cv 21 3,Cv 2 21]))))⟩
theorem BI:wc P fo 143 vw:=fM Go.Proofs.Tryz.func143 dN
def ur:=Ub (fun _=>none) vw
theorem CK:Na P 143 ur:=Ja Va BI
def Fu:gf:=⟨1,[.tmp 2],(jQ [jk 2 0] (jr [Cv 3 0,jp 4 og 3,jp 5 ur 4,Cv 2 5]))⟩
theorem OF:wc P fo 109 Fu:=fM Go.Proofs.Tryz.func109 (dC wm (dC CK dN))
def Um:=Ub (fun _=>none) Fu
theorem Hz:Na P 109 Um:=Ja Va OF
def vn:Pa:=(jQ [jB 12 .lss 11 10] (.seq (jX 12 0) (.seq (.block 1 (jQ [ji 13 2 9 11,jL 14 2 13,Co 5 (.alloc [(.int .i64 0),(.int .i64 0)]),jS 2 5 14] (.region [Cv 15 3,jL 16 2 5,Co 17 (.Gb .lit 2 true 1 [(.int .i64 0),(.int .i64 0)] [(0,(.t 16))]),Co 18 (.ku 2 true 16 15 17),Cv 3 18]))) (.region [jK 19 .add 11 1,Cv 11 19]))))
def Mj:gf:=⟨1,[.tmp 2],(jQ [jc 2 .ma] (jQ [Cv 6 0,jn 7 0 6,Co 8 (.Xg .uq 2 true [(.int .i64 0),(.int .i64 0)] 16 (.c (.int .i64 0)) (.t 7)),Cv 3 8] (.seq (jQ [Cv 9 0,jn 10 0 9,jk 11 0] (.block 0 (.loop [3,9,10,11] vn))) (jr [Cv 20 3,Cv 2 20]))))⟩
theorem No:wc P fo 145 Mj:=fM Go.Proofs.Tryz.func145 dN
def jh:=Ub (fun _=>none) Mj
theorem Dp:Na P 145 jh:=Ja Va No
def cg:Pa:=(.seq (jQ [Cv 8 0,jn 9 0 8,jK 10 .gtr 9 0,Cv 11 10,jT 12 11 (.km 1),jT 13 11 (.kn 0 12),jT 14 11 (.kK .gtr 13 0),ja 15 11 14] (jX 15 0)) (.block 1 (jQ [Cv 16 0,Cp 17 (.kj 2 16 0),jf 18 0 17,jl 19 1 18,Cv 20 1,Cp 21 (.kj 2 20 0),jf 22 0 21,jl 23 1 22,Co 24 (.mx [(.t 19),(.t 23)]),Cv 25 0,Cp 26 (.kj 2 25 0),jf 27 1 26,jl 28 1 27,Cv 29 1,Cp 30 (.kj 2 29 0),jf 31 1 30,jl 32 1 31,Co 33 (.mn [(.t 28),(.t 32)]),Cv 6 24,Cv 7 33] (.seq (jQ [Cv 34 6,Cv 35 7,jB 36 .leq 34 35] (jC 36 (.region [Cv 37 5,Cv 38 6,Cv 39 7,Co 40 (.build [(.int .i64 0),(.int .i64 0)] [(0,1,(.t 38)),(1,1,(.t 39))]),Co 41 (.Gb .lit 2 true 1 [(.int .i64 0),(.int .i64 0)] [(0,(.t 40))]),Co 42 (.ku 2 true 16 37 41),Cv 5 42]) .skip)) (jQ [Cv 43 0,Cp 44 (.kj 2 43 0),jf 45 1 44,jl 46 1 45,Cv 47 1,Cp 48 (.kj 2 47 0),jf 49 1 48,jl 50 1 49,jB 51 .lss 46 50] (jC 51 (.region [Cv 52 0,Co 53 (.slice 2 (.t 52) (some (.c (.int .i64 1))) none),Cv 0 53]) (.region [Cv 54 1,Co 55 (.slice 2 (.t 54) (some (.c (.int .i64 1))) none),Cv 1 55])))))))
def Gr:gf:=⟨2,[.tmp 4],(jQ [jc 4 .ma] (jQ [jc 5 .ma] (.ghost (.mJ 5 2) (.seq (.block 0 (.loop [0,1,5] cg)) (jr [Cv 56 5,Cv 4 56])))))⟩
theorem YH:wc P fo 111 Gr:=fM Go.Proofs.Tryz.func111 dN
def qm:=Ub (fun _=>none) Gr
theorem SB:Na P 111 qm:=Ja Va YH
def xn:Pa:=(jQ [jB 12 .lss 11 10] (.seq (jX 12 0) (.seq (.block 1 (jQ [ji 13 2 9 11,jL 14 2 13,Co 5 (.alloc [(.int .i64 0),(.int .i64 0)]),jS 2 5 14] (.region [Cv 15 3,jL 16 2 5,Co 17 (.Gb .lit 2 true 1 [(.int .i64 0),(.int .i64 0)] [(0,(.t 16))]),Co 18 (.ku 2 true 16 15 17),Cv 3 18]))) (.region [jK 19 .add 11 1,Cv 11 19]))))
def Jj:gf:=⟨1,[.tmp 2],(jQ [jc 2 .ma] (jQ [Cv 6 0,jn 7 0 6,Co 8 (.Xg .uq 2 true [(.int .i64 0),(.int .i64 0)] 16 (.c (.int .i64 0)) (.t 7)),Cv 3 8] (.seq (jQ [Cv 9 0,jn 10 0 9,jk 11 0] (.block 0 (.loop [3,9,10,11] xn))) (jr [Cv 20 3,Cv 2 20]))))⟩
theorem Jo:wc P fo 144 Jj:=fM Go.Proofs.Tryz.func144 dN
def eh:=Ub (fun _=>none) Jj
theorem Ep:Na P 144 eh:=Ja Va Jo
def Ln:Pa:=(jQ [jB 12 .lss 11 10] (.seq (jX 12 0) (.seq (.block 1 (jQ [ji 13 2 9 11,jL 14 2 13,Co 5 (.alloc [(.int .i64 0),(.int .i64 0)]),jS 2 5 14] (.region [Cv 15 3,jL 16 2 5,Co 17 (.Gb .lit 2 true 1 [(.int .i64 0),(.int .i64 0)] [(0,(.t 16))]),Co 18 (.ku 2 true 16 15 17),Cv 3 18]))) (.region [jK 19 .add 11 1,Cv 11 19]))))
def zk:gf:=⟨1,[.tmp 2],(jQ [jc 2 .ma] (jQ [Cv 6 0,jn 7 0 6,Co 8 (.Xg .uq 2 true [(.int .i64 0),(.int .i64 0)] 16 (.c (.int .i64 0)) (.t 7)),Cv 3 8] (.seq (jQ [Cv 9 0,jn 10 0 9,jk 11 0] (.block 0 (.loop [3,9,10,11] Ln))) (jr [Cv 20 3,Cv 2 20]))))⟩
theorem yp:wc P fo 171 zk:=fM Go.Proofs.Tryz.func171 dN
def th:=Ub (fun _=>none) zk
theorem aq:Na P 171 th:=Ja Va yp
def ru:gf:=⟨1,[.tmp 2],(jQ [jc 2 .ma] (jr [Cv 3 0,jp 4 th 3,Cv 2 4]))⟩
theorem iG:wc P fo 160 ru:=fM Go.Proofs.Tryz.func160 (dC aq dN)
def bq:=Ub (fun _=>none) ru
theorem xI:Na P 160 bq:=Ja Va iG
def Wu:gf:=⟨2,[.tmp 4],(jQ [jc 4 .ma] (jr [Cv 5 0,jp 6 og 5,Cv 7 1,jp 8 og 7,jq 9 qm 6 8,jp 10 bq 9,Cv 4 10]))⟩
theorem MF:wc P fo 150 Wu:=fM Go.Proofs.Tryz.func150 (dC wm (dC wm (dC SB (dC xI dN))))
def Wp:=Ub (fun _=>none) Wu
theorem WH:Na P 150 Wp:=Ja Va MF
def Le:Pa:=(jQ [jB 12 .lss 11 10] (.seq (jX 12 0) (.seq (.block 1 (jQ [ji 13 2 9 11,jL 14 2 13,Co 8 (.alloc [(.int .i64 0),(.int .i64 0)]),jS 2 8 14] (.seq (jQ [Cv 15 1,jf 16 0 8,jl 17 1 16,jB 18 .lss 15 17] (jC 18 (.exit 0) .skip)) (.seq (jQ [Cv 19 1,jf 20 1 8,jl 21 1 20,jB 22 .leq 19 21] (jC 22 (jr [Cv 23 6,Cv 24 1,jB 25 .add 23 24,jf 26 0 8,jl 27 1 26,jB 28 .sub 25 27,Cv 4 28,jb 5 true]) .skip)) (.region [Cv 29 6,jf 30 1 8,jl 31 1 30,jf 32 0 8,jl 33 1 32,jB 34 .sub 31 33,jK 35 .add 34 1,jB 36 .add 29 35,Cv 6 36]))))) (.region [jK 37 .add 11 1,Cv 11 37]))))
def Dr:gf:=⟨2,[.tmp 4,.tmp 5],(jQ [jk 4 0,jb 5 false] (jQ [jk 6 0] (.seq (jQ [Cv 9 0,jn 10 0 9,jk 11 0] (.block 0 (.loop [1,6,9,10,11] Le))) (jr [jk 4 0,jb 5 false]))))⟩
theorem TH:wc P fo 115 Dr:=fM Go.Proofs.Tryz.func115 dN
def Qo:=Ub (fun _=>none) Dr
theorem rL:Na P 115 Qo:=Ja Va TH
def qv:gf:=⟨2,[.tmp 4,.tmp 5],(jQ [jk 4 0,jb 5 false] (jr [Cv 6 0,jp 7 og 6,Cv 8 1,jq 9 Qo 7 8,jx 10 0 9,jx 11 1 9,Cv 4 10,Cv 5 11]))⟩
theorem XF:wc P fo 85 qv:=fM Go.Proofs.Tryz.func85 (dC wm (dC rL dN))
def Im:=Ub (fun _=>none) qv
theorem bz:Na P 85 Im:=Ja Va XF
def Bw:gf:=⟨2,[.tmp 4],(jQ [jb 4 false] (jQ [Cv 8 0,Cv 9 1,jq 10 Im 8 9,Cv 7 10,jx 11 0 7,jx 12 1 7,Cv 5 11,Cv 6 12] (jr [Cv 13 6,Cv 4 13])))⟩
theorem rI:wc P fo 149 Bw:=fM Go.Proofs.Tryz.func149 (dC bz dN)
def sw:=Ub (fun _=>none) Bw
theorem ML:Na P 149 sw:=Ja Va rI
def nj:Pa:=(jQ [jB 13 .lss 12 11] (.seq (jX 13 0) (.seq (.block 1 (jQ [ji 14 2 10 12,jL 15 2 14,Co 7 (.alloc [(.int .i64 0),(.int .i64 0)]),jS 2 7 15] (.seq (jQ [Cv 16 1,jf 17 1 7,jl 18 1 17,jf 19 0 7,jl 20 1 19,jB 21 .sub 18 20,jB 22 .leq 16 21] (jC 22 (jr [jf 23 0 7,jl 24 1 23,Cv 25 1,jB 26 .add 24 25,Cv 4 26,jb 5 true]) .skip)) (.region [Cv 27 1,jf 28 1 7,jl 29 1 28,jf 30 0 7,jl 31 1 30,jB 32 .sub 29 31,jK 33 .add 32 1,jB 34 .sub 27 33,Cv 1 34])))) (.region [jK 35 .add 12 1,Cv 12 35]))))
def Ms:gf:=⟨2,[.tmp 4,.tmp 5],(jQ [jk 4 0,jb 5 false] (.seq (jQ [Cv 8 1,jK 9 .lss 8 0] (jC 9 (jr [jk 4 0,jb 5 false]) .skip)) (.seq (jQ [Cv 10 0,jn 11 0 10,jk 12 0] (.block 0 (.loop [1,10,11,12] nj))) (jr [jk 4 0,jb 5 false]))))⟩
theorem mD:wc P fo 148 Ms:=fM Go.Proofs.Tryz.func148 dN
def Tn:=Ub (fun _=>none) Ms
theorem hG:Na P 148 Tn:=Ja Va mD
def pq:gf:=⟨2,[.tmp 4,.tmp 5],(jQ [jk 4 0,jb 5 false] (jr [Cv 6 0,jp 7 og 6,Cv 8 1,jq 9 Tn 7 8,jx 10 0 9,jx 11 1 9,Cv 4 10,Cv 5 11]))⟩
theorem yC:wc P fo 114 pq:=fM Go.Proofs.Tryz.func114 (dC wm (dC hG dN))
def Xm:=Ub (fun _=>none) pq
theorem LD:Na P 114 Xm:=Ja Va yC
def Dh:gf:=⟨3,[.tmp 5],(jQ [jb 5 false] (jr [jf 6 0 2,jl 7 1 6,Cv 8 0,Ji 9 2 7 8,jf 10 0 9,jl 11 1 10,Cp 12 (.kn 0 11),jf 13 0 2,jl 14 1 13,Cv 15 1,Ji 16 2 14 15,jf 17 0 16,jl 18 1 17,Cp 19 (.kn 0 18),jB 20 .lss 12 19,Cv 5 20]))⟩
theorem cz:wc P fo 118 Dh:=fM Go.Proofs.Tryz.func118 dN
def Ib:Pa:=(jQ [jB 9 .lss 8 7] (.seq (jX 9 0) (.seq (.block 1 (jQ [Cv 10 8,Cv 5 10] (jQ [Cv 11 1,Cv 12 0,Cv 13 5,ji 14 1 12 13,jl 15 1 14,Co 16 (.OB (.t 11) [(.t 15)])] (jC 16 (jr [Cv 17 5,Cv 4 17]) .skip)))) (.region [jK 18 .add 8 1,Cv 8 18]))))
def yc:gf:=⟨2,[.tmp 4],(jQ [jk 4 0] (.seq (jQ [Cv 6 0,jn 7 0 6,jk 8 0] (.block 0 (.loop [0,1,7,8] Ib))) (jr [jk 4 (-1)])))⟩
theorem ll:wc P fo 107 yc:=fM Go.Proofs.Tryz.func107 dN
def Jb:gf:=⟨2,[.tmp 4],(jQ [jb 4 false] (jr [Cv 5 0,Cv 6 1,Co 7 (.tj 5 [(.t 5),(.t 6)]),jK 8 .geq 7 0,Cv 4 8]))⟩
theorem sk:wc P fo 77 Jb:=fM Go.Proofs.Tryz.func77 dN
def Pj:gf:=⟨1,[.tmp 2],(jQ [jb 2 false] (jr [Cv 3 0,jn 4 0 3,jK 5 .eql 4 0,Cv 6 5,jF 7 6 (.km 0),jF 8 6 (.kp eo 7),jF 9 6 (.kt 8),jo 10 6 9,Cv 2 10]))⟩
theorem xF:wc P fo 78 Pj:=fM Go.Proofs.Tryz.func78 (dC fG dN)
def Eh:Pa:=(jQ [jB 10 .lss 9 8] (.seq (jX 10 0) (.seq (.block 1 (jQ [ji 11 1 7 9,jl 12 1 11,Cv 5 12] (.region [Cv 13 3,Cv 14 5,jp 15 Um 14,jB 16 .mul 13 15,Co 17 (.mn [(.t 16),(.c (.int .i64 1073741825))]),Cv 3 17]))) (.region [jK 18 .add 9 1,Cv 9 18]))))
def Ts:gf:=⟨1,[.tmp 2],(jQ [jR 1 2 0,jk 2 0] (jQ [jk 3 1] (.seq (jQ [Jf 6 0 1,Jl 7 1 6,jn 8 0 7,jk 9 0] (.block 0 (.loop [1,3,7,8,9] Eh))) (jr [Jf 19 1 1,Jl 20 1 19,Cv 21 3,jB 22 .add 20 21,jK 23 .sub 22 1,Cv 2 23]))))⟩
theorem CE:wc P fo 79 Ts:=fM Go.Proofs.Tryz.func79 (dC Hz dN)
def Vn:=Ub (fun _=>none) Ts
theorem NF:Na P 79 Vn:=Ja Va CE
def Qr:gf:=⟨1,[.tmp 2],(jQ [jc 2 .ma] (jQ [Cv 4 0,jp 5 jh 4,Cv 3 5] (.seq (jQ [Cv 6 3,Co 7 (.Bn Ci [(.t 6),(.c (.int .i64 1073741823))]),jt 8 7] (jC 8 (jr [jc 2 .ma]) .skip)) (jr [Cv 9 3,Cv 2 9]))))⟩
theorem pE:wc P fo 112 Qr:=fM Go.Proofs.Tryz.func112 (dC Dp (dC Up dN))
def Ll:=Ub (fun _=>none) Qr
theorem Xx:Na P 112 Ll:=Ja Va pE
def xq:gf:=⟨1,[.tmp 2],(jQ [jc 2 .ma] (jr [Cv 3 0,jp 4 eh 3,Cv 2 4]))⟩
theorem uC:wc P fo 110 xq:=fM Go.Proofs.Tryz.func110 (dC Ep dN)
def cn:=Ub (fun _=>none) xq
theorem rE:Na P 110 cn:=Ja Va uC
def Yq:gf:=⟨2,[.tmp 4],(jQ [jc 4 .ma] (jr [Cv 5 0,jp 6 Ll 5,Cv 7 1,jp 8 Ll 7,jq 9 qm 6 8,jp 10 cn 9,Cv 4 10]))⟩
theorem fC:wc P fo 80 Yq:=fM Go.Proofs.Tryz.func80 (dC Xx (dC Xx (dC SB (dC rE dN))))
def Fm:=Ub (fun _=>none) Yq
theorem jD:Na P 80 Fm:=Ja Va fC
end Go.AM.B1
set_option linter.unusedSimpArgs false
namespace Go.AM.B1
open Go.AM
def Vi (sz:Nat) (v:PV) (es:List PV):Prop:=(v= .ma∧es=[])∨v= .lit sz es
theorem Vi.len {sz:Nat} {v:PV} {es:List PV} (h:Vi sz v es) (H:List ba):Vb H 0 (.pv v)=some es.length:=by
 rcases h with⟨rfl,rfl⟩ | rfl <;> rfl
theorem Vi.lit {sz:Nat} {v:PV} {es:List PV} (h:Vi sz v es) {i:Nat} (hi:i < es.length):v= .lit sz es:=by
 rcases h with⟨rfl,rfl⟩ | rfl
 ·simp at hi
 ·rfl
abbrev i64 (n:Int):PV:= .int .i64 n
abbrev pr (p:Int×Int):PV:= .agg [i64 p.1,i64 p.2]
abbrev Hd (l:List (Int×Int)):List PV:=l.map pr
theorem Dc:deep=5+1:=rfl
theorem vi {a b:Int} (h:a≠b):(a==b)=false:=by simp[h]
theorem Fa {p:Prop} [Decidable p] (h:p):decide p=true:=by simp[h]
theorem Ga {p:Prop} [Decidable p] (h:¬p):decide p=false:=by simp[h]
theorem xr {l:List (Int×Int)} {i:Nat} (hi:i < l.length):(Hd l)[i]? =some (pr l[i]):=by simp[Hd,hi]
theorem Ua {i n:Nat} (hi:i < n) (hw:n≤maxLen):IntKind.i64.wrap ((i:Int)+1)=((i+1:Nat):Int):=Ca (by unfold maxLen at hw;omega)
inductive pP (k:Nat) (v:AV):Option (Ex×St)→Prop
 |mk (s:St):s.env.get k=v→pP k v (some (.ret,s))
theorem Fx {k:Nat} {v:AV} {s:St}:pP k v (some (.ret,s))=(s.env.get k=v):=
 propext ⟨fun h=>by cases h with | mk _ h=>exact h,fun h=> .mk s h⟩
theorem RM {k:Nat} {v:AV} {r:Option (Ex×St)} (h:pP k v r):∃ t,r=some (.ret,t)∧t.env.get k=v:=by
 cases h with | mk s h=>exact⟨s,rfl,h⟩
inductive XI (k:Nat):Option (Ex×St)→Prop
 |mk (e:Tr) (H:List ba):XI k (some (.exit k,⟨e,H⟩))
theorem VK {k i:Nat} {e:Tr} {H:List ba}:XI k (some (.exit i,⟨e,H⟩))=(i=k):=
 propext ⟨fun h=>by cases h;rfl,fun h=>by subst h;exact .mk e H⟩
theorem sK {k:Nat} {r:Option (Ex×St)} (h:XI k r):∃ e H,r=some (.exit k,⟨e,H⟩):=by
 cases h with | mk e H=>exact⟨e,H,rfl⟩
inductive fI (k:Nat) (v:AV) (j:Nat) (u:AV):Option (Ex×St)→Prop
 |mk (s:St):s.env.get k=v→s.env.get j=u→fI k v j u (some (.ret,s))
theorem UM {k j:Nat} {v u:AV} {s:St}:fI k v j u (some (.ret,s))=(s.env.get k=v∧s.env.get j=u):=
 propext ⟨fun h=>by cases h with | mk _ h h'=>exact⟨h,h'⟩,fun h=> .mk s h.1 h.2⟩
theorem aK {k j:Nat} {v u:AV} {r:Option (Ex×St)} (h:fI k v j u r):∃ t,r=some (.ret,t)∧t.env.get k=v∧t.env.get j=u:=by
 cases h with | mk s h h'=>exact⟨s,rfl,h,h'⟩
section To
variable (v:PV) (l:List (Int×Int)) (hv:Vi 2 v (Hd l)) (hw:l.length * 16≤140737488355328)
abbrev uz (v:PV) (len i:Int) (o:AV):Tr:=((((Tr.lf.set 11 (.pv (i64 i))).set 10 (.pv (i64 len))).set 9 (.pv v)).set 3 o)
include hv hw
theorem ZF (i:Nat) (hi:i < l.length):
 Nc (Ea (fun _=>none) 8) [3,9,10,11] Hc 1 ⟨uz v l.length i (.uq 0 false 2 (Hd (l.take i))),[.tok 2 i false]⟩=
  some (.norm,⟨uz v l.length (i+1:Nat) (.uq 0 false 2 (Hd (l.take (i+1)))),[.tok 2 (i+1) false]⟩):=by
 have hv:=hv.lit (i:=i) (by simpa using hi)
 subst hv
 have e1:decide ((i:Int) < (l.length:Int))=true:=Fa (by omega)
 have hq:Ia (i:Int) (Hd l).length:=by unfold Ia;simp;omega
 have t1:((i:Int)).toNat=i:=by simp
 have t2:=Ua hi (by unfold maxLen;omega)
 have lt:(Hd (l.take i)).length=i:=by simp;omega
 have q1:qb (i+1) 16:=by unfold qb;omega
 have hs:Hd (l.take (i+1))=Hd (l.take i)++[pr l[i]]:=by rw[List.take_succ_eq_append_getElem hi];simp only[Hd,List.map_append,List.map_cons,List.map_nil]
 rw[hs]
 have hg:=xr hi
 generalize Hd (l.take i)=T at *
 subst lt
 generalize Hd l=es at *
 simp -implicitDefEqProofs only[SP,SA,SQ,sevalprocAttr,Nc,ga,Hc,e1,eq_true hq,t1,t2,hg,eq_true q1,wa,si,AV.CC,AV.Ip,fa,Aa,na,Ma,AV.cut,Dc,uz]
theorem rm:Xb [v]=some (.lit 2 (Hd l)):=by
 have ls:=hv.len
 simp only[Hd,List.length_map] at ls
 have hl:ab (ga (ua (Ea (fun _=>none) 8) Hc) (fa 1 [3,9,10,11])) qa ⟨uz v l.length 0 (.uq 0 false 2 []),[.tok 2 0 false]⟩=
  some (.exit 0,⟨(uz v l.length l.length (.uq 0 false 2 (Hd l))).set 12 (.pv (.bool false)),[.tok 2 l.length false]⟩):=by
  have key:=al (g:=Nc (Ea (fun _=>none) 8) [3,9,10,11] Hc 1)
   (fun i t=>t=⟨uz v l.length i (.uq 0 false 2 (Hd (l.take i))),[.tok 2 i false]⟩)
   (fun ex t=>ex= .exit 0∧t=⟨(uz v l.length l.length (.uq 0 false 2 (Hd l))).set 12 (.pv (.bool false)),[.tok 2 l.length false]⟩)
   qa l.length 0 _ (by unfold qa;omega) (by omega) rfl ?_ ?_
  ·obtain⟨ex,t,h,_,rfl,rfl⟩:=key;exact h
  ·rintro i hi t rfl
   exact .inl ⟨_,ZF v l hv hw i hi,rfl⟩
  ·rintro t rfl
   refine⟨.exit 0,_,?_,rfl,rfl,rfl⟩
   have e1:decide ((l.length:Int) < (l.length:Int))=false:=Ga (by omega)
   rw[List.take_length]
   simp -implicitDefEqProofs only[SP,SA,SQ,sevalprocAttr,Nc,ga,Hc,e1,uz]
 have h1:decide ((0:Int)≤0)=true:=by decide
 have h2:(0:Int)≤(l.length:Int):=by omega
 have h3:qb ((l.length:Int)).toNat 16:=by unfold qb;simp;omega
 simp -implicitDefEqProofs only[Xb,SP,SA,SQ,sevalprocAttr,ph,ls,xb,fa,Aa,na,Ma,AV.cut,Dc,Int.le_refl,eq_true h2,eq_true h3,Int.toNat_zero]
 simp only[uz] at hl
 rw[hl]
 simp -implicitDefEqProofs only[SP,SA,SQ,sevalprocAttr]
end To
end Go.AM.B1
namespace Go.AM.B1
open Go.AM
def Qa (top:Int):Int→List (Int×Int)→Bool
 |_,[]=>true
 |last,p::r=> !(decide (p.1 < 0)||decide (p.1 > p.2)||decide (p.2 > top)||decide (p.1 - 1≤last))&&Qa top p.2 r
abbrev tw (v:PV) (top len i last:Int):Tr:=(((((Tr.lf.set 10 (.pv (i64 i))).set 9 (.pv (i64 len))).set 8 (.pv v)).set 5 (.pv (i64 last))).set 1 (.pv (i64 top)))
section
variable (v:PV) (l:List (Int×Int)) (hv:Vi 2 v (Hd l)) (hw:l.length≤maxLen) (top:Int) (ht:top≤9223372036854775807)
theorem bM (i:Nat) (hi:i < l.length) (hv:Vi 2 v (Hd l)) (hw:l.length≤maxLen) (last:Int) (ht:top≤9223372036854775807) (c1:¬l[i].1 < 0) (c2:¬l[i].1 > l[i].2) (c3:¬l[i].2 > top) (c4:¬l[i].1 - 1≤last):
 Nc (Ea (fun _=>none) 8) [1,5,8,9,10] ud 0 ⟨tw v top l.length i last,[]⟩=some (.norm,⟨tw v top l.length (i+1:Nat) l[i].2,[]⟩):=by
 have hv:=hv.lit (i:=i) (by simpa using hi)
 subst hv
 have e1:decide ((i:Int) < (l.length:Int))=true:=Fa (by omega)
 have hq:Ia (i:Int) (Hd l).length:=by unfold Ia;simp;omega
 have t1:((i:Int)).toNat=i:=by simp
 have t2:=Ua hi hw
 have t3:IntKind.i64.wrap (l[i].1 - 1)=l[i].1 - 1:=Ca (by omega)
 have hg:=xr hi
 have d1:=Ga c1;have d2:=Ga c2;have d3:=Ga c3;have d4:=Ga c4
 generalize Hd l=es at *
 generalize l[i]=p at *
 simp -implicitDefEqProofs only[SP,SA,SQ,sevalprocAttr,Nc,ga,ud,e1,eq_true hq,t1,t2,t3,hg,d1,d2,d3,d4,wa,fa,Aa,na,Ma,AV.cut,Dc,tw]
theorem zR (i:Nat) (hi:i < l.length) (hv:Vi 2 v (Hd l)) (hw:l.length≤maxLen) (last:Int) (ht:top≤9223372036854775807) (hc:l[i].1 < 0∨l[i].1 > l[i].2∨l[i].2 > top∨l[i].1 - 1≤last):
 pP 4 (.pv (.bool false)) (Nc (Ea (fun _=>none) 8) [1,5,8,9,10] ud 0 ⟨tw v top l.length i last,[]⟩):=by
 have hv:=hv.lit (i:=i) (by simpa using hi)
 subst hv
 have e1:decide ((i:Int) < (l.length:Int))=true:=Fa (by omega)
 have hq:Ia (i:Int) (Hd l).length:=by unfold Ia;simp;omega
 have t1:((i:Int)).toNat=i:=by simp
 have hg:=xr hi
 generalize Hd l=es at *
 generalize l[i]=p at *
 by_cases c1:p.1 < 0
 ·have d1:=Fa c1
  simp -implicitDefEqProofs only[SP,SA,SQ,sevalprocAttr,Nc,ga,ud,e1,eq_true hq,t1,hg,d1,wa,tw,Fx]
 have d1:=Ga c1
 by_cases c2:p.1 > p.2
 ·have d2:=Fa c2
  simp -implicitDefEqProofs only[SP,SA,SQ,sevalprocAttr,Nc,ga,ud,e1,eq_true hq,t1,hg,d1,d2,wa,tw,Fx]
 have d2:=Ga c2
 by_cases c3:p.2 > top
 ·have d3:=Fa c3
  simp -implicitDefEqProofs only[SP,SA,SQ,sevalprocAttr,Nc,ga,ud,e1,eq_true hq,t1,hg,d1,d2,d3,wa,tw,Fx]
 have d3:=Ga c3
 have c4:p.1 - 1≤last:=by rcases hc with h | h | h | h <;> first | exact h | omega
 have t3:IntKind.i64.wrap (p.1 - 1)=p.1 - 1:=Ca (by omega)
 have d4:=Fa c4
 simp -implicitDefEqProofs only[SP,SA,SQ,sevalprocAttr,Nc,ga,ud,e1,eq_true hq,t1,t3,hg,d1,d2,d3,d4,wa,tw,Fx]
include hv hw ht
theorem bu:Ci [v,i64 top]=some (.bool (Qa top (-2) l)):=by
 have ls:=hv.len
 simp only[Hd,List.length_map] at ls
 have key:=al (g:=Nc (Ea (fun _=>none) 8) [1,5,8,9,10] ud 0)
  (fun i t=>∃ last,t=⟨tw v top l.length i last,[]⟩∧Qa top (-2) l=Qa top last (l.drop i))
  (fun ex t=>(ex= .exit 0∧Qa top (-2) l=true∧∃ last,t=⟨(tw v top l.length l.length last).set 11 (.pv (.bool false)),[]⟩)∨(ex= .ret∧Qa top (-2) l=false∧t.env.get 4= .pv (.bool false)))
  qa l.length 0 ⟨tw v top l.length (0:Nat) (-2),[]⟩ (by unfold qa;unfold maxLen at hw;omega) (by omega) ⟨-2,rfl,rfl⟩ ?_ ?_
 ·have hl:ab (ga (ua (Ea (fun _=>none) 8) ud) (fa 0 [1,5,8,9,10])) qa ⟨tw v top l.length 0 (-2),[]⟩=ab (Nc (Ea (fun _=>none) 8) [1,5,8,9,10] ud 0) qa ⟨tw v top l.length (0:Nat) (-2),[]⟩:=rfl
  obtain⟨ex,t,h,_,hq⟩:=key
  rw[h] at hl
  simp only[tw] at hl
  rcases hq with⟨rfl,hval,last,rfl⟩ | ⟨rfl,hval,hg⟩
  ·rw[hval]
   simp -implicitDefEqProofs only[Ci,SP,SA,SQ,sevalprocAttr,Rp,ls,xb,fa,Aa,na,Ma,AV.cut,Dc,hl,tw]
  ·rw[hval]
   simp -implicitDefEqProofs only[Ci,SP,SA,SQ,sevalprocAttr,Rp,ls,xb,fa,Aa,na,Ma,AV.cut,Dc,hl,tw,hg]
 ·rintro i hi t ⟨last,rfl,hval⟩
  have hd:l.drop i=l[i]::l.drop (i+1):=List.drop_eq_getElem_cons hi
  rw[hd,Qa] at hval
  by_cases hc:l[i].1 < 0∨l[i].1 > l[i].2∨l[i].2 > top∨l[i].1 - 1≤last
  ·obtain⟨t,h1,h2⟩:=RM (zR v l top i hi hv hw last ht hc)
   refine .inr ⟨.ret,t,h1,rfl,.inr ⟨rfl,?_,h2⟩⟩
   rw[hval]
   rcases hc with h | h | h | h <;> simp[h]
  ·have hc':¬l[i].1 < 0∧¬l[i].1 > l[i].2∧¬l[i].2 > top∧¬l[i].1 - 1≤last:=by
    refine⟨fun h=>hc (.inl h),fun h=>hc (.inr (.inl h)),fun h=>hc (.inr (.inr (.inl h))),fun h=>hc (.inr (.inr (.inr h)))⟩
   refine .inl ⟨_,bM v l top i hi hv hw last ht hc'.1 hc'.2.1 hc'.2.2.1 hc'.2.2.2,l[i].2,rfl,?_⟩
   rw[hval,Ga hc'.1,Ga hc'.2.1,Ga hc'.2.2.1,Ga hc'.2.2.2]
   rfl
 ·rintro t ⟨last,rfl,hval⟩
  refine⟨.exit 0,_,?_,rfl,.inl ⟨rfl,?_,last,rfl⟩⟩
  ·have e1:decide ((l.length:Int) < (l.length:Int))=false:=Ga (by omega)
   simp -implicitDefEqProofs only[SP,SA,SQ,sevalprocAttr,Nc,ga,ud,e1,tw]
  ·rw[hval,List.drop_length];rfl
end
end Go.AM.B1
namespace Go.AM.B1
open Go.AM
def xf (x:Int):Int→List (Int×Int)→Int×Bool
 |_,[]=>(0,false)
 |n,p::r=>if x < p.1 then (0,false) else if x≤p.2 then (n+x - p.1,true) else xf x (n+(p.2 - p.1+1)) r
abbrev Px (v:PV) (x len i n:Int):Tr:=(((((Tr.lf.set 11 (.pv (i64 i))).set 10 (.pv (i64 len))).set 9 (.pv v)).set 6 (.pv (i64 n))).set 1 (.pv (i64 x)))
section
variable (v:PV) (l:List (Int×Int)) (hv:Vi 2 v (Hd l)) (hw:l.length≤maxLen) (x n:Int)
theorem fT (i:Nat) (hi:i < l.length) (hv:Vi 2 v (Hd l)) (c:x < l[i].1):
 XI 0 (Nc (Ea (fun _=>none) 8) [1,6,9,10,11] Le 0 ⟨Px v x l.length i n,[]⟩):=by
 have hv:=hv.lit (i:=i) (by simpa using hi)
 subst hv
 have e1:decide ((i:Int) < (l.length:Int))=true:=Fa (by omega)
 have hq:Ia (i:Int) (Hd l).length:=by unfold Ia;simp;omega
 have t1:((i:Int)).toNat=i:=by simp
 have hg:=xr hi
 have d1:=Fa c
 generalize Hd l=es at *
 generalize l[i]=p at *
 simp -implicitDefEqProofs only[SP,SA,SQ,sevalprocAttr,Nc,ga,Le,e1,eq_true hq,t1,hg,d1,wa,Px,VK]
theorem aX (i:Nat) (hi:i < l.length) (hv:Vi 2 v (Hd l)) (c:¬x < l[i].1) (c2:x≤l[i].2) (hb:0≤l[i].1∧l[i].2≤4611686018427387904∧0≤n∧n≤4611686018427387903):
 fI 4 (.pv (i64 (n+x - l[i].1))) 5 (.pv (.bool true)) (Nc (Ea (fun _=>none) 8) [1,6,9,10,11] Le 0 ⟨Px v x l.length i n,[]⟩):=by
 have hv:=hv.lit (i:=i) (by simpa using hi)
 subst hv
 have e1:decide ((i:Int) < (l.length:Int))=true:=Fa (by omega)
 have hq:Ia (i:Int) (Hd l).length:=by unfold Ia;simp;omega
 have t1:((i:Int)).toNat=i:=by simp
 have hg:=xr hi
 have d1:=Ga c
 have d2:=Fa c2
 have t3:IntKind.i64.wrap (n+x)=n+x:=Ca (by omega)
 have t4:IntKind.i64.wrap (n+x - l[i].1)=n+x - l[i].1:=Ca (by omega)
 generalize Hd l=es at *
 generalize l[i]=p at *
 simp -implicitDefEqProofs only[SP,SA,SQ,sevalprocAttr,Nc,ga,Le,e1,eq_true hq,t1,t3,t4,hg,d1,d2,wa,Px,UM]
theorem kW (i:Nat) (hi:i < l.length) (hv:Vi 2 v (Hd l)) (hw:l.length≤maxLen) (c:¬x < l[i].1) (c2:¬x≤l[i].2) (hb:0≤l[i].1∧l[i].1≤l[i].2∧l[i].2≤4611686018427387902∧0≤n∧n≤l[i].1):
 Nc (Ea (fun _=>none) 8) [1,6,9,10,11] Le 0 ⟨Px v x l.length i n,[]⟩=some (.norm,⟨Px v x l.length (i+1:Nat) (n+(l[i].2 - l[i].1+1)),[]⟩):=by
 have hv:=hv.lit (i:=i) (by simpa using hi)
 subst hv
 have e1:decide ((i:Int) < (l.length:Int))=true:=Fa (by omega)
 have hq:Ia (i:Int) (Hd l).length:=by unfold Ia;simp;omega
 have t1:((i:Int)).toNat=i:=by simp
 have t2:=Ua hi hw
 have hg:=xr hi
 have d1:=Ga c
 have d2:=Ga c2
 have t3:IntKind.i64.wrap (l[i].2 - l[i].1)=l[i].2 - l[i].1:=Ca (by omega)
 have t4:IntKind.i64.wrap (l[i].2 - l[i].1+1)=l[i].2 - l[i].1+1:=Ca (by omega)
 have t5:IntKind.i64.wrap (n+(l[i].2 - l[i].1+1))=n+(l[i].2 - l[i].1+1):=Ca (by omega)
 generalize Hd l=es at *
 generalize l[i]=p at *
 simp -implicitDefEqProofs only[SP,SA,SQ,sevalprocAttr,Nc,ga,Le,e1,eq_true hq,t1,t2,t3,t4,t5,hg,d1,d2,wa,fa,Aa,na,Ma,AV.cut,Dc,Px]
theorem ee {top last:Int} {p:Int×Int} {r:List (Int×Int)} (h:Qa top last (p::r)=true):¬p.1 < 0∧¬p.1 > p.2∧¬p.2 > top∧¬p.1 - 1≤last∧Qa top p.2 r=true:=by
 simp only[Qa,Bool.and_eq_true,Bool.not_eq_true',Bool.or_eq_false_iff,decide_eq_false_iff_not] at h
 exact⟨h.1.1.1.1,h.1.1.1.2,h.1.1.2,h.1.2,h.2⟩
include hv hw
theorem UF {top:Int} (ht:top≤4611686018427387900) (hval:Qa top (-2) l=true):Qo [v,i64 x]=some (.mc [i64 (xf x 0 l).1,.bool (xf x 0 l).2]):=by
 have ls:=hv.len
 simp only[Hd,List.length_map] at ls
 have key:=al (g:=Nc (Ea (fun _=>none) 8) [1,6,9,10,11] Le 0)
  (fun i t=>∃ n last,t=⟨Px v x l.length i n,[]⟩∧xf x 0 l=xf x n (l.drop i)∧Qa top last (l.drop i)=true∧0≤n∧n≤max 0 (last+1)∧last≤top)
  (fun ex t=>(ex= .exit 0∧xf x 0 l=(0,false))∨(ex= .ret∧∃ r,xf x 0 l=(r,true)∧t.env.get 4= .pv (i64 r)∧t.env.get 5= .pv (.bool true)))
  qa l.length 0 ⟨Px v x l.length (0:Nat) 0,[]⟩ (by unfold qa;unfold maxLen at hw;omega) (by omega) ?_ ?_ ?_
 ·have hl:ab (ga (ua (Ea (fun _=>none) 8) Le) (fa 0 [1,6,9,10,11])) qa ⟨Px v x l.length 0 0,[]⟩=ab (Nc (Ea (fun _=>none) 8) [1,6,9,10,11] Le 0) qa ⟨Px v x l.length (0:Nat) 0,[]⟩:=rfl
  obtain⟨ex,⟨e,H⟩,h,_,hq⟩:=key
  rw[h] at hl
  simp only[Px] at hl
  rcases hq with⟨rfl,hr⟩ | ⟨rfl,r,hr,g4,g5⟩
  ·rw[hr]
   simp -implicitDefEqProofs only[Qo,SP,SA,SQ,sevalprocAttr,Dr,ls,xb,fa,Aa,na,Ma,AV.cut,Dc,hl,Px]
  ·rw[hr]
   simp only at g4 g5
   simp -implicitDefEqProofs only[Qo,SP,SA,SQ,sevalprocAttr,Dr,ls,xb,fa,Aa,na,Ma,AV.cut,Dc,hl,Px,g4,g5]
 ·refine⟨0,min (-2) top,rfl,rfl,?_,by omega,by omega,by omega⟩
  have mono:∀ {a b:Int} {r:List (Int×Int)},a≤b→Qa top b r=true→Qa top a r=true:=by
   intro a b r hab h
   cases r with
   |nil=>rfl
   |cons p r=>
    obtain⟨h1,h2,h3,h4,h5⟩:=ee h
    simp only[Qa,h5,Bool.and_true,Bool.not_eq_true',Bool.or_eq_false_iff,decide_eq_false_iff_not]
    exact⟨⟨⟨h1,h2⟩,h3⟩,by omega⟩
  exact mono (by omega) hval
 ·rintro i hi t ⟨n,last,rfl,hr,hva,hn0,hn1,hlast⟩
  have hd:l.drop i=l[i]::l.drop (i+1):=List.drop_eq_getElem_cons hi
  rw[hd] at hr hva
  obtain⟨h1,h2,h3,h4,h5⟩:=ee hva
  rw[xf] at hr
  by_cases c:x < l[i].1
  ·obtain⟨e,H,hx⟩:=sK (fT v l x n i hi hv c)
   rw[if_pos c] at hr
   exact .inr ⟨.exit 0,⟨e,H⟩,hx,rfl,.inl ⟨rfl,hr⟩⟩
  by_cases c2:x≤l[i].2
  ·obtain⟨t,hx,g4,g5⟩:=aK (aX v l x n i hi hv c c2 (by omega))
   rw[if_neg c,if_pos c2] at hr
   exact .inr ⟨.ret,t,hx,rfl,.inr ⟨rfl,_,hr,g4,g5⟩⟩
  ·rw[if_neg c,if_neg c2] at hr
   exact .inl ⟨_,kW v l x n i hi hv hw c c2 (by omega),_,l[i].2,rfl,hr,h5,by omega,by omega,by omega⟩
 ·rintro t ⟨n,last,rfl,hr,_⟩
  refine⟨.exit 0,⟨(Px v x l.length l.length n).set 12 (.pv (.bool false)),[]⟩,?_,rfl,.inl ⟨rfl,?_⟩⟩
  ·have e1:decide ((l.length:Int) < (l.length:Int))=false:=Ga (by omega)
   simp -implicitDefEqProofs only[SP,SA,SQ,sevalprocAttr,Nc,ga,Le,e1,Px]
  ·rw[hr,List.drop_length];rfl
end
def ny (l:List (Int×Int)):List (Int×Int):=if Qa 255 (-2) l then l else []
theorem lg (H:List ba) (d:Nat) (p:PV):dc H d (.pv p)=some p:=by cases d <;> rfl
theorem wM (l:List (Int×Int)):Qa 255 (-2) (ny l)=true:=by
 unfold ny
 cases hb:Qa 255 (-2) l with
 |true=>exact hb
 |false=>rfl
theorem xV (l:List (Int×Int)):(ny l).length≤l.length:=by
 unfold ny
 split <;> simp
section
variable (v:PV) (l:List (Int×Int)) (hv:Vi 2 v (Hd l)) (hw:l.length * 16≤140737488355328)
include hv hw
theorem kC:eo [v]=some (.bool (Qa 255 (-2) l)):=by
 have h1:=rm v l hv hw
 have h2:=bu (.lit 2 (Hd l)) l (.inr rfl) (by unfold maxLen;omega) 255 (by decide)
 simp -implicitDefEqProofs only[eo,SP,SA,SQ,sevalprocAttr,Es,lg,Dc,h1,h2]
theorem Yr:∃ u,og [v]=some u∧Vi 2 u (Hd (ny l)):=by
 have h1:=rm v l hv hw
 have h2:=bu (.lit 2 (Hd l)) l (.inr rfl) (by unfold maxLen;omega) 255 (by decide)
 unfold ny
 cases hb:Qa 255 (-2) l with
 |true=>
  rw[hb] at h2
  refine⟨.lit 2 (Hd l),?_,.inr rfl⟩
  simp -implicitDefEqProofs only[og,SP,SA,SQ,sevalprocAttr,xo,lg,Dc,h1,h2]
 |false=>
  rw[hb] at h2
  refine⟨.ma,?_,.inl ⟨rfl,rfl⟩⟩
  simp -implicitDefEqProofs only[og,SP,SA,SQ,sevalprocAttr,xo,lg,Dc,h1,h2]
theorem Xv (x:Int):Im [v,i64 x]=some (.mc [i64 (xf x 0 (ny l)).1,.bool (xf x 0 (ny l)).2]):=by
 obtain⟨u,h1,h2⟩:=Yr v l hv hw
 have h3:=UF u (ny l) h2 (by have:=xV l;unfold maxLen;omega) x (top:=255) (by decide) (wM l)
 simp -implicitDefEqProofs only[Im,SP,SA,SQ,sevalprocAttr,qv,lg,Dc,h1,h3]
theorem cG (x:Int):sw [v,i64 x]=some (.bool (xf x 0 (ny l)).2):=by
 have h3:=Xv v l hv hw x
 simp -implicitDefEqProofs only[sw,SP,SA,SQ,sevalprocAttr,Bw,lg,Dc,h3]
end
end Go.AM.B1
namespace Go.AM.B1
open Go.AM
theorem _root_.Go.AM.Na.weaken {P:Program} {f:FuncId} {F G:List PV→Option PV} (h:Na P f G) (hF:∀ xs r,F xs=some r→G xs=some r):Na P f F:=
 ⟨h.1,fun w R args vs r hR hl hr=>h.2 w R args vs r hR hl (hF _ _ hr)⟩
def vz:PV→Option (Int×Int)
 | .agg [.int .i64 a,.int .i64 b]=>some (a,b)
 |_=>none
def iz:PV→Option (List (Int×Int))
 | .ma=>some []
 | .lit 2 es=>Ra vz es
 |_=>none
theorem vN {v:PV} {p:Int×Int} (h:vz v=some p):v=pr p:=by
 unfold vz at h
 split at h
 ·injection h with h;subst h;rfl
 ·cases h
theorem MI {v:PV} {l:List (Int×Int)} (h:iz v=some l):Vi 2 v (Hd l):=by
 unfold iz at h
 split at h
 ·injection h with h;subst h;exact .inl ⟨rfl,rfl⟩
 ·rename_i es
  refine .inr ?_
  congr 1
  induction es generalizing l with
  |nil=>simp only[Ra,Option.some.injEq] at h;subst h;rfl
  |cons e es ih=>
   simp only[Ra,Option.bind_eq_some_iff,Option.some.injEq] at h
   obtain⟨p,h1,r,h2,rfl⟩:=h
   rw[ih h2,vN h1]
   rfl
 ·cases h
def Wk:List PV→Option PV
 | [v,.int .i64 x]=>(iz v).bind fun l=>if l.length * 16≤140737488355328 then some (.bool (xf x 0 (ny l)).2) else none
 |_=>none
theorem wJ:Na P 149 Wk:=ML.weaken fun xs r h=>by
 unfold Wk at h
 split at h
 ·rename_i v x
  simp only[Option.bind_eq_some_iff] at h
  obtain⟨l,h1,h2⟩:=h
  split at h2
  ·rename_i hw
   injection h2 with h2
   rw[cG v l (MI h1) hw x,←h2]
  ·cases h2
 ·cases h
end Go.AM.B1
namespace Go.Proofs
open Go.Shelf Go.RowKit Go.Lib Go.Sort
shelf_lay_g SlLaysF0.n6 Slsf 6 at Tryz 146 as Tryz.sortRun
shelf_lay_g SlLaysC2.n5 Slgc 5 at Tryz 69 as Tryz.cmpInt
theorem iO (r:List Int):∃ a b:Int,AM.encI 2 r=[.int .i64 a,.int .i64 b]∧AM.uw 2 0 r=a:=by
 unfold AM.encI AM.uw
 by_cases h:r.length=2
 ·match r,h with
  | [a,b],_=>exact⟨a,b,rfl,rfl⟩
 ·rw[if_neg h,if_neg h];exact⟨0,0,rfl,rfl⟩
set_option maxHeartbeats 1000000 in
theorem EW (a b c d:Int) (W:World):Calls Tryz.prog 147 #[.agg #[.int .i64 a,.int .i64 b],.agg #[.int .i64 c,.int .i64 d]] W fun e w'=>e= .returned (.int .i64 (Lib.compareInt a c))∧∃ q os',w'=grow (W.drewN q) os':=by
 have hcon:=fun W'=>AnyG.cmp_Compare_int Tryz.cmpInt a c W'
 change ∀ W',Calls Tryz.prog 69 _ _ _ at hcon
 generalize Lib.compareInt a c=r at hcon ⊢
 go_enter Tryz.func147,Tryz.ntmps147
 go_wp2_with (go_at_call 69;refine (hcon _).mono ?_;rintro e w' ⟨rfl,rfl⟩)
 go_ret
 exact⟨rfl,0,_,by rw[alloc_eq_grow,alloc_eq_grow,grow_grow];rfl⟩
theorem WT:AM.jM Tryz.prog 146 147 2 0 where
 call:=⟨_,_,Tryz.func146,rfl,by kernel_rfl⟩
 many:=by
  intro blk ofs cap D w hH hb hs
  refine AnyQ.slices_SortFunc_eq Tryz.sortRun 2 Tryz.isAgg244 Tryz.sizeOf244 (AM.encI 2) (fun x=>by obtain⟨a,b,h,_⟩:=iO x;rw[h];rfl) (fun x v hv=>by
   obtain⟨a,b,h,_⟩:=iO x
   rw[h] at hv
   simp at hv
   rcases hv with rfl | rfl <;> rfl) (AM.KX 2 0) (AM.pY 2 0) 147 #[] blk ofs cap D w (enters_of Tryz.func147 (by kernel_rfl) rfl) (fun m os dk _ x y=> ?_) hH hb hs
  obtain⟨a,b,h1,h2⟩:=iO x
  obtain⟨c,d,h3,h4⟩:=iO y
  rw[h1,h3]
  unfold AM.KX
  rw[h2,h4]
  exact EW a b c d _
 none:=fun p cap w=>AnyF.slices_SortFunc_none Tryz.sortRun p cap _ w
end Go.Proofs
namespace Go.AM.B1
open Go.AM
def Wh:Pa:=(jQ [jB 12 .lss 11 10] (.seq (jX 12 0) (.seq (.block 1 (jQ [ji 13 2 9 11,jL 14 2 13,Co 5 (.alloc [(.int .i64 0),(.int .i64 0)]),jS 2 5 14] (.seq (jQ [Cv 15 3,jn 16 0 15,Cv 6 16] (jQ [Cv 17 6,jK 18 .gtr 17 0,Cv 19 18,jT 20 19 (.kf 0 5),jT 21 19 (.kl 1 20),jT 22 19 (.km 3),jT 23 19 (.km 6),jT 24 19 (.kK .sub 23 1),jT 25 19 (.ki 2 22 24),jT 26 19 (.kf 1 25),jT 27 19 (.kl 1 26),jT 28 19 (.kK .add 27 1),jT 29 19 (.kB .leq 21 28),ja 30 19 29] (jC 30 (jQ [Cv 31 3,Cv 32 6,jK 33 .sub 32 1,Cv 34 3,Cv 35 6,jK 36 .sub 35 1,ji 37 2 34 36,jf 38 1 37,jl 39 1 38,jf 40 1 5,jl 41 1 40,Co 42 (.mx [(.t 39),(.t 41)]),ji 43 2 31 33,jf 44 1 43,jS 1 44 42] (.exit 1)) .skip))) (.region [Cv 45 3,jL 46 2 5,Co 47 (.Gb .lit 2 true 1 [(.int .i64 0),(.int .i64 0)] [(0,(.t 46))]),Co 48 (.append true .own 2 true 16 (.t 45) (.t 47)),Cv 3 48])))) (.region [jK 49 .add 11 1,Cv 11 49]))))
def Io:gf:=⟨1,[.tmp 2],(jQ [jc 2 .ma] (jQ [Cv 7 0,Co 8 (.tj 22 [(.t 7),(.f 23)])] (jQ [jc 3 .ma] (.ghost (.CH 3 2 true) (.seq (jQ [Cv 9 0,jn 10 0 9,jk 11 0] (.block 0 (.loop [3,9,10,11] Wh))) (jr [Cv 50 3,Cv 2 50]))))))⟩
theorem cJ:wc P fo 113 Io:=fM Go.Proofs.Tryz.func113 dN
def Ec:Pa:=(jQ [jB 12 .lss 11 10] (.seq (jX 12 0) (.seq (.block 1 (jQ [ji 13 2 9 11,jL 14 2 13,Co 5 (.alloc [(.int .i64 0),(.int .i64 0)]),jS 2 5 14] (.region [Cv 15 3,jL 16 2 5,Co 17 (.Gb .lit 2 true 1 [(.int .i64 0),(.int .i64 0)] [(0,(.t 16))]),Co 18 (.append true .own 2 true 16 (.t 15) (.t 17)),Cv 3 18]))) (.region [jK 19 .add 11 1,Cv 11 19]))))
def Vc:gf:=⟨1,[.tmp 2],(jQ [jc 2 .ma] (jQ [Cv 6 0,jn 7 0 6,Co 8 (.Xg .own 2 true [(.int .i64 0),(.int .i64 0)] 16 (.c (.int .i64 0)) (.t 7)),Cv 3 8] (.seq (jQ [Cv 9 0,jn 10 0 9,jk 11 0] (.block 0 (.loop [3,9,10,11] Ec))) (jr [Cv 20 3,Cv 2 20]))))⟩
theorem Dm:wc P fo 145 Vc:=fM Go.Proofs.Tryz.func145 dN
def Di:gf:=⟨1,[.tmp 2],(jQ [jc 2 .ma] (jQ [Cv 4 0,Co 5 (.tj 0 [(.t 4)]),Cv 3 5] (.seq (jQ [Cv 6 3,Co 7 (.Bn Ci [(.t 6),(.c (.int .i64 1073741823))]),jt 8 7] (jC 8 (jr [jc 2 .ma]) .skip)) (jr [Cv 9 3,Cv 2 9]))))⟩
theorem gy:wc P fo 112 Di:=fM Go.Proofs.Tryz.func112 (dC Up dN)
def Jc:Pa:=(jQ [jB 12 .lss 11 10] (.seq (jX 12 0) (.seq (.block 1 (jQ [ji 13 2 9 11,jL 14 2 13,Co 5 (.alloc [(.int .i64 0),(.int .i64 0)]),jS 2 5 14] (.region [Cv 15 3,jL 16 2 5,Co 17 (.Gb .lit 2 true 1 [(.int .i64 0),(.int .i64 0)] [(0,(.t 16))]),Co 18 (.ku 2 true 16 15 17),Cv 3 18]))) (.region [jK 19 .add 11 1,Cv 11 19]))))
def pd:gf:=⟨1,[.tmp 2],(jQ [jc 2 .ma] (jQ [Cv 6 0,jn 7 0 6,Co 8 (.Xg .uq 2 true [(.int .i64 0),(.int .i64 0)] 16 (.c (.int .i64 0)) (.t 7)),Cv 3 8] (.seq (jQ [Cv 9 0,jn 10 0 9,jk 11 0] (.block 0 (.loop [3,9,10,11] Jc))) (jr [Cv 20 3,Cv 2 20]))))⟩
theorem Tm:wc P fo 144 pd:=fM Go.Proofs.Tryz.func144 dN
def yk:gf:=⟨1,[.tmp 2],(jQ [jc 2 .ma] (jr [Cv 3 0,Co 4 (.tj 2 [(.t 3)]),Cv 2 4]))⟩
theorem Ly:wc P fo 110 yk:=fM Go.Proofs.Tryz.func110 dN
def ep:gf:=⟨2,[.tmp 4],(jQ [jc 4 .ma] (jr [Cv 5 0,Co 6 (.tj 1 [(.t 5)]),Cv 7 1,Co 8 (.tj 1 [(.t 7)]),Co 9 (.append true .own 2 true 16 (.t 6) (.t 8)),Co 10 (.tj 24 [(.t 9)]),Co 11 (.tj 3 [(.t 10)]),Cv 4 11]))⟩
theorem IA:wc P fo 81 ep:=fM Go.Proofs.Tryz.func81 dN
def Fb:Nat→Option gf
 |24=>some Io
 |0=>some Vc
 |1=>some Di
 |2=>some pd
 |3=>some yk
 |_=>none
theorem Oz:Sl P fo Fb:=by
 intro ix af h
 unfold Fb at h
 split at h
 ·injection h with h;subst h;exact cJ
 ·injection h with h;subst h;exact Dm
 ·injection h with h;subst h;exact gy
 ·injection h with h;subst h;exact Tm
 ·injection h with h;subst h;exact Ly
 ·cases h
def Wj:Wa:=fun ix args H=>if ix=22 then Zy 2 0 23 args H else none
theorem AR (B0:Of):Bq P fo B0 Wj:=BK (s:=22) (g:=23) Go.Proofs.WT B0
def Ul:=QB Wj Fb ep
theorem oC:Na P 81 Ul:=fK Oz AR IA
def Kb:Pa:=(jQ [jB 15 .lss 14 13] (.seq (jX 15 0) (.seq (.block 1 (jQ [ji 16 2 12 14,jL 17 2 16,Co 5 (.alloc [.ma,(.int .i64 0)]),jS 2 5 17] (.seq (jQ [jf 18 0 5,jl 19 1 18,jn 20 0 19,jK 21 .lss 20 1,Cv 22 21,jF 23 22 (.kf 0 5),jF 24 22 (.kl 1 23),jF 25 22 (.kn 0 24),jF 26 22 (.kK .gtr 25 8),jo 27 22 26,Cv 28 27,jF 29 28 (.kf 1 5),jF 30 28 (.kl 1 29),jF 31 28 (.kK .lss 30 0),jo 32 28 31,Cv 33 32,jF 34 33 (.kf 1 5),jF 35 33 (.kl 1 34),jF 36 33 (.kK .gtr 35 1073741823),jo 37 33 36,Cv 38 37,jF 39 38 (.kf 0 5),jF 40 38 (.kl 1 39),jF 41 38 (.tj 6 [(.t 40),(.f 7)]),jo 42 38 41] (jC 42 (jr [jb 2 false]) .skip)) (jQ [jf 43 1 5,jl 44 1 43,jL 45 2 5,jp 46 Vn 45,Co 47 (.build [(.int .i64 0),(.int .i64 0)] [(0,1,(.t 44)),(1,1,(.t 46))]),Co 48 (.Gb .lit 2 true 1 [(.int .i64 0),(.int .i64 0)] [(0,(.t 47))]),Cv 6 48] (.seq (jQ [Cv 49 6,Co 50 (.kj 2 49 0),jf 51 1 50,jl 52 1 51,jK 53 .gtr 52 1073741823,Cv 54 53,jF 55 54 (.km 3),jF 56 54 (.km 6),jF 57 54 (.kq Fm 55 56),jF 58 54 (.kn 0 57),jF 59 54 (.kK .gtr 58 0),jo 60 54 59] (jC 60 (jr [jb 2 false]) .skip)) (.region [Cv 61 3,Cv 62 6,jq 63 Ul 61 62,Cv 3 63])))))) (.region [jK 64 .add 14 1,Cv 14 64]))))
def Qk:gf:=⟨1,[.tmp 2],(jQ [jR 1 1 0,jb 2 false] (.seq (jQ [Jf 7 0 1,Jl 8 1 7,jn 9 0 8,jK 10 .gtr 9 32] (jC 10 (jr [jb 2 false]) .skip)) (jQ [jc 3 .ma] (.seq (jQ [Jf 11 0 1,Jl 12 1 11,jn 13 0 12,jk 14 0] (.block 0 (.loop [3,12,13,14] Kb))) (jr [jb 2 true])))))⟩
theorem sC:wc P fo 51 Qk:=fM Go.Proofs.Tryz.func51 (dC NF (dC jD (dC oC dN)))
def Wb:Nat→Option gf
 |5=>some yc
 |6=>some Jb
 |7=>some Pj
 |_=>none
theorem XA:Sl P fo Wb:=by
 intro ix af h
 unfold Wb at h
 split at h
 ·injection h with h;subst h;exact ll
 ·injection h with h;subst h;exact sk
 ·injection h with h;subst h;exact xF
 ·cases h
def Ie:=Ub Wb Qk
theorem Qm:Na P 51 Ie:=Ja XA sC
def Cs:gf:=⟨1,[.tmp 2],(jQ [jR 1 2 0,jb 2 false] (jr [JL 3 2 1,Co 4 (.Gb .lit 2 true 1 [.ma,(.int .i64 0)] [(0,(.t 3))]),Co 5 (.build [.ma] [(0,1,(.t 4))]),jp 6 Ie 5,Cv 2 6]))⟩
theorem zE:wc P fo 83 Cs:=fM Go.Proofs.Tryz.func83 (dC Qm dN)
def Oi:=Ub (fun _=>none) Cs
theorem Sn:Na P 83 Oi:=Ja Va zE
def Uf:Pa:=(jQ [jB 36 .lss 35 34] (.seq (jX 36 0) (.seq (.block 1 (jQ [Cv 37 35,Cv 9 37] (jQ [Jf 38 0 3,Jl 39 1 38,Cv 40 9,Ji 41 1 39 40,Jl 42 1 41,Jf 43 0 4,Jl 44 1 43,Cv 45 9,Ji 46 1 44 45,Jl 47 1 46,jq 48 Wp 42 47,Cv 10 48] (.seq (jQ [Cv 49 10,jn 50 0 49,jK 51 .eql 50 0] (jC 51 (jr [jc 6 .ma,jb 7 false]) .skip)) (.region [Cv 52 8,Cv 53 10,Co 54 (.kj 2 53 0),jf 55 0 54,jl 56 1 55,Co 57 (.conv .u8 (.t 56)),Co 58 (.Gb .lit 1 false 1 [(.int .u8 0)] [(0,(.t 57))]),Co 59 (.ku 1 false 1 52 58),Cv 8 59]))))) (.region [jK 60 .add 35 1,Cv 35 60]))))
def gl:gf:=⟨3,[.tmp 6,.tmp 7],(jQ [jR 3 2 0,jR 4 2 1,jc 6 .ma,jb 7 false] (.seq (jQ [JL 11 2 3,jp 12 Oi 11,jt 13 12,Cv 14 13,JF 15 14 (.kL 2 4),jF 16 14 (.kp Oi 15),jF 17 14 (.kt 16),jo 18 14 17,Cv 19 18,jF 20 19 (.km 2),jF 21 19 (.kK .lss 20 0),jo 22 19 21,Cv 23 22,jF 24 23 (.km 2),JF 25 23 (.kf 0 3),JF 26 23 (.kl 1 25),jF 27 23 (.kn 0 26),JF 28 23 (.kf 0 4),JF 29 23 (.kl 1 28),jF 30 23 (.kn 0 29),jF 31 23 (.mn [(.t 27),(.t 30)]),jF 32 23 (.kB .gtr 24 31),jo 33 23 32] (jC 33 (jr [jc 6 .ma,jb 7 false]) .skip)) (jQ [jc 8 .ma] (.ghost (.mJ 8 1) (.seq (jQ [Cv 34 2,jk 35 0] (.block 0 (.loop [3,4,8,34,35] Uf))) (jr [Cv 61 8,Cv 6 61,jb 7 true]))))))⟩
theorem bC:wc P fo 122 gl:=fM Go.Proofs.Tryz.func122 (dC Sn (dC Sn (dC WH dN)))
def Xh:=Ub (fun _=>none) gl
theorem dE:Na P 122 Xh:=Ja Va bC
def Hh:Pa:=(.seq (jQ [Cv 14 5,jK 15 .gtr 14 0] (jX 15 0)) (.seq (.block 1 (jQ [Cv 18 3,Cv 19 5,Cv 20 4,ji 21 1 18 19,jS 1 21 20] (.region [Cv 22 4,Jf 23 0 1,Jl 24 1 23,Cv 25 5,jK 26 .sub 25 1,ji 27 1 24 26,jl 28 1 27,jp 29 Um 28,jB 30 .mul 22 29,Cv 4 30]))) (.region [Cv 16 5,jK 17 .sub 16 1,Cv 5 17])))
def Vr:gf:=⟨1,[.tmp 2],(jQ [jR 1 2 0,jc 2 .ma] (jQ [Jf 6 0 1,Jl 7 1 6,jn 8 0 7,jK 9 .add 8 1,Co 10 (.Xg .own 1 false [(.int .i64 0)] 8 (.t 9) (.t 9)),Cv 3 10] (jQ [jk 4 1] (.seq (jQ [Jf 11 0 1,Jl 12 1 11,jn 13 0 12,Cv 5 13] (.block 0 (.loop [1,3,4,5] Hh))) (jQ [Cv 31 3,Cv 32 4,Co 33 (.kj 1 31 0),jS 1 33 32] (jr [Cv 34 3,Cv 2 34]))))))⟩
theorem SD:wc P fo 84 Vr:=fM Go.Proofs.Tryz.func84 (dC Hz dN)
def Uj:=Ub (fun _=>none) Vr
theorem Qs:Na P 84 Uj:=Ja Va SD
def gh:Pa:=(jQ [jB 27 .lss 26 25] (.seq (jX 27 0) (.seq (.block 1 (jQ [Cv 28 26,ji 29 1 24 26,jl 30 1 29,Cv 7 28,Cv 8 30] (jQ [Jf 32 0 2,Jl 33 1 32,Cv 34 7,Ji 35 1 33 34,Jl 36 1 35,Cv 37 1,Cv 38 7,Ji 39 1 37 38,Jl 40 1 39,Cp 41 (.conv .i64 (.t 40)),jq 42 Im 36 41,Cv 31 42,jx 43 0 31,jx 44 1 31,Cv 9 43,Cv 10 44] (.seq (jQ [Cv 45 10,jt 46 45] (jC 46 (jr [jk 4 0,jb 5 false]) .skip)) (.region [Cv 47 6,Cv 48 9,Cv 49 8,jB 50 .mul 48 49,jB 51 .add 47 50,Cv 6 51]))))) (.region [jK 52 .add 26 1,Cv 26 52]))))
def Pm:gf:=⟨2,[.tmp 4,.tmp 5],(jQ [jR 2 2 0,jk 4 0,jb 5 false] (.seq (jQ [JL 11 2 2,jp 12 Oi 11,jt 13 12,Cv 14 13,jF 15 14 (.km 1),jF 16 14 (.kn 0 15),JF 17 14 (.kf 0 2),JF 18 14 (.kl 1 17),jF 19 14 (.kn 0 18),jF 20 14 (.kB .neq 16 19),jo 21 14 20] (jC 21 (jr [jk 4 0,jb 5 false]) .skip)) (jQ [jk 6 0] (.seq (jQ [JL 22 2 2,jp 23 Uj 22,Co 24 (.slice 1 (.t 23) (some (.c (.int .i64 1))) none),jn 25 0 24,jk 26 0] (.block 0 (.loop [1,2,6,24,25,26] gh))) (jr [Cv 53 6,Cv 4 53,jb 5 true])))))⟩
theorem zF:wc P fo 53 Pm:=fM Go.Proofs.Tryz.func53 (dC Sn (dC Qs (dC bz dN)))
def uh:=Ub (fun _=>none) Pm
theorem Uy:Na P 53 uh:=Ja Va zF
def Ch:Pa:=(jQ [jB 20 .lss 19 18] (.seq (jX 20 0) (.seq (.block 1 (jQ [ji 21 1 17 19,jl 22 1 21,Cv 7 22] (.region [Cv 23 5,Cv 24 7,Co 25 (.kj 2 24 0),jf 26 0 25,jl 27 1 26,Co 28 (.conv .u8 (.t 27)),Co 29 (.Gb .lit 1 false 1 [(.int .u8 0)] [(0,(.t 28))]),Co 30 (.ku 1 false 1 23 29),Cv 5 30]))) (.region [jK 31 .add 19 1,Cv 19 31]))))
def Ss:gf:=⟨2,[.tmp 4],(jQ [jR 2 2 0,jk 4 0] (jQ [Co 10 (.Gb .uq 1 false 0 [(.int .u8 0)] []),Cv 11 1,Co 12 (.ku 1 false 1 10 11),Cv 5 12] (.seq (jQ [Jf 13 0 2,Jl 14 1 13,Cv 15 1,jn 16 0 15,Co 17 (.slice 1 (.t 14) (some (.t 16)) none),jn 18 0 17,jk 19 0] (.block 0 (.loop [2,5,17,18,19] Ch))) (jQ [JL 33 2 2,Cv 34 5,jq 35 uh 33 34,Cv 32 35,jx 36 0 32,jx 37 1 32,Cv 8 36,Cv 9 37] (jr [Jf 38 1 2,Jl 39 1 38,Cv 40 8,jB 41 .add 39 40,Cv 4 41])))))⟩
theorem FE:wc P fo 123 Ss:=fM Go.Proofs.Tryz.func123 (dC Uy dN)
def Vj:=Ub (fun _=>none) Ss
theorem Wx:Na P 123 Vj:=Ja Va FE
def fg:Pa:=(jQ [jB 30 .lss 29 28] (.seq (jX 30 2) (.seq (.block 3 (jQ [Cv 31 29,ji 32 2 27 29,jL 33 2 32,Co 10 (.alloc [.ma,(.int .i64 0)]),Cv 9 31,jS 2 10 33] (.seq (jQ [Cv 34 1,Cv 35 7,Cv 36 9,Co 37 (.OB (.t 34) [(.t 35),(.t 36)]),jt 38 37] (jC 38 (.exit 3) .skip)) (jQ [jL 40 2 8,jL 41 2 10,jf 42 0 8,jl 43 1 42,jn 44 0 43,Co 45 (.kr Xh 40 41 44),Cv 39 45,jx 46 0 39,jx 47 1 39,Cv 11 46,Cv 12 47] (jQ [Cv 48 12] (jC 48 (jQ [jL 49 2 8,Cv 50 11,jq 51 Vj 49 50,jL 52 2 10,Cv 53 11,jq 54 Vj 52 53,Co 55 (.build [(.bool false),(.int .i64 0),(.int .i64 0)] [(1,1,(.t 51)),(2,1,(.t 54))]),jS 3 6 55] (.exit 0)) .skip)))))) (.region [jK 56 .add 29 1,Cv 29 56]))))
def Ii:Pa:=(jQ [jB 22 .lss 21 20] (.seq (jX 22 0) (.seq (.block 1 (jQ [Cv 23 21,ji 24 2 19 21,jL 25 2 24,Co 8 (.alloc [.ma,(.int .i64 0)]),Cv 7 23,jS 2 8 25] (jQ [Jf 26 0 2,Jl 27 1 26,jn 28 0 27,jk 29 0] (.block 2 (.loop [1,2,4,6,7,8,19,20,21,27,28,29] fg))))) (.region [jK 57 .add 21 1,Cv 21 57]))))
def Vf:gf:=⟨2,[.cell 4 true 3,.tmp 5],(jQ [jR 2 1 0,Co 4 (.alloc [(.bool false),(.int .i64 0),(.int .i64 0)]),jk 5 0] (.scope (.seq (jQ [JL 13 1 2,jp 14 Ie 13,jt 15 14] (jC 15 (jr [Co 16 (.build [(.bool false),(.int .i64 0),(.int .i64 0)] []),jS 3 4 16,jk 5 84]) .skip)) (jQ [Co 17 (.build [(.bool false),(.int .i64 0),(.int .i64 0)] [(0,1,(.c (.bool true)))]),Co 6 (.alloc [(.bool false),(.int .i64 0),(.int .i64 0)]),jS 3 6 17] (.seq .skip (.seq (jQ [Jf 18 0 2,Jl 19 1 18,jn 20 0 19,jk 21 0] (.block 0 (.loop [1,2,4,6,19,20,21] Ii))) (jr [jL 58 3 6,jS 3 4 58,jk 5 0])))))))⟩
theorem Av:wc P fo 94 Vf:=fM Go.Proofs.Tryz.func94 (dC Qm (dC dE (dC Wx (dC Wx dN))))
def rn:gf:=⟨1,[.cell 2 true 3,.tmp 3],(jQ [Co 1 (.box 1 (.t 0)),Co 2 (.alloc [(.bool false),(.int .i64 0),(.int .i64 0)]),jk 3 0] (jr [jL 4 1 1,Co 5 (.PF 4 [(.t 1)]),Co 6 (.tj 25 [(.t 4),(.t 5)]),jx 7 0 6,jx 8 1 6,jS 3 2 7,Cv 3 8]))⟩
theorem nC:wc P fo 90 rn:=fM Go.Proofs.Tryz.func90 dN
def mj:Nat→Option gf
 |4=>some Dh
 |25=>some Vf
 |_=>none
theorem CA:Sl P fo mj:=by
 intro ix af h
 unfold mj at h
 split at h
 ·injection h with h;subst h;exact cz
 ·injection h with h;subst h;exact Av
 ·cases h
def Se:=Ub mj rn
theorem UD:Na P 90 Se:=Ja CA nC
def qe:gf:=⟨1,[.tmp 2],(jQ [jc 2 .ma] (.seq (jQ [Cv 3 0,Co 4 (.eq 2 false (.t 3) (.c .ma))] (jC 4 (jr [jc 2 .ma]) .skip)) (jr [Co 5 (.Gb .uq 2 true 0 [(.int .i64 0),(.int .i64 0)] []),Cv 6 0,Co 7 (.ku 2 true 16 5 6),Cv 2 7])))⟩
theorem Am:wc P fo 96 qe:=fM Go.Proofs.Tryz.func96 dN
def Uc:=Ub (fun _=>none) qe
theorem Km:Na P 96 Uc:=Ja Va Am
def Mh:Pa:=(jQ [jB 23 .lss 22 21] (.seq (jX 23 2) (.seq (.block 3 (jQ [ji 24 1 20 22,jl 25 1 24,Cv 8 25] (.region [jf 26 0 6,jl 27 1 26,Cv 28 8,jp 29 Uc 28,Co 30 (.Gb .lit 1 false 1 [.ma] [(0,(.t 29))]),Co 31 (.ku 1 false 24 27 30),jf 32 0 6,jS 1 32 31]))) (.region [jK 33 .add 22 1,Cv 22 33]))))
def Jh:Pa:=(jQ [jB 13 .lss 12 11] (.seq (jX 13 0) (.seq (.block 1 (jQ [ji 14 2 10 12,jL 15 2 14,Co 5 (.alloc [.ma,(.int .i64 0)]),jS 2 5 15] (jQ [jf 16 1 5,jl 17 1 16,Co 18 (.build [.ma,(.int .i64 0)] [(1,1,(.t 17))]),Co 6 (.alloc [.ma,(.int .i64 0)]),jS 2 6 18] (.ghost (.Ct 6 0 1) (.seq (jQ [jf 19 0 5,jl 20 1 19,jn 21 0 20,jk 22 0] (.block 2 (.loop [2,3,6,10,11,12,20,21,22] Mh))) (.region [jf 34 0 3,jl 35 1 34,jL 36 2 6,Co 37 (.Gb .lit 2 true 1 [.ma,(.int .i64 0)] [(0,(.t 36))]),Co 38 (.ku 2 true 32 35 37),jf 39 0 3,jS 1 39 38])))))) (.region [jK 40 .add 12 1,Cv 12 40]))))
def Yn:gf:=⟨1,[.cell 2 true 1],(jQ [jR 1 1 0,Co 2 (.alloc [.ma])] (jQ [Co 3 (.alloc [.ma])] (.ghost (.Ct 3 0 2) (.seq (jQ [Jf 9 0 1,Jl 10 1 9,jn 11 0 10,jk 12 0] (.block 0 (.loop [2,3,10,11,12] Jh))) (jr [jL 41 1 3,jS 1 2 41])))))⟩
theorem lF:wc P fo 64 Yn:=fM Go.Proofs.Tryz.func64 (dC Km dN)
def Ti:=Ub (fun _=>none) Yn
theorem Ux:Na P 64 Ti:=Ja Va lF
def Od:gf:=⟨2,[.tmp 4,.tmp 5],(jQ [jR 3 2 1,jk 4 0,jb 5 false] (jQ [Cv 9 0,jz 10 9,jf 11 1 10,jl 12 1 11,JL 13 2 3,Co 14 (.lookup (.row [1,1]) (.int .i64 0) true (.t 12) (.t 13)),Cv 8 14,jx 15 0 8,jx 16 1 8,Cv 6 15,Cv 7 16] (.seq (jQ [Cv 17 7,jt 18 17] (jC 18 (jQ [Cv 19 0,jz 20 19,jf 21 2 20,jl 22 1 21,jn 23 0 22,Cv 6 23] (.seq (jQ [Cv 24 6,jK 25 .eql 24 64] (jC 25 (jr [jk 4 0,jb 5 false]) .skip)) (jQ [Cv 26 0,jz 27 26,jf 28 1 27,jl 29 1 28,JL 30 2 3,Cv 31 6,Ce (.tu (.row [1,1]) (.t 29) (.t 30) (.t 31))] (.region [Cv 32 0,Cv 33 0,jz 34 33,jf 35 2 34,jl 36 1 35,JL 37 2 3,Co 38 (.Gb .lit 2 true 1 [(.int .i64 0),(.int .u32 0)] [(0,(.t 37))]),Co 39 (.ku 2 true 16 36 38),jz 40 32,jf 41 2 40,jS 1 41 39])))) .skip)) (jr [Cv 42 6,Cv 4 42,jb 5 true]))))⟩
theorem Qx:wc P fo 119 Od:=fM Go.Proofs.Tryz.func119 dN
def Db:Pa:=(jQ [jB 19 .lss 18 17] (.seq (jX 19 0) (.seq (.block 1 (jQ [Cv 20 18,ji 21 2 16 18,jL 22 2 21,Co 11 (.alloc [.ma,(.int .i64 0)]),Cv 10 20,jS 2 11 22] (jQ [Jf 23 1 4,Jl 24 1 23,Cv 25 10,jB 26 .shr 24 25,Co 27 (.bin .and (.t 26) (.c (.int .u32 1))),Co 28 (.bin .eql (.t 27) (.c (.int .u32 1))),Cv 29 28,jT 30 29 (.kf 0 11),jT 31 29 (.kl 1 30),JT 32 29 (.kf 0 4),JT 33 29 (.kl 1 32),jT 34 29 (.ki 1 31 33),jT 35 29 (.kl 1 34),jT 36 29 (.km 2),jT 37 29 (.kq Wk 35 36),ja 38 29 37] (jC 38 (jQ [Cv 39 8,Cv 40 10,Co 41 (.bin .shl (.c (.int .u32 1)) (.t 40)),jB 42 .or 39 41,Cv 8 42] (.region [Cv 43 9,Cv 44 43,jF 45 44 (.kf 0 11),jF 46 44 (.kl 1 45),jF 47 44 (.kn 0 46),JF 48 44 (.kf 0 4),JF 49 44 (.kl 1 48),jF 50 44 (.kK .add 49 1),jF 51 44 (.kB .eql 47 50),jo 52 44 51,Cv 9 52])) .skip)))) (.region [jK 53 .add 18 1,Cv 18 53]))))
def mi:gf:=⟨3,[.tmp 6,.tmp 7],(jQ [jR 4 2 1,Co 6 (.move (.c (.int .u32 0))),jb 7 false] (jQ [Co 8 (.move (.c (.int .u32 0)))] (jQ [jb 9 false] (.seq (jQ [Cv 12 0,jz 13 12,jf 14 0 13,jf 15 0 14,jl 16 1 15,jn 17 0 16,jk 18 0] (.block 0 (.Lp [2,4,8,9,16,17,18] Db))) (jr [Cv 54 8,Cv 55 9,Cv 6 54,Cv 7 55])))))⟩
theorem Iu:wc P fo 120 mi:=fM Go.Proofs.Tryz.func120 (dC wJ dN)
def La:Pa:=(jQ [jK 31 .lss 30 256] (.seq (jX 31 2) (.seq (.block 3 (jQ [Cv 32 30,Cv 5 32] (jQ [Cv 34 0,Cv 35 0,jz 36 35,jf 37 2 36,jl 38 1 37,Cv 39 3,ji 40 2 38 39,jL 41 2 40,Cv 42 5,Co 43 (.tj 27 [(.t 34),(.t 41),(.t 42)]),Cv 33 43,jx 44 0 33,jx 45 1 33,Cv 6 44,Cv 7 45] (.block 4 (jQ [Cv 68 6,Co 69 (.bin .eql (.t 68) (.c (.int .u32 0))),Cv 67 69] (jC 67 (.region [Cv 70 5,Co 71 (.kA 256 1 4 70),Ce (.store 1 (.t 71) (.c (.int .i64 (-2))))]) (jQ [Cv 73 7,Cv 72 73] (jC 72 (.region [Cv 74 5,Co 75 (.kA 256 1 4 74),Ce (.store 1 (.t 75) (.c (.int .i64 (-1))))]) (jQ [Cv 47 0,Cv 48 0,jz 49 48,jf 50 2 49,jl 51 1 50,Cv 52 3,ji 53 2 51 52,jf 54 0 53,jl 55 1 54,jK 56 .add 55 1,Cv 57 6,Co 58 (.build [(.int .i64 0),(.int .u32 0)] [(0,1,(.t 56)),(1,1,(.t 57))]),Co 59 (.tj 26 [(.t 47),(.t 58)]),Cv 46 59,jx 60 0 46,jx 61 1 46,Cv 8 60,Cv 9 61] (.seq (jQ [Cv 62 9,jt 63 62] (jC 63 (jr [jb 2 false]) .skip)) (.region [Cv 64 5,Cv 65 8,Co 66 (.kA 256 1 4 64),jS 1 66 65]))))))))))) (.region [jK 76 .add 30 1,Cv 30 76]))))
def yb:Pa:=(.seq (jQ [Cv 21 3,Cv 22 0,jz 23 22,jf 24 2 23,jl 25 1 24,jn 26 0 25,jB 27 .lss 21 26] (jX 27 0)) (.seq (.block 1 (jQ [Co 4 (.alloc (List.replicate 256 (.int .i64 0)))] (.seq (jQ [jk 30 0] (.block 2 (.loop [0,3,4,30] La))) (.region [Cv 77 0,Cv 78 0,jz 79 78,jf 80 3 79,jl 81 1 80,jL 82 256 4,Co 83 (.Gb .lit 256 true 1 (List.replicate 256 (.int .i64 0)) [(0,(.t 82))]),Co 84 (.append true .own 256 true 2048 (.t 81) (.t 83)),jz 85 77,jf 86 3 85,jS 1 86 84])))) (.region [Cv 28 3,jK 29 .add 28 1,Cv 3 29])))
def mg:gf:=⟨1,[.tmp 2],(jQ [jb 2 false] (jQ [Cv 10 0,Cv 11 0,jz 12 11,jf 13 0 12,jf 14 0 13,jl 15 1 14,jn 16 0 15,Co 17 (.bin .shl (.c (.int .u32 1)) (.t 16)),Co 18 (.bin .sub (.t 17) (.c (.int .u32 1))),Co 19 (.build [(.int .i64 0),(.int .u32 0)] [(1,1,(.t 18))]),Co 20 (.tj 26 [(.t 10),(.t 19)])] (.seq (jQ [jk 3 0] (.block 0 (.loop [0,3] yb))) (jr [jb 2 true]))))⟩
theorem Iw:wc P fo 91 mg:=fM Go.Proofs.Tryz.func91 dN
end Go.AM.B1
