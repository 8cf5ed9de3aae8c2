/- What functions of the program compute. -/
import Derived.Test.YtijlhblleiaomaaGreatJ3
import Derived.Test.YtijlhblleiaomaaGreatProg
import Derived.Shelf.SlicesG.Cmp
import Derived.Shelf.Lay
import Derived.Ground.SlsfProg
import Derived.Ground.SlgcProg
set_option linter.unusedVariables false
namespace Go.AM.B1
open Go.AM
noncomputable abbrev P:Program:=Go.Proofs.Tryz.prog
def fo:Nat→FuncId
 |0=>145
 |1=>112
 |2=>144
 |3=>110
 |4=>118
 |5=>107
 |6=>77
 |7=>78
 |8=>163
 |9=>172
 |22=>146
 |23=>147
 |24=>113
 |25=>94
 |26=>119
 |27=>120
 |28=>91
 |29=>92
 |30=>93
 |34=>67
 |35=>151
 |36=>68
 |37=>95
 |38=>124
 |39=>97
 |74=>19
 |80=>54
 |81=>87
 |82=>89
 |83=>88
 |84=>57
 |85=>59
 |86=>31
 |87=>33
 |88=>37
 |89=>58
 |90=>56
 |91=>55
 |92=>36
 |93=>34
 |94=>40
 |95=>39
 |96=>41
 |97=>42
 |98=>20
 |99=>49
 |127=>23
 |128=>24
 |132=>96
 |138=>64
 |139=>45
 |140=>70
 |_=>0
theorem Lb:Vh P fo (fun _=>none):=fun ix af h=>by cases h
def Ub:Ia:=(jQ [jB 12 .lss 11 10] (.seq (jX 12 0) (.seq (.block 1 (jQ [ji 13 2 9 11,jL 14 2 13,Co 5 (.alloc [(.int .i64 0),(.int .i64 0)]),jS 2 5 14] (.region [Cv 15 3,jL 16 2 5,Co 17 (.Hb .lit 2 true 1 [(.int .i64 0),(.int .i64 0)] [(0,(.t 16))]),Co 18 (.ku 2 true 16 15 17),Cv 3 18]))) (.region [jK 19 .add 11 1,Cv 11 19]))))
def Ef:se:=⟨1,[.tmp 2],(jQ [jc 2 .qa] (jQ [Cv 6 0,jn 7 0 6,Co 8 (.Je .uq 2 true [(.int .i64 0),(.int .i64 0)] 16 (.c (.int .i64 0)) (.t 7)),Cv 3 8] (.seq (jQ [Cv 9 0,jn 10 0 9,jk 11 0] (.block 0 (.loop [3,9,10,11] Ub))) (jr [Cv 20 3,Cv 2 20]))))⟩
theorem bm:yc P fo 142 Ef:=fM Go.Proofs.Tryz.func142 dN
def Gb:=fc (fun _=>none) Ef
theorem Zh:Ga P 142 Gb:=Na Lb bm
def Ic:Ia:=(jQ [jB 11 .lss 10 9] (.seq (jX 11 0) (.seq (.block 1 (jQ [ji 12 2 8 10,jL 13 2 12,Co 7 (.alloc [(.int .i64 0),(.int .i64 0)]),jS 2 7 13] (.seq (jQ [jf 14 0 7,jl 15 1 14,jK 16 .lss 15 0,Cv 17 16,jF 18 17 (.kf 0 7),jF 19 17 (.kl 1 18),jF 20 17 (.kf 1 7),jF 21 17 (.kl 1 20),jF 22 17 (.kB .gtr 19 21),jo 23 17 22,Cv 24 23,jF 25 24 (.kf 1 7),jF 26 24 (.kl 1 25),jF 27 24 (.km 1),jF 28 24 (.kB .gtr 26 27),jo 29 24 28,Cv 30 29,jF 31 30 (.kf 0 7),jF 32 30 (.kl 1 31),jF 33 30 (.kK .sub 32 1),jF 34 30 (.km 5),jF 35 30 (.kB .leq 33 34),jo 36 30 35] (jC 36 (jr [jb 4 false]) .skip)) (.region [jf 37 1 7,jl 38 1 37,Cv 5 38])))) (.region [jK 39 .add 10 1,Cv 10 39]))))
def Am:se:=⟨2,[.tmp 4],(jQ [jb 4 false] (jQ [jk 5 (-2)] (.seq (jQ [Cv 8 0,jn 9 0 8,jk 10 0] (.block 0 (.loop [1,5,8,9,10] Ic))) (jr [jb 4 true]))))⟩
theorem yB:yc P fo 141 Am:=fM Go.Proofs.Tryz.func141 dN
def vg:=fc (fun _=>none) Am
theorem sm:Ga P 141 vg:=Na Lb yB
def Io:se:=⟨1,[.tmp 2],(jQ [jb 2 false] (jr [Cv 3 0,jp 4 Gb 3,Co 5 (.Ej vg [(.t 4),(.c (.int .i64 255))]),Cv 2 5]))⟩
theorem QA:yc P fo 108 Io:=fM Go.Proofs.Tryz.func108 (dC Zh (dC sm dN))
def Zk:=fc (fun _=>none) Io
theorem JB:Ga P 108 Zk:=Na Lb QA
def El:se:=⟨1,[.tmp 2],(jQ [jc 2 .qa] (jQ [Cv 4 0,jp 5 Gb 4,Cv 3 5] (.seq (jQ [Cv 6 3,Co 7 (.Ej vg [(.t 6),(.c (.int .i64 255))]),jt 8 7] (jC 8 (jr [jc 2 .qa]) .skip)) (jr [Cv 9 3,Cv 2 9]))))⟩
theorem oE:yc P fo 116 El:=fM Go.Proofs.Tryz.func116 (dC Zh (dC sm dN))
def ef:=fc (fun _=>none) El
theorem yl:Ga P 116 ef:=Na Lb oE
def ui:Ia:=(jQ [jB 9 .lss 8 7] (.seq (jX 9 0) (.seq (.block 1 (jQ [ji 10 2 6 8,jL 11 2 10,Co 5 (.alloc [(.int .i64 0),(.int .i64 0)]),jS 2 5 11] (.region [Cv 12 3,jf 13 1 5,jl 14 1 13,jf 15 0 5,jl 16 1 15,jB 17 .sub 14 16,jK 18 .add 17 1,jB 19 .add 12 18,Cv 3 19]))) (.region [jK 20 .add 8 1,Cv 8 20]))))
def Es:se:=⟨1,[.tmp 2],(jQ [jk 2 0] (jQ [jk 3 0] (.seq (jQ [Cv 6 0,jn 7 0 6,jk 8 0] (.block 0 (.loop [3,6,7,8] ui))) (jr [Cv 21 3,Cv 2 21]))))⟩
theorem uD:yc P fo 143 Es:=fM Go.Proofs.Tryz.func143 dN
def Bn:=fc (fun _=>none) Es
theorem GG:Ga P 143 Bn:=Na Lb uD
def Sp:se:=⟨1,[.tmp 2],(jQ [jk 2 0] (jr [Cv 3 0,jp 4 ef 3,jp 5 Bn 4,Cv 2 5]))⟩
theorem uB:yc P fo 109 Sp:=fM Go.Proofs.Tryz.func109 (dC yl (dC GG dN))
def sk:=fc (fun _=>none) Sp
theorem Gv:Ga P 109 sk:=Na Lb uB
def Ak:Ia:=(jQ [jB 12 .lss 11 10] (.seq (jX 12 0) (.seq (.block 1 (jQ [ji 13 2 9 11,jL 14 2 13,Co 5 (.alloc [(.int .i64 0),(.int .i64 0)]),jS 2 5 14] (.region [Cv 15 3,jL 16 2 5,Co 17 (.Hb .lit 2 true 1 [(.int .i64 0),(.int .i64 0)] [(0,(.t 16))]),Co 18 (.ku 2 true 16 15 17),Cv 3 18]))) (.region [jK 19 .add 11 1,Cv 11 19]))))
def zh:se:=⟨1,[.tmp 2],(jQ [jc 2 .qa] (jQ [Cv 6 0,jn 7 0 6,Co 8 (.Je .uq 2 true [(.int .i64 0),(.int .i64 0)] 16 (.c (.int .i64 0)) (.t 7)),Cv 3 8] (.seq (jQ [Cv 9 0,jn 10 0 9,jk 11 0] (.block 0 (.loop [3,9,10,11] Ak))) (jr [Cv 20 3,Cv 2 20]))))⟩
theorem Il:yc P fo 145 zh:=fM Go.Proofs.Tryz.func145 dN
def uf:=fc (fun _=>none) zh
theorem gm:Ga P 145 uf:=Na Lb Il
def Fe:Ia:=(.seq (jQ [Cv 8 0,jn 9 0 8,jK 10 .gtr 9 0,Cv 11 10,jT 12 11 (.km 1),jT 13 11 (.kn 0 12),jT 14 11 (.kK .gtr 13 0),ja 15 11 14] (jX 15 0)) (.block 1 (jQ [Cv 16 0,Cp 17 (.kj 2 16 0),jf 18 0 17,jl 19 1 18,Cv 20 1,Cp 21 (.kj 2 20 0),jf 22 0 21,jl 23 1 22,Co 24 (.mx [(.t 19),(.t 23)]),Cv 25 0,Cp 26 (.kj 2 25 0),jf 27 1 26,jl 28 1 27,Cv 29 1,Cp 30 (.kj 2 29 0),jf 31 1 30,jl 32 1 31,Co 33 (.mn [(.t 28),(.t 32)]),Cv 6 24,Cv 7 33] (.seq (jQ [Cv 34 6,Cv 35 7,jB 36 .leq 34 35] (jC 36 (.region [Cv 37 5,Cv 38 6,Cv 39 7,Co 40 (.build [(.int .i64 0),(.int .i64 0)] [(0,1,(.t 38)),(1,1,(.t 39))]),Co 41 (.Hb .lit 2 true 1 [(.int .i64 0),(.int .i64 0)] [(0,(.t 40))]),Co 42 (.ku 2 true 16 37 41),Cv 5 42]) .skip)) (jQ [Cv 43 0,Cp 44 (.kj 2 43 0),jf 45 1 44,jl 46 1 45,Cv 47 1,Cp 48 (.kj 2 47 0),jf 49 1 48,jl 50 1 49,jB 51 .lss 46 50] (jC 51 (.region [Cv 52 0,Co 53 (.slice 2 (.t 52) (some (.c (.int .i64 1))) none),Cv 0 53]) (.region [Cv 54 1,Co 55 (.slice 2 (.t 54) (some (.c (.int .i64 1))) none),Cv 1 55])))))))
def yn:se:=⟨2,[.tmp 4],(jQ [jc 4 .qa] (jQ [jc 5 .qa] (.ghost (.fF 5 2) (.seq (.block 0 (.loop [0,1,5] Fe)) (jr [Cv 56 5,Cv 4 56])))))⟩
theorem jD:yc P fo 111 yn:=fM Go.Proofs.Tryz.func111 dN
def Gj:=fc (fun _=>none) yn
theorem Ix:Ga P 111 Gj:=Na Lb jD
def Bk:Ia:=(jQ [jB 12 .lss 11 10] (.seq (jX 12 0) (.seq (.block 1 (jQ [ji 13 2 9 11,jL 14 2 13,Co 5 (.alloc [(.int .i64 0),(.int .i64 0)]),jS 2 5 14] (.region [Cv 15 3,jL 16 2 5,Co 17 (.Hb .lit 2 true 1 [(.int .i64 0),(.int .i64 0)] [(0,(.t 16))]),Co 18 (.ku 2 true 16 15 17),Cv 3 18]))) (.region [jK 19 .add 11 1,Cv 11 19]))))
def yh:se:=⟨1,[.tmp 2],(jQ [jc 2 .qa] (jQ [Cv 6 0,jn 7 0 6,Co 8 (.Je .uq 2 true [(.int .i64 0),(.int .i64 0)] 16 (.c (.int .i64 0)) (.t 7)),Cv 3 8] (.seq (jQ [Cv 9 0,jn 10 0 9,jk 11 0] (.block 0 (.loop [3,9,10,11] Bk))) (jr [Cv 20 3,Cv 2 20]))))⟩
theorem xl:yc P fo 144 yh:=fM Go.Proofs.Tryz.func144 dN
def yf:=fc (fun _=>none) yh
theorem Vl:Ga P 144 yf:=Na Lb xl
def Rk:Ia:=(jQ [jB 12 .lss 11 10] (.seq (jX 12 0) (.seq (.block 1 (jQ [ji 13 2 9 11,jL 14 2 13,Co 5 (.alloc [(.int .i64 0),(.int .i64 0)]),jS 2 5 14] (.region [Cv 15 3,jL 16 2 5,Co 17 (.Hb .lit 2 true 1 [(.int .i64 0),(.int .i64 0)] [(0,(.t 16))]),Co 18 (.ku 2 true 16 15 17),Cv 3 18]))) (.region [jK 19 .add 11 1,Cv 11 19]))))
def ei:se:=⟨1,[.tmp 2],(jQ [jc 2 .qa] (jQ [Cv 6 0,jn 7 0 6,Co 8 (.Je .uq 2 true [(.int .i64 0),(.int .i64 0)] 16 (.c (.int .i64 0)) (.t 7)),Cv 3 8] (.seq (jQ [Cv 9 0,jn 10 0 9,jk 11 0] (.block 0 (.loop [3,9,10,11] Rk))) (jr [Cv 20 3,Cv 2 20]))))⟩
theorem Xl:yc P fo 171 ei:=fM Go.Proofs.Tryz.func171 dN
def Ff:=fc (fun _=>none) ei
theorem ym:Ga P 171 Ff:=Na Lb Xl
def Iq:se:=⟨1,[.tmp 2],(jQ [jc 2 .qa] (jr [Cv 3 0,jp 4 Ff 3,Cv 2 4]))⟩
theorem iB:yc P fo 160 Iq:=fM Go.Proofs.Tryz.func160 (dC ym dN)
def xm:=fc (fun _=>none) Iq
theorem DE:Ga P 160 xm:=Na Lb iB
def bq:se:=⟨2,[.tmp 4],(jQ [jc 4 .qa] (jr [Cv 5 0,jp 6 ef 5,Cv 7 1,jp 8 ef 7,jq 9 Gj 6 8,jp 10 xm 9,Cv 4 10]))⟩
theorem pB:yc P fo 150 bq:=fM Go.Proofs.Tryz.func150 (dC yl (dC yl (dC Ix (dC DE dN))))
def qm:=fc (fun _=>none) bq
theorem nE:Ga P 150 qm:=Na Lb pB
def Dd:Ia:=(jQ [jB 12 .lss 11 10] (.seq (jX 12 0) (.seq (.block 1 (jQ [ji 13 2 9 11,jL 14 2 13,Co 8 (.alloc [(.int .i64 0),(.int .i64 0)]),jS 2 8 14] (.seq (jQ [Cv 15 1,jf 16 0 8,jl 17 1 16,jB 18 .lss 15 17] (jC 18 (.exit 0) .skip)) (.seq (jQ [Cv 19 1,jf 20 1 8,jl 21 1 20,jB 22 .leq 19 21] (jC 22 (jr [Cv 23 6,Cv 24 1,jB 25 .add 23 24,jf 26 0 8,jl 27 1 26,jB 28 .sub 25 27,Cv 4 28,jb 5 true]) .skip)) (.region [Cv 29 6,jf 30 1 8,jl 31 1 30,jf 32 0 8,jl 33 1 32,jB 34 .sub 31 33,jK 35 .add 34 1,jB 36 .add 29 35,Cv 6 36]))))) (.region [jK 37 .add 11 1,Cv 11 37]))))
def Un:se:=⟨2,[.tmp 4,.tmp 5],(jQ [jk 4 0,jb 5 false] (jQ [jk 6 0] (.seq (jQ [Cv 9 0,jn 10 0 9,jk 11 0] (.block 0 (.loop [1,6,9,10,11] Dd))) (jr [jk 4 0,jb 5 false]))))⟩
theorem gE:yc P fo 115 Un:=fM Go.Proofs.Tryz.func115 dN
def Gl:=fc (fun _=>none) Un
theorem HG:Ga P 115 Gl:=Na Lb gE
def Jq:se:=⟨2,[.tmp 4,.tmp 5],(jQ [jk 4 0,jb 5 false] (jr [Cv 6 0,jp 7 ef 6,Cv 8 1,jq 9 Gl 7 8,jx 10 0 9,jx 11 1 9,Cv 4 10,Cv 5 11]))⟩
theorem vB:yc P fo 85 Jq:=fM Go.Proofs.Tryz.func85 (dC yl (dC HG dN))
def wk:=fc (fun _=>none) Jq
theorem Nv:Ga P 85 wk:=Na Lb vB
def Kr:se:=⟨2,[.tmp 4],(jQ [jb 4 false] (jQ [Cv 8 0,Cv 9 1,jq 10 wk 8 9,Cv 7 10,jx 11 0 7,jx 12 1 7,Cv 5 11,Cv 6 12] (jr [Cv 13 6,Cv 4 13])))⟩
theorem LD:yc P fo 149 Kr:=fM Go.Proofs.Tryz.func149 (dC Nv dN)
def Rs:=fc (fun _=>none) Kr
theorem CG:Ga P 149 Rs:=Na Lb LD
def Vf:se:=⟨3,[.tmp 5],(jQ [jb 5 false] (jr [jf 6 0 2,jl 7 1 6,Cv 8 0,Ji 9 2 7 8,jf 10 0 9,jl 11 1 10,Cp 12 (.kn 0 11),jf 13 0 2,jl 14 1 13,Cv 15 1,Ji 16 2 14 15,jf 17 0 16,jl 18 1 17,Cp 19 (.kn 0 18),jB 20 .lss 12 19,Cv 5 20]))⟩
theorem cw:yc P fo 118 Vf:=fM Go.Proofs.Tryz.func118 dN
def fb:Ia:=(jQ [jB 9 .lss 8 7] (.seq (jX 9 0) (.seq (.block 1 (jQ [Cv 10 8,Cv 5 10] (jQ [Cv 11 1,Cv 12 0,Cv 13 5,ji 14 1 12 13,jl 15 1 14,Co 16 (.Nx (.t 11) [(.t 15)])] (jC 16 (jr [Cv 17 5,Cv 4 17]) .skip)))) (.region [jK 18 .add 8 1,Cv 8 18]))))
def Qb:se:=⟨2,[.tmp 4],(jQ [jk 4 0] (.seq (jQ [Cv 6 0,jn 7 0 6,jk 8 0] (.block 0 (.loop [0,1,7,8] fb))) (jr [jk 4 (-1)])))⟩
theorem Oi:yc P fo 107 Qb:=fM Go.Proofs.Tryz.func107 dN
def gb:se:=⟨2,[.tmp 4],(jQ [jb 4 false] (jr [Cv 5 0,Cv 6 1,Co 7 (.Bd 5 [(.t 5),(.t 6)]),jK 8 .geq 7 0,Cv 4 8]))⟩
theorem Rh:yc P fo 77 gb:=fM Go.Proofs.Tryz.func77 dN
def Ih:se:=⟨1,[.tmp 2],(jQ [jb 2 false] (jr [Cv 3 0,jn 4 0 3,jK 5 .eql 4 0,Cv 6 5,jF 7 6 (.km 0),jF 8 6 (.kp Zk 7),jF 9 6 (.kt 8),jo 10 6 9,Cv 2 10]))⟩
theorem iA:yc P fo 78 Ih:=fM Go.Proofs.Tryz.func78 (dC JB dN)
def Mf:Ia:=(jQ [jB 10 .lss 9 8] (.seq (jX 10 0) (.seq (.block 1 (jQ [ji 11 1 7 9,jl 12 1 11,Cv 5 12] (.region [Cv 13 3,Cv 14 5,jp 15 sk 14,jB 16 .mul 13 15,Co 17 (.mn [(.t 16),(.c (.int .i64 1073741825))]),Cv 3 17]))) (.region [jK 18 .add 9 1,Cv 9 18]))))
def Lo:se:=⟨1,[.tmp 2],(jQ [jR 1 2 0,jk 2 0] (jQ [jk 3 1] (.seq (jQ [Jf 6 0 1,Jl 7 1 6,jn 8 0 7,jk 9 0] (.block 0 (.loop [1,3,7,8,9] Mf))) (jr [Jf 19 1 1,Jl 20 1 19,Cv 21 3,jB 22 .add 20 21,jK 23 .sub 22 1,Cv 2 23]))))⟩
theorem wA:yc P fo 79 Lo:=fM Go.Proofs.Tryz.func79 (dC Gv dN)
def Vk:=fc (fun _=>none) Lo
theorem AB:Ga P 79 Vk:=Na Lb wA
def vo:se:=⟨1,[.tmp 2],(jQ [jc 2 .qa] (jQ [Cv 4 0,jp 5 uf 4,Cv 3 5] (.seq (jQ [Cv 6 3,Co 7 (.Ej vg [(.t 6),(.c (.int .i64 1073741823))]),jt 8 7] (jC 8 (jr [jc 2 .qa]) .skip)) (jr [Cv 9 3,Cv 2 9]))))⟩
theorem qz:yc P fo 112 vo:=fM Go.Proofs.Tryz.func112 (dC gm (dC sm dN))
def gj:=fc (fun _=>none) vo
theorem qu:Ga P 112 gj:=Na Lb qz
def Qm:se:=⟨1,[.tmp 2],(jQ [jc 2 .qa] (jr [Cv 3 0,jp 4 yf 3,Cv 2 4]))⟩
theorem Hy:yc P fo 110 Qm:=fM Go.Proofs.Tryz.func110 (dC Vl dN)
def Zj:=fc (fun _=>none) Qm
theorem OA:Ga P 110 Zj:=Na Lb Hy
def Om:se:=⟨2,[.tmp 4],(jQ [jc 4 .qa] (jr [Cv 5 0,jp 6 gj 5,Cv 7 1,jp 8 gj 7,jq 9 Gj 6 8,jp 10 Zj 9,Cv 4 10]))⟩
theorem My:yc P fo 80 Om:=fM Go.Proofs.Tryz.func80 (dC qu (dC qu (dC Ix (dC OA dN))))
def Tj:=fc (fun _=>none) Om
theorem bz:Ga P 80 Tj:=Na Lb My
end Go.AM.B1
set_option linter.unusedSimpArgs false
namespace Go.AM.B1
open Go.AM
def Bh (sz:Nat) (v:PV) (es:List PV):Prop:=(v= .qa∧es=[])∨v= .lit sz es
theorem Bh.len {sz:Nat} {v:PV} {es:List PV} (h:Bh sz v es) (H:List aa):Mc H 0 (.pv v)=some es.length:=by
 rcases h with⟨rfl,rfl⟩ | rfl <;> rfl
theorem Bh.lit {sz:Nat} {v:PV} {es:List PV} (h:Bh sz v es) {i:Nat} (hi:i < es.length):v= .lit sz es:=by
 rcases h with⟨rfl,rfl⟩ | rfl
 ·simp at hi
 ·rfl
abbrev i64 (n:Int):PV:= .int .i64 n
abbrev pr (p:Int×Int):PV:= .agg [i64 p.1,i64 p.2]
abbrev Td (l:List (Int×Int)):List PV:=l.map pr
theorem Rb:deep=5+1:=rfl
theorem Nk {a b:Int} (h:a≠b):(a==b)=false:=by simp[h]
theorem db {p:Prop} [Decidable p] (h:p):decide p=true:=by simp[h]
theorem mb {p:Prop} [Decidable p] (h:¬p):decide p=false:=by simp[h]
theorem Tn {l:List (Int×Int)} {i:Nat} (hi:i < l.length):(Td l)[i]? =some (pr l[i]):=by simp[Td,hi]
theorem Ab {i n:Nat} (hi:i < n) (hw:n≤maxLen):IntKind.i64.wrap ((i:Int)+1)=((i+1:Nat):Int):=Da (by unfold maxLen at hw;omega)
inductive YJ (k:Nat) (v:AV):Option (Ex×St)→Prop
 |mk (s:St):s.env.get k=v→YJ k v (some (.ret,s))
theorem Et {k:Nat} {v:AV} {s:St}:YJ k v (some (.ret,s))=(s.env.get k=v):=
 propext ⟨fun h=>by cases h with | mk _ h=>exact h,fun h=> .mk s h⟩
theorem SH {k:Nat} {v:AV} {r:Option (Ex×St)} (h:YJ k v r):∃ t,r=some (.ret,t)∧t.env.get k=v:=by
 cases h with | mk s h=>exact⟨s,rfl,h⟩
inductive aE (k:Nat):Option (Ex×St)→Prop
 |mk (e:Tr) (H:List aa):aE k (some (.exit k,⟨e,H⟩))
theorem PG {k i:Nat} {e:Tr} {H:List aa}:aE k (some (.exit i,⟨e,H⟩))=(i=k):=
 propext ⟨fun h=>by cases h;rfl,fun h=>by subst h;exact .mk e H⟩
theorem OG {k:Nat} {r:Option (Ex×St)} (h:aE k r):∃ e H,r=some (.exit k,⟨e,H⟩):=by
 cases h with | mk e H=>exact⟨e,H,rfl⟩
inductive JD (k:Nat) (v:AV) (j:Nat) (u:AV):Option (Ex×St)→Prop
 |mk (s:St):s.env.get k=v→s.env.get j=u→JD k v j u (some (.ret,s))
theorem QI {k j:Nat} {v u:AV} {s:St}:JD k v j u (some (.ret,s))=(s.env.get k=v∧s.env.get j=u):=
 propext ⟨fun h=>by cases h with | mk _ h h'=>exact⟨h,h'⟩,fun h=> .mk s h.1 h.2⟩
theorem iF {k j:Nat} {v u:AV} {r:Option (Ex×St)} (h:JD k v j u r):∃ t,r=some (.ret,t)∧t.env.get k=v∧t.env.get j=u:=by
 cases h with | mk s h h'=>exact⟨s,rfl,h,h'⟩
section To
variable (v:PV) (l:List (Int×Int)) (hv:Bh 2 v (Td l)) (hw:l.length * 16≤140737488355328)
abbrev aw (v:PV) (len i:Int) (o:AV):Tr:=((((Tr.lf.set 11 (.pv (i64 i))).set 10 (.pv (i64 len))).set 9 (.pv v)).set 3 o)
include hv hw
theorem gB (i:Nat) (hi:i < l.length):
 Zb (za (fun _=>none) 8) [3,9,10,11] Ub 1 ⟨aw v l.length i (.uq 0 false 2 (Td (l.take i))),[.tok 2 i false]⟩=
  some (.norm,⟨aw v l.length (i+1:Nat) (.uq 0 false 2 (Td (l.take (i+1)))),[.tok 2 (i+1) false]⟩):=by
 have hv:=hv.lit (i:=i) (by simpa using hi)
 subst hv
 have e1:decide ((i:Int) < (l.length:Int))=true:=db (by omega)
 have hq:Ca (i:Int) (Td l).length:=by unfold Ca;simp;omega
 have t1:((i:Int)).toNat=i:=by simp
 have t2:=Ab hi (by unfold maxLen;omega)
 have lt:(Td (l.take i)).length=i:=by simp;omega
 have q1:Cb (i+1) 16:=by unfold Cb;omega
 have hs:Td (l.take (i+1))=Td (l.take i)++[pr l[i]]:=by rw[List.take_succ_eq_append_getElem hi];simp only[Td,List.map_append,List.map_cons,List.map_nil]
 rw[hs]
 have hg:=Tn hi
 generalize Td (l.take i)=T at *
 subst lt
 generalize Td l=es at *
 simp -implicitDefEqProofs only[SP,SA,SQ,sevalprocAttr,Zb,fa,Ub,e1,eq_true hq,t1,t2,hg,eq_true q1,ma,fj,AV.GH,AV.Hr,xa,Ra,pa,Ha,AV.cut,Rb,aw]
theorem yj:Gb [v]=some (.lit 2 (Td l)):=by
 have ls:=hv.len
 simp only[Td,List.length_map] at ls
 have hl:Fb (fa (ga (za (fun _=>none) 8) Ub) (xa 1 [3,9,10,11])) wa ⟨aw v l.length 0 (.uq 0 false 2 []),[.tok 2 0 false]⟩=
  some (.exit 0,⟨(aw v l.length l.length (.uq 0 false 2 (Td l))).set 12 (.pv (.bool false)),[.tok 2 l.length false]⟩):=by
  have key:=vi (g:=Zb (za (fun _=>none) 8) [3,9,10,11] Ub 1)
   (fun i t=>t=⟨aw v l.length i (.uq 0 false 2 (Td (l.take i))),[.tok 2 i false]⟩)
   (fun ex t=>ex= .exit 0∧t=⟨(aw v l.length l.length (.uq 0 false 2 (Td l))).set 12 (.pv (.bool false)),[.tok 2 l.length false]⟩)
   wa l.length 0 _ (by unfold wa;omega) (by omega) rfl ?_ ?_
  ·obtain⟨ex,t,h,_,rfl,rfl⟩:=key;exact h
  ·rintro i hi t rfl
   exact .inl ⟨_,gB v l hv hw i hi,rfl⟩
  ·rintro t rfl
   refine⟨.exit 0,_,?_,rfl,rfl,rfl⟩
   have e1:decide ((l.length:Int) < (l.length:Int))=false:=mb (by omega)
   rw[List.take_length]
   simp -implicitDefEqProofs only[SP,SA,SQ,sevalprocAttr,Zb,fa,Ub,e1,aw]
 have h1:decide ((0:Int)≤0)=true:=by decide
 have h2:(0:Int)≤(l.length:Int):=by omega
 have h3:Cb ((l.length:Int)).toNat 16:=by unfold Cb;simp;omega
 simp -implicitDefEqProofs only[Gb,SP,SA,SQ,sevalprocAttr,Ef,ls,Tc,xa,Ra,pa,Ha,AV.cut,Rb,Int.le_refl,eq_true h2,eq_true h3,Int.toNat_zero]
 simp only[aw] at hl
 rw[hl]
 simp -implicitDefEqProofs only[SP,SA,SQ,sevalprocAttr]
end To
end Go.AM.B1
namespace Go.AM.B1
open Go.AM
def Ka (top:Int):Int→List (Int×Int)→Bool
 |_,[]=>true
 |last,p::r=> !(decide (p.1 < 0)||decide (p.1 > p.2)||decide (p.2 > top)||decide (p.1 - 1≤last))&&Ka top p.2 r
abbrev Ss (v:PV) (top len i last:Int):Tr:=(((((Tr.lf.set 10 (.pv (i64 i))).set 9 (.pv (i64 len))).set 8 (.pv v)).set 5 (.pv (i64 last))).set 1 (.pv (i64 top)))
section
variable (v:PV) (l:List (Int×Int)) (hv:Bh 2 v (Td l)) (hw:l.length≤maxLen) (top:Int) (ht:top≤9223372036854775807)
theorem kI (i:Nat) (hi:i < l.length) (hv:Bh 2 v (Td l)) (hw:l.length≤maxLen) (last:Int) (ht:top≤9223372036854775807) (c1:¬l[i].1 < 0) (c2:¬l[i].1 > l[i].2) (c3:¬l[i].2 > top) (c4:¬l[i].1 - 1≤last):
 Zb (za (fun _=>none) 8) [1,5,8,9,10] Ic 0 ⟨Ss v top l.length i last,[]⟩=some (.norm,⟨Ss v top l.length (i+1:Nat) l[i].2,[]⟩):=by
 have hv:=hv.lit (i:=i) (by simpa using hi)
 subst hv
 have e1:decide ((i:Int) < (l.length:Int))=true:=db (by omega)
 have hq:Ca (i:Int) (Td l).length:=by unfold Ca;simp;omega
 have t1:((i:Int)).toNat=i:=by simp
 have t2:=Ab hi hw
 have t3:IntKind.i64.wrap (l[i].1 - 1)=l[i].1 - 1:=Da (by omega)
 have hg:=Tn hi
 have d1:=mb c1;have d2:=mb c2;have d3:=mb c3;have d4:=mb c4
 generalize Td l=es at *
 generalize l[i]=p at *
 simp -implicitDefEqProofs only[SP,SA,SQ,sevalprocAttr,Zb,fa,Ic,e1,eq_true hq,t1,t2,t3,hg,d1,d2,d3,d4,ma,xa,Ra,pa,Ha,AV.cut,Rb,Ss]
theorem EM (i:Nat) (hi:i < l.length) (hv:Bh 2 v (Td l)) (hw:l.length≤maxLen) (last:Int) (ht:top≤9223372036854775807) (hc:l[i].1 < 0∨l[i].1 > l[i].2∨l[i].2 > top∨l[i].1 - 1≤last):
 YJ 4 (.pv (.bool false)) (Zb (za (fun _=>none) 8) [1,5,8,9,10] Ic 0 ⟨Ss v top l.length i last,[]⟩):=by
 have hv:=hv.lit (i:=i) (by simpa using hi)
 subst hv
 have e1:decide ((i:Int) < (l.length:Int))=true:=db (by omega)
 have hq:Ca (i:Int) (Td l).length:=by unfold Ca;simp;omega
 have t1:((i:Int)).toNat=i:=by simp
 have hg:=Tn hi
 generalize Td l=es at *
 generalize l[i]=p at *
 by_cases c1:p.1 < 0
 ·have d1:=db c1
  simp -implicitDefEqProofs only[SP,SA,SQ,sevalprocAttr,Zb,fa,Ic,e1,eq_true hq,t1,hg,d1,ma,Ss,Et]
 have d1:=mb c1
 by_cases c2:p.1 > p.2
 ·have d2:=db c2
  simp -implicitDefEqProofs only[SP,SA,SQ,sevalprocAttr,Zb,fa,Ic,e1,eq_true hq,t1,hg,d1,d2,ma,Ss,Et]
 have d2:=mb c2
 by_cases c3:p.2 > top
 ·have d3:=db c3
  simp -implicitDefEqProofs only[SP,SA,SQ,sevalprocAttr,Zb,fa,Ic,e1,eq_true hq,t1,hg,d1,d2,d3,ma,Ss,Et]
 have d3:=mb c3
 have c4:p.1 - 1≤last:=by rcases hc with h | h | h | h <;> first | exact h | omega
 have t3:IntKind.i64.wrap (p.1 - 1)=p.1 - 1:=Da (by omega)
 have d4:=db c4
 simp -implicitDefEqProofs only[SP,SA,SQ,sevalprocAttr,Zb,fa,Ic,e1,eq_true hq,t1,t3,hg,d1,d2,d3,d4,ma,Ss,Et]
include hv hw ht
theorem Gp:vg [v,i64 top]=some (.bool (Ka top (-2) l)):=by
 have ls:=hv.len
 simp only[Td,List.length_map] at ls
 have key:=vi (g:=Zb (za (fun _=>none) 8) [1,5,8,9,10] Ic 0)
  (fun i t=>∃ last,t=⟨Ss v top l.length i last,[]⟩∧Ka top (-2) l=Ka top last (l.drop i))
  (fun ex t=>(ex= .exit 0∧Ka top (-2) l=true∧∃ last,t=⟨(Ss v top l.length l.length last).set 11 (.pv (.bool false)),[]⟩)∨(ex= .ret∧Ka top (-2) l=false∧t.env.get 4= .pv (.bool false)))
  wa l.length 0 ⟨Ss v top l.length (0:Nat) (-2),[]⟩ (by unfold wa;unfold maxLen at hw;omega) (by omega) ⟨-2,rfl,rfl⟩ ?_ ?_
 ·have hl:Fb (fa (ga (za (fun _=>none) 8) Ic) (xa 0 [1,5,8,9,10])) wa ⟨Ss v top l.length 0 (-2),[]⟩=Fb (Zb (za (fun _=>none) 8) [1,5,8,9,10] Ic 0) wa ⟨Ss v top l.length (0:Nat) (-2),[]⟩:=rfl
  obtain⟨ex,t,h,_,hq⟩:=key
  rw[h] at hl
  simp only[Ss] at hl
  rcases hq with⟨rfl,hval,last,rfl⟩ | ⟨rfl,hval,hg⟩
  ·rw[hval]
   simp -implicitDefEqProofs only[vg,SP,SA,SQ,sevalprocAttr,Am,ls,Tc,xa,Ra,pa,Ha,AV.cut,Rb,hl,Ss]
  ·rw[hval]
   simp -implicitDefEqProofs only[vg,SP,SA,SQ,sevalprocAttr,Am,ls,Tc,xa,Ra,pa,Ha,AV.cut,Rb,hl,Ss,hg]
 ·rintro i hi t ⟨last,rfl,hval⟩
  have hd:l.drop i=l[i]::l.drop (i+1):=List.drop_eq_getElem_cons hi
  rw[hd,Ka] at hval
  by_cases hc:l[i].1 < 0∨l[i].1 > l[i].2∨l[i].2 > top∨l[i].1 - 1≤last
  ·obtain⟨t,h1,h2⟩:=SH (EM v l top i hi hv hw last ht hc)
   refine .inr ⟨.ret,t,h1,rfl,.inr ⟨rfl,?_,h2⟩⟩
   rw[hval]
   rcases hc with h | h | h | h <;> simp[h]
  ·have hc':¬l[i].1 < 0∧¬l[i].1 > l[i].2∧¬l[i].2 > top∧¬l[i].1 - 1≤last:=by
    refine⟨fun h=>hc (.inl h),fun h=>hc (.inr (.inl h)),fun h=>hc (.inr (.inr (.inl h))),fun h=>hc (.inr (.inr (.inr h)))⟩
   refine .inl ⟨_,kI v l top i hi hv hw last ht hc'.1 hc'.2.1 hc'.2.2.1 hc'.2.2.2,l[i].2,rfl,?_⟩
   rw[hval,mb hc'.1,mb hc'.2.1,mb hc'.2.2.1,mb hc'.2.2.2]
   rfl
 ·rintro t ⟨last,rfl,hval⟩
  refine⟨.exit 0,_,?_,rfl,.inl ⟨rfl,?_,last,rfl⟩⟩
  ·have e1:decide ((l.length:Int) < (l.length:Int))=false:=mb (by omega)
   simp -implicitDefEqProofs only[SP,SA,SQ,sevalprocAttr,Zb,fa,Ic,e1,Ss]
  ·rw[hval,List.drop_length];rfl
end
end Go.AM.B1
namespace Go.AM.B1
open Go.AM
def qe (x:Int):Int→List (Int×Int)→Int×Bool
 |_,[]=>(0,false)
 |n,p::r=>if x < p.1 then (0,false) else if x≤p.2 then (n+x - p.1,true) else qe x (n+(p.2 - p.1+1)) r
abbrev bu (v:PV) (x len i n:Int):Tr:=(((((Tr.lf.set 11 (.pv (i64 i))).set 10 (.pv (i64 len))).set 9 (.pv v)).set 6 (.pv (i64 n))).set 1 (.pv (i64 x)))
section
variable (v:PV) (l:List (Int×Int)) (hv:Bh 2 v (Td l)) (hw:l.length≤maxLen) (x n:Int)
theorem eN (i:Nat) (hi:i < l.length) (hv:Bh 2 v (Td l)) (c:x < l[i].1):
 aE 0 (Zb (za (fun _=>none) 8) [1,6,9,10,11] Dd 0 ⟨bu v x l.length i n,[]⟩):=by
 have hv:=hv.lit (i:=i) (by simpa using hi)
 subst hv
 have e1:decide ((i:Int) < (l.length:Int))=true:=db (by omega)
 have hq:Ca (i:Int) (Td l).length:=by unfold Ca;simp;omega
 have t1:((i:Int)).toNat=i:=by simp
 have hg:=Tn hi
 have d1:=db c
 generalize Td l=es at *
 generalize l[i]=p at *
 simp -implicitDefEqProofs only[SP,SA,SQ,sevalprocAttr,Zb,fa,Dd,e1,eq_true hq,t1,hg,d1,ma,bu,PG]
theorem vP (i:Nat) (hi:i < l.length) (hv:Bh 2 v (Td l)) (c:¬x < l[i].1) (c2:x≤l[i].2) (hb:0≤l[i].1∧l[i].2≤4611686018427387904∧0≤n∧n≤4611686018427387903):
 JD 4 (.pv (i64 (n+x - l[i].1))) 5 (.pv (.bool true)) (Zb (za (fun _=>none) 8) [1,6,9,10,11] Dd 0 ⟨bu v x l.length i n,[]⟩):=by
 have hv:=hv.lit (i:=i) (by simpa using hi)
 subst hv
 have e1:decide ((i:Int) < (l.length:Int))=true:=db (by omega)
 have hq:Ca (i:Int) (Td l).length:=by unfold Ca;simp;omega
 have t1:((i:Int)).toNat=i:=by simp
 have hg:=Tn hi
 have d1:=mb c
 have d2:=db c2
 have t3:IntKind.i64.wrap (n+x)=n+x:=Da (by omega)
 have t4:IntKind.i64.wrap (n+x - l[i].1)=n+x - l[i].1:=Da (by omega)
 generalize Td l=es at *
 generalize l[i]=p at *
 simp -implicitDefEqProofs only[SP,SA,SQ,sevalprocAttr,Zb,fa,Dd,e1,eq_true hq,t1,t3,t4,hg,d1,d2,ma,bu,QI]
theorem bQ (i:Nat) (hi:i < l.length) (hv:Bh 2 v (Td l)) (hw:l.length≤maxLen) (c:¬x < l[i].1) (c2:¬x≤l[i].2) (hb:0≤l[i].1∧l[i].1≤l[i].2∧l[i].2≤4611686018427387902∧0≤n∧n≤l[i].1):
 Zb (za (fun _=>none) 8) [1,6,9,10,11] Dd 0 ⟨bu v x l.length i n,[]⟩=some (.norm,⟨bu v x l.length (i+1:Nat) (n+(l[i].2 - l[i].1+1)),[]⟩):=by
 have hv:=hv.lit (i:=i) (by simpa using hi)
 subst hv
 have e1:decide ((i:Int) < (l.length:Int))=true:=db (by omega)
 have hq:Ca (i:Int) (Td l).length:=by unfold Ca;simp;omega
 have t1:((i:Int)).toNat=i:=by simp
 have t2:=Ab hi hw
 have hg:=Tn hi
 have d1:=mb c
 have d2:=mb c2
 have t3:IntKind.i64.wrap (l[i].2 - l[i].1)=l[i].2 - l[i].1:=Da (by omega)
 have t4:IntKind.i64.wrap (l[i].2 - l[i].1+1)=l[i].2 - l[i].1+1:=Da (by omega)
 have t5:IntKind.i64.wrap (n+(l[i].2 - l[i].1+1))=n+(l[i].2 - l[i].1+1):=Da (by omega)
 generalize Td l=es at *
 generalize l[i]=p at *
 simp -implicitDefEqProofs only[SP,SA,SQ,sevalprocAttr,Zb,fa,Dd,e1,eq_true hq,t1,t2,t3,t4,t5,hg,d1,d2,ma,xa,Ra,pa,Ha,AV.cut,Rb,bu]
theorem Zc {top last:Int} {p:Int×Int} {r:List (Int×Int)} (h:Ka top last (p::r)=true):¬p.1 < 0∧¬p.1 > p.2∧¬p.2 > top∧¬p.1 - 1≤last∧Ka top p.2 r=true:=by
 simp only[Ka,Bool.and_eq_true,Bool.not_eq_true',Bool.or_eq_false_iff,decide_eq_false_iff_not] at h
 exact⟨h.1.1.1.1,h.1.1.1.2,h.1.1.2,h.1.2,h.2⟩
include hv hw
theorem rB {top:Int} (ht:top≤4611686018427387900) (hval:Ka top (-2) l=true):Gl [v,i64 x]=some (.dc [i64 (qe x 0 l).1,.bool (qe x 0 l).2]):=by
 have ls:=hv.len
 simp only[Td,List.length_map] at ls
 have key:=vi (g:=Zb (za (fun _=>none) 8) [1,6,9,10,11] Dd 0)
  (fun i t=>∃ n last,t=⟨bu v x l.length i n,[]⟩∧qe x 0 l=qe x n (l.drop i)∧Ka top last (l.drop i)=true∧0≤n∧n≤max 0 (last+1)∧last≤top)
  (fun ex t=>(ex= .exit 0∧qe x 0 l=(0,false))∨(ex= .ret∧∃ r,qe x 0 l=(r,true)∧t.env.get 4= .pv (i64 r)∧t.env.get 5= .pv (.bool true)))
  wa l.length 0 ⟨bu v x l.length (0:Nat) 0,[]⟩ (by unfold wa;unfold maxLen at hw;omega) (by omega) ?_ ?_ ?_
 ·have hl:Fb (fa (ga (za (fun _=>none) 8) Dd) (xa 0 [1,6,9,10,11])) wa ⟨bu v x l.length 0 0,[]⟩=Fb (Zb (za (fun _=>none) 8) [1,6,9,10,11] Dd 0) wa ⟨bu v x l.length (0:Nat) 0,[]⟩:=rfl
  obtain⟨ex,⟨e,H⟩,h,_,hq⟩:=key
  rw[h] at hl
  simp only[bu] at hl
  rcases hq with⟨rfl,hr⟩ | ⟨rfl,r,hr,g4,g5⟩
  ·rw[hr]
   simp -implicitDefEqProofs only[Gl,SP,SA,SQ,sevalprocAttr,Un,ls,Tc,xa,Ra,pa,Ha,AV.cut,Rb,hl,bu]
  ·rw[hr]
   simp only at g4 g5
   simp -implicitDefEqProofs only[Gl,SP,SA,SQ,sevalprocAttr,Un,ls,Tc,xa,Ra,pa,Ha,AV.cut,Rb,hl,bu,g4,g5]
 ·refine⟨0,min (-2) top,rfl,rfl,?_,by omega,by omega,by omega⟩
  have mono:∀ {a b:Int} {r:List (Int×Int)},a≤b→Ka top b r=true→Ka top a r=true:=by
   intro a b r hab h
   cases r with
   |nil=>rfl
   |cons p r=>
    obtain⟨h1,h2,h3,h4,h5⟩:=Zc h
    simp only[Ka,h5,Bool.and_true,Bool.not_eq_true',Bool.or_eq_false_iff,decide_eq_false_iff_not]
    exact⟨⟨⟨h1,h2⟩,h3⟩,by omega⟩
  exact mono (by omega) hval
 ·rintro i hi t ⟨n,last,rfl,hr,hva,hn0,hn1,hlast⟩
  have hd:l.drop i=l[i]::l.drop (i+1):=List.drop_eq_getElem_cons hi
  rw[hd] at hr hva
  obtain⟨h1,h2,h3,h4,h5⟩:=Zc hva
  rw[qe] at hr
  by_cases c:x < l[i].1
  ·obtain⟨e,H,hx⟩:=OG (eN v l x n i hi hv c)
   rw[if_pos c] at hr
   exact .inr ⟨.exit 0,⟨e,H⟩,hx,rfl,.inl ⟨rfl,hr⟩⟩
  by_cases c2:x≤l[i].2
  ·obtain⟨t,hx,g4,g5⟩:=iF (vP v l x n i hi hv c c2 (by omega))
   rw[if_neg c,if_pos c2] at hr
   exact .inr ⟨.ret,t,hx,rfl,.inr ⟨rfl,_,hr,g4,g5⟩⟩
  ·rw[if_neg c,if_neg c2] at hr
   exact .inl ⟨_,bQ v l x n i hi hv hw c c2 (by omega),_,l[i].2,rfl,hr,h5,by omega,by omega,by omega⟩
 ·rintro t ⟨n,last,rfl,hr,_⟩
  refine⟨.exit 0,⟨(bu v x l.length l.length n).set 12 (.pv (.bool false)),[]⟩,?_,rfl,.inl ⟨rfl,?_⟩⟩
  ·have e1:decide ((l.length:Int) < (l.length:Int))=false:=mb (by omega)
   simp -implicitDefEqProofs only[SP,SA,SQ,sevalprocAttr,Zb,fa,Dd,e1,bu]
  ·rw[hr,List.drop_length];rfl
end
def uu (l:List (Int×Int)):List (Int×Int):=if Ka 255 (-2) l then l else []
theorem Be (H:List aa) (d:Nat) (p:PV):Bb H d (.pv p)=some p:=by cases d <;> rfl
theorem fI (l:List (Int×Int)):Ka 255 (-2) (uu l)=true:=by
 unfold uu
 cases hb:Ka 255 (-2) l with
 |true=>exact hb
 |false=>rfl
theorem pN (l:List (Int×Int)):(uu l).length≤l.length:=by
 unfold uu
 split <;> simp
section
variable (v:PV) (l:List (Int×Int)) (hv:Bh 2 v (Td l)) (hw:l.length * 16≤140737488355328)
include hv hw
theorem xy:Zk [v]=some (.bool (Ka 255 (-2) l)):=by
 have h1:=yj v l hv hw
 have h2:=Gp (.lit 2 (Td l)) l (.inr rfl) (by unfold maxLen;omega) 255 (by decide)
 simp -implicitDefEqProofs only[Zk,SP,SA,SQ,sevalprocAttr,Io,Be,Rb,h1,h2]
theorem ru:∃ u,ef [v]=some u∧Bh 2 u (Td (uu l)):=by
 have h1:=yj v l hv hw
 have h2:=Gp (.lit 2 (Td l)) l (.inr rfl) (by unfold maxLen;omega) 255 (by decide)
 unfold uu
 cases hb:Ka 255 (-2) l with
 |true=>
  rw[hb] at h2
  refine⟨.lit 2 (Td l),?_,.inr rfl⟩
  simp -implicitDefEqProofs only[ef,SP,SA,SQ,sevalprocAttr,El,Be,Rb,h1,h2]
 |false=>
  rw[hb] at h2
  refine⟨.qa,?_,.inl ⟨rfl,rfl⟩⟩
  simp -implicitDefEqProofs only[ef,SP,SA,SQ,sevalprocAttr,El,Be,Rb,h1,h2]
theorem Ls (x:Int):wk [v,i64 x]=some (.dc [i64 (qe x 0 (uu l)).1,.bool (qe x 0 (uu l)).2]):=by
 obtain⟨u,h1,h2⟩:=ru v l hv hw
 have h3:=rB u (uu l) h2 (by have:=pN l;unfold maxLen;omega) x (top:=255) (by decide) (fI l)
 simp -implicitDefEqProofs only[wk,SP,SA,SQ,sevalprocAttr,Jq,Be,Rb,h1,h3]
theorem nB (x:Int):Rs [v,i64 x]=some (.bool (qe x 0 (uu l)).2):=by
 have h3:=Ls v l hv hw x
 simp -implicitDefEqProofs only[Rs,SP,SA,SQ,sevalprocAttr,Kr,Be,Rb,h3]
end
end Go.AM.B1
namespace Go.AM.B1
open Go.AM
theorem _root_.Go.AM.Ga.weaken {P:Program} {f:FuncId} {F G:List PV→Option PV} (h:Ga P f G) (hF:∀ xs r,F xs=some r→G xs=some r):Ga P f F:=
 ⟨h.1,fun w R args vs r hR hl hr=>h.2 w R args vs r hR hl (hF _ _ hr)⟩
def Bv:PV→Option (Int×Int)
 | .agg [.int .i64 a,.int .i64 b]=>some (a,b)
 |_=>none
def Dv:PV→Option (List (Int×Int))
 | .qa=>some []
 | .lit 2 es=>Wa Bv es
 |_=>none
theorem FI {v:PV} {p:Int×Int} (h:Bv v=some p):v=pr p:=by
 unfold Bv at h
 split at h
 ·injection h with h;subst h;rfl
 ·cases h
theorem sD {v:PV} {l:List (Int×Int)} (h:Dv v=some l):Bh 2 v (Td l):=by
 unfold Dv at h
 split at h
 ·injection h with h;subst h;exact .inl ⟨rfl,rfl⟩
 ·rename_i es
  refine .inr ?_
  congr 1
  induction es generalizing l with
  |nil=>simp only[Wa,Option.some.injEq] at h;subst h;rfl
  |cons e es ih=>
   simp only[Wa,Option.bind_eq_some_iff,Option.some.injEq] at h
   obtain⟨p,h1,r,h2,rfl⟩:=h
   rw[ih h2,FI h1]
   rfl
 ·cases h
def wi:List PV→Option PV
 | [v,.int .i64 x]=>(Dv v).bind fun l=>if l.length * 16≤140737488355328 then some (.bool (qe x 0 (uu l)).2) else none
 |_=>none
theorem GF:Ga P 149 wi:=CG.weaken fun xs r h=>by
 unfold wi at h
 split at h
 ·rename_i v x
  simp only[Option.bind_eq_some_iff] at h
  obtain⟨l,h1,h2⟩:=h
  split at h2
  ·rename_i hw
   injection h2 with h2
   rw[nB v l (sD h1) hw x,←h2]
  ·cases h2
 ·cases h
end Go.AM.B1
namespace Go.Proofs
open Go.Shelf Go.RowKit Go.Lib Go.Sort
shelf_lay_g SlLaysF0.n6 Slsf 6 at Tryz 146 as Tryz.sortRun
shelf_lay_g SlLaysC2.n5 Slgc 5 at Tryz 69 as Tryz.cmpInt
theorem wJ (r:List Int):∃ a b:Int,AM.encI 2 r=[.int .i64 a,.int .i64 b]∧AM.Gs 2 0 r=a:=by
 unfold AM.encI AM.Gs
 by_cases h:r.length=2
 ·match r,h with
  | [a,b],_=>exact⟨a,b,rfl,rfl⟩
 ·rw[if_neg h,if_neg h];exact⟨0,0,rfl,rfl⟩
set_option maxHeartbeats 1000000 in
theorem sR (a b c d:Int) (W:World):Calls Tryz.prog 147 #[.agg #[.int .i64 a,.int .i64 b],.agg #[.int .i64 c,.int .i64 d]] W fun e w'=>e= .returned (.int .i64 (Lib.compareInt a c))∧∃ q os',w'=grow (W.drewN q) os':=by
 have hcon:=fun W'=>AnyG.cmp_Compare_int Tryz.cmpInt a c W'
 change ∀ W',Calls Tryz.prog 69 _ _ _ at hcon
 generalize Lib.compareInt a c=r at hcon ⊢
 go_enter Tryz.func147,Tryz.ntmps147
 go_wp2_with (go_at_call 69;refine (hcon _).mono ?_;rintro e w' ⟨rfl,rfl⟩)
 go_ret
 exact⟨rfl,0,_,by rw[alloc_eq_grow,alloc_eq_grow,grow_grow];rfl⟩
theorem qO:AM.bJ Tryz.prog 146 147 2 0 where
 call:=⟨_,_,Tryz.func146,rfl,by kernel_rfl⟩
 many:=by
  intro blk ofs cap D w hH hb hs
  refine AnyQ.slices_SortFunc_eq Tryz.sortRun 2 Tryz.isAgg244 Tryz.sizeOf244 (AM.encI 2) (fun x=>by obtain⟨a,b,h,_⟩:=wJ x;rw[h];rfl) (fun x v hv=>by
   obtain⟨a,b,h,_⟩:=wJ x
   rw[h] at hv
   simp at hv
   rcases hv with rfl | rfl <;> rfl) (AM.yR 2 0) (AM.JR 2 0) 147 #[] blk ofs cap D w (enters_of Tryz.func147 (by kernel_rfl) rfl) (fun m os dk _ x y=> ?_) hH hb hs
  obtain⟨a,b,h1,h2⟩:=wJ x
  obtain⟨c,d,h3,h4⟩:=wJ y
  rw[h1,h3]
  unfold AM.yR
  rw[h2,h4]
  exact sR a b c d _
 none:=fun p cap w=>AnyF.slices_SortFunc_none Tryz.sortRun p cap _ w
end Go.Proofs
namespace Go.AM.B1
open Go.AM
def cg:Ia:=(jQ [jB 12 .lss 11 10] (.seq (jX 12 0) (.seq (.block 1 (jQ [ji 13 2 9 11,jL 14 2 13,Co 5 (.alloc [(.int .i64 0),(.int .i64 0)]),jS 2 5 14] (.seq (jQ [Cv 15 3,jn 16 0 15,Cv 6 16] (jQ [Cv 17 6,jK 18 .gtr 17 0,Cv 19 18,jT 20 19 (.kf 0 5),jT 21 19 (.kl 1 20),jT 22 19 (.km 3),jT 23 19 (.km 6),jT 24 19 (.kK .sub 23 1),jT 25 19 (.ki 2 22 24),jT 26 19 (.kf 1 25),jT 27 19 (.kl 1 26),jT 28 19 (.kK .add 27 1),jT 29 19 (.kB .leq 21 28),ja 30 19 29] (jC 30 (jQ [Cv 31 3,Cv 32 6,jK 33 .sub 32 1,Cv 34 3,Cv 35 6,jK 36 .sub 35 1,ji 37 2 34 36,jf 38 1 37,jl 39 1 38,jf 40 1 5,jl 41 1 40,Co 42 (.mx [(.t 39),(.t 41)]),ji 43 2 31 33,jf 44 1 43,jS 1 44 42] (.exit 1)) .skip))) (.region [Cv 45 3,jL 46 2 5,Co 47 (.Hb .lit 2 true 1 [(.int .i64 0),(.int .i64 0)] [(0,(.t 46))]),Co 48 (.append true .own 2 true 16 (.t 45) (.t 47)),Cv 3 48])))) (.region [jK 49 .add 11 1,Cv 11 49]))))
def rl:se:=⟨1,[.tmp 2],(jQ [jc 2 .qa] (jQ [Cv 7 0,Co 8 (.Bd 22 [(.t 7),(.f 23)])] (jQ [jc 3 .qa] (.ghost (.PJ 3 2 true) (.seq (jQ [Cv 9 0,jn 10 0 9,jk 11 0] (.block 0 (.loop [3,9,10,11] cg))) (jr [Cv 50 3,Cv 2 50]))))))⟩
theorem PD:yc P fo 113 rl:=fM Go.Proofs.Tryz.func113 dN
def Tb:Ia:=(jQ [jB 12 .lss 11 10] (.seq (jX 12 0) (.seq (.block 1 (jQ [ji 13 2 9 11,jL 14 2 13,Co 5 (.alloc [(.int .i64 0),(.int .i64 0)]),jS 2 5 14] (.region [Cv 15 3,jL 16 2 5,Co 17 (.Hb .lit 2 true 1 [(.int .i64 0),(.int .i64 0)] [(0,(.t 16))]),Co 18 (.append true .own 2 true 16 (.t 15) (.t 17)),Cv 3 18]))) (.region [jK 19 .add 11 1,Cv 11 19]))))
def pc:se:=⟨1,[.tmp 2],(jQ [jc 2 .qa] (jQ [Cv 6 0,jn 7 0 6,Co 8 (.Je .own 2 true [(.int .i64 0),(.int .i64 0)] 16 (.c (.int .i64 0)) (.t 7)),Cv 3 8] (.seq (jQ [Cv 9 0,jn 10 0 9,jk 11 0] (.block 0 (.loop [3,9,10,11] Tb))) (jr [Cv 20 3,Cv 2 20]))))⟩
theorem Kj:yc P fo 145 pc:=fM Go.Proofs.Tryz.func145 dN
def Kg:se:=⟨1,[.tmp 2],(jQ [jc 2 .qa] (jQ [Cv 4 0,Co 5 (.Bd 0 [(.t 4)]),Cv 3 5] (.seq (jQ [Cv 6 3,Co 7 (.Ej vg [(.t 6),(.c (.int .i64 1073741823))]),jt 8 7] (jC 8 (jr [jc 2 .qa]) .skip)) (jr [Cv 9 3,Cv 2 9]))))⟩
theorem zu:yc P fo 112 Kg:=fM Go.Proofs.Tryz.func112 (dC sm dN)
def Vb:Ia:=(jQ [jB 12 .lss 11 10] (.seq (jX 12 0) (.seq (.block 1 (jQ [ji 13 2 9 11,jL 14 2 13,Co 5 (.alloc [(.int .i64 0),(.int .i64 0)]),jS 2 5 14] (.region [Cv 15 3,jL 16 2 5,Co 17 (.Hb .lit 2 true 1 [(.int .i64 0),(.int .i64 0)] [(0,(.t 16))]),Co 18 (.ku 2 true 16 15 17),Cv 3 18]))) (.region [jK 19 .add 11 1,Cv 11 19]))))
def Ac:se:=⟨1,[.tmp 2],(jQ [jc 2 .qa] (jQ [Cv 6 0,jn 7 0 6,Co 8 (.Je .uq 2 true [(.int .i64 0),(.int .i64 0)] 16 (.c (.int .i64 0)) (.t 7)),Cv 3 8] (.seq (jQ [Cv 9 0,jn 10 0 9,jk 11 0] (.block 0 (.loop [3,9,10,11] Vb))) (jr [Cv 20 3,Cv 2 20]))))⟩
theorem ik:yc P fo 144 Ac:=fM Go.Proofs.Tryz.func144 dN
def Wh:se:=⟨1,[.tmp 2],(jQ [jc 2 .qa] (jr [Cv 3 0,Co 4 (.Bd 2 [(.t 3)]),Cv 2 4]))⟩
theorem Cu:yc P fo 110 Wh:=fM Go.Proofs.Tryz.func110 dN
def cm:se:=⟨2,[.tmp 4],(jQ [jc 4 .qa] (jr [Cv 5 0,Co 6 (.Bd 1 [(.t 5)]),Cv 7 1,Co 8 (.Bd 1 [(.t 7)]),Co 9 (.append true .own 2 true 16 (.t 6) (.t 8)),Co 10 (.Bd 24 [(.t 9)]),Co 11 (.Bd 3 [(.t 10)]),Cv 4 11]))⟩
theorem Dw:yc P fo 81 cm:=fM Go.Proofs.Tryz.func81 dN
def eb:Nat→Option se
 |24=>some rl
 |0=>some pc
 |1=>some Kg
 |2=>some Ac
 |3=>some Wh
 |_=>none
theorem Yv:Vh P fo eb:=by
 intro ix af h
 unfold eb at h
 split at h
 ·injection h with h;subst h;exact PD
 ·injection h with h;subst h;exact Kj
 ·injection h with h;subst h;exact zu
 ·injection h with h;subst h;exact ik
 ·injection h with h;subst h;exact Cu
 ·cases h
def Mh:Fa:=fun ix args H=>if ix=22 then mv 2 0 23 args H else none
theorem xM (B0:te):Um P fo B0 Mh:=QG (s:=22) (g:=23) Go.Proofs.qO B0
def mj:=FG Mh eb cm
theorem Py:Ga P 81 mj:=mH Yv xM Dw
def ib:Ia:=(jQ [jB 15 .lss 14 13] (.seq (jX 15 0) (.seq (.block 1 (jQ [ji 16 2 12 14,jL 17 2 16,Co 5 (.alloc [.qa,(.int .i64 0)]),jS 2 5 17] (.seq (jQ [jf 18 0 5,jl 19 1 18,jn 20 0 19,jK 21 .lss 20 1,Cv 22 21,jF 23 22 (.kf 0 5),jF 24 22 (.kl 1 23),jF 25 22 (.kn 0 24),jF 26 22 (.kK .gtr 25 8),jo 27 22 26,Cv 28 27,jF 29 28 (.kf 1 5),jF 30 28 (.kl 1 29),jF 31 28 (.kK .lss 30 0),jo 32 28 31,Cv 33 32,jF 34 33 (.kf 1 5),jF 35 33 (.kl 1 34),jF 36 33 (.kK .gtr 35 1073741823),jo 37 33 36,Cv 38 37,jF 39 38 (.kf 0 5),jF 40 38 (.kl 1 39),jF 41 38 (.Bd 6 [(.t 40),(.f 7)]),jo 42 38 41] (jC 42 (jr [jb 2 false]) .skip)) (jQ [jf 43 1 5,jl 44 1 43,jL 45 2 5,jp 46 Vk 45,Co 47 (.build [(.int .i64 0),(.int .i64 0)] [(0,1,(.t 44)),(1,1,(.t 46))]),Co 48 (.Hb .lit 2 true 1 [(.int .i64 0),(.int .i64 0)] [(0,(.t 47))]),Cv 6 48] (.seq (jQ [Cv 49 6,Co 50 (.kj 2 49 0),jf 51 1 50,jl 52 1 51,jK 53 .gtr 52 1073741823,Cv 54 53,jF 55 54 (.km 3),jF 56 54 (.km 6),jF 57 54 (.kq Tj 55 56),jF 58 54 (.kn 0 57),jF 59 54 (.kK .gtr 58 0),jo 60 54 59] (jC 60 (jr [jb 2 false]) .skip)) (.region [Cv 61 3,Cv 62 6,jq 63 mj 61 62,Cv 3 63])))))) (.region [jK 64 .add 14 1,Cv 14 64]))))
def si:se:=⟨1,[.tmp 2],(jQ [jR 1 1 0,jb 2 false] (.seq (jQ [Jf 7 0 1,Jl 8 1 7,jn 9 0 8,jK 10 .gtr 9 32] (jC 10 (jr [jb 2 false]) .skip)) (jQ [jc 3 .qa] (.seq (jQ [Jf 11 0 1,Jl 12 1 11,jn 13 0 12,jk 14 0] (.block 0 (.loop [3,12,13,14] ib))) (jr [jb 2 true])))))⟩
theorem Iy:yc P fo 51 si:=fM Go.Proofs.Tryz.func51 (dC AB (dC bz (dC Py dN)))
def Eb:Nat→Option se
 |5=>some Qb
 |6=>some gb
 |7=>some Ih
 |_=>none
theorem Zw:Vh P fo Eb:=by
 intro ix af h
 unfold Eb at h
 split at h
 ·injection h with h;subst h;exact Oi
 ·injection h with h;subst h;exact Rh
 ·injection h with h;subst h;exact iA
 ·cases h
def Ie:=fc Eb si
theorem Ns:Ga P 51 Ie:=Na Zw Iy
def Fo:se:=⟨1,[.tmp 2],(jQ [jR 1 2 0,jb 2 false] (jr [JL 3 2 1,Co 4 (.Hb .lit 2 true 1 [.qa,(.int .i64 0)] [(0,(.t 3))]),Co 5 (.build [.qa] [(0,1,(.t 4))]),jp 6 Ie 5,Cv 2 6]))⟩
theorem Oz:yc P fo 83 Fo:=fM Go.Proofs.Tryz.func83 (dC Ns dN)
def Rg:=fc (fun _=>none) Fo
theorem al:Ga P 83 Rg:=Na Lb Oz
def ye:Ia:=(jQ [jB 36 .lss 35 34] (.seq (jX 36 0) (.seq (.block 1 (jQ [Cv 37 35,Cv 9 37] (jQ [Jf 38 0 3,Jl 39 1 38,Cv 40 9,Ji 41 1 39 40,Jl 42 1 41,Jf 43 0 4,Jl 44 1 43,Cv 45 9,Ji 46 1 44 45,Jl 47 1 46,jq 48 qm 42 47,Cv 10 48] (.seq (jQ [Cv 49 10,jn 50 0 49,jK 51 .eql 50 0] (jC 51 (jr [jc 6 .qa,jb 7 false]) .skip)) (.region [Cv 52 8,Cv 53 10,Co 54 (.kj 2 53 0),jf 55 0 54,jl 56 1 55,Co 57 (.conv .u8 (.t 56)),Co 58 (.Hb .lit 1 false 1 [(.int .u8 0)] [(0,(.t 57))]),Co 59 (.ku 1 false 1 52 58),Cv 8 59]))))) (.region [jK 60 .add 35 1,Cv 35 60]))))
def Gi:se:=⟨3,[.tmp 6,.tmp 7],(jQ [jR 3 2 0,jR 4 2 1,jc 6 .qa,jb 7 false] (.seq (jQ [JL 11 2 3,jp 12 Rg 11,jt 13 12,Cv 14 13,JF 15 14 (.kL 2 4),jF 16 14 (.kp Rg 15),jF 17 14 (.kt 16),jo 18 14 17,Cv 19 18,jF 20 19 (.km 2),jF 21 19 (.kK .lss 20 0),jo 22 19 21,Cv 23 22,jF 24 23 (.km 2),JF 25 23 (.kf 0 3),JF 26 23 (.kl 1 25),jF 27 23 (.kn 0 26),JF 28 23 (.kf 0 4),JF 29 23 (.kl 1 28),jF 30 23 (.kn 0 29),jF 31 23 (.mn [(.t 27),(.t 30)]),jF 32 23 (.kB .gtr 24 31),jo 33 23 32] (jC 33 (jr [jc 6 .qa,jb 7 false]) .skip)) (jQ [jc 8 .qa] (.ghost (.fF 8 1) (.seq (jQ [Cv 34 2,jk 35 0] (.block 0 (.loop [3,4,8,34,35] ye))) (jr [Cv 61 8,Cv 6 61,jb 7 true]))))))⟩
theorem yy:yc P fo 122 Gi:=fM Go.Proofs.Tryz.func122 (dC al (dC al (dC nE dN)))
def eg:=fc (fun _=>none) Gi
theorem az:Ga P 122 eg:=Na Lb yy
def Pf:Ia:=(.seq (jQ [Cv 14 5,jK 15 .gtr 14 0] (jX 15 0)) (.seq (.block 1 (jQ [Cv 18 3,Cv 19 5,Cv 20 4,ji 21 1 18 19,jS 1 21 20] (.region [Cv 22 4,Jf 23 0 1,Jl 24 1 23,Cv 25 5,jK 26 .sub 25 1,ji 27 1 24 26,jl 28 1 27,jp 29 sk 28,jB 30 .mul 22 29,Cv 4 30]))) (.region [Cv 16 5,jK 17 .sub 16 1,Cv 5 17])))
def Jo:se:=⟨1,[.tmp 2],(jQ [jR 1 2 0,jc 2 .qa] (jQ [Jf 6 0 1,Jl 7 1 6,jn 8 0 7,jK 9 .add 8 1,Co 10 (.Je .own 1 false [(.int .i64 0)] 8 (.t 9) (.t 9)),Cv 3 10] (jQ [jk 4 1] (.seq (jQ [Jf 11 0 1,Jl 12 1 11,jn 13 0 12,Cv 5 13] (.block 0 (.loop [1,3,4,5] Pf))) (jQ [Cv 31 3,Cv 32 4,Co 33 (.kj 1 31 0),jS 1 33 32] (jr [Cv 34 3,Cv 2 34]))))))⟩
theorem HA:yc P fo 84 Jo:=fM Go.Proofs.Tryz.func84 (dC Gv dN)
def cj:=fc (fun _=>none) Jo
theorem mu:Ga P 84 cj:=Na Lb HA
def xf:Ia:=(jQ [jB 27 .lss 26 25] (.seq (jX 27 0) (.seq (.block 1 (jQ [Cv 28 26,ji 29 1 24 26,jl 30 1 29,Cv 7 28,Cv 8 30] (jQ [Jf 32 0 2,Jl 33 1 32,Cv 34 7,Ji 35 1 33 34,Jl 36 1 35,Cv 37 1,Cv 38 7,Ji 39 1 37 38,Jl 40 1 39,Cp 41 (.conv .i64 (.t 40)),jq 42 wk 36 41,Cv 31 42,jx 43 0 31,jx 44 1 31,Cv 9 43,Cv 10 44] (.seq (jQ [Cv 45 10,jt 46 45] (jC 46 (jr [jk 4 0,jb 5 false]) .skip)) (.region [Cv 47 6,Cv 48 9,Cv 49 8,jB 50 .mul 48 49,jB 51 .add 47 50,Cv 6 51]))))) (.region [jK 52 .add 26 1,Cv 26 52]))))
def Mj:se:=⟨2,[.tmp 4,.tmp 5],(jQ [jR 2 2 0,jk 4 0,jb 5 false] (.seq (jQ [JL 11 2 2,jp 12 Rg 11,jt 13 12,Cv 14 13,jF 15 14 (.km 1),jF 16 14 (.kn 0 15),JF 17 14 (.kf 0 2),JF 18 14 (.kl 1 17),jF 19 14 (.kn 0 18),jF 20 14 (.kB .neq 16 19),jo 21 14 20] (jC 21 (jr [jk 4 0,jb 5 false]) .skip)) (jQ [jk 6 0] (.seq (jQ [JL 22 2 2,jp 23 cj 22,Co 24 (.slice 1 (.t 23) (some (.c (.int .i64 1))) none),jn 25 0 24,jk 26 0] (.block 0 (.loop [1,2,6,24,25,26] xf))) (jr [Cv 53 6,Cv 4 53,jb 5 true])))))⟩
theorem sB:yc P fo 53 Mj:=fM Go.Proofs.Tryz.func53 (dC al (dC mu (dC Nv dN)))
def wg:=fc (fun _=>none) Mj
theorem vE:Ga P 53 wg:=Na Lb sB
def Sf:Ia:=(jQ [jB 20 .lss 19 18] (.seq (jX 20 0) (.seq (.block 1 (jQ [ji 21 1 17 19,jl 22 1 21,Cv 7 22] (.region [Cv 23 5,Cv 24 7,Co 25 (.kj 2 24 0),jf 26 0 25,jl 27 1 26,Co 28 (.conv .u8 (.t 27)),Co 29 (.Hb .lit 1 false 1 [(.int .u8 0)] [(0,(.t 28))]),Co 30 (.ku 1 false 1 23 29),Cv 5 30]))) (.region [jK 31 .add 19 1,Cv 19 31]))))
def Eo:se:=⟨2,[.tmp 4],(jQ [jR 2 2 0,jk 4 0] (jQ [Co 10 (.Hb .uq 1 false 0 [(.int .u8 0)] []),Cv 11 1,Co 12 (.ku 1 false 1 10 11),Cv 5 12] (.seq (jQ [Jf 13 0 2,Jl 14 1 13,Cv 15 1,jn 16 0 15,Co 17 (.slice 1 (.t 14) (some (.t 16)) none),jn 18 0 17,jk 19 0] (.block 0 (.loop [2,5,17,18,19] Sf))) (jQ [JL 33 2 2,Cv 34 5,jq 35 wg 33 34,Cv 32 35,jx 36 0 32,jx 37 1 32,Cv 8 36,Cv 9 37] (jr [Jf 38 1 2,Jl 39 1 38,Cv 40 8,jB 41 .add 39 40,Cv 4 41])))))⟩
theorem gz:yc P fo 123 Eo:=fM Go.Proofs.Tryz.func123 (dC vE dN)
def Jh:=fc (fun _=>none) Eo
theorem nu:Ga P 123 Jh:=Na Lb gz
def Ae:Ia:=(jQ [jB 30 .lss 29 28] (.seq (jX 30 2) (.seq (.block 3 (jQ [Cv 31 29,ji 32 2 27 29,jL 33 2 32,Co 10 (.alloc [.qa,(.int .i64 0)]),Cv 9 31,jS 2 10 33] (.seq (jQ [Cv 34 1,Cv 35 7,Cv 36 9,Co 37 (.Nx (.t 34) [(.t 35),(.t 36)]),jt 38 37] (jC 38 (.exit 3) .skip)) (jQ [jL 40 2 8,jL 41 2 10,jf 42 0 8,jl 43 1 42,jn 44 0 43,Co 45 (.kr eg 40 41 44),Cv 39 45,jx 46 0 39,jx 47 1 39,Cv 11 46,Cv 12 47] (jQ [Cv 48 12] (jC 48 (jQ [jL 49 2 8,Cv 50 11,jq 51 Jh 49 50,jL 52 2 10,Cv 53 11,jq 54 Jh 52 53,Co 55 (.build [(.bool false),(.int .i64 0),(.int .i64 0)] [(1,1,(.t 51)),(2,1,(.t 54))]),jS 3 6 55] (.exit 0)) .skip)))))) (.region [jK 56 .add 29 1,Cv 29 56]))))
def zg:Ia:=(jQ [jB 22 .lss 21 20] (.seq (jX 22 0) (.seq (.block 1 (jQ [Cv 23 21,ji 24 2 19 21,jL 25 2 24,Co 8 (.alloc [.qa,(.int .i64 0)]),Cv 7 23,jS 2 8 25] (jQ [Jf 26 0 2,Jl 27 1 26,jn 28 0 27,jk 29 0] (.block 2 (.loop [1,2,4,6,7,8,19,20,21,27,28,29] Ae))))) (.region [jK 57 .add 21 1,Cv 21 57]))))
def bf:se:=⟨2,[.cell 4 true 3,.tmp 5],(jQ [jR 2 1 0,Co 4 (.alloc [(.bool false),(.int .i64 0),(.int .i64 0)]),jk 5 0] (.scope (.seq (jQ [JL 13 1 2,jp 14 Ie 13,jt 15 14] (jC 15 (jr [Co 16 (.build [(.bool false),(.int .i64 0),(.int .i64 0)] []),jS 3 4 16,jk 5 84]) .skip)) (jQ [Co 17 (.build [(.bool false),(.int .i64 0),(.int .i64 0)] [(0,1,(.c (.bool true)))]),Co 6 (.alloc [(.bool false),(.int .i64 0),(.int .i64 0)]),jS 3 6 17] (.seq .skip (.seq (jQ [Jf 18 0 2,Jl 19 1 18,jn 20 0 19,jk 21 0] (.block 0 (.loop [1,2,4,6,19,20,21] zg))) (jr [jL 58 3 6,jS 3 4 58,jk 5 0])))))))⟩
theorem er:yc P fo 94 bf:=fM Go.Proofs.Tryz.func94 (dC Ns (dC az (dC nu (dC nu dN))))
def gk:se:=⟨1,[.cell 2 true 3,.tmp 3],(jQ [Co 1 (.box 1 (.t 0)),Co 2 (.alloc [(.bool false),(.int .i64 0),(.int .i64 0)]),jk 3 0] (jr [jL 4 1 1,Co 5 (.BD 4 [(.t 1)]),Co 6 (.Bd 25 [(.t 4),(.t 5)]),jx 7 0 6,jx 8 1 6,jS 3 2 7,Cv 3 8]))⟩
theorem Gy:yc P fo 90 gk:=fM Go.Proofs.Tryz.func90 dN
def Xg:Nat→Option se
 |4=>some Vf
 |25=>some bf
 |_=>none
theorem Aw:Vh P fo Xg:=by
 intro ix af h
 unfold Xg at h
 split at h
 ·injection h with h;subst h;exact cw
 ·injection h with h;subst h;exact er
 ·cases h
def Hd:=fc Xg gk
theorem ZA:Ga P 90 Hd:=Na Aw Gy
def vd:se:=⟨1,[.tmp 2],(jQ [jc 2 .qa] (.seq (jQ [Cv 3 0,Co 4 (.eq 2 false (.t 3) (.c .qa))] (jC 4 (jr [jc 2 .qa]) .skip)) (jr [Co 5 (.Hb .uq 2 true 0 [(.int .i64 0),(.int .i64 0)] []),Cv 6 0,Co 7 (.ku 2 true 16 5 6),Cv 2 7])))⟩
theorem Jj:yc P fo 96 vd:=fM Go.Proofs.Tryz.func96 dN
def oc:=fc (fun _=>none) vd
theorem yk:Ga P 96 oc:=Na Lb Jj
def Of:Ia:=(jQ [jB 23 .lss 22 21] (.seq (jX 23 2) (.seq (.block 3 (jQ [ji 24 1 20 22,jl 25 1 24,Cv 8 25] (.region [jf 26 0 6,jl 27 1 26,Cv 28 8,jp 29 oc 28,Co 30 (.Hb .lit 1 false 1 [.qa] [(0,(.t 29))]),Co 31 (.ku 1 false 24 27 30),jf 32 0 6,jS 1 32 31]))) (.region [jK 33 .add 22 1,Cv 22 33]))))
def Uf:Ia:=(jQ [jB 13 .lss 12 11] (.seq (jX 13 0) (.seq (.block 1 (jQ [ji 14 2 10 12,jL 15 2 14,Co 5 (.alloc [.qa,(.int .i64 0)]),jS 2 5 15] (jQ [jf 16 1 5,jl 17 1 16,Co 18 (.build [.qa,(.int .i64 0)] [(1,1,(.t 17))]),Co 6 (.alloc [.qa,(.int .i64 0)]),jS 2 6 18] (.ghost (.iy 6 0 1) (.seq (jQ [jf 19 0 5,jl 20 1 19,jn 21 0 20,jk 22 0] (.block 2 (.loop [2,3,6,10,11,12,20,21,22] Of))) (.region [jf 34 0 3,jl 35 1 34,jL 36 2 6,Co 37 (.Hb .lit 2 true 1 [.qa,(.int .i64 0)] [(0,(.t 36))]),Co 38 (.ku 2 true 32 35 37),jf 39 0 3,jS 1 39 38])))))) (.region [jK 40 .add 12 1,Cv 12 40]))))
def Yk:se:=⟨1,[.cell 2 true 1],(jQ [jR 1 1 0,Co 2 (.alloc [.qa])] (jQ [Co 3 (.alloc [.qa])] (.ghost (.iy 3 0 2) (.seq (jQ [Jf 9 0 1,Jl 10 1 9,jn 11 0 10,jk 12 0] (.block 0 (.loop [2,3,10,11,12] Uf))) (jr [jL 41 1 3,jS 1 2 41])))))⟩
theorem RA:yc P fo 64 Yk:=fM Go.Proofs.Tryz.func64 (dC yk dN)
def Qg:=fc (fun _=>none) Yk
theorem iu:Ga P 64 Qg:=Na Lb RA
def Pc:se:=⟨2,[.tmp 4,.tmp 5],(jQ [jR 3 2 1,jk 4 0,jb 5 false] (jQ [Cv 9 0,jz 10 9,jf 11 1 10,jl 12 1 11,JL 13 2 3,Co 14 (.lookup (.row [1,1]) (.int .i64 0) true (.t 12) (.t 13)),Cv 8 14,jx 15 0 8,jx 16 1 8,Cv 6 15,Cv 7 16] (.seq (jQ [Cv 17 7,jt 18 17] (jC 18 (jQ [Cv 19 0,jz 20 19,jf 21 2 20,jl 22 1 21,jn 23 0 22,Cv 6 23] (.seq (jQ [Cv 24 6,jK 25 .eql 24 64] (jC 25 (jr [jk 4 0,jb 5 false]) .skip)) (jQ [Cv 26 0,jz 27 26,jf 28 1 27,jl 29 1 28,JL 30 2 3,Cv 31 6,Ce (.zq (.row [1,1]) (.t 29) (.t 30) (.t 31))] (.region [Cv 32 0,Cv 33 0,jz 34 33,jf 35 2 34,jl 36 1 35,JL 37 2 3,Co 38 (.Hb .lit 2 true 1 [(.int .i64 0),(.int .u32 0)] [(0,(.t 37))]),Co 39 (.ku 2 true 16 36 38),jz 40 32,jf 41 2 40,jS 1 41 39])))) .skip)) (jr [Cv 42 6,Cv 4 42,jb 5 true]))))⟩
theorem Ut:yc P fo 119 Pc:=fM Go.Proofs.Tryz.func119 dN
def Za:Ia:=(jQ [jB 19 .lss 18 17] (.seq (jX 19 0) (.seq (.block 1 (jQ [Cv 20 18,ji 21 2 16 18,jL 22 2 21,Co 11 (.alloc [.qa,(.int .i64 0)]),Cv 10 20,jS 2 11 22] (jQ [Jf 23 1 4,Jl 24 1 23,Cv 25 10,jB 26 .shr 24 25,Co 27 (.bin .and (.t 26) (.c (.int .u32 1))),Co 28 (.bin .eql (.t 27) (.c (.int .u32 1))),Cv 29 28,jT 30 29 (.kf 0 11),jT 31 29 (.kl 1 30),JT 32 29 (.kf 0 4),JT 33 29 (.kl 1 32),jT 34 29 (.ki 1 31 33),jT 35 29 (.kl 1 34),jT 36 29 (.km 2),jT 37 29 (.kq wi 35 36),ja 38 29 37] (jC 38 (jQ [Cv 39 8,Cv 40 10,Co 41 (.bin .shl (.c (.int .u32 1)) (.t 40)),jB 42 .or 39 41,Cv 8 42] (.region [Cv 43 9,Cv 44 43,jF 45 44 (.kf 0 11),jF 46 44 (.kl 1 45),jF 47 44 (.kn 0 46),JF 48 44 (.kf 0 4),JF 49 44 (.kl 1 48),jF 50 44 (.kK .add 49 1),jF 51 44 (.kB .eql 47 50),jo 52 44 51,Cv 9 52])) .skip)))) (.region [jK 53 .add 18 1,Cv 18 53]))))
def jg:se:=⟨3,[.tmp 6,.tmp 7],(jQ [jR 4 2 1,Co 6 (.move (.c (.int .u32 0))),jb 7 false] (jQ [Co 8 (.move (.c (.int .u32 0)))] (jQ [jb 9 false] (.seq (jQ [Cv 12 0,jz 13 12,jf 14 0 13,jf 15 0 14,jl 16 1 15,jn 17 0 16,jk 18 0] (.block 0 (.Cl [2,4,8,9,16,17,18] Za))) (jr [Cv 54 8,Cv 55 9,Cv 6 54,Cv 7 55])))))⟩
theorem dq:yc P fo 120 jg:=fM Go.Proofs.Tryz.func120 (dC GF dN)
def ya:Ia:=(jQ [jK 31 .lss 30 256] (.seq (jX 31 2) (.seq (.block 3 (jQ [Cv 32 30,Cv 5 32] (jQ [Cv 34 0,Cv 35 0,jz 36 35,jf 37 2 36,jl 38 1 37,Cv 39 3,ji 40 2 38 39,jL 41 2 40,Cv 42 5,Co 43 (.Bd 27 [(.t 34),(.t 41),(.t 42)]),Cv 33 43,jx 44 0 33,jx 45 1 33,Cv 6 44,Cv 7 45] (.block 4 (jQ [Cv 68 6,Co 69 (.bin .eql (.t 68) (.c (.int .u32 0))),Cv 67 69] (jC 67 (.region [Cv 70 5,Co 71 (.kA 256 1 4 70),Ce (.store 1 (.t 71) (.c (.int .i64 (-2))))]) (jQ [Cv 73 7,Cv 72 73] (jC 72 (.region [Cv 74 5,Co 75 (.kA 256 1 4 74),Ce (.store 1 (.t 75) (.c (.int .i64 (-1))))]) (jQ [Cv 47 0,Cv 48 0,jz 49 48,jf 50 2 49,jl 51 1 50,Cv 52 3,ji 53 2 51 52,jf 54 0 53,jl 55 1 54,jK 56 .add 55 1,Cv 57 6,Co 58 (.build [(.int .i64 0),(.int .u32 0)] [(0,1,(.t 56)),(1,1,(.t 57))]),Co 59 (.Bd 26 [(.t 47),(.t 58)]),Cv 46 59,jx 60 0 46,jx 61 1 46,Cv 8 60,Cv 9 61] (.seq (jQ [Cv 62 9,jt 63 62] (jC 63 (jr [jb 2 false]) .skip)) (.region [Cv 64 5,Cv 65 8,Co 66 (.kA 256 1 4 64),jS 1 66 65]))))))))))) (.region [jK 76 .add 30 1,Cv 30 76]))))
def Ua:Ia:=(.seq (jQ [Cv 21 3,Cv 22 0,jz 23 22,jf 24 2 23,jl 25 1 24,jn 26 0 25,jB 27 .lss 21 26] (jX 27 0)) (.seq (.block 1 (jQ [Co 4 (.alloc (List.replicate 256 (.int .i64 0)))] (.seq (jQ [jk 30 0] (.block 2 (.loop [0,3,4,30] ya))) (.region [Cv 77 0,Cv 78 0,jz 79 78,jf 80 3 79,jl 81 1 80,jL 82 256 4,Co 83 (.Hb .lit 256 true 1 (List.replicate 256 (.int .i64 0)) [(0,(.t 82))]),Co 84 (.append true .own 256 true 2048 (.t 81) (.t 83)),jz 85 77,jf 86 3 85,jS 1 86 84])))) (.region [Cv 28 3,jK 29 .add 28 1,Cv 3 29])))
def Ke:se:=⟨1,[.tmp 2],(jQ [jb 2 false] (jQ [Cv 10 0,Cv 11 0,jz 12 11,jf 13 0 12,jf 14 0 13,jl 15 1 14,jn 16 0 15,Co 17 (.bin .shl (.c (.int .u32 1)) (.t 16)),Co 18 (.bin .sub (.t 17) (.c (.int .u32 1))),Co 19 (.build [(.int .i64 0),(.int .u32 0)] [(1,1,(.t 18))]),Co 20 (.Bd 26 [(.t 10),(.t 19)])] (.seq (jQ [jk 3 0] (.block 0 (.loop [0,3] Ua))) (jr [jb 2 true]))))⟩
theorem Ir:yc P fo 91 Ke:=fM Go.Proofs.Tryz.func91 dN
end Go.AM.B1
