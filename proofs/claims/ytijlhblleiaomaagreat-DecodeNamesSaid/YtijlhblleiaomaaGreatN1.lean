/- What functions of the program compute. -/
import Derived.Test.YtijlhblleiaomaaGreatJ3
import Derived.Test.YtijlhblleiaomaaGreatProg
import Derived.Shelf.SlicesG.Cmp
import Derived.Shelf.Lay
import Derived.Ground.SlsfProg
import Derived.Ground.SlgcProg
set_option linter.unusedVariables false
namespace Go.AM.B1
open Go.AM
noncomputable abbrev P:Program:=Go.Proofs.Tryz.prog
def fo:Nat→FuncId
 |0=>145
 |1=>112
 |2=>144
 |3=>110
 |4=>118
 |5=>107
 |6=>77
 |7=>78
 |8=>163
 |9=>172
 |22=>146
 |23=>147
 |24=>113
 |25=>94
 |26=>119
 |27=>120
 |28=>91
 |29=>92
 |30=>93
 |34=>67
 |35=>151
 |36=>68
 |37=>95
 |38=>124
 |39=>97
 |74=>19
 |80=>54
 |81=>87
 |82=>89
 |83=>88
 |84=>57
 |85=>59
 |86=>31
 |87=>33
 |88=>37
 |89=>58
 |90=>56
 |91=>55
 |92=>36
 |93=>34
 |94=>40
 |95=>39
 |96=>41
 |97=>42
 |98=>20
 |99=>49
 |127=>23
 |128=>24
 |132=>96
 |138=>64
 |139=>45
 |140=>70
 |_=>0
theorem Lb:Xh P fo (fun _=>none):=fun ix af h=>by cases h
def Ub:Ia:=(jQ [jB 12 .lss 11 10] (.seq (jX 12 0) (.seq (.block 1 (jQ [ji 13 2 9 11,jL 14 2 13,Co 5 (.alloc [(.int .i64 0),(.int .i64 0)]),jS 2 5 14] (.region [Cv 15 3,jL 16 2 5,Co 17 (.Hb .lit 2 true 1 [(.int .i64 0),(.int .i64 0)] [(0,(.t 16))]),Co 18 (.ku 2 true 16 15 17),Cv 3 18]))) (.region [jK 19 .add 11 1,Cv 11 19]))))
def Ff:re:=⟨1,[.tmp 2],(jQ [jc 2 .qa] (jQ [Cv 6 0,jn 7 0 6,Co 8 (.ye .uq 2 true [(.int .i64 0),(.int .i64 0)] 16 (.c (.int .i64 0)) (.t 7)),Cv 3 8] (.seq (jQ [Cv 9 0,jn 10 0 9,jk 11 0] (.block 0 (.loop [3,9,10,11] Ub))) (jr [Cv 20 3,Cv 2 20]))))⟩
theorem dm:zc P fo 142 Ff:=fM Go.Proofs.Tryz.func142 dN
def Gb:=fc (fun _=>none) Ff
theorem Wh:Ga P 142 Gb:=Na Lb dm
def Ic:Ia:=(jQ [jB 11 .lss 10 9] (.seq (jX 11 0) (.seq (.block 1 (jQ [ji 12 2 8 10,jL 13 2 12,Co 7 (.alloc [(.int .i64 0),(.int .i64 0)]),jS 2 7 13] (.seq (jQ [jf 14 0 7,jl 15 1 14,jK 16 .lss 15 0,Cv 17 16,jF 18 17 (.kf 0 7),jF 19 17 (.kl 1 18),jF 20 17 (.kf 1 7),jF 21 17 (.kl 1 20),jF 22 17 (.kB .gtr 19 21),jo 23 17 22,Cv 24 23,jF 25 24 (.kf 1 7),jF 26 24 (.kl 1 25),jF 27 24 (.km 1),jF 28 24 (.kB .gtr 26 27),jo 29 24 28,Cv 30 29,jF 31 30 (.kf 0 7),jF 32 30 (.kl 1 31),jF 33 30 (.kK .sub 32 1),jF 34 30 (.km 5),jF 35 30 (.kB .leq 33 34),jo 36 30 35] (jC 36 (jr [jb 4 false]) .skip)) (.region [jf 37 1 7,jl 38 1 37,Cv 5 38])))) (.region [jK 39 .add 10 1,Cv 10 39]))))
def um:re:=⟨2,[.tmp 4],(jQ [jb 4 false] (jQ [jk 5 (-2)] (.seq (jQ [Cv 8 0,jn 9 0 8,jk 10 0] (.block 0 (.loop [1,5,8,9,10] Ic))) (jr [jb 4 true]))))⟩
theorem vB:zc P fo 141 um:=fM Go.Proofs.Tryz.func141 dN
def Ag:=fc (fun _=>none) um
theorem zm:Ga P 141 Ag:=Na Lb vB
def Ko:re:=⟨1,[.tmp 2],(jQ [jb 2 false] (jr [Cv 3 0,jp 4 Gb 3,Co 5 (.Gj Ag [(.t 4),(.c (.int .i64 255))]),Cv 2 5]))⟩
theorem wz:zc P fo 108 Ko:=fM Go.Proofs.Tryz.func108 (dC Wh (dC zm dN))
def Vk:=fc (fun _=>none) Ko
theorem EB:Ga P 108 Vk:=Na Lb wz
def yl:re:=⟨1,[.tmp 2],(jQ [jc 2 .qa] (jQ [Cv 4 0,jp 5 Gb 4,Cv 3 5] (.seq (jQ [Cv 6 3,Co 7 (.Gj Ag [(.t 6),(.c (.int .i64 255))]),jt 8 7] (jC 8 (jr [jc 2 .qa]) .skip)) (jr [Cv 9 3,Cv 2 9]))))⟩
theorem uE:zc P fo 116 yl:=fM Go.Proofs.Tryz.func116 (dC Wh (dC zm dN))
def ef:=fc (fun _=>none) yl
theorem Nl:Ga P 116 ef:=Na Lb uE
def xi:Ia:=(jQ [jB 9 .lss 8 7] (.seq (jX 9 0) (.seq (.block 1 (jQ [ji 10 2 6 8,jL 11 2 10,Co 5 (.alloc [(.int .i64 0),(.int .i64 0)]),jS 2 5 11] (.region [Cv 12 3,jf 13 1 5,jl 14 1 13,jf 15 0 5,jl 16 1 15,jB 17 .sub 14 16,jK 18 .add 17 1,jB 19 .add 12 18,Cv 3 19]))) (.region [jK 20 .add 8 1,Cv 8 20]))))
def ft:re:=⟨1,[.tmp 2],(jQ [jk 2 0] (jQ [jk 3 0] (.seq (jQ [Cv 6 0,jn 7 0 6,jk 8 0] (.block 0 (.loop [3,6,7,8] xi))) (jr [Cv 21 3,Cv 2 21]))))⟩
theorem rE:zc P fo 143 ft:=fM Go.Proofs.Tryz.func143 dN
def Ln:=fc (fun _=>none) ft
theorem pH:Ga P 143 Ln:=Na Lb rE
def Tq:re:=⟨1,[.tmp 2],(jQ [jk 2 0] (jr [Cv 3 0,jp 4 ef 3,jp 5 Ln 4,Cv 2 5]))⟩
theorem CB:zc P fo 109 Tq:=fM Go.Proofs.Tryz.func109 (dC Nl (dC pH dN))
def Vj:=fc (fun _=>none) Tq
theorem jv:Ga P 109 Vj:=Na Lb CB
def Bk:Ia:=(jQ [jB 12 .lss 11 10] (.seq (jX 12 0) (.seq (.block 1 (jQ [ji 13 2 9 11,jL 14 2 13,Co 5 (.alloc [(.int .i64 0),(.int .i64 0)]),jS 2 5 14] (.region [Cv 15 3,jL 16 2 5,Co 17 (.Hb .lit 2 true 1 [(.int .i64 0),(.int .i64 0)] [(0,(.t 16))]),Co 18 (.ku 2 true 16 15 17),Cv 3 18]))) (.region [jK 19 .add 11 1,Cv 11 19]))))
def Fh:re:=⟨1,[.tmp 2],(jQ [jc 2 .qa] (jQ [Cv 6 0,jn 7 0 6,Co 8 (.ye .uq 2 true [(.int .i64 0),(.int .i64 0)] 16 (.c (.int .i64 0)) (.t 7)),Cv 3 8] (.seq (jQ [Cv 9 0,jn 10 0 9,jk 11 0] (.block 0 (.loop [3,9,10,11] Bk))) (jr [Cv 20 3,Cv 2 20]))))⟩
theorem Ql:zc P fo 145 Fh:=fM Go.Proofs.Tryz.func145 dN
def tf:=fc (fun _=>none) Fh
theorem Wl:Ga P 145 tf:=Na Lb Ql
def Be:Ia:=(.seq (jQ [Cv 8 0,jn 9 0 8,jK 10 .gtr 9 0,Cv 11 10,jT 12 11 (.km 1),jT 13 11 (.kn 0 12),jT 14 11 (.kK .gtr 13 0),ja 15 11 14] (jX 15 0)) (.block 1 (jQ [Cv 16 0,Cp 17 (.kj 2 16 0),jf 18 0 17,jl 19 1 18,Cv 20 1,Cp 21 (.kj 2 20 0),jf 22 0 21,jl 23 1 22,Co 24 (.mx [(.t 19),(.t 23)]),Cv 25 0,Cp 26 (.kj 2 25 0),jf 27 1 26,jl 28 1 27,Cv 29 1,Cp 30 (.kj 2 29 0),jf 31 1 30,jl 32 1 31,Co 33 (.mn [(.t 28),(.t 32)]),Cv 6 24,Cv 7 33] (.seq (jQ [Cv 34 6,Cv 35 7,jB 36 .leq 34 35] (jC 36 (.region [Cv 37 5,Cv 38 6,Cv 39 7,Co 40 (.build [(.int .i64 0),(.int .i64 0)] [(0,1,(.t 38)),(1,1,(.t 39))]),Co 41 (.Hb .lit 2 true 1 [(.int .i64 0),(.int .i64 0)] [(0,(.t 40))]),Co 42 (.ku 2 true 16 37 41),Cv 5 42]) .skip)) (jQ [Cv 43 0,Cp 44 (.kj 2 43 0),jf 45 1 44,jl 46 1 45,Cv 47 1,Cp 48 (.kj 2 47 0),jf 49 1 48,jl 50 1 49,jB 51 .lss 46 50] (jC 51 (.region [Cv 52 0,Co 53 (.slice 2 (.t 52) (some (.c (.int .i64 1))) none),Cv 0 53]) (.region [Cv 54 1,Co 55 (.slice 2 (.t 54) (some (.c (.int .i64 1))) none),Cv 1 55])))))))
def Cn:re:=⟨2,[.tmp 4],(jQ [jc 4 .qa] (jQ [jc 5 .qa] (.ghost (.NF 5 2) (.seq (.block 0 (.loop [0,1,5] Be)) (jr [Cv 56 5,Cv 4 56])))))⟩
theorem KD:zc P fo 111 Cn:=fM Go.Proofs.Tryz.func111 dN
def Aj:=fc (fun _=>none) Cn
theorem Mx:Ga P 111 Aj:=Na Lb KD
def zk:Ia:=(jQ [jB 12 .lss 11 10] (.seq (jX 12 0) (.seq (.block 1 (jQ [ji 13 2 9 11,jL 14 2 13,Co 5 (.alloc [(.int .i64 0),(.int .i64 0)]),jS 2 5 14] (.region [Cv 15 3,jL 16 2 5,Co 17 (.Hb .lit 2 true 1 [(.int .i64 0),(.int .i64 0)] [(0,(.t 16))]),Co 18 (.ku 2 true 16 15 17),Cv 3 18]))) (.region [jK 19 .add 11 1,Cv 11 19]))))
def Bh:re:=⟨1,[.tmp 2],(jQ [jc 2 .qa] (jQ [Cv 6 0,jn 7 0 6,Co 8 (.ye .uq 2 true [(.int .i64 0),(.int .i64 0)] 16 (.c (.int .i64 0)) (.t 7)),Cv 3 8] (.seq (jQ [Cv 9 0,jn 10 0 9,jk 11 0] (.block 0 (.loop [3,9,10,11] zk))) (jr [Cv 20 3,Cv 2 20]))))⟩
theorem Ol:zc P fo 144 Bh:=fM Go.Proofs.Tryz.func144 dN
def uf:=fc (fun _=>none) Bh
theorem Tl:Ga P 144 uf:=Na Lb Ol
def Rk:Ia:=(jQ [jB 12 .lss 11 10] (.seq (jX 12 0) (.seq (.block 1 (jQ [ji 13 2 9 11,jL 14 2 13,Co 5 (.alloc [(.int .i64 0),(.int .i64 0)]),jS 2 5 14] (.region [Cv 15 3,jL 16 2 5,Co 17 (.Hb .lit 2 true 1 [(.int .i64 0),(.int .i64 0)] [(0,(.t 16))]),Co 18 (.ku 2 true 16 15 17),Cv 3 18]))) (.region [jK 19 .add 11 1,Cv 11 19]))))
def ai:re:=⟨1,[.tmp 2],(jQ [jc 2 .qa] (jQ [Cv 6 0,jn 7 0 6,Co 8 (.ye .uq 2 true [(.int .i64 0),(.int .i64 0)] 16 (.c (.int .i64 0)) (.t 7)),Cv 3 8] (.seq (jQ [Cv 9 0,jn 10 0 9,jk 11 0] (.block 0 (.loop [3,9,10,11] Rk))) (jr [Cv 20 3,Cv 2 20]))))⟩
theorem Rl:zc P fo 171 ai:=fM Go.Proofs.Tryz.func171 dN
def Gf:=fc (fun _=>none) ai
theorem rm:Ga P 171 Gf:=Na Lb Rl
def yq:re:=⟨1,[.tmp 2],(jQ [jc 2 .qa] (jr [Cv 3 0,jp 4 Gf 3,Cv 2 4]))⟩
theorem xB:zc P fo 160 yq:=fM Go.Proofs.Tryz.func160 (dC rm dN)
def qm:=fc (fun _=>none) yq
theorem mD:Ga P 160 qm:=Na Lb xB
def Sp:re:=⟨2,[.tmp 4],(jQ [jc 4 .qa] (jr [Cv 5 0,jp 6 ef 5,Cv 7 1,jp 8 ef 7,jq 9 Aj 6 8,jp 10 qm 9,Cv 4 10]))⟩
theorem uB:zc P fo 150 Sp:=fM Go.Proofs.Tryz.func150 (dC Nl (dC Nl (dC Mx (dC mD dN))))
def tm:=fc (fun _=>none) Sp
theorem oD:Ga P 150 tm:=Na Lb uB
def Cd:Ia:=(jQ [jB 12 .lss 11 10] (.seq (jX 12 0) (.seq (.block 1 (jQ [ji 13 2 9 11,jL 14 2 13,Co 8 (.alloc [(.int .i64 0),(.int .i64 0)]),jS 2 8 14] (.seq (jQ [Cv 15 1,jf 16 0 8,jl 17 1 16,jB 18 .lss 15 17] (jC 18 (.exit 0) .skip)) (.seq (jQ [Cv 19 1,jf 20 1 8,jl 21 1 20,jB 22 .leq 19 21] (jC 22 (jr [Cv 23 6,Cv 24 1,jB 25 .add 23 24,jf 26 0 8,jl 27 1 26,jB 28 .sub 25 27,Cv 4 28,jb 5 true]) .skip)) (.region [Cv 29 6,jf 30 1 8,jl 31 1 30,jf 32 0 8,jl 33 1 32,jB 34 .sub 31 33,jK 35 .add 34 1,jB 36 .add 29 35,Cv 6 36]))))) (.region [jK 37 .add 11 1,Cv 11 37]))))
def Pn:re:=⟨2,[.tmp 4,.tmp 5],(jQ [jk 4 0,jb 5 false] (jQ [jk 6 0] (.seq (jQ [Cv 9 0,jn 10 0 9,jk 11 0] (.block 0 (.loop [1,6,9,10,11] Cd))) (jr [jk 4 0,jb 5 false]))))⟩
theorem aE:zc P fo 115 Pn:=fM Go.Proofs.Tryz.func115 dN
def Gl:=fc (fun _=>none) Pn
theorem nG:Ga P 115 Gl:=Na Lb aE
def zq:re:=⟨2,[.tmp 4,.tmp 5],(jQ [jk 4 0,jb 5 false] (jr [Cv 6 0,jp 7 ef 6,Cv 8 1,jq 9 Gl 7 8,jx 10 0 9,jx 11 1 9,Cv 4 10,Cv 5 11]))⟩
theorem KB:zc P fo 85 zq:=fM Go.Proofs.Tryz.func85 (dC Nl (dC nG dN))
def gk:=fc (fun _=>none) zq
theorem Xu:Ga P 85 gk:=Na Lb KB
def ct:re:=⟨2,[.tmp 4],(jQ [jb 4 false] (jQ [Cv 8 0,Cv 9 1,jq 10 gk 8 9,Cv 7 10,jx 11 0 7,jx 12 1 7,Cv 5 11,Cv 6 12] (jr [Cv 13 6,Cv 4 13])))⟩
theorem zE:zc P fo 149 ct:=fM Go.Proofs.Tryz.func149 (dC Xu dN)
def Ss:=fc (fun _=>none) ct
theorem RG:Ga P 149 Ss:=Na Lb zE
def Nf:re:=⟨3,[.tmp 5],(jQ [jb 5 false] (jr [jf 6 0 2,jl 7 1 6,Cv 8 0,Ji 9 2 7 8,jf 10 0 9,jl 11 1 10,Cp 12 (.kn 0 11),jf 13 0 2,jl 14 1 13,Cv 15 1,Ji 16 2 14 15,jf 17 0 16,jl 18 1 17,Cp 19 (.kn 0 18),jB 20 .lss 12 19,Cv 5 20]))⟩
theorem gv:zc P fo 118 Nf:=fM Go.Proofs.Tryz.func118 dN
def gb:Ia:=(jQ [jB 9 .lss 8 7] (.seq (jX 9 0) (.seq (.block 1 (jQ [Cv 10 8,Cv 5 10] (jQ [Cv 11 1,Cv 12 0,Cv 13 5,ji 14 1 12 13,jl 15 1 14,Co 16 (.Px (.t 11) [(.t 15)])] (jC 16 (jr [Cv 17 5,Cv 4 17]) .skip)))) (.region [jK 18 .add 8 1,Cv 8 18]))))
def Qb:re:=⟨2,[.tmp 4],(jQ [jk 4 0] (.seq (jQ [Cv 6 0,jn 7 0 6,jk 8 0] (.block 0 (.loop [0,1,7,8] gb))) (jr [jk 4 (-1)])))⟩
theorem Li:zc P fo 107 Qb:=fM Go.Proofs.Tryz.func107 dN
def fb:re:=⟨2,[.tmp 4],(jQ [jb 4 false] (jr [Cv 5 0,Cv 6 1,Co 7 (.Bd 5 [(.t 5),(.t 6)]),jK 8 .geq 7 0,Cv 4 8]))⟩
theorem Rh:zc P fo 77 fb:=fM Go.Proofs.Tryz.func77 dN
def Hh:re:=⟨1,[.tmp 2],(jQ [jb 2 false] (jr [Cv 3 0,jn 4 0 3,jK 5 .eql 4 0,Cv 6 5,jF 7 6 (.km 0),jF 8 6 (.kp Vk 7),jF 9 6 (.kt 8),jo 10 6 9,Cv 2 10]))⟩
theorem iz:zc P fo 78 Hh:=fM Go.Proofs.Tryz.func78 (dC EB dN)
def Vf:Ia:=(jQ [jB 10 .lss 9 8] (.seq (jX 10 0) (.seq (.block 1 (jQ [ji 11 1 7 9,jl 12 1 11,Cv 5 12] (.region [Cv 13 3,Cv 14 5,jp 15 Vj 14,jB 16 .mul 13 15,Co 17 (.mn [(.t 16),(.c (.int .i64 1073741825))]),Cv 3 17]))) (.region [jK 18 .add 9 1,Cv 9 18]))))
def Io:re:=⟨1,[.tmp 2],(jQ [jR 1 2 0,jk 2 0] (jQ [jk 3 1] (.seq (jQ [Jf 6 0 1,Jl 7 1 6,jn 8 0 7,jk 9 0] (.block 0 (.loop [1,3,7,8,9] Vf))) (jr [Jf 19 1 1,Jl 20 1 19,Cv 21 3,jB 22 .add 20 21,jK 23 .sub 22 1,Cv 2 23]))))⟩
theorem gz:zc P fo 79 Io:=fM Go.Proofs.Tryz.func79 (dC jv dN)
def al:=fc (fun _=>none) Io
theorem wB:Ga P 79 al:=Na Lb gz
def Jo:re:=⟨1,[.tmp 2],(jQ [jc 2 .qa] (jQ [Cv 4 0,jp 5 tf 4,Cv 3 5] (.seq (jQ [Cv 6 3,Co 7 (.Gj Ag [(.t 6),(.c (.int .i64 1073741823))]),jt 8 7] (jC 8 (jr [jc 2 .qa]) .skip)) (jr [Cv 9 3,Cv 2 9]))))⟩
theorem xA:zc P fo 112 Jo:=fM Go.Proofs.Tryz.func112 (dC Wl (dC zm dN))
def ij:=fc (fun _=>none) Jo
theorem cu:Ga P 112 ij:=Na Lb xA
def Im:re:=⟨1,[.tmp 2],(jQ [jc 2 .qa] (jr [Cv 3 0,jp 4 uf 3,Cv 2 4]))⟩
theorem Dy:zc P fo 110 Im:=fM Go.Proofs.Tryz.func110 (dC Tl dN)
def Zj:=fc (fun _=>none) Im
theorem Mz:Ga P 110 Zj:=Na Lb Dy
def Om:re:=⟨2,[.tmp 4],(jQ [jc 4 .qa] (jr [Cv 5 0,jp 6 ij 5,Cv 7 1,jp 8 ij 7,jq 9 Aj 6 8,jp 10 Zj 9,Cv 4 10]))⟩
theorem Cy:zc P fo 80 Om:=fM Go.Proofs.Tryz.func80 (dC cu (dC cu (dC Mx (dC Mz dN))))
def Mj:=fc (fun _=>none) Om
theorem Hz:Ga P 80 Mj:=Na Lb Cy
end Go.AM.B1
set_option linter.unusedSimpArgs false
namespace Go.AM.B1
open Go.AM
def Ah (sz:Nat) (v:PV) (es:List PV):Prop:=(v= .qa∧es=[])∨v= .lit sz es
theorem Ah.len {sz:Nat} {v:PV} {es:List PV} (h:Ah sz v es) (H:List aa):Mc H 0 (.pv v)=some es.length:=by
 rcases h with⟨rfl,rfl⟩ | rfl <;> rfl
theorem Ah.lit {sz:Nat} {v:PV} {es:List PV} (h:Ah sz v es) {i:Nat} (hi:i < es.length):v= .lit sz es:=by
 rcases h with⟨rfl,rfl⟩ | rfl
 ·simp at hi
 ·rfl
abbrev i64 (n:Int):PV:= .int .i64 n
abbrev pr (p:Int×Int):PV:= .agg [i64 p.1,i64 p.2]
abbrev Td (l:List (Int×Int)):List PV:=l.map pr
theorem Rb:deep=5+1:=rfl
theorem Ik {a b:Int} (h:a≠b):(a==b)=false:=by simp[h]
theorem Za {p:Prop} [Decidable p] (h:p):decide p=true:=by simp[h]
theorem mb {p:Prop} [Decidable p] (h:¬p):decide p=false:=by simp[h]
theorem Xn {l:List (Int×Int)} {i:Nat} (hi:i < l.length):(Td l)[i]? =some (pr l[i]):=by simp[Td,hi]
theorem Bb {i n:Nat} (hi:i < n) (hw:n≤maxLen):IntKind.i64.wrap ((i:Int)+1)=((i+1:Nat):Int):=Da (by unfold maxLen at hw;omega)
inductive iK (k:Nat) (v:AV):Option (Ex×St)→Prop
 |mk (s:St):s.env.get k=v→iK k v (some (.ret,s))
theorem qt {k:Nat} {v:AV} {s:St}:iK k v (some (.ret,s))=(s.env.get k=v):=
 propext ⟨fun h=>by cases h with | mk _ h=>exact h,fun h=> .mk s h⟩
theorem DH {k:Nat} {v:AV} {r:Option (Ex×St)} (h:iK k v r):∃ t,r=some (.ret,t)∧t.env.get k=v:=by
 cases h with | mk s h=>exact⟨s,rfl,h⟩
inductive eD (k:Nat):Option (Ex×St)→Prop
 |mk (e:Tr) (H:List aa):eD k (some (.exit k,⟨e,H⟩))
theorem gG {k i:Nat} {e:Tr} {H:List aa}:eD k (some (.exit i,⟨e,H⟩))=(i=k):=
 propext ⟨fun h=>by cases h;rfl,fun h=>by subst h;exact .mk e H⟩
theorem CG {k:Nat} {r:Option (Ex×St)} (h:eD k r):∃ e H,r=some (.exit k,⟨e,H⟩):=by
 cases h with | mk e H=>exact⟨e,H,rfl⟩
inductive CE (k:Nat) (v:AV) (j:Nat) (u:AV):Option (Ex×St)→Prop
 |mk (s:St):s.env.get k=v→s.env.get j=u→CE k v j u (some (.ret,s))
theorem qI {k j:Nat} {v u:AV} {s:St}:CE k v j u (some (.ret,s))=(s.env.get k=v∧s.env.get j=u):=
 propext ⟨fun h=>by cases h with | mk _ h h'=>exact⟨h,h'⟩,fun h=> .mk s h.1 h.2⟩
theorem tF {k j:Nat} {v u:AV} {r:Option (Ex×St)} (h:CE k v j u r):∃ t,r=some (.ret,t)∧t.env.get k=v∧t.env.get j=u:=by
 cases h with | mk s h h'=>exact⟨s,rfl,h,h'⟩
section To
variable (v:PV) (l:List (Int×Int)) (hv:Ah 2 v (Td l)) (hw:l.length * 16≤140737488355328)
abbrev Uu (v:PV) (len i:Int) (o:AV):Tr:=((((Tr.lf.set 11 (.pv (i64 i))).set 10 (.pv (i64 len))).set 9 (.pv v)).set 3 o)
include hv hw
theorem zB (i:Nat) (hi:i < l.length):
 Zb (za (fun _=>none) 8) [3,9,10,11] Ub 1 ⟨Uu v l.length i (.uq 0 false 2 (Td (l.take i))),[.tok 2 i false]⟩=
  some (.norm,⟨Uu v l.length (i+1:Nat) (.uq 0 false 2 (Td (l.take (i+1)))),[.tok 2 (i+1) false]⟩):=by
 have hv:=hv.lit (i:=i) (by simpa using hi)
 subst hv
 have e1:decide ((i:Int) < (l.length:Int))=true:=Za (by omega)
 have hq:Ca (i:Int) (Td l).length:=by unfold Ca;simp;omega
 have t1:((i:Int)).toNat=i:=by simp
 have t2:=Bb hi (by unfold maxLen;omega)
 have lt:(Td (l.take i)).length=i:=by simp;omega
 have q1:Cb (i+1) 16:=by unfold Cb;omega
 have hs:Td (l.take (i+1))=Td (l.take i)++[pr l[i]]:=by rw[List.take_succ_eq_append_getElem hi];simp only[Td,List.map_append,List.map_cons,List.map_nil]
 rw[hs]
 have hg:=Xn hi
 generalize Td (l.take i)=T at *
 subst lt
 generalize Td l=es at *
 simp -implicitDefEqProofs only[SP,SA,SQ,sevalprocAttr,Zb,fa,Ub,e1,eq_true hq,t1,t2,hg,eq_true q1,ma,fj,AV.cI,AV.Hs,xa,Qa,pa,Ha,AV.cut,Rb,Uu]
theorem xj:Gb [v]=some (.lit 2 (Td l)):=by
 have ls:=hv.len
 simp only[Td,List.length_map] at ls
 have hl:Eb (fa (ga (za (fun _=>none) 8) Ub) (xa 1 [3,9,10,11])) wa ⟨Uu v l.length 0 (.uq 0 false 2 []),[.tok 2 0 false]⟩=
  some (.exit 0,⟨(Uu v l.length l.length (.uq 0 false 2 (Td l))).set 12 (.pv (.bool false)),[.tok 2 l.length false]⟩):=by
  have key:=Gi (g:=Zb (za (fun _=>none) 8) [3,9,10,11] Ub 1)
   (fun i t=>t=⟨Uu v l.length i (.uq 0 false 2 (Td (l.take i))),[.tok 2 i false]⟩)
   (fun ex t=>ex= .exit 0∧t=⟨(Uu v l.length l.length (.uq 0 false 2 (Td l))).set 12 (.pv (.bool false)),[.tok 2 l.length false]⟩)
   wa l.length 0 _ (by unfold wa;omega) (by omega) rfl ?_ ?_
  ·obtain⟨ex,t,h,_,rfl,rfl⟩:=key;exact h
  ·rintro i hi t rfl
   exact .inl ⟨_,zB v l hv hw i hi,rfl⟩
  ·rintro t rfl
   refine⟨.exit 0,_,?_,rfl,rfl,rfl⟩
   have e1:decide ((l.length:Int) < (l.length:Int))=false:=mb (by omega)
   rw[List.take_length]
   simp -implicitDefEqProofs only[SP,SA,SQ,sevalprocAttr,Zb,fa,Ub,e1,Uu]
 have h1:decide ((0:Int)≤0)=true:=by decide
 have h2:(0:Int)≤(l.length:Int):=by omega
 have h3:Cb ((l.length:Int)).toNat 16:=by unfold Cb;simp;omega
 simp -implicitDefEqProofs only[Gb,SP,SA,SQ,sevalprocAttr,Ff,ls,Tc,xa,Qa,pa,Ha,AV.cut,Rb,Int.le_refl,eq_true h2,eq_true h3,Int.toNat_zero]
 simp only[Uu] at hl
 rw[hl]
 simp -implicitDefEqProofs only[SP,SA,SQ,sevalprocAttr]
end To
end Go.AM.B1
namespace Go.AM.B1
open Go.AM
def Ka (top:Int):Int→List (Int×Int)→Bool
 |_,[]=>true
 |last,p::r=> !(decide (p.1 < 0)||decide (p.1 > p.2)||decide (p.2 > top)||decide (p.1 - 1≤last))&&Ka top p.2 r
abbrev Fs (v:PV) (top len i last:Int):Tr:=(((((Tr.lf.set 10 (.pv (i64 i))).set 9 (.pv (i64 len))).set 8 (.pv v)).set 5 (.pv (i64 last))).set 1 (.pv (i64 top)))
section
variable (v:PV) (l:List (Int×Int)) (hv:Ah 2 v (Td l)) (hw:l.length≤maxLen) (top:Int) (ht:top≤9223372036854775807)
theorem xI (i:Nat) (hi:i < l.length) (hv:Ah 2 v (Td l)) (hw:l.length≤maxLen) (last:Int) (ht:top≤9223372036854775807) (c1:¬l[i].1 < 0) (c2:¬l[i].1 > l[i].2) (c3:¬l[i].2 > top) (c4:¬l[i].1 - 1≤last):
 Zb (za (fun _=>none) 8) [1,5,8,9,10] Ic 0 ⟨Fs v top l.length i last,[]⟩=some (.norm,⟨Fs v top l.length (i+1:Nat) l[i].2,[]⟩):=by
 have hv:=hv.lit (i:=i) (by simpa using hi)
 subst hv
 have e1:decide ((i:Int) < (l.length:Int))=true:=Za (by omega)
 have hq:Ca (i:Int) (Td l).length:=by unfold Ca;simp;omega
 have t1:((i:Int)).toNat=i:=by simp
 have t2:=Bb hi hw
 have t3:IntKind.i64.wrap (l[i].1 - 1)=l[i].1 - 1:=Da (by omega)
 have hg:=Xn hi
 have d1:=mb c1;have d2:=mb c2;have d3:=mb c3;have d4:=mb c4
 generalize Td l=es at *
 generalize l[i]=p at *
 simp -implicitDefEqProofs only[SP,SA,SQ,sevalprocAttr,Zb,fa,Ic,e1,eq_true hq,t1,t2,t3,hg,d1,d2,d3,d4,ma,xa,Qa,pa,Ha,AV.cut,Rb,Fs]
theorem pK (i:Nat) (hi:i < l.length) (hv:Ah 2 v (Td l)) (hw:l.length≤maxLen) (last:Int) (ht:top≤9223372036854775807) (hc:l[i].1 < 0∨l[i].1 > l[i].2∨l[i].2 > top∨l[i].1 - 1≤last):
 iK 4 (.pv (.bool false)) (Zb (za (fun _=>none) 8) [1,5,8,9,10] Ic 0 ⟨Fs v top l.length i last,[]⟩):=by
 have hv:=hv.lit (i:=i) (by simpa using hi)
 subst hv
 have e1:decide ((i:Int) < (l.length:Int))=true:=Za (by omega)
 have hq:Ca (i:Int) (Td l).length:=by unfold Ca;simp;omega
 have t1:((i:Int)).toNat=i:=by simp
 have hg:=Xn hi
 generalize Td l=es at *
 generalize l[i]=p at *
 by_cases c1:p.1 < 0
 ·have d1:=Za c1
  simp -implicitDefEqProofs only[SP,SA,SQ,sevalprocAttr,Zb,fa,Ic,e1,eq_true hq,t1,hg,d1,ma,Fs,qt]
 have d1:=mb c1
 by_cases c2:p.1 > p.2
 ·have d2:=Za c2
  simp -implicitDefEqProofs only[SP,SA,SQ,sevalprocAttr,Zb,fa,Ic,e1,eq_true hq,t1,hg,d1,d2,ma,Fs,qt]
 have d2:=mb c2
 by_cases c3:p.2 > top
 ·have d3:=Za c3
  simp -implicitDefEqProofs only[SP,SA,SQ,sevalprocAttr,Zb,fa,Ic,e1,eq_true hq,t1,hg,d1,d2,d3,ma,Fs,qt]
 have d3:=mb c3
 have c4:p.1 - 1≤last:=by rcases hc with h | h | h | h <;> first | exact h | omega
 have t3:IntKind.i64.wrap (p.1 - 1)=p.1 - 1:=Da (by omega)
 have d4:=Za c4
 simp -implicitDefEqProofs only[SP,SA,SQ,sevalprocAttr,Zb,fa,Ic,e1,eq_true hq,t1,t3,hg,d1,d2,d3,d4,ma,Fs,qt]
include hv hw ht
theorem Po:Ag [v,i64 top]=some (.bool (Ka top (-2) l)):=by
 have ls:=hv.len
 simp only[Td,List.length_map] at ls
 have key:=Gi (g:=Zb (za (fun _=>none) 8) [1,5,8,9,10] Ic 0)
  (fun i t=>∃ last,t=⟨Fs v top l.length i last,[]⟩∧Ka top (-2) l=Ka top last (l.drop i))
  (fun ex t=>(ex= .exit 0∧Ka top (-2) l=true∧∃ last,t=⟨(Fs v top l.length l.length last).set 11 (.pv (.bool false)),[]⟩)∨(ex= .ret∧Ka top (-2) l=false∧t.env.get 4= .pv (.bool false)))
  wa l.length 0 ⟨Fs v top l.length (0:Nat) (-2),[]⟩ (by unfold wa;unfold maxLen at hw;omega) (by omega) ⟨-2,rfl,rfl⟩ ?_ ?_
 ·have hl:Eb (fa (ga (za (fun _=>none) 8) Ic) (xa 0 [1,5,8,9,10])) wa ⟨Fs v top l.length 0 (-2),[]⟩=Eb (Zb (za (fun _=>none) 8) [1,5,8,9,10] Ic 0) wa ⟨Fs v top l.length (0:Nat) (-2),[]⟩:=rfl
  obtain⟨ex,t,h,_,hq⟩:=key
  rw[h] at hl
  simp only[Fs] at hl
  rcases hq with⟨rfl,hval,last,rfl⟩ | ⟨rfl,hval,hg⟩
  ·rw[hval]
   simp -implicitDefEqProofs only[Ag,SP,SA,SQ,sevalprocAttr,um,ls,Tc,xa,Qa,pa,Ha,AV.cut,Rb,hl,Fs]
  ·rw[hval]
   simp -implicitDefEqProofs only[Ag,SP,SA,SQ,sevalprocAttr,um,ls,Tc,xa,Qa,pa,Ha,AV.cut,Rb,hl,Fs,hg]
 ·rintro i hi t ⟨last,rfl,hval⟩
  have hd:l.drop i=l[i]::l.drop (i+1):=List.drop_eq_getElem_cons hi
  rw[hd,Ka] at hval
  by_cases hc:l[i].1 < 0∨l[i].1 > l[i].2∨l[i].2 > top∨l[i].1 - 1≤last
  ·obtain⟨t,h1,h2⟩:=DH (pK v l top i hi hv hw last ht hc)
   refine .inr ⟨.ret,t,h1,rfl,.inr ⟨rfl,?_,h2⟩⟩
   rw[hval]
   rcases hc with h | h | h | h <;> simp[h]
  ·have hc':¬l[i].1 < 0∧¬l[i].1 > l[i].2∧¬l[i].2 > top∧¬l[i].1 - 1≤last:=by
    refine⟨fun h=>hc (.inl h),fun h=>hc (.inr (.inl h)),fun h=>hc (.inr (.inr (.inl h))),fun h=>hc (.inr (.inr (.inr h)))⟩
   refine .inl ⟨_,xI v l top i hi hv hw last ht hc'.1 hc'.2.1 hc'.2.2.1 hc'.2.2.2,l[i].2,rfl,?_⟩
   rw[hval,mb hc'.1,mb hc'.2.1,mb hc'.2.2.1,mb hc'.2.2.2]
   rfl
 ·rintro t ⟨last,rfl,hval⟩
  refine⟨.exit 0,_,?_,rfl,.inl ⟨rfl,?_,last,rfl⟩⟩
  ·have e1:decide ((l.length:Int) < (l.length:Int))=false:=mb (by omega)
   simp -implicitDefEqProofs only[SP,SA,SQ,sevalprocAttr,Zb,fa,Ic,e1,Fs]
  ·rw[hval,List.drop_length];rfl
end
end Go.AM.B1
namespace Go.AM.B1
open Go.AM
def me (x:Int):Int→List (Int×Int)→Int×Bool
 |_,[]=>(0,false)
 |n,p::r=>if x < p.1 then (0,false) else if x≤p.2 then (n+x - p.1,true) else me x (n+(p.2 - p.1+1)) r
abbrev Ot (v:PV) (x len i n:Int):Tr:=(((((Tr.lf.set 11 (.pv (i64 i))).set 10 (.pv (i64 len))).set 9 (.pv v)).set 6 (.pv (i64 n))).set 1 (.pv (i64 x)))
section
variable (v:PV) (l:List (Int×Int)) (hv:Ah 2 v (Td l)) (hw:l.length≤maxLen) (x n:Int)
theorem aP (i:Nat) (hi:i < l.length) (hv:Ah 2 v (Td l)) (c:x < l[i].1):
 eD 0 (Zb (za (fun _=>none) 8) [1,6,9,10,11] Cd 0 ⟨Ot v x l.length i n,[]⟩):=by
 have hv:=hv.lit (i:=i) (by simpa using hi)
 subst hv
 have e1:decide ((i:Int) < (l.length:Int))=true:=Za (by omega)
 have hq:Ca (i:Int) (Td l).length:=by unfold Ca;simp;omega
 have t1:((i:Int)).toNat=i:=by simp
 have hg:=Xn hi
 have d1:=Za c
 generalize Td l=es at *
 generalize l[i]=p at *
 simp -implicitDefEqProofs only[SP,SA,SQ,sevalprocAttr,Zb,fa,Cd,e1,eq_true hq,t1,hg,d1,ma,Ot,gG]
theorem vQ (i:Nat) (hi:i < l.length) (hv:Ah 2 v (Td l)) (c:¬x < l[i].1) (c2:x≤l[i].2) (hb:0≤l[i].1∧l[i].2≤4611686018427387904∧0≤n∧n≤4611686018427387903):
 CE 4 (.pv (i64 (n+x - l[i].1))) 5 (.pv (.bool true)) (Zb (za (fun _=>none) 8) [1,6,9,10,11] Cd 0 ⟨Ot v x l.length i n,[]⟩):=by
 have hv:=hv.lit (i:=i) (by simpa using hi)
 subst hv
 have e1:decide ((i:Int) < (l.length:Int))=true:=Za (by omega)
 have hq:Ca (i:Int) (Td l).length:=by unfold Ca;simp;omega
 have t1:((i:Int)).toNat=i:=by simp
 have hg:=Xn hi
 have d1:=mb c
 have d2:=Za c2
 have t3:IntKind.i64.wrap (n+x)=n+x:=Da (by omega)
 have t4:IntKind.i64.wrap (n+x - l[i].1)=n+x - l[i].1:=Da (by omega)
 generalize Td l=es at *
 generalize l[i]=p at *
 simp -implicitDefEqProofs only[SP,SA,SQ,sevalprocAttr,Zb,fa,Cd,e1,eq_true hq,t1,t3,t4,hg,d1,d2,ma,Ot,qI]
theorem JQ (i:Nat) (hi:i < l.length) (hv:Ah 2 v (Td l)) (hw:l.length≤maxLen) (c:¬x < l[i].1) (c2:¬x≤l[i].2) (hb:0≤l[i].1∧l[i].1≤l[i].2∧l[i].2≤4611686018427387902∧0≤n∧n≤l[i].1):
 Zb (za (fun _=>none) 8) [1,6,9,10,11] Cd 0 ⟨Ot v x l.length i n,[]⟩=some (.norm,⟨Ot v x l.length (i+1:Nat) (n+(l[i].2 - l[i].1+1)),[]⟩):=by
 have hv:=hv.lit (i:=i) (by simpa using hi)
 subst hv
 have e1:decide ((i:Int) < (l.length:Int))=true:=Za (by omega)
 have hq:Ca (i:Int) (Td l).length:=by unfold Ca;simp;omega
 have t1:((i:Int)).toNat=i:=by simp
 have t2:=Bb hi hw
 have hg:=Xn hi
 have d1:=mb c
 have d2:=mb c2
 have t3:IntKind.i64.wrap (l[i].2 - l[i].1)=l[i].2 - l[i].1:=Da (by omega)
 have t4:IntKind.i64.wrap (l[i].2 - l[i].1+1)=l[i].2 - l[i].1+1:=Da (by omega)
 have t5:IntKind.i64.wrap (n+(l[i].2 - l[i].1+1))=n+(l[i].2 - l[i].1+1):=Da (by omega)
 generalize Td l=es at *
 generalize l[i]=p at *
 simp -implicitDefEqProofs only[SP,SA,SQ,sevalprocAttr,Zb,fa,Cd,e1,eq_true hq,t1,t2,t3,t4,t5,hg,d1,d2,ma,xa,Qa,pa,Ha,AV.cut,Rb,Ot]
theorem Zc {top last:Int} {p:Int×Int} {r:List (Int×Int)} (h:Ka top last (p::r)=true):¬p.1 < 0∧¬p.1 > p.2∧¬p.2 > top∧¬p.1 - 1≤last∧Ka top p.2 r=true:=by
 simp only[Ka,Bool.and_eq_true,Bool.not_eq_true',Bool.or_eq_false_iff,decide_eq_false_iff_not] at h
 exact⟨h.1.1.1.1,h.1.1.1.2,h.1.1.2,h.1.2,h.2⟩
include hv hw
theorem nB {top:Int} (ht:top≤4611686018427387900) (hval:Ka top (-2) l=true):Gl [v,i64 x]=some (.bc [i64 (me x 0 l).1,.bool (me x 0 l).2]):=by
 have ls:=hv.len
 simp only[Td,List.length_map] at ls
 have key:=Gi (g:=Zb (za (fun _=>none) 8) [1,6,9,10,11] Cd 0)
  (fun i t=>∃ n last,t=⟨Ot v x l.length i n,[]⟩∧me x 0 l=me x n (l.drop i)∧Ka top last (l.drop i)=true∧0≤n∧n≤max 0 (last+1)∧last≤top)
  (fun ex t=>(ex= .exit 0∧me x 0 l=(0,false))∨(ex= .ret∧∃ r,me x 0 l=(r,true)∧t.env.get 4= .pv (i64 r)∧t.env.get 5= .pv (.bool true)))
  wa l.length 0 ⟨Ot v x l.length (0:Nat) 0,[]⟩ (by unfold wa;unfold maxLen at hw;omega) (by omega) ?_ ?_ ?_
 ·have hl:Eb (fa (ga (za (fun _=>none) 8) Cd) (xa 0 [1,6,9,10,11])) wa ⟨Ot v x l.length 0 0,[]⟩=Eb (Zb (za (fun _=>none) 8) [1,6,9,10,11] Cd 0) wa ⟨Ot v x l.length (0:Nat) 0,[]⟩:=rfl
  obtain⟨ex,⟨e,H⟩,h,_,hq⟩:=key
  rw[h] at hl
  simp only[Ot] at hl
  rcases hq with⟨rfl,hr⟩ | ⟨rfl,r,hr,g4,g5⟩
  ·rw[hr]
   simp -implicitDefEqProofs only[Gl,SP,SA,SQ,sevalprocAttr,Pn,ls,Tc,xa,Qa,pa,Ha,AV.cut,Rb,hl,Ot]
  ·rw[hr]
   simp only at g4 g5
   simp -implicitDefEqProofs only[Gl,SP,SA,SQ,sevalprocAttr,Pn,ls,Tc,xa,Qa,pa,Ha,AV.cut,Rb,hl,Ot,g4,g5]
 ·refine⟨0,min (-2) top,rfl,rfl,?_,by omega,by omega,by omega⟩
  have mono:∀ {a b:Int} {r:List (Int×Int)},a≤b→Ka top b r=true→Ka top a r=true:=by
   intro a b r hab h
   cases r with
   |nil=>rfl
   |cons p r=>
    obtain⟨h1,h2,h3,h4,h5⟩:=Zc h
    simp only[Ka,h5,Bool.and_true,Bool.not_eq_true',Bool.or_eq_false_iff,decide_eq_false_iff_not]
    exact⟨⟨⟨h1,h2⟩,h3⟩,by omega⟩
  exact mono (by omega) hval
 ·rintro i hi t ⟨n,last,rfl,hr,hva,hn0,hn1,hlast⟩
  have hd:l.drop i=l[i]::l.drop (i+1):=List.drop_eq_getElem_cons hi
  rw[hd] at hr hva
  obtain⟨h1,h2,h3,h4,h5⟩:=Zc hva
  rw[me] at hr
  by_cases c:x < l[i].1
  ·obtain⟨e,H,hx⟩:=CG (aP v l x n i hi hv c)
   rw[if_pos c] at hr
   exact .inr ⟨.exit 0,⟨e,H⟩,hx,rfl,.inl ⟨rfl,hr⟩⟩
  by_cases c2:x≤l[i].2
  ·obtain⟨t,hx,g4,g5⟩:=tF (vQ v l x n i hi hv c c2 (by omega))
   rw[if_neg c,if_pos c2] at hr
   exact .inr ⟨.ret,t,hx,rfl,.inr ⟨rfl,_,hr,g4,g5⟩⟩
  ·rw[if_neg c,if_neg c2] at hr
   exact .inl ⟨_,JQ v l x n i hi hv hw c c2 (by omega),_,l[i].2,rfl,hr,h5,by omega,by omega,by omega⟩
 ·rintro t ⟨n,last,rfl,hr,_⟩
  refine⟨.exit 0,⟨(Ot v x l.length l.length n).set 12 (.pv (.bool false)),[]⟩,?_,rfl,.inl ⟨rfl,?_⟩⟩
  ·have e1:decide ((l.length:Int) < (l.length:Int))=false:=mb (by omega)
   simp -implicitDefEqProofs only[SP,SA,SQ,sevalprocAttr,Zb,fa,Cd,e1,Ot]
  ·rw[hr,List.drop_length];rfl
end
def yu (l:List (Int×Int)):List (Int×Int):=if Ka 255 (-2) l then l else []
theorem He (H:List aa) (d:Nat) (p:PV):Ab H d (.pv p)=some p:=by cases d <;> rfl
theorem BH (l:List (Int×Int)):Ka 255 (-2) (yu l)=true:=by
 unfold yu
 cases hb:Ka 255 (-2) l with
 |true=>exact hb
 |false=>rfl
theorem CN (l:List (Int×Int)):(yu l).length≤l.length:=by
 unfold yu
 split <;> simp
section
variable (v:PV) (l:List (Int×Int)) (hv:Ah 2 v (Td l)) (hw:l.length * 16≤140737488355328)
include hv hw
theorem Ay:Vk [v]=some (.bool (Ka 255 (-2) l)):=by
 have h1:=xj v l hv hw
 have h2:=Po (.lit 2 (Td l)) l (.inr rfl) (by unfold maxLen;omega) 255 (by decide)
 simp -implicitDefEqProofs only[Vk,SP,SA,SQ,sevalprocAttr,Ko,He,Rb,h1,h2]
theorem qu:∃ u,ef [v]=some u∧Ah 2 u (Td (yu l)):=by
 have h1:=xj v l hv hw
 have h2:=Po (.lit 2 (Td l)) l (.inr rfl) (by unfold maxLen;omega) 255 (by decide)
 unfold yu
 cases hb:Ka 255 (-2) l with
 |true=>
  rw[hb] at h2
  refine⟨.lit 2 (Td l),?_,.inr rfl⟩
  simp -implicitDefEqProofs only[ef,SP,SA,SQ,sevalprocAttr,yl,He,Rb,h1,h2]
 |false=>
  rw[hb] at h2
  refine⟨.qa,?_,.inl ⟨rfl,rfl⟩⟩
  simp -implicitDefEqProofs only[ef,SP,SA,SQ,sevalprocAttr,yl,He,Rb,h1,h2]
theorem Dr (x:Int):gk [v,i64 x]=some (.bc [i64 (me x 0 (yu l)).1,.bool (me x 0 (yu l)).2]):=by
 obtain⟨u,h1,h2⟩:=qu v l hv hw
 have h3:=nB u (yu l) h2 (by have:=CN l;unfold maxLen;omega) x (top:=255) (by decide) (BH l)
 simp -implicitDefEqProofs only[gk,SP,SA,SQ,sevalprocAttr,zq,He,Rb,h1,h3]
theorem oB (x:Int):Ss [v,i64 x]=some (.bool (me x 0 (yu l)).2):=by
 have h3:=Dr v l hv hw x
 simp -implicitDefEqProofs only[Ss,SP,SA,SQ,sevalprocAttr,ct,He,Rb,h3]
end
end Go.AM.B1
namespace Go.AM.B1
open Go.AM
theorem _root_.Go.AM.Ga.weaken {P:Program} {f:FuncId} {F G:List PV→Option PV} (h:Ga P f G) (hF:∀ xs r,F xs=some r→G xs=some r):Ga P f F:=
 ⟨h.1,fun w R args vs r hR hl hr=>h.2 w R args vs r hR hl (hF _ _ hr)⟩
def Vv:PV→Option (Int×Int)
 | .agg [.int .i64 a,.int .i64 b]=>some (a,b)
 |_=>none
def Zu:PV→Option (List (Int×Int))
 | .qa=>some []
 | .lit 2 es=>Va Vv es
 |_=>none
theorem QH {v:PV} {p:Int×Int} (h:Vv v=some p):v=pr p:=by
 unfold Vv at h
 split at h
 ·injection h with h;subst h;rfl
 ·cases h
theorem DD {v:PV} {l:List (Int×Int)} (h:Zu v=some l):Ah 2 v (Td l):=by
 unfold Zu at h
 split at h
 ·injection h with h;subst h;exact .inl ⟨rfl,rfl⟩
 ·rename_i es
  refine .inr ?_
  congr 1
  induction es generalizing l with
  |nil=>simp only[Va,Option.some.injEq] at h;subst h;rfl
  |cons e es ih=>
   simp only[Va,Option.bind_eq_some_iff,Option.some.injEq] at h
   obtain⟨p,h1,r,h2,rfl⟩:=h
   rw[ih h2,QH h1]
   rfl
 ·cases h
def Hi:List PV→Option PV
 | [v,.int .i64 x]=>(Zu v).bind fun l=>if l.length * 16≤140737488355328 then some (.bool (me x 0 (yu l)).2) else none
 |_=>none
theorem JG:Ga P 149 Hi:=RG.weaken fun xs r h=>by
 unfold Hi at h
 split at h
 ·rename_i v x
  simp only[Option.bind_eq_some_iff] at h
  obtain⟨l,h1,h2⟩:=h
  split at h2
  ·rename_i hw
   injection h2 with h2
   rw[oB v l (DD h1) hw x,←h2]
  ·cases h2
 ·cases h
end Go.AM.B1
namespace Go.Proofs
open Go.Shelf Go.RowKit Go.Lib Go.Sort
shelf_lay_g SlLaysF0.n6 Slsf 6 at Tryz 146 as Tryz.sortRun
shelf_lay_g SlLaysC2.n5 Slgc 5 at Tryz 69 as Tryz.cmpInt
theorem aK (r:List Int):∃ a b:Int,AM.encI 2 r=[.int .i64 a,.int .i64 b]∧AM.Kr 2 0 r=a:=by
 unfold AM.encI AM.Kr
 by_cases h:r.length=2
 ·match r,h with
  | [a,b],_=>exact⟨a,b,rfl,rfl⟩
 ·rw[if_neg h,if_neg h];exact⟨0,0,rfl,rfl⟩
set_option maxHeartbeats 1000000 in
theorem XQ (a b c d:Int) (W:World):Calls Tryz.prog 147 #[.agg #[.int .i64 a,.int .i64 b],.agg #[.int .i64 c,.int .i64 d]] W fun e w'=>e= .returned (.int .i64 (Lib.compareInt a c))∧∃ q os',w'=grow (W.drewN q) os':=by
 have hcon:=fun W'=>AnyG.cmp_Compare_int Tryz.cmpInt a c W'
 change ∀ W',Calls Tryz.prog 69 _ _ _ at hcon
 generalize Lib.compareInt a c=r at hcon ⊢
 go_enter Tryz.func147,Tryz.ntmps147
 go_wp2_with (go_at_call 69;refine (hcon _).mono ?_;rintro e w' ⟨rfl,rfl⟩)
 go_ret
 exact⟨rfl,0,_,by rw[alloc_eq_grow,alloc_eq_grow,grow_grow];rfl⟩
theorem BN:AM.bJ Tryz.prog 146 147 2 0 where
 call:=⟨_,_,Tryz.func146,rfl,by kernel_rfl⟩
 many:=by
  intro blk ofs cap D w hH hb hs
  refine AnyQ.slices_SortFunc_eq Tryz.sortRun 2 Tryz.isAgg244 Tryz.sizeOf244 (AM.encI 2) (fun x=>by obtain⟨a,b,h,_⟩:=aK x;rw[h];rfl) (fun x v hv=>by
   obtain⟨a,b,h,_⟩:=aK x
   rw[h] at hv
   simp at hv
   rcases hv with rfl | rfl <;> rfl) (AM.ER 2 0) (AM.OR 2 0) 147 #[] blk ofs cap D w (enters_of Tryz.func147 (by kernel_rfl) rfl) (fun m os dk _ x y=> ?_) hH hb hs
  obtain⟨a,b,h1,h2⟩:=aK x
  obtain⟨c,d,h3,h4⟩:=aK y
  rw[h1,h3]
  unfold AM.ER
  rw[h2,h4]
  exact XQ a b c d _
 none:=fun p cap w=>AnyF.slices_SortFunc_none Tryz.sortRun p cap _ w
end Go.Proofs
namespace Go.AM.B1
open Go.AM
def dg:Ia:=(jQ [jB 12 .lss 11 10] (.seq (jX 12 0) (.seq (.block 1 (jQ [ji 13 2 9 11,jL 14 2 13,Co 5 (.alloc [(.int .i64 0),(.int .i64 0)]),jS 2 5 14] (.seq (jQ [Cv 15 3,jn 16 0 15,Cv 6 16] (jQ [Cv 17 6,jK 18 .gtr 17 0,Cv 19 18,jT 20 19 (.kf 0 5),jT 21 19 (.kl 1 20),jT 22 19 (.km 3),jT 23 19 (.km 6),jT 24 19 (.kK .sub 23 1),jT 25 19 (.ki 2 22 24),jT 26 19 (.kf 1 25),jT 27 19 (.kl 1 26),jT 28 19 (.kK .add 27 1),jT 29 19 (.kB .leq 21 28),ja 30 19 29] (jC 30 (jQ [Cv 31 3,Cv 32 6,jK 33 .sub 32 1,Cv 34 3,Cv 35 6,jK 36 .sub 35 1,ji 37 2 34 36,jf 38 1 37,jl 39 1 38,jf 40 1 5,jl 41 1 40,Co 42 (.mx [(.t 39),(.t 41)]),ji 43 2 31 33,jf 44 1 43,jS 1 44 42] (.exit 1)) .skip))) (.region [Cv 45 3,jL 46 2 5,Co 47 (.Hb .lit 2 true 1 [(.int .i64 0),(.int .i64 0)] [(0,(.t 46))]),Co 48 (.append true .own 2 true 16 (.t 45) (.t 47)),Cv 3 48])))) (.region [jK 49 .add 11 1,Cv 11 49]))))
def Fl:re:=⟨1,[.tmp 2],(jQ [jc 2 .qa] (jQ [Cv 7 0,Co 8 (.Bd 22 [(.t 7),(.f 23)])] (jQ [jc 3 .qa] (.ghost (.gK 3 2 true) (.seq (jQ [Cv 9 0,jn 10 0 9,jk 11 0] (.block 0 (.loop [3,9,10,11] dg))) (jr [Cv 50 3,Cv 2 50]))))))⟩
theorem vE:zc P fo 113 Fl:=fM Go.Proofs.Tryz.func113 dN
def Tb:Ia:=(jQ [jB 12 .lss 11 10] (.seq (jX 12 0) (.seq (.block 1 (jQ [ji 13 2 9 11,jL 14 2 13,Co 5 (.alloc [(.int .i64 0),(.int .i64 0)]),jS 2 5 14] (.region [Cv 15 3,jL 16 2 5,Co 17 (.Hb .lit 2 true 1 [(.int .i64 0),(.int .i64 0)] [(0,(.t 16))]),Co 18 (.append true .own 2 true 16 (.t 15) (.t 17)),Cv 3 18]))) (.region [jK 19 .add 11 1,Cv 11 19]))))
def uc:re:=⟨1,[.tmp 2],(jQ [jc 2 .qa] (jQ [Cv 6 0,jn 7 0 6,Co 8 (.ye .own 2 true [(.int .i64 0),(.int .i64 0)] 16 (.c (.int .i64 0)) (.t 7)),Cv 3 8] (.seq (jQ [Cv 9 0,jn 10 0 9,jk 11 0] (.block 0 (.loop [3,9,10,11] Tb))) (jr [Cv 20 3,Cv 2 20]))))⟩
theorem Ij:zc P fo 145 uc:=fM Go.Proofs.Tryz.func145 dN
def yg:re:=⟨1,[.tmp 2],(jQ [jc 2 .qa] (jQ [Cv 4 0,Co 5 (.Bd 0 [(.t 4)]),Cv 3 5] (.seq (jQ [Cv 6 3,Co 7 (.Gj Ag [(.t 6),(.c (.int .i64 1073741823))]),jt 8 7] (jC 8 (jr [jc 2 .qa]) .skip)) (jr [Cv 9 3,Cv 2 9]))))⟩
theorem wu:zc P fo 112 yg:=fM Go.Proofs.Tryz.func112 (dC zm dN)
def Vb:Ia:=(jQ [jB 12 .lss 11 10] (.seq (jX 12 0) (.seq (.block 1 (jQ [ji 13 2 9 11,jL 14 2 13,Co 5 (.alloc [(.int .i64 0),(.int .i64 0)]),jS 2 5 14] (.region [Cv 15 3,jL 16 2 5,Co 17 (.Hb .lit 2 true 1 [(.int .i64 0),(.int .i64 0)] [(0,(.t 16))]),Co 18 (.ku 2 true 16 15 17),Cv 3 18]))) (.region [jK 19 .add 11 1,Cv 11 19]))))
def Ac:re:=⟨1,[.tmp 2],(jQ [jc 2 .qa] (jQ [Cv 6 0,jn 7 0 6,Co 8 (.ye .uq 2 true [(.int .i64 0),(.int .i64 0)] 16 (.c (.int .i64 0)) (.t 7)),Cv 3 8] (.seq (jQ [Cv 9 0,jn 10 0 9,jk 11 0] (.block 0 (.loop [3,9,10,11] Vb))) (jr [Cv 20 3,Cv 2 20]))))⟩
theorem Xj:zc P fo 144 Ac:=fM Go.Proofs.Tryz.func144 dN
def Zh:re:=⟨1,[.tmp 2],(jQ [jc 2 .qa] (jr [Cv 3 0,Co 4 (.Bd 2 [(.t 3)]),Cv 2 4]))⟩
theorem Pu:zc P fo 110 Zh:=fM Go.Proofs.Tryz.func110 dN
def gm:re:=⟨2,[.tmp 4],(jQ [jc 4 .qa] (jr [Cv 5 0,Co 6 (.Bd 1 [(.t 5)]),Cv 7 1,Co 8 (.Bd 1 [(.t 7)]),Co 9 (.append true .own 2 true 16 (.t 6) (.t 8)),Co 10 (.Bd 24 [(.t 9)]),Co 11 (.Bd 3 [(.t 10)]),Cv 4 11]))⟩
theorem fx:zc P fo 81 gm:=fM Go.Proofs.Tryz.func81 dN
def db:Nat→Option re
 |24=>some Fl
 |0=>some uc
 |1=>some yg
 |2=>some Ac
 |3=>some Zh
 |_=>none
theorem Av:Xh P fo db:=by
 intro ix af h
 unfold db at h
 split at h
 ·injection h with h;subst h;exact vE
 ·injection h with h;subst h;exact Ij
 ·injection h with h;subst h;exact wu
 ·injection h with h;subst h;exact Xj
 ·injection h with h;subst h;exact Pu
 ·cases h
def Th:Fa:=fun ix args H=>if ix=22 then Iv 2 0 23 args H else none
theorem zL (B0:se):cn P fo B0 Th:=kG (s:=22) (g:=23) Go.Proofs.BN B0
def rj:=eG Th db gm
theorem Py:Ga P 81 rj:=MF Av zL fx
def ib:Ia:=(jQ [jB 15 .lss 14 13] (.seq (jX 15 0) (.seq (.block 1 (jQ [ji 16 2 12 14,jL 17 2 16,Co 5 (.alloc [.qa,(.int .i64 0)]),jS 2 5 17] (.seq (jQ [jf 18 0 5,jl 19 1 18,jn 20 0 19,jK 21 .lss 20 1,Cv 22 21,jF 23 22 (.kf 0 5),jF 24 22 (.kl 1 23),jF 25 22 (.kn 0 24),jF 26 22 (.kK .gtr 25 8),jo 27 22 26,Cv 28 27,jF 29 28 (.kf 1 5),jF 30 28 (.kl 1 29),jF 31 28 (.kK .lss 30 0),jo 32 28 31,Cv 33 32,jF 34 33 (.kf 1 5),jF 35 33 (.kl 1 34),jF 36 33 (.kK .gtr 35 1073741823),jo 37 33 36,Cv 38 37,jF 39 38 (.kf 0 5),jF 40 38 (.kl 1 39),jF 41 38 (.Bd 6 [(.t 40),(.f 7)]),jo 42 38 41] (jC 42 (jr [jb 2 false]) .skip)) (jQ [jf 43 1 5,jl 44 1 43,jL 45 2 5,jp 46 al 45,Co 47 (.build [(.int .i64 0),(.int .i64 0)] [(0,1,(.t 44)),(1,1,(.t 46))]),Co 48 (.Hb .lit 2 true 1 [(.int .i64 0),(.int .i64 0)] [(0,(.t 47))]),Cv 6 48] (.seq (jQ [Cv 49 6,Co 50 (.kj 2 49 0),jf 51 1 50,jl 52 1 51,jK 53 .gtr 52 1073741823,Cv 54 53,jF 55 54 (.km 3),jF 56 54 (.km 6),jF 57 54 (.kq Mj 55 56),jF 58 54 (.kn 0 57),jF 59 54 (.kK .gtr 58 0),jo 60 54 59] (jC 60 (jr [jb 2 false]) .skip)) (.region [Cv 61 3,Cv 62 6,jq 63 rj 61 62,Cv 3 63])))))) (.region [jK 64 .add 14 1,Cv 14 64]))))
def Ai:re:=⟨1,[.tmp 2],(jQ [jR 1 1 0,jb 2 false] (.seq (jQ [Jf 7 0 1,Jl 8 1 7,jn 9 0 8,jK 10 .gtr 9 32] (jC 10 (jr [jb 2 false]) .skip)) (jQ [jc 3 .qa] (.seq (jQ [Jf 11 0 1,Jl 12 1 11,jn 13 0 12,jk 14 0] (.block 0 (.loop [3,12,13,14] ib))) (jr [jb 2 true])))))⟩
theorem Ny:zc P fo 51 Ai:=fM Go.Proofs.Tryz.func51 (dC wB (dC Hz (dC Py dN)))
def Fb:Nat→Option re
 |5=>some Qb
 |6=>some fb
 |7=>some Hh
 |_=>none
theorem cx:Xh P fo Fb:=by
 intro ix af h
 unfold Fb at h
 split at h
 ·injection h with h;subst h;exact Li
 ·injection h with h;subst h;exact Rh
 ·injection h with h;subst h;exact iz
 ·cases h
def Ee:=fc Fb Ai
theorem Jr:Ga P 51 Ee:=Na cx Ny
def vo:re:=⟨1,[.tmp 2],(jQ [jR 1 2 0,jb 2 false] (jr [JL 3 2 1,Co 4 (.Hb .lit 2 true 1 [.qa,(.int .i64 0)] [(0,(.t 3))]),Co 5 (.build [.qa] [(0,1,(.t 4))]),jp 6 Ee 5,Cv 2 6]))⟩
theorem MA:zc P fo 83 vo:=fM Go.Proofs.Tryz.func83 (dC Jr dN)
def Rg:=fc (fun _=>none) vo
theorem Xk:Ga P 83 Rg:=Na Lb MA
def Ge:Ia:=(jQ [jB 36 .lss 35 34] (.seq (jX 36 0) (.seq (.block 1 (jQ [Cv 37 35,Cv 9 37] (jQ [Jf 38 0 3,Jl 39 1 38,Cv 40 9,Ji 41 1 39 40,Jl 42 1 41,Jf 43 0 4,Jl 44 1 43,Cv 45 9,Ji 46 1 44 45,Jl 47 1 46,jq 48 tm 42 47,Cv 10 48] (.seq (jQ [Cv 49 10,jn 50 0 49,jK 51 .eql 50 0] (jC 51 (jr [jc 6 .qa,jb 7 false]) .skip)) (.region [Cv 52 8,Cv 53 10,Co 54 (.kj 2 53 0),jf 55 0 54,jl 56 1 55,Co 57 (.conv .u8 (.t 56)),Co 58 (.Hb .lit 1 false 1 [(.int .u8 0)] [(0,(.t 57))]),Co 59 (.ku 1 false 1 52 58),Cv 8 59]))))) (.region [jK 60 .add 35 1,Cv 35 60]))))
def ri:re:=⟨3,[.tmp 6,.tmp 7],(jQ [jR 3 2 0,jR 4 2 1,jc 6 .qa,jb 7 false] (.seq (jQ [JL 11 2 3,jp 12 Rg 11,jt 13 12,Cv 14 13,JF 15 14 (.kL 2 4),jF 16 14 (.kp Rg 15),jF 17 14 (.kt 16),jo 18 14 17,Cv 19 18,jF 20 19 (.km 2),jF 21 19 (.kK .lss 20 0),jo 22 19 21,Cv 23 22,jF 24 23 (.km 2),JF 25 23 (.kf 0 3),JF 26 23 (.kl 1 25),jF 27 23 (.kn 0 26),JF 28 23 (.kf 0 4),JF 29 23 (.kl 1 28),jF 30 23 (.kn 0 29),jF 31 23 (.mn [(.t 27),(.t 30)]),jF 32 23 (.kB .gtr 24 31),jo 33 23 32] (jC 33 (jr [jc 6 .qa,jb 7 false]) .skip)) (jQ [jc 8 .qa] (.ghost (.NF 8 1) (.seq (jQ [Cv 34 2,jk 35 0] (.block 0 (.loop [3,4,8,34,35] Ge))) (jr [Cv 61 8,Cv 6 61,jb 7 true]))))))⟩
theorem Fy:zc P fo 122 ri:=fM Go.Proofs.Tryz.func122 (dC Xk (dC Xk (dC oD dN)))
def Zf:=fc (fun _=>none) ri
theorem bA:Ga P 122 Zf:=Na Lb Fy
def Uf:Ia:=(.seq (jQ [Cv 14 5,jK 15 .gtr 14 0] (jX 15 0)) (.seq (.block 1 (jQ [Cv 18 3,Cv 19 5,Cv 20 4,ji 21 1 18 19,jS 1 21 20] (.region [Cv 22 4,Jf 23 0 1,Jl 24 1 23,Cv 25 5,jK 26 .sub 25 1,ji 27 1 24 26,jl 28 1 27,jp 29 Vj 28,jB 30 .mul 22 29,Cv 4 30]))) (.region [Cv 16 5,jK 17 .sub 16 1,Cv 5 17])))
def eo:re:=⟨1,[.tmp 2],(jQ [jR 1 2 0,jc 2 .qa] (jQ [Jf 6 0 1,Jl 7 1 6,jn 8 0 7,jK 9 .add 8 1,Co 10 (.ye .own 1 false [(.int .i64 0)] 8 (.t 9) (.t 9)),Cv 3 10] (jQ [jk 4 1] (.seq (jQ [Jf 11 0 1,Jl 12 1 11,jn 13 0 12,Cv 5 13] (.block 0 (.loop [1,3,4,5] Uf))) (jQ [Cv 31 3,Cv 32 4,Co 33 (.kj 1 31 0),jS 1 33 32] (jr [Cv 34 3,Cv 2 34]))))))⟩
theorem iA:zc P fo 84 eo:=fM Go.Proofs.Tryz.func84 (dC jv dN)
def cj:=fc (fun _=>none) eo
theorem ju:Ga P 84 cj:=Na Lb iA
def yf:Ia:=(jQ [jB 27 .lss 26 25] (.seq (jX 27 0) (.seq (.block 1 (jQ [Cv 28 26,ji 29 1 24 26,jl 30 1 29,Cv 7 28,Cv 8 30] (jQ [Jf 32 0 2,Jl 33 1 32,Cv 34 7,Ji 35 1 33 34,Jl 36 1 35,Cv 37 1,Cv 38 7,Ji 39 1 37 38,Jl 40 1 39,Cp 41 (.conv .i64 (.t 40)),jq 42 gk 36 41,Cv 31 42,jx 43 0 31,jx 44 1 31,Cv 9 43,Cv 10 44] (.seq (jQ [Cv 45 10,jt 46 45] (jC 46 (jr [jk 4 0,jb 5 false]) .skip)) (.region [Cv 47 6,Cv 48 9,Cv 49 8,jB 50 .mul 48 49,jB 51 .add 47 50,Cv 6 51]))))) (.region [jK 52 .add 26 1,Cv 26 52]))))
def Nj:re:=⟨2,[.tmp 4,.tmp 5],(jQ [jR 2 2 0,jk 4 0,jb 5 false] (.seq (jQ [JL 11 2 2,jp 12 Rg 11,jt 13 12,Cv 14 13,jF 15 14 (.km 1),jF 16 14 (.kn 0 15),JF 17 14 (.kf 0 2),JF 18 14 (.kl 1 17),jF 19 14 (.kn 0 18),jF 20 14 (.kB .neq 16 19),jo 21 14 20] (jC 21 (jr [jk 4 0,jb 5 false]) .skip)) (jQ [jk 6 0] (.seq (jQ [JL 22 2 2,jp 23 cj 22,Co 24 (.slice 1 (.t 23) (some (.c (.int .i64 1))) none),jn 25 0 24,jk 26 0] (.block 0 (.loop [1,2,6,24,25,26] yf))) (jr [Cv 53 6,Cv 4 53,jb 5 true])))))⟩
theorem FB:zc P fo 53 Nj:=fM Go.Proofs.Tryz.func53 (dC Xk (dC ju (dC Xu dN)))
def Kg:=fc (fun _=>none) Nj
theorem PD:Ga P 53 Kg:=Na Lb FB
def Mf:Ia:=(jQ [jB 20 .lss 19 18] (.seq (jX 20 0) (.seq (.block 1 (jQ [ji 21 1 17 19,jl 22 1 21,Cv 7 22] (.region [Cv 23 5,Cv 24 7,Co 25 (.kj 2 24 0),jf 26 0 25,jl 27 1 26,Co 28 (.conv .u8 (.t 27)),Co 29 (.Hb .lit 1 false 1 [(.int .u8 0)] [(0,(.t 28))]),Co 30 (.ku 1 false 1 23 29),Cv 5 30]))) (.region [jK 31 .add 19 1,Cv 19 31]))))
def yo:re:=⟨2,[.tmp 4],(jQ [jR 2 2 0,jk 4 0] (jQ [Co 10 (.Hb .uq 1 false 0 [(.int .u8 0)] []),Cv 11 1,Co 12 (.ku 1 false 1 10 11),Cv 5 12] (.seq (jQ [Jf 13 0 2,Jl 14 1 13,Cv 15 1,jn 16 0 15,Co 17 (.slice 1 (.t 14) (some (.t 16)) none),jn 18 0 17,jk 19 0] (.block 0 (.loop [2,5,17,18,19] Mf))) (jQ [JL 33 2 2,Cv 34 5,jq 35 Kg 33 34,Cv 32 35,jx 36 0 32,jx 37 1 32,Cv 8 36,Cv 9 37] (jr [Jf 38 1 2,Jl 39 1 38,Cv 40 8,jB 41 .add 39 40,Cv 4 41])))))⟩
theorem UA:zc P fo 123 yo:=fM Go.Proofs.Tryz.func123 (dC PD dN)
def Ih:=fc (fun _=>none) yo
theorem ru:Ga P 123 Ih:=Na Lb UA
def Ae:Ia:=(jQ [jB 30 .lss 29 28] (.seq (jX 30 2) (.seq (.block 3 (jQ [Cv 31 29,ji 32 2 27 29,jL 33 2 32,Co 10 (.alloc [.qa,(.int .i64 0)]),Cv 9 31,jS 2 10 33] (.seq (jQ [Cv 34 1,Cv 35 7,Cv 36 9,Co 37 (.Px (.t 34) [(.t 35),(.t 36)]),jt 38 37] (jC 38 (.exit 3) .skip)) (jQ [jL 40 2 8,jL 41 2 10,jf 42 0 8,jl 43 1 42,jn 44 0 43,Co 45 (.kr Zf 40 41 44),Cv 39 45,jx 46 0 39,jx 47 1 39,Cv 11 46,Cv 12 47] (jQ [Cv 48 12] (jC 48 (jQ [jL 49 2 8,Cv 50 11,jq 51 Ih 49 50,jL 52 2 10,Cv 53 11,jq 54 Ih 52 53,Co 55 (.build [(.bool false),(.int .i64 0),(.int .i64 0)] [(1,1,(.t 51)),(2,1,(.t 54))]),jS 3 6 55] (.exit 0)) .skip)))))) (.region [jK 56 .add 29 1,Cv 29 56]))))
def Hg:Ia:=(jQ [jB 22 .lss 21 20] (.seq (jX 22 0) (.seq (.block 1 (jQ [Cv 23 21,ji 24 2 19 21,jL 25 2 24,Co 8 (.alloc [.qa,(.int .i64 0)]),Cv 7 23,jS 2 8 25] (jQ [Jf 26 0 2,Jl 27 1 26,jn 28 0 27,jk 29 0] (.block 2 (.loop [1,2,4,6,7,8,19,20,21,27,28,29] Ae))))) (.region [jK 57 .add 21 1,Cv 21 57]))))
def cf:re:=⟨2,[.cell 4 true 3,.tmp 5],(jQ [jR 2 1 0,Co 4 (.alloc [(.bool false),(.int .i64 0),(.int .i64 0)]),jk 5 0] (.scope (.seq (jQ [JL 13 1 2,jp 14 Ee 13,jt 15 14] (jC 15 (jr [Co 16 (.build [(.bool false),(.int .i64 0),(.int .i64 0)] []),jS 3 4 16,jk 5 84]) .skip)) (jQ [Co 17 (.build [(.bool false),(.int .i64 0),(.int .i64 0)] [(0,1,(.c (.bool true)))]),Co 6 (.alloc [(.bool false),(.int .i64 0),(.int .i64 0)]),jS 3 6 17] (.seq .skip (.seq (jQ [Jf 18 0 2,Jl 19 1 18,jn 20 0 19,jk 21 0] (.block 0 (.loop [1,2,4,6,19,20,21] Hg))) (jr [jL 58 3 6,jS 3 4 58,jk 5 0])))))))⟩
theorem gr:zc P fo 94 cf:=fM Go.Proofs.Tryz.func94 (dC Jr (dC bA (dC ru (dC ru dN))))
def Wj:re:=⟨1,[.cell 2 true 3,.tmp 3],(jQ [Co 1 (.box 1 (.t 0)),Co 2 (.alloc [(.bool false),(.int .i64 0),(.int .i64 0)]),jk 3 0] (jr [jL 4 1 1,Co 5 (.pD 4 [(.t 1)]),Co 6 (.Bd 25 [(.t 4),(.t 5)]),jx 7 0 6,jx 8 1 6,jS 3 2 7,Cv 3 8]))⟩
theorem xy:zc P fo 90 Wj:=fM Go.Proofs.Tryz.func90 dN
def ch:Nat→Option re
 |4=>some Nf
 |25=>some cf
 |_=>none
theorem Tw:Xh P fo ch:=by
 intro ix af h
 unfold ch at h
 split at h
 ·injection h with h;subst h;exact gv
 ·injection h with h;subst h;exact gr
 ·cases h
def Gd:=fc ch Wj
theorem Dz:Ga P 90 Gd:=Na Tw xy
def jd:re:=⟨1,[.tmp 2],(jQ [jc 2 .qa] (.seq (jQ [Cv 3 0,Co 4 (.eq 2 false (.t 3) (.c .qa))] (jC 4 (jr [jc 2 .qa]) .skip)) (jr [Co 5 (.Hb .uq 2 true 0 [(.int .i64 0),(.int .i64 0)] []),Cv 6 0,Co 7 (.ku 2 true 16 5 6),Cv 2 7])))⟩
theorem Jj:zc P fo 96 jd:=fM Go.Proofs.Tryz.func96 dN
def pc:=fc (fun _=>none) jd
theorem Pj:Ga P 96 pc:=Na Lb Jj
def Qf:Ia:=(jQ [jB 23 .lss 22 21] (.seq (jX 23 2) (.seq (.block 3 (jQ [ji 24 1 20 22,jl 25 1 24,Cv 8 25] (.region [jf 26 0 6,jl 27 1 26,Cv 28 8,jp 29 pc 28,Co 30 (.Hb .lit 1 false 1 [.qa] [(0,(.t 29))]),Co 31 (.ku 1 false 24 27 30),jf 32 0 6,jS 1 32 31]))) (.region [jK 33 .add 22 1,Cv 22 33]))))
def Sf:Ia:=(jQ [jB 13 .lss 12 11] (.seq (jX 13 0) (.seq (.block 1 (jQ [ji 14 2 10 12,jL 15 2 14,Co 5 (.alloc [.qa,(.int .i64 0)]),jS 2 5 15] (jQ [jf 16 1 5,jl 17 1 16,Co 18 (.build [.qa,(.int .i64 0)] [(1,1,(.t 17))]),Co 6 (.alloc [.qa,(.int .i64 0)]),jS 2 6 18] (.ghost (.sy 6 0 1) (.seq (jQ [jf 19 0 5,jl 20 1 19,jn 21 0 20,jk 22 0] (.block 2 (.loop [2,3,6,10,11,12,20,21,22] Qf))) (.region [jf 34 0 3,jl 35 1 34,jL 36 2 6,Co 37 (.Hb .lit 2 true 1 [.qa,(.int .i64 0)] [(0,(.t 36))]),Co 38 (.ku 2 true 32 35 37),jf 39 0 3,jS 1 39 38])))))) (.region [jK 40 .add 12 1,Cv 12 40]))))
def Zk:re:=⟨1,[.cell 2 true 1],(jQ [jR 1 1 0,Co 2 (.alloc [.qa])] (jQ [Co 3 (.alloc [.qa])] (.ghost (.sy 3 0 2) (.seq (jQ [Jf 9 0 1,Jl 10 1 9,jn 11 0 10,jk 12 0] (.block 0 (.loop [2,3,10,11,12] Sf))) (jr [jL 41 1 3,jS 1 2 41])))))⟩
theorem oA:zc P fo 64 Zk:=fM Go.Proofs.Tryz.func64 (dC Pj dN)
def Pg:=fc (fun _=>none) Zk
theorem mu:Ga P 64 Pg:=Na Lb oA
def Sc:re:=⟨2,[.tmp 4,.tmp 5],(jQ [jR 3 2 1,jk 4 0,jb 5 false] (jQ [Cv 9 0,jz 10 9,jf 11 1 10,jl 12 1 11,JL 13 2 3,Co 14 (.lookup (.row [1,1]) (.int .i64 0) true (.t 12) (.t 13)),Cv 8 14,jx 15 0 8,jx 16 1 8,Cv 6 15,Cv 7 16] (.seq (jQ [Cv 17 7,jt 18 17] (jC 18 (jQ [Cv 19 0,jz 20 19,jf 21 2 20,jl 22 1 21,jn 23 0 22,Cv 6 23] (.seq (jQ [Cv 24 6,jK 25 .eql 24 64] (jC 25 (jr [jk 4 0,jb 5 false]) .skip)) (jQ [Cv 26 0,jz 27 26,jf 28 1 27,jl 29 1 28,JL 30 2 3,Cv 31 6,Ce (.Jq (.row [1,1]) (.t 29) (.t 30) (.t 31))] (.region [Cv 32 0,Cv 33 0,jz 34 33,jf 35 2 34,jl 36 1 35,JL 37 2 3,Co 38 (.Hb .lit 2 true 1 [(.int .i64 0),(.int .u32 0)] [(0,(.t 37))]),Co 39 (.ku 2 true 16 36 38),jz 40 32,jf 41 2 40,jS 1 41 39])))) .skip)) (jr [Cv 42 6,Cv 4 42,jb 5 true]))))⟩
theorem Rt:zc P fo 119 Sc:=fM Go.Proofs.Tryz.func119 dN
def ab:Ia:=(jQ [jB 19 .lss 18 17] (.seq (jX 19 0) (.seq (.block 1 (jQ [Cv 20 18,ji 21 2 16 18,jL 22 2 21,Co 11 (.alloc [.qa,(.int .i64 0)]),Cv 10 20,jS 2 11 22] (jQ [Jf 23 1 4,Jl 24 1 23,Cv 25 10,jB 26 .shr 24 25,Co 27 (.bin .and (.t 26) (.c (.int .u32 1))),Co 28 (.bin .eql (.t 27) (.c (.int .u32 1))),Cv 29 28,jT 30 29 (.kf 0 11),jT 31 29 (.kl 1 30),JT 32 29 (.kf 0 4),JT 33 29 (.kl 1 32),jT 34 29 (.ki 1 31 33),jT 35 29 (.kl 1 34),jT 36 29 (.km 2),jT 37 29 (.kq Hi 35 36),ja 38 29 37] (jC 38 (jQ [Cv 39 8,Cv 40 10,Co 41 (.bin .shl (.c (.int .u32 1)) (.t 40)),jB 42 .or 39 41,Cv 8 42] (.region [Cv 43 9,Cv 44 43,jF 45 44 (.kf 0 11),jF 46 44 (.kl 1 45),jF 47 44 (.kn 0 46),JF 48 44 (.kf 0 4),JF 49 44 (.kl 1 48),jF 50 44 (.kK .add 49 1),jF 51 44 (.kB .eql 47 50),jo 52 44 51,Cv 9 52])) .skip)))) (.region [jK 53 .add 18 1,Cv 18 53]))))
def jg:re:=⟨3,[.tmp 6,.tmp 7],(jQ [jR 4 2 1,Co 6 (.move (.c (.int .u32 0))),jb 7 false] (jQ [Co 8 (.move (.c (.int .u32 0)))] (jQ [jb 9 false] (.seq (jQ [Cv 12 0,jz 13 12,jf 14 0 13,jf 15 0 14,jl 16 1 15,jn 17 0 16,jk 18 0] (.block 0 (.Ll [2,4,8,9,16,17,18] ab))) (jr [Cv 54 8,Cv 55 9,Cv 6 54,Cv 7 55])))))⟩
theorem Bq:zc P fo 120 jg:=fM Go.Proofs.Tryz.func120 (dC JG dN)
def ya:Ia:=(jQ [jK 31 .lss 30 256] (.seq (jX 31 2) (.seq (.block 3 (jQ [Cv 32 30,Cv 5 32] (jQ [Cv 34 0,Cv 35 0,jz 36 35,jf 37 2 36,jl 38 1 37,Cv 39 3,ji 40 2 38 39,jL 41 2 40,Cv 42 5,Co 43 (.Bd 27 [(.t 34),(.t 41),(.t 42)]),Cv 33 43,jx 44 0 33,jx 45 1 33,Cv 6 44,Cv 7 45] (.block 4 (jQ [Cv 68 6,Co 69 (.bin .eql (.t 68) (.c (.int .u32 0))),Cv 67 69] (jC 67 (.region [Cv 70 5,Co 71 (.kA 256 1 4 70),Ce (.store 1 (.t 71) (.c (.int .i64 (-2))))]) (jQ [Cv 73 7,Cv 72 73] (jC 72 (.region [Cv 74 5,Co 75 (.kA 256 1 4 74),Ce (.store 1 (.t 75) (.c (.int .i64 (-1))))]) (jQ [Cv 47 0,Cv 48 0,jz 49 48,jf 50 2 49,jl 51 1 50,Cv 52 3,ji 53 2 51 52,jf 54 0 53,jl 55 1 54,jK 56 .add 55 1,Cv 57 6,Co 58 (.build [(.int .i64 0),(.int .u32 0)] [(0,1,(.t 56)),(1,1,(.t 57))]),Co 59 (.Bd 26 [(.t 47),(.t 58)]),Cv 46 59,jx 60 0 46,jx 61 1 46,Cv 8 60,Cv 9 61] (.seq (jQ [Cv 62 9,jt 63 62] (jC 63 (jr [jb 2 false]) .skip)) (.region [Cv 64 5,Cv 65 8,Co 66 (.kA 256 1 4 64),jS 1 66 65]))))))))))) (.region [jK 76 .add 30 1,Cv 30 76]))))
def Ta:Ia:=(.seq (jQ [Cv 21 3,Cv 22 0,jz 23 22,jf 24 2 23,jl 25 1 24,jn 26 0 25,jB 27 .lss 21 26] (jX 27 0)) (.seq (.block 1 (jQ [Co 4 (.alloc (List.replicate 256 (.int .i64 0)))] (.seq (jQ [jk 30 0] (.block 2 (.loop [0,3,4,30] ya))) (.region [Cv 77 0,Cv 78 0,jz 79 78,jf 80 3 79,jl 81 1 80,jL 82 256 4,Co 83 (.Hb .lit 256 true 1 (List.replicate 256 (.int .i64 0)) [(0,(.t 82))]),Co 84 (.append true .own 256 true 2048 (.t 81) (.t 83)),jz 85 77,jf 86 3 85,jS 1 86 84])))) (.region [Cv 28 3,jK 29 .add 28 1,Cv 3 29])))
def Je:re:=⟨1,[.tmp 2],(jQ [jb 2 false] (jQ [Cv 10 0,Cv 11 0,jz 12 11,jf 13 0 12,jf 14 0 13,jl 15 1 14,jn 16 0 15,Co 17 (.bin .shl (.c (.int .u32 1)) (.t 16)),Co 18 (.bin .sub (.t 17) (.c (.int .u32 1))),Co 19 (.build [(.int .i64 0),(.int .u32 0)] [(1,1,(.t 18))]),Co 20 (.Bd 26 [(.t 10),(.t 19)])] (.seq (jQ [jk 3 0] (.block 0 (.loop [0,3] Ta))) (jr [jb 2 true]))))⟩
theorem Es:zc P fo 91 Je:=fM Go.Proofs.Tryz.func91 dN
end Go.AM.B1
