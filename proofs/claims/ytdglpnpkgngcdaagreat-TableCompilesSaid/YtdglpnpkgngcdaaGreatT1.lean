/- What functions of the program compute. -/
import Derived.Test.YtdglpnpkgngcdaaGreatE3
import Derived.Test.YtdglpnpkgngcdaaGreatProg
import Derived.Shelf.SlicesG.Cmp
import Derived.Shelf.Lay
import Derived.Ground.SlsfProg
import Derived.Ground.SlgcProg
set_option linter.unusedVariables false
namespace Go.AM.B1
open Go.AM
noncomputable abbrev P:Program:=Go.Proofs.Tryz.prog
def fo:Nat→FuncId
 |0=>171
 |1=>155
 |2=>170
 |3=>153
 |4=>128
 |5=>151
 |6=>122
 |7=>123
 |8=>181
 |9=>189
 |22=>172
 |23=>173
 |24=>156
 |25=>99
 |26=>129
 |27=>130
 |28=>96
 |29=>97
 |30=>98
 |31=>25
 |34=>68
 |35=>162
 |36=>69
 |37=>100
 |38=>135
 |39=>104
 |40=>113
 |41=>114
 |60=>34
 |61=>37
 |62=>85
 |63=>56
 |64=>38
 |65=>58
 |66=>40
 |67=>53
 |68=>54
 |69=>57
 |70=>26
 |72=>60
 |73=>24
 |74=>50
 |75=>47
 |76=>89
 |77=>119
 |78=>49
 |79=>44
 |130=>77
 |131=>80
 |132=>101
 |133=>20
 |134=>21
 |135=>23
 |136=>22
 |137=>79
 |138=>65
 |139=>15
 |140=>62
 |_=>0
theorem Sa:Ll P fo (fun _=>none):=fun ix af h=>by cases h
def Hc:Oa:=(jQ [jB 12 .lss 11 10] (.seq (jX 12 0) (.seq (.block 1 (jQ [ji 13 2 9 11,jL 14 2 13,Co 5 (.alloc [(.int .i64 0),(.int .i64 0)]),jS 2 5 14] (.region [Cv 15 3,jL 16 2 5,Co 17 (.Mb .lit 2 true 1 [(.int .i64 0),(.int .i64 0)] [(0,(.t 16))]),Co 18 (.ku 2 true 16 15 17),Cv 3 18]))) (.region [jK 19 .add 11 1,Cv 11 19]))))
def Ah:rf:=⟨1,[.tmp 2],(jQ [jc 2 .ma] (jQ [Cv 6 0,jn 7 0 6,Co 8 (.Zg .uq 2 true [(.int .i64 0),(.int .i64 0)] 16 (.c (.int .i64 0)) (.t 7)),Cv 3 8] (.seq (jQ [Cv 9 0,jn 10 0 9,jk 11 0] (.block 0 (.loop [3,9,10,11] Hc))) (jr [Cv 20 3,Cv 2 20]))))⟩
theorem Lo:tc P fo 163 Ah:=fM Go.Proofs.Tryz.func163 dN
def dc:=Wb (fun _=>none) Ah
theorem yk:La P 163 dc:=Ha Sa Lo
def zd:Oa:=(jQ [jB 11 .lss 10 9] (.seq (jX 11 0) (.seq (.block 1 (jQ [ji 12 2 8 10,jL 13 2 12,Co 7 (.alloc [(.int .i64 0),(.int .i64 0)]),jS 2 7 13] (.seq (jQ [jf 14 0 7,jl 15 1 14,jK 16 .lss 15 0,Cv 17 16,jF 18 17 (.kf 0 7),jF 19 17 (.kl 1 18),jF 20 17 (.kf 1 7),jF 21 17 (.kl 1 20),jF 22 17 (.kB .gtr 19 21),jo 23 17 22,Cv 24 23,jF 25 24 (.kf 1 7),jF 26 24 (.kl 1 25),jF 27 24 (.km 1),jF 28 24 (.kB .gtr 26 27),jo 29 24 28,Cv 30 29,jF 31 30 (.kf 0 7),jF 32 30 (.kl 1 31),jF 33 30 (.kK .sub 32 1),jF 34 30 (.km 5),jF 35 30 (.kB .leq 33 34),jo 36 30 35] (jC 36 (jr [jb 4 false]) .skip)) (.region [jf 37 1 7,jl 38 1 37,Cv 5 38])))) (.region [jK 39 .add 10 1,Cv 10 39]))))
def Dp:rf:=⟨2,[.tmp 4],(jQ [jb 4 false] (jQ [jk 5 (-2)] (.seq (jQ [Cv 8 0,jn 9 0 8,jk 10 0] (.block 0 (.loop [1,5,8,9,10] zd))) (jr [jb 4 true]))))⟩
theorem mF:tc P fo 164 Dp:=fM Go.Proofs.Tryz.func164 dN
def Si:=Wb (fun _=>none) Dp
theorem Mp:La P 164 Si:=Ha Sa mF
def Pr:rf:=⟨1,[.tmp 2],(jQ [jb 2 false] (jr [Cv 3 0,jp 4 dc 3,Co 5 (.fp Si [(.t 4),(.c (.int .i64 255))]),Cv 2 5]))⟩
theorem JD:tc P fo 152 Pr:=fM Go.Proofs.Tryz.func152 (dC yk (dC Mp dN))
def Nn:=Wb (fun _=>none) Pr
theorem aF:La P 152 Nn:=Ha Sa JD
def Zn:rf:=⟨1,[.tmp 2],(jQ [jc 2 .ma] (jQ [Cv 4 0,jp 5 dc 4,Cv 3 5] (.seq (jQ [Cv 6 3,Co 7 (.fp Si [(.t 6),(.c (.int .i64 255))]),jt 8 7] (jC 8 (jr [jc 2 .ma]) .skip)) (jr [Cv 9 3,Cv 2 9]))))⟩
theorem fH:tc P fo 136 Zn:=fM Go.Proofs.Tryz.func136 (dC yk (dC Mp dN))
def Tg:=Wb (fun _=>none) Zn
theorem xo:La P 136 Tg:=Ha Sa fH
def Pk:Oa:=(jQ [jB 9 .lss 8 7] (.seq (jX 9 0) (.seq (.block 1 (jQ [ji 10 2 6 8,jL 11 2 10,Co 5 (.alloc [(.int .i64 0),(.int .i64 0)]),jS 2 5 11] (.region [Cv 12 3,jf 13 1 5,jl 14 1 13,jf 15 0 5,jl 16 1 15,jB 17 .sub 14 16,jK 18 .add 17 1,jB 19 .add 12 18,Cv 3 19]))) (.region [jK 20 .add 8 1,Cv 8 20]))))
def yw:rf:=⟨1,[.tmp 2],(jQ [jk 2 0] (jQ [jk 3 0] (.seq (jQ [Cv 6 0,jn 7 0 6,jk 8 0] (.block 0 (.loop [3,6,7,8] Pk))) (jr [Cv 21 3,Cv 2 21]))))⟩
theorem SG:tc P fo 161 yw:=fM Go.Proofs.Tryz.func161 dN
def Xq:=Wb (fun _=>none) yw
theorem II:La P 161 Xq:=Ha Sa SG
def Nu:rf:=⟨1,[.tmp 2],(jQ [jk 2 0] (jr [Cv 3 0,jp 4 Tg 3,jp 5 Xq 4,Cv 2 5]))⟩
theorem TE:tc P fo 134 Nu:=fM Go.Proofs.Tryz.func134 (dC xo (dC II dN))
def Cm:=Wb (fun _=>none) Nu
theorem Az:La P 134 Cm:=Ha Sa TE
def Ym:Oa:=(jQ [jB 12 .lss 11 10] (.seq (jX 12 0) (.seq (.block 1 (jQ [ji 13 2 9 11,jL 14 2 13,Co 5 (.alloc [(.int .i64 0),(.int .i64 0)]),jS 2 5 14] (.region [Cv 15 3,jL 16 2 5,Co 17 (.Mb .lit 2 true 1 [(.int .i64 0),(.int .i64 0)] [(0,(.t 16))]),Co 18 (.ku 2 true 16 15 17),Cv 3 18]))) (.region [jK 19 .add 11 1,Cv 11 19]))))
def Oj:rf:=⟨1,[.tmp 2],(jQ [jc 2 .ma] (jQ [Cv 6 0,jn 7 0 6,Co 8 (.Zg .uq 2 true [(.int .i64 0),(.int .i64 0)] 16 (.c (.int .i64 0)) (.t 7)),Cv 3 8] (.seq (jQ [Cv 9 0,jn 10 0 9,jk 11 0] (.block 0 (.loop [3,9,10,11] Ym))) (jr [Cv 20 3,Cv 2 20]))))⟩
theorem Bo:tc P fo 171 Oj:=fM Go.Proofs.Tryz.func171 dN
def lh:=Wb (fun _=>none) Oj
theorem Wo:La P 171 lh:=Ha Sa Bo
def mg:Oa:=(.seq (jQ [Cv 8 0,jn 9 0 8,jK 10 .gtr 9 0,Cv 11 10,jT 12 11 (.km 1),jT 13 11 (.kn 0 12),jT 14 11 (.kK .gtr 13 0),ja 15 11 14] (jX 15 0)) (.block 1 (jQ [Cv 16 0,Cp 17 (.kj 2 16 0),jf 18 0 17,jl 19 1 18,Cv 20 1,Cp 21 (.kj 2 20 0),jf 22 0 21,jl 23 1 22,Co 24 (.mx [(.t 19),(.t 23)]),Cv 25 0,Cp 26 (.kj 2 25 0),jf 27 1 26,jl 28 1 27,Cv 29 1,Cp 30 (.kj 2 29 0),jf 31 1 30,jl 32 1 31,Co 33 (.mn [(.t 28),(.t 32)]),Cv 6 24,Cv 7 33] (.seq (jQ [Cv 34 6,Cv 35 7,jB 36 .leq 34 35] (jC 36 (.region [Cv 37 5,Cv 38 6,Cv 39 7,Co 40 (.build [(.int .i64 0),(.int .i64 0)] [(0,1,(.t 38)),(1,1,(.t 39))]),Co 41 (.Mb .lit 2 true 1 [(.int .i64 0),(.int .i64 0)] [(0,(.t 40))]),Co 42 (.ku 2 true 16 37 41),Cv 5 42]) .skip)) (jQ [Cv 43 0,Cp 44 (.kj 2 43 0),jf 45 1 44,jl 46 1 45,Cv 47 1,Cp 48 (.kj 2 47 0),jf 49 1 48,jl 50 1 49,jB 51 .lss 46 50] (jC 51 (.region [Cv 52 0,Co 53 (.slice 2 (.t 52) (some (.c (.int .i64 1))) none),Cv 0 53]) (.region [Cv 54 1,Co 55 (.slice 2 (.t 54) (some (.c (.int .i64 1))) none),Cv 1 55])))))))
def Yq:rf:=⟨2,[.tmp 4],(jQ [jc 4 .ma] (jQ [jc 5 .ma] (.ghost (.sJ 5 2) (.seq (.block 0 (.loop [0,1,5] mg)) (jr [Cv 56 5,Cv 4 56])))))⟩
theorem vH:tc P fo 154 Yq:=fM Go.Proofs.Tryz.func154 dN
def Vl:=Wb (fun _=>none) Yq
theorem nB:La P 154 Vl:=Ha Sa vH
def bn:Oa:=(jQ [jB 12 .lss 11 10] (.seq (jX 12 0) (.seq (.block 1 (jQ [ji 13 2 9 11,jL 14 2 13,Co 5 (.alloc [(.int .i64 0),(.int .i64 0)]),jS 2 5 14] (.region [Cv 15 3,jL 16 2 5,Co 17 (.Mb .lit 2 true 1 [(.int .i64 0),(.int .i64 0)] [(0,(.t 16))]),Co 18 (.ku 2 true 16 15 17),Cv 3 18]))) (.region [jK 19 .add 11 1,Cv 11 19]))))
def Mj:rf:=⟨1,[.tmp 2],(jQ [jc 2 .ma] (jQ [Cv 6 0,jn 7 0 6,Co 8 (.Zg .uq 2 true [(.int .i64 0),(.int .i64 0)] 16 (.c (.int .i64 0)) (.t 7)),Cv 3 8] (.seq (jQ [Cv 9 0,jn 10 0 9,jk 11 0] (.block 0 (.loop [3,9,10,11] bn))) (jr [Cv 20 3,Cv 2 20]))))⟩
theorem vo:tc P fo 170 Mj:=fM Go.Proofs.Tryz.func170 dN
def kh:=Wb (fun _=>none) Mj
theorem Ro:La P 170 kh:=Ha Sa vo
def sn:Oa:=(jQ [jB 12 .lss 11 10] (.seq (jX 12 0) (.seq (.block 1 (jQ [ji 13 2 9 11,jL 14 2 13,Co 5 (.alloc [(.int .i64 0),(.int .i64 0)]),jS 2 5 14] (.region [Cv 15 3,jL 16 2 5,Co 17 (.Mb .lit 2 true 1 [(.int .i64 0),(.int .i64 0)] [(0,(.t 16))]),Co 18 (.ku 2 true 16 15 17),Cv 3 18]))) (.region [jK 19 .add 11 1,Cv 11 19]))))
def zk:rf:=⟨1,[.tmp 2],(jQ [jc 2 .ma] (jQ [Cv 6 0,jn 7 0 6,Co 8 (.Zg .uq 2 true [(.int .i64 0),(.int .i64 0)] 16 (.c (.int .i64 0)) (.t 7)),Cv 3 8] (.seq (jQ [Cv 9 0,jn 10 0 9,jk 11 0] (.block 0 (.loop [3,9,10,11] sn))) (jr [Cv 20 3,Cv 2 20]))))⟩
theorem Qo:tc P fo 180 zk:=fM Go.Proofs.Tryz.func180 dN
def xh:=Wb (fun _=>none) zk
theorem Lp:La P 180 xh:=Ha Sa Qo
def Hu:rf:=⟨1,[.tmp 2],(jQ [jc 2 .ma] (jr [Cv 3 0,jp 4 xh 3,Cv 2 4]))⟩
theorem iF:tc P fo 176 Hu:=fM Go.Proofs.Tryz.func176 (dC Lp dN)
def Ep:=Wb (fun _=>none) Hu
theorem CH:La P 176 Ep:=Ha Sa iF
def Uu:rf:=⟨2,[.tmp 4],(jQ [jc 4 .ma] (jr [Cv 5 0,jp 6 Tg 5,Cv 7 1,jp 8 Tg 7,jq 9 Vl 6 8,jp 10 Ep 9,Cv 4 10]))⟩
theorem gF:tc P fo 159 Uu:=fM Go.Proofs.Tryz.func159 (dC xo (dC xo (dC nB (dC CH dN))))
def Gp:=Wb (fun _=>none) Uu
theorem SH:La P 159 Gp:=Ha Sa gF
def Fe:Oa:=(jQ [jB 12 .lss 11 10] (.seq (jX 12 0) (.seq (.block 1 (jQ [ji 13 2 9 11,jL 14 2 13,Co 8 (.alloc [(.int .i64 0),(.int .i64 0)]),jS 2 8 14] (.seq (jQ [Cv 15 1,jf 16 0 8,jl 17 1 16,jB 18 .lss 15 17] (jC 18 (.exit 0) .skip)) (.seq (jQ [Cv 19 1,jf 20 1 8,jl 21 1 20,jB 22 .leq 19 21] (jC 22 (jr [Cv 23 6,Cv 24 1,jB 25 .add 23 24,jf 26 0 8,jl 27 1 26,jB 28 .sub 25 27,Cv 4 28,jb 5 true]) .skip)) (.region [Cv 29 6,jf 30 1 8,jl 31 1 30,jf 32 0 8,jl 33 1 32,jB 34 .sub 31 33,jK 35 .add 34 1,jB 36 .add 29 35,Cv 6 36]))))) (.region [jK 37 .add 11 1,Cv 11 37]))))
def dr:rf:=⟨2,[.tmp 4,.tmp 5],(jQ [jk 4 0,jb 5 false] (jQ [jk 6 0] (.seq (jQ [Cv 9 0,jn 10 0 9,jk 11 0] (.block 0 (.loop [1,6,9,10,11] Fe))) (jr [jk 4 0,jb 5 false]))))⟩
theorem VG:tc P fo 179 dr:=fM Go.Proofs.Tryz.func179 dN
def Yn:=Wb (fun _=>none) dr
theorem LJ:La P 179 Yn:=Ha Sa VG
def vu:rf:=⟨2,[.tmp 4,.tmp 5],(jQ [jk 4 0,jb 5 false] (jr [Cv 6 0,jp 7 Tg 6,Cv 8 1,jq 9 Yn 7 8,jx 10 0 9,jx 11 1 9,Cv 4 10,Cv 5 11]))⟩
theorem rF:tc P fo 175 vu:=fM Go.Proofs.Tryz.func175 (dC xo (dC LJ dN))
def Am:=Wb (fun _=>none) vu
theorem Tz:La P 175 Am:=Ha Sa rF
def Gw:rf:=⟨2,[.tmp 4],(jQ [jb 4 false] (jQ [Cv 8 0,Cv 9 1,jq 10 Am 8 9,Cv 7 10,jx 11 0 7,jx 12 1 7,Cv 5 11,Cv 6 12] (jr [Cv 13 6,Cv 4 13])))⟩
theorem tH:tc P fo 158 Gw:=fM Go.Proofs.Tryz.func158 (dC Tz dN)
def gw:=Wb (fun _=>none) Gw
theorem LI:La P 158 gw:=Ha Sa tH
def Ih:rf:=⟨3,[.tmp 5],(jQ [jb 5 false] (jr [jf 6 0 2,jl 7 1 6,Cv 8 0,Ji 9 2 7 8,jf 10 0 9,jl 11 1 10,Cp 12 (.kn 0 11),jf 13 0 2,jl 14 1 13,Cv 15 1,Ji 16 2 14 15,jf 17 0 16,jl 18 1 17,Cp 19 (.kn 0 18),jB 20 .lss 12 19,Cv 5 20]))⟩
theorem Oy:tc P fo 128 Ih:=fM Go.Proofs.Tryz.func128 dN
def Ib:Oa:=(jQ [jB 9 .lss 8 7] (.seq (jX 9 0) (.seq (.block 1 (jQ [Cv 10 8,Cv 5 10] (jQ [Cv 11 1,Cv 12 0,Cv 13 5,ji 14 1 12 13,jl 15 1 14,Co 16 (.eB (.t 11) [(.t 15)])] (jC 16 (jr [Cv 17 5,Cv 4 17]) .skip)))) (.region [jK 18 .add 8 1,Cv 8 18]))))
def Ac:rf:=⟨2,[.tmp 4],(jQ [jk 4 0] (.seq (jQ [Cv 6 0,jn 7 0 6,jk 8 0] (.block 0 (.loop [0,1,7,8] Ib))) (jr [jk 4 (-1)])))⟩
theorem rl:tc P fo 151 Ac:=fM Go.Proofs.Tryz.func151 dN
def Jb:rf:=⟨2,[.tmp 4],(jQ [jb 4 false] (jr [Cv 5 0,Cv 6 1,Co 7 (.Kj 5 [(.t 5),(.t 6)]),jK 8 .geq 7 0,Cv 4 8]))⟩
theorem rk:tc P fo 122 Jb:=fM Go.Proofs.Tryz.func122 dN
def Tj:rf:=⟨1,[.tmp 2],(jQ [jb 2 false] (jr [Cv 3 0,jn 4 0 3,jK 5 .eql 4 0,Cv 6 5,jF 7 6 (.km 0),jF 8 6 (.kp Nn 7),jF 9 6 (.kt 8),jo 10 6 9,Cv 2 10]))⟩
theorem OD:tc P fo 123 Tj:=fM Go.Proofs.Tryz.func123 (dC aF dN)
def Hh:Oa:=(jQ [jB 10 .lss 9 8] (.seq (jX 10 0) (.seq (.block 1 (jQ [ji 11 1 7 9,jl 12 1 11,Cv 5 12] (.region [Cv 13 3,Cv 14 5,jp 15 Cm 14,jB 16 .mul 13 15,Co 17 (.mn [(.t 16),(.c (.int .i64 1073741825))]),Cv 3 17]))) (.region [jK 18 .add 9 1,Cv 9 18]))))
def Hr:rf:=⟨1,[.tmp 2],(jQ [jR 1 2 0,jk 2 0] (jQ [jk 3 1] (.seq (jQ [Jf 6 0 1,Jl 7 1 6,jn 8 0 7,jk 9 0] (.block 0 (.loop [1,3,7,8,9] Hh))) (jr [Jf 19 1 1,Jl 20 1 19,Cv 21 3,jB 22 .add 20 21,jK 23 .sub 22 1,Cv 2 23]))))⟩
theorem JE:tc P fo 124 Hr:=fM Go.Proofs.Tryz.func124 (dC Az dN)
def Un:=Wb (fun _=>none) Hr
theorem zF:La P 124 Un:=Ha Sa JE
def Mr:rf:=⟨1,[.tmp 2],(jQ [jc 2 .ma] (jQ [Cv 4 0,jp 5 lh 4,Cv 3 5] (.seq (jQ [Cv 6 3,Co 7 (.fp Si [(.t 6),(.c (.int .i64 1073741823))]),jt 8 7] (jC 8 (jr [jc 2 .ma]) .skip)) (jr [Cv 9 3,Cv 2 9]))))⟩
theorem dD:tc P fo 155 Mr:=fM Go.Proofs.Tryz.func155 (dC Wo (dC Mp dN))
def Fl:=Wb (fun _=>none) Mr
theorem Px:La P 155 Fl:=Ha Sa dD
def tq:rf:=⟨1,[.tmp 2],(jQ [jc 2 .ma] (jr [Cv 3 0,jp 4 kh 3,Cv 2 4]))⟩
theorem iC:tc P fo 153 tq:=fM Go.Proofs.Tryz.func153 (dC Ro dN)
def xm:=Wb (fun _=>none) tq
theorem QC:La P 153 xm:=Ha Sa iC
def Bq:rf:=⟨2,[.tmp 4],(jQ [jc 4 .ma] (jr [Cv 5 0,jp 6 Fl 5,Cv 7 1,jp 8 Fl 7,jq 9 Vl 6 8,jp 10 xm 9,Cv 4 10]))⟩
theorem WB:tc P fo 125 Bq:=fM Go.Proofs.Tryz.func125 (dC Px (dC Px (dC nB (dC QC dN))))
def Km:=Wb (fun _=>none) Bq
theorem OE:La P 125 Km:=Ha Sa WB
end Go.AM.B1
set_option linter.unusedSimpArgs false
namespace Go.AM.B1
open Go.AM
def Th (sz:Nat) (v:PV) (es:List PV):Prop:=(v= .ma∧es=[])∨v= .lit sz es
theorem Th.len {sz:Nat} {v:PV} {es:List PV} (h:Th sz v es) (H:List ba):Sb H 0 (.pv v)=some es.length:=by
 rcases h with⟨rfl,rfl⟩ | rfl <;> rfl
theorem Th.lit {sz:Nat} {v:PV} {es:List PV} (h:Th sz v es) {i:Nat} (hi:i < es.length):v= .lit sz es:=by
 rcases h with⟨rfl,rfl⟩ | rfl
 ·simp at hi
 ·rfl
abbrev i64 (n:Int):PV:= .int .i64 n
abbrev pr (p:Int×Int):PV:= .agg [i64 p.1,i64 p.2]
abbrev Ld (l:List (Int×Int)):List PV:=l.map pr
theorem Xb:deep=5+1:=rfl
theorem uh {a b:Int} (h:a≠b):(a==b)=false:=by simp[h]
theorem Ga {p:Prop} [Decidable p] (h:p):decide p=true:=by simp[h]
theorem Ia {p:Prop} [Decidable p] (h:¬p):decide p=false:=by simp[h]
theorem yr {l:List (Int×Int)} {i:Nat} (hi:i < l.length):(Ld l)[i]? =some (pr l[i]):=by simp[Ld,hi]
theorem Ua {i n:Nat} (hi:i < n) (hw:n≤maxLen):IntKind.i64.wrap ((i:Int)+1)=((i+1:Nat):Int):=Da (by unfold maxLen at hw;omega)
inductive gD (k:Nat) (v:AV):Option (Ex×St)→Prop
 |mk (s:St):s.env.get k=v→gD k v (some (.ret,s))
theorem yn {k:Nat} {v:AV} {s:St}:gD k v (some (.ret,s))=(s.env.get k=v):=
 propext ⟨fun h=>by cases h with | mk _ h=>exact h,fun h=> .mk s h⟩
theorem Pu {k:Nat} {v:AV} {r:Option (Ex×St)} (h:gD k v r):∃ t,r=some (.ret,t)∧t.env.get k=v:=by
 cases h with | mk s h=>exact⟨s,rfl,h⟩
inductive xH (k:Nat):Option (Ex×St)→Prop
 |mk (e:Tr) (H:List ba):xH k (some (.exit k,⟨e,H⟩))
theorem UJ {k i:Nat} {e:Tr} {H:List ba}:xH k (some (.exit i,⟨e,H⟩))=(i=k):=
 propext ⟨fun h=>by cases h;rfl,fun h=>by subst h;exact .mk e H⟩
theorem oK {k:Nat} {r:Option (Ex×St)} (h:xH k r):∃ e H,r=some (.exit k,⟨e,H⟩):=by
 cases h with | mk e H=>exact⟨e,H,rfl⟩
inductive PH (k:Nat) (v:AV) (j:Nat) (u:AV):Option (Ex×St)→Prop
 |mk (s:St):s.env.get k=v→s.env.get j=u→PH k v j u (some (.ret,s))
theorem wL {k j:Nat} {v u:AV} {s:St}:PH k v j u (some (.ret,s))=(s.env.get k=v∧s.env.get j=u):=
 propext ⟨fun h=>by cases h with | mk _ h h'=>exact⟨h,h'⟩,fun h=> .mk s h.1 h.2⟩
theorem qI {k j:Nat} {v u:AV} {r:Option (Ex×St)} (h:PH k v j u r):∃ t,r=some (.ret,t)∧t.env.get k=v∧t.env.get j=u:=by
 cases h with | mk s h h'=>exact⟨s,rfl,h,h'⟩
section To
variable (v:PV) (l:List (Int×Int)) (hv:Th 2 v (Ld l)) (hw:l.length * 16≤140737488355328)
abbrev uz (v:PV) (len i:Int) (o:AV):Tr:=((((Tr.lf.set 11 (.pv (i64 i))).set 10 (.pv (i64 len))).set 9 (.pv v)).set 3 o)
include hv hw
theorem ZE (i:Nat) (hi:i < l.length):
 Pb (Ca (fun _=>none) 8) [3,9,10,11] Hc 1 ⟨uz v l.length i (.uq 0 false 2 (Ld (l.take i))),[.tok 2 i false]⟩=
  some (.norm,⟨uz v l.length (i+1:Nat) (.uq 0 false 2 (Ld (l.take (i+1)))),[.tok 2 (i+1) false]⟩):=by
 have hv:=hv.lit (i:=i) (by simpa using hi)
 subst hv
 have e1:decide ((i:Int) < (l.length:Int))=true:=Ga (by omega)
 have hq:Fa (i:Int) (Ld l).length:=by unfold Fa;simp;omega
 have t1:((i:Int)).toNat=i:=by simp
 have t2:=Ua hi (by unfold maxLen;omega)
 have lt:(Ld (l.take i)).length=i:=by simp;omega
 have q1:xb (i+1) 16:=by unfold xb;omega
 have hs:Ld (l.take (i+1))=Ld (l.take i)++[pr l[i]]:=by rw[List.take_succ_eq_append_getElem hi];simp only[Ld,List.map_append,List.map_cons,List.map_nil]
 rw[hs]
 have hg:=yr hi
 generalize Ld (l.take i)=T at *
 subst lt
 generalize Ld l=es at *
 simp -implicitDefEqProofs only[SP,SA,SQ,sevalprocAttr,Pb,fa,Hc,e1,eq_true hq,t1,t2,hg,eq_true q1,ua,Ai,AV.uC,AV.Xo,ga,za,pa,Ba,AV.cut,Xb,uz]
theorem Zl:dc [v]=some (.lit 2 (Ld l)):=by
 have ls:=hv.len
 simp only[Ld,List.length_map] at ls
 have hl:gb (fa (ta (Ca (fun _=>none) 8) Hc) (ga 1 [3,9,10,11])) oa ⟨uz v l.length 0 (.uq 0 false 2 []),[.tok 2 0 false]⟩=
  some (.exit 0,⟨(uz v l.length l.length (.uq 0 false 2 (Ld l))).set 12 (.pv (.bool false)),[.tok 2 l.length false]⟩):=by
  have key:=Pj (g:=Pb (Ca (fun _=>none) 8) [3,9,10,11] Hc 1)
   (fun i t=>t=⟨uz v l.length i (.uq 0 false 2 (Ld (l.take i))),[.tok 2 i false]⟩)
   (fun ex t=>ex= .exit 0∧t=⟨(uz v l.length l.length (.uq 0 false 2 (Ld l))).set 12 (.pv (.bool false)),[.tok 2 l.length false]⟩)
   oa l.length 0 _ (by unfold oa;omega) (by omega) rfl ?_ ?_
  ·obtain⟨ex,t,h,_,rfl,rfl⟩:=key;exact h
  ·rintro i hi t rfl
   exact .inl ⟨_,ZE v l hv hw i hi,rfl⟩
  ·rintro t rfl
   refine⟨.exit 0,_,?_,rfl,rfl,rfl⟩
   have e1:decide ((l.length:Int) < (l.length:Int))=false:=Ia (by omega)
   rw[List.take_length]
   simp -implicitDefEqProofs only[SP,SA,SQ,sevalprocAttr,Pb,fa,Hc,e1,uz]
 have h1:decide ((0:Int)≤0)=true:=by decide
 have h2:(0:Int)≤(l.length:Int):=by omega
 have h3:xb ((l.length:Int)).toNat 16:=by unfold xb;simp;omega
 simp -implicitDefEqProofs only[dc,SP,SA,SQ,sevalprocAttr,Ah,ls,qb,ga,za,pa,Ba,AV.cut,Xb,Int.le_refl,eq_true h2,eq_true h3,Int.toNat_zero]
 simp only[uz] at hl
 rw[hl]
 simp -implicitDefEqProofs only[SP,SA,SQ,sevalprocAttr]
end To
end Go.AM.B1
namespace Go.AM.B1
open Go.AM
def Pa (top:Int):Int→List (Int×Int)→Bool
 |_,[]=>true
 |last,p::r=> !(decide (p.1 < 0)||decide (p.1 > p.2)||decide (p.2 > top)||decide (p.1 - 1≤last))&&Pa top p.2 r
abbrev Yv (v:PV) (top len i last:Int):Tr:=(((((Tr.lf.set 10 (.pv (i64 i))).set 9 (.pv (i64 len))).set 8 (.pv v)).set 5 (.pv (i64 last))).set 1 (.pv (i64 top)))
section
variable (v:PV) (l:List (Int×Int)) (hv:Th 2 v (Ld l)) (hw:l.length≤maxLen) (top:Int) (ht:top≤9223372036854775807)
theorem FL (i:Nat) (hi:i < l.length) (hv:Th 2 v (Ld l)) (hw:l.length≤maxLen) (last:Int) (ht:top≤9223372036854775807) (c1:¬l[i].1 < 0) (c2:¬l[i].1 > l[i].2) (c3:¬l[i].2 > top) (c4:¬l[i].1 - 1≤last):
 Pb (Ca (fun _=>none) 8) [1,5,8,9,10] zd 0 ⟨Yv v top l.length i last,[]⟩=some (.norm,⟨Yv v top l.length (i+1:Nat) l[i].2,[]⟩):=by
 have hv:=hv.lit (i:=i) (by simpa using hi)
 subst hv
 have e1:decide ((i:Int) < (l.length:Int))=true:=Ga (by omega)
 have hq:Fa (i:Int) (Ld l).length:=by unfold Fa;simp;omega
 have t1:((i:Int)).toNat=i:=by simp
 have t2:=Ua hi hw
 have t3:IntKind.i64.wrap (l[i].1 - 1)=l[i].1 - 1:=Da (by omega)
 have hg:=yr hi
 have d1:=Ia c1;have d2:=Ia c2;have d3:=Ia c3;have d4:=Ia c4
 generalize Ld l=es at *
 generalize l[i]=p at *
 simp -implicitDefEqProofs only[SP,SA,SQ,sevalprocAttr,Pb,fa,zd,e1,eq_true hq,t1,t2,t3,hg,d1,d2,d3,d4,ua,ga,za,pa,Ba,AV.cut,Xb,Yv]
theorem zP (i:Nat) (hi:i < l.length) (hv:Th 2 v (Ld l)) (hw:l.length≤maxLen) (last:Int) (ht:top≤9223372036854775807) (hc:l[i].1 < 0∨l[i].1 > l[i].2∨l[i].2 > top∨l[i].1 - 1≤last):
 gD 4 (.pv (.bool false)) (Pb (Ca (fun _=>none) 8) [1,5,8,9,10] zd 0 ⟨Yv v top l.length i last,[]⟩):=by
 have hv:=hv.lit (i:=i) (by simpa using hi)
 subst hv
 have e1:decide ((i:Int) < (l.length:Int))=true:=Ga (by omega)
 have hq:Fa (i:Int) (Ld l).length:=by unfold Fa;simp;omega
 have t1:((i:Int)).toNat=i:=by simp
 have hg:=yr hi
 generalize Ld l=es at *
 generalize l[i]=p at *
 by_cases c1:p.1 < 0
 ·have d1:=Ga c1
  simp -implicitDefEqProofs only[SP,SA,SQ,sevalprocAttr,Pb,fa,zd,e1,eq_true hq,t1,hg,d1,ua,Yv,yn]
 have d1:=Ia c1
 by_cases c2:p.1 > p.2
 ·have d2:=Ga c2
  simp -implicitDefEqProofs only[SP,SA,SQ,sevalprocAttr,Pb,fa,zd,e1,eq_true hq,t1,hg,d1,d2,ua,Yv,yn]
 have d2:=Ia c2
 by_cases c3:p.2 > top
 ·have d3:=Ga c3
  simp -implicitDefEqProofs only[SP,SA,SQ,sevalprocAttr,Pb,fa,zd,e1,eq_true hq,t1,hg,d1,d2,d3,ua,Yv,yn]
 have d3:=Ia c3
 have c4:p.1 - 1≤last:=by rcases hc with h | h | h | h <;> first | exact h | omega
 have t3:IntKind.i64.wrap (p.1 - 1)=p.1 - 1:=Da (by omega)
 have d4:=Ga c4
 simp -implicitDefEqProofs only[SP,SA,SQ,sevalprocAttr,Pb,fa,zd,e1,eq_true hq,t1,t3,hg,d1,d2,d3,d4,ua,Yv,yn]
include hv hw ht
theorem Ct:Si [v,i64 top]=some (.bool (Pa top (-2) l)):=by
 have ls:=hv.len
 simp only[Ld,List.length_map] at ls
 have key:=Pj (g:=Pb (Ca (fun _=>none) 8) [1,5,8,9,10] zd 0)
  (fun i t=>∃ last,t=⟨Yv v top l.length i last,[]⟩∧Pa top (-2) l=Pa top last (l.drop i))
  (fun ex t=>(ex= .exit 0∧Pa top (-2) l=true∧∃ last,t=⟨(Yv v top l.length l.length last).set 11 (.pv (.bool false)),[]⟩)∨(ex= .ret∧Pa top (-2) l=false∧t.env.get 4= .pv (.bool false)))
  oa l.length 0 ⟨Yv v top l.length (0:Nat) (-2),[]⟩ (by unfold oa;unfold maxLen at hw;omega) (by omega) ⟨-2,rfl,rfl⟩ ?_ ?_
 ·have hl:gb (fa (ta (Ca (fun _=>none) 8) zd) (ga 0 [1,5,8,9,10])) oa ⟨Yv v top l.length 0 (-2),[]⟩=gb (Pb (Ca (fun _=>none) 8) [1,5,8,9,10] zd 0) oa ⟨Yv v top l.length (0:Nat) (-2),[]⟩:=rfl
  obtain⟨ex,t,h,_,hq⟩:=key
  rw[h] at hl
  simp only[Yv] at hl
  rcases hq with⟨rfl,hval,last,rfl⟩ | ⟨rfl,hval,hg⟩
  ·rw[hval]
   simp -implicitDefEqProofs only[Si,SP,SA,SQ,sevalprocAttr,Dp,ls,qb,ga,za,pa,Ba,AV.cut,Xb,hl,Yv]
  ·rw[hval]
   simp -implicitDefEqProofs only[Si,SP,SA,SQ,sevalprocAttr,Dp,ls,qb,ga,za,pa,Ba,AV.cut,Xb,hl,Yv,hg]
 ·rintro i hi t ⟨last,rfl,hval⟩
  have hd:l.drop i=l[i]::l.drop (i+1):=List.drop_eq_getElem_cons hi
  rw[hd,Pa] at hval
  by_cases hc:l[i].1 < 0∨l[i].1 > l[i].2∨l[i].2 > top∨l[i].1 - 1≤last
  ·obtain⟨t,h1,h2⟩:=Pu (zP v l top i hi hv hw last ht hc)
   refine .inr ⟨.ret,t,h1,rfl,.inr ⟨rfl,?_,h2⟩⟩
   rw[hval]
   rcases hc with h | h | h | h <;> simp[h]
  ·have hc':¬l[i].1 < 0∧¬l[i].1 > l[i].2∧¬l[i].2 > top∧¬l[i].1 - 1≤last:=by
    refine⟨fun h=>hc (.inl h),fun h=>hc (.inr (.inl h)),fun h=>hc (.inr (.inr (.inl h))),fun h=>hc (.inr (.inr (.inr h)))⟩
   refine .inl ⟨_,FL v l top i hi hv hw last ht hc'.1 hc'.2.1 hc'.2.2.1 hc'.2.2.2,l[i].2,rfl,?_⟩
   rw[hval,Ia hc'.1,Ia hc'.2.1,Ia hc'.2.2.1,Ia hc'.2.2.2]
   rfl
 ·rintro t ⟨last,rfl,hval⟩
  refine⟨.exit 0,_,?_,rfl,.inl ⟨rfl,?_,last,rfl⟩⟩
  ·have e1:decide ((l.length:Int) < (l.length:Int))=false:=Ia (by omega)
   simp -implicitDefEqProofs only[SP,SA,SQ,sevalprocAttr,Pb,fa,zd,e1,Yv]
  ·rw[hval,List.drop_length];rfl
end
end Go.AM.B1
namespace Go.AM.B1
open Go.AM
def Gf (x:Int):Int→List (Int×Int)→Int×Bool
 |_,[]=>(0,false)
 |n,p::r=>if x < p.1 then (0,false) else if x≤p.2 then (n+x - p.1,true) else Gf x (n+(p.2 - p.1+1)) r
abbrev Ix (v:PV) (x len i n:Int):Tr:=(((((Tr.lf.set 11 (.pv (i64 i))).set 10 (.pv (i64 len))).set 9 (.pv v)).set 6 (.pv (i64 n))).set 1 (.pv (i64 x)))
section
variable (v:PV) (l:List (Int×Int)) (hv:Th 2 v (Ld l)) (hw:l.length≤maxLen) (x n:Int)
theorem eR (i:Nat) (hi:i < l.length) (hv:Th 2 v (Ld l)) (c:x < l[i].1):
 xH 0 (Pb (Ca (fun _=>none) 8) [1,6,9,10,11] Fe 0 ⟨Ix v x l.length i n,[]⟩):=by
 have hv:=hv.lit (i:=i) (by simpa using hi)
 subst hv
 have e1:decide ((i:Int) < (l.length:Int))=true:=Ga (by omega)
 have hq:Fa (i:Int) (Ld l).length:=by unfold Fa;simp;omega
 have t1:((i:Int)).toNat=i:=by simp
 have hg:=yr hi
 have d1:=Ga c
 generalize Ld l=es at *
 generalize l[i]=p at *
 simp -implicitDefEqProofs only[SP,SA,SQ,sevalprocAttr,Pb,fa,Fe,e1,eq_true hq,t1,hg,d1,ua,Ix,UJ]
theorem lU (i:Nat) (hi:i < l.length) (hv:Th 2 v (Ld l)) (c:¬x < l[i].1) (c2:x≤l[i].2) (hb:0≤l[i].1∧l[i].2≤4611686018427387904∧0≤n∧n≤4611686018427387903):
 PH 4 (.pv (i64 (n+x - l[i].1))) 5 (.pv (.bool true)) (Pb (Ca (fun _=>none) 8) [1,6,9,10,11] Fe 0 ⟨Ix v x l.length i n,[]⟩):=by
 have hv:=hv.lit (i:=i) (by simpa using hi)
 subst hv
 have e1:decide ((i:Int) < (l.length:Int))=true:=Ga (by omega)
 have hq:Fa (i:Int) (Ld l).length:=by unfold Fa;simp;omega
 have t1:((i:Int)).toNat=i:=by simp
 have hg:=yr hi
 have d1:=Ia c
 have d2:=Ga c2
 have t3:IntKind.i64.wrap (n+x)=n+x:=Da (by omega)
 have t4:IntKind.i64.wrap (n+x - l[i].1)=n+x - l[i].1:=Da (by omega)
 generalize Ld l=es at *
 generalize l[i]=p at *
 simp -implicitDefEqProofs only[SP,SA,SQ,sevalprocAttr,Pb,fa,Fe,e1,eq_true hq,t1,t3,t4,hg,d1,d2,ua,Ix,wL]
theorem HU (i:Nat) (hi:i < l.length) (hv:Th 2 v (Ld l)) (hw:l.length≤maxLen) (c:¬x < l[i].1) (c2:¬x≤l[i].2) (hb:0≤l[i].1∧l[i].1≤l[i].2∧l[i].2≤4611686018427387902∧0≤n∧n≤l[i].1):
 Pb (Ca (fun _=>none) 8) [1,6,9,10,11] Fe 0 ⟨Ix v x l.length i n,[]⟩=some (.norm,⟨Ix v x l.length (i+1:Nat) (n+(l[i].2 - l[i].1+1)),[]⟩):=by
 have hv:=hv.lit (i:=i) (by simpa using hi)
 subst hv
 have e1:decide ((i:Int) < (l.length:Int))=true:=Ga (by omega)
 have hq:Fa (i:Int) (Ld l).length:=by unfold Fa;simp;omega
 have t1:((i:Int)).toNat=i:=by simp
 have t2:=Ua hi hw
 have hg:=yr hi
 have d1:=Ia c
 have d2:=Ia c2
 have t3:IntKind.i64.wrap (l[i].2 - l[i].1)=l[i].2 - l[i].1:=Da (by omega)
 have t4:IntKind.i64.wrap (l[i].2 - l[i].1+1)=l[i].2 - l[i].1+1:=Da (by omega)
 have t5:IntKind.i64.wrap (n+(l[i].2 - l[i].1+1))=n+(l[i].2 - l[i].1+1):=Da (by omega)
 generalize Ld l=es at *
 generalize l[i]=p at *
 simp -implicitDefEqProofs only[SP,SA,SQ,sevalprocAttr,Pb,fa,Fe,e1,eq_true hq,t1,t2,t3,t4,t5,hg,d1,d2,ua,ga,za,pa,Ba,AV.cut,Xb,Ix]
theorem ie {top last:Int} {p:Int×Int} {r:List (Int×Int)} (h:Pa top last (p::r)=true):¬p.1 < 0∧¬p.1 > p.2∧¬p.2 > top∧¬p.1 - 1≤last∧Pa top p.2 r=true:=by
 simp only[Pa,Bool.and_eq_true,Bool.not_eq_true',Bool.or_eq_false_iff,decide_eq_false_iff_not] at h
 exact⟨h.1.1.1.1,h.1.1.1.2,h.1.1.2,h.1.2,h.2⟩
include hv hw
theorem YE {top:Int} (ht:top≤4611686018427387900) (hval:Pa top (-2) l=true):Yn [v,i64 x]=some (.Jc [i64 (Gf x 0 l).1,.bool (Gf x 0 l).2]):=by
 have ls:=hv.len
 simp only[Ld,List.length_map] at ls
 have key:=Pj (g:=Pb (Ca (fun _=>none) 8) [1,6,9,10,11] Fe 0)
  (fun i t=>∃ n last,t=⟨Ix v x l.length i n,[]⟩∧Gf x 0 l=Gf x n (l.drop i)∧Pa top last (l.drop i)=true∧0≤n∧n≤max 0 (last+1)∧last≤top)
  (fun ex t=>(ex= .exit 0∧Gf x 0 l=(0,false))∨(ex= .ret∧∃ r,Gf x 0 l=(r,true)∧t.env.get 4= .pv (i64 r)∧t.env.get 5= .pv (.bool true)))
  oa l.length 0 ⟨Ix v x l.length (0:Nat) 0,[]⟩ (by unfold oa;unfold maxLen at hw;omega) (by omega) ?_ ?_ ?_
 ·have hl:gb (fa (ta (Ca (fun _=>none) 8) Fe) (ga 0 [1,6,9,10,11])) oa ⟨Ix v x l.length 0 0,[]⟩=gb (Pb (Ca (fun _=>none) 8) [1,6,9,10,11] Fe 0) oa ⟨Ix v x l.length (0:Nat) 0,[]⟩:=rfl
  obtain⟨ex,⟨e,H⟩,h,_,hq⟩:=key
  rw[h] at hl
  simp only[Ix] at hl
  rcases hq with⟨rfl,hr⟩ | ⟨rfl,r,hr,g4,g5⟩
  ·rw[hr]
   simp -implicitDefEqProofs only[Yn,SP,SA,SQ,sevalprocAttr,dr,ls,qb,ga,za,pa,Ba,AV.cut,Xb,hl,Ix]
  ·rw[hr]
   simp only at g4 g5
   simp -implicitDefEqProofs only[Yn,SP,SA,SQ,sevalprocAttr,dr,ls,qb,ga,za,pa,Ba,AV.cut,Xb,hl,Ix,g4,g5]
 ·refine⟨0,min (-2) top,rfl,rfl,?_,by omega,by omega,by omega⟩
  have mono:∀ {a b:Int} {r:List (Int×Int)},a≤b→Pa top b r=true→Pa top a r=true:=by
   intro a b r hab h
   cases r with
   |nil=>rfl
   |cons p r=>
    obtain⟨h1,h2,h3,h4,h5⟩:=ie h
    simp only[Pa,h5,Bool.and_true,Bool.not_eq_true',Bool.or_eq_false_iff,decide_eq_false_iff_not]
    exact⟨⟨⟨h1,h2⟩,h3⟩,by omega⟩
  exact mono (by omega) hval
 ·rintro i hi t ⟨n,last,rfl,hr,hva,hn0,hn1,hlast⟩
  have hd:l.drop i=l[i]::l.drop (i+1):=List.drop_eq_getElem_cons hi
  rw[hd] at hr hva
  obtain⟨h1,h2,h3,h4,h5⟩:=ie hva
  rw[Gf] at hr
  by_cases c:x < l[i].1
  ·obtain⟨e,H,hx⟩:=oK (eR v l x n i hi hv c)
   rw[if_pos c] at hr
   exact .inr ⟨.exit 0,⟨e,H⟩,hx,rfl,.inl ⟨rfl,hr⟩⟩
  by_cases c2:x≤l[i].2
  ·obtain⟨t,hx,g4,g5⟩:=qI (lU v l x n i hi hv c c2 (by omega))
   rw[if_neg c,if_pos c2] at hr
   exact .inr ⟨.ret,t,hx,rfl,.inr ⟨rfl,_,hr,g4,g5⟩⟩
  ·rw[if_neg c,if_neg c2] at hr
   exact .inl ⟨_,HU v l x n i hi hv hw c c2 (by omega),_,l[i].2,rfl,hr,h5,by omega,by omega,by omega⟩
 ·rintro t ⟨n,last,rfl,hr,_⟩
  refine⟨.exit 0,⟨(Ix v x l.length l.length n).set 12 (.pv (.bool false)),[]⟩,?_,rfl,.inl ⟨rfl,?_⟩⟩
  ·have e1:decide ((l.length:Int) < (l.length:Int))=false:=Ia (by omega)
   simp -implicitDefEqProofs only[SP,SA,SQ,sevalprocAttr,Pb,fa,Fe,e1,Ix]
  ·rw[hr,List.drop_length];rfl
end
def sy (l:List (Int×Int)):List (Int×Int):=if Pa 255 (-2) l then l else []
theorem wg (H:List ba) (d:Nat) (p:PV):ic H d (.pv p)=some p:=by cases d <;> rfl
theorem qM (l:List (Int×Int)):Pa 255 (-2) (sy l)=true:=by
 unfold sy
 cases hb:Pa 255 (-2) l with
 |true=>exact hb
 |false=>rfl
theorem mT (l:List (Int×Int)):(sy l).length≤l.length:=by
 unfold sy
 split <;> simp
section
variable (v:PV) (l:List (Int×Int)) (hv:Th 2 v (Ld l)) (hw:l.length * 16≤140737488355328)
include hv hw
theorem XB:Nn [v]=some (.bool (Pa 255 (-2) l)):=by
 have h1:=Zl v l hv hw
 have h2:=Ct (.lit 2 (Ld l)) l (.inr rfl) (by unfold maxLen;omega) 255 (by decide)
 simp -implicitDefEqProofs only[Nn,SP,SA,SQ,sevalprocAttr,Pr,wg,Xb,h1,h2]
theorem Wx:∃ u,Tg [v]=some u∧Th 2 u (Ld (sy l)):=by
 have h1:=Zl v l hv hw
 have h2:=Ct (.lit 2 (Ld l)) l (.inr rfl) (by unfold maxLen;omega) 255 (by decide)
 unfold sy
 cases hb:Pa 255 (-2) l with
 |true=>
  rw[hb] at h2
  refine⟨.lit 2 (Ld l),?_,.inr rfl⟩
  simp -implicitDefEqProofs only[Tg,SP,SA,SQ,sevalprocAttr,Zn,wg,Xb,h1,h2]
 |false=>
  rw[hb] at h2
  refine⟨.ma,?_,.inl ⟨rfl,rfl⟩⟩
  simp -implicitDefEqProofs only[Tg,SP,SA,SQ,sevalprocAttr,Zn,wg,Xb,h1,h2]
theorem Qv (x:Int):Am [v,i64 x]=some (.Jc [i64 (Gf x 0 (sy l)).1,.bool (Gf x 0 (sy l)).2]):=by
 obtain⟨u,h1,h2⟩:=Wx v l hv hw
 have h3:=YE u (sy l) h2 (by have:=mT l;unfold maxLen;omega) x (top:=255) (by decide) (qM l)
 simp -implicitDefEqProofs only[Am,SP,SA,SQ,sevalprocAttr,vu,wg,Xb,h1,h3]
theorem fF (x:Int):gw [v,i64 x]=some (.bool (Gf x 0 (sy l)).2):=by
 have h3:=Qv v l hv hw x
 simp -implicitDefEqProofs only[gw,SP,SA,SQ,sevalprocAttr,Gw,wg,Xb,h3]
end
end Go.AM.B1
namespace Go.AM.B1
open Go.AM
theorem _root_.Go.AM.La.weaken {P:Program} {f:FuncId} {F G:List PV→Option PV} (h:La P f G) (hF:∀ xs r,F xs=some r→G xs=some r):La P f F:=
 ⟨h.1,fun w R args vs r hR hl hr=>h.2 w R args vs r hR hl (hF _ _ hr)⟩
def xz:PV→Option (Int×Int)
 | .agg [.int .i64 a,.int .i64 b]=>some (a,b)
 |_=>none
def Ry:PV→Option (List (Int×Int))
 | .ma=>some []
 | .lit 2 es=>Ra xz es
 |_=>none
theorem uM {v:PV} {p:Int×Int} (h:xz v=some p):v=pr p:=by
 unfold xz at h
 split at h
 ·injection h with h;subst h;rfl
 ·cases h
theorem YH {v:PV} {l:List (Int×Int)} (h:Ry v=some l):Th 2 v (Ld l):=by
 unfold Ry at h
 split at h
 ·injection h with h;subst h;exact .inl ⟨rfl,rfl⟩
 ·rename_i es
  refine .inr ?_
  congr 1
  induction es generalizing l with
  |nil=>simp only[Ra,Option.some.injEq] at h;subst h;rfl
  |cons e es ih=>
   simp only[Ra,Option.bind_eq_some_iff,Option.some.injEq] at h
   obtain⟨p,h1,r,h2,rfl⟩:=h
   rw[ih h2,uM h1]
   rfl
 ·cases h
def Vk:List PV→Option PV
 | [v,.int .i64 x]=>(Ry v).bind fun l=>if l.length * 16≤140737488355328 then some (.bool (Gf x 0 (sy l)).2) else none
 |_=>none
theorem sK:La P 158 Vk:=LI.weaken fun xs r h=>by
 unfold Vk at h
 split at h
 ·rename_i v x
  simp only[Option.bind_eq_some_iff] at h
  obtain⟨l,h1,h2⟩:=h
  split at h2
  ·rename_i hw
   injection h2 with h2
   rw[fF v l (YH h1) hw x,←h2]
  ·cases h2
 ·cases h
end Go.AM.B1
namespace Go.Proofs
open Go.Shelf Go.RowKit Go.Lib Go.Sort
shelf_lay_g SlLaysF0.n6 Slsf 6 at Tryz 172 as Tryz.sortRun
shelf_lay_g SlLaysC2.n5 Slgc 5 at Tryz 70 as Tryz.cmpInt
theorem XM (r:List Int):∃ a b:Int,AM.encI 2 r=[.int .i64 a,.int .i64 b]∧AM.Fw 2 0 r=a:=by
 unfold AM.encI AM.Fw
 by_cases h:r.length=2
 ·match r,h with
  | [a,b],_=>exact⟨a,b,rfl,rfl⟩
 ·rw[if_neg h,if_neg h];exact⟨0,0,rfl,rfl⟩
set_option maxHeartbeats 1000000 in
theorem gU (a b c d:Int) (W:World):Calls Tryz.prog 173 #[.agg #[.int .i64 a,.int .i64 b],.agg #[.int .i64 c,.int .i64 d]] W fun e w'=>e= .returned (.int .i64 (Lib.compareInt a c))∧∃ q os',w'=grow (W.drewN q) os':=by
 have hcon:=fun W'=>AnyG.cmp_Compare_int Tryz.cmpInt a c W'
 change ∀ W',Calls Tryz.prog 70 _ _ _ at hcon
 generalize Lib.compareInt a c=r at hcon ⊢
 go_enter Tryz.func173,Tryz.ntmps173
 go_wp2_with (go_at_call 70;refine (hcon _).mono ?_;rintro e w' ⟨rfl,rfl⟩)
 go_ret
 exact⟨rfl,0,_,by rw[alloc_eq_grow,alloc_eq_grow,grow_grow];rfl⟩
theorem IS:AM.EM Tryz.prog 172 173 2 0 where
 call:=⟨_,_,Tryz.func172,rfl,by kernel_rfl⟩
 many:=by
  intro blk ofs cap D w hH hb hs
  refine AnyQ.slices_SortFunc_eq Tryz.sortRun 2 Tryz.isAgg258 Tryz.sizeOf258 (AM.encI 2) (fun x=>by obtain⟨a,b,h,_⟩:=XM x;rw[h];rfl) (fun x v hv=>by
   obtain⟨a,b,h,_⟩:=XM x
   rw[h] at hv
   simp at hv
   rcases hv with rfl | rfl <;> rfl) (AM.TV 2 0) (AM.dW 2 0) 173 #[] blk ofs cap D w (enters_of Tryz.func173 (by kernel_rfl) rfl) (fun m os dk _ x y=> ?_) hH hb hs
  obtain⟨a,b,h1,h2⟩:=XM x
  obtain⟨c,d,h3,h4⟩:=XM y
  rw[h1,h3]
  unfold AM.TV
  rw[h2,h4]
  exact gU a b c d _
 none:=fun p cap w=>AnyF.slices_SortFunc_none Tryz.sortRun p cap _ w
end Go.Proofs
namespace Go.AM.B1
open Go.AM
def ei:Oa:=(jQ [jB 12 .lss 11 10] (.seq (jX 12 0) (.seq (.block 1 (jQ [ji 13 2 9 11,jL 14 2 13,Co 5 (.alloc [(.int .i64 0),(.int .i64 0)]),jS 2 5 14] (.seq (jQ [Cv 15 3,jn 16 0 15,Cv 6 16] (jQ [Cv 17 6,jK 18 .gtr 17 0,Cv 19 18,jT 20 19 (.kf 0 5),jT 21 19 (.kl 1 20),jT 22 19 (.km 3),jT 23 19 (.km 6),jT 24 19 (.kK .sub 23 1),jT 25 19 (.ki 2 22 24),jT 26 19 (.kf 1 25),jT 27 19 (.kl 1 26),jT 28 19 (.kK .add 27 1),jT 29 19 (.kB .leq 21 28),ja 30 19 29] (jC 30 (jQ [Cv 31 3,Cv 32 6,jK 33 .sub 32 1,Cv 34 3,Cv 35 6,jK 36 .sub 35 1,ji 37 2 34 36,jf 38 1 37,jl 39 1 38,jf 40 1 5,jl 41 1 40,Co 42 (.mx [(.t 39),(.t 41)]),ji 43 2 31 33,jf 44 1 43,jS 1 44 42] (.exit 1)) .skip))) (.region [Cv 45 3,jL 46 2 5,Co 47 (.Mb .lit 2 true 1 [(.int .i64 0),(.int .i64 0)] [(0,(.t 46))]),Co 48 (.append true .own 2 true 16 (.t 45) (.t 47)),Cv 3 48])))) (.region [jK 49 .add 11 1,Cv 11 49]))))
def yo:rf:=⟨1,[.tmp 2],(jQ [jc 2 .ma] (jQ [Cv 7 0,Co 8 (.Kj 22 [(.t 7),(.f 23)])] (jQ [jc 3 .ma] (.ghost (.FG 3 2 true) (.seq (jQ [Cv 9 0,jn 10 0 9,jk 11 0] (.block 0 (.loop [3,9,10,11] ei))) (jr [Cv 50 3,Cv 2 50]))))))⟩
theorem QH:tc P fo 156 yo:=fM Go.Proofs.Tryz.func156 dN
def Ec:Oa:=(jQ [jB 12 .lss 11 10] (.seq (jX 12 0) (.seq (.block 1 (jQ [ji 13 2 9 11,jL 14 2 13,Co 5 (.alloc [(.int .i64 0),(.int .i64 0)]),jS 2 5 14] (.region [Cv 15 3,jL 16 2 5,Co 17 (.Mb .lit 2 true 1 [(.int .i64 0),(.int .i64 0)] [(0,(.t 16))]),Co 18 (.append true .own 2 true 16 (.t 15) (.t 17)),Cv 3 18]))) (.region [jK 19 .add 11 1,Cv 11 19]))))
def gd:rf:=⟨1,[.tmp 2],(jQ [jc 2 .ma] (jQ [Cv 6 0,jn 7 0 6,Co 8 (.Zg .own 2 true [(.int .i64 0),(.int .i64 0)] 16 (.c (.int .i64 0)) (.t 7)),Cv 3 8] (.seq (jQ [Cv 9 0,jn 10 0 9,jk 11 0] (.block 0 (.loop [3,9,10,11] Ec))) (jr [Cv 20 3,Cv 2 20]))))⟩
theorem qm:tc P fo 171 gd:=fM Go.Proofs.Tryz.func171 dN
def Ki:rf:=⟨1,[.tmp 2],(jQ [jc 2 .ma] (jQ [Cv 4 0,Co 5 (.Kj 0 [(.t 4)]),Cv 3 5] (.seq (jQ [Cv 6 3,Co 7 (.fp Si [(.t 6),(.c (.int .i64 1073741823))]),jt 8 7] (jC 8 (jr [jc 2 .ma]) .skip)) (jr [Cv 9 3,Cv 2 9]))))⟩
theorem Fy:tc P fo 155 Ki:=fM Go.Proofs.Tryz.func155 (dC Mp dN)
def Lc:Oa:=(jQ [jB 12 .lss 11 10] (.seq (jX 12 0) (.seq (.block 1 (jQ [ji 13 2 9 11,jL 14 2 13,Co 5 (.alloc [(.int .i64 0),(.int .i64 0)]),jS 2 5 14] (.region [Cv 15 3,jL 16 2 5,Co 17 (.Mb .lit 2 true 1 [(.int .i64 0),(.int .i64 0)] [(0,(.t 16))]),Co 18 (.ku 2 true 16 15 17),Cv 3 18]))) (.region [jK 19 .add 11 1,Cv 11 19]))))
def xd:rf:=⟨1,[.tmp 2],(jQ [jc 2 .ma] (jQ [Cv 6 0,jn 7 0 6,Co 8 (.Zg .uq 2 true [(.int .i64 0),(.int .i64 0)] 16 (.c (.int .i64 0)) (.t 7)),Cv 3 8] (.seq (jQ [Cv 9 0,jn 10 0 9,jk 11 0] (.block 0 (.loop [3,9,10,11] Lc))) (jr [Cv 20 3,Cv 2 20]))))⟩
theorem Um:tc P fo 170 xd:=fM Go.Proofs.Tryz.func170 dN
def Ck:rf:=⟨1,[.tmp 2],(jQ [jc 2 .ma] (jr [Cv 3 0,Co 4 (.Kj 2 [(.t 3)]),Cv 2 4]))⟩
theorem Zx:tc P fo 153 Ck:=fM Go.Proofs.Tryz.func153 dN
def Io:rf:=⟨2,[.tmp 4],(jQ [jc 4 .ma] (jr [Cv 5 0,Co 6 (.Kj 1 [(.t 5)]),Cv 7 1,Co 8 (.Kj 1 [(.t 7)]),Co 9 (.append true .own 2 true 16 (.t 6) (.t 8)),Co 10 (.Kj 24 [(.t 9)]),Co 11 (.Kj 3 [(.t 10)]),Cv 4 11]))⟩
theorem Yz:tc P fo 126 Io:=fM Go.Proofs.Tryz.func126 dN
def Hb:Nat→Option rf
 |24=>some yo
 |0=>some gd
 |1=>some Ki
 |2=>some xd
 |3=>some Ck
 |_=>none
theorem Gz:Ll P fo Hb:=by
 intro ix af h
 unfold Hb at h
 split at h
 ·injection h with h;subst h;exact QH
 ·injection h with h;subst h;exact qm
 ·injection h with h;subst h;exact Fy
 ·injection h with h;subst h;exact Um
 ·injection h with h;subst h;exact Zx
 ·cases h
def Zj:ab:=fun ix args H=>if ix=22 then mz 2 0 23 args H else none
theorem QP (B0:kg):Gq P fo B0 Zj:=RJ (s:=22) (g:=23) Go.Proofs.IS B0
def Kl:=gB Zj Hb Io
theorem fC:La P 126 Kl:=AJ Gz QP Yz
def Kb:Oa:=(jQ [jB 15 .lss 14 13] (.seq (jX 15 0) (.seq (.block 1 (jQ [ji 16 2 12 14,jL 17 2 16,Co 5 (.alloc [.ma,(.int .i64 0)]),jS 2 5 17] (.seq (jQ [jf 18 0 5,jl 19 1 18,jn 20 0 19,jK 21 .lss 20 1,Cv 22 21,jF 23 22 (.kf 0 5),jF 24 22 (.kl 1 23),jF 25 22 (.kn 0 24),jF 26 22 (.kK .gtr 25 8),jo 27 22 26,Cv 28 27,jF 29 28 (.kf 1 5),jF 30 28 (.kl 1 29),jF 31 28 (.kK .lss 30 0),jo 32 28 31,Cv 33 32,jF 34 33 (.kf 1 5),jF 35 33 (.kl 1 34),jF 36 33 (.kK .gtr 35 1073741823),jo 37 33 36,Cv 38 37,jF 39 38 (.kf 0 5),jF 40 38 (.kl 1 39),jF 41 38 (.Kj 6 [(.t 40),(.f 7)]),jo 42 38 41] (jC 42 (jr [jb 2 false]) .skip)) (jQ [jf 43 1 5,jl 44 1 43,jL 45 2 5,jp 46 Un 45,Co 47 (.build [(.int .i64 0),(.int .i64 0)] [(0,1,(.t 44)),(1,1,(.t 46))]),Co 48 (.Mb .lit 2 true 1 [(.int .i64 0),(.int .i64 0)] [(0,(.t 47))]),Cv 6 48] (.seq (jQ [Cv 49 6,Co 50 (.kj 2 49 0),jf 51 1 50,jl 52 1 51,jK 53 .gtr 52 1073741823,Cv 54 53,jF 55 54 (.km 3),jF 56 54 (.km 6),jF 57 54 (.kq Km 55 56),jF 58 54 (.kn 0 57),jF 59 54 (.kK .gtr 58 0),jo 60 54 59] (jC 60 (jr [jb 2 false]) .skip)) (.region [Cv 61 3,Cv 62 6,jq 63 Kl 61 62,Cv 3 63])))))) (.region [jK 64 .add 14 1,Cv 14 64]))))
def Sk:rf:=⟨1,[.tmp 2],(jQ [jR 1 1 0,jb 2 false] (.seq (jQ [Jf 7 0 1,Jl 8 1 7,jn 9 0 8,jK 10 .gtr 9 32] (jC 10 (jr [jb 2 false]) .skip)) (jQ [jc 3 .ma] (.seq (jQ [Jf 11 0 1,Jl 12 1 11,jn 13 0 12,jk 14 0] (.block 0 (.loop [3,12,13,14] Kb))) (jr [jb 2 true])))))⟩
theorem gC:tc P fo 93 Sk:=fM Go.Proofs.Tryz.func93 (dC zF (dC OE (dC fC dN)))
def bc:Nat→Option rf
 |5=>some Ac
 |6=>some Jb
 |7=>some Tj
 |_=>none
theorem CA:Ll P fo bc:=by
 intro ix af h
 unfold bc at h
 split at h
 ·injection h with h;subst h;exact rl
 ·injection h with h;subst h;exact rk
 ·injection h with h;subst h;exact OD
 ·cases h
def Yf:=Wb bc Sk
theorem Ew:La P 93 Yf:=Ha CA gC
def Ir:rf:=⟨1,[.tmp 2],(jQ [jR 1 2 0,jb 2 false] (jr [JL 3 2 1,Co 4 (.Mb .lit 2 true 1 [.ma,(.int .i64 0)] [(0,(.t 3))]),Co 5 (.build [.ma] [(0,1,(.t 4))]),jp 6 Yf 5,Cv 2 6]))⟩
theorem ND:tc P fo 102 Ir:=fM Go.Proofs.Tryz.func102 (dC Ew dN)
def Vi:=Wb (fun _=>none) Ir
theorem Rn:La P 102 Vi:=Ha Sa ND
def Zf:Oa:=(jQ [jB 36 .lss 35 34] (.seq (jX 36 0) (.seq (.block 1 (jQ [Cv 37 35,Cv 9 37] (jQ [Jf 38 0 3,Jl 39 1 38,Cv 40 9,Ji 41 1 39 40,Jl 42 1 41,Jf 43 0 4,Jl 44 1 43,Cv 45 9,Ji 46 1 44 45,Jl 47 1 46,jq 48 Gp 42 47,Cv 10 48] (.seq (jQ [Cv 49 10,jn 50 0 49,jK 51 .eql 50 0] (jC 51 (jr [jc 6 .ma,jb 7 false]) .skip)) (.region [Cv 52 8,Cv 53 10,Co 54 (.kj 2 53 0),jf 55 0 54,jl 56 1 55,Co 57 (.conv .u8 (.t 56)),Co 58 (.Mb .lit 1 false 1 [(.int .u8 0)] [(0,(.t 57))]),Co 59 (.ku 1 false 1 52 58),Cv 8 59]))))) (.region [jK 60 .add 35 1,Cv 35 60]))))
def Jk:rf:=⟨3,[.tmp 6,.tmp 7],(jQ [jR 3 2 0,jR 4 2 1,jc 6 .ma,jb 7 false] (.seq (jQ [JL 11 2 3,jp 12 Vi 11,jt 13 12,Cv 14 13,JF 15 14 (.kL 2 4),jF 16 14 (.kp Vi 15),jF 17 14 (.kt 16),jo 18 14 17,Cv 19 18,jF 20 19 (.km 2),jF 21 19 (.kK .lss 20 0),jo 22 19 21,Cv 23 22,jF 24 23 (.km 2),JF 25 23 (.kf 0 3),JF 26 23 (.kl 1 25),jF 27 23 (.kn 0 26),JF 28 23 (.kf 0 4),JF 29 23 (.kl 1 28),jF 30 23 (.kn 0 29),jF 31 23 (.mn [(.t 27),(.t 30)]),jF 32 23 (.kB .gtr 24 31),jo 33 23 32] (jC 33 (jr [jc 6 .ma,jb 7 false]) .skip)) (jQ [jc 8 .ma] (.ghost (.sJ 8 1) (.seq (jQ [Cv 34 2,jk 35 0] (.block 0 (.loop [3,4,8,34,35] Zf))) (jr [Cv 61 8,Cv 6 61,jb 7 true]))))))⟩
theorem nC:tc P fo 132 Jk:=fM Go.Proofs.Tryz.func132 (dC Rn (dC Rn (dC SH dN)))
def ni:=Wb (fun _=>none) Jk
theorem mE:La P 132 ni:=Ha Sa nC
def Lh:Oa:=(.seq (jQ [Cv 14 5,jK 15 .gtr 14 0] (jX 15 0)) (.seq (.block 1 (jQ [Cv 18 3,Cv 19 5,Cv 20 4,ji 21 1 18 19,jS 1 21 20] (.region [Cv 22 4,Jf 23 0 1,Jl 24 1 23,Cv 25 5,jK 26 .sub 25 1,ji 27 1 24 26,jl 28 1 27,jp 29 Cm 28,jB 30 .mul 22 29,Cv 4 30]))) (.region [Cv 16 5,jK 17 .sub 16 1,Cv 5 17])))
def Kr:rf:=⟨1,[.tmp 2],(jQ [jR 1 2 0,jc 2 .ma] (jQ [Jf 6 0 1,Jl 7 1 6,jn 8 0 7,jK 9 .add 8 1,Co 10 (.Zg .own 1 false [(.int .i64 0)] 8 (.t 9) (.t 9)),Cv 3 10] (jQ [jk 4 1] (.seq (jQ [Jf 11 0 1,Jl 12 1 11,jn 13 0 12,Cv 5 13] (.block 0 (.loop [1,3,4,5] Lh))) (jQ [Cv 31 3,Cv 32 4,Co 33 (.kj 1 31 0),jS 1 33 32] (jr [Cv 34 3,Cv 2 34]))))))⟩
theorem NC:tc P fo 103 Kr:=fM Go.Proofs.Tryz.func103 (dC Az dN)
def Dl:=Wb (fun _=>none) Kr
theorem Ox:La P 103 Dl:=Ha Sa NC
def gh:Oa:=(jQ [jB 27 .lss 26 25] (.seq (jX 27 0) (.seq (.block 1 (jQ [Cv 28 26,ji 29 1 24 26,jl 30 1 29,Cv 7 28,Cv 8 30] (jQ [Jf 32 0 2,Jl 33 1 32,Cv 34 7,Ji 35 1 33 34,Jl 36 1 35,Cv 37 1,Cv 38 7,Ji 39 1 37 38,Jl 40 1 39,Cp 41 (.conv .i64 (.t 40)),jq 42 Am 36 41,Cv 31 42,jx 43 0 31,jx 44 1 31,Cv 9 43,Cv 10 44] (.seq (jQ [Cv 45 10,jt 46 45] (jC 46 (jr [jk 4 0,jb 5 false]) .skip)) (.region [Cv 47 6,Cv 48 9,Cv 49 8,jB 50 .mul 48 49,jB 51 .add 47 50,Cv 6 51]))))) (.region [jK 52 .add 26 1,Cv 26 52]))))
def Wm:rf:=⟨2,[.tmp 4,.tmp 5],(jQ [jR 2 2 0,jk 4 0,jb 5 false] (.seq (jQ [JL 11 2 2,jp 12 Vi 11,jt 13 12,Cv 14 13,jF 15 14 (.km 1),jF 16 14 (.kn 0 15),JF 17 14 (.kf 0 2),JF 18 14 (.kl 1 17),jF 19 14 (.kn 0 18),jF 20 14 (.kB .neq 16 19),jo 21 14 20] (jC 21 (jr [jk 4 0,jb 5 false]) .skip)) (jQ [jk 6 0] (.seq (jQ [JL 22 2 2,jp 23 Dl 22,Co 24 (.slice 1 (.t 23) (some (.c (.int .i64 1))) none),jn 25 0 24,jk 26 0] (.block 0 (.loop [1,2,6,24,25,26] gh))) (jr [Cv 53 6,Cv 4 53,jb 5 true])))))⟩
theorem dF:tc P fo 160 Wm:=fM Go.Proofs.Tryz.func160 (dC Rn (dC Ox (dC Tz dN)))
def Qi:=Wb (fun _=>none) Wm
theorem gH:La P 160 Qi:=Ha Sa dF
def Rh:Oa:=(jQ [jB 20 .lss 19 18] (.seq (jX 20 0) (.seq (.block 1 (jQ [ji 21 1 17 19,jl 22 1 21,Cv 7 22] (.region [Cv 23 5,Cv 24 7,Co 25 (.kj 2 24 0),jf 26 0 25,jl 27 1 26,Co 28 (.conv .u8 (.t 27)),Co 29 (.Mb .lit 1 false 1 [(.int .u8 0)] [(0,(.t 28))]),Co 30 (.ku 1 false 1 23 29),Cv 5 30]))) (.region [jK 31 .add 19 1,Cv 19 31]))))
def Dr:rf:=⟨2,[.tmp 4],(jQ [jR 2 2 0,jk 4 0] (jQ [Co 10 (.Mb .uq 1 false 0 [(.int .u8 0)] []),Cv 11 1,Co 12 (.ku 1 false 1 10 11),Cv 5 12] (.seq (jQ [Jf 13 0 2,Jl 14 1 13,Cv 15 1,jn 16 0 15,Co 17 (.slice 1 (.t 14) (some (.t 16)) none),jn 18 0 17,jk 19 0] (.block 0 (.loop [2,5,17,18,19] Rh))) (jQ [JL 33 2 2,Cv 34 5,jq 35 Qi 33 34,Cv 32 35,jx 36 0 32,jx 37 1 32,Cv 8 36,Cv 9 37] (jr [Jf 38 1 2,Jl 39 1 38,Cv 40 8,jB 41 .add 39 40,Cv 4 41])))))⟩
theorem LD:tc P fo 133 Dr:=fM Go.Proofs.Tryz.func133 (dC gH dN)
def Uj:=Wb (fun _=>none) Dr
theorem Mx:La P 133 Uj:=Ha Sa LD
def fg:Oa:=(jQ [jB 30 .lss 29 28] (.seq (jX 30 2) (.seq (.block 3 (jQ [Cv 31 29,ji 32 2 27 29,jL 33 2 32,Co 10 (.alloc [.ma,(.int .i64 0)]),Cv 9 31,jS 2 10 33] (.seq (jQ [Cv 34 1,Cv 35 7,Cv 36 9,Co 37 (.eB (.t 34) [(.t 35),(.t 36)]),jt 38 37] (jC 38 (.exit 3) .skip)) (jQ [jL 40 2 8,jL 41 2 10,jf 42 0 8,jl 43 1 42,jn 44 0 43,Co 45 (.kr ni 40 41 44),Cv 39 45,jx 46 0 39,jx 47 1 39,Cv 11 46,Cv 12 47] (jQ [Cv 48 12] (jC 48 (jQ [jL 49 2 8,Cv 50 11,jq 51 Uj 49 50,jL 52 2 10,Cv 53 11,jq 54 Uj 52 53,Co 55 (.build [(.bool false),(.int .i64 0),(.int .i64 0)] [(1,1,(.t 51)),(2,1,(.t 54))]),jS 3 6 55] (.exit 0)) .skip)))))) (.region [jK 56 .add 29 1,Cv 29 56]))))
def Gi:Oa:=(jQ [jB 22 .lss 21 20] (.seq (jX 22 0) (.seq (.block 1 (jQ [Cv 23 21,ji 24 2 19 21,jL 25 2 24,Co 8 (.alloc [.ma,(.int .i64 0)]),Cv 7 23,jS 2 8 25] (jQ [Jf 26 0 2,Jl 27 1 26,jn 28 0 27,jk 29 0] (.block 2 (.loop [1,2,4,6,7,8,19,20,21,27,28,29] fg))))) (.region [jK 57 .add 21 1,Cv 21 57]))))
def ig:rf:=⟨2,[.cell 4 true 3,.tmp 5],(jQ [jR 2 1 0,Co 4 (.alloc [(.bool false),(.int .i64 0),(.int .i64 0)]),jk 5 0] (.scope (.seq (jQ [JL 13 1 2,jp 14 Yf 13,jt 15 14] (jC 15 (jr [Co 16 (.build [(.bool false),(.int .i64 0),(.int .i64 0)] []),jS 3 4 16,jk 5 84]) .skip)) (jQ [Co 17 (.build [(.bool false),(.int .i64 0),(.int .i64 0)] [(0,1,(.c (.bool true)))]),Co 6 (.alloc [(.bool false),(.int .i64 0),(.int .i64 0)]),jS 3 6 17] (.seq .skip (.seq (jQ [Jf 18 0 2,Jl 19 1 18,jn 20 0 19,jk 21 0] (.block 0 (.loop [1,2,4,6,19,20,21] Gi))) (jr [jL 58 3 6,jS 3 4 58,jk 5 0])))))))⟩
theorem Zu:tc P fo 99 ig:=fM Go.Proofs.Tryz.func99 (dC Ew (dC mE (dC Mx (dC Mx dN))))
def Tm:rf:=⟨1,[.cell 2 true 3,.tmp 3],(jQ [Co 1 (.box 1 (.t 0)),Co 2 (.alloc [(.bool false),(.int .i64 0),(.int .i64 0)]),jk 3 0] (jr [jL 4 1 1,Co 5 (.rH 4 [(.t 1)]),Co 6 (.Kj 25 [(.t 4),(.t 5)]),jx 7 0 6,jx 8 1 6,jS 3 2 7,Cv 3 8]))⟩
theorem mC:tc P fo 95 Tm:=fM Go.Proofs.Tryz.func95 dN
def ij:Nat→Option rf
 |4=>some Ih
 |25=>some ig
 |_=>none
theorem GA:Ll P fo ij:=by
 intro ix af h
 unfold ij at h
 split at h
 ·injection h with h;subst h;exact Oy
 ·injection h with h;subst h;exact Zu
 ·cases h
def ze:=Wb ij Tm
theorem vD:La P 95 ze:=Ha GA mC
def je:rf:=⟨1,[.tmp 2],(jQ [jc 2 .ma] (.seq (jQ [Cv 3 0,Co 4 (.eq 2 false (.t 3) (.c .ma))] (jC 4 (jr [jc 2 .ma]) .skip)) (jr [Co 5 (.Mb .uq 2 true 0 [(.int .i64 0),(.int .i64 0)] []),Cv 6 0,Co 7 (.ku 2 true 16 5 6),Cv 2 7])))⟩
theorem om:tc P fo 101 je:=fM Go.Proofs.Tryz.func101 dN
def Yc:=Wb (fun _=>none) je
theorem Em:La P 101 Yc:=Ha Sa om
def Kh:Oa:=(jQ [jB 23 .lss 22 21] (.seq (jX 23 2) (.seq (.block 3 (jQ [ji 24 1 20 22,jl 25 1 24,Cv 8 25] (.region [jf 26 0 6,jl 27 1 26,Cv 28 8,jp 29 Yc 28,Co 30 (.Mb .lit 1 false 1 [.ma] [(0,(.t 29))]),Co 31 (.ku 1 false 24 27 30),jf 32 0 6,jS 1 32 31]))) (.region [jK 33 .add 22 1,Cv 22 33]))))
def Mh:Oa:=(jQ [jB 13 .lss 12 11] (.seq (jX 13 0) (.seq (.block 1 (jQ [ji 14 2 10 12,jL 15 2 14,Co 5 (.alloc [.ma,(.int .i64 0)]),jS 2 5 15] (jQ [jf 16 1 5,jl 17 1 16,Co 18 (.build [.ma,(.int .i64 0)] [(1,1,(.t 17))]),Co 6 (.alloc [.ma,(.int .i64 0)]),jS 2 6 18] (.ghost (.mv 6 0 1) (.seq (jQ [jf 19 0 5,jl 20 1 19,jn 21 0 20,jk 22 0] (.block 2 (.loop [2,3,6,10,11,12,20,21,22] Kh))) (.region [jf 34 0 3,jl 35 1 34,jL 36 2 6,Co 37 (.Mb .lit 2 true 1 [.ma,(.int .i64 0)] [(0,(.t 36))]),Co 38 (.ku 2 true 32 35 37),jf 39 0 3,jS 1 39 38])))))) (.region [jK 40 .add 12 1,Cv 12 40]))))
def Ln:rf:=⟨1,[.cell 2 true 1],(jQ [jR 1 1 0,Co 2 (.alloc [.ma])] (jQ [Co 3 (.alloc [.ma])] (.ghost (.mv 3 0 2) (.seq (jQ [Jf 9 0 1,Jl 10 1 9,jn 11 0 10,jk 12 0] (.block 0 (.loop [2,3,10,11,12] Mh))) (jr [jL 41 1 3,jS 1 2 41])))))⟩
theorem DC:tc P fo 65 Ln:=fM Go.Proofs.Tryz.func65 (dC Em dN)
def Eh:=Wb (fun _=>none) Ln
theorem Er:La P 65 Eh:=Ha Sa DC
def Wd:rf:=⟨2,[.tmp 4,.tmp 5],(jQ [jR 3 2 1,jk 4 0,jb 5 false] (jQ [Cv 9 0,jz 10 9,jf 11 1 10,jl 12 1 11,JL 13 2 3,Co 14 (.lookup (.row [1,1]) (.int .i64 0) true (.t 12) (.t 13)),Cv 8 14,jx 15 0 8,jx 16 1 8,Cv 6 15,Cv 7 16] (.seq (jQ [Cv 17 7,jt 18 17] (jC 18 (jQ [Cv 19 0,jz 20 19,jf 21 2 20,jl 22 1 21,jn 23 0 22,Cv 6 23] (.seq (jQ [Cv 24 6,jK 25 .eql 24 64] (jC 25 (jr [jk 4 0,jb 5 false]) .skip)) (jQ [Cv 26 0,jz 27 26,jf 28 1 27,jl 29 1 28,JL 30 2 3,Cv 31 6,Ce (.xu (.row [1,1]) (.t 29) (.t 30) (.t 31))] (.region [Cv 32 0,Cv 33 0,jz 34 33,jf 35 2 34,jl 36 1 35,JL 37 2 3,Co 38 (.Mb .lit 2 true 1 [(.int .i64 0),(.int .u32 0)] [(0,(.t 37))]),Co 39 (.ku 2 true 16 36 38),jz 40 32,jf 41 2 40,jS 1 41 39])))) .skip)) (jr [Cv 42 6,Cv 4 42,jb 5 true]))))⟩
theorem xx:tc P fo 129 Wd:=fM Go.Proofs.Tryz.func129 dN
def Db:Oa:=(jQ [jB 19 .lss 18 17] (.seq (jX 19 0) (.seq (.block 1 (jQ [Cv 20 18,ji 21 2 16 18,jL 22 2 21,Co 11 (.alloc [.ma,(.int .i64 0)]),Cv 10 20,jS 2 11 22] (jQ [Jf 23 1 4,Jl 24 1 23,Cv 25 10,jB 26 .shr 24 25,Co 27 (.bin .and (.t 26) (.c (.int .u32 1))),Co 28 (.bin .eql (.t 27) (.c (.int .u32 1))),Cv 29 28,jT 30 29 (.kf 0 11),jT 31 29 (.kl 1 30),JT 32 29 (.kf 0 4),JT 33 29 (.kl 1 32),jT 34 29 (.ki 1 31 33),jT 35 29 (.kl 1 34),jT 36 29 (.km 2),jT 37 29 (.kq Vk 35 36),ja 38 29 37] (jC 38 (jQ [Cv 39 8,Cv 40 10,Co 41 (.bin .shl (.c (.int .u32 1)) (.t 40)),jB 42 .or 39 41,Cv 8 42] (.region [Cv 43 9,Cv 44 43,jF 45 44 (.kf 0 11),jF 46 44 (.kl 1 45),jF 47 44 (.kn 0 46),JF 48 44 (.kf 0 4),JF 49 44 (.kl 1 48),jF 50 44 (.kK .add 49 1),jF 51 44 (.kB .eql 47 50),jo 52 44 51,Cv 9 52])) .skip)))) (.region [jK 53 .add 18 1,Cv 18 53]))))
def ui:rf:=⟨3,[.tmp 6,.tmp 7],(jQ [jR 4 2 1,Co 6 (.move (.c (.int .u32 0))),jb 7 false] (jQ [Co 8 (.move (.c (.int .u32 0)))] (jQ [jb 9 false] (.seq (jQ [Cv 12 0,jz 13 12,jf 14 0 13,jf 15 0 14,jl 16 1 15,jn 17 0 16,jk 18 0] (.block 0 (.ep [2,4,8,9,16,17,18] Db))) (jr [Cv 54 8,Cv 55 9,Cv 6 54,Cv 7 55])))))⟩
theorem Ju:tc P fo 130 ui:=fM Go.Proofs.Tryz.func130 (dC sK dN)
def Ka:Oa:=(jQ [jK 31 .lss 30 256] (.seq (jX 31 2) (.seq (.block 3 (jQ [Cv 32 30,Cv 5 32] (jQ [Cv 34 0,Cv 35 0,jz 36 35,jf 37 2 36,jl 38 1 37,Cv 39 3,ji 40 2 38 39,jL 41 2 40,Cv 42 5,Co 43 (.Kj 27 [(.t 34),(.t 41),(.t 42)]),Cv 33 43,jx 44 0 33,jx 45 1 33,Cv 6 44,Cv 7 45] (.block 4 (jQ [Cv 68 6,Co 69 (.bin .eql (.t 68) (.c (.int .u32 0))),Cv 67 69] (jC 67 (.region [Cv 70 5,Co 71 (.kA 256 1 4 70),Ce (.store 1 (.t 71) (.c (.int .i64 (-2))))]) (jQ [Cv 73 7,Cv 72 73] (jC 72 (.region [Cv 74 5,Co 75 (.kA 256 1 4 74),Ce (.store 1 (.t 75) (.c (.int .i64 (-1))))]) (jQ [Cv 47 0,Cv 48 0,jz 49 48,jf 50 2 49,jl 51 1 50,Cv 52 3,ji 53 2 51 52,jf 54 0 53,jl 55 1 54,jK 56 .add 55 1,Cv 57 6,Co 58 (.build [(.int .i64 0),(.int .u32 0)] [(0,1,(.t 56)),(1,1,(.t 57))]),Co 59 (.Kj 26 [(.t 47),(.t 58)]),Cv 46 59,jx 60 0 46,jx 61 1 46,Cv 8 60,Cv 9 61] (.seq (jQ [Cv 62 9,jt 63 62] (jC 63 (jr [jb 2 false]) .skip)) (.region [Cv 64 5,Cv 65 8,Co 66 (.kA 256 1 4 64),jS 1 66 65]))))))))))) (.region [jK 76 .add 30 1,Cv 30 76]))))
def Ab:Oa:=(.seq (jQ [Cv 21 3,Cv 22 0,jz 23 22,jf 24 2 23,jl 25 1 24,jn 26 0 25,jB 27 .lss 21 26] (jX 27 0)) (.seq (.block 1 (jQ [Co 4 (.alloc (List.replicate 256 (.int .i64 0)))] (.seq (jQ [jk 30 0] (.block 2 (.loop [0,3,4,30] Ka))) (.region [Cv 77 0,Cv 78 0,jz 79 78,jf 80 3 79,jl 81 1 80,jL 82 256 4,Co 83 (.Mb .lit 256 true 1 (List.replicate 256 (.int .i64 0)) [(0,(.t 82))]),Co 84 (.append true .own 256 true 2048 (.t 81) (.t 83)),jz 85 77,jf 86 3 85,jS 1 86 84])))) (.region [Cv 28 3,jK 29 .add 28 1,Cv 3 29])))
def ng:rf:=⟨1,[.tmp 2],(jQ [jb 2 false] (jQ [Cv 10 0,Cv 11 0,jz 12 11,jf 13 0 12,jf 14 0 13,jl 15 1 14,jn 16 0 15,Co 17 (.bin .shl (.c (.int .u32 1)) (.t 16)),Co 18 (.bin .sub (.t 17) (.c (.int .u32 1))),Co 19 (.build [(.int .i64 0),(.int .u32 0)] [(1,1,(.t 18))]),Co 20 (.Kj 26 [(.t 10),(.t 19)])] (.seq (jQ [jk 3 0] (.block 0 (.loop [0,3] Ab))) (jr [jb 2 true]))))⟩
theorem iw:tc P fo 96 ng:=fM Go.Proofs.Tryz.func96 dN
end Go.AM.B1
