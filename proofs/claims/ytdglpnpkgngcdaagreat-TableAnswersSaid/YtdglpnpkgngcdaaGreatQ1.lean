/- What functions of the program compute. -/
import Derived.Test.YtdglpnpkgngcdaaGreatG3
import Derived.Test.YtdglpnpkgngcdaaGreatProg
import Derived.Shelf.SlicesG.Cmp
import Derived.Shelf.Lay
import Derived.Ground.SlsfProg
import Derived.Ground.SlgcProg
set_option linter.unusedVariables false
namespace Go.AM.B1
open Go.AM
noncomputable abbrev P:Program:=Go.Proofs.Tryz.prog
def fo:Nat→FuncId
 |0=>171
 |1=>155
 |2=>170
 |3=>153
 |4=>128
 |5=>151
 |6=>122
 |7=>123
 |8=>181
 |9=>189
 |22=>172
 |23=>173
 |24=>156
 |25=>99
 |26=>129
 |27=>130
 |28=>96
 |29=>97
 |30=>98
 |31=>25
 |34=>68
 |35=>162
 |36=>69
 |37=>100
 |38=>135
 |39=>104
 |40=>113
 |41=>114
 |60=>34
 |61=>37
 |62=>85
 |63=>56
 |64=>38
 |65=>58
 |66=>40
 |67=>53
 |68=>54
 |69=>57
 |70=>26
 |72=>60
 |73=>24
 |74=>50
 |75=>47
 |76=>89
 |77=>119
 |78=>49
 |79=>44
 |130=>77
 |131=>80
 |132=>101
 |133=>20
 |134=>21
 |135=>23
 |136=>22
 |137=>79
 |138=>65
 |139=>15
 |140=>62
 |_=>0
theorem Sa:Vl P fo (fun _=>none):=fun ix af h=>by cases h
def Jc:Na:=(jQ [jB 12 .lss 11 10] (.seq (jX 12 0) (.seq (.block 1 (jQ [ji 13 2 9 11,jL 14 2 13,Co 5 (.alloc [(.int .i64 0),(.int .i64 0)]),jS 2 5 14] (.region [Cv 15 3,jL 16 2 5,Co 17 (.Yb .lit 2 true 1 [(.int .i64 0),(.int .i64 0)] [(0,(.t 16))]),Co 18 (.ku 2 true 16 15 17),Cv 3 18]))) (.region [jK 19 .add 11 1,Cv 11 19]))))
def Fh:Hf:=⟨1,[.tmp 2],(jQ [jc 2 .pa] (jQ [Cv 6 0,jn 7 0 6,Co 8 (.Tg .uq 2 true [(.int .i64 0),(.int .i64 0)] 16 (.c (.int .i64 0)) (.t 7)),Cv 3 8] (.seq (jQ [Cv 9 0,jn 10 0 9,jk 11 0] (.block 0 (.loop [3,9,10,11] Jc))) (jr [Cv 20 3,Cv 2 20]))))⟩
theorem gp:vc P fo 163 Fh:=fM Go.Proofs.Tryz.func163 dN
def fc:=Xb (fun _=>none) Fh
theorem Gk:Ma P 163 fc:=Ja Sa gp
def zd:Na:=(jQ [jB 11 .lss 10 9] (.seq (jX 11 0) (.seq (.block 1 (jQ [ji 12 2 8 10,jL 13 2 12,Co 7 (.alloc [(.int .i64 0),(.int .i64 0)]),jS 2 7 13] (.seq (jQ [jf 14 0 7,jl 15 1 14,jK 16 .lss 15 0,Cv 17 16,jF 18 17 (.kf 0 7),jF 19 17 (.kl 1 18),jF 20 17 (.kf 1 7),jF 21 17 (.kl 1 20),jF 22 17 (.kB .gtr 19 21),jo 23 17 22,Cv 24 23,jF 25 24 (.kf 1 7),jF 26 24 (.kl 1 25),jF 27 24 (.km 1),jF 28 24 (.kB .gtr 26 27),jo 29 24 28,Cv 30 29,jF 31 30 (.kf 0 7),jF 32 30 (.kl 1 31),jF 33 30 (.kK .sub 32 1),jF 34 30 (.km 5),jF 35 30 (.kB .leq 33 34),jo 36 30 35] (jC 36 (jr [jb 4 false]) .skip)) (.region [jf 37 1 7,jl 38 1 37,Cv 5 38])))) (.region [jK 39 .add 10 1,Cv 10 39]))))
def Kp:Hf:=⟨2,[.tmp 4],(jQ [jb 4 false] (jQ [jk 5 (-2)] (.seq (jQ [Cv 8 0,jn 9 0 8,jk 10 0] (.block 0 (.loop [1,5,8,9,10] zd))) (jr [jb 4 true]))))⟩
theorem DF:vc P fo 164 Kp:=fM Go.Proofs.Tryz.func164 dN
def Qi:=Xb (fun _=>none) Kp
theorem Fp:Ma P 164 Qi:=Ja Sa DF
def Qr:Hf:=⟨1,[.tmp 2],(jQ [jb 2 false] (jr [Cv 3 0,jp 4 fc 3,Co 5 (.Ap Qi [(.t 4),(.c (.int .i64 255))]),Cv 2 5]))⟩
theorem XE:vc P fo 152 Qr:=fM Go.Proofs.Tryz.func152 (dC Gk (dC Fp dN))
def Xn:=Xb (fun _=>none) Qr
theorem MF:Ma P 152 Xn:=Ja Sa XE
def zo:Hf:=⟨1,[.tmp 2],(jQ [jc 2 .pa] (jQ [Cv 4 0,jp 5 fc 4,Cv 3 5] (.seq (jQ [Cv 6 3,Co 7 (.Ap Qi [(.t 6),(.c (.int .i64 255))]),jt 8 7] (jC 8 (jr [jc 2 .pa]) .skip)) (jr [Cv 9 3,Cv 2 9]))))⟩
theorem BH:vc P fo 136 zo:=fM Go.Proofs.Tryz.func136 (dC Gk (dC Fp dN))
def ah:=Xb (fun _=>none) zo
theorem bo:Ma P 136 ah:=Ja Sa BH
def Qk:Na:=(jQ [jB 9 .lss 8 7] (.seq (jX 9 0) (.seq (.block 1 (jQ [ji 10 2 6 8,jL 11 2 10,Co 5 (.alloc [(.int .i64 0),(.int .i64 0)]),jS 2 5 11] (.region [Cv 12 3,jf 13 1 5,jl 14 1 13,jf 15 0 5,jl 16 1 15,jB 17 .sub 14 16,jK 18 .add 17 1,jB 19 .add 12 18,Cv 3 19]))) (.region [jK 20 .add 8 1,Cv 8 20]))))
def nw:Hf:=⟨1,[.tmp 2],(jQ [jk 2 0] (jQ [jk 3 0] (.seq (jQ [Cv 6 0,jn 7 0 6,jk 8 0] (.block 0 (.loop [3,6,7,8] Qk))) (jr [Cv 21 3,Cv 2 21]))))⟩
theorem ZH:vc P fo 161 nw:=fM Go.Proofs.Tryz.func161 dN
def Sq:=Xb (fun _=>none) nw
theorem UI:Ma P 161 Sq:=Ja Sa ZH
def vu:Hf:=⟨1,[.tmp 2],(jQ [jk 2 0] (jr [Cv 3 0,jp 4 ah 3,jp 5 Sq 4,Cv 2 5]))⟩
theorem BF:vc P fo 134 vu:=fM Go.Proofs.Tryz.func134 (dC bo (dC UI dN))
def Tm:=Xb (fun _=>none) vu
theorem zz:Ma P 134 Tm:=Ja Sa BF
def qn:Na:=(jQ [jB 12 .lss 11 10] (.seq (jX 12 0) (.seq (.block 1 (jQ [ji 13 2 9 11,jL 14 2 13,Co 5 (.alloc [(.int .i64 0),(.int .i64 0)]),jS 2 5 14] (.region [Cv 15 3,jL 16 2 5,Co 17 (.Yb .lit 2 true 1 [(.int .i64 0),(.int .i64 0)] [(0,(.t 16))]),Co 18 (.ku 2 true 16 15 17),Cv 3 18]))) (.region [jK 19 .add 11 1,Cv 11 19]))))
def Pj:Hf:=⟨1,[.tmp 2],(jQ [jc 2 .pa] (jQ [Cv 6 0,jn 7 0 6,Co 8 (.Tg .uq 2 true [(.int .i64 0),(.int .i64 0)] 16 (.c (.int .i64 0)) (.t 7)),Cv 3 8] (.seq (jQ [Cv 9 0,jn 10 0 9,jk 11 0] (.block 0 (.loop [3,9,10,11] qn))) (jr [Cv 20 3,Cv 2 20]))))⟩
theorem Ho:vc P fo 171 Pj:=fM Go.Proofs.Tryz.func171 dN
def sh:=Xb (fun _=>none) Pj
theorem Vo:Ma P 171 sh:=Ja Sa Ho
def fg:Na:=(.seq (jQ [Cv 8 0,jn 9 0 8,jK 10 .gtr 9 0,Cv 11 10,jT 12 11 (.km 1),jT 13 11 (.kn 0 12),jT 14 11 (.kK .gtr 13 0),ja 15 11 14] (jX 15 0)) (.block 1 (jQ [Cv 16 0,Cp 17 (.kj 2 16 0),jf 18 0 17,jl 19 1 18,Cv 20 1,Cp 21 (.kj 2 20 0),jf 22 0 21,jl 23 1 22,Co 24 (.mx [(.t 19),(.t 23)]),Cv 25 0,Cp 26 (.kj 2 25 0),jf 27 1 26,jl 28 1 27,Cv 29 1,Cp 30 (.kj 2 29 0),jf 31 1 30,jl 32 1 31,Co 33 (.mn [(.t 28),(.t 32)]),Cv 6 24,Cv 7 33] (.seq (jQ [Cv 34 6,Cv 35 7,jB 36 .leq 34 35] (jC 36 (.region [Cv 37 5,Cv 38 6,Cv 39 7,Co 40 (.build [(.int .i64 0),(.int .i64 0)] [(0,1,(.t 38)),(1,1,(.t 39))]),Co 41 (.Yb .lit 2 true 1 [(.int .i64 0),(.int .i64 0)] [(0,(.t 40))]),Co 42 (.ku 2 true 16 37 41),Cv 5 42]) .skip)) (jQ [Cv 43 0,Cp 44 (.kj 2 43 0),jf 45 1 44,jl 46 1 45,Cv 47 1,Cp 48 (.kj 2 47 0),jf 49 1 48,jl 50 1 49,jB 51 .lss 46 50] (jC 51 (.region [Cv 52 0,Co 53 (.slice 2 (.t 52) (some (.c (.int .i64 1))) none),Cv 0 53]) (.region [Cv 54 1,Co 55 (.slice 2 (.t 54) (some (.c (.int .i64 1))) none),Cv 1 55])))))))
def dr:Hf:=⟨2,[.tmp 4],(jQ [jc 4 .pa] (jQ [jc 5 .pa] (.ghost (.sL 5 2) (.seq (.block 0 (.loop [0,1,5] fg)) (jr [Cv 56 5,Cv 4 56])))))⟩
theorem UH:vc P fo 154 dr:=fM Go.Proofs.Tryz.func154 dN
def um:=Xb (fun _=>none) dr
theorem DB:Ma P 154 um:=Ja Sa UH
def pn:Na:=(jQ [jB 12 .lss 11 10] (.seq (jX 12 0) (.seq (.block 1 (jQ [ji 13 2 9 11,jL 14 2 13,Co 5 (.alloc [(.int .i64 0),(.int .i64 0)]),jS 2 5 14] (.region [Cv 15 3,jL 16 2 5,Co 17 (.Yb .lit 2 true 1 [(.int .i64 0),(.int .i64 0)] [(0,(.t 16))]),Co 18 (.ku 2 true 16 15 17),Cv 3 18]))) (.region [jK 19 .add 11 1,Cv 11 19]))))
def Qj:Hf:=⟨1,[.tmp 2],(jQ [jc 2 .pa] (jQ [Cv 6 0,jn 7 0 6,Co 8 (.Tg .uq 2 true [(.int .i64 0),(.int .i64 0)] 16 (.c (.int .i64 0)) (.t 7)),Cv 3 8] (.seq (jQ [Cv 9 0,jn 10 0 9,jk 11 0] (.block 0 (.loop [3,9,10,11] pn))) (jr [Cv 20 3,Cv 2 20]))))⟩
theorem Ko:vc P fo 170 Qj:=fM Go.Proofs.Tryz.func170 dN
def ph:=Xb (fun _=>none) Qj
theorem fp:Ma P 170 ph:=Ja Sa Ko
def Hn:Na:=(jQ [jB 12 .lss 11 10] (.seq (jX 12 0) (.seq (.block 1 (jQ [ji 13 2 9 11,jL 14 2 13,Co 5 (.alloc [(.int .i64 0),(.int .i64 0)]),jS 2 5 14] (.region [Cv 15 3,jL 16 2 5,Co 17 (.Yb .lit 2 true 1 [(.int .i64 0),(.int .i64 0)] [(0,(.t 16))]),Co 18 (.ku 2 true 16 15 17),Cv 3 18]))) (.region [jK 19 .add 11 1,Cv 11 19]))))
def Fk:Hf:=⟨1,[.tmp 2],(jQ [jc 2 .pa] (jQ [Cv 6 0,jn 7 0 6,Co 8 (.Tg .uq 2 true [(.int .i64 0),(.int .i64 0)] 16 (.c (.int .i64 0)) (.t 7)),Cv 3 8] (.seq (jQ [Cv 9 0,jn 10 0 9,jk 11 0] (.block 0 (.loop [3,9,10,11] Hn))) (jr [Cv 20 3,Cv 2 20]))))⟩
theorem Zo:vc P fo 180 Fk:=fM Go.Proofs.Tryz.func180 dN
def Ch:=Xb (fun _=>none) Fk
theorem Mp:Ma P 180 Ch:=Ja Sa Zo
def Ju:Hf:=⟨1,[.tmp 2],(jQ [jc 2 .pa] (jr [Cv 3 0,jp 4 Ch 3,Cv 2 4]))⟩
theorem CF:vc P fo 176 Ju:=fM Go.Proofs.Tryz.func176 (dC Mp dN)
def Bp:=Xb (fun _=>none) Ju
theorem sI:Ma P 176 Bp:=Ja Sa CF
def eu:Hf:=⟨2,[.tmp 4],(jQ [jc 4 .pa] (jr [Cv 5 0,jp 6 ah 5,Cv 7 1,jp 8 ah 7,jq 9 um 6 8,jp 10 Bp 9,Cv 4 10]))⟩
theorem KF:vc P fo 159 eu:=fM Go.Proofs.Tryz.func159 (dC bo (dC bo (dC DB (dC sI dN))))
def Gp:=Xb (fun _=>none) eu
theorem uI:Ma P 159 Gp:=Ja Sa KF
def Je:Na:=(jQ [jB 12 .lss 11 10] (.seq (jX 12 0) (.seq (.block 1 (jQ [ji 13 2 9 11,jL 14 2 13,Co 8 (.alloc [(.int .i64 0),(.int .i64 0)]),jS 2 8 14] (.seq (jQ [Cv 15 1,jf 16 0 8,jl 17 1 16,jB 18 .lss 15 17] (jC 18 (.exit 0) .skip)) (.seq (jQ [Cv 19 1,jf 20 1 8,jl 21 1 20,jB 22 .leq 19 21] (jC 22 (jr [Cv 23 6,Cv 24 1,jB 25 .add 23 24,jf 26 0 8,jl 27 1 26,jB 28 .sub 25 27,Cv 4 28,jb 5 true]) .skip)) (.region [Cv 29 6,jf 30 1 8,jl 31 1 30,jf 32 0 8,jl 33 1 32,jB 34 .sub 31 33,jK 35 .add 34 1,jB 36 .add 29 35,Cv 6 36]))))) (.region [jK 37 .add 11 1,Cv 11 37]))))
def xr:Hf:=⟨2,[.tmp 4,.tmp 5],(jQ [jk 4 0,jb 5 false] (jQ [jk 6 0] (.seq (jQ [Cv 9 0,jn 10 0 9,jk 11 0] (.block 0 (.loop [1,6,9,10,11] Je))) (jr [jk 4 0,jb 5 false]))))⟩
theorem jI:vc P fo 179 xr:=fM Go.Proofs.Tryz.func179 dN
def Eo:=Xb (fun _=>none) xr
theorem uJ:Ma P 179 Eo:=Ja Sa jI
def ju:Hf:=⟨2,[.tmp 4,.tmp 5],(jQ [jk 4 0,jb 5 false] (jr [Cv 6 0,jp 7 ah 6,Cv 8 1,jq 9 Eo 7 8,jx 10 0 9,jx 11 1 9,Cv 4 10,Cv 5 11]))⟩
theorem uF:vc P fo 175 ju:=fM Go.Proofs.Tryz.func175 (dC bo (dC uJ dN))
def Sm:=Xb (fun _=>none) ju
theorem ez:Ma P 175 Sm:=Ja Sa uF
def ew:Hf:=⟨2,[.tmp 4],(jQ [jb 4 false] (jQ [Cv 8 0,Cv 9 1,jq 10 Sm 8 9,Cv 7 10,jx 11 0 7,jx 12 1 7,Cv 5 11,Cv 6 12] (jr [Cv 13 6,Cv 4 13])))⟩
theorem AH:vc P fo 158 ew:=fM Go.Proofs.Tryz.func158 (dC ez dN)
def Wv:=Xb (fun _=>none) ew
theorem UK:Ma P 158 Wv:=Ja Sa AH
def ai:Hf:=⟨3,[.tmp 5],(jQ [jb 5 false] (jr [jf 6 0 2,jl 7 1 6,Cv 8 0,Ji 9 2 7 8,jf 10 0 9,jl 11 1 10,Cp 12 (.kn 0 11),jf 13 0 2,jl 14 1 13,Cv 15 1,Ji 16 2 14 15,jf 17 0 16,jl 18 1 17,Cp 19 (.kn 0 18),jB 20 .lss 12 19,Cv 5 20]))⟩
theorem Jz:vc P fo 128 ai:=fM Go.Proofs.Tryz.func128 dN
def Gb:Na:=(jQ [jB 9 .lss 8 7] (.seq (jX 9 0) (.seq (.block 1 (jQ [Cv 10 8,Cv 5 10] (jQ [Cv 11 1,Cv 12 0,Cv 13 5,ji 14 1 12 13,jl 15 1 14,Co 16 (.EB (.t 11) [(.t 15)])] (jC 16 (jr [Cv 17 5,Cv 4 17]) .skip)))) (.region [jK 18 .add 8 1,Cv 8 18]))))
def Bc:Hf:=⟨2,[.tmp 4],(jQ [jk 4 0] (.seq (jQ [Cv 6 0,jn 7 0 6,jk 8 0] (.block 0 (.loop [0,1,7,8] Gb))) (jr [jk 4 (-1)])))⟩
theorem xl:vc P fo 151 Bc:=fM Go.Proofs.Tryz.func151 dN
def Ib:Hf:=⟨2,[.tmp 4],(jQ [jb 4 false] (jr [Cv 5 0,Cv 6 1,Co 7 (.Nj 5 [(.t 5),(.t 6)]),jK 8 .geq 7 0,Cv 4 8]))⟩
theorem Ak:vc P fo 122 Ib:=fM Go.Proofs.Tryz.func122 dN
def Zj:Hf:=⟨1,[.tmp 2],(jQ [jb 2 false] (jr [Cv 3 0,jn 4 0 3,jK 5 .eql 4 0,Cv 6 5,jF 7 6 (.km 0),jF 8 6 (.kp Xn 7),jF 9 6 (.kt 8),jo 10 6 9,Cv 2 10]))⟩
theorem xD:vc P fo 123 Zj:=fM Go.Proofs.Tryz.func123 (dC MF dN)
def Rh:Na:=(jQ [jB 10 .lss 9 8] (.seq (jX 10 0) (.seq (.block 1 (jQ [ji 11 1 7 9,jl 12 1 11,Cv 5 12] (.region [Cv 13 3,Cv 14 5,jp 15 Tm 14,jB 16 .mul 13 15,Co 17 (.mn [(.t 16),(.c (.int .i64 1073741825))]),Cv 3 17]))) (.region [jK 18 .add 9 1,Cv 9 18]))))
def Hr:Hf:=⟨1,[.tmp 2],(jQ [jR 1 2 0,jk 2 0] (jQ [jk 3 1] (.seq (jQ [Jf 6 0 1,Jl 7 1 6,jn 8 0 7,jk 9 0] (.block 0 (.loop [1,3,7,8,9] Rh))) (jr [Jf 19 1 1,Jl 20 1 19,Cv 21 3,jB 22 .add 20 21,jK 23 .sub 22 1,Cv 2 23]))))⟩
theorem aF:vc P fo 124 Hr:=fM Go.Proofs.Tryz.func124 (dC zz dN)
def Pn:=Xb (fun _=>none) Hr
theorem sF:Ma P 124 Pn:=Ja Sa aF
def Zr:Hf:=⟨1,[.tmp 2],(jQ [jc 2 .pa] (jQ [Cv 4 0,jp 5 sh 4,Cv 3 5] (.seq (jQ [Cv 6 3,Co 7 (.Ap Qi [(.t 6),(.c (.int .i64 1073741823))]),jt 8 7] (jC 8 (jr [jc 2 .pa]) .skip)) (jr [Cv 9 3,Cv 2 9]))))⟩
theorem zE:vc P fo 155 Zr:=fM Go.Proofs.Tryz.func155 (dC Vo (dC Fp dN))
def Sl:=Xb (fun _=>none) Zr
theorem Qx:Ma P 155 Sl:=Ja Sa zE
def Zp:Hf:=⟨1,[.tmp 2],(jQ [jc 2 .pa] (jr [Cv 3 0,jp 4 ph 3,Cv 2 4]))⟩
theorem bC:vc P fo 153 Zp:=fM Go.Proofs.Tryz.func153 (dC fp dN)
def Zm:=Xb (fun _=>none) Zp
theorem iD:Ma P 153 Zm:=Ja Sa bC
def Jq:Hf:=⟨2,[.tmp 4],(jQ [jc 4 .pa] (jr [Cv 5 0,jp 6 Sl 5,Cv 7 1,jp 8 Sl 7,jq 9 um 6 8,jp 10 Zm 9,Cv 4 10]))⟩
theorem lC:vc P fo 125 Jq:=fM Go.Proofs.Tryz.func125 (dC Qx (dC Qx (dC DB (dC iD dN))))
def Om:=Xb (fun _=>none) Jq
theorem vD:Ma P 125 Om:=Ja Sa lC
end Go.AM.B1
set_option linter.unusedSimpArgs false
namespace Go.AM.B1
open Go.AM
def Di (sz:Nat) (v:PV) (es:List PV):Prop:=(v= .pa∧es=[])∨v= .lit sz es
theorem Di.len {sz:Nat} {v:PV} {es:List PV} (h:Di sz v es) (H:List ba):Wb H 0 (.pv v)=some es.length:=by
 rcases h with⟨rfl,rfl⟩ | rfl <;> rfl
theorem Di.lit {sz:Nat} {v:PV} {es:List PV} (h:Di sz v es) {i:Nat} (hi:i < es.length):v= .lit sz es:=by
 rcases h with⟨rfl,rfl⟩ | rfl
 ·simp at hi
 ·rfl
abbrev i64 (n:Int):PV:= .int .i64 n
abbrev pr (p:Int×Int):PV:= .agg [i64 p.1,i64 p.2]
abbrev de (l:List (Int×Int)):List PV:=l.map pr
theorem Db:deep=5+1:=rfl
theorem ni {a b:Int} (h:a≠b):(a==b)=false:=by simp[h]
theorem Da {p:Prop} [Decidable p] (h:p):decide p=true:=by simp[h]
theorem Ha {p:Prop} [Decidable p] (h:¬p):decide p=false:=by simp[h]
theorem tr {l:List (Int×Int)} {i:Nat} (hi:i < l.length):(de l)[i]? =some (pr l[i]):=by simp[de,hi]
theorem Ua {i n:Nat} (hi:i < n) (hw:n≤maxLen):IntKind.i64.wrap ((i:Int)+1)=((i+1:Nat):Int):=Ba (by unfold maxLen at hw;omega)
inductive kO (k:Nat) (v:AV):Option (Ex×St)→Prop
 |mk (s:St):s.env.get k=v→kO k v (some (.ret,s))
theorem Pw {k:Nat} {v:AV} {s:St}:kO k v (some (.ret,s))=(s.env.get k=v):=
 propext ⟨fun h=>by cases h with | mk _ h=>exact h,fun h=> .mk s h⟩
theorem dM {k:Nat} {v:AV} {r:Option (Ex×St)} (h:kO k v r):∃ t,r=some (.ret,t)∧t.env.get k=v:=by
 cases h with | mk s h=>exact⟨s,rfl,h⟩
inductive CI (k:Nat):Option (Ex×St)→Prop
 |mk (e:Tr) (H:List ba):CI k (some (.exit k,⟨e,H⟩))
theorem XI {k i:Nat} {e:Tr} {H:List ba}:CI k (some (.exit i,⟨e,H⟩))=(i=k):=
 propext ⟨fun h=>by cases h;rfl,fun h=>by subst h;exact .mk e H⟩
theorem pK {k:Nat} {r:Option (Ex×St)} (h:CI k r):∃ e H,r=some (.exit k,⟨e,H⟩):=by
 cases h with | mk e H=>exact⟨e,H,rfl⟩
inductive Hy (k:Nat) (v:AV) (j:Nat) (u:AV):Option (Ex×St)→Prop
 |mk (s:St):s.env.get k=v→s.env.get j=u→Hy k v j u (some (.ret,s))
theorem su {k j:Nat} {v u:AV} {s:St}:Hy k v j u (some (.ret,s))=(s.env.get k=v∧s.env.get j=u):=
 propext ⟨fun h=>by cases h with | mk _ h h'=>exact⟨h,h'⟩,fun h=> .mk s h.1 h.2⟩
theorem Yq {k j:Nat} {v u:AV} {r:Option (Ex×St)} (h:Hy k v j u r):∃ t,r=some (.ret,t)∧t.env.get k=v∧t.env.get j=u:=by
 cases h with | mk s h h'=>exact⟨s,rfl,h,h'⟩
section To
variable (v:PV) (l:List (Int×Int)) (hv:Di 2 v (de l)) (hw:l.length * 16≤140737488355328)
abbrev xz (v:PV) (len i:Int) (o:AV):Tr:=((((Tr.lf.set 11 (.pv (i64 i))).set 10 (.pv (i64 len))).set 9 (.pv v)).set 3 o)
include hv hw
theorem wF (i:Nat) (hi:i < l.length):
 Mb (Ga (fun _=>none) 8) [3,9,10,11] Jc 1 ⟨xz v l.length i (.uq 0 false 2 (de (l.take i))),[.tok 2 i false]⟩=
  some (.norm,⟨xz v l.length (i+1:Nat) (.uq 0 false 2 (de (l.take (i+1)))),[.tok 2 (i+1) false]⟩):=by
 have hv:=hv.lit (i:=i) (by simpa using hi)
 subst hv
 have e1:decide ((i:Int) < (l.length:Int))=true:=Da (by omega)
 have hq:Fa (i:Int) (de l).length:=by unfold Fa;simp;omega
 have t1:((i:Int)).toNat=i:=by simp
 have t2:=Ua hi (by unfold maxLen;omega)
 have lt:(de (l.take i)).length=i:=by simp;omega
 have q1:pb (i+1) 16:=by unfold pb;omega
 have hs:de (l.take (i+1))=de (l.take i)++[pr l[i]]:=by rw[List.take_succ_eq_append_getElem hi];simp only[de,List.map_append,List.map_cons,List.map_nil]
 rw[hs]
 have hg:=tr hi
 generalize de (l.take i)=T at *
 subst lt
 generalize de l=es at *
 simp -implicitDefEqProofs only[SP,SA,SQ,sevalprocAttr,Mb,fa,Jc,e1,eq_true hq,t1,t2,hg,eq_true q1,qa,Zi,AV.cF,AV.Up,ga,za,ma,Ia,AV.cut,Db,xz]
theorem qm:fc [v]=some (.lit 2 (de l)):=by
 have ls:=hv.len
 simp only[de,List.length_map] at ls
 have hl:gb (fa (ta (Ga (fun _=>none) 8) Jc) (ga 1 [3,9,10,11])) oa ⟨xz v l.length 0 (.uq 0 false 2 []),[.tok 2 0 false]⟩=
  some (.exit 0,⟨(xz v l.length l.length (.uq 0 false 2 (de l))).set 12 (.pv (.bool false)),[.tok 2 l.length false]⟩):=by
  have key:=Wj (g:=Mb (Ga (fun _=>none) 8) [3,9,10,11] Jc 1)
   (fun i t=>t=⟨xz v l.length i (.uq 0 false 2 (de (l.take i))),[.tok 2 i false]⟩)
   (fun ex t=>ex= .exit 0∧t=⟨(xz v l.length l.length (.uq 0 false 2 (de l))).set 12 (.pv (.bool false)),[.tok 2 l.length false]⟩)
   oa l.length 0 _ (by unfold oa;omega) (by omega) rfl ?_ ?_
  ·obtain⟨ex,t,h,_,rfl,rfl⟩:=key;exact h
  ·rintro i hi t rfl
   exact .inl ⟨_,wF v l hv hw i hi,rfl⟩
  ·rintro t rfl
   refine⟨.exit 0,_,?_,rfl,rfl,rfl⟩
   have e1:decide ((l.length:Int) < (l.length:Int))=false:=Ha (by omega)
   rw[List.take_length]
   simp -implicitDefEqProofs only[SP,SA,SQ,sevalprocAttr,Mb,fa,Jc,e1,xz]
 have h1:decide ((0:Int)≤0)=true:=by decide
 have h2:(0:Int)≤(l.length:Int):=by omega
 have h3:pb ((l.length:Int)).toNat 16:=by unfold pb;simp;omega
 simp -implicitDefEqProofs only[fc,SP,SA,SQ,sevalprocAttr,Fh,ls,xb,ga,za,ma,Ia,AV.cut,Db,Int.le_refl,eq_true h2,eq_true h3,Int.toNat_zero]
 simp only[xz] at hl
 rw[hl]
 simp -implicitDefEqProofs only[SP,SA,SQ,sevalprocAttr]
end To
end Go.AM.B1
namespace Go.AM.B1
open Go.AM
def Oa (top:Int):Int→List (Int×Int)→Bool
 |_,[]=>true
 |last,p::r=> !(decide (p.1 < 0)||decide (p.1 > p.2)||decide (p.2 > top)||decide (p.1 - 1≤last))&&Oa top p.2 r
abbrev tw (v:PV) (top len i last:Int):Tr:=(((((Tr.lf.set 10 (.pv (i64 i))).set 9 (.pv (i64 len))).set 8 (.pv v)).set 5 (.pv (i64 last))).set 1 (.pv (i64 top)))
section
variable (v:PV) (l:List (Int×Int)) (hv:Di 2 v (de l)) (hw:l.length≤maxLen) (top:Int) (ht:top≤9223372036854775807)
theorem XM (i:Nat) (hi:i < l.length) (hv:Di 2 v (de l)) (hw:l.length≤maxLen) (last:Int) (ht:top≤9223372036854775807) (c1:¬l[i].1 < 0) (c2:¬l[i].1 > l[i].2) (c3:¬l[i].2 > top) (c4:¬l[i].1 - 1≤last):
 Mb (Ga (fun _=>none) 8) [1,5,8,9,10] zd 0 ⟨tw v top l.length i last,[]⟩=some (.norm,⟨tw v top l.length (i+1:Nat) l[i].2,[]⟩):=by
 have hv:=hv.lit (i:=i) (by simpa using hi)
 subst hv
 have e1:decide ((i:Int) < (l.length:Int))=true:=Da (by omega)
 have hq:Fa (i:Int) (de l).length:=by unfold Fa;simp;omega
 have t1:((i:Int)).toNat=i:=by simp
 have t2:=Ua hi hw
 have t3:IntKind.i64.wrap (l[i].1 - 1)=l[i].1 - 1:=Ba (by omega)
 have hg:=tr hi
 have d1:=Ha c1;have d2:=Ha c2;have d3:=Ha c3;have d4:=Ha c4
 generalize de l=es at *
 generalize l[i]=p at *
 simp -implicitDefEqProofs only[SP,SA,SQ,sevalprocAttr,Mb,fa,zd,e1,eq_true hq,t1,t2,t3,hg,d1,d2,d3,d4,qa,ga,za,ma,Ia,AV.cut,Db,tw]
theorem DO (i:Nat) (hi:i < l.length) (hv:Di 2 v (de l)) (hw:l.length≤maxLen) (last:Int) (ht:top≤9223372036854775807) (hc:l[i].1 < 0∨l[i].1 > l[i].2∨l[i].2 > top∨l[i].1 - 1≤last):
 kO 4 (.pv (.bool false)) (Mb (Ga (fun _=>none) 8) [1,5,8,9,10] zd 0 ⟨tw v top l.length i last,[]⟩):=by
 have hv:=hv.lit (i:=i) (by simpa using hi)
 subst hv
 have e1:decide ((i:Int) < (l.length:Int))=true:=Da (by omega)
 have hq:Fa (i:Int) (de l).length:=by unfold Fa;simp;omega
 have t1:((i:Int)).toNat=i:=by simp
 have hg:=tr hi
 generalize de l=es at *
 generalize l[i]=p at *
 by_cases c1:p.1 < 0
 ·have d1:=Da c1
  simp -implicitDefEqProofs only[SP,SA,SQ,sevalprocAttr,Mb,fa,zd,e1,eq_true hq,t1,hg,d1,qa,tw,Pw]
 have d1:=Ha c1
 by_cases c2:p.1 > p.2
 ·have d2:=Da c2
  simp -implicitDefEqProofs only[SP,SA,SQ,sevalprocAttr,Mb,fa,zd,e1,eq_true hq,t1,hg,d1,d2,qa,tw,Pw]
 have d2:=Ha c2
 by_cases c3:p.2 > top
 ·have d3:=Da c3
  simp -implicitDefEqProofs only[SP,SA,SQ,sevalprocAttr,Mb,fa,zd,e1,eq_true hq,t1,hg,d1,d2,d3,qa,tw,Pw]
 have d3:=Ha c3
 have c4:p.1 - 1≤last:=by rcases hc with h | h | h | h <;> first | exact h | omega
 have t3:IntKind.i64.wrap (p.1 - 1)=p.1 - 1:=Ba (by omega)
 have d4:=Da c4
 simp -implicitDefEqProofs only[SP,SA,SQ,sevalprocAttr,Mb,fa,zd,e1,eq_true hq,t1,t3,hg,d1,d2,d3,d4,qa,tw,Pw]
include hv hw ht
theorem Ss:Qi [v,i64 top]=some (.bool (Oa top (-2) l)):=by
 have ls:=hv.len
 simp only[de,List.length_map] at ls
 have key:=Wj (g:=Mb (Ga (fun _=>none) 8) [1,5,8,9,10] zd 0)
  (fun i t=>∃ last,t=⟨tw v top l.length i last,[]⟩∧Oa top (-2) l=Oa top last (l.drop i))
  (fun ex t=>(ex= .exit 0∧Oa top (-2) l=true∧∃ last,t=⟨(tw v top l.length l.length last).set 11 (.pv (.bool false)),[]⟩)∨(ex= .ret∧Oa top (-2) l=false∧t.env.get 4= .pv (.bool false)))
  oa l.length 0 ⟨tw v top l.length (0:Nat) (-2),[]⟩ (by unfold oa;unfold maxLen at hw;omega) (by omega) ⟨-2,rfl,rfl⟩ ?_ ?_
 ·have hl:gb (fa (ta (Ga (fun _=>none) 8) zd) (ga 0 [1,5,8,9,10])) oa ⟨tw v top l.length 0 (-2),[]⟩=gb (Mb (Ga (fun _=>none) 8) [1,5,8,9,10] zd 0) oa ⟨tw v top l.length (0:Nat) (-2),[]⟩:=rfl
  obtain⟨ex,t,h,_,hq⟩:=key
  rw[h] at hl
  simp only[tw] at hl
  rcases hq with⟨rfl,hval,last,rfl⟩ | ⟨rfl,hval,hg⟩
  ·rw[hval]
   simp -implicitDefEqProofs only[Qi,SP,SA,SQ,sevalprocAttr,Kp,ls,xb,ga,za,ma,Ia,AV.cut,Db,hl,tw]
  ·rw[hval]
   simp -implicitDefEqProofs only[Qi,SP,SA,SQ,sevalprocAttr,Kp,ls,xb,ga,za,ma,Ia,AV.cut,Db,hl,tw,hg]
 ·rintro i hi t ⟨last,rfl,hval⟩
  have hd:l.drop i=l[i]::l.drop (i+1):=List.drop_eq_getElem_cons hi
  rw[hd,Oa] at hval
  by_cases hc:l[i].1 < 0∨l[i].1 > l[i].2∨l[i].2 > top∨l[i].1 - 1≤last
  ·obtain⟨t,h1,h2⟩:=dM (DO v l top i hi hv hw last ht hc)
   refine .inr ⟨.ret,t,h1,rfl,.inr ⟨rfl,?_,h2⟩⟩
   rw[hval]
   rcases hc with h | h | h | h <;> simp[h]
  ·have hc':¬l[i].1 < 0∧¬l[i].1 > l[i].2∧¬l[i].2 > top∧¬l[i].1 - 1≤last:=by
    refine⟨fun h=>hc (.inl h),fun h=>hc (.inr (.inl h)),fun h=>hc (.inr (.inr (.inl h))),fun h=>hc (.inr (.inr (.inr h)))⟩
   refine .inl ⟨_,XM v l top i hi hv hw last ht hc'.1 hc'.2.1 hc'.2.2.1 hc'.2.2.2,l[i].2,rfl,?_⟩
   rw[hval,Ha hc'.1,Ha hc'.2.1,Ha hc'.2.2.1,Ha hc'.2.2.2]
   rfl
 ·rintro t ⟨last,rfl,hval⟩
  refine⟨.exit 0,_,?_,rfl,.inl ⟨rfl,?_,last,rfl⟩⟩
  ·have e1:decide ((l.length:Int) < (l.length:Int))=false:=Ha (by omega)
   simp -implicitDefEqProofs only[SP,SA,SQ,sevalprocAttr,Mb,fa,zd,e1,tw]
  ·rw[hval,List.drop_length];rfl
end
end Go.AM.B1
namespace Go.AM.B1
open Go.AM
def Md (x:Int):Int→List (Int×Int)→Int×Bool
 |_,[]=>(0,false)
 |n,p::r=>if x < p.1 then (0,false) else if x≤p.2 then (n+x - p.1,true) else Md x (n+(p.2 - p.1+1)) r
abbrev Fx (v:PV) (x len i n:Int):Tr:=(((((Tr.lf.set 11 (.pv (i64 i))).set 10 (.pv (i64 len))).set 9 (.pv v)).set 6 (.pv (i64 n))).set 1 (.pv (i64 x)))
section
variable (v:PV) (l:List (Int×Int)) (hv:Di 2 v (de l)) (hw:l.length≤maxLen) (x n:Int)
theorem OS (i:Nat) (hi:i < l.length) (hv:Di 2 v (de l)) (c:x < l[i].1):
 CI 0 (Mb (Ga (fun _=>none) 8) [1,6,9,10,11] Je 0 ⟨Fx v x l.length i n,[]⟩):=by
 have hv:=hv.lit (i:=i) (by simpa using hi)
 subst hv
 have e1:decide ((i:Int) < (l.length:Int))=true:=Da (by omega)
 have hq:Fa (i:Int) (de l).length:=by unfold Fa;simp;omega
 have t1:((i:Int)).toNat=i:=by simp
 have hg:=tr hi
 have d1:=Da c
 generalize de l=es at *
 generalize l[i]=p at *
 simp -implicitDefEqProofs only[SP,SA,SQ,sevalprocAttr,Mb,fa,Je,e1,eq_true hq,t1,hg,d1,qa,Fx,XI]
theorem GU (i:Nat) (hi:i < l.length) (hv:Di 2 v (de l)) (c:¬x < l[i].1) (c2:x≤l[i].2) (hb:0≤l[i].1∧l[i].2≤4611686018427387904∧0≤n∧n≤4611686018427387903):
 Hy 4 (.pv (i64 (n+x - l[i].1))) 5 (.pv (.bool true)) (Mb (Ga (fun _=>none) 8) [1,6,9,10,11] Je 0 ⟨Fx v x l.length i n,[]⟩):=by
 have hv:=hv.lit (i:=i) (by simpa using hi)
 subst hv
 have e1:decide ((i:Int) < (l.length:Int))=true:=Da (by omega)
 have hq:Fa (i:Int) (de l).length:=by unfold Fa;simp;omega
 have t1:((i:Int)).toNat=i:=by simp
 have hg:=tr hi
 have d1:=Ha c
 have d2:=Da c2
 have t3:IntKind.i64.wrap (n+x)=n+x:=Ba (by omega)
 have t4:IntKind.i64.wrap (n+x - l[i].1)=n+x - l[i].1:=Ba (by omega)
 generalize de l=es at *
 generalize l[i]=p at *
 simp -implicitDefEqProofs only[SP,SA,SQ,sevalprocAttr,Mb,fa,Je,e1,eq_true hq,t1,t3,t4,hg,d1,d2,qa,Fx,su]
theorem mW (i:Nat) (hi:i < l.length) (hv:Di 2 v (de l)) (hw:l.length≤maxLen) (c:¬x < l[i].1) (c2:¬x≤l[i].2) (hb:0≤l[i].1∧l[i].1≤l[i].2∧l[i].2≤4611686018427387902∧0≤n∧n≤l[i].1):
 Mb (Ga (fun _=>none) 8) [1,6,9,10,11] Je 0 ⟨Fx v x l.length i n,[]⟩=some (.norm,⟨Fx v x l.length (i+1:Nat) (n+(l[i].2 - l[i].1+1)),[]⟩):=by
 have hv:=hv.lit (i:=i) (by simpa using hi)
 subst hv
 have e1:decide ((i:Int) < (l.length:Int))=true:=Da (by omega)
 have hq:Fa (i:Int) (de l).length:=by unfold Fa;simp;omega
 have t1:((i:Int)).toNat=i:=by simp
 have t2:=Ua hi hw
 have hg:=tr hi
 have d1:=Ha c
 have d2:=Ha c2
 have t3:IntKind.i64.wrap (l[i].2 - l[i].1)=l[i].2 - l[i].1:=Ba (by omega)
 have t4:IntKind.i64.wrap (l[i].2 - l[i].1+1)=l[i].2 - l[i].1+1:=Ba (by omega)
 have t5:IntKind.i64.wrap (n+(l[i].2 - l[i].1+1))=n+(l[i].2 - l[i].1+1):=Ba (by omega)
 generalize de l=es at *
 generalize l[i]=p at *
 simp -implicitDefEqProofs only[SP,SA,SQ,sevalprocAttr,Mb,fa,Je,e1,eq_true hq,t1,t2,t3,t4,t5,hg,d1,d2,qa,ga,za,ma,Ia,AV.cut,Db,Fx]
theorem Pd {top last:Int} {p:Int×Int} {r:List (Int×Int)} (h:Oa top last (p::r)=true):¬p.1 < 0∧¬p.1 > p.2∧¬p.2 > top∧¬p.1 - 1≤last∧Oa top p.2 r=true:=by
 simp only[Oa,Bool.and_eq_true,Bool.not_eq_true',Bool.or_eq_false_iff,decide_eq_false_iff_not] at h
 exact⟨h.1.1.1.1,h.1.1.1.2,h.1.1.2,h.1.2,h.2⟩
include hv hw
theorem LF {top:Int} (ht:top≤4611686018427387900) (hval:Oa top (-2) l=true):Eo [v,i64 x]=some (.Zb [i64 (Md x 0 l).1,.bool (Md x 0 l).2]):=by
 have ls:=hv.len
 simp only[de,List.length_map] at ls
 have key:=Wj (g:=Mb (Ga (fun _=>none) 8) [1,6,9,10,11] Je 0)
  (fun i t=>∃ n last,t=⟨Fx v x l.length i n,[]⟩∧Md x 0 l=Md x n (l.drop i)∧Oa top last (l.drop i)=true∧0≤n∧n≤max 0 (last+1)∧last≤top)
  (fun ex t=>(ex= .exit 0∧Md x 0 l=(0,false))∨(ex= .ret∧∃ r,Md x 0 l=(r,true)∧t.env.get 4= .pv (i64 r)∧t.env.get 5= .pv (.bool true)))
  oa l.length 0 ⟨Fx v x l.length (0:Nat) 0,[]⟩ (by unfold oa;unfold maxLen at hw;omega) (by omega) ?_ ?_ ?_
 ·have hl:gb (fa (ta (Ga (fun _=>none) 8) Je) (ga 0 [1,6,9,10,11])) oa ⟨Fx v x l.length 0 0,[]⟩=gb (Mb (Ga (fun _=>none) 8) [1,6,9,10,11] Je 0) oa ⟨Fx v x l.length (0:Nat) 0,[]⟩:=rfl
  obtain⟨ex,⟨e,H⟩,h,_,hq⟩:=key
  rw[h] at hl
  simp only[Fx] at hl
  rcases hq with⟨rfl,hr⟩ | ⟨rfl,r,hr,g4,g5⟩
  ·rw[hr]
   simp -implicitDefEqProofs only[Eo,SP,SA,SQ,sevalprocAttr,xr,ls,xb,ga,za,ma,Ia,AV.cut,Db,hl,Fx]
  ·rw[hr]
   simp only at g4 g5
   simp -implicitDefEqProofs only[Eo,SP,SA,SQ,sevalprocAttr,xr,ls,xb,ga,za,ma,Ia,AV.cut,Db,hl,Fx,g4,g5]
 ·refine⟨0,min (-2) top,rfl,rfl,?_,by omega,by omega,by omega⟩
  have mono:∀ {a b:Int} {r:List (Int×Int)},a≤b→Oa top b r=true→Oa top a r=true:=by
   intro a b r hab h
   cases r with
   |nil=>rfl
   |cons p r=>
    obtain⟨h1,h2,h3,h4,h5⟩:=Pd h
    simp only[Oa,h5,Bool.and_true,Bool.not_eq_true',Bool.or_eq_false_iff,decide_eq_false_iff_not]
    exact⟨⟨⟨h1,h2⟩,h3⟩,by omega⟩
  exact mono (by omega) hval
 ·rintro i hi t ⟨n,last,rfl,hr,hva,hn0,hn1,hlast⟩
  have hd:l.drop i=l[i]::l.drop (i+1):=List.drop_eq_getElem_cons hi
  rw[hd] at hr hva
  obtain⟨h1,h2,h3,h4,h5⟩:=Pd hva
  rw[Md] at hr
  by_cases c:x < l[i].1
  ·obtain⟨e,H,hx⟩:=pK (OS v l x n i hi hv c)
   rw[if_pos c] at hr
   exact .inr ⟨.exit 0,⟨e,H⟩,hx,rfl,.inl ⟨rfl,hr⟩⟩
  by_cases c2:x≤l[i].2
  ·obtain⟨t,hx,g4,g5⟩:=Yq (GU v l x n i hi hv c c2 (by omega))
   rw[if_neg c,if_pos c2] at hr
   exact .inr ⟨.ret,t,hx,rfl,.inr ⟨rfl,_,hr,g4,g5⟩⟩
  ·rw[if_neg c,if_neg c2] at hr
   exact .inl ⟨_,mW v l x n i hi hv hw c c2 (by omega),_,l[i].2,rfl,hr,h5,by omega,by omega,by omega⟩
 ·rintro t ⟨n,last,rfl,hr,_⟩
  refine⟨.exit 0,⟨(Fx v x l.length l.length n).set 12 (.pv (.bool false)),[]⟩,?_,rfl,.inl ⟨rfl,?_⟩⟩
  ·have e1:decide ((l.length:Int) < (l.length:Int))=false:=Ha (by omega)
   simp -implicitDefEqProofs only[SP,SA,SQ,sevalprocAttr,Mb,fa,Je,e1,Fx]
  ·rw[hr,List.drop_length];rfl
end
def sy (l:List (Int×Int)):List (Int×Int):=if Oa 255 (-2) l then l else []
theorem Fe (H:List ba) (d:Nat) (p:PV):Ub H d (.pv p)=some p:=by cases d <;> rfl
theorem PL (l:List (Int×Int)):Oa 255 (-2) (sy l)=true:=by
 unfold sy
 cases hb:Oa 255 (-2) l with
 |true=>exact hb
 |false=>rfl
theorem dT (l:List (Int×Int)):(sy l).length≤l.length:=by
 unfold sy
 split <;> simp
section
variable (v:PV) (l:List (Int×Int)) (hv:Di 2 v (de l)) (hw:l.length * 16≤140737488355328)
include hv hw
theorem rC:Xn [v]=some (.bool (Oa 255 (-2) l)):=by
 have h1:=qm v l hv hw
 have h2:=Ss (.lit 2 (de l)) l (.inr rfl) (by unfold maxLen;omega) 255 (by decide)
 simp -implicitDefEqProofs only[Xn,SP,SA,SQ,sevalprocAttr,Qr,Fe,Db,h1,h2]
theorem Px:∃ u,ah [v]=some u∧Di 2 u (de (sy l)):=by
 have h1:=qm v l hv hw
 have h2:=Ss (.lit 2 (de l)) l (.inr rfl) (by unfold maxLen;omega) 255 (by decide)
 unfold sy
 cases hb:Oa 255 (-2) l with
 |true=>
  rw[hb] at h2
  refine⟨.lit 2 (de l),?_,.inr rfl⟩
  simp -implicitDefEqProofs only[ah,SP,SA,SQ,sevalprocAttr,zo,Fe,Db,h1,h2]
 |false=>
  rw[hb] at h2
  refine⟨.pa,?_,.inl ⟨rfl,rfl⟩⟩
  simp -implicitDefEqProofs only[ah,SP,SA,SQ,sevalprocAttr,zo,Fe,Db,h1,h2]
theorem pw (x:Int):Sm [v,i64 x]=some (.Zb [i64 (Md x 0 (sy l)).1,.bool (Md x 0 (sy l)).2]):=by
 obtain⟨u,h1,h2⟩:=Px v l hv hw
 have h3:=LF u (sy l) h2 (by have:=dT l;unfold maxLen;omega) x (top:=255) (by decide) (PL l)
 simp -implicitDefEqProofs only[Sm,SP,SA,SQ,sevalprocAttr,ju,Fe,Db,h1,h3]
theorem nF (x:Int):Wv [v,i64 x]=some (.bool (Md x 0 (sy l)).2):=by
 have h3:=pw v l hv hw x
 simp -implicitDefEqProofs only[Wv,SP,SA,SQ,sevalprocAttr,ew,Fe,Db,h3]
end
end Go.AM.B1
namespace Go.AM.B1
open Go.AM
theorem _root_.Go.AM.Ma.weaken {P:Program} {f:FuncId} {F G:List PV→Option PV} (h:Ma P f G) (hF:∀ xs r,F xs=some r→G xs=some r):Ma P f F:=
 ⟨h.1,fun w R args vs r hR hl hr=>h.2 w R args vs r hR hl (hF _ _ hr)⟩
def Xz:PV→Option (Int×Int)
 | .agg [.int .i64 a,.int .i64 b]=>some (a,b)
 |_=>none
def az:PV→Option (List (Int×Int))
 | .pa=>some []
 | .lit 2 es=>Qa Xz es
 |_=>none
theorem CM {v:PV} {p:Int×Int} (h:Xz v=some p):v=pr p:=by
 unfold Xz at h
 split at h
 ·injection h with h;subst h;rfl
 ·cases h
theorem vH {v:PV} {l:List (Int×Int)} (h:az v=some l):Di 2 v (de l):=by
 unfold az at h
 split at h
 ·injection h with h;subst h;exact .inl ⟨rfl,rfl⟩
 ·rename_i es
  refine .inr ?_
  congr 1
  induction es generalizing l with
  |nil=>simp only[Qa,Option.some.injEq] at h;subst h;rfl
  |cons e es ih=>
   simp only[Qa,Option.bind_eq_some_iff,Option.some.injEq] at h
   obtain⟨p,h1,r,h2,rfl⟩:=h
   rw[ih h2,CM h1]
   rfl
 ·cases h
def Uk:List PV→Option PV
 | [v,.int .i64 x]=>(az v).bind fun l=>if l.length * 16≤140737488355328 then some (.bool (Md x 0 (sy l)).2) else none
 |_=>none
theorem HJ:Ma P 158 Uk:=UK.weaken fun xs r h=>by
 unfold Uk at h
 split at h
 ·rename_i v x
  simp only[Option.bind_eq_some_iff] at h
  obtain⟨l,h1,h2⟩:=h
  split at h2
  ·rename_i hw
   injection h2 with h2
   rw[nF v l (vH h1) hw x,←h2]
  ·cases h2
 ·cases h
end Go.AM.B1
namespace Go.AM.B1
open Go.AM
def Sb:Int→List (Int×Int)→Int
 |n,[]=>n
 |n,p::r=>Sb (n+(p.2 - p.1+1)) r
abbrev VO (v:PV) (len i n:Int):Tr:=(((Tr.lf.set 8 (.pv (i64 i))).set 7 (.pv (i64 len))).set 6 (.pv v)).set 3 (.pv (i64 n))
theorem MR (v:PV) (l:List (Int×Int)) (hv:Di 2 v (de l)) (hw:l.length≤maxLen) {top:Int} (ht:top≤4611686018427387900) (hval:Oa top (-2) l=true):Sq [v]=some (i64 (Sb 0 l)):=by
 have ls:=hv.len
 simp only[de,List.length_map] at ls
 have key:=Nb (g:=Mb (Ga (fun _=>none) 8) [3,6,7,8] Qk 0)
  (fun i t=>∃ n last,t=⟨VO v l.length i n,[]⟩∧Sb 0 l=Sb n (l.drop i)∧Oa top last (l.drop i)=true∧0≤n∧n≤max 0 (last+1)∧last≤top)
  (Q:=fun r=>∃ E H,r=(.exit 0,⟨E,H⟩)∧E.get 3= .pv (i64 (Sb 0 l)))
  l.length (by unfold oa;unfold maxLen at hw;omega) ⟨VO v l.length (0:Nat) 0,[]⟩ ?_ ?_ ?_
 ·obtain⟨⟨ex,t⟩,h,_,E,H,he,hE⟩:=Fc key
  cases he
  have h':gb (fa (ta (Ga (fun _=>none) 8) Qk) (ga 0 [3,6,7,8])) oa ⟨VO v l.length 0 0,[]⟩=some (.exit 0,⟨E,H⟩):=h
  simp only[VO] at h'
  simp -implicitDefEqProofs only[Sq,SP,SA,SQ,WP,WQ,sevalprocAttr,nw,ls,xb,h',hE]
 ·refine⟨0,min (-2) top,rfl,rfl,?_,by omega,by omega,by omega⟩
  have mono:∀ {a b:Int} {r:List (Int×Int)},a≤b→Oa top b r=true→Oa top a r=true:=by
   intro a b r hab h
   cases r with
   |nil=>rfl
   |cons p r=>
    obtain⟨h1,h2,h3,h4,h5⟩:=Pd h
    simp only[Oa,h5,Bool.and_true,Bool.not_eq_true',Bool.or_eq_false_iff,decide_eq_false_iff_not]
    exact⟨⟨⟨h1,h2⟩,h3⟩,by omega⟩
  exact mono (by omega) hval
 ·rintro i t hi ⟨n,last,rfl,hr,hva,hn0,hn1,hlast⟩
  have hv:=hv.lit (i:=i) (by simpa using hi)
  subst hv
  have hd:l.drop i=l[i]::l.drop (i+1):=List.drop_eq_getElem_cons hi
  rw[hd] at hr hva
  obtain⟨h1,h2,h3,h4,h5⟩:=Pd hva
  rw[Sb] at hr
  have t2:=Ua hi hw
  have hg:=tr hi
  have hl:(de l).length=l.length:=by simp
  generalize l[i]=p at *
  have t3:IntKind.i64.wrap (p.2 - p.1)=p.2 - p.1:=Ba (by omega)
  have t4:IntKind.i64.wrap (p.2 - p.1+1)=p.2 - p.1+1:=Ba (by omega)
  have t5:IntKind.i64.wrap (n+(p.2 - p.1+1))=n+(p.2 - p.1+1):=Ba (by omega)
  generalize hes:de l=es at *
  generalize hQ:LN _ _ i=Q
  simp -implicitDefEqProofs only[SP,SA,SQ,WP,WQ,sevalprocAttr,Qk,hi,hl,t2,t3,t4,t5,hg,VO]
  subst hQ
  exact⟨_,p.2,rfl,hr,h5,by omega,by omega,by omega⟩
 ·rintro t ⟨n,last,rfl,hr,_⟩
  rw[List.drop_length,Sb] at hr
  have e1:decide (l.length < l.length)=false:=Ha (by omega)
  generalize hQ:(fun r:Ex×St=>r.1.stop=true∧_)=Q
  simp -implicitDefEqProofs only[SP,SA,SQ,WP,WQ,sevalprocAttr,Qk,e1,VO]
  subst hQ
  exact⟨rfl,_,_,rfl,by rw[hr];rfl⟩
theorem _root_.Go.AM.So.Ng.cut {H:List ba} (h:So.Ng H):Qa (ma H.length) H=some H:=So.Gl fun o ho=>h _ (Nat.le_refl _) o ho
theorem Jj (A:List ba) (o:ba):(A++[o])[A.length]? =some o:=by simp
theorem Rn (A:List ba) (o o':ba):(A++[o]).set A.length o'=A++[o']:=by
 rw[List.set_append_right _ _ (Nat.le_refl _)];simp
theorem dH {A:List ba} (T:List ba) {sz id n:Nat} {i:Int} {v:AV} (hid:id < A.length) (h:qa A sz (.own id n) i=some v):qa (A++T) sz (.own id n) i=some v:=by
 simp only[qa] at h ⊢
 rw[List.getElem?_append_left hid];exact h
theorem nJ {A:List ba} (T:List ba) {sz id:Nat} {ag:Bool} {m off:Nat} {v:AV} (hid:id < A.length) (h:ya A ag sz (.Gc id m off)=some v):ya (A++T) ag sz (.Gc id m off)=some v:=by
 simp only[ya] at h ⊢
 rw[List.getElem?_append_left hid];exact h
end Go.AM.B1
namespace Go.AM.B1
open Go.AM Go.AM.So
theorem EE {n:Nat} {E:Tr}:∀ {live:List Nat},(∀ t∈live,(E.get t).cut n deep=some (E.get t))→∃ E',za n E live=some E'∧∀ t∈live,E'.get t=E.get t
 | [],_=>⟨.lf,rfl,by simp⟩
 |a::live,h=>by
  obtain⟨E',h1,h2⟩:=EE (live:=live) fun t ht=>h t (by simp[ht])
  refine⟨E'.set a (E.get a),by rw[za,h a (by simp),Option.bind_some,h1];rfl,fun t ht=> ?_⟩
  rw[Tr.aa]
  by_cases he:t=a
  ·rw[if_pos he,he]
  ·rw[if_neg he]
   rcases List.mem_cons.1 ht with h3 | h3
   ·exact absurd h3 he
   ·exact h2 t h3
theorem HO {n:Nat} {live:List Nat} {E:Tr} {A T:List ba} (hn:A.length=n) (hA:∀ o∈A,ma n o=some o) (hE:∀ t∈live,(E.get t).cut n deep=some (E.get t)):
 ∃ E',ga n live ⟨E,A++T⟩=some ⟨E',A⟩∧∀ t∈live,E'.get t=E.get t:=by
 obtain⟨E',h1,h2⟩:=EE hE
 refine⟨E',?_,h2⟩
 subst hn
 simp only[ga,h1,Option.bind_some]
 rw[List.take_left' rfl,Gl hA];rfl
def Xg (n:Nat) (live:List Nat) (J:St→Prop) (s:St):Prop:=
 ∃ A T,s.H=A++T∧A.length=n∧(∀ o∈A,ma n o=some o)∧(∀ t∈live,(s.env.get t).cut n deep=some (s.env.get t))∧∀ E',(∀ t∈live,E'.get t=s.env.get t)→J ⟨E',A⟩
theorem Xg.ga {n:Nat} {live:List Nat} {J:St→Prop} {s:St} (h:Xg n live J s):∃ s',ga n live s=some s'∧J s':=by
 obtain⟨A,T,h1,h2,h3,h4,h5⟩:=h
 obtain⟨E,H⟩:=s
 simp only at h1 h4 h5
 subst h1
 obtain⟨E',h6,h7⟩:=HO (T:=T) h2 h3 h4
 exact⟨_,h6,h5 E' h7⟩
def RQ (n:Nat) (live:List Nat) (J:St→Prop) (Q:Ex×St→Prop):Ex×St→Prop
 | (.norm,s)=>Xg n live J s
 |r=>Q r
theorem Xl {n:Nat} {live:List Nat} {J:St→Prop} {Q:Ex×St→Prop} {s:St}:RQ n live J Q (.norm,s)=Xg n live J s:=rfl
theorem NR {call:Za} {b:Na} {n:Nat} {live:List Nat} {I:Nat→St→Prop} {Q:Ex×St→Prop} {i:Nat} {s:St} (h:Td (RQ n live (I (i+1)) Q) (ta call b s)):
 Td (LN I Q i) (fa (ta call b) (ga n live) s):=by
 rw[fa,Lz]
 refine xa h ?_
 rintro⟨ex,t⟩ hr
 cases ex with
 |norm=>
  obtain⟨s',h1,h2⟩:=Xg.ga hr
  show Td _ (Dq (Go.AM.ga n live t))
  rw[h1];exact h2
 |exit=>exact hr
 |ret=>exact hr
theorem MQ {call:Za} {b:Na} {cl:St→Option St} {Q:Ex×St→Prop} {s:St} (h:Td (fun r=>r.1.stop=true∧Q r) (ta call b s)):
 Td (fun r=>r.1.stop=true∧Q r) (fa (ta call b) cl s):=by
 rw[fa,Lz]
 refine xa h ?_
 rintro⟨ex,t⟩ ⟨h1,h2⟩
 cases ex with
 |norm=>cases h1
 |exit=>exact⟨h1,h2⟩
 |ret=>exact⟨h1,h2⟩
theorem Un {call:Za} {b:Na} {live:List Nat} {Q:Ex×St→Prop} {s:St} (I:Nat→St→Prop) (N:Nat) (hN:N < oa) (h0:Xg s.H.length live (I 0) s)
 (hs:∀ i t,i < N→I i t→Td (RQ s.H.length live (I (i+1)) Q) (ta call b t)) (he:∀ t,I N t→Td (fun r=>r.1.stop=true∧Q r) (ta call b t)):
 Td (fun r=>r.1.stop=true∧Q r) (ta call (.loop live b) s):=by
 obtain⟨s',h1,h2⟩:=h0.ga
 rw[xb,h1]
 exact Nb I N hN s' h2 (fun i t hi hI=>NR (hs i t hi hI)) (fun t hI=>MQ (he t hI))
theorem JQ {call:Za} {b:Na} {live:List Nat} {Q:Ex×St→Prop} {s:St} (I:Nat→St→Prop) (N:Nat) (hN:N < oa) (h0:Xg s.H.length live (I N) s)
 (hs:∀ k t,I k t→Td (RQ s.H.length live (fun s'=>∃ j,j < k∧I j s') Q) (ta call b t)):
 Td (fun r=>r.1.stop=true∧Q r) (ta call (.loop live b) s):=by
 obtain⟨s',h1,h2⟩:=h0.ga
 rw[xb,h1]
 refine Iq I oa N s' hN h2 fun k t hI=> ?_
 rw[fa,Lz]
 refine xa (hs k t hI) ?_
 rintro⟨ex,t⟩ hr
 cases ex with
 |norm=>
  obtain⟨s',h1,h2⟩:=Xg.ga (J:=fun s'=>∃ j,j < k∧I j s') hr
  show Td _ (Dq (Go.AM.ga _ live t))
  rw[h1];exact h2
 |exit=>exact hr
 |ret=>exact hr
theorem Xg.all {live:List Nat} {J:St→Prop} {E:Tr} {H:List ba} {n:Nat} (hn:n=H.length) (h1:∀ o∈H,ma n o=some o) (h2:∀ t∈live,(E.get t).cut n deep=some (E.get t)) (h3:∀ E',(∀ t∈live,E'.get t=E.get t)→J ⟨E',H⟩):Xg n live J ⟨E,H⟩:=
 ⟨H,[],by simp,hn.symm,h1,h2,h3⟩
theorem Xg.front {live:List Nat} {J:St→Prop} {E:Tr} {A T:List ba} {n:Nat} (hn:n=A.length) (h1:∀ o∈A,ma n o=some o) (h2:∀ t∈live,(E.get t).cut n deep=some (E.get t)) (h3:∀ E',(∀ t∈live,E'.get t=E.get t)→J ⟨E',A⟩):Xg n live J ⟨E,A++T⟩:=
 ⟨A,T,rfl,hn.symm,h1,h2,h3⟩
theorem Tu {n d id off:Nat} (h:id < n):AV.cut n d (.ptr id off)=some (.ptr id off):=by
 cases d <;> simp[AV.cut,h]
theorem ZN {n d id len:Nat} (h:id < n):AV.cut n d (.own id len)=some (.own id len):=by
 cases d <;> simp[AV.cut,h]
theorem tE {n d id sz:Nat} {nl:Bool} {es:List PV} (h:id < n):AV.cut n d (.uq id nl sz es)=some (.uq id nl sz es):=by
 cases d <;> simp[AV.cut,h]
theorem Fo (n:Nat) (cs:List PV):ma n (.box (cs.map .pv))=some (.box (cs.map .pv)):=by
 have:Qa (AV.cut n deep) (cs.map .pv)=some (cs.map .pv):=Gl fun a ha=>by
  obtain⟨p,_,rfl⟩:=List.mem_map.1 ha
  exact Ia
 simp[ma,this]
def Zd (l:List Nat) (E E':Tr):Prop:=∀ t∈l,E'.get t=E.get t
theorem Zd.refl (l:List Nat) (E:Tr):Zd l E E:=fun _ _=>rfl
theorem Zd.trans {l:List Nat} {E E' E'':Tr} (h1:Zd l E E') (h2:Zd l E' E''):Zd l E E'':=fun t ht=>(h2 t ht).trans (h1 t ht)
theorem Zd.sub {l l':List Nat} {E E':Tr} (h:Zd l E E') (hs:l'.all l.contains=true):Zd l' E E':=fun t ht=>h t (by
 have:=List.all_eq_true.1 hs t ht
 simpa using this)
theorem Zd.set {l:List Nat} {E E':Tr} {k:Nat} {v:AV} (h:Zd l E E') (hk:l.contains k=false):Zd l E (E'.set k v):=fun t ht=>by
 have:t≠k:=by
  rintro rfl
  have:l.contains t=true:=by simpa using ht
  rw[hk] at this;cases this
 rw[Tr.aa,if_neg this];exact h t ht
def Fit (n:Nat) (l:List Nat) (E:Tr):Prop:=∀ t∈l,(E.get t).cut n deep=some (E.get t)
theorem Fit.nil (n:Nat) (E:Tr):Fit n [] E:=fun _ h=>by cases h
theorem Fit.cons {n t:Nat} {l:List Nat} {E:Tr} {v:AV} (h:E.get t=v) (hv:v.cut n deep=some v) (hl:Fit n l E):Fit n (t::l) E:=fun u hu=>by
 rcases List.mem_cons.1 hu with rfl | hu
 ·rw[h];exact hv
 ·exact hl u hu
theorem Fit.Be {n:Nat} {l:List Nat} {E E':Tr} (h:Fit n l E) (hk:Zd l E E'):Fit n l E':=fun t ht=>by rw[hk t ht];exact h t ht
theorem Fit.sub {n:Nat} {l l':List Nat} {E:Tr} (h:Fit n l E) (hs:l'.all l.contains=true):Fit n l' E:=fun t ht=>h t (by
 have:=List.all_eq_true.1 hs t ht
 simpa using this)
end Go.AM.B1
namespace Go.AM.B1
open Go.AM Go.AM.So
def Has (E:Tr):List (Nat×AV)→Prop
 | []=>True
 | (k,v)::l=>E.get k=v∧Has E l
theorem Has.mem {E:Tr} {p:Nat×AV}:∀ {l:List (Nat×AV)},Has E l→p∈l→E.get p.1=p.2
 |q::l,h,hm=>by
  rcases List.mem_cons.1 hm with rfl | hm
  ·exact h.1
  ·exact Has.mem h.2 hm
theorem Has.move {E E':Tr}:∀ {l:List (Nat×AV)},Has E l→(∀ t∈l.map (·.1),E'.get t=E.get t)→Has E' l
 | [],_,_=>trivial
 |q::l,h,hk=>⟨(hk _ (by simp)).trans h.1,Has.move h.2 fun t ht=>hk t (by simp at ht ⊢;exact .inr ht)⟩
def RD (n:Nat):ba→Bool
 | .box cells=>cells.all (AV.Be n deep)
 | .seq _ _ cells _ _=>cells.all (AV.Be n deep)
 |_=>true
theorem zR {n:Nat} {o:ba} (h:RD n o=true):ma n o=some o:=by
 cases o with
 |box cells=>simp only[RD] at h;simp only[ma,uG h];rfl
 |seq sz ag cells fl nl=>simp only[RD] at h;simp only[ma,h];rfl
 |tok=>rfl
 |map=>rfl
 |dead=>rfl
theorem Vn {n d:Nat} (p:PV):AV.Be n d (.pv p)=true:=by cases d <;> rfl
theorem Vz {n d id off:Nat} (h:id < n):AV.Be n d (.ptr id off)=true:=by cases d <;> simp[AV.Be,h]
theorem DS {n d id len:Nat} (h:id < n):AV.Be n d (.own id len)=true:=by cases d <;> simp[AV.Be,h]
theorem bL (n:Nat) (cs:List PV):RD n (.box (cs.map .pv))=true:=by
 simp only[RD,List.all_map,List.all_eq_true];exact fun p _=>Vn p
theorem PR (n sz:Nat) (ag:Bool) (cs:List PV) (fl:Nat) (nl:Bool):RD n (.seq sz ag (cs.map .pv) fl nl)=true:=by
 simp only[RD,List.all_map,List.all_eq_true];exact fun p _=>Vn p
theorem yt {n:Nat} {H:List ba} (h:H.all (RD n)=true):∀ o∈H,ma n o=some o:=fun o ho=>zR (List.all_eq_true.1 h o ho)
def RH {σ:Type} (L:σ→List (Nat×AV)) (Hp:σ→List ba) (P:σ→Prop) (Q:Ex×St→Prop):Ex×St→Prop
 | (.norm,s)=>∃ x T,Has s.env (L x)∧s.H=Hp x++T∧P x
 |r=>Q r
section
variable {σ:Type} {call:Za} {b:Na} {live:List Nat} {Q:Ex×St→Prop} {E0:Tr} {H0:List ba}
 (L:σ→List (Nat×AV)) (Hp:σ→List ba) (hk:∀ x,(L x).map (·.1)=live)
theorem XX {n:Nat} {P:σ→Prop} {s:St} (hk:∀ x,(L x).map (·.1)=live) (hc:∀ x,P x→(L x).all (fun p=>AV.Be n deep p.2)=true∧(∀ o∈Hp x,ma n o=some o)∧(Hp x).length=n) (h:∃ x T,Has s.env (L x)∧s.H=Hp x++T∧P x):
 Xg n live (fun t=>∃ x,Has t.env (L x)∧t.H=Hp x∧P x) s:=by
 obtain⟨x,T,h1,h2,h3⟩:=h
 obtain⟨c1,c2,c3⟩:=hc x h3
 refine⟨Hp x,T,h2,c3,c2,fun t ht=> ?_,fun E' hE=>⟨x,h1.move fun t ht=>hE t (by rw[← hk x];exact ht),rfl,h3⟩⟩
 rw[← hk x] at ht
 obtain⟨p,hp,rfl⟩:=List.mem_map.1 ht
 rw[h1.mem hp]
 exact CJ _ (List.all_eq_true.1 c1 p hp)
theorem Mo (P:Nat→σ→Prop) (N:Nat) (hN:N < oa) (hk:∀ x,(L x).map (·.1)=live)
 (hc:∀ i x,P i x→(L x).all (fun p=>AV.Be H0.length deep p.2)=true∧(∀ o∈Hp x,ma H0.length o=some o)∧(Hp x).length=H0.length)
 (h0:∃ x,Has E0 (L x)∧H0=Hp x∧P 0 x)
 (hs:∀ i x E,i < N→P i x→Has E (L x)→Td (RH L Hp (P (i+1)) Q) (ta call b ⟨E,Hp x⟩))
 (he:∀ x E,P N x→Has E (L x)→Td (fun r=>r.1.stop=true∧Q r) (ta call b ⟨E,Hp x⟩)):
 Td (fun r=>r.1.stop=true∧Q r) (ta call (.loop live b) ⟨E0,H0⟩):=by
 obtain⟨x0,a1,a2,a3⟩:=h0
 refine Un (fun i t=>∃ x,Has t.env (L x)∧t.H=Hp x∧P i x) N hN (XX L Hp hk (hc 0) ⟨x0,[],a1,by rw[List.append_nil];exact a2,a3⟩) ?_ ?_
 ·rintro i ⟨E,H⟩ hi ⟨x,h1,h2,h3⟩
  simp only at h2;subst h2
  refine xa (hs i x E hi h3 h1) ?_
  rintro⟨ex,s⟩ hr
  cases ex with
  |norm=>exact XX L Hp hk (hc (i+1)) hr
  |exit=>exact hr
  |ret=>exact hr
 ·rintro⟨E,H⟩ ⟨x,h1,h2,h3⟩
  simp only at h2;subst h2
  exact he x E h3 h1
end
end Go.AM.B1
namespace Go.Proofs
open Go.Shelf Go.RowKit Go.Lib Go.Sort
shelf_lay_g SlLaysF0.n6 Slsf 6 at Tryz 172 as Tryz.sortRun
shelf_lay_g SlLaysC2.n5 Slgc 5 at Tryz 70 as Tryz.cmpInt
theorem XN (r:List Int):∃ a b:Int,AM.encI 2 r=[.int .i64 a,.int .i64 b]∧AM.Fw 2 0 r=a:=by
 unfold AM.encI AM.Fw
 by_cases h:r.length=2
 ·match r,h with
  | [a,b],_=>exact⟨a,b,rfl,rfl⟩
 ·rw[if_neg h,if_neg h];exact⟨0,0,rfl,rfl⟩
set_option maxHeartbeats 1000000 in
theorem xU (a b c d:Int) (W:World):Calls Tryz.prog 173 #[.agg #[.int .i64 a,.int .i64 b],.agg #[.int .i64 c,.int .i64 d]] W fun e w'=>e= .returned (.int .i64 (Lib.compareInt a c))∧∃ q os',w'=grow (W.drewN q) os':=by
 have hcon:=fun W'=>AnyG.cmp_Compare_int Tryz.cmpInt a c W'
 change ∀ W',Calls Tryz.prog 70 _ _ _ at hcon
 generalize Lib.compareInt a c=r at hcon ⊢
 go_enter Tryz.func173,Tryz.ntmps173
 go_wp2_with (go_at_call 70;refine (hcon _).mono ?_;rintro e w' ⟨rfl,rfl⟩)
 go_ret
 exact⟨rfl,0,_,by rw[alloc_eq_grow,alloc_eq_grow,grow_grow];rfl⟩
theorem iS:AM.vL Tryz.prog 172 173 2 0 where
 call:=⟨_,_,Tryz.func172,rfl,by kernel_rfl⟩
 many:=by
  intro blk ofs cap D w hH hb hs
  refine AnyQ.slices_SortFunc_eq Tryz.sortRun 2 Tryz.isAgg258 Tryz.sizeOf258 (AM.encI 2) (fun x=>by obtain⟨a,b,h,_⟩:=XN x;rw[h];rfl) (fun x v hv=>by
   obtain⟨a,b,h,_⟩:=XN x
   rw[h] at hv
   simp at hv
   rcases hv with rfl | rfl <;> rfl) (AM.wW 2 0) (AM.sX 2 0) 173 #[] blk ofs cap D w (enters_of Tryz.func173 (by kernel_rfl) rfl) (fun m os dk _ x y=> ?_) hH hb hs
  obtain⟨a,b,h1,h2⟩:=XN x
  obtain⟨c,d,h3,h4⟩:=XN y
  rw[h1,h3]
  unfold AM.wW
  rw[h2,h4]
  exact xU a b c d _
 none:=fun p cap w=>AnyF.slices_SortFunc_none Tryz.sortRun p cap _ w
end Go.Proofs
namespace Go.AM.B1
open Go.AM
def ei:Na:=(jQ [jB 12 .lss 11 10] (.seq (jX 12 0) (.seq (.block 1 (jQ [ji 13 2 9 11,jL 14 2 13,Co 5 (.alloc [(.int .i64 0),(.int .i64 0)]),jS 2 5 14] (.seq (jQ [Cv 15 3,jn 16 0 15,Cv 6 16] (jQ [Cv 17 6,jK 18 .gtr 17 0,Cv 19 18,jT 20 19 (.kf 0 5),jT 21 19 (.kl 1 20),jT 22 19 (.km 3),jT 23 19 (.km 6),jT 24 19 (.kK .sub 23 1),jT 25 19 (.ki 2 22 24),jT 26 19 (.kf 1 25),jT 27 19 (.kl 1 26),jT 28 19 (.kK .add 27 1),jT 29 19 (.kB .leq 21 28),ja 30 19 29] (jC 30 (jQ [Cv 31 3,Cv 32 6,jK 33 .sub 32 1,Cv 34 3,Cv 35 6,jK 36 .sub 35 1,ji 37 2 34 36,jf 38 1 37,jl 39 1 38,jf 40 1 5,jl 41 1 40,Co 42 (.mx [(.t 39),(.t 41)]),ji 43 2 31 33,jf 44 1 43,jS 1 44 42] (.exit 1)) .skip))) (.region [Cv 45 3,jL 46 2 5,Co 47 (.Yb .lit 2 true 1 [(.int .i64 0),(.int .i64 0)] [(0,(.t 46))]),Co 48 (.append true .own 2 true 16 (.t 45) (.t 47)),Cv 3 48])))) (.region [jK 49 .add 11 1,Cv 11 49]))))
def Bo:Hf:=⟨1,[.tmp 2],(jQ [jc 2 .pa] (jQ [Cv 7 0,Co 8 (.Nj 22 [(.t 7),(.f 23)])] (jQ [jc 3 .pa] (.ghost (.eH 3 2 true) (.seq (jQ [Cv 9 0,jn 10 0 9,jk 11 0] (.block 0 (.loop [3,9,10,11] ei))) (jr [Cv 50 3,Cv 2 50]))))))⟩
theorem qH:vc P fo 156 Bo:=fM Go.Proofs.Tryz.func156 dN
def Ic:Na:=(jQ [jB 12 .lss 11 10] (.seq (jX 12 0) (.seq (.block 1 (jQ [ji 13 2 9 11,jL 14 2 13,Co 5 (.alloc [(.int .i64 0),(.int .i64 0)]),jS 2 5 14] (.region [Cv 15 3,jL 16 2 5,Co 17 (.Yb .lit 2 true 1 [(.int .i64 0),(.int .i64 0)] [(0,(.t 16))]),Co 18 (.append true .own 2 true 16 (.t 15) (.t 17)),Cv 3 18]))) (.region [jK 19 .add 11 1,Cv 11 19]))))
def Zc:Hf:=⟨1,[.tmp 2],(jQ [jc 2 .pa] (jQ [Cv 6 0,jn 7 0 6,Co 8 (.Tg .own 2 true [(.int .i64 0),(.int .i64 0)] 16 (.c (.int .i64 0)) (.t 7)),Cv 3 8] (.seq (jQ [Cv 9 0,jn 10 0 9,jk 11 0] (.block 0 (.loop [3,9,10,11] Ic))) (jr [Cv 20 3,Cv 2 20]))))⟩
theorem Am:vc P fo 171 Zc:=fM Go.Proofs.Tryz.func171 dN
def Ki:Hf:=⟨1,[.tmp 2],(jQ [jc 2 .pa] (jQ [Cv 4 0,Co 5 (.Nj 0 [(.t 4)]),Cv 3 5] (.seq (jQ [Cv 6 3,Co 7 (.Ap Qi [(.t 6),(.c (.int .i64 1073741823))]),jt 8 7] (jC 8 (jr [jc 2 .pa]) .skip)) (jr [Cv 9 3,Cv 2 9]))))⟩
theorem By:vc P fo 155 Ki:=fM Go.Proofs.Tryz.func155 (dC Fp dN)
def Nc:Na:=(jQ [jB 12 .lss 11 10] (.seq (jX 12 0) (.seq (.block 1 (jQ [ji 13 2 9 11,jL 14 2 13,Co 5 (.alloc [(.int .i64 0),(.int .i64 0)]),jS 2 5 14] (.region [Cv 15 3,jL 16 2 5,Co 17 (.Yb .lit 2 true 1 [(.int .i64 0),(.int .i64 0)] [(0,(.t 16))]),Co 18 (.ku 2 true 16 15 17),Cv 3 18]))) (.region [jK 19 .add 11 1,Cv 11 19]))))
def xd:Hf:=⟨1,[.tmp 2],(jQ [jc 2 .pa] (jQ [Cv 6 0,jn 7 0 6,Co 8 (.Tg .uq 2 true [(.int .i64 0),(.int .i64 0)] 16 (.c (.int .i64 0)) (.t 7)),Cv 3 8] (.seq (jQ [Cv 9 0,jn 10 0 9,jk 11 0] (.block 0 (.loop [3,9,10,11] Nc))) (jr [Cv 20 3,Cv 2 20]))))⟩
theorem Mm:vc P fo 170 xd:=fM Go.Proofs.Tryz.func170 dN
def Ek:Hf:=⟨1,[.tmp 2],(jQ [jc 2 .pa] (jr [Cv 3 0,Co 4 (.Nj 2 [(.t 3)]),Cv 2 4]))⟩
theorem ey:vc P fo 153 Ek:=fM Go.Proofs.Tryz.func153 dN
def Yo:Hf:=⟨2,[.tmp 4],(jQ [jc 4 .pa] (jr [Cv 5 0,Co 6 (.Nj 1 [(.t 5)]),Cv 7 1,Co 8 (.Nj 1 [(.t 7)]),Co 9 (.append true .own 2 true 16 (.t 6) (.t 8)),Co 10 (.Nj 24 [(.t 9)]),Co 11 (.Nj 3 [(.t 10)]),Cv 4 11]))⟩
theorem pA:vc P fo 126 Yo:=fM Go.Proofs.Tryz.func126 dN
def Fb:Nat→Option Hf
 |24=>some Bo
 |0=>some Zc
 |1=>some Ki
 |2=>some xd
 |3=>some Ek
 |_=>none
theorem Ty:Vl P fo Fb:=by
 intro ix af h
 unfold Fb at h
 split at h
 ·injection h with h;subst h;exact qH
 ·injection h with h;subst h;exact Am
 ·injection h with h;subst h;exact By
 ·injection h with h;subst h;exact Mm
 ·injection h with h;subst h;exact ey
 ·cases h
def sk:Za:=fun ix args H=>if ix=22 then rz 2 0 23 args H else none
theorem eR (B0:lg):sq P fo B0 sk:=BK (s:=22) (g:=23) Go.Proofs.iS B0
def Yl:=XB sk Fb Yo
theorem eC:Ma P 126 Yl:=OI Ty eR pA
def Jb:Na:=(jQ [jB 15 .lss 14 13] (.seq (jX 15 0) (.seq (.block 1 (jQ [ji 16 2 12 14,jL 17 2 16,Co 5 (.alloc [.pa,(.int .i64 0)]),jS 2 5 17] (.seq (jQ [jf 18 0 5,jl 19 1 18,jn 20 0 19,jK 21 .lss 20 1,Cv 22 21,jF 23 22 (.kf 0 5),jF 24 22 (.kl 1 23),jF 25 22 (.kn 0 24),jF 26 22 (.kK .gtr 25 8),jo 27 22 26,Cv 28 27,jF 29 28 (.kf 1 5),jF 30 28 (.kl 1 29),jF 31 28 (.kK .lss 30 0),jo 32 28 31,Cv 33 32,jF 34 33 (.kf 1 5),jF 35 33 (.kl 1 34),jF 36 33 (.kK .gtr 35 1073741823),jo 37 33 36,Cv 38 37,jF 39 38 (.kf 0 5),jF 40 38 (.kl 1 39),jF 41 38 (.Nj 6 [(.t 40),(.f 7)]),jo 42 38 41] (jC 42 (jr [jb 2 false]) .skip)) (jQ [jf 43 1 5,jl 44 1 43,jL 45 2 5,jp 46 Pn 45,Co 47 (.build [(.int .i64 0),(.int .i64 0)] [(0,1,(.t 44)),(1,1,(.t 46))]),Co 48 (.Yb .lit 2 true 1 [(.int .i64 0),(.int .i64 0)] [(0,(.t 47))]),Cv 6 48] (.seq (jQ [Cv 49 6,Co 50 (.kj 2 49 0),jf 51 1 50,jl 52 1 51,jK 53 .gtr 52 1073741823,Cv 54 53,jF 55 54 (.km 3),jF 56 54 (.km 6),jF 57 54 (.kq Om 55 56),jF 58 54 (.kn 0 57),jF 59 54 (.kK .gtr 58 0),jo 60 54 59] (jC 60 (jr [jb 2 false]) .skip)) (.region [Cv 61 3,Cv 62 6,jq 63 Yl 61 62,Cv 3 63])))))) (.region [jK 64 .add 14 1,Cv 14 64]))))
def Kk:Hf:=⟨1,[.tmp 2],(jQ [jR 1 1 0,jb 2 false] (.seq (jQ [Jf 7 0 1,Jl 8 1 7,jn 9 0 8,jK 10 .gtr 9 32] (jC 10 (jr [jb 2 false]) .skip)) (jQ [jc 3 .pa] (.seq (jQ [Jf 11 0 1,Jl 12 1 11,jn 13 0 12,jk 14 0] (.block 0 (.loop [3,12,13,14] Jb))) (jr [jb 2 true])))))⟩
theorem mC:vc P fo 93 Kk:=fM Go.Proofs.Tryz.func93 (dC sF (dC vD (dC eC dN)))
def bc:Nat→Option Hf
 |5=>some Bc
 |6=>some Ib
 |7=>some Zj
 |_=>none
theorem fA:Vl P fo bc:=by
 intro ix af h
 unfold bc at h
 split at h
 ·injection h with h;subst h;exact xl
 ·injection h with h;subst h;exact Ak
 ·injection h with h;subst h;exact xD
 ·cases h
def ig:=Xb bc Kk
theorem Xv:Ma P 93 ig:=Ja fA mC
def Nr:Hf:=⟨1,[.tmp 2],(jQ [jR 1 2 0,jb 2 false] (jr [JL 3 2 1,Co 4 (.Yb .lit 2 true 1 [.pa,(.int .i64 0)] [(0,(.t 3))]),Co 5 (.build [.pa] [(0,1,(.t 4))]),jp 6 ig 5,Cv 2 6]))⟩
theorem MD:vc P fo 102 Nr:=fM Go.Proofs.Tryz.func102 (dC Xv dN)
def Yi:=Xb (fun _=>none) Nr
theorem Tn:Ma P 102 Yi:=Ja Sa MD
def sg:Na:=(jQ [jB 36 .lss 35 34] (.seq (jX 36 0) (.seq (.block 1 (jQ [Cv 37 35,Cv 9 37] (jQ [Jf 38 0 3,Jl 39 1 38,Cv 40 9,Ji 41 1 39 40,Jl 42 1 41,Jf 43 0 4,Jl 44 1 43,Cv 45 9,Ji 46 1 44 45,Jl 47 1 46,jq 48 Gp 42 47,Cv 10 48] (.seq (jQ [Cv 49 10,jn 50 0 49,jK 51 .eql 50 0] (jC 51 (jr [jc 6 .pa,jb 7 false]) .skip)) (.region [Cv 52 8,Cv 53 10,Co 54 (.kj 2 53 0),jf 55 0 54,jl 56 1 55,Co 57 (.conv .u8 (.t 56)),Co 58 (.Yb .lit 1 false 1 [(.int .u8 0)] [(0,(.t 57))]),Co 59 (.ku 1 false 1 52 58),Cv 8 59]))))) (.region [jK 60 .add 35 1,Cv 35 60]))))
def Xk:Hf:=⟨3,[.tmp 6,.tmp 7],(jQ [jR 3 2 0,jR 4 2 1,jc 6 .pa,jb 7 false] (.seq (jQ [JL 11 2 3,jp 12 Yi 11,jt 13 12,Cv 14 13,JF 15 14 (.kL 2 4),jF 16 14 (.kp Yi 15),jF 17 14 (.kt 16),jo 18 14 17,Cv 19 18,jF 20 19 (.km 2),jF 21 19 (.kK .lss 20 0),jo 22 19 21,Cv 23 22,jF 24 23 (.km 2),JF 25 23 (.kf 0 3),JF 26 23 (.kl 1 25),jF 27 23 (.kn 0 26),JF 28 23 (.kf 0 4),JF 29 23 (.kl 1 28),jF 30 23 (.kn 0 29),jF 31 23 (.mn [(.t 27),(.t 30)]),jF 32 23 (.kB .gtr 24 31),jo 33 23 32] (jC 33 (jr [jc 6 .pa,jb 7 false]) .skip)) (jQ [jc 8 .pa] (.ghost (.sL 8 1) (.seq (jQ [Cv 34 2,jk 35 0] (.block 0 (.loop [3,4,8,34,35] sg))) (jr [Cv 61 8,Cv 6 61,jb 7 true]))))))⟩
theorem kC:vc P fo 132 Xk:=fM Go.Proofs.Tryz.func132 (dC Tn (dC Tn (dC uI dN)))
def oi:=Xb (fun _=>none) Xk
theorem lE:Ma P 132 oi:=Ja Sa kC
def Vh:Na:=(.seq (jQ [Cv 14 5,jK 15 .gtr 14 0] (jX 15 0)) (.seq (.block 1 (jQ [Cv 18 3,Cv 19 5,Cv 20 4,ji 21 1 18 19,jS 1 21 20] (.region [Cv 22 4,Jf 23 0 1,Jl 24 1 23,Cv 25 5,jK 26 .sub 25 1,ji 27 1 24 26,jl 28 1 27,jp 29 Tm 28,jB 30 .mul 22 29,Cv 4 30]))) (.region [Cv 16 5,jK 17 .sub 16 1,Cv 5 17])))
def Br:Hf:=⟨1,[.tmp 2],(jQ [jR 1 2 0,jc 2 .pa] (jQ [Jf 6 0 1,Jl 7 1 6,jn 8 0 7,jK 9 .add 8 1,Co 10 (.Tg .own 1 false [(.int .i64 0)] 8 (.t 9) (.t 9)),Cv 3 10] (jQ [jk 4 1] (.seq (jQ [Jf 11 0 1,Jl 12 1 11,jn 13 0 12,Cv 5 13] (.block 0 (.loop [1,3,4,5] Vh))) (jQ [Cv 31 3,Cv 32 4,Co 33 (.kj 1 31 0),jS 1 33 32] (jr [Cv 34 3,Cv 2 34]))))))⟩
theorem DE:vc P fo 103 Br:=fM Go.Proofs.Tryz.func103 (dC zz dN)
def Ll:=Xb (fun _=>none) Br
theorem Xx:Ma P 103 Ll:=Ja Sa DE
def qh:Na:=(jQ [jB 27 .lss 26 25] (.seq (jX 27 0) (.seq (.block 1 (jQ [Cv 28 26,ji 29 1 24 26,jl 30 1 29,Cv 7 28,Cv 8 30] (jQ [Jf 32 0 2,Jl 33 1 32,Cv 34 7,Ji 35 1 33 34,Jl 36 1 35,Cv 37 1,Cv 38 7,Ji 39 1 37 38,Jl 40 1 39,Cp 41 (.conv .i64 (.t 40)),jq 42 Sm 36 41,Cv 31 42,jx 43 0 31,jx 44 1 31,Cv 9 43,Cv 10 44] (.seq (jQ [Cv 45 10,jt 46 45] (jC 46 (jr [jk 4 0,jb 5 false]) .skip)) (.region [Cv 47 6,Cv 48 9,Cv 49 8,jB 50 .mul 48 49,jB 51 .add 47 50,Cv 6 51]))))) (.region [jK 52 .add 26 1,Cv 26 52]))))
def Wm:Hf:=⟨2,[.tmp 4,.tmp 5],(jQ [jR 2 2 0,jk 4 0,jb 5 false] (.seq (jQ [JL 11 2 2,jp 12 Yi 11,jt 13 12,Cv 14 13,jF 15 14 (.km 1),jF 16 14 (.kn 0 15),JF 17 14 (.kf 0 2),JF 18 14 (.kl 1 17),jF 19 14 (.kn 0 18),jF 20 14 (.kB .neq 16 19),jo 21 14 20] (jC 21 (jr [jk 4 0,jb 5 false]) .skip)) (jQ [jk 6 0] (.seq (jQ [JL 22 2 2,jp 23 Ll 22,Co 24 (.slice 1 (.t 23) (some (.c (.int .i64 1))) none),jn 25 0 24,jk 26 0] (.block 0 (.loop [1,2,6,24,25,26] qh))) (jr [Cv 53 6,Cv 4 53,jb 5 true])))))⟩
theorem GF:vc P fo 160 Wm:=fM Go.Proofs.Tryz.func160 (dC Tn (dC Xx (dC ez dN)))
def Ti:=Xb (fun _=>none) Wm
theorem rH:Ma P 160 Ti:=Ja Sa GF
def Oh:Na:=(jQ [jB 20 .lss 19 18] (.seq (jX 20 0) (.seq (.block 1 (jQ [ji 21 1 17 19,jl 22 1 21,Cv 7 22] (.region [Cv 23 5,Cv 24 7,Co 25 (.kj 2 24 0),jf 26 0 25,jl 27 1 26,Co 28 (.conv .u8 (.t 27)),Co 29 (.Yb .lit 1 false 1 [(.int .u8 0)] [(0,(.t 28))]),Co 30 (.ku 1 false 1 23 29),Cv 5 30]))) (.region [jK 31 .add 19 1,Cv 19 31]))))
def Ur:Hf:=⟨2,[.tmp 4],(jQ [jR 2 2 0,jk 4 0] (jQ [Co 10 (.Yb .uq 1 false 0 [(.int .u8 0)] []),Cv 11 1,Co 12 (.ku 1 false 1 10 11),Cv 5 12] (.seq (jQ [Jf 13 0 2,Jl 14 1 13,Cv 15 1,jn 16 0 15,Co 17 (.slice 1 (.t 14) (some (.t 16)) none),jn 18 0 17,jk 19 0] (.block 0 (.loop [2,5,17,18,19] Oh))) (jQ [JL 33 2 2,Cv 34 5,jq 35 Ti 33 34,Cv 32 35,jx 36 0 32,jx 37 1 32,Cv 8 36,Cv 9 37] (jr [Jf 38 1 2,Jl 39 1 38,Cv 40 8,jB 41 .add 39 40,Cv 4 41])))))⟩
theorem ZD:vc P fo 133 Ur:=fM Go.Proofs.Tryz.func133 (dC rH dN)
def ak:=Xb (fun _=>none) Ur
theorem Wx:Ma P 133 ak:=Ja Sa ZD
def vg:Na:=(jQ [jB 30 .lss 29 28] (.seq (jX 30 2) (.seq (.block 3 (jQ [Cv 31 29,ji 32 2 27 29,jL 33 2 32,Co 10 (.alloc [.pa,(.int .i64 0)]),Cv 9 31,jS 2 10 33] (.seq (jQ [Cv 34 1,Cv 35 7,Cv 36 9,Co 37 (.EB (.t 34) [(.t 35),(.t 36)]),jt 38 37] (jC 38 (.exit 3) .skip)) (jQ [jL 40 2 8,jL 41 2 10,jf 42 0 8,jl 43 1 42,jn 44 0 43,Co 45 (.kr oi 40 41 44),Cv 39 45,jx 46 0 39,jx 47 1 39,Cv 11 46,Cv 12 47] (jQ [Cv 48 12] (jC 48 (jQ [jL 49 2 8,Cv 50 11,jq 51 ak 49 50,jL 52 2 10,Cv 53 11,jq 54 ak 52 53,Co 55 (.build [(.bool false),(.int .i64 0),(.int .i64 0)] [(1,1,(.t 51)),(2,1,(.t 54))]),jS 3 6 55] (.exit 0)) .skip)))))) (.region [jK 56 .add 29 1,Cv 29 56]))))
def Gi:Na:=(jQ [jB 22 .lss 21 20] (.seq (jX 22 0) (.seq (.block 1 (jQ [Cv 23 21,ji 24 2 19 21,jL 25 2 24,Co 8 (.alloc [.pa,(.int .i64 0)]),Cv 7 23,jS 2 8 25] (jQ [Jf 26 0 2,Jl 27 1 26,jn 28 0 27,jk 29 0] (.block 2 (.loop [1,2,4,6,7,8,19,20,21,27,28,29] vg))))) (.region [jK 57 .add 21 1,Cv 21 57]))))
def jg:Hf:=⟨2,[.cell 4 true 3,.tmp 5],(jQ [jR 2 1 0,Co 4 (.alloc [(.bool false),(.int .i64 0),(.int .i64 0)]),jk 5 0] (.scope (.seq (jQ [JL 13 1 2,jp 14 ig 13,jt 15 14] (jC 15 (jr [Co 16 (.build [(.bool false),(.int .i64 0),(.int .i64 0)] []),jS 3 4 16,jk 5 84]) .skip)) (jQ [Co 17 (.build [(.bool false),(.int .i64 0),(.int .i64 0)] [(0,1,(.c (.bool true)))]),Co 6 (.alloc [(.bool false),(.int .i64 0),(.int .i64 0)]),jS 3 6 17] (.seq .skip (.seq (jQ [Jf 18 0 2,Jl 19 1 18,jn 20 0 19,jk 21 0] (.block 0 (.loop [1,2,4,6,19,20,21] Gi))) (jr [jL 58 3 6,jS 3 4 58,jk 5 0])))))))⟩
theorem jv:vc P fo 99 jg:=fM Go.Proofs.Tryz.func99 (dC Xv (dC lE (dC Wx (dC Wx dN))))
def Pm:Hf:=⟨1,[.cell 2 true 3,.tmp 3],(jQ [Co 1 (.box 1 (.t 0)),Co 2 (.alloc [(.bool false),(.int .i64 0),(.int .i64 0)]),jk 3 0] (jr [jL 4 1 1,Co 5 (.zH 4 [(.t 1)]),Co 6 (.Nj 25 [(.t 4),(.t 5)]),jx 7 0 6,jx 8 1 6,jS 3 2 7,Cv 3 8]))⟩
theorem tC:vc P fo 95 Pm:=fM Go.Proofs.Tryz.func95 dN
def sj:Nat→Option Hf
 |4=>some ai
 |25=>some jg
 |_=>none
theorem tA:Vl P fo sj:=by
 intro ix af h
 unfold sj at h
 split at h
 ·injection h with h;subst h;exact Jz
 ·injection h with h;subst h;exact jv
 ·cases h
def Ke:=Xb sj Pm
theorem nD:Ma P 95 Ke:=Ja tA tC
def te:Hf:=⟨1,[.tmp 2],(jQ [jc 2 .pa] (.seq (jQ [Cv 3 0,Co 4 (.eq 2 false (.t 3) (.c .pa))] (jC 4 (jr [jc 2 .pa]) .skip)) (jr [Co 5 (.Yb .uq 2 true 0 [(.int .i64 0),(.int .i64 0)] []),Cv 6 0,Co 7 (.ku 2 true 16 5 6),Cv 2 7])))⟩
theorem ym:vc P fo 101 te:=fM Go.Proofs.Tryz.func101 dN
def Wc:=Xb (fun _=>none) te
theorem cn:Ma P 101 Wc:=Ja Sa ym
def Zh:Na:=(jQ [jB 23 .lss 22 21] (.seq (jX 23 2) (.seq (.block 3 (jQ [ji 24 1 20 22,jl 25 1 24,Cv 8 25] (.region [jf 26 0 6,jl 27 1 26,Cv 28 8,jp 29 Wc 28,Co 30 (.Yb .lit 1 false 1 [.pa] [(0,(.t 29))]),Co 31 (.ku 1 false 24 27 30),jf 32 0 6,jS 1 32 31]))) (.region [jK 33 .add 22 1,Cv 22 33]))))
def Uh:Na:=(jQ [jB 13 .lss 12 11] (.seq (jX 13 0) (.seq (.block 1 (jQ [ji 14 2 10 12,jL 15 2 14,Co 5 (.alloc [.pa,(.int .i64 0)]),jS 2 5 15] (jQ [jf 16 1 5,jl 17 1 16,Co 18 (.build [.pa,(.int .i64 0)] [(1,1,(.t 17))]),Co 6 (.alloc [.pa,(.int .i64 0)]),jS 2 6 18] (.ghost (.Cz 6 0 1) (.seq (jQ [jf 19 0 5,jl 20 1 19,jn 21 0 20,jk 22 0] (.block 2 (.loop [2,3,6,10,11,12,20,21,22] Zh))) (.region [jf 34 0 3,jl 35 1 34,jL 36 2 6,Co 37 (.Yb .lit 2 true 1 [.pa,(.int .i64 0)] [(0,(.t 36))]),Co 38 (.ku 2 true 32 35 37),jf 39 0 3,jS 1 39 38])))))) (.region [jK 40 .add 12 1,Cv 12 40]))))
def Nn:Hf:=⟨1,[.cell 2 true 1],(jQ [jR 1 1 0,Co 2 (.alloc [.pa])] (jQ [Co 3 (.alloc [.pa])] (.ghost (.Cz 3 0 2) (.seq (jQ [Jf 9 0 1,Jl 10 1 9,jn 11 0 10,jk 12 0] (.block 0 (.loop [2,3,10,11,12] Uh))) (jr [jL 41 1 3,jS 1 2 41])))))⟩
theorem wE:vc P fo 65 Nn:=fM Go.Proofs.Tryz.func65 (dC cn dN)
def Ui:=Xb (fun _=>none) Nn
theorem Ux:Ma P 65 Ui:=Ja Sa wE
def Xd:Hf:=⟨2,[.tmp 4,.tmp 5],(jQ [jR 3 2 1,jk 4 0,jb 5 false] (jQ [Cv 9 0,jz 10 9,jf 11 1 10,jl 12 1 11,JL 13 2 3,Co 14 (.lookup (.row [1,1]) (.int .i64 0) true (.t 12) (.t 13)),Cv 8 14,jx 15 0 8,jx 16 1 8,Cv 6 15,Cv 7 16] (.seq (jQ [Cv 17 7,jt 18 17] (jC 18 (jQ [Cv 19 0,jz 20 19,jf 21 2 20,jl 22 1 21,jn 23 0 22,Cv 6 23] (.seq (jQ [Cv 24 6,jK 25 .eql 24 64] (jC 25 (jr [jk 4 0,jb 5 false]) .skip)) (jQ [Cv 26 0,jz 27 26,jf 28 1 27,jl 29 1 28,JL 30 2 3,Cv 31 6,Ce (.uu (.row [1,1]) (.t 29) (.t 30) (.t 31))] (.region [Cv 32 0,Cv 33 0,jz 34 33,jf 35 2 34,jl 36 1 35,JL 37 2 3,Co 38 (.Yb .lit 2 true 1 [(.int .i64 0),(.int .u32 0)] [(0,(.t 37))]),Co 39 (.ku 2 true 16 36 38),jz 40 32,jf 41 2 40,jS 1 41 39])))) .skip)) (jr [Cv 42 6,Cv 4 42,jb 5 true]))))⟩
theorem Ax:vc P fo 129 Xd:=fM Go.Proofs.Tryz.func129 dN
def Bb:Na:=(jQ [jB 19 .lss 18 17] (.seq (jX 19 0) (.seq (.block 1 (jQ [Cv 20 18,ji 21 2 16 18,jL 22 2 21,Co 11 (.alloc [.pa,(.int .i64 0)]),Cv 10 20,jS 2 11 22] (jQ [Jf 23 1 4,Jl 24 1 23,Cv 25 10,jB 26 .shr 24 25,Co 27 (.bin .and (.t 26) (.c (.int .u32 1))),Co 28 (.bin .eql (.t 27) (.c (.int .u32 1))),Cv 29 28,jT 30 29 (.kf 0 11),jT 31 29 (.kl 1 30),JT 32 29 (.kf 0 4),JT 33 29 (.kl 1 32),jT 34 29 (.ki 1 31 33),jT 35 29 (.kl 1 34),jT 36 29 (.km 2),jT 37 29 (.kq Uk 35 36),ja 38 29 37] (jC 38 (jQ [Cv 39 8,Cv 40 10,Co 41 (.bin .shl (.c (.int .u32 1)) (.t 40)),jB 42 .or 39 41,Cv 8 42] (.region [Cv 43 9,Cv 44 43,jF 45 44 (.kf 0 11),jF 46 44 (.kl 1 45),jF 47 44 (.kn 0 46),JF 48 44 (.kf 0 4),JF 49 44 (.kl 1 48),jF 50 44 (.kK .add 49 1),jF 51 44 (.kB .eql 47 50),jo 52 44 51,Cv 9 52])) .skip)))) (.region [jK 53 .add 18 1,Cv 18 53]))))
def wi:Hf:=⟨3,[.tmp 6,.tmp 7],(jQ [jR 4 2 1,Co 6 (.move (.c (.int .u32 0))),jb 7 false] (jQ [Co 8 (.move (.c (.int .u32 0)))] (jQ [jb 9 false] (.seq (jQ [Cv 12 0,jz 13 12,jf 14 0 13,jf 15 0 14,jl 16 1 15,jn 17 0 16,jk 18 0] (.block 0 (.tp [2,4,8,9,16,17,18] Bb))) (jr [Cv 54 8,Cv 55 9,Cv 6 54,Cv 7 55])))))⟩
theorem Yt:vc P fo 130 wi:=fM Go.Proofs.Tryz.func130 (dC HJ dN)
def La:Na:=(jQ [jK 31 .lss 30 256] (.seq (jX 31 2) (.seq (.block 3 (jQ [Cv 32 30,Cv 5 32] (jQ [Cv 34 0,Cv 35 0,jz 36 35,jf 37 2 36,jl 38 1 37,Cv 39 3,ji 40 2 38 39,jL 41 2 40,Cv 42 5,Co 43 (.Nj 27 [(.t 34),(.t 41),(.t 42)]),Cv 33 43,jx 44 0 33,jx 45 1 33,Cv 6 44,Cv 7 45] (.block 4 (jQ [Cv 68 6,Co 69 (.bin .eql (.t 68) (.c (.int .u32 0))),Cv 67 69] (jC 67 (.region [Cv 70 5,Co 71 (.kA 256 1 4 70),Ce (.store 1 (.t 71) (.c (.int .i64 (-2))))]) (jQ [Cv 73 7,Cv 72 73] (jC 72 (.region [Cv 74 5,Co 75 (.kA 256 1 4 74),Ce (.store 1 (.t 75) (.c (.int .i64 (-1))))]) (jQ [Cv 47 0,Cv 48 0,jz 49 48,jf 50 2 49,jl 51 1 50,Cv 52 3,ji 53 2 51 52,jf 54 0 53,jl 55 1 54,jK 56 .add 55 1,Cv 57 6,Co 58 (.build [(.int .i64 0),(.int .u32 0)] [(0,1,(.t 56)),(1,1,(.t 57))]),Co 59 (.Nj 26 [(.t 47),(.t 58)]),Cv 46 59,jx 60 0 46,jx 61 1 46,Cv 8 60,Cv 9 61] (.seq (jQ [Cv 62 9,jt 63 62] (jC 63 (jr [jb 2 false]) .skip)) (.region [Cv 64 5,Cv 65 8,Co 66 (.kA 256 1 4 64),jS 1 66 65]))))))))))) (.region [jK 76 .add 30 1,Cv 30 76]))))
def qb:Na:=(.seq (jQ [Cv 21 3,Cv 22 0,jz 23 22,jf 24 2 23,jl 25 1 24,jn 26 0 25,jB 27 .lss 21 26] (jX 27 0)) (.seq (.block 1 (jQ [Co 4 (.alloc (List.replicate 256 (.int .i64 0)))] (.seq (jQ [jk 30 0] (.block 2 (.loop [0,3,4,30] La))) (.region [Cv 77 0,Cv 78 0,jz 79 78,jf 80 3 79,jl 81 1 80,jL 82 256 4,Co 83 (.Yb .lit 256 true 1 (List.replicate 256 (.int .i64 0)) [(0,(.t 82))]),Co 84 (.append true .own 256 true 2048 (.t 81) (.t 83)),jz 85 77,jf 86 3 85,jS 1 86 84])))) (.region [Cv 28 3,jK 29 .add 28 1,Cv 3 29])))
def xg:Hf:=⟨1,[.tmp 2],(jQ [jb 2 false] (jQ [Cv 10 0,Cv 11 0,jz 12 11,jf 13 0 12,jf 14 0 13,jl 15 1 14,jn 16 0 15,Co 17 (.bin .shl (.c (.int .u32 1)) (.t 16)),Co 18 (.bin .sub (.t 17) (.c (.int .u32 1))),Co 19 (.build [(.int .i64 0),(.int .u32 0)] [(1,1,(.t 18))]),Co 20 (.Nj 26 [(.t 10),(.t 19)])] (.seq (jQ [jk 3 0] (.block 0 (.loop [0,3] qb))) (jr [jb 2 true]))))⟩
theorem dw:vc P fo 96 xg:=fM Go.Proofs.Tryz.func96 dN
end Go.AM.B1
