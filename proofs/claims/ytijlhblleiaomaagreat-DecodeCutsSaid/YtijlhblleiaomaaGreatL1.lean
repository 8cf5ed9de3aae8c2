/- What functions of the program compute. -/
import Derived.Test.YtijlhblleiaomaaGreatK3
import Derived.Test.YtijlhblleiaomaaGreatProg
import Derived.Shelf.SlicesG.Cmp
import Derived.Shelf.Lay
import Derived.Ground.SlsfProg
import Derived.Ground.SlgcProg
import Derived.RangeFuncNested
import Derived.RangeFuncBound
import Derived.RangeFuncCalls
import Derived.RangeFuncLeaves
import Derived.Shelf.Abstract
import Derived.Shelf.RegionOpen
import Derived.WalkKit
import Derived.OwnWalkIn
import Derived.TacticsInMore
import Derived.LoopNIn
import Derived.LoopIn
set_option linter.unusedVariables false
set_option linter.unusedSimpArgs false
namespace Go.AM.B1
open Go.AM
noncomputable abbrev P:Program:=Go.Proofs.Tryz.prog
def fo:Nat->FuncId
 |0=>145
 |1=>112
 |2=>144
 |3=>110
 |4=>118
 |5=>107
 |6=>77
 |7=>78
 |8=>163
 |9=>172
 |22=>146
 |23=>147
 |24=>113
 |25=>94
 |26=>119
 |27=>120
 |28=>91
 |29=>92
 |30=>93
 |34=>67
 |35=>151
 |36=>68
 |37=>95
 |38=>124
 |39=>97
 |74=>19
 |80=>54
 |81=>87
 |82=>89
 |83=>88
 |84=>57
 |85=>59
 |86=>31
 |87=>33
 |88=>37
 |89=>58
 |90=>56
 |91=>55
 |92=>36
 |93=>34
 |94=>40
 |95=>39
 |96=>41
 |97=>42
 |98=>20
 |99=>49
 |127=>23
 |128=>24
 |132=>96
 |138=>64
 |139=>45
 |140=>70
 |_=>0
theorem Ua:wm P fo (fun _=>none):=fun ix af h=>by cases h
def Mc:Ja:=(jQ [jB 12 .lss 11 10] (.seq (jX 12 0) (.seq (.block 1 (jQ [ji 13 2 9 11,jL 14 2 13,Co 5 (.alloc [(.int .i64 0),(.int .i64 0)]),jS 2 5 14] (.region [Cv 15 3,jL 16 2 5,Co 17 (.xb .lit 2 true 1 [(.int .i64 0),(.int .i64 0)] [(0,(.t 16))]),Co 18 (.ku 2 true 16 15 17),Cv 3 18]))) (.region [jK 19 .add 11 1,Cv 11 19]))))
def ni:Ue:=⟨1,[.tmp 2],(jQ [jc 2 .ga] (jQ [Cv 6 0,jn 7 0 6,Co 8 (.eh .uq 2 true [(.int .i64 0),(.int .i64 0)] 16 (.c (.int .i64 0)) (.t 7)),Cv 3 8] (.seq (jQ [Cv 9 0,jn 10 0 9,jk 11 0] (.block 0 (.loop [3,9,10,11] Mc))) (jr [Cv 20 3,Cv 2 20]))))⟩
theorem Mq:qc P fo 142 ni:=fM Go.Proofs.Tryz.func142 dN
def dc:=Pb (fun _=>none) ni
theorem Fl:Oa P 142 dc:=Ka Ua Mq
def Sd:Ja:=(jQ [jB 11 .lss 10 9] (.seq (jX 11 0) (.seq (.block 1 (jQ [ji 12 2 8 10,jL 13 2 12,Co 7 (.alloc [(.int .i64 0),(.int .i64 0)]),jS 2 7 13] (.seq (jQ [jf 14 0 7,jl 15 1 14,jK 16 .lss 15 0,Cv 17 16,jF 18 17 (.kf 0 7),jF 19 17 (.kl 1 18),jF 20 17 (.kf 1 7),jF 21 17 (.kl 1 20),jF 22 17 (.kB .gtr 19 21),jo 23 17 22,Cv 24 23,jF 25 24 (.kf 1 7),jF 26 24 (.kl 1 25),jF 27 24 (.km 1),jF 28 24 (.kB .gtr 26 27),jo 29 24 28,Cv 30 29,jF 31 30 (.kf 0 7),jF 32 30 (.kl 1 31),jF 33 30 (.kK .sub 32 1),jF 34 30 (.km 5),jF 35 30 (.kB .leq 33 34),jo 36 30 35] (jC 36 (jr [jb 4 false]) .skip)) (.region [jf 37 1 7,jl 38 1 37,Cv 5 38])))) (.region [jK 39 .add 10 1,Cv 10 39]))))
def tr:Ue:=⟨2,[.tmp 4],(jQ [jb 4 false] (jQ [jk 5 (-2)] (.seq (jQ [Cv 8 0,jn 9 0 8,jk 10 0] (.block 0 (.loop [1,5,8,9,10] Sd))) (jr [jb 4 true]))))⟩
theorem XH:qc P fo 141 tr:=fM Go.Proofs.Tryz.func141 dN
def xj:=Pb (fun _=>none) tr
theorem ur:Oa P 141 xj:=Ka Ua XH
def ru:Ue:=⟨1,[.tmp 2],(jQ [jb 2 false] (jr [Cv 3 0,jp 4 dc 3,Co 5 (.Hq xj [(.t 4),(.c (.int .i64 255))]),Cv 2 5]))⟩
theorem PH:qc P fo 108 ru:=fM Go.Proofs.Tryz.func108 (dC Fl (dC ur dN))
def Up:=Pb (fun _=>none) ru
theorem kI:Oa P 108 Up:=Ka Ua PH
def Xp:Ue:=⟨1,[.tmp 2],(jQ [jc 2 .ga] (jQ [Cv 4 0,jp 5 dc 4,Cv 3 5] (.seq (jQ [Cv 6 3,Co 7 (.Hq xj [(.t 6),(.c (.int .i64 255))]),jt 8 7] (jC 8 (jr [jc 2 .ga]) .skip)) (jr [Cv 9 3,Cv 2 9]))))⟩
theorem xK:qc P fo 116 Xp:=fM Go.Proofs.Tryz.func116 (dC Fl (dC ur dN))
def Fh:=Pb (fun _=>none) Xp
theorem Bq:Oa P 116 Fh:=Ka Ua xK
def Yl:Ja:=(jQ [jB 9 .lss 8 7] (.seq (jX 9 0) (.seq (.block 1 (jQ [ji 10 2 6 8,jL 11 2 10,Co 5 (.alloc [(.int .i64 0),(.int .i64 0)]),jS 2 5 11] (.region [Cv 12 3,jf 13 1 5,jl 14 1 13,jf 15 0 5,jl 16 1 15,jB 17 .sub 14 16,jK 18 .add 17 1,jB 19 .add 12 18,Cv 3 19]))) (.region [jK 20 .add 8 1,Cv 8 20]))))
def Xy:Ue:=⟨1,[.tmp 2],(jQ [jk 2 0] (jQ [jk 3 0] (.seq (jQ [Cv 6 0,jn 7 0 6,jk 8 0] (.block 0 (.loop [3,6,7,8] Yl))) (jr [Cv 21 3,Cv 2 21]))))⟩
theorem BL:qc P fo 143 Xy:=fM Go.Proofs.Tryz.func143 dN
def tt:=Pb (fun _=>none) Xy
theorem MN:Oa P 143 tt:=Ka Ua BL
def Iw:Ue:=⟨1,[.tmp 2],(jQ [jk 2 0] (jr [Cv 3 0,jp 4 Fh 3,jp 5 tt 4,Cv 2 5]))⟩
theorem vI:qc P fo 109 Iw:=fM Go.Proofs.Tryz.func109 (dC Bq (dC MN dN))
def Un:=Pb (fun _=>none) Iw
theorem KB:Oa P 109 Un:=Ka Ua vI
def Xo:Ja:=(jQ [jB 12 .lss 11 10] (.seq (jX 12 0) (.seq (.block 1 (jQ [ji 13 2 9 11,jL 14 2 13,Co 5 (.alloc [(.int .i64 0),(.int .i64 0)]),jS 2 5 14] (.region [Cv 15 3,jL 16 2 5,Co 17 (.xb .lit 2 true 1 [(.int .i64 0),(.int .i64 0)] [(0,(.t 16))]),Co 18 (.ku 2 true 16 15 17),Cv 3 18]))) (.region [jK 19 .add 11 1,Cv 11 19]))))
def Lk:Ue:=⟨1,[.tmp 2],(jQ [jc 2 .ga] (jQ [Cv 6 0,jn 7 0 6,Co 8 (.eh .uq 2 true [(.int .i64 0),(.int .i64 0)] 16 (.c (.int .i64 0)) (.t 7)),Cv 3 8] (.seq (jQ [Cv 9 0,jn 10 0 9,jk 11 0] (.block 0 (.loop [3,9,10,11] Xo))) (jr [Cv 20 3,Cv 2 20]))))⟩
theorem gq:qc P fo 145 Lk:=fM Go.Proofs.Tryz.func145 dN
def Qh:=Pb (fun _=>none) Lk
theorem Wq:Oa P 145 Qh:=Ka Ua gq
def Bg:Ja:=(.seq (jQ [Cv 8 0,jn 9 0 8,jK 10 .gtr 9 0,Cv 11 10,jT 12 11 (.km 1),jT 13 11 (.kn 0 12),jT 14 11 (.kK .gtr 13 0),ja 15 11 14] (jX 15 0)) (.block 1 (jQ [Cv 16 0,Cp 17 (.kj 2 16 0),jf 18 0 17,jl 19 1 18,Cv 20 1,Cp 21 (.kj 2 20 0),jf 22 0 21,jl 23 1 22,Co 24 (.mx [(.t 19),(.t 23)]),Cv 25 0,Cp 26 (.kj 2 25 0),jf 27 1 26,jl 28 1 27,Cv 29 1,Cp 30 (.kj 2 29 0),jf 31 1 30,jl 32 1 31,Co 33 (.mn [(.t 28),(.t 32)]),Cv 6 24,Cv 7 33] (.seq (jQ [Cv 34 6,Cv 35 7,jB 36 .leq 34 35] (jC 36 (.region [Cv 37 5,Cv 38 6,Cv 39 7,Co 40 (.build [(.int .i64 0),(.int .i64 0)] [(0,1,(.t 38)),(1,1,(.t 39))]),Co 41 (.xb .lit 2 true 1 [(.int .i64 0),(.int .i64 0)] [(0,(.t 40))]),Co 42 (.ku 2 true 16 37 41),Cv 5 42]) .skip)) (jQ [Cv 43 0,Cp 44 (.kj 2 43 0),jf 45 1 44,jl 46 1 45,Cv 47 1,Cp 48 (.kj 2 47 0),jf 49 1 48,jl 50 1 49,jB 51 .lss 46 50] (jC 51 (.region [Cv 52 0,Co 53 (.slice 2 (.t 52) (some (.c (.int .i64 1))) none),Cv 0 53]) (.region [Cv 54 1,Co 55 (.slice 2 (.t 54) (some (.c (.int .i64 1))) none),Cv 1 55])))))))
def yt:Ue:=⟨2,[.tmp 4],(jQ [jc 4 .ga] (jQ [jc 5 .ga] (.ghost (.DA 5 2) (.seq (.block 0 (.loop [0,1,5] Bg)) (jr [Cv 56 5,Cv 4 56])))))⟩
theorem EK:qc P fo 111 yt:=fM Go.Proofs.Tryz.func111 dN
def an:=Pb (fun _=>none) yt
theorem rE:Oa P 111 an:=Ka Ua EK
def Wo:Ja:=(jQ [jB 12 .lss 11 10] (.seq (jX 12 0) (.seq (.block 1 (jQ [ji 13 2 9 11,jL 14 2 13,Co 5 (.alloc [(.int .i64 0),(.int .i64 0)]),jS 2 5 14] (.region [Cv 15 3,jL 16 2 5,Co 17 (.xb .lit 2 true 1 [(.int .i64 0),(.int .i64 0)] [(0,(.t 16))]),Co 18 (.ku 2 true 16 15 17),Cv 3 18]))) (.region [jK 19 .add 11 1,Cv 11 19]))))
def Jk:Ue:=⟨1,[.tmp 2],(jQ [jc 2 .ga] (jQ [Cv 6 0,jn 7 0 6,Co 8 (.eh .uq 2 true [(.int .i64 0),(.int .i64 0)] 16 (.c (.int .i64 0)) (.t 7)),Cv 3 8] (.seq (jQ [Cv 9 0,jn 10 0 9,jk 11 0] (.block 0 (.loop [3,9,10,11] Wo))) (jr [Cv 20 3,Cv 2 20]))))⟩
theorem Fq:qc P fo 144 Jk:=fM Go.Proofs.Tryz.func144 dN
def Oh:=Pb (fun _=>none) Jk
theorem Yq:Oa P 144 Oh:=Ka Ua Fq
def Dp:Ja:=(jQ [jB 12 .lss 11 10] (.seq (jX 12 0) (.seq (.block 1 (jQ [ji 13 2 9 11,jL 14 2 13,Co 5 (.alloc [(.int .i64 0),(.int .i64 0)]),jS 2 5 14] (.region [Cv 15 3,jL 16 2 5,Co 17 (.xb .lit 2 true 1 [(.int .i64 0),(.int .i64 0)] [(0,(.t 16))]),Co 18 (.ku 2 true 16 15 17),Cv 3 18]))) (.region [jK 19 .add 11 1,Cv 11 19]))))
def Bl:Ue:=⟨1,[.tmp 2],(jQ [jc 2 .ga] (jQ [Cv 6 0,jn 7 0 6,Co 8 (.eh .uq 2 true [(.int .i64 0),(.int .i64 0)] 16 (.c (.int .i64 0)) (.t 7)),Cv 3 8] (.seq (jQ [Cv 9 0,jn 10 0 9,jk 11 0] (.block 0 (.loop [3,9,10,11] Dp))) (jr [Cv 20 3,Cv 2 20]))))⟩
theorem Zq:qc P fo 171 Bl:=fM Go.Proofs.Tryz.func171 dN
def mi:=Pb (fun _=>none) Bl
theorem Ar:Oa P 171 mi:=Ka Ua Zq
def qx:Ue:=⟨1,[.tmp 2],(jQ [jc 2 .ga] (jr [Cv 3 0,jp 4 mi 3,Cv 2 4]))⟩
theorem pI:qc P fo 160 qx:=fM Go.Proofs.Tryz.func160 (dC Ar dN)
def vr:=Pb (fun _=>none) qx
theorem xL:Oa P 160 vr:=Ka Ua pI
def Yw:Ue:=⟨2,[.tmp 4],(jQ [jc 4 .ga] (jr [Cv 5 0,jp 6 Fh 5,Cv 7 1,jp 8 Fh 7,jq 9 an 6 8,jp 10 vr 9,Cv 4 10]))⟩
theorem wI:qc P fo 150 Yw:=fM Go.Proofs.Tryz.func150 (dC Bq (dC Bq (dC rE (dC xL dN))))
def Ir:=Pb (fun _=>none) Yw
theorem AL:Oa P 150 Ir:=Ka Ua wI
def ff:Ja:=(jQ [jB 12 .lss 11 10] (.seq (jX 12 0) (.seq (.block 1 (jQ [ji 13 2 9 11,jL 14 2 13,Co 8 (.alloc [(.int .i64 0),(.int .i64 0)]),jS 2 8 14] (.seq (jQ [Cv 15 1,jf 16 0 8,jl 17 1 16,jB 18 .lss 15 17] (jC 18 (.exit 0) .skip)) (.seq (jQ [Cv 19 1,jf 20 1 8,jl 21 1 20,jB 22 .leq 19 21] (jC 22 (jr [Cv 23 6,Cv 24 1,jB 25 .add 23 24,jf 26 0 8,jl 27 1 26,jB 28 .sub 25 27,Cv 4 28,jb 5 true]) .skip)) (.region [Cv 29 6,jf 30 1 8,jl 31 1 30,jf 32 0 8,jl 33 1 32,jB 34 .sub 31 33,jK 35 .add 34 1,jB 36 .add 29 35,Cv 6 36]))))) (.region [jK 37 .add 11 1,Cv 11 37]))))
def Ct:Ue:=⟨2,[.tmp 4,.tmp 5],(jQ [jk 4 0,jb 5 false] (jQ [jk 6 0] (.seq (jQ [Cv 9 0,jn 10 0 9,jk 11 0] (.block 0 (.loop [1,6,9,10,11] ff))) (jr [jk 4 0,jb 5 false]))))⟩
theorem PK:qc P fo 115 Ct:=fM Go.Proofs.Tryz.func115 dN
def dq:=Pb (fun _=>none) Ct
theorem SN:Oa P 115 dq:=Ka Ua PK
def zw:Ue:=⟨2,[.tmp 4,.tmp 5],(jQ [jk 4 0,jb 5 false] (jr [Cv 6 0,jp 7 Fh 6,Cv 8 1,jq 9 dq 7 8,jx 10 0 9,jx 11 1 9,Cv 4 10,Cv 5 11]))⟩
theorem YH:qc P fo 85 zw:=fM Go.Proofs.Tryz.func85 (dC Bq (dC SN dN))
def On:=Pb (fun _=>none) zw
theorem fC:Oa P 85 On:=Ka Ua YH
def ny:Ue:=⟨2,[.tmp 4],(jQ [jb 4 false] (jQ [Cv 8 0,Cv 9 1,jq 10 On 8 9,Cv 7 10,jx 11 0 7,jx 12 1 7,Cv 5 11,Cv 6 12] (jr [Cv 13 6,Cv 4 13])))⟩
theorem LL:qc P fo 149 ny:=fM Go.Proofs.Tryz.func149 (dC fC dN)
def uy:=Pb (fun _=>none) ny
theorem uM:Oa P 149 uy:=Ka Ua LL
def Bi:Ue:=⟨3,[.tmp 5],(jQ [jb 5 false] (jr [jf 6 0 2,jl 7 1 6,Cv 8 0,Ji 9 2 7 8,jf 10 0 9,jl 11 1 10,Cp 12 (.kn 0 11),jf 13 0 2,jl 14 1 13,Cv 15 1,Ji 16 2 14 15,jf 17 0 16,jl 18 1 17,Cp 19 (.kn 0 18),jB 20 .lss 12 19,Cv 5 20]))⟩
theorem TB:qc P fo 118 Bi:=fM Go.Proofs.Tryz.func118 dN
def Lb:Ja:=(jQ [jB 9 .lss 8 7] (.seq (jX 9 0) (.seq (.block 1 (jQ [Cv 10 8,Cv 5 10] (jQ [Cv 11 1,Cv 12 0,Cv 13 5,ji 14 1 12 13,jl 15 1 14,Co 16 (.iE (.t 11) [(.t 15)])] (jC 16 (jr [Cv 17 5,Cv 4 17]) .skip)))) (.region [jK 18 .add 8 1,Cv 8 18]))))
def Cc:Ue:=⟨2,[.tmp 4],(jQ [jk 4 0] (.seq (jQ [Cv 6 0,jn 7 0 6,jk 8 0] (.block 0 (.loop [0,1,7,8] Lb))) (jr [jk 4 (-1)])))⟩
theorem xm:qc P fo 107 Cc:=fM Go.Proofs.Tryz.func107 dN
def Kb:Ue:=⟨2,[.tmp 4],(jQ [jb 4 false] (jr [Cv 5 0,Cv 6 1,Co 7 (.zg 5 [(.t 5),(.t 6)]),jK 8 .geq 7 0,Cv 4 8]))⟩
theorem ml:qc P fo 77 Kb:=fM Go.Proofs.Tryz.func77 dN
def Tk:Ue:=⟨1,[.tmp 2],(jQ [jb 2 false] (jr [Cv 3 0,jn 4 0 3,jK 5 .eql 4 0,Cv 6 5,jF 7 6 (.km 0),jF 8 6 (.kp Up 7),jF 9 6 (.kt 8),jo 10 6 9,Cv 2 10]))⟩
theorem vH:qc P fo 78 Tk:=fM Go.Proofs.Tryz.func78 (dC kI dN)
def Di:Ja:=(jQ [jB 10 .lss 9 8] (.seq (jX 10 0) (.seq (.block 1 (jQ [ji 11 1 7 9,jl 12 1 11,Cv 5 12] (.region [Cv 13 3,Cv 14 5,jp 15 Un 14,jB 16 .mul 13 15,Co 17 (.mn [(.t 16),(.c (.int .i64 1073741825))]),Cv 3 17]))) (.region [jK 18 .add 9 1,Cv 9 18]))))
def Xt:Ue:=⟨1,[.tmp 2],(jQ [jR 1 2 0,jk 2 0] (jQ [jk 3 1] (.seq (jQ [Jf 6 0 1,Jl 7 1 6,jn 8 0 7,jk 9 0] (.block 0 (.loop [1,3,7,8,9] Di))) (jr [Jf 19 1 1,Jl 20 1 19,Cv 21 3,jB 22 .add 20 21,jK 23 .sub 22 1,Cv 2 23]))))⟩
theorem EH:qc P fo 79 Xt:=fM Go.Proofs.Tryz.func79 (dC KB dN)
def Lp:=Pb (fun _=>none) Xt
theorem jI:Oa P 79 Lp:=Ka Ua EH
def yu:Ue:=⟨1,[.tmp 2],(jQ [jc 2 .ga] (jQ [Cv 4 0,jp 5 Qh 4,Cv 3 5] (.seq (jQ [Cv 6 3,Co 7 (.Hq xj [(.t 6),(.c (.int .i64 1073741823))]),jt 8 7] (jC 8 (jr [jc 2 .ga]) .skip)) (jr [Cv 9 3,Cv 2 9]))))⟩
theorem GG:qc P fo 112 yu:=fM Go.Proofs.Tryz.func112 (dC Wq (dC ur dN))
def Km:=Pb (fun _=>none) yu
theorem rA:Oa P 112 Km:=Ka Ua GG
def Cs:Ue:=⟨1,[.tmp 2],(jQ [jc 2 .ga] (jr [Cv 3 0,jp 4 Oh 3,Cv 2 4]))⟩
theorem yE:qc P fo 110 Cs:=fM Go.Proofs.Tryz.func110 (dC Yq dN)
def Tn:=Pb (fun _=>none) Cs
theorem rH:Oa P 110 Tn:=Ka Ua yE
def Gs:Ue:=⟨2,[.tmp 4],(jQ [jc 4 .ga] (jr [Cv 5 0,jp 6 Km 5,Cv 7 1,jp 8 Km 7,jq 9 an 6 8,jp 10 Tn 9,Cv 4 10]))⟩
theorem QE:qc P fo 80 Gs:=fM Go.Proofs.Tryz.func80 (dC rA (dC rA (dC rE (dC rH dN))))
def Kn:=Pb (fun _=>none) Gs
theorem eF:Oa P 80 Kn:=Ka Ua QE
def Zh(sz:Nat)(v:PV)(es:List PV):Prop:=(v= .ga/\es=[])\/v= .lit sz es
theorem Zh.len{sz:Nat}{v:PV}{es:List PV}(h:Zh sz v es)(H:List ba):Tb H 0 (.pv v)=some es.length:=by
 rcases h with⟨rfl,rfl⟩ | rfl <;> rfl
theorem Zh.lit{sz:Nat}{v:PV}{es:List PV}(h:Zh sz v es){i:Nat}(hi:i < es.length):v= .lit sz es:=by
 rcases h with⟨rfl,rfl⟩ | rfl
 ·simp at hi
 ·rfl
abbrev i64(n:Int):PV:= .int .i64 n
abbrev pr(p:Int×Int):PV:= .agg [i64 p.1,i64 p.2]
abbrev ae(l:List (Int×Int)):List PV:=l.map pr
theorem Gc:deep=5+1:=rfl
theorem mj{a b:Int}(h:a≠b):(a==b)=false:=by simp[h]
theorem Ea{p:Prop}[Decidable p](h:p):decide p=true:=by simp[h]
theorem Ga{p:Prop}[Decidable p](h:¬p):decide p=false:=by simp[h]
theorem Hr{l:List (Int×Int)}{i:Nat}(hi:i < l.length):(ae l)[i]? =some (pr l[i]):=by simp[ae,hi]
theorem Za{i n:Nat}(hi:i < n)(hw:n<=maxLen):IntKind.i64.wrap ((i:Int)+1)=((i+1:Nat):Int):=Aa (by unfold maxLen at hw;omega)
inductive cS(k:Nat)(v:AV):Option (Ex×St)->Prop
 |mk (s:St):s.env.get k=v->cS k v (some (.ret,s))
theorem vz{k:Nat}{v:AV}{s:St}:cS k v (some (.ret,s))=(s.env.get k=v):=
 propext ⟨fun h=>by cases h with | mk _ h=>exact h,fun h=> .mk s h⟩
theorem TO{k:Nat}{v:AV}{r:Option (Ex×St)}(h:cS k v r):∃ t,r=some (.ret,t)/\t.env.get k=v:=by
 cases h with | mk s h=>exact⟨s,rfl,h⟩
inductive OL(k:Nat):Option (Ex×St)->Prop
 |mk (e:Tr) (H:List ba):OL k (some (.exit k,⟨e,H⟩))
theorem UN{k i:Nat}{e:Tr}{H:List ba}:OL k (some (.exit i,⟨e,H⟩))=(i=k):=
 propext ⟨fun h=>by cases h;rfl,fun h=>by subst h;exact .mk e H⟩
theorem RM{k:Nat}{r:Option (Ex×St)}(h:OL k r):∃ e H,r=some (.exit k,⟨e,H⟩):=by
 cases h with | mk e H=>exact⟨e,H,rfl⟩
inductive CK(k:Nat)(v:AV)(j:Nat)(u:AV):Option (Ex×St)->Prop
 |mk (s:St):s.env.get k=v->s.env.get j=u->CK k v j u (some (.ret,s))
theorem pQ{k j:Nat}{v u:AV}{s:St}:CK k v j u (some (.ret,s))=(s.env.get k=v/\s.env.get j=u):=
 propext ⟨fun h=>by cases h with | mk _ h h'=>exact⟨h,h'⟩,fun h=> .mk s h.1 h.2⟩
theorem FO{k j:Nat}{v u:AV}{r:Option (Ex×St)}(h:CK k v j u r):∃ t,r=some (.ret,t)/\t.env.get k=v/\t.env.get j=u:=by
 cases h with | mk s h h'=>exact⟨s,rfl,h,h'⟩
section To
variable (v:PV)(l:List (Int×Int))(hv:Zh 2 v (ae l))(hw:l.length * 16<=140737488355328)
abbrev NB(v:PV)(len i:Int)(o:AV):Tr:=((((Tr.lf.set 11 (.pv (i64 i))).set 10 (.pv (i64 len))).set 9 (.pv v)).set 3 o)
include hv hw
theorem iI(i:Nat)(hi:i < l.length):
 Wc (Da (fun _=>none) 8) [3,9,10,11] Mc 1 ⟨NB v l.length i (.uq 0 false 2 (ae (l.take i))),[.tok 2 i false]⟩=
  some (.norm,⟨NB v l.length (i+1:Nat) (.uq 0 false 2 (ae (l.take (i+1)))),[.tok 2 (i+1) false]⟩):=by
 have hv:=hv.lit (i:=i) (by simpa using hi)
 subst hv;have e1:decide ((i:Int) < (l.length:Int))=true:=Ea (by omega);have hq:Ia (i:Int) (ae l).length:=by unfold Ia;simp;omega
 have t1:((i:Int)).toNat=i:=by simp
 have t2:=Za hi (by unfold maxLen;omega);have lt:(ae (l.take i)).length=i:=by simp;omega
 have q1:eb (i+1) 16:=by unfold eb;omega
 have hs:ae (l.take (i+1))=ae (l.take i)++[pr l[i]]:=by rw[List.take_succ_eq_append_getElem hi];simp only[ae,qac,pab,Rad]
 rw[hs];have hg:=Hr hi;generalize ae (l.take i)=T at *;subst lt;generalize ae l=es at *;simp -implicitDefEqProofs only[SP,SA,SQ,sevalprocAttr,Wc,ma,Mc,e1,Laa hq,t1,t2,hg,Laa q1,ta,jj,AV.WE,AV.Tq,na,Ca,qa,Qa,AV.cut,Gc,NB]
theorem dn:dc [v]=some (.lit 2 (ae l)):=by
 have ls:=hv.len
 simp only[ae,paa] at ls;have hl:ab (ma (oa (Da (fun _=>none) 8) Mc) (na 1 [3,9,10,11])) ua ⟨NB v l.length 0 (.uq 0 false 2 []),[.tok 2 0 false]⟩=
  some (.exit 0,⟨(NB v l.length l.length (.uq 0 false 2 (ae l))).set 12 (.pv (.bool false)),[.tok 2 l.length false]⟩):=by
  have key:=Zl (g:=Wc (Da (fun _=>none) 8) [3,9,10,11] Mc 1)
   (fun i t=>t=⟨NB v l.length i (.uq 0 false 2 (ae (l.take i))),[.tok 2 i false]⟩)
   (fun ex t=>ex= .exit 0/\t=⟨(NB v l.length l.length (.uq 0 false 2 (ae l))).set 12 (.pv (.bool false)),[.tok 2 l.length false]⟩)
   ua l.length 0 _ (by unfold ua;omega) (by omega) rfl ?_ ?_
  ·obtain⟨ex,t,h,_,rfl,rfl⟩:=key;exact h
  ·rintro i hi t rfl
   exact .inl ⟨_,iI v l hv hw i hi,rfl⟩
  ·rintro t rfl
   refine⟨.exit 0,_,?_,rfl,rfl,rfl⟩;have e1:decide ((l.length:Int) < (l.length:Int))=false:=Ga (by omega);rw[Fab];simp -implicitDefEqProofs only[SP,SA,SQ,sevalprocAttr,Wc,ma,Mc,e1,NB]
 have h1:decide ((0:Int)<=0)=true:=by decide
 have h2:(0:Int)<=(l.length:Int):=by omega
 have h3:eb ((l.length:Int)).toNat 16:=by unfold eb;simp;omega
 simp -implicitDefEqProofs only[dc,SP,SA,SQ,sevalprocAttr,ni,ls,Db,na,Ca,qa,Qa,AV.cut,Gc,Kac,Laa h2,Laa h3,Int.toNat_zero];simp only[NB] at hl;rw[hl];simp -implicitDefEqProofs only[SP,SA,SQ,sevalprocAttr]
end To
end Go.AM.B1
namespace Go.AM.B1
open Go.AM
def Pa(top:Int):Int->List (Int×Int)->Bool
 |_,[]=>true
 |last,p::r=> !(decide (p.1 < 0)||decide (p.1 > p.2)||decide (p.2 > top)||decide (p.1 - 1<=last))&&Pa top p.2 r
abbrev Yx(v:PV)(top len i last:Int):Tr:=(((((Tr.lf.set 10 (.pv (i64 i))).set 9 (.pv (i64 len))).set 8 (.pv v)).set 5 (.pv (i64 last))).set 1 (.pv (i64 top)))
section
variable (v:PV)(l:List (Int×Int))(hv:Zh 2 v (ae l))(hw:l.length<=maxLen)(top:Int)(ht:top<=9223372036854775807)
theorem kP(i:Nat)(hi:i < l.length)(hv:Zh 2 v (ae l))(hw:l.length<=maxLen)(last:Int)(ht:top<=9223372036854775807)(c1:¬l[i].1 < 0)(c2:¬l[i].1 > l[i].2)(c3:¬l[i].2 > top)(c4:¬l[i].1 - 1<=last):
 Wc (Da (fun _=>none) 8) [1,5,8,9,10] Sd 0 ⟨Yx v top l.length i last,[]⟩=some (.norm,⟨Yx v top l.length (i+1:Nat) l[i].2,[]⟩):=by
 have hv:=hv.lit (i:=i) (by simpa using hi)
 subst hv;have e1:decide ((i:Int) < (l.length:Int))=true:=Ea (by omega);have hq:Ia (i:Int) (ae l).length:=by unfold Ia;simp;omega
 have t1:((i:Int)).toNat=i:=by simp
 have t2:=Za hi hw;have t3:IntKind.i64.wrap (l[i].1 - 1)=l[i].1 - 1:=Aa (by omega)
 have hg:=Hr hi;have d1:=Ga c1;have d2:=Ga c2;have d3:=Ga c3;have d4:=Ga c4;generalize ae l=es at *;generalize l[i]=p at *;simp -implicitDefEqProofs only[SP,SA,SQ,sevalprocAttr,Wc,ma,Sd,e1,Laa hq,t1,t2,t3,hg,d1,d2,d3,d4,ta,na,Ca,qa,Qa,AV.cut,Gc,Yx]
theorem FT(i:Nat)(hi:i < l.length)(hv:Zh 2 v (ae l))(hw:l.length<=maxLen)(last:Int)(ht:top<=9223372036854775807)(hc:l[i].1 < 0\/l[i].1 > l[i].2\/l[i].2 > top\/l[i].1 - 1<=last):
 cS 4 (.pv (.bool false)) (Wc (Da (fun _=>none) 8) [1,5,8,9,10] Sd 0 ⟨Yx v top l.length i last,[]⟩):=by
 have hv:=hv.lit (i:=i) (by simpa using hi)
 subst hv;have e1:decide ((i:Int) < (l.length:Int))=true:=Ea (by omega);have hq:Ia (i:Int) (ae l).length:=by unfold Ia;simp;omega
 have t1:((i:Int)).toNat=i:=by simp
 have hg:=Hr hi;generalize ae l=es at *;generalize l[i]=p at *
 by_cases c1:p.1 < 0
 ·have d1:=Ea c1
  simp -implicitDefEqProofs only[SP,SA,SQ,sevalprocAttr,Wc,ma,Sd,e1,Laa hq,t1,hg,d1,ta,Yx,vz]
 have d1:=Ga c1
 by_cases c2:p.1 > p.2
 ·have d2:=Ea c2
  simp -implicitDefEqProofs only[SP,SA,SQ,sevalprocAttr,Wc,ma,Sd,e1,Laa hq,t1,hg,d1,d2,ta,Yx,vz]
 have d2:=Ga c2
 by_cases c3:p.2 > top
 ·have d3:=Ea c3
  simp -implicitDefEqProofs only[SP,SA,SQ,sevalprocAttr,Wc,ma,Sd,e1,Laa hq,t1,hg,d1,d2,d3,ta,Yx,vz]
 have d3:=Ga c3;have c4:p.1 - 1<=last:=by rcases hc with h | h | h | h <;> first | exact h | omega
 have t3:IntKind.i64.wrap (p.1 - 1)=p.1 - 1:=Aa (by omega)
 have d4:=Ea c4;simp -implicitDefEqProofs only[SP,SA,SQ,sevalprocAttr,Wc,ma,Sd,e1,Laa hq,t1,t3,hg,d1,d2,d3,d4,ta,Yx,vz]
include hv hw ht
theorem Av:xj [v,i64 top]=some (.bool (Pa top (-2) l)):=by
 have ls:=hv.len
 simp only[ae,paa] at ls;have key:=Zl (g:=Wc (Da (fun _=>none) 8) [1,5,8,9,10] Sd 0)
  (fun i t=>∃ last,t=⟨Yx v top l.length i last,[]⟩/\Pa top (-2) l=Pa top last (l.drop i))
  (fun ex t=>(ex= .exit 0/\Pa top (-2) l=true/\∃ last,t=⟨(Yx v top l.length l.length last).set 11 (.pv (.bool false)),[]⟩)\/(ex= .ret/\Pa top (-2) l=false/\t.env.get 4= .pv (.bool false)))
  ua l.length 0 ⟨Yx v top l.length (0:Nat) (-2),[]⟩ (by unfold ua;unfold maxLen at hw;omega) (by omega) ⟨-2,rfl,rfl⟩ ?_ ?_
 ·have hl:ab (ma (oa (Da (fun _=>none) 8) Sd) (na 0 [1,5,8,9,10])) ua ⟨Yx v top l.length 0 (-2),[]⟩=ab (Wc (Da (fun _=>none) 8) [1,5,8,9,10] Sd 0) ua ⟨Yx v top l.length (0:Nat) (-2),[]⟩:=rfl
  obtain⟨ex,t,h,_,hq⟩:=key;rw[h] at hl;simp only[Yx] at hl;rcases hq with⟨rfl,M7,last,rfl⟩ | ⟨rfl,M7,hg⟩
  ·rw[M7]
   simp -implicitDefEqProofs only[xj,SP,SA,SQ,sevalprocAttr,tr,ls,Db,na,Ca,qa,Qa,AV.cut,Gc,hl,Yx]
  ·rw[M7]
   simp -implicitDefEqProofs only[xj,SP,SA,SQ,sevalprocAttr,tr,ls,Db,na,Ca,qa,Qa,AV.cut,Gc,hl,Yx,hg]
 ·rintro i hi t ⟨last,rfl,M7⟩
  have hd:l.drop i=l[i]::l.drop (i+1):=Waa hi
  rw[hd,Pa] at M7
  by_cases hc:l[i].1 < 0\/l[i].1 > l[i].2\/l[i].2 > top\/l[i].1 - 1<=last
  ·obtain⟨t,h1,h2⟩:=TO (FT v l top i hi hv hw last ht hc)
   refine .inr ⟨.ret,t,h1,rfl,.inr ⟨rfl,?_,h2⟩⟩
   rw[M7];rcases hc with h | h | h | h <;> simp[h]
  ·have M9:¬l[i].1 < 0/\¬l[i].1 > l[i].2/\¬l[i].2 > top/\¬l[i].1 - 1<=last:=by
    refine⟨fun h=>hc (.inl h),fun h=>hc (.inr (.inl h)),fun h=>hc (.inr (.inr (.inl h))),fun h=>hc (.inr (.inr (.inr h)))⟩
   refine .inl ⟨_,kP v l top i hi hv hw last ht M9.1 M9.2.1 M9.2.2.1 M9.2.2.2,l[i].2,rfl,?_⟩
   rw[M7,Ga M9.1,Ga M9.2.1,Ga M9.2.2.1,Ga M9.2.2.2];rfl
 ·rintro t ⟨last,rfl,M7⟩
  refine⟨.exit 0,_,?_,rfl,.inl ⟨rfl,?_,last,rfl⟩⟩
  ·have e1:decide ((l.length:Int) < (l.length:Int))=false:=Ga (by omega)
   simp -implicitDefEqProofs only[SP,SA,SQ,sevalprocAttr,Wc,ma,Sd,e1,Yx]
  ·rw[M7,Hab];rfl
end
def Md(x:Int):Int->List (Int×Int)->Int×Bool
 |_,[]=>(0,false)
 |n,p::r=>if x < p.1 then (0,false) else if x<=p.2 then (n+x - p.1,true) else Md x (n+(p.2 - p.1+1)) r
abbrev Sz(v:PV)(x len i n:Int):Tr:=(((((Tr.lf.set 11 (.pv (i64 i))).set 10 (.pv (i64 len))).set 9 (.pv v)).set 6 (.pv (i64 n))).set 1 (.pv (i64 x)))
section
variable (v:PV)(l:List (Int×Int))(hv:Zh 2 v (ae l))(hw:l.length<=maxLen)(x n:Int)
theorem zX(i:Nat)(hi:i < l.length)(hv:Zh 2 v (ae l))(c:x < l[i].1):
 OL 0 (Wc (Da (fun _=>none) 8) [1,6,9,10,11] ff 0 ⟨Sz v x l.length i n,[]⟩):=by
 have hv:=hv.lit (i:=i) (by simpa using hi)
 subst hv;have e1:decide ((i:Int) < (l.length:Int))=true:=Ea (by omega);have hq:Ia (i:Int) (ae l).length:=by unfold Ia;simp;omega
 have t1:((i:Int)).toNat=i:=by simp
 have hg:=Hr hi;have d1:=Ea c;generalize ae l=es at *;generalize l[i]=p at *;simp -implicitDefEqProofs only[SP,SA,SQ,sevalprocAttr,Wc,ma,ff,e1,Laa hq,t1,hg,d1,ta,Sz,UN]
theorem kZ(i:Nat)(hi:i < l.length)(hv:Zh 2 v (ae l))(c:¬x < l[i].1)(c2:x<=l[i].2)(hb:0<=l[i].1/\l[i].2<=4611686018427387904/\0<=n/\n<=4611686018427387903):
 CK 4 (.pv (i64 (n+x - l[i].1))) 5 (.pv (.bool true)) (Wc (Da (fun _=>none) 8) [1,6,9,10,11] ff 0 ⟨Sz v x l.length i n,[]⟩):=by
 have hv:=hv.lit (i:=i) (by simpa using hi)
 subst hv;have e1:decide ((i:Int) < (l.length:Int))=true:=Ea (by omega);have hq:Ia (i:Int) (ae l).length:=by unfold Ia;simp;omega
 have t1:((i:Int)).toNat=i:=by simp
 have hg:=Hr hi;have d1:=Ga c;have d2:=Ea c2;have t3:IntKind.i64.wrap (n+x)=n+x:=Aa (by omega)
 have t4:IntKind.i64.wrap (n+x - l[i].1)=n+x - l[i].1:=Aa (by omega)
 generalize ae l=es at *;generalize l[i]=p at *;simp -implicitDefEqProofs only[SP,SA,SQ,sevalprocAttr,Wc,ma,ff,e1,Laa hq,t1,t3,t4,hg,d1,d2,ta,Sz,pQ]
theorem iZ(i:Nat)(hi:i < l.length)(hv:Zh 2 v (ae l))(hw:l.length<=maxLen)(c:¬x < l[i].1)(c2:¬x<=l[i].2)(hb:0<=l[i].1/\l[i].1<=l[i].2/\l[i].2<=4611686018427387902/\0<=n/\n<=l[i].1):
 Wc (Da (fun _=>none) 8) [1,6,9,10,11] ff 0 ⟨Sz v x l.length i n,[]⟩=some (.norm,⟨Sz v x l.length (i+1:Nat) (n+(l[i].2 - l[i].1+1)),[]⟩):=by
 have hv:=hv.lit (i:=i) (by simpa using hi)
 subst hv;have e1:decide ((i:Int) < (l.length:Int))=true:=Ea (by omega);have hq:Ia (i:Int) (ae l).length:=by unfold Ia;simp;omega
 have t1:((i:Int)).toNat=i:=by simp
 have t2:=Za hi hw;have hg:=Hr hi;have d1:=Ga c;have d2:=Ga c2;have t3:IntKind.i64.wrap (l[i].2 - l[i].1)=l[i].2 - l[i].1:=Aa (by omega)
 have t4:IntKind.i64.wrap (l[i].2 - l[i].1+1)=l[i].2 - l[i].1+1:=Aa (by omega)
 have t5:IntKind.i64.wrap (n+(l[i].2 - l[i].1+1))=n+(l[i].2 - l[i].1+1):=Aa (by omega)
 generalize ae l=es at *;generalize l[i]=p at *;simp -implicitDefEqProofs only[SP,SA,SQ,sevalprocAttr,Wc,ma,ff,e1,Laa hq,t1,t2,t3,t4,t5,hg,d1,d2,ta,na,Ca,qa,Qa,AV.cut,Gc,Sz]
theorem Uc{top last:Int}{p:Int×Int}{r:List (Int×Int)}(h:Pa top last (p::r)=true):¬p.1 < 0/\¬p.1 > p.2/\¬p.2 > top/\¬p.1 - 1<=last/\Pa top p.2 r=true:=by
 simp only[Pa,daa,tac,Had,decide_eq_false_iff_not] at h;exact⟨h.1.1.1.1,h.1.1.1.2,h.1.1.2,h.1.2,h.2⟩
include hv hw
theorem uI{top:Int}(ht:top<=4611686018427387900)(M7:Pa top (-2) l=true):dq [v,i64 x]=some (.mc [i64 (Md x 0 l).1,.bool (Md x 0 l).2]):=by
 have ls:=hv.len
 simp only[ae,paa] at ls;have key:=Zl (g:=Wc (Da (fun _=>none) 8) [1,6,9,10,11] ff 0)
  (fun i t=>∃ n last,t=⟨Sz v x l.length i n,[]⟩/\Md x 0 l=Md x n (l.drop i)/\Pa top last (l.drop i)=true/\0<=n/\n<=max 0 (last+1)/\last<=top)
  (fun ex t=>(ex= .exit 0/\Md x 0 l=(0,false))\/(ex= .ret/\∃ r,Md x 0 l=(r,true)/\t.env.get 4= .pv (i64 r)/\t.env.get 5= .pv (.bool true)))
  ua l.length 0 ⟨Sz v x l.length (0:Nat) 0,[]⟩ (by unfold ua;unfold maxLen at hw;omega) (by omega) ?_ ?_ ?_
 ·have hl:ab (ma (oa (Da (fun _=>none) 8) ff) (na 0 [1,6,9,10,11])) ua ⟨Sz v x l.length 0 0,[]⟩=ab (Wc (Da (fun _=>none) 8) [1,6,9,10,11] ff 0) ua ⟨Sz v x l.length (0:Nat) 0,[]⟩:=rfl
  obtain⟨ex,⟨e,H⟩,h,_,hq⟩:=key;rw[h] at hl;simp only[Sz] at hl;rcases hq with⟨rfl,hr⟩ | ⟨rfl,r,hr,g4,g5⟩
  ·rw[hr]
   simp -implicitDefEqProofs only[dq,SP,SA,SQ,sevalprocAttr,Ct,ls,Db,na,Ca,qa,Qa,AV.cut,Gc,hl,Sz]
  ·rw[hr]
   simp only at g4 g5;simp -implicitDefEqProofs only[dq,SP,SA,SQ,sevalprocAttr,Ct,ls,Db,na,Ca,qa,Qa,AV.cut,Gc,hl,Sz,g4,g5]
 ·refine⟨0,min (-2) top,rfl,rfl,?_,by omega,by omega,by omega⟩
  have mono:∀ {a b:Int}{r:List (Int×Int)},a<=b->Pa top b r=true->Pa top a r=true:=by
   intro a b r hab h;cases r with
   |nil=>rfl
   |cons p r=>obtain⟨h1,h2,h3,h4,h5⟩:=Uc h;simp only[Pa,h5,mae,tac,Had,decide_eq_false_iff_not];exact⟨⟨⟨h1,h2⟩,h3⟩,by omega⟩
  exact mono (by omega) M7
 ·rintro i hi t ⟨n,last,rfl,hr,hva,hn0,hn1,J9⟩
  have hd:l.drop i=l[i]::l.drop (i+1):=Waa hi
  rw[hd] at hr hva;obtain⟨h1,h2,h3,h4,h5⟩:=Uc hva;rw[Md] at hr
  by_cases c:x < l[i].1
  ·obtain⟨e,H,hx⟩:=RM (zX v l x n i hi hv c)
   rw[if_pos c] at hr;exact .inr ⟨.exit 0,⟨e,H⟩,hx,rfl,.inl ⟨rfl,hr⟩⟩
  by_cases c2:x<=l[i].2
  ·obtain⟨t,hx,g4,g5⟩:=FO (kZ v l x n i hi hv c c2 (by omega))
   rw[taa c,if_pos c2] at hr;exact .inr ⟨.ret,t,hx,rfl,.inr ⟨rfl,_,hr,g4,g5⟩⟩
  ·rw[taa c,taa c2] at hr
   exact .inl ⟨_,iZ v l x n i hi hv hw c c2 (by omega),_,l[i].2,rfl,hr,h5,by omega,by omega,by omega⟩
 ·rintro t ⟨n,last,rfl,hr,_⟩
  refine⟨.exit 0,⟨(Sz v x l.length l.length n).set 12 (.pv (.bool false)),[]⟩,?_,rfl,.inl ⟨rfl,?_⟩⟩
  ·have e1:decide ((l.length:Int) < (l.length:Int))=false:=Ga (by omega)
   simp -implicitDefEqProofs only[SP,SA,SQ,sevalprocAttr,Wc,ma,ff,e1,Sz]
  ·rw[hr,Hab];rfl
end
def AA(l:List (Int×Int)):List (Int×Int):=if Pa 255 (-2) l then l else []
theorem Ng(H:List ba)(d:Nat)(p:PV):Ub H d (.pv p)=some p:=by cases d <;> rfl
theorem oP(l:List (Int×Int)):Pa 255 (-2) (AA l)=true:=by
 unfold AA;cases hb:Pa 255 (-2) l with
 |true=>exact hb
 |false=>rfl
theorem qX(l:List (Int×Int)):(AA l).length<=l.length:=by
 unfold AA
 split <;> simp
section
variable (v:PV)(l:List (Int×Int))(hv:Zh 2 v (ae l))(hw:l.length * 16<=140737488355328)
include hv hw
theorem FE:Up [v]=some (.bool (Pa 255 (-2) l)):=by
 have h1:=dn v l hv hw;have h2:=Av (.lit 2 (ae l)) l (.inr rfl) (by unfold maxLen;omega) 255 (by decide);simp -implicitDefEqProofs only[Up,SP,SA,SQ,sevalprocAttr,ru,Ng,Gc,h1,h2]
theorem mA:∃ u,Fh [v]=some u/\Zh 2 u (ae (AA l)):=by
 have h1:=dn v l hv hw;have h2:=Av (.lit 2 (ae l)) l (.inr rfl) (by unfold maxLen;omega) 255 (by decide);unfold AA;cases hb:Pa 255 (-2) l with
 |true=>rw[hb] at h2;refine⟨.lit 2 (ae l),?_,.inr rfl⟩;simp -implicitDefEqProofs only[Fh,SP,SA,SQ,sevalprocAttr,Xp,Ng,Gc,h1,h2]
 |false=>rw[hb] at h2;refine⟨.ga,?_,.inl ⟨rfl,rfl⟩⟩;simp -implicitDefEqProofs only[Fh,SP,SA,SQ,sevalprocAttr,Xp,Ng,Gc,h1,h2]
theorem Iy(x:Int):On [v,i64 x]=some (.mc [i64 (Md x 0 (AA l)).1,.bool (Md x 0 (AA l)).2]):=by
 obtain⟨u,h1,h2⟩:=mA v l hv hw;have h3:=uI u (AA l) h2 (by have:=qX l;unfold maxLen;omega) x (top:=255) (by decide) (oP l);simp -implicitDefEqProofs only[On,SP,SA,SQ,sevalprocAttr,zw,Ng,Gc,h1,h3]
theorem VH(x:Int):uy [v,i64 x]=some (.bool (Md x 0 (AA l)).2):=by
 have h3:=Iy v l hv hw x;simp -implicitDefEqProofs only[uy,SP,SA,SQ,sevalprocAttr,ny,Ng,Gc,h3]
end
theorem _root_.Go.AM.Oa.weaken{P:Program}{f:FuncId}{F G:List PV->Option PV}(h:Oa P f G)(hF:∀ xs r,F xs=some r->G xs=some r):Oa P f F:=
 ⟨h.1,fun w R args vs r hR hl hr=>h.2 w R args vs r hR hl (hF _ _ hr)⟩
def zB:PV->Option (Int×Int)
 | .agg [.int .i64 a,.int .i64 b]=>some (a,b)
 |_=>none
def LB:PV->Option (List (Int×Int))
 | .ga=>some []
 | .lit 2 es=>Ra zB es
 |_=>none
theorem qP{v:PV}{p:Int×Int}(h:zB v=some p):v=pr p:=by
 unfold zB at h
 split at h
 ·injection h with h;subst h;rfl
 ·cases h
theorem PL{v:PV}{l:List (Int×Int)}(h:LB v=some l):Zh 2 v (ae l):=by
 unfold LB at h
 split at h
 ·injection h with h;subst h;exact .inl ⟨rfl,rfl⟩
 ·rename_i es
  refine .inr ?_
  congr 1
  induction es generalizing l with
  |nil=>simp only[Ra,eaa] at h;subst h;rfl
  |cons e es ih=>simp only[Ra,uaa,eaa] at h;obtain⟨p,h1,r,h2,rfl⟩:=h;rw[ih h2,qP h1];rfl
 ·cases h
def Wl:List PV->Option PV
 | [v,.int .i64 x]=>(LB v).bind fun l=>if l.length * 16<=140737488355328 then some (.bool (Md x 0 (AA l)).2) else none
 |_=>none
theorem YM:Oa P 149 Wl:=uM.weaken fun xs r h=>by
 unfold Wl at h
 split at h
 ·rename_i v x
  simp only[uaa] at h;obtain⟨l,h1,h2⟩:=h
  split at h2
  ·rename_i hw
   injection h2 with h2
   rw[VH v l (PL h1) hw x,<-h2]
  ·cases h2
 ·cases h
end Go.AM.B1
namespace Go.Proofs
open Go.Shelf Go.RowKit Go.Lib Go.Sort
shelf_lay_g SlLaysF0.n6 Slsf 6 at Tryz 146 as Tryz.sortRun
shelf_lay_g SlLaysC2.n5 Slgc 5 at Tryz 69 as Tryz.cmpInt
theorem sR(r:List Int):∃ a b:Int,AM.encI 2 r=[.int .i64 a,.int .i64 b]/\AM.Zx 2 0 r=a:=by
 unfold AM.encI AM.Zx
 by_cases h:r.length=2
 ·match r,h with
  | [a,b],_=>exact⟨a,b,rfl,rfl⟩
 ·rw[taa h,taa h];exact⟨0,0,rfl,rfl⟩
set_option maxHeartbeats 1000000 in
theorem GZ(a b c d:Int)(W:World):Calls Tryz.prog 147 #[.agg #[.int .i64 a,.int .i64 b],.agg #[.int .i64 c,.int .i64 d]] W fun e w'=>e= .returned (.int .i64 (Lib.compareInt a c))/\∃ q os',w'=grow (W.drewN q) os':=by
 have nab:=fun W'=>AnyG.cmp_Compare_int Tryz.cmpInt a c W'
 change ∀ W',Calls Tryz.prog 69 _ _ _ at nab
 generalize Lib.compareInt a c=r at nab ⊢
 go_enter Tryz.func147,Tryz.ntmps147
 go_wp2_with (go_at_call 69;refine (nab _).mono ?_;rintro e w' ⟨rfl,rfl⟩)
 go_ret
 exact⟨rfl,0,_,by rw[alloc_eq_grow,alloc_eq_grow,grow_grow];rfl⟩
theorem iY:AM.KP Tryz.prog 146 147 2 0 where
 call:=⟨_,_,Tryz.func146,rfl,by kernel_rfl⟩
 many:=by
  intro blk ofs cap D w hH hb hs;refine AnyQ.slices_SortFunc_eq Tryz.sortRun 2 Tryz.isAgg244 Tryz.sizeOf244 (AM.encI 2) (fun x=>by obtain⟨a,b,h,_⟩:=sR x;rw[h];rfl) (fun x v hv=>by obtain⟨a,b,h,_⟩:=sR x;rw[h] at hv;simp at hv;rcases hv with rfl | rfl <;> rfl) (AM.T2 2 0) (AM.O3 2 0) 147 #[] blk ofs cap D w (enters_of Tryz.func147 (by kernel_rfl) rfl) (fun m os dk _ x y=> ?_) hH hb hs
  obtain⟨a,b,h1,h2⟩:=sR x;obtain⟨c,d,h3,h4⟩:=sR y;rw[h1,h3];unfold AM.T2
  rw[h2,h4];exact GZ a b c d _
 none:=fun p cap w=>AnyF.slices_SortFunc_none Tryz.sortRun p cap _ w
end Go.Proofs
namespace Go.AM.B1
open Go.AM
def Ni:Ja:=(jQ [jB 12 .lss 11 10] (.seq (jX 12 0) (.seq (.block 1 (jQ [ji 13 2 9 11,jL 14 2 13,Co 5 (.alloc [(.int .i64 0),(.int .i64 0)]),jS 2 5 14] (.seq (jQ [Cv 15 3,jn 16 0 15,Cv 6 16] (jQ [Cv 17 6,jK 18 .gtr 17 0,Cv 19 18,jT 20 19 (.kf 0 5),jT 21 19 (.kl 1 20),jT 22 19 (.km 3),jT 23 19 (.km 6),jT 24 19 (.kK .sub 23 1),jT 25 19 (.ki 2 22 24),jT 26 19 (.kf 1 25),jT 27 19 (.kl 1 26),jT 28 19 (.kK .add 27 1),jT 29 19 (.kB .leq 21 28),ja 30 19 29] (jC 30 (jQ [Cv 31 3,Cv 32 6,jK 33 .sub 32 1,Cv 34 3,Cv 35 6,jK 36 .sub 35 1,ji 37 2 34 36,jf 38 1 37,jl 39 1 38,jf 40 1 5,jl 41 1 40,Co 42 (.mx [(.t 39),(.t 41)]),ji 43 2 31 33,jf 44 1 43,jS 1 44 42] (.exit 1)) .skip))) (.region [Cv 45 3,jL 46 2 5,Co 47 (.xb .lit 2 true 1 [(.int .i64 0),(.int .i64 0)] [(0,(.t 46))]),Co 48 (.append true .own 2 true 16 (.t 45) (.t 47)),Cv 3 48])))) (.region [jK 49 .add 11 1,Cv 11 49]))))
def zq:Ue:=⟨1,[.tmp 2],(jQ [jc 2 .ga] (jQ [Cv 7 0,Co 8 (.zg 22 [(.t 7),(.f 23)])] (jQ [jc 3 .ga] (.ghost (.zJ 3 2 true) (.seq (jQ [Cv 9 0,jn 10 0 9,jk 11 0] (.block 0 (.loop [3,9,10,11] Ni))) (jr [Cv 50 3,Cv 2 50]))))))⟩
theorem vL:qc P fo 113 zq:=fM Go.Proofs.Tryz.func113 dN
def Kc:Ja:=(jQ [jB 12 .lss 11 10] (.seq (jX 12 0) (.seq (.block 1 (jQ [ji 13 2 9 11,jL 14 2 13,Co 5 (.alloc [(.int .i64 0),(.int .i64 0)]),jS 2 5 14] (.region [Cv 15 3,jL 16 2 5,Co 17 (.xb .lit 2 true 1 [(.int .i64 0),(.int .i64 0)] [(0,(.t 16))]),Co 18 (.append true .own 2 true 16 (.t 15) (.t 17)),Cv 3 18]))) (.region [jK 19 .add 11 1,Cv 11 19]))))
def vd:Ue:=⟨1,[.tmp 2],(jQ [jc 2 .ga] (jQ [Cv 6 0,jn 7 0 6,Co 8 (.eh .own 2 true [(.int .i64 0),(.int .i64 0)] 16 (.c (.int .i64 0)) (.t 7)),Cv 3 8] (.seq (jQ [Cv 9 0,jn 10 0 9,jk 11 0] (.block 0 (.loop [3,9,10,11] Kc))) (jr [Cv 20 3,Cv 2 20]))))⟩
theorem Cn:qc P fo 145 vd:=fM Go.Proofs.Tryz.func145 dN
def tj:Ue:=⟨1,[.tmp 2],(jQ [jc 2 .ga] (jQ [Cv 4 0,Co 5 (.zg 0 [(.t 4)]),Cv 3 5] (.seq (jQ [Cv 6 3,Co 7 (.Hq xj [(.t 6),(.c (.int .i64 1073741823))]),jt 8 7] (jC 8 (jr [jc 2 .ga]) .skip)) (jr [Cv 9 3,Cv 2 9]))))⟩
theorem OA:qc P fo 112 tj:=fM Go.Proofs.Tryz.func112 (dC ur dN)
def Pc:Ja:=(jQ [jB 12 .lss 11 10] (.seq (jX 12 0) (.seq (.block 1 (jQ [ji 13 2 9 11,jL 14 2 13,Co 5 (.alloc [(.int .i64 0),(.int .i64 0)]),jS 2 5 14] (.region [Cv 15 3,jL 16 2 5,Co 17 (.xb .lit 2 true 1 [(.int .i64 0),(.int .i64 0)] [(0,(.t 16))]),Co 18 (.ku 2 true 16 15 17),Cv 3 18]))) (.region [jK 19 .add 11 1,Cv 11 19]))))
def Ld:Ue:=⟨1,[.tmp 2],(jQ [jc 2 .ga] (jQ [Cv 6 0,jn 7 0 6,Co 8 (.eh .uq 2 true [(.int .i64 0),(.int .i64 0)] 16 (.c (.int .i64 0)) (.t 7)),Cv 3 8] (.seq (jQ [Cv 9 0,jn 10 0 9,jk 11 0] (.block 0 (.loop [3,9,10,11] Pc))) (jr [Cv 20 3,Cv 2 20]))))⟩
theorem Xn:qc P fo 144 Ld:=fM Go.Proofs.Tryz.func144 dN
def Ll:Ue:=⟨1,[.tmp 2],(jQ [jc 2 .ga] (jr [Cv 3 0,Co 4 (.zg 2 [(.t 3)]),Cv 2 4]))⟩
theorem MA:qc P fo 110 Ll:=fM Go.Proofs.Tryz.func110 dN
def br:Ue:=⟨2,[.tmp 4],(jQ [jc 4 .ga] (jr [Cv 5 0,Co 6 (.zg 1 [(.t 5)]),Cv 7 1,Co 8 (.zg 1 [(.t 7)]),Co 9 (.append true .own 2 true 16 (.t 6) (.t 8)),Co 10 (.zg 24 [(.t 9)]),Co 11 (.zg 3 [(.t 10)]),Cv 4 11]))⟩
theorem BC:qc P fo 81 br:=fM Go.Proofs.Tryz.func81 dN
def Jb:Nat->Option Ue
 |24=>some zq
 |0=>some vd
 |1=>some tj
 |2=>some Ld
 |3=>some Ll
 |_=>none
theorem pB:wm P fo Jb:=by
 intro ix af h;unfold Jb at h
 split at h
 ·injection h with h;subst h;exact vL
 ·injection h with h;subst h;exact Cn
 ·injection h with h;subst h;exact OA
 ·injection h with h;subst h;exact Xn
 ·injection h with h;subst h;exact MA
 ·cases h
def Xk:Sa:=fun ix args H=>if ix=22 then yB 2 0 23 args H else none
theorem WT(B0:wg):Rr P fo B0 Xk:=TN (s:=22) (g:=23) Go.Proofs.iY B0
def Rm:=YD Xk Jb br
theorem BE:Oa P 81 Rm:=wN pB WT BC
def Mb:Ja:=(jQ [jB 15 .lss 14 13] (.seq (jX 15 0) (.seq (.block 1 (jQ [ji 16 2 12 14,jL 17 2 16,Co 5 (.alloc [.ga,(.int .i64 0)]),jS 2 5 17] (.seq (jQ [jf 18 0 5,jl 19 1 18,jn 20 0 19,jK 21 .lss 20 1,Cv 22 21,jF 23 22 (.kf 0 5),jF 24 22 (.kl 1 23),jF 25 22 (.kn 0 24),jF 26 22 (.kK .gtr 25 8),jo 27 22 26,Cv 28 27,jF 29 28 (.kf 1 5),jF 30 28 (.kl 1 29),jF 31 28 (.kK .lss 30 0),jo 32 28 31,Cv 33 32,jF 34 33 (.kf 1 5),jF 35 33 (.kl 1 34),jF 36 33 (.kK .gtr 35 1073741823),jo 37 33 36,Cv 38 37,jF 39 38 (.kf 0 5),jF 40 38 (.kl 1 39),jF 41 38 (.zg 6 [(.t 40),(.f 7)]),jo 42 38 41] (jC 42 (jr [jb 2 false]) .skip)) (jQ [jf 43 1 5,jl 44 1 43,jL 45 2 5,jp 46 Lp 45,Co 47 (.build [(.int .i64 0),(.int .i64 0)] [(0,1,(.t 44)),(1,1,(.t 46))]),Co 48 (.xb .lit 2 true 1 [(.int .i64 0),(.int .i64 0)] [(0,(.t 47))]),Cv 6 48] (.seq (jQ [Cv 49 6,Co 50 (.kj 2 49 0),jf 51 1 50,jl 52 1 51,jK 53 .gtr 52 1073741823,Cv 54 53,jF 55 54 (.km 3),jF 56 54 (.km 6),jF 57 54 (.kq Kn 55 56),jF 58 54 (.kn 0 57),jF 59 54 (.kK .gtr 58 0),jo 60 54 59] (jC 60 (jr [jb 2 false]) .skip)) (.region [Cv 61 3,Cv 62 6,jq 63 Rm 61 62,Cv 3 63])))))) (.region [jK 64 .add 14 1,Cv 14 64]))))
def dm:Ue:=⟨1,[.tmp 2],(jQ [jR 1 1 0,jb 2 false] (.seq (jQ [Jf 7 0 1,Jl 8 1 7,jn 9 0 8,jK 10 .gtr 9 32] (jC 10 (jr [jb 2 false]) .skip)) (jQ [jc 3 .ga] (.seq (jQ [Jf 11 0 1,Jl 12 1 11,jn 13 0 12,jk 14 0] (.block 0 (.loop [3,12,13,14] Mb))) (jr [jb 2 true])))))⟩
theorem HE:qc P fo 51 dm:=fM Go.Proofs.Tryz.func51 (dC jI (dC eF (dC BE dN)))
def bc:Nat->Option Ue
 |5=>some Cc
 |6=>some Kb
 |7=>some Tk
 |_=>none
theorem rD:wm P fo bc:=by
 intro ix af h;unfold bc at h
 split at h
 ·injection h with h;subst h;exact xm
 ·injection h with h;subst h;exact ml
 ·injection h with h;subst h;exact vH
 ·cases h
def Qg:=Pb bc dm
theorem sy:Oa P 51 Qg:=Ka rD HE
def Vt:Ue:=⟨1,[.tmp 2],(jQ [jR 1 2 0,jb 2 false] (jr [JL 3 2 1,Co 4 (.xb .lit 2 true 1 [.ga,(.int .i64 0)] [(0,(.t 3))]),Co 5 (.build [.ga] [(0,1,(.t 4))]),jp 6 Qg 5,Cv 2 6]))⟩
theorem yG:qc P fo 83 Vt:=fM Go.Proofs.Tryz.func83 (dC sy dN)
def Ij:=Pb (fun _=>none) Vt
theorem Mp:Oa P 83 Ij:=Ka Ua yG
def Eg:Ja:=(jQ [jB 36 .lss 35 34] (.seq (jX 36 0) (.seq (.block 1 (jQ [Cv 37 35,Cv 9 37] (jQ [Jf 38 0 3,Jl 39 1 38,Cv 40 9,Ji 41 1 39 40,Jl 42 1 41,Jf 43 0 4,Jl 44 1 43,Cv 45 9,Ji 46 1 44 45,Jl 47 1 46,jq 48 Ir 42 47,Cv 10 48] (.seq (jQ [Cv 49 10,jn 50 0 49,jK 51 .eql 50 0] (jC 51 (jr [jc 6 .ga,jb 7 false]) .skip)) (.region [Cv 52 8,Cv 53 10,Co 54 (.kj 2 53 0),jf 55 0 54,jl 56 1 55,Co 57 (.conv .u8 (.t 56)),Co 58 (.xb .lit 1 false 1 [(.int .u8 0)] [(0,(.t 57))]),Co 59 (.ku 1 false 1 52 58),Cv 8 59]))))) (.region [jK 60 .add 35 1,Cv 35 60]))))
def cm:Ue:=⟨3,[.tmp 6,.tmp 7],(jQ [jR 3 2 0,jR 4 2 1,jc 6 .ga,jb 7 false] (.seq (jQ [JL 11 2 3,jp 12 Ij 11,jt 13 12,Cv 14 13,JF 15 14 (.kL 2 4),jF 16 14 (.kp Ij 15),jF 17 14 (.kt 16),jo 18 14 17,Cv 19 18,jF 20 19 (.km 2),jF 21 19 (.kK .lss 20 0),jo 22 19 21,Cv 23 22,jF 24 23 (.km 2),JF 25 23 (.kf 0 3),JF 26 23 (.kl 1 25),jF 27 23 (.kn 0 26),JF 28 23 (.kf 0 4),JF 29 23 (.kl 1 28),jF 30 23 (.kn 0 29),jF 31 23 (.mn [(.t 27),(.t 30)]),jF 32 23 (.kB .gtr 24 31),jo 33 23 32] (jC 33 (jr [jc 6 .ga,jb 7 false]) .skip)) (jQ [jc 8 .ga] (.ghost (.DA 8 1) (.seq (jQ [Cv 34 2,jk 35 0] (.block 0 (.loop [3,4,8,34,35] Eg))) (jr [Cv 61 8,Cv 6 61,jb 7 true]))))))⟩
theorem EE:qc P fo 122 cm:=fM Go.Proofs.Tryz.func122 (dC Mp (dC Mp (dC AL dN)))
def Ri:=Pb (fun _=>none) cm
theorem pH:Oa P 122 Ri:=Ka Ua EE
def Ii:Ja:=(.seq (jQ [Cv 14 5,jK 15 .gtr 14 0] (jX 15 0)) (.seq (.block 1 (jQ [Cv 18 3,Cv 19 5,Cv 20 4,ji 21 1 18 19,jS 1 21 20] (.region [Cv 22 4,Jf 23 0 1,Jl 24 1 23,Cv 25 5,jK 26 .sub 25 1,ji 27 1 24 26,jl 28 1 27,jp 29 Un 28,jB 30 .mul 22 29,Cv 4 30]))) (.region [Cv 16 5,jK 17 .sub 16 1,Cv 5 17])))
def gu:Ue:=⟨1,[.tmp 2],(jQ [jR 1 2 0,jc 2 .ga] (jQ [Jf 6 0 1,Jl 7 1 6,jn 8 0 7,jK 9 .add 8 1,Co 10 (.eh .own 1 false [(.int .i64 0)] 8 (.t 9) (.t 9)),Cv 3 10] (jQ [jk 4 1] (.seq (jQ [Jf 11 0 1,Jl 12 1 11,jn 13 0 12,Cv 5 13] (.block 0 (.loop [1,3,4,5] Ii))) (jQ [Cv 31 3,Cv 32 4,Co 33 (.kj 1 31 0),jS 1 33 32] (jr [Cv 34 3,Cv 2 34]))))))⟩
theorem qH:qc P fo 84 gu:=fM Go.Proofs.Tryz.func84 (dC KB dN)
def Lm:=Pb (fun _=>none) gu
theorem nA:Oa P 84 Lm:=Ka Ua qH
def Ph:Ja:=(jQ [jB 27 .lss 26 25] (.seq (jX 27 0) (.seq (.block 1 (jQ [Cv 28 26,ji 29 1 24 26,jl 30 1 29,Cv 7 28,Cv 8 30] (jQ [Jf 32 0 2,Jl 33 1 32,Cv 34 7,Ji 35 1 33 34,Jl 36 1 35,Cv 37 1,Cv 38 7,Ji 39 1 37 38,Jl 40 1 39,Cp 41 (.conv .i64 (.t 40)),jq 42 On 36 41,Cv 31 42,jx 43 0 31,jx 44 1 31,Cv 9 43,Cv 10 44] (.seq (jQ [Cv 45 10,jt 46 45] (jC 46 (jr [jk 4 0,jb 5 false]) .skip)) (.region [Cv 47 6,Cv 48 9,Cv 49 8,jB 50 .mul 48 49,jB 51 .add 47 50,Cv 6 51]))))) (.region [jK 52 .add 26 1,Cv 26 52]))))
def uo:Ue:=⟨2,[.tmp 4,.tmp 5],(jQ [jR 2 2 0,jk 4 0,jb 5 false] (.seq (jQ [JL 11 2 2,jp 12 Ij 11,jt 13 12,Cv 14 13,jF 15 14 (.km 1),jF 16 14 (.kn 0 15),JF 17 14 (.kf 0 2),JF 18 14 (.kl 1 17),jF 19 14 (.kn 0 18),jF 20 14 (.kB .neq 16 19),jo 21 14 20] (jC 21 (jr [jk 4 0,jb 5 false]) .skip)) (jQ [jk 6 0] (.seq (jQ [JL 22 2 2,jp 23 Lm 22,Co 24 (.slice 1 (.t 23) (some (.c (.int .i64 1))) none),jn 25 0 24,jk 26 0] (.block 0 (.loop [1,2,6,24,25,26] Ph))) (jr [Cv 53 6,Cv 4 53,jb 5 true])))))⟩
theorem fI:qc P fo 53 uo:=fM Go.Proofs.Tryz.func53 (dC Mp (dC nA (dC fC dN)))
def Cj:=Pb (fun _=>none) uo
theorem RL:Oa P 53 Cj:=Ka Ua fI
def Ei:Ja:=(jQ [jB 20 .lss 19 18] (.seq (jX 20 0) (.seq (.block 1 (jQ [ji 21 1 17 19,jl 22 1 21,Cv 7 22] (.region [Cv 23 5,Cv 24 7,Co 25 (.kj 2 24 0),jf 26 0 25,jl 27 1 26,Co 28 (.conv .u8 (.t 27)),Co 29 (.xb .lit 1 false 1 [(.int .u8 0)] [(0,(.t 28))]),Co 30 (.ku 1 false 1 23 29),Cv 5 30]))) (.region [jK 31 .add 19 1,Cv 19 31]))))
def Wt:Ue:=⟨2,[.tmp 4],(jQ [jR 2 2 0,jk 4 0] (jQ [Co 10 (.xb .uq 1 false 0 [(.int .u8 0)] []),Cv 11 1,Co 12 (.ku 1 false 1 10 11),Cv 5 12] (.seq (jQ [Jf 13 0 2,Jl 14 1 13,Cv 15 1,jn 16 0 15,Co 17 (.slice 1 (.t 14) (some (.t 16)) none),jn 18 0 17,jk 19 0] (.block 0 (.loop [2,5,17,18,19] Ei))) (jQ [JL 33 2 2,Cv 34 5,jq 35 Cj 33 34,Cv 32 35,jx 36 0 32,jx 37 1 32,Cv 8 36,Cv 9 37] (jr [Jf 38 1 2,Jl 39 1 38,Cv 40 8,jB 41 .add 39 40,Cv 4 41])))))⟩
theorem BF:qc P fo 123 Wt:=fM Go.Proofs.Tryz.func123 (dC RL dN)
def Sk:=Pb (fun _=>none) Wt
theorem eA:Oa P 123 Sk:=Ka Ua BF
def Fg:Ja:=(jQ [jB 30 .lss 29 28] (.seq (jX 30 2) (.seq (.block 3 (jQ [Cv 31 29,ji 32 2 27 29,jL 33 2 32,Co 10 (.alloc [.ga,(.int .i64 0)]),Cv 9 31,jS 2 10 33] (.seq (jQ [Cv 34 1,Cv 35 7,Cv 36 9,Co 37 (.iE (.t 34) [(.t 35),(.t 36)]),jt 38 37] (jC 38 (.exit 3) .skip)) (jQ [jL 40 2 8,jL 41 2 10,jf 42 0 8,jl 43 1 42,jn 44 0 43,Co 45 (.kr Ri 40 41 44),Cv 39 45,jx 46 0 39,jx 47 1 39,Cv 11 46,Cv 12 47] (jQ [Cv 48 12] (jC 48 (jQ [jL 49 2 8,Cv 50 11,jq 51 Sk 49 50,jL 52 2 10,Cv 53 11,jq 54 Sk 52 53,Co 55 (.build [(.bool false),(.int .i64 0),(.int .i64 0)] [(1,1,(.t 51)),(2,1,(.t 54))]),jS 3 6 55] (.exit 0)) .skip)))))) (.region [jK 56 .add 29 1,Cv 29 56]))))
def Dj:Ja:=(jQ [jB 22 .lss 21 20] (.seq (jX 22 0) (.seq (.block 1 (jQ [Cv 23 21,ji 24 2 19 21,jL 25 2 24,Co 8 (.alloc [.ga,(.int .i64 0)]),Cv 7 23,jS 2 8 25] (jQ [Jf 26 0 2,Jl 27 1 26,jn 28 0 27,jk 29 0] (.block 2 (.loop [1,2,4,6,7,8,19,20,21,27,28,29] Fg))))) (.region [jK 57 .add 21 1,Cv 21 57]))))
def Tg:Ue:=⟨2,[.cell 4 true 3,.tmp 5],(jQ [jR 2 1 0,Co 4 (.alloc [(.bool false),(.int .i64 0),(.int .i64 0)]),jk 5 0] (.scope (.seq (jQ [JL 13 1 2,jp 14 Qg 13,jt 15 14] (jC 15 (jr [Co 16 (.build [(.bool false),(.int .i64 0),(.int .i64 0)] []),jS 3 4 16,jk 5 84]) .skip)) (jQ [Co 17 (.build [(.bool false),(.int .i64 0),(.int .i64 0)] [(0,1,(.c (.bool true)))]),Co 6 (.alloc [(.bool false),(.int .i64 0),(.int .i64 0)]),jS 3 6 17] (.seq .skip (.seq (jQ [Jf 18 0 2,Jl 19 1 18,jn 20 0 19,jk 21 0] (.block 0 (.loop [1,2,4,6,19,20,21] Dj))) (jr [jL 58 3 6,jS 3 4 58,jk 5 0])))))))⟩
theorem Cx:qc P fo 94 Tg:=fM Go.Proofs.Tryz.func94 (dC sy (dC pH (dC eA (dC eA dN))))
def Fo:Ue:=⟨1,[.cell 2 true 3,.tmp 3],(jQ [Co 1 (.box 1 (.t 0)),Co 2 (.alloc [(.bool false),(.int .i64 0),(.int .i64 0)]),jk 3 0] (jr [jL 4 1 1,Co 5 (.FK 4 [(.t 1)]),Co 6 (.zg 25 [(.t 4),(.t 5)]),jx 7 0 6,jx 8 1 6,jS 3 2 7,Cv 3 8]))⟩
theorem DE:qc P fo 90 Fo:=fM Go.Proofs.Tryz.func90 dN
def Vj:Nat->Option Ue
 |4=>some Bi
 |25=>some Tg
 |_=>none
theorem mD:wm P fo Vj:=by
 intro ix af h;unfold Vj at h
 split at h
 ·injection h with h;subst h;exact TB
 ·injection h with h;subst h;exact Cx
 ·cases h
def gf:=Pb Vj Fo
theorem uG:Oa P 90 gf:=Ka mD DE
def Me:Ue:=⟨1,[.tmp 2],(jQ [jc 2 .ga] (.seq (jQ [Cv 3 0,Co 4 (.eq 2 false (.t 3) (.c .ga))] (jC 4 (jr [jc 2 .ga]) .skip)) (jr [Co 5 (.xb .uq 2 true 0 [(.int .i64 0),(.int .i64 0)] []),Cv 6 0,Co 7 (.ku 2 true 16 5 6),Cv 2 7])))⟩
theorem En:qc P fo 96 Me:=fM Go.Proofs.Tryz.func96 dN
def yd:=Pb (fun _=>none) Me
theorem Ko:Oa P 96 yd:=Ka Ua En
def Ki:Ja:=(jQ [jB 23 .lss 22 21] (.seq (jX 23 2) (.seq (.block 3 (jQ [ji 24 1 20 22,jl 25 1 24,Cv 8 25] (.region [jf 26 0 6,jl 27 1 26,Cv 28 8,jp 29 yd 28,Co 30 (.xb .lit 1 false 1 [.ga] [(0,(.t 29))]),Co 31 (.ku 1 false 24 27 30),jf 32 0 6,jS 1 32 31]))) (.region [jK 33 .add 22 1,Cv 22 33]))))
def Ai:Ja:=(jQ [jB 13 .lss 12 11] (.seq (jX 13 0) (.seq (.block 1 (jQ [ji 14 2 10 12,jL 15 2 14,Co 5 (.alloc [.ga,(.int .i64 0)]),jS 2 5 15] (jQ [jf 16 1 5,jl 17 1 16,Co 18 (.build [.ga,(.int .i64 0)] [(1,1,(.t 17))]),Co 6 (.alloc [.ga,(.int .i64 0)]),jS 2 6 18] (.ghost (.Ay 6 0 1) (.seq (jQ [jf 19 0 5,jl 20 1 19,jn 21 0 20,jk 22 0] (.block 2 (.loop [2,3,6,10,11,12,20,21,22] Ki))) (.region [jf 34 0 3,jl 35 1 34,jL 36 2 6,Co 37 (.xb .lit 2 true 1 [.ga,(.int .i64 0)] [(0,(.t 36))]),Co 38 (.ku 2 true 32 35 37),jf 39 0 3,jS 1 39 38])))))) (.region [jK 40 .add 12 1,Cv 12 40]))))
def Pp:Ue:=⟨1,[.cell 2 true 1],(jQ [jR 1 1 0,Co 2 (.alloc [.ga])] (jQ [Co 3 (.alloc [.ga])] (.ghost (.Ay 3 0 2) (.seq (jQ [Jf 9 0 1,Jl 10 1 9,jn 11 0 10,jk 12 0] (.block 0 (.loop [2,3,10,11,12] Ai))) (jr [jL 41 1 3,jS 1 2 41])))))⟩
theorem vF:qc P fo 64 Pp:=fM Go.Proofs.Tryz.func64 (dC Ko dN)
def Gj:=Pb (fun _=>none) Pp
theorem fA:Oa P 64 Gj:=Ka Ua vF
def ze:Ue:=⟨2,[.tmp 4,.tmp 5],(jQ [jR 3 2 1,jk 4 0,jb 5 false] (jQ [Cv 9 0,jz 10 9,jf 11 1 10,jl 12 1 11,JL 13 2 3,Co 14 (.lookup (.row [1,1]) (.int .i64 0) true (.t 12) (.t 13)),Cv 8 14,jx 15 0 8,jx 16 1 8,Cv 6 15,Cv 7 16] (.seq (jQ [Cv 17 7,jt 18 17] (jC 18 (jQ [Cv 19 0,jz 20 19,jf 21 2 20,jl 22 1 21,jn 23 0 22,Cv 6 23] (.seq (jQ [Cv 24 6,jK 25 .eql 24 64] (jC 25 (jr [jk 4 0,jb 5 false]) .skip)) (jQ [Cv 26 0,jz 27 26,jf 28 1 27,jl 29 1 28,JL 30 2 3,Cv 31 6,Ce (.ax (.row [1,1]) (.t 29) (.t 30) (.t 31))] (.region [Cv 32 0,Cv 33 0,jz 34 33,jf 35 2 34,jl 36 1 35,JL 37 2 3,Co 38 (.xb .lit 2 true 1 [(.int .i64 0),(.int .u32 0)] [(0,(.t 37))]),Co 39 (.ku 2 true 16 36 38),jz 40 32,jf 41 2 40,jS 1 41 39])))) .skip)) (jr [Cv 42 6,Cv 4 42,jb 5 true]))))⟩
theorem Yz:qc P fo 119 ze:=fM Go.Proofs.Tryz.func119 dN
def Eb:Ja:=(jQ [jB 19 .lss 18 17] (.seq (jX 19 0) (.seq (.block 1 (jQ [Cv 20 18,ji 21 2 16 18,jL 22 2 21,Co 11 (.alloc [.ga,(.int .i64 0)]),Cv 10 20,jS 2 11 22] (jQ [Jf 23 1 4,Jl 24 1 23,Cv 25 10,jB 26 .shr 24 25,Co 27 (.bin .and (.t 26) (.c (.int .u32 1))),Co 28 (.bin .eql (.t 27) (.c (.int .u32 1))),Cv 29 28,jT 30 29 (.kf 0 11),jT 31 29 (.kl 1 30),JT 32 29 (.kf 0 4),JT 33 29 (.kl 1 32),jT 34 29 (.ki 1 31 33),jT 35 29 (.kl 1 34),jT 36 29 (.km 2),jT 37 29 (.kq Wl 35 36),ja 38 29 37] (jC 38 (jQ [Cv 39 8,Cv 40 10,Co 41 (.bin .shl (.c (.int .u32 1)) (.t 40)),jB 42 .or 39 41,Cv 8 42] (.region [Cv 43 9,Cv 44 43,jF 45 44 (.kf 0 11),jF 46 44 (.kl 1 45),jF 47 44 (.kn 0 46),JF 48 44 (.kf 0 4),JF 49 44 (.kl 1 48),jF 50 44 (.kK .add 49 1),jF 51 44 (.kB .eql 47 50),jo 52 44 51,Cv 9 52])) .skip)))) (.region [jK 53 .add 18 1,Cv 18 53]))))
def Xi:Ue:=⟨3,[.tmp 6,.tmp 7],(jQ [jR 4 2 1,Co 6 (.move (.c (.int .u32 0))),jb 7 false] (jQ [Co 8 (.move (.c (.int .u32 0)))] (jQ [jb 9 false] (.seq (jQ [Cv 12 0,jz 13 12,jf 14 0 13,jf 15 0 14,jl 16 1 15,jn 17 0 16,jk 18 0] (.block 0 (.bp [2,4,8,9,16,17,18] Eb))) (jr [Cv 54 8,Cv 55 9,Cv 6 54,Cv 7 55])))))⟩
theorem Ew:qc P fo 120 Xi:=fM Go.Proofs.Tryz.func120 (dC YM dN)
def Ma:Ja:=(jQ [jK 31 .lss 30 256] (.seq (jX 31 2) (.seq (.block 3 (jQ [Cv 32 30,Cv 5 32] (jQ [Cv 34 0,Cv 35 0,jz 36 35,jf 37 2 36,jl 38 1 37,Cv 39 3,ji 40 2 38 39,jL 41 2 40,Cv 42 5,Co 43 (.zg 27 [(.t 34),(.t 41),(.t 42)]),Cv 33 43,jx 44 0 33,jx 45 1 33,Cv 6 44,Cv 7 45] (.block 4 (jQ [Cv 68 6,Co 69 (.bin .eql (.t 68) (.c (.int .u32 0))),Cv 67 69] (jC 67 (.region [Cv 70 5,Co 71 (.kA 256 1 4 70),Ce (.store 1 (.t 71) (.c (.int .i64 (-2))))]) (jQ [Cv 73 7,Cv 72 73] (jC 72 (.region [Cv 74 5,Co 75 (.kA 256 1 4 74),Ce (.store 1 (.t 75) (.c (.int .i64 (-1))))]) (jQ [Cv 47 0,Cv 48 0,jz 49 48,jf 50 2 49,jl 51 1 50,Cv 52 3,ji 53 2 51 52,jf 54 0 53,jl 55 1 54,jK 56 .add 55 1,Cv 57 6,Co 58 (.build [(.int .i64 0),(.int .u32 0)] [(0,1,(.t 56)),(1,1,(.t 57))]),Co 59 (.zg 26 [(.t 47),(.t 58)]),Cv 46 59,jx 60 0 46,jx 61 1 46,Cv 8 60,Cv 9 61] (.seq (jQ [Cv 62 9,jt 63 62] (jC 63 (jr [jb 2 false]) .skip)) (.region [Cv 64 5,Cv 65 8,Co 66 (.kA 256 1 4 64),jS 1 66 65]))))))))))) (.region [jK 76 .add 30 1,Cv 30 76]))))
def yb:Ja:=(.seq (jQ [Cv 21 3,Cv 22 0,jz 23 22,jf 24 2 23,jl 25 1 24,jn 26 0 25,jB 27 .lss 21 26] (jX 27 0)) (.seq (.block 1 (jQ [Co 4 (.alloc (List.replicate 256 (.int .i64 0)))] (.seq (jQ [jk 30 0] (.block 2 (.loop [0,3,4,30] Ma))) (.region [Cv 77 0,Cv 78 0,jz 79 78,jf 80 3 79,jl 81 1 80,jL 82 256 4,Co 83 (.xb .lit 256 true 1 (List.replicate 256 (.int .i64 0)) [(0,(.t 82))]),Co 84 (.append true .own 256 true 2048 (.t 81) (.t 83)),jz 85 77,jf 86 3 85,jS 1 86 84])))) (.region [Cv 28 3,jK 29 .add 28 1,Cv 3 29])))
def Vg:Ue:=⟨1,[.tmp 2],(jQ [jb 2 false] (jQ [Cv 10 0,Cv 11 0,jz 12 11,jf 13 0 12,jf 14 0 13,jl 15 1 14,jn 16 0 15,Co 17 (.bin .shl (.c (.int .u32 1)) (.t 16)),Co 18 (.bin .sub (.t 17) (.c (.int .u32 1))),Co 19 (.build [(.int .i64 0),(.int .u32 0)] [(1,1,(.t 18))]),Co 20 (.zg 26 [(.t 10),(.t 19)])] (.seq (jQ [jk 3 0] (.block 0 (.loop [0,3] yb))) (jr [jb 2 true]))))⟩
theorem ey:qc P fo 91 Vg:=fM Go.Proofs.Tryz.func91 dN
def xc:Ja:=(jQ [jK 35 .lss 34 256] (.seq (jX 35 2) (.seq (.block 3 (jQ [Cv 36 34,Co 37 (.EY 256 1 false (.t 33) (.t 34)),Cv 6 36,Cv 7 37] (jQ [Cv 38 7,jK 39 .geq 38 0] (jC 39 (.region [Cv 40 0,jz 41 40,jf 42 3 41,jl 43 1 42,Cv 44 5,Cv 45 6,Cv 46 3,Cv 47 7,ji 48 1 46 47,jl 49 1 48,ji 50 256 43 44,Co 51 (.kA 256 1 50 45),jS 1 51 49]) .skip)))) (.region [jK 52 .add 34 1,Cv 34 52]))))
def Td:Ja:=(.seq (jQ [Cv 23 5,jK 24 .geq 23 0] (jX 24 0)) (.seq (.block 1 (.seq (jQ [Cv 27 0,jz 28 27,jf 29 3 28,jl 30 1 29,Cv 31 5,ji 32 256 30 31,jL 33 256 32,jk 34 0] (.block 2 (.bp [0,3,4,5,33,34] xc))) (jQ [Cv 54 4,Cv 55 0,jz 56 55,jf 57 3 56,jl 58 1 57,Cv 59 5,ji 60 256 58 59,jL 61 256 60,Co 62 (.lookup (.row (List.replicate 256 1)) (.int .i64 0) true (.t 54) (.t 61)),Cv 53 62,jx 63 0 53,jx 64 1 53,Cv 8 63,Cv 9 64] (.seq (jQ [Cv 65 9,jt 66 65] (jC 66 (jQ [Cv 67 5,Cv 8 67] (.region [Cv 68 4,Cv 69 0,jz 70 69,jf 71 3 70,jl 72 1 71,Cv 73 5,ji 74 256 72 73,jL 75 256 74,Cv 76 5,Ce (.ax (.row (List.replicate 256 1)) (.t 68) (.t 75) (.t 76))])) .skip)) (.region [Cv 77 3,Cv 78 5,Cv 79 8,ji 80 1 77 78,jS 1 80 79]))))) (.region [Cv 25 5,jK 26 .sub 25 1,Cv 5 26])))
def wj:Ue:=⟨1,[.tmp 2],(jQ [jc 2 .ga] (jQ [Cv 10 0,jz 11 10,jf 12 2 11,jl 13 1 12,jn 14 0 13,Co 15 (.eh .own 1 false [(.int .i64 0)] 8 (.t 14) (.t 14)),Cv 3 15] (jQ [Co 16 (.iH),Cv 4 16] (.seq (jQ [Cv 17 0,jz 18 17,jf 19 2 18,jl 20 1 19,jn 21 0 20,jK 22 .sub 21 1,Cv 5 22] (.block 0 (.bp [0,3,4,5] Td))) (jr [Cv 81 3,Cv 2 81])))))⟩
theorem Lx:qc P fo 92 wj:=fM Go.Proofs.Tryz.func92 dN
def od:Ja:=(jQ [jK 9 .lss 8 256] (.seq (jX 9 0) (.seq (.block 1 (jQ [Cv 10 8,Co 11 (.EY 256 1 false (.t 7) (.t 8)),Cv 4 10,Cv 5 11] (.seq (jQ [Cv 12 5,jK 13 .eql 12 (-2)] (jC 13 (.exit 1) .skip)) (.seq (jQ [Cv 14 3,jn 15 0 14,Cv 6 15] (jQ [Cv 16 6,jK 17 .gtr 16 0,Cv 18 17,jT 19 18 (.km 3),jT 20 18 (.km 6),jT 21 18 (.kK .sub 20 1),jT 22 18 (.ki 3 19 21),jT 23 18 (.kf 2 22),jT 24 18 (.kl 1 23),jT 25 18 (.km 5),jT 26 18 (.kB .eql 24 25),ja 27 18 26,Cv 28 27,jT 29 28 (.km 3),jT 30 28 (.km 6),jT 31 28 (.kK .sub 30 1),jT 32 28 (.ki 3 29 31),jT 33 28 (.kf 1 32),jT 34 28 (.kl 1 33),jT 35 28 (.km 4),jT 36 28 (.kK .sub 35 1),jT 37 28 (.kB .eql 34 36),ja 38 28 37] (jC 38 (jQ [Cv 39 3,Cv 40 6,jK 41 .sub 40 1,Cv 42 4,ji 43 3 39 41,jf 44 1 43,jS 1 44 42] (.exit 1)) .skip))) (.region [Cv 45 3,Cv 46 4,Cv 47 4,Cv 48 5,Co 49 (.build [(.int .i64 0),(.int .i64 0),(.int .i64 0)] [(0,1,(.t 46)),(1,1,(.t 47)),(2,1,(.t 48))]),Co 50 (.xb .lit 3 true 1 [(.int .i64 0),(.int .i64 0),(.int .i64 0)] [(0,(.t 49))]),Co 51 (.append true .own 3 true 24 (.t 45) (.t 50)),Cv 3 51]))))) (.region [jK 52 .add 8 1,Cv 8 52]))))
def iw:Ue:=⟨1,[.tmp 2],(jQ [jR 1 256 0,jc 2 .ga] (jQ [jc 3 .ga] (.ghost (.zJ 3 3 true) (.seq (jQ [JL 7 256 1,jk 8 0] (.block 0 (.bp [3,7,8] od))) (jr [Cv 53 3,Cv 2 53])))))⟩
theorem WH:qc P fo 121 iw:=fM Go.Proofs.Tryz.func121 dN
def Gr:=Pb (fun _=>none) iw
theorem bL:Oa P 121 Gr:=Ka Ua WH
def uc:Ja:=(jQ [jK 33 .lss 32 256] (.seq (jX 33 2) (.seq (.block 3 (jQ [Cv 34 32,Co 35 (.EY 256 1 false (.t 31) (.t 32)),Cv 8 34,Cv 9 35] (.seq (jQ [Cv 36 9,jK 37 .lss 36 0] (jC 37 (.exit 3) .skip)) (jQ [Cv 39 3,Cv 40 9,Co 41 (.lookup (.one 1) (.int .i64 0) true (.t 39) (.t 40)),Cv 38 41,jx 42 0 38,jx 43 1 38,Cv 10 42,Cv 11 43] (.seq (jQ [Cv 44 11,jt 45 44] (jC 45 (jQ [Cv 46 4,jn 47 0 46,Cv 10 47] (jQ [Cv 48 3,Cv 49 9,Cv 50 10,Ce (.ax (.one 1) (.t 48) (.t 49) (.t 50))] (.region [Cv 51 4,Cv 52 9,Co 53 (.xb .lit 1 false 1 [(.int .i64 0)] [(0,(.t 52))]),Co 54 (.ku 1 false 8 51 53),Cv 4 54]))) .skip)) (.region [Cv 55 8,Cv 56 10,Co 57 (.kA 256 1 7 55),jS 1 57 56])))))) (.region [jK 58 .add 32 1,Cv 32 58]))))
def zd:Ja:=(.seq (jQ [Cv 15 6,Cv 16 4,jn 17 0 16,jB 18 .lss 15 17] (jX 18 0)) (.seq (.block 1 (jQ [Cv 21 0,jz 22 21,jf 23 3 22,jl 24 1 23,Cv 25 4,Cv 26 6,ji 27 1 25 26,jl 28 1 27,ji 29 256 24 28,jL 30 256 29,Co 7 (.alloc (List.replicate 256 (.int .i64 0))),jS 256 7 30] (.seq (jQ [jL 31 256 7,jk 32 0] (.block 2 (.bp [0,2,3,4,5,6,7,31,32] uc))) (.region [jf 59 0 5,jl 60 1 59,jL 61 256 7,jp 62 Gr 61,Co 63 (.xb .lit 1 false 1 [.ga] [(0,(.t 62))]),Co 64 (.ku 1 false 24 60 63),jf 65 0 5,jS 1 65 64])))) (.region [Cv 19 6,jK 20 .add 19 1,Cv 6 20])))
def Oj:Ue:=⟨1,[.cell 2 true 1],(jQ [Co 2 (.alloc [.ga])] (jQ [Co 12 (.iH),Ce (.ax (.one 1) (.t 12) (.c (.int .i64 0)) (.c (.int .i64 0))),Cv 13 12,Cv 3 13] (jQ [Co 14 (.xb .uq 1 false 1 [(.int .i64 0)] [(0,(.c (.int .i64 0)))]),Cv 4 14] (jQ [Co 5 (.alloc [.ga])] (.ghost (.Ay 5 0 1) (.seq (jQ [jk 6 0] (.block 0 (.bp [0,2,3,4,5,6] zd))) (jr [jL 66 1 5,jS 1 2 66])))))))⟩
theorem Hy:qc P fo 93 Oj:=fM Go.Proofs.Tryz.func93 (dC bL dN)
def zm:Ue:=⟨1,[.cell 2 true 1,.tmp 3],(jQ [jR 1 1 0,Co 2 (.alloc [.ga]),jk 3 0] (jQ [JL 8 1 1,jp 9 gf 8,Cv 7 9,jx 10 0 7,jx 11 1 7,Co 4 (.alloc [(.bool false),(.int .i64 0),(.int .i64 0)]),jS 3 4 10,Cv 5 11] (.seq (.block 0 (jQ [Cv 13 5,jK 14 .neq 13 0,Cv 12 14] (jC 12 (jr [Co 15 (.build [.ga] []),Cv 16 5,jS 1 2 15,Cv 3 16]) (jQ [jf 18 0 4,jl 19 1 18,jt 20 19,Cv 17 20] (jC 17 (jr [Co 21 (.build [.ga] []),jS 1 2 21,jk 3 110]) .skip))))) (jQ [JL 22 1 1,jp 23 Gj 22,Co 24 (.iH),Co 25 (.build [.ga,.nw,.ga,.ga] [(0,1,(.t 23)),(1,1,(.t 24))]),Co 26 (.box 4 (.t 25)),Cv 6 26] (.ghost (.Ay 26 2 2) (.ghost (.XK 26 3 256 true) (.seq (jQ [Cv 27 6,Co 28 (.zg 28 [(.t 27)]),jt 29 28] (jC 29 (jr [Co 30 (.build [.ga] []),jS 1 2 30,jk 3 130]) .skip)) (jQ [Cv 31 6,Co 32 (.zg 29 [(.t 31)])] (jr [Cv 33 6,Co 34 (.zg 30 [(.t 33)]),jS 1 2 34,jk 3 0])))))))))⟩
theorem yI:qc P fo 62 zm:=fM Go.Proofs.Tryz.func62 (dC uG (dC fA dN))
def Fa:Nat->Option Ue
 |26=>some ze
 |27=>some Xi
 |28=>some Vg
 |29=>some wj
 |30=>some Oj
 |_=>none
theorem zG:wm P fo Fa:=by
 intro ix af h;unfold Fa at h
 split at h
 ·injection h with h;subst h;exact Yz
 ·injection h with h;subst h;exact Ew
 ·injection h with h;subst h;exact ey
 ·injection h with h;subst h;exact Lx
 ·injection h with h;subst h;exact Hy
 ·cases h
def Ic:=Pb Fa zm
theorem fK:Oa P 62 Ic:=Ka zG yI
def oe:Ja:=(.seq (jQ [Cv 8 4,Jf 9 0 1,Jl 10 1 9,jn 11 0 10,jB 12 .lss 8 11] (jX 12 0)) (.seq (.block 1 (.region [jf 15 0 3,jl 16 1 15,Co 17 (.xb .uq 2 true 0 [(.int .i64 0),(.int .i64 0)] []),Jf 18 0 1,Jl 19 1 18,Cv 20 4,Ji 21 1 19 20,Jl 22 1 21,Co 23 (.ku 2 true 16 17 22),Co 24 (.xb .lit 1 false 1 [.ga] [(0,(.t 23))]),Co 25 (.ku 1 false 24 16 24),jf 26 0 3,jS 1 26 25])) (.region [Cv 13 4,jK 14 .add 13 1,Cv 4 14])))
def Ti:Ue:=⟨1,[.cell 2 true 2],(jQ [jR 1 2 0,Co 2 (.alloc [.ga,(.int .i64 0)])] (jQ [Jf 5 1 1,Jl 6 1 5,Co 7 (.build [.ga,(.int .i64 0)] [(1,1,(.t 6))]),Co 3 (.alloc [.ga,(.int .i64 0)]),jS 2 3 7] (.ghost (.Ay 3 0 1) (.seq (jQ [jk 4 0] (.block 0 (.loop [1,2,3,4] oe))) (jr [jL 27 2 3,jS 2 2 27])))))⟩
theorem Br:qc P fo 70 Ti:=fM Go.Proofs.Tryz.func70 dN
def Kg:=Pb (fun _=>none) Ti
theorem Is:Oa P 70 Kg:=Ka Ua Br
def Vf:Ja:=(.seq (jQ [Cv 6 4,Jf 7 0 1,Jl 8 1 7,jn 9 0 8,jB 10 .lss 6 9] (jX 10 0)) (.seq (.block 1 (.region [jf 13 0 3,jl 14 1 13,Jf 15 0 1,Jl 16 1 15,Cv 17 4,Ji 18 2 16 17,JL 19 2 18,jp 20 Kg 19,Co 21 (.xb .lit 2 true 1 [.ga,(.int .i64 0)] [(0,(.t 20))]),Co 22 (.ku 2 true 32 14 21),jf 23 0 3,jS 1 23 22])) (.region [Cv 11 4,jK 12 .add 11 1,Cv 4 12])))
def Vk:Ue:=⟨1,[.cell 2 true 1],(jQ [jR 1 1 0,Co 2 (.alloc [.ga])] (jQ [Co 5 (.build [.ga] []),Co 3 (.alloc [.ga]),jS 1 3 5] (.ghost (.Ay 3 0 2) (.seq (jQ [jk 4 0] (.block 0 (.loop [1,2,3,4] Vf))) (jr [jL 24 1 3,jS 1 2 24])))))⟩
theorem Rv:qc P fo 45 Vk:=fM Go.Proofs.Tryz.func45 (dC Is dN)
def Wi:=Pb (fun _=>none) Vk
theorem Ix:Oa P 45 Wi:=Ka Ua Rv
def Nb:Ja:=(.seq (jQ [Cv 4 3,Cv 5 0,jn 6 0 5,jB 7 .lss 4 6] (jX 7 0)) (.seq (.block 1 (jQ [Cv 10 0,Cv 11 3,Ji 12 2 10 11,jf 13 0 12,jl 14 1 13,jK 15 .lss 14 0,Cv 16 15,jF 17 16 (.km 0),jF 18 16 (.km 3),JF 19 16 (.ki 2 17 18),jF 20 16 (.kf 0 19),jF 21 16 (.kl 1 20),jF 22 16 (.km 0),jF 23 16 (.km 3),JF 24 16 (.ki 2 22 23),jF 25 16 (.kf 1 24),jF 26 16 (.kl 1 25),jF 27 16 (.kB .gtr 21 26),jo 28 16 27,Cv 29 28,jF 30 29 (.km 0),jF 31 29 (.km 3),JF 32 29 (.ki 2 30 31),jF 33 29 (.kf 1 32),jF 34 29 (.kl 1 33),jF 35 29 (.kK .gtr 34 255),jo 36 29 35,Cv 37 36,jF 38 37 (.km 3),jF 39 37 (.kK .gtr 38 0),jF 40 37 (.km 39),jT 41 40 (.km 0),jT 42 40 (.km 3),JT 43 40 (.ki 2 41 42),jT 44 40 (.kf 0 43),jT 45 40 (.kl 1 44),jT 46 40 (.km 0),jT 47 40 (.km 3),jT 48 40 (.kK .sub 47 1),JT 49 40 (.ki 2 46 48),jT 50 40 (.kf 1 49),jT 51 40 (.kl 1 50),jT 52 40 (.kK .add 51 1),jT 53 40 (.kB .leq 45 52),jF 54 37 (.ka 40 53),jo 55 37 54] (jC 55 (jr [jb 2 false]) .skip))) (.region [Cv 8 3,jK 9 .add 8 1,Cv 3 9])))
def sk:Ue:=⟨1,[.tmp 2],(jQ [jb 2 false] (.seq (jQ [jk 3 0] (.block 0 (.loop [0,3] Nb))) (jr [jb 2 true])))⟩
theorem Eu:qc P fo 157 sk:=fM Go.Proofs.Tryz.func157 dN
def Ig:=Pb (fun _=>none) sk
theorem No:Oa P 157 Ig:=Ka Ua Eu
def Te:Ja:=(.seq (jQ [Cv 21 5,Cv 22 0,Cv 23 4,ji 24 2 22 23,jf 25 1 24,jl 26 1 25,jB 27 .leq 21 26] (jX 27 2)) (.seq (.block 3 (.region [Cv 30 5,Co 31 (.kA 256 1 3 30),Ce (.store 1 (.t 31) (.c (.bool true)))])) (.region [Cv 28 5,jK 29 .add 28 1,Cv 5 29])))
def Oe:Ja:=(.seq (jQ [Cv 10 4,Cv 11 0,jn 12 0 11,jB 13 .lss 10 12] (jX 13 0)) (.seq (.block 1 (jQ [Cv 16 0,Cv 17 4,ji 18 2 16 17,jf 19 0 18,jl 20 1 19,Cv 5 20] (.block 2 (.loop [0,2,3,4,5] Te)))) (.region [Cv 14 4,jK 15 .add 14 1,Cv 4 15])))
def xh:Ue:=⟨1,[.cell 2 true 256],(jQ [Co 2 (.alloc (List.replicate 256 (.bool false)))] (jQ [Co 3 (.alloc (List.replicate 256 (.bool false)))] (.seq (jQ [Cv 6 0,jp 7 Ig 6,jt 8 7] (jC 8 (jr [jL 9 256 3,jS 256 2 9]) .skip)) (.seq (jQ [jk 4 0] (.block 0 (.loop [0,2,3,4] Oe))) (jr [jL 32 256 3,jS 256 2 32])))))⟩
theorem pt:qc P fo 135 xh:=fM Go.Proofs.Tryz.func135 (dC No dN)
def Dd:=Pb (fun _=>none) xh
theorem Jj:Oa P 135 Dd:=Ka Ua pt
def Ie:Ja:=(.seq (jQ [Cv 8 5,jK 9 .leq 8 255] (jX 9 0)) (.seq (.block 1 (jQ [Cv 12 5,Co 13 (.kA 256 1 3 12),jl 14 1 13] (jC 14 (.region [Cv 15 4,jK 16 .add 15 1,Cv 4 16]) .skip))) (.region [Cv 10 5,jK 11 .add 10 1,Cv 5 11])))
def yl:Ue:=⟨1,[.tmp 2],(jQ [jk 2 0] (jQ [Cv 6 0,jp 7 Dd 6,Co 3 (.alloc (List.replicate 256 (.bool false))),jS 256 3 7,jk 4 0] (.seq (jQ [jk 5 0] (.block 0 (.loop [3,4,5] Ie))) (jr [Cv 17 4,Cv 2 17]))))⟩
theorem xw:qc P fo 162 yl:=fM Go.Proofs.Tryz.func162 (dC Jj dN)
def fj:=Pb (fun _=>none) yl
theorem Kx:Oa P 162 fj:=Ka Ua xw
def ue:Ja:=(.seq (jQ [Cv 5 4,Jf 6 0 1,Jl 7 1 6,jn 8 0 7,jB 9 .lss 5 8] (jX 9 0)) (.seq (.block 1 (jQ [Cv 12 3,Jf 13 0 1,Jl 14 1 13,Cv 15 4,ji 16 1 14 15,jl 17 1 16,jp 18 fj 17,jB 19 .mul 12 18,Cv 3 19] (jQ [Cv 20 3,jK 21 .gtr 20 1073741824] (jC 21 (.region [jk 3 1073741825]) .skip)))) (.region [Cv 10 4,jK 11 .add 10 1,Cv 4 11])))
def wk:Ue:=⟨1,[.tmp 2],(jQ [jR 1 2 0,jk 2 0] (jQ [jk 3 1] (.seq (jQ [jk 4 0] (.block 0 (.loop [1,3,4] ue))) (jr [Cv 22 3,Cv 2 22]))))⟩
theorem Nu:qc P fo 158 wk:=fM Go.Proofs.Tryz.func158 (dC Kx dN)
def ye:=Pb (fun _=>none) wk
theorem vi:Oa P 158 ye:=Ka Ua Nu
def ic:Ja:=(.seq (jQ [Cv 24 3,Jf 25 0 1,Jl 26 1 25,jn 27 0 26,jB 28 .lss 24 27] (jX 28 0)) (.seq (.block 1 (jQ [Jf 31 0 1,Jl 32 1 31,Cv 33 3,ji 34 1 32 33,jl 35 1 34,jn 36 0 35,jK 37 .eql 36 0,Cv 38 37,JF 39 38 (.kf 0 1),JF 40 38 (.kl 1 39),jF 41 38 (.km 3),jF 42 38 (.ki 1 40 41),jF 43 38 (.kl 1 42),jF 44 38 (.kp Ig 43),jF 45 38 (.kt 44),jo 46 38 45] (jC 46 (jr [jb 2 false]) .skip))) (.region [Cv 29 3,jK 30 .add 29 1,Cv 3 30])))
def Bb:Ue:=⟨1,[.tmp 2],(jQ [jR 1 2 0,jb 2 false] (.seq (jQ [Jf 4 0 1,Jl 5 1 4,jn 6 0 5,jK 7 .lss 6 1,Cv 8 7,JF 9 8 (.kf 0 1),JF 10 8 (.kl 1 9),jF 11 8 (.kn 0 10),jF 12 8 (.kK .gtr 11 8),jo 13 8 12,Cv 14 13,JF 15 14 (.kf 1 1),JF 16 14 (.kl 1 15),jF 17 14 (.kK .lss 16 0),jo 18 14 17,Cv 19 18,JF 20 19 (.kf 1 1),JF 21 19 (.kl 1 20),jF 22 19 (.kK .gtr 21 1073741823),jo 23 19 22] (jC 23 (jr [jb 2 false]) .skip)) (.seq (jQ [jk 3 0] (.block 0 (.loop [1,3] ic))) (jr [Jf 47 1 1,Jl 48 1 47,JL 49 2 1,jp 50 ye 49,jB 51 .add 48 50,jK 52 .sub 51 1,jK 53 .leq 52 1073741823,Cv 2 53]))))⟩
theorem Uq:qc P fo 137 Bb:=fM Go.Proofs.Tryz.func137 (dC No (dC vi dN))
def Qb:=Pb (fun _=>none) Bb
theorem Cl:Oa P 137 Qb:=Ka Ua Uq
def Bd:Ja:=(.seq (jQ [Cv 6 5,Cv 7 1,jB 8 .lss 6 7] (jX 8 0)) (.seq (.block 1 (jQ [Cv 11 0,Cv 12 1,Ji 13 2 11 12,jf 14 1 13,jl 15 1 14,Cv 16 0,Cv 17 5,Ji 18 2 16 17,jf 19 1 18,jl 20 1 19,Cv 21 0,Cv 22 5,Ji 23 2 21 22,JL 24 2 23,jp 25 ye 24,jB 26 .add 20 25,jK 27 .sub 26 1,jB 28 .leq 15 27,Cv 29 28,jT 30 29 (.km 0),jT 31 29 (.km 5),JT 32 29 (.ki 2 30 31),jT 33 29 (.kf 1 32),jT 34 29 (.kl 1 33),jT 35 29 (.km 0),jT 36 29 (.km 1),JT 37 29 (.ki 2 35 36),jT 38 29 (.kf 1 37),jT 39 29 (.kl 1 38),jT 40 29 (.km 0),jT 41 29 (.km 1),JT 42 29 (.ki 2 40 41),JT 43 29 (.kL 2 42),jT 44 29 (.kp ye 43),jT 45 29 (.kB .add 39 44),jT 46 29 (.kK .sub 45 1),jT 47 29 (.kB .leq 34 46),ja 48 29 47] (jC 48 (jr [jb 4 true]) .skip))) (.region [Cv 9 5,jK 10 .add 9 1,Cv 5 10])))
def xl:Ue:=⟨2,[.tmp 4],(jQ [jb 4 false] (.seq (jQ [jk 5 0] (.block 0 (.loop [0,1,5] Bd))) (jr [jb 4 false])))⟩
theorem Uw:qc P fo 138 xl:=fM Go.Proofs.Tryz.func138 (dC vi (dC vi dN))
def fh:=Pb (fun _=>none) xl
theorem Px:Oa P 138 fh:=Ka Ua Uw
def jd:Ja:=(.seq (jQ [Cv 8 3,Jf 9 0 1,Jl 10 1 9,jn 11 0 10,jB 12 .lss 8 11] (jX 12 0)) (.seq (.block 1 (jQ [Jf 15 0 1,Jl 16 1 15,Cv 17 3,ji 18 2 16 17,jL 19 2 18,jp 20 Qb 19,jt 21 20,Cv 22 21,JF 23 22 (.kf 0 1),JF 24 22 (.kl 1 23),jF 25 22 (.km 3),jF 26 22 (.kq fh 24 25),jo 27 22 26] (jC 27 (jr [jb 2 false]) .skip))) (.region [Cv 13 3,jK 14 .add 13 1,Cv 3 14])))
def ui:Ue:=⟨1,[.tmp 2],(jQ [jR 1 1 0,jb 2 false] (.seq (jQ [Jf 4 0 1,Jl 5 1 4,jn 6 0 5,jK 7 .gtr 6 32] (jC 7 (jr [jb 2 false]) .skip)) (.seq (jQ [jk 3 0] (.block 0 (.loop [1,3] jd))) (jr [jb 2 true]))))⟩
theorem Pu:qc P fo 104 ui:=fM Go.Proofs.Tryz.func104 (dC Cl (dC Px dN))
def Ae:=Pb (fun _=>none) ui
theorem Wn:Oa P 104 Ae:=Ka Ua Pu
def Fk:Ue:=⟨1,[.tmp 2],(jQ [jR 1 2 0,jk 2 0] (.seq (jQ [JL 3 2 1,jp 4 Qb 3,jt 5 4] (jC 5 (jr [jk 2 0]) .skip)) (jr [JL 6 2 1,jp 7 ye 6,Cv 2 7])))⟩
theorem Ru:qc P fo 139 Fk:=fM Go.Proofs.Tryz.func139 (dC Cl (dC vi dN))
def Gg:=Pb (fun _=>none) Fk
theorem Ln:Oa P 139 Gg:=Ka Ua Ru
def Ch:Ue:=⟨2,[.tmp 4],(jQ [jb 4 false] (jr [Cv 5 1,jK 6 .geq 5 0,Cv 7 6,jT 8 7 (.km 1),jT 9 7 (.kK .leq 8 255),ja 10 7 9,Cv 11 10,jT 12 11 (.km 0),jT 13 11 (.kp Dd 12),jT 14 11 (.km 1),jT 15 11 (.EY 256 1 false (.t 13) (.t 14)),ja 16 11 15,Cv 4 16]))⟩
theorem Hx:qc P fo 140 Ch:=fM Go.Proofs.Tryz.func140 (dC Jj dN)
def sf:=Pb (fun _=>none) Ch
theorem aq:Oa P 140 sf:=Ka Ua Hx
def Qc:Ja:=(.seq (jQ [Cv 42 10,jK 43 .lss 42 256,Cv 44 43,JT 45 44 (.kf 0 3),JT 46 44 (.kl 1 45),jT 47 44 (.km 9),jT 48 44 (.ki 1 46 47),jT 49 44 (.kl 1 48),jT 50 44 (.km 10),jT 51 44 (.kq sf 49 50),jT 52 44 (.km 51),JT 53 52 (.kf 0 4),JT 54 52 (.kl 1 53),jT 55 52 (.km 9),jT 56 52 (.ki 1 54 55),jT 57 52 (.kl 1 56),jT 58 52 (.km 10),jT 59 52 (.kq sf 57 58),jT 60 44 (.ka 52 59),jT 61 44 (.kt 60),ja 62 44 61] (jX 62 2)) (.block 3 (.region [Cv 63 10,jK 64 .add 63 1,Cv 10 64])))
def tf:Ja:=(.seq (jQ [Cv 37 9,Cv 38 2,jB 39 .lss 37 38] (jX 39 0)) (.seq (.block 1 (jQ [jk 10 0] (.seq (.block 2 (.loop [2,3,4,8,9,10] Qc)) (.seq (jQ [Cv 65 10,jK 66 .eql 65 256] (jC 66 (jr [jc 6 .ga,jb 7 false]) .skip)) (.region [Cv 67 8,Cv 68 10,Co 69 (.conv .u8 (.t 68)),Co 70 (.xb .lit 1 false 1 [(.int .u8 0)] [(0,(.t 69))]),Co 71 (.ku 1 false 1 67 70),Cv 8 71]))))) (.region [Cv 40 9,jK 41 .add 40 1,Cv 9 41])))
def Xj:Ue:=⟨3,[.tmp 6,.tmp 7],(jQ [jR 3 2 0,jR 4 2 1,jc 6 .ga,jb 7 false] (.seq (jQ [JL 11 2 3,jp 12 Gg 11,jK 13 .eql 12 0,Cv 14 13,JF 15 14 (.kL 2 4),jF 16 14 (.kp Gg 15),jF 17 14 (.kK .eql 16 0),jo 18 14 17,Cv 19 18,jF 20 19 (.km 2),jF 21 19 (.kK .lss 20 0),jo 22 19 21,Cv 23 22,jF 24 23 (.km 2),JF 25 23 (.kf 0 3),JF 26 23 (.kl 1 25),jF 27 23 (.kn 0 26),jF 28 23 (.kB .gtr 24 27),jo 29 23 28,Cv 30 29,jF 31 30 (.km 2),JF 32 30 (.kf 0 4),JF 33 30 (.kl 1 32),jF 34 30 (.kn 0 33),jF 35 30 (.kB .gtr 31 34),jo 36 30 35] (jC 36 (jr [jc 6 .ga,jb 7 false]) .skip)) (jQ [jc 8 .ga] (.ghost (.DA 8 1) (.seq (jQ [jk 9 0] (.block 0 (.loop [2,3,4,8,9] tf))) (jr [Cv 72 8,Cv 6 72,jb 7 true]))))))⟩
theorem mu:qc P fo 105 Xj:=fM Go.Proofs.Tryz.func105 (dC Ln (dC Ln (dC aq (dC aq dN))))
def Ze:=Pb (fun _=>none) Xj
theorem xn:Oa P 105 Ze:=Ka Ua mu
def Rc:Ja:=(.seq (jQ [Cv 19 5,Jf 20 0 1,Jl 21 1 20,jn 22 0 21,jB 23 .lss 19 22] (jX 23 2)) (.seq (.block 3 (jQ [Jf 26 0 1,Jl 27 1 26,Cv 28 4,ji 29 2 27 28,jf 30 0 29,jl 31 1 30,jn 32 0 31,Cv 6 32] (jQ [Cv 33 6,Jf 34 0 1,Jl 35 1 34,Cv 36 5,ji 37 2 35 36,jf 38 0 37,jl 39 1 38,jn 40 0 39,jB 41 .lss 33 40] (jC 41 (jQ [Jf 43 0 1,Jl 44 1 43,Cv 45 4,Ji 46 2 44 45,JL 47 2 46,Jf 48 0 1,Jl 49 1 48,Cv 50 5,Ji 51 2 49 50,JL 52 2 51,Cv 53 6,Co 54 (.kr Ze 47 52 53),Cv 42 54,jx 55 0 42,jx 56 1 42,Cv 7 55,Cv 8 56] (jQ [Cv 57 8] (jC 57 (jr [jb 2 false,jk 3 0]) .skip))) .skip)))) (.region [Cv 24 5,jK 25 .add 24 1,Cv 5 25])))
def pf:Ja:=(.seq (jQ [Cv 12 4,Jf 13 0 1,Jl 14 1 13,jn 15 0 14,jB 16 .lss 12 15] (jX 16 0)) (.seq (.block 1 (jQ [jk 5 0] (.block 2 (.loop [1,4,5] Rc)))) (.region [Cv 17 4,jK 18 .add 17 1,Cv 4 18])))
def Kh:Ue:=⟨1,[.tmp 2,.tmp 3],(jQ [jR 1 1 0,jb 2 false,jk 3 0] (.seq (jQ [JL 9 1 1,jp 10 Ae 9,jt 11 10] (jC 11 (jr [jb 2 false,jk 3 84]) .skip)) (.seq (jQ [jk 4 0] (.block 0 (.loop [1,4] pf))) (jr [jb 2 true,jk 3 0]))))⟩
theorem xu:qc P fo 101 Kh:=fM Go.Proofs.Tryz.func101 (dC Wn (dC xn dN))
def Wd:=Pb (fun _=>none) Kh
theorem Ou:Oa P 101 Wd:=Ka Ua xu
def Ge:Ja:=(.seq (jQ [Cv 6 5,Cv 7 0,jn 8 0 7,jB 9 .lss 6 8] (jX 9 0)) (.seq (.block 1 (jQ [Cv 12 0,Cv 13 5,Ji 14 33 12 13,JL 15 33 14,JL 16 33 3,Co 17 (.Y0 (.row [1,0,0,0,0,0,0,0,0,0,0,0,0,0,0,0,0,0,0,0,0,0,0,0,0,0,0,0,0,0,0,0,0]) false (.t 15) (.t 16))] (jC 17 (jr [Cv 18 5,Cv 4 18]) .skip))) (.region [Cv 10 5,jK 11 .add 10 1,Cv 5 11])))
def Wk:Ue:=⟨2,[.tmp 4],(jQ [jR 3 33 1,jk 4 0] (.seq (jQ [jk 5 0] (.block 0 (.loop [0,3,5] Ge))) (jr [jk 4 (-1)])))⟩
theorem cx:qc P fo 136 Wk:=fM Go.Proofs.Tryz.func136 dN
def Yi:=Pb (fun _=>none) Wk
theorem Gx:Oa P 136 Yi:=Ka Ua cx
def cg:Ja:=(.seq (jQ [Cv 31 9,Jf 32 0 1,Jl 33 1 32,Cv 34 7,ji 35 2 33 34,jf 36 0 35,jl 37 1 36,jn 38 0 37,jB 39 .lss 31 38] (jX 39 2)) (.seq (.block 3 (.region [Cv 42 9,Jf 43 0 1,Jl 44 1 43,Cv 45 7,ji 46 2 44 45,jf 47 0 46,jl 48 1 47,Cv 49 9,ji 50 1 48 49,jl 51 1 50,jp 52 Dd 51,Co 53 (.kA 8 256 8 42),jS 256 53 52])) (.region [Cv 40 9,jK 41 .add 40 1,Cv 9 41])))
def bg:Ja:=(.seq (jQ [Cv 21 7,Jf 22 0 1,Jl 23 1 22,jn 24 0 23,jB 25 .lss 21 24] (jX 25 0)) (.seq (.block 1 (jQ [Cv 28 7,jf 29 1 6,Co 30 (.kA 32 1 29 28),Ce (.store 1 (.t 30) (.c (.bool true)))] (jQ [Co 8 (.alloc (List.replicate 2048 (.bool false)))] (.seq (jQ [jk 9 0] (.block 2 (.loop [1,5,6,7,8,9] cg))) (.region [Cv 54 5,jL 55 2048 8,Co 56 (.xb .lit 2048 true 1 (List.replicate 2048 (.bool false)) [(0,(.t 55))]),Co 57 (.ku 2048 true 2048 54 56),Cv 5 57]))))) (.region [Cv 26 7,jK 27 .add 26 1,Cv 7 27])))
def Gd:Ja:=(.seq (jQ [Cv 77 18,Jf 78 0 1,Jl 79 1 78,jn 80 0 79,jB 81 .lss 77 80] (jX 81 8)) (.seq (.block 9 (jQ [Cv 84 18,Cv 85 10,Cv 86 12,Cv 87 18,Ji 88 33 85 86,jf 89 1 88,Co 90 (.kA 32 1 89 87),jl 91 1 90,Cv 92 91,jT 93 92 (.km 5),jT 94 92 (.km 18),jT 95 92 (.km 10),jT 96 92 (.km 12),JT 97 92 (.ki 33 95 96),jT 98 92 (.kf 0 97),jT 99 92 (.kl 1 98),jT 100 92 (.km 14),JT 101 92 (.ki 2048 93 94),jT 102 92 (.kA 8 256 101 99),jT 103 92 (.kA 256 1 102 100),jT 104 92 (.kl 1 103),ja 105 92 104,jf 106 1 15,Co 107 (.kA 32 1 106 84),jS 1 107 105] (jQ [Cv 108 16,Cv 109 108,jF 110 109 (.km 18),jF 111 109 (.kf 1 15),jF 112 109 (.kA 32 1 111 110),jF 113 109 (.kl 1 112),jo 114 109 113,Cv 16 114] (.region [Cv 115 17,Cv 116 115,jF 117 116 (.km 18),jF 118 116 (.kf 1 15),jF 119 116 (.kA 32 1 118 117),jF 120 116 (.kl 1 119),jF 121 116 (.km 120),JT 122 121 (.kf 0 1),JT 123 121 (.kl 1 122),jT 124 121 (.km 18),JT 125 121 (.ki 2 123 124),jT 126 121 (.kf 0 125),jT 127 121 (.kl 1 126),JT 128 121 (.kn 0 127),jT 129 121 (.kf 0 15),jT 130 121 (.kl 1 129),jT 131 121 (.kB .eql 128 130),jF 132 116 (.ka 121 131),jo 133 116 132,Cv 17 133])))) (.region [Cv 82 18,jK 83 .add 82 1,Cv 18 83])))
def He:Ja:=(.seq (jQ [Cv 66 14,jK 67 .lss 66 256] (jX 67 6)) (.seq (.block 7 (jQ [Cv 70 10,Cv 71 12,ji 72 33 70 71,jf 73 0 72,jl 74 1 73,jK 75 .add 74 1,Co 76 (.build [(.int .i64 0),(.bool false),(.bool false),(.bool false),(.bool false),(.bool false),(.bool false),(.bool false),(.bool false),(.bool false),(.bool false),(.bool false),(.bool false),(.bool false),(.bool false),(.bool false),(.bool false),(.bool false),(.bool false),(.bool false),(.bool false),(.bool false),(.bool false),(.bool false),(.bool false),(.bool false),(.bool false),(.bool false),(.bool false),(.bool false),(.bool false),(.bool false),(.bool false)] [(0,1,(.t 75))]),Co 15 (.alloc [(.int .i64 0),(.bool false),(.bool false),(.bool false),(.bool false),(.bool false),(.bool false),(.bool false),(.bool false),(.bool false),(.bool false),(.bool false),(.bool false),(.bool false),(.bool false),(.bool false),(.bool false),(.bool false),(.bool false),(.bool false),(.bool false),(.bool false),(.bool false),(.bool false),(.bool false),(.bool false),(.bool false),(.bool false),(.bool false),(.bool false),(.bool false),(.bool false),(.bool false)]),jS 33 15 76] (jQ [jb 16 false,jb 17 false] (.seq (jQ [jk 18 0] (.block 8 (.loop [1,5,10,11,12,13,14,15,16,17,18] Gd))) (jQ [Cv 134 14,Co 135 (.kA 256 1 13 134),Ce (.store 1 (.t 135) (.c (.int .i64 (-2))))] (jQ [Cv 136 16,Cv 137 136,jT 138 137 (.km 17),ja 139 137 138] (jC 139 (.region [Cv 140 14,Co 141 (.kA 256 1 13 140),Ce (.store 1 (.t 141) (.c (.int .i64 (-1))))]) (jQ [Cv 142 16] (jC 142 (jQ [Cv 143 10,jL 144 33 15,jq 145 Yi 143 144,Cv 19 145] (.seq (jQ [Cv 146 19,jK 147 .lss 146 0] (jC 147 (.seq (jQ [Cv 148 10,jn 149 0 148,jK 150 .eql 149 64] (jC 150 (jr [jc 2 .ga,jc 3 .ga,jb 4 false]) .skip)) (jQ [Cv 151 10,jn 152 0 151,Cv 19 152] (.region [Cv 153 10,jL 154 33 15,Co 155 (.xb .lit 33 true 1 [(.int .i64 0),(.bool false),(.bool false),(.bool false),(.bool false),(.bool false),(.bool false),(.bool false),(.bool false),(.bool false),(.bool false),(.bool false),(.bool false),(.bool false),(.bool false),(.bool false),(.bool false),(.bool false),(.bool false),(.bool false),(.bool false),(.bool false),(.bool false),(.bool false),(.bool false),(.bool false),(.bool false),(.bool false),(.bool false),(.bool false),(.bool false),(.bool false),(.bool false)] [(0,(.t 154))]),Co 156 (.ku 33 true 40 153 155),Cv 10 156]))) .skip)) (.region [Cv 157 14,Cv 158 19,Co 159 (.kA 256 1 13 157),jS 1 159 158]))) .skip))))))))) (.region [Cv 68 14,jK 69 .add 68 1,Cv 14 69])))
def Fe:Ja:=(.seq (jQ [Cv 60 12,Cv 61 10,jn 62 0 61,jB 63 .lss 60 62] (jX 63 4)) (.seq (.block 5 (jQ [Co 13 (.alloc (List.replicate 256 (.int .i64 0)))] (.seq (jQ [jk 14 0] (.block 6 (.loop [1,5,10,11,12,13,14] He))) (.region [Cv 160 11,jL 161 256 13,Co 162 (.xb .lit 256 true 1 (List.replicate 256 (.int .i64 0)) [(0,(.t 161))]),Co 163 (.ku 256 true 2048 160 162),Cv 11 163])))) (.region [Cv 64 12,jK 65 .add 64 1,Cv 12 65])))
def ll:Ue:=⟨1,[.tmp 2,.tmp 3,.tmp 4],(jQ [jR 1 1 0,jc 2 .ga,jc 3 .ga,jb 4 false] (jQ [jc 5 .ga] (.ghost (.DA 5 2048) (jQ [Co 20 (.build [(.int .i64 0),(.bool false),(.bool false),(.bool false),(.bool false),(.bool false),(.bool false),(.bool false),(.bool false),(.bool false),(.bool false),(.bool false),(.bool false),(.bool false),(.bool false),(.bool false),(.bool false),(.bool false),(.bool false),(.bool false),(.bool false),(.bool false),(.bool false),(.bool false),(.bool false),(.bool false),(.bool false),(.bool false),(.bool false),(.bool false),(.bool false),(.bool false),(.bool false)] []),Co 6 (.alloc [(.int .i64 0),(.bool false),(.bool false),(.bool false),(.bool false),(.bool false),(.bool false),(.bool false),(.bool false),(.bool false),(.bool false),(.bool false),(.bool false),(.bool false),(.bool false),(.bool false),(.bool false),(.bool false),(.bool false),(.bool false),(.bool false),(.bool false),(.bool false),(.bool false),(.bool false),(.bool false),(.bool false),(.bool false),(.bool false),(.bool false),(.bool false),(.bool false),(.bool false)]),jS 33 6 20] (.seq (jQ [jk 7 0] (.block 0 (.loop [1,5,6,7] bg))) (jQ [jL 58 33 6,Co 59 (.xb .uq 33 true 1 [(.int .i64 0),(.bool false),(.bool false),(.bool false),(.bool false),(.bool false),(.bool false),(.bool false),(.bool false),(.bool false),(.bool false),(.bool false),(.bool false),(.bool false),(.bool false),(.bool false),(.bool false),(.bool false),(.bool false),(.bool false),(.bool false),(.bool false),(.bool false),(.bool false),(.bool false),(.bool false),(.bool false),(.bool false),(.bool false),(.bool false),(.bool false),(.bool false),(.bool false)] [(0,(.t 58))]),Cv 10 59] (jQ [jc 11 .ga] (.ghost (.DA 11 256) (.seq (jQ [jk 12 0] (.block 4 (.loop [1,5,10,11,12] Fe))) (jr [Cv 164 10,Cv 165 11,Cv 2 164,Cv 3 165,jb 4 true]))))))))))⟩
theorem ux:qc P fo 102 ll:=fM Go.Proofs.Tryz.func102 (dC Jj (dC Gx dN))
def Uf:=Pb (fun _=>none) ll
theorem Ux:Oa P 102 Uf:=Ka Ua ux
def Ef:Ja:=(.seq (jQ [Cv 14 5,Cv 15 3,jB 16 .lss 14 15] (jX 16 0)) (.seq (.block 1 (.region [Cv 19 4,Cv 20 3,Co 21 (.eh .own 1 false [(.bool false)] 1 (.t 20) (.t 20)),Co 22 (.xb .own 1 false 1 [.ga] [(0,(.t 21))]),Co 23 (.append true .own 1 false 24 (.t 19) (.t 22)),Cv 4 23])) (.region [Cv 17 5,jK 18 .add 17 1,Cv 5 18])))
def Xa:Ja:=(.seq (jQ [Cv 35 9,jK 36 .lss 35 256,Cv 37 36,jT 38 37 (.km 4),jT 39 37 (.km 7),jT 40 37 (.ki 1 38 39),jT 41 37 (.kl 1 40),jT 42 37 (.km 8),jT 43 37 (.ki 1 41 42),jT 44 37 (.kl 1 43),jT 45 37 (.kt 44),ja 46 37 45] (jX 46 8)) (.seq (.block 9 (jQ [Cv 49 0,Cv 50 7,Cv 51 9,ji 52 256 49 50,Co 53 (.kA 256 1 52 51),jl 54 1 53,Cv 55 0,Cv 56 8,Cv 57 9,ji 58 256 55 56,Co 59 (.kA 256 1 58 57),jl 60 1 59,Cv 10 54,Cv 11 60] (jQ [Cv 61 10,Cv 62 11,jB 63 .neq 61 62,Cv 64 63,jT 65 64 (.km 10),jT 66 64 (.kK .lss 65 0),jT 67 64 (.km 66),jF 68 67 (.km 11),jF 69 67 (.kK .lss 68 0),jT 70 64 (.ko 67 69),ja 71 64 70,Cv 72 71,jF 73 72 (.km 10),jF 74 72 (.kK .geq 73 0),jF 75 72 (.km 74),jT 76 75 (.km 11),jT 77 75 (.kK .geq 76 0),jF 78 72 (.ka 75 77),jF 79 72 (.km 78),jT 80 79 (.km 4),jT 81 79 (.km 10),jT 82 79 (.ki 1 80 81),jT 83 79 (.kl 1 82),jT 84 79 (.km 11),jT 85 79 (.ki 1 83 84),jT 86 79 (.kl 1 85),jF 87 72 (.ka 79 86),jo 88 72 87] (jC 88 (jQ [Cv 89 4,Cv 90 7,ji 91 1 89 90,jl 92 1 91,Cv 93 8,Cv 94 4,Cv 95 8,ji 96 1 94 95,jl 97 1 96,Cv 98 7,ji 99 1 92 93,Ce (.store 1 (.t 99) (.c (.bool true))),ji 100 1 97 98,Ce (.store 1 (.t 100) (.c (.bool true)))] (.region [jb 6 true])) .skip)))) (.region [Cv 47 9,jK 48 .add 47 1,Cv 9 48])))
def Bf:Ja:=(.seq (jQ [Cv 30 8,Cv 31 7,jB 32 .lss 30 31] (jX 32 6)) (.seq (.block 7 (jQ [jk 9 0] (.block 8 (.loop [0,3,4,6,7,8,9] Xa)))) (.region [Cv 33 8,jK 34 .add 33 1,Cv 8 34])))
def Ff:Ja:=(.seq (jQ [Cv 25 7,Cv 26 3,jB 27 .lss 25 26] (jX 27 4)) (.seq (.block 5 (jQ [jk 8 0] (.block 6 (.loop [0,3,4,6,7,8] Bf)))) (.region [Cv 28 7,jK 29 .add 28 1,Cv 7 29])))
def Gf:Ja:=(.seq (jQ [Cv 24 6] (jX 24 2)) (.block 3 (jQ [jb 6 false] (jQ [jk 7 0] (.block 4 (.loop [0,3,4,6,7] Ff))))))
def uk:Ue:=⟨1,[.tmp 2],(jQ [jc 2 .ga] (jQ [Cv 12 0,jn 13 0 12,Cv 3 13] (jQ [jc 4 .ga] (.ghost (.zJ 4 1 false) (.seq (jQ [jk 5 0] (.block 0 (.bp [0,3,4,5] Ef))) (.seq (jQ [jb 6 true] (.block 2 (.loop [0,3,4,6] Gf))) (jr [Cv 101 4,Cv 2 101])))))))⟩
theorem Ju:qc P fo 103 uk:=fM Go.Proofs.Tryz.func103 dN
def Og:=Pb (fun _=>none) uk
theorem Xv:Oa P 103 Og:=Ka Ua Ju
def Zc:Ja:=(.seq (jQ [Cv 65 16,Cv 66 10,jn 67 0 66,jB 68 .lss 65 67,Cv 69 68,jT 70 69 (.km 9),jT 71 69 (.km 10),jT 72 69 (.km 16),jT 73 69 (.ki 1 71 72),jT 74 69 (.kl 1 73),jT 75 69 (.ki 1 70 74),jT 76 69 (.kl 1 75),jT 77 69 (.km 15),jT 78 69 (.ki 1 76 77),jT 79 69 (.kl 1 78),ja 80 69 79] (jX 80 4)) (.block 5 (.region [Cv 81 16,jK 82 .add 81 1,Cv 16 82])))
def Cf:Ja:=(.seq (jQ [Cv 48 14,jK 49 .lss 48 256] (jX 49 2)) (.seq (.block 3 (jQ [Cv 52 7,Cv 53 10,Cv 54 12,ji 55 1 53 54,jl 56 1 55,Cv 57 14,ji 58 256 52 56,Co 59 (.kA 256 1 58 57),jl 60 1 59,Cv 15 60] (.seq (jQ [Cv 61 15,jK 62 .eql 61 (-2)] (jC 62 (.exit 3) .skip)) (.seq (jQ [Cv 63 15,jK 64 .geq 63 0] (jC 64 (jQ [jk 16 0] (.seq (.block 4 (.loop [2,7,9,10,11,12,13,14,15,16] Zc)) (.seq (jQ [Cv 83 16,Cv 84 10,jn 85 0 84,jB 86 .eql 83 85] (jC 86 (.region [Cv 87 10,Cv 88 15,Co 89 (.xb .lit 1 false 1 [(.int .i64 0)] [(0,(.t 88))]),Co 90 (.ku 1 false 8 87 89),Cv 10 90]) .skip)) (.region [Cv 91 16,Cv 15 91])))) .skip)) (jQ [Cv 92 13,jn 93 0 92,jK 94 .gtr 93 0,Cv 95 94,jT 96 95 (.km 13),jT 97 95 (.km 13),jT 98 95 (.kn 0 97),jT 99 95 (.kK .sub 98 1),jT 100 95 (.ki 3 96 99),jT 101 95 (.kf 2 100),jT 102 95 (.kl 1 101),jT 103 95 (.km 15),jT 104 95 (.kB .eql 102 103),ja 105 95 104,Cv 106 105,jT 107 106 (.km 13),jT 108 106 (.km 13),jT 109 106 (.kn 0 108),jT 110 106 (.kK .sub 109 1),jT 111 106 (.ki 3 107 110),jT 112 106 (.kf 1 111),jT 113 106 (.kl 1 112),jT 114 106 (.km 14),jT 115 106 (.kK .sub 114 1),jT 116 106 (.kB .eql 113 115),ja 117 106 116] (jC 117 (.region [Cv 118 13,Cv 119 13,jn 120 0 119,jK 121 .sub 120 1,Cv 122 14,ji 123 3 118 121,jf 124 1 123,jS 1 124 122]) (.region [Cv 125 13,Cv 126 14,Cv 127 14,Cv 128 15,Co 129 (.build [(.int .i64 0),(.int .i64 0),(.int .i64 0)] [(0,1,(.t 126)),(1,1,(.t 127)),(2,1,(.t 128))]),Co 130 (.xb .lit 3 true 1 [(.int .i64 0),(.int .i64 0),(.int .i64 0)] [(0,(.t 129))]),Co 131 (.append true .own 3 true 24 (.t 125) (.t 130)),Cv 13 131]))))))) (.region [Cv 50 14,jK 51 .add 50 1,Cv 14 51])))
def Yc:Ja:=(.seq (jQ [Cv 42 12,Cv 43 10,jn 44 0 43,jB 45 .lss 42 44] (jX 45 0)) (.seq (.block 1 (jQ [jc 13 .ga] (.ghost (.zJ 13 3 true) (.seq (jQ [jk 14 0] (.block 2 (.loop [2,7,9,10,11,12,13,14] Cf))) (.ghost (.freeze 13) (.region [jf 132 0 11,jl 133 1 132,Cv 134 13,Co 135 (.xb .lit 1 false 1 [.ga] [(0,(.t 134))]),Co 136 (.ku 1 false 24 133 135),jf 137 0 11,jS 1 137 136])))))) (.region [Cv 46 12,jK 47 .add 46 1,Cv 12 47])))
def yf:Ue:=⟨1,[.cell 2 true 1,.tmp 3],(jQ [jR 1 1 0,Co 2 (.alloc [.ga]),jk 3 0] (jQ [JL 18 1 1,jp 19 Wd 18,Cv 17 19,jx 20 0 17,jx 21 1 17,Cv 4 20,Cv 5 21] (.seq (jQ [Cv 22 5,jK 23 .neq 22 0] (jC 23 (jr [Co 24 (.build [.ga] []),Cv 25 5,jS 1 2 24,Cv 3 25]) .skip)) (.seq (jQ [Cv 26 4,jt 27 26] (jC 27 (jr [Co 28 (.build [.ga] []),jS 1 2 28,jk 3 110]) .skip)) (jQ [JL 30 1 1,jp 31 Uf 30,Cv 29 31,jx 32 0 29,jx 33 1 29,jx 34 2 29,Cv 6 32,Cv 7 33,Cv 8 34] (.seq (jQ [Cv 35 8,jt 36 35] (jC 36 (jr [Co 37 (.build [.ga] []),jS 1 2 37,jk 3 130]) .skip)) (jQ [Cv 38 7,jp 39 Og 38,Cv 9 39] (jQ [Co 40 (.xb .uq 1 false 1 [(.int .i64 0)] [(0,(.c (.int .i64 0)))]),Cv 10 40] (jQ [Co 41 (.build [.ga] []),Co 11 (.alloc [.ga]),jS 1 11 41] (.ghost (.Ay 11 0 1) (.seq (jQ [jk 12 0] (.block 0 (.loop [2,7,9,10,11,12] Yc))) (jr [jL 138 1 11,jS 1 2 138,jk 3 0]))))))))))))⟩
theorem Dv:qc P fo 71 yf:=fM Go.Proofs.Tryz.func71 (dC Ou (dC Ux (dC Xv dN)))
def Ya:=Pb (fun _=>none) yf
theorem Ow:Oa P 71 Ya:=Ka Ua Dv
def cu:Ue:=⟨1,[.tmp 2],(jQ [jR 1 2 0,jk 2 0] (.seq (jQ [JL 3 2 1,jp 4 Ij 3,jt 5 4] (jC 5 (jr [jk 2 0]) .skip)) (jr [JL 6 2 1,jp 7 Lm 6,Co 8 (.kj 1 7 0),jl 9 1 8,Cv 2 9])))⟩
theorem cG:qc P fo 65 cu:=fM Go.Proofs.Tryz.func65 (dC Mp (dC nA dN))
def Qp:=Pb (fun _=>none) cu
theorem xI:Oa P 65 Qp:=Ka Ua cG
def bJ:PV->Option (Int×Int)
 | .agg [.int .i64 a,.int .i64 b]=>some (a,b)
 |_=>none
def aH:PV->Option (List (Int×Int))
 | .ga=>some []
 | .lit 2 es=>Ra bJ es
 |_=>none
def dg(fr:Int)(p:Int×Int):List Int:=if p.2 < fr then [] else (List.range (p.2 - max p.1 fr+1).toNat).map fun (i:Nat)=>max p.1 fr+(i:Int)
def gL(p:Int×Int):Bool:=decide (-4611686018427387904<=p.1/\p.1<=p.2/\p.2<=4611686018427387904)
def fm:List PV->Option (List (List PV))
 | [.rp [l] 0,.rp [.int .i64 fr] 0]=>(aH l).bind fun ps=>if ps.all gL&&decide (-4611686018427387904<=fr/\fr<=4611686018427387904/\ps.length<=4611686018427387904) then some ((ps.flatMap (dg fr)).map fun x=>[.int .i64 x]) else none
 |_=>none
theorem wY{caps:List PV}{xs:List (List PV)}(h:fm caps=some xs):∃ l fr ps,caps=[.rp [l] 0,.rp [.int .i64 fr] 0]/\aH l=some ps/\(∀ p∈ps,-4611686018427387904<=p.1/\p.1<=p.2/\p.2<=4611686018427387904)/\(-4611686018427387904<=fr/\fr<=4611686018427387904/\ps.length<=4611686018427387904)/\xs=(ps.flatMap (dg fr)).map fun x=>[.int .i64 x]:=by
 unfold fm at h
 split at h
 ·rename_i l fr
  rw[uaa] at h;obtain⟨ps,h1,h2⟩:=h
  split at h2
  ·rename_i hc
   simp only[daa,decide_eq_true_eq,aab,gL] at hc;injection h2 with h2
   exact⟨l,fr,ps,rfl,h1,hc.1,hc.2,h2.symm⟩
  ·cases h2
 ·cases h
theorem pX{R:Rd}{l:PV}{ps:List (Int×Int)}{v:Value}(hp:aH l=some ps)(h:Ta R l v):∃ a cap,v= .slice a ps.length cap/\
 ∀ (R':Rd),(Ta R' l v)->∀ (k:Nat)(p:Int×Int),ps[k]? =some p->∃ b o,a=some ⟨b,o,none⟩/\R' b (o+k * 2)=some (.int .i64 p.1)/\R' b (o+k * 2+1)=some (.int .i64 p.2):=by
 unfold aH at hp
 split at hp
 ·injection hp with hp;subst hp
  cases h;exact⟨none,0,rfl,fun _ _ k p hk=>by simp at hk⟩
 ·rename_i es
  have hlen:es.length=ps.length:=by
   clear h
   induction es generalizing ps with
   |nil=>simp[Ra] at hp;subst hp;rfl
   |cons e es ih=>simp only[Ra,uaa,eaa] at hp;obtain⟨q,_,qs,h2,rfl⟩:=hp;simp[ih h2]
  have hget:∀ (k:Nat)(p:Int×Int),ps[k]? =some p->es[k]? =some (.agg [.int .i64 p.1,.int .i64 p.2]):=by
   clear h hlen
   induction es generalizing ps with
   |nil=>simp[Ra] at hp;subst hp;intro k p h;simp at h
   |cons e es ih=>
    simp only[Ra,uaa,eaa] at hp;obtain⟨q,h1,qs,h2,rfl⟩:=hp;intro k p h;cases k with
    |zero=>
     simp at h;subst h;unfold bJ at h1
     split at h1
     ·injection h1 with h1;subst h1;rfl
     ·cases h1
    |succ k=>simpa using ih h2 k p (by simpa using h)
  have cells:∀ (R':Rd)(b o:Nat),Rg R' (flat es) b o->∀ (k:Nat)(p:Int×Int),ps[k]? =some p->R' b (o+k * 2)=some (.int .i64 p.1)/\R' b (o+k * 2+1)=some (.int .i64 p.2):=by
   intro R' b o hr k p hk;have he:=hget k p hk;have hfl:∀ e∈es,e.cells.length=2:=by
    intro e hem;obtain⟨j,hj⟩:=Dac.1 hem
    have hlt:=getElem?_lt hj;obtain⟨q,hq⟩:∃ q,ps[j]? =some q:=⟨ps[j]'(by omega),caa _⟩;have:=hget j q hq;rw[hj] at this;injection this with this
    subst this;rfl
   have h0:=iM hfl he;have g0:(flat es)[k * 2]? =some (.int .i64 p.1):=by have:=congrArg (fun l=>l[0]?) h0;simpa[Rab,PV.cells] using this
   have g1:(flat es)[k * 2+1]? =some (.int .i64 p.2):=by have:=congrArg (fun l=>l[1]?) h0;simpa[Rab,PV.cells] using this
   obtain⟨v0,a1,a2⟩:=hr.get g0
   obtain⟨v1,b1,b2⟩:=hr.get g1
   cases a2;cases b2;exact⟨a1,b1⟩
  cases h with
  |lit _ _ b o cap h1 h2 h3=>
   refine⟨some ⟨b,o,none⟩,cap,by rw[hlen],fun R' hR' k p hk=>⟨b,o,rfl,?_⟩⟩;generalize hv:Value.slice (some (⟨b,o,none⟩:Addr)) es.length cap=v at hR'
   cases hR' with
   |lit _ _ b' o' saj _ _ h3'=>cases hv;exact cells R' b o h3' k p hk
   |IE _ a=>simp at hlen;have:=getElem?_lt hk;omega
  |IE _ a=>refine⟨some a,0,by rw[<- hlen];rfl,fun R' hR' k p hk=> ?_⟩;have:=getElem?_lt hk;simp at hlen;omega
 ·cases hp
theorem rS{R:Rd}{c:PV}{v:Value}(h:Ta R (.rp [c] 0) v):∃ b o u,v= .pointer (some ⟨b,o,none⟩)/\R b o=some u/\Ta R c u/\∀ R':Rd,Ta R' (.rp [c] 0) v->∃ u',R' b o=some u'/\Ta R' c u':=by
 cases h with
 |rp _ _ b o hr=>
  cases hr with
  |cons _ _ _ _ u h1 h2 h3 h4=>
   refine⟨b,o,u,rfl,h1,h3,fun R' h'=> ?_⟩;generalize hv:Value.pointer (some (⟨b,o+0,none⟩:Addr))=v at h'
   cases h' with
   |rp _ _ b' o' N8=>
    cases N8 with
    |cons _ _ _ _ u' k1 k2 k3 k4=>simp at hv;obtain⟨rfl,rfl⟩:=hv;exact⟨u',k1,k3⟩
end Go.AM.B1
namespace Go.Proofs
open Go.RowKit Go.Shelf
attribute [local go_sem] Oper.semAt_some
set_option maxRecDepth 100000 in
set_option maxHeartbeats 2000000 in
theorem TX:AM.Lq Tryz.prog 151 AM.B1.fm:=by
 refine⟨⟨_,_,Tryz.func151,rfl,by kernel_rfl⟩,fun caps vs xs hF hfl R l J Jx W hLR hsub hJ hJx hRd hY h0=> ?_⟩;obtain⟨lv,fr,ps,rfl,hps,hb,hfr,hxs⟩:=AM.B1.wY hF
 obtain⟨v1,v2,rfl,hv1,hv2⟩:∃ v1 v2,vs=[v1,v2]/\AM.Ta R (.rp [lv] 0) v1/\AM.Ta R (.rp [.int .i64 fr] 0) v2:=by cases hLR with | cons _ _ v1 _ h1 h2=>cases h2 with | cons _ _ v2 _ h3 h4=>cases h4;exact⟨v1,v2,rfl,h1,h3⟩
 have hv1':=hv1;have hv2':=hv2;obtain⟨b1,o1,sl,rfl,hR1,hsl,hbx1⟩:=AM.B1.rS hv1
 obtain⟨b2,o2,fv,rfl,hR2,hfv,hbx2⟩:=AM.B1.rS hv2
 cases hfv;obtain⟨a,cap,rfl,hels⟩:=AM.B1.pX hps hsl
 have hfrom:∀ i T A,J i T A->A.cell? ⟨b2,o2,none⟩=some (.int .i64 fr):=by intro i T A h;obtain⟨R',hs,hp⟩:=hRd i T A h;obtain⟨u,h1,h2⟩:=hbx2 R' (hp _ _ hv2');cases h2;exact hs _ _ _ h1
 have hread:∀ i T A,J i T A->∀ (k:Nat)(p:Int×Int),ps[k]? =some p->∃ b o,a=some ⟨b,o,none⟩/\A.cell? ⟨b,o+k * 2,none⟩=some (.int .i64 p.1)/\A.cell? ⟨b,o+k * 2+1,none⟩=some (.int .i64 p.2):=by intro i T A h k p hk;obtain⟨R',hs,hp⟩:=hRd i T A h;obtain⟨b,o,h1,h2,h3⟩:=hels R' (hp _ _ hsl) k p hk;exact⟨b,o,h1,hs _ _ _ h2,hs _ _ _ h3⟩
 have hlist:W.cell? ⟨b1,o1,none⟩=some (.slice a ps.length cap):=hsub _ _ _ hR1
 refine (callsIn_wide (n:=1)).1 (callsIn_of_wp Tryz.func151 rfl trivial ?_ rfl)
 simp only[Tryz.ntmps151,List.size_toArray,Raa,Dab,Nat.reduceAdd,Nat.reduceSub,Array.replicate_succ,Array.replicate_zero,List.push_toArray,List.append_toArray,cab,fab];refine wpIn_wide.2 (wp_scope_straight ((wpIn_wide (n:=1)).1 ?_))
 gi_wp2
 refine wpIn_label ?_
 gi_wp2
 gi_loopw [9] (fun iv wr=>∃ (k:Nat)(T:Nat->Prop),iv= .int .i64 (k:Int)/\k<=ps.length/\J ((ps.take k).flatMap (AM.B1.dg fr)).length T wr) (fun iv _=>ps.length - (intOf iv).toNat)
 case atStart=>exact⟨0,_,rfl,Iac _,h0⟩
 case round=>
  obtain⟨k,T,rfl,hk,hJk⟩:=hrel;obtain⟨w0,hw0⟩:∃ w0,w0=wr:=⟨_,rfl⟩;subst hw0;rcases Xaa k ps.length with hlt | hge
  ·have hpk:=caa hlt
   have hbd:=hb _ (saa hlt);have htake:ps.take (k+1)=ps.take k++[ps[k]]:=by rw[Fae,hpk];rfl
   obtain⟨b,o,rfl,hc1,hc2⟩:=hread _ T w0 hJk k _ hpk;generalize ps[k]=p at hc1 hc2 hbd htake hpk;obtain⟨lo,hi⟩:=p;dsimp only at hc1 hc2 hbd;have hlen:((ps.take (k+1)).flatMap (AM.B1.dg fr)).length=((ps.take k).flatMap (AM.B1.dg fr)).length+(AM.B1.dg fr (lo,hi)).length:=by rw[htake];simp
   have hi1:(k:Int) < (ps.length:Int):=by omega
   obtain⟨W2,hW2⟩:∃ W2,W2=w0.alloc (.cells #[.int .i64 lo,.int .i64 hi] 244):=⟨_,rfl⟩
   have hB2:Below w0.heap.size w0 W2:=by rw[hW2];exact (Below.refl _ w0).alloc (waa _) _
   have hJ2:J ((ps.take k).flatMap (AM.B1.dg fr)).length (fun q=>T q\/q=w0.heap.size) W2:=hJ _ T w0 W2 _ hJk hB2 fun q hq=>hq.imp id fun e=>by subst e;rw[hW2];simp
   have hcf:=hfrom _ _ W2 hJ2;have hx2:W2.heap[w0.heap.size]? =some (.cells #[.int .i64 lo,.int .i64 hi] 244):=by rw[hW2];show (w0.heap.push _)[w0.heap.size]? =_;simp
   rw[hW2] at hcf
   by_cases hfh:hi < fr
   ·have hm0:(AM.B1.dg fr (lo,hi)).length=0:=by simp[AM.B1.dg,hfh]
    gi_wp2
    rw[hm0,tae] at hlen;rw[hW2] at hJ2;exact⟨⟨k+1,_,by simp,by omega,by rw[hlen];exact hJ2⟩,by simp[intOf];omega⟩
   ·have hmem:AM.B1.dg fr (lo,hi)=(List.range (hi - max lo fr+1).toNat).map fun (i:Nat)=>max lo fr+(i:Int):=by simp[AM.B1.dg,hfh]
    have hmlen:(AM.B1.dg fr (lo,hi)).length=(hi - max lo fr+1).toNat:=by rw[hmem];simp
    have hget:∀ j:Nat,j < (hi - max lo fr+1).toNat->xs[((ps.take k).flatMap (AM.B1.dg fr)).length+j]? =some [.int .i64 (max lo fr+j)]:=by
     intro j hj;have hsp:ps=ps.take k++(lo,hi)::ps.drop (k+1):=by
      rw[caa hlt] at hpk;injection hpk with hpk
      rw[<- hpk,<-Waa hlt,jac]
     rw[hxs,Faa];have:(ps.flatMap (AM.B1.dg fr))[((ps.take k).flatMap (AM.B1.dg fr)).length+j]? =(AM.B1.dg fr (lo,hi))[j]? :=by
      conv=>lhs;arg 1;rw[hsp]
      rw[List.flatMap_append,rad,Paa (by omega),Eac,gaa (by rw[hmlen];exact hj)]
     rw[this,hmem,Faa,lad hj];rfl
    generalize hbase:((ps.take k).flatMap (AM.B1.dg fr)).length=base at *
    obtain⟨M,hM⟩:∃ M,max lo fr=M:=⟨_,rfl⟩;rw[hM] at hget hmlen
    gi_wp2
    gi_loopw [6] (fun xv wq=>∃ j:Nat,xv= .int .i64 (M+j)/\j<=(hi - M+1).toNat/\J (base+j) (fun q=>T q\/q=w0.heap.size) wq/\wq.heap[w0.heap.size]? =some (.cells #[.int .i64 lo,.int .i64 hi] 244)) (fun xv _=>(hi+1 - intOf xv).toNat)
    case atStart=>exact⟨0,by simp,Iac _,by rw[<- hW2];exact hJ2,by rw[<- hW2];exact hx2⟩
    case round=>
     obtain⟨j,rfl,hj,hJj,hbx⟩:=hrel;have hcell:wr.cell? ⟨w0.heap.size,1,none⟩=some (.int .i64 hi):=by simp[World.cell?,hbx]
     by_cases hxle:M+j<=hi
     ·have hj':j < (hi - M+1).toNat:=by omega
      obtain⟨fn,tmps,assign,body,hy,hR⟩:=hY (base+j) _ _ wr (hget j hj') hJj;dsimp only[AM.Ps,AM.dX] at hy
      gi_wp2
      refine hR.mono ?_
      rintro e W3 (⟨rfl,hJ3,hk3⟩ | ⟨rfl,hJx3⟩)
      ·gi_wp2
       exact⟨⟨j+1,congrArg _ (by omega),by omega,hJ3,by rw[hk3 _ (.inr rfl)];exact hbx⟩,by simp[intOf];omega⟩
      ·gi_wp2
       simp only[Exit.noGoto];exact⟨rfl,_,results_none rfl _ _ _,⟨_,rfl⟩,.inr hJx3⟩
     ·gi_wp2
      have hje:j=(hi - M+1).toNat:=by omega
      rw[hmlen,<-hje] at hlen;exact⟨⟨k+1,_,congrArg _ (by omega),by omega,by rw[hlen];exact hJj⟩,by simp[intOf];omega⟩
  ·obtain rfl:k=ps.length:=by omega
   gi_wp2
   simp only[Exit.noGoto];refine⟨rfl,_,results_none rfl _ _ _,⟨_,rfl⟩,.inl ⟨T,?_⟩⟩;rw[hxs,paa];rw[Fab] at hJk;exact hJk
open Go.Shelf Go.RowKit Go.Lib Go.Sort
shelf_lay_g SlLaysF0.n6 Slsf 6 at Tryz 67 as Tryz.qt
theorem uR(r:List Int):∃ a b c:Int,AM.encI 3 r=[.int .i64 a,.int .i64 b,.int .i64 c]/\AM.Zx 3 0 r=a:=by
 unfold AM.encI AM.Zx
 by_cases h:r.length=3
 ·match r,h with
  | [a,b,c],_=>exact⟨a,b,c,rfl,rfl⟩
 ·rw[taa h,taa h];exact⟨0,0,0,rfl,rfl⟩
set_option maxHeartbeats 1000000 in
theorem Q4(a b c d e f:Int)(W:World):Calls Tryz.prog 68 #[.agg #[.int .i64 a,.int .i64 b,.int .i64 c],.agg #[.int .i64 d,.int .i64 e,.int .i64 f]] W fun x w'=>x= .returned (.int .i64 (Lib.compareInt a d))/\∃ q os',w'=grow (W.drewN q) os':=by
 have nab:=fun W'=>AnyG.cmp_Compare_int Tryz.cmpInt a d W'
 change ∀ W',Calls Tryz.prog 69 _ _ _ at nab
 generalize Lib.compareInt a d=r at nab ⊢
 go_enter Tryz.func68,Tryz.ntmps68
 go_wp2_with (go_at_call 69;refine (nab _).mono ?_;rintro e w' ⟨rfl,rfl⟩)
 go_ret
 exact⟨rfl,0,_,by rw[alloc_eq_grow,alloc_eq_grow,grow_grow];rfl⟩
theorem K1:AM.KP Tryz.prog 67 68 3 0 where
 call:=⟨_,_,Tryz.func67,rfl,by kernel_rfl⟩
 many:=by
  intro blk ofs cap D w hH hb hs;refine AnyQ.slices_SortFunc_eq Tryz.qt 3 Tryz.isAgg131 Tryz.sizeOf131 (AM.encI 3) (fun x=>by obtain⟨a,b,c,h,_⟩:=uR x;rw[h];rfl) (fun x v hv=>by obtain⟨a,b,c,h,_⟩:=uR x;rw[h] at hv;simp at hv;rcases hv with rfl | rfl | rfl <;> rfl) (AM.T2 3 0) (AM.O3 3 0) 68 #[] blk ofs cap D w (enters_of Tryz.func68 (by kernel_rfl) rfl) (fun m os dk _ x y=> ?_) hH hb hs
  obtain⟨a,b,c,h1,h2⟩:=uR x;obtain⟨d,e,f,h3,h4⟩:=uR y;rw[h1,h3];unfold AM.T2
  rw[h2,h4];exact Q4 a b c d e f _
 none:=fun p cap w=>AnyF.slices_SortFunc_none Tryz.qt p cap _ w
end Go.Proofs
