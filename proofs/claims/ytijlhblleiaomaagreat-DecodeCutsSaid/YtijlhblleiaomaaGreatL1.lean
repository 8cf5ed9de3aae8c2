/- What functions of the program compute. -/
import Derived.Test.YtijlhblleiaomaaGreatK3
import Derived.Test.YtijlhblleiaomaaGreatProg
import Derived.Shelf.SlicesG.Cmp
import Derived.Shelf.Lay
import Derived.Ground.SlsfProg
import Derived.Ground.SlgcProg
import Derived.RangeFuncNested
import Derived.RangeFuncBound
import Derived.RangeFuncCalls
import Derived.RangeFuncLeaves
import Derived.Shelf.Abstract
import Derived.Shelf.RegionOpen
import Derived.WalkKit
import Derived.OwnWalkIn
import Derived.TacticsInMore
import Derived.LoopNIn
import Derived.LoopIn
set_option linter.unusedVariables false
set_option linter.unusedSimpArgs false
namespace Go.AM.B1
open Go.AM
noncomputable abbrev P:Program:=Go.Proofs.Tryz.prog
def fo:Nat->FuncId
 |0=>145
 |1=>112
 |2=>144
 |3=>110
 |4=>118
 |5=>107
 |6=>77
 |7=>78
 |8=>163
 |9=>172
 |22=>146
 |23=>147
 |24=>113
 |25=>94
 |26=>119
 |27=>120
 |28=>91
 |29=>92
 |30=>93
 |34=>67
 |35=>151
 |36=>68
 |37=>95
 |38=>124
 |39=>97
 |74=>19
 |80=>54
 |81=>87
 |82=>89
 |83=>88
 |84=>57
 |85=>59
 |86=>31
 |87=>33
 |88=>37
 |89=>58
 |90=>56
 |91=>55
 |92=>36
 |93=>34
 |94=>40
 |95=>39
 |96=>41
 |97=>42
 |98=>20
 |99=>49
 |127=>23
 |128=>24
 |132=>96
 |138=>64
 |139=>45
 |140=>70
 |_=>0
theorem Rc:Vo P fo (fun _=>none):=fun ix af h=>by cases h
def xD:Ya:=(jQ [jB 12 .lss 11 10] (.seq (jX 12 0) (.seq (.block 1 (jQ [ji 13 2 9 11,jL 14 2 13,Co 5 (.alloc [(.int .i64 0),(.int .i64 0)]),jS 2 5 14] (.region [Cv 15 3,jL 16 2 5,Co 17 (.Fc .lit 2 true 1 [(.int .i64 0),(.int .i64 0)] [(0,(.t 16))]),Co 18 (.ku 2 true 16 15 17),Cv 3 18]))) (.region [jK 19 .add 11 1,Cv 11 19]))))
def rQ:Xa:=⟨1,[.tmp 2],(jQ [jc 2 .oa] (jQ [Cv 6 0,jn 7 0 6,Co 8 (.oj .uq 2 true [(.int .i64 0),(.int .i64 0)] 16 (.c (.int .i64 0)) (.t 7)),Cv 3 8] (.seq (jQ [Cv 9 0,jn 10 0 9,jk 11 0] (.block 0 (.loop [3,9,10,11] xD))) (jr [Cv 20 3,Cv 2 20]))))⟩
theorem fag:Hb P fo 142 rQ:=fM Go.Proofs.Tryz.func142 dN
def cx:=oc (fun _=>none) rQ
theorem T5:Nb P 142 cx:=Jc Rc fag
def Nq:Ya:=(jQ [jB 11 .lss 10 9] (.seq (jX 11 0) (.seq (.block 1 (jQ [ji 12 2 8 10,jL 13 2 12,Co 7 (.alloc [(.int .i64 0),(.int .i64 0)]),jS 2 7 13] (.seq (jQ [jf 14 0 7,jl 15 1 14,jK 16 .lss 15 0,Cv 17 16,jF 18 17 (.kf 0 7),jF 19 17 (.kl 1 18),jF 20 17 (.kf 1 7),jF 21 17 (.kl 1 20),jF 22 17 (.kB .gtr 19 21),jo 23 17 22,Cv 24 23,jF 25 24 (.kf 1 7),jF 26 24 (.kl 1 25),jF 27 24 (.km 1),jF 28 24 (.kB .gtr 26 27),jo 29 24 28,Cv 30 29,jF 31 30 (.kf 0 7),jF 32 30 (.kl 1 31),jF 33 30 (.kK .sub 32 1),jF 34 30 (.km 5),jF 35 30 (.kB .leq 33 34),jo 36 30 35] (jC 36 (jr [jb 4 false]) .skip)) (.region [jf 37 1 7,jl 38 1 37,Cv 5 38])))) (.region [jK 39 .add 10 1,Cv 10 39]))))
def rL:Xa:=⟨2,[.tmp 4],(jQ [jb 4 false] (jQ [jk 5 (-2)] (.seq (jQ [Cv 8 0,jn 9 0 8,jk 10 0] (.block 0 (.loop [1,5,8,9,10] Nq))) (jr [jb 4 true]))))⟩
theorem gag:Hb P fo 141 rL:=fM Go.Proofs.Tryz.func141 dN
def fx:=oc (fun _=>none) rL
theorem VN:Nb P 141 fx:=Jc Rc gag
def zQ:Xa:=⟨1,[.tmp 2],(jQ [jb 2 false] (jr [Cv 3 0,jp 4 cx 3,Co 5 (.Sl fx [(.t 4),(.c (.int .i64 255))]),Cv 2 5]))⟩
theorem wag:Hb P fo 108 zQ:=fM Go.Proofs.Tryz.func108 (dC T5 (dC VN dN))
def rK:=oc (fun _=>none) zQ
theorem Van:Nb P 108 rK:=Jc Rc wag
def ZG:Xa:=⟨1,[.tmp 2],(jQ [jc 2 .oa] (jQ [Cv 4 0,jp 5 cx 4,Cv 3 5] (.seq (jQ [Cv 6 3,Co 7 (.Sl fx [(.t 6),(.c (.int .i64 255))]),jt 8 7] (jC 8 (jr [jc 2 .oa]) .skip)) (jr [Cv 9 3,Cv 2 9]))))⟩
theorem yag:Hb P fo 116 ZG:=fM Go.Proofs.Tryz.func116 (dC T5 (dC VN dN))
def Sr:=oc (fun _=>none) ZG
theorem bJ:Nb P 116 Sr:=Jc Rc yag
def QG:Ya:=(jQ [jB 9 .lss 8 7] (.seq (jX 9 0) (.seq (.block 1 (jQ [ji 10 2 6 8,jL 11 2 10,Co 5 (.alloc [(.int .i64 0),(.int .i64 0)]),jS 2 5 11] (.region [Cv 12 3,jf 13 1 5,jl 14 1 13,jf 15 0 5,jl 16 1 15,jB 17 .sub 14 16,jK 18 .add 17 1,jB 19 .add 12 18,Cv 3 19]))) (.region [jK 20 .add 8 1,Cv 8 20]))))
def qQ:Xa:=⟨1,[.tmp 2],(jQ [jk 2 0] (jQ [jk 3 0] (.seq (jQ [Cv 6 0,jn 7 0 6,jk 8 0] (.block 0 (.loop [3,6,7,8] QG))) (jr [Cv 21 3,Cv 2 21]))))⟩
theorem Zaf:Hb P fo 143 qQ:=fM Go.Proofs.Tryz.func143 dN
def oK:=oc (fun _=>none) qQ
theorem Lan:Nb P 143 oK:=Jc Rc Zaf
def yQ:Xa:=⟨1,[.tmp 2],(jQ [jk 2 0] (jr [Cv 3 0,jp 4 Sr 3,jp 5 oK 4,Cv 2 5]))⟩
theorem vag:Hb P fo 109 yQ:=fM Go.Proofs.Tryz.func109 (dC bJ (dC Lan dN))
def YF:=oc (fun _=>none) yQ
theorem W5:Nb P 109 YF:=Jc Rc vag
def Xaa:Ya:=(jQ [jB 12 .lss 11 10] (.seq (jX 12 0) (.seq (.block 1 (jQ [ji 13 2 9 11,jL 14 2 13,Co 5 (.alloc [(.int .i64 0),(.int .i64 0)]),jS 2 5 14] (.region [Cv 15 3,jL 16 2 5,Co 17 (.Fc .lit 2 true 1 [(.int .i64 0),(.int .i64 0)] [(0,(.t 16))]),Co 18 (.ku 2 true 16 15 17),Cv 3 18]))) (.region [jK 19 .add 11 1,Cv 11 19]))))
def eW:Xa:=⟨1,[.tmp 2],(jQ [jc 2 .oa] (jQ [Cv 6 0,jn 7 0 6,Co 8 (.oj .uq 2 true [(.int .i64 0),(.int .i64 0)] 16 (.c (.int .i64 0)) (.t 7)),Cv 3 8] (.seq (jQ [Cv 9 0,jn 10 0 9,jk 11 0] (.block 0 (.loop [3,9,10,11] Xaa))) (jr [Cv 20 3,Cv 2 20]))))⟩
theorem dag:Hb P fo 145 eW:=fM Go.Proofs.Tryz.func145 dN
def sP:=oc (fun _=>none) eW
theorem Oan:Nb P 145 sP:=Jc Rc dag
def Dv:Ya:=(.seq (jQ [Cv 8 0,jn 9 0 8,jK 10 .gtr 9 0,Cv 11 10,jT 12 11 (.km 1),jT 13 11 (.kn 0 12),jT 14 11 (.kK .gtr 13 0),ja 15 11 14] (jX 15 0)) (.block 1 (jQ [Cv 16 0,Cp 17 (.kj 2 16 0),jf 18 0 17,jl 19 1 18,Cv 20 1,Cp 21 (.kj 2 20 0),jf 22 0 21,jl 23 1 22,Co 24 (.mx [(.t 19),(.t 23)]),Cv 25 0,Cp 26 (.kj 2 25 0),jf 27 1 26,jl 28 1 27,Cv 29 1,Cp 30 (.kj 2 29 0),jf 31 1 30,jl 32 1 31,Co 33 (.mn [(.t 28),(.t 32)]),Cv 6 24,Cv 7 33] (.seq (jQ [Cv 34 6,Cv 35 7,jB 36 .leq 34 35] (jC 36 (.region [Cv 37 5,Cv 38 6,Cv 39 7,Co 40 (.build [(.int .i64 0),(.int .i64 0)] [(0,1,(.t 38)),(1,1,(.t 39))]),Co 41 (.Fc .lit 2 true 1 [(.int .i64 0),(.int .i64 0)] [(0,(.t 40))]),Co 42 (.ku 2 true 16 37 41),Cv 5 42]) .skip)) (jQ [Cv 43 0,Cp 44 (.kj 2 43 0),jf 45 1 44,jl 46 1 45,Cv 47 1,Cp 48 (.kj 2 47 0),jf 49 1 48,jl 50 1 49,jB 51 .lss 46 50] (jC 51 (.region [Cv 52 0,Co 53 (.slice 2 (.t 52) (some (.c (.int .i64 1))) none),Cv 0 53]) (.region [Cv 54 1,Co 55 (.slice 2 (.t 54) (some (.c (.int .i64 1))) none),Cv 1 55])))))))
def pL:Xa:=⟨2,[.tmp 4],(jQ [jc 4 .oa] (jQ [jc 5 .oa] (.ghost (.Ln 5 2) (.seq (.block 0 (.loop [0,1,5] Dv)) (jr [Cv 56 5,Cv 4 56])))))⟩
theorem Waf:Hb P fo 111 pL:=fM Go.Proofs.Tryz.func111 dN
def KC:=oc (fun _=>none) pL
theorem S5:Nb P 111 KC:=Jc Rc Waf
def Vaa:Ya:=(jQ [jB 12 .lss 11 10] (.seq (jX 12 0) (.seq (.block 1 (jQ [ji 13 2 9 11,jL 14 2 13,Co 5 (.alloc [(.int .i64 0),(.int .i64 0)]),jS 2 5 14] (.region [Cv 15 3,jL 16 2 5,Co 17 (.Fc .lit 2 true 1 [(.int .i64 0),(.int .i64 0)] [(0,(.t 16))]),Co 18 (.ku 2 true 16 15 17),Cv 3 18]))) (.region [jK 19 .add 11 1,Cv 11 19]))))
def cW:Xa:=⟨1,[.tmp 2],(jQ [jc 2 .oa] (jQ [Cv 6 0,jn 7 0 6,Co 8 (.oj .uq 2 true [(.int .i64 0),(.int .i64 0)] 16 (.c (.int .i64 0)) (.t 7)),Cv 3 8] (.seq (jQ [Cv 9 0,jn 10 0 9,jk 11 0] (.block 0 (.loop [3,9,10,11] Vaa))) (jr [Cv 20 3,Cv 2 20]))))⟩
theorem aag:Hb P fo 144 cW:=fM Go.Proofs.Tryz.func144 dN
def qP:=oc (fun _=>none) cW
theorem Man:Nb P 144 qP:=Jc Rc aag
def Waa:Ya:=(jQ [jB 12 .lss 11 10] (.seq (jX 12 0) (.seq (.block 1 (jQ [ji 13 2 9 11,jL 14 2 13,Co 5 (.alloc [(.int .i64 0),(.int .i64 0)]),jS 2 5 14] (.region [Cv 15 3,jL 16 2 5,Co 17 (.Fc .lit 2 true 1 [(.int .i64 0),(.int .i64 0)] [(0,(.t 16))]),Co 18 (.ku 2 true 16 15 17),Cv 3 18]))) (.region [jK 19 .add 11 1,Cv 11 19]))))
def dW:Xa:=⟨1,[.tmp 2],(jQ [jc 2 .oa] (jQ [Cv 6 0,jn 7 0 6,Co 8 (.oj .uq 2 true [(.int .i64 0),(.int .i64 0)] 16 (.c (.int .i64 0)) (.t 7)),Cv 3 8] (.seq (jQ [Cv 9 0,jn 10 0 9,jk 11 0] (.block 0 (.loop [3,9,10,11] Waa))) (jr [Cv 20 3,Cv 2 20]))))⟩
theorem cag:Hb P fo 171 dW:=fM Go.Proofs.Tryz.func171 dN
def rP:=oc (fun _=>none) dW
theorem Nan:Nb P 171 rP:=Jc Rc cag
def AQ:Xa:=⟨1,[.tmp 2],(jQ [jc 2 .oa] (jr [Cv 3 0,jp 4 rP 3,Cv 2 4]))⟩
theorem xag:Hb P fo 160 AQ:=fM Go.Proofs.Tryz.func160 (dC Nan dN)
def sK:=oc (fun _=>none) AQ
theorem Wan:Nb P 160 sK:=Jc Rc xag
def wQ:Xa:=⟨2,[.tmp 4],(jQ [jc 4 .oa] (jr [Cv 5 0,jp 6 Sr 5,Cv 7 1,jp 8 Sr 7,jq 9 KC 6 8,jp 10 sK 9,Cv 4 10]))⟩
theorem sag:Hb P fo 150 wQ:=fM Go.Proofs.Tryz.func150 (dC bJ (dC bJ (dC S5 (dC Wan dN))))
def qK:=oc (fun _=>none) wQ
theorem Uan:Nb P 150 qK:=Jc Rc sag
def Es:Ya:=(jQ [jB 12 .lss 11 10] (.seq (jX 12 0) (.seq (.block 1 (jQ [ji 13 2 9 11,jL 14 2 13,Co 8 (.alloc [(.int .i64 0),(.int .i64 0)]),jS 2 8 14] (.seq (jQ [Cv 15 1,jf 16 0 8,jl 17 1 16,jB 18 .lss 15 17] (jC 18 (.exit 0) .skip)) (.seq (jQ [Cv 19 1,jf 20 1 8,jl 21 1 20,jB 22 .leq 19 21] (jC 22 (jr [Cv 23 6,Cv 24 1,jB 25 .add 23 24,jf 26 0 8,jl 27 1 26,jB 28 .sub 25 27,Cv 4 28,jb 5 true]) .skip)) (.region [Cv 29 6,jf 30 1 8,jl 31 1 30,jf 32 0 8,jl 33 1 32,jB 34 .sub 31 33,jK 35 .add 34 1,jB 36 .add 29 35,Cv 6 36]))))) (.region [jK 37 .add 11 1,Cv 11 37]))))
def qL:Xa:=⟨2,[.tmp 4,.tmp 5],(jQ [jk 4 0,jb 5 false] (jQ [jk 6 0] (.seq (jQ [Cv 9 0,jn 10 0 9,jk 11 0] (.block 0 (.loop [1,6,9,10,11] Es))) (jr [jk 4 0,jb 5 false]))))⟩
theorem Yaf:Hb P fo 115 qL:=fM Go.Proofs.Tryz.func115 dN
def TF:=oc (fun _=>none) qL
theorem Kan:Nb P 115 TF:=Jc Rc Yaf
def xQ:Xa:=⟨2,[.tmp 4,.tmp 5],(jQ [jk 4 0,jb 5 false] (jr [Cv 6 0,jp 7 Sr 6,Cv 8 1,jq 9 TF 7 8,jx 10 0 9,jx 11 1 9,Cv 4 10,Cv 5 11]))⟩
theorem uag:Hb P fo 85 xQ:=fM Go.Proofs.Tryz.func85 (dC bJ (dC Kan dN))
def XF:=oc (fun _=>none) xQ
theorem V5:Nb P 85 XF:=Jc Rc uag
def vQ:Xa:=⟨2,[.tmp 4],(jQ [jb 4 false] (jQ [Cv 8 0,Cv 9 1,jq 10 XF 8 9,Cv 7 10,jx 11 0 7,jx 12 1 7,Cv 5 11,Cv 6 12] (jr [Cv 13 6,Cv 4 13])))⟩
theorem rag:Hb P fo 149 vQ:=fM Go.Proofs.Tryz.func149 (dC V5 dN)
def tP:=oc (fun _=>none) vQ
theorem Tan:Nb P 149 tP:=Jc Rc rag
def fD:Xa:=⟨3,[.tmp 5],(jQ [jb 5 false] (jr [jf 6 0 2,jl 7 1 6,Cv 8 0,Ji 9 2 7 8,jf 10 0 9,jl 11 1 10,Cp 12 (.kn 0 11),jf 13 0 2,jl 14 1 13,Cv 15 1,Ji 16 2 14 15,jf 17 0 16,jl 18 1 17,Cp 19 (.kn 0 18),jB 20 .lss 12 19,Cv 5 20]))⟩
theorem baf:Hb P fo 118 fD:=fM Go.Proofs.Tryz.func118 dN
def BD:Ya:=(jQ [jB 9 .lss 8 7] (.seq (jX 9 0) (.seq (.block 1 (jQ [Cv 10 8,Cv 5 10] (jQ [Cv 11 1,Cv 12 0,Cv 13 5,ji 14 1 12 13,jl 15 1 14,Co 16 (.Lx (.t 11) [(.t 15)])] (jC 16 (jr [Cv 17 5,Cv 4 17]) .skip)))) (.region [jK 18 .add 8 1,Cv 8 18]))))
def YG:Xa:=⟨2,[.tmp 4],(jQ [jk 4 0] (.seq (jQ [Cv 6 0,jn 7 0 6,jk 8 0] (.block 0 (.loop [0,1,7,8] BD))) (jr [jk 4 (-1)])))⟩
theorem pag:Hb P fo 107 YG:=fM Go.Proofs.Tryz.func107 dN
def AD:Xa:=⟨2,[.tmp 4],(jQ [jb 4 false] (jr [Cv 5 0,Cv 6 1,Co 7 (.zf 5 [(.t 5),(.t 6)]),jK 8 .geq 7 0,Cv 4 8]))⟩
theorem oag:Hb P fo 77 AD:=fM Go.Proofs.Tryz.func77 dN
def wD:Xa:=⟨1,[.tmp 2],(jQ [jb 2 false] (jr [Cv 3 0,jn 4 0 3,jK 5 .eql 4 0,Cv 6 5,jF 7 6 (.km 0),jF 8 6 (.kp rK 7),jF 9 6 (.kt 8),jo 10 6 9,Cv 2 10]))⟩
theorem Uaf:Hb P fo 78 wD:=fM Go.Proofs.Tryz.func78 (dC Van dN)
def vD:Ya:=(jQ [jB 10 .lss 9 8] (.seq (jX 10 0) (.seq (.block 1 (jQ [ji 11 1 7 9,jl 12 1 11,Cv 5 12] (.region [Cv 13 3,Cv 14 5,jp 15 YF 14,jB 16 .mul 13 15,Co 17 (.mn [(.t 16),(.c (.int .i64 1073741825))]),Cv 3 17]))) (.region [jK 18 .add 9 1,Cv 9 18]))))
def pQ:Xa:=⟨1,[.tmp 2],(jQ [jR 1 2 0,jk 2 0] (jQ [jk 3 1] (.seq (jQ [Jf 6 0 1,Jl 7 1 6,jn 8 0 7,jk 9 0] (.block 0 (.loop [1,3,7,8,9] vD))) (jr [Jf 19 1 1,Jl 20 1 19,Cv 21 3,jB 22 .add 20 21,jK 23 .sub 22 1,Cv 2 23]))))⟩
theorem Taf:Hb P fo 79 pQ:=fM Go.Proofs.Tryz.func79 (dC W5 dN)
def nK:=oc (fun _=>none) pQ
theorem Jan:Nb P 79 nK:=Jc Rc Taf
def oQ:Xa:=⟨1,[.tmp 2],(jQ [jc 2 .oa] (jQ [Cv 4 0,jp 5 sP 4,Cv 3 5] (.seq (jQ [Cv 6 3,Co 7 (.Sl fx [(.t 6),(.c (.int .i64 1073741823))]),jt 8 7] (jC 8 (jr [jc 2 .oa]) .skip)) (jr [Cv 9 3,Cv 2 9]))))⟩
theorem Paf:Hb P fo 112 oQ:=fM Go.Proofs.Tryz.func112 (dC Oan (dC VN dN))
def SF:=oc (fun _=>none) oQ
theorem P5:Nb P 112 SF:=Jc Rc Paf
def nQ:Xa:=⟨1,[.tmp 2],(jQ [jc 2 .oa] (jr [Cv 3 0,jp 4 qP 3,Cv 2 4]))⟩
theorem Naf:Hb P fo 110 nQ:=fM Go.Proofs.Tryz.func110 (dC Man dN)
def mK:=oc (fun _=>none) nQ
theorem Ian:Nb P 110 mK:=Jc Rc Naf
def kQ:Xa:=⟨2,[.tmp 4],(jQ [jc 4 .oa] (jr [Cv 5 0,jp 6 SF 5,Cv 7 1,jp 8 SF 7,jq 9 KC 6 8,jp 10 mK 9,Cv 4 10]))⟩
theorem Laf:Hb P fo 80 kQ:=fM Go.Proofs.Tryz.func80 (dC P5 (dC P5 (dC S5 (dC Ian dN))))
def iK:=oc (fun _=>none) kQ
theorem Gan:Nb P 80 iK:=Jc Rc Laf
def Pb(sz:Nat)(v:PV)(es:List PV):Prop:=(v= .oa/\es=[])\/v= .lit sz es
theorem Pb.len{sz:Nat}{v:PV}{es:List PV}(h:Pb sz v es)(H:List fa):mb H 0 (.pv v)=some es.length:=by
 rcases h with⟨rfl,rfl⟩ | rfl <;> rfl
theorem Pb.lit{sz:Nat}{v:PV}{es:List PV}(h:Pb sz v es){i:Nat}(hi:i < es.length):v= .lit sz es:=by
 rcases h with⟨rfl,rfl⟩ | rfl
 ·simp at hi
 ·rfl
abbrev aa(n:Int):PV:= .int .i64 n
abbrev pr(p:Int×Int):PV:= .agg [aa p.1,aa p.2]
abbrev Pa(l:List (Int×Int)):List PV:=l.map pr
theorem Ef:deep=5+1:=rfl
theorem jj{a b:Int}(h:a≠b):(a==b)=false:=by simp[h]
theorem Qa{p:Prop}[Decidable p](h:p):decide p=true:=by simp[h]
theorem Ra{p:Prop}[Decidable p](h:¬p):decide p=false:=by simp[h]
theorem Hw{l:List (Int×Int)}{i:Nat}(hi:i < l.length):(Pa l)[i]? =some (pr l[i]):=by simp[Pa,hi]
theorem ee{i n:Nat}(hi:i < n)(hw:n<=maxLen):IntKind.i64.wrap ((i:Int)+1)=((i+1:Nat):Int):=Gb (by unfold maxLen at hw;omega)
inductive mO(k:Nat)(v:AV):Option (Ex×St)->Prop
 |mk (s:St):s.env.get k=v->mO k v (some (.ret,s))
theorem pO{k:Nat}{v:AV}{s:St}:mO k v (some (.ret,s))=(s.env.get k=v):=
 propext ⟨fun h=>by cases h with | mk _ h=>exact h,fun h=> .mk s h⟩
theorem aap{k:Nat}{v:AV}{r:Option (Ex×St)}(h:mO k v r):∃ t,r=some (.ret,t)/\t.env.get k=v:=by
 cases h with | mk s h=>exact⟨s,rfl,h⟩
inductive oM(k:Nat):Option (Ex×St)->Prop
 |mk (e:Tr) (H:List fa):oM k (some (.exit k,⟨e,H⟩))
theorem sae{k i:Nat}{e:Tr}{H:List fa}:oM k (some (.exit i,⟨e,H⟩))=(i=k):=
 propext ⟨fun h=>by cases h;rfl,fun h=>by subst h;exact .mk e H⟩
theorem tae{k:Nat}{r:Option (Ex×St)}(h:oM k r):∃ e H,r=some (.exit k,⟨e,H⟩):=by
 cases h with | mk e H=>exact⟨e,H,rfl⟩
inductive nO(k:Nat)(v:AV)(j:Nat)(u:AV):Option (Ex×St)->Prop
 |mk (s:St):s.env.get k=v->s.env.get j=u->nO k v j u (some (.ret,s))
theorem Yao{k j:Nat}{v u:AV}{s:St}:nO k v j u (some (.ret,s))=(s.env.get k=v/\s.env.get j=u):=
 propext ⟨fun h=>by cases h with | mk _ h h'=>exact⟨h,h'⟩,fun h=> .mk s h.1 h.2⟩
theorem Zao{k j:Nat}{v u:AV}{r:Option (Ex×St)}(h:nO k v j u r):∃ t,r=some (.ret,t)/\t.env.get k=v/\t.env.get j=u:=by
 cases h with | mk s h h'=>exact⟨s,rfl,h,h'⟩
section To
variable (v:PV)(l:List (Int×Int))(hv:Pb 2 v (Pa l))(hw:l.length * 16<=140737488355328)
abbrev Rv(v:PV)(len i:Int)(o:AV):Tr:=((((Tr.lf.set 11 (.pv (aa i))).set 10 (.pv (aa len))).set 9 (.pv v)).set 3 o)
include hv hw
theorem Dar(i:Nat)(hi:i < l.length):
 Be (La (fun _=>none) 8) [3,9,10,11] xD 1 ⟨Rv v l.length i (.uq 0 false 2 (Pa (l.take i))),[.tok 2 i false]⟩=
  some (.norm,⟨Rv v l.length (i+1:Nat) (.uq 0 false 2 (Pa (l.take (i+1)))),[.tok 2 (i+1) false]⟩):=by
 have hv:=hv.lit (i:=i) (by simpa using hi)
 subst hv;have e1:decide ((i:Int) < (l.length:Int))=true:=Qa (by omega);have hq:Ta (i:Int) (Pa l).length:=by unfold Ta;simp;omega
 have t1:((i:Int)).toNat=i:=by simp
 have t2:=ee hi (by unfold maxLen;omega);have lt:(Pa (l.take i)).length=i:=by simp;omega
 have q1:Ac (i+1) 16:=by unfold Ac;omega
 have hs:Pa (l.take (i+1))=Pa (l.take i)++[pr l[i]]:=by rw[List.take_succ_eq_append_getElem hi];simp only[Pa,xm,Pf,gv]
 rw[hs];have hg:=Hw hi;generalize Pa (l.take i)=T at *;subst lt;generalize Pa l=es at *;simp -implicitDefEqProofs only[SP,SA,SQ,sevalprocAttr,Be,Aa,xD,e1,Sa hq,t1,t2,hg,Sa q1,Ua,mh,AV.Mi,AV.xi,ta,Za,Fa,bc,AV.cut,Ef,Rv]
theorem EF:cx [v]=some (.lit 2 (Pa l)):=by
 have ls:=hv.len
 simp only[Pa,wb] at ls;have hl:Mb (Aa (ua (La (fun _=>none) 8) xD) (ta 1 [3,9,10,11])) Ga ⟨Rv v l.length 0 (.uq 0 false 2 []),[.tok 2 0 false]⟩=
  some (.exit 0,⟨(Rv v l.length l.length (.uq 0 false 2 (Pa l))).set 12 (.pv (.bool false)),[.tok 2 l.length false]⟩):=by
  have key:=vt (g:=Be (La (fun _=>none) 8) [3,9,10,11] xD 1)
   (fun i t=>t=⟨Rv v l.length i (.uq 0 false 2 (Pa (l.take i))),[.tok 2 i false]⟩)
   (fun ex t=>ex= .exit 0/\t=⟨(Rv v l.length l.length (.uq 0 false 2 (Pa l))).set 12 (.pv (.bool false)),[.tok 2 l.length false]⟩)
   Ga l.length 0 _ (by unfold Ga;omega) (by omega) rfl ?_ ?_
  ·obtain⟨ex,t,h,_,rfl,rfl⟩:=key;exact h
  ·rintro i hi t rfl
   exact .inl ⟨_,Dar v l hv hw i hi,rfl⟩
  ·rintro t rfl
   refine⟨.exit 0,_,?_,rfl,rfl,rfl⟩;have e1:decide ((l.length:Int) < (l.length:Int))=false:=Ra (by omega);rw[ai];simp -implicitDefEqProofs only[SP,SA,SQ,sevalprocAttr,Be,Aa,xD,e1,Rv]
 have h1:decide ((0:Int)<=0)=true:=by decide
 have h2:(0:Int)<=(l.length:Int):=by omega
 have h3:Ac ((l.length:Int)).toNat 16:=by unfold Ac;simp;omega
 simp -implicitDefEqProofs only[cx,SP,SA,SQ,sevalprocAttr,rQ,ls,Oc,ta,Za,Fa,bc,AV.cut,Ef,Ll,Sa h2,Sa h3,Int.toNat_zero];simp only[Rv] at hl;rw[hl];simp -implicitDefEqProofs only[SP,SA,SQ,sevalprocAttr]
end To
end Go.AM.B1
namespace Go.AM.B1
open Go.AM
def Ub(top:Int):Int->List (Int×Int)->Bool
 |_,[]=>true
 |last,p::r=> !(decide (p.1 < 0)||decide (p.1 > p.2)||decide (p.2 > top)||decide (p.1 - 1<=last))&&Ub top p.2 r
abbrev Tl(v:PV)(top len i last:Int):Tr:=(((((Tr.lf.set 10 (.pv (aa i))).set 9 (.pv (aa len))).set 8 (.pv v)).set 5 (.pv (aa last))).set 1 (.pv (aa top)))
section
variable (v:PV)(l:List (Int×Int))(hv:Pb 2 v (Pa l))(hw:l.length<=maxLen)(top:Int)(ht:top<=9223372036854775807)
theorem mas(i:Nat)(hi:i < l.length)(hv:Pb 2 v (Pa l))(hw:l.length<=maxLen)(last:Int)(ht:top<=9223372036854775807)(c1:¬l[i].1 < 0)(c2:¬l[i].1 > l[i].2)(c3:¬l[i].2 > top)(c4:¬l[i].1 - 1<=last):
 Be (La (fun _=>none) 8) [1,5,8,9,10] Nq 0 ⟨Tl v top l.length i last,[]⟩=some (.norm,⟨Tl v top l.length (i+1:Nat) l[i].2,[]⟩):=by
 have hv:=hv.lit (i:=i) (by simpa using hi)
 subst hv;have e1:decide ((i:Int) < (l.length:Int))=true:=Qa (by omega);have hq:Ta (i:Int) (Pa l).length:=by unfold Ta;simp;omega
 have t1:((i:Int)).toNat=i:=by simp
 have t2:=ee hi hw;have t3:IntKind.i64.wrap (l[i].1 - 1)=l[i].1 - 1:=Gb (by omega)
 have hg:=Hw hi;have d1:=Ra c1;have d2:=Ra c2;have d3:=Ra c3;have d4:=Ra c4;generalize Pa l=es at *;generalize l[i]=p at *;simp -implicitDefEqProofs only[SP,SA,SQ,sevalprocAttr,Be,Aa,Nq,e1,Sa hq,t1,t2,t3,hg,d1,d2,d3,d4,Ua,ta,Za,Fa,bc,AV.cut,Ef,Tl]
theorem las(i:Nat)(hi:i < l.length)(hv:Pb 2 v (Pa l))(hw:l.length<=maxLen)(last:Int)(ht:top<=9223372036854775807)(hc:l[i].1 < 0\/l[i].1 > l[i].2\/l[i].2 > top\/l[i].1 - 1<=last):
 mO 4 (.pv (.bool false)) (Be (La (fun _=>none) 8) [1,5,8,9,10] Nq 0 ⟨Tl v top l.length i last,[]⟩):=by
 have hv:=hv.lit (i:=i) (by simpa using hi)
 subst hv;have e1:decide ((i:Int) < (l.length:Int))=true:=Qa (by omega);have hq:Ta (i:Int) (Pa l).length:=by unfold Ta;simp;omega
 have t1:((i:Int)).toNat=i:=by simp
 have hg:=Hw hi;generalize Pa l=es at *;generalize l[i]=p at *
 by_cases c1:p.1 < 0
 ·have d1:=Qa c1
  simp -implicitDefEqProofs only[SP,SA,SQ,sevalprocAttr,Be,Aa,Nq,e1,Sa hq,t1,hg,d1,Ua,Tl,pO]
 have d1:=Ra c1
 by_cases c2:p.1 > p.2
 ·have d2:=Qa c2
  simp -implicitDefEqProofs only[SP,SA,SQ,sevalprocAttr,Be,Aa,Nq,e1,Sa hq,t1,hg,d1,d2,Ua,Tl,pO]
 have d2:=Ra c2
 by_cases c3:p.2 > top
 ·have d3:=Qa c3
  simp -implicitDefEqProofs only[SP,SA,SQ,sevalprocAttr,Be,Aa,Nq,e1,Sa hq,t1,hg,d1,d2,d3,Ua,Tl,pO]
 have d3:=Ra c3;have c4:p.1 - 1<=last:=by rcases hc with h | h | h | h <;> first | exact h | omega
 have t3:IntKind.i64.wrap (p.1 - 1)=p.1 - 1:=Gb (by omega)
 have d4:=Qa c4;simp -implicitDefEqProofs only[SP,SA,SQ,sevalprocAttr,Be,Aa,Nq,e1,Sa hq,t1,t3,hg,d1,d2,d3,d4,Ua,Tl,pO]
include hv hw ht
theorem GJ:fx [v,aa top]=some (.bool (Ub top (-2) l)):=by
 have ls:=hv.len
 simp only[Pa,wb] at ls;have key:=vt (g:=Be (La (fun _=>none) 8) [1,5,8,9,10] Nq 0)
  (fun i t=>∃ last,t=⟨Tl v top l.length i last,[]⟩/\Ub top (-2) l=Ub top last (l.drop i))
  (fun ex t=>(ex= .exit 0/\Ub top (-2) l=true/\∃ last,t=⟨(Tl v top l.length l.length last).set 11 (.pv (.bool false)),[]⟩)\/(ex= .ret/\Ub top (-2) l=false/\t.env.get 4= .pv (.bool false)))
  Ga l.length 0 ⟨Tl v top l.length (0:Nat) (-2),[]⟩ (by unfold Ga;unfold maxLen at hw;omega) (by omega) ⟨-2,rfl,rfl⟩ ?_ ?_
 ·have hl:Mb (Aa (ua (La (fun _=>none) 8) Nq) (ta 0 [1,5,8,9,10])) Ga ⟨Tl v top l.length 0 (-2),[]⟩=Mb (Be (La (fun _=>none) 8) [1,5,8,9,10] Nq 0) Ga ⟨Tl v top l.length (0:Nat) (-2),[]⟩:=rfl
  obtain⟨ex,t,h,_,hq⟩:=key;rw[h] at hl;simp only[Tl] at hl;rcases hq with⟨rfl,oe,last,rfl⟩ | ⟨rfl,oe,hg⟩
  ·rw[oe]
   simp -implicitDefEqProofs only[fx,SP,SA,SQ,sevalprocAttr,rL,ls,Oc,ta,Za,Fa,bc,AV.cut,Ef,hl,Tl]
  ·rw[oe]
   simp -implicitDefEqProofs only[fx,SP,SA,SQ,sevalprocAttr,rL,ls,Oc,ta,Za,Fa,bc,AV.cut,Ef,hl,Tl,hg]
 ·rintro i hi t ⟨last,rfl,oe⟩
  have hd:l.drop i=l[i]::l.drop (i+1):=Hh hi
  rw[hd,Ub] at oe
  by_cases hc:l[i].1 < 0\/l[i].1 > l[i].2\/l[i].2 > top\/l[i].1 - 1<=last
  ·obtain⟨t,h1,h2⟩:=aap (las v l top i hi hv hw last ht hc)
   refine .inr ⟨.ret,t,h1,rfl,.inr ⟨rfl,?_,h2⟩⟩
   rw[oe];rcases hc with h | h | h | h <;> simp[h]
  ·have ri:¬l[i].1 < 0/\¬l[i].1 > l[i].2/\¬l[i].2 > top/\¬l[i].1 - 1<=last:=by
    refine⟨fun h=>hc (.inl h),fun h=>hc (.inr (.inl h)),fun h=>hc (.inr (.inr (.inl h))),fun h=>hc (.inr (.inr (.inr h)))⟩
   refine .inl ⟨_,mas v l top i hi hv hw last ht ri.1 ri.2.1 ri.2.2.1 ri.2.2.2,l[i].2,rfl,?_⟩
   rw[oe,Ra ri.1,Ra ri.2.1,Ra ri.2.2.1,Ra ri.2.2.2];rfl
 ·rintro t ⟨last,rfl,oe⟩
  refine⟨.exit 0,_,?_,rfl,.inl ⟨rfl,?_,last,rfl⟩⟩
  ·have e1:decide ((l.length:Int) < (l.length:Int))=false:=Ra (by omega)
   simp -implicitDefEqProofs only[SP,SA,SQ,sevalprocAttr,Be,Aa,Nq,e1,Tl]
  ·rw[oe,Zh];rfl
end
def Ld(x:Int):Int->List (Int×Int)->Int×Bool
 |_,[]=>(0,false)
 |n,p::r=>if x < p.1 then (0,false) else if x<=p.2 then (n+x - p.1,true) else Ld x (n+(p.2 - p.1+1)) r
abbrev Fm(v:PV)(x len i n:Int):Tr:=(((((Tr.lf.set 11 (.pv (aa i))).set 10 (.pv (aa len))).set 9 (.pv v)).set 6 (.pv (aa n))).set 1 (.pv (aa x)))
section
variable (v:PV)(l:List (Int×Int))(hv:Pb 2 v (Pa l))(hw:l.length<=maxLen)(x n:Int)
theorem Bao(i:Nat)(hi:i < l.length)(hv:Pb 2 v (Pa l))(c:x < l[i].1):
 oM 0 (Be (La (fun _=>none) 8) [1,6,9,10,11] Es 0 ⟨Fm v x l.length i n,[]⟩):=by
 have hv:=hv.lit (i:=i) (by simpa using hi)
 subst hv;have e1:decide ((i:Int) < (l.length:Int))=true:=Qa (by omega);have hq:Ta (i:Int) (Pa l).length:=by unfold Ta;simp;omega
 have t1:((i:Int)).toNat=i:=by simp
 have hg:=Hw hi;have d1:=Qa c;generalize Pa l=es at *;generalize l[i]=p at *;simp -implicitDefEqProofs only[SP,SA,SQ,sevalprocAttr,Be,Aa,Es,e1,Sa hq,t1,hg,d1,Ua,Fm,sae]
theorem Aao(i:Nat)(hi:i < l.length)(hv:Pb 2 v (Pa l))(c:¬x < l[i].1)(c2:x<=l[i].2)(hb:0<=l[i].1/\l[i].2<=4611686018427387904/\0<=n/\n<=4611686018427387903):
 nO 4 (.pv (aa (n+x - l[i].1))) 5 (.pv (.bool true)) (Be (La (fun _=>none) 8) [1,6,9,10,11] Es 0 ⟨Fm v x l.length i n,[]⟩):=by
 have hv:=hv.lit (i:=i) (by simpa using hi)
 subst hv;have e1:decide ((i:Int) < (l.length:Int))=true:=Qa (by omega);have hq:Ta (i:Int) (Pa l).length:=by unfold Ta;simp;omega
 have t1:((i:Int)).toNat=i:=by simp
 have hg:=Hw hi;have d1:=Ra c;have d2:=Qa c2;have t3:IntKind.i64.wrap (n+x)=n+x:=Gb (by omega)
 have t4:IntKind.i64.wrap (n+x - l[i].1)=n+x - l[i].1:=Gb (by omega)
 generalize Pa l=es at *;generalize l[i]=p at *;simp -implicitDefEqProofs only[SP,SA,SQ,sevalprocAttr,Be,Aa,Es,e1,Sa hq,t1,t3,t4,hg,d1,d2,Ua,Fm,Yao]
theorem Cao(i:Nat)(hi:i < l.length)(hv:Pb 2 v (Pa l))(hw:l.length<=maxLen)(c:¬x < l[i].1)(c2:¬x<=l[i].2)(hb:0<=l[i].1/\l[i].1<=l[i].2/\l[i].2<=4611686018427387902/\0<=n/\n<=l[i].1):
 Be (La (fun _=>none) 8) [1,6,9,10,11] Es 0 ⟨Fm v x l.length i n,[]⟩=some (.norm,⟨Fm v x l.length (i+1:Nat) (n+(l[i].2 - l[i].1+1)),[]⟩):=by
 have hv:=hv.lit (i:=i) (by simpa using hi)
 subst hv;have e1:decide ((i:Int) < (l.length:Int))=true:=Qa (by omega);have hq:Ta (i:Int) (Pa l).length:=by unfold Ta;simp;omega
 have t1:((i:Int)).toNat=i:=by simp
 have t2:=ee hi hw;have hg:=Hw hi;have d1:=Ra c;have d2:=Ra c2;have t3:IntKind.i64.wrap (l[i].2 - l[i].1)=l[i].2 - l[i].1:=Gb (by omega)
 have t4:IntKind.i64.wrap (l[i].2 - l[i].1+1)=l[i].2 - l[i].1+1:=Gb (by omega)
 have t5:IntKind.i64.wrap (n+(l[i].2 - l[i].1+1))=n+(l[i].2 - l[i].1+1):=Gb (by omega)
 generalize Pa l=es at *;generalize l[i]=p at *;simp -implicitDefEqProofs only[SP,SA,SQ,sevalprocAttr,Be,Aa,Es,e1,Sa hq,t1,t2,t3,t4,t5,hg,d1,d2,Ua,ta,Za,Fa,bc,AV.cut,Ef,Fm]
theorem ik{top last:Int}{p:Int×Int}{r:List (Int×Int)}(h:Ub top last (p::r)=true):¬p.1 < 0/\¬p.1 > p.2/\¬p.2 > top/\¬p.1 - 1<=last/\Ub top p.2 r=true:=by
 simp only[Ub,fb,Lo,IF,decide_eq_false_iff_not] at h;exact⟨h.1.1.1.1,h.1.1.1.2,h.1.1.2,h.1.2,h.2⟩
include hv hw
theorem kaq{top:Int}(ht:top<=4611686018427387900)(oe:Ub top (-2) l=true):TF [v,aa x]=some (.Ba [aa (Ld x 0 l).1,.bool (Ld x 0 l).2]):=by
 have ls:=hv.len
 simp only[Pa,wb] at ls;have key:=vt (g:=Be (La (fun _=>none) 8) [1,6,9,10,11] Es 0)
  (fun i t=>∃ n last,t=⟨Fm v x l.length i n,[]⟩/\Ld x 0 l=Ld x n (l.drop i)/\Ub top last (l.drop i)=true/\0<=n/\n<=max 0 (last+1)/\last<=top)
  (fun ex t=>(ex= .exit 0/\Ld x 0 l=(0,false))\/(ex= .ret/\∃ r,Ld x 0 l=(r,true)/\t.env.get 4= .pv (aa r)/\t.env.get 5= .pv (.bool true)))
  Ga l.length 0 ⟨Fm v x l.length (0:Nat) 0,[]⟩ (by unfold Ga;unfold maxLen at hw;omega) (by omega) ?_ ?_ ?_
 ·have hl:Mb (Aa (ua (La (fun _=>none) 8) Es) (ta 0 [1,6,9,10,11])) Ga ⟨Fm v x l.length 0 0,[]⟩=Mb (Be (La (fun _=>none) 8) [1,6,9,10,11] Es 0) Ga ⟨Fm v x l.length (0:Nat) 0,[]⟩:=rfl
  obtain⟨ex,⟨e,H⟩,h,_,hq⟩:=key;rw[h] at hl;simp only[Fm] at hl;rcases hq with⟨rfl,hr⟩ | ⟨rfl,r,hr,g4,g5⟩
  ·rw[hr]
   simp -implicitDefEqProofs only[TF,SP,SA,SQ,sevalprocAttr,qL,ls,Oc,ta,Za,Fa,bc,AV.cut,Ef,hl,Fm]
  ·rw[hr]
   simp only at g4 g5;simp -implicitDefEqProofs only[TF,SP,SA,SQ,sevalprocAttr,qL,ls,Oc,ta,Za,Fa,bc,AV.cut,Ef,hl,Fm,g4,g5]
 ·refine⟨0,min (-2) top,rfl,rfl,?_,by omega,by omega,by omega⟩
  have mono:∀ {a b:Int}{r:List (Int×Int)},a<=b->Ub top b r=true->Ub top a r=true:=by
   intro a b r Hm h;cases r with
   |nil=>rfl
   |cons p r=>obtain⟨h1,h2,h3,h4,h5⟩:=ik h;simp only[Ub,h5,wz,Lo,IF,decide_eq_false_iff_not];exact⟨⟨⟨h1,h2⟩,h3⟩,by omega⟩
  exact mono (by omega) oe
 ·rintro i hi t ⟨n,last,rfl,hr,nj,xo,xB,Ay⟩
  have hd:l.drop i=l[i]::l.drop (i+1):=Hh hi
  rw[hd] at hr nj;obtain⟨h1,h2,h3,h4,h5⟩:=ik nj;rw[Ld] at hr
  by_cases c:x < l[i].1
  ·obtain⟨e,H,hx⟩:=tae (Bao v l x n i hi hv c)
   rw[if_pos c] at hr;exact .inr ⟨.exit 0,⟨e,H⟩,hx,rfl,.inl ⟨rfl,hr⟩⟩
  by_cases c2:x<=l[i].2
  ·obtain⟨t,hx,g4,g5⟩:=Zao (Aao v l x n i hi hv c c2 (by omega))
   rw[qa c,if_pos c2] at hr;exact .inr ⟨.ret,t,hx,rfl,.inr ⟨rfl,_,hr,g4,g5⟩⟩
  ·rw[qa c,qa c2] at hr
   exact .inl ⟨_,Cao v l x n i hi hv hw c c2 (by omega),_,l[i].2,rfl,hr,h5,by omega,by omega,by omega⟩
 ·rintro t ⟨n,last,rfl,hr,_⟩
  refine⟨.exit 0,⟨(Fm v x l.length l.length n).set 12 (.pv (.bool false)),[]⟩,?_,rfl,.inl ⟨rfl,?_⟩⟩
  ·have e1:decide ((l.length:Int) < (l.length:Int))=false:=Ra (by omega)
   simp -implicitDefEqProofs only[SP,SA,SQ,sevalprocAttr,Be,Aa,Es,e1,Fm]
  ·rw[hr,Zh];rfl
end
def Pn(l:List (Int×Int)):List (Int×Int):=if Ub 255 (-2) l then l else []
theorem ej(H:List fa)(d:Nat)(p:PV):qb H d (.pv p)=some p:=by cases d <;> rfl
theorem Zap(l:List (Int×Int)):Ub 255 (-2) (Pn l)=true:=by
 unfold Pn;cases hb:Ub 255 (-2) l with
 |true=>exact hb
 |false=>rfl
theorem Yap(l:List (Int×Int)):(Pn l).length<=l.length:=by
 unfold Pn
 split <;> simp
section
variable (v:PV)(l:List (Int×Int))(hv:Pb 2 v (Pa l))(hw:l.length * 16<=140737488355328)
include hv hw
theorem Paq:rK [v]=some (.bool (Ub 255 (-2) l)):=by
 have h1:=EF v l hv hw;have h2:=GJ (.lit 2 (Pa l)) l (.inr rfl) (by unfold maxLen;omega) 255 (by decide);simp -implicitDefEqProofs only[rK,SP,SA,SQ,sevalprocAttr,zQ,ej,Ef,h1,h2]
theorem M8:∃ u,Sr [v]=some u/\Pb 2 u (Pa (Pn l)):=by
 have h1:=EF v l hv hw;have h2:=GJ (.lit 2 (Pa l)) l (.inr rfl) (by unfold maxLen;omega) 255 (by decide);unfold Pn;cases hb:Ub 255 (-2) l with
 |true=>rw[hb] at h2;refine⟨.lit 2 (Pa l),?_,.inr rfl⟩;simp -implicitDefEqProofs only[Sr,SP,SA,SQ,sevalprocAttr,ZG,ej,Ef,h1,h2]
 |false=>rw[hb] at h2;refine⟨.oa,?_,.inl ⟨rfl,rfl⟩⟩;simp -implicitDefEqProofs only[Sr,SP,SA,SQ,sevalprocAttr,ZG,ej,Ef,h1,h2]
theorem L8(x:Int):XF [v,aa x]=some (.Ba [aa (Ld x 0 (Pn l)).1,.bool (Ld x 0 (Pn l)).2]):=by
 obtain⟨u,h1,h2⟩:=M8 v l hv hw;have h3:=kaq u (Pn l) h2 (by have:=Yap l;unfold maxLen;omega) x (top:=255) (by decide) (Zap l);simp -implicitDefEqProofs only[XF,SP,SA,SQ,sevalprocAttr,xQ,ej,Ef,h1,h3]
theorem Naq(x:Int):tP [v,aa x]=some (.bool (Ld x 0 (Pn l)).2):=by
 have h3:=L8 v l hv hw x;simp -implicitDefEqProofs only[tP,SP,SA,SQ,sevalprocAttr,vQ,ej,Ef,h3]
end
theorem _root_.Go.AM.Nb.weaken{P:Program}{f:FuncId}{F G:List PV->Option PV}(h:Nb P f G)(hF:∀ xs r,F xs=some r->G xs=some r):Nb P f F:=
 ⟨h.1,fun w R args vs r hR hl hr=>h.2 w R args vs r hR hl (hF _ _ hr)⟩
def rH:PV->Option (Int×Int)
 | .agg [.int .i64 a,.int .i64 b]=>some (a,b)
 |_=>none
def OL:PV->Option (List (Int×Int))
 | .oa=>some []
 | .lit 2 es=>Ha rH es
 |_=>none
theorem lad{v:PV}{p:Int×Int}(h:rH v=some p):v=pr p:=by
 unfold rH at h
 split at h
 ·injection h with h;subst h;rfl
 ·cases h
theorem mad{v:PV}{l:List (Int×Int)}(h:OL v=some l):Pb 2 v (Pa l):=by
 unfold OL at h
 split at h
 ·injection h with h;subst h;exact .inl ⟨rfl,rfl⟩
 ·rename_i es
  refine .inr ?_
  congr 1
  induction es generalizing l with
  |nil=>simp only[Ha,xb] at h;subst h;rfl
  |cons e es ih=>simp only[Ha,Hd,xb] at h;obtain⟨p,h1,r,h2,rfl⟩:=h;rw[ih h2,lad h1];rfl
 ·cases h
def yz:List PV->Option PV
 | [v,.int .i64 x]=>(OL v).bind fun l=>if l.length * 16<=140737488355328 then some (.bool (Ld x 0 (Pn l)).2) else none
 |_=>none
theorem dac:Nb P 149 yz:=Tan.weaken fun xs r h=>by
 unfold yz at h
 split at h
 ·rename_i v x
  simp only[Hd] at h;obtain⟨l,h1,h2⟩:=h
  split at h2
  ·rename_i hw
   injection h2 with h2
   rw[Naq v l (mad h1) hw x,<-h2]
  ·cases h2
 ·cases h
end Go.AM.B1
namespace Go.Proofs
open Go.Shelf Go.RowKit Go.Lib Go.Sort
shelf_lay_g SlLaysF0.n6 Slsf 6 at Tryz 146 as Tryz.sortRun
shelf_lay_g SlLaysC2.n5 Slgc 5 at Tryz 69 as Tryz.cmpInt
theorem SL(r:List Int):∃ a b:Int,AM.encI 2 r=[.int .i64 a,.int .i64 b]/\AM.gm 2 0 r=a:=by
 unfold AM.encI AM.gm
 by_cases h:r.length=2
 ·match r,h with
  | [a,b],_=>exact⟨a,b,rfl,rfl⟩
 ·rw[qa h,qa h];exact⟨0,0,rfl,rfl⟩
set_option maxHeartbeats 1000000 in
theorem nam(a b c d:Int)(W:World):Calls Tryz.prog 147 #[.agg #[.int .i64 a,.int .i64 b],.agg #[.int .i64 c,.int .i64 d]] W fun e w'=>e= .returned (.int .i64 (Lib.compareInt a c))/\∃ q eF,w'=grow (W.drewN q) eF:=by
 have mB:=fun W'=>AnyG.cmp_Compare_int Tryz.cmpInt a c W'
 change ∀ W',Calls Tryz.prog 69 _ _ _ at mB
 generalize Lib.compareInt a c=r at mB ⊢
 go_enter Tryz.func147,Tryz.ntmps147
 go_wp2_with (go_at_call 69;refine (mB _).mono ?_;rintro e w' ⟨rfl,rfl⟩)
 go_ret
 exact⟨rfl,0,_,by rw[alloc_eq_grow,alloc_eq_grow,grow_grow];rfl⟩
theorem pam:AM.zP Tryz.prog 146 147 2 0 where
 call:=⟨_,_,Tryz.func146,rfl,by kernel_rfl⟩
 many:=by
  intro Kx SB cap D w hH hb hs;refine AnyQ.slices_SortFunc_eq Tryz.sortRun 2 Tryz.isAgg244 Tryz.sizeOf244 (AM.encI 2) (fun x=>by obtain⟨a,b,h,_⟩:=SL x;rw[h];rfl) (fun x v hv=>by obtain⟨a,b,h,_⟩:=SL x;rw[h] at hv;simp at hv;rcases hv with rfl | rfl <;> rfl) (AM.Nx 2 0) (AM.pV 2 0) 147 #[] Kx SB cap D w (enters_of Tryz.func147 (by kernel_rfl) rfl) (fun m os dk _ x y=> ?_) hH hb hs
  obtain⟨a,b,h1,h2⟩:=SL x;obtain⟨c,d,h3,h4⟩:=SL y;rw[h1,h3];unfold AM.Nx
  rw[h2,h4];exact nam a b c d _
 none:=fun p cap w=>AnyF.slices_SortFunc_none Tryz.sortRun p cap _ w
end Go.Proofs
namespace Go.AM.B1
open Go.AM
def zA:Ya:=(jQ [jB 12 .lss 11 10] (.seq (jX 12 0) (.seq (.block 1 (jQ [ji 13 2 9 11,jL 14 2 13,Co 5 (.alloc [(.int .i64 0),(.int .i64 0)]),jS 2 5 14] (.seq (jQ [Cv 15 3,jn 16 0 15,Cv 6 16] (jQ [Cv 17 6,jK 18 .gtr 17 0,Cv 19 18,jT 20 19 (.kf 0 5),jT 21 19 (.kl 1 20),jT 22 19 (.km 3),jT 23 19 (.km 6),jT 24 19 (.kK .sub 23 1),jT 25 19 (.ki 2 22 24),jT 26 19 (.kf 1 25),jT 27 19 (.kl 1 26),jT 28 19 (.kK .add 27 1),jT 29 19 (.kB .leq 21 28),ja 30 19 29] (jC 30 (jQ [Cv 31 3,Cv 32 6,jK 33 .sub 32 1,Cv 34 3,Cv 35 6,jK 36 .sub 35 1,ji 37 2 34 36,jf 38 1 37,jl 39 1 38,jf 40 1 5,jl 41 1 40,Co 42 (.mx [(.t 39),(.t 41)]),ji 43 2 31 33,jf 44 1 43,jS 1 44 42] (.exit 1)) .skip))) (.region [Cv 45 3,jL 46 2 5,Co 47 (.Fc .lit 2 true 1 [(.int .i64 0),(.int .i64 0)] [(0,(.t 46))]),Co 48 (.append true .own 2 true 16 (.t 45) (.t 47)),Cv 3 48])))) (.region [jK 49 .add 11 1,Cv 11 49]))))
def PG:Xa:=⟨1,[.tmp 2],(jQ [jc 2 .oa] (jQ [Cv 7 0,Co 8 (.zf 22 [(.t 7),(.f 23)])] (jQ [jc 3 .oa] (.ghost (.cF 3 2 true) (.seq (jQ [Cv 9 0,jn 10 0 9,jk 11 0] (.block 0 (.loop [3,9,10,11] zA))) (jr [Cv 50 3,Cv 2 50]))))))⟩
theorem Xaf:Hb P fo 113 PG:=fM Go.Proofs.Tryz.func113 dN
def UG:Ya:=(jQ [jB 12 .lss 11 10] (.seq (jX 12 0) (.seq (.block 1 (jQ [ji 13 2 9 11,jL 14 2 13,Co 5 (.alloc [(.int .i64 0),(.int .i64 0)]),jS 2 5 14] (.region [Cv 15 3,jL 16 2 5,Co 17 (.Fc .lit 2 true 1 [(.int .i64 0),(.int .i64 0)] [(0,(.t 16))]),Co 18 (.append true .own 2 true 16 (.t 15) (.t 17)),Cv 3 18]))) (.region [jK 19 .add 11 1,Cv 11 19]))))
def TG:Xa:=⟨1,[.tmp 2],(jQ [jc 2 .oa] (jQ [Cv 6 0,jn 7 0 6,Co 8 (.oj .own 2 true [(.int .i64 0),(.int .i64 0)] 16 (.c (.int .i64 0)) (.t 7)),Cv 3 8] (.seq (jQ [Cv 9 0,jn 10 0 9,jk 11 0] (.block 0 (.loop [3,9,10,11] UG))) (jr [Cv 20 3,Cv 2 20]))))⟩
theorem eag:Hb P fo 145 TG:=fM Go.Proofs.Tryz.func145 dN
def NG:Xa:=⟨1,[.tmp 2],(jQ [jc 2 .oa] (jQ [Cv 4 0,Co 5 (.zf 0 [(.t 4)]),Cv 3 5] (.seq (jQ [Cv 6 3,Co 7 (.Sl fx [(.t 6),(.c (.int .i64 1073741823))]),jt 8 7] (jC 8 (jr [jc 2 .oa]) .skip)) (jr [Cv 9 3,Cv 2 9]))))⟩
theorem Qaf:Hb P fo 112 NG:=fM Go.Proofs.Tryz.func112 (dC VN dN)
def SG:Ya:=(jQ [jB 12 .lss 11 10] (.seq (jX 12 0) (.seq (.block 1 (jQ [ji 13 2 9 11,jL 14 2 13,Co 5 (.alloc [(.int .i64 0),(.int .i64 0)]),jS 2 5 14] (.region [Cv 15 3,jL 16 2 5,Co 17 (.Fc .lit 2 true 1 [(.int .i64 0),(.int .i64 0)] [(0,(.t 16))]),Co 18 (.ku 2 true 16 15 17),Cv 3 18]))) (.region [jK 19 .add 11 1,Cv 11 19]))))
def RG:Xa:=⟨1,[.tmp 2],(jQ [jc 2 .oa] (jQ [Cv 6 0,jn 7 0 6,Co 8 (.oj .uq 2 true [(.int .i64 0),(.int .i64 0)] 16 (.c (.int .i64 0)) (.t 7)),Cv 3 8] (.seq (jQ [Cv 9 0,jn 10 0 9,jk 11 0] (.block 0 (.loop [3,9,10,11] SG))) (jr [Cv 20 3,Cv 2 20]))))⟩
theorem bag:Hb P fo 144 RG:=fM Go.Proofs.Tryz.func144 dN
def mL:Xa:=⟨1,[.tmp 2],(jQ [jc 2 .oa] (jr [Cv 3 0,Co 4 (.zf 2 [(.t 3)]),Cv 2 4]))⟩
theorem Oaf:Hb P fo 110 mL:=fM Go.Proofs.Tryz.func110 dN
def mQ:Xa:=⟨2,[.tmp 4],(jQ [jc 4 .oa] (jr [Cv 5 0,Co 6 (.zf 1 [(.t 5)]),Cv 7 1,Co 8 (.zf 1 [(.t 7)]),Co 9 (.append true .own 2 true 16 (.t 6) (.t 8)),Co 10 (.zf 24 [(.t 9)]),Co 11 (.zf 3 [(.t 10)]),Cv 4 11]))⟩
theorem Maf:Hb P fo 81 mQ:=fM Go.Proofs.Tryz.func81 dN
def Mk:Nat->Option Xa
 |24=>some PG
 |0=>some TG
 |1=>some NG
 |2=>some RG
 |3=>some mL
 |_=>none
theorem Kar:Vo P fo Mk:=by
 intro ix af h;unfold Mk at h
 split at h
 ·injection h with h;subst h;exact Xaf
 ·injection h with h;subst h;exact eag
 ·injection h with h;subst h;exact Qaf
 ·injection h with h;subst h;exact bag
 ·injection h with h;subst h;exact Oaf
 ·cases h
def Qk:Ab:=fun ix args H=>if ix=22 then Pw 2 0 23 args H else none
theorem maa(B0:qd):Pr P fo B0 Qk:=K8 (s:=22) (g:=23) Go.Proofs.pam B0
def lK:=ez Qk Mk mQ
theorem Han:Nb P 81 lK:=D6 Kar maa Maf
def Bm:Ya:=(jQ [jB 15 .lss 14 13] (.seq (jX 15 0) (.seq (.block 1 (jQ [ji 16 2 12 14,jL 17 2 16,Co 5 (.alloc [.oa,(.int .i64 0)]),jS 2 5 17] (.seq (jQ [jf 18 0 5,jl 19 1 18,jn 20 0 19,jK 21 .lss 20 1,Cv 22 21,jF 23 22 (.kf 0 5),jF 24 22 (.kl 1 23),jF 25 22 (.kn 0 24),jF 26 22 (.kK .gtr 25 8),jo 27 22 26,Cv 28 27,jF 29 28 (.kf 1 5),jF 30 28 (.kl 1 29),jF 31 28 (.kK .lss 30 0),jo 32 28 31,Cv 33 32,jF 34 33 (.kf 1 5),jF 35 33 (.kl 1 34),jF 36 33 (.kK .gtr 35 1073741823),jo 37 33 36,Cv 38 37,jF 39 38 (.kf 0 5),jF 40 38 (.kl 1 39),jF 41 38 (.zf 6 [(.t 40),(.f 7)]),jo 42 38 41] (jC 42 (jr [jb 2 false]) .skip)) (jQ [jf 43 1 5,jl 44 1 43,jL 45 2 5,jp 46 nK 45,Co 47 (.build [(.int .i64 0),(.int .i64 0)] [(0,1,(.t 44)),(1,1,(.t 46))]),Co 48 (.Fc .lit 2 true 1 [(.int .i64 0),(.int .i64 0)] [(0,(.t 47))]),Cv 6 48] (.seq (jQ [Cv 49 6,Co 50 (.kj 2 49 0),jf 51 1 50,jl 52 1 51,jK 53 .gtr 52 1073741823,Cv 54 53,jF 55 54 (.km 3),jF 56 54 (.km 6),jF 57 54 (.kq iK 55 56),jF 58 54 (.kn 0 57),jF 59 54 (.kK .gtr 58 0),jo 60 54 59] (jC 60 (jr [jb 2 false]) .skip)) (.region [Cv 61 3,Cv 62 6,jq 63 lK 61 62,Cv 3 63])))))) (.region [jK 64 .add 14 1,Cv 14 64]))))
def OG:Xa:=⟨1,[.tmp 2],(jQ [jR 1 1 0,jb 2 false] (.seq (jQ [Jf 7 0 1,Jl 8 1 7,jn 9 0 8,jK 10 .gtr 9 32] (jC 10 (jr [jb 2 false]) .skip)) (jQ [jc 3 .oa] (.seq (jQ [Jf 11 0 1,Jl 12 1 11,jn 13 0 12,jk 14 0] (.block 0 (.loop [3,12,13,14] Bm))) (jr [jb 2 true])))))⟩
theorem Saf:Hb P fo 51 OG:=fM Go.Proofs.Tryz.func51 (dC Jan (dC Gan (dC Han dN)))
def Dl:Nat->Option Xa
 |5=>some YG
 |6=>some AD
 |7=>some wD
 |_=>none
theorem Lar:Vo P fo Dl:=by
 intro ix af h;unfold Dl at h
 split at h
 ·injection h with h;subst h;exact pag
 ·injection h with h;subst h;exact oag
 ·injection h with h;subst h;exact Uaf
 ·cases h
def Zu:=oc Dl OG
theorem R5:Nb P 51 Zu:=Jc Lar Saf
def tQ:Xa:=⟨1,[.tmp 2],(jQ [jR 1 2 0,jb 2 false] (jr [JL 3 2 1,Co 4 (.Fc .lit 2 true 1 [.oa,(.int .i64 0)] [(0,(.t 3))]),Co 5 (.build [.oa] [(0,1,(.t 4))]),jp 6 Zu 5,Cv 2 6]))⟩
theorem lag:Hb P fo 83 tQ:=fM Go.Proofs.Tryz.func83 (dC R5 dN)
def Jz:=oc (fun _=>none) tQ
theorem WN:Nb P 83 Jz:=Jc Rc lag
def AA:Ya:=(jQ [jB 36 .lss 35 34] (.seq (jX 36 0) (.seq (.block 1 (jQ [Cv 37 35,Cv 9 37] (jQ [Jf 38 0 3,Jl 39 1 38,Cv 40 9,Ji 41 1 39 40,Jl 42 1 41,Jf 43 0 4,Jl 44 1 43,Cv 45 9,Ji 46 1 44 45,Jl 47 1 46,jq 48 qK 42 47,Cv 10 48] (.seq (jQ [Cv 49 10,jn 50 0 49,jK 51 .eql 50 0] (jC 51 (jr [jc 6 .oa,jb 7 false]) .skip)) (.region [Cv 52 8,Cv 53 10,Co 54 (.kj 2 53 0),jf 55 0 54,jl 56 1 55,Co 57 (.conv .u8 (.t 56)),Co 58 (.Fc .lit 1 false 1 [(.int .u8 0)] [(0,(.t 57))]),Co 59 (.ku 1 false 1 52 58),Cv 8 59]))))) (.region [jK 60 .add 35 1,Cv 35 60]))))
def VG:Xa:=⟨3,[.tmp 6,.tmp 7],(jQ [jR 3 2 0,jR 4 2 1,jc 6 .oa,jb 7 false] (.seq (jQ [JL 11 2 3,jp 12 Jz 11,jt 13 12,Cv 14 13,JF 15 14 (.kL 2 4),jF 16 14 (.kp Jz 15),jF 17 14 (.kt 16),jo 18 14 17,Cv 19 18,jF 20 19 (.km 2),jF 21 19 (.kK .lss 20 0),jo 22 19 21,Cv 23 22,jF 24 23 (.km 2),JF 25 23 (.kf 0 3),JF 26 23 (.kl 1 25),jF 27 23 (.kn 0 26),JF 28 23 (.kf 0 4),JF 29 23 (.kl 1 28),jF 30 23 (.kn 0 29),jF 31 23 (.mn [(.t 27),(.t 30)]),jF 32 23 (.kB .gtr 24 31),jo 33 23 32] (jC 33 (jr [jc 6 .oa,jb 7 false]) .skip)) (jQ [jc 8 .oa] (.ghost (.Ln 8 1) (.seq (jQ [Cv 34 2,jk 35 0] (.block 0 (.loop [3,4,8,34,35] AA))) (jr [Cv 61 8,Cv 6 61,jb 7 true]))))))⟩
theorem iag:Hb P fo 122 VG:=fM Go.Proofs.Tryz.func122 (dC WN (dC WN (dC Uan dN)))
def Iz:=oc (fun _=>none) VG
theorem Pan:Nb P 122 Iz:=Jc Rc iag
def yD:Ya:=(.seq (jQ [Cv 14 5,jK 15 .gtr 14 0] (jX 15 0)) (.seq (.block 1 (jQ [Cv 18 3,Cv 19 5,Cv 20 4,ji 21 1 18 19,jS 1 21 20] (.region [Cv 22 4,Jf 23 0 1,Jl 24 1 23,Cv 25 5,jK 26 .sub 25 1,ji 27 1 24 26,jl 28 1 27,jp 29 YF 28,jB 30 .mul 22 29,Cv 4 30]))) (.region [Cv 16 5,jK 17 .sub 16 1,Cv 5 17])))
def uQ:Xa:=⟨1,[.tmp 2],(jQ [jR 1 2 0,jc 2 .oa] (jQ [Jf 6 0 1,Jl 7 1 6,jn 8 0 7,jK 9 .add 8 1,Co 10 (.oj .own 1 false [(.int .i64 0)] 8 (.t 9) (.t 9)),Cv 3 10] (jQ [jk 4 1] (.seq (jQ [Jf 11 0 1,Jl 12 1 11,jn 13 0 12,Cv 5 13] (.block 0 (.loop [1,3,4,5] yD))) (jQ [Cv 31 3,Cv 32 4,Co 33 (.kj 1 31 0),jS 1 33 32] (jr [Cv 34 3,Cv 2 34]))))))⟩
theorem mag:Hb P fo 84 uQ:=fM Go.Proofs.Tryz.func84 (dC W5 dN)
def UF:=oc (fun _=>none) uQ
theorem U5:Nb P 84 UF:=Jc Rc mag
def BA:Ya:=(jQ [jB 27 .lss 26 25] (.seq (jX 27 0) (.seq (.block 1 (jQ [Cv 28 26,ji 29 1 24 26,jl 30 1 29,Cv 7 28,Cv 8 30] (jQ [Jf 32 0 2,Jl 33 1 32,Cv 34 7,Ji 35 1 33 34,Jl 36 1 35,Cv 37 1,Cv 38 7,Ji 39 1 37 38,Jl 40 1 39,Cp 41 (.conv .i64 (.t 40)),jq 42 XF 36 41,Cv 31 42,jx 43 0 31,jx 44 1 31,Cv 9 43,Cv 10 44] (.seq (jQ [Cv 45 10,jt 46 45] (jC 46 (jr [jk 4 0,jb 5 false]) .skip)) (.region [Cv 47 6,Cv 48 9,Cv 49 8,jB 50 .mul 48 49,jB 51 .add 47 50,Cv 6 51]))))) (.region [jK 52 .add 26 1,Cv 26 52]))))
def WG:Xa:=⟨2,[.tmp 4,.tmp 5],(jQ [jR 2 2 0,jk 4 0,jb 5 false] (.seq (jQ [JL 11 2 2,jp 12 Jz 11,jt 13 12,Cv 14 13,jF 15 14 (.km 1),jF 16 14 (.kn 0 15),JF 17 14 (.kf 0 2),JF 18 14 (.kl 1 17),jF 19 14 (.kn 0 18),jF 20 14 (.kB .neq 16 19),jo 21 14 20] (jC 21 (jr [jk 4 0,jb 5 false]) .skip)) (jQ [jk 6 0] (.seq (jQ [JL 22 2 2,jp 23 UF 22,Co 24 (.slice 1 (.t 23) (some (.c (.int .i64 1))) none),jn 25 0 24,jk 26 0] (.block 0 (.loop [1,2,6,24,25,26] BA))) (jr [Cv 53 6,Cv 4 53,jb 5 true])))))⟩
theorem kag:Hb P fo 53 WG:=fM Go.Proofs.Tryz.func53 (dC WN (dC U5 (dC V5 dN)))
def qx:=oc (fun _=>none) WG
theorem Ran:Nb P 53 qx:=Jc Rc kag
def gD:Ya:=(jQ [jB 20 .lss 19 18] (.seq (jX 20 0) (.seq (.block 1 (jQ [ji 21 1 17 19,jl 22 1 21,Cv 7 22] (.region [Cv 23 5,Cv 24 7,Co 25 (.kj 2 24 0),jf 26 0 25,jl 27 1 26,Co 28 (.conv .u8 (.t 27)),Co 29 (.Fc .lit 1 false 1 [(.int .u8 0)] [(0,(.t 28))]),Co 30 (.ku 1 false 1 23 29),Cv 5 30]))) (.region [jK 31 .add 19 1,Cv 19 31]))))
def JP:Xa:=⟨2,[.tmp 4],(jQ [jR 2 2 0,jk 4 0] (jQ [Co 10 (.Fc .uq 1 false 0 [(.int .u8 0)] []),Cv 11 1,Co 12 (.ku 1 false 1 10 11),Cv 5 12] (.seq (jQ [Jf 13 0 2,Jl 14 1 13,Cv 15 1,jn 16 0 15,Co 17 (.slice 1 (.t 14) (some (.t 16)) none),jn 18 0 17,jk 19 0] (.block 0 (.loop [2,5,17,18,19] gD))) (jQ [JL 33 2 2,Cv 34 5,jq 35 qx 33 34,Cv 32 35,jx 36 0 32,jx 37 1 32,Cv 8 36,Cv 9 37] (jr [Jf 38 1 2,Jl 39 1 38,Cv 40 8,jB 41 .add 39 40,Cv 4 41])))))⟩
theorem caf:Hb P fo 123 JP:=fM Go.Proofs.Tryz.func123 (dC Ran dN)
def DC:=oc (fun _=>none) JP
theorem F5:Nb P 123 DC:=Jc Rc caf
def iA:Ya:=(jQ [jB 30 .lss 29 28] (.seq (jX 30 2) (.seq (.block 3 (jQ [Cv 31 29,ji 32 2 27 29,jL 33 2 32,Co 10 (.alloc [.oa,(.int .i64 0)]),Cv 9 31,jS 2 10 33] (.seq (jQ [Cv 34 1,Cv 35 7,Cv 36 9,Co 37 (.Lx (.t 34) [(.t 35),(.t 36)]),jt 38 37] (jC 38 (.exit 3) .skip)) (jQ [jL 40 2 8,jL 41 2 10,jf 42 0 8,jl 43 1 42,jn 44 0 43,Co 45 (.kr Iz 40 41 44),Cv 39 45,jx 46 0 39,jx 47 1 39,Cv 11 46,Cv 12 47] (jQ [Cv 48 12] (jC 48 (jQ [jL 49 2 8,Cv 50 11,jq 51 DC 49 50,jL 52 2 10,Cv 53 11,jq 54 DC 52 53,Co 55 (.build [(.bool false),(.int .i64 0),(.int .i64 0)] [(1,1,(.t 51)),(2,1,(.t 54))]),jS 3 6 55] (.exit 0)) .skip)))))) (.region [jK 56 .add 29 1,Cv 29 56]))))
def rG:Ya:=(jQ [jB 22 .lss 21 20] (.seq (jX 22 0) (.seq (.block 1 (jQ [Cv 23 21,ji 24 2 19 21,jL 25 2 24,Co 8 (.alloc [.oa,(.int .i64 0)]),Cv 7 23,jS 2 8 25] (jQ [Jf 26 0 2,Jl 27 1 26,jn 28 0 27,jk 29 0] (.block 2 (.loop [1,2,4,6,7,8,19,20,21,27,28,29] iA))))) (.region [jK 57 .add 21 1,Cv 21 57]))))
def Bv:Xa:=⟨2,[.cell 4 true 3,.tmp 5],(jQ [jR 2 1 0,Co 4 (.alloc [(.bool false),(.int .i64 0),(.int .i64 0)]),jk 5 0] (.scope (.seq (jQ [JL 13 1 2,jp 14 Zu 13,jt 15 14] (jC 15 (jr [Co 16 (.build [(.bool false),(.int .i64 0),(.int .i64 0)] []),jS 3 4 16,jk 5 84]) .skip)) (jQ [Co 17 (.build [(.bool false),(.int .i64 0),(.int .i64 0)] [(0,1,(.c (.bool true)))]),Co 6 (.alloc [(.bool false),(.int .i64 0),(.int .i64 0)]),jS 3 6 17] (.seq .skip (.seq (jQ [Jf 18 0 2,Jl 19 1 18,jn 20 0 19,jk 21 0] (.block 0 (.loop [1,2,4,6,19,20,21] rG))) (jr [jL 58 3 6,jS 3 4 58,jk 5 0])))))))⟩
theorem zY:Hb P fo 94 Bv:=fM Go.Proofs.Tryz.func94 (dC R5 (dC Pan (dC F5 (dC F5 dN))))
def UK:Xa:=⟨1,[.cell 2 true 3,.tmp 3],(jQ [Co 1 (.box 1 (.t 0)),Co 2 (.alloc [(.bool false),(.int .i64 0),(.int .i64 0)]),jk 3 0] (jr [jL 4 1 1,Co 5 (.Fw 4 [(.t 1)]),Co 6 (.zf 25 [(.t 4),(.t 5)]),jx 7 0 6,jx 8 1 6,jS 3 2 7,Cv 3 8]))⟩
theorem aaf:Hb P fo 90 UK:=fM Go.Proofs.Tryz.func90 dN
def BF:Nat->Option Xa
 |4=>some fD
 |25=>some Bv
 |_=>none
theorem Gar:Vo P fo BF:=by
 intro ix af h;unfold BF at h
 split at h
 ·injection h with h;subst h;exact baf
 ·injection h with h;subst h;exact zY
 ·cases h
def Qr:=oc BF UK
theorem fan:Nb P 90 Qr:=Jc Gar aaf
def sL:Xa:=⟨1,[.tmp 2],(jQ [jc 2 .oa] (.seq (jQ [Cv 3 0,Co 4 (.eq 2 false (.t 3) (.c .oa))] (jC 4 (jr [jc 2 .oa]) .skip)) (jr [Co 5 (.Fc .uq 2 true 0 [(.int .i64 0),(.int .i64 0)] []),Cv 6 0,Co 7 (.ku 2 true 16 5 6),Cv 2 7])))⟩
theorem nag:Hb P fo 96 sL:=fM Go.Proofs.Tryz.func96 dN
def VF:=oc (fun _=>none) sL
theorem San:Nb P 96 VF:=Jc Rc nag
def uD:Ya:=(jQ [jB 23 .lss 22 21] (.seq (jX 23 2) (.seq (.block 3 (jQ [ji 24 1 20 22,jl 25 1 24,Cv 8 25] (.region [jf 26 0 6,jl 27 1 26,Cv 28 8,jp 29 VF 28,Co 30 (.Fc .lit 1 false 1 [.oa] [(0,(.t 29))]),Co 31 (.ku 1 false 24 27 30),jf 32 0 6,jS 1 32 31]))) (.region [jK 33 .add 22 1,Cv 22 33]))))
def tD:Ya:=(jQ [jB 13 .lss 12 11] (.seq (jX 13 0) (.seq (.block 1 (jQ [ji 14 2 10 12,jL 15 2 14,Co 5 (.alloc [.oa,(.int .i64 0)]),jS 2 5 15] (jQ [jf 16 1 5,jl 17 1 16,Co 18 (.build [.oa,(.int .i64 0)] [(1,1,(.t 17))]),Co 6 (.alloc [.oa,(.int .i64 0)]),jS 2 6 18] (.ghost (.yt 6 0 1) (.seq (jQ [jf 19 0 5,jl 20 1 19,jn 21 0 20,jk 22 0] (.block 2 (.loop [2,3,6,10,11,12,20,21,22] uD))) (.region [jf 34 0 3,jl 35 1 34,jL 36 2 6,Co 37 (.Fc .lit 2 true 1 [.oa,(.int .i64 0)] [(0,(.t 36))]),Co 38 (.ku 2 true 32 35 37),jf 39 0 3,jS 1 39 38])))))) (.region [jK 40 .add 12 1,Cv 12 40]))))
def nL:Xa:=⟨1,[.cell 2 true 1],(jQ [jR 1 1 0,Co 2 (.alloc [.oa])] (jQ [Co 3 (.alloc [.oa])] (.ghost (.yt 3 0 2) (.seq (jQ [Jf 9 0 1,Jl 10 1 9,jn 11 0 10,jk 12 0] (.block 0 (.loop [2,3,10,11,12] tD))) (jr [jL 41 1 3,jS 1 2 41])))))⟩
theorem Raf:Hb P fo 64 nL:=fM Go.Proofs.Tryz.func64 (dC San dN)
def Hz:=oc (fun _=>none) nL
theorem Q5:Nb P 64 Hz:=Jc Rc Raf
def zv:Xa:=⟨2,[.tmp 4,.tmp 5],(jQ [jR 3 2 1,jk 4 0,jb 5 false] (jQ [Cv 9 0,jz 10 9,jf 11 1 10,jl 12 1 11,JL 13 2 3,Co 14 (.lookup (.row [1,1]) (.int .i64 0) true (.t 12) (.t 13)),Cv 8 14,jx 15 0 8,jx 16 1 8,Cv 6 15,Cv 7 16] (.seq (jQ [Cv 17 7,jt 18 17] (jC 18 (jQ [Cv 19 0,jz 20 19,jf 21 2 20,jl 22 1 21,jn 23 0 22,Cv 6 23] (.seq (jQ [Cv 24 6,jK 25 .eql 24 64] (jC 25 (jr [jk 4 0,jb 5 false]) .skip)) (jQ [Cv 26 0,jz 27 26,jf 28 1 27,jl 29 1 28,JL 30 2 3,Cv 31 6,Ce (.Cw (.row [1,1]) (.t 29) (.t 30) (.t 31))] (.region [Cv 32 0,Cv 33 0,jz 34 33,jf 35 2 34,jl 36 1 35,JL 37 2 3,Co 38 (.Fc .lit 2 true 1 [(.int .i64 0),(.int .u32 0)] [(0,(.t 37))]),Co 39 (.ku 2 true 16 36 38),jz 40 32,jf 41 2 40,jS 1 41 39])))) .skip)) (jr [Cv 42 6,Cv 4 42,jb 5 true]))))⟩
theorem Rae:Hb P fo 119 zv:=fM Go.Proofs.Tryz.func119 dN
def js:Ya:=(jQ [jB 19 .lss 18 17] (.seq (jX 19 0) (.seq (.block 1 (jQ [Cv 20 18,ji 21 2 16 18,jL 22 2 21,Co 11 (.alloc [.oa,(.int .i64 0)]),Cv 10 20,jS 2 11 22] (jQ [Jf 23 1 4,Jl 24 1 23,Cv 25 10,jB 26 .shr 24 25,Co 27 (.bin .and (.t 26) (.c (.int .u32 1))),Co 28 (.bin .eql (.t 27) (.c (.int .u32 1))),Cv 29 28,jT 30 29 (.kf 0 11),jT 31 29 (.kl 1 30),JT 32 29 (.kf 0 4),JT 33 29 (.kl 1 32),jT 34 29 (.ki 1 31 33),jT 35 29 (.kl 1 34),jT 36 29 (.km 2),jT 37 29 (.kq yz 35 36),ja 38 29 37] (jC 38 (jQ [Cv 39 8,Cv 40 10,Co 41 (.bin .shl (.c (.int .u32 1)) (.t 40)),jB 42 .or 39 41,Cv 8 42] (.region [Cv 43 9,Cv 44 43,jF 45 44 (.kf 0 11),jF 46 44 (.kl 1 45),jF 47 44 (.kn 0 46),JF 48 44 (.kf 0 4),JF 49 44 (.kl 1 48),jF 50 44 (.kK .add 49 1),jF 51 44 (.kB .eql 47 50),jo 52 44 51,Cv 9 52])) .skip)))) (.region [jK 53 .add 18 1,Cv 18 53]))))
def RK:Xa:=⟨3,[.tmp 6,.tmp 7],(jQ [jR 4 2 1,Co 6 (.move (.c (.int .u32 0))),jb 7 false] (jQ [Co 8 (.move (.c (.int .u32 0)))] (jQ [jb 9 false] (.seq (jQ [Cv 12 0,jz 13 12,jf 14 0 13,jf 15 0 14,jl 16 1 15,jn 17 0 16,jk 18 0] (.block 0 (.ml [2,4,8,9,16,17,18] js))) (jr [Cv 54 8,Cv 55 9,Cv 6 54,Cv 7 55])))))⟩
theorem Pae:Hb P fo 120 RK:=fM Go.Proofs.Tryz.func120 (dC dac dN)
def Mj:Ya:=(jQ [jK 31 .lss 30 256] (.seq (jX 31 2) (.seq (.block 3 (jQ [Cv 32 30,Cv 5 32] (jQ [Cv 34 0,Cv 35 0,jz 36 35,jf 37 2 36,jl 38 1 37,Cv 39 3,ji 40 2 38 39,jL 41 2 40,Cv 42 5,Co 43 (.zf 27 [(.t 34),(.t 41),(.t 42)]),Cv 33 43,jx 44 0 33,jx 45 1 33,Cv 6 44,Cv 7 45] (.block 4 (jQ [Cv 68 6,Co 69 (.bin .eql (.t 68) (.c (.int .u32 0))),Cv 67 69] (jC 67 (.region [Cv 70 5,Co 71 (.kA 256 1 4 70),Ce (.store 1 (.t 71) (.c (.int .i64 (-2))))]) (jQ [Cv 73 7,Cv 72 73] (jC 72 (.region [Cv 74 5,Co 75 (.kA 256 1 4 74),Ce (.store 1 (.t 75) (.c (.int .i64 (-1))))]) (jQ [Cv 47 0,Cv 48 0,jz 49 48,jf 50 2 49,jl 51 1 50,Cv 52 3,ji 53 2 51 52,jf 54 0 53,jl 55 1 54,jK 56 .add 55 1,Cv 57 6,Co 58 (.build [(.int .i64 0),(.int .u32 0)] [(0,1,(.t 56)),(1,1,(.t 57))]),Co 59 (.zf 26 [(.t 47),(.t 58)]),Cv 46 59,jx 60 0 46,jx 61 1 46,Cv 8 60,Cv 9 61] (.seq (jQ [Cv 62 9,jt 63 62] (jC 63 (jr [jb 2 false]) .skip)) (.region [Cv 64 5,Cv 65 8,Co 66 (.kA 256 1 4 64),jS 1 66 65]))))))))))) (.region [jK 76 .add 30 1,Cv 30 76]))))
def Yo:Ya:=(.seq (jQ [Cv 21 3,Cv 22 0,jz 23 22,jf 24 2 23,jl 25 1 24,jn 26 0 25,jB 27 .lss 21 26] (jX 27 0)) (.seq (.block 1 (jQ [Co 4 (.alloc (List.replicate 256 (.int .i64 0)))] (.seq (jQ [jk 30 0] (.block 2 (.loop [0,3,4,30] Mj))) (.region [Cv 77 0,Cv 78 0,jz 79 78,jf 80 3 79,jl 81 1 80,jL 82 256 4,Co 83 (.Fc .lit 256 true 1 (List.replicate 256 (.int .i64 0)) [(0,(.t 82))]),Co 84 (.append true .own 256 true 2048 (.t 81) (.t 83)),jz 85 77,jf 86 3 85,jS 1 86 84])))) (.region [Cv 28 3,jK 29 .add 28 1,Cv 3 29])))
def eD:Xa:=⟨1,[.tmp 2],(jQ [jb 2 false] (jQ [Cv 10 0,Cv 11 0,jz 12 11,jf 13 0 12,jf 14 0 13,jl 15 1 14,jn 16 0 15,Co 17 (.bin .shl (.c (.int .u32 1)) (.t 16)),Co 18 (.bin .sub (.t 17) (.c (.int .u32 1))),Co 19 (.build [(.int .i64 0),(.int .u32 0)] [(1,1,(.t 18))]),Co 20 (.zf 26 [(.t 10),(.t 19)])] (.seq (jQ [jk 3 0] (.block 0 (.loop [0,3] Yo))) (jr [jb 2 true]))))⟩
theorem Tae:Hb P fo 91 eD:=fM Go.Proofs.Tryz.func91 dN
def yv:Ya:=(jQ [jK 35 .lss 34 256] (.seq (jX 35 2) (.seq (.block 3 (jQ [Cv 36 34,Co 37 (.Lu 256 1 false (.t 33) (.t 34)),Cv 6 36,Cv 7 37] (jQ [Cv 38 7,jK 39 .geq 38 0] (jC 39 (.region [Cv 40 0,jz 41 40,jf 42 3 41,jl 43 1 42,Cv 44 5,Cv 45 6,Cv 46 3,Cv 47 7,ji 48 1 46 47,jl 49 1 48,ji 50 256 43 44,Co 51 (.kA 256 1 50 45),jS 1 51 49]) .skip)))) (.region [jK 52 .add 34 1,Cv 34 52]))))
def eA:Ya:=(.seq (jQ [Cv 23 5,jK 24 .geq 23 0] (jX 24 0)) (.seq (.block 1 (.seq (jQ [Cv 27 0,jz 28 27,jf 29 3 28,jl 30 1 29,Cv 31 5,ji 32 256 30 31,jL 33 256 32,jk 34 0] (.block 2 (.ml [0,3,4,5,33,34] yv))) (jQ [Cv 54 4,Cv 55 0,jz 56 55,jf 57 3 56,jl 58 1 57,Cv 59 5,ji 60 256 58 59,jL 61 256 60,Co 62 (.lookup (.row (List.replicate 256 1)) (.int .i64 0) true (.t 54) (.t 61)),Cv 53 62,jx 63 0 53,jx 64 1 53,Cv 8 63,Cv 9 64] (.seq (jQ [Cv 65 9,jt 66 65] (jC 66 (jQ [Cv 67 5,Cv 8 67] (.region [Cv 68 4,Cv 69 0,jz 70 69,jf 71 3 70,jl 72 1 71,Cv 73 5,ji 74 256 72 73,jL 75 256 74,Cv 76 5,Ce (.Cw (.row (List.replicate 256 1)) (.t 68) (.t 75) (.t 76))])) .skip)) (.region [Cv 77 3,Cv 78 5,Cv 79 8,ji 80 1 77 78,jS 1 80 79]))))) (.region [Cv 25 5,jK 26 .sub 25 1,Cv 5 26])))
def SK:Xa:=⟨1,[.tmp 2],(jQ [jc 2 .oa] (jQ [Cv 10 0,jz 11 10,jf 12 2 11,jl 13 1 12,jn 14 0 13,Co 15 (.oj .own 1 false [(.int .i64 0)] 8 (.t 14) (.t 14)),Cv 3 15] (jQ [Co 16 (.NB),Cv 4 16] (.seq (jQ [Cv 17 0,jz 18 17,jf 19 2 18,jl 20 1 19,jn 21 0 20,jK 22 .sub 21 1,Cv 5 22] (.block 0 (.ml [0,3,4,5] eA))) (jr [Cv 81 3,Cv 2 81])))))⟩
theorem Qae:Hb P fo 92 SK:=fM Go.Proofs.Tryz.func92 dN
def Zo:Ya:=(jQ [jK 9 .lss 8 256] (.seq (jX 9 0) (.seq (.block 1 (jQ [Cv 10 8,Co 11 (.Lu 256 1 false (.t 7) (.t 8)),Cv 4 10,Cv 5 11] (.seq (jQ [Cv 12 5,jK 13 .eql 12 (-2)] (jC 13 (.exit 1) .skip)) (.seq (jQ [Cv 14 3,jn 15 0 14,Cv 6 15] (jQ [Cv 16 6,jK 17 .gtr 16 0,Cv 18 17,jT 19 18 (.km 3),jT 20 18 (.km 6),jT 21 18 (.kK .sub 20 1),jT 22 18 (.ki 3 19 21),jT 23 18 (.kf 2 22),jT 24 18 (.kl 1 23),jT 25 18 (.km 5),jT 26 18 (.kB .eql 24 25),ja 27 18 26,Cv 28 27,jT 29 28 (.km 3),jT 30 28 (.km 6),jT 31 28 (.kK .sub 30 1),jT 32 28 (.ki 3 29 31),jT 33 28 (.kf 1 32),jT 34 28 (.kl 1 33),jT 35 28 (.km 4),jT 36 28 (.kK .sub 35 1),jT 37 28 (.kB .eql 34 36),ja 38 28 37] (jC 38 (jQ [Cv 39 3,Cv 40 6,jK 41 .sub 40 1,Cv 42 4,ji 43 3 39 41,jf 44 1 43,jS 1 44 42] (.exit 1)) .skip))) (.region [Cv 45 3,Cv 46 4,Cv 47 4,Cv 48 5,Co 49 (.build [(.int .i64 0),(.int .i64 0),(.int .i64 0)] [(0,1,(.t 46)),(1,1,(.t 47)),(2,1,(.t 48))]),Co 50 (.Fc .lit 3 true 1 [(.int .i64 0),(.int .i64 0),(.int .i64 0)] [(0,(.t 49))]),Co 51 (.append true .own 3 true 24 (.t 45) (.t 50)),Cv 3 51]))))) (.region [jK 52 .add 8 1,Cv 8 52]))))
def EP:Xa:=⟨1,[.tmp 2],(jQ [jR 1 256 0,jc 2 .oa] (jQ [jc 3 .oa] (.ghost (.cF 3 3 true) (.seq (jQ [JL 7 256 1,jk 8 0] (.block 0 (.ml [3,7,8] Zo))) (jr [Cv 53 3,Cv 2 53])))))⟩
theorem Uae:Hb P fo 121 EP:=fM Go.Proofs.Tryz.func121 dN
def SJ:=oc (fun _=>none) EP
theorem aan:Nb P 121 SJ:=Jc Rc Uae
def Vt:Ya:=(jQ [jK 33 .lss 32 256] (.seq (jX 33 2) (.seq (.block 3 (jQ [Cv 34 32,Co 35 (.Lu 256 1 false (.t 31) (.t 32)),Cv 8 34,Cv 9 35] (.seq (jQ [Cv 36 9,jK 37 .lss 36 0] (jC 37 (.exit 3) .skip)) (jQ [Cv 39 3,Cv 40 9,Co 41 (.lookup (.one 1) (.int .i64 0) true (.t 39) (.t 40)),Cv 38 41,jx 42 0 38,jx 43 1 38,Cv 10 42,Cv 11 43] (.seq (jQ [Cv 44 11,jt 45 44] (jC 45 (jQ [Cv 46 4,jn 47 0 46,Cv 10 47] (jQ [Cv 48 3,Cv 49 9,Cv 50 10,Ce (.Cw (.one 1) (.t 48) (.t 49) (.t 50))] (.region [Cv 51 4,Cv 52 9,Co 53 (.Fc .lit 1 false 1 [(.int .i64 0)] [(0,(.t 52))]),Co 54 (.ku 1 false 8 51 53),Cv 4 54]))) .skip)) (.region [Cv 55 8,Cv 56 10,Co 57 (.kA 256 1 7 55),jS 1 57 56])))))) (.region [jK 58 .add 32 1,Cv 32 58]))))
def Hx:Ya:=(.seq (jQ [Cv 15 6,Cv 16 4,jn 17 0 16,jB 18 .lss 15 17] (jX 18 0)) (.seq (.block 1 (jQ [Cv 21 0,jz 22 21,jf 23 3 22,jl 24 1 23,Cv 25 4,Cv 26 6,ji 27 1 25 26,jl 28 1 27,ji 29 256 24 28,jL 30 256 29,Co 7 (.alloc (List.replicate 256 (.int .i64 0))),jS 256 7 30] (.seq (jQ [jL 31 256 7,jk 32 0] (.block 2 (.ml [0,2,3,4,5,6,7,31,32] Vt))) (.region [jf 59 0 5,jl 60 1 59,jL 61 256 7,jp 62 SJ 61,Co 63 (.Fc .lit 1 false 1 [.oa] [(0,(.t 62))]),Co 64 (.ku 1 false 24 60 63),jf 65 0 5,jS 1 65 64])))) (.region [Cv 19 6,jK 20 .add 19 1,Cv 6 20])))
def TK:Xa:=⟨1,[.cell 2 true 1],(jQ [Co 2 (.alloc [.oa])] (jQ [Co 12 (.NB),Ce (.Cw (.one 1) (.t 12) (.c (.int .i64 0)) (.c (.int .i64 0))),Cv 13 12,Cv 3 13] (jQ [Co 14 (.Fc .uq 1 false 1 [(.int .i64 0)] [(0,(.c (.int .i64 0)))]),Cv 4 14] (jQ [Co 5 (.alloc [.oa])] (.ghost (.yt 5 0 1) (.seq (jQ [jk 6 0] (.block 0 (.ml [0,2,3,4,5,6] Hx))) (jr [jL 66 1 5,jS 1 2 66])))))))⟩
theorem Sae:Hb P fo 93 TK:=fM Go.Proofs.Tryz.func93 (dC aan dN)
def dD:Xa:=⟨1,[.cell 2 true 1,.tmp 3],(jQ [jR 1 1 0,Co 2 (.alloc [.oa]),jk 3 0] (jQ [JL 8 1 1,jp 9 Qr 8,Cv 7 9,jx 10 0 7,jx 11 1 7,Co 4 (.alloc [(.bool false),(.int .i64 0),(.int .i64 0)]),jS 3 4 10,Cv 5 11] (.seq (.block 0 (jQ [Cv 13 5,jK 14 .neq 13 0,Cv 12 14] (jC 12 (jr [Co 15 (.build [.oa] []),Cv 16 5,jS 1 2 15,Cv 3 16]) (jQ [jf 18 0 4,jl 19 1 18,jt 20 19,Cv 17 20] (jC 17 (jr [Co 21 (.build [.oa] []),jS 1 2 21,jk 3 110]) .skip))))) (jQ [JL 22 1 1,jp 23 Hz 22,Co 24 (.NB),Co 25 (.build [.oa,.Gk,.oa,.oa] [(0,1,(.t 23)),(1,1,(.t 24))]),Co 26 (.box 4 (.t 25)),Cv 6 26] (.ghost (.yt 26 2 2) (.ghost (.JN 26 3 256 true) (.seq (jQ [Cv 27 6,Co 28 (.zf 28 [(.t 27)]),jt 29 28] (jC 29 (jr [Co 30 (.build [.oa] []),jS 1 2 30,jk 3 130]) .skip)) (jQ [Cv 31 6,Co 32 (.zf 29 [(.t 31)])] (jr [Cv 33 6,Co 34 (.zf 30 [(.t 33)]),jS 1 2 34,jk 3 0])))))))))⟩
theorem Oae:Hb P fo 62 dD:=fM Go.Proofs.Tryz.func62 (dC fan (dC Q5 dN))
def ue:Nat->Option Xa
 |26=>some zv
 |27=>some RK
 |28=>some eD
 |29=>some SK
 |30=>some TK
 |_=>none
theorem Ear:Vo P fo ue:=by
 intro ix af h;unfold ue at h
 split at h
 ·injection h with h;subst h;exact Rae
 ·injection h with h;subst h;exact Pae
 ·injection h with h;subst h;exact Tae
 ·injection h with h;subst h;exact Qae
 ·injection h with h;subst h;exact Sae
 ·cases h
def qk:=oc ue dD
theorem Zam:Nb P 62 qk:=Jc Ear Oae
def BG:Ya:=(.seq (jQ [Cv 8 4,Jf 9 0 1,Jl 10 1 9,jn 11 0 10,jB 12 .lss 8 11] (jX 12 0)) (.seq (.block 1 (.region [jf 15 0 3,jl 16 1 15,Co 17 (.Fc .uq 2 true 0 [(.int .i64 0),(.int .i64 0)] []),Jf 18 0 1,Jl 19 1 18,Cv 20 4,Ji 21 1 19 20,Jl 22 1 21,Co 23 (.ku 2 true 16 17 22),Co 24 (.Fc .lit 1 false 1 [.oa] [(0,(.t 23))]),Co 25 (.ku 1 false 24 16 24),jf 26 0 3,jS 1 26 25])) (.region [Cv 13 4,jK 14 .add 13 1,Cv 4 14])))
def TP:Xa:=⟨1,[.cell 2 true 2],(jQ [jR 1 2 0,Co 2 (.alloc [.oa,(.int .i64 0)])] (jQ [Jf 5 1 1,Jl 6 1 5,Co 7 (.build [.oa,(.int .i64 0)] [(1,1,(.t 6))]),Co 3 (.alloc [.oa,(.int .i64 0)]),jS 2 3 7] (.ghost (.yt 3 0 1) (.seq (jQ [jk 4 0] (.block 0 (.loop [1,2,3,4] BG))) (jr [jL 27 2 3,jS 2 2 27])))))⟩
theorem saf:Hb P fo 70 TP:=fM Go.Proofs.Tryz.func70 dN
def cK:=oc (fun _=>none) TP
theorem ran:Nb P 70 cK:=Jc Rc saf
def CG:Ya:=(.seq (jQ [Cv 6 4,Jf 7 0 1,Jl 8 1 7,jn 9 0 8,jB 10 .lss 6 9] (jX 10 0)) (.seq (.block 1 (.region [jf 13 0 3,jl 14 1 13,Jf 15 0 1,Jl 16 1 15,Cv 17 4,Ji 18 2 16 17,JL 19 2 18,jp 20 cK 19,Co 21 (.Fc .lit 2 true 1 [.oa,(.int .i64 0)] [(0,(.t 20))]),Co 22 (.ku 2 true 32 14 21),jf 23 0 3,jS 1 23 22])) (.region [Cv 11 4,jK 12 .add 11 1,Cv 4 12])))
def RP:Xa:=⟨1,[.cell 2 true 1],(jQ [jR 1 1 0,Co 2 (.alloc [.oa])] (jQ [Co 5 (.build [.oa] []),Co 3 (.alloc [.oa]),jS 1 3 5] (.ghost (.yt 3 0 2) (.seq (jQ [jk 4 0] (.block 0 (.loop [1,2,3,4] CG))) (jr [jL 24 1 3,jS 1 2 24])))))⟩
theorem raf:Hb P fo 45 RP:=fM Go.Proofs.Tryz.func45 (dC ran dN)
def bK:=oc (fun _=>none) RP
theorem qan:Nb P 45 bK:=Jc Rc raf
def Yt:Ya:=(.seq (jQ [Cv 4 3,Cv 5 0,jn 6 0 5,jB 7 .lss 4 6] (jX 7 0)) (.seq (.block 1 (jQ [Cv 10 0,Cv 11 3,Ji 12 2 10 11,jf 13 0 12,jl 14 1 13,jK 15 .lss 14 0,Cv 16 15,jF 17 16 (.km 0),jF 18 16 (.km 3),JF 19 16 (.ki 2 17 18),jF 20 16 (.kf 0 19),jF 21 16 (.kl 1 20),jF 22 16 (.km 0),jF 23 16 (.km 3),JF 24 16 (.ki 2 22 23),jF 25 16 (.kf 1 24),jF 26 16 (.kl 1 25),jF 27 16 (.kB .gtr 21 26),jo 28 16 27,Cv 29 28,jF 30 29 (.km 0),jF 31 29 (.km 3),JF 32 29 (.ki 2 30 31),jF 33 29 (.kf 1 32),jF 34 29 (.kl 1 33),jF 35 29 (.kK .gtr 34 255),jo 36 29 35,Cv 37 36,jF 38 37 (.km 3),jF 39 37 (.kK .gtr 38 0),jF 40 37 (.km 39),jT 41 40 (.km 0),jT 42 40 (.km 3),JT 43 40 (.ki 2 41 42),jT 44 40 (.kf 0 43),jT 45 40 (.kl 1 44),jT 46 40 (.km 0),jT 47 40 (.km 3),jT 48 40 (.kK .sub 47 1),JT 49 40 (.ki 2 46 48),jT 50 40 (.kf 1 49),jT 51 40 (.kl 1 50),jT 52 40 (.kK .add 51 1),jT 53 40 (.kB .leq 45 52),jF 54 37 (.ka 40 53),jo 55 37 54] (jC 55 (jr [jb 2 false]) .skip))) (.region [Cv 8 3,jK 9 .add 8 1,Cv 3 9])))
def QP:Xa:=⟨1,[.tmp 2],(jQ [jb 2 false] (.seq (jQ [jk 3 0] (.block 0 (.loop [0,3] Yt))) (jr [jb 2 true])))⟩
theorem qaf:Hb P fo 157 QP:=fM Go.Proofs.Tryz.func157 dN
def OF:=oc (fun _=>none) QP
theorem K5:Nb P 157 OF:=Jc Rc qaf
def AG:Ya:=(.seq (jQ [Cv 21 5,Cv 22 0,Cv 23 4,ji 24 2 22 23,jf 25 1 24,jl 26 1 25,jB 27 .leq 21 26] (jX 27 2)) (.seq (.block 3 (.region [Cv 30 5,Co 31 (.kA 256 1 3 30),Ce (.store 1 (.t 31) (.c (.bool true)))])) (.region [Cv 28 5,jK 29 .add 28 1,Cv 5 29])))
def zG:Ya:=(.seq (jQ [Cv 10 4,Cv 11 0,jn 12 0 11,jB 13 .lss 10 12] (jX 13 0)) (.seq (.block 1 (jQ [Cv 16 0,Cv 17 4,ji 18 2 16 17,jf 19 0 18,jl 20 1 19,Cv 5 20] (.block 2 (.loop [0,2,3,4,5] AG)))) (.region [Cv 14 4,jK 15 .add 14 1,Cv 4 15])))
def ZK:Xa:=⟨1,[.cell 2 true 256],(jQ [Co 2 (.alloc (List.replicate 256 (.bool false)))] (jQ [Co 3 (.alloc (List.replicate 256 (.bool false)))] (.seq (jQ [Cv 6 0,jp 7 OF 6,jt 8 7] (jC 8 (jr [jL 9 256 3,jS 256 2 9]) .skip)) (.seq (jQ [jk 4 0] (.block 0 (.loop [0,2,3,4] zG))) (jr [jL 32 256 3,jS 256 2 32])))))⟩
theorem oaf:Hb P fo 135 ZK:=fM Go.Proofs.Tryz.func135 (dC K5 dN)
def Cz:=oc (fun _=>none) ZK
theorem wU:Nb P 135 Cz:=Jc Rc oaf
def kD:Ya:=(.seq (jQ [Cv 8 5,jK 9 .leq 8 255] (jX 9 0)) (.seq (.block 1 (jQ [Cv 12 5,Co 13 (.kA 256 1 3 12),jl 14 1 13] (jC 14 (.region [Cv 15 4,jK 16 .add 15 1,Cv 4 16]) .skip))) (.region [Cv 10 5,jK 11 .add 10 1,Cv 5 11])))
def OP:Xa:=⟨1,[.tmp 2],(jQ [jk 2 0] (jQ [Cv 6 0,jp 7 Cz 6,Co 3 (.alloc (List.replicate 256 (.bool false))),jS 256 3 7,jk 4 0] (.seq (jQ [jk 5 0] (.block 0 (.loop [3,4,5] kD))) (jr [Cv 17 4,Cv 2 17]))))⟩
theorem paf:Hb P fo 162 OP:=fM Go.Proofs.Tryz.func162 (dC wU dN)
def aK:=oc (fun _=>none) OP
theorem pan:Nb P 162 aK:=Jc Rc paf
def mD:Ya:=(.seq (jQ [Cv 5 4,Jf 6 0 1,Jl 7 1 6,jn 8 0 7,jB 9 .lss 5 8] (jX 9 0)) (.seq (.block 1 (jQ [Cv 12 3,Jf 13 0 1,Jl 14 1 13,Cv 15 4,ji 16 1 14 15,jl 17 1 16,jp 18 aK 17,jB 19 .mul 12 18,Cv 3 19] (jQ [Cv 20 3,jK 21 .gtr 20 1073741824] (jC 21 (.region [jk 3 1073741825]) .skip)))) (.region [Cv 10 4,jK 11 .add 10 1,Cv 4 11])))
def UP:Xa:=⟨1,[.tmp 2],(jQ [jR 1 2 0,jk 2 0] (jQ [jk 3 1] (.seq (jQ [jk 4 0] (.block 0 (.loop [1,3,4] mD))) (jr [Cv 22 3,Cv 2 22]))))⟩
theorem taf:Hb P fo 158 UP:=fM Go.Proofs.Tryz.func158 (dC pan dN)
def Dz:=oc (fun _=>none) UP
theorem TN:Nb P 158 Dz:=Jc Rc taf
def qA:Ya:=(.seq (jQ [Cv 24 3,Jf 25 0 1,Jl 26 1 25,jn 27 0 26,jB 28 .lss 24 27] (jX 28 0)) (.seq (.block 1 (jQ [Jf 31 0 1,Jl 32 1 31,Cv 33 3,ji 34 1 32 33,jl 35 1 34,jn 36 0 35,jK 37 .eql 36 0,Cv 38 37,JF 39 38 (.kf 0 1),JF 40 38 (.kl 1 39),jF 41 38 (.km 3),jF 42 38 (.ki 1 40 41),jF 43 38 (.kl 1 42),jF 44 38 (.kp OF 43),jF 45 38 (.kt 44),jo 46 38 45] (jC 46 (jr [jb 2 false]) .skip))) (.region [Cv 29 3,jK 30 .add 29 1,Cv 3 30])))
def Zt:Xa:=⟨1,[.tmp 2],(jQ [jR 1 2 0,jb 2 false] (.seq (jQ [Jf 4 0 1,Jl 5 1 4,jn 6 0 5,jK 7 .lss 6 1,Cv 8 7,JF 9 8 (.kf 0 1),JF 10 8 (.kl 1 9),jF 11 8 (.kn 0 10),jF 12 8 (.kK .gtr 11 8),jo 13 8 12,Cv 14 13,JF 15 14 (.kf 1 1),JF 16 14 (.kl 1 15),jF 17 14 (.kK .lss 16 0),jo 18 14 17,Cv 19 18,JF 20 19 (.kf 1 1),JF 21 19 (.kl 1 20),jF 22 19 (.kK .gtr 21 1073741823),jo 23 19 22] (jC 23 (jr [jb 2 false]) .skip)) (.seq (jQ [jk 3 0] (.block 0 (.loop [1,3] qA))) (jr [Jf 47 1 1,Jl 48 1 47,JL 49 2 1,jp 50 Dz 49,jB 51 .add 48 50,jK 52 .sub 51 1,jK 53 .leq 52 1073741823,Cv 2 53]))))⟩
theorem vaf:Hb P fo 137 Zt:=fM Go.Proofs.Tryz.func137 (dC K5 (dC TN dN))
def Yu:=oc (fun _=>none) Zt
theorem M5:Nb P 137 Yu:=Jc Rc vaf
def sA:Ya:=(.seq (jQ [Cv 6 5,Cv 7 1,jB 8 .lss 6 7] (jX 8 0)) (.seq (.block 1 (jQ [Cv 11 0,Cv 12 1,Ji 13 2 11 12,jf 14 1 13,jl 15 1 14,Cv 16 0,Cv 17 5,Ji 18 2 16 17,jf 19 1 18,jl 20 1 19,Cv 21 0,Cv 22 5,Ji 23 2 21 22,JL 24 2 23,jp 25 Dz 24,jB 26 .add 20 25,jK 27 .sub 26 1,jB 28 .leq 15 27,Cv 29 28,jT 30 29 (.km 0),jT 31 29 (.km 5),JT 32 29 (.ki 2 30 31),jT 33 29 (.kf 1 32),jT 34 29 (.kl 1 33),jT 35 29 (.km 0),jT 36 29 (.km 1),JT 37 29 (.ki 2 35 36),jT 38 29 (.kf 1 37),jT 39 29 (.kl 1 38),jT 40 29 (.km 0),jT 41 29 (.km 1),JT 42 29 (.ki 2 40 41),JT 43 29 (.kL 2 42),jT 44 29 (.kp Dz 43),jT 45 29 (.kB .add 39 44),jT 46 29 (.kK .sub 45 1),jT 47 29 (.kB .leq 34 46),ja 48 29 47] (jC 48 (jr [jb 4 true]) .skip))) (.region [Cv 9 5,jK 10 .add 9 1,Cv 5 10])))
def VP:Xa:=⟨2,[.tmp 4],(jQ [jb 4 false] (.seq (jQ [jk 5 0] (.block 0 (.loop [0,1,5] sA))) (jr [jb 4 false])))⟩
theorem waf:Hb P fo 138 VP:=fM Go.Proofs.Tryz.func138 (dC TN (dC TN dN))
def PF:=oc (fun _=>none) VP
theorem san:Nb P 138 PF:=Jc Rc waf
def rA:Ya:=(.seq (jQ [Cv 8 3,Jf 9 0 1,Jl 10 1 9,jn 11 0 10,jB 12 .lss 8 11] (jX 12 0)) (.seq (.block 1 (jQ [Jf 15 0 1,Jl 16 1 15,Cv 17 3,ji 18 2 16 17,jL 19 2 18,jp 20 Yu 19,jt 21 20,Cv 22 21,JF 23 22 (.kf 0 1),JF 24 22 (.kl 1 23),jF 25 22 (.km 3),jF 26 22 (.kq PF 24 25),jo 27 22 26] (jC 27 (jr [jb 2 false]) .skip))) (.region [Cv 13 3,jK 14 .add 13 1,Cv 3 14])))
def aL:Xa:=⟨1,[.tmp 2],(jQ [jR 1 1 0,jb 2 false] (.seq (jQ [Jf 4 0 1,Jl 5 1 4,jn 6 0 5,jK 7 .gtr 6 32] (jC 7 (jr [jb 2 false]) .skip)) (.seq (jQ [jk 3 0] (.block 0 (.loop [1,3] rA))) (jr [jb 2 true]))))⟩
theorem uaf:Hb P fo 104 aL:=fM Go.Proofs.Tryz.func104 (dC M5 (dC san dN))
def Ez:=oc (fun _=>none) aL
theorem L5:Nb P 104 Ez:=Jc Rc uaf
def YP:Xa:=⟨1,[.tmp 2],(jQ [jR 1 2 0,jk 2 0] (.seq (jQ [JL 3 2 1,jp 4 Yu 3,jt 5 4] (jC 5 (jr [jk 2 0]) .skip)) (jr [JL 6 2 1,jp 7 Dz 6,Cv 2 7])))⟩
theorem yaf:Hb P fo 139 YP:=fM Go.Proofs.Tryz.func139 (dC M5 (dC TN dN))
def QF:=oc (fun _=>none) YP
theorem O5:Nb P 139 QF:=Jc Rc yaf
def yG:Xa:=⟨2,[.tmp 4],(jQ [jb 4 false] (jr [Cv 5 1,jK 6 .geq 5 0,Cv 7 6,jT 8 7 (.km 1),jT 9 7 (.kK .leq 8 255),ja 10 7 9,Cv 11 10,jT 12 11 (.km 0),jT 13 11 (.kp Cz 12),jT 14 11 (.km 1),jT 15 11 (.Lu 256 1 false (.t 13) (.t 14)),ja 16 11 15,Cv 4 16]))⟩
theorem naf:Hb P fo 140 yG:=fM Go.Proofs.Tryz.func140 (dC wU dN)
def Bz:=oc (fun _=>none) yG
theorem J5:Nb P 140 Bz:=Jc Rc naf
def tA:Ya:=(.seq (jQ [Cv 42 10,jK 43 .lss 42 256,Cv 44 43,JT 45 44 (.kf 0 3),JT 46 44 (.kl 1 45),jT 47 44 (.km 9),jT 48 44 (.ki 1 46 47),jT 49 44 (.kl 1 48),jT 50 44 (.km 10),jT 51 44 (.kq Bz 49 50),jT 52 44 (.km 51),JT 53 52 (.kf 0 4),JT 54 52 (.kl 1 53),jT 55 52 (.km 9),jT 56 52 (.ki 1 54 55),jT 57 52 (.kl 1 56),jT 58 52 (.km 10),jT 59 52 (.kq Bz 57 58),jT 60 44 (.ka 52 59),jT 61 44 (.kt 60),ja 62 44 61] (jX 62 2)) (.block 3 (.region [Cv 63 10,jK 64 .add 63 1,Cv 10 64])))
def EG:Ya:=(.seq (jQ [Cv 37 9,Cv 38 2,jB 39 .lss 37 38] (jX 39 0)) (.seq (.block 1 (jQ [jk 10 0] (.seq (.block 2 (.loop [2,3,4,8,9,10] tA)) (.seq (jQ [Cv 65 10,jK 66 .eql 65 256] (jC 66 (jr [jc 6 .oa,jb 7 false]) .skip)) (.region [Cv 67 8,Cv 68 10,Co 69 (.conv .u8 (.t 68)),Co 70 (.Fc .lit 1 false 1 [(.int .u8 0)] [(0,(.t 69))]),Co 71 (.ku 1 false 1 67 70),Cv 8 71]))))) (.region [Cv 40 9,jK 41 .add 40 1,Cv 9 41])))
def XP:Xa:=⟨3,[.tmp 6,.tmp 7],(jQ [jR 3 2 0,jR 4 2 1,jc 6 .oa,jb 7 false] (.seq (jQ [JL 11 2 3,jp 12 QF 11,jK 13 .eql 12 0,Cv 14 13,JF 15 14 (.kL 2 4),jF 16 14 (.kp QF 15),jF 17 14 (.kK .eql 16 0),jo 18 14 17,Cv 19 18,jF 20 19 (.km 2),jF 21 19 (.kK .lss 20 0),jo 22 19 21,Cv 23 22,jF 24 23 (.km 2),JF 25 23 (.kf 0 3),JF 26 23 (.kl 1 25),jF 27 23 (.kn 0 26),jF 28 23 (.kB .gtr 24 27),jo 29 23 28,Cv 30 29,jF 31 30 (.km 2),JF 32 30 (.kf 0 4),JF 33 30 (.kl 1 32),jF 34 30 (.kn 0 33),jF 35 30 (.kB .gtr 31 34),jo 36 30 35] (jC 36 (jr [jc 6 .oa,jb 7 false]) .skip)) (jQ [jc 8 .oa] (.ghost (.Ln 8 1) (.seq (jQ [jk 9 0] (.block 0 (.loop [2,3,4,8,9] EG))) (jr [Cv 72 8,Cv 6 72,jb 7 true]))))))⟩
theorem xaf:Hb P fo 105 XP:=fM Go.Proofs.Tryz.func105 (dC O5 (dC O5 (dC J5 (dC J5 dN))))
def GC:=oc (fun _=>none) XP
theorem N5:Nb P 105 GC:=Jc Rc xaf
def uA:Ya:=(.seq (jQ [Cv 19 5,Jf 20 0 1,Jl 21 1 20,jn 22 0 21,jB 23 .lss 19 22] (jX 23 2)) (.seq (.block 3 (jQ [Jf 26 0 1,Jl 27 1 26,Cv 28 4,ji 29 2 27 28,jf 30 0 29,jl 31 1 30,jn 32 0 31,Cv 6 32] (jQ [Cv 33 6,Jf 34 0 1,Jl 35 1 34,Cv 36 5,ji 37 2 35 36,jf 38 0 37,jl 39 1 38,jn 40 0 39,jB 41 .lss 33 40] (jC 41 (jQ [Jf 43 0 1,Jl 44 1 43,Cv 45 4,Ji 46 2 44 45,JL 47 2 46,Jf 48 0 1,Jl 49 1 48,Cv 50 5,Ji 51 2 49 50,JL 52 2 51,Cv 53 6,Co 54 (.kr GC 47 52 53),Cv 42 54,jx 55 0 42,jx 56 1 42,Cv 7 55,Cv 8 56] (jQ [Cv 57 8] (jC 57 (jr [jb 2 false,jk 3 0]) .skip))) .skip)))) (.region [Cv 24 5,jK 25 .add 24 1,Cv 5 25])))
def FG:Ya:=(.seq (jQ [Cv 12 4,Jf 13 0 1,Jl 14 1 13,jn 15 0 14,jB 16 .lss 12 15] (jX 16 0)) (.seq (.block 1 (jQ [jk 5 0] (.block 2 (.loop [1,4,5] uA)))) (.region [Cv 17 4,jK 18 .add 17 1,Cv 4 18])))
def cL:Xa:=⟨1,[.tmp 2,.tmp 3],(jQ [jR 1 1 0,jb 2 false,jk 3 0] (.seq (jQ [JL 9 1 1,jp 10 Ez 9,jt 11 10] (jC 11 (jr [jb 2 false,jk 3 84]) .skip)) (.seq (jQ [jk 4 0] (.block 0 (.loop [1,4] FG))) (jr [jb 2 true,jk 3 0]))))⟩
theorem Aaf:Hb P fo 101 cL:=fM Go.Proofs.Tryz.func101 (dC L5 (dC N5 dN))
def Fz:=oc (fun _=>none) cL
theorem van:Nb P 101 Fz:=Jc Rc Aaf
def rD:Ya:=(.seq (jQ [Cv 6 5,Cv 7 0,jn 8 0 7,jB 9 .lss 6 8] (jX 9 0)) (.seq (.block 1 (jQ [Cv 12 0,Cv 13 5,Ji 14 33 12 13,JL 15 33 14,JL 16 33 3,Co 17 (.Sv (.row [1,0,0,0,0,0,0,0,0,0,0,0,0,0,0,0,0,0,0,0,0,0,0,0,0,0,0,0,0,0,0,0,0]) false (.t 15) (.t 16))] (jC 17 (jr [Cv 18 5,Cv 4 18]) .skip))) (.region [Cv 10 5,jK 11 .add 10 1,Cv 5 11])))
def cQ:Xa:=⟨2,[.tmp 4],(jQ [jR 3 33 1,jk 4 0] (.seq (jQ [jk 5 0] (.block 0 (.loop [0,3,5] rD))) (jr [jk 4 (-1)])))⟩
theorem Eaf:Hb P fo 136 cQ:=fM Go.Proofs.Tryz.func136 dN
def dK:=oc (fun _=>none) cQ
theorem zan:Nb P 136 dK:=Jc Rc Eaf
def IG:Ya:=(.seq (jQ [Cv 31 9,Jf 32 0 1,Jl 33 1 32,Cv 34 7,ji 35 2 33 34,jf 36 0 35,jl 37 1 36,jn 38 0 37,jB 39 .lss 31 38] (jX 39 2)) (.seq (.block 3 (.region [Cv 42 9,Jf 43 0 1,Jl 44 1 43,Cv 45 7,ji 46 2 44 45,jf 47 0 46,jl 48 1 47,Cv 49 9,ji 50 1 48 49,jl 51 1 50,jp 52 Cz 51,Co 53 (.kA 8 256 8 42),jS 256 53 52])) (.region [Cv 40 9,jK 41 .add 40 1,Cv 9 41])))
def HG:Ya:=(.seq (jQ [Cv 21 7,Jf 22 0 1,Jl 23 1 22,jn 24 0 23,jB 25 .lss 21 24] (jX 25 0)) (.seq (.block 1 (jQ [Cv 28 7,jf 29 1 6,Co 30 (.kA 32 1 29 28),Ce (.store 1 (.t 30) (.c (.bool true)))] (jQ [Co 8 (.alloc (List.replicate 2048 (.bool false)))] (.seq (jQ [jk 9 0] (.block 2 (.loop [1,5,6,7,8,9] IG))) (.region [Cv 54 5,jL 55 2048 8,Co 56 (.Fc .lit 2048 true 1 (List.replicate 2048 (.bool false)) [(0,(.t 55))]),Co 57 (.ku 2048 true 2048 54 56),Cv 5 57]))))) (.region [Cv 26 7,jK 27 .add 26 1,Cv 7 27])))
def xA:Ya:=(.seq (jQ [Cv 77 18,Jf 78 0 1,Jl 79 1 78,jn 80 0 79,jB 81 .lss 77 80] (jX 81 8)) (.seq (.block 9 (jQ [Cv 84 18,Cv 85 10,Cv 86 12,Cv 87 18,Ji 88 33 85 86,jf 89 1 88,Co 90 (.kA 32 1 89 87),jl 91 1 90,Cv 92 91,jT 93 92 (.km 5),jT 94 92 (.km 18),jT 95 92 (.km 10),jT 96 92 (.km 12),JT 97 92 (.ki 33 95 96),jT 98 92 (.kf 0 97),jT 99 92 (.kl 1 98),jT 100 92 (.km 14),JT 101 92 (.ki 2048 93 94),jT 102 92 (.kA 8 256 101 99),jT 103 92 (.kA 256 1 102 100),jT 104 92 (.kl 1 103),ja 105 92 104,jf 106 1 15,Co 107 (.kA 32 1 106 84),jS 1 107 105] (jQ [Cv 108 16,Cv 109 108,jF 110 109 (.km 18),jF 111 109 (.kf 1 15),jF 112 109 (.kA 32 1 111 110),jF 113 109 (.kl 1 112),jo 114 109 113,Cv 16 114] (.region [Cv 115 17,Cv 116 115,jF 117 116 (.km 18),jF 118 116 (.kf 1 15),jF 119 116 (.kA 32 1 118 117),jF 120 116 (.kl 1 119),jF 121 116 (.km 120),JT 122 121 (.kf 0 1),JT 123 121 (.kl 1 122),jT 124 121 (.km 18),JT 125 121 (.ki 2 123 124),jT 126 121 (.kf 0 125),jT 127 121 (.kl 1 126),JT 128 121 (.kn 0 127),jT 129 121 (.kf 0 15),jT 130 121 (.kl 1 129),jT 131 121 (.kB .eql 128 130),jF 132 116 (.ka 121 131),jo 133 116 132,Cv 17 133])))) (.region [Cv 82 18,jK 83 .add 82 1,Cv 18 83])))
def qD:Ya:=(.seq (jQ [Cv 66 14,jK 67 .lss 66 256] (jX 67 6)) (.seq (.block 7 (jQ [Cv 70 10,Cv 71 12,ji 72 33 70 71,jf 73 0 72,jl 74 1 73,jK 75 .add 74 1,Co 76 (.build [(.int .i64 0),(.bool false),(.bool false),(.bool false),(.bool false),(.bool false),(.bool false),(.bool false),(.bool false),(.bool false),(.bool false),(.bool false),(.bool false),(.bool false),(.bool false),(.bool false),(.bool false),(.bool false),(.bool false),(.bool false),(.bool false),(.bool false),(.bool false),(.bool false),(.bool false),(.bool false),(.bool false),(.bool false),(.bool false),(.bool false),(.bool false),(.bool false),(.bool false)] [(0,1,(.t 75))]),Co 15 (.alloc [(.int .i64 0),(.bool false),(.bool false),(.bool false),(.bool false),(.bool false),(.bool false),(.bool false),(.bool false),(.bool false),(.bool false),(.bool false),(.bool false),(.bool false),(.bool false),(.bool false),(.bool false),(.bool false),(.bool false),(.bool false),(.bool false),(.bool false),(.bool false),(.bool false),(.bool false),(.bool false),(.bool false),(.bool false),(.bool false),(.bool false),(.bool false),(.bool false),(.bool false)]),jS 33 15 76] (jQ [jb 16 false,jb 17 false] (.seq (jQ [jk 18 0] (.block 8 (.loop [1,5,10,11,12,13,14,15,16,17,18] xA))) (jQ [Cv 134 14,Co 135 (.kA 256 1 13 134),Ce (.store 1 (.t 135) (.c (.int .i64 (-2))))] (jQ [Cv 136 16,Cv 137 136,jT 138 137 (.km 17),ja 139 137 138] (jC 139 (.region [Cv 140 14,Co 141 (.kA 256 1 13 140),Ce (.store 1 (.t 141) (.c (.int .i64 (-1))))]) (jQ [Cv 142 16] (jC 142 (jQ [Cv 143 10,jL 144 33 15,jq 145 dK 143 144,Cv 19 145] (.seq (jQ [Cv 146 19,jK 147 .lss 146 0] (jC 147 (.seq (jQ [Cv 148 10,jn 149 0 148,jK 150 .eql 149 64] (jC 150 (jr [jc 2 .oa,jc 3 .oa,jb 4 false]) .skip)) (jQ [Cv 151 10,jn 152 0 151,Cv 19 152] (.region [Cv 153 10,jL 154 33 15,Co 155 (.Fc .lit 33 true 1 [(.int .i64 0),(.bool false),(.bool false),(.bool false),(.bool false),(.bool false),(.bool false),(.bool false),(.bool false),(.bool false),(.bool false),(.bool false),(.bool false),(.bool false),(.bool false),(.bool false),(.bool false),(.bool false),(.bool false),(.bool false),(.bool false),(.bool false),(.bool false),(.bool false),(.bool false),(.bool false),(.bool false),(.bool false),(.bool false),(.bool false),(.bool false),(.bool false),(.bool false)] [(0,(.t 154))]),Co 156 (.ku 33 true 40 153 155),Cv 10 156]))) .skip)) (.region [Cv 157 14,Cv 158 19,Co 159 (.kA 256 1 13 157),jS 1 159 158]))) .skip))))))))) (.region [Cv 68 14,jK 69 .add 68 1,Cv 14 69])))
def pD:Ya:=(.seq (jQ [Cv 60 12,Cv 61 10,jn 62 0 61,jB 63 .lss 60 62] (jX 63 4)) (.seq (.block 5 (jQ [Co 13 (.alloc (List.replicate 256 (.int .i64 0)))] (.seq (jQ [jk 14 0] (.block 6 (.loop [1,5,10,11,12,13,14] qD))) (.region [Cv 160 11,jL 161 256 13,Co 162 (.Fc .lit 256 true 1 (List.replicate 256 (.int .i64 0)) [(0,(.t 161))]),Co 163 (.ku 256 true 2048 160 162),Cv 11 163])))) (.region [Cv 64 12,jK 65 .add 64 1,Cv 12 65])))
def aQ:Xa:=⟨1,[.tmp 2,.tmp 3,.tmp 4],(jQ [jR 1 1 0,jc 2 .oa,jc 3 .oa,jb 4 false] (jQ [jc 5 .oa] (.ghost (.Ln 5 2048) (jQ [Co 20 (.build [(.int .i64 0),(.bool false),(.bool false),(.bool false),(.bool false),(.bool false),(.bool false),(.bool false),(.bool false),(.bool false),(.bool false),(.bool false),(.bool false),(.bool false),(.bool false),(.bool false),(.bool false),(.bool false),(.bool false),(.bool false),(.bool false),(.bool false),(.bool false),(.bool false),(.bool false),(.bool false),(.bool false),(.bool false),(.bool false),(.bool false),(.bool false),(.bool false),(.bool false)] []),Co 6 (.alloc [(.int .i64 0),(.bool false),(.bool false),(.bool false),(.bool false),(.bool false),(.bool false),(.bool false),(.bool false),(.bool false),(.bool false),(.bool false),(.bool false),(.bool false),(.bool false),(.bool false),(.bool false),(.bool false),(.bool false),(.bool false),(.bool false),(.bool false),(.bool false),(.bool false),(.bool false),(.bool false),(.bool false),(.bool false),(.bool false),(.bool false),(.bool false),(.bool false),(.bool false)]),jS 33 6 20] (.seq (jQ [jk 7 0] (.block 0 (.loop [1,5,6,7] HG))) (jQ [jL 58 33 6,Co 59 (.Fc .uq 33 true 1 [(.int .i64 0),(.bool false),(.bool false),(.bool false),(.bool false),(.bool false),(.bool false),(.bool false),(.bool false),(.bool false),(.bool false),(.bool false),(.bool false),(.bool false),(.bool false),(.bool false),(.bool false),(.bool false),(.bool false),(.bool false),(.bool false),(.bool false),(.bool false),(.bool false),(.bool false),(.bool false),(.bool false),(.bool false),(.bool false),(.bool false),(.bool false),(.bool false),(.bool false)] [(0,(.t 58))]),Cv 10 59] (jQ [jc 11 .oa] (.ghost (.Ln 11 256) (.seq (jQ [jk 12 0] (.block 4 (.loop [1,5,10,11,12] pD))) (jr [Cv 164 10,Cv 165 11,Cv 2 164,Cv 3 165,jb 4 true]))))))))))⟩
theorem Caf:Hb P fo 102 aQ:=fM Go.Proofs.Tryz.func102 (dC wU (dC zan dN))
def IC:=oc (fun _=>none) aQ
theorem xan:Nb P 102 IC:=Jc Rc Caf
def JG:Ya:=(.seq (jQ [Cv 14 5,Cv 15 3,jB 16 .lss 14 15] (jX 16 0)) (.seq (.block 1 (.region [Cv 19 4,Cv 20 3,Co 21 (.oj .own 1 false [(.bool false)] 1 (.t 20) (.t 20)),Co 22 (.Fc .own 1 false 1 [.oa] [(0,(.t 21))]),Co 23 (.append true .own 1 false 24 (.t 19) (.t 22)),Cv 4 23])) (.region [Cv 17 5,jK 18 .add 17 1,Cv 5 18])))
def bp:Ya:=(.seq (jQ [Cv 35 9,jK 36 .lss 35 256,Cv 37 36,jT 38 37 (.km 4),jT 39 37 (.km 7),jT 40 37 (.ki 1 38 39),jT 41 37 (.kl 1 40),jT 42 37 (.km 8),jT 43 37 (.ki 1 41 42),jT 44 37 (.kl 1 43),jT 45 37 (.kt 44),ja 46 37 45] (jX 46 8)) (.seq (.block 9 (jQ [Cv 49 0,Cv 50 7,Cv 51 9,ji 52 256 49 50,Co 53 (.kA 256 1 52 51),jl 54 1 53,Cv 55 0,Cv 56 8,Cv 57 9,ji 58 256 55 56,Co 59 (.kA 256 1 58 57),jl 60 1 59,Cv 10 54,Cv 11 60] (jQ [Cv 61 10,Cv 62 11,jB 63 .neq 61 62,Cv 64 63,jT 65 64 (.km 10),jT 66 64 (.kK .lss 65 0),jT 67 64 (.km 66),jF 68 67 (.km 11),jF 69 67 (.kK .lss 68 0),jT 70 64 (.ko 67 69),ja 71 64 70,Cv 72 71,jF 73 72 (.km 10),jF 74 72 (.kK .geq 73 0),jF 75 72 (.km 74),jT 76 75 (.km 11),jT 77 75 (.kK .geq 76 0),jF 78 72 (.ka 75 77),jF 79 72 (.km 78),jT 80 79 (.km 4),jT 81 79 (.km 10),jT 82 79 (.ki 1 80 81),jT 83 79 (.kl 1 82),jT 84 79 (.km 11),jT 85 79 (.ki 1 83 84),jT 86 79 (.kl 1 85),jF 87 72 (.ka 79 86),jo 88 72 87] (jC 88 (jQ [Cv 89 4,Cv 90 7,ji 91 1 89 90,jl 92 1 91,Cv 93 8,Cv 94 4,Cv 95 8,ji 96 1 94 95,jl 97 1 96,Cv 98 7,ji 99 1 92 93,Ce (.store 1 (.t 99) (.c (.bool true))),ji 100 1 97 98,Ce (.store 1 (.t 100) (.c (.bool true)))] (.region [jb 6 true])) .skip)))) (.region [Cv 47 9,jK 48 .add 47 1,Cv 9 48])))
def MG:Ya:=(.seq (jQ [Cv 30 8,Cv 31 7,jB 32 .lss 30 31] (jX 32 6)) (.seq (.block 7 (jQ [jk 9 0] (.block 8 (.loop [0,3,4,6,7,8,9] bp)))) (.region [Cv 33 8,jK 34 .add 33 1,Cv 8 34])))
def LG:Ya:=(.seq (jQ [Cv 25 7,Cv 26 3,jB 27 .lss 25 26] (jX 27 4)) (.seq (.block 5 (jQ [jk 8 0] (.block 6 (.loop [0,3,4,6,7,8] MG)))) (.region [Cv 28 7,jK 29 .add 28 1,Cv 7 29])))
def KG:Ya:=(.seq (jQ [Cv 24 6] (jX 24 2)) (.block 3 (jQ [jb 6 false] (jQ [jk 7 0] (.block 4 (.loop [0,3,4,6,7] LG))))))
def bQ:Xa:=⟨1,[.tmp 2],(jQ [jc 2 .oa] (jQ [Cv 12 0,jn 13 0 12,Cv 3 13] (jQ [jc 4 .oa] (.ghost (.cF 4 1 false) (.seq (jQ [jk 5 0] (.block 0 (.ml [0,3,4,5] JG))) (.seq (jQ [jb 6 true] (.block 2 (.loop [0,3,4,6] KG))) (jr [Cv 101 4,Cv 2 101])))))))⟩
theorem Daf:Hb P fo 103 bQ:=fM Go.Proofs.Tryz.func103 dN
def RF:=oc (fun _=>none) bQ
theorem yan:Nb P 103 RF:=Jc Rc Daf
def wA:Ya:=(.seq (jQ [Cv 65 16,Cv 66 10,jn 67 0 66,jB 68 .lss 65 67,Cv 69 68,jT 70 69 (.km 9),jT 71 69 (.km 10),jT 72 69 (.km 16),jT 73 69 (.ki 1 71 72),jT 74 69 (.kl 1 73),jT 75 69 (.ki 1 70 74),jT 76 69 (.kl 1 75),jT 77 69 (.km 15),jT 78 69 (.ki 1 76 77),jT 79 69 (.kl 1 78),ja 80 69 79] (jX 80 4)) (.block 5 (.region [Cv 81 16,jK 82 .add 81 1,Cv 16 82])))
def GG:Ya:=(.seq (jQ [Cv 48 14,jK 49 .lss 48 256] (jX 49 2)) (.seq (.block 3 (jQ [Cv 52 7,Cv 53 10,Cv 54 12,ji 55 1 53 54,jl 56 1 55,Cv 57 14,ji 58 256 52 56,Co 59 (.kA 256 1 58 57),jl 60 1 59,Cv 15 60] (.seq (jQ [Cv 61 15,jK 62 .eql 61 (-2)] (jC 62 (.exit 3) .skip)) (.seq (jQ [Cv 63 15,jK 64 .geq 63 0] (jC 64 (jQ [jk 16 0] (.seq (.block 4 (.loop [2,7,9,10,11,12,13,14,15,16] wA)) (.seq (jQ [Cv 83 16,Cv 84 10,jn 85 0 84,jB 86 .eql 83 85] (jC 86 (.region [Cv 87 10,Cv 88 15,Co 89 (.Fc .lit 1 false 1 [(.int .i64 0)] [(0,(.t 88))]),Co 90 (.ku 1 false 8 87 89),Cv 10 90]) .skip)) (.region [Cv 91 16,Cv 15 91])))) .skip)) (jQ [Cv 92 13,jn 93 0 92,jK 94 .gtr 93 0,Cv 95 94,jT 96 95 (.km 13),jT 97 95 (.km 13),jT 98 95 (.kn 0 97),jT 99 95 (.kK .sub 98 1),jT 100 95 (.ki 3 96 99),jT 101 95 (.kf 2 100),jT 102 95 (.kl 1 101),jT 103 95 (.km 15),jT 104 95 (.kB .eql 102 103),ja 105 95 104,Cv 106 105,jT 107 106 (.km 13),jT 108 106 (.km 13),jT 109 106 (.kn 0 108),jT 110 106 (.kK .sub 109 1),jT 111 106 (.ki 3 107 110),jT 112 106 (.kf 1 111),jT 113 106 (.kl 1 112),jT 114 106 (.km 14),jT 115 106 (.kK .sub 114 1),jT 116 106 (.kB .eql 113 115),ja 117 106 116] (jC 117 (.region [Cv 118 13,Cv 119 13,jn 120 0 119,jK 121 .sub 120 1,Cv 122 14,ji 123 3 118 121,jf 124 1 123,jS 1 124 122]) (.region [Cv 125 13,Cv 126 14,Cv 127 14,Cv 128 15,Co 129 (.build [(.int .i64 0),(.int .i64 0),(.int .i64 0)] [(0,1,(.t 126)),(1,1,(.t 127)),(2,1,(.t 128))]),Co 130 (.Fc .lit 3 true 1 [(.int .i64 0),(.int .i64 0),(.int .i64 0)] [(0,(.t 129))]),Co 131 (.append true .own 3 true 24 (.t 125) (.t 130)),Cv 13 131]))))))) (.region [Cv 50 14,jK 51 .add 50 1,Cv 14 51])))
def vA:Ya:=(.seq (jQ [Cv 42 12,Cv 43 10,jn 44 0 43,jB 45 .lss 42 44] (jX 45 0)) (.seq (.block 1 (jQ [jc 13 .oa] (.ghost (.cF 13 3 true) (.seq (jQ [jk 14 0] (.block 2 (.loop [2,7,9,10,11,12,13,14] GG))) (.ghost (.freeze 13) (.region [jf 132 0 11,jl 133 1 132,Cv 134 13,Co 135 (.Fc .lit 1 false 1 [.oa] [(0,(.t 134))]),Co 136 (.ku 1 false 24 133 135),jf 137 0 11,jS 1 137 136])))))) (.region [Cv 46 12,jK 47 .add 46 1,Cv 12 47])))
def oD:Xa:=⟨1,[.cell 2 true 1,.tmp 3],(jQ [jR 1 1 0,Co 2 (.alloc [.oa]),jk 3 0] (jQ [JL 18 1 1,jp 19 Fz 18,Cv 17 19,jx 20 0 17,jx 21 1 17,Cv 4 20,Cv 5 21] (.seq (jQ [Cv 22 5,jK 23 .neq 22 0] (jC 23 (jr [Co 24 (.build [.oa] []),Cv 25 5,jS 1 2 24,Cv 3 25]) .skip)) (.seq (jQ [Cv 26 4,jt 27 26] (jC 27 (jr [Co 28 (.build [.oa] []),jS 1 2 28,jk 3 110]) .skip)) (jQ [JL 30 1 1,jp 31 IC 30,Cv 29 31,jx 32 0 29,jx 33 1 29,jx 34 2 29,Cv 6 32,Cv 7 33,Cv 8 34] (.seq (jQ [Cv 35 8,jt 36 35] (jC 36 (jr [Co 37 (.build [.oa] []),jS 1 2 37,jk 3 130]) .skip)) (jQ [Cv 38 7,jp 39 RF 38,Cv 9 39] (jQ [Co 40 (.Fc .uq 1 false 1 [(.int .i64 0)] [(0,(.c (.int .i64 0)))]),Cv 10 40] (jQ [Co 41 (.build [.oa] []),Co 11 (.alloc [.oa]),jS 1 11 41] (.ghost (.yt 11 0 1) (.seq (jQ [jk 12 0] (.block 0 (.loop [2,7,9,10,11,12] vA))) (jr [jL 138 1 11,jS 1 2 138,jk 3 0]))))))))))))⟩
theorem Baf:Hb P fo 71 oD:=fM Go.Proofs.Tryz.func71 (dC van (dC xan (dC yan dN)))
def Tm:=oc (fun _=>none) oD
theorem wan:Nb P 71 Tm:=Jc Rc Baf
def sQ:Xa:=⟨1,[.tmp 2],(jQ [jR 1 2 0,jk 2 0] (.seq (jQ [JL 3 2 1,jp 4 Jz 3,jt 5 4] (jC 5 (jr [jk 2 0]) .skip)) (jr [JL 6 2 1,jp 7 UF 6,Co 8 (.kj 1 7 0),jl 9 1 8,Cv 2 9])))⟩
theorem jag:Hb P fo 65 sQ:=fM Go.Proofs.Tryz.func65 (dC WN (dC U5 dN))
def pK:=oc (fun _=>none) sQ
theorem Qan:Nb P 65 pK:=Jc Rc jag
def gF:PV->Option (Int×Int)
 | .agg [.int .i64 a,.int .i64 b]=>some (a,b)
 |_=>none
def cJ:PV->Option (List (Int×Int))
 | .oa=>some []
 | .lit 2 es=>Ha gF es
 |_=>none
def vi(fr:Int)(p:Int×Int):List Int:=if p.2 < fr then [] else (List.range (p.2 - max p.1 fr+1).toNat).map fun (i:Nat)=>max p.1 fr+(i:Int)
def KO(p:Int×Int):Bool:=decide (-4611686018427387904<=p.1/\p.1<=p.2/\p.2<=4611686018427387904)
def ux:List PV->Option (List (List PV))
 | [.rp [l] 0,.rp [.int .i64 fr] 0]=>(cJ l).bind fun ps=>if ps.all KO&&decide (-4611686018427387904<=fr/\fr<=4611686018427387904/\ps.length<=4611686018427387904) then some ((ps.flatMap (vi fr)).map fun x=>[.int .i64 x]) else none
 |_=>none
theorem kac{caps:List PV}{xs:List (List PV)}(h:ux caps=some xs):∃ l fr ps,caps=[.rp [l] 0,.rp [.int .i64 fr] 0]/\cJ l=some ps/\(∀ p∈ps,-4611686018427387904<=p.1/\p.1<=p.2/\p.2<=4611686018427387904)/\(-4611686018427387904<=fr/\fr<=4611686018427387904/\ps.length<=4611686018427387904)/\xs=(ps.flatMap (vi fr)).map fun x=>[.int .i64 x]:=by
 unfold ux at h
 split at h
 ·rename_i l fr
  rw[Hd] at h;obtain⟨ps,h1,h2⟩:=h
  split at h2
  ·rename_i hc
   simp only[fb,decide_eq_true_eq,Df,KO] at hc;injection h2 with h2
   exact⟨l,fr,ps,rfl,h1,hc.1,hc.2,h2.symm⟩
  ·cases h2
 ·cases h
theorem xal{R:Rd}{l:PV}{ps:List (Int×Int)}{v:Value}(hp:cJ l=some ps)(h:Na R l v):∃ a cap,v= .slice a ps.length cap/\
 ∀ (R':Rd),(Na R' l v)->∀ (k:Nat)(p:Int×Int),ps[k]? =some p->∃ b o,a=some ⟨b,o,none⟩/\R' b (o+k * 2)=some (.int .i64 p.1)/\R' b (o+k * 2+1)=some (.int .i64 p.2):=by
 unfold cJ at hp
 split at hp
 ·injection hp with hp;subst hp
  cases h;exact⟨none,0,rfl,fun _ _ k p hk=>by simp at hk⟩
 ·rename_i es
  have hlen:es.length=ps.length:=by
   clear h
   induction es generalizing ps with
   |nil=>simp[Ha] at hp;subst hp;rfl
   |cons e es ih=>simp only[Ha,Hd,xb] at hp;obtain⟨q,_,qs,h2,rfl⟩:=hp;simp[ih h2]
  have hget:∀ (k:Nat)(p:Int×Int),ps[k]? =some p->es[k]? =some (.agg [.int .i64 p.1,.int .i64 p.2]):=by
   clear h hlen
   induction es generalizing ps with
   |nil=>simp[Ha] at hp;subst hp;intro k p h;simp at h
   |cons e es ih=>
    simp only[Ha,Hd,xb] at hp;obtain⟨q,h1,qs,h2,rfl⟩:=hp;intro k p h;cases k with
    |zero=>
     simp at h;subst h;unfold gF at h1
     split at h1
     ·injection h1 with h1;subst h1;rfl
     ·cases h1
    |succ k=>simpa using ih h2 k p (by simpa using h)
  have cells:∀ (R':Rd)(b o:Nat),Cd R' (flat es) b o->∀ (k:Nat)(p:Int×Int),ps[k]? =some p->R' b (o+k * 2)=some (.int .i64 p.1)/\R' b (o+k * 2+1)=some (.int .i64 p.2):=by
   intro R' b o hr k p hk;have he:=hget k p hk;have hfl:∀ e∈es,e.cells.length=2:=by
    intro e GS;obtain⟨j,hj⟩:=Ax.1 GS
    have hlt:=getElem?_lt hj;obtain⟨q,hq⟩:∃ q,ps[j]? =some q:=⟨ps[j]'(by omega),Rb _⟩;have:=hget j q hq;rw[hj] at this;injection this with this
    subst this;rfl
   have h0:=pY hfl he;have g0:(flat es)[k * 2]? =some (.int .i64 p.1):=by have:=congrArg (fun l=>l[0]?) h0;simpa[wm,PV.cells] using this
   have g1:(flat es)[k * 2+1]? =some (.int .i64 p.2):=by have:=congrArg (fun l=>l[1]?) h0;simpa[wm,PV.cells] using this
   obtain⟨v0,a1,a2⟩:=hr.get g0
   obtain⟨v1,b1,b2⟩:=hr.get g1
   cases a2;cases b2;exact⟨a1,b1⟩
  cases h with
  |lit _ _ b o cap h1 h2 h3=>
   refine⟨some ⟨b,o,none⟩,cap,by rw[hlen],fun R' pS k p hk=>⟨b,o,rfl,?_⟩⟩;generalize hv:Value.slice (some (⟨b,o,none⟩:Addr)) es.length cap=v at pS
   cases pS with
   |lit _ _ b' o' jac _ _ bS=>cases hv;exact cells R' b o bS k p hk
   |Br _ a=>simp at hlen;have:=getElem?_lt hk;omega
  |Br _ a=>refine⟨some a,0,by rw[<- hlen];rfl,fun R' pS k p hk=> ?_⟩;have:=getElem?_lt hk;simp at hlen;omega
 ·cases hp
theorem sW{R:Rd}{c:PV}{v:Value}(h:Na R (.rp [c] 0) v):∃ b o u,v= .pointer (some ⟨b,o,none⟩)/\R b o=some u/\Na R c u/\∀ R':Rd,Na R' (.rp [c] 0) v->∃ u',R' b o=some u'/\Na R' c u':=by
 cases h with
 |rp _ _ b o hr=>
  cases hr with
  |cons _ _ _ _ u h1 h2 h3 h4=>
   refine⟨b,o,u,rfl,h1,h3,fun R' h'=> ?_⟩;generalize hv:Value.pointer (some (⟨b,o+0,none⟩:Addr))=v at h'
   cases h' with
   |rp _ _ b' o' Bf=>
    cases Bf with
    |cons _ _ _ _ u' k1 k2 k3 k4=>simp at hv;obtain⟨rfl,rfl⟩:=hv;exact⟨u',k1,k3⟩
end Go.AM.B1
namespace Go.Proofs
open Go.RowKit Go.Shelf
attribute [local go_sem] Oper.semAt_some
set_option maxRecDepth 100000 in
set_option maxHeartbeats 2000000 in
theorem oaa:AM.Dq Tryz.prog 151 AM.B1.ux:=by
 refine⟨⟨_,_,Tryz.func151,rfl,by kernel_rfl⟩,fun caps vs xs hF hfl R l J Jx W hLR hsub hJ hJx hRd hY h0=> ?_⟩;obtain⟨lv,fr,ps,rfl,hps,hb,hfr,hxs⟩:=AM.B1.kac hF
 obtain⟨v1,v2,rfl,hv1,hv2⟩:∃ v1 v2,vs=[v1,v2]/\AM.Na R (.rp [lv] 0) v1/\AM.Na R (.rp [.int .i64 fr] 0) v2:=by cases hLR with | cons _ _ v1 _ h1 h2=>cases h2 with | cons _ _ v2 _ h3 h4=>cases h4;exact⟨v1,v2,rfl,h1,h3⟩
 have hv1':=hv1;have hv2':=hv2;obtain⟨b1,o1,sl,rfl,hR1,hsl,hbx1⟩:=AM.B1.sW hv1
 obtain⟨b2,o2,fv,rfl,hR2,hfv,hbx2⟩:=AM.B1.sW hv2
 cases hfv;obtain⟨a,cap,rfl,hels⟩:=AM.B1.xal hps hsl
 have hfrom:∀ i T A,J i T A->A.cell? ⟨b2,o2,none⟩=some (.int .i64 fr):=by intro i T A h;obtain⟨R',hs,hp⟩:=hRd i T A h;obtain⟨u,h1,h2⟩:=hbx2 R' (hp _ _ hv2');cases h2;exact hs _ _ _ h1
 have hread:∀ i T A,J i T A->∀ (k:Nat)(p:Int×Int),ps[k]? =some p->∃ b o,a=some ⟨b,o,none⟩/\A.cell? ⟨b,o+k * 2,none⟩=some (.int .i64 p.1)/\A.cell? ⟨b,o+k * 2+1,none⟩=some (.int .i64 p.2):=by intro i T A h k p hk;obtain⟨R',hs,hp⟩:=hRd i T A h;obtain⟨b,o,h1,h2,h3⟩:=hels R' (hp _ _ hsl) k p hk;exact⟨b,o,h1,hs _ _ _ h2,hs _ _ _ h3⟩
 have hlist:W.cell? ⟨b1,o1,none⟩=some (.slice a ps.length cap):=hsub _ _ _ hR1
 refine (callsIn_wide (n:=1)).1 (callsIn_of_wp Tryz.func151 rfl trivial ?_ rfl)
 simp only[Tryz.ntmps151,List.size_toArray,Td,Ch,Nat.reduceAdd,Nat.reduceSub,Array.replicate_succ,Array.replicate_zero,List.push_toArray,List.append_toArray,Kf,Sg];refine wpIn_wide.2 (wp_scope_straight ((wpIn_wide (n:=1)).1 ?_))
 gi_wp2
 refine wpIn_label ?_
 gi_wp2
 gi_loopw [9] (fun iv wr=>∃ (k:Nat)(T:Nat->Prop),iv= .int .i64 (k:Int)/\k<=ps.length/\J ((ps.take k).flatMap (AM.B1.vi fr)).length T wr) (fun iv _=>ps.length - (intOf iv).toNat)
 case atStart=>exact⟨0,_,rfl,Ql _,h0⟩
 case round=>
  obtain⟨k,T,rfl,hk,hJk⟩:=hrel;obtain⟨w0,hw0⟩:∃ w0,w0=wr:=⟨_,rfl⟩;subst hw0;rcases yd k ps.length with hlt | hge
  ·have hpk:=Rb hlt
   have hbd:=hb _ (ic hlt);have htake:ps.take (k+1)=ps.take k++[ps[k]]:=by rw[GK,hpk];rfl
   obtain⟨b,o,rfl,hc1,hc2⟩:=hread _ T w0 hJk k _ hpk;generalize ps[k]=p at hc1 hc2 hbd htake hpk;obtain⟨lo,hi⟩:=p;dsimp only at hc1 hc2 hbd;have hlen:((ps.take (k+1)).flatMap (AM.B1.vi fr)).length=((ps.take k).flatMap (AM.B1.vi fr)).length+(AM.B1.vi fr (lo,hi)).length:=by rw[htake];simp
   have hi1:(k:Int) < (ps.length:Int):=by omega
   obtain⟨W2,hW2⟩:∃ W2,W2=w0.alloc (.cells #[.int .i64 lo,.int .i64 hi] 244):=⟨_,rfl⟩
   have hB2:Below w0.heap.size w0 W2:=by rw[hW2];exact (Below.refl _ w0).alloc (gb _) _
   have hJ2:J ((ps.take k).flatMap (AM.B1.vi fr)).length (fun q=>T q\/q=w0.heap.size) W2:=hJ _ T w0 W2 _ hJk hB2 fun q hq=>hq.imp id fun e=>by subst e;rw[hW2];simp
   have hcf:=hfrom _ _ W2 hJ2;have hx2:W2.heap[w0.heap.size]? =some (.cells #[.int .i64 lo,.int .i64 hi] 244):=by rw[hW2];show (w0.heap.push _)[w0.heap.size]? =_;simp
   rw[hW2] at hcf
   by_cases hfh:hi < fr
   ·have hm0:(AM.B1.vi fr (lo,hi)).length=0:=by simp[AM.B1.vi,hfh]
    gi_wp2
    rw[hm0,Vz] at hlen;rw[hW2] at hJ2;exact⟨⟨k+1,_,by simp,by omega,by rw[hlen];exact hJ2⟩,by simp[intOf];omega⟩
   ·have hmem:AM.B1.vi fr (lo,hi)=(List.range (hi - max lo fr+1).toNat).map fun (i:Nat)=>max lo fr+(i:Int):=by simp[AM.B1.vi,hfh]
    have hmlen:(AM.B1.vi fr (lo,hi)).length=(hi - max lo fr+1).toNat:=by rw[hmem];simp
    have hget:∀ j:Nat,j < (hi - max lo fr+1).toNat->xs[((ps.take k).flatMap (AM.B1.vi fr)).length+j]? =some [.int .i64 (max lo fr+j)]:=by
     intro j hj;have hsp:ps=ps.take k++(lo,hi)::ps.drop (k+1):=by
      rw[Rb hlt] at hpk;injection hpk with hpk
      rw[<- hpk,<-Hh hlt,Wr]
     rw[hxs,Gd];have:(ps.flatMap (AM.B1.vi fr))[((ps.take k).flatMap (AM.B1.vi fr)).length+j]? =(AM.B1.vi fr (lo,hi))[j]? :=by
      conv=>lhs;arg 1;rw[hsp]
      rw[List.flatMap_append,yx,Tg (by omega),Uz,Kc (by rw[hmlen];exact hj)]
     rw[this,hmem,Gd,Pz hj];rfl
    generalize hbase:((ps.take k).flatMap (AM.B1.vi fr)).length=base at *
    obtain⟨M,hM⟩:∃ M,max lo fr=M:=⟨_,rfl⟩;rw[hM] at hget hmlen
    gi_wp2
    gi_loopw [6] (fun xv wq=>∃ j:Nat,xv= .int .i64 (M+j)/\j<=(hi - M+1).toNat/\J (base+j) (fun q=>T q\/q=w0.heap.size) wq/\wq.heap[w0.heap.size]? =some (.cells #[.int .i64 lo,.int .i64 hi] 244)) (fun xv _=>(hi+1 - intOf xv).toNat)
    case atStart=>exact⟨0,by simp,Ql _,by rw[<- hW2];exact hJ2,by rw[<- hW2];exact hx2⟩
    case round=>
     obtain⟨j,rfl,hj,hJj,hbx⟩:=hrel;have hcell:wr.cell? ⟨w0.heap.size,1,none⟩=some (.int .i64 hi):=by simp[World.cell?,hbx]
     by_cases hxle:M+j<=hi
     ·have hj':j < (hi - M+1).toNat:=by omega
      obtain⟨fn,tmps,assign,body,hy,hR⟩:=hY (base+j) _ _ wr (hget j hj') hJj;dsimp only[AM.an,AM.tH] at hy
      gi_wp2
      refine hR.mono ?_
      rintro e W3 (⟨rfl,hJ3,hk3⟩ | ⟨rfl,hJx3⟩)
      ·gi_wp2
       exact⟨⟨j+1,congrArg _ (by omega),by omega,hJ3,by rw[hk3 _ (.inr rfl)];exact hbx⟩,by simp[intOf];omega⟩
      ·gi_wp2
       simp only[Exit.noGoto];exact⟨rfl,_,results_none rfl _ _ _,⟨_,rfl⟩,.inr hJx3⟩
     ·gi_wp2
      have hje:j=(hi - M+1).toNat:=by omega
      rw[hmlen,<-hje] at hlen;exact⟨⟨k+1,_,congrArg _ (by omega),by omega,by rw[hlen];exact hJj⟩,by simp[intOf];omega⟩
  ·obtain rfl:k=ps.length:=by omega
   gi_wp2
   simp only[Exit.noGoto];refine⟨rfl,_,results_none rfl _ _ _,⟨_,rfl⟩,.inl ⟨T,?_⟩⟩;rw[hxs,wb];rw[ai] at hJk;exact hJk
open Go.Shelf Go.RowKit Go.Lib Go.Sort
shelf_lay_g SlLaysF0.n6 Slsf 6 at Tryz 67 as Tryz.rz
theorem TL(r:List Int):∃ a b c:Int,AM.encI 3 r=[.int .i64 a,.int .i64 b,.int .i64 c]/\AM.gm 3 0 r=a:=by
 unfold AM.encI AM.gm
 by_cases h:r.length=3
 ·match r,h with
  | [a,b,c],_=>exact⟨a,b,c,rfl,rfl⟩
 ·rw[qa h,qa h];exact⟨0,0,0,rfl,rfl⟩
set_option maxHeartbeats 1000000 in
theorem iap(a b c d e f:Int)(W:World):Calls Tryz.prog 68 #[.agg #[.int .i64 a,.int .i64 b,.int .i64 c],.agg #[.int .i64 d,.int .i64 e,.int .i64 f]] W fun x w'=>x= .returned (.int .i64 (Lib.compareInt a d))/\∃ q eF,w'=grow (W.drewN q) eF:=by
 have mB:=fun W'=>AnyG.cmp_Compare_int Tryz.cmpInt a d W'
 change ∀ W',Calls Tryz.prog 69 _ _ _ at mB
 generalize Lib.compareInt a d=r at mB ⊢
 go_enter Tryz.func68,Tryz.ntmps68
 go_wp2_with (go_at_call 69;refine (mB _).mono ?_;rintro e w' ⟨rfl,rfl⟩)
 go_ret
 exact⟨rfl,0,_,by rw[alloc_eq_grow,alloc_eq_grow,grow_grow];rfl⟩
theorem kap:AM.zP Tryz.prog 67 68 3 0 where
 call:=⟨_,_,Tryz.func67,rfl,by kernel_rfl⟩
 many:=by
  intro Kx SB cap D w hH hb hs;refine AnyQ.slices_SortFunc_eq Tryz.rz 3 Tryz.isAgg131 Tryz.sizeOf131 (AM.encI 3) (fun x=>by obtain⟨a,b,c,h,_⟩:=TL x;rw[h];rfl) (fun x v hv=>by obtain⟨a,b,c,h,_⟩:=TL x;rw[h] at hv;simp at hv;rcases hv with rfl | rfl | rfl <;> rfl) (AM.Nx 3 0) (AM.pV 3 0) 68 #[] Kx SB cap D w (enters_of Tryz.func68 (by kernel_rfl) rfl) (fun m os dk _ x y=> ?_) hH hb hs
  obtain⟨a,b,c,h1,h2⟩:=TL x;obtain⟨d,e,f,h3,h4⟩:=TL y;rw[h1,h3];unfold AM.Nx
  rw[h2,h4];exact iap a b c d e f _
 none:=fun p cap w=>AnyF.slices_SortFunc_none Tryz.rz p cap _ w
end Go.Proofs
