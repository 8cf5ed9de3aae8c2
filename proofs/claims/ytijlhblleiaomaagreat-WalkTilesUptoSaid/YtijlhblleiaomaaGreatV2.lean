/- What functions of the program compute. -/
import Derived.Test.YtijlhblleiaomaaGreatV1
import Derived.Test.YtijlhblleiaomaaGreatProg
import Derived.Test.YtijlhblleiaomaaGreatI3
import Derived.RangeFuncNested
import Derived.RangeFuncBound
import Derived.RangeFuncCalls
import Derived.RangeFuncLeaves
import Derived.Shelf.Abstract
import Derived.Shelf.RegionOpen
import Derived.WalkKit
import Derived.OwnWalkIn
import Derived.TacticsInMore
import Derived.LoopNIn
import Derived.LoopIn
set_option linter.unusedVariables false
namespace Go.AM.B1
open Go.AM
def qc:Pa:=(jQ [jK 35 .lss 34 256] (.seq (jX 35 2) (.seq (.block 3 (jQ [Cv 36 34,Co 37 (.BV 256 1 false (.t 33) (.t 34)),Cv 6 36,Cv 7 37] (jQ [Cv 38 7,jK 39 .geq 38 0] (jC 39 (.region [Cv 40 0,jz 41 40,jf 42 3 41,jl 43 1 42,Cv 44 5,Cv 45 6,Cv 46 3,Cv 47 7,ji 48 1 46 47,jl 49 1 48,ji 50 256 43 44,Co 51 (.kA 256 1 50 45),jS 1 51 49]) .skip)))) (.region [jK 52 .add 34 1,Cv 34 52]))))
def yd:Pa:=(.seq (jQ [Cv 23 5,jK 24 .geq 23 0] (jX 24 0)) (.seq (.block 1 (.seq (jQ [Cv 27 0,jz 28 27,jf 29 3 28,jl 30 1 29,Cv 31 5,ji 32 256 30 31,jL 33 256 32,jk 34 0] (.block 2 (.Lp [0,3,4,5,33,34] qc))) (jQ [Cv 54 4,Cv 55 0,jz 56 55,jf 57 3 56,jl 58 1 57,Cv 59 5,ji 60 256 58 59,jL 61 256 60,Co 62 (.lookup (.row (List.replicate 256 1)) (.int .i64 0) true (.t 54) (.t 61)),Cv 53 62,jx 63 0 53,jx 64 1 53,Cv 8 63,Cv 9 64] (.seq (jQ [Cv 65 9,jt 66 65] (jC 66 (jQ [Cv 67 5,Cv 8 67] (.region [Cv 68 4,Cv 69 0,jz 70 69,jf 71 3 70,jl 72 1 71,Cv 73 5,ji 74 256 72 73,jL 75 256 74,Cv 76 5,Ce (.tu (.row (List.replicate 256 1)) (.t 68) (.t 75) (.t 76))])) .skip)) (.region [Cv 77 3,Cv 78 5,Cv 79 8,ji 80 1 77 78,jS 1 80 79]))))) (.region [Cv 25 5,jK 26 .sub 25 1,Cv 5 26])))
def zi:gf:=⟨1,[.tmp 2],(jQ [jc 2 .ma] (jQ [Cv 10 0,jz 11 10,jf 12 2 11,jl 13 1 12,jn 14 0 13,Co 15 (.Xg .own 1 false [(.int .i64 0)] 8 (.t 14) (.t 14)),Cv 3 15] (jQ [Co 16 (.sE),Cv 4 16] (.seq (jQ [Cv 17 0,jz 18 17,jf 19 2 18,jl 20 1 19,jn 21 0 20,jK 22 .sub 21 1,Cv 5 22] (.block 0 (.Lp [0,3,4,5] yd))) (jr [Cv 81 3,Cv 2 81])))))⟩
theorem Hv:wc P fo 92 zi:=fM Go.Proofs.Tryz.func92 dN
def Sc:Pa:=(jQ [jK 9 .lss 8 256] (.seq (jX 9 0) (.seq (.block 1 (jQ [Cv 10 8,Co 11 (.BV 256 1 false (.t 7) (.t 8)),Cv 4 10,Cv 5 11] (.seq (jQ [Cv 12 5,jK 13 .eql 12 (-2)] (jC 13 (.exit 1) .skip)) (.seq (jQ [Cv 14 3,jn 15 0 14,Cv 6 15] (jQ [Cv 16 6,jK 17 .gtr 16 0,Cv 18 17,jT 19 18 (.km 3),jT 20 18 (.km 6),jT 21 18 (.kK .sub 20 1),jT 22 18 (.ki 3 19 21),jT 23 18 (.kf 2 22),jT 24 18 (.kl 1 23),jT 25 18 (.km 5),jT 26 18 (.kB .eql 24 25),ja 27 18 26,Cv 28 27,jT 29 28 (.km 3),jT 30 28 (.km 6),jT 31 28 (.kK .sub 30 1),jT 32 28 (.ki 3 29 31),jT 33 28 (.kf 1 32),jT 34 28 (.kl 1 33),jT 35 28 (.km 4),jT 36 28 (.kK .sub 35 1),jT 37 28 (.kB .eql 34 36),ja 38 28 37] (jC 38 (jQ [Cv 39 3,Cv 40 6,jK 41 .sub 40 1,Cv 42 4,ji 43 3 39 41,jf 44 1 43,jS 1 44 42] (.exit 1)) .skip))) (.region [Cv 45 3,Cv 46 4,Cv 47 4,Cv 48 5,Co 49 (.build [(.int .i64 0),(.int .i64 0),(.int .i64 0)] [(0,1,(.t 46)),(1,1,(.t 47)),(2,1,(.t 48))]),Co 50 (.Gb .lit 3 true 1 [(.int .i64 0),(.int .i64 0),(.int .i64 0)] [(0,(.t 49))]),Co 51 (.append true .own 3 true 24 (.t 45) (.t 50)),Cv 3 51]))))) (.region [jK 52 .add 8 1,Cv 8 52]))))
def wu:gf:=⟨1,[.tmp 2],(jQ [jR 1 256 0,jc 2 .ma] (jQ [jc 3 .ma] (.ghost (.CH 3 3 true) (.seq (jQ [JL 7 256 1,jk 8 0] (.block 0 (.Lp [3,7,8] Sc))) (jr [Cv 53 3,Cv 2 53])))))⟩
theorem aG:wc P fo 121 wu:=fM Go.Proofs.Tryz.func121 dN
def Zp:=Ub (fun _=>none) wu
theorem sI:Na P 121 Zp:=Ja Va aG
def fc:Pa:=(jQ [jK 33 .lss 32 256] (.seq (jX 33 2) (.seq (.block 3 (jQ [Cv 34 32,Co 35 (.BV 256 1 false (.t 31) (.t 32)),Cv 8 34,Cv 9 35] (.seq (jQ [Cv 36 9,jK 37 .lss 36 0] (jC 37 (.exit 3) .skip)) (jQ [Cv 39 3,Cv 40 9,Co 41 (.lookup (.one 1) (.int .i64 0) true (.t 39) (.t 40)),Cv 38 41,jx 42 0 38,jx 43 1 38,Cv 10 42,Cv 11 43] (.seq (jQ [Cv 44 11,jt 45 44] (jC 45 (jQ [Cv 46 4,jn 47 0 46,Cv 10 47] (jQ [Cv 48 3,Cv 49 9,Cv 50 10,Ce (.tu (.one 1) (.t 48) (.t 49) (.t 50))] (.region [Cv 51 4,Cv 52 9,Co 53 (.Gb .lit 1 false 1 [(.int .i64 0)] [(0,(.t 52))]),Co 54 (.ku 1 false 8 51 53),Cv 4 54]))) .skip)) (.region [Cv 55 8,Cv 56 10,Co 57 (.kA 256 1 7 55),jS 1 57 56])))))) (.region [jK 58 .add 32 1,Cv 32 58]))))
def Tc:Pa:=(.seq (jQ [Cv 15 6,Cv 16 4,jn 17 0 16,jB 18 .lss 15 17] (jX 18 0)) (.seq (.block 1 (jQ [Cv 21 0,jz 22 21,jf 23 3 22,jl 24 1 23,Cv 25 4,Cv 26 6,ji 27 1 25 26,jl 28 1 27,ji 29 256 24 28,jL 30 256 29,Co 7 (.alloc (List.replicate 256 (.int .i64 0))),jS 256 7 30] (.seq (jQ [jL 31 256 7,jk 32 0] (.block 2 (.Lp [0,2,3,4,5,6,7,31,32] fc))) (.region [jf 59 0 5,jl 60 1 59,jL 61 256 7,jp 62 Zp 61,Co 63 (.Gb .lit 1 false 1 [.ma] [(0,(.t 62))]),Co 64 (.ku 1 false 24 60 63),jf 65 0 5,jS 1 65 64])))) (.region [Cv 19 6,jK 20 .add 19 1,Cv 6 20])))
def Zi:gf:=⟨1,[.cell 2 true 1],(jQ [Co 2 (.alloc [.ma])] (jQ [Co 12 (.sE),Ce (.tu (.one 1) (.t 12) (.c (.int .i64 0)) (.c (.int .i64 0))),Cv 13 12,Cv 3 13] (jQ [Co 14 (.Gb .uq 1 false 1 [(.int .i64 0)] [(0,(.c (.int .i64 0)))]),Cv 4 14] (jQ [Co 5 (.alloc [.ma])] (.ghost (.Ct 5 0 1) (.seq (jQ [jk 6 0] (.block 0 (.Lp [0,2,3,4,5,6] Tc))) (jr [jL 66 1 5,jS 1 2 66])))))))⟩
theorem Aw:wc P fo 93 Zi:=fM Go.Proofs.Tryz.func93 (dC sI dN)
def Bl:gf:=⟨1,[.cell 2 true 1,.tmp 3],(jQ [jR 1 1 0,Co 2 (.alloc [.ma]),jk 3 0] (jQ [JL 8 1 1,jp 9 Se 8,Cv 7 9,jx 10 0 7,jx 11 1 7,Co 4 (.alloc [(.bool false),(.int .i64 0),(.int .i64 0)]),jS 3 4 10,Cv 5 11] (.seq (.block 0 (jQ [Cv 13 5,jK 14 .neq 13 0,Cv 12 14] (jC 12 (jr [Co 15 (.build [.ma] []),Cv 16 5,jS 1 2 15,Cv 3 16]) (jQ [jf 18 0 4,jl 19 1 18,jt 20 19,Cv 17 20] (jC 17 (jr [Co 21 (.build [.ma] []),jS 1 2 21,jk 3 110]) .skip))))) (jQ [JL 22 1 1,jp 23 Ti 22,Co 24 (.sE),Co 25 (.build [.ma,.Lw,.ma,.ma] [(0,1,(.t 23)),(1,1,(.t 24))]),Co 26 (.box 4 (.t 25)),Cv 6 26] (.ghost (.Ct 26 2 2) (.ghost (.NH 26 3 256 true) (.seq (jQ [Cv 27 6,Co 28 (.tj 28 [(.t 27)]),jt 29 28] (jC 29 (jr [Co 30 (.build [.ma] []),jS 1 2 30,jk 3 130]) .skip)) (jQ [Cv 31 6,Co 32 (.tj 29 [(.t 31)])] (jr [Cv 33 6,Co 34 (.tj 30 [(.t 33)]),jS 1 2 34,jk 3 0])))))))))⟩
theorem lG:wc P fo 62 Bl:=fM Go.Proofs.Tryz.func62 (dC UD (dC Ux dN))
def Da:Nat→Option gf
 |26=>some Od
 |27=>some mi
 |28=>some mg
 |29=>some zi
 |30=>some Zi
 |_=>none
theorem vF:Sl P fo Da:=by
 intro ix af h
 unfold Da at h
 split at h
 ·injection h with h;subst h;exact Qx
 ·injection h with h;subst h;exact Iu
 ·injection h with h;subst h;exact Iw
 ·injection h with h;subst h;exact Hv
 ·injection h with h;subst h;exact Aw
 ·cases h
def Cc:=Ub Da Bl
theorem LH:Na P 62 Cc:=Ja vF lG
def Jd:Pa:=(.seq (jQ [Cv 8 4,Jf 9 0 1,Jl 10 1 9,jn 11 0 10,jB 12 .lss 8 11] (jX 12 0)) (.seq (.block 1 (.region [jf 15 0 3,jl 16 1 15,Co 17 (.Gb .uq 2 true 0 [(.int .i64 0),(.int .i64 0)] []),Jf 18 0 1,Jl 19 1 18,Cv 20 4,Ji 21 1 19 20,Jl 22 1 21,Co 23 (.ku 2 true 16 17 22),Co 24 (.Gb .lit 1 false 1 [.ma] [(0,(.t 23))]),Co 25 (.ku 1 false 24 16 24),jf 26 0 3,jS 1 26 25])) (.region [Cv 13 4,jK 14 .add 13 1,Cv 4 14])))
def Vh:gf:=⟨1,[.cell 2 true 2],(jQ [jR 1 2 0,Co 2 (.alloc [.ma,(.int .i64 0)])] (jQ [Jf 5 1 1,Jl 6 1 5,Co 7 (.build [.ma,(.int .i64 0)] [(1,1,(.t 6))]),Co 3 (.alloc [.ma,(.int .i64 0)]),jS 2 3 7] (.ghost (.Ct 3 0 1) (.seq (jQ [jk 4 0] (.block 0 (.loop [1,2,3,4] Jd))) (jr [jL 27 2 3,jS 2 2 27])))))⟩
theorem Sp:wc P fo 70 Vh:=fM Go.Proofs.Tryz.func70 dN
def eg:=Ub (fun _=>none) Vh
theorem tq:Na P 70 eg:=Ja Va Sp
def Df:Pa:=(.seq (jQ [Cv 6 4,Jf 7 0 1,Jl 8 1 7,jn 9 0 8,jB 10 .lss 6 9] (jX 10 0)) (.seq (.block 1 (.region [jf 13 0 3,jl 14 1 13,Jf 15 0 1,Jl 16 1 15,Cv 17 4,Ji 18 2 16 17,JL 19 2 18,jp 20 eg 19,Co 21 (.Gb .lit 2 true 1 [.ma,(.int .i64 0)] [(0,(.t 20))]),Co 22 (.ku 2 true 32 14 21),jf 23 0 3,jS 1 23 22])) (.region [Cv 11 4,jK 12 .add 11 1,Cv 4 12])))
def pk:gf:=⟨1,[.cell 2 true 1],(jQ [jR 1 1 0,Co 2 (.alloc [.ma])] (jQ [Co 5 (.build [.ma] []),Co 3 (.alloc [.ma]),jS 1 3 5] (.ghost (.Ct 3 0 2) (.seq (jQ [jk 4 0] (.block 0 (.loop [1,2,3,4] Df))) (jr [jL 24 1 3,jS 1 2 24])))))⟩
theorem mv:wc P fo 45 pk:=fM Go.Proofs.Tryz.func45 (dC tq dN)
def qi:=Ub (fun _=>none) pk
theorem Dv:Na P 45 qi:=Ja Va mv
def Mb:Pa:=(.seq (jQ [Cv 4 3,Cv 5 0,jn 6 0 5,jB 7 .lss 4 6] (jX 7 0)) (.seq (.block 1 (jQ [Cv 10 0,Cv 11 3,Ji 12 2 10 11,jf 13 0 12,jl 14 1 13,jK 15 .lss 14 0,Cv 16 15,jF 17 16 (.km 0),jF 18 16 (.km 3),JF 19 16 (.ki 2 17 18),jF 20 16 (.kf 0 19),jF 21 16 (.kl 1 20),jF 22 16 (.km 0),jF 23 16 (.km 3),JF 24 16 (.ki 2 22 23),jF 25 16 (.kf 1 24),jF 26 16 (.kl 1 25),jF 27 16 (.kB .gtr 21 26),jo 28 16 27,Cv 29 28,jF 30 29 (.km 0),jF 31 29 (.km 3),JF 32 29 (.ki 2 30 31),jF 33 29 (.kf 1 32),jF 34 29 (.kl 1 33),jF 35 29 (.kK .gtr 34 255),jo 36 29 35,Cv 37 36,jF 38 37 (.km 3),jF 39 37 (.kK .gtr 38 0),jF 40 37 (.km 39),jT 41 40 (.km 0),jT 42 40 (.km 3),JT 43 40 (.ki 2 41 42),jT 44 40 (.kf 0 43),jT 45 40 (.kl 1 44),jT 46 40 (.km 0),jT 47 40 (.km 3),jT 48 40 (.kK .sub 47 1),JT 49 40 (.ki 2 46 48),jT 50 40 (.kf 1 49),jT 51 40 (.kl 1 50),jT 52 40 (.kK .add 51 1),jT 53 40 (.kB .leq 45 52),jF 54 37 (.ka 40 53),jo 55 37 54] (jC 55 (jr [jb 2 false]) .skip))) (.region [Cv 8 3,jK 9 .add 8 1,Cv 3 9])))
def yj:gf:=⟨1,[.tmp 2],(jQ [jb 2 false] (.seq (jQ [jk 3 0] (.block 0 (.loop [0,3] Mb))) (jr [jb 2 true])))⟩
theorem qt:wc P fo 157 yj:=fM Go.Proofs.Tryz.func157 dN
def Yf:=Ub (fun _=>none) yj
theorem dn:Na P 157 Yf:=Ja Va qt
def we:Pa:=(.seq (jQ [Cv 21 5,Cv 22 0,Cv 23 4,ji 24 2 22 23,jf 25 1 24,jl 26 1 25,jB 27 .leq 21 26] (jX 27 2)) (.seq (.block 3 (.region [Cv 30 5,Co 31 (.kA 256 1 3 30),Ce (.store 1 (.t 31) (.c (.bool true)))])) (.region [Cv 28 5,jK 29 .add 28 1,Cv 5 29])))
def je:Pa:=(.seq (jQ [Cv 10 4,Cv 11 0,jn 12 0 11,jB 13 .lss 10 12] (jX 13 0)) (.seq (.block 1 (jQ [Cv 16 0,Cv 17 4,ji 18 2 16 17,jf 19 0 18,jl 20 1 19,Cv 5 20] (.block 2 (.loop [0,2,3,4,5] we)))) (.region [Cv 14 4,jK 15 .add 14 1,Cv 4 15])))
def Ng:gf:=⟨1,[.cell 2 true 256],(jQ [Co 2 (.alloc (List.replicate 256 (.bool false)))] (jQ [Co 3 (.alloc (List.replicate 256 (.bool false)))] (.seq (jQ [Cv 6 0,jp 7 Yf 6,jt 8 7] (jC 8 (jr [jL 9 256 3,jS 256 2 9]) .skip)) (.seq (jQ [jk 4 0] (.block 0 (.loop [0,2,3,4] je))) (jr [jL 32 256 3,jS 256 2 32])))))⟩
theorem gr:wc P fo 135 Ng:=fM Go.Proofs.Tryz.func135 (dC dn dN)
def gd:=Ub (fun _=>none) Ng
theorem Si:Na P 135 gd:=Ja Va gr
def Zd:Pa:=(.seq (jQ [Cv 8 5,jK 9 .leq 8 255] (jX 9 0)) (.seq (.block 1 (jQ [Cv 12 5,Co 13 (.kA 256 1 3 12),jl 14 1 13] (jC 14 (.region [Cv 15 4,jK 16 .add 15 1,Cv 4 16]) .skip))) (.region [Cv 10 5,jK 11 .add 10 1,Cv 5 11])))
def ak:gf:=⟨1,[.tmp 2],(jQ [jk 2 0] (jQ [Cv 6 0,jp 7 gd 6,Co 3 (.alloc (List.replicate 256 (.bool false))),jS 256 3 7,jk 4 0] (.seq (jQ [jk 5 0] (.block 0 (.loop [3,4,5] Zd))) (jr [Cv 17 4,Cv 2 17]))))⟩
theorem Yu:wc P fo 162 ak:=fM Go.Proofs.Tryz.func162 (dC Si dN)
def ai:=Ub (fun _=>none) ak
theorem Rv:Na P 162 ai:=Ja Va Yu
def Nd:Pa:=(.seq (jQ [Cv 5 4,Jf 6 0 1,Jl 7 1 6,jn 8 0 7,jB 9 .lss 5 8] (jX 9 0)) (.seq (.block 1 (jQ [Cv 12 3,Jf 13 0 1,Jl 14 1 13,Cv 15 4,ji 16 1 14 15,jl 17 1 16,jp 18 ai 17,jB 19 .mul 12 18,Cv 3 19] (jQ [Cv 20 3,jK 21 .gtr 20 1073741824] (jC 21 (.region [jk 3 1073741825]) .skip)))) (.region [Cv 10 4,jK 11 .add 10 1,Cv 4 11])))
def xj:gf:=⟨1,[.tmp 2],(jQ [jR 1 2 0,jk 2 0] (jQ [jk 3 1] (.seq (jQ [jk 4 0] (.block 0 (.loop [1,3,4] Nd))) (jr [Cv 22 3,Cv 2 22]))))⟩
theorem tt:wc P fo 158 xj:=fM Go.Proofs.Tryz.func158 (dC Rv dN)
def Pd:=Ub (fun _=>none) xj
theorem sh:Na P 158 Pd:=Ja Va tt
def bc:Pa:=(.seq (jQ [Cv 24 3,Jf 25 0 1,Jl 26 1 25,jn 27 0 26,jB 28 .lss 24 27] (jX 28 0)) (.seq (.block 1 (jQ [Jf 31 0 1,Jl 32 1 31,Cv 33 3,ji 34 1 32 33,jl 35 1 34,jn 36 0 35,jK 37 .eql 36 0,Cv 38 37,JF 39 38 (.kf 0 1),JF 40 38 (.kl 1 39),jF 41 38 (.km 3),jF 42 38 (.ki 1 40 41),jF 43 38 (.kl 1 42),jF 44 38 (.kp Yf 43),jF 45 38 (.kt 44),jo 46 38 45] (jC 46 (jr [jb 2 false]) .skip))) (.region [Cv 29 3,jK 30 .add 29 1,Cv 3 30])))
def Bb:gf:=⟨1,[.tmp 2],(jQ [jR 1 2 0,jb 2 false] (.seq (jQ [Jf 4 0 1,Jl 5 1 4,jn 6 0 5,jK 7 .lss 6 1,Cv 8 7,JF 9 8 (.kf 0 1),JF 10 8 (.kl 1 9),jF 11 8 (.kn 0 10),jF 12 8 (.kK .gtr 11 8),jo 13 8 12,Cv 14 13,JF 15 14 (.kf 1 1),JF 16 14 (.kl 1 15),jF 17 14 (.kK .lss 16 0),jo 18 14 17,Cv 19 18,JF 20 19 (.kf 1 1),JF 21 19 (.kl 1 20),jF 22 19 (.kK .gtr 21 1073741823),jo 23 19 22] (jC 23 (jr [jb 2 false]) .skip)) (.seq (jQ [jk 3 0] (.block 0 (.loop [1,3] bc))) (jr [Jf 47 1 1,Jl 48 1 47,JL 49 2 1,jp 50 Pd 49,jB 51 .add 48 50,jK 52 .sub 51 1,jK 53 .leq 52 1073741823,Cv 2 53]))))⟩
theorem cp:wc P fo 137 Bb:=fM Go.Proofs.Tryz.func137 (dC dn (dC sh dN))
def Ob:=Ub (fun _=>none) Bb
theorem Ck:Na P 137 Ob:=Ja Va cp
def jd:Pa:=(.seq (jQ [Cv 6 5,Cv 7 1,jB 8 .lss 6 7] (jX 8 0)) (.seq (.block 1 (jQ [Cv 11 0,Cv 12 1,Ji 13 2 11 12,jf 14 1 13,jl 15 1 14,Cv 16 0,Cv 17 5,Ji 18 2 16 17,jf 19 1 18,jl 20 1 19,Cv 21 0,Cv 22 5,Ji 23 2 21 22,JL 24 2 23,jp 25 Pd 24,jB 26 .add 20 25,jK 27 .sub 26 1,jB 28 .leq 15 27,Cv 29 28,jT 30 29 (.km 0),jT 31 29 (.km 5),JT 32 29 (.ki 2 30 31),jT 33 29 (.kf 1 32),jT 34 29 (.kl 1 33),jT 35 29 (.km 0),jT 36 29 (.km 1),JT 37 29 (.ki 2 35 36),jT 38 29 (.kf 1 37),jT 39 29 (.kl 1 38),jT 40 29 (.km 0),jT 41 29 (.km 1),JT 42 29 (.ki 2 40 41),JT 43 29 (.kL 2 42),jT 44 29 (.kp Pd 43),jT 45 29 (.kB .add 39 44),jT 46 29 (.kK .sub 45 1),jT 47 29 (.kB .leq 34 46),ja 48 29 47] (jC 48 (jr [jb 4 true]) .skip))) (.region [Cv 9 5,jK 10 .add 9 1,Cv 5 10])))
def ik:gf:=⟨2,[.tmp 4],(jQ [jb 4 false] (.seq (jQ [jk 5 0] (.block 0 (.loop [0,1,5] jd))) (jr [jb 4 false])))⟩
theorem Eu:wc P fo 138 ik:=fM Go.Proofs.Tryz.func138 (dC sh (dC sh dN))
def Bg:=Ub (fun _=>none) ik
theorem Jv:Na P 138 Bg:=Ja Va Eu
def Qc:Pa:=(.seq (jQ [Cv 8 3,Jf 9 0 1,Jl 10 1 9,jn 11 0 10,jB 12 .lss 8 11] (jX 12 0)) (.seq (.block 1 (jQ [Jf 15 0 1,Jl 16 1 15,Cv 17 3,ji 18 2 16 17,jL 19 2 18,jp 20 Ob 19,jt 21 20,Cv 22 21,JF 23 22 (.kf 0 1),JF 24 22 (.kl 1 23),jF 25 22 (.km 3),jF 26 22 (.kq Bg 24 25),jo 27 22 26] (jC 27 (jr [jb 2 false]) .skip))) (.region [Cv 13 3,jK 14 .add 13 1,Cv 3 14])))
def qh:gf:=⟨1,[.tmp 2],(jQ [jR 1 1 0,jb 2 false] (.seq (jQ [Jf 4 0 1,Jl 5 1 4,jn 6 0 5,jK 7 .gtr 6 32] (jC 7 (jr [jb 2 false]) .skip)) (.seq (jQ [jk 3 0] (.block 0 (.loop [1,3] Qc))) (jr [jb 2 true]))))⟩
theorem Nt:wc P fo 104 qh:=fM Go.Proofs.Tryz.func104 (dC Ck (dC Jv dN))
def Qd:=Ub (fun _=>none) qh
theorem Hm:Na P 104 Qd:=Ja Va Nt
def uj:gf:=⟨1,[.tmp 2],(jQ [jR 1 2 0,jk 2 0] (.seq (jQ [JL 3 2 1,jp 4 Ob 3,jt 5 4] (jC 5 (jr [jk 2 0]) .skip)) (jr [JL 6 2 1,jp 7 Pd 6,Cv 2 7])))⟩
theorem Ys:wc P fo 139 uj:=fM Go.Proofs.Tryz.func139 (dC Ck (dC sh dN))
def jg:=Ub (fun _=>none) uj
theorem Mm:Na P 139 jg:=Ja Va Ys
def Wg:gf:=⟨2,[.tmp 4],(jQ [jb 4 false] (jr [Cv 5 1,jK 6 .geq 5 0,Cv 7 6,jT 8 7 (.km 1),jT 9 7 (.kK .leq 8 255),ja 10 7 9,Cv 11 10,jT 12 11 (.km 0),jT 13 11 (.kp gd 12),jT 14 11 (.km 1),jT 15 11 (.BV 256 1 false (.t 13) (.t 14)),ja 16 11 15,Cv 4 16]))⟩
theorem Fv:wc P fo 140 Wg:=fM Go.Proofs.Tryz.func140 (dC Si dN)
def Qe:=Ub (fun _=>none) Wg
theorem Uo:Na P 140 Qe:=Ja Va Fv
def Lc:Pa:=(.seq (jQ [Cv 42 10,jK 43 .lss 42 256,Cv 44 43,JT 45 44 (.kf 0 3),JT 46 44 (.kl 1 45),jT 47 44 (.km 9),jT 48 44 (.ki 1 46 47),jT 49 44 (.kl 1 48),jT 50 44 (.km 10),jT 51 44 (.kq Qe 49 50),jT 52 44 (.km 51),JT 53 52 (.kf 0 4),JT 54 52 (.kl 1 53),jT 55 52 (.km 9),jT 56 52 (.ki 1 54 55),jT 57 52 (.kl 1 56),jT 58 52 (.km 10),jT 59 52 (.kq Qe 57 58),jT 60 44 (.ka 52 59),jT 61 44 (.kt 60),ja 62 44 61] (jX 62 2)) (.block 3 (.region [Cv 63 10,jK 64 .add 63 1,Cv 10 64])))
def Ke:Pa:=(.seq (jQ [Cv 37 9,Cv 38 2,jB 39 .lss 37 38] (jX 39 0)) (.seq (.block 1 (jQ [jk 10 0] (.seq (.block 2 (.loop [2,3,4,8,9,10] Lc)) (.seq (jQ [Cv 65 10,jK 66 .eql 65 256] (jC 66 (jr [jc 6 .ma,jb 7 false]) .skip)) (.region [Cv 67 8,Cv 68 10,Co 69 (.conv .u8 (.t 68)),Co 70 (.Gb .lit 1 false 1 [(.int .u8 0)] [(0,(.t 69))]),Co 71 (.ku 1 false 1 67 70),Cv 8 71]))))) (.region [Cv 40 9,jK 41 .add 40 1,Cv 9 41])))
def jj:gf:=⟨3,[.tmp 6,.tmp 7],(jQ [jR 3 2 0,jR 4 2 1,jc 6 .ma,jb 7 false] (.seq (jQ [JL 11 2 3,jp 12 jg 11,jK 13 .eql 12 0,Cv 14 13,JF 15 14 (.kL 2 4),jF 16 14 (.kp jg 15),jF 17 14 (.kK .eql 16 0),jo 18 14 17,Cv 19 18,jF 20 19 (.km 2),jF 21 19 (.kK .lss 20 0),jo 22 19 21,Cv 23 22,jF 24 23 (.km 2),JF 25 23 (.kf 0 3),JF 26 23 (.kl 1 25),jF 27 23 (.kn 0 26),jF 28 23 (.kB .gtr 24 27),jo 29 23 28,Cv 30 29,jF 31 30 (.km 2),JF 32 30 (.kf 0 4),JF 33 30 (.kl 1 32),jF 34 30 (.kn 0 33),jF 35 30 (.kB .gtr 31 34),jo 36 30 35] (jC 36 (jr [jc 6 .ma,jb 7 false]) .skip)) (jQ [jc 8 .ma] (.ghost (.mJ 8 1) (.seq (jQ [jk 9 0] (.block 0 (.loop [2,3,4,8,9] Ke))) (jr [Cv 72 8,Cv 6 72,jb 7 true]))))))⟩
theorem Sr:wc P fo 105 jj:=fM Go.Proofs.Tryz.func105 (dC Mm (dC Mm (dC Uo (dC Uo dN))))
def Fe:=Ub (fun _=>none) jj
theorem nm:Na P 105 Fe:=Ja Va Sr
end Go.AM.B1
namespace Go.AM.B1
open Go.AM
def Ic:Pa:=(.seq (jQ [Cv 19 5,Jf 20 0 1,Jl 21 1 20,jn 22 0 21,jB 23 .lss 19 22] (jX 23 2)) (.seq (.block 3 (jQ [Jf 26 0 1,Jl 27 1 26,Cv 28 4,ji 29 2 27 28,jf 30 0 29,jl 31 1 30,jn 32 0 31,Cv 6 32] (jQ [Cv 33 6,Jf 34 0 1,Jl 35 1 34,Cv 36 5,ji 37 2 35 36,jf 38 0 37,jl 39 1 38,jn 40 0 39,jB 41 .lss 33 40] (jC 41 (jQ [Jf 43 0 1,Jl 44 1 43,Cv 45 4,Ji 46 2 44 45,JL 47 2 46,Jf 48 0 1,Jl 49 1 48,Cv 50 5,Ji 51 2 49 50,JL 52 2 51,Cv 53 6,Co 54 (.kr Fe 47 52 53),Cv 42 54,jx 55 0 42,jx 56 1 42,Cv 7 55,Cv 8 56] (jQ [Cv 57 8] (jC 57 (jr [jb 2 false,jk 3 0]) .skip))) .skip)))) (.region [Cv 24 5,jK 25 .add 24 1,Cv 5 25])))
def Me:Pa:=(.seq (jQ [Cv 12 4,Jf 13 0 1,Jl 14 1 13,jn 15 0 14,jB 16 .lss 12 15] (jX 16 0)) (.seq (.block 1 (jQ [jk 5 0] (.block 2 (.loop [1,4,5] Ic)))) (.region [Cv 17 4,jK 18 .add 17 1,Cv 4 18])))
def ah:gf:=⟨1,[.tmp 2,.tmp 3],(jQ [jR 1 1 0,jb 2 false,jk 3 0] (.seq (jQ [JL 9 1 1,jp 10 Qd 9,jt 11 10] (jC 11 (jr [jb 2 false,jk 3 84]) .skip)) (.seq (jQ [jk 4 0] (.block 0 (.loop [1,4] Me))) (jr [jb 2 true,jk 3 0]))))⟩
theorem Rr:wc P fo 101 ah:=fM Go.Proofs.Tryz.func101 (dC Hm (dC nm dN))
def Ad:=Ub (fun _=>none) ah
theorem Ws:Na P 101 Ad:=Ja Va Rr
def Xd:Pa:=(.seq (jQ [Cv 6 5,Cv 7 0,jn 8 0 7,jB 9 .lss 6 8] (jX 9 0)) (.seq (.block 1 (jQ [Cv 12 0,Cv 13 5,Ji 14 33 12 13,JL 15 33 14,JL 16 33 3,Co 17 (.ZV (.row [1,0,0,0,0,0,0,0,0,0,0,0,0,0,0,0,0,0,0,0,0,0,0,0,0,0,0,0,0,0,0,0,0]) false (.t 15) (.t 16))] (jC 17 (jr [Cv 18 5,Cv 4 18]) .skip))) (.region [Cv 10 5,jK 11 .add 10 1,Cv 5 11])))
def qk:gf:=⟨2,[.tmp 4],(jQ [jR 3 33 1,jk 4 0] (.seq (jQ [jk 5 0] (.block 0 (.loop [0,3,5] Xd))) (jr [jk 4 (-1)])))⟩
theorem nu:wc P fo 136 qk:=fM Go.Proofs.Tryz.func136 dN
def oi:=Ub (fun _=>none) qk
theorem Lv:Na P 136 oi:=Ja Va nu
def yf:Pa:=(.seq (jQ [Cv 31 9,Jf 32 0 1,Jl 33 1 32,Cv 34 7,ji 35 2 33 34,jf 36 0 35,jl 37 1 36,jn 38 0 37,jB 39 .lss 31 38] (jX 39 2)) (.seq (.block 3 (.region [Cv 42 9,Jf 43 0 1,Jl 44 1 43,Cv 45 7,ji 46 2 44 45,jf 47 0 46,jl 48 1 47,Cv 49 9,ji 50 1 48 49,jl 51 1 50,jp 52 gd 51,Co 53 (.kA 8 256 8 42),jS 256 53 52])) (.region [Cv 40 9,jK 41 .add 40 1,Cv 9 41])))
def zf:Pa:=(.seq (jQ [Cv 21 7,Jf 22 0 1,Jl 23 1 22,jn 24 0 23,jB 25 .lss 21 24] (jX 25 0)) (.seq (.block 1 (jQ [Cv 28 7,jf 29 1 6,Co 30 (.kA 32 1 29 28),Ce (.store 1 (.t 30) (.c (.bool true)))] (jQ [Co 8 (.alloc (List.replicate 2048 (.bool false)))] (.seq (jQ [jk 9 0] (.block 2 (.loop [1,5,6,7,8,9] yf))) (.region [Cv 54 5,jL 55 2048 8,Co 56 (.Gb .lit 2048 true 1 (List.replicate 2048 (.bool false)) [(0,(.t 55))]),Co 57 (.ku 2048 true 2048 54 56),Cv 5 57]))))) (.region [Cv 26 7,jK 27 .add 26 1,Cv 7 27])))
def bd:Pa:=(.seq (jQ [Cv 77 18,Jf 78 0 1,Jl 79 1 78,jn 80 0 79,jB 81 .lss 77 80] (jX 81 8)) (.seq (.block 9 (jQ [Cv 84 18,Cv 85 10,Cv 86 12,Cv 87 18,Ji 88 33 85 86,jf 89 1 88,Co 90 (.kA 32 1 89 87),jl 91 1 90,Cv 92 91,jT 93 92 (.km 5),jT 94 92 (.km 18),jT 95 92 (.km 10),jT 96 92 (.km 12),JT 97 92 (.ki 33 95 96),jT 98 92 (.kf 0 97),jT 99 92 (.kl 1 98),jT 100 92 (.km 14),JT 101 92 (.ki 2048 93 94),jT 102 92 (.kA 8 256 101 99),jT 103 92 (.kA 256 1 102 100),jT 104 92 (.kl 1 103),ja 105 92 104,jf 106 1 15,Co 107 (.kA 32 1 106 84),jS 1 107 105] (jQ [Cv 108 16,Cv 109 108,jF 110 109 (.km 18),jF 111 109 (.kf 1 15),jF 112 109 (.kA 32 1 111 110),jF 113 109 (.kl 1 112),jo 114 109 113,Cv 16 114] (.region [Cv 115 17,Cv 116 115,jF 117 116 (.km 18),jF 118 116 (.kf 1 15),jF 119 116 (.kA 32 1 118 117),jF 120 116 (.kl 1 119),jF 121 116 (.km 120),JT 122 121 (.kf 0 1),JT 123 121 (.kl 1 122),jT 124 121 (.km 18),JT 125 121 (.ki 2 123 124),jT 126 121 (.kf 0 125),jT 127 121 (.kl 1 126),JT 128 121 (.kn 0 127),jT 129 121 (.kf 0 15),jT 130 121 (.kl 1 129),jT 131 121 (.kB .eql 128 130),jF 132 116 (.ka 121 131),jo 133 116 132,Cv 17 133])))) (.region [Cv 82 18,jK 83 .add 82 1,Cv 18 83])))
def ae:Pa:=(.seq (jQ [Cv 66 14,jK 67 .lss 66 256] (jX 67 6)) (.seq (.block 7 (jQ [Cv 70 10,Cv 71 12,ji 72 33 70 71,jf 73 0 72,jl 74 1 73,jK 75 .add 74 1,Co 76 (.build [(.int .i64 0),(.bool false),(.bool false),(.bool false),(.bool false),(.bool false),(.bool false),(.bool false),(.bool false),(.bool false),(.bool false),(.bool false),(.bool false),(.bool false),(.bool false),(.bool false),(.bool false),(.bool false),(.bool false),(.bool false),(.bool false),(.bool false),(.bool false),(.bool false),(.bool false),(.bool false),(.bool false),(.bool false),(.bool false),(.bool false),(.bool false),(.bool false),(.bool false)] [(0,1,(.t 75))]),Co 15 (.alloc [(.int .i64 0),(.bool false),(.bool false),(.bool false),(.bool false),(.bool false),(.bool false),(.bool false),(.bool false),(.bool false),(.bool false),(.bool false),(.bool false),(.bool false),(.bool false),(.bool false),(.bool false),(.bool false),(.bool false),(.bool false),(.bool false),(.bool false),(.bool false),(.bool false),(.bool false),(.bool false),(.bool false),(.bool false),(.bool false),(.bool false),(.bool false),(.bool false),(.bool false)]),jS 33 15 76] (jQ [jb 16 false,jb 17 false] (.seq (jQ [jk 18 0] (.block 8 (.loop [1,5,10,11,12,13,14,15,16,17,18] bd))) (jQ [Cv 134 14,Co 135 (.kA 256 1 13 134),Ce (.store 1 (.t 135) (.c (.int .i64 (-2))))] (jQ [Cv 136 16,Cv 137 136,jT 138 137 (.km 17),ja 139 137 138] (jC 139 (.region [Cv 140 14,Co 141 (.kA 256 1 13 140),Ce (.store 1 (.t 141) (.c (.int .i64 (-1))))]) (jQ [Cv 142 16] (jC 142 (jQ [Cv 143 10,jL 144 33 15,jq 145 oi 143 144,Cv 19 145] (.seq (jQ [Cv 146 19,jK 147 .lss 146 0] (jC 147 (.seq (jQ [Cv 148 10,jn 149 0 148,jK 150 .eql 149 64] (jC 150 (jr [jc 2 .ma,jc 3 .ma,jb 4 false]) .skip)) (jQ [Cv 151 10,jn 152 0 151,Cv 19 152] (.region [Cv 153 10,jL 154 33 15,Co 155 (.Gb .lit 33 true 1 [(.int .i64 0),(.bool false),(.bool false),(.bool false),(.bool false),(.bool false),(.bool false),(.bool false),(.bool false),(.bool false),(.bool false),(.bool false),(.bool false),(.bool false),(.bool false),(.bool false),(.bool false),(.bool false),(.bool false),(.bool false),(.bool false),(.bool false),(.bool false),(.bool false),(.bool false),(.bool false),(.bool false),(.bool false),(.bool false),(.bool false),(.bool false),(.bool false),(.bool false)] [(0,(.t 154))]),Co 156 (.ku 33 true 40 153 155),Cv 10 156]))) .skip)) (.region [Cv 157 14,Cv 158 19,Co 159 (.kA 256 1 13 157),jS 1 159 158]))) .skip))))))))) (.region [Cv 68 14,jK 69 .add 68 1,Cv 14 69])))
def de:Pa:=(.seq (jQ [Cv 60 12,Cv 61 10,jn 62 0 61,jB 63 .lss 60 62] (jX 63 4)) (.seq (.block 5 (jQ [Co 13 (.alloc (List.replicate 256 (.int .i64 0)))] (.seq (jQ [jk 14 0] (.block 6 (.loop [1,5,10,11,12,13,14] ae))) (.region [Cv 160 11,jL 161 256 13,Co 162 (.Gb .lit 256 true 1 (List.replicate 256 (.int .i64 0)) [(0,(.t 161))]),Co 163 (.ku 256 true 2048 160 162),Cv 11 163])))) (.region [Cv 64 12,jK 65 .add 64 1,Cv 12 65])))
def gk:gf:=⟨1,[.tmp 2,.tmp 3,.tmp 4],(jQ [jR 1 1 0,jc 2 .ma,jc 3 .ma,jb 4 false] (jQ [jc 5 .ma] (.ghost (.mJ 5 2048) (jQ [Co 20 (.build [(.int .i64 0),(.bool false),(.bool false),(.bool false),(.bool false),(.bool false),(.bool false),(.bool false),(.bool false),(.bool false),(.bool false),(.bool false),(.bool false),(.bool false),(.bool false),(.bool false),(.bool false),(.bool false),(.bool false),(.bool false),(.bool false),(.bool false),(.bool false),(.bool false),(.bool false),(.bool false),(.bool false),(.bool false),(.bool false),(.bool false),(.bool false),(.bool false),(.bool false)] []),Co 6 (.alloc [(.int .i64 0),(.bool false),(.bool false),(.bool false),(.bool false),(.bool false),(.bool false),(.bool false),(.bool false),(.bool false),(.bool false),(.bool false),(.bool false),(.bool false),(.bool false),(.bool false),(.bool false),(.bool false),(.bool false),(.bool false),(.bool false),(.bool false),(.bool false),(.bool false),(.bool false),(.bool false),(.bool false),(.bool false),(.bool false),(.bool false),(.bool false),(.bool false),(.bool false)]),jS 33 6 20] (.seq (jQ [jk 7 0] (.block 0 (.loop [1,5,6,7] zf))) (jQ [jL 58 33 6,Co 59 (.Gb .uq 33 true 1 [(.int .i64 0),(.bool false),(.bool false),(.bool false),(.bool false),(.bool false),(.bool false),(.bool false),(.bool false),(.bool false),(.bool false),(.bool false),(.bool false),(.bool false),(.bool false),(.bool false),(.bool false),(.bool false),(.bool false),(.bool false),(.bool false),(.bool false),(.bool false),(.bool false),(.bool false),(.bool false),(.bool false),(.bool false),(.bool false),(.bool false),(.bool false),(.bool false),(.bool false)] [(0,(.t 58))]),Cv 10 59] (jQ [jc 11 .ma] (.ghost (.mJ 11 256) (.seq (jQ [jk 12 0] (.block 4 (.loop [1,5,10,11,12] de))) (jr [Cv 164 10,Cv 165 11,Cv 2 164,Cv 3 165,jb 4 true]))))))))))⟩
theorem Ku:wc P fo 102 gk:=fM Go.Proofs.Tryz.func102 (dC Si (dC Lv dN))
def qf:=Ub (fun _=>none) gk
theorem Nv:Na P 102 qf:=Ja Va Ku
def ff:Pa:=(.seq (jQ [Cv 14 5,Cv 15 3,jB 16 .lss 14 15] (jX 16 0)) (.seq (.block 1 (.region [Cv 19 4,Cv 20 3,Co 21 (.Xg .own 1 false [(.bool false)] 1 (.t 20) (.t 20)),Co 22 (.Gb .own 1 false 1 [.ma] [(0,(.t 21))]),Co 23 (.append true .own 1 false 24 (.t 19) (.t 22)),Cv 4 23])) (.region [Cv 17 5,jK 18 .add 17 1,Cv 5 18])))
def Ya:Pa:=(.seq (jQ [Cv 35 9,jK 36 .lss 35 256,Cv 37 36,jT 38 37 (.km 4),jT 39 37 (.km 7),jT 40 37 (.ki 1 38 39),jT 41 37 (.kl 1 40),jT 42 37 (.km 8),jT 43 37 (.ki 1 41 42),jT 44 37 (.kl 1 43),jT 45 37 (.kt 44),ja 46 37 45] (jX 46 8)) (.seq (.block 9 (jQ [Cv 49 0,Cv 50 7,Cv 51 9,ji 52 256 49 50,Co 53 (.kA 256 1 52 51),jl 54 1 53,Cv 55 0,Cv 56 8,Cv 57 9,ji 58 256 55 56,Co 59 (.kA 256 1 58 57),jl 60 1 59,Cv 10 54,Cv 11 60] (jQ [Cv 61 10,Cv 62 11,jB 63 .neq 61 62,Cv 64 63,jT 65 64 (.km 10),jT 66 64 (.kK .lss 65 0),jT 67 64 (.km 66),jF 68 67 (.km 11),jF 69 67 (.kK .lss 68 0),jT 70 64 (.ko 67 69),ja 71 64 70,Cv 72 71,jF 73 72 (.km 10),jF 74 72 (.kK .geq 73 0),jF 75 72 (.km 74),jT 76 75 (.km 11),jT 77 75 (.kK .geq 76 0),jF 78 72 (.ka 75 77),jF 79 72 (.km 78),jT 80 79 (.km 4),jT 81 79 (.km 10),jT 82 79 (.ki 1 80 81),jT 83 79 (.kl 1 82),jT 84 79 (.km 11),jT 85 79 (.ki 1 83 84),jT 86 79 (.kl 1 85),jF 87 72 (.ka 79 86),jo 88 72 87] (jC 88 (jQ [Cv 89 4,Cv 90 7,ji 91 1 89 90,jl 92 1 91,Cv 93 8,Cv 94 4,Cv 95 8,ji 96 1 94 95,jl 97 1 96,Cv 98 7,ji 99 1 92 93,Ce (.store 1 (.t 99) (.c (.bool true))),ji 100 1 97 98,Ce (.store 1 (.t 100) (.c (.bool true)))] (.region [jb 6 true])) .skip)))) (.region [Cv 47 9,jK 48 .add 47 1,Cv 9 48])))
def bf:Pa:=(.seq (jQ [Cv 30 8,Cv 31 7,jB 32 .lss 30 31] (jX 32 6)) (.seq (.block 7 (jQ [jk 9 0] (.block 8 (.loop [0,3,4,6,7,8,9] Ya)))) (.region [Cv 33 8,jK 34 .add 33 1,Cv 8 34])))
def cf:Pa:=(.seq (jQ [Cv 25 7,Cv 26 3,jB 27 .lss 25 26] (jX 27 4)) (.seq (.block 5 (jQ [jk 8 0] (.block 6 (.loop [0,3,4,6,7,8] bf)))) (.region [Cv 28 7,jK 29 .add 28 1,Cv 7 29])))
def ef:Pa:=(.seq (jQ [Cv 24 6] (jX 24 2)) (.block 3 (jQ [jb 6 false] (jQ [jk 7 0] (.block 4 (.loop [0,3,4,6,7] cf))))))
def Gj:gf:=⟨1,[.tmp 2],(jQ [jc 2 .ma] (jQ [Cv 12 0,jn 13 0 12,Cv 3 13] (jQ [jc 4 .ma] (.ghost (.CH 4 1 false) (.seq (jQ [jk 5 0] (.block 0 (.Lp [0,3,4,5] ff))) (.seq (jQ [jb 6 true] (.block 2 (.loop [0,3,4,6] ef))) (jr [Cv 101 4,Cv 2 101])))))))⟩
theorem Pt:wc P fo 103 Gj:=fM Go.Proofs.Tryz.func103 dN
def Xf:=Ub (fun _=>none) Gj
theorem Xu:Na P 103 Xf:=Ja Va Pt
def Rc:Pa:=(.seq (jQ [Cv 65 16,Cv 66 10,jn 67 0 66,jB 68 .lss 65 67,Cv 69 68,jT 70 69 (.km 9),jT 71 69 (.km 10),jT 72 69 (.km 16),jT 73 69 (.ki 1 71 72),jT 74 69 (.kl 1 73),jT 75 69 (.ki 1 70 74),jT 76 69 (.kl 1 75),jT 77 69 (.km 15),jT 78 69 (.ki 1 76 77),jT 79 69 (.kl 1 78),ja 80 69 79] (jX 80 4)) (.block 5 (.region [Cv 81 16,jK 82 .add 81 1,Cv 16 82])))
def Ye:Pa:=(.seq (jQ [Cv 48 14,jK 49 .lss 48 256] (jX 49 2)) (.seq (.block 3 (jQ [Cv 52 7,Cv 53 10,Cv 54 12,ji 55 1 53 54,jl 56 1 55,Cv 57 14,ji 58 256 52 56,Co 59 (.kA 256 1 58 57),jl 60 1 59,Cv 15 60] (.seq (jQ [Cv 61 15,jK 62 .eql 61 (-2)] (jC 62 (.exit 3) .skip)) (.seq (jQ [Cv 63 15,jK 64 .geq 63 0] (jC 64 (jQ [jk 16 0] (.seq (.block 4 (.loop [2,7,9,10,11,12,13,14,15,16] Rc)) (.seq (jQ [Cv 83 16,Cv 84 10,jn 85 0 84,jB 86 .eql 83 85] (jC 86 (.region [Cv 87 10,Cv 88 15,Co 89 (.Gb .lit 1 false 1 [(.int .i64 0)] [(0,(.t 88))]),Co 90 (.ku 1 false 8 87 89),Cv 10 90]) .skip)) (.region [Cv 91 16,Cv 15 91])))) .skip)) (jQ [Cv 92 13,jn 93 0 92,jK 94 .gtr 93 0,Cv 95 94,jT 96 95 (.km 13),jT 97 95 (.km 13),jT 98 95 (.kn 0 97),jT 99 95 (.kK .sub 98 1),jT 100 95 (.ki 3 96 99),jT 101 95 (.kf 2 100),jT 102 95 (.kl 1 101),jT 103 95 (.km 15),jT 104 95 (.kB .eql 102 103),ja 105 95 104,Cv 106 105,jT 107 106 (.km 13),jT 108 106 (.km 13),jT 109 106 (.kn 0 108),jT 110 106 (.kK .sub 109 1),jT 111 106 (.ki 3 107 110),jT 112 106 (.kf 1 111),jT 113 106 (.kl 1 112),jT 114 106 (.km 14),jT 115 106 (.kK .sub 114 1),jT 116 106 (.kB .eql 113 115),ja 117 106 116] (jC 117 (.region [Cv 118 13,Cv 119 13,jn 120 0 119,jK 121 .sub 120 1,Cv 122 14,ji 123 3 118 121,jf 124 1 123,jS 1 124 122]) (.region [Cv 125 13,Cv 126 14,Cv 127 14,Cv 128 15,Co 129 (.build [(.int .i64 0),(.int .i64 0),(.int .i64 0)] [(0,1,(.t 126)),(1,1,(.t 127)),(2,1,(.t 128))]),Co 130 (.Gb .lit 3 true 1 [(.int .i64 0),(.int .i64 0),(.int .i64 0)] [(0,(.t 129))]),Co 131 (.append true .own 3 true 24 (.t 125) (.t 130)),Cv 13 131]))))))) (.region [Cv 50 14,jK 51 .add 50 1,Cv 14 51])))
def Pc:Pa:=(.seq (jQ [Cv 42 12,Cv 43 10,jn 44 0 43,jB 45 .lss 42 44] (jX 45 0)) (.seq (.block 1 (jQ [jc 13 .ma] (.ghost (.CH 13 3 true) (.seq (jQ [jk 14 0] (.block 2 (.loop [2,7,9,10,11,12,13,14] Ye))) (.ghost (.freeze 13) (.region [jf 132 0 11,jl 133 1 132,Cv 134 13,Co 135 (.Gb .lit 1 false 1 [.ma] [(0,(.t 134))]),Co 136 (.ku 1 false 24 133 135),jf 137 0 11,jS 1 137 136])))))) (.region [Cv 46 12,jK 47 .add 46 1,Cv 12 47])))
def We:gf:=⟨1,[.cell 2 true 1,.tmp 3],(jQ [jR 1 1 0,Co 2 (.alloc [.ma]),jk 3 0] (jQ [JL 18 1 1,jp 19 Ad 18,Cv 17 19,jx 20 0 17,jx 21 1 17,Cv 4 20,Cv 5 21] (.seq (jQ [Cv 22 5,jK 23 .neq 22 0] (jC 23 (jr [Co 24 (.build [.ma] []),Cv 25 5,jS 1 2 24,Cv 3 25]) .skip)) (.seq (jQ [Cv 26 4,jt 27 26] (jC 27 (jr [Co 28 (.build [.ma] []),jS 1 2 28,jk 3 110]) .skip)) (jQ [JL 30 1 1,jp 31 qf 30,Cv 29 31,jx 32 0 29,jx 33 1 29,jx 34 2 29,Cv 6 32,Cv 7 33,Cv 8 34] (.seq (jQ [Cv 35 8,jt 36 35] (jC 36 (jr [Co 37 (.build [.ma] []),jS 1 2 37,jk 3 130]) .skip)) (jQ [Cv 38 7,jp 39 Xf 38,Cv 9 39] (jQ [Co 40 (.Gb .uq 1 false 1 [(.int .i64 0)] [(0,(.c (.int .i64 0)))]),Cv 10 40] (jQ [Co 41 (.build [.ma] []),Co 11 (.alloc [.ma]),jS 1 11 41] (.ghost (.Ct 11 0 1) (.seq (jQ [jk 12 0] (.block 0 (.loop [2,7,9,10,11,12] Pc))) (jr [jL 138 1 11,jS 1 2 138,jk 3 0]))))))))))))⟩
theorem xt:wc P fo 71 We:=fM Go.Proofs.Tryz.func71 (dC Ws (dC Nv (dC Xu dN)))
def Za:=Ub (fun _=>none) We
theorem Du:Na P 71 Za:=Ja Va xt
end Go.AM.B1
namespace Go.AM.B1
open Go.AM
end Go.AM.B1
namespace Go.AM.B1
open Go.AM
def Fg:Pa:=(jQ [jB 18 .lss 17 16] (.seq (jX 18 0) (.seq (.block 1 (jQ [ji 19 2 15 17,jL 20 2 19,Co 8 (.alloc [.ma,(.int .i64 0)]),jS 2 8 20] (jQ [jL 22 2 8,Cv 23 1,jq 24 uh 22 23,Cv 21 24,jx 25 0 21,jx 26 1 21,Cv 9 25,Cv 10 26] (jQ [Cv 27 10,Cv 28 27,jT 29 28 (.km 6),jT 30 28 (.kK .lss 29 0),jT 31 28 (.km 30),jF 32 31 (.kf 1 8),jF 33 31 (.kl 1 32),jF 34 31 (.km 9),jF 35 31 (.kB .add 33 34),jF 36 31 (.km 6),jF 37 31 (.kB .lss 35 36),jT 38 28 (.ko 31 37),ja 39 28 38] (jC 39 (.region [jf 40 1 8,jl 41 1 40,Cv 42 9,jB 43 .add 41 42,Cv 6 43]) .skip))))) (.region [jK 44 .add 17 1,Cv 17 44]))))
def Ql:gf:=⟨2,[.tmp 4,.tmp 5],(jQ [jR 2 1 0,jk 4 0,jk 5 0] (.seq (jQ [JL 11 1 2,jp 12 Ie 11,jt 13 12] (jC 13 (jr [jk 4 0,jk 5 84]) .skip)) (jQ [jk 6 (-1)] (.seq (jQ [Jf 14 0 2,Jl 15 1 14,jn 16 0 15,jk 17 0] (.block 0 (.loop [1,6,15,16,17] Fg))) (.seq (jQ [Cv 45 6,jK 46 .lss 45 0] (jC 46 (jr [jk 4 0,jk 5 100]) .skip)) (jr [Cv 47 6,Cv 4 47,jk 5 0]))))))⟩
theorem tE:wc P fo 29 Ql:=fM Go.Proofs.Tryz.func29 (dC Qm (dC Uy dN))
def Qi:=Ub (fun _=>none) Ql
theorem mG:Na P 29 Qi:=Ja Va tE
def Bs:gf:=⟨1,[.tmp 2],(jQ [jR 1 2 0,jk 2 0] (.seq (jQ [JL 3 2 1,jp 4 Oi 3,jt 5 4] (jC 5 (jr [jk 2 0]) .skip)) (jr [JL 6 2 1,jp 7 Uj 6,Co 8 (.kj 1 7 0),jl 9 1 8,Cv 2 9])))⟩
theorem HD:wc P fo 65 Bs:=fM Go.Proofs.Tryz.func65 (dC Sn (dC Qs dN))
def Ml:=Ub (fun _=>none) Bs
theorem Zx:Na P 65 Ml:=Ja Va HD
def Li:Pa:=(jQ [jB 24 .lss 23 22] (.seq (jX 24 0) (.seq (.block 1 (jQ [Cv 25 23,ji 26 1 21 23,jl 27 1 26,Cv 7 25,Cv 8 27] (jQ [Jf 29 0 2,Jl 30 1 29,Cv 31 7,Ji 32 1 30 31,Jl 33 1 32,Cv 34 1,Cv 35 8,jB 36 .quo 34 35,jq 37 Xm 33 36,Cv 28 37,jx 38 0 28,jx 39 1 28,Cv 9 38,Cv 10 39] (jQ [Cv 40 6,Cv 41 9,Co 42 (.conv .u8 (.t 41)),Co 43 (.Gb .lit 1 false 1 [(.int .u8 0)] [(0,(.t 42))]),Co 44 (.ku 1 false 1 40 43),Cv 6 44] (.region [Cv 45 1,Cv 46 8,jB 47 .rem 45 46,Cv 1 47]))))) (.region [jK 48 .add 23 1,Cv 23 48]))))
def Jk:gf:=⟨2,[.tmp 4,.tmp 5],(jQ [jR 2 2 0,jc 4 .ma,jb 5 false] (.seq (jQ [Cv 11 1,jK 12 .lss 11 0,Cv 13 12,jF 14 13 (.km 1),JF 15 13 (.kL 2 2),jF 16 13 (.kp Ml 15),jF 17 13 (.kB .geq 14 16),jo 18 13 17] (jC 18 (jr [jc 4 .ma,jb 5 false]) .skip)) (jQ [jc 6 .ma] (.ghost (.mJ 6 1) (.seq (jQ [JL 19 2 2,jp 20 Uj 19,Co 21 (.slice 1 (.t 20) (some (.c (.int .i64 1))) none),jn 22 0 21,jk 23 0] (.block 0 (.loop [1,2,6,21,22,23] Li))) (jr [Cv 49 6,Cv 4 49,jb 5 true]))))))⟩
theorem tC:wc P fo 82 Jk:=fM Go.Proofs.Tryz.func82 (dC Zx (dC Qs (dC LD dN)))
def Uh:=Ub (fun _=>none) Jk
theorem JE:Na P 82 Uh:=Ja Va tC
def Oh:Pa:=(jQ [jB 13 .lss 12 11] (.seq (jX 13 0) (.seq (.block 1 (jQ [ji 14 2 10 12,jL 15 2 14,Co 6 (.alloc [.ma,(.int .i64 0)]),jS 2 6 15] (.seq (jQ [Cv 16 1,jf 17 1 6,jl 18 1 17,jB 19 .lss 16 18] (jC 19 (.exit 1) .skip)) (jQ [jL 21 2 6,Cv 22 1,jf 23 1 6,jl 24 1 23,jB 25 .sub 22 24,jq 26 Uh 21 25,Cv 20 26,jx 27 0 20,jx 28 1 20,Cv 7 27,Cv 8 28] (jQ [Cv 29 8] (jC 29 (jr [Cv 30 7,Cv 4 30]) .skip)))))) (.region [jK 31 .add 12 1,Cv 12 31]))))
def Zr:gf:=⟨2,[.tmp 4],(jQ [jR 2 1 0,jc 4 .ma] (.seq (jQ [Jf 9 0 2,Jl 10 1 9,jn 11 0 10,jk 12 0] (.block 0 (.loop [1,10,11,12] Oh))) (jr [jc 4 .ma])))⟩
theorem fE:wc P fo 52 Zr:=fM Go.Proofs.Tryz.func52 (dC JE dN)
def mo:=Ub (fun _=>none) Zr
theorem eG:Na P 52 mo:=Ja Va fE
def Kl:gf:=⟨2,[.tmp 4,.tmp 5],(jQ [jR 2 1 0,jc 4 .ma,jk 5 0] (.seq (jQ [JL 7 1 2,jp 8 Ie 7,jt 9 8] (jC 9 (jr [jc 4 .ma,jk 5 84]) .skip)) (jQ [JL 10 1 2,Cv 11 1,jq 12 mo 10 11,Cv 6 12] (.seq (jQ [Cv 13 6,Co 14 (.eq 2 false (.t 13) (.c .ma))] (jC 14 (jr [jc 4 .ma,jk 5 100]) .skip)) (jr [Cv 15 6,Cv 4 15,jk 5 0])))))⟩
theorem AD:wc P fo 28 Kl:=fM Go.Proofs.Tryz.func28 (dC Qm (dC eG dN))
def Tf:=Ub (fun _=>none) Kl
theorem EF:Na P 28 Tf:=Ja Va AD
end Go.AM.B1
set_option linter.unusedSimpArgs false
namespace Go.AM.B1
open Go.AM
def qG:PV→Option (Int×Int)
 | .agg [.int .i64 a,.int .i64 b]=>some (a,b)
 |_=>none
def cF:PV→Option (List (Int×Int))
 | .ma=>some []
 | .lit 2 es=>Ra qG es
 |_=>none
def Gf (fr:Int) (p:Int×Int):List Int:=if p.2 < fr then [] else (List.range (p.2 - max p.1 fr+1).toNat).map fun (i:Nat)=>max p.1 fr+(i:Int)
def VI (p:Int×Int):Bool:=decide (-4611686018427387904≤p.1∧p.1≤p.2∧p.2≤4611686018427387904)
def Sk:List PV→Option (List (List PV))
 | [.rp [l] 0,.rp [.int .i64 fr] 0]=>(cF l).bind fun ps=>if ps.all VI&&decide (-4611686018427387904≤fr∧fr≤4611686018427387904∧ps.length≤4611686018427387904) then some ((ps.flatMap (Gf fr)).map fun x=>[.int .i64 x]) else none
 |_=>none
theorem mT {caps:List PV} {xs:List (List PV)} (h:Sk caps=some xs):∃ l fr ps,caps=[.rp [l] 0,.rp [.int .i64 fr] 0]∧cF l=some ps∧(∀ p∈ps,-4611686018427387904≤p.1∧p.1≤p.2∧p.2≤4611686018427387904)∧(-4611686018427387904≤fr∧fr≤4611686018427387904∧ps.length≤4611686018427387904)∧xs=(ps.flatMap (Gf fr)).map fun x=>[.int .i64 x]:=by
 unfold Sk at h
 split at h
 ·rename_i l fr
  rw[Option.bind_eq_some_iff] at h
  obtain⟨ps,h1,h2⟩:=h
  split at h2
  ·rename_i hc
   simp only[Bool.and_eq_true,decide_eq_true_eq,List.all_eq_true,VI] at hc
   injection h2 with h2
   exact⟨l,fr,ps,rfl,h1,hc.1,hc.2,h2.symm⟩
  ·cases h2
 ·cases h
theorem RU {R:Rd} {l:PV} {ps:List (Int×Int)} {v:Value} (hp:cF l=some ps) (h:Sa R l v):∃ a cap,v= .slice a ps.length cap∧
 ∀ (R':Rd),(Sa R' l v)→∀ (k:Nat) (p:Int×Int),ps[k]? =some p→∃ b o,a=some ⟨b,o,none⟩∧R' b (o+k * 2)=some (.int .i64 p.1)∧R' b (o+k * 2+1)=some (.int .i64 p.2):=by
 unfold cF at hp
 split at hp
 ·injection hp with hp;subst hp
  cases h
  exact⟨none,0,rfl,fun _ _ k p hk=>by simp at hk⟩
 ·rename_i es
  have hlen:es.length=ps.length:=by
   clear h
   induction es generalizing ps with
   |nil=>simp[Ra] at hp;subst hp;rfl
   |cons e es ih=>
    simp only[Ra,Option.bind_eq_some_iff,Option.some.injEq] at hp
    obtain⟨q,_,qs,h2,rfl⟩:=hp
    simp[ih h2]
  have hget:∀ (k:Nat) (p:Int×Int),ps[k]? =some p→es[k]? =some (.agg [.int .i64 p.1,.int .i64 p.2]):=by
   clear h hlen
   induction es generalizing ps with
   |nil=>simp[Ra] at hp;subst hp;intro k p h;simp at h
   |cons e es ih=>
    simp only[Ra,Option.bind_eq_some_iff,Option.some.injEq] at hp
    obtain⟨q,h1,qs,h2,rfl⟩:=hp
    intro k p h
    cases k with
    |zero=>
     simp at h;subst h
     unfold qG at h1
     split at h1
     ·injection h1 with h1;subst h1;rfl
     ·cases h1
    |succ k=>simpa using ih h2 k p (by simpa using h)
  have cells:∀ (R':Rd) (b o:Nat),bg R' (flat es) b o→∀ (k:Nat) (p:Int×Int),ps[k]? =some p→R' b (o+k * 2)=some (.int .i64 p.1)∧R' b (o+k * 2+1)=some (.int .i64 p.2):=by
   intro R' b o hr k p hk
   have he:=hget k p hk
   have hfl:∀ e∈es,e.cells.length=2:=by
    intro e hem
    obtain⟨j,hj⟩:=List.mem_iff_getElem?.1 hem
    have hlt:=getElem?_lt hj
    obtain⟨q,hq⟩:∃ q,ps[j]? =some q:=⟨ps[j]'(by omega),List.getElem?_eq_getElem _⟩
    have:=hget j q hq
    rw[hj] at this
    injection this with this
    subst this;rfl
   have h0:=zJ hfl he
   have g0:(flat es)[k * 2]? =some (.int .i64 p.1):=by
    have:=congrArg (fun l=>l[0]?) h0
    simpa[List.getElem?_take,PV.cells] using this
   have g1:(flat es)[k * 2+1]? =some (.int .i64 p.2):=by
    have:=congrArg (fun l=>l[1]?) h0
    simpa[List.getElem?_take,PV.cells] using this
   obtain⟨v0,a1,a2⟩:=hr.get g0
   obtain⟨v1,b1,b2⟩:=hr.get g1
   cases a2;cases b2
   exact⟨a1,b1⟩
  cases h with
  |lit _ _ b o cap h1 h2 h3=>
   refine⟨some ⟨b,o,none⟩,cap,by rw[hlen],fun R' hR' k p hk=>⟨b,o,rfl,?_⟩⟩
   generalize hv:Value.slice (some (⟨b,o,none⟩:Addr)) es.length cap=v at hR'
   cases hR' with
   |lit _ _ b' o' cap' _ _ h3'=>cases hv;exact cells R' b o h3' k p hk
   |Jz _ a=>simp at hlen;have:=getElem?_lt hk;omega
  |Jz _ a=>
   refine⟨some a,0,by rw[← hlen];rfl,fun R' hR' k p hk=> ?_⟩
   have:=getElem?_lt hk
   simp at hlen
   omega
 ·cases hp
theorem az {R:Rd} {c:PV} {v:Value} (h:Sa R (.rp [c] 0) v):∃ b o u,v= .pointer (some ⟨b,o,none⟩)∧R b o=some u∧Sa R c u∧∀ R':Rd,Sa R' (.rp [c] 0) v→∃ u',R' b o=some u'∧Sa R' c u':=by
 cases h with
 |rp _ _ b o hr=>
  cases hr with
  |cons _ _ _ _ u h1 h2 h3 h4=>
   refine⟨b,o,u,rfl,h1,h3,fun R' h'=> ?_⟩
   generalize hv:Value.pointer (some (⟨b,o+0,none⟩:Addr))=v at h'
   cases h' with
   |rp _ _ b' o' hr'=>
    cases hr' with
    |cons _ _ _ _ u' k1 k2 k3 k4=>
     simp at hv
     obtain⟨rfl,rfl⟩:=hv
     exact⟨u',k1,k3⟩
end Go.AM.B1
namespace Go.Proofs
open Go.RowKit Go.Shelf
attribute [local go_sem] Oper.semAt_some
set_option maxRecDepth 100000 in
set_option maxHeartbeats 2000000 in
theorem zS:AM.bp Tryz.prog 151 AM.B1.Sk:=by
 refine⟨⟨_,_,Tryz.func151,rfl,by kernel_rfl⟩,fun caps vs xs hF hfl R l J Jx W hLR hsub hJ hJx hRd hY h0=> ?_⟩
 obtain⟨lv,fr,ps,rfl,hps,hb,hfr,hxs⟩:=AM.B1.mT hF
 obtain⟨v1,v2,rfl,hv1,hv2⟩:∃ v1 v2,vs=[v1,v2]∧AM.Sa R (.rp [lv] 0) v1∧AM.Sa R (.rp [.int .i64 fr] 0) v2:=by
  cases hLR with | cons _ _ v1 _ h1 h2=>cases h2 with | cons _ _ v2 _ h3 h4=>cases h4;exact⟨v1,v2,rfl,h1,h3⟩
 have hv1':=hv1
 have hv2':=hv2
 obtain⟨b1,o1,sl,rfl,hR1,hsl,hbx1⟩:=AM.B1.az hv1
 obtain⟨b2,o2,fv,rfl,hR2,hfv,hbx2⟩:=AM.B1.az hv2
 cases hfv
 obtain⟨a,cap,rfl,hels⟩:=AM.B1.RU hps hsl
 have hfrom:∀ i T A,J i T A→A.cell? ⟨b2,o2,none⟩=some (.int .i64 fr):=by
  intro i T A h
  obtain⟨R',hs,hp⟩:=hRd i T A h
  obtain⟨u,h1,h2⟩:=hbx2 R' (hp _ _ hv2')
  cases h2
  exact hs _ _ _ h1
 have hread:∀ i T A,J i T A→∀ (k:Nat) (p:Int×Int),ps[k]? =some p→∃ b o,a=some ⟨b,o,none⟩∧A.cell? ⟨b,o+k * 2,none⟩=some (.int .i64 p.1)∧A.cell? ⟨b,o+k * 2+1,none⟩=some (.int .i64 p.2):=by
  intro i T A h k p hk
  obtain⟨R',hs,hp⟩:=hRd i T A h
  obtain⟨b,o,h1,h2,h3⟩:=hels R' (hp _ _ hsl) k p hk
  exact⟨b,o,h1,hs _ _ _ h2,hs _ _ _ h3⟩
 have hlist:W.cell? ⟨b1,o1,none⟩=some (.slice a ps.length cap):=hsub _ _ _ hR1
 refine (callsIn_wide (n:=1)).1 (callsIn_of_wp Tryz.func151 rfl trivial ?_ rfl)
 simp only[Tryz.ntmps151,List.size_toArray,List.length_cons,List.length_nil,Nat.reduceAdd,Nat.reduceSub,Array.replicate_succ,Array.replicate_zero,List.push_toArray,List.append_toArray,List.nil_append,List.cons_append]
 refine wpIn_wide.2 (wp_scope_straight ((wpIn_wide (n:=1)).1 ?_))
 gi_wp2
 refine wpIn_label ?_
 gi_wp2
 gi_loopw [9] (fun iv wr=>∃ (k:Nat) (T:Nat→Prop),iv= .int .i64 (k:Int)∧k≤ps.length∧J ((ps.take k).flatMap (AM.B1.Gf fr)).length T wr) (fun iv _=>ps.length - (intOf iv).toNat)
 case atStart=>exact⟨0,_,rfl,Nat.zero_le _,h0⟩
 case round=>
  obtain⟨k,T,rfl,hk,hJk⟩:=hrel
  obtain⟨w0,hw0⟩:∃ w0,w0=wr:=⟨_,rfl⟩
  subst hw0
  rcases Nat.lt_or_ge k ps.length with hlt | hge
  ·have hpk:=List.getElem?_eq_getElem hlt
   have hbd:=hb _ (List.getElem_mem hlt)
   have htake:ps.take (k+1)=ps.take k++[ps[k]]:=by rw[List.take_add_one,hpk];rfl
   obtain⟨b,o,rfl,hc1,hc2⟩:=hread _ T w0 hJk k _ hpk
   generalize ps[k]=p at hc1 hc2 hbd htake hpk
   obtain⟨lo,hi⟩:=p
   dsimp only at hc1 hc2 hbd
   have hlen:((ps.take (k+1)).flatMap (AM.B1.Gf fr)).length=((ps.take k).flatMap (AM.B1.Gf fr)).length+(AM.B1.Gf fr (lo,hi)).length:=by rw[htake];simp
   have hi1:(k:Int) < (ps.length:Int):=by omega
   obtain⟨W2,hW2⟩:∃ W2,W2=w0.alloc (.cells #[.int .i64 lo,.int .i64 hi] 244):=⟨_,rfl⟩
   have hB2:Below w0.heap.size w0 W2:=by rw[hW2];exact (Below.refl _ w0).alloc (Nat.le_refl _) _
   have hJ2:J ((ps.take k).flatMap (AM.B1.Gf fr)).length (fun q=>T q∨q=w0.heap.size) W2:=hJ _ T w0 W2 _ hJk hB2 fun q hq=>hq.imp id fun e=>by subst e;rw[hW2];simp
   have hcf:=hfrom _ _ W2 hJ2
   have hx2:W2.heap[w0.heap.size]? =some (.cells #[.int .i64 lo,.int .i64 hi] 244):=by rw[hW2];show (w0.heap.push _)[w0.heap.size]? =_;simp
   rw[hW2] at hcf
   by_cases hfh:hi < fr
   ·have hm0:(AM.B1.Gf fr (lo,hi)).length=0:=by simp[AM.B1.Gf,hfh]
    gi_wp2
    rw[hm0,Nat.add_zero] at hlen
    rw[hW2] at hJ2
    exact⟨⟨k+1,_,by simp,by omega,by rw[hlen];exact hJ2⟩,by simp[intOf];omega⟩
   ·have hmem:AM.B1.Gf fr (lo,hi)=(List.range (hi - max lo fr+1).toNat).map fun (i:Nat)=>max lo fr+(i:Int):=by simp[AM.B1.Gf,hfh]
    have hmlen:(AM.B1.Gf fr (lo,hi)).length=(hi - max lo fr+1).toNat:=by rw[hmem];simp
    have hget:∀ j:Nat,j < (hi - max lo fr+1).toNat→xs[((ps.take k).flatMap (AM.B1.Gf fr)).length+j]? =some [.int .i64 (max lo fr+j)]:=by
     intro j hj
     have hsp:ps=ps.take k++(lo,hi)::ps.drop (k+1):=by
      rw[List.getElem?_eq_getElem hlt] at hpk
      injection hpk with hpk
      rw[← hpk,←List.drop_eq_getElem_cons hlt,List.take_append_drop]
     rw[hxs,List.getElem?_map]
     have:(ps.flatMap (AM.B1.Gf fr))[((ps.take k).flatMap (AM.B1.Gf fr)).length+j]? =(AM.B1.Gf fr (lo,hi))[j]? :=by
      conv=>lhs;arg 1;rw[hsp]
      rw[List.flatMap_append,List.flatMap_cons,List.getElem?_append_right (by omega),Nat.add_sub_cancel_left,List.getElem?_append_left (by rw[hmlen];exact hj)]
     rw[this,hmem,List.getElem?_map,List.getElem?_range hj]
     rfl
    generalize hbase:((ps.take k).flatMap (AM.B1.Gf fr)).length=base at *
    obtain⟨M,hM⟩:∃ M,max lo fr=M:=⟨_,rfl⟩
    rw[hM] at hget hmlen
    gi_wp2
    gi_loopw [6] (fun xv wq=>∃ j:Nat,xv= .int .i64 (M+j)∧j≤(hi - M+1).toNat∧J (base+j) (fun q=>T q∨q=w0.heap.size) wq∧wq.heap[w0.heap.size]? =some (.cells #[.int .i64 lo,.int .i64 hi] 244)) (fun xv _=>(hi+1 - intOf xv).toNat)
    case atStart=>
     exact⟨0,by simp,Nat.zero_le _,by rw[← hW2];exact hJ2,by rw[← hW2];exact hx2⟩
    case round=>
     obtain⟨j,rfl,hj,hJj,hbx⟩:=hrel
     have hcell:wr.cell? ⟨w0.heap.size,1,none⟩=some (.int .i64 hi):=by simp[World.cell?,hbx]
     by_cases hxle:M+j≤hi
     ·have hj':j < (hi - M+1).toNat:=by omega
      obtain⟨fn,tmps,assign,body,hy,hR⟩:=hY (base+j) _ _ wr (hget j hj') hJj
      dsimp only[AM.Kp,AM.rQ] at hy
      gi_wp2
      refine hR.mono ?_
      rintro e W3 (⟨rfl,hJ3,hk3⟩ | ⟨rfl,hJx3⟩)
      ·gi_wp2
       exact⟨⟨j+1,congrArg _ (by omega),by omega,hJ3,by rw[hk3 _ (.inr rfl)];exact hbx⟩,by simp[intOf];omega⟩
      ·gi_wp2
       simp only[Exit.noGoto]
       exact⟨rfl,_,results_none rfl _ _ _,⟨_,rfl⟩,.inr hJx3⟩
     ·gi_wp2
      have hje:j=(hi - M+1).toNat:=by omega
      rw[hmlen,←hje] at hlen
      exact⟨⟨k+1,_,congrArg _ (by omega),by omega,by rw[hlen];exact hJj⟩,by simp[intOf];omega⟩
  ·obtain rfl:k=ps.length:=by omega
   gi_wp2
   simp only[Exit.noGoto]
   refine⟨rfl,_,results_none rfl _ _ _,⟨_,rfl⟩,.inl ⟨T,?_⟩⟩
   rw[hxs,List.length_map]
   rw[List.take_length] at hJk
   exact hJk
end Go.Proofs
namespace Go.Proofs
open Go.Shelf Go.RowKit Go.Lib Go.Sort
shelf_lay_g SlLaysF0.n6 Slsf 6 at Tryz 67 as Tryz.Ar
theorem CO (r:List Int):∃ a b c:Int,AM.encI 3 r=[.int .i64 a,.int .i64 b,.int .i64 c]∧AM.uw 3 0 r=a:=by
 unfold AM.encI AM.uw
 by_cases h:r.length=3
 ·match r,h with
  | [a,b,c],_=>exact⟨a,b,c,rfl,rfl⟩
 ·rw[if_neg h,if_neg h];exact⟨0,0,0,rfl,rfl⟩
set_option maxHeartbeats 1000000 in
theorem lY (a b c d e f:Int) (W:World):Calls Tryz.prog 68 #[.agg #[.int .i64 a,.int .i64 b,.int .i64 c],.agg #[.int .i64 d,.int .i64 e,.int .i64 f]] W fun x w'=>x= .returned (.int .i64 (Lib.compareInt a d))∧∃ q os',w'=grow (W.drewN q) os':=by
 have hcon:=fun W'=>AnyG.cmp_Compare_int Tryz.cmpInt a d W'
 change ∀ W',Calls Tryz.prog 69 _ _ _ at hcon
 generalize Lib.compareInt a d=r at hcon ⊢
 go_enter Tryz.func68,Tryz.ntmps68
 go_wp2_with (go_at_call 69;refine (hcon _).mono ?_;rintro e w' ⟨rfl,rfl⟩)
 go_ret
 exact⟨rfl,0,_,by rw[alloc_eq_grow,alloc_eq_grow,grow_grow];rfl⟩
theorem BX:AM.jM Tryz.prog 67 68 3 0 where
 call:=⟨_,_,Tryz.func67,rfl,by kernel_rfl⟩
 many:=by
  intro blk ofs cap D w hH hb hs
  refine AnyQ.slices_SortFunc_eq Tryz.Ar 3 Tryz.isAgg131 Tryz.sizeOf131 (AM.encI 3) (fun x=>by obtain⟨a,b,c,h,_⟩:=CO x;rw[h];rfl) (fun x v hv=>by
   obtain⟨a,b,c,h,_⟩:=CO x
   rw[h] at hv
   simp at hv
   rcases hv with rfl | rfl | rfl <;> rfl) (AM.KX 3 0) (AM.pY 3 0) 68 #[] blk ofs cap D w (enters_of Tryz.func68 (by kernel_rfl) rfl) (fun m os dk _ x y=> ?_) hH hb hs
  obtain⟨a,b,c,h1,h2⟩:=CO x
  obtain⟨d,e,f,h3,h4⟩:=CO y
  rw[h1,h3]
  unfold AM.KX
  rw[h2,h4]
  exact lY a b c d e f _
 none:=fun p cap w=>AnyF.slices_SortFunc_none Tryz.Ar p cap _ w
end Go.Proofs
