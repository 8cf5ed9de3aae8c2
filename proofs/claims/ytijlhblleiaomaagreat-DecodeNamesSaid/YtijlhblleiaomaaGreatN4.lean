/- What functions of the program compute. -/
import Derived.Test.YtijlhblleiaomaaGreatN3
import Derived.Test.YtijlhblleiaomaaGreatN2
import Derived.Test.YtijlhblleiaomaaGreatN1
import Derived.Test.YtijlhblleiaomaaGreatJ3
set_option linter.unusedVariables false
set_option linter.unusedSimpArgs false
namespace Go.AM.B1
open Go.AM
theorem Kt:∀ (es:List PV) (k:Nat),(∀ e∈es,e.cells.length=1)→(flat es).drop k=flat (es.drop k)
 | [],k,_=>by simp[flat]
 |e::es,0,_=>rfl
 |e::es,k+1,h=>by
  have he:=h e (by simp)
  rw[flat,List.drop_succ_cons,List.drop_append,he,List.drop_of_length_le (by omega),List.nil_append,Nat.add_sub_cancel]
  exact Kt es k fun x hx=>h x (by simp[hx])
end Go.AM.B1
namespace Go.Proofs
open Go.RowKit Go.Shelf
attribute [local go_sem] Oper.semAt_some
end Go.Proofs
namespace Go.AM.B1
open Go.AM
end Go.AM.B1
namespace Go.AM.B1
open Go.AM
def wi:re:=⟨0,[.tmp 0],(jQ [jc 0 .yd] (jQ [Co 4 (.build [(.int .i64 0),(.int .i64 0)] [(0,1,(.c (.int .i64 128))),(1,1,(.c (.int .i64 191)))]),Co 5 (.Hb .lit 2 true 1 [(.int .i64 0),(.int .i64 0)] [(0,(.t 4))]),Cv 1 5] (jQ [Co 7 (.build [(.int .i64 0),(.int .i64 0)] [(0,1,(.c (.int .i64 0))),(1,1,(.c (.int .i64 127)))]),Co 8 (.Hb .lit 2 true 1 [(.int .i64 0),(.int .i64 0)] [(0,(.t 7))]),Co 9 (.Hb .lit 1 false 1 [.qa] [(0,(.t 8))]),Co 10 (.build [.qa,(.int .i64 0)] [(0,1,(.t 9))]),Co 11 (.build [(.int .i64 0),(.int .i64 0)] [(0,1,(.c (.int .i64 194))),(1,1,(.c (.int .i64 223)))]),Co 12 (.Hb .lit 2 true 1 [(.int .i64 0),(.int .i64 0)] [(0,(.t 11))]),Cv 13 1,Co 14 (.Hb .lit 1 false 2 [.qa] [(0,(.t 12)),(1,(.t 13))]),Co 15 (.build [.qa,(.int .i64 0)] [(0,1,(.t 14)),(1,1,(.c (.int .i64 128)))]),Co 16 (.build [(.int .i64 0),(.int .i64 0)] [(0,1,(.c (.int .i64 225))),(1,1,(.c (.int .i64 225)))]),Co 17 (.Hb .lit 2 true 1 [(.int .i64 0),(.int .i64 0)] [(0,(.t 16))]),Cv 18 1,Cv 19 1,Co 20 (.Hb .lit 1 false 3 [.qa] [(0,(.t 17)),(1,(.t 18)),(2,(.t 19))]),Co 21 (.build [.qa,(.int .i64 0)] [(0,1,(.t 20)),(1,1,(.c (.int .i64 4096)))]),Co 22 (.Hb .lit 2 true 3 [.qa,(.int .i64 0)] [(0,(.t 10)),(1,(.t 15)),(2,(.t 21))]),Co 23 (.build [.qa] [(0,1,(.t 22))]),jp 24 tg 23,Cv 6 24,jx 25 0 6,jx 26 1 6,Cv 2 25,Cv 3 26] (jr [Cv 27 2,Cv 0 27]))))⟩
theorem tr:zc P fo 32 wi:=fM Go.Proofs.Tryz.func32 (dC yy dN)
def Dd:List PV→Option PV:=fc (fun _=>none) wi
theorem Lg:Ga P 32 Dd:=Na Lb tr
def Bi:re:=⟨1,[.tmp 2,.tmp 3],(jQ [jc 2 .yd,jk 3 0] (.seq (jQ [Cv 4 0,jK 5 .lss 4 1,Cv 6 5,jF 7 6 (.km 0),jF 8 6 (.kK .gtr 7 8),jo 9 6 8] (jC 9 (jr [jc 2 .yd,jk 3 1]) .skip)) (jr [Cv 10 0,Co 11 (.build [(.int .u8 0),(.int .u8 0),(.int .u8 0),(.int .u8 0),(.int .u8 0),(.int .u8 0),(.int .u8 0),(.int .u8 0),(.int .i64 0),(.int .i64 0),(.int .i64 0)] [(8,1,(.t 10))]),Co 12 (.box 11 (.t 11)),Cv 2 12,jk 3 0])))⟩
theorem Wu:zc P fo 54 Bi:=fM Go.Proofs.Tryz.func54 dN
def Fe:re:=⟨2,[.tmp 4,.tmp 5],(jQ [jc 4 .yd,jk 5 0] (.seq (.block 0 (jQ [Cv 9 0,Co 10 (.kE 1 false 9),Cv 8 10] (jC 8 (jr [jc 4 .yd,jk 5 2]) (jQ [Cv 12 1,jK 13 .neq 12 1,Cv 14 13,jT 15 14 (.km 1),jT 16 14 (.kK .neq 15 3),ja 17 14 16,Cv 11 17] (jC 11 (jr [jc 4 .yd,jk 5 180]) .skip))))) (jQ [Co 19 (.Bd 80 [(.c (.int .i64 8))]),Cv 18 19,jx 20 0 18,jx 21 1 18,Cv 6 20,Cv 7 21] (jr [Cv 22 0,Cv 23 1,Cv 24 6,Co 25 (.build [.yd,(.int .i64 0),.yd,(.int .i64 0),(.int .i64 0),(.int .i64 0),(.bool false),(.bool false)] [(0,1,(.t 22)),(1,1,(.t 23)),(2,1,(.t 24))]),Co 26 (.box 8 (.t 25)),Cv 27 7,Cv 4 26,Cv 5 27]))))⟩
theorem gu:zc P fo 31 Fe:=fM Go.Proofs.Tryz.func31 dN
def De:re:=⟨1,[.tmp 2],(jQ [jk 2 0] (.seq (.block 0 (jQ [Cv 4 0,Co 5 (.kE 1 false 4),Cv 3 5] (jC 3 (jr [jk 2 2]) (jQ [Cv 7 0,jz 8 7,jf 9 7 8,jl 10 1 9,Cv 6 10] (jC 6 (jr [jk 2 181]) (jQ [Cv 12 0,jz 13 12,jf 14 6 13,jl 15 1 14,Cv 11 15] (jC 11 (jr [jk 2 182]) .skip))))))) (jr [jk 2 0])))⟩
theorem Mp:zc P fo 55 De:=fM Go.Proofs.Tryz.func55 dN
def tc:List PV→Option PV:=fc (fun _=>none) De
theorem Yj:Ga P 55 tc:=Na Lb Mp
def rk:re:=⟨1,[.tmp 2],(jQ [jk 2 0] (.seq (jQ [Cv 3 0,Co 4 (.kE 1 false 3)] (jC 4 (jr [jk 2 0]) .skip)) (jr [Cv 5 0,jz 6 5,jf 7 10 6,jl 8 1 7,Cv 2 8])))⟩
theorem vu:zc P fo 57 rk:=fM Go.Proofs.Tryz.func57 dN
def Qd:List PV→Option PV:=fc (fun _=>none) rk
theorem zg:Ga P 57 Qd:=Na Lb vu
def Qk:re:=⟨2,[.tmp 4,.tmp 5],(jQ [Co 4 (.move (.c (.int .u8 0))),jb 5 false] (.seq (jQ [Cv 6 1,jK 7 .lss 6 0,Cv 8 7,jF 9 8 (.km 1),jF 10 8 (.km 0),jF 11 8 (.kp Qd 10),jF 12 8 (.kB .geq 9 11),jo 13 8 12] (jC 13 (jr [Co 4 (.move (.c (.int .u8 0))),jb 5 false]) .skip)) (jr [Cv 14 0,Cv 15 0,jz 16 15,jf 17 9 16,jl 18 1 17,Cv 19 1,jB 20 .add 18 19,jK 21 .rem 20 8,jz 22 14,jf 23 0 22,Co 24 (.kA 8 1 23 21),jl 25 1 24,Cv 4 25,jb 5 true])))⟩
theorem tv:zc P fo 117 Qk:=fM Go.Proofs.Tryz.func117 (dC zg dN)
def Mi:List PV→Option PV:=fc (fun _=>none) Qk
theorem Bw:Ga P 117 Mi:=Na Lb tv
def Ie:Ia:=(jQ [jB 13 .lss 12 11] (.seq (jX 13 0) (.seq (.block 1 (jQ [Cv 14 12,Cv 4 14] (jQ [Cv 16 0,Cv 17 4,jq 18 Mi 16 17,Cv 15 18,jx 19 0 15,jx 20 1 15,Cv 5 19,Cv 6 20] (.region [Cv 21 3,Cv 22 5,Co 23 (.Hb .lit 1 false 1 [(.int .u8 0)] [(0,(.t 22))]),Co 24 (.ku 1 false 1 21 23),Cv 3 24])))) (.region [jK 25 .add 12 1,Cv 12 25]))))
def Ib:re:=⟨1,[.tmp 2],(jQ [jc 2 .qa] (jQ [Cv 7 0,jp 8 Qd 7,Co 9 (.ye .uq 1 false [(.int .u8 0)] 1 (.c (.int .i64 0)) (.t 8)),Cv 3 9] (.seq (jQ [Cv 10 0,jp 11 Qd 10,jk 12 0] (.block 0 (.loop [0,3,11,12] Ie))) (jr [Cv 26 3,Cv 2 26]))))⟩
theorem Ci:zc P fo 88 Ib:=fM Go.Proofs.Tryz.func88 (dC zg (dC zg (dC Bw dN)))
def Nb:re:=⟨2,[.tmp 4],(jQ [jk 4 0] (.seq (.block 0 (jQ [Cv 6 0,Co 7 (.kE 1 false 6),Cv 5 7] (jC 5 (jr [jk 4 2]) (jQ [Cv 9 1,jK 10 .lss 9 0,Cv 11 10,jF 12 11 (.km 1),jF 13 11 (.km 0),jF 14 11 (.kz 13),jF 15 11 (.kf 10 14),jF 16 11 (.kl 1 15),jF 17 11 (.kB .gtr 12 16),jo 18 11 17,Cv 8 18] (jC 8 (jr [jk 4 1]) .skip))))) (jQ [Cv 19 0,Cv 20 0,jz 21 20,jf 22 9 21,jl 23 1 22,Cv 24 1,jB 25 .add 23 24,jK 26 .rem 25 8,jz 27 19,jf 28 9 27,jS 1 28 26] (jQ [Cv 29 0,jz 30 29,jf 31 10 30,jl 32 1 31,Cv 33 1,jB 34 .sub 32 33,jz 35 29,jf 36 10 35,jS 1 36 34] (jr [jk 4 0])))))⟩
theorem Xi:zc P fo 89 Nb:=fM Go.Proofs.Tryz.func89 dN
def xb:re:=⟨2,[.cell 4 true 5],(jQ [Co 4 (.alloc [(.int .i64 0),(.int .i64 0),(.int .i64 0),(.int .i64 0),(.int .i64 0)])] (jQ [Cv 6 1,Cv 7 0,jz 8 7,jf 9 4 8,jl 10 1 9,Cv 11 0,jz 12 11,jf 13 2 12,jl 14 1 13,jp 15 Qd 14,Co 16 (.build [(.int .i64 0),(.int .i64 0),(.int .i64 0),(.int .i64 0),(.int .i64 0)] [(0,1,(.t 6)),(1,1,(.t 10)),(2,1,(.t 15))]),Co 5 (.alloc [(.int .i64 0),(.int .i64 0),(.int .i64 0),(.int .i64 0),(.int .i64 0)]),jS 5 5 16] (.seq (jQ [Cv 17 1,jK 18 .eql 17 1] (jC 18 (.region [Cv 20 0,jz 21 20,jf 22 0 21,jl 23 1 22,Cv 24 0,jz 25 24,jf 26 2 25,jl 27 1 26,Co 28 (.vz 83 [(.t 27)]),jq 29 Ze 23 28,Cv 19 29,jx 30 0 19,jx 31 1 19,jf 32 3 5,jS 1 32 30]) .skip)) (jQ [Cv 33 0,jz 34 33,jf 35 4 34,jl 36 1 35,jf 37 2 5,jl 38 1 37,jB 39 .add 36 38,jz 40 33,jf 41 4 40,jS 1 41 39] (jQ [Cv 42 0,jz 43 42,jf 44 2 43,jl 45 1 44,jf 46 2 5,jl 47 1 46,Co 48 (.Bd 82 [(.t 45),(.t 47)])] (jQ [Cv 49 0,jz 50 49,jf 51 3 50,Ce (.store 1 (.t 51) (.c (.int .i64 0)))] (jr [jL 52 5 5,jS 5 4 52])))))))⟩
theorem qh:zc P fo 58 xb:=fM Go.Proofs.Tryz.func58 (dC zg (dC Wr dN))
def yc:re:=⟨2,[.tmp 4],(jQ [jk 4 0] (.seq (.block 0 (jQ [Cv 6 0,Co 7 (.kE 1 false 6),Cv 5 7] (jC 5 (jr [jk 4 2]) (jQ [Cv 9 0,jz 10 9,jf 11 10 10,jl 12 1 11,Cv 13 0,jz 14 13,jf 15 8 14,jl 16 1 15,jB 17 .geq 12 16,Cv 8 17] (jC 8 (jr [jk 4 3]) .skip))))) (jQ [Cv 18 0,Cv 19 0,jz 20 19,jf 21 9 20,jl 22 1 21,Cv 23 0,jz 24 23,jf 25 10 24,jl 26 1 25,jB 27 .add 22 26,jK 28 .rem 27 8,Cv 29 1,jz 30 18,jf 31 0 30,Co 32 (.kA 8 1 31 28),jS 1 32 29] (jQ [Cv 33 0,jz 34 33,jf 35 10 34,jl 36 1 35,jK 37 .add 36 1,jz 38 33,jf 39 10 38,jS 1 39 37] (jr [jk 4 0])))))⟩
theorem Vi:zc P fo 87 yc:=fM Go.Proofs.Tryz.func87 dN
def yb:Ia:=(jQ [Cv 9 0,jz 10 9,jf 11 0 10,jl 12 1 11,Cv 13 0,jz 14 13,jf 15 3 14,jl 16 1 15,Cv 17 1,Co 18 (.kr ie 12 16 17),Cv 8 18,jx 19 0 8,jx 20 1 8,Cv 6 19,Cv 7 20] (.seq (jQ [Cv 21 7,jt 22 21,Cv 23 22,jT 24 23 (.km 0),jT 25 23 (.kz 24),jT 26 23 (.kf 3 25),jT 27 23 (.kl 1 26),jT 28 23 (.kK .neq 27 0),ja 29 23 28] (jC 29 (jQ [Cv 30 5,Cv 31 0,Co 32 (.Bd 89 [(.t 31),(.c (.int .i64 2))]),Co 33 (.Hb .lit 5 true 1 [(.int .i64 0),(.int .i64 0),(.int .i64 0),(.int .i64 0),(.int .i64 0)] [(0,(.t 32))]),Co 34 (.ku 5 true 40 30 33),Cv 5 34] (.seq (jQ [Cv 35 0,jz 36 35,jf 37 1 36,jl 38 1 37,jK 39 .eql 38 3] (jC 39 (jr [Cv 40 5,Cv 4 40]) .skip)) (.goto 0))) .skip)) (jQ [Cv 41 0,jz 42 41,jf 43 2 42,jl 44 1 43,Cv 45 1,Co 46 (.Bd 81 [(.t 44),(.t 45)])] (.seq (.block 0 (jQ [Cv 52 7,jt 53 52,Cv 51 53] (jC 51 (.region [Cv 54 5,Cv 55 0,Co 56 (.Bd 89 [(.t 55),(.c (.int .i64 2))]),Co 57 (.Hb .lit 5 true 1 [(.int .i64 0),(.int .i64 0),(.int .i64 0),(.int .i64 0),(.int .i64 0)] [(0,(.t 56))]),Co 58 (.ku 5 true 40 54 57),Cv 5 58]) (jQ [Cv 60 6,jK 61 .eql 60 (-1),Cv 59 61] (jC 59 (.region [Cv 62 5,Cv 63 0,Co 64 (.Bd 89 [(.t 63),(.c (.int .i64 1))]),Co 65 (.Hb .lit 5 true 1 [(.int .i64 0),(.int .i64 0),(.int .i64 0),(.int .i64 0),(.int .i64 0)] [(0,(.t 64))]),Co 66 (.ku 5 true 40 62 65),Cv 5 66]) (.region [Cv 47 0,Cv 48 6,jz 49 47,jf 50 3 49,jS 1 50 48])))))) (jr [Cv 67 5,Cv 4 67])))))
def Fc:re:=⟨2,[.tmp 4],(jQ [jc 4 .qa] (.jumps 0 (jQ [jc 5 .qa] (.ghost (.NF 5 5) (.seq .skip yb))) (.seq .skip yb)))⟩
theorem ph:zc P fo 56 Fc:=fM Go.Proofs.Tryz.func56 (dC Lm (dC Lm dN))
def Xc:Ia:=(jQ [jB 49 .lss 48 47] (.seq (jX 49 2) (.seq (.block 3 (jQ [ji 50 5 46 48,jL 51 5 50,Co 11 (.alloc [(.int .i64 0),(.int .i64 0),(.int .i64 0),(.int .i64 0),(.int .i64 0)]),jS 5 11 51] (jQ [Cv 52 7,jL 53 5 11,Co 54 (.Hb .lit 5 true 1 [(.int .i64 0),(.int .i64 0),(.int .i64 0),(.int .i64 0),(.int .i64 0)] [(0,(.t 53))]),Co 55 (.ku 5 true 40 52 54),Cv 7 55] (jQ [jf 56 0 11,jl 57 1 56,jK 58 .eql 57 2,Cv 59 58,jT 60 59 (.km 0),jT 61 59 (.kz 60),jT 62 59 (.kf 1 61),jT 63 59 (.kl 1 62),jT 64 59 (.kK .eql 63 3),ja 65 59 64] (jC 65 (jQ [Cv 66 0,jz 67 66,jf 68 6 67,Ce (.store 1 (.t 68) (.c (.bool true)))] (.exit 0)) .skip))))) (.region [jK 69 .add 48 1,Cv 48 69]))))
def Ye:Ia:=(jQ [jB 41 .lss 40 39] (.seq (jX 41 0) (.seq (.block 1 (jQ [ji 42 1 38 40,jl 43 1 42,Cv 9 43] (jQ [Cv 44 0,Cv 45 9,Co 46 (.Bd 90 [(.t 44),(.t 45)]),jn 47 0 46,jk 48 0] (.block 2 (.loop [0,7,38,39,40,46,47,48] Xc))))) (.region [jK 70 .add 40 1,Cv 40 70]))))
def wb:re:=⟨2,[.tmp 4,.tmp 5],(jQ [jc 4 .qa,jk 5 0] (.scope (jQ [Cv 12 0,jp 13 tc 12,Cv 6 13] (.seq (jQ [Cv 14 6,jK 15 .eql 14 0,Cv 16 15,jT 17 16 (.km 1),jT 18 16 (.kn 0 17),jT 19 16 (.km 0),jT 20 16 (.kz 19),jT 21 16 (.kf 5 20),jT 22 16 (.kl 1 21),jT 23 16 (.bin .sub (.c (.int .i64 65536)) (.t 22)),jT 24 16 (.kB .gtr 18 23),ja 25 16 24] (jC 25 (.region [jk 6 183]) .skip)) (.seq (jQ [Cv 26 6,jK 27 .neq 26 0] (jC 27 (jr [Cv 28 6,jc 4 .qa,Cv 5 28]) .skip)) (jQ [Cv 29 0,jz 30 29,jf 31 5 30,jl 32 1 31,Cv 33 1,jn 34 0 33,jB 35 .add 32 34,jz 36 29,jf 37 5 36,jS 1 37 35] (jQ [jc 7 .qa] (.ghost (.NF 7 5) (.seq .skip (.seq (jQ [Cv 38 1,jn 39 0 38,jk 40 0] (.block 0 (.loop [0,7,38,39,40] Ye))) (jr [Cv 71 7,Cv 4 71,jk 5 0])))))))))))⟩
theorem oh:zc P fo 33 wb:=fM Go.Proofs.Tryz.func33 (dC Yj dN)
def Qh:re:=⟨1,[.tmp 2],(jQ [jk 2 0] (.seq (jQ [Cv 3 0,Co 4 (.kE 1 false 3)] (jC 4 (jr [jk 2 0]) .skip)) (jr [Cv 5 0,jz 6 5,jf 7 2 6,jl 8 1 7,jp 9 Qd 8,Cv 2 9])))⟩
theorem Yp:zc P fo 36 Qh:=fM Go.Proofs.Tryz.func36 (dC zg dN)
def Cc:List PV→Option PV:=fc (fun _=>none) Qh
theorem Oh:Ga P 36 Cc:=Na Lb Yp
def zb:re:=⟨1,[.tmp 2,.tmp 3],(jQ [jc 2 .qa,jk 3 0] (.seq (jQ [Cv 5 0,jp 6 tc 5,Cv 4 6] (jQ [Cv 7 4,jK 8 .neq 7 0,Cv 9 8,jT 10 9 (.km 4),jT 11 9 (.kK .neq 10 182),ja 12 9 11] (jC 12 (jr [Cv 13 4,jc 2 .qa,Cv 3 13]) .skip))) (jQ [Cv 14 0,jz 15 14,jf 16 7 15,Ce (.store 1 (.t 16) (.c (.bool true)))] (.seq (jQ [Cv 17 0,jp 18 Cc 17,jK 19 .eql 18 0] (jC 19 (jr [jc 2 .qa,jk 3 0]) .skip)) (jr [Cv 20 0,Co 21 (.Bd 89 [(.t 20),(.c (.int .i64 3))]),Co 22 (.Hb .lit 5 true 1 [(.int .i64 0),(.int .i64 0),(.int .i64 0),(.int .i64 0),(.int .i64 0)] [(0,(.t 21))]),Cv 2 22,jk 3 0])))))⟩
theorem yj:zc P fo 37 zb:=fM Go.Proofs.Tryz.func37 (dC Yj (dC Oh dN))
def kh:re:=⟨0,[.tmp 0],(jQ [jb 0 false] (jQ [Co 11 (.Gj Dd []),Co 12 (.Bd 86 [(.t 11),(.c (.int .i64 1))]),Cv 10 12,jx 13 0 10,jx 14 1 10,Cv 1 13,Cv 2 14] (.seq (jQ [Cv 15 1,Co 16 (.kE 1 false 15),Cv 17 16,jF 18 17 (.km 2),jF 19 17 (.kK .neq 18 0),jo 20 17 19] (jC 20 (jr [jb 0 false]) .skip)) (jQ [Cv 22 1,Co 23 (.Hb .uq 1 false 3 [(.int .u8 0)] [(0,(.c (.int .u8 65))),(1,(.c (.int .u8 225))),(2,(.c (.int .u8 128)))]),Co 24 (.ES (.t 23)),Co 25 (.Bd 87 [(.t 22),(.t 24)]),Cv 21 25,jx 26 0 21,jx 27 1 21,Cv 3 26,Cv 4 27] (jQ [Cv 28 1,jp 29 Cc 28,Cv 5 29] (jQ [Cv 31 1,Co 32 (.Hb .uq 1 false 2 [(.int .u8 0)] [(0,(.c (.int .u8 66))),(1,(.c (.int .u8 195)))]),Co 33 (.ES (.t 32)),Co 34 (.Bd 87 [(.t 31),(.t 33)]),Cv 30 34,jx 35 0 30,jx 36 1 30,Cv 6 35,Cv 7 36] (jQ [Cv 38 1,Co 39 (.Bd 88 [(.t 38)]),Cv 37 39,jx 40 0 37,jx 41 1 37,Cv 8 40,Cv 9 41] (jr [Cv 42 4,jK 43 .eql 42 0,Cv 44 43,jT 45 44 (.km 7),jT 46 44 (.kK .eql 45 0),ja 47 44 46,Cv 48 47,jT 49 48 (.km 9),jT 50 48 (.kK .eql 49 0),ja 51 48 50,Cv 52 51,jT 53 52 (.km 5),jT 54 52 (.kK .eql 53 2),ja 55 52 54,Cv 56 55,jT 57 56 (.km 3),jT 58 56 (.build [(.int .i64 0),(.int .i64 0),(.int .i64 0),(.int .i64 0),(.int .i64 0)] [(0,1,(.c (.int .i64 1))),(2,1,(.c (.int .i64 1))),(3,1,(.c (.int .i64 65)))]),jT 59 56 (.Hb .lit 5 true 1 [(.int .i64 0),(.int .i64 0),(.int .i64 0),(.int .i64 0),(.int .i64 0)] [(0,(.t 58))]),jT 60 56 (.kq bd 57 59),ja 61 56 60,Cv 62 61,jT 63 62 (.km 6),jT 64 62 (.build [(.int .i64 0),(.int .i64 0),(.int .i64 0),(.int .i64 0),(.int .i64 0)] [(0,1,(.c (.int .i64 2))),(1,1,(.c (.int .i64 1))),(2,1,(.c (.int .i64 2)))]),jT 65 62 (.build [(.int .i64 0),(.int .i64 0),(.int .i64 0),(.int .i64 0),(.int .i64 0)] [(0,1,(.c (.int .i64 1))),(1,1,(.c (.int .i64 3))),(2,1,(.c (.int .i64 1))),(3,1,(.c (.int .i64 66)))]),jT 66 62 (.Hb .lit 5 true 2 [(.int .i64 0),(.int .i64 0),(.int .i64 0),(.int .i64 0),(.int .i64 0)] [(0,(.t 64)),(1,(.t 65))]),jT 67 62 (.kq bd 63 66),ja 68 62 67,Cv 69 68,jT 70 69 (.km 8),jT 71 69 (.build [(.int .i64 0),(.int .i64 0),(.int .i64 0),(.int .i64 0),(.int .i64 0)] [(0,1,(.c (.int .i64 3))),(1,1,(.c (.int .i64 4))),(2,1,(.c (.int .i64 1)))]),jT 72 69 (.Hb .lit 5 true 1 [(.int .i64 0),(.int .i64 0),(.int .i64 0),(.int .i64 0),(.int .i64 0)] [(0,(.t 71))]),jT 73 69 (.kq bd 70 72),ja 74 69 73,Cv 0 74]))))))))⟩
theorem lp:zc P fo 30 kh:=fM Go.Proofs.Tryz.func30 (dC Lg (dC Oh (dC Uh (dC Uh (dC Uh dN)))))
def ze:Nat→Option re
 |86=>some Fe
 |87=>some wb
 |88=>some zb
 |89=>some xb
 |83=>some Ib
 |82=>some Nb
 |90=>some Fc
 |81=>some yc
 |80=>some Bi
 |_=>none
theorem Bo:Xh P fo ze:=by
 intro ix af h
 unfold ze at h
 split at h
 ·injection h with h;subst h;exact gu
 ·injection h with h;subst h;exact oh
 ·injection h with h;subst h;exact yj
 ·injection h with h;subst h;exact qh
 ·injection h with h;subst h;exact Ci
 ·injection h with h;subst h;exact Xi
 ·injection h with h;subst h;exact ph
 ·injection h with h;subst h;exact Vi
 ·injection h with h;subst h;exact Wu
 ·cases h
def xe:List PV→Option PV:=fc ze kh
theorem lk:Ga P 30 xe:=Na Bo lp
def rh:re:=⟨1,[.tmp 2],(jQ [jk 2 0] (.seq (jQ [Cv 3 0,Co 4 (.kE 1 false 3)] (jC 4 (jr [jk 2 0]) .skip)) (jr [Cv 5 0,jz 6 5,jf 7 5 6,jl 8 1 7,Cv 2 8])))⟩
theorem cp:zc P fo 34 rh:=fM Go.Proofs.Tryz.func34 dN
def Qc:List PV→Option PV:=fc (fun _=>none) rh
theorem sk:Ga P 34 Qc:=Na Lb cp
def tj:re:=⟨1,[.tmp 2],(jQ [jk 2 0] (.seq (jQ [Cv 3 0,Co 4 (.kE 1 false 3)] (jC 4 (jr [jk 2 0]) .skip)) (jr [Cv 5 0,jz 6 5,jf 7 8 6,jl 8 1 7,Cv 2 8])))⟩
theorem Vt:zc P fo 59 tj:=fM Go.Proofs.Tryz.func59 dN
def vh:List PV→Option PV:=fc (fun _=>none) tj
theorem Ju:Ga P 59 vh:=Na Lb Vt
def Ph:re:=⟨1,[.tmp 2],(jQ [jk 2 0] (.seq (jQ [Cv 3 0,Co 4 (.kE 1 false 3)] (jC 4 (jr [jk 2 0]) .skip)) (jr [Cv 5 0,jz 6 5,jf 7 2 6,jl 8 1 7,jp 9 vh 8,Cv 2 9])))⟩
theorem sq:zc P fo 40 Ph:=fM Go.Proofs.Tryz.func40 (dC Ju dN)
def Vd:List PV→Option PV:=fc (fun _=>none) Ph
theorem xr:Ga P 40 Vd:=Na Lb sq
def Qg:re:=⟨1,[.tmp 2],(jQ [jb 2 false] (jr [Cv 3 0,Co 4 (.kE 1 true 3),Cv 5 4,jT 6 5 (.km 0),jT 7 5 (.kz 6),jT 8 5 (.kf 6 7),jT 9 5 (.kl 1 8),ja 10 5 9,Cv 2 10]))⟩
theorem xn:zc P fo 39 Qg:=fM Go.Proofs.Tryz.func39 dN
def Yc:List PV→Option PV:=fc (fun _=>none) Qg
theorem mo:Ga P 39 Yc:=Na Lb xn
def ve:re:=⟨1,[.tmp 2],(jQ [jb 2 false] (.seq (jQ [Co 8 (.Gj xe []),jt 9 8] (jC 9 (jr [jb 2 false]) .skip)) (jQ [jc 3 .yd] (jQ [Cv 11 3,Cv 12 0,Co 13 (.Bd 87 [(.t 11),(.t 12)]),Cv 10 13,jx 14 0 10,jx 15 1 10,Cv 4 14,Cv 5 15] (jQ [Cv 17 3,Co 18 (.Bd 88 [(.t 17)]),Cv 16 18,jx 19 0 16,jx 20 1 16,Cv 6 19,Cv 7 20] (jr [Cv 21 4,jn 22 0 21,Cv 23 6,jn 24 0 23,jB 25 .add 22 24,jK 26 .eql 25 0,Cv 27 26,jT 28 27 (.km 5),jT 29 27 (.kK .eql 28 2),ja 30 27 29,Cv 31 30,jT 32 31 (.km 7),jT 33 31 (.kK .eql 32 2),ja 34 31 33,Cv 35 34,jT 36 35 (.km 3),jT 37 35 (.kp Cc 36),jT 38 35 (.kK .eql 37 0),ja 39 35 38,Cv 40 39,jT 41 40 (.km 3),jT 42 40 (.kp Qc 41),jT 43 40 (.kK .eql 42 0),ja 44 40 43,Cv 45 44,jT 46 45 (.km 3),jT 47 45 (.kp Vd 46),jT 48 45 (.kK .eql 47 0),ja 49 45 48,Cv 50 49,jT 51 50 (.km 3),jT 52 50 (.kp Yc 51),jT 53 50 (.kt 52),ja 54 50 53,Cv 2 54]))))))⟩
theorem ym:zc P fo 13 ve:=fM Go.Proofs.Tryz.func13 (dC lk (dC Oh (dC sk (dC xr (dC mo dN)))))
def Wb:Nat→Option re
 |87=>some wb
 |88=>some zb
 |89=>some xb
 |83=>some Ib
 |82=>some Nb
 |90=>some Fc
 |81=>some yc
 |_=>none
theorem fm:Xh P fo Wb:=by
 intro ix af h
 unfold Wb at h
 split at h
 ·injection h with h;subst h;exact oh
 ·injection h with h;subst h;exact yj
 ·injection h with h;subst h;exact qh
 ·injection h with h;subst h;exact Ci
 ·injection h with h;subst h;exact Xi
 ·injection h with h;subst h;exact ph
 ·injection h with h;subst h;exact Vi
 ·cases h
def Xf:List PV→Option PV:=fc Wb ve
theorem Tm:Ga P 13 Xf:=Na fm ym
def xf:re:=⟨0,[.tmp 0],(jQ [jb 0 false] (.seq (jQ [Co 18 (.Gj xe []),jt 19 18,Cv 20 19,Co 21 (.pick (.t 20) (.c (.bool true)) (.c (.bool false))),Cv 22 21,Co 23 (.pick (.t 22) (.c (.bool true)) (.c (.bool false))),Cv 24 23,Co 25 (.pick (.t 24) (.c (.bool true)) (.c (.bool false))),Cv 26 25,Co 27 (.pick (.t 26) (.c (.bool true)) (.c (.bool false))),Cv 28 27,Co 29 (.pick (.t 28) (.c (.bool true)) (.c (.bool false))),Cv 30 29,Co 31 (.pick (.t 30) (.c (.bool true)) (.c (.bool false))),Cv 32 31,Co 33 (.pick (.t 32) (.c (.bool true)) (.c (.bool false)))] (jC 33 (jr [jb 0 false]) .skip)) (jQ [Co 35 (.Bd 86 [(.c .yd),(.c (.int .i64 0))]),Cv 34 35,jx 36 0 34,jx 37 1 34,Cv 1 36,Cv 2 37] (jQ [Co 39 (.Gj Dd []),Co 40 (.Bd 86 [(.t 39),(.c (.int .i64 2))]),Cv 38 40,jx 41 0 38,jx 42 1 38,Cv 3 41,Cv 4 42] (jQ [Co 44 (.Gj Dd []),Co 45 (.Bd 86 [(.t 44),(.c (.int .i64 0))]),Cv 43 45,jx 46 0 43,jx 47 1 43,Cv 5 46,Cv 6 47] (jQ [Co 49 (.Gj Dd []),Co 50 (.Bd 86 [(.t 49),(.c (.int .i64 3))]),Cv 48 50,jx 51 0 48,jx 52 1 48,Cv 7 51,Cv 8 52] (.seq (jQ [Cv 53 1,Co 54 (.kE 1 true 53),Cv 55 54,jF 56 55 (.km 2),jF 57 55 (.kK .neq 56 2),jo 58 55 57,Cv 59 58,jF 60 59 (.km 3),jF 61 59 (.kE 1 true 60),jo 62 59 61,Cv 63 62,jF 64 63 (.km 4),jF 65 63 (.kK .neq 64 180),jo 66 63 65,Cv 67 66,jF 68 67 (.km 5),jF 69 67 (.kE 1 true 68),jo 70 67 69,Cv 71 70,jF 72 71 (.km 6),jF 73 71 (.kK .neq 72 180),jo 74 71 73,Cv 75 74,jF 76 75 (.km 7),jF 77 75 (.kE 1 false 76),jo 78 75 77,Cv 79 78,jF 80 79 (.km 8),jF 81 79 (.kK .neq 80 0),jo 82 79 81] (jC 82 (jr [jb 0 false]) .skip)) (jQ [Co 83 (.ye .lit 1 false [(.int .u8 0)] 1 (.c (.int .i64 65536)) (.c (.int .i64 65536))),Cv 9 83] (jQ [Cv 85 7,Cv 86 9,Co 87 (.slice 1 (.t 86) (some (.c (.int .i64 1))) none),Co 88 (.Bd 87 [(.t 85),(.t 87)]),Cv 84 88,jx 89 0 84,jx 90 1 84,Cv 10 89,Cv 11 90] (jQ [Cv 92 7,Cv 93 9,Co 94 (.slice 1 (.t 93) none (some (.c (.int .i64 2)))),Co 95 (.Bd 87 [(.t 92),(.t 94)]),Cv 91 95,jx 96 0 91,jx 97 1 91,Cv 12 96,Cv 13 97] (jQ [Cv 99 7,Cv 100 9,Co 101 (.slice 1 (.t 100) none (some (.c (.int .i64 1)))),Co 102 (.Bd 87 [(.t 99),(.t 101)]),Cv 98 102,jx 103 0 98,jx 104 1 98,Cv 14 103,Cv 15 104] (jQ [Cv 106 7,Cv 107 9,Co 108 (.slice 1 (.t 107) none (some (.c (.int .i64 1)))),Co 109 (.Bd 87 [(.t 106),(.t 108)]),Cv 105 109,jx 110 0 105,jx 111 1 105,Cv 16 110,Cv 17 111] (jr [Cv 112 11,jK 113 .eql 112 0,Cv 114 113,jT 115 114 (.km 10),jT 116 114 (.kn 0 115),jT 117 114 (.kK .eql 116 65535),ja 118 114 117,Cv 119 118,jT 120 119 (.km 13),jT 121 119 (.kK .eql 120 183),ja 122 119 121,Cv 123 122,jT 124 123 (.km 15),jT 125 123 (.kK .eql 124 0),ja 126 123 125,Cv 127 126,jT 128 127 (.km 14),jT 129 127 (.kn 0 128),jT 130 127 (.kK .eql 129 1),ja 131 127 130,Cv 132 131,jT 133 132 (.km 14),jT 134 132 (.kj 5 133 0),jT 135 132 (.kf 1 134),jT 136 132 (.kl 1 135),jT 137 132 (.kK .eql 136 65535),ja 138 132 137,Cv 139 138,jT 140 139 (.km 17),jT 141 139 (.kK .eql 140 183),ja 142 139 141,Cv 143 142,jT 144 143 (.km 7),jT 145 143 (.kp Qc 144),jT 146 143 (.kK .eql 145 65536),ja 147 143 146,Cv 0 147])))))))))))))⟩
theorem Hl:zc P fo 8 xf:=fM Go.Proofs.Tryz.func8 (dC lk (dC Lg (dC Lg (dC Lg (dC sk dN)))))
def eb:Nat→Option re
 |86=>some Fe
 |87=>some wb
 |90=>some Fc
 |89=>some xb
 |81=>some yc
 |83=>some Ib
 |82=>some Nb
 |80=>some Bi
 |_=>none
theorem Uk:Xh P fo eb:=by
 intro ix af h
 unfold eb at h
 split at h
 ·injection h with h;subst h;exact gu
 ·injection h with h;subst h;exact oh
 ·injection h with h;subst h;exact ph
 ·injection h with h;subst h;exact qh
 ·injection h with h;subst h;exact Vi
 ·injection h with h;subst h;exact Ci
 ·injection h with h;subst h;exact Xi
 ·injection h with h;subst h;exact Wu
 ·cases h
def vf:List PV→Option PV:=fc eb xf
theorem Yl:Ga P 8 vf:=Na Uk Hl
end Go.AM.B1
namespace Go.AM.B1
open Go.AM
def Dc:Int→List (Int×Int)→Int
 |n,[]=>n
 |n,p::r=>Dc (n+(p.2 - p.1+1)) r
abbrev aM (v:PV) (len i n:Int):Tr:=(((Tr.lf.set 8 (.pv (i64 i))).set 7 (.pv (i64 len))).set 6 (.pv v)).set 3 (.pv (i64 n))
theorem UO (v:PV) (l:List (Int×Int)) (hv:Ah 2 v (Td l)) (hw:l.length≤maxLen) {top:Int} (ht:top≤4611686018427387900) (hval:Ka top (-2) l=true):Ln [v]=some (i64 (Dc 0 l)):=by
 have ls:=hv.len
 simp only[Td,List.length_map] at ls
 have key:=Te (g:=Zb (za (fun _=>none) 8) [3,6,7,8] xi 0)
  (fun i t=>∃ n last,t=⟨aM v l.length i n,[]⟩∧Dc 0 l=Dc n (l.drop i)∧Ka top last (l.drop i)=true∧0≤n∧n≤max 0 (last+1)∧last≤top)
  (Q:=fun r=>∃ E H,r=(.exit 0,⟨E,H⟩)∧E.get 3= .pv (i64 (Dc 0 l)))
  l.length (by unfold wa;unfold maxLen at hw;omega) ⟨aM v l.length (0:Nat) 0,[]⟩ ?_ ?_ ?_
 ·obtain⟨⟨ex,t⟩,h,_,E,H,he,hE⟩:=vd key
  cases he
  have h':Eb (fa (ga (za (fun _=>none) 8) xi) (xa 0 [3,6,7,8])) wa ⟨aM v l.length 0 0,[]⟩=some (.exit 0,⟨E,H⟩):=h
  simp only[aM] at h'
  simp -implicitDefEqProofs only[Ln,SP,SA,SQ,WP,WQ,sevalprocAttr,ft,ls,Tc,h',hE]
 ·refine⟨0,min (-2) top,rfl,rfl,?_,by omega,by omega,by omega⟩
  have mono:∀ {a b:Int} {r:List (Int×Int)},a≤b→Ka top b r=true→Ka top a r=true:=by
   intro a b r hab h
   cases r with
   |nil=>rfl
   |cons p r=>
    obtain⟨h1,h2,h3,h4,h5⟩:=Zc h
    simp only[Ka,h5,Bool.and_true,Bool.not_eq_true',Bool.or_eq_false_iff,decide_eq_false_iff_not]
    exact⟨⟨⟨h1,h2⟩,h3⟩,by omega⟩
  exact mono (by omega) hval
 ·rintro i t hi ⟨n,last,rfl,hr,hva,hn0,hn1,hlast⟩
  have hv:=hv.lit (i:=i) (by simpa using hi)
  subst hv
  have hd:l.drop i=l[i]::l.drop (i+1):=List.drop_eq_getElem_cons hi
  rw[hd] at hr hva
  obtain⟨h1,h2,h3,h4,h5⟩:=Zc hva
  rw[Dc] at hr
  have t2:=Bb hi hw
  have hg:=Xn hi
  have hl:(Td l).length=l.length:=by simp
  generalize l[i]=p at *
  have t3:IntKind.i64.wrap (p.2 - p.1)=p.2 - p.1:=Da (by omega)
  have t4:IntKind.i64.wrap (p.2 - p.1+1)=p.2 - p.1+1:=Da (by omega)
  have t5:IntKind.i64.wrap (n+(p.2 - p.1+1))=n+(p.2 - p.1+1):=Da (by omega)
  generalize hes:Td l=es at *
  generalize hQ:LN _ _ i=Q
  simp -implicitDefEqProofs only[SP,SA,SQ,WP,WQ,sevalprocAttr,xi,hi,hl,t2,t3,t4,t5,hg,aM]
  subst hQ
  exact⟨_,p.2,rfl,hr,h5,by omega,by omega,by omega⟩
 ·rintro t ⟨n,last,rfl,hr,_⟩
  rw[List.drop_length,Dc] at hr
  have e1:decide (l.length < l.length)=false:=mb (by omega)
  generalize hQ:(fun r:Ex×St=>r.1.stop=true∧_)=Q
  simp -implicitDefEqProofs only[SP,SA,SQ,WP,WQ,sevalprocAttr,xi,e1,aM]
  subst hQ
  exact⟨rfl,_,_,rfl,by rw[hr];rfl⟩
theorem _root_.Go.AM.So.Kc.cut {H:List aa} (h:So.Kc H):Va (pa H.length) H=some H:=So.qj fun o ho=>h _ (Nat.le_refl _) o ho
theorem lh (A:List aa) (o:aa):(A++[o])[A.length]? =some o:=by simp
theorem Wk (A:List aa) (o o':aa):(A++[o]).set A.length o'=A++[o']:=by
 rw[List.set_append_right _ _ (Nat.le_refl _)];simp
theorem xC {A:List aa} (T:List aa) {sz id n:Nat} {i:Int} {v:AV} (hid:id < A.length) (h:ma A sz (.own id n) i=some v):ma (A++T) sz (.own id n) i=some v:=by
 simp only[ma] at h ⊢
 rw[List.getElem?_append_left hid];exact h
theorem gF {A:List aa} (T:List aa) {sz id:Nat} {ag:Bool} {m off:Nat} {v:AV} (hid:id < A.length) (h:na A ag sz (.ic id m off)=some v):na (A++T) ag sz (.ic id m off)=some v:=by
 simp only[na] at h ⊢
 rw[List.getElem?_append_left hid];exact h
end Go.AM.B1
namespace Go.AM.B1
open Go.AM Go.AM.So
theorem Kz {n:Nat} {E:Tr}:∀ {live:List Nat},(∀ t∈live,(E.get t).cut n deep=some (E.get t))→∃ E',Qa n E live=some E'∧∀ t∈live,E'.get t=E.get t
 | [],_=>⟨.lf,rfl,by simp⟩
 |a::live,h=>by
  obtain⟨E',h1,h2⟩:=Kz (live:=live) fun t ht=>h t (by simp[ht])
  refine⟨E'.set a (E.get a),by rw[Qa,h a (by simp),Option.bind_some,h1];rfl,fun t ht=> ?_⟩
  rw[Tr.ba]
  by_cases he:t=a
  ·rw[if_pos he,he]
  ·rw[if_neg he]
   rcases List.mem_cons.1 ht with h3 | h3
   ·exact absurd h3 he
   ·exact h2 t h3
theorem PM {n:Nat} {live:List Nat} {E:Tr} {A T:List aa} (hn:A.length=n) (hA:∀ o∈A,pa n o=some o) (hE:∀ t∈live,(E.get t).cut n deep=some (E.get t)):
 ∃ E',xa n live ⟨E,A++T⟩=some ⟨E',A⟩∧∀ t∈live,E'.get t=E.get t:=by
 obtain⟨E',h1,h2⟩:=Kz hE
 refine⟨E',?_,h2⟩
 subst hn
 simp only[xa,h1,Option.bind_some]
 rw[List.take_left' rfl,qj hA];rfl
def Ug (n:Nat) (live:List Nat) (J:St→Prop) (s:St):Prop:=
 ∃ A T,s.H=A++T∧A.length=n∧(∀ o∈A,pa n o=some o)∧(∀ t∈live,(s.env.get t).cut n deep=some (s.env.get t))∧∀ E',(∀ t∈live,E'.get t=s.env.get t)→J ⟨E',A⟩
theorem Ug.xa {n:Nat} {live:List Nat} {J:St→Prop} {s:St} (h:Ug n live J s):∃ s',xa n live s=some s'∧J s':=by
 obtain⟨A,T,h1,h2,h3,h4,h5⟩:=h
 obtain⟨E,H⟩:=s
 simp only at h1 h4 h5
 subst h1
 obtain⟨E',h6,h7⟩:=PM (T:=T) h2 h3 h4
 exact⟨_,h6,h5 E' h7⟩
def RQ (n:Nat) (live:List Nat) (J:St→Prop) (Q:Ex×St→Prop):Ex×St→Prop
 | (.norm,s)=>Ug n live J s
 |r=>Q r
theorem Nn {n:Nat} {live:List Nat} {J:St→Prop} {Q:Ex×St→Prop} {s:St}:RQ n live J Q (.norm,s)=Ug n live J s:=rfl
theorem wO {call:Fa} {b:Ia} {n:Nat} {live:List Nat} {I:Nat→St→Prop} {Q:Ex×St→Prop} {i:Nat} {s:St} (h:ke (RQ n live (I (i+1)) Q) (ga call b s)):
 ke (LN I Q i) (fa (ga call b) (xa n live) s):=by
 rw[fa,fw]
 refine Wa h ?_
 rintro⟨ex,t⟩ hr
 cases ex with
 |norm=>
  obtain⟨s',h1,h2⟩:=Ug.xa hr
  show ke _ (Hj (Go.AM.xa n live t))
  rw[h1];exact h2
 |exit=>exact hr
 |ret=>exact hr
 |goto=>exact hr
theorem QL {call:Fa} {b:Ia} {cl:St→Option St} {Q:Ex×St→Prop} {s:St} (h:ke (fun r=>r.1.stop=true∧Q r) (ga call b s)):
 ke (fun r=>r.1.stop=true∧Q r) (fa (ga call b) cl s):=by
 rw[fa,fw]
 refine Wa h ?_
 rintro⟨ex,t⟩ ⟨h1,h2⟩
 cases ex with
 |norm=>cases h1
 |exit=>exact⟨h1,h2⟩
 |ret=>exact⟨h1,h2⟩
 |goto=>exact⟨h1,h2⟩
theorem Up {call:Fa} {b:Ia} {live:List Nat} {Q:Ex×St→Prop} {s:St} (I:Nat→St→Prop) (N:Nat) (hN:N < wa) (h0:Ug s.H.length live (I 0) s)
 (hs:∀ i t,i < N→I i t→ke (RQ s.H.length live (I (i+1)) Q) (ga call b t)) (he:∀ t,I N t→ke (fun r=>r.1.stop=true∧Q r) (ga call b t)):
 ke (fun r=>r.1.stop=true∧Q r) (ga call (.loop live b) s):=by
 obtain⟨s',h1,h2⟩:=h0.xa
 rw[Tc,h1]
 exact Te I N hN s' h2 (fun i t hi hI=>wO (hs i t hi hI)) (fun t hI=>QL (he t hI))
theorem SK {call:Fa} {b:Ia} {live:List Nat} {Q:Ex×St→Prop} {s:St} (I:Nat→St→Prop) (N:Nat) (hN:N < wa) (h0:Ug s.H.length live (I N) s)
 (hs:∀ k t,I k t→ke (RQ s.H.length live (fun s'=>∃ j,j < k∧I j s') Q) (ga call b t)):
 ke (fun r=>r.1.stop=true∧Q r) (ga call (.loop live b) s):=by
 obtain⟨s',h1,h2⟩:=h0.xa
 rw[Tc,h1]
 refine aw I wa N s' hN h2 fun k t hI=> ?_
 rw[fa,fw]
 refine Wa (hs k t hI) ?_
 rintro⟨ex,t⟩ hr
 cases ex with
 |norm=>
  obtain⟨s',h1,h2⟩:=Ug.xa (J:=fun s'=>∃ j,j < k∧I j s') hr
  show ke _ (Hj (Go.AM.xa _ live t))
  rw[h1];exact h2
 |exit=>exact hr
 |ret=>exact hr
 |goto=>exact hr
theorem Ug.all {live:List Nat} {J:St→Prop} {E:Tr} {H:List aa} {n:Nat} (hn:n=H.length) (h1:∀ o∈H,pa n o=some o) (h2:∀ t∈live,(E.get t).cut n deep=some (E.get t)) (h3:∀ E',(∀ t∈live,E'.get t=E.get t)→J ⟨E',H⟩):Ug n live J ⟨E,H⟩:=
 ⟨H,[],by simp,hn.symm,h1,h2,h3⟩
theorem Ug.front {live:List Nat} {J:St→Prop} {E:Tr} {A T:List aa} {n:Nat} (hn:n=A.length) (h1:∀ o∈A,pa n o=some o) (h2:∀ t∈live,(E.get t).cut n deep=some (E.get t)) (h3:∀ E',(∀ t∈live,E'.get t=E.get t)→J ⟨E',A⟩):Ug n live J ⟨E,A++T⟩:=
 ⟨A,T,rfl,hn.symm,h1,h2,h3⟩
theorem Tp {n d id off:Nat} (h:id < n):AV.cut n d (.ptr id off)=some (.ptr id off):=by
 cases d <;> simp[AV.cut,h]
theorem RJ {n d id len:Nat} (h:id < n):AV.cut n d (.own id len)=some (.own id len):=by
 cases d <;> simp[AV.cut,h]
theorem tA {n d id sz:Nat} {nl:Bool} {es:List PV} (h:id < n):AV.cut n d (.uq id nl sz es)=some (.uq id nl sz es):=by
 cases d <;> simp[AV.cut,h]
theorem Zm (n:Nat) (cs:List PV):pa n (.box (cs.map .pv))=some (.box (cs.map .pv)):=by
 have:Va (AV.cut n deep) (cs.map .pv)=some (cs.map .pv):=qj fun a ha=>by
  obtain⟨p,_,rfl⟩:=List.mem_map.1 ha
  exact Ha
 simp[pa,this]
def oe (l:List Nat) (E E':Tr):Prop:=∀ t∈l,E'.get t=E.get t
theorem oe.refl (l:List Nat) (E:Tr):oe l E E:=fun _ _=>rfl
theorem oe.trans {l:List Nat} {E E' E'':Tr} (h1:oe l E E') (h2:oe l E' E''):oe l E E'':=fun t ht=>(h2 t ht).trans (h1 t ht)
theorem oe.sub {l l':List Nat} {E E':Tr} (h:oe l E E') (hs:l'.all l.contains=true):oe l' E E':=fun t ht=>h t (by
 have:=List.all_eq_true.1 hs t ht
 simpa using this)
theorem oe.set {l:List Nat} {E E':Tr} {k:Nat} {v:AV} (h:oe l E E') (hk:l.contains k=false):oe l E (E'.set k v):=fun t ht=>by
 have:t≠k:=by
  rintro rfl
  have:l.contains t=true:=by simpa using ht
  rw[hk] at this;cases this
 rw[Tr.ba,if_neg this];exact h t ht
def Fit (n:Nat) (l:List Nat) (E:Tr):Prop:=∀ t∈l,(E.get t).cut n deep=some (E.get t)
theorem Fit.nil (n:Nat) (E:Tr):Fit n [] E:=fun _ h=>by cases h
theorem Fit.cons {n t:Nat} {l:List Nat} {E:Tr} {v:AV} (h:E.get t=v) (hv:v.cut n deep=some v) (hl:Fit n l E):Fit n (t::l) E:=fun u hu=>by
 rcases List.mem_cons.1 hu with rfl | hu
 ·rw[h];exact hv
 ·exact hl u hu
theorem Fit.Wc {n:Nat} {l:List Nat} {E E':Tr} (h:Fit n l E) (hk:oe l E E'):Fit n l E':=fun t ht=>by rw[hk t ht];exact h t ht
theorem Fit.sub {n:Nat} {l l':List Nat} {E:Tr} (h:Fit n l E) (hs:l'.all l.contains=true):Fit n l' E:=fun t ht=>h t (by
 have:=List.all_eq_true.1 hs t ht
 simpa using this)
end Go.AM.B1
namespace Go.AM.B1
open Go.AM Go.AM.So
def Has (E:Tr):List (Nat×AV)→Prop
 | []=>True
 | (k,v)::l=>E.get k=v∧Has E l
theorem Has.mem {E:Tr} {p:Nat×AV}:∀ {l:List (Nat×AV)},Has E l→p∈l→E.get p.1=p.2
 |q::l,h,hm=>by
  rcases List.mem_cons.1 hm with rfl | hm
  ·exact h.1
  ·exact Has.mem h.2 hm
theorem Has.move {E E':Tr}:∀ {l:List (Nat×AV)},Has E l→(∀ t∈l.map (·.1),E'.get t=E.get t)→Has E' l
 | [],_,_=>trivial
 |q::l,h,hk=>⟨(hk _ (by simp)).trans h.1,Has.move h.2 fun t ht=>hk t (by simp at ht ⊢;exact .inr ht)⟩
def tD (n:Nat):aa→Bool
 | .box cells=>cells.all (AV.Wc n deep)
 | .seq _ _ cells _ _=>cells.all (AV.Wc n deep)
 |_=>true
theorem Qs {n:Nat} {o:aa} (h:tD n o=true):pa n o=some o:=by
 cases o with
 |box cells=>simp only[tD] at h;simp only[pa,FC h];rfl
 |seq sz ag cells fl nl=>simp only[tD] at h;simp only[pa,h];rfl
 |tok=>rfl
 |map=>rfl
 |dead=>rfl
theorem Oq {n d:Nat} (p:PV):AV.Wc n d (.pv p)=true:=by cases d <;> rfl
theorem Rr {n d id off:Nat} (h:id < n):AV.Wc n d (.ptr id off)=true:=by cases d <;> simp[AV.Wc,h]
theorem Uy {n d id sz:Nat} {nl:Bool} {es:List PV} (h:id < n):AV.Wc n d (.uq id nl sz es)=true:=by cases d <;> simp[AV.Wc,h]
theorem Qz (n:Nat) (cs:List PV):tD n (.box (cs.map .pv))=true:=by
 simp only[tD,List.all_map,List.all_eq_true];exact fun p _=>Oq p
theorem ZG {n:Nat} {H:List aa} (h:H.all (tD n)=true):∀ o∈H,pa n o=some o:=fun o ho=>Qs (List.all_eq_true.1 h o ho)
def RH {σ:Type} (L:σ→List (Nat×AV)) (Hp:σ→List aa) (P:σ→Prop) (Q:Ex×St→Prop):Ex×St→Prop
 | (.norm,s)=>∃ x T,Has s.env (L x)∧s.H=Hp x++T∧P x
 |r=>Q r
section
variable {σ:Type} {call:Fa} {b:Ia} {live:List Nat} {Q:Ex×St→Prop} {E0:Tr} {H0:List aa}
 (L:σ→List (Nat×AV)) (Hp:σ→List aa) (hk:∀ x,(L x).map (·.1)=live)
theorem kT {n:Nat} {P:σ→Prop} {s:St} (hk:∀ x,(L x).map (·.1)=live) (hc:∀ x,P x→(L x).all (fun p=>AV.Wc n deep p.2)=true∧(∀ o∈Hp x,pa n o=some o)∧(Hp x).length=n) (h:∃ x T,Has s.env (L x)∧s.H=Hp x++T∧P x):
 Ug n live (fun t=>∃ x,Has t.env (L x)∧t.H=Hp x∧P x) s:=by
 obtain⟨x,T,h1,h2,h3⟩:=h
 obtain⟨c1,c2,c3⟩:=hc x h3
 refine⟨Hp x,T,h2,c3,c2,fun t ht=> ?_,fun E' hE=>⟨x,h1.move fun t ht=>hE t (by rw[← hk x];exact ht),rfl,h3⟩⟩
 rw[← hk x] at ht
 obtain⟨p,hp,rfl⟩:=List.mem_map.1 ht
 rw[h1.mem hp]
 exact MG _ (List.all_eq_true.1 c1 p hp)
theorem Zy (P:Nat→σ→Prop) (N:Nat) (hN:N < wa) (hk:∀ x,(L x).map (·.1)=live)
 (hc:∀ i x,P i x→(L x).all (fun p=>AV.Wc H0.length deep p.2)=true∧(∀ o∈Hp x,pa H0.length o=some o)∧(Hp x).length=H0.length)
 (h0:∃ x,Has E0 (L x)∧H0=Hp x∧P 0 x)
 (hs:∀ i x E,i < N→P i x→Has E (L x)→ke (RH L Hp (P (i+1)) Q) (ga call b ⟨E,Hp x⟩))
 (he:∀ x E,P N x→Has E (L x)→ke (fun r=>r.1.stop=true∧Q r) (ga call b ⟨E,Hp x⟩)):
 ke (fun r=>r.1.stop=true∧Q r) (ga call (.loop live b) ⟨E0,H0⟩):=by
 obtain⟨x0,a1,a2,a3⟩:=h0
 refine Up (fun i t=>∃ x,Has t.env (L x)∧t.H=Hp x∧P i x) N hN (kT L Hp hk (hc 0) ⟨x0,[],a1,by rw[List.append_nil];exact a2,a3⟩) ?_ ?_
 ·rintro i ⟨E,H⟩ hi ⟨x,h1,h2,h3⟩
  simp only at h2;subst h2
  refine Wa (hs i x E hi h3 h1) ?_
  rintro⟨ex,s⟩ hr
  cases ex with
  |norm=>exact kT L Hp hk (hc (i+1)) hr
  |exit=>exact hr
  |ret=>exact hr
  |goto=>exact hr
 ·rintro⟨E,H⟩ ⟨x,h1,h2,h3⟩
  simp only at h2;subst h2
  exact he x E h3 h1
end
end Go.AM.B1
