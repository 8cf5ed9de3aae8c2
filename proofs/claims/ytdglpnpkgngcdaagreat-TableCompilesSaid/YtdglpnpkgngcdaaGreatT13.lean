/- What functions of the program compute. -/
import Derived.Test.YtdglpnpkgngcdaaGreatT12
import Derived.Test.YtdglpnpkgngcdaaGreatT3
set_option linter.unusedVariables false
set_option linter.unusedSimpArgs false
namespace Go.AM.B1
open Go.AM Go.AM.So
end Go.AM.B1
namespace Go.AM.B1
open Go.AM Go.AM.So
end Go.AM.B1
namespace Go.AM.B1
open Go.AM Go.AM.So
theorem qH {ss:List Yb} (h:∀ s∈ss,∀ l∈s.parts,l.length≤1000) (h2:∀ s∈ss,s.parts.length≤1000) (h3:ss.length≤1000):Xa (.lit 2 (ss.map Xd)) ss (ss.map Xd):=by
 refine⟨.inr rfl,by rw[List.length_map],fun k e s he hs=> ?_,by unfold maxLen;omega⟩
 rw[List.getElem?_map,hs] at he
 injection he with he
 have hm:=List.mem_of_getElem? hs
 refine⟨_,_,he.symm,.inr rfl,by rw[List.length_map],fun j v l hv hl=> ?_,by have:=h2 s hm;unfold maxLen;omega⟩
 rw[List.getElem?_map,hl] at hv
 injection hv with hv
 have:=h s hm l (List.mem_of_getElem? hl)
 exact⟨.inr hv.symm,by omega⟩
theorem EJ {ss:List Yb} {l:List (List ve)} {a b c d:Int} (hh:Xa (.lit 2 (ss.map Xd)) ss (ss.map Xd)) (hv:Yf [.agg [.lit 2 (ss.map Xd)]]=some (.bool true)) (hp:ze [.agg [.lit 2 (ss.map Xd)]]=some (.Jc [.agg [.bool true,i64 a,i64 b],i64 0]))
 (hi:Vg [.agg [.lit 2 (ss.map Xd)]]=some (.Jc [.agg [.bool true,i64 c,i64 d],i64 0])) (ha:eh ss=some l):
 wc ss∧∃ T,Gb [.agg [.lit 2 (ss.map Xd)]]=some (.Jc [T,i64 0])∧Lt T ss l∧∀ e∈l,qp e:=by
 obtain⟨x,h1,h2⟩:=gl hh
 rw[hv] at h1
 injection h1 with h1
 injection h1 with h1
 have Aa:=h2.1 h1.symm
 obtain⟨y,a',b',h3,h4⟩:=(TC hh).2 Aa
 rw[hp] at h3
 injection h3 with h3
 injection h3 with h3
 injection h3 with h3 _
 injection h3 with h3
 injection h3 with h3 _
 injection h3 with h3
 have hpre:=h4.1 h3.symm
 obtain⟨T,t1,t2⟩:=eE hh Aa hpre ha hi
 exact⟨Aa,T,t1,t2,tE Aa hpre ha⟩
def Xx:List Yb:=[⟨[[(194,223)],[(128,191)]],128⟩,⟨[[(0,127)]],0⟩]
theorem HJ:Yf [.agg [.lit 2 (Xx.map Xd)]]=some (.bool true):=by kernel_rfl
theorem WH:ze [.agg [.lit 2 (Xx.map Xd)]]=some (.Jc [.agg [.bool true,i64 0,i64 0],i64 0]):=by kernel_rfl
theorem TG:Vg [.agg [.lit 2 (Xx.map Xd)]]=some (.Jc [.agg [.bool true,i64 0,i64 0],i64 0]):=by kernel_rfl
theorem FM:eh Xx=some [[⟨0,127,-1⟩,⟨194,223,1⟩],[⟨128,191,-1⟩]]:=by kernel_rfl
theorem yM:Od Xx=[[0,127,1],[128,2047,0]]:=by kernel_rfl
end Go.AM.B1
namespace Go.AM.B1
open Go.AM
def Gd:Oa:=(.seq (jQ [Cv 19 5,Cv 20 4,jB 21 .lss 19 20] (jX 21 2)) (.seq (.block 3 (jQ [Jf 24 0 1,Jl 25 1 24,Cv 26 4,ji 27 2 25 26,jf 28 0 27,jl 29 1 28,jn 30 0 29,Cv 6 30] (jQ [Cv 31 6,Jf 32 0 1,Jl 33 1 32,Cv 34 5,ji 35 2 33 34,jf 36 0 35,jl 37 1 36,jn 38 0 37,jB 39 .eql 31 38] (jC 39 (jQ [Jf 41 0 1,Jl 42 1 41,Cv 43 4,Ji 44 2 42 43,JL 45 2 44,Jf 46 0 1,Jl 47 1 46,Cv 48 5,Ji 49 2 47 48,JL 50 2 49,Cv 51 6,Co 52 (.kr we 45 50 51),Cv 40 52,jx 53 0 40,jx 54 1 40,Cv 7 53,Cv 8 54] (jQ [Cv 55 8] (jC 55 (jr [jb 2 false,jk 3 0]) .skip))) .skip)))) (.region [Cv 22 5,jK 23 .add 22 1,Cv 5 23])))
def dg:Oa:=(.seq (jQ [Cv 12 4,Jf 13 0 1,Jl 14 1 13,jn 15 0 14,jB 16 .lss 12 15] (jX 16 0)) (.seq (.block 1 (jQ [jk 5 0] (.block 2 (.loop [1,4,5] Gd)))) (.region [Cv 17 4,jK 18 .add 17 1,Cv 4 18])))
def nj:rf:=⟨1,[.tmp 2,.tmp 3],(jQ [jR 1 1 0,jb 2 false,jk 3 0] (.seq (jQ [JL 9 1 1,jp 10 Ud 9,jt 11 10] (jC 11 (jr [jb 2 false,jk 3 84]) .skip)) (.seq (jQ [jk 4 0] (.block 0 (.loop [1,4] dg))) (jr [jb 2 true,jk 3 0]))))⟩
theorem Ur:tc P fo 72 nj:=fM Go.Proofs.Tryz.func72 (dC Rm (dC Wl dN))
def ye:=Wb (fun _=>none) nj
theorem Ss:La P 72 ye:=Ha Sa Ur
def Og:rf:=⟨1,[.cell 2 true 1,.tmp 3],(jQ [jR 1 1 0,Co 2 (.alloc [.ma]),jk 3 0] (jQ [JL 9 1 1,jp 10 Za 9,Cv 8 10,jx 11 0 8,jx 12 1 8,Co 4 (.alloc [.ma]),jS 1 4 11,Cv 5 12] (.seq (jQ [Cv 13 5,jK 14 .eql 13 84,Cv 15 14,jF 16 15 (.km 5),jF 17 15 (.kK .eql 16 110),jo 18 15 17] (jC 18 (jr [Co 19 (.build [.ma] []),Cv 20 5,jS 1 2 19,Cv 3 20]) .skip)) (jQ [JL 22 1 1,jp 23 ye 22,Cv 21 23,jx 24 0 21,jx 25 1 21,Cv 6 24,Cv 7 25] (.seq (jQ [Cv 26 6,jt 27 26] (jC 27 (jr [Co 28 (.build [.ma] []),jS 1 2 28,jk 3 111]) .skip)) (jr [jL 29 1 4,Cv 30 5,jS 1 2 29,Cv 3 30]))))))⟩
theorem Qq:tc P fo 17 Og:=fM Go.Proofs.Tryz.func17 (dC ru (dC Ss dN))
def qd:=Wb (fun _=>none) Og
theorem Vr:La P 17 qd:=Ha Sa Qq
end Go.AM.B1
namespace Go.AM.B1
open Go.AM
end Go.AM.B1
namespace Go.AM.B1
open Go.AM
def sf:Oa:=(.seq (jQ [Cv 14 5,Jf 15 0 1,Jl 16 1 15,jn 17 0 16,jB 18 .lss 14 17] (jX 18 2)) (.seq (.block 3 (jQ [Jf 21 0 1,Jl 22 1 21,Cv 23 5,ji 24 2 22 23,jf 25 1 24,jl 26 1 25,Cv 6 26] (jQ [Cv 27 3,jn 28 0 27,jK 29 .eql 28 0,Cv 30 29,jF 31 30 (.km 6),jF 32 30 (.km 3),jF 33 30 (.km 3),jF 34 30 (.kn 0 33),jF 35 30 (.kK .sub 34 1),jF 36 30 (.ki 3 32 35),jF 37 30 (.kf 0 36),jF 38 30 (.kl 1 37),jF 39 30 (.kB .gtr 31 38),jo 40 30 39,Cv 41 40,jT 42 41 (.km 4),jT 43 41 (.kK .lss 42 0),jT 44 41 (.km 43),jF 45 44 (.km 6),JF 46 44 (.kf 0 1),JF 47 44 (.kl 1 46),jF 48 44 (.km 4),jF 49 44 (.ki 2 47 48),jF 50 44 (.kf 1 49),jF 51 44 (.kl 1 50),jF 52 44 (.kB .lss 45 51),jT 53 41 (.ko 44 52),ja 54 41 53] (jC 54 (.region [Cv 55 5,Cv 4 55]) .skip)))) (.region [Cv 19 5,jK 20 .add 19 1,Cv 5 20])))
def Ng:Oa:=(.seq (jQ [Cv 8 3,jn 9 0 8,Jf 10 0 1,Jl 11 1 10,jn 12 0 11,jB 13 .lss 9 12] (jX 13 0)) (.block 1 (jQ [jk 4 (-1)] (.seq (jQ [jk 5 0] (.block 2 (.loop [1,3,4,5] sf))) (jQ [Jf 56 0 1,Jl 57 1 56,Cv 58 4,ji 59 2 57 58,jL 60 2 59,Co 7 (.alloc [.ma,(.int .i64 0)]),jS 2 7 60] (.region [Cv 61 3,jf 62 1 7,jl 63 1 62,jf 64 1 7,jl 65 1 64,jL 66 2 7,jp 67 Zc 66,jB 68 .add 65 67,jK 69 .sub 68 1,Cv 70 4,Co 71 (.build [(.int .i64 0),(.int .i64 0),(.int .i64 0)] [(0,1,(.t 63)),(1,1,(.t 69)),(2,1,(.t 70))]),Co 72 (.Mb .lit 3 true 1 [(.int .i64 0),(.int .i64 0),(.int .i64 0)] [(0,(.t 71))]),Co 73 (.ku 3 true 24 61 72),Cv 3 73]))))))
def xk:rf:=⟨1,[.tmp 2],(jQ [jR 1 1 0,jc 2 .ma] (jQ [jc 3 .ma] (.ghost (.sJ 3 3) (.seq (.block 0 (.loop [1,3] Ng)) (jr [Cv 74 3,Cv 2 74])))))⟩
theorem eu:tc P fo 74 xk:=fM Go.Proofs.Tryz.func74 (dC bg dN)
def Ag:=Wb (fun _=>none) xk
theorem Fv:La P 74 Ag:=Ha Sa eu
def Of:Oa:=(.seq (jQ [Cv 5 4,Jf 6 0 1,Jl 7 1 6,jn 8 0 7,jB 9 .lss 5 8] (jX 9 0)) (.seq (.block 1 (.region [Cv 12 3,Jf 13 0 1,Jl 14 1 13,Cv 15 4,ji 16 2 14 15,jf 17 0 16,jl 18 1 17,jn 19 0 18,Co 20 (.mx [(.t 12),(.t 19)]),Cv 3 20])) (.region [Cv 10 4,jK 11 .add 10 1,Cv 4 11])))
def Ti:rf:=⟨1,[.tmp 2],(jQ [jR 1 1 0,jk 2 0] (jQ [jk 3 0] (.seq (jQ [jk 4 0] (.block 0 (.loop [1,3,4] Of))) (jr [Cv 21 3,Cv 2 21]))))⟩
theorem Rq:tc P fo 76 Ti:=fM Go.Proofs.Tryz.func76 dN
def Pg:=Wb (fun _=>none) Ti
theorem Wr:La P 76 Pg:=Ha Sa Rq
def vg:Oa:=(jQ [jB 22 .lss 21 20] (.seq (jX 22 0) (.seq (.block 1 (jQ [Cv 23 21,Cv 9 23] (jQ [Cv 24 7,Cv 25 9,Ji 26 3 24 25,JL 27 3 26,Cv 28 8,Cv 29 9,Ji 30 3 28 29,JL 31 3 30,Co 32 (.pP (.row [1,1,1]) true (.t 27) (.t 31))] (jC 32 (jr [jb 6 false]) .skip)))) (.region [jK 33 .add 21 1,Cv 21 33]))))
def Aj:rf:=⟨3,[.tmp 6],(jQ [jR 4 1 1,jR 5 1 2,jb 6 false] (jQ [Cv 10 0,jp 11 Yh 10,JL 12 1 4,jp 13 Ag 12,Cv 7 11,Cv 8 13] (.seq (jQ [Cv 14 7,jn 15 0 14,Cv 16 8,jn 17 0 16,jB 18 .neq 15 17] (jC 18 (jr [jb 6 false]) .skip)) (.seq (jQ [Cv 19 7,jn 20 0 19,jk 21 0] (.block 0 (.loop [0,4,5,7,8,20,21] vg))) (jr [Cv 34 0,jp 35 Ii 34,JL 36 1 4,jq 37 Dg 35 36,Cv 38 37,jT 39 38 (.km 0),jT 40 38 (.kp Xh 39),JT 41 38 (.kL 1 5),jT 42 38 (.kq gf 40 41),ja 43 38 42,Cv 44 43,jT 45 44 (.km 0),jT 46 44 (.kp zg 45),JT 47 44 (.kL 1 4),jT 48 44 (.kp Pg 47),jT 49 44 (.kB .eql 46 48),ja 50 44 49,Cv 6 50])))))⟩
theorem Ns:tc P fo 19 Aj:=fM Go.Proofs.Tryz.func19 (dC sq (dC Fv (dC Rv (dC dn (dC ey (dC nv (dC rn (dC Wr dN))))))))
def yh:=Wb (fun _=>none) Aj
theorem nu:La P 19 yh:=Ha Sa Ns
def Gc:rf:=⟨1,[.tmp 2],(jQ [jR 1 1 0,jb 2 false] (.seq (jQ [Co 8 (.fp th []),jt 9 8] (jC 9 (jr [jb 2 false]) .skip)) (jQ [JL 10 1 1,jp 11 zi 10,Co 3 (.alloc [.ma]),jS 1 3 11] (jQ [jL 13 1 3,jp 14 Gb 13,Cv 12 14,jx 15 0 12,jx 16 1 12,Cv 4 15,Cv 5 16] (jQ [JL 18 1 1,jp 19 qd 18,Cv 17 19,jx 20 0 17,jx 21 1 17,Co 6 (.alloc [.ma]),jS 1 6 20,Cv 7 21] (.seq (jQ [Cv 22 5,Cv 23 7,jB 24 .neq 22 23,Cv 25 24,jF 26 25 (.km 4),jF 27 25 (.kE 1 false 26),jF 28 25 (.km 7),jF 29 25 (.kK .neq 28 0),jF 30 25 (.eq 0 true (.t 27) (.t 29)),jo 31 25 30,Cv 32 31,jF 33 32 (.kL 1 3),JF 34 32 (.kL 1 1),jF 35 32 (.kq Dg 33 34),jF 36 32 (.kt 35),jo 37 32 36] (jC 37 (jr [jb 2 false]) .skip)) (jr [Cv 38 4,Co 39 (.kE 1 false 38),Cv 40 39,jF 41 40 (.km 4),JF 42 40 (.kL 1 1),jF 43 40 (.kL 1 6),jF 44 40 (.kr yh 41 42 43),jo 45 40 44,Cv 2 45])))))))⟩
theorem an:tc P fo 3 Gc:=fM Go.Proofs.Tryz.func3 (dC iu (dC yv (dC cv (dC Vr (dC dn (dC nu dN))))))
def En:=Wb (fun _=>none) Gc
theorem xn:La P 3 En:=Ha Sa an
end Go.AM.B1
