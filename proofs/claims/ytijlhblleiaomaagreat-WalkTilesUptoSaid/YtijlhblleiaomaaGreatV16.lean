/- What functions of the program compute. -/
import Derived.Test.YtijlhblleiaomaaGreatV3
import Derived.Test.YtijlhblleiaomaaGreatV15
import Derived.Test.YtijlhblleiaomaaGreatV14
import Derived.Test.YtijlhblleiaomaaGreatV4
set_option linter.unusedVariables false
namespace Go.AM.B1
open Go.AM
end Go.AM.B1
set_option linter.unusedSimpArgs false
namespace Go.AM.B1
open Go.AM Go.AM.So
end Go.AM.B1
namespace Go.AM.B1
open Go.AM Go.AM.So
theorem WN (w:List Nat):(Zn w).length=w.length:=by simp[Zn]
theorem qK (w:List Nat) (n:Nat):(Zn w).take n=Zn (w.take n):=by simp[Zn,List.map_take]
section
variable {s:Lb} (hk:Dd s) (w:List Nat)
include hk
end
theorem AX {s:Lb} {w:List Nat} (h:Wr s w):w.length≤s.parts.length:=by
 rcases Nat.eq_zero_or_pos w.length with h0 | h0
 ·omega
 ·have:=GK (h (w.length - 1) w[w.length - 1] (List.getElem?_eq_getElem _))
  omega
end Go.AM.B1
namespace Go.AM.B1
open Go.AM Go.AM.So
theorem VE {b:List Int}:∀ {ss:List Lb} {m:Int},(∀ s∈ss,Lf s b=none)→Fo b ss m=m
 | [],_,_=>rfl
 |s::r,m,h=>by
  rw[Fo,h s (by simp)]
  exact VE fun t ht=>h t (by simp[ht])
theorem oH {b:List Int} {v:Int}:∀ {ss:List Lb},ss.Pairwise (fun s t=>¬((Lf s b).isSome∧(Lf t b).isSome))→Lx b ss=some v→Fo b ss (-1)=v
 | [],_,h=>by cases h
 |s::r,hp,h=>by
  obtain⟨h1,h2⟩:=List.pairwise_cons.1 hp
  rw[Lx] at h
  rw[Fo]
  cases hk:Lf s b with
  |some k=>
   rw[hk] at h
   injection h with h
   show (if (-1:Int) < 0∨_ then _ else _)=_
   rw[if_pos (.inl (by omega)),←h]
   exact VE fun t ht=>by
    have:=h1 t ht
    rw[hk] at this
    cases hr:Lf t b with
    |none=>rfl
    |some x=>rw[hr] at this;simp at this
  |none=>
   rw[hk] at h
   exact oH h2 h
structure hZ (ss:List Lb) (w:List Nat) (e:GJ):Prop where
 lo:1≤e.size
 hi:e.size≤w.length
 PZ:e.size≤1∨e.size≤Xe ss
 kind:(e.kind=1∧BB e.u ss=some (Zn (w.take e.size))∧Fo (Zn (w.take e.size)) ss (-1)=e.u∧0≤e.u∧e.size≤Xe ss)∨
  (e.kind=2∧e.u=0∧Fo (Zn (w.take e.size)) ss (-1) < 0∧(e.size≤1∨e.size < Xe ss))∨
  (e.kind=3∧e.u=0∧Fo (Zn (w.take e.size)) ss (-1) < 0∧e.size=w.length∧e.size < Xe ss)
theorem YW {ss:List Lb} {l:List (List ze)} (Ba:Tb ss) (hpre:xg ss) (hinj:Vk ss) (ha:sg ss=some l) {w:List Nat} (hw:Bytes w) (hne:w≠[]):hZ ss w (wC ss l (Zn w)):=by
 obtain⟨m,hm,hc⟩:=nQ Ba hpre ha w hw
 have hbt:∀ n,Bytes (w.take n):=fun n x hx=>hw x (List.mem_of_mem_take hx)
 have hl:0 < w.length:=List.length_pos_iff.2 hne
 have hnone:∀ n,(∀ s∈ss,¬Full s (w.take n))→Fo (Zn (w.take n)) ss (-1) < 0:=fun n h=>by
  have hb:=(Pn (b:=Zn (w.take n)) (m:= -1) Ba.Xo (by omega)).2
  by_cases h1:Fo (Zn (w.take n)) ss (-1) < 0
  ·exact h1
  ·rcases hb.1 (by omega) with h2 | ⟨s,hs,h2⟩
   ·omega
   ·exact absurd ((Xq (Ba.Xo s hs) _).1 h2) (h s hs)
 have hlt:∀ n,n≤w.length→(∀ s∈ss,¬Full s (w.take n))→(∃ s∈ss,Wr s (w.take n))→n < Xe ss:=fun n hn h1 ⟨s,hs,h2⟩=>by
  have h3:=AX h2
  have h4:=oP hs
  have h5:(w.take n).length≠s.parts.length:=fun e=>h1 s hs ⟨h2,e⟩
  rw[List.length_take] at h3 h5
  omega
 have hcast:(w.map fun (n:Nat)=>(n:Int))=Zn w:=rfl
 rw[hcast] at hc
 rcases hc with⟨c1,s,hs,hf⟩ | ⟨c1,c2,c3,c4⟩ | ⟨c1,c2,c3,c4,c5⟩
 ·have hpl:s.parts.length=m:=by rw[← hf.2,List.length_take];omega
  have hlo:=(Ba.Xo s hs).lo
  have hmo:=oP hs
  obtain⟨v,hv,hcd⟩:=uW Ba hinj (hbt m) hs hf
  have he:wC ss l (Zn w)=⟨1,m,v⟩:=by
   unfold wC
   rw[c1,if_pos rfl,Int.toNat_natCast,qK,hv];rfl
  have hds:Fo (Zn (w.take m)) ss (-1)=v:=oH (List.pairwise_iff_getElem.2 fun i j hi hj hij h=>by
   have:=UG Ba hinj (hbt m) hi h.1 j hj h.2
   omega) hv
  have h0:0≤v:=by
   rw[← hds]
   exact (Pn (b:=Zn (w.take m)) (m:= -1) Ba.Xo (by omega)).2.2 (.inr ⟨s,hs,(Xq (Ba.Xo s hs) _).2 hf⟩)
  rw[he]
  exact⟨by dsimp only;omega,hm,.inr (by dsimp only;omega),.inl ⟨rfl,hcd,hds,h0,by dsimp only;omega⟩⟩
 ·have ht:w.take m=w:=by rw[c2,List.take_length]
  have hd:=hnone m (by rw[ht];exact c4)
  have h3:=hlt m hm (by rw[ht];exact c4) (by rw[ht];exact c3.resolve_left hne)
  have he:wC ss l (Zn w)=⟨3,m,0⟩:=by
   unfold wC
   rw[c1,if_neg (by simp),if_pos rfl,Int.toNat_natCast]
  rw[he]
  exact⟨by dsimp only;omega,hm,.inr (by dsimp only;omega),.inr (.inr ⟨rfl,rfl,hd,c2,h3⟩)⟩
 ·have he:wC ss l (Zn w)=⟨2,max m 1,0⟩:=by
   unfold wC
   rw[c1,if_neg (by simp),if_neg (by simp),Int.toNat_natCast]
  rw[he]
  rcases Nat.eq_zero_or_pos m with rfl | hm0
  ·have hd:=hnone 1 fun s hs hf=>c5 s hs hf.1
   exact⟨by simp,by dsimp only;omega,.inl (by simp),.inr (.inl ⟨rfl,rfl,hd,.inl (by simp)⟩)⟩
  ·have hmx:max m 1=m:=by omega
   have hd:=hnone m c4
   have h3:=hlt m hm c4 (c3.resolve_left fun h=>by
    have:=congrArg List.length h
    rw[List.length_take] at this
    replace this:min m w.length=0:=this
    omega)
   rw[hmx]
   exact⟨hm0,hm,.inr (by dsimp only;omega),.inr (.inl ⟨rfl,rfl,hd,.inr h3⟩)⟩
end Go.AM.B1
namespace Go.AM.B1
open Go.AM
def Sb:Pa:=(jQ [jB 38 .lss 37 36] (.seq (jX 38 0) (.seq (.block 1 (jQ [ji 39 5 35 37,jL 40 5 39,Co 11 (.alloc [(.int .i64 0),(.int .i64 0),(.int .i64 0),(.int .i64 0),(.int .i64 0)]),jS 5 11 40] (.seq (jQ [jf 41 1 11,jl 42 1 41,Cv 43 9,jB 44 .neq 42 43,Cv 45 44,jF 46 45 (.kf 2 11),jF 47 45 (.kl 1 46),jF 48 45 (.kK .lss 47 1),jo 49 45 48,Cv 50 49,jF 51 50 (.kf 2 11),jF 52 50 (.kl 1 51),jF 53 50 (.km 1),JF 54 50 (.kn 0 53),jF 55 50 (.km 9),jF 56 50 (.kB .sub 54 55),jF 57 50 (.kB .gtr 52 56),jo 58 50 57,Cv 59 58,jF 60 59 (.kf 2 11),jF 61 59 (.kl 1 60),jF 62 59 (.km 7),jF 63 59 (.kp vf 62),jF 64 59 (.kB .gtr 61 63),jF 65 59 (.km 64),jT 66 65 (.kf 2 11),jT 67 65 (.kl 1 66),jT 68 65 (.kK .gtr 67 1),jF 69 59 (.ka 65 68),jo 70 59 69,Cv 71 70,jF 72 71 (.kf 4 11),jF 73 71 (.kl 1 72),jF 74 71 (.kK .neq 73 0),jo 75 71 74] (jC 75 (jr [jb 6 false]) .skip)) (jQ [JL 77 1 3,jf 78 3 11,jl 79 1 78,jq 80 Tf 77 79,Cv 76 80,jx 81 0 76,jx 82 1 76,Cv 12 81,Cv 13 82] (jQ [JL 84 1 3,Cv 85 1,Cv 86 9,Cv 87 9,jf 88 2 11,jl 89 1 88,jB 90 .add 87 89,Cp 91 (.slice 1 (.t 85) (some (.t 86)) (some (.t 90))),jq 92 Qi 84 91,Cv 83 92,jx 93 0 83,jx 94 1 83,Cv 14 93,Cv 15 94] (jQ [Cv 95 9,jf 96 2 11,jl 97 1 96,jB 98 .add 95 97,Cv 9 98] (jQ [jf 99 0 11,jl 100 1 99] (.block 2 (jQ [jK 102 .eql 100 1,Cv 101 102] (jC 101 (jQ [Cv 103 13,jK 104 .neq 103 0,Cv 105 104,jF 106 105 (.km 12),JF 107 105 (.PX (.t 106)),jF 108 105 (.km 1),jF 109 105 (.kf 1 11),jF 110 105 (.kl 1 109),jF 111 105 (.km 9),JF 112 105 (.slice 1 (.t 108) (some (.t 110)) (some (.t 111))),JF 113 105 (.PX (.t 112)),jF 114 105 (.kB .neq 107 113),jo 115 105 114,Cv 116 115,jF 117 116 (.km 15),jF 118 116 (.kK .neq 117 0),jo 119 116 118,Cv 120 119,jF 121 120 (.km 14),jF 122 120 (.kf 3 11),jF 123 120 (.kl 1 122),jF 124 120 (.kB .neq 121 123),jo 125 120 124] (jC 125 (jr [jb 6 false]) .skip)) (jQ [jK 127 .eql 100 2,Cv 126 127] (jC 126 (jQ [jf 128 3 11,jl 129 1 128,jK 130 .neq 129 0,Cv 131 130,jF 132 131 (.km 15),jF 133 131 (.kK .eql 132 0),jo 134 131 133,Cv 135 134,jF 136 135 (.kf 2 11),jF 137 135 (.kl 1 136),jF 138 135 (.kK .gtr 137 1),jF 139 135 (.km 138),jT 140 139 (.kf 2 11),jT 141 139 (.kl 1 140),jT 142 139 (.km 7),jT 143 139 (.kp vf 142),jT 144 139 (.kB .geq 141 143),jF 145 135 (.ka 139 144),jo 146 135 145] (jC 146 (jr [jb 6 false]) .skip)) (jQ [jK 148 .eql 100 3,Cv 147 148] (jC 147 (jQ [jf 149 3 11,jl 150 1 149,jK 151 .neq 150 0,Cv 152 151,jF 153 152 (.km 15),jF 154 152 (.kK .eql 153 0),jo 155 152 154,Cv 156 155,jF 157 156 (.km 9),jF 158 156 (.km 1),JF 159 156 (.kn 0 158),jF 160 156 (.kB .neq 157 159),jo 161 156 160,Cv 162 161,jF 163 162 (.kf 2 11),jF 164 162 (.kl 1 163),jF 165 162 (.km 7),jF 166 162 (.kp vf 165),jF 167 162 (.kB .geq 164 166),jo 168 162 167] (jC 168 (jr [jb 6 false]) .skip)) (jr [jb 6 false]))))))))))))))) (.region [jK 169 .add 37 1,Cv 37 169]))))
def He:gf:=⟨3,[.tmp 6],(jQ [jR 3 1 0,jb 6 false] (.seq (jQ [Co 16 (.Bn vh []),jt 17 16] (jC 17 (jr [jb 6 false]) .skip)) (jQ [JL 19 1 3,jp 20 wg 19,Cv 18 20,jx 21 0 18,jx 22 1 18,Cv 7 21,Cv 8 22] (.seq (jQ [Cv 23 7,Co 24 (.kE 1 false 23)] (jC 24 (jr [Cv 25 8,Cv 6 25]) .skip)) (jQ [Cv 26 2,Co 27 (.mx [(.t 26),(.c (.int .i64 0))]),Cv 28 1,jn 29 0 28,Co 30 (.mn [(.t 27),(.t 29)]),Cv 2 30] (jQ [Cv 31 2,Cv 9 31] (.seq (jQ [Cv 32 7,Cv 33 1,Cv 34 2,Co 35 (.kr Mc 32 33 34),jn 36 0 35,jk 37 0] (.block 0 (.loop [1,3,7,9,35,36,37] Sb))) (jr [Cv 170 9,Cv 171 1,jn 172 0 171,jB 173 .eql 170 172,Cv 6 173]))))))))⟩
theorem Vp:wc P fo 7 He:=fM Go.Proofs.Tryz.func7 (dC mu (dC Iv (dC jm (dC Yj (dC EF (dC mG (dC Yj (dC Yj dN))))))))
def Wf:=Ub (fun _=>none) He
theorem Lq:Na P 7 Wf:=Ja Va Vp
end Go.AM.B1
namespace Go.AM.B1
open Go.AM Go.AM.So
section
variable {call:Wa} {A2:List ba} {c:Nat}
end
end Go.AM.B1
namespace Go.AM.B1
open Go.AM Go.AM.So
end Go.AM.B1
namespace Go.AM.B1
open Go.AM Go.AM.So
end Go.AM.B1
