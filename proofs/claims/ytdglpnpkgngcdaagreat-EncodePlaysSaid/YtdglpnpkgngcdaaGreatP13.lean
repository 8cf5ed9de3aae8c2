/- What functions of the program compute. -/
import Derived.Test.YtdglpnpkgngcdaaGreatP12
import Derived.Test.YtdglpnpkgngcdaaGreatP9
import Derived.Test.YtdglpnpkgngcdaaGreatP1
import Derived.Test.YtdglpnpkgngcdaaGreatP3
import Derived.Test.YtdglpnpkgngcdaaGreatP7
import Derived.Test.YtdglpnpkgngcdaaGreatP10
import Derived.Test.YtdglpnpkgngcdaaGreatP6
import Derived.Test.YtdglpnpkgngcdaaGreatP11
set_option linter.unusedVariables false
set_option linter.unusedSimpArgs false
namespace Go.AM.B1
open Go.AM Go.AM.So
def YH (a b:Int):Int:=if a < b then -1 else if a > b then 1 else 0
theorem aK (a b:Int):lh [i64 a,i64 b]=some (i64 (YH a b)):=by
 have hn:∀ x:Int,Ij [i64 x]=some (.bool false):=fun x=>by
  have z:(x != x)=false:=by simp
  simp -implicitDefEqProofs only[Ij,SX,sevalprocAttr,Jo,z]
 unfold YH
 by_cases h1:a < b
 ·have d1:decide (a < b)=true:=Fa h1
  rw[if_pos h1]
  simp -implicitDefEqProofs only[lh,SX,sevalprocAttr,Fi,hn,d1]
 ·have d1:decide (a < b)=false:=Ha h1
  rw[if_neg h1]
  by_cases h2:a > b
  ·have d2:decide (a > b)=true:=Fa h2
   rw[if_pos h2]
   simp -implicitDefEqProofs only[lh,SX,sevalprocAttr,Fi,hn,d1,d2]
  ·have d2:decide (a > b)=false:=Ha h2
   rw[if_neg h2]
   simp -implicitDefEqProofs only[lh,SX,sevalprocAttr,Fi,hn,d1,d2]
theorem EJ (call:Ta) (a b c u:Int) (H:List ba):xe call xh [.pv (.agg [i64 a,i64 b,i64 c]),.pv (i64 u)] H=some (.pv (i64 (YH a u)),H):=by
 have hc:=aK a u
 have l0:∀ H,ta H false 1 (.pv (.rp [i64 a,i64 b,i64 c] 0))=some (.pv (i64 a)):=fun H=>rfl
 have l1:∀ H,place H 0 (.pv (.rp [i64 a,i64 b,i64 c] 0))=some (.pv (.rp [i64 a,i64 b,i64 c] 0)):=fun H=>rfl
 simp -implicitDefEqProofs only[SX,sevalprocAttr,xh,l0,l1,hc]
def r0 (r:List Int):Int:=r.getD 0 0
def r1 (r:List Int):Int:=r.getD 1 0
def r2 (r:List Int):Int:=r.getD 2 0
theorem GY {r:List Int} (h:r.length=3):r=[r0 r,r1 r,r2 r]:=by
 match r,h with
 | [a,b,c],_=>rfl
section
variable {RW:PV} {D:List (List Int)} (hR:Vh 3 RW (D.map yI)) (hD:∀ r∈D,r.length=3)
include hR hD
theorem rz {i:Nat} (hi:i < D.length) (H:List ba):wa H 3 (.pv RW) (i:Int)=some (.pv (.rp [i64 (r0 D[i]),i64 (r1 D[i]),i64 (r2 D[i])] 0)):=by
 rw[hR.lit (i:=i) (by simpa using hi)]
 simp only[wa]
 have h3:=GY (hD _ (List.getElem_mem hi))
 rw[if_pos ⟨trivial,by unfold Ga;rw[List.length_map];omega⟩,Int.toNat_natCast,List.getElem?_map,List.getElem?_eq_getElem hi,Option.map_some,Option.map_some]
 congr 4
 show (yI D[i]).cells=_
 unfold yI
 generalize D[i]=r at *
 match r,h3 with
 |r,h3=>rw[h3];rfl
variable (hs:∀ i j (h:i < j) (hj:j < D.length),r0 D[i]≤r0 D[j]) (hlen:D.length≤32)
include hs hlen
theorem wX {H:List ba} (hH:He H) (u:Int):∃ i:Nat,i≤D.length∧(∀ k (hk:k < D.length),k < i→r0 D[k] < u)∧(∀ k (hk:k < D.length),i≤k→u≤r0 D[k])∧
 xe (Ca ud 7) Ra [.pv RW,.pv (i64 u),.Sk 41 []] H=some (.pv (.ic [i64 i,.bool (if h:i < D.length then decide (r0 D[i]=u) else false)]),H):=by
 have lR:=hR.len
 rw[List.length_map] at lR
 have c41:ud 41=some xh:=rfl
 have r3:∀ H (x y z:PV),ta H true 3 (.pv (.rp [x,y,z] 0))=some (.pv (.agg [x,y,z])):=fun H x y z=>rfl
 have hcl:∀ n,AV.cut n deep (.Sk 41 [])=some (.Sk 41 []):=fun n=>rfl
 have hloop:=fun (E:Tr) (h0:E.get 0= .pv RW) (h1:E.get 1= .pv (i64 u)) (h2:E.get 2= .Sk 41 []) (h8:E.get 8= .pv (i64 D.length)) (h9:E.get 9= .pv (i64 0)) (h10:E.get 10= .pv (i64 D.length))=>
  RP (call:=Ca ud 7) (b:=xb) (live:=[0,1,2,8,9,10]) (s:=⟨E,H⟩)
   (Q:=fun r=>∃ E' i,r=(.exit 0,⟨E',H⟩)∧ee [0,1,2,8] E E'∧E'.get 9= .pv (i64 (i:Nat))∧i≤D.length∧(∀ k (hk:k < D.length),k < i→r0 D[k] < u)∧(∀ k (hk:k < D.length),i≤k→u≤r0 D[k]))
   (fun m t=>ee [0,1,2,8] E t.env∧t.H=H∧∃ i j:Nat,t.env.get 9= .pv (i64 i)∧t.env.get 10= .pv (i64 j)∧i≤j∧j≤D.length∧m=j - i∧(∀ k (hk:k < D.length),k < i→r0 D[k] < u)∧(∀ k (hk:k < D.length),j≤k→u≤r0 D[k]))
   D.length (by unfold pa;omega)
   (ah.all rfl (hH _ (Nat.le_refl _)) (Fit.cons h0 Qa (.cons h1 Qa (.cons h2 (hcl _) (.cons h8 Qa (.cons h9 Qa (.cons h10 Qa (.nil _ _))))))) fun E' hE=>⟨ee.sub hE rfl,rfl,0,D.length,by rw[hE 9 (by simp),h9];rfl,by rw[hE 10 (by simp),h10],by omega,by omega,by omega,fun k _ h=>by omega,fun k hk h=>by omega⟩)
   (by
    rintro m ⟨E1,H1⟩ ⟨k1,k2,i,j,k9,k10,hij,hj,hm,ha,hb⟩
    simp only at k1 k2 k9 k10
    replace k2:=k2.symm
    subst k2
    by_cases hlt:i < j
    ·have e1:decide ((i:Int) < (j:Int))=true:=Fa (by omega)
     have g0:=(k1 0 (by simp)).trans h0
     have g1:=(k1 1 (by simp)).trans h1
     have g2:=(k1 2 (by simp)).trans h2
     obtain⟨h,hh⟩:∃ h,h=(i+j) / 2:=⟨_,rfl⟩
     have hhD:h < D.length:=by omega
     have a1:=rz hR hD hhD
     have hc:=EJ (Ca ud 6) (r0 D[h]) (r1 D[h]) (r2 D[h]) u H
     have w1:IntKind.i64.wrap ((i:Int)+(j:Int))=(i:Int)+j:=Aa (by omega)
     have w2:IntKind.u64.wrap ((i:Int)+(j:Int))=(i:Int)+j:=by
      unfold IntKind.wrap;simp[IntKind.signed,IntKind.bits];omega
     have w3:((i:Int)+(j:Int)).fdiv (2 ^ min 1 IntKind.u64.bits)=(h:Int):=by
      show ((i:Int)+(j:Int)).fdiv 2=_
      rw[Int.fdiv_eq_ediv_of_nonneg _ (by omega)];omega
     have w4:IntKind.i64.wrap (h:Int)=(h:Int):=Aa (by omega)
     have w5:IntKind.i64.wrap ((h:Int)+1)=((h+1:Nat):Int):=fj (by omega)
     have z0:((1:Int) < 0)=False:=by simp
     generalize hQ:RQ _ _ _ _=Q
     by_cases hcu:r0 D[h] < u
     ·have hcm:YH (r0 D[h]) u= -1:=by unfold YH;rw[if_pos hcu]
      have z1:decide ((-1:Int) < 0)=true:=rfl
      rw[hcm] at hc
      simp -implicitDefEqProofs only[SX,sevalprocAttr,xb,k9,k10,e1,g0,g1,g2,a1,r3,w1,w2,w3,w4,w5,z0,c41,hc,z1]
      subst hQ
      rw[ml]
      generalize hEE:(Tr.set _ 9 _:Tr)=E2
      have kk:ee [0,1,2,8] E E2:=by
       rw[← hEE]
       repeat refine ee.set ?_ rfl
       exact k1
      have z9:E2.get 9= .pv (i64 (h+1:Nat)):=by rw[← hEE];simp[Tr.aa]
      have z10:E2.get 10= .pv (i64 j):=by rw[← hEE];simp[Tr.aa,k10]
      exact ah.all rfl (hH _ (Nat.le_refl _)) (Fit.sub (.cons z9 Qa (.cons z10 Qa (Fit.ue (l:=[0,1,2,8]) (.cons h0 Qa (.cons h1 Qa (.cons h2 (hcl _) (.cons h8 Qa (.nil _ _))))) kk))) rfl) fun E' hE=>⟨j - (h+1),by omega,kk.trans (ee.sub hE rfl),rfl,h+1,j,by rw[hE 9 (by simp),z9],by rw[hE 10 (by simp),z10],by omega,hj,rfl,fun k hk hkh=>by
       rcases Nat.lt_or_ge k h with h5 | h5
       ·exact Int.lt_of_le_of_lt (hs k h h5 hhD) hcu
       ·obtain rfl:k=h:=by omega
        exact hcu,hb⟩
     ·have z1:decide (YH (r0 D[h]) u < 0)=false:=Ha (by unfold YH;rw[if_neg hcu];split <;> omega)
      simp -implicitDefEqProofs only[SX,sevalprocAttr,xb,k9,k10,e1,g0,g1,g2,a1,r3,w1,w2,w3,w4,w5,z0,c41,hc,z1]
      subst hQ
      rw[ml]
      generalize hEE:(Tr.set _ 10 _:Tr)=E2
      have kk:ee [0,1,2,8] E E2:=by
       rw[← hEE]
       repeat refine ee.set ?_ rfl
       exact k1
      have z9:E2.get 9= .pv (i64 i):=by rw[← hEE];simp[Tr.aa,k9]
      have z10:E2.get 10= .pv (i64 h):=by rw[← hEE];simp[Tr.aa]
      exact ah.all rfl (hH _ (Nat.le_refl _)) (Fit.sub (.cons z9 Qa (.cons z10 Qa (Fit.ue (l:=[0,1,2,8]) (.cons h0 Qa (.cons h1 Qa (.cons h2 (hcl _) (.cons h8 Qa (.nil _ _))))) kk))) rfl) fun E' hE=>⟨h - i,by omega,kk.trans (ee.sub hE rfl),rfl,i,h,by rw[hE 9 (by simp),z9],by rw[hE 10 (by simp),z10],by omega,by omega,rfl,ha,fun k hk hkh=>by
       rcases Nat.lt_or_ge h k with h5 | h5
       ·exact Int.le_trans (Int.not_lt.1 hcu) (hs h k h5 hk)
       ·obtain rfl:k=h:=by omega
        omega⟩
    ·obtain rfl:i=j:=by omega
     have e1:decide ((i:Int) < (i:Int))=false:=Ha (by omega)
     generalize hQ:RQ _ _ _ _=Q
     simp -implicitDefEqProofs only[SX,sevalprocAttr,xb,k9,k10,e1]
     subst hQ
     exact⟨_,i,rfl,by repeat refine ee.set ?_ rfl
                      exact k1,by simp[Tr.aa,k9],hj,ha,hb⟩)
 have key:Pd (fun r=>∃ i:Nat,i≤D.length∧(∀ k (hk:k < D.length),k < i→r0 D[k] < u)∧(∀ k (hk:k < D.length),i≤k→u≤r0 D[k])∧r=(.pv (.ic [i64 i,.bool (if h:i < D.length then decide (r0 D[i]=u) else false)]),H)) (xe (Ca ud 7) Ra [.pv RW,.pv (i64 u),.Sk 41 []] H):=by
  generalize hQ:(fun r:AV×List ba=>∃ i:Nat,_)=Q
  simp -implicitDefEqProofs only[SX,sevalprocAttr,Ra,lR]
  generalize hEE:(Tr.set _ 10 _:Tr)=E
  refine ya (hloop E (by rw[← hEE];simp[Tr.aa]) (by rw[← hEE];simp[Tr.aa]) (by rw[← hEE];simp[Tr.aa]) (by rw[← hEE];simp[Tr.aa]) (by rw[← hEE];simp[Tr.aa]) (by rw[← hEE];simp[Tr.aa])) ?_
  have h0:E.get 0= .pv RW:=by rw[← hEE];simp[Tr.aa]
  have h1:E.get 1= .pv (i64 u):=by rw[← hEE];simp[Tr.aa]
  have h2:E.get 2= .Sk 41 []:=by rw[← hEE];simp[Tr.aa]
  have h8:E.get 8= .pv (i64 D.length):=by rw[← hEE];simp[Tr.aa]
  rintro r ⟨_,E',i,rfl,k1,k9,hi,ha,hb⟩
  have g0:=(k1 0 (by simp)).trans h0
  have g1:=(k1 1 (by simp)).trans h1
  have g2:=(k1 2 (by simp)).trans h2
  have g8:=(k1 8 (by simp)).trans h8
  by_cases hlt:i < D.length
  ·have e1:decide ((i:Int) < (D.length:Int))=true:=Fa (by omega)
   have a1:=rz hR hD hlt
   have hc:=EJ (Ca ud 6) (r0 D[i]) (r1 D[i]) (r2 D[i]) u H
   have hge:=hb i hlt (Nat.le_refl _)
   have z:(YH (r0 D[i]) u==0)=decide (r0 D[i]=u):=by
    unfold YH
    rw[if_neg (by omega)]
    by_cases h5:r0 D[i] > u
    ·rw[if_pos h5,Ha (by omega)];rfl
    ·rw[if_neg h5,Fa (by omega)];rfl
   simp -implicitDefEqProofs only[SX,sevalprocAttr,k9,g0,g1,g2,g8,e1,a1,r3,c41,hc,z]
   subst hQ
   exact⟨i,hi,ha,hb,by rw[dif_pos hlt]⟩
  ·have e1:decide ((i:Int) < (D.length:Int))=false:=Ha (by omega)
   simp -implicitDefEqProofs only[SX,sevalprocAttr,k9,g0,g1,g2,g8,e1]
   subst hQ
   exact⟨i,hi,ha,hb,by rw[dif_neg hlt]⟩
 obtain⟨r,h1,i,h2,h3,h4,rfl⟩:=pc key
 exact⟨i,h2,h3,h4,h1⟩
end
theorem NP {ss:List qc} {r:List Int} (h:r∈ij ss):∃ j,∃ hj:j < ss.length,r=Ev ss[j] j:=by
 have:=(Dq ss).mem_iff.1 h
 unfold Si at this
 obtain⟨j,hj,rfl⟩:=List.mem_map.1 this
 have hj:=List.mem_range.1 hj
 exact⟨j,hj,by rw[List.getD_eq_getElem?_getD,List.getElem?_eq_getElem hj];rfl⟩
theorem nR {ss:List qc} {j:Nat} (hj:j < ss.length):Ev ss[j] j∈ij ss:=by
 refine (Dq ss).mem_iff.2 ?_
 unfold Si
 refine List.mem_map.2 ⟨j,List.mem_range.2 hj,?_⟩
 rw[List.getD_eq_getElem?_getD,List.getElem?_eq_getElem hj];rfl
theorem jI (ss:List qc) (i j:Nat) (h:i < j) (hj:j < (ij ss).length):r0 (ij ss)[i]≤r0 (ij ss)[j]:=by
 obtain⟨h1,h2,h3⟩:=Mz 3 0 (Si ss ss.length).toArray
 have hj':j < (Si ss ss.length).toArray.size:=by rw[← h1];simpa[ij] using hj
 have h4:=h3 i j h hj'
 have key:∀ k (hk:k < (ij ss).length),Uv 3 0 (Eo 3 0 (Si ss ss.length).toArray)[k]! =r0 (ij ss)[k]:=by
  intro k hk
  have hk':k < (Eo 3 0 (Si ss ss.length).toArray).size:=by simpa[ij] using hk
  rw[getElem!_pos _ k hk']
  have e:(Eo 3 0 (Si ss ss.length).toArray)[k]=(ij ss)[k]:=by simp[ij]
  have h3:=zA (List.getElem_mem hk)
  rw[e]
  generalize (ij ss)[k]=r at *
  unfold Uv r0
  rw[if_pos h3]
 rw[key i (by omega),key j hj] at h4
 omega
theorem ZK (ss:List qc):(ij ss).Nodup:=by
 refine (Dq ss).nodup_iff.2 ?_
 unfold Si List.Nodup
 rw[List.pairwise_map]
 refine List.Pairwise.imp ?_ (List.nodup_range (n:=ss.length))
 intro i j h e
 unfold Ev at e
 injection e with _ e
 injection e with _ e
 injection e with e _
 omega
def has (s:qc) (u:Int):Prop:=s.first≤u∧u < s.first+La s.parts
theorem xH {ss:List qc} (Ba:Fc ss) {i j:Nat} (hi:i < ss.length) (hj:j < ss.length) {u:Int} (h1:has ss[i] u) (h2:has ss[j] u):i=j:=by
 have hap:=Ba.apart
 rw[List.pairwise_iff_getElem] at hap
 have e1:=(Ba.gu _ (List.getElem_mem hi)).ai
 have e2:=(Ba.gu _ (List.getElem_mem hj)).ai
 unfold has at h1 h2
 rcases Nat.lt_trichotomy i j with h | h | h
 ·exact absurd (hap i j hi hj h u) (fun hn=>hn ⟨by omega,by omega⟩)
 ·exact h
 ·exact absurd (hap j i hj hi h u) (fun hn=>hn ⟨by omega,by omega⟩)
section
variable {T:PV} {ss:List qc} {l:List (List Af)} (hT:uv T ss l) (Ba:Fc ss)
include hT Ba
theorem eU (u:Int):(∃ j,∃ hj:j < ss.length,has ss[j] u∧Td [T,i64 u]=some (.ic [.agg [i64 ss[j].first,i64 (ss[j].first+La ss[j].parts - 1),i64 j],.bool true]))∨
 ((∀ s∈ss,¬has s u)∧Td [T,i64 u]=some (.ic [.agg [i64 0,i64 0,i64 0],.bool false])):=by
 obtain⟨S',NX,DG,RW,rfl,_,_,_,hRW⟩:=hT.ex
 have hrp:=VI (a:=S') (b:=El l) (c:=NX) (d:=DG) (e:=RW) (f:=i64 (Hj ss))
 have l4:=fun H=>(hrp H).2.2.1
 generalize ([S',El l,NX,DG,RW,i64 (Hj ss)]:List PV)=R at *
 obtain⟨D,hRW,hDr,hDm,hDh,hDl,hDs,hnd⟩:∃ D:List (List Int),Vh 3 RW (D.map yI)∧(∀ r∈D,r.length=3)∧(∀ r∈D,∃ j,∃ hj:j < ss.length,r=Ev ss[j] j)∧(∀ j (hj:j < ss.length),Ev ss[j] j∈D)∧D.length=ss.length∧(∀ i j (h:i < j) (hj:j < D.length),r0 D[i]≤r0 D[j])∧D.Nodup:=
  ⟨ij ss,hRW,fun r hr=>zA hr,fun r hr=>NP hr,fun j hj=>nR hj,cH ss,jI ss,ZK ss⟩
 have h32:=Ba.len
 have hg:He [ba.box [.pv (i64 0),.pv (i64 0),.pv (i64 0)]]:=fun n _ o ho=>by
  rw[List.mem_singleton] at ho;subst ho;exact Xh n [i64 0,i64 0,i64 0]
 obtain⟨i,hi,ha,hb,hrun⟩:=wX hRW hDr hDs (by omega) hg u
 have c40:ud 40=some Ra:=rfl
 have b0:∀ a b c d e f,Ea [ba.box [.pv a,.pv b,.pv c]] 3 (.ptr 0 0) (.pv (.agg [.int .i64 d,.int .i64 e,.int .i64 f]))=some [.box [.pv (i64 d),.pv (i64 e),.pv (i64 f)]]:=fun a b c d e f=>rfl
 have ld:∀ a b c,ta [ba.box [.pv a,.pv b,.pv c]] true 3 (.ptr 0 0)=some (.pv (.agg [a,b,c])):=fun a b c=>rfl
 have r3:∀ H (x y z:PV),ta H true 3 (.pv (.rp [x,y,z] 0))=some (.pv (.agg [x,y,z])):=fun H x y z=>rfl
 have r31:∀ H (x y z:PV),ta H false 1 (.pv (.rp [x,y,z] 1))=some (.pv y):=fun H x y z=>rfl
 have fin:∀ k (hk:k < D.length),(∀ m (hm:m < D.length),k < m→u < r0 D[m])→r0 D[k]≤u→
  ((u≤r1 D[k]→∃ j,∃ hj:j < ss.length,has ss[j] u∧PV.agg [i64 (r0 D[k]),i64 (r1 D[k]),i64 (r2 D[k])]= .agg [i64 ss[j].first,i64 (ss[j].first+La ss[j].parts - 1),i64 j])∧(¬ u≤r1 D[k]→∀ s∈ss,¬has s u)):=by
  intro k hk hgt hle
  obtain⟨j',hj',hr'⟩:=hDm _ (List.getElem_mem hk)
  constructor
  ·intro h1
   rw[hr'] at h1 hle ⊢
   refine⟨j',hj',⟨hle,?_⟩,rfl⟩
   have:u≤ss[j'].first+La ss[j'].parts - 1:=h1
   omega
  ·intro h1 s hs hh
   obtain⟨j,hj,rfl⟩:=List.getElem_of_mem hs
   obtain⟨m,hm,hmr⟩:=List.getElem_of_mem (hDh j hj)
   have hh':=hh
   unfold has at hh'
   have hp:=Vf (Ba.gu _ (List.getElem_mem hj')).parts
   rcases Nat.lt_or_ge k m with h | h
   ·have:=hgt m hm h
    rw[hmr] at this
    have:u < ss[j].first:=this
    omega
   ·have h3:r0 D[m]≤r0 D[k]:=by
     rcases Nat.lt_or_ge m k with h5 | h5
     ·exact hDs m k h5 hk
     ·have:m=k:=by omega
      subst this;exact Int.le_refl _
    rw[hmr] at h3
    rw[hr'] at h3 hle h1
    have h3:ss[j].first≤ss[j'].first:=h3
    have hle:ss[j'].first≤u:=hle
    have e:j=j':=xH Ba hj hj' (u:=ss[j'].first) ⟨h3,by omega⟩ ⟨Int.le_refl _,by omega⟩
    subst e
    have:¬u≤ss[j].first+La ss[j].parts - 1:=h1
    omega
 have step:∀ (k:Nat) (hk:k < D.length),(∀ q (hq:q < D.length),k < q→u < r0 D[q])→r0 D[k]≤u→∀ R0:PV,
  (u≤r1 D[k]→R0= .ic [.agg [i64 (r0 D[k]),i64 (r1 D[k]),i64 (r2 D[k])],.bool true])→(¬ u≤r1 D[k]→R0= .ic [.agg [i64 0,i64 0,i64 0],.bool false])→
  (∃ j,∃ hj:j < ss.length,has ss[j] u∧R0= .ic [.agg [i64 ss[j].first,i64 (ss[j].first+La ss[j].parts - 1),i64 j],.bool true])∨((∀ s∈ss,¬has s u)∧R0= .ic [.agg [i64 0,i64 0,i64 0],.bool false]):=by
  intro k hk h1 h2 R0 h3 h4
  obtain⟨f1,f2⟩:=fin k hk h1 h2
  by_cases hc:u≤r1 D[k]
  ·obtain⟨j,hj,g1,g2⟩:=f1 hc
   exact .inl ⟨j,hj,g1,by rw[h3 hc,g2]⟩
  ·exact .inr ⟨f2 hc,h4 hc⟩
 suffices key:∃ R0,Td [.rp R 0,i64 u]=some R0∧((∃ j,∃ hj:j < ss.length,has ss[j] u∧R0= .ic [.agg [i64 ss[j].first,i64 (ss[j].first+La ss[j].parts - 1),i64 j],.bool true])∨((∀ s∈ss,¬has s u)∧R0= .ic [.agg [i64 0,i64 0,i64 0],.bool false])) by
  obtain⟨R0,k1,⟨j,hj,k2,rfl⟩ | ⟨k2,rfl⟩⟩:=key
  ·exact .inl ⟨j,hj,k2,k1⟩
  ·exact .inr ⟨k2,k1⟩
 by_cases his:∃ h:i < D.length,r0 D[i]=u
 ·obtain⟨h,he⟩:=his
  rw[dif_pos h,Fa he] at hrun
  have hgt:∀ q (hq:q < D.length),i < q→u < r0 D[q]:=by
   intro q hq hiq
   have h3:=hDs i q hiq hq
   rcases Int.lt_or_le u (r0 D[q]) with h5 | h5
   ·exact h5
   ·exfalso
    obtain⟨j,hj,hr⟩:=hDm _ (List.getElem_mem h)
    obtain⟨j',hj',hr'⟩:=hDm _ (List.getElem_mem hq)
    have hp:=Vf (Ba.gu _ (List.getElem_mem hj)).parts
    have hp':=Vf (Ba.gu _ (List.getElem_mem hj')).parts
    have e1:ss[j].first=u:=by rw[hr] at he;exact he
    have e2:ss[j'].first≤u:=by rw[hr'] at h5;exact h5
    have e3:u≤ss[j'].first:=by rw[hr',he] at h3;exact h3
    have:j=j':=xH Ba hj hj' (u:=u) ⟨by omega,by omega⟩ ⟨by omega,by omega⟩
    subst this
    have:=(List.getElem_inj hnd).1 (hr.trans hr'.symm)
    omega
  have a1:=rz hRW hDr h
  have z1:decide ((i:Int) < 0)=false:=Ha (by omega)
  refine⟨_,?_,step i h hgt (by omega) (if u≤r1 D[i] then .ic [.agg [i64 (r0 D[i]),i64 (r1 D[i]),i64 (r2 D[i])],.bool true] else .ic [.agg [i64 0,i64 0,i64 0],.bool false]) (fun h=>by rw[if_pos h]) (fun h=>by rw[if_neg h])⟩
  by_cases hc:u≤r1 D[i]
  ·have z2:decide (u > r1 D[i])=false:=Ha (by omega)
   rw[if_pos hc]
   simp -implicitDefEqProofs only[Td,SX,sevalprocAttr,jg,Jr,UW,l4,c40,hrun,z1,a1,z2,r31,r3,b0,ld]
  ·have z2:decide (u > r1 D[i])=true:=Fa (by omega)
   rw[if_neg hc]
   simp -implicitDefEqProofs only[Td,SX,sevalprocAttr,jg,Jr,UW,l4,c40,hrun,z1,a1,z2,r31,r3,b0,ld]
 ·have hf:(if h:i < D.length then decide (r0 D[i]=u) else false)=false:=by
   by_cases h:i < D.length
   ·rw[dif_pos h];exact Ha fun e=>his ⟨h,e⟩
   ·rw[dif_neg h]
  rw[hf] at hrun
  have w1:IntKind.i64.wrap ((i:Int) - 1)=(i:Int) - 1:=Aa (by omega)
  cases i with
  |zero=>
   have z1:decide ((-1:Int) < 0)=true:=rfl
   have w1:IntKind.i64.wrap (-1)= -1:=Aa (by decide)
   have hrun:xe (Ca ud 7) Ra [.pv RW,.pv (i64 u),.Sk 41 []] [.box [.pv (i64 0),.pv (i64 0),.pv (i64 0)]]=some (.pv (.ic [i64 0,.bool false]),[.box [.pv (i64 0),.pv (i64 0),.pv (i64 0)]]):=hrun
   refine⟨.ic [.agg [i64 0,i64 0,i64 0],.bool false],?_,.inr ⟨fun s hs hh=> ?_,rfl⟩⟩
   ·simp -implicitDefEqProofs only[Td,SX,sevalprocAttr,jg,Jr,UW,l4,c40,hrun,w1,z1,b0,ld]
   ·obtain⟨j,hj,rfl⟩:=List.getElem_of_mem hs
    obtain⟨m,hm,hmr⟩:=List.getElem_of_mem (hDh j hj)
    have h6:=hb m hm (Nat.zero_le _)
    have hne:r0 D[m]≠u:=by
     intro e
     have h7:=hb 0 (by omega) (Nat.le_refl _)
     have h8:r0 D[0]≤r0 D[m]:=by
      rcases Nat.eq_zero_or_pos m with h9 | h9
      ·subst h9;exact Int.le_refl _
      ·exact hDs 0 m h9 hm
     exact his ⟨by omega,by omega⟩
    rw[hmr] at h6 hne
    have h6:u≤ss[j].first:=h6
    have hne:ss[j].first≠u:=hne
    unfold has at hh;omega
  |succ i=>
   have h:i < D.length:=by omega
   have w2:((i+1:Nat):Int) - 1=(i:Int):=by omega
   rw[w2] at w1
   have z1:decide ((i:Int) < 0)=false:=Ha (by omega)
   have a1:=rz hRW hDr h
   have hlt:=ha i h (by omega)
   have hgt:∀ q (hq:q < D.length),i < q→u < r0 D[q]:=by
    intro q hq hiq
    have h6:=hb q hq (by omega)
    rcases Int.lt_or_le u (r0 D[q]) with h5 | h5
    ·exact h5
    ·exfalso
     have h7:=hb (i+1) (by omega) (Nat.le_refl _)
     have h8:r0 D[i+1]≤r0 D[q]:=by
      rcases Nat.lt_or_ge (i+1) q with h9 | h9
      ·exact hDs (i+1) q h9 hq
      ·have:i+1=q:=by omega
       subst this;exact Int.le_refl _
     exact his ⟨by omega,by omega⟩
   refine⟨_,?_,step i h hgt (by omega) (if u≤r1 D[i] then .ic [.agg [i64 (r0 D[i]),i64 (r1 D[i]),i64 (r2 D[i])],.bool true] else .ic [.agg [i64 0,i64 0,i64 0],.bool false]) (fun h=>by rw[if_pos h]) (fun h=>by rw[if_neg h])⟩
   by_cases hc:u≤r1 D[i]
   ·have z2:decide (u > r1 D[i])=false:=Ha (by omega)
    rw[if_pos hc]
    simp -implicitDefEqProofs only[Td,SX,sevalprocAttr,jg,Jr,UW,l4,c40,hrun,w1,w2,z1,a1,z2,r31,r3,b0,ld]
   ·have z2:decide (u > r1 D[i])=true:=Fa (by omega)
    rw[if_neg hc]
    simp -implicitDefEqProofs only[Td,SX,sevalprocAttr,jg,Jr,UW,l4,c40,hrun,w1,w2,z1,a1,z2,r31,r3,b0,ld]
end
end Go.AM.B1
namespace Go.AM.B1
open Go.AM Go.AM.So
theorem dI {u:Int}:∀ {ss:List qc},(∀ s∈ss,¬has s u)→Tv u ss=none
 | [],_=>rfl
 |s::ss,h=>by
  have h1:=h s (by simp)
  unfold has at h1
  rw[Tv,if_neg h1]
  exact dI fun x hx=>h x (by simp[hx])
theorem pT {u:Int} {ss:List qc} (Ba:Fc ss) {j:Nat} (hj:j < ss.length) (h:has ss[j] u):Tv u ss=some (Of ss[j].parts (u - ss[j].first)):=by
 have key:∀ (l:List qc) (j:Nat) (hj:j < l.length),(∀ i (hi:i < l.length),has l[i] u→i=j)→has l[j] u→Tv u l=some (Of l[j].parts (u - l[j].first)):=by
  intro l
  induction l with
  |nil=>intro j hj;simp at hj
  |cons s l ih=>
   intro j hj hone hh
   rw[Tv]
   cases j with
   |zero=>rw[if_pos (show s.first≤u∧u < s.first+La s.parts from hh)];rfl
   |succ j=>
    rw[if_neg (fun hc:s.first≤u∧u < s.first+La s.parts=>by have:=hone 0 (by simp) hc;omega)]
    exact ih j (by simpa using hj) (fun i hi hx=>by have:=hone (i+1) (by simpa using hi) hx;omega) hh
 exact key ss j hj (fun i hi hx=>xH Ba hi hj hx h) h
section
variable {T:PV} {ss:List qc} {l:List (List Af)} (hT:uv T ss l) (Ba:Fc ss)
include hT Ba
theorem sT (u:Int):Qe [T,i64 u]=some (match Tv u ss with | some b=> .ic [.lit 1 (b.map u8),.bool true] | none=> .ic [.fa,.bool false]):=by
 have hrow:=eU hT Ba u
 obtain⟨S',NX,DG,RW,rfl,_,_,hDG,_⟩:=hT.ex
 have hrp:=VI (a:=S') (b:=El l) (c:=NX) (d:=DG) (e:=RW) (f:=i64 (Hj ss))
 have l3:=fun H=>(hrp H).2.1
 generalize ([S',El l,NX,DG,RW,i64 (Hj ss)]:List PV)=R at *
 have st:∀ a b c,Ea [ba.box [.pv (i64 0),.pv (i64 0),.pv (i64 0)]] 3 (.ptr 0 0) (.pv (.agg [i64 a,i64 b,i64 c]))=some [.box [.pv (i64 a),.pv (i64 b),.pv (i64 c)]]:=fun a b c=>rfl
 rcases hrow with⟨j,hj,hh,hr⟩ | ⟨hn,hr⟩
 ·rw[pT Ba hj hh]
  have hs:=Ba.gu _ (List.getElem_mem hj)
  have hh':=hh
  unfold has at hh'
  have hun:=lE hs (k:=u - ss[j].first) (by omega) (by omega)
  have hf0:=hs.f0
  have hl:=hs.ai
  have hl2:=hs.last
  have a1:∀ H,wa H 1 (.pv DG) (j:Int)=some (.pv (.rp [Zj ss[j].parts] 0)):=fun H=>by
   rw[hDG.lit (i:=j) (by simpa using hj)]
   simp only[wa]
   rw[if_pos ⟨trivial,by unfold Ga;rw[List.length_map];omega⟩,Int.toNat_natCast,List.getElem?_map,List.getElem?_eq_getElem hj];rfl
  generalize ss[j]=s at *
  have w1:IntKind.i64.wrap (u - s.first)=u - s.first:=Aa (by omega)
  have p0:∀ a b c d,place [ba.box [.pv a,.pv b,.pv c]] d (.ptr 0 0)=some (.ptr 0 (0+d)):=fun a b c d=>rfl
  have q2:∀ a b c,ta [ba.box [.pv a,.pv b,.pv c]] false 1 (.ptr 0 2)=some (.pv c):=fun a b c=>rfl
  have q0:∀ a b c,ta [ba.box [.pv a,.pv b,.pv c]] false 1 (.ptr 0 0)=some (.pv a):=fun a b c=>rfl
  simp -implicitDefEqProofs only[Qe,SX,sevalprocAttr,Ki,hr,st,UW,l3,p0,q2,q0,a1,Sa,w1,hun]
 ·rw[dI hn]
  simp -implicitDefEqProofs only[Qe,SX,sevalprocAttr,Ki,hr,st]
end
end Go.AM.B1
namespace Go.AM.B1
open Go.AM Go.AM.So
theorem BQ (f:Nat→Bool) {a b:Nat} (h:a≤b):Ai f a≤Ai f b:=by
 induction b with
 |zero=>have:a=0:=by omega
        subst this;exact Nat.le_refl _
 |succ b ih=>
  rcases Nat.lt_or_ge b a with h1 | h1
  ·have:a=b+1:=by omega
   subst this;exact Nat.le_refl _
  ·rw[gm];have:=ih h1;omega
theorem VV (f:Nat→Bool) {a b:Nat} (h:a < b) (hf:f a=true):Ai f a < Ai f b:=by
 have h1:=BQ f (a:=a+1) (b:=b) (by omega)
 rw[gm,if_pos hf] at h1;omega
theorem XD {v:PV} {l:List (Int×Int)} (hv:Vh 2 v (Xd l)) (hw:l.length * 16≤140737488355328) {y:Nat} (hy:y < 256) (hf:Fh l y=true):
 mh [v,i64 (Ai (Fh l) y)]=some (.ic [i64 y,.bool true]):=by
 have hm:=ur hv hw
 generalize Fh l=f at *
 have pl:=fun (x:Nat)=>Di (A:=[Ab (Xe f)]) (id:=0) (es:=Xe f) rfl 0 x
 have hO:IF 1 (Ab (Xe f))=true:=nT _ _
 have hloop:=fun (E:Tr) (h1:E.get 1= .pv (i64 (Ai f y))) (h6:E.get 6= .ptr 0 0) (h7:E.get 7= .pv (i64 0)) (h8:E.get 8= .pv (i64 0))=>
  Us (call:=Ca (fun _=>none) 8) (b:=Oe) (live:=[1,6,7,8]) (E0:=E) (H0:=[Ab (Xe f)]) (Q:=fun r=>∃ E H,r=(.ret,⟨E,H⟩)∧E.get 4= .pv (i64 y)∧E.get 5= .pv (.bool true))
   (fun i:Nat=>[(1,.pv (i64 (Ai f y))),(6,.ptr 0 0),(7,.pv (i64 (Ai f i))),(8,.pv (i64 i))]) (fun _=>[Ab (Xe f)]) (fun i x=>x=i) y (by unfold pa;omega) (fun _=>rfl)
   (fun i x _=>⟨by simp[Dr,IE],nz (by simp[hO]),rfl⟩) ⟨0,⟨h1,h6,h7,h8,trivial⟩,rfl,rfl⟩
   (by
    rintro i x E hi rfl ⟨g1,g6,g7,g8,_⟩
    have e1:decide ((x:Int)≤255)=true:=Fa (by omega)
    have hq:Ga (x:Int) 256:=by unfold Ga;omega
    have t1:((x:Int)).toNat=x:=by simp
    have m1:x * 1=x:=by omega
    have t2:IntKind.i64.wrap ((x:Int)+1)=((x+1:Nat):Int):=Aa (by omega)
    have hle:=HN f x
    have t3:IntKind.i64.wrap ((Ai f x:Int)+1)=(Ai f x:Int)+1:=Aa (by omega)
    have pl:=pl x
    rw[Nat.zero_add] at pl
    have ld:=yw (A:=[Ab (Xe f)]) (id:=0) (es:=Xe f) rfl (IC f (x:=x) (by omega))
    have hs:=gm f x
    have hlt:=VV f hi
    generalize Ab (Xe f)=O at *
    generalize hQ:RH _ _ _ _=Q
    cases hfx:f x with
    |true=>
     rw[hfx] at hs ld
     have d1:((Ai f x:Int)==(Ai f y:Int))=false:=beq_false_of_ne (by have:=hlt hfx;omega)
     simp -implicitDefEqProofs only[SX,sevalprocAttr,-List.reduceReplicate,Oe,g1,g6,g7,g8,e1,eq_true hq,t1,m1,pl,ld,t2,t3,d1]
     subst hQ
     exact⟨x+1,[],by rw[if_pos rfl] at hs;simp[Has,Tr.aa,g1,g6,hs],rfl,rfl⟩
    |false=>
     rw[hfx] at hs ld
     simp -implicitDefEqProofs only[SX,sevalprocAttr,-List.reduceReplicate,Oe,g1,g6,g7,g8,e1,eq_true hq,t1,m1,pl,ld,t2]
     subst hQ
     exact⟨x+1,[],by rw[if_neg (by simp)] at hs;simp[Has,Tr.aa,g1,g6,g7,hs],rfl,rfl⟩)
   (by
    rintro x E rfl ⟨g1,g6,g7,g8,_⟩
    have e1:decide ((x:Int)≤255)=true:=Fa (by omega)
    have hq:Ga (x:Int) 256:=by unfold Ga;omega
    have t1:((x:Int)).toNat=x:=by simp
    have m1:x * 1=x:=by omega
    have pl:=pl x
    rw[Nat.zero_add] at pl
    have ld:=yw (A:=[Ab (Xe f)]) (id:=0) (es:=Xe f) rfl (IC f (x:=x) (by omega))
    rw[hf] at ld
    have d1:((Ai f x:Int)==(Ai f x:Int))=true:=by simp
    generalize Ab (Xe f)=O at *
    generalize hQ:(fun r:Ex×St=>r.1.stop=true∧_)=Q
    simp -implicitDefEqProofs only[SX,sevalprocAttr,-List.reduceReplicate,Oe,g1,g6,g7,g8,e1,eq_true hq,t1,m1,pl,ld,d1]
    subst hQ
    exact⟨rfl,_,_,rfl,by simp[Tr.aa],by simp[Tr.aa]⟩)
 have hz1:ba.box (List.map AV.pv (List.replicate 256 (PV.bool false)))=Ab (Xe fun _=>false):=by rw[fx]
 have st:Ea [Ab (Xe fun _=>false)] 256 (.ptr 0 0) (.pv (.agg (Xe f)))=some [Ab (Xe f)]:=Lm (id:=0) rfl (Ll _) (Ll f) (ZH f)
 generalize Ai f y=c at *
 generalize hzs:List.replicate 256 (PV.bool false)=zs at *
 generalize Ab (Xe fun _=>false)=oz at *
 generalize Ab (Xe f)=ot at *
 generalize Xe f=T at *
 apply Km
 generalize hQ:(fun x=>x=PV.ic _)=Q
 simp -implicitDefEqProofs only[mh,SX,sevalprocAttr,-List.reduceReplicate,cj,hzs,hz1,hm,st]
 refine ya (hloop _ (by simp[Tr.aa]) (by simp[Tr.aa]) (by simp[Tr.aa]) (by simp[Tr.aa])) ?_
 rintro r ⟨_,E,H,rfl,q4,q5⟩
 simp -implicitDefEqProofs only[SX,sevalprocAttr,-List.reduceReplicate,q4,q5]
 subst hQ
 rfl
theorem YJ {x:Int} (hx:0≤x):∀ {l:List (Int×Int)} {last n m:Int},Na 255 last l=true→kg x n l=(m,true)→Nq l x.toNat=true∧m=n+Ai (Nq l) x.toNat
 | [],_,_,_,_,h=>by simp[kg] at h
 |p::l,last,n,m,hv,h=>by
  obtain⟨v1,v2,v3,v4,v5⟩:=Vd hv
  have hin:∀ y:Nat,Nq (p::l) y=(decide (p.1.toNat≤y)&&decide (y < (p.2+1).toNat)||Nq l y):=by
   intro y
   simp only[Nq,List.any_cons]
   congr 1
   congr 1 <;> (rw[decide_eq_decide];omega)
  have hlow:∀ y:Nat,Nq l y=true→p.2+1 < (y:Int):=fun y hy=>Fl v5 (Wq.1 hy)
  have hcnt:Ai (Nq (p::l)) x.toNat=Ai (fun y=>decide (p.1.toNat≤y)&&decide (y < (p.2+1).toNat)) x.toNat+Ai (Nq l) x.toNat:=by
   apply VN
   ·intro y _;exact hin y
   ·intro y _ h3 h4
    have:=hlow y h4
    simp at h3;omega
  rw[TN] at hcnt
  rw[kg] at h
  split at h
  ·cases h
  ·next c1=>
   split at h
   ·next c2=>
    have hm:n+x - p.1=m:=congrArg Prod.fst h
    have hz:Ai (Nq l) x.toNat=0:=by
     unfold Ai;rw[List.countP_eq_zero]
     intro y hy hy2
     have:=hlow y hy2
     have:=List.mem_range.1 hy
     omega
    refine⟨by rw[hin];simp;omega,?_⟩
    rw[hcnt,hz];omega
   ·next c2=>
    obtain⟨h1,h2⟩:=YJ hx v5 h
    exact⟨by rw[hin,h1];simp,by rw[hcnt,h2];omega⟩
theorem DV {l:List (Int×Int)} (h:Bd l) {k:Int} (h0:0≤k) (h1:k < oc 0 l):∃ y:Nat,y < 256∧UL k l=some (y:Int)∧Fh l y=true∧(Ai (Fh l) y:Int)=k:=by
 obtain⟨x,q1,q2,q3,q4,q5⟩:=Ts h.2 h0 h1
 have e:Fh l=Nq l:=by funext x;rw[Fh,h.2,Bool.true_and]
 obtain⟨r1,r2⟩:=YJ q2 h.2 (q5 0)
 refine⟨x.toNat,by omega,by rw[q1,Int.toNat_of_nonneg q2],by rw[e];exact r1,by rw[e];omega⟩
theorem OX {k Q s m:Nat}:(k % (Q * (s * m)) / Q) % s=(k / Q) % s:=by
 rw[Nat.mod_mul_right_div_self,Nat.mod_mul_right_mod]
theorem iH (ls:List (List (Int×Int))):∀ i,∃ m:Int,La ls=La (ls.drop i) * m∧((∀ l∈ls,Bd l)→1≤m)
 |0=>⟨1,by rw[List.drop_zero,Int.mul_one],fun _=>Int.le_refl _⟩
 |i+1=>match ls with
  | []=>⟨1,by rw[List.drop_nil,Int.mul_one],fun _=>Int.le_refl _⟩
  |l::r=>by
   obtain⟨m,h1,h2⟩:=iH r i
   refine⟨m * oc 0 l,by rw[La,List.drop_succ_cons,h1,Int.mul_assoc],fun h=> ?_⟩
   have h3:=h2 fun x hx=>h x (by simp[hx])
   have h4:=(zg (h l (by simp))).1
   have:=Int.mul_le_mul h3 h4 (by omega) (by omega)
   omega
theorem bH:∀ (ls:List (List (Int×Int))) (k:Int) (i:Nat) (hi:i < ls.length),(∀ l∈ls,Bd l)→0≤k→k < La ls→
 (Of ls k)[i]? =some ((UL (k / La (ls.drop (i+1)) % oc 0 ls[i]) ls[i]).getD 0)
 |l::r,k,0,hi,hp,h0,h1=>by
  have hpr:=Vf (ls:=r) fun x hx=>hp x (by simp[hx])
  rw[La] at h1
  obtain⟨d1,d2,_⟩:=vH h0 hpr h1
  rw[Int.tdiv_eq_ediv_of_nonneg h0] at d1 d2
  rw[Of,Int.tdiv_eq_ediv_of_nonneg h0]
  simp only[List.getElem?_cons_zero,List.getElem_cons_zero,List.drop_succ_cons,List.drop_zero]
  rw[Int.emod_eq_of_lt d1 d2]
 |l::r,k,i+1,hi,hp,h0,h1=>by
  have hpq:∀ x∈r,Bd x:=fun x hx=>hp x (by simp[hx])
  have hpr:=Vf (ls:=r) hpq
  rw[La] at h1
  obtain⟨_,_,d3,d4,_⟩:=vH h0 hpr h1
  have hi':i < r.length:=by simpa using hi
  have ih:=bH r (k.tmod (La r)) i hi' hpq d3 d4
  rw[Of,List.getElem?_cons_succ,ih]
  simp only[List.drop_succ_cons,List.getElem_cons_succ]
  congr 3
  obtain⟨m,hm,hm1⟩:=iH r i
  rw[List.drop_eq_getElem_cons hi',La] at hm
  have hm1:=hm1 hpq
  have hQ:=Vf (ls:=r.drop (i+1)) fun x hx=>hpq x (List.mem_of_mem_drop hx)
  have hs:=(zg (hpq _ (List.getElem_mem hi'))).1
  rw[Int.tmod_eq_emod_of_nonneg h0,hm,Int.mul_assoc]
  generalize La (r.drop (i+1))=Q at *
  generalize oc 0 r[i]=s at *
  obtain⟨kn,rfl⟩:=Int.eq_ofNat_of_zero_le h0
  obtain⟨Qn,rfl⟩:=Int.eq_ofNat_of_zero_le (a:=Q) (by omega)
  obtain⟨sn,rfl⟩:=Int.eq_ofNat_of_zero_le (a:=s) (by omega)
  obtain⟨mn,rfl⟩:=Int.eq_ofNat_of_zero_le (a:=m) (by omega)
  exact_mod_cast OX (k:=kn) (Q:=Qn) (s:=sn) (m:=mn)
theorem KO {H:List ba} {id fl n:Nat} {cs:List Int} (hg:H[id]? =some (.seq 1 false ((cs.map (PV.int .u8)).map .pv) fl false)) (hn:n=cs.length) (d:Nat):Rb H (d+1) (.own id n)=some (.lit 1 (cs.map (PV.int .u8))):=by
 subst hn
 have hm:Pa (Rb H d) ((cs.map (PV.int .u8)).map AV.pv)=some (cs.map (PV.int .u8)):=by
  generalize cs.map (PV.int .u8)=l
  induction l with
  |nil=>rfl
  |cons a l ih=>
   have:Rb H d (.pv a)=some a:=by cases d <;> rfl
   simp only[List.map_cons,Pa,this,ih];rfl
 have hc:=gI (cs.map (PV.int .u8))
 rw[List.length_map] at hc
 simp only[Rb,hg]
 rw[if_pos ⟨by simp,by simp⟩]
 simp only[hm,Option.map_some,hc,Bool.false_eq_true,if_false]
theorem kX {U:List Int} {n j:Nat} (hU:U.length=n) (hj:j < n) {x:Int} (hx:U[n - 1 - j]? =some x):
 (List.replicate (n - j) 0++U.drop (n - j)).set (n - 1 - j) x=List.replicate (n - (j+1)) 0++U.drop (n - (j+1)):=by
 obtain⟨m,hm⟩:∃ m,m=n - 1 - j:=⟨_,rfl⟩
 have e1:n - j=m+1:=by omega
 have e2:n - (j+1)=m:=by omega
 rw[← hm] at hx ⊢
 have hml:m < U.length:=by omega
 rw[e1,e2,List.drop_eq_getElem_cons hml,List.replicate_succ',List.append_assoc,List.set_append_right _ _ (by simp),List.length_replicate,Nat.sub_self]
 have:U[m]=x:=by rw[List.getElem?_eq_getElem hml] at hx;injection hx
 rw[this];rfl
theorem vE {e:PV} {s:qc} {P:PV} {ps:List PV} (h:zf e s P ps) (Ba:Ie s) {k:Int} (h0:0≤k) (h1:k < La s.parts):
 qj [e,i64 k]=some (.ic [.lit 1 ((Of s.parts k).map (PV.int .u8)),.bool true]):=by
 have hcn:=Jq h Ba
 rw[Ba.prod.1] at hcn
 have hpr:=Ba.prod.2
 have hP1:=h.cw.1
 have hP:=h.parts
 have h8:=Ba.hi
 have lP:=hP.Tb
 have heq:=h.eq
 subst heq
 obtain⟨n,hn⟩:∃ n,n=s.parts.length:=⟨_,rfl⟩
 have hul:=(Wl s.parts k 0 Ba.parts h0 h1).2
 obtain⟨U,hU⟩:∃ U,U=Of s.parts k:=⟨_,rfl⟩
 rw[← hU] at hul ⊢
 obtain⟨O,hO⟩:∃ O:Nat→Nat→ba,O=fun j fl=> .seq 1 false (((List.replicate (n - j) 0++U.drop (n - j)).map (PV.int .u8)).map .pv) fl false:=⟨_,rfl⟩
 have hOB:∀ j fl,IF 1 (O j fl)=true:=fun j fl=>by rw[hO];exact rT _ _ _ _ _ _
 have hcl:∀ j,j≤n→(List.replicate (n - j) 0++U.drop (n - j)).length=n:=fun j hj=>by simp[hul.1];omega
 have hia:∀ j fl i:Nat,j≤n→fl≤n→i < n→wa [O j fl] 1 (.own 0 n) (i:Int)=some (.Mc 0 n i):=fun j fl i hj hf hi=>by
  rw[hO]
  simp only[wa,List.getElem?_cons_zero]
  rw[if_pos ⟨trivial,by unfold Ga;omega,by unfold jh;rw[List.length_map,List.length_map,hcl j hj];omega⟩,Int.toNat_natCast,Nat.mul_one,Nat.mul_one]
 have hst:∀ (j fl:Nat) (x:Int),j < n→U[n - 1 - j]? =some x→Ea [O j fl] 1 (.Mc 0 n (n - 1 - j)) (.pv (.int .u8 x))=some [O (j+1) n]:=fun j fl x hj hx=>by
  rw[hO]
  have hc:=hcl j (by omega)
  have:(AV.pv (PV.int .u8 x)).cells=[.pv (.int .u8 x)]:=rfl
  simp only[Ea,this,List.getElem?_cons_zero]
  rw[if_pos ⟨rfl,rfl⟩,if_pos ⟨by rw[List.length_map,List.length_map,hc],by omega⟩]
  simp only[ga,List.set_cons_zero,←List.map_set]
  rw[kX (by rw[hul.1,hn]) hj hx]
 have hloop:=fun (E:Tr) (h1':E.get 1= .pv (i64 k)) (h2:E.get 2= .pv (.rp [P,i64 s.first] 0)) (h6:E.get 6= .own 0 n) (h7:E.get 7= .pv (i64 ((n:Int) - 1)))=>
  Us (call:=Ca (fun _=>none) 8) (b:=sg) (live:=[1,2,6,7]) (E0:=E) (H0:=[O 0 0]) (Q:=fun r=>∃ E fl,r=(.exit 0,⟨E,[O n fl]⟩)∧E.get 6= .own 0 n)
   (fun x:Nat×Nat=>[(1,.pv (i64 (k / La (s.parts.drop (n - x.1))))),(2,.pv (.rp [P,i64 s.first] 0)),(6,.own 0 n),(7,.pv (i64 ((n:Int) - 1 - x.1)))]) (fun x=>[O x.1 x.2]) (fun i x=>x.1=i∧x.1≤n∧x.2≤n) n (by unfold pa;omega) (fun _=>rfl)
   (fun i x _=>⟨by simp[Dr,YR],nz (by simp[hOB]),rfl⟩)
   ⟨(0,0),⟨by rw[h1',Nat.sub_zero,hn,List.drop_length,La,Int.ediv_one],h2,h6,by rw[h7];simp,trivial⟩,rfl,rfl,Nat.zero_le _,Nat.zero_le _⟩
   (by
    rintro _ ⟨j,fl⟩ E hj ⟨rfl,_,hfl⟩ ⟨g1,g2,g6,g7,_⟩
    simp only at hfl hj g1 g2 g6 g7
    obtain⟨i,hi⟩:∃ i,i=n - 1 - j:=⟨_,rfl⟩
    have hin:i < s.parts.length:=by omega
    have e7:(n:Int) - 1 - (j:Int)=(i:Int):=by omega
    rw[e7] at g7
    rw[show n - j=i+1 by omega] at g1
    obtain⟨v,hv,hpt,_⟩:=hP.Sd hin []
    have a1:=hP.bw hv
    have hpo:=Ba.parts _ (List.getElem_mem hin)
    have hss:=Ty hpt.is hpt.sz
    rw[OK hpo.2] at hss
    have hsb:=zg hpo
    have hat:=bH s.parts k i hin Ba.parts h0 h1
    have hQ:=Vf (ls:=s.parts.drop (i+1)) fun x hx=>Ba.parts x (List.mem_of_mem_drop hx)
    have hdd:k / La (s.parts.drop (i+1)) / oc 0 s.parts[i]=k / La (s.parts.drop i):=by
     rw[List.drop_eq_getElem_cons hin,La,Int.ediv_ediv_of_nonneg (by omega)]
    have hK0:0≤k / La (s.parts.drop (i+1)):=Int.ediv_nonneg h0 (by omega)
    have hK1:k / La (s.parts.drop (i+1))≤k:=Int.ediv_le_self _ h0
    obtain⟨K,hK⟩:∃ K,K=k / La (s.parts.drop (i+1)):=⟨_,rfl⟩
    rw[← hK] at g1 hat hdd hK0 hK1
    obtain⟨y,y1,y2,y3,y4⟩:=DV hpo (k:=K % oc 0 s.parts[i]) (Int.emod_nonneg _ (by omega)) (Int.emod_lt_of_pos _ (by omega))
    rw[y2,Option.getD_some,←hU] at hat
    have hsel:=XD hpt.is hpt.sz y1 y3
    rw[y4] at hsel
    have z0:(oc 0 s.parts[i]=0)=False:=by simp;omega
    have t5:K.tmod (oc 0 s.parts[i])=K % oc 0 s.parts[i]:=Int.tmod_eq_emod_of_nonneg hK0
    have hKs:K / oc 0 s.parts[i]≤K:=Int.ediv_le_self _ hK0
    have hKs0:0≤K / oc 0 s.parts[i]:=Int.ediv_nonneg hK0 (by omega)
    have t3:IntKind.i64.wrap (K.tdiv (oc 0 s.parts[i]))=k / La (s.parts.drop i):=by
     rw[Int.tdiv_eq_ediv_of_nonneg hK0,Aa (by omega),hdd]
    have t4:IntKind.u8.wrap (y:Int)=y:=wrap_u8 (by omega)
    have t6:IntKind.i64.wrap ((i:Int) - 1)=(i:Int) - 1:=Aa (by omega)
    have e1:decide ((i:Int)≥0)=true:=Fa (by omega)
    have b1:=hia j fl i (by omega) hfl (by omega)
    have b2:=hst j fl y hj (by rw[← hi];exact hat)
    rw[← hi] at b2
    generalize oc 0 s.parts[i]=sz at *
    generalize K % sz=m at *
    generalize hKK:k / La (s.parts.drop i)=K' at *
    have hfin:((i:Int) - 1)=(n:Int) - 1 - ((j+1:Nat):Int):=by omega
    have hdr:n - (j+1)=i:=by omega
    generalize hO1:O j fl=o1 at *
    generalize hO2:O (j+1) n=o2 at *
    generalize hQ:RH _ _ _ _=Q
    simp -implicitDefEqProofs only[SX,sevalprocAttr,-List.reduceReplicate,sg,g1,g2,g6,g7,e1,Pb,wc,a1,Sa,hss,z0,t5,hsel,t4,b1,b2,t3,t6]
    subst hQ
    refine⟨(j+1,n),[],?_,by simp[hO2],rfl,by show j+1≤n;omega,Nat.le_refl _⟩
    simp[Has,Tr.aa,g2,g6,hdr,hfin,hKK])
   (by
    rintro⟨a,fl⟩ E ⟨h,_,hfl⟩ ⟨g1,g2,g6,g7,_⟩
    simp only at h g7 ⊢
    rw[h] at g7 ⊢
    have e1:decide ((n:Int) - 1 - (n:Int)≥0)=false:=Ha (by omega)
    generalize hQ:(fun r:Ex×St=>r.1.stop=true∧_)=Q
    simp -implicitDefEqProofs only[SX,sevalprocAttr,-List.reduceReplicate,sg,g7,e1]
    subst hQ
    exact⟨rfl,_,fl,rfl,by simp[Tr.aa,g6]⟩)
 have t1:((n:Int)).toNat=n:=by simp
 have e1:(0≤(n:Int))=True:=by simp
 have e3:((n:Int)≤(n:Int))=True:=by simp
 have e2:ab n 1:=by unfold ab;omega
 have r0:tj [PV.int .u8 0] n=((List.replicate n (0:Int)).map (PV.int .u8)).map AV.pv:=by
  generalize n=m
  induction m with
  |zero=>rfl
  |succ m ih=>rw[tj,ih];rfl
 have hO0:O 0 0= .seq 1 false (((List.replicate n (0:Int)).map (PV.int .u8)).map AV.pv) 0 false:=by
  rw[hO];simp only[Nat.sub_zero]
  rw[← hn] at hul
  rw[List.drop_of_length_le (by omega),List.append_nil]
 have hwin:jh 1 n 0 (((List.replicate n (0:Int)).map (PV.int .u8)).map AV.pv).length:=by unfold jh;simp
 rw[hO0] at hloop
 have hres:∀ fl,Rb [O n fl] deep (.ic [.own 0 n,.pv (.bool true)])=some (.ic [.lit 1 (U.map (PV.int .u8)),.bool true]):=fun fl=>by
  have hz:=KO (H:=[O n fl]) (id:=0) (fl:=fl) (n:=n) (cs:=U) (by rw[hO];simp) (by rw[hul.1,hn]) 4
  show (Pa (Rb [O n fl] 5) [.own 0 n,.pv (.bool true)]).map PV.ic=_
  rw[Pa,hz];rfl
 have d1:decide (k < 0)=false:=Ha (by omega)
 have d2:decide (k≥La s.parts)=false:=Ha (by omega)
 have t2:IntKind.i64.wrap ((n:Int) - 1)=(n:Int) - 1:=Aa (by omega)
 rw[← hn] at lP
 suffices key:Pd (fun r=>Rb r.2 deep r.1=some (.ic [.lit 1 (U.map (PV.int .u8)),.bool true])) (xe (Ca (fun _=>none) 8) Uf [.pv (.agg [P,i64 s.first]),.pv (i64 k)] []) by
  obtain⟨r,hr1,hr2⟩:=pc key
  show (xe (Ca (fun _=>none) 8) Uf [.pv (.agg [P,i64 s.first]),.pv (i64 k)] []).bind _=_
  rw[hr1];exact hr2
 generalize hV:PV.ic [.lit 1 (U.map (PV.int .u8)),.bool true]=V at *
 generalize hQ:(fun r:AV×List ba=>Rb r.2 deep r.1=some V)=Q
 generalize List.map AV.pv (List.map (PV.int .u8) (List.replicate n 0))=zs at *
 simp -implicitDefEqProofs only[SX,sevalprocAttr,-List.reduceReplicate,Uf,hP1,Uc,hcn,d1,d2,Pb,wc,lP,t1,e1,e3,eq_true e2,r0,eq_true hwin,t2]
 refine ya (hloop _ (by simp[Tr.aa]) (by simp[Tr.aa]) (by simp[Tr.aa]) (by simp[Tr.aa])) ?_
 rintro r ⟨_,E,fl,rfl,q6⟩
 have hres:=hres fl
 generalize O n fl=o1 at *
 simp -implicitDefEqProofs only[SX,sevalprocAttr,-List.reduceReplicate,q6]
 subst hQ
 exact hres
section
variable {S:PV} {ss:List qc} {es:List PV} (hS:Za S ss es) (Ba:Fc ss)
include hS Ba
theorem kI (u:Int):(∃ j,∃ hj:j < ss.length,has ss[j] u∧Cf [.agg [S],i64 u]=some (i64 j))∨((∀ s∈ss,¬has s u)∧Cf [.agg [S],i64 u]=some (i64 (-1))):=by
 have hS1:(AV.pv S).one=true:=by rcases hS.is with⟨h,_⟩ | h <;> rw[h] <;> rfl
 have h32:=Ba.len
 have ln:=hS.Tb
 have hloop:=fun (E:Tr) (h1:E.get 1= .pv (i64 u)) (h2:E.get 2= .pv (.rp [S] 0)) (h5:E.get 5= .pv (i64 0))=>
  Us (call:=Ca (fun _=>none) 8) (b:=te) (live:=[1,2,5]) (E0:=E) (H0:=[]) (Q:=fun r=>(∃ E j,∃ hj:j < ss.length,has ss[j] u∧r=(.ret,⟨E,[]⟩)∧E.get 4= .pv (i64 j))∨∃ E,r=(.exit 0,⟨E,[]⟩)∧∀ s∈ss,¬has s u)
   (fun i:Nat=>[(1,.pv (i64 u)),(2,.pv (.rp [S] 0)),(5,.pv (i64 i))]) (fun _=>[]) (fun i x=>x=i∧∀ k (hk:k < ss.length),k < i→¬has ss[k] u) ss.length (by unfold pa;omega) (fun _=>rfl)
   (fun i x _=>⟨by simp[Dr],nz rfl,rfl⟩) ⟨0,⟨h1,h2,h5,trivial⟩,rfl,rfl,fun k _ h=>by omega⟩
   (by
    rintro _ i E hi ⟨rfl,hno⟩ ⟨g1,g2,g5,_⟩
    obtain⟨P,ps,hP,a1⟩:=hS.Sd hi
    have hk:=Ba.gu _ (List.getElem_mem hi)
    have hcn:=Gl hP hk.parts
    rw[hk.prod.1] at hcn
    have hp1:=Vf hk.parts
    have hp2:=hk.prod.2
    have f0:=hk.f0
    have f1:=hk.f1
    have hP1:=hP.cw.1
    have hnx:¬has ss[i] u→∀ k (hk:k < ss.length),k < i+1→¬has ss[k] u:=fun h k hk hlt=>by
     rcases Nat.lt_or_ge k i with h3 | h3
     ·exact hno k hk h3
     ·have:k=i:=by omega
      subst this;exact h
    have hyes:has ss[i] u→∀ E:Tr,E.get 4= .pv (i64 i)→(∃ E' j,∃ hj:j < ss.length,has ss[j] u∧((Ex.ret,(⟨E,[]⟩:St))=(.ret,⟨E',[]⟩))∧E'.get 4= .pv (i64 j)):=fun h E h4=>⟨E,i,hi,h,rfl,h4⟩
    unfold has at hnx hyes
    generalize ss[i]=s at *
    have e1:decide ((i:Int) < (ss.length:Int))=true:=Fa (by omega)
    have t2:IntKind.i64.wrap ((i:Int)+1)=((i+1:Nat):Int):=fj (by omega)
    have t3:IntKind.i64.wrap (s.first+La s.parts)=s.first+La s.parts:=Aa (by omega)
    have t4:IntKind.i64.wrap (s.first+La s.parts - 1)=s.first+La s.parts - 1:=Aa (by omega)
    have fin:(¬ (s.first≤u∧u < s.first+La s.parts))→∀ E2:Tr,E2.get 1=E.get 1→E2.get 2=E.get 2→E2.get 5= .pv (i64 (i+1:Nat))→RH (fun i:Nat=>[(1,.pv (i64 u)),(2,.pv (.rp [S] 0)),(5,.pv (i64 i))]) (fun _=>[]) (fun x=>x=i+1∧∀ k (hk:k < ss.length),k < i+1→¬has ss[k] u) (fun r=>(∃ E j,∃ hj:j < ss.length,has ss[j] u∧r=(.ret,⟨E,[]⟩)∧E.get 4= .pv (i64 j))∨∃ E,r=(.exit 0,⟨E,[]⟩)∧∀ s∈ss,¬has s u) (.norm,⟨E2,[]⟩):=fun h E2 k1 k2 k5=>
     ⟨i+1,[],⟨k1.trans g1,k2.trans g2,k5,trivial⟩,rfl,rfl,hnx h⟩
    generalize hQ:RH _ _ _ _=Q at *
    by_cases c1:u≥s.first
    ·have d1:decide (u≥s.first)=true:=Fa c1
     by_cases c2:u≤s.first+La s.parts - 1
     ·have d2:decide (u≤s.first+La s.parts - 1)=true:=Fa c2
      simp -implicitDefEqProofs only[SX,sevalprocAttr,-List.reduceReplicate,te,g1,g2,g5,Kb,Sa,Pb,Ue,wc,Uc,Tf,ln,a1,e1,hcn,t3,t4,d1,d2]
      subst hQ
      exact Or.inl (hyes ⟨by omega,by omega⟩ _ (by simp[Tr.aa]))
     ·have d2:decide (u≤s.first+La s.parts - 1)=false:=Ha c2
      simp -implicitDefEqProofs only[SX,sevalprocAttr,-List.reduceReplicate,te,g1,g2,g5,Kb,Sa,Pb,Ue,wc,Uc,Tf,ln,a1,e1,hcn,t2,t3,t4,d1,d2]
      exact fin (by omega) _ (by simp[Tr.aa]) (by simp[Tr.aa]) (by simp[Tr.aa])
    ·have d1:decide (u≥s.first)=false:=Ha c1
     simp -implicitDefEqProofs only[SX,sevalprocAttr,-List.reduceReplicate,te,g1,g2,g5,Kb,Sa,Pb,Ue,wc,Uc,Tf,ln,a1,e1,t2,d1]
     exact fin (by omega) _ (by simp[Tr.aa]) (by simp[Tr.aa]) (by simp[Tr.aa]))
   (by
    rintro i E ⟨rfl,hno⟩ ⟨g1,g2,g5,_⟩
    have e1:decide ((ss.length:Int) < (ss.length:Int))=false:=Ha (by omega)
    generalize hQ:(fun r:Ex×St=>r.1.stop=true∧_)=Q
    simp -implicitDefEqProofs only[SX,sevalprocAttr,-List.reduceReplicate,te,g2,g5,Kb,Sa,ln,e1]
    subst hQ
    exact⟨rfl,.inr ⟨_,rfl,fun s hs=>by
     obtain⟨k,hk,rfl⟩:=List.getElem_of_mem hs
     exact hno k hk hk⟩⟩)
 have key:Pd (fun x=>(∃ j,∃ hj:j < ss.length,has ss[j] u∧x=i64 j)∨((∀ s∈ss,¬has s u)∧x=i64 (-1))) (Cf [.agg [S],i64 u]):=by
  generalize hQ:(fun x:PV=>_∨_)=Q
  simp -implicitDefEqProofs only[Cf,SX,sevalprocAttr,-List.reduceReplicate,Wj,hS1]
  refine ya (hloop _ (by simp[Tr.aa]) (by simp[Tr.aa]) (by simp[Tr.aa])) ?_
  rintro r ⟨_,⟨E,j,hj,hh,rfl,q4⟩ | ⟨E,rfl,hn⟩⟩
  ·simp -implicitDefEqProofs only[SX,sevalprocAttr,-List.reduceReplicate,q4]
   subst hQ
   exact .inl ⟨j,hj,hh,rfl⟩
  ·simp -implicitDefEqProofs only[SX,sevalprocAttr,-List.reduceReplicate]
   subst hQ
   exact .inr ⟨hn,rfl⟩
 obtain⟨x,hx,ho⟩:=pc key
 rcases ho with⟨j,hj,hh,rfl⟩ | ⟨hn,rfl⟩
 ·exact .inl ⟨j,hj,hh,hx⟩
 ·exact .inr ⟨hn,hx⟩
theorem fE (u:Int):wg [.agg [S],i64 u]=some (match Tv u ss with | some b=> .ic [.lit 1 (b.map u8),.bool true] | none=> .ic [.fa,.bool false]):=by
 have hS1:(AV.pv S).one=true:=by rcases hS.is with⟨h,_⟩ | h <;> rw[h] <;> rfl
 rcases kI hS Ba u with⟨j,hj,hh,hf⟩ | ⟨hn,hf⟩
 ·obtain⟨P,ps,hP,a1⟩:=hS.Sd hj
  have hk:=Ba.gu _ (List.getElem_mem hj)
  rw[pT Ba hj hh]
  unfold has at hh
  have hu:=vE hP hk (k:=u - ss[j].first) (by omega) (by omega)
  have f0:=hk.f0
  have f1:=hk.f1
  have hp2:=hk.prod.2
  generalize ss[j]=s at *
  have e1:decide ((j:Int) < 0)=false:=Ha (by omega)
  have t3:IntKind.i64.wrap (u - s.first)=u - s.first:=Aa (by omega)
  simp -implicitDefEqProofs only[wg,SX,sevalprocAttr,-List.reduceReplicate,aj,hS1,hf,e1,Od,Kb,Sa,Pb,Ue,wc,Tf,Uc,a1,t3,hu]
 ·rw[dI hn]
  have e1:decide ((-1:Int) < 0)=true:=rfl
  simp -implicitDefEqProofs only[wg,SX,sevalprocAttr,-List.reduceReplicate,aj,hS1,hf,e1,Od]
end
end Go.AM.B1
namespace Go.AM.B1
open Go.AM Go.AM.So
def bc (T R:PV) (un tot out:Int) (st fin:Bool):ba:= .box ([T,i64 un,R,i64 tot,i64 out,.bool st,.bool fin].map .pv)
theorem Ln {T R:PV} {un tot out:Int} {st fin:Bool}:bc T R un tot out st fin= .box [.pv T,.pv (i64 un),.pv R,.pv (i64 tot),.pv (i64 out),.pv (.bool st),.pv (.bool fin)]:=rfl
def Hx (a u o:Int):PV:= .agg [i64 4,i64 a,i64 1,i64 u,i64 o]
def Xi (cd:Int→Option (List Int)) (un:Int) (rb:List Int) (base out:Int):Nat→List Int→List PV→List Int→List Int×List PV×Bool
 |_,acc,evs,[]=>(acc,evs,false)
 |i,acc,evs,u::us=>match cd u with
  |some b=>Xi cd un rb base out (i+1) (acc++b) evs us
  |none=>if un=3 then (acc,evs++[Hx (base+i) u (out+acc.length)],true) else Xi cd un rb base out (i+1) (acc++rb) (evs++[Hx (base+i) u (out+acc.length)]) us
structure PD (T:PV) (cd:Int→Option (List Int)):Prop where
 enc:∀ u,Qe [T,i64 u]=some (match cd u with | some b=> .ic [.lit 1 (b.map u8),.bool true] | none=> .ic [.fa,.bool false])
 len:∀ u b,cd u=some b→b.length≤8
 ptr:∃ R,T= .rp R 0
structure wC (U:AV) (us:List Int) (n0:Nat):Prop where
 len:∀ H,Tb H 0 U=some us.length
 aZ:∀ H (i:Nat) (h:i < us.length),wa H 1 U i=some (.pv (.rp [i64 us[i]] 0))
 cut:∀ n,n0≤n→AV.cut n deep U=some U
theorem Gy {A:List ba} {id n sz bytes:Nat} {nl nl' ag:Bool} {h:Nf} {es ys:List PV} (hg:A[id]? =some (.tok sz n nl')) (hn:n=es.length) (hr:ab (es.length+ys.length) bytes):
 Gb A false h sz ag bytes (.uq id nl sz es) (.pv (.lit sz ys))=some (.uq id (nl&&ys.isEmpty) sz (es++ys),A.set id (.tok sz (es.length+ys.length) (nl&&ys.isEmpty))):=by
 subst hn
 simp only[Gb,Bool.false_eq_true,if_false,hg,xf,if_true,Option.bind_some]
 rw[if_pos ⟨trivial,trivial,trivial,hr⟩]
section
variable {A:List ba} {c:Nat}
def Ak (A:List ba) (c:Nat) (b:ba) (k1:Nat) (n1:Bool) (k5:Nat) (n5:Bool):List ba:=A.set c b++[.tok 1 k1 n1,.tok 5 k5 n5]
theorem Sq (hc:c < A.length) (b:ba) (k1:Nat) (n1:Bool) (k5:Nat) (n5:Bool):(Ak A c b k1 n1 k5 n5)[c]? =some b:=by
 unfold Ak
 rw[List.getElem?_append_left (by rw[List.length_set];exact hc),List.getElem?_set_self hc]
theorem bX (b:ba) (k1:Nat) (n1:Bool) (k5:Nat) (n5:Bool):(Ak A c b k1 n1 k5 n5)[A.length]? =some (.tok 1 k1 n1):=by
 unfold Ak
 rw[List.getElem?_append_right (by rw[List.length_set];exact Nat.le_refl _),List.length_set,Nat.sub_self];rfl
theorem WW (b:ba) (k1:Nat) (n1:Bool) (k5:Nat) (n5:Bool):(Ak A c b k1 n1 k5 n5)[A.length+1]? =some (.tok 5 k5 n5):=by
 unfold Ak
 rw[List.getElem?_append_right (by rw[List.length_set];omega),List.length_set,show A.length+1 - A.length=1 by omega];rfl
theorem Zt (hc:c < A.length) (b b':ba) (k1:Nat) (n1:Bool) (k5:Nat) (n5:Bool):(Ak A c b k1 n1 k5 n5).set c b'=Ak A c b' k1 n1 k5 n5:=by
 unfold Ak
 rw[List.set_append_left _ _ (by rw[List.length_set];exact hc),List.set_set]
theorem rJ (b:ba) (k1 j:Nat) (n1 m:Bool) (k5:Nat) (n5:Bool):(Ak A c b k1 n1 k5 n5).set A.length (.tok 1 j m)=Ak A c b j m k5 n5:=by
 unfold Ak
 rw[List.set_append_right _ _ (by rw[List.length_set];exact Nat.le_refl _),List.length_set,Nat.sub_self];rfl
theorem nJ (b:ba) (k1 j:Nat) (n1 m:Bool) (k5:Nat) (n5:Bool):(Ak A c b k1 n1 k5 n5).set (A.length+1) (.tok 5 j m)=Ak A c b k1 n1 j m:=by
 unfold Ak
 rw[List.set_append_right _ _ (by rw[List.length_set];omega),List.length_set,show A.length+1 - A.length=1 by omega];rfl
theorem Nn (b:ba) (k1:Nat) (n1:Bool) (k5:Nat) (n5:Bool):(Ak A c b k1 n1 k5 n5).length=A.length+2:=by
 simp[Ak]
theorem wK (hA:He A) {T R:PV} {un tot out:Int} {st fin:Bool} (k1:Nat) (n1:Bool) (k5:Nat) (n5:Bool):∀ o∈Ak A c (bc T R un tot out st fin) k1 n1 k5 n5,oa (A.length+2) o=some o:=by
 intro o ho
 unfold Ak at ho
 rcases List.mem_append.1 ho with h | h
 ·rcases List.mem_or_eq_of_mem_set h with h | rfl
  ·exact hA _ (by omega) _ h
  ·exact Xh _ _
 ·simp only[List.mem_cons,List.not_mem_nil,or_false] at h
  rcases h with rfl | rfl <;> rfl
theorem nH {call:Ta} {H:List ba} {T R:PV} {un tot out:Int} {st fin:Bool} (hc:H[c]? =some (bc T R un tot out st fin)) (h0:0≤tot) (h1:tot≤65536) {n:Nat}:
 xe call qb [.ptr c 0,.pv (i64 n)] H=some (.pv (i64 (if fin then 181 else if st then 182 else if (n:Int) > 65536 - tot then 183 else 0)),H):=by
 have e1:Jr H 1 (.ptr c 0) (.pv .Ye)=some false:=by simp only[Jr,hc,Ln]
 have p1:∀ d,place H d (.ptr c 0)=some (.ptr c (0+d)):=fun d=>gd hc d 0
 have l6:ta H false 1 (.ptr c 6)=some (.pv (.bool fin)):=by simp only[ta,hc,Ln];rfl
 have l5:ta H false 1 (.ptr c 5)=some (.pv (.bool st)):=by simp only[ta,hc,Ln];rfl
 have l3:ta H false 1 (.ptr c 3)=some (.pv (i64 tot)):=by simp only[ta,hc,Ln];rfl
 have w1:IntKind.i64.wrap (65536 - tot)=65536 - tot:=Aa (by omega)
 cases fin with
 |true=>simp -implicitDefEqProofs only[SX,sevalprocAttr,qb,e1,p1,l6]
 |false=>
  cases st with
  |true=>simp -implicitDefEqProofs only[SX,sevalprocAttr,qb,e1,p1,l6,l5,Bool.false_eq_true,if_false]
  |false=>
   by_cases h:(n:Int) > 65536 - tot
   ·have d1:decide ((n:Int) > 65536 - tot)=true:=decide_eq_true h
    simp -implicitDefEqProofs only[SX,sevalprocAttr,qb,e1,p1,l6,l5,l3,w1,d1,Bool.false_eq_true,if_false,if_pos h]
   ·have d1:decide ((n:Int) > 65536 - tot)=false:=decide_eq_false h
    simp -implicitDefEqProofs only[SX,sevalprocAttr,qb,e1,p1,l6,l5,l3,w1,d1,Bool.false_eq_true,if_false,if_neg h]
theorem uW {call:Ta} {E:Tr} (hA:He A) (hc:c < A.length) {T R:PV} {cd:Int→Option (List Int)} (hT:PD T cd) {un tot tot' out:Int} {fin:Bool} {rb:List Int} (hR:un=2→R= .lit 1 (rb.map u8)) (hn:un≠2→rb=[]) (hrb:rb.length≤8)
 {U:AV} {us:List Int} (hU:wC U us A.length) (hus:us.length≤65536) (ht0:0≤tot) (ht1:tot≤65536) (ho0:0≤out) (ho1:out≤524288)
 (h0:E.get 0= .ptr c 0) (h8:E.get 8= .uq A.length true 1 []) (h9:E.get 9= .uq (A.length+1) true 5 []) (h10:E.get 10= .pv (i64 tot)) (h35:E.get 35=U) (h36:E.get 36= .pv (i64 us.length)) (h37:E.get 37= .pv (i64 0)):
 Pd (fun r=>r.1.stop=true∧∃ E' acc evs st n1 n5,r=(.exit 0,⟨E',Ak A c (bc T R un tot' out st fin) acc.length n1 evs.length n5⟩)∧E'.get 0= .ptr c 0∧E'.get 8= .uq A.length n1 1 (acc.map u8)∧E'.get 9= .uq (A.length+1) n5 5 evs∧
  Xi cd un rb tot out 0 [] [] us=(acc,evs,st)∧(n1=true→acc=[])∧(n5=true→evs=[])∧acc.length≤8 * us.length)
  (qa call (.loop [0,8,9,10,35,36,37] Cd) ⟨E,Ak A c (bc T R un tot' out false fin) 0 true 0 true⟩):=by
 have hcut:Fit (A.length+2) [0,10,35,36] E:= .cons h0 (Er (by omega)) (.cons h10 Qa (.cons h35 (hU.cut _ (by omega)) (.cons h36 Qa (.nil _ _))))
 have hgd:=fun st k1 n1 k5 n5=>wK (c:=c) hA (T:=T) (R:=R) (un:=un) (tot:=tot') (out:=out) (st:=st) (fin:=fin) k1 n1 k5 n5
 refine yp (fun i t=>ee [0,10,35,36] E t.env∧t.env.get 37= .pv (i64 i)∧∃ acc evs n1 n5,t.H=Ak A c (bc T R un tot' out false fin) acc.length n1 evs.length n5∧t.env.get 8= .uq A.length n1 1 (acc.map u8)∧t.env.get 9= .uq (A.length+1) n5 5 evs∧
  Xi cd un rb tot out 0 [] [] us=Xi cd un rb tot out i acc evs (us.drop i)∧(n1=true→acc=[])∧(n5=true→evs=[])∧acc.length≤8 * i∧evs.length≤i) us.length (by unfold pa;omega) ?_ ?_ ?_
 ·rw[Nn]
  exact ah.all (Nn ..).symm (hgd false 0 true 0 true) (Fit.sub (.cons h37 Qa (.cons h8 (vn (by omega)) (.cons h9 (vn (by omega)) hcut))) rfl) fun E' hE=>⟨ee.sub hE rfl,by rw[hE 37 (by simp),h37];rfl,[],[],true,true,rfl,by rw[hE 8 (by simp),h8];rfl,by rw[hE 9 (by simp),h9],rfl,fun _=>rfl,fun _=>rfl,by simp,by simp⟩
 ·rintro i ⟨E1,H1⟩ hi ⟨k1,k2,acc,evs,n1,n5,k3,k8,k9,k4,k5,k6,k7,k10⟩
  simp only at k1 k2 k3 k8 k9
  subst k3
  have g0:=(k1 0 (by simp)).trans h0
  have g10:=(k1 10 (by simp)).trans h10
  have g35:=(k1 35 (by simp)).trans h35
  have g36:=(k1 36 (by simp)).trans h36
  have e1:decide ((i:Int) < (us.length:Int))=true:=Fa (by omega)
  have t1:IntKind.i64.wrap ((i:Int)+1)=((i+1:Nat):Int):=fj (by omega)
  have t2:IntKind.i64.wrap (tot+(i:Int))=tot+i:=Aa (by omega)
  have t3:IntKind.i64.wrap (out+(acc.length:Int))=out+acc.length:=Aa (by omega)
  have hat:=fun H=>hU.aZ H i hi
  have hen:=hT.enc us[i]
  have hlb:=hT.len us[i]
  rw[List.drop_eq_getElem_cons hi,Xi] at k4
  generalize us[i]=u at *
  have p1:∀ b k1 n1 k5 n5 d,place (Ak A c (.box b) k1 n1 k5 n5) d (.ptr c 0)=some (.ptr c (0+d)):=fun b k1 n1 k5 n5 d=>gd (Sq hc _ _ _ _ _) d 0
  have hB:∀ st,bc T R un tot' out st fin= .box [.pv T,.pv (i64 un),.pv R,.pv (i64 tot'),.pv (i64 out),.pv (.bool st),.pv (.bool fin)]:=fun _=>rfl
  have ld:∀ st k1 n1 k5 n5 o,ta (Ak A c (bc T R un tot' out st fin) k1 n1 k5 n5) false 1 (.ptr c o)=Og false 1 [.pv T,.pv (i64 un),.pv R,.pv (i64 tot'),.pv (i64 out),.pv (.bool st),.pv (.bool fin)] o:=fun st k1 n1 k5 n5 o=>by simp only[ta,Sq hc,hB]
  have l0:∀ st k1 n1 k5 n5,ta (Ak A c (bc T R un tot' out st fin) k1 n1 k5 n5) false 1 (.ptr c 0)=some (.pv T):=fun st k1 n1 k5 n5=>ld ..
  have l1:∀ st k1 n1 k5 n5,ta (Ak A c (bc T R un tot' out st fin) k1 n1 k5 n5) false 1 (.ptr c 1)=some (.pv (i64 un)):=fun st k1 n1 k5 n5=>ld ..
  have l2:∀ st k1 n1 k5 n5,ta (Ak A c (bc T R un tot' out st fin) k1 n1 k5 n5) false 1 (.ptr c 2)=some (.pv R):=fun st k1 n1 k5 n5=>ld ..
  have l4:∀ st k1 n1 k5 n5,ta (Ak A c (bc T R un tot' out st fin) k1 n1 k5 n5) false 1 (.ptr c 4)=some (.pv (i64 out)):=fun st k1 n1 k5 n5=>ld ..
  have pl:∀ st k1 n1 k5 n5 d,place (Ak A c (bc T R un tot' out st fin) k1 n1 k5 n5) d (.ptr c 0)=some (.ptr c (0+d)):=fun st k1 n1 k5 n5 d=>gd (Sq hc _ _ _ _ _) d 0
  have s5:∀ k1 n1 k5 n5,Ea (Ak A c (bc T R un tot' out false fin) k1 n1 k5 n5) 1 (.ptr c 5) (.pv (.bool true))=some (Ak A c (bc T R un tot' out true fin) k1 n1 k5 n5):=fun k1 n1 k5 n5=>by
   have h:=Zt hc (bc T R un tot' out false fin) (bc T R un tot' out true fin) k1 n1 k5 n5
   rw[← h]
   simp only[Ea,Sq hc,hB];rfl
  have ap1:∀ k5 n5 (b:List Int),b.length≤8→Gb (Ak A c (bc T R un tot' out false fin) acc.length n1 k5 n5) false .uq 1 false 1 (.uq A.length n1 1 (acc.map u8)) (.pv (.lit 1 (b.map u8)))=some (.uq A.length (n1&&(b.map u8).isEmpty) 1 ((acc++b).map u8),Ak A c (bc T R un tot' out false fin) (acc++b).length (n1&&(b.map u8).isEmpty) k5 n5):=fun k5 n5 b hb=>by
   rw[Gy (bX _ _ _ _ _) (by rw[List.length_map]) (by unfold ab;rw[List.length_map,List.length_map];omega),rJ,List.map_append,List.length_map,List.length_map,List.length_append]
  have ap5:∀ e,Gb (Ak A c (bc T R un tot' out false fin) acc.length n1 evs.length n5) false .uq 5 true 40 (.uq (A.length+1) n5 5 evs) (.pv (.lit 5 [e]))=some (.uq (A.length+1) false 5 (evs++[e]),Ak A c (bc T R un tot' out false fin) acc.length n1 (evs++[e]).length false):=fun e=>by
   rw[Lg (WW _ _ _ _ _) rfl (by unfold ab;omega),nJ,List.length_append];rfl
  have lu:∀ H,Tb H 0 (.uq A.length n1 1 (acc.map u8))=some acc.length:=fun H=>by simp[Tb]
  have m1:Ql (List.map AV.pv [PV.int .i64 0,.int .i64 0,.int .i64 0,.int .i64 0,.int .i64 0]) [(0,1,.pv (.int .i64 4)),(1,1,.pv (.int .i64 (tot+i))),(2,1,.pv (.int .i64 1)),(3,1,.pv (i64 u)),(4,1,.pv (.int .i64 (out+acc.length)))]=some ([i64 4,i64 (tot+i),i64 1,i64 u,i64 (out+acc.length)].map AV.pv):=rfl
  rw[Nn]
  generalize hQ:RQ _ _ _ _=Q
  cases hcd:cd u with
  |some b=>
   rw[hcd] at hen k4
   have hb8:=hlb b hcd
   have ap:=ap1 evs.length n5 b hb8
   simp -implicitDefEqProofs only[SX,sevalprocAttr,Cd,g0,g10,g35,g36,k2,k8,k9,e1,hat,Sa,pl,l0,hen,ap,t1]
   subst hQ
   rw[ml]
   generalize hEE:(Tr.set _ 37 _:Tr)=E2
   have kk:ee [0,10,35,36] E E2:=by
    rw[← hEE]
    repeat refine ee.set ?_ rfl
    exact k1
   have z37:E2.get 37= .pv (i64 (i+1:Nat)):=by rw[← hEE];simp[Tr.aa]
   have z8:E2.get 8= .uq A.length (n1&&(b.map u8).isEmpty) 1 ((acc++b).map u8):=by rw[← hEE];simp[Tr.aa]
   have z9:E2.get 9= .uq (A.length+1) n5 5 evs:=by rw[← hEE];simp[Tr.aa,k9]
   exact ah.all (Nn ..).symm (hgd _ _ _ _ _) (Fit.sub (.cons z37 Qa (.cons z8 (vn (by omega)) (.cons z9 (vn (by omega)) (hcut.ue kk)))) rfl) fun E' hE=>⟨kk.trans (ee.sub hE rfl),by rw[hE 37 (by simp),z37],acc++b,evs,_,n5,rfl,by rw[hE 8 (by simp),z8],by rw[hE 9 (by simp),z9],k4,fun h=>by
    rw[Bool.and_eq_true] at h
    rw[k5 h.1]
    cases b with
    |nil=>rfl
    |cons x y=>simp at h,k6,by rw[List.length_append];omega,by omega⟩
  |none=>
   rw[hcd] at hen k4
   have ap:=ap5 (Hx (tot+i) u (out+acc.length))
   unfold Hx at ap
   by_cases h3:un=3
   ·have d2:(un==2)=false:=beq_false_of_ne (by omega)
    have d3:(un==3)=true:=by rw[h3];rfl
    rw[if_pos h3] at k4
    simp -implicitDefEqProofs only[SX,sevalprocAttr,Cd,g0,g10,g35,g36,k2,k8,k9,e1,hat,Sa,pl,l0,l1,l4,lu,hen,t2,t3,ap,d2,d3,s5,ga.eq_1,ga.eq_2,List.set,Dd]
    subst hQ
    exact⟨_,acc,evs++[Hx (tot+i) u (out+acc.length)],true,n1,false,rfl,by simp[Tr.aa,g0],by simp[Tr.aa,k8],by simp[Tr.aa,Hx],k4,k5,fun h=>(by cases h),by omega⟩
   ·have d3:(un==3)=false:=beq_false_of_ne h3
    rw[if_neg h3] at k4
    by_cases h2:un=2
    ·have d2:(un==2)=true:=by rw[h2];rfl
     have hR2:=hR h2
     have ap':=ap1 (evs++[Hx (tot+i) u (out+acc.length)]).length false rb hrb
     unfold Hx at ap'
     have l2':∀ st k1 n1 k5 n5,ta (Ak A c (bc T R un tot' out st fin) k1 n1 k5 n5) false 1 (.ptr c 2)=some (.pv (.lit 1 (rb.map u8))):=fun st k1 n1 k5 n5=>by rw[l2,hR2]
     simp -implicitDefEqProofs only[SX,sevalprocAttr,Cd,g0,g10,g35,g36,k2,k8,k9,e1,hat,Sa,pl,l0,l1,l4,lu,hen,t1,t2,t3,ap,d2,l2',ap',ga.eq_1,ga.eq_2,List.set,Dd]
     subst hQ
     rw[ml]
     generalize hEE:(Tr.set _ 37 _:Tr)=E2
     have kk:ee [0,10,35,36] E E2:=by
      rw[← hEE]
      repeat refine ee.set ?_ rfl
      exact k1
     have z37:E2.get 37= .pv (i64 (i+1:Nat)):=by rw[← hEE];simp[Tr.aa]
     have z8:E2.get 8= .uq A.length (n1&&(rb.map u8).isEmpty) 1 ((acc++rb).map u8):=by rw[← hEE];simp[Tr.aa]
     have z9:E2.get 9= .uq (A.length+1) false 5 (evs++[Hx (tot+i) u (out+acc.length)]):=by rw[← hEE];simp[Tr.aa,Hx]
     exact ah.all (Nn ..).symm (hgd _ _ _ _ _) (Fit.sub (.cons z37 Qa (.cons z8 (vn (by omega)) (.cons z9 (vn (by omega)) (hcut.ue kk)))) rfl) fun E' hE=>⟨kk.trans (ee.sub hE rfl),by rw[hE 37 (by simp),z37],acc++rb,evs++[Hx (tot+i) u (out+acc.length)],_,false,rfl,by rw[hE 8 (by simp),z8],by rw[hE 9 (by simp),z9],k4,fun h=>by
      rw[Bool.and_eq_true] at h
      rw[k5 h.1]
      cases rb with
      |nil=>rfl
      |cons x y=>simp at h,fun h=>(by cases h),by rw[List.length_append];omega,by rw[List.length_append];simpa using k10⟩
    ·have d2:(un==2)=false:=beq_false_of_ne h2
     rw[show acc++rb=acc by rw[hn h2,List.append_nil]] at k4
     simp -implicitDefEqProofs only[SX,sevalprocAttr,Cd,g0,g10,g35,g36,k2,k8,k9,e1,hat,Sa,pl,l0,l1,l4,lu,hen,t1,t2,t3,ap,d2,d3,ga.eq_1,ga.eq_2,List.set,Dd]
     subst hQ
     rw[ml]
     generalize hEE:(Tr.set _ 37 _:Tr)=E2
     have kk:ee [0,10,35,36] E E2:=by
      rw[← hEE]
      repeat refine ee.set ?_ rfl
      exact k1
     have z37:E2.get 37= .pv (i64 (i+1:Nat)):=by rw[← hEE];simp[Tr.aa]
     have z8:E2.get 8= .uq A.length n1 1 (acc.map u8):=by rw[← hEE];simp[Tr.aa,k8]
     have z9:E2.get 9= .uq (A.length+1) false 5 (evs++[Hx (tot+i) u (out+acc.length)]):=by rw[← hEE];simp[Tr.aa,Hx]
     exact ah.all (Nn ..).symm (hgd _ _ _ _ _) (Fit.sub (.cons z37 Qa (.cons z8 (vn (by omega)) (.cons z9 (vn (by omega)) (hcut.ue kk)))) rfl) fun E' hE=>⟨kk.trans (ee.sub hE rfl),by rw[hE 37 (by simp),z37],acc,evs++[Hx (tot+i) u (out+acc.length)],n1,false,rfl,by rw[hE 8 (by simp),z8],by rw[hE 9 (by simp),z9],k4,k5,fun h=>(by cases h),by omega,by rw[List.length_append];simpa using k10⟩
 ·rintro⟨E1,H1⟩ ⟨k1,k2,acc,evs,n1,n5,k3,k8,k9,k4,k5,k6,k7,k10⟩
  simp only at k1 k2 k3 k8 k9
  subst k3
  have g36:=(k1 36 (by simp)).trans h36
  have g0:=(k1 0 (by simp)).trans h0
  rw[List.drop_length,Xi] at k4
  have e1:decide ((us.length:Int) < (us.length:Int))=false:=Ha (by omega)
  generalize hQ:(fun r:Ex×St=>r.1.stop=true∧_)=Q
  simp -implicitDefEqProofs only[SX,sevalprocAttr,Cd,g36,k2,e1]
  subst hQ
  exact⟨rfl,_,acc,evs,false,n1,n5,rfl,by simp[Tr.aa,g0],by simp[Tr.aa,k8],by simp[Tr.aa,k9],k4,k5,k6,k7⟩
theorem HE {call:Ta} {call':Ta} (hcall:∀ H n,call 62 [.ptr c 0,.pv (i64 n)] H=xe call' qb [.ptr c 0,.pv (i64 n)] H) (hA:He A) (hc:c < A.length) {T R:PV} {cd:Int→Option (List Int)} (hT:PD T cd) {un tot out:Int} {rb:List Int} (hR:un=2→R= .lit 1 (rb.map u8)) (hn:un≠2→rb=[]) (hrb:rb.length≤8)
 {U:AV} {us:List Int} (hU:wC U us A.length) (ht0:0≤tot) (ht1:tot+us.length≤65536) (ho0:0≤out) (ho1:out≤524288) (hb:A[c]? =some (bc T R un tot out false false)):
 Pd (fun r=>∃ acc evs st n1 n5,r=(.ic [.uq A.length n1 1 (acc.map u8),.uq (A.length+1) n5 5 evs,.pv (i64 0)],Ak A c (bc T R un (tot+us.length) (out+acc.length) st false) acc.length n1 evs.length n5)∧
  Xi cd un rb tot out 0 [] [] us=(acc,evs,st)∧(n1=true→acc=[])∧(n5=true→evs=[])∧acc.length≤8 * us.length) (xe call zc [.ptr c 0,U] A):=by
 have hf:=hcall A us.length
 rw[nH hb ht0 (by omega) (n:=us.length),if_neg (by simp),if_neg (by simp),if_neg (by omega)] at hf
 have lU:=hU.len
 have hB:∀ tot out st,bc T R un tot out st false= .box [.pv T,.pv (i64 un),.pv R,.pv (i64 tot),.pv (i64 out),.pv (.bool st),.pv (.bool false)]:=fun _ _ _=>rfl
 have hA2:A++[.tok 1 0 true]++[.tok 5 0 true]=Ak A c (bc T R un tot out false false) 0 true 0 true:=by
  have:A.set c (bc T R un tot out false false)=A:=by
   obtain⟨hl,hg⟩:=List.getElem?_eq_some_iff.1 hb
   rw[← hg];exact List.set_getElem_self hl
  unfold Ak
  rw[this,List.append_assoc];rfl
 have hlen1:(A++[ba.tok 1 0 true]).length=A.length+1:=by simp
 have ld:∀ tot out st k1 n1 k5 n5 o,ta (Ak A c (bc T R un tot out st false) k1 n1 k5 n5) false 1 (.ptr c o)=Og false 1 [.pv T,.pv (i64 un),.pv R,.pv (i64 tot),.pv (i64 out),.pv (.bool st),.pv (.bool false)] o:=fun tot out st k1 n1 k5 n5 o=>by simp only[ta,Sq hc,hB]
 have l3:∀ tot out st k1 n1 k5 n5,ta (Ak A c (bc T R un tot out st false) k1 n1 k5 n5) false 1 (.ptr c 3)=some (.pv (i64 tot)):=fun tot out st k1 n1 k5 n5=>ld ..
 have l4:∀ tot out st k1 n1 k5 n5,ta (Ak A c (bc T R un tot out st false) k1 n1 k5 n5) false 1 (.ptr c 4)=some (.pv (i64 out)):=fun tot out st k1 n1 k5 n5=>ld ..
 have pl:∀ tot out st k1 n1 k5 n5 d,place (Ak A c (bc T R un tot out st false) k1 n1 k5 n5) d (.ptr c 0)=some (.ptr c (0+d)):=fun tot out st k1 n1 k5 n5 d=>gd (Sq hc _ _ _ _ _) d 0
 have s3:∀ k1 n1 k5 n5 v,Ea (Ak A c (bc T R un tot out false false) k1 n1 k5 n5) 1 (.ptr c 3) (.pv (.int .i64 v))=some (Ak A c (bc T R un v out false false) k1 n1 k5 n5):=fun k1 n1 k5 n5 v=>by
  rw[← Zt hc (bc T R un tot out false false) (bc T R un v out false false) k1 n1 k5 n5]
  simp only[Ea,Sq hc,hB];rfl
 have s4:∀ tot st k1 n1 k5 n5 v,Ea (Ak A c (bc T R un tot out st false) k1 n1 k5 n5) 1 (.ptr c 4) (.pv (.int .i64 v))=some (Ak A c (bc T R un tot v st false) k1 n1 k5 n5):=fun tot st k1 n1 k5 n5 v=>by
  rw[← Zt hc (bc T R un tot out st false) (bc T R un tot v st false) k1 n1 k5 n5]
  simp only[Ea,Sq hc,hB];rfl
 have w1:IntKind.i64.wrap (tot+(us.length:Int))=tot+us.length:=Aa (by omega)
 have z0:((0:Int) != 0)=false:=rfl
 have hz1:(0 < 1)=True:=by simp
 have hz5:(0 < 5)=True:=by simp
 generalize hQ:(fun r:AV×List ba=>∃ acc evs st n1 n5,r=_∧_)=Q
 simp -implicitDefEqProofs only[SX,sevalprocAttr,zc,hf,lU,z0,PC,ff,hz1,hz5,hlen1,hA2,pl,l3,s3,w1]
 generalize hEE:(Tr.set _ 37 _:Tr)=E
 refine ya (uW (call:=call) (E:=E) (fin:=false) (tot:=tot) (tot':=tot+us.length) (cd:=cd) (rb:=rb) hA hc hT hR hn hrb hU (by omega) ht0 (by omega) ho0 ho1 (by rw[← hEE];simp[Tr.aa]) (by rw[← hEE];simp[Tr.aa]) (by rw[← hEE];simp[Tr.aa]) (by rw[← hEE];simp[Tr.aa]) (by rw[← hEE];simp[Tr.aa]) (by rw[← hEE];simp[Tr.aa]) (by rw[← hEE];simp[Tr.aa])) ?_
 rintro r ⟨_,E2,acc,evs,st,n1,n5,rfl,g0,g8,g9,k4,k5,k6,k7⟩
 have w2:IntKind.i64.wrap (out+(acc.length:Int))=out+acc.length:=Aa (by omega)
 have lu:∀ H,Tb H 0 (.uq A.length n1 1 (acc.map u8))=some acc.length:=fun H=>by simp[Tb]
 have hm:Ut [AV.uq A.length n1 1 (acc.map u8),.uq (A.length+1) n5 5 evs,.pv (.int .i64 0)]= .ic [.uq A.length n1 1 (acc.map u8),.uq (A.length+1) n5 5 evs,.pv (.int .i64 0)]:=rfl
 simp -implicitDefEqProofs only[SX,sevalprocAttr,g0,g8,g9,pl,l4,lu,w2,s4,hm]
 subst hQ
 exact⟨acc,evs,st,n1,n5,rfl,k4,k5,k6,k7⟩
end
end Go.AM.B1
namespace Go.AM.B1
open Go.AM Go.AM.So
theorem Cr.take {B:PV} {bs:List Int} (h:Cr B bs) {n:Nat} (hn:n≤bs.length):∃ B',(∀ H,Bg H 1 (.pv B) none (some (n:Int))=some (.pv B'))∧Cr B' (bs.take n)∧(AV.pv B').one=true:=by
 rcases h.is with⟨rfl,hb⟩ | rfl
 ·have:bs=[]:=by simpa using hb
  subst this
  have:n=0:=by simpa using hn
  subst this
  exact⟨.fa,fun H=>rfl,⟨.inl ⟨rfl,rfl⟩,by simp⟩,rfl⟩
 ·refine⟨.lit 1 ((bs.take n).map (PV.int .u8)),fun H=> ?_,⟨.inr rfl,fun b hb=>h.JI b (List.mem_of_mem_take hb)⟩,rfl⟩
  simp only[Bg,Option.getD_some,Option.getD_none]
  rw[if_pos ⟨by omega,trivial,by omega,by omega,by simp;omega⟩]
  simp[List.map_take]
end Go.AM.B1
