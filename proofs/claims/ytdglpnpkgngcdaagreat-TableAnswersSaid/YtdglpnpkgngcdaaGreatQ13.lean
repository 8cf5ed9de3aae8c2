/- What functions of the program compute. -/
import Derived.Test.YtdglpnpkgngcdaaGreatQ12
import Derived.Test.YtdglpnpkgngcdaaGreatQ9
import Derived.Test.YtdglpnpkgngcdaaGreatQ1
import Derived.Test.YtdglpnpkgngcdaaGreatQ3
import Derived.Test.YtdglpnpkgngcdaaGreatQ7
import Derived.Test.YtdglpnpkgngcdaaGreatQ10
import Derived.Test.YtdglpnpkgngcdaaGreatQ6
import Derived.Test.YtdglpnpkgngcdaaGreatQ11
set_option linter.unusedVariables false
set_option linter.unusedSimpArgs false
namespace Go.AM.B1
open Go.AM Go.AM.So
def gI (a b:Int):Int:=if a < b then -1 else if a > b then 1 else 0
theorem qK (a b:Int):mh [i64 a,i64 b]=some (i64 (gI a b)):=by
 have hn:∀ x:Int,Sj [i64 x]=some (.bool false):=fun x=>by
  have z:(x != x)=false:=by simp
  simp -implicitDefEqProofs only[Sj,SX,sevalprocAttr,cp,z]
 unfold gI
 by_cases h1:a < b
 ·have d1:decide (a < b)=true:=Da h1
  rw[if_pos h1]
  simp -implicitDefEqProofs only[mh,SX,sevalprocAttr,Ii,hn,d1]
 ·have d1:decide (a < b)=false:=Ha h1
  rw[if_neg h1]
  by_cases h2:a > b
  ·have d2:decide (a > b)=true:=Da h2
   rw[if_pos h2]
   simp -implicitDefEqProofs only[mh,SX,sevalprocAttr,Ii,hn,d1,d2]
  ·have d2:decide (a > b)=false:=Ha h2
   rw[if_neg h2]
   simp -implicitDefEqProofs only[mh,SX,sevalprocAttr,Ii,hn,d1,d2]
theorem aJ (call:Za) (a b c u:Int) (H:List ba):Ni call yh [.pv (.agg [i64 a,i64 b,i64 c]),.pv (i64 u)] H=some (.pv (i64 (gI a u)),H):=by
 have hc:=qK a u
 have l0:∀ H,ya H false 1 (.pv (.rp [i64 a,i64 b,i64 c] 0))=some (.pv (i64 a)):=fun H=>rfl
 have l1:∀ H,place H 0 (.pv (.rp [i64 a,i64 b,i64 c] 0))=some (.pv (.rp [i64 a,i64 b,i64 c] 0)):=fun H=>rfl
 simp -implicitDefEqProofs only[SX,sevalprocAttr,yh,l0,l1,hc]
def r0 (r:List Int):Int:=r.getD 0 0
def r1 (r:List Int):Int:=r.getD 1 0
def r2 (r:List Int):Int:=r.getD 2 0
theorem jY {r:List Int} (h:r.length=3):r=[r0 r,r1 r,r2 r]:=by
 match r,h with
 | [a,b,c],_=>rfl
section
variable {RW:PV} {D:List (List Int)} (hR:Di 3 RW (D.map vF)) (hD:∀ r∈D,r.length=3)
include hR hD
theorem Gz {i:Nat} (hi:i < D.length) (H:List ba):qa H 3 (.pv RW) (i:Int)=some (.pv (.rp [i64 (r0 D[i]),i64 (r1 D[i]),i64 (r2 D[i])] 0)):=by
 rw[hR.lit (i:=i) (by simpa using hi)]
 simp only[qa]
 have h3:=jY (hD _ (List.getElem_mem hi))
 rw[if_pos ⟨trivial,by unfold Fa;rw[List.length_map];omega⟩,Int.toNat_natCast,List.getElem?_map,List.getElem?_eq_getElem hi,Option.map_some,Option.map_some]
 congr 4
 show (vF D[i]).cells=_
 unfold vF
 generalize D[i]=r at *
 match r,h3 with
 |r,h3=>rw[h3];rfl
variable (hs:∀ i j (h:i < j) (hj:j < D.length),r0 D[i]≤r0 D[j]) (hlen:D.length≤32)
include hs hlen
theorem LW {H:List ba} (hH:Ng H) (u:Int):∃ i:Nat,i≤D.length∧(∀ k (hk:k < D.length),k < i→r0 D[k] < u)∧(∀ k (hk:k < D.length),i≤k→u≤r0 D[k])∧
 Ni (Ga jd 7) Ta [.pv RW,.pv (i64 u),.gl 41 []] H=some (.pv (.Zb [i64 i,.bool (if h:i < D.length then decide (r0 D[i]=u) else false)]),H):=by
 have lR:=hR.len
 rw[List.length_map] at lR
 have c41:jd 41=some yh:=rfl
 have r3:∀ H (x y z:PV),ya H true 3 (.pv (.rp [x,y,z] 0))=some (.pv (.agg [x,y,z])):=fun H x y z=>rfl
 have hcl:∀ n,AV.cut n deep (.gl 41 [])=some (.gl 41 []):=fun n=>rfl
 have hloop:=fun (E:Tr) (h0:E.get 0= .pv RW) (h1:E.get 1= .pv (i64 u)) (h2:E.get 2= .gl 41 []) (h8:E.get 8= .pv (i64 D.length)) (h9:E.get 9= .pv (i64 0)) (h10:E.get 10= .pv (i64 D.length))=>
  JQ (call:=Ga jd 7) (b:=wb) (live:=[0,1,2,8,9,10]) (s:=⟨E,H⟩)
   (Q:=fun r=>∃ E' i,r=(.exit 0,⟨E',H⟩)∧Zd [0,1,2,8] E E'∧E'.get 9= .pv (i64 (i:Nat))∧i≤D.length∧(∀ k (hk:k < D.length),k < i→r0 D[k] < u)∧(∀ k (hk:k < D.length),i≤k→u≤r0 D[k]))
   (fun m t=>Zd [0,1,2,8] E t.env∧t.H=H∧∃ i j:Nat,t.env.get 9= .pv (i64 i)∧t.env.get 10= .pv (i64 j)∧i≤j∧j≤D.length∧m=j - i∧(∀ k (hk:k < D.length),k < i→r0 D[k] < u)∧(∀ k (hk:k < D.length),j≤k→u≤r0 D[k]))
   D.length (by unfold oa;omega)
   (Xg.all rfl (hH _ (Nat.le_refl _)) (Fit.cons h0 Ia (.cons h1 Ia (.cons h2 (hcl _) (.cons h8 Ia (.cons h9 Ia (.cons h10 Ia (.nil _ _))))))) fun E' hE=>⟨Zd.sub hE rfl,rfl,0,D.length,by rw[hE 9 (by simp),h9];rfl,by rw[hE 10 (by simp),h10],by omega,by omega,by omega,fun k _ h=>by omega,fun k hk h=>by omega⟩)
   (by
    rintro m ⟨E1,H1⟩ ⟨k1,k2,i,j,k9,k10,hij,hj,hm,ha,hb⟩
    simp only at k1 k2 k9 k10
    replace k2:=k2.symm
    subst k2
    by_cases hlt:i < j
    ·have e1:decide ((i:Int) < (j:Int))=true:=Da (by omega)
     have g0:=(k1 0 (by simp)).trans h0
     have g1:=(k1 1 (by simp)).trans h1
     have g2:=(k1 2 (by simp)).trans h2
     obtain⟨h,hh⟩:∃ h,h=(i+j) / 2:=⟨_,rfl⟩
     have hhD:h < D.length:=by omega
     have a1:=Gz hR hD hhD
     have hc:=aJ (Ga jd 6) (r0 D[h]) (r1 D[h]) (r2 D[h]) u H
     have w1:IntKind.i64.wrap ((i:Int)+(j:Int))=(i:Int)+j:=Ba (by omega)
     have w2:IntKind.u64.wrap ((i:Int)+(j:Int))=(i:Int)+j:=by
      unfold IntKind.wrap;simp[IntKind.signed,IntKind.bits];omega
     have w3:((i:Int)+(j:Int)).fdiv (2 ^ min 1 IntKind.u64.bits)=(h:Int):=by
      show ((i:Int)+(j:Int)).fdiv 2=_
      rw[Int.fdiv_eq_ediv_of_nonneg _ (by omega)];omega
     have w4:IntKind.i64.wrap (h:Int)=(h:Int):=Ba (by omega)
     have w5:IntKind.i64.wrap ((h:Int)+1)=((h+1:Nat):Int):=mj (by omega)
     have z0:((1:Int) < 0)=False:=by simp
     generalize hQ:RQ _ _ _ _=Q
     by_cases hcu:r0 D[h] < u
     ·have hcm:gI (r0 D[h]) u= -1:=by unfold gI;rw[if_pos hcu]
      have z1:decide ((-1:Int) < 0)=true:=rfl
      rw[hcm] at hc
      simp -implicitDefEqProofs only[SX,sevalprocAttr,wb,k9,k10,e1,g0,g1,g2,a1,r3,w1,w2,w3,w4,w5,z0,c41,hc,z1]
      subst hQ
      rw[Xl]
      generalize hEE:(Tr.set _ 9 _:Tr)=E2
      have kk:Zd [0,1,2,8] E E2:=by
       rw[← hEE]
       repeat refine Zd.set ?_ rfl
       exact k1
      have z9:E2.get 9= .pv (i64 (h+1:Nat)):=by rw[← hEE];simp[Tr.aa]
      have z10:E2.get 10= .pv (i64 j):=by rw[← hEE];simp[Tr.aa,k10]
      exact Xg.all rfl (hH _ (Nat.le_refl _)) (Fit.sub (.cons z9 Ia (.cons z10 Ia (Fit.Be (l:=[0,1,2,8]) (.cons h0 Ia (.cons h1 Ia (.cons h2 (hcl _) (.cons h8 Ia (.nil _ _))))) kk))) rfl) fun E' hE=>⟨j - (h+1),by omega,kk.trans (Zd.sub hE rfl),rfl,h+1,j,by rw[hE 9 (by simp),z9],by rw[hE 10 (by simp),z10],by omega,hj,rfl,fun k hk hkh=>by
       rcases Nat.lt_or_ge k h with h5 | h5
       ·exact Int.lt_of_le_of_lt (hs k h h5 hhD) hcu
       ·obtain rfl:k=h:=by omega
        exact hcu,hb⟩
     ·have z1:decide (gI (r0 D[h]) u < 0)=false:=Ha (by unfold gI;rw[if_neg hcu];split <;> omega)
      simp -implicitDefEqProofs only[SX,sevalprocAttr,wb,k9,k10,e1,g0,g1,g2,a1,r3,w1,w2,w3,w4,w5,z0,c41,hc,z1]
      subst hQ
      rw[Xl]
      generalize hEE:(Tr.set _ 10 _:Tr)=E2
      have kk:Zd [0,1,2,8] E E2:=by
       rw[← hEE]
       repeat refine Zd.set ?_ rfl
       exact k1
      have z9:E2.get 9= .pv (i64 i):=by rw[← hEE];simp[Tr.aa,k9]
      have z10:E2.get 10= .pv (i64 h):=by rw[← hEE];simp[Tr.aa]
      exact Xg.all rfl (hH _ (Nat.le_refl _)) (Fit.sub (.cons z9 Ia (.cons z10 Ia (Fit.Be (l:=[0,1,2,8]) (.cons h0 Ia (.cons h1 Ia (.cons h2 (hcl _) (.cons h8 Ia (.nil _ _))))) kk))) rfl) fun E' hE=>⟨h - i,by omega,kk.trans (Zd.sub hE rfl),rfl,i,h,by rw[hE 9 (by simp),z9],by rw[hE 10 (by simp),z10],by omega,by omega,rfl,ha,fun k hk hkh=>by
       rcases Nat.lt_or_ge h k with h5 | h5
       ·exact Int.le_trans (Int.not_lt.1 hcu) (hs h k h5 hk)
       ·obtain rfl:k=h:=by omega
        omega⟩
    ·obtain rfl:i=j:=by omega
     have e1:decide ((i:Int) < (i:Int))=false:=Ha (by omega)
     generalize hQ:RQ _ _ _ _=Q
     simp -implicitDefEqProofs only[SX,sevalprocAttr,wb,k9,k10,e1]
     subst hQ
     exact⟨_,i,rfl,by repeat refine Zd.set ?_ rfl
                      exact k1,by simp[Tr.aa,k9],hj,ha,hb⟩)
 have key:Td (fun r=>∃ i:Nat,i≤D.length∧(∀ k (hk:k < D.length),k < i→r0 D[k] < u)∧(∀ k (hk:k < D.length),i≤k→u≤r0 D[k])∧r=(.pv (.Zb [i64 i,.bool (if h:i < D.length then decide (r0 D[i]=u) else false)]),H)) (Ni (Ga jd 7) Ta [.pv RW,.pv (i64 u),.gl 41 []] H):=by
  generalize hQ:(fun r:AV×List ba=>∃ i:Nat,_)=Q
  simp -implicitDefEqProofs only[SX,sevalprocAttr,Ta,lR]
  generalize hEE:(Tr.set _ 10 _:Tr)=E
  refine xa (hloop E (by rw[← hEE];simp[Tr.aa]) (by rw[← hEE];simp[Tr.aa]) (by rw[← hEE];simp[Tr.aa]) (by rw[← hEE];simp[Tr.aa]) (by rw[← hEE];simp[Tr.aa]) (by rw[← hEE];simp[Tr.aa])) ?_
  have h0:E.get 0= .pv RW:=by rw[← hEE];simp[Tr.aa]
  have h1:E.get 1= .pv (i64 u):=by rw[← hEE];simp[Tr.aa]
  have h2:E.get 2= .gl 41 []:=by rw[← hEE];simp[Tr.aa]
  have h8:E.get 8= .pv (i64 D.length):=by rw[← hEE];simp[Tr.aa]
  rintro r ⟨_,E',i,rfl,k1,k9,hi,ha,hb⟩
  have g0:=(k1 0 (by simp)).trans h0
  have g1:=(k1 1 (by simp)).trans h1
  have g2:=(k1 2 (by simp)).trans h2
  have g8:=(k1 8 (by simp)).trans h8
  by_cases hlt:i < D.length
  ·have e1:decide ((i:Int) < (D.length:Int))=true:=Da (by omega)
   have a1:=Gz hR hD hlt
   have hc:=aJ (Ga jd 6) (r0 D[i]) (r1 D[i]) (r2 D[i]) u H
   have hge:=hb i hlt (Nat.le_refl _)
   have z:(gI (r0 D[i]) u==0)=decide (r0 D[i]=u):=by
    unfold gI
    rw[if_neg (by omega)]
    by_cases h5:r0 D[i] > u
    ·rw[if_pos h5,Ha (by omega)];rfl
    ·rw[if_neg h5,Da (by omega)];rfl
   simp -implicitDefEqProofs only[SX,sevalprocAttr,k9,g0,g1,g2,g8,e1,a1,r3,c41,hc,z]
   subst hQ
   exact⟨i,hi,ha,hb,by rw[dif_pos hlt]⟩
  ·have e1:decide ((i:Int) < (D.length:Int))=false:=Ha (by omega)
   simp -implicitDefEqProofs only[SX,sevalprocAttr,k9,g0,g1,g2,g8,e1]
   subst hQ
   exact⟨i,hi,ha,hb,by rw[dif_neg hlt]⟩
 obtain⟨r,h1,i,h2,h3,h4,rfl⟩:=Fc key
 exact⟨i,h2,h3,h4,h1⟩
end
theorem bP {ss:List dc} {r:List Int} (h:r∈Oi ss):∃ j,∃ hj:j < ss.length,r=Hv ss[j] j:=by
 have:=(gq ss).mem_iff.1 h
 unfold Li at this
 obtain⟨j,hj,rfl⟩:=List.mem_map.1 this
 have hj:=List.mem_range.1 hj
 exact⟨j,hj,by rw[List.getD_eq_getElem?_getD,List.getElem?_eq_getElem hj];rfl⟩
theorem kQ {ss:List dc} {j:Nat} (hj:j < ss.length):Hv ss[j] j∈Oi ss:=by
 refine (gq ss).mem_iff.2 ?_
 unfold Li
 refine List.mem_map.2 ⟨j,List.mem_range.2 hj,?_⟩
 rw[List.getD_eq_getElem?_getD,List.getElem?_eq_getElem hj];rfl
theorem wH (ss:List dc) (i j:Nat) (h:i < j) (hj:j < (Oi ss).length):r0 (Oi ss)[i]≤r0 (Oi ss)[j]:=by
 obtain⟨h1,h2,h3⟩:=yz 3 0 (Li ss ss.length).toArray
 have hj':j < (Li ss ss.length).toArray.size:=by rw[← h1];simpa[Oi] using hj
 have h4:=h3 i j h hj'
 have key:∀ k (hk:k < (Oi ss).length),Fw 3 0 (Ao 3 0 (Li ss ss.length).toArray)[k]! =r0 (Oi ss)[k]:=by
  intro k hk
  have hk':k < (Ao 3 0 (Li ss ss.length).toArray).size:=by simpa[Oi] using hk
  rw[getElem!_pos _ k hk']
  have e:(Ao 3 0 (Li ss ss.length).toArray)[k]=(Oi ss)[k]:=by simp[Oi]
  have h3:=vA (List.getElem_mem hk)
  rw[e]
  generalize (Oi ss)[k]=r at *
  unfold Fw r0
  rw[if_pos h3]
 rw[key i (by omega),key j hj] at h4
 omega
theorem sJ (ss:List dc):(Oi ss).Nodup:=by
 refine (gq ss).nodup_iff.2 ?_
 unfold Li List.Nodup
 rw[List.pairwise_map]
 refine List.Pairwise.imp ?_ (List.nodup_range (n:=ss.length))
 intro i j h e
 unfold Hv at e
 injection e with _ e
 injection e with _ e
 injection e with e _
 omega
def has (s:dc) (u:Int):Prop:=s.first≤u∧u < s.first+Ca s.parts
theorem WH {ss:List dc} (Aa:Hc ss) {i j:Nat} (hi:i < ss.length) (hj:j < ss.length) {u:Int} (h1:has ss[i] u) (h2:has ss[j] u):i=j:=by
 have hap:=Aa.apart
 rw[List.pairwise_iff_getElem] at hap
 have e1:=(Aa.As _ (List.getElem_mem hi)).Nh
 have e2:=(Aa.As _ (List.getElem_mem hj)).Nh
 unfold has at h1 h2
 rcases Nat.lt_trichotomy i j with h | h | h
 ·exact absurd (hap i j hi hj h u) (fun hn=>hn ⟨by omega,by omega⟩)
 ·exact h
 ·exact absurd (hap j i hj hi h u) (fun hn=>hn ⟨by omega,by omega⟩)
section
variable {T:PV} {ss:List dc} {l:List (List Oe)} (hT:mv T ss l) (Aa:Hc ss)
include hT Aa
theorem ZT (u:Int):(∃ j,∃ hj:j < ss.length,has ss[j] u∧Jd [T,i64 u]=some (.Zb [.agg [i64 ss[j].first,i64 (ss[j].first+Ca ss[j].parts - 1),i64 j],.bool true]))∨
 ((∀ s∈ss,¬has s u)∧Jd [T,i64 u]=some (.Zb [.agg [i64 0,i64 0,i64 0],.bool false])):=by
 obtain⟨S',NX,DG,RW,rfl,_,_,_,hRW⟩:=hT.ex
 have hrp:=Bt (a:=S') (b:=Ai l) (c:=NX) (d:=DG) (e:=RW) (f:=i64 (Og ss))
 have l4:=fun H=>(hrp H).2.2.1
 generalize ([S',Ai l,NX,DG,RW,i64 (Og ss)]:List PV)=R at *
 obtain⟨D,hRW,hDr,hDm,hDh,hDl,hDs,hnd⟩:∃ D:List (List Int),Di 3 RW (D.map vF)∧(∀ r∈D,r.length=3)∧(∀ r∈D,∃ j,∃ hj:j < ss.length,r=Hv ss[j] j)∧(∀ j (hj:j < ss.length),Hv ss[j] j∈D)∧D.length=ss.length∧(∀ i j (h:i < j) (hj:j < D.length),r0 D[i]≤r0 D[j])∧D.Nodup:=
  ⟨Oi ss,hRW,fun r hr=>vA hr,fun r hr=>bP hr,fun j hj=>kQ hj,XA ss,wH ss,sJ ss⟩
 have h32:=Aa.len
 have hg:Ng [ba.box [.pv (i64 0),.pv (i64 0),.pv (i64 0)]]:=fun n _ o ho=>by
  rw[List.mem_singleton] at ho;subst ho;exact Fo n [i64 0,i64 0,i64 0]
 obtain⟨i,hi,ha,hb,hrun⟩:=LW hRW hDr hDs (by omega) hg u
 have c40:jd 40=some Ta:=rfl
 have b0:∀ a b c d e f,Ra [ba.box [.pv a,.pv b,.pv c]] 3 (.ptr 0 0) (.pv (.agg [.int .i64 d,.int .i64 e,.int .i64 f]))=some [.box [.pv (i64 d),.pv (i64 e),.pv (i64 f)]]:=fun a b c d e f=>rfl
 have ld:∀ a b c,ya [ba.box [.pv a,.pv b,.pv c]] true 3 (.ptr 0 0)=some (.pv (.agg [a,b,c])):=fun a b c=>rfl
 have r3:∀ H (x y z:PV),ya H true 3 (.pv (.rp [x,y,z] 0))=some (.pv (.agg [x,y,z])):=fun H x y z=>rfl
 have r31:∀ H (x y z:PV),ya H false 1 (.pv (.rp [x,y,z] 1))=some (.pv y):=fun H x y z=>rfl
 have fin:∀ k (hk:k < D.length),(∀ m (hm:m < D.length),k < m→u < r0 D[m])→r0 D[k]≤u→
  ((u≤r1 D[k]→∃ j,∃ hj:j < ss.length,has ss[j] u∧PV.agg [i64 (r0 D[k]),i64 (r1 D[k]),i64 (r2 D[k])]= .agg [i64 ss[j].first,i64 (ss[j].first+Ca ss[j].parts - 1),i64 j])∧(¬ u≤r1 D[k]→∀ s∈ss,¬has s u)):=by
  intro k hk hgt hle
  obtain⟨j',hj',hr'⟩:=hDm _ (List.getElem_mem hk)
  constructor
  ·intro h1
   rw[hr'] at h1 hle ⊢
   refine⟨j',hj',⟨hle,?_⟩,rfl⟩
   have:u≤ss[j'].first+Ca ss[j'].parts - 1:=h1
   omega
  ·intro h1 s hs hh
   obtain⟨j,hj,rfl⟩:=List.getElem_of_mem hs
   obtain⟨m,hm,hmr⟩:=List.getElem_of_mem (hDh j hj)
   have hh':=hh
   unfold has at hh'
   have hp:=Cd (Aa.As _ (List.getElem_mem hj')).parts
   rcases Nat.lt_or_ge k m with h | h
   ·have:=hgt m hm h
    rw[hmr] at this
    have:u < ss[j].first:=this
    omega
   ·have h3:r0 D[m]≤r0 D[k]:=by
     rcases Nat.lt_or_ge m k with h5 | h5
     ·exact hDs m k h5 hk
     ·have:m=k:=by omega
      subst this;exact Int.le_refl _
    rw[hmr] at h3
    rw[hr'] at h3 hle h1
    have h3:ss[j].first≤ss[j'].first:=h3
    have hle:ss[j'].first≤u:=hle
    have e:j=j':=WH Aa hj hj' (u:=ss[j'].first) ⟨h3,by omega⟩ ⟨Int.le_refl _,by omega⟩
    subst e
    have:¬u≤ss[j].first+Ca ss[j].parts - 1:=h1
    omega
 have step:∀ (k:Nat) (hk:k < D.length),(∀ q (hq:q < D.length),k < q→u < r0 D[q])→r0 D[k]≤u→∀ R0:PV,
  (u≤r1 D[k]→R0= .Zb [.agg [i64 (r0 D[k]),i64 (r1 D[k]),i64 (r2 D[k])],.bool true])→(¬ u≤r1 D[k]→R0= .Zb [.agg [i64 0,i64 0,i64 0],.bool false])→
  (∃ j,∃ hj:j < ss.length,has ss[j] u∧R0= .Zb [.agg [i64 ss[j].first,i64 (ss[j].first+Ca ss[j].parts - 1),i64 j],.bool true])∨((∀ s∈ss,¬has s u)∧R0= .Zb [.agg [i64 0,i64 0,i64 0],.bool false]):=by
  intro k hk h1 h2 R0 h3 h4
  obtain⟨f1,f2⟩:=fin k hk h1 h2
  by_cases hc:u≤r1 D[k]
  ·obtain⟨j,hj,g1,g2⟩:=f1 hc
   exact .inl ⟨j,hj,g1,by rw[h3 hc,g2]⟩
  ·exact .inr ⟨f2 hc,h4 hc⟩
 suffices key:∃ R0,Jd [.rp R 0,i64 u]=some R0∧((∃ j,∃ hj:j < ss.length,has ss[j] u∧R0= .Zb [.agg [i64 ss[j].first,i64 (ss[j].first+Ca ss[j].parts - 1),i64 j],.bool true])∨((∀ s∈ss,¬has s u)∧R0= .Zb [.agg [i64 0,i64 0,i64 0],.bool false])) by
  obtain⟨R0,k1,⟨j,hj,k2,rfl⟩ | ⟨k2,rfl⟩⟩:=key
  ·exact .inl ⟨j,hj,k2,k1⟩
  ·exact .inr ⟨k2,k1⟩
 by_cases his:∃ h:i < D.length,r0 D[i]=u
 ·obtain⟨h,he⟩:=his
  rw[dif_pos h,Da he] at hrun
  have hgt:∀ q (hq:q < D.length),i < q→u < r0 D[q]:=by
   intro q hq hiq
   have h3:=hDs i q hiq hq
   rcases Int.lt_or_le u (r0 D[q]) with h5 | h5
   ·exact h5
   ·exfalso
    obtain⟨j,hj,hr⟩:=hDm _ (List.getElem_mem h)
    obtain⟨j',hj',hr'⟩:=hDm _ (List.getElem_mem hq)
    have hp:=Cd (Aa.As _ (List.getElem_mem hj)).parts
    have hp':=Cd (Aa.As _ (List.getElem_mem hj')).parts
    have e1:ss[j].first=u:=by rw[hr] at he;exact he
    have e2:ss[j'].first≤u:=by rw[hr'] at h5;exact h5
    have e3:u≤ss[j'].first:=by rw[hr',he] at h3;exact h3
    have:j=j':=WH Aa hj hj' (u:=u) ⟨by omega,by omega⟩ ⟨by omega,by omega⟩
    subst this
    have:=(List.getElem_inj hnd).1 (hr.trans hr'.symm)
    omega
  have a1:=Gz hRW hDr h
  have z1:decide ((i:Int) < 0)=false:=Ha (by omega)
  refine⟨_,?_,step i h hgt (by omega) (if u≤r1 D[i] then .Zb [.agg [i64 (r0 D[i]),i64 (r1 D[i]),i64 (r2 D[i])],.bool true] else .Zb [.agg [i64 0,i64 0,i64 0],.bool false]) (fun h=>by rw[if_pos h]) (fun h=>by rw[if_neg h])⟩
  by_cases hc:u≤r1 D[i]
  ·have z2:decide (u > r1 D[i])=false:=Ha (by omega)
   rw[if_pos hc]
   simp -implicitDefEqProofs only[Jd,SX,sevalprocAttr,og,Bs,eF,l4,c40,hrun,z1,a1,z2,r31,r3,b0,ld]
  ·have z2:decide (u > r1 D[i])=true:=Da (by omega)
   rw[if_neg hc]
   simp -implicitDefEqProofs only[Jd,SX,sevalprocAttr,og,Bs,eF,l4,c40,hrun,z1,a1,z2,r31,r3,b0,ld]
 ·have hf:(if h:i < D.length then decide (r0 D[i]=u) else false)=false:=by
   by_cases h:i < D.length
   ·rw[dif_pos h];exact Ha fun e=>his ⟨h,e⟩
   ·rw[dif_neg h]
  rw[hf] at hrun
  have w1:IntKind.i64.wrap ((i:Int) - 1)=(i:Int) - 1:=Ba (by omega)
  cases i with
  |zero=>
   have z1:decide ((-1:Int) < 0)=true:=rfl
   have w1:IntKind.i64.wrap (-1)= -1:=Ba (by decide)
   have hrun:Ni (Ga jd 7) Ta [.pv RW,.pv (i64 u),.gl 41 []] [.box [.pv (i64 0),.pv (i64 0),.pv (i64 0)]]=some (.pv (.Zb [i64 0,.bool false]),[.box [.pv (i64 0),.pv (i64 0),.pv (i64 0)]]):=hrun
   refine⟨.Zb [.agg [i64 0,i64 0,i64 0],.bool false],?_,.inr ⟨fun s hs hh=> ?_,rfl⟩⟩
   ·simp -implicitDefEqProofs only[Jd,SX,sevalprocAttr,og,Bs,eF,l4,c40,hrun,w1,z1,b0,ld]
   ·obtain⟨j,hj,rfl⟩:=List.getElem_of_mem hs
    obtain⟨m,hm,hmr⟩:=List.getElem_of_mem (hDh j hj)
    have h6:=hb m hm (Nat.zero_le _)
    have hne:r0 D[m]≠u:=by
     intro e
     have h7:=hb 0 (by omega) (Nat.le_refl _)
     have h8:r0 D[0]≤r0 D[m]:=by
      rcases Nat.eq_zero_or_pos m with h9 | h9
      ·subst h9;exact Int.le_refl _
      ·exact hDs 0 m h9 hm
     exact his ⟨by omega,by omega⟩
    rw[hmr] at h6 hne
    have h6:u≤ss[j].first:=h6
    have hne:ss[j].first≠u:=hne
    unfold has at hh;omega
  |succ i=>
   have h:i < D.length:=by omega
   have w2:((i+1:Nat):Int) - 1=(i:Int):=by omega
   rw[w2] at w1
   have z1:decide ((i:Int) < 0)=false:=Ha (by omega)
   have a1:=Gz hRW hDr h
   have hlt:=ha i h (by omega)
   have hgt:∀ q (hq:q < D.length),i < q→u < r0 D[q]:=by
    intro q hq hiq
    have h6:=hb q hq (by omega)
    rcases Int.lt_or_le u (r0 D[q]) with h5 | h5
    ·exact h5
    ·exfalso
     have h7:=hb (i+1) (by omega) (Nat.le_refl _)
     have h8:r0 D[i+1]≤r0 D[q]:=by
      rcases Nat.lt_or_ge (i+1) q with h9 | h9
      ·exact hDs (i+1) q h9 hq
      ·have:i+1=q:=by omega
       subst this;exact Int.le_refl _
     exact his ⟨by omega,by omega⟩
   refine⟨_,?_,step i h hgt (by omega) (if u≤r1 D[i] then .Zb [.agg [i64 (r0 D[i]),i64 (r1 D[i]),i64 (r2 D[i])],.bool true] else .Zb [.agg [i64 0,i64 0,i64 0],.bool false]) (fun h=>by rw[if_pos h]) (fun h=>by rw[if_neg h])⟩
   by_cases hc:u≤r1 D[i]
   ·have z2:decide (u > r1 D[i])=false:=Ha (by omega)
    rw[if_pos hc]
    simp -implicitDefEqProofs only[Jd,SX,sevalprocAttr,og,Bs,eF,l4,c40,hrun,w1,w2,z1,a1,z2,r31,r3,b0,ld]
   ·have z2:decide (u > r1 D[i])=true:=Da (by omega)
    rw[if_neg hc]
    simp -implicitDefEqProofs only[Jd,SX,sevalprocAttr,og,Bs,eF,l4,c40,hrun,w1,w2,z1,a1,z2,r31,r3,b0,ld]
end
end Go.AM.B1
namespace Go.AM.B1
open Go.AM Go.AM.So
theorem TH {u:Int}:∀ {ss:List dc},(∀ s∈ss,¬has s u)→AN u ss=none
 | [],_=>rfl
 |s::ss,h=>by
  have h1:=h s (by simp)
  unfold has at h1
  rw[AN,if_neg h1]
  exact TH fun x hx=>h x (by simp[hx])
theorem UT {u:Int} {ss:List dc} (Aa:Hc ss) {j:Nat} (hj:j < ss.length) (h:has ss[j] u):AN u ss=some (we ss[j].parts (u - ss[j].first)):=by
 have key:∀ (l:List dc) (j:Nat) (hj:j < l.length),(∀ i (hi:i < l.length),has l[i] u→i=j)→has l[j] u→AN u l=some (we l[j].parts (u - l[j].first)):=by
  intro l
  induction l with
  |nil=>intro j hj;simp at hj
  |cons s l ih=>
   intro j hj hone hh
   rw[AN]
   cases j with
   |zero=>rw[if_pos (show s.first≤u∧u < s.first+Ca s.parts from hh)];rfl
   |succ j=>
    rw[if_neg (fun hc:s.first≤u∧u < s.first+Ca s.parts=>by have:=hone 0 (by simp) hc;omega)]
    exact ih j (by simpa using hj) (fun i hi hx=>by have:=hone (i+1) (by simpa using hi) hx;omega) hh
 exact key ss j hj (fun i hi hx=>WH Aa hi hj hx h) h
section
variable {T:PV} {ss:List dc} {l:List (List Oe)} (hT:mv T ss l) (Aa:Hc ss)
include hT Aa
theorem zD (u:Int):Sd [T,i64 u]=some (match AN u ss with | some b=> .Zb [.lit 1 (b.map u8),.bool true] | none=> .Zb [.pa,.bool false]):=by
 have hrow:=ZT hT Aa u
 obtain⟨S',NX,DG,RW,rfl,_,_,hDG,_⟩:=hT.ex
 have hrp:=Bt (a:=S') (b:=Ai l) (c:=NX) (d:=DG) (e:=RW) (f:=i64 (Og ss))
 have l3:=fun H=>(hrp H).2.1
 generalize ([S',Ai l,NX,DG,RW,i64 (Og ss)]:List PV)=R at *
 have st:∀ a b c,Ra [ba.box [.pv (i64 0),.pv (i64 0),.pv (i64 0)]] 3 (.ptr 0 0) (.pv (.agg [i64 a,i64 b,i64 c]))=some [.box [.pv (i64 a),.pv (i64 b),.pv (i64 c)]]:=fun a b c=>rfl
 rcases hrow with⟨j,hj,hh,hr⟩ | ⟨hn,hr⟩
 ·rw[UT Aa hj hh]
  have hs:=Aa.As _ (List.getElem_mem hj)
  have hh':=hh
  unfold has at hh'
  have hun:=ZE hs (k:=u - ss[j].first) (by omega) (by omega)
  have hf0:=hs.f0
  have hl:=hs.Nh
  have hl2:=hs.last
  have a1:∀ H,qa H 1 (.pv DG) (j:Int)=some (.pv (.rp [Vi ss[j].parts] 0)):=fun H=>by
   rw[hDG.lit (i:=j) (by simpa using hj)]
   simp only[qa]
   rw[if_pos ⟨trivial,by unfold Fa;rw[List.length_map];omega⟩,Int.toNat_natCast,List.getElem?_map,List.getElem?_eq_getElem hj];rfl
  generalize ss[j]=s at *
  have w1:IntKind.i64.wrap (u - s.first)=u - s.first:=Ba (by omega)
  have p0:∀ a b c d,place [ba.box [.pv a,.pv b,.pv c]] d (.ptr 0 0)=some (.ptr 0 (0+d)):=fun a b c d=>rfl
  have q2:∀ a b c,ya [ba.box [.pv a,.pv b,.pv c]] false 1 (.ptr 0 2)=some (.pv c):=fun a b c=>rfl
  have q0:∀ a b c,ya [ba.box [.pv a,.pv b,.pv c]] false 1 (.ptr 0 0)=some (.pv a):=fun a b c=>rfl
  simp -implicitDefEqProofs only[Sd,SX,sevalprocAttr,Ri,hr,st,eF,l3,p0,q2,q0,a1,Pa,w1,hun]
 ·rw[TH hn]
  simp -implicitDefEqProofs only[Sd,SX,sevalprocAttr,Ri,hr,st]
def Is (bs:List Int):List dc→Option Int
 | []=>none
 |s::ss=>match Nf s bs with
  |some k=>some (s.first+k)
  |none=>Is bs ss
omit hT Aa in
theorem rQ {bs:List Int} {ss:List dc} {i:Nat} (hi:i < ss.length):Is bs (ss.drop i)=match Nf ss[i] bs with | some k=>some (ss[i].first+k) | none=>Is bs (ss.drop (i+1)):=by
 rw[List.drop_eq_getElem_cons hi,Is]
theorem XJ {B:PV} {bs:List Int} (hB:Vj B bs):Yg [T,B]=some (match Is bs ss with | some v=> .Zb [i64 v,.bool true] | none=> .Zb [i64 0,.bool false]):=by
 obtain⟨S',NX,DG,RW,rfl,hS',_,hDG,_⟩:=hT.ex
 have hrp:=Bt (a:=S') (b:=Ai l) (c:=NX) (d:=DG) (e:=RW) (f:=i64 (Og ss))
 have l3:=fun H=>(hrp H).2.1
 have l0:=fun H=>(hrp H).2.2.2.2.1
 generalize ([S',Ai l,NX,DG,RW,i64 (Og ss)]:List PV)=R at *
 have lD:=hDG.len
 rw[List.length_map] at lD
 have h32:=Aa.len
 have hB1:=hB.one
 obtain⟨D,hD⟩:∃ D,D=Is bs ss:=⟨_,rfl⟩
 rw[← hD]
 have hloop:=fun (E:Tr) (h0:E.get 0= .pv (.rp R 0)) (h1:E.get 1= .pv B) (h15:E.get 15= .pv DG) (h16:E.get 16= .pv (i64 ss.length)) (h17:E.get 17= .pv (i64 0))=>
  Un (call:=Ga (fun _=>none) 8) (b:=Tf) (live:=[0,1,15,16,17]) (s:=⟨E,[]⟩) (Q:=fun r=>(∃ E',r=(.exit 0,⟨E',[]⟩)∧D=none)∨∃ E' v,r=(.ret,⟨E',[]⟩)∧E'.get 4= .pv (i64 v)∧E'.get 5= .pv (.bool true)∧D=some v)
   (fun i t=>Zd [0,1,15,16] E t.env∧t.env.get 17= .pv (i64 i)∧t.H=[]∧D=Is bs (ss.drop i)) ss.length (by unfold oa;omega)
   (Xg.all rfl (by simp) (Fit.cons h0 Ia (.cons h1 Ia (.cons h15 Ia (.cons h16 Ia (.cons h17 Ia (.nil _ _)))))) fun E' hE=>⟨Zd.sub hE rfl,by rw[hE 17 (by simp),h17];rfl,rfl,hD⟩)
   (by
    rintro i ⟨E1,H1⟩ hi ⟨k1,k2,k3,k5⟩
    simp only at k1 k2 k3
    subst k3
    have g0:=(k1 0 (by simp)).trans h0
    have g1:=(k1 1 (by simp)).trans h1
    have g15:=(k1 15 (by simp)).trans h15
    have g16:=(k1 16 (by simp)).trans h16
    have hs:=Aa.As _ (List.getElem_mem hi)
    have hrk:=VH hB hs
    rw[rQ hi] at k5
    have hdc:(Vi ss[i].parts).cells=[Vi ss[i].parts]:=rfl
    have a1:∀ H,qa H 1 (.pv DG) (i:Int)=some (.pv (.rp [Vi ss[i].parts] 0)):=fun H=>by
     rw[hDG.lit (i:=i) (by simpa using hi)]
     simp only[qa]
     rw[if_pos ⟨trivial,by unfold Fa;rw[List.length_map];omega⟩,Int.toNat_natCast,List.getElem?_map,List.getElem?_eq_getElem hi];rfl
    have a2:∀ H,qa H 2 (.pv S') (i:Int)=some (.pv (.rp [.lit 1 (ss[i].parts.map Te),i64 ss[i].first] 0)):=fun H=>by
     rw[hS'.lit (i:=i) (by simpa using hi)]
     simp only[qa]
     rw[if_pos ⟨trivial,by unfold Fa;rw[List.length_map];omega⟩,Int.toNat_natCast,List.getElem?_map,List.getElem?_eq_getElem hi];rfl
    have hrb:=fun k hk=>cL (b:=bs) (k:=k) hs hk
    generalize ss[i]=s at *
    have hf0:=hs.f0
    have e1:decide ((i:Int) < (ss.length:Int))=true:=Da (by omega)
    have t1:IntKind.i64.wrap ((i:Int)+1)=((i+1:Nat):Int):=mj (by omega)
    generalize hQ:RQ _ _ _ _=Q
    cases hrs:Nf s bs with
    |some k=>
     rw[hrs] at k5
     have hr1:=hrk.1 k hrs
     have hb:=hrb k hrs
     have w1:IntKind.i64.wrap (s.first+k)=s.first+k:=Ba (by omega)
     simp -implicitDefEqProofs only[SX,sevalprocAttr,Tf,g0,g1,g15,g16,k2,e1,a1,a2,Pa,eF,l0,Mg,hr1,w1]
     subst hQ
     exact .inr ⟨_,_,rfl,by simp[Tr.aa],by simp[Tr.aa],k5⟩
    |none=>
     rw[hrs] at k5
     have hr1:=hrk.2 hrs
     simp -implicitDefEqProofs only[SX,sevalprocAttr,Tf,g0,g1,g15,g16,k2,e1,a1,Pa,hr1,t1]
     subst hQ
     rw[Xl]
     generalize hEE:(Tr.set _ 17 _:Tr)=E2
     have kk:Zd [0,1,15,16] E E2:=by
      rw[← hEE]
      repeat refine Zd.set ?_ rfl
      exact k1
     have z17:E2.get 17= .pv (i64 (i+1:Nat)):=by rw[← hEE];simp[Tr.aa]
     exact Xg.all rfl (by simp) (Fit.sub (.cons z17 Ia (Fit.Be (l:=[0,1,15,16]) (.cons h0 Ia (.cons h1 Ia (.cons h15 Ia (.cons h16 Ia (.nil _ _))))) kk)) rfl) fun E' hE=>⟨kk.trans (Zd.sub hE rfl),by rw[hE 17 (by simp),z17],rfl,k5⟩)
   (by
    rintro⟨E1,H1⟩ ⟨k1,k2,k3,k5⟩
    simp only at k1 k2 k3
    subst k3
    have g16:=(k1 16 (by simp)).trans h16
    rw[List.drop_length] at k5
    have e1:decide ((ss.length:Int) < (ss.length:Int))=false:=Ha (by omega)
    generalize hQ:(fun r:Ex×St=>r.1.stop=true∧_)=Q
    simp -implicitDefEqProofs only[SX,sevalprocAttr,Tf,g16,k2,e1]
    subst hQ
    exact⟨rfl,.inl ⟨_,rfl,k5⟩⟩)
 refine Lk ?_
 generalize hQ:(fun x:PV=>x=_)=Q
 simp -implicitDefEqProofs only[Yg,SX,sevalprocAttr,Zk,Bs,eF,l3,lD]
 generalize hEE:(Tr.set _ 17 _:Tr)=E
 refine xa (hloop E (by rw[← hEE];simp[Tr.aa]) (by rw[← hEE];simp[Tr.aa]) (by rw[← hEE];simp[Tr.aa]) (by rw[← hEE];simp[Tr.aa]) (by rw[← hEE];simp[Tr.aa])) ?_
 rintro r ⟨_,⟨E',rfl,z1⟩ | ⟨E',v,rfl,z4,z5,z6⟩⟩
 ·simp -implicitDefEqProofs only[SX,sevalprocAttr]
  subst hQ
  rw[z1]
 ·simp -implicitDefEqProofs only[SX,sevalprocAttr,z4,z5]
  subst hQ;rw[z6]
omit Aa in
theorem xP:xi [T]=some (i64 (Og ss)):=by
 obtain⟨S',NX,DG,RW,rfl,_⟩:=hT.ex
 have hrp:=Bt (a:=S') (b:=Ai l) (c:=NX) (d:=DG) (e:=RW) (f:=i64 (Og ss))
 have l5:=fun H=>(hrp H).2.2.2.1
 generalize ([S',Ai l,NX,DG,RW,i64 (Og ss)]:List PV)=R at *
 simp -implicitDefEqProofs only[xi,SX,sevalprocAttr,uk,Bs,eF,l5]
omit hT Aa in
theorem iF {RW:PV} {es:List PV} (h:Di 3 RW es) (hl:es.length≤1000000):Bd [RW]=some RW:=by
 rcases h with⟨rfl,_⟩ | rfl
 ·simp -implicitDefEqProofs only[Bd,SX,sevalprocAttr,Ve,Bs]
 ·have hap:ic [.tok 3 0 false] false .uq 3 true 24 (.uq 0 false 3 []) (.pv (.lit 3 es))=some (.uq 0 false 3 es,[.tok 3 es.length false]):=by
   simp only[ic,List.getElem?_cons_zero,Gf,if_true,Option.bind_some,List.length_nil,Nat.zero_add,List.nil_append,Bool.false_eq_true,if_false]
   rw[if_pos ⟨trivial,trivial,trivial,by unfold pb;omega⟩]
   rfl
  simp -implicitDefEqProofs only[Bd,SP,WP,na,sevalprocAttr,Ve,Bs,hap]
theorem GQ:∃ RW,yj [T]=some RW∧Di 3 RW ((Oi ss).map vF):=by
 obtain⟨S',NX,DG,RW,rfl,_,_,_,hRW⟩:=hT.ex
 have hrp:=Bt (a:=S') (b:=Ai l) (c:=NX) (d:=DG) (e:=RW) (f:=i64 (Og ss))
 have l4:=fun H=>(hrp H).2.2.1
 generalize ([S',Ai l,NX,DG,RW,i64 (Og ss)]:List PV)=R at *
 have h32:=Aa.len
 have hc:=iF hRW (by rw[List.length_map,XA];omega)
 refine⟨RW,?_,hRW⟩
 simp -implicitDefEqProofs only[yj,SX,sevalprocAttr,cm,Bs,eF,l4,hc]
end
end Go.AM.B1
namespace Go.AM.B1
open Go.AM Go.AM.So
theorem iQ (f:Nat→Bool) {a b:Nat} (h:a≤b):fh f a≤fh f b:=by
 induction b with
 |zero=>have:a=0:=by omega
        subst this;exact Nat.le_refl _
 |succ b ih=>
  rcases Nat.lt_or_ge b a with h1 | h1
  ·have:a=b+1:=by omega
   subst this;exact Nat.le_refl _
  ·rw[vl];have:=ih h1;omega
theorem VV (f:Nat→Bool) {a b:Nat} (h:a < b) (hf:f a=true):fh f a < fh f b:=by
 have h1:=iQ f (a:=a+1) (b:=b) (by omega)
 rw[vl,if_pos hf] at h1;omega
theorem ND {v:PV} {l:List (Int×Int)} (hv:Di 2 v (de l)) (hw:l.length * 16≤140737488355328) {y:Nat} (hy:y < 256) (hf:Uf l y=true):
 jh [v,i64 (fh (Uf l) y)]=some (.Zb [i64 y,.bool true]):=by
 have hm:=wo hv hw
 generalize Uf l=f at *
 have pl:=fun (x:Nat)=>Xh (A:=[mb (ae f)]) (id:=0) (es:=ae f) rfl 0 x
 have hO:RD 1 (mb (ae f))=true:=bL _ _
 have hloop:=fun (E:Tr) (h1:E.get 1= .pv (i64 (fh f y))) (h6:E.get 6= .ptr 0 0) (h7:E.get 7= .pv (i64 0)) (h8:E.get 8= .pv (i64 0))=>
  Mo (call:=Ga (fun _=>none) 8) (b:=He) (live:=[1,6,7,8]) (E0:=E) (H0:=[mb (ae f)]) (Q:=fun r=>∃ E H,r=(.ret,⟨E,H⟩)∧E.get 4= .pv (i64 y)∧E.get 5= .pv (.bool true))
   (fun i:Nat=>[(1,.pv (i64 (fh f y))),(6,.ptr 0 0),(7,.pv (i64 (fh f i))),(8,.pv (i64 i))]) (fun _=>[mb (ae f)]) (fun i x=>x=i) y (by unfold oa;omega) (fun _=>rfl)
   (fun i x _=>⟨by simp[Vn,Vz],yt (by simp[hO]),rfl⟩) ⟨0,⟨h1,h6,h7,h8,trivial⟩,rfl,rfl⟩
   (by
    rintro i x E hi rfl ⟨g1,g6,g7,g8,_⟩
    have e1:decide ((x:Int)≤255)=true:=Da (by omega)
    have hq:Fa (x:Int) 256:=by unfold Fa;omega
    have t1:((x:Int)).toNat=x:=by simp
    have m1:x * 1=x:=by omega
    have t2:IntKind.i64.wrap ((x:Int)+1)=((x+1:Nat):Int):=Ba (by omega)
    have hle:=tH f x
    have t3:IntKind.i64.wrap ((fh f x:Int)+1)=(fh f x:Int)+1:=Ba (by omega)
    have pl:=pl x
    rw[Nat.zero_add] at pl
    have ld:=Et (A:=[mb (ae f)]) (id:=0) (es:=ae f) rfl (Yz f (x:=x) (by omega))
    have hs:=vl f x
    have hlt:=VV f hi
    generalize mb (ae f)=O at *
    generalize hQ:RH _ _ _ _=Q
    cases hfx:f x with
    |true=>
     rw[hfx] at hs ld
     have d1:((fh f x:Int)==(fh f y:Int))=false:=beq_false_of_ne (by have:=hlt hfx;omega)
     simp -implicitDefEqProofs only[SX,sevalprocAttr,-List.reduceReplicate,He,g1,g6,g7,g8,e1,eq_true hq,t1,m1,pl,ld,t2,t3,d1]
     subst hQ
     exact⟨x+1,[],by rw[if_pos rfl] at hs;simp[Has,Tr.aa,g1,g6,hs],rfl,rfl⟩
    |false=>
     rw[hfx] at hs ld
     simp -implicitDefEqProofs only[SX,sevalprocAttr,-List.reduceReplicate,He,g1,g6,g7,g8,e1,eq_true hq,t1,m1,pl,ld,t2]
     subst hQ
     exact⟨x+1,[],by rw[if_neg (by simp)] at hs;simp[Has,Tr.aa,g1,g6,g7,hs],rfl,rfl⟩)
   (by
    rintro x E rfl ⟨g1,g6,g7,g8,_⟩
    have e1:decide ((x:Int)≤255)=true:=Da (by omega)
    have hq:Fa (x:Int) 256:=by unfold Fa;omega
    have t1:((x:Int)).toNat=x:=by simp
    have m1:x * 1=x:=by omega
    have pl:=pl x
    rw[Nat.zero_add] at pl
    have ld:=Et (A:=[mb (ae f)]) (id:=0) (es:=ae f) rfl (Yz f (x:=x) (by omega))
    rw[hf] at ld
    have d1:((fh f x:Int)==(fh f x:Int))=true:=by simp
    generalize mb (ae f)=O at *
    generalize hQ:(fun r:Ex×St=>r.1.stop=true∧_)=Q
    simp -implicitDefEqProofs only[SX,sevalprocAttr,-List.reduceReplicate,He,g1,g6,g7,g8,e1,eq_true hq,t1,m1,pl,ld,d1]
    subst hQ
    exact⟨rfl,_,_,rfl,by simp[Tr.aa],by simp[Tr.aa]⟩)
 have hz1:ba.box (List.map AV.pv (List.replicate 256 (PV.bool false)))=mb (ae fun _=>false):=by rw[Rs]
 have st:Ra [mb (ae fun _=>false)] 256 (.ptr 0 0) (.pv (.agg (ae f)))=some [mb (ae f)]:=ml (id:=0) rfl (Dk _) (Dk f) (BC f)
 generalize fh f y=c at *
 generalize hzs:List.replicate 256 (PV.bool false)=zs at *
 generalize mb (ae fun _=>false)=oz at *
 generalize mb (ae f)=ot at *
 generalize ae f=T at *
 apply Lk
 generalize hQ:(fun x=>x=PV.Zb _)=Q
 simp -implicitDefEqProofs only[jh,SX,sevalprocAttr,-List.reduceReplicate,jj,hzs,hz1,hm,st]
 refine xa (hloop _ (by simp[Tr.aa]) (by simp[Tr.aa]) (by simp[Tr.aa]) (by simp[Tr.aa])) ?_
 rintro r ⟨_,E,H,rfl,q4,q5⟩
 simp -implicitDefEqProofs only[SX,sevalprocAttr,-List.reduceReplicate,q4,q5]
 subst hQ
 rfl
theorem nE {x:Int} (hx:0≤x):∀ {l:List (Int×Int)} {last n m:Int},Oa 255 last l=true→Md x n l=(m,true)→Wp l x.toNat=true∧m=n+fh (Wp l) x.toNat
 | [],_,_,_,_,h=>by simp[Md] at h
 |p::l,last,n,m,hv,h=>by
  obtain⟨v1,v2,v3,v4,v5⟩:=Pd hv
  have hin:∀ y:Nat,Wp (p::l) y=(decide (p.1.toNat≤y)&&decide (y < (p.2+1).toNat)||Wp l y):=by
   intro y
   simp only[Wp,List.any_cons]
   congr 1
   congr 1 <;> (rw[decide_eq_decide];omega)
  have hlow:∀ y:Nat,Wp l y=true→p.2+1 < (y:Int):=fun y hy=>Nl v5 (Pp.1 hy)
  have hcnt:fh (Wp (p::l)) x.toNat=fh (fun y=>decide (p.1.toNat≤y)&&decide (y < (p.2+1).toNat)) x.toNat+fh (Wp l) x.toNat:=by
   apply mN
   ·intro y _;exact hin y
   ·intro y _ h3 h4
    have:=hlow y h4
    simp at h3;omega
  rw[pO] at hcnt
  rw[Md] at h
  split at h
  ·cases h
  ·next c1=>
   split at h
   ·next c2=>
    have hm:n+x - p.1=m:=congrArg Prod.fst h
    have hz:fh (Wp l) x.toNat=0:=by
     unfold fh;rw[List.countP_eq_zero]
     intro y hy hy2
     have:=hlow y hy2
     have:=List.mem_range.1 hy
     omega
    refine⟨by rw[hin];simp;omega,?_⟩
    rw[hcnt,hz];omega
   ·next c2=>
    obtain⟨h1,h2⟩:=nE hx v5 h
    exact⟨by rw[hin,h1];simp,by rw[hcnt,h2];omega⟩
theorem MU {l:List (Int×Int)} (h:zc l) {k:Int} (h0:0≤k) (h1:k < Sb 0 l):∃ y:Nat,y < 256∧eM k l=some (y:Int)∧Uf l y=true∧(fh (Uf l) y:Int)=k:=by
 obtain⟨x,q1,q2,q3,q4,q5⟩:=Rp h.2 h0 h1
 have e:Uf l=Wp l:=by funext x;rw[Uf,h.2,Bool.true_and]
 obtain⟨r1,r2⟩:=nE q2 h.2 (q5 0)
 refine⟨x.toNat,by omega,by rw[q1,Int.toNat_of_nonneg q2],by rw[e];exact r1,by rw[e];omega⟩
theorem wX {k Q s m:Nat}:(k % (Q * (s * m)) / Q) % s=(k / Q) % s:=by
 rw[Nat.mod_mul_right_div_self,Nat.mod_mul_right_mod]
theorem WG (ls:List (List (Int×Int))):∀ i,∃ m:Int,Ca ls=Ca (ls.drop i) * m∧((∀ l∈ls,zc l)→1≤m)
 |0=>⟨1,by rw[List.drop_zero,Int.mul_one],fun _=>Int.le_refl _⟩
 |i+1=>match ls with
  | []=>⟨1,by rw[List.drop_nil,Int.mul_one],fun _=>Int.le_refl _⟩
  |l::r=>by
   obtain⟨m,h1,h2⟩:=WG r i
   refine⟨m * Sb 0 l,by rw[Ca,List.drop_succ_cons,h1,Int.mul_assoc],fun h=> ?_⟩
   have h3:=h2 fun x hx=>h x (by simp[hx])
   have h4:=(qf (h l (by simp))).1
   have:=Int.mul_le_mul h3 h4 (by omega) (by omega)
   omega
theorem aH:∀ (ls:List (List (Int×Int))) (k:Int) (i:Nat) (hi:i < ls.length),(∀ l∈ls,zc l)→0≤k→k < Ca ls→
 (we ls k)[i]? =some ((eM (k / Ca (ls.drop (i+1)) % Sb 0 ls[i]) ls[i]).getD 0)
 |l::r,k,0,hi,hp,h0,h1=>by
  have hpr:=Cd (ls:=r) fun x hx=>hp x (by simp[hx])
  rw[Ca] at h1
  obtain⟨d1,d2,_⟩:=JH h0 hpr h1
  rw[Int.tdiv_eq_ediv_of_nonneg h0] at d1 d2
  rw[we,Int.tdiv_eq_ediv_of_nonneg h0]
  simp only[List.getElem?_cons_zero,List.getElem_cons_zero,List.drop_succ_cons,List.drop_zero]
  rw[Int.emod_eq_of_lt d1 d2]
 |l::r,k,i+1,hi,hp,h0,h1=>by
  have hpq:∀ x∈r,zc x:=fun x hx=>hp x (by simp[hx])
  have hpr:=Cd (ls:=r) hpq
  rw[Ca] at h1
  obtain⟨_,_,d3,d4,_⟩:=JH h0 hpr h1
  have hi':i < r.length:=by simpa using hi
  have ih:=aH r (k.tmod (Ca r)) i hi' hpq d3 d4
  rw[we,List.getElem?_cons_succ,ih]
  simp only[List.drop_succ_cons,List.getElem_cons_succ]
  congr 3
  obtain⟨m,hm,hm1⟩:=WG r i
  rw[List.drop_eq_getElem_cons hi',Ca] at hm
  have hm1:=hm1 hpq
  have hQ:=Cd (ls:=r.drop (i+1)) fun x hx=>hpq x (List.mem_of_mem_drop hx)
  have hs:=(qf (hpq _ (List.getElem_mem hi'))).1
  rw[Int.tmod_eq_emod_of_nonneg h0,hm,Int.mul_assoc]
  generalize Ca (r.drop (i+1))=Q at *
  generalize Sb 0 r[i]=s at *
  obtain⟨kn,rfl⟩:=Int.eq_ofNat_of_zero_le h0
  obtain⟨Qn,rfl⟩:=Int.eq_ofNat_of_zero_le (a:=Q) (by omega)
  obtain⟨sn,rfl⟩:=Int.eq_ofNat_of_zero_le (a:=s) (by omega)
  obtain⟨mn,rfl⟩:=Int.eq_ofNat_of_zero_le (a:=m) (by omega)
  exact_mod_cast wX (k:=kn) (Q:=Qn) (s:=sn) (m:=mn)
theorem dP {H:List ba} {id fl n:Nat} {cs:List Int} (hg:H[id]? =some (.seq 1 false ((cs.map (PV.int .u8)).map .pv) fl false)) (hn:n=cs.length) (d:Nat):Ub H (d+1) (.own id n)=some (.lit 1 (cs.map (PV.int .u8))):=by
 subst hn
 have hm:Qa (Ub H d) ((cs.map (PV.int .u8)).map AV.pv)=some (cs.map (PV.int .u8)):=by
  generalize cs.map (PV.int .u8)=l
  induction l with
  |nil=>rfl
  |cons a l ih=>
   have:Ub H d (.pv a)=some a:=by cases d <;> rfl
   simp only[List.map_cons,Qa,this,ih];rfl
 have hc:=nH (cs.map (PV.int .u8))
 rw[List.length_map] at hc
 simp only[Ub,hg]
 rw[if_pos ⟨by simp,by simp⟩]
 simp only[hm,Option.map_some,hc,Bool.false_eq_true,if_false]
theorem YW {U:List Int} {n j:Nat} (hU:U.length=n) (hj:j < n) {x:Int} (hx:U[n - 1 - j]? =some x):
 (List.replicate (n - j) 0++U.drop (n - j)).set (n - 1 - j) x=List.replicate (n - (j+1)) 0++U.drop (n - (j+1)):=by
 obtain⟨m,hm⟩:∃ m,m=n - 1 - j:=⟨_,rfl⟩
 have e1:n - j=m+1:=by omega
 have e2:n - (j+1)=m:=by omega
 rw[← hm] at hx ⊢
 have hml:m < U.length:=by omega
 rw[e1,e2,List.drop_eq_getElem_cons hml,List.replicate_succ',List.append_assoc,List.set_append_right _ _ (by simp),List.length_replicate,Nat.sub_self]
 have:U[m]=x:=by rw[List.getElem?_eq_getElem hml] at hx;injection hx
 rw[this];rfl
theorem HE {e:PV} {s:dc} {P:PV} {ps:List PV} (h:pf e s P ps) (Aa:Nd s) {k:Int} (h0:0≤k) (h1:k < Ca s.parts):
 ij [e,i64 k]=some (.Zb [.lit 1 ((we s.parts k).map (PV.int .u8)),.bool true]):=by
 have hcn:=Hm h Aa
 rw[Aa.prod.1] at hcn
 have hpr:=Aa.prod.2
 have hP1:=h.Mv.1
 have hP:=h.parts
 have h8:=Aa.hi
 have lP:=hP.Wb
 have heq:=h.eq
 subst heq
 obtain⟨n,hn⟩:∃ n,n=s.parts.length:=⟨_,rfl⟩
 have hul:=(Qq s.parts k 0 Aa.parts h0 h1).2
 obtain⟨U,hU⟩:∃ U,U=we s.parts k:=⟨_,rfl⟩
 rw[← hU] at hul ⊢
 obtain⟨O,hO⟩:∃ O:Nat→Nat→ba,O=fun j fl=> .seq 1 false (((List.replicate (n - j) 0++U.drop (n - j)).map (PV.int .u8)).map .pv) fl false:=⟨_,rfl⟩
 have hOB:∀ j fl,RD 1 (O j fl)=true:=fun j fl=>by rw[hO];exact PR _ _ _ _ _ _
 have hcl:∀ j,j≤n→(List.replicate (n - j) 0++U.drop (n - j)).length=n:=fun j hj=>by simp[hul.1];omega
 have hia:∀ j fl i:Nat,j≤n→fl≤n→i < n→qa [O j fl] 1 (.own 0 n) (i:Int)=some (.Gc 0 n i):=fun j fl i hj hf hi=>by
  rw[hO]
  simp only[qa,List.getElem?_cons_zero]
  rw[if_pos ⟨trivial,by unfold Fa;omega,by unfold nh;rw[List.length_map,List.length_map,hcl j hj];omega⟩,Int.toNat_natCast,Nat.mul_one,Nat.mul_one]
 have hst:∀ (j fl:Nat) (x:Int),j < n→U[n - 1 - j]? =some x→Ra [O j fl] 1 (.Gc 0 n (n - 1 - j)) (.pv (.int .u8 x))=some [O (j+1) n]:=fun j fl x hj hx=>by
  rw[hO]
  have hc:=hcl j (by omega)
  have:(AV.pv (PV.int .u8 x)).cells=[.pv (.int .u8 x)]:=rfl
  simp only[Ra,this,List.getElem?_cons_zero]
  rw[if_pos ⟨rfl,rfl⟩,if_pos ⟨by rw[List.length_map,List.length_map,hc],by omega⟩]
  simp only[na,List.set_cons_zero,←List.map_set]
  rw[YW (by rw[hul.1,hn]) hj hx]
 have hloop:=fun (E:Tr) (h1':E.get 1= .pv (i64 k)) (h2:E.get 2= .pv (.rp [P,i64 s.first] 0)) (h6:E.get 6= .own 0 n) (h7:E.get 7= .pv (i64 ((n:Int) - 1)))=>
  Mo (call:=Ga (fun _=>none) 8) (b:=ug) (live:=[1,2,6,7]) (E0:=E) (H0:=[O 0 0]) (Q:=fun r=>∃ E fl,r=(.exit 0,⟨E,[O n fl]⟩)∧E.get 6= .own 0 n)
   (fun x:Nat×Nat=>[(1,.pv (i64 (k / Ca (s.parts.drop (n - x.1))))),(2,.pv (.rp [P,i64 s.first] 0)),(6,.own 0 n),(7,.pv (i64 ((n:Int) - 1 - x.1)))]) (fun x=>[O x.1 x.2]) (fun i x=>x.1=i∧x.1≤n∧x.2≤n) n (by unfold oa;omega) (fun _=>rfl)
   (fun i x _=>⟨by simp[Vn,DS],yt (by simp[hOB]),rfl⟩)
   ⟨(0,0),⟨by rw[h1',Nat.sub_zero,hn,List.drop_length,Ca,Int.ediv_one],h2,h6,by rw[h7];simp,trivial⟩,rfl,rfl,Nat.zero_le _,Nat.zero_le _⟩
   (by
    rintro _ ⟨j,fl⟩ E hj ⟨rfl,_,hfl⟩ ⟨g1,g2,g6,g7,_⟩
    simp only at hfl hj g1 g2 g6 g7
    obtain⟨i,hi⟩:∃ i,i=n - 1 - j:=⟨_,rfl⟩
    have hin:i < s.parts.length:=by omega
    have e7:(n:Int) - 1 - (j:Int)=(i:Int):=by omega
    rw[e7] at g7
    rw[show n - j=i+1 by omega] at g1
    obtain⟨v,hv,hpt,_⟩:=hP.pd hin []
    have a1:=hP.Hw hv
    have hpo:=Aa.parts _ (List.getElem_mem hin)
    have hss:=Eu hpt.is hpt.sz
    rw[gD hpo.2] at hss
    have hsb:=qf hpo
    have hat:=aH s.parts k i hin Aa.parts h0 h1
    have hQ:=Cd (ls:=s.parts.drop (i+1)) fun x hx=>Aa.parts x (List.mem_of_mem_drop hx)
    have hdd:k / Ca (s.parts.drop (i+1)) / Sb 0 s.parts[i]=k / Ca (s.parts.drop i):=by
     rw[List.drop_eq_getElem_cons hin,Ca,Int.ediv_ediv_of_nonneg (by omega)]
    have hK0:0≤k / Ca (s.parts.drop (i+1)):=Int.ediv_nonneg h0 (by omega)
    have hK1:k / Ca (s.parts.drop (i+1))≤k:=Int.ediv_le_self _ h0
    obtain⟨K,hK⟩:∃ K,K=k / Ca (s.parts.drop (i+1)):=⟨_,rfl⟩
    rw[← hK] at g1 hat hdd hK0 hK1
    obtain⟨y,y1,y2,y3,y4⟩:=MU hpo (k:=K % Sb 0 s.parts[i]) (Int.emod_nonneg _ (by omega)) (Int.emod_lt_of_pos _ (by omega))
    rw[y2,Option.getD_some,←hU] at hat
    have hsel:=ND hpt.is hpt.sz y1 y3
    rw[y4] at hsel
    have z0:(Sb 0 s.parts[i]=0)=False:=by simp;omega
    have t5:K.tmod (Sb 0 s.parts[i])=K % Sb 0 s.parts[i]:=Int.tmod_eq_emod_of_nonneg hK0
    have hKs:K / Sb 0 s.parts[i]≤K:=Int.ediv_le_self _ hK0
    have hKs0:0≤K / Sb 0 s.parts[i]:=Int.ediv_nonneg hK0 (by omega)
    have t3:IntKind.i64.wrap (K.tdiv (Sb 0 s.parts[i]))=k / Ca (s.parts.drop i):=by
     rw[Int.tdiv_eq_ediv_of_nonneg hK0,Ba (by omega),hdd]
    have t4:IntKind.u8.wrap (y:Int)=y:=wrap_u8 (by omega)
    have t6:IntKind.i64.wrap ((i:Int) - 1)=(i:Int) - 1:=Ba (by omega)
    have e1:decide ((i:Int)≥0)=true:=Da (by omega)
    have b1:=hia j fl i (by omega) hfl (by omega)
    have b2:=hst j fl y hj (by rw[← hi];exact hat)
    rw[← hi] at b2
    generalize Sb 0 s.parts[i]=sz at *
    generalize K % sz=m at *
    generalize hKK:k / Ca (s.parts.drop i)=K' at *
    have hfin:((i:Int) - 1)=(n:Int) - 1 - ((j+1:Nat):Int):=by omega
    have hdr:n - (j+1)=i:=by omega
    generalize hO1:O j fl=o1 at *
    generalize hO2:O (j+1) n=o2 at *
    generalize hQ:RH _ _ _ _=Q
    simp -implicitDefEqProofs only[SX,sevalprocAttr,-List.reduceReplicate,ug,g1,g2,g6,g7,e1,Vb,Cc,a1,Pa,hss,z0,t5,hsel,t4,b1,b2,t3,t6]
    subst hQ
    refine⟨(j+1,n),[],?_,by simp[hO2],rfl,by show j+1≤n;omega,Nat.le_refl _⟩
    simp[Has,Tr.aa,g2,g6,hdr,hfin,hKK])
   (by
    rintro⟨a,fl⟩ E ⟨h,_,hfl⟩ ⟨g1,g2,g6,g7,_⟩
    simp only at h g7 ⊢
    rw[h] at g7 ⊢
    have e1:decide ((n:Int) - 1 - (n:Int)≥0)=false:=Ha (by omega)
    generalize hQ:(fun r:Ex×St=>r.1.stop=true∧_)=Q
    simp -implicitDefEqProofs only[SX,sevalprocAttr,-List.reduceReplicate,ug,g7,e1]
    subst hQ
    exact⟨rfl,_,fl,rfl,by simp[Tr.aa,g6]⟩)
 have t1:((n:Int)).toNat=n:=by simp
 have e1:(0≤(n:Int))=True:=by simp
 have e3:((n:Int)≤(n:Int))=True:=by simp
 have e2:pb n 1:=by unfold pb;omega
 have r0:Lj [PV.int .u8 0] n=((List.replicate n (0:Int)).map (PV.int .u8)).map AV.pv:=by
  generalize n=m
  induction m with
  |zero=>rfl
  |succ m ih=>rw[Lj,ih];rfl
 have hO0:O 0 0= .seq 1 false (((List.replicate n (0:Int)).map (PV.int .u8)).map AV.pv) 0 false:=by
  rw[hO];simp only[Nat.sub_zero]
  rw[← hn] at hul
  rw[List.drop_of_length_le (by omega),List.append_nil]
 have hwin:nh 1 n 0 (((List.replicate n (0:Int)).map (PV.int .u8)).map AV.pv).length:=by unfold nh;simp
 rw[hO0] at hloop
 have hres:∀ fl,Ub [O n fl] deep (.Zb [.own 0 n,.pv (.bool true)])=some (.Zb [.lit 1 (U.map (PV.int .u8)),.bool true]):=fun fl=>by
  have hz:=dP (H:=[O n fl]) (id:=0) (fl:=fl) (n:=n) (cs:=U) (by rw[hO];simp) (by rw[hul.1,hn]) 4
  show (Qa (Ub [O n fl] 5) [.own 0 n,.pv (.bool true)]).map PV.Zb=_
  rw[Qa,hz];rfl
 have d1:decide (k < 0)=false:=Ha (by omega)
 have d2:decide (k≥Ca s.parts)=false:=Ha (by omega)
 have t2:IntKind.i64.wrap ((n:Int) - 1)=(n:Int) - 1:=Ba (by omega)
 rw[← hn] at lP
 suffices key:Td (fun r=>Ub r.2 deep r.1=some (.Zb [.lit 1 (U.map (PV.int .u8)),.bool true])) (Ni (Ga (fun _=>none) 8) Sf [.pv (.agg [P,i64 s.first]),.pv (i64 k)] []) by
  obtain⟨r,hr1,hr2⟩:=Fc key
  show (Ni (Ga (fun _=>none) 8) Sf [.pv (.agg [P,i64 s.first]),.pv (i64 k)] []).bind _=_
  rw[hr1];exact hr2
 generalize hV:PV.Zb [.lit 1 (U.map (PV.int .u8)),.bool true]=V at *
 generalize hQ:(fun r:AV×List ba=>Ub r.2 deep r.1=some V)=Q
 generalize List.map AV.pv (List.map (PV.int .u8) (List.replicate n 0))=zs at *
 simp -implicitDefEqProofs only[SX,sevalprocAttr,-List.reduceReplicate,Sf,hP1,Vc,hcn,d1,d2,Vb,Cc,lP,t1,e1,e3,eq_true e2,r0,eq_true hwin,t2]
 refine xa (hloop _ (by simp[Tr.aa]) (by simp[Tr.aa]) (by simp[Tr.aa]) (by simp[Tr.aa])) ?_
 rintro r ⟨_,E,fl,rfl,q6⟩
 have hres:=hres fl
 generalize O n fl=o1 at *
 simp -implicitDefEqProofs only[SX,sevalprocAttr,-List.reduceReplicate,q6]
 subst hQ
 exact hres
section
variable {S:PV} {ss:List dc} {es:List PV} (hS:Ab S ss es) (Aa:Hc ss)
include hS Aa
theorem AI (u:Int):(∃ j,∃ hj:j < ss.length,has ss[j] u∧tf [.agg [S],i64 u]=some (i64 j))∨((∀ s∈ss,¬has s u)∧tf [.agg [S],i64 u]=some (i64 (-1))):=by
 have hS1:(AV.pv S).one=true:=by rcases hS.is with⟨h,_⟩ | h <;> rw[h] <;> rfl
 have h32:=Aa.len
 have ln:=hS.Wb
 have hloop:=fun (E:Tr) (h1:E.get 1= .pv (i64 u)) (h2:E.get 2= .pv (.rp [S] 0)) (h5:E.get 5= .pv (i64 0))=>
  Mo (call:=Ga (fun _=>none) 8) (b:=ie) (live:=[1,2,5]) (E0:=E) (H0:=[]) (Q:=fun r=>(∃ E j,∃ hj:j < ss.length,has ss[j] u∧r=(.ret,⟨E,[]⟩)∧E.get 4= .pv (i64 j))∨∃ E,r=(.exit 0,⟨E,[]⟩)∧∀ s∈ss,¬has s u)
   (fun i:Nat=>[(1,.pv (i64 u)),(2,.pv (.rp [S] 0)),(5,.pv (i64 i))]) (fun _=>[]) (fun i x=>x=i∧∀ k (hk:k < ss.length),k < i→¬has ss[k] u) ss.length (by unfold oa;omega) (fun _=>rfl)
   (fun i x _=>⟨by simp[Vn],yt rfl,rfl⟩) ⟨0,⟨h1,h2,h5,trivial⟩,rfl,rfl,fun k _ h=>by omega⟩
   (by
    rintro _ i E hi ⟨rfl,hno⟩ ⟨g1,g2,g5,_⟩
    obtain⟨P,ps,hP,a1⟩:=hS.pd hi
    have hk:=Aa.As _ (List.getElem_mem hi)
    have hcn:=Ol hP hk.parts
    rw[hk.prod.1] at hcn
    have hp1:=Cd hk.parts
    have hp2:=hk.prod.2
    have f0:=hk.f0
    have f1:=hk.f1
    have hP1:=hP.Mv.1
    have hnx:¬has ss[i] u→∀ k (hk:k < ss.length),k < i+1→¬has ss[k] u:=fun h k hk hlt=>by
     rcases Nat.lt_or_ge k i with h3 | h3
     ·exact hno k hk h3
     ·have:k=i:=by omega
      subst this;exact h
    have hyes:has ss[i] u→∀ E:Tr,E.get 4= .pv (i64 i)→(∃ E' j,∃ hj:j < ss.length,has ss[j] u∧((Ex.ret,(⟨E,[]⟩:St))=(.ret,⟨E',[]⟩))∧E'.get 4= .pv (i64 j)):=fun h E h4=>⟨E,i,hi,h,rfl,h4⟩
    unfold has at hnx hyes
    generalize ss[i]=s at *
    have e1:decide ((i:Int) < (ss.length:Int))=true:=Da (by omega)
    have t2:IntKind.i64.wrap ((i:Int)+1)=((i+1:Nat):Int):=mj (by omega)
    have t3:IntKind.i64.wrap (s.first+Ca s.parts)=s.first+Ca s.parts:=Ba (by omega)
    have t4:IntKind.i64.wrap (s.first+Ca s.parts - 1)=s.first+Ca s.parts - 1:=Ba (by omega)
    have fin:(¬ (s.first≤u∧u < s.first+Ca s.parts))→∀ E2:Tr,E2.get 1=E.get 1→E2.get 2=E.get 2→E2.get 5= .pv (i64 (i+1:Nat))→RH (fun i:Nat=>[(1,.pv (i64 u)),(2,.pv (.rp [S] 0)),(5,.pv (i64 i))]) (fun _=>[]) (fun x=>x=i+1∧∀ k (hk:k < ss.length),k < i+1→¬has ss[k] u) (fun r=>(∃ E j,∃ hj:j < ss.length,has ss[j] u∧r=(.ret,⟨E,[]⟩)∧E.get 4= .pv (i64 j))∨∃ E,r=(.exit 0,⟨E,[]⟩)∧∀ s∈ss,¬has s u) (.norm,⟨E2,[]⟩):=fun h E2 k1 k2 k5=>
     ⟨i+1,[],⟨k1.trans g1,k2.trans g2,k5,trivial⟩,rfl,rfl,hnx h⟩
    generalize hQ:RH _ _ _ _=Q at *
    by_cases c1:u≥s.first
    ·have d1:decide (u≥s.first)=true:=Da c1
     by_cases c2:u≤s.first+Ca s.parts - 1
     ·have d2:decide (u≤s.first+Ca s.parts - 1)=true:=Da c2
      simp -implicitDefEqProofs only[SX,sevalprocAttr,-List.reduceReplicate,ie,g1,g2,g5,Hb,Pa,Vb,bg,Cc,Vc,Mg,ln,a1,e1,hcn,t3,t4,d1,d2]
      subst hQ
      exact Or.inl (hyes ⟨by omega,by omega⟩ _ (by simp[Tr.aa]))
     ·have d2:decide (u≤s.first+Ca s.parts - 1)=false:=Ha c2
      simp -implicitDefEqProofs only[SX,sevalprocAttr,-List.reduceReplicate,ie,g1,g2,g5,Hb,Pa,Vb,bg,Cc,Vc,Mg,ln,a1,e1,hcn,t2,t3,t4,d1,d2]
      exact fin (by omega) _ (by simp[Tr.aa]) (by simp[Tr.aa]) (by simp[Tr.aa])
    ·have d1:decide (u≥s.first)=false:=Ha c1
     simp -implicitDefEqProofs only[SX,sevalprocAttr,-List.reduceReplicate,ie,g1,g2,g5,Hb,Pa,Vb,bg,Cc,Vc,Mg,ln,a1,e1,t2,d1]
     exact fin (by omega) _ (by simp[Tr.aa]) (by simp[Tr.aa]) (by simp[Tr.aa]))
   (by
    rintro i E ⟨rfl,hno⟩ ⟨g1,g2,g5,_⟩
    have e1:decide ((ss.length:Int) < (ss.length:Int))=false:=Ha (by omega)
    generalize hQ:(fun r:Ex×St=>r.1.stop=true∧_)=Q
    simp -implicitDefEqProofs only[SX,sevalprocAttr,-List.reduceReplicate,ie,g2,g5,Hb,Pa,ln,e1]
    subst hQ
    exact⟨rfl,.inr ⟨_,rfl,fun s hs=>by
     obtain⟨k,hk,rfl⟩:=List.getElem_of_mem hs
     exact hno k hk hk⟩⟩)
 have key:Td (fun x=>(∃ j,∃ hj:j < ss.length,has ss[j] u∧x=i64 j)∨((∀ s∈ss,¬has s u)∧x=i64 (-1))) (tf [.agg [S],i64 u]):=by
  generalize hQ:(fun x:PV=>_∨_)=Q
  simp -implicitDefEqProofs only[tf,SX,sevalprocAttr,-List.reduceReplicate,lk,hS1]
  refine xa (hloop _ (by simp[Tr.aa]) (by simp[Tr.aa]) (by simp[Tr.aa])) ?_
  rintro r ⟨_,⟨E,j,hj,hh,rfl,q4⟩ | ⟨E,rfl,hn⟩⟩
  ·simp -implicitDefEqProofs only[SX,sevalprocAttr,-List.reduceReplicate,q4]
   subst hQ
   exact .inl ⟨j,hj,hh,rfl⟩
  ·simp -implicitDefEqProofs only[SX,sevalprocAttr,-List.reduceReplicate]
   subst hQ
   exact .inr ⟨hn,rfl⟩
 obtain⟨x,hx,ho⟩:=Fc key
 rcases ho with⟨j,hj,hh,rfl⟩ | ⟨hn,rfl⟩
 ·exact .inl ⟨j,hj,hh,hx⟩
 ·exact .inr ⟨hn,hx⟩
theorem HL (u:Int):Ah [.agg [S],i64 u]=some (match AN u ss with | some b=> .Zb [.lit 1 (b.map u8),.bool true] | none=> .Zb [.pa,.bool false]):=by
 have hS1:(AV.pv S).one=true:=by rcases hS.is with⟨h,_⟩ | h <;> rw[h] <;> rfl
 rcases AI hS Aa u with⟨j,hj,hh,hf⟩ | ⟨hn,hf⟩
 ·obtain⟨P,ps,hP,a1⟩:=hS.pd hj
  have hk:=Aa.As _ (List.getElem_mem hj)
  rw[UT Aa hj hh]
  unfold has at hh
  have hu:=HE hP hk (k:=u - ss[j].first) (by omega) (by omega)
  have f0:=hk.f0
  have f1:=hk.f1
  have hp2:=hk.prod.2
  generalize ss[j]=s at *
  have e1:decide ((j:Int) < 0)=false:=Ha (by omega)
  have t3:IntKind.i64.wrap (u - s.first)=u - s.first:=Ba (by omega)
  simp -implicitDefEqProofs only[Ah,SX,sevalprocAttr,-List.reduceReplicate,cj,hS1,hf,e1,Pf,Hb,Pa,Vb,bg,Cc,Mg,Vc,a1,t3,hu]
 ·rw[TH hn]
  have e1:decide ((-1:Int) < 0)=true:=rfl
  simp -implicitDefEqProofs only[Ah,SX,sevalprocAttr,-List.reduceReplicate,cj,hS1,hf,e1,Pf]
end
end Go.AM.B1
namespace Go.AM.B1
open Go.AM
def zf:Na:=(.seq (jQ [Cv 15 8,Cv 16 1,jB 17 .lss 15 16] (jX 17 0)) (.seq (.block 1 (jQ [Cv 20 8,Co 21 (.kA 256 1 6 20),jl 22 1 21] (jC 22 (.region [Cv 23 7,jK 24 .add 23 1,Cv 7 24]) .skip))) (.region [Cv 18 8,jK 19 .add 18 1,Cv 8 19])))
def si:Hf:=⟨2,[.tmp 4,.tmp 5],(jQ [jk 4 0,jb 5 false] (.seq (jQ [Cv 9 0,Cv 10 1,jq 11 Ld 9 10,jt 12 11] (jC 12 (jr [jk 4 0,jb 5 false]) .skip)) (jQ [Cv 13 0,jp 14 pc 13,Co 6 (.alloc (List.replicate 256 (.bool false))),jS 256 6 14,jk 7 0] (.seq (jQ [jk 8 0] (.block 0 (.loop [1,6,7,8] zf))) (jr [Cv 25 7,Cv 4 25,jb 5 true])))))⟩
theorem cv:vc P fo 118 si:=fM Go.Proofs.Tryz.func118 (dC al (dC Ef dN))
def Hg:=Xb (fun _=>none) si
theorem Lv:Ma P 118 Hg:=Ja Sa cv
def Bf:Na:=(.seq (jQ [Cv 21 7,Cv 22 1,jn 23 0 22,jB 24 .lss 21 23] (jX 24 0)) (.seq (.block 1 (jQ [Jf 28 0 2,Jl 29 1 28,Cv 30 7,Ji 31 1 29 30,Jl 32 1 31,Cv 33 1,Cv 34 7,Ji 35 1 33 34,Jl 36 1 35,Cp 37 (.conv .i64 (.t 36)),jq 38 Hg 32 37,Cv 27 38,jx 39 0 27,jx 40 1 27,Cv 8 39,Cv 9 40] (.seq (jQ [Cv 41 9,jt 42 41] (jC 42 (jr [jk 4 0,jb 5 false]) .skip)) (.region [Cv 43 6,Jf 44 0 2,Jl 45 1 44,Cv 46 7,ji 47 1 45 46,jl 48 1 47,jp 49 vf 48,jB 50 .mul 43 49,Cv 51 8,jB 52 .add 50 51,Cv 6 52])))) (.region [Cv 25 7,jK 26 .add 25 1,Cv 7 26])))
def ui:Hf:=⟨2,[.tmp 4,.tmp 5],(jQ [jR 2 2 0,jk 4 0,jb 5 false] (.seq (jQ [JL 10 2 2,jp 11 Yd 10,jK 12 .eql 11 0,Cv 13 12,jF 14 13 (.km 1),jF 15 13 (.kn 0 14),JF 16 13 (.kf 0 2),JF 17 13 (.kl 1 16),jF 18 13 (.kn 0 17),jF 19 13 (.kB .neq 15 18),jo 20 13 19] (jC 20 (jr [jk 4 0,jb 5 false]) .skip)) (jQ [jk 6 0] (.seq (jQ [jk 7 0] (.block 0 (.loop [1,2,6,7] Bf))) (jr [Cv 53 6,Cv 4 53,jb 5 true])))))⟩
theorem Lu:vc P fo 84 ui:=fM Go.Proofs.Tryz.func84 (dC Gh (dC Lv (dC zk dN)))
def Jg:=Xb (fun _=>none) ui
theorem Kv:Ma P 84 Jg:=Ja Sa Lu
def Ye:Na:=(.seq (jQ [Cv 11 8,Jf 12 0 2,Jl 13 1 12,jn 14 0 13,jB 15 .lss 11 14] (jX 15 0)) (.seq (.block 1 (jQ [Jf 19 0 2,Jl 20 1 19,Cv 21 8,ji 22 2 20 21,jL 23 2 22,Cv 24 1,jq 25 Jg 23 24,Cv 18 25,jx 26 0 18,jx 27 1 18,Cv 9 26,Cv 10 27] (jQ [Cv 28 10,Cv 29 28,jT 30 29 (.km 7),jT 31 29 (.kt 30),jT 32 29 (.km 31),JF 33 32 (.kf 0 2),JF 34 32 (.kl 1 33),jF 35 32 (.km 8),jF 36 32 (.ki 2 34 35),jF 37 32 (.kf 1 36),jF 38 32 (.kl 1 37),jF 39 32 (.km 9),jF 40 32 (.kB .add 38 39),jF 41 32 (.km 6),jF 42 32 (.kB .lss 40 41),jT 43 29 (.ko 32 42),ja 44 29 43] (jC 44 (.region [Jf 45 0 2,Jl 46 1 45,Cv 47 8,ji 48 2 46 47,jf 49 1 48,jl 50 1 49,Cv 51 9,jB 52 .add 50 51,Cv 6 52,jb 7 true]) .skip)))) (.region [Cv 16 8,jK 17 .add 16 1,Cv 8 17])))
def Aj:Hf:=⟨2,[.tmp 4,.tmp 5],(jQ [jR 2 1 0,jk 4 0,jb 5 false] (jQ [jk 6 0,jb 7 false] (.seq (jQ [jk 8 0] (.block 0 (.loop [1,2,6,7,8] Ye))) (jr [Cv 53 6,Cv 54 7,Cv 4 53,Cv 5 54]))))⟩
theorem Ms:vc P fo 29 Aj:=fM Go.Proofs.Tryz.func29 (dC Kv dN)
def Ih:=Xb (fun _=>none) Aj
theorem Zu:Ma P 29 Ih:=Ja Sa Ms
def ue:Na:=(.seq (jQ [Cv 131 25,jf 132 0 9,jl 133 1 132,jn 134 0 133,jB 135 .leq 131 134] (jX 135 2)) (.seq (.block 3 (jQ [Cv 139 7,Cv 140 25,Cv 141 24,Co 142 (.kr Mc 139 140 141),Cv 138 142,jx 143 0 138,jx 144 1 138,Cv 26 143,Cv 27 144] (jQ [jL 146 1 9,Cv 147 25,Cv 148 24,Co 149 (.kr Pc 146 147 148),Cv 145 149,jx 150 0 145,jx 151 1 145,Cv 28 150,Cv 29 151] (jQ [Cv 152 26,Cv 153 28,jB 154 .neq 152 153,Cv 155 154,jF 156 155 (.km 27),jF 157 155 (.km 29),jF 158 155 (.eq 0 true (.t 156) (.t 157)),jo 159 155 158] (jC 159 (jr [jb 6 false]) .skip))))) (.region [Cv 136 25,jK 137 .add 136 1,Cv 25 137])))
def Xc:Na:=(jQ [jB 125 .lss 124 123] (.seq (jX 125 0) (.seq (.block 1 (jQ [Cv 126 124,ji 127 1 122 124,jl 128 1 127,Cv 23 126,Cv 24 128] (.seq (jQ [Cv 129 23,jK 130 .gtr 129 20] (jC 130 (.exit 0) .skip)) (jQ [jk 25 (-1)] (.block 2 (.loop [7,9,24,25,122,123,124] ue)))))) (.region [jK 160 .add 124 1,Cv 124 160]))))
def tc:Hf:=⟨3,[.tmp 6],(jQ [jR 3 1 0,jb 6 false] (.seq (jQ [Co 30 (.Ap Dh []),jt 31 30] (jC 31 (jr [jb 6 false]) .skip)) (jQ [JL 33 1 3,jp 34 Eb 33,Cv 32 34,jx 35 0 32,jx 36 1 32,Cv 7 35,Cv 8 36] (.seq (jQ [Cv 37 8,jK 38 .neq 37 0] (jC 38 (jr [Cv 39 7,Co 40 (.kE 1 false 39),Cv 6 40]) .skip)) (jQ [JL 42 1 3,jp 43 qd 42,Cv 41 43,jx 44 0 41,jx 45 1 41,Co 9 (.alloc [.pa]),jS 1 9 44,Cv 10 45] (.seq (jQ [Cv 46 7,Co 47 (.kE 1 false 46),Cv 48 47,jF 49 48 (.km 10),jF 50 48 (.kK .neq 49 0),jo 51 48 50] (jC 51 (jr [jb 6 false]) .skip)) (jQ [Cv 53 7,Cv 54 1,jq 55 Sd 53 54,Cv 52 55,jx 56 0 52,jx 57 1 52,Cv 11 56,Cv 12 57] (jQ [JL 59 1 3,Cv 60 1,jq 61 Ah 59 60,Cv 58 61,jx 62 0 58,jx 63 1 58,Cv 13 62,Cv 14 63] (jQ [Cv 65 7,Co 66 (.Yb .uq 1 false 0 [(.int .u8 0)] []),Cv 67 2,Co 68 (.ku 1 false 1 66 67),jq 69 Yg 65 68,Cv 64 69,jx 70 0 64,jx 71 1 64,Cv 15 70,Cv 16 71] (jQ [JL 73 1 3,Cv 74 2,jq 75 Ih 73 74,Cv 72 75,jx 76 0 72,jx 77 1 72,Cv 17 76,Cv 18 77] (jQ [Cv 79 7,Co 80 (.Yb .uq 1 false 0 [(.int .u8 0)] []),Cv 81 2,Co 82 (.ku 1 false 1 80 81),jq 83 th 79 82,Cv 78 83,jx 84 0 78,jx 85 1 78,Cv 19 84,Cv 20 85] (jQ [jL 87 1 9,Cv 88 2,jq 89 tg 87 88,Cv 86 89,jx 90 0 86,jx 91 1 86,Cv 21 90,Cv 22 91] (.seq (jQ [Cv 92 11,Co 93 (.dV (.t 92)),Cv 94 13,Co 95 (.dV (.t 94)),jB 96 .neq 93 95,Cv 97 96,jF 98 97 (.km 12),jF 99 97 (.km 14),jF 100 97 (.eq 0 true (.t 98) (.t 99)),jo 101 97 100,Cv 102 101,jF 103 102 (.km 15),jF 104 102 (.km 17),jF 105 102 (.kB .neq 103 104),jo 106 102 105,Cv 107 106,jF 108 107 (.km 16),jF 109 107 (.km 18),jF 110 107 (.eq 0 true (.t 108) (.t 109)),jo 111 107 110,Cv 112 111,jF 113 112 (.km 19),jF 114 112 (.km 21),jF 115 112 (.kB .neq 113 114),jo 116 112 115,Cv 117 116,jF 118 117 (.km 20),jF 119 117 (.km 22),jF 120 117 (.kB .neq 118 119),jo 121 117 120] (jC 121 (jr [jb 6 false]) .skip)) (.seq (jQ [Cv 122 2,jn 123 0 122,jk 124 0] (.block 0 (.loop [7,9,122,123,124] Xc))) (jr [jb 6 true])))))))))))))))⟩
theorem Jn:vc P fo 5 tc:=fM Go.Proofs.Tryz.func5 (dC Nu (dC kv (dC Jr (dC Jo (dC Ix (dC Yn (dC Zu (dC xx (dC tu (dC Lq (dC xn dN)))))))))))
def uo:=Xb (fun _=>none) tc
theorem Lo:Ma P 5 uo:=Ja Sa Jn
end Go.AM.B1
namespace Go.AM.B1
open Go.AM Go.AM.So
theorem GW {bs:List Int} (h:∀ b∈bs,0≤b∧b≤255):∃ w:List Nat,bs=AW w∧Bytes w:=by
 refine⟨bs.map Int.toNat,?_,?_⟩
 ·rw[AW,List.map_map]
  conv=>lhs;rw[← List.map_id bs]
  apply List.map_congr_left
  intro b hb
  show b=((b.toNat:Nat):Int)
  have:=h b hb;omega
 ·intro x hx
  obtain⟨b,hb,rfl⟩:=List.mem_map.1 hx
  have:=h b hb;omega
theorem Vj.take {B:PV} {bs:List Int} (h:Vj B bs) {n:Nat} (hn:n≤bs.length):∃ B',(∀ H,Bg H 1 (.pv B) none (some (n:Int))=some (.pv B'))∧Vj B' (bs.take n)∧(AV.pv B').one=true:=by
 rcases h.is with⟨rfl,hb⟩ | rfl
 ·have:bs=[]:=by simpa using hb
  subst this
  have:n=0:=by simpa using hn
  subst this
  exact⟨.pa,fun H=>rfl,⟨.inl ⟨rfl,rfl⟩,by simp⟩,rfl⟩
 ·refine⟨.lit 1 ((bs.take n).map (PV.int .u8)),fun H=> ?_,⟨.inr rfl,fun b hb=>h.RB b (List.mem_of_mem_take hb)⟩,rfl⟩
  simp only[Bg,Option.getD_some,Option.getD_none]
  rw[if_pos ⟨by omega,trivial,by omega,by omega,by simp;omega⟩]
  simp[List.map_take]
theorem zc.form {v:PV} {l:List (Int×Int)} (h:zc l) (hv:Jm v l):v=Te l:=by
 rcases hv.is with⟨_,h2⟩ | h2
 ·exact absurd (by simpa using h2) h.1
 ·exact h2
end Go.AM.B1
