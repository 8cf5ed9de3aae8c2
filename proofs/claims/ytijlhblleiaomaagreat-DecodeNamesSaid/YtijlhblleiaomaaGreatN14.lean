/- What functions of the program compute. -/
import Derived.Test.YtijlhblleiaomaaGreatN13
import Derived.Test.YtijlhblleiaomaaGreatN12
import Derived.Test.YtijlhblleiaomaaGreatN4
import Derived.Test.YtijlhblleiaomaaGreatN3
set_option linter.unusedVariables false
set_option linter.unusedSimpArgs false
namespace Go.AM.B1
open Go.AM Go.AM.So
def OM (es:List je):List PV:=(List.range 256).map fun b=> .int .i8 (Yh es b)
theorem BM {es:List je} {b:Nat} (hb:b < 256) (H:List aa):na H false 1 (.pv (.rp (OM es) b))=some (.pv (.int .i8 (Yh es b))):=by
 have:(OM es)[b]? =some (.int .i8 (Yh es b)):=by rw[OM,List.getElem?_map,List.getElem?_range hb];rfl
 simp only[na,Gk,Bool.false_eq_true,if_false,this];rfl
theorem zO {NX:PV} {l:List (List je)} (h:Ah 256 NX (l.map Fk)) {i:Nat} (hi:i < l.length) (H:List aa):ma H 256 (.pv NX) (i:Int)=some (.pv (.rp (OM l[i]) 0)):=by
 rw[h.lit (i:=i) (by simpa using hi)]
 simp only[ma]
 rw[if_pos ⟨trivial,by unfold Ca;rw[List.length_map];omega⟩,Int.toNat_natCast,List.getElem?_map,List.getElem?_eq_getElem hi];rfl
theorem ew (H:List aa) (a b c d e f:PV):na H false 1 (.pv (.rp [a,b,c,d,e,f] 2))=some (.pv c)∧na H false 1 (.pv (.rp [a,b,c,d,e,f] 3))=some (.pv d)∧na H false 1 (.pv (.rp [a,b,c,d,e,f] 4))=some (.pv e)∧na H false 1 (.pv (.rp [a,b,c,d,e,f] 5))=some (.pv f)∧na H false 1 (.pv (.rp [a,b,c,d,e,f] 0))=some (.pv a)∧na H false 1 (.pv (.rp [a,b,c,d,e,f] 1))=some (.pv b)∧na H true 1 (.pv (.rp [a,b,c,d,e,f] 0))=some (.pv (.agg [a])):=⟨rfl,rfl,rfl,rfl,rfl,rfl,rfl⟩
section
variable {T:PV} {ss:List ec} {l:List (List je)} (hT:er T ss l) (ho:∀ e∈l,Qj e)
include hT ho
theorem GC {st b:Int} (hb:0≤b∧b≤255):ie [T,i64 st,u8 b]=some (.bc [i64 (de l st b).1,.bool (de l st b).2]):=by
 obtain⟨S',NX,DG,RW,rfl,_,hNX,_,_⟩:=hT.ex
 have hrp:=ew (a:=S') (b:=jm l) (c:=NX) (d:=DG) (e:=RW) (f:=i64 (Ng ss))
 have l2:=fun H=>(hrp H).1
 have ln:=hNX.len
 rw[List.length_map] at ln
 generalize ([S',jm l,NX,DG,RW,i64 (Ng ss)]:List PV)=R at *
 by_cases h0:st < 0
 ·have hs:de l st b=(0,false):=by unfold de;rw[if_pos h0]
  have d0:decide (st < 0)=true:=Za h0
  rw[hs]
  simp -implicitDefEqProofs only[ie,SX,sevalprocAttr,We,sm,d0]
 have d0:decide (st < 0)=false:=mb h0
 obtain⟨i,rfl⟩:∃ i:Nat,st=(i:Int):=⟨st.toNat,by omega⟩
 by_cases h1:i < l.length
 ·have d1:decide ((i:Int)≥(l.length:Int))=false:=mb (by omega)
  have a1:=zO hNX h1
  have hs:de l (i:Int) b=match Qe b l[i] with
   |some t=>(t,true)
   |none=>(0,false):=by unfold de;rw[if_neg h0,Int.toNat_natCast,List.getElem?_eq_getElem h1] <;> rfl
  have heo:=(ho _ (List.getElem_mem h1)).iw
  rw[hs]
  generalize l[i]=es at *
  have hid:(0≤b∧b < ((256:Nat):Int))=True:=eq_true (by omega)
  have l3:=fun H=>BM (es:=es) (b:=b.toNat) (by omega) H
  have hg:Yh es b.toNat=(Qe b es).getD (-2):=by unfold Yh;rw[Int.toNat_of_nonneg hb.1]
  rw[hg] at l3
  have rpA1:∀ H (row:List PV),place H b.toNat (.pv (.rp row 0))=some (.pv (.rp row b.toNat)):=fun H row=>by rw[GD,Nat.zero_add]
  cases hse:Qe b es with
  |none=>
   rw[hse] at l3
   have z:((-2:Int)== -2)=true:=rfl
   have l3:∀ H,na H false 1 (.pv (.rp (OM es) b.toNat))=some (.pv (.int .i8 (-2))):=l3
   simp -implicitDefEqProofs only[ie,SX,sevalprocAttr,We,sm,d0,d1,GD,rpA1,l2,ln,a1,hid,l3,z]
  |some t=>
   rw[hse] at l3
   have l3:∀ H,na H false 1 (.pv (.rp (OM es) b.toNat))=some (.pv (.int .i8 t)):=l3
   obtain⟨x,hx,_,_,hxt⟩:=Vs hse
   have hr:=heo x hx
   rw[hxt] at hr
   have z:(t== -2)=false:=by simp;omega
   have t1:IntKind.i64.wrap t=t:=Da (by omega)
   simp -implicitDefEqProofs only[ie,SX,sevalprocAttr,We,sm,d0,d1,GD,rpA1,l2,ln,a1,hid,l3,z,t1]
 ·have d1:decide ((i:Int)≥(l.length:Int))=true:=Za (by omega)
  have hs:de l (i:Int) b=(0,false):=by unfold de;rw[if_neg h0,Int.toNat_natCast,List.getElem?_eq_none (by omega)]
  rw[hs]
  simp -implicitDefEqProofs only[ie,SX,sevalprocAttr,We,sm,d0,d1,GD,l2,ln]
end
end Go.AM.B1
namespace Go.AM.B1
open Go.AM Go.AM.So
def VD (a b:Int):Int:=if a < b then -1 else if a > b then 1 else 0
theorem OF (a b:Int):Eg [i64 a,i64 b]=some (i64 (VD a b)):=by
 have hn:∀ x:Int,mj [i64 x]=some (.bool false):=fun x=>by
  have z:(x != x)=false:=by simp
  simp -implicitDefEqProofs only[mj,SX,sevalprocAttr,cr,z]
 unfold VD
 by_cases h1:a < b
 ·have d1:decide (a < b)=true:=Za h1
  rw[if_pos h1]
  simp -implicitDefEqProofs only[Eg,SX,sevalprocAttr,ei,hn,d1]
 ·have d1:decide (a < b)=false:=mb h1
  rw[if_neg h1]
  by_cases h2:a > b
  ·have d2:decide (a > b)=true:=Za h2
   rw[if_pos h2]
   simp -implicitDefEqProofs only[Eg,SX,sevalprocAttr,ei,hn,d1,d2]
  ·have d2:decide (a > b)=false:=mb h2
   rw[if_neg h2]
   simp -implicitDefEqProofs only[Eg,SX,sevalprocAttr,ei,hn,d1,d2]
theorem sG (call:Fa) (a b c u:Int) (H:List aa):Hd call Vg [.pv (.agg [i64 a,i64 b,i64 c]),.pv (i64 u)] H=some (.pv (i64 (VD a u)),H):=by
 have hc:=OF a u
 have l0:∀ H,na H false 1 (.pv (.rp [i64 a,i64 b,i64 c] 0))=some (.pv (i64 a)):=fun H=>rfl
 have l1:∀ H,place H 0 (.pv (.rp [i64 a,i64 b,i64 c] 0))=some (.pv (.rp [i64 a,i64 b,i64 c] 0)):=fun H=>rfl
 simp -implicitDefEqProofs only[SX,sevalprocAttr,Vg,l0,l1,hc]
def r0 (r:List Int):Int:=r.getD 0 0
def r1 (r:List Int):Int:=r.getD 1 0
def r2 (r:List Int):Int:=r.getD 2 0
theorem KT {r:List Int} (h:r.length=3):r=[r0 r,r1 r,r2 r]:=by
 match r,h with
 | [a,b,c],_=>rfl
section
variable {RW:PV} {D:List (List Int)} (hR:Ah 3 RW (D.map lE)) (hD:∀ r∈D,r.length=3)
include hR hD
theorem qv {i:Nat} (hi:i < D.length) (H:List aa):ma H 3 (.pv RW) (i:Int)=some (.pv (.rp [i64 (r0 D[i]),i64 (r1 D[i]),i64 (r2 D[i])] 0)):=by
 rw[hR.lit (i:=i) (by simpa using hi)]
 simp only[ma]
 have h3:=KT (hD _ (List.getElem_mem hi))
 rw[if_pos ⟨trivial,by unfold Ca;rw[List.length_map];omega⟩,Int.toNat_natCast,List.getElem?_map,List.getElem?_eq_getElem hi,Option.map_some,Option.map_some]
 congr 4
 show (lE D[i]).cells=_
 unfold lE
 generalize D[i]=r at *
 match r,h3 with
 |r,h3=>rw[h3];rfl
variable (hs:∀ i j (h:i < j) (hj:j < D.length),r0 D[i]≤r0 D[j]) (hlen:D.length≤32)
include hs hlen
theorem CS {H:List aa} (hH:Kc H) (u:Int):∃ i:Nat,i≤D.length∧(∀ k (hk:k < D.length),k < i→r0 D[k] < u)∧(∀ k (hk:k < D.length),i≤k→u≤r0 D[k])∧
 Hd (za ud 7) Ma [.pv RW,.pv (i64 u),.mi 41 []] H=some (.pv (.bc [i64 i,.bool (if h:i < D.length then decide (r0 D[i]=u) else false)]),H):=by
 have lR:=hR.len
 rw[List.length_map] at lR
 have c41:ud 41=some Vg:=rfl
 have r3:∀ H (x y z:PV),na H true 3 (.pv (.rp [x,y,z] 0))=some (.pv (.agg [x,y,z])):=fun H x y z=>rfl
 have hcl:∀ n,AV.cut n deep (.mi 41 [])=some (.mi 41 []):=fun n=>rfl
 have hloop:=fun (E:Tr) (h0:E.get 0= .pv RW) (h1:E.get 1= .pv (i64 u)) (h2:E.get 2= .mi 41 []) (h8:E.get 8= .pv (i64 D.length)) (h9:E.get 9= .pv (i64 0)) (h10:E.get 10= .pv (i64 D.length))=>
  SK (call:=za ud 7) (b:=Ua) (live:=[0,1,2,8,9,10]) (s:=⟨E,H⟩)
   (Q:=fun r=>∃ E' i,r=(.exit 0,⟨E',H⟩)∧oe [0,1,2,8] E E'∧E'.get 9= .pv (i64 (i:Nat))∧i≤D.length∧(∀ k (hk:k < D.length),k < i→r0 D[k] < u)∧(∀ k (hk:k < D.length),i≤k→u≤r0 D[k]))
   (fun m t=>oe [0,1,2,8] E t.env∧t.H=H∧∃ i j:Nat,t.env.get 9= .pv (i64 i)∧t.env.get 10= .pv (i64 j)∧i≤j∧j≤D.length∧m=j - i∧(∀ k (hk:k < D.length),k < i→r0 D[k] < u)∧(∀ k (hk:k < D.length),j≤k→u≤r0 D[k]))
   D.length (by unfold wa;omega)
   (Ug.all rfl (hH _ (Nat.le_refl _)) (Fit.cons h0 Ha (.cons h1 Ha (.cons h2 (hcl _) (.cons h8 Ha (.cons h9 Ha (.cons h10 Ha (.nil _ _))))))) fun E' hE=>⟨oe.sub hE rfl,rfl,0,D.length,by rw[hE 9 (by simp),h9];rfl,by rw[hE 10 (by simp),h10],by omega,by omega,by omega,fun k _ h=>by omega,fun k hk h=>by omega⟩)
   (by
    rintro m ⟨E1,H1⟩ ⟨k1,k2,i,j,k9,k10,hij,hj,hm,ha,hb⟩
    simp only at k1 k2 k9 k10
    replace k2:=k2.symm
    subst k2
    by_cases hlt:i < j
    ·have e1:decide ((i:Int) < (j:Int))=true:=Za (by omega)
     have g0:=(k1 0 (by simp)).trans h0
     have g1:=(k1 1 (by simp)).trans h1
     have g2:=(k1 2 (by simp)).trans h2
     obtain⟨h,hh⟩:∃ h,h=(i+j) / 2:=⟨_,rfl⟩
     have hhD:h < D.length:=by omega
     have a1:=qv hR hD hhD
     have hc:=sG (za ud 6) (r0 D[h]) (r1 D[h]) (r2 D[h]) u H
     have w1:IntKind.i64.wrap ((i:Int)+(j:Int))=(i:Int)+j:=Da (by omega)
     have w2:IntKind.u64.wrap ((i:Int)+(j:Int))=(i:Int)+j:=by
      unfold IntKind.wrap;simp[IntKind.signed,IntKind.bits];omega
     have w3:((i:Int)+(j:Int)).fdiv (2 ^ min 1 IntKind.u64.bits)=(h:Int):=by
      show ((i:Int)+(j:Int)).fdiv 2=_
      rw[Int.fdiv_eq_ediv_of_nonneg _ (by omega)];omega
     have w4:IntKind.i64.wrap (h:Int)=(h:Int):=Da (by omega)
     have w5:IntKind.i64.wrap ((h:Int)+1)=((h+1:Nat):Int):=Gh (by omega)
     have z0:((1:Int) < 0)=False:=by simp
     generalize hQ:RQ _ _ _ _=Q
     by_cases hcu:r0 D[h] < u
     ·have hcm:VD (r0 D[h]) u= -1:=by unfold VD;rw[if_pos hcu]
      have z1:decide ((-1:Int) < 0)=true:=rfl
      rw[hcm] at hc
      simp -implicitDefEqProofs only[SX,sevalprocAttr,Ua,k9,k10,e1,g0,g1,g2,a1,r3,w1,w2,w3,w4,w5,z0,c41,hc,z1]
      subst hQ
      rw[Nn]
      generalize hEE:(Tr.set _ 9 _:Tr)=E2
      have kk:oe [0,1,2,8] E E2:=by
       rw[← hEE]
       repeat refine oe.set ?_ rfl
       exact k1
      have z9:E2.get 9= .pv (i64 (h+1:Nat)):=by rw[← hEE];simp[Tr.ba]
      have z10:E2.get 10= .pv (i64 j):=by rw[← hEE];simp[Tr.ba,k10]
      exact Ug.all rfl (hH _ (Nat.le_refl _)) (Fit.sub (.cons z9 Ha (.cons z10 Ha (Fit.Wc (l:=[0,1,2,8]) (.cons h0 Ha (.cons h1 Ha (.cons h2 (hcl _) (.cons h8 Ha (.nil _ _))))) kk))) rfl) fun E' hE=>⟨j - (h+1),by omega,kk.trans (oe.sub hE rfl),rfl,h+1,j,by rw[hE 9 (by simp),z9],by rw[hE 10 (by simp),z10],by omega,hj,rfl,fun k hk hkh=>by
       rcases Nat.lt_or_ge k h with h5 | h5
       ·exact Int.lt_of_le_of_lt (hs k h h5 hhD) hcu
       ·obtain rfl:k=h:=by omega
        exact hcu,hb⟩
     ·have z1:decide (VD (r0 D[h]) u < 0)=false:=mb (by unfold VD;rw[if_neg hcu];split <;> omega)
      simp -implicitDefEqProofs only[SX,sevalprocAttr,Ua,k9,k10,e1,g0,g1,g2,a1,r3,w1,w2,w3,w4,w5,z0,c41,hc,z1]
      subst hQ
      rw[Nn]
      generalize hEE:(Tr.set _ 10 _:Tr)=E2
      have kk:oe [0,1,2,8] E E2:=by
       rw[← hEE]
       repeat refine oe.set ?_ rfl
       exact k1
      have z9:E2.get 9= .pv (i64 i):=by rw[← hEE];simp[Tr.ba,k9]
      have z10:E2.get 10= .pv (i64 h):=by rw[← hEE];simp[Tr.ba]
      exact Ug.all rfl (hH _ (Nat.le_refl _)) (Fit.sub (.cons z9 Ha (.cons z10 Ha (Fit.Wc (l:=[0,1,2,8]) (.cons h0 Ha (.cons h1 Ha (.cons h2 (hcl _) (.cons h8 Ha (.nil _ _))))) kk))) rfl) fun E' hE=>⟨h - i,by omega,kk.trans (oe.sub hE rfl),rfl,i,h,by rw[hE 9 (by simp),z9],by rw[hE 10 (by simp),z10],by omega,by omega,rfl,ha,fun k hk hkh=>by
       rcases Nat.lt_or_ge h k with h5 | h5
       ·exact Int.le_trans (Int.not_lt.1 hcu) (hs h k h5 hk)
       ·obtain rfl:k=h:=by omega
        omega⟩
    ·obtain rfl:i=j:=by omega
     have e1:decide ((i:Int) < (i:Int))=false:=mb (by omega)
     generalize hQ:RQ _ _ _ _=Q
     simp -implicitDefEqProofs only[SX,sevalprocAttr,Ua,k9,k10,e1]
     subst hQ
     exact⟨_,i,rfl,by repeat refine oe.set ?_ rfl
                      exact k1,by simp[Tr.ba,k9],hj,ha,hb⟩)
 have key:ke (fun r=>∃ i:Nat,i≤D.length∧(∀ k (hk:k < D.length),k < i→r0 D[k] < u)∧(∀ k (hk:k < D.length),i≤k→u≤r0 D[k])∧r=(.pv (.bc [i64 i,.bool (if h:i < D.length then decide (r0 D[i]=u) else false)]),H)) (Hd (za ud 7) Ma [.pv RW,.pv (i64 u),.mi 41 []] H):=by
  generalize hQ:(fun r:AV×List aa=>∃ i:Nat,_)=Q
  simp -implicitDefEqProofs only[SX,sevalprocAttr,Ma,lR]
  generalize hEE:(Tr.set _ 10 _:Tr)=E
  refine Wa (hloop E (by rw[← hEE];simp[Tr.ba]) (by rw[← hEE];simp[Tr.ba]) (by rw[← hEE];simp[Tr.ba]) (by rw[← hEE];simp[Tr.ba]) (by rw[← hEE];simp[Tr.ba]) (by rw[← hEE];simp[Tr.ba])) ?_
  have h0:E.get 0= .pv RW:=by rw[← hEE];simp[Tr.ba]
  have h1:E.get 1= .pv (i64 u):=by rw[← hEE];simp[Tr.ba]
  have h2:E.get 2= .mi 41 []:=by rw[← hEE];simp[Tr.ba]
  have h8:E.get 8= .pv (i64 D.length):=by rw[← hEE];simp[Tr.ba]
  rintro r ⟨_,E',i,rfl,k1,k9,hi,ha,hb⟩
  have g0:=(k1 0 (by simp)).trans h0
  have g1:=(k1 1 (by simp)).trans h1
  have g2:=(k1 2 (by simp)).trans h2
  have g8:=(k1 8 (by simp)).trans h8
  by_cases hlt:i < D.length
  ·have e1:decide ((i:Int) < (D.length:Int))=true:=Za (by omega)
   have a1:=qv hR hD hlt
   have hc:=sG (za ud 6) (r0 D[i]) (r1 D[i]) (r2 D[i]) u H
   have hge:=hb i hlt (Nat.le_refl _)
   have z:(VD (r0 D[i]) u==0)=decide (r0 D[i]=u):=by
    unfold VD
    rw[if_neg (by omega)]
    by_cases h5:r0 D[i] > u
    ·rw[if_pos h5,mb (by omega)];rfl
    ·rw[if_neg h5,Za (by omega)];rfl
   simp -implicitDefEqProofs only[SX,sevalprocAttr,k9,g0,g1,g2,g8,e1,a1,r3,c41,hc,z]
   subst hQ
   exact⟨i,hi,ha,hb,by rw[dif_pos hlt]⟩
  ·have e1:decide ((i:Int) < (D.length:Int))=false:=mb (by omega)
   simp -implicitDefEqProofs only[SX,sevalprocAttr,k9,g0,g1,g2,g8,e1]
   subst hQ
   exact⟨i,hi,ha,hb,by rw[dif_neg hlt]⟩
 obtain⟨r,h1,i,h2,h3,h4,rfl⟩:=vd key
 exact⟨i,h2,h3,h4,h1⟩
end
theorem vL {ss:List ec} {r:List Int} (h:r∈ah ss):∃ j,∃ hj:j < ss.length,r=yr ss[j] j:=by
 have:=(gn ss).mem_iff.1 h
 unfold Fg at this
 obtain⟨j,hj,rfl⟩:=List.mem_map.1 this
 have hj:=List.mem_range.1 hj
 exact⟨j,hj,by rw[List.getD_eq_getElem?_getD,List.getElem?_eq_getElem hj];rfl⟩
theorem KK {ss:List ec} {j:Nat} (hj:j < ss.length):yr ss[j] j∈ah ss:=by
 refine (gn ss).mem_iff.2 ?_
 unfold Fg
 refine List.mem_map.2 ⟨j,List.mem_range.2 hj,?_⟩
 rw[List.getD_eq_getElem?_getD,List.getElem?_eq_getElem hj];rfl
theorem wD (ss:List ec) (i j:Nat) (h:i < j) (hj:j < (ah ss).length):r0 (ah ss)[i]≤r0 (ah ss)[j]:=by
 obtain⟨h1,h2,h3⟩:=Vu 3 0 (Fg ss ss.length).toArray
 have hj':j < (Fg ss ss.length).toArray.size:=by rw[← h1];simpa[ah] using hj
 have h4:=h3 i j h hj'
 have key:∀ k (hk:k < (ah ss).length),Kr 3 0 (Kl 3 0 (Fg ss ss.length).toArray)[k]! =r0 (ah ss)[k]:=by
  intro k hk
  have hk':k < (Kl 3 0 (Fg ss ss.length).toArray).size:=by simpa[ah] using hk
  rw[getElem!_pos _ k hk']
  have e:(Kl 3 0 (Fg ss ss.length).toArray)[k]=(ah ss)[k]:=by simp[ah]
  have h3:=Xw (List.getElem_mem hk)
  rw[e]
  generalize (ah ss)[k]=r at *
  unfold Kr r0
  rw[if_pos h3]
 rw[key i (by omega),key j hj] at h4
 omega
theorem QF (ss:List ec):(ah ss).Nodup:=by
 refine (gn ss).nodup_iff.2 ?_
 unfold Fg List.Nodup
 rw[List.pairwise_map]
 refine List.Pairwise.imp ?_ (List.nodup_range (n:=ss.length))
 intro i j h e
 unfold yr at e
 injection e with _ e
 injection e with _ e
 injection e with e _
 omega
def has (s:ec) (u:Int):Prop:=s.first≤u∧u < s.first+Ba s.parts
theorem xE {ss:List ec} (ta:ue ss) {i j:Nat} (hi:i < ss.length) (hj:j < ss.length) {u:Int} (h1:has ss[i] u) (h2:has ss[j] u):i=j:=by
 have hap:=ta.apart
 rw[List.pairwise_iff_getElem] at hap
 have e1:=(ta.my _ (List.getElem_mem hi)).Jg
 have e2:=(ta.my _ (List.getElem_mem hj)).Jg
 unfold has at h1 h2
 rcases Nat.lt_trichotomy i j with h | h | h
 ·exact absurd (hap i j hi hj h u) (fun hn=>hn ⟨by omega,by omega⟩)
 ·exact h
 ·exact absurd (hap j i hj hi h u) (fun hn=>hn ⟨by omega,by omega⟩)
section
variable {T:PV} {ss:List ec} {l:List (List je)} (hT:er T ss l) (ta:ue ss)
include hT ta
theorem KN (u:Int):(∃ j,∃ hj:j < ss.length,has ss[j] u∧od [T,i64 u]=some (.bc [.agg [i64 ss[j].first,i64 (ss[j].first+Ba ss[j].parts - 1),i64 j],.bool true]))∨
 ((∀ s∈ss,¬has s u)∧od [T,i64 u]=some (.bc [.agg [i64 0,i64 0,i64 0],.bool false])):=by
 obtain⟨S',NX,DG,RW,rfl,_,_,_,hRW⟩:=hT.ex
 have hrp:=ew (a:=S') (b:=jm l) (c:=NX) (d:=DG) (e:=RW) (f:=i64 (Ng ss))
 have l4:=fun H=>(hrp H).2.2.1
 generalize ([S',jm l,NX,DG,RW,i64 (Ng ss)]:List PV)=R at *
 obtain⟨D,hRW,hDr,hDm,hDh,hDl,hDs,hnd⟩:∃ D:List (List Int),Ah 3 RW (D.map lE)∧(∀ r∈D,r.length=3)∧(∀ r∈D,∃ j,∃ hj:j < ss.length,r=yr ss[j] j)∧(∀ j (hj:j < ss.length),yr ss[j] j∈D)∧D.length=ss.length∧(∀ i j (h:i < j) (hj:j < D.length),r0 D[i]≤r0 D[j])∧D.Nodup:=
  ⟨ah ss,hRW,fun r hr=>Xw hr,fun r hr=>vL hr,fun j hj=>KK hj,sC ss,wD ss,QF ss⟩
 have h32:=ta.len
 have hg:Kc [aa.box [.pv (i64 0),.pv (i64 0),.pv (i64 0)]]:=fun n _ o ho=>by
  rw[List.mem_singleton] at ho;subst ho;exact Zm n [i64 0,i64 0,i64 0]
 obtain⟨i,hi,ha,hb,hrun⟩:=CS hRW hDr hDs (by omega) hg u
 have c40:ud 40=some Ma:=rfl
 have b0:∀ a b c d e f,Pa [aa.box [.pv a,.pv b,.pv c]] 3 (.ptr 0 0) (.pv (.agg [.int .i64 d,.int .i64 e,.int .i64 f]))=some [.box [.pv (i64 d),.pv (i64 e),.pv (i64 f)]]:=fun a b c d e f=>rfl
 have ld:∀ a b c,na [aa.box [.pv a,.pv b,.pv c]] true 3 (.ptr 0 0)=some (.pv (.agg [a,b,c])):=fun a b c=>rfl
 have r3:∀ H (x y z:PV),na H true 3 (.pv (.rp [x,y,z] 0))=some (.pv (.agg [x,y,z])):=fun H x y z=>rfl
 have r31:∀ H (x y z:PV),na H false 1 (.pv (.rp [x,y,z] 1))=some (.pv y):=fun H x y z=>rfl
 have fin:∀ k (hk:k < D.length),(∀ m (hm:m < D.length),k < m→u < r0 D[m])→r0 D[k]≤u→
  ((u≤r1 D[k]→∃ j,∃ hj:j < ss.length,has ss[j] u∧PV.agg [i64 (r0 D[k]),i64 (r1 D[k]),i64 (r2 D[k])]= .agg [i64 ss[j].first,i64 (ss[j].first+Ba ss[j].parts - 1),i64 j])∧(¬ u≤r1 D[k]→∀ s∈ss,¬has s u)):=by
  intro k hk hgt hle
  obtain⟨j',hj',hr'⟩:=hDm _ (List.getElem_mem hk)
  constructor
  ·intro h1
   rw[hr'] at h1 hle ⊢
   refine⟨j',hj',⟨hle,?_⟩,rfl⟩
   have:u≤ss[j'].first+Ba ss[j'].parts - 1:=h1
   omega
  ·intro h1 s hs hh
   obtain⟨j,hj,rfl⟩:=List.getElem_of_mem hs
   obtain⟨m,hm,hmr⟩:=List.getElem_of_mem (hDh j hj)
   have hh':=hh
   unfold has at hh'
   have hp:=Ue (ta.my _ (List.getElem_mem hj')).parts
   rcases Nat.lt_or_ge k m with h | h
   ·have:=hgt m hm h
    rw[hmr] at this
    have:u < ss[j].first:=this
    omega
   ·have h3:r0 D[m]≤r0 D[k]:=by
     rcases Nat.lt_or_ge m k with h5 | h5
     ·exact hDs m k h5 hk
     ·have:m=k:=by omega
      subst this;exact Int.le_refl _
    rw[hmr] at h3
    rw[hr'] at h3 hle h1
    have h3:ss[j].first≤ss[j'].first:=h3
    have hle:ss[j'].first≤u:=hle
    have e:j=j':=xE ta hj hj' (u:=ss[j'].first) ⟨h3,by omega⟩ ⟨Int.le_refl _,by omega⟩
    subst e
    have:¬u≤ss[j].first+Ba ss[j].parts - 1:=h1
    omega
 have step:∀ (k:Nat) (hk:k < D.length),(∀ q (hq:q < D.length),k < q→u < r0 D[q])→r0 D[k]≤u→∀ R0:PV,
  (u≤r1 D[k]→R0= .bc [.agg [i64 (r0 D[k]),i64 (r1 D[k]),i64 (r2 D[k])],.bool true])→(¬ u≤r1 D[k]→R0= .bc [.agg [i64 0,i64 0,i64 0],.bool false])→
  (∃ j,∃ hj:j < ss.length,has ss[j] u∧R0= .bc [.agg [i64 ss[j].first,i64 (ss[j].first+Ba ss[j].parts - 1),i64 j],.bool true])∨((∀ s∈ss,¬has s u)∧R0= .bc [.agg [i64 0,i64 0,i64 0],.bool false]):=by
  intro k hk h1 h2 R0 h3 h4
  obtain⟨f1,f2⟩:=fin k hk h1 h2
  by_cases hc:u≤r1 D[k]
  ·obtain⟨j,hj,g1,g2⟩:=f1 hc
   exact .inl ⟨j,hj,g1,by rw[h3 hc,g2]⟩
  ·exact .inr ⟨f2 hc,h4 hc⟩
 suffices key:∃ R0,od [.rp R 0,i64 u]=some R0∧((∃ j,∃ hj:j < ss.length,has ss[j] u∧R0= .bc [.agg [i64 ss[j].first,i64 (ss[j].first+Ba ss[j].parts - 1),i64 j],.bool true])∨((∀ s∈ss,¬has s u)∧R0= .bc [.agg [i64 0,i64 0,i64 0],.bool false])) by
  obtain⟨R0,k1,⟨j,hj,k2,rfl⟩ | ⟨k2,rfl⟩⟩:=key
  ·exact .inl ⟨j,hj,k2,k1⟩
  ·exact .inr ⟨k2,k1⟩
 by_cases his:∃ h:i < D.length,r0 D[i]=u
 ·obtain⟨h,he⟩:=his
  rw[dif_pos h,Za he] at hrun
  have hgt:∀ q (hq:q < D.length),i < q→u < r0 D[q]:=by
   intro q hq hiq
   have h3:=hDs i q hiq hq
   rcases Int.lt_or_le u (r0 D[q]) with h5 | h5
   ·exact h5
   ·exfalso
    obtain⟨j,hj,hr⟩:=hDm _ (List.getElem_mem h)
    obtain⟨j',hj',hr'⟩:=hDm _ (List.getElem_mem hq)
    have hp:=Ue (ta.my _ (List.getElem_mem hj)).parts
    have hp':=Ue (ta.my _ (List.getElem_mem hj')).parts
    have e1:ss[j].first=u:=by rw[hr] at he;exact he
    have e2:ss[j'].first≤u:=by rw[hr'] at h5;exact h5
    have e3:u≤ss[j'].first:=by rw[hr',he] at h3;exact h3
    have:j=j':=xE ta hj hj' (u:=u) ⟨by omega,by omega⟩ ⟨by omega,by omega⟩
    subst this
    have:=(List.getElem_inj hnd).1 (hr.trans hr'.symm)
    omega
  have a1:=qv hRW hDr h
  have z1:decide ((i:Int) < 0)=false:=mb (by omega)
  refine⟨_,?_,step i h hgt (by omega) (if u≤r1 D[i] then .bc [.agg [i64 (r0 D[i]),i64 (r1 D[i]),i64 (r2 D[i])],.bool true] else .bc [.agg [i64 0,i64 0,i64 0],.bool false]) (fun h=>by rw[if_pos h]) (fun h=>by rw[if_neg h])⟩
  by_cases hc:u≤r1 D[i]
  ·have z2:decide (u > r1 D[i])=false:=mb (by omega)
   rw[if_pos hc]
   simp -implicitDefEqProofs only[od,SX,sevalprocAttr,pf,sm,GD,l4,c40,hrun,z1,a1,z2,r31,r3,b0,ld]
  ·have z2:decide (u > r1 D[i])=true:=Za (by omega)
   rw[if_neg hc]
   simp -implicitDefEqProofs only[od,SX,sevalprocAttr,pf,sm,GD,l4,c40,hrun,z1,a1,z2,r31,r3,b0,ld]
 ·have hf:(if h:i < D.length then decide (r0 D[i]=u) else false)=false:=by
   by_cases h:i < D.length
   ·rw[dif_pos h];exact mb fun e=>his ⟨h,e⟩
   ·rw[dif_neg h]
  rw[hf] at hrun
  have w1:IntKind.i64.wrap ((i:Int) - 1)=(i:Int) - 1:=Da (by omega)
  cases i with
  |zero=>
   have z1:decide ((-1:Int) < 0)=true:=rfl
   have w1:IntKind.i64.wrap (-1)= -1:=Da (by decide)
   have hrun:Hd (za ud 7) Ma [.pv RW,.pv (i64 u),.mi 41 []] [.box [.pv (i64 0),.pv (i64 0),.pv (i64 0)]]=some (.pv (.bc [i64 0,.bool false]),[.box [.pv (i64 0),.pv (i64 0),.pv (i64 0)]]):=hrun
   refine⟨.bc [.agg [i64 0,i64 0,i64 0],.bool false],?_,.inr ⟨fun s hs hh=> ?_,rfl⟩⟩
   ·simp -implicitDefEqProofs only[od,SX,sevalprocAttr,pf,sm,GD,l4,c40,hrun,w1,z1,b0,ld]
   ·obtain⟨j,hj,rfl⟩:=List.getElem_of_mem hs
    obtain⟨m,hm,hmr⟩:=List.getElem_of_mem (hDh j hj)
    have h6:=hb m hm (Nat.zero_le _)
    have hne:r0 D[m]≠u:=by
     intro e
     have h7:=hb 0 (by omega) (Nat.le_refl _)
     have h8:r0 D[0]≤r0 D[m]:=by
      rcases Nat.eq_zero_or_pos m with h9 | h9
      ·subst h9;exact Int.le_refl _
      ·exact hDs 0 m h9 hm
     exact his ⟨by omega,by omega⟩
    rw[hmr] at h6 hne
    have h6:u≤ss[j].first:=h6
    have hne:ss[j].first≠u:=hne
    unfold has at hh;omega
  |succ i=>
   have h:i < D.length:=by omega
   have w2:((i+1:Nat):Int) - 1=(i:Int):=by omega
   rw[w2] at w1
   have z1:decide ((i:Int) < 0)=false:=mb (by omega)
   have a1:=qv hRW hDr h
   have hlt:=ha i h (by omega)
   have hgt:∀ q (hq:q < D.length),i < q→u < r0 D[q]:=by
    intro q hq hiq
    have h6:=hb q hq (by omega)
    rcases Int.lt_or_le u (r0 D[q]) with h5 | h5
    ·exact h5
    ·exfalso
     have h7:=hb (i+1) (by omega) (Nat.le_refl _)
     have h8:r0 D[i+1]≤r0 D[q]:=by
      rcases Nat.lt_or_ge (i+1) q with h9 | h9
      ·exact hDs (i+1) q h9 hq
      ·have:i+1=q:=by omega
       subst this;exact Int.le_refl _
     exact his ⟨by omega,by omega⟩
   refine⟨_,?_,step i h hgt (by omega) (if u≤r1 D[i] then .bc [.agg [i64 (r0 D[i]),i64 (r1 D[i]),i64 (r2 D[i])],.bool true] else .bc [.agg [i64 0,i64 0,i64 0],.bool false]) (fun h=>by rw[if_pos h]) (fun h=>by rw[if_neg h])⟩
   by_cases hc:u≤r1 D[i]
   ·have z2:decide (u > r1 D[i])=false:=mb (by omega)
    rw[if_pos hc]
    simp -implicitDefEqProofs only[od,SX,sevalprocAttr,pf,sm,GD,l4,c40,hrun,w1,w2,z1,a1,z2,r31,r3,b0,ld]
   ·have z2:decide (u > r1 D[i])=true:=Za (by omega)
    rw[if_neg hc]
    simp -implicitDefEqProofs only[od,SX,sevalprocAttr,pf,sm,GD,l4,c40,hrun,w1,w2,z1,a1,z2,r31,r3,b0,ld]
end
end Go.AM.B1
namespace Go.AM.B1
open Go.AM Go.AM.So
def qP (u:Int):List ec→Option (List Int)
 | []=>none
 |s::r=>if s.first≤u∧u < s.first+Ba s.parts then some (Bf s.parts (u - s.first)) else qP u r
theorem bH {u:Int}:∀ {ss:List ec} {b:List Int},(∀ s∈ss,Mg s)→qP u ss=some b→∃ s∈ss,s.first≤u∧u < s.first+Ba s.parts∧b=Bf s.parts (u - s.first)∧zj s b=some (u - s.first)∧(∀ x∈b,0≤x∧x≤255)∧b≠[]
 |s::r,b,h,he=>by
  rw[qP] at he
  split at he
  ·next hc=>
   injection he with he;subst he
   have hs:=h s (by simp)
   obtain⟨h1,h2,h3⟩:=Er s.parts (u - s.first) 0 hs.parts (by omega) (by omega)
   refine⟨s,by simp,hc.1,hc.2,rfl,?_,h3,?_⟩
   ·unfold zj;rw[if_pos h2,h1,Int.zero_add]
   ·intro h4;rw[h4] at h2;have:=hs.lo;simp at h2;omega
  ·obtain⟨s',h1,h2⟩:=bH (fun x hx=>h x (by simp[hx])) he
   exact⟨s',by simp[h1],h2⟩
end Go.AM.B1
namespace Go.AM.B1
open Go.AM Go.AM.So
theorem BJ {u:Int}:∀ {ss:List ec},(∀ s∈ss,¬has s u)→qP u ss=none
 | [],_=>rfl
 |s::ss,h=>by
  have h1:=h s (by simp)
  unfold has at h1
  rw[qP,if_neg h1]
  exact BJ fun x hx=>h x (by simp[hx])
theorem WR {u:Int} {ss:List ec} (ta:ue ss) {j:Nat} (hj:j < ss.length) (h:has ss[j] u):qP u ss=some (Bf ss[j].parts (u - ss[j].first)):=by
 have key:∀ (l:List ec) (j:Nat) (hj:j < l.length),(∀ i (hi:i < l.length),has l[i] u→i=j)→has l[j] u→qP u l=some (Bf l[j].parts (u - l[j].first)):=by
  intro l
  induction l with
  |nil=>intro j hj;simp at hj
  |cons s l ih=>
   intro j hj hone hh
   rw[qP]
   cases j with
   |zero=>rw[if_pos (show s.first≤u∧u < s.first+Ba s.parts from hh)];rfl
   |succ j=>
    rw[if_neg (fun hc:s.first≤u∧u < s.first+Ba s.parts=>by have:=hone 0 (by simp) hc;omega)]
    exact ih j (by simpa using hj) (fun i hi hx=>by have:=hone (i+1) (by simpa using hi) hx;omega) hh
 exact key ss j hj (fun i hi hx=>xE ta hi hj hx h) h
section
variable {T:PV} {ss:List ec} {l:List (List je)} (hT:er T ss l) (ta:ue ss)
include hT ta
theorem mO (u:Int):vg [T,i64 u]=some (match qP u ss with | some b=> .bc [.lit 1 (b.map u8),.bool true] | none=> .bc [.qa,.bool false]):=by
 have hrow:=KN hT ta u
 obtain⟨S',NX,DG,RW,rfl,_,_,hDG,_⟩:=hT.ex
 have hrp:=ew (a:=S') (b:=jm l) (c:=NX) (d:=DG) (e:=RW) (f:=i64 (Ng ss))
 have l3:=fun H=>(hrp H).2.1
 generalize ([S',jm l,NX,DG,RW,i64 (Ng ss)]:List PV)=R at *
 have st:∀ a b c,Pa [aa.box [.pv (i64 0),.pv (i64 0),.pv (i64 0)]] 3 (.ptr 0 0) (.pv (.agg [i64 a,i64 b,i64 c]))=some [.box [.pv (i64 a),.pv (i64 b),.pv (i64 c)]]:=fun a b c=>rfl
 rcases hrow with⟨j,hj,hh,hr⟩ | ⟨hn,hr⟩
 ·rw[WR ta hj hh]
  have hs:=ta.my _ (List.getElem_mem hj)
  have hh':=hh
  unfold has at hh'
  have hun:=qz hs (k:=u - ss[j].first) (by omega) (by omega)
  have hf0:=hs.f0
  have hl:=hs.Jg
  have hl2:=hs.last
  have a1:∀ H,ma H 1 (.pv DG) (j:Int)=some (.pv (.rp [Sg ss[j].parts] 0)):=fun H=>by
   rw[hDG.lit (i:=j) (by simpa using hj)]
   simp only[ma]
   rw[if_pos ⟨trivial,by unfold Ca;rw[List.length_map];omega⟩,Int.toNat_natCast,List.getElem?_map,List.getElem?_eq_getElem hj];rfl
  generalize ss[j]=s at *
  have w1:IntKind.i64.wrap (u - s.first)=u - s.first:=Da (by omega)
  have p0:∀ a b c d,place [aa.box [.pv a,.pv b,.pv c]] d (.ptr 0 0)=some (.ptr 0 (0+d)):=fun a b c d=>rfl
  have q2:∀ a b c,na [aa.box [.pv a,.pv b,.pv c]] false 1 (.ptr 0 2)=some (.pv c):=fun a b c=>rfl
  have q0:∀ a b c,na [aa.box [.pv a,.pv b,.pv c]] false 1 (.ptr 0 0)=some (.pv a):=fun a b c=>rfl
  simp -implicitDefEqProofs only[vg,SX,sevalprocAttr,Fi,hr,st,GD,l3,p0,q2,q0,a1,Bg,w1,hun]
 ·rw[BJ hn]
  simp -implicitDefEqProofs only[vg,SX,sevalprocAttr,Fi,hr,st]
def yx (bs:List Int):List ec→Option Int
 | []=>none
 |s::ss=>match zj s bs with
  |some k=>some (s.first+k)
  |none=>yx bs ss
omit hT ta in
theorem vK {bs:List Int} {ss:List ec} {i:Nat} (hi:i < ss.length):yx bs (ss.drop i)=match zj ss[i] bs with | some k=>some (ss[i].first+k) | none=>yx bs (ss.drop (i+1)):=by
 rw[List.drop_eq_getElem_cons hi,yx]
theorem UN {B:PV} {bs:List Int} (hB:ej B bs):Ze [T,B]=some (match yx bs ss with | some v=> .bc [i64 v,.bool true] | none=> .bc [i64 0,.bool false]):=by
 obtain⟨S',NX,DG,RW,rfl,hS',_,hDG,_⟩:=hT.ex
 have hrp:=ew (a:=S') (b:=jm l) (c:=NX) (d:=DG) (e:=RW) (f:=i64 (Ng ss))
 have l3:=fun H=>(hrp H).2.1
 have l0:=fun H=>(hrp H).2.2.2.2.1
 generalize ([S',jm l,NX,DG,RW,i64 (Ng ss)]:List PV)=R at *
 have lD:=hDG.len
 rw[List.length_map] at lD
 have h32:=ta.len
 have hB1:=hB.one
 obtain⟨D,hD⟩:∃ D,D=yx bs ss:=⟨_,rfl⟩
 rw[← hD]
 have hloop:=fun (E:Tr) (h0:E.get 0= .pv (.rp R 0)) (h1:E.get 1= .pv B) (h15:E.get 15= .pv DG) (h16:E.get 16= .pv (i64 ss.length)) (h17:E.get 17= .pv (i64 0))=>
  Up (call:=za (fun _=>none) 8) (b:=qe) (live:=[0,1,15,16,17]) (s:=⟨E,[]⟩) (Q:=fun r=>(∃ E',r=(.exit 0,⟨E',[]⟩)∧D=none)∨∃ E' v,r=(.ret,⟨E',[]⟩)∧E'.get 4= .pv (i64 v)∧E'.get 5= .pv (.bool true)∧D=some v)
   (fun i t=>oe [0,1,15,16] E t.env∧t.env.get 17= .pv (i64 i)∧t.H=[]∧D=yx bs (ss.drop i)) ss.length (by unfold wa;omega)
   (Ug.all rfl (by simp) (Fit.cons h0 Ha (.cons h1 Ha (.cons h15 Ha (.cons h16 Ha (.cons h17 Ha (.nil _ _)))))) fun E' hE=>⟨oe.sub hE rfl,by rw[hE 17 (by simp),h17];rfl,rfl,hD⟩)
   (by
    rintro i ⟨E1,H1⟩ hi ⟨k1,k2,k3,k5⟩
    simp only at k1 k2 k3
    subst k3
    have g0:=(k1 0 (by simp)).trans h0
    have g1:=(k1 1 (by simp)).trans h1
    have g15:=(k1 15 (by simp)).trans h15
    have g16:=(k1 16 (by simp)).trans h16
    have hs:=ta.my _ (List.getElem_mem hi)
    have hrk:=wE hB hs
    rw[vK hi] at k5
    have hdc:(Sg ss[i].parts).cells=[Sg ss[i].parts]:=rfl
    have a1:∀ H,ma H 1 (.pv DG) (i:Int)=some (.pv (.rp [Sg ss[i].parts] 0)):=fun H=>by
     rw[hDG.lit (i:=i) (by simpa using hi)]
     simp only[ma]
     rw[if_pos ⟨trivial,by unfold Ca;rw[List.length_map];omega⟩,Int.toNat_natCast,List.getElem?_map,List.getElem?_eq_getElem hi];rfl
    have a2:∀ H,ma H 2 (.pv S') (i:Int)=some (.pv (.rp [.lit 1 (ss[i].parts.map Sd),i64 ss[i].first] 0)):=fun H=>by
     rw[hS'.lit (i:=i) (by simpa using hi)]
     simp only[ma]
     rw[if_pos ⟨trivial,by unfold Ca;rw[List.length_map];omega⟩,Int.toNat_natCast,List.getElem?_map,List.getElem?_eq_getElem hi];rfl
    have hrb:=fun k hk=>IG (b:=bs) (k:=k) hs hk
    generalize ss[i]=s at *
    have hf0:=hs.f0
    have e1:decide ((i:Int) < (ss.length:Int))=true:=Za (by omega)
    have t1:IntKind.i64.wrap ((i:Int)+1)=((i+1:Nat):Int):=Gh (by omega)
    generalize hQ:RQ _ _ _ _=Q
    cases hrs:zj s bs with
    |some k=>
     rw[hrs] at k5
     have hr1:=hrk.1 k hrs
     have hb:=hrb k hrs
     have w1:IntKind.i64.wrap (s.first+k)=s.first+k:=Da (by omega)
     simp -implicitDefEqProofs only[SX,sevalprocAttr,qe,g0,g1,g15,g16,k2,e1,a1,a2,Bg,GD,l0,DK,hr1,w1]
     subst hQ
     exact .inr ⟨_,_,rfl,by simp[Tr.ba],by simp[Tr.ba],k5⟩
    |none=>
     rw[hrs] at k5
     have hr1:=hrk.2 hrs
     simp -implicitDefEqProofs only[SX,sevalprocAttr,qe,g0,g1,g15,g16,k2,e1,a1,Bg,hr1,t1]
     subst hQ
     rw[Nn]
     generalize hEE:(Tr.set _ 17 _:Tr)=E2
     have kk:oe [0,1,15,16] E E2:=by
      rw[← hEE]
      repeat refine oe.set ?_ rfl
      exact k1
     have z17:E2.get 17= .pv (i64 (i+1:Nat)):=by rw[← hEE];simp[Tr.ba]
     exact Ug.all rfl (by simp) (Fit.sub (.cons z17 Ha (Fit.Wc (l:=[0,1,15,16]) (.cons h0 Ha (.cons h1 Ha (.cons h15 Ha (.cons h16 Ha (.nil _ _))))) kk)) rfl) fun E' hE=>⟨kk.trans (oe.sub hE rfl),by rw[hE 17 (by simp),z17],rfl,k5⟩)
   (by
    rintro⟨E1,H1⟩ ⟨k1,k2,k3,k5⟩
    simp only at k1 k2 k3
    subst k3
    have g16:=(k1 16 (by simp)).trans h16
    rw[List.drop_length] at k5
    have e1:decide ((ss.length:Int) < (ss.length:Int))=false:=mb (by omega)
    generalize hQ:(fun r:Ex×St=>r.1.stop=true∧_)=Q
    simp -implicitDefEqProofs only[SX,sevalprocAttr,qe,g16,k2,e1]
    subst hQ
    exact⟨rfl,.inl ⟨_,rfl,k5⟩⟩)
 refine lz ?_
 generalize hQ:(fun x:PV=>x=_)=Q
 simp -implicitDefEqProofs only[Ze,SX,sevalprocAttr,qi,sm,GD,l3,lD]
 generalize hEE:(Tr.set _ 17 _:Tr)=E
 refine Wa (hloop E (by rw[← hEE];simp[Tr.ba]) (by rw[← hEE];simp[Tr.ba]) (by rw[← hEE];simp[Tr.ba]) (by rw[← hEE];simp[Tr.ba]) (by rw[← hEE];simp[Tr.ba])) ?_
 rintro r ⟨_,⟨E',rfl,z1⟩ | ⟨E',v,rfl,z4,z5,z6⟩⟩
 ·simp -implicitDefEqProofs only[SX,sevalprocAttr]
  subst hQ
  rw[z1]
 ·simp -implicitDefEqProofs only[SX,sevalprocAttr,z4,z5]
  subst hQ;rw[z6]
end
end Go.AM.B1
namespace Go.AM.B1
open Go.AM Go.AM.So
structure Ty where
 kind:Int
 size:Nat
 u:Int
def stays (l:List (List je)):Int→List Int→Option Int
 |st,[]=>some st
 |st,b::r=>if (de l st b).2=false∨(de l st b).1= -1 then none else stays l (de l st b).1 r
theorem ry {l:List (List je)} {st':Int} (r:List Int):∀ {h:List Int} {i:Nat} {st:Int},stays l st h=some st'→im l i st (h++r)=im l (i+h.length) st' r
 | [],i,st,hs=>by injection hs with hs;subst hs;rfl
 |b::h,i,st,hs=>by
  rw[stays] at hs
  split at hs
  ·cases hs
  ·next hn=>
   rw[List.cons_append,im,if_neg (fun h=>hn (.inl h)),if_neg (fun h=>hn (.inr h)),ry r hs,List.length_cons]
   congr 1;omega
theorem oz {l:List (List je)} {b:Int} {st':Int}:∀ {h:List Int} {st:Int},stays l st h=some st'→(de l st' b).2=true→(de l st' b).1≠ -1→stays l st (h++[b])=some (de l st' b).1
 | [],st,hs,h1,h2=>by
   injection hs with hs;subst hs
   rw[List.nil_append,stays,if_neg (by rw[h1];simp[h2]),stays]
 |c::h,st,hs,h1,h2=>by
  rw[stays] at hs
  split at hs
  ·cases hs
  ·next hn=>rw[List.cons_append,stays,if_neg hn];exact oz hs h1 h2
section
variable (ss:List ec) (l:List (List je))
def CF (x:Int):List Ty×List Int:=if (de l 0 x).2=true then (if (de l 0 x).1= -1 then ([⟨1,1,(yx [x] ss).getD 0⟩],[]) else ([],[x])) else ([⟨2,1,0⟩],[])
def qk (stop:Bool) (h:List Int) (st x:Int):List Ty×List Int:=
 if (de l st x).2=true then (if (de l st x).1= -1 then ([⟨1,h.length+1,(yx (h++[x]) ss).getD 0⟩],[]) else ([],h++[x]))
 else if h=[] then ([⟨2,1,0⟩],[]) else if stop then ([⟨2,h.length,0⟩],[]) else (⟨2,h.length,0⟩::(CF ss l x).1,(CF ss l x).2)
def El (e:Ty):Bool:=e.kind==2
def yn (stop:Bool):List Int→List Int→List Ty×List Int×Bool
 |h,[]=>([],h,false)
 |h,x::r=>if stop&&(qk ss l stop h ((stays l 0 h).getD 0) x).1.any El then ((qk ss l stop h ((stays l 0 h).getD 0) x).1,(qk ss l stop h ((stays l 0 h).getD 0) x).2,true)
  else ((qk ss l stop h ((stays l 0 h).getD 0) x).1++(yn stop (qk ss l stop h ((stays l 0 h).getD 0) x).2 r).1,(yn stop (qk ss l stop h ((stays l 0 h).getD 0) x).2 r).2)
end
end Go.AM.B1
namespace Go.AM.B1
open Go.AM Go.AM.So
def Dh (e:Ty) (at_:Int):PV:= .agg [i64 e.kind,i64 at_,i64 e.size,i64 e.u,i64 0]
def Re:Nat→List Ty→List PV
 |_,[]=>[]
 |k,e::r=>Dh e k::Re (k+e.size) r
theorem Ap:∀ (k:Nat) (l:List Ty),(Re k l).length=l.length
 |_,[]=>rfl
 |k,e::r=>by rw[Re,List.length_cons,List.length_cons,Ap]
theorem eH:∀ (k:Nat) (l:List Ty) (i:Nat) (h:i < l.length),∃ p:Nat,(Re k l)[i]? =some (Dh l[i] p)
 |k,e::r,0,_=>⟨k,rfl⟩
 |k,e::r,i+1,h=>by
  obtain⟨p,hp⟩:=eH (k+e.size) r i (by simpa using h)
  exact⟨p,by simpa[Re] using hp⟩
theorem rF:∀ (k:Nat) (a b:List Ty),Re k (a++b)=Re k a++Re (k+(a.map (·.size)).sum) b
 |k,[],b=>by simp[Re]
 |k,e::a,b=>by rw[List.cons_append,Re,Re,rF,List.map_cons,List.sum_cons,Nat.add_assoc];rfl
theorem iN (H:List aa) (es:List PV) (k:Nat) (hk:k≤es.length):Ad H 1 (.pv (.lit 1 es)) none (some (k:Int))=some (.pv (.lit 1 (es.take k))):=by
 simp only[Ad,Option.getD_some,Option.getD_none]
 rw[if_pos ⟨by decide,trivial,by omega,by omega,by omega⟩]
 simp
end Go.AM.B1
namespace Go.AM.B1
open Go.AM Go.AM.So
def eT (T R:PV) (un Sb out:Int) (st fin:Bool):aa:= .box ([T,i64 un,R,i64 Sb,i64 out,.bool st,.bool fin].map .pv)
structure PR (T:PV) (cd:Int→Option (List Int)):Prop where
 enc:∀ u,vg [T,i64 u]=some (match cd u with | some b=> .bc [.lit 1 (b.map u8),.bool true] | none=> .bc [.qa,.bool false])
 len:∀ u b,cd u=some b→b.length≤8
 ptr:∃ R,T= .rp R 0
structure yM (U:AV) (us:List Int) (n0:Nat):Prop where
 len:∀ H,Mc H 0 U=some us.length
 JS:∀ H (i:Nat) (h:i < us.length),ma H 1 U i=some (.pv (.rp [i64 us[i]] 0))
 cut:∀ n,n0≤n→AV.cut n deep U=some U
theorem PH {A:List aa} {id n sz bytes:Nat} {nl nl' ag:Bool} {h:Yd} {es ys:List PV} (hg:A[id]? =some (.tok sz n nl')) (hn:n=es.length) (hr:Cb (es.length+ys.length) bytes):
 Hc A false h sz ag bytes (.uq id nl sz es) (.pv (.lit sz ys))=some (.uq id (nl&&ys.isEmpty) sz (es++ys),A.set id (.tok sz (es.length+ys.length) (nl&&ys.isEmpty))):=by
 subst hn
 simp only[Hc,Bool.false_eq_true,if_false,hg,Oe,if_true,Option.bind_some]
 rw[if_pos ⟨trivial,trivial,trivial,hr⟩]
section
variable {A:List aa} {c:Nat}
end
end Go.AM.B1
namespace Go.AM.B1
open Go.AM Go.AM.So
def mf (buf:List Int) (r h n:Int):List PV:=buf.map u8++[i64 r,i64 h,i64 n]
theorem fH {buf:List Int} (hb:buf.length=8) (r h n:Int):(mf buf r h n).length=11:=by simp[mf,hb]
theorem DP {buf:List Int} (hb:buf.length=8) {r h n:Int} {k:Nat} (hk:k < 8):(mf buf r h n)[k]? =some (u8 (buf[k]'(by omega))):=by
 unfold mf
 rw[List.getElem?_append_left (by simp;omega)]
 simp[hb,hk]
theorem Lz {buf:List Int} (hb:buf.length=8) {r h n:Int}:(mf buf r h n)[8]? =some (i64 r)∧(mf buf r h n)[9]? =some (i64 h)∧(mf buf r h n)[10]? =some (i64 n):=by
 unfold mf
 refine⟨?_,?_,?_⟩ <;> rw[List.getElem?_append_right (by simp;omega)] <;> simp[hb]
structure Ak (buf:List Int) (h:Nat) (q:List Int):Prop where
 len:buf.length=8
 head:h < 8
 n:q.length≤8
 JS:∀ i (hi:i < q.length),buf[(h+i) % 8]? =some q[i]
 iw:∀ x∈q,0≤x∧x≤255
theorem iE {row:List PV} {k:Nat} {p:PV} (h:row[k]? =some p) (H:List aa):na H false 1 (.pv (.rp row k))=some (.pv p):=by
 show (row[k]?).map AV.pv=_
 rw[h];rfl
theorem Us (row:List PV) (H:List aa) (k:Nat):place H k (.pv (.rp row 0))=some (.pv (.rp row k)):=by
 show some (AV.pv (.rp row (0+k)))=_
 rw[Nat.zero_add]
theorem lq {buf q:List Int} {h:Nat} {r:Int} (hq:Ak buf h q):Qd [.rp (mf buf r h q.length) 0]=some (i64 q.length):=by
 obtain⟨c8,c9,c10⟩:=Lz hq.len (r:=r) (h:=h) (n:=q.length)
 generalize mf buf r h q.length=row at *
 have e1:∀ H,sm H 1 (.pv (.rp row 0)) (.pv .yd)=some false:=fun H=>rfl
 have pl:=Us row
 have ld:=fun H=>iE c10 H
 simp -implicitDefEqProofs only[Qd,SX,sevalprocAttr,rk,e1,pl,ld]
theorem fL {buf q:List Int} {h:Nat} {r:Int} (hq:Ak buf h q) {i:Nat} (hi:i < q.length):Mi [.rp (mf buf r h q.length) 0,i64 i]=some (.bc [u8 q[i],.bool true]):=by
 have hlen:=lq (r:=r) hq
 obtain⟨c8,c9,c10⟩:=Lz hq.len (r:=r) (h:=h) (n:=q.length)
 have hm:(h+i) % 8 < 8:=Nat.mod_lt _ (by decide)
 have hca:=DP hq.len (r:=r) (h:=(h:Int)) (n:=q.length) hm
 have hbv:buf[(h+i) % 8]'(by rw[hq.len];exact hm)=q[i]:=by
  have:=hq.JS i hi
  rw[List.getElem?_eq_getElem (by rw[hq.len];exact hm)] at this
  injection this
 rw[hbv] at hca
 have hh:=hq.head
 have hn:=hq.n
 generalize mf buf r h q.length=row at *
 have pl:=Us row
 have ld9:=fun H=>iE c9 H
 have ldm:=fun H=>iE hca H
 have d1:decide ((i:Int) < 0)=false:=mb (by omega)
 have d2:decide ((i:Int)≥(q.length:Int))=false:=mb (by omega)
 have w1:IntKind.i64.wrap ((h:Int)+(i:Int))=((h+i:Nat):Int):=(Da (by omega)).trans (by omega)
 have w2:(((h+i:Nat):Int)).tmod 8=(((h+i) % 8:Nat):Int):=(Int.ofNat_tmod (h+i) 8).symm
 have hx:Ca (((h+i) % 8:Nat):Int) 8:=by unfold Ca;omega
 have hn8:((((h+i) % 8:Nat):Int)).toNat=(h+i) % 8:=Int.toNat_natCast _
 simp -implicitDefEqProofs only[Mi,SX,sevalprocAttr,Qk,hlen,pl,ld9,d1,d2,w1,w2,eq_true hx,hn8,ldm]
end Go.AM.B1
namespace Go.AM.B1
open Go.AM Go.AM.So
def ee (buf:List Int) (r h n:Int):aa:= .box ((mf buf r h n).map .pv)
theorem Am {H:List aa} {c:Nat} {row:List PV} (hc:H[c]? =some (.box (row.map .pv))) {k:Nat} {p:PV} (hk:row[k]? =some p):na H false 1 (.ptr c k)=some (.pv p):=by
 unfold na
 simp only[hc]
 show (row.map AV.pv)[k]? =_
 rw[List.getElem?_map,hk];rfl
theorem xq {H:List aa} {c:Nat} {cells:List AV} (hc:H[c]? =some (.box cells)) (k:Nat):place H k (.ptr c 0)=some (.ptr c k):=by
 unfold place
 simp only[hc,Nat.zero_add]
theorem kv {H:List aa} {c:Nat} {row:List PV} (hc:H[c]? =some (.box (row.map .pv))) {k:Nat} (hk:k < row.length) {p:PV} (h1:(AV.pv p).one=true) (h2:p.cells=[p]):Pa H 1 (.ptr c k) (.pv p)=some (H.set c (.box ((row.set k p).map .pv))):=by
 unfold Pa
 rw[if_pos ⟨by simp[AV.cells,h2],by simp[AV.cells,h2,h1]⟩]
 simp only[hc]
 rw[if_pos (by rw[List.length_map];omega)]
 simp[AV.cells,h2,oa,List.map_set]
theorem jO {call:Fa} {H:List aa} {c:Nat} {buf q:List Int} {h:Nat} {x:Int} (hq:Ak buf h q) (hc:H[c]? =some (ee buf 8 h q.length)) (hl:q.length < 8) (hx:0≤x∧x≤255):
 ∃ buf',Ak buf' h (q++[x])∧Hd call yc [.ptr c 0,.pv (u8 x)] H=some (.pv (i64 0),H.set c (ee buf' 8 h (q++[x]).length)):=by
 obtain⟨c8,c9,c10⟩:=Lz hq.len (r:=8) (h:=h) (n:=q.length)
 have hrl:=fH hq.len 8 h q.length
 have hm:(h+q.length) % 8 < 8:=Nat.mod_lt _ (by decide)
 have hh:=hq.head
 refine⟨buf.set ((h+q.length) % 8) x,⟨by rw[List.length_set];exact hq.len,hh,by simp;omega,fun i hi=> ?_,fun y hy=> ?_⟩,?_⟩
 ·rw[List.getElem?_set]
  rcases Nat.lt_or_ge i q.length with hlt | hge
  ·rw[if_neg (by omega),hq.JS i hlt,List.getElem_append_left hlt]
  ·have:i=q.length:=by simp at hi;omega
   subst this
   rw[if_pos rfl,if_pos (by rw[hq.len];exact hm)]
   simp
 ·rcases List.mem_append.1 hy with h1 | h1
  ·exact hq.iw y h1
  ·rw[List.mem_singleton] at h1;subst h1;exact hx
 ·unfold ee at hc
  have hcl:c < H.length:=(List.getElem?_eq_some_iff.1 hc).1
  have e1:sm H 1 (.ptr c 0) (.pv .yd)=some false:=by simp[sm,hc]
  have pl:=fun k=>xq hc k
  have l8:=Am hc c8
  have l9:=Am hc c9
  have l10:=Am hc c10
  have d1:decide ((q.length:Int)≥8)=false:=mb (by omega)
  have w1:IntKind.i64.wrap ((h:Int)+(q.length:Int))=((h+q.length:Nat):Int):=(Da (by omega)).trans (by omega)
  have w2:(((h+q.length:Nat):Int)).tmod 8=(((h+q.length) % 8:Nat):Int):=(Int.ofNat_tmod (h+q.length) 8).symm
  have w3:IntKind.i64.wrap ((q.length:Int)+1)=((q.length+1:Nat):Int):=Gh (by omega)
  have hix:Ca (((h+q.length) % 8:Nat):Int) 8:=by unfold Ca;omega
  have hn8:((((h+q.length) % 8:Nat):Int)).toNat=(h+q.length) % 8:=Int.toNat_natCast _
  have st1:=kv hc (k:=(h+q.length) % 8) (by omega) (p:=u8 x) rfl rfl
  have hc2:(H.set c (.box (((mf buf 8 h q.length).set ((h+q.length) % 8) (u8 x)).map .pv)))[c]? =some (.box (((mf buf 8 h q.length).set ((h+q.length) % 8) (u8 x)).map .pv)):=by rw[List.getElem?_set_self hcl]
  have pl2:=fun k=>xq hc2 k
  have c10':((mf buf 8 h q.length).set ((h+q.length) % 8) (u8 x))[10]? =some (i64 q.length):=by rw[List.getElem?_set,if_neg (by omega),c10]
  have l10':=Am hc2 c10'
  have st2:=kv hc2 (k:=10) (by rw[List.length_set];omega) (p:=i64 ((q.length+1:Nat):Int)) rfl rfl
  have hfin:((mf buf 8 h q.length).set ((h+q.length) % 8) (u8 x)).set 10 (i64 ((q.length+1:Nat):Int))=mf (buf.set ((h+q.length) % 8) x) 8 h (q++[x]).length:=by
   unfold mf
   rw[List.set_append_left _ _ (by simp[hq.len];omega),List.set_append_right _ _ (by simp[hq.len])]
   simp[hq.len,List.map_set]
  rw[List.set_set,hfin] at st2
  unfold ee
  generalize mf buf 8 h q.length=row at *
  generalize mf (buf.set ((h+q.length) % 8) x) 8 h (q++[x]).length=row2 at *
  generalize row.set ((h+q.length) % 8) (u8 x)=row1 at *
  simp -implicitDefEqProofs only[SX,sevalprocAttr,yc,e1,pl,l8,l9,l10,d1,w1,w2,w3,eq_true hix,hn8,st1,pl2,l10',st2]
theorem Hr {call:Fa} {H:List aa} {c:Nat} {buf q:List Int} {h k:Nat} (hq:Ak buf h q) (hc:H[c]? =some (ee buf 8 h q.length)) (hk:k≤q.length):
 Ak buf ((h+k) % 8) (q.drop k)∧Hd call Nb [.ptr c 0,.pv (i64 k)] H=some (.pv (i64 0),H.set c (ee buf 8 ((h+k) % 8:Nat) (q.drop k).length)):=by
 obtain⟨c8,c9,c10⟩:=Lz hq.len (r:=8) (h:=h) (n:=q.length)
 have hrl:=fH hq.len 8 h q.length
 have hh:=hq.head
 have hn:=hq.n
 have hm:(h+k) % 8 < 8:=Nat.mod_lt _ (by decide)
 refine⟨⟨hq.len,hm,by rw[List.length_drop];omega,fun i hi=> ?_,fun y hy=>hq.iw y (List.mem_of_mem_drop hy)⟩,?_⟩
 ·rw[List.length_drop] at hi
  have:=hq.JS (k+i) (by omega)
  rw[List.getElem_drop,←this]
  congr 1
  omega
 ·unfold ee at hc
  have hcl:c < H.length:=(List.getElem?_eq_some_iff.1 hc).1
  have e1:sm H 1 (.ptr c 0) (.pv .yd)=some false:=by simp[sm,hc]
  have pl:=fun k=>xq hc k
  have l9:=Am hc c9
  have l10:=Am hc c10
  have d1:decide ((k:Int) < 0)=false:=mb (by omega)
  have d2:decide ((k:Int) > (q.length:Int))=false:=mb (by omega)
  have w1:IntKind.i64.wrap ((h:Int)+(k:Int))=((h+k:Nat):Int):=(Da (by omega)).trans (by omega)
  have w2:(((h+k:Nat):Int)).tmod 8=(((h+k) % 8:Nat):Int):=(Int.ofNat_tmod (h+k) 8).symm
  have w3:IntKind.i64.wrap ((q.length:Int) - (k:Int))=(((q.drop k).length:Nat):Int):=(Da (by omega)).trans (by rw[List.length_drop];omega)
  have st1:=kv hc (k:=9) (by omega) (p:=i64 (((h+k) % 8:Nat):Int)) rfl rfl
  have hc2:(H.set c (.box (((mf buf 8 h q.length).set 9 (i64 (((h+k) % 8:Nat):Int))).map .pv)))[c]? =some (.box (((mf buf 8 h q.length).set 9 (i64 (((h+k) % 8:Nat):Int))).map .pv)):=by rw[List.getElem?_set_self hcl]
  have pl2:=fun k=>xq hc2 k
  have c10':((mf buf 8 h q.length).set 9 (i64 (((h+k) % 8:Nat):Int)))[10]? =some (i64 q.length):=by rw[List.getElem?_set,if_neg (by omega),c10]
  have l10':=Am hc2 c10'
  have st2:=kv hc2 (k:=10) (by rw[List.length_set];omega) (p:=i64 (((q.drop k).length:Nat):Int)) rfl rfl
  have hfin:((mf buf 8 h q.length).set 9 (i64 (((h+k) % 8:Nat):Int))).set 10 (i64 (((q.drop k).length:Nat):Int))=mf buf 8 (((h+k) % 8:Nat):Int) (q.drop k).length:=by
   unfold mf
   rw[List.set_append_right _ _ (by simp[hq.len]),List.set_append_right _ _ (by simp[hq.len])]
   simp[hq.len]
  rw[List.set_set,hfin] at st2
  unfold ee
  generalize mf buf 8 h q.length=row at *
  generalize mf buf 8 (((h+k) % 8:Nat):Int) (q.drop k).length=row2 at *
  generalize row.set 9 (i64 (((h+k) % 8:Nat):Int))=row1 at *
  simp -implicitDefEqProofs only[SX,sevalprocAttr,Nb,e1,pl,l9,l10,d1,d2,w1,w2,w3,st1,pl2,l10',st2]
end Go.AM.B1
