/- What functions of the program compute. -/
import Derived.Test.YtdglpnpkgngcdaaGreatQ7
import Derived.Test.YtdglpnpkgngcdaaGreatQ5
set_option linter.unusedVariables false
set_option linter.unusedSimpArgs false
namespace Go.AM.B1
open Go.AM Go.AM.So
def Zf (f:Nat→Bool):Nat→Bool
 |0=>false
 |n+1=>Zf f n||f n
def Hl (ss:List dc) (a:Al) (x j:Nat):Bool:=a.2.toNat.testBit j&&(match ss[j]? with | some s=>Zn s a.1 x | none=>false)
def Ep (ss:List dc) (a:Al) (x j:Nat):Bool:=Hl ss a x j&&(match ss[j]? with | some s=>((s.parts.length:Int)==(a.1:Int)+1) | none=>false)
abbrev VJ (S:PV) (nl nl3:Bool) (os es rs:List PV) (n x i:Int) (so en:Bool):Tr:=
 ((((((((((Tr.lf.set 18 (.pv (i64 i))).set 17 (.pv (.bool en))).set 16 (.pv (.bool so))).set 15 (.ptr 5 0)).set 14 (.pv (i64 x))).set 13 (.ptr 4 0)).set 12 (.pv (i64 n))).set 11 (.uq 3 nl3 256 rs)).set 10 (.uq 2 false 33 es)).set 5 (.uq 0 nl 2048 os)).set 1 (.pv (.rp [S] 0))
theorem bK (d:Int) (f:Nat→Bool) {i:Nat} (h:i < 32):(qc d f)[1+i]? =some (.bool (f i)):=by
 rw[Nat.add_comm,qc,List.getElem?_cons_succ,zI f h]
theorem eD (H:List ba) (id:Nat) (nl:Bool) {l:List Al} {i:Nat} {a:Al} (ha:l[i]? =some a):qa H 33 (.uq id nl 33 (l.map Re)) (i:Int)=some (.pv (.rp (qc a.1 a.2.toNat.testBit) 0)):=by
 have hi:=(List.getElem?_eq_some_iff.1 ha).1
 simp only[qa]
 rw[if_pos (by refine⟨trivial,?_⟩;unfold Fa;simp;omega)]
 simp[ha,Re,PV.cells]
theorem FP (H:List ba) (id:Nat) (nl:Bool) {ss:List dc} {i:Nat} (hi:i < ss.length):qa H 2048 (.uq id nl 2048 (ef ss)) (i:Int)=some (.pv (.rp (my ss[i]) 0)):=by
 simp only[qa]
 rw[if_pos (by refine⟨trivial,?_⟩;unfold Fa ef;simp;omega)]
 simp[hi,ef,PV.cells]
theorem rj (H:List ba) (row:List PV) (o d:Nat):place H d (.pv (.rp row o))=some (.pv (.rp row (o+d))):=rfl
theorem Fz {row:List PV} {k:Nat} {e:PV} (h:row[k]? =some e) (H:List ba):ya H false 1 (.pv (.rp row k))=some (.pv e):=by
 simp only[ya,Tl,Bool.false_eq_true,if_false,h,Option.map_some]
theorem yU (call:Za) {S:PV} {ss:List dc} {es:List PV} (hS:Ab S ss es) (hw:ss.length≤32) (h8:∀ s∈ss,s.parts.length≤8) {sets:List Al} {n x:Nat} {a:Al} (ha:sets[n]? =some a) (hx:x < 256)
 (Aa:∀ i s,ss[i]? =some s→a.2.toNat.testBit i=true→a.1 < s.parts.length) (hd:a.1≤64)
 (nl nl3:Bool) (rs:List PV) (o0 o1 o2 o3 o4:ba) (hc:Qa (ma 6) [o0,o1,o2,o3,o4]=some [o0,o1,o2,o3,o4]):
 Td (fun r=>∃ E,r=(.exit 8,⟨E,[o0,o1,o2,o3,o4,mb (qc ((a.1:Int)+1) fun j=>decide (j < ss.length)&&Hl ss a x j)]⟩)∧E.get 1= .pv (.rp [S] 0)∧E.get 5= .uq 0 nl 2048 (ef ss)∧E.get 10= .uq 2 false 33 (sets.map Re)∧E.get 11= .uq 3 nl3 256 rs∧E.get 12= .pv (i64 n)∧E.get 13= .ptr 4 0∧E.get 14= .pv (i64 x)∧E.get 15= .ptr 5 0∧
  E.get 16= .pv (.bool (Zf (Hl ss a x) ss.length))∧E.get 17= .pv (.bool (Zf (Ep ss a x) ss.length)))
  (gb (fa (ta call vd) (ga 6 [1,5,10,11,12,13,14,15,16,17,18])) oa ⟨VJ S nl nl3 (ef ss) (sets.map Re) rs n x 0 false false,[o0,o1,o2,o3,o4,mb (qc ((a.1:Int)+1) fun _=>false)]⟩):=by
 have ln:=hS.Wb
 have a0:(qc ((a.1:Int)+1) fun _=>false)=qc ((a.1:Int)+1) fun j=>decide (j < 0)&&Hl ss a x j:=by simp
 rw[a0]
 refine xa (Nb (g:=fa (ta call vd) (ga 6 [1,5,10,11,12,13,14,15,16,17,18]))
  (fun i t=>t=⟨VJ S nl nl3 (ef ss) (sets.map Re) rs n x i (Zf (Hl ss a x) i) (Zf (Ep ss a x) i),[o0,o1,o2,o3,o4,mb (qc ((a.1:Int)+1) fun j=>decide (j < i)&&Hl ss a x j)]⟩)
  ss.length (by unfold oa;omega) _ rfl ?_ ?_) (fun r h=>h.2)
 ·rintro i t hi rfl
  obtain⟨P,ps,hP,b0⟩:=hS.pd hi
  have lP:=hP.parts.Wb
  have hsi:ss[i]? =some ss[i]:=List.getElem?_eq_getElem hi
  have hdep:=Aa i _ hsi
  have h8i:=h8 _ (List.getElem_mem hi)
  have i1:=fun H=>eD H 2 false ha
  have i2:=fun H=>FP H 0 nl hi
  have l1:=Fz (bK (a.1:Int) a.2.toNat.testBit (i:=i) (by omega))
  have l0:=Fz (show (qc (a.1:Int) a.2.toNat.testBit)[0]? =some (i64 a.1) from rfl)
  have l2:a.1 < ss[i].parts.length→∀ H,ya H false 1 (.pv (.rp (my ss[i]) (a.1 * 256+x)))=some (.pv (.bool (Zn ss[i] a.1 x))):=by
   intro hlt
   refine Fz ?_
   rw[my,Kz _ (by omega),gn,show (a.1 * 256+x) / 256=a.1 by omega,show (a.1 * 256+x) % 256=x by omega,decide_eq_true (show a.1 < 8 by omega),Bool.true_and]
  have onE:Hl ss a x i=(a.2.toNat.testBit i&&Zn ss[i] a.1 x):=by rw[Hl,hsi]
  have enE:Ep ss a x i=(Hl ss a x i&&((ss[i].parts.length:Int)==(a.1:Int)+1)):=by rw[Ep,hsi]
  have p1:=Xh (A:=[o0,o1,o2,o3,o4,mb (qc ((a.1:Int)+1) fun j=>decide (j < i)&&Hl ss a x j)]) (id:=5) (es:=qc ((a.1:Int)+1) fun j=>decide (j < i)&&Hl ss a x j) rfl 0 1
  have p2:=Xh (A:=[o0,o1,o2,o3,o4,mb (qc ((a.1:Int)+1) fun j=>decide (j < i)&&Hl ss a x j)]) (id:=5) (es:=qc ((a.1:Int)+1) fun j=>decide (j < i)&&Hl ss a x j) rfl 1 i
  rw[Nat.zero_add] at p1
  have st:=qx (A:=[o0,o1,o2,o3,o4,mb (qc ((a.1:Int)+1) fun j=>decide (j < i)&&Hl ss a x j)]) (id:=5) (es:=qc ((a.1:Int)+1) fun j=>decide (j < i)&&Hl ss a x j) rfl (k:=1+i) (by rw[Ig];omega) (e:= .bool (Hl ss a x i)) rfl rfl
  have hnew:(qc ((a.1:Int)+1) fun j=>decide (j < i)&&Hl ss a x j).set (1+i) (.bool (Hl ss a x i))=qc ((a.1:Int)+1) fun j=>decide (j < i+1)&&Hl ss a x j:=by
   rw[Nat.add_comm 1 i]
   unfold qc
   rw[List.set_cons_succ,GN _ (by omega)]
   congr 1
   refine Kt fun j hj=> ?_
   by_cases h:j=i
   ·subst h;simp
   ·rw[if_neg h]
    congr 1
    rw[decide_eq_decide];omega
  rw[hnew] at st
  have st2:([o0,o1,o2,o3,o4,mb (qc ((a.1:Int)+1) fun j=>decide (j < i)&&Hl ss a x j)]:List ba).set 5 (mb (qc ((a.1:Int)+1) fun j=>decide (j < i+1)&&Hl ss a x j))=[o0,o1,o2,o3,o4,mb (qc ((a.1:Int)+1) fun j=>decide (j < i+1)&&Hl ss a x j)]:=rfl
  rw[st2] at st
  have q1:=Xh (A:=[o0,o1,o2,o3,o4,mb (qc ((a.1:Int)+1) fun j=>decide (j < i+1)&&Hl ss a x j)]) (id:=5) (es:=qc ((a.1:Int)+1) fun j=>decide (j < i+1)&&Hl ss a x j) rfl 0 1
  have q0:=Xh (A:=[o0,o1,o2,o3,o4,mb (qc ((a.1:Int)+1) fun j=>decide (j < i+1)&&Hl ss a x j)]) (id:=5) (es:=qc ((a.1:Int)+1) fun j=>decide (j < i+1)&&Hl ss a x j) rfl 0 0
  have q2:=Xh (A:=[o0,o1,o2,o3,o4,mb (qc ((a.1:Int)+1) fun j=>decide (j < i+1)&&Hl ss a x j)]) (id:=5) (es:=qc ((a.1:Int)+1) fun j=>decide (j < i+1)&&Hl ss a x j) rfl 1 i
  rw[Nat.zero_add] at q1 q0
  have k1:=Et (A:=[o0,o1,o2,o3,o4,mb (qc ((a.1:Int)+1) fun j=>decide (j < i+1)&&Hl ss a x j)]) (id:=5) (es:=qc ((a.1:Int)+1) fun j=>decide (j < i+1)&&Hl ss a x j) rfl (bK _ _ (i:=i) (by omega))
  have k0:=Et (A:=[o0,o1,o2,o3,o4,mb (qc ((a.1:Int)+1) fun j=>decide (j < i+1)&&Hl ss a x j)]) (id:=5) (es:=qc ((a.1:Int)+1) fun j=>decide (j < i+1)&&Hl ss a x j) rfl (k:=0) (e:=i64 ((a.1:Int)+1)) rfl
  rw[decide_eq_true (Nat.lt_succ_self i),Bool.true_and] at k1
  have c5:=Vg (qc ((a.1:Int)+1) fun j=>decide (j < i+1)&&Hl ss a x j) 6
  have e1:decide ((i:Int) < (ss.length:Int))=true:=Da (by omega)
  have t2:=Ua hi (show ss.length≤maxLen by unfold maxLen;omega)
  have hq:Fa (i:Int) 32:=by unfold Fa;omega
  have hqx:Fa (x:Int) 256:=by unfold Fa;omega
  have t1:∀ i:Nat,((i:Int)).toNat=i:=fun i=>by simp
  have m1:∀ i:Nat,i * 1=i:=fun i=>by omega
  have z1:∀ i:Nat,0+i=i:=fun i=>by omega
  have hLN:∀ st:St,st=⟨VJ S nl nl3 (ef ss) (sets.map Re) rs n x (i+1:Nat) (Zf (Hl ss a x) i||Hl ss a x i) (Zf (Ep ss a x) i||Ep ss a x i),[o0,o1,o2,o3,o4,mb (qc ((a.1:Int)+1) fun j=>decide (j < i+1)&&Hl ss a x j)]⟩→
   LN (fun i t=>t=⟨VJ S nl nl3 (ef ss) (sets.map Re) rs n x i (Zf (Hl ss a x) i) (Zf (Ep ss a x) i),[o0,o1,o2,o3,o4,mb (qc ((a.1:Int)+1) fun j=>decide (j < i)&&Hl ss a x j)]⟩)
   (fun r=>∃ E,r=(.exit 8,⟨E,[o0,o1,o2,o3,o4,mb (qc ((a.1:Int)+1) fun j=>decide (j < ss.length)&&Hl ss a x j)]⟩)∧E.get 1= .pv (.rp [S] 0)∧E.get 5= .uq 0 nl 2048 (ef ss)∧E.get 10= .uq 2 false 33 (sets.map Re)∧E.get 11= .uq 3 nl3 256 rs∧E.get 12= .pv (i64 n)∧E.get 13= .ptr 4 0∧E.get 14= .pv (i64 x)∧E.get 15= .ptr 5 0∧
    E.get 16= .pv (.bool (Zf (Hl ss a x) ss.length))∧E.get 17= .pv (.bool (Zf (Ep ss a x) ss.length))) i (.norm,st):=fun st h=>h
  generalize LN _ _ i=QQ at hLN ⊢
  generalize (qc ((a.1:Int)+1) fun j=>decide (j < i)&&Hl ss a x j)=Y at *
  generalize (qc ((a.1:Int)+1) fun j=>decide (j < i+1)&&Hl ss a x j)=Y' at *
  generalize qc (a.1:Int) a.2.toNat.testBit=row at *
  generalize mb Y=oY at *
  generalize mb Y'=oY' at *
  have hcl:Qa (ma 6) [o0,o1,o2,o3,o4,oY']=some [o0,o1,o2,o3,o4,oY']:=by
   simp only[Qa,Option.bind_eq_some_iff,Option.map_eq_some_iff] at hc
   simp only[Qa]
   obtain⟨_,h0,_,⟨_,h1,_,⟨_,h2,_,⟨_,h3,_,⟨_,h4,_⟩,_⟩,_⟩,_⟩,hh⟩:=hc
   simp_all
  have htk:∀ a b c d e f:ba,([a,b,c,d,e,f]:List ba).take 6=[a,b,c,d,e,f]:=fun a b c d e f=>rfl
  have d0:(0 < 6)=True:=by simp
  have d2:(2 < 6)=True:=by simp
  have d3:(3 < 6)=True:=by simp
  have d4:(4 < 6)=True:=by simp
  have d5:(5 < 6)=True:=by simp
  generalize my ss[i]=hrow at *
  generalize ss[i]=s at *
  generalize ef ss=os at *
  generalize sets.map Re=se at *
  generalize Zf (Hl ss a x) i=so at *
  generalize Zf (Ep ss a x) i=en at *
  generalize hle:((s.parts.length:Int)==(a.1:Int)+1)=le at *
  rw[enE] at hLN
  rw[onE] at st k1 hLN
  generalize hbb:a.2.toNat.testBit i=bb at *
  generalize Zn s a.1 x=mm at *
  have hm6:(10≤20)=True:=by simp
  cases bb with
  |false=>
   simp only[Bool.false_and,Bool.or_false] at st k1 hLN
   cases so <;> cases en <;>
   ·simp -implicitDefEqProofs only[SX,sevalprocAttr,vd,Hb,Pa,rj,ln,e1,t2,i1,i2,l0,l1,eq_true hq,eq_true hqx,t1,m1,z1,p1,p2,st,q0,q1,q2,k0,k1,hcl,htk,d0,d2,d3,d4,d5,ga,za,AV.cut,wa,VJ]
    exact hLN _ rfl
  |true=>
   have l2':=l2 (hdep rfl)
   have hqd:Fa (a.1:Int) 8:=by have:=hdep rfl;unfold Fa;omega
   simp only[Bool.true_and] at st k1 hLN
   cases mm with
   |false=>
    simp only[Bool.false_and,Bool.or_false] at hLN
    cases so <;> cases en <;>
    ·simp -implicitDefEqProofs only[SX,sevalprocAttr,vd,Hb,Pa,rj,ln,e1,t2,i1,i2,l0,l1,l2',eq_true hq,eq_true hqx,eq_true hqd,t1,m1,z1,p1,p2,st,q0,q1,q2,k0,k1,hcl,htk,d0,d2,d3,d4,d5,ga,za,AV.cut,wa,VJ]
     exact hLN _ rfl
   |true=>
    simp only[Bool.true_and,Bool.or_true] at hLN
    cases so <;> cases en <;>
    ·simp -implicitDefEqProofs only[SX,sevalprocAttr,vd,Hb,Pa,Vb,Cc,rj,ln,lP,b0,e1,t2,i1,i2,l0,l1,l2',eq_true hq,eq_true hqx,eq_true hqd,t1,m1,z1,p1,p2,st,q0,q1,q2,k0,k1,hle,hcl,htk,d0,d2,d3,d4,d5,ga,za,AV.cut,wa,VJ]
     exact hLN _ rfl
 ·rintro t rfl
  have e1:decide ((ss.length:Int) < (ss.length:Int))=false:=Ha (by omega)
  generalize mb (qc ((a.1:Int)+1) fun j=>decide (j < ss.length)&&Hl ss a x j)=oF
  generalize ef ss=os
  generalize sets.map Re=se
  generalize Zf (Hl ss a x) ss.length=so
  generalize Zf (Ep ss a x) ss.length=en
  generalize hQ:(fun r:Ex×St=>r.1.stop=true∧_)=Q
  simp -implicitDefEqProofs only[SX,sevalprocAttr,vd,Hb,Pa,ln,e1,VJ]
  subst hQ
  exact⟨rfl,_,rfl,by simp[Tr.aa],by simp[Tr.aa],by simp[Tr.aa],by simp[Tr.aa],by simp[Tr.aa],by simp[Tr.aa],by simp[Tr.aa],by simp[Tr.aa],by simp[Tr.aa],by simp[Tr.aa]⟩
end Go.AM.B1
namespace Go.AM.B1
open Go.AM Go.AM.So
theorem bA {x:Int}:∀ {l:List (Int×Int)} {last n:Int},Oa 255 last l=true→((Md x n l).2=true↔Xj x l)
 | [],last,n,h=>by simp[Md,Xm]
 |p::l,last,n,h=>by
  have hp:=an h p (by simp)
  have h2:=h
  simp only[Oa,Bool.and_eq_true] at h2
  rw[Md,im]
  by_cases h1:x < p.1
  ·rw[if_pos h1]
   simp only[Bool.false_eq_true,false_iff]
   rintro (h3 | h3)
   ·omega
   ·have:=Nl h2.2 h3;omega
  ·rw[if_neg h1]
   by_cases h3:x≤p.2
   ·rw[if_pos h3];simp;omega
   ·rw[if_neg h3,bA h2.2]
    constructor
    ·exact .inr
    ·rintro (h4 | h4)
     ·omega
     ·exact h4
theorem nG (l:List (Int×Int)) (x:Nat):mM l x=Uf l x:=by
 unfold mM sy Uf
 by_cases h:Oa 255 (-2) l=true
 ·rw[if_pos h,h,Bool.true_and,Bool.eq_iff_iff,bA h,Pp]
 ·rw[if_neg h]
  have:Oa 255 (-2) l=false:=by simpa using h
  rw[this];rfl
theorem Rv (s:dc) (d x:Nat):Nt s d x=Zn s d x:=by
 unfold Nt Zn
 cases s.parts[d]? with
 |none=>rfl
 |some l=>exact nG l x
theorem Fs (f:Nat→Bool):∀ n,Zf f n=true↔∃ j,j < n∧f j=true
 |0=>by simp[Zf]
 |n+1=>by
  rw[Zf,Bool.or_eq_true,Fs f n]
  constructor
  ·rintro (⟨j,h1,h2⟩ | h)
   ·exact⟨j,by omega,h2⟩
   ·exact⟨n,by omega,h⟩
  ·rintro⟨j,h1,h2⟩
   by_cases h:j=n
   ·subst h;exact .inr h2
   ·exact .inl ⟨j,by omega,h2⟩
theorem xN {ss:List dc} {a:Al} {x j:Nat} (h:ss.length≤j):Hl ss a x j=false:=by
 rw[Hl,List.getElem?_eq_none h,Bool.and_false]
structure AB (ss:List dc) (a:Al) (x:Nat) (m:Nat):Prop where
 fst:(wh x a.2 a.1 0 ss (0,false)).1=(m:Int)
 lt:m < 4294967296
 bit:∀ j,m.testBit j=Hl ss a x j
 ends:(wh x a.2 a.1 0 ss (0,false)).2=Zf (Ep ss a x) ss.length
 ex:m≠0↔Zf (Hl ss a x) ss.length=true
theorem cU {ss:List dc} {a:Al} (hb:sT a) (hw:ss.length≤32) (x:Nat):∃ m,AB ss a x m:=by
 obtain⟨d,_⟩:=a
 obtain⟨b,rfl,hb⟩:=hb
 have hN:wh x (b:Int) d 0 ss (0,false)=(((It x b d 0 ss (0,false)).1:Int),(It x b d 0 ss (0,false)).2):=SL (x:=x) (d:=d) hb ss 0 (0,false) (by omega) (by decide)
 have hbit:∀ j,(It x b d 0 ss (0,false)).1.testBit j=Hl ss (d,(b:Int)) x j:=by
  intro j
  rw[LA]
  simp only[Nat.zero_testBit,Nat.zero_le,decide_true,Bool.true_and,Bool.false_or,Nat.sub_zero,Hl,Int.toNat_natCast]
  cases ss[j]? with
  |none=>simp
  |some s=>simp only[Rv]
 refine⟨(It x b d 0 ss (0,false)).1,?_,lI ss 0 (0,false) (by omega) (by decide),hbit,?_,?_⟩
 ·show (wh x (b:Int) d 0 ss (0,false)).1=_
  rw[hN]
 ·show (wh x (b:Int) d 0 ss (0,false)).2=_
  rw[hN]
  show (It x b d 0 ss (0,false)).2=_
  rw[fB,Bool.false_or,Bool.eq_iff_iff,List.any_eq_true,Fs]
  constructor
  ·rintro⟨⟨s,j⟩,h1,h2⟩
   rw[List.mk_mem_zipIdx_iff_getElem?] at h1
   have hj:=(List.getElem?_eq_some_iff.1 h1).1
   refine⟨j,hj,?_⟩
   simp only[Rv,Bool.and_eq_true,beq_iff_eq] at h2
   rw[Ep,Hl,h1]
   simp only[Int.toNat_natCast,Bool.and_eq_true,beq_iff_eq]
   exact⟨h2.1,by omega⟩
  ·rintro⟨j,hj,h2⟩
   have h1:ss[j]? =some ss[j]:=List.getElem?_eq_getElem hj
   rw[Ep,Hl,h1] at h2
   simp only[Int.toNat_natCast,Bool.and_eq_true,beq_iff_eq] at h2
   refine⟨(ss[j],j),by rw[List.mk_mem_zipIdx_iff_getElem?];exact h1,?_⟩
   simp only[Rv,Bool.and_eq_true,beq_iff_eq]
   exact⟨h2.1,by omega⟩
 ·rw[Fs]
  constructor
  ·intro h
   apply Decidable.byContradiction
   intro hn
   apply h
   apply Nat.eq_of_testBit_eq
   intro j
   rw[hbit,Nat.zero_testBit]
   by_cases hj:j < ss.length
   ·cases hc:Hl ss (d,(b:Int)) x j with
    |false=>rfl
    |true=>exact absurd ⟨j,hj,hc⟩ hn
   ·exact xN (by omega)
  ·rintro⟨j,hj,h⟩ h0
   rw[← hbit,h0,Nat.zero_testBit] at h
   cases h
theorem AB.enc {ss:List dc} {a:Al} {x m:Nat} (h:AB ss a x m):qc ((a.1:Int)+1) (fun j=>decide (j < ss.length)&&Hl ss a x j)=qc ((a.1+1:Nat):Int) m.testBit:=by
 have:((a.1+1:Nat):Int)=(a.1:Int)+1:=by omega
 rw[this]
 unfold qc
 congr 1
 refine Kt fun j hj=> ?_
 rw[h.bit]
 by_cases hj:j < ss.length
 ·rw[decide_eq_true hj,Bool.true_and]
 ·rw[decide_eq_false hj,Bool.false_and,xN (by omega)]
theorem AB.bY {ss:List dc} {a:Al} {x m:Nat} (h:AB ss a x m):sT (a.1+1,(m:Int)):=⟨m,rfl,h.lt⟩
theorem AB.step {ss:List dc} {a:Al} {x m:Nat} (h:AB ss a x m) (sets:List Al):
 Rg ss a x sets=if Zf (Hl ss a x) ss.length=false then some (sets,-2)
  else if Zf (Ep ss a x) ss.length=true then some (sets,-1)
  else match dm (a.1+1,(m:Int)) sets 0 with
   |some k=>some (sets,(k:Int))
   |none=>if sets.length < 64 then some (sets++[(a.1+1,(m:Int))],(sets.length:Int)) else none:=by
 unfold Rg
 rw[h.ends,h.fst]
 have:((m:Int)=0)=(Zf (Hl ss a x) ss.length=false):=by
  apply propext
  have:=h.ex
  cases hc:Zf (Hl ss a x) ss.length with
  |true=>rw[hc] at this;simp;have:=this.2 rfl;omega
  |false=>
   rw[hc] at this
   simp
   exact Decidable.byContradiction fun hn=>by have:=this.1 hn;cases this
 by_cases h1:Zf (Hl ss a x) ss.length=false
 ·rw[if_pos h1,if_pos (this.mpr h1)]
 ·rw[if_neg h1,if_neg (fun h=>h1 (this.mp h))]
  by_cases h2:Zf (Ep ss a x) ss.length=true
  ·rw[if_pos h2,if_pos h2]
  ·rw[if_neg h2,if_neg h2]
   cases dm (a.1+1,(m:Int)) sets 0 <;> rfl
end Go.AM.B1
namespace Go.AM.B1
open Go.AM Go.AM.So
abbrev XH (S:PV) (nl nl3:Bool) (os es rs:List PV) (n x:Int):Tr:=
 ((((((Tr.lf.set 14 (.pv (i64 x))).set 13 (.ptr 4 0)).set 12 (.pv (i64 n))).set 11 (.uq 3 nl3 256 rs)).set 10 (.uq 2 false 33 es)).set 5 (.uq 0 nl 2048 os)).set 1 (.pv (.rp [S] 0))
theorem rS:([PV.int .i64 0,PV.bool false,PV.bool false,PV.bool false,PV.bool false,PV.bool false,PV.bool false,PV.bool false,PV.bool false,PV.bool false,PV.bool false,PV.bool false,PV.bool false,PV.bool false,PV.bool false,PV.bool false,PV.bool false,PV.bool false,PV.bool false,PV.bool false,PV.bool false,PV.bool false,PV.bool false,PV.bool false,PV.bool false,PV.bool false,PV.bool false,PV.bool false,PV.bool false,PV.bool false,PV.bool false,PV.bool false,PV.bool false]:List PV)=qc 0 fun _=>false:=rfl
theorem WT (d e:Int) (f:Nat→Bool):((qc d f).map AV.pv).set 0 (.pv (i64 e))=(qc e f).map AV.pv:=rfl
theorem EI {es:List PV} (h:∀ e∈es,(AV.pv e).one=true):(es.map AV.pv).all AV.one=true:=by
 rw[List.all_eq_true];intro v hv
 obtain⟨e,he,rfl⟩:=List.mem_map.1 hv
 exact h e he
theorem Gu {es zs:List PV} (h:es.length=zs.length):na (zs.map AV.pv++[]) 0 (es.map AV.pv)=es.map AV.pv:=by
 have:=Yu (es.map AV.pv) (zs.map AV.pv) [] (by simp;omega)
 rw[List.append_nil]
 simpa using this
section
variable (call:Za) {S:PV} {ss:List dc} {es:List PV} (hS:Ab S ss es) (hw:ss.length≤32) (h8:∀ s∈ss,s.parts.length≤8) {sets:List Al} {n x:Nat} {a:Al} (ha:sets[n]? =some a) (hx:x < 256)
 (Aa:Qm ss sets) (hd:a.1≤64)
 (nl nl3:Bool) (rs:List PV) (o0 o1 o3:ba) (h0:∀ n,ma n o0=some o0) (h1:∀ n,ma n o1=some o1) (h3:∀ n,ma n o3=some o3) {row:List Int} (hrow:row.length=256)
include hS hw h8 ha hx Aa hd h0 h1 h3 hrow
set_option maxRecDepth 8000 in
theorem IF:
 Td (fun r=>(∃ p,Rg ss a x sets=some p∧r=(.norm,⟨XH S nl nl3 (ef ss) (p.1.map Re) rs n (x+1:Nat),[o0,o1,.tok 33 p.1.length false,o3,mb ((row.set x p.2).map i64)]⟩))∨
  (Rg ss a x sets=none∧∃ E H,r=(.ret,⟨E,H⟩)∧E.get 2= .pv .pa∧E.get 3= .pv .pa∧E.get 4= .pv (.bool false)))
  (fa (ta call me) (ga 5 [1,5,10,11,12,13,14]) ⟨XH S nl nl3 (ef ss) (sets.map Re) rs n x,[o0,o1,.tok 33 sets.length false,o3,mb (row.map i64)]⟩):=by
 obtain⟨_,b,hb,hblt,hbok⟩:=Aa.2 n a ha
 have hba:sT a:=⟨b,hb,hblt⟩
 have hall:∀ c∈sets,sT c:=by
  intro c hc
  obtain⟨k,hk,rfl⟩:=List.getElem_of_mem hc
  obtain⟨_,b,hb,hblt,_⟩:=Aa.2 k _ (List.getElem?_eq_getElem hk)
  exact⟨b,hb,hblt⟩
 have hl64:=Aa.1
 obtain⟨m,hm⟩:=cU (x:=x) hba hw
 have hstep:=hm.step sets
 have hcR:∀ n (r:List Int),ma n (mb (r.map i64))=some (mb (r.map i64)):=fun n r=>Vg _ n
 have c2:∀ k n,ma k (.tok 33 n false)=some (.tok 33 n false):=fun k n=>rfl
 have hc6:Qa (ma 6) [o0,o1,.tok 33 sets.length false,o3,mb (row.map i64)]=some [o0,o1,.tok 33 sets.length false,o3,mb (row.map i64)]:=by
  simp only[Qa,h0,h1,h3,c2,hcR,Option.bind_some,Option.map_some]
 have hl4:=yU call hS hw h8 ha hx (fun i s hs ht=>hbok i s hs (by rw[hb] at ht;simpa using ht)) hd nl nl3 rs o0 o1 (.tok 33 sets.length false) o3 (mb (row.map i64)) hc6
 rw[hm.enc] at hl4
 have i1:=fun H=>eD H 2 false ha
 have l0:=Fz (show (qc (a.1:Int) a.2.toNat.testBit)[0]? =some (i64 a.1) from rfl)
 have e1:decide ((x:Int) < 256)=true:=Da (by omega)
 have t2:IntKind.i64.wrap ((x:Int)+1)=((x+1:Nat):Int):=Ba (by omega)
 have t3:IntKind.i64.wrap ((a.1:Int)+1)=(a.1:Int)+1:=Ba (by omega)
 have hq:Fa (x:Int) 256:=by unfold Fa;omega
 have t1:∀ i:Nat,((i:Int)).toNat=i:=fun i=>by simp
 have m1:∀ i:Nat,i * 1=i:=fun i=>by omega
 have z1:∀ i:Nat,0+i=i:=fun i=>by omega
 have zl:=Ig 0 fun _=>false
 have f1:(0+1≤((qc 0 fun _=>false).map AV.pv).length)=True:=eq_true (by rw[List.length_map,zl];omega)
 have f1':(1≤((qc 0 fun _=>false).map AV.pv).length)=True:=eq_true (by rw[List.length_map,zl];omega)
 have f2:=WT 0 ((a.1:Int)+1) fun _=>false
 have f3:=uf (qc ((a.1:Int)+1) fun _=>false)
 have st0:Ra [o0,o1,.tok 33 sets.length false,o3,mb (row.map i64),mb (qc 0 fun _=>false)] 33 (.ptr 5 0) (.pv (.agg (qc ((a.1:Int)+1) fun _=>false)))=some [o0,o1,.tok 33 sets.length false,o3,mb (row.map i64),mb (qc ((a.1:Int)+1) fun _=>false)]:=
  ml (id:=5) rfl zl (Ig _ _) (bw _ _)
 have hcl6:∀ Y:List PV,Qa (ma 6) [o0,o1,.tok 33 sets.length false,o3,mb (row.map i64),mb Y]=some [o0,o1,.tok 33 sets.length false,o3,mb (row.map i64),mb Y]:=by
  intro Y
  simp only[Qa,h0,h1,h3,c2,hcR,Vg Y 6,Option.bind_some,Option.map_some]
 have hcl60:=hcl6 (qc ((a.1:Int)+1) fun _=>false)
 have hcl5:∀ (k:Nat) (r:List Int),Qa (ma 5) [o0,o1,.tok 33 k false,o3,mb (r.map i64)]=some [o0,o1,.tok 33 k false,o3,mb (r.map i64)]:=by
  intro k r
  simp only[Qa,h0,h1,h3,c2,hcR,Option.bind_some,Option.map_some]
 have htk6:∀ a b c d e f:ba,([a,b,c,d,e,f]:List ba).take 6=[a,b,c,d,e,f]:=fun a b c d e f=>rfl
 have htk5:∀ a b c d e f:ba,([a,b,c,d,e,f]:List ba).take 5=[a,b,c,d,e]:=fun a b c d e f=>rfl
 have d6:∀ k:Fin 6,((k:Nat) < 6)=True:=by intro k;simp
 have d60:(0 < 6)=True:=by simp
 have d62:(2 < 6)=True:=by simp
 have d63:(3 < 6)=True:=by simp
 have d64:(4 < 6)=True:=by simp
 have d65:(5 < 6)=True:=by simp
 have d50:(0 < 5)=True:=by simp
 have d52:(2 < 5)=True:=by simp
 have d53:(3 < 5)=True:=by simp
 have d54:(4 < 5)=True:=by simp
 have pl:∀ (k:Nat) (r:List Int) (Y:List PV),place [o0,o1,.tok 33 k false,o3,mb (r.map i64),mb Y] x (.ptr 4 0)=some (.ptr 4 x):=by
  intro k r Y
  have:=Xh (A:=[o0,o1,.tok 33 k false,o3,mb (r.map i64),mb Y]) (id:=4) (es:=r.map i64) rfl 0 x
  rw[this,Nat.zero_add]
 have st:∀ (k:Nat) (r:List Int) (Y:List PV) (v:Int),r.length=256→Ra [o0,o1,.tok 33 k false,o3,mb (r.map i64),mb Y] 1 (.ptr 4 x) (.pv (i64 v))=some [o0,o1,.tok 33 k false,o3,mb ((r.set x v).map i64),mb Y]:=by
  intro k r Y v hr
  have:=qx (A:=[o0,o1,.tok 33 k false,o3,mb (r.map i64),mb Y]) (id:=4) (es:=r.map i64) rfl (k:=x) (by rw[List.length_map];omega) (e:=i64 v) rfl rfl
  rw[this,List.map_set];rfl
 have hset:∀ v,((row.set x (-2)).set x v)=row.set x v:=fun v=>by rw[List.set_set]
 have st1:=st sets.length row (qc ((a.1+1:Nat):Int) m.testBit) (-2) hrow
 have st2:=fun (k:Nat) v=>st k (row.set x (-2)) (qc ((a.1+1:Nat):Int) m.testBit) v (by simp[hrow])
 simp only[hset] at st2
 have pl1:=pl sets.length row (qc ((a.1+1:Nat):Int) m.testBit)
 have pl2:=fun k=>pl k (row.set x (-2)) (qc ((a.1+1:Nat):Int) m.testBit)
 have hfd:=BR hl64 hm.bY hall
 have hldY:∀ (k:Nat) (r:List Int),ya [o0,o1,.tok 33 k false,o3,mb (r.map i64),mb (qc ((a.1+1:Nat):Int) m.testBit)] true 33 (.ptr 5 0)=some (.pv (.agg (qc ((a.1+1:Nat):Int) m.testBit))):=fun k r=>wm (id:=5) rfl (Ig _ _)
 have hYl:((qc ((a.1+1:Nat):Int) m.testBit).map AV.pv).length=33:=by rw[List.length_map,Ig]
 have hYl':=Ig ((a.1+1:Nat):Int) m.testBit
 have hYr:na ((qc 0 fun _=>false).map AV.pv++[]) 0 ((qc ((a.1+1:Nat):Int) m.testBit).map AV.pv)=(qc ((a.1+1:Nat):Int) m.testBit).map AV.pv:=Gu (by rw[Ig,Ig])
 have hYa:=EI (bw ((a.1+1:Nat):Int) m.testBit)
 have hYp:=uf (qc ((a.1+1:Nat):Int) m.testBit)
 have hYt:(qc ((a.1+1:Nat):Int) m.testBit).take 33=qc ((a.1+1:Nat):Int) m.testBit:=List.take_of_length_le (by rw[Ig];exact Nat.le_refl _)
 have f4:(33≤((qc 0 fun _=>false).map AV.pv++[]).length)=True:=eq_true (by rw[List.append_nil,List.length_map,zl];exact Nat.le_refl _)
 have hap:sets.length < 64→ic [o0,o1,.tok 33 sets.length false,o3,mb ((row.set x (-2)).map i64),mb (qc ((a.1+1:Nat):Int) m.testBit)] false .uq 33 true 40 (.uq 2 false 33 (sets.map Re)) (.pv (.lit 33 [.agg (qc ((a.1+1:Nat):Int) m.testBit)]))=
  some (.uq 2 false 33 ((sets++[(a.1+1,(m:Int))]).map Re),[o0,o1,.tok 33 (sets.length+1) false,o3,mb ((row.set x (-2)).map i64),mb (qc ((a.1+1:Nat):Int) m.testBit)]):=by
  intro hlt
  have:=qj (A:=[o0,o1,.tok 33 sets.length false,o3,mb ((row.set x (-2)).map i64),mb (qc ((a.1+1:Nat):Int) m.testBit)]) (id:=2) (n:=sets.length) (sz:=33) (h:= .uq) (nl:=false) (ag:=true) (bytes:=40) (es:=sets.map Re) rfl (by rw[List.length_map]) (by unfold pb;omega) (.agg (qc ((a.1+1:Nat):Int) m.testBit))
  rw[this,List.map_append];rfl
 have hen:Re (a.1+1,(m:Int))= .agg (qc ((a.1+1:Nat):Int) m.testBit):=by simp[Re]
 rw[hen] at hfd
 have lsn:Wb [] 0 (.uq 2 false 33 (sets.map Re))=some sets.length:=by simp[Wb]
 have hslen:(sets.map Re).length=sets.length:=List.length_map _
 have hR1:∀ p,Rg ss a x sets=some p→∀ st:St,st=⟨XH S nl nl3 (ef ss) (p.1.map Re) rs n (x+1:Nat),[o0,o1,.tok 33 p.1.length false,o3,mb ((row.set x p.2).map i64)]⟩→(∃ p,Rg ss a x sets=some p∧(Ex.norm,st)=(Ex.norm,⟨XH S nl nl3 (ef ss) (p.1.map Re) rs n (x+1:Nat),[o0,o1,.tok 33 p.1.length false,o3,mb ((row.set x p.2).map i64)]⟩))∨
  (Rg ss a x sets=none∧∃ E H,(Ex.norm,st)=(.ret,⟨E,H⟩)∧E.get 2= .pv .pa∧E.get 3= .pv .pa∧E.get 4= .pv (.bool false)):=fun p hp st h=> .inl ⟨p,hp,by rw[h]⟩
 have hR2:Rg ss a x sets=none→∀ E H,E.get 2= .pv .pa→E.get 3= .pv .pa→E.get 4= .pv (.bool false)→(∃ p,Rg ss a x sets=some p∧(Ex.ret,(⟨E,H⟩:St))=(Ex.norm,⟨XH S nl nl3 (ef ss) (p.1.map Re) rs n (x+1:Nat),[o0,o1,.tok 33 p.1.length false,o3,mb ((row.set x p.2).map i64)]⟩))∨
  (Rg ss a x sets=none∧∃ E' H',(Ex.ret,(⟨E,H⟩:St))=(.ret,⟨E',H'⟩)∧E'.get 2= .pv .pa∧E'.get 3= .pv .pa∧E'.get 4= .pv (.bool false)):=fun hp E H g2 g3 g4=> .inr ⟨hp,E,H,rfl,g2,g3,g4⟩
 generalize hQQ:(fun r:Ex×St=>_)=QQ
 have hz:=rS
 generalize hzs:(qc 0 fun _=>false)=zs at *
 generalize hys:(qc ((a.1:Int)+1) fun _=>false)=ys at *
 generalize hYY:qc ((a.1+1:Nat):Int) m.testBit=Y at *
 generalize qc (a.1:Int) a.2.toNat.testBit=arow at *
 generalize hRR:mb (row.map i64)=R at *
 simp -implicitDefEqProofs only[SP,WP,na,sevalprocAttr,me,xb,rj,e1,t3,i1,l0,hz,f1,f1',f2,f3,st0,hcl60,htk6,d60,d62,d63,d64,d65,ga,za,AV.cut,wa,XH]
 refine xa hl4 ?_
 rintro r ⟨E,rfl,g1,g5,g10,g11,g12,g13,g14,g15,g16,g17⟩
 cases hso:Zf (Hl ss a x) ss.length with
 |false=>
  rw[hso] at g16
  rw[if_pos hso] at hstep
  cases hen2:Zf (Ep ss a x) ss.length <;>
  ·rw[hen2] at g17
   simp -implicitDefEqProofs only[SP,WP,na,sevalprocAttr,g1,g5,g10,g11,g12,g13,g14,g15,g16,g17,eq_true hq,t1,m1,t2,pl1,st1,hcl5,htk5,d50,d52,d53,d54,ga,za,AV.cut,wa]
   subst hQQ
   exact hR1 _ hstep _ rfl
 |true=>
  rw[hso] at g16
  rw[if_neg (by rw[hso];simp)] at hstep
  cases hen2:Zf (Ep ss a x) ss.length with
  |true=>
   rw[hen2] at g17
   rw[if_pos hen2] at hstep
   simp -implicitDefEqProofs only[SP,WP,na,sevalprocAttr,g1,g5,g10,g11,g12,g13,g14,g15,g16,g17,eq_true hq,t1,m1,t2,pl1,pl2,st1,st2,hcl5,htk5,d50,d52,d53,d54,ga,za,AV.cut,wa]
   subst hQQ
   exact hR1 _ hstep _ rfl
  |false=>
   rw[hen2] at g17
   rw[if_neg (by rw[hen2];simp)] at hstep
   cases hix:dm (a.1+1,(m:Int)) sets 0 with
   |some k=>
    rw[hix] at hstep hfd
    simp only at hstep hfd
    have dk:decide ((k:Int) < 0)=false:=Ha (by omega)
    simp -implicitDefEqProofs only[SP,WP,na,sevalprocAttr,g1,g5,g10,g11,g12,g13,g14,g15,g16,g17,eq_true hq,t1,m1,t2,pl1,pl2,st1,st2,hldY,hfd,dk,hcl5,htk5,d50,d52,d53,d54,ga,za,AV.cut,wa]
    subst hQQ
    exact hR1 _ hstep _ rfl
   |none=>
    rw[hix] at hstep hfd
    simp only at hstep hfd
    have dk:decide ((-1:Int) < 0)=true:=by decide
    by_cases hlt:sets.length < 64
    ·have hap':=hap hlt
     rw[if_pos hlt] at hstep
     have e64:((sets.length:Int)==64)=false:=ni (by omega)
     have hl1:(sets++[(a.1+1,(m:Int))]).length=sets.length+1:=by simp
     simp -implicitDefEqProofs only[SP,WP,na,sevalprocAttr,g1,g5,g10,g11,g12,g13,g14,g15,g16,g17,eq_true hq,t1,m1,t2,pl1,pl2,st1,st2,hldY,hfd,dk,hslen,e64,hap',hz,hYl,hYr,hYa,hYp,hYt,f4,hcl5,htk5,d50,d52,d53,d54,ga,za,AV.cut,wa]
     subst hQQ
     exact hR1 _ hstep _ (by rw[hl1])
    ·rw[if_neg hlt] at hstep
     have e64:((sets.length:Int)==64)=true:=by simp;omega
     simp -implicitDefEqProofs only[SP,WP,na,sevalprocAttr,g1,g5,g10,g11,g12,g13,g14,g15,g16,g17,eq_true hq,t1,m1,t2,pl1,pl2,st1,st2,hldY,hfd,dk,hslen,e64]
     subst hQQ
     exact hR2 hstep _ _ (by simp[Tr.aa]) (by simp[Tr.aa]) (by simp[Tr.aa])
end
end Go.AM.B1
namespace Go.AM.B1
open Go.AM Go.AM.So
section
variable (call:Za) {S:PV} {ss:List dc} {es:List PV} (hS:Ab S ss es) (hw:ss.length≤32) (h8:∀ s∈ss,s.parts.length≤8) {n:Nat} {a:Al}
 (hd:a.1≤64)
 (nl nl3:Bool) (rs:List PV) (o0 o1 o3:ba) (h0:∀ n,ma n o0=some o0) (h1:∀ n,ma n o1=some o1) (h3:∀ n,ma n o3=some o3)
include hS hw h8 hd h0 h1 h3
set_option maxRecDepth 8000 in
theorem YU {sets:List Al} {row:List Int} (ha:sets[n]? =some a) (Aa:Qm ss sets) (hrow:row.length=256):
 Td (fun r=>(∃ p E,Mk ss a (List.range 256) (sets,row)=some p∧r=(.exit 6,⟨E,[o0,o1,.tok 33 p.1.length false,o3,mb (p.2.map i64)]⟩)∧E.get 1= .pv (.rp [S] 0)∧E.get 5= .uq 0 nl 2048 (ef ss)∧E.get 10= .uq 2 false 33 (p.1.map Re)∧E.get 11= .uq 3 nl3 256 rs∧E.get 12= .pv (i64 n)∧E.get 13= .ptr 4 0)∨
  (Mk ss a (List.range 256) (sets,row)=none∧∃ E H,r=(.ret,⟨E,H⟩)∧E.get 2= .pv .pa∧E.get 3= .pv .pa∧E.get 4= .pv (.bool false)))
  (gb (fa (ta call me) (ga 5 [1,5,10,11,12,13,14])) oa ⟨XH S nl nl3 (ef ss) (sets.map Re) rs n 0,[o0,o1,.tok 33 sets.length false,o3,mb (row.map i64)]⟩):=by
 refine xa (Nb (g:=fa (ta call me) (ga 5 [1,5,10,11,12,13,14]))
  (fun x t=>∃ sets' row',t=⟨XH S nl nl3 (ef ss) (sets'.map Re) rs n x,[o0,o1,.tok 33 sets'.length false,o3,mb (row'.map i64)]⟩∧Mk ss a (List.range 256) (sets,row)=Mk ss a ((List.range 256).drop x) (sets',row')∧Qm ss sets'∧sets'[n]? =some a∧row'.length=256)
  256 (by unfold oa;omega) _ ⟨sets,row,rfl,by rw[List.drop_zero],Aa,ha,hrow⟩ ?_ ?_) (fun r h=>h.2)
 ·rintro x t hx ⟨sets',row',rfl,hrs,hok',ha',hrow'⟩
  rw[Yp hx] at hrs
  refine xa (IF call hS hw h8 ha' hx hok' hd nl nl3 rs o0 o1 o3 h0 h1 h3 hrow') ?_
  rintro r (⟨p,hst,rfl⟩ | ⟨hst,E,H,rfl,g2,g3,g4⟩)
  ·rw[Ht hst] at hrs
   obtain⟨k1,t,k2⟩:=uE hok' ha' hw hst
   refine⟨p.1,row'.set x p.2,rfl,hrs,k1,?_,by simp[hrow']⟩
   rw[k2,List.getElem?_append_left (List.getElem?_eq_some_iff.1 ha').1];exact ha'
  ·rw[Cs hst] at hrs
   exact .inr ⟨hrs,E,H,rfl,g2,g3,g4⟩
 ·rintro t ⟨sets',row',rfl,hrs,hok',ha',hrow'⟩
  have hdr:(List.range 256).drop 256=[]:=List.drop_of_length_le (by rw[List.length_range];exact Nat.le_refl _)
  rw[hdr,Mk] at hrs
  have e1:decide (((256:Nat):Int) < 256)=false:=Ha (by omega)
  have hfin:∀ E,E.get 1= .pv (.rp [S] 0)→E.get 5= .uq 0 nl 2048 (ef ss)→E.get 10= .uq 2 false 33 (sets'.map Re)→E.get 11= .uq 3 nl3 256 rs→E.get 12= .pv (i64 n)→E.get 13= .ptr 4 0→
   ((Ex.exit 6,(⟨E,[o0,o1,.tok 33 sets'.length false,o3,mb (row'.map i64)]⟩:St)).1.stop=true∧((∃ p E',Mk ss a (List.range 256) (sets,row)=some p∧(Ex.exit 6,(⟨E,[o0,o1,.tok 33 sets'.length false,o3,mb (row'.map i64)]⟩:St))=(.exit 6,⟨E',[o0,o1,.tok 33 p.1.length false,o3,mb (p.2.map i64)]⟩)∧E'.get 1= .pv (.rp [S] 0)∧E'.get 5= .uq 0 nl 2048 (ef ss)∧E'.get 10= .uq 2 false 33 (p.1.map Re)∧E'.get 11= .uq 3 nl3 256 rs∧E'.get 12= .pv (i64 n)∧E'.get 13= .ptr 4 0)∨
    (Mk ss a (List.range 256) (sets,row)=none∧∃ E' H,(Ex.exit 6,(⟨E,[o0,o1,.tok 33 sets'.length false,o3,mb (row'.map i64)]⟩:St))=(.ret,⟨E',H⟩)∧E'.get 2= .pv .pa∧E'.get 3= .pv .pa∧E'.get 4= .pv (.bool false)))):=
   fun E k1 k5 k10 k11 k12 k13=>⟨rfl,.inl ⟨(sets',row'),E,hrs,rfl,k1,k5,k10,k11,k12,k13⟩⟩
  generalize hQ:(fun r:Ex×St=>r.1.stop=true∧_)=Q
  generalize mb (row'.map i64)=R at *
  generalize sets'.map Re=se at *
  generalize ef ss=os at *
  simp -implicitDefEqProofs only[SX,sevalprocAttr,-List.reduceReplicate,me,e1,XH]
  subst hQ
  exact hfin _ (by simp[Tr.aa]) (by simp[Tr.aa]) (by simp[Tr.aa]) (by simp[Tr.aa]) (by simp[Tr.aa]) (by simp[Tr.aa])
end
abbrev FH (S:PV) (nl nl3:Bool) (os es rs:List PV) (n:Int):Tr:=
 ((((Tr.lf.set 12 (.pv (i64 n))).set 11 (.uq 3 nl3 256 rs)).set 10 (.uq 2 false 33 es)).set 5 (.uq 0 nl 2048 os)).set 1 (.pv (.rp [S] 0))
section
variable (call:Za) {S:PV} {ss:List dc} {es:List PV} (hS:Ab S ss es) (hw:ss.length≤32) (h8:∀ s∈ss,s.parts.length≤8)
 (nl:Bool) (k0:Nat) (F:List PV)
include hS hw h8
set_option maxRecDepth 8000 in
theorem qF {sets:List Al} {rs:List (List Int)} {a:Al} (ha:sets[rs.length]? =some a) (Aa:Qm ss sets):
 Td (fun r=>(∃ p,Mk ss a (List.range 256) (sets,eb)=some p∧r=(.norm,⟨FH S nl false (ef ss) (p.1.map Re) ((rs++[p.2]).map yi) (rs.length+1:Nat),[.tok 2048 k0 nl,mb F,.tok 33 p.1.length false,.tok 256 (rs.length+1) false]⟩))∨
  (Mk ss a (List.range 256) (sets,eb)=none∧∃ E H,r=(.ret,⟨E,H⟩)∧E.get 2= .pv .pa∧E.get 3= .pv .pa∧E.get 4= .pv (.bool false)))
  (fa (ta call ke) (ga 4 [1,5,10,11,12]) ⟨FH S nl rs.isEmpty (ef ss) (sets.map Re) (rs.map yi) rs.length,[.tok 2048 k0 nl,mb F,.tok 33 sets.length false,.tok 256 rs.length rs.isEmpty]⟩):=by
 have hn:=(List.getElem?_eq_some_iff.1 ha).1
 have hl64:=Aa.1
 have hd:a.1≤64:=by have:=(Aa.2 _ a ha).1;omega
 have hl3:=YU call hS hw h8 hd nl rs.isEmpty (rs.map yi) (.tok 2048 k0 nl) (mb F) (.tok 256 rs.length rs.isEmpty) (fun n=>rfl) (fun n=>Vg F n) (fun n=>rfl) ha Aa Ps
 have hrl:∀ p,Mk ss a (List.range 256) (sets,eb)=some p→p.2.length=256:=fun p hp=>by rw[(Fu hw (List.range 256) (sets,eb) p Aa ha hp).2.2];exact Ps
 have e1:decide ((rs.length:Int) < (sets.length:Int))=true:=Da (by omega)
 have t2:IntKind.i64.wrap ((rs.length:Int)+1)=((rs.length+1:Nat):Int):=Ba (by omega)
 have hse:(sets.map Re).length=sets.length:=List.length_map _
 have hzz:List.replicate 256 (PV.int .i64 0)=eb.map i64:=by rw[eb,List.map_replicate]
 have hz0:ba.box (List.map AV.pv (List.replicate 256 (PV.int .i64 0)))=mb (eb.map i64):=by rw[hzz]
 have hc5:∀ (k:Nat) (R:List PV),Qa (ma 5) [.tok 2048 k0 nl,mb F,.tok 33 k false,.tok 256 rs.length rs.isEmpty,mb R]=some [.tok 2048 k0 nl,mb F,.tok 33 k false,.tok 256 rs.length rs.isEmpty,mb R]:=by
  intro k R
  have c0:∀ k n nl,ma 5 (.tok k n nl)=some (.tok k n nl):=fun k n nl=>rfl
  simp only[Qa,c0,Vg,Option.bind_some,Option.map_some]
 have hc4:∀ (k:Nat),Qa (ma 4) [.tok 2048 k0 nl,mb F,.tok 33 k false,.tok 256 (rs.length+1) false]=some [.tok 2048 k0 nl,mb F,.tok 33 k false,.tok 256 (rs.length+1) false]:=by
  intro k
  have c0:∀ k n nl,ma 4 (.tok k n nl)=some (.tok k n nl):=fun k n nl=>rfl
  simp only[Qa,c0,Vg,Option.bind_some,Option.map_some]
 have htk5:∀ a b c d e:ba,([a,b,c,d,e]:List ba).take 5=[a,b,c,d,e]:=fun a b c d e=>rfl
 have htk4:∀ a b c d e:ba,([a,b,c,d,e]:List ba).take 4=[a,b,c,d]:=fun a b c d e=>rfl
 have d50:(0 < 5)=True:=by simp
 have d52:(2 < 5)=True:=by simp
 have d53:(3 < 5)=True:=by simp
 have d54:(4 < 5)=True:=by simp
 have d40:(0 < 4)=True:=by simp
 have d42:(2 < 4)=True:=by simp
 have d43:(3 < 4)=True:=by simp
 have hld:∀ (k:Nat) (r:List Int),r.length=256→ya [.tok 2048 k0 nl,mb F,.tok 33 k false,.tok 256 rs.length rs.isEmpty,mb (r.map i64)] true 256 (.ptr 4 0)=some (.pv (.agg (r.map i64))):=fun k r hr=>wm (id:=4) rfl (by rw[List.length_map,hr])
 have hone:∀ r:List Int,∀ e∈r.map i64,(AV.pv e).one=true:=by
  intro r e he
  obtain⟨v,_,rfl⟩:=List.mem_map.1 he
  rfl
 have hap:∀ (k:Nat) (r:List Int),ic [.tok 2048 k0 nl,mb F,.tok 33 k false,.tok 256 rs.length rs.isEmpty,mb (r.map i64)] false .uq 256 true 2048 (.uq 3 rs.isEmpty 256 (rs.map yi)) (.pv (.lit 256 [.agg (r.map i64)]))=
  some (.uq 3 false 256 ((rs++[r]).map yi),[.tok 2048 k0 nl,mb F,.tok 33 k false,.tok 256 (rs.length+1) false,mb (r.map i64)]):=by
  intro k r
  have:=qj (A:=[.tok 2048 k0 nl,mb F,.tok 33 k false,.tok 256 rs.length rs.isEmpty,mb (r.map i64)]) (id:=3) (n:=rs.length) (sz:=256) (h:= .uq) (nl:=rs.isEmpty) (ag:=true) (bytes:=2048) (es:=rs.map yi) rfl (by rw[List.length_map]) (by unfold pb;omega) (.agg (r.map i64))
  rw[this,List.map_append];rfl
 have lU:(eb.map i64).length=256:=by rw[List.length_map,Ps]
 have f4:(256≤((eb.map i64).map AV.pv++[]).length)=True:=eq_true (by rw[List.append_nil,List.length_map,lU];exact Nat.le_refl _)
 have hYr:∀ r:List Int,r.length=256→na ((eb.map i64).map AV.pv++[]) 0 ((r.map i64).map AV.pv)=(r.map i64).map AV.pv:=fun r hr=>Gu (by rw[lU,List.length_map,hr])
 have hYa:∀ r:List Int,((r.map i64).map AV.pv).all AV.one=true:=fun r=>EI (hone r)
 have hYp:∀ r:List Int,nf ((r.map i64).map AV.pv)=some (r.map i64):=fun r=>uf _
 have hYt:∀ r:List Int,r.length=256→(r.map i64).take 256=r.map i64:=fun r hr=>List.take_of_length_le (by rw[List.length_map,hr];exact Nat.le_refl _)
 have hYl:∀ r:List Int,r.length=256→((r.map i64).map AV.pv).length=256:=fun r hr=>by rw[List.length_map,List.length_map,hr]
 have hR1:∀ p,Mk ss a (List.range 256) (sets,eb)=some p→∀ st:St,st=⟨FH S nl false (ef ss) (p.1.map Re) ((rs++[p.2]).map yi) (rs.length+1:Nat),[.tok 2048 k0 nl,mb F,.tok 33 p.1.length false,.tok 256 (rs.length+1) false]⟩→
  (∃ p,Mk ss a (List.range 256) (sets,eb)=some p∧(Ex.norm,st)=(.norm,⟨FH S nl false (ef ss) (p.1.map Re) ((rs++[p.2]).map yi) (rs.length+1:Nat),[.tok 2048 k0 nl,mb F,.tok 33 p.1.length false,.tok 256 (rs.length+1) false]⟩))∨
   (Mk ss a (List.range 256) (sets,eb)=none∧∃ E H,(Ex.norm,st)=(.ret,⟨E,H⟩)∧E.get 2= .pv .pa∧E.get 3= .pv .pa∧E.get 4= .pv (.bool false)):=fun p hp st h=> .inl ⟨p,hp,by rw[h]⟩
 generalize hQQ:(fun r:Ex×St=>_)=QQ
 generalize hzs:eb.map i64=zs at *
 have hc5z:=hc5 sets.length zs
 generalize hRz:mb zs=Rz at *
 generalize hoF:mb F=oF at *
 simp -implicitDefEqProofs only[SP,WP,na,sevalprocAttr,-List.reduceReplicate,ke,xb,e1,hse,hzz,hRz,hc5z,htk5,d50,d52,d53,d54,ga,za,AV.cut,wa,FH]
 refine xa hl3 ?_
 rintro r (⟨p,E,hp,rfl,g1,g5,g10,g11,g12,g13⟩ | ⟨hp,E,H,rfl,g2,g3,g4⟩)
 ·have hpl:=hrl p hp
  have hld':=hld p.1.length p.2 hpl
  have hYr':=hYr p.2 hpl
  have hYt':=hYt p.2 hpl
  have hYl':=hYl p.2 hpl
  have hYa':=hYa p.2
  have hYp':=hYp p.2
  have hap':=hap p.1.length p.2
  generalize p.2.map i64=zp at *
  simp -implicitDefEqProofs only[SP,WP,na,sevalprocAttr,-List.reduceReplicate,g1,g5,g10,g11,g12,g13,t2,hzz,hld',hYr',hYt',hYl',hYa',hYp',hap',f4,hc4,htk4,d40,d42,d43,ga,za,AV.cut,wa]
  subst hQQ
  exact hR1 p hp _ rfl
 ·simp -implicitDefEqProofs only[SP,WP,na,sevalprocAttr,-List.reduceReplicate]
  subst hQQ
  exact .inr ⟨hp,E,H,rfl,g2,g3,g4⟩
end
end Go.AM.B1
namespace Go.AM.B1
open Go.AM Go.AM.So
attribute [local irreducible] Td
theorem sM {n:Nat} (h:n≤32) (i:Nat):(Vp n).toNat.testBit i=decide (i < n):=by
 rw[dD h,Int.toNat_natCast,Nat.testBit_two_pow_sub_one]
theorem JM {n:Nat} (h:n≤32):Re (0,Vp n)= .agg (Ac n):=by
 unfold Re Ac qc
 congr 2
 exact Kt fun i _=>sM h i
set_option maxRecDepth 8000 in
theorem OU (call:Za) {S:PV} {ss:List dc} {es:List PV} (hS:Ab S ss es) (hw:ss.length≤32) (h8:∀ s∈ss,s.parts.length≤8) (hne:∀ s∈ss,0 < s.parts.length) (nl:Bool) (k0:Nat) (F:List PV):
 Td (fun r=>(∃ p E,Qg ss 64 (Pg ss,[])=some p∧p.2.length=p.1.length∧0 < p.2.length∧r=(.exit 4,⟨E,[.tok 2048 k0 nl,mb F,.tok 33 p.1.length false,.tok 256 p.2.length p.2.isEmpty]⟩)∧E.get 10= .uq 2 false 33 (p.1.map Re)∧E.get 11= .uq 3 p.2.isEmpty 256 (p.2.map yi))∨
  (Qg ss 64 (Pg ss,[])=none∧∃ E H,r=(.ret,⟨E,H⟩)∧E.get 2= .pv .pa∧E.get 3= .pv .pa∧E.get 4= .pv (.bool false)))
  (gb (fa (ta call ke) (ga 4 [1,5,10,11,12])) oa ⟨FH S nl true (ef ss) ((Pg ss).map Re) [] 0,[.tok 2048 k0 nl,mb F,.tok 33 1 false,.tok 256 0 true]⟩):=by
 refine xa (Iq (g:=fa (ta call ke) (ga 4 [1,5,10,11,12]))
  (fun k t=>∃ (sets:List Al) (rs:List (List Int)),t=⟨FH S nl rs.isEmpty (ef ss) (sets.map Re) (rs.map yi) rs.length,[.tok 2048 k0 nl,mb F,.tok 33 sets.length false,.tok 256 rs.length rs.isEmpty]⟩∧k+rs.length=64∧Qm ss sets∧rs.length≤sets.length∧0 < sets.length∧Qg ss 64 (Pg ss,[])=Qg ss k (sets,rs))
  oa 64 _ (by unfold oa;omega) ⟨Pg ss,[],rfl,rfl,Vy hw hne,by simp,by simp[Pg],rfl⟩ ?_) (fun r h=>h.2)
 rintro k t ⟨sets,rs,rfl,hk,Aa,hle,hpos,hs⟩
 cases ha:sets[rs.length]? with
 |some a=>
  have hlt:=(List.getElem?_eq_some_iff.1 ha).1
  have hl64:=Aa.1
  obtain⟨k',rfl⟩:∃ k',k=k'+1:=⟨k - 1,by omega⟩
  refine xa (qF call hS hw h8 nl k0 F ha Aa) ?_
  rintro r (⟨p,hp,rfl⟩ | ⟨hp,E,H,rfl,g2,g3,g4⟩)
  ·obtain⟨q1,⟨t,q2⟩,q3⟩:=Fu hw (List.range 256) (sets,eb) p Aa ha hp
   simp only at q2
   have hse:(rs++[p.2]).isEmpty=false:=by cases rs <;> rfl
   have hle2:(rs++[p.2]).length=rs.length+1:=by simp
   refine⟨k',by omega,p.1,rs++[p.2],?_,by rw[hle2];omega,q1,?_,?_,?_⟩
   ·rw[hse,hle2]
   ·rw[hle2,q2,List.length_append];omega
   ·rw[q2,List.length_append];omega
   ·rw[hs,Ku ha hp]
  ·exact .inr ⟨by rw[hs,au ha hp],E,H,rfl,g2,g3,g4⟩
 |none=>
  have hge:sets.length≤rs.length:=by
   rcases Nat.lt_or_ge rs.length sets.length with h | h
   ·rw[List.getElem?_eq_getElem h] at ha;cases ha
   ·exact h
  rw[Gs (r:=(sets,rs)) ha] at hs
  have e1:decide ((rs.length:Int) < (sets.length:Int))=false:=Ha (by omega)
  have hse:(sets.map Re).length=sets.length:=List.length_map _
  have hfin:∀ E,E.get 10= .uq 2 false 33 (sets.map Re)→E.get 11= .uq 3 rs.isEmpty 256 (rs.map yi)→
   LQ (fun k t=>∃ (sets:List Al) (rs:List (List Int)),t=⟨FH S nl rs.isEmpty (ef ss) (sets.map Re) (rs.map yi) rs.length,[.tok 2048 k0 nl,mb F,.tok 33 sets.length false,.tok 256 rs.length rs.isEmpty]⟩∧k+rs.length=64∧Qm ss sets∧rs.length≤sets.length∧0 < sets.length∧Qg ss 64 (Pg ss,[])=Qg ss k (sets,rs))
    (fun r=>(∃ p E,Qg ss 64 (Pg ss,[])=some p∧p.2.length=p.1.length∧0 < p.2.length∧r=(.exit 4,⟨E,[.tok 2048 k0 nl,mb F,.tok 33 p.1.length false,.tok 256 p.2.length p.2.isEmpty]⟩)∧E.get 10= .uq 2 false 33 (p.1.map Re)∧E.get 11= .uq 3 p.2.isEmpty 256 (p.2.map yi))∨
    (Qg ss 64 (Pg ss,[])=none∧∃ E H,r=(.ret,⟨E,H⟩)∧E.get 2= .pv .pa∧E.get 3= .pv .pa∧E.get 4= .pv (.bool false))) k
    (.exit 4,⟨E,[.tok 2048 k0 nl,mb F,.tok 33 sets.length false,.tok 256 rs.length rs.isEmpty]⟩):=fun E g10 g11=> .inl ⟨(sets,rs),E,hs,by simp only;omega,by simp only;omega,rfl,g10,g11⟩
  generalize LQ _ _ k=QQ at hfin ⊢
  generalize mb F=oF at *
  generalize sets.map Re=se at *
  generalize rs.map yi=re at *
  generalize ef ss=os at *
  simp -implicitDefEqProofs only[SX,sevalprocAttr,-List.reduceReplicate,ke,e1,hse,FH]
  exact hfin _ (by simp[Tr.aa]) (by simp[Tr.aa])
set_option maxRecDepth 8000 in
theorem MJ {S:PV} {ss:List dc} {es:List PV} (hS:Ab S ss es) (Aa:Hc ss):
 (∀ p,Qg ss 64 (Pg ss,[])=some p→sf [.agg [S]]=some (.Zb [.lit 33 (p.1.map Re),.lit 256 (p.2.map yi),.bool true])∧p.2.length=p.1.length)∧
 (Qg ss 64 (Pg ss,[])=none→sf [.agg [S]]=some (.Zb [.pa,.pa,.bool false])):=by
 have hw:=Aa.len
 have h8:∀ s∈ss,s.parts.length≤8:=fun s hs=>(Aa.As s hs).hi
 have ln:=hS.Wb
 have hS1:(AV.pv S).one=true:=by rcases hS.is with⟨h,_⟩ | h <;> rw[h] <;> rfl
 have hl0:=tP (Ga (fun _=>none) 8) hS hw h8
 have hl2:=fun nl=>OU (Ga (fun _=>none) 8) hS hw h8 Aa.ne nl ss.length (Ac ss.length)
 have hs0:(Pg ss).map Re=[.agg (Ac ss.length)]:=by rw[Pg,List.map_singleton,JM hw]
 rw[hs0] at hl2
 have hz:=rS
 have zl:=Ig 0 fun _=>false
 have hf0:Ac 0=qc 0 fun _=>false:=by unfold Ac;congr 1
 have st0:Ra [.tok 2048 0 true,mb (qc 0 fun _=>false)] 33 (.ptr 1 0) (.pv (.agg (qc 0 fun _=>false)))=some [.tok 2048 0 true,mb (qc 0 fun _=>false)]:=ml (id:=1) rfl zl zl (bw _ _)
 have hcl2:Qa (ma 2) [.tok 2048 0 true,mb (qc 0 fun _=>false)]=some [.tok 2048 0 true,mb (qc 0 fun _=>false)]:=by
  have c0:∀ k n nl,ma 2 (.tok k n nl)=some (.tok k n nl):=fun k n nl=>rfl
  simp only[Qa,c0,Vg,Option.bind_some,Option.map_some]
 have htk2:∀ a b:ba,([a,b]:List ba).take 2=[a,b]:=fun a b=>rfl
 have htk4:∀ a b c d:ba,([a,b,c,d]:List ba).take 4=[a,b,c,d]:=fun a b c d=>rfl
 have hcl4:∀ nl,Qa (ma 4) [.tok 2048 ss.length nl,mb (Ac ss.length),.tok 33 1 false,.tok 256 0 true]=some [.tok 2048 ss.length nl,mb (Ac ss.length),.tok 33 1 false,.tok 256 0 true]:=by
  intro nl
  have c0:∀ k n nl,ma 4 (.tok k n nl)=some (.tok k n nl):=fun k n nl=>rfl
  simp only[Qa,c0,Vg,Option.bind_some,Option.map_some]
 have hld:∀ nl,ya [.tok 2048 ss.length nl,mb (Ac ss.length)] true 33 (.ptr 1 0)=some (.pv (.agg (Ac ss.length))):=fun nl=>wm (id:=1) rfl (Ig _ _)
 have fz:=uf (qc 0 fun _=>false)
 have hYl:((Ac ss.length).map AV.pv).length=33:=by rw[List.length_map,Ig]
 have hYr:na ((qc 0 fun _=>false).map AV.pv++[]) 0 ((Ac ss.length).map AV.pv)=(Ac ss.length).map AV.pv:=Gu (by rw[Ig,Ig])
 have hYa:=EI (bw 0 fun j=>decide (j < ss.length))
 have hYp:=uf (Ac ss.length)
 have hYt:(Ac ss.length).take 33=Ac ss.length:=List.take_of_length_le (by rw[Ig];exact Nat.le_refl _)
 have f4:(33≤((qc 0 fun _=>false).map AV.pv++[]).length)=True:=eq_true (by rw[List.append_nil,List.length_map,zl];exact Nat.le_refl _)
 have d20:(0 < 2)=True:=by simp
 have d21:(1 < 2)=True:=by simp
 have d40:(0 < 4)=True:=by simp
 have d42:(2 < 4)=True:=by simp
 have d43:(3 < 4)=True:=by simp
 have g1:(0 < 2048)=True:=by simp
 have g2:(0 < 256)=True:=by simp
 rw[hf0] at hl0
 have key:Td (fun r=>(∃ p,Qg ss 64 (Pg ss,[])=some p∧r=PV.Zb [.lit 33 (p.1.map Re),.lit 256 (p.2.map yi),.bool true]∧p.2.length=p.1.length)∨(Qg ss 64 (Pg ss,[])=none∧r=PV.Zb [.pa,.pa,.bool false])) (sf [.agg [S]]):=by
  generalize hQQ:(fun r:PV=>_)=QQ
  change (((Ac ss.length).map AV.pv).all AV.one)=true at hYa
  generalize hzs:(qc 0 fun _=>false)=zs at *
  generalize hfs:Ac ss.length=fs at *
  generalize hozs:mb zs=oz at *
  generalize hofs:mb fs=of at *
  simp -implicitDefEqProofs only[sf,SP,WP,na,sevalprocAttr,-List.reduceReplicate,pk,hS1,hz,hozs,fz,st0,Vf,g1,g2,hcl2,htk2,d20,d21,xb,ga,za,AV.cut,wa]
  refine xa hl0 ?_
  rintro r ⟨E,nl,rfl,k1,k5,k6⟩
  have hl2':=hl2 nl
  have hcl4':=hcl4 nl
  have hld':=hld nl
  simp -implicitDefEqProofs only[SP,WP,na,sevalprocAttr,-List.reduceReplicate,k1,k5,k6,hld',hz,hYl,hYr,hYa,hYp,hYt,f4,Vf,g1,g2,hcl4',htk4,d40,d42,d43,xb,ga,za,AV.cut,wa]
  refine xa hl2' ?_
  rintro r (⟨p,E,hp,hpl,hpp,rfl,k10,k11⟩ | ⟨hp,E,H,rfl,k2,k3,k4⟩)
  ·have hie:p.2.isEmpty=false:=by
    cases hh:p.2 with
    |nil=>rw[hh] at hpp;simp at hpp
    |cons a l=>rfl
   rw[hie] at k11
   simp -implicitDefEqProofs only[SP,WP,na,sevalprocAttr,-List.reduceReplicate,k10,k11]
   subst hQQ
   exact .inl ⟨p,hp,rfl,hpl⟩
  ·simp -implicitDefEqProofs only[SP,WP,na,sevalprocAttr,-List.reduceReplicate,k2,k3,k4]
   subst hQQ
   exact .inr ⟨hp,rfl⟩
 obtain⟨r,h1,h2⟩:=Fc key
 constructor
 ·intro p hp
  rcases h2 with⟨p',hp',rfl,hl⟩ | ⟨hn,_⟩
  ·rw[hp] at hp';injection hp' with hp';subst hp';exact⟨h1,hl⟩
  ·rw[hp] at hn;cases hn
 ·intro hn
  rcases h2 with⟨p',hp',_,_⟩ | ⟨_,rfl⟩
  ·rw[hn] at hp';cases hp'
  ·exact h1
end Go.AM.B1
namespace Go.AM.B1
open Go.AM Go.AM.So
attribute [local irreducible] Td
def owns (n:Nat):List AV:=(List.range n).map fun k=> .own (2 * k+1) n
def PA (n:Nat) (f:Nat→Bool) (fl:Nat):ba:= .seq 1 false ((Mf n f).map .pv) fl false
structure sr (H:List ba) (n:Nat) (f:Nat→Nat→Bool):Prop where
 len:H.length=2 * n+1
 hd:∃ nl,nl=false∧H[0]? =some (.seq 1 false (owns n) 0 nl)
 row:∀ k,k < n→∃ fl,fl≤n∧H[2 * k+1]? =some (PA n (f k) fl)
 xI:Ng H
theorem QC (n:Nat):(owns n).length=n:=by rw[owns,List.length_map,List.length_range]
theorem PS {n k:Nat} (h:k < n):(owns n)[k]? =some (.own (2 * k+1) n):=by
 rw[owns,List.getElem?_map,List.getElem?_range h];rfl
theorem QI (n:Nat) (f:Nat→Bool) (fl m:Nat):ma m (PA n f fl)=some (PA n f fl):=by
 have:((Mf n f).map AV.pv).all (AV.Be m deep)=true:=by
  rw[List.all_eq_true]
  intro v hv
  obtain⟨p,_,rfl⟩:=List.mem_map.1 hv
  rfl
 simp[ma,PA,this]
theorem QL (m:Nat) (g:Nat→Bool) {j:Nat} (hj:j < m) (b:Bool):(Mf m g).set j (.bool b)=Mf m fun x=>if x=j then b else g x:=by
 apply List.ext_getElem
 ·rw[List.length_set,Gg,Gg]
 ·intro k h1 h2
  rw[List.getElem_set,xC,xC]
  by_cases hk:j=k
  ·subst hk;rw[if_pos rfl,if_pos rfl]
  ·rw[if_neg hk,if_neg (Ne.symm hk)]
section
variable {H:List ba} {n:Nat} {f:Nat→Nat→Bool} (h:sr H n f)
include h
theorem sr.cut:Qa (ma (2 * n+1)) (H.take (2 * n+1))=some H:=by
 rw[← h.len,List.take_length];exact Ng.cut h.xI
theorem sr.i0 {i:Nat} (hi:i < n):qa H 1 (.own 0 n) (i:Int)=some (.Gc 0 n i):=by
 obtain⟨nl,_,h0⟩:=h.hd
 simp only[qa,h0]
 rw[if_pos (by refine⟨trivial,?_,?_⟩ <;> first | (unfold Fa;omega) | (unfold nh;rw[QC];omega))]
 simp
theorem sr.l0 {i:Nat} (hi:i < n):ya H false 1 (.Gc 0 n i)=some (.own (2 * i+1) n):=by
 obtain⟨nl,_,h0⟩:=h.hd
 simp only[ya,h0]
 rw[if_pos (QC n)]
 simp only[lh,Bool.false_eq_true,if_false]
 exact PS hi
theorem sr.i1 {i j:Nat} (hi:i < n) (hj:j < n):qa H 1 (.own (2 * i+1) n) (j:Int)=some (.Gc (2 * i+1) n j):=by
 obtain⟨fl,hf,h0⟩:=h.row i hi
 simp only[qa,h0,PA]
 rw[if_pos (by refine⟨trivial,?_,?_⟩ <;> first | (unfold Fa;omega) | (unfold nh;rw[List.length_map,Gg];omega))]
 simp
theorem sr.l1 {i j:Nat} (hi:i < n) (hj:j < n):ya H false 1 (.Gc (2 * i+1) n j)=some (.pv (.bool (f i j))):=by
 obtain⟨fl,hf,h0⟩:=h.row i hi
 simp only[ya,h0,PA]
 rw[if_pos (by rw[List.length_map,Gg])]
 simp only[lh,Bool.false_eq_true,if_false,List.getElem?_map,Kz _ hj,Option.map_some]
end
theorem sr.store {H:List ba} {n:Nat} {f:Nat→Nat→Bool} (h:sr H n f) {i j:Nat} (hi:i < n) (hj:j < n):
 ∃ H',Ra H 1 (.Gc (2 * i+1) n j) (.pv (.bool true))=some H'∧sr H' n (fun a b=>if a=i∧b=j then true else f a b):=by
 obtain⟨fl,hf,h0⟩:=h.row i hi
 have hc:(AV.pv (.bool true)).cells=[.pv (.bool true)]:=rfl
 refine⟨H.set (2 * i+1) (PA n (fun b=>if b=j then true else f i b) n),?_,?_⟩
 ·simp only[Ra,h0,PA,hc]
  rw[if_pos ⟨rfl,rfl⟩,if_pos ⟨by rw[List.length_map,Gg],by show j+1≤n;omega⟩,na,na,←List.map_set,QL n _ hj]
 ·refine⟨by rw[List.length_set,h.len],?_,?_,?_⟩
  ·obtain⟨nl,hnl,h1⟩:=h.hd
   exact⟨nl,hnl,by rw[List.getElem?_set_ne (by omega)];exact h1⟩
  ·intro k hk
   by_cases hki:k=i
   ·subst hki
    refine⟨n,Nat.le_refl _,?_⟩
    rw[List.getElem?_set_self (by rw[h.len];omega)]
    have:(fun b=>if k=k∧b=j then true else f k b)=fun b=>if b=j then true else f k b:=by funext b;simp only[true_and]
    show _=some (PA n (fun b=>if k=k∧b=j then true else f k b) n)
    rw[this]
   ·obtain⟨fl',hf',h1⟩:=h.row k hk
    refine⟨fl',hf',?_⟩
    have:(fun b=>if k=i∧b=j then true else f k b)=f k:=by funext b;rw[if_neg (fun h=>hki h.1)]
    rw[List.getElem?_set_ne (by omega),h1]
    show _=some (PA n (fun b=>if k=i∧b=j then true else f k b) fl')
    rw[this]
  ·intro m hm o ho
   rw[List.length_set] at hm
   rcases List.mem_or_eq_of_mem_set ho with h1 | h1
   ·exact h.xI m hm o h1
   ·subst h1;exact QI _ _ _ _
def Ny (f:Nat→Nat→Bool) (i j a b:Nat):Bool:=if (a=i∧b=j)∨(a=j∧b=i) then true else f a b
theorem XU (f:Nat→Nat→Bool) (i j:Nat):(fun a b=>if a=j∧b=i then true else (if a=i∧b=j then true else f a b))=Ny f i j:=by
 funext a b
 unfold Ny
 by_cases h1:a=i∧b=j
 ·by_cases h2:a=j∧b=i
  ·rw[if_pos h2,if_pos (.inl h1)]
  ·rw[if_neg h2,if_pos h1,if_pos (.inl h1)]
 ·by_cases h2:a=j∧b=i
  ·rw[if_pos h2,if_pos (.inr h2)]
  ·rw[if_neg h2,if_neg h1,if_neg (by intro h;rcases h with h | h <;> contradiction)]
def Dg (C:List (List Int)) (i x:Nat):Int:=(C.getD i []).getD x 0
def Ck (C:List (List Int)) (f:Nat→Nat→Bool) (i j x:Nat):Bool:=
 ((Dg C i x != Dg C j x)&&(decide (Dg C i x < 0)||decide (Dg C j x < 0)))||(decide (Dg C i x≥0)&&decide (Dg C j x≥0)&&f (Dg C i x).toNat (Dg C j x).toNat)
structure GI (C:List (List Int)):Prop where
 row:∀ r∈C,r.length=256
 lt:∀ r∈C,∀ v∈r,v < (C.length:Int)
 sz:C.length≤64
theorem GI.get {C:List (List Int)} (h:GI C) {i x:Nat} (hi:i < C.length) (hx:x < 256):C[i][x]? =some (Dg C i x)∧Dg C i x < (C.length:Int):=by
 have hm:=List.getElem_mem hi
 have hl:=h.row _ hm
 have hg:C.getD i []=C[i]:=by rw[List.getD_eq_getElem?_getD,List.getElem?_eq_getElem hi];rfl
 have h1:C[i][x]? =some (Dg C i x):=by
  unfold Dg
  rw[hg,List.getD_eq_getElem?_getD,List.getElem?_eq_getElem (by omega)];rfl
 exact⟨h1,h.lt _ hm _ (List.mem_of_getElem? h1)⟩
theorem GI.pd {C:List (List Int)} (h:GI C) {i:Nat} (hi:i < C.length) (H:List ba):qa H 256 (.pv (.lit 256 (C.map yi))) (i:Int)=some (.pv (.rp (C[i].map i64) 0)):=by
 simp only[qa]
 rw[if_pos (by refine⟨trivial,?_⟩;unfold Fa;simp;omega)]
 simp[hi,yi,PV.cells]
theorem GI.load {C:List (List Int)} (h:GI C) {i x:Nat} (hi:i < C.length) (hx:x < 256) (H:List ba):ya H false 1 (.pv (.rp (C[i].map i64) x))=some (.pv (i64 (Dg C i x))):=
 Fz (by rw[List.getElem?_map,(h.get hi hx).1];rfl) H
abbrev Qy (v:PV) (n i j x:Int) (g:Bool):Tr:=((((((Tr.lf.set 9 (.pv (i64 x))).set 8 (.pv (i64 j))).set 7 (.pv (i64 i))).set 6 (.pv (.bool g))).set 4 (.own 0 n.toNat)).set 3 (.pv (i64 n))).set 0 (.pv v)
section
variable (call:Za) {C:List (List Int)} (hC:GI C) {i j:Nat} (hi:i < C.length) (hj:j < C.length)
include hC hi hj
theorem XC {H:List ba} {f:Nat→Nat→Bool} (hM:sr H C.length f) (g:Bool) {x:Nat} (hx:x < 256):
 Td (fun r=>(f i j=true∧∃ E,r=(.exit 8,⟨E,H⟩)∧E.get 0= .pv (.lit 256 (C.map yi))∧E.get 3= .pv (i64 C.length)∧E.get 4= .own 0 C.length∧E.get 6= .pv (.bool g)∧E.get 7= .pv (i64 i)∧E.get 8= .pv (i64 j))∨
  (f i j=false∧Ck C f i j x=false∧r=(.norm,⟨Qy (.lit 256 (C.map yi)) C.length i j (x+1:Nat) g,H⟩))∨
  (f i j=false∧Ck C f i j x=true∧∃ H',sr H' C.length (Ny f i j)∧r=(.norm,⟨Qy (.lit 256 (C.map yi)) C.length i j (x+1:Nat) true,H'⟩)))
  (fa (ta call Xa) (ga (2 * C.length+1) [0,3,4,6,7,8,9]) ⟨Qy (.lit 256 (C.map yi)) C.length i j x g,H⟩):=by
 have hcut:=hM.cut
 have a0:=hM.i0 hi
 have a1:=hM.l0 hi
 have b0:=hM.i0 hj
 have b1:=hM.l0 hj
 have a2:=hM.i1 hi hj
 have a3:=hM.l1 hi hj
 obtain⟨H1,s1,hM1⟩:=hM.store hi hj
 obtain⟨H2,s2,hM2⟩:=hM1.store hj hi
 rw[XU] at hM2
 have b2:=hM1.i1 hj hi
 have hcut2:=hM2.cut
 have c0:=fun H=>hC.pd hi H
 have c1:=fun H=>hC.load hi hx H
 have d0:=fun H=>hC.pd hj H
 have d1:=fun H=>hC.load hj hx H
 have hva:=(hC.get hi hx).2
 have hvb:=(hC.get hj hx).2
 have hsz:=hC.sz
 have e1:decide ((x:Int) < 256)=true:=Da (by omega)
 have hq:Fa (x:Int) 256:=by unfold Fa;omega
 have t1:((x:Int)).toNat=x:=by simp
 have m1:x * 1=x:=by omega
 have z1:0+x=x:=by omega
 have t2:IntKind.i64.wrap ((x:Int)+1)=((x+1:Nat):Int):=Ba (by omega)
 have tn:((C.length:Int)).toNat=C.length:=by simp
 have hz:(0 < 2 * C.length+1)=True:=by simp
 have htl:Ck C f i j x=(((Dg C i x != Dg C j x)&&(decide (Dg C i x < 0)||decide (Dg C j x < 0)))||(decide (Dg C i x≥0)&&decide (Dg C j x≥0)&&f (Dg C i x).toNat (Dg C j x).toNat)):=rfl
 have hun:0≤Dg C i x→0≤Dg C j x→qa H 1 (.own 0 C.length) (Dg C i x)=some (.Gc 0 C.length (Dg C i x).toNat)∧ya H false 1 (.Gc 0 C.length (Dg C i x).toNat)=some (.own (2 * (Dg C i x).toNat+1) C.length)∧
  qa H 1 (.own (2 * (Dg C i x).toNat+1) C.length) (Dg C j x)=some (.Gc (2 * (Dg C i x).toNat+1) C.length (Dg C j x).toNat)∧ya H false 1 (.Gc (2 * (Dg C i x).toNat+1) C.length (Dg C j x).toNat)=some (.pv (.bool (f (Dg C i x).toNat (Dg C j x).toNat))):=by
  intro h1 h2
  have k1:=hM.i0 (i:=(Dg C i x).toNat) (by omega)
  have k2:=hM.l0 (i:=(Dg C i x).toNat) (by omega)
  have k3:=hM.i1 (i:=(Dg C i x).toNat) (j:=(Dg C j x).toNat) (by omega) (by omega)
  have k4:=hM.l1 (i:=(Dg C i x).toNat) (j:=(Dg C j x).toNat) (by omega) (by omega)
  rw[Int.toNat_of_nonneg h1] at k1
  rw[Int.toNat_of_nonneg h2] at k3
  exact⟨k1,k2,k3,k4⟩
 generalize Dg C i x=a at *
 generalize Dg C j x=b at *
 generalize hl:(PV.lit 256 (C.map yi))=L at *
 have hR0:f i j=true→∀ E,E.get 0= .pv L→E.get 3= .pv (i64 C.length)→E.get 4= .own 0 C.length→E.get 6= .pv (.bool g)→E.get 7= .pv (i64 i)→E.get 8= .pv (i64 j)→
  ((f i j=true∧∃ E',(Ex.exit 8,(⟨E,H⟩:St))=(.exit 8,⟨E',H⟩)∧E'.get 0= .pv L∧E'.get 3= .pv (i64 C.length)∧E'.get 4= .own 0 C.length∧E'.get 6= .pv (.bool g)∧E'.get 7= .pv (i64 i)∧E'.get 8= .pv (i64 j))∨
   (f i j=false∧Ck C f i j x=false∧(Ex.exit 8,(⟨E,H⟩:St))=(.norm,⟨Qy L C.length i j (x+1:Nat) g,H⟩))∨
   (f i j=false∧Ck C f i j x=true∧∃ H',sr H' C.length (Ny f i j)∧(Ex.exit 8,(⟨E,H⟩:St))=(.norm,⟨Qy L C.length i j (x+1:Nat) true,H'⟩))):=
  fun h E k0 k3 k4 k6 k7 k8=> .inl ⟨h,E,rfl,k0,k3,k4,k6,k7,k8⟩
 have hR1:f i j=false→Ck C f i j x=false→∀ s,s=(⟨Qy L C.length i j (x+1:Nat) g,H⟩:St)→
  ((f i j=true∧∃ E',(Ex.norm,s)=(.exit 8,⟨E',H⟩)∧E'.get 0= .pv L∧E'.get 3= .pv (i64 C.length)∧E'.get 4= .own 0 C.length∧E'.get 6= .pv (.bool g)∧E'.get 7= .pv (i64 i)∧E'.get 8= .pv (i64 j))∨
   (f i j=false∧Ck C f i j x=false∧(Ex.norm,s)=(.norm,⟨Qy L C.length i j (x+1:Nat) g,H⟩))∨
   (f i j=false∧Ck C f i j x=true∧∃ H',sr H' C.length (Ny f i j)∧(Ex.norm,s)=(.norm,⟨Qy L C.length i j (x+1:Nat) true,H'⟩))):=
  fun h1 h2 s h3=> .inr (.inl ⟨h1,h2,by rw[h3]⟩)
 have hR2:f i j=false→Ck C f i j x=true→∀ s,s=(⟨Qy L C.length i j (x+1:Nat) true,H2⟩:St)→
  ((f i j=true∧∃ E',(Ex.norm,s)=(.exit 8,⟨E',H⟩)∧E'.get 0= .pv L∧E'.get 3= .pv (i64 C.length)∧E'.get 4= .own 0 C.length∧E'.get 6= .pv (.bool g)∧E'.get 7= .pv (i64 i)∧E'.get 8= .pv (i64 j))∨
   (f i j=false∧Ck C f i j x=false∧(Ex.norm,s)=(.norm,⟨Qy L C.length i j (x+1:Nat) g,H⟩))∨
   (f i j=false∧Ck C f i j x=true∧∃ H',sr H' C.length (Ny f i j)∧(Ex.norm,s)=(.norm,⟨Qy L C.length i j (x+1:Nat) true,H'⟩))):=
  fun h1 h2 s h3=> .inr (.inr ⟨h1,h2,H2,hM2,by rw[h3]⟩)
 generalize hQQ:(fun r:Ex×St=>_)=QQ
 generalize hu:f i j=u at *
 cases u with
 |true=>
  simp -implicitDefEqProofs only[SX,sevalprocAttr,Xa,e1,tn,a0,a1,a2,a3,Qy]
  subst hQQ
  exact hR0 rfl _ (by simp[Tr.aa]) (by simp[Tr.aa]) (by simp[Tr.aa]) (by simp[Tr.aa]) (by simp[Tr.aa]) (by simp[Tr.aa])
 |false=>
  by_cases hab:a=b
  ·have ne1:(a != b)=false:=by simp[hab]
   subst hab
   by_cases ha:a≥0
   ·have da:=Da ha
    have da':decide (a < 0)=false:=Ha (by omega)
    obtain⟨k1,k2,k3,k4⟩:=hun ha ha
    rw[ne1,da,Bool.false_and,Bool.false_or,Bool.true_and,Bool.true_and] at htl
    generalize hw:f a.toNat a.toNat=w at *
    cases w with
    |true=>
     simp -implicitDefEqProofs only[SX,sevalprocAttr,Xa,e1,tn,a0,a1,a2,a3,b0,b1,b2,c0,c1,d0,d1,eq_true hq,t1,m1,z1,rj,ne1,da,k1,k2,k3,k4,s1,s2,t2,hcut2,hz,ga,za,AV.cut,wa,Qy]
     subst hQQ
     exact hR2 rfl htl _ (by simp only[Qy,tn])
    |false=>
     simp -implicitDefEqProofs only[SX,sevalprocAttr,Xa,e1,tn,a0,a1,a2,a3,b0,b1,b2,c0,c1,d0,d1,eq_true hq,t1,m1,z1,rj,ne1,da,k1,k2,k3,k4,t2,hcut,hz,ga,za,AV.cut,wa,Qy]
     subst hQQ
     exact hR1 rfl htl _ (by simp only[Qy,tn])
   ·have da:=Ha ha
    rw[ne1,da,Bool.false_and,Bool.false_or,Bool.false_and,Bool.false_and] at htl
    simp -implicitDefEqProofs only[SX,sevalprocAttr,Xa,e1,tn,a0,a1,a2,a3,b0,b1,b2,c0,c1,d0,d1,eq_true hq,t1,m1,z1,rj,ne1,da,t2,hcut,hz,ga,za,AV.cut,wa,Qy]
    subst hQQ
    exact hR1 rfl htl _ (by simp only[Qy,tn])
  ·have ne1:(a != b)=true:=by simp[hab]
   by_cases ha:a < 0
   ·have da:=Da ha
    rw[ne1,da] at htl
    simp only[Bool.true_and,Bool.true_or] at htl
    simp -implicitDefEqProofs only[SX,sevalprocAttr,Xa,e1,tn,a0,a1,a2,a3,b0,b1,b2,c0,c1,d0,d1,eq_true hq,t1,m1,z1,rj,ne1,da,s1,s2,t2,hcut2,hz,ga,za,AV.cut,wa,Qy]
    subst hQQ
    exact hR2 rfl htl _ (by simp only[Qy,tn])
   ·have da:=Ha ha
    have da':decide (a≥0)=true:=Da (by omega)
    by_cases hb:b < 0
    ·have db:=Da hb
     rw[ne1,da,db] at htl
     simp only[Bool.true_and,Bool.false_or,Bool.true_or] at htl
     simp -implicitDefEqProofs only[SX,sevalprocAttr,Xa,e1,tn,a0,a1,a2,a3,b0,b1,b2,c0,c1,d0,d1,eq_true hq,t1,m1,z1,rj,ne1,da,db,s1,s2,t2,hcut2,hz,ga,za,AV.cut,wa,Qy]
     subst hQQ
     exact hR2 rfl htl _ (by simp only[Qy,tn])
    ·have db:=Ha hb
     have db':decide (b≥0)=true:=Da (by omega)
     obtain⟨k1,k2,k3,k4⟩:=hun (by omega) (by omega)
     rw[ne1,da,db,da',db'] at htl
     simp only[Bool.true_and,Bool.false_or] at htl
     generalize hw:f a.toNat b.toNat=w at *
     cases w with
     |true=>
      simp -implicitDefEqProofs only[SX,sevalprocAttr,Xa,e1,tn,a0,a1,a2,a3,b0,b1,b2,c0,c1,d0,d1,eq_true hq,t1,m1,z1,rj,ne1,da,db,da',db',k1,k2,k3,k4,s1,s2,t2,hcut2,hz,ga,za,AV.cut,wa,Qy]
      subst hQQ
      exact hR2 rfl htl _ (by simp only[Qy,tn])
     |false=>
      simp -implicitDefEqProofs only[SX,sevalprocAttr,Xa,e1,tn,a0,a1,a2,a3,b0,b1,b2,c0,c1,d0,d1,eq_true hq,t1,m1,z1,rj,ne1,da,db,da',db',k1,k2,k3,k4,t2,hcut,hz,ga,za,AV.cut,wa,Qy]
      subst hQQ
      exact hR1 rfl htl _ (by simp only[Qy,tn])
end
end Go.AM.B1
namespace Go.AM.B1
open Go.AM Go.AM.So
def My (ss:List dc) (sets:List Al) (a:Al) (x:Nat) (v:Int):Prop:=
 (Zf (Hl ss a x) ss.length=false∧v= -2)∨
 (Zf (Hl ss a x) ss.length=true∧Zf (Ep ss a x) ss.length=true∧v= -1)∨
 (Zf (Hl ss a x) ss.length=true∧Zf (Ep ss a x) ss.length=false∧∃ k m:Nat,v=(k:Int)∧AB ss a x m∧sets[k]? =some (a.1+1,(m:Int)))
theorem My.mono {ss:List dc} {sets t:List Al} {a:Al} {x:Nat} {v:Int} (h:My ss sets a x v):My ss (sets++t) a x v:=by
 rcases h with h | h | ⟨h1,h2,k,m,h3,h4,h5⟩
 ·exact .inl h
 ·exact .inr (.inl h)
 ·refine .inr (.inr ⟨h1,h2,k,m,h3,h4,?_⟩)
  rw[List.getElem?_append_left (List.getElem?_eq_some_iff.1 h5).1];exact h5
theorem tK {a:Al}:∀ {l:List Al} {k i:Nat},dm a l k=some i→k≤i∧l[i - k]? =some a
 |b::l,k,i,h=>by
  simp only[dm] at h
  split at h
  ·next he=>injection h with h;subst h;subst he;exact⟨Nat.le_refl _,by simp⟩
  ·obtain⟨h1,h2⟩:=tK h
   refine⟨by omega,?_⟩
   rw[show i - k=(i - (k+1))+1 by omega,List.getElem?_cons_succ];exact h2
structure VL (sets:List Al) (d:Nat):Prop where
 up:∀ (p q:Nat) a b,p≤q→sets[p]? =some a→sets[q]? =some b→a.1≤b.1
 top:∀ (q:Nat) b,sets[q]? =some b→b.1≤d+1
theorem VL.push {sets:List Al} {d:Nat} (h:VL sets d) (e:Int):VL (sets++[(d+1,e)]) d:=by
 have hg:∀ (q:Nat) b,(sets++[(d+1,e)])[q]? =some b→(q < sets.length∧sets[q]? =some b)∨(q=sets.length∧b=(d+1,e)):=by
  intro q b hb
  rcases Nat.lt_or_ge q sets.length with h1 | h1
  ·rw[List.getElem?_append_left h1] at hb;exact .inl ⟨h1,hb⟩
  ·rw[List.getElem?_append_right h1] at hb
   cases hq:q - sets.length with
   |zero=>rw[hq] at hb;simp at hb;exact .inr ⟨by omega,hb.symm⟩
   |succ n=>rw[hq] at hb;simp at hb
 refine⟨?_,?_⟩
 ·intro p q a b hpq ha hb
  rcases hg p a ha with⟨h1,h2⟩ | ⟨h1,h2⟩ <;> rcases hg q b hb with⟨h3,h4⟩ | ⟨h3,h4⟩
  ·exact h.up p q a b hpq h2 h4
  ·rw[h4];exact h.top p a h2
  ·omega
  ·rw[h2,h4];exact Nat.le_refl _
 ·intro q b hb
  rcases hg q b hb with⟨h3,h4⟩ | ⟨h3,h4⟩
  ·exact h.top q b h4
  ·rw[h4];exact Nat.le_refl _
theorem HP {ss:List dc} (hw:ss.length≤32) {sets:List Al} {a:Al} (hba:sT a) {x:Nat} {p:List Al×Int} (h:Rg ss a x sets=some p) (hR:VL sets a.1):
 My ss p.1 a x p.2∧VL p.1 a.1∧((p.1=sets)∨(p.1.length=sets.length+1∧p.2=(sets.length:Int))):=by
 obtain⟨m,hm⟩:=cU (x:=x) hba hw
 rw[hm.step sets] at h
 by_cases h1:Zf (Hl ss a x) ss.length=false
 ·rw[if_pos h1] at h
  injection h with h;subst h
  exact⟨.inl ⟨h1,rfl⟩,hR,.inl rfl⟩
 ·rw[if_neg h1] at h
  have h1':Zf (Hl ss a x) ss.length=true:=by simpa using h1
  by_cases h2:Zf (Ep ss a x) ss.length=true
  ·rw[if_pos h2] at h
   injection h with h;subst h
   exact⟨.inr (.inl ⟨h1',h2,rfl⟩),hR,.inl rfl⟩
  ·rw[if_neg h2] at h
   have h2':Zf (Ep ss a x) ss.length=false:=by simpa using h2
   cases hi:dm (a.1+1,(m:Int)) sets 0 with
   |some k=>
    rw[hi] at h
    injection h with h;subst h
    exact⟨.inr (.inr ⟨h1',h2',k,m,rfl,hm,(tK hi).2⟩),hR,.inl rfl⟩
   |none=>
    rw[hi] at h
    simp only at h
    split at h
    ·injection h with h;subst h
     refine⟨.inr (.inr ⟨h1',h2',sets.length,m,rfl,hm,by simp⟩),hR.push _,.inr ⟨by simp,rfl⟩⟩
    ·cases h
theorem sK {ss:List dc} (hw:ss.length≤32) {a:Al} (hba:sT a) {i:Nat}:∀ (xs:List Nat) (r r':List Al×List Int),xs.Nodup→(∀ x∈xs,x < r.2.length)→Qm ss r.1→r.1[i]? =some a→VL r.1 a.1→Mk ss a xs r=some r'→
 (∀ x∈xs,My ss r'.1 a x (r'.2.getD x 0))∧(∀ y,y ∉ xs→r'.2.getD y 0=r.2.getD y 0)∧(∀ k,r.1.length≤k→k < r'.1.length→∃ x∈xs,r'.2.getD x 0=(k:Int))∧VL r'.1 a.1
 | [],r,r',_,_,_,_,hR,e=>by
   injection e with e;subst e
   exact⟨by simp,fun _ _=>rfl,fun k h1 h2=>by omega,hR⟩
 |x::xs,r,r',hnd,hlt,Aa,ha,hR,e=>by
  cases hst:Rg ss a x r.1 with
  |none=>rw[Cs hst] at e;cases e
  |some p=>
   rw[Ht hst] at e
   obtain⟨s1,s2,s3⟩:=HP hw hba hst hR
   obtain⟨g1,t,g2⟩:=uE Aa ha hw hst
   rw[List.nodup_cons] at hnd
   have hi:=(List.getElem?_eq_some_iff.1 ha).1
   have hxl:=hlt x (by simp)
   obtain⟨k1,k2,k3,k4⟩:=sK hw hba xs (p.1,r.2.set x p.2) r' hnd.2 (fun y hy=>by rw[List.length_set];exact hlt y (by simp[hy])) g1 (by rw[g2,List.getElem?_append_left hi];exact ha) s2 e
   obtain⟨_,⟨t',q2⟩,_⟩:=Fu hw xs (p.1,r.2.set x p.2) r' g1 (by rw[g2,List.getElem?_append_left hi];exact ha) e
   simp only at q2
   have hx:r'.2.getD x 0=p.2:=by
    rw[k2 x hnd.1,List.getD_eq_getElem?_getD,List.getElem?_set_self hxl];rfl
   refine⟨?_,?_,?_,k4⟩
   ·intro y hy
    rcases List.mem_cons.1 hy with rfl | hy
    ·rw[hx,q2];exact s1.mono
    ·exact k1 y hy
   ·intro y hy
    rw[List.mem_cons,not_or] at hy
    rw[k2 y hy.2,List.getD_eq_getElem?_getD,List.getElem?_set_ne (Ne.symm hy.1),←List.getD_eq_getElem?_getD]
   ·intro k h1 h2
    rcases s3 with s3 | ⟨s3,s4⟩
    ·obtain⟨y,hy,h3⟩:=k3 k (by rw[s3];exact h1) h2
     exact⟨y,by simp[hy],h3⟩
    ·by_cases hk:k=r.1.length
     ·exact⟨x,by simp,by rw[hx,s4,hk]⟩
     ·obtain⟨y,hy,h3⟩:=k3 k (by simp only;omega) h2
      exact⟨y,by simp[hy],h3⟩
structure yl (ss:List dc) (sets:List Al) (C:List (List Int)):Prop where
 ok:Qm ss sets
 le:C.length≤sets.length
 first:sets[0]? =some (0,Vp ss.length)
 row:∀ r∈C,r.length=256
 step:∀ (k:Nat) a,k < C.length→sets[k]? =some a→∀ x,x < 256→My ss sets a x (Dg C k x)
 up:∀ (p q:Nat) a b,p≤q→sets[p]? =some a→sets[q]? =some b→a.1≤b.1
 top:∀ (k q:Nat) a b,k=C.length→sets[k]? =some a→sets[q]? =some b→b.1≤a.1+1
 reach:∀ k,0 < k→k < sets.length→∃ j x,j < k∧j < C.length∧x < 256∧Dg C j x=(k:Int)
theorem nN {C:List (List Int)} {r:List Int} {k x:Nat} (hk:k < C.length):Dg (C++[r]) k x=Dg C k x:=by
 have:(C++[r]).getD k []=C.getD k []:=by
  rw[List.getD_eq_getElem?_getD,List.getElem?_append_left hk,←List.getD_eq_getElem?_getD]
 unfold Dg
 rw[this]
theorem RN {C:List (List Int)} {r:List Int} {x:Nat}:Dg (C++[r]) C.length x=r.getD x 0:=by
 unfold Dg
 have:(C++[r]).getD C.length []=r:=by
  rw[List.getD_eq_getElem?_getD,List.getElem?_append_right (Nat.le_refl _),Nat.sub_self];rfl
 rw[this]
theorem yl.next {ss:List dc} (hw:ss.length≤32) {sets:List Al} {C:List (List Int)} (h:yl ss sets C) {a:Al} (ha:sets[C.length]? =some a) {p:List Al×List Int} (hp:Mk ss a (List.range 256) (sets,eb)=some p):yl ss p.1 (C++[p.2]):=by
 have hlt:=(List.getElem?_eq_some_iff.1 ha).1
 obtain⟨_,b,hb,hblt,_⟩:=h.ok.2 _ a ha
 have hba:sT a:=⟨b,hb,hblt⟩
 obtain⟨k1,k2,k3,k4⟩:=sK hw hba (i:=C.length) (List.range 256) (sets,eb) p List.nodup_range (fun x hx=>by simp only[Ps];simpa using hx) h.ok ha ⟨h.up,fun q b hb=>h.top C.length q a b rfl ha hb⟩ hp
 obtain⟨g1,⟨t,g2⟩,g3⟩:=Fu hw (List.range 256) (sets,eb) p h.ok ha hp
 simp only at g2 g3
 rw[Ps] at g3
 have hold:∀ (k:Nat) c,k < sets.length→(p.1[k]? =some c↔sets[k]? =some c):=fun k c hk=>by rw[g2,List.getElem?_append_left hk]
 refine⟨g1,?_,?_,?_,?_,k4.up,?_,?_⟩
 ·rw[g2];simp;omega
 ·rw[hold 0 _ (by omega)];exact h.first
 ·intro r hr
  rcases List.mem_append.1 hr with h1 | h1
  ·exact h.row r h1
  ·rw[List.mem_singleton] at h1;subst h1;exact g3
 ·intro k c hk hc x hx
  rw[List.length_append,List.length_singleton] at hk
  rcases Nat.lt_or_ge k C.length with h1 | h1
  ·rw[nN h1,g2]
   exact (h.step k c h1 ((hold k c (by omega)).1 hc) x hx).mono
  ·have:k=C.length:=by omega
   subst this
   have hca:c=a:=by
    have:=(hold C.length c hlt).1 hc
    rw[ha] at this;injection this with this;exact this.symm
   subst hca
   rw[RN]
   exact k1 x (by simpa using hx)
 ·intro k q c d hk hc hd
  rw[List.length_append,List.length_singleton] at hk
  have h1:=k4.top q d hd
  have h2:=k4.up C.length k a c (by omega) ((hold _ a hlt).2 ha) hc
  omega
 ·intro k h0 hk
  rcases Nat.lt_or_ge k sets.length with h1 | h1
  ·obtain⟨j,x,h2,h3,h4,h5⟩:=h.reach k h0 h1
   exact⟨j,x,h2,by rw[List.length_append];omega,h4,by rw[nN h3];exact h5⟩
  ·obtain⟨x,hx,h2⟩:=k3 k h1 hk
   exact⟨C.length,x,by omega,by simp,by simpa using hx,by rw[RN];exact h2⟩
theorem kG {ss:List dc} (hw:ss.length≤32):∀ (k:Nat) (r r':List Al×List (List Int)),r.2.length+k=64→yl ss r.1 r.2→Qg ss k r=some r'→yl ss r'.1 r'.2∧r'.2.length=r'.1.length
 |0,r,r',hk,h,e=>by
  injection e with e;subst e
  have:=h.ok.1
  have:=h.le
  exact⟨h,by omega⟩
 |k+1,r,r',hk,h,e=>by
  cases ha:r.1[r.2.length]? with
  |none=>
   rw[Gs ha] at e;injection e with e;subst e
   refine⟨h,?_⟩
   have:=h.le
   rcases Nat.lt_or_ge r.2.length r.1.length with h1 | h1
   ·rw[List.getElem?_eq_getElem h1] at ha;cases ha
   ·omega
  |some a=>
   cases hr:Mk ss a (List.range 256) (r.1,eb) with
   |none=>rw[au ha hr] at e;cases e
   |some p=>
    rw[Ku ha hr] at e
    exact kG hw k (p.1,r.2++[p.2]) r' (by simp;omega) (h.next hw ha hr) e
theorem qG {ss:List dc} (hw:ss.length≤32) (hne:∀ s∈ss,0 < s.parts.length) {p:List Al×List (List Int)} (h:Qg ss 64 (Pg ss,[])=some p):yl ss p.1 p.2∧p.2.length=p.1.length:=by
 refine kG hw 64 (Pg ss,[]) p rfl ⟨Vy hw hne,by simp,rfl,by simp,fun k a hk=>by simp at hk,?_,?_,?_⟩ h
 ·intro p q a b hpq ha hb
  have:p=0∧q=0:=by
   have h1:=(List.getElem?_eq_some_iff.1 ha).1
   have h2:=(List.getElem?_eq_some_iff.1 hb).1
   simp[Pg] at h1 h2;omega
  obtain⟨rfl,rfl⟩:=this
  rw[ha] at hb;injection hb with hb;subst hb;exact Nat.le_refl _
 ·intro k q a b hk ha hb
  have h2:=(List.getElem?_eq_some_iff.1 hb).1
  simp[Pg] at h2;subst h2
  simp[Pg] at hb;subst hb;simp
 ·intro k h0 hk
  simp[Pg] at hk;omega
end Go.AM.B1
namespace Go.AM.B1
open Go.AM
def Xp (yc:List Int) (to:Int):Int:=if 0≤to then yc.getD to.toNat 0 else to
theorem Jw {yc row:List Int} {i:Nat}:∀ (xs:List Nat) (C:List Int) (p:Nat),p < C.length→
 (Hd yc row i xs C)[p]? =if h:i * 256≤p∧p - i * 256∈xs∧p - i * 256 < row.length then (if 0≤row.getD (p - i * 256) 0 then some (Xp yc (row.getD (p - i * 256) 0)) else C[p]?) else C[p]?
 | [],C,p,hp=>by simp[Hd]
 |x::xs,C,p,hp=>by
  rw[Hd]
  have key:∀ C',C'.length=C.length→(p≠i * 256+x→C'[p]? =C[p]?)→(p=i * 256+x→C'[p]? =if x < row.length then (if 0≤row.getD x 0 then some (Xp yc (row.getD x 0)) else C[p]?) else C[p]?)→
   (Hd yc row i xs C')[p]? =if h:i * 256≤p∧p - i * 256∈x::xs∧p - i * 256 < row.length then (if 0≤row.getD (p - i * 256) 0 then some (Xp yc (row.getD (p - i * 256) 0)) else C[p]?) else C[p]? :=by
   intro C' hl h1 h2
   rw[Jw xs C' p (by omega)]
   by_cases hx:p=i * 256+x
   ·have e:p - i * 256=x:=by omega
    have h3:=h2 hx
    rw[e,h3]
    have hle:i * 256≤p:=by omega
    by_cases hr:x < row.length
    ·simp only[hle,hr,and_true,true_and,List.mem_cons,true_or,dite_true,if_true]
     by_cases h0:0≤row.getD x 0
     ·simp only[h0,if_true,ite_self,dite_eq_ite]
     ·simp only[h0,if_false,ite_self,dite_eq_ite]
    ·simp[hr]
   ·rw[h1 hx]
    have:(i * 256≤p∧p - i * 256∈xs∧p - i * 256 < row.length)=(i * 256≤p∧p - i * 256∈x::xs∧p - i * 256 < row.length):=by
     refine propext ⟨fun h=>⟨h.1,by simp[h.2.1],h.2.2⟩,fun h=>⟨h.1,?_,h.2.2⟩⟩
     rcases List.mem_cons.1 h.2.1 with h4 | h4
     ·omega
     ·exact h4
    simp only[this]
  cases hr:row[x]? with
  |none=>
   refine key _ rfl (fun _=>rfl) (fun hx=> ?_)
   have:¬x < row.length:=by
    intro h;rw[List.getElem?_eq_getElem h] at hr;cases hr
   rw[if_neg this]
  |some to=>
   have hx2:x < row.length:=(List.getElem?_eq_some_iff.1 hr).1
   have hto:row.getD x 0=to:=by rw[List.getD_eq_getElem?_getD,hr];rfl
   simp only
   by_cases h0:0≤to
   ·rw[if_pos h0]
    refine key _ (by simp) (fun hx=>by rw[List.getElem?_set_ne (by omega)]) (fun hx=> ?_)
    rw[if_pos hx2,hto,if_pos h0,hx,List.getElem?_set_self (by omega),Xp,if_pos h0]
   ·rw[if_neg h0]
    refine key _ rfl (fun _=>rfl) (fun hx=> ?_)
    rw[if_pos hx2,hto,if_neg h0]
theorem Jt {C:List Int} {i x:Nat} (hx:x < 256):(Wa C i)[x]? =C[i * 256+x]? :=by
 unfold Wa
 rw[List.getElem?_take_of_lt hx,List.getElem?_drop]
theorem xJ {n:Nat} {yc C:List Int} {i:Nat} (hC:C.length=n * 256) (hi:i < n):
 Wa (Hd yc (Wa C i) i (List.range 256) C) i=(Wa C i).map (Xp yc):=by
 apply List.ext_getElem?
 intro x
 by_cases hx:x < 256
 ·rw[Jt hx,Jw _ _ _ (by omega),List.getElem?_map]
  have e:i * 256+x - i * 256=x:=by omega
  have hl:=Yh hC hi
  rw[e,dif_pos ⟨by omega,by simpa using hx,by omega⟩]
  have hg:(Wa C i)[x]? =some ((Wa C i).getD x 0):=by
   rw[List.getD_eq_getElem?_getD,List.getElem?_eq_getElem (by omega)];rfl
  have hg2:=hg
  rw[Jt hx] at hg2
  rw[hg2,hg]
  by_cases h0:0≤(Wa C i).getD x 0
  ·rw[if_pos h0];rfl
  ·rw[if_neg h0,Option.map_some,Xp,if_neg h0]
 ·rw[List.getElem?_eq_none,List.getElem?_eq_none]
  ·rw[List.length_map,Yh hC hi];omega
  ·rw[Yh (n:=n) (by rw[gm,hC]) hi];omega
theorem pF {n:Nat} {yc row C:List Int} {i j:Nat} (hC:C.length=n * 256) (hj:j < n) (hij:j≠i) (hr:row.length=256):
 Wa (Hd yc row i (List.range 256) C) j=Wa C j:=by
 apply List.ext_getElem?
 intro x
 by_cases hx:x < 256
 ·rw[Jt hx,Jt hx,Jw _ _ _ (by omega)]
  rw[dif_neg]
  rintro⟨h1,h2,h3⟩
  omega
 ·rw[List.getElem?_eq_none,List.getElem?_eq_none]
  ·rw[Yh hC hj];omega
  ·rw[Yh (n:=n) (by rw[gm,hC]) hj];omega
structure Ky (n:Nat) (C0:List Int) (i:Nat) (s:zK):Prop where
 hC:s.C.length=n * 256
 hk:s.yc.length=n
 hi:∀ j,i≤j→j < n→Wa s.C j=(Wa C0 j).map (Xp s.yc)
 lo:∀ j,j < i→Wa s.C j=Wa C0 j
 look:∀ j,i≤j→j < n→Bk (Wa s.C j) s.M=some (s.yc.getD j 0)
 inj:∀ p∈s.M,∀ q∈s.M,p.2=q.2→p.1=q.1
 rep:∀ p∈s.M,(i:Int)≤p.2∧p.2 < n∧Wa s.C p.2.toNat=p.1
def rO (n:Nat) (C0:List Int):Prop:=∀ j,j < n→∀ to∈Wa C0 j,0≤to→(j:Int) < to∧to < n
theorem JP {yc:List Int} {i:Nat} {v to:Int} (h:0≤to→to.toNat≠i):Xp (yc.set i v) to=Xp yc to:=by
 unfold Xp
 split
 ·next h0=>rw[List.getD_eq_getElem?_getD,List.getD_eq_getElem?_getD,List.getElem?_set_ne (Ne.symm (h h0))]
 ·rfl
theorem RF {a:List Int} {M N:List (List Int×Int)}:Bk a (M++N)=(Bk a M).or (Bk a N):=by
 induction M with
 |nil=>simp[Bk]
 |cons p M ih=>
  rw[List.cons_append,Bk,Bk]
  split
  ·rfl
  ·exact ih
theorem Ky.step {n:Nat} {C0:List Int} (hlat:rO n C0) {i:Nat} {s:zK} (hin:i < n) (h:Ky n C0 (i+1) s):Ky n C0 i (bl i s):=by
 have hrow:Wa s.C i=Wa C0 i:=h.lo i (by omega)
 have hrl:(Wa C0 i).length=256:=by rw[← hrow];exact Yh h.hC hin
 have hC2:(Hd s.yc (Wa s.C i) i (List.range 256) s.C).length=n * 256:=by rw[gm,h.hC]
 have hr1:=xJ (yc:=s.yc) h.hC hin
 have hr2:∀ j,j < n→j≠i→Wa (Hd s.yc (Wa s.C i) i (List.range 256) s.C) j=Wa s.C j:=fun j hj hji=>pF h.hC hj hji (by rw[hrow];exact hrl)
 have hl1:=@Cr i s
 have hl2:=@Er i s
 generalize Hd s.yc (Wa s.C i) i (List.range 256) s.C=C2 at *
 have hms:∀ v j,i≤j→j < n→(Wa C0 j).map (Xp (s.yc.set i v))=(Wa C0 j).map (Xp s.yc):=by
  intro v j hij hj
  apply List.map_congr_left
  intro to hto
  apply JP
  intro h0
  have:=hlat j hj to hto h0
  omega
 have main:∀ v M',Bk (Wa C2 i) M'=some v→(∀ j,i+1≤j→j < n→Bk (Wa C2 j) M'=Bk (Wa s.C j) s.M)→
  (∀ p∈M',∀ q∈M',p.2=q.2→p.1=q.1)→(∀ p∈M',(i:Int)≤p.2∧p.2 < n∧Wa C2 p.2.toNat=p.1)→Ky n C0 i ⟨C2,s.yc.set i v,M'⟩:=by
  intro v M' h1 h2 h3 h4
  refine⟨hC2,by simp[h.hk],?_,?_,?_,h3,h4⟩
  ·intro j hij hj
   show Wa C2 j=(Wa C0 j).map (Xp (s.yc.set i v))
   rw[hms v j hij hj]
   by_cases hji:j=i
   ·subst hji;rw[hr1,hrow]
   ·rw[hr2 j hj hji,h.hi j (by omega) hj]
  ·intro j hj
   show Wa C2 j=_
   rw[hr2 j (by omega) (by omega),h.lo j (by omega)]
  ·intro j hij hj
   show Bk (Wa C2 j) M'=some ((s.yc.set i v).getD j 0)
   by_cases hji:j=i
   ·subst hji
    rw[h1,List.getD_eq_getElem?_getD,List.getElem?_set_self (by rw[h.hk];exact hj)];rfl
   ·rw[h2 j (by omega) hj,h.look j (by omega) hj,List.getD_eq_getElem?_getD,List.getD_eq_getElem?_getD,List.getElem?_set_ne (Ne.symm hji)]
 cases hlk:Bk (Wa C2 i) s.M with
 |some v=>
  rw[hl1 hlk]
  refine main v s.M hlk (fun j h1 h2=>by rw[hr2 j h2 (by omega)]) h.inj ?_
  intro p hp
  obtain⟨h1,h2,h3⟩:=h.rep p hp
  exact⟨by omega,h2,by rw[hr2 _ (by omega) (by omega),h3]⟩
 |none=>
  rw[hl2 hlk]
  refine main i _ (by rw[RF,hlk];simp[Bk]) (fun j h1 h2=> ?_) ?_ ?_
  ·rw[hr2 j h2 (by omega),RF,h.look j h1 h2];rfl
  ·intro p hp q hq hpq
   rcases List.mem_append.1 hp with hp | hp <;> rcases List.mem_append.1 hq with hq | hq
   ·exact h.inj p hp q hq hpq
   ·simp at hq;subst hq
    have:=(h.rep p hp).1
    simp only at hpq;omega
   ·simp at hp;subst hp
    have:=(h.rep q hq).1
    simp only at hpq;omega
   ·simp at hp hq;subst hp hq;rfl
  ·intro p hp
   rcases List.mem_append.1 hp with hp | hp
   ·obtain⟨h1,h2,h3⟩:=h.rep p hp
    exact⟨by omega,h2,by rw[hr2 _ (by omega) (by omega),h3]⟩
   ·simp at hp;subst hp
    exact⟨by simp,by simp;omega,by simp⟩
theorem Ky.go {n:Nat} {C0:List Int} (hlat:rO n C0):∀ (k:Nat) (s:zK),k≤n→Ky n C0 k s→Ky n C0 0 (Fj k s)
 |0,s,_,h=>h
 |k+1,s,hk,h=>Ky.go hlat k _ (by omega) (h.step hlat (by omega))
theorem nP {n:Nat} {C0:List Int} (hlat:rO n C0) (hC:C0.length=n * 256):Ky n C0 0 (Ie n C0):=by
 refine Ky.go hlat n _ (Nat.le_refl _) ⟨hC,by simp,fun j h1 h2=>by omega,fun j hj=>rfl,fun j h1 h2=>by omega,by simp,by simp⟩
theorem Ky.QJ {n:Nat} {C0:List Int} {s:zK} (h:Ky n C0 0 s) {j k:Nat} (hj:j < n) (hk:k < n):s.yc.getD j 0=s.yc.getD k 0↔Wa s.C j=Wa s.C k:=by
 have h1:=h.look j (by omega) hj
 have h2:=h.look k (by omega) hk
 constructor
 ·intro e
  obtain⟨p,hp,e1,e2⟩:=dt h1
  obtain⟨q,hq,e3,e4⟩:=dt h2
  rw[← e1,←e3]
  exact h.inj p hp q hq (by rw[e2,e4,e])
 ·intro e
  rw[e,h2] at h1
  exact (Option.some.inj h1).symm
theorem Ky.Oo {n:Nat} {C0:List Int} {s:zK} (h:Ky n C0 0 s) {j:Nat} (hj:j < n):0≤s.yc.getD j 0∧s.yc.getD j 0 < n∧Wa s.C (s.yc.getD j 0).toNat=Wa s.C j:=by
 obtain⟨p,hp,e1,e2⟩:=dt (h.look j (by omega) hj)
 obtain⟨h1,h2,h3⟩:=h.rep p hp
 rw[← e2,←e1]
 exact⟨by omega,h2,h3⟩
end Go.AM.B1
namespace Go.AM.B1
open Go.AM Go.AM.So
attribute [local irreducible] Td
def qN (C:List (List Int)) (i j:Nat) (f:Nat→Nat→Bool) (g:Bool) (f':Nat→Nat→Bool) (g':Bool):Prop:=
 (f'=f∧g'=g∧(f i j=true∨∀ x,x < 256→Ck C f i j x=false))∨(f i j=false∧(∃ x,x < 256∧Ck C f i j x=true)∧f'=Ny f i j∧g'=true)
section
variable (call:Za) {C:List (List Int)} (hC:GI C)
include hC
theorem fU {i j:Nat} (hi:i < C.length) (hj:j < C.length) {H:List ba} {f:Nat→Nat→Bool} (hM:sr H C.length f) (g:Bool):
 Td (fun r=>∃ E H' f' g',r=(.exit 8,⟨E,H'⟩)∧sr H' C.length f'∧qN C i j f g f' g'∧E.get 0= .pv (.lit 256 (C.map yi))∧E.get 3= .pv (i64 C.length)∧E.get 4= .own 0 C.length∧E.get 6= .pv (.bool g')∧E.get 7= .pv (i64 i)∧E.get 8= .pv (i64 j))
  (gb (fa (ta call Xa) (ga (2 * C.length+1) [0,3,4,6,7,8,9])) oa ⟨Qy (.lit 256 (C.map yi)) C.length i j 0 g,H⟩):=by
 have hs2:Ny f i j i j=true:=by unfold Ny;rw[if_pos (.inl ⟨rfl,rfl⟩)]
 refine xa (Nb (g:=fa (ta call Xa) (ga (2 * C.length+1) [0,3,4,6,7,8,9]))
  (fun x t=>∃ H' f' g',t=⟨Qy (.lit 256 (C.map yi)) C.length i j x g',H'⟩∧sr H' C.length f'∧((f'=f∧g'=g∧(f i j=true∨∀ x',x' < x→Ck C f i j x'=false))∨(f i j=false∧(∃ x,x < 256∧Ck C f i j x=true)∧f'=Ny f i j∧g'=true)))
  256 (by unfold oa;omega) _ ⟨H,f,g,rfl,hM,.inl ⟨rfl,rfl,.inr fun x h=>by omega⟩⟩ ?_ ?_) (fun r h=>h.2)
 ·rintro x t hx ⟨H',f',g',rfl,hM',hP⟩
  refine xa (XC call hC hi hj hM' g' hx) ?_
  rintro r (⟨hu,E,rfl,k0,k3,k4,k6,k7,k8⟩ | ⟨hu,htl,rfl⟩ | ⟨hu,htl,H2,hM2,rfl⟩)
  ·refine⟨E,H',f',g',rfl,hM',?_,k0,k3,k4,k6,k7,k8⟩
   rcases hP with⟨rfl,rfl,hp⟩ | ⟨h1,h2,h3,h4⟩
   ·exact .inl ⟨rfl,rfl,.inl hu⟩
   ·exact .inr ⟨h1,h2,h3,h4⟩
  ·rcases hP with⟨rfl,rfl,hp⟩ | ⟨h1,h2,rfl,h4⟩
   ·refine⟨H',f',g',rfl,hM',.inl ⟨rfl,rfl,.inr fun x' hx'=> ?_⟩⟩
    rcases hp with hp | hp
    ·rw[hu] at hp;cases hp
    ·rcases Nat.lt_or_ge x' x with h | h
     ·exact hp x' h
     ·have:x'=x:=by omega
      subst this;exact htl
   ·rw[hs2] at hu;cases hu
  ·rcases hP with⟨rfl,rfl,hp⟩ | ⟨h1,h2,rfl,h4⟩
   ·exact⟨H2,_,true,rfl,hM2,.inr ⟨hu,⟨x,hx,htl⟩,rfl,rfl⟩⟩
   ·rw[hs2] at hu;cases hu
 ·rintro t ⟨H',f',g',rfl,hM',hP⟩
  have e1:decide (((256:Nat):Int) < 256)=false:=Ha (by omega)
  have hfin:∀ E,E.get 0= .pv (.lit 256 (C.map yi))→E.get 3= .pv (i64 C.length)→E.get 4= .own 0 C.length→E.get 6= .pv (.bool g')→E.get 7= .pv (i64 i)→E.get 8= .pv (i64 j)→
   (Ex.exit 8,(⟨E,H'⟩:St)).1.stop=true∧∃ E' H2 f' g',(Ex.exit 8,(⟨E,H'⟩:St))=(.exit 8,⟨E',H2⟩)∧sr H2 C.length f'∧qN C i j f g f' g'∧E'.get 0= .pv (.lit 256 (C.map yi))∧E'.get 3= .pv (i64 C.length)∧E'.get 4= .own 0 C.length∧E'.get 6= .pv (.bool g')∧E'.get 7= .pv (i64 i)∧E'.get 8= .pv (i64 j):=
   fun E k0 k3 k4 k6 k7 k8=>⟨rfl,E,H',f',g',rfl,hM',hP,k0,k3,k4,k6,k7,k8⟩
  have tn:((C.length:Int)).toNat=C.length:=by simp
  generalize hQ:(fun r:Ex×St=>r.1.stop=true∧_)=Q
  generalize (PV.lit 256 (C.map yi))=L at *
  simp -implicitDefEqProofs only[SX,sevalprocAttr,Xa,e1,tn,Qy]
  subst hQ
  exact hfin _ (by simp[Tr.aa]) (by simp[Tr.aa]) (by simp[Tr.aa]) (by simp[Tr.aa]) (by simp[Tr.aa]) (by simp[Tr.aa])
end
def Bn (n:Nat) (f:Nat→Nat→Bool):Nat:=((List.range n).flatMap fun i=>(List.range n).map fun j=>(i,j)).countP fun p=> !f p.1 p.2
theorem TF {α:Type} {p q:α→Bool}:∀ {l:List α},(∀ a∈l,q a=true→p a=true)→(∃ a∈l,p a=true∧q a=false)→l.countP q < l.countP p
 | [],_,⟨a,h,_⟩=>by cases h
 |b::l,h,⟨a,ha,hp,hq⟩=>by
  rw[List.countP_cons,List.countP_cons]
  have hmono:l.countP q≤l.countP p:=List.countP_mono_left fun x hx h1=>h x (by simp[hx]) h1
  rcases List.mem_cons.1 ha with rfl | ha
  ·rw[hp,hq];simp;omega
  ·have ih:=TF (l:=l) (fun x hx=>h x (by simp[hx])) ⟨a,ha,hp,hq⟩
   have hb:=h b (by simp)
   cases hqb:q b with
   |false=>simp;omega
   |true=>rw[hb hqb];simp;omega
theorem pQ {n:Nat} {f:Nat→Nat→Bool} {i j:Nat} (hi:i < n) (hj:j < n) (h:f i j=false):Bn n (Ny f i j) < Bn n f:=by
 refine TF ?_ ⟨(i,j),?_,?_,?_⟩
 ·rintro⟨a,b⟩ _ h1
  simp only[Ny,Bool.not_eq_true'] at h1 ⊢
  split at h1
  ·cases h1
  ·exact h1
 ·rw[List.mem_flatMap]
  exact⟨i,by simpa using hi,by rw[List.mem_map];exact⟨j,by simpa using hj,rfl⟩⟩
 ·simp[h]
 ·simp[Ny]
theorem dR (n:Nat) (f:Nat→Nat→Bool):Bn n f≤n * n:=by
 refine Nat.le_trans List.countP_le_length ?_
 have:∀ l:List Nat,(l.flatMap fun i=>(List.range n).map fun j=>(i,j)).length=l.length * n:=by
  intro l
  induction l with
  |nil=>simp
  |cons a l ih=>rw[List.flatMap_cons,List.length_append,ih,List.length_map,List.length_range,List.length_cons,Nat.succ_mul];omega
 rw[this,List.length_range]
 exact Nat.le_refl _
structure Yr (C:List (List Int)) (D:Nat→Nat→Prop) (f0:Nat→Nat→Bool) (done:Nat→Nat→Prop) (f:Nat→Nat→Bool) (g:Bool):Prop where
 snd:∀ a b,f a b=true→D a b
 sym:∀ a b,f a b=f b a
 Be:g=false→f=f0∧∀ i j,done i j→f i j=true∨∀ x,x < 256→Ck C f i j x=false
 le:Bn C.length f≤Bn C.length f0
 lt:g=true→Bn C.length f < Bn C.length f0
def FK (C:List (List Int)) (D:Nat→Nat→Prop):Prop:=(∀ a b,D a b→D b a)∧
 ∀ i j x (f:Nat→Nat→Bool),i < C.length→j < C.length→x < 256→(∀ a b,f a b=true→D a b)→Ck C f i j x=true→D i j
theorem Yr.step {C:List (List Int)} {D:Nat→Nat→Prop} (hD:FK C D) {f0 f f':Nat→Nat→Bool} {done:Nat→Nat→Prop} {g g':Bool} (h:Yr C D f0 done f g) {i j:Nat} (hi:i < C.length) (hj:j < C.length) (hp:qN C i j f g f' g'):
 Yr C D f0 (fun a b=>done a b∨(a=i∧b=j)) f' g':=by
 rcases hp with⟨rfl,rfl,hp⟩ | ⟨h1,⟨x,hx,h2⟩,rfl,rfl⟩
 ·refine⟨h.snd,h.sym,fun hg=>⟨(h.Be hg).1,?_⟩,h.le,h.lt⟩
  rintro a b (hd | ⟨rfl,rfl⟩)
  ·exact (h.Be hg).2 a b hd
  ·exact hp
 ·have hd:=hD.2 i j x f hi hj hx h.snd h2
  have hlt:=pQ hi hj h1
  have hle:=h.le
  refine⟨?_,?_,fun hg=>(by cases hg),by omega,fun _=>by omega⟩
  ·intro a b hab
   unfold Ny at hab
   split at hab
   ·next hc=>
    rcases hc with⟨rfl,rfl⟩ | ⟨rfl,rfl⟩
    ·exact hd
    ·exact hD.1 _ _ hd
   ·exact h.snd a b hab
  ·intro a b
   unfold Ny
   rw[h.sym a b]
   congr 1
   apply propext
   constructor
   ·rintro (⟨h1,h2⟩ | ⟨h1,h2⟩)
    ·exact .inr ⟨h2,h1⟩
    ·exact .inl ⟨h2,h1⟩
   ·rintro (⟨h1,h2⟩ | ⟨h1,h2⟩)
    ·exact .inr ⟨h2,h1⟩
    ·exact .inl ⟨h2,h1⟩
theorem Yr.weaken {C:List (List Int)} {D:Nat→Nat→Prop} {f0 f:Nat→Nat→Bool} {done done':Nat→Nat→Prop} {g:Bool} (h:Yr C D f0 done f g) (hd:∀ a b,done' a b→done a b):Yr C D f0 done' f g:=
 ⟨h.snd,h.sym,fun hg=>⟨(h.Be hg).1,fun a b hab=>(h.Be hg).2 a b (hd a b hab)⟩,h.le,h.lt⟩
end Go.AM.B1
