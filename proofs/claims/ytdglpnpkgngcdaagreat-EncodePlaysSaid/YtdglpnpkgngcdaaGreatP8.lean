/- What functions of the program compute. -/
import Derived.Test.YtdglpnpkgngcdaaGreatP7
import Derived.Test.YtdglpnpkgngcdaaGreatP5
set_option linter.unusedVariables false
set_option linter.unusedSimpArgs false
namespace Go.AM.B1
open Go.AM Go.AM.So
def Zf (f:Nat→Bool):Nat→Bool
 |0=>false
 |n+1=>Zf f n||f n
def ql (ss:List qc) (a:Al) (x j:Nat):Bool:=a.2.toNat.testBit j&&(match ss[j]? with | some s=>Tp s a.1 x | none=>false)
def Mp (ss:List qc) (a:Al) (x j:Nat):Bool:=ql ss a x j&&(match ss[j]? with | some s=>((s.parts.length:Int)==(a.1:Int)+1) | none=>false)
abbrev GK (S:PV) (nl nl3:Bool) (os es rs:List PV) (n x i:Int) (so en:Bool):Tr:=
 ((((((((((Tr.lf.set 18 (.pv (i64 i))).set 17 (.pv (.bool en))).set 16 (.pv (.bool so))).set 15 (.ptr 5 0)).set 14 (.pv (i64 x))).set 13 (.ptr 4 0)).set 12 (.pv (i64 n))).set 11 (.uq 3 nl3 256 rs)).set 10 (.uq 2 false 33 es)).set 5 (.uq 0 nl 2048 os)).set 1 (.pv (.rp [S] 0))
theorem lK (d:Int) (f:Nat→Bool) {i:Nat} (h:i < 32):(uc d f)[1+i]? =some (.bool (f i)):=by
 rw[Nat.add_comm,uc,List.getElem?_cons_succ,pH f h]
theorem RD (H:List ba) (id:Nat) (nl:Bool) {l:List Al} {i:Nat} {a:Al} (ha:l[i]? =some a):wa H 33 (.uq id nl 33 (l.map Ze)) (i:Int)=some (.pv (.rp (uc a.1 a.2.toNat.testBit) 0)):=by
 have hi:=(List.getElem?_eq_some_iff.1 ha).1
 simp only[wa]
 rw[if_pos (by refine⟨trivial,?_⟩;unfold Ga;simp;omega)]
 simp[ha,Ze,PV.cells]
theorem sP (H:List ba) (id:Nat) (nl:Bool) {ss:List qc} {i:Nat} (hi:i < ss.length):wa H 2048 (.uq id nl 2048 (sf ss)) (i:Int)=some (.pv (.rp (qy ss[i]) 0)):=by
 simp only[wa]
 rw[if_pos (by refine⟨trivial,?_⟩;unfold Ga sf;simp;omega)]
 simp[hi,sf,PV.cells]
theorem pj (H:List ba) (row:List PV) (o d:Nat):place H d (.pv (.rp row o))=some (.pv (.rp row (o+d))):=rfl
theorem tz {row:List PV} {k:Nat} {e:PV} (h:row[k]? =some e) (H:List ba):ta H false 1 (.pv (.rp row k))=some (.pv e):=by
 simp only[ta,im,Bool.false_eq_true,if_false,h,Option.map_some]
theorem vW (call:Ta) {S:PV} {ss:List qc} {es:List PV} (hS:Za S ss es) (hw:ss.length≤32) (h8:∀ s∈ss,s.parts.length≤8) {sets:List Al} {n x:Nat} {a:Al} (ha:sets[n]? =some a) (hx:x < 256)
 (Ba:∀ i s,ss[i]? =some s→a.2.toNat.testBit i=true→a.1 < s.parts.length) (hd:a.1≤64)
 (nl nl3:Bool) (rs:List PV) (o0 o1 o2 o3 o4:ba) (hc:Pa (oa 6) [o0,o1,o2,o3,o4]=some [o0,o1,o2,o3,o4]):
 Pd (fun r=>∃ E,r=(.exit 8,⟨E,[o0,o1,o2,o3,o4,Ab (uc ((a.1:Int)+1) fun j=>decide (j < ss.length)&&ql ss a x j)]⟩)∧E.get 1= .pv (.rp [S] 0)∧E.get 5= .uq 0 nl 2048 (sf ss)∧E.get 10= .uq 2 false 33 (sets.map Ze)∧E.get 11= .uq 3 nl3 256 rs∧E.get 12= .pv (i64 n)∧E.get 13= .ptr 4 0∧E.get 14= .pv (i64 x)∧E.get 15= .ptr 5 0∧
  E.get 16= .pv (.bool (Zf (ql ss a x) ss.length))∧E.get 17= .pv (.bool (Zf (Mp ss a x) ss.length)))
  (pb (ma (qa call yd) (na 6 [1,5,10,11,12,13,14,15,16,17,18])) pa ⟨GK S nl nl3 (sf ss) (sets.map Ze) rs n x 0 false false,[o0,o1,o2,o3,o4,Ab (uc ((a.1:Int)+1) fun _=>false)]⟩):=by
 have ln:=hS.Tb
 have a0:(uc ((a.1:Int)+1) fun _=>false)=uc ((a.1:Int)+1) fun j=>decide (j < 0)&&ql ss a x j:=by simp
 rw[a0]
 refine ya (Mb (g:=ma (qa call yd) (na 6 [1,5,10,11,12,13,14,15,16,17,18]))
  (fun i t=>t=⟨GK S nl nl3 (sf ss) (sets.map Ze) rs n x i (Zf (ql ss a x) i) (Zf (Mp ss a x) i),[o0,o1,o2,o3,o4,Ab (uc ((a.1:Int)+1) fun j=>decide (j < i)&&ql ss a x j)]⟩)
  ss.length (by unfold pa;omega) _ rfl ?_ ?_) (fun r h=>h.2)
 ·rintro i t hi rfl
  obtain⟨P,ps,hP,b0⟩:=hS.Sd hi
  have lP:=hP.parts.Tb
  have hsi:ss[i]? =some ss[i]:=List.getElem?_eq_getElem hi
  have hdep:=Ba i _ hsi
  have h8i:=h8 _ (List.getElem_mem hi)
  have i1:=fun H=>RD H 2 false ha
  have i2:=fun H=>sP H 0 nl hi
  have l1:=tz (lK (a.1:Int) a.2.toNat.testBit (i:=i) (by omega))
  have l0:=tz (show (uc (a.1:Int) a.2.toNat.testBit)[0]? =some (i64 a.1) from rfl)
  have l2:a.1 < ss[i].parts.length→∀ H,ta H false 1 (.pv (.rp (qy ss[i]) (a.1 * 256+x)))=some (.pv (.bool (Tp ss[i] a.1 x))):=by
   intro hlt
   refine tz ?_
   rw[qy,vz _ (by omega),bn,show (a.1 * 256+x) / 256=a.1 by omega,show (a.1 * 256+x) % 256=x by omega,decide_eq_true (show a.1 < 8 by omega),Bool.true_and]
  have onE:ql ss a x i=(a.2.toNat.testBit i&&Tp ss[i] a.1 x):=by rw[ql,hsi]
  have enE:Mp ss a x i=(ql ss a x i&&((ss[i].parts.length:Int)==(a.1:Int)+1)):=by rw[Mp,hsi]
  have p1:=Di (A:=[o0,o1,o2,o3,o4,Ab (uc ((a.1:Int)+1) fun j=>decide (j < i)&&ql ss a x j)]) (id:=5) (es:=uc ((a.1:Int)+1) fun j=>decide (j < i)&&ql ss a x j) rfl 0 1
  have p2:=Di (A:=[o0,o1,o2,o3,o4,Ab (uc ((a.1:Int)+1) fun j=>decide (j < i)&&ql ss a x j)]) (id:=5) (es:=uc ((a.1:Int)+1) fun j=>decide (j < i)&&ql ss a x j) rfl 1 i
  rw[Nat.zero_add] at p1
  have st:=Ww (A:=[o0,o1,o2,o3,o4,Ab (uc ((a.1:Int)+1) fun j=>decide (j < i)&&ql ss a x j)]) (id:=5) (es:=uc ((a.1:Int)+1) fun j=>decide (j < i)&&ql ss a x j) rfl (k:=1+i) (by rw[Kg];omega) (e:= .bool (ql ss a x i)) rfl rfl
  have hnew:(uc ((a.1:Int)+1) fun j=>decide (j < i)&&ql ss a x j).set (1+i) (.bool (ql ss a x i))=uc ((a.1:Int)+1) fun j=>decide (j < i+1)&&ql ss a x j:=by
   rw[Nat.add_comm 1 i]
   unfold uc
   rw[List.set_cons_succ,RN _ (by omega)]
   congr 1
   refine Jt fun j hj=> ?_
   by_cases h:j=i
   ·subst h;simp
   ·rw[if_neg h]
    congr 1
    rw[decide_eq_decide];omega
  rw[hnew] at st
  have st2:([o0,o1,o2,o3,o4,Ab (uc ((a.1:Int)+1) fun j=>decide (j < i)&&ql ss a x j)]:List ba).set 5 (Ab (uc ((a.1:Int)+1) fun j=>decide (j < i+1)&&ql ss a x j))=[o0,o1,o2,o3,o4,Ab (uc ((a.1:Int)+1) fun j=>decide (j < i+1)&&ql ss a x j)]:=rfl
  rw[st2] at st
  have q1:=Di (A:=[o0,o1,o2,o3,o4,Ab (uc ((a.1:Int)+1) fun j=>decide (j < i+1)&&ql ss a x j)]) (id:=5) (es:=uc ((a.1:Int)+1) fun j=>decide (j < i+1)&&ql ss a x j) rfl 0 1
  have q0:=Di (A:=[o0,o1,o2,o3,o4,Ab (uc ((a.1:Int)+1) fun j=>decide (j < i+1)&&ql ss a x j)]) (id:=5) (es:=uc ((a.1:Int)+1) fun j=>decide (j < i+1)&&ql ss a x j) rfl 0 0
  have q2:=Di (A:=[o0,o1,o2,o3,o4,Ab (uc ((a.1:Int)+1) fun j=>decide (j < i+1)&&ql ss a x j)]) (id:=5) (es:=uc ((a.1:Int)+1) fun j=>decide (j < i+1)&&ql ss a x j) rfl 1 i
  rw[Nat.zero_add] at q1 q0
  have k1:=yw (A:=[o0,o1,o2,o3,o4,Ab (uc ((a.1:Int)+1) fun j=>decide (j < i+1)&&ql ss a x j)]) (id:=5) (es:=uc ((a.1:Int)+1) fun j=>decide (j < i+1)&&ql ss a x j) rfl (lK _ _ (i:=i) (by omega))
  have k0:=yw (A:=[o0,o1,o2,o3,o4,Ab (uc ((a.1:Int)+1) fun j=>decide (j < i+1)&&ql ss a x j)]) (id:=5) (es:=uc ((a.1:Int)+1) fun j=>decide (j < i+1)&&ql ss a x j) rfl (k:=0) (e:=i64 ((a.1:Int)+1)) rfl
  rw[decide_eq_true (Nat.lt_succ_self i),Bool.true_and] at k1
  have c5:=Sg (uc ((a.1:Int)+1) fun j=>decide (j < i+1)&&ql ss a x j) 6
  have e1:decide ((i:Int) < (ss.length:Int))=true:=Fa (by omega)
  have t2:=eb hi (show ss.length≤maxLen by unfold maxLen;omega)
  have hq:Ga (i:Int) 32:=by unfold Ga;omega
  have hqx:Ga (x:Int) 256:=by unfold Ga;omega
  have t1:∀ i:Nat,((i:Int)).toNat=i:=fun i=>by simp
  have m1:∀ i:Nat,i * 1=i:=fun i=>by omega
  have z1:∀ i:Nat,0+i=i:=fun i=>by omega
  have hLN:∀ st:St,st=⟨GK S nl nl3 (sf ss) (sets.map Ze) rs n x (i+1:Nat) (Zf (ql ss a x) i||ql ss a x i) (Zf (Mp ss a x) i||Mp ss a x i),[o0,o1,o2,o3,o4,Ab (uc ((a.1:Int)+1) fun j=>decide (j < i+1)&&ql ss a x j)]⟩→
   LN (fun i t=>t=⟨GK S nl nl3 (sf ss) (sets.map Ze) rs n x i (Zf (ql ss a x) i) (Zf (Mp ss a x) i),[o0,o1,o2,o3,o4,Ab (uc ((a.1:Int)+1) fun j=>decide (j < i)&&ql ss a x j)]⟩)
   (fun r=>∃ E,r=(.exit 8,⟨E,[o0,o1,o2,o3,o4,Ab (uc ((a.1:Int)+1) fun j=>decide (j < ss.length)&&ql ss a x j)]⟩)∧E.get 1= .pv (.rp [S] 0)∧E.get 5= .uq 0 nl 2048 (sf ss)∧E.get 10= .uq 2 false 33 (sets.map Ze)∧E.get 11= .uq 3 nl3 256 rs∧E.get 12= .pv (i64 n)∧E.get 13= .ptr 4 0∧E.get 14= .pv (i64 x)∧E.get 15= .ptr 5 0∧
    E.get 16= .pv (.bool (Zf (ql ss a x) ss.length))∧E.get 17= .pv (.bool (Zf (Mp ss a x) ss.length))) i (.norm,st):=fun st h=>h
  generalize LN _ _ i=QQ at hLN ⊢
  generalize (uc ((a.1:Int)+1) fun j=>decide (j < i)&&ql ss a x j)=Y at *
  generalize (uc ((a.1:Int)+1) fun j=>decide (j < i+1)&&ql ss a x j)=Y' at *
  generalize uc (a.1:Int) a.2.toNat.testBit=row at *
  generalize Ab Y=oY at *
  generalize Ab Y'=oY' at *
  have hcl:Pa (oa 6) [o0,o1,o2,o3,o4,oY']=some [o0,o1,o2,o3,o4,oY']:=by
   simp only[Pa,Option.bind_eq_some_iff,Option.map_eq_some_iff] at hc
   simp only[Pa]
   obtain⟨_,h0,_,⟨_,h1,_,⟨_,h2,_,⟨_,h3,_,⟨_,h4,_⟩,_⟩,_⟩,_⟩,hh⟩:=hc
   simp_all
  have htk:∀ a b c d e f:ba,([a,b,c,d,e,f]:List ba).take 6=[a,b,c,d,e,f]:=fun a b c d e f=>rfl
  have d0:(0 < 6)=True:=by simp
  have d2:(2 < 6)=True:=by simp
  have d3:(3 < 6)=True:=by simp
  have d4:(4 < 6)=True:=by simp
  have d5:(5 < 6)=True:=by simp
  generalize qy ss[i]=hrow at *
  generalize ss[i]=s at *
  generalize sf ss=os at *
  generalize sets.map Ze=se at *
  generalize Zf (ql ss a x) i=so at *
  generalize Zf (Mp ss a x) i=en at *
  generalize hle:((s.parts.length:Int)==(a.1:Int)+1)=le at *
  rw[enE] at hLN
  rw[onE] at st k1 hLN
  generalize hbb:a.2.toNat.testBit i=bb at *
  generalize Tp s a.1 x=mm at *
  have hm6:(10≤20)=True:=by simp
  cases bb with
  |false=>
   simp only[Bool.false_and,Bool.or_false] at st k1 hLN
   cases so <;> cases en <;>
   ·simp -implicitDefEqProofs only[SX,sevalprocAttr,yd,Kb,Sa,pj,ln,e1,t2,i1,i2,l0,l1,eq_true hq,eq_true hqx,t1,m1,z1,p1,p2,st,q0,q1,q2,k0,k1,hcl,htk,d0,d2,d3,d4,d5,na,za,AV.cut,ua,GK]
    exact hLN _ rfl
  |true=>
   have l2':=l2 (hdep rfl)
   have hqd:Ga (a.1:Int) 8:=by have:=hdep rfl;unfold Ga;omega
   simp only[Bool.true_and] at st k1 hLN
   cases mm with
   |false=>
    simp only[Bool.false_and,Bool.or_false] at hLN
    cases so <;> cases en <;>
    ·simp -implicitDefEqProofs only[SX,sevalprocAttr,yd,Kb,Sa,pj,ln,e1,t2,i1,i2,l0,l1,l2',eq_true hq,eq_true hqx,eq_true hqd,t1,m1,z1,p1,p2,st,q0,q1,q2,k0,k1,hcl,htk,d0,d2,d3,d4,d5,na,za,AV.cut,ua,GK]
     exact hLN _ rfl
   |true=>
    simp only[Bool.true_and,Bool.or_true] at hLN
    cases so <;> cases en <;>
    ·simp -implicitDefEqProofs only[SX,sevalprocAttr,yd,Kb,Sa,Pb,wc,pj,ln,lP,b0,e1,t2,i1,i2,l0,l1,l2',eq_true hq,eq_true hqx,eq_true hqd,t1,m1,z1,p1,p2,st,q0,q1,q2,k0,k1,hle,hcl,htk,d0,d2,d3,d4,d5,na,za,AV.cut,ua,GK]
     exact hLN _ rfl
 ·rintro t rfl
  have e1:decide ((ss.length:Int) < (ss.length:Int))=false:=Ha (by omega)
  generalize Ab (uc ((a.1:Int)+1) fun j=>decide (j < ss.length)&&ql ss a x j)=oF
  generalize sf ss=os
  generalize sets.map Ze=se
  generalize Zf (ql ss a x) ss.length=so
  generalize Zf (Mp ss a x) ss.length=en
  generalize hQ:(fun r:Ex×St=>r.1.stop=true∧_)=Q
  simp -implicitDefEqProofs only[SX,sevalprocAttr,yd,Kb,Sa,ln,e1,GK]
  subst hQ
  exact⟨rfl,_,rfl,by simp[Tr.aa],by simp[Tr.aa],by simp[Tr.aa],by simp[Tr.aa],by simp[Tr.aa],by simp[Tr.aa],by simp[Tr.aa],by simp[Tr.aa],by simp[Tr.aa],by simp[Tr.aa]⟩
end Go.AM.B1
namespace Go.AM.B1
open Go.AM Go.AM.So
theorem IG {x:Int}:∀ {l:List (Int×Int)} {last n:Int},Na 255 last l=true→((kg x n l).2=true↔Lj x l)
 | [],last,n,h=>by simp[kg,Mm]
 |p::l,last,n,h=>by
  have hp:=Rm h p (by simp)
  have h2:=h
  simp only[Na,Bool.and_eq_true] at h2
  rw[kg,Zl]
  by_cases h1:x < p.1
  ·rw[if_pos h1]
   simp only[Bool.false_eq_true,false_iff]
   rintro (h3 | h3)
   ·omega
   ·have:=Fl h2.2 h3;omega
  ·rw[if_neg h1]
   by_cases h3:x≤p.2
   ·rw[if_pos h3];simp;omega
   ·rw[if_neg h3,IG h2.2]
    constructor
    ·exact .inr
    ·rintro (h4 | h4)
     ·omega
     ·exact h4
theorem DO (l:List (Int×Int)) (x:Nat):PQ l x=Fh l x:=by
 unfold PQ Ey Fh
 by_cases h:Na 255 (-2) l=true
 ·rw[if_pos h,h,Bool.true_and,Bool.eq_iff_iff,IG h,Wq]
 ·rw[if_neg h]
  have:Na 255 (-2) l=false:=by simpa using h
  rw[this];rfl
theorem aw (s:qc) (d x:Nat):eu s d x=Tp s d x:=by
 unfold eu Tp
 cases s.parts[d]? with
 |none=>rfl
 |some l=>exact DO l x
theorem Qt (f:Nat→Bool):∀ n,Zf f n=true↔∃ j,j < n∧f j=true
 |0=>by simp[Zf]
 |n+1=>by
  rw[Zf,Bool.or_eq_true,Qt f n]
  constructor
  ·rintro (⟨j,h1,h2⟩ | h)
   ·exact⟨j,by omega,h2⟩
   ·exact⟨n,by omega,h⟩
  ·rintro⟨j,h1,h2⟩
   by_cases h:j=n
   ·subst h;exact .inr h2
   ·exact .inl ⟨j,by omega,h2⟩
theorem YN {ss:List qc} {a:Al} {x j:Nat} (h:ss.length≤j):ql ss a x j=false:=by
 rw[ql,List.getElem?_eq_none h,Bool.and_false]
structure lC (ss:List qc) (a:Al) (x:Nat) (m:Nat):Prop where
 fst:(vh x a.2 a.1 0 ss (0,false)).1=(m:Int)
 lt:m < 4294967296
 bit:∀ j,m.testBit j=ql ss a x j
 ends:(vh x a.2 a.1 0 ss (0,false)).2=Zf (Mp ss a x) ss.length
 ex:m≠0↔Zf (ql ss a x) ss.length=true
theorem zR {ss:List qc} {a:Al} (hb:tU a) (hw:ss.length≤32) (x:Nat):∃ m,lC ss a x m:=by
 obtain⟨d,_⟩:=a
 obtain⟨b,rfl,hb⟩:=hb
 have hN:vh x (b:Int) d 0 ss (0,false)=(((Ws x b d 0 ss (0,false)).1:Int),(Ws x b d 0 ss (0,false)).2):=tM (x:=x) (d:=d) hb ss 0 (0,false) (by omega) (by decide)
 have hbit:∀ j,(Ws x b d 0 ss (0,false)).1.testBit j=ql ss (d,(b:Int)) x j:=by
  intro j
  rw[YA]
  simp only[Nat.zero_testBit,Nat.zero_le,decide_true,Bool.true_and,Bool.false_or,Nat.sub_zero,ql,Int.toNat_natCast]
  cases ss[j]? with
  |none=>simp
  |some s=>simp only[aw]
 refine⟨(Ws x b d 0 ss (0,false)).1,?_,EH ss 0 (0,false) (by omega) (by decide),hbit,?_,?_⟩
 ·show (vh x (b:Int) d 0 ss (0,false)).1=_
  rw[hN]
 ·show (vh x (b:Int) d 0 ss (0,false)).2=_
  rw[hN]
  show (Ws x b d 0 ss (0,false)).2=_
  rw[KA,Bool.false_or,Bool.eq_iff_iff,List.any_eq_true,Qt]
  constructor
  ·rintro⟨⟨s,j⟩,h1,h2⟩
   rw[List.mk_mem_zipIdx_iff_getElem?] at h1
   have hj:=(List.getElem?_eq_some_iff.1 h1).1
   refine⟨j,hj,?_⟩
   simp only[aw,Bool.and_eq_true,beq_iff_eq] at h2
   rw[Mp,ql,h1]
   simp only[Int.toNat_natCast,Bool.and_eq_true,beq_iff_eq]
   exact⟨h2.1,by omega⟩
  ·rintro⟨j,hj,h2⟩
   have h1:ss[j]? =some ss[j]:=List.getElem?_eq_getElem hj
   rw[Mp,ql,h1] at h2
   simp only[Int.toNat_natCast,Bool.and_eq_true,beq_iff_eq] at h2
   refine⟨(ss[j],j),by rw[List.mk_mem_zipIdx_iff_getElem?];exact h1,?_⟩
   simp only[aw,Bool.and_eq_true,beq_iff_eq]
   exact⟨h2.1,by omega⟩
 ·rw[Qt]
  constructor
  ·intro h
   apply Decidable.byContradiction
   intro hn
   apply h
   apply Nat.eq_of_testBit_eq
   intro j
   rw[hbit,Nat.zero_testBit]
   by_cases hj:j < ss.length
   ·cases hc:ql ss (d,(b:Int)) x j with
    |false=>rfl
    |true=>exact absurd ⟨j,hj,hc⟩ hn
   ·exact YN (by omega)
  ·rintro⟨j,hj,h⟩ h0
   rw[← hbit,h0,Nat.zero_testBit] at h
   cases h
theorem lC.enc {ss:List qc} {a:Al} {x m:Nat} (h:lC ss a x m):uc ((a.1:Int)+1) (fun j=>decide (j < ss.length)&&ql ss a x j)=uc ((a.1+1:Nat):Int) m.testBit:=by
 have:((a.1+1:Nat):Int)=(a.1:Int)+1:=by omega
 rw[this]
 unfold uc
 congr 1
 refine Jt fun j hj=> ?_
 rw[h.bit]
 by_cases hj:j < ss.length
 ·rw[decide_eq_true hj,Bool.true_and]
 ·rw[decide_eq_false hj,Bool.false_and,YN (by omega)]
theorem lC.OY {ss:List qc} {a:Al} {x m:Nat} (h:lC ss a x m):tU (a.1+1,(m:Int)):=⟨m,rfl,h.lt⟩
theorem lC.step {ss:List qc} {a:Al} {x m:Nat} (h:lC ss a x m) (sets:List Al):
 Qg ss a x sets=if Zf (ql ss a x) ss.length=false then some (sets,-2)
  else if Zf (Mp ss a x) ss.length=true then some (sets,-1)
  else match Nl (a.1+1,(m:Int)) sets 0 with
   |some k=>some (sets,(k:Int))
   |none=>if sets.length < 64 then some (sets++[(a.1+1,(m:Int))],(sets.length:Int)) else none:=by
 unfold Qg
 rw[h.ends,h.fst]
 have:((m:Int)=0)=(Zf (ql ss a x) ss.length=false):=by
  apply propext
  have:=h.ex
  cases hc:Zf (ql ss a x) ss.length with
  |true=>rw[hc] at this;simp;have:=this.2 rfl;omega
  |false=>
   rw[hc] at this
   simp
   exact Decidable.byContradiction fun hn=>by have:=this.1 hn;cases this
 by_cases h1:Zf (ql ss a x) ss.length=false
 ·rw[if_pos h1,if_pos (this.mpr h1)]
 ·rw[if_neg h1,if_neg (fun h=>h1 (this.mp h))]
  by_cases h2:Zf (Mp ss a x) ss.length=true
  ·rw[if_pos h2,if_pos h2]
  ·rw[if_neg h2,if_neg h2]
   cases Nl (a.1+1,(m:Int)) sets 0 <;> rfl
end Go.AM.B1
namespace Go.AM.B1
open Go.AM Go.AM.So
abbrev II (S:PV) (nl nl3:Bool) (os es rs:List PV) (n x:Int):Tr:=
 ((((((Tr.lf.set 14 (.pv (i64 x))).set 13 (.ptr 4 0)).set 12 (.pv (i64 n))).set 11 (.uq 3 nl3 256 rs)).set 10 (.uq 2 false 33 es)).set 5 (.uq 0 nl 2048 os)).set 1 (.pv (.rp [S] 0))
theorem bS:([PV.int .i64 0,PV.bool false,PV.bool false,PV.bool false,PV.bool false,PV.bool false,PV.bool false,PV.bool false,PV.bool false,PV.bool false,PV.bool false,PV.bool false,PV.bool false,PV.bool false,PV.bool false,PV.bool false,PV.bool false,PV.bool false,PV.bool false,PV.bool false,PV.bool false,PV.bool false,PV.bool false,PV.bool false,PV.bool false,PV.bool false,PV.bool false,PV.bool false,PV.bool false,PV.bool false,PV.bool false,PV.bool false,PV.bool false]:List PV)=uc 0 fun _=>false:=rfl
theorem xR (d e:Int) (f:Nat→Bool):((uc d f).map AV.pv).set 0 (.pv (i64 e))=(uc e f).map AV.pv:=rfl
theorem wI {es:List PV} (h:∀ e∈es,(AV.pv e).one=true):(es.map AV.pv).all AV.one=true:=by
 rw[List.all_eq_true];intro v hv
 obtain⟨e,he,rfl⟩:=List.mem_map.1 hv
 exact h e he
theorem Uu {es zs:List PV} (h:es.length=zs.length):ga (zs.map AV.pv++[]) 0 (es.map AV.pv)=es.map AV.pv:=by
 have:=Zu (es.map AV.pv) (zs.map AV.pv) [] (by simp;omega)
 rw[List.append_nil]
 simpa using this
section
variable (call:Ta) {S:PV} {ss:List qc} {es:List PV} (hS:Za S ss es) (hw:ss.length≤32) (h8:∀ s∈ss,s.parts.length≤8) {sets:List Al} {n x:Nat} {a:Al} (ha:sets[n]? =some a) (hx:x < 256)
 (Ba:sm ss sets) (hd:a.1≤64)
 (nl nl3:Bool) (rs:List PV) (o0 o1 o3:ba) (h0:∀ n,oa n o0=some o0) (h1:∀ n,oa n o1=some o1) (h3:∀ n,oa n o3=some o3) {row:List Int} (hrow:row.length=256)
include hS hw h8 ha hx Ba hd h0 h1 h3 hrow
set_option maxRecDepth 8000 in
theorem NF:
 Pd (fun r=>(∃ p,Qg ss a x sets=some p∧r=(.norm,⟨II S nl nl3 (sf ss) (p.1.map Ze) rs n (x+1:Nat),[o0,o1,.tok 33 p.1.length false,o3,Ab ((row.set x p.2).map i64)]⟩))∨
  (Qg ss a x sets=none∧∃ E H,r=(.ret,⟨E,H⟩)∧E.get 2= .pv .fa∧E.get 3= .pv .fa∧E.get 4= .pv (.bool false)))
  (ma (qa call ve) (na 5 [1,5,10,11,12,13,14]) ⟨II S nl nl3 (sf ss) (sets.map Ze) rs n x,[o0,o1,.tok 33 sets.length false,o3,Ab (row.map i64)]⟩):=by
 obtain⟨_,b,hb,hblt,hbok⟩:=Ba.2 n a ha
 have hba:tU a:=⟨b,hb,hblt⟩
 have hall:∀ c∈sets,tU c:=by
  intro c hc
  obtain⟨k,hk,rfl⟩:=List.getElem_of_mem hc
  obtain⟨_,b,hb,hblt,_⟩:=Ba.2 k _ (List.getElem?_eq_getElem hk)
  exact⟨b,hb,hblt⟩
 have hl64:=Ba.1
 obtain⟨m,hm⟩:=zR (x:=x) hba hw
 have hstep:=hm.step sets
 have hcR:∀ n (r:List Int),oa n (Ab (r.map i64))=some (Ab (r.map i64)):=fun n r=>Sg _ n
 have c2:∀ k n,oa k (.tok 33 n false)=some (.tok 33 n false):=fun k n=>rfl
 have hc6:Pa (oa 6) [o0,o1,.tok 33 sets.length false,o3,Ab (row.map i64)]=some [o0,o1,.tok 33 sets.length false,o3,Ab (row.map i64)]:=by
  simp only[Pa,h0,h1,h3,c2,hcR,Option.bind_some,Option.map_some]
 have hl4:=vW call hS hw h8 ha hx (fun i s hs ht=>hbok i s hs (by rw[hb] at ht;simpa using ht)) hd nl nl3 rs o0 o1 (.tok 33 sets.length false) o3 (Ab (row.map i64)) hc6
 rw[hm.enc] at hl4
 have i1:=fun H=>RD H 2 false ha
 have l0:=tz (show (uc (a.1:Int) a.2.toNat.testBit)[0]? =some (i64 a.1) from rfl)
 have e1:decide ((x:Int) < 256)=true:=Fa (by omega)
 have t2:IntKind.i64.wrap ((x:Int)+1)=((x+1:Nat):Int):=Aa (by omega)
 have t3:IntKind.i64.wrap ((a.1:Int)+1)=(a.1:Int)+1:=Aa (by omega)
 have hq:Ga (x:Int) 256:=by unfold Ga;omega
 have t1:∀ i:Nat,((i:Int)).toNat=i:=fun i=>by simp
 have m1:∀ i:Nat,i * 1=i:=fun i=>by omega
 have z1:∀ i:Nat,0+i=i:=fun i=>by omega
 have zl:=Kg 0 fun _=>false
 have f1:(0+1≤((uc 0 fun _=>false).map AV.pv).length)=True:=eq_true (by rw[List.length_map,zl];omega)
 have f1':(1≤((uc 0 fun _=>false).map AV.pv).length)=True:=eq_true (by rw[List.length_map,zl];omega)
 have f2:=xR 0 ((a.1:Int)+1) fun _=>false
 have f3:=Ef (uc ((a.1:Int)+1) fun _=>false)
 have st0:Ea [o0,o1,.tok 33 sets.length false,o3,Ab (row.map i64),Ab (uc 0 fun _=>false)] 33 (.ptr 5 0) (.pv (.agg (uc ((a.1:Int)+1) fun _=>false)))=some [o0,o1,.tok 33 sets.length false,o3,Ab (row.map i64),Ab (uc ((a.1:Int)+1) fun _=>false)]:=
  Lm (id:=5) rfl zl (Kg _ _) (dw _ _)
 have hcl6:∀ Y:List PV,Pa (oa 6) [o0,o1,.tok 33 sets.length false,o3,Ab (row.map i64),Ab Y]=some [o0,o1,.tok 33 sets.length false,o3,Ab (row.map i64),Ab Y]:=by
  intro Y
  simp only[Pa,h0,h1,h3,c2,hcR,Sg Y 6,Option.bind_some,Option.map_some]
 have hcl60:=hcl6 (uc ((a.1:Int)+1) fun _=>false)
 have hcl5:∀ (k:Nat) (r:List Int),Pa (oa 5) [o0,o1,.tok 33 k false,o3,Ab (r.map i64)]=some [o0,o1,.tok 33 k false,o3,Ab (r.map i64)]:=by
  intro k r
  simp only[Pa,h0,h1,h3,c2,hcR,Option.bind_some,Option.map_some]
 have htk6:∀ a b c d e f:ba,([a,b,c,d,e,f]:List ba).take 6=[a,b,c,d,e,f]:=fun a b c d e f=>rfl
 have htk5:∀ a b c d e f:ba,([a,b,c,d,e,f]:List ba).take 5=[a,b,c,d,e]:=fun a b c d e f=>rfl
 have d6:∀ k:Fin 6,((k:Nat) < 6)=True:=by intro k;simp
 have d60:(0 < 6)=True:=by simp
 have d62:(2 < 6)=True:=by simp
 have d63:(3 < 6)=True:=by simp
 have d64:(4 < 6)=True:=by simp
 have d65:(5 < 6)=True:=by simp
 have d50:(0 < 5)=True:=by simp
 have d52:(2 < 5)=True:=by simp
 have d53:(3 < 5)=True:=by simp
 have d54:(4 < 5)=True:=by simp
 have pl:∀ (k:Nat) (r:List Int) (Y:List PV),place [o0,o1,.tok 33 k false,o3,Ab (r.map i64),Ab Y] x (.ptr 4 0)=some (.ptr 4 x):=by
  intro k r Y
  have:=Di (A:=[o0,o1,.tok 33 k false,o3,Ab (r.map i64),Ab Y]) (id:=4) (es:=r.map i64) rfl 0 x
  rw[this,Nat.zero_add]
 have st:∀ (k:Nat) (r:List Int) (Y:List PV) (v:Int),r.length=256→Ea [o0,o1,.tok 33 k false,o3,Ab (r.map i64),Ab Y] 1 (.ptr 4 x) (.pv (i64 v))=some [o0,o1,.tok 33 k false,o3,Ab ((r.set x v).map i64),Ab Y]:=by
  intro k r Y v hr
  have:=Ww (A:=[o0,o1,.tok 33 k false,o3,Ab (r.map i64),Ab Y]) (id:=4) (es:=r.map i64) rfl (k:=x) (by rw[List.length_map];omega) (e:=i64 v) rfl rfl
  rw[this,List.map_set];rfl
 have hset:∀ v,((row.set x (-2)).set x v)=row.set x v:=fun v=>by rw[List.set_set]
 have st1:=st sets.length row (uc ((a.1+1:Nat):Int) m.testBit) (-2) hrow
 have st2:=fun (k:Nat) v=>st k (row.set x (-2)) (uc ((a.1+1:Nat):Int) m.testBit) v (by simp[hrow])
 simp only[hset] at st2
 have pl1:=pl sets.length row (uc ((a.1+1:Nat):Int) m.testBit)
 have pl2:=fun k=>pl k (row.set x (-2)) (uc ((a.1+1:Nat):Int) m.testBit)
 have hfd:=QT hl64 hm.OY hall
 have hldY:∀ (k:Nat) (r:List Int),ta [o0,o1,.tok 33 k false,o3,Ab (r.map i64),Ab (uc ((a.1+1:Nat):Int) m.testBit)] true 33 (.ptr 5 0)=some (.pv (.agg (uc ((a.1+1:Nat):Int) m.testBit))):=fun k r=>Rl (id:=5) rfl (Kg _ _)
 have hYl:((uc ((a.1+1:Nat):Int) m.testBit).map AV.pv).length=33:=by rw[List.length_map,Kg]
 have hYl':=Kg ((a.1+1:Nat):Int) m.testBit
 have hYr:ga ((uc 0 fun _=>false).map AV.pv++[]) 0 ((uc ((a.1+1:Nat):Int) m.testBit).map AV.pv)=(uc ((a.1+1:Nat):Int) m.testBit).map AV.pv:=Uu (by rw[Kg,Kg])
 have hYa:=wI (dw ((a.1+1:Nat):Int) m.testBit)
 have hYp:=Ef (uc ((a.1+1:Nat):Int) m.testBit)
 have hYt:(uc ((a.1+1:Nat):Int) m.testBit).take 33=uc ((a.1+1:Nat):Int) m.testBit:=List.take_of_length_le (by rw[Kg];exact Nat.le_refl _)
 have f4:(33≤((uc 0 fun _=>false).map AV.pv++[]).length)=True:=eq_true (by rw[List.append_nil,List.length_map,zl];exact Nat.le_refl _)
 have hap:sets.length < 64→Gb [o0,o1,.tok 33 sets.length false,o3,Ab ((row.set x (-2)).map i64),Ab (uc ((a.1+1:Nat):Int) m.testBit)] false .uq 33 true 40 (.uq 2 false 33 (sets.map Ze)) (.pv (.lit 33 [.agg (uc ((a.1+1:Nat):Int) m.testBit)]))=
  some (.uq 2 false 33 ((sets++[(a.1+1,(m:Int))]).map Ze),[o0,o1,.tok 33 (sets.length+1) false,o3,Ab ((row.set x (-2)).map i64),Ab (uc ((a.1+1:Nat):Int) m.testBit)]):=by
  intro hlt
  have:=Lg (A:=[o0,o1,.tok 33 sets.length false,o3,Ab ((row.set x (-2)).map i64),Ab (uc ((a.1+1:Nat):Int) m.testBit)]) (id:=2) (n:=sets.length) (sz:=33) (h:= .uq) (nl:=false) (ag:=true) (bytes:=40) (es:=sets.map Ze) rfl (by rw[List.length_map]) (by unfold ab;omega) (.agg (uc ((a.1+1:Nat):Int) m.testBit))
  rw[this,List.map_append];rfl
 have hen:Ze (a.1+1,(m:Int))= .agg (uc ((a.1+1:Nat):Int) m.testBit):=by simp[Ze]
 rw[hen] at hfd
 have lsn:Tb [] 0 (.uq 2 false 33 (sets.map Ze))=some sets.length:=by simp[Tb]
 have hslen:(sets.map Ze).length=sets.length:=List.length_map _
 have hR1:∀ p,Qg ss a x sets=some p→∀ st:St,st=⟨II S nl nl3 (sf ss) (p.1.map Ze) rs n (x+1:Nat),[o0,o1,.tok 33 p.1.length false,o3,Ab ((row.set x p.2).map i64)]⟩→(∃ p,Qg ss a x sets=some p∧(Ex.norm,st)=(Ex.norm,⟨II S nl nl3 (sf ss) (p.1.map Ze) rs n (x+1:Nat),[o0,o1,.tok 33 p.1.length false,o3,Ab ((row.set x p.2).map i64)]⟩))∨
  (Qg ss a x sets=none∧∃ E H,(Ex.norm,st)=(.ret,⟨E,H⟩)∧E.get 2= .pv .fa∧E.get 3= .pv .fa∧E.get 4= .pv (.bool false)):=fun p hp st h=> .inl ⟨p,hp,by rw[h]⟩
 have hR2:Qg ss a x sets=none→∀ E H,E.get 2= .pv .fa→E.get 3= .pv .fa→E.get 4= .pv (.bool false)→(∃ p,Qg ss a x sets=some p∧(Ex.ret,(⟨E,H⟩:St))=(Ex.norm,⟨II S nl nl3 (sf ss) (p.1.map Ze) rs n (x+1:Nat),[o0,o1,.tok 33 p.1.length false,o3,Ab ((row.set x p.2).map i64)]⟩))∨
  (Qg ss a x sets=none∧∃ E' H',(Ex.ret,(⟨E,H⟩:St))=(.ret,⟨E',H'⟩)∧E'.get 2= .pv .fa∧E'.get 3= .pv .fa∧E'.get 4= .pv (.bool false)):=fun hp E H g2 g3 g4=> .inr ⟨hp,E,H,rfl,g2,g3,g4⟩
 generalize hQQ:(fun r:Ex×St=>_)=QQ
 have hz:=bS
 generalize hzs:(uc 0 fun _=>false)=zs at *
 generalize hys:(uc ((a.1:Int)+1) fun _=>false)=ys at *
 generalize hYY:uc ((a.1+1:Nat):Int) m.testBit=Y at *
 generalize uc (a.1:Int) a.2.toNat.testBit=arow at *
 generalize hRR:Ab (row.map i64)=R at *
 simp -implicitDefEqProofs only[SP,WP,ga,sevalprocAttr,ve,Fb,pj,e1,t3,i1,l0,hz,f1,f1',f2,f3,st0,hcl60,htk6,d60,d62,d63,d64,d65,na,za,AV.cut,ua,II]
 refine ya hl4 ?_
 rintro r ⟨E,rfl,g1,g5,g10,g11,g12,g13,g14,g15,g16,g17⟩
 cases hso:Zf (ql ss a x) ss.length with
 |false=>
  rw[hso] at g16
  rw[if_pos hso] at hstep
  cases hen2:Zf (Mp ss a x) ss.length <;>
  ·rw[hen2] at g17
   simp -implicitDefEqProofs only[SP,WP,ga,sevalprocAttr,g1,g5,g10,g11,g12,g13,g14,g15,g16,g17,eq_true hq,t1,m1,t2,pl1,st1,hcl5,htk5,d50,d52,d53,d54,na,za,AV.cut,ua]
   subst hQQ
   exact hR1 _ hstep _ rfl
 |true=>
  rw[hso] at g16
  rw[if_neg (by rw[hso];simp)] at hstep
  cases hen2:Zf (Mp ss a x) ss.length with
  |true=>
   rw[hen2] at g17
   rw[if_pos hen2] at hstep
   simp -implicitDefEqProofs only[SP,WP,ga,sevalprocAttr,g1,g5,g10,g11,g12,g13,g14,g15,g16,g17,eq_true hq,t1,m1,t2,pl1,pl2,st1,st2,hcl5,htk5,d50,d52,d53,d54,na,za,AV.cut,ua]
   subst hQQ
   exact hR1 _ hstep _ rfl
  |false=>
   rw[hen2] at g17
   rw[if_neg (by rw[hen2];simp)] at hstep
   cases hix:Nl (a.1+1,(m:Int)) sets 0 with
   |some k=>
    rw[hix] at hstep hfd
    simp only at hstep hfd
    have dk:decide ((k:Int) < 0)=false:=Ha (by omega)
    simp -implicitDefEqProofs only[SP,WP,ga,sevalprocAttr,g1,g5,g10,g11,g12,g13,g14,g15,g16,g17,eq_true hq,t1,m1,t2,pl1,pl2,st1,st2,hldY,hfd,dk,hcl5,htk5,d50,d52,d53,d54,na,za,AV.cut,ua]
    subst hQQ
    exact hR1 _ hstep _ rfl
   |none=>
    rw[hix] at hstep hfd
    simp only at hstep hfd
    have dk:decide ((-1:Int) < 0)=true:=by decide
    by_cases hlt:sets.length < 64
    ·have hap':=hap hlt
     rw[if_pos hlt] at hstep
     have e64:((sets.length:Int)==64)=false:=zi (by omega)
     have hl1:(sets++[(a.1+1,(m:Int))]).length=sets.length+1:=by simp
     simp -implicitDefEqProofs only[SP,WP,ga,sevalprocAttr,g1,g5,g10,g11,g12,g13,g14,g15,g16,g17,eq_true hq,t1,m1,t2,pl1,pl2,st1,st2,hldY,hfd,dk,hslen,e64,hap',hz,hYl,hYr,hYa,hYp,hYt,f4,hcl5,htk5,d50,d52,d53,d54,na,za,AV.cut,ua]
     subst hQQ
     exact hR1 _ hstep _ (by rw[hl1])
    ·rw[if_neg hlt] at hstep
     have e64:((sets.length:Int)==64)=true:=by simp;omega
     simp -implicitDefEqProofs only[SP,WP,ga,sevalprocAttr,g1,g5,g10,g11,g12,g13,g14,g15,g16,g17,eq_true hq,t1,m1,t2,pl1,pl2,st1,st2,hldY,hfd,dk,hslen,e64]
     subst hQQ
     exact hR2 hstep _ _ (by simp[Tr.aa]) (by simp[Tr.aa]) (by simp[Tr.aa])
end
end Go.AM.B1
namespace Go.AM.B1
open Go.AM Go.AM.So
section
variable (call:Ta) {S:PV} {ss:List qc} {es:List PV} (hS:Za S ss es) (hw:ss.length≤32) (h8:∀ s∈ss,s.parts.length≤8) {n:Nat} {a:Al}
 (hd:a.1≤64)
 (nl nl3:Bool) (rs:List PV) (o0 o1 o3:ba) (h0:∀ n,oa n o0=some o0) (h1:∀ n,oa n o1=some o1) (h3:∀ n,oa n o3=some o3)
include hS hw h8 hd h0 h1 h3
set_option maxRecDepth 8000 in
theorem yV {sets:List Al} {row:List Int} (ha:sets[n]? =some a) (Ba:sm ss sets) (hrow:row.length=256):
 Pd (fun r=>(∃ p E,Hk ss a (List.range 256) (sets,row)=some p∧r=(.exit 6,⟨E,[o0,o1,.tok 33 p.1.length false,o3,Ab (p.2.map i64)]⟩)∧E.get 1= .pv (.rp [S] 0)∧E.get 5= .uq 0 nl 2048 (sf ss)∧E.get 10= .uq 2 false 33 (p.1.map Ze)∧E.get 11= .uq 3 nl3 256 rs∧E.get 12= .pv (i64 n)∧E.get 13= .ptr 4 0)∨
  (Hk ss a (List.range 256) (sets,row)=none∧∃ E H,r=(.ret,⟨E,H⟩)∧E.get 2= .pv .fa∧E.get 3= .pv .fa∧E.get 4= .pv (.bool false)))
  (pb (ma (qa call ve) (na 5 [1,5,10,11,12,13,14])) pa ⟨II S nl nl3 (sf ss) (sets.map Ze) rs n 0,[o0,o1,.tok 33 sets.length false,o3,Ab (row.map i64)]⟩):=by
 refine ya (Mb (g:=ma (qa call ve) (na 5 [1,5,10,11,12,13,14]))
  (fun x t=>∃ sets' row',t=⟨II S nl nl3 (sf ss) (sets'.map Ze) rs n x,[o0,o1,.tok 33 sets'.length false,o3,Ab (row'.map i64)]⟩∧Hk ss a (List.range 256) (sets,row)=Hk ss a ((List.range 256).drop x) (sets',row')∧sm ss sets'∧sets'[n]? =some a∧row'.length=256)
  256 (by unfold pa;omega) _ ⟨sets,row,rfl,by rw[List.drop_zero],Ba,ha,hrow⟩ ?_ ?_) (fun r h=>h.2)
 ·rintro x t hx ⟨sets',row',rfl,hrs,hok',ha',hrow'⟩
  rw[mq hx] at hrs
  refine ya (NF call hS hw h8 ha' hx hok' hd nl nl3 rs o0 o1 o3 h0 h1 h3 hrow') ?_
  rintro r (⟨p,hst,rfl⟩ | ⟨hst,E,H,rfl,g2,g3,g4⟩)
  ·rw[au hst] at hrs
   obtain⟨k1,t,k2⟩:=pE hok' ha' hw hst
   refine⟨p.1,row'.set x p.2,rfl,hrs,k1,?_,by simp[hrow']⟩
   rw[k2,List.getElem?_append_left (List.getElem?_eq_some_iff.1 ha').1];exact ha'
  ·rw[Nt hst] at hrs
   exact .inr ⟨hrs,E,H,rfl,g2,g3,g4⟩
 ·rintro t ⟨sets',row',rfl,hrs,hok',ha',hrow'⟩
  have hdr:(List.range 256).drop 256=[]:=List.drop_of_length_le (by rw[List.length_range];exact Nat.le_refl _)
  rw[hdr,Hk] at hrs
  have e1:decide (((256:Nat):Int) < 256)=false:=Ha (by omega)
  have hfin:∀ E,E.get 1= .pv (.rp [S] 0)→E.get 5= .uq 0 nl 2048 (sf ss)→E.get 10= .uq 2 false 33 (sets'.map Ze)→E.get 11= .uq 3 nl3 256 rs→E.get 12= .pv (i64 n)→E.get 13= .ptr 4 0→
   ((Ex.exit 6,(⟨E,[o0,o1,.tok 33 sets'.length false,o3,Ab (row'.map i64)]⟩:St)).1.stop=true∧((∃ p E',Hk ss a (List.range 256) (sets,row)=some p∧(Ex.exit 6,(⟨E,[o0,o1,.tok 33 sets'.length false,o3,Ab (row'.map i64)]⟩:St))=(.exit 6,⟨E',[o0,o1,.tok 33 p.1.length false,o3,Ab (p.2.map i64)]⟩)∧E'.get 1= .pv (.rp [S] 0)∧E'.get 5= .uq 0 nl 2048 (sf ss)∧E'.get 10= .uq 2 false 33 (p.1.map Ze)∧E'.get 11= .uq 3 nl3 256 rs∧E'.get 12= .pv (i64 n)∧E'.get 13= .ptr 4 0)∨
    (Hk ss a (List.range 256) (sets,row)=none∧∃ E' H,(Ex.exit 6,(⟨E,[o0,o1,.tok 33 sets'.length false,o3,Ab (row'.map i64)]⟩:St))=(.ret,⟨E',H⟩)∧E'.get 2= .pv .fa∧E'.get 3= .pv .fa∧E'.get 4= .pv (.bool false)))):=
   fun E k1 k5 k10 k11 k12 k13=>⟨rfl,.inl ⟨(sets',row'),E,hrs,rfl,k1,k5,k10,k11,k12,k13⟩⟩
  generalize hQ:(fun r:Ex×St=>r.1.stop=true∧_)=Q
  generalize Ab (row'.map i64)=R at *
  generalize sets'.map Ze=se at *
  generalize sf ss=os at *
  simp -implicitDefEqProofs only[SX,sevalprocAttr,-List.reduceReplicate,ve,e1,II]
  subst hQ
  exact hfin _ (by simp[Tr.aa]) (by simp[Tr.aa]) (by simp[Tr.aa]) (by simp[Tr.aa]) (by simp[Tr.aa]) (by simp[Tr.aa])
end
abbrev vI (S:PV) (nl nl3:Bool) (os es rs:List PV) (n:Int):Tr:=
 ((((Tr.lf.set 12 (.pv (i64 n))).set 11 (.uq 3 nl3 256 rs)).set 10 (.uq 2 false 33 es)).set 5 (.uq 0 nl 2048 os)).set 1 (.pv (.rp [S] 0))
section
variable (call:Ta) {S:PV} {ss:List qc} {es:List PV} (hS:Za S ss es) (hw:ss.length≤32) (h8:∀ s∈ss,s.parts.length≤8)
 (nl:Bool) (k0:Nat) (F:List PV)
include hS hw h8
set_option maxRecDepth 8000 in
theorem QF {sets:List Al} {rs:List (List Int)} {a:Al} (ha:sets[rs.length]? =some a) (Ba:sm ss sets):
 Pd (fun r=>(∃ p,Hk ss a (List.range 256) (sets,gb)=some p∧r=(.norm,⟨vI S nl false (sf ss) (p.1.map Ze) ((rs++[p.2]).map xi) (rs.length+1:Nat),[.tok 2048 k0 nl,Ab F,.tok 33 p.1.length false,.tok 256 (rs.length+1) false]⟩))∨
  (Hk ss a (List.range 256) (sets,gb)=none∧∃ E H,r=(.ret,⟨E,H⟩)∧E.get 2= .pv .fa∧E.get 3= .pv .fa∧E.get 4= .pv (.bool false)))
  (ma (qa call qe) (na 4 [1,5,10,11,12]) ⟨vI S nl rs.isEmpty (sf ss) (sets.map Ze) (rs.map xi) rs.length,[.tok 2048 k0 nl,Ab F,.tok 33 sets.length false,.tok 256 rs.length rs.isEmpty]⟩):=by
 have hn:=(List.getElem?_eq_some_iff.1 ha).1
 have hl64:=Ba.1
 have hd:a.1≤64:=by have:=(Ba.2 _ a ha).1;omega
 have hl3:=yV call hS hw h8 hd nl rs.isEmpty (rs.map xi) (.tok 2048 k0 nl) (Ab F) (.tok 256 rs.length rs.isEmpty) (fun n=>rfl) (fun n=>Sg F n) (fun n=>rfl) ha Ba Lt
 have hrl:∀ p,Hk ss a (List.range 256) (sets,gb)=some p→p.2.length=256:=fun p hp=>by rw[(ru hw (List.range 256) (sets,gb) p Ba ha hp).2.2];exact Lt
 have e1:decide ((rs.length:Int) < (sets.length:Int))=true:=Fa (by omega)
 have t2:IntKind.i64.wrap ((rs.length:Int)+1)=((rs.length+1:Nat):Int):=Aa (by omega)
 have hse:(sets.map Ze).length=sets.length:=List.length_map _
 have hzz:List.replicate 256 (PV.int .i64 0)=gb.map i64:=by rw[gb,List.map_replicate]
 have hz0:ba.box (List.map AV.pv (List.replicate 256 (PV.int .i64 0)))=Ab (gb.map i64):=by rw[hzz]
 have hc5:∀ (k:Nat) (R:List PV),Pa (oa 5) [.tok 2048 k0 nl,Ab F,.tok 33 k false,.tok 256 rs.length rs.isEmpty,Ab R]=some [.tok 2048 k0 nl,Ab F,.tok 33 k false,.tok 256 rs.length rs.isEmpty,Ab R]:=by
  intro k R
  have c0:∀ k n nl,oa 5 (.tok k n nl)=some (.tok k n nl):=fun k n nl=>rfl
  simp only[Pa,c0,Sg,Option.bind_some,Option.map_some]
 have hc4:∀ (k:Nat),Pa (oa 4) [.tok 2048 k0 nl,Ab F,.tok 33 k false,.tok 256 (rs.length+1) false]=some [.tok 2048 k0 nl,Ab F,.tok 33 k false,.tok 256 (rs.length+1) false]:=by
  intro k
  have c0:∀ k n nl,oa 4 (.tok k n nl)=some (.tok k n nl):=fun k n nl=>rfl
  simp only[Pa,c0,Sg,Option.bind_some,Option.map_some]
 have htk5:∀ a b c d e:ba,([a,b,c,d,e]:List ba).take 5=[a,b,c,d,e]:=fun a b c d e=>rfl
 have htk4:∀ a b c d e:ba,([a,b,c,d,e]:List ba).take 4=[a,b,c,d]:=fun a b c d e=>rfl
 have d50:(0 < 5)=True:=by simp
 have d52:(2 < 5)=True:=by simp
 have d53:(3 < 5)=True:=by simp
 have d54:(4 < 5)=True:=by simp
 have d40:(0 < 4)=True:=by simp
 have d42:(2 < 4)=True:=by simp
 have d43:(3 < 4)=True:=by simp
 have hld:∀ (k:Nat) (r:List Int),r.length=256→ta [.tok 2048 k0 nl,Ab F,.tok 33 k false,.tok 256 rs.length rs.isEmpty,Ab (r.map i64)] true 256 (.ptr 4 0)=some (.pv (.agg (r.map i64))):=fun k r hr=>Rl (id:=4) rfl (by rw[List.length_map,hr])
 have hone:∀ r:List Int,∀ e∈r.map i64,(AV.pv e).one=true:=by
  intro r e he
  obtain⟨v,_,rfl⟩:=List.mem_map.1 he
  rfl
 have hap:∀ (k:Nat) (r:List Int),Gb [.tok 2048 k0 nl,Ab F,.tok 33 k false,.tok 256 rs.length rs.isEmpty,Ab (r.map i64)] false .uq 256 true 2048 (.uq 3 rs.isEmpty 256 (rs.map xi)) (.pv (.lit 256 [.agg (r.map i64)]))=
  some (.uq 3 false 256 ((rs++[r]).map xi),[.tok 2048 k0 nl,Ab F,.tok 33 k false,.tok 256 (rs.length+1) false,Ab (r.map i64)]):=by
  intro k r
  have:=Lg (A:=[.tok 2048 k0 nl,Ab F,.tok 33 k false,.tok 256 rs.length rs.isEmpty,Ab (r.map i64)]) (id:=3) (n:=rs.length) (sz:=256) (h:= .uq) (nl:=rs.isEmpty) (ag:=true) (bytes:=2048) (es:=rs.map xi) rfl (by rw[List.length_map]) (by unfold ab;omega) (.agg (r.map i64))
  rw[this,List.map_append];rfl
 have wS:(gb.map i64).length=256:=by rw[List.length_map,Lt]
 have f4:(256≤((gb.map i64).map AV.pv++[]).length)=True:=eq_true (by rw[List.append_nil,List.length_map,wS];exact Nat.le_refl _)
 have hYr:∀ r:List Int,r.length=256→ga ((gb.map i64).map AV.pv++[]) 0 ((r.map i64).map AV.pv)=(r.map i64).map AV.pv:=fun r hr=>Uu (by rw[wS,List.length_map,hr])
 have hYa:∀ r:List Int,((r.map i64).map AV.pv).all AV.one=true:=fun r=>wI (hone r)
 have hYp:∀ r:List Int,Dd ((r.map i64).map AV.pv)=some (r.map i64):=fun r=>Ef _
 have hYt:∀ r:List Int,r.length=256→(r.map i64).take 256=r.map i64:=fun r hr=>List.take_of_length_le (by rw[List.length_map,hr];exact Nat.le_refl _)
 have hYl:∀ r:List Int,r.length=256→((r.map i64).map AV.pv).length=256:=fun r hr=>by rw[List.length_map,List.length_map,hr]
 have hR1:∀ p,Hk ss a (List.range 256) (sets,gb)=some p→∀ st:St,st=⟨vI S nl false (sf ss) (p.1.map Ze) ((rs++[p.2]).map xi) (rs.length+1:Nat),[.tok 2048 k0 nl,Ab F,.tok 33 p.1.length false,.tok 256 (rs.length+1) false]⟩→
  (∃ p,Hk ss a (List.range 256) (sets,gb)=some p∧(Ex.norm,st)=(.norm,⟨vI S nl false (sf ss) (p.1.map Ze) ((rs++[p.2]).map xi) (rs.length+1:Nat),[.tok 2048 k0 nl,Ab F,.tok 33 p.1.length false,.tok 256 (rs.length+1) false]⟩))∨
   (Hk ss a (List.range 256) (sets,gb)=none∧∃ E H,(Ex.norm,st)=(.ret,⟨E,H⟩)∧E.get 2= .pv .fa∧E.get 3= .pv .fa∧E.get 4= .pv (.bool false)):=fun p hp st h=> .inl ⟨p,hp,by rw[h]⟩
 generalize hQQ:(fun r:Ex×St=>_)=QQ
 generalize hzs:gb.map i64=zs at *
 have hc5z:=hc5 sets.length zs
 generalize hRz:Ab zs=Rz at *
 generalize hoF:Ab F=oF at *
 simp -implicitDefEqProofs only[SP,WP,ga,sevalprocAttr,-List.reduceReplicate,qe,Fb,e1,hse,hzz,hRz,hc5z,htk5,d50,d52,d53,d54,na,za,AV.cut,ua,vI]
 refine ya hl3 ?_
 rintro r (⟨p,E,hp,rfl,g1,g5,g10,g11,g12,g13⟩ | ⟨hp,E,H,rfl,g2,g3,g4⟩)
 ·have hpl:=hrl p hp
  have hld':=hld p.1.length p.2 hpl
  have hYr':=hYr p.2 hpl
  have hYt':=hYt p.2 hpl
  have hYl':=hYl p.2 hpl
  have hYa':=hYa p.2
  have hYp':=hYp p.2
  have hap':=hap p.1.length p.2
  generalize p.2.map i64=zp at *
  simp -implicitDefEqProofs only[SP,WP,ga,sevalprocAttr,-List.reduceReplicate,g1,g5,g10,g11,g12,g13,t2,hzz,hld',hYr',hYt',hYl',hYa',hYp',hap',f4,hc4,htk4,d40,d42,d43,na,za,AV.cut,ua]
  subst hQQ
  exact hR1 p hp _ rfl
 ·simp -implicitDefEqProofs only[SP,WP,ga,sevalprocAttr,-List.reduceReplicate]
  subst hQQ
  exact .inr ⟨hp,E,H,rfl,g2,g3,g4⟩
end
end Go.AM.B1
namespace Go.AM.B1
open Go.AM Go.AM.So
attribute [local irreducible] Pd
theorem JM {n:Nat} (h:n≤32) (i:Nat):(iq n).toNat.testBit i=decide (i < n):=by
 rw[gD h,Int.toNat_natCast,Nat.testBit_two_pow_sub_one]
theorem aM {n:Nat} (h:n≤32):Ze (0,iq n)= .agg (Gc n):=by
 unfold Ze Gc uc
 congr 2
 exact Jt fun i _=>JM h i
set_option maxRecDepth 8000 in
theorem ZU (call:Ta) {S:PV} {ss:List qc} {es:List PV} (hS:Za S ss es) (hw:ss.length≤32) (h8:∀ s∈ss,s.parts.length≤8) (hne:∀ s∈ss,0 < s.parts.length) (nl:Bool) (k0:Nat) (F:List PV):
 Pd (fun r=>(∃ p E,Ng ss 64 (Pg ss,[])=some p∧p.2.length=p.1.length∧0 < p.2.length∧r=(.exit 4,⟨E,[.tok 2048 k0 nl,Ab F,.tok 33 p.1.length false,.tok 256 p.2.length p.2.isEmpty]⟩)∧E.get 10= .uq 2 false 33 (p.1.map Ze)∧E.get 11= .uq 3 p.2.isEmpty 256 (p.2.map xi))∨
  (Ng ss 64 (Pg ss,[])=none∧∃ E H,r=(.ret,⟨E,H⟩)∧E.get 2= .pv .fa∧E.get 3= .pv .fa∧E.get 4= .pv (.bool false)))
  (pb (ma (qa call qe) (na 4 [1,5,10,11,12])) pa ⟨vI S nl true (sf ss) ((Pg ss).map Ze) [] 0,[.tok 2048 k0 nl,Ab F,.tok 33 1 false,.tok 256 0 true]⟩):=by
 refine ya (Up (g:=ma (qa call qe) (na 4 [1,5,10,11,12]))
  (fun k t=>∃ (sets:List Al) (rs:List (List Int)),t=⟨vI S nl rs.isEmpty (sf ss) (sets.map Ze) (rs.map xi) rs.length,[.tok 2048 k0 nl,Ab F,.tok 33 sets.length false,.tok 256 rs.length rs.isEmpty]⟩∧k+rs.length=64∧sm ss sets∧rs.length≤sets.length∧0 < sets.length∧Ng ss 64 (Pg ss,[])=Ng ss k (sets,rs))
  pa 64 _ (by unfold pa;omega) ⟨Pg ss,[],rfl,rfl,az hw hne,by simp,by simp[Pg],rfl⟩ ?_) (fun r h=>h.2)
 rintro k t ⟨sets,rs,rfl,hk,Ba,hle,hpos,hs⟩
 cases ha:sets[rs.length]? with
 |some a=>
  have hlt:=(List.getElem?_eq_some_iff.1 ha).1
  have hl64:=Ba.1
  obtain⟨k',rfl⟩:∃ k',k=k'+1:=⟨k - 1,by omega⟩
  refine ya (QF call hS hw h8 nl k0 F ha Ba) ?_
  rintro r (⟨p,hp,rfl⟩ | ⟨hp,E,H,rfl,g2,g3,g4⟩)
  ·obtain⟨q1,⟨t,q2⟩,q3⟩:=ru hw (List.range 256) (sets,gb) p Ba ha hp
   simp only at q2
   have hse:(rs++[p.2]).isEmpty=false:=by cases rs <;> rfl
   have hle2:(rs++[p.2]).length=rs.length+1:=by simp
   refine⟨k',by omega,p.1,rs++[p.2],?_,by rw[hle2];omega,q1,?_,?_,?_⟩
   ·rw[hse,hle2]
   ·rw[hle2,q2,List.length_append];omega
   ·rw[q2,List.length_append];omega
   ·rw[hs,vu ha hp]
  ·exact .inr ⟨by rw[hs,nu ha hp],E,H,rfl,g2,g3,g4⟩
 |none=>
  have hge:sets.length≤rs.length:=by
   rcases Nat.lt_or_ge rs.length sets.length with h | h
   ·rw[List.getElem?_eq_getElem h] at ha;cases ha
   ·exact h
  rw[Rs (r:=(sets,rs)) ha] at hs
  have e1:decide ((rs.length:Int) < (sets.length:Int))=false:=Ha (by omega)
  have hse:(sets.map Ze).length=sets.length:=List.length_map _
  have hfin:∀ E,E.get 10= .uq 2 false 33 (sets.map Ze)→E.get 11= .uq 3 rs.isEmpty 256 (rs.map xi)→
   LQ (fun k t=>∃ (sets:List Al) (rs:List (List Int)),t=⟨vI S nl rs.isEmpty (sf ss) (sets.map Ze) (rs.map xi) rs.length,[.tok 2048 k0 nl,Ab F,.tok 33 sets.length false,.tok 256 rs.length rs.isEmpty]⟩∧k+rs.length=64∧sm ss sets∧rs.length≤sets.length∧0 < sets.length∧Ng ss 64 (Pg ss,[])=Ng ss k (sets,rs))
    (fun r=>(∃ p E,Ng ss 64 (Pg ss,[])=some p∧p.2.length=p.1.length∧0 < p.2.length∧r=(.exit 4,⟨E,[.tok 2048 k0 nl,Ab F,.tok 33 p.1.length false,.tok 256 p.2.length p.2.isEmpty]⟩)∧E.get 10= .uq 2 false 33 (p.1.map Ze)∧E.get 11= .uq 3 p.2.isEmpty 256 (p.2.map xi))∨
    (Ng ss 64 (Pg ss,[])=none∧∃ E H,r=(.ret,⟨E,H⟩)∧E.get 2= .pv .fa∧E.get 3= .pv .fa∧E.get 4= .pv (.bool false))) k
    (.exit 4,⟨E,[.tok 2048 k0 nl,Ab F,.tok 33 sets.length false,.tok 256 rs.length rs.isEmpty]⟩):=fun E g10 g11=> .inl ⟨(sets,rs),E,hs,by simp only;omega,by simp only;omega,rfl,g10,g11⟩
  generalize LQ _ _ k=QQ at hfin ⊢
  generalize Ab F=oF at *
  generalize sets.map Ze=se at *
  generalize rs.map xi=re at *
  generalize sf ss=os at *
  simp -implicitDefEqProofs only[SX,sevalprocAttr,-List.reduceReplicate,qe,e1,hse,vI]
  exact hfin _ (by simp[Tr.aa]) (by simp[Tr.aa])
set_option maxRecDepth 8000 in
theorem PK {S:PV} {ss:List qc} {es:List PV} (hS:Za S ss es) (Ba:Fc ss):
 (∀ p,Ng ss 64 (Pg ss,[])=some p→Bf [.agg [S]]=some (.ic [.lit 33 (p.1.map Ze),.lit 256 (p.2.map xi),.bool true])∧p.2.length=p.1.length)∧
 (Ng ss 64 (Pg ss,[])=none→Bf [.agg [S]]=some (.ic [.fa,.fa,.bool false])):=by
 have hw:=Ba.len
 have h8:∀ s∈ss,s.parts.length≤8:=fun s hs=>(Ba.gu s hs).hi
 have ln:=hS.Tb
 have hS1:(AV.pv S).one=true:=by rcases hS.is with⟨h,_⟩ | h <;> rw[h] <;> rfl
 have hl0:=TP (Ca (fun _=>none) 8) hS hw h8
 have hl2:=fun nl=>ZU (Ca (fun _=>none) 8) hS hw h8 Ba.ne nl ss.length (Gc ss.length)
 have hs0:(Pg ss).map Ze=[.agg (Gc ss.length)]:=by rw[Pg,List.map_singleton,aM hw]
 rw[hs0] at hl2
 have hz:=bS
 have zl:=Kg 0 fun _=>false
 have hf0:Gc 0=uc 0 fun _=>false:=by unfold Gc;congr 1
 have st0:Ea [.tok 2048 0 true,Ab (uc 0 fun _=>false)] 33 (.ptr 1 0) (.pv (.agg (uc 0 fun _=>false)))=some [.tok 2048 0 true,Ab (uc 0 fun _=>false)]:=Lm (id:=1) rfl zl zl (dw _ _)
 have hcl2:Pa (oa 2) [.tok 2048 0 true,Ab (uc 0 fun _=>false)]=some [.tok 2048 0 true,Ab (uc 0 fun _=>false)]:=by
  have c0:∀ k n nl,oa 2 (.tok k n nl)=some (.tok k n nl):=fun k n nl=>rfl
  simp only[Pa,c0,Sg,Option.bind_some,Option.map_some]
 have htk2:∀ a b:ba,([a,b]:List ba).take 2=[a,b]:=fun a b=>rfl
 have htk4:∀ a b c d:ba,([a,b,c,d]:List ba).take 4=[a,b,c,d]:=fun a b c d=>rfl
 have hcl4:∀ nl,Pa (oa 4) [.tok 2048 ss.length nl,Ab (Gc ss.length),.tok 33 1 false,.tok 256 0 true]=some [.tok 2048 ss.length nl,Ab (Gc ss.length),.tok 33 1 false,.tok 256 0 true]:=by
  intro nl
  have c0:∀ k n nl,oa 4 (.tok k n nl)=some (.tok k n nl):=fun k n nl=>rfl
  simp only[Pa,c0,Sg,Option.bind_some,Option.map_some]
 have hld:∀ nl,ta [.tok 2048 ss.length nl,Ab (Gc ss.length)] true 33 (.ptr 1 0)=some (.pv (.agg (Gc ss.length))):=fun nl=>Rl (id:=1) rfl (Kg _ _)
 have fz:=Ef (uc 0 fun _=>false)
 have hYl:((Gc ss.length).map AV.pv).length=33:=by rw[List.length_map,Kg]
 have hYr:ga ((uc 0 fun _=>false).map AV.pv++[]) 0 ((Gc ss.length).map AV.pv)=(Gc ss.length).map AV.pv:=Uu (by rw[Kg,Kg])
 have hYa:=wI (dw 0 fun j=>decide (j < ss.length))
 have hYp:=Ef (Gc ss.length)
 have hYt:(Gc ss.length).take 33=Gc ss.length:=List.take_of_length_le (by rw[Kg];exact Nat.le_refl _)
 have f4:(33≤((uc 0 fun _=>false).map AV.pv++[]).length)=True:=eq_true (by rw[List.append_nil,List.length_map,zl];exact Nat.le_refl _)
 have d20:(0 < 2)=True:=by simp
 have d21:(1 < 2)=True:=by simp
 have d40:(0 < 4)=True:=by simp
 have d42:(2 < 4)=True:=by simp
 have d43:(3 < 4)=True:=by simp
 have g1:(0 < 2048)=True:=by simp
 have g2:(0 < 256)=True:=by simp
 rw[hf0] at hl0
 have key:Pd (fun r=>(∃ p,Ng ss 64 (Pg ss,[])=some p∧r=PV.ic [.lit 33 (p.1.map Ze),.lit 256 (p.2.map xi),.bool true]∧p.2.length=p.1.length)∨(Ng ss 64 (Pg ss,[])=none∧r=PV.ic [.fa,.fa,.bool false])) (Bf [.agg [S]]):=by
  generalize hQQ:(fun r:PV=>_)=QQ
  change (((Gc ss.length).map AV.pv).all AV.one)=true at hYa
  generalize hzs:(uc 0 fun _=>false)=zs at *
  generalize hfs:Gc ss.length=fs at *
  generalize hozs:Ab zs=oz at *
  generalize hofs:Ab fs=of at *
  simp -implicitDefEqProofs only[Bf,SP,WP,ga,sevalprocAttr,-List.reduceReplicate,Uj,hS1,hz,hozs,fz,st0,ff,g1,g2,hcl2,htk2,d20,d21,Fb,na,za,AV.cut,ua]
  refine ya hl0 ?_
  rintro r ⟨E,nl,rfl,k1,k5,k6⟩
  have hl2':=hl2 nl
  have hcl4':=hcl4 nl
  have hld':=hld nl
  simp -implicitDefEqProofs only[SP,WP,ga,sevalprocAttr,-List.reduceReplicate,k1,k5,k6,hld',hz,hYl,hYr,hYa,hYp,hYt,f4,ff,g1,g2,hcl4',htk4,d40,d42,d43,Fb,na,za,AV.cut,ua]
  refine ya hl2' ?_
  rintro r (⟨p,E,hp,hpl,hpp,rfl,k10,k11⟩ | ⟨hp,E,H,rfl,k2,k3,k4⟩)
  ·have hie:p.2.isEmpty=false:=by
    cases hh:p.2 with
    |nil=>rw[hh] at hpp;simp at hpp
    |cons a l=>rfl
   rw[hie] at k11
   simp -implicitDefEqProofs only[SP,WP,ga,sevalprocAttr,-List.reduceReplicate,k10,k11]
   subst hQQ
   exact .inl ⟨p,hp,rfl,hpl⟩
  ·simp -implicitDefEqProofs only[SP,WP,ga,sevalprocAttr,-List.reduceReplicate,k2,k3,k4]
   subst hQQ
   exact .inr ⟨hp,rfl⟩
 obtain⟨r,h1,h2⟩:=pc key
 constructor
 ·intro p hp
  rcases h2 with⟨p',hp',rfl,hl⟩ | ⟨hn,_⟩
  ·rw[hp] at hp';injection hp' with hp';subst hp';exact⟨h1,hl⟩
  ·rw[hp] at hn;cases hn
 ·intro hn
  rcases h2 with⟨p',hp',_,_⟩ | ⟨_,rfl⟩
  ·rw[hn] at hp';cases hp'
  ·exact h1
end Go.AM.B1
namespace Go.AM.B1
open Go.AM Go.AM.So
attribute [local irreducible] Pd
def owns (n:Nat):List AV:=(List.range n).map fun k=> .own (2 * k+1) n
def PA (n:Nat) (f:Nat→Bool) (fl:Nat):ba:= .seq 1 false ((Rf n f).map .pv) fl false
structure vr (H:List ba) (n:Nat) (f:Nat→Nat→Bool):Prop where
 len:H.length=2 * n+1
 hd:∃ nl,nl=false∧H[0]? =some (.seq 1 false (owns n) 0 nl)
 row:∀ k,k < n→∃ fl,fl≤n∧H[2 * k+1]? =some (PA n (f k) fl)
 KH:He H
theorem YC (n:Nat):(owns n).length=n:=by rw[owns,List.length_map,List.length_range]
theorem MR {n k:Nat} (h:k < n):(owns n)[k]? =some (.own (2 * k+1) n):=by
 rw[owns,List.getElem?_map,List.getElem?_range h];rfl
theorem YI (n:Nat) (f:Nat→Bool) (fl m:Nat):oa m (PA n f fl)=some (PA n f fl):=by
 have:((Rf n f).map AV.pv).all (AV.ue m deep)=true:=by
  rw[List.all_eq_true]
  intro v hv
  obtain⟨p,_,rfl⟩:=List.mem_map.1 hv
  rfl
 simp[oa,PA,this]
theorem BL (m:Nat) (g:Nat→Bool) {j:Nat} (hj:j < m) (b:Bool):(Rf m g).set j (.bool b)=Rf m fun x=>if x=j then b else g x:=by
 apply List.ext_getElem
 ·rw[List.length_set,Ig,Ig]
 ·intro k h1 h2
  rw[List.getElem_set,RC,RC]
  by_cases hk:j=k
  ·subst hk;rw[if_pos rfl,if_pos rfl]
  ·rw[if_neg hk,if_neg (Ne.symm hk)]
section
variable {H:List ba} {n:Nat} {f:Nat→Nat→Bool} (h:vr H n f)
include h
theorem vr.cut:Pa (oa (2 * n+1)) (H.take (2 * n+1))=some H:=by
 rw[← h.len,List.take_length];exact He.cut h.KH
theorem vr.i0 {i:Nat} (hi:i < n):wa H 1 (.own 0 n) (i:Int)=some (.Mc 0 n i):=by
 obtain⟨nl,_,h0⟩:=h.hd
 simp only[wa,h0]
 rw[if_pos (by refine⟨trivial,?_,?_⟩ <;> first | (unfold Ga;omega) | (unfold jh;rw[YC];omega))]
 simp
theorem vr.l0 {i:Nat} (hi:i < n):ta H false 1 (.Mc 0 n i)=some (.own (2 * i+1) n):=by
 obtain⟨nl,_,h0⟩:=h.hd
 simp only[ta,h0]
 rw[if_pos (YC n)]
 simp only[Og,Bool.false_eq_true,if_false]
 exact MR hi
theorem vr.i1 {i j:Nat} (hi:i < n) (hj:j < n):wa H 1 (.own (2 * i+1) n) (j:Int)=some (.Mc (2 * i+1) n j):=by
 obtain⟨fl,hf,h0⟩:=h.row i hi
 simp only[wa,h0,PA]
 rw[if_pos (by refine⟨trivial,?_,?_⟩ <;> first | (unfold Ga;omega) | (unfold jh;rw[List.length_map,Ig];omega))]
 simp
theorem vr.l1 {i j:Nat} (hi:i < n) (hj:j < n):ta H false 1 (.Mc (2 * i+1) n j)=some (.pv (.bool (f i j))):=by
 obtain⟨fl,hf,h0⟩:=h.row i hi
 simp only[ta,h0,PA]
 rw[if_pos (by rw[List.length_map,Ig])]
 simp only[Og,Bool.false_eq_true,if_false,List.getElem?_map,vz _ hj,Option.map_some]
end
theorem vr.store {H:List ba} {n:Nat} {f:Nat→Nat→Bool} (h:vr H n f) {i j:Nat} (hi:i < n) (hj:j < n):
 ∃ H',Ea H 1 (.Mc (2 * i+1) n j) (.pv (.bool true))=some H'∧vr H' n (fun a b=>if a=i∧b=j then true else f a b):=by
 obtain⟨fl,hf,h0⟩:=h.row i hi
 have hc:(AV.pv (.bool true)).cells=[.pv (.bool true)]:=rfl
 refine⟨H.set (2 * i+1) (PA n (fun b=>if b=j then true else f i b) n),?_,?_⟩
 ·simp only[Ea,h0,PA,hc]
  rw[if_pos ⟨rfl,rfl⟩,if_pos ⟨by rw[List.length_map,Ig],by show j+1≤n;omega⟩,ga,ga,←List.map_set,BL n _ hj]
 ·refine⟨by rw[List.length_set,h.len],?_,?_,?_⟩
  ·obtain⟨nl,hnl,h1⟩:=h.hd
   exact⟨nl,hnl,by rw[List.getElem?_set_ne (by omega)];exact h1⟩
  ·intro k hk
   by_cases hki:k=i
   ·subst hki
    refine⟨n,Nat.le_refl _,?_⟩
    rw[List.getElem?_set_self (by rw[h.len];omega)]
    have:(fun b=>if k=k∧b=j then true else f k b)=fun b=>if b=j then true else f k b:=by funext b;simp only[true_and]
    show _=some (PA n (fun b=>if k=k∧b=j then true else f k b) n)
    rw[this]
   ·obtain⟨fl',hf',h1⟩:=h.row k hk
    refine⟨fl',hf',?_⟩
    have:(fun b=>if k=i∧b=j then true else f k b)=f k:=by funext b;rw[if_neg (fun h=>hki h.1)]
    rw[List.getElem?_set_ne (by omega),h1]
    show _=some (PA n (fun b=>if k=i∧b=j then true else f k b) fl')
    rw[this]
  ·intro m hm o ho
   rw[List.length_set] at hm
   rcases List.mem_or_eq_of_mem_set ho with h1 | h1
   ·exact h.KH m hm o h1
   ·subst h1;exact YI _ _ _ _
def uy (f:Nat→Nat→Bool) (i j a b:Nat):Bool:=if (a=i∧b=j)∨(a=j∧b=i) then true else f a b
theorem rV (f:Nat→Nat→Bool) (i j:Nat):(fun a b=>if a=j∧b=i then true else (if a=i∧b=j then true else f a b))=uy f i j:=by
 funext a b
 unfold uy
 by_cases h1:a=i∧b=j
 ·by_cases h2:a=j∧b=i
  ·rw[if_pos h2,if_pos (.inl h1)]
  ·rw[if_neg h2,if_pos h1,if_pos (.inl h1)]
 ·by_cases h2:a=j∧b=i
  ·rw[if_pos h2,if_pos (.inr h2)]
  ·rw[if_neg h2,if_neg h1,if_neg (by intro h;rcases h with h | h <;> contradiction)]
def Dg (C:List (List Int)) (i x:Nat):Int:=(C.getD i []).getD x 0
def qk (C:List (List Int)) (f:Nat→Nat→Bool) (i j x:Nat):Bool:=
 ((Dg C i x != Dg C j x)&&(decide (Dg C i x < 0)||decide (Dg C j x < 0)))||(decide (Dg C i x≥0)&&decide (Dg C j x≥0)&&f (Dg C i x).toNat (Dg C j x).toNat)
structure LI (C:List (List Int)):Prop where
 row:∀ r∈C,r.length=256
 lt:∀ r∈C,∀ v∈r,v < (C.length:Int)
 sz:C.length≤64
theorem LI.get {C:List (List Int)} (h:LI C) {i x:Nat} (hi:i < C.length) (hx:x < 256):C[i][x]? =some (Dg C i x)∧Dg C i x < (C.length:Int):=by
 have hm:=List.getElem_mem hi
 have hl:=h.row _ hm
 have hg:C.getD i []=C[i]:=by rw[List.getD_eq_getElem?_getD,List.getElem?_eq_getElem hi];rfl
 have h1:C[i][x]? =some (Dg C i x):=by
  unfold Dg
  rw[hg,List.getD_eq_getElem?_getD,List.getElem?_eq_getElem (by omega)];rfl
 exact⟨h1,h.lt _ hm _ (List.mem_of_getElem? h1)⟩
theorem LI.Sd {C:List (List Int)} (h:LI C) {i:Nat} (hi:i < C.length) (H:List ba):wa H 256 (.pv (.lit 256 (C.map xi))) (i:Int)=some (.pv (.rp (C[i].map i64) 0)):=by
 simp only[wa]
 rw[if_pos (by refine⟨trivial,?_⟩;unfold Ga;simp;omega)]
 simp[hi,xi,PV.cells]
theorem LI.load {C:List (List Int)} (h:LI C) {i x:Nat} (hi:i < C.length) (hx:x < 256) (H:List ba):ta H false 1 (.pv (.rp (C[i].map i64) x))=some (.pv (i64 (Dg C i x))):=
 tz (by rw[List.getElem?_map,(h.get hi hx).1];rfl) H
abbrev Sy (v:PV) (n i j x:Int) (g:Bool):Tr:=((((((Tr.lf.set 9 (.pv (i64 x))).set 8 (.pv (i64 j))).set 7 (.pv (i64 i))).set 6 (.pv (.bool g))).set 4 (.own 0 n.toNat)).set 3 (.pv (i64 n))).set 0 (.pv v)
section
variable (call:Ta) {C:List (List Int)} (hC:LI C) {i j:Nat} (hi:i < C.length) (hj:j < C.length)
include hC hi hj
theorem WE {H:List ba} {f:Nat→Nat→Bool} (hM:vr H C.length f) (g:Bool) {x:Nat} (hx:x < 256):
 Pd (fun r=>(f i j=true∧∃ E,r=(.exit 8,⟨E,H⟩)∧E.get 0= .pv (.lit 256 (C.map xi))∧E.get 3= .pv (i64 C.length)∧E.get 4= .own 0 C.length∧E.get 6= .pv (.bool g)∧E.get 7= .pv (i64 i)∧E.get 8= .pv (i64 j))∨
  (f i j=false∧qk C f i j x=false∧r=(.norm,⟨Sy (.lit 256 (C.map xi)) C.length i j (x+1:Nat) g,H⟩))∨
  (f i j=false∧qk C f i j x=true∧∃ H',vr H' C.length (uy f i j)∧r=(.norm,⟨Sy (.lit 256 (C.map xi)) C.length i j (x+1:Nat) true,H'⟩)))
  (ma (qa call Wa) (na (2 * C.length+1) [0,3,4,6,7,8,9]) ⟨Sy (.lit 256 (C.map xi)) C.length i j x g,H⟩):=by
 have hcut:=hM.cut
 have a0:=hM.i0 hi
 have a1:=hM.l0 hi
 have b0:=hM.i0 hj
 have b1:=hM.l0 hj
 have a2:=hM.i1 hi hj
 have a3:=hM.l1 hi hj
 obtain⟨H1,s1,hM1⟩:=hM.store hi hj
 obtain⟨H2,s2,hM2⟩:=hM1.store hj hi
 rw[rV] at hM2
 have b2:=hM1.i1 hj hi
 have hcut2:=hM2.cut
 have c0:=fun H=>hC.Sd hi H
 have c1:=fun H=>hC.load hi hx H
 have d0:=fun H=>hC.Sd hj H
 have d1:=fun H=>hC.load hj hx H
 have hva:=(hC.get hi hx).2
 have hvb:=(hC.get hj hx).2
 have hsz:=hC.sz
 have e1:decide ((x:Int) < 256)=true:=Fa (by omega)
 have hq:Ga (x:Int) 256:=by unfold Ga;omega
 have t1:((x:Int)).toNat=x:=by simp
 have m1:x * 1=x:=by omega
 have z1:0+x=x:=by omega
 have t2:IntKind.i64.wrap ((x:Int)+1)=((x+1:Nat):Int):=Aa (by omega)
 have tn:((C.length:Int)).toNat=C.length:=by simp
 have hz:(0 < 2 * C.length+1)=True:=by simp
 have htl:qk C f i j x=(((Dg C i x != Dg C j x)&&(decide (Dg C i x < 0)||decide (Dg C j x < 0)))||(decide (Dg C i x≥0)&&decide (Dg C j x≥0)&&f (Dg C i x).toNat (Dg C j x).toNat)):=rfl
 have hun:0≤Dg C i x→0≤Dg C j x→wa H 1 (.own 0 C.length) (Dg C i x)=some (.Mc 0 C.length (Dg C i x).toNat)∧ta H false 1 (.Mc 0 C.length (Dg C i x).toNat)=some (.own (2 * (Dg C i x).toNat+1) C.length)∧
  wa H 1 (.own (2 * (Dg C i x).toNat+1) C.length) (Dg C j x)=some (.Mc (2 * (Dg C i x).toNat+1) C.length (Dg C j x).toNat)∧ta H false 1 (.Mc (2 * (Dg C i x).toNat+1) C.length (Dg C j x).toNat)=some (.pv (.bool (f (Dg C i x).toNat (Dg C j x).toNat))):=by
  intro h1 h2
  have k1:=hM.i0 (i:=(Dg C i x).toNat) (by omega)
  have k2:=hM.l0 (i:=(Dg C i x).toNat) (by omega)
  have k3:=hM.i1 (i:=(Dg C i x).toNat) (j:=(Dg C j x).toNat) (by omega) (by omega)
  have k4:=hM.l1 (i:=(Dg C i x).toNat) (j:=(Dg C j x).toNat) (by omega) (by omega)
  rw[Int.toNat_of_nonneg h1] at k1
  rw[Int.toNat_of_nonneg h2] at k3
  exact⟨k1,k2,k3,k4⟩
 generalize Dg C i x=a at *
 generalize Dg C j x=b at *
 generalize hl:(PV.lit 256 (C.map xi))=L at *
 have hR0:f i j=true→∀ E,E.get 0= .pv L→E.get 3= .pv (i64 C.length)→E.get 4= .own 0 C.length→E.get 6= .pv (.bool g)→E.get 7= .pv (i64 i)→E.get 8= .pv (i64 j)→
  ((f i j=true∧∃ E',(Ex.exit 8,(⟨E,H⟩:St))=(.exit 8,⟨E',H⟩)∧E'.get 0= .pv L∧E'.get 3= .pv (i64 C.length)∧E'.get 4= .own 0 C.length∧E'.get 6= .pv (.bool g)∧E'.get 7= .pv (i64 i)∧E'.get 8= .pv (i64 j))∨
   (f i j=false∧qk C f i j x=false∧(Ex.exit 8,(⟨E,H⟩:St))=(.norm,⟨Sy L C.length i j (x+1:Nat) g,H⟩))∨
   (f i j=false∧qk C f i j x=true∧∃ H',vr H' C.length (uy f i j)∧(Ex.exit 8,(⟨E,H⟩:St))=(.norm,⟨Sy L C.length i j (x+1:Nat) true,H'⟩))):=
  fun h E k0 k3 k4 k6 k7 k8=> .inl ⟨h,E,rfl,k0,k3,k4,k6,k7,k8⟩
 have hR1:f i j=false→qk C f i j x=false→∀ s,s=(⟨Sy L C.length i j (x+1:Nat) g,H⟩:St)→
  ((f i j=true∧∃ E',(Ex.norm,s)=(.exit 8,⟨E',H⟩)∧E'.get 0= .pv L∧E'.get 3= .pv (i64 C.length)∧E'.get 4= .own 0 C.length∧E'.get 6= .pv (.bool g)∧E'.get 7= .pv (i64 i)∧E'.get 8= .pv (i64 j))∨
   (f i j=false∧qk C f i j x=false∧(Ex.norm,s)=(.norm,⟨Sy L C.length i j (x+1:Nat) g,H⟩))∨
   (f i j=false∧qk C f i j x=true∧∃ H',vr H' C.length (uy f i j)∧(Ex.norm,s)=(.norm,⟨Sy L C.length i j (x+1:Nat) true,H'⟩))):=
  fun h1 h2 s h3=> .inr (.inl ⟨h1,h2,by rw[h3]⟩)
 have hR2:f i j=false→qk C f i j x=true→∀ s,s=(⟨Sy L C.length i j (x+1:Nat) true,H2⟩:St)→
  ((f i j=true∧∃ E',(Ex.norm,s)=(.exit 8,⟨E',H⟩)∧E'.get 0= .pv L∧E'.get 3= .pv (i64 C.length)∧E'.get 4= .own 0 C.length∧E'.get 6= .pv (.bool g)∧E'.get 7= .pv (i64 i)∧E'.get 8= .pv (i64 j))∨
   (f i j=false∧qk C f i j x=false∧(Ex.norm,s)=(.norm,⟨Sy L C.length i j (x+1:Nat) g,H⟩))∨
   (f i j=false∧qk C f i j x=true∧∃ H',vr H' C.length (uy f i j)∧(Ex.norm,s)=(.norm,⟨Sy L C.length i j (x+1:Nat) true,H'⟩))):=
  fun h1 h2 s h3=> .inr (.inr ⟨h1,h2,H2,hM2,by rw[h3]⟩)
 generalize hQQ:(fun r:Ex×St=>_)=QQ
 generalize hu:f i j=u at *
 cases u with
 |true=>
  simp -implicitDefEqProofs only[SX,sevalprocAttr,Wa,e1,tn,a0,a1,a2,a3,Sy]
  subst hQQ
  exact hR0 rfl _ (by simp[Tr.aa]) (by simp[Tr.aa]) (by simp[Tr.aa]) (by simp[Tr.aa]) (by simp[Tr.aa]) (by simp[Tr.aa])
 |false=>
  by_cases hab:a=b
  ·have ne1:(a != b)=false:=by simp[hab]
   subst hab
   by_cases ha:a≥0
   ·have da:=Fa ha
    have da':decide (a < 0)=false:=Ha (by omega)
    obtain⟨k1,k2,k3,k4⟩:=hun ha ha
    rw[ne1,da,Bool.false_and,Bool.false_or,Bool.true_and,Bool.true_and] at htl
    generalize hw:f a.toNat a.toNat=w at *
    cases w with
    |true=>
     simp -implicitDefEqProofs only[SX,sevalprocAttr,Wa,e1,tn,a0,a1,a2,a3,b0,b1,b2,c0,c1,d0,d1,eq_true hq,t1,m1,z1,pj,ne1,da,k1,k2,k3,k4,s1,s2,t2,hcut2,hz,na,za,AV.cut,ua,Sy]
     subst hQQ
     exact hR2 rfl htl _ (by simp only[Sy,tn])
    |false=>
     simp -implicitDefEqProofs only[SX,sevalprocAttr,Wa,e1,tn,a0,a1,a2,a3,b0,b1,b2,c0,c1,d0,d1,eq_true hq,t1,m1,z1,pj,ne1,da,k1,k2,k3,k4,t2,hcut,hz,na,za,AV.cut,ua,Sy]
     subst hQQ
     exact hR1 rfl htl _ (by simp only[Sy,tn])
   ·have da:=Ha ha
    rw[ne1,da,Bool.false_and,Bool.false_or,Bool.false_and,Bool.false_and] at htl
    simp -implicitDefEqProofs only[SX,sevalprocAttr,Wa,e1,tn,a0,a1,a2,a3,b0,b1,b2,c0,c1,d0,d1,eq_true hq,t1,m1,z1,pj,ne1,da,t2,hcut,hz,na,za,AV.cut,ua,Sy]
    subst hQQ
    exact hR1 rfl htl _ (by simp only[Sy,tn])
  ·have ne1:(a != b)=true:=by simp[hab]
   by_cases ha:a < 0
   ·have da:=Fa ha
    rw[ne1,da] at htl
    simp only[Bool.true_and,Bool.true_or] at htl
    simp -implicitDefEqProofs only[SX,sevalprocAttr,Wa,e1,tn,a0,a1,a2,a3,b0,b1,b2,c0,c1,d0,d1,eq_true hq,t1,m1,z1,pj,ne1,da,s1,s2,t2,hcut2,hz,na,za,AV.cut,ua,Sy]
    subst hQQ
    exact hR2 rfl htl _ (by simp only[Sy,tn])
   ·have da:=Ha ha
    have da':decide (a≥0)=true:=Fa (by omega)
    by_cases hb:b < 0
    ·have db:=Fa hb
     rw[ne1,da,db] at htl
     simp only[Bool.true_and,Bool.false_or,Bool.true_or] at htl
     simp -implicitDefEqProofs only[SX,sevalprocAttr,Wa,e1,tn,a0,a1,a2,a3,b0,b1,b2,c0,c1,d0,d1,eq_true hq,t1,m1,z1,pj,ne1,da,db,s1,s2,t2,hcut2,hz,na,za,AV.cut,ua,Sy]
     subst hQQ
     exact hR2 rfl htl _ (by simp only[Sy,tn])
    ·have db:=Ha hb
     have db':decide (b≥0)=true:=Fa (by omega)
     obtain⟨k1,k2,k3,k4⟩:=hun (by omega) (by omega)
     rw[ne1,da,db,da',db'] at htl
     simp only[Bool.true_and,Bool.false_or] at htl
     generalize hw:f a.toNat b.toNat=w at *
     cases w with
     |true=>
      simp -implicitDefEqProofs only[SX,sevalprocAttr,Wa,e1,tn,a0,a1,a2,a3,b0,b1,b2,c0,c1,d0,d1,eq_true hq,t1,m1,z1,pj,ne1,da,db,da',db',k1,k2,k3,k4,s1,s2,t2,hcut2,hz,na,za,AV.cut,ua,Sy]
      subst hQQ
      exact hR2 rfl htl _ (by simp only[Sy,tn])
     |false=>
      simp -implicitDefEqProofs only[SX,sevalprocAttr,Wa,e1,tn,a0,a1,a2,a3,b0,b1,b2,c0,c1,d0,d1,eq_true hq,t1,m1,z1,pj,ne1,da,db,da',db',k1,k2,k3,k4,t2,hcut,hz,na,za,AV.cut,ua,Sy]
      subst hQQ
      exact hR1 rfl htl _ (by simp only[Sy,tn])
end
end Go.AM.B1
namespace Go.AM.B1
open Go.AM Go.AM.So
def xy (ss:List qc) (sets:List Al) (a:Al) (x:Nat) (v:Int):Prop:=
 (Zf (ql ss a x) ss.length=false∧v= -2)∨
 (Zf (ql ss a x) ss.length=true∧Zf (Mp ss a x) ss.length=true∧v= -1)∨
 (Zf (ql ss a x) ss.length=true∧Zf (Mp ss a x) ss.length=false∧∃ k m:Nat,v=(k:Int)∧lC ss a x m∧sets[k]? =some (a.1+1,(m:Int)))
theorem xy.mono {ss:List qc} {sets t:List Al} {a:Al} {x:Nat} {v:Int} (h:xy ss sets a x v):xy ss (sets++t) a x v:=by
 rcases h with h | h | ⟨h1,h2,k,m,h3,h4,h5⟩
 ·exact .inl h
 ·exact .inr (.inl h)
 ·refine .inr (.inr ⟨h1,h2,k,m,h3,h4,?_⟩)
  rw[List.getElem?_append_left (List.getElem?_eq_some_iff.1 h5).1];exact h5
theorem BK {a:Al}:∀ {l:List Al} {k i:Nat},Nl a l k=some i→k≤i∧l[i - k]? =some a
 |b::l,k,i,h=>by
  simp only[Nl] at h
  split at h
  ·next he=>injection h with h;subst h;subst he;exact⟨Nat.le_refl _,by simp⟩
  ·obtain⟨h1,h2⟩:=BK h
   refine⟨by omega,?_⟩
   rw[show i - k=(i - (k+1))+1 by omega,List.getElem?_cons_succ];exact h2
structure cN (sets:List Al) (d:Nat):Prop where
 up:∀ (p q:Nat) a b,p≤q→sets[p]? =some a→sets[q]? =some b→a.1≤b.1
 top:∀ (q:Nat) b,sets[q]? =some b→b.1≤d+1
theorem cN.push {sets:List Al} {d:Nat} (h:cN sets d) (e:Int):cN (sets++[(d+1,e)]) d:=by
 have hg:∀ (q:Nat) b,(sets++[(d+1,e)])[q]? =some b→(q < sets.length∧sets[q]? =some b)∨(q=sets.length∧b=(d+1,e)):=by
  intro q b hb
  rcases Nat.lt_or_ge q sets.length with h1 | h1
  ·rw[List.getElem?_append_left h1] at hb;exact .inl ⟨h1,hb⟩
  ·rw[List.getElem?_append_right h1] at hb
   cases hq:q - sets.length with
   |zero=>rw[hq] at hb;simp at hb;exact .inr ⟨by omega,hb.symm⟩
   |succ n=>rw[hq] at hb;simp at hb
 refine⟨?_,?_⟩
 ·intro p q a b hpq ha hb
  rcases hg p a ha with⟨h1,h2⟩ | ⟨h1,h2⟩ <;> rcases hg q b hb with⟨h3,h4⟩ | ⟨h3,h4⟩
  ·exact h.up p q a b hpq h2 h4
  ·rw[h4];exact h.top p a h2
  ·omega
  ·rw[h2,h4];exact Nat.le_refl _
 ·intro q b hb
  rcases hg q b hb with⟨h3,h4⟩ | ⟨h3,h4⟩
  ·exact h.top q b h4
  ·rw[h4];exact Nat.le_refl _
theorem FQ {ss:List qc} (hw:ss.length≤32) {sets:List Al} {a:Al} (hba:tU a) {x:Nat} {p:List Al×Int} (h:Qg ss a x sets=some p) (hR:cN sets a.1):
 xy ss p.1 a x p.2∧cN p.1 a.1∧((p.1=sets)∨(p.1.length=sets.length+1∧p.2=(sets.length:Int))):=by
 obtain⟨m,hm⟩:=zR (x:=x) hba hw
 rw[hm.step sets] at h
 by_cases h1:Zf (ql ss a x) ss.length=false
 ·rw[if_pos h1] at h
  injection h with h;subst h
  exact⟨.inl ⟨h1,rfl⟩,hR,.inl rfl⟩
 ·rw[if_neg h1] at h
  have h1':Zf (ql ss a x) ss.length=true:=by simpa using h1
  by_cases h2:Zf (Mp ss a x) ss.length=true
  ·rw[if_pos h2] at h
   injection h with h;subst h
   exact⟨.inr (.inl ⟨h1',h2,rfl⟩),hR,.inl rfl⟩
  ·rw[if_neg h2] at h
   have h2':Zf (Mp ss a x) ss.length=false:=by simpa using h2
   cases hi:Nl (a.1+1,(m:Int)) sets 0 with
   |some k=>
    rw[hi] at h
    injection h with h;subst h
    exact⟨.inr (.inr ⟨h1',h2',k,m,rfl,hm,(BK hi).2⟩),hR,.inl rfl⟩
   |none=>
    rw[hi] at h
    simp only at h
    split at h
    ·injection h with h;subst h
     refine⟨.inr (.inr ⟨h1',h2',sets.length,m,rfl,hm,by simp⟩),hR.push _,.inr ⟨by simp,rfl⟩⟩
    ·cases h
theorem fK {ss:List qc} (hw:ss.length≤32) {a:Al} (hba:tU a) {i:Nat}:∀ (xs:List Nat) (r r':List Al×List Int),xs.Nodup→(∀ x∈xs,x < r.2.length)→sm ss r.1→r.1[i]? =some a→cN r.1 a.1→Hk ss a xs r=some r'→
 (∀ x∈xs,xy ss r'.1 a x (r'.2.getD x 0))∧(∀ y,y ∉ xs→r'.2.getD y 0=r.2.getD y 0)∧(∀ k,r.1.length≤k→k < r'.1.length→∃ x∈xs,r'.2.getD x 0=(k:Int))∧cN r'.1 a.1
 | [],r,r',_,_,_,_,hR,e=>by
   injection e with e;subst e
   exact⟨by simp,fun _ _=>rfl,fun k h1 h2=>by omega,hR⟩
 |x::xs,r,r',hnd,hlt,Ba,ha,hR,e=>by
  cases hst:Qg ss a x r.1 with
  |none=>rw[Nt hst] at e;cases e
  |some p=>
   rw[au hst] at e
   obtain⟨s1,s2,s3⟩:=FQ hw hba hst hR
   obtain⟨g1,t,g2⟩:=pE Ba ha hw hst
   rw[List.nodup_cons] at hnd
   have hi:=(List.getElem?_eq_some_iff.1 ha).1
   have hxl:=hlt x (by simp)
   obtain⟨k1,k2,k3,k4⟩:=fK hw hba xs (p.1,r.2.set x p.2) r' hnd.2 (fun y hy=>by rw[List.length_set];exact hlt y (by simp[hy])) g1 (by rw[g2,List.getElem?_append_left hi];exact ha) s2 e
   obtain⟨_,⟨t',q2⟩,_⟩:=ru hw xs (p.1,r.2.set x p.2) r' g1 (by rw[g2,List.getElem?_append_left hi];exact ha) e
   simp only at q2
   have hx:r'.2.getD x 0=p.2:=by
    rw[k2 x hnd.1,List.getD_eq_getElem?_getD,List.getElem?_set_self hxl];rfl
   refine⟨?_,?_,?_,k4⟩
   ·intro y hy
    rcases List.mem_cons.1 hy with rfl | hy
    ·rw[hx,q2];exact s1.mono
    ·exact k1 y hy
   ·intro y hy
    rw[List.mem_cons,not_or] at hy
    rw[k2 y hy.2,List.getD_eq_getElem?_getD,List.getElem?_set_ne (Ne.symm hy.1),←List.getD_eq_getElem?_getD]
   ·intro k h1 h2
    rcases s3 with s3 | ⟨s3,s4⟩
    ·obtain⟨y,hy,h3⟩:=k3 k (by rw[s3];exact h1) h2
     exact⟨y,by simp[hy],h3⟩
    ·by_cases hk:k=r.1.length
     ·exact⟨x,by simp,by rw[hx,s4,hk]⟩
     ·obtain⟨y,hy,h3⟩:=k3 k (by simp only;omega) h2
      exact⟨y,by simp[hy],h3⟩
structure Tk (ss:List qc) (sets:List Al) (C:List (List Int)):Prop where
 ok:sm ss sets
 le:C.length≤sets.length
 first:sets[0]? =some (0,iq ss.length)
 row:∀ r∈C,r.length=256
 step:∀ (k:Nat) a,k < C.length→sets[k]? =some a→∀ x,x < 256→xy ss sets a x (Dg C k x)
 up:∀ (p q:Nat) a b,p≤q→sets[p]? =some a→sets[q]? =some b→a.1≤b.1
 top:∀ (k q:Nat) a b,k=C.length→sets[k]? =some a→sets[q]? =some b→b.1≤a.1+1
 reach:∀ k,0 < k→k < sets.length→∃ j x,j < k∧j < C.length∧x < 256∧Dg C j x=(k:Int)
theorem uN {C:List (List Int)} {r:List Int} {k x:Nat} (hk:k < C.length):Dg (C++[r]) k x=Dg C k x:=by
 have:(C++[r]).getD k []=C.getD k []:=by
  rw[List.getD_eq_getElem?_getD,List.getElem?_append_left hk,←List.getD_eq_getElem?_getD]
 unfold Dg
 rw[this]
theorem ZN {C:List (List Int)} {r:List Int} {x:Nat}:Dg (C++[r]) C.length x=r.getD x 0:=by
 unfold Dg
 have:(C++[r]).getD C.length []=r:=by
  rw[List.getD_eq_getElem?_getD,List.getElem?_append_right (Nat.le_refl _),Nat.sub_self];rfl
 rw[this]
theorem Tk.next {ss:List qc} (hw:ss.length≤32) {sets:List Al} {C:List (List Int)} (h:Tk ss sets C) {a:Al} (ha:sets[C.length]? =some a) {p:List Al×List Int} (hp:Hk ss a (List.range 256) (sets,gb)=some p):Tk ss p.1 (C++[p.2]):=by
 have hlt:=(List.getElem?_eq_some_iff.1 ha).1
 obtain⟨_,b,hb,hblt,_⟩:=h.ok.2 _ a ha
 have hba:tU a:=⟨b,hb,hblt⟩
 obtain⟨k1,k2,k3,k4⟩:=fK hw hba (i:=C.length) (List.range 256) (sets,gb) p List.nodup_range (fun x hx=>by simp only[Lt];simpa using hx) h.ok ha ⟨h.up,fun q b hb=>h.top C.length q a b rfl ha hb⟩ hp
 obtain⟨g1,⟨t,g2⟩,g3⟩:=ru hw (List.range 256) (sets,gb) p h.ok ha hp
 simp only at g2 g3
 rw[Lt] at g3
 have hold:∀ (k:Nat) c,k < sets.length→(p.1[k]? =some c↔sets[k]? =some c):=fun k c hk=>by rw[g2,List.getElem?_append_left hk]
 refine⟨g1,?_,?_,?_,?_,k4.up,?_,?_⟩
 ·rw[g2];simp;omega
 ·rw[hold 0 _ (by omega)];exact h.first
 ·intro r hr
  rcases List.mem_append.1 hr with h1 | h1
  ·exact h.row r h1
  ·rw[List.mem_singleton] at h1;subst h1;exact g3
 ·intro k c hk hc x hx
  rw[List.length_append,List.length_singleton] at hk
  rcases Nat.lt_or_ge k C.length with h1 | h1
  ·rw[uN h1,g2]
   exact (h.step k c h1 ((hold k c (by omega)).1 hc) x hx).mono
  ·have:k=C.length:=by omega
   subst this
   have hca:c=a:=by
    have:=(hold C.length c hlt).1 hc
    rw[ha] at this;injection this with this;exact this.symm
   subst hca
   rw[ZN]
   exact k1 x (by simpa using hx)
 ·intro k q c d hk hc hd
  rw[List.length_append,List.length_singleton] at hk
  have h1:=k4.top q d hd
  have h2:=k4.up C.length k a c (by omega) ((hold _ a hlt).2 ha) hc
  omega
 ·intro k h0 hk
  rcases Nat.lt_or_ge k sets.length with h1 | h1
  ·obtain⟨j,x,h2,h3,h4,h5⟩:=h.reach k h0 h1
   exact⟨j,x,h2,by rw[List.length_append];omega,h4,by rw[uN h3];exact h5⟩
  ·obtain⟨x,hx,h2⟩:=k3 k h1 hk
   exact⟨C.length,x,by omega,by simp,by simpa using hx,by rw[ZN];exact h2⟩
theorem AG {ss:List qc} (hw:ss.length≤32):∀ (k:Nat) (r r':List Al×List (List Int)),r.2.length+k=64→Tk ss r.1 r.2→Ng ss k r=some r'→Tk ss r'.1 r'.2∧r'.2.length=r'.1.length
 |0,r,r',hk,h,e=>by
  injection e with e;subst e
  have:=h.ok.1
  have:=h.le
  exact⟨h,by omega⟩
 |k+1,r,r',hk,h,e=>by
  cases ha:r.1[r.2.length]? with
  |none=>
   rw[Rs ha] at e;injection e with e;subst e
   refine⟨h,?_⟩
   have:=h.le
   rcases Nat.lt_or_ge r.2.length r.1.length with h1 | h1
   ·rw[List.getElem?_eq_getElem h1] at ha;cases ha
   ·omega
  |some a=>
   cases hr:Hk ss a (List.range 256) (r.1,gb) with
   |none=>rw[nu ha hr] at e;cases e
   |some p=>
    rw[vu ha hr] at e
    exact AG hw k (p.1,r.2++[p.2]) r' (by simp;omega) (h.next hw ha hr) e
theorem oH {ss:List qc} (hw:ss.length≤32) (hne:∀ s∈ss,0 < s.parts.length) {p:List Al×List (List Int)} (h:Ng ss 64 (Pg ss,[])=some p):Tk ss p.1 p.2∧p.2.length=p.1.length:=by
 refine AG hw 64 (Pg ss,[]) p rfl ⟨az hw hne,by simp,rfl,by simp,fun k a hk=>by simp at hk,?_,?_,?_⟩ h
 ·intro p q a b hpq ha hb
  have:p=0∧q=0:=by
   have h1:=(List.getElem?_eq_some_iff.1 ha).1
   have h2:=(List.getElem?_eq_some_iff.1 hb).1
   simp[Pg] at h1 h2;omega
  obtain⟨rfl,rfl⟩:=this
  rw[ha] at hb;injection hb with hb;subst hb;exact Nat.le_refl _
 ·intro k q a b hk ha hb
  have h2:=(List.getElem?_eq_some_iff.1 hb).1
  simp[Pg] at h2;subst h2
  simp[Pg] at hb;subst hb;simp
 ·intro k h0 hk
  simp[Pg] at hk;omega
end Go.AM.B1
namespace Go.AM.B1
open Go.AM
def Zp (Dc:List Int) (to:Int):Int:=if 0≤to then Dc.getD to.toNat 0 else to
theorem Zv {Dc row:List Int} {i:Nat}:∀ (xs:List Nat) (C:List Int) (p:Nat),p < C.length→
 (Qd Dc row i xs C)[p]? =if h:i * 256≤p∧p - i * 256∈xs∧p - i * 256 < row.length then (if 0≤row.getD (p - i * 256) 0 then some (Zp Dc (row.getD (p - i * 256) 0)) else C[p]?) else C[p]?
 | [],C,p,hp=>by simp[Qd]
 |x::xs,C,p,hp=>by
  rw[Qd]
  have key:∀ C',C'.length=C.length→(p≠i * 256+x→C'[p]? =C[p]?)→(p=i * 256+x→C'[p]? =if x < row.length then (if 0≤row.getD x 0 then some (Zp Dc (row.getD x 0)) else C[p]?) else C[p]?)→
   (Qd Dc row i xs C')[p]? =if h:i * 256≤p∧p - i * 256∈x::xs∧p - i * 256 < row.length then (if 0≤row.getD (p - i * 256) 0 then some (Zp Dc (row.getD (p - i * 256) 0)) else C[p]?) else C[p]? :=by
   intro C' hl h1 h2
   rw[Zv xs C' p (by omega)]
   by_cases hx:p=i * 256+x
   ·have e:p - i * 256=x:=by omega
    have h3:=h2 hx
    rw[e,h3]
    have hle:i * 256≤p:=by omega
    by_cases hr:x < row.length
    ·simp only[hle,hr,and_true,true_and,List.mem_cons,true_or,dite_true,if_true]
     by_cases h0:0≤row.getD x 0
     ·simp only[h0,if_true,ite_self,dite_eq_ite]
     ·simp only[h0,if_false,ite_self,dite_eq_ite]
    ·simp[hr]
   ·rw[h1 hx]
    have:(i * 256≤p∧p - i * 256∈xs∧p - i * 256 < row.length)=(i * 256≤p∧p - i * 256∈x::xs∧p - i * 256 < row.length):=by
     refine propext ⟨fun h=>⟨h.1,by simp[h.2.1],h.2.2⟩,fun h=>⟨h.1,?_,h.2.2⟩⟩
     rcases List.mem_cons.1 h.2.1 with h4 | h4
     ·omega
     ·exact h4
    simp only[this]
  cases hr:row[x]? with
  |none=>
   refine key _ rfl (fun _=>rfl) (fun hx=> ?_)
   have:¬x < row.length:=by
    intro h;rw[List.getElem?_eq_getElem h] at hr;cases hr
   rw[if_neg this]
  |some to=>
   have hx2:x < row.length:=(List.getElem?_eq_some_iff.1 hr).1
   have hto:row.getD x 0=to:=by rw[List.getD_eq_getElem?_getD,hr];rfl
   simp only
   by_cases h0:0≤to
   ·rw[if_pos h0]
    refine key _ (by simp) (fun hx=>by rw[List.getElem?_set_ne (by omega)]) (fun hx=> ?_)
    rw[if_pos hx2,hto,if_pos h0,hx,List.getElem?_set_self (by omega),Zp,if_pos h0]
   ·rw[if_neg h0]
    refine key _ rfl (fun _=>rfl) (fun hx=> ?_)
    rw[if_pos hx2,hto,if_neg h0]
theorem zt {C:List Int} {i x:Nat} (hx:x < 256):(Va C i)[x]? =C[i * 256+x]? :=by
 unfold Va
 rw[List.getElem?_take_of_lt hx,List.getElem?_drop]
theorem nK {n:Nat} {Dc C:List Int} {i:Nat} (hC:C.length=n * 256) (hi:i < n):
 Va (Qd Dc (Va C i) i (List.range 256) C) i=(Va C i).map (Zp Dc):=by
 apply List.ext_getElem?
 intro x
 by_cases hx:x < 256
 ·rw[zt hx,Zv _ _ _ (by omega),List.getElem?_map]
  have e:i * 256+x - i * 256=x:=by omega
  have hl:=Lh hC hi
  rw[e,dif_pos ⟨by omega,by simpa using hx,by omega⟩]
  have hg:(Va C i)[x]? =some ((Va C i).getD x 0):=by
   rw[List.getD_eq_getElem?_getD,List.getElem?_eq_getElem (by omega)];rfl
  have hg2:=hg
  rw[zt hx] at hg2
  rw[hg2,hg]
  by_cases h0:0≤(Va C i).getD x 0
  ·rw[if_pos h0];rfl
  ·rw[if_neg h0,Option.map_some,Zp,if_neg h0]
 ·rw[List.getElem?_eq_none,List.getElem?_eq_none]
  ·rw[List.length_map,Lh hC hi];omega
  ·rw[Lh (n:=n) (by rw[Tl,hC]) hi];omega
theorem KF {n:Nat} {Dc row C:List Int} {i j:Nat} (hC:C.length=n * 256) (hj:j < n) (hij:j≠i) (hr:row.length=256):
 Va (Qd Dc row i (List.range 256) C) j=Va C j:=by
 apply List.ext_getElem?
 intro x
 by_cases hx:x < 256
 ·rw[zt hx,zt hx,Zv _ _ _ (by omega)]
  rw[dif_neg]
  rintro⟨h1,h2,h3⟩
  omega
 ·rw[List.getElem?_eq_none,List.getElem?_eq_none]
  ·rw[Lh hC hj];omega
  ·rw[Lh (n:=n) (by rw[Tl,hC]) hj];omega
structure Cy (n:Nat) (C0:List Int) (i:Nat) (s:XI):Prop where
 hC:s.C.length=n * 256
 hk:s.Dc.length=n
 hi:∀ j,i≤j→j < n→Va s.C j=(Va C0 j).map (Zp s.Dc)
 lo:∀ j,j < i→Va s.C j=Va C0 j
 look:∀ j,i≤j→j < n→yk (Va s.C j) s.M=some (s.Dc.getD j 0)
 inj:∀ p∈s.M,∀ q∈s.M,p.2=q.2→p.1=q.1
 rep:∀ p∈s.M,(i:Int)≤p.2∧p.2 < n∧Va s.C p.2.toNat=p.1
def uO (n:Nat) (C0:List Int):Prop:=∀ j,j < n→∀ to∈Va C0 j,0≤to→(j:Int) < to∧to < n
theorem vP {Dc:List Int} {i:Nat} {v to:Int} (h:0≤to→to.toNat≠i):Zp (Dc.set i v) to=Zp Dc to:=by
 unfold Zp
 split
 ·next h0=>rw[List.getD_eq_getElem?_getD,List.getD_eq_getElem?_getD,List.getElem?_set_ne (Ne.symm (h h0))]
 ·rfl
theorem dH {a:List Int} {M N:List (List Int×Int)}:yk a (M++N)=(yk a M).or (yk a N):=by
 induction M with
 |nil=>simp[yk]
 |cons p M ih=>
  rw[List.cons_append,yk,yk]
  split
  ·rfl
  ·exact ih
theorem Cy.step {n:Nat} {C0:List Int} (hlat:uO n C0) {i:Nat} {s:XI} (hin:i < n) (h:Cy n C0 (i+1) s):Cy n C0 i (Gk i s):=by
 have hrow:Va s.C i=Va C0 i:=h.lo i (by omega)
 have hrl:(Va C0 i).length=256:=by rw[← hrow];exact Lh h.hC hin
 have hC2:(Qd s.Dc (Va s.C i) i (List.range 256) s.C).length=n * 256:=by rw[Tl,h.hC]
 have hr1:=nK (Dc:=s.Dc) h.hC hin
 have hr2:∀ j,j < n→j≠i→Va (Qd s.Dc (Va s.C i) i (List.range 256) s.C) j=Va s.C j:=fun j hj hji=>KF h.hC hj hji (by rw[hrow];exact hrl)
 have hl1:=@As i s
 have hl2:=@Bs i s
 generalize Qd s.Dc (Va s.C i) i (List.range 256) s.C=C2 at *
 have hms:∀ v j,i≤j→j < n→(Va C0 j).map (Zp (s.Dc.set i v))=(Va C0 j).map (Zp s.Dc):=by
  intro v j hij hj
  apply List.map_congr_left
  intro to hto
  apply vP
  intro h0
  have:=hlat j hj to hto h0
  omega
 have main:∀ v M',yk (Va C2 i) M'=some v→(∀ j,i+1≤j→j < n→yk (Va C2 j) M'=yk (Va s.C j) s.M)→
  (∀ p∈M',∀ q∈M',p.2=q.2→p.1=q.1)→(∀ p∈M',(i:Int)≤p.2∧p.2 < n∧Va C2 p.2.toNat=p.1)→Cy n C0 i ⟨C2,s.Dc.set i v,M'⟩:=by
  intro v M' h1 h2 h3 h4
  refine⟨hC2,by simp[h.hk],?_,?_,?_,h3,h4⟩
  ·intro j hij hj
   show Va C2 j=(Va C0 j).map (Zp (s.Dc.set i v))
   rw[hms v j hij hj]
   by_cases hji:j=i
   ·subst hji;rw[hr1,hrow]
   ·rw[hr2 j hj hji,h.hi j (by omega) hj]
  ·intro j hj
   show Va C2 j=_
   rw[hr2 j (by omega) (by omega),h.lo j (by omega)]
  ·intro j hij hj
   show yk (Va C2 j) M'=some ((s.Dc.set i v).getD j 0)
   by_cases hji:j=i
   ·subst hji
    rw[h1,List.getD_eq_getElem?_getD,List.getElem?_set_self (by rw[h.hk];exact hj)];rfl
   ·rw[h2 j (by omega) hj,h.look j (by omega) hj,List.getD_eq_getElem?_getD,List.getD_eq_getElem?_getD,List.getElem?_set_ne (Ne.symm hji)]
 cases hlk:yk (Va C2 i) s.M with
 |some v=>
  rw[hl1 hlk]
  refine main v s.M hlk (fun j h1 h2=>by rw[hr2 j h2 (by omega)]) h.inj ?_
  intro p hp
  obtain⟨h1,h2,h3⟩:=h.rep p hp
  exact⟨by omega,h2,by rw[hr2 _ (by omega) (by omega),h3]⟩
 |none=>
  rw[hl2 hlk]
  refine main i _ (by rw[dH,hlk];simp[yk]) (fun j h1 h2=> ?_) ?_ ?_
  ·rw[hr2 j h2 (by omega),dH,h.look j h1 h2];rfl
  ·intro p hp q hq hpq
   rcases List.mem_append.1 hp with hp | hp <;> rcases List.mem_append.1 hq with hq | hq
   ·exact h.inj p hp q hq hpq
   ·simp at hq;subst hq
    have:=(h.rep p hp).1
    simp only at hpq;omega
   ·simp at hp;subst hp
    have:=(h.rep q hq).1
    simp only at hpq;omega
   ·simp at hp hq;subst hp hq;rfl
  ·intro p hp
   rcases List.mem_append.1 hp with hp | hp
   ·obtain⟨h1,h2,h3⟩:=h.rep p hp
    exact⟨by omega,h2,by rw[hr2 _ (by omega) (by omega),h3]⟩
   ·simp at hp;subst hp
    exact⟨by simp,by simp;omega,by simp⟩
theorem Cy.go {n:Nat} {C0:List Int} (hlat:uO n C0):∀ (k:Nat) (s:XI),k≤n→Cy n C0 k s→Cy n C0 0 (vj k s)
 |0,s,_,h=>h
 |k+1,s,hk,h=>Cy.go hlat k _ (by omega) (h.step hlat (by omega))
theorem wQ {n:Nat} {C0:List Int} (hlat:uO n C0) (hC:C0.length=n * 256):Cy n C0 0 (Te n C0):=by
 refine Cy.go hlat n _ (Nat.le_refl _) ⟨hC,by simp,fun j h1 h2=>by omega,fun j hj=>rfl,fun j h1 h2=>by omega,by simp,by simp⟩
theorem Cy.ZI {n:Nat} {C0:List Int} {s:XI} (h:Cy n C0 0 s) {j k:Nat} (hj:j < n) (hk:k < n):s.Dc.getD j 0=s.Dc.getD k 0↔Va s.C j=Va s.C k:=by
 have h1:=h.look j (by omega) hj
 have h2:=h.look k (by omega) hk
 constructor
 ·intro e
  obtain⟨p,hp,e1,e2⟩:=bu h1
  obtain⟨q,hq,e3,e4⟩:=bu h2
  rw[← e1,←e3]
  exact h.inj p hp q hq (by rw[e2,e4,e])
 ·intro e
  rw[e,h2] at h1
  exact (Option.some.inj h1).symm
theorem Cy.uo {n:Nat} {C0:List Int} {s:XI} (h:Cy n C0 0 s) {j:Nat} (hj:j < n):0≤s.Dc.getD j 0∧s.Dc.getD j 0 < n∧Va s.C (s.Dc.getD j 0).toNat=Va s.C j:=by
 obtain⟨p,hp,e1,e2⟩:=bu (h.look j (by omega) hj)
 obtain⟨h1,h2,h3⟩:=h.rep p hp
 rw[← e2,←e1]
 exact⟨by omega,h2,h3⟩
end Go.AM.B1
namespace Go.AM.B1
open Go.AM Go.AM.So
attribute [local irreducible] Pd
def yO (C:List (List Int)) (i j:Nat) (f:Nat→Nat→Bool) (g:Bool) (f':Nat→Nat→Bool) (g':Bool):Prop:=
 (f'=f∧g'=g∧(f i j=true∨∀ x,x < 256→qk C f i j x=false))∨(f i j=false∧(∃ x,x < 256∧qk C f i j x=true)∧f'=uy f i j∧g'=true)
section
variable (call:Ta) {C:List (List Int)} (hC:LI C)
include hC
theorem VS {i j:Nat} (hi:i < C.length) (hj:j < C.length) {H:List ba} {f:Nat→Nat→Bool} (hM:vr H C.length f) (g:Bool):
 Pd (fun r=>∃ E H' f' g',r=(.exit 8,⟨E,H'⟩)∧vr H' C.length f'∧yO C i j f g f' g'∧E.get 0= .pv (.lit 256 (C.map xi))∧E.get 3= .pv (i64 C.length)∧E.get 4= .own 0 C.length∧E.get 6= .pv (.bool g')∧E.get 7= .pv (i64 i)∧E.get 8= .pv (i64 j))
  (pb (ma (qa call Wa) (na (2 * C.length+1) [0,3,4,6,7,8,9])) pa ⟨Sy (.lit 256 (C.map xi)) C.length i j 0 g,H⟩):=by
 have hs2:uy f i j i j=true:=by unfold uy;rw[if_pos (.inl ⟨rfl,rfl⟩)]
 refine ya (Mb (g:=ma (qa call Wa) (na (2 * C.length+1) [0,3,4,6,7,8,9]))
  (fun x t=>∃ H' f' g',t=⟨Sy (.lit 256 (C.map xi)) C.length i j x g',H'⟩∧vr H' C.length f'∧((f'=f∧g'=g∧(f i j=true∨∀ x',x' < x→qk C f i j x'=false))∨(f i j=false∧(∃ x,x < 256∧qk C f i j x=true)∧f'=uy f i j∧g'=true)))
  256 (by unfold pa;omega) _ ⟨H,f,g,rfl,hM,.inl ⟨rfl,rfl,.inr fun x h=>by omega⟩⟩ ?_ ?_) (fun r h=>h.2)
 ·rintro x t hx ⟨H',f',g',rfl,hM',hP⟩
  refine ya (WE call hC hi hj hM' g' hx) ?_
  rintro r (⟨hu,E,rfl,k0,k3,k4,k6,k7,k8⟩ | ⟨hu,htl,rfl⟩ | ⟨hu,htl,H2,hM2,rfl⟩)
  ·refine⟨E,H',f',g',rfl,hM',?_,k0,k3,k4,k6,k7,k8⟩
   rcases hP with⟨rfl,rfl,hp⟩ | ⟨h1,h2,h3,h4⟩
   ·exact .inl ⟨rfl,rfl,.inl hu⟩
   ·exact .inr ⟨h1,h2,h3,h4⟩
  ·rcases hP with⟨rfl,rfl,hp⟩ | ⟨h1,h2,rfl,h4⟩
   ·refine⟨H',f',g',rfl,hM',.inl ⟨rfl,rfl,.inr fun x' hx'=> ?_⟩⟩
    rcases hp with hp | hp
    ·rw[hu] at hp;cases hp
    ·rcases Nat.lt_or_ge x' x with h | h
     ·exact hp x' h
     ·have:x'=x:=by omega
      subst this;exact htl
   ·rw[hs2] at hu;cases hu
  ·rcases hP with⟨rfl,rfl,hp⟩ | ⟨h1,h2,rfl,h4⟩
   ·exact⟨H2,_,true,rfl,hM2,.inr ⟨hu,⟨x,hx,htl⟩,rfl,rfl⟩⟩
   ·rw[hs2] at hu;cases hu
 ·rintro t ⟨H',f',g',rfl,hM',hP⟩
  have e1:decide (((256:Nat):Int) < 256)=false:=Ha (by omega)
  have hfin:∀ E,E.get 0= .pv (.lit 256 (C.map xi))→E.get 3= .pv (i64 C.length)→E.get 4= .own 0 C.length→E.get 6= .pv (.bool g')→E.get 7= .pv (i64 i)→E.get 8= .pv (i64 j)→
   (Ex.exit 8,(⟨E,H'⟩:St)).1.stop=true∧∃ E' H2 f' g',(Ex.exit 8,(⟨E,H'⟩:St))=(.exit 8,⟨E',H2⟩)∧vr H2 C.length f'∧yO C i j f g f' g'∧E'.get 0= .pv (.lit 256 (C.map xi))∧E'.get 3= .pv (i64 C.length)∧E'.get 4= .own 0 C.length∧E'.get 6= .pv (.bool g')∧E'.get 7= .pv (i64 i)∧E'.get 8= .pv (i64 j):=
   fun E k0 k3 k4 k6 k7 k8=>⟨rfl,E,H',f',g',rfl,hM',hP,k0,k3,k4,k6,k7,k8⟩
  have tn:((C.length:Int)).toNat=C.length:=by simp
  generalize hQ:(fun r:Ex×St=>r.1.stop=true∧_)=Q
  generalize (PV.lit 256 (C.map xi))=L at *
  simp -implicitDefEqProofs only[SX,sevalprocAttr,Wa,e1,tn,Sy]
  subst hQ
  exact hfin _ (by simp[Tr.aa]) (by simp[Tr.aa]) (by simp[Tr.aa]) (by simp[Tr.aa]) (by simp[Tr.aa]) (by simp[Tr.aa])
end
def Cn (n:Nat) (f:Nat→Nat→Bool):Nat:=((List.range n).flatMap fun i=>(List.range n).map fun j=>(i,j)).countP fun p=> !f p.1 p.2
theorem fH {α:Type} {p q:α→Bool}:∀ {l:List α},(∀ a∈l,q a=true→p a=true)→(∃ a∈l,p a=true∧q a=false)→l.countP q < l.countP p
 | [],_,⟨a,h,_⟩=>by cases h
 |b::l,h,⟨a,ha,hp,hq⟩=>by
  rw[List.countP_cons,List.countP_cons]
  have hmono:l.countP q≤l.countP p:=List.countP_mono_left fun x hx h1=>h x (by simp[hx]) h1
  rcases List.mem_cons.1 ha with rfl | ha
  ·rw[hp,hq];simp;omega
  ·have ih:=fH (l:=l) (fun x hx=>h x (by simp[hx])) ⟨a,ha,hp,hq⟩
   have hb:=h b (by simp)
   cases hqb:q b with
   |false=>simp;omega
   |true=>rw[hb hqb];simp;omega
theorem CQ {n:Nat} {f:Nat→Nat→Bool} {i j:Nat} (hi:i < n) (hj:j < n) (h:f i j=false):Cn n (uy f i j) < Cn n f:=by
 refine fH ?_ ⟨(i,j),?_,?_,?_⟩
 ·rintro⟨a,b⟩ _ h1
  simp only[uy,Bool.not_eq_true'] at h1 ⊢
  split at h1
  ·cases h1
  ·exact h1
 ·rw[List.mem_flatMap]
  exact⟨i,by simpa using hi,by rw[List.mem_map];exact⟨j,by simpa using hj,rfl⟩⟩
 ·simp[h]
 ·simp[uy]
theorem iQ (n:Nat) (f:Nat→Nat→Bool):Cn n f≤n * n:=by
 refine Nat.le_trans List.countP_le_length ?_
 have:∀ l:List Nat,(l.flatMap fun i=>(List.range n).map fun j=>(i,j)).length=l.length * n:=by
  intro l
  induction l with
  |nil=>simp
  |cons a l ih=>rw[List.flatMap_cons,List.length_append,ih,List.length_map,List.length_range,List.length_cons,Nat.succ_mul];omega
 rw[this,List.length_range]
 exact Nat.le_refl _
structure Pr (C:List (List Int)) (D:Nat→Nat→Prop) (f0:Nat→Nat→Bool) (done:Nat→Nat→Prop) (f:Nat→Nat→Bool) (g:Bool):Prop where
 snd:∀ a b,f a b=true→D a b
 sym:∀ a b,f a b=f b a
 ue:g=false→f=f0∧∀ i j,done i j→f i j=true∨∀ x,x < 256→qk C f i j x=false
 le:Cn C.length f≤Cn C.length f0
 lt:g=true→Cn C.length f < Cn C.length f0
def vJ (C:List (List Int)) (D:Nat→Nat→Prop):Prop:=(∀ a b,D a b→D b a)∧
 ∀ i j x (f:Nat→Nat→Bool),i < C.length→j < C.length→x < 256→(∀ a b,f a b=true→D a b)→qk C f i j x=true→D i j
theorem Pr.step {C:List (List Int)} {D:Nat→Nat→Prop} (hD:vJ C D) {f0 f f':Nat→Nat→Bool} {done:Nat→Nat→Prop} {g g':Bool} (h:Pr C D f0 done f g) {i j:Nat} (hi:i < C.length) (hj:j < C.length) (hp:yO C i j f g f' g'):
 Pr C D f0 (fun a b=>done a b∨(a=i∧b=j)) f' g':=by
 rcases hp with⟨rfl,rfl,hp⟩ | ⟨h1,⟨x,hx,h2⟩,rfl,rfl⟩
 ·refine⟨h.snd,h.sym,fun hg=>⟨(h.ue hg).1,?_⟩,h.le,h.lt⟩
  rintro a b (hd | ⟨rfl,rfl⟩)
  ·exact (h.ue hg).2 a b hd
  ·exact hp
 ·have hd:=hD.2 i j x f hi hj hx h.snd h2
  have hlt:=CQ hi hj h1
  have hle:=h.le
  refine⟨?_,?_,fun hg=>(by cases hg),by omega,fun _=>by omega⟩
  ·intro a b hab
   unfold uy at hab
   split at hab
   ·next hc=>
    rcases hc with⟨rfl,rfl⟩ | ⟨rfl,rfl⟩
    ·exact hd
    ·exact hD.1 _ _ hd
   ·exact h.snd a b hab
  ·intro a b
   unfold uy
   rw[h.sym a b]
   congr 1
   apply propext
   constructor
   ·rintro (⟨h1,h2⟩ | ⟨h1,h2⟩)
    ·exact .inr ⟨h2,h1⟩
    ·exact .inl ⟨h2,h1⟩
   ·rintro (⟨h1,h2⟩ | ⟨h1,h2⟩)
    ·exact .inr ⟨h2,h1⟩
    ·exact .inl ⟨h2,h1⟩
theorem Pr.weaken {C:List (List Int)} {D:Nat→Nat→Prop} {f0 f:Nat→Nat→Bool} {done done':Nat→Nat→Prop} {g:Bool} (h:Pr C D f0 done f g) (hd:∀ a b,done' a b→done a b):Pr C D f0 done' f g:=
 ⟨h.snd,h.sym,fun hg=>⟨(h.ue hg).1,fun a b hab=>(h.ue hg).2 a b (hd a b hab)⟩,h.le,h.lt⟩
end Go.AM.B1
