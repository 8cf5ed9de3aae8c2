/- What functions of the program compute. -/
import Derived.Test.YtijlhblleiaomaaGreatN8
set_option linter.unusedVariables false
set_option linter.unusedSimpArgs false
namespace Go.AM.B1
open Go.AM Go.AM.So
end Go.AM.B1
namespace Go.AM.B1
open Go.AM Go.AM.So
theorem WH {p q:List (List (Int×Int))} {i:Nat} (hp:i < p.length) (hq:i < q.length) (vp:Ka 255 (-2) p[i]=true) (vq:Ka 255 (-2) q[i]=true):
 Is p q i≠[]↔∃ x,x < 256∧Iy p[i] x=true∧Iy q[i] x=true:=by
 have hmA:Is p q i=te (p[i].length+q[i].length) p[i] q[i]:=by
  unfold Is
  rw[List.getElem?_eq_getElem hp,List.getElem?_eq_getElem hq]
 have hlaw:=Np _ _ _ (-2) (-2) vp vq (Nat.le_refl _)
 have hme:=gq vp
 rw[hmA]
 generalize p[i]=a at *
 generalize q[i]=b at *
 constructor
 ·intro h
  obtain⟨m,hm⟩:=List.exists_mem_of_ne_nil _ h
  have h2:=(hlaw.1 m.1).1 ⟨m,hm,Int.le_refl _,hlaw.2 m hm⟩
  have h0:0≤m.1∧m.1≤255:=by
   obtain⟨pp,hpp,h3,h4⟩:=h2.1
   have:=hme pp hpp;omega
  refine⟨m.1.toNat,by omega,?_,?_⟩
  ·rw[Iy,vp,Bool.true_and,Gt,Int.toNat_of_nonneg h0.1];exact h2.1
  ·rw[Iy,vq,Bool.true_and,Gt,Int.toNat_of_nonneg h0.1];exact h2.2
 ·rintro⟨x,hx,h1,h2⟩ hnil
  rw[Iy,vp,Bool.true_and,Gt] at h1
  rw[Iy,vq,Bool.true_and,Gt] at h2
  have:=(hlaw.1 x).2 ⟨h1,h2⟩
  rw[hnil] at this
  exact Tj _ this
end Go.AM.B1
namespace Go.AM.B1
open Go.AM Go.AM.So
end Go.AM.B1
namespace Go.AM.B1
open Go.AM Go.AM.So
def vT (f:Nat→Bool):List PV:=(List.range 32).map fun i=> .bool (f i)
def uS (d:Int) (f:Nat→Bool):List PV:=i64 d::vT f
theorem rK {f g:Nat→Bool} (h:∀ x,x < 32→f x=g x):vT f=vT g:=by
 unfold vT
 apply List.map_congr_left
 intro x hx
 rw[h x (by simpa using hx)]
def uT (a:Al):Prop:=∃ b:Nat,a.2=(b:Int)∧b < 4294967296
end Go.AM.B1
namespace Go.AM.B1
open Go.AM Go.AM.So
theorem fg {α:Type}:∀ (vs cs:List α) (off j:Nat),off+vs.length≤cs.length→(oa cs off vs)[j]? =if off≤j∧j < off+vs.length then vs[j - off]? else cs[j]?
 | [],cs,off,j,h=>by
   rw[if_neg (by simp only[List.length_nil];omega)];rfl
 |v::vs,cs,off,j,h=>by
  simp only[List.length_cons] at h
  rw[oa,fg vs _ (off+1) j (by simp;omega)]
  by_cases h1:off+1≤j∧j < off+1+vs.length
  ·rw[if_pos h1,if_pos (by simp only[List.length_cons];omega),show j - off=(j - (off+1))+1 by omega,List.getElem?_cons_succ]
  ·rw[if_neg h1]
   by_cases h2:off=j
   ·subst h2
    rw[List.getElem?_set_self (by omega),if_pos (by simp only[List.length_cons];omega),Nat.sub_self,List.getElem?_cons_zero]
   ·rw[List.getElem?_set_ne h2,if_neg (by simp only[List.length_cons];omega)]
def Au (n:Nat) (f:Nat→Bool):List PV:=(List.range n).map fun x=> .bool (f x)
theorem Sj (n:Nat) (f:Nat→Bool):(Au n f).length=n:=by rw[Au,List.length_map,List.length_range]
theorem ED (n:Nat) (f:Nat→Bool) {i:Nat} (h:i < (Au n f).length):(Au n f)[i]= .bool (f i):=by
 simp only[Au,List.getElem_map,List.getElem_range]
theorem fG {n:Nat} (f:Nat→Bool) {i:Nat} (h:i < n):(Au n f)[i]? =some (.bool (f i)):=by
 rw[List.getElem?_eq_getElem (by rw[Sj];exact h),ED]
theorem tabN_get? (n:Nat) (f:Nat→Bool) (i:Nat):(Au n f)[i]? =if i < n then some (.bool (f i)) else none:=by
 by_cases h:i < n
 ·rw[if_pos h,fG f h]
 ·rw[if_neg h,List.getElem?_eq_none (by rw[Sj];omega)]
def Ev (s:ec) (k x:Nat):Bool:=match s.parts[k]? with
 |some l=>Iy l x
 |none=>false
end Go.AM.B1
namespace Go.AM.B1
open Go.AM Go.AM.So
end Go.AM.B1
namespace Go.AM.B1
open Go.AM Go.AM.So
def si (f:Nat→Bool):Nat→Bool
 |0=>false
 |n+1=>si f n||f n
def CA (ss:List ec) (a:Al) (x j:Nat):Bool:=a.2.toNat.testBit j&&(match ss[j]? with | some s=>Ev s a.1 x | none=>false)
def Ky (ss:List ec) (a:Al) (x j:Nat):Bool:=CA ss a x j&&(match ss[j]? with | some s=>((s.parts.length:Int)==(a.1:Int)+1) | none=>false)
theorem qR {row:List PV} {k:Nat} {e:PV} (h:row[k]? =some e) (H:List aa):na H false 1 (.pv (.rp row k))=some (.pv e):=by
 simp only[na,Gk,Bool.false_eq_true,if_false,h,Option.map_some]
end Go.AM.B1
namespace Go.AM.B1
open Go.AM Go.AM.So
theorem QC {x:Int}:∀ {l:List (Int×Int)} {last n:Int},Ka 255 last l=true→((me x n l).2=true↔Eh x l)
 | [],last,n,h=>by simp[me,Tj]
 |p::l,last,n,h=>by
  have hp:=gq h p (by simp)
  have h2:=h
  simp only[Ka,Bool.and_eq_true] at h2
  rw[me,Cj]
  by_cases h1:x < p.1
  ·rw[if_pos h1]
   simp only[Bool.false_eq_true,false_iff]
   rintro (h3 | h3)
   ·omega
   ·have:=uo h2.2 h3;omega
  ·rw[if_neg h1]
   by_cases h3:x≤p.2
   ·rw[if_pos h3];simp;omega
   ·rw[if_neg h3,QC h2.2]
    constructor
    ·exact .inr
    ·rintro (h4 | h4)
     ·omega
     ·exact h4
theorem tM (l:List (Int×Int)) (x:Nat):YL l x=Iy l x:=by
 unfold YL yu Iy
 by_cases h:Ka 255 (-2) l=true
 ·rw[if_pos h,h,Bool.true_and,Bool.eq_iff_iff,QC h,Gt]
 ·rw[if_neg h]
  have:Ka 255 (-2) l=false:=by simpa using h
  rw[this];rfl
theorem Zr (s:ec) (d x:Nat):Bp s d x=Ev s d x:=by
 unfold Bp Ev
 cases s.parts[d]? with
 |none=>rfl
 |some l=>exact tM l x
theorem Mo (f:Nat→Bool):∀ n,si f n=true↔∃ j,j < n∧f j=true
 |0=>by simp[si]
 |n+1=>by
  rw[si,Bool.or_eq_true,Mo f n]
  constructor
  ·rintro (⟨j,h1,h2⟩ | h)
   ·exact⟨j,by omega,h2⟩
   ·exact⟨n,by omega,h⟩
  ·rintro⟨j,h1,h2⟩
   by_cases h:j=n
   ·subst h;exact .inr h2
   ·exact .inl ⟨j,by omega,h2⟩
theorem uJ {ss:List ec} {a:Al} {x j:Nat} (h:ss.length≤j):CA ss a x j=false:=by
 rw[CA,List.getElem?_eq_none h,Bool.and_false]
structure BC (ss:List ec) (a:Al) (x:Nat) (m:Nat):Prop where
 fst:(Cf x a.2 a.1 0 ss (0,false)).1=(m:Int)
 lt:m < 4294967296
 bit:∀ j,m.testBit j=CA ss a x j
 ends:(Cf x a.2 a.1 0 ss (0,false)).2=si (Ky ss a x) ss.length
 ex:m≠0↔si (CA ss a x) ss.length=true
theorem DS {ss:List ec} {a:Al} (hb:uT a) (hw:ss.length≤32) (x:Nat):∃ m,BC ss a x m:=by
 obtain⟨d,_⟩:=a
 obtain⟨b,rfl,hb⟩:=hb
 have hN:Cf x (b:Int) d 0 ss (0,false)=(((gp x b d 0 ss (0,false)).1:Int),(gp x b d 0 ss (0,false)).2):=EI (x:=x) (d:=d) hb ss 0 (0,false) (by omega) (by decide)
 have hbit:∀ j,(gp x b d 0 ss (0,false)).1.testBit j=CA ss (d,(b:Int)) x j:=by
  intro j
  rw[xx]
  simp only[Nat.zero_testBit,Nat.zero_le,decide_true,Bool.true_and,Bool.false_or,Nat.sub_zero,CA,Int.toNat_natCast]
  cases ss[j]? with
  |none=>simp
  |some s=>simp only[Zr]
 refine⟨(gp x b d 0 ss (0,false)).1,?_,FD ss 0 (0,false) (by omega) (by decide),hbit,?_,?_⟩
 ·show (Cf x (b:Int) d 0 ss (0,false)).1=_
  rw[hN]
 ·show (Cf x (b:Int) d 0 ss (0,false)).2=_
  rw[hN]
  show (gp x b d 0 ss (0,false)).2=_
  rw[Kw,Bool.false_or,Bool.eq_iff_iff,List.any_eq_true,Mo]
  constructor
  ·rintro⟨⟨s,j⟩,h1,h2⟩
   rw[List.mk_mem_zipIdx_iff_getElem?] at h1
   have hj:=(List.getElem?_eq_some_iff.1 h1).1
   refine⟨j,hj,?_⟩
   simp only[Zr,Bool.and_eq_true,beq_iff_eq] at h2
   rw[Ky,CA,h1]
   simp only[Int.toNat_natCast,Bool.and_eq_true,beq_iff_eq]
   exact⟨h2.1,by omega⟩
  ·rintro⟨j,hj,h2⟩
   have h1:ss[j]? =some ss[j]:=List.getElem?_eq_getElem hj
   rw[Ky,CA,h1] at h2
   simp only[Int.toNat_natCast,Bool.and_eq_true,beq_iff_eq] at h2
   refine⟨(ss[j],j),by rw[List.mk_mem_zipIdx_iff_getElem?];exact h1,?_⟩
   simp only[Zr,Bool.and_eq_true,beq_iff_eq]
   exact⟨h2.1,by omega⟩
 ·rw[Mo]
  constructor
  ·intro h
   apply Decidable.byContradiction
   intro hn
   apply h
   apply Nat.eq_of_testBit_eq
   intro j
   rw[hbit,Nat.zero_testBit]
   by_cases hj:j < ss.length
   ·cases hc:CA ss (d,(b:Int)) x j with
    |false=>rfl
    |true=>exact absurd ⟨j,hj,hc⟩ hn
   ·exact uJ (by omega)
  ·rintro⟨j,hj,h⟩ h0
   rw[← hbit,h0,Nat.zero_testBit] at h
   cases h
theorem BC.enc {ss:List ec} {a:Al} {x m:Nat} (h:BC ss a x m):uS ((a.1:Int)+1) (fun j=>decide (j < ss.length)&&CA ss a x j)=uS ((a.1+1:Nat):Int) m.testBit:=by
 have:((a.1+1:Nat):Int)=(a.1:Int)+1:=by omega
 rw[this]
 unfold uS
 congr 1
 refine rK fun j hj=> ?_
 rw[h.bit]
 by_cases hj:j < ss.length
 ·rw[decide_eq_true hj,Bool.true_and]
 ·rw[decide_eq_false hj,Bool.false_and,uJ (by omega)]
theorem BC.step {ss:List ec} {a:Al} {x m:Nat} (h:BC ss a x m) (sets:List Al):
 Tg ss a x sets=if si (CA ss a x) ss.length=false then some (sets,-2)
  else if si (Ky ss a x) ss.length=true then some (sets,-1)
  else match wo (a.1+1,(m:Int)) sets 0 with
   |some k=>some (sets,(k:Int))
   |none=>if sets.length < 64 then some (sets++[(a.1+1,(m:Int))],(sets.length:Int)) else none:=by
 unfold Tg
 rw[h.ends,h.fst]
 have:((m:Int)=0)=(si (CA ss a x) ss.length=false):=by
  apply propext
  have:=h.ex
  cases hc:si (CA ss a x) ss.length with
  |true=>rw[hc] at this;simp;have:=this.2 rfl;omega
  |false=>
   rw[hc] at this
   simp
   exact Decidable.byContradiction fun hn=>by have:=this.1 hn;cases this
 by_cases h1:si (CA ss a x) ss.length=false
 ·rw[if_pos h1,if_pos (this.mpr h1)]
 ·rw[if_neg h1,if_neg (fun h=>h1 (this.mp h))]
  by_cases h2:si (Ky ss a x) ss.length=true
  ·rw[if_pos h2,if_pos h2]
  ·rw[if_neg h2,if_neg h2]
   cases wo (a.1+1,(m:Int)) sets 0 <;> rfl
end Go.AM.B1
namespace Go.AM.B1
open Go.AM Go.AM.So
section
variable (call:Fa) {S:PV} {ss:List ec} {es:List PV} (hS:Ld S ss es) (hw:ss.length≤32) (h8:∀ s∈ss,s.parts.length≤8) {sets:List Al} {n x:Nat} {a:Al} (ha:sets[n]? =some a) (hx:x < 256)
 (ta:Wn ss sets) (hd:a.1≤64)
 (nl nl3:Bool) (rs:List PV) (o0 o1 o3:aa) (h0:∀ n,pa n o0=some o0) (h1:∀ n,pa n o1=some o1) (h3:∀ n,pa n o3=some o3) {row:List Int} (hrow:row.length=256)
include hS hw h8 ha hx ta hd h0 h1 h3 hrow
end
end Go.AM.B1
namespace Go.AM.B1
open Go.AM Go.AM.So
section
variable (call:Fa) {S:PV} {ss:List ec} {es:List PV} (hS:Ld S ss es) (hw:ss.length≤32) (h8:∀ s∈ss,s.parts.length≤8) {n:Nat} {a:Al}
 (hd:a.1≤64)
 (nl nl3:Bool) (rs:List PV) (o0 o1 o3:aa) (h0:∀ n,pa n o0=some o0) (h1:∀ n,pa n o1=some o1) (h3:∀ n,pa n o3=some o3)
include hS hw h8 hd h0 h1 h3
end
section
variable (call:Fa) {S:PV} {ss:List ec} {es:List PV} (hS:Ld S ss es) (hw:ss.length≤32) (h8:∀ s∈ss,s.parts.length≤8)
 (nl:Bool) (k0:Nat) (F:List PV)
include hS hw h8
end
end Go.AM.B1
