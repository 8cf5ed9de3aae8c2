/- What functions of the program compute. -/
import Derived.Test.YtijlhblleiaomaaGreatN5
set_option linter.unusedVariables false
set_option linter.unusedSimpArgs false
namespace Go.AM.B1
open Go.AM
theorem wrap_u32 {n:Nat} (h:n < 4294967296):IntKind.u32.wrap (n:Int)=(n:Int):=by
 have e:IntKind.u32.wrap (n:Int)=(n:Int) % 4294967296:=by
  simp[IntKind.signed,IntKind.wrap,IntKind.bits]
 rw[e];omega
theorem yN {a b:Nat} (ha:a < 4294967296) (hb:b < 4294967296):(BitVec.ofInt IntKind.u32.bits (a:Int) &&& BitVec.ofInt IntKind.u32.bits (b:Int)).toNat=a &&& b:=by
 show (BitVec.ofInt 32 (a:Int) &&& BitVec.ofInt 32 (b:Int)).toNat=_
 rw[BitVec.toNat_and,BitVec.ofInt_natCast,BitVec.ofInt_natCast,BitVec.toNat_ofNat,BitVec.toNat_ofNat,Nat.mod_eq_of_lt ha,Nat.mod_eq_of_lt hb]
theorem rR {a b:Nat} (ha:a < 4294967296) (hb:b < 4294967296):(BitVec.ofInt IntKind.u32.bits (a:Int) ||| BitVec.ofInt IntKind.u32.bits (b:Int)).toNat=a ||| b:=by
 show (BitVec.ofInt 32 (a:Int) ||| BitVec.ofInt 32 (b:Int)).toNat=_
 rw[BitVec.toNat_or,BitVec.ofInt_natCast,BitVec.ofInt_natCast,BitVec.toNat_ofNat,BitVec.toNat_ofNat,Nat.mod_eq_of_lt ha,Nat.mod_eq_of_lt hb]
theorem xG {n i:Nat} (hn:n < 4294967296) (hi:i < 32):gv (n:Int) i=n.testBit i:=by
 have hm:min i IntKind.u32.bits=i:=by show min i 32=i;omega
 have hf:(n:Int).fdiv (2 ^ i)=((n / 2 ^ i:Nat):Int):=by
  rw[show ((2:Int) ^ i)=((2 ^ i:Nat):Int) by push_cast;rfl]
  exact (Int.ofNat_fdiv n (2 ^ i)).symm
 have hle:n / 2 ^ i < 4294967296:=Nat.lt_of_le_of_lt (Nat.div_le_self _ _) hn
 have e:(BitVec.ofInt IntKind.u32.bits ((n / 2 ^ i:Nat):Int) &&& BitVec.ofInt IntKind.u32.bits 1).toNat=n / 2 ^ i % 2:=by
  have:=yN hle (show 1 < 4294967296 by decide)
  rw[Nat.and_one_is_mod] at this
  exact this
 unfold gv
 rw[hm,hf,e,wrap_u32 (by omega),Nat.testBit_eq_decide_div_mod_eq]
 rcases Nat.mod_two_eq_zero_or_one (n / 2 ^ i) with h | h <;> rw[h] <;> rfl
theorem IP {n i:Nat} (hn:n < 4294967296) (hi:i < 32):cT (n:Int) i=((n ||| 2 ^ i:Nat):Int):=by
 have hm:min i IntKind.u32.bits=i:=by show min i 32=i;omega
 have hp:2 ^ i < 4294967296:=by
  have:(2:Nat) ^ i < 2 ^ 32:=Nat.pow_lt_pow_right (by decide) hi
  simpa using this
 have h2:IntKind.u32.wrap (1 * 2 ^ i)=((2 ^ i:Nat):Int):=by
  rw[Int.one_mul,show ((2:Int) ^ i)=((2 ^ i:Nat):Int) by push_cast;rfl,wrap_u32 hp]
 unfold cT
 rw[hm,h2,rR hn hp,wrap_u32]
 exact Nat.or_lt_two_pow (n:=32) hn hp
def Mp (x:Int) (bits d:Nat):Nat→List ec→Nat×Bool→Nat×Bool
 |_,[],acc=>acc
 |i,s::r,acc=>Mp x bits d (i+1) r (if bits.testBit i&&yp s d x then (acc.1 ||| 2 ^ i,acc.2||(s.parts.length==d+1)) else acc)
theorem zE {x:Int} {bits d:Nat}:∀ (ss:List ec) (i:Nat) (acc:Nat×Bool),i+ss.length≤32→acc.1 < 4294967296→(Mp x bits d i ss acc).1 < 4294967296
 | [],i,acc,_,h=>h
 |s::r,i,acc,hl,h=>by
  rw[Mp]
  refine zE r (i+1) _ (by simp only[List.length_cons] at hl;omega) ?_
  split
  ·refine Nat.or_lt_two_pow (n:=32) h ?_
   exact Nat.pow_lt_pow_right (by decide) (by simp only[List.length_cons] at hl;omega)
  ·exact h
theorem xI {x:Int} {bits d:Nat} (hb:bits < 4294967296):∀ (ss:List ec) (i:Nat) (acc:Nat×Bool),i+ss.length≤32→acc.1 < 4294967296→
 Cf x (bits:Int) d i ss ((acc.1:Int),acc.2)=(((Mp x bits d i ss acc).1:Int),(Mp x bits d i ss acc).2)
 | [],i,acc,_,h=>rfl
 |s::r,i,acc,hl,h=>by
  have hi:i < 32:=by simp only[List.length_cons] at hl;omega
  rw[Cf,Mp,xG hb hi,IP h hi]
  have h2:(acc.1 ||| 2 ^ i) < 4294967296:=Nat.or_lt_two_pow (n:=32) h (Nat.pow_lt_pow_right (by decide) hi)
  have ih:=xI (x:=x) (d:=d) hb r (i+1) (if bits.testBit i&&yp s d x then (acc.1 ||| 2 ^ i,acc.2||(s.parts.length==d+1)) else acc)
   (by simp only[List.length_cons] at hl;omega) (by split;exact h2;exact h)
  rw[← ih]
  cases bits.testBit i&&yp s d x <;> rfl
theorem vw {x:Int} {bits d:Nat}:∀ (ss:List ec) (i:Nat) (acc:Nat×Bool) (j:Nat),
 (Mp x bits d i ss acc).1.testBit j=(acc.1.testBit j||(decide (i≤j)&&(match ss[j - i]? with | some s=>bits.testBit j&&yp s d x | none=>false)))
 | [],i,acc,j=>by simp[Mp]
 |s::r,i,acc,j=>by
  rw[Mp,vw r (i+1)]
  by_cases hij:i=j
  ·subst hij
   simp only[Nat.sub_self,List.getElem?_cons_zero,Nat.le_refl,decide_true,Bool.true_and]
   have:decide (i+1≤i)=false:=by simp
   rw[this,Bool.false_and,Bool.or_false]
   cases h:(bits.testBit i&&yp s d x) with
   |true=>simp[Nat.testBit_or,Nat.testBit_two_pow_self]
   |false=>simp
  ·have e1:(if (bits.testBit i&&yp s d x)=true then (acc.1 ||| 2 ^ i,acc.2||s.parts.length==d+1) else acc).1.testBit j=acc.1.testBit j:=by
    split
    ·simp only[Nat.testBit_or,Nat.testBit_two_pow_of_ne hij,Bool.or_false]
    ·rfl
   rw[e1]
   by_cases hlt:i+1≤j
   ·have e2:j - i=(j - (i+1))+1:=by omega
    have e3:decide (i≤j)=decide (i+1≤j):=by simp;omega
    rw[e2,e3,List.getElem?_cons_succ]
   ·have e3:decide (i≤j)=false:=by simp;omega
    have e4:decide (i+1≤j)=false:=by simp;omega
    rw[e3,e4];rfl
theorem ux {x:Int} {bits d:Nat}:∀ (ss:List ec) (i:Nat) (acc:Nat×Bool),
 (Mp x bits d i ss acc).2=(acc.2||(ss.zipIdx i).any fun p=>bits.testBit p.2&&yp p.1 d x&&(p.1.parts.length==d+1))
 | [],i,acc=>by simp[Mp]
 |s::r,i,acc=>by
  rw[Mp,ux r (i+1),List.zipIdx_cons,List.any_cons]
  cases h:(bits.testBit i&&yp s d x) with
  |true=>simp[Bool.or_assoc]
  |false=>simp
end Go.AM.B1
namespace Go.AM.B1
open Go.AM
def ZE (ss:List ec) (k:Nat) (a:Al):Prop:=
 a.1≤k∧∃ b:Nat,a.2=(b:Int)∧b < 4294967296∧∀ i s,ss[i]? =some s→b.testBit i=true→a.1 < s.parts.length
def Hn (ss:List ec) (sets:List Al):Prop:=sets.length≤64∧∀ k a,sets[k]? =some a→ZE ss k a
theorem ZE.ta {ss:List ec} {k:Nat} {a:Al} (h:ZE ss k a) (hl:ss.length≤32):∀ i s,ss[i]? =some s→gv a.2 i=true→a.1 < s.parts.length:=by
 obtain⟨_,b,e,hb,h⟩:=h
 intro i s hs ht
 have hi:i < 32:=by have:=(List.getElem?_eq_some_iff.1 hs).1;omega
 rw[e,xG hb hi] at ht
 exact h i s hs ht
theorem YR {ss:List ec} {k:Nat} {a:Al} {x:Int} (h:ZE ss k a) (hl:ss.length≤32) (hf:(Cf x a.2 a.1 0 ss (0,false)).2=false):
 ZE ss (k+1) (a.1+1,(Cf x a.2 a.1 0 ss (0,false)).1):=by
 obtain⟨hk,b,e,hb,h⟩:=h
 have hN:Cf x (b:Int) a.1 0 ss (0,false)=(((Mp x b a.1 0 ss (0,false)).1:Int),(Mp x b a.1 0 ss (0,false)).2):=xI (x:=x) (d:=a.1) hb ss 0 (0,false) (by omega) (by decide)
 rw[e,hN] at hf
 rw[e,hN]
 have hlt:=zE (x:=x) (bits:=b) (d:=a.1) ss 0 (0,false) (by omega) (by decide)
 refine⟨Nat.succ_le_succ hk,_,rfl,hlt,?_⟩
 intro i s hs ht
 rw[vw] at ht
 simp only[Nat.zero_testBit,Nat.zero_le,decide_true,Bool.true_and,Bool.false_or,Nat.sub_zero,hs] at ht
 have hd:=h i s hs (by revert ht;cases b.testBit i <;> simp)
 have hf':(Mp x b a.1 0 ss (0,false)).2=false:=hf
 rw[ux,Bool.false_or,List.any_eq_false] at hf'
 have:=hf' (s,i) (by rw[List.mk_mem_zipIdx_iff_getElem?];exact hs)
 show a.1+1 < s.parts.length
 simp only[ht,Bool.true_and] at this
 have h2:¬s.parts.length=a.1+1:=by simpa using this
 omega
theorem eF {ss:List ec} {a:Al} {x:Int} {sets:List Al} {r:List Al×Int} {k:Nat} (hs:Hn ss sets) (ha:sets[k]? =some a) (hl:ss.length≤32) (h:Ug ss a x sets=some r):
 Hn ss r.1∧∃ t,r.1=sets++t:=by
 have hk:=hs.2 k a ha
 unfold Ug at h
 split at h
 ·injection h with h;subst h;exact⟨hs,[],by simp⟩
 ·split at h
  ·injection h with h;subst h;exact⟨hs,[],by simp⟩
  ·next hf=>
   split at h
   ·injection h with h;subst h;exact⟨hs,[],by simp⟩
   ·split at h
    ·next hlt=>
     injection h with h;subst h
     refine⟨⟨by simp;omega,?_⟩,_,rfl⟩
     intro j b hb
     rcases Nat.lt_or_ge j sets.length with h1 | h1
     ·rw[List.getElem?_append_left h1] at hb;exact hs.2 j b hb
     ·rw[List.getElem?_append_right h1] at hb
      cases hj:j - sets.length with
      |succ n=>rw[hj] at hb;simp at hb
      |zero=>
       rw[hj] at hb
       simp only[List.getElem?_cons_zero,Option.some.injEq] at hb
       subst hb
       have hkl:=(List.getElem?_eq_some_iff.1 ha).1
       obtain⟨g1,g2⟩:=YR hk hl (by simpa using hf)
       exact⟨Nat.le_trans g1 (by omega),g2⟩
    ·cases h
theorem Lv {ss:List ec} {a:Al} {k:Nat} (hl:ss.length≤32):∀ (xs:List Nat) (r r':List Al×List Int),Hn ss r.1→r.1[k]? =some a→tn ss a xs r=some r'→
 Hn ss r'.1∧(∃ t,r'.1=r.1++t)∧r'.2.length=r.2.length
 | [],r,r',h,_,e=>by injection e with e;subst e;exact⟨h,⟨[],by simp⟩,rfl⟩
 |x::xs,r,r',h,ha,e=>by
  cases hst:Ug ss a x r.1 with
  |none=>rw[zt hst] at e;cases e
  |some p=>
   rw[Mt hst] at e
   obtain⟨g1,t,g2⟩:=eF h ha hl hst
   obtain⟨k1,⟨t',k2⟩,k3⟩:=Lv hl xs (p.1,r.2.set x p.2) r' g1 (by rw[g2,List.getElem?_append_left (List.getElem?_eq_some_iff.1 ha).1];exact ha) e
   exact⟨k1,⟨t++t',by rw[k2,g2,List.append_assoc]⟩,by rw[k3];simp⟩
def Ya:List Int:=List.replicate 256 0
theorem GA:Ya.length=256:=List.length_replicate
def Ui (ss:List ec):Nat→List Al×List (List Int)→Option (List Al×List (List Int))
 |0,r=>some r
 |k+1,r=>match r.1[r.2.length]? with
  |none=>some r
  |some a=>match tn ss a (List.range 256) (r.1,Ya) with
   |none=>none
   |some p=>Ui ss k (p.1,r.2++[p.2])
theorem It {ss:List ec} {k:Nat} {r:List Al×List (List Int)} (h:r.1[r.2.length]? =none):Ui ss k r=some r:=by
 cases k with
 |zero=>rfl
 |succ k=>rw[Ui,h]
theorem Mu {ss:List ec} {k:Nat} {r:List Al×List (List Int)} {a:Al} (h:r.1[r.2.length]? =some a) (h2:tn ss a (List.range 256) (r.1,Ya)=none):Ui ss (k+1) r=none:=by
 rw[Ui,h];simp only[h2]
theorem Su {ss:List ec} {k:Nat} {r:List Al×List (List Int)} {a:Al} {p:List Al×List Int} (h:r.1[r.2.length]? =some a) (h2:tn ss a (List.range 256) (r.1,Ya)=some p):Ui ss (k+1) r=Ui ss k (p.1,r.2++[p.2]):=by
 rw[Ui,h];simp only[h2]
section
variable (R0 R1:aa) (S:PV) (nl:Bool) (sets:List Al) (rs:List (List Int)) (ss:List ec) (i:Nat)
theorem MN (h0:pa 7 R0=some R0) (h1:pa 7 R1=some R1) (hi:i < sets.length) (hl:sets.length≤64)
 (hrowL:xq 2 (.pv (.bool false)) R0 (Fb (fa (ga (za ua 7) ya) (xa 7 [0,3,4,30])) wa ⟨Lj i 0,wh R0 R1 S nl sets (cf rs) rs.length [.box (Aa (List.replicate 256 0))]⟩)):
 xq 2 (.pv (.bool false)) R0 (Zb (za ua 7) [0,3] Ua 6 ⟨Dx i,wh R0 R1 S nl sets (cf rs) rs.length []⟩):=by
 have hlen:(sets.map Wf).length=sets.length:=by simp
 have e1:decide ((i:Int) < (sets.length:Int))=true:=db (by omega)
 have q5:=Ts 7 6 rs
 obtain⟨t,g1,g2,g3⟩:=En hrowL
 simp only[Lj,wh,cf,Int.cast_ofNat_Int] at g1
 unfold wh cf
 have hz2:=DS
 generalize hz:List.replicate 256 (0:Int)=zs at *
 simp -implicitDefEqProofs only[SP,SA,SQ,sevalprocAttr,-List.reduceReplicate,Zb,fa,Ua,hlen,e1,Tc,xa,Ra,Wj,Nj,xk,Pp,Ha,Km,AV.cut,Rb,h0,h1,Dx,hz2,q5]
 rw[g1]
 simp -implicitDefEqProofs only[SP,SA,SQ,sevalprocAttr,-List.reduceReplicate,JA,g2,g3]
theorem TF (hi:i=sets.length):
 Zb (za ua 7) [0,3] Ua 6 ⟨Dx i,wh R0 R1 S nl sets (cf rs) rs.length []⟩=
  some (.exit 0,⟨(((((((Dx i).set 21 (.pv (i64 i))).set 22 (.ptr 3 0)).set 23 (.ptr 3 0)).set 24 (.ptr 3 2)).set 25 (.uq 4 nl 2 (sets.map Wf))).set 26 (.pv (i64 sets.length))).set 27 (.pv (.bool false)),wh R0 R1 S nl sets (cf rs) rs.length []⟩):=by
 have hlen:(sets.map Wf).length=sets.length:=by simp
 have e1:decide ((i:Int) < (sets.length:Int))=false:=mb (by omega)
 simp -implicitDefEqProofs only[SP,SA,SQ,sevalprocAttr,-List.reduceReplicate,Zb,fa,Ua,hlen,e1,Dx,wh]
theorem GK (n:Nat):pa n (cf rs)=some (cf rs):=by
 have:(rs.flatMap Aa).all (AV.Wc n deep)=true:=Ts n deep rs
 unfold cf
 rw[Pp,if_pos this]
theorem TL (h0:pa 7 R0=some R0) (h1:pa 7 R1=some R1) (g0:pa 6 R0=some R0) (g1:pa 6 R1=some R1)
 (hS:Bh 2 S (ss.map Cd)) (hw:ss.length≤32) (hsz:∀ s∈ss,∀ l∈s.parts,l.length * 16≤140737488355328) (ta:Hn ss sets) (h1s:sets.length≤1):
 (∀ r,Ui ss 64 (sets,[])=some r→∃ E nl',Fb (fa (ga (za ua 7) Ua) (xa 6 [0,3])) wa ⟨Dx 0,wh R0 R1 S nl sets (cf []) 0 []⟩=
  some (.exit 0,⟨E,wh R0 R1 S nl' r.1 (cf r.2) r.2.length []⟩)∧Hn ss r.1∧r.2.length=r.1.length∧∀ r'∈r.2,r'.length=256)∧
 (Ui ss 64 (sets,[])=none→xq 2 (.pv (.bool false)) R0 (Fb (fa (ga (za ua 7) Ua) (xa 6 [0,3])) wa ⟨Dx 0,wh R0 R1 S nl sets (cf []) 0 []⟩)):=by
 have key:=vi (g:=Zb (za ua 7) [0,3] Ua 6)
  (fun i t=>∃ nl' sets' rs',t=⟨Dx i,wh R0 R1 S nl' sets' (cf rs') rs'.length []⟩∧Ui ss 64 (sets,[])=Ui ss (64 - i) (sets',rs')∧Hn ss sets'∧rs'.length=i∧i≤sets'.length∧∀ r∈rs',r.length=256)
  (fun ex t=>(∃ r,ex= .exit 0∧Ui ss 64 (sets,[])=some r∧∃ E nl',t=⟨E,wh R0 R1 S nl' r.1 (cf r.2) r.2.length []⟩∧Hn ss r.1∧r.2.length=r.1.length∧∀ r'∈r.2,r'.length=256)∨
   (ex= .ret∧Ui ss 64 (sets,[])=none∧t.env.get 2= .pv (.bool false)∧t.H[0]? =some R0))
  wa 64 0 ⟨Dx (0:Nat),wh R0 R1 S nl sets (cf []) 0 []⟩ (by unfold wa;omega) (by omega) ⟨nl,sets,[],rfl,rfl,ta,rfl,by omega,by simp⟩ ?_ ?_
 ·obtain⟨ex,t,h,_,hq⟩:=key
  have h':Fb (fa (ga (za ua 7) Ua) (xa 6 [0,3])) wa ⟨Dx 0,wh R0 R1 S nl sets (cf []) 0 []⟩=some (ex,t):=h
  rw[h']
  rcases hq with⟨r,rfl,hr',E,nl',rfl,q1,q2,q3⟩ | ⟨rfl,hr',hg,hg2⟩
  ·refine⟨fun r2 e=> ?_,fun e=> ?_⟩
   ·rw[hr'] at e;injection e with e;subst e;exact⟨E,nl',rfl,q1,q2,q3⟩
   ·rw[hr'] at e;cases e
  ·refine⟨fun r2 e=> ?_,fun _=> .mk _ hg hg2⟩
   rw[hr'] at e;cases e
 ·rintro i hi t ⟨nl',sets',rs',rfl,hws,hok',hrl,hil,hrr⟩
  by_cases hlt:i < sets'.length
  ·obtain⟨a,ha⟩:∃ a,sets'[i]? =some a:=⟨sets'[i],by simp[hlt]⟩
   have hsa:=hok'.2 i a ha
   have hget:sets'[rs'.length]? =some a:=by rw[hrl];exact ha
   have hrow:=sN R0 R1 S (cf rs') rs'.length ss h0 h1 (GK rs' 7) hS (by unfold maxLen;omega) hsz (nl:=nl') GA ha (by have:=hsa.1;omega) hok'.1 (hsa.ta hw)
   have e64:64 - i=(64 - (i+1))+1:=by omega
   cases hr:tn ss a (List.range 256) (sets',Ya) with
   |none=>
    have hst:=MN R0 R1 S nl' sets' rs' i h0 h1 hlt hok'.1 (hrow.2 hr)
    obtain⟨t,k1,k2,k3⟩:=En hst
    rw[e64,Mu (r:=(sets',rs')) hget hr] at hws
    exact .inr ⟨.ret,t,k1,rfl,.inr ⟨rfl,hws,k2,k3⟩⟩
   |some p=>
    obtain⟨nl2,k1,k2,k3,k4⟩:=hrow.1 p hr
    have hro:=Lv hw _ _ _ hok' ha hr
    rw[e64,Su (r:=(sets',rs')) hget hr] at hws
    have hsr:=pM R0 R1 S nl' sets' rs' i h0 h1 g0 g1 hlt hok'.1 (by have:=hok'.1;omega) hrr nl2 p.1 p.2 k3 k1
    refine .inl ⟨_,hsr,nl2,p.1,rs'++[p.2],by simp,hws,hro.1,by simp[hrl],?_,?_⟩
    ·obtain⟨t,ht⟩:=k4
     rw[ht];simp;omega
    ·intro r hr
     rcases List.mem_append.1 hr with h | h
     ·exact hrr r h
     ·simp at h;subst h;exact k3
  ·have hie:i=sets'.length:=by omega
   rw[It (r:=(sets',rs')) (by show sets'[rs'.length]? =none;rw[hrl,hie];simp)] at hws
   exact .inr ⟨.exit 0,_,TF R0 R1 S nl' sets' rs' i hie,rfl,.inl ⟨(sets',rs'),rfl,hws,_,nl',rfl,hok',by show rs'.length=sets'.length;omega,hrr⟩⟩
 ·rintro t ⟨nl',sets',rs',rfl,hws,hok',hrl,hil,hrr⟩
  have hie:64=sets'.length:=by have:=hok'.1;omega
  rw[It (r:=(sets',rs')) (by show sets'[rs'.length]? =none;rw[hrl,hie];simp)] at hws
  exact⟨.exit 0,_,TF R0 R1 S nl' sets' rs' 64 hie,rfl,.inl ⟨(sets',rs'),rfl,hws,_,nl',rfl,hok',by show rs'.length=sets'.length;omega,hrr⟩⟩
end
end Go.AM.B1
namespace Go.AM.B1
open Go.AM
abbrev Xf (R0 R1:aa) (S:PV) (nl nr:Bool) (fr:Nat) (sets:List Al) (C:List Int) (n:Nat) (T:List aa):List aa:=
 R0::R1:: .map (Cy sets 0):: .box [.pv S,.mp 2,.uq 4 nl 2 (sets.map Wf),.own 5 n]:: .tok 2 sets.length nl:: .seq 256 true (Aa C) fr nr::T
abbrev TI (row:List Int):PV:= .agg (row.map i64)
abbrev tv (n:Nat) (row:List Int) (i x:Int):Tr:=
 (((((Tr.lf.set 34 (.pv (i64 x))).set 33 (.pv (TI row))).set 5 (.pv (i64 i))).set 4 (.mp 7)).set 3 (.own 6 n)).set 0 (.ptr 3 0)
section
variable (call:Fa) (R0 R1:aa) (S:PV) (nl nr nk:Bool) (fr fk:Nat) (sets:List Al) (C:List Int) (n:Nat) (Pb:List Int) (M:aa) (row:List Int) (i x:Nat) (to:Int)
theorem cI (hx:x < 256) (hto:row[x]? =some to) (h:to < 0):fa (ga call Mb) (fun s=>some (tidy [0,3,4,5,33,34] s)) ⟨tv n row i x,Xf R0 R1 S nl nr fr sets C n [.seq 1 false (Aa Pb) fk nk,M]⟩=
 some (.norm,⟨tv n row i (x+1:Nat),Xf R0 R1 S nl nr fr sets C n [.seq 1 false (Aa Pb) fk nk,M]⟩):=by
 have e1:decide ((x:Int) < 256)=true:=db (by omega)
 have e2:decide (to≥0)=false:=mb (by omega)
 have hq:Ca (x:Int) 256:=by unfold Ca;omega
 have t1:((x:Int)).toNat=x:=by simp
 have t2:=Ab (i:=x) (n:=256) hx (by unfold maxLen;omega)
 have ht:(row.map i64)[x]? =some (i64 to):=by rw[List.getElem?_map,hto];rfl
 simp -implicitDefEqProofs only[SP,SA,SQ,sevalprocAttr,-List.reduceReplicate,fa,Mb,e1,e2,eq_true hq,t1,t2,ht,Gk,ma,tidy,Yb,tv,Xf]
theorem zL (hC:C.length=n * 256) (hk:Pb.length=n) (hfr:fr≤n * 256) (hfk:fk≤n) (hi:i < n) (hx:x < 256) (hto:row[x]? =some to) (h:0≤to) {v:Int} (hv:Pb[to.toNat]? =some v):fa (ga call Mb) (fun s=>some (tidy [0,3,4,5,33,34] s)) ⟨tv n row i x,Xf R0 R1 S nl nr fr sets C n [.seq 1 false (Aa Pb) fk nk,M]⟩=
 some (.norm,⟨tv n row i (x+1:Nat),Xf R0 R1 S nl nr (n * 256) sets (C.set (i * 256+x) v) n [.seq 1 false (Aa Pb) fk nk,M]⟩):=by
 have e1:decide ((x:Int) < 256)=true:=db (by omega)
 have e2:decide (to≥0)=true:=db (by omega)
 have hq:Ca (x:Int) 256:=by unfold Ca;omega
 have t1:((x:Int)).toNat=x:=by simp
 have t3:((i:Int)).toNat=i:=by simp
 have t2:=Ab (i:=x) (n:=256) hx (by unfold maxLen;omega)
 have ht:(row.map i64)[x]? =some (i64 to):=by rw[List.getElem?_map,hto];rfl
 have hv':(Aa Pb)[to.toNat]? =some (.pv (i64 v)):=by rw[Aa,List.getElem?_map,hv];rfl
 have hvl:=(List.getElem?_eq_some_iff.1 hv).1
 have hq2:Ca to n:=by unfold Ca;omega
 have hq3:Ca (i:Int) n:=by unfold Ca;omega
 have w1:xg 1 n fk (Aa Pb).length:=by rw[Qa];unfold xg;omega
 have w2:xg 256 n fr (Aa C).length:=by rw[Qa];unfold xg;omega
 have w3:((Aa Pb).length=n)=True:=by rw[Qa];exact eq_true hk
 have w5:(i * 256+x+1≤n * 256)=True:=eq_true (by omega)
 have w4:((Aa C).length=n * 256)=True:=by rw[Qa];exact eq_true hC
 simp -implicitDefEqProofs only[SP,SA,SQ,sevalprocAttr,-List.reduceReplicate,fa,Mb,e1,e2,eq_true hq,eq_true hq2,eq_true hq3,eq_true w1,eq_true w2,w3,w4,w5,t1,t2,t3,ht,hv',Gk,ma,Eh,tidy,Yb,tv,Xf]
def Lc (Pb row:List Int) (i:Nat):List Nat→List Int→List Int
 | [],C=>C
 |x::xs,C=>Lc Pb row i xs (match row[x]? with
  |some to=>if 0≤to then C.set (i * 256+x) (Pb.getD to.toNat 0) else C
  |none=>C)
theorem Bj (Pb row:List Int) (i:Nat):∀ (xs:List Nat) (C:List Int),(Lc Pb row i xs C).length=C.length
 | [],C=>rfl
 |x::xs,C=>by
  rw[Lc,Bj Pb row i xs]
  split
  ·split <;> simp
  ·rfl
theorem dF (hC:C.length=n * 256) (hk:Pb.length=n) (hfr:fr=0∨fr=n * 256) (hfk:fk≤n) (hi:i < n) (hrow:row.length=256) (hto:∀ to∈row,to < n):
 ∃ fr',(fr'=0∨fr'=n * 256)∧Fb (fa (ga call Mb) (fun s=>some (tidy [0,3,4,5,33,34] s))) wa ⟨tv n row i 0,Xf R0 R1 S nl nr fr sets C n [.seq 1 false (Aa Pb) fk nk,M]⟩=
  some (.exit 2,⟨(tv n row i 256).set 35 (.pv (.bool false)),Xf R0 R1 S nl nr fr' sets (Lc Pb row i (List.range 256) C) n [.seq 1 false (Aa Pb) fk nk,M]⟩):=by
 generalize hxs:List.range 256=xs
 have key:=vi (g:=fa (ga call Mb) (fun s=>some (tidy [0,3,4,5,33,34] s)))
  (fun x t=>∃ fr' C',(fr'=0∨fr'=n * 256)∧C'.length=n * 256∧t=⟨tv n row i x,Xf R0 R1 S nl nr fr' sets C' n [.seq 1 false (Aa Pb) fk nk,M]⟩∧Lc Pb row i xs C=Lc Pb row i (xs.drop x) C')
  (fun ex t=>∃ fr',(fr'=0∨fr'=n * 256)∧ex= .exit 2∧t=⟨(tv n row i 256).set 35 (.pv (.bool false)),Xf R0 R1 S nl nr fr' sets (Lc Pb row i xs C) n [.seq 1 false (Aa Pb) fk nk,M]⟩)
  wa 256 0 ⟨tv n row i (0:Nat),Xf R0 R1 S nl nr fr sets C n [.seq 1 false (Aa Pb) fk nk,M]⟩ (by unfold wa;omega) (by omega) ⟨fr,C,hfr,hC,rfl,rfl⟩ ?_ ?_
 ·obtain⟨ex,t,h,_,fr',q1,rfl,rfl⟩:=key
  exact⟨fr',q1,h⟩
 ·rintro x hx t ⟨fr',C',hf',hC',rfl,hl⟩
  have hd:=Wp hx
  rw[hxs] at hd
  rw[hd] at hl
  obtain⟨to,ht⟩:∃ to,row[x]? =some to:=⟨row[x],by simp[hrow,hx]⟩
  have hlt:=hto to (List.mem_of_getElem? ht)
  by_cases h0:0≤to
  ·obtain⟨v,hv⟩:∃ v,Pb[to.toNat]? =some v:=⟨Pb[to.toNat]'(by omega),by rw[List.getElem?_eq_getElem]⟩
   refine .inl ⟨_,zL call R0 R1 S nl nr nk fr' fk sets C' n Pb M row i x to hC' hk (by omega) hfk hi hx ht h0 hv,n * 256,_,.inr rfl,by simpa using hC',rfl,?_⟩
   rw[hl,Lc,ht]
   have:Pb.getD to.toNat 0=v:=by simp[hv]
   simp only[if_pos h0,this]
  ·refine .inl ⟨_,cI call R0 R1 S nl nr nk fr' fk sets C' n Pb M row i x to hx ht (by omega),fr',C',hf',hC',rfl,?_⟩
   rw[hl,Lc,ht]
   simp only[if_neg h0]
 ·rintro t ⟨fr',C',hf',hC',rfl,hl⟩
  rw[List.drop_eq_nil_of_le (by rw[← hxs,List.length_range];exact Nat.le_refl _)] at hl
  refine⟨.exit 2,_,?_,rfl,fr',hf',rfl,rfl⟩
  rw[hl]
  have e1:decide (((256:Nat):Int) < 256)=false:=by decide
  simp -implicitDefEqProofs only[SP,SA,SQ,sevalprocAttr,-List.reduceReplicate,fa,Mb,e1,tv,Xf,Lc]
end
theorem Cw:∀ (a b:List Int),a.length=b.length→oj (List.replicate a.length 1) (a.map i64) (b.map i64)=some (decide (a=b))
 | [],[],_=>rfl
 |x::a,y::b,h=>by
  have ih:=Cw a b (by simpa using h)
  simp only[List.length_cons,List.replicate_succ,List.map_cons,oj,Qs,if_true,Option.bind_some,ih,Option.map_some,List.cons.injEq,Bool.decide_and]
  congr 2
 | [],_::_,h=>by cases h
 |_::_,[],h=>by cases h
def Np (M:List (List Int×Int)):List (PV×PV):=M.map fun p=>(TI p.1,i64 p.2)
theorem GL (M:List (List Int×Int)) (p:List Int×Int):Np (M++[p])=Np M++[(TI p.1,i64 p.2)]:=by simp[Np]
def ai (a:List Int):List (List Int×Int)→Option Int
 | []=>none
 |p::r=>if a=p.1 then some p.2 else ai a r
theorem oF {a:List Int} (ha:a.length=256):∀ (M:List (List Int×Int)) (j:Nat),(∀ p∈M,p.1.length=256)→
 (∀ v,ai a M=some v→∃ k,Dj (.row (List.replicate 256 1)) (TI a) (Np M) j=some (some (k,i64 v)))∧(ai a M=none→Dj (.row (List.replicate 256 1)) (TI a) (Np M) j=some none)
 | [],j,_=>⟨fun v h=>(by cases h),fun _=>rfl⟩
 |p::r,j,hp=>by
  have he:=Cw a p.1 (by rw[ha,hp p (by simp)])
  rw[ha] at he
  have ih:=oF ha r (j+1) (fun q hq=>hp q (by simp[hq]))
  have hk:Zi (.row (List.replicate 256 1)) (TI a) (TI p.1)=some (decide (a=p.1)):=he
  rw[show Np (p::r)=(TI p.1,i64 p.2)::Np r from rfl,Dj,hk,Option.bind_some,ai]
  by_cases h:a=p.1
  ·rw[if_pos h,decide_eq_true h]
   exact⟨fun v e=>(by injection e with e;subst e;exact⟨j,rfl⟩),fun e=>(by cases e)⟩
  ·rw[if_neg h,decide_eq_false h]
   exact ih
theorem PI {a:List Int} (ha:a.length=256):(Zi (.row (List.replicate 256 1)) (TI a) (TI a)).isSome=true:=by
 have he:=Cw a a rfl
 rw[ha] at he
 show (oj _ _ _).isSome=true
 rw[he];rfl
def Ja (C:List Int) (i:Nat):List Int:=(C.drop (i * 256)).take 256
theorem sg {C:List Int} {n i:Nat} (hC:C.length=n * 256) (hi:i < n):(Ja C i).length=256:=by
 unfold Ja;rw[List.length_take,List.length_drop,hC];omega
theorem PA (C:List Int) (i:Nat):Bc (List.take 256 (List.drop (i * 256) (Aa C)))=some ((Ja C i).map i64):=by
 have:List.take 256 (List.drop (i * 256) (Aa C))=Aa (Ja C i):=by unfold Ja Aa;rw[List.map_take,List.map_drop]
 rw[this,Ro]
structure sF where
 C:List Int
 Pb:List Int
 M:List (List Int×Int)
def Hi (i:Nat) (s:sF):sF:=
 let C:=Lc s.Pb (Ja s.C i) i (List.range 256) s.C
 match ai (Ja C i) s.M with
 |some v=>⟨C,s.Pb.set i v,s.M⟩
 |none=>⟨C,s.Pb.set i i,s.M++[(Ja C i,(i:Int))]⟩
def lh:Nat→sF→sF
 |0,s=>s
 |i+1,s=>lh i (Hi i s)
theorem eo {i:Nat} {s:sF} {v:Int} (h:ai (Ja (Lc s.Pb (Ja s.C i) i (List.range 256) s.C) i) s.M=some v):Hi i s=⟨Lc s.Pb (Ja s.C i) i (List.range 256) s.C,s.Pb.set i v,s.M⟩:=by
 simp only[Hi,h]
theorem mo {i:Nat} {s:sF} (h:ai (Ja (Lc s.Pb (Ja s.C i) i (List.range 256) s.C) i) s.M=none):
 Hi i s=⟨Lc s.Pb (Ja s.C i) i (List.range 256) s.C,s.Pb.set i i,s.M++[(Ja (Lc s.Pb (Ja s.C i) i (List.range 256) s.C) i,(i:Int))]⟩:=by
 simp only[Hi,h]
abbrev pw (n:Nat) (i:Int):Tr:=(((Tr.lf.set 5 (.pv (i64 i))).set 4 (.mp 7)).set 3 (.own 6 n)).set 0 (.ptr 3 0)
section
variable (call:Fa) (R0 R1:aa) (S:PV) (nl nr nk:Bool) (fr fk:Nat) (sets:List Al) (n:Nat) (s:sF) (i:Nat)
theorem TG (hC:s.C.length=n * 256) (hk:s.Pb.length=n) (hfr:fr=0∨fr=n * 256) (hfk:fk≤n) (hi:i < n) (hn:n≤64) (hto:∀ to∈Ja s.C i,to < n) (hM:∀ p∈s.M,p.1.length=256):
 ∃ fr',(fr'=0∨fr'=n * 256)∧fa (ga call Jc) (fun s=>some (tidy [0,3,4,5] s)) ⟨pw n i,Xf R0 R1 S nl nr fr sets s.C n [.seq 1 false (Aa s.Pb) fk nk,.map (Np s.M)]⟩=
  some (.norm,⟨pw n ((i:Int) - 1),Xf R0 R1 S nl nr fr' sets (Hi i s).C n [.seq 1 false (Aa (Hi i s).Pb) n nk,.map (Np (Hi i s).M)]⟩):=by
 obtain⟨fr',hf',hin⟩:=dF call R0 R1 S nl nr nk fr fk sets s.C n s.Pb (.map (Np s.M)) (Ja s.C i) i hC hk hfr hfk hi (sg hC hi) hto
 refine⟨fr',hf',?_⟩
 have hC2:(Lc s.Pb (Ja s.C i) i (List.range 256) s.C).length=n * 256:=by rw[Bj,hC]
 have hrl:=sg hC2 hi
 have hfd:=oF hrl s.M 0 hM
 have his:=PI hrl
 have p1:=PA s.C i
 have p2:=PA (Lc s.Pb (Ja s.C i) i (List.range 256) s.C) i
 have e1:decide ((i:Int)≥0)=true:=db (by omega)
 have hq3:Ca (i:Int) n:=by unfold Ca;omega
 have t3:((i:Int)).toNat=i:=by simp
 have t2:IntKind.i64.wrap ((i:Int) - 1)=(i:Int) - 1:=Da (by omega)
 have w2:xg 256 n fr (Aa s.C).length:=by rw[Qa];unfold xg;omega
 have w4:((Aa s.C).length=n * 256)=True:=by rw[Qa];exact eq_true hC
 have w6:(i * 256+256≤(Aa s.C).length)=True:=by rw[Qa];exact eq_true (by omega)
 have hl1:=@eo i s
 have hl2:=@mo i s
 generalize Lc s.Pb (Ja s.C i) i (List.range 256) s.C=C2 at *
 have w12:xg 256 n fr' (Aa C2).length:=by rw[Qa];unfold xg;omega
 have w14:((Aa C2).length=n * 256)=True:=by rw[Qa];exact eq_true hC2
 have w16:(i * 256+256≤(Aa C2).length)=True:=by rw[Qa];exact eq_true (by omega)
 have w1:xg 1 n fk (Aa s.Pb).length:=by rw[Qa];unfold xg;omega
 have w3:((Aa s.Pb).length=n)=True:=by rw[Qa];exact eq_true hk
 have w5:(i+1≤n)=True:=eq_true (by omega)
 generalize hz:List.replicate 256 1=ks at *
 have hin':Fb (fa (ga call Mb) (fun s=>some (tidy [0,3,4,5,33,34] s))) wa ⟨tv n (Ja s.C i) i 0,Xf R0 R1 S nl nr fr sets s.C n [.seq 1 false (Aa s.Pb) fk nk,.map (Np s.M)]⟩=_:=hin
 simp only[tv,Xf,tidy,Yb] at hin'
 cases hlk:ai (Ja C2 i) s.M with
 |some v=>
  obtain⟨k,hk2⟩:=hfd.1 v hlk
  rw[hl1 hlk]
  simp -implicitDefEqProofs only[SP,SA,SQ,sevalprocAttr,-List.reduceReplicate,fa,Jc,e1,eq_true hq3,t2,t3,eq_true w2,w4,w6,p1,ma,Dn,tidy,Yb,pw,Xf,hz]
  rw[hin']
  simp -implicitDefEqProofs only[SP,SA,SQ,sevalprocAttr,-List.reduceReplicate,eq_true hq3,t2,t3,eq_true w12,w14,w16,eq_true w1,w3,w5,p2,ma,eq_true his,hk2,Eh,tidy,Yb,pw,Xf]
 |none=>
  have hk2:=hfd.2 hlk
  rw[hl2 hlk]
  simp -implicitDefEqProofs only[SP,SA,SQ,sevalprocAttr,-List.reduceReplicate,fa,Jc,e1,eq_true hq3,t2,t3,eq_true w2,w4,w6,p1,ma,Dn,tidy,Yb,pw,Xf,hz]
  rw[hin']
  simp -implicitDefEqProofs only[SP,SA,SQ,sevalprocAttr,-List.reduceReplicate,eq_true hq3,t2,t3,eq_true w12,w14,w16,eq_true w1,w3,w5,p2,ma,eq_true his,hk2,Eh,tidy,Yb,pw,Xf,GL]
end
end Go.AM.B1
namespace Go.AM.B1
open Go.AM
structure zS (n:Nat) (s:sF):Prop where
 hC:s.C.length=n * 256
 hk:s.Pb.length=n
 cC:∀ c∈s.C,c < n
 ck:∀ c∈s.Pb,c < n
 cM:∀ p∈s.M,p.1.length=256∧p.2 < n
theorem DA {Pb row:List Int} {i:Nat} {n:Int} (hn:0 < n) (hk:∀ c∈Pb,c < n):∀ (xs:List Nat) (C:List Int),(∀ c∈C,c < n)→∀ c∈Lc Pb row i xs C,c < n
 | [],C,h=>h
 |x::xs,C,h=>by
  rw[Lc]
  refine DA hn hk xs _ ?_
  split
  ·split
   ·intro c hc
    rcases List.mem_or_eq_of_mem_set hc with h1 | h1
    ·exact h c h1
    ·subst h1
     next to _ _=>
     rcases Nat.lt_or_ge to.toNat Pb.length with h2 | h2
     ·rw[List.getD_eq_getElem?_getD,List.getElem?_eq_getElem h2];exact hk _ (List.getElem_mem h2)
     ·rw[List.getD_eq_getElem?_getD,List.getElem?_eq_none h2];exact hn
   ·exact h
  ·exact h
theorem Lp {a:List Int}:∀ {M:List (List Int×Int)} {v:Int},ai a M=some v→∃ p∈M,p.1=a∧p.2=v
 |p::r,v,h=>by
  rw[ai] at h
  split at h
  ·next h1=>injection h with h;exact⟨p,by simp,h1.symm,h⟩
  ·obtain⟨q,hq,e⟩:=Lp h
   exact⟨q,by simp[hq],e⟩
theorem Mx {n i:Nat} {s:sF} (hi:i < n) (h:zS n s):zS n (Hi i s):=by
 have hC2:(Lc s.Pb (Ja s.C i) i (List.range 256) s.C).length=n * 256:=by rw[Bj,h.hC]
 have hlt:=DA (i:=i) (row:=Ja s.C i) (n:=(n:Int)) (by omega) h.ck (List.range 256) s.C h.cC
 have hl1:=@eo i s
 have hl2:=@mo i s
 generalize Lc s.Pb (Ja s.C i) i (List.range 256) s.C=C2 at *
 cases hl:ai (Ja C2 i) s.M with
 |some v=>
  obtain⟨p,hp,_,hv⟩:=Lp hl
  have:=(h.cM p hp).2
  rw[hl1 hl]
  refine⟨hC2,by simp[h.hk],hlt,?_,h.cM⟩
  intro c hc
  rcases List.mem_or_eq_of_mem_set hc with h1 | h1
  ·exact h.ck c h1
  ·omega
 |none=>
  rw[hl2 hl]
  refine⟨hC2,by simp[h.hk],hlt,?_,?_⟩
  ·intro c hc
   rcases List.mem_or_eq_of_mem_set hc with h1 | h1
   ·exact h.ck c h1
   ·omega
  ·intro p hp
   rcases List.mem_append.1 hp with h1 | h1
   ·exact h.cM p h1
   ·simp at h1;subst h1;exact⟨sg hC2 hi,by simp;omega⟩
theorem WA {n:Nat}:∀ (k:Nat) (s:sF),k≤n→zS n s→zS n (lh k s)
 |0,s,_,h=>h
 |k+1,s,hk,h=>WA k _ (by omega) (Mx (by omega) h)
def bg (n:Nat) (C:List Int):sF:=lh n ⟨C,List.replicate n 0,[]⟩
section
variable (call:Fa) (R0 R1:aa) (S:PV) (nl nr nk:Bool) (sets:List Al) (C:List Int) (n:Nat)
theorem JI (s0:sF) (hn:n≤64) (h0:0 < n) (ta:zS n s0):
 ∃ fr fk,(fr=0∨fr=n * 256)∧Fb (fa (ga call Jc) (fun s=>some (tidy [0,3,4,5] s))) wa ⟨pw n ((n:Int) - 1),Xf R0 R1 S nl nr 0 sets s0.C n [.seq 1 false (Aa s0.Pb) 0 nk,.map (Np s0.M)]⟩=
  some (.exit 0,⟨((pw n (-1)).set 23 (.pv (i64 (-1)))).set 24 (.pv (.bool false)),Xf R0 R1 S nl nr fr sets (lh n s0).C n [.seq 1 false (Aa (lh n s0).Pb) fk nk,.map (Np (lh n s0).M)]⟩)∧fk≤n:=by
 have key:=vi (g:=fa (ga call Jc) (fun s=>some (tidy [0,3,4,5] s)))
  (fun j t=>∃ fr fk s,(fr=0∨fr=n * 256)∧fk≤n∧zS n s∧t=⟨pw n ((n:Int) - 1 - j),Xf R0 R1 S nl nr fr sets s.C n [.seq 1 false (Aa s.Pb) fk nk,.map (Np s.M)]⟩∧lh n s0=lh (n - j) s)
  (fun ex t=>∃ fr fk,(fr=0∨fr=n * 256)∧fk≤n∧ex= .exit 0∧t=⟨((pw n (-1)).set 23 (.pv (i64 (-1)))).set 24 (.pv (.bool false)),Xf R0 R1 S nl nr fr sets (lh n s0).C n [.seq 1 false (Aa (lh n s0).Pb) fk nk,.map (Np (lh n s0).M)]⟩)
  wa n 0 ⟨pw n ((n:Int) - 1 - (0:Nat)),Xf R0 R1 S nl nr 0 sets s0.C n [.seq 1 false (Aa s0.Pb) 0 nk,.map (Np s0.M)]⟩ (by unfold wa;omega) (by omega) ⟨0,0,s0,.inl rfl,by omega,ta,rfl,rfl⟩ ?_ ?_
 ·obtain⟨ex,t,h,_,fr,fk,q1,q2,rfl,rfl⟩:=key
  rw[show ((n:Int) - 1 - (0:Nat))=(n:Int) - 1 by omega] at h
  exact⟨fr,fk,q1,h,q2⟩
 ·rintro j hj t ⟨fr,fk,s,hf,hfk,hs,rfl,hl⟩
  obtain⟨i,hi⟩:∃ i,n - j=i+1:=⟨n - j - 1,by omega⟩
  rw[hi,lh] at hl
  obtain⟨fr',hf',hr⟩:=TG call R0 R1 S nl nr nk fr fk sets n s i hs.hC hs.hk hf hfk (by omega) hn
   (fun to h=>hs.cC to (List.mem_of_mem_drop (List.mem_of_mem_take h))) (fun p hp=>(hs.cM p hp).1)
  rw[show ((n:Int) - 1 - (j:Int))=(i:Int) by omega]
  refine .inl ⟨_,hr,fr',n,Hi i s,hf',by omega,Mx (by omega) hs,?_,?_⟩
  ·rw[show ((n:Int) - 1 - ((j+1:Nat):Int))=(i:Int) - 1 by omega]
  ·rw[hl,show n - (j+1)=i by omega]
 ·rintro t ⟨fr,fk,s,hf,hfk,hs,rfl,hl⟩
  rw[Nat.sub_self,lh] at hl
  rw[show ((n:Int) - 1 - (n:Int))= -1 by omega]
  refine⟨.exit 0,_,?_,rfl,fr,fk,hf,hfk,rfl,rfl⟩
  rw[hl]
  have e1:decide ((-1:Int)≥0)=false:=by decide
  simp -implicitDefEqProofs only[SP,SA,SQ,sevalprocAttr,-List.reduceReplicate,fa,Jc,e1,pw,Xf]
theorem gC (n:Nat):qi [PV.int .i64 0] n=Aa (List.replicate n 0):=by
 induction n with
 |zero=>rfl
 |succ n ih=>rw[qi,ih];rfl
theorem AK (hn:n≤64) (h0:0 < n) (hs:sets.length=n) (hC:C.length=n * 256) (cC:∀ c∈C,c < n):
 ∃ fr fk v,(fr=0∨fr=n * 256)∧Gd call Fg [.ptr 3 0] (Xf R0 R1 S nl nr 0 sets C n [])=
  some (v,Xf R0 R1 S nl nr fr sets (bg n C).C n [.seq 1 false (Aa (bg n C).Pb) fk false,.map (Np (bg n C).M)]):=by
 obtain⟨fr,fk,hf,hl,hfk⟩:=JI call R0 R1 S nl nr false sets n ⟨C,List.replicate n 0,[]⟩ hn h0
  ⟨hC,by simp,cC,by intro c hc;rw[List.eq_of_mem_replicate hc];omega,by simp⟩
 refine⟨fr,fk,.own 6 n,hf,?_⟩
 have hlen:(sets.map Wf).length=n:=by rw[List.length_map,hs]
 have r0:qi [PV.int .i64 0] n=Aa (List.replicate n 0):=gC n
 have t1:((n:Int)).toNat=n:=by simp
 have t2:IntKind.i64.wrap ((n:Int) - 1)=(n:Int) - 1:=Da (by omega)
 have e1:(0≤(n:Int))=True:=by simp
 have e2:Cb n 8:=by unfold Cb;omega
 have e3:((n:Int)≤(n:Int))=True:=by simp
 unfold bg
 generalize lh n ⟨C,List.replicate n 0,[]⟩=g at *
 generalize List.replicate n (0:Int)=zs at *
 simp only[tidy,Yb,pw,Xf,Np,List.map_nil] at hl
 simp -implicitDefEqProofs only[SP,SA,SQ,sevalprocAttr,-List.reduceReplicate,Fg,hlen,r0,t1,t2,e1,eq_true e2,e3,Dn,tidy,Yb,Xf]
 rw[hl]
 simp -implicitDefEqProofs only[SP,SA,SQ,sevalprocAttr,-List.reduceReplicate,Xf,Np]
end
end Go.AM.B1
namespace Go.AM.B1
open Go.AM
structure ke where
 lo:Int
 hi:Int
 to:Int
deriving DecidableEq
def KB (e:ke):PV:= .agg [i64 e.lo,i64 e.hi,i64 e.to]
def Oe (l:List ke):List Int:=l.flatMap fun e=>[e.lo,e.hi,e.to]
theorem Dm (l:List ke):(Oe l).length=l.length * 3:=by
 induction l with
 |nil=>rfl
 |cons e l ih=>simp only[Oe,List.flatMap_cons,List.length_append,List.length_cons,List.length_nil] at ih ⊢;omega
theorem Nq (l:List ke) (e:ke):Oe (l++[e])=Oe l++[e.lo,e.hi,e.to]:=by simp[Oe]
def Fk (x to:Int) (l:List ke):List ke:=
 if to= -2 then l else match l.getLast? with
  |some e=>if e.to=to∧e.hi=x - 1 then l.dropLast++[⟨e.lo,x,e.to⟩] else l++[⟨x,x,to⟩]
  |none=>l++[⟨x,x,to⟩]
theorem uR (a b c:Int):Aa [a,b,c]=[.pv (i64 a),.pv (i64 b),.pv (i64 c)]:=rfl
theorem oG (a b:List Int):Aa (a++b)=Aa a++Aa b:=by simp[Aa]
abbrev Vo (row:List Int) (n:Nat) (x:Int):Tr:=((Tr.lf.set 8 (.pv (i64 x))).set 7 (.pv (TI row))).set 3 (.own 0 n)
theorem fD (l:List Int) (e:ke) (k:Nat) (hk:k < 3):(Aa (l++[e.lo,e.hi,e.to]))[l.length+k]? =some (.pv (i64 (if k=0 then e.lo else if k=1 then e.hi else e.to))):=by
 rw[Aa,List.getElem?_map,List.getElem?_append_right (by omega),Nat.add_sub_cancel_left]
 match k,hk with
 |0,_=>rfl
 |1,_=>rfl
 |2,_=>rfl
section
variable (call:Fa) (row:List Int) (x:Nat) (to:Int) (fl:Nat)
 (hx:x < 256) (hto:row[x]? =some to)
include hx hto
theorem QM (l:List ke) (nl:Bool) (h:to= -2):fa (ga call mc) (fun s=>some (tidy [3,7,8] s)) ⟨Vo row l.length x,[.seq 3 true (Aa (Oe l)) fl nl]⟩=
 some (.norm,⟨Vo row l.length (x+1:Nat),[.seq 3 true (Aa (Oe l)) fl nl]⟩):=by
 have e1:decide ((x:Int) < 256)=true:=db (by omega)
 have e2:(to== -2)=true:=by simp[h]
 have hq:Ca (x:Int) 256:=by unfold Ca;omega
 have t1:((x:Int)).toNat=x:=by simp
 have t2:=Ab (i:=x) (n:=256) hx (by unfold maxLen;omega)
 have ht:(row.map i64)[x]? =some (i64 to):=by rw[List.getElem?_map,hto];rfl
 simp -implicitDefEqProofs only[SP,SA,SQ,sevalprocAttr,fa,mc,e1,e2,eq_true hq,t1,t2,ht,ma,tidy,Yb,Vo]
theorem YH (nl:Bool) (h:to≠ -2):fa (ga call mc) (fun s=>some (tidy [3,7,8] s)) ⟨Vo row 0 x,[.seq 3 true [] 0 nl]⟩=
 some (.norm,⟨Vo row 1 (x+1:Nat),[.seq 3 true (Aa [(x:Int),x,to]) 0 false]⟩):=by
 have e1:decide ((x:Int) < 256)=true:=db (by omega)
 have e2:(to== -2)=false:=Nk h
 have hq:Ca (x:Int) 256:=by unfold Ca;omega
 have t1:((x:Int)).toNat=x:=by simp
 have t2:=Ab (i:=x) (n:=256) hx (by unfold maxLen;omega)
 have ht:(row.map i64)[x]? =some (i64 to):=by rw[List.getElem?_map,hto];rfl
 have q1:Cb 1 24:=by unfold Cb;omega
 simp -implicitDefEqProofs only[SP,SA,SQ,sevalprocAttr,fa,mc,e1,e2,eq_true hq,t1,t2,ht,eq_true q1,ma,tidy,Yb,Vo,Vi,fj,AV.GH,AV.Hr,Aa]
variable (l:List ke) (e:ke) (hl:l.length < 256) (hfl:fl≤(l.length+1) * 3)
include hl hfl
theorem qM (h:to≠ -2) (h1:e.to=to) (h2:e.hi=(x:Int) - 1):fa (ga call mc) (fun s=>some (tidy [3,7,8] s)) ⟨Vo row (l.length+1) x,[.seq 3 true (Aa (Oe l++[e.lo,e.hi,e.to])) fl false]⟩=
 some (.norm,⟨Vo row (l.length+1) (x+1:Nat),[.seq 3 true (Aa (Oe l++[e.lo,(x:Int),e.to])) ((l.length+1) * 3) false]⟩):=by
 have e1:decide ((x:Int) < 256)=true:=db (by omega)
 have e2:(to== -2)=false:=Nk h
 have hq:Ca (x:Int) 256:=by unfold Ca;omega
 have t1:((x:Int)).toNat=x:=by simp
 have t2:=Ab (i:=x) (n:=256) hx (by unfold maxLen;omega)
 have ht:(row.map i64)[x]? =some (i64 to):=by rw[List.getElem?_map,hto];rfl
 have e3:decide (((l.length+1:Nat):Int) > 0)=true:=db (by omega)
 have t3:IntKind.i64.wrap (((l.length+1:Nat):Int) - 1)=(l.length:Int):=by rw[Da (by omega)];omega
 have t4:((l.length:Int)).toNat=l.length:=by simp
 have t5:IntKind.i64.wrap ((x:Int) - 1)=(x:Int) - 1:=Da (by omega)
 have hq2:Ca (l.length:Int) (l.length+1):=by unfold Ca;omega
 have hlen:(Aa (Oe l++[e.lo,e.hi,e.to])).length=(l.length+1) * 3:=by rw[Qa,List.length_append,Dm];simp;omega
 have w1:xg 3 (l.length+1) fl (Aa (Oe l++[e.lo,e.hi,e.to])).length:=by rw[hlen];unfold xg;omega
 have w2:((Aa (Oe l++[e.lo,e.hi,e.to])).length=(l.length+1) * 3)=True:=eq_true hlen
 have g2:=fD (Oe l) e 2 (by omega)
 have g1:=fD (Oe l) e 1 (by omega)
 rw[Dm] at g1 g2
 simp only[h1,h2] at g1 g2
 have b1:(to==to)=true:=by simp
 have b2:((x:Int) - 1==(x:Int) - 1)=true:=by simp
 have w3:(l.length * 3+1+1≤(l.length+1) * 3)=True:=eq_true (by omega)
 have hset:(Aa (Oe l++[e.lo,(x:Int) - 1,to])).set (l.length * 3+1) (.pv (i64 x))=Aa (Oe l++[e.lo,(x:Int),to]):=by
  rw[Eh,←Dm,List.set_append_right _ _ (by omega),Nat.add_sub_cancel_left];rfl
 rw[h1,h2] at *
 generalize Oe l++[e.lo,(x:Int) - 1,to]=cs at *
 simp -implicitDefEqProofs only[SP,SA,SQ,sevalprocAttr,fa,mc,e1,e2,e3,eq_true hq,eq_true hq2,t1,t2,t3,t4,t5,ht,g1,g2,eq_true w1,w2,w3,b1,b2,hset,ma,tidy,Yb,Vo]
theorem IM (h:to≠ -2) (h1:¬(e.to=to∧e.hi=(x:Int) - 1)):fa (ga call mc) (fun s=>some (tidy [3,7,8] s)) ⟨Vo row (l.length+1) x,[.seq 3 true (Aa (Oe l++[e.lo,e.hi,e.to])) fl false]⟩=
 some (.norm,⟨Vo row (l.length+1+1) (x+1:Nat),[.seq 3 true (Aa (Oe l++[e.lo,e.hi,e.to])++Aa [(x:Int),x,to]) fl false]⟩):=by
 have e1:decide ((x:Int) < 256)=true:=db (by omega)
 have e2:(to== -2)=false:=Nk h
 have hq:Ca (x:Int) 256:=by unfold Ca;omega
 have t1:((x:Int)).toNat=x:=by simp
 have t2:=Ab (i:=x) (n:=256) hx (by unfold maxLen;omega)
 have ht:(row.map i64)[x]? =some (i64 to):=by rw[List.getElem?_map,hto];rfl
 have e3:decide (((l.length+1:Nat):Int) > 0)=true:=db (by omega)
 have t3:IntKind.i64.wrap (((l.length+1:Nat):Int) - 1)=(l.length:Int):=by rw[Da (by omega)];omega
 have t4:((l.length:Int)).toNat=l.length:=by simp
 have t5:IntKind.i64.wrap ((x:Int) - 1)=(x:Int) - 1:=Da (by omega)
 have hq2:Ca (l.length:Int) (l.length+1):=by unfold Ca;omega
 have hlen:(Aa (Oe l++[e.lo,e.hi,e.to])).length=(l.length+1) * 3:=by rw[Qa,List.length_append,Dm];simp;omega
 have w1:xg 3 (l.length+1) fl (Aa (Oe l++[e.lo,e.hi,e.to])).length:=by rw[hlen];unfold xg;omega
 have w2:((Aa (Oe l++[e.lo,e.hi,e.to])).length=(l.length+1) * 3)=True:=eq_true hlen
 have w2':((l.length+1) * 3=(Aa (Oe l++[e.lo,e.hi,e.to])).length)=True:=eq_true hlen.symm
 have g2:(Aa (Oe l++[e.lo,e.hi,e.to]))[(Oe l).length+2]? =some (.pv (i64 e.to)):=fD (Oe l) e 2 (by omega)
 have g1:(Aa (Oe l++[e.lo,e.hi,e.to]))[(Oe l).length+1]? =some (.pv (i64 e.hi)):=fD (Oe l) e 1 (by omega)
 rw[Dm] at g1 g2
 have q1:Cb (l.length+1+1) 24:=by unfold Cb;omega
 generalize Oe l++[e.lo,e.hi,e.to]=cs at *
 by_cases hb1:e.to=to
 ·have b1:(e.to==to)=true:=by simp[hb1]
  have b2:(e.hi==(x:Int) - 1)=false:=Nk fun hh=>h1 ⟨hb1,hh⟩
  simp -implicitDefEqProofs only[SP,SA,SQ,sevalprocAttr,fa,mc,e1,e2,e3,eq_true hq,eq_true hq2,t1,t2,t3,t4,t5,ht,g1,g2,eq_true w1,w2,w2',eq_true q1,b1,b2,ma,tidy,Yb,Vo,Vi,fj,AV.GH,AV.Hr,uR]
 ·have b1:(e.to==to)=false:=Nk hb1
  simp -implicitDefEqProofs only[SP,SA,SQ,sevalprocAttr,fa,mc,e1,e2,e3,eq_true hq,eq_true hq2,t1,t2,t3,t4,t5,ht,g1,g2,eq_true w1,w2,w2',eq_true q1,b1,ma,tidy,Yb,Vo,Vi,fj,AV.GH,AV.Hr,uR]
end
end Go.AM.B1
namespace Go.AM.B1
open Go.AM
def Ld (row:List Int):List Nat→List ke→List ke
 | [],l=>l
 |x::xs,l=>Ld row xs (Fk x (row.getD x 0) l)
def Re (row:List Int):List ke:=Ld row (List.range 256) []
def sf (l:List ke):PV:=if l.isEmpty then .qa else .lit 3 (l.map KB)
theorem Wy (x:Int) (l:List ke):Fk x (-2) l=l:=by simp[Fk]
theorem Xx {x to:Int} (h:to≠ -2):Fk x to []=[⟨x,x,to⟩]:=by simp[Fk,h]
theorem pA {x:Int} {l:List ke} {e:ke} (h:e.to≠ -2) (h2:e.hi=x - 1):Fk x e.to (l++[e])=l++[⟨e.lo,x,e.to⟩]:=by simp[Fk,h,h2]
theorem yA {x to:Int} {l:List ke} {e:ke} (h:to≠ -2) (h2:¬(e.to=to∧e.hi=x - 1)):Fk x to (l++[e])=l++[e]++[⟨x,x,to⟩]:=by
 simp only[Fk,if_neg h,List.getLast?_append,List.getLast?_singleton,Option.some_or,if_neg h2]
theorem lC (H:List aa) (d:Nat) (l:List Int):Wa (Bb H d) (Aa l)=some (l.map i64):=by
 induction l with
 |nil=>rfl
 |cons a l ih=>simp only[Aa,List.map_cons,Wa,Be,Option.bind_some] at ih ⊢;rw[ih];rfl
theorem XM:∀ (l:List ke),chunk 3 true l.length ((Oe l).map i64)=l.map KB
 | []=>rfl
 |e::l=>by
  have:=XM l
  rw[List.length_cons,chunk]
  simp only[Oe,List.flatMap_cons,List.cons_append,List.nil_append,List.map_cons,List.take,List.drop,if_true] at this ⊢
  rw[this];rfl
theorem VH (H:List aa) (id:Nat) (l:List ke) (fl:Nat) (h:H[id]? =some (.seq 3 true (Aa (Oe l)) fl l.isEmpty)):Bb H deep (.own id l.length)=some (sf l):=by
 have hl:(l.length * 3=(Aa (Oe l)).length)=True:=by rw[Qa,Dm];exact eq_self _
 rw[Rb]
 simp only[Bb,h,hl,Bool.true_or,and_self,if_true]
 unfold sf
 cases hn:l.isEmpty with
 |true=>rfl
 |false=>simp only[Bool.false_eq_true,if_false,lC,Option.map_some,XM]
section
variable (row:List Int) (hrow:row.length=256)
include hrow
theorem cJ (call:Fa):∃ fl,Fb (fa (ga call mc) (fun s=>some (tidy [3,7,8] s))) wa ⟨Vo row 0 0,[.seq 3 true [] 0 true]⟩=
 some (.exit 0,⟨(Vo row (Re row).length 256).set 9 (.pv (.bool false)),[.seq 3 true (Aa (Oe (Re row))) fl (Re row).isEmpty]⟩):=by
 unfold Re
 generalize hxs:List.range 256=xs
 have key:=vi (g:=fa (ga call mc) (fun s=>some (tidy [3,7,8] s)))
  (fun x t=>∃ fl l,fl≤l.length * 3∧l.length≤x∧t=⟨Vo row l.length x,[.seq 3 true (Aa (Oe l)) fl l.isEmpty]⟩∧Ld row xs []=Ld row (xs.drop x) l)
  (fun ex t=>∃ fl,ex= .exit 0∧t=⟨(Vo row (Ld row xs []).length 256).set 9 (.pv (.bool false)),[.seq 3 true (Aa (Oe (Ld row xs []))) fl (Ld row xs []).isEmpty]⟩)
  wa 256 0 ⟨Vo row 0 (0:Nat),[.seq 3 true [] 0 true]⟩ (by unfold wa;omega) (by omega) ⟨0,[],by simp,by simp,rfl,rfl⟩ ?_ ?_
 ·obtain⟨ex,t,h,_,fl,rfl,rfl⟩:=key
  exact⟨fl,h⟩
 ·rintro x hx t ⟨fl,l,hf,hlx,rfl,hl⟩
  have hd:=Wp hx
  rw[hxs] at hd
  obtain⟨to,ht⟩:∃ to,row[x]? =some to:=⟨row[x],by simp[hrow,hx]⟩
  have hgd:row.getD x 0=to:=by simp[List.getD_eq_getElem?_getD,ht]
  rw[hd,Ld,hgd] at hl
  by_cases h2:to= -2
  ·rw[h2,Wy] at hl
   exact .inl ⟨_,QM call row x to fl hx ht l _ h2,fl,l,hf,by omega,rfl,hl⟩
  rcases List.eq_nil_or_concat l with rfl | ⟨l',e,rfl⟩
  ·rw[Xx h2] at hl
   have hf0:fl=0:=by simpa using hf
   subst hf0
   exact .inl ⟨_,YH call row x to hx ht true h2,0,[⟨x,x,to⟩],by simp,by simp,rfl,hl⟩
  ·simp only[List.concat_eq_append] at *
   have hem:(l'++[e]).isEmpty=false:=by simp
   have hlen:(l'++[e]).length=l'.length+1:=by simp
   rw[hlen] at hf hlx
   rw[hem,hlen,Nq]
   by_cases h3:e.to=to∧e.hi=(x:Int) - 1
   ·obtain⟨h3,h4⟩:=h3
    rw[← h3,pA (by rw[h3];exact h2) h4] at hl
    refine .inl ⟨_,qM call row x to fl hx ht l' e (by omega) hf h2 h3 h4,(l'.length+1) * 3,l'++[⟨e.lo,x,e.to⟩],by simp,by simp;omega,?_,hl⟩
    rw[Nq];simp
   ·rw[yA h2 h3] at hl
    refine .inl ⟨_,IM call row x to fl hx ht l' e (by omega) hf h2 h3,fl,_,?_,?_,?_,hl⟩
    ·simp;omega
    ·simp;omega
    ·rw[Nq,Nq,oG];simp[Aa]
 ·rintro t ⟨fl,l,hf,hlx,rfl,hl⟩
  rw[List.drop_eq_nil_of_le (by rw[← hxs,List.length_range];exact Nat.le_refl _)] at hl
  refine⟨.exit 0,_,?_,rfl,fl,rfl,rfl⟩
  rw[hl]
  have e1:decide (((256:Nat):Int) < 256)=false:=by decide
  simp -implicitDefEqProofs only[SP,SA,SQ,sevalprocAttr,fa,mc,e1,Vo,Ld]
theorem mM:um [TI row]=some (sf (Re row)):=by
 obtain⟨fl,hl⟩:=cJ row hrow (za (fun _=>none) 8)
 have ht:=VH [.seq 3 true (Aa (Oe (Re row))) fl (Re row).isEmpty] 0 (Re row) fl rfl
 have h9:(row.map i64).map AV.pv=Aa row:=(Dr row).symm
 have p0:((Aa row).length=256)=True:=by rw[Qa,hrow];exact eq_self _
 have p1:(256≤(Aa row).length)=True:=by rw[Qa,hrow];exact eq_true (Nat.le_refl _)
 have p2:List.take 256 (Aa row)=Aa row:=List.take_of_length_le (by rw[Qa,hrow];exact Nat.le_refl _)
 have p3:=Ro row
 have p5:=xz row
 have p6:=lC [] 0 row
 have p8:List.take 256 (row.map i64)=row.map i64:=List.take_of_length_le (by rw[List.length_map,hrow];exact Nat.le_refl _)
 have p7:(256≤(row.map i64).length)=True:=by rw[List.length_map,hrow];exact eq_true (Nat.le_refl _)
 have p4:((row.map i64).length=256)=True:=by rw[List.length_map,hrow];exact eq_self _
 generalize Re row=es at *
 simp only[tidy,Yb,Vo] at hl
 simp -implicitDefEqProofs only[um,SP,SA,SQ,sevalprocAttr,Vq,h9,p0,p1,p2,p3,p4,p5,p6,p7,p8,gf,Dn,tidy,Yb]
 rw[hl]
 simp -implicitDefEqProofs only[SP,SA,SQ,sevalprocAttr,ht]
end
end Go.AM.B1
namespace Go.AM.B1
open Go.AM
def Vt (a:Int):List Int→Nat→Option Nat
 | [],_=>none
 |b::l,k=>if a=b then some k else Vt a l (k+1)
def zF (l:List Int) (k:Nat):List (PV×PV):=(l.zipIdx k).map fun p=>(i64 p.1,i64 p.2)
theorem Pw (a:Int) (l:List Int) (k:Nat):zF (a::l) k=(i64 a,i64 k)::zF l (k+1):=rfl
theorem TB (a:Int):∀ (l:List Int) (k:Nat),zF (l++[a]) k=zF l k++[(i64 a,i64 (k+l.length:Nat))]
 | [],k=>by simp[zF]
 |b::l,k=>by rw[List.cons_append,Pw,TB a l (k+1),Pw];simp;omega
theorem HJ {a:Int}:∀ {l:List Int} {k i:Nat},Vt a l k=some i→k≤i
 |b::l,k,i,h=>by
  simp only[Vt] at h
  split at h
  ·injection h with h;omega
  ·have:=HJ h;omega
theorem WE (a:Int):∀ (l:List Int) (k j:Nat),Dj (.one 1) (i64 a) (zF l k) j=some ((Vt a l k).map fun i=>(j+(i - k),i64 i)):=by
 intro l
 induction l with
 |nil=>intro k j;rfl
 |cons b l ih=>
  intro k j
  have he:Zi (.one 1) (i64 a) (i64 b)=some (decide (a=b)):=by
   show (if IntKind.i64=IntKind.i64 then some (a==b) else none)=_
   rw[if_pos rfl]
   congr 1
  rw[Pw,Dj,he]
  simp only[Option.bind_some,Vt]
  by_cases h:a=b
  ·simp[h]
  ·rw[if_neg h,ih]
   simp only[h,decide_false,Bool.false_eq_true,if_false,Option.some.injEq]
   cases hi:Vt a l (k+1) with
   |none=>rfl
   |some i=>
    have:=HJ hi
    simp only[Option.map_some,Option.some.injEq,Prod.mk.injEq,and_true]
    omega
theorem MA (a:Int):(Zi (.one 1) (i64 a) (i64 a)).isSome=true:=rfl
abbrev Jk (R0 R1:aa) (S:PV) (nl nr:Bool) (fr:Nat) (sets:List Al) (C:List Int) (n:Nat) (L M:aa) (O:List Int) (out:List PV) (no:Bool) (T:List aa):List aa:=
 Xf R0 R1 S nl nr fr sets C n (L::M:: .box [.pv .qa]:: .map (zF O 0):: .tok 1 O.length false:: .box [.uq 12 no 1 out]:: .tok 1 out.length no::T)
abbrev Ot (q:Nat) (k:Int) (O:List Int) (Ya:List Int) (x:Int):Tr:=
 (((((((((Tr.lf.set 32 (.pv (i64 x))).set 31 (.pv (TI Ya))).set 7 (.ptr q 0)).set 6 (.pv (i64 k))).set 5 (.ptr 11 0)).set 4 (.uq 10 false 1 (O.map i64))).set 3 (.mp 9)).set 2 (.ptr 8 0)).set 0 (.ptr 3 0))
def Uj (x:Nat) (to:Int) (r:List Int×List Int):List Int×List Int:=
 if to < 0 then r else match Vt to r.1 0 with
  |some k=>(r.1,r.2.set x k)
  |none=>(r.1++[to],r.2.set x r.1.length)
section
variable (call:Fa) (R0 R1:aa) (S:PV) (nl nr:Bool) (fr:Nat) (sets:List Al) (C:List Int) (n:Nat) (L M:aa) (O:List Int) (out:List PV) (no:Bool) (J:List aa)
 (k:Int) (Ya row:List Int) (x:Nat) (to:Int) (q:Nat) (hx:x < 256) (hto:Ya[x]? =some to)
include hx hto
theorem iL (h:to < 0):
 fa (ga call Jb) (fun s=>some (tidy [0,2,3,4,5,6,7,31,32] s)) ⟨Ot q k O Ya x,Jk R0 R1 S nl nr fr sets C n L M O out no (J++[.box (Aa row)])⟩=
  some (.norm,⟨Ot q k O Ya (x+1:Nat),Jk R0 R1 S nl nr fr sets C n L M O out no (J++[.box (Aa row)])⟩):=by
 have e1:decide ((x:Int) < 256)=true:=db (by omega)
 have e2:decide (to < 0)=true:=db (by omega)
 have hq:Ca (x:Int) 256:=by unfold Ca;omega
 have t1:((x:Int)).toNat=x:=by simp
 have t2:=Ab (i:=x) (n:=256) hx (by unfold maxLen;omega)
 have ht:(Ya.map i64)[x]? =some (i64 to):=by rw[List.getElem?_map,hto];rfl
 simp -implicitDefEqProofs only[SP,SA,SQ,sevalprocAttr,-List.reduceReplicate,fa,Jb,e1,e2,eq_true hq,t1,t2,ht,ma,tidy,Yb,Ot,Jk,Xf]
theorem WN (hq13:q=J.length+1+1+1+1+1+1+1+1+1+1+1+1+1) (hrow:row.length=256) (h:¬to < 0) {j:Nat} (hj:Vt to O 0=some j):
 fa (ga call Jb) (fun s=>some (tidy [0,2,3,4,5,6,7,31,32] s)) ⟨Ot q k O Ya x,Jk R0 R1 S nl nr fr sets C n L M O out no (J++[.box (Aa row)])⟩=
  some (.norm,⟨Ot q k O Ya (x+1:Nat),Jk R0 R1 S nl nr fr sets C n L M O out no (J++[.box (Aa (row.set x j))])⟩):=by
 have e1:decide ((x:Int) < 256)=true:=db (by omega)
 have e2:decide (to < 0)=false:=mb (by omega)
 have hq:Ca (x:Int) 256:=by unfold Ca;omega
 have t1:((x:Int)).toNat=x:=by simp
 have t2:=Ab (i:=x) (n:=256) hx (by unfold maxLen;omega)
 have ht:(Ya.map i64)[x]? =some (i64 to):=by rw[List.getElem?_map,hto];rfl
 have hf:=WE to O 0 0
 rw[hj] at hf
 simp only[Option.map_some] at hf
 have his:=MA to
 have hle:(x+1≤(Aa row).length)=True:=by rw[Qa];exact eq_true (by omega)
 subst hq13
 simp -implicitDefEqProofs only[SP,SA,SQ,sevalprocAttr,-List.reduceReplicate,fa,Jb,e1,e2,eq_true hq,t1,t2,ht,hf,eq_true his,hle,Eh,Nl,Kl,ma,tidy,Yb,Ot,Jk,Xf]
theorem vO (hq13:q=J.length+1+1+1+1+1+1+1+1+1+1+1+1+1) (hrow:row.length=256) (h:¬to < 0) (hj:Vt to O 0=none) (hO:O.length < 100):
 fa (ga call Jb) (fun s=>some (tidy [0,2,3,4,5,6,7,31,32] s)) ⟨Ot q k O Ya x,Jk R0 R1 S nl nr fr sets C n L M O out no (J++[.box (Aa row)])⟩=
  some (.norm,⟨Ot q k (O++[to]) Ya (x+1:Nat),Jk R0 R1 S nl nr fr sets C n L M (O++[to]) out no (J++[.box (Aa (row.set x O.length))])⟩):=by
 have e1:decide ((x:Int) < 256)=true:=db (by omega)
 have e2:decide (to < 0)=false:=mb (by omega)
 have hq:Ca (x:Int) 256:=by unfold Ca;omega
 have t1:((x:Int)).toNat=x:=by simp
 have t2:=Ab (i:=x) (n:=256) hx (by unfold maxLen;omega)
 have ht:(Ya.map i64)[x]? =some (i64 to):=by rw[List.getElem?_map,hto];rfl
 have hf:=WE to O 0 0
 rw[hj] at hf
 simp only[Option.map_none] at hf
 have his:=MA to
 have hle:(x+1≤(Aa row).length)=True:=by rw[Qa];exact eq_true (by omega)
 have hlen:(O.map i64).length=O.length:=by simp
 have q1:Cb (O.length+1) 8:=by unfold Cb;omega
 have hp:=TB to O 0
 rw[Nat.zero_add] at hp
 have hlen2:(O++[to]).length=O.length+1:=by simp
 have hmap:(O++[to]).map i64=O.map i64++[i64 to]:=by simp
 subst hq13
 unfold Ot Jk
 rw[hp,hlen2,hmap]
 simp -implicitDefEqProofs only[SP,SA,SQ,sevalprocAttr,-List.reduceReplicate,fa,Jb,e1,e2,eq_true hq,t1,t2,ht,hf,eq_true his,hle,hlen,eq_true q1,Eh,Nl,Kl,ma,tidy,Yb,Xf,fj,AV.GH,AV.Hr]
end
end Go.AM.B1
namespace Go.AM.B1
open Go.AM
def ir (n:Nat) (O:List Int):Prop:=O.Nodup∧∀ o∈O,0≤o∧o < (n:Int)
theorem Ew:∀ (n:Nat) (O:List Int),O.Nodup→(∀ o∈O,0≤o∧o < (n:Int))→O.length≤n
 |0,O,_,h=>by
  cases O with
  |nil=>simp
  |cons a O=>have:=h a (by simp);omega
 |n+1,O,hd,h=>by
  have ih:=Ew n (O.erase n) (hd.erase _) (fun o ho=>by
   have h1:=h o (List.mem_of_mem_erase ho)
   have h2:o≠n:=(hd.mem_erase_iff.1 ho).1
   omega)
  rw[List.length_erase] at ih
  split at ih <;> omega
theorem ir.len {n:Nat} {O:List Int} (h:ir n O):O.length≤n:=Ew n O h.1 h.2
theorem Hw {a:Int}:∀ {l:List Int} {k:Nat},Vt a l k=none→a ∉ l
 | [],_,_=>by simp
 |b::l,k,h=>by
  simp only[Vt] at h
  split at h
  ·cases h
  ·next hne=>simp only[List.mem_cons,not_or];exact⟨hne,Hw h⟩
def Rc (Ya:List Int):List Nat→List Int×List Int→List Int×List Int
 | [],r=>r
 |x::xs,r=>Rc Ya xs (Uj x (Ya.getD x 0) r)
theorem kO {n:Nat} {x:Nat} {to:Int} {r:List Int×List Int} (hto:to < n) (h:ir n r.1):ir n (Uj x to r).1∧(Uj x to r).2.length=r.2.length∧∃ t,(Uj x to r).1=r.1++t:=by
 unfold Uj
 by_cases h0:to < 0
 ·rw[if_pos h0];exact⟨h,rfl,[],by simp⟩
 ·rw[if_neg h0]
  cases hi:Vt to r.1 0 with
  |some k=>exact⟨h,by simp,[],by simp⟩
  |none=>
   have hn:=Hw hi
   refine⟨⟨?_,?_⟩,by simp,[to],rfl⟩
   ·simp only[List.nodup_append,h.1,true_and]
    refine⟨by simp,?_⟩
    intro a ha b hb
    simp at hb;subst hb
    intro e;subst e;exact hn ha
   ·intro o ho
    rcases List.mem_append.1 ho with h1 | h1
    ·exact h.2 o h1
    ·simp at h1;subst h1;omega
section
variable (call:Fa) (R0 R1:aa) (S:PV) (nl nr:Bool) (fr:Nat) (sets:List Al) (C:List Int) (n:Nat) (L M:aa)
theorem dJ (O:List Int) (out:List PV) (no:Bool) (J:List aa) (k:Int) (Ya:List Int) (q:Nat) (hq13:q=J.length+1+1+1+1+1+1+1+1+1+1+1+1+1)
 (hO:ir n O) (hn:n≤64) (hrow:Ya.length=256) (hto:∀ to∈Ya,to < n):
 Fb (fa (ga call Jb) (fun s=>some (tidy [0,2,3,4,5,6,7,31,32] s))) wa ⟨Ot q k O Ya 0,Jk R0 R1 S nl nr fr sets C n L M O out no (J++[.box (Aa Ya)])⟩=
  some (.exit 2,⟨(Ot q k (Rc Ya (List.range 256) (O,Ya)).1 Ya 256).set 33 (.pv (.bool false)),
   Jk R0 R1 S nl nr fr sets C n L M (Rc Ya (List.range 256) (O,Ya)).1 out no (J++[.box (Aa (Rc Ya (List.range 256) (O,Ya)).2)])⟩)∧
  ir n (Rc Ya (List.range 256) (O,Ya)).1∧(Rc Ya (List.range 256) (O,Ya)).2.length=256∧∃ t,(Rc Ya (List.range 256) (O,Ya)).1=O++t:=by
 generalize hxs:List.range 256=xs
 have key:=vi (g:=fa (ga call Jb) (fun s=>some (tidy [0,2,3,4,5,6,7,31,32] s)))
  (fun x t=>∃ r,ir n r.1∧r.2.length=256∧(∃ t,r.1=O++t)∧t=⟨Ot q k r.1 Ya x,Jk R0 R1 S nl nr fr sets C n L M r.1 out no (J++[.box (Aa r.2)])⟩∧Rc Ya xs (O,Ya)=Rc Ya (xs.drop x) r)
  (fun ex t=>ex= .exit 2∧t=⟨(Ot q k (Rc Ya xs (O,Ya)).1 Ya 256).set 33 (.pv (.bool false)),Jk R0 R1 S nl nr fr sets C n L M (Rc Ya xs (O,Ya)).1 out no (J++[.box (Aa (Rc Ya xs (O,Ya)).2)])⟩∧
   ir n (Rc Ya xs (O,Ya)).1∧(Rc Ya xs (O,Ya)).2.length=256∧∃ t,(Rc Ya xs (O,Ya)).1=O++t)
  wa 256 0 ⟨Ot q k O Ya (0:Nat),Jk R0 R1 S nl nr fr sets C n L M O out no (J++[.box (Aa Ya)])⟩ (by unfold wa;omega) (by omega) ⟨(O,Ya),hO,hrow,⟨[],by simp⟩,rfl,rfl⟩ ?_ ?_
 ·obtain⟨ex,t,h,_,rfl,rfl,q1,q2⟩:=key
  exact⟨h,q1,q2⟩
 ·rintro x hx t ⟨⟨O',row⟩,hO',hr',⟨tl,htl⟩,rfl,hl⟩
  have hd:=Wp hx
  rw[hxs] at hd
  obtain⟨to,ht⟩:∃ to,Ya[x]? =some to:=⟨Ya[x],by simp[hrow,hx]⟩
  have hgd:Ya.getD x 0=to:=by simp[List.getD_eq_getElem?_getD,ht]
  have hlt:=hto to (List.mem_of_getElem? ht)
  rw[hd,Rc,hgd] at hl
  have ta:=kO (x:=x) (r:=(O',row)) hlt hO'
  refine .inl ⟨_,?_,Uj x to (O',row),ta.1,by rw[ta.2.1];exact hr',?_,rfl,hl⟩
  ·by_cases h0:to < 0
   ·have e:Uj x to (O',row)=(O',row):=by simp[Uj,h0]
    rw[e]
    exact iL call R0 R1 S nl nr fr sets C n L M O' out no J k Ya row x to q hx ht h0
   ·have hlen:=hO'.len
    cases hi:Vt to O' 0 with
    |some j=>
     have e:Uj x to (O',row)=(O',row.set x j):=by simp[Uj,h0,hi]
     rw[e]
     exact WN call R0 R1 S nl nr fr sets C n L M O' out no J k Ya row x to q hx ht hq13 hr' h0 hi
    |none=>
     have e:Uj x to (O',row)=(O'++[to],row.set x O'.length):=by simp[Uj,h0,hi]
     rw[e]
     exact vO call R0 R1 S nl nr fr sets C n L M O' out no J k Ya row x to q hx ht hq13 hr' h0 hi (by simp only at hlen;omega)
  ·obtain⟨t2,h2⟩:=ta.2.2
   exact⟨tl++t2,by rw[h2,←List.append_assoc,←htl]⟩
 ·rintro t ⟨⟨O',row⟩,hO',hr',htl,rfl,hl⟩
  rw[List.drop_eq_nil_of_le (by rw[← hxs,List.length_range];exact Nat.le_refl _),Rc] at hl
  rw[hl]
  refine⟨.exit 2,_,?_,rfl,rfl,rfl,hO',hr',htl⟩
  have e1:decide (((256:Nat):Int) < 256)=false:=by decide
  simp -implicitDefEqProofs only[SP,SA,SQ,sevalprocAttr,-List.reduceReplicate,fa,Jb,e1,Ot]
abbrev Gw (k:Int) (O:List Int):Tr:=
 ((((((Tr.lf.set 6 (.pv (i64 k))).set 5 (.ptr 11 0)).set 4 (.uq 10 false 1 (O.map i64))).set 3 (.mp 9)).set 2 (.ptr 8 0)).set 0 (.ptr 3 0))
def ig (C:List Int) (o:Int) (O:List Int):List Int×List Int:=Rc (Ja C o.toNat) (List.range 256) (O,Ja C o.toNat)
theorem DH (O:List Int) (out:List PV) (no:Bool) (J:List aa) (k:Nat) (o:Int)
 (hC:C.length=n * 256) (cC:∀ c∈C,c < n) (hfr:fr≤n * 256) (hO:ir n O) (hn:n≤64) (hk:O[k]? =some o) (hout:out.length=k):
 fa (ga call tc) (fun s=>some (tidy [0,2,3,4,5,6] s)) ⟨Gw k O,Jk R0 R1 S nl nr fr sets C n L M O out no J⟩=
  some (.norm,⟨Gw (k+1:Nat) (ig C o O).1,Jk R0 R1 S nl nr fr sets C n L M (ig C o O).1 (out++[sf (Re (ig C o O).2)]) false (J++[.box (Aa (ig C o O).2)])⟩)∧
  ir n (ig C o O).1∧∃ t,(ig C o O).1=O++t:=by
 have hom:=hO.2 o (List.mem_of_getElem? hk)
 have hkl:=(List.getElem?_eq_some_iff.1 hk).1
 have hOl:=hO.len
 have hoi:o.toNat < n:=by omega
 have hr0:=sg hC hoi
 obtain⟨hin,g1,g2,g3⟩:=dJ call R0 R1 S nl nr fr sets C n L M O out no J k (Ja C o.toNat) _ rfl hO hn hr0 (fun to h=>cC to (List.mem_of_mem_drop (List.mem_of_mem_take h)))
 refine⟨?_,g1,g3⟩
 unfold ig
 generalize Rc (Ja C o.toNat) (List.range 256) (O,Ja C o.toNat)=r at *
 obtain⟨O',row'⟩:=r
 simp only at g1 g2 g3 hin
 have hed:=mM row' g2
 have hlen:(O.map i64).length=O.length:=by simp
 have e1:decide ((k:Int) < (O.length:Int))=true:=db (by omega)
 have t1:((k:Int)).toNat=k:=by simp
 have hq1:Ca (k:Int) O.length:=by unfold Ca;omega
 have hg:(O.map i64)[k]? =some (i64 o):=by rw[List.getElem?_map,hk];rfl
 have hq3:Ca o n:=by unfold Ca;omega
 have w2:xg 256 n fr (Aa C).length:=by rw[Qa];unfold xg;omega
 have w4:((Aa C).length=n * 256)=True:=by rw[Qa];exact eq_true hC
 have w6:(o.toNat * 256+256≤(Aa C).length)=True:=by rw[Qa];exact eq_true (by omega)
 have p1:=PA C o.toNat
 have t2:=Ab (i:=k) (n:=64) (by omega) (by unfold maxLen;omega)
 have h9:((Ja C o.toNat).map i64).map AV.pv=Aa (Ja C o.toNat):=(Dr _).symm
 have hz:=DS
 have p5:(256≤(Aa (List.replicate 256 0)).length)=True:=by rw[Qa,List.length_replicate];exact eq_true (Nat.le_refl _)
 have p6:oa (Aa (List.replicate 256 0)) 0 (Aa (Ja C o.toNat))=Aa (Ja C o.toNat):=by
  have:=Fu (Aa (Ja C o.toNat)) (Aa (List.replicate 256 0)) [] (by rw[Qa,Qa,hr0,List.length_replicate])
  rw[List.nil_append,List.nil_append] at this;exact this
 generalize hzs:List.replicate 256 (0:Int)=zs at *
 generalize Ja C o.toNat=Ya at *
 have r0:((Aa Ya).length=256)=True:=by rw[Qa,hr0];exact eq_self _
 have r1:(256≤(Aa Ya).length)=True:=by rw[Qa,hr0];exact eq_true (Nat.le_refl _)
 have r2:List.take 256 (Aa Ya)=Aa Ya:=List.take_of_length_le (by rw[Qa,hr0];exact Nat.le_refl _)
 have r3:=Ro Ya
 have r5:=xz Ya
 have s1:(256≤(Aa row').length)=True:=by rw[Qa,g2];exact eq_true (Nat.le_refl _)
 have s2:List.take 256 (Aa row')=Aa row':=List.take_of_length_le (by rw[Qa,g2];exact Nat.le_refl _)
 have s3:=Ro row'
 have q1:Cb (out.length+1) 24:=by unfold Cb;omega
 have hlen2:(out++[sf (Re row')]).length=out.length+1:=by simp
 unfold Jk
 rw[hlen2]
 have hcs:(∃ l,sf (Re row')= .lit 3 l)∨sf (Re row')= .qa:=by unfold sf;split;exact .inr rfl;exact .inl ⟨_,rfl⟩
 generalize sf (Re row')=ed at *
 simp only[Ot,Jk,Xf,tidy,Yb] at hin
 simp -implicitDefEqProofs only[SP,SA,SQ,sevalprocAttr,-List.reduceReplicate,fa,tc,hlen,e1,eq_true hq1,eq_true hq3,t1,hg,eq_true w2,w4,w6,p1,h9,hz,p5,p6,r0,r1,r2,r3,r5,Nl,Kl,ma,Dn,tidy,Yb,Gw,Xf]
 rw[hin]
 rcases hcs with⟨l,rfl⟩ | rfl <;>
 simp -implicitDefEqProofs only[SP,SA,SQ,sevalprocAttr,-List.reduceReplicate,t2,s1,s2,s3,hed,Be,Rb,eq_true q1,Nl,Kl,ma,tidy,Yb,Gw,Xf,fj,AV.GH,AV.Hr]
def qh (C:List Int):Nat→List Int×List (List ke)→List Int×List (List ke)
 |0,r=>r
 |f+1,r=>match r.1[r.2.length]? with
  |none=>r
  |some o=>qh C f ((ig C o r.1).1,r.2++[Re (ig C o r.1).2])
theorem fq {C:List Int} {f:Nat} {r:List Int×List (List ke)} (h:r.1[r.2.length]? =none):qh C f r=r:=by
 cases f with
 |zero=>rfl
 |succ f=>rw[qh,h]
theorem Zr {C:List Int} {f:Nat} {r:List Int×List (List ke)} {o:Int} (h:r.1[r.2.length]? =some o):qh C (f+1) r=qh C f ((ig C o r.1).1,r.2++[Re (ig C o r.1).2]):=by
 rw[qh,h]
def Hm (C:List Int):List (List ke):=(qh C 64 ([0],[])).2
def jm (l:List (List ke)):PV:= .lit 1 (l.map sf)
theorem IC (O:List Int) (out:List PV) (no:Bool) (J:List aa) (k:Nat) (hk:k=O.length):
 fa (ga call tc) (fun s=>some (tidy [0,2,3,4,5,6] s)) ⟨Gw k O,Jk R0 R1 S nl nr fr sets C n L M O out no J⟩=
  some (.exit 0,⟨((((Gw k O).set 15 (.pv (i64 k))).set 16 (.uq 10 false 1 (O.map i64))).set 17 (.pv (i64 O.length))).set 18 (.pv (.bool false)),Jk R0 R1 S nl nr fr sets C n L M O out no J⟩):=by
 have hlen:(O.map i64).length=O.length:=by simp
 have e1:decide ((k:Int) < (O.length:Int))=false:=mb (by omega)
 simp -implicitDefEqProofs only[SP,SA,SQ,sevalprocAttr,-List.reduceReplicate,fa,tc,hlen,e1,Gw,Jk,Xf]
theorem KM (hC:C.length=n * 256) (cC:∀ c∈C,c < n) (hfr:fr≤n * 256) (hn:n≤64) (h0:0 < n):
 ∃ O J k,Fb (fa (ga call tc) (fun s=>some (tidy [0,2,3,4,5,6] s))) wa ⟨Gw 0 [0],Jk R0 R1 S nl nr fr sets C n L M [0] [] true []⟩=
  some (.exit 0,⟨((((Gw k O).set 15 (.pv (i64 k))).set 16 (.uq 10 false 1 (O.map i64))).set 17 (.pv (i64 O.length))).set 18 (.pv (.bool false)),Jk R0 R1 S nl nr fr sets C n L M O ((Hm C).map sf) false J⟩):=by
 have key:=vi (g:=fa (ga call tc) (fun s=>some (tidy [0,2,3,4,5,6] s)))
  (fun k t=>∃ (O:List Int) (out:List (List ke)) (J:List aa),ir n O∧out.length=k∧k≤O.length∧0 < O.length∧t=⟨Gw k O,Jk R0 R1 S nl nr fr sets C n L M O (out.map sf) (k==0) J⟩∧qh C 64 ([0],[])=qh C (64 - k) (O,out))
  (fun ex t=>∃ (O:List Int) (J:List aa) (k:Nat),ex= .exit 0∧t=⟨((((Gw k O).set 15 (.pv (i64 k))).set 16 (.uq 10 false 1 (O.map i64))).set 17 (.pv (i64 O.length))).set 18 (.pv (.bool false)),Jk R0 R1 S nl nr fr sets C n L M O ((Hm C).map sf) false J⟩)
  wa 64 0 ⟨Gw (0:Nat) [0],Jk R0 R1 S nl nr fr sets C n L M [0] [] true []⟩ (by unfold wa;omega) (by omega)
   ⟨[0],[],[],⟨by simp,by intro o ho;simp at ho;omega⟩,rfl,by simp,by simp,rfl,rfl⟩ ?_ ?_
 ·obtain⟨ex,t,h,_,O,J,k,rfl,rfl⟩:=key
  exact⟨O,J,k,h⟩
 ·rintro k hk t ⟨O,out,J,hO,hout,hkO,hO0,rfl,hl⟩
  by_cases hlt:k < O.length
  ·obtain⟨o,ho⟩:∃ o,O[k]? =some o:=⟨O[k],by simp[hlt]⟩
   obtain⟨g1,g2,t,g3⟩:=DH call R0 R1 S nl nr fr sets C n L M O (out.map sf) (k==0) J k o hC cC hfr hO hn ho (by simpa using hout)
   rw[show 64 - k=(64 - (k+1))+1 by omega,Zr (r:=(O,out)) (o:=o) (by show O[out.length]? =_;rw[hout];exact ho)] at hl
   refine .inl ⟨_,g1,_,out++[Re (ig C o O).2],J++[.box (Aa (ig C o O).2)],g2,by simp[hout],?_,?_,?_,hl⟩
   ·rw[g3];simp;omega
   ·rw[g3];simp;omega
   ·have:(k+1==0)=false:=rfl
    rw[this];simp
  ·have hke:k=O.length:=by omega
   rw[fq (r:=(O,out)) (by show O[out.length]? =none;rw[hout,hke];simp)] at hl
   refine .inr ⟨.exit 0,_,IC call R0 R1 S nl nr fr sets C n L M O _ _ J k hke,rfl,O,J,k,rfl,?_⟩
   have:(k==0)=false:=by simp;omega
   rw[this,Hm,hl]
 ·rintro t ⟨O,out,J,hO,hout,hkO,hO0,rfl,hl⟩
  have hke:64=O.length:=by have:=hO.len;omega
  rw[fq (r:=(O,out)) (by show O[out.length]? =none;rw[hout,hke];simp)] at hl
  refine⟨.exit 0,_,IC call R0 R1 S nl nr fr sets C n L M O _ _ J 64 hke,rfl,O,J,64,rfl,?_⟩
  have:((64:Nat)==0)=false:=rfl
  rw[this,Hm,hl]
theorem EO (hC:C.length=n * 256) (cC:∀ c∈C,c < n) (hfr:fr≤n * 256) (hn:n≤64) (h0:0 < n):
 ∃ O J,Gd call Wg [.ptr 3 0] (Xf R0 R1 S nl nr fr sets C n [L,M])=
  some (.agg [.uq 12 false 1 ((Hm C).map sf)],Xf R0 R1 S nl nr fr sets C n (L::M:: .box [.uq 12 false 1 ((Hm C).map sf)]:: .map (zF O 0):: .tok 1 O.length false:: .box [.uq 12 false 1 ((Hm C).map sf)]:: .tok 1 ((Hm C).map sf).length false::J)):=by
 obtain⟨O,J,k,hl⟩:=KM call R0 R1 S nl nr fr sets C n L M hC cC hfr hn h0
 refine⟨O,J,?_⟩
 generalize (Hm C).map sf=out at *
 have hl':Fb (fa (ga call tc) (fun s=>some ⟨((((((Tr.lf.set 6 (s.env.get 6)).set 5 (s.env.get 5)).set 4 (s.env.get 4)).set 3 (s.env.get 3)).set 2 (s.env.get 2)).set 0 (s.env.get 0)),s.H⟩)) wa
  ⟨((((((Tr.lf.set 6 (.pv (.int .i64 0))).set 5 (.ptr 11 0)).set 4 (.uq 10 false 1 [.int .i64 0])).set 3 (.mp 9)).set 2 (.ptr 8 0)).set 0 (.ptr 3 0)),[R0,R1,.map (Cy sets 0),.box [.pv S,.mp 2,.uq 4 nl 2 (sets.map Wf),.own 5 n],.tok 2 sets.length nl,.seq 256 true (Aa C) fr nr,L,M,.box [.pv .qa],.map [(.int .i64 0,.int .i64 0)],.tok 1 1 false,.box [.uq 12 true 1 []],.tok 1 0 true]⟩=_:=hl
 simp only[Gw,Jk,Xf] at hl'
 simp -implicitDefEqProofs only[SP,SA,SQ,sevalprocAttr,-List.reduceReplicate,Wg,gf,Dn,tidy,Yb,Dj,Zi,Qs,Option.isSome_some,fj,AV.GH,AV.Hr,Xf]
 rw[hl']
 simp -implicitDefEqProofs only[SP,SA,SQ,sevalprocAttr,-List.reduceReplicate,Xf]
end
end Go.AM.B1
namespace Go.AM.B1
open Go.AM
def Yo (n:Nat):Int:=IntKind.u32.wrap (IntKind.u32.wrap (1 * 2 ^ min n IntKind.u32.bits) - 1)
theorem dB (n:Nat):IntKind.u32.wrap (IntKind.u32.wrap (1 * 2 ^ min n IntKind.u32.bits) - 1)=Yo n:=rfl
theorem eG {n:Nat} (h:n≤32):Yo n=((2 ^ n - 1:Nat):Int):=by
 have:∀ n:Fin 33,Yo n.1=((2 ^ n.1 - 1:Nat):Int):=by decide
 exact this ⟨n,by omega⟩
theorem lK {a:Al}:∀ {l:List Al} {k i:Nat},Bo a l k=some i→i < k+l.length
 |b::l,k,i,h=>by
  simp only[Bo] at h
  split at h
  ·injection h with h;simp;omega
  ·have:=lK h;simp;omega
theorem jN {ss:List ec} {a:Al} {x:Int} {sets:List Al} {r:List Al×Int} (h:Ug ss a x sets=some r):r.2 < r.1.length:=by
 unfold Ug at h
 split at h
 ·injection h with h;subst h;simp;omega
 ·split at h
  ·injection h with h;subst h;simp;omega
  ·split at h
   ·next k hk=>injection h with h;subst h;have:=lK hk;simp at this;simp;omega
   ·split at h
    ·injection h with h;subst h;simp;omega
    ·cases h
theorem eJ {ss:List ec} {a:Al}:∀ (xs:List Nat) (r r':List Al×List Int),r.1.length≤64→(∀ v∈r.2,v < r.1.length)→tn ss a xs r=some r'→∀ v∈r'.2,v < r'.1.length
 | [],r,r',_,h,e=>by injection e with e;subst e;exact h
 |x::xs,r,r',hl,h,e=>by
  cases hst:Ug ss a x r.1 with
  |none=>rw[zt hst] at e;cases e
  |some p=>
   rw[Mt hst] at e
   have hg:=Kx hst hl
   refine eJ xs (p.1,r.2.set x p.2) r' hg.1 ?_ e
   intro v hv
   obtain⟨t,ht⟩:=hg.2
   rcases List.mem_or_eq_of_mem_set hv with h1 | h1
   ·have h2:=h v h1
    have:r.1.length≤p.1.length:=by rw[ht];simp
    simp only;omega
   ·rw[h1];exact jN hst
theorem HF {ss:List ec} (hw:ss.length≤32):∀ (k:Nat) (r r':List Al×List (List Int)),Hn ss r.1→(∀ l∈r.2,∀ v∈l,v < r.1.length)→Ui ss k r=some r'→(∀ l∈r'.2,∀ v∈l,v < r'.1.length)∧∃ t,r'.1=r.1++t
 |0,r,r',_,h,e=>by injection e with e;subst e;exact⟨h,[],by simp⟩
 |k+1,r,r',ta,h,e=>by
  cases ha:r.1[r.2.length]? with
  |none=>rw[It ha] at e;injection e with e;subst e;exact⟨h,[],by simp⟩
  |some a=>
   cases hr:tn ss a (List.range 256) (r.1,Ya) with
   |none=>rw[Mu ha hr] at e;cases e
   |some p=>
    rw[Su ha hr] at e
    obtain⟨g1,⟨t,g2⟩,g3⟩:=Lv hw (List.range 256) (r.1,Ya) p ta ha hr
    have hpos:0 < r.1.length:=by have:=(List.getElem?_eq_some_iff.1 ha).1;omega
    have g4:=eJ (List.range 256) (r.1,Ya) p ta.1 (by
     intro v hv
     have:v=0:=List.eq_of_mem_replicate hv
     simp only;omega) hr
    obtain⟨k1,t2,k2⟩:=HF hw k (p.1,r.2++[p.2]) r' g1 (by
     intro l hl v hv
     rcases List.mem_append.1 hl with h1 | h1
     ·have:=h l h1 v hv
      simp only[g2,List.length_append] at this ⊢;omega
     ·simp at h1;subst h1;exact g4 v hv) e
    exact⟨k1,t++t2,by rw[k2,g2,List.append_assoc]⟩
theorem Ww:∀ (rs:List (List Int)),Aa rs.flatten=rs.flatMap Aa
 | []=>rfl
 |r::rs=>by
  have:=Ww rs
  rw[List.flatten_cons,oG,List.flatMap_cons,this]
def Vj (ss:List ec):List Al:=[(0,Yo ss.length)]
theorem bB {ss:List ec} (hw:ss.length≤32) (hne:∀ s∈ss,0 < s.parts.length):Hn ss (Vj ss):=by
 refine⟨by simp[Vj],?_⟩
 intro k a ha
 match k,ha with
 |0,ha=>
  simp only[Vj,List.getElem?_cons_zero,Option.some.injEq] at ha
  subst ha
  refine⟨by simp,2 ^ ss.length - 1,eG hw,?_,?_⟩
  ·have:2 ^ ss.length≤2 ^ 32:=Nat.pow_le_pow_right (by decide) hw
   omega
  ·intro i s hs _
   exact hne s (List.mem_of_getElem? hs)
 |k+1,ha=>simp[Vj] at ha
section
variable (R0 R1:aa) (S:PV) (ss:List ec)
 (h0:pa 7 R0=some R0) (h1:pa 7 R1=some R1) (g0:pa 6 R0=some R0) (g1:pa 6 R1=some R1)
 (hS:Bh 2 S (ss.map Cd)) (hw:ss.length≤32) (hsz:∀ s∈ss,∀ l∈s.parts,l.length * 16≤140737488355328) (hne:∀ s∈ss,0 < s.parts.length)
include h0 h1 g0 g1 hS hw hsz hne
theorem LG:
 (∀ r,Ui ss 64 (Vj ss,[])=some r→∃ nl',Gd (za ua 7) Ke [.ptr 3 0] (wh R0 R1 S true [] (cf []) 0 [])=some (.pv (.bool true),wh R0 R1 S nl' r.1 (cf r.2) r.2.length [])∧Hn ss r.1∧r.2.length=r.1.length∧∀ r'∈r.2,r'.length=256)∧
 (Ui ss 64 (Vj ss,[])=none→∃ H,Gd (za ua 7) Ke [.ptr 3 0] (wh R0 R1 S true [] (cf []) 0 [])=some (.pv (.bool false),H)∧H[0]? =some R0):=by
 have hloop:=TL R0 R1 S false (Vj ss) ss h0 h1 g0 g1 hS hw hsz (bB hw hne) (by simp[Vj])
 have ls:=hS.len
 simp only[List.length_map] at ls
 have hmet:Gd (za ua 6) Pc [.ptr 3 0,.pv (.agg [.int .i64 0,.int .u32 (Yo ss.length)])] [R0,R1,.map (Cy [] 0),.box [.pv S,.mp 2,.uq 4 true 2 [],.own 5 0],.tok 2 0 true,.seq 256 true [] 0 true]=some (.pv (.dc [.int .i64 0,.bool true]),wh R0 R1 S false [(0,Yo ss.length)] (cf []) 0 []):=
  mK (za ua 6) R0 R1 S true [] (cf []) 0 [] (0,Yo ss.length) rfl (by simp)
 have n0:¬((ss.length:Int) < 0):=by omega
 have t1:((ss.length:Int)).toNat=ss.length:=by simp
 have e1:((ss.length:Int) < 0)=False:=eq_false n0
 have q5:=Ts 6 6 []
 simp only[List.flatMap_nil] at q5
 simp only[wh,cf,List.flatMap_nil,List.isEmpty_nil] at hmet
 unfold wh cf
 constructor
 ·intro r hr
  obtain⟨E,nl',hl,k1,k2,k3⟩:=hloop.1 r hr
  refine⟨nl',?_,k1,k2,k3⟩
  simp -implicitDefEqProofs only[SP,SA,SQ,sevalprocAttr,-List.reduceReplicate,Ke,ls,e1,t1,dB,ua,List.flatMap_nil,hmet,Tc,xa,Ra,Wj,Nj,xk,Pp,Ha,AV.cut,Rb,h0,h1,g0,g1,q5,wh]
  have hl':Fb (fa (ga (za ua 7) Ua) (xa 6 [0,3])) wa ⟨(Tr.lf.set 3 (.pv (.int .i64 0))).set 0 (.ptr 3 0),[R0,R1,.map (Cy [(0,Yo ss.length)] 0),.box [.pv S,.mp 2,.uq 4 false 2 [Wf (0,Yo ss.length)],.own 5 0],.tok 2 1 false,.seq 256 true [] 0 true]⟩=_:=hl
  rw[hl']
  simp -implicitDefEqProofs only[SP,SA,SQ,sevalprocAttr,-List.reduceReplicate,wh,cf]
 ·intro hr
  obtain⟨t,hl,k2,k3⟩:=En (hloop.2 hr)
  refine⟨t.H,?_,k3⟩
  simp -implicitDefEqProofs only[SP,SA,SQ,sevalprocAttr,-List.reduceReplicate,Ke,ls,e1,t1,dB,ua,List.flatMap_nil,hmet,Tc,xa,Ra,Wj,Nj,xk,Pp,Ha,AV.cut,Rb,h0,h1,g0,g1,q5,wh]
  have hl':Fb (fa (ga (za ua 7) Ua) (xa 6 [0,3])) wa ⟨(Tr.lf.set 3 (.pv (.int .i64 0))).set 0 (.ptr 3 0),[R0,R1,.map (Cy [(0,Yo ss.length)] 0),.box [.pv S,.mp 2,.uq 4 false 2 [Wf (0,Yo ss.length)],.own 5 0],.tok 2 1 false,.seq 256 true [] 0 true]⟩=_:=hl
  rw[hl']
  simp -implicitDefEqProofs only[SP,SA,SQ,sevalprocAttr,-List.reduceReplicate,k2]
end
def Hk (ss:List ec):Option (List (List ke)):=
 (Ui ss 64 (Vj ss,[])).map fun r=>Hm (bg r.2.length r.2.flatten).C
section
variable (S0 S:PV) (ss:List ec) (hS0:S0= .qa∨∃ l,S0= .lit 2 l) {y:Bool} {a b e:Int}
include hS0
theorem dM (he:e≠0) (hp:Hd [.agg [S0]]=some (.dc [.agg [.bool y,i64 a,i64 b],i64 e])):
 od [.agg [S0]]=some (.dc [.agg [.qa],i64 e]):=by
 have e1:=Nk he
 rcases hS0 with rfl | ⟨l,rfl⟩ <;>
 simp -implicitDefEqProofs only[od,SP,SA,SQ,sevalprocAttr,-List.reduceReplicate,Qi,hp,e1,bne,Be,Rb]
theorem KO (hp:Hd [.agg [S0]]=some (.dc [.agg [.bool false,i64 a,i64 b],i64 0])):
 od [.agg [S0]]=some (.dc [.agg [.qa],i64 110]):=by
 rcases hS0 with rfl | ⟨l,rfl⟩ <;>
 simp -implicitDefEqProofs only[od,SP,SA,SQ,sevalprocAttr,-List.reduceReplicate,Qi,hp,bne,Be,Rb]
variable (hp:Hd [.agg [S0]]=some (.dc [.agg [.bool true,i64 a,i64 b],i64 0])) (hc:Qg [.agg [S0]]=some (.agg [S]))
 (hS:Bh 2 S (ss.map Cd)) (hw:ss.length≤32) (hsz:∀ s∈ss,∀ l∈s.parts,l.length * 16≤140737488355328) (hne:∀ s∈ss,0 < s.parts.length)
include hp hc hS hw hsz hne
theorem KI (h:Hk ss=none):od [.agg [S0]]=some (.dc [.agg [.qa],i64 130]):=by
 have hn:Ui ss 64 (Vj ss,[])=none:=by unfold Hk at h;simpa using h
 obtain⟨H,hwk,hH⟩:=(LG (.box [.pv .qa]) (.box [.pv (.bool true),.pv (i64 a),.pv (i64 b)]) S ss rfl rfl rfl rfl hS hw hsz hne).2 hn
 have hb0:wh (.box [.pv .qa]) (.box [.pv (.bool true),.pv (i64 a),.pv (i64 b)]) S true [] (cf []) 0 []=[.box [.pv .qa],.box [.pv (.bool true),.pv (i64 a),.pv (i64 b)],.map [],.box [.pv S,.mp 2,.uq 4 true 2 [],.own 5 0],.tok 2 0 true,.seq 256 true [] 0 true]:=rfl
 rw[hb0] at hwk
 have hS2:S= .qa∨∃ l,S= .lit 2 l:=by rcases hS with⟨h,_⟩ | h;exact .inl h;exact .inr ⟨_,h⟩
 have hH2:∀ o,(H.set 0 o)[0]? =some o:=by
  intro o
  cases H with
  |nil=>cases hH
  |cons x H=>rfl
 rcases hS0 with rfl | ⟨l,rfl⟩ <;> rcases hS2 with rfl | ⟨l2,rfl⟩ <;>
 simp -implicitDefEqProofs only[od,SP,SA,SQ,sevalprocAttr,-List.reduceReplicate,Qi,hp,hc,hwk,hH,hH2,ua,gf,fj,AV.GH,AV.Hr,bne,Be,Rb]
theorem ON {l:List (List ke)} (h:Hk ss=some l):od [.agg [S0]]=some (.dc [.agg [jm l],i64 0]):=by
 obtain⟨r,hn,hl⟩:∃ r,Ui ss 64 (Vj ss,[])=some r∧Hm (bg r.2.length r.2.flatten).C=l:=by
  unfold Hk at h;simpa using h
 obtain⟨nl,hwk,k1,k2,k3⟩:=(LG (.box [.pv .qa]) (.box [.pv (.bool true),.pv (i64 a),.pv (i64 b)]) S ss rfl rfl rfl rfl hS hw hsz hne).1 r hn
 have hb0:wh (.box [.pv .qa]) (.box [.pv (.bool true),.pv (i64 a),.pv (i64 b)]) S true [] (cf []) 0 []=[.box [.pv .qa],.box [.pv (.bool true),.pv (i64 a),.pv (i64 b)],.map [],.box [.pv S,.mp 2,.uq 4 true 2 [],.own 5 0],.tok 2 0 true,.seq 256 true [] 0 true]:=rfl
 have hb1:wh (.box [.pv .qa]) (.box [.pv (.bool true),.pv (i64 a),.pv (i64 b)]) S nl r.1 (cf r.2) r.2.length []=Xf (.box [.pv .qa]) (.box [.pv (.bool true),.pv (i64 a),.pv (i64 b)]) S nl r.2.isEmpty 0 r.1 r.2.flatten r.2.length []:=by
  unfold wh Xf cf;rw[Ww]
 rw[hb0,hb1] at hwk
 have hlt:=HF hw 64 (Vj ss,[]) r (bB hw hne) (by simp) hn
 have hpos:0 < r.1.length:=by obtain⟨t,ht⟩:=hlt.2;rw[ht];simp[Vj]
 have hC:r.2.flatten.length=r.2.length * 256:=by
  have:=Rz k3
  rw[← Ww,Qa] at this;exact this
 have cC:∀ c∈r.2.flatten,c < (r.2.length:Int):=by
  intro c hc
  obtain⟨l,h1,h2⟩:=List.mem_flatten.1 hc
  rw[k2];exact hlt.1 l h1 c h2
 have h64:r.2.length≤64:=by rw[k2];exact k1.1
 have h0:0 < r.2.length:=by omega
 obtain⟨fr,fk,v,hf,hls⟩:=AK (za ua 7) (.box [.pv .qa]) (.box [.pv (.bool true),.pv (i64 a),.pv (i64 b)]) S nl r.2.isEmpty r.1 r.2.flatten r.2.length h64 h0 k2.symm hC cC
 have ta:zS r.2.length (bg r.2.length r.2.flatten):=WA _ _ (Nat.le_refl _) ⟨hC,by simp,cC,by intro c hc;rw[List.eq_of_mem_replicate hc];omega,by simp⟩
 obtain⟨O,J,htd⟩:=EO (za ua 7) (.box [.pv .qa]) (.box [.pv (.bool true),.pv (i64 a),.pv (i64 b)]) S nl r.2.isEmpty fr r.1 (bg r.2.length r.2.flatten).C r.2.length (.seq 1 false (Aa (bg r.2.length r.2.flatten).Pb) fk false) (.map (Np (bg r.2.length r.2.flatten).M)) ta.hC ta.cC (by omega) h64 h0
 rw[hl] at htd
 unfold jm
 generalize l.map sf=out at *
 generalize bg r.2.length r.2.flatten=g at *
 simp only[Xf] at hwk hls htd
 have hS2:S= .qa∨∃ l,S= .lit 2 l:=by rcases hS with⟨h,_⟩ | h;exact .inl h;exact .inr ⟨_,h⟩
 rcases hS0 with rfl | ⟨l,rfl⟩ <;> rcases hS2 with rfl | ⟨l2,rfl⟩ <;>
 simp -implicitDefEqProofs only[od,SP,SA,SQ,sevalprocAttr,-List.reduceReplicate,Qi,hp,hc,hwk,hls,htd,ua,gf,fj,AV.GH,AV.Hr,bne,Be,Rb]
end
end Go.AM.B1
namespace Go.AM.B1
open Go.AM Go.AM.So
structure Rp (v:PV) (l:List (Int×Int)):Prop where
 is:Bh 2 v (Td l)
 sz:l.length * 16≤140737488355328
structure pf (P:PV) (ls:List (List (Int×Int))) (ps:List PV):Prop where
 is:Bh 1 P ps
 len:ps.length=ls.length
 all:∀ (k:Nat) v l,ps[k]? =some v→ls[k]? =some l→Rp v l
 sz:ls.length≤maxLen
structure Ag (e:PV) (s:ec) (P:PV) (ps:List PV):Prop where
 eq:e= .agg [P,i64 s.first]
 parts:pf P s.parts ps
structure Jd (S:PV) (ss:List ec) (es:List PV):Prop where
 is:Bh 2 S es
 len:es.length=ss.length
 all:∀ (k:Nat) e s,es[k]? =some e→ss[k]? =some s→∃ P ps,Ag e s P ps
 sz:ss.length≤maxLen
theorem pf.get {P:PV} {ls:List (List (Int×Int))} {ps:List PV} (h:pf P ls ps) {i:Nat} (hi:i < ls.length):∃ v,ps[i]? =some v∧P= .lit 1 ps∧Rp v ls[i]:=by
 have h1:i < ps.length:=by rw[h.len];exact hi
 refine⟨ps[i],List.getElem?_eq_getElem h1,h.is.lit (i:=i) h1,h.all i _ _ (List.getElem?_eq_getElem h1) (List.getElem?_eq_getElem hi)⟩
theorem Jd.get {S:PV} {ss:List ec} {es:List PV} (h:Jd S ss es) {i:Nat} (hi:i < ss.length):∃ e P ps,es[i]? =some e∧S= .lit 2 es∧Ag e ss[i] P ps:=by
 have h1:i < es.length:=by rw[h.len];exact hi
 obtain⟨P,ps,hp⟩:=h.all i _ _ (List.getElem?_eq_getElem h1) (List.getElem?_eq_getElem hi)
 exact⟨es[i],P,ps,List.getElem?_eq_getElem h1,h.is.lit (i:=i) h1,hp⟩
theorem pf.Mc {P:PV} {ls:List (List (Int×Int))} {ps:List PV} (h:pf P ls ps) (H:List aa):Mc H 0 (.pv P)=some ls.length:=by
 rw[h.is.len,h.len]
theorem Jd.Mc {S:PV} {ss:List ec} {es:List PV} (h:Jd S ss es) (H:List aa):Mc H 0 (.pv S)=some ss.length:=by
 rw[h.is.len,h.len]
def Md (l:List (Int×Int)):Prop:=l≠[]∧Ka 255 (-2) l=true
instance (l:List (Int×Int)):Decidable (Md l):=by unfold Md;infer_instance
def Mm:Int→List (List (Int×Int))→Int
 |n,[]=>n
 |n,l::r=>Mm (if 1073741825 < n * Fc 0 l then 1073741825 else n * Fc 0 l) r
def Mg (s:ec):Int:=s.first+Mm 1 s.parts - 1
theorem Hg {l:List (Int×Int)} (h:Md l):1≤Fc 0 l∧Fc 0 l≤256:=by
 have:=(Qn h.2).2.1 h.1;omega
theorem zx {n s:Int} (h1:1≤n) (h2:n≤1073741825) (h3:1≤s) (h4:s≤256):1≤n * s∧n * s≤274877907200:=by
 constructor
 ·have:=Int.mul_le_mul h1 h3 (by omega) (by omega);omega
 ·have:=Int.mul_le_mul h2 h4 (by omega) (by omega);omega
theorem Mr:∀ (ls:List (List (Int×Int))) (n:Int),(∀ l∈ls,Md l)→1≤n→n≤1073741825→1≤Mm n ls∧Mm n ls≤1073741825
 | [],n,_,h1,h2=>⟨h1,h2⟩
 |l::r,n,h,h1,h2=>by
  have hs:=Hg (h l (by simp))
  have hm:=zx h1 h2 hs.1 hs.2
  rw[Mm]
  refine Mr r _ (fun x hx=>h x (by simp[hx])) ?_ ?_ <;> split <;> omega
abbrev VE (row:List PV) (P:PV) (len i n:Int):Tr:=((((Tr.lf.set 9 (.pv (i64 i))).set 8 (.pv (i64 len))).set 7 (.pv P)).set 3 (.pv (i64 n))).set 1 (.pv (.rp row 0))
theorem NG {e:PV} {s:ec} {P:PV} {ps:List PV} (h:Ag e s P ps) (ta:∀ l∈s.parts,Md l) (hf:0≤s.first∧s.first≤1073741823):Vk [e]=some (i64 (Mg s)):=by
 obtain⟨rfl,hP⟩:=h
 have hb:=Mr s.parts 1 ta (by omega) (by omega)
 have hsz:=hP.sz
 have hloop:me (fun r=>∃ E H,r=(.exit 0,⟨E,H⟩)∧E.get 3= .pv (i64 (Mm 1 s.parts))∧E.get 1= .pv (.rp [P,i64 s.first] 0))
  (Fb (fa (ga (za (fun _=>none) 8) Mf) (xa 0 [1,3,7,8,9])) wa ⟨VE [P,i64 s.first] P s.parts.length 0 1,[]⟩):=by
  refine Xa (Ue (g:=fa (ga (za (fun _=>none) 8) Mf) (xa 0 [1,3,7,8,9]))
   (fun i t=>∃ n,t=⟨VE [P,i64 s.first] P s.parts.length i n,[]⟩∧1≤n∧n≤1073741825∧Mm 1 s.parts=Mm n (s.parts.drop i))
   s.parts.length (by unfold wa;unfold maxLen at hsz;omega) _ ⟨1,rfl,by omega,by omega,rfl⟩ ?_ ?_) (fun r h=>h.2)
  ·rintro i t hi ⟨n,rfl,h1,h2,hs⟩
   obtain⟨v,hv,hPl,hpt⟩:=hP.get hi
   have hd:s.parts.drop i=s.parts[i]::s.parts.drop (i+1):=List.drop_eq_getElem_cons hi
   have hpo:=ta s.parts[i] (List.getElem_mem hi)
   have hss:=Nr v s.parts[i] hpt.is hpt.sz hpo.2
   have hsb:=Hg hpo
   rw[hd,Mm] at hs
   generalize s.parts[i]=l at *
   have hm:=zx h1 h2 hsb.1 hsb.2
   have e1:decide ((i:Int) < (s.parts.length:Int))=true:=db (by omega)
   have t2:=Ab hi hsz
   have t3:IntKind.i64.wrap (n * Fc 0 l)=n * Fc 0 l:=Da (by omega)
   have hq:i < ps.length:=by rw[hP.len];exact hi
   have hcl:v.cells=[v]:=by rcases hpt.is with⟨h,_⟩ | h <;> rw[h] <;> rfl
   have a1:ma [] 1 (.pv P) (i:Int)=some (.pv (.rp [v] 0)):=by
    rw[hPl]
    simp only[ma]
    rw[if_pos (by unfold Ca;simp;omega),Int.toNat_natCast,hv]
    simp[hcl]
   have a2:na [] false 1 (.pv (.rp [v] 0))=some (.pv v):=rfl
   generalize hQ:LN _ _ i=Q
   simp -implicitDefEqProofs only[SX,sevalprocAttr,Mf,e1,t2,t3,a1,a2,hss,Wn,zd,xa,Ra,AV.cut,Ta,VE]
   subst hQ
   exact⟨_,rfl,by split <;> omega,by split <;> omega,hs⟩
  ·rintro t ⟨n,rfl,h1,h2,hs⟩
   rw[List.drop_length,Mm] at hs
   have e1:decide ((s.parts.length:Int) < (s.parts.length:Int))=false:=mb (by omega)
   generalize hQ:(fun r:Ex×St=>r.1.stop=true∧_)=Q
   simp -implicitDefEqProofs only[SX,sevalprocAttr,Mf,e1,VE]
   subst hQ
   exact⟨rfl,_,_,rfl,by simp[Tr.ba,hs],by simp[Tr.ba]⟩
 obtain⟨r,h1,E,H,rfl,hE,hE1⟩:=qd hloop
 have ls:=hP.Mc
 simp only[VE] at h1
 have h1':Fb (fa (ga (za (fun _=>none) 8) Mf) (xa 0 [1,3,7,8,9])) wa ⟨((((Tr.lf.set 9 (.pv (.int .i64 0))).set 8 (.pv (.int .i64 s.parts.length))).set 7 (.pv P)).set 3 (.pv (.int .i64 1))).set 1 (.pv (.rp [P,i64 s.first] 0)),[]⟩=some (.exit 0,⟨E,H⟩):=h1
 unfold Mg
 generalize Mm 1 s.parts=n at *
 have t1:IntKind.i64.wrap (s.first+n)=s.first+n:=Da (by omega)
 have t2:IntKind.i64.wrap (s.first+n - 1)=s.first+n - 1:=Da (by omega)
 have hPv:∃ sz es,P= .qa∨P= .lit sz es:=by rcases hP.is with⟨h,_⟩ | h;exact⟨0,[],.inl h⟩;exact⟨_,_,.inr h⟩
 obtain⟨sz,es,rfl | rfl⟩:=hPv <;>
 simp -implicitDefEqProofs only[Vk,SP,SA,SQ,WP,WQ,sevalprocAttr,Lo,Tc,ls,h1',hE,hE1,t1,t2]
theorem eP (call:Fa) {v:PV} {l:List (Int×Int)} (h:Rp v l) (H:List aa):Gd call Ih [.pv v] H=some (.pv (.bool (!decide (Md l))),H):=by
 have ls:=h.is.len
 simp only[Td,List.length_map] at ls
 have hv:=xy v l h.is h.sz
 by_cases h0:l=[]
 ·have e1:((l.length:Int)==0)=true:=by simp[h0]
  have e2:(!decide (Md l))=true:=by
   have:¬Md l:=fun hp=>hp.1 h0
   simp[this]
  rw[e2]
  simp -implicitDefEqProofs only[SP,SA,SQ,WP,WQ,sevalprocAttr,Ih,ls,e1]
 ·have e1:((l.length:Int)==0)=false:=by
   have:l.length≠0:=fun e=>h0 (List.eq_nil_of_length_eq_zero e)
   exact Nk (by omega)
  have e2:(!decide (Md l))= !(Ka 255 (-2) l):=by
   congr 1
   rw[Bool.eq_iff_iff];simp[Md,h0]
  rw[e2]
  simp -implicitDefEqProofs only[SP,SA,SQ,WP,WQ,sevalprocAttr,Ih,ls,e1,hv]
def Ks (ls:List (List (Int×Int))) (i:Nat):Int:=
 match ls with
 | []=> -1
 |l::r=>if Md l then Ks r (i+1) else i
theorem EC:∀ (ls:List (List (Int×Int))) (i:Nat),decide (Ks ls i≥0)= !decide (∀ l∈ls,Md l)
 | [],i=>by simp[Ks]
 |l::r,i=>by
  rw[Ks]
  by_cases h:Md l
  ·rw[if_pos h,EC r];simp[h]
  ·rw[if_neg h];simp[h]
abbrev KF (P:PV) (len i:Int):Tr:=(((Tr.lf.set 8 (.pv (i64 i))).set 7 (.pv (i64 len))).set 1 (.mi 7 [])).set 0 (.pv P)
theorem yK {P:PV} {ls:List (List (Int×Int))} {ps:List PV} (hP:pf P ls ps) (d:Nat) (H:List aa) (hH:Kc H):
 Gd (za Eb (d+1)) Qb [.pv P,.mi 7 []] H=some (.pv (i64 (Ks ls 0)),H):=by
 have hsz:=hP.sz
 have lsn:=hP.Mc
 have hcut:=Kc.cut hH
 have h7:Eb 7=some Ih:=rfl
 apply aA
 have hloop:me (fun r=>∃ E,(r=(.exit 0,⟨E,H⟩)∧Ks ls 0= -1)∨(r=(.ret,⟨E,H⟩)∧E.get 4= .pv (i64 (Ks ls 0))))
  (Fb (fa (ga (za Eb (d+1)) fb) (xa H.length [0,1,7,8])) wa ⟨KF P ls.length 0,H⟩):=by
  refine Xa (Ue (g:=fa (ga (za Eb (d+1)) fb) (xa H.length [0,1,7,8]))
   (fun i t=>t=⟨KF P ls.length i,H⟩∧Ks ls 0=Ks (ls.drop i) i)
   ls.length (by unfold wa;unfold maxLen at hsz;omega) _ ⟨rfl,rfl⟩ ?_ ?_) (fun r h=>h.2)
  ·rintro i t hi ⟨rfl,hs⟩
   obtain⟨v,hv,hPl,hpt⟩:=hP.get hi
   have hd:ls.drop i=ls[i]::ls.drop (i+1):=List.drop_eq_getElem_cons hi
   rw[hd,Ks] at hs
   have hn:=eP (za Eb d) hpt H
   generalize ls[i]=l at *
   have e1:decide ((i:Int) < (ls.length:Int))=true:=db (by omega)
   have t2:=Ab hi hsz
   have hq:i < ps.length:=by rw[hP.len];exact hi
   have hcl:v.cells=[v]:=by rcases hpt.is with⟨h,_⟩ | h <;> rw[h] <;> rfl
   have a1:ma H 1 (.pv P) (i:Int)=some (.pv (.rp [v] 0)):=by
    rw[hPl]
    simp only[ma]
    rw[if_pos (by unfold Ca;simp;omega),Int.toNat_natCast,hv]
    simp[hcl]
   have a2:na H false 1 (.pv (.rp [v] 0))=some (.pv v):=rfl
   generalize hQ:LN _ _ i=Q
   by_cases ta:Md l
   ·rw[if_pos ta] at hs
    rw[decide_eq_true ta] at hn
    simp -implicitDefEqProofs only[SX,sevalprocAttr,fb,e1,t2,a1,a2,h7,hn,hcut,List.take_length,xa,Ra,AV.cut,Ta,KF]
    subst hQ
    exact⟨rfl,hs⟩
   ·rw[if_neg ta] at hs
    rw[decide_eq_false ta] at hn
    simp -implicitDefEqProofs only[SX,sevalprocAttr,fb,e1,t2,a1,a2,h7,hn,hcut,List.take_length,xa,Ra,AV.cut,Ta,KF]
    subst hQ
    exact⟨_,.inr ⟨rfl,by simp[Tr.ba,hs]⟩⟩
  ·rintro t ⟨rfl,hs⟩
   rw[List.drop_length,Ks] at hs
   have e1:decide ((ls.length:Int) < (ls.length:Int))=false:=mb (by omega)
   generalize hQ:(fun r:Ex×St=>r.1.stop=true∧_)=Q
   simp -implicitDefEqProofs only[SX,sevalprocAttr,fb,e1,KF]
   subst hQ
   exact⟨rfl,_,.inl ⟨rfl,hs⟩⟩
 simp -implicitDefEqProofs only[SX,sevalprocAttr,Qb,Tc,lsn,hcut,List.take_length,xa,Ra,AV.cut,Ta]
 refine Xa hloop ?_
 rintro _ ⟨E,⟨rfl,hb⟩ | ⟨rfl,hE⟩⟩
 ·simp -implicitDefEqProofs only[SX,sevalprocAttr,hb]
 ·simp -implicitDefEqProofs only[SX,sevalprocAttr,hE]
theorem Vv {P:PV} {ls:List (List (Int×Int))} {ps:List PV} (hP:pf P ls ps) (d:Nat) (H:List aa) (hH:Kc H):
 Gd (za Eb (d+2)) gb [.pv P,.mi 7 []] H=some (.pv (.bool (!decide (∀ l∈ls,Md l))),H):=by
 have h:=yK hP d H hH
 have h5:Eb 5=some Qb:=rfl
 have hb:=EC ls 0
 simp -implicitDefEqProofs only[SX,sevalprocAttr,gb,h5,h,hb]
end Go.AM.B1
