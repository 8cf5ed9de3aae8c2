/- What functions of the program compute. -/
import Derived.Test.YtijlhblleiaomaaGreatN5
set_option linter.unusedVariables false
set_option linter.unusedSimpArgs false
namespace Go.AM.B1
open Go.AM
theorem wrap_u32 {n:Nat} (h:n < 4294967296):IntKind.u32.wrap (n:Int)=(n:Int):=by
 have e:IntKind.u32.wrap (n:Int)=(n:Int) % 4294967296:=by
  simp[IntKind.signed,IntKind.wrap,IntKind.bits]
 rw[e];omega
theorem VO {a b:Nat} (ha:a < 4294967296) (hb:b < 4294967296):(BitVec.ofInt IntKind.u32.bits (a:Int) &&& BitVec.ofInt IntKind.u32.bits (b:Int)).toNat=a &&& b:=by
 show (BitVec.ofInt 32 (a:Int) &&& BitVec.ofInt 32 (b:Int)).toNat=_
 rw[BitVec.toNat_and,BitVec.ofInt_natCast,BitVec.ofInt_natCast,BitVec.toNat_ofNat,BitVec.toNat_ofNat,Nat.mod_eq_of_lt ha,Nat.mod_eq_of_lt hb]
theorem FQ {a b:Nat} (ha:a < 4294967296) (hb:b < 4294967296):(BitVec.ofInt IntKind.u32.bits (a:Int) ||| BitVec.ofInt IntKind.u32.bits (b:Int)).toNat=a ||| b:=by
 show (BitVec.ofInt 32 (a:Int) ||| BitVec.ofInt 32 (b:Int)).toNat=_
 rw[BitVec.toNat_or,BitVec.ofInt_natCast,BitVec.ofInt_natCast,BitVec.toNat_ofNat,BitVec.toNat_ofNat,Nat.mod_eq_of_lt ha,Nat.mod_eq_of_lt hb]
theorem VF {n i:Nat} (hn:n < 4294967296) (hi:i < 32):Dv (n:Int) i=n.testBit i:=by
 have hm:min i IntKind.u32.bits=i:=by show min i 32=i;omega
 have hf:(n:Int).fdiv (2 ^ i)=((n / 2 ^ i:Nat):Int):=by
  rw[show ((2:Int) ^ i)=((2 ^ i:Nat):Int) by push_cast;rfl]
  exact (Int.ofNat_fdiv n (2 ^ i)).symm
 have hle:n / 2 ^ i < 4294967296:=Nat.lt_of_le_of_lt (Nat.div_le_self _ _) hn
 have e:(BitVec.ofInt IntKind.u32.bits ((n / 2 ^ i:Nat):Int) &&& BitVec.ofInt IntKind.u32.bits 1).toNat=n / 2 ^ i % 2:=by
  have:=VO hle (show 1 < 4294967296 by decide)
  rw[Nat.and_one_is_mod] at this
  exact this
 unfold Dv
 rw[hm,hf,e,wrap_u32 (by omega),Nat.testBit_eq_decide_div_mod_eq]
 rcases Nat.mod_two_eq_zero_or_one (n / 2 ^ i) with h | h <;> rw[h] <;> rfl
theorem CQ {n i:Nat} (hn:n < 4294967296) (hi:i < 32):aT (n:Int) i=((n ||| 2 ^ i:Nat):Int):=by
 have hm:min i IntKind.u32.bits=i:=by show min i 32=i;omega
 have hp:2 ^ i < 4294967296:=by
  have:(2:Nat) ^ i < 2 ^ 32:=Nat.pow_lt_pow_right (by decide) hi
  simpa using this
 have h2:IntKind.u32.wrap (1 * 2 ^ i)=((2 ^ i:Nat):Int):=by
  rw[Int.one_mul,show ((2:Int) ^ i)=((2 ^ i:Nat):Int) by push_cast;rfl,wrap_u32 hp]
 unfold aT
 rw[hm,h2,FQ hn hp,wrap_u32]
 exact Nat.or_lt_two_pow (n:=32) hn hp
def gp (x:Int) (bits d:Nat):Nat→List ec→Nat×Bool→Nat×Bool
 |_,[],acc=>acc
 |i,s::r,acc=>gp x bits d (i+1) r (if bits.testBit i&&Bp s d x then (acc.1 ||| 2 ^ i,acc.2||(s.parts.length==d+1)) else acc)
theorem FD {x:Int} {bits d:Nat}:∀ (ss:List ec) (i:Nat) (acc:Nat×Bool),i+ss.length≤32→acc.1 < 4294967296→(gp x bits d i ss acc).1 < 4294967296
 | [],i,acc,_,h=>h
 |s::r,i,acc,hl,h=>by
  rw[gp]
  refine FD r (i+1) _ (by simp only[List.length_cons] at hl;omega) ?_
  split
  ·refine Nat.or_lt_two_pow (n:=32) h ?_
   exact Nat.pow_lt_pow_right (by decide) (by simp only[List.length_cons] at hl;omega)
  ·exact h
theorem EI {x:Int} {bits d:Nat} (hb:bits < 4294967296):∀ (ss:List ec) (i:Nat) (acc:Nat×Bool),i+ss.length≤32→acc.1 < 4294967296→
 Cf x (bits:Int) d i ss ((acc.1:Int),acc.2)=(((gp x bits d i ss acc).1:Int),(gp x bits d i ss acc).2)
 | [],i,acc,_,h=>rfl
 |s::r,i,acc,hl,h=>by
  have hi:i < 32:=by simp only[List.length_cons] at hl;omega
  rw[Cf,gp,VF hb hi,CQ h hi]
  have h2:(acc.1 ||| 2 ^ i) < 4294967296:=Nat.or_lt_two_pow (n:=32) h (Nat.pow_lt_pow_right (by decide) hi)
  have ih:=EI (x:=x) (d:=d) hb r (i+1) (if bits.testBit i&&Bp s d x then (acc.1 ||| 2 ^ i,acc.2||(s.parts.length==d+1)) else acc)
   (by simp only[List.length_cons] at hl;omega) (by split;exact h2;exact h)
  rw[← ih]
  cases bits.testBit i&&Bp s d x <;> rfl
theorem xx {x:Int} {bits d:Nat}:∀ (ss:List ec) (i:Nat) (acc:Nat×Bool) (j:Nat),
 (gp x bits d i ss acc).1.testBit j=(acc.1.testBit j||(decide (i≤j)&&(match ss[j - i]? with | some s=>bits.testBit j&&Bp s d x | none=>false)))
 | [],i,acc,j=>by simp[gp]
 |s::r,i,acc,j=>by
  rw[gp,xx r (i+1)]
  by_cases hij:i=j
  ·subst hij
   simp only[Nat.sub_self,List.getElem?_cons_zero,Nat.le_refl,decide_true,Bool.true_and]
   have:decide (i+1≤i)=false:=by simp
   rw[this,Bool.false_and,Bool.or_false]
   cases h:(bits.testBit i&&Bp s d x) with
   |true=>simp[Nat.testBit_or,Nat.testBit_two_pow_self]
   |false=>simp
  ·have e1:(if (bits.testBit i&&Bp s d x)=true then (acc.1 ||| 2 ^ i,acc.2||s.parts.length==d+1) else acc).1.testBit j=acc.1.testBit j:=by
    split
    ·simp only[Nat.testBit_or,Nat.testBit_two_pow_of_ne hij,Bool.or_false]
    ·rfl
   rw[e1]
   by_cases hlt:i+1≤j
   ·have e2:j - i=(j - (i+1))+1:=by omega
    have e3:decide (i≤j)=decide (i+1≤j):=by simp;omega
    rw[e2,e3,List.getElem?_cons_succ]
   ·have e3:decide (i≤j)=false:=by simp;omega
    have e4:decide (i+1≤j)=false:=by simp;omega
    rw[e3,e4];rfl
theorem Kw {x:Int} {bits d:Nat}:∀ (ss:List ec) (i:Nat) (acc:Nat×Bool),
 (gp x bits d i ss acc).2=(acc.2||(ss.zipIdx i).any fun p=>bits.testBit p.2&&Bp p.1 d x&&(p.1.parts.length==d+1))
 | [],i,acc=>by simp[gp]
 |s::r,i,acc=>by
  rw[gp,Kw r (i+1),List.zipIdx_cons,List.any_cons]
  cases h:(bits.testBit i&&Bp s d x) with
  |true=>simp[Bool.or_assoc]
  |false=>simp
end Go.AM.B1
namespace Go.AM.B1
open Go.AM
def eF (ss:List ec) (k:Nat) (a:Al):Prop:=
 a.1≤k∧∃ b:Nat,a.2=(b:Int)∧b < 4294967296∧∀ i s,ss[i]? =some s→b.testBit i=true→a.1 < s.parts.length
def Wn (ss:List ec) (sets:List Al):Prop:=sets.length≤64∧∀ k a,sets[k]? =some a→eF ss k a
theorem eF.ta {ss:List ec} {k:Nat} {a:Al} (h:eF ss k a) (hl:ss.length≤32):∀ i s,ss[i]? =some s→Dv a.2 i=true→a.1 < s.parts.length:=by
 obtain⟨_,b,e,hb,h⟩:=h
 intro i s hs ht
 have hi:i < 32:=by have:=(List.getElem?_eq_some_iff.1 hs).1;omega
 rw[e,VF hb hi] at ht
 exact h i s hs ht
theorem VR {ss:List ec} {k:Nat} {a:Al} {x:Int} (h:eF ss k a) (hl:ss.length≤32) (hf:(Cf x a.2 a.1 0 ss (0,false)).2=false):
 eF ss (k+1) (a.1+1,(Cf x a.2 a.1 0 ss (0,false)).1):=by
 obtain⟨hk,b,e,hb,h⟩:=h
 have hN:Cf x (b:Int) a.1 0 ss (0,false)=(((gp x b a.1 0 ss (0,false)).1:Int),(gp x b a.1 0 ss (0,false)).2):=EI (x:=x) (d:=a.1) hb ss 0 (0,false) (by omega) (by decide)
 rw[e,hN] at hf
 rw[e,hN]
 have hlt:=FD (x:=x) (bits:=b) (d:=a.1) ss 0 (0,false) (by omega) (by decide)
 refine⟨Nat.succ_le_succ hk,_,rfl,hlt,?_⟩
 intro i s hs ht
 rw[xx] at ht
 simp only[Nat.zero_testBit,Nat.zero_le,decide_true,Bool.true_and,Bool.false_or,Nat.sub_zero,hs] at ht
 have hd:=h i s hs (by revert ht;cases b.testBit i <;> simp)
 have hf':(gp x b a.1 0 ss (0,false)).2=false:=hf
 rw[Kw,Bool.false_or,List.any_eq_false] at hf'
 have:=hf' (s,i) (by rw[List.mk_mem_zipIdx_iff_getElem?];exact hs)
 show a.1+1 < s.parts.length
 simp only[ht,Bool.true_and] at this
 have h2:¬s.parts.length=a.1+1:=by simpa using this
 omega
theorem PE {ss:List ec} {a:Al} {x:Int} {sets:List Al} {r:List Al×Int} {k:Nat} (hs:Wn ss sets) (ha:sets[k]? =some a) (hl:ss.length≤32) (h:Tg ss a x sets=some r):
 Wn ss r.1∧∃ t,r.1=sets++t:=by
 have hk:=hs.2 k a ha
 unfold Tg at h
 split at h
 ·injection h with h;subst h;exact⟨hs,[],by simp⟩
 ·split at h
  ·injection h with h;subst h;exact⟨hs,[],by simp⟩
  ·next hf=>
   split at h
   ·injection h with h;subst h;exact⟨hs,[],by simp⟩
   ·split at h
    ·next hlt=>
     injection h with h;subst h
     refine⟨⟨by simp;omega,?_⟩,_,rfl⟩
     intro j b hb
     rcases Nat.lt_or_ge j sets.length with h1 | h1
     ·rw[List.getElem?_append_left h1] at hb;exact hs.2 j b hb
     ·rw[List.getElem?_append_right h1] at hb
      cases hj:j - sets.length with
      |succ n=>rw[hj] at hb;simp at hb
      |zero=>
       rw[hj] at hb
       simp only[List.getElem?_cons_zero,Option.some.injEq] at hb
       subst hb
       have hkl:=(List.getElem?_eq_some_iff.1 ha).1
       obtain⟨g1,g2⟩:=VR hk hl (by simpa using hf)
       exact⟨Nat.le_trans g1 (by omega),g2⟩
    ·cases h
theorem Nv {ss:List ec} {a:Al} {k:Nat} (hl:ss.length≤32):∀ (xs:List Nat) (r r':List Al×List Int),Wn ss r.1→r.1[k]? =some a→tn ss a xs r=some r'→
 Wn ss r'.1∧(∃ t,r'.1=r.1++t)∧r'.2.length=r.2.length
 | [],r,r',h,_,e=>by injection e with e;subst e;exact⟨h,⟨[],by simp⟩,rfl⟩
 |x::xs,r,r',h,ha,e=>by
  cases hst:Tg ss a x r.1 with
  |none=>rw[pt hst] at e;cases e
  |some p=>
   rw[Nt hst] at e
   obtain⟨g1,t,g2⟩:=PE h ha hl hst
   obtain⟨k1,⟨t',k2⟩,k3⟩:=Nv hl xs (p.1,r.2.set x p.2) r' g1 (by rw[g2,List.getElem?_append_left (List.getElem?_eq_some_iff.1 ha).1];exact ha) e
   exact⟨k1,⟨t++t',by rw[k2,g2,List.append_assoc]⟩,by rw[k3];simp⟩
def Ya:List Int:=List.replicate 256 0
theorem QA:Ya.length=256:=List.length_replicate
def Ui (ss:List ec):Nat→List Al×List (List Int)→Option (List Al×List (List Int))
 |0,r=>some r
 |k+1,r=>match r.1[r.2.length]? with
  |none=>some r
  |some a=>match tn ss a (List.range 256) (r.1,Ya) with
   |none=>none
   |some p=>Ui ss k (p.1,r.2++[p.2])
theorem ot {ss:List ec} {k:Nat} {r:List Al×List (List Int)} (h:r.1[r.2.length]? =none):Ui ss k r=some r:=by
 cases k with
 |zero=>rfl
 |succ k=>rw[Ui,h]
theorem Ru {ss:List ec} {k:Nat} {r:List Al×List (List Int)} {a:Al} (h:r.1[r.2.length]? =some a) (h2:tn ss a (List.range 256) (r.1,Ya)=none):Ui ss (k+1) r=none:=by
 rw[Ui,h];simp only[h2]
theorem Bu {ss:List ec} {k:Nat} {r:List Al×List (List Int)} {a:Al} {p:List Al×List Int} (h:r.1[r.2.length]? =some a) (h2:tn ss a (List.range 256) (r.1,Ya)=some p):Ui ss (k+1) r=Ui ss k (p.1,r.2++[p.2]):=by
 rw[Ui,h];simp only[h2]
section
variable (R0 R1:aa) (S:PV) (nl:Bool) (sets:List Al) (rs:List (List Int)) (ss:List ec) (i:Nat)
theorem SN (h0:pa 7 R0=some R0) (h1:pa 7 R1=some R1) (hi:i < sets.length) (hl:sets.length≤64)
 (hrowL:Wp 2 (.pv (.bool false)) R0 (Eb (fa (ga (za ua 7) ya) (xa 7 [0,3,4,30])) wa ⟨Kj i 0,wh R0 R1 S nl sets (gf rs) rs.length [.box (Aa (List.replicate 256 0))]⟩)):
 Wp 2 (.pv (.bool false)) R0 (Zb (za ua 7) [0,3] Ta 6 ⟨zx i,wh R0 R1 S nl sets (gf rs) rs.length []⟩):=by
 have hlen:(sets.map Wf).length=sets.length:=by simp
 have e1:decide ((i:Int) < (sets.length:Int))=true:=Za (by omega)
 have q5:=Ys 7 6 rs
 obtain⟨t,g1,g2,g3⟩:=Sn hrowL
 simp only[Kj,wh,gf,Int.cast_ofNat_Int] at g1
 unfold wh gf
 have hz2:=NR
 generalize hz:List.replicate 256 (0:Int)=zs at *
 simp -implicitDefEqProofs only[SP,SA,SQ,sevalprocAttr,-List.reduceReplicate,Zb,fa,Ta,hlen,e1,Tc,xa,Qa,pk,ak,Rj,Pp,Ha,Xm,AV.cut,Rb,h0,h1,zx,hz2,q5]
 rw[g1]
 simp -implicitDefEqProofs only[SP,SA,SQ,sevalprocAttr,-List.reduceReplicate,IA,g2,g3]
theorem sF (hi:i=sets.length):
 Zb (za ua 7) [0,3] Ta 6 ⟨zx i,wh R0 R1 S nl sets (gf rs) rs.length []⟩=
  some (.exit 0,⟨(((((((zx i).set 21 (.pv (i64 i))).set 22 (.ptr 3 0)).set 23 (.ptr 3 0)).set 24 (.ptr 3 2)).set 25 (.uq 4 nl 2 (sets.map Wf))).set 26 (.pv (i64 sets.length))).set 27 (.pv (.bool false)),wh R0 R1 S nl sets (gf rs) rs.length []⟩):=by
 have hlen:(sets.map Wf).length=sets.length:=by simp
 have e1:decide ((i:Int) < (sets.length:Int))=false:=mb (by omega)
 simp -implicitDefEqProofs only[SP,SA,SQ,sevalprocAttr,-List.reduceReplicate,Zb,fa,Ta,hlen,e1,zx,wh]
theorem TL (n:Nat):pa n (gf rs)=some (gf rs):=by
 have:(rs.flatMap Aa).all (AV.Wc n deep)=true:=Ys n deep rs
 unfold gf
 rw[Pp,if_pos this]
theorem AL (h0:pa 7 R0=some R0) (h1:pa 7 R1=some R1) (g0:pa 6 R0=some R0) (g1:pa 6 R1=some R1)
 (hS:Ah 2 S (ss.map Ed)) (hw:ss.length≤32) (hsz:∀ s∈ss,∀ l∈s.parts,l.length * 16≤140737488355328) (ta:Wn ss sets) (h1s:sets.length≤1):
 (∀ r,Ui ss 64 (sets,[])=some r→∃ E nl',Eb (fa (ga (za ua 7) Ta) (xa 6 [0,3])) wa ⟨zx 0,wh R0 R1 S nl sets (gf []) 0 []⟩=
  some (.exit 0,⟨E,wh R0 R1 S nl' r.1 (gf r.2) r.2.length []⟩)∧Wn ss r.1∧r.2.length=r.1.length∧∀ r'∈r.2,r'.length=256)∧
 (Ui ss 64 (sets,[])=none→Wp 2 (.pv (.bool false)) R0 (Eb (fa (ga (za ua 7) Ta) (xa 6 [0,3])) wa ⟨zx 0,wh R0 R1 S nl sets (gf []) 0 []⟩)):=by
 have key:=Gi (g:=Zb (za ua 7) [0,3] Ta 6)
  (fun i t=>∃ nl' sets' rs',t=⟨zx i,wh R0 R1 S nl' sets' (gf rs') rs'.length []⟩∧Ui ss 64 (sets,[])=Ui ss (64 - i) (sets',rs')∧Wn ss sets'∧rs'.length=i∧i≤sets'.length∧∀ r∈rs',r.length=256)
  (fun ex t=>(∃ r,ex= .exit 0∧Ui ss 64 (sets,[])=some r∧∃ E nl',t=⟨E,wh R0 R1 S nl' r.1 (gf r.2) r.2.length []⟩∧Wn ss r.1∧r.2.length=r.1.length∧∀ r'∈r.2,r'.length=256)∨
   (ex= .ret∧Ui ss 64 (sets,[])=none∧t.env.get 2= .pv (.bool false)∧t.H[0]? =some R0))
  wa 64 0 ⟨zx (0:Nat),wh R0 R1 S nl sets (gf []) 0 []⟩ (by unfold wa;omega) (by omega) ⟨nl,sets,[],rfl,rfl,ta,rfl,by omega,by simp⟩ ?_ ?_
 ·obtain⟨ex,t,h,_,hq⟩:=key
  have h':Eb (fa (ga (za ua 7) Ta) (xa 6 [0,3])) wa ⟨zx 0,wh R0 R1 S nl sets (gf []) 0 []⟩=some (ex,t):=h
  rw[h']
  rcases hq with⟨r,rfl,hr',E,nl',rfl,q1,q2,q3⟩ | ⟨rfl,hr',hg,hg2⟩
  ·refine⟨fun r2 e=> ?_,fun e=> ?_⟩
   ·rw[hr'] at e;injection e with e;subst e;exact⟨E,nl',rfl,q1,q2,q3⟩
   ·rw[hr'] at e;cases e
  ·refine⟨fun r2 e=> ?_,fun _=> .mk _ hg hg2⟩
   rw[hr'] at e;cases e
 ·rintro i hi t ⟨nl',sets',rs',rfl,hws,hok',hrl,hil,hrr⟩
  by_cases hlt:i < sets'.length
  ·obtain⟨a,ha⟩:∃ a,sets'[i]? =some a:=⟨sets'[i],by simp[hlt]⟩
   have hsa:=hok'.2 i a ha
   have hget:sets'[rs'.length]? =some a:=by rw[hrl];exact ha
   have hrow:=WM R0 R1 S (gf rs') rs'.length ss h0 h1 (TL rs' 7) hS (by unfold maxLen;omega) hsz (nl:=nl') QA ha (by have:=hsa.1;omega) hok'.1 (hsa.ta hw)
   have e64:64 - i=(64 - (i+1))+1:=by omega
   cases hr:tn ss a (List.range 256) (sets',Ya) with
   |none=>
    have hst:=SN R0 R1 S nl' sets' rs' i h0 h1 hlt hok'.1 (hrow.2 hr)
    obtain⟨t,k1,k2,k3⟩:=Sn hst
    rw[e64,Ru (r:=(sets',rs')) hget hr] at hws
    exact .inr ⟨.ret,t,k1,rfl,.inr ⟨rfl,hws,k2,k3⟩⟩
   |some p=>
    obtain⟨nl2,k1,k2,k3,k4⟩:=hrow.1 p hr
    have hro:=Nv hw _ _ _ hok' ha hr
    rw[e64,Bu (r:=(sets',rs')) hget hr] at hws
    have hsr:=mL R0 R1 S nl' sets' rs' i h0 h1 g0 g1 hlt hok'.1 (by have:=hok'.1;omega) hrr nl2 p.1 p.2 k3 k1
    refine .inl ⟨_,hsr,nl2,p.1,rs'++[p.2],by simp,hws,hro.1,by simp[hrl],?_,?_⟩
    ·obtain⟨t,ht⟩:=k4
     rw[ht];simp;omega
    ·intro r hr
     rcases List.mem_append.1 hr with h | h
     ·exact hrr r h
     ·simp at h;subst h;exact k3
  ·have hie:i=sets'.length:=by omega
   rw[ot (r:=(sets',rs')) (by show sets'[rs'.length]? =none;rw[hrl,hie];simp)] at hws
   exact .inr ⟨.exit 0,_,sF R0 R1 S nl' sets' rs' i hie,rfl,.inl ⟨(sets',rs'),rfl,hws,_,nl',rfl,hok',by show rs'.length=sets'.length;omega,hrr⟩⟩
 ·rintro t ⟨nl',sets',rs',rfl,hws,hok',hrl,hil,hrr⟩
  have hie:64=sets'.length:=by have:=hok'.1;omega
  rw[ot (r:=(sets',rs')) (by show sets'[rs'.length]? =none;rw[hrl,hie];simp)] at hws
  exact⟨.exit 0,_,sF R0 R1 S nl' sets' rs' 64 hie,rfl,.inl ⟨(sets',rs'),rfl,hws,_,nl',rfl,hok',by show rs'.length=sets'.length;omega,hrr⟩⟩
end
end Go.AM.B1
namespace Go.AM.B1
open Go.AM
abbrev Yf (R0 R1:aa) (S:PV) (nl nr:Bool) (fr:Nat) (sets:List Al) (C:List Int) (n:Nat) (T:List aa):List aa:=
 R0::R1:: .map (My sets 0):: .box [.pv S,.mp 2,.uq 4 nl 2 (sets.map Wf),.own 5 n]:: .tok 2 sets.length nl:: .seq 256 true (Aa C) fr nr::T
abbrev WI (row:List Int):PV:= .agg (row.map i64)
abbrev Tu (n:Nat) (row:List Int) (i x:Int):Tr:=
 (((((Tr.lf.set 34 (.pv (i64 x))).set 33 (.pv (WI row))).set 5 (.pv (i64 i))).set 4 (.mp 7)).set 3 (.own 6 n)).set 0 (.ptr 3 0)
section
variable (call:Fa) (R0 R1:aa) (S:PV) (nl nr nk:Bool) (fr fk:Nat) (sets:List Al) (C:List Int) (n:Nat) (Pb:List Int) (M:aa) (row:List Int) (i x:Nat) (to:Int)
theorem DI (hx:x < 256) (hto:row[x]? =some to) (h:to < 0):fa (ga call Mb) (fun s=>some (tidy [0,3,4,5,33,34] s)) ⟨Tu n row i x,Yf R0 R1 S nl nr fr sets C n [.seq 1 false (Aa Pb) fk nk,M]⟩=
 some (.norm,⟨Tu n row i (x+1:Nat),Yf R0 R1 S nl nr fr sets C n [.seq 1 false (Aa Pb) fk nk,M]⟩):=by
 have e1:decide ((x:Int) < 256)=true:=Za (by omega)
 have e2:decide (to≥0)=false:=mb (by omega)
 have hq:Ca (x:Int) 256:=by unfold Ca;omega
 have t1:((x:Int)).toNat=x:=by simp
 have t2:=Bb (i:=x) (n:=256) hx (by unfold maxLen;omega)
 have ht:(row.map i64)[x]? =some (i64 to):=by rw[List.getElem?_map,hto];rfl
 simp -implicitDefEqProofs only[SP,SA,SQ,sevalprocAttr,-List.reduceReplicate,fa,Mb,e1,e2,eq_true hq,t1,t2,ht,Gk,ma,tidy,Xb,Tu,Yf]
theorem HM (hC:C.length=n * 256) (hk:Pb.length=n) (hfr:fr≤n * 256) (hfk:fk≤n) (hi:i < n) (hx:x < 256) (hto:row[x]? =some to) (h:0≤to) {v:Int} (hv:Pb[to.toNat]? =some v):fa (ga call Mb) (fun s=>some (tidy [0,3,4,5,33,34] s)) ⟨Tu n row i x,Yf R0 R1 S nl nr fr sets C n [.seq 1 false (Aa Pb) fk nk,M]⟩=
 some (.norm,⟨Tu n row i (x+1:Nat),Yf R0 R1 S nl nr (n * 256) sets (C.set (i * 256+x) v) n [.seq 1 false (Aa Pb) fk nk,M]⟩):=by
 have e1:decide ((x:Int) < 256)=true:=Za (by omega)
 have e2:decide (to≥0)=true:=Za (by omega)
 have hq:Ca (x:Int) 256:=by unfold Ca;omega
 have t1:((x:Int)).toNat=x:=by simp
 have t3:((i:Int)).toNat=i:=by simp
 have t2:=Bb (i:=x) (n:=256) hx (by unfold maxLen;omega)
 have ht:(row.map i64)[x]? =some (i64 to):=by rw[List.getElem?_map,hto];rfl
 have hv':(Aa Pb)[to.toNat]? =some (.pv (i64 v)):=by rw[Aa,List.getElem?_map,hv];rfl
 have hvl:=(List.getElem?_eq_some_iff.1 hv).1
 have hq2:Ca to n:=by unfold Ca;omega
 have hq3:Ca (i:Int) n:=by unfold Ca;omega
 have w1:Dg 1 n fk (Aa Pb).length:=by rw[Ra];unfold Dg;omega
 have w2:Dg 256 n fr (Aa C).length:=by rw[Ra];unfold Dg;omega
 have w3:((Aa Pb).length=n)=True:=by rw[Ra];exact eq_true hk
 have w5:(i * 256+x+1≤n * 256)=True:=eq_true (by omega)
 have w4:((Aa C).length=n * 256)=True:=by rw[Ra];exact eq_true hC
 simp -implicitDefEqProofs only[SP,SA,SQ,sevalprocAttr,-List.reduceReplicate,fa,Mb,e1,e2,eq_true hq,eq_true hq2,eq_true hq3,eq_true w1,eq_true w2,w3,w4,w5,t1,t2,t3,ht,hv',Gk,ma,xh,tidy,Xb,Tu,Yf]
def Lc (Pb row:List Int) (i:Nat):List Nat→List Int→List Int
 | [],C=>C
 |x::xs,C=>Lc Pb row i xs (match row[x]? with
  |some to=>if 0≤to then C.set (i * 256+x) (Pb.getD to.toNat 0) else C
  |none=>C)
theorem Bj (Pb row:List Int) (i:Nat):∀ (xs:List Nat) (C:List Int),(Lc Pb row i xs C).length=C.length
 | [],C=>rfl
 |x::xs,C=>by
  rw[Lc,Bj Pb row i xs]
  split
  ·split <;> simp
  ·rfl
theorem tG (hC:C.length=n * 256) (hk:Pb.length=n) (hfr:fr=0∨fr=n * 256) (hfk:fk≤n) (hi:i < n) (hrow:row.length=256) (hto:∀ to∈row,to < n):
 ∃ fr',(fr'=0∨fr'=n * 256)∧Eb (fa (ga call Mb) (fun s=>some (tidy [0,3,4,5,33,34] s))) wa ⟨Tu n row i 0,Yf R0 R1 S nl nr fr sets C n [.seq 1 false (Aa Pb) fk nk,M]⟩=
  some (.exit 2,⟨(Tu n row i 256).set 35 (.pv (.bool false)),Yf R0 R1 S nl nr fr' sets (Lc Pb row i (List.range 256) C) n [.seq 1 false (Aa Pb) fk nk,M]⟩):=by
 generalize hxs:List.range 256=xs
 have key:=Gi (g:=fa (ga call Mb) (fun s=>some (tidy [0,3,4,5,33,34] s)))
  (fun x t=>∃ fr' C',(fr'=0∨fr'=n * 256)∧C'.length=n * 256∧t=⟨Tu n row i x,Yf R0 R1 S nl nr fr' sets C' n [.seq 1 false (Aa Pb) fk nk,M]⟩∧Lc Pb row i xs C=Lc Pb row i (xs.drop x) C')
  (fun ex t=>∃ fr',(fr'=0∨fr'=n * 256)∧ex= .exit 2∧t=⟨(Tu n row i 256).set 35 (.pv (.bool false)),Yf R0 R1 S nl nr fr' sets (Lc Pb row i xs C) n [.seq 1 false (Aa Pb) fk nk,M]⟩)
  wa 256 0 ⟨Tu n row i (0:Nat),Yf R0 R1 S nl nr fr sets C n [.seq 1 false (Aa Pb) fk nk,M]⟩ (by unfold wa;omega) (by omega) ⟨fr,C,hfr,hC,rfl,rfl⟩ ?_ ?_
 ·obtain⟨ex,t,h,_,fr',q1,rfl,rfl⟩:=key
  exact⟨fr',q1,h⟩
 ·rintro x hx t ⟨fr',C',hf',hC',rfl,hl⟩
  have hd:=Xq hx
  rw[hxs] at hd
  rw[hd] at hl
  obtain⟨to,ht⟩:∃ to,row[x]? =some to:=⟨row[x],by simp[hrow,hx]⟩
  have hlt:=hto to (List.mem_of_getElem? ht)
  by_cases h0:0≤to
  ·obtain⟨v,hv⟩:∃ v,Pb[to.toNat]? =some v:=⟨Pb[to.toNat]'(by omega),by rw[List.getElem?_eq_getElem]⟩
   refine .inl ⟨_,HM call R0 R1 S nl nr nk fr' fk sets C' n Pb M row i x to hC' hk (by omega) hfk hi hx ht h0 hv,n * 256,_,.inr rfl,by simpa using hC',rfl,?_⟩
   rw[hl,Lc,ht]
   have:Pb.getD to.toNat 0=v:=by simp[hv]
   simp only[if_pos h0,this]
  ·refine .inl ⟨_,DI call R0 R1 S nl nr nk fr' fk sets C' n Pb M row i x to hx ht (by omega),fr',C',hf',hC',rfl,?_⟩
   rw[hl,Lc,ht]
   simp only[if_neg h0]
 ·rintro t ⟨fr',C',hf',hC',rfl,hl⟩
  rw[List.drop_eq_nil_of_le (by rw[← hxs,List.length_range];exact Nat.le_refl _)] at hl
  refine⟨.exit 2,_,?_,rfl,fr',hf',rfl,rfl⟩
  rw[hl]
  have e1:decide (((256:Nat):Int) < 256)=false:=by decide
  simp -implicitDefEqProofs only[SP,SA,SQ,sevalprocAttr,-List.reduceReplicate,fa,Mb,e1,Tu,Yf,Lc]
end
theorem jw:∀ (a b:List Int),a.length=b.length→oj (List.replicate a.length 1) (a.map i64) (b.map i64)=some (decide (a=b))
 | [],[],_=>rfl
 |x::a,y::b,h=>by
  have ih:=jw a b (by simpa using h)
  simp only[List.length_cons,List.replicate_succ,List.map_cons,oj,Ls,if_true,Option.bind_some,ih,Option.map_some,List.cons.injEq,Bool.decide_and]
  congr 2
 | [],_::_,h=>by cases h
 |_::_,[],h=>by cases h
def yp (M:List (List Int×Int)):List (PV×PV):=M.map fun p=>(WI p.1,i64 p.2)
theorem BL (M:List (List Int×Int)) (p:List Int×Int):yp (M++[p])=yp M++[(WI p.1,i64 p.2)]:=by simp[yp]
def Vh (a:List Int):List (List Int×Int)→Option Int
 | []=>none
 |p::r=>if a=p.1 then some p.2 else Vh a r
theorem UF {a:List Int} (ha:a.length=256):∀ (M:List (List Int×Int)) (j:Nat),(∀ p∈M,p.1.length=256)→
 (∀ v,Vh a M=some v→∃ k,Dj (.row (List.replicate 256 1)) (WI a) (yp M) j=some (some (k,i64 v)))∧(Vh a M=none→Dj (.row (List.replicate 256 1)) (WI a) (yp M) j=some none)
 | [],j,_=>⟨fun v h=>(by cases h),fun _=>rfl⟩
 |p::r,j,hp=>by
  have he:=jw a p.1 (by rw[ha,hp p (by simp)])
  rw[ha] at he
  have ih:=UF ha r (j+1) (fun q hq=>hp q (by simp[hq]))
  have hk:Yi (.row (List.replicate 256 1)) (WI a) (WI p.1)=some (decide (a=p.1)):=he
  rw[show yp (p::r)=(WI p.1,i64 p.2)::yp r from rfl,Dj,hk,Option.bind_some,Vh]
  by_cases h:a=p.1
  ·rw[if_pos h,decide_eq_true h]
   exact⟨fun v e=>(by injection e with e;subst e;exact⟨j,rfl⟩),fun e=>(by cases e)⟩
  ·rw[if_neg h,decide_eq_false h]
   exact ih
theorem FH {a:List Int} (ha:a.length=256):(Yi (.row (List.replicate 256 1)) (WI a) (WI a)).isSome=true:=by
 have he:=jw a a rfl
 rw[ha] at he
 show (oj _ _ _).isSome=true
 rw[he];rfl
def Ja (C:List Int) (i:Nat):List Int:=(C.drop (i * 256)).take 256
theorem pg {C:List Int} {n i:Nat} (hC:C.length=n * 256) (hi:i < n):(Ja C i).length=256:=by
 unfold Ja;rw[List.length_take,List.length_drop,hC];omega
theorem Yz (C:List Int) (i:Nat):Bc (List.take 256 (List.drop (i * 256) (Aa C)))=some ((Ja C i).map i64):=by
 have:List.take 256 (List.drop (i * 256) (Aa C))=Aa (Ja C i):=by unfold Ja Aa;rw[List.map_take,List.map_drop]
 rw[this,Uo]
structure PG where
 C:List Int
 Pb:List Int
 M:List (List Int×Int)
def Di (i:Nat) (s:PG):PG:=
 let C:=Lc s.Pb (Ja s.C i) i (List.range 256) s.C
 match Vh (Ja C i) s.M with
 |some v=>⟨C,s.Pb.set i v,s.M⟩
 |none=>⟨C,s.Pb.set i i,s.M++[(Ja C i,(i:Int))]⟩
def uh:Nat→PG→PG
 |0,s=>s
 |i+1,s=>uh i (Di i s)
theorem so {i:Nat} {s:PG} {v:Int} (h:Vh (Ja (Lc s.Pb (Ja s.C i) i (List.range 256) s.C) i) s.M=some v):Di i s=⟨Lc s.Pb (Ja s.C i) i (List.range 256) s.C,s.Pb.set i v,s.M⟩:=by
 simp only[Di,h]
theorem zo {i:Nat} {s:PG} (h:Vh (Ja (Lc s.Pb (Ja s.C i) i (List.range 256) s.C) i) s.M=none):
 Di i s=⟨Lc s.Pb (Ja s.C i) i (List.range 256) s.C,s.Pb.set i i,s.M++[(Ja (Lc s.Pb (Ja s.C i) i (List.range 256) s.C) i,(i:Int))]⟩:=by
 simp only[Di,h]
abbrev Uw (n:Nat) (i:Int):Tr:=(((Tr.lf.set 5 (.pv (i64 i))).set 4 (.mp 7)).set 3 (.own 6 n)).set 0 (.ptr 3 0)
section
variable (call:Fa) (R0 R1:aa) (S:PV) (nl nr nk:Bool) (fr fk:Nat) (sets:List Al) (n:Nat) (s:PG) (i:Nat)
theorem fF (hC:s.C.length=n * 256) (hk:s.Pb.length=n) (hfr:fr=0∨fr=n * 256) (hfk:fk≤n) (hi:i < n) (hn:n≤64) (hto:∀ to∈Ja s.C i,to < n) (hM:∀ p∈s.M,p.1.length=256):
 ∃ fr',(fr'=0∨fr'=n * 256)∧fa (ga call Jc) (fun s=>some (tidy [0,3,4,5] s)) ⟨Uw n i,Yf R0 R1 S nl nr fr sets s.C n [.seq 1 false (Aa s.Pb) fk nk,.map (yp s.M)]⟩=
  some (.norm,⟨Uw n ((i:Int) - 1),Yf R0 R1 S nl nr fr' sets (Di i s).C n [.seq 1 false (Aa (Di i s).Pb) n nk,.map (yp (Di i s).M)]⟩):=by
 obtain⟨fr',hf',hin⟩:=tG call R0 R1 S nl nr nk fr fk sets s.C n s.Pb (.map (yp s.M)) (Ja s.C i) i hC hk hfr hfk hi (pg hC hi) hto
 refine⟨fr',hf',?_⟩
 have hC2:(Lc s.Pb (Ja s.C i) i (List.range 256) s.C).length=n * 256:=by rw[Bj,hC]
 have hrl:=pg hC2 hi
 have hfd:=UF hrl s.M 0 hM
 have his:=FH hrl
 have p1:=Yz s.C i
 have p2:=Yz (Lc s.Pb (Ja s.C i) i (List.range 256) s.C) i
 have e1:decide ((i:Int)≥0)=true:=Za (by omega)
 have hq3:Ca (i:Int) n:=by unfold Ca;omega
 have t3:((i:Int)).toNat=i:=by simp
 have t2:IntKind.i64.wrap ((i:Int) - 1)=(i:Int) - 1:=Da (by omega)
 have w2:Dg 256 n fr (Aa s.C).length:=by rw[Ra];unfold Dg;omega
 have w4:((Aa s.C).length=n * 256)=True:=by rw[Ra];exact eq_true hC
 have w6:(i * 256+256≤(Aa s.C).length)=True:=by rw[Ra];exact eq_true (by omega)
 have hl1:=@so i s
 have hl2:=@zo i s
 generalize Lc s.Pb (Ja s.C i) i (List.range 256) s.C=C2 at *
 have w12:Dg 256 n fr' (Aa C2).length:=by rw[Ra];unfold Dg;omega
 have w14:((Aa C2).length=n * 256)=True:=by rw[Ra];exact eq_true hC2
 have w16:(i * 256+256≤(Aa C2).length)=True:=by rw[Ra];exact eq_true (by omega)
 have w1:Dg 1 n fk (Aa s.Pb).length:=by rw[Ra];unfold Dg;omega
 have w3:((Aa s.Pb).length=n)=True:=by rw[Ra];exact eq_true hk
 have w5:(i+1≤n)=True:=eq_true (by omega)
 generalize hz:List.replicate 256 1=ks at *
 have hin':Eb (fa (ga call Mb) (fun s=>some (tidy [0,3,4,5,33,34] s))) wa ⟨Tu n (Ja s.C i) i 0,Yf R0 R1 S nl nr fr sets s.C n [.seq 1 false (Aa s.Pb) fk nk,.map (yp s.M)]⟩=_:=hin
 simp only[Tu,Yf,tidy,Xb] at hin'
 cases hlk:Vh (Ja C2 i) s.M with
 |some v=>
  obtain⟨k,hk2⟩:=hfd.1 v hlk
  rw[hl1 hlk]
  simp -implicitDefEqProofs only[SP,SA,SQ,sevalprocAttr,-List.reduceReplicate,fa,Jc,e1,eq_true hq3,t2,t3,eq_true w2,w4,w6,p1,ma,Gn,tidy,Xb,Uw,Yf,hz]
  rw[hin']
  simp -implicitDefEqProofs only[SP,SA,SQ,sevalprocAttr,-List.reduceReplicate,eq_true hq3,t2,t3,eq_true w12,w14,w16,eq_true w1,w3,w5,p2,ma,eq_true his,hk2,xh,tidy,Xb,Uw,Yf]
 |none=>
  have hk2:=hfd.2 hlk
  rw[hl2 hlk]
  simp -implicitDefEqProofs only[SP,SA,SQ,sevalprocAttr,-List.reduceReplicate,fa,Jc,e1,eq_true hq3,t2,t3,eq_true w2,w4,w6,p1,ma,Gn,tidy,Xb,Uw,Yf,hz]
  rw[hin']
  simp -implicitDefEqProofs only[SP,SA,SQ,sevalprocAttr,-List.reduceReplicate,eq_true hq3,t2,t3,eq_true w12,w14,w16,eq_true w1,w3,w5,p2,ma,eq_true his,hk2,xh,tidy,Xb,Uw,Yf,BL]
end
end Go.AM.B1
namespace Go.AM.B1
open Go.AM
structure RR (n:Nat) (s:PG):Prop where
 hC:s.C.length=n * 256
 hk:s.Pb.length=n
 cC:∀ c∈s.C,c < n
 ck:∀ c∈s.Pb,c < n
 cM:∀ p∈s.M,p.1.length=256∧p.2 < n
theorem DA {Pb row:List Int} {i:Nat} {n:Int} (hn:0 < n) (hk:∀ c∈Pb,c < n):∀ (xs:List Nat) (C:List Int),(∀ c∈C,c < n)→∀ c∈Lc Pb row i xs C,c < n
 | [],C,h=>h
 |x::xs,C,h=>by
  rw[Lc]
  refine DA hn hk xs _ ?_
  split
  ·split
   ·intro c hc
    rcases List.mem_or_eq_of_mem_set hc with h1 | h1
    ·exact h c h1
    ·subst h1
     next to _ _=>
     rcases Nat.lt_or_ge to.toNat Pb.length with h2 | h2
     ·rw[List.getD_eq_getElem?_getD,List.getElem?_eq_getElem h2];exact hk _ (List.getElem_mem h2)
     ·rw[List.getD_eq_getElem?_getD,List.getElem?_eq_none h2];exact hn
   ·exact h
  ·exact h
theorem zp {a:List Int}:∀ {M:List (List Int×Int)} {v:Int},Vh a M=some v→∃ p∈M,p.1=a∧p.2=v
 |p::r,v,h=>by
  rw[Vh] at h
  split at h
  ·next h1=>injection h with h;exact⟨p,by simp,h1.symm,h⟩
  ·obtain⟨q,hq,e⟩:=zp h
   exact⟨q,by simp[hq],e⟩
theorem Vx {n i:Nat} {s:PG} (hi:i < n) (h:RR n s):RR n (Di i s):=by
 have hC2:(Lc s.Pb (Ja s.C i) i (List.range 256) s.C).length=n * 256:=by rw[Bj,h.hC]
 have hlt:=DA (i:=i) (row:=Ja s.C i) (n:=(n:Int)) (by omega) h.ck (List.range 256) s.C h.cC
 have hl1:=@so i s
 have hl2:=@zo i s
 generalize Lc s.Pb (Ja s.C i) i (List.range 256) s.C=C2 at *
 cases hl:Vh (Ja C2 i) s.M with
 |some v=>
  obtain⟨p,hp,_,hv⟩:=zp hl
  have:=(h.cM p hp).2
  rw[hl1 hl]
  refine⟨hC2,by simp[h.hk],hlt,?_,h.cM⟩
  intro c hc
  rcases List.mem_or_eq_of_mem_set hc with h1 | h1
  ·exact h.ck c h1
  ·omega
 |none=>
  rw[hl2 hl]
  refine⟨hC2,by simp[h.hk],hlt,?_,?_⟩
  ·intro c hc
   rcases List.mem_or_eq_of_mem_set hc with h1 | h1
   ·exact h.ck c h1
   ·omega
  ·intro p hp
   rcases List.mem_append.1 hp with h1 | h1
   ·exact h.cM p h1
   ·simp at h1;subst h1;exact⟨pg hC2 hi,by simp;omega⟩
theorem PA {n:Nat}:∀ (k:Nat) (s:PG),k≤n→RR n s→RR n (uh k s)
 |0,s,_,h=>h
 |k+1,s,hk,h=>PA k _ (by omega) (Vx (by omega) h)
def bg (n:Nat) (C:List Int):PG:=uh n ⟨C,List.replicate n 0,[]⟩
section
variable (call:Fa) (R0 R1:aa) (S:PV) (nl nr nk:Bool) (sets:List Al) (C:List Int) (n:Nat)
theorem NH (s0:PG) (hn:n≤64) (h0:0 < n) (ta:RR n s0):
 ∃ fr fk,(fr=0∨fr=n * 256)∧Eb (fa (ga call Jc) (fun s=>some (tidy [0,3,4,5] s))) wa ⟨Uw n ((n:Int) - 1),Yf R0 R1 S nl nr 0 sets s0.C n [.seq 1 false (Aa s0.Pb) 0 nk,.map (yp s0.M)]⟩=
  some (.exit 0,⟨((Uw n (-1)).set 23 (.pv (i64 (-1)))).set 24 (.pv (.bool false)),Yf R0 R1 S nl nr fr sets (uh n s0).C n [.seq 1 false (Aa (uh n s0).Pb) fk nk,.map (yp (uh n s0).M)]⟩)∧fk≤n:=by
 have key:=Gi (g:=fa (ga call Jc) (fun s=>some (tidy [0,3,4,5] s)))
  (fun j t=>∃ fr fk s,(fr=0∨fr=n * 256)∧fk≤n∧RR n s∧t=⟨Uw n ((n:Int) - 1 - j),Yf R0 R1 S nl nr fr sets s.C n [.seq 1 false (Aa s.Pb) fk nk,.map (yp s.M)]⟩∧uh n s0=uh (n - j) s)
  (fun ex t=>∃ fr fk,(fr=0∨fr=n * 256)∧fk≤n∧ex= .exit 0∧t=⟨((Uw n (-1)).set 23 (.pv (i64 (-1)))).set 24 (.pv (.bool false)),Yf R0 R1 S nl nr fr sets (uh n s0).C n [.seq 1 false (Aa (uh n s0).Pb) fk nk,.map (yp (uh n s0).M)]⟩)
  wa n 0 ⟨Uw n ((n:Int) - 1 - (0:Nat)),Yf R0 R1 S nl nr 0 sets s0.C n [.seq 1 false (Aa s0.Pb) 0 nk,.map (yp s0.M)]⟩ (by unfold wa;omega) (by omega) ⟨0,0,s0,.inl rfl,by omega,ta,rfl,rfl⟩ ?_ ?_
 ·obtain⟨ex,t,h,_,fr,fk,q1,q2,rfl,rfl⟩:=key
  rw[show ((n:Int) - 1 - (0:Nat))=(n:Int) - 1 by omega] at h
  exact⟨fr,fk,q1,h,q2⟩
 ·rintro j hj t ⟨fr,fk,s,hf,hfk,hs,rfl,hl⟩
  obtain⟨i,hi⟩:∃ i,n - j=i+1:=⟨n - j - 1,by omega⟩
  rw[hi,uh] at hl
  obtain⟨fr',hf',hr⟩:=fF call R0 R1 S nl nr nk fr fk sets n s i hs.hC hs.hk hf hfk (by omega) hn
   (fun to h=>hs.cC to (List.mem_of_mem_drop (List.mem_of_mem_take h))) (fun p hp=>(hs.cM p hp).1)
  rw[show ((n:Int) - 1 - (j:Int))=(i:Int) by omega]
  refine .inl ⟨_,hr,fr',n,Di i s,hf',by omega,Vx (by omega) hs,?_,?_⟩
  ·rw[show ((n:Int) - 1 - ((j+1:Nat):Int))=(i:Int) - 1 by omega]
  ·rw[hl,show n - (j+1)=i by omega]
 ·rintro t ⟨fr,fk,s,hf,hfk,hs,rfl,hl⟩
  rw[Nat.sub_self,uh] at hl
  rw[show ((n:Int) - 1 - (n:Int))= -1 by omega]
  refine⟨.exit 0,_,?_,rfl,fr,fk,hf,hfk,rfl,rfl⟩
  rw[hl]
  have e1:decide ((-1:Int)≥0)=false:=by decide
  simp -implicitDefEqProofs only[SP,SA,SQ,sevalprocAttr,-List.reduceReplicate,fa,Jc,e1,Uw,Yf]
theorem fC (n:Nat):zi [PV.int .i64 0] n=Aa (List.replicate n 0):=by
 induction n with
 |zero=>rfl
 |succ n ih=>rw[zi,ih];rfl
theorem sM (hn:n≤64) (h0:0 < n) (hs:sets.length=n) (hC:C.length=n * 256) (cC:∀ c∈C,c < n):
 ∃ fr fk v,(fr=0∨fr=n * 256)∧Hd call xg [.ptr 3 0] (Yf R0 R1 S nl nr 0 sets C n [])=
  some (v,Yf R0 R1 S nl nr fr sets (bg n C).C n [.seq 1 false (Aa (bg n C).Pb) fk false,.map (yp (bg n C).M)]):=by
 obtain⟨fr,fk,hf,hl,hfk⟩:=NH call R0 R1 S nl nr false sets n ⟨C,List.replicate n 0,[]⟩ hn h0
  ⟨hC,by simp,cC,by intro c hc;rw[List.eq_of_mem_replicate hc];omega,by simp⟩
 refine⟨fr,fk,.own 6 n,hf,?_⟩
 have hlen:(sets.map Wf).length=n:=by rw[List.length_map,hs]
 have r0:zi [PV.int .i64 0] n=Aa (List.replicate n 0):=fC n
 have t1:((n:Int)).toNat=n:=by simp
 have t2:IntKind.i64.wrap ((n:Int) - 1)=(n:Int) - 1:=Da (by omega)
 have e1:(0≤(n:Int))=True:=by simp
 have e2:Cb n 8:=by unfold Cb;omega
 have e3:((n:Int)≤(n:Int))=True:=by simp
 unfold bg
 generalize uh n ⟨C,List.replicate n 0,[]⟩=g at *
 generalize List.replicate n (0:Int)=zs at *
 simp only[tidy,Xb,Uw,Yf,yp,List.map_nil] at hl
 simp -implicitDefEqProofs only[SP,SA,SQ,sevalprocAttr,-List.reduceReplicate,xg,hlen,r0,t1,t2,e1,eq_true e2,e3,Gn,tidy,Xb,Yf]
 rw[hl]
 simp -implicitDefEqProofs only[SP,SA,SQ,sevalprocAttr,-List.reduceReplicate,Yf,yp]
end
end Go.AM.B1
namespace Go.AM.B1
open Go.AM
structure je where
 lo:Int
 hi:Int
 to:Int
deriving DecidableEq
def fB (e:je):PV:= .agg [i64 e.lo,i64 e.hi,i64 e.to]
def Le (l:List je):List Int:=l.flatMap fun e=>[e.lo,e.hi,e.to]
theorem Bm (l:List je):(Le l).length=l.length * 3:=by
 induction l with
 |nil=>rfl
 |cons e l ih=>simp only[Le,List.flatMap_cons,List.length_append,List.length_cons,List.length_nil] at ih ⊢;omega
theorem Rq (l:List je) (e:je):Le (l++[e])=Le l++[e.lo,e.hi,e.to]:=by simp[Le]
def Ek (x to:Int) (l:List je):List je:=
 if to= -2 then l else match l.getLast? with
  |some e=>if e.to=to∧e.hi=x - 1 then l.dropLast++[⟨e.lo,x,e.to⟩] else l++[⟨x,x,to⟩]
  |none=>l++[⟨x,x,to⟩]
theorem DR (a b c:Int):Aa [a,b,c]=[.pv (i64 a),.pv (i64 b),.pv (i64 c)]:=rfl
theorem YE (a b:List Int):Aa (a++b)=Aa a++Aa b:=by simp[Aa]
abbrev ep (row:List Int) (n:Nat) (x:Int):Tr:=((Tr.lf.set 8 (.pv (i64 x))).set 7 (.pv (WI row))).set 3 (.own 0 n)
theorem DE (l:List Int) (e:je) (k:Nat) (hk:k < 3):(Aa (l++[e.lo,e.hi,e.to]))[l.length+k]? =some (.pv (i64 (if k=0 then e.lo else if k=1 then e.hi else e.to))):=by
 rw[Aa,List.getElem?_map,List.getElem?_append_right (by omega),Nat.add_sub_cancel_left]
 match k,hk with
 |0,_=>rfl
 |1,_=>rfl
 |2,_=>rfl
section
variable (call:Fa) (row:List Int) (x:Nat) (to:Int) (fl:Nat)
 (hx:x < 256) (hto:row[x]? =some to)
include hx hto
theorem FL (l:List je) (nl:Bool) (h:to= -2):fa (ga call mc) (fun s=>some (tidy [3,7,8] s)) ⟨ep row l.length x,[.seq 3 true (Aa (Le l)) fl nl]⟩=
 some (.norm,⟨ep row l.length (x+1:Nat),[.seq 3 true (Aa (Le l)) fl nl]⟩):=by
 have e1:decide ((x:Int) < 256)=true:=Za (by omega)
 have e2:(to== -2)=true:=by simp[h]
 have hq:Ca (x:Int) 256:=by unfold Ca;omega
 have t1:((x:Int)).toNat=x:=by simp
 have t2:=Bb (i:=x) (n:=256) hx (by unfold maxLen;omega)
 have ht:(row.map i64)[x]? =some (i64 to):=by rw[List.getElem?_map,hto];rfl
 simp -implicitDefEqProofs only[SP,SA,SQ,sevalprocAttr,fa,mc,e1,e2,eq_true hq,t1,t2,ht,ma,tidy,Xb,ep]
theorem ZI (nl:Bool) (h:to≠ -2):fa (ga call mc) (fun s=>some (tidy [3,7,8] s)) ⟨ep row 0 x,[.seq 3 true [] 0 nl]⟩=
 some (.norm,⟨ep row 1 (x+1:Nat),[.seq 3 true (Aa [(x:Int),x,to]) 0 false]⟩):=by
 have e1:decide ((x:Int) < 256)=true:=Za (by omega)
 have e2:(to== -2)=false:=Ik h
 have hq:Ca (x:Int) 256:=by unfold Ca;omega
 have t1:((x:Int)).toNat=x:=by simp
 have t2:=Bb (i:=x) (n:=256) hx (by unfold maxLen;omega)
 have ht:(row.map i64)[x]? =some (i64 to):=by rw[List.getElem?_map,hto];rfl
 have q1:Cb 1 24:=by unfold Cb;omega
 simp -implicitDefEqProofs only[SP,SA,SQ,sevalprocAttr,fa,mc,e1,e2,eq_true hq,t1,t2,ht,eq_true q1,ma,tidy,Xb,ep,Zi,fj,AV.cI,AV.Hs,Aa]
variable (l:List je) (e:je) (hl:l.length < 256) (hfl:fl≤(l.length+1) * 3)
include hl hfl
theorem dL (h:to≠ -2) (h1:e.to=to) (h2:e.hi=(x:Int) - 1):fa (ga call mc) (fun s=>some (tidy [3,7,8] s)) ⟨ep row (l.length+1) x,[.seq 3 true (Aa (Le l++[e.lo,e.hi,e.to])) fl false]⟩=
 some (.norm,⟨ep row (l.length+1) (x+1:Nat),[.seq 3 true (Aa (Le l++[e.lo,(x:Int),e.to])) ((l.length+1) * 3) false]⟩):=by
 have e1:decide ((x:Int) < 256)=true:=Za (by omega)
 have e2:(to== -2)=false:=Ik h
 have hq:Ca (x:Int) 256:=by unfold Ca;omega
 have t1:((x:Int)).toNat=x:=by simp
 have t2:=Bb (i:=x) (n:=256) hx (by unfold maxLen;omega)
 have ht:(row.map i64)[x]? =some (i64 to):=by rw[List.getElem?_map,hto];rfl
 have e3:decide (((l.length+1:Nat):Int) > 0)=true:=Za (by omega)
 have t3:IntKind.i64.wrap (((l.length+1:Nat):Int) - 1)=(l.length:Int):=by rw[Da (by omega)];omega
 have t4:((l.length:Int)).toNat=l.length:=by simp
 have t5:IntKind.i64.wrap ((x:Int) - 1)=(x:Int) - 1:=Da (by omega)
 have hq2:Ca (l.length:Int) (l.length+1):=by unfold Ca;omega
 have hlen:(Aa (Le l++[e.lo,e.hi,e.to])).length=(l.length+1) * 3:=by rw[Ra,List.length_append,Bm];simp;omega
 have w1:Dg 3 (l.length+1) fl (Aa (Le l++[e.lo,e.hi,e.to])).length:=by rw[hlen];unfold Dg;omega
 have w2:((Aa (Le l++[e.lo,e.hi,e.to])).length=(l.length+1) * 3)=True:=eq_true hlen
 have g2:=DE (Le l) e 2 (by omega)
 have g1:=DE (Le l) e 1 (by omega)
 rw[Bm] at g1 g2
 simp only[h1,h2] at g1 g2
 have b1:(to==to)=true:=by simp
 have b2:((x:Int) - 1==(x:Int) - 1)=true:=by simp
 have w3:(l.length * 3+1+1≤(l.length+1) * 3)=True:=eq_true (by omega)
 have hset:(Aa (Le l++[e.lo,(x:Int) - 1,to])).set (l.length * 3+1) (.pv (i64 x))=Aa (Le l++[e.lo,(x:Int),to]):=by
  rw[xh,←Bm,List.set_append_right _ _ (by omega),Nat.add_sub_cancel_left];rfl
 rw[h1,h2] at *
 generalize Le l++[e.lo,(x:Int) - 1,to]=cs at *
 simp -implicitDefEqProofs only[SP,SA,SQ,sevalprocAttr,fa,mc,e1,e2,e3,eq_true hq,eq_true hq2,t1,t2,t3,t4,t5,ht,g1,g2,eq_true w1,w2,w3,b1,b2,hset,ma,tidy,Xb,ep]
theorem OK (h:to≠ -2) (h1:¬(e.to=to∧e.hi=(x:Int) - 1)):fa (ga call mc) (fun s=>some (tidy [3,7,8] s)) ⟨ep row (l.length+1) x,[.seq 3 true (Aa (Le l++[e.lo,e.hi,e.to])) fl false]⟩=
 some (.norm,⟨ep row (l.length+1+1) (x+1:Nat),[.seq 3 true (Aa (Le l++[e.lo,e.hi,e.to])++Aa [(x:Int),x,to]) fl false]⟩):=by
 have e1:decide ((x:Int) < 256)=true:=Za (by omega)
 have e2:(to== -2)=false:=Ik h
 have hq:Ca (x:Int) 256:=by unfold Ca;omega
 have t1:((x:Int)).toNat=x:=by simp
 have t2:=Bb (i:=x) (n:=256) hx (by unfold maxLen;omega)
 have ht:(row.map i64)[x]? =some (i64 to):=by rw[List.getElem?_map,hto];rfl
 have e3:decide (((l.length+1:Nat):Int) > 0)=true:=Za (by omega)
 have t3:IntKind.i64.wrap (((l.length+1:Nat):Int) - 1)=(l.length:Int):=by rw[Da (by omega)];omega
 have t4:((l.length:Int)).toNat=l.length:=by simp
 have t5:IntKind.i64.wrap ((x:Int) - 1)=(x:Int) - 1:=Da (by omega)
 have hq2:Ca (l.length:Int) (l.length+1):=by unfold Ca;omega
 have hlen:(Aa (Le l++[e.lo,e.hi,e.to])).length=(l.length+1) * 3:=by rw[Ra,List.length_append,Bm];simp;omega
 have w1:Dg 3 (l.length+1) fl (Aa (Le l++[e.lo,e.hi,e.to])).length:=by rw[hlen];unfold Dg;omega
 have w2:((Aa (Le l++[e.lo,e.hi,e.to])).length=(l.length+1) * 3)=True:=eq_true hlen
 have w2':((l.length+1) * 3=(Aa (Le l++[e.lo,e.hi,e.to])).length)=True:=eq_true hlen.symm
 have g2:(Aa (Le l++[e.lo,e.hi,e.to]))[(Le l).length+2]? =some (.pv (i64 e.to)):=DE (Le l) e 2 (by omega)
 have g1:(Aa (Le l++[e.lo,e.hi,e.to]))[(Le l).length+1]? =some (.pv (i64 e.hi)):=DE (Le l) e 1 (by omega)
 rw[Bm] at g1 g2
 have q1:Cb (l.length+1+1) 24:=by unfold Cb;omega
 generalize Le l++[e.lo,e.hi,e.to]=cs at *
 by_cases hb1:e.to=to
 ·have b1:(e.to==to)=true:=by simp[hb1]
  have b2:(e.hi==(x:Int) - 1)=false:=Ik fun hh=>h1 ⟨hb1,hh⟩
  simp -implicitDefEqProofs only[SP,SA,SQ,sevalprocAttr,fa,mc,e1,e2,e3,eq_true hq,eq_true hq2,t1,t2,t3,t4,t5,ht,g1,g2,eq_true w1,w2,w2',eq_true q1,b1,b2,ma,tidy,Xb,ep,Zi,fj,AV.cI,AV.Hs,DR]
 ·have b1:(e.to==to)=false:=Ik hb1
  simp -implicitDefEqProofs only[SP,SA,SQ,sevalprocAttr,fa,mc,e1,e2,e3,eq_true hq,eq_true hq2,t1,t2,t3,t4,t5,ht,g1,g2,eq_true w1,w2,w2',eq_true q1,b1,ma,tidy,Xb,ep,Zi,fj,AV.cI,AV.Hs,DR]
end
end Go.AM.B1
namespace Go.AM.B1
open Go.AM
def Md (row:List Int):List Nat→List je→List je
 | [],l=>l
 |x::xs,l=>Md row xs (Ek x (row.getD x 0) l)
def Pe (row:List Int):List je:=Md row (List.range 256) []
def nf (l:List je):PV:=if l.isEmpty then .qa else .lit 3 (l.map fB)
theorem Cz (x:Int) (l:List je):Ek x (-2) l=l:=by simp[Ek]
theorem jy {x to:Int} (h:to≠ -2):Ek x to []=[⟨x,x,to⟩]:=by simp[Ek,h]
theorem pz {x:Int} {l:List je} {e:je} (h:e.to≠ -2) (h2:e.hi=x - 1):Ek x e.to (l++[e])=l++[⟨e.lo,x,e.to⟩]:=by simp[Ek,h,h2]
theorem cA {x to:Int} {l:List je} {e:je} (h:to≠ -2) (h2:¬(e.to=to∧e.hi=x - 1)):Ek x to (l++[e])=l++[e]++[⟨x,x,to⟩]:=by
 simp only[Ek,if_neg h,List.getLast?_append,List.getLast?_singleton,Option.some_or,if_neg h2]
theorem VB (H:List aa) (d:Nat) (l:List Int):Va (Ab H d) (Aa l)=some (l.map i64):=by
 induction l with
 |nil=>rfl
 |cons a l ih=>simp only[Aa,List.map_cons,Va,He,Option.bind_some] at ih ⊢;rw[ih];rfl
theorem xO:∀ (l:List je),chunk 3 true l.length ((Le l).map i64)=l.map fB
 | []=>rfl
 |e::l=>by
  have:=xO l
  rw[List.length_cons,chunk]
  simp only[Le,List.flatMap_cons,List.cons_append,List.nil_append,List.map_cons,List.take,List.drop,if_true] at this ⊢
  rw[this];rfl
theorem HI (H:List aa) (id:Nat) (l:List je) (fl:Nat) (h:H[id]? =some (.seq 3 true (Aa (Le l)) fl l.isEmpty)):Ab H deep (.own id l.length)=some (nf l):=by
 have hl:(l.length * 3=(Aa (Le l)).length)=True:=by rw[Ra,Bm];exact eq_self _
 rw[Rb]
 simp only[Ab,h,hl,Bool.true_or,and_self,if_true]
 unfold nf
 cases hn:l.isEmpty with
 |true=>rfl
 |false=>simp only[Bool.false_eq_true,if_false,VB,Option.map_some,xO]
section
variable (row:List Int) (hrow:row.length=256)
include hrow
theorem xH (call:Fa):∃ fl,Eb (fa (ga call mc) (fun s=>some (tidy [3,7,8] s))) wa ⟨ep row 0 0,[.seq 3 true [] 0 true]⟩=
 some (.exit 0,⟨(ep row (Pe row).length 256).set 9 (.pv (.bool false)),[.seq 3 true (Aa (Le (Pe row))) fl (Pe row).isEmpty]⟩):=by
 unfold Pe
 generalize hxs:List.range 256=xs
 have key:=Gi (g:=fa (ga call mc) (fun s=>some (tidy [3,7,8] s)))
  (fun x t=>∃ fl l,fl≤l.length * 3∧l.length≤x∧t=⟨ep row l.length x,[.seq 3 true (Aa (Le l)) fl l.isEmpty]⟩∧Md row xs []=Md row (xs.drop x) l)
  (fun ex t=>∃ fl,ex= .exit 0∧t=⟨(ep row (Md row xs []).length 256).set 9 (.pv (.bool false)),[.seq 3 true (Aa (Le (Md row xs []))) fl (Md row xs []).isEmpty]⟩)
  wa 256 0 ⟨ep row 0 (0:Nat),[.seq 3 true [] 0 true]⟩ (by unfold wa;omega) (by omega) ⟨0,[],by simp,by simp,rfl,rfl⟩ ?_ ?_
 ·obtain⟨ex,t,h,_,fl,rfl,rfl⟩:=key
  exact⟨fl,h⟩
 ·rintro x hx t ⟨fl,l,hf,hlx,rfl,hl⟩
  have hd:=Xq hx
  rw[hxs] at hd
  obtain⟨to,ht⟩:∃ to,row[x]? =some to:=⟨row[x],by simp[hrow,hx]⟩
  have hgd:row.getD x 0=to:=by simp[List.getD_eq_getElem?_getD,ht]
  rw[hd,Md,hgd] at hl
  by_cases h2:to= -2
  ·rw[h2,Cz] at hl
   exact .inl ⟨_,FL call row x to fl hx ht l _ h2,fl,l,hf,by omega,rfl,hl⟩
  rcases List.eq_nil_or_concat l with rfl | ⟨l',e,rfl⟩
  ·rw[jy h2] at hl
   have hf0:fl=0:=by simpa using hf
   subst hf0
   exact .inl ⟨_,ZI call row x to hx ht true h2,0,[⟨x,x,to⟩],by simp,by simp,rfl,hl⟩
  ·simp only[List.concat_eq_append] at *
   have hem:(l'++[e]).isEmpty=false:=by simp
   have hlen:(l'++[e]).length=l'.length+1:=by simp
   rw[hlen] at hf hlx
   rw[hem,hlen,Rq]
   by_cases h3:e.to=to∧e.hi=(x:Int) - 1
   ·obtain⟨h3,h4⟩:=h3
    rw[← h3,pz (by rw[h3];exact h2) h4] at hl
    refine .inl ⟨_,dL call row x to fl hx ht l' e (by omega) hf h2 h3 h4,(l'.length+1) * 3,l'++[⟨e.lo,x,e.to⟩],by simp,by simp;omega,?_,hl⟩
    rw[Rq];simp
   ·rw[cA h2 h3] at hl
    refine .inl ⟨_,OK call row x to fl hx ht l' e (by omega) hf h2 h3,fl,_,?_,?_,?_,hl⟩
    ·simp;omega
    ·simp;omega
    ·rw[Rq,Rq,YE];simp[Aa]
 ·rintro t ⟨fl,l,hf,hlx,rfl,hl⟩
  rw[List.drop_eq_nil_of_le (by rw[← hxs,List.length_range];exact Nat.le_refl _)] at hl
  refine⟨.exit 0,_,?_,rfl,fl,rfl,rfl⟩
  rw[hl]
  have e1:decide (((256:Nat):Int) < 256)=false:=by decide
  simp -implicitDefEqProofs only[SP,SA,SQ,sevalprocAttr,fa,mc,e1,ep,Md]
theorem SL:xm [WI row]=some (nf (Pe row)):=by
 obtain⟨fl,hl⟩:=xH row hrow (za (fun _=>none) 8)
 have ht:=HI [.seq 3 true (Aa (Le (Pe row))) fl (Pe row).isEmpty] 0 (Pe row) fl rfl
 have h9:(row.map i64).map AV.pv=Aa row:=(Sr row).symm
 have p0:((Aa row).length=256)=True:=by rw[Ra,hrow];exact eq_self _
 have p1:(256≤(Aa row).length)=True:=by rw[Ra,hrow];exact eq_true (Nat.le_refl _)
 have p2:List.take 256 (Aa row)=Aa row:=List.take_of_length_le (by rw[Ra,hrow];exact Nat.le_refl _)
 have p3:=Uo row
 have p5:=Iz row
 have p6:=VB [] 0 row
 have p8:List.take 256 (row.map i64)=row.map i64:=List.take_of_length_le (by rw[List.length_map,hrow];exact Nat.le_refl _)
 have p7:(256≤(row.map i64).length)=True:=by rw[List.length_map,hrow];exact eq_true (Nat.le_refl _)
 have p4:((row.map i64).length=256)=True:=by rw[List.length_map,hrow];exact eq_self _
 generalize Pe row=es at *
 simp only[tidy,Xb,ep] at hl
 simp -implicitDefEqProofs only[xm,SP,SA,SQ,sevalprocAttr,qq,h9,p0,p1,p2,p3,p4,p5,p6,p7,p8,ff,Gn,tidy,Xb]
 rw[hl]
 simp -implicitDefEqProofs only[SP,SA,SQ,sevalprocAttr,ht]
end
end Go.AM.B1
namespace Go.AM.B1
open Go.AM
def bu (a:Int):List Int→Nat→Option Nat
 | [],_=>none
 |b::l,k=>if a=b then some k else bu a l (k+1)
def VG (l:List Int) (k:Nat):List (PV×PV):=(l.zipIdx k).map fun p=>(i64 p.1,i64 p.2)
theorem xw (a:Int) (l:List Int) (k:Nat):VG (a::l) k=(i64 a,i64 k)::VG l (k+1):=rfl
theorem NC (a:Int):∀ (l:List Int) (k:Nat),VG (l++[a]) k=VG l k++[(i64 a,i64 (k+l.length:Nat))]
 | [],k=>by simp[VG]
 |b::l,k=>by rw[List.cons_append,xw,NC a l (k+1),xw];simp;omega
theorem MJ {a:Int}:∀ {l:List Int} {k i:Nat},bu a l k=some i→k≤i
 |b::l,k,i,h=>by
  simp only[bu] at h
  split at h
  ·injection h with h;omega
  ·have:=MJ h;omega
theorem GF (a:Int):∀ (l:List Int) (k j:Nat),Dj (.one 1) (i64 a) (VG l k) j=some ((bu a l k).map fun i=>(j+(i - k),i64 i)):=by
 intro l
 induction l with
 |nil=>intro k j;rfl
 |cons b l ih=>
  intro k j
  have he:Yi (.one 1) (i64 a) (i64 b)=some (decide (a=b)):=by
   show (if IntKind.i64=IntKind.i64 then some (a==b) else none)=_
   rw[if_pos rfl]
   congr 1
  rw[xw,Dj,he]
  simp only[Option.bind_some,bu]
  by_cases h:a=b
  ·simp[h]
  ·rw[if_neg h,ih]
   simp only[h,decide_false,Bool.false_eq_true,if_false,Option.some.injEq]
   cases hi:bu a l (k+1) with
   |none=>rfl
   |some i=>
    have:=MJ hi
    simp only[Option.map_some,Option.some.injEq,Prod.mk.injEq,and_true]
    omega
theorem aB (a:Int):(Yi (.one 1) (i64 a) (i64 a)).isSome=true:=rfl
abbrev Lk (R0 R1:aa) (S:PV) (nl nr:Bool) (fr:Nat) (sets:List Al) (C:List Int) (n:Nat) (L M:aa) (O:List Int) (out:List PV) (no:Bool) (T:List aa):List aa:=
 Yf R0 R1 S nl nr fr sets C n (L::M:: .box [.pv .qa]:: .map (VG O 0):: .tok 1 O.length false:: .box [.uq 12 no 1 out]:: .tok 1 out.length no::T)
abbrev Pt (q:Nat) (k:Int) (O:List Int) (Ya:List Int) (x:Int):Tr:=
 (((((((((Tr.lf.set 32 (.pv (i64 x))).set 31 (.pv (WI Ya))).set 7 (.ptr q 0)).set 6 (.pv (i64 k))).set 5 (.ptr 11 0)).set 4 (.uq 10 false 1 (O.map i64))).set 3 (.mp 9)).set 2 (.ptr 8 0)).set 0 (.ptr 3 0))
def bk (x:Nat) (to:Int) (r:List Int×List Int):List Int×List Int:=
 if to < 0 then r else match bu to r.1 0 with
  |some k=>(r.1,r.2.set x k)
  |none=>(r.1++[to],r.2.set x r.1.length)
section
variable (call:Fa) (R0 R1:aa) (S:PV) (nl nr:Bool) (fr:Nat) (sets:List Al) (C:List Int) (n:Nat) (L M:aa) (O:List Int) (out:List PV) (no:Bool) (J:List aa)
 (k:Int) (Ya row:List Int) (x:Nat) (to:Int) (q:Nat) (hx:x < 256) (hto:Ya[x]? =some to)
include hx hto
theorem YK (h:to < 0):
 fa (ga call Jb) (fun s=>some (tidy [0,2,3,4,5,6,7,31,32] s)) ⟨Pt q k O Ya x,Lk R0 R1 S nl nr fr sets C n L M O out no (J++[.box (Aa row)])⟩=
  some (.norm,⟨Pt q k O Ya (x+1:Nat),Lk R0 R1 S nl nr fr sets C n L M O out no (J++[.box (Aa row)])⟩):=by
 have e1:decide ((x:Int) < 256)=true:=Za (by omega)
 have e2:decide (to < 0)=true:=Za (by omega)
 have hq:Ca (x:Int) 256:=by unfold Ca;omega
 have t1:((x:Int)).toNat=x:=by simp
 have t2:=Bb (i:=x) (n:=256) hx (by unfold maxLen;omega)
 have ht:(Ya.map i64)[x]? =some (i64 to):=by rw[List.getElem?_map,hto];rfl
 simp -implicitDefEqProofs only[SP,SA,SQ,sevalprocAttr,-List.reduceReplicate,fa,Jb,e1,e2,eq_true hq,t1,t2,ht,ma,tidy,Xb,Pt,Lk,Yf]
theorem rO (hq13:q=J.length+1+1+1+1+1+1+1+1+1+1+1+1+1) (hrow:row.length=256) (h:¬to < 0) {j:Nat} (hj:bu to O 0=some j):
 fa (ga call Jb) (fun s=>some (tidy [0,2,3,4,5,6,7,31,32] s)) ⟨Pt q k O Ya x,Lk R0 R1 S nl nr fr sets C n L M O out no (J++[.box (Aa row)])⟩=
  some (.norm,⟨Pt q k O Ya (x+1:Nat),Lk R0 R1 S nl nr fr sets C n L M O out no (J++[.box (Aa (row.set x j))])⟩):=by
 have e1:decide ((x:Int) < 256)=true:=Za (by omega)
 have e2:decide (to < 0)=false:=mb (by omega)
 have hq:Ca (x:Int) 256:=by unfold Ca;omega
 have t1:((x:Int)).toNat=x:=by simp
 have t2:=Bb (i:=x) (n:=256) hx (by unfold maxLen;omega)
 have ht:(Ya.map i64)[x]? =some (i64 to):=by rw[List.getElem?_map,hto];rfl
 have hf:=GF to O 0 0
 rw[hj] at hf
 simp only[Option.map_some] at hf
 have his:=aB to
 have hle:(x+1≤(Aa row).length)=True:=by rw[Ra];exact eq_true (by omega)
 subst hq13
 simp -implicitDefEqProofs only[SP,SA,SQ,sevalprocAttr,-List.reduceReplicate,fa,Jb,e1,e2,eq_true hq,t1,t2,ht,hf,eq_true his,hle,xh,Cl,ll,ma,tidy,Xb,Pt,Lk,Yf]
theorem GO (hq13:q=J.length+1+1+1+1+1+1+1+1+1+1+1+1+1) (hrow:row.length=256) (h:¬to < 0) (hj:bu to O 0=none) (hO:O.length < 100):
 fa (ga call Jb) (fun s=>some (tidy [0,2,3,4,5,6,7,31,32] s)) ⟨Pt q k O Ya x,Lk R0 R1 S nl nr fr sets C n L M O out no (J++[.box (Aa row)])⟩=
  some (.norm,⟨Pt q k (O++[to]) Ya (x+1:Nat),Lk R0 R1 S nl nr fr sets C n L M (O++[to]) out no (J++[.box (Aa (row.set x O.length))])⟩):=by
 have e1:decide ((x:Int) < 256)=true:=Za (by omega)
 have e2:decide (to < 0)=false:=mb (by omega)
 have hq:Ca (x:Int) 256:=by unfold Ca;omega
 have t1:((x:Int)).toNat=x:=by simp
 have t2:=Bb (i:=x) (n:=256) hx (by unfold maxLen;omega)
 have ht:(Ya.map i64)[x]? =some (i64 to):=by rw[List.getElem?_map,hto];rfl
 have hf:=GF to O 0 0
 rw[hj] at hf
 simp only[Option.map_none] at hf
 have his:=aB to
 have hle:(x+1≤(Aa row).length)=True:=by rw[Ra];exact eq_true (by omega)
 have hlen:(O.map i64).length=O.length:=by simp
 have q1:Cb (O.length+1) 8:=by unfold Cb;omega
 have hp:=NC to O 0
 rw[Nat.zero_add] at hp
 have hlen2:(O++[to]).length=O.length+1:=by simp
 have hmap:(O++[to]).map i64=O.map i64++[i64 to]:=by simp
 subst hq13
 unfold Pt Lk
 rw[hp,hlen2,hmap]
 simp -implicitDefEqProofs only[SP,SA,SQ,sevalprocAttr,-List.reduceReplicate,fa,Jb,e1,e2,eq_true hq,t1,t2,ht,hf,eq_true his,hle,hlen,eq_true q1,xh,Cl,ll,ma,tidy,Xb,Yf,fj,AV.cI,AV.Hs]
end
end Go.AM.B1
namespace Go.AM.B1
open Go.AM
def ir (n:Nat) (O:List Int):Prop:=O.Nodup∧∀ o∈O,0≤o∧o < (n:Int)
theorem Ww:∀ (n:Nat) (O:List Int),O.Nodup→(∀ o∈O,0≤o∧o < (n:Int))→O.length≤n
 |0,O,_,h=>by
  cases O with
  |nil=>simp
  |cons a O=>have:=h a (by simp);omega
 |n+1,O,hd,h=>by
  have ih:=Ww n (O.erase n) (hd.erase _) (fun o ho=>by
   have h1:=h o (List.mem_of_mem_erase ho)
   have h2:o≠n:=(hd.mem_erase_iff.1 ho).1
   omega)
  rw[List.length_erase] at ih
  split at ih <;> omega
theorem ir.len {n:Nat} {O:List Int} (h:ir n O):O.length≤n:=Ww n O h.1 h.2
theorem sw {a:Int}:∀ {l:List Int} {k:Nat},bu a l k=none→a ∉ l
 | [],_,_=>by simp
 |b::l,k,h=>by
  simp only[bu] at h
  split at h
  ·cases h
  ·next hne=>simp only[List.mem_cons,not_or];exact⟨hne,sw h⟩
def Pc (Ya:List Int):List Nat→List Int×List Int→List Int×List Int
 | [],r=>r
 |x::xs,r=>Pc Ya xs (bk x (Ya.getD x 0) r)
theorem iO {n:Nat} {x:Nat} {to:Int} {r:List Int×List Int} (hto:to < n) (h:ir n r.1):ir n (bk x to r).1∧(bk x to r).2.length=r.2.length∧∃ t,(bk x to r).1=r.1++t:=by
 unfold bk
 by_cases h0:to < 0
 ·rw[if_pos h0];exact⟨h,rfl,[],by simp⟩
 ·rw[if_neg h0]
  cases hi:bu to r.1 0 with
  |some k=>exact⟨h,by simp,[],by simp⟩
  |none=>
   have hn:=sw hi
   refine⟨⟨?_,?_⟩,by simp,[to],rfl⟩
   ·simp only[List.nodup_append,h.1,true_and]
    refine⟨by simp,?_⟩
    intro a ha b hb
    simp at hb;subst hb
    intro e;subst e;exact hn ha
   ·intro o ho
    rcases List.mem_append.1 ho with h1 | h1
    ·exact h.2 o h1
    ·simp at h1;subst h1;omega
section
variable (call:Fa) (R0 R1:aa) (S:PV) (nl nr:Bool) (fr:Nat) (sets:List Al) (C:List Int) (n:Nat) (L M:aa)
theorem oI (O:List Int) (out:List PV) (no:Bool) (J:List aa) (k:Int) (Ya:List Int) (q:Nat) (hq13:q=J.length+1+1+1+1+1+1+1+1+1+1+1+1+1)
 (hO:ir n O) (hn:n≤64) (hrow:Ya.length=256) (hto:∀ to∈Ya,to < n):
 Eb (fa (ga call Jb) (fun s=>some (tidy [0,2,3,4,5,6,7,31,32] s))) wa ⟨Pt q k O Ya 0,Lk R0 R1 S nl nr fr sets C n L M O out no (J++[.box (Aa Ya)])⟩=
  some (.exit 2,⟨(Pt q k (Pc Ya (List.range 256) (O,Ya)).1 Ya 256).set 33 (.pv (.bool false)),
   Lk R0 R1 S nl nr fr sets C n L M (Pc Ya (List.range 256) (O,Ya)).1 out no (J++[.box (Aa (Pc Ya (List.range 256) (O,Ya)).2)])⟩)∧
  ir n (Pc Ya (List.range 256) (O,Ya)).1∧(Pc Ya (List.range 256) (O,Ya)).2.length=256∧∃ t,(Pc Ya (List.range 256) (O,Ya)).1=O++t:=by
 generalize hxs:List.range 256=xs
 have key:=Gi (g:=fa (ga call Jb) (fun s=>some (tidy [0,2,3,4,5,6,7,31,32] s)))
  (fun x t=>∃ r,ir n r.1∧r.2.length=256∧(∃ t,r.1=O++t)∧t=⟨Pt q k r.1 Ya x,Lk R0 R1 S nl nr fr sets C n L M r.1 out no (J++[.box (Aa r.2)])⟩∧Pc Ya xs (O,Ya)=Pc Ya (xs.drop x) r)
  (fun ex t=>ex= .exit 2∧t=⟨(Pt q k (Pc Ya xs (O,Ya)).1 Ya 256).set 33 (.pv (.bool false)),Lk R0 R1 S nl nr fr sets C n L M (Pc Ya xs (O,Ya)).1 out no (J++[.box (Aa (Pc Ya xs (O,Ya)).2)])⟩∧
   ir n (Pc Ya xs (O,Ya)).1∧(Pc Ya xs (O,Ya)).2.length=256∧∃ t,(Pc Ya xs (O,Ya)).1=O++t)
  wa 256 0 ⟨Pt q k O Ya (0:Nat),Lk R0 R1 S nl nr fr sets C n L M O out no (J++[.box (Aa Ya)])⟩ (by unfold wa;omega) (by omega) ⟨(O,Ya),hO,hrow,⟨[],by simp⟩,rfl,rfl⟩ ?_ ?_
 ·obtain⟨ex,t,h,_,rfl,rfl,q1,q2⟩:=key
  exact⟨h,q1,q2⟩
 ·rintro x hx t ⟨⟨O',row⟩,hO',hr',⟨tl,htl⟩,rfl,hl⟩
  have hd:=Xq hx
  rw[hxs] at hd
  obtain⟨to,ht⟩:∃ to,Ya[x]? =some to:=⟨Ya[x],by simp[hrow,hx]⟩
  have hgd:Ya.getD x 0=to:=by simp[List.getD_eq_getElem?_getD,ht]
  have hlt:=hto to (List.mem_of_getElem? ht)
  rw[hd,Pc,hgd] at hl
  have ta:=iO (x:=x) (r:=(O',row)) hlt hO'
  refine .inl ⟨_,?_,bk x to (O',row),ta.1,by rw[ta.2.1];exact hr',?_,rfl,hl⟩
  ·by_cases h0:to < 0
   ·have e:bk x to (O',row)=(O',row):=by simp[bk,h0]
    rw[e]
    exact YK call R0 R1 S nl nr fr sets C n L M O' out no J k Ya row x to q hx ht h0
   ·have hlen:=hO'.len
    cases hi:bu to O' 0 with
    |some j=>
     have e:bk x to (O',row)=(O',row.set x j):=by simp[bk,h0,hi]
     rw[e]
     exact rO call R0 R1 S nl nr fr sets C n L M O' out no J k Ya row x to q hx ht hq13 hr' h0 hi
    |none=>
     have e:bk x to (O',row)=(O'++[to],row.set x O'.length):=by simp[bk,h0,hi]
     rw[e]
     exact GO call R0 R1 S nl nr fr sets C n L M O' out no J k Ya row x to q hx ht hq13 hr' h0 hi (by simp only at hlen;omega)
  ·obtain⟨t2,h2⟩:=ta.2.2
   exact⟨tl++t2,by rw[h2,←List.append_assoc,←htl]⟩
 ·rintro t ⟨⟨O',row⟩,hO',hr',htl,rfl,hl⟩
  rw[List.drop_eq_nil_of_le (by rw[← hxs,List.length_range];exact Nat.le_refl _),Pc] at hl
  rw[hl]
  refine⟨.exit 2,_,?_,rfl,rfl,rfl,hO',hr',htl⟩
  have e1:decide (((256:Nat):Int) < 256)=false:=by decide
  simp -implicitDefEqProofs only[SP,SA,SQ,sevalprocAttr,-List.reduceReplicate,fa,Jb,e1,Pt]
abbrev ow (k:Int) (O:List Int):Tr:=
 ((((((Tr.lf.set 6 (.pv (i64 k))).set 5 (.ptr 11 0)).set 4 (.uq 10 false 1 (O.map i64))).set 3 (.mp 9)).set 2 (.ptr 8 0)).set 0 (.ptr 3 0))
def lg (C:List Int) (o:Int) (O:List Int):List Int×List Int:=Pc (Ja C o.toNat) (List.range 256) (O,Ja C o.toNat)
theorem RI (O:List Int) (out:List PV) (no:Bool) (J:List aa) (k:Nat) (o:Int)
 (hC:C.length=n * 256) (cC:∀ c∈C,c < n) (hfr:fr≤n * 256) (hO:ir n O) (hn:n≤64) (hk:O[k]? =some o) (hout:out.length=k):
 fa (ga call oc) (fun s=>some (tidy [0,2,3,4,5,6] s)) ⟨ow k O,Lk R0 R1 S nl nr fr sets C n L M O out no J⟩=
  some (.norm,⟨ow (k+1:Nat) (lg C o O).1,Lk R0 R1 S nl nr fr sets C n L M (lg C o O).1 (out++[nf (Pe (lg C o O).2)]) false (J++[.box (Aa (lg C o O).2)])⟩)∧
  ir n (lg C o O).1∧∃ t,(lg C o O).1=O++t:=by
 have hom:=hO.2 o (List.mem_of_getElem? hk)
 have hkl:=(List.getElem?_eq_some_iff.1 hk).1
 have hOl:=hO.len
 have hoi:o.toNat < n:=by omega
 have hr0:=pg hC hoi
 obtain⟨hin,g1,g2,g3⟩:=oI call R0 R1 S nl nr fr sets C n L M O out no J k (Ja C o.toNat) _ rfl hO hn hr0 (fun to h=>cC to (List.mem_of_mem_drop (List.mem_of_mem_take h)))
 refine⟨?_,g1,g3⟩
 unfold lg
 generalize Pc (Ja C o.toNat) (List.range 256) (O,Ja C o.toNat)=r at *
 obtain⟨O',row'⟩:=r
 simp only at g1 g2 g3 hin
 have hed:=SL row' g2
 have hlen:(O.map i64).length=O.length:=by simp
 have e1:decide ((k:Int) < (O.length:Int))=true:=Za (by omega)
 have t1:((k:Int)).toNat=k:=by simp
 have hq1:Ca (k:Int) O.length:=by unfold Ca;omega
 have hg:(O.map i64)[k]? =some (i64 o):=by rw[List.getElem?_map,hk];rfl
 have hq3:Ca o n:=by unfold Ca;omega
 have w2:Dg 256 n fr (Aa C).length:=by rw[Ra];unfold Dg;omega
 have w4:((Aa C).length=n * 256)=True:=by rw[Ra];exact eq_true hC
 have w6:(o.toNat * 256+256≤(Aa C).length)=True:=by rw[Ra];exact eq_true (by omega)
 have p1:=Yz C o.toNat
 have t2:=Bb (i:=k) (n:=64) (by omega) (by unfold maxLen;omega)
 have h9:((Ja C o.toNat).map i64).map AV.pv=Aa (Ja C o.toNat):=(Sr _).symm
 have hz:=NR
 have p5:(256≤(Aa (List.replicate 256 0)).length)=True:=by rw[Ra,List.length_replicate];exact eq_true (Nat.le_refl _)
 have p6:oa (Aa (List.replicate 256 0)) 0 (Aa (Ja C o.toNat))=Aa (Ja C o.toNat):=by
  have:=Ku (Aa (Ja C o.toNat)) (Aa (List.replicate 256 0)) [] (by rw[Ra,Ra,hr0,List.length_replicate])
  rw[List.nil_append,List.nil_append] at this;exact this
 generalize hzs:List.replicate 256 (0:Int)=zs at *
 generalize Ja C o.toNat=Ya at *
 have r0:((Aa Ya).length=256)=True:=by rw[Ra,hr0];exact eq_self _
 have r1:(256≤(Aa Ya).length)=True:=by rw[Ra,hr0];exact eq_true (Nat.le_refl _)
 have r2:List.take 256 (Aa Ya)=Aa Ya:=List.take_of_length_le (by rw[Ra,hr0];exact Nat.le_refl _)
 have r3:=Uo Ya
 have r5:=Iz Ya
 have s1:(256≤(Aa row').length)=True:=by rw[Ra,g2];exact eq_true (Nat.le_refl _)
 have s2:List.take 256 (Aa row')=Aa row':=List.take_of_length_le (by rw[Ra,g2];exact Nat.le_refl _)
 have s3:=Uo row'
 have q1:Cb (out.length+1) 24:=by unfold Cb;omega
 have hlen2:(out++[nf (Pe row')]).length=out.length+1:=by simp
 unfold Lk
 rw[hlen2]
 have hcs:(∃ l,nf (Pe row')= .lit 3 l)∨nf (Pe row')= .qa:=by unfold nf;split;exact .inr rfl;exact .inl ⟨_,rfl⟩
 generalize nf (Pe row')=ed at *
 simp only[Pt,Lk,Yf,tidy,Xb] at hin
 simp -implicitDefEqProofs only[SP,SA,SQ,sevalprocAttr,-List.reduceReplicate,fa,oc,hlen,e1,eq_true hq1,eq_true hq3,t1,hg,eq_true w2,w4,w6,p1,h9,hz,p5,p6,r0,r1,r2,r3,r5,Cl,ll,ma,Gn,tidy,Xb,ow,Yf]
 rw[hin]
 rcases hcs with⟨l,rfl⟩ | rfl <;>
 simp -implicitDefEqProofs only[SP,SA,SQ,sevalprocAttr,-List.reduceReplicate,t2,s1,s2,s3,hed,He,Rb,eq_true q1,Cl,ll,ma,tidy,Xb,ow,Yf,fj,AV.cI,AV.Hs]
def fh (C:List Int):Nat→List Int×List (List je)→List Int×List (List je)
 |0,r=>r
 |f+1,r=>match r.1[r.2.length]? with
  |none=>r
  |some o=>fh C f ((lg C o r.1).1,r.2++[Pe (lg C o r.1).2])
theorem Qq {C:List Int} {f:Nat} {r:List Int×List (List je)} (h:r.1[r.2.length]? =none):fh C f r=r:=by
 cases f with
 |zero=>rfl
 |succ f=>rw[fh,h]
theorem Js {C:List Int} {f:Nat} {r:List Int×List (List je)} {o:Int} (h:r.1[r.2.length]? =some o):fh C (f+1) r=fh C f ((lg C o r.1).1,r.2++[Pe (lg C o r.1).2]):=by
 rw[fh,h]
def Vm (C:List Int):List (List je):=(fh C 64 ([0],[])).2
def jm (l:List (List je)):PV:= .lit 1 (l.map nf)
theorem PB (O:List Int) (out:List PV) (no:Bool) (J:List aa) (k:Nat) (hk:k=O.length):
 fa (ga call oc) (fun s=>some (tidy [0,2,3,4,5,6] s)) ⟨ow k O,Lk R0 R1 S nl nr fr sets C n L M O out no J⟩=
  some (.exit 0,⟨((((ow k O).set 15 (.pv (i64 k))).set 16 (.uq 10 false 1 (O.map i64))).set 17 (.pv (i64 O.length))).set 18 (.pv (.bool false)),Lk R0 R1 S nl nr fr sets C n L M O out no J⟩):=by
 have hlen:(O.map i64).length=O.length:=by simp
 have e1:decide ((k:Int) < (O.length:Int))=false:=mb (by omega)
 simp -implicitDefEqProofs only[SP,SA,SQ,sevalprocAttr,-List.reduceReplicate,fa,oc,hlen,e1,ow,Lk,Yf]
theorem RK (hC:C.length=n * 256) (cC:∀ c∈C,c < n) (hfr:fr≤n * 256) (hn:n≤64) (h0:0 < n):
 ∃ O J k,Eb (fa (ga call oc) (fun s=>some (tidy [0,2,3,4,5,6] s))) wa ⟨ow 0 [0],Lk R0 R1 S nl nr fr sets C n L M [0] [] true []⟩=
  some (.exit 0,⟨((((ow k O).set 15 (.pv (i64 k))).set 16 (.uq 10 false 1 (O.map i64))).set 17 (.pv (i64 O.length))).set 18 (.pv (.bool false)),Lk R0 R1 S nl nr fr sets C n L M O ((Vm C).map nf) false J⟩):=by
 have key:=Gi (g:=fa (ga call oc) (fun s=>some (tidy [0,2,3,4,5,6] s)))
  (fun k t=>∃ (O:List Int) (out:List (List je)) (J:List aa),ir n O∧out.length=k∧k≤O.length∧0 < O.length∧t=⟨ow k O,Lk R0 R1 S nl nr fr sets C n L M O (out.map nf) (k==0) J⟩∧fh C 64 ([0],[])=fh C (64 - k) (O,out))
  (fun ex t=>∃ (O:List Int) (J:List aa) (k:Nat),ex= .exit 0∧t=⟨((((ow k O).set 15 (.pv (i64 k))).set 16 (.uq 10 false 1 (O.map i64))).set 17 (.pv (i64 O.length))).set 18 (.pv (.bool false)),Lk R0 R1 S nl nr fr sets C n L M O ((Vm C).map nf) false J⟩)
  wa 64 0 ⟨ow (0:Nat) [0],Lk R0 R1 S nl nr fr sets C n L M [0] [] true []⟩ (by unfold wa;omega) (by omega)
   ⟨[0],[],[],⟨by simp,by intro o ho;simp at ho;omega⟩,rfl,by simp,by simp,rfl,rfl⟩ ?_ ?_
 ·obtain⟨ex,t,h,_,O,J,k,rfl,rfl⟩:=key
  exact⟨O,J,k,h⟩
 ·rintro k hk t ⟨O,out,J,hO,hout,hkO,hO0,rfl,hl⟩
  by_cases hlt:k < O.length
  ·obtain⟨o,ho⟩:∃ o,O[k]? =some o:=⟨O[k],by simp[hlt]⟩
   obtain⟨g1,g2,t,g3⟩:=RI call R0 R1 S nl nr fr sets C n L M O (out.map nf) (k==0) J k o hC cC hfr hO hn ho (by simpa using hout)
   rw[show 64 - k=(64 - (k+1))+1 by omega,Js (r:=(O,out)) (o:=o) (by show O[out.length]? =_;rw[hout];exact ho)] at hl
   refine .inl ⟨_,g1,_,out++[Pe (lg C o O).2],J++[.box (Aa (lg C o O).2)],g2,by simp[hout],?_,?_,?_,hl⟩
   ·rw[g3];simp;omega
   ·rw[g3];simp;omega
   ·have:(k+1==0)=false:=rfl
    rw[this];simp
  ·have hke:k=O.length:=by omega
   rw[Qq (r:=(O,out)) (by show O[out.length]? =none;rw[hout,hke];simp)] at hl
   refine .inr ⟨.exit 0,_,PB call R0 R1 S nl nr fr sets C n L M O _ _ J k hke,rfl,O,J,k,rfl,?_⟩
   have:(k==0)=false:=by simp;omega
   rw[this,Vm,hl]
 ·rintro t ⟨O,out,J,hO,hout,hkO,hO0,rfl,hl⟩
  have hke:64=O.length:=by have:=hO.len;omega
  rw[Qq (r:=(O,out)) (by show O[out.length]? =none;rw[hout,hke];simp)] at hl
  refine⟨.exit 0,_,PB call R0 R1 S nl nr fr sets C n L M O _ _ J 64 hke,rfl,O,J,64,rfl,?_⟩
  have:((64:Nat)==0)=false:=rfl
  rw[this,Vm,hl]
theorem VM (hC:C.length=n * 256) (cC:∀ c∈C,c < n) (hfr:fr≤n * 256) (hn:n≤64) (h0:0 < n):
 ∃ O J,Hd call Wg [.ptr 3 0] (Yf R0 R1 S nl nr fr sets C n [L,M])=
  some (.agg [.uq 12 false 1 ((Vm C).map nf)],Yf R0 R1 S nl nr fr sets C n (L::M:: .box [.uq 12 false 1 ((Vm C).map nf)]:: .map (VG O 0):: .tok 1 O.length false:: .box [.uq 12 false 1 ((Vm C).map nf)]:: .tok 1 ((Vm C).map nf).length false::J)):=by
 obtain⟨O,J,k,hl⟩:=RK call R0 R1 S nl nr fr sets C n L M hC cC hfr hn h0
 refine⟨O,J,?_⟩
 generalize (Vm C).map nf=out at *
 have hl':Eb (fa (ga call oc) (fun s=>some ⟨((((((Tr.lf.set 6 (s.env.get 6)).set 5 (s.env.get 5)).set 4 (s.env.get 4)).set 3 (s.env.get 3)).set 2 (s.env.get 2)).set 0 (s.env.get 0)),s.H⟩)) wa
  ⟨((((((Tr.lf.set 6 (.pv (.int .i64 0))).set 5 (.ptr 11 0)).set 4 (.uq 10 false 1 [.int .i64 0])).set 3 (.mp 9)).set 2 (.ptr 8 0)).set 0 (.ptr 3 0)),[R0,R1,.map (My sets 0),.box [.pv S,.mp 2,.uq 4 nl 2 (sets.map Wf),.own 5 n],.tok 2 sets.length nl,.seq 256 true (Aa C) fr nr,L,M,.box [.pv .qa],.map [(.int .i64 0,.int .i64 0)],.tok 1 1 false,.box [.uq 12 true 1 []],.tok 1 0 true]⟩=_:=hl
 simp only[ow,Lk,Yf] at hl'
 simp -implicitDefEqProofs only[SP,SA,SQ,sevalprocAttr,-List.reduceReplicate,Wg,ff,Gn,tidy,Xb,Dj,Yi,Ls,Option.isSome_some,fj,AV.cI,AV.Hs,Yf]
 rw[hl']
 simp -implicitDefEqProofs only[SP,SA,SQ,sevalprocAttr,-List.reduceReplicate,Yf]
end
end Go.AM.B1
namespace Go.AM.B1
open Go.AM
def Oo (n:Nat):Int:=IntKind.u32.wrap (IntKind.u32.wrap (1 * 2 ^ min n IntKind.u32.bits) - 1)
theorem HA (n:Nat):IntKind.u32.wrap (IntKind.u32.wrap (1 * 2 ^ min n IntKind.u32.bits) - 1)=Oo n:=rfl
theorem ME {n:Nat} (h:n≤32):Oo n=((2 ^ n - 1:Nat):Int):=by
 have:∀ n:Fin 33,Oo n.1=((2 ^ n.1 - 1:Nat):Int):=by decide
 exact this ⟨n,by omega⟩
theorem QJ {a:Al}:∀ {l:List Al} {k i:Nat},wo a l k=some i→i < k+l.length
 |b::l,k,i,h=>by
  simp only[wo] at h
  split at h
  ·injection h with h;simp;omega
  ·have:=QJ h;simp;omega
theorem mP {ss:List ec} {a:Al} {x:Int} {sets:List Al} {r:List Al×Int} (h:Tg ss a x sets=some r):r.2 < r.1.length:=by
 unfold Tg at h
 split at h
 ·injection h with h;subst h;simp;omega
 ·split at h
  ·injection h with h;subst h;simp;omega
  ·split at h
   ·next k hk=>injection h with h;subst h;have:=QJ hk;simp at this;simp;omega
   ·split at h
    ·injection h with h;subst h;simp;omega
    ·cases h
theorem PJ {ss:List ec} {a:Al}:∀ (xs:List Nat) (r r':List Al×List Int),r.1.length≤64→(∀ v∈r.2,v < r.1.length)→tn ss a xs r=some r'→∀ v∈r'.2,v < r'.1.length
 | [],r,r',_,h,e=>by injection e with e;subst e;exact h
 |x::xs,r,r',hl,h,e=>by
  cases hst:Tg ss a x r.1 with
  |none=>rw[pt hst] at e;cases e
  |some p=>
   rw[Nt hst] at e
   have hg:=Gx hst hl
   refine PJ xs (p.1,r.2.set x p.2) r' hg.1 ?_ e
   intro v hv
   obtain⟨t,ht⟩:=hg.2
   rcases List.mem_or_eq_of_mem_set hv with h1 | h1
   ·have h2:=h v h1
    have:r.1.length≤p.1.length:=by rw[ht];simp
    simp only;omega
   ·rw[h1];exact mP hst
theorem pG {ss:List ec} (hw:ss.length≤32):∀ (k:Nat) (r r':List Al×List (List Int)),Wn ss r.1→(∀ l∈r.2,∀ v∈l,v < r.1.length)→Ui ss k r=some r'→(∀ l∈r'.2,∀ v∈l,v < r'.1.length)∧∃ t,r'.1=r.1++t
 |0,r,r',_,h,e=>by injection e with e;subst e;exact⟨h,[],by simp⟩
 |k+1,r,r',ta,h,e=>by
  cases ha:r.1[r.2.length]? with
  |none=>rw[ot ha] at e;injection e with e;subst e;exact⟨h,[],by simp⟩
  |some a=>
   cases hr:tn ss a (List.range 256) (r.1,Ya) with
   |none=>rw[Ru ha hr] at e;cases e
   |some p=>
    rw[Bu ha hr] at e
    obtain⟨g1,⟨t,g2⟩,g3⟩:=Nv hw (List.range 256) (r.1,Ya) p ta ha hr
    have hpos:0 < r.1.length:=by have:=(List.getElem?_eq_some_iff.1 ha).1;omega
    have g4:=PJ (List.range 256) (r.1,Ya) p ta.1 (by
     intro v hv
     have:v=0:=List.eq_of_mem_replicate hv
     simp only;omega) hr
    obtain⟨k1,t2,k2⟩:=pG hw k (p.1,r.2++[p.2]) r' g1 (by
     intro l hl v hv
     rcases List.mem_append.1 hl with h1 | h1
     ·have:=h l h1 v hv
      simp only[g2,List.length_append] at this ⊢;omega
     ·simp at h1;subst h1;exact g4 v hv) e
    exact⟨k1,t++t2,by rw[k2,g2,List.append_assoc]⟩
theorem Qw:∀ (rs:List (List Int)),Aa rs.flatten=rs.flatMap Aa
 | []=>rfl
 |r::rs=>by
  have:=Qw rs
  rw[List.flatten_cons,YE,List.flatMap_cons,this]
def xk (ss:List ec):List Al:=[(0,Oo ss.length)]
theorem aA {ss:List ec} (hw:ss.length≤32) (hne:∀ s∈ss,0 < s.parts.length):Wn ss (xk ss):=by
 refine⟨by simp[xk],?_⟩
 intro k a ha
 match k,ha with
 |0,ha=>
  simp only[xk,List.getElem?_cons_zero,Option.some.injEq] at ha
  subst ha
  refine⟨by simp,2 ^ ss.length - 1,ME hw,?_,?_⟩
  ·have:2 ^ ss.length≤2 ^ 32:=Nat.pow_le_pow_right (by decide) hw
   omega
  ·intro i s hs _
   exact hne s (List.mem_of_getElem? hs)
 |k+1,ha=>simp[xk] at ha
section
variable (R0 R1:aa) (S:PV) (ss:List ec)
 (h0:pa 7 R0=some R0) (h1:pa 7 R1=some R1) (g0:pa 6 R0=some R0) (g1:pa 6 R1=some R1)
 (hS:Ah 2 S (ss.map Ed)) (hw:ss.length≤32) (hsz:∀ s∈ss,∀ l∈s.parts,l.length * 16≤140737488355328) (hne:∀ s∈ss,0 < s.parts.length)
include h0 h1 g0 g1 hS hw hsz hne
theorem WG:
 (∀ r,Ui ss 64 (xk ss,[])=some r→∃ nl',Hd (za ua 7) Je [.ptr 3 0] (wh R0 R1 S true [] (gf []) 0 [])=some (.pv (.bool true),wh R0 R1 S nl' r.1 (gf r.2) r.2.length [])∧Wn ss r.1∧r.2.length=r.1.length∧∀ r'∈r.2,r'.length=256)∧
 (Ui ss 64 (xk ss,[])=none→∃ H,Hd (za ua 7) Je [.ptr 3 0] (wh R0 R1 S true [] (gf []) 0 [])=some (.pv (.bool false),H)∧H[0]? =some R0):=by
 have hloop:=AL R0 R1 S false (xk ss) ss h0 h1 g0 g1 hS hw hsz (aA hw hne) (by simp[xk])
 have ls:=hS.len
 simp only[List.length_map] at ls
 have hmet:Hd (za ua 6) Sc [.ptr 3 0,.pv (.agg [.int .i64 0,.int .u32 (Oo ss.length)])] [R0,R1,.map (My [] 0),.box [.pv S,.mp 2,.uq 4 true 2 [],.own 5 0],.tok 2 0 true,.seq 256 true [] 0 true]=some (.pv (.bc [.int .i64 0,.bool true]),wh R0 R1 S false [(0,Oo ss.length)] (gf []) 0 []):=
  iJ (za ua 6) R0 R1 S true [] (gf []) 0 [] (0,Oo ss.length) rfl (by simp)
 have n0:¬((ss.length:Int) < 0):=by omega
 have t1:((ss.length:Int)).toNat=ss.length:=by simp
 have e1:((ss.length:Int) < 0)=False:=eq_false n0
 have q5:=Ys 6 6 []
 simp only[List.flatMap_nil] at q5
 simp only[wh,gf,List.flatMap_nil,List.isEmpty_nil] at hmet
 unfold wh gf
 constructor
 ·intro r hr
  obtain⟨E,nl',hl,k1,k2,k3⟩:=hloop.1 r hr
  refine⟨nl',?_,k1,k2,k3⟩
  simp -implicitDefEqProofs only[SP,SA,SQ,sevalprocAttr,-List.reduceReplicate,Je,ls,e1,t1,HA,ua,List.flatMap_nil,hmet,Tc,xa,Qa,pk,ak,Rj,Pp,Ha,AV.cut,Rb,h0,h1,g0,g1,q5,wh]
  have hl':Eb (fa (ga (za ua 7) Ta) (xa 6 [0,3])) wa ⟨(Tr.lf.set 3 (.pv (.int .i64 0))).set 0 (.ptr 3 0),[R0,R1,.map (My [(0,Oo ss.length)] 0),.box [.pv S,.mp 2,.uq 4 false 2 [Wf (0,Oo ss.length)],.own 5 0],.tok 2 1 false,.seq 256 true [] 0 true]⟩=_:=hl
  rw[hl']
  simp -implicitDefEqProofs only[SP,SA,SQ,sevalprocAttr,-List.reduceReplicate,wh,gf]
 ·intro hr
  obtain⟨t,hl,k2,k3⟩:=Sn (hloop.2 hr)
  refine⟨t.H,?_,k3⟩
  simp -implicitDefEqProofs only[SP,SA,SQ,sevalprocAttr,-List.reduceReplicate,Je,ls,e1,t1,HA,ua,List.flatMap_nil,hmet,Tc,xa,Qa,pk,ak,Rj,Pp,Ha,AV.cut,Rb,h0,h1,g0,g1,q5,wh]
  have hl':Eb (fa (ga (za ua 7) Ta) (xa 6 [0,3])) wa ⟨(Tr.lf.set 3 (.pv (.int .i64 0))).set 0 (.ptr 3 0),[R0,R1,.map (My [(0,Oo ss.length)] 0),.box [.pv S,.mp 2,.uq 4 false 2 [Wf (0,Oo ss.length)],.own 5 0],.tok 2 1 false,.seq 256 true [] 0 true]⟩=_:=hl
  rw[hl']
  simp -implicitDefEqProofs only[SP,SA,SQ,sevalprocAttr,-List.reduceReplicate,k2]
end
def Ck (ss:List ec):Option (List (List je)):=
 (Ui ss 64 (xk ss,[])).map fun r=>Vm (bg r.2.length r.2.flatten).C
section
variable (S0 S:PV) (ss:List ec) (hS0:S0= .qa∨∃ l,S0= .lit 2 l) {y:Bool} {a b e:Int}
include hS0
theorem eL (he:e≠0) (hp:Gd [.agg [S0]]=some (.bc [.agg [.bool y,i64 a,i64 b],i64 e])):
 qd [.agg [S0]]=some (.bc [.agg [.qa],i64 e]):=by
 have e1:=Ik he
 rcases hS0 with rfl | ⟨l,rfl⟩ <;>
 simp -implicitDefEqProofs only[qd,SP,SA,SQ,sevalprocAttr,-List.reduceReplicate,Ki,hp,e1,bne,He,Rb]
theorem EO (hp:Gd [.agg [S0]]=some (.bc [.agg [.bool false,i64 a,i64 b],i64 0])):
 qd [.agg [S0]]=some (.bc [.agg [.qa],i64 110]):=by
 rcases hS0 with rfl | ⟨l,rfl⟩ <;>
 simp -implicitDefEqProofs only[qd,SP,SA,SQ,sevalprocAttr,-List.reduceReplicate,Ki,hp,bne,He,Rb]
variable (hp:Gd [.agg [S0]]=some (.bc [.agg [.bool true,i64 a,i64 b],i64 0])) (hc:Pg [.agg [S0]]=some (.agg [S]))
 (hS:Ah 2 S (ss.map Ed)) (hw:ss.length≤32) (hsz:∀ s∈ss,∀ l∈s.parts,l.length * 16≤140737488355328) (hne:∀ s∈ss,0 < s.parts.length)
include hp hc hS hw hsz hne
theorem LI (h:Ck ss=none):qd [.agg [S0]]=some (.bc [.agg [.qa],i64 130]):=by
 have hn:Ui ss 64 (xk ss,[])=none:=by unfold Ck at h;simpa using h
 obtain⟨H,hwk,hH⟩:=(WG (.box [.pv .qa]) (.box [.pv (.bool true),.pv (i64 a),.pv (i64 b)]) S ss rfl rfl rfl rfl hS hw hsz hne).2 hn
 have hb0:wh (.box [.pv .qa]) (.box [.pv (.bool true),.pv (i64 a),.pv (i64 b)]) S true [] (gf []) 0 []=[.box [.pv .qa],.box [.pv (.bool true),.pv (i64 a),.pv (i64 b)],.map [],.box [.pv S,.mp 2,.uq 4 true 2 [],.own 5 0],.tok 2 0 true,.seq 256 true [] 0 true]:=rfl
 rw[hb0] at hwk
 have hS2:S= .qa∨∃ l,S= .lit 2 l:=by rcases hS with⟨h,_⟩ | h;exact .inl h;exact .inr ⟨_,h⟩
 have hH2:∀ o,(H.set 0 o)[0]? =some o:=by
  intro o
  cases H with
  |nil=>cases hH
  |cons x H=>rfl
 rcases hS0 with rfl | ⟨l,rfl⟩ <;> rcases hS2 with rfl | ⟨l2,rfl⟩ <;>
 simp -implicitDefEqProofs only[qd,SP,SA,SQ,sevalprocAttr,-List.reduceReplicate,Ki,hp,hc,hwk,hH,hH2,ua,ff,fj,AV.cI,AV.Hs,bne,He,Rb]
theorem PO {l:List (List je)} (h:Ck ss=some l):qd [.agg [S0]]=some (.bc [.agg [jm l],i64 0]):=by
 obtain⟨r,hn,hl⟩:∃ r,Ui ss 64 (xk ss,[])=some r∧Vm (bg r.2.length r.2.flatten).C=l:=by
  unfold Ck at h;simpa using h
 obtain⟨nl,hwk,k1,k2,k3⟩:=(WG (.box [.pv .qa]) (.box [.pv (.bool true),.pv (i64 a),.pv (i64 b)]) S ss rfl rfl rfl rfl hS hw hsz hne).1 r hn
 have hb0:wh (.box [.pv .qa]) (.box [.pv (.bool true),.pv (i64 a),.pv (i64 b)]) S true [] (gf []) 0 []=[.box [.pv .qa],.box [.pv (.bool true),.pv (i64 a),.pv (i64 b)],.map [],.box [.pv S,.mp 2,.uq 4 true 2 [],.own 5 0],.tok 2 0 true,.seq 256 true [] 0 true]:=rfl
 have hb1:wh (.box [.pv .qa]) (.box [.pv (.bool true),.pv (i64 a),.pv (i64 b)]) S nl r.1 (gf r.2) r.2.length []=Yf (.box [.pv .qa]) (.box [.pv (.bool true),.pv (i64 a),.pv (i64 b)]) S nl r.2.isEmpty 0 r.1 r.2.flatten r.2.length []:=by
  unfold wh Yf gf;rw[Qw]
 rw[hb0,hb1] at hwk
 have hlt:=pG hw 64 (xk ss,[]) r (aA hw hne) (by simp) hn
 have hpos:0 < r.1.length:=by obtain⟨t,ht⟩:=hlt.2;rw[ht];simp[xk]
 have hC:r.2.flatten.length=r.2.length * 256:=by
  have:=YA k3
  rw[← Qw,Ra] at this;exact this
 have cC:∀ c∈r.2.flatten,c < (r.2.length:Int):=by
  intro c hc
  obtain⟨l,h1,h2⟩:=List.mem_flatten.1 hc
  rw[k2];exact hlt.1 l h1 c h2
 have h64:r.2.length≤64:=by rw[k2];exact k1.1
 have h0:0 < r.2.length:=by omega
 obtain⟨fr,fk,v,hf,hls⟩:=sM (za ua 7) (.box [.pv .qa]) (.box [.pv (.bool true),.pv (i64 a),.pv (i64 b)]) S nl r.2.isEmpty r.1 r.2.flatten r.2.length h64 h0 k2.symm hC cC
 have ta:RR r.2.length (bg r.2.length r.2.flatten):=PA _ _ (Nat.le_refl _) ⟨hC,by simp,cC,by intro c hc;rw[List.eq_of_mem_replicate hc];omega,by simp⟩
 obtain⟨O,J,htd⟩:=VM (za ua 7) (.box [.pv .qa]) (.box [.pv (.bool true),.pv (i64 a),.pv (i64 b)]) S nl r.2.isEmpty fr r.1 (bg r.2.length r.2.flatten).C r.2.length (.seq 1 false (Aa (bg r.2.length r.2.flatten).Pb) fk false) (.map (yp (bg r.2.length r.2.flatten).M)) ta.hC ta.cC (by omega) h64 h0
 rw[hl] at htd
 unfold jm
 generalize l.map nf=out at *
 generalize bg r.2.length r.2.flatten=g at *
 simp only[Yf] at hwk hls htd
 have hS2:S= .qa∨∃ l,S= .lit 2 l:=by rcases hS with⟨h,_⟩ | h;exact .inl h;exact .inr ⟨_,h⟩
 rcases hS0 with rfl | ⟨l,rfl⟩ <;> rcases hS2 with rfl | ⟨l2,rfl⟩ <;>
 simp -implicitDefEqProofs only[qd,SP,SA,SQ,sevalprocAttr,-List.reduceReplicate,Ki,hp,hc,hwk,hls,htd,ua,ff,fj,AV.cI,AV.Hs,bne,He,Rb]
end
end Go.AM.B1
namespace Go.AM.B1
open Go.AM Go.AM.So
structure Qp (v:PV) (l:List (Int×Int)):Prop where
 is:Ah 2 v (Td l)
 sz:l.length * 16≤140737488355328
structure qf (P:PV) (ls:List (List (Int×Int))) (ps:List PV):Prop where
 is:Ah 1 P ps
 len:ps.length=ls.length
 all:∀ (k:Nat) v l,ps[k]? =some v→ls[k]? =some l→Qp v l
 sz:ls.length≤maxLen
structure ug (e:PV) (s:ec) (P:PV) (ps:List PV):Prop where
 eq:e= .agg [P,i64 s.first]
 parts:qf P s.parts ps
structure Ld (S:PV) (ss:List ec) (es:List PV):Prop where
 is:Ah 2 S es
 len:es.length=ss.length
 all:∀ (k:Nat) e s,es[k]? =some e→ss[k]? =some s→∃ P ps,ug e s P ps
 sz:ss.length≤maxLen
theorem qf.get {P:PV} {ls:List (List (Int×Int))} {ps:List PV} (h:qf P ls ps) {i:Nat} (hi:i < ls.length):∃ v,ps[i]? =some v∧P= .lit 1 ps∧Qp v ls[i]:=by
 have h1:i < ps.length:=by rw[h.len];exact hi
 refine⟨ps[i],List.getElem?_eq_getElem h1,h.is.lit (i:=i) h1,h.all i _ _ (List.getElem?_eq_getElem h1) (List.getElem?_eq_getElem hi)⟩
theorem Ld.get {S:PV} {ss:List ec} {es:List PV} (h:Ld S ss es) {i:Nat} (hi:i < ss.length):∃ e P ps,es[i]? =some e∧S= .lit 2 es∧ug e ss[i] P ps:=by
 have h1:i < es.length:=by rw[h.len];exact hi
 obtain⟨P,ps,hp⟩:=h.all i _ _ (List.getElem?_eq_getElem h1) (List.getElem?_eq_getElem hi)
 exact⟨es[i],P,ps,List.getElem?_eq_getElem h1,h.is.lit (i:=i) h1,hp⟩
theorem qf.Mc {P:PV} {ls:List (List (Int×Int))} {ps:List PV} (h:qf P ls ps) (H:List aa):Mc H 0 (.pv P)=some ls.length:=by
 rw[h.is.len,h.len]
theorem Ld.Mc {S:PV} {ss:List ec} {es:List PV} (h:Ld S ss es) (H:List aa):Mc H 0 (.pv S)=some ss.length:=by
 rw[h.is.len,h.len]
def Jd (l:List (Int×Int)):Prop:=l≠[]∧Ka 255 (-2) l=true
instance (l:List (Int×Int)):Decidable (Jd l):=by unfold Jd;infer_instance
def Fm:Int→List (List (Int×Int))→Int
 |n,[]=>n
 |n,l::r=>Fm (if 1073741825 < n * Dc 0 l then 1073741825 else n * Dc 0 l) r
def Jg (s:ec):Int:=s.first+Fm 1 s.parts - 1
theorem Gg {l:List (Int×Int)} (h:Jd l):1≤Dc 0 l∧Dc 0 l≤256:=by
 have:=(En h.2).2.1 h.1;omega
theorem vw {n s:Int} (h1:1≤n) (h2:n≤1073741825) (h3:1≤s) (h4:s≤256):1≤n * s∧n * s≤274877907200:=by
 constructor
 ·have:=Int.mul_le_mul h1 h3 (by omega) (by omega);omega
 ·have:=Int.mul_le_mul h2 h4 (by omega) (by omega);omega
theorem Gr:∀ (ls:List (List (Int×Int))) (n:Int),(∀ l∈ls,Jd l)→1≤n→n≤1073741825→1≤Fm n ls∧Fm n ls≤1073741825
 | [],n,_,h1,h2=>⟨h1,h2⟩
 |l::r,n,h,h1,h2=>by
  have hs:=Gg (h l (by simp))
  have hm:=vw h1 h2 hs.1 hs.2
  rw[Fm]
  refine Gr r _ (fun x hx=>h x (by simp[hx])) ?_ ?_ <;> split <;> omega
abbrev WE (row:List PV) (P:PV) (len i n:Int):Tr:=((((Tr.lf.set 9 (.pv (i64 i))).set 8 (.pv (i64 len))).set 7 (.pv P)).set 3 (.pv (i64 n))).set 1 (.pv (.rp row 0))
theorem FF {e:PV} {s:ec} {P:PV} {ps:List PV} (h:ug e s P ps) (ta:∀ l∈s.parts,Jd l) (hf:0≤s.first∧s.first≤1073741823):al [e]=some (i64 (Jg s)):=by
 obtain⟨rfl,hP⟩:=h
 have hb:=Gr s.parts 1 ta (by omega) (by omega)
 have hsz:=hP.sz
 have hloop:ke (fun r=>∃ E H,r=(.exit 0,⟨E,H⟩)∧E.get 3= .pv (i64 (Fm 1 s.parts))∧E.get 1= .pv (.rp [P,i64 s.first] 0))
  (Eb (fa (ga (za (fun _=>none) 8) Vf) (xa 0 [1,3,7,8,9])) wa ⟨WE [P,i64 s.first] P s.parts.length 0 1,[]⟩):=by
  refine Wa (Te (g:=fa (ga (za (fun _=>none) 8) Vf) (xa 0 [1,3,7,8,9]))
   (fun i t=>∃ n,t=⟨WE [P,i64 s.first] P s.parts.length i n,[]⟩∧1≤n∧n≤1073741825∧Fm 1 s.parts=Fm n (s.parts.drop i))
   s.parts.length (by unfold wa;unfold maxLen at hsz;omega) _ ⟨1,rfl,by omega,by omega,rfl⟩ ?_ ?_) (fun r h=>h.2)
  ·rintro i t hi ⟨n,rfl,h1,h2,hs⟩
   obtain⟨v,hv,hPl,hpt⟩:=hP.get hi
   have hd:s.parts.drop i=s.parts[i]::s.parts.drop (i+1):=List.drop_eq_getElem_cons hi
   have hpo:=ta s.parts[i] (List.getElem_mem hi)
   have hss:=Ps v s.parts[i] hpt.is hpt.sz hpo.2
   have hsb:=Gg hpo
   rw[hd,Fm] at hs
   generalize s.parts[i]=l at *
   have hm:=vw h1 h2 hsb.1 hsb.2
   have e1:decide ((i:Int) < (s.parts.length:Int))=true:=Za (by omega)
   have t2:=Bb hi hsz
   have t3:IntKind.i64.wrap (n * Dc 0 l)=n * Dc 0 l:=Da (by omega)
   have hq:i < ps.length:=by rw[hP.len];exact hi
   have hcl:v.cells=[v]:=by rcases hpt.is with⟨h,_⟩ | h <;> rw[h] <;> rfl
   have a1:ma [] 1 (.pv P) (i:Int)=some (.pv (.rp [v] 0)):=by
    rw[hPl]
    simp only[ma]
    rw[if_pos (by unfold Ca;simp;omega),Int.toNat_natCast,hv]
    simp[hcl]
   have a2:na [] false 1 (.pv (.rp [v] 0))=some (.pv v):=rfl
   generalize hQ:LN _ _ i=Q
   simp -implicitDefEqProofs only[SX,sevalprocAttr,Vf,e1,t2,t3,a1,a2,hss,Un,zd,xa,Qa,AV.cut,Sa,WE]
   subst hQ
   exact⟨_,rfl,by split <;> omega,by split <;> omega,hs⟩
  ·rintro t ⟨n,rfl,h1,h2,hs⟩
   rw[List.drop_length,Fm] at hs
   have e1:decide ((s.parts.length:Int) < (s.parts.length:Int))=false:=mb (by omega)
   generalize hQ:(fun r:Ex×St=>r.1.stop=true∧_)=Q
   simp -implicitDefEqProofs only[SX,sevalprocAttr,Vf,e1,WE]
   subst hQ
   exact⟨rfl,_,_,rfl,by simp[Tr.ba,hs],by simp[Tr.ba]⟩
 obtain⟨r,h1,E,H,rfl,hE,hE1⟩:=vd hloop
 have ls:=hP.Mc
 simp only[WE] at h1
 have h1':Eb (fa (ga (za (fun _=>none) 8) Vf) (xa 0 [1,3,7,8,9])) wa ⟨((((Tr.lf.set 9 (.pv (.int .i64 0))).set 8 (.pv (.int .i64 s.parts.length))).set 7 (.pv P)).set 3 (.pv (.int .i64 1))).set 1 (.pv (.rp [P,i64 s.first] 0)),[]⟩=some (.exit 0,⟨E,H⟩):=h1
 unfold Jg
 generalize Fm 1 s.parts=n at *
 have t1:IntKind.i64.wrap (s.first+n)=s.first+n:=Da (by omega)
 have t2:IntKind.i64.wrap (s.first+n - 1)=s.first+n - 1:=Da (by omega)
 have hPv:∃ sz es,P= .qa∨P= .lit sz es:=by rcases hP.is with⟨h,_⟩ | h;exact⟨0,[],.inl h⟩;exact⟨_,_,.inr h⟩
 obtain⟨sz,es,rfl | rfl⟩:=hPv <;>
 simp -implicitDefEqProofs only[al,SP,SA,SQ,WP,WQ,sevalprocAttr,Io,Tc,ls,h1',hE,hE1,t1,t2]
theorem NN (call:Fa) {v:PV} {l:List (Int×Int)} (h:Qp v l) (H:List aa):Hd call Hh [.pv v] H=some (.pv (.bool (!decide (Jd l))),H):=by
 have ls:=h.is.len
 simp only[Td,List.length_map] at ls
 have hv:=Ay v l h.is h.sz
 by_cases h0:l=[]
 ·have e1:((l.length:Int)==0)=true:=by simp[h0]
  have e2:(!decide (Jd l))=true:=by
   have:¬Jd l:=fun hp=>hp.1 h0
   simp[this]
  rw[e2]
  simp -implicitDefEqProofs only[SP,SA,SQ,WP,WQ,sevalprocAttr,Hh,ls,e1]
 ·have e1:((l.length:Int)==0)=false:=by
   have:l.length≠0:=fun e=>h0 (List.eq_nil_of_length_eq_zero e)
   exact Ik (by omega)
  have e2:(!decide (Jd l))= !(Ka 255 (-2) l):=by
   congr 1
   rw[Bool.eq_iff_iff];simp[Jd,h0]
  rw[e2]
  simp -implicitDefEqProofs only[SP,SA,SQ,WP,WQ,sevalprocAttr,Hh,ls,e1,hv]
def Nr (ls:List (List (Int×Int))) (i:Nat):Int:=
 match ls with
 | []=> -1
 |l::r=>if Jd l then Nr r (i+1) else i
theorem TB:∀ (ls:List (List (Int×Int))) (i:Nat),decide (Nr ls i≥0)= !decide (∀ l∈ls,Jd l)
 | [],i=>by simp[Nr]
 |l::r,i=>by
  rw[Nr]
  by_cases h:Jd l
  ·rw[if_pos h,TB r];simp[h]
  ·rw[if_neg h];simp[h]
abbrev HG (P:PV) (len i:Int):Tr:=(((Tr.lf.set 8 (.pv (i64 i))).set 7 (.pv (i64 len))).set 1 (.mi 7 [])).set 0 (.pv P)
theorem ZK {P:PV} {ls:List (List (Int×Int))} {ps:List PV} (hP:qf P ls ps) (d:Nat) (H:List aa) (hH:Kc H):
 Hd (za Fb (d+1)) Qb [.pv P,.mi 7 []] H=some (.pv (i64 (Nr ls 0)),H):=by
 have hsz:=hP.sz
 have lsn:=hP.Mc
 have hcut:=Kc.cut hH
 have h7:Fb 7=some Hh:=rfl
 apply lz
 have hloop:ke (fun r=>∃ E,(r=(.exit 0,⟨E,H⟩)∧Nr ls 0= -1)∨(r=(.ret,⟨E,H⟩)∧E.get 4= .pv (i64 (Nr ls 0))))
  (Eb (fa (ga (za Fb (d+1)) gb) (xa H.length [0,1,7,8])) wa ⟨HG P ls.length 0,H⟩):=by
  refine Wa (Te (g:=fa (ga (za Fb (d+1)) gb) (xa H.length [0,1,7,8]))
   (fun i t=>t=⟨HG P ls.length i,H⟩∧Nr ls 0=Nr (ls.drop i) i)
   ls.length (by unfold wa;unfold maxLen at hsz;omega) _ ⟨rfl,rfl⟩ ?_ ?_) (fun r h=>h.2)
  ·rintro i t hi ⟨rfl,hs⟩
   obtain⟨v,hv,hPl,hpt⟩:=hP.get hi
   have hd:ls.drop i=ls[i]::ls.drop (i+1):=List.drop_eq_getElem_cons hi
   rw[hd,Nr] at hs
   have hn:=NN (za Fb d) hpt H
   generalize ls[i]=l at *
   have e1:decide ((i:Int) < (ls.length:Int))=true:=Za (by omega)
   have t2:=Bb hi hsz
   have hq:i < ps.length:=by rw[hP.len];exact hi
   have hcl:v.cells=[v]:=by rcases hpt.is with⟨h,_⟩ | h <;> rw[h] <;> rfl
   have a1:ma H 1 (.pv P) (i:Int)=some (.pv (.rp [v] 0)):=by
    rw[hPl]
    simp only[ma]
    rw[if_pos (by unfold Ca;simp;omega),Int.toNat_natCast,hv]
    simp[hcl]
   have a2:na H false 1 (.pv (.rp [v] 0))=some (.pv v):=rfl
   generalize hQ:LN _ _ i=Q
   by_cases ta:Jd l
   ·rw[if_pos ta] at hs
    rw[decide_eq_true ta] at hn
    simp -implicitDefEqProofs only[SX,sevalprocAttr,gb,e1,t2,a1,a2,h7,hn,hcut,List.take_length,xa,Qa,AV.cut,Sa,HG]
    subst hQ
    exact⟨rfl,hs⟩
   ·rw[if_neg ta] at hs
    rw[decide_eq_false ta] at hn
    simp -implicitDefEqProofs only[SX,sevalprocAttr,gb,e1,t2,a1,a2,h7,hn,hcut,List.take_length,xa,Qa,AV.cut,Sa,HG]
    subst hQ
    exact⟨_,.inr ⟨rfl,by simp[Tr.ba,hs]⟩⟩
  ·rintro t ⟨rfl,hs⟩
   rw[List.drop_length,Nr] at hs
   have e1:decide ((ls.length:Int) < (ls.length:Int))=false:=mb (by omega)
   generalize hQ:(fun r:Ex×St=>r.1.stop=true∧_)=Q
   simp -implicitDefEqProofs only[SX,sevalprocAttr,gb,e1,HG]
   subst hQ
   exact⟨rfl,_,.inl ⟨rfl,hs⟩⟩
 simp -implicitDefEqProofs only[SX,sevalprocAttr,Qb,Tc,lsn,hcut,List.take_length,xa,Qa,AV.cut,Sa]
 refine Wa hloop ?_
 rintro _ ⟨E,⟨rfl,hb⟩ | ⟨rfl,hE⟩⟩
 ·simp -implicitDefEqProofs only[SX,sevalprocAttr,hb]
 ·simp -implicitDefEqProofs only[SX,sevalprocAttr,hE]
theorem Yv {P:PV} {ls:List (List (Int×Int))} {ps:List PV} (hP:qf P ls ps) (d:Nat) (H:List aa) (hH:Kc H):
 Hd (za Fb (d+2)) fb [.pv P,.mi 7 []] H=some (.pv (.bool (!decide (∀ l∈ls,Jd l))),H):=by
 have h:=ZK hP d H hH
 have h5:Fb 5=some Qb:=rfl
 have hb:=TB ls 0
 simp -implicitDefEqProofs only[SX,sevalprocAttr,fb,h5,h,hb]
end Go.AM.B1
