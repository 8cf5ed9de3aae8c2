/- What functions of the program compute. -/
import Derived.Test.YtdglpnpkgngcdaaGreatQ4
set_option linter.unusedVariables false
set_option linter.unusedSimpArgs false
namespace Go.AM.B1
open Go.AM
def IJ (ss:List dc) (k:Nat) (a:Al):Prop:=
 a.1≤k∧∃ b:Nat,a.2=(b:Int)∧b < 4294967296∧∀ i s,ss[i]? =some s→b.testBit i=true→a.1 < s.parts.length
def Qm (ss:List dc) (sets:List Al):Prop:=sets.length≤64∧∀ k a,sets[k]? =some a→IJ ss k a
theorem IJ.Aa {ss:List dc} {k:Nat} {a:Al} (h:IJ ss k a) (hl:ss.length≤32):∀ i s,ss[i]? =some s→Pz a.2 i=true→a.1 < s.parts.length:=by
 obtain⟨_,b,e,hb,h⟩:=h
 intro i s hs ht
 have hi:i < 32:=by have:=(List.getElem?_eq_some_iff.1 hs).1;omega
 rw[e,gK hb hi] at ht
 exact h i s hs ht
theorem QW {ss:List dc} {k:Nat} {a:Al} {x:Int} (h:IJ ss k a) (hl:ss.length≤32) (hf:(wh x a.2 a.1 0 ss (0,false)).2=false):
 IJ ss (k+1) (a.1+1,(wh x a.2 a.1 0 ss (0,false)).1):=by
 obtain⟨hk,b,e,hb,h⟩:=h
 have hN:wh x (b:Int) a.1 0 ss (0,false)=(((It x b a.1 0 ss (0,false)).1:Int),(It x b a.1 0 ss (0,false)).2):=SL (x:=x) (d:=a.1) hb ss 0 (0,false) (by omega) (by decide)
 rw[e,hN] at hf
 rw[e,hN]
 have hlt:=lI (x:=x) (bits:=b) (d:=a.1) ss 0 (0,false) (by omega) (by decide)
 refine⟨Nat.succ_le_succ hk,_,rfl,hlt,?_⟩
 intro i s hs ht
 rw[LA] at ht
 simp only[Nat.zero_testBit,Nat.zero_le,decide_true,Bool.true_and,Bool.false_or,Nat.sub_zero,hs] at ht
 have hd:=h i s hs (by revert ht;cases b.testBit i <;> simp)
 have hf':(It x b a.1 0 ss (0,false)).2=false:=hf
 rw[fB,Bool.false_or,List.any_eq_false] at hf'
 have:=hf' (s,i) (by rw[List.mk_mem_zipIdx_iff_getElem?];exact hs)
 show a.1+1 < s.parts.length
 simp only[ht,Bool.true_and] at this
 have h2:¬s.parts.length=a.1+1:=by simpa using this
 omega
theorem uE {ss:List dc} {a:Al} {x:Int} {sets:List Al} {r:List Al×Int} {k:Nat} (hs:Qm ss sets) (ha:sets[k]? =some a) (hl:ss.length≤32) (h:Rg ss a x sets=some r):
 Qm ss r.1∧∃ t,r.1=sets++t:=by
 have hk:=hs.2 k a ha
 unfold Rg at h
 split at h
 ·injection h with h;subst h;exact⟨hs,[],by simp⟩
 ·split at h
  ·injection h with h;subst h;exact⟨hs,[],by simp⟩
  ·next hf=>
   split at h
   ·injection h with h;subst h;exact⟨hs,[],by simp⟩
   ·split at h
    ·next hlt=>
     injection h with h;subst h
     refine⟨⟨by simp;omega,?_⟩,_,rfl⟩
     intro j b hb
     rcases Nat.lt_or_ge j sets.length with h1 | h1
     ·rw[List.getElem?_append_left h1] at hb;exact hs.2 j b hb
     ·rw[List.getElem?_append_right h1] at hb
      cases hj:j - sets.length with
      |succ n=>rw[hj] at hb;simp at hb
      |zero=>
       rw[hj] at hb
       simp only[List.getElem?_cons_zero,Option.some.injEq] at hb
       subst hb
       have hkl:=(List.getElem?_eq_some_iff.1 ha).1
       obtain⟨g1,g2⟩:=QW hk hl (by simpa using hf)
       exact⟨Nat.le_trans g1 (by omega),g2⟩
    ·cases h
theorem Fu {ss:List dc} {a:Al} {k:Nat} (hl:ss.length≤32):∀ (xs:List Nat) (r r':List Al×List Int),Qm ss r.1→r.1[k]? =some a→Mk ss a xs r=some r'→
 Qm ss r'.1∧(∃ t,r'.1=r.1++t)∧r'.2.length=r.2.length
 | [],r,r',h,_,e=>by injection e with e;subst e;exact⟨h,⟨[],by simp⟩,rfl⟩
 |x::xs,r,r',h,ha,e=>by
  cases hst:Rg ss a x r.1 with
  |none=>rw[Cs hst] at e;cases e
  |some p=>
   rw[Ht hst] at e
   obtain⟨g1,t,g2⟩:=uE h ha hl hst
   obtain⟨k1,⟨t',k2⟩,k3⟩:=Fu hl xs (p.1,r.2.set x p.2) r' g1 (by rw[g2,List.getElem?_append_left (List.getElem?_eq_some_iff.1 ha).1];exact ha) e
   exact⟨k1,⟨t++t',by rw[k2,g2,List.append_assoc]⟩,by rw[k3];simp⟩
def eb:List Int:=List.replicate 256 0
theorem Ps:eb.length=256:=List.length_replicate
def Qg (ss:List dc):Nat→List Al×List (List Int)→Option (List Al×List (List Int))
 |0,r=>some r
 |k+1,r=>match r.1[r.2.length]? with
  |none=>some r
  |some a=>match Mk ss a (List.range 256) (r.1,eb) with
   |none=>none
   |some p=>Qg ss k (p.1,r.2++[p.2])
theorem Gs {ss:List dc} {k:Nat} {r:List Al×List (List Int)} (h:r.1[r.2.length]? =none):Qg ss k r=some r:=by
 cases k with
 |zero=>rfl
 |succ k=>rw[Qg,h]
theorem au {ss:List dc} {k:Nat} {r:List Al×List (List Int)} {a:Al} (h:r.1[r.2.length]? =some a) (h2:Mk ss a (List.range 256) (r.1,eb)=none):Qg ss (k+1) r=none:=by
 rw[Qg,h];simp only[h2]
theorem Ku {ss:List dc} {k:Nat} {r:List Al×List (List Int)} {a:Al} {p:List Al×List Int} (h:r.1[r.2.length]? =some a) (h2:Mk ss a (List.range 256) (r.1,eb)=some p):Qg ss (k+1) r=Qg ss k (p.1,r.2++[p.2]):=by
 rw[Qg,h];simp only[h2]
section
variable (R0 R1:ba) (S:PV) (nl:Bool) (sets:List Al) (rs:List (List Int)) (ss:List dc) (i:Nat)
theorem RR (h0:ma 7 R0=some R0) (h1:ma 7 R1=some R1) (hi:i < sets.length) (hl:sets.length≤64)
 (hrowL:Bu 2 (.pv (.bool false)) R0 (gb (fa (ta (Ga Ea 7) La) (ga 7 [0,3,4,30])) oa ⟨xm i 0,Mj R0 R1 S nl sets (Zg rs) rs.length [.box (Ka (List.replicate 256 0))]⟩)):
 Bu 2 (.pv (.bool false)) R0 (Mb (Ga Ea 7) [0,3] qb 6 ⟨RA i,Mj R0 R1 S nl sets (Zg rs) rs.length []⟩):=by
 have hlen:(sets.map ri).length=sets.length:=by simp
 have e1:decide ((i:Int) < (sets.length:Int))=true:=Da (by omega)
 have q5:=Vv 7 6 rs
 obtain⟨t,g1,g2,g3⟩:=mr hrowL
 simp only[xm,Mj,Zg,Int.cast_ofNat_Int] at g1
 unfold Mj Zg
 have hz2:=EW
 generalize hz:List.replicate 256 (0:Int)=zs at *
 simp -implicitDefEqProofs only[SP,SA,SQ,sevalprocAttr,-List.reduceReplicate,Mb,fa,qb,hlen,e1,xb,ga,za,uj,Cm,Fm,Qs,Ia,xq,AV.cut,Db,h0,h1,RA,hz2,q5]
 rw[g1]
 simp -implicitDefEqProofs only[SP,SA,SQ,sevalprocAttr,-List.reduceReplicate,fD,g2,g3]
theorem dL (hi:i=sets.length):
 Mb (Ga Ea 7) [0,3] qb 6 ⟨RA i,Mj R0 R1 S nl sets (Zg rs) rs.length []⟩=
  some (.exit 0,⟨(((((((RA i).set 21 (.pv (i64 i))).set 22 (.ptr 3 0)).set 23 (.ptr 3 0)).set 24 (.ptr 3 2)).set 25 (.uq 4 nl 2 (sets.map ri))).set 26 (.pv (i64 sets.length))).set 27 (.pv (.bool false)),Mj R0 R1 S nl sets (Zg rs) rs.length []⟩):=by
 have hlen:(sets.map ri).length=sets.length:=by simp
 have e1:decide ((i:Int) < (sets.length:Int))=false:=Ha (by omega)
 simp -implicitDefEqProofs only[SP,SA,SQ,sevalprocAttr,-List.reduceReplicate,Mb,fa,qb,hlen,e1,RA,Mj]
theorem oP (n:Nat):ma n (Zg rs)=some (Zg rs):=by
 have:(rs.flatMap Ka).all (AV.Be n deep)=true:=Vv n deep rs
 unfold Zg
 rw[Qs,if_pos this]
theorem mP (h0:ma 7 R0=some R0) (h1:ma 7 R1=some R1) (g0:ma 6 R0=some R0) (g1:ma 6 R1=some R1)
 (hS:Di 2 S (ss.map Le)) (hw:ss.length≤32) (hsz:∀ s∈ss,∀ l∈s.parts,l.length * 16≤140737488355328) (Aa:Qm ss sets) (h1s:sets.length≤1):
 (∀ r,Qg ss 64 (sets,[])=some r→∃ E nl',gb (fa (ta (Ga Ea 7) qb) (ga 6 [0,3])) oa ⟨RA 0,Mj R0 R1 S nl sets (Zg []) 0 []⟩=
  some (.exit 0,⟨E,Mj R0 R1 S nl' r.1 (Zg r.2) r.2.length []⟩)∧Qm ss r.1∧r.2.length=r.1.length∧∀ r'∈r.2,r'.length=256)∧
 (Qg ss 64 (sets,[])=none→Bu 2 (.pv (.bool false)) R0 (gb (fa (ta (Ga Ea 7) qb) (ga 6 [0,3])) oa ⟨RA 0,Mj R0 R1 S nl sets (Zg []) 0 []⟩)):=by
 have key:=Wj (g:=Mb (Ga Ea 7) [0,3] qb 6)
  (fun i t=>∃ nl' sets' rs',t=⟨RA i,Mj R0 R1 S nl' sets' (Zg rs') rs'.length []⟩∧Qg ss 64 (sets,[])=Qg ss (64 - i) (sets',rs')∧Qm ss sets'∧rs'.length=i∧i≤sets'.length∧∀ r∈rs',r.length=256)
  (fun ex t=>(∃ r,ex= .exit 0∧Qg ss 64 (sets,[])=some r∧∃ E nl',t=⟨E,Mj R0 R1 S nl' r.1 (Zg r.2) r.2.length []⟩∧Qm ss r.1∧r.2.length=r.1.length∧∀ r'∈r.2,r'.length=256)∨
   (ex= .ret∧Qg ss 64 (sets,[])=none∧t.env.get 2= .pv (.bool false)∧t.H[0]? =some R0))
  oa 64 0 ⟨RA (0:Nat),Mj R0 R1 S nl sets (Zg []) 0 []⟩ (by unfold oa;omega) (by omega) ⟨nl,sets,[],rfl,rfl,Aa,rfl,by omega,by simp⟩ ?_ ?_
 ·obtain⟨ex,t,h,_,hq⟩:=key
  have h':gb (fa (ta (Ga Ea 7) qb) (ga 6 [0,3])) oa ⟨RA 0,Mj R0 R1 S nl sets (Zg []) 0 []⟩=some (ex,t):=h
  rw[h']
  rcases hq with⟨r,rfl,hr',E,nl',rfl,q1,q2,q3⟩ | ⟨rfl,hr',hg,hg2⟩
  ·refine⟨fun r2 e=> ?_,fun e=> ?_⟩
   ·rw[hr'] at e;injection e with e;subst e;exact⟨E,nl',rfl,q1,q2,q3⟩
   ·rw[hr'] at e;cases e
  ·refine⟨fun r2 e=> ?_,fun _=> .mk _ hg hg2⟩
   rw[hr'] at e;cases e
 ·rintro i hi t ⟨nl',sets',rs',rfl,hws,hok',hrl,hil,hrr⟩
  by_cases hlt:i < sets'.length
  ·obtain⟨a,ha⟩:∃ a,sets'[i]? =some a:=⟨sets'[i],by simp[hlt]⟩
   have hsa:=hok'.2 i a ha
   have hget:sets'[rs'.length]? =some a:=by rw[hrl];exact ha
   have hrow:=NT R0 R1 S (Zg rs') rs'.length ss h0 h1 (oP rs' 7) hS (by unfold maxLen;omega) hsz (nl:=nl') Ps ha (by have:=hsa.1;omega) hok'.1 (hsa.Aa hw)
   have e64:64 - i=(64 - (i+1))+1:=by omega
   cases hr:Mk ss a (List.range 256) (sets',eb) with
   |none=>
    have hst:=RR R0 R1 S nl' sets' rs' i h0 h1 hlt hok'.1 (hrow.2 hr)
    obtain⟨t,k1,k2,k3⟩:=mr hst
    rw[e64,au (r:=(sets',rs')) hget hr] at hws
    exact .inr ⟨.ret,t,k1,rfl,.inr ⟨rfl,hws,k2,k3⟩⟩
   |some p=>
    obtain⟨nl2,k1,k2,k3,k4⟩:=hrow.1 p hr
    have hro:=Fu hw _ _ _ hok' ha hr
    rw[e64,Ku (r:=(sets',rs')) hget hr] at hws
    have hsr:=IQ R0 R1 S nl' sets' rs' i h0 h1 g0 g1 hlt hok'.1 (by have:=hok'.1;omega) hrr nl2 p.1 p.2 k3 k1
    refine .inl ⟨_,hsr,nl2,p.1,rs'++[p.2],by simp,hws,hro.1,by simp[hrl],?_,?_⟩
    ·obtain⟨t,ht⟩:=k4
     rw[ht];simp;omega
    ·intro r hr
     rcases List.mem_append.1 hr with h | h
     ·exact hrr r h
     ·simp at h;subst h;exact k3
  ·have hie:i=sets'.length:=by omega
   rw[Gs (r:=(sets',rs')) (by show sets'[rs'.length]? =none;rw[hrl,hie];simp)] at hws
   exact .inr ⟨.exit 0,_,dL R0 R1 S nl' sets' rs' i hie,rfl,.inl ⟨(sets',rs'),rfl,hws,_,nl',rfl,hok',by show rs'.length=sets'.length;omega,hrr⟩⟩
 ·rintro t ⟨nl',sets',rs',rfl,hws,hok',hrl,hil,hrr⟩
  have hie:64=sets'.length:=by have:=hok'.1;omega
  rw[Gs (r:=(sets',rs')) (by show sets'[rs'.length]? =none;rw[hrl,hie];simp)] at hws
  exact⟨.exit 0,_,dL R0 R1 S nl' sets' rs' 64 hie,rfl,.inl ⟨(sets',rs'),rfl,hws,_,nl',rfl,hok',by show rs'.length=sets'.length;omega,hrr⟩⟩
end
end Go.AM.B1
namespace Go.AM.B1
open Go.AM
abbrev mi (R0 R1:ba) (S:PV) (nl nr:Bool) (fr:Nat) (sets:List Al) (C:List Int) (n:Nat) (T:List ba):List ba:=
 R0::R1:: .map (iC sets 0):: .box [.pv S,.mp 2,.uq 4 nl 2 (sets.map ri),.own 5 n]:: .tok 2 sets.length nl:: .seq 256 true (Ka C) fr nr::T
abbrev yi (row:List Int):PV:= .agg (row.map i64)
abbrev Bz (n:Nat) (row:List Int) (i x:Int):Tr:=
 (((((Tr.lf.set 34 (.pv (i64 x))).set 33 (.pv (yi row))).set 5 (.pv (i64 i))).set 4 (.mp 7)).set 3 (.own 6 n)).set 0 (.ptr 3 0)
section
variable (call:Za) (R0 R1:ba) (S:PV) (nl nr nk:Bool) (fr fk:Nat) (sets:List Al) (C:List Int) (n:Nat) (yc:List Int) (M:ba) (row:List Int) (i x:Nat) (to:Int)
theorem DL (hx:x < 256) (hto:row[x]? =some to) (h:to < 0):fa (ta call wc) (fun s=>some (tidy [0,3,4,5,33,34] s)) ⟨Bz n row i x,mi R0 R1 S nl nr fr sets C n [.seq 1 false (Ka yc) fk nk,M]⟩=
 some (.norm,⟨Bz n row i (x+1:Nat),mi R0 R1 S nl nr fr sets C n [.seq 1 false (Ka yc) fk nk,M]⟩):=by
 have e1:decide ((x:Int) < 256)=true:=Da (by omega)
 have e2:decide (to≥0)=false:=Ha (by omega)
 have hq:Fa (x:Int) 256:=by unfold Fa;omega
 have t1:((x:Int)).toNat=x:=by simp
 have t2:=Ua (i:=x) (n:=256) hx (by unfold maxLen;omega)
 have ht:(row.map i64)[x]? =some (i64 to):=by rw[List.getElem?_map,hto];rfl
 simp -implicitDefEqProofs only[SP,SA,SQ,sevalprocAttr,-List.reduceReplicate,fa,wc,e1,e2,eq_true hq,t1,t2,ht,Tl,qa,tidy,Dc,Bz,mi]
theorem rP (hC:C.length=n * 256) (hk:yc.length=n) (hfr:fr≤n * 256) (hfk:fk≤n) (hi:i < n) (hx:x < 256) (hto:row[x]? =some to) (h:0≤to) {v:Int} (hv:yc[to.toNat]? =some v):fa (ta call wc) (fun s=>some (tidy [0,3,4,5,33,34] s)) ⟨Bz n row i x,mi R0 R1 S nl nr fr sets C n [.seq 1 false (Ka yc) fk nk,M]⟩=
 some (.norm,⟨Bz n row i (x+1:Nat),mi R0 R1 S nl nr (n * 256) sets (C.set (i * 256+x) v) n [.seq 1 false (Ka yc) fk nk,M]⟩):=by
 have e1:decide ((x:Int) < 256)=true:=Da (by omega)
 have e2:decide (to≥0)=true:=Da (by omega)
 have hq:Fa (x:Int) 256:=by unfold Fa;omega
 have t1:((x:Int)).toNat=x:=by simp
 have t3:((i:Int)).toNat=i:=by simp
 have t2:=Ua (i:=x) (n:=256) hx (by unfold maxLen;omega)
 have ht:(row.map i64)[x]? =some (i64 to):=by rw[List.getElem?_map,hto];rfl
 have hv':(Ka yc)[to.toNat]? =some (.pv (i64 v)):=by rw[Ka,List.getElem?_map,hv];rfl
 have hvl:=(List.getElem?_eq_some_iff.1 hv).1
 have hq2:Fa to n:=by unfold Fa;omega
 have hq3:Fa (i:Int) n:=by unfold Fa;omega
 have w1:nh 1 n fk (Ka yc).length:=by rw[fb];unfold nh;omega
 have w2:nh 256 n fr (Ka C).length:=by rw[fb];unfold nh;omega
 have w3:((Ka yc).length=n)=True:=by rw[fb];exact eq_true hk
 have w5:(i * 256+x+1≤n * 256)=True:=eq_true (by omega)
 have w4:((Ka C).length=n * 256)=True:=by rw[fb];exact eq_true hC
 simp -implicitDefEqProofs only[SP,SA,SQ,sevalprocAttr,-List.reduceReplicate,fa,wc,e1,e2,eq_true hq,eq_true hq2,eq_true hq3,eq_true w1,eq_true w2,w3,w4,w5,t1,t2,t3,ht,hv',Tl,qa,gj,tidy,Dc,Bz,mi]
def Hd (yc row:List Int) (i:Nat):List Nat→List Int→List Int
 | [],C=>C
 |x::xs,C=>Hd yc row i xs (match row[x]? with
  |some to=>if 0≤to then C.set (i * 256+x) (yc.getD to.toNat 0) else C
  |none=>C)
theorem gm (yc row:List Int) (i:Nat):∀ (xs:List Nat) (C:List Int),(Hd yc row i xs C).length=C.length
 | [],C=>rfl
 |x::xs,C=>by
  rw[Hd,gm yc row i xs]
  split
  ·split <;> simp
  ·rfl
theorem FJ (hC:C.length=n * 256) (hk:yc.length=n) (hfr:fr=0∨fr=n * 256) (hfk:fk≤n) (hi:i < n) (hrow:row.length=256) (hto:∀ to∈row,to < n):
 ∃ fr',(fr'=0∨fr'=n * 256)∧gb (fa (ta call wc) (fun s=>some (tidy [0,3,4,5,33,34] s))) oa ⟨Bz n row i 0,mi R0 R1 S nl nr fr sets C n [.seq 1 false (Ka yc) fk nk,M]⟩=
  some (.exit 2,⟨(Bz n row i 256).set 35 (.pv (.bool false)),mi R0 R1 S nl nr fr' sets (Hd yc row i (List.range 256) C) n [.seq 1 false (Ka yc) fk nk,M]⟩):=by
 generalize hxs:List.range 256=xs
 have key:=Wj (g:=fa (ta call wc) (fun s=>some (tidy [0,3,4,5,33,34] s)))
  (fun x t=>∃ fr' C',(fr'=0∨fr'=n * 256)∧C'.length=n * 256∧t=⟨Bz n row i x,mi R0 R1 S nl nr fr' sets C' n [.seq 1 false (Ka yc) fk nk,M]⟩∧Hd yc row i xs C=Hd yc row i (xs.drop x) C')
  (fun ex t=>∃ fr',(fr'=0∨fr'=n * 256)∧ex= .exit 2∧t=⟨(Bz n row i 256).set 35 (.pv (.bool false)),mi R0 R1 S nl nr fr' sets (Hd yc row i xs C) n [.seq 1 false (Ka yc) fk nk,M]⟩)
  oa 256 0 ⟨Bz n row i (0:Nat),mi R0 R1 S nl nr fr sets C n [.seq 1 false (Ka yc) fk nk,M]⟩ (by unfold oa;omega) (by omega) ⟨fr,C,hfr,hC,rfl,rfl⟩ ?_ ?_
 ·obtain⟨ex,t,h,_,fr',q1,rfl,rfl⟩:=key
  exact⟨fr',q1,h⟩
 ·rintro x hx t ⟨fr',C',hf',hC',rfl,hl⟩
  have hd:=Yp hx
  rw[hxs] at hd
  rw[hd] at hl
  obtain⟨to,ht⟩:∃ to,row[x]? =some to:=⟨row[x],by simp[hrow,hx]⟩
  have hlt:=hto to (List.mem_of_getElem? ht)
  by_cases h0:0≤to
  ·obtain⟨v,hv⟩:∃ v,yc[to.toNat]? =some v:=⟨yc[to.toNat]'(by omega),by rw[List.getElem?_eq_getElem]⟩
   refine .inl ⟨_,rP call R0 R1 S nl nr nk fr' fk sets C' n yc M row i x to hC' hk (by omega) hfk hi hx ht h0 hv,n * 256,_,.inr rfl,by simpa using hC',rfl,?_⟩
   rw[hl,Hd,ht]
   have:yc.getD to.toNat 0=v:=by simp[hv]
   simp only[if_pos h0,this]
  ·refine .inl ⟨_,DL call R0 R1 S nl nr nk fr' fk sets C' n yc M row i x to hx ht (by omega),fr',C',hf',hC',rfl,?_⟩
   rw[hl,Hd,ht]
   simp only[if_neg h0]
 ·rintro t ⟨fr',C',hf',hC',rfl,hl⟩
  rw[List.drop_eq_nil_of_le (by rw[← hxs,List.length_range];exact Nat.le_refl _)] at hl
  refine⟨.exit 2,_,?_,rfl,fr',hf',rfl,rfl⟩
  rw[hl]
  have e1:decide (((256:Nat):Int) < 256)=false:=by decide
  simp -implicitDefEqProofs only[SP,SA,SQ,sevalprocAttr,-List.reduceReplicate,fa,wc,e1,Bz,mi,Hd]
end
theorem qA:∀ (a b:List Int),a.length=b.length→ej (List.replicate a.length 1) (a.map i64) (b.map i64)=some (decide (a=b))
 | [],[],_=>rfl
 |x::a,y::b,h=>by
  have ih:=qA a b (by simpa using h)
  simp only[List.length_cons,List.replicate_succ,List.map_cons,ej,Kr,if_true,Option.bind_some,ih,Option.map_some,List.cons.injEq,Bool.decide_and]
  congr 2
 | [],_::_,h=>by cases h
 |_::_,[],h=>by cases h
def Vs (M:List (List Int×Int)):List (PV×PV):=M.map fun p=>(yi p.1,i64 p.2)
theorem bR (M:List (List Int×Int)) (p:List Int×Int):Vs (M++[p])=Vs M++[(yi p.1,i64 p.2)]:=by simp[Vs]
def Bk (a:List Int):List (List Int×Int)→Option Int
 | []=>none
 |p::r=>if a=p.1 then some p.2 else Bk a r
theorem PJ {a:List Int} (ha:a.length=256):∀ (M:List (List Int×Int)) (j:Nat),(∀ p∈M,p.1.length=256)→
 (∀ v,Bk a M=some v→∃ k,tm (.row (List.replicate 256 1)) (yi a) (Vs M) j=some (some (k,i64 v)))∧(Bk a M=none→tm (.row (List.replicate 256 1)) (yi a) (Vs M) j=some none)
 | [],j,_=>⟨fun v h=>(by cases h),fun _=>rfl⟩
 |p::r,j,hp=>by
  have he:=qA a p.1 (by rw[ha,hp p (by simp)])
  rw[ha] at he
  have ih:=PJ ha r (j+1) (fun q hq=>hp q (by simp[hq]))
  have hk:gk (.row (List.replicate 256 1)) (yi a) (yi p.1)=some (decide (a=p.1)):=he
  rw[show Vs (p::r)=(yi p.1,i64 p.2)::Vs r from rfl,tm,hk,Option.bind_some,Bk]
  by_cases h:a=p.1
  ·rw[if_pos h,decide_eq_true h]
   exact⟨fun v e=>(by injection e with e;subst e;exact⟨j,rfl⟩),fun e=>(by cases e)⟩
  ·rw[if_neg h,decide_eq_false h]
   exact ih
theorem jM {a:List Int} (ha:a.length=256):(gk (.row (List.replicate 256 1)) (yi a) (yi a)).isSome=true:=by
 have he:=qA a a rfl
 rw[ha] at he
 show (ej _ _ _).isSome=true
 rw[he];rfl
def Wa (C:List Int) (i:Nat):List Int:=(C.drop (i * 256)).take 256
theorem Yh {C:List Int} {n i:Nat} (hC:C.length=n * 256) (hi:i < n):(Wa C i).length=256:=by
 unfold Wa;rw[List.length_take,List.length_drop,hC];omega
theorem bD (C:List Int) (i:Nat):nf (List.take 256 (List.drop (i * 256) (Ka C)))=some ((Wa C i).map i64):=by
 have:List.take 256 (List.drop (i * 256) (Ka C))=Ka (Wa C i):=by unfold Wa Ka;rw[List.map_take,List.map_drop]
 rw[this,Rt]
structure zK where
 C:List Int
 yc:List Int
 M:List (List Int×Int)
def bl (i:Nat) (s:zK):zK:=
 let C:=Hd s.yc (Wa s.C i) i (List.range 256) s.C
 match Bk (Wa C i) s.M with
 |some v=>⟨C,s.yc.set i v,s.M⟩
 |none=>⟨C,s.yc.set i i,s.M++[(Wa C i,(i:Int))]⟩
def Fj:Nat→zK→zK
 |0,s=>s
 |i+1,s=>Fj i (bl i s)
theorem Cr {i:Nat} {s:zK} {v:Int} (h:Bk (Wa (Hd s.yc (Wa s.C i) i (List.range 256) s.C) i) s.M=some v):bl i s=⟨Hd s.yc (Wa s.C i) i (List.range 256) s.C,s.yc.set i v,s.M⟩:=by
 simp only[bl,h]
theorem Er {i:Nat} {s:zK} (h:Bk (Wa (Hd s.yc (Wa s.C i) i (List.range 256) s.C) i) s.M=none):
 bl i s=⟨Hd s.yc (Wa s.C i) i (List.range 256) s.C,s.yc.set i i,s.M++[(Wa (Hd s.yc (Wa s.C i) i (List.range 256) s.C) i,(i:Int))]⟩:=by
 simp only[bl,h]
abbrev HA (n:Nat) (i:Int):Tr:=(((Tr.lf.set 5 (.pv (i64 i))).set 4 (.mp 7)).set 3 (.own 6 n)).set 0 (.ptr 3 0)
section
variable (call:Za) (R0 R1:ba) (S:PV) (nl nr nk:Bool) (fr fk:Nat) (sets:List Al) (n:Nat) (s:zK) (i:Nat)
theorem yJ (hC:s.C.length=n * 256) (hk:s.yc.length=n) (hfr:fr=0∨fr=n * 256) (hfk:fk≤n) (hi:i < n) (hn:n≤64) (hto:∀ to∈Wa s.C i,to < n) (hM:∀ p∈s.M,p.1.length=256):
 ∃ fr',(fr'=0∨fr'=n * 256)∧fa (ta call Ed) (fun s=>some (tidy [0,3,4,5] s)) ⟨HA n i,mi R0 R1 S nl nr fr sets s.C n [.seq 1 false (Ka s.yc) fk nk,.map (Vs s.M)]⟩=
  some (.norm,⟨HA n ((i:Int) - 1),mi R0 R1 S nl nr fr' sets (bl i s).C n [.seq 1 false (Ka (bl i s).yc) n nk,.map (Vs (bl i s).M)]⟩):=by
 obtain⟨fr',hf',hin⟩:=FJ call R0 R1 S nl nr nk fr fk sets s.C n s.yc (.map (Vs s.M)) (Wa s.C i) i hC hk hfr hfk hi (Yh hC hi) hto
 refine⟨fr',hf',?_⟩
 have hC2:(Hd s.yc (Wa s.C i) i (List.range 256) s.C).length=n * 256:=by rw[gm,hC]
 have hrl:=Yh hC2 hi
 have hfd:=PJ hrl s.M 0 hM
 have his:=jM hrl
 have p1:=bD s.C i
 have p2:=bD (Hd s.yc (Wa s.C i) i (List.range 256) s.C) i
 have e1:decide ((i:Int)≥0)=true:=Da (by omega)
 have hq3:Fa (i:Int) n:=by unfold Fa;omega
 have t3:((i:Int)).toNat=i:=by simp
 have t2:IntKind.i64.wrap ((i:Int) - 1)=(i:Int) - 1:=Ba (by omega)
 have w2:nh 256 n fr (Ka s.C).length:=by rw[fb];unfold nh;omega
 have w4:((Ka s.C).length=n * 256)=True:=by rw[fb];exact eq_true hC
 have w6:(i * 256+256≤(Ka s.C).length)=True:=by rw[fb];exact eq_true (by omega)
 have hl1:=@Cr i s
 have hl2:=@Er i s
 generalize Hd s.yc (Wa s.C i) i (List.range 256) s.C=C2 at *
 have w12:nh 256 n fr' (Ka C2).length:=by rw[fb];unfold nh;omega
 have w14:((Ka C2).length=n * 256)=True:=by rw[fb];exact eq_true hC2
 have w16:(i * 256+256≤(Ka C2).length)=True:=by rw[fb];exact eq_true (by omega)
 have w1:nh 1 n fk (Ka s.yc).length:=by rw[fb];unfold nh;omega
 have w3:((Ka s.yc).length=n)=True:=by rw[fb];exact eq_true hk
 have w5:(i+1≤n)=True:=eq_true (by omega)
 generalize hz:List.replicate 256 1=ks at *
 have hin':gb (fa (ta call wc) (fun s=>some (tidy [0,3,4,5,33,34] s))) oa ⟨Bz n (Wa s.C i) i 0,mi R0 R1 S nl nr fr sets s.C n [.seq 1 false (Ka s.yc) fk nk,.map (Vs s.M)]⟩=_:=hin
 simp only[Bz,mi,tidy,Dc] at hin'
 cases hlk:Bk (Wa C2 i) s.M with
 |some v=>
  obtain⟨k,hk2⟩:=hfd.1 v hlk
  rw[hl1 hlk]
  simp -implicitDefEqProofs only[SP,SA,SQ,sevalprocAttr,-List.reduceReplicate,fa,Ed,e1,eq_true hq3,t2,t3,eq_true w2,w4,w6,p1,qa,Dp,tidy,Dc,HA,mi,hz]
  rw[hin']
  simp -implicitDefEqProofs only[SP,SA,SQ,sevalprocAttr,-List.reduceReplicate,eq_true hq3,t2,t3,eq_true w12,w14,w16,eq_true w1,w3,w5,p2,qa,eq_true his,hk2,gj,tidy,Dc,HA,mi]
 |none=>
  have hk2:=hfd.2 hlk
  rw[hl2 hlk]
  simp -implicitDefEqProofs only[SP,SA,SQ,sevalprocAttr,-List.reduceReplicate,fa,Ed,e1,eq_true hq3,t2,t3,eq_true w2,w4,w6,p1,qa,Dp,tidy,Dc,HA,mi,hz]
  rw[hin']
  simp -implicitDefEqProofs only[SP,SA,SQ,sevalprocAttr,-List.reduceReplicate,eq_true hq3,t2,t3,eq_true w12,w14,w16,eq_true w1,w3,w5,p2,qa,eq_true his,hk2,gj,tidy,Dc,HA,mi,bR]
end
end Go.AM.B1
namespace Go.AM.B1
open Go.AM
structure tX (n:Nat) (s:zK):Prop where
 hC:s.C.length=n * 256
 hk:s.yc.length=n
 cC:∀ c∈s.C,c < n
 ck:∀ c∈s.yc,c < n
 cM:∀ p∈s.M,p.1.length=256∧p.2 < n
theorem BD {yc row:List Int} {i:Nat} {n:Int} (hn:0 < n) (hk:∀ c∈yc,c < n):∀ (xs:List Nat) (C:List Int),(∀ c∈C,c < n)→∀ c∈Hd yc row i xs C,c < n
 | [],C,h=>h
 |x::xs,C,h=>by
  rw[Hd]
  refine BD hn hk xs _ ?_
  split
  ·split
   ·intro c hc
    rcases List.mem_or_eq_of_mem_set hc with h1 | h1
    ·exact h c h1
    ·subst h1
     next to _ _=>
     rcases Nat.lt_or_ge to.toNat yc.length with h2 | h2
     ·rw[List.getD_eq_getElem?_getD,List.getElem?_eq_getElem h2];exact hk _ (List.getElem_mem h2)
     ·rw[List.getD_eq_getElem?_getD,List.getElem?_eq_none h2];exact hn
   ·exact h
  ·exact h
theorem dt {a:List Int}:∀ {M:List (List Int×Int)} {v:Int},Bk a M=some v→∃ p∈M,p.1=a∧p.2=v
 |p::r,v,h=>by
  rw[Bk] at h
  split at h
  ·next h1=>injection h with h;exact⟨p,by simp,h1.symm,h⟩
  ·obtain⟨q,hq,e⟩:=dt h
   exact⟨q,by simp[hq],e⟩
theorem HB {n i:Nat} {s:zK} (hi:i < n) (h:tX n s):tX n (bl i s):=by
 have hC2:(Hd s.yc (Wa s.C i) i (List.range 256) s.C).length=n * 256:=by rw[gm,h.hC]
 have hlt:=BD (i:=i) (row:=Wa s.C i) (n:=(n:Int)) (by omega) h.ck (List.range 256) s.C h.cC
 have hl1:=@Cr i s
 have hl2:=@Er i s
 generalize Hd s.yc (Wa s.C i) i (List.range 256) s.C=C2 at *
 cases hl:Bk (Wa C2 i) s.M with
 |some v=>
  obtain⟨p,hp,_,hv⟩:=dt hl
  have:=(h.cM p hp).2
  rw[hl1 hl]
  refine⟨hC2,by simp[h.hk],hlt,?_,h.cM⟩
  intro c hc
  rcases List.mem_or_eq_of_mem_set hc with h1 | h1
  ·exact h.ck c h1
  ·omega
 |none=>
  rw[hl2 hl]
  refine⟨hC2,by simp[h.hk],hlt,?_,?_⟩
  ·intro c hc
   rcases List.mem_or_eq_of_mem_set hc with h1 | h1
   ·exact h.ck c h1
   ·omega
  ·intro p hp
   rcases List.mem_append.1 hp with h1 | h1
   ·exact h.cM p h1
   ·simp at h1;subst h1;exact⟨Yh hC2 hi,by simp;omega⟩
theorem ED {n:Nat}:∀ (k:Nat) (s:zK),k≤n→tX n s→tX n (Fj k s)
 |0,s,_,h=>h
 |k+1,s,hk,h=>ED k _ (by omega) (HB (by omega) h)
def Ie (n:Nat) (C:List Int):zK:=Fj n ⟨C,List.replicate n 0,[]⟩
section
variable (call:Za) (R0 R1:ba) (S:PV) (nl nr nk:Bool) (sets:List Al) (C:List Int) (n:Nat)
theorem xL (s0:zK) (hn:n≤64) (h0:0 < n) (Aa:tX n s0):
 ∃ fr fk,(fr=0∨fr=n * 256)∧gb (fa (ta call Ed) (fun s=>some (tidy [0,3,4,5] s))) oa ⟨HA n ((n:Int) - 1),mi R0 R1 S nl nr 0 sets s0.C n [.seq 1 false (Ka s0.yc) 0 nk,.map (Vs s0.M)]⟩=
  some (.exit 0,⟨((HA n (-1)).set 23 (.pv (i64 (-1)))).set 24 (.pv (.bool false)),mi R0 R1 S nl nr fr sets (Fj n s0).C n [.seq 1 false (Ka (Fj n s0).yc) fk nk,.map (Vs (Fj n s0).M)]⟩)∧fk≤n:=by
 have key:=Wj (g:=fa (ta call Ed) (fun s=>some (tidy [0,3,4,5] s)))
  (fun j t=>∃ fr fk s,(fr=0∨fr=n * 256)∧fk≤n∧tX n s∧t=⟨HA n ((n:Int) - 1 - j),mi R0 R1 S nl nr fr sets s.C n [.seq 1 false (Ka s.yc) fk nk,.map (Vs s.M)]⟩∧Fj n s0=Fj (n - j) s)
  (fun ex t=>∃ fr fk,(fr=0∨fr=n * 256)∧fk≤n∧ex= .exit 0∧t=⟨((HA n (-1)).set 23 (.pv (i64 (-1)))).set 24 (.pv (.bool false)),mi R0 R1 S nl nr fr sets (Fj n s0).C n [.seq 1 false (Ka (Fj n s0).yc) fk nk,.map (Vs (Fj n s0).M)]⟩)
  oa n 0 ⟨HA n ((n:Int) - 1 - (0:Nat)),mi R0 R1 S nl nr 0 sets s0.C n [.seq 1 false (Ka s0.yc) 0 nk,.map (Vs s0.M)]⟩ (by unfold oa;omega) (by omega) ⟨0,0,s0,.inl rfl,by omega,Aa,rfl,rfl⟩ ?_ ?_
 ·obtain⟨ex,t,h,_,fr,fk,q1,q2,rfl,rfl⟩:=key
  rw[show ((n:Int) - 1 - (0:Nat))=(n:Int) - 1 by omega] at h
  exact⟨fr,fk,q1,h,q2⟩
 ·rintro j hj t ⟨fr,fk,s,hf,hfk,hs,rfl,hl⟩
  obtain⟨i,hi⟩:∃ i,n - j=i+1:=⟨n - j - 1,by omega⟩
  rw[hi,Fj] at hl
  obtain⟨fr',hf',hr⟩:=yJ call R0 R1 S nl nr nk fr fk sets n s i hs.hC hs.hk hf hfk (by omega) hn
   (fun to h=>hs.cC to (List.mem_of_mem_drop (List.mem_of_mem_take h))) (fun p hp=>(hs.cM p hp).1)
  rw[show ((n:Int) - 1 - (j:Int))=(i:Int) by omega]
  refine .inl ⟨_,hr,fr',n,bl i s,hf',by omega,HB (by omega) hs,?_,?_⟩
  ·rw[show ((n:Int) - 1 - ((j+1:Nat):Int))=(i:Int) - 1 by omega]
  ·rw[hl,show n - (j+1)=i by omega]
 ·rintro t ⟨fr,fk,s,hf,hfk,hs,rfl,hl⟩
  rw[Nat.sub_self,Fj] at hl
  rw[show ((n:Int) - 1 - (n:Int))= -1 by omega]
  refine⟨.exit 0,_,?_,rfl,fr,fk,hf,hfk,rfl,rfl⟩
  rw[hl]
  have e1:decide ((-1:Int)≥0)=false:=by decide
  simp -implicitDefEqProofs only[SP,SA,SQ,sevalprocAttr,-List.reduceReplicate,fa,Ed,e1,HA,mi]
theorem GG (n:Nat):Lj [PV.int .i64 0] n=Ka (List.replicate n 0):=by
 induction n with
 |zero=>rfl
 |succ n ih=>rw[Lj,ih];rfl
theorem UP (hn:n≤64) (h0:0 < n) (hs:sets.length=n) (hC:C.length=n * 256) (cC:∀ c∈C,c < n):
 ∃ fr fk v,(fr=0∨fr=n * 256)∧Ni call Hi [.ptr 3 0] (mi R0 R1 S nl nr 0 sets C n [])=
  some (v,mi R0 R1 S nl nr fr sets (Ie n C).C n [.seq 1 false (Ka (Ie n C).yc) fk false,.map (Vs (Ie n C).M)]):=by
 obtain⟨fr,fk,hf,hl,hfk⟩:=xL call R0 R1 S nl nr false sets n ⟨C,List.replicate n 0,[]⟩ hn h0
  ⟨hC,by simp,cC,by intro c hc;rw[List.eq_of_mem_replicate hc];omega,by simp⟩
 refine⟨fr,fk,.own 6 n,hf,?_⟩
 have hlen:(sets.map ri).length=n:=by rw[List.length_map,hs]
 have r0:Lj [PV.int .i64 0] n=Ka (List.replicate n 0):=GG n
 have t1:((n:Int)).toNat=n:=by simp
 have t2:IntKind.i64.wrap ((n:Int) - 1)=(n:Int) - 1:=Ba (by omega)
 have e1:(0≤(n:Int))=True:=by simp
 have e2:pb n 8:=by unfold pb;omega
 have e3:((n:Int)≤(n:Int))=True:=by simp
 unfold Ie
 generalize Fj n ⟨C,List.replicate n 0,[]⟩=g at *
 generalize List.replicate n (0:Int)=zs at *
 simp only[tidy,Dc,HA,mi,Vs,List.map_nil] at hl
 simp -implicitDefEqProofs only[SP,SA,SQ,sevalprocAttr,-List.reduceReplicate,Hi,hlen,r0,t1,t2,e1,eq_true e2,e3,Dp,tidy,Dc,mi]
 rw[hl]
 simp -implicitDefEqProofs only[SP,SA,SQ,sevalprocAttr,-List.reduceReplicate,mi,Vs]
end
end Go.AM.B1
namespace Go.AM.B1
open Go.AM
structure Oe where
 lo:Int
 hi:Int
 to:Int
deriving DecidableEq
def ry (e:Oe):PV:= .agg [i64 e.lo,i64 e.hi,i64 e.to]
def bd (l:List Oe):List Int:=l.flatMap fun e=>[e.lo,e.hi,e.to]
theorem Yj (l:List Oe):(bd l).length=l.length * 3:=by
 induction l with
 |nil=>rfl
 |cons e l ih=>simp only[bd,List.flatMap_cons,List.length_append,List.length_cons,List.length_nil] at ih ⊢;omega
theorem bm (l:List Oe) (e:Oe):bd (l++[e])=bd l++[e.lo,e.hi,e.to]:=by simp[bd]
def Qf (x to:Int) (l:List Oe):List Oe:=
 if to= -2 then l else match l.getLast? with
  |some e=>if e.to=to∧e.hi=x - 1 then l.dropLast++[⟨e.lo,x,e.to⟩] else l++[⟨x,x,to⟩]
  |none=>l++[⟨x,x,to⟩]
theorem uW (a b c:Int):Ka [a,b,c]=[.pv (i64 a),.pv (i64 b),.pv (i64 c)]:=rfl
theorem KD (a b:List Int):Ka (a++b)=Ka a++Ka b:=by simp[Ka]
abbrev Qt (row:List Int) (n:Nat) (x:Int):Tr:=((Tr.lf.set 8 (.pv (i64 x))).set 7 (.pv (yi row))).set 3 (.own 0 n)
theorem AE (l:List Int) (e:Oe) (k:Nat) (hk:k < 3):(Ka (l++[e.lo,e.hi,e.to]))[l.length+k]? =some (.pv (i64 (if k=0 then e.lo else if k=1 then e.hi else e.to))):=by
 rw[Ka,List.getElem?_map,List.getElem?_append_right (by omega),Nat.add_sub_cancel_left]
 match k,hk with
 |0,_=>rfl
 |1,_=>rfl
 |2,_=>rfl
section
variable (call:Za) (row:List Int) (x:Nat) (to:Int) (fl:Nat)
 (hx:x < 256) (hto:row[x]? =some to)
include hx hto
theorem xQ (l:List Oe) (nl:Bool) (h:to= -2):fa (ta call Uc) (fun s=>some (tidy [3,7,8] s)) ⟨Qt row l.length x,[.seq 3 true (Ka (bd l)) fl nl]⟩=
 some (.norm,⟨Qt row l.length (x+1:Nat),[.seq 3 true (Ka (bd l)) fl nl]⟩):=by
 have e1:decide ((x:Int) < 256)=true:=Da (by omega)
 have e2:(to== -2)=true:=by simp[h]
 have hq:Fa (x:Int) 256:=by unfold Fa;omega
 have t1:((x:Int)).toNat=x:=by simp
 have t2:=Ua (i:=x) (n:=256) hx (by unfold maxLen;omega)
 have ht:(row.map i64)[x]? =some (i64 to):=by rw[List.getElem?_map,hto];rfl
 simp -implicitDefEqProofs only[SP,SA,SQ,sevalprocAttr,fa,Uc,e1,e2,eq_true hq,t1,t2,ht,qa,tidy,Dc,Qt]
theorem rL (nl:Bool) (h:to≠ -2):fa (ta call Uc) (fun s=>some (tidy [3,7,8] s)) ⟨Qt row 0 x,[.seq 3 true [] 0 nl]⟩=
 some (.norm,⟨Qt row 1 (x+1:Nat),[.seq 3 true (Ka [(x:Int),x,to]) 0 false]⟩):=by
 have e1:decide ((x:Int) < 256)=true:=Da (by omega)
 have e2:(to== -2)=false:=ni h
 have hq:Fa (x:Int) 256:=by unfold Fa;omega
 have t1:((x:Int)).toNat=x:=by simp
 have t2:=Ua (i:=x) (n:=256) hx (by unfold maxLen;omega)
 have ht:(row.map i64)[x]? =some (i64 to):=by rw[List.getElem?_map,hto];rfl
 have q1:pb 1 24:=by unfold pb;omega
 simp -implicitDefEqProofs only[SP,SA,SQ,sevalprocAttr,fa,Uc,e1,e2,eq_true hq,t1,t2,ht,eq_true q1,qa,tidy,Dc,Qt,Bj,Zi,AV.cF,AV.Up,Ka]
variable (l:List Oe) (e:Oe) (hl:l.length < 256) (hfl:fl≤(l.length+1) * 3)
include hl hfl
theorem OO (h:to≠ -2) (h1:e.to=to) (h2:e.hi=(x:Int) - 1):fa (ta call Uc) (fun s=>some (tidy [3,7,8] s)) ⟨Qt row (l.length+1) x,[.seq 3 true (Ka (bd l++[e.lo,e.hi,e.to])) fl false]⟩=
 some (.norm,⟨Qt row (l.length+1) (x+1:Nat),[.seq 3 true (Ka (bd l++[e.lo,(x:Int),e.to])) ((l.length+1) * 3) false]⟩):=by
 have e1:decide ((x:Int) < 256)=true:=Da (by omega)
 have e2:(to== -2)=false:=ni h
 have hq:Fa (x:Int) 256:=by unfold Fa;omega
 have t1:((x:Int)).toNat=x:=by simp
 have t2:=Ua (i:=x) (n:=256) hx (by unfold maxLen;omega)
 have ht:(row.map i64)[x]? =some (i64 to):=by rw[List.getElem?_map,hto];rfl
 have e3:decide (((l.length+1:Nat):Int) > 0)=true:=Da (by omega)
 have t3:IntKind.i64.wrap (((l.length+1:Nat):Int) - 1)=(l.length:Int):=by rw[Ba (by omega)];omega
 have t4:((l.length:Int)).toNat=l.length:=by simp
 have t5:IntKind.i64.wrap ((x:Int) - 1)=(x:Int) - 1:=Ba (by omega)
 have hq2:Fa (l.length:Int) (l.length+1):=by unfold Fa;omega
 have hlen:(Ka (bd l++[e.lo,e.hi,e.to])).length=(l.length+1) * 3:=by rw[fb,List.length_append,Yj];simp;omega
 have w1:nh 3 (l.length+1) fl (Ka (bd l++[e.lo,e.hi,e.to])).length:=by rw[hlen];unfold nh;omega
 have w2:((Ka (bd l++[e.lo,e.hi,e.to])).length=(l.length+1) * 3)=True:=eq_true hlen
 have g2:=AE (bd l) e 2 (by omega)
 have g1:=AE (bd l) e 1 (by omega)
 rw[Yj] at g1 g2
 simp only[h1,h2] at g1 g2
 have b1:(to==to)=true:=by simp
 have b2:((x:Int) - 1==(x:Int) - 1)=true:=by simp
 have w3:(l.length * 3+1+1≤(l.length+1) * 3)=True:=eq_true (by omega)
 have hset:(Ka (bd l++[e.lo,(x:Int) - 1,to])).set (l.length * 3+1) (.pv (i64 x))=Ka (bd l++[e.lo,(x:Int),to]):=by
  rw[gj,←Yj,List.set_append_right _ _ (by omega),Nat.add_sub_cancel_left];rfl
 rw[h1,h2] at *
 generalize bd l++[e.lo,(x:Int) - 1,to]=cs at *
 simp -implicitDefEqProofs only[SP,SA,SQ,sevalprocAttr,fa,Uc,e1,e2,e3,eq_true hq,eq_true hq2,t1,t2,t3,t4,t5,ht,g1,g2,eq_true w1,w2,w3,b1,b2,hset,qa,tidy,Dc,Qt]
theorem qP (h:to≠ -2) (h1:¬(e.to=to∧e.hi=(x:Int) - 1)):fa (ta call Uc) (fun s=>some (tidy [3,7,8] s)) ⟨Qt row (l.length+1) x,[.seq 3 true (Ka (bd l++[e.lo,e.hi,e.to])) fl false]⟩=
 some (.norm,⟨Qt row (l.length+1+1) (x+1:Nat),[.seq 3 true (Ka (bd l++[e.lo,e.hi,e.to])++Ka [(x:Int),x,to]) fl false]⟩):=by
 have e1:decide ((x:Int) < 256)=true:=Da (by omega)
 have e2:(to== -2)=false:=ni h
 have hq:Fa (x:Int) 256:=by unfold Fa;omega
 have t1:((x:Int)).toNat=x:=by simp
 have t2:=Ua (i:=x) (n:=256) hx (by unfold maxLen;omega)
 have ht:(row.map i64)[x]? =some (i64 to):=by rw[List.getElem?_map,hto];rfl
 have e3:decide (((l.length+1:Nat):Int) > 0)=true:=Da (by omega)
 have t3:IntKind.i64.wrap (((l.length+1:Nat):Int) - 1)=(l.length:Int):=by rw[Ba (by omega)];omega
 have t4:((l.length:Int)).toNat=l.length:=by simp
 have t5:IntKind.i64.wrap ((x:Int) - 1)=(x:Int) - 1:=Ba (by omega)
 have hq2:Fa (l.length:Int) (l.length+1):=by unfold Fa;omega
 have hlen:(Ka (bd l++[e.lo,e.hi,e.to])).length=(l.length+1) * 3:=by rw[fb,List.length_append,Yj];simp;omega
 have w1:nh 3 (l.length+1) fl (Ka (bd l++[e.lo,e.hi,e.to])).length:=by rw[hlen];unfold nh;omega
 have w2:((Ka (bd l++[e.lo,e.hi,e.to])).length=(l.length+1) * 3)=True:=eq_true hlen
 have w2':((l.length+1) * 3=(Ka (bd l++[e.lo,e.hi,e.to])).length)=True:=eq_true hlen.symm
 have g2:(Ka (bd l++[e.lo,e.hi,e.to]))[(bd l).length+2]? =some (.pv (i64 e.to)):=AE (bd l) e 2 (by omega)
 have g1:(Ka (bd l++[e.lo,e.hi,e.to]))[(bd l).length+1]? =some (.pv (i64 e.hi)):=AE (bd l) e 1 (by omega)
 rw[Yj] at g1 g2
 have q1:pb (l.length+1+1) 24:=by unfold pb;omega
 generalize bd l++[e.lo,e.hi,e.to]=cs at *
 by_cases hb1:e.to=to
 ·have b1:(e.to==to)=true:=by simp[hb1]
  have b2:(e.hi==(x:Int) - 1)=false:=ni fun hh=>h1 ⟨hb1,hh⟩
  simp -implicitDefEqProofs only[SP,SA,SQ,sevalprocAttr,fa,Uc,e1,e2,e3,eq_true hq,eq_true hq2,t1,t2,t3,t4,t5,ht,g1,g2,eq_true w1,w2,w2',eq_true q1,b1,b2,qa,tidy,Dc,Qt,Bj,Zi,AV.cF,AV.Up,uW]
 ·have b1:(e.to==to)=false:=ni hb1
  simp -implicitDefEqProofs only[SP,SA,SQ,sevalprocAttr,fa,Uc,e1,e2,e3,eq_true hq,eq_true hq2,t1,t2,t3,t4,t5,ht,g1,g2,eq_true w1,w2,w2',eq_true q1,b1,qa,tidy,Dc,Qt,Bj,Zi,AV.cF,AV.Up,uW]
end
end Go.AM.B1
namespace Go.AM.B1
open Go.AM
def ye (row:List Int):List Nat→List Oe→List Oe
 | [],l=>l
 |x::xs,l=>ye row xs (Qf x (row.getD x 0) l)
def Wf (row:List Int):List Oe:=ye row (List.range 256) []
def ee (l:List Oe):PV:=if l.isEmpty then .pa else .lit 3 (l.map ry)
theorem Dy (x:Int) (l:List Oe):Qf x (-2) l=l:=by simp[Qf]
theorem jw {x to:Int} (h:to≠ -2):Qf x to []=[⟨x,x,to⟩]:=by simp[Qf,h]
theorem qy {x:Int} {l:List Oe} {e:Oe} (h:e.to≠ -2) (h2:e.hi=x - 1):Qf x e.to (l++[e])=l++[⟨e.lo,x,e.to⟩]:=by simp[Qf,h,h2]
theorem Su {x to:Int} {l:List Oe} {e:Oe} (h:to≠ -2) (h2:¬(e.to=to∧e.hi=x - 1)):Qf x to (l++[e])=l++[e]++[⟨x,x,to⟩]:=by
 simp only[Qf,if_neg h,List.getLast?_append,List.getLast?_singleton,Option.some_or,if_neg h2]
theorem OG (H:List ba) (d:Nat) (l:List Int):Qa (Ub H d) (Ka l)=some (l.map i64):=by
 induction l with
 |nil=>rfl
 |cons a l ih=>simp only[Ka,List.map_cons,Qa,Fe,Option.bind_some] at ih ⊢;rw[ih];rfl
theorem RM:∀ (l:List Oe),chunk 3 true l.length ((bd l).map i64)=l.map ry
 | []=>rfl
 |e::l=>by
  have:=RM l
  rw[List.length_cons,chunk]
  simp only[bd,List.flatMap_cons,List.cons_append,List.nil_append,List.map_cons,List.take,List.drop,if_true] at this ⊢
  rw[this];rfl
theorem oL (H:List ba) (id:Nat) (l:List Oe) (fl:Nat) (h:H[id]? =some (.seq 3 true (Ka (bd l)) fl l.isEmpty)):Ub H deep (.own id l.length)=some (ee l):=by
 have hl:(l.length * 3=(Ka (bd l)).length)=True:=by rw[fb,Yj];exact eq_self _
 rw[Db]
 simp only[Ub,h,hl,Bool.true_or,and_self,if_true]
 unfold ee
 cases hn:l.isEmpty with
 |true=>rfl
 |false=>simp only[Bool.false_eq_true,if_false,OG,Option.map_some,RM]
section
variable (row:List Int) (hrow:row.length=256)
include hrow
theorem mL (call:Za):∃ fl,gb (fa (ta call Uc) (fun s=>some (tidy [3,7,8] s))) oa ⟨Qt row 0 0,[.seq 3 true [] 0 true]⟩=
 some (.exit 0,⟨(Qt row (Wf row).length 256).set 9 (.pv (.bool false)),[.seq 3 true (Ka (bd (Wf row))) fl (Wf row).isEmpty]⟩):=by
 unfold Wf
 generalize hxs:List.range 256=xs
 have key:=Wj (g:=fa (ta call Uc) (fun s=>some (tidy [3,7,8] s)))
  (fun x t=>∃ fl l,fl≤l.length * 3∧l.length≤x∧t=⟨Qt row l.length x,[.seq 3 true (Ka (bd l)) fl l.isEmpty]⟩∧ye row xs []=ye row (xs.drop x) l)
  (fun ex t=>∃ fl,ex= .exit 0∧t=⟨(Qt row (ye row xs []).length 256).set 9 (.pv (.bool false)),[.seq 3 true (Ka (bd (ye row xs []))) fl (ye row xs []).isEmpty]⟩)
  oa 256 0 ⟨Qt row 0 (0:Nat),[.seq 3 true [] 0 true]⟩ (by unfold oa;omega) (by omega) ⟨0,[],by simp,by simp,rfl,rfl⟩ ?_ ?_
 ·obtain⟨ex,t,h,_,fl,rfl,rfl⟩:=key
  exact⟨fl,h⟩
 ·rintro x hx t ⟨fl,l,hf,hlx,rfl,hl⟩
  have hd:=Yp hx
  rw[hxs] at hd
  obtain⟨to,ht⟩:∃ to,row[x]? =some to:=⟨row[x],by simp[hrow,hx]⟩
  have hgd:row.getD x 0=to:=by simp[List.getD_eq_getElem?_getD,ht]
  rw[hd,ye,hgd] at hl
  by_cases h2:to= -2
  ·rw[h2,Dy] at hl
   exact .inl ⟨_,xQ call row x to fl hx ht l _ h2,fl,l,hf,by omega,rfl,hl⟩
  rcases List.eq_nil_or_concat l with rfl | ⟨l',e,rfl⟩
  ·rw[jw h2] at hl
   have hf0:fl=0:=by simpa using hf
   subst hf0
   exact .inl ⟨_,rL call row x to hx ht true h2,0,[⟨x,x,to⟩],by simp,by simp,rfl,hl⟩
  ·simp only[List.concat_eq_append] at *
   have hem:(l'++[e]).isEmpty=false:=by simp
   have hlen:(l'++[e]).length=l'.length+1:=by simp
   rw[hlen] at hf hlx
   rw[hem,hlen,bm]
   by_cases h3:e.to=to∧e.hi=(x:Int) - 1
   ·obtain⟨h3,h4⟩:=h3
    rw[← h3,qy (by rw[h3];exact h2) h4] at hl
    refine .inl ⟨_,OO call row x to fl hx ht l' e (by omega) hf h2 h3 h4,(l'.length+1) * 3,l'++[⟨e.lo,x,e.to⟩],by simp,by simp;omega,?_,hl⟩
    rw[bm];simp
   ·rw[Su h2 h3] at hl
    refine .inl ⟨_,qP call row x to fl hx ht l' e (by omega) hf h2 h3,fl,_,?_,?_,?_,hl⟩
    ·simp;omega
    ·simp;omega
    ·rw[bm,bm,KD];simp[Ka]
 ·rintro t ⟨fl,l,hf,hlx,rfl,hl⟩
  rw[List.drop_eq_nil_of_le (by rw[← hxs,List.length_range];exact Nat.le_refl _)] at hl
  refine⟨.exit 0,_,?_,rfl,fl,rfl,rfl⟩
  rw[hl]
  have e1:decide (((256:Nat):Int) < 256)=false:=by decide
  simp -implicitDefEqProofs only[SP,SA,SQ,sevalprocAttr,fa,Uc,e1,Qt,ye]
theorem vQ:Np [yi row]=some (ee (Wf row)):=by
 obtain⟨fl,hl⟩:=mL row hrow (Ga (fun _=>none) 8)
 have ht:=oL [.seq 3 true (Ka (bd (Wf row))) fl (Wf row).isEmpty] 0 (Wf row) fl rfl
 have h9:(row.map i64).map AV.pv=Ka row:=(Ys row).symm
 have p0:((Ka row).length=256)=True:=by rw[fb,hrow];exact eq_self _
 have p1:(256≤(Ka row).length)=True:=by rw[fb,hrow];exact eq_true (Nat.le_refl _)
 have p2:List.take 256 (Ka row)=Ka row:=List.take_of_length_le (by rw[fb,hrow];exact Nat.le_refl _)
 have p3:=Rt row
 have p5:=bE row
 have p6:=OG [] 0 row
 have p8:List.take 256 (row.map i64)=row.map i64:=List.take_of_length_le (by rw[List.length_map,hrow];exact Nat.le_refl _)
 have p7:(256≤(row.map i64).length)=True:=by rw[List.length_map,hrow];exact eq_true (Nat.le_refl _)
 have p4:((row.map i64).length=256)=True:=by rw[List.length_map,hrow];exact eq_self _
 generalize Wf row=es at *
 simp only[tidy,Dc,Qt] at hl
 simp -implicitDefEqProofs only[Np,SP,SA,SQ,sevalprocAttr,Xu,h9,p0,p1,p2,p3,p4,p5,p6,p7,p8,Vf,Dp,tidy,Dc]
 rw[hl]
 simp -implicitDefEqProofs only[SP,SA,SQ,sevalprocAttr,ht]
end
end Go.AM.B1
namespace Go.AM.B1
open Go.AM
def Ft (a:Int):List Int→Nat→Option Nat
 | [],_=>none
 |b::l,k=>if a=b then some k else Ft a l (k+1)
def CK (l:List Int) (k:Nat):List (PV×PV):=(l.zipIdx k).map fun p=>(i64 p.1,i64 p.2)
theorem GA (a:Int) (l:List Int) (k:Nat):CK (a::l) k=(i64 a,i64 k)::CK l (k+1):=rfl
theorem YF (a:Int):∀ (l:List Int) (k:Nat),CK (l++[a]) k=CK l k++[(i64 a,i64 (k+l.length:Nat))]
 | [],k=>by simp[CK]
 |b::l,k=>by rw[List.cons_append,GA,YF a l (k+1),GA];simp;omega
theorem bO {a:Int}:∀ {l:List Int} {k i:Nat},Ft a l k=some i→k≤i
 |b::l,k,i,h=>by
  simp only[Ft] at h
  split at h
  ·injection h with h;omega
  ·have:=bO h;omega
theorem aL (a:Int):∀ (l:List Int) (k j:Nat),tm (.one 1) (i64 a) (CK l k) j=some ((Ft a l k).map fun i=>(j+(i - k),i64 i)):=by
 intro l
 induction l with
 |nil=>intro k j;rfl
 |cons b l ih=>
  intro k j
  have he:gk (.one 1) (i64 a) (i64 b)=some (decide (a=b)):=by
   show (if IntKind.i64=IntKind.i64 then some (a==b) else none)=_
   rw[if_pos rfl]
   congr 1
  rw[GA,tm,he]
  simp only[Option.bind_some,Ft]
  by_cases h:a=b
  ·simp[h]
  ·rw[if_neg h,ih]
   simp only[h,decide_false,Bool.false_eq_true,if_false,Option.some.injEq]
   cases hi:Ft a l (k+1) with
   |none=>rfl
   |some i=>
    have:=bO hi
    simp only[Option.map_some,Option.some.injEq,Prod.mk.injEq,and_true]
    omega
theorem TD (a:Int):(gk (.one 1) (i64 a) (i64 a)).isSome=true:=rfl
abbrev Dn (R0 R1:ba) (S:PV) (nl nr:Bool) (fr:Nat) (sets:List Al) (C:List Int) (n:Nat) (L M:ba) (O:List Int) (out:List PV) (no:Bool) (T:List ba):List ba:=
 mi R0 R1 S nl nr fr sets C n (L::M:: .box [.pv .pa]:: .map (CK O 0):: .tok 1 O.length false:: .box [.uq 12 no 1 out]:: .tok 1 out.length no::T)
abbrev Gx (q:Nat) (k:Int) (O:List Int) (eb:List Int) (x:Int):Tr:=
 (((((((((Tr.lf.set 32 (.pv (i64 x))).set 31 (.pv (yi eb))).set 7 (.ptr q 0)).set 6 (.pv (i64 k))).set 5 (.ptr 11 0)).set 4 (.uq 10 false 1 (O.map i64))).set 3 (.mp 9)).set 2 (.ptr 8 0)).set 0 (.ptr 3 0))
def Si (x:Nat) (to:Int) (r:List Int×List Int):List Int×List Int:=
 if to < 0 then r else match Ft to r.1 0 with
  |some k=>(r.1,r.2.set x k)
  |none=>(r.1++[to],r.2.set x r.1.length)
section
variable (call:Za) (R0 R1:ba) (S:PV) (nl nr:Bool) (fr:Nat) (sets:List Al) (C:List Int) (n:Nat) (L M:ba) (O:List Int) (out:List PV) (no:Bool) (J:List ba)
 (k:Int) (eb row:List Int) (x:Nat) (to:Int) (q:Nat) (hx:x < 256) (hto:eb[x]? =some to)
include hx hto
theorem MO (h:to < 0):
 fa (ta call oc) (fun s=>some (tidy [0,2,3,4,5,6,7,31,32] s)) ⟨Gx q k O eb x,Dn R0 R1 S nl nr fr sets C n L M O out no (J++[.box (Ka row)])⟩=
  some (.norm,⟨Gx q k O eb (x+1:Nat),Dn R0 R1 S nl nr fr sets C n L M O out no (J++[.box (Ka row)])⟩):=by
 have e1:decide ((x:Int) < 256)=true:=Da (by omega)
 have e2:decide (to < 0)=true:=Da (by omega)
 have hq:Fa (x:Int) 256:=by unfold Fa;omega
 have t1:((x:Int)).toNat=x:=by simp
 have t2:=Ua (i:=x) (n:=256) hx (by unfold maxLen;omega)
 have ht:(eb.map i64)[x]? =some (i64 to):=by rw[List.getElem?_map,hto];rfl
 simp -implicitDefEqProofs only[SP,SA,SQ,sevalprocAttr,-List.reduceReplicate,fa,oc,e1,e2,eq_true hq,t1,t2,ht,qa,tidy,Dc,Gx,Dn,mi]
theorem BS (hq13:q=J.length+1+1+1+1+1+1+1+1+1+1+1+1+1) (hrow:row.length=256) (h:¬to < 0) {j:Nat} (hj:Ft to O 0=some j):
 fa (ta call oc) (fun s=>some (tidy [0,2,3,4,5,6,7,31,32] s)) ⟨Gx q k O eb x,Dn R0 R1 S nl nr fr sets C n L M O out no (J++[.box (Ka row)])⟩=
  some (.norm,⟨Gx q k O eb (x+1:Nat),Dn R0 R1 S nl nr fr sets C n L M O out no (J++[.box (Ka (row.set x j))])⟩):=by
 have e1:decide ((x:Int) < 256)=true:=Da (by omega)
 have e2:decide (to < 0)=false:=Ha (by omega)
 have hq:Fa (x:Int) 256:=by unfold Fa;omega
 have t1:((x:Int)).toNat=x:=by simp
 have t2:=Ua (i:=x) (n:=256) hx (by unfold maxLen;omega)
 have ht:(eb.map i64)[x]? =some (i64 to):=by rw[List.getElem?_map,hto];rfl
 have hf:=aL to O 0 0
 rw[hj] at hf
 simp only[Option.map_some] at hf
 have his:=TD to
 have hle:(x+1≤(Ka row).length)=True:=by rw[fb];exact eq_true (by omega)
 subst hq13
 simp -implicitDefEqProofs only[SP,SA,SQ,sevalprocAttr,-List.reduceReplicate,fa,oc,e1,e2,eq_true hq,t1,t2,ht,hf,eq_true his,hle,gj,No,vo,qa,tidy,Dc,Gx,Dn,mi]
theorem fS (hq13:q=J.length+1+1+1+1+1+1+1+1+1+1+1+1+1) (hrow:row.length=256) (h:¬to < 0) (hj:Ft to O 0=none) (hO:O.length < 100):
 fa (ta call oc) (fun s=>some (tidy [0,2,3,4,5,6,7,31,32] s)) ⟨Gx q k O eb x,Dn R0 R1 S nl nr fr sets C n L M O out no (J++[.box (Ka row)])⟩=
  some (.norm,⟨Gx q k (O++[to]) eb (x+1:Nat),Dn R0 R1 S nl nr fr sets C n L M (O++[to]) out no (J++[.box (Ka (row.set x O.length))])⟩):=by
 have e1:decide ((x:Int) < 256)=true:=Da (by omega)
 have e2:decide (to < 0)=false:=Ha (by omega)
 have hq:Fa (x:Int) 256:=by unfold Fa;omega
 have t1:((x:Int)).toNat=x:=by simp
 have t2:=Ua (i:=x) (n:=256) hx (by unfold maxLen;omega)
 have ht:(eb.map i64)[x]? =some (i64 to):=by rw[List.getElem?_map,hto];rfl
 have hf:=aL to O 0 0
 rw[hj] at hf
 simp only[Option.map_none] at hf
 have his:=TD to
 have hle:(x+1≤(Ka row).length)=True:=by rw[fb];exact eq_true (by omega)
 have hlen:(O.map i64).length=O.length:=by simp
 have q1:pb (O.length+1) 8:=by unfold pb;omega
 have hp:=YF to O 0
 rw[Nat.zero_add] at hp
 have hlen2:(O++[to]).length=O.length+1:=by simp
 have hmap:(O++[to]).map i64=O.map i64++[i64 to]:=by simp
 subst hq13
 unfold Gx Dn
 rw[hp,hlen2,hmap]
 simp -implicitDefEqProofs only[SP,SA,SQ,sevalprocAttr,-List.reduceReplicate,fa,oc,e1,e2,eq_true hq,t1,t2,ht,hf,eq_true his,hle,hlen,eq_true q1,gj,No,vo,qa,tidy,Dc,mi,Zi,AV.cF,AV.Up]
end
end Go.AM.B1
namespace Go.AM.B1
open Go.AM
def nv (n:Nat) (O:List Int):Prop:=O.Nodup∧∀ o∈O,0≤o∧o < (n:Int)
theorem KA:∀ (n:Nat) (O:List Int),O.Nodup→(∀ o∈O,0≤o∧o < (n:Int))→O.length≤n
 |0,O,_,h=>by
  cases O with
  |nil=>simp
  |cons a O=>have:=h a (by simp);omega
 |n+1,O,hd,h=>by
  have ih:=KA n (O.erase n) (hd.erase _) (fun o ho=>by
   have h1:=h o (List.mem_of_mem_erase ho)
   have h2:o≠n:=(hd.mem_erase_iff.1 ho).1
   omega)
  rw[List.length_erase] at ih
  split at ih <;> omega
theorem nv.len {n:Nat} {O:List Int} (h:nv n O):O.length≤n:=KA n O h.1 h.2
theorem sA {a:Int}:∀ {l:List Int} {k:Nat},Ft a l k=none→a ∉ l
 | [],_,_=>by simp
 |b::l,k,h=>by
  simp only[Ft] at h
  split at h
  ·cases h
  ·next hne=>simp only[List.mem_cons,not_or];exact⟨hne,sA h⟩
def Gd (eb:List Int):List Nat→List Int×List Int→List Int×List Int
 | [],r=>r
 |x::xs,r=>Gd eb xs (Si x (eb.getD x 0) r)
theorem bT {n:Nat} {x:Nat} {to:Int} {r:List Int×List Int} (hto:to < n) (h:nv n r.1):nv n (Si x to r).1∧(Si x to r).2.length=r.2.length∧∃ t,(Si x to r).1=r.1++t:=by
 unfold Si
 by_cases h0:to < 0
 ·rw[if_pos h0];exact⟨h,rfl,[],by simp⟩
 ·rw[if_neg h0]
  cases hi:Ft to r.1 0 with
  |some k=>exact⟨h,by simp,[],by simp⟩
  |none=>
   have hn:=sA hi
   refine⟨⟨?_,?_⟩,by simp,[to],rfl⟩
   ·simp only[List.nodup_append,h.1,true_and]
    refine⟨by simp,?_⟩
    intro a ha b hb
    simp at hb;subst hb
    intro e;subst e;exact hn ha
   ·intro o ho
    rcases List.mem_append.1 ho with h1 | h1
    ·exact h.2 o h1
    ·simp at h1;subst h1;omega
section
variable (call:Za) (R0 R1:ba) (S:PV) (nl nr:Bool) (fr:Nat) (sets:List Al) (C:List Int) (n:Nat) (L M:ba)
theorem qM (O:List Int) (out:List PV) (no:Bool) (J:List ba) (k:Int) (eb:List Int) (q:Nat) (hq13:q=J.length+1+1+1+1+1+1+1+1+1+1+1+1+1)
 (hO:nv n O) (hn:n≤64) (hrow:eb.length=256) (hto:∀ to∈eb,to < n):
 gb (fa (ta call oc) (fun s=>some (tidy [0,2,3,4,5,6,7,31,32] s))) oa ⟨Gx q k O eb 0,Dn R0 R1 S nl nr fr sets C n L M O out no (J++[.box (Ka eb)])⟩=
  some (.exit 2,⟨(Gx q k (Gd eb (List.range 256) (O,eb)).1 eb 256).set 33 (.pv (.bool false)),
   Dn R0 R1 S nl nr fr sets C n L M (Gd eb (List.range 256) (O,eb)).1 out no (J++[.box (Ka (Gd eb (List.range 256) (O,eb)).2)])⟩)∧
  nv n (Gd eb (List.range 256) (O,eb)).1∧(Gd eb (List.range 256) (O,eb)).2.length=256∧∃ t,(Gd eb (List.range 256) (O,eb)).1=O++t:=by
 generalize hxs:List.range 256=xs
 have key:=Wj (g:=fa (ta call oc) (fun s=>some (tidy [0,2,3,4,5,6,7,31,32] s)))
  (fun x t=>∃ r,nv n r.1∧r.2.length=256∧(∃ t,r.1=O++t)∧t=⟨Gx q k r.1 eb x,Dn R0 R1 S nl nr fr sets C n L M r.1 out no (J++[.box (Ka r.2)])⟩∧Gd eb xs (O,eb)=Gd eb (xs.drop x) r)
  (fun ex t=>ex= .exit 2∧t=⟨(Gx q k (Gd eb xs (O,eb)).1 eb 256).set 33 (.pv (.bool false)),Dn R0 R1 S nl nr fr sets C n L M (Gd eb xs (O,eb)).1 out no (J++[.box (Ka (Gd eb xs (O,eb)).2)])⟩∧
   nv n (Gd eb xs (O,eb)).1∧(Gd eb xs (O,eb)).2.length=256∧∃ t,(Gd eb xs (O,eb)).1=O++t)
  oa 256 0 ⟨Gx q k O eb (0:Nat),Dn R0 R1 S nl nr fr sets C n L M O out no (J++[.box (Ka eb)])⟩ (by unfold oa;omega) (by omega) ⟨(O,eb),hO,hrow,⟨[],by simp⟩,rfl,rfl⟩ ?_ ?_
 ·obtain⟨ex,t,h,_,rfl,rfl,q1,q2⟩:=key
  exact⟨h,q1,q2⟩
 ·rintro x hx t ⟨⟨O',row⟩,hO',hr',⟨tl,htl⟩,rfl,hl⟩
  have hd:=Yp hx
  rw[hxs] at hd
  obtain⟨to,ht⟩:∃ to,eb[x]? =some to:=⟨eb[x],by simp[hrow,hx]⟩
  have hgd:eb.getD x 0=to:=by simp[List.getD_eq_getElem?_getD,ht]
  have hlt:=hto to (List.mem_of_getElem? ht)
  rw[hd,Gd,hgd] at hl
  have Aa:=bT (x:=x) (r:=(O',row)) hlt hO'
  refine .inl ⟨_,?_,Si x to (O',row),Aa.1,by rw[Aa.2.1];exact hr',?_,rfl,hl⟩
  ·by_cases h0:to < 0
   ·have e:Si x to (O',row)=(O',row):=by simp[Si,h0]
    rw[e]
    exact MO call R0 R1 S nl nr fr sets C n L M O' out no J k eb row x to q hx ht h0
   ·have hlen:=hO'.len
    cases hi:Ft to O' 0 with
    |some j=>
     have e:Si x to (O',row)=(O',row.set x j):=by simp[Si,h0,hi]
     rw[e]
     exact BS call R0 R1 S nl nr fr sets C n L M O' out no J k eb row x to q hx ht hq13 hr' h0 hi
    |none=>
     have e:Si x to (O',row)=(O'++[to],row.set x O'.length):=by simp[Si,h0,hi]
     rw[e]
     exact fS call R0 R1 S nl nr fr sets C n L M O' out no J k eb row x to q hx ht hq13 hr' h0 hi (by simp only at hlen;omega)
  ·obtain⟨t2,h2⟩:=Aa.2.2
   exact⟨tl++t2,by rw[h2,←List.append_assoc,←htl]⟩
 ·rintro t ⟨⟨O',row⟩,hO',hr',htl,rfl,hl⟩
  rw[List.drop_eq_nil_of_le (by rw[← hxs,List.length_range];exact Nat.le_refl _),Gd] at hl
  rw[hl]
  refine⟨.exit 2,_,?_,rfl,rfl,rfl,hO',hr',htl⟩
  have e1:decide (((256:Nat):Int) < 256)=false:=by decide
  simp -implicitDefEqProofs only[SP,SA,SQ,sevalprocAttr,-List.reduceReplicate,fa,oc,e1,Gx]
abbrev mA (k:Int) (O:List Int):Tr:=
 ((((((Tr.lf.set 6 (.pv (i64 k))).set 5 (.ptr 11 0)).set 4 (.uq 10 false 1 (O.map i64))).set 3 (.mp 9)).set 2 (.ptr 8 0)).set 0 (.ptr 3 0))
def dg (C:List Int) (o:Int) (O:List Int):List Int×List Int:=Gd (Wa C o.toNat) (List.range 256) (O,Wa C o.toNat)
theorem MM (O:List Int) (out:List PV) (no:Bool) (J:List ba) (k:Nat) (o:Int)
 (hC:C.length=n * 256) (cC:∀ c∈C,c < n) (hfr:fr≤n * 256) (hO:nv n O) (hn:n≤64) (hk:O[k]? =some o) (hout:out.length=k):
 fa (ta call Yc) (fun s=>some (tidy [0,2,3,4,5,6] s)) ⟨mA k O,Dn R0 R1 S nl nr fr sets C n L M O out no J⟩=
  some (.norm,⟨mA (k+1:Nat) (dg C o O).1,Dn R0 R1 S nl nr fr sets C n L M (dg C o O).1 (out++[ee (Wf (dg C o O).2)]) false (J++[.box (Ka (dg C o O).2)])⟩)∧
  nv n (dg C o O).1∧∃ t,(dg C o O).1=O++t:=by
 have hom:=hO.2 o (List.mem_of_getElem? hk)
 have hkl:=(List.getElem?_eq_some_iff.1 hk).1
 have hOl:=hO.len
 have hoi:o.toNat < n:=by omega
 have hr0:=Yh hC hoi
 obtain⟨hin,g1,g2,g3⟩:=qM call R0 R1 S nl nr fr sets C n L M O out no J k (Wa C o.toNat) _ rfl hO hn hr0 (fun to h=>cC to (List.mem_of_mem_drop (List.mem_of_mem_take h)))
 refine⟨?_,g1,g3⟩
 unfold dg
 generalize Gd (Wa C o.toNat) (List.range 256) (O,Wa C o.toNat)=r at *
 obtain⟨O',row'⟩:=r
 simp only at g1 g2 g3 hin
 have hed:=vQ row' g2
 have hlen:(O.map i64).length=O.length:=by simp
 have e1:decide ((k:Int) < (O.length:Int))=true:=Da (by omega)
 have t1:((k:Int)).toNat=k:=by simp
 have hq1:Fa (k:Int) O.length:=by unfold Fa;omega
 have hg:(O.map i64)[k]? =some (i64 o):=by rw[List.getElem?_map,hk];rfl
 have hq3:Fa o n:=by unfold Fa;omega
 have w2:nh 256 n fr (Ka C).length:=by rw[fb];unfold nh;omega
 have w4:((Ka C).length=n * 256)=True:=by rw[fb];exact eq_true hC
 have w6:(o.toNat * 256+256≤(Ka C).length)=True:=by rw[fb];exact eq_true (by omega)
 have p1:=bD C o.toNat
 have t2:=Ua (i:=k) (n:=64) (by omega) (by unfold maxLen;omega)
 have h9:((Wa C o.toNat).map i64).map AV.pv=Ka (Wa C o.toNat):=(Ys _).symm
 have hz:=EW
 have p5:(256≤(Ka (List.replicate 256 0)).length)=True:=by rw[fb,List.length_replicate];exact eq_true (Nat.le_refl _)
 have p6:na (Ka (List.replicate 256 0)) 0 (Ka (Wa C o.toNat))=Ka (Wa C o.toNat):=by
  have:=Cy (Ka (Wa C o.toNat)) (Ka (List.replicate 256 0)) [] (by rw[fb,fb,hr0,List.length_replicate])
  rw[List.nil_append,List.nil_append] at this;exact this
 generalize hzs:List.replicate 256 (0:Int)=zs at *
 generalize Wa C o.toNat=eb at *
 have r0:((Ka eb).length=256)=True:=by rw[fb,hr0];exact eq_self _
 have r1:(256≤(Ka eb).length)=True:=by rw[fb,hr0];exact eq_true (Nat.le_refl _)
 have r2:List.take 256 (Ka eb)=Ka eb:=List.take_of_length_le (by rw[fb,hr0];exact Nat.le_refl _)
 have r3:=Rt eb
 have r5:=bE eb
 have s1:(256≤(Ka row').length)=True:=by rw[fb,g2];exact eq_true (Nat.le_refl _)
 have s2:List.take 256 (Ka row')=Ka row':=List.take_of_length_le (by rw[fb,g2];exact Nat.le_refl _)
 have s3:=Rt row'
 have q1:pb (out.length+1) 24:=by unfold pb;omega
 have hlen2:(out++[ee (Wf row')]).length=out.length+1:=by simp
 unfold Dn
 rw[hlen2]
 have hcs:(∃ l,ee (Wf row')= .lit 3 l)∨ee (Wf row')= .pa:=by unfold ee;split;exact .inr rfl;exact .inl ⟨_,rfl⟩
 generalize ee (Wf row')=ed at *
 simp only[Gx,Dn,mi,tidy,Dc] at hin
 simp -implicitDefEqProofs only[SP,SA,SQ,sevalprocAttr,-List.reduceReplicate,fa,Yc,hlen,e1,eq_true hq1,eq_true hq3,t1,hg,eq_true w2,w4,w6,p1,h9,hz,p5,p6,r0,r1,r2,r3,r5,No,vo,qa,Dp,tidy,Dc,mA,mi]
 rw[hin]
 rcases hcs with⟨l,rfl⟩ | rfl <;>
 simp -implicitDefEqProofs only[SP,SA,SQ,sevalprocAttr,-List.reduceReplicate,t2,s1,s2,s3,hed,Fe,Db,eq_true q1,No,vo,qa,tidy,Dc,mA,mi,Zi,AV.cF,AV.Up]
def wj (C:List Int):Nat→List Int×List (List Oe)→List Int×List (List Oe)
 |0,r=>r
 |f+1,r=>match r.1[r.2.length]? with
  |none=>r
  |some o=>wj C f ((dg C o r.1).1,r.2++[Wf (dg C o r.1).2])
theorem Gq {C:List Int} {f:Nat} {r:List Int×List (List Oe)} (h:r.1[r.2.length]? =none):wj C f r=r:=by
 cases f with
 |zero=>rfl
 |succ f=>rw[wj,h]
theorem br {C:List Int} {f:Nat} {r:List Int×List (List Oe)} {o:Int} (h:r.1[r.2.length]? =some o):wj C (f+1) r=wj C f ((dg C o r.1).1,r.2++[Wf (dg C o r.1).2]):=by
 rw[wj,h]
def rn (C:List Int):List (List Oe):=(wj C 64 ([0],[])).2
def Ai (l:List (List Oe)):PV:= .lit 1 (l.map ee)
theorem UF (O:List Int) (out:List PV) (no:Bool) (J:List ba) (k:Nat) (hk:k=O.length):
 fa (ta call Yc) (fun s=>some (tidy [0,2,3,4,5,6] s)) ⟨mA k O,Dn R0 R1 S nl nr fr sets C n L M O out no J⟩=
  some (.exit 0,⟨((((mA k O).set 15 (.pv (i64 k))).set 16 (.uq 10 false 1 (O.map i64))).set 17 (.pv (i64 O.length))).set 18 (.pv (.bool false)),Dn R0 R1 S nl nr fr sets C n L M O out no J⟩):=by
 have hlen:(O.map i64).length=O.length:=by simp
 have e1:decide ((k:Int) < (O.length:Int))=false:=Ha (by omega)
 simp -implicitDefEqProofs only[SP,SA,SQ,sevalprocAttr,-List.reduceReplicate,fa,Yc,hlen,e1,mA,Dn,mi]
theorem aP (hC:C.length=n * 256) (cC:∀ c∈C,c < n) (hfr:fr≤n * 256) (hn:n≤64) (h0:0 < n):
 ∃ O J k,gb (fa (ta call Yc) (fun s=>some (tidy [0,2,3,4,5,6] s))) oa ⟨mA 0 [0],Dn R0 R1 S nl nr fr sets C n L M [0] [] true []⟩=
  some (.exit 0,⟨((((mA k O).set 15 (.pv (i64 k))).set 16 (.uq 10 false 1 (O.map i64))).set 17 (.pv (i64 O.length))).set 18 (.pv (.bool false)),Dn R0 R1 S nl nr fr sets C n L M O ((rn C).map ee) false J⟩):=by
 have key:=Wj (g:=fa (ta call Yc) (fun s=>some (tidy [0,2,3,4,5,6] s)))
  (fun k t=>∃ (O:List Int) (out:List (List Oe)) (J:List ba),nv n O∧out.length=k∧k≤O.length∧0 < O.length∧t=⟨mA k O,Dn R0 R1 S nl nr fr sets C n L M O (out.map ee) (k==0) J⟩∧wj C 64 ([0],[])=wj C (64 - k) (O,out))
  (fun ex t=>∃ (O:List Int) (J:List ba) (k:Nat),ex= .exit 0∧t=⟨((((mA k O).set 15 (.pv (i64 k))).set 16 (.uq 10 false 1 (O.map i64))).set 17 (.pv (i64 O.length))).set 18 (.pv (.bool false)),Dn R0 R1 S nl nr fr sets C n L M O ((rn C).map ee) false J⟩)
  oa 64 0 ⟨mA (0:Nat) [0],Dn R0 R1 S nl nr fr sets C n L M [0] [] true []⟩ (by unfold oa;omega) (by omega)
   ⟨[0],[],[],⟨by simp,by intro o ho;simp at ho;omega⟩,rfl,by simp,by simp,rfl,rfl⟩ ?_ ?_
 ·obtain⟨ex,t,h,_,O,J,k,rfl,rfl⟩:=key
  exact⟨O,J,k,h⟩
 ·rintro k hk t ⟨O,out,J,hO,hout,hkO,hO0,rfl,hl⟩
  by_cases hlt:k < O.length
  ·obtain⟨o,ho⟩:∃ o,O[k]? =some o:=⟨O[k],by simp[hlt]⟩
   obtain⟨g1,g2,t,g3⟩:=MM call R0 R1 S nl nr fr sets C n L M O (out.map ee) (k==0) J k o hC cC hfr hO hn ho (by simpa using hout)
   rw[show 64 - k=(64 - (k+1))+1 by omega,br (r:=(O,out)) (o:=o) (by show O[out.length]? =_;rw[hout];exact ho)] at hl
   refine .inl ⟨_,g1,_,out++[Wf (dg C o O).2],J++[.box (Ka (dg C o O).2)],g2,by simp[hout],?_,?_,?_,hl⟩
   ·rw[g3];simp;omega
   ·rw[g3];simp;omega
   ·have:(k+1==0)=false:=rfl
    rw[this];simp
  ·have hke:k=O.length:=by omega
   rw[Gq (r:=(O,out)) (by show O[out.length]? =none;rw[hout,hke];simp)] at hl
   refine .inr ⟨.exit 0,_,UF call R0 R1 S nl nr fr sets C n L M O _ _ J k hke,rfl,O,J,k,rfl,?_⟩
   have:(k==0)=false:=by simp;omega
   rw[this,rn,hl]
 ·rintro t ⟨O,out,J,hO,hout,hkO,hO0,rfl,hl⟩
  have hke:64=O.length:=by have:=hO.len;omega
  rw[Gq (r:=(O,out)) (by show O[out.length]? =none;rw[hout,hke];simp)] at hl
  refine⟨.exit 0,_,UF call R0 R1 S nl nr fr sets C n L M O _ _ J 64 hke,rfl,O,J,64,rfl,?_⟩
  have:((64:Nat)==0)=false:=rfl
  rw[this,rn,hl]
theorem eS (hC:C.length=n * 256) (cC:∀ c∈C,c < n) (hfr:fr≤n * 256) (hn:n≤64) (h0:0 < n):
 ∃ O J,Ni call aj [.ptr 3 0] (mi R0 R1 S nl nr fr sets C n [L,M])=
  some (.agg [.uq 12 false 1 ((rn C).map ee)],mi R0 R1 S nl nr fr sets C n (L::M:: .box [.uq 12 false 1 ((rn C).map ee)]:: .map (CK O 0):: .tok 1 O.length false:: .box [.uq 12 false 1 ((rn C).map ee)]:: .tok 1 ((rn C).map ee).length false::J)):=by
 obtain⟨O,J,k,hl⟩:=aP call R0 R1 S nl nr fr sets C n L M hC cC hfr hn h0
 refine⟨O,J,?_⟩
 generalize (rn C).map ee=out at *
 have hl':gb (fa (ta call Yc) (fun s=>some ⟨((((((Tr.lf.set 6 (s.env.get 6)).set 5 (s.env.get 5)).set 4 (s.env.get 4)).set 3 (s.env.get 3)).set 2 (s.env.get 2)).set 0 (s.env.get 0)),s.H⟩)) oa
  ⟨((((((Tr.lf.set 6 (.pv (.int .i64 0))).set 5 (.ptr 11 0)).set 4 (.uq 10 false 1 [.int .i64 0])).set 3 (.mp 9)).set 2 (.ptr 8 0)).set 0 (.ptr 3 0)),[R0,R1,.map (iC sets 0),.box [.pv S,.mp 2,.uq 4 nl 2 (sets.map ri),.own 5 n],.tok 2 sets.length nl,.seq 256 true (Ka C) fr nr,L,M,.box [.pv .pa],.map [(.int .i64 0,.int .i64 0)],.tok 1 1 false,.box [.uq 12 true 1 []],.tok 1 0 true]⟩=_:=hl
 simp only[mA,Dn,mi] at hl'
 simp -implicitDefEqProofs only[SP,SA,SQ,sevalprocAttr,-List.reduceReplicate,aj,Vf,Dp,tidy,Dc,tm,gk,Kr,Option.isSome_some,Zi,AV.cF,AV.Up,mi]
 rw[hl']
 simp -implicitDefEqProofs only[SP,SA,SQ,sevalprocAttr,-List.reduceReplicate,mi]
end
end Go.AM.B1
namespace Go.AM.B1
open Go.AM
def Vp (n:Nat):Int:=IntKind.u32.wrap (IntKind.u32.wrap (1 * 2 ^ min n IntKind.u32.bits) - 1)
theorem QE (n:Nat):IntKind.u32.wrap (IntKind.u32.wrap (1 * 2 ^ min n IntKind.u32.bits) - 1)=Vp n:=rfl
theorem dD {n:Nat} (h:n≤32):Vp n=((2 ^ n - 1:Nat):Int):=by
 have:∀ n:Fin 33,Vp n.1=((2 ^ n.1 - 1:Nat):Int):=by decide
 exact this ⟨n,by omega⟩
theorem TN {a:Al}:∀ {l:List Al} {k i:Nat},dm a l k=some i→i < k+l.length
 |b::l,k,i,h=>by
  simp only[dm] at h
  split at h
  ·injection h with h;simp;omega
  ·have:=TN h;simp;omega
theorem dU {ss:List dc} {a:Al} {x:Int} {sets:List Al} {r:List Al×Int} (h:Rg ss a x sets=some r):r.2 < r.1.length:=by
 unfold Rg at h
 split at h
 ·injection h with h;subst h;simp;omega
 ·split at h
  ·injection h with h;subst h;simp;omega
  ·split at h
   ·next k hk=>injection h with h;subst h;have:=TN hk;simp at this;simp;omega
   ·split at h
    ·injection h with h;subst h;simp;omega
    ·cases h
theorem YN {ss:List dc} {a:Al}:∀ (xs:List Nat) (r r':List Al×List Int),r.1.length≤64→(∀ v∈r.2,v < r.1.length)→Mk ss a xs r=some r'→∀ v∈r'.2,v < r'.1.length
 | [],r,r',_,h,e=>by injection e with e;subst e;exact h
 |x::xs,r,r',hl,h,e=>by
  cases hst:Rg ss a x r.1 with
  |none=>rw[Cs hst] at e;cases e
  |some p=>
   rw[Ht hst] at e
   have hg:=UB hst hl
   refine YN xs (p.1,r.2.set x p.2) r' hg.1 ?_ e
   intro v hv
   obtain⟨t,ht⟩:=hg.2
   rcases List.mem_or_eq_of_mem_set hv with h1 | h1
   ·have h2:=h v h1
    have:r.1.length≤p.1.length:=by rw[ht];simp
    simp only;omega
   ·rw[h1];exact dU hst
theorem UJ {ss:List dc} (hw:ss.length≤32):∀ (k:Nat) (r r':List Al×List (List Int)),Qm ss r.1→(∀ l∈r.2,∀ v∈l,v < r.1.length)→Qg ss k r=some r'→(∀ l∈r'.2,∀ v∈l,v < r'.1.length)∧∃ t,r'.1=r.1++t
 |0,r,r',_,h,e=>by injection e with e;subst e;exact⟨h,[],by simp⟩
 |k+1,r,r',Aa,h,e=>by
  cases ha:r.1[r.2.length]? with
  |none=>rw[Gs ha] at e;injection e with e;subst e;exact⟨h,[],by simp⟩
  |some a=>
   cases hr:Mk ss a (List.range 256) (r.1,eb) with
   |none=>rw[au ha hr] at e;cases e
   |some p=>
    rw[Ku ha hr] at e
    obtain⟨g1,⟨t,g2⟩,g3⟩:=Fu hw (List.range 256) (r.1,eb) p Aa ha hr
    have hpos:0 < r.1.length:=by have:=(List.getElem?_eq_some_iff.1 ha).1;omega
    have g4:=YN (List.range 256) (r.1,eb) p Aa.1 (by
     intro v hv
     have:v=0:=List.eq_of_mem_replicate hv
     simp only;omega) hr
    obtain⟨k1,t2,k2⟩:=UJ hw k (p.1,r.2++[p.2]) r' g1 (by
     intro l hl v hv
     rcases List.mem_append.1 hl with h1 | h1
     ·have:=h l h1 v hv
      simp only[g2,List.length_append] at this ⊢;omega
     ·simp at h1;subst h1;exact g4 v hv) e
    exact⟨k1,t++t2,by rw[k2,g2,List.append_assoc]⟩
theorem YA:∀ (rs:List (List Int)),Ka rs.flatten=rs.flatMap Ka
 | []=>rfl
 |r::rs=>by
  have:=YA rs
  rw[List.flatten_cons,KD,List.flatMap_cons,this]
def Pg (ss:List dc):List Al:=[(0,Vp ss.length)]
theorem Vy {ss:List dc} (hw:ss.length≤32) (hne:∀ s∈ss,0 < s.parts.length):Qm ss (Pg ss):=by
 refine⟨by simp[Pg],?_⟩
 intro k a ha
 match k,ha with
 |0,ha=>
  simp only[Pg,List.getElem?_cons_zero,Option.some.injEq] at ha
  subst ha
  refine⟨by simp,2 ^ ss.length - 1,dD hw,?_,?_⟩
  ·have:2 ^ ss.length≤2 ^ 32:=Nat.pow_le_pow_right (by decide) hw
   omega
  ·intro i s hs _
   exact hne s (List.mem_of_getElem? hs)
 |k+1,ha=>simp[Pg] at ha
section
variable (R0 R1:ba) (S:PV) (ss:List dc)
 (h0:ma 7 R0=some R0) (h1:ma 7 R1=some R1) (g0:ma 6 R0=some R0) (g1:ma 6 R1=some R1)
 (hS:Di 2 S (ss.map Le)) (hw:ss.length≤32) (hsz:∀ s∈ss,∀ l∈s.parts,l.length * 16≤140737488355328) (hne:∀ s∈ss,0 < s.parts.length)
include h0 h1 g0 g1 hS hw hsz hne
theorem VK:
 (∀ r,Qg ss 64 (Pg ss,[])=some r→∃ nl',Ni (Ga Ea 7) xg [.ptr 3 0] (Mj R0 R1 S true [] (Zg []) 0 [])=some (.pv (.bool true),Mj R0 R1 S nl' r.1 (Zg r.2) r.2.length [])∧Qm ss r.1∧r.2.length=r.1.length∧∀ r'∈r.2,r'.length=256)∧
 (Qg ss 64 (Pg ss,[])=none→∃ H,Ni (Ga Ea 7) xg [.ptr 3 0] (Mj R0 R1 S true [] (Zg []) 0 [])=some (.pv (.bool false),H)∧H[0]? =some R0):=by
 have hloop:=mP R0 R1 S false (Pg ss) ss h0 h1 g0 g1 hS hw hsz (Vy hw hne) (by simp[Pg])
 have ls:=hS.len
 simp only[List.length_map] at ls
 have hmet:Ni (Ga Ea 6) Xd [.ptr 3 0,.pv (.agg [.int .i64 0,.int .u32 (Vp ss.length)])] [R0,R1,.map (iC [] 0),.box [.pv S,.mp 2,.uq 4 true 2 [],.own 5 0],.tok 2 0 true,.seq 256 true [] 0 true]=some (.pv (.Zb [.int .i64 0,.bool true]),Mj R0 R1 S false [(0,Vp ss.length)] (Zg []) 0 []):=
  lO (Ga Ea 6) R0 R1 S true [] (Zg []) 0 [] (0,Vp ss.length) rfl (by simp)
 have n0:¬((ss.length:Int) < 0):=by omega
 have t1:((ss.length:Int)).toNat=ss.length:=by simp
 have e1:((ss.length:Int) < 0)=False:=eq_false n0
 have q5:=Vv 6 6 []
 simp only[List.flatMap_nil] at q5
 simp only[Mj,Zg,List.flatMap_nil,List.isEmpty_nil] at hmet
 unfold Mj Zg
 constructor
 ·intro r hr
  obtain⟨E,nl',hl,k1,k2,k3⟩:=hloop.1 r hr
  refine⟨nl',?_,k1,k2,k3⟩
  simp -implicitDefEqProofs only[SP,SA,SQ,sevalprocAttr,-List.reduceReplicate,xg,ls,e1,t1,QE,Ea,List.flatMap_nil,hmet,xb,ga,za,uj,Cm,Fm,Qs,Ia,AV.cut,Db,h0,h1,g0,g1,q5,Mj]
  have hl':gb (fa (ta (Ga Ea 7) qb) (ga 6 [0,3])) oa ⟨(Tr.lf.set 3 (.pv (.int .i64 0))).set 0 (.ptr 3 0),[R0,R1,.map (iC [(0,Vp ss.length)] 0),.box [.pv S,.mp 2,.uq 4 false 2 [ri (0,Vp ss.length)],.own 5 0],.tok 2 1 false,.seq 256 true [] 0 true]⟩=_:=hl
  rw[hl']
  simp -implicitDefEqProofs only[SP,SA,SQ,sevalprocAttr,-List.reduceReplicate,Mj,Zg]
 ·intro hr
  obtain⟨t,hl,k2,k3⟩:=mr (hloop.2 hr)
  refine⟨t.H,?_,k3⟩
  simp -implicitDefEqProofs only[SP,SA,SQ,sevalprocAttr,-List.reduceReplicate,xg,ls,e1,t1,QE,Ea,List.flatMap_nil,hmet,xb,ga,za,uj,Cm,Fm,Qs,Ia,AV.cut,Db,h0,h1,g0,g1,q5,Mj]
  have hl':gb (fa (ta (Ga Ea 7) qb) (ga 6 [0,3])) oa ⟨(Tr.lf.set 3 (.pv (.int .i64 0))).set 0 (.ptr 3 0),[R0,R1,.map (iC [(0,Vp ss.length)] 0),.box [.pv S,.mp 2,.uq 4 false 2 [ri (0,Vp ss.length)],.own 5 0],.tok 2 1 false,.seq 256 true [] 0 true]⟩=_:=hl
  rw[hl']
  simp -implicitDefEqProofs only[SP,SA,SQ,sevalprocAttr,-List.reduceReplicate,k2]
end
def vh (ss:List dc):Option (List (List Oe)):=
 (Qg ss 64 (Pg ss,[])).map fun r=>rn (Ie r.2.length r.2.flatten).C
section
variable (S0 S:PV) (ss:List dc) (hS0:S0= .pa∨∃ l,S0= .lit 2 l) {y:Bool} {a b e:Int}
include hS0
theorem oQ (he:e≠0) (hp:Ke [.agg [S0]]=some (.Zb [.agg [.bool y,i64 a,i64 b],i64 e])):
 Ec [.agg [S0]]=some (.Zb [.agg [.pa],i64 e]):=by
 have e1:=ni he
 rcases hS0 with rfl | ⟨l,rfl⟩ <;>
 simp -implicitDefEqProofs only[Ec,SP,SA,SQ,sevalprocAttr,-List.reduceReplicate,Fl,hp,e1,bne,Fe,Db]
theorem kS (hp:Ke [.agg [S0]]=some (.Zb [.agg [.bool false,i64 a,i64 b],i64 0])):
 Ec [.agg [S0]]=some (.Zb [.agg [.pa],i64 110]):=by
 rcases hS0 with rfl | ⟨l,rfl⟩ <;>
 simp -implicitDefEqProofs only[Ec,SP,SA,SQ,sevalprocAttr,-List.reduceReplicate,Fl,hp,bne,Fe,Db]
variable (hp:Ke [.agg [S0]]=some (.Zb [.agg [.bool true,i64 a,i64 b],i64 0])) (hc:Ui [.agg [S0]]=some (.agg [S]))
 (hS:Di 2 S (ss.map Le)) (hw:ss.length≤32) (hsz:∀ s∈ss,∀ l∈s.parts,l.length * 16≤140737488355328) (hne:∀ s∈ss,0 < s.parts.length)
include hp hc hS hw hsz hne
theorem ML (h:vh ss=none):Ec [.agg [S0]]=some (.Zb [.agg [.pa],i64 130]):=by
 have hn:Qg ss 64 (Pg ss,[])=none:=by unfold vh at h;simpa using h
 obtain⟨H,hwk,hH⟩:=(VK (.box [.pv .pa]) (.box [.pv (.bool true),.pv (i64 a),.pv (i64 b)]) S ss rfl rfl rfl rfl hS hw hsz hne).2 hn
 have hb0:Mj (.box [.pv .pa]) (.box [.pv (.bool true),.pv (i64 a),.pv (i64 b)]) S true [] (Zg []) 0 []=[.box [.pv .pa],.box [.pv (.bool true),.pv (i64 a),.pv (i64 b)],.map [],.box [.pv S,.mp 2,.uq 4 true 2 [],.own 5 0],.tok 2 0 true,.seq 256 true [] 0 true]:=rfl
 rw[hb0] at hwk
 have hS2:S= .pa∨∃ l,S= .lit 2 l:=by rcases hS with⟨h,_⟩ | h;exact .inl h;exact .inr ⟨_,h⟩
 have hH2:∀ o,(H.set 0 o)[0]? =some o:=by
  intro o
  cases H with
  |nil=>cases hH
  |cons x H=>rfl
 rcases hS0 with rfl | ⟨l,rfl⟩ <;> rcases hS2 with rfl | ⟨l2,rfl⟩ <;>
 simp -implicitDefEqProofs only[Ec,SP,SA,SQ,sevalprocAttr,-List.reduceReplicate,Fl,hp,hc,hwk,hH,hH2,Ea,Vf,Zi,AV.cF,AV.Up,bne,Fe,Db]
theorem gS {l:List (List Oe)} (h:vh ss=some l):Ec [.agg [S0]]=some (.Zb [.agg [Ai l],i64 0]):=by
 obtain⟨r,hn,hl⟩:∃ r,Qg ss 64 (Pg ss,[])=some r∧rn (Ie r.2.length r.2.flatten).C=l:=by
  unfold vh at h;simpa using h
 obtain⟨nl,hwk,k1,k2,k3⟩:=(VK (.box [.pv .pa]) (.box [.pv (.bool true),.pv (i64 a),.pv (i64 b)]) S ss rfl rfl rfl rfl hS hw hsz hne).1 r hn
 have hb0:Mj (.box [.pv .pa]) (.box [.pv (.bool true),.pv (i64 a),.pv (i64 b)]) S true [] (Zg []) 0 []=[.box [.pv .pa],.box [.pv (.bool true),.pv (i64 a),.pv (i64 b)],.map [],.box [.pv S,.mp 2,.uq 4 true 2 [],.own 5 0],.tok 2 0 true,.seq 256 true [] 0 true]:=rfl
 have hb1:Mj (.box [.pv .pa]) (.box [.pv (.bool true),.pv (i64 a),.pv (i64 b)]) S nl r.1 (Zg r.2) r.2.length []=mi (.box [.pv .pa]) (.box [.pv (.bool true),.pv (i64 a),.pv (i64 b)]) S nl r.2.isEmpty 0 r.1 r.2.flatten r.2.length []:=by
  unfold Mj mi Zg;rw[YA]
 rw[hb0,hb1] at hwk
 have hlt:=UJ hw 64 (Pg ss,[]) r (Vy hw hne) (by simp) hn
 have hpos:0 < r.1.length:=by obtain⟨t,ht⟩:=hlt.2;rw[ht];simp[Pg]
 have hC:r.2.flatten.length=r.2.length * 256:=by
  have:=vE k3
  rw[← YA,fb] at this;exact this
 have cC:∀ c∈r.2.flatten,c < (r.2.length:Int):=by
  intro c hc
  obtain⟨l,h1,h2⟩:=List.mem_flatten.1 hc
  rw[k2];exact hlt.1 l h1 c h2
 have h64:r.2.length≤64:=by rw[k2];exact k1.1
 have h0:0 < r.2.length:=by omega
 obtain⟨fr,fk,v,hf,hls⟩:=UP (Ga Ea 7) (.box [.pv .pa]) (.box [.pv (.bool true),.pv (i64 a),.pv (i64 b)]) S nl r.2.isEmpty r.1 r.2.flatten r.2.length h64 h0 k2.symm hC cC
 have Aa:tX r.2.length (Ie r.2.length r.2.flatten):=ED _ _ (Nat.le_refl _) ⟨hC,by simp,cC,by intro c hc;rw[List.eq_of_mem_replicate hc];omega,by simp⟩
 obtain⟨O,J,htd⟩:=eS (Ga Ea 7) (.box [.pv .pa]) (.box [.pv (.bool true),.pv (i64 a),.pv (i64 b)]) S nl r.2.isEmpty fr r.1 (Ie r.2.length r.2.flatten).C r.2.length (.seq 1 false (Ka (Ie r.2.length r.2.flatten).yc) fk false) (.map (Vs (Ie r.2.length r.2.flatten).M)) Aa.hC Aa.cC (by omega) h64 h0
 rw[hl] at htd
 unfold Ai
 generalize l.map ee=out at *
 generalize Ie r.2.length r.2.flatten=g at *
 simp only[mi] at hwk hls htd
 have hS2:S= .pa∨∃ l,S= .lit 2 l:=by rcases hS with⟨h,_⟩ | h;exact .inl h;exact .inr ⟨_,h⟩
 rcases hS0 with rfl | ⟨l,rfl⟩ <;> rcases hS2 with rfl | ⟨l2,rfl⟩ <;>
 simp -implicitDefEqProofs only[Ec,SP,SA,SQ,sevalprocAttr,-List.reduceReplicate,Fl,hp,hc,hwk,hls,htd,Ea,Vf,Zi,AV.cF,AV.Up,bne,Fe,Db]
end
end Go.AM.B1
namespace Go.AM.B1
open Go.AM Go.AM.So
structure Jm (v:PV) (l:List (Int×Int)):Prop where
 is:Di 2 v (de l)
 sz:l.length * 16≤140737488355328
structure Rf (P:PV) (ls:List (List (Int×Int))) (ps:List PV):Prop where
 is:Di 1 P ps
 len:ps.length=ls.length
 all:∀ (k:Nat) v l,ps[k]? =some v→ls[k]? =some l→Jm v l
 sz:ls.length≤maxLen
structure pf (e:PV) (s:dc) (P:PV) (ps:List PV):Prop where
 eq:e= .agg [P,i64 s.first]
 parts:Rf P s.parts ps
structure Ab (S:PV) (ss:List dc) (es:List PV):Prop where
 is:Di 2 S es
 len:es.length=ss.length
 all:∀ (k:Nat) e s,es[k]? =some e→ss[k]? =some s→∃ P ps,pf e s P ps
 sz:ss.length≤maxLen
theorem Rf.get {P:PV} {ls:List (List (Int×Int))} {ps:List PV} (h:Rf P ls ps) {i:Nat} (hi:i < ls.length):∃ v,ps[i]? =some v∧P= .lit 1 ps∧Jm v ls[i]:=by
 have h1:i < ps.length:=by rw[h.len];exact hi
 refine⟨ps[i],List.getElem?_eq_getElem h1,h.is.lit (i:=i) h1,h.all i _ _ (List.getElem?_eq_getElem h1) (List.getElem?_eq_getElem hi)⟩
theorem Ab.get {S:PV} {ss:List dc} {es:List PV} (h:Ab S ss es) {i:Nat} (hi:i < ss.length):∃ e P ps,es[i]? =some e∧S= .lit 2 es∧pf e ss[i] P ps:=by
 have h1:i < es.length:=by rw[h.len];exact hi
 obtain⟨P,ps,hp⟩:=h.all i _ _ (List.getElem?_eq_getElem h1) (List.getElem?_eq_getElem hi)
 exact⟨es[i],P,ps,List.getElem?_eq_getElem h1,h.is.lit (i:=i) h1,hp⟩
theorem Rf.Wb {P:PV} {ls:List (List (Int×Int))} {ps:List PV} (h:Rf P ls ps) (H:List ba):Wb H 0 (.pv P)=some ls.length:=by
 rw[h.is.len,h.len]
theorem Ab.Wb {S:PV} {ss:List dc} {es:List PV} (h:Ab S ss es) (H:List ba):Wb H 0 (.pv S)=some ss.length:=by
 rw[h.is.len,h.len]
def zc (l:List (Int×Int)):Prop:=l≠[]∧Oa 255 (-2) l=true
instance (l:List (Int×Int)):Decidable (zc l):=by unfold zc;infer_instance
def uh:Int→List (List (Int×Int))→Int
 |n,[]=>n
 |n,l::r=>uh (if 1073741825 < n * Sb 0 l then 1073741825 else n * Sb 0 l) r
def Nh (s:dc):Int:=s.first+uh 1 s.parts - 1
theorem qf {l:List (Int×Int)} (h:zc l):1≤Sb 0 l∧Sb 0 l≤256:=by
 have:=(yr h.2).2.1 h.1;omega
theorem Lw {n s:Int} (h1:1≤n) (h2:n≤1073741825) (h3:1≤s) (h4:s≤256):1≤n * s∧n * s≤274877907200:=by
 constructor
 ·have:=Int.mul_le_mul h1 h3 (by omega) (by omega);omega
 ·have:=Int.mul_le_mul h2 h4 (by omega) (by omega);omega
theorem jm:∀ (ls:List (List (Int×Int))) (n:Int),(∀ l∈ls,zc l)→1≤n→n≤1073741825→1≤uh n ls∧uh n ls≤1073741825
 | [],n,_,h1,h2=>⟨h1,h2⟩
 |l::r,n,h,h1,h2=>by
  have hs:=qf (h l (by simp))
  have hm:=Lw h1 h2 hs.1 hs.2
  rw[uh]
  refine jm r _ (fun x hx=>h x (by simp[hx])) ?_ ?_ <;> split <;> omega
abbrev mK (row:List PV) (P:PV) (len i n:Int):Tr:=((((Tr.lf.set 9 (.pv (i64 i))).set 8 (.pv (i64 len))).set 7 (.pv P)).set 3 (.pv (i64 n))).set 1 (.pv (.rp row 0))
theorem rJ {e:PV} {s:dc} {P:PV} {ps:List PV} (h:pf e s P ps) (Aa:∀ l∈s.parts,zc l) (hf:0≤s.first∧s.first≤1073741823):Pn [e]=some (i64 (Nh s)):=by
 obtain⟨rfl,hP⟩:=h
 have hb:=jm s.parts 1 Aa (by omega) (by omega)
 have hsz:=hP.sz
 have hloop:Td (fun r=>∃ E H,r=(.exit 0,⟨E,H⟩)∧E.get 3= .pv (i64 (uh 1 s.parts))∧E.get 1= .pv (.rp [P,i64 s.first] 0))
  (gb (fa (ta (Ga (fun _=>none) 8) Rh) (ga 0 [1,3,7,8,9])) oa ⟨mK [P,i64 s.first] P s.parts.length 0 1,[]⟩):=by
  refine xa (Nb (g:=fa (ta (Ga (fun _=>none) 8) Rh) (ga 0 [1,3,7,8,9]))
   (fun i t=>∃ n,t=⟨mK [P,i64 s.first] P s.parts.length i n,[]⟩∧1≤n∧n≤1073741825∧uh 1 s.parts=uh n (s.parts.drop i))
   s.parts.length (by unfold oa;unfold maxLen at hsz;omega) _ ⟨1,rfl,by omega,by omega,rfl⟩ ?_ ?_) (fun r h=>h.2)
  ·rintro i t hi ⟨n,rfl,h1,h2,hs⟩
   obtain⟨v,hv,hPl,hpt⟩:=hP.get hi
   have hd:s.parts.drop i=s.parts[i]::s.parts.drop (i+1):=List.drop_eq_getElem_cons hi
   have hpo:=Aa s.parts[i] (List.getElem_mem hi)
   have hss:=gw v s.parts[i] hpt.is hpt.sz hpo.2
   have hsb:=qf hpo
   rw[hd,uh] at hs
   generalize s.parts[i]=l at *
   have hm:=Lw h1 h2 hsb.1 hsb.2
   have e1:decide ((i:Int) < (s.parts.length:Int))=true:=Da (by omega)
   have t2:=Ua hi hsz
   have t3:IntKind.i64.wrap (n * Sb 0 l)=n * Sb 0 l:=Ba (by omega)
   have hq:i < ps.length:=by rw[hP.len];exact hi
   have hcl:v.cells=[v]:=by rcases hpt.is with⟨h,_⟩ | h <;> rw[h] <;> rfl
   have a1:qa [] 1 (.pv P) (i:Int)=some (.pv (.rp [v] 0)):=by
    rw[hPl]
    simp only[qa]
    rw[if_pos (by unfold Fa;simp;omega),Int.toNat_natCast,hv]
    simp[hcl]
   have a2:ya [] false 1 (.pv (.rp [v] 0))=some (.pv v):=rfl
   generalize hQ:LN _ _ i=Q
   simp -implicitDefEqProofs only[SX,sevalprocAttr,Rh,e1,t2,t3,a1,a2,hss,gr,Ae,ga,za,AV.cut,wa,mK]
   subst hQ
   exact⟨_,rfl,by split <;> omega,by split <;> omega,hs⟩
  ·rintro t ⟨n,rfl,h1,h2,hs⟩
   rw[List.drop_length,uh] at hs
   have e1:decide ((s.parts.length:Int) < (s.parts.length:Int))=false:=Ha (by omega)
   generalize hQ:(fun r:Ex×St=>r.1.stop=true∧_)=Q
   simp -implicitDefEqProofs only[SX,sevalprocAttr,Rh,e1,mK]
   subst hQ
   exact⟨rfl,_,_,rfl,by simp[Tr.aa,hs],by simp[Tr.aa]⟩
 obtain⟨r,h1,E,H,rfl,hE,hE1⟩:=Fc hloop
 have ls:=hP.Wb
 simp only[mK] at h1
 have h1':gb (fa (ta (Ga (fun _=>none) 8) Rh) (ga 0 [1,3,7,8,9])) oa ⟨((((Tr.lf.set 9 (.pv (.int .i64 0))).set 8 (.pv (.int .i64 s.parts.length))).set 7 (.pv P)).set 3 (.pv (.int .i64 1))).set 1 (.pv (.rp [P,i64 s.first] 0)),[]⟩=some (.exit 0,⟨E,H⟩):=h1
 unfold Nh
 generalize uh 1 s.parts=n at *
 have t1:IntKind.i64.wrap (s.first+n)=s.first+n:=Ba (by omega)
 have t2:IntKind.i64.wrap (s.first+n - 1)=s.first+n - 1:=Ba (by omega)
 have hPv:∃ sz es,P= .pa∨P= .lit sz es:=by rcases hP.is with⟨h,_⟩ | h;exact⟨0,[],.inl h⟩;exact⟨_,_,.inr h⟩
 obtain⟨sz,es,rfl | rfl⟩:=hPv <;>
 simp -implicitDefEqProofs only[Pn,SP,SA,SQ,WP,WQ,sevalprocAttr,Hr,xb,ls,h1',hE,hE1,t1,t2]
theorem MT (call:Za) {v:PV} {l:List (Int×Int)} (h:Jm v l) (H:List ba):Ni call Zj [.pv v] H=some (.pv (.bool (!decide (zc l))),H):=by
 have ls:=h.is.len
 simp only[de,List.length_map] at ls
 have hv:=rC v l h.is h.sz
 by_cases h0:l=[]
 ·have e1:((l.length:Int)==0)=true:=by simp[h0]
  have e2:(!decide (zc l))=true:=by
   have:¬zc l:=fun hp=>hp.1 h0
   simp[this]
  rw[e2]
  simp -implicitDefEqProofs only[SP,SA,SQ,WP,WQ,sevalprocAttr,Zj,ls,e1]
 ·have e1:((l.length:Int)==0)=false:=by
   have:l.length≠0:=fun e=>h0 (List.eq_nil_of_length_eq_zero e)
   exact ni (by omega)
  have e2:(!decide (zc l))= !(Oa 255 (-2) l):=by
   congr 1
   rw[Bool.eq_iff_iff];simp[zc,h0]
  rw[e2]
  simp -implicitDefEqProofs only[SP,SA,SQ,WP,WQ,sevalprocAttr,Zj,ls,e1,hv]
def sw (ls:List (List (Int×Int))) (i:Nat):Int:=
 match ls with
 | []=> -1
 |l::r=>if zc l then sw r (i+1) else i
theorem EG:∀ (ls:List (List (Int×Int))) (i:Nat),decide (sw ls i≥0)= !decide (∀ l∈ls,zc l)
 | [],i=>by simp[sw]
 |l::r,i=>by
  rw[sw]
  by_cases h:zc l
  ·rw[if_pos h,EG r];simp[h]
  ·rw[if_neg h];simp[h]
abbrev dK (P:PV) (len i:Int):Tr:=(((Tr.lf.set 8 (.pv (i64 i))).set 7 (.pv (i64 len))).set 1 (.gl 7 [])).set 0 (.pv P)
theorem LP {P:PV} {ls:List (List (Int×Int))} {ps:List PV} (hP:Rf P ls ps) (d:Nat) (H:List ba) (hH:Ng H):
 Ni (Ga bc (d+1)) Bc [.pv P,.gl 7 []] H=some (.pv (i64 (sw ls 0)),H):=by
 have hsz:=hP.sz
 have lsn:=hP.Wb
 have hcut:=Ng.cut hH
 have h7:bc 7=some Zj:=rfl
 apply Lk
 have hloop:Td (fun r=>∃ E,(r=(.exit 0,⟨E,H⟩)∧sw ls 0= -1)∨(r=(.ret,⟨E,H⟩)∧E.get 4= .pv (i64 (sw ls 0))))
  (gb (fa (ta (Ga bc (d+1)) Gb) (ga H.length [0,1,7,8])) oa ⟨dK P ls.length 0,H⟩):=by
  refine xa (Nb (g:=fa (ta (Ga bc (d+1)) Gb) (ga H.length [0,1,7,8]))
   (fun i t=>t=⟨dK P ls.length i,H⟩∧sw ls 0=sw (ls.drop i) i)
   ls.length (by unfold oa;unfold maxLen at hsz;omega) _ ⟨rfl,rfl⟩ ?_ ?_) (fun r h=>h.2)
  ·rintro i t hi ⟨rfl,hs⟩
   obtain⟨v,hv,hPl,hpt⟩:=hP.get hi
   have hd:ls.drop i=ls[i]::ls.drop (i+1):=List.drop_eq_getElem_cons hi
   rw[hd,sw] at hs
   have hn:=MT (Ga bc d) hpt H
   generalize ls[i]=l at *
   have e1:decide ((i:Int) < (ls.length:Int))=true:=Da (by omega)
   have t2:=Ua hi hsz
   have hq:i < ps.length:=by rw[hP.len];exact hi
   have hcl:v.cells=[v]:=by rcases hpt.is with⟨h,_⟩ | h <;> rw[h] <;> rfl
   have a1:qa H 1 (.pv P) (i:Int)=some (.pv (.rp [v] 0)):=by
    rw[hPl]
    simp only[qa]
    rw[if_pos (by unfold Fa;simp;omega),Int.toNat_natCast,hv]
    simp[hcl]
   have a2:ya H false 1 (.pv (.rp [v] 0))=some (.pv v):=rfl
   generalize hQ:LN _ _ i=Q
   by_cases Aa:zc l
   ·rw[if_pos Aa] at hs
    rw[decide_eq_true Aa] at hn
    simp -implicitDefEqProofs only[SX,sevalprocAttr,Gb,e1,t2,a1,a2,h7,hn,hcut,List.take_length,ga,za,AV.cut,wa,dK]
    subst hQ
    exact⟨rfl,hs⟩
   ·rw[if_neg Aa] at hs
    rw[decide_eq_false Aa] at hn
    simp -implicitDefEqProofs only[SX,sevalprocAttr,Gb,e1,t2,a1,a2,h7,hn,hcut,List.take_length,ga,za,AV.cut,wa,dK]
    subst hQ
    exact⟨_,.inr ⟨rfl,by simp[Tr.aa,hs]⟩⟩
  ·rintro t ⟨rfl,hs⟩
   rw[List.drop_length,sw] at hs
   have e1:decide ((ls.length:Int) < (ls.length:Int))=false:=Ha (by omega)
   generalize hQ:(fun r:Ex×St=>r.1.stop=true∧_)=Q
   simp -implicitDefEqProofs only[SX,sevalprocAttr,Gb,e1,dK]
   subst hQ
   exact⟨rfl,_,.inl ⟨rfl,hs⟩⟩
 simp -implicitDefEqProofs only[SX,sevalprocAttr,Bc,xb,lsn,hcut,List.take_length,ga,za,AV.cut,wa]
 refine xa hloop ?_
 rintro _ ⟨E,⟨rfl,hb⟩ | ⟨rfl,hE⟩⟩
 ·simp -implicitDefEqProofs only[SX,sevalprocAttr,hb]
 ·simp -implicitDefEqProofs only[SX,sevalprocAttr,hE]
theorem vz {P:PV} {ls:List (List (Int×Int))} {ps:List PV} (hP:Rf P ls ps) (d:Nat) (H:List ba) (hH:Ng H):
 Ni (Ga bc (d+2)) Ib [.pv P,.gl 7 []] H=some (.pv (.bool (!decide (∀ l∈ls,zc l))),H):=by
 have h:=LP hP d H hH
 have h5:bc 5=some Bc:=rfl
 have hb:=EG ls 0
 simp -implicitDefEqProofs only[SX,sevalprocAttr,Ib,h5,h,hb]
end Go.AM.B1
