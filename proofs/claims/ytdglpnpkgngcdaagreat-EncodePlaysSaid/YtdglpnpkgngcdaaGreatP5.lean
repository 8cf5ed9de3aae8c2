/- What functions of the program compute. -/
import Derived.Test.YtdglpnpkgngcdaaGreatP4
set_option linter.unusedVariables false
set_option linter.unusedSimpArgs false
namespace Go.AM.B1
open Go.AM
def JJ (ss:List qc) (k:Nat) (a:Al):Prop:=
 a.1≤k∧∃ b:Nat,a.2=(b:Int)∧b < 4294967296∧∀ i s,ss[i]? =some s→b.testBit i=true→a.1 < s.parts.length
def sm (ss:List qc) (sets:List Al):Prop:=sets.length≤64∧∀ k a,sets[k]? =some a→JJ ss k a
theorem JJ.Ba {ss:List qc} {k:Nat} {a:Al} (h:JJ ss k a) (hl:ss.length≤32):∀ i s,ss[i]? =some s→uz a.2 i=true→a.1 < s.parts.length:=by
 obtain⟨_,b,e,hb,h⟩:=h
 intro i s hs ht
 have hi:i < 32:=by have:=(List.getElem?_eq_some_iff.1 hs).1;omega
 rw[e,NK hb hi] at ht
 exact h i s hs ht
theorem nX {ss:List qc} {k:Nat} {a:Al} {x:Int} (h:JJ ss k a) (hl:ss.length≤32) (hf:(vh x a.2 a.1 0 ss (0,false)).2=false):
 JJ ss (k+1) (a.1+1,(vh x a.2 a.1 0 ss (0,false)).1):=by
 obtain⟨hk,b,e,hb,h⟩:=h
 have hN:vh x (b:Int) a.1 0 ss (0,false)=(((Ws x b a.1 0 ss (0,false)).1:Int),(Ws x b a.1 0 ss (0,false)).2):=tM (x:=x) (d:=a.1) hb ss 0 (0,false) (by omega) (by decide)
 rw[e,hN] at hf
 rw[e,hN]
 have hlt:=EH (x:=x) (bits:=b) (d:=a.1) ss 0 (0,false) (by omega) (by decide)
 refine⟨Nat.succ_le_succ hk,_,rfl,hlt,?_⟩
 intro i s hs ht
 rw[YA] at ht
 simp only[Nat.zero_testBit,Nat.zero_le,decide_true,Bool.true_and,Bool.false_or,Nat.sub_zero,hs] at ht
 have hd:=h i s hs (by revert ht;cases b.testBit i <;> simp)
 have hf':(Ws x b a.1 0 ss (0,false)).2=false:=hf
 rw[KA,Bool.false_or,List.any_eq_false] at hf'
 have:=hf' (s,i) (by rw[List.mk_mem_zipIdx_iff_getElem?];exact hs)
 show a.1+1 < s.parts.length
 simp only[ht,Bool.true_and] at this
 have h2:¬s.parts.length=a.1+1:=by simpa using this
 omega
theorem pE {ss:List qc} {a:Al} {x:Int} {sets:List Al} {r:List Al×Int} {k:Nat} (hs:sm ss sets) (ha:sets[k]? =some a) (hl:ss.length≤32) (h:Qg ss a x sets=some r):
 sm ss r.1∧∃ t,r.1=sets++t:=by
 have hk:=hs.2 k a ha
 unfold Qg at h
 split at h
 ·injection h with h;subst h;exact⟨hs,[],by simp⟩
 ·split at h
  ·injection h with h;subst h;exact⟨hs,[],by simp⟩
  ·next hf=>
   split at h
   ·injection h with h;subst h;exact⟨hs,[],by simp⟩
   ·split at h
    ·next hlt=>
     injection h with h;subst h
     refine⟨⟨by simp;omega,?_⟩,_,rfl⟩
     intro j b hb
     rcases Nat.lt_or_ge j sets.length with h1 | h1
     ·rw[List.getElem?_append_left h1] at hb;exact hs.2 j b hb
     ·rw[List.getElem?_append_right h1] at hb
      cases hj:j - sets.length with
      |succ n=>rw[hj] at hb;simp at hb
      |zero=>
       rw[hj] at hb
       simp only[List.getElem?_cons_zero,Option.some.injEq] at hb
       subst hb
       have hkl:=(List.getElem?_eq_some_iff.1 ha).1
       obtain⟨g1,g2⟩:=nX hk hl (by simpa using hf)
       exact⟨Nat.le_trans g1 (by omega),g2⟩
    ·cases h
theorem ru {ss:List qc} {a:Al} {k:Nat} (hl:ss.length≤32):∀ (xs:List Nat) (r r':List Al×List Int),sm ss r.1→r.1[k]? =some a→Hk ss a xs r=some r'→
 sm ss r'.1∧(∃ t,r'.1=r.1++t)∧r'.2.length=r.2.length
 | [],r,r',h,_,e=>by injection e with e;subst e;exact⟨h,⟨[],by simp⟩,rfl⟩
 |x::xs,r,r',h,ha,e=>by
  cases hst:Qg ss a x r.1 with
  |none=>rw[Nt hst] at e;cases e
  |some p=>
   rw[au hst] at e
   obtain⟨g1,t,g2⟩:=pE h ha hl hst
   obtain⟨k1,⟨t',k2⟩,k3⟩:=ru hl xs (p.1,r.2.set x p.2) r' g1 (by rw[g2,List.getElem?_append_left (List.getElem?_eq_some_iff.1 ha).1];exact ha) e
   exact⟨k1,⟨t++t',by rw[k2,g2,List.append_assoc]⟩,by rw[k3];simp⟩
def gb:List Int:=List.replicate 256 0
theorem Lt:gb.length=256:=List.length_replicate
def Ng (ss:List qc):Nat→List Al×List (List Int)→Option (List Al×List (List Int))
 |0,r=>some r
 |k+1,r=>match r.1[r.2.length]? with
  |none=>some r
  |some a=>match Hk ss a (List.range 256) (r.1,gb) with
   |none=>none
   |some p=>Ng ss k (p.1,r.2++[p.2])
theorem Rs {ss:List qc} {k:Nat} {r:List Al×List (List Int)} (h:r.1[r.2.length]? =none):Ng ss k r=some r:=by
 cases k with
 |zero=>rfl
 |succ k=>rw[Ng,h]
theorem nu {ss:List qc} {k:Nat} {r:List Al×List (List Int)} {a:Al} (h:r.1[r.2.length]? =some a) (h2:Hk ss a (List.range 256) (r.1,gb)=none):Ng ss (k+1) r=none:=by
 rw[Ng,h];simp only[h2]
theorem vu {ss:List qc} {k:Nat} {r:List Al×List (List Int)} {a:Al} {p:List Al×List Int} (h:r.1[r.2.length]? =some a) (h2:Hk ss a (List.range 256) (r.1,gb)=some p):Ng ss (k+1) r=Ng ss k (p.1,r.2++[p.2]):=by
 rw[Ng,h];simp only[h2]
section
variable (R0 R1:ba) (S:PV) (nl:Bool) (sets:List Al) (rs:List (List Int)) (ss:List qc) (i:Nat)
theorem MT (h0:oa 7 R0=some R0) (h1:oa 7 R1=some R1) (hi:i < sets.length) (hl:sets.length≤64)
 (hrowL:ju 2 (.pv (.bool false)) R0 (pb (ma (qa (Ca Da 7) Ka) (na 7 [0,3,4,30])) pa ⟨nm i 0,Gj R0 R1 S nl sets (Yg rs) rs.length [.box (Ja (List.replicate 256 0))]⟩)):
 ju 2 (.pv (.bool false)) R0 (Vc (Ca Da 7) [0,3] wb 6 ⟨wA i,Gj R0 R1 S nl sets (Yg rs) rs.length []⟩):=by
 have hlen:(sets.map ei).length=sets.length:=by simp
 have e1:decide ((i:Int) < (sets.length:Int))=true:=Fa (by omega)
 have q5:=Cw 7 6 rs
 obtain⟨t,g1,g2,g3⟩:=Tq hrowL
 simp only[nm,Gj,Yg,Int.cast_ofNat_Int] at g1
 unfold Gj Yg
 have hz2:=UX
 generalize hz:List.replicate 256 (0:Int)=zs at *
 simp -implicitDefEqProofs only[SP,SA,SQ,sevalprocAttr,-List.reduceReplicate,Vc,ma,wb,hlen,e1,Fb,na,za,Bm,Sm,Wm,Ps,Qa,Sp,AV.cut,Hc,h0,h1,wA,hz2,q5]
 rw[g1]
 simp -implicitDefEqProofs only[SP,SA,SQ,sevalprocAttr,-List.reduceReplicate,fF,g2,g3]
theorem FJ (hi:i=sets.length):
 Vc (Ca Da 7) [0,3] wb 6 ⟨wA i,Gj R0 R1 S nl sets (Yg rs) rs.length []⟩=
  some (.exit 0,⟨(((((((wA i).set 21 (.pv (i64 i))).set 22 (.ptr 3 0)).set 23 (.ptr 3 0)).set 24 (.ptr 3 2)).set 25 (.uq 4 nl 2 (sets.map ei))).set 26 (.pv (i64 sets.length))).set 27 (.pv (.bool false)),Gj R0 R1 S nl sets (Yg rs) rs.length []⟩):=by
 have hlen:(sets.map ei).length=sets.length:=by simp
 have e1:decide ((i:Int) < (sets.length:Int))=false:=Ha (by omega)
 simp -implicitDefEqProofs only[SP,SA,SQ,sevalprocAttr,-List.reduceReplicate,Vc,ma,wb,hlen,e1,wA,Gj]
theorem oP (n:Nat):oa n (Yg rs)=some (Yg rs):=by
 have:(rs.flatMap Ja).all (AV.ue n deep)=true:=Cw n deep rs
 unfold Yg
 rw[Ps,if_pos this]
theorem IQ (h0:oa 7 R0=some R0) (h1:oa 7 R1=some R1) (g0:oa 6 R0=some R0) (g1:oa 6 R1=some R1)
 (hS:Vh 2 S (ss.map We)) (hw:ss.length≤32) (hsz:∀ s∈ss,∀ l∈s.parts,l.length * 16≤140737488355328) (Ba:sm ss sets) (h1s:sets.length≤1):
 (∀ r,Ng ss 64 (sets,[])=some r→∃ E nl',pb (ma (qa (Ca Da 7) wb) (na 6 [0,3])) pa ⟨wA 0,Gj R0 R1 S nl sets (Yg []) 0 []⟩=
  some (.exit 0,⟨E,Gj R0 R1 S nl' r.1 (Yg r.2) r.2.length []⟩)∧sm ss r.1∧r.2.length=r.1.length∧∀ r'∈r.2,r'.length=256)∧
 (Ng ss 64 (sets,[])=none→ju 2 (.pv (.bool false)) R0 (pb (ma (qa (Ca Da 7) wb) (na 6 [0,3])) pa ⟨wA 0,Gj R0 R1 S nl sets (Yg []) 0 []⟩)):=by
 have key:=Ck (g:=Vc (Ca Da 7) [0,3] wb 6)
  (fun i t=>∃ nl' sets' rs',t=⟨wA i,Gj R0 R1 S nl' sets' (Yg rs') rs'.length []⟩∧Ng ss 64 (sets,[])=Ng ss (64 - i) (sets',rs')∧sm ss sets'∧rs'.length=i∧i≤sets'.length∧∀ r∈rs',r.length=256)
  (fun ex t=>(∃ r,ex= .exit 0∧Ng ss 64 (sets,[])=some r∧∃ E nl',t=⟨E,Gj R0 R1 S nl' r.1 (Yg r.2) r.2.length []⟩∧sm ss r.1∧r.2.length=r.1.length∧∀ r'∈r.2,r'.length=256)∨
   (ex= .ret∧Ng ss 64 (sets,[])=none∧t.env.get 2= .pv (.bool false)∧t.H[0]? =some R0))
  pa 64 0 ⟨wA (0:Nat),Gj R0 R1 S nl sets (Yg []) 0 []⟩ (by unfold pa;omega) (by omega) ⟨nl,sets,[],rfl,rfl,Ba,rfl,by omega,by simp⟩ ?_ ?_
 ·obtain⟨ex,t,h,_,hq⟩:=key
  have h':pb (ma (qa (Ca Da 7) wb) (na 6 [0,3])) pa ⟨wA 0,Gj R0 R1 S nl sets (Yg []) 0 []⟩=some (ex,t):=h
  rw[h']
  rcases hq with⟨r,rfl,hr',E,nl',rfl,q1,q2,q3⟩ | ⟨rfl,hr',hg,hg2⟩
  ·refine⟨fun r2 e=> ?_,fun e=> ?_⟩
   ·rw[hr'] at e;injection e with e;subst e;exact⟨E,nl',rfl,q1,q2,q3⟩
   ·rw[hr'] at e;cases e
  ·refine⟨fun r2 e=> ?_,fun _=> .mk _ hg hg2⟩
   rw[hr'] at e;cases e
 ·rintro i hi t ⟨nl',sets',rs',rfl,hws,hok',hrl,hil,hrr⟩
  by_cases hlt:i < sets'.length
  ·obtain⟨a,ha⟩:∃ a,sets'[i]? =some a:=⟨sets'[i],by simp[hlt]⟩
   have hsa:=hok'.2 i a ha
   have hget:sets'[rs'.length]? =some a:=by rw[hrl];exact ha
   have hrow:=AS R0 R1 S (Yg rs') rs'.length ss h0 h1 (oP rs' 7) hS (by unfold maxLen;omega) hsz (nl:=nl') Lt ha (by have:=hsa.1;omega) hok'.1 (hsa.Ba hw)
   have e64:64 - i=(64 - (i+1))+1:=by omega
   cases hr:Hk ss a (List.range 256) (sets',gb) with
   |none=>
    have hst:=MT R0 R1 S nl' sets' rs' i h0 h1 hlt hok'.1 (hrow.2 hr)
    obtain⟨t,k1,k2,k3⟩:=Tq hst
    rw[e64,nu (r:=(sets',rs')) hget hr] at hws
    exact .inr ⟨.ret,t,k1,rfl,.inr ⟨rfl,hws,k2,k3⟩⟩
   |some p=>
    obtain⟨nl2,k1,k2,k3,k4⟩:=hrow.1 p hr
    have hro:=ru hw _ _ _ hok' ha hr
    rw[e64,vu (r:=(sets',rs')) hget hr] at hws
    have hsr:=MQ R0 R1 S nl' sets' rs' i h0 h1 g0 g1 hlt hok'.1 (by have:=hok'.1;omega) hrr nl2 p.1 p.2 k3 k1
    refine .inl ⟨_,hsr,nl2,p.1,rs'++[p.2],by simp,hws,hro.1,by simp[hrl],?_,?_⟩
    ·obtain⟨t,ht⟩:=k4
     rw[ht];simp;omega
    ·intro r hr
     rcases List.mem_append.1 hr with h | h
     ·exact hrr r h
     ·simp at h;subst h;exact k3
  ·have hie:i=sets'.length:=by omega
   rw[Rs (r:=(sets',rs')) (by show sets'[rs'.length]? =none;rw[hrl,hie];simp)] at hws
   exact .inr ⟨.exit 0,_,FJ R0 R1 S nl' sets' rs' i hie,rfl,.inl ⟨(sets',rs'),rfl,hws,_,nl',rfl,hok',by show rs'.length=sets'.length;omega,hrr⟩⟩
 ·rintro t ⟨nl',sets',rs',rfl,hws,hok',hrl,hil,hrr⟩
  have hie:64=sets'.length:=by have:=hok'.1;omega
  rw[Rs (r:=(sets',rs')) (by show sets'[rs'.length]? =none;rw[hrl,hie];simp)] at hws
  exact⟨.exit 0,_,FJ R0 R1 S nl' sets' rs' 64 hie,rfl,.inl ⟨(sets',rs'),rfl,hws,_,nl',rfl,hok',by show rs'.length=sets'.length;omega,hrr⟩⟩
end
end Go.AM.B1
namespace Go.AM.B1
open Go.AM
abbrev mi (R0 R1:ba) (S:PV) (nl nr:Bool) (fr:Nat) (sets:List Al) (C:List Int) (n:Nat) (T:List ba):List ba:=
 R0::R1:: .map (GC sets 0):: .box [.pv S,.mp 2,.uq 4 nl 2 (sets.map ei),.own 5 n]:: .tok 2 sets.length nl:: .seq 256 true (Ja C) fr nr::T
abbrev xi (row:List Int):PV:= .agg (row.map i64)
abbrev Lz (n:Nat) (row:List Int) (i x:Int):Tr:=
 (((((Tr.lf.set 34 (.pv (i64 x))).set 33 (.pv (xi row))).set 5 (.pv (i64 i))).set 4 (.mp 7)).set 3 (.own 6 n)).set 0 (.ptr 3 0)
section
variable (call:Ta) (R0 R1:ba) (S:PV) (nl nr nk:Bool) (fr fk:Nat) (sets:List Al) (C:List Int) (n:Nat) (Dc:List Int) (M:ba) (row:List Int) (i x:Nat) (to:Int)
theorem gM (hx:x < 256) (hto:row[x]? =some to) (h:to < 0):ma (qa call yc) (fun s=>some (tidy [0,3,4,5,33,34] s)) ⟨Lz n row i x,mi R0 R1 S nl nr fr sets C n [.seq 1 false (Ja Dc) fk nk,M]⟩=
 some (.norm,⟨Lz n row i (x+1:Nat),mi R0 R1 S nl nr fr sets C n [.seq 1 false (Ja Dc) fk nk,M]⟩):=by
 have e1:decide ((x:Int) < 256)=true:=Fa (by omega)
 have e2:decide (to≥0)=false:=Ha (by omega)
 have hq:Ga (x:Int) 256:=by unfold Ga;omega
 have t1:((x:Int)).toNat=x:=by simp
 have t2:=eb (i:=x) (n:=256) hx (by unfold maxLen;omega)
 have ht:(row.map i64)[x]? =some (i64 to):=by rw[List.getElem?_map,hto];rfl
 simp -implicitDefEqProofs only[SP,SA,SQ,sevalprocAttr,-List.reduceReplicate,ma,yc,e1,e2,eq_true hq,t1,t2,ht,im,wa,tidy,Jc,Lz,mi]
theorem IP (hC:C.length=n * 256) (hk:Dc.length=n) (hfr:fr≤n * 256) (hfk:fk≤n) (hi:i < n) (hx:x < 256) (hto:row[x]? =some to) (h:0≤to) {v:Int} (hv:Dc[to.toNat]? =some v):ma (qa call yc) (fun s=>some (tidy [0,3,4,5,33,34] s)) ⟨Lz n row i x,mi R0 R1 S nl nr fr sets C n [.seq 1 false (Ja Dc) fk nk,M]⟩=
 some (.norm,⟨Lz n row i (x+1:Nat),mi R0 R1 S nl nr (n * 256) sets (C.set (i * 256+x) v) n [.seq 1 false (Ja Dc) fk nk,M]⟩):=by
 have e1:decide ((x:Int) < 256)=true:=Fa (by omega)
 have e2:decide (to≥0)=true:=Fa (by omega)
 have hq:Ga (x:Int) 256:=by unfold Ga;omega
 have t1:((x:Int)).toNat=x:=by simp
 have t3:((i:Int)).toNat=i:=by simp
 have t2:=eb (i:=x) (n:=256) hx (by unfold maxLen;omega)
 have ht:(row.map i64)[x]? =some (i64 to):=by rw[List.getElem?_map,hto];rfl
 have hv':(Ja Dc)[to.toNat]? =some (.pv (i64 v)):=by rw[Ja,List.getElem?_map,hv];rfl
 have hvl:=(List.getElem?_eq_some_iff.1 hv).1
 have hq2:Ga to n:=by unfold Ga;omega
 have hq3:Ga (i:Int) n:=by unfold Ga;omega
 have w1:jh 1 n fk (Ja Dc).length:=by rw[ib];unfold jh;omega
 have w2:jh 256 n fr (Ja C).length:=by rw[ib];unfold jh;omega
 have w3:((Ja Dc).length=n)=True:=by rw[ib];exact eq_true hk
 have w5:(i * 256+x+1≤n * 256)=True:=eq_true (by omega)
 have w4:((Ja C).length=n * 256)=True:=by rw[ib];exact eq_true hC
 simp -implicitDefEqProofs only[SP,SA,SQ,sevalprocAttr,-List.reduceReplicate,ma,yc,e1,e2,eq_true hq,eq_true hq2,eq_true hq3,eq_true w1,eq_true w2,w3,w4,w5,t1,t2,t3,ht,hv',im,wa,nj,tidy,Jc,Lz,mi]
def Qd (Dc row:List Int) (i:Nat):List Nat→List Int→List Int
 | [],C=>C
 |x::xs,C=>Qd Dc row i xs (match row[x]? with
  |some to=>if 0≤to then C.set (i * 256+x) (Dc.getD to.toNat 0) else C
  |none=>C)
theorem Tl (Dc row:List Int) (i:Nat):∀ (xs:List Nat) (C:List Int),(Qd Dc row i xs C).length=C.length
 | [],C=>rfl
 |x::xs,C=>by
  rw[Qd,Tl Dc row i xs]
  split
  ·split <;> simp
  ·rfl
theorem SK (hC:C.length=n * 256) (hk:Dc.length=n) (hfr:fr=0∨fr=n * 256) (hfk:fk≤n) (hi:i < n) (hrow:row.length=256) (hto:∀ to∈row,to < n):
 ∃ fr',(fr'=0∨fr'=n * 256)∧pb (ma (qa call yc) (fun s=>some (tidy [0,3,4,5,33,34] s))) pa ⟨Lz n row i 0,mi R0 R1 S nl nr fr sets C n [.seq 1 false (Ja Dc) fk nk,M]⟩=
  some (.exit 2,⟨(Lz n row i 256).set 35 (.pv (.bool false)),mi R0 R1 S nl nr fr' sets (Qd Dc row i (List.range 256) C) n [.seq 1 false (Ja Dc) fk nk,M]⟩):=by
 generalize hxs:List.range 256=xs
 have key:=Ck (g:=ma (qa call yc) (fun s=>some (tidy [0,3,4,5,33,34] s)))
  (fun x t=>∃ fr' C',(fr'=0∨fr'=n * 256)∧C'.length=n * 256∧t=⟨Lz n row i x,mi R0 R1 S nl nr fr' sets C' n [.seq 1 false (Ja Dc) fk nk,M]⟩∧Qd Dc row i xs C=Qd Dc row i (xs.drop x) C')
  (fun ex t=>∃ fr',(fr'=0∨fr'=n * 256)∧ex= .exit 2∧t=⟨(Lz n row i 256).set 35 (.pv (.bool false)),mi R0 R1 S nl nr fr' sets (Qd Dc row i xs C) n [.seq 1 false (Ja Dc) fk nk,M]⟩)
  pa 256 0 ⟨Lz n row i (0:Nat),mi R0 R1 S nl nr fr sets C n [.seq 1 false (Ja Dc) fk nk,M]⟩ (by unfold pa;omega) (by omega) ⟨fr,C,hfr,hC,rfl,rfl⟩ ?_ ?_
 ·obtain⟨ex,t,h,_,fr',q1,rfl,rfl⟩:=key
  exact⟨fr',q1,h⟩
 ·rintro x hx t ⟨fr',C',hf',hC',rfl,hl⟩
  have hd:=mq hx
  rw[hxs] at hd
  rw[hd] at hl
  obtain⟨to,ht⟩:∃ to,row[x]? =some to:=⟨row[x],by simp[hrow,hx]⟩
  have hlt:=hto to (List.mem_of_getElem? ht)
  by_cases h0:0≤to
  ·obtain⟨v,hv⟩:∃ v,Dc[to.toNat]? =some v:=⟨Dc[to.toNat]'(by omega),by rw[List.getElem?_eq_getElem]⟩
   refine .inl ⟨_,IP call R0 R1 S nl nr nk fr' fk sets C' n Dc M row i x to hC' hk (by omega) hfk hi hx ht h0 hv,n * 256,_,.inr rfl,by simpa using hC',rfl,?_⟩
   rw[hl,Qd,ht]
   have:Dc.getD to.toNat 0=v:=by simp[hv]
   simp only[if_pos h0,this]
  ·refine .inl ⟨_,gM call R0 R1 S nl nr nk fr' fk sets C' n Dc M row i x to hx ht (by omega),fr',C',hf',hC',rfl,?_⟩
   rw[hl,Qd,ht]
   simp only[if_neg h0]
 ·rintro t ⟨fr',C',hf',hC',rfl,hl⟩
  rw[List.drop_eq_nil_of_le (by rw[← hxs,List.length_range];exact Nat.le_refl _)] at hl
  refine⟨.exit 2,_,?_,rfl,fr',hf',rfl,rfl⟩
  rw[hl]
  have e1:decide (((256:Nat):Int) < 256)=false:=by decide
  simp -implicitDefEqProofs only[SP,SA,SQ,sevalprocAttr,-List.reduceReplicate,ma,yc,e1,Lz,mi,Qd]
end
theorem LA:∀ (a b:List Int),a.length=b.length→si (List.replicate a.length 1) (a.map i64) (b.map i64)=some (decide (a=b))
 | [],[],_=>rfl
 |x::a,y::b,h=>by
  have ih:=LA a b (by simpa using h)
  simp only[List.length_cons,List.replicate_succ,List.map_cons,si,Mq,if_true,Option.bind_some,ih,Option.map_some,List.cons.injEq,Bool.decide_and]
  congr 2
 | [],_::_,h=>by cases h
 |_::_,[],h=>by cases h
def Ss (M:List (List Int×Int)):List (PV×PV):=M.map fun p=>(xi p.1,i64 p.2)
theorem CO (M:List (List Int×Int)) (p:List Int×Int):Ss (M++[p])=Ss M++[(xi p.1,i64 p.2)]:=by simp[Ss]
def yk (a:List Int):List (List Int×Int)→Option Int
 | []=>none
 |p::r=>if a=p.1 then some p.2 else yk a r
theorem CJ {a:List Int} (ha:a.length=256):∀ (M:List (List Int×Int)) (j:Nat),(∀ p∈M,p.1.length=256)→
 (∀ v,yk a M=some v→∃ k,Yl (.row (List.replicate 256 1)) (xi a) (Ss M) j=some (some (k,i64 v)))∧(yk a M=none→Yl (.row (List.replicate 256 1)) (xi a) (Ss M) j=some none)
 | [],j,_=>⟨fun v h=>(by cases h),fun _=>rfl⟩
 |p::r,j,hp=>by
  have he:=LA a p.1 (by rw[ha,hp p (by simp)])
  rw[ha] at he
  have ih:=CJ ha r (j+1) (fun q hq=>hp q (by simp[hq]))
  have hk:zk (.row (List.replicate 256 1)) (xi a) (xi p.1)=some (decide (a=p.1)):=he
  rw[show Ss (p::r)=(xi p.1,i64 p.2)::Ss r from rfl,Yl,hk,Option.bind_some,yk]
  by_cases h:a=p.1
  ·rw[if_pos h,decide_eq_true h]
   exact⟨fun v e=>(by injection e with e;subst e;exact⟨j,rfl⟩),fun e=>(by cases e)⟩
  ·rw[if_neg h,decide_eq_false h]
   exact ih
theorem jN {a:List Int} (ha:a.length=256):(zk (.row (List.replicate 256 1)) (xi a) (xi a)).isSome=true:=by
 have he:=LA a a rfl
 rw[ha] at he
 show (si _ _ _).isSome=true
 rw[he];rfl
def Va (C:List Int) (i:Nat):List Int:=(C.drop (i * 256)).take 256
theorem Lh {C:List Int} {n i:Nat} (hC:C.length=n * 256) (hi:i < n):(Va C i).length=256:=by
 unfold Va;rw[List.length_take,List.length_drop,hC];omega
theorem nF (C:List Int) (i:Nat):Dd (List.take 256 (List.drop (i * 256) (Ja C)))=some ((Va C i).map i64):=by
 have:List.take 256 (List.drop (i * 256) (Ja C))=Ja (Va C i):=by unfold Va Ja;rw[List.map_take,List.map_drop]
 rw[this,yt]
structure XI where
 C:List Int
 Dc:List Int
 M:List (List Int×Int)
def Gk (i:Nat) (s:XI):XI:=
 let C:=Qd s.Dc (Va s.C i) i (List.range 256) s.C
 match yk (Va C i) s.M with
 |some v=>⟨C,s.Dc.set i v,s.M⟩
 |none=>⟨C,s.Dc.set i i,s.M++[(Va C i,(i:Int))]⟩
def vj:Nat→XI→XI
 |0,s=>s
 |i+1,s=>vj i (Gk i s)
theorem As {i:Nat} {s:XI} {v:Int} (h:yk (Va (Qd s.Dc (Va s.C i) i (List.range 256) s.C) i) s.M=some v):Gk i s=⟨Qd s.Dc (Va s.C i) i (List.range 256) s.C,s.Dc.set i v,s.M⟩:=by
 simp only[Gk,h]
theorem Bs {i:Nat} {s:XI} (h:yk (Va (Qd s.Dc (Va s.C i) i (List.range 256) s.C) i) s.M=none):
 Gk i s=⟨Qd s.Dc (Va s.C i) i (List.range 256) s.C,s.Dc.set i i,s.M++[(Va (Qd s.Dc (Va s.C i) i (List.range 256) s.C) i,(i:Int))]⟩:=by
 simp only[Gk,h]
abbrev mA (n:Nat) (i:Int):Tr:=(((Tr.lf.set 5 (.pv (i64 i))).set 4 (.mp 7)).set 3 (.own 6 n)).set 0 (.ptr 3 0)
section
variable (call:Ta) (R0 R1:ba) (S:PV) (nl nr nk:Bool) (fr fk:Nat) (sets:List Al) (n:Nat) (s:XI) (i:Nat)
theorem XJ (hC:s.C.length=n * 256) (hk:s.Dc.length=n) (hfr:fr=0∨fr=n * 256) (hfk:fk≤n) (hi:i < n) (hn:n≤64) (hto:∀ to∈Va s.C i,to < n) (hM:∀ p∈s.M,p.1.length=256):
 ∃ fr',(fr'=0∨fr'=n * 256)∧ma (qa call Nd) (fun s=>some (tidy [0,3,4,5] s)) ⟨mA n i,mi R0 R1 S nl nr fr sets s.C n [.seq 1 false (Ja s.Dc) fk nk,.map (Ss s.M)]⟩=
  some (.norm,⟨mA n ((i:Int) - 1),mi R0 R1 S nl nr fr' sets (Gk i s).C n [.seq 1 false (Ja (Gk i s).Dc) n nk,.map (Ss (Gk i s).M)]⟩):=by
 obtain⟨fr',hf',hin⟩:=SK call R0 R1 S nl nr nk fr fk sets s.C n s.Dc (.map (Ss s.M)) (Va s.C i) i hC hk hfr hfk hi (Lh hC hi) hto
 refine⟨fr',hf',?_⟩
 have hC2:(Qd s.Dc (Va s.C i) i (List.range 256) s.C).length=n * 256:=by rw[Tl,hC]
 have hrl:=Lh hC2 hi
 have hfd:=CJ hrl s.M 0 hM
 have his:=jN hrl
 have p1:=nF s.C i
 have p2:=nF (Qd s.Dc (Va s.C i) i (List.range 256) s.C) i
 have e1:decide ((i:Int)≥0)=true:=Fa (by omega)
 have hq3:Ga (i:Int) n:=by unfold Ga;omega
 have t3:((i:Int)).toNat=i:=by simp
 have t2:IntKind.i64.wrap ((i:Int) - 1)=(i:Int) - 1:=Aa (by omega)
 have w2:jh 256 n fr (Ja s.C).length:=by rw[ib];unfold jh;omega
 have w4:((Ja s.C).length=n * 256)=True:=by rw[ib];exact eq_true hC
 have w6:(i * 256+256≤(Ja s.C).length)=True:=by rw[ib];exact eq_true (by omega)
 have hl1:=@As i s
 have hl2:=@Bs i s
 generalize Qd s.Dc (Va s.C i) i (List.range 256) s.C=C2 at *
 have w12:jh 256 n fr' (Ja C2).length:=by rw[ib];unfold jh;omega
 have w14:((Ja C2).length=n * 256)=True:=by rw[ib];exact eq_true hC2
 have w16:(i * 256+256≤(Ja C2).length)=True:=by rw[ib];exact eq_true (by omega)
 have w1:jh 1 n fk (Ja s.Dc).length:=by rw[ib];unfold jh;omega
 have w3:((Ja s.Dc).length=n)=True:=by rw[ib];exact eq_true hk
 have w5:(i+1≤n)=True:=eq_true (by omega)
 generalize hz:List.replicate 256 1=ks at *
 have hin':pb (ma (qa call yc) (fun s=>some (tidy [0,3,4,5,33,34] s))) pa ⟨Lz n (Va s.C i) i 0,mi R0 R1 S nl nr fr sets s.C n [.seq 1 false (Ja s.Dc) fk nk,.map (Ss s.M)]⟩=_:=hin
 simp only[Lz,mi,tidy,Jc] at hin'
 cases hlk:yk (Va C2 i) s.M with
 |some v=>
  obtain⟨k,hk2⟩:=hfd.1 v hlk
  rw[hl1 hlk]
  simp -implicitDefEqProofs only[SP,SA,SQ,sevalprocAttr,-List.reduceReplicate,ma,Nd,e1,eq_true hq3,t2,t3,eq_true w2,w4,w6,p1,wa,Fp,tidy,Jc,mA,mi,hz]
  rw[hin']
  simp -implicitDefEqProofs only[SP,SA,SQ,sevalprocAttr,-List.reduceReplicate,eq_true hq3,t2,t3,eq_true w12,w14,w16,eq_true w1,w3,w5,p2,wa,eq_true his,hk2,nj,tidy,Jc,mA,mi]
 |none=>
  have hk2:=hfd.2 hlk
  rw[hl2 hlk]
  simp -implicitDefEqProofs only[SP,SA,SQ,sevalprocAttr,-List.reduceReplicate,ma,Nd,e1,eq_true hq3,t2,t3,eq_true w2,w4,w6,p1,wa,Fp,tidy,Jc,mA,mi,hz]
  rw[hin']
  simp -implicitDefEqProofs only[SP,SA,SQ,sevalprocAttr,-List.reduceReplicate,eq_true hq3,t2,t3,eq_true w12,w14,w16,eq_true w1,w3,w5,p2,wa,eq_true his,hk2,nj,tidy,Jc,mA,mi,CO]
end
end Go.AM.B1
namespace Go.AM.B1
open Go.AM
structure HX (n:Nat) (s:XI):Prop where
 hC:s.C.length=n * 256
 hk:s.Dc.length=n
 cC:∀ c∈s.C,c < n
 ck:∀ c∈s.Dc,c < n
 cM:∀ p∈s.M,p.1.length=256∧p.2 < n
theorem SE {Dc row:List Int} {i:Nat} {n:Int} (hn:0 < n) (hk:∀ c∈Dc,c < n):∀ (xs:List Nat) (C:List Int),(∀ c∈C,c < n)→∀ c∈Qd Dc row i xs C,c < n
 | [],C,h=>h
 |x::xs,C,h=>by
  rw[Qd]
  refine SE hn hk xs _ ?_
  split
  ·split
   ·intro c hc
    rcases List.mem_or_eq_of_mem_set hc with h1 | h1
    ·exact h c h1
    ·subst h1
     next to _ _=>
     rcases Nat.lt_or_ge to.toNat Dc.length with h2 | h2
     ·rw[List.getD_eq_getElem?_getD,List.getElem?_eq_getElem h2];exact hk _ (List.getElem_mem h2)
     ·rw[List.getD_eq_getElem?_getD,List.getElem?_eq_none h2];exact hn
   ·exact h
  ·exact h
theorem bu {a:List Int}:∀ {M:List (List Int×Int)} {v:Int},yk a M=some v→∃ p∈M,p.1=a∧p.2=v
 |p::r,v,h=>by
  rw[yk] at h
  split at h
  ·next h1=>injection h with h;exact⟨p,by simp,h1.symm,h⟩
  ·obtain⟨q,hq,e⟩:=bu h
   exact⟨q,by simp[hq],e⟩
theorem SB {n i:Nat} {s:XI} (hi:i < n) (h:HX n s):HX n (Gk i s):=by
 have hC2:(Qd s.Dc (Va s.C i) i (List.range 256) s.C).length=n * 256:=by rw[Tl,h.hC]
 have hlt:=SE (i:=i) (row:=Va s.C i) (n:=(n:Int)) (by omega) h.ck (List.range 256) s.C h.cC
 have hl1:=@As i s
 have hl2:=@Bs i s
 generalize Qd s.Dc (Va s.C i) i (List.range 256) s.C=C2 at *
 cases hl:yk (Va C2 i) s.M with
 |some v=>
  obtain⟨p,hp,_,hv⟩:=bu hl
  have:=(h.cM p hp).2
  rw[hl1 hl]
  refine⟨hC2,by simp[h.hk],hlt,?_,h.cM⟩
  intro c hc
  rcases List.mem_or_eq_of_mem_set hc with h1 | h1
  ·exact h.ck c h1
  ·omega
 |none=>
  rw[hl2 hl]
  refine⟨hC2,by simp[h.hk],hlt,?_,?_⟩
  ·intro c hc
   rcases List.mem_or_eq_of_mem_set hc with h1 | h1
   ·exact h.ck c h1
   ·omega
  ·intro p hp
   rcases List.mem_append.1 hp with h1 | h1
   ·exact h.cM p h1
   ·simp at h1;subst h1;exact⟨Lh hC2 hi,by simp;omega⟩
theorem sD {n:Nat}:∀ (k:Nat) (s:XI),k≤n→HX n s→HX n (vj k s)
 |0,s,_,h=>h
 |k+1,s,hk,h=>sD k _ (by omega) (SB (by omega) h)
def Te (n:Nat) (C:List Int):XI:=vj n ⟨C,List.replicate n 0,[]⟩
section
variable (call:Ta) (R0 R1:ba) (S:PV) (nl nr nk:Bool) (sets:List Al) (C:List Int) (n:Nat)
theorem FM (s0:XI) (hn:n≤64) (h0:0 < n) (Ba:HX n s0):
 ∃ fr fk,(fr=0∨fr=n * 256)∧pb (ma (qa call Nd) (fun s=>some (tidy [0,3,4,5] s))) pa ⟨mA n ((n:Int) - 1),mi R0 R1 S nl nr 0 sets s0.C n [.seq 1 false (Ja s0.Dc) 0 nk,.map (Ss s0.M)]⟩=
  some (.exit 0,⟨((mA n (-1)).set 23 (.pv (i64 (-1)))).set 24 (.pv (.bool false)),mi R0 R1 S nl nr fr sets (vj n s0).C n [.seq 1 false (Ja (vj n s0).Dc) fk nk,.map (Ss (vj n s0).M)]⟩)∧fk≤n:=by
 have key:=Ck (g:=ma (qa call Nd) (fun s=>some (tidy [0,3,4,5] s)))
  (fun j t=>∃ fr fk s,(fr=0∨fr=n * 256)∧fk≤n∧HX n s∧t=⟨mA n ((n:Int) - 1 - j),mi R0 R1 S nl nr fr sets s.C n [.seq 1 false (Ja s.Dc) fk nk,.map (Ss s.M)]⟩∧vj n s0=vj (n - j) s)
  (fun ex t=>∃ fr fk,(fr=0∨fr=n * 256)∧fk≤n∧ex= .exit 0∧t=⟨((mA n (-1)).set 23 (.pv (i64 (-1)))).set 24 (.pv (.bool false)),mi R0 R1 S nl nr fr sets (vj n s0).C n [.seq 1 false (Ja (vj n s0).Dc) fk nk,.map (Ss (vj n s0).M)]⟩)
  pa n 0 ⟨mA n ((n:Int) - 1 - (0:Nat)),mi R0 R1 S nl nr 0 sets s0.C n [.seq 1 false (Ja s0.Dc) 0 nk,.map (Ss s0.M)]⟩ (by unfold pa;omega) (by omega) ⟨0,0,s0,.inl rfl,by omega,Ba,rfl,rfl⟩ ?_ ?_
 ·obtain⟨ex,t,h,_,fr,fk,q1,q2,rfl,rfl⟩:=key
  rw[show ((n:Int) - 1 - (0:Nat))=(n:Int) - 1 by omega] at h
  exact⟨fr,fk,q1,h,q2⟩
 ·rintro j hj t ⟨fr,fk,s,hf,hfk,hs,rfl,hl⟩
  obtain⟨i,hi⟩:∃ i,n - j=i+1:=⟨n - j - 1,by omega⟩
  rw[hi,vj] at hl
  obtain⟨fr',hf',hr⟩:=XJ call R0 R1 S nl nr nk fr fk sets n s i hs.hC hs.hk hf hfk (by omega) hn
   (fun to h=>hs.cC to (List.mem_of_mem_drop (List.mem_of_mem_take h))) (fun p hp=>(hs.cM p hp).1)
  rw[show ((n:Int) - 1 - (j:Int))=(i:Int) by omega]
  refine .inl ⟨_,hr,fr',n,Gk i s,hf',by omega,SB (by omega) hs,?_,?_⟩
  ·rw[show ((n:Int) - 1 - ((j+1:Nat):Int))=(i:Int) - 1 by omega]
  ·rw[hl,show n - (j+1)=i by omega]
 ·rintro t ⟨fr,fk,s,hf,hfk,hs,rfl,hl⟩
  rw[Nat.sub_self,vj] at hl
  rw[show ((n:Int) - 1 - (n:Int))= -1 by omega]
  refine⟨.exit 0,_,?_,rfl,fr,fk,hf,hfk,rfl,rfl⟩
  rw[hl]
  have e1:decide ((-1:Int)≥0)=false:=by decide
  simp -implicitDefEqProofs only[SP,SA,SQ,sevalprocAttr,-List.reduceReplicate,ma,Nd,e1,mA,mi]
theorem dG (n:Nat):tj [PV.int .i64 0] n=Ja (List.replicate n 0):=by
 induction n with
 |zero=>rfl
 |succ n ih=>rw[tj,ih];rfl
theorem XP (hn:n≤64) (h0:0 < n) (hs:sets.length=n) (hC:C.length=n * 256) (cC:∀ c∈C,c < n):
 ∃ fr fk v,(fr=0∨fr=n * 256)∧xe call Mi [.ptr 3 0] (mi R0 R1 S nl nr 0 sets C n [])=
  some (v,mi R0 R1 S nl nr fr sets (Te n C).C n [.seq 1 false (Ja (Te n C).Dc) fk false,.map (Ss (Te n C).M)]):=by
 obtain⟨fr,fk,hf,hl,hfk⟩:=FM call R0 R1 S nl nr false sets n ⟨C,List.replicate n 0,[]⟩ hn h0
  ⟨hC,by simp,cC,by intro c hc;rw[List.eq_of_mem_replicate hc];omega,by simp⟩
 refine⟨fr,fk,.own 6 n,hf,?_⟩
 have hlen:(sets.map ei).length=n:=by rw[List.length_map,hs]
 have r0:tj [PV.int .i64 0] n=Ja (List.replicate n 0):=dG n
 have t1:((n:Int)).toNat=n:=by simp
 have t2:IntKind.i64.wrap ((n:Int) - 1)=(n:Int) - 1:=Aa (by omega)
 have e1:(0≤(n:Int))=True:=by simp
 have e2:ab n 8:=by unfold ab;omega
 have e3:((n:Int)≤(n:Int))=True:=by simp
 unfold Te
 generalize vj n ⟨C,List.replicate n 0,[]⟩=g at *
 generalize List.replicate n (0:Int)=zs at *
 simp only[tidy,Jc,mA,mi,Ss,List.map_nil] at hl
 simp -implicitDefEqProofs only[SP,SA,SQ,sevalprocAttr,-List.reduceReplicate,Mi,hlen,r0,t1,t2,e1,eq_true e2,e3,Fp,tidy,Jc,mi]
 rw[hl]
 simp -implicitDefEqProofs only[SP,SA,SQ,sevalprocAttr,-List.reduceReplicate,mi,Ss]
end
end Go.AM.B1
namespace Go.AM.B1
open Go.AM
structure Af where
 lo:Int
 hi:Int
 to:Int
deriving DecidableEq
def AF (e:Af):PV:= .agg [i64 e.lo,i64 e.hi,i64 e.to]
def pd (l:List Af):List Int:=l.flatMap fun e=>[e.lo,e.hi,e.to]
theorem Qj (l:List Af):(pd l).length=l.length * 3:=by
 induction l with
 |nil=>rfl
 |cons e l ih=>simp only[pd,List.flatMap_cons,List.length_append,List.length_cons,List.length_nil] at ih ⊢;omega
theorem Ol (l:List Af) (e:Af):pd (l++[e])=pd l++[e.lo,e.hi,e.to]:=by simp[pd]
def Wf (x to:Int) (l:List Af):List Af:=
 if to= -2 then l else match l.getLast? with
  |some e=>if e.to=to∧e.hi=x - 1 then l.dropLast++[⟨e.lo,x,e.to⟩] else l++[⟨x,x,to⟩]
  |none=>l++[⟨x,x,to⟩]
theorem TW (a b c:Int):Ja [a,b,c]=[.pv (i64 a),.pv (i64 b),.pv (i64 c)]:=rfl
theorem xE (a b:List Int):Ja (a++b)=Ja a++Ja b:=by simp[Ja]
abbrev Xs (row:List Int) (n:Nat) (x:Int):Tr:=((Tr.lf.set 8 (.pv (i64 x))).set 7 (.pv (xi row))).set 3 (.own 0 n)
theorem ZD (l:List Int) (e:Af) (k:Nat) (hk:k < 3):(Ja (l++[e.lo,e.hi,e.to]))[l.length+k]? =some (.pv (i64 (if k=0 then e.lo else if k=1 then e.hi else e.to))):=by
 rw[Ja,List.getElem?_map,List.getElem?_append_right (by omega),Nat.add_sub_cancel_left]
 match k,hk with
 |0,_=>rfl
 |1,_=>rfl
 |2,_=>rfl
section
variable (call:Ta) (row:List Int) (x:Nat) (to:Int) (fl:Nat)
 (hx:x < 256) (hto:row[x]? =some to)
include hx hto
theorem fQ (l:List Af) (nl:Bool) (h:to= -2):ma (qa call bd) (fun s=>some (tidy [3,7,8] s)) ⟨Xs row l.length x,[.seq 3 true (Ja (pd l)) fl nl]⟩=
 some (.norm,⟨Xs row l.length (x+1:Nat),[.seq 3 true (Ja (pd l)) fl nl]⟩):=by
 have e1:decide ((x:Int) < 256)=true:=Fa (by omega)
 have e2:(to== -2)=true:=by simp[h]
 have hq:Ga (x:Int) 256:=by unfold Ga;omega
 have t1:((x:Int)).toNat=x:=by simp
 have t2:=eb (i:=x) (n:=256) hx (by unfold maxLen;omega)
 have ht:(row.map i64)[x]? =some (i64 to):=by rw[List.getElem?_map,hto];rfl
 simp -implicitDefEqProofs only[SP,SA,SQ,sevalprocAttr,ma,bd,e1,e2,eq_true hq,t1,t2,ht,wa,tidy,Jc,Xs]
theorem nM (nl:Bool) (h:to≠ -2):ma (qa call bd) (fun s=>some (tidy [3,7,8] s)) ⟨Xs row 0 x,[.seq 3 true [] 0 nl]⟩=
 some (.norm,⟨Xs row 1 (x+1:Nat),[.seq 3 true (Ja [(x:Int),x,to]) 0 false]⟩):=by
 have e1:decide ((x:Int) < 256)=true:=Fa (by omega)
 have e2:(to== -2)=false:=zi h
 have hq:Ga (x:Int) 256:=by unfold Ga;omega
 have t1:((x:Int)).toNat=x:=by simp
 have t2:=eb (i:=x) (n:=256) hx (by unfold maxLen;omega)
 have ht:(row.map i64)[x]? =some (i64 to):=by rw[List.getElem?_map,hto];rfl
 have q1:ab 1 24:=by unfold ab;omega
 simp -implicitDefEqProofs only[SP,SA,SQ,sevalprocAttr,ma,bd,e1,e2,eq_true hq,t1,t2,ht,eq_true q1,wa,tidy,Jc,Xs,Fj,yi,AV.KC,AV.Lo,Ja]
variable (l:List Af) (e:Af) (hl:l.length < 256) (hfl:fl≤(l.length+1) * 3)
include hl hfl
theorem uP (h:to≠ -2) (h1:e.to=to) (h2:e.hi=(x:Int) - 1):ma (qa call bd) (fun s=>some (tidy [3,7,8] s)) ⟨Xs row (l.length+1) x,[.seq 3 true (Ja (pd l++[e.lo,e.hi,e.to])) fl false]⟩=
 some (.norm,⟨Xs row (l.length+1) (x+1:Nat),[.seq 3 true (Ja (pd l++[e.lo,(x:Int),e.to])) ((l.length+1) * 3) false]⟩):=by
 have e1:decide ((x:Int) < 256)=true:=Fa (by omega)
 have e2:(to== -2)=false:=zi h
 have hq:Ga (x:Int) 256:=by unfold Ga;omega
 have t1:((x:Int)).toNat=x:=by simp
 have t2:=eb (i:=x) (n:=256) hx (by unfold maxLen;omega)
 have ht:(row.map i64)[x]? =some (i64 to):=by rw[List.getElem?_map,hto];rfl
 have e3:decide (((l.length+1:Nat):Int) > 0)=true:=Fa (by omega)
 have t3:IntKind.i64.wrap (((l.length+1:Nat):Int) - 1)=(l.length:Int):=by rw[Aa (by omega)];omega
 have t4:((l.length:Int)).toNat=l.length:=by simp
 have t5:IntKind.i64.wrap ((x:Int) - 1)=(x:Int) - 1:=Aa (by omega)
 have hq2:Ga (l.length:Int) (l.length+1):=by unfold Ga;omega
 have hlen:(Ja (pd l++[e.lo,e.hi,e.to])).length=(l.length+1) * 3:=by rw[ib,List.length_append,Qj];simp;omega
 have w1:jh 3 (l.length+1) fl (Ja (pd l++[e.lo,e.hi,e.to])).length:=by rw[hlen];unfold jh;omega
 have w2:((Ja (pd l++[e.lo,e.hi,e.to])).length=(l.length+1) * 3)=True:=eq_true hlen
 have g2:=ZD (pd l) e 2 (by omega)
 have g1:=ZD (pd l) e 1 (by omega)
 rw[Qj] at g1 g2
 simp only[h1,h2] at g1 g2
 have b1:(to==to)=true:=by simp
 have b2:((x:Int) - 1==(x:Int) - 1)=true:=by simp
 have w3:(l.length * 3+1+1≤(l.length+1) * 3)=True:=eq_true (by omega)
 have hset:(Ja (pd l++[e.lo,(x:Int) - 1,to])).set (l.length * 3+1) (.pv (i64 x))=Ja (pd l++[e.lo,(x:Int),to]):=by
  rw[nj,←Qj,List.set_append_right _ _ (by omega),Nat.add_sub_cancel_left];rfl
 rw[h1,h2] at *
 generalize pd l++[e.lo,(x:Int) - 1,to]=cs at *
 simp -implicitDefEqProofs only[SP,SA,SQ,sevalprocAttr,ma,bd,e1,e2,e3,eq_true hq,eq_true hq2,t1,t2,t3,t4,t5,ht,g1,g2,eq_true w1,w2,w3,b1,b2,hset,wa,tidy,Jc,Xs]
theorem cP (h:to≠ -2) (h1:¬(e.to=to∧e.hi=(x:Int) - 1)):ma (qa call bd) (fun s=>some (tidy [3,7,8] s)) ⟨Xs row (l.length+1) x,[.seq 3 true (Ja (pd l++[e.lo,e.hi,e.to])) fl false]⟩=
 some (.norm,⟨Xs row (l.length+1+1) (x+1:Nat),[.seq 3 true (Ja (pd l++[e.lo,e.hi,e.to])++Ja [(x:Int),x,to]) fl false]⟩):=by
 have e1:decide ((x:Int) < 256)=true:=Fa (by omega)
 have e2:(to== -2)=false:=zi h
 have hq:Ga (x:Int) 256:=by unfold Ga;omega
 have t1:((x:Int)).toNat=x:=by simp
 have t2:=eb (i:=x) (n:=256) hx (by unfold maxLen;omega)
 have ht:(row.map i64)[x]? =some (i64 to):=by rw[List.getElem?_map,hto];rfl
 have e3:decide (((l.length+1:Nat):Int) > 0)=true:=Fa (by omega)
 have t3:IntKind.i64.wrap (((l.length+1:Nat):Int) - 1)=(l.length:Int):=by rw[Aa (by omega)];omega
 have t4:((l.length:Int)).toNat=l.length:=by simp
 have t5:IntKind.i64.wrap ((x:Int) - 1)=(x:Int) - 1:=Aa (by omega)
 have hq2:Ga (l.length:Int) (l.length+1):=by unfold Ga;omega
 have hlen:(Ja (pd l++[e.lo,e.hi,e.to])).length=(l.length+1) * 3:=by rw[ib,List.length_append,Qj];simp;omega
 have w1:jh 3 (l.length+1) fl (Ja (pd l++[e.lo,e.hi,e.to])).length:=by rw[hlen];unfold jh;omega
 have w2:((Ja (pd l++[e.lo,e.hi,e.to])).length=(l.length+1) * 3)=True:=eq_true hlen
 have w2':((l.length+1) * 3=(Ja (pd l++[e.lo,e.hi,e.to])).length)=True:=eq_true hlen.symm
 have g2:(Ja (pd l++[e.lo,e.hi,e.to]))[(pd l).length+2]? =some (.pv (i64 e.to)):=ZD (pd l) e 2 (by omega)
 have g1:(Ja (pd l++[e.lo,e.hi,e.to]))[(pd l).length+1]? =some (.pv (i64 e.hi)):=ZD (pd l) e 1 (by omega)
 rw[Qj] at g1 g2
 have q1:ab (l.length+1+1) 24:=by unfold ab;omega
 generalize pd l++[e.lo,e.hi,e.to]=cs at *
 by_cases hb1:e.to=to
 ·have b1:(e.to==to)=true:=by simp[hb1]
  have b2:(e.hi==(x:Int) - 1)=false:=zi fun hh=>h1 ⟨hb1,hh⟩
  simp -implicitDefEqProofs only[SP,SA,SQ,sevalprocAttr,ma,bd,e1,e2,e3,eq_true hq,eq_true hq2,t1,t2,t3,t4,t5,ht,g1,g2,eq_true w1,w2,w2',eq_true q1,b1,b2,wa,tidy,Jc,Xs,Fj,yi,AV.KC,AV.Lo,TW]
 ·have b1:(e.to==to)=false:=zi hb1
  simp -implicitDefEqProofs only[SP,SA,SQ,sevalprocAttr,ma,bd,e1,e2,e3,eq_true hq,eq_true hq2,t1,t2,t3,t4,t5,ht,g1,g2,eq_true w1,w2,w2',eq_true q1,b1,wa,tidy,Jc,Xs,Fj,yi,AV.KC,AV.Lo,TW]
end
end Go.AM.B1
namespace Go.AM.B1
open Go.AM
def Be (row:List Int):List Nat→List Af→List Af
 | [],l=>l
 |x::xs,l=>Be row xs (Wf x (row.getD x 0) l)
def Xf (row:List Int):List Af:=Be row (List.range 256) []
def je (l:List Af):PV:=if l.isEmpty then .fa else .lit 3 (l.map AF)
theorem sy (x:Int) (l:List Af):Wf x (-2) l=l:=by simp[Wf]
theorem Dw {x to:Int} (h:to≠ -2):Wf x to []=[⟨x,x,to⟩]:=by simp[Wf,h]
theorem gy {x:Int} {l:List Af} {e:Af} (h:e.to≠ -2) (h2:e.hi=x - 1):Wf x e.to (l++[e])=l++[⟨e.lo,x,e.to⟩]:=by simp[Wf,h,h2]
theorem nv {x to:Int} {l:List Af} {e:Af} (h:to≠ -2) (h2:¬(e.to=to∧e.hi=x - 1)):Wf x to (l++[e])=l++[e]++[⟨x,x,to⟩]:=by
 simp only[Wf,if_neg h,List.getLast?_append,List.getLast?_singleton,Option.some_or,if_neg h2]
theorem BG (H:List ba) (d:Nat) (l:List Int):Pa (Rb H d) (Ja l)=some (l.map i64):=by
 induction l with
 |nil=>rfl
 |cons a l ih=>simp only[Ja,List.map_cons,Pa,Eg,Option.bind_some] at ih ⊢;rw[ih];rfl
theorem iM:∀ (l:List Af),chunk 3 true l.length ((pd l).map i64)=l.map AF
 | []=>rfl
 |e::l=>by
  have:=iM l
  rw[List.length_cons,chunk]
  simp only[pd,List.flatMap_cons,List.cons_append,List.nil_append,List.map_cons,List.take,List.drop,if_true] at this ⊢
  rw[this];rfl
theorem rL (H:List ba) (id:Nat) (l:List Af) (fl:Nat) (h:H[id]? =some (.seq 3 true (Ja (pd l)) fl l.isEmpty)):Rb H deep (.own id l.length)=some (je l):=by
 have hl:(l.length * 3=(Ja (pd l)).length)=True:=by rw[ib,Qj];exact eq_self _
 rw[Hc]
 simp only[Rb,h,hl,Bool.true_or,and_self,if_true]
 unfold je
 cases hn:l.isEmpty with
 |true=>rfl
 |false=>simp only[Bool.false_eq_true,if_false,BG,Option.map_some,iM]
section
variable (row:List Int) (hrow:row.length=256)
include hrow
theorem nN (call:Ta):∃ fl,pb (ma (qa call bd) (fun s=>some (tidy [3,7,8] s))) pa ⟨Xs row 0 0,[.seq 3 true [] 0 true]⟩=
 some (.exit 0,⟨(Xs row (Xf row).length 256).set 9 (.pv (.bool false)),[.seq 3 true (Ja (pd (Xf row))) fl (Xf row).isEmpty]⟩):=by
 unfold Xf
 generalize hxs:List.range 256=xs
 have key:=Ck (g:=ma (qa call bd) (fun s=>some (tidy [3,7,8] s)))
  (fun x t=>∃ fl l,fl≤l.length * 3∧l.length≤x∧t=⟨Xs row l.length x,[.seq 3 true (Ja (pd l)) fl l.isEmpty]⟩∧Be row xs []=Be row (xs.drop x) l)
  (fun ex t=>∃ fl,ex= .exit 0∧t=⟨(Xs row (Be row xs []).length 256).set 9 (.pv (.bool false)),[.seq 3 true (Ja (pd (Be row xs []))) fl (Be row xs []).isEmpty]⟩)
  pa 256 0 ⟨Xs row 0 (0:Nat),[.seq 3 true [] 0 true]⟩ (by unfold pa;omega) (by omega) ⟨0,[],by simp,by simp,rfl,rfl⟩ ?_ ?_
 ·obtain⟨ex,t,h,_,fl,rfl,rfl⟩:=key
  exact⟨fl,h⟩
 ·rintro x hx t ⟨fl,l,hf,hlx,rfl,hl⟩
  have hd:=mq hx
  rw[hxs] at hd
  obtain⟨to,ht⟩:∃ to,row[x]? =some to:=⟨row[x],by simp[hrow,hx]⟩
  have hgd:row.getD x 0=to:=by simp[List.getD_eq_getElem?_getD,ht]
  rw[hd,Be,hgd] at hl
  by_cases h2:to= -2
  ·rw[h2,sy] at hl
   exact .inl ⟨_,fQ call row x to fl hx ht l _ h2,fl,l,hf,by omega,rfl,hl⟩
  rcases List.eq_nil_or_concat l with rfl | ⟨l',e,rfl⟩
  ·rw[Dw h2] at hl
   have hf0:fl=0:=by simpa using hf
   subst hf0
   exact .inl ⟨_,nM call row x to hx ht true h2,0,[⟨x,x,to⟩],by simp,by simp,rfl,hl⟩
  ·simp only[List.concat_eq_append] at *
   have hem:(l'++[e]).isEmpty=false:=by simp
   have hlen:(l'++[e]).length=l'.length+1:=by simp
   rw[hlen] at hf hlx
   rw[hem,hlen,Ol]
   by_cases h3:e.to=to∧e.hi=(x:Int) - 1
   ·obtain⟨h3,h4⟩:=h3
    rw[← h3,gy (by rw[h3];exact h2) h4] at hl
    refine .inl ⟨_,uP call row x to fl hx ht l' e (by omega) hf h2 h3 h4,(l'.length+1) * 3,l'++[⟨e.lo,x,e.to⟩],by simp,by simp;omega,?_,hl⟩
    rw[Ol];simp
   ·rw[nv h2 h3] at hl
    refine .inl ⟨_,cP call row x to fl hx ht l' e (by omega) hf h2 h3,fl,_,?_,?_,?_,hl⟩
    ·simp;omega
    ·simp;omega
    ·rw[Ol,Ol,xE];simp[Ja]
 ·rintro t ⟨fl,l,hf,hlx,rfl,hl⟩
  rw[List.drop_eq_nil_of_le (by rw[← hxs,List.length_range];exact Nat.le_refl _)] at hl
  refine⟨.exit 0,_,?_,rfl,fl,rfl,rfl⟩
  rw[hl]
  have e1:decide (((256:Nat):Int) < 256)=false:=by decide
  simp -implicitDefEqProofs only[SP,SA,SQ,sevalprocAttr,ma,bd,e1,Xs,Be]
theorem wP:Lp [xi row]=some (je (Xf row)):=by
 obtain⟨fl,hl⟩:=nN row hrow (Ca (fun _=>none) 8)
 have ht:=rL [.seq 3 true (Ja (pd (Xf row))) fl (Xf row).isEmpty] 0 (Xf row) fl rfl
 have h9:(row.map i64).map AV.pv=Ja row:=(dt row).symm
 have p0:((Ja row).length=256)=True:=by rw[ib,hrow];exact eq_self _
 have p1:(256≤(Ja row).length)=True:=by rw[ib,hrow];exact eq_true (Nat.le_refl _)
 have p2:List.take 256 (Ja row)=Ja row:=List.take_of_length_le (by rw[ib,hrow];exact Nat.le_refl _)
 have p3:=yt row
 have p5:=pF row
 have p6:=BG [] 0 row
 have p8:List.take 256 (row.map i64)=row.map i64:=List.take_of_length_le (by rw[List.length_map,hrow];exact Nat.le_refl _)
 have p7:(256≤(row.map i64).length)=True:=by rw[List.length_map,hrow];exact eq_true (Nat.le_refl _)
 have p4:((row.map i64).length=256)=True:=by rw[List.length_map,hrow];exact eq_self _
 generalize Xf row=es at *
 simp only[tidy,Jc,Xs] at hl
 simp -implicitDefEqProofs only[Lp,SP,SA,SQ,sevalprocAttr,Wu,h9,p0,p1,p2,p3,p4,p5,p6,p7,p8,ff,Fp,tidy,Jc]
 rw[hl]
 simp -implicitDefEqProofs only[SP,SA,SQ,sevalprocAttr,ht]
end
end Go.AM.B1
namespace Go.AM.B1
open Go.AM
def Tt (a:Int):List Int→Nat→Option Nat
 | [],_=>none
 |b::l,k=>if a=b then some k else Tt a l (k+1)
def rK (l:List Int) (k:Nat):List (PV×PV):=(l.zipIdx k).map fun p=>(i64 p.1,i64 p.2)
theorem fB (a:Int) (l:List Int) (k:Nat):rK (a::l) k=(i64 a,i64 k)::rK l (k+1):=rfl
theorem aH (a:Int):∀ (l:List Int) (k:Nat),rK (l++[a]) k=rK l k++[(i64 a,i64 (k+l.length:Nat))]
 | [],k=>by simp[rK]
 |b::l,k=>by rw[List.cons_append,fB,aH a l (k+1),fB];simp;omega
theorem zO {a:Int}:∀ {l:List Int} {k i:Nat},Tt a l k=some i→k≤i
 |b::l,k,i,h=>by
  simp only[Tt] at h
  split at h
  ·injection h with h;omega
  ·have:=zO h;omega
theorem pL (a:Int):∀ (l:List Int) (k j:Nat),Yl (.one 1) (i64 a) (rK l k) j=some ((Tt a l k).map fun i=>(j+(i - k),i64 i)):=by
 intro l
 induction l with
 |nil=>intro k j;rfl
 |cons b l ih=>
  intro k j
  have he:zk (.one 1) (i64 a) (i64 b)=some (decide (a=b)):=by
   show (if IntKind.i64=IntKind.i64 then some (a==b) else none)=_
   rw[if_pos rfl]
   congr 1
  rw[fB,Yl,he]
  simp only[Option.bind_some,Tt]
  by_cases h:a=b
  ·simp[h]
  ·rw[if_neg h,ih]
   simp only[h,decide_false,Bool.false_eq_true,if_false,Option.some.injEq]
   cases hi:Tt a l (k+1) with
   |none=>rfl
   |some i=>
    have:=zO hi
    simp only[Option.map_some,Option.some.injEq,Prod.mk.injEq,and_true]
    omega
theorem jE (a:Int):(zk (.one 1) (i64 a) (i64 a)).isSome=true:=rfl
abbrev yn (R0 R1:ba) (S:PV) (nl nr:Bool) (fr:Nat) (sets:List Al) (C:List Int) (n:Nat) (L M:ba) (O:List Int) (out:List PV) (no:Bool) (T:List ba):List ba:=
 mi R0 R1 S nl nr fr sets C n (L::M:: .box [.pv .fa]:: .map (rK O 0):: .tok 1 O.length false:: .box [.uq 12 no 1 out]:: .tok 1 out.length no::T)
abbrev Gx (q:Nat) (k:Int) (O:List Int) (gb:List Int) (x:Int):Tr:=
 (((((((((Tr.lf.set 32 (.pv (i64 x))).set 31 (.pv (xi gb))).set 7 (.ptr q 0)).set 6 (.pv (i64 k))).set 5 (.ptr 11 0)).set 4 (.uq 10 false 1 (O.map i64))).set 3 (.mp 9)).set 2 (.ptr 8 0)).set 0 (.ptr 3 0))
def Hi (x:Nat) (to:Int) (r:List Int×List Int):List Int×List Int:=
 if to < 0 then r else match Tt to r.1 0 with
  |some k=>(r.1,r.2.set x k)
  |none=>(r.1++[to],r.2.set x r.1.length)
section
variable (call:Ta) (R0 R1:ba) (S:PV) (nl nr:Bool) (fr:Nat) (sets:List Al) (C:List Int) (n:Nat) (L M:ba) (O:List Int) (out:List PV) (no:Bool) (J:List ba)
 (k:Int) (gb row:List Int) (x:Nat) (to:Int) (q:Nat) (hx:x < 256) (hto:gb[x]? =some to)
include hx hto
theorem sQ (h:to < 0):
 ma (qa call tc) (fun s=>some (tidy [0,2,3,4,5,6,7,31,32] s)) ⟨Gx q k O gb x,yn R0 R1 S nl nr fr sets C n L M O out no (J++[.box (Ja row)])⟩=
  some (.norm,⟨Gx q k O gb (x+1:Nat),yn R0 R1 S nl nr fr sets C n L M O out no (J++[.box (Ja row)])⟩):=by
 have e1:decide ((x:Int) < 256)=true:=Fa (by omega)
 have e2:decide (to < 0)=true:=Fa (by omega)
 have hq:Ga (x:Int) 256:=by unfold Ga;omega
 have t1:((x:Int)).toNat=x:=by simp
 have t2:=eb (i:=x) (n:=256) hx (by unfold maxLen;omega)
 have ht:(gb.map i64)[x]? =some (i64 to):=by rw[List.getElem?_map,hto];rfl
 simp -implicitDefEqProofs only[SP,SA,SQ,sevalprocAttr,-List.reduceReplicate,ma,tc,e1,e2,eq_true hq,t1,t2,ht,wa,tidy,Jc,Gx,yn,mi]
theorem NT (hq13:q=J.length+1+1+1+1+1+1+1+1+1+1+1+1+1) (hrow:row.length=256) (h:¬to < 0) {j:Nat} (hj:Tt to O 0=some j):
 ma (qa call tc) (fun s=>some (tidy [0,2,3,4,5,6,7,31,32] s)) ⟨Gx q k O gb x,yn R0 R1 S nl nr fr sets C n L M O out no (J++[.box (Ja row)])⟩=
  some (.norm,⟨Gx q k O gb (x+1:Nat),yn R0 R1 S nl nr fr sets C n L M O out no (J++[.box (Ja (row.set x j))])⟩):=by
 have e1:decide ((x:Int) < 256)=true:=Fa (by omega)
 have e2:decide (to < 0)=false:=Ha (by omega)
 have hq:Ga (x:Int) 256:=by unfold Ga;omega
 have t1:((x:Int)).toNat=x:=by simp
 have t2:=eb (i:=x) (n:=256) hx (by unfold maxLen;omega)
 have ht:(gb.map i64)[x]? =some (i64 to):=by rw[List.getElem?_map,hto];rfl
 have hf:=pL to O 0 0
 rw[hj] at hf
 simp only[Option.map_some] at hf
 have his:=jE to
 have hle:(x+1≤(Ja row).length)=True:=by rw[ib];exact eq_true (by omega)
 subst hq13
 simp -implicitDefEqProofs only[SP,SA,SQ,sevalprocAttr,-List.reduceReplicate,ma,tc,e1,e2,eq_true hq,t1,t2,ht,hf,eq_true his,hle,nj,Vn,Un,wa,tidy,Jc,Gx,yn,mi]
theorem RT (hq13:q=J.length+1+1+1+1+1+1+1+1+1+1+1+1+1) (hrow:row.length=256) (h:¬to < 0) (hj:Tt to O 0=none) (hO:O.length < 100):
 ma (qa call tc) (fun s=>some (tidy [0,2,3,4,5,6,7,31,32] s)) ⟨Gx q k O gb x,yn R0 R1 S nl nr fr sets C n L M O out no (J++[.box (Ja row)])⟩=
  some (.norm,⟨Gx q k (O++[to]) gb (x+1:Nat),yn R0 R1 S nl nr fr sets C n L M (O++[to]) out no (J++[.box (Ja (row.set x O.length))])⟩):=by
 have e1:decide ((x:Int) < 256)=true:=Fa (by omega)
 have e2:decide (to < 0)=false:=Ha (by omega)
 have hq:Ga (x:Int) 256:=by unfold Ga;omega
 have t1:((x:Int)).toNat=x:=by simp
 have t2:=eb (i:=x) (n:=256) hx (by unfold maxLen;omega)
 have ht:(gb.map i64)[x]? =some (i64 to):=by rw[List.getElem?_map,hto];rfl
 have hf:=pL to O 0 0
 rw[hj] at hf
 simp only[Option.map_none] at hf
 have his:=jE to
 have hle:(x+1≤(Ja row).length)=True:=by rw[ib];exact eq_true (by omega)
 have hlen:(O.map i64).length=O.length:=by simp
 have q1:ab (O.length+1) 8:=by unfold ab;omega
 have hp:=aH to O 0
 rw[Nat.zero_add] at hp
 have hlen2:(O++[to]).length=O.length+1:=by simp
 have hmap:(O++[to]).map i64=O.map i64++[i64 to]:=by simp
 subst hq13
 unfold Gx yn
 rw[hp,hlen2,hmap]
 simp -implicitDefEqProofs only[SP,SA,SQ,sevalprocAttr,-List.reduceReplicate,ma,tc,e1,e2,eq_true hq,t1,t2,ht,hf,eq_true his,hle,hlen,eq_true q1,nj,Vn,Un,wa,tidy,Jc,mi,yi,AV.KC,AV.Lo]
end
end Go.AM.B1
namespace Go.AM.B1
open Go.AM
def Av (n:Nat) (O:List Int):Prop:=O.Nodup∧∀ o∈O,0≤o∧o < (n:Int)
theorem aB:∀ (n:Nat) (O:List Int),O.Nodup→(∀ o∈O,0≤o∧o < (n:Int))→O.length≤n
 |0,O,_,h=>by
  cases O with
  |nil=>simp
  |cons a O=>have:=h a (by simp);omega
 |n+1,O,hd,h=>by
  have ih:=aB n (O.erase n) (hd.erase _) (fun o ho=>by
   have h1:=h o (List.mem_of_mem_erase ho)
   have h2:o≠n:=(hd.mem_erase_iff.1 ho).1
   omega)
  rw[List.length_erase] at ih
  split at ih <;> omega
theorem Av.len {n:Nat} {O:List Int} (h:Av n O):O.length≤n:=aB n O h.1 h.2
theorem FA {a:Int}:∀ {l:List Int} {k:Nat},Tt a l k=none→a ∉ l
 | [],_,_=>by simp
 |b::l,k,h=>by
  simp only[Tt] at h
  split at h
  ·cases h
  ·next hne=>simp only[List.mem_cons,not_or];exact⟨hne,FA h⟩
def Md (gb:List Int):List Nat→List Int×List Int→List Int×List Int
 | [],r=>r
 |x::xs,r=>Md gb xs (Hi x (gb.getD x 0) r)
theorem yS {n:Nat} {x:Nat} {to:Int} {r:List Int×List Int} (hto:to < n) (h:Av n r.1):Av n (Hi x to r).1∧(Hi x to r).2.length=r.2.length∧∃ t,(Hi x to r).1=r.1++t:=by
 unfold Hi
 by_cases h0:to < 0
 ·rw[if_pos h0];exact⟨h,rfl,[],by simp⟩
 ·rw[if_neg h0]
  cases hi:Tt to r.1 0 with
  |some k=>exact⟨h,by simp,[],by simp⟩
  |none=>
   have hn:=FA hi
   refine⟨⟨?_,?_⟩,by simp,[to],rfl⟩
   ·simp only[List.nodup_append,h.1,true_and]
    refine⟨by simp,?_⟩
    intro a ha b hb
    simp at hb;subst hb
    intro e;subst e;exact hn ha
   ·intro o ho
    rcases List.mem_append.1 ho with h1 | h1
    ·exact h.2 o h1
    ·simp at h1;subst h1;omega
section
variable (call:Ta) (R0 R1:ba) (S:PV) (nl nr:Bool) (fr:Nat) (sets:List Al) (C:List Int) (n:Nat) (L M:ba)
theorem RM (O:List Int) (out:List PV) (no:Bool) (J:List ba) (k:Int) (gb:List Int) (q:Nat) (hq13:q=J.length+1+1+1+1+1+1+1+1+1+1+1+1+1)
 (hO:Av n O) (hn:n≤64) (hrow:gb.length=256) (hto:∀ to∈gb,to < n):
 pb (ma (qa call tc) (fun s=>some (tidy [0,2,3,4,5,6,7,31,32] s))) pa ⟨Gx q k O gb 0,yn R0 R1 S nl nr fr sets C n L M O out no (J++[.box (Ja gb)])⟩=
  some (.exit 2,⟨(Gx q k (Md gb (List.range 256) (O,gb)).1 gb 256).set 33 (.pv (.bool false)),
   yn R0 R1 S nl nr fr sets C n L M (Md gb (List.range 256) (O,gb)).1 out no (J++[.box (Ja (Md gb (List.range 256) (O,gb)).2)])⟩)∧
  Av n (Md gb (List.range 256) (O,gb)).1∧(Md gb (List.range 256) (O,gb)).2.length=256∧∃ t,(Md gb (List.range 256) (O,gb)).1=O++t:=by
 generalize hxs:List.range 256=xs
 have key:=Ck (g:=ma (qa call tc) (fun s=>some (tidy [0,2,3,4,5,6,7,31,32] s)))
  (fun x t=>∃ r,Av n r.1∧r.2.length=256∧(∃ t,r.1=O++t)∧t=⟨Gx q k r.1 gb x,yn R0 R1 S nl nr fr sets C n L M r.1 out no (J++[.box (Ja r.2)])⟩∧Md gb xs (O,gb)=Md gb (xs.drop x) r)
  (fun ex t=>ex= .exit 2∧t=⟨(Gx q k (Md gb xs (O,gb)).1 gb 256).set 33 (.pv (.bool false)),yn R0 R1 S nl nr fr sets C n L M (Md gb xs (O,gb)).1 out no (J++[.box (Ja (Md gb xs (O,gb)).2)])⟩∧
   Av n (Md gb xs (O,gb)).1∧(Md gb xs (O,gb)).2.length=256∧∃ t,(Md gb xs (O,gb)).1=O++t)
  pa 256 0 ⟨Gx q k O gb (0:Nat),yn R0 R1 S nl nr fr sets C n L M O out no (J++[.box (Ja gb)])⟩ (by unfold pa;omega) (by omega) ⟨(O,gb),hO,hrow,⟨[],by simp⟩,rfl,rfl⟩ ?_ ?_
 ·obtain⟨ex,t,h,_,rfl,rfl,q1,q2⟩:=key
  exact⟨h,q1,q2⟩
 ·rintro x hx t ⟨⟨O',row⟩,hO',hr',⟨tl,htl⟩,rfl,hl⟩
  have hd:=mq hx
  rw[hxs] at hd
  obtain⟨to,ht⟩:∃ to,gb[x]? =some to:=⟨gb[x],by simp[hrow,hx]⟩
  have hgd:gb.getD x 0=to:=by simp[List.getD_eq_getElem?_getD,ht]
  have hlt:=hto to (List.mem_of_getElem? ht)
  rw[hd,Md,hgd] at hl
  have Ba:=yS (x:=x) (r:=(O',row)) hlt hO'
  refine .inl ⟨_,?_,Hi x to (O',row),Ba.1,by rw[Ba.2.1];exact hr',?_,rfl,hl⟩
  ·by_cases h0:to < 0
   ·have e:Hi x to (O',row)=(O',row):=by simp[Hi,h0]
    rw[e]
    exact sQ call R0 R1 S nl nr fr sets C n L M O' out no J k gb row x to q hx ht h0
   ·have hlen:=hO'.len
    cases hi:Tt to O' 0 with
    |some j=>
     have e:Hi x to (O',row)=(O',row.set x j):=by simp[Hi,h0,hi]
     rw[e]
     exact NT call R0 R1 S nl nr fr sets C n L M O' out no J k gb row x to q hx ht hq13 hr' h0 hi
    |none=>
     have e:Hi x to (O',row)=(O'++[to],row.set x O'.length):=by simp[Hi,h0,hi]
     rw[e]
     exact RT call R0 R1 S nl nr fr sets C n L M O' out no J k gb row x to q hx ht hq13 hr' h0 hi (by simp only at hlen;omega)
  ·obtain⟨t2,h2⟩:=Ba.2.2
   exact⟨tl++t2,by rw[h2,←List.append_assoc,←htl]⟩
 ·rintro t ⟨⟨O',row⟩,hO',hr',htl,rfl,hl⟩
  rw[List.drop_eq_nil_of_le (by rw[← hxs,List.length_range];exact Nat.le_refl _),Md] at hl
  rw[hl]
  refine⟨.exit 2,_,?_,rfl,rfl,rfl,hO',hr',htl⟩
  have e1:decide (((256:Nat):Int) < 256)=false:=by decide
  simp -implicitDefEqProofs only[SP,SA,SQ,sevalprocAttr,-List.reduceReplicate,ma,tc,e1,Gx]
abbrev JA (k:Int) (O:List Int):Tr:=
 ((((((Tr.lf.set 6 (.pv (i64 k))).set 5 (.ptr 11 0)).set 4 (.uq 10 false 1 (O.map i64))).set 3 (.mp 9)).set 2 (.ptr 8 0)).set 0 (.ptr 3 0))
def bg (C:List Int) (o:Int) (O:List Int):List Int×List Int:=Md (Va C o.toNat) (List.range 256) (O,Va C o.toNat)
theorem NL (O:List Int) (out:List PV) (no:Bool) (J:List ba) (k:Nat) (o:Int)
 (hC:C.length=n * 256) (cC:∀ c∈C,c < n) (hfr:fr≤n * 256) (hO:Av n O) (hn:n≤64) (hk:O[k]? =some o) (hout:out.length=k):
 ma (qa call jd) (fun s=>some (tidy [0,2,3,4,5,6] s)) ⟨JA k O,yn R0 R1 S nl nr fr sets C n L M O out no J⟩=
  some (.norm,⟨JA (k+1:Nat) (bg C o O).1,yn R0 R1 S nl nr fr sets C n L M (bg C o O).1 (out++[je (Xf (bg C o O).2)]) false (J++[.box (Ja (bg C o O).2)])⟩)∧
  Av n (bg C o O).1∧∃ t,(bg C o O).1=O++t:=by
 have hom:=hO.2 o (List.mem_of_getElem? hk)
 have hkl:=(List.getElem?_eq_some_iff.1 hk).1
 have hOl:=hO.len
 have hoi:o.toNat < n:=by omega
 have hr0:=Lh hC hoi
 obtain⟨hin,g1,g2,g3⟩:=RM call R0 R1 S nl nr fr sets C n L M O out no J k (Va C o.toNat) _ rfl hO hn hr0 (fun to h=>cC to (List.mem_of_mem_drop (List.mem_of_mem_take h)))
 refine⟨?_,g1,g3⟩
 unfold bg
 generalize Md (Va C o.toNat) (List.range 256) (O,Va C o.toNat)=r at *
 obtain⟨O',row'⟩:=r
 simp only at g1 g2 g3 hin
 have hed:=wP row' g2
 have hlen:(O.map i64).length=O.length:=by simp
 have e1:decide ((k:Int) < (O.length:Int))=true:=Fa (by omega)
 have t1:((k:Int)).toNat=k:=by simp
 have hq1:Ga (k:Int) O.length:=by unfold Ga;omega
 have hg:(O.map i64)[k]? =some (i64 o):=by rw[List.getElem?_map,hk];rfl
 have hq3:Ga o n:=by unfold Ga;omega
 have w2:jh 256 n fr (Ja C).length:=by rw[ib];unfold jh;omega
 have w4:((Ja C).length=n * 256)=True:=by rw[ib];exact eq_true hC
 have w6:(o.toNat * 256+256≤(Ja C).length)=True:=by rw[ib];exact eq_true (by omega)
 have p1:=nF C o.toNat
 have t2:=eb (i:=k) (n:=64) (by omega) (by unfold maxLen;omega)
 have h9:((Va C o.toNat).map i64).map AV.pv=Ja (Va C o.toNat):=(dt _).symm
 have hz:=UX
 have p5:(256≤(Ja (List.replicate 256 0)).length)=True:=by rw[ib,List.length_replicate];exact eq_true (Nat.le_refl _)
 have p6:ga (Ja (List.replicate 256 0)) 0 (Ja (Va C o.toNat))=Ja (Va C o.toNat):=by
  have:=zy (Ja (Va C o.toNat)) (Ja (List.replicate 256 0)) [] (by rw[ib,ib,hr0,List.length_replicate])
  rw[List.nil_append,List.nil_append] at this;exact this
 generalize hzs:List.replicate 256 (0:Int)=zs at *
 generalize Va C o.toNat=gb at *
 have r0:((Ja gb).length=256)=True:=by rw[ib,hr0];exact eq_self _
 have r1:(256≤(Ja gb).length)=True:=by rw[ib,hr0];exact eq_true (Nat.le_refl _)
 have r2:List.take 256 (Ja gb)=Ja gb:=List.take_of_length_le (by rw[ib,hr0];exact Nat.le_refl _)
 have r3:=yt gb
 have r5:=pF gb
 have s1:(256≤(Ja row').length)=True:=by rw[ib,g2];exact eq_true (Nat.le_refl _)
 have s2:List.take 256 (Ja row')=Ja row':=List.take_of_length_le (by rw[ib,g2];exact Nat.le_refl _)
 have s3:=yt row'
 have q1:ab (out.length+1) 24:=by unfold ab;omega
 have hlen2:(out++[je (Xf row')]).length=out.length+1:=by simp
 unfold yn
 rw[hlen2]
 have hcs:(∃ l,je (Xf row')= .lit 3 l)∨je (Xf row')= .fa:=by unfold je;split;exact .inr rfl;exact .inl ⟨_,rfl⟩
 generalize je (Xf row')=ed at *
 simp only[Gx,yn,mi,tidy,Jc] at hin
 simp -implicitDefEqProofs only[SP,SA,SQ,sevalprocAttr,-List.reduceReplicate,ma,jd,hlen,e1,eq_true hq1,eq_true hq3,t1,hg,eq_true w2,w4,w6,p1,h9,hz,p5,p6,r0,r1,r2,r3,r5,Vn,Un,wa,Fp,tidy,Jc,JA,mi]
 rw[hin]
 rcases hcs with⟨l,rfl⟩ | rfl <;>
 simp -implicitDefEqProofs only[SP,SA,SQ,sevalprocAttr,-List.reduceReplicate,t2,s1,s2,s3,hed,Eg,Hc,eq_true q1,Vn,Un,wa,tidy,Jc,JA,mi,yi,AV.KC,AV.Lo]
def ej (C:List Int):Nat→List Int×List (List Af)→List Int×List (List Af)
 |0,r=>r
 |f+1,r=>match r.1[r.2.length]? with
  |none=>r
  |some o=>ej C f ((bg C o r.1).1,r.2++[Xf (bg C o r.1).2])
theorem aq {C:List Int} {f:Nat} {r:List Int×List (List Af)} (h:r.1[r.2.length]? =none):ej C f r=r:=by
 cases f with
 |zero=>rfl
 |succ f=>rw[ej,h]
theorem Vq {C:List Int} {f:Nat} {r:List Int×List (List Af)} {o:Int} (h:r.1[r.2.length]? =some o):ej C (f+1) r=ej C f ((bg C o r.1).1,r.2++[Xf (bg C o r.1).2]):=by
 rw[ej,h]
def cn (C:List Int):List (List Af):=(ej C 64 ([0],[])).2
def El (l:List (List Af)):PV:= .lit 1 (l.map je)
theorem iG (O:List Int) (out:List PV) (no:Bool) (J:List ba) (k:Nat) (hk:k=O.length):
 ma (qa call jd) (fun s=>some (tidy [0,2,3,4,5,6] s)) ⟨JA k O,yn R0 R1 S nl nr fr sets C n L M O out no J⟩=
  some (.exit 0,⟨((((JA k O).set 15 (.pv (i64 k))).set 16 (.uq 10 false 1 (O.map i64))).set 17 (.pv (i64 O.length))).set 18 (.pv (.bool false)),yn R0 R1 S nl nr fr sets C n L M O out no J⟩):=by
 have hlen:(O.map i64).length=O.length:=by simp
 have e1:decide ((k:Int) < (O.length:Int))=false:=Ha (by omega)
 simp -implicitDefEqProofs only[SP,SA,SQ,sevalprocAttr,-List.reduceReplicate,ma,jd,hlen,e1,JA,yn,mi]
theorem ZP (hC:C.length=n * 256) (cC:∀ c∈C,c < n) (hfr:fr≤n * 256) (hn:n≤64) (h0:0 < n):
 ∃ O J k,pb (ma (qa call jd) (fun s=>some (tidy [0,2,3,4,5,6] s))) pa ⟨JA 0 [0],yn R0 R1 S nl nr fr sets C n L M [0] [] true []⟩=
  some (.exit 0,⟨((((JA k O).set 15 (.pv (i64 k))).set 16 (.uq 10 false 1 (O.map i64))).set 17 (.pv (i64 O.length))).set 18 (.pv (.bool false)),yn R0 R1 S nl nr fr sets C n L M O ((cn C).map je) false J⟩):=by
 have key:=Ck (g:=ma (qa call jd) (fun s=>some (tidy [0,2,3,4,5,6] s)))
  (fun k t=>∃ (O:List Int) (out:List (List Af)) (J:List ba),Av n O∧out.length=k∧k≤O.length∧0 < O.length∧t=⟨JA k O,yn R0 R1 S nl nr fr sets C n L M O (out.map je) (k==0) J⟩∧ej C 64 ([0],[])=ej C (64 - k) (O,out))
  (fun ex t=>∃ (O:List Int) (J:List ba) (k:Nat),ex= .exit 0∧t=⟨((((JA k O).set 15 (.pv (i64 k))).set 16 (.uq 10 false 1 (O.map i64))).set 17 (.pv (i64 O.length))).set 18 (.pv (.bool false)),yn R0 R1 S nl nr fr sets C n L M O ((cn C).map je) false J⟩)
  pa 64 0 ⟨JA (0:Nat) [0],yn R0 R1 S nl nr fr sets C n L M [0] [] true []⟩ (by unfold pa;omega) (by omega)
   ⟨[0],[],[],⟨by simp,by intro o ho;simp at ho;omega⟩,rfl,by simp,by simp,rfl,rfl⟩ ?_ ?_
 ·obtain⟨ex,t,h,_,O,J,k,rfl,rfl⟩:=key
  exact⟨O,J,k,h⟩
 ·rintro k hk t ⟨O,out,J,hO,hout,hkO,hO0,rfl,hl⟩
  by_cases hlt:k < O.length
  ·obtain⟨o,ho⟩:∃ o,O[k]? =some o:=⟨O[k],by simp[hlt]⟩
   obtain⟨g1,g2,t,g3⟩:=NL call R0 R1 S nl nr fr sets C n L M O (out.map je) (k==0) J k o hC cC hfr hO hn ho (by simpa using hout)
   rw[show 64 - k=(64 - (k+1))+1 by omega,Vq (r:=(O,out)) (o:=o) (by show O[out.length]? =_;rw[hout];exact ho)] at hl
   refine .inl ⟨_,g1,_,out++[Xf (bg C o O).2],J++[.box (Ja (bg C o O).2)],g2,by simp[hout],?_,?_,?_,hl⟩
   ·rw[g3];simp;omega
   ·rw[g3];simp;omega
   ·have:(k+1==0)=false:=rfl
    rw[this];simp
  ·have hke:k=O.length:=by omega
   rw[aq (r:=(O,out)) (by show O[out.length]? =none;rw[hout,hke];simp)] at hl
   refine .inr ⟨.exit 0,_,iG call R0 R1 S nl nr fr sets C n L M O _ _ J k hke,rfl,O,J,k,rfl,?_⟩
   have:(k==0)=false:=by simp;omega
   rw[this,cn,hl]
 ·rintro t ⟨O,out,J,hO,hout,hkO,hO0,rfl,hl⟩
  have hke:64=O.length:=by have:=hO.len;omega
  rw[aq (r:=(O,out)) (by show O[out.length]? =none;rw[hout,hke];simp)] at hl
  refine⟨.exit 0,_,iG call R0 R1 S nl nr fr sets C n L M O _ _ J 64 hke,rfl,O,J,64,rfl,?_⟩
  have:((64:Nat)==0)=false:=rfl
  rw[this,cn,hl]
theorem XR (hC:C.length=n * 256) (cC:∀ c∈C,c < n) (hfr:fr≤n * 256) (hn:n≤64) (h0:0 < n):
 ∃ O J,xe call Zi [.ptr 3 0] (mi R0 R1 S nl nr fr sets C n [L,M])=
  some (.agg [.uq 12 false 1 ((cn C).map je)],mi R0 R1 S nl nr fr sets C n (L::M:: .box [.uq 12 false 1 ((cn C).map je)]:: .map (rK O 0):: .tok 1 O.length false:: .box [.uq 12 false 1 ((cn C).map je)]:: .tok 1 ((cn C).map je).length false::J)):=by
 obtain⟨O,J,k,hl⟩:=ZP call R0 R1 S nl nr fr sets C n L M hC cC hfr hn h0
 refine⟨O,J,?_⟩
 generalize (cn C).map je=out at *
 have hl':pb (ma (qa call jd) (fun s=>some ⟨((((((Tr.lf.set 6 (s.env.get 6)).set 5 (s.env.get 5)).set 4 (s.env.get 4)).set 3 (s.env.get 3)).set 2 (s.env.get 2)).set 0 (s.env.get 0)),s.H⟩)) pa
  ⟨((((((Tr.lf.set 6 (.pv (.int .i64 0))).set 5 (.ptr 11 0)).set 4 (.uq 10 false 1 [.int .i64 0])).set 3 (.mp 9)).set 2 (.ptr 8 0)).set 0 (.ptr 3 0)),[R0,R1,.map (GC sets 0),.box [.pv S,.mp 2,.uq 4 nl 2 (sets.map ei),.own 5 n],.tok 2 sets.length nl,.seq 256 true (Ja C) fr nr,L,M,.box [.pv .fa],.map [(.int .i64 0,.int .i64 0)],.tok 1 1 false,.box [.uq 12 true 1 []],.tok 1 0 true]⟩=_:=hl
 simp only[JA,yn,mi] at hl'
 simp -implicitDefEqProofs only[SP,SA,SQ,sevalprocAttr,-List.reduceReplicate,Zi,ff,Fp,tidy,Jc,Yl,zk,Mq,Option.isSome_some,yi,AV.KC,AV.Lo,mi]
 rw[hl']
 simp -implicitDefEqProofs only[SP,SA,SQ,sevalprocAttr,-List.reduceReplicate,mi]
end
end Go.AM.B1
namespace Go.AM.B1
open Go.AM
def iq (n:Nat):Int:=IntKind.u32.wrap (IntKind.u32.wrap (1 * 2 ^ min n IntKind.u32.bits) - 1)
theorem LD (n:Nat):IntKind.u32.wrap (IntKind.u32.wrap (1 * 2 ^ min n IntKind.u32.bits) - 1)=iq n:=rfl
theorem gD {n:Nat} (h:n≤32):iq n=((2 ^ n - 1:Nat):Int):=by
 have:∀ n:Fin 33,iq n.1=((2 ^ n.1 - 1:Nat):Int):=by decide
 exact this ⟨n,by omega⟩
theorem AN {a:Al}:∀ {l:List Al} {k i:Nat},Nl a l k=some i→i < k+l.length
 |b::l,k,i,h=>by
  simp only[Nl] at h
  split at h
  ·injection h with h;simp;omega
  ·have:=AN h;simp;omega
theorem fT {ss:List qc} {a:Al} {x:Int} {sets:List Al} {r:List Al×Int} (h:Qg ss a x sets=some r):r.2 < r.1.length:=by
 unfold Qg at h
 split at h
 ·injection h with h;subst h;simp;omega
 ·split at h
  ·injection h with h;subst h;simp;omega
  ·split at h
   ·next k hk=>injection h with h;subst h;have:=AN hk;simp at this;simp;omega
   ·split at h
    ·injection h with h;subst h;simp;omega
    ·cases h
theorem rN {ss:List qc} {a:Al}:∀ (xs:List Nat) (r r':List Al×List Int),r.1.length≤64→(∀ v∈r.2,v < r.1.length)→Hk ss a xs r=some r'→∀ v∈r'.2,v < r'.1.length
 | [],r,r',_,h,e=>by injection e with e;subst e;exact h
 |x::xs,r,r',hl,h,e=>by
  cases hst:Qg ss a x r.1 with
  |none=>rw[Nt hst] at e;cases e
  |some p=>
   rw[au hst] at e
   have hg:=RB hst hl
   refine rN xs (p.1,r.2.set x p.2) r' hg.1 ?_ e
   intro v hv
   obtain⟨t,ht⟩:=hg.2
   rcases List.mem_or_eq_of_mem_set hv with h1 | h1
   ·have h2:=h v h1
    have:r.1.length≤p.1.length:=by rw[ht];simp
    simp only;omega
   ·rw[h1];exact fT hst
theorem WJ {ss:List qc} (hw:ss.length≤32):∀ (k:Nat) (r r':List Al×List (List Int)),sm ss r.1→(∀ l∈r.2,∀ v∈l,v < r.1.length)→Ng ss k r=some r'→(∀ l∈r'.2,∀ v∈l,v < r'.1.length)∧∃ t,r'.1=r.1++t
 |0,r,r',_,h,e=>by injection e with e;subst e;exact⟨h,[],by simp⟩
 |k+1,r,r',Ba,h,e=>by
  cases ha:r.1[r.2.length]? with
  |none=>rw[Rs ha] at e;injection e with e;subst e;exact⟨h,[],by simp⟩
  |some a=>
   cases hr:Hk ss a (List.range 256) (r.1,gb) with
   |none=>rw[nu ha hr] at e;cases e
   |some p=>
    rw[vu ha hr] at e
    obtain⟨g1,⟨t,g2⟩,g3⟩:=ru hw (List.range 256) (r.1,gb) p Ba ha hr
    have hpos:0 < r.1.length:=by have:=(List.getElem?_eq_some_iff.1 ha).1;omega
    have g4:=rN (List.range 256) (r.1,gb) p Ba.1 (by
     intro v hv
     have:v=0:=List.eq_of_mem_replicate hv
     simp only;omega) hr
    obtain⟨k1,t2,k2⟩:=WJ hw k (p.1,r.2++[p.2]) r' g1 (by
     intro l hl v hv
     rcases List.mem_append.1 hl with h1 | h1
     ·have:=h l h1 v hv
      simp only[g2,List.length_append] at this ⊢;omega
     ·simp at h1;subst h1;exact g4 v hv) e
    exact⟨k1,t++t2,by rw[k2,g2,List.append_assoc]⟩
theorem EA:∀ (rs:List (List Int)),Ja rs.flatten=rs.flatMap Ja
 | []=>rfl
 |r::rs=>by
  have:=EA rs
  rw[List.flatten_cons,xE,List.flatMap_cons,this]
def Pg (ss:List qc):List Al:=[(0,iq ss.length)]
theorem az {ss:List qc} (hw:ss.length≤32) (hne:∀ s∈ss,0 < s.parts.length):sm ss (Pg ss):=by
 refine⟨by simp[Pg],?_⟩
 intro k a ha
 match k,ha with
 |0,ha=>
  simp only[Pg,List.getElem?_cons_zero,Option.some.injEq] at ha
  subst ha
  refine⟨by simp,2 ^ ss.length - 1,gD hw,?_,?_⟩
  ·have:2 ^ ss.length≤2 ^ 32:=Nat.pow_le_pow_right (by decide) hw
   omega
  ·intro i s hs _
   exact hne s (List.mem_of_getElem? hs)
 |k+1,ha=>simp[Pg] at ha
section
variable (R0 R1:ba) (S:PV) (ss:List qc)
 (h0:oa 7 R0=some R0) (h1:oa 7 R1=some R1) (g0:oa 6 R0=some R0) (g1:oa 6 R1=some R1)
 (hS:Vh 2 S (ss.map We)) (hw:ss.length≤32) (hsz:∀ s∈ss,∀ l∈s.parts,l.length * 16≤140737488355328) (hne:∀ s∈ss,0 < s.parts.length)
include h0 h1 g0 g1 hS hw hsz hne
theorem MJ:
 (∀ r,Ng ss 64 (Pg ss,[])=some r→∃ nl',xe (Ca Da 7) xg [.ptr 3 0] (Gj R0 R1 S true [] (Yg []) 0 [])=some (.pv (.bool true),Gj R0 R1 S nl' r.1 (Yg r.2) r.2.length [])∧sm ss r.1∧r.2.length=r.1.length∧∀ r'∈r.2,r'.length=256)∧
 (Ng ss 64 (Pg ss,[])=none→∃ H,xe (Ca Da 7) xg [.ptr 3 0] (Gj R0 R1 S true [] (Yg []) 0 [])=some (.pv (.bool false),H)∧H[0]? =some R0):=by
 have hloop:=IQ R0 R1 S false (Pg ss) ss h0 h1 g0 g1 hS hw hsz (az hw hne) (by simp[Pg])
 have ls:=hS.len
 simp only[List.length_map] at ls
 have hmet:xe (Ca Da 6) ie [.ptr 3 0,.pv (.agg [.int .i64 0,.int .u32 (iq ss.length)])] [R0,R1,.map (GC [] 0),.box [.pv S,.mp 2,.uq 4 true 2 [],.own 5 0],.tok 2 0 true,.seq 256 true [] 0 true]=some (.pv (.ic [.int .i64 0,.bool true]),Gj R0 R1 S false [(0,iq ss.length)] (Yg []) 0 []):=
  oO (Ca Da 6) R0 R1 S true [] (Yg []) 0 [] (0,iq ss.length) rfl (by simp)
 have n0:¬((ss.length:Int) < 0):=by omega
 have t1:((ss.length:Int)).toNat=ss.length:=by simp
 have e1:((ss.length:Int) < 0)=False:=eq_false n0
 have q5:=Cw 6 6 []
 simp only[List.flatMap_nil] at q5
 simp only[Gj,Yg,List.flatMap_nil,List.isEmpty_nil] at hmet
 unfold Gj Yg
 constructor
 ·intro r hr
  obtain⟨E,nl',hl,k1,k2,k3⟩:=hloop.1 r hr
  refine⟨nl',?_,k1,k2,k3⟩
  simp -implicitDefEqProofs only[SP,SA,SQ,sevalprocAttr,-List.reduceReplicate,xg,ls,e1,t1,LD,Da,List.flatMap_nil,hmet,Fb,na,za,Bm,Sm,Wm,Ps,Qa,AV.cut,Hc,h0,h1,g0,g1,q5,Gj]
  have hl':pb (ma (qa (Ca Da 7) wb) (na 6 [0,3])) pa ⟨(Tr.lf.set 3 (.pv (.int .i64 0))).set 0 (.ptr 3 0),[R0,R1,.map (GC [(0,iq ss.length)] 0),.box [.pv S,.mp 2,.uq 4 false 2 [ei (0,iq ss.length)],.own 5 0],.tok 2 1 false,.seq 256 true [] 0 true]⟩=_:=hl
  rw[hl']
  simp -implicitDefEqProofs only[SP,SA,SQ,sevalprocAttr,-List.reduceReplicate,Gj,Yg]
 ·intro hr
  obtain⟨t,hl,k2,k3⟩:=Tq (hloop.2 hr)
  refine⟨t.H,?_,k3⟩
  simp -implicitDefEqProofs only[SP,SA,SQ,sevalprocAttr,-List.reduceReplicate,xg,ls,e1,t1,LD,Da,List.flatMap_nil,hmet,Fb,na,za,Bm,Sm,Wm,Ps,Qa,AV.cut,Hc,h0,h1,g0,g1,q5,Gj]
  have hl':pb (ma (qa (Ca Da 7) wb) (na 6 [0,3])) pa ⟨(Tr.lf.set 3 (.pv (.int .i64 0))).set 0 (.ptr 3 0),[R0,R1,.map (GC [(0,iq ss.length)] 0),.box [.pv S,.mp 2,.uq 4 false 2 [ei (0,iq ss.length)],.own 5 0],.tok 2 1 false,.seq 256 true [] 0 true]⟩=_:=hl
  rw[hl']
  simp -implicitDefEqProofs only[SP,SA,SQ,sevalprocAttr,-List.reduceReplicate,k2]
end
def oh (ss:List qc):Option (List (List Af)):=
 (Ng ss 64 (Pg ss,[])).map fun r=>cn (Te r.2.length r.2.flatten).C
section
variable (S0 S:PV) (ss:List qc) (hS0:S0= .fa∨∃ l,S0= .lit 2 l) {y:Bool} {a b e:Int}
include hS0
theorem dP (he:e≠0) (hp:Ve [.agg [S0]]=some (.ic [.agg [.bool y,i64 a,i64 b],i64 e])):
 Ic [.agg [S0]]=some (.ic [.agg [.fa],i64 e]):=by
 have e1:=zi he
 rcases hS0 with rfl | ⟨l,rfl⟩ <;>
 simp -implicitDefEqProofs only[Ic,SP,SA,SQ,sevalprocAttr,-List.reduceReplicate,Xk,hp,e1,bne,Eg,Hc]
theorem FT (hp:Ve [.agg [S0]]=some (.ic [.agg [.bool false,i64 a,i64 b],i64 0])):
 Ic [.agg [S0]]=some (.ic [.agg [.fa],i64 110]):=by
 rcases hS0 with rfl | ⟨l,rfl⟩ <;>
 simp -implicitDefEqProofs only[Ic,SP,SA,SQ,sevalprocAttr,-List.reduceReplicate,Xk,hp,bne,Eg,Hc]
variable (hp:Ve [.agg [S0]]=some (.ic [.agg [.bool true,i64 a,i64 b],i64 0])) (hc:Yi [.agg [S0]]=some (.agg [S]))
 (hS:Vh 2 S (ss.map We)) (hw:ss.length≤32) (hsz:∀ s∈ss,∀ l∈s.parts,l.length * 16≤140737488355328) (hne:∀ s∈ss,0 < s.parts.length)
include hp hc hS hw hsz hne
theorem yM (h:oh ss=none):Ic [.agg [S0]]=some (.ic [.agg [.fa],i64 130]):=by
 have hn:Ng ss 64 (Pg ss,[])=none:=by unfold oh at h;simpa using h
 obtain⟨H,hwk,hH⟩:=(MJ (.box [.pv .fa]) (.box [.pv (.bool true),.pv (i64 a),.pv (i64 b)]) S ss rfl rfl rfl rfl hS hw hsz hne).2 hn
 have hb0:Gj (.box [.pv .fa]) (.box [.pv (.bool true),.pv (i64 a),.pv (i64 b)]) S true [] (Yg []) 0 []=[.box [.pv .fa],.box [.pv (.bool true),.pv (i64 a),.pv (i64 b)],.map [],.box [.pv S,.mp 2,.uq 4 true 2 [],.own 5 0],.tok 2 0 true,.seq 256 true [] 0 true]:=rfl
 rw[hb0] at hwk
 have hS2:S= .fa∨∃ l,S= .lit 2 l:=by rcases hS with⟨h,_⟩ | h;exact .inl h;exact .inr ⟨_,h⟩
 have hH2:∀ o,(H.set 0 o)[0]? =some o:=by
  intro o
  cases H with
  |nil=>cases hH
  |cons x H=>rfl
 rcases hS0 with rfl | ⟨l,rfl⟩ <;> rcases hS2 with rfl | ⟨l2,rfl⟩ <;>
 simp -implicitDefEqProofs only[Ic,SP,SA,SQ,sevalprocAttr,-List.reduceReplicate,Xk,hp,hc,hwk,hH,hH2,Da,ff,yi,AV.KC,AV.Lo,bne,Eg,Hc]
theorem CS {l:List (List Af)} (h:oh ss=some l):Ic [.agg [S0]]=some (.ic [.agg [El l],i64 0]):=by
 obtain⟨r,hn,hl⟩:∃ r,Ng ss 64 (Pg ss,[])=some r∧cn (Te r.2.length r.2.flatten).C=l:=by
  unfold oh at h;simpa using h
 obtain⟨nl,hwk,k1,k2,k3⟩:=(MJ (.box [.pv .fa]) (.box [.pv (.bool true),.pv (i64 a),.pv (i64 b)]) S ss rfl rfl rfl rfl hS hw hsz hne).1 r hn
 have hb0:Gj (.box [.pv .fa]) (.box [.pv (.bool true),.pv (i64 a),.pv (i64 b)]) S true [] (Yg []) 0 []=[.box [.pv .fa],.box [.pv (.bool true),.pv (i64 a),.pv (i64 b)],.map [],.box [.pv S,.mp 2,.uq 4 true 2 [],.own 5 0],.tok 2 0 true,.seq 256 true [] 0 true]:=rfl
 have hb1:Gj (.box [.pv .fa]) (.box [.pv (.bool true),.pv (i64 a),.pv (i64 b)]) S nl r.1 (Yg r.2) r.2.length []=mi (.box [.pv .fa]) (.box [.pv (.bool true),.pv (i64 a),.pv (i64 b)]) S nl r.2.isEmpty 0 r.1 r.2.flatten r.2.length []:=by
  unfold Gj mi Yg;rw[EA]
 rw[hb0,hb1] at hwk
 have hlt:=WJ hw 64 (Pg ss,[]) r (az hw hne) (by simp) hn
 have hpos:0 < r.1.length:=by obtain⟨t,ht⟩:=hlt.2;rw[ht];simp[Pg]
 have hC:r.2.flatten.length=r.2.length * 256:=by
  have:=VE k3
  rw[← EA,ib] at this;exact this
 have cC:∀ c∈r.2.flatten,c < (r.2.length:Int):=by
  intro c hc
  obtain⟨l,h1,h2⟩:=List.mem_flatten.1 hc
  rw[k2];exact hlt.1 l h1 c h2
 have h64:r.2.length≤64:=by rw[k2];exact k1.1
 have h0:0 < r.2.length:=by omega
 obtain⟨fr,fk,v,hf,hls⟩:=XP (Ca Da 7) (.box [.pv .fa]) (.box [.pv (.bool true),.pv (i64 a),.pv (i64 b)]) S nl r.2.isEmpty r.1 r.2.flatten r.2.length h64 h0 k2.symm hC cC
 have Ba:HX r.2.length (Te r.2.length r.2.flatten):=sD _ _ (Nat.le_refl _) ⟨hC,by simp,cC,by intro c hc;rw[List.eq_of_mem_replicate hc];omega,by simp⟩
 obtain⟨O,J,htd⟩:=XR (Ca Da 7) (.box [.pv .fa]) (.box [.pv (.bool true),.pv (i64 a),.pv (i64 b)]) S nl r.2.isEmpty fr r.1 (Te r.2.length r.2.flatten).C r.2.length (.seq 1 false (Ja (Te r.2.length r.2.flatten).Dc) fk false) (.map (Ss (Te r.2.length r.2.flatten).M)) Ba.hC Ba.cC (by omega) h64 h0
 rw[hl] at htd
 unfold El
 generalize l.map je=out at *
 generalize Te r.2.length r.2.flatten=g at *
 simp only[mi] at hwk hls htd
 have hS2:S= .fa∨∃ l,S= .lit 2 l:=by rcases hS with⟨h,_⟩ | h;exact .inl h;exact .inr ⟨_,h⟩
 rcases hS0 with rfl | ⟨l,rfl⟩ <;> rcases hS2 with rfl | ⟨l2,rfl⟩ <;>
 simp -implicitDefEqProofs only[Ic,SP,SA,SQ,sevalprocAttr,-List.reduceReplicate,Xk,hp,hc,hwk,hls,htd,Da,ff,yi,AV.KC,AV.Lo,bne,Eg,Hc]
end
end Go.AM.B1
namespace Go.AM.B1
open Go.AM Go.AM.So
structure Tn (v:PV) (l:List (Int×Int)):Prop where
 is:Vh 2 v (Xd l)
 sz:l.length * 16≤140737488355328
structure Df (P:PV) (ls:List (List (Int×Int))) (ps:List PV):Prop where
 is:Vh 1 P ps
 len:ps.length=ls.length
 all:∀ (k:Nat) v l,ps[k]? =some v→ls[k]? =some l→Tn v l
 sz:ls.length≤maxLen
structure zf (e:PV) (s:qc) (P:PV) (ps:List PV):Prop where
 eq:e= .agg [P,i64 s.first]
 parts:Df P s.parts ps
structure Za (S:PV) (ss:List qc) (es:List PV):Prop where
 is:Vh 2 S es
 len:es.length=ss.length
 all:∀ (k:Nat) e s,es[k]? =some e→ss[k]? =some s→∃ P ps,zf e s P ps
 sz:ss.length≤maxLen
theorem Df.get {P:PV} {ls:List (List (Int×Int))} {ps:List PV} (h:Df P ls ps) {i:Nat} (hi:i < ls.length):∃ v,ps[i]? =some v∧P= .lit 1 ps∧Tn v ls[i]:=by
 have h1:i < ps.length:=by rw[h.len];exact hi
 refine⟨ps[i],List.getElem?_eq_getElem h1,h.is.lit (i:=i) h1,h.all i _ _ (List.getElem?_eq_getElem h1) (List.getElem?_eq_getElem hi)⟩
theorem Za.get {S:PV} {ss:List qc} {es:List PV} (h:Za S ss es) {i:Nat} (hi:i < ss.length):∃ e P ps,es[i]? =some e∧S= .lit 2 es∧zf e ss[i] P ps:=by
 have h1:i < es.length:=by rw[h.len];exact hi
 obtain⟨P,ps,hp⟩:=h.all i _ _ (List.getElem?_eq_getElem h1) (List.getElem?_eq_getElem hi)
 exact⟨es[i],P,ps,List.getElem?_eq_getElem h1,h.is.lit (i:=i) h1,hp⟩
theorem Df.Tb {P:PV} {ls:List (List (Int×Int))} {ps:List PV} (h:Df P ls ps) (H:List ba):Tb H 0 (.pv P)=some ls.length:=by
 rw[h.is.len,h.len]
theorem Za.Tb {S:PV} {ss:List qc} {es:List PV} (h:Za S ss es) (H:List ba):Tb H 0 (.pv S)=some ss.length:=by
 rw[h.is.len,h.len]
def Bd (l:List (Int×Int)):Prop:=l≠[]∧Na 255 (-2) l=true
instance (l:List (Int×Int)):Decidable (Bd l):=by unfold Bd;infer_instance
def wh:Int→List (List (Int×Int))→Int
 |n,[]=>n
 |n,l::r=>wh (if 1073741825 < n * oc 0 l then 1073741825 else n * oc 0 l) r
def ai (s:qc):Int:=s.first+wh 1 s.parts - 1
theorem zg {l:List (Int×Int)} (h:Bd l):1≤oc 0 l∧oc 0 l≤256:=by
 have:=(Uq h.2).2.1 h.1;omega
theorem ax {n s:Int} (h1:1≤n) (h2:n≤1073741825) (h3:1≤s) (h4:s≤256):1≤n * s∧n * s≤274877907200:=by
 constructor
 ·have:=Int.mul_le_mul h1 h3 (by omega) (by omega);omega
 ·have:=Int.mul_le_mul h2 h4 (by omega) (by omega);omega
theorem Vl:∀ (ls:List (List (Int×Int))) (n:Int),(∀ l∈ls,Bd l)→1≤n→n≤1073741825→1≤wh n ls∧wh n ls≤1073741825
 | [],n,_,h1,h2=>⟨h1,h2⟩
 |l::r,n,h,h1,h2=>by
  have hs:=zg (h l (by simp))
  have hm:=ax h1 h2 hs.1 hs.2
  rw[wh]
  refine Vl r _ (fun x hx=>h x (by simp[hx])) ?_ ?_ <;> split <;> omega
abbrev aL (row:List PV) (P:PV) (len i n:Int):Tr:=((((Tr.lf.set 9 (.pv (i64 i))).set 8 (.pv (i64 len))).set 7 (.pv P)).set 3 (.pv (i64 n))).set 1 (.pv (.rp row 0))
theorem iJ {e:PV} {s:qc} {P:PV} {ps:List PV} (h:zf e s P ps) (Ba:∀ l∈s.parts,Bd l) (hf:0≤s.first∧s.first≤1073741823):Dn [e]=some (i64 (ai s)):=by
 obtain⟨rfl,hP⟩:=h
 have hb:=Vl s.parts 1 Ba (by omega) (by omega)
 have hsz:=hP.sz
 have hloop:Pd (fun r=>∃ E H,r=(.exit 0,⟨E,H⟩)∧E.get 3= .pv (i64 (wh 1 s.parts))∧E.get 1= .pv (.rp [P,i64 s.first] 0))
  (pb (ma (qa (Ca (fun _=>none) 8) Uh) (na 0 [1,3,7,8,9])) pa ⟨aL [P,i64 s.first] P s.parts.length 0 1,[]⟩):=by
  refine ya (Mb (g:=ma (qa (Ca (fun _=>none) 8) Uh) (na 0 [1,3,7,8,9]))
   (fun i t=>∃ n,t=⟨aL [P,i64 s.first] P s.parts.length i n,[]⟩∧1≤n∧n≤1073741825∧wh 1 s.parts=wh n (s.parts.drop i))
   s.parts.length (by unfold pa;unfold maxLen at hsz;omega) _ ⟨1,rfl,by omega,by omega,rfl⟩ ?_ ?_) (fun r h=>h.2)
  ·rintro i t hi ⟨n,rfl,h1,h2,hs⟩
   obtain⟨v,hv,hPl,hpt⟩:=hP.get hi
   have hd:s.parts.drop i=s.parts[i]::s.parts.drop (i+1):=List.drop_eq_getElem_cons hi
   have hpo:=Ba s.parts[i] (List.getElem_mem hi)
   have hss:=zw v s.parts[i] hpt.is hpt.sz hpo.2
   have hsb:=zg hpo
   rw[hd,wh] at hs
   generalize s.parts[i]=l at *
   have hm:=ax h1 h2 hsb.1 hsb.2
   have e1:decide ((i:Int) < (s.parts.length:Int))=true:=Fa (by omega)
   have t2:=eb hi hsz
   have t3:IntKind.i64.wrap (n * oc 0 l)=n * oc 0 l:=Aa (by omega)
   have hq:i < ps.length:=by rw[hP.len];exact hi
   have hcl:v.cells=[v]:=by rcases hpt.is with⟨h,_⟩ | h <;> rw[h] <;> rfl
   have a1:wa [] 1 (.pv P) (i:Int)=some (.pv (.rp [v] 0)):=by
    rw[hPl]
    simp only[wa]
    rw[if_pos (by unfold Ga;simp;omega),Int.toNat_natCast,hv]
    simp[hcl]
   have a2:ta [] false 1 (.pv (.rp [v] 0))=some (.pv v):=rfl
   generalize hQ:LN _ _ i=Q
   simp -implicitDefEqProofs only[SX,sevalprocAttr,Uh,e1,t2,t3,a1,a2,hss,Br,Fe,na,za,AV.cut,ua,aL]
   subst hQ
   exact⟨_,rfl,by split <;> omega,by split <;> omega,hs⟩
  ·rintro t ⟨n,rfl,h1,h2,hs⟩
   rw[List.drop_length,wh] at hs
   have e1:decide ((s.parts.length:Int) < (s.parts.length:Int))=false:=Ha (by omega)
   generalize hQ:(fun r:Ex×St=>r.1.stop=true∧_)=Q
   simp -implicitDefEqProofs only[SX,sevalprocAttr,Uh,e1,aL]
   subst hQ
   exact⟨rfl,_,_,rfl,by simp[Tr.aa,hs],by simp[Tr.aa]⟩
 obtain⟨r,h1,E,H,rfl,hE,hE1⟩:=pc hloop
 have ls:=hP.Tb
 simp only[aL] at h1
 have h1':pb (ma (qa (Ca (fun _=>none) 8) Uh) (na 0 [1,3,7,8,9])) pa ⟨((((Tr.lf.set 9 (.pv (.int .i64 0))).set 8 (.pv (.int .i64 s.parts.length))).set 7 (.pv P)).set 3 (.pv (.int .i64 1))).set 1 (.pv (.rp [P,i64 s.first] 0)),[]⟩=some (.exit 0,⟨E,H⟩):=h1
 unfold ai
 generalize wh 1 s.parts=n at *
 have t1:IntKind.i64.wrap (s.first+n)=s.first+n:=Aa (by omega)
 have t2:IntKind.i64.wrap (s.first+n - 1)=s.first+n - 1:=Aa (by omega)
 have hPv:∃ sz es,P= .fa∨P= .lit sz es:=by rcases hP.is with⟨h,_⟩ | h;exact⟨0,[],.inl h⟩;exact⟨_,_,.inr h⟩
 obtain⟨sz,es,rfl | rfl⟩:=hPv <;>
 simp -implicitDefEqProofs only[Dn,SP,SA,SQ,WP,WQ,sevalprocAttr,Yr,Fb,ls,h1',hE,hE1,t1,t2]
theorem WR (call:Ta) {v:PV} {l:List (Int×Int)} (h:Tn v l) (H:List ba):xe call Sj [.pv v] H=some (.pv (.bool (!decide (Bd l))),H):=by
 have ls:=h.is.len
 simp only[Xd,List.length_map] at ls
 have hv:=sC v l h.is h.sz
 by_cases h0:l=[]
 ·have e1:((l.length:Int)==0)=true:=by simp[h0]
  have e2:(!decide (Bd l))=true:=by
   have:¬Bd l:=fun hp=>hp.1 h0
   simp[this]
  rw[e2]
  simp -implicitDefEqProofs only[SP,SA,SQ,WP,WQ,sevalprocAttr,Sj,ls,e1]
 ·have e1:((l.length:Int)==0)=false:=by
   have:l.length≠0:=fun e=>h0 (List.eq_nil_of_length_eq_zero e)
   exact zi (by omega)
  have e2:(!decide (Bd l))= !(Na 255 (-2) l):=by
   congr 1
   rw[Bool.eq_iff_iff];simp[Bd,h0]
  rw[e2]
  simp -implicitDefEqProofs only[SP,SA,SQ,WP,WQ,sevalprocAttr,Sj,ls,e1,hv]
def Ow (ls:List (List (Int×Int))) (i:Nat):Int:=
 match ls with
 | []=> -1
 |l::r=>if Bd l then Ow r (i+1) else i
theorem PG:∀ (ls:List (List (Int×Int))) (i:Nat),decide (Ow ls i≥0)= !decide (∀ l∈ls,Bd l)
 | [],i=>by simp[Ow]
 |l::r,i=>by
  rw[Ow]
  by_cases h:Bd l
  ·rw[if_pos h,PG r];simp[h]
  ·rw[if_neg h];simp[h]
abbrev dK (P:PV) (len i:Int):Tr:=(((Tr.lf.set 8 (.pv (i64 i))).set 7 (.pv (i64 len))).set 1 (.Sk 7 [])).set 0 (.pv P)
theorem EP {P:PV} {ls:List (List (Int×Int))} {ps:List PV} (hP:Df P ls ps) (d:Nat) (H:List ba) (hH:He H):
 xe (Ca dc (d+1)) Ec [.pv P,.Sk 7 []] H=some (.pv (i64 (Ow ls 0)),H):=by
 have hsz:=hP.sz
 have lsn:=hP.Tb
 have hcut:=He.cut hH
 have h7:dc 7=some Sj:=rfl
 apply Km
 have hloop:Pd (fun r=>∃ E,(r=(.exit 0,⟨E,H⟩)∧Ow ls 0= -1)∨(r=(.ret,⟨E,H⟩)∧E.get 4= .pv (i64 (Ow ls 0))))
  (pb (ma (qa (Ca dc (d+1)) Lb) (na H.length [0,1,7,8])) pa ⟨dK P ls.length 0,H⟩):=by
  refine ya (Mb (g:=ma (qa (Ca dc (d+1)) Lb) (na H.length [0,1,7,8]))
   (fun i t=>t=⟨dK P ls.length i,H⟩∧Ow ls 0=Ow (ls.drop i) i)
   ls.length (by unfold pa;unfold maxLen at hsz;omega) _ ⟨rfl,rfl⟩ ?_ ?_) (fun r h=>h.2)
  ·rintro i t hi ⟨rfl,hs⟩
   obtain⟨v,hv,hPl,hpt⟩:=hP.get hi
   have hd:ls.drop i=ls[i]::ls.drop (i+1):=List.drop_eq_getElem_cons hi
   rw[hd,Ow] at hs
   have hn:=WR (Ca dc d) hpt H
   generalize ls[i]=l at *
   have e1:decide ((i:Int) < (ls.length:Int))=true:=Fa (by omega)
   have t2:=eb hi hsz
   have hq:i < ps.length:=by rw[hP.len];exact hi
   have hcl:v.cells=[v]:=by rcases hpt.is with⟨h,_⟩ | h <;> rw[h] <;> rfl
   have a1:wa H 1 (.pv P) (i:Int)=some (.pv (.rp [v] 0)):=by
    rw[hPl]
    simp only[wa]
    rw[if_pos (by unfold Ga;simp;omega),Int.toNat_natCast,hv]
    simp[hcl]
   have a2:ta H false 1 (.pv (.rp [v] 0))=some (.pv v):=rfl
   generalize hQ:LN _ _ i=Q
   by_cases Ba:Bd l
   ·rw[if_pos Ba] at hs
    rw[decide_eq_true Ba] at hn
    simp -implicitDefEqProofs only[SX,sevalprocAttr,Lb,e1,t2,a1,a2,h7,hn,hcut,List.take_length,na,za,AV.cut,ua,dK]
    subst hQ
    exact⟨rfl,hs⟩
   ·rw[if_neg Ba] at hs
    rw[decide_eq_false Ba] at hn
    simp -implicitDefEqProofs only[SX,sevalprocAttr,Lb,e1,t2,a1,a2,h7,hn,hcut,List.take_length,na,za,AV.cut,ua,dK]
    subst hQ
    exact⟨_,.inr ⟨rfl,by simp[Tr.aa,hs]⟩⟩
  ·rintro t ⟨rfl,hs⟩
   rw[List.drop_length,Ow] at hs
   have e1:decide ((ls.length:Int) < (ls.length:Int))=false:=Ha (by omega)
   generalize hQ:(fun r:Ex×St=>r.1.stop=true∧_)=Q
   simp -implicitDefEqProofs only[SX,sevalprocAttr,Lb,e1,dK]
   subst hQ
   exact⟨rfl,_,.inl ⟨rfl,hs⟩⟩
 simp -implicitDefEqProofs only[SX,sevalprocAttr,Ec,Fb,lsn,hcut,List.take_length,na,za,AV.cut,ua]
 refine ya hloop ?_
 rintro _ ⟨E,⟨rfl,hb⟩ | ⟨rfl,hE⟩⟩
 ·simp -implicitDefEqProofs only[SX,sevalprocAttr,hb]
 ·simp -implicitDefEqProofs only[SX,sevalprocAttr,hE]
theorem Yy {P:PV} {ls:List (List (Int×Int))} {ps:List PV} (hP:Df P ls ps) (d:Nat) (H:List ba) (hH:He H):
 xe (Ca dc (d+2)) Jb [.pv P,.Sk 7 []] H=some (.pv (.bool (!decide (∀ l∈ls,Bd l))),H):=by
 have h:=EP hP d H hH
 have h5:dc 5=some Ec:=rfl
 have hb:=PG ls 0
 simp -implicitDefEqProofs only[SX,sevalprocAttr,Jb,h5,h,hb]
end Go.AM.B1
