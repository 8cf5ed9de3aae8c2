/- What functions of the program compute. -/
import Derived.Test.YtijlhblleiaomaaGreatW5
import Derived.Test.YtijlhblleiaomaaGreatW4
set_option linter.unusedVariables false
set_option linter.unusedSimpArgs false
namespace Go.AM.B1
open Go.AM
def Iu (n:Nat) (O:List Int):Prop:=O.Nodup∧∀ o∈O,0≤o∧o < (n:Int)
theorem uz:∀ (n:Nat) (O:List Int),O.Nodup→(∀ o∈O,0≤o∧o < (n:Int))→O.length≤n
 |0,O,_,h=>by
  cases O with
  |nil=>simp
  |cons a O=>have:=h a (by simp);omega
 |n+1,O,hd,h=>by
  have ih:=uz n (O.erase n) (hd.erase _) (fun o ho=>by
   have h1:=h o (List.mem_of_mem_erase ho)
   have h2:o≠n:=(hd.mem_erase_iff.1 ho).1
   omega)
  rw[List.length_erase] at ih
  split at ih <;> omega
theorem Iu.len {n:Nat} {O:List Int} (h:Iu n O):O.length≤n:=uz n O h.1 h.2
theorem Sz {a:Int}:∀ {l:List Int} {k:Nat},Ts a l k=none→a ∉ l
 | [],_,_=>by simp
 |b::l,k,h=>by
  simp only[Ts] at h
  split at h
  ·cases h
  ·next hne=>simp only[List.mem_cons,not_or];exact⟨hne,Sz h⟩
def pd (eb:List Int):List Nat→List Int×List Int→List Int×List Int
 | [],r=>r
 |x::xs,r=>pd eb xs (Ai x (eb.getD x 0) r)
theorem CR {n:Nat} {x:Nat} {to:Int} {r:List Int×List Int} (hto:to < n) (h:Iu n r.1):Iu n (Ai x to r).1∧(Ai x to r).2.length=r.2.length∧∃ t,(Ai x to r).1=r.1++t:=by
 unfold Ai
 by_cases h0:to < 0
 ·rw[if_pos h0];exact⟨h,rfl,[],by simp⟩
 ·rw[if_neg h0]
  cases hi:Ts to r.1 0 with
  |some k=>exact⟨h,by simp,[],by simp⟩
  |none=>
   have hn:=Sz hi
   refine⟨⟨?_,?_⟩,by simp,[to],rfl⟩
   ·simp only[List.nodup_append,h.1,true_and]
    refine⟨by simp,?_⟩
    intro a ha b hb
    simp at hb;subst hb
    intro e;subst e;exact hn ha
   ·intro o ho
    rcases List.mem_append.1 ho with h1 | h1
    ·exact h.2 o h1
    ·simp at h1;subst h1;omega
section
variable (call:Ua) (R0 R1:ba) (S:PV) (nl nr:Bool) (fr:Nat) (sets:List Al) (C:List Int) (n:Nat) (L M:ba)
theorem SK (O:List Int) (out:List PV) (no:Bool) (J:List ba) (k:Int) (eb:List Int) (q:Nat) (hq13:q=J.length+1+1+1+1+1+1+1+1+1+1+1+1+1)
 (hO:Iu n O) (hn:n≤64) (hrow:eb.length=256) (hto:∀ to∈eb,to < n):
 qb (fa (pa call bc) (fun s=>some (tidy [0,2,3,4,5,6,7,31,32] s))) qa ⟨Gw q k O eb 0,an R0 R1 S nl nr fr sets C n L M O out no (J++[.box (Ha eb)])⟩=
  some (.exit 2,⟨(Gw q k (pd eb (List.range 256) (O,eb)).1 eb 256).set 33 (.pv (.bool false)),
   an R0 R1 S nl nr fr sets C n L M (pd eb (List.range 256) (O,eb)).1 out no (J++[.box (Ha (pd eb (List.range 256) (O,eb)).2)])⟩)∧
  Iu n (pd eb (List.range 256) (O,eb)).1∧(pd eb (List.range 256) (O,eb)).2.length=256∧∃ t,(pd eb (List.range 256) (O,eb)).1=O++t:=by
 generalize hxs:List.range 256=xs
 have key:=sk (g:=fa (pa call bc) (fun s=>some (tidy [0,2,3,4,5,6,7,31,32] s)))
  (fun x t=>∃ r,Iu n r.1∧r.2.length=256∧(∃ t,r.1=O++t)∧t=⟨Gw q k r.1 eb x,an R0 R1 S nl nr fr sets C n L M r.1 out no (J++[.box (Ha r.2)])⟩∧pd eb xs (O,eb)=pd eb (xs.drop x) r)
  (fun ex t=>ex= .exit 2∧t=⟨(Gw q k (pd eb xs (O,eb)).1 eb 256).set 33 (.pv (.bool false)),an R0 R1 S nl nr fr sets C n L M (pd eb xs (O,eb)).1 out no (J++[.box (Ha (pd eb xs (O,eb)).2)])⟩∧
   Iu n (pd eb xs (O,eb)).1∧(pd eb xs (O,eb)).2.length=256∧∃ t,(pd eb xs (O,eb)).1=O++t)
  qa 256 0 ⟨Gw q k O eb (0:Nat),an R0 R1 S nl nr fr sets C n L M O out no (J++[.box (Ha eb)])⟩ (by unfold qa;omega) (by omega) ⟨(O,eb),hO,hrow,⟨[],by simp⟩,rfl,rfl⟩ ?_ ?_
 ·obtain⟨ex,t,h,_,rfl,rfl,q1,q2⟩:=key
  exact⟨h,q1,q2⟩
 ·rintro x hx t ⟨⟨O',row⟩,hO',hr',⟨tl,htl⟩,rfl,hl⟩
  have hd:=Jp hx
  rw[hxs] at hd
  obtain⟨to,ht⟩:∃ to,eb[x]? =some to:=⟨eb[x],by simp[hrow,hx]⟩
  have hgd:eb.getD x 0=to:=by simp[List.getD_eq_getElem?_getD,ht]
  have hlt:=hto to (List.mem_of_getElem? ht)
  rw[hd,pd,hgd] at hl
  have Ba:=CR (x:=x) (r:=(O',row)) hlt hO'
  refine .inl ⟨_,?_,Ai x to (O',row),Ba.1,by rw[Ba.2.1];exact hr',?_,rfl,hl⟩
  ·by_cases h0:to < 0
   ·have e:Ai x to (O',row)=(O',row):=by simp[Ai,h0]
    rw[e]
    exact YO call R0 R1 S nl nr fr sets C n L M O' out no J k eb row x to q hx ht h0
   ·have hlen:=hO'.len
    cases hi:Ts to O' 0 with
    |some j=>
     have e:Ai x to (O',row)=(O',row.set x j):=by simp[Ai,h0,hi]
     rw[e]
     exact iS call R0 R1 S nl nr fr sets C n L M O' out no J k eb row x to q hx ht hq13 hr' h0 hi
    |none=>
     have e:Ai x to (O',row)=(O'++[to],row.set x O'.length):=by simp[Ai,h0,hi]
     rw[e]
     exact eT call R0 R1 S nl nr fr sets C n L M O' out no J k eb row x to q hx ht hq13 hr' h0 hi (by simp only at hlen;omega)
  ·obtain⟨t2,h2⟩:=Ba.2.2
   exact⟨tl++t2,by rw[h2,←List.append_assoc,←htl]⟩
 ·rintro t ⟨⟨O',row⟩,hO',hr',htl,rfl,hl⟩
  rw[List.drop_eq_nil_of_le (by rw[← hxs,List.length_range];exact Nat.le_refl _),pd] at hl
  rw[hl]
  refine⟨.exit 2,_,?_,rfl,rfl,rfl,hO',hr',htl⟩
  have e1:decide (((256:Nat):Int) < 256)=false:=by decide
  simp -implicitDefEqProofs only[SP,SA,SQ,sevalprocAttr,-List.reduceReplicate,fa,bc,e1,Gw]
abbrev Gz (k:Int) (O:List Int):Tr:=
 ((((((Tr.lf.set 6 (.pv (i64 k))).set 5 (.ptr 11 0)).set 4 (.uq 10 false 1 (O.map i64))).set 3 (.mp 9)).set 2 (.ptr 8 0)).set 0 (.ptr 3 0))
def Rf (C:List Int) (o:Int) (O:List Int):List Int×List Int:=pd (Ta C o.toNat) (List.range 256) (O,Ta C o.toNat)
theorem YK (O:List Int) (out:List PV) (no:Bool) (J:List ba) (k:Nat) (o:Int)
 (hC:C.length=n * 256) (cC:∀ c∈C,c < n) (hfr:fr≤n * 256) (hO:Iu n O) (hn:n≤64) (hk:O[k]? =some o) (hout:out.length=k):
 fa (pa call Rc) (fun s=>some (tidy [0,2,3,4,5,6] s)) ⟨Gz k O,an R0 R1 S nl nr fr sets C n L M O out no J⟩=
  some (.norm,⟨Gz (k+1:Nat) (Rf C o O).1,an R0 R1 S nl nr fr sets C n L M (Rf C o O).1 (out++[Od (Ff (Rf C o O).2)]) false (J++[.box (Ha (Rf C o O).2)])⟩)∧
  Iu n (Rf C o O).1∧∃ t,(Rf C o O).1=O++t:=by
 have hom:=hO.2 o (List.mem_of_getElem? hk)
 have hkl:=(List.getElem?_eq_some_iff.1 hk).1
 have hOl:=hO.len
 have hoi:o.toNat < n:=by omega
 have hr0:=uh hC hoi
 obtain⟨hin,g1,g2,g3⟩:=SK call R0 R1 S nl nr fr sets C n L M O out no J k (Ta C o.toNat) _ rfl hO hn hr0 (fun to h=>cC to (List.mem_of_mem_drop (List.mem_of_mem_take h)))
 refine⟨?_,g1,g3⟩
 unfold Rf
 generalize pd (Ta C o.toNat) (List.range 256) (O,Ta C o.toNat)=r at *
 obtain⟨O',row'⟩:=r
 simp only at g1 g2 g3 hin
 have hed:=DQ row' g2
 have hlen:(O.map i64).length=O.length:=by simp
 have e1:decide ((k:Int) < (O.length:Int))=true:=Fa (by omega)
 have t1:((k:Int)).toNat=k:=by simp
 have hq1:Ga (k:Int) O.length:=by unfold Ga;omega
 have hg:(O.map i64)[k]? =some (i64 o):=by rw[List.getElem?_map,hk];rfl
 have hq3:Ga o n:=by unfold Ga;omega
 have w2:Jh 256 n fr (Ha C).length:=by rw[gb];unfold Jh;omega
 have w4:((Ha C).length=n * 256)=True:=by rw[gb];exact eq_true hC
 have w6:(o.toNat * 256+256≤(Ha C).length)=True:=by rw[gb];exact eq_true (by omega)
 have p1:=LD C o.toNat
 have t2:=Ya (i:=k) (n:=64) (by omega) (by unfold maxLen;omega)
 have h9:((Ta C o.toNat).map i64).map AV.pv=Ha (Ta C o.toNat):=(Gs _).symm
 have hz:=NW
 have p5:(256≤(Ha (List.replicate 256 0)).length)=True:=by rw[gb,List.length_replicate];exact eq_true (Nat.le_refl _)
 have p6:na (Ha (List.replicate 256 0)) 0 (Ha (Ta C o.toNat))=Ha (Ta C o.toNat):=by
  have:=Hx (Ha (Ta C o.toNat)) (Ha (List.replicate 256 0)) [] (by rw[gb,gb,hr0,List.length_replicate])
  rw[List.nil_append,List.nil_append] at this;exact this
 generalize hzs:List.replicate 256 (0:Int)=zs at *
 generalize Ta C o.toNat=eb at *
 have r0:((Ha eb).length=256)=True:=by rw[gb,hr0];exact eq_self _
 have r1:(256≤(Ha eb).length)=True:=by rw[gb,hr0];exact eq_true (Nat.le_refl _)
 have r2:List.take 256 (Ha eb)=Ha eb:=List.take_of_length_le (by rw[gb,hr0];exact Nat.le_refl _)
 have r3:=Ys eb
 have r5:=XD eb
 have s1:(256≤(Ha row').length)=True:=by rw[gb,g2];exact eq_true (Nat.le_refl _)
 have s2:List.take 256 (Ha row')=Ha row':=List.take_of_length_le (by rw[gb,g2];exact Nat.le_refl _)
 have s3:=Ys row'
 have q1:mb (out.length+1) 24:=by unfold mb;omega
 have hlen2:(out++[Od (Ff row')]).length=out.length+1:=by simp
 unfold an
 rw[hlen2]
 have hcs:(∃ l,Od (Ff row')= .lit 3 l)∨Od (Ff row')= .ma:=by unfold Od;split;exact .inr rfl;exact .inl ⟨_,rfl⟩
 generalize Od (Ff row')=ed at *
 simp only[Gw,an,Kh,tidy,xc] at hin
 simp -implicitDefEqProofs only[SP,SA,SQ,sevalprocAttr,-List.reduceReplicate,fa,Rc,hlen,e1,eq_true hq1,eq_true hq3,t1,hg,eq_true w2,w4,w6,p1,h9,hz,p5,p6,r0,r1,r2,r3,r5,Ln,On,wa,bp,tidy,xc,Gz,Kh]
 rw[hin]
 rcases hcs with⟨l,rfl⟩ | rfl <;>
 simp -implicitDefEqProofs only[SP,SA,SQ,sevalprocAttr,-List.reduceReplicate,t2,s1,s2,s3,hed,Qf,vc,eq_true q1,Ln,On,wa,tidy,xc,Gz,Kh,Yh,AV.EB,AV.bo]
def aj (C:List Int):Nat→List Int×List (List xe)→List Int×List (List xe)
 |0,r=>r
 |f+1,r=>match r.1[r.2.length]? with
  |none=>r
  |some o=>aj C f ((Rf C o r.1).1,r.2++[Ff (Rf C o r.1).2])
theorem Bp {C:List Int} {f:Nat} {r:List Int×List (List xe)} (h:r.1[r.2.length]? =none):aj C f r=r:=by
 cases f with
 |zero=>rfl
 |succ f=>rw[aj,h]
theorem Nq {C:List Int} {f:Nat} {r:List Int×List (List xe)} {o:Int} (h:r.1[r.2.length]? =some o):aj C (f+1) r=aj C f ((Rf C o r.1).1,r.2++[Ff (Rf C o r.1).2]):=by
 rw[aj,h]
def Pm (C:List Int):List (List xe):=(aj C 64 ([0],[])).2
def zj (l:List (List xe)):PV:= .lit 1 (l.map Od)
theorem SF (O:List Int) (out:List PV) (no:Bool) (J:List ba) (k:Nat) (hk:k=O.length):
 fa (pa call Rc) (fun s=>some (tidy [0,2,3,4,5,6] s)) ⟨Gz k O,an R0 R1 S nl nr fr sets C n L M O out no J⟩=
  some (.exit 0,⟨((((Gz k O).set 15 (.pv (i64 k))).set 16 (.uq 10 false 1 (O.map i64))).set 17 (.pv (i64 O.length))).set 18 (.pv (.bool false)),an R0 R1 S nl nr fr sets C n L M O out no J⟩):=by
 have hlen:(O.map i64).length=O.length:=by simp
 have e1:decide ((k:Int) < (O.length:Int))=false:=Ka (by omega)
 simp -implicitDefEqProofs only[SP,SA,SQ,sevalprocAttr,-List.reduceReplicate,fa,Rc,hlen,e1,Gz,an,Kh]
theorem kP (hC:C.length=n * 256) (cC:∀ c∈C,c < n) (hfr:fr≤n * 256) (hn:n≤64) (h0:0 < n):
 ∃ O J k,qb (fa (pa call Rc) (fun s=>some (tidy [0,2,3,4,5,6] s))) qa ⟨Gz 0 [0],an R0 R1 S nl nr fr sets C n L M [0] [] true []⟩=
  some (.exit 0,⟨((((Gz k O).set 15 (.pv (i64 k))).set 16 (.uq 10 false 1 (O.map i64))).set 17 (.pv (i64 O.length))).set 18 (.pv (.bool false)),an R0 R1 S nl nr fr sets C n L M O ((Pm C).map Od) false J⟩):=by
 have key:=sk (g:=fa (pa call Rc) (fun s=>some (tidy [0,2,3,4,5,6] s)))
  (fun k t=>∃ (O:List Int) (out:List (List xe)) (J:List ba),Iu n O∧out.length=k∧k≤O.length∧0 < O.length∧t=⟨Gz k O,an R0 R1 S nl nr fr sets C n L M O (out.map Od) (k==0) J⟩∧aj C 64 ([0],[])=aj C (64 - k) (O,out))
  (fun ex t=>∃ (O:List Int) (J:List ba) (k:Nat),ex= .exit 0∧t=⟨((((Gz k O).set 15 (.pv (i64 k))).set 16 (.uq 10 false 1 (O.map i64))).set 17 (.pv (i64 O.length))).set 18 (.pv (.bool false)),an R0 R1 S nl nr fr sets C n L M O ((Pm C).map Od) false J⟩)
  qa 64 0 ⟨Gz (0:Nat) [0],an R0 R1 S nl nr fr sets C n L M [0] [] true []⟩ (by unfold qa;omega) (by omega)
   ⟨[0],[],[],⟨by simp,by intro o ho;simp at ho;omega⟩,rfl,by simp,by simp,rfl,rfl⟩ ?_ ?_
 ·obtain⟨ex,t,h,_,O,J,k,rfl,rfl⟩:=key
  exact⟨O,J,k,h⟩
 ·rintro k hk t ⟨O,out,J,hO,hout,hkO,hO0,rfl,hl⟩
  by_cases hlt:k < O.length
  ·obtain⟨o,ho⟩:∃ o,O[k]? =some o:=⟨O[k],by simp[hlt]⟩
   obtain⟨g1,g2,t,g3⟩:=YK call R0 R1 S nl nr fr sets C n L M O (out.map Od) (k==0) J k o hC cC hfr hO hn ho (by simpa using hout)
   rw[show 64 - k=(64 - (k+1))+1 by omega,Nq (r:=(O,out)) (o:=o) (by show O[out.length]? =_;rw[hout];exact ho)] at hl
   refine .inl ⟨_,g1,_,out++[Ff (Rf C o O).2],J++[.box (Ha (Rf C o O).2)],g2,by simp[hout],?_,?_,?_,hl⟩
   ·rw[g3];simp;omega
   ·rw[g3];simp;omega
   ·have:(k+1==0)=false:=rfl
    rw[this];simp
  ·have hke:k=O.length:=by omega
   rw[Bp (r:=(O,out)) (by show O[out.length]? =none;rw[hout,hke];simp)] at hl
   refine .inr ⟨.exit 0,_,SF call R0 R1 S nl nr fr sets C n L M O _ _ J k hke,rfl,O,J,k,rfl,?_⟩
   have:(k==0)=false:=by simp;omega
   rw[this,Pm,hl]
 ·rintro t ⟨O,out,J,hO,hout,hkO,hO0,rfl,hl⟩
  have hke:64=O.length:=by have:=hO.len;omega
  rw[Bp (r:=(O,out)) (by show O[out.length]? =none;rw[hout,hke];simp)] at hl
  refine⟨.exit 0,_,SF call R0 R1 S nl nr fr sets C n L M O _ _ J 64 hke,rfl,O,J,64,rfl,?_⟩
  have:((64:Nat)==0)=false:=rfl
  rw[this,Pm,hl]
theorem NT (hC:C.length=n * 256) (cC:∀ c∈C,c < n) (hfr:fr≤n * 256) (hn:n≤64) (h0:0 < n):
 ∃ O J,Ei call Ni [.ptr 3 0] (Kh R0 R1 S nl nr fr sets C n [L,M])=
  some (.agg [.uq 12 false 1 ((Pm C).map Od)],Kh R0 R1 S nl nr fr sets C n (L::M:: .box [.uq 12 false 1 ((Pm C).map Od)]:: .map (JJ O 0):: .tok 1 O.length false:: .box [.uq 12 false 1 ((Pm C).map Od)]:: .tok 1 ((Pm C).map Od).length false::J)):=by
 obtain⟨O,J,k,hl⟩:=kP call R0 R1 S nl nr fr sets C n L M hC cC hfr hn h0
 refine⟨O,J,?_⟩
 generalize (Pm C).map Od=out at *
 have hl':qb (fa (pa call Rc) (fun s=>some ⟨((((((Tr.lf.set 6 (s.env.get 6)).set 5 (s.env.get 5)).set 4 (s.env.get 4)).set 3 (s.env.get 3)).set 2 (s.env.get 2)).set 0 (s.env.get 0)),s.H⟩)) qa
  ⟨((((((Tr.lf.set 6 (.pv (.int .i64 0))).set 5 (.ptr 11 0)).set 4 (.uq 10 false 1 [.int .i64 0])).set 3 (.mp 9)).set 2 (.ptr 8 0)).set 0 (.ptr 3 0)),[R0,R1,.map (BB sets 0),.box [.pv S,.mp 2,.uq 4 nl 2 (sets.map Ih),.own 5 n],.tok 2 sets.length nl,.seq 256 true (Ha C) fr nr,L,M,.box [.pv .ma],.map [(.int .i64 0,.int .i64 0)],.tok 1 1 false,.box [.uq 12 true 1 []],.tok 1 0 true]⟩=_:=hl
 simp only[Gz,an,Kh] at hl'
 simp -implicitDefEqProofs only[SP,SA,SQ,sevalprocAttr,-List.reduceReplicate,Ni,Ee,bp,tidy,xc,Nl,rk,Up,Option.isSome_some,Yh,AV.EB,AV.bo,Kh]
 rw[hl']
 simp -implicitDefEqProofs only[SP,SA,SQ,sevalprocAttr,-List.reduceReplicate,Kh]
end
end Go.AM.B1
namespace Go.AM.B1
open Go.AM
def Np (n:Nat):Int:=IntKind.u32.wrap (IntKind.u32.wrap (1 * 2 ^ min n IntKind.u32.bits) - 1)
theorem PD (n:Nat):IntKind.u32.wrap (IntKind.u32.wrap (1 * 2 ^ min n IntKind.u32.bits) - 1)=Np n:=rfl
theorem CC {n:Nat} (h:n≤32):Np n=((2 ^ n - 1:Nat):Int):=by
 have:∀ n:Fin 33,Np n.1=((2 ^ n.1 - 1:Nat):Int):=by decide
 exact this ⟨n,by omega⟩
theorem ON {a:Al}:∀ {l:List Al} {k i:Nat},Ll a l k=some i→i < k+l.length
 |b::l,k,i,h=>by
  simp only[Ll] at h
  split at h
  ·injection h with h;simp;omega
  ·have:=ON h;simp;omega
theorem fU {ss:List Rb} {a:Al} {x:Int} {sets:List Al} {r:List Al×Int} (h:wg ss a x sets=some r):r.2 < r.1.length:=by
 unfold wg at h
 split at h
 ·injection h with h;subst h;simp;omega
 ·split at h
  ·injection h with h;subst h;simp;omega
  ·split at h
   ·next k hk=>injection h with h;subst h;have:=ON hk;simp at this;simp;omega
   ·split at h
    ·injection h with h;subst h;simp;omega
    ·cases h
theorem PM {ss:List Rb} {a:Al}:∀ (xs:List Nat) (r r':List Al×List Int),r.1.length≤64→(∀ v∈r.2,v < r.1.length)→Ak ss a xs r=some r'→∀ v∈r'.2,v < r'.1.length
 | [],r,r',_,h,e=>by injection e with e;subst e;exact h
 |x::xs,r,r',hl,h,e=>by
  cases hst:wg ss a x r.1 with
  |none=>rw[Pr hst] at e;cases e
  |some p=>
   rw[js hst] at e
   have hg:=fB hst hl
   refine PM xs (p.1,r.2.set x p.2) r' hg.1 ?_ e
   intro v hv
   obtain⟨t,ht⟩:=hg.2
   rcases List.mem_or_eq_of_mem_set hv with h1 | h1
   ·have h2:=h v h1
    have:r.1.length≤p.1.length:=by rw[ht];simp
    simp only;omega
   ·rw[h1];exact fU hst
theorem LI {ss:List Rb} (hw:ss.length≤32):∀ (k:Nat) (r r':List Al×List (List Int)),Fm ss r.1→(∀ l∈r.2,∀ v∈l,v < r.1.length)→vg ss k r=some r'→(∀ l∈r'.2,∀ v∈l,v < r'.1.length)∧∃ t,r'.1=r.1++t
 |0,r,r',_,h,e=>by injection e with e;subst e;exact⟨h,[],by simp⟩
 |k+1,r,r',Ba,h,e=>by
  cases ha:r.1[r.2.length]? with
  |none=>rw[Xs ha] at e;injection e with e;subst e;exact⟨h,[],by simp⟩
  |some a=>
   cases hr:Ak ss a (List.range 256) (r.1,eb) with
   |none=>rw[yu ha hr] at e;cases e
   |some p=>
    rw[Bt ha hr] at e
    obtain⟨g1,⟨t,g2⟩,g3⟩:=ru hw (List.range 256) (r.1,eb) p Ba ha hr
    have hpos:0 < r.1.length:=by have:=(List.getElem?_eq_some_iff.1 ha).1;omega
    have g4:=PM (List.range 256) (r.1,eb) p Ba.1 (by
     intro v hv
     have:v=0:=List.eq_of_mem_replicate hv
     simp only;omega) hr
    obtain⟨k1,t2,k2⟩:=LI hw k (p.1,r.2++[p.2]) r' g1 (by
     intro l hl v hv
     rcases List.mem_append.1 hl with h1 | h1
     ·have:=h l h1 v hv
      simp only[g2,List.length_append] at this ⊢;omega
     ·simp at h1;subst h1;exact g4 v hv) e
    exact⟨k1,t++t2,by rw[k2,g2,List.append_assoc]⟩
theorem Dz:∀ (rs:List (List Int)),Ha rs.flatten=rs.flatMap Ha
 | []=>rfl
 |r::rs=>by
  have:=Dz rs
  rw[List.flatten_cons,dE,List.flatMap_cons,this]
def ug (ss:List Rb):List Al:=[(0,Np ss.length)]
theorem By {ss:List Rb} (hw:ss.length≤32) (hne:∀ s∈ss,0 < s.parts.length):Fm ss (ug ss):=by
 refine⟨by simp[ug],?_⟩
 intro k a ha
 match k,ha with
 |0,ha=>
  simp only[ug,List.getElem?_cons_zero,Option.some.injEq] at ha
  subst ha
  refine⟨by simp,2 ^ ss.length - 1,CC hw,?_,?_⟩
  ·have:2 ^ ss.length≤2 ^ 32:=Nat.pow_le_pow_right (by decide) hw
   omega
  ·intro i s hs _
   exact hne s (List.mem_of_getElem? hs)
 |k+1,ha=>simp[ug] at ha
section
variable (R0 R1:ba) (S:PV) (ss:List Rb)
 (h0:oa 7 R0=some R0) (h1:oa 7 R1=some R1) (g0:oa 6 R0=some R0) (g1:oa 6 R1=some R1)
 (hS:ri 2 S (ss.map Fe)) (hw:ss.length≤32) (hsz:∀ s∈ss,∀ l∈s.parts,l.length * 16≤140737488355328) (hne:∀ s∈ss,0 < s.parts.length)
include h0 h1 g0 g1 hS hw hsz hne
theorem ZJ:
 (∀ r,vg ss 64 (ug ss,[])=some r→∃ nl',Ei (Ea Ca 7) dg [.ptr 3 0] (vj R0 R1 S true [] (Jg []) 0 [])=some (.pv (.bool true),vj R0 R1 S nl' r.1 (Jg r.2) r.2.length [])∧Fm ss r.1∧r.2.length=r.1.length∧∀ r'∈r.2,r'.length=256)∧
 (vg ss 64 (ug ss,[])=none→∃ H,Ei (Ea Ca 7) dg [.ptr 3 0] (vj R0 R1 S true [] (Jg []) 0 [])=some (.pv (.bool false),H)∧H[0]? =some R0):=by
 have hloop:=zO R0 R1 S false (ug ss) ss h0 h1 g0 g1 hS hw hsz (By hw hne) (by simp[ug])
 have ls:=hS.len
 simp only[List.length_map] at ls
 have hmet:Ei (Ea Ca 6) Hd [.ptr 3 0,.pv (.agg [.int .i64 0,.int .u32 (Np ss.length)])] [R0,R1,.map (BB [] 0),.box [.pv S,.mp 2,.uq 4 true 2 [],.own 5 0],.tok 2 0 true,.seq 256 true [] 0 true]=some (.pv (.uc [.int .i64 0,.bool true]),vj R0 R1 S false [(0,Np ss.length)] (Jg []) 0 []):=
  SM (Ea Ca 6) R0 R1 S true [] (Jg []) 0 [] (0,Np ss.length) rfl (by simp)
 have n0:¬((ss.length:Int) < 0):=by omega
 have t1:((ss.length:Int)).toNat=ss.length:=by simp
 have e1:((ss.length:Int) < 0)=False:=eq_false n0
 have q5:=nv 6 6 []
 simp only[List.flatMap_nil] at q5
 simp only[vj,Jg,List.flatMap_nil,List.isEmpty_nil] at hmet
 unfold vj Jg
 constructor
 ·intro r hr
  obtain⟨E,nl',hl,k1,k2,k3⟩:=hloop.1 r hr
  refine⟨nl',?_,k1,k2,k3⟩
  simp -implicitDefEqProofs only[SP,SA,SQ,sevalprocAttr,-List.reduceReplicate,dg,ls,e1,t1,PD,Ca,List.flatMap_nil,hmet,Bb,ga,Aa,Am,jm,Km,Ms,Ja,AV.cut,vc,h0,h1,g0,g1,q5,vj]
  have hl':qb (fa (pa (Ea Ca 7) xb) (ga 6 [0,3])) qa ⟨(Tr.lf.set 3 (.pv (.int .i64 0))).set 0 (.ptr 3 0),[R0,R1,.map (BB [(0,Np ss.length)] 0),.box [.pv S,.mp 2,.uq 4 false 2 [Ih (0,Np ss.length)],.own 5 0],.tok 2 1 false,.seq 256 true [] 0 true]⟩=_:=hl
  rw[hl']
  simp -implicitDefEqProofs only[SP,SA,SQ,sevalprocAttr,-List.reduceReplicate,vj,Jg]
 ·intro hr
  obtain⟨t,hl,k2,k3⟩:=xq (hloop.2 hr)
  refine⟨t.H,?_,k3⟩
  simp -implicitDefEqProofs only[SP,SA,SQ,sevalprocAttr,-List.reduceReplicate,dg,ls,e1,t1,PD,Ca,List.flatMap_nil,hmet,Bb,ga,Aa,Am,jm,Km,Ms,Ja,AV.cut,vc,h0,h1,g0,g1,q5,vj]
  have hl':qb (fa (pa (Ea Ca 7) xb) (ga 6 [0,3])) qa ⟨(Tr.lf.set 3 (.pv (.int .i64 0))).set 0 (.ptr 3 0),[R0,R1,.map (BB [(0,Np ss.length)] 0),.box [.pv S,.mp 2,.uq 4 false 2 [Ih (0,Np ss.length)],.own 5 0],.tok 2 1 false,.seq 256 true [] 0 true]⟩=_:=hl
  rw[hl']
  simp -implicitDefEqProofs only[SP,SA,SQ,sevalprocAttr,-List.reduceReplicate,k2]
end
def yg (ss:List Rb):Option (List (List xe)):=
 (vg ss 64 (ug ss,[])).map fun r=>Pm (Ge r.2.length r.2.flatten).C
section
variable (S0 S:PV) (ss:List Rb) (hS0:S0= .ma∨∃ l,S0= .lit 2 l) {y:Bool} {a b e:Int}
include hS0
theorem YQ (he:e≠0) (hp:ye [.agg [S0]]=some (.uc [.agg [.bool y,i64 a,i64 b],i64 e])):
 wc [.agg [S0]]=some (.uc [.agg [.ma],i64 e]):=by
 have e1:=Zh he
 rcases hS0 with rfl | ⟨l,rfl⟩ <;>
 simp -implicitDefEqProofs only[wc,SP,SA,SQ,sevalprocAttr,-List.reduceReplicate,Xk,hp,e1,bne,Qf,vc]
theorem yS (hp:ye [.agg [S0]]=some (.uc [.agg [.bool false,i64 a,i64 b],i64 0])):
 wc [.agg [S0]]=some (.uc [.agg [.ma],i64 110]):=by
 rcases hS0 with rfl | ⟨l,rfl⟩ <;>
 simp -implicitDefEqProofs only[wc,SP,SA,SQ,sevalprocAttr,-List.reduceReplicate,Xk,hp,bne,Qf,vc]
variable (hp:ye [.agg [S0]]=some (.uc [.agg [.bool true,i64 a,i64 b],i64 0])) (hc:Ki [.agg [S0]]=some (.agg [S]))
 (hS:ri 2 S (ss.map Fe)) (hw:ss.length≤32) (hsz:∀ s∈ss,∀ l∈s.parts,l.length * 16≤140737488355328) (hne:∀ s∈ss,0 < s.parts.length)
include hp hc hS hw hsz hne
theorem wL (h:yg ss=none):wc [.agg [S0]]=some (.uc [.agg [.ma],i64 130]):=by
 have hn:vg ss 64 (ug ss,[])=none:=by unfold yg at h;simpa using h
 obtain⟨H,hwk,hH⟩:=(ZJ (.box [.pv .ma]) (.box [.pv (.bool true),.pv (i64 a),.pv (i64 b)]) S ss rfl rfl rfl rfl hS hw hsz hne).2 hn
 have hb0:vj (.box [.pv .ma]) (.box [.pv (.bool true),.pv (i64 a),.pv (i64 b)]) S true [] (Jg []) 0 []=[.box [.pv .ma],.box [.pv (.bool true),.pv (i64 a),.pv (i64 b)],.map [],.box [.pv S,.mp 2,.uq 4 true 2 [],.own 5 0],.tok 2 0 true,.seq 256 true [] 0 true]:=rfl
 rw[hb0] at hwk
 have hS2:S= .ma∨∃ l,S= .lit 2 l:=by rcases hS with⟨h,_⟩ | h;exact .inl h;exact .inr ⟨_,h⟩
 have hH2:∀ o,(H.set 0 o)[0]? =some o:=by
  intro o
  cases H with
  |nil=>cases hH
  |cons x H=>rfl
 rcases hS0 with rfl | ⟨l,rfl⟩ <;> rcases hS2 with rfl | ⟨l2,rfl⟩ <;>
 simp -implicitDefEqProofs only[wc,SP,SA,SQ,sevalprocAttr,-List.reduceReplicate,Xk,hp,hc,hwk,hH,hH2,Ca,Ee,Yh,AV.EB,AV.bo,bne,Qf,vc]
theorem PR {l:List (List xe)} (h:yg ss=some l):wc [.agg [S0]]=some (.uc [.agg [zj l],i64 0]):=by
 obtain⟨r,hn,hl⟩:∃ r,vg ss 64 (ug ss,[])=some r∧Pm (Ge r.2.length r.2.flatten).C=l:=by
  unfold yg at h;simpa using h
 obtain⟨nl,hwk,k1,k2,k3⟩:=(ZJ (.box [.pv .ma]) (.box [.pv (.bool true),.pv (i64 a),.pv (i64 b)]) S ss rfl rfl rfl rfl hS hw hsz hne).1 r hn
 have hb0:vj (.box [.pv .ma]) (.box [.pv (.bool true),.pv (i64 a),.pv (i64 b)]) S true [] (Jg []) 0 []=[.box [.pv .ma],.box [.pv (.bool true),.pv (i64 a),.pv (i64 b)],.map [],.box [.pv S,.mp 2,.uq 4 true 2 [],.own 5 0],.tok 2 0 true,.seq 256 true [] 0 true]:=rfl
 have hb1:vj (.box [.pv .ma]) (.box [.pv (.bool true),.pv (i64 a),.pv (i64 b)]) S nl r.1 (Jg r.2) r.2.length []=Kh (.box [.pv .ma]) (.box [.pv (.bool true),.pv (i64 a),.pv (i64 b)]) S nl r.2.isEmpty 0 r.1 r.2.flatten r.2.length []:=by
  unfold vj Kh Jg;rw[Dz]
 rw[hb0,hb1] at hwk
 have hlt:=LI hw 64 (ug ss,[]) r (By hw hne) (by simp) hn
 have hpos:0 < r.1.length:=by obtain⟨t,ht⟩:=hlt.2;rw[ht];simp[ug]
 have hC:r.2.flatten.length=r.2.length * 256:=by
  have:=mC k3
  rw[← Dz,gb] at this;exact this
 have cC:∀ c∈r.2.flatten,c < (r.2.length:Int):=by
  intro c hc
  obtain⟨l,h1,h2⟩:=List.mem_flatten.1 hc
  rw[k2];exact hlt.1 l h1 c h2
 have h64:r.2.length≤64:=by rw[k2];exact k1.1
 have h0:0 < r.2.length:=by omega
 obtain⟨fr,fk,v,hf,hls⟩:=nO (Ea Ca 7) (.box [.pv .ma]) (.box [.pv (.bool true),.pv (i64 a),.pv (i64 b)]) S nl r.2.isEmpty r.1 r.2.flatten r.2.length h64 h0 k2.symm hC cC
 have Ba:dX r.2.length (Ge r.2.length r.2.flatten):=WD _ _ (Nat.le_refl _) ⟨hC,by simp,cC,by intro c hc;rw[List.eq_of_mem_replicate hc];omega,by simp⟩
 obtain⟨O,J,htd⟩:=NT (Ea Ca 7) (.box [.pv .ma]) (.box [.pv (.bool true),.pv (i64 a),.pv (i64 b)]) S nl r.2.isEmpty fr r.1 (Ge r.2.length r.2.flatten).C r.2.length (.seq 1 false (Ha (Ge r.2.length r.2.flatten).oc) fk false) (.map (Zr (Ge r.2.length r.2.flatten).M)) Ba.hC Ba.cC (by omega) h64 h0
 rw[hl] at htd
 unfold zj
 generalize l.map Od=out at *
 generalize Ge r.2.length r.2.flatten=g at *
 simp only[Kh] at hwk hls htd
 have hS2:S= .ma∨∃ l,S= .lit 2 l:=by rcases hS with⟨h,_⟩ | h;exact .inl h;exact .inr ⟨_,h⟩
 rcases hS0 with rfl | ⟨l,rfl⟩ <;> rcases hS2 with rfl | ⟨l2,rfl⟩ <;>
 simp -implicitDefEqProofs only[wc,SP,SA,SQ,sevalprocAttr,-List.reduceReplicate,Xk,hp,hc,hwk,hls,htd,Ca,Ee,Yh,AV.EB,AV.bo,bne,Qf,vc]
end
end Go.AM.B1
namespace Go.AM.B1
open Go.AM Go.AM.So
structure Pn (v:PV) (l:List (Int×Int)):Prop where
 is:ri 2 v (Dd l)
 sz:l.length * 16≤140737488355328
structure Ze (P:PV) (ls:List (List (Int×Int))) (ps:List PV):Prop where
 is:ri 1 P ps
 len:ps.length=ls.length
 all:∀ (k:Nat) v l,ps[k]? =some v→ls[k]? =some l→Pn v l
 sz:ls.length≤maxLen
structure sf (e:PV) (s:Rb) (P:PV) (ps:List PV):Prop where
 eq:e= .agg [P,i64 s.first]
 parts:Ze P s.parts ps
structure wb (S:PV) (ss:List Rb) (es:List PV):Prop where
 is:ri 2 S es
 len:es.length=ss.length
 all:∀ (k:Nat) e s,es[k]? =some e→ss[k]? =some s→∃ P ps,sf e s P ps
 sz:ss.length≤maxLen
theorem Ze.get {P:PV} {ls:List (List (Int×Int))} {ps:List PV} (h:Ze P ls ps) {i:Nat} (hi:i < ls.length):∃ v,ps[i]? =some v∧P= .lit 1 ps∧Pn v ls[i]:=by
 have h1:i < ps.length:=by rw[h.len];exact hi
 refine⟨ps[i],List.getElem?_eq_getElem h1,h.is.lit (i:=i) h1,h.all i _ _ (List.getElem?_eq_getElem h1) (List.getElem?_eq_getElem hi)⟩
theorem wb.get {S:PV} {ss:List Rb} {es:List PV} (h:wb S ss es) {i:Nat} (hi:i < ss.length):∃ e P ps,es[i]? =some e∧S= .lit 2 es∧sf e ss[i] P ps:=by
 have h1:i < es.length:=by rw[h.len];exact hi
 obtain⟨P,ps,hp⟩:=h.all i _ _ (List.getElem?_eq_getElem h1) (List.getElem?_eq_getElem hi)
 exact⟨es[i],P,ps,List.getElem?_eq_getElem h1,h.is.lit (i:=i) h1,hp⟩
theorem Ze.Sb {P:PV} {ls:List (List (Int×Int))} {ps:List PV} (h:Ze P ls ps) (H:List ba):Sb H 0 (.pv P)=some ls.length:=by
 rw[h.is.len,h.len]
theorem wb.Sb {S:PV} {ss:List Rb} {es:List PV} (h:wb S ss es) (H:List ba):Sb H 0 (.pv S)=some ss.length:=by
 rw[h.is.len,h.len]
def xd (l:List (Int×Int)):Prop:=l≠[]∧Oa 255 (-2) l=true
instance (l:List (Int×Int)):Decidable (xd l):=by unfold xd;infer_instance
def ah:Int→List (List (Int×Int))→Int
 |n,[]=>n
 |n,l::r=>ah (if 1073741825 < n * Bc 0 l then 1073741825 else n * Bc 0 l) r
def qh (s:Rb):Int:=s.first+ah 1 s.parts - 1
theorem sh {l:List (Int×Int)} (h:xd l):1≤Bc 0 l∧Bc 0 l≤256:=by
 have:=(Bq h.2).2.1 h.1;omega
theorem jw {n s:Int} (h1:1≤n) (h2:n≤1073741825) (h3:1≤s) (h4:s≤256):1≤n * s∧n * s≤274877907200:=by
 constructor
 ·have:=Int.mul_le_mul h1 h3 (by omega) (by omega);omega
 ·have:=Int.mul_le_mul h2 h4 (by omega) (by omega);omega
theorem Xl:∀ (ls:List (List (Int×Int))) (n:Int),(∀ l∈ls,xd l)→1≤n→n≤1073741825→1≤ah n ls∧ah n ls≤1073741825
 | [],n,_,h1,h2=>⟨h1,h2⟩
 |l::r,n,h,h1,h2=>by
  have hs:=sh (h l (by simp))
  have hm:=jw h1 h2 hs.1 hs.2
  rw[ah]
  refine Xl r _ (fun x hx=>h x (by simp[hx])) ?_ ?_ <;> split <;> omega
abbrev UJ (row:List PV) (P:PV) (len i n:Int):Tr:=((((Tr.lf.set 9 (.pv (i64 i))).set 8 (.pv (i64 len))).set 7 (.pv P)).set 3 (.pv (i64 n))).set 1 (.pv (.rp row 0))
theorem qI {e:PV} {s:Rb} {P:PV} {ps:List PV} (h:sf e s P ps) (Ba:∀ l∈s.parts,xd l) (hf:0≤s.first∧s.first≤1073741823):xn [e]=some (i64 (qh s)):=by
 obtain⟨rfl,hP⟩:=h
 have hb:=Xl s.parts 1 Ba (by omega) (by omega)
 have hsz:=hP.sz
 have hloop:Ld (fun r=>∃ E H,r=(.exit 0,⟨E,H⟩)∧E.get 3= .pv (i64 (ah 1 s.parts))∧E.get 1= .pv (.rp [P,i64 s.first] 0))
  (qb (fa (pa (Ea (fun _=>none) 8) Eh) (ga 0 [1,3,7,8,9])) qa ⟨UJ [P,i64 s.first] P s.parts.length 0 1,[]⟩):=by
  refine za (Eb (g:=fa (pa (Ea (fun _=>none) 8) Eh) (ga 0 [1,3,7,8,9]))
   (fun i t=>∃ n,t=⟨UJ [P,i64 s.first] P s.parts.length i n,[]⟩∧1≤n∧n≤1073741825∧ah 1 s.parts=ah n (s.parts.drop i))
   s.parts.length (by unfold qa;unfold maxLen at hsz;omega) _ ⟨1,rfl,by omega,by omega,rfl⟩ ?_ ?_) (fun r h=>h.2)
  ·rintro i t hi ⟨n,rfl,h1,h2,hs⟩
   obtain⟨v,hv,hPl,hpt⟩:=hP.get hi
   have hd:s.parts.drop i=s.parts[i]::s.parts.drop (i+1):=List.drop_eq_getElem_cons hi
   have hpo:=Ba s.parts[i] (List.getElem_mem hi)
   have hss:=bw v s.parts[i] hpt.is hpt.sz hpo.2
   have hsb:=sh hpo
   rw[hd,ah] at hs
   generalize s.parts[i]=l at *
   have hm:=jw h1 h2 hsb.1 hsb.2
   have e1:decide ((i:Int) < (s.parts.length:Int))=true:=Fa (by omega)
   have t2:=Ya hi hsz
   have t3:IntKind.i64.wrap (n * Bc 0 l)=n * Bc 0 l:=Da (by omega)
   have hq:i < ps.length:=by rw[hP.len];exact hi
   have hcl:v.cells=[v]:=by rcases hpt.is with⟨h,_⟩ | h <;> rw[h] <;> rfl
   have a1:wa [] 1 (.pv P) (i:Int)=some (.pv (.rp [v] 0)):=by
    rw[hPl]
    simp only[wa]
    rw[if_pos (by unfold Ga;simp;omega),Int.toNat_natCast,hv]
    simp[hcl]
   have a2:ya [] false 1 (.pv (.rp [v] 0))=some (.pv v):=rfl
   generalize hQ:LN _ _ i=Q
   simp -implicitDefEqProofs only[SX,sevalprocAttr,Eh,e1,t2,t3,a1,a2,hss,Vp,qe,ga,Aa,AV.cut,ua,UJ]
   subst hQ
   exact⟨_,rfl,by split <;> omega,by split <;> omega,hs⟩
  ·rintro t ⟨n,rfl,h1,h2,hs⟩
   rw[List.drop_length,ah] at hs
   have e1:decide ((s.parts.length:Int) < (s.parts.length:Int))=false:=Ka (by omega)
   generalize hQ:(fun r:Ex×St=>r.1.stop=true∧_)=Q
   simp -implicitDefEqProofs only[SX,sevalprocAttr,Eh,e1,UJ]
   subst hQ
   exact⟨rfl,_,_,rfl,by simp[Tr.aa,hs],by simp[Tr.aa]⟩
 obtain⟨r,h1,E,H,rfl,hE,hE1⟩:=Gc hloop
 have ls:=hP.Sb
 simp only[UJ] at h1
 have h1':qb (fa (pa (Ea (fun _=>none) 8) Eh) (ga 0 [1,3,7,8,9])) qa ⟨((((Tr.lf.set 9 (.pv (.int .i64 0))).set 8 (.pv (.int .i64 s.parts.length))).set 7 (.pv P)).set 3 (.pv (.int .i64 1))).set 1 (.pv (.rp [P,i64 s.first] 0)),[]⟩=some (.exit 0,⟨E,H⟩):=h1
 unfold qh
 generalize ah 1 s.parts=n at *
 have t1:IntKind.i64.wrap (s.first+n)=s.first+n:=Da (by omega)
 have t2:IntKind.i64.wrap (s.first+n - 1)=s.first+n - 1:=Da (by omega)
 have hPv:∃ sz es,P= .ma∨P= .lit sz es:=by rcases hP.is with⟨h,_⟩ | h;exact⟨0,[],.inl h⟩;exact⟨_,_,.inr h⟩
 obtain⟨sz,es,rfl | rfl⟩:=hPv <;>
 simp -implicitDefEqProofs only[xn,SP,SA,SQ,WP,WQ,sevalprocAttr,sr,Bb,ls,h1',hE,hE1,t1,t2]
theorem NR (call:Ua) {v:PV} {l:List (Int×Int)} (h:Pn v l) (H:List ba):Ei call Ej [.pv v] H=some (.pv (.bool (!decide (xd l))),H):=by
 have ls:=h.is.len
 simp only[Dd,List.length_map] at ls
 have hv:=xB v l h.is h.sz
 by_cases h0:l=[]
 ·have e1:((l.length:Int)==0)=true:=by simp[h0]
  have e2:(!decide (xd l))=true:=by
   have:¬xd l:=fun hp=>hp.1 h0
   simp[this]
  rw[e2]
  simp -implicitDefEqProofs only[SP,SA,SQ,WP,WQ,sevalprocAttr,Ej,ls,e1]
 ·have e1:((l.length:Int)==0)=false:=by
   have:l.length≠0:=fun e=>h0 (List.eq_nil_of_length_eq_zero e)
   exact Zh (by omega)
  have e2:(!decide (xd l))= !(Oa 255 (-2) l):=by
   congr 1
   rw[Bool.eq_iff_iff];simp[xd,h0]
  rw[e2]
  simp -implicitDefEqProofs only[SP,SA,SQ,WP,WQ,sevalprocAttr,Ej,ls,e1,hv]
def Qv (ls:List (List (Int×Int))) (i:Nat):Int:=
 match ls with
 | []=> -1
 |l::r=>if xd l then Qv r (i+1) else i
theorem kG:∀ (ls:List (List (Int×Int))) (i:Nat),decide (Qv ls i≥0)= !decide (∀ l∈ls,xd l)
 | [],i=>by simp[Qv]
 |l::r,i=>by
  rw[Qv]
  by_cases h:xd l
  ·rw[if_pos h,kG r];simp[h]
  ·rw[if_neg h];simp[h]
abbrev iK (P:PV) (len i:Int):Tr:=(((Tr.lf.set 8 (.pv (i64 i))).set 7 (.pv (i64 len))).set 1 (.pk 7 [])).set 0 (.pv P)
theorem nQ {P:PV} {ls:List (List (Int×Int))} {ps:List PV} (hP:Ze P ls ps) (d:Nat) (H:List ba) (hH:xg H):
 Ei (Ea Tb (d+1)) pc [.pv P,.pk 7 []] H=some (.pv (i64 (Qv ls 0)),H):=by
 have hsz:=hP.sz
 have lsn:=hP.Sb
 have hcut:=xg.cut hH
 have h7:Tb 7=some Ej:=rfl
 apply bl
 have hloop:Ld (fun r=>∃ E,(r=(.exit 0,⟨E,H⟩)∧Qv ls 0= -1)∨(r=(.ret,⟨E,H⟩)∧E.get 4= .pv (i64 (Qv ls 0))))
  (qb (fa (pa (Ea Tb (d+1)) Ib) (ga H.length [0,1,7,8])) qa ⟨iK P ls.length 0,H⟩):=by
  refine za (Eb (g:=fa (pa (Ea Tb (d+1)) Ib) (ga H.length [0,1,7,8]))
   (fun i t=>t=⟨iK P ls.length i,H⟩∧Qv ls 0=Qv (ls.drop i) i)
   ls.length (by unfold qa;unfold maxLen at hsz;omega) _ ⟨rfl,rfl⟩ ?_ ?_) (fun r h=>h.2)
  ·rintro i t hi ⟨rfl,hs⟩
   obtain⟨v,hv,hPl,hpt⟩:=hP.get hi
   have hd:ls.drop i=ls[i]::ls.drop (i+1):=List.drop_eq_getElem_cons hi
   rw[hd,Qv] at hs
   have hn:=NR (Ea Tb d) hpt H
   generalize ls[i]=l at *
   have e1:decide ((i:Int) < (ls.length:Int))=true:=Fa (by omega)
   have t2:=Ya hi hsz
   have hq:i < ps.length:=by rw[hP.len];exact hi
   have hcl:v.cells=[v]:=by rcases hpt.is with⟨h,_⟩ | h <;> rw[h] <;> rfl
   have a1:wa H 1 (.pv P) (i:Int)=some (.pv (.rp [v] 0)):=by
    rw[hPl]
    simp only[wa]
    rw[if_pos (by unfold Ga;simp;omega),Int.toNat_natCast,hv]
    simp[hcl]
   have a2:ya H false 1 (.pv (.rp [v] 0))=some (.pv v):=rfl
   generalize hQ:LN _ _ i=Q
   by_cases Ba:xd l
   ·rw[if_pos Ba] at hs
    rw[decide_eq_true Ba] at hn
    simp -implicitDefEqProofs only[SX,sevalprocAttr,Ib,e1,t2,a1,a2,h7,hn,hcut,List.take_length,ga,Aa,AV.cut,ua,iK]
    subst hQ
    exact⟨rfl,hs⟩
   ·rw[if_neg Ba] at hs
    rw[decide_eq_false Ba] at hn
    simp -implicitDefEqProofs only[SX,sevalprocAttr,Ib,e1,t2,a1,a2,h7,hn,hcut,List.take_length,ga,Aa,AV.cut,ua,iK]
    subst hQ
    exact⟨_,.inr ⟨rfl,by simp[Tr.aa,hs]⟩⟩
  ·rintro t ⟨rfl,hs⟩
   rw[List.drop_length,Qv] at hs
   have e1:decide ((ls.length:Int) < (ls.length:Int))=false:=Ka (by omega)
   generalize hQ:(fun r:Ex×St=>r.1.stop=true∧_)=Q
   simp -implicitDefEqProofs only[SX,sevalprocAttr,Ib,e1,iK]
   subst hQ
   exact⟨rfl,_,.inl ⟨rfl,hs⟩⟩
 simp -implicitDefEqProofs only[SX,sevalprocAttr,pc,Bb,lsn,hcut,List.take_length,ga,Aa,AV.cut,ua]
 refine za hloop ?_
 rintro _ ⟨E,⟨rfl,hb⟩ | ⟨rfl,hE⟩⟩
 ·simp -implicitDefEqProofs only[SX,sevalprocAttr,hb]
 ·simp -implicitDefEqProofs only[SX,sevalprocAttr,hE]
theorem Jy {P:PV} {ls:List (List (Int×Int))} {ps:List PV} (hP:Ze P ls ps) (d:Nat) (H:List ba) (hH:xg H):
 Ei (Ea Tb (d+2)) Jb [.pv P,.pk 7 []] H=some (.pv (.bool (!decide (∀ l∈ls,xd l))),H):=by
 have h:=nQ hP d H hH
 have h5:Tb 5=some pc:=rfl
 have hb:=kG ls 0
 simp -implicitDefEqProofs only[SX,sevalprocAttr,Jb,h5,h,hb]
end Go.AM.B1
namespace Go.AM.B1
open Go.AM Go.AM.So
structure Zd (s:Rb):Prop where
 lo:1≤s.parts.length
 hi:s.parts.length≤8
 f0:0≤s.first
 f1:s.first≤1073741823
 parts:∀ l∈s.parts,xd l
 last:qh s≤1073741823
def om (s t:Rb):Prop:=∀ x,¬((s.first≤x∧x≤qh s)∧(t.first≤x∧x≤qh t))
structure qc (ss:List Rb):Prop where
 len:ss.length≤32
 Av:∀ s∈ss,Zd s
 apart:ss.Pairwise om
theorem Zd.nE {s:Rb} (h:Zd s):s.first≤qh s:=by
 have:=(Xl s.parts 1 h.parts (by omega) (by omega)).1
 unfold qh;omega
structure yW (ss:List Rb) (i:Nat) (v:PV) (u:List (Int×Int)):Prop where
 is:ri 2 v (Dd u)
 val:Oa zx (-2) u=true
 len:u.length≤i
 mem:∀ x,Cj x u↔∃ s∈ss.take i,s.first≤x∧x≤qh s
 Av:∀ s∈ss.take i,Zd s
 apart:(ss.take i).Pairwise om
abbrev qp (S v:PV) (len i:Int):Tr:=(((Tr.lf.set 14 (.pv (i64 i))).set 13 (.pv (i64 len))).set 12 (.pv S)).set 3 (.pv v)
theorem Wm (x y u v:AV) (hu:u.one=true) (hv:v.one=true) (A:List ba) (e:PV) (he:(AV.pv e).cells=[u,v]):Ma (A++[.box [x,y]]) 2 (.ptr A.length 0) (.pv e)=some (A++[.box [u,v]]):=by
 simp only[Ma,he,uj,gn,List.length_cons,List.length_nil,List.all,hu,hv]
 simp[na]
section
variable {S:PV} {ss:List Rb} {es:List PV} (hS:wb S ss es) (hl:ss.length≤32)
include hS hl
omit hl in
theorem zB {i:Nat} (hi:i < ss.length) (v:PV) (hbad:¬Zd ss[i]):
 ∃ E H,fa (pa (Ea Tb 8) Lb) (ga 0 [3,12,13,14]) ⟨qp S v ss.length i,[]⟩=some (.ret,⟨E,H⟩)∧E.get 2= .pv (.bool false):=by
 obtain⟨e,P,ps,he,hSl,hsh⟩:=hS.get hi
 obtain⟨rfl,hP⟩:=hsh
 generalize hs:ss[i]=s at *
 have hq:i < es.length:=by rw[hS.len];exact hi
 have e1:decide ((i:Int) < (ss.length:Int))=true:=Fa (by omega)
 have a1:wa [] 2 (.pv S) (i:Int)=some (.pv (.rp [P,i64 s.first] 0)):=by
  rw[hSl]
  simp only[wa]
  rw[if_pos (by unfold Ga;simp;omega),Int.toNat_natCast,he];rfl
 have a2:ya [] true 2 (.pv (.rp [P,i64 s.first] 0))=some (.pv (.agg [P,i64 s.first])):=rfl
 have hP1:(AV.pv P).one=true:=by rcases hP.is with⟨h,_⟩ | h <;> rw[h] <;> rfl
 have s1:Ma [.box [.pv .ma,.pv (i64 0)]] 2 (.ptr 0 0) (.pv (.agg [P,i64 s.first]))=some [.box [.pv P,.pv (i64 s.first)]]:=Wm _ _ _ _ hP1 rfl [] _ rfl
 have p0:place [.box [.pv P,.pv (i64 s.first)]] 0 (.ptr 0 0)=some (.ptr 0 0):=rfl
 have p1:place [.box [.pv P,.pv (i64 s.first)]] 1 (.ptr 0 0)=some (.ptr 0 1):=rfl
 have l0:ya [.box [.pv P,.pv (i64 s.first)]] false 1 (.ptr 0 0)=some (.pv P):=rfl
 have l1:ya [.box [.pv P,.pv (i64 s.first)]] false 1 (.ptr 0 1)=some (.pv (i64 s.first)):=rfl
 have l2:ya [.box [.pv P,.pv (i64 s.first)]] true 2 (.ptr 0 0)=some (.pv (.agg [P,i64 s.first])):=rfl
 have hg:xg [.box [.pv P,.pv (i64 s.first)]]:=by
  intro n _ o ho;simp at ho;subst ho;simp[oa,Sa,Ja]
 have hct:=Jy hP 5 [.box [.pv P,.pv (i64 s.first)]] hg
 have h6:Tb 6=some Jb:=rfl
 have lA:=hP.Sb
 have key:Ld (fun r=>∃ E H,r=(.ret,⟨E,H⟩)∧E.get 2= .pv (.bool false)) (fa (pa (Ea Tb 8) Lb) (ga 0 [3,12,13,14]) ⟨qp S v ss.length i,[]⟩):=by
  generalize hQ:(fun r:Ex×St=>_)=Q
  by_cases c1:s.parts.length < 1
  ·have d1:decide ((s.parts.length:Int) < 1)=true:=Fa (by omega)
   simp -implicitDefEqProofs only[SX,sevalprocAttr,Lb,e1,a1,a2,s1,p0,p1,l0,l1,lA,d1,qp]
   subst hQ;exact⟨_,_,rfl,by simp[Tr.aa]⟩
  have d1:decide ((s.parts.length:Int) < 1)=false:=Ka (by omega)
  by_cases c2:s.parts.length > 8
  ·have d2:decide ((s.parts.length:Int) > 8)=true:=Fa (by omega)
   simp -implicitDefEqProofs only[SX,sevalprocAttr,Lb,e1,a1,a2,s1,p0,p1,l0,l1,lA,d1,d2,qp]
   subst hQ;exact⟨_,_,rfl,by simp[Tr.aa]⟩
  have d2:decide ((s.parts.length:Int) > 8)=false:=Ka (by omega)
  by_cases c3:s.first < 0
  ·have d3:decide (s.first < 0)=true:=Fa c3
   simp -implicitDefEqProofs only[SX,sevalprocAttr,Lb,e1,a1,a2,s1,p0,p1,l0,l1,lA,d1,d2,d3,qp]
   subst hQ;exact⟨_,_,rfl,by simp[Tr.aa]⟩
  have d3:decide (s.first < 0)=false:=Ka c3
  by_cases c4:s.first > 1073741823
  ·have d4:decide (s.first > 1073741823)=true:=Fa c4
   simp -implicitDefEqProofs only[SX,sevalprocAttr,Lb,e1,a1,a2,s1,p0,p1,l0,l1,lA,d1,d2,d3,d4,qp]
   subst hQ;exact⟨_,_,rfl,by simp[Tr.aa]⟩
  have d4:decide (s.first > 1073741823)=false:=Ka c4
  by_cases c5:∀ l∈s.parts,xd l
  ·have hlast:=qI (e:= .agg [P,i64 s.first]) ⟨rfl,hP⟩ c5 (by omega)
   rw[decide_eq_true c5] at hct
   have c6:qh s > 1073741823:=by
    rcases Int.lt_or_le 1073741823 (qh s) with h | h
    ·exact h
    ·exact absurd (Zd.mk (by omega) (by omega) (by omega) (by omega) c5 h) hbad
   have d6:decide (qh s > 1073741823)=true:=Fa c6
   have i0:∀ H (x y:Int),wa H 2 (.pv (.lit 2 [.agg [i64 x,i64 y]])) 0=some (.pv (.rp [i64 x,i64 y] 0)):=fun H x y=>rfl
   have q1:∀ H (x y:PV),place H 1 (.pv (.rp [x,y] 0))=some (.pv (.rp [x,y] 1)):=fun H x y=>rfl
   have m1:∀ H (x y:PV),ya H false 1 (.pv (.rp [x,y] 1))=some (.pv y):=fun H x y=>rfl
   simp -implicitDefEqProofs only[SX,sevalprocAttr,na,Lb,e1,a1,a2,s1,p0,p1,l0,l1,l2,lA,d1,d2,d3,d4,h6,hct,hlast,i0,q1,m1,d6,qp]
   subst hQ;exact⟨_,_,rfl,by simp[Tr.aa]⟩
  ·rw[decide_eq_false c5] at hct
   simp -implicitDefEqProofs only[SX,sevalprocAttr,Lb,e1,a1,a2,s1,p0,p1,l0,l1,lA,d1,d2,d3,d4,h6,hct,qp]
   subst hQ;exact⟨_,_,rfl,by simp[Tr.aa]⟩
 obtain⟨r,h1,E,H,rfl,h2⟩:=Gc key
 exact⟨E,H,h1,h2⟩
theorem qC {i:Nat} (hi:i < ss.length) {v:PV} {u:List (Int×Int)} (hv:yW ss i v u) (Ba:Zd ss[i]):
 Ld (fun r=>(∃ E H,r=(.ret,⟨E,H⟩)∧E.get 2= .pv (.bool false)∧∃ s∈ss.take i,¬om s ss[i])∨(∃ v' u',r=(.norm,⟨qp S v' ss.length (i+1:Nat),[]⟩)∧yW ss (i+1) v' u'))
  (fa (pa (Ea Tb 8) Lb) (ga 0 [3,12,13,14]) ⟨qp S v ss.length i,[]⟩):=by
 obtain⟨e,P,ps,he,hSl,hsh⟩:=hS.get hi
 obtain⟨rfl,hP⟩:=hsh
 have htake:ss.take (i+1)=ss.take i++[ss[i]]:=List.take_succ_eq_append_getElem hi
 generalize hs:ss[i]=s at *
 have hq:i < es.length:=by rw[hS.len];exact hi
 have e1:decide ((i:Int) < (ss.length:Int))=true:=Fa (by omega)
 have t2:=Ya hi hS.sz
 have a1:wa [] 2 (.pv S) (i:Int)=some (.pv (.rp [P,i64 s.first] 0)):=by
  rw[hSl]
  simp only[wa]
  rw[if_pos (by unfold Ga;simp;omega),Int.toNat_natCast,he];rfl
 have a2:ya [] true 2 (.pv (.rp [P,i64 s.first] 0))=some (.pv (.agg [P,i64 s.first])):=rfl
 have hP1:(AV.pv P).one=true:=by rcases hP.is with⟨h,_⟩ | h <;> rw[h] <;> rfl
 have s1:Ma [.box [.pv .ma,.pv (i64 0)]] 2 (.ptr 0 0) (.pv (.agg [P,i64 s.first]))=some [.box [.pv P,.pv (i64 s.first)]]:=Wm _ _ _ _ hP1 rfl [] _ rfl
 have p0:place [.box [.pv P,.pv (i64 s.first)]] 0 (.ptr 0 0)=some (.ptr 0 0):=rfl
 have p1:place [.box [.pv P,.pv (i64 s.first)]] 1 (.ptr 0 0)=some (.ptr 0 1):=rfl
 have l0:ya [.box [.pv P,.pv (i64 s.first)]] false 1 (.ptr 0 0)=some (.pv P):=rfl
 have l1:ya [.box [.pv P,.pv (i64 s.first)]] false 1 (.ptr 0 1)=some (.pv (i64 s.first)):=rfl
 have l2:ya [.box [.pv P,.pv (i64 s.first)]] true 2 (.ptr 0 0)=some (.pv (.agg [P,i64 s.first])):=rfl
 have hg:xg [.box [.pv P,.pv (i64 s.first)]]:=by
  intro n _ o ho;simp at ho;subst ho;simp[oa,Sa,Ja]
 have hct:=Jy hP 5 [.box [.pv P,.pv (i64 s.first)]] hg
 rw[decide_eq_true Ba.parts] at hct
 have h6:Tb 6=some Jb:=rfl
 have lA:=hP.Sb
 have d1:decide ((s.parts.length:Int) < 1)=false:=Ka (by have:=Ba.lo;omega)
 have d2:decide ((s.parts.length:Int) > 8)=false:=Ka (by have:=Ba.hi;omega)
 have d3:decide (s.first < 0)=false:=Ka (by have:=Ba.f0;omega)
 have d4:decide (s.first > 1073741823)=false:=Ka (by have:=Ba.f1;omega)
 have hlast:=qI (e:= .agg [P,i64 s.first]) ⟨rfl,hP⟩ Ba.parts ⟨Ba.f0,Ba.f1⟩
 have d6:decide (qh s > 1073741823)=false:=Ka (by have:=Ba.last;omega)
 have i0:∀ H (x y:Int),wa H 2 (.pv (.lit 2 [.agg [i64 x,i64 y]])) 0=some (.pv (.rp [i64 x,i64 y] 0)):=fun H x y=>rfl
 have q1:∀ H (x y:PV),place H 1 (.pv (.rp [x,y] 0))=some (.pv (.rp [x,y] 1)):=fun H x y=>rfl
 have m1:∀ H (x y:PV),ya H false 1 (.pv (.rp [x,y] 1))=some (.pv y):=fun H x y=>rfl
 have hvr:Oa zx (-2) [(s.first,qh s)]=true:=by
  rw[Kp];have:=Ba.nE;have:=Ba.f0;have:=Ba.last;unfold zx;simp only;omega
 have hmt:=Pz v (.lit 2 [.agg [i64 s.first,i64 (qh s)]]) u [(s.first,qh s)] hv.is (.inr rfl) hv.val hvr (by have:=hv.len;simp;omega)
 obtain⟨u',hun,hv1,hv2,hv3⟩:=dO v (.lit 2 [.agg [i64 s.first,i64 (qh s)]]) u [(s.first,qh s)] hv.is (.inr rfl) hv.val hvr (by have:=hv.len;simp;omega)
 have hms:=DK hv.val hvr
 have hml:∀ l:List (Int×Int),(Dd l).length=l.length:=fun l=>by simp
 generalize Kf (u.length+[(s.first,qh s)].length) u [(s.first,qh s)]=mm at *
 have hvv:(AV.pv v).cells=[.pv v]:=by rcases hv.is with⟨h,_⟩ | h <;> rw[h] <;> rfl
 generalize hQ:(fun r:Ex×St=>_)=Q
 by_cases c7:mm=[]
 ·have d7:decide ((mm.length:Int) > 0)=false:=Ka (by rw[c7];simp)
  have hno:¬∃ x,Cj x u∧Cj x [(s.first,qh s)]:=fun h=>(hms.2 h) c7
  simp -implicitDefEqProofs only[SX,sevalprocAttr,na,Lb,e1,t2,a1,a2,s1,p0,p1,l0,l1,l2,lA,d1,d2,d3,d4,h6,hct,hlast,i0,q1,m1,d6,hmt,hml,d7,hun,ga,Aa,AV.cut,oa,List.take_zero,ua,qp]
  subst hQ
  refine .inr ⟨_,u',rfl,.inr rfl,hv1,by have:=hv.len;simp at hv3;omega,fun x=> ?_,?_,?_⟩
  ·rw[hv2,Nn,hv.mem,htake]
   constructor
   ·rintro (⟨t,ht,hx⟩ | hx)
    ·exact⟨t,by simp[ht],hx⟩
    ·exact⟨s,by simp,hx⟩
   ·rintro⟨t,ht,hx⟩
    rcases List.mem_append.1 ht with h | h
    ·exact .inl ⟨t,h,hx⟩
    ·simp at h;subst h;exact .inr hx
  ·intro t ht
   rw[htake] at ht
   rcases List.mem_append.1 ht with h | h
   ·exact hv.Av t h
   ·simp at h;subst h;exact Ba
  ·rw[htake,List.pairwise_append]
   refine⟨hv.apart,by simp,fun t ht w hw x hx=> ?_⟩
   simp at hw;subst hw
   exact hno ⟨x,(hv.mem x).2 ⟨t,ht,hx.1⟩,(Nn _ _).2 hx.2⟩
 ·have d7:decide ((mm.length:Int) > 0)=true:=Fa (by have:mm.length≠0:=fun e=>c7 (List.eq_nil_of_length_eq_zero e);omega)
  obtain⟨x,hx1,hx2⟩:=hms.1 c7
  simp -implicitDefEqProofs only[SX,sevalprocAttr,na,Lb,e1,a1,a2,s1,p0,p1,l0,l1,l2,lA,d1,d2,d3,d4,h6,hct,hlast,i0,q1,m1,d6,hmt,hml,d7,qp]
  subst hQ
  obtain⟨t,ht,hx3⟩:=(hv.mem x).1 hx1
  exact .inl ⟨_,_,rfl,by simp[Tr.aa],t,ht,fun h=>h x ⟨hx3,(Nn _ _).1 hx2⟩⟩
end
theorem Mk {S:PV} {ss:List Rb} {es:List PV} (hS:wb S ss es):∃ b,Nf [.agg [S]]=some (.bool b)∧(b=true↔qc ss):=by
 have lA:=hS.Sb
 by_cases hl:ss.length≤32
 ·have e0:decide ((ss.length:Int) > 32)=false:=Ka (by omega)
  have hloop:Ld (fun r=>∃ E H,(r=(.exit 0,⟨E,H⟩)∧qc ss)∨(r=(.ret,⟨E,H⟩)∧E.get 2= .pv (.bool false)∧¬qc ss))
   (qb (fa (pa (Ea Tb 8) Lb) (ga 0 [3,12,13,14])) qa ⟨qp S .ma ss.length 0,[]⟩):=by
   refine za (Eb (g:=fa (pa (Ea Tb 8) Lb) (ga 0 [3,12,13,14]))
    (fun i t=>∃ v u,t=⟨qp S v ss.length i,[]⟩∧yW ss i v u)
    ss.length (by unfold qa;omega) _ ⟨.ma,[],rfl,.inl ⟨rfl,rfl⟩,rfl,by simp,fun x=>by simp[Bm],by simp,by simp⟩ ?_ ?_) (fun r h=>h.2)
   ·rintro i t hi ⟨v,u,rfl,hv⟩
    by_cases Ba:Zd ss[i]
    ·refine za (qC hS hl hi hv Ba) ?_
     rintro r (⟨E,H,rfl,hE,s,hs,hna⟩ | ⟨v',u',rfl,hv'⟩)
     ·refine⟨E,H,.inr ⟨rfl,hE,fun h=>hna ?_⟩⟩
      obtain⟨j,hj,rfl⟩:=List.mem_take_iff_getElem.1 hs
      have:=List.pairwise_iff_getElem.1 h.apart j i (by omega) hi (by omega)
      exact this
     ·exact⟨v',u',rfl,hv'⟩
    ·obtain⟨E,H,h1,h2⟩:=zB hS hi v Ba
     exact fX h1 ⟨E,H,.inr ⟨rfl,h2,fun h=>Ba (h.Av _ (List.getElem_mem hi))⟩⟩
   ·rintro t ⟨v,u,rfl,hv⟩
    have e1:decide ((ss.length:Int) < (ss.length:Int))=false:=Ka (by omega)
    have hfin:qc ss:=⟨hl,by have:=hv.Av;rwa [List.take_length] at this,by have:=hv.apart;rwa [List.take_length] at this⟩
    generalize hQ:(fun r:Ex×St=>r.1.stop=true∧_)=Q
    simp -implicitDefEqProofs only[SX,sevalprocAttr,Lb,e1,qp]
    subst hQ
    exact⟨rfl,_,_,.inl ⟨rfl,hfin⟩⟩
  obtain⟨r,h1,E,H,h2⟩:=Gc hloop
  have h1':qb (fa (pa (Ea Tb 8) Lb) (ga 0 [3,12,13,14])) qa ⟨(((Tr.lf.set 14 (.pv (.int .i64 0))).set 13 (.pv (.int .i64 ss.length))).set 12 (.pv S)).set 3 (.pv .ma),[]⟩=some r:=h1
  have hSv:∃ sz es,S= .ma∨S= .lit sz es:=by rcases hS.is with⟨h,_⟩ | h;exact⟨0,[],.inl h⟩;exact⟨_,_,.inr h⟩
  rcases h2 with⟨rfl,Ba⟩ | ⟨rfl,hE,hno⟩
  ·refine⟨true,?_,by simp[Ba]⟩
   obtain⟨sz,es,rfl | rfl⟩:=hSv <;>
   simp -implicitDefEqProofs only[Nf,SP,SA,SQ,WP,WQ,sevalprocAttr,uk,Bb,lA,e0,h1']
  ·refine⟨false,?_,by simp[hno]⟩
   obtain⟨sz,es,rfl | rfl⟩:=hSv <;>
   simp -implicitDefEqProofs only[Nf,SP,SA,SQ,WP,WQ,sevalprocAttr,uk,Bb,lA,e0,h1',hE]
 ·have e0:decide ((ss.length:Int) > 32)=true:=Fa (by omega)
  refine⟨false,?_,by simp;exact fun h=>hl h.len⟩
  have hSv:∃ sz es,S= .ma∨S= .lit sz es:=by rcases hS.is with⟨h,_⟩ | h;exact⟨0,[],.inl h⟩;exact⟨_,_,.inr h⟩
  obtain⟨sz,es,rfl | rfl⟩:=hSv <;>
  simp -implicitDefEqProofs only[Nf,SP,SA,SQ,WP,WQ,sevalprocAttr,uk,Bb,lA,e0]
end Go.AM.B1
namespace Go.AM.B1
open Go.AM Go.AM.So
theorem sf.one {e:PV} {s:Rb} {P:PV} {ps:List PV} (h:sf e s P ps):wb (.lit 2 [e]) [s] [e]:=by
 refine⟨.inr rfl,rfl,?_,by simp[maxLen]⟩
 intro k e' s' h1 h2
 match k,h1,h2 with
 |0,h1,h2=>simp at h1 h2;subst h1 h2;exact⟨P,ps,h⟩
 |k+1,h1,h2=>simp at h1
theorem iO {s:Rb}:qc [s]↔Zd s:=⟨fun h=>h.Av s (by simp),fun h=>⟨by simp,by simpa using h,by simp⟩⟩
theorem sf.yx {e:PV} {s:Rb} {P:PV} {ps:List PV} (h:sf e s P ps):(AV.pv P).one=true∧P.cells=[P]:=by
 rcases h.parts.is with⟨h,_⟩ | h <;> rw[h] <;> exact⟨rfl,rfl⟩
theorem Fl {e:PV} {s:Rb} {P:PV} {ps:List PV} (h:sf e s P ps):∃ b,Hi [e]=some (.bool b)∧(b=true↔Zd s):=by
 obtain⟨b,h1,h2⟩:=Mk h.one
 refine⟨b,?_,h2.trans iO⟩
 obtain⟨hP1,hP2⟩:=h.yx
 have heq:=h.eq
 subst heq
 rcases h.parts.is with⟨rfl,_⟩ | rfl <;>
 simp -implicitDefEqProofs only[Hi,SP,SA,SQ,WP,WQ,sevalprocAttr,Ar,h1]
theorem Ze.Ad {P:PV} {ls:List (List (Int×Int))} {ps:List PV} (hP:Ze P ls ps) {i:Nat} (hi:i < ls.length) (H:List ba):∃ v,ps[i]? =some v∧Pn v ls[i]∧wa H 1 (.pv P) (i:Int)=some (.pv (.rp [v] 0)):=by
 obtain⟨v,hv,hPl,hpt⟩:=hP.get hi
 refine⟨v,hv,hpt,?_⟩
 have hq:i < ps.length:=by rw[hP.len];exact hi
 have hcl:v.cells=[v]:=by rcases hpt.is with⟨h,_⟩ | h <;> rw[h] <;> rfl
 rw[hPl]
 simp only[wa]
 rw[if_pos (by unfold Ga;simp;omega),Int.toNat_natCast,hv]
 simp[hcl]
theorem Ze.Fx {P:PV} {ls:List (List (Int×Int))} {ps:List PV} (hP:Ze P ls ps) {i:Nat} {v:PV} (hv:ps[i]? =some v) (H:List ba):wa H 1 (.pv P) (i:Int)=some (.pv (.rp [v] 0)):=by
 have hi:i < ls.length:=by rw[← hP.len];exact (List.getElem?_eq_some_iff.1 hv).1
 obtain⟨w,hw,_,h⟩:=hP.Ad hi H
 rw[hv] at hw;injection hw with hw;subst hw;exact h
def vo (p q:List (List (Int×Int))) (i:Nat):List (Int×Int):=match p[i]?,q[i]? with
 |some a,some b=>Kf (a.length+b.length) a b
 |_,_=>[]
def Wb (p q:List (List (Int×Int))):Nat→Nat→Option (List Int)
 |0,_=>some []
 |n+1,i=>match vo p q i with
  | []=>none
  |m::_=>(Wb p q n (i+1)).map (m.1:: ·)
abbrev aK (rp rq:List PV) (n i:Int) (tk:Nat) (nl:Bool) (es:List PV):Tr:=((((Tr.lf.set 35 (.pv (i64 i))).set 34 (.pv (i64 n))).set 8 (.uq tk nl 1 es)).set 4 (.pv (.rp rq 0))).set 3 (.pv (.rp rp 0))
theorem tq {A:List ba} {id n bytes:Nat} {nl:Bool} {h:rf} {es:List PV} (hg:A[id]? =some (.tok 1 n nl)) (hn:n=es.length) (hr:mb (n+1) bytes) (e:PV):
 Ub A false h 1 false bytes (.uq id nl 1 es) (.pv (.lit 1 [e]))=some (.uq id false 1 (es++[e]),A.set id (.tok 1 (n+1) false)):=Ah hg hn hr e
theorem yM {e f:PV} {p q:Rb} {P Q:PV} {ps qs:List PV} (hp:sf e p P ps) (hq:sf f q Q qs) (op:Zd p) (oq:Zd q) {n:Nat} (hn:n≤p.parts.length) (hn2:n≤q.parts.length):
 (Wb p.parts q.parts n 0=none→Gh [e,f,i64 n]=some (.uc [.ma,.bool false]))∧
 (∀ bs,Wb p.parts q.parts n 0=some bs→∃ v,Gh [e,f,i64 n]=some (.uc [v,.bool true])∧ri 1 v (bs.map (PV.int .u8))∧bs.length=n∧∀ b∈bs,0≤b∧b≤255):=by
 obtain⟨b1,hb1,hb1'⟩:=Fl hp
 obtain⟨b2,hb2,hb2'⟩:=Fl hq
 have:b1=true:=hb1'.2 op
 subst this
 have:b2=true:=hb2'.2 oq
 subst this
 obtain⟨hP1,hP2⟩:=hp.yx
 obtain⟨hQ1,hQ2⟩:=hq.yx
 have heq:=hp.eq
 have hfq:=hq.eq
 subst heq hfq
 have h8:=op.hi
 have lP:=hp.parts.Sb
 have lQ:=hq.parts.Sb
 have hloop:Ld (fun r=>∃ E H,(r=(.ret,⟨E,H⟩)∧E.get 6= .pv .ma∧E.get 7= .pv (.bool false)∧Wb p.parts q.parts n 0=none)∨(∃ nl bs,r=(.exit 0,⟨E,H⟩)∧E.get 8= .uq 0 nl 1 (bs.map (PV.int .u8))∧(nl=true→bs=[])∧Wb p.parts q.parts n 0=some bs∧bs.length=n∧∀ b∈bs,0≤b∧b≤255))
  (qb (fa (pa (Ea (fun _=>none) 8) Uf) (ga 1 [3,4,8,34,35])) qa ⟨aK [P,i64 p.first] [Q,i64 q.first] n 0 0 true [],[.tok 1 0 true]⟩):=by
  refine za (Eb (g:=fa (pa (Ea (fun _=>none) 8) Uf) (ga 1 [3,4,8,34,35]))
   (fun i t=>∃ nl bs,t=⟨aK [P,i64 p.first] [Q,i64 q.first] n i 0 nl (bs.map (PV.int .u8)),[.tok 1 i nl]⟩∧bs.length=i∧(nl=true→bs=[])∧(∀ b∈bs,0≤b∧b≤255)∧Wb p.parts q.parts n 0=(Wb p.parts q.parts (n - i) i).map (bs++ ·))
   n (by unfold qa;omega) _ ⟨true,[],rfl,rfl,fun _=>rfl,by simp,by cases Wb p.parts q.parts n 0 <;> simp[*]⟩ ?_ ?_) (fun r h=>h.2)
  ·rintro i t hi ⟨nl,bs,rfl,hlen,hnl,hby,hs⟩
   obtain⟨v,hv,hpv,_⟩:=hp.parts.Ad (i:=i) (by omega) []
   obtain⟨w,hw,hqw,_⟩:=hq.parts.Ad (i:=i) (by omega) []
   have a1:=hp.parts.Fx hv
   have a2:=hq.parts.Fx hw
   have okv:=op.parts _ (List.getElem_mem (show i < p.parts.length by omega))
   have okw:=oq.parts _ (List.getElem_mem (show i < q.parts.length by omega))
   have hmt:=iD v w _ _ hpv.is hqw.is okv.2 okw.2 (by
    have:=(Bq okv.2).2.1 okv.1
    have h1:=hpv.sz
    have h2:=hqw.sz
    have k1:=gu okv.2
    have k2:=gu okw.2
    omega)
   have hlaw:=Rr _ _ _ (-2) (-2) okv.2 okw.2 (Nat.le_refl _)
   have hmA:vo p.parts q.parts i=Kf (p.parts[i].length+q.parts[i].length) p.parts[i] q.parts[i]:=by
    unfold vo
    rw[List.getElem?_eq_getElem (show i < p.parts.length by omega),List.getElem?_eq_getElem (show i < q.parts.length by omega)]
   obtain⟨m,hm⟩:∃ m,n - i=m+1:=⟨n - i - 1,by omega⟩
   have hm':n - (i+1)=m:=by omega
   rw[hm,Wb,hmA] at hs
   have hme:=yp okv.2
   generalize p.parts[i]=lv at *
   generalize q.parts[i]=lw at *
   generalize Kf (lv.length+lw.length) lv lw=mm at *
   have e1:decide ((i:Int) < (n:Int))=true:=Fa (by omega)
   have t2:=Ya (i:=i) (n:=n) hi (by unfold maxLen;omega)
   have lm:∀ H,Sb H 0 (.pv (.lit 2 (Dd mm)))=some mm.length:=fun H=>by simp[Sb]
   have r0:∀ H (x y:PV),ya H false 1 (.pv (.rp [x,y] 0))=some (.pv x):=fun H x y=>rfl
   have r1:∀ H (x:PV),ya H false 1 (.pv (.rp [x] 0))=some (.pv x):=fun H x=>rfl
   have q0:∀ H (x y:PV),place H 0 (.pv (.rp [x,y] 0))=some (.pv (.rp [x,y] 0)):=fun H x y=>rfl
   generalize hQ:LN _ _ i=QQ
   cases mm with
   |nil=>
    have z1:(((0:Nat):Int)==0)=true:=by decide
    simp only[Option.map_none] at hs
    simp -implicitDefEqProofs only[SX,sevalprocAttr,Uf,e1,a1,a2,r0,r1,q0,hmt,lm,z1,aK]
    subst hQ
    exact⟨_,_,.inl ⟨rfl,by simp[Tr.aa],by simp[Tr.aa],hs⟩⟩
   |cons m0 mm=>
    have z1:(((mm.length+1:Nat):Int)==0)=false:=Zh (by omega)
    have i0:∀ H,wa H 2 (.pv (.lit 2 (Dd (m0::mm)))) 0=some (.pv (.rp [i64 m0.1,i64 m0.2] 0)):=fun H=>Lk H (i:=0) (l:=m0::mm) (by simp)
    have hb0:0≤m0.1∧m0.1≤255:=by
     have hmem:=(hlaw.1 m0.1).1 ⟨m0,by simp,Int.le_refl _,hlaw.2 m0 (by simp)⟩
     obtain⟨pp,hpp,h1,h2⟩:=hmem.1
     have:=hme pp hpp;omega
    have t3:IntKind.u8.wrap m0.1=m0.1:=wrap_u8 hb0
    have hap:=tq (A:=[.tok 1 i nl]) (id:=0) (n:=i) (h:= .uq) (nl:=nl) (bytes:=1) (es:=bs.map (PV.int .u8)) rfl (by simp[hlen]) (by unfold mb;omega) (.int .u8 m0.1)
    rw[List.set_cons_zero] at hap
    have lm':∀ H,Sb H 0 (.pv (.lit 2 (Dd (m0::mm))))=some (mm.length+1):=lm
    have hbm:(bs++[m0.1]).map (PV.int .u8)=bs.map (PV.int .u8)++[.int .u8 m0.1]:=by simp
    generalize Dd (m0::mm)=L at *
    simp -implicitDefEqProofs only[SP,WP,na,sevalprocAttr,Uf,e1,t2,t3,a1,a2,r0,r1,q0,hmt,lm',z1,i0,hap,ga,Aa,AV.cut,oa,ua,aK]
    subst hQ
    refine⟨false,bs++[m0.1],by rw[hbm],by simp[hlen],by simp,?_,?_⟩
    ·intro b hb
     rcases List.mem_append.1 hb with h | h
     ·exact hby b h
     ·simp at h;subst h;exact hb0
    ·rw[hs,hm']
     cases Wb p.parts q.parts m (i+1) <;> simp
  ·rintro t ⟨nl,bs,rfl,hlen,hnl,hby,hs⟩
   rw[Nat.sub_self,Wb] at hs
   have e1:decide ((n:Int) < (n:Int))=false:=Ka (by omega)
   generalize hQ:(fun r:Ex×St=>r.1.stop=true∧_)=QQ
   simp -implicitDefEqProofs only[SX,sevalprocAttr,Uf,e1,aK]
   subst hQ
   exact⟨rfl,_,_,.inr ⟨nl,bs,rfl,by simp[Tr.aa],hnl,by rw[hs];simp,hlen,hby⟩⟩
 obtain⟨r,h1,E,H,h2⟩:=Gc hloop
 have h1':qb (fa (pa (Ea (fun _=>none) 8) Uf) (ga 1 [3,4,8,34,35])) qa ⟨((((Tr.lf.set 35 (.pv (.int .i64 0))).set 34 (.pv (i64 n))).set 8 (.uq 0 true 1 [])).set 4 (.pv (.rp [Q,i64 q.first] 0))).set 3 (.pv (.rp [P,i64 p.first] 0)),[.tok 1 0 true]⟩=some r:=h1
 have d0:decide ((n:Int) < 0)=false:=Ka (by omega)
 have d1:decide ((n:Int) > (if (q.parts.length:Int) < (p.parts.length:Int) then (q.parts.length:Int) else (p.parts.length:Int)))=false:=Ka (by split <;> omega)
 have hz:(0 < 1)=True:=by simp
 have r2:∀ H (x y:PV),ya H true 2 (.pv (.rp [x,y] 0))=some (.pv (.agg [x,y])):=fun H x y=>rfl
 have r0:∀ H (x y:PV),ya H false 1 (.pv (.rp [x,y] 0))=some (.pv x):=fun H x y=>rfl
 have q0:∀ H (x y:PV),place H 0 (.pv (.rp [x,y] 0))=some (.pv (.rp [x,y] 0)):=fun H x y=>rfl
 rcases h2 with⟨rfl,h6,h7,hnone⟩ | ⟨nl,bs,rfl,h8',hnl,hsome,hlen,hby⟩
 ·refine⟨fun _=> ?_,fun bs hbs=>by rw[hnone] at hbs;cases hbs⟩
  simp -implicitDefEqProofs only[Gh,SX,sevalprocAttr,xk,Bb,hP1,hQ1,r2,r0,q0,hb1,hb2,lP,lQ,Vp,qe,d0,d1,Ee,hz,ga,Aa,AV.cut,oa,ua,h1',h6,h7]
 ·refine⟨fun hn=>(by rw[hsome] at hn;cases hn),fun bs' hbs=> ?_⟩
  rw[hsome] at hbs;injection hbs with hbs;subst hbs
  cases nl with
  |true=>
   have:=hnl rfl;subst this
   refine⟨.ma,?_,.inl ⟨rfl,rfl⟩,hlen,hby⟩
   simp -implicitDefEqProofs only[Gh,SX,sevalprocAttr,xk,Bb,hP1,hQ1,r2,r0,q0,hb1,hb2,lP,lQ,Vp,qe,d0,d1,Ee,hz,ga,Aa,AV.cut,oa,ua,h1',h8']
  |false=>
   refine⟨.lit 1 (bs.map (PV.int .u8)),?_,.inr rfl,hlen,hby⟩
   simp -implicitDefEqProofs only[Gh,SX,sevalprocAttr,xk,Bb,hP1,hQ1,r2,r0,q0,hb1,hb2,lP,lQ,Vp,qe,d0,d1,Ee,hz,ga,Aa,AV.cut,oa,ua,h1',h8']
end Go.AM.B1
namespace Go.AM.B1
open Go.AM Go.AM.So
def Qa:List (List (Int×Int))→Int
 | []=>1
 |l::r=>Qa r * Bc 0 l
theorem sg:∀ {ls:List (List (Int×Int))},(∀ l∈ls,xd l)→1≤Qa ls
 | [],_=>by simp[Qa]
 |l::r,h=>by
  have h1:=sg (ls:=r) fun x hx=>h x (by simp[hx])
  have h2:=(sh (h l (by simp))).1
  rw[Qa]
  have:=Int.mul_le_mul h1 h2 (by omega) (by omega);omega
theorem Qx:∀ (ls:List (List (Int×Int))) (n:Int),(∀ l∈ls,xd l)→1≤n→n≤1073741825→ah n ls=if 1073741825 < n * Qa ls then 1073741825 else n * Qa ls
 | [],n,_,h1,h2=>by rw[ah,Qa,Int.mul_one,if_neg (by omega)]
 |l::r,n,h,h1,h2=>by
  have hs:=sh (h l (by simp))
  have hm:=jw h1 h2 hs.1 hs.2
  have hp:=sg (ls:=r) fun x hx=>h x (by simp[hx])
  have e:n * (Qa r * Bc 0 l)=(n * Bc 0 l) * Qa r:=by rw[Int.mul_comm (Qa r),Int.mul_assoc]
  rw[ah,Qa,e]
  by_cases hc:1073741825 < n * Bc 0 l
  ·rw[if_pos hc,Qx r _ (fun x hx=>h x (by simp[hx])) (by omega) (by omega)]
   have h3:n * Bc 0 l * 1≤n * Bc 0 l * Qa r:=Int.mul_le_mul_of_nonneg_left hp (by omega)
   rw[if_pos (show 1073741825 < n * Bc 0 l * Qa r by omega)]
   split
   ·rfl
   ·have h4:1073741825 * 1≤1073741825 * Qa r:=Int.mul_le_mul_of_nonneg_left hp (by omega)
    omega
  ·rw[if_neg hc,Qx r _ (fun x hx=>h x (by simp[hx])) (by omega) (by omega)]
theorem Zd.prod {s:Rb} (h:Zd s):ah 1 s.parts=Qa s.parts∧Qa s.parts≤1073741824:=by
 have h1:=Qx s.parts 1 h.parts (by omega) (by omega)
 have h2:=h.last
 have h3:=h.f0
 unfold qh at h2
 rw[Int.one_mul] at h1
 split at h1
 ·omega
 ·exact⟨h1,by omega⟩
theorem Zd.qh {s:Rb} (h:Zd s):B1.qh s=s.first+Qa s.parts - 1:=by
 unfold B1.qh;rw[h.prod.1]
theorem Ym {ls:List (List (Int×Int))} (h:∀ l∈ls,xd l) (i:Nat):Qa (ls.drop i)≤Qa ls:=by
 induction ls generalizing i with
 |nil=>simp
 |cons l r ih=>
  cases i with
  |zero=>simp
  |succ i=>
   rw[List.drop_succ_cons,Qa]
   have h1:=ih (fun x hx=>h x (by simp[hx])) i
   have h2:=(sh (h l (by simp))).1
   have hp:=sg (ls:=r) fun x hx=>h x (by simp[hx])
   have:Qa r * 1≤Qa r * Bc 0 l:=Int.mul_le_mul_of_nonneg_left h2 (by omega)
   omega
def Dp (l:List Int) (fl:Nat) (nl:Bool):ba:= .seq 1 false (Ha l) fl nl
section
variable {A:List ba} {id n fl:Nat} {nl:Bool} {l:List Int} (hg:A[id]? =some (Dp l fl nl)) (hn:n=l.length) (hf:fl≤n)
include hg hn
theorem eE (hf:fl≤n) {i:Int} {k:Nat} (hi:i=(k:Int)) (hk:k < n):wa A 1 (.own id n) i=some (.Ac id n k):=by
 have:=gb l
 subst hi
 simp only[wa,hg,Dp]
 rw[if_pos (by refine⟨trivial,?_,?_⟩ <;> first | (unfold Ga;omega) | (unfold Jh;omega))]
 simp
theorem zD {k:Nat} (hk:k < n) (v:Int):Ma A 1 (.Ac id n k) (.pv (i64 v))=some (A.set id (Dp (l.set k v) n nl)):=by
 have hl:=gb l
 have hc:(AV.pv (i64 v)).cells=[.pv (i64 v)]:=rfl
 simp only[Ma,hg,Dp,hc]
 rw[if_pos ⟨rfl,rfl⟩,if_pos ⟨by omega,by omega⟩,na,na,Ui]
theorem gP (d:Nat):Xb A (d+1) (.own id n)=some (if nl then .ma else .lit 1 (l.map i64)):=by
 have hl:=gb l
 subst hn
 simp only[Xb,hg,Dp]
 have hm:Sa (Xb A d) (Ha l)=some (l.map i64):=by rw[Gs,LB]
 have hck:∀ l:List Int,chunk 1 false l.length (l.map i64)=l.map i64:=by
  intro l
  induction l with
  |nil=>rfl
  |cons a l ih=>simp only[List.map_cons,List.length_cons,chunk,Bool.false_eq_true,if_false,List.headD_cons,List.drop_succ_cons,List.drop_zero];rw[ih]
 rw[if_pos ⟨by omega,by rfl⟩,hm]
 cases nl with
 |true=>rfl
 |false=>simp only[Bool.false_eq_true,if_false,Option.map_some,hck]
end
theorem bK (l:List Int) (fl:Nat) (nl:Bool) (n:Nat):oa n (Dp l fl nl)=some (Dp l fl nl):=by
 have:(Ha l).all (AV.ze n deep)=true:=by
  rw[List.all_eq_true]
  intro v hv
  obtain⟨p,_,rfl⟩:=List.mem_map.1 hv
  rfl
 simp[oa,Dp,this]
def Rl (ls:List (List (Int×Int))) (i:Nat):List Int:=(List.range (ls.length+1)).map fun j=>if i < j then Qa (ls.drop j) else 0
theorem uw (ls:List (List (Int×Int))) (i:Nat):(Rl ls i).length=ls.length+1:=by simp[Rl]
theorem IP (ls:List (List (Int×Int))) (i:Nat) (hi:i < ls.length):(Rl ls (i+1)).set (i+1) (Qa (ls.drop (i+1)))=Rl ls i:=by
 apply List.ext_getElem
 ·simp[Rl]
 ·intro j h1 h2
  rw[List.getElem_set]
  simp only[Rl,List.getElem_map,List.getElem_range]
  by_cases hj:i+1=j
  ·subst hj;simp
  ·rw[if_neg hj]
   by_cases h:i+1 < j
   ·rw[if_pos h,if_pos (by omega)]
   ·rw[if_neg h,if_neg (by omega)]
def Sj (ls:List (List (Int×Int))):List Int:=(List.range (ls.length+1)).map fun j=>Qa (ls.drop j)
theorem CM (ls:List (List (Int×Int))):(Rl ls 0).set 0 (Qa ls)=Sj ls:=by
 apply List.ext_getElem
 ·simp[Rl,Sj]
 ·intro j h1 h2
  rw[List.getElem_set]
  simp only[Rl,Sj,List.getElem_map,List.getElem_range]
  by_cases hj:0=j
  ·subst hj;simp
  ·rw[if_neg hj,if_pos (by omega)]
abbrev cN (row:List PV) (m:Nat) (n i:Int):Tr:=(((Tr.lf.set 5 (.pv (i64 i))).set 4 (.pv (i64 n))).set 3 (.own 0 m)).set 1 (.pv (.rp row 0))
theorem lF {e:PV} {s:Rb} {P:PV} {ps:List PV} (h:sf e s P ps) (Ba:Zd s):rl [e]=some (.lit 1 ((Sj s.parts).map i64)):=by
 obtain⟨hP1,hP2⟩:=h.yx
 have heq:=h.eq
 subst heq
 have hP:=h.parts
 have lP:=hP.Sb
 have h8:=Ba.hi
 have hpr:=Ba.prod.2
 have hloop:Ld (fun r=>∃ E,r=(.exit 0,⟨E,[Dp (Rl s.parts 0) (s.parts.length+1) false]⟩)∧E.get 3= .own 0 (s.parts.length+1)∧E.get 4= .pv (i64 (Qa s.parts)))
  (qb (fa (pa (Ea (fun _=>none) 8) zh) (ga 1 [1,3,4,5])) qa ⟨cN [P,i64 s.first] (s.parts.length+1) 1 s.parts.length,[Dp (Rl s.parts s.parts.length) 0 false]⟩):=by
  refine za (gq (g:=fa (pa (Ea (fun _=>none) 8) zh) (ga 1 [1,3,4,5]))
   (fun i t=>∃ fl,i≤s.parts.length∧t=⟨cN [P,i64 s.first] (s.parts.length+1) (Qa (s.parts.drop i)) i,[Dp (Rl s.parts i) fl false]⟩∧fl≤s.parts.length+1∧(i < s.parts.length∨s.parts.length=0→fl=s.parts.length+1∨s.parts.length=0))
   qa s.parts.length _ (by unfold qa;omega) ⟨0,Nat.le_refl _,by rw[List.drop_length];rfl,by omega,fun h=>by omega⟩ ?_) (fun r h=>h.2)
  rintro i t ⟨fl,hi,rfl,hfl,hfl2⟩
  cases i with
  |zero=>
   have h1:=Ba.lo
   have:fl=s.parts.length+1:=by rcases hfl2 (.inl (by omega)) with h | h <;> omega
   subst this
   have e1:decide (((0:Nat):Int) > 0)=false:=by decide
   generalize hQ:LQ _ _ _=Q
   simp -implicitDefEqProofs only[SX,sevalprocAttr,-List.reduceReplicate,zh,e1,cN]
   subst hQ
   exact⟨_,rfl,by simp[Tr.aa],by simp[Tr.aa]⟩
  |succ i=>
   have e1:decide (((i+1:Nat):Int) > 0)=true:=Fa (by omega)
   have t1:IntKind.i64.wrap (((i+1:Nat):Int) - 1)=(i:Int):=by rw[Da (by omega)];omega
   have hg:[Dp (Rl s.parts (i+1)) fl false][0]? =some (Dp (Rl s.parts (i+1)) fl false):=rfl
   have a1:=eE hg (n:=s.parts.length+1) (uw _ _).symm hfl (i:=((i+1:Nat):Int)) rfl (by omega)
   have s1:=zD hg (n:=s.parts.length+1) (uw _ _).symm (k:=i+1) (by omega) (Qa (s.parts.drop (i+1)))
   rw[List.set_cons_zero,IP s.parts i (by omega)] at s1
   obtain⟨v,hv,hpt,_⟩:=hP.Ad (i:=i) (by omega) []
   have a2:=hP.Fx hv
   have hpo:=Ba.parts s.parts[i] (List.getElem_mem (by omega))
   have hss:=bw v s.parts[i] hpt.is hpt.sz hpo.2
   have hd:s.parts.drop i=s.parts[i]::s.parts.drop (i+1):=List.drop_eq_getElem_cons (by omega)
   have hpd:Qa (s.parts.drop i)=Qa (s.parts.drop (i+1)) * Bc 0 s.parts[i]:=by rw[hd,Qa]
   have hle:=Ym Ba.parts i
   have hpos:=sg (ls:=s.parts.drop i) fun x hx=>Ba.parts x (List.mem_of_mem_drop hx)
   rw[hpd] at hle hpos
   generalize s.parts[i]=l at *
   have t3:IntKind.i64.wrap (Qa (s.parts.drop (i+1)) * Bc 0 l)=Qa (s.parts.drop (i+1)) * Bc 0 l:=Da (by omega)
   have r0:∀ H (x y:PV),ya H false 1 (.pv (.rp [x,y] 0))=some (.pv x):=fun H x y=>rfl
   have r1:∀ H (x:PV),ya H false 1 (.pv (.rp [x] 0))=some (.pv x):=fun H x=>rfl
   have q0:∀ H (x y:PV),place H 0 (.pv (.rp [x,y] 0))=some (.pv (.rp [x,y] 0)):=fun H x y=>rfl
   have hcut:∀ l' fl',Sa (oa 1) [Dp l' fl' false]=some [Dp l' fl' false]:=fun l' fl'=>by simp[Sa,bK]
   have hz:(0 < 1)=True:=by simp
   have htk:∀ o:ba,[o].take 1=[o]:=fun o=>rfl
   generalize hQ:LQ _ _ _=Q
   simp -implicitDefEqProofs only[SP,WP,na,sevalprocAttr,-List.reduceReplicate,zh,e1,t1,t3,a1,s1,a2,hss,r0,r1,q0,hcut,hz,htk,ga,Aa,AV.cut,ua,cN]
   subst hQ
   exact⟨i,by omega,s.parts.length+1,by omega,by rw[hpd],by omega,fun _=> .inl rfl⟩
 obtain⟨r,h1,E,rfl,hE3,hE4⟩:=Gc hloop
 have h1':qb (fa (pa (Ea (fun _=>none) 8) zh) (ga 1 [1,3,4,5])) qa ⟨(((Tr.lf.set 5 (.pv (i64 s.parts.length))).set 4 (.pv (.int .i64 1))).set 3 (.own 0 (s.parts.length+1))).set 1 (.pv (.rp [P,i64 s.first] 0)),[Dp (Rl s.parts s.parts.length) 0 false]⟩=_:=h1
 have hz0:ba.seq 1 false (qk [PV.int .i64 0] (s.parts.length+1)) 0 false=Dp (Rl s.parts s.parts.length) 0 false:=by
  rw[KF,Dp]
  congr 2
  apply List.ext_getElem
  ·simp[Rl]
  ·intro j hj1 hj2
   simp at hj1
   simp only[Rl,List.getElem_replicate,List.getElem_map,List.getElem_range]
   rw[if_neg (by omega)]
 have t1:IntKind.i64.wrap ((s.parts.length:Int)+1)=((s.parts.length+1:Nat):Int):=Da (by omega)
 have e2:(0≤((s.parts.length+1:Nat):Int))=True:=by simp;omega
 have e3:(((s.parts.length+1:Nat):Int)≤((s.parts.length+1:Nat):Int))=True:=by simp
 have e4:mb (s.parts.length+1) 8:=by unfold mb;omega
 have hg:[Dp (Rl s.parts 0) (s.parts.length+1) false][0]? =some (Dp (Rl s.parts 0) (s.parts.length+1) false):=rfl
 have a1:=eE hg (n:=s.parts.length+1) (uw _ _).symm (Nat.le_refl _) (i:=0) (k:=0) rfl (by omega)
 have s1:=zD hg (n:=s.parts.length+1) (uw _ _).symm (k:=0) (by omega) (Qa s.parts)
 rw[List.set_cons_zero,CM] at s1
 have hpv:=gP (A:=[Dp (Sj s.parts) (s.parts.length+1) false]) (id:=0) (n:=s.parts.length+1) rfl (by simp[Sj]) 5
 rw[if_neg (by simp)] at hpv
 have r0:∀ H (x y:PV),ya H false 1 (.pv (.rp [x,y] 0))=some (.pv x):=fun H x y=>rfl
 have q0:∀ H (x y:PV),place H 0 (.pv (.rp [x,y] 0))=some (.pv (.rp [x,y] 0)):=fun H x y=>rfl
 have hcut:∀ l' fl',Sa (oa 1) [Dp l' fl' false]=some [Dp l' fl' false]:=fun l' fl'=>by simp[Sa,bK]
 have hz:(0 < 1)=True:=by simp
 have htk:∀ o:ba,[o].take 1=[o]:=fun o=>rfl
 generalize s.parts.length+1=m at *
 simp -implicitDefEqProofs only[rl,SP,WP,na,sevalprocAttr,-List.reduceReplicate,Xq,Bb,hP1,r0,q0,lP,t1,e2,e3,eq_true e4,hz0,hcut,hz,htk,ga,Aa,AV.cut,h1',hE3,hE4,a1,s1,hpv,ua]
end Go.AM.B1
namespace Go.AM.B1
open Go.AM Go.AM.So
def Xi:List (List (Int×Int))→List Int→Int→Option Int
 |l::r,x::b,k=>if (Cf x 0 l).2=true then Xi r b (k+(Cf x 0 l).1 * Qa r) else none
 |_,_,k=>some k
def Sl (s:Rb) (b:List Int):Option Int:=if b.length=s.parts.length then Xi s.parts b 0 else none
theorem Fq {top x:Int}:∀ {l:List (Int×Int)} {last n:Int},Oa top last l=true→(Cf x n l).2=true→n≤(Cf x n l).1∧(Cf x n l).1 < n+Bc 0 l
 | [],last,n,_,h=>by simp[Cf] at h
 |p::l,last,n,hv,h=>by
  obtain⟨h1,h2,h3,h4,h5⟩:=Wd hv
  have hs:=(Bq h5).1
  rw[Cf] at h ⊢
  rw[Bc,Vz]
  by_cases c1:x < p.1
  ·rw[if_pos c1] at h;cases h
  ·rw[if_neg c1] at h ⊢
   by_cases c2:x≤p.2
   ·rw[if_pos c2];simp only;omega
   ·rw[if_neg c2] at h ⊢
    have:=Fq h5 h;omega
theorem iN {l:List (Int×Int)} (h:Oa 255 (-2) l=true):Dx l=l:=by unfold Dx;rw[if_pos h]
theorem EC (H:List ba) {sz k:Nat} {es:List PV} (hz:0 < sz) (hk:k≤es.length):Ye H sz (.pv (.lit sz es)) (some (k:Int)) none=some (.pv (.lit sz (es.drop k))):=by
 simp only[Ye,Option.getD_some,Option.getD_none]
 rw[if_pos ⟨hz,trivial,by omega,by omega,by omega⟩]
 simp
theorem Jt (b:List Int) (k:Int):Xi [] b k=some k:=by cases b <;> rfl
abbrev nJ (row:List PV) (B S:PV) (n i k:Int):Tr:=(((((Tr.lf.set 26 (.pv (i64 i))).set 25 (.pv (i64 n))).set 24 (.pv S)).set 6 (.pv (i64 k))).set 2 (.pv (.rp row 0))).set 1 (.pv B)
structure Yi (B:PV) (bs:List Int):Prop where
 is:ri 1 B (bs.map (PV.int .u8))
 nE:∀ b∈bs,0≤b∧b≤255
theorem Yi.Sb {B:PV} {bs:List Int} (h:Yi B bs) (H:List ba):Go.AM.Sb H 0 (.pv B)=some bs.length:=by
 rw[h.is.len];simp
theorem Yi.one {B:PV} {bs:List Int} (h:Yi B bs):(AV.pv B).one=true:=by
 rcases h.is with⟨h,_⟩ | h <;> rw[h] <;> rfl
theorem Yi.Ad {B:PV} {bs:List Int} (h:Yi B bs) {i:Nat} (hi:i < bs.length) (H:List ba):wa H 1 (.pv B) (i:Int)=some (.pv (.rp [.int .u8 bs[i]] 0)):=by
 have hl:=h.is.lit (i:=i) (by simpa using hi)
 rw[hl]
 simp only[wa]
 rw[if_pos (by unfold Ga;simp;omega),Int.toNat_natCast,List.getElem?_map,List.getElem?_eq_getElem hi];rfl
theorem CD {e:PV} {s:Rb} {P:PV} {ps:List PV} (h:sf e s P ps) {B:PV} {bs:List Int} (hB:Yi B bs) (Ba:Zd s):
 (∀ k,Sl s bs=some k→Ci [e,B]=some (.uc [i64 k,.bool true]))∧(Sl s bs=none→Ci [e,B]=some (.uc [i64 0,.bool false])):=by
 obtain⟨b1,hb1,hb1'⟩:=Fl h
 have:=hb1'.2 Ba
 subst this
 have hst:=lF h Ba
 obtain⟨hP1,hP2⟩:=h.yx
 have heq:=h.eq
 subst heq
 have hP:=h.parts
 have lP:=hP.Sb
 have lB:=hB.Sb
 have hB1:=hB.one
 have h8:=Ba.hi
 have hpr:=Ba.prod.2
 have r2:∀ H (x y:PV),ya H true 2 (.pv (.rp [x,y] 0))=some (.pv (.agg [x,y])):=fun H x y=>rfl
 have r0:∀ H (x y:PV),ya H false 1 (.pv (.rp [x,y] 0))=some (.pv x):=fun H x y=>rfl
 have r1:∀ H (x:PV),ya H false 1 (.pv (.rp [x] 0))=some (.pv x):=fun H x=>rfl
 have q0:∀ H (x y:PV),place H 0 (.pv (.rp [x,y] 0))=some (.pv (.rp [x,y] 0)):=fun H x y=>rfl
 by_cases hlen:bs.length=s.parts.length
 ·have hrk:Sl s bs=Xi s.parts bs 0:=by unfold Sl;rw[if_pos hlen]
  have hsl:∀ H,Ye H 1 (.pv (.lit 1 ((Sj s.parts).map i64))) (some 1) none=some (.pv (.lit 1 (((Sj s.parts).map i64).drop 1))):=fun H=>EC H (k:=1) (by omega) (by simp[Sj])
  have hdl:(((Sj s.parts).map i64).drop 1).length=s.parts.length:=by simp[Sj]
  have hde:∀ i,i < s.parts.length→(((Sj s.parts).map i64).drop 1)[i]? =some (i64 (Qa (s.parts.drop (i+1)))):=by
   intro i hi
   rw[List.getElem?_drop,List.getElem?_map,Sj,List.getElem?_map,List.getElem?_range (by omega),Nat.add_comm 1 i];rfl
  generalize ((Sj s.parts).map i64).drop 1=S at *
  have hloop:Ld (fun r=>∃ E,(r=(.ret,⟨E,[]⟩)∧E.get 4= .pv (i64 0)∧E.get 5= .pv (.bool false)∧Xi s.parts bs 0=none)∨(∃ k,r=(.exit 0,⟨E,[]⟩)∧E.get 6= .pv (i64 k)∧Xi s.parts bs 0=some k))
   (qb (fa (pa (Ea (fun _=>none) 8) Wg) (ga 0 [1,2,6,24,25,26])) qa ⟨nJ [P,i64 s.first] B (.lit 1 S) s.parts.length 0 0,[]⟩):=by
   refine za (Eb (g:=fa (pa (Ea (fun _=>none) 8) Wg) (ga 0 [1,2,6,24,25,26]))
    (fun i t=>∃ k,t=⟨nJ [P,i64 s.first] B (.lit 1 S) s.parts.length i k,[]⟩∧0≤k∧k+Qa (s.parts.drop i)≤Qa s.parts∧Xi s.parts bs 0=Xi (s.parts.drop i) (bs.drop i) k)
    s.parts.length (by unfold qa;omega) _ ⟨0,rfl,by omega,by simp,rfl⟩ ?_ ?_) (fun r h=>h.2)
   ·rintro i t hi ⟨k,rfl,hk0,hk1,hs⟩
    obtain⟨v,hv,hpt,_⟩:=hP.Ad hi []
    have a2:=hP.Fx hv
    have hpo:=Ba.parts s.parts[i] (List.getElem_mem hi)
    have hib:i < bs.length:=by omega
    have a3:=hB.Ad hib
    have hbr:=hB.nE bs[i] (List.getElem_mem hib)
    have hd:s.parts.drop i=s.parts[i]::s.parts.drop (i+1):=List.drop_eq_getElem_cons hi
    have hdb:bs.drop i=bs[i]::bs.drop (i+1):=List.drop_eq_getElem_cons hib
    have hrr:=Sv v s.parts[i] hpt.is hpt.sz bs[i]
    rw[iN hpo.2] at hrr
    have hrb:=Fq (x:=bs[i]) (n:=0) hpo.2
    rw[hd,Qa] at hk1
    rw[hd,hdb,Xi] at hs
    have hle:=Ym Ba.parts (i+1)
    have hpos:=sg (ls:=s.parts.drop (i+1)) fun x hx=>Ba.parts x (List.mem_of_mem_drop hx)
    have hsz:=sh hpo
    generalize s.parts[i]=l at *
    generalize bs[i]=x at *
    have e1:decide ((i:Int) < (s.parts.length:Int))=true:=Fa (by omega)
    have t2:=Ya hi (by unfold maxLen;omega)
    have t3:IntKind.i64.wrap x=x:=Da (by omega)
    have a1:∀ H,wa H 1 (.pv (.lit 1 S)) (i:Int)=some (.pv (.rp [i64 (Qa (s.parts.drop (i+1)))] 0)):=fun H=>by
     simp only[wa]
     rw[if_pos (by unfold Ga;simp;omega),Int.toNat_natCast,hde i hi];rfl
    obtain⟨⟨d,is⟩,hrk2⟩:∃ r,r=Cf x 0 l:=⟨_,rfl⟩
    rw[← hrk2] at hrr hs hrb
    generalize hQ:LN _ _ i=Q
    cases is with
    |false=>
     simp only[Bool.false_eq_true,if_false] at hs
     simp -implicitDefEqProofs only[SX,sevalprocAttr,-List.reduceReplicate,Wg,e1,a1,a2,a3,r0,r1,q0,t3,hrr,nJ]
     subst hQ
     exact⟨_,.inl ⟨rfl,by simp[Tr.aa],by simp[Tr.aa],hs⟩⟩
    |true=>
     simp only[if_true] at hs
     have hb2:=hrb rfl
     simp only at hb2
     have hmul:d * Qa (s.parts.drop (i+1))+Qa (s.parts.drop (i+1))≤Qa (s.parts.drop (i+1)) * Bc 0 l:=by
      have h1:(d+1) * Qa (s.parts.drop (i+1))≤Bc 0 l * Qa (s.parts.drop (i+1)):=Int.mul_le_mul_of_nonneg_right (by omega) (by omega)
      rw[Int.add_mul,Int.one_mul,Int.mul_comm (Bc 0 l)] at h1
      exact h1
     have hm0:0≤d * Qa (s.parts.drop (i+1)):=Int.mul_nonneg (by omega) (by omega)
     have t4:IntKind.i64.wrap (d * Qa (s.parts.drop (i+1)))=d * Qa (s.parts.drop (i+1)):=Da (by omega)
     have t5:IntKind.i64.wrap (k+d * Qa (s.parts.drop (i+1)))=k+d * Qa (s.parts.drop (i+1)):=Da (by omega)
     simp -implicitDefEqProofs only[SX,sevalprocAttr,-List.reduceReplicate,Wg,e1,t2,t4,t5,a1,a2,a3,r0,r1,q0,t3,hrr,ga,Aa,AV.cut,ua,nJ]
     subst hQ
     exact⟨_,rfl,by omega,by omega,hs⟩
   ·rintro t ⟨k,rfl,hk0,hk1,hs⟩
    rw[List.drop_length,Jt] at hs
    have e1:decide ((s.parts.length:Int) < (s.parts.length:Int))=false:=Ka (by omega)
    generalize hQ:(fun r:Ex×St=>r.1.stop=true∧_)=Q
    simp -implicitDefEqProofs only[SX,sevalprocAttr,-List.reduceReplicate,Wg,e1,nJ]
    subst hQ
    exact⟨rfl,_,.inr ⟨k,rfl,by simp[Tr.aa],hs⟩⟩
  obtain⟨r,h1,E,h2⟩:=Gc hloop
  have h1':qb (fa (pa (Ea (fun _=>none) 8) Wg) (ga 0 [1,2,6,24,25,26])) qa ⟨(((((Tr.lf.set 26 (.pv (.int .i64 0))).set 25 (.pv (i64 s.parts.length))).set 24 (.pv (.lit 1 S))).set 6 (.pv (.int .i64 0))).set 2 (.pv (.rp [P,i64 s.first] 0))).set 1 (.pv B),[]⟩=some r:=h1
  have d1:((bs.length:Int) != (s.parts.length:Int))=false:=by rw[hlen];simp
  rw[hrk]
  rcases h2 with⟨rfl,h4,h5,hn⟩ | ⟨k,rfl,h6,hk⟩
  ·refine⟨fun k hk=>by (rw[hn] at hk;cases hk),fun _=> ?_⟩
   simp -implicitDefEqProofs only[Ci,SX,sevalprocAttr,-List.reduceReplicate,Em,Bb,hP1,hB1,r2,r0,q0,hb1,lP,lB,d1,hst,hsl,hdl,ga,Aa,AV.cut,ua,h1',h4,h5]
  ·refine⟨fun k' hk'=> ?_,fun hn=>by (rw[hk] at hn;cases hn)⟩
   obtain rfl:k=k':=Option.some.inj (hk.symm.trans hk')
   simp -implicitDefEqProofs only[Ci,SX,sevalprocAttr,-List.reduceReplicate,Em,Bb,hP1,hB1,r2,r0,q0,hb1,lP,lB,d1,hst,hsl,hdl,ga,Aa,AV.cut,ua,h1',h6]
 ·have d1:((bs.length:Int) != (s.parts.length:Int))=true:=by
   have:(bs.length:Int)≠(s.parts.length:Int):=by omega
   simp[this]
  have hrk:Sl s bs=none:=by unfold Sl;rw[if_neg hlen]
  refine⟨fun k hk=>by (rw[hrk] at hk;cases hk),fun _=> ?_⟩
  simp -implicitDefEqProofs only[Ci,SX,sevalprocAttr,-List.reduceReplicate,Em,Bb,hP1,hB1,r2,r0,q0,hb1,lP,lB,d1]
end Go.AM.B1
