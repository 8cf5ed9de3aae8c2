/- What functions of the program compute. -/
import Derived.Test.YtdglpnpkgngcdaaGreatO4
set_option linter.unusedVariables false
set_option linter.unusedSimpArgs false
namespace Go.AM.B1
open Go.AM
def Jr (a:Int):List Int→Nat→Option Nat
 | [],_=>none
 |b::l,k=>if a=b then some k else Jr a l (k+1)
def XH (l:List Int) (k:Nat):List (PV×PV):=(l.zipIdx k).map fun p=>(i64 p.1,i64 p.2)
theorem mA (a:Int) (l:List Int) (k:Nat):XH (a::l) k=(i64 a,i64 k)::XH l (k+1):=rfl
theorem WE (a:Int):∀ (l:List Int) (k:Nat),XH (l++[a]) k=XH l k++[(i64 a,i64 (k+l.length:Nat))]
 | [],k=>by simp[XH]
 |b::l,k=>by rw[List.cons_append,mA,WE a l (k+1),mA];simp;omega
theorem XM {a:Int}:∀ {l:List Int} {k i:Nat},Jr a l k=some i→k≤i
 |b::l,k,i,h=>by
  simp only[Jr] at h
  split at h
  ·injection h with h;omega
  ·have:=XM h;omega
theorem HI (a:Int):∀ (l:List Int) (k j:Nat),Cl (.one 1) (i64 a) (XH l k) j=some ((Jr a l k).map fun i=>(j+(i - k),i64 i)):=by
 intro l
 induction l with
 |nil=>intro k j;rfl
 |cons b l ih=>
  intro k j
  have he:Rj (.one 1) (i64 a) (i64 b)=some (decide (a=b)):=by
   show (if IntKind.i64=IntKind.i64 then some (a==b) else none)=_
   rw[if_pos rfl]
   congr 1
  rw[mA,Cl,he]
  simp only[Option.bind_some,Jr]
  by_cases h:a=b
  ·simp[h]
  ·rw[if_neg h,ih]
   simp only[h,decide_false,Bool.false_eq_true,if_false,Option.some.injEq]
   cases hi:Jr a l (k+1) with
   |none=>rfl
   |some i=>
    have:=XM hi
    simp only[Option.map_some,Option.some.injEq,Prod.mk.injEq,and_true]
    omega
theorem PD (a:Int):(Rj (.one 1) (i64 a) (i64 a)).isSome=true:=rfl
abbrev Hm (R0 R1:ba) (S:PV) (nl nr:Bool) (fr:Nat) (sets:List Al) (C:List Int) (n:Nat) (L M:ba) (O:List Int) (out:List PV) (no:Bool) (T:List ba):List ba:=
 Dh R0 R1 S nl nr fr sets C n (L::M:: .box [.pv .ma]:: .map (XH O 0):: .tok 1 O.length false:: .box [.uq 12 no 1 out]:: .tok 1 out.length no::T)
abbrev Bw (q:Nat) (k:Int) (O:List Int) (eb:List Int) (x:Int):Tr:=
 (((((((((Tr.lf.set 32 (.pv (i64 x))).set 31 (.pv (Kh eb))).set 7 (.ptr q 0)).set 6 (.pv (i64 k))).set 5 (.ptr 11 0)).set 4 (.uq 10 false 1 (O.map i64))).set 3 (.mp 9)).set 2 (.ptr 8 0)).set 0 (.ptr 3 0))
def ri (x:Nat) (to:Int) (r:List Int×List Int):List Int×List Int:=
 if to < 0 then r else match Jr to r.1 0 with
  |some k=>(r.1,r.2.set x k)
  |none=>(r.1++[to],r.2.set x r.1.length)
section
variable (call:Wa) (R0 R1:ba) (S:PV) (nl nr:Bool) (fr:Nat) (sets:List Al) (C:List Int) (n:Nat) (L M:ba) (O:List Int) (out:List PV) (no:Bool) (J:List ba)
 (k:Int) (eb row:List Int) (x:Nat) (to:Int) (q:Nat) (hx:x < 256) (hto:eb[x]? =some to)
include hx hto
theorem UN (h:to < 0):
 ga (pa call fc) (fun s=>some (tidy [0,2,3,4,5,6,7,31,32] s)) ⟨Bw q k O eb x,Hm R0 R1 S nl nr fr sets C n L M O out no (J++[.box (Ha row)])⟩=
  some (.norm,⟨Bw q k O eb (x+1:Nat),Hm R0 R1 S nl nr fr sets C n L M O out no (J++[.box (Ha row)])⟩):=by
 have e1:decide ((x:Int) < 256)=true:=Fa (by omega)
 have e2:decide (to < 0)=true:=Fa (by omega)
 have hq:Ea (x:Int) 256:=by unfold Ea;omega
 have t1:((x:Int)).toNat=x:=by simp
 have t2:=Za (i:=x) (n:=256) hx (by unfold maxLen;omega)
 have ht:(eb.map i64)[x]? =some (i64 to):=by rw[List.getElem?_map,hto];rfl
 simp -implicitDefEqProofs only[SP,SA,SQ,sevalprocAttr,-List.reduceReplicate,ga,fc,e1,e2,eq_true hq,t1,t2,ht,wa,tidy,Bc,Bw,Hm,Dh]
theorem xS (hq13:q=J.length+1+1+1+1+1+1+1+1+1+1+1+1+1) (hrow:row.length=256) (h:¬to < 0) {j:Nat} (hj:Jr to O 0=some j):
 ga (pa call fc) (fun s=>some (tidy [0,2,3,4,5,6,7,31,32] s)) ⟨Bw q k O eb x,Hm R0 R1 S nl nr fr sets C n L M O out no (J++[.box (Ha row)])⟩=
  some (.norm,⟨Bw q k O eb (x+1:Nat),Hm R0 R1 S nl nr fr sets C n L M O out no (J++[.box (Ha (row.set x j))])⟩):=by
 have e1:decide ((x:Int) < 256)=true:=Fa (by omega)
 have e2:decide (to < 0)=false:=Ja (by omega)
 have hq:Ea (x:Int) 256:=by unfold Ea;omega
 have t1:((x:Int)).toNat=x:=by simp
 have t2:=Za (i:=x) (n:=256) hx (by unfold maxLen;omega)
 have ht:(eb.map i64)[x]? =some (i64 to):=by rw[List.getElem?_map,hto];rfl
 have hf:=HI to O 0 0
 rw[hj] at hf
 simp only[Option.map_some] at hf
 have his:=PD to
 have hle:(x+1≤(Ha row).length)=True:=by rw[fb];exact eq_true (by omega)
 subst hq13
 simp -implicitDefEqProofs only[SP,SA,SQ,sevalprocAttr,-List.reduceReplicate,ga,fc,e1,e2,eq_true hq,t1,t2,ht,hf,eq_true his,hle,Qi,En,yn,wa,tidy,Bc,Bw,Hm,Dh]
theorem AS (hq13:q=J.length+1+1+1+1+1+1+1+1+1+1+1+1+1) (hrow:row.length=256) (h:¬to < 0) (hj:Jr to O 0=none) (hO:O.length < 100):
 ga (pa call fc) (fun s=>some (tidy [0,2,3,4,5,6,7,31,32] s)) ⟨Bw q k O eb x,Hm R0 R1 S nl nr fr sets C n L M O out no (J++[.box (Ha row)])⟩=
  some (.norm,⟨Bw q k (O++[to]) eb (x+1:Nat),Hm R0 R1 S nl nr fr sets C n L M (O++[to]) out no (J++[.box (Ha (row.set x O.length))])⟩):=by
 have e1:decide ((x:Int) < 256)=true:=Fa (by omega)
 have e2:decide (to < 0)=false:=Ja (by omega)
 have hq:Ea (x:Int) 256:=by unfold Ea;omega
 have t1:((x:Int)).toNat=x:=by simp
 have t2:=Za (i:=x) (n:=256) hx (by unfold maxLen;omega)
 have ht:(eb.map i64)[x]? =some (i64 to):=by rw[List.getElem?_map,hto];rfl
 have hf:=HI to O 0 0
 rw[hj] at hf
 simp only[Option.map_none] at hf
 have his:=PD to
 have hle:(x+1≤(Ha row).length)=True:=by rw[fb];exact eq_true (by omega)
 have hlen:(O.map i64).length=O.length:=by simp
 have q1:qb (O.length+1) 8:=by unfold qb;omega
 have hp:=WE to O 0
 rw[Nat.zero_add] at hp
 have hlen2:(O++[to]).length=O.length+1:=by simp
 have hmap:(O++[to]).map i64=O.map i64++[i64 to]:=by simp
 subst hq13
 unfold Bw Hm
 rw[hp,hlen2,hmap]
 simp -implicitDefEqProofs only[SP,SA,SQ,sevalprocAttr,-List.reduceReplicate,ga,fc,e1,e2,eq_true hq,t1,t2,ht,hf,eq_true his,hle,hlen,eq_true q1,Qi,En,yn,wa,tidy,Bc,Dh,Nh,AV.CB,AV.Kn]
end
end Go.AM.B1
namespace Go.AM.B1
open Go.AM
def nu (n:Nat) (O:List Int):Prop:=O.Nodup∧∀ o∈O,0≤o∧o < (n:Int)
theorem wz:∀ (n:Nat) (O:List Int),O.Nodup→(∀ o∈O,0≤o∧o < (n:Int))→O.length≤n
 |0,O,_,h=>by
  cases O with
  |nil=>simp
  |cons a O=>have:=h a (by simp);omega
 |n+1,O,hd,h=>by
  have ih:=wz n (O.erase n) (hd.erase _) (fun o ho=>by
   have h1:=h o (List.mem_of_mem_erase ho)
   have h2:o≠n:=(hd.mem_erase_iff.1 ho).1
   omega)
  rw[List.length_erase] at ih
  split at ih <;> omega
theorem nu.len {n:Nat} {O:List Int} (h:nu n O):O.length≤n:=wz n O h.1 h.2
theorem Az {a:Int}:∀ {l:List Int} {k:Nat},Jr a l k=none→a ∉ l
 | [],_,_=>by simp
 |b::l,k,h=>by
  simp only[Jr] at h
  split at h
  ·cases h
  ·next hne=>simp only[List.mem_cons,not_or];exact⟨hne,Az h⟩
def yd (eb:List Int):List Nat→List Int×List Int→List Int×List Int
 | [],r=>r
 |x::xs,r=>yd eb xs (ri x (eb.getD x 0) r)
theorem XQ {n:Nat} {x:Nat} {to:Int} {r:List Int×List Int} (hto:to < n) (h:nu n r.1):nu n (ri x to r).1∧(ri x to r).2.length=r.2.length∧∃ t,(ri x to r).1=r.1++t:=by
 unfold ri
 by_cases h0:to < 0
 ·rw[if_pos h0];exact⟨h,rfl,[],by simp⟩
 ·rw[if_neg h0]
  cases hi:Jr to r.1 0 with
  |some k=>exact⟨h,by simp,[],by simp⟩
  |none=>
   have hn:=Az hi
   refine⟨⟨?_,?_⟩,by simp,[to],rfl⟩
   ·simp only[List.nodup_append,h.1,true_and]
    refine⟨by simp,?_⟩
    intro a ha b hb
    simp at hb;subst hb
    intro e;subst e;exact hn ha
   ·intro o ho
    rcases List.mem_append.1 ho with h1 | h1
    ·exact h.2 o h1
    ·simp at h1;subst h1;omega
section
variable (call:Wa) (R0 R1:ba) (S:PV) (nl nr:Bool) (fr:Nat) (sets:List Al) (C:List Int) (n:Nat) (L M:ba)
theorem QK (O:List Int) (out:List PV) (no:Bool) (J:List ba) (k:Int) (eb:List Int) (q:Nat) (hq13:q=J.length+1+1+1+1+1+1+1+1+1+1+1+1+1)
 (hO:nu n O) (hn:n≤64) (hrow:eb.length=256) (hto:∀ to∈eb,to < n):
 mb (ga (pa call fc) (fun s=>some (tidy [0,2,3,4,5,6,7,31,32] s))) qa ⟨Bw q k O eb 0,Hm R0 R1 S nl nr fr sets C n L M O out no (J++[.box (Ha eb)])⟩=
  some (.exit 2,⟨(Bw q k (yd eb (List.range 256) (O,eb)).1 eb 256).set 33 (.pv (.bool false)),
   Hm R0 R1 S nl nr fr sets C n L M (yd eb (List.range 256) (O,eb)).1 out no (J++[.box (Ha (yd eb (List.range 256) (O,eb)).2)])⟩)∧
  nu n (yd eb (List.range 256) (O,eb)).1∧(yd eb (List.range 256) (O,eb)).2.length=256∧∃ t,(yd eb (List.range 256) (O,eb)).1=O++t:=by
 generalize hxs:List.range 256=xs
 have key:=Xj (g:=ga (pa call fc) (fun s=>some (tidy [0,2,3,4,5,6,7,31,32] s)))
  (fun x t=>∃ r,nu n r.1∧r.2.length=256∧(∃ t,r.1=O++t)∧t=⟨Bw q k r.1 eb x,Hm R0 R1 S nl nr fr sets C n L M r.1 out no (J++[.box (Ha r.2)])⟩∧yd eb xs (O,eb)=yd eb (xs.drop x) r)
  (fun ex t=>ex= .exit 2∧t=⟨(Bw q k (yd eb xs (O,eb)).1 eb 256).set 33 (.pv (.bool false)),Hm R0 R1 S nl nr fr sets C n L M (yd eb xs (O,eb)).1 out no (J++[.box (Ha (yd eb xs (O,eb)).2)])⟩∧
   nu n (yd eb xs (O,eb)).1∧(yd eb xs (O,eb)).2.length=256∧∃ t,(yd eb xs (O,eb)).1=O++t)
  qa 256 0 ⟨Bw q k O eb (0:Nat),Hm R0 R1 S nl nr fr sets C n L M O out no (J++[.box (Ha eb)])⟩ (by unfold qa;omega) (by omega) ⟨(O,eb),hO,hrow,⟨[],by simp⟩,rfl,rfl⟩ ?_ ?_
 ·obtain⟨ex,t,h,_,rfl,rfl,q1,q2⟩:=key
  exact⟨h,q1,q2⟩
 ·rintro x hx t ⟨⟨O',row⟩,hO',hr',⟨tl,htl⟩,rfl,hl⟩
  have hd:=Mp hx
  rw[hxs] at hd
  obtain⟨to,ht⟩:∃ to,eb[x]? =some to:=⟨eb[x],by simp[hrow,hx]⟩
  have hgd:eb.getD x 0=to:=by simp[List.getD_eq_getElem?_getD,ht]
  have hlt:=hto to (List.mem_of_getElem? ht)
  rw[hd,yd,hgd] at hl
  have Aa:=XQ (x:=x) (r:=(O',row)) hlt hO'
  refine .inl ⟨_,?_,ri x to (O',row),Aa.1,by rw[Aa.2.1];exact hr',?_,rfl,hl⟩
  ·by_cases h0:to < 0
   ·have e:ri x to (O',row)=(O',row):=by simp[ri,h0]
    rw[e]
    exact UN call R0 R1 S nl nr fr sets C n L M O' out no J k eb row x to q hx ht h0
   ·have hlen:=hO'.len
    cases hi:Jr to O' 0 with
    |some j=>
     have e:ri x to (O',row)=(O',row.set x j):=by simp[ri,h0,hi]
     rw[e]
     exact xS call R0 R1 S nl nr fr sets C n L M O' out no J k eb row x to q hx ht hq13 hr' h0 hi
    |none=>
     have e:ri x to (O',row)=(O'++[to],row.set x O'.length):=by simp[ri,h0,hi]
     rw[e]
     exact AS call R0 R1 S nl nr fr sets C n L M O' out no J k eb row x to q hx ht hq13 hr' h0 hi (by simp only at hlen;omega)
  ·obtain⟨t2,h2⟩:=Aa.2.2
   exact⟨tl++t2,by rw[h2,←List.append_assoc,←htl]⟩
 ·rintro t ⟨⟨O',row⟩,hO',hr',htl,rfl,hl⟩
  rw[List.drop_eq_nil_of_le (by rw[← hxs,List.length_range];exact Nat.le_refl _),yd] at hl
  rw[hl]
  refine⟨.exit 2,_,?_,rfl,rfl,rfl,hO',hr',htl⟩
  have e1:decide (((256:Nat):Int) < 256)=false:=by decide
  simp -implicitDefEqProofs only[SP,SA,SQ,sevalprocAttr,-List.reduceReplicate,ga,fc,e1,Bw]
abbrev jA (k:Int) (O:List Int):Tr:=
 ((((((Tr.lf.set 6 (.pv (i64 k))).set 5 (.ptr 11 0)).set 4 (.uq 10 false 1 (O.map i64))).set 3 (.mp 9)).set 2 (.ptr 8 0)).set 0 (.ptr 3 0))
def Qf (C:List Int) (o:Int) (O:List Int):List Int×List Int:=yd (Ta C o.toNat) (List.range 256) (O,Ta C o.toNat)
theorem GL (O:List Int) (out:List PV) (no:Bool) (J:List ba) (k:Nat) (o:Int)
 (hC:C.length=n * 256) (cC:∀ c∈C,c < n) (hfr:fr≤n * 256) (hO:nu n O) (hn:n≤64) (hk:O[k]? =some o) (hout:out.length=k):
 ga (pa call Uc) (fun s=>some (tidy [0,2,3,4,5,6] s)) ⟨jA k O,Hm R0 R1 S nl nr fr sets C n L M O out no J⟩=
  some (.norm,⟨jA (k+1:Nat) (Qf C o O).1,Hm R0 R1 S nl nr fr sets C n L M (Qf C o O).1 (out++[Ud (Ef (Qf C o O).2)]) false (J++[.box (Ha (Qf C o O).2)])⟩)∧
  nu n (Qf C o O).1∧∃ t,(Qf C o O).1=O++t:=by
 have hom:=hO.2 o (List.mem_of_getElem? hk)
 have hkl:=(List.getElem?_eq_some_iff.1 hk).1
 have hOl:=hO.len
 have hoi:o.toNat < n:=by omega
 have hr0:=qh hC hoi
 obtain⟨hin,g1,g2,g3⟩:=QK call R0 R1 S nl nr fr sets C n L M O out no J k (Ta C o.toNat) _ rfl hO hn hr0 (fun to h=>cC to (List.mem_of_mem_drop (List.mem_of_mem_take h)))
 refine⟨?_,g1,g3⟩
 unfold Qf
 generalize yd (Ta C o.toNat) (List.range 256) (O,Ta C o.toNat)=r at *
 obtain⟨O',row'⟩:=r
 simp only at g1 g2 g3 hin
 have hed:=vN row' g2
 have hlen:(O.map i64).length=O.length:=by simp
 have e1:decide ((k:Int) < (O.length:Int))=true:=Fa (by omega)
 have t1:((k:Int)).toNat=k:=by simp
 have hq1:Ea (k:Int) O.length:=by unfold Ea;omega
 have hg:(O.map i64)[k]? =some (i64 o):=by rw[List.getElem?_map,hk];rfl
 have hq3:Ea o n:=by unfold Ea;omega
 have w2:vh 256 n fr (Ha C).length:=by rw[fb];unfold vh;omega
 have w4:((Ha C).length=n * 256)=True:=by rw[fb];exact eq_true hC
 have w6:(o.toNat * 256+256≤(Ha C).length)=True:=by rw[fb];exact eq_true (by omega)
 have p1:=zC C o.toNat
 have t2:=Za (i:=k) (n:=64) (by omega) (by unfold maxLen;omega)
 have h9:((Ta C o.toNat).map i64).map AV.pv=Ha (Ta C o.toNat):=(Ur _).symm
 have hz:=qV
 have p5:(256≤(Ha (List.replicate 256 0)).length)=True:=by rw[fb,List.length_replicate];exact eq_true (Nat.le_refl _)
 have p6:fa (Ha (List.replicate 256 0)) 0 (Ha (Ta C o.toNat))=Ha (Ta C o.toNat):=by
  have:=Tw (Ha (Ta C o.toNat)) (Ha (List.replicate 256 0)) [] (by rw[fb,fb,hr0,List.length_replicate])
  rw[List.nil_append,List.nil_append] at this;exact this
 generalize hzs:List.replicate 256 (0:Int)=zs at *
 generalize Ta C o.toNat=eb at *
 have r0:((Ha eb).length=256)=True:=by rw[fb,hr0];exact eq_self _
 have r1:(256≤(Ha eb).length)=True:=by rw[fb,hr0];exact eq_true (Nat.le_refl _)
 have r2:List.take 256 (Ha eb)=Ha eb:=List.take_of_length_le (by rw[fb,hr0];exact Nat.le_refl _)
 have r3:=Ar eb
 have r5:=NB eb
 have s1:(256≤(Ha row').length)=True:=by rw[fb,g2];exact eq_true (Nat.le_refl _)
 have s2:List.take 256 (Ha row')=Ha row':=List.take_of_length_le (by rw[fb,g2];exact Nat.le_refl _)
 have s3:=Ar row'
 have q1:qb (out.length+1) 24:=by unfold qb;omega
 have hlen2:(out++[Ud (Ef row')]).length=out.length+1:=by simp
 unfold Hm
 rw[hlen2]
 have hcs:(∃ l,Ud (Ef row')= .lit 3 l)∨Ud (Ef row')= .ma:=by unfold Ud;split;exact .inr rfl;exact .inl ⟨_,rfl⟩
 generalize Ud (Ef row')=ed at *
 simp only[Bw,Hm,Dh,tidy,Bc] at hin
 simp -implicitDefEqProofs only[SP,SA,SQ,sevalprocAttr,-List.reduceReplicate,ga,Uc,hlen,e1,eq_true hq1,eq_true hq3,t1,hg,eq_true w2,w4,w6,p1,h9,hz,p5,p6,r0,r1,r2,r3,r5,En,yn,wa,zo,tidy,Bc,jA,Dh]
 rw[hin]
 rcases hcs with⟨l,rfl⟩ | rfl <;>
 simp -implicitDefEqProofs only[SP,SA,SQ,sevalprocAttr,-List.reduceReplicate,t2,s1,s2,s3,hed,fg,zc,eq_true q1,En,yn,wa,tidy,Bc,jA,Dh,Nh,AV.CB,AV.Kn]
def Fi (C:List Int):Nat→List Int×List (List Xe)→List Int×List (List Xe)
 |0,r=>r
 |f+1,r=>match r.1[r.2.length]? with
  |none=>r
  |some o=>Fi C f ((Qf C o r.1).1,r.2++[Ef (Qf C o r.1).2])
theorem dp {C:List Int} {f:Nat} {r:List Int×List (List Xe)} (h:r.1[r.2.length]? =none):Fi C f r=r:=by
 cases f with
 |zero=>rfl
 |succ f=>rw[Fi,h]
theorem Fq {C:List Int} {f:Nat} {r:List Int×List (List Xe)} {o:Int} (h:r.1[r.2.length]? =some o):Fi C (f+1) r=Fi C f ((Qf C o r.1).1,r.2++[Ef (Qf C o r.1).2]):=by
 rw[Fi,h]
def ym (C:List Int):List (List Xe):=(Fi C 64 ([0],[])).2
def Kk (l:List (List Xe)):PV:= .lit 1 (l.map Ud)
theorem PE (O:List Int) (out:List PV) (no:Bool) (J:List ba) (k:Nat) (hk:k=O.length):
 ga (pa call Uc) (fun s=>some (tidy [0,2,3,4,5,6] s)) ⟨jA k O,Hm R0 R1 S nl nr fr sets C n L M O out no J⟩=
  some (.exit 0,⟨((((jA k O).set 15 (.pv (i64 k))).set 16 (.uq 10 false 1 (O.map i64))).set 17 (.pv (i64 O.length))).set 18 (.pv (.bool false)),Hm R0 R1 S nl nr fr sets C n L M O out no J⟩):=by
 have hlen:(O.map i64).length=O.length:=by simp
 have e1:decide ((k:Int) < (O.length:Int))=false:=Ja (by omega)
 simp -implicitDefEqProofs only[SP,SA,SQ,sevalprocAttr,-List.reduceReplicate,ga,Uc,hlen,e1,jA,Hm,Dh]
theorem iO (hC:C.length=n * 256) (cC:∀ c∈C,c < n) (hfr:fr≤n * 256) (hn:n≤64) (h0:0 < n):
 ∃ O J k,mb (ga (pa call Uc) (fun s=>some (tidy [0,2,3,4,5,6] s))) qa ⟨jA 0 [0],Hm R0 R1 S nl nr fr sets C n L M [0] [] true []⟩=
  some (.exit 0,⟨((((jA k O).set 15 (.pv (i64 k))).set 16 (.uq 10 false 1 (O.map i64))).set 17 (.pv (i64 O.length))).set 18 (.pv (.bool false)),Hm R0 R1 S nl nr fr sets C n L M O ((ym C).map Ud) false J⟩):=by
 have key:=Xj (g:=ga (pa call Uc) (fun s=>some (tidy [0,2,3,4,5,6] s)))
  (fun k t=>∃ (O:List Int) (out:List (List Xe)) (J:List ba),nu n O∧out.length=k∧k≤O.length∧0 < O.length∧t=⟨jA k O,Hm R0 R1 S nl nr fr sets C n L M O (out.map Ud) (k==0) J⟩∧Fi C 64 ([0],[])=Fi C (64 - k) (O,out))
  (fun ex t=>∃ (O:List Int) (J:List ba) (k:Nat),ex= .exit 0∧t=⟨((((jA k O).set 15 (.pv (i64 k))).set 16 (.uq 10 false 1 (O.map i64))).set 17 (.pv (i64 O.length))).set 18 (.pv (.bool false)),Hm R0 R1 S nl nr fr sets C n L M O ((ym C).map Ud) false J⟩)
  qa 64 0 ⟨jA (0:Nat) [0],Hm R0 R1 S nl nr fr sets C n L M [0] [] true []⟩ (by unfold qa;omega) (by omega)
   ⟨[0],[],[],⟨by simp,by intro o ho;simp at ho;omega⟩,rfl,by simp,by simp,rfl,rfl⟩ ?_ ?_
 ·obtain⟨ex,t,h,_,O,J,k,rfl,rfl⟩:=key
  exact⟨O,J,k,h⟩
 ·rintro k hk t ⟨O,out,J,hO,hout,hkO,hO0,rfl,hl⟩
  by_cases hlt:k < O.length
  ·obtain⟨o,ho⟩:∃ o,O[k]? =some o:=⟨O[k],by simp[hlt]⟩
   obtain⟨g1,g2,t,g3⟩:=GL call R0 R1 S nl nr fr sets C n L M O (out.map Ud) (k==0) J k o hC cC hfr hO hn ho (by simpa using hout)
   rw[show 64 - k=(64 - (k+1))+1 by omega,Fq (r:=(O,out)) (o:=o) (by show O[out.length]? =_;rw[hout];exact ho)] at hl
   refine .inl ⟨_,g1,_,out++[Ef (Qf C o O).2],J++[.box (Ha (Qf C o O).2)],g2,by simp[hout],?_,?_,?_,hl⟩
   ·rw[g3];simp;omega
   ·rw[g3];simp;omega
   ·have:(k+1==0)=false:=rfl
    rw[this];simp
  ·have hke:k=O.length:=by omega
   rw[dp (r:=(O,out)) (by show O[out.length]? =none;rw[hout,hke];simp)] at hl
   refine .inr ⟨.exit 0,_,PE call R0 R1 S nl nr fr sets C n L M O _ _ J k hke,rfl,O,J,k,rfl,?_⟩
   have:(k==0)=false:=by simp;omega
   rw[this,ym,hl]
 ·rintro t ⟨O,out,J,hO,hout,hkO,hO0,rfl,hl⟩
  have hke:64=O.length:=by have:=hO.len;omega
  rw[dp (r:=(O,out)) (by show O[out.length]? =none;rw[hout,hke];simp)] at hl
  refine⟨.exit 0,_,PE call R0 R1 S nl nr fr sets C n L M O _ _ J 64 hke,rfl,O,J,64,rfl,?_⟩
  have:((64:Nat)==0)=false:=rfl
  rw[this,ym,hl]
theorem mQ (hC:C.length=n * 256) (cC:∀ c∈C,c < n) (hfr:fr≤n * 256) (hn:n≤64) (h0:0 < n):
 ∃ O J,mg call Ci [.ptr 3 0] (Dh R0 R1 S nl nr fr sets C n [L,M])=
  some (.agg [.uq 12 false 1 ((ym C).map Ud)],Dh R0 R1 S nl nr fr sets C n (L::M:: .box [.uq 12 false 1 ((ym C).map Ud)]:: .map (XH O 0):: .tok 1 O.length false:: .box [.uq 12 false 1 ((ym C).map Ud)]:: .tok 1 ((ym C).map Ud).length false::J)):=by
 obtain⟨O,J,k,hl⟩:=iO call R0 R1 S nl nr fr sets C n L M hC cC hfr hn h0
 refine⟨O,J,?_⟩
 generalize (ym C).map Ud=out at *
 have hl':mb (ga (pa call Uc) (fun s=>some ⟨((((((Tr.lf.set 6 (s.env.get 6)).set 5 (s.env.get 5)).set 4 (s.env.get 4)).set 3 (s.env.get 3)).set 2 (s.env.get 2)).set 0 (s.env.get 0)),s.H⟩)) qa
  ⟨((((((Tr.lf.set 6 (.pv (.int .i64 0))).set 5 (.ptr 11 0)).set 4 (.uq 10 false 1 [.int .i64 0])).set 3 (.mp 9)).set 2 (.ptr 8 0)).set 0 (.ptr 3 0)),[R0,R1,.map (dB sets 0),.box [.pv S,.mp 2,.uq 4 nl 2 (sets.map yh),.own 5 n],.tok 2 sets.length nl,.seq 256 true (Ha C) fr nr,L,M,.box [.pv .ma],.map [(.int .i64 0,.int .i64 0)],.tok 1 1 false,.box [.uq 12 true 1 []],.tok 1 0 true]⟩=_:=hl
 simp only[jA,Hm,Dh] at hl'
 simp -implicitDefEqProofs only[SP,SA,SQ,sevalprocAttr,-List.reduceReplicate,Ci,Ve,zo,tidy,Bc,Cl,Rj,gp,Option.isSome_some,Nh,AV.CB,AV.Kn,Dh]
 rw[hl']
 simp -implicitDefEqProofs only[SP,SA,SQ,sevalprocAttr,-List.reduceReplicate,Dh]
end
end Go.AM.B1
namespace Go.AM.B1
open Go.AM
def Sp (n:Nat):Int:=IntKind.u32.wrap (IntKind.u32.wrap (1 * 2 ^ min n IntKind.u32.bits) - 1)
theorem pC (n:Nat):IntKind.u32.wrap (IntKind.u32.wrap (1 * 2 ^ min n IntKind.u32.bits) - 1)=Sp n:=rfl
theorem yC {n:Nat} (h:n≤32):Sp n=((2 ^ n - 1:Nat):Int):=by
 have:∀ n:Fin 33,Sp n.1=((2 ^ n.1 - 1:Nat):Int):=by decide
 exact this ⟨n,by omega⟩
theorem yM {a:Al}:∀ {l:List Al} {k i:Nat},Wk a l k=some i→i < k+l.length
 |b::l,k,i,h=>by
  simp only[Wk] at h
  split at h
  ·injection h with h;simp;omega
  ·have:=yM h;simp;omega
theorem ES {ss:List ic} {a:Al} {x:Int} {sets:List Al} {r:List Al×Int} (h:sg ss a x sets=some r):r.2 < r.1.length:=by
 unfold sg at h
 split at h
 ·injection h with h;subst h;simp;omega
 ·split at h
  ·injection h with h;subst h;simp;omega
  ·split at h
   ·next k hk=>injection h with h;subst h;have:=yM hk;simp at this;simp;omega
   ·split at h
    ·injection h with h;subst h;simp;omega
    ·cases h
theorem RL {ss:List ic} {a:Al}:∀ (xs:List Nat) (r r':List Al×List Int),r.1.length≤64→(∀ v∈r.2,v < r.1.length)→Tj ss a xs r=some r'→∀ v∈r'.2,v < r'.1.length
 | [],r,r',_,h,e=>by injection e with e;subst e;exact h
 |x::xs,r,r',hl,h,e=>by
  cases hst:sg ss a x r.1 with
  |none=>rw[As hst] at e;cases e
  |some p=>
   rw[Hs hst] at e
   have hg:=LA hst hl
   refine RL xs (p.1,r.2.set x p.2) r' hg.1 ?_ e
   intro v hv
   obtain⟨t,ht⟩:=hg.2
   rcases List.mem_or_eq_of_mem_set hv with h1 | h1
   ·have h2:=h v h1
    have:r.1.length≤p.1.length:=by rw[ht];simp
    simp only;omega
   ·rw[h1];exact ES hst
theorem aI {ss:List ic} (hw:ss.length≤32):∀ (k:Nat) (r r':List Al×List (List Int)),Il ss r.1→(∀ l∈r.2,∀ v∈l,v < r.1.length)→og ss k r=some r'→(∀ l∈r'.2,∀ v∈l,v < r'.1.length)∧∃ t,r'.1=r.1++t
 |0,r,r',_,h,e=>by injection e with e;subst e;exact⟨h,[],by simp⟩
 |k+1,r,r',Aa,h,e=>by
  cases ha:r.1[r.2.length]? with
  |none=>rw[Xr ha] at e;injection e with e;subst e;exact⟨h,[],by simp⟩
  |some a=>
   cases hr:Tj ss a (List.range 256) (r.1,eb) with
   |none=>rw[vt ha hr] at e;cases e
   |some p=>
    rw[iu ha hr] at e
    obtain⟨g1,⟨t,g2⟩,g3⟩:=bu hw (List.range 256) (r.1,eb) p Aa ha hr
    have hpos:0 < r.1.length:=by have:=(List.getElem?_eq_some_iff.1 ha).1;omega
    have g4:=RL (List.range 256) (r.1,eb) p Aa.1 (by
     intro v hv
     have:v=0:=List.eq_of_mem_replicate hv
     simp only;omega) hr
    obtain⟨k1,t2,k2⟩:=aI hw k (p.1,r.2++[p.2]) r' g1 (by
     intro l hl v hv
     rcases List.mem_append.1 hl with h1 | h1
     ·have:=h l h1 v hv
      simp only[g2,List.length_append] at this ⊢;omega
     ·simp at h1;subst h1;exact g4 v hv) e
    exact⟨k1,t++t2,by rw[k2,g2,List.append_assoc]⟩
theorem oA:∀ (rs:List (List Int)),Ha rs.flatten=rs.flatMap Ha
 | []=>rfl
 |r::rs=>by
  have:=oA rs
  rw[List.flatten_cons,PC,List.flatMap_cons,this]
def tg (ss:List ic):List Al:=[(0,Sp ss.length)]
theorem Rx {ss:List ic} (hw:ss.length≤32) (hne:∀ s∈ss,0 < s.parts.length):Il ss (tg ss):=by
 refine⟨by simp[tg],?_⟩
 intro k a ha
 match k,ha with
 |0,ha=>
  simp only[tg,List.getElem?_cons_zero,Option.some.injEq] at ha
  subst ha
  refine⟨by simp,2 ^ ss.length - 1,yC hw,?_,?_⟩
  ·have:2 ^ ss.length≤2 ^ 32:=Nat.pow_le_pow_right (by decide) hw
   omega
  ·intro i s hs _
   exact hne s (List.mem_of_getElem? hs)
 |k+1,ha=>simp[tg] at ha
section
variable (R0 R1:ba) (S:PV) (ss:List ic)
 (h0:oa 7 R0=some R0) (h1:oa 7 R1=some R1) (g0:oa 6 R0=some R0) (g1:oa 6 R1=some R1)
 (hS:Ai 2 S (ss.map Ae)) (hw:ss.length≤32) (hsz:∀ s∈ss,∀ l∈s.parts,l.length * 16≤140737488355328) (hne:∀ s∈ss,0 < s.parts.length)
include h0 h1 g0 g1 hS hw hsz hne
theorem QI:
 (∀ r,og ss 64 (tg ss,[])=some r→∃ nl',mg (Ba Da 7) Yf [.ptr 3 0] (ij R0 R1 S true [] (yg []) 0 [])=some (.pv (.bool true),ij R0 R1 S nl' r.1 (yg r.2) r.2.length [])∧Il ss r.1∧r.2.length=r.1.length∧∀ r'∈r.2,r'.length=256)∧
 (og ss 64 (tg ss,[])=none→∃ H,mg (Ba Da 7) Yf [.ptr 3 0] (ij R0 R1 S true [] (yg []) 0 [])=some (.pv (.bool false),H)∧H[0]? =some R0):=by
 have hloop:=nP R0 R1 S false (tg ss) ss h0 h1 g0 g1 hS hw hsz (Rx hw hne) (by simp[tg])
 have ls:=hS.len
 simp only[List.length_map] at ls
 have hmet:mg (Ba Da 6) Qd [.ptr 3 0,.pv (.agg [.int .i64 0,.int .u32 (Sp ss.length)])] [R0,R1,.map (dB [] 0),.box [.pv S,.mp 2,.uq 4 true 2 [],.own 5 0],.tok 2 0 true,.seq 256 true [] 0 true]=some (.pv (.yc [.int .i64 0,.bool true]),ij R0 R1 S false [(0,Sp ss.length)] (yg []) 0 []):=
  dM (Ba Da 6) R0 R1 S true [] (yg []) 0 [] (0,Sp ss.length) rfl (by simp)
 have n0:¬((ss.length:Int) < 0):=by omega
 have t1:((ss.length:Int)).toNat=ss.length:=by simp
 have e1:((ss.length:Int) < 0)=False:=eq_false n0
 have q5:=zv 6 6 []
 simp only[List.flatMap_nil] at q5
 simp only[ij,yg,List.flatMap_nil,List.isEmpty_nil] at hmet
 unfold ij yg
 constructor
 ·intro r hr
  obtain⟨E,nl',hl,k1,k2,k3⟩:=hloop.1 r hr
  refine⟨nl',?_,k1,k2,k3⟩
  simp -implicitDefEqProofs only[SP,SA,SQ,sevalprocAttr,-List.reduceReplicate,Yf,ls,e1,t1,pC,Da,List.flatMap_nil,hmet,Gb,na,za,Xl,bm,jm,tr,Ga,AV.cut,zc,h0,h1,g0,g1,q5,ij]
  have hl':mb (ga (pa (Ba Da 7) wb) (na 6 [0,3])) qa ⟨(Tr.lf.set 3 (.pv (.int .i64 0))).set 0 (.ptr 3 0),[R0,R1,.map (dB [(0,Sp ss.length)] 0),.box [.pv S,.mp 2,.uq 4 false 2 [yh (0,Sp ss.length)],.own 5 0],.tok 2 1 false,.seq 256 true [] 0 true]⟩=_:=hl
  rw[hl']
  simp -implicitDefEqProofs only[SP,SA,SQ,sevalprocAttr,-List.reduceReplicate,ij,yg]
 ·intro hr
  obtain⟨t,hl,k2,k3⟩:=Iq (hloop.2 hr)
  refine⟨t.H,?_,k3⟩
  simp -implicitDefEqProofs only[SP,SA,SQ,sevalprocAttr,-List.reduceReplicate,Yf,ls,e1,t1,pC,Da,List.flatMap_nil,hmet,Gb,na,za,Xl,bm,jm,tr,Ga,AV.cut,zc,h0,h1,g0,g1,q5,ij]
  have hl':mb (ga (pa (Ba Da 7) wb) (na 6 [0,3])) qa ⟨(Tr.lf.set 3 (.pv (.int .i64 0))).set 0 (.ptr 3 0),[R0,R1,.map (dB [(0,Sp ss.length)] 0),.box [.pv S,.mp 2,.uq 4 false 2 [yh (0,Sp ss.length)],.own 5 0],.tok 2 1 false,.seq 256 true [] 0 true]⟩=_:=hl
  rw[hl']
  simp -implicitDefEqProofs only[SP,SA,SQ,sevalprocAttr,-List.reduceReplicate,k2]
end
def Kg (ss:List ic):Option (List (List Xe)):=
 (og ss 64 (tg ss,[])).map fun r=>ym (Ee r.2.length r.2.flatten).C
section
variable (S0 S:PV) (ss:List ic) (hS0:S0= .ma∨∃ l,S0= .lit 2 l) {y:Bool} {a b e:Int}
include hS0
theorem fP (he:e≠0) (hp:ze [.agg [S0]]=some (.yc [.agg [.bool y,i64 a,i64 b],i64 e])):
 Cc [.agg [S0]]=some (.yc [.agg [.ma],i64 e]):=by
 have e1:=Oh he
 rcases hS0 with rfl | ⟨l,rfl⟩ <;>
 simp -implicitDefEqProofs only[Cc,SP,SA,SQ,sevalprocAttr,-List.reduceReplicate,Ak,hp,e1,bne,fg,zc]
theorem OP (hp:ze [.agg [S0]]=some (.yc [.agg [.bool false,i64 a,i64 b],i64 0])):
 Cc [.agg [S0]]=some (.yc [.agg [.ma],i64 110]):=by
 rcases hS0 with rfl | ⟨l,rfl⟩ <;>
 simp -implicitDefEqProofs only[Cc,SP,SA,SQ,sevalprocAttr,-List.reduceReplicate,Ak,hp,bne,fg,zc]
variable (hp:ze [.agg [S0]]=some (.yc [.agg [.bool true,i64 a,i64 b],i64 0])) (hc:xi [.agg [S0]]=some (.agg [S]))
 (hS:Ai 2 S (ss.map Ae)) (hw:ss.length≤32) (hsz:∀ s∈ss,∀ l∈s.parts,l.length * 16≤140737488355328) (hne:∀ s∈ss,0 < s.parts.length)
include hp hc hS hw hsz hne
theorem UJ (h:Kg ss=none):Cc [.agg [S0]]=some (.yc [.agg [.ma],i64 130]):=by
 have hn:og ss 64 (tg ss,[])=none:=by unfold Kg at h;simpa using h
 obtain⟨H,hwk,hH⟩:=(QI (.box [.pv .ma]) (.box [.pv (.bool true),.pv (i64 a),.pv (i64 b)]) S ss rfl rfl rfl rfl hS hw hsz hne).2 hn
 have hb0:ij (.box [.pv .ma]) (.box [.pv (.bool true),.pv (i64 a),.pv (i64 b)]) S true [] (yg []) 0 []=[.box [.pv .ma],.box [.pv (.bool true),.pv (i64 a),.pv (i64 b)],.map [],.box [.pv S,.mp 2,.uq 4 true 2 [],.own 5 0],.tok 2 0 true,.seq 256 true [] 0 true]:=rfl
 rw[hb0] at hwk
 have hS2:S= .ma∨∃ l,S= .lit 2 l:=by rcases hS with⟨h,_⟩ | h;exact .inl h;exact .inr ⟨_,h⟩
 have hH2:∀ o,(H.set 0 o)[0]? =some o:=by
  intro o
  cases H with
  |nil=>cases hH
  |cons x H=>rfl
 rcases hS0 with rfl | ⟨l,rfl⟩ <;> rcases hS2 with rfl | ⟨l2,rfl⟩ <;>
 simp -implicitDefEqProofs only[Cc,SP,SA,SQ,sevalprocAttr,-List.reduceReplicate,Ak,hp,hc,hwk,hH,hH2,Da,Ve,Nh,AV.CB,AV.Kn,bne,fg,zc]
theorem PQ {l:List (List Xe)} (h:Kg ss=some l):Cc [.agg [S0]]=some (.yc [.agg [Kk l],i64 0]):=by
 obtain⟨r,hn,hl⟩:∃ r,og ss 64 (tg ss,[])=some r∧ym (Ee r.2.length r.2.flatten).C=l:=by
  unfold Kg at h;simpa using h
 obtain⟨nl,hwk,k1,k2,k3⟩:=(QI (.box [.pv .ma]) (.box [.pv (.bool true),.pv (i64 a),.pv (i64 b)]) S ss rfl rfl rfl rfl hS hw hsz hne).1 r hn
 have hb0:ij (.box [.pv .ma]) (.box [.pv (.bool true),.pv (i64 a),.pv (i64 b)]) S true [] (yg []) 0 []=[.box [.pv .ma],.box [.pv (.bool true),.pv (i64 a),.pv (i64 b)],.map [],.box [.pv S,.mp 2,.uq 4 true 2 [],.own 5 0],.tok 2 0 true,.seq 256 true [] 0 true]:=rfl
 have hb1:ij (.box [.pv .ma]) (.box [.pv (.bool true),.pv (i64 a),.pv (i64 b)]) S nl r.1 (yg r.2) r.2.length []=Dh (.box [.pv .ma]) (.box [.pv (.bool true),.pv (i64 a),.pv (i64 b)]) S nl r.2.isEmpty 0 r.1 r.2.flatten r.2.length []:=by
  unfold ij Dh yg;rw[oA]
 rw[hb0,hb1] at hwk
 have hlt:=aI hw 64 (tg ss,[]) r (Rx hw hne) (by simp) hn
 have hpos:0 < r.1.length:=by obtain⟨t,ht⟩:=hlt.2;rw[ht];simp[tg]
 have hC:r.2.flatten.length=r.2.length * 256:=by
  have:=RC k3
  rw[← oA,fb] at this;exact this
 have cC:∀ c∈r.2.flatten,c < (r.2.length:Int):=by
  intro c hc
  obtain⟨l,h1,h2⟩:=List.mem_flatten.1 hc
  rw[k2];exact hlt.1 l h1 c h2
 have h64:r.2.length≤64:=by rw[k2];exact k1.1
 have h0:0 < r.2.length:=by omega
 obtain⟨fr,fk,v,hf,hls⟩:=RO (Ba Da 7) (.box [.pv .ma]) (.box [.pv (.bool true),.pv (i64 a),.pv (i64 b)]) S nl r.2.isEmpty r.1 r.2.flatten r.2.length h64 h0 k2.symm hC cC
 have Aa:BV r.2.length (Ee r.2.length r.2.flatten):=YC _ _ (Nat.le_refl _) ⟨hC,by simp,cC,by intro c hc;rw[List.eq_of_mem_replicate hc];omega,by simp⟩
 obtain⟨O,J,htd⟩:=mQ (Ba Da 7) (.box [.pv .ma]) (.box [.pv (.bool true),.pv (i64 a),.pv (i64 b)]) S nl r.2.isEmpty fr r.1 (Ee r.2.length r.2.flatten).C r.2.length (.seq 1 false (Ha (Ee r.2.length r.2.flatten).tc) fk false) (.map (xr (Ee r.2.length r.2.flatten).M)) Aa.hC Aa.cC (by omega) h64 h0
 rw[hl] at htd
 unfold Kk
 generalize l.map Ud=out at *
 generalize Ee r.2.length r.2.flatten=g at *
 simp only[Dh] at hwk hls htd
 have hS2:S= .ma∨∃ l,S= .lit 2 l:=by rcases hS with⟨h,_⟩ | h;exact .inl h;exact .inr ⟨_,h⟩
 rcases hS0 with rfl | ⟨l,rfl⟩ <;> rcases hS2 with rfl | ⟨l2,rfl⟩ <;>
 simp -implicitDefEqProofs only[Cc,SP,SA,SQ,sevalprocAttr,-List.reduceReplicate,Ak,hp,hc,hwk,hls,htd,Da,Ve,Nh,AV.CB,AV.Kn,bne,fg,zc]
end
end Go.AM.B1
namespace Go.AM.B1
open Go.AM Go.AM.So
structure Bn (v:PV) (l:List (Int×Int)):Prop where
 is:Ai 2 v (Md l)
 sz:l.length * 16≤140737488355328
structure Ze (P:PV) (ls:List (List (Int×Int))) (ps:List PV):Prop where
 is:Ai 1 P ps
 len:ps.length=ls.length
 all:∀ (k:Nat) v l,ps[k]? =some v→ls[k]? =some l→Bn v l
 sz:ls.length≤maxLen
structure qf (e:PV) (s:ic) (P:PV) (ps:List PV):Prop where
 eq:e= .agg [P,i64 s.first]
 parts:Ze P s.parts ps
structure pb (S:PV) (ss:List ic) (es:List PV):Prop where
 is:Ai 2 S es
 len:es.length=ss.length
 all:∀ (k:Nat) e s,es[k]? =some e→ss[k]? =some s→∃ P ps,qf e s P ps
 sz:ss.length≤maxLen
theorem Ze.get {P:PV} {ls:List (List (Int×Int))} {ps:List PV} (h:Ze P ls ps) {i:Nat} (hi:i < ls.length):∃ v,ps[i]? =some v∧P= .lit 1 ps∧Bn v ls[i]:=by
 have h1:i < ps.length:=by rw[h.len];exact hi
 refine⟨ps[i],List.getElem?_eq_getElem h1,h.is.lit (i:=i) h1,h.all i _ _ (List.getElem?_eq_getElem h1) (List.getElem?_eq_getElem hi)⟩
theorem pb.get {S:PV} {ss:List ic} {es:List PV} (h:pb S ss es) {i:Nat} (hi:i < ss.length):∃ e P ps,es[i]? =some e∧S= .lit 2 es∧qf e ss[i] P ps:=by
 have h1:i < es.length:=by rw[h.len];exact hi
 obtain⟨P,ps,hp⟩:=h.all i _ _ (List.getElem?_eq_getElem h1) (List.getElem?_eq_getElem hi)
 exact⟨es[i],P,ps,List.getElem?_eq_getElem h1,h.is.lit (i:=i) h1,hp⟩
theorem Ze.Qb {P:PV} {ls:List (List (Int×Int))} {ps:List PV} (h:Ze P ls ps) (H:List ba):Qb H 0 (.pv P)=some ls.length:=by
 rw[h.is.len,h.len]
theorem pb.Qb {S:PV} {ss:List ic} {es:List PV} (h:pb S ss es) (H:List ba):Qb H 0 (.pv S)=some ss.length:=by
 rw[h.is.len,h.len]
def Pd (l:List (Int×Int)):Prop:=l≠[]∧Ma 255 (-2) l=true
instance (l:List (Int×Int)):Decidable (Pd l):=by unfold Pd;infer_instance
def Vg:Int→List (List (Int×Int))→Int
 |n,[]=>n
 |n,l::r=>Vg (if 1073741825 < n * Sc 0 l then 1073741825 else n * Sc 0 l) r
def Bh (s:ic):Int:=s.first+Vg 1 s.parts - 1
theorem mi {l:List (Int×Int)} (h:Pd l):1≤Sc 0 l∧Sc 0 l≤256:=by
 have:=(sq h.2).2.1 h.1;omega
theorem cw {n s:Int} (h1:1≤n) (h2:n≤1073741825) (h3:1≤s) (h4:s≤256):1≤n * s∧n * s≤274877907200:=by
 constructor
 ·have:=Int.mul_le_mul h1 h3 (by omega) (by omega);omega
 ·have:=Int.mul_le_mul h2 h4 (by omega) (by omega);omega
theorem vl:∀ (ls:List (List (Int×Int))) (n:Int),(∀ l∈ls,Pd l)→1≤n→n≤1073741825→1≤Vg n ls∧Vg n ls≤1073741825
 | [],n,_,h1,h2=>⟨h1,h2⟩
 |l::r,n,h,h1,h2=>by
  have hs:=mi (h l (by simp))
  have hm:=cw h1 h2 hs.1 hs.2
  rw[Vg]
  refine vl r _ (fun x hx=>h x (by simp[hx])) ?_ ?_ <;> split <;> omega
abbrev OI (row:List PV) (P:PV) (len i n:Int):Tr:=((((Tr.lf.set 9 (.pv (i64 i))).set 8 (.pv (i64 len))).set 7 (.pv P)).set 3 (.pv (i64 n))).set 1 (.pv (.rp row 0))
theorem JI {e:PV} {s:ic} {P:PV} {ps:List PV} (h:qf e s P ps) (Aa:∀ l∈s.parts,Pd l) (hf:0≤s.first∧s.first≤1073741823):Km [e]=some (i64 (Bh s)):=by
 obtain⟨rfl,hP⟩:=h
 have hb:=vl s.parts 1 Aa (by omega) (by omega)
 have hsz:=hP.sz
 have hloop:Sd (fun r=>∃ E H,r=(.exit 0,⟨E,H⟩)∧E.get 3= .pv (i64 (Vg 1 s.parts))∧E.get 1= .pv (.rp [P,i64 s.first] 0))
  (mb (ga (pa (Ba (fun _=>none) 8) oh) (na 0 [1,3,7,8,9])) qa ⟨OI [P,i64 s.first] P s.parts.length 0 1,[]⟩):=by
  refine ya (Kb (g:=ga (pa (Ba (fun _=>none) 8) oh) (na 0 [1,3,7,8,9]))
   (fun i t=>∃ n,t=⟨OI [P,i64 s.first] P s.parts.length i n,[]⟩∧1≤n∧n≤1073741825∧Vg 1 s.parts=Vg n (s.parts.drop i))
   s.parts.length (by unfold qa;unfold maxLen at hsz;omega) _ ⟨1,rfl,by omega,by omega,rfl⟩ ?_ ?_) (fun r h=>h.2)
  ·rintro i t hi ⟨n,rfl,h1,h2,hs⟩
   obtain⟨v,hv,hPl,hpt⟩:=hP.get hi
   have hd:s.parts.drop i=s.parts[i]::s.parts.drop (i+1):=List.drop_eq_getElem_cons hi
   have hpo:=Aa s.parts[i] (List.getElem_mem hi)
   have hss:=Su v s.parts[i] hpt.is hpt.sz hpo.2
   have hsb:=mi hpo
   rw[hd,Vg] at hs
   generalize s.parts[i]=l at *
   have hm:=cw h1 h2 hsb.1 hsb.2
   have e1:decide ((i:Int) < (s.parts.length:Int))=true:=Fa (by omega)
   have t2:=Za hi hsz
   have t3:IntKind.i64.wrap (n * Sc 0 l)=n * Sc 0 l:=Ca (by omega)
   have hq:i < ps.length:=by rw[hP.len];exact hi
   have hcl:v.cells=[v]:=by rcases hpt.is with⟨h,_⟩ | h <;> rw[h] <;> rfl
   have a1:wa [] 1 (.pv P) (i:Int)=some (.pv (.rp [v] 0)):=by
    rw[hPl]
    simp only[wa]
    rw[if_pos (by unfold Ea;simp;omega),Int.toNat_natCast,hv]
    simp[hcl]
   have a2:xa [] false 1 (.pv (.rp [v] 0))=some (.pv v):=rfl
   generalize hQ:LN _ _ i=Q
   simp -implicitDefEqProofs only[SX,sevalprocAttr,oh,e1,t2,t3,a1,a2,hss,aq,me,na,za,AV.cut,ta,OI]
   subst hQ
   exact⟨_,rfl,by split <;> omega,by split <;> omega,hs⟩
  ·rintro t ⟨n,rfl,h1,h2,hs⟩
   rw[List.drop_length,Vg] at hs
   have e1:decide ((s.parts.length:Int) < (s.parts.length:Int))=false:=Ja (by omega)
   generalize hQ:(fun r:Ex×St=>r.1.stop=true∧_)=Q
   simp -implicitDefEqProofs only[SX,sevalprocAttr,oh,e1,OI]
   subst hQ
   exact⟨rfl,_,_,rfl,by simp[Tr.aa,hs],by simp[Tr.aa]⟩
 obtain⟨r,h1,E,H,rfl,hE,hE1⟩:=uc hloop
 have ls:=hP.Qb
 simp only[OI] at h1
 have h1':mb (ga (pa (Ba (fun _=>none) 8) oh) (na 0 [1,3,7,8,9])) qa ⟨((((Tr.lf.set 9 (.pv (.int .i64 0))).set 8 (.pv (.int .i64 s.parts.length))).set 7 (.pv P)).set 3 (.pv (.int .i64 1))).set 1 (.pv (.rp [P,i64 s.first] 0)),[]⟩=some (.exit 0,⟨E,H⟩):=h1
 unfold Bh
 generalize Vg 1 s.parts=n at *
 have t1:IntKind.i64.wrap (s.first+n)=s.first+n:=Ca (by omega)
 have t2:IntKind.i64.wrap (s.first+n - 1)=s.first+n - 1:=Ca (by omega)
 have hPv:∃ sz es,P= .ma∨P= .lit sz es:=by rcases hP.is with⟨h,_⟩ | h;exact⟨0,[],.inl h⟩;exact⟨_,_,.inr h⟩
 obtain⟨sz,es,rfl | rfl⟩:=hPv <;>
 simp -implicitDefEqProofs only[Km,SP,SA,SQ,WP,WQ,sevalprocAttr,Pq,Gb,ls,h1',hE,hE1,t1,t2]
theorem HQ (call:Wa) {v:PV} {l:List (Int×Int)} (h:Bn v l) (H:List ba):mg call uj [.pv v] H=some (.pv (.bool (!decide (Pd l))),H):=by
 have ls:=h.is.len
 simp only[Md,List.length_map] at ls
 have hv:=mB v l h.is h.sz
 by_cases h0:l=[]
 ·have e1:((l.length:Int)==0)=true:=by simp[h0]
  have e2:(!decide (Pd l))=true:=by
   have:¬Pd l:=fun hp=>hp.1 h0
   simp[this]
  rw[e2]
  simp -implicitDefEqProofs only[SP,SA,SQ,WP,WQ,sevalprocAttr,uj,ls,e1]
 ·have e1:((l.length:Int)==0)=false:=by
   have:l.length≠0:=fun e=>h0 (List.eq_nil_of_length_eq_zero e)
   exact Oh (by omega)
  have e2:(!decide (Pd l))= !(Ma 255 (-2) l):=by
   congr 1
   rw[Bool.eq_iff_iff];simp[Pd,h0]
  rw[e2]
  simp -implicitDefEqProofs only[SP,SA,SQ,WP,WQ,sevalprocAttr,uj,ls,e1,hv]
def Zu (ls:List (List (Int×Int))) (i:Nat):Int:=
 match ls with
 | []=> -1
 |l::r=>if Pd l then Zu r (i+1) else i
theorem XF:∀ (ls:List (List (Int×Int))) (i:Nat),decide (Zu ls i≥0)= !decide (∀ l∈ls,Pd l)
 | [],i=>by simp[Zu]
 |l::r,i=>by
  rw[Zu]
  by_cases h:Pd l
  ·rw[if_pos h,XF r];simp[h]
  ·rw[if_neg h];simp[h]
abbrev oJ (P:PV) (len i:Int):Tr:=(((Tr.lf.set 8 (.pv (i64 i))).set 7 (.pv (i64 len))).set 1 (.uk 7 [])).set 0 (.pv P)
theorem rN {P:PV} {ls:List (List (Int×Int))} {ps:List PV} (hP:Ze P ls ps) (d:Nat) (H:List ba) (hH:Fe H):
 mg (Ba Wb (d+1)) xc [.pv P,.uk 7 []] H=some (.pv (i64 (Zu ls 0)),H):=by
 have hsz:=hP.sz
 have lsn:=hP.Qb
 have hcut:=Fe.cut hH
 have h7:Wb 7=some uj:=rfl
 apply Xn
 have hloop:Sd (fun r=>∃ E,(r=(.exit 0,⟨E,H⟩)∧Zu ls 0= -1)∨(r=(.ret,⟨E,H⟩)∧E.get 4= .pv (i64 (Zu ls 0))))
  (mb (ga (pa (Ba Wb (d+1)) Ib) (na H.length [0,1,7,8])) qa ⟨oJ P ls.length 0,H⟩):=by
  refine ya (Kb (g:=ga (pa (Ba Wb (d+1)) Ib) (na H.length [0,1,7,8]))
   (fun i t=>t=⟨oJ P ls.length i,H⟩∧Zu ls 0=Zu (ls.drop i) i)
   ls.length (by unfold qa;unfold maxLen at hsz;omega) _ ⟨rfl,rfl⟩ ?_ ?_) (fun r h=>h.2)
  ·rintro i t hi ⟨rfl,hs⟩
   obtain⟨v,hv,hPl,hpt⟩:=hP.get hi
   have hd:ls.drop i=ls[i]::ls.drop (i+1):=List.drop_eq_getElem_cons hi
   rw[hd,Zu] at hs
   have hn:=HQ (Ba Wb d) hpt H
   generalize ls[i]=l at *
   have e1:decide ((i:Int) < (ls.length:Int))=true:=Fa (by omega)
   have t2:=Za hi hsz
   have hq:i < ps.length:=by rw[hP.len];exact hi
   have hcl:v.cells=[v]:=by rcases hpt.is with⟨h,_⟩ | h <;> rw[h] <;> rfl
   have a1:wa H 1 (.pv P) (i:Int)=some (.pv (.rp [v] 0)):=by
    rw[hPl]
    simp only[wa]
    rw[if_pos (by unfold Ea;simp;omega),Int.toNat_natCast,hv]
    simp[hcl]
   have a2:xa H false 1 (.pv (.rp [v] 0))=some (.pv v):=rfl
   generalize hQ:LN _ _ i=Q
   by_cases Aa:Pd l
   ·rw[if_pos Aa] at hs
    rw[decide_eq_true Aa] at hn
    simp -implicitDefEqProofs only[SX,sevalprocAttr,Ib,e1,t2,a1,a2,h7,hn,hcut,List.take_length,na,za,AV.cut,ta,oJ]
    subst hQ
    exact⟨rfl,hs⟩
   ·rw[if_neg Aa] at hs
    rw[decide_eq_false Aa] at hn
    simp -implicitDefEqProofs only[SX,sevalprocAttr,Ib,e1,t2,a1,a2,h7,hn,hcut,List.take_length,na,za,AV.cut,ta,oJ]
    subst hQ
    exact⟨_,.inr ⟨rfl,by simp[Tr.aa,hs]⟩⟩
  ·rintro t ⟨rfl,hs⟩
   rw[List.drop_length,Zu] at hs
   have e1:decide ((ls.length:Int) < (ls.length:Int))=false:=Ja (by omega)
   generalize hQ:(fun r:Ex×St=>r.1.stop=true∧_)=Q
   simp -implicitDefEqProofs only[SX,sevalprocAttr,Ib,e1,oJ]
   subst hQ
   exact⟨rfl,_,.inl ⟨rfl,hs⟩⟩
 simp -implicitDefEqProofs only[SX,sevalprocAttr,xc,Gb,lsn,hcut,List.take_length,na,za,AV.cut,ta]
 refine ya hloop ?_
 rintro _ ⟨E,⟨rfl,hb⟩ | ⟨rfl,hE⟩⟩
 ·simp -implicitDefEqProofs only[SX,sevalprocAttr,hb]
 ·simp -implicitDefEqProofs only[SX,sevalprocAttr,hE]
theorem sy {P:PV} {ls:List (List (Int×Int))} {ps:List PV} (hP:Ze P ls ps) (d:Nat) (H:List ba) (hH:Fe H):
 mg (Ba Wb (d+2)) Jb [.pv P,.uk 7 []] H=some (.pv (.bool (!decide (∀ l∈ls,Pd l))),H):=by
 have h:=rN hP d H hH
 have h5:Wb 5=some xc:=rfl
 have hb:=XF ls 0
 simp -implicitDefEqProofs only[SX,sevalprocAttr,Jb,h5,h,hb]
end Go.AM.B1
namespace Go.AM.B1
open Go.AM Go.AM.So
structure Be (s:ic):Prop where
 lo:1≤s.parts.length
 hi:s.parts.length≤8
 f0:0≤s.first
 f1:s.first≤1073741823
 parts:∀ l∈s.parts,Pd l
 last:Bh s≤1073741823
def tm (s t:ic):Prop:=∀ x,¬((s.first≤x∧x≤Bh s)∧(t.first≤x∧x≤Bh t))
structure Lc (ss:List ic):Prop where
 len:ss.length≤32
 gw:∀ s∈ss,Be s
 apart:ss.Pairwise tm
theorem Be.sH {s:ic} (h:Be s):s.first≤Bh s:=by
 have:=(vl s.parts 1 h.parts (by omega) (by omega)).1
 unfold Bh;omega
structure EV (ss:List ic) (i:Nat) (v:PV) (u:List (Int×Int)):Prop where
 is:Ai 2 v (Md u)
 val:Ma qx (-2) u=true
 len:u.length≤i
 mem:∀ x,jj x u↔∃ s∈ss.take i,s.first≤x∧x≤Bh s
 gw:∀ s∈ss.take i,Be s
 apart:(ss.take i).Pairwise tm
abbrev Ro (S v:PV) (len i:Int):Tr:=(((Tr.lf.set 14 (.pv (i64 i))).set 13 (.pv (i64 len))).set 12 (.pv S)).set 3 (.pv v)
theorem Bm (x y u v:AV) (hu:u.one=true) (hv:v.one=true) (A:List ba) (e:PV) (he:(AV.pv e).cells=[u,v]):Ka (A++[.box [x,y]]) 2 (.ptr A.length 0) (.pv e)=some (A++[.box [u,v]]):=by
 simp only[Ka,he,aj,Pm,List.length_cons,List.length_nil,List.all,hu,hv]
 simp[fa]
section
variable {S:PV} {ss:List ic} {es:List PV} (hS:pb S ss es) (hl:ss.length≤32)
include hS hl
omit hl in
theorem wB {i:Nat} (hi:i < ss.length) (v:PV) (hbad:¬Be ss[i]):
 ∃ E H,ga (pa (Ba Wb 8) Lb) (na 0 [3,12,13,14]) ⟨Ro S v ss.length i,[]⟩=some (.ret,⟨E,H⟩)∧E.get 2= .pv (.bool false):=by
 obtain⟨e,P,ps,he,hSl,hsh⟩:=hS.get hi
 obtain⟨rfl,hP⟩:=hsh
 generalize hs:ss[i]=s at *
 have hq:i < es.length:=by rw[hS.len];exact hi
 have e1:decide ((i:Int) < (ss.length:Int))=true:=Fa (by omega)
 have a1:wa [] 2 (.pv S) (i:Int)=some (.pv (.rp [P,i64 s.first] 0)):=by
  rw[hSl]
  simp only[wa]
  rw[if_pos (by unfold Ea;simp;omega),Int.toNat_natCast,he];rfl
 have a2:xa [] true 2 (.pv (.rp [P,i64 s.first] 0))=some (.pv (.agg [P,i64 s.first])):=rfl
 have hP1:(AV.pv P).one=true:=by rcases hP.is with⟨h,_⟩ | h <;> rw[h] <;> rfl
 have s1:Ka [.box [.pv .ma,.pv (i64 0)]] 2 (.ptr 0 0) (.pv (.agg [P,i64 s.first]))=some [.box [.pv P,.pv (i64 s.first)]]:=Bm _ _ _ _ hP1 rfl [] _ rfl
 have p0:place [.box [.pv P,.pv (i64 s.first)]] 0 (.ptr 0 0)=some (.ptr 0 0):=rfl
 have p1:place [.box [.pv P,.pv (i64 s.first)]] 1 (.ptr 0 0)=some (.ptr 0 1):=rfl
 have l0:xa [.box [.pv P,.pv (i64 s.first)]] false 1 (.ptr 0 0)=some (.pv P):=rfl
 have l1:xa [.box [.pv P,.pv (i64 s.first)]] false 1 (.ptr 0 1)=some (.pv (i64 s.first)):=rfl
 have l2:xa [.box [.pv P,.pv (i64 s.first)]] true 2 (.ptr 0 0)=some (.pv (.agg [P,i64 s.first])):=rfl
 have hg:Fe [.box [.pv P,.pv (i64 s.first)]]:=by
  intro n _ o ho;simp at ho;subst ho;simp[oa,Oa,Ga]
 have hct:=sy hP 5 [.box [.pv P,.pv (i64 s.first)]] hg
 have h6:Wb 6=some Jb:=rfl
 have lA:=hP.Qb
 have key:Sd (fun r=>∃ E H,r=(.ret,⟨E,H⟩)∧E.get 2= .pv (.bool false)) (ga (pa (Ba Wb 8) Lb) (na 0 [3,12,13,14]) ⟨Ro S v ss.length i,[]⟩):=by
  generalize hQ:(fun r:Ex×St=>_)=Q
  by_cases c1:s.parts.length < 1
  ·have d1:decide ((s.parts.length:Int) < 1)=true:=Fa (by omega)
   simp -implicitDefEqProofs only[SX,sevalprocAttr,Lb,e1,a1,a2,s1,p0,p1,l0,l1,lA,d1,Ro]
   subst hQ;exact⟨_,_,rfl,by simp[Tr.aa]⟩
  have d1:decide ((s.parts.length:Int) < 1)=false:=Ja (by omega)
  by_cases c2:s.parts.length > 8
  ·have d2:decide ((s.parts.length:Int) > 8)=true:=Fa (by omega)
   simp -implicitDefEqProofs only[SX,sevalprocAttr,Lb,e1,a1,a2,s1,p0,p1,l0,l1,lA,d1,d2,Ro]
   subst hQ;exact⟨_,_,rfl,by simp[Tr.aa]⟩
  have d2:decide ((s.parts.length:Int) > 8)=false:=Ja (by omega)
  by_cases c3:s.first < 0
  ·have d3:decide (s.first < 0)=true:=Fa c3
   simp -implicitDefEqProofs only[SX,sevalprocAttr,Lb,e1,a1,a2,s1,p0,p1,l0,l1,lA,d1,d2,d3,Ro]
   subst hQ;exact⟨_,_,rfl,by simp[Tr.aa]⟩
  have d3:decide (s.first < 0)=false:=Ja c3
  by_cases c4:s.first > 1073741823
  ·have d4:decide (s.first > 1073741823)=true:=Fa c4
   simp -implicitDefEqProofs only[SX,sevalprocAttr,Lb,e1,a1,a2,s1,p0,p1,l0,l1,lA,d1,d2,d3,d4,Ro]
   subst hQ;exact⟨_,_,rfl,by simp[Tr.aa]⟩
  have d4:decide (s.first > 1073741823)=false:=Ja c4
  by_cases c5:∀ l∈s.parts,Pd l
  ·have hlast:=JI (e:= .agg [P,i64 s.first]) ⟨rfl,hP⟩ c5 (by omega)
   rw[decide_eq_true c5] at hct
   have c6:Bh s > 1073741823:=by
    rcases Int.lt_or_le 1073741823 (Bh s) with h | h
    ·exact h
    ·exact absurd (Be.mk (by omega) (by omega) (by omega) (by omega) c5 h) hbad
   have d6:decide (Bh s > 1073741823)=true:=Fa c6
   have i0:∀ H (x y:Int),wa H 2 (.pv (.lit 2 [.agg [i64 x,i64 y]])) 0=some (.pv (.rp [i64 x,i64 y] 0)):=fun H x y=>rfl
   have q1:∀ H (x y:PV),place H 1 (.pv (.rp [x,y] 0))=some (.pv (.rp [x,y] 1)):=fun H x y=>rfl
   have m1:∀ H (x y:PV),xa H false 1 (.pv (.rp [x,y] 1))=some (.pv y):=fun H x y=>rfl
   simp -implicitDefEqProofs only[SX,sevalprocAttr,fa,Lb,e1,a1,a2,s1,p0,p1,l0,l1,l2,lA,d1,d2,d3,d4,h6,hct,hlast,i0,q1,m1,d6,Ro]
   subst hQ;exact⟨_,_,rfl,by simp[Tr.aa]⟩
  ·rw[decide_eq_false c5] at hct
   simp -implicitDefEqProofs only[SX,sevalprocAttr,Lb,e1,a1,a2,s1,p0,p1,l0,l1,lA,d1,d2,d3,d4,h6,hct,Ro]
   subst hQ;exact⟨_,_,rfl,by simp[Tr.aa]⟩
 obtain⟨r,h1,E,H,rfl,h2⟩:=uc key
 exact⟨E,H,h1,h2⟩
theorem lC {i:Nat} (hi:i < ss.length) {v:PV} {u:List (Int×Int)} (hv:EV ss i v u) (Aa:Be ss[i]):
 Sd (fun r=>(∃ E H,r=(.ret,⟨E,H⟩)∧E.get 2= .pv (.bool false)∧∃ s∈ss.take i,¬tm s ss[i])∨(∃ v' u',r=(.norm,⟨Ro S v' ss.length (i+1:Nat),[]⟩)∧EV ss (i+1) v' u'))
  (ga (pa (Ba Wb 8) Lb) (na 0 [3,12,13,14]) ⟨Ro S v ss.length i,[]⟩):=by
 obtain⟨e,P,ps,he,hSl,hsh⟩:=hS.get hi
 obtain⟨rfl,hP⟩:=hsh
 have htake:ss.take (i+1)=ss.take i++[ss[i]]:=List.take_succ_eq_append_getElem hi
 generalize hs:ss[i]=s at *
 have hq:i < es.length:=by rw[hS.len];exact hi
 have e1:decide ((i:Int) < (ss.length:Int))=true:=Fa (by omega)
 have t2:=Za hi hS.sz
 have a1:wa [] 2 (.pv S) (i:Int)=some (.pv (.rp [P,i64 s.first] 0)):=by
  rw[hSl]
  simp only[wa]
  rw[if_pos (by unfold Ea;simp;omega),Int.toNat_natCast,he];rfl
 have a2:xa [] true 2 (.pv (.rp [P,i64 s.first] 0))=some (.pv (.agg [P,i64 s.first])):=rfl
 have hP1:(AV.pv P).one=true:=by rcases hP.is with⟨h,_⟩ | h <;> rw[h] <;> rfl
 have s1:Ka [.box [.pv .ma,.pv (i64 0)]] 2 (.ptr 0 0) (.pv (.agg [P,i64 s.first]))=some [.box [.pv P,.pv (i64 s.first)]]:=Bm _ _ _ _ hP1 rfl [] _ rfl
 have p0:place [.box [.pv P,.pv (i64 s.first)]] 0 (.ptr 0 0)=some (.ptr 0 0):=rfl
 have p1:place [.box [.pv P,.pv (i64 s.first)]] 1 (.ptr 0 0)=some (.ptr 0 1):=rfl
 have l0:xa [.box [.pv P,.pv (i64 s.first)]] false 1 (.ptr 0 0)=some (.pv P):=rfl
 have l1:xa [.box [.pv P,.pv (i64 s.first)]] false 1 (.ptr 0 1)=some (.pv (i64 s.first)):=rfl
 have l2:xa [.box [.pv P,.pv (i64 s.first)]] true 2 (.ptr 0 0)=some (.pv (.agg [P,i64 s.first])):=rfl
 have hg:Fe [.box [.pv P,.pv (i64 s.first)]]:=by
  intro n _ o ho;simp at ho;subst ho;simp[oa,Oa,Ga]
 have hct:=sy hP 5 [.box [.pv P,.pv (i64 s.first)]] hg
 rw[decide_eq_true Aa.parts] at hct
 have h6:Wb 6=some Jb:=rfl
 have lA:=hP.Qb
 have d1:decide ((s.parts.length:Int) < 1)=false:=Ja (by have:=Aa.lo;omega)
 have d2:decide ((s.parts.length:Int) > 8)=false:=Ja (by have:=Aa.hi;omega)
 have d3:decide (s.first < 0)=false:=Ja (by have:=Aa.f0;omega)
 have d4:decide (s.first > 1073741823)=false:=Ja (by have:=Aa.f1;omega)
 have hlast:=JI (e:= .agg [P,i64 s.first]) ⟨rfl,hP⟩ Aa.parts ⟨Aa.f0,Aa.f1⟩
 have d6:decide (Bh s > 1073741823)=false:=Ja (by have:=Aa.last;omega)
 have i0:∀ H (x y:Int),wa H 2 (.pv (.lit 2 [.agg [i64 x,i64 y]])) 0=some (.pv (.rp [i64 x,i64 y] 0)):=fun H x y=>rfl
 have q1:∀ H (x y:PV),place H 1 (.pv (.rp [x,y] 0))=some (.pv (.rp [x,y] 1)):=fun H x y=>rfl
 have m1:∀ H (x y:PV),xa H false 1 (.pv (.rp [x,y] 1))=some (.pv y):=fun H x y=>rfl
 have hvr:Ma qx (-2) [(s.first,Bh s)]=true:=by
  rw[Yo];have:=Aa.sH;have:=Aa.f0;have:=Aa.last;unfold qx;simp only;omega
 have hmt:=Dz v (.lit 2 [.agg [i64 s.first,i64 (Bh s)]]) u [(s.first,Bh s)] hv.is (.inr rfl) hv.val hvr (by have:=hv.len;simp;omega)
 obtain⟨u',hun,hv1,hv2,hv3⟩:=fN v (.lit 2 [.agg [i64 s.first,i64 (Bh s)]]) u [(s.first,Bh s)] hv.is (.inr rfl) hv.val hvr (by have:=hv.len;simp;omega)
 have hms:=oK hv.val hvr
 have hml:∀ l:List (Int×Int),(Md l).length=l.length:=fun l=>by simp
 generalize Ff (u.length+[(s.first,Bh s)].length) u [(s.first,Bh s)]=mm at *
 have hvv:(AV.pv v).cells=[.pv v]:=by rcases hv.is with⟨h,_⟩ | h <;> rw[h] <;> rfl
 generalize hQ:(fun r:Ex×St=>_)=Q
 by_cases c7:mm=[]
 ·have d7:decide ((mm.length:Int) > 0)=false:=Ja (by rw[c7];simp)
  have hno:¬∃ x,jj x u∧jj x [(s.first,Bh s)]:=fun h=>(hms.2 h) c7
  simp -implicitDefEqProofs only[SX,sevalprocAttr,fa,Lb,e1,t2,a1,a2,s1,p0,p1,l0,l1,l2,lA,d1,d2,d3,d4,h6,hct,hlast,i0,q1,m1,d6,hmt,hml,d7,hun,na,za,AV.cut,oa,List.take_zero,ta,Ro]
  subst hQ
  refine .inr ⟨_,u',rfl,.inr rfl,hv1,by have:=hv.len;simp at hv3;omega,fun x=> ?_,?_,?_⟩
  ·rw[hv2,Dn,hv.mem,htake]
   constructor
   ·rintro (⟨t,ht,hx⟩ | hx)
    ·exact⟨t,by simp[ht],hx⟩
    ·exact⟨s,by simp,hx⟩
   ·rintro⟨t,ht,hx⟩
    rcases List.mem_append.1 ht with h | h
    ·exact .inl ⟨t,h,hx⟩
    ·simp at h;subst h;exact .inr hx
  ·intro t ht
   rw[htake] at ht
   rcases List.mem_append.1 ht with h | h
   ·exact hv.gw t h
   ·simp at h;subst h;exact Aa
  ·rw[htake,List.pairwise_append]
   refine⟨hv.apart,by simp,fun t ht w hw x hx=> ?_⟩
   simp at hw;subst hw
   exact hno ⟨x,(hv.mem x).2 ⟨t,ht,hx.1⟩,(Dn _ _).2 hx.2⟩
 ·have d7:decide ((mm.length:Int) > 0)=true:=Fa (by have:mm.length≠0:=fun e=>c7 (List.eq_nil_of_length_eq_zero e);omega)
  obtain⟨x,hx1,hx2⟩:=hms.1 c7
  simp -implicitDefEqProofs only[SX,sevalprocAttr,fa,Lb,e1,a1,a2,s1,p0,p1,l0,l1,l2,lA,d1,d2,d3,d4,h6,hct,hlast,i0,q1,m1,d6,hmt,hml,d7,Ro]
  subst hQ
  obtain⟨t,ht,hx3⟩:=(hv.mem x).1 hx1
  exact .inl ⟨_,_,rfl,by simp[Tr.aa],t,ht,fun h=>h x ⟨hx3,(Dn _ _).1 hx2⟩⟩
end
theorem Bk {S:PV} {ss:List ic} {es:List PV} (hS:pb S ss es):∃ b,Pf [.agg [S]]=some (.bool b)∧(b=true↔Lc ss):=by
 have lA:=hS.Qb
 by_cases hl:ss.length≤32
 ·have e0:decide ((ss.length:Int) > 32)=false:=Ja (by omega)
  have hloop:Sd (fun r=>∃ E H,(r=(.exit 0,⟨E,H⟩)∧Lc ss)∨(r=(.ret,⟨E,H⟩)∧E.get 2= .pv (.bool false)∧¬Lc ss))
   (mb (ga (pa (Ba Wb 8) Lb) (na 0 [3,12,13,14])) qa ⟨Ro S .ma ss.length 0,[]⟩):=by
   refine ya (Kb (g:=ga (pa (Ba Wb 8) Lb) (na 0 [3,12,13,14]))
    (fun i t=>∃ v u,t=⟨Ro S v ss.length i,[]⟩∧EV ss i v u)
    ss.length (by unfold qa;omega) _ ⟨.ma,[],rfl,.inl ⟨rfl,rfl⟩,rfl,by simp,fun x=>by simp[Ul],by simp,by simp⟩ ?_ ?_) (fun r h=>h.2)
   ·rintro i t hi ⟨v,u,rfl,hv⟩
    by_cases Aa:Be ss[i]
    ·refine ya (lC hS hl hi hv Aa) ?_
     rintro r (⟨E,H,rfl,hE,s,hs,hna⟩ | ⟨v',u',rfl,hv'⟩)
     ·refine⟨E,H,.inr ⟨rfl,hE,fun h=>hna ?_⟩⟩
      obtain⟨j,hj,rfl⟩:=List.mem_take_iff_getElem.1 hs
      have:=List.pairwise_iff_getElem.1 h.apart j i (by omega) hi (by omega)
      exact this
     ·exact⟨v',u',rfl,hv'⟩
    ·obtain⟨E,H,h1,h2⟩:=wB hS hi v Aa
     exact GV h1 ⟨E,H,.inr ⟨rfl,h2,fun h=>Aa (h.gw _ (List.getElem_mem hi))⟩⟩
   ·rintro t ⟨v,u,rfl,hv⟩
    have e1:decide ((ss.length:Int) < (ss.length:Int))=false:=Ja (by omega)
    have hfin:Lc ss:=⟨hl,by have:=hv.gw;rwa [List.take_length] at this,by have:=hv.apart;rwa [List.take_length] at this⟩
    generalize hQ:(fun r:Ex×St=>r.1.stop=true∧_)=Q
    simp -implicitDefEqProofs only[SX,sevalprocAttr,Lb,e1,Ro]
    subst hQ
    exact⟨rfl,_,_,.inl ⟨rfl,hfin⟩⟩
  obtain⟨r,h1,E,H,h2⟩:=uc hloop
  have h1':mb (ga (pa (Ba Wb 8) Lb) (na 0 [3,12,13,14])) qa ⟨(((Tr.lf.set 14 (.pv (.int .i64 0))).set 13 (.pv (.int .i64 ss.length))).set 12 (.pv S)).set 3 (.pv .ma),[]⟩=some r:=h1
  have hSv:∃ sz es,S= .ma∨S= .lit sz es:=by rcases hS.is with⟨h,_⟩ | h;exact⟨0,[],.inl h⟩;exact⟨_,_,.inr h⟩
  rcases h2 with⟨rfl,Aa⟩ | ⟨rfl,hE,hno⟩
  ·refine⟨true,?_,by simp[Aa]⟩
   obtain⟨sz,es,rfl | rfl⟩:=hSv <;>
   simp -implicitDefEqProofs only[Pf,SP,SA,SQ,WP,WQ,sevalprocAttr,Uj,Gb,lA,e0,h1']
  ·refine⟨false,?_,by simp[hno]⟩
   obtain⟨sz,es,rfl | rfl⟩:=hSv <;>
   simp -implicitDefEqProofs only[Pf,SP,SA,SQ,WP,WQ,sevalprocAttr,Uj,Gb,lA,e0,h1',hE]
 ·have e0:decide ((ss.length:Int) > 32)=true:=Fa (by omega)
  refine⟨false,?_,by simp;exact fun h=>hl h.len⟩
  have hSv:∃ sz es,S= .ma∨S= .lit sz es:=by rcases hS.is with⟨h,_⟩ | h;exact⟨0,[],.inl h⟩;exact⟨_,_,.inr h⟩
  obtain⟨sz,es,rfl | rfl⟩:=hSv <;>
  simp -implicitDefEqProofs only[Pf,SP,SA,SQ,WP,WQ,sevalprocAttr,Uj,Gb,lA,e0]
end Go.AM.B1
namespace Go.AM.B1
open Go.AM Go.AM.So
theorem qf.one {e:PV} {s:ic} {P:PV} {ps:List PV} (h:qf e s P ps):pb (.lit 2 [e]) [s] [e]:=by
 refine⟨.inr rfl,rfl,?_,by simp[maxLen]⟩
 intro k e' s' h1 h2
 match k,h1,h2 with
 |0,h1,h2=>simp at h1 h2;subst h1 h2;exact⟨P,ps,h⟩
 |k+1,h1,h2=>simp at h1
theorem gP {s:ic}:Lc [s]↔Be s:=⟨fun h=>h.gw s (by simp),fun h=>⟨by simp,by simpa using h,by simp⟩⟩
theorem qf.Yw {e:PV} {s:ic} {P:PV} {ps:List PV} (h:qf e s P ps):(AV.pv P).one=true∧P.cells=[P]:=by
 rcases h.parts.is with⟨h,_⟩ | h <;> rw[h] <;> exact⟨rfl,rfl⟩
theorem Sk {e:PV} {s:ic} {P:PV} {ps:List PV} (h:qf e s P ps):∃ b,si [e]=some (.bool b)∧(b=true↔Be s):=by
 obtain⟨b,h1,h2⟩:=Bk h.one
 refine⟨b,?_,h2.trans gP⟩
 obtain⟨hP1,hP2⟩:=h.Yw
 have heq:=h.eq
 subst heq
 rcases h.parts.is with⟨rfl,_⟩ | rfl <;>
 simp -implicitDefEqProofs only[si,SP,SA,SQ,WP,WQ,sevalprocAttr,Jq,h1]
theorem Ze.Td {P:PV} {ls:List (List (Int×Int))} {ps:List PV} (hP:Ze P ls ps) {i:Nat} (hi:i < ls.length) (H:List ba):∃ v,ps[i]? =some v∧Bn v ls[i]∧wa H 1 (.pv P) (i:Int)=some (.pv (.rp [v] 0)):=by
 obtain⟨v,hv,hPl,hpt⟩:=hP.get hi
 refine⟨v,hv,hpt,?_⟩
 have hq:i < ps.length:=by rw[hP.len];exact hi
 have hcl:v.cells=[v]:=by rcases hpt.is with⟨h,_⟩ | h <;> rw[h] <;> rfl
 rw[hPl]
 simp only[wa]
 rw[if_pos (by unfold Ea;simp;omega),Int.toNat_natCast,hv]
 simp[hcl]
theorem Ze.Kx {P:PV} {ls:List (List (Int×Int))} {ps:List PV} (hP:Ze P ls ps) {i:Nat} {v:PV} (hv:ps[i]? =some v) (H:List ba):wa H 1 (.pv P) (i:Int)=some (.pv (.rp [v] 0)):=by
 have hi:i < ls.length:=by rw[← hP.len];exact (List.getElem?_eq_some_iff.1 hv).1
 obtain⟨w,hw,_,h⟩:=hP.Td hi H
 rw[hv] at hw;injection hw with hw;subst hw;exact h
def On (p q:List (List (Int×Int))) (i:Nat):List (Int×Int):=match p[i]?,q[i]? with
 |some a,some b=>Ff (a.length+b.length) a b
 |_,_=>[]
def Xb (p q:List (List (Int×Int))):Nat→Nat→Option (List Int)
 |0,_=>some []
 |n+1,i=>match On p q i with
  | []=>none
  |m::_=>(Xb p q n (i+1)).map (m.1:: ·)
abbrev tI (rp rq:List PV) (n i:Int) (tk:Nat) (nl:Bool) (es:List PV):Tr:=((((Tr.lf.set 35 (.pv (i64 i))).set 34 (.pv (i64 n))).set 8 (.uq tk nl 1 es)).set 4 (.pv (.rp rq 0))).set 3 (.pv (.rp rp 0))
theorem fq {A:List ba} {id n bytes:Nat} {nl:Bool} {h:nf} {es:List PV} (hg:A[id]? =some (.tok 1 n nl)) (hn:n=es.length) (hr:qb (n+1) bytes) (e:PV):
 Ub A false h 1 false bytes (.uq id nl 1 es) (.pv (.lit 1 [e]))=some (.uq id false 1 (es++[e]),A.set id (.tok 1 (n+1) false)):=Lg hg hn hr e
theorem mL {e f:PV} {p q:ic} {P Q:PV} {ps qs:List PV} (hp:qf e p P ps) (hq:qf f q Q qs) (op:Be p) (oq:Be q) {n:Nat} (hn:n≤p.parts.length) (hn2:n≤q.parts.length):
 (Xb p.parts q.parts n 0=none→Eh [e,f,i64 n]=some (.yc [.ma,.bool false]))∧
 (∀ bs,Xb p.parts q.parts n 0=some bs→∃ v,Eh [e,f,i64 n]=some (.yc [v,.bool true])∧Ai 1 v (bs.map (PV.int .u8))∧bs.length=n∧∀ b∈bs,0≤b∧b≤255):=by
 obtain⟨b1,hb1,hb1'⟩:=Sk hp
 obtain⟨b2,hb2,hb2'⟩:=Sk hq
 have:b1=true:=hb1'.2 op
 subst this
 have:b2=true:=hb2'.2 oq
 subst this
 obtain⟨hP1,hP2⟩:=hp.Yw
 obtain⟨hQ1,hQ2⟩:=hq.Yw
 have heq:=hp.eq
 have hfq:=hq.eq
 subst heq hfq
 have h8:=op.hi
 have lP:=hp.parts.Qb
 have lQ:=hq.parts.Qb
 have hloop:Sd (fun r=>∃ E H,(r=(.ret,⟨E,H⟩)∧E.get 6= .pv .ma∧E.get 7= .pv (.bool false)∧Xb p.parts q.parts n 0=none)∨(∃ nl bs,r=(.exit 0,⟨E,H⟩)∧E.get 8= .uq 0 nl 1 (bs.map (PV.int .u8))∧(nl=true→bs=[])∧Xb p.parts q.parts n 0=some bs∧bs.length=n∧∀ b∈bs,0≤b∧b≤255))
  (mb (ga (pa (Ba (fun _=>none) 8) Rf) (na 1 [3,4,8,34,35])) qa ⟨tI [P,i64 p.first] [Q,i64 q.first] n 0 0 true [],[.tok 1 0 true]⟩):=by
  refine ya (Kb (g:=ga (pa (Ba (fun _=>none) 8) Rf) (na 1 [3,4,8,34,35]))
   (fun i t=>∃ nl bs,t=⟨tI [P,i64 p.first] [Q,i64 q.first] n i 0 nl (bs.map (PV.int .u8)),[.tok 1 i nl]⟩∧bs.length=i∧(nl=true→bs=[])∧(∀ b∈bs,0≤b∧b≤255)∧Xb p.parts q.parts n 0=(Xb p.parts q.parts (n - i) i).map (bs++ ·))
   n (by unfold qa;omega) _ ⟨true,[],rfl,rfl,fun _=>rfl,by simp,by cases Xb p.parts q.parts n 0 <;> simp[*]⟩ ?_ ?_) (fun r h=>h.2)
  ·rintro i t hi ⟨nl,bs,rfl,hlen,hnl,hby,hs⟩
   obtain⟨v,hv,hpv,_⟩:=hp.parts.Td (i:=i) (by omega) []
   obtain⟨w,hw,hqw,_⟩:=hq.parts.Td (i:=i) (by omega) []
   have a1:=hp.parts.Kx hv
   have a2:=hq.parts.Kx hw
   have okv:=op.parts _ (List.getElem_mem (show i < p.parts.length by omega))
   have okw:=oq.parts _ (List.getElem_mem (show i < q.parts.length by omega))
   have hmt:=fD v w _ _ hpv.is hqw.is okv.2 okw.2 (by
    have:=(sq okv.2).2.1 okv.1
    have h1:=hpv.sz
    have h2:=hqw.sz
    have k1:=pt okv.2
    have k2:=pt okw.2
    omega)
   have hlaw:=Br _ _ _ (-2) (-2) okv.2 okw.2 (Nat.le_refl _)
   have hmA:On p.parts q.parts i=Ff (p.parts[i].length+q.parts[i].length) p.parts[i] q.parts[i]:=by
    unfold On
    rw[List.getElem?_eq_getElem (show i < p.parts.length by omega),List.getElem?_eq_getElem (show i < q.parts.length by omega)]
   obtain⟨m,hm⟩:∃ m,n - i=m+1:=⟨n - i - 1,by omega⟩
   have hm':n - (i+1)=m:=by omega
   rw[hm,Xb,hmA] at hs
   have hme:=bp okv.2
   generalize p.parts[i]=lv at *
   generalize q.parts[i]=lw at *
   generalize Ff (lv.length+lw.length) lv lw=mm at *
   have e1:decide ((i:Int) < (n:Int))=true:=Fa (by omega)
   have t2:=Za (i:=i) (n:=n) hi (by unfold maxLen;omega)
   have lm:∀ H,Qb H 0 (.pv (.lit 2 (Md mm)))=some mm.length:=fun H=>by simp[Qb]
   have r0:∀ H (x y:PV),xa H false 1 (.pv (.rp [x,y] 0))=some (.pv x):=fun H x y=>rfl
   have r1:∀ H (x:PV),xa H false 1 (.pv (.rp [x] 0))=some (.pv x):=fun H x=>rfl
   have q0:∀ H (x y:PV),place H 0 (.pv (.rp [x,y] 0))=some (.pv (.rp [x,y] 0)):=fun H x y=>rfl
   generalize hQ:LN _ _ i=QQ
   cases mm with
   |nil=>
    have z1:(((0:Nat):Int)==0)=true:=by decide
    simp only[Option.map_none] at hs
    simp -implicitDefEqProofs only[SX,sevalprocAttr,Rf,e1,a1,a2,r0,r1,q0,hmt,lm,z1,tI]
    subst hQ
    exact⟨_,_,.inl ⟨rfl,by simp[Tr.aa],by simp[Tr.aa],hs⟩⟩
   |cons m0 mm=>
    have z1:(((mm.length+1:Nat):Int)==0)=false:=Oh (by omega)
    have i0:∀ H,wa H 2 (.pv (.lit 2 (Md (m0::mm)))) 0=some (.pv (.rp [i64 m0.1,i64 m0.2] 0)):=fun H=>zk H (i:=0) (l:=m0::mm) (by simp)
    have hb0:0≤m0.1∧m0.1≤255:=by
     have hmem:=(hlaw.1 m0.1).1 ⟨m0,by simp,Int.le_refl _,hlaw.2 m0 (by simp)⟩
     obtain⟨pp,hpp,h1,h2⟩:=hmem.1
     have:=hme pp hpp;omega
    have t3:IntKind.u8.wrap m0.1=m0.1:=wrap_u8 hb0
    have hap:=fq (A:=[.tok 1 i nl]) (id:=0) (n:=i) (h:= .uq) (nl:=nl) (bytes:=1) (es:=bs.map (PV.int .u8)) rfl (by simp[hlen]) (by unfold qb;omega) (.int .u8 m0.1)
    rw[List.set_cons_zero] at hap
    have lm':∀ H,Qb H 0 (.pv (.lit 2 (Md (m0::mm))))=some (mm.length+1):=lm
    have hbm:(bs++[m0.1]).map (PV.int .u8)=bs.map (PV.int .u8)++[.int .u8 m0.1]:=by simp
    generalize Md (m0::mm)=L at *
    simp -implicitDefEqProofs only[SP,WP,fa,sevalprocAttr,Rf,e1,t2,t3,a1,a2,r0,r1,q0,hmt,lm',z1,i0,hap,na,za,AV.cut,oa,ta,tI]
    subst hQ
    refine⟨false,bs++[m0.1],by rw[hbm],by simp[hlen],by simp,?_,?_⟩
    ·intro b hb
     rcases List.mem_append.1 hb with h | h
     ·exact hby b h
     ·simp at h;subst h;exact hb0
    ·rw[hs,hm']
     cases Xb p.parts q.parts m (i+1) <;> simp
  ·rintro t ⟨nl,bs,rfl,hlen,hnl,hby,hs⟩
   rw[Nat.sub_self,Xb] at hs
   have e1:decide ((n:Int) < (n:Int))=false:=Ja (by omega)
   generalize hQ:(fun r:Ex×St=>r.1.stop=true∧_)=QQ
   simp -implicitDefEqProofs only[SX,sevalprocAttr,Rf,e1,tI]
   subst hQ
   exact⟨rfl,_,_,.inr ⟨nl,bs,rfl,by simp[Tr.aa],hnl,by rw[hs];simp,hlen,hby⟩⟩
 obtain⟨r,h1,E,H,h2⟩:=uc hloop
 have h1':mb (ga (pa (Ba (fun _=>none) 8) Rf) (na 1 [3,4,8,34,35])) qa ⟨((((Tr.lf.set 35 (.pv (.int .i64 0))).set 34 (.pv (i64 n))).set 8 (.uq 0 true 1 [])).set 4 (.pv (.rp [Q,i64 q.first] 0))).set 3 (.pv (.rp [P,i64 p.first] 0)),[.tok 1 0 true]⟩=some r:=h1
 have d0:decide ((n:Int) < 0)=false:=Ja (by omega)
 have d1:decide ((n:Int) > (if (q.parts.length:Int) < (p.parts.length:Int) then (q.parts.length:Int) else (p.parts.length:Int)))=false:=Ja (by split <;> omega)
 have hz:(0 < 1)=True:=by simp
 have r2:∀ H (x y:PV),xa H true 2 (.pv (.rp [x,y] 0))=some (.pv (.agg [x,y])):=fun H x y=>rfl
 have r0:∀ H (x y:PV),xa H false 1 (.pv (.rp [x,y] 0))=some (.pv x):=fun H x y=>rfl
 have q0:∀ H (x y:PV),place H 0 (.pv (.rp [x,y] 0))=some (.pv (.rp [x,y] 0)):=fun H x y=>rfl
 rcases h2 with⟨rfl,h6,h7,hnone⟩ | ⟨nl,bs,rfl,h8',hnl,hsome,hlen,hby⟩
 ·refine⟨fun _=> ?_,fun bs hbs=>by rw[hnone] at hbs;cases hbs⟩
  simp -implicitDefEqProofs only[Eh,SX,sevalprocAttr,Yj,Gb,hP1,hQ1,r2,r0,q0,hb1,hb2,lP,lQ,aq,me,d0,d1,Ve,hz,na,za,AV.cut,oa,ta,h1',h6,h7]
 ·refine⟨fun hn=>(by rw[hsome] at hn;cases hn),fun bs' hbs=> ?_⟩
  rw[hsome] at hbs;injection hbs with hbs;subst hbs
  cases nl with
  |true=>
   have:=hnl rfl;subst this
   refine⟨.ma,?_,.inl ⟨rfl,rfl⟩,hlen,hby⟩
   simp -implicitDefEqProofs only[Eh,SX,sevalprocAttr,Yj,Gb,hP1,hQ1,r2,r0,q0,hb1,hb2,lP,lQ,aq,me,d0,d1,Ve,hz,na,za,AV.cut,oa,ta,h1',h8']
  |false=>
   refine⟨.lit 1 (bs.map (PV.int .u8)),?_,.inr rfl,hlen,hby⟩
   simp -implicitDefEqProofs only[Eh,SX,sevalprocAttr,Yj,Gb,hP1,hQ1,r2,r0,q0,hb1,hb2,lP,lQ,aq,me,d0,d1,Ve,hz,na,za,AV.cut,oa,ta,h1',h8']
end Go.AM.B1
namespace Go.AM.B1
open Go.AM Go.AM.So
def Ya:List (List (Int×Int))→Int
 | []=>1
 |l::r=>Ya r * Sc 0 l
theorem Rh:∀ {ls:List (List (Int×Int))},(∀ l∈ls,Pd l)→1≤Ya ls
 | [],_=>by simp[Ya]
 |l::r,h=>by
  have h1:=Rh (ls:=r) fun x hx=>h x (by simp[hx])
  have h2:=(mi (h l (by simp))).1
  rw[Ya]
  have:=Int.mul_le_mul h1 h2 (by omega) (by omega);omega
theorem Ox:∀ (ls:List (List (Int×Int))) (n:Int),(∀ l∈ls,Pd l)→1≤n→n≤1073741825→Vg n ls=if 1073741825 < n * Ya ls then 1073741825 else n * Ya ls
 | [],n,_,h1,h2=>by rw[Vg,Ya,Int.mul_one,if_neg (by omega)]
 |l::r,n,h,h1,h2=>by
  have hs:=mi (h l (by simp))
  have hm:=cw h1 h2 hs.1 hs.2
  have hp:=Rh (ls:=r) fun x hx=>h x (by simp[hx])
  have e:n * (Ya r * Sc 0 l)=(n * Sc 0 l) * Ya r:=by rw[Int.mul_comm (Ya r),Int.mul_assoc]
  rw[Vg,Ya,e]
  by_cases hc:1073741825 < n * Sc 0 l
  ·rw[if_pos hc,Ox r _ (fun x hx=>h x (by simp[hx])) (by omega) (by omega)]
   have h3:n * Sc 0 l * 1≤n * Sc 0 l * Ya r:=Int.mul_le_mul_of_nonneg_left hp (by omega)
   rw[if_pos (show 1073741825 < n * Sc 0 l * Ya r by omega)]
   split
   ·rfl
   ·have h4:1073741825 * 1≤1073741825 * Ya r:=Int.mul_le_mul_of_nonneg_left hp (by omega)
    omega
  ·rw[if_neg hc,Ox r _ (fun x hx=>h x (by simp[hx])) (by omega) (by omega)]
theorem Be.prod {s:ic} (h:Be s):Vg 1 s.parts=Ya s.parts∧Ya s.parts≤1073741824:=by
 have h1:=Ox s.parts 1 h.parts (by omega) (by omega)
 have h2:=h.last
 have h3:=h.f0
 unfold Bh at h2
 rw[Int.one_mul] at h1
 split at h1
 ·omega
 ·exact⟨h1,by omega⟩
theorem Be.Bh {s:ic} (h:Be s):B1.Bh s=s.first+Ya s.parts - 1:=by
 unfold B1.Bh;rw[h.prod.1]
theorem Np {ls:List (List (Int×Int))} (h:∀ l∈ls,Pd l) (i:Nat):Ya (ls.drop i)≤Ya ls:=by
 induction ls generalizing i with
 |nil=>simp
 |cons l r ih=>
  cases i with
  |zero=>simp
  |succ i=>
   rw[List.drop_succ_cons,Ya]
   have h1:=ih (fun x hx=>h x (by simp[hx])) i
   have h2:=(mi (h l (by simp))).1
   have hp:=Rh (ls:=r) fun x hx=>h x (by simp[hx])
   have:Ya r * 1≤Ya r * Sc 0 l:=Int.mul_le_mul_of_nonneg_left h2 (by omega)
   omega
def fp (l:List Int) (fl:Nat) (nl:Bool):ba:= .seq 1 false (Ha l) fl nl
section
variable {A:List ba} {id n fl:Nat} {nl:Bool} {l:List Int} (hg:A[id]? =some (fp l fl nl)) (hn:n=l.length) (hf:fl≤n)
include hg hn
theorem CC (hf:fl≤n) {i:Int} {k:Nat} (hi:i=(k:Int)) (hk:k < n):wa A 1 (.own id n) i=some (.Fc id n k):=by
 have:=fb l
 subst hi
 simp only[wa,hg,fp]
 rw[if_pos (by refine⟨trivial,?_,?_⟩ <;> first | (unfold Ea;omega) | (unfold vh;omega))]
 simp
theorem LD {k:Nat} (hk:k < n) (v:Int):Ka A 1 (.Fc id n k) (.pv (i64 v))=some (A.set id (fp (l.set k v) n nl)):=by
 have hl:=fb l
 have hc:(AV.pv (i64 v)).cells=[.pv (i64 v)]:=rfl
 simp only[Ka,hg,fp,hc]
 rw[if_pos ⟨rfl,rfl⟩,if_pos ⟨by omega,by omega⟩,fa,fa,Qi]
theorem ZM (d:Nat):Vb A (d+1) (.own id n)=some (if nl then .ma else .lit 1 (l.map i64)):=by
 have hl:=fb l
 subst hn
 simp only[Vb,hg,fp]
 have hm:Oa (Vb A d) (Ha l)=some (l.map i64):=by rw[Ur,BB]
 have hck:∀ l:List Int,chunk 1 false l.length (l.map i64)=l.map i64:=by
  intro l
  induction l with
  |nil=>rfl
  |cons a l ih=>simp only[List.map_cons,List.length_cons,chunk,Bool.false_eq_true,if_false,List.headD_cons,List.drop_succ_cons,List.drop_zero];rw[ih]
 rw[if_pos ⟨by omega,by rfl⟩,hm]
 cases nl with
 |true=>rfl
 |false=>simp only[Bool.false_eq_true,if_false,Option.map_some,hck]
end
theorem CI (l:List Int) (fl:Nat) (nl:Bool) (n:Nat):oa n (fp l fl nl)=some (fp l fl nl):=by
 have:(Ha l).all (AV.Qe n deep)=true:=by
  rw[List.all_eq_true]
  intro v hv
  obtain⟨p,_,rfl⟩:=List.mem_map.1 hv
  rfl
 simp[oa,fp,this]
def Bl (ls:List (List (Int×Int))) (i:Nat):List Int:=(List.range (ls.length+1)).map fun j=>if i < j then Ya (ls.drop j) else 0
theorem fw (ls:List (List (Int×Int))) (i:Nat):(Bl ls i).length=ls.length+1:=by simp[Bl]
theorem kP (ls:List (List (Int×Int))) (i:Nat) (hi:i < ls.length):(Bl ls (i+1)).set (i+1) (Ya (ls.drop (i+1)))=Bl ls i:=by
 apply List.ext_getElem
 ·simp[Bl]
 ·intro j h1 h2
  rw[List.getElem_set]
  simp only[Bl,List.getElem_map,List.getElem_range]
  by_cases hj:i+1=j
  ·subst hj;simp
  ·rw[if_neg hj]
   by_cases h:i+1 < j
   ·rw[if_pos h,if_pos (by omega)]
   ·rw[if_neg h,if_neg (by omega)]
def Hj (ls:List (List (Int×Int))):List Int:=(List.range (ls.length+1)).map fun j=>Ya (ls.drop j)
theorem BK (ls:List (List (Int×Int))):(Bl ls 0).set 0 (Ya ls)=Hj ls:=by
 apply List.ext_getElem
 ·simp[Bl,Hj]
 ·intro j h1 h2
  rw[List.getElem_set]
  simp only[Bl,Hj,List.getElem_map,List.getElem_range]
  by_cases hj:0=j
  ·subst hj;simp
  ·rw[if_neg hj,if_pos (by omega)]
abbrev VM (row:List PV) (m:Nat) (n i:Int):Tr:=(((Tr.lf.set 5 (.pv (i64 i))).set 4 (.pv (i64 n))).set 3 (.own 0 m)).set 1 (.pv (.rp row 0))
theorem pF {e:PV} {s:ic} {P:PV} {ps:List PV} (h:qf e s P ps) (Aa:Be s):Lk [e]=some (.lit 1 ((Hj s.parts).map i64)):=by
 obtain⟨hP1,hP2⟩:=h.Yw
 have heq:=h.eq
 subst heq
 have hP:=h.parts
 have lP:=hP.Qb
 have h8:=Aa.hi
 have hpr:=Aa.prod.2
 have hloop:Sd (fun r=>∃ E,r=(.exit 0,⟨E,[fp (Bl s.parts 0) (s.parts.length+1) false]⟩)∧E.get 3= .own 0 (s.parts.length+1)∧E.get 4= .pv (i64 (Ya s.parts)))
  (mb (ga (pa (Ba (fun _=>none) 8) nh) (na 1 [1,3,4,5])) qa ⟨VM [P,i64 s.first] (s.parts.length+1) 1 s.parts.length,[fp (Bl s.parts s.parts.length) 0 false]⟩):=by
  refine ya (Ip (g:=ga (pa (Ba (fun _=>none) 8) nh) (na 1 [1,3,4,5]))
   (fun i t=>∃ fl,i≤s.parts.length∧t=⟨VM [P,i64 s.first] (s.parts.length+1) (Ya (s.parts.drop i)) i,[fp (Bl s.parts i) fl false]⟩∧fl≤s.parts.length+1∧(i < s.parts.length∨s.parts.length=0→fl=s.parts.length+1∨s.parts.length=0))
   qa s.parts.length _ (by unfold qa;omega) ⟨0,Nat.le_refl _,by rw[List.drop_length];rfl,by omega,fun h=>by omega⟩ ?_) (fun r h=>h.2)
  rintro i t ⟨fl,hi,rfl,hfl,hfl2⟩
  cases i with
  |zero=>
   have h1:=Aa.lo
   have:fl=s.parts.length+1:=by rcases hfl2 (.inl (by omega)) with h | h <;> omega
   subst this
   have e1:decide (((0:Nat):Int) > 0)=false:=by decide
   generalize hQ:LQ _ _ _=Q
   simp -implicitDefEqProofs only[SX,sevalprocAttr,-List.reduceReplicate,nh,e1,VM]
   subst hQ
   exact⟨_,rfl,by simp[Tr.aa],by simp[Tr.aa]⟩
  |succ i=>
   have e1:decide (((i+1:Nat):Int) > 0)=true:=Fa (by omega)
   have t1:IntKind.i64.wrap (((i+1:Nat):Int) - 1)=(i:Int):=by rw[Ca (by omega)];omega
   have hg:[fp (Bl s.parts (i+1)) fl false][0]? =some (fp (Bl s.parts (i+1)) fl false):=rfl
   have a1:=CC hg (n:=s.parts.length+1) (fw _ _).symm hfl (i:=((i+1:Nat):Int)) rfl (by omega)
   have s1:=LD hg (n:=s.parts.length+1) (fw _ _).symm (k:=i+1) (by omega) (Ya (s.parts.drop (i+1)))
   rw[List.set_cons_zero,kP s.parts i (by omega)] at s1
   obtain⟨v,hv,hpt,_⟩:=hP.Td (i:=i) (by omega) []
   have a2:=hP.Kx hv
   have hpo:=Aa.parts s.parts[i] (List.getElem_mem (by omega))
   have hss:=Su v s.parts[i] hpt.is hpt.sz hpo.2
   have hd:s.parts.drop i=s.parts[i]::s.parts.drop (i+1):=List.drop_eq_getElem_cons (by omega)
   have hpd:Ya (s.parts.drop i)=Ya (s.parts.drop (i+1)) * Sc 0 s.parts[i]:=by rw[hd,Ya]
   have hle:=Np Aa.parts i
   have hpos:=Rh (ls:=s.parts.drop i) fun x hx=>Aa.parts x (List.mem_of_mem_drop hx)
   rw[hpd] at hle hpos
   generalize s.parts[i]=l at *
   have t3:IntKind.i64.wrap (Ya (s.parts.drop (i+1)) * Sc 0 l)=Ya (s.parts.drop (i+1)) * Sc 0 l:=Ca (by omega)
   have r0:∀ H (x y:PV),xa H false 1 (.pv (.rp [x,y] 0))=some (.pv x):=fun H x y=>rfl
   have r1:∀ H (x:PV),xa H false 1 (.pv (.rp [x] 0))=some (.pv x):=fun H x=>rfl
   have q0:∀ H (x y:PV),place H 0 (.pv (.rp [x,y] 0))=some (.pv (.rp [x,y] 0)):=fun H x y=>rfl
   have hcut:∀ l' fl',Oa (oa 1) [fp l' fl' false]=some [fp l' fl' false]:=fun l' fl'=>by simp[Oa,CI]
   have hz:(0 < 1)=True:=by simp
   have htk:∀ o:ba,[o].take 1=[o]:=fun o=>rfl
   generalize hQ:LQ _ _ _=Q
   simp -implicitDefEqProofs only[SP,WP,fa,sevalprocAttr,-List.reduceReplicate,nh,e1,t1,t3,a1,s1,a2,hss,r0,r1,q0,hcut,hz,htk,na,za,AV.cut,ta,VM]
   subst hQ
   exact⟨i,by omega,s.parts.length+1,by omega,by rw[hpd],by omega,fun _=> .inl rfl⟩
 obtain⟨r,h1,E,rfl,hE3,hE4⟩:=uc hloop
 have h1':mb (ga (pa (Ba (fun _=>none) 8) nh) (na 1 [1,3,4,5])) qa ⟨(((Tr.lf.set 5 (.pv (i64 s.parts.length))).set 4 (.pv (.int .i64 1))).set 3 (.own 0 (s.parts.length+1))).set 1 (.pv (.rp [P,i64 s.first] 0)),[fp (Bl s.parts s.parts.length) 0 false]⟩=_:=h1
 have hz0:ba.seq 1 false (Cj [PV.int .i64 0] (s.parts.length+1)) 0 false=fp (Bl s.parts s.parts.length) 0 false:=by
  rw[IE,fp]
  congr 2
  apply List.ext_getElem
  ·simp[Bl]
  ·intro j hj1 hj2
   simp at hj1
   simp only[Bl,List.getElem_replicate,List.getElem_map,List.getElem_range]
   rw[if_neg (by omega)]
 have t1:IntKind.i64.wrap ((s.parts.length:Int)+1)=((s.parts.length+1:Nat):Int):=Ca (by omega)
 have e2:(0≤((s.parts.length+1:Nat):Int))=True:=by simp;omega
 have e3:(((s.parts.length+1:Nat):Int)≤((s.parts.length+1:Nat):Int))=True:=by simp
 have e4:qb (s.parts.length+1) 8:=by unfold qb;omega
 have hg:[fp (Bl s.parts 0) (s.parts.length+1) false][0]? =some (fp (Bl s.parts 0) (s.parts.length+1) false):=rfl
 have a1:=CC hg (n:=s.parts.length+1) (fw _ _).symm (Nat.le_refl _) (i:=0) (k:=0) rfl (by omega)
 have s1:=LD hg (n:=s.parts.length+1) (fw _ _).symm (k:=0) (by omega) (Ya s.parts)
 rw[List.set_cons_zero,BK] at s1
 have hpv:=ZM (A:=[fp (Hj s.parts) (s.parts.length+1) false]) (id:=0) (n:=s.parts.length+1) rfl (by simp[Hj]) 5
 rw[if_neg (by simp)] at hpv
 have r0:∀ H (x y:PV),xa H false 1 (.pv (.rp [x,y] 0))=some (.pv x):=fun H x y=>rfl
 have q0:∀ H (x y:PV),place H 0 (.pv (.rp [x,y] 0))=some (.pv (.rp [x,y] 0)):=fun H x y=>rfl
 have hcut:∀ l' fl',Oa (oa 1) [fp l' fl' false]=some [fp l' fl' false]:=fun l' fl'=>by simp[Oa,CI]
 have hz:(0 < 1)=True:=by simp
 have htk:∀ o:ba,[o].take 1=[o]:=fun o=>rfl
 generalize s.parts.length+1=m at *
 simp -implicitDefEqProofs only[Lk,SP,WP,fa,sevalprocAttr,-List.reduceReplicate,ir,Gb,hP1,r0,q0,lP,t1,e2,e3,eq_true e4,hz0,hcut,hz,htk,na,za,AV.cut,h1',hE3,hE4,a1,s1,hpv,ta]
end Go.AM.B1
namespace Go.AM.B1
open Go.AM Go.AM.So
def Ep:List (List (Int×Int))→List Int→Int→Option Int
 |l::r,x::b,k=>if (pg x 0 l).2=true then Ep r b (k+(pg x 0 l).1 * Ya r) else none
 |_,_,k=>some k
def Sy (s:ic) (b:List Int):Option Int:=if b.length=s.parts.length then Ep s.parts b 0 else none
theorem PA {top x:Int}:∀ {l:List (Int×Int)} {last n:Int},Ma top last l=true→(pg x n l).2=true→n≤(pg x n l).1∧(pg x n l).1 < n+Sc 0 l
 | [],last,n,_,h=>by simp[pg] at h
 |p::l,last,n,hv,h=>by
  obtain⟨h1,h2,h3,h4,h5⟩:=ae hv
  have hs:=(sq h5).1
  rw[pg] at h ⊢
  rw[Sc,Uz]
  by_cases c1:x < p.1
  ·rw[if_pos c1] at h;cases h
  ·rw[if_neg c1] at h ⊢
   by_cases c2:x≤p.2
   ·rw[if_pos c2];simp only;omega
   ·rw[if_neg c2] at h ⊢
    have:=PA h5 h;omega
theorem WL {l:List (Int×Int)} (h:Ma 255 (-2) l=true):xx l=l:=by unfold xx;rw[if_pos h]
theorem wH (H:List ba) {sz k:Nat} {es:List PV} (hz:0 < sz) (hk:k≤es.length):yf H sz (.pv (.lit sz es)) (some (k:Int)) none=some (.pv (.lit sz (es.drop k))):=by
 simp only[yf,Option.getD_some,Option.getD_none]
 rw[if_pos ⟨hz,trivial,by omega,by omega,by omega⟩]
 simp
theorem HB (b:List Int) (k:Int):Ep [] b k=some k:=by cases b <;> rfl
abbrev sJ (row:List PV) (B S:PV) (n i k:Int):Tr:=(((((Tr.lf.set 26 (.pv (i64 i))).set 25 (.pv (i64 n))).set 24 (.pv S)).set 6 (.pv (i64 k))).set 2 (.pv (.rp row 0))).set 1 (.pv B)
structure Dq (B:PV) (bs:List Int):Prop where
 is:Ai 1 B (bs.map (PV.int .u8))
 sH:∀ b∈bs,0≤b∧b≤255
theorem Dq.Qb {B:PV} {bs:List Int} (h:Dq B bs) (H:List ba):Go.AM.Qb H 0 (.pv B)=some bs.length:=by
 rw[h.is.len];simp
theorem Dq.one {B:PV} {bs:List Int} (h:Dq B bs):(AV.pv B).one=true:=by
 rcases h.is with⟨h,_⟩ | h <;> rw[h] <;> rfl
theorem Dq.Td {B:PV} {bs:List Int} (h:Dq B bs) {i:Nat} (hi:i < bs.length) (H:List ba):wa H 1 (.pv B) (i:Int)=some (.pv (.rp [.int .u8 bs[i]] 0)):=by
 have hl:=h.is.lit (i:=i) (by simpa using hi)
 rw[hl]
 simp only[wa]
 rw[if_pos (by unfold Ea;simp;omega),Int.toNat_natCast,List.getElem?_map,List.getElem?_eq_getElem hi];rfl
theorem GD {e:PV} {s:ic} {P:PV} {ps:List PV} (h:qf e s P ps) {B:PV} {bs:List Int} (hB:Dq B bs) (Aa:Be s):
 (∀ k,Sy s bs=some k→Wh [e,B]=some (.yc [i64 k,.bool true]))∧(Sy s bs=none→Wh [e,B]=some (.yc [i64 0,.bool false])):=by
 obtain⟨b1,hb1,hb1'⟩:=Sk h
 have:=hb1'.2 Aa
 subst this
 have hst:=pF h Aa
 obtain⟨hP1,hP2⟩:=h.Yw
 have heq:=h.eq
 subst heq
 have hP:=h.parts
 have lP:=hP.Qb
 have lB:=hB.Qb
 have hB1:=hB.one
 have h8:=Aa.hi
 have hpr:=Aa.prod.2
 have r2:∀ H (x y:PV),xa H true 2 (.pv (.rp [x,y] 0))=some (.pv (.agg [x,y])):=fun H x y=>rfl
 have r0:∀ H (x y:PV),xa H false 1 (.pv (.rp [x,y] 0))=some (.pv x):=fun H x y=>rfl
 have r1:∀ H (x:PV),xa H false 1 (.pv (.rp [x] 0))=some (.pv x):=fun H x=>rfl
 have q0:∀ H (x y:PV),place H 0 (.pv (.rp [x,y] 0))=some (.pv (.rp [x,y] 0)):=fun H x y=>rfl
 by_cases hlen:bs.length=s.parts.length
 ·have hrk:Sy s bs=Ep s.parts bs 0:=by unfold Sy;rw[if_pos hlen]
  have hsl:∀ H,yf H 1 (.pv (.lit 1 ((Hj s.parts).map i64))) (some 1) none=some (.pv (.lit 1 (((Hj s.parts).map i64).drop 1))):=fun H=>wH H (k:=1) (by omega) (by simp[Hj])
  have hdl:(((Hj s.parts).map i64).drop 1).length=s.parts.length:=by simp[Hj]
  have hde:∀ i,i < s.parts.length→(((Hj s.parts).map i64).drop 1)[i]? =some (i64 (Ya (s.parts.drop (i+1)))):=by
   intro i hi
   rw[List.getElem?_drop,List.getElem?_map,Hj,List.getElem?_map,List.getElem?_range (by omega),Nat.add_comm 1 i];rfl
  generalize ((Hj s.parts).map i64).drop 1=S at *
  have hloop:Sd (fun r=>∃ E,(r=(.ret,⟨E,[]⟩)∧E.get 4= .pv (i64 0)∧E.get 5= .pv (.bool false)∧Ep s.parts bs 0=none)∨(∃ k,r=(.exit 0,⟨E,[]⟩)∧E.get 6= .pv (i64 k)∧Ep s.parts bs 0=some k))
   (mb (ga (pa (Ba (fun _=>none) 8) Qg) (na 0 [1,2,6,24,25,26])) qa ⟨sJ [P,i64 s.first] B (.lit 1 S) s.parts.length 0 0,[]⟩):=by
   refine ya (Kb (g:=ga (pa (Ba (fun _=>none) 8) Qg) (na 0 [1,2,6,24,25,26]))
    (fun i t=>∃ k,t=⟨sJ [P,i64 s.first] B (.lit 1 S) s.parts.length i k,[]⟩∧0≤k∧k+Ya (s.parts.drop i)≤Ya s.parts∧Ep s.parts bs 0=Ep (s.parts.drop i) (bs.drop i) k)
    s.parts.length (by unfold qa;omega) _ ⟨0,rfl,by omega,by simp,rfl⟩ ?_ ?_) (fun r h=>h.2)
   ·rintro i t hi ⟨k,rfl,hk0,hk1,hs⟩
    obtain⟨v,hv,hpt,_⟩:=hP.Td hi []
    have a2:=hP.Kx hv
    have hpo:=Aa.parts s.parts[i] (List.getElem_mem hi)
    have hib:i < bs.length:=by omega
    have a3:=hB.Td hib
    have hbr:=hB.sH bs[i] (List.getElem_mem hib)
    have hd:s.parts.drop i=s.parts[i]::s.parts.drop (i+1):=List.drop_eq_getElem_cons hi
    have hdb:bs.drop i=bs[i]::bs.drop (i+1):=List.drop_eq_getElem_cons hib
    have hrr:=tv v s.parts[i] hpt.is hpt.sz bs[i]
    rw[WL hpo.2] at hrr
    have hrb:=PA (x:=bs[i]) (n:=0) hpo.2
    rw[hd,Ya] at hk1
    rw[hd,hdb,Ep] at hs
    have hle:=Np Aa.parts (i+1)
    have hpos:=Rh (ls:=s.parts.drop (i+1)) fun x hx=>Aa.parts x (List.mem_of_mem_drop hx)
    have hsz:=mi hpo
    generalize s.parts[i]=l at *
    generalize bs[i]=x at *
    have e1:decide ((i:Int) < (s.parts.length:Int))=true:=Fa (by omega)
    have t2:=Za hi (by unfold maxLen;omega)
    have t3:IntKind.i64.wrap x=x:=Ca (by omega)
    have a1:∀ H,wa H 1 (.pv (.lit 1 S)) (i:Int)=some (.pv (.rp [i64 (Ya (s.parts.drop (i+1)))] 0)):=fun H=>by
     simp only[wa]
     rw[if_pos (by unfold Ea;simp;omega),Int.toNat_natCast,hde i hi];rfl
    obtain⟨⟨d,is⟩,hrk2⟩:∃ r,r=pg x 0 l:=⟨_,rfl⟩
    rw[← hrk2] at hrr hs hrb
    generalize hQ:LN _ _ i=Q
    cases is with
    |false=>
     simp only[Bool.false_eq_true,if_false] at hs
     simp -implicitDefEqProofs only[SX,sevalprocAttr,-List.reduceReplicate,Qg,e1,a1,a2,a3,r0,r1,q0,t3,hrr,sJ]
     subst hQ
     exact⟨_,.inl ⟨rfl,by simp[Tr.aa],by simp[Tr.aa],hs⟩⟩
    |true=>
     simp only[if_true] at hs
     have hb2:=hrb rfl
     simp only at hb2
     have hmul:d * Ya (s.parts.drop (i+1))+Ya (s.parts.drop (i+1))≤Ya (s.parts.drop (i+1)) * Sc 0 l:=by
      have h1:(d+1) * Ya (s.parts.drop (i+1))≤Sc 0 l * Ya (s.parts.drop (i+1)):=Int.mul_le_mul_of_nonneg_right (by omega) (by omega)
      rw[Int.add_mul,Int.one_mul,Int.mul_comm (Sc 0 l)] at h1
      exact h1
     have hm0:0≤d * Ya (s.parts.drop (i+1)):=Int.mul_nonneg (by omega) (by omega)
     have t4:IntKind.i64.wrap (d * Ya (s.parts.drop (i+1)))=d * Ya (s.parts.drop (i+1)):=Ca (by omega)
     have t5:IntKind.i64.wrap (k+d * Ya (s.parts.drop (i+1)))=k+d * Ya (s.parts.drop (i+1)):=Ca (by omega)
     simp -implicitDefEqProofs only[SX,sevalprocAttr,-List.reduceReplicate,Qg,e1,t2,t4,t5,a1,a2,a3,r0,r1,q0,t3,hrr,na,za,AV.cut,ta,sJ]
     subst hQ
     exact⟨_,rfl,by omega,by omega,hs⟩
   ·rintro t ⟨k,rfl,hk0,hk1,hs⟩
    rw[List.drop_length,HB] at hs
    have e1:decide ((s.parts.length:Int) < (s.parts.length:Int))=false:=Ja (by omega)
    generalize hQ:(fun r:Ex×St=>r.1.stop=true∧_)=Q
    simp -implicitDefEqProofs only[SX,sevalprocAttr,-List.reduceReplicate,Qg,e1,sJ]
    subst hQ
    exact⟨rfl,_,.inr ⟨k,rfl,by simp[Tr.aa],hs⟩⟩
  obtain⟨r,h1,E,h2⟩:=uc hloop
  have h1':mb (ga (pa (Ba (fun _=>none) 8) Qg) (na 0 [1,2,6,24,25,26])) qa ⟨(((((Tr.lf.set 26 (.pv (.int .i64 0))).set 25 (.pv (i64 s.parts.length))).set 24 (.pv (.lit 1 S))).set 6 (.pv (.int .i64 0))).set 2 (.pv (.rp [P,i64 s.first] 0))).set 1 (.pv B),[]⟩=some r:=h1
  have d1:((bs.length:Int) != (s.parts.length:Int))=false:=by rw[hlen];simp
  rw[hrk]
  rcases h2 with⟨rfl,h4,h5,hn⟩ | ⟨k,rfl,h6,hk⟩
  ·refine⟨fun k hk=>by (rw[hn] at hk;cases hk),fun _=> ?_⟩
   simp -implicitDefEqProofs only[Wh,SX,sevalprocAttr,-List.reduceReplicate,sm,Gb,hP1,hB1,r2,r0,q0,hb1,lP,lB,d1,hst,hsl,hdl,na,za,AV.cut,ta,h1',h4,h5]
  ·refine⟨fun k' hk'=> ?_,fun hn=>by (rw[hk] at hn;cases hn)⟩
   obtain rfl:k=k':=Option.some.inj (hk.symm.trans hk')
   simp -implicitDefEqProofs only[Wh,SX,sevalprocAttr,-List.reduceReplicate,sm,Gb,hP1,hB1,r2,r0,q0,hb1,lP,lB,d1,hst,hsl,hdl,na,za,AV.cut,ta,h1',h6]
 ·have d1:((bs.length:Int) != (s.parts.length:Int))=true:=by
   have:(bs.length:Int)≠(s.parts.length:Int):=by omega
   simp[this]
  have hrk:Sy s bs=none:=by unfold Sy;rw[if_neg hlen]
  refine⟨fun k hk=>by (rw[hrk] at hk;cases hk),fun _=> ?_⟩
  simp -implicitDefEqProofs only[Wh,SX,sevalprocAttr,-List.reduceReplicate,sm,Gb,hP1,hB1,r2,r0,q0,hb1,lP,lB,d1]
end Go.AM.B1
