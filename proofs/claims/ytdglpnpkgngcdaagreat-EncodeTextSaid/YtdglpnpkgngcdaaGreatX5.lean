/- What functions of the program compute. -/
import Derived.Test.YtdglpnpkgngcdaaGreatX4
set_option linter.unusedVariables false
set_option linter.unusedSimpArgs false
namespace Go.AM.B1
open Go.AM
def Rs (a:Int):List Int→Nat→Option Nat
 | [],_=>none
 |b::l,k=>if a=b then some k else Rs a l (k+1)
def jJ (l:List Int) (k:Nat):List (PV×PV):=(l.zipIdx k).map fun p=>(i64 p.1,i64 p.2)
theorem Fz (a:Int) (l:List Int) (k:Nat):jJ (a::l) k=(i64 a,i64 k)::jJ l (k+1):=rfl
theorem zG (a:Int):∀ (l:List Int) (k:Nat),jJ (l++[a]) k=jJ l k++[(i64 a,i64 (k+l.length:Nat))]
 | [],k=>by simp[jJ]
 |b::l,k=>by rw[List.cons_append,Fz,zG a l (k+1),Fz];simp;omega
theorem HM {a:Int}:∀ {l:List Int} {k i:Nat},Rs a l k=some i→k≤i
 |b::l,k,i,h=>by
  simp only[Rs] at h
  split at h
  ·injection h with h;omega
  ·have:=HM h;omega
theorem aK (a:Int):∀ (l:List Int) (k j:Nat),Ml (.one 1) (i64 a) (jJ l k) j=some ((Rs a l k).map fun i=>(j+(i - k),i64 i)):=by
 intro l
 induction l with
 |nil=>intro k j;rfl
 |cons b l ih=>
  intro k j
  have he:Fk (.one 1) (i64 a) (i64 b)=some (decide (a=b)):=by
   show (if IntKind.i64=IntKind.i64 then some (a==b) else none)=_
   rw[if_pos rfl]
   congr 1
  rw[Fz,Ml,he]
  simp only[Option.bind_some,Rs]
  by_cases h:a=b
  ·simp[h]
  ·rw[if_neg h,ih]
   simp only[h,decide_false,Bool.false_eq_true,if_false,Option.some.injEq]
   cases hi:Rs a l (k+1) with
   |none=>rfl
   |some i=>
    have:=HM hi
    simp only[Option.map_some,Option.some.injEq,Prod.mk.injEq,and_true]
    omega
theorem aD (a:Int):(Fk (.one 1) (i64 a) (i64 a)).isSome=true:=rfl
abbrev Xm (R0 R1:ba) (S:PV) (nl nr:Bool) (fr:Nat) (sets:List Al) (C:List Int) (n:Nat) (L M:ba) (O:List Int) (out:List PV) (no:Bool) (T:List ba):List ba:=
 Eh R0 R1 S nl nr fr sets C n (L::M:: .box [.pv .fa]:: .map (jJ O 0):: .tok 1 O.length false:: .box [.uq 12 no 1 out]:: .tok 1 out.length no::T)
abbrev Qw (q:Nat) (k:Int) (O:List Int) (gb:List Int) (x:Int):Tr:=
 (((((((((Tr.lf.set 32 (.pv (i64 x))).set 31 (.pv (Mh gb))).set 7 (.ptr q 0)).set 6 (.pv (i64 k))).set 5 (.ptr 11 0)).set 4 (.uq 10 false 1 (O.map i64))).set 3 (.mp 9)).set 2 (.ptr 8 0)).set 0 (.ptr 3 0))
def ni (x:Nat) (to:Int) (r:List Int×List Int):List Int×List Int:=
 if to < 0 then r else match Rs to r.1 0 with
  |some k=>(r.1,r.2.set x k)
  |none=>(r.1++[to],r.2.set x r.1.length)
section
variable (call:Xa) (R0 R1:ba) (S:PV) (nl nr:Bool) (fr:Nat) (sets:List Al) (C:List Int) (n:Nat) (L M:ba) (O:List Int) (out:List PV) (no:Bool) (J:List ba)
 (k:Int) (gb row:List Int) (x:Nat) (to:Int) (q:Nat) (hx:x < 256) (hto:gb[x]? =some to)
include hx hto
theorem GP (h:to < 0):
 ma (ta call ic) (fun s=>some (tidy [0,2,3,4,5,6,7,31,32] s)) ⟨Qw q k O gb x,Xm R0 R1 S nl nr fr sets C n L M O out no (J++[.box (Ja row)])⟩=
  some (.norm,⟨Qw q k O gb (x+1:Nat),Xm R0 R1 S nl nr fr sets C n L M O out no (J++[.box (Ja row)])⟩):=by
 have e1:decide ((x:Int) < 256)=true:=Ea (by omega)
 have e2:decide (to < 0)=true:=Ea (by omega)
 have hq:Ga (x:Int) 256:=by unfold Ga;omega
 have t1:((x:Int)).toNat=x:=by simp
 have t2:=Va (i:=x) (n:=256) hx (by unfold maxLen;omega)
 have ht:(gb.map i64)[x]? =some (i64 to):=by rw[List.getElem?_map,hto];rfl
 simp -implicitDefEqProofs only[SP,SA,SQ,sevalprocAttr,-List.reduceReplicate,ma,ic,e1,e2,eq_true hq,t1,t2,ht,wa,tidy,zc,Qw,Xm,Eh]
theorem uR (hq13:q=J.length+1+1+1+1+1+1+1+1+1+1+1+1+1) (hrow:row.length=256) (h:¬to < 0) {j:Nat} (hj:Rs to O 0=some j):
 ma (ta call ic) (fun s=>some (tidy [0,2,3,4,5,6,7,31,32] s)) ⟨Qw q k O gb x,Xm R0 R1 S nl nr fr sets C n L M O out no (J++[.box (Ja row)])⟩=
  some (.norm,⟨Qw q k O gb (x+1:Nat),Xm R0 R1 S nl nr fr sets C n L M O out no (J++[.box (Ja (row.set x j))])⟩):=by
 have e1:decide ((x:Int) < 256)=true:=Ea (by omega)
 have e2:decide (to < 0)=false:=Fa (by omega)
 have hq:Ga (x:Int) 256:=by unfold Ga;omega
 have t1:((x:Int)).toNat=x:=by simp
 have t2:=Va (i:=x) (n:=256) hx (by unfold maxLen;omega)
 have ht:(gb.map i64)[x]? =some (i64 to):=by rw[List.getElem?_map,hto];rfl
 have hf:=aK to O 0 0
 rw[hj] at hf
 simp only[Option.map_some] at hf
 have his:=aD to
 have hle:(x+1≤(Ja row).length)=True:=by rw[ib];exact eq_true (by omega)
 subst hq13
 simp -implicitDefEqProofs only[SP,SA,SQ,sevalprocAttr,-List.reduceReplicate,ma,ic,e1,e2,eq_true hq,t1,t2,ht,hf,eq_true his,hle,Li,Hn,Kn,wa,tidy,zc,Qw,Xm,Eh]
theorem LR (hq13:q=J.length+1+1+1+1+1+1+1+1+1+1+1+1+1) (hrow:row.length=256) (h:¬to < 0) (hj:Rs to O 0=none) (hO:O.length < 100):
 ma (ta call ic) (fun s=>some (tidy [0,2,3,4,5,6,7,31,32] s)) ⟨Qw q k O gb x,Xm R0 R1 S nl nr fr sets C n L M O out no (J++[.box (Ja row)])⟩=
  some (.norm,⟨Qw q k (O++[to]) gb (x+1:Nat),Xm R0 R1 S nl nr fr sets C n L M (O++[to]) out no (J++[.box (Ja (row.set x O.length))])⟩):=by
 have e1:decide ((x:Int) < 256)=true:=Ea (by omega)
 have e2:decide (to < 0)=false:=Fa (by omega)
 have hq:Ga (x:Int) 256:=by unfold Ga;omega
 have t1:((x:Int)).toNat=x:=by simp
 have t2:=Va (i:=x) (n:=256) hx (by unfold maxLen;omega)
 have ht:(gb.map i64)[x]? =some (i64 to):=by rw[List.getElem?_map,hto];rfl
 have hf:=aK to O 0 0
 rw[hj] at hf
 simp only[Option.map_none] at hf
 have his:=aD to
 have hle:(x+1≤(Ja row).length)=True:=by rw[ib];exact eq_true (by omega)
 have hlen:(O.map i64).length=O.length:=by simp
 have q1:mb (O.length+1) 8:=by unfold mb;omega
 have hp:=zG to O 0
 rw[Nat.zero_add] at hp
 have hlen2:(O++[to]).length=O.length+1:=by simp
 have hmap:(O++[to]).map i64=O.map i64++[i64 to]:=by simp
 subst hq13
 unfold Qw Xm
 rw[hp,hlen2,hmap]
 simp -implicitDefEqProofs only[SP,SA,SQ,sevalprocAttr,-List.reduceReplicate,ma,ic,e1,e2,eq_true hq,t1,t2,ht,hf,eq_true his,hle,hlen,eq_true q1,Li,Hn,Kn,wa,tidy,zc,Eh,Qh,AV.aC,AV.Fo]
end
end Go.AM.B1
namespace Go.AM.B1
open Go.AM
def Mu (n:Nat) (O:List Int):Prop:=O.Nodup∧∀ o∈O,0≤o∧o < (n:Int)
theorem Mz:∀ (n:Nat) (O:List Int),O.Nodup→(∀ o∈O,0≤o∧o < (n:Int))→O.length≤n
 |0,O,_,h=>by
  cases O with
  |nil=>simp
  |cons a O=>have:=h a (by simp);omega
 |n+1,O,hd,h=>by
  have ih:=Mz n (O.erase n) (hd.erase _) (fun o ho=>by
   have h1:=h o (List.mem_of_mem_erase ho)
   have h2:o≠n:=(hd.mem_erase_iff.1 ho).1
   omega)
  rw[List.length_erase] at ih
  split at ih <;> omega
theorem Mu.len {n:Nat} {O:List Int} (h:Mu n O):O.length≤n:=Mz n O h.1 h.2
theorem gA {a:Int}:∀ {l:List Int} {k:Nat},Rs a l k=none→a ∉ l
 | [],_,_=>by simp
 |b::l,k,h=>by
  simp only[Rs] at h
  split at h
  ·cases h
  ·next hne=>simp only[List.mem_cons,not_or];exact⟨hne,gA h⟩
def Ad (gb:List Int):List Nat→List Int×List Int→List Int×List Int
 | [],r=>r
 |x::xs,r=>Ad gb xs (ni x (gb.getD x 0) r)
theorem HR {n:Nat} {x:Nat} {to:Int} {r:List Int×List Int} (hto:to < n) (h:Mu n r.1):Mu n (ni x to r).1∧(ni x to r).2.length=r.2.length∧∃ t,(ni x to r).1=r.1++t:=by
 unfold ni
 by_cases h0:to < 0
 ·rw[if_pos h0];exact⟨h,rfl,[],by simp⟩
 ·rw[if_neg h0]
  cases hi:Rs to r.1 0 with
  |some k=>exact⟨h,by simp,[],by simp⟩
  |none=>
   have hn:=gA hi
   refine⟨⟨?_,?_⟩,by simp,[to],rfl⟩
   ·simp only[List.nodup_append,h.1,true_and]
    refine⟨by simp,?_⟩
    intro a ha b hb
    simp at hb;subst hb
    intro e;subst e;exact hn ha
   ·intro o ho
    rcases List.mem_append.1 ho with h1 | h1
    ·exact h.2 o h1
    ·simp at h1;subst h1;omega
section
variable (call:Xa) (R0 R1:ba) (S:PV) (nl nr:Bool) (fr:Nat) (sets:List Al) (C:List Int) (n:Nat) (L M:ba)
theorem NK (O:List Int) (out:List PV) (no:Bool) (J:List ba) (k:Int) (gb:List Int) (q:Nat) (hq13:q=J.length+1+1+1+1+1+1+1+1+1+1+1+1+1)
 (hO:Mu n O) (hn:n≤64) (hrow:gb.length=256) (hto:∀ to∈gb,to < n):
 fb (ma (ta call ic) (fun s=>some (tidy [0,2,3,4,5,6,7,31,32] s))) qa ⟨Qw q k O gb 0,Xm R0 R1 S nl nr fr sets C n L M O out no (J++[.box (Ja gb)])⟩=
  some (.exit 2,⟨(Qw q k (Ad gb (List.range 256) (O,gb)).1 gb 256).set 33 (.pv (.bool false)),
   Xm R0 R1 S nl nr fr sets C n L M (Ad gb (List.range 256) (O,gb)).1 out no (J++[.box (Ja (Ad gb (List.range 256) (O,gb)).2)])⟩)∧
  Mu n (Ad gb (List.range 256) (O,gb)).1∧(Ad gb (List.range 256) (O,gb)).2.length=256∧∃ t,(Ad gb (List.range 256) (O,gb)).1=O++t:=by
 generalize hxs:List.range 256=xs
 have key:=Ck (g:=ma (ta call ic) (fun s=>some (tidy [0,2,3,4,5,6,7,31,32] s)))
  (fun x t=>∃ r,Mu n r.1∧r.2.length=256∧(∃ t,r.1=O++t)∧t=⟨Qw q k r.1 gb x,Xm R0 R1 S nl nr fr sets C n L M r.1 out no (J++[.box (Ja r.2)])⟩∧Ad gb xs (O,gb)=Ad gb (xs.drop x) r)
  (fun ex t=>ex= .exit 2∧t=⟨(Qw q k (Ad gb xs (O,gb)).1 gb 256).set 33 (.pv (.bool false)),Xm R0 R1 S nl nr fr sets C n L M (Ad gb xs (O,gb)).1 out no (J++[.box (Ja (Ad gb xs (O,gb)).2)])⟩∧
   Mu n (Ad gb xs (O,gb)).1∧(Ad gb xs (O,gb)).2.length=256∧∃ t,(Ad gb xs (O,gb)).1=O++t)
  qa 256 0 ⟨Qw q k O gb (0:Nat),Xm R0 R1 S nl nr fr sets C n L M O out no (J++[.box (Ja gb)])⟩ (by unfold qa;omega) (by omega) ⟨(O,gb),hO,hrow,⟨[],by simp⟩,rfl,rfl⟩ ?_ ?_
 ·obtain⟨ex,t,h,_,rfl,rfl,q1,q2⟩:=key
  exact⟨h,q1,q2⟩
 ·rintro x hx t ⟨⟨O',row⟩,hO',hr',⟨tl,htl⟩,rfl,hl⟩
  have hd:=bq hx
  rw[hxs] at hd
  obtain⟨to,ht⟩:∃ to,gb[x]? =some to:=⟨gb[x],by simp[hrow,hx]⟩
  have hgd:gb.getD x 0=to:=by simp[List.getD_eq_getElem?_getD,ht]
  have hlt:=hto to (List.mem_of_getElem? ht)
  rw[hd,Ad,hgd] at hl
  have Aa:=HR (x:=x) (r:=(O',row)) hlt hO'
  refine .inl ⟨_,?_,ni x to (O',row),Aa.1,by rw[Aa.2.1];exact hr',?_,rfl,hl⟩
  ·by_cases h0:to < 0
   ·have e:ni x to (O',row)=(O',row):=by simp[ni,h0]
    rw[e]
    exact GP call R0 R1 S nl nr fr sets C n L M O' out no J k gb row x to q hx ht h0
   ·have hlen:=hO'.len
    cases hi:Rs to O' 0 with
    |some j=>
     have e:ni x to (O',row)=(O',row.set x j):=by simp[ni,h0,hi]
     rw[e]
     exact uR call R0 R1 S nl nr fr sets C n L M O' out no J k gb row x to q hx ht hq13 hr' h0 hi
    |none=>
     have e:ni x to (O',row)=(O'++[to],row.set x O'.length):=by simp[ni,h0,hi]
     rw[e]
     exact LR call R0 R1 S nl nr fr sets C n L M O' out no J k gb row x to q hx ht hq13 hr' h0 hi (by simp only at hlen;omega)
  ·obtain⟨t2,h2⟩:=Aa.2.2
   exact⟨tl++t2,by rw[h2,←List.append_assoc,←htl]⟩
 ·rintro t ⟨⟨O',row⟩,hO',hr',htl,rfl,hl⟩
  rw[List.drop_eq_nil_of_le (by rw[← hxs,List.length_range];exact Nat.le_refl _),Ad] at hl
  rw[hl]
  refine⟨.exit 2,_,?_,rfl,rfl,rfl,hO',hr',htl⟩
  have e1:decide (((256:Nat):Int) < 256)=false:=by decide
  simp -implicitDefEqProofs only[SP,SA,SQ,sevalprocAttr,-List.reduceReplicate,ma,ic,e1,Qw]
abbrev CA (k:Int) (O:List Int):Tr:=
 ((((((Tr.lf.set 6 (.pv (i64 k))).set 5 (.ptr 11 0)).set 4 (.uq 10 false 1 (O.map i64))).set 3 (.mp 9)).set 2 (.ptr 8 0)).set 0 (.ptr 3 0))
def Wf (C:List Int) (o:Int) (O:List Int):List Int×List Int:=Ad (Ua C o.toNat) (List.range 256) (O,Ua C o.toNat)
theorem BL (O:List Int) (out:List PV) (no:Bool) (J:List ba) (k:Nat) (o:Int)
 (hC:C.length=n * 256) (cC:∀ c∈C,c < n) (hfr:fr≤n * 256) (hO:Mu n O) (hn:n≤64) (hk:O[k]? =some o) (hout:out.length=k):
 ma (ta call Uc) (fun s=>some (tidy [0,2,3,4,5,6] s)) ⟨CA k O,Xm R0 R1 S nl nr fr sets C n L M O out no J⟩=
  some (.norm,⟨CA (k+1:Nat) (Wf C o O).1,Xm R0 R1 S nl nr fr sets C n L M (Wf C o O).1 (out++[Wd (Ef (Wf C o O).2)]) false (J++[.box (Ja (Wf C o O).2)])⟩)∧
  Mu n (Wf C o O).1∧∃ t,(Wf C o O).1=O++t:=by
 have hom:=hO.2 o (List.mem_of_getElem? hk)
 have hkl:=(List.getElem?_eq_some_iff.1 hk).1
 have hOl:=hO.len
 have hoi:o.toNat < n:=by omega
 have hr0:=uh hC hoi
 obtain⟨hin,g1,g2,g3⟩:=NK call R0 R1 S nl nr fr sets C n L M O out no J k (Ua C o.toNat) _ rfl hO hn hr0 (fun to h=>cC to (List.mem_of_mem_drop (List.mem_of_mem_take h)))
 refine⟨?_,g1,g3⟩
 unfold Wf
 generalize Ad (Ua C o.toNat) (List.range 256) (O,Ua C o.toNat)=r at *
 obtain⟨O',row'⟩:=r
 simp only at g1 g2 g3 hin
 have hed:=NO row' g2
 have hlen:(O.map i64).length=O.length:=by simp
 have e1:decide ((k:Int) < (O.length:Int))=true:=Ea (by omega)
 have t1:((k:Int)).toNat=k:=by simp
 have hq1:Ga (k:Int) O.length:=by unfold Ga;omega
 have hg:(O.map i64)[k]? =some (i64 o):=by rw[List.getElem?_map,hk];rfl
 have hq3:Ga o n:=by unfold Ga;omega
 have w2:Ih 256 n fr (Ja C).length:=by rw[ib];unfold Ih;omega
 have w4:((Ja C).length=n * 256)=True:=by rw[ib];exact eq_true hC
 have w6:(o.toNat * 256+256≤(Ja C).length)=True:=by rw[ib];exact eq_true (by omega)
 have p1:=nD C o.toNat
 have t2:=Va (i:=k) (n:=64) (by omega) (by unfold maxLen;omega)
 have h9:((Ua C o.toNat).map i64).map AV.pv=Ja (Ua C o.toNat):=(vt _).symm
 have hz:=sW
 have p5:(256≤(Ja (List.replicate 256 0)).length)=True:=by rw[ib,List.length_replicate];exact eq_true (Nat.le_refl _)
 have p6:na (Ja (List.replicate 256 0)) 0 (Ja (Ua C o.toNat))=Ja (Ua C o.toNat):=by
  have:=Tx (Ja (Ua C o.toNat)) (Ja (List.replicate 256 0)) [] (by rw[ib,ib,hr0,List.length_replicate])
  rw[List.nil_append,List.nil_append] at this;exact this
 generalize hzs:List.replicate 256 (0:Int)=zs at *
 generalize Ua C o.toNat=gb at *
 have r0:((Ja gb).length=256)=True:=by rw[ib,hr0];exact eq_self _
 have r1:(256≤(Ja gb).length)=True:=by rw[ib,hr0];exact eq_true (Nat.le_refl _)
 have r2:List.take 256 (Ja gb)=Ja gb:=List.take_of_length_le (by rw[ib,hr0];exact Nat.le_refl _)
 have r3:=Qs gb
 have r5:=gD gb
 have s1:(256≤(Ja row').length)=True:=by rw[ib,g2];exact eq_true (Nat.le_refl _)
 have s2:List.take 256 (Ja row')=Ja row':=List.take_of_length_le (by rw[ib,g2];exact Nat.le_refl _)
 have s3:=Qs row'
 have q1:mb (out.length+1) 24:=by unfold mb;omega
 have hlen2:(out++[Wd (Ef row')]).length=out.length+1:=by simp
 unfold Xm
 rw[hlen2]
 have hcs:(∃ l,Wd (Ef row')= .lit 3 l)∨Wd (Ef row')= .fa:=by unfold Wd;split;exact .inr rfl;exact .inl ⟨_,rfl⟩
 generalize Wd (Ef row')=ed at *
 simp only[Qw,Xm,Eh,tidy,zc] at hin
 simp -implicitDefEqProofs only[SP,SA,SQ,sevalprocAttr,-List.reduceReplicate,ma,Uc,hlen,e1,eq_true hq1,eq_true hq3,t1,hg,eq_true w2,w4,w6,p1,h9,hz,p5,p6,r0,r1,r2,r3,r5,Hn,Kn,wa,gp,tidy,zc,CA,Eh]
 rw[hin]
 rcases hcs with⟨l,rfl⟩ | rfl <;>
 simp -implicitDefEqProofs only[SP,SA,SQ,sevalprocAttr,-List.reduceReplicate,t2,s1,s2,s3,hed,jg,Ac,eq_true q1,Hn,Kn,wa,tidy,zc,CA,Eh,Qh,AV.aC,AV.Fo]
def Ti (C:List Int):Nat→List Int×List (List ef)→List Int×List (List ef)
 |0,r=>r
 |f+1,r=>match r.1[r.2.length]? with
  |none=>r
  |some o=>Ti C f ((Wf C o r.1).1,r.2++[Ef (Wf C o r.1).2])
theorem Rp {C:List Int} {f:Nat} {r:List Int×List (List ef)} (h:r.1[r.2.length]? =none):Ti C f r=r:=by
 cases f with
 |zero=>rfl
 |succ f=>rw[Ti,h]
theorem Vq {C:List Int} {f:Nat} {r:List Int×List (List ef)} {o:Int} (h:r.1[r.2.length]? =some o):Ti C (f+1) r=Ti C f ((Wf C o r.1).1,r.2++[Ef (Wf C o r.1).2]):=by
 rw[Ti,h]
def Pm (C:List Int):List (List ef):=(Ti C 64 ([0],[])).2
def Yk (l:List (List ef)):PV:= .lit 1 (l.map Wd)
theorem qG (O:List Int) (out:List PV) (no:Bool) (J:List ba) (k:Nat) (hk:k=O.length):
 ma (ta call Uc) (fun s=>some (tidy [0,2,3,4,5,6] s)) ⟨CA k O,Xm R0 R1 S nl nr fr sets C n L M O out no J⟩=
  some (.exit 0,⟨((((CA k O).set 15 (.pv (i64 k))).set 16 (.uq 10 false 1 (O.map i64))).set 17 (.pv (i64 O.length))).set 18 (.pv (.bool false)),Xm R0 R1 S nl nr fr sets C n L M O out no J⟩):=by
 have hlen:(O.map i64).length=O.length:=by simp
 have e1:decide ((k:Int) < (O.length:Int))=false:=Fa (by omega)
 simp -implicitDefEqProofs only[SP,SA,SQ,sevalprocAttr,-List.reduceReplicate,ma,Uc,hlen,e1,CA,Xm,Eh]
theorem YO (hC:C.length=n * 256) (cC:∀ c∈C,c < n) (hfr:fr≤n * 256) (hn:n≤64) (h0:0 < n):
 ∃ O J k,fb (ma (ta call Uc) (fun s=>some (tidy [0,2,3,4,5,6] s))) qa ⟨CA 0 [0],Xm R0 R1 S nl nr fr sets C n L M [0] [] true []⟩=
  some (.exit 0,⟨((((CA k O).set 15 (.pv (i64 k))).set 16 (.uq 10 false 1 (O.map i64))).set 17 (.pv (i64 O.length))).set 18 (.pv (.bool false)),Xm R0 R1 S nl nr fr sets C n L M O ((Pm C).map Wd) false J⟩):=by
 have key:=Ck (g:=ma (ta call Uc) (fun s=>some (tidy [0,2,3,4,5,6] s)))
  (fun k t=>∃ (O:List Int) (out:List (List ef)) (J:List ba),Mu n O∧out.length=k∧k≤O.length∧0 < O.length∧t=⟨CA k O,Xm R0 R1 S nl nr fr sets C n L M O (out.map Wd) (k==0) J⟩∧Ti C 64 ([0],[])=Ti C (64 - k) (O,out))
  (fun ex t=>∃ (O:List Int) (J:List ba) (k:Nat),ex= .exit 0∧t=⟨((((CA k O).set 15 (.pv (i64 k))).set 16 (.uq 10 false 1 (O.map i64))).set 17 (.pv (i64 O.length))).set 18 (.pv (.bool false)),Xm R0 R1 S nl nr fr sets C n L M O ((Pm C).map Wd) false J⟩)
  qa 64 0 ⟨CA (0:Nat) [0],Xm R0 R1 S nl nr fr sets C n L M [0] [] true []⟩ (by unfold qa;omega) (by omega)
   ⟨[0],[],[],⟨by simp,by intro o ho;simp at ho;omega⟩,rfl,by simp,by simp,rfl,rfl⟩ ?_ ?_
 ·obtain⟨ex,t,h,_,O,J,k,rfl,rfl⟩:=key
  exact⟨O,J,k,h⟩
 ·rintro k hk t ⟨O,out,J,hO,hout,hkO,hO0,rfl,hl⟩
  by_cases hlt:k < O.length
  ·obtain⟨o,ho⟩:∃ o,O[k]? =some o:=⟨O[k],by simp[hlt]⟩
   obtain⟨g1,g2,t,g3⟩:=BL call R0 R1 S nl nr fr sets C n L M O (out.map Wd) (k==0) J k o hC cC hfr hO hn ho (by simpa using hout)
   rw[show 64 - k=(64 - (k+1))+1 by omega,Vq (r:=(O,out)) (o:=o) (by show O[out.length]? =_;rw[hout];exact ho)] at hl
   refine .inl ⟨_,g1,_,out++[Ef (Wf C o O).2],J++[.box (Ja (Wf C o O).2)],g2,by simp[hout],?_,?_,?_,hl⟩
   ·rw[g3];simp;omega
   ·rw[g3];simp;omega
   ·have:(k+1==0)=false:=rfl
    rw[this];simp
  ·have hke:k=O.length:=by omega
   rw[Rp (r:=(O,out)) (by show O[out.length]? =none;rw[hout,hke];simp)] at hl
   refine .inr ⟨.exit 0,_,qG call R0 R1 S nl nr fr sets C n L M O _ _ J k hke,rfl,O,J,k,rfl,?_⟩
   have:(k==0)=false:=by simp;omega
   rw[this,Pm,hl]
 ·rintro t ⟨O,out,J,hO,hout,hkO,hO0,rfl,hl⟩
  have hke:64=O.length:=by have:=hO.len;omega
  rw[Rp (r:=(O,out)) (by show O[out.length]? =none;rw[hout,hke];simp)] at hl
  refine⟨.exit 0,_,qG call R0 R1 S nl nr fr sets C n L M O _ _ J 64 hke,rfl,O,J,64,rfl,?_⟩
  have:((64:Nat)==0)=false:=rfl
  rw[this,Pm,hl]
theorem PR (hC:C.length=n * 256) (cC:∀ c∈C,c < n) (hfr:fr≤n * 256) (hn:n≤64) (h0:0 < n):
 ∃ O J,og call Hi [.ptr 3 0] (Eh R0 R1 S nl nr fr sets C n [L,M])=
  some (.agg [.uq 12 false 1 ((Pm C).map Wd)],Eh R0 R1 S nl nr fr sets C n (L::M:: .box [.uq 12 false 1 ((Pm C).map Wd)]:: .map (jJ O 0):: .tok 1 O.length false:: .box [.uq 12 false 1 ((Pm C).map Wd)]:: .tok 1 ((Pm C).map Wd).length false::J)):=by
 obtain⟨O,J,k,hl⟩:=YO call R0 R1 S nl nr fr sets C n L M hC cC hfr hn h0
 refine⟨O,J,?_⟩
 generalize (Pm C).map Wd=out at *
 have hl':fb (ma (ta call Uc) (fun s=>some ⟨((((((Tr.lf.set 6 (s.env.get 6)).set 5 (s.env.get 5)).set 4 (s.env.get 4)).set 3 (s.env.get 3)).set 2 (s.env.get 2)).set 0 (s.env.get 0)),s.H⟩)) qa
  ⟨((((((Tr.lf.set 6 (.pv (.int .i64 0))).set 5 (.ptr 11 0)).set 4 (.uq 10 false 1 [.int .i64 0])).set 3 (.mp 9)).set 2 (.ptr 8 0)).set 0 (.ptr 3 0)),[R0,R1,.map (IB sets 0),.box [.pv S,.mp 2,.uq 4 nl 2 (sets.map Hh),.own 5 n],.tok 2 sets.length nl,.seq 256 true (Ja C) fr nr,L,M,.box [.pv .fa],.map [(.int .i64 0,.int .i64 0)],.tok 1 1 false,.box [.uq 12 true 1 []],.tok 1 0 true]⟩=_:=hl
 simp only[CA,Xm,Eh] at hl'
 simp -implicitDefEqProofs only[SP,SA,SQ,sevalprocAttr,-List.reduceReplicate,Hi,qe,gp,tidy,zc,Ml,Fk,sr,Option.isSome_some,Qh,AV.aC,AV.Fo,Eh]
 rw[hl']
 simp -implicitDefEqProofs only[SP,SA,SQ,sevalprocAttr,-List.reduceReplicate,Eh]
end
end Go.AM.B1
namespace Go.AM.B1
open Go.AM
def aq (n:Nat):Int:=IntKind.u32.wrap (IntKind.u32.wrap (1 * 2 ^ min n IntKind.u32.bits) - 1)
theorem KD (n:Nat):IntKind.u32.wrap (IntKind.u32.wrap (1 * 2 ^ min n IntKind.u32.bits) - 1)=aq n:=rfl
theorem HC {n:Nat} (h:n≤32):aq n=((2 ^ n - 1:Nat):Int):=by
 have:∀ n:Fin 33,aq n.1=((2 ^ n.1 - 1:Nat):Int):=by decide
 exact this ⟨n,by omega⟩
theorem bN {a:Al}:∀ {l:List Al} {k i:Nat},ql a l k=some i→i < k+l.length
 |b::l,k,i,h=>by
  simp only[ql] at h
  split at h
  ·injection h with h;simp;omega
  ·have:=bN h;simp;omega
theorem pR {ss:List mc} {a:Al} {x:Int} {sets:List Al} {r:List Al×Int} (h:vg ss a x sets=some r):r.2 < r.1.length:=by
 unfold vg at h
 split at h
 ·injection h with h;subst h;simp;omega
 ·split at h
  ·injection h with h;subst h;simp;omega
  ·split at h
   ·next k hk=>injection h with h;subst h;have:=bN hk;simp at this;simp;omega
   ·split at h
    ·injection h with h;subst h;simp;omega
    ·cases h
theorem UM {ss:List mc} {a:Al}:∀ (xs:List Nat) (r r':List Al×List Int),r.1.length≤64→(∀ v∈r.2,v < r.1.length)→rk ss a xs r=some r'→∀ v∈r'.2,v < r'.1.length
 | [],r,r',_,h,e=>by injection e with e;subst e;exact h
 |x::xs,r,r',hl,h,e=>by
  cases hst:vg ss a x r.1 with
  |none=>rw[Wr hst] at e;cases e
  |some p=>
   rw[Ys hst] at e
   have hg:=VA hst hl
   refine UM xs (p.1,r.2.set x p.2) r' hg.1 ?_ e
   intro v hv
   obtain⟨t,ht⟩:=hg.2
   rcases List.mem_or_eq_of_mem_set hv with h1 | h1
   ·have h2:=h v h1
    have:r.1.length≤p.1.length:=by rw[ht];simp
    simp only;omega
   ·rw[h1];exact pR hst
theorem SJ {ss:List mc} (hw:ss.length≤32):∀ (k:Nat) (r r':List Al×List (List Int)),Wl ss r.1→(∀ l∈r.2,∀ v∈l,v < r.1.length)→ug ss k r=some r'→(∀ l∈r'.2,∀ v∈l,v < r'.1.length)∧∃ t,r'.1=r.1++t
 |0,r,r',_,h,e=>by injection e with e;subst e;exact⟨h,[],by simp⟩
 |k+1,r,r',Aa,h,e=>by
  cases ha:r.1[r.2.length]? with
  |none=>rw[Yr ha] at e;injection e with e;subst e;exact⟨h,[],by simp⟩
  |some a=>
   cases hr:rk ss a (List.range 256) (r.1,gb) with
   |none=>rw[ru ha hr] at e;cases e
   |some p=>
    rw[Gt ha hr] at e
    obtain⟨g1,⟨t,g2⟩,g3⟩:=cu hw (List.range 256) (r.1,gb) p Aa ha hr
    have hpos:0 < r.1.length:=by have:=(List.getElem?_eq_some_iff.1 ha).1;omega
    have g4:=UM (List.range 256) (r.1,gb) p Aa.1 (by
     intro v hv
     have:v=0:=List.eq_of_mem_replicate hv
     simp only;omega) hr
    obtain⟨k1,t2,k2⟩:=SJ hw k (p.1,r.2++[p.2]) r' g1 (by
     intro l hl v hv
     rcases List.mem_append.1 hl with h1 | h1
     ·have:=h l h1 v hv
      simp only[g2,List.length_append] at this ⊢;omega
     ·simp at h1;subst h1;exact g4 v hv) e
    exact⟨k1,t++t2,by rw[k2,g2,List.append_assoc]⟩
theorem oA:∀ (rs:List (List Int)),Ja rs.flatten=rs.flatMap Ja
 | []=>rfl
 |r::rs=>by
  have:=oA rs
  rw[List.flatten_cons,wD,List.flatMap_cons,this]
def tg (ss:List mc):List Al:=[(0,aq ss.length)]
theorem Ry {ss:List mc} (hw:ss.length≤32) (hne:∀ s∈ss,0 < s.parts.length):Wl ss (tg ss):=by
 refine⟨by simp[tg],?_⟩
 intro k a ha
 match k,ha with
 |0,ha=>
  simp only[tg,List.getElem?_cons_zero,Option.some.injEq] at ha
  subst ha
  refine⟨by simp,2 ^ ss.length - 1,HC hw,?_,?_⟩
  ·have:2 ^ ss.length≤2 ^ 32:=Nat.pow_le_pow_right (by decide) hw
   omega
  ·intro i s hs _
   exact hne s (List.mem_of_getElem? hs)
 |k+1,ha=>simp[tg] at ha
section
variable (R0 R1:ba) (S:PV) (ss:List mc)
 (h0:oa 7 R0=some R0) (h1:oa 7 R1=some R1) (g0:oa 6 R0=some R0) (g1:oa 6 R1=some R1)
 (hS:Th 2 S (ss.map De)) (hw:ss.length≤32) (hsz:∀ s∈ss,∀ l∈s.parts,l.length * 16≤140737488355328) (hne:∀ s∈ss,0 < s.parts.length)
include h0 h1 g0 g1 hS hw hsz hne
theorem yK:
 (∀ r,ug ss 64 (tg ss,[])=some r→∃ nl',og (Ca Da 7) Zf [.ptr 3 0] (oj R0 R1 S true [] (Hg []) 0 [])=some (.pv (.bool true),oj R0 R1 S nl' r.1 (Hg r.2) r.2.length [])∧Wl ss r.1∧r.2.length=r.1.length∧∀ r'∈r.2,r'.length=256)∧
 (ug ss 64 (tg ss,[])=none→∃ H,og (Ca Da 7) Zf [.ptr 3 0] (oj R0 R1 S true [] (Hg []) 0 [])=some (.pv (.bool false),H)∧H[0]? =some R0):=by
 have hloop:=rP R0 R1 S false (tg ss) ss h0 h1 g0 g1 hS hw hsz (Ry hw hne) (by simp[tg])
 have ls:=hS.len
 simp only[List.length_map] at ls
 have hmet:og (Ca Da 6) Ud [.ptr 3 0,.pv (.agg [.int .i64 0,.int .u32 (aq ss.length)])] [R0,R1,.map (IB [] 0),.box [.pv S,.mp 2,.uq 4 true 2 [],.own 5 0],.tok 2 0 true,.seq 256 true [] 0 true]=some (.pv (.oc [.int .i64 0,.bool true]),oj R0 R1 S false [(0,aq ss.length)] (Hg []) 0 []):=
  VM (Ca Da 6) R0 R1 S true [] (Hg []) 0 [] (0,aq ss.length) rfl (by simp)
 have n0:¬((ss.length:Int) < 0):=by omega
 have t1:((ss.length:Int)).toNat=ss.length:=by simp
 have e1:((ss.length:Int) < 0)=False:=eq_false n0
 have q5:=Mv 6 6 []
 simp only[List.flatMap_nil] at q5
 simp only[oj,Hg,List.flatMap_nil,List.isEmpty_nil] at hmet
 unfold oj Hg
 constructor
 ·intro r hr
  obtain⟨E,nl',hl,k1,k2,k3⟩:=hloop.1 r hr
  refine⟨nl',?_,k1,k2,k3⟩
  simp -implicitDefEqProofs only[SP,SA,SQ,sevalprocAttr,-List.reduceReplicate,Zf,ls,e1,t1,KD,Da,List.flatMap_nil,hmet,Cb,ga,za,dm,fm,Yl,Ct,Ha,AV.cut,Ac,h0,h1,g0,g1,q5,oj]
  have hl':fb (ma (ta (Ca Da 7) wb) (ga 6 [0,3])) qa ⟨(Tr.lf.set 3 (.pv (.int .i64 0))).set 0 (.ptr 3 0),[R0,R1,.map (IB [(0,aq ss.length)] 0),.box [.pv S,.mp 2,.uq 4 false 2 [Hh (0,aq ss.length)],.own 5 0],.tok 2 1 false,.seq 256 true [] 0 true]⟩=_:=hl
  rw[hl']
  simp -implicitDefEqProofs only[SP,SA,SQ,sevalprocAttr,-List.reduceReplicate,oj,Hg]
 ·intro hr
  obtain⟨t,hl,k2,k3⟩:=Fq (hloop.2 hr)
  refine⟨t.H,?_,k3⟩
  simp -implicitDefEqProofs only[SP,SA,SQ,sevalprocAttr,-List.reduceReplicate,Zf,ls,e1,t1,KD,Da,List.flatMap_nil,hmet,Cb,ga,za,dm,fm,Yl,Ct,Ha,AV.cut,Ac,h0,h1,g0,g1,q5,oj]
  have hl':fb (ma (ta (Ca Da 7) wb) (ga 6 [0,3])) qa ⟨(Tr.lf.set 3 (.pv (.int .i64 0))).set 0 (.ptr 3 0),[R0,R1,.map (IB [(0,aq ss.length)] 0),.box [.pv S,.mp 2,.uq 4 false 2 [Hh (0,aq ss.length)],.own 5 0],.tok 2 1 false,.seq 256 true [] 0 true]⟩=_:=hl
  rw[hl']
  simp -implicitDefEqProofs only[SP,SA,SQ,sevalprocAttr,-List.reduceReplicate,k2]
end
def Pg (ss:List mc):Option (List (List ef)):=
 (ug ss 64 (tg ss,[])).map fun r=>Pm (Fe r.2.length r.2.flatten).C
section
variable (S0 S:PV) (ss:List mc) (hS0:S0= .fa∨∃ l,S0= .lit 2 l) {y:Bool} {a b e:Int}
include hS0
theorem TN (he:e≠0) (hp:ze [.agg [S0]]=some (.oc [.agg [.bool y,i64 a,i64 b],i64 e])):
 yc [.agg [S0]]=some (.oc [.agg [.fa],i64 e]):=by
 have e1:=Rh he
 rcases hS0 with rfl | ⟨l,rfl⟩ <;>
 simp -implicitDefEqProofs only[yc,SP,SA,SQ,sevalprocAttr,-List.reduceReplicate,Lk,hp,e1,bne,jg,Ac]
theorem nS (hp:ze [.agg [S0]]=some (.oc [.agg [.bool false,i64 a,i64 b],i64 0])):
 yc [.agg [S0]]=some (.oc [.agg [.fa],i64 110]):=by
 rcases hS0 with rfl | ⟨l,rfl⟩ <;>
 simp -implicitDefEqProofs only[yc,SP,SA,SQ,sevalprocAttr,-List.reduceReplicate,Lk,hp,bne,jg,Ac]
variable (hp:ze [.agg [S0]]=some (.oc [.agg [.bool true,i64 a,i64 b],i64 0])) (hc:Ci [.agg [S0]]=some (.agg [S]))
 (hS:Th 2 S (ss.map De)) (hw:ss.length≤32) (hsz:∀ s∈ss,∀ l∈s.parts,l.length * 16≤140737488355328) (hne:∀ s∈ss,0 < s.parts.length)
include hp hc hS hw hsz hne
theorem RK (h:Pg ss=none):yc [.agg [S0]]=some (.oc [.agg [.fa],i64 130]):=by
 have hn:ug ss 64 (tg ss,[])=none:=by unfold Pg at h;simpa using h
 obtain⟨H,hwk,hH⟩:=(yK (.box [.pv .fa]) (.box [.pv (.bool true),.pv (i64 a),.pv (i64 b)]) S ss rfl rfl rfl rfl hS hw hsz hne).2 hn
 have hb0:oj (.box [.pv .fa]) (.box [.pv (.bool true),.pv (i64 a),.pv (i64 b)]) S true [] (Hg []) 0 []=[.box [.pv .fa],.box [.pv (.bool true),.pv (i64 a),.pv (i64 b)],.map [],.box [.pv S,.mp 2,.uq 4 true 2 [],.own 5 0],.tok 2 0 true,.seq 256 true [] 0 true]:=rfl
 rw[hb0] at hwk
 have hS2:S= .fa∨∃ l,S= .lit 2 l:=by rcases hS with⟨h,_⟩ | h;exact .inl h;exact .inr ⟨_,h⟩
 have hH2:∀ o,(H.set 0 o)[0]? =some o:=by
  intro o
  cases H with
  |nil=>cases hH
  |cons x H=>rfl
 rcases hS0 with rfl | ⟨l,rfl⟩ <;> rcases hS2 with rfl | ⟨l2,rfl⟩ <;>
 simp -implicitDefEqProofs only[yc,SP,SA,SQ,sevalprocAttr,-List.reduceReplicate,Lk,hp,hc,hwk,hH,hH2,Da,qe,Qh,AV.aC,AV.Fo,bne,jg,Ac]
theorem US {l:List (List ef)} (h:Pg ss=some l):yc [.agg [S0]]=some (.oc [.agg [Yk l],i64 0]):=by
 obtain⟨r,hn,hl⟩:∃ r,ug ss 64 (tg ss,[])=some r∧Pm (Fe r.2.length r.2.flatten).C=l:=by
  unfold Pg at h;simpa using h
 obtain⟨nl,hwk,k1,k2,k3⟩:=(yK (.box [.pv .fa]) (.box [.pv (.bool true),.pv (i64 a),.pv (i64 b)]) S ss rfl rfl rfl rfl hS hw hsz hne).1 r hn
 have hb0:oj (.box [.pv .fa]) (.box [.pv (.bool true),.pv (i64 a),.pv (i64 b)]) S true [] (Hg []) 0 []=[.box [.pv .fa],.box [.pv (.bool true),.pv (i64 a),.pv (i64 b)],.map [],.box [.pv S,.mp 2,.uq 4 true 2 [],.own 5 0],.tok 2 0 true,.seq 256 true [] 0 true]:=rfl
 have hb1:oj (.box [.pv .fa]) (.box [.pv (.bool true),.pv (i64 a),.pv (i64 b)]) S nl r.1 (Hg r.2) r.2.length []=Eh (.box [.pv .fa]) (.box [.pv (.bool true),.pv (i64 a),.pv (i64 b)]) S nl r.2.isEmpty 0 r.1 r.2.flatten r.2.length []:=by
  unfold oj Eh Hg;rw[oA]
 rw[hb0,hb1] at hwk
 have hlt:=SJ hw 64 (tg ss,[]) r (Ry hw hne) (by simp) hn
 have hpos:0 < r.1.length:=by obtain⟨t,ht⟩:=hlt.2;rw[ht];simp[tg]
 have hC:r.2.flatten.length=r.2.length * 256:=by
  have:=jD k3
  rw[← oA,ib] at this;exact this
 have cC:∀ c∈r.2.flatten,c < (r.2.length:Int):=by
  intro c hc
  obtain⟨l,h1,h2⟩:=List.mem_flatten.1 hc
  rw[k2];exact hlt.1 l h1 c h2
 have h64:r.2.length≤64:=by rw[k2];exact k1.1
 have h0:0 < r.2.length:=by omega
 obtain⟨fr,fk,v,hf,hls⟩:=oQ (Ca Da 7) (.box [.pv .fa]) (.box [.pv (.bool true),.pv (i64 a),.pv (i64 b)]) S nl r.2.isEmpty r.1 r.2.flatten r.2.length h64 h0 k2.symm hC cC
 have Aa:TW r.2.length (Fe r.2.length r.2.flatten):=lD _ _ (Nat.le_refl _) ⟨hC,by simp,cC,by intro c hc;rw[List.eq_of_mem_replicate hc];omega,by simp⟩
 obtain⟨O,J,htd⟩:=PR (Ca Da 7) (.box [.pv .fa]) (.box [.pv (.bool true),.pv (i64 a),.pv (i64 b)]) S nl r.2.isEmpty fr r.1 (Fe r.2.length r.2.flatten).C r.2.length (.seq 1 false (Ja (Fe r.2.length r.2.flatten).vc) fk false) (.map (Vr (Fe r.2.length r.2.flatten).M)) Aa.hC Aa.cC (by omega) h64 h0
 rw[hl] at htd
 unfold Yk
 generalize l.map Wd=out at *
 generalize Fe r.2.length r.2.flatten=g at *
 simp only[Eh] at hwk hls htd
 have hS2:S= .fa∨∃ l,S= .lit 2 l:=by rcases hS with⟨h,_⟩ | h;exact .inl h;exact .inr ⟨_,h⟩
 rcases hS0 with rfl | ⟨l,rfl⟩ <;> rcases hS2 with rfl | ⟨l2,rfl⟩ <;>
 simp -implicitDefEqProofs only[yc,SP,SA,SQ,sevalprocAttr,-List.reduceReplicate,Lk,hp,hc,hwk,hls,htd,Da,qe,Qh,AV.aC,AV.Fo,bne,jg,Ac]
end
end Go.AM.B1
namespace Go.AM.B1
open Go.AM Go.AM.So
structure Jm (v:PV) (l:List (Int×Int)):Prop where
 is:Th 2 v (Jd l)
 sz:l.length * 16≤140737488355328
structure nf (P:PV) (ls:List (List (Int×Int))) (ps:List PV):Prop where
 is:Th 1 P ps
 len:ps.length=ls.length
 all:∀ (k:Nat) v l,ps[k]? =some v→ls[k]? =some l→Jm v l
 sz:ls.length≤maxLen
structure bf (e:PV) (s:mc) (P:PV) (ps:List PV):Prop where
 eq:e= .agg [P,i64 s.first]
 parts:nf P s.parts ps
structure pb (S:PV) (ss:List mc) (es:List PV):Prop where
 is:Th 2 S es
 len:es.length=ss.length
 all:∀ (k:Nat) e s,es[k]? =some e→ss[k]? =some s→∃ P ps,bf e s P ps
 sz:ss.length≤maxLen
theorem nf.get {P:PV} {ls:List (List (Int×Int))} {ps:List PV} (h:nf P ls ps) {i:Nat} (hi:i < ls.length):∃ v,ps[i]? =some v∧P= .lit 1 ps∧Jm v ls[i]:=by
 have h1:i < ps.length:=by rw[h.len];exact hi
 refine⟨ps[i],List.getElem?_eq_getElem h1,h.is.lit (i:=i) h1,h.all i _ _ (List.getElem?_eq_getElem h1) (List.getElem?_eq_getElem hi)⟩
theorem pb.get {S:PV} {ss:List mc} {es:List PV} (h:pb S ss es) {i:Nat} (hi:i < ss.length):∃ e P ps,es[i]? =some e∧S= .lit 2 es∧bf e ss[i] P ps:=by
 have h1:i < es.length:=by rw[h.len];exact hi
 obtain⟨P,ps,hp⟩:=h.all i _ _ (List.getElem?_eq_getElem h1) (List.getElem?_eq_getElem hi)
 exact⟨es[i],P,ps,List.getElem?_eq_getElem h1,h.is.lit (i:=i) h1,hp⟩
theorem nf.Tb {P:PV} {ls:List (List (Int×Int))} {ps:List PV} (h:nf P ls ps) (H:List ba):Tb H 0 (.pv P)=some ls.length:=by
 rw[h.is.len,h.len]
theorem pb.Tb {S:PV} {ss:List mc} {es:List PV} (h:pb S ss es) (H:List ba):Tb H 0 (.pv S)=some ss.length:=by
 rw[h.is.len,h.len]
def Hd (l:List (Int×Int)):Prop:=l≠[]∧Na 255 (-2) l=true
instance (l:List (Int×Int)):Decidable (Hd l):=by unfold Hd;infer_instance
def Vg:Int→List (List (Int×Int))→Int
 |n,[]=>n
 |n,l::r=>Vg (if 1073741825 < n * Lc 0 l then 1073741825 else n * Lc 0 l) r
def yh (s:mc):Int:=s.first+Vg 1 s.parts - 1
theorem ri {l:List (Int×Int)} (h:Hd l):1≤Lc 0 l∧Lc 0 l≤256:=by
 have:=(Gn h.2).2.1 h.1;omega
theorem sw {n s:Int} (h1:1≤n) (h2:n≤1073741825) (h3:1≤s) (h4:s≤256):1≤n * s∧n * s≤274877907200:=by
 constructor
 ·have:=Int.mul_le_mul h1 h3 (by omega) (by omega);omega
 ·have:=Int.mul_le_mul h2 h4 (by omega) (by omega);omega
theorem Fl:∀ (ls:List (List (Int×Int))) (n:Int),(∀ l∈ls,Hd l)→1≤n→n≤1073741825→1≤Vg n ls∧Vg n ls≤1073741825
 | [],n,_,h1,h2=>⟨h1,h2⟩
 |l::r,n,h,h1,h2=>by
  have hs:=ri (h l (by simp))
  have hm:=sw h1 h2 hs.1 hs.2
  rw[Vg]
  refine Fl r _ (fun x hx=>h x (by simp[hx])) ?_ ?_ <;> split <;> omega
abbrev sI (row:List PV) (P:PV) (len i n:Int):Tr:=((((Tr.lf.set 9 (.pv (i64 i))).set 8 (.pv (i64 len))).set 7 (.pv P)).set 3 (.pv (i64 n))).set 1 (.pv (.rp row 0))
theorem uI {e:PV} {s:mc} {P:PV} {ps:List PV} (h:bf e s P ps) (Aa:∀ l∈s.parts,Hd l) (hf:0≤s.first∧s.first≤1073741823):xn [e]=some (i64 (yh s)):=by
 obtain⟨rfl,hP⟩:=h
 have hb:=Fl s.parts 1 Aa (by omega) (by omega)
 have hsz:=hP.sz
 have hloop:Ld (fun r=>∃ E H,r=(.exit 0,⟨E,H⟩)∧E.get 3= .pv (i64 (Vg 1 s.parts))∧E.get 1= .pv (.rp [P,i64 s.first] 0))
  (fb (ma (ta (Ca (fun _=>none) 8) ph) (ga 0 [1,3,7,8,9])) qa ⟨sI [P,i64 s.first] P s.parts.length 0 1,[]⟩):=by
  refine xa (yb (g:=ma (ta (Ca (fun _=>none) 8) ph) (ga 0 [1,3,7,8,9]))
   (fun i t=>∃ n,t=⟨sI [P,i64 s.first] P s.parts.length i n,[]⟩∧1≤n∧n≤1073741825∧Vg 1 s.parts=Vg n (s.parts.drop i))
   s.parts.length (by unfold qa;unfold maxLen at hsz;omega) _ ⟨1,rfl,by omega,by omega,rfl⟩ ?_ ?_) (fun r h=>h.2)
  ·rintro i t hi ⟨n,rfl,h1,h2,hs⟩
   obtain⟨v,hv,hPl,hpt⟩:=hP.get hi
   have hd:s.parts.drop i=s.parts[i]::s.parts.drop (i+1):=List.drop_eq_getElem_cons hi
   have hpo:=Aa s.parts[i] (List.getElem_mem hi)
   have hss:=jw v s.parts[i] hpt.is hpt.sz hpo.2
   have hsb:=ri hpo
   rw[hd,Vg] at hs
   generalize s.parts[i]=l at *
   have hm:=sw h1 h2 hsb.1 hsb.2
   have e1:decide ((i:Int) < (s.parts.length:Int))=true:=Ea (by omega)
   have t2:=Va hi hsz
   have t3:IntKind.i64.wrap (n * Lc 0 l)=n * Lc 0 l:=Ba (by omega)
   have hq:i < ps.length:=by rw[hP.len];exact hi
   have hcl:v.cells=[v]:=by rcases hpt.is with⟨h,_⟩ | h <;> rw[h] <;> rfl
   have a1:wa [] 1 (.pv P) (i:Int)=some (.pv (.rp [v] 0)):=by
    rw[hPl]
    simp only[wa]
    rw[if_pos (by unfold Ga;simp;omega),Int.toNat_natCast,hv]
    simp[hcl]
   have a2:ya [] false 1 (.pv (.rp [v] 0))=some (.pv v):=rfl
   generalize hQ:LN _ _ i=Q
   simp -implicitDefEqProofs only[SX,sevalprocAttr,ph,e1,t2,t3,a1,a2,hss,No,oe,ga,za,AV.cut,pa,sI]
   subst hQ
   exact⟨_,rfl,by split <;> omega,by split <;> omega,hs⟩
  ·rintro t ⟨n,rfl,h1,h2,hs⟩
   rw[List.drop_length,Vg] at hs
   have e1:decide ((s.parts.length:Int) < (s.parts.length:Int))=false:=Fa (by omega)
   generalize hQ:(fun r:Ex×St=>r.1.stop=true∧_)=Q
   simp -implicitDefEqProofs only[SX,sevalprocAttr,ph,e1,sI]
   subst hQ
   exact⟨rfl,_,_,rfl,by simp[Tr.aa,hs],by simp[Tr.aa]⟩
 obtain⟨r,h1,E,H,rfl,hE,hE1⟩:=ec hloop
 have ls:=hP.Tb
 simp only[sI] at h1
 have h1':fb (ma (ta (Ca (fun _=>none) 8) ph) (ga 0 [1,3,7,8,9])) qa ⟨((((Tr.lf.set 9 (.pv (.int .i64 0))).set 8 (.pv (.int .i64 s.parts.length))).set 7 (.pv P)).set 3 (.pv (.int .i64 1))).set 1 (.pv (.rp [P,i64 s.first] 0)),[]⟩=some (.exit 0,⟨E,H⟩):=h1
 unfold yh
 generalize Vg 1 s.parts=n at *
 have t1:IntKind.i64.wrap (s.first+n)=s.first+n:=Ba (by omega)
 have t2:IntKind.i64.wrap (s.first+n - 1)=s.first+n - 1:=Ba (by omega)
 have hPv:∃ sz es,P= .fa∨P= .lit sz es:=by rcases hP.is with⟨h,_⟩ | h;exact⟨0,[],.inl h⟩;exact⟨_,_,.inr h⟩
 obtain⟨sz,es,rfl | rfl⟩:=hPv <;>
 simp -implicitDefEqProofs only[xn,SP,SA,SQ,WP,WQ,sevalprocAttr,Lr,Cb,ls,h1',hE,hE1,t1,t2]
theorem yR (call:Xa) {v:PV} {l:List (Int×Int)} (h:Jm v l) (H:List ba):og call Ej [.pv v] H=some (.pv (.bool (!decide (Hd l))),H):=by
 have ls:=h.is.len
 simp only[Jd,List.length_map] at ls
 have hv:=NB v l h.is h.sz
 by_cases h0:l=[]
 ·have e1:((l.length:Int)==0)=true:=by simp[h0]
  have e2:(!decide (Hd l))=true:=by
   have:¬Hd l:=fun hp=>hp.1 h0
   simp[this]
  rw[e2]
  simp -implicitDefEqProofs only[SP,SA,SQ,WP,WQ,sevalprocAttr,Ej,ls,e1]
 ·have e1:((l.length:Int)==0)=false:=by
   have:l.length≠0:=fun e=>h0 (List.eq_nil_of_length_eq_zero e)
   exact Rh (by omega)
  have e2:(!decide (Hd l))= !(Na 255 (-2) l):=by
   congr 1
   rw[Bool.eq_iff_iff];simp[Hd,h0]
  rw[e2]
  simp -implicitDefEqProofs only[SP,SA,SQ,WP,WQ,sevalprocAttr,Ej,ls,e1,hv]
def Qv (ls:List (List (Int×Int))) (i:Nat):Int:=
 match ls with
 | []=> -1
 |l::r=>if Hd l then Qv r (i+1) else i
theorem CG:∀ (ls:List (List (Int×Int))) (i:Nat),decide (Qv ls i≥0)= !decide (∀ l∈ls,Hd l)
 | [],i=>by simp[Qv]
 |l::r,i=>by
  rw[Qv]
  by_cases h:Hd l
  ·rw[if_pos h,CG r];simp[h]
  ·rw[if_neg h];simp[h]
abbrev pK (P:PV) (len i:Int):Tr:=(((Tr.lf.set 8 (.pv (i64 i))).set 7 (.pv (i64 len))).set 1 (.Gk 7 [])).set 0 (.pv P)
theorem VO {P:PV} {ls:List (List (Int×Int))} {ps:List PV} (hP:nf P ls ps) (d:Nat) (H:List ba) (hH:cf H):
 og (Ca Yb (d+1)) xc [.pv P,.Gk 7 []] H=some (.pv (i64 (Qv ls 0)),H):=by
 have hsz:=hP.sz
 have lsn:=hP.Tb
 have hcut:=cf.cut hH
 have h7:Yb 7=some Ej:=rfl
 apply Rm
 have hloop:Ld (fun r=>∃ E,(r=(.exit 0,⟨E,H⟩)∧Qv ls 0= -1)∨(r=(.ret,⟨E,H⟩)∧E.get 4= .pv (i64 (Qv ls 0))))
  (fb (ma (ta (Ca Yb (d+1)) Lb) (ga H.length [0,1,7,8])) qa ⟨pK P ls.length 0,H⟩):=by
  refine xa (yb (g:=ma (ta (Ca Yb (d+1)) Lb) (ga H.length [0,1,7,8]))
   (fun i t=>t=⟨pK P ls.length i,H⟩∧Qv ls 0=Qv (ls.drop i) i)
   ls.length (by unfold qa;unfold maxLen at hsz;omega) _ ⟨rfl,rfl⟩ ?_ ?_) (fun r h=>h.2)
  ·rintro i t hi ⟨rfl,hs⟩
   obtain⟨v,hv,hPl,hpt⟩:=hP.get hi
   have hd:ls.drop i=ls[i]::ls.drop (i+1):=List.drop_eq_getElem_cons hi
   rw[hd,Qv] at hs
   have hn:=yR (Ca Yb d) hpt H
   generalize ls[i]=l at *
   have e1:decide ((i:Int) < (ls.length:Int))=true:=Ea (by omega)
   have t2:=Va hi hsz
   have hq:i < ps.length:=by rw[hP.len];exact hi
   have hcl:v.cells=[v]:=by rcases hpt.is with⟨h,_⟩ | h <;> rw[h] <;> rfl
   have a1:wa H 1 (.pv P) (i:Int)=some (.pv (.rp [v] 0)):=by
    rw[hPl]
    simp only[wa]
    rw[if_pos (by unfold Ga;simp;omega),Int.toNat_natCast,hv]
    simp[hcl]
   have a2:ya H false 1 (.pv (.rp [v] 0))=some (.pv v):=rfl
   generalize hQ:LN _ _ i=Q
   by_cases Aa:Hd l
   ·rw[if_pos Aa] at hs
    rw[decide_eq_true Aa] at hn
    simp -implicitDefEqProofs only[SX,sevalprocAttr,Lb,e1,t2,a1,a2,h7,hn,hcut,List.take_length,ga,za,AV.cut,pa,pK]
    subst hQ
    exact⟨rfl,hs⟩
   ·rw[if_neg Aa] at hs
    rw[decide_eq_false Aa] at hn
    simp -implicitDefEqProofs only[SX,sevalprocAttr,Lb,e1,t2,a1,a2,h7,hn,hcut,List.take_length,ga,za,AV.cut,pa,pK]
    subst hQ
    exact⟨_,.inr ⟨rfl,by simp[Tr.aa,hs]⟩⟩
  ·rintro t ⟨rfl,hs⟩
   rw[List.drop_length,Qv] at hs
   have e1:decide ((ls.length:Int) < (ls.length:Int))=false:=Fa (by omega)
   generalize hQ:(fun r:Ex×St=>r.1.stop=true∧_)=Q
   simp -implicitDefEqProofs only[SX,sevalprocAttr,Lb,e1,pK]
   subst hQ
   exact⟨rfl,_,.inl ⟨rfl,hs⟩⟩
 simp -implicitDefEqProofs only[SX,sevalprocAttr,xc,Cb,lsn,hcut,List.take_length,ga,za,AV.cut,pa]
 refine xa hloop ?_
 rintro _ ⟨E,⟨rfl,hb⟩ | ⟨rfl,hE⟩⟩
 ·simp -implicitDefEqProofs only[SX,sevalprocAttr,hb]
 ·simp -implicitDefEqProofs only[SX,sevalprocAttr,hE]
theorem Jy {P:PV} {ls:List (List (Int×Int))} {ps:List PV} (hP:nf P ls ps) (d:Nat) (H:List ba) (hH:cf H):
 og (Ca Yb (d+2)) Kb [.pv P,.Gk 7 []] H=some (.pv (.bool (!decide (∀ l∈ls,Hd l))),H):=by
 have h:=VO hP d H hH
 have h5:Yb 5=some xc:=rfl
 have hb:=CG ls 0
 simp -implicitDefEqProofs only[SX,sevalprocAttr,Kb,h5,h,hb]
end Go.AM.B1
namespace Go.AM.B1
open Go.AM Go.AM.So
structure ue (s:mc):Prop where
 lo:1≤s.parts.length
 hi:s.parts.length≤8
 f0:0≤s.first
 f1:s.first≤1073741823
 parts:∀ l∈s.parts,Hd l
 last:yh s≤1073741823
def jm (s t:mc):Prop:=∀ x,¬((s.first≤x∧x≤yh s)∧(t.first≤x∧x≤yh t))
structure Ec (ss:List mc):Prop where
 len:ss.length≤32
 Vu:∀ s∈ss,ue s
 apart:ss.Pairwise jm
theorem ue.fI {s:mc} (h:ue s):s.first≤yh s:=by
 have:=(Fl s.parts 1 h.parts (by omega) (by omega)).1
 unfold yh;omega
structure UW (ss:List mc) (i:Nat) (v:PV) (u:List (Int×Int)):Prop where
 is:Th 2 v (Jd u)
 val:Na Kx (-2) u=true
 len:u.length≤i
 mem:∀ x,uj x u↔∃ s∈ss.take i,s.first≤x∧x≤yh s
 Vu:∀ s∈ss.take i,ue s
 apart:(ss.take i).Pairwise jm
abbrev Lp (S v:PV) (len i:Int):Tr:=(((Tr.lf.set 14 (.pv (i64 i))).set 13 (.pv (i64 len))).set 12 (.pv S)).set 3 (.pv v)
theorem ik (x y u v:AV) (hu:u.one=true) (hv:v.one=true) (A:List ba) (e:PV) (he:(AV.pv e).cells=[u,v]):La (A++[.box [x,y]]) 2 (.ptr A.length 0) (.pv e)=some (A++[.box [u,v]]):=by
 simp only[La,he,gj,sn,List.length_cons,List.length_nil,List.all,hu,hv]
 simp[na]
section
variable {S:PV} {ss:List mc} {es:List PV} (hS:pb S ss es) (hl:ss.length≤32)
include hS hl
omit hl in
theorem TB {i:Nat} (hi:i < ss.length) (v:PV) (hbad:¬ue ss[i]):
 ∃ E H,ma (ta (Ca Yb 8) Mb) (ga 0 [3,12,13,14]) ⟨Lp S v ss.length i,[]⟩=some (.ret,⟨E,H⟩)∧E.get 2= .pv (.bool false):=by
 obtain⟨e,P,ps,he,hSl,hsh⟩:=hS.get hi
 obtain⟨rfl,hP⟩:=hsh
 generalize hs:ss[i]=s at *
 have hq:i < es.length:=by rw[hS.len];exact hi
 have e1:decide ((i:Int) < (ss.length:Int))=true:=Ea (by omega)
 have a1:wa [] 2 (.pv S) (i:Int)=some (.pv (.rp [P,i64 s.first] 0)):=by
  rw[hSl]
  simp only[wa]
  rw[if_pos (by unfold Ga;simp;omega),Int.toNat_natCast,he];rfl
 have a2:ya [] true 2 (.pv (.rp [P,i64 s.first] 0))=some (.pv (.agg [P,i64 s.first])):=rfl
 have hP1:(AV.pv P).one=true:=by rcases hP.is with⟨h,_⟩ | h <;> rw[h] <;> rfl
 have s1:La [.box [.pv .fa,.pv (i64 0)]] 2 (.ptr 0 0) (.pv (.agg [P,i64 s.first]))=some [.box [.pv P,.pv (i64 s.first)]]:=ik _ _ _ _ hP1 rfl [] _ rfl
 have p0:place [.box [.pv P,.pv (i64 s.first)]] 0 (.ptr 0 0)=some (.ptr 0 0):=rfl
 have p1:place [.box [.pv P,.pv (i64 s.first)]] 1 (.ptr 0 0)=some (.ptr 0 1):=rfl
 have l0:ya [.box [.pv P,.pv (i64 s.first)]] false 1 (.ptr 0 0)=some (.pv P):=rfl
 have l1:ya [.box [.pv P,.pv (i64 s.first)]] false 1 (.ptr 0 1)=some (.pv (i64 s.first)):=rfl
 have l2:ya [.box [.pv P,.pv (i64 s.first)]] true 2 (.ptr 0 0)=some (.pv (.agg [P,i64 s.first])):=rfl
 have hg:cf [.box [.pv P,.pv (i64 s.first)]]:=by
  intro n _ o ho;simp at ho;subst ho;simp[oa,Pa,Ha]
 have hct:=Jy hP 5 [.box [.pv P,.pv (i64 s.first)]] hg
 have h6:Yb 6=some Kb:=rfl
 have lA:=hP.Tb
 have key:Ld (fun r=>∃ E H,r=(.ret,⟨E,H⟩)∧E.get 2= .pv (.bool false)) (ma (ta (Ca Yb 8) Mb) (ga 0 [3,12,13,14]) ⟨Lp S v ss.length i,[]⟩):=by
  generalize hQ:(fun r:Ex×St=>_)=Q
  by_cases c1:s.parts.length < 1
  ·have d1:decide ((s.parts.length:Int) < 1)=true:=Ea (by omega)
   simp -implicitDefEqProofs only[SX,sevalprocAttr,Mb,e1,a1,a2,s1,p0,p1,l0,l1,lA,d1,Lp]
   subst hQ;exact⟨_,_,rfl,by simp[Tr.aa]⟩
  have d1:decide ((s.parts.length:Int) < 1)=false:=Fa (by omega)
  by_cases c2:s.parts.length > 8
  ·have d2:decide ((s.parts.length:Int) > 8)=true:=Ea (by omega)
   simp -implicitDefEqProofs only[SX,sevalprocAttr,Mb,e1,a1,a2,s1,p0,p1,l0,l1,lA,d1,d2,Lp]
   subst hQ;exact⟨_,_,rfl,by simp[Tr.aa]⟩
  have d2:decide ((s.parts.length:Int) > 8)=false:=Fa (by omega)
  by_cases c3:s.first < 0
  ·have d3:decide (s.first < 0)=true:=Ea c3
   simp -implicitDefEqProofs only[SX,sevalprocAttr,Mb,e1,a1,a2,s1,p0,p1,l0,l1,lA,d1,d2,d3,Lp]
   subst hQ;exact⟨_,_,rfl,by simp[Tr.aa]⟩
  have d3:decide (s.first < 0)=false:=Fa c3
  by_cases c4:s.first > 1073741823
  ·have d4:decide (s.first > 1073741823)=true:=Ea c4
   simp -implicitDefEqProofs only[SX,sevalprocAttr,Mb,e1,a1,a2,s1,p0,p1,l0,l1,lA,d1,d2,d3,d4,Lp]
   subst hQ;exact⟨_,_,rfl,by simp[Tr.aa]⟩
  have d4:decide (s.first > 1073741823)=false:=Fa c4
  by_cases c5:∀ l∈s.parts,Hd l
  ·have hlast:=uI (e:= .agg [P,i64 s.first]) ⟨rfl,hP⟩ c5 (by omega)
   rw[decide_eq_true c5] at hct
   have c6:yh s > 1073741823:=by
    rcases Int.lt_or_le 1073741823 (yh s) with h | h
    ·exact h
    ·exact absurd (ue.mk (by omega) (by omega) (by omega) (by omega) c5 h) hbad
   have d6:decide (yh s > 1073741823)=true:=Ea c6
   have i0:∀ H (x y:Int),wa H 2 (.pv (.lit 2 [.agg [i64 x,i64 y]])) 0=some (.pv (.rp [i64 x,i64 y] 0)):=fun H x y=>rfl
   have q1:∀ H (x y:PV),place H 1 (.pv (.rp [x,y] 0))=some (.pv (.rp [x,y] 1)):=fun H x y=>rfl
   have m1:∀ H (x y:PV),ya H false 1 (.pv (.rp [x,y] 1))=some (.pv y):=fun H x y=>rfl
   simp -implicitDefEqProofs only[SX,sevalprocAttr,na,Mb,e1,a1,a2,s1,p0,p1,l0,l1,l2,lA,d1,d2,d3,d4,h6,hct,hlast,i0,q1,m1,d6,Lp]
   subst hQ;exact⟨_,_,rfl,by simp[Tr.aa]⟩
  ·rw[decide_eq_false c5] at hct
   simp -implicitDefEqProofs only[SX,sevalprocAttr,Mb,e1,a1,a2,s1,p0,p1,l0,l1,lA,d1,d2,d3,d4,h6,hct,Lp]
   subst hQ;exact⟨_,_,rfl,by simp[Tr.aa]⟩
 obtain⟨r,h1,E,H,rfl,h2⟩:=ec key
 exact⟨E,H,h1,h2⟩
theorem vC {i:Nat} (hi:i < ss.length) {v:PV} {u:List (Int×Int)} (hv:UW ss i v u) (Aa:ue ss[i]):
 Ld (fun r=>(∃ E H,r=(.ret,⟨E,H⟩)∧E.get 2= .pv (.bool false)∧∃ s∈ss.take i,¬jm s ss[i])∨(∃ v' u',r=(.norm,⟨Lp S v' ss.length (i+1:Nat),[]⟩)∧UW ss (i+1) v' u'))
  (ma (ta (Ca Yb 8) Mb) (ga 0 [3,12,13,14]) ⟨Lp S v ss.length i,[]⟩):=by
 obtain⟨e,P,ps,he,hSl,hsh⟩:=hS.get hi
 obtain⟨rfl,hP⟩:=hsh
 have htake:ss.take (i+1)=ss.take i++[ss[i]]:=List.take_succ_eq_append_getElem hi
 generalize hs:ss[i]=s at *
 have hq:i < es.length:=by rw[hS.len];exact hi
 have e1:decide ((i:Int) < (ss.length:Int))=true:=Ea (by omega)
 have t2:=Va hi hS.sz
 have a1:wa [] 2 (.pv S) (i:Int)=some (.pv (.rp [P,i64 s.first] 0)):=by
  rw[hSl]
  simp only[wa]
  rw[if_pos (by unfold Ga;simp;omega),Int.toNat_natCast,he];rfl
 have a2:ya [] true 2 (.pv (.rp [P,i64 s.first] 0))=some (.pv (.agg [P,i64 s.first])):=rfl
 have hP1:(AV.pv P).one=true:=by rcases hP.is with⟨h,_⟩ | h <;> rw[h] <;> rfl
 have s1:La [.box [.pv .fa,.pv (i64 0)]] 2 (.ptr 0 0) (.pv (.agg [P,i64 s.first]))=some [.box [.pv P,.pv (i64 s.first)]]:=ik _ _ _ _ hP1 rfl [] _ rfl
 have p0:place [.box [.pv P,.pv (i64 s.first)]] 0 (.ptr 0 0)=some (.ptr 0 0):=rfl
 have p1:place [.box [.pv P,.pv (i64 s.first)]] 1 (.ptr 0 0)=some (.ptr 0 1):=rfl
 have l0:ya [.box [.pv P,.pv (i64 s.first)]] false 1 (.ptr 0 0)=some (.pv P):=rfl
 have l1:ya [.box [.pv P,.pv (i64 s.first)]] false 1 (.ptr 0 1)=some (.pv (i64 s.first)):=rfl
 have l2:ya [.box [.pv P,.pv (i64 s.first)]] true 2 (.ptr 0 0)=some (.pv (.agg [P,i64 s.first])):=rfl
 have hg:cf [.box [.pv P,.pv (i64 s.first)]]:=by
  intro n _ o ho;simp at ho;subst ho;simp[oa,Pa,Ha]
 have hct:=Jy hP 5 [.box [.pv P,.pv (i64 s.first)]] hg
 rw[decide_eq_true Aa.parts] at hct
 have h6:Yb 6=some Kb:=rfl
 have lA:=hP.Tb
 have d1:decide ((s.parts.length:Int) < 1)=false:=Fa (by have:=Aa.lo;omega)
 have d2:decide ((s.parts.length:Int) > 8)=false:=Fa (by have:=Aa.hi;omega)
 have d3:decide (s.first < 0)=false:=Fa (by have:=Aa.f0;omega)
 have d4:decide (s.first > 1073741823)=false:=Fa (by have:=Aa.f1;omega)
 have hlast:=uI (e:= .agg [P,i64 s.first]) ⟨rfl,hP⟩ Aa.parts ⟨Aa.f0,Aa.f1⟩
 have d6:decide (yh s > 1073741823)=false:=Fa (by have:=Aa.last;omega)
 have i0:∀ H (x y:Int),wa H 2 (.pv (.lit 2 [.agg [i64 x,i64 y]])) 0=some (.pv (.rp [i64 x,i64 y] 0)):=fun H x y=>rfl
 have q1:∀ H (x y:PV),place H 1 (.pv (.rp [x,y] 0))=some (.pv (.rp [x,y] 1)):=fun H x y=>rfl
 have m1:∀ H (x y:PV),ya H false 1 (.pv (.rp [x,y] 1))=some (.pv y):=fun H x y=>rfl
 have hvr:Na Kx (-2) [(s.first,yh s)]=true:=by
  rw[fq];have:=Aa.fI;have:=Aa.f0;have:=Aa.last;unfold Kx;simp only;omega
 have hmt:=wA v (.lit 2 [.agg [i64 s.first,i64 (yh s)]]) u [(s.first,yh s)] hv.is (.inr rfl) hv.val hvr (by have:=hv.len;simp;omega)
 obtain⟨u',hun,hv1,hv2,hv3⟩:=tP v (.lit 2 [.agg [i64 s.first,i64 (yh s)]]) u [(s.first,yh s)] hv.is (.inr rfl) hv.val hvr (by have:=hv.len;simp;omega)
 have hms:=pL hv.val hvr
 have hml:∀ l:List (Int×Int),(Jd l).length=l.length:=fun l=>by simp
 generalize Gf (u.length+[(s.first,yh s)].length) u [(s.first,yh s)]=mm at *
 have hvv:(AV.pv v).cells=[.pv v]:=by rcases hv.is with⟨h,_⟩ | h <;> rw[h] <;> rfl
 generalize hQ:(fun r:Ex×St=>_)=Q
 by_cases c7:mm=[]
 ·have d7:decide ((mm.length:Int) > 0)=false:=Fa (by rw[c7];simp)
  have hno:¬∃ x,uj x u∧uj x [(s.first,yh s)]:=fun h=>(hms.2 h) c7
  simp -implicitDefEqProofs only[SX,sevalprocAttr,na,Mb,e1,t2,a1,a2,s1,p0,p1,l0,l1,l2,lA,d1,d2,d3,d4,h6,hct,hlast,i0,q1,m1,d6,hmt,hml,d7,hun,ga,za,AV.cut,oa,List.take_zero,pa,Lp]
  subst hQ
  refine .inr ⟨_,u',rfl,.inr rfl,hv1,by have:=hv.len;simp at hv3;omega,fun x=> ?_,?_,?_⟩
  ·rw[hv2,Nn,hv.mem,htake]
   constructor
   ·rintro (⟨t,ht,hx⟩ | hx)
    ·exact⟨t,by simp[ht],hx⟩
    ·exact⟨s,by simp,hx⟩
   ·rintro⟨t,ht,hx⟩
    rcases List.mem_append.1 ht with h | h
    ·exact .inl ⟨t,h,hx⟩
    ·simp at h;subst h;exact .inr hx
  ·intro t ht
   rw[htake] at ht
   rcases List.mem_append.1 ht with h | h
   ·exact hv.Vu t h
   ·simp at h;subst h;exact Aa
  ·rw[htake,List.pairwise_append]
   refine⟨hv.apart,by simp,fun t ht w hw x hx=> ?_⟩
   simp at hw;subst hw
   exact hno ⟨x,(hv.mem x).2 ⟨t,ht,hx.1⟩,(Nn _ _).2 hx.2⟩
 ·have d7:decide ((mm.length:Int) > 0)=true:=Ea (by have:mm.length≠0:=fun e=>c7 (List.eq_nil_of_length_eq_zero e);omega)
  obtain⟨x,hx1,hx2⟩:=hms.1 c7
  simp -implicitDefEqProofs only[SX,sevalprocAttr,na,Mb,e1,a1,a2,s1,p0,p1,l0,l1,l2,lA,d1,d2,d3,d4,h6,hct,hlast,i0,q1,m1,d6,hmt,hml,d7,Lp]
  subst hQ
  obtain⟨t,ht,hx3⟩:=(hv.mem x).1 hx1
  exact .inl ⟨_,_,rfl,by simp[Tr.aa],t,ht,fun h=>h x ⟨hx3,(Nn _ _).1 hx2⟩⟩
end
theorem Wi {S:PV} {ss:List mc} {es:List PV} (hS:pb S ss es):∃ b,qf [.agg [S]]=some (.bool b)∧(b=true↔Ec ss):=by
 have lA:=hS.Tb
 by_cases hl:ss.length≤32
 ·have e0:decide ((ss.length:Int) > 32)=false:=Fa (by omega)
  have hloop:Ld (fun r=>∃ E H,(r=(.exit 0,⟨E,H⟩)∧Ec ss)∨(r=(.ret,⟨E,H⟩)∧E.get 2= .pv (.bool false)∧¬Ec ss))
   (fb (ma (ta (Ca Yb 8) Mb) (ga 0 [3,12,13,14])) qa ⟨Lp S .fa ss.length 0,[]⟩):=by
   refine xa (yb (g:=ma (ta (Ca Yb 8) Mb) (ga 0 [3,12,13,14]))
    (fun i t=>∃ v u,t=⟨Lp S v ss.length i,[]⟩∧UW ss i v u)
    ss.length (by unfold qa;omega) _ ⟨.fa,[],rfl,.inl ⟨rfl,rfl⟩,rfl,by simp,fun x=>by simp[wm],by simp,by simp⟩ ?_ ?_) (fun r h=>h.2)
   ·rintro i t hi ⟨v,u,rfl,hv⟩
    by_cases Aa:ue ss[i]
    ·refine xa (vC hS hl hi hv Aa) ?_
     rintro r (⟨E,H,rfl,hE,s,hs,hna⟩ | ⟨v',u',rfl,hv'⟩)
     ·refine⟨E,H,.inr ⟨rfl,hE,fun h=>hna ?_⟩⟩
      obtain⟨j,hj,rfl⟩:=List.mem_take_iff_getElem.1 hs
      have:=List.pairwise_iff_getElem.1 h.apart j i (by omega) hi (by omega)
      exact this
     ·exact⟨v',u',rfl,hv'⟩
    ·obtain⟨E,H,h1,h2⟩:=TB hS hi v Aa
     exact GW h1 ⟨E,H,.inr ⟨rfl,h2,fun h=>Aa (h.Vu _ (List.getElem_mem hi))⟩⟩
   ·rintro t ⟨v,u,rfl,hv⟩
    have e1:decide ((ss.length:Int) < (ss.length:Int))=false:=Fa (by omega)
    have hfin:Ec ss:=⟨hl,by have:=hv.Vu;rwa [List.take_length] at this,by have:=hv.apart;rwa [List.take_length] at this⟩
    generalize hQ:(fun r:Ex×St=>r.1.stop=true∧_)=Q
    simp -implicitDefEqProofs only[SX,sevalprocAttr,Mb,e1,Lp]
    subst hQ
    exact⟨rfl,_,_,.inl ⟨rfl,hfin⟩⟩
  obtain⟨r,h1,E,H,h2⟩:=ec hloop
  have h1':fb (ma (ta (Ca Yb 8) Mb) (ga 0 [3,12,13,14])) qa ⟨(((Tr.lf.set 14 (.pv (.int .i64 0))).set 13 (.pv (.int .i64 ss.length))).set 12 (.pv S)).set 3 (.pv .fa),[]⟩=some r:=h1
  have hSv:∃ sz es,S= .fa∨S= .lit sz es:=by rcases hS.is with⟨h,_⟩ | h;exact⟨0,[],.inl h⟩;exact⟨_,_,.inr h⟩
  rcases h2 with⟨rfl,Aa⟩ | ⟨rfl,hE,hno⟩
  ·refine⟨true,?_,by simp[Aa]⟩
   obtain⟨sz,es,rfl | rfl⟩:=hSv <;>
   simp -implicitDefEqProofs only[qf,SP,SA,SQ,WP,WQ,sevalprocAttr,wk,Cb,lA,e0,h1']
  ·refine⟨false,?_,by simp[hno]⟩
   obtain⟨sz,es,rfl | rfl⟩:=hSv <;>
   simp -implicitDefEqProofs only[qf,SP,SA,SQ,WP,WQ,sevalprocAttr,wk,Cb,lA,e0,h1',hE]
 ·have e0:decide ((ss.length:Int) > 32)=true:=Ea (by omega)
  refine⟨false,?_,by simp;exact fun h=>hl h.len⟩
  have hSv:∃ sz es,S= .fa∨S= .lit sz es:=by rcases hS.is with⟨h,_⟩ | h;exact⟨0,[],.inl h⟩;exact⟨_,_,.inr h⟩
  obtain⟨sz,es,rfl | rfl⟩:=hSv <;>
  simp -implicitDefEqProofs only[qf,SP,SA,SQ,WP,WQ,sevalprocAttr,wk,Cb,lA,e0]
end Go.AM.B1
namespace Go.AM.B1
open Go.AM Go.AM.So
theorem bf.one {e:PV} {s:mc} {P:PV} {ps:List PV} (h:bf e s P ps):pb (.lit 2 [e]) [s] [e]:=by
 refine⟨.inr rfl,rfl,?_,by simp[maxLen]⟩
 intro k e' s' h1 h2
 match k,h1,h2 with
 |0,h1,h2=>simp at h1 h2;subst h1 h2;exact⟨P,ps,h⟩
 |k+1,h1,h2=>simp at h1
theorem uP {s:mc}:Ec [s]↔ue s:=⟨fun h=>h.Vu s (by simp),fun h=>⟨by simp,by simpa using h,by simp⟩⟩
theorem bf.Dv {e:PV} {s:mc} {P:PV} {ps:List PV} (h:bf e s P ps):(AV.pv P).one=true∧P.cells=[P]:=by
 rcases h.parts.is with⟨h,_⟩ | h <;> rw[h] <;> exact⟨rfl,rfl⟩
theorem ll {e:PV} {s:mc} {P:PV} {ps:List PV} (h:bf e s P ps):∃ b,zi [e]=some (.bool b)∧(b=true↔ue s):=by
 obtain⟨b,h1,h2⟩:=Wi h.one
 refine⟨b,?_,h2.trans uP⟩
 obtain⟨hP1,hP2⟩:=h.Dv
 have heq:=h.eq
 subst heq
 rcases h.parts.is with⟨rfl,_⟩ | rfl <;>
 simp -implicitDefEqProofs only[zi,SP,SA,SQ,WP,WQ,sevalprocAttr,dr,h1]
theorem nf.Pd {P:PV} {ls:List (List (Int×Int))} {ps:List PV} (hP:nf P ls ps) {i:Nat} (hi:i < ls.length) (H:List ba):∃ v,ps[i]? =some v∧Jm v ls[i]∧wa H 1 (.pv P) (i:Int)=some (.pv (.rp [v] 0)):=by
 obtain⟨v,hv,hPl,hpt⟩:=hP.get hi
 refine⟨v,hv,hpt,?_⟩
 have hq:i < ps.length:=by rw[hP.len];exact hi
 have hcl:v.cells=[v]:=by rcases hpt.is with⟨h,_⟩ | h <;> rw[h] <;> rfl
 rw[hPl]
 simp only[wa]
 rw[if_pos (by unfold Ga;simp;omega),Int.toNat_natCast,hv]
 simp[hcl]
theorem nf.Xv {P:PV} {ls:List (List (Int×Int))} {ps:List PV} (hP:nf P ls ps) {i:Nat} {v:PV} (hv:ps[i]? =some v) (H:List ba):wa H 1 (.pv P) (i:Int)=some (.pv (.rp [v] 0)):=by
 have hi:i < ls.length:=by rw[← hP.len];exact (List.getElem?_eq_some_iff.1 hv).1
 obtain⟨w,hw,_,h⟩:=hP.Pd hi H
 rw[hv] at hw;injection hw with hw;subst hw;exact h
def Ho (p q:List (List (Int×Int))) (i:Nat):List (Int×Int):=match p[i]?,q[i]? with
 |some a,some b=>Gf (a.length+b.length) a b
 |_,_=>[]
def bc (p q:List (List (Int×Int))):Nat→Nat→Option (List Int)
 |0,_=>some []
 |n+1,i=>match Ho p q i with
  | []=>none
  |m::_=>(bc p q n (i+1)).map (m.1:: ·)
abbrev nJ (rp rq:List PV) (n i:Int) (tk:Nat) (nl:Bool) (es:List PV):Tr:=((((Tr.lf.set 35 (.pv (i64 i))).set 34 (.pv (i64 n))).set 8 (.uq tk nl 1 es)).set 4 (.pv (.rp rq 0))).set 3 (.pv (.rp rp 0))
theorem Dn {A:List ba} {id n bytes:Nat} {nl:Bool} {h:rf} {es:List PV} (hg:A[id]? =some (.tok 1 n nl)) (hn:n=es.length) (hr:mb (n+1) bytes) (e:PV):
 Ob A false h 1 false bytes (.uq id nl 1 es) (.pv (.lit 1 [e]))=some (.uq id false 1 (es++[e]),A.set id (.tok 1 (n+1) false)):=Kg hg hn hr e
theorem EL {e f:PV} {p q:mc} {P Q:PV} {ps qs:List PV} (hp:bf e p P ps) (hq:bf f q Q qs) (op:ue p) (oq:ue q) {n:Nat} (hn:n≤p.parts.length) (hn2:n≤q.parts.length):
 (bc p.parts q.parts n 0=none→Ah [e,f,i64 n]=some (.oc [.fa,.bool false]))∧
 (∀ bs,bc p.parts q.parts n 0=some bs→∃ v,Ah [e,f,i64 n]=some (.oc [v,.bool true])∧Th 1 v (bs.map (PV.int .u8))∧bs.length=n∧∀ b∈bs,0≤b∧b≤255):=by
 obtain⟨b1,hb1,hb1'⟩:=ll hp
 obtain⟨b2,hb2,hb2'⟩:=ll hq
 have:b1=true:=hb1'.2 op
 subst this
 have:b2=true:=hb2'.2 oq
 subst this
 obtain⟨hP1,hP2⟩:=hp.Dv
 obtain⟨hQ1,hQ2⟩:=hq.Dv
 have heq:=hp.eq
 have hfq:=hq.eq
 subst heq hfq
 have h8:=op.hi
 have lP:=hp.parts.Tb
 have lQ:=hq.parts.Tb
 have hloop:Ld (fun r=>∃ E H,(r=(.ret,⟨E,H⟩)∧E.get 6= .pv .fa∧E.get 7= .pv (.bool false)∧bc p.parts q.parts n 0=none)∨(∃ nl bs,r=(.exit 0,⟨E,H⟩)∧E.get 8= .uq 0 nl 1 (bs.map (PV.int .u8))∧(nl=true→bs=[])∧bc p.parts q.parts n 0=some bs∧bs.length=n∧∀ b∈bs,0≤b∧b≤255))
  (fb (ma (ta (Ca (fun _=>none) 8) Lf) (ga 1 [3,4,8,34,35])) qa ⟨nJ [P,i64 p.first] [Q,i64 q.first] n 0 0 true [],[.tok 1 0 true]⟩):=by
  refine xa (yb (g:=ma (ta (Ca (fun _=>none) 8) Lf) (ga 1 [3,4,8,34,35]))
   (fun i t=>∃ nl bs,t=⟨nJ [P,i64 p.first] [Q,i64 q.first] n i 0 nl (bs.map (PV.int .u8)),[.tok 1 i nl]⟩∧bs.length=i∧(nl=true→bs=[])∧(∀ b∈bs,0≤b∧b≤255)∧bc p.parts q.parts n 0=(bc p.parts q.parts (n - i) i).map (bs++ ·))
   n (by unfold qa;omega) _ ⟨true,[],rfl,rfl,fun _=>rfl,by simp,by cases bc p.parts q.parts n 0 <;> simp[*]⟩ ?_ ?_) (fun r h=>h.2)
  ·rintro i t hi ⟨nl,bs,rfl,hlen,hnl,hby,hs⟩
   obtain⟨v,hv,hpv,_⟩:=hp.parts.Pd (i:=i) (by omega) []
   obtain⟨w,hw,hqw,_⟩:=hq.parts.Pd (i:=i) (by omega) []
   have a1:=hp.parts.Xv hv
   have a2:=hq.parts.Xv hw
   have okv:=op.parts _ (List.getElem_mem (show i < p.parts.length by omega))
   have okw:=oq.parts _ (List.getElem_mem (show i < q.parts.length by omega))
   have hmt:=QD v w _ _ hpv.is hqw.is okv.2 okw.2 (by
    have:=(Gn okv.2).2.1 okv.1
    have h1:=hpv.sz
    have h2:=hqw.sz
    have k1:=cq okv.2
    have k2:=cq okw.2
    omega)
   have hlaw:=Ts _ _ _ (-2) (-2) okv.2 okw.2 (Nat.le_refl _)
   have hmA:Ho p.parts q.parts i=Gf (p.parts[i].length+q.parts[i].length) p.parts[i] q.parts[i]:=by
    unfold Ho
    rw[List.getElem?_eq_getElem (show i < p.parts.length by omega),List.getElem?_eq_getElem (show i < q.parts.length by omega)]
   obtain⟨m,hm⟩:∃ m,n - i=m+1:=⟨n - i - 1,by omega⟩
   have hm':n - (i+1)=m:=by omega
   rw[hm,bc,hmA] at hs
   have hme:=Wm okv.2
   generalize p.parts[i]=lv at *
   generalize q.parts[i]=lw at *
   generalize Gf (lv.length+lw.length) lv lw=mm at *
   have e1:decide ((i:Int) < (n:Int))=true:=Ea (by omega)
   have t2:=Va (i:=i) (n:=n) hi (by unfold maxLen;omega)
   have lm:∀ H,Tb H 0 (.pv (.lit 2 (Jd mm)))=some mm.length:=fun H=>by simp[Tb]
   have r0:∀ H (x y:PV),ya H false 1 (.pv (.rp [x,y] 0))=some (.pv x):=fun H x y=>rfl
   have r1:∀ H (x:PV),ya H false 1 (.pv (.rp [x] 0))=some (.pv x):=fun H x=>rfl
   have q0:∀ H (x y:PV),place H 0 (.pv (.rp [x,y] 0))=some (.pv (.rp [x,y] 0)):=fun H x y=>rfl
   generalize hQ:LN _ _ i=QQ
   cases mm with
   |nil=>
    have z1:(((0:Nat):Int)==0)=true:=by decide
    simp only[Option.map_none] at hs
    simp -implicitDefEqProofs only[SX,sevalprocAttr,Lf,e1,a1,a2,r0,r1,q0,hmt,lm,z1,nJ]
    subst hQ
    exact⟨_,_,.inl ⟨rfl,by simp[Tr.aa],by simp[Tr.aa],hs⟩⟩
   |cons m0 mm=>
    have z1:(((mm.length+1:Nat):Int)==0)=false:=Rh (by omega)
    have i0:∀ H,wa H 2 (.pv (.lit 2 (Jd (m0::mm)))) 0=some (.pv (.rp [i64 m0.1,i64 m0.2] 0)):=fun H=>Gj H (i:=0) (l:=m0::mm) (by simp)
    have hb0:0≤m0.1∧m0.1≤255:=by
     have hmem:=(hlaw.1 m0.1).1 ⟨m0,by simp,Int.le_refl _,hlaw.2 m0 (by simp)⟩
     obtain⟨pp,hpp,h1,h2⟩:=hmem.1
     have:=hme pp hpp;omega
    have t3:IntKind.u8.wrap m0.1=m0.1:=wrap_u8 hb0
    have hap:=Dn (A:=[.tok 1 i nl]) (id:=0) (n:=i) (h:= .uq) (nl:=nl) (bytes:=1) (es:=bs.map (PV.int .u8)) rfl (by simp[hlen]) (by unfold mb;omega) (.int .u8 m0.1)
    rw[List.set_cons_zero] at hap
    have lm':∀ H,Tb H 0 (.pv (.lit 2 (Jd (m0::mm))))=some (mm.length+1):=lm
    have hbm:(bs++[m0.1]).map (PV.int .u8)=bs.map (PV.int .u8)++[.int .u8 m0.1]:=by simp
    generalize Jd (m0::mm)=L at *
    simp -implicitDefEqProofs only[SP,WP,na,sevalprocAttr,Lf,e1,t2,t3,a1,a2,r0,r1,q0,hmt,lm',z1,i0,hap,ga,za,AV.cut,oa,pa,nJ]
    subst hQ
    refine⟨false,bs++[m0.1],by rw[hbm],by simp[hlen],by simp,?_,?_⟩
    ·intro b hb
     rcases List.mem_append.1 hb with h | h
     ·exact hby b h
     ·simp at h;subst h;exact hb0
    ·rw[hs,hm']
     cases bc p.parts q.parts m (i+1) <;> simp
  ·rintro t ⟨nl,bs,rfl,hlen,hnl,hby,hs⟩
   rw[Nat.sub_self,bc] at hs
   have e1:decide ((n:Int) < (n:Int))=false:=Fa (by omega)
   generalize hQ:(fun r:Ex×St=>r.1.stop=true∧_)=QQ
   simp -implicitDefEqProofs only[SX,sevalprocAttr,Lf,e1,nJ]
   subst hQ
   exact⟨rfl,_,_,.inr ⟨nl,bs,rfl,by simp[Tr.aa],hnl,by rw[hs];simp,hlen,hby⟩⟩
 obtain⟨r,h1,E,H,h2⟩:=ec hloop
 have h1':fb (ma (ta (Ca (fun _=>none) 8) Lf) (ga 1 [3,4,8,34,35])) qa ⟨((((Tr.lf.set 35 (.pv (.int .i64 0))).set 34 (.pv (i64 n))).set 8 (.uq 0 true 1 [])).set 4 (.pv (.rp [Q,i64 q.first] 0))).set 3 (.pv (.rp [P,i64 p.first] 0)),[.tok 1 0 true]⟩=some r:=h1
 have d0:decide ((n:Int) < 0)=false:=Fa (by omega)
 have d1:decide ((n:Int) > (if (q.parts.length:Int) < (p.parts.length:Int) then (q.parts.length:Int) else (p.parts.length:Int)))=false:=Fa (by split <;> omega)
 have hz:(0 < 1)=True:=by simp
 have r2:∀ H (x y:PV),ya H true 2 (.pv (.rp [x,y] 0))=some (.pv (.agg [x,y])):=fun H x y=>rfl
 have r0:∀ H (x y:PV),ya H false 1 (.pv (.rp [x,y] 0))=some (.pv x):=fun H x y=>rfl
 have q0:∀ H (x y:PV),place H 0 (.pv (.rp [x,y] 0))=some (.pv (.rp [x,y] 0)):=fun H x y=>rfl
 rcases h2 with⟨rfl,h6,h7,hnone⟩ | ⟨nl,bs,rfl,h8',hnl,hsome,hlen,hby⟩
 ·refine⟨fun _=> ?_,fun bs hbs=>by rw[hnone] at hbs;cases hbs⟩
  simp -implicitDefEqProofs only[Ah,SX,sevalprocAttr,qk,Cb,hP1,hQ1,r2,r0,q0,hb1,hb2,lP,lQ,No,oe,d0,d1,qe,hz,ga,za,AV.cut,oa,pa,h1',h6,h7]
 ·refine⟨fun hn=>(by rw[hsome] at hn;cases hn),fun bs' hbs=> ?_⟩
  rw[hsome] at hbs;injection hbs with hbs;subst hbs
  cases nl with
  |true=>
   have:=hnl rfl;subst this
   refine⟨.fa,?_,.inl ⟨rfl,rfl⟩,hlen,hby⟩
   simp -implicitDefEqProofs only[Ah,SX,sevalprocAttr,qk,Cb,hP1,hQ1,r2,r0,q0,hb1,hb2,lP,lQ,No,oe,d0,d1,qe,hz,ga,za,AV.cut,oa,pa,h1',h8']
  |false=>
   refine⟨.lit 1 (bs.map (PV.int .u8)),?_,.inr rfl,hlen,hby⟩
   simp -implicitDefEqProofs only[Ah,SX,sevalprocAttr,qk,Cb,hP1,hQ1,r2,r0,q0,hb1,hb2,lP,lQ,No,oe,d0,d1,qe,hz,ga,za,AV.cut,oa,pa,h1',h8']
end Go.AM.B1
namespace Go.AM.B1
open Go.AM Go.AM.So
def Qa:List (List (Int×Int))→Int
 | []=>1
 |l::r=>Qa r * Lc 0 l
theorem Ng:∀ {ls:List (List (Int×Int))},(∀ l∈ls,Hd l)→1≤Qa ls
 | [],_=>by simp[Qa]
 |l::r,h=>by
  have h1:=Ng (ls:=r) fun x hx=>h x (by simp[hx])
  have h2:=(ri (h l (by simp))).1
  rw[Qa]
  have:=Int.mul_le_mul h1 h2 (by omega) (by omega);omega
theorem Ix:∀ (ls:List (List (Int×Int))) (n:Int),(∀ l∈ls,Hd l)→1≤n→n≤1073741825→Vg n ls=if 1073741825 < n * Qa ls then 1073741825 else n * Qa ls
 | [],n,_,h1,h2=>by rw[Vg,Qa,Int.mul_one,if_neg (by omega)]
 |l::r,n,h,h1,h2=>by
  have hs:=ri (h l (by simp))
  have hm:=sw h1 h2 hs.1 hs.2
  have hp:=Ng (ls:=r) fun x hx=>h x (by simp[hx])
  have e:n * (Qa r * Lc 0 l)=(n * Lc 0 l) * Qa r:=by rw[Int.mul_comm (Qa r),Int.mul_assoc]
  rw[Vg,Qa,e]
  by_cases hc:1073741825 < n * Lc 0 l
  ·rw[if_pos hc,Ix r _ (fun x hx=>h x (by simp[hx])) (by omega) (by omega)]
   have h3:n * Lc 0 l * 1≤n * Lc 0 l * Qa r:=Int.mul_le_mul_of_nonneg_left hp (by omega)
   rw[if_pos (show 1073741825 < n * Lc 0 l * Qa r by omega)]
   split
   ·rfl
   ·have h4:1073741825 * 1≤1073741825 * Qa r:=Int.mul_le_mul_of_nonneg_left hp (by omega)
    omega
  ·rw[if_neg hc,Ix r _ (fun x hx=>h x (by simp[hx])) (by omega) (by omega)]
theorem ue.prod {s:mc} (h:ue s):Vg 1 s.parts=Qa s.parts∧Qa s.parts≤1073741824:=by
 have h1:=Ix s.parts 1 h.parts (by omega) (by omega)
 have h2:=h.last
 have h3:=h.f0
 unfold yh at h2
 rw[Int.one_mul] at h1
 split at h1
 ·omega
 ·exact⟨h1,by omega⟩
theorem ue.yh {s:mc} (h:ue s):B1.yh s=s.first+Qa s.parts - 1:=by
 unfold B1.yh;rw[h.prod.1]
theorem rl {ls:List (List (Int×Int))} (h:∀ l∈ls,Hd l) (i:Nat):Qa (ls.drop i)≤Qa ls:=by
 induction ls generalizing i with
 |nil=>simp
 |cons l r ih=>
  cases i with
  |zero=>simp
  |succ i=>
   rw[List.drop_succ_cons,Qa]
   have h1:=ih (fun x hx=>h x (by simp[hx])) i
   have h2:=(ri (h l (by simp))).1
   have hp:=Ng (ls:=r) fun x hx=>h x (by simp[hx])
   have:Qa r * 1≤Qa r * Lc 0 l:=Int.mul_le_mul_of_nonneg_left h2 (by omega)
   omega
def Yp (l:List Int) (fl:Nat) (nl:Bool):ba:= .seq 1 false (Ja l) fl nl
section
variable {A:List ba} {id n fl:Nat} {nl:Bool} {l:List Int} (hg:A[id]? =some (Yp l fl nl)) (hn:n=l.length) (hf:fl≤n)
include hg hn
theorem ZD (hf:fl≤n) {i:Int} {k:Nat} (hi:i=(k:Int)) (hk:k < n):wa A 1 (.own id n) i=some (.Fc id n k):=by
 have:=ib l
 subst hi
 simp only[wa,hg,Yp]
 rw[if_pos (by refine⟨trivial,?_,?_⟩ <;> first | (unfold Ga;omega) | (unfold Ih;omega))]
 simp
theorem FC {k:Nat} (hk:k < n) (v:Int):La A 1 (.Fc id n k) (.pv (i64 v))=some (A.set id (Yp (l.set k v) n nl)):=by
 have hl:=ib l
 have hc:(AV.pv (i64 v)).cells=[.pv (i64 v)]:=rfl
 simp only[La,hg,Yp,hc]
 rw[if_pos ⟨rfl,rfl⟩,if_pos ⟨by omega,by omega⟩,na,na,Li]
theorem gP (d:Nat):Vb A (d+1) (.own id n)=some (if nl then .fa else .lit 1 (l.map i64)):=by
 have hl:=ib l
 subst hn
 simp only[Vb,hg,Yp]
 have hm:Pa (Vb A d) (Ja l)=some (l.map i64):=by rw[vt,eC]
 have hck:∀ l:List Int,chunk 1 false l.length (l.map i64)=l.map i64:=by
  intro l
  induction l with
  |nil=>rfl
  |cons a l ih=>simp only[List.map_cons,List.length_cons,chunk,Bool.false_eq_true,if_false,List.headD_cons,List.drop_succ_cons,List.drop_zero];rw[ih]
 rw[if_pos ⟨by omega,by rfl⟩,hm]
 cases nl with
 |true=>rfl
 |false=>simp only[Bool.false_eq_true,if_false,Option.map_some,hck]
end
theorem BI (l:List Int) (fl:Nat) (nl:Bool) (n:Nat):oa n (Yp l fl nl)=some (Yp l fl nl):=by
 have:(Ja l).all (AV.Te n deep)=true:=by
  rw[List.all_eq_true]
  intro v hv
  obtain⟨p,_,rfl⟩:=List.mem_map.1 hv
  rfl
 simp[oa,Yp,this]
def yl (ls:List (List (Int×Int))) (i:Nat):List Int:=(List.range (ls.length+1)).map fun j=>if i < j then Qa (ls.drop j) else 0
theorem zw (ls:List (List (Int×Int))) (i:Nat):(yl ls i).length=ls.length+1:=by simp[yl]
theorem BQ (ls:List (List (Int×Int))) (i:Nat) (hi:i < ls.length):(yl ls (i+1)).set (i+1) (Qa (ls.drop (i+1)))=yl ls i:=by
 apply List.ext_getElem
 ·simp[yl]
 ·intro j h1 h2
  rw[List.getElem_set]
  simp only[yl,List.getElem_map,List.getElem_range]
  by_cases hj:i+1=j
  ·subst hj;simp
  ·rw[if_neg hj]
   by_cases h:i+1 < j
   ·rw[if_pos h,if_pos (by omega)]
   ·rw[if_neg h,if_neg (by omega)]
def Bg (ls:List (List (Int×Int))):List Int:=(List.range (ls.length+1)).map fun j=>Qa (ls.drop j)
theorem zL (ls:List (List (Int×Int))):(yl ls 0).set 0 (Qa ls)=Bg ls:=by
 apply List.ext_getElem
 ·simp[yl,Bg]
 ·intro j h1 h2
  rw[List.getElem_set]
  simp only[yl,Bg,List.getElem_map,List.getElem_range]
  by_cases hj:0=j
  ·subst hj;simp
  ·rw[if_neg hj,if_pos (by omega)]
abbrev xN (row:List PV) (m:Nat) (n i:Int):Tr:=(((Tr.lf.set 5 (.pv (i64 i))).set 4 (.pv (i64 n))).set 3 (.own 0 m)).set 1 (.pv (.rp row 0))
theorem Zz {e:PV} {s:mc} {P:PV} {ps:List PV} (h:bf e s P ps) (Aa:ue s):Fj [e]=some (.lit 1 ((Bg s.parts).map i64)):=by
 obtain⟨hP1,hP2⟩:=h.Dv
 have heq:=h.eq
 subst heq
 have hP:=h.parts
 have lP:=hP.Tb
 have h8:=Aa.hi
 have hpr:=Aa.prod.2
 have hloop:Ld (fun r=>∃ E,r=(.exit 0,⟨E,[Yp (yl s.parts 0) (s.parts.length+1) false]⟩)∧E.get 3= .own 0 (s.parts.length+1)∧E.get 4= .pv (i64 (Qa s.parts)))
  (fb (ma (ta (Ca (fun _=>none) 8) sh) (ga 1 [1,3,4,5])) qa ⟨xN [P,i64 s.first] (s.parts.length+1) 1 s.parts.length,[Yp (yl s.parts s.parts.length) 0 false]⟩):=by
  refine xa (Np (g:=ma (ta (Ca (fun _=>none) 8) sh) (ga 1 [1,3,4,5]))
   (fun i t=>∃ fl,i≤s.parts.length∧t=⟨xN [P,i64 s.first] (s.parts.length+1) (Qa (s.parts.drop i)) i,[Yp (yl s.parts i) fl false]⟩∧fl≤s.parts.length+1∧(i < s.parts.length∨s.parts.length=0→fl=s.parts.length+1∨s.parts.length=0))
   qa s.parts.length _ (by unfold qa;omega) ⟨0,Nat.le_refl _,by rw[List.drop_length];rfl,by omega,fun h=>by omega⟩ ?_) (fun r h=>h.2)
  rintro i t ⟨fl,hi,rfl,hfl,hfl2⟩
  cases i with
  |zero=>
   have h1:=Aa.lo
   have:fl=s.parts.length+1:=by rcases hfl2 (.inl (by omega)) with h | h <;> omega
   subst this
   have e1:decide (((0:Nat):Int) > 0)=false:=by decide
   generalize hQ:LQ _ _ _=Q
   simp -implicitDefEqProofs only[SX,sevalprocAttr,-List.reduceReplicate,sh,e1,xN]
   subst hQ
   exact⟨_,rfl,by simp[Tr.aa],by simp[Tr.aa]⟩
  |succ i=>
   have e1:decide (((i+1:Nat):Int) > 0)=true:=Ea (by omega)
   have t1:IntKind.i64.wrap (((i+1:Nat):Int) - 1)=(i:Int):=by rw[Ba (by omega)];omega
   have hg:[Yp (yl s.parts (i+1)) fl false][0]? =some (Yp (yl s.parts (i+1)) fl false):=rfl
   have a1:=ZD hg (n:=s.parts.length+1) (zw _ _).symm hfl (i:=((i+1:Nat):Int)) rfl (by omega)
   have s1:=FC hg (n:=s.parts.length+1) (zw _ _).symm (k:=i+1) (by omega) (Qa (s.parts.drop (i+1)))
   rw[List.set_cons_zero,BQ s.parts i (by omega)] at s1
   obtain⟨v,hv,hpt,_⟩:=hP.Pd (i:=i) (by omega) []
   have a2:=hP.Xv hv
   have hpo:=Aa.parts s.parts[i] (List.getElem_mem (by omega))
   have hss:=jw v s.parts[i] hpt.is hpt.sz hpo.2
   have hd:s.parts.drop i=s.parts[i]::s.parts.drop (i+1):=List.drop_eq_getElem_cons (by omega)
   have hpd:Qa (s.parts.drop i)=Qa (s.parts.drop (i+1)) * Lc 0 s.parts[i]:=by rw[hd,Qa]
   have hle:=rl Aa.parts i
   have hpos:=Ng (ls:=s.parts.drop i) fun x hx=>Aa.parts x (List.mem_of_mem_drop hx)
   rw[hpd] at hle hpos
   generalize s.parts[i]=l at *
   have t3:IntKind.i64.wrap (Qa (s.parts.drop (i+1)) * Lc 0 l)=Qa (s.parts.drop (i+1)) * Lc 0 l:=Ba (by omega)
   have r0:∀ H (x y:PV),ya H false 1 (.pv (.rp [x,y] 0))=some (.pv x):=fun H x y=>rfl
   have r1:∀ H (x:PV),ya H false 1 (.pv (.rp [x] 0))=some (.pv x):=fun H x=>rfl
   have q0:∀ H (x y:PV),place H 0 (.pv (.rp [x,y] 0))=some (.pv (.rp [x,y] 0)):=fun H x y=>rfl
   have hcut:∀ l' fl',Pa (oa 1) [Yp l' fl' false]=some [Yp l' fl' false]:=fun l' fl'=>by simp[Pa,BI]
   have hz:(0 < 1)=True:=by simp
   have htk:∀ o:ba,[o].take 1=[o]:=fun o=>rfl
   generalize hQ:LQ _ _ _=Q
   simp -implicitDefEqProofs only[SP,WP,na,sevalprocAttr,-List.reduceReplicate,sh,e1,t1,t3,a1,s1,a2,hss,r0,r1,q0,hcut,hz,htk,ga,za,AV.cut,pa,xN]
   subst hQ
   exact⟨i,by omega,s.parts.length+1,by omega,by rw[hpd],by omega,fun _=> .inl rfl⟩
 obtain⟨r,h1,E,rfl,hE3,hE4⟩:=ec hloop
 have h1':fb (ma (ta (Ca (fun _=>none) 8) sh) (ga 1 [1,3,4,5])) qa ⟨(((Tr.lf.set 5 (.pv (i64 s.parts.length))).set 4 (.pv (.int .i64 1))).set 3 (.own 0 (s.parts.length+1))).set 1 (.pv (.rp [P,i64 s.first] 0)),[Yp (yl s.parts s.parts.length) 0 false]⟩=_:=h1
 have hz0:ba.seq 1 false (xj [PV.int .i64 0] (s.parts.length+1)) 0 false=Yp (yl s.parts s.parts.length) 0 false:=by
  rw[SF,Yp]
  congr 2
  apply List.ext_getElem
  ·simp[yl]
  ·intro j hj1 hj2
   simp at hj1
   simp only[yl,List.getElem_replicate,List.getElem_map,List.getElem_range]
   rw[if_neg (by omega)]
 have t1:IntKind.i64.wrap ((s.parts.length:Int)+1)=((s.parts.length+1:Nat):Int):=Ba (by omega)
 have e2:(0≤((s.parts.length+1:Nat):Int))=True:=by simp;omega
 have e3:(((s.parts.length+1:Nat):Int)≤((s.parts.length+1:Nat):Int))=True:=by simp
 have e4:mb (s.parts.length+1) 8:=by unfold mb;omega
 have hg:[Yp (yl s.parts 0) (s.parts.length+1) false][0]? =some (Yp (yl s.parts 0) (s.parts.length+1) false):=rfl
 have a1:=ZD hg (n:=s.parts.length+1) (zw _ _).symm (Nat.le_refl _) (i:=0) (k:=0) rfl (by omega)
 have s1:=FC hg (n:=s.parts.length+1) (zw _ _).symm (k:=0) (by omega) (Qa s.parts)
 rw[List.set_cons_zero,zL] at s1
 have hpv:=gP (A:=[Yp (Bg s.parts) (s.parts.length+1) false]) (id:=0) (n:=s.parts.length+1) rfl (by simp[Bg]) 5
 rw[if_neg (by simp)] at hpv
 have r0:∀ H (x y:PV),ya H false 1 (.pv (.rp [x,y] 0))=some (.pv x):=fun H x y=>rfl
 have q0:∀ H (x y:PV),place H 0 (.pv (.rp [x,y] 0))=some (.pv (.rp [x,y] 0)):=fun H x y=>rfl
 have hcut:∀ l' fl',Pa (oa 1) [Yp l' fl' false]=some [Yp l' fl' false]:=fun l' fl'=>by simp[Pa,BI]
 have hz:(0 < 1)=True:=by simp
 have htk:∀ o:ba,[o].take 1=[o]:=fun o=>rfl
 generalize s.parts.length+1=m at *
 simp -implicitDefEqProofs only[Fj,SP,WP,na,sevalprocAttr,-List.reduceReplicate,er,Cb,hP1,r0,q0,lP,t1,e2,e3,eq_true e4,hz0,hcut,hz,htk,ga,za,AV.cut,h1',hE3,hE4,a1,s1,hpv,pa]
end Go.AM.B1
namespace Go.AM.B1
open Go.AM Go.AM.So
def xq:List (List (Int×Int))→List Int→Int→Option Int
 |l::r,x::b,k=>if (sg x 0 l).2=true then xq r b (k+(sg x 0 l).1 * Qa r) else none
 |_,_,k=>some k
def By (s:mc) (b:List Int):Option Int:=if b.length=s.parts.length then xq s.parts b 0 else none
theorem vB {top x:Int}:∀ {l:List (Int×Int)} {last n:Int},Na top last l=true→(sg x n l).2=true→n≤(sg x n l).1∧(sg x n l).1 < n+Lc 0 l
 | [],last,n,_,h=>by simp[sg] at h
 |p::l,last,n,hv,h=>by
  obtain⟨h1,h2,h3,h4,h5⟩:=ee hv
  have hs:=(Gn h5).1
  rw[sg] at h ⊢
  rw[Lc,Vz]
  by_cases c1:x < p.1
  ·rw[if_pos c1] at h;cases h
  ·rw[if_neg c1] at h ⊢
   by_cases c2:x≤p.2
   ·rw[if_pos c2];simp only;omega
   ·rw[if_neg c2] at h ⊢
    have:=vB h5 h;omega
theorem ZG {l:List (Int×Int)} (h:Na 255 (-2) l=true):Dx l=l:=by unfold Dx;rw[if_pos h]
theorem AD (H:List ba) {sz k:Nat} {es:List PV} (hz:0 < sz) (hk:k≤es.length):Ze H sz (.pv (.lit sz es)) (some (k:Int)) none=some (.pv (.lit sz (es.drop k))):=by
 simp only[Ze,Option.getD_some,Option.getD_none]
 rw[if_pos ⟨hz,trivial,by omega,by omega,by omega⟩]
 simp
theorem yD (b:List Int) (k:Int):xq [] b k=some k:=by cases b <;> rfl
abbrev GI (row:List PV) (B S:PV) (n i k:Int):Tr:=(((((Tr.lf.set 26 (.pv (i64 i))).set 25 (.pv (i64 n))).set 24 (.pv S)).set 6 (.pv (i64 k))).set 2 (.pv (.rp row 0))).set 1 (.pv B)
structure Oq (B:PV) (bs:List Int):Prop where
 is:Th 1 B (bs.map (PV.int .u8))
 fI:∀ b∈bs,0≤b∧b≤255
theorem Oq.Tb {B:PV} {bs:List Int} (h:Oq B bs) (H:List ba):Go.AM.Tb H 0 (.pv B)=some bs.length:=by
 rw[h.is.len];simp
theorem Oq.one {B:PV} {bs:List Int} (h:Oq B bs):(AV.pv B).one=true:=by
 rcases h.is with⟨h,_⟩ | h <;> rw[h] <;> rfl
theorem Oq.Pd {B:PV} {bs:List Int} (h:Oq B bs) {i:Nat} (hi:i < bs.length) (H:List ba):wa H 1 (.pv B) (i:Int)=some (.pv (.rp [.int .u8 bs[i]] 0)):=by
 have hl:=h.is.lit (i:=i) (by simpa using hi)
 rw[hl]
 simp only[wa]
 rw[if_pos (by unfold Ga;simp;omega),Int.toNat_natCast,List.getElem?_map,List.getElem?_eq_getElem hi];rfl
theorem rD {e:PV} {s:mc} {P:PV} {ps:List PV} (h:bf e s P ps) {B:PV} {bs:List Int} (hB:Oq B bs) (Aa:ue s):
 (∀ k,By s bs=some k→ui [e,B]=some (.oc [i64 k,.bool true]))∧(By s bs=none→ui [e,B]=some (.oc [i64 0,.bool false])):=by
 obtain⟨b1,hb1,hb1'⟩:=ll h
 have:=hb1'.2 Aa
 subst this
 have hst:=Zz h Aa
 obtain⟨hP1,hP2⟩:=h.Dv
 have heq:=h.eq
 subst heq
 have hP:=h.parts
 have lP:=hP.Tb
 have lB:=hB.Tb
 have hB1:=hB.one
 have h8:=Aa.hi
 have hpr:=Aa.prod.2
 have r2:∀ H (x y:PV),ya H true 2 (.pv (.rp [x,y] 0))=some (.pv (.agg [x,y])):=fun H x y=>rfl
 have r0:∀ H (x y:PV),ya H false 1 (.pv (.rp [x,y] 0))=some (.pv x):=fun H x y=>rfl
 have r1:∀ H (x:PV),ya H false 1 (.pv (.rp [x] 0))=some (.pv x):=fun H x=>rfl
 have q0:∀ H (x y:PV),place H 0 (.pv (.rp [x,y] 0))=some (.pv (.rp [x,y] 0)):=fun H x y=>rfl
 by_cases hlen:bs.length=s.parts.length
 ·have hrk:By s bs=xq s.parts bs 0:=by unfold By;rw[if_pos hlen]
  have hsl:∀ H,Ze H 1 (.pv (.lit 1 ((Bg s.parts).map i64))) (some 1) none=some (.pv (.lit 1 (((Bg s.parts).map i64).drop 1))):=fun H=>AD H (k:=1) (by omega) (by simp[Bg])
  have hdl:(((Bg s.parts).map i64).drop 1).length=s.parts.length:=by simp[Bg]
  have hde:∀ i,i < s.parts.length→(((Bg s.parts).map i64).drop 1)[i]? =some (i64 (Qa (s.parts.drop (i+1)))):=by
   intro i hi
   rw[List.getElem?_drop,List.getElem?_map,Bg,List.getElem?_map,List.getElem?_range (by omega),Nat.add_comm 1 i];rfl
  generalize ((Bg s.parts).map i64).drop 1=S at *
  have hloop:Ld (fun r=>∃ E,(r=(.ret,⟨E,[]⟩)∧E.get 4= .pv (i64 0)∧E.get 5= .pv (.bool false)∧xq s.parts bs 0=none)∨(∃ k,r=(.exit 0,⟨E,[]⟩)∧E.get 6= .pv (i64 k)∧xq s.parts bs 0=some k))
   (fb (ma (ta (Ca (fun _=>none) 8) Sg) (ga 0 [1,2,6,24,25,26])) qa ⟨GI [P,i64 s.first] B (.lit 1 S) s.parts.length 0 0,[]⟩):=by
   refine xa (yb (g:=ma (ta (Ca (fun _=>none) 8) Sg) (ga 0 [1,2,6,24,25,26]))
    (fun i t=>∃ k,t=⟨GI [P,i64 s.first] B (.lit 1 S) s.parts.length i k,[]⟩∧0≤k∧k+Qa (s.parts.drop i)≤Qa s.parts∧xq s.parts bs 0=xq (s.parts.drop i) (bs.drop i) k)
    s.parts.length (by unfold qa;omega) _ ⟨0,rfl,by omega,by simp,rfl⟩ ?_ ?_) (fun r h=>h.2)
   ·rintro i t hi ⟨k,rfl,hk0,hk1,hs⟩
    obtain⟨v,hv,hpt,_⟩:=hP.Pd hi []
    have a2:=hP.Xv hv
    have hpo:=Aa.parts s.parts[i] (List.getElem_mem hi)
    have hib:i < bs.length:=by omega
    have a3:=hB.Pd hib
    have hbr:=hB.fI bs[i] (List.getElem_mem hib)
    have hd:s.parts.drop i=s.parts[i]::s.parts.drop (i+1):=List.drop_eq_getElem_cons hi
    have hdb:bs.drop i=bs[i]::bs.drop (i+1):=List.drop_eq_getElem_cons hib
    have hrr:=Jv v s.parts[i] hpt.is hpt.sz bs[i]
    rw[ZG hpo.2] at hrr
    have hrb:=vB (x:=bs[i]) (n:=0) hpo.2
    rw[hd,Qa] at hk1
    rw[hd,hdb,xq] at hs
    have hle:=rl Aa.parts (i+1)
    have hpos:=Ng (ls:=s.parts.drop (i+1)) fun x hx=>Aa.parts x (List.mem_of_mem_drop hx)
    have hsz:=ri hpo
    generalize s.parts[i]=l at *
    generalize bs[i]=x at *
    have e1:decide ((i:Int) < (s.parts.length:Int))=true:=Ea (by omega)
    have t2:=Va hi (by unfold maxLen;omega)
    have t3:IntKind.i64.wrap x=x:=Ba (by omega)
    have a1:∀ H,wa H 1 (.pv (.lit 1 S)) (i:Int)=some (.pv (.rp [i64 (Qa (s.parts.drop (i+1)))] 0)):=fun H=>by
     simp only[wa]
     rw[if_pos (by unfold Ga;simp;omega),Int.toNat_natCast,hde i hi];rfl
    obtain⟨⟨d,is⟩,hrk2⟩:∃ r,r=sg x 0 l:=⟨_,rfl⟩
    rw[← hrk2] at hrr hs hrb
    generalize hQ:LN _ _ i=Q
    cases is with
    |false=>
     simp only[Bool.false_eq_true,if_false] at hs
     simp -implicitDefEqProofs only[SX,sevalprocAttr,-List.reduceReplicate,Sg,e1,a1,a2,a3,r0,r1,q0,t3,hrr,GI]
     subst hQ
     exact⟨_,.inl ⟨rfl,by simp[Tr.aa],by simp[Tr.aa],hs⟩⟩
    |true=>
     simp only[if_true] at hs
     have hb2:=hrb rfl
     simp only at hb2
     have hmul:d * Qa (s.parts.drop (i+1))+Qa (s.parts.drop (i+1))≤Qa (s.parts.drop (i+1)) * Lc 0 l:=by
      have h1:(d+1) * Qa (s.parts.drop (i+1))≤Lc 0 l * Qa (s.parts.drop (i+1)):=Int.mul_le_mul_of_nonneg_right (by omega) (by omega)
      rw[Int.add_mul,Int.one_mul,Int.mul_comm (Lc 0 l)] at h1
      exact h1
     have hm0:0≤d * Qa (s.parts.drop (i+1)):=Int.mul_nonneg (by omega) (by omega)
     have t4:IntKind.i64.wrap (d * Qa (s.parts.drop (i+1)))=d * Qa (s.parts.drop (i+1)):=Ba (by omega)
     have t5:IntKind.i64.wrap (k+d * Qa (s.parts.drop (i+1)))=k+d * Qa (s.parts.drop (i+1)):=Ba (by omega)
     simp -implicitDefEqProofs only[SX,sevalprocAttr,-List.reduceReplicate,Sg,e1,t2,t4,t5,a1,a2,a3,r0,r1,q0,t3,hrr,ga,za,AV.cut,pa,GI]
     subst hQ
     exact⟨_,rfl,by omega,by omega,hs⟩
   ·rintro t ⟨k,rfl,hk0,hk1,hs⟩
    rw[List.drop_length,yD] at hs
    have e1:decide ((s.parts.length:Int) < (s.parts.length:Int))=false:=Fa (by omega)
    generalize hQ:(fun r:Ex×St=>r.1.stop=true∧_)=Q
    simp -implicitDefEqProofs only[SX,sevalprocAttr,-List.reduceReplicate,Sg,e1,GI]
    subst hQ
    exact⟨rfl,_,.inr ⟨k,rfl,by simp[Tr.aa],hs⟩⟩
  obtain⟨r,h1,E,h2⟩:=ec hloop
  have h1':fb (ma (ta (Ca (fun _=>none) 8) Sg) (ga 0 [1,2,6,24,25,26])) qa ⟨(((((Tr.lf.set 26 (.pv (.int .i64 0))).set 25 (.pv (i64 s.parts.length))).set 24 (.pv (.lit 1 S))).set 6 (.pv (.int .i64 0))).set 2 (.pv (.rp [P,i64 s.first] 0))).set 1 (.pv B),[]⟩=some r:=h1
  have d1:((bs.length:Int) != (s.parts.length:Int))=false:=by rw[hlen];simp
  rw[hrk]
  rcases h2 with⟨rfl,h4,h5,hn⟩ | ⟨k,rfl,h6,hk⟩
  ·refine⟨fun k hk=>by (rw[hn] at hk;cases hk),fun _=> ?_⟩
   simp -implicitDefEqProofs only[ui,SX,sevalprocAttr,-List.reduceReplicate,um,Cb,hP1,hB1,r2,r0,q0,hb1,lP,lB,d1,hst,hsl,hdl,ga,za,AV.cut,pa,h1',h4,h5]
  ·refine⟨fun k' hk'=> ?_,fun hn=>by (rw[hk] at hn;cases hn)⟩
   obtain rfl:k=k':=Option.some.inj (hk.symm.trans hk')
   simp -implicitDefEqProofs only[ui,SX,sevalprocAttr,-List.reduceReplicate,um,Cb,hP1,hB1,r2,r0,q0,hb1,lP,lB,d1,hst,hsl,hdl,ga,za,AV.cut,pa,h1',h6]
 ·have d1:((bs.length:Int) != (s.parts.length:Int))=true:=by
   have:(bs.length:Int)≠(s.parts.length:Int):=by omega
   simp[this]
  have hrk:By s bs=none:=by unfold By;rw[if_neg hlen]
  refine⟨fun k hk=>by (rw[hrk] at hk;cases hk),fun _=> ?_⟩
  simp -implicitDefEqProofs only[ui,SX,sevalprocAttr,-List.reduceReplicate,um,Cb,hP1,hB1,r2,r0,q0,hb1,lP,lB,d1]
end Go.AM.B1
