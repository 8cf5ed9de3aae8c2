/- What functions of the program compute. -/
import Derived.Test.YtijlhblleiaomaaGreatV5
import Derived.Test.YtijlhblleiaomaaGreatV4
set_option linter.unusedVariables false
set_option linter.unusedSimpArgs false
namespace Go.AM.B1
open Go.AM
def Bv (n:Nat) (O:List Int):Prop:=O.Nodup∧∀ o∈O,0≤o∧o < (n:Int)
theorem LA:∀ (n:Nat) (O:List Int),O.Nodup→(∀ o∈O,0≤o∧o < (n:Int))→O.length≤n
 |0,O,_,h=>by
  cases O with
  |nil=>simp
  |cons a O=>have:=h a (by simp);omega
 |n+1,O,hd,h=>by
  have ih:=LA n (O.erase n) (hd.erase _) (fun o ho=>by
   have h1:=h o (List.mem_of_mem_erase ho)
   have h2:o≠n:=(hd.mem_erase_iff.1 ho).1
   omega)
  rw[List.length_erase] at ih
  split at ih <;> omega
theorem Bv.len {n:Nat} {O:List Int} (h:Bv n O):O.length≤n:=LA n O h.1 h.2
theorem sA {a:Int}:∀ {l:List Int} {k:Nat},Rt a l k=none→a ∉ l
 | [],_,_=>by simp
 |b::l,k,h=>by
  simp only[Rt] at h
  split at h
  ·cases h
  ·next hne=>simp only[List.mem_cons,not_or];exact⟨hne,sA h⟩
def zd (ib:List Int):List Nat→List Int×List Int→List Int×List Int
 | [],r=>r
 |x::xs,r=>zd ib xs (Ai x (ib.getD x 0) r)
theorem WU {n:Nat} {x:Nat} {to:Int} {r:List Int×List Int} (hto:to < n) (h:Bv n r.1):Bv n (Ai x to r).1∧(Ai x to r).2.length=r.2.length∧∃ t,(Ai x to r).1=r.1++t:=by
 unfold Ai
 by_cases h0:to < 0
 ·rw[if_pos h0];exact⟨h,rfl,[],by simp⟩
 ·rw[if_neg h0]
  cases hi:Rt to r.1 0 with
  |some k=>exact⟨h,by simp,[],by simp⟩
  |none=>
   have hn:=sA hi
   refine⟨⟨?_,?_⟩,by simp,[to],rfl⟩
   ·simp only[List.nodup_append,h.1,true_and]
    refine⟨by simp,?_⟩
    intro a ha b hb
    simp at hb;subst hb
    intro e;subst e;exact hn ha
   ·intro o ho
    rcases List.mem_append.1 ho with h1 | h1
    ·exact h.2 o h1
    ·simp at h1;subst h1;omega
section
variable (call:Wa) (R0 R1:ba) (S:PV) (nl nr:Bool) (fr:Nat) (sets:List Al) (C:List Int) (n:Nat) (L M:ba)
theorem IN (O:List Int) (out:List PV) (no:Bool) (J:List ba) (k:Int) (ib:List Int) (q:Nat) (hq13:q=J.length+1+1+1+1+1+1+1+1+1+1+1+1+1)
 (hO:Bv n O) (hn:n≤64) (hrow:ib.length=256) (hto:∀ to∈ib,to < n):
 ab (ga (ua call fc) (fun s=>some (tidy [0,2,3,4,5,6,7,31,32] s))) qa ⟨Hx q k O ib 0,Mn R0 R1 S nl nr fr sets C n L M O out no (J++[.box (Ka ib)])⟩=
  some (.exit 2,⟨(Hx q k (zd ib (List.range 256) (O,ib)).1 ib 256).set 33 (.pv (.bool false)),
   Mn R0 R1 S nl nr fr sets C n L M (zd ib (List.range 256) (O,ib)).1 out no (J++[.box (Ka (zd ib (List.range 256) (O,ib)).2)])⟩)∧
  Bv n (zd ib (List.range 256) (O,ib)).1∧(zd ib (List.range 256) (O,ib)).2.length=256∧∃ t,(zd ib (List.range 256) (O,ib)).1=O++t:=by
 generalize hxs:List.range 256=xs
 have key:=al (g:=ga (ua call fc) (fun s=>some (tidy [0,2,3,4,5,6,7,31,32] s)))
  (fun x t=>∃ r,Bv n r.1∧r.2.length=256∧(∃ t,r.1=O++t)∧t=⟨Hx q k r.1 ib x,Mn R0 R1 S nl nr fr sets C n L M r.1 out no (J++[.box (Ka r.2)])⟩∧zd ib xs (O,ib)=zd ib (xs.drop x) r)
  (fun ex t=>ex= .exit 2∧t=⟨(Hx q k (zd ib xs (O,ib)).1 ib 256).set 33 (.pv (.bool false)),Mn R0 R1 S nl nr fr sets C n L M (zd ib xs (O,ib)).1 out no (J++[.box (Ka (zd ib xs (O,ib)).2)])⟩∧
   Bv n (zd ib xs (O,ib)).1∧(zd ib xs (O,ib)).2.length=256∧∃ t,(zd ib xs (O,ib)).1=O++t)
  qa 256 0 ⟨Hx q k O ib (0:Nat),Mn R0 R1 S nl nr fr sets C n L M O out no (J++[.box (Ka ib)])⟩ (by unfold qa;omega) (by omega) ⟨(O,ib),hO,hrow,⟨[],by simp⟩,rfl,rfl⟩ ?_ ?_
 ·obtain⟨ex,t,h,_,rfl,rfl,q1,q2⟩:=key
  exact⟨h,q1,q2⟩
 ·rintro x hx t ⟨⟨O',row⟩,hO',hr',⟨tl,htl⟩,rfl,hl⟩
  have hd:=Jq hx
  rw[hxs] at hd
  obtain⟨to,ht⟩:∃ to,ib[x]? =some to:=⟨ib[x],by simp[hrow,hx]⟩
  have hgd:ib.getD x 0=to:=by simp[List.getD_eq_getElem?_getD,ht]
  have hlt:=hto to (List.mem_of_getElem? ht)
  rw[hd,zd,hgd] at hl
  have Ba:=WU (x:=x) (r:=(O',row)) hlt hO'
  refine .inl ⟨_,?_,Ai x to (O',row),Ba.1,by rw[Ba.2.1];exact hr',?_,rfl,hl⟩
  ·by_cases h0:to < 0
   ·have e:Ai x to (O',row)=(O',row):=by simp[Ai,h0]
    rw[e]
    exact CP call R0 R1 S nl nr fr sets C n L M O' out no J k ib row x to q hx ht h0
   ·have hlen:=hO'.len
    cases hi:Rt to O' 0 with
    |some j=>
     have e:Ai x to (O',row)=(O',row.set x j):=by simp[Ai,h0,hi]
     rw[e]
     exact kT call R0 R1 S nl nr fr sets C n L M O' out no J k ib row x to q hx ht hq13 hr' h0 hi
    |none=>
     have e:Ai x to (O',row)=(O'++[to],row.set x O'.length):=by simp[Ai,h0,hi]
     rw[e]
     exact KT call R0 R1 S nl nr fr sets C n L M O' out no J k ib row x to q hx ht hq13 hr' h0 hi (by simp only at hlen;omega)
  ·obtain⟨t2,h2⟩:=Ba.2.2
   exact⟨tl++t2,by rw[h2,←List.append_assoc,←htl]⟩
 ·rintro t ⟨⟨O',row⟩,hO',hr',htl,rfl,hl⟩
  rw[List.drop_eq_nil_of_le (by rw[← hxs,List.length_range];exact Nat.le_refl _),zd] at hl
  rw[hl]
  refine⟨.exit 2,_,?_,rfl,rfl,rfl,hO',hr',htl⟩
  have e1:decide (((256:Nat):Int) < 256)=false:=by decide
  simp -implicitDefEqProofs only[SP,SA,SQ,sevalprocAttr,-List.reduceReplicate,ga,fc,e1,Hx]
abbrev fB (k:Int) (O:List Int):Tr:=
 ((((((Tr.lf.set 6 (.pv (i64 k))).set 5 (.ptr 11 0)).set 4 (.uq 10 false 1 (O.map i64))).set 3 (.mp 9)).set 2 (.ptr 8 0)).set 0 (.ptr 3 0))
def dg (C:List Int) (o:Int) (O:List Int):List Int×List Int:=zd (Xa C o.toNat) (List.range 256) (O,Xa C o.toNat)
theorem QL (O:List Int) (out:List PV) (no:Bool) (J:List ba) (k:Nat) (o:Int)
 (hC:C.length=n * 256) (cC:∀ c∈C,c < n) (hfr:fr≤n * 256) (hO:Bv n O) (hn:n≤64) (hk:O[k]? =some o) (hout:out.length=k):
 ga (ua call Tc) (fun s=>some (tidy [0,2,3,4,5,6] s)) ⟨fB k O,Mn R0 R1 S nl nr fr sets C n L M O out no J⟩=
  some (.norm,⟨fB (k+1:Nat) (dg C o O).1,Mn R0 R1 S nl nr fr sets C n L M (dg C o O).1 (out++[Wd (Qf (dg C o O).2)]) false (J++[.box (Ka (dg C o O).2)])⟩)∧
  Bv n (dg C o O).1∧∃ t,(dg C o O).1=O++t:=by
 have hom:=hO.2 o (List.mem_of_getElem? hk)
 have hkl:=(List.getElem?_eq_some_iff.1 hk).1
 have hOl:=hO.len
 have hoi:o.toNat < n:=by omega
 have hr0:=Ih hC hoi
 obtain⟨hin,g1,g2,g3⟩:=IN call R0 R1 S nl nr fr sets C n L M O out no J k (Xa C o.toNat) _ rfl hO hn hr0 (fun to h=>cC to (List.mem_of_mem_drop (List.mem_of_mem_take h)))
 refine⟨?_,g1,g3⟩
 unfold dg
 generalize zd (Xa C o.toNat) (List.range 256) (O,Xa C o.toNat)=r at *
 obtain⟨O',row'⟩:=r
 simp only at g1 g2 g3 hin
 have hed:=FQ row' g2
 have hlen:(O.map i64).length=O.length:=by simp
 have e1:decide ((k:Int) < (O.length:Int))=true:=Fa (by omega)
 have t1:((k:Int)).toNat=k:=by simp
 have hq1:Ia (k:Int) O.length:=by unfold Ia;omega
 have hg:(O.map i64)[k]? =some (i64 o):=by rw[List.getElem?_map,hk];rfl
 have hq3:Ia o n:=by unfold Ia;omega
 have w2:Qh 256 n fr (Ka C).length:=by rw[pb];unfold Qh;omega
 have w4:((Ka C).length=n * 256)=True:=by rw[pb];exact eq_true hC
 have w6:(o.toNat * 256+256≤(Ka C).length)=True:=by rw[pb];exact eq_true (by omega)
 have p1:=JD C o.toNat
 have t2:=Ua (i:=k) (n:=64) (by omega) (by unfold maxLen;omega)
 have h9:((Xa C o.toNat).map i64).map AV.pv=Ka (Xa C o.toNat):=(ct _).symm
 have hz:=KY
 have p5:(256≤(Ka (List.replicate 256 0)).length)=True:=by rw[pb,List.length_replicate];exact eq_true (Nat.le_refl _)
 have p6:oa (Ka (List.replicate 256 0)) 0 (Ka (Xa C o.toNat))=Ka (Xa C o.toNat):=by
  have:=yy (Ka (Xa C o.toNat)) (Ka (List.replicate 256 0)) [] (by rw[pb,pb,hr0,List.length_replicate])
  rw[List.nil_append,List.nil_append] at this;exact this
 generalize hzs:List.replicate 256 (0:Int)=zs at *
 generalize Xa C o.toNat=ib at *
 have r0:((Ka ib).length=256)=True:=by rw[pb,hr0];exact eq_self _
 have r1:(256≤(Ka ib).length)=True:=by rw[pb,hr0];exact eq_true (Nat.le_refl _)
 have r2:List.take 256 (Ka ib)=Ka ib:=List.take_of_length_le (by rw[pb,hr0];exact Nat.le_refl _)
 have r3:=eu ib
 have r5:=wF ib
 have s1:(256≤(Ka row').length)=True:=by rw[pb,g2];exact eq_true (Nat.le_refl _)
 have s2:List.take 256 (Ka row')=Ka row':=List.take_of_length_le (by rw[pb,g2];exact Nat.le_refl _)
 have s3:=eu row'
 have q1:qb (out.length+1) 24:=by unfold qb;omega
 have hlen2:(out++[Wd (Qf row')]).length=out.length+1:=by simp
 unfold Mn
 rw[hlen2]
 have hcs:(∃ l,Wd (Qf row')= .lit 3 l)∨Wd (Qf row')= .ma:=by unfold Wd;split;exact .inr rfl;exact .inl ⟨_,rfl⟩
 generalize Wd (Qf row')=ed at *
 simp only[Hx,Mn,Th,tidy,Bc] at hin
 simp -implicitDefEqProofs only[SP,SA,SQ,sevalprocAttr,-List.reduceReplicate,ga,Tc,hlen,e1,eq_true hq1,eq_true hq3,t1,hg,eq_true w2,w4,w6,p1,h9,hz,p5,p6,r0,r1,r2,r3,r5,wo,zo,wa,Tp,tidy,Bc,fB,Th]
 rw[hin]
 rcases hcs with⟨l,rfl⟩ | rfl <;>
 simp -implicitDefEqProofs only[SP,SA,SQ,sevalprocAttr,-List.reduceReplicate,t2,s1,s2,s3,hed,lg,Dc,eq_true q1,wo,zo,wa,tidy,Bc,fB,Th,si,AV.CC,AV.Ip]
def rj (C:List Int):Nat→List Int×List (List ze)→List Int×List (List ze)
 |0,r=>r
 |f+1,r=>match r.1[r.2.length]? with
  |none=>r
  |some o=>rj C f ((dg C o r.1).1,r.2++[Qf (dg C o r.1).2])
theorem Uq {C:List Int} {f:Nat} {r:List Int×List (List ze)} (h:r.1[r.2.length]? =none):rj C f r=r:=by
 cases f with
 |zero=>rfl
 |succ f=>rw[rj,h]
theorem Mr {C:List Int} {f:Nat} {r:List Int×List (List ze)} {o:Int} (h:r.1[r.2.length]? =some o):rj C (f+1) r=rj C f ((dg C o r.1).1,r.2++[Qf (dg C o r.1).2]):=by
 rw[rj,h]
def Dn (C:List Int):List (List ze):=(rj C 64 ([0],[])).2
def qj (l:List (List ze)):PV:= .lit 1 (l.map Wd)
theorem TG (O:List Int) (out:List PV) (no:Bool) (J:List ba) (k:Nat) (hk:k=O.length):
 ga (ua call Tc) (fun s=>some (tidy [0,2,3,4,5,6] s)) ⟨fB k O,Mn R0 R1 S nl nr fr sets C n L M O out no J⟩=
  some (.exit 0,⟨((((fB k O).set 15 (.pv (i64 k))).set 16 (.uq 10 false 1 (O.map i64))).set 17 (.pv (i64 O.length))).set 18 (.pv (.bool false)),Mn R0 R1 S nl nr fr sets C n L M O out no J⟩):=by
 have hlen:(O.map i64).length=O.length:=by simp
 have e1:decide ((k:Int) < (O.length:Int))=false:=Ga (by omega)
 simp -implicitDefEqProofs only[SP,SA,SQ,sevalprocAttr,-List.reduceReplicate,ga,Tc,hlen,e1,fB,Mn,Th]
theorem UR (hC:C.length=n * 256) (cC:∀ c∈C,c < n) (hfr:fr≤n * 256) (hn:n≤64) (h0:0 < n):
 ∃ O J k,ab (ga (ua call Tc) (fun s=>some (tidy [0,2,3,4,5,6] s))) qa ⟨fB 0 [0],Mn R0 R1 S nl nr fr sets C n L M [0] [] true []⟩=
  some (.exit 0,⟨((((fB k O).set 15 (.pv (i64 k))).set 16 (.uq 10 false 1 (O.map i64))).set 17 (.pv (i64 O.length))).set 18 (.pv (.bool false)),Mn R0 R1 S nl nr fr sets C n L M O ((Dn C).map Wd) false J⟩):=by
 have key:=al (g:=ga (ua call Tc) (fun s=>some (tidy [0,2,3,4,5,6] s)))
  (fun k t=>∃ (O:List Int) (out:List (List ze)) (J:List ba),Bv n O∧out.length=k∧k≤O.length∧0 < O.length∧t=⟨fB k O,Mn R0 R1 S nl nr fr sets C n L M O (out.map Wd) (k==0) J⟩∧rj C 64 ([0],[])=rj C (64 - k) (O,out))
  (fun ex t=>∃ (O:List Int) (J:List ba) (k:Nat),ex= .exit 0∧t=⟨((((fB k O).set 15 (.pv (i64 k))).set 16 (.uq 10 false 1 (O.map i64))).set 17 (.pv (i64 O.length))).set 18 (.pv (.bool false)),Mn R0 R1 S nl nr fr sets C n L M O ((Dn C).map Wd) false J⟩)
  qa 64 0 ⟨fB (0:Nat) [0],Mn R0 R1 S nl nr fr sets C n L M [0] [] true []⟩ (by unfold qa;omega) (by omega)
   ⟨[0],[],[],⟨by simp,by intro o ho;simp at ho;omega⟩,rfl,by simp,by simp,rfl,rfl⟩ ?_ ?_
 ·obtain⟨ex,t,h,_,O,J,k,rfl,rfl⟩:=key
  exact⟨O,J,k,h⟩
 ·rintro k hk t ⟨O,out,J,hO,hout,hkO,hO0,rfl,hl⟩
  by_cases hlt:k < O.length
  ·obtain⟨o,ho⟩:∃ o,O[k]? =some o:=⟨O[k],by simp[hlt]⟩
   obtain⟨g1,g2,t,g3⟩:=QL call R0 R1 S nl nr fr sets C n L M O (out.map Wd) (k==0) J k o hC cC hfr hO hn ho (by simpa using hout)
   rw[show 64 - k=(64 - (k+1))+1 by omega,Mr (r:=(O,out)) (o:=o) (by show O[out.length]? =_;rw[hout];exact ho)] at hl
   refine .inl ⟨_,g1,_,out++[Qf (dg C o O).2],J++[.box (Ka (dg C o O).2)],g2,by simp[hout],?_,?_,?_,hl⟩
   ·rw[g3];simp;omega
   ·rw[g3];simp;omega
   ·have:(k+1==0)=false:=rfl
    rw[this];simp
  ·have hke:k=O.length:=by omega
   rw[Uq (r:=(O,out)) (by show O[out.length]? =none;rw[hout,hke];simp)] at hl
   refine .inr ⟨.exit 0,_,TG call R0 R1 S nl nr fr sets C n L M O _ _ J k hke,rfl,O,J,k,rfl,?_⟩
   have:(k==0)=false:=by simp;omega
   rw[this,Dn,hl]
 ·rintro t ⟨O,out,J,hO,hout,hkO,hO0,rfl,hl⟩
  have hke:64=O.length:=by have:=hO.len;omega
  rw[Uq (r:=(O,out)) (by show O[out.length]? =none;rw[hout,hke];simp)] at hl
  refine⟨.exit 0,_,TG call R0 R1 S nl nr fr sets C n L M O _ _ J 64 hke,rfl,O,J,64,rfl,?_⟩
  have:((64:Nat)==0)=false:=rfl
  rw[this,Dn,hl]
theorem zT (hC:C.length=n * 256) (cC:∀ c∈C,c < n) (hfr:fr≤n * 256) (hn:n≤64) (h0:0 < n):
 ∃ O J,Ri call Zi [.ptr 3 0] (Th R0 R1 S nl nr fr sets C n [L,M])=
  some (.agg [.uq 12 false 1 ((Dn C).map Wd)],Th R0 R1 S nl nr fr sets C n (L::M:: .box [.uq 12 false 1 ((Dn C).map Wd)]:: .map (pK O 0):: .tok 1 O.length false:: .box [.uq 12 false 1 ((Dn C).map Wd)]:: .tok 1 ((Dn C).map Wd).length false::J)):=by
 obtain⟨O,J,k,hl⟩:=UR call R0 R1 S nl nr fr sets C n L M hC cC hfr hn h0
 refine⟨O,J,?_⟩
 generalize (Dn C).map Wd=out at *
 have hl':ab (ga (ua call Tc) (fun s=>some ⟨((((((Tr.lf.set 6 (s.env.get 6)).set 5 (s.env.get 5)).set 4 (s.env.get 4)).set 3 (s.env.get 3)).set 2 (s.env.get 2)).set 0 (s.env.get 0)),s.H⟩)) qa
  ⟨((((((Tr.lf.set 6 (.pv (.int .i64 0))).set 5 (.ptr 11 0)).set 4 (.uq 10 false 1 [.int .i64 0])).set 3 (.mp 9)).set 2 (.ptr 8 0)).set 0 (.ptr 3 0)),[R0,R1,.map (mC sets 0),.box [.pv S,.mp 2,.uq 4 nl 2 (sets.map Zh),.own 5 n],.tok 2 sets.length nl,.seq 256 true (Ka C) fr nr,L,M,.box [.pv .ma],.map [(.int .i64 0,.int .i64 0)],.tok 1 1 false,.box [.uq 12 true 1 []],.tok 1 0 true]⟩=_:=hl
 simp only[fB,Mn,Th] at hl'
 simp -implicitDefEqProofs only[SP,SA,SQ,sevalprocAttr,-List.reduceReplicate,Zi,Be,Tp,tidy,Bc,zm,Zk,js,Option.isSome_some,si,AV.CC,AV.Ip,Th]
 rw[hl']
 simp -implicitDefEqProofs only[SP,SA,SQ,sevalprocAttr,-List.reduceReplicate,Th]
end
end Go.AM.B1
namespace Go.AM.B1
open Go.AM
def Kq (n:Nat):Int:=IntKind.u32.wrap (IntKind.u32.wrap (1 * 2 ^ min n IntKind.u32.bits) - 1)
theorem qF (n:Nat):IntKind.u32.wrap (IntKind.u32.wrap (1 * 2 ^ min n IntKind.u32.bits) - 1)=Kq n:=rfl
theorem DE {n:Nat} (h:n≤32):Kq n=((2 ^ n - 1:Nat):Int):=by
 have:∀ n:Fin 33,Kq n.1=((2 ^ n.1 - 1:Nat):Int):=by decide
 exact this ⟨n,by omega⟩
theorem vO {a:Al}:∀ {l:List Al} {k i:Nat},cm a l k=some i→i < k+l.length
 |b::l,k,i,h=>by
  simp only[cm] at h
  split at h
  ·injection h with h;simp;omega
  ·have:=vO h;simp;omega
theorem CS {ss:List Lb} {a:Al} {x:Int} {sets:List Al} {r:List Al×Int} (h:Hg ss a x sets=some r):r.2 < r.1.length:=by
 unfold Hg at h
 split at h
 ·injection h with h;subst h;simp;omega
 ·split at h
  ·injection h with h;subst h;simp;omega
  ·split at h
   ·next k hk=>injection h with h;subst h;have:=vO hk;simp at this;simp;omega
   ·split at h
    ·injection h with h;subst h;simp;omega
    ·cases h
theorem UN {ss:List Lb} {a:Al}:∀ (xs:List Nat) (r r':List Al×List Int),r.1.length≤64→(∀ v∈r.2,v < r.1.length)→Pk ss a xs r=some r'→∀ v∈r'.2,v < r'.1.length
 | [],r,r',_,h,e=>by injection e with e;subst e;exact h
 |x::xs,r,r',hl,h,e=>by
  cases hst:Hg ss a x r.1 with
  |none=>rw[Tt hst] at e;cases e
  |some p=>
   rw[ft hst] at e
   have hg:=YB hst hl
   refine UN xs (p.1,r.2.set x p.2) r' hg.1 ?_ e
   intro v hv
   obtain⟨t,ht⟩:=hg.2
   rcases List.mem_or_eq_of_mem_set hv with h1 | h1
   ·have h2:=h v h1
    have:r.1.length≤p.1.length:=by rw[ht];simp
    simp only;omega
   ·rw[h1];exact CS hst
theorem iK {ss:List Lb} (hw:ss.length≤32):∀ (k:Nat) (r r':List Al×List (List Int)),pn ss r.1→(∀ l∈r.2,∀ v∈l,v < r.1.length)→Ig ss k r=some r'→(∀ l∈r'.2,∀ v∈l,v < r'.1.length)∧∃ t,r'.1=r.1++t
 |0,r,r',_,h,e=>by injection e with e;subst e;exact⟨h,[],by simp⟩
 |k+1,r,r',Ba,h,e=>by
  cases ha:r.1[r.2.length]? with
  |none=>rw[fu ha] at e;injection e with e;subst e;exact⟨h,[],by simp⟩
  |some a=>
   cases hr:Pk ss a (List.range 256) (r.1,ib) with
   |none=>rw[Hu ha hr] at e;cases e
   |some p=>
    rw[lu ha hr] at e
    obtain⟨g1,⟨t,g2⟩,g3⟩:=Cu hw (List.range 256) (r.1,ib) p Ba ha hr
    have hpos:0 < r.1.length:=by have:=(List.getElem?_eq_some_iff.1 ha).1;omega
    have g4:=UN (List.range 256) (r.1,ib) p Ba.1 (by
     intro v hv
     have:v=0:=List.eq_of_mem_replicate hv
     simp only;omega) hr
    obtain⟨k1,t2,k2⟩:=iK hw k (p.1,r.2++[p.2]) r' g1 (by
     intro l hl v hv
     rcases List.mem_append.1 hl with h1 | h1
     ·have:=h l h1 v hv
      simp only[g2,List.length_append] at this ⊢;omega
     ·simp at h1;subst h1;exact g4 v hv) e
    exact⟨k1,t++t2,by rw[k2,g2,List.append_assoc]⟩
theorem QA:∀ (rs:List (List Int)),Ka rs.flatten=rs.flatMap Ka
 | []=>rfl
 |r::rs=>by
  have:=QA rs
  rw[List.flatten_cons,dF,List.flatMap_cons,this]
def Jg (ss:List Lb):List Al:=[(0,Kq ss.length)]
theorem Nz {ss:List Lb} (hw:ss.length≤32) (hne:∀ s∈ss,0 < s.parts.length):pn ss (Jg ss):=by
 refine⟨by simp[Jg],?_⟩
 intro k a ha
 match k,ha with
 |0,ha=>
  simp only[Jg,List.getElem?_cons_zero,Option.some.injEq] at ha
  subst ha
  refine⟨by simp,2 ^ ss.length - 1,DE hw,?_,?_⟩
  ·have:2 ^ ss.length≤2 ^ 32:=Nat.pow_le_pow_right (by decide) hw
   omega
  ·intro i s hs _
   exact hne s (List.mem_of_getElem? hs)
 |k+1,ha=>simp[Jg] at ha
section
variable (R0 R1:ba) (S:PV) (ss:List Lb)
 (h0:na 7 R0=some R0) (h1:na 7 R1=some R1) (g0:na 6 R0=some R0) (g1:na 6 R1=some R1)
 (hS:Vi 2 S (ss.map Oe)) (hw:ss.length≤32) (hsz:∀ s∈ss,∀ l∈s.parts,l.length * 16≤140737488355328) (hne:∀ s∈ss,0 < s.parts.length)
include h0 h1 g0 g1 hS hw hsz hne
theorem KK:
 (∀ r,Ig ss 64 (Jg ss,[])=some r→∃ nl',Ri (Ea Da 7) mg [.ptr 3 0] (Hj R0 R1 S true [] (Rg []) 0 [])=some (.pv (.bool true),Hj R0 R1 S nl' r.1 (Rg r.2) r.2.length [])∧pn ss r.1∧r.2.length=r.1.length∧∀ r'∈r.2,r'.length=256)∧
 (Ig ss 64 (Jg ss,[])=none→∃ H,Ri (Ea Da 7) mg [.ptr 3 0] (Hj R0 R1 S true [] (Rg []) 0 [])=some (.pv (.bool false),H)∧H[0]? =some R0):=by
 have hloop:=NQ R0 R1 S false (Jg ss) ss h0 h1 g0 g1 hS hw hsz (Nz hw hne) (by simp[Jg])
 have ls:=hS.len
 simp only[List.length_map] at ls
 have hmet:Ri (Ea Da 6) Od [.ptr 3 0,.pv (.agg [.int .i64 0,.int .u32 (Kq ss.length)])] [R0,R1,.map (mC [] 0),.box [.pv S,.mp 2,.uq 4 true 2 [],.own 5 0],.tok 2 0 true,.seq 256 true [] 0 true]=some (.pv (.mc [.int .i64 0,.bool true]),Hj R0 R1 S false [(0,Kq ss.length)] (Rg []) 0 []):=
  dO (Ea Da 6) R0 R1 S true [] (Rg []) 0 [] (0,Kq ss.length) rfl (by simp)
 have n0:¬((ss.length:Int) < 0):=by omega
 have t1:((ss.length:Int)).toNat=ss.length:=by simp
 have e1:((ss.length:Int) < 0)=False:=eq_false n0
 have q5:=zw 6 6 []
 simp only[List.flatMap_nil] at q5
 simp only[Hj,Rg,List.flatMap_nil,List.isEmpty_nil] at hmet
 unfold Hj Rg
 constructor
 ·intro r hr
  obtain⟨E,nl',hl,k1,k2,k3⟩:=hloop.1 r hr
  refine⟨nl',?_,k1,k2,k3⟩
  simp -implicitDefEqProofs only[SP,SA,SQ,sevalprocAttr,-List.reduceReplicate,mg,ls,e1,t1,qF,Da,List.flatMap_nil,hmet,xb,fa,Aa,Lm,an,qn,Vt,Ma,AV.cut,Dc,h0,h1,g0,g1,q5,Hj]
  have hl':ab (ga (ua (Ea Da 7) yb) (fa 6 [0,3])) qa ⟨(Tr.lf.set 3 (.pv (.int .i64 0))).set 0 (.ptr 3 0),[R0,R1,.map (mC [(0,Kq ss.length)] 0),.box [.pv S,.mp 2,.uq 4 false 2 [Zh (0,Kq ss.length)],.own 5 0],.tok 2 1 false,.seq 256 true [] 0 true]⟩=_:=hl
  rw[hl']
  simp -implicitDefEqProofs only[SP,SA,SQ,sevalprocAttr,-List.reduceReplicate,Hj,Rg]
 ·intro hr
  obtain⟨t,hl,k2,k3⟩:=mr (hloop.2 hr)
  refine⟨t.H,?_,k3⟩
  simp -implicitDefEqProofs only[SP,SA,SQ,sevalprocAttr,-List.reduceReplicate,mg,ls,e1,t1,qF,Da,List.flatMap_nil,hmet,xb,fa,Aa,Lm,an,qn,Vt,Ma,AV.cut,Dc,h0,h1,g0,g1,q5,Hj]
  have hl':ab (ga (ua (Ea Da 7) yb) (fa 6 [0,3])) qa ⟨(Tr.lf.set 3 (.pv (.int .i64 0))).set 0 (.ptr 3 0),[R0,R1,.map (mC [(0,Kq ss.length)] 0),.box [.pv S,.mp 2,.uq 4 false 2 [Zh (0,Kq ss.length)],.own 5 0],.tok 2 1 false,.seq 256 true [] 0 true]⟩=_:=hl
  rw[hl']
  simp -implicitDefEqProofs only[SP,SA,SQ,sevalprocAttr,-List.reduceReplicate,k2]
end
def sg (ss:List Lb):Option (List (List ze)):=
 (Ig ss 64 (Jg ss,[])).map fun r=>Dn (Re r.2.length r.2.flatten).C
section
variable (S0 S:PV) (ss:List Lb) (hS0:S0= .ma∨∃ l,S0= .lit 2 l) {y:Bool} {a b e:Int}
include hS0
theorem SR (he:e≠0) (hp:Se [.agg [S0]]=some (.mc [.agg [.bool y,i64 a,i64 b],i64 e])):
 Cc [.agg [S0]]=some (.mc [.agg [.ma],i64 e]):=by
 have e1:=vi he
 rcases hS0 with rfl | ⟨l,rfl⟩ <;>
 simp -implicitDefEqProofs only[Cc,SP,SA,SQ,sevalprocAttr,-List.reduceReplicate,Bl,hp,e1,bne,lg,Dc]
theorem sV (hp:Se [.agg [S0]]=some (.mc [.agg [.bool false,i64 a,i64 b],i64 0])):
 Cc [.agg [S0]]=some (.mc [.agg [.ma],i64 110]):=by
 rcases hS0 with rfl | ⟨l,rfl⟩ <;>
 simp -implicitDefEqProofs only[Cc,SP,SA,SQ,sevalprocAttr,-List.reduceReplicate,Bl,hp,bne,lg,Dc]
variable (hp:Se [.agg [S0]]=some (.mc [.agg [.bool true,i64 a,i64 b],i64 0])) (hc:Ti [.agg [S0]]=some (.agg [S]))
 (hS:Vi 2 S (ss.map Oe)) (hw:ss.length≤32) (hsz:∀ s∈ss,∀ l∈s.parts,l.length * 16≤140737488355328) (hne:∀ s∈ss,0 < s.parts.length)
include hp hc hS hw hsz hne
theorem lN (h:sg ss=none):Cc [.agg [S0]]=some (.mc [.agg [.ma],i64 130]):=by
 have hn:Ig ss 64 (Jg ss,[])=none:=by unfold sg at h;simpa using h
 obtain⟨H,hwk,hH⟩:=(KK (.box [.pv .ma]) (.box [.pv (.bool true),.pv (i64 a),.pv (i64 b)]) S ss rfl rfl rfl rfl hS hw hsz hne).2 hn
 have hb0:Hj (.box [.pv .ma]) (.box [.pv (.bool true),.pv (i64 a),.pv (i64 b)]) S true [] (Rg []) 0 []=[.box [.pv .ma],.box [.pv (.bool true),.pv (i64 a),.pv (i64 b)],.map [],.box [.pv S,.mp 2,.uq 4 true 2 [],.own 5 0],.tok 2 0 true,.seq 256 true [] 0 true]:=rfl
 rw[hb0] at hwk
 have hS2:S= .ma∨∃ l,S= .lit 2 l:=by rcases hS with⟨h,_⟩ | h;exact .inl h;exact .inr ⟨_,h⟩
 have hH2:∀ o,(H.set 0 o)[0]? =some o:=by
  intro o
  cases H with
  |nil=>cases hH
  |cons x H=>rfl
 rcases hS0 with rfl | ⟨l,rfl⟩ <;> rcases hS2 with rfl | ⟨l2,rfl⟩ <;>
 simp -implicitDefEqProofs only[Cc,SP,SA,SQ,sevalprocAttr,-List.reduceReplicate,Bl,hp,hc,hwk,hH,hH2,Da,Be,si,AV.CC,AV.Ip,bne,lg,Dc]
theorem yS {l:List (List ze)} (h:sg ss=some l):Cc [.agg [S0]]=some (.mc [.agg [qj l],i64 0]):=by
 obtain⟨r,hn,hl⟩:∃ r,Ig ss 64 (Jg ss,[])=some r∧Dn (Re r.2.length r.2.flatten).C=l:=by
  unfold sg at h;simpa using h
 obtain⟨nl,hwk,k1,k2,k3⟩:=(KK (.box [.pv .ma]) (.box [.pv (.bool true),.pv (i64 a),.pv (i64 b)]) S ss rfl rfl rfl rfl hS hw hsz hne).1 r hn
 have hb0:Hj (.box [.pv .ma]) (.box [.pv (.bool true),.pv (i64 a),.pv (i64 b)]) S true [] (Rg []) 0 []=[.box [.pv .ma],.box [.pv (.bool true),.pv (i64 a),.pv (i64 b)],.map [],.box [.pv S,.mp 2,.uq 4 true 2 [],.own 5 0],.tok 2 0 true,.seq 256 true [] 0 true]:=rfl
 have hb1:Hj (.box [.pv .ma]) (.box [.pv (.bool true),.pv (i64 a),.pv (i64 b)]) S nl r.1 (Rg r.2) r.2.length []=Th (.box [.pv .ma]) (.box [.pv (.bool true),.pv (i64 a),.pv (i64 b)]) S nl r.2.isEmpty 0 r.1 r.2.flatten r.2.length []:=by
  unfold Hj Th Rg;rw[QA]
 rw[hb0,hb1] at hwk
 have hlt:=iK hw 64 (Jg ss,[]) r (Nz hw hne) (by simp) hn
 have hpos:0 < r.1.length:=by obtain⟨t,ht⟩:=hlt.2;rw[ht];simp[Jg]
 have hC:r.2.flatten.length=r.2.length * 256:=by
  have:=CD k3
  rw[← QA,pb] at this;exact this
 have cC:∀ c∈r.2.flatten,c < (r.2.length:Int):=by
  intro c hc
  obtain⟨l,h1,h2⟩:=List.mem_flatten.1 hc
  rw[k2];exact hlt.1 l h1 c h2
 have h64:r.2.length≤64:=by rw[k2];exact k1.1
 have h0:0 < r.2.length:=by omega
 obtain⟨fr,fk,v,hf,hls⟩:=KQ (Ea Da 7) (.box [.pv .ma]) (.box [.pv (.bool true),.pv (i64 a),.pv (i64 b)]) S nl r.2.isEmpty r.1 r.2.flatten r.2.length h64 h0 k2.symm hC cC
 have Ba:WX r.2.length (Re r.2.length r.2.flatten):=tD _ _ (Nat.le_refl _) ⟨hC,by simp,cC,by intro c hc;rw[List.eq_of_mem_replicate hc];omega,by simp⟩
 obtain⟨O,J,htd⟩:=zT (Ea Da 7) (.box [.pv .ma]) (.box [.pv (.bool true),.pv (i64 a),.pv (i64 b)]) S nl r.2.isEmpty fr r.1 (Re r.2.length r.2.flatten).C r.2.length (.seq 1 false (Ka (Re r.2.length r.2.flatten).uc) fk false) (.map (Et (Re r.2.length r.2.flatten).M)) Ba.hC Ba.cC (by omega) h64 h0
 rw[hl] at htd
 unfold qj
 generalize l.map Wd=out at *
 generalize Re r.2.length r.2.flatten=g at *
 simp only[Th] at hwk hls htd
 have hS2:S= .ma∨∃ l,S= .lit 2 l:=by rcases hS with⟨h,_⟩ | h;exact .inl h;exact .inr ⟨_,h⟩
 rcases hS0 with rfl | ⟨l,rfl⟩ <;> rcases hS2 with rfl | ⟨l2,rfl⟩ <;>
 simp -implicitDefEqProofs only[Cc,SP,SA,SQ,sevalprocAttr,-List.reduceReplicate,Bl,hp,hc,hwk,hls,htd,Da,Be,si,AV.CC,AV.Ip,bne,lg,Dc]
end
end Go.AM.B1
namespace Go.AM.B1
open Go.AM Go.AM.So
structure Gm (v:PV) (l:List (Int×Int)):Prop where
 is:Vi 2 v (Hd l)
 sz:l.length * 16≤140737488355328
structure rf (P:PV) (ls:List (List (Int×Int))) (ps:List PV):Prop where
 is:Vi 1 P ps
 len:ps.length=ls.length
 all:∀ (k:Nat) v l,ps[k]? =some v→ls[k]? =some l→Gm v l
 sz:ls.length≤maxLen
structure pf (e:PV) (s:Lb) (P:PV) (ps:List PV):Prop where
 eq:e= .agg [P,i64 s.first]
 parts:rf P s.parts ps
structure eb (S:PV) (ss:List Lb) (es:List PV):Prop where
 is:Vi 2 S es
 len:es.length=ss.length
 all:∀ (k:Nat) e s,es[k]? =some e→ss[k]? =some s→∃ P ps,pf e s P ps
 sz:ss.length≤maxLen
theorem rf.get {P:PV} {ls:List (List (Int×Int))} {ps:List PV} (h:rf P ls ps) {i:Nat} (hi:i < ls.length):∃ v,ps[i]? =some v∧P= .lit 1 ps∧Gm v ls[i]:=by
 have h1:i < ps.length:=by rw[h.len];exact hi
 refine⟨ps[i],List.getElem?_eq_getElem h1,h.is.lit (i:=i) h1,h.all i _ _ (List.getElem?_eq_getElem h1) (List.getElem?_eq_getElem hi)⟩
theorem eb.get {S:PV} {ss:List Lb} {es:List PV} (h:eb S ss es) {i:Nat} (hi:i < ss.length):∃ e P ps,es[i]? =some e∧S= .lit 2 es∧pf e ss[i] P ps:=by
 have h1:i < es.length:=by rw[h.len];exact hi
 obtain⟨P,ps,hp⟩:=h.all i _ _ (List.getElem?_eq_getElem h1) (List.getElem?_eq_getElem hi)
 exact⟨es[i],P,ps,List.getElem?_eq_getElem h1,h.is.lit (i:=i) h1,hp⟩
theorem rf.Vb {P:PV} {ls:List (List (Int×Int))} {ps:List PV} (h:rf P ls ps) (H:List ba):Vb H 0 (.pv P)=some ls.length:=by
 rw[h.is.len,h.len]
theorem eb.Vb {S:PV} {ss:List Lb} {es:List PV} (h:eb S ss es) (H:List ba):Vb H 0 (.pv S)=some ss.length:=by
 rw[h.is.len,h.len]
def Xc (l:List (Int×Int)):Prop:=l≠[]∧Qa 255 (-2) l=true
instance (l:List (Int×Int)):Decidable (Xc l):=by unfold Xc;infer_instance
def oh:Int→List (List (Int×Int))→Int
 |n,[]=>n
 |n,l::r=>oh (if 1073741825 < n * Ac 0 l then 1073741825 else n * Ac 0 l) r
def yh (s:Lb):Int:=s.first+oh 1 s.parts - 1
theorem Ah {l:List (Int×Int)} (h:Xc l):1≤Ac 0 l∧Ac 0 l≤256:=by
 have:=(yo h.2).2.1 h.1;omega
theorem Cx {n s:Int} (h1:1≤n) (h2:n≤1073741825) (h3:1≤s) (h4:s≤256):1≤n * s∧n * s≤274877907200:=by
 constructor
 ·have:=Int.mul_le_mul h1 h3 (by omega) (by omega);omega
 ·have:=Int.mul_le_mul h2 h4 (by omega) (by omega);omega
theorem im:∀ (ls:List (List (Int×Int))) (n:Int),(∀ l∈ls,Xc l)→1≤n→n≤1073741825→1≤oh n ls∧oh n ls≤1073741825
 | [],n,_,h1,h2=>⟨h1,h2⟩
 |l::r,n,h,h1,h2=>by
  have hs:=Ah (h l (by simp))
  have hm:=Cx h1 h2 hs.1 hs.2
  rw[oh]
  refine im r _ (fun x hx=>h x (by simp[hx])) ?_ ?_ <;> split <;> omega
abbrev UK (row:List PV) (P:PV) (len i n:Int):Tr:=((((Tr.lf.set 9 (.pv (i64 i))).set 8 (.pv (i64 len))).set 7 (.pv P)).set 3 (.pv (i64 n))).set 1 (.pv (.rp row 0))
theorem LL {e:PV} {s:Lb} {P:PV} {ps:List PV} (h:pf e s P ps) (Ba:∀ l∈s.parts,Xc l) (hf:0≤s.first∧s.first≤1073741823):Vn [e]=some (i64 (yh s)):=by
 obtain⟨rfl,hP⟩:=h
 have hb:=im s.parts 1 Ba (by omega) (by omega)
 have hsz:=hP.sz
 have hloop:Gd (fun r=>∃ E H,r=(.exit 0,⟨E,H⟩)∧E.get 3= .pv (i64 (oh 1 s.parts))∧E.get 1= .pv (.rp [P,i64 s.first] 0))
  (ab (ga (ua (Ea (fun _=>none) 8) Eh) (fa 0 [1,3,7,8,9])) qa ⟨UK [P,i64 s.first] P s.parts.length 0 1,[]⟩):=by
  refine za (wb (g:=ga (ua (Ea (fun _=>none) 8) Eh) (fa 0 [1,3,7,8,9]))
   (fun i t=>∃ n,t=⟨UK [P,i64 s.first] P s.parts.length i n,[]⟩∧1≤n∧n≤1073741825∧oh 1 s.parts=oh n (s.parts.drop i))
   s.parts.length (by unfold qa;unfold maxLen at hsz;omega) _ ⟨1,rfl,by omega,by omega,rfl⟩ ?_ ?_) (fun r h=>h.2)
  ·rintro i t hi ⟨n,rfl,h1,h2,hs⟩
   obtain⟨v,hv,hPl,hpt⟩:=hP.get hi
   have hd:s.parts.drop i=s.parts[i]::s.parts.drop (i+1):=List.drop_eq_getElem_cons hi
   have hpo:=Ba s.parts[i] (List.getElem_mem hi)
   have hss:=jw v s.parts[i] hpt.is hpt.sz hpo.2
   have hsb:=Ah hpo
   rw[hd,oh] at hs
   generalize s.parts[i]=l at *
   have hm:=Cx h1 h2 hsb.1 hsb.2
   have e1:decide ((i:Int) < (s.parts.length:Int))=true:=Fa (by omega)
   have t2:=Ua hi hsz
   have t3:IntKind.i64.wrap (n * Ac 0 l)=n * Ac 0 l:=Ca (by omega)
   have hq:i < ps.length:=by rw[hP.len];exact hi
   have hcl:v.cells=[v]:=by rcases hpt.is with⟨h,_⟩ | h <;> rw[h] <;> rfl
   have a1:wa [] 1 (.pv P) (i:Int)=some (.pv (.rp [v] 0)):=by
    rw[hPl]
    simp only[wa]
    rw[if_pos (by unfold Ia;simp;omega),Int.toNat_natCast,hv]
    simp[hcl]
   have a2:xa [] false 1 (.pv (.rp [v] 0))=some (.pv v):=rfl
   generalize hQ:LN _ _ i=Q
   simp -implicitDefEqProofs only[SX,sevalprocAttr,Eh,e1,t2,t3,a1,a2,hss,Mo,De,fa,Aa,AV.cut,pa,UK]
   subst hQ
   exact⟨_,rfl,by split <;> omega,by split <;> omega,hs⟩
  ·rintro t ⟨n,rfl,h1,h2,hs⟩
   rw[List.drop_length,oh] at hs
   have e1:decide ((s.parts.length:Int) < (s.parts.length:Int))=false:=Ga (by omega)
   generalize hQ:(fun r:Ex×St=>r.1.stop=true∧_)=Q
   simp -implicitDefEqProofs only[SX,sevalprocAttr,Eh,e1,UK]
   subst hQ
   exact⟨rfl,_,_,rfl,by simp[Tr.aa,hs],by simp[Tr.aa]⟩
 obtain⟨r,h1,E,H,rfl,hE,hE1⟩:=xc hloop
 have ls:=hP.Vb
 simp only[UK] at h1
 have h1':ab (ga (ua (Ea (fun _=>none) 8) Eh) (fa 0 [1,3,7,8,9])) qa ⟨((((Tr.lf.set 9 (.pv (.int .i64 0))).set 8 (.pv (.int .i64 s.parts.length))).set 7 (.pv P)).set 3 (.pv (.int .i64 1))).set 1 (.pv (.rp [P,i64 s.first] 0)),[]⟩=some (.exit 0,⟨E,H⟩):=h1
 unfold yh
 generalize oh 1 s.parts=n at *
 have t1:IntKind.i64.wrap (s.first+n)=s.first+n:=Ca (by omega)
 have t2:IntKind.i64.wrap (s.first+n - 1)=s.first+n - 1:=Ca (by omega)
 have hPv:∃ sz es,P= .ma∨P= .lit sz es:=by rcases hP.is with⟨h,_⟩ | h;exact⟨0,[],.inl h⟩;exact⟨_,_,.inr h⟩
 obtain⟨sz,es,rfl | rfl⟩:=hPv <;>
 simp -implicitDefEqProofs only[Vn,SP,SA,SQ,WP,WQ,sevalprocAttr,Ts,xb,ls,h1',hE,hE1,t1,t2]
theorem xT (call:Wa) {v:PV} {l:List (Int×Int)} (h:Gm v l) (H:List ba):Ri call Pj [.pv v] H=some (.pv (.bool (!decide (Xc l))),H):=by
 have ls:=h.is.len
 simp only[Hd,List.length_map] at ls
 have hv:=kC v l h.is h.sz
 by_cases h0:l=[]
 ·have e1:((l.length:Int)==0)=true:=by simp[h0]
  have e2:(!decide (Xc l))=true:=by
   have:¬Xc l:=fun hp=>hp.1 h0
   simp[this]
  rw[e2]
  simp -implicitDefEqProofs only[SP,SA,SQ,WP,WQ,sevalprocAttr,Pj,ls,e1]
 ·have e1:((l.length:Int)==0)=false:=by
   have:l.length≠0:=fun e=>h0 (List.eq_nil_of_length_eq_zero e)
   exact vi (by omega)
  have e2:(!decide (Xc l))= !(Qa 255 (-2) l):=by
   congr 1
   rw[Bool.eq_iff_iff];simp[Xc,h0]
  rw[e2]
  simp -implicitDefEqProofs only[SP,SA,SQ,WP,WQ,sevalprocAttr,Pj,ls,e1,hv]
def Pw (ls:List (List (Int×Int))) (i:Nat):Int:=
 match ls with
 | []=> -1
 |l::r=>if Xc l then Pw r (i+1) else i
theorem qH:∀ (ls:List (List (Int×Int))) (i:Nat),decide (Pw ls i≥0)= !decide (∀ l∈ls,Xc l)
 | [],i=>by simp[Pw]
 |l::r,i=>by
  rw[Pw]
  by_cases h:Xc l
  ·rw[if_pos h,qH r];simp[h]
  ·rw[if_neg h];simp[h]
abbrev oL (P:PV) (len i:Int):Tr:=(((Tr.lf.set 8 (.pv (i64 i))).set 7 (.pv (i64 len))).set 1 (.Fk 7 [])).set 0 (.pv P)
theorem bS {P:PV} {ls:List (List (Int×Int))} {ps:List PV} (hP:rf P ls ps) (d:Nat) (H:List ba) (hH:Gg H):
 Ri (Ea Wb (d+1)) yc [.pv P,.Fk 7 []] H=some (.pv (i64 (Pw ls 0)),H):=by
 have hsz:=hP.sz
 have lsn:=hP.Vb
 have hcut:=Gg.cut hH
 have h7:Wb 7=some Pj:=rfl
 apply Yk
 have hloop:Gd (fun r=>∃ E,(r=(.exit 0,⟨E,H⟩)∧Pw ls 0= -1)∨(r=(.ret,⟨E,H⟩)∧E.get 4= .pv (i64 (Pw ls 0))))
  (ab (ga (ua (Ea Wb (d+1)) Ib) (fa H.length [0,1,7,8])) qa ⟨oL P ls.length 0,H⟩):=by
  refine za (wb (g:=ga (ua (Ea Wb (d+1)) Ib) (fa H.length [0,1,7,8]))
   (fun i t=>t=⟨oL P ls.length i,H⟩∧Pw ls 0=Pw (ls.drop i) i)
   ls.length (by unfold qa;unfold maxLen at hsz;omega) _ ⟨rfl,rfl⟩ ?_ ?_) (fun r h=>h.2)
  ·rintro i t hi ⟨rfl,hs⟩
   obtain⟨v,hv,hPl,hpt⟩:=hP.get hi
   have hd:ls.drop i=ls[i]::ls.drop (i+1):=List.drop_eq_getElem_cons hi
   rw[hd,Pw] at hs
   have hn:=xT (Ea Wb d) hpt H
   generalize ls[i]=l at *
   have e1:decide ((i:Int) < (ls.length:Int))=true:=Fa (by omega)
   have t2:=Ua hi hsz
   have hq:i < ps.length:=by rw[hP.len];exact hi
   have hcl:v.cells=[v]:=by rcases hpt.is with⟨h,_⟩ | h <;> rw[h] <;> rfl
   have a1:wa H 1 (.pv P) (i:Int)=some (.pv (.rp [v] 0)):=by
    rw[hPl]
    simp only[wa]
    rw[if_pos (by unfold Ia;simp;omega),Int.toNat_natCast,hv]
    simp[hcl]
   have a2:xa H false 1 (.pv (.rp [v] 0))=some (.pv v):=rfl
   generalize hQ:LN _ _ i=Q
   by_cases Ba:Xc l
   ·rw[if_pos Ba] at hs
    rw[decide_eq_true Ba] at hn
    simp -implicitDefEqProofs only[SX,sevalprocAttr,Ib,e1,t2,a1,a2,h7,hn,hcut,List.take_length,fa,Aa,AV.cut,pa,oL]
    subst hQ
    exact⟨rfl,hs⟩
   ·rw[if_neg Ba] at hs
    rw[decide_eq_false Ba] at hn
    simp -implicitDefEqProofs only[SX,sevalprocAttr,Ib,e1,t2,a1,a2,h7,hn,hcut,List.take_length,fa,Aa,AV.cut,pa,oL]
    subst hQ
    exact⟨_,.inr ⟨rfl,by simp[Tr.aa,hs]⟩⟩
  ·rintro t ⟨rfl,hs⟩
   rw[List.drop_length,Pw] at hs
   have e1:decide ((ls.length:Int) < (ls.length:Int))=false:=Ga (by omega)
   generalize hQ:(fun r:Ex×St=>r.1.stop=true∧_)=Q
   simp -implicitDefEqProofs only[SX,sevalprocAttr,Ib,e1,oL]
   subst hQ
   exact⟨rfl,_,.inl ⟨rfl,hs⟩⟩
 simp -implicitDefEqProofs only[SX,sevalprocAttr,yc,xb,lsn,hcut,List.take_length,fa,Aa,AV.cut,pa]
 refine za hloop ?_
 rintro _ ⟨E,⟨rfl,hb⟩ | ⟨rfl,hE⟩⟩
 ·simp -implicitDefEqProofs only[SX,sevalprocAttr,hb]
 ·simp -implicitDefEqProofs only[SX,sevalprocAttr,hE]
theorem Vy {P:PV} {ls:List (List (Int×Int))} {ps:List PV} (hP:rf P ls ps) (d:Nat) (H:List ba) (hH:Gg H):
 Ri (Ea Wb (d+2)) Jb [.pv P,.Fk 7 []] H=some (.pv (.bool (!decide (∀ l∈ls,Xc l))),H):=by
 have h:=bS hP d H hH
 have h5:Wb 5=some yc:=rfl
 have hb:=qH ls 0
 simp -implicitDefEqProofs only[SX,sevalprocAttr,Jb,h5,h,hb]
end Go.AM.B1
namespace Go.AM.B1
open Go.AM Go.AM.So
structure Dd (s:Lb):Prop where
 lo:1≤s.parts.length
 hi:s.parts.length≤8
 f0:0≤s.first
 f1:s.first≤1073741823
 parts:∀ l∈s.parts,Xc l
 last:yh s≤1073741823
def Jm (s t:Lb):Prop:=∀ x,¬((s.first≤x∧x≤yh s)∧(t.first≤x∧x≤yh t))
structure Tb (ss:List Lb):Prop where
 len:ss.length≤32
 Xo:∀ s∈ss,Dd s
 apart:ss.Pairwise Jm
theorem Dd.HC {s:Lb} (h:Dd s):s.first≤yh s:=by
 have:=(im s.parts 1 h.parts (by omega) (by omega)).1
 unfold yh;omega
structure ZX (ss:List Lb) (i:Nat) (v:PV) (u:List (Int×Int)):Prop where
 is:Vi 2 v (Hd u)
 val:Qa My (-2) u=true
 len:u.length≤i
 mem:∀ x,Lj x u↔∃ s∈ss.take i,s.first≤x∧x≤yh s
 Xo:∀ s∈ss.take i,Dd s
 apart:(ss.take i).Pairwise Jm
abbrev Gq (S v:PV) (len i:Int):Tr:=(((Tr.lf.set 14 (.pv (i64 i))).set 13 (.pv (i64 len))).set 12 (.pv S)).set 3 (.pv v)
theorem vj (x y u v:AV) (hu:u.one=true) (hv:v.one=true) (A:List ba) (e:PV) (he:(AV.pv e).cells=[u,v]):Oa (A++[.box [x,y]]) 2 (.ptr A.length 0) (.pv e)=some (A++[.box [u,v]]):=by
 simp only[Oa,he,Dj,Un,List.length_cons,List.length_nil,List.all,hu,hv]
 simp[oa]
section
variable {S:PV} {ss:List Lb} {es:List PV} (hS:eb S ss es) (hl:ss.length≤32)
include hS hl
omit hl in
theorem iC {i:Nat} (hi:i < ss.length) (v:PV) (hbad:¬Dd ss[i]):
 ∃ E H,ga (ua (Ea Wb 8) Kb) (fa 0 [3,12,13,14]) ⟨Gq S v ss.length i,[]⟩=some (.ret,⟨E,H⟩)∧E.get 2= .pv (.bool false):=by
 obtain⟨e,P,ps,he,hSl,hsh⟩:=hS.get hi
 obtain⟨rfl,hP⟩:=hsh
 generalize hs:ss[i]=s at *
 have hq:i < es.length:=by rw[hS.len];exact hi
 have e1:decide ((i:Int) < (ss.length:Int))=true:=Fa (by omega)
 have a1:wa [] 2 (.pv S) (i:Int)=some (.pv (.rp [P,i64 s.first] 0)):=by
  rw[hSl]
  simp only[wa]
  rw[if_pos (by unfold Ia;simp;omega),Int.toNat_natCast,he];rfl
 have a2:xa [] true 2 (.pv (.rp [P,i64 s.first] 0))=some (.pv (.agg [P,i64 s.first])):=rfl
 have hP1:(AV.pv P).one=true:=by rcases hP.is with⟨h,_⟩ | h <;> rw[h] <;> rfl
 have s1:Oa [.box [.pv .ma,.pv (i64 0)]] 2 (.ptr 0 0) (.pv (.agg [P,i64 s.first]))=some [.box [.pv P,.pv (i64 s.first)]]:=vj _ _ _ _ hP1 rfl [] _ rfl
 have p0:place [.box [.pv P,.pv (i64 s.first)]] 0 (.ptr 0 0)=some (.ptr 0 0):=rfl
 have p1:place [.box [.pv P,.pv (i64 s.first)]] 1 (.ptr 0 0)=some (.ptr 0 1):=rfl
 have l0:xa [.box [.pv P,.pv (i64 s.first)]] false 1 (.ptr 0 0)=some (.pv P):=rfl
 have l1:xa [.box [.pv P,.pv (i64 s.first)]] false 1 (.ptr 0 1)=some (.pv (i64 s.first)):=rfl
 have l2:xa [.box [.pv P,.pv (i64 s.first)]] true 2 (.ptr 0 0)=some (.pv (.agg [P,i64 s.first])):=rfl
 have hg:Gg [.box [.pv P,.pv (i64 s.first)]]:=by
  intro n _ o ho;simp at ho;subst ho;simp[na,Ra,Ma]
 have hct:=Vy hP 5 [.box [.pv P,.pv (i64 s.first)]] hg
 have h6:Wb 6=some Jb:=rfl
 have lA:=hP.Vb
 have key:Gd (fun r=>∃ E H,r=(.ret,⟨E,H⟩)∧E.get 2= .pv (.bool false)) (ga (ua (Ea Wb 8) Kb) (fa 0 [3,12,13,14]) ⟨Gq S v ss.length i,[]⟩):=by
  generalize hQ:(fun r:Ex×St=>_)=Q
  by_cases c1:s.parts.length < 1
  ·have d1:decide ((s.parts.length:Int) < 1)=true:=Fa (by omega)
   simp -implicitDefEqProofs only[SX,sevalprocAttr,Kb,e1,a1,a2,s1,p0,p1,l0,l1,lA,d1,Gq]
   subst hQ;exact⟨_,_,rfl,by simp[Tr.aa]⟩
  have d1:decide ((s.parts.length:Int) < 1)=false:=Ga (by omega)
  by_cases c2:s.parts.length > 8
  ·have d2:decide ((s.parts.length:Int) > 8)=true:=Fa (by omega)
   simp -implicitDefEqProofs only[SX,sevalprocAttr,Kb,e1,a1,a2,s1,p0,p1,l0,l1,lA,d1,d2,Gq]
   subst hQ;exact⟨_,_,rfl,by simp[Tr.aa]⟩
  have d2:decide ((s.parts.length:Int) > 8)=false:=Ga (by omega)
  by_cases c3:s.first < 0
  ·have d3:decide (s.first < 0)=true:=Fa c3
   simp -implicitDefEqProofs only[SX,sevalprocAttr,Kb,e1,a1,a2,s1,p0,p1,l0,l1,lA,d1,d2,d3,Gq]
   subst hQ;exact⟨_,_,rfl,by simp[Tr.aa]⟩
  have d3:decide (s.first < 0)=false:=Ga c3
  by_cases c4:s.first > 1073741823
  ·have d4:decide (s.first > 1073741823)=true:=Fa c4
   simp -implicitDefEqProofs only[SX,sevalprocAttr,Kb,e1,a1,a2,s1,p0,p1,l0,l1,lA,d1,d2,d3,d4,Gq]
   subst hQ;exact⟨_,_,rfl,by simp[Tr.aa]⟩
  have d4:decide (s.first > 1073741823)=false:=Ga c4
  by_cases c5:∀ l∈s.parts,Xc l
  ·have hlast:=LL (e:= .agg [P,i64 s.first]) ⟨rfl,hP⟩ c5 (by omega)
   rw[decide_eq_true c5] at hct
   have c6:yh s > 1073741823:=by
    rcases Int.lt_or_le 1073741823 (yh s) with h | h
    ·exact h
    ·exact absurd (Dd.mk (by omega) (by omega) (by omega) (by omega) c5 h) hbad
   have d6:decide (yh s > 1073741823)=true:=Fa c6
   have i0:∀ H (x y:Int),wa H 2 (.pv (.lit 2 [.agg [i64 x,i64 y]])) 0=some (.pv (.rp [i64 x,i64 y] 0)):=fun H x y=>rfl
   have q1:∀ H (x y:PV),place H 1 (.pv (.rp [x,y] 0))=some (.pv (.rp [x,y] 1)):=fun H x y=>rfl
   have m1:∀ H (x y:PV),xa H false 1 (.pv (.rp [x,y] 1))=some (.pv y):=fun H x y=>rfl
   simp -implicitDefEqProofs only[SX,sevalprocAttr,oa,Kb,e1,a1,a2,s1,p0,p1,l0,l1,l2,lA,d1,d2,d3,d4,h6,hct,hlast,i0,q1,m1,d6,Gq]
   subst hQ;exact⟨_,_,rfl,by simp[Tr.aa]⟩
  ·rw[decide_eq_false c5] at hct
   simp -implicitDefEqProofs only[SX,sevalprocAttr,Kb,e1,a1,a2,s1,p0,p1,l0,l1,lA,d1,d2,d3,d4,h6,hct,Gq]
   subst hQ;exact⟨_,_,rfl,by simp[Tr.aa]⟩
 obtain⟨r,h1,E,H,rfl,h2⟩:=xc key
 exact⟨E,H,h1,h2⟩
theorem yE {i:Nat} (hi:i < ss.length) {v:PV} {u:List (Int×Int)} (hv:ZX ss i v u) (Ba:Dd ss[i]):
 Gd (fun r=>(∃ E H,r=(.ret,⟨E,H⟩)∧E.get 2= .pv (.bool false)∧∃ s∈ss.take i,¬Jm s ss[i])∨(∃ v' u',r=(.norm,⟨Gq S v' ss.length (i+1:Nat),[]⟩)∧ZX ss (i+1) v' u'))
  (ga (ua (Ea Wb 8) Kb) (fa 0 [3,12,13,14]) ⟨Gq S v ss.length i,[]⟩):=by
 obtain⟨e,P,ps,he,hSl,hsh⟩:=hS.get hi
 obtain⟨rfl,hP⟩:=hsh
 have htake:ss.take (i+1)=ss.take i++[ss[i]]:=List.take_succ_eq_append_getElem hi
 generalize hs:ss[i]=s at *
 have hq:i < es.length:=by rw[hS.len];exact hi
 have e1:decide ((i:Int) < (ss.length:Int))=true:=Fa (by omega)
 have t2:=Ua hi hS.sz
 have a1:wa [] 2 (.pv S) (i:Int)=some (.pv (.rp [P,i64 s.first] 0)):=by
  rw[hSl]
  simp only[wa]
  rw[if_pos (by unfold Ia;simp;omega),Int.toNat_natCast,he];rfl
 have a2:xa [] true 2 (.pv (.rp [P,i64 s.first] 0))=some (.pv (.agg [P,i64 s.first])):=rfl
 have hP1:(AV.pv P).one=true:=by rcases hP.is with⟨h,_⟩ | h <;> rw[h] <;> rfl
 have s1:Oa [.box [.pv .ma,.pv (i64 0)]] 2 (.ptr 0 0) (.pv (.agg [P,i64 s.first]))=some [.box [.pv P,.pv (i64 s.first)]]:=vj _ _ _ _ hP1 rfl [] _ rfl
 have p0:place [.box [.pv P,.pv (i64 s.first)]] 0 (.ptr 0 0)=some (.ptr 0 0):=rfl
 have p1:place [.box [.pv P,.pv (i64 s.first)]] 1 (.ptr 0 0)=some (.ptr 0 1):=rfl
 have l0:xa [.box [.pv P,.pv (i64 s.first)]] false 1 (.ptr 0 0)=some (.pv P):=rfl
 have l1:xa [.box [.pv P,.pv (i64 s.first)]] false 1 (.ptr 0 1)=some (.pv (i64 s.first)):=rfl
 have l2:xa [.box [.pv P,.pv (i64 s.first)]] true 2 (.ptr 0 0)=some (.pv (.agg [P,i64 s.first])):=rfl
 have hg:Gg [.box [.pv P,.pv (i64 s.first)]]:=by
  intro n _ o ho;simp at ho;subst ho;simp[na,Ra,Ma]
 have hct:=Vy hP 5 [.box [.pv P,.pv (i64 s.first)]] hg
 rw[decide_eq_true Ba.parts] at hct
 have h6:Wb 6=some Jb:=rfl
 have lA:=hP.Vb
 have d1:decide ((s.parts.length:Int) < 1)=false:=Ga (by have:=Ba.lo;omega)
 have d2:decide ((s.parts.length:Int) > 8)=false:=Ga (by have:=Ba.hi;omega)
 have d3:decide (s.first < 0)=false:=Ga (by have:=Ba.f0;omega)
 have d4:decide (s.first > 1073741823)=false:=Ga (by have:=Ba.f1;omega)
 have hlast:=LL (e:= .agg [P,i64 s.first]) ⟨rfl,hP⟩ Ba.parts ⟨Ba.f0,Ba.f1⟩
 have d6:decide (yh s > 1073741823)=false:=Ga (by have:=Ba.last;omega)
 have i0:∀ H (x y:Int),wa H 2 (.pv (.lit 2 [.agg [i64 x,i64 y]])) 0=some (.pv (.rp [i64 x,i64 y] 0)):=fun H x y=>rfl
 have q1:∀ H (x y:PV),place H 1 (.pv (.rp [x,y] 0))=some (.pv (.rp [x,y] 1)):=fun H x y=>rfl
 have m1:∀ H (x y:PV),xa H false 1 (.pv (.rp [x,y] 1))=some (.pv y):=fun H x y=>rfl
 have hvr:Qa My (-2) [(s.first,yh s)]=true:=by
  rw[Sq];have:=Ba.HC;have:=Ba.f0;have:=Ba.last;unfold My;simp only;omega
 have hmt:=iB v (.lit 2 [.agg [i64 s.first,i64 (yh s)]]) u [(s.first,yh s)] hv.is (.inr rfl) hv.val hvr (by have:=hv.len;simp;omega)
 obtain⟨u',hun,hv1,hv2,hv3⟩:=UQ v (.lit 2 [.agg [i64 s.first,i64 (yh s)]]) u [(s.first,yh s)] hv.is (.inr rfl) hv.val hvr (by have:=hv.len;simp;omega)
 have hms:=sM hv.val hvr
 have hml:∀ l:List (Int×Int),(Hd l).length=l.length:=fun l=>by simp
 generalize Sf (u.length+[(s.first,yh s)].length) u [(s.first,yh s)]=mm at *
 have hvv:(AV.pv v).cells=[.pv v]:=by rcases hv.is with⟨h,_⟩ | h <;> rw[h] <;> rfl
 generalize hQ:(fun r:Ex×St=>_)=Q
 by_cases c7:mm=[]
 ·have d7:decide ((mm.length:Int) > 0)=false:=Ga (by rw[c7];simp)
  have hno:¬∃ x,Lj x u∧Lj x [(s.first,yh s)]:=fun h=>(hms.2 h) c7
  simp -implicitDefEqProofs only[SX,sevalprocAttr,oa,Kb,e1,t2,a1,a2,s1,p0,p1,l0,l1,l2,lA,d1,d2,d3,d4,h6,hct,hlast,i0,q1,m1,d6,hmt,hml,d7,hun,fa,Aa,AV.cut,na,List.take_zero,pa,Gq]
  subst hQ
  refine .inr ⟨_,u',rfl,.inr rfl,hv1,by have:=hv.len;simp at hv3;omega,fun x=> ?_,?_,?_⟩
  ·rw[hv2,Eo,hv.mem,htake]
   constructor
   ·rintro (⟨t,ht,hx⟩ | hx)
    ·exact⟨t,by simp[ht],hx⟩
    ·exact⟨s,by simp,hx⟩
   ·rintro⟨t,ht,hx⟩
    rcases List.mem_append.1 ht with h | h
    ·exact .inl ⟨t,h,hx⟩
    ·simp at h;subst h;exact .inr hx
  ·intro t ht
   rw[htake] at ht
   rcases List.mem_append.1 ht with h | h
   ·exact hv.Xo t h
   ·simp at h;subst h;exact Ba
  ·rw[htake,List.pairwise_append]
   refine⟨hv.apart,by simp,fun t ht w hw x hx=> ?_⟩
   simp at hw;subst hw
   exact hno ⟨x,(hv.mem x).2 ⟨t,ht,hx.1⟩,(Eo _ _).2 hx.2⟩
 ·have d7:decide ((mm.length:Int) > 0)=true:=Fa (by have:mm.length≠0:=fun e=>c7 (List.eq_nil_of_length_eq_zero e);omega)
  obtain⟨x,hx1,hx2⟩:=hms.1 c7
  simp -implicitDefEqProofs only[SX,sevalprocAttr,oa,Kb,e1,a1,a2,s1,p0,p1,l0,l1,l2,lA,d1,d2,d3,d4,h6,hct,hlast,i0,q1,m1,d6,hmt,hml,d7,Gq]
  subst hQ
  obtain⟨t,ht,hx3⟩:=(hv.mem x).1 hx1
  exact .inl ⟨_,_,rfl,by simp[Tr.aa],t,ht,fun h=>h x ⟨hx3,(Eo _ _).1 hx2⟩⟩
end
theorem Nh {S:PV} {ss:List Lb} {es:List PV} (hS:eb S ss es):∃ b,Ie [.agg [S]]=some (.bool b)∧(b=true↔Tb ss):=by
 have lA:=hS.Vb
 by_cases hl:ss.length≤32
 ·have e0:decide ((ss.length:Int) > 32)=false:=Ga (by omega)
  have hloop:Gd (fun r=>∃ E H,(r=(.exit 0,⟨E,H⟩)∧Tb ss)∨(r=(.ret,⟨E,H⟩)∧E.get 2= .pv (.bool false)∧¬Tb ss))
   (ab (ga (ua (Ea Wb 8) Kb) (fa 0 [3,12,13,14])) qa ⟨Gq S .ma ss.length 0,[]⟩):=by
   refine za (wb (g:=ga (ua (Ea Wb 8) Kb) (fa 0 [3,12,13,14]))
    (fun i t=>∃ v u,t=⟨Gq S v ss.length i,[]⟩∧ZX ss i v u)
    ss.length (by unfold qa;omega) _ ⟨.ma,[],rfl,.inl ⟨rfl,rfl⟩,rfl,by simp,fun x=>by simp[Vm],by simp,by simp⟩ ?_ ?_) (fun r h=>h.2)
   ·rintro i t hi ⟨v,u,rfl,hv⟩
    by_cases Ba:Dd ss[i]
    ·refine za (yE hS hl hi hv Ba) ?_
     rintro r (⟨E,H,rfl,hE,s,hs,hna⟩ | ⟨v',u',rfl,hv'⟩)
     ·refine⟨E,H,.inr ⟨rfl,hE,fun h=>hna ?_⟩⟩
      obtain⟨j,hj,rfl⟩:=List.mem_take_iff_getElem.1 hs
      have:=List.pairwise_iff_getElem.1 h.apart j i (by omega) hi (by omega)
      exact this
     ·exact⟨v',u',rfl,hv'⟩
    ·obtain⟨E,H,h1,h2⟩:=iC hS hi v Ba
     exact XX h1 ⟨E,H,.inr ⟨rfl,h2,fun h=>Ba (h.Xo _ (List.getElem_mem hi))⟩⟩
   ·rintro t ⟨v,u,rfl,hv⟩
    have e1:decide ((ss.length:Int) < (ss.length:Int))=false:=Ga (by omega)
    have hfin:Tb ss:=⟨hl,by have:=hv.Xo;rwa [List.take_length] at this,by have:=hv.apart;rwa [List.take_length] at this⟩
    generalize hQ:(fun r:Ex×St=>r.1.stop=true∧_)=Q
    simp -implicitDefEqProofs only[SX,sevalprocAttr,Kb,e1,Gq]
    subst hQ
    exact⟨rfl,_,_,.inl ⟨rfl,hfin⟩⟩
  obtain⟨r,h1,E,H,h2⟩:=xc hloop
  have h1':ab (ga (ua (Ea Wb 8) Kb) (fa 0 [3,12,13,14])) qa ⟨(((Tr.lf.set 14 (.pv (.int .i64 0))).set 13 (.pv (.int .i64 ss.length))).set 12 (.pv S)).set 3 (.pv .ma),[]⟩=some r:=h1
  have hSv:∃ sz es,S= .ma∨S= .lit sz es:=by rcases hS.is with⟨h,_⟩ | h;exact⟨0,[],.inl h⟩;exact⟨_,_,.inr h⟩
  rcases h2 with⟨rfl,Ba⟩ | ⟨rfl,hE,hno⟩
  ·refine⟨true,?_,by simp[Ba]⟩
   obtain⟨sz,es,rfl | rfl⟩:=hSv <;>
   simp -implicitDefEqProofs only[Ie,SP,SA,SQ,WP,WQ,sevalprocAttr,Qk,xb,lA,e0,h1']
  ·refine⟨false,?_,by simp[hno]⟩
   obtain⟨sz,es,rfl | rfl⟩:=hSv <;>
   simp -implicitDefEqProofs only[Ie,SP,SA,SQ,WP,WQ,sevalprocAttr,Qk,xb,lA,e0,h1',hE]
 ·have e0:decide ((ss.length:Int) > 32)=true:=Fa (by omega)
  refine⟨false,?_,by simp;exact fun h=>hl h.len⟩
  have hSv:∃ sz es,S= .ma∨S= .lit sz es:=by rcases hS.is with⟨h,_⟩ | h;exact⟨0,[],.inl h⟩;exact⟨_,_,.inr h⟩
  obtain⟨sz,es,rfl | rfl⟩:=hSv <;>
  simp -implicitDefEqProofs only[Ie,SP,SA,SQ,WP,WQ,sevalprocAttr,Qk,xb,lA,e0]
end Go.AM.B1
namespace Go.AM.B1
open Go.AM Go.AM.So
theorem pf.one {e:PV} {s:Lb} {P:PV} {ps:List PV} (h:pf e s P ps):eb (.lit 2 [e]) [s] [e]:=by
 refine⟨.inr rfl,rfl,?_,by simp[maxLen]⟩
 intro k e' s' h1 h2
 match k,h1,h2 with
 |0,h1,h2=>simp at h1 h2;subst h1 h2;exact⟨P,ps,h⟩
 |k+1,h1,h2=>simp at h1
theorem kQ {s:Lb}:Tb [s]↔Dd s:=⟨fun h=>h.Xo s (by simp),fun h=>⟨by simp,by simpa using h,by simp⟩⟩
theorem pf.Pv {e:PV} {s:Lb} {P:PV} {ps:List PV} (h:pf e s P ps):(AV.pv P).one=true∧P.cells=[P]:=by
 rcases h.parts.is with⟨h,_⟩ | h <;> rw[h] <;> exact⟨rfl,rfl⟩
theorem Tl {e:PV} {s:Lb} {P:PV} {ps:List PV} (h:pf e s P ps):∃ b,Oi [e]=some (.bool b)∧(b=true↔Dd s):=by
 obtain⟨b,h1,h2⟩:=Nh h.one
 refine⟨b,?_,h2.trans kQ⟩
 obtain⟨hP1,hP2⟩:=h.Pv
 have heq:=h.eq
 subst heq
 rcases h.parts.is with⟨rfl,_⟩ | rfl <;>
 simp -implicitDefEqProofs only[Oi,SP,SA,SQ,WP,WQ,sevalprocAttr,Cs,h1]
theorem rf.sd {P:PV} {ls:List (List (Int×Int))} {ps:List PV} (hP:rf P ls ps) {i:Nat} (hi:i < ls.length) (H:List ba):∃ v,ps[i]? =some v∧Gm v ls[i]∧wa H 1 (.pv P) (i:Int)=some (.pv (.rp [v] 0)):=by
 obtain⟨v,hv,hPl,hpt⟩:=hP.get hi
 refine⟨v,hv,hpt,?_⟩
 have hq:i < ps.length:=by rw[hP.len];exact hi
 have hcl:v.cells=[v]:=by rcases hpt.is with⟨h,_⟩ | h <;> rw[h] <;> rfl
 rw[hPl]
 simp only[wa]
 rw[if_pos (by unfold Ia;simp;omega),Int.toNat_natCast,hv]
 simp[hcl]
theorem rf.Dw {P:PV} {ls:List (List (Int×Int))} {ps:List PV} (hP:rf P ls ps) {i:Nat} {v:PV} (hv:ps[i]? =some v) (H:List ba):wa H 1 (.pv P) (i:Int)=some (.pv (.rp [v] 0)):=by
 have hi:i < ls.length:=by rw[← hP.len];exact (List.getElem?_eq_some_iff.1 hv).1
 obtain⟨w,hw,_,h⟩:=hP.sd hi H
 rw[hv] at hw;injection hw with hw;subst hw;exact h
def Gp (p q:List (List (Int×Int))) (i:Nat):List (Int×Int):=match p[i]?,q[i]? with
 |some a,some b=>Sf (a.length+b.length) a b
 |_,_=>[]
def Zb (p q:List (List (Int×Int))):Nat→Nat→Option (List Int)
 |0,_=>some []
 |n+1,i=>match Gp p q i with
  | []=>none
  |m::_=>(Zb p q n (i+1)).map (m.1:: ·)
abbrev vJ (rp rq:List PV) (n i:Int) (tk:Nat) (nl:Bool) (es:List PV):Tr:=((((Tr.lf.set 35 (.pv (i64 i))).set 34 (.pv (i64 n))).set 8 (.uq tk nl 1 es)).set 4 (.pv (.rp rq 0))).set 3 (.pv (.rp rp 0))
theorem Wo {A:List ba} {id n bytes:Nat} {nl:Bool} {h:Af} {es:List PV} (hg:A[id]? =some (.tok 1 n nl)) (hn:n=es.length) (hr:qb (n+1) bytes) (e:PV):
 Yb A false h 1 false bytes (.uq id nl 1 es) (.pv (.lit 1 [e]))=some (.uq id false 1 (es++[e]),A.set id (.tok 1 (n+1) false)):=Fh hg hn hr e
theorem tN {e f:PV} {p q:Lb} {P Q:PV} {ps qs:List PV} (hp:pf e p P ps) (hq:pf f q Q qs) (op:Dd p) (oq:Dd q) {n:Nat} (hn:n≤p.parts.length) (hn2:n≤q.parts.length):
 (Zb p.parts q.parts n 0=none→Xh [e,f,i64 n]=some (.mc [.ma,.bool false]))∧
 (∀ bs,Zb p.parts q.parts n 0=some bs→∃ v,Xh [e,f,i64 n]=some (.mc [v,.bool true])∧Vi 1 v (bs.map (PV.int .u8))∧bs.length=n∧∀ b∈bs,0≤b∧b≤255):=by
 obtain⟨b1,hb1,hb1'⟩:=Tl hp
 obtain⟨b2,hb2,hb2'⟩:=Tl hq
 have:b1=true:=hb1'.2 op
 subst this
 have:b2=true:=hb2'.2 oq
 subst this
 obtain⟨hP1,hP2⟩:=hp.Pv
 obtain⟨hQ1,hQ2⟩:=hq.Pv
 have heq:=hp.eq
 have hfq:=hq.eq
 subst heq hfq
 have h8:=op.hi
 have lP:=hp.parts.Vb
 have lQ:=hq.parts.Vb
 have hloop:Gd (fun r=>∃ E H,(r=(.ret,⟨E,H⟩)∧E.get 6= .pv .ma∧E.get 7= .pv (.bool false)∧Zb p.parts q.parts n 0=none)∨(∃ nl bs,r=(.exit 0,⟨E,H⟩)∧E.get 8= .uq 0 nl 1 (bs.map (PV.int .u8))∧(nl=true→bs=[])∧Zb p.parts q.parts n 0=some bs∧bs.length=n∧∀ b∈bs,0≤b∧b≤255))
  (ab (ga (ua (Ea (fun _=>none) 8) Uf) (fa 1 [3,4,8,34,35])) qa ⟨vJ [P,i64 p.first] [Q,i64 q.first] n 0 0 true [],[.tok 1 0 true]⟩):=by
  refine za (wb (g:=ga (ua (Ea (fun _=>none) 8) Uf) (fa 1 [3,4,8,34,35]))
   (fun i t=>∃ nl bs,t=⟨vJ [P,i64 p.first] [Q,i64 q.first] n i 0 nl (bs.map (PV.int .u8)),[.tok 1 i nl]⟩∧bs.length=i∧(nl=true→bs=[])∧(∀ b∈bs,0≤b∧b≤255)∧Zb p.parts q.parts n 0=(Zb p.parts q.parts (n - i) i).map (bs++ ·))
   n (by unfold qa;omega) _ ⟨true,[],rfl,rfl,fun _=>rfl,by simp,by cases Zb p.parts q.parts n 0 <;> simp[*]⟩ ?_ ?_) (fun r h=>h.2)
  ·rintro i t hi ⟨nl,bs,rfl,hlen,hnl,hby,hs⟩
   obtain⟨v,hv,hpv,_⟩:=hp.parts.sd (i:=i) (by omega) []
   obtain⟨w,hw,hqw,_⟩:=hq.parts.sd (i:=i) (by omega) []
   have a1:=hp.parts.Dw hv
   have a2:=hq.parts.Dw hw
   have okv:=op.parts _ (List.getElem_mem (show i < p.parts.length by omega))
   have okw:=oq.parts _ (List.getElem_mem (show i < q.parts.length by omega))
   have hmt:=uE v w _ _ hpv.is hqw.is okv.2 okw.2 (by
    have:=(yo okv.2).2.1 okv.1
    have h1:=hpv.sz
    have h2:=hqw.sz
    have k1:=Pq okv.2
    have k2:=Pq okw.2
    omega)
   have hlaw:=Kt _ _ _ (-2) (-2) okv.2 okw.2 (Nat.le_refl _)
   have hmA:Gp p.parts q.parts i=Sf (p.parts[i].length+q.parts[i].length) p.parts[i] q.parts[i]:=by
    unfold Gp
    rw[List.getElem?_eq_getElem (show i < p.parts.length by omega),List.getElem?_eq_getElem (show i < q.parts.length by omega)]
   obtain⟨m,hm⟩:∃ m,n - i=m+1:=⟨n - i - 1,by omega⟩
   have hm':n - (i+1)=m:=by omega
   rw[hm,Zb,hmA] at hs
   have hme:=Jn okv.2
   generalize p.parts[i]=lv at *
   generalize q.parts[i]=lw at *
   generalize Sf (lv.length+lw.length) lv lw=mm at *
   have e1:decide ((i:Int) < (n:Int))=true:=Fa (by omega)
   have t2:=Ua (i:=i) (n:=n) hi (by unfold maxLen;omega)
   have lm:∀ H,Vb H 0 (.pv (.lit 2 (Hd mm)))=some mm.length:=fun H=>by simp[Vb]
   have r0:∀ H (x y:PV),xa H false 1 (.pv (.rp [x,y] 0))=some (.pv x):=fun H x y=>rfl
   have r1:∀ H (x:PV),xa H false 1 (.pv (.rp [x] 0))=some (.pv x):=fun H x=>rfl
   have q0:∀ H (x y:PV),place H 0 (.pv (.rp [x,y] 0))=some (.pv (.rp [x,y] 0)):=fun H x y=>rfl
   generalize hQ:LN _ _ i=QQ
   cases mm with
   |nil=>
    have z1:(((0:Nat):Int)==0)=true:=by decide
    simp only[Option.map_none] at hs
    simp -implicitDefEqProofs only[SX,sevalprocAttr,Uf,e1,a1,a2,r0,r1,q0,hmt,lm,z1,vJ]
    subst hQ
    exact⟨_,_,.inl ⟨rfl,by simp[Tr.aa],by simp[Tr.aa],hs⟩⟩
   |cons m0 mm=>
    have z1:(((mm.length+1:Nat):Int)==0)=false:=vi (by omega)
    have i0:∀ H,wa H 2 (.pv (.lit 2 (Hd (m0::mm)))) 0=some (.pv (.rp [i64 m0.1,i64 m0.2] 0)):=fun H=>Qj H (i:=0) (l:=m0::mm) (by simp)
    have hb0:0≤m0.1∧m0.1≤255:=by
     have hmem:=(hlaw.1 m0.1).1 ⟨m0,by simp,Int.le_refl _,hlaw.2 m0 (by simp)⟩
     obtain⟨pp,hpp,h1,h2⟩:=hmem.1
     have:=hme pp hpp;omega
    have t3:IntKind.u8.wrap m0.1=m0.1:=wrap_u8 hb0
    have hap:=Wo (A:=[.tok 1 i nl]) (id:=0) (n:=i) (h:= .uq) (nl:=nl) (bytes:=1) (es:=bs.map (PV.int .u8)) rfl (by simp[hlen]) (by unfold qb;omega) (.int .u8 m0.1)
    rw[List.set_cons_zero] at hap
    have lm':∀ H,Vb H 0 (.pv (.lit 2 (Hd (m0::mm))))=some (mm.length+1):=lm
    have hbm:(bs++[m0.1]).map (PV.int .u8)=bs.map (PV.int .u8)++[.int .u8 m0.1]:=by simp
    generalize Hd (m0::mm)=L at *
    simp -implicitDefEqProofs only[SP,WP,oa,sevalprocAttr,Uf,e1,t2,t3,a1,a2,r0,r1,q0,hmt,lm',z1,i0,hap,fa,Aa,AV.cut,na,pa,vJ]
    subst hQ
    refine⟨false,bs++[m0.1],by rw[hbm],by simp[hlen],by simp,?_,?_⟩
    ·intro b hb
     rcases List.mem_append.1 hb with h | h
     ·exact hby b h
     ·simp at h;subst h;exact hb0
    ·rw[hs,hm']
     cases Zb p.parts q.parts m (i+1) <;> simp
  ·rintro t ⟨nl,bs,rfl,hlen,hnl,hby,hs⟩
   rw[Nat.sub_self,Zb] at hs
   have e1:decide ((n:Int) < (n:Int))=false:=Ga (by omega)
   generalize hQ:(fun r:Ex×St=>r.1.stop=true∧_)=QQ
   simp -implicitDefEqProofs only[SX,sevalprocAttr,Uf,e1,vJ]
   subst hQ
   exact⟨rfl,_,_,.inr ⟨nl,bs,rfl,by simp[Tr.aa],hnl,by rw[hs];simp,hlen,hby⟩⟩
 obtain⟨r,h1,E,H,h2⟩:=xc hloop
 have h1':ab (ga (ua (Ea (fun _=>none) 8) Uf) (fa 1 [3,4,8,34,35])) qa ⟨((((Tr.lf.set 35 (.pv (.int .i64 0))).set 34 (.pv (i64 n))).set 8 (.uq 0 true 1 [])).set 4 (.pv (.rp [Q,i64 q.first] 0))).set 3 (.pv (.rp [P,i64 p.first] 0)),[.tok 1 0 true]⟩=some r:=h1
 have d0:decide ((n:Int) < 0)=false:=Ga (by omega)
 have d1:decide ((n:Int) > (if (q.parts.length:Int) < (p.parts.length:Int) then (q.parts.length:Int) else (p.parts.length:Int)))=false:=Ga (by split <;> omega)
 have hz:(0 < 1)=True:=by simp
 have r2:∀ H (x y:PV),xa H true 2 (.pv (.rp [x,y] 0))=some (.pv (.agg [x,y])):=fun H x y=>rfl
 have r0:∀ H (x y:PV),xa H false 1 (.pv (.rp [x,y] 0))=some (.pv x):=fun H x y=>rfl
 have q0:∀ H (x y:PV),place H 0 (.pv (.rp [x,y] 0))=some (.pv (.rp [x,y] 0)):=fun H x y=>rfl
 rcases h2 with⟨rfl,h6,h7,hnone⟩ | ⟨nl,bs,rfl,h8',hnl,hsome,hlen,hby⟩
 ·refine⟨fun _=> ?_,fun bs hbs=>by rw[hnone] at hbs;cases hbs⟩
  simp -implicitDefEqProofs only[Xh,SX,sevalprocAttr,gl,xb,hP1,hQ1,r2,r0,q0,hb1,hb2,lP,lQ,Mo,De,d0,d1,Be,hz,fa,Aa,AV.cut,na,pa,h1',h6,h7]
 ·refine⟨fun hn=>(by rw[hsome] at hn;cases hn),fun bs' hbs=> ?_⟩
  rw[hsome] at hbs;injection hbs with hbs;subst hbs
  cases nl with
  |true=>
   have:=hnl rfl;subst this
   refine⟨.ma,?_,.inl ⟨rfl,rfl⟩,hlen,hby⟩
   simp -implicitDefEqProofs only[Xh,SX,sevalprocAttr,gl,xb,hP1,hQ1,r2,r0,q0,hb1,hb2,lP,lQ,Mo,De,d0,d1,Be,hz,fa,Aa,AV.cut,na,pa,h1',h8']
  |false=>
   refine⟨.lit 1 (bs.map (PV.int .u8)),?_,.inr rfl,hlen,hby⟩
   simp -implicitDefEqProofs only[Xh,SX,sevalprocAttr,gl,xb,hP1,hQ1,r2,r0,q0,hb1,hb2,lP,lQ,Mo,De,d0,d1,Be,hz,fa,Aa,AV.cut,na,pa,h1',h8']
end Go.AM.B1
namespace Go.AM.B1
open Go.AM Go.AM.So
def Ha:List (List (Int×Int))→Int
 | []=>1
 |l::r=>Ha r * Ac 0 l
theorem sf:∀ {ls:List (List (Int×Int))},(∀ l∈ls,Xc l)→1≤Ha ls
 | [],_=>by simp[Ha]
 |l::r,h=>by
  have h1:=sf (ls:=r) fun x hx=>h x (by simp[hx])
  have h2:=(Ah (h l (by simp))).1
  rw[Ha]
  have:=Int.mul_le_mul h1 h2 (by omega) (by omega);omega
theorem Jy:∀ (ls:List (List (Int×Int))) (n:Int),(∀ l∈ls,Xc l)→1≤n→n≤1073741825→oh n ls=if 1073741825 < n * Ha ls then 1073741825 else n * Ha ls
 | [],n,_,h1,h2=>by rw[oh,Ha,Int.mul_one,if_neg (by omega)]
 |l::r,n,h,h1,h2=>by
  have hs:=Ah (h l (by simp))
  have hm:=Cx h1 h2 hs.1 hs.2
  have hp:=sf (ls:=r) fun x hx=>h x (by simp[hx])
  have e:n * (Ha r * Ac 0 l)=(n * Ac 0 l) * Ha r:=by rw[Int.mul_comm (Ha r),Int.mul_assoc]
  rw[oh,Ha,e]
  by_cases hc:1073741825 < n * Ac 0 l
  ·rw[if_pos hc,Jy r _ (fun x hx=>h x (by simp[hx])) (by omega) (by omega)]
   have h3:n * Ac 0 l * 1≤n * Ac 0 l * Ha r:=Int.mul_le_mul_of_nonneg_left hp (by omega)
   rw[if_pos (show 1073741825 < n * Ac 0 l * Ha r by omega)]
   split
   ·rfl
   ·have h4:1073741825 * 1≤1073741825 * Ha r:=Int.mul_le_mul_of_nonneg_left hp (by omega)
    omega
  ·rw[if_neg hc,Jy r _ (fun x hx=>h x (by simp[hx])) (by omega) (by omega)]
theorem Dd.prod {s:Lb} (h:Dd s):oh 1 s.parts=Ha s.parts∧Ha s.parts≤1073741824:=by
 have h1:=Jy s.parts 1 h.parts (by omega) (by omega)
 have h2:=h.last
 have h3:=h.f0
 unfold yh at h2
 rw[Int.one_mul] at h1
 split at h1
 ·omega
 ·exact⟨h1,by omega⟩
theorem Dd.yh {s:Lb} (h:Dd s):B1.yh s=s.first+Ha s.parts - 1:=by
 unfold B1.yh;rw[h.prod.1]
theorem Rk {ls:List (List (Int×Int))} (h:∀ l∈ls,Xc l) (i:Nat):Ha (ls.drop i)≤Ha ls:=by
 induction ls generalizing i with
 |nil=>simp
 |cons l r ih=>
  cases i with
  |zero=>simp
  |succ i=>
   rw[List.drop_succ_cons,Ha]
   have h1:=ih (fun x hx=>h x (by simp[hx])) i
   have h2:=(Ah (h l (by simp))).1
   have hp:=sf (ls:=r) fun x hx=>h x (by simp[hx])
   have:Ha r * 1≤Ha r * Ac 0 l:=Int.mul_le_mul_of_nonneg_left h2 (by omega)
   omega
def iq (l:List Int) (fl:Nat) (nl:Bool):ba:= .seq 1 false (Ka l) fl nl
section
variable {A:List ba} {id n fl:Nat} {nl:Bool} {l:List Int} (hg:A[id]? =some (iq l fl nl)) (hn:n=l.length) (hf:fl≤n)
include hg hn
theorem mF (hf:fl≤n) {i:Int} {k:Nat} (hi:i=(k:Int)) (hk:k < n):wa A 1 (.own id n) i=some (.Gc id n k):=by
 have:=pb l
 subst hi
 simp only[wa,hg,iq]
 rw[if_pos (by refine⟨trivial,?_,?_⟩ <;> first | (unfold Ia;omega) | (unfold Qh;omega))]
 simp
theorem SC {k:Nat} (hk:k < n) (v:Int):Oa A 1 (.Gc id n k) (.pv (i64 v))=some (A.set id (iq (l.set k v) n nl)):=by
 have hl:=pb l
 have hc:(AV.pv (i64 v)).cells=[.pv (i64 v)]:=rfl
 simp only[Oa,hg,iq,hc]
 rw[if_pos ⟨rfl,rfl⟩,if_pos ⟨by omega,by omega⟩,oa,oa,aj]
theorem mS (d:Nat):dc A (d+1) (.own id n)=some (if nl then .ma else .lit 1 (l.map i64)):=by
 have hl:=pb l
 subst hn
 simp only[dc,hg,iq]
 have hm:Ra (dc A d) (Ka l)=some (l.map i64):=by rw[ct,DC]
 have hck:∀ l:List Int,chunk 1 false l.length (l.map i64)=l.map i64:=by
  intro l
  induction l with
  |nil=>rfl
  |cons a l ih=>simp only[List.map_cons,List.length_cons,chunk,Bool.false_eq_true,if_false,List.headD_cons,List.drop_succ_cons,List.drop_zero];rw[ih]
 rw[if_pos ⟨by omega,by rfl⟩,hm]
 cases nl with
 |true=>rfl
 |false=>simp only[Bool.false_eq_true,if_false,Option.map_some,hck]
end
theorem AK (l:List Int) (fl:Nat) (nl:Bool) (n:Nat):na n (iq l fl nl)=some (iq l fl nl):=by
 have:(Ka l).all (AV.Je n deep)=true:=by
  rw[List.all_eq_true]
  intro v hv
  obtain⟨p,_,rfl⟩:=List.mem_map.1 hv
  rfl
 simp[na,iq,this]
def um (ls:List (List (Int×Int))) (i:Nat):List Int:=(List.range (ls.length+1)).map fun j=>if i < j then Ha (ls.drop j) else 0
theorem Zw (ls:List (List (Int×Int))) (i:Nat):(um ls i).length=ls.length+1:=by simp[um]
theorem ZR (ls:List (List (Int×Int))) (i:Nat) (hi:i < ls.length):(um ls (i+1)).set (i+1) (Ha (ls.drop (i+1)))=um ls i:=by
 apply List.ext_getElem
 ·simp[um]
 ·intro j h1 h2
  rw[List.getElem_set]
  simp only[um,List.getElem_map,List.getElem_range]
  by_cases hj:i+1=j
  ·subst hj;simp
  ·rw[if_neg hj]
   by_cases h:i+1 < j
   ·rw[if_pos h,if_pos (by omega)]
   ·rw[if_neg h,if_neg (by omega)]
def Pg (ls:List (List (Int×Int))):List Int:=(List.range (ls.length+1)).map fun j=>Ha (ls.drop j)
theorem nM (ls:List (List (Int×Int))):(um ls 0).set 0 (Ha ls)=Pg ls:=by
 apply List.ext_getElem
 ·simp[um,Pg]
 ·intro j h1 h2
  rw[List.getElem_set]
  simp only[um,Pg,List.getElem_map,List.getElem_range]
  by_cases hj:0=j
  ·subst hj;simp
  ·rw[if_neg hj,if_pos (by omega)]
abbrev JO (row:List PV) (m:Nat) (n i:Int):Tr:=(((Tr.lf.set 5 (.pv (i64 i))).set 4 (.pv (i64 n))).set 3 (.own 0 m)).set 1 (.pv (.rp row 0))
theorem jA {e:PV} {s:Lb} {P:PV} {ps:List PV} (h:pf e s P ps) (Ba:Dd s):Uj [e]=some (.lit 1 ((Pg s.parts).map i64)):=by
 obtain⟨hP1,hP2⟩:=h.Pv
 have heq:=h.eq
 subst heq
 have hP:=h.parts
 have lP:=hP.Vb
 have h8:=Ba.hi
 have hpr:=Ba.prod.2
 have hloop:Gd (fun r=>∃ E,r=(.exit 0,⟨E,[iq (um s.parts 0) (s.parts.length+1) false]⟩)∧E.get 3= .own 0 (s.parts.length+1)∧E.get 4= .pv (i64 (Ha s.parts)))
  (ab (ga (ua (Ea (fun _=>none) 8) Hh) (fa 1 [1,3,4,5])) qa ⟨JO [P,i64 s.first] (s.parts.length+1) 1 s.parts.length,[iq (um s.parts s.parts.length) 0 false]⟩):=by
  refine za (Qq (g:=ga (ua (Ea (fun _=>none) 8) Hh) (fa 1 [1,3,4,5]))
   (fun i t=>∃ fl,i≤s.parts.length∧t=⟨JO [P,i64 s.first] (s.parts.length+1) (Ha (s.parts.drop i)) i,[iq (um s.parts i) fl false]⟩∧fl≤s.parts.length+1∧(i < s.parts.length∨s.parts.length=0→fl=s.parts.length+1∨s.parts.length=0))
   qa s.parts.length _ (by unfold qa;omega) ⟨0,Nat.le_refl _,by rw[List.drop_length];rfl,by omega,fun h=>by omega⟩ ?_) (fun r h=>h.2)
  rintro i t ⟨fl,hi,rfl,hfl,hfl2⟩
  cases i with
  |zero=>
   have h1:=Ba.lo
   have:fl=s.parts.length+1:=by rcases hfl2 (.inl (by omega)) with h | h <;> omega
   subst this
   have e1:decide (((0:Nat):Int) > 0)=false:=by decide
   generalize hQ:LQ _ _ _=Q
   simp -implicitDefEqProofs only[SX,sevalprocAttr,-List.reduceReplicate,Hh,e1,JO]
   subst hQ
   exact⟨_,rfl,by simp[Tr.aa],by simp[Tr.aa]⟩
  |succ i=>
   have e1:decide (((i+1:Nat):Int) > 0)=true:=Fa (by omega)
   have t1:IntKind.i64.wrap (((i+1:Nat):Int) - 1)=(i:Int):=by rw[Ca (by omega)];omega
   have hg:[iq (um s.parts (i+1)) fl false][0]? =some (iq (um s.parts (i+1)) fl false):=rfl
   have a1:=mF hg (n:=s.parts.length+1) (Zw _ _).symm hfl (i:=((i+1:Nat):Int)) rfl (by omega)
   have s1:=SC hg (n:=s.parts.length+1) (Zw _ _).symm (k:=i+1) (by omega) (Ha (s.parts.drop (i+1)))
   rw[List.set_cons_zero,ZR s.parts i (by omega)] at s1
   obtain⟨v,hv,hpt,_⟩:=hP.sd (i:=i) (by omega) []
   have a2:=hP.Dw hv
   have hpo:=Ba.parts s.parts[i] (List.getElem_mem (by omega))
   have hss:=jw v s.parts[i] hpt.is hpt.sz hpo.2
   have hd:s.parts.drop i=s.parts[i]::s.parts.drop (i+1):=List.drop_eq_getElem_cons (by omega)
   have hpd:Ha (s.parts.drop i)=Ha (s.parts.drop (i+1)) * Ac 0 s.parts[i]:=by rw[hd,Ha]
   have hle:=Rk Ba.parts i
   have hpos:=sf (ls:=s.parts.drop i) fun x hx=>Ba.parts x (List.mem_of_mem_drop hx)
   rw[hpd] at hle hpos
   generalize s.parts[i]=l at *
   have t3:IntKind.i64.wrap (Ha (s.parts.drop (i+1)) * Ac 0 l)=Ha (s.parts.drop (i+1)) * Ac 0 l:=Ca (by omega)
   have r0:∀ H (x y:PV),xa H false 1 (.pv (.rp [x,y] 0))=some (.pv x):=fun H x y=>rfl
   have r1:∀ H (x:PV),xa H false 1 (.pv (.rp [x] 0))=some (.pv x):=fun H x=>rfl
   have q0:∀ H (x y:PV),place H 0 (.pv (.rp [x,y] 0))=some (.pv (.rp [x,y] 0)):=fun H x y=>rfl
   have hcut:∀ l' fl',Ra (na 1) [iq l' fl' false]=some [iq l' fl' false]:=fun l' fl'=>by simp[Ra,AK]
   have hz:(0 < 1)=True:=by simp
   have htk:∀ o:ba,[o].take 1=[o]:=fun o=>rfl
   generalize hQ:LQ _ _ _=Q
   simp -implicitDefEqProofs only[SP,WP,oa,sevalprocAttr,-List.reduceReplicate,Hh,e1,t1,t3,a1,s1,a2,hss,r0,r1,q0,hcut,hz,htk,fa,Aa,AV.cut,pa,JO]
   subst hQ
   exact⟨i,by omega,s.parts.length+1,by omega,by rw[hpd],by omega,fun _=> .inl rfl⟩
 obtain⟨r,h1,E,rfl,hE3,hE4⟩:=xc hloop
 have h1':ab (ga (ua (Ea (fun _=>none) 8) Hh) (fa 1 [1,3,4,5])) qa ⟨(((Tr.lf.set 5 (.pv (i64 s.parts.length))).set 4 (.pv (.int .i64 1))).set 3 (.own 0 (s.parts.length+1))).set 1 (.pv (.rp [P,i64 s.first] 0)),[iq (um s.parts s.parts.length) 0 false]⟩=_:=h1
 have hz0:ba.seq 1 false (Dk [PV.int .i64 0] (s.parts.length+1)) 0 false=iq (um s.parts s.parts.length) 0 false:=by
  rw[wG,iq]
  congr 2
  apply List.ext_getElem
  ·simp[um]
  ·intro j hj1 hj2
   simp at hj1
   simp only[um,List.getElem_replicate,List.getElem_map,List.getElem_range]
   rw[if_neg (by omega)]
 have t1:IntKind.i64.wrap ((s.parts.length:Int)+1)=((s.parts.length+1:Nat):Int):=Ca (by omega)
 have e2:(0≤((s.parts.length+1:Nat):Int))=True:=by simp;omega
 have e3:(((s.parts.length+1:Nat):Int)≤((s.parts.length+1:Nat):Int))=True:=by simp
 have e4:qb (s.parts.length+1) 8:=by unfold qb;omega
 have hg:[iq (um s.parts 0) (s.parts.length+1) false][0]? =some (iq (um s.parts 0) (s.parts.length+1) false):=rfl
 have a1:=mF hg (n:=s.parts.length+1) (Zw _ _).symm (Nat.le_refl _) (i:=0) (k:=0) rfl (by omega)
 have s1:=SC hg (n:=s.parts.length+1) (Zw _ _).symm (k:=0) (by omega) (Ha s.parts)
 rw[List.set_cons_zero,nM] at s1
 have hpv:=mS (A:=[iq (Pg s.parts) (s.parts.length+1) false]) (id:=0) (n:=s.parts.length+1) rfl (by simp[Pg]) 5
 rw[if_neg (by simp)] at hpv
 have r0:∀ H (x y:PV),xa H false 1 (.pv (.rp [x,y] 0))=some (.pv x):=fun H x y=>rfl
 have q0:∀ H (x y:PV),place H 0 (.pv (.rp [x,y] 0))=some (.pv (.rp [x,y] 0)):=fun H x y=>rfl
 have hcut:∀ l' fl',Ra (na 1) [iq l' fl' false]=some [iq l' fl' false]:=fun l' fl'=>by simp[Ra,AK]
 have hz:(0 < 1)=True:=by simp
 have htk:∀ o:ba,[o].take 1=[o]:=fun o=>rfl
 generalize s.parts.length+1=m at *
 simp -implicitDefEqProofs only[Uj,SP,WP,oa,sevalprocAttr,-List.reduceReplicate,Vr,xb,hP1,r0,q0,lP,t1,e2,e3,eq_true e4,hz0,hcut,hz,htk,fa,Aa,AV.cut,h1',hE3,hE4,a1,s1,hpv,pa]
end Go.AM.B1
namespace Go.AM.B1
open Go.AM Go.AM.So
def fh:List (List (Int×Int))→List Int→Int→Option Int
 |l::r,x::b,k=>if (xf x 0 l).2=true then fh r b (k+(xf x 0 l).1 * Ha r) else none
 |_,_,k=>some k
def Lf (s:Lb) (b:List Int):Option Int:=if b.length=s.parts.length then fh s.parts b 0 else none
theorem Oo {top x:Int}:∀ {l:List (Int×Int)} {last n:Int},Qa top last l=true→(xf x n l).2=true→n≤(xf x n l).1∧(xf x n l).1 < n+Ac 0 l
 | [],last,n,_,h=>by simp[xf] at h
 |p::l,last,n,hv,h=>by
  obtain⟨h1,h2,h3,h4,h5⟩:=ee hv
  have hs:=(yo h5).1
  rw[xf] at h ⊢
  rw[Ac,AA]
  by_cases c1:x < p.1
  ·rw[if_pos c1] at h;cases h
  ·rw[if_neg c1] at h ⊢
   by_cases c2:x≤p.2
   ·rw[if_pos c2];simp only;omega
   ·rw[if_neg c2] at h ⊢
    have:=Oo h5 h;omega
theorem FC {l:List (Int×Int)} (h:Qa 255 (-2) l=true):ny l=l:=by unfold ny;rw[if_pos h]
theorem FD (H:List ba) {sz k:Nat} {es:List PV} (hz:0 < sz) (hk:k≤es.length):ye H sz (.pv (.lit sz es)) (some (k:Int)) none=some (.pv (.lit sz (es.drop k))):=by
 simp only[ye,Option.getD_some,Option.getD_none]
 rw[if_pos ⟨hz,trivial,by omega,by omega,by omega⟩]
 simp
theorem Hq (b:List Int) (k:Int):fh [] b k=some k:=by cases b <;> rfl
abbrev IJ (row:List PV) (B S:PV) (n i k:Int):Tr:=(((((Tr.lf.set 26 (.pv (i64 i))).set 25 (.pv (i64 n))).set 24 (.pv S)).set 6 (.pv (i64 k))).set 2 (.pv (.rp row 0))).set 1 (.pv B)
structure Wi (B:PV) (bs:List Int):Prop where
 is:Vi 1 B (bs.map (PV.int .u8))
 HC:∀ b∈bs,0≤b∧b≤255
theorem Wi.Vb {B:PV} {bs:List Int} (h:Wi B bs) (H:List ba):Go.AM.Vb H 0 (.pv B)=some bs.length:=by
 rw[h.is.len];simp
theorem Wi.one {B:PV} {bs:List Int} (h:Wi B bs):(AV.pv B).one=true:=by
 rcases h.is with⟨h,_⟩ | h <;> rw[h] <;> rfl
theorem Wi.sd {B:PV} {bs:List Int} (h:Wi B bs) {i:Nat} (hi:i < bs.length) (H:List ba):wa H 1 (.pv B) (i:Int)=some (.pv (.rp [.int .u8 bs[i]] 0)):=by
 have hl:=h.is.lit (i:=i) (by simpa using hi)
 rw[hl]
 simp only[wa]
 rw[if_pos (by unfold Ia;simp;omega),Int.toNat_natCast,List.getElem?_map,List.getElem?_eq_getElem hi];rfl
theorem ew {e:PV} {s:Lb} {P:PV} {ps:List PV} (h:pf e s P ps) {B:PV} {bs:List Int} (hB:Wi B bs) (Ba:Dd s):
 (∀ k,Lf s bs=some k→uh [e,B]=some (.mc [i64 k,.bool true]))∧(Lf s bs=none→uh [e,B]=some (.mc [i64 0,.bool false])):=by
 obtain⟨b1,hb1,hb1'⟩:=Tl h
 have:=hb1'.2 Ba
 subst this
 have hst:=jA h Ba
 obtain⟨hP1,hP2⟩:=h.Pv
 have heq:=h.eq
 subst heq
 have hP:=h.parts
 have lP:=hP.Vb
 have lB:=hB.Vb
 have hB1:=hB.one
 have h8:=Ba.hi
 have hpr:=Ba.prod.2
 have r2:∀ H (x y:PV),xa H true 2 (.pv (.rp [x,y] 0))=some (.pv (.agg [x,y])):=fun H x y=>rfl
 have r0:∀ H (x y:PV),xa H false 1 (.pv (.rp [x,y] 0))=some (.pv x):=fun H x y=>rfl
 have r1:∀ H (x:PV),xa H false 1 (.pv (.rp [x] 0))=some (.pv x):=fun H x=>rfl
 have q0:∀ H (x y:PV),place H 0 (.pv (.rp [x,y] 0))=some (.pv (.rp [x,y] 0)):=fun H x y=>rfl
 by_cases hlen:bs.length=s.parts.length
 ·have hrk:Lf s bs=fh s.parts bs 0:=by unfold Lf;rw[if_pos hlen]
  have hsl:∀ H,ye H 1 (.pv (.lit 1 ((Pg s.parts).map i64))) (some 1) none=some (.pv (.lit 1 (((Pg s.parts).map i64).drop 1))):=fun H=>FD H (k:=1) (by omega) (by simp[Pg])
  have hdl:(((Pg s.parts).map i64).drop 1).length=s.parts.length:=by simp[Pg]
  have hde:∀ i,i < s.parts.length→(((Pg s.parts).map i64).drop 1)[i]? =some (i64 (Ha (s.parts.drop (i+1)))):=by
   intro i hi
   rw[List.getElem?_drop,List.getElem?_map,Pg,List.getElem?_map,List.getElem?_range (by omega),Nat.add_comm 1 i];rfl
  generalize ((Pg s.parts).map i64).drop 1=S at *
  have hloop:Gd (fun r=>∃ E,(r=(.ret,⟨E,[]⟩)∧E.get 4= .pv (i64 0)∧E.get 5= .pv (.bool false)∧fh s.parts bs 0=none)∨(∃ k,r=(.exit 0,⟨E,[]⟩)∧E.get 6= .pv (i64 k)∧fh s.parts bs 0=some k))
   (ab (ga (ua (Ea (fun _=>none) 8) gh) (fa 0 [1,2,6,24,25,26])) qa ⟨IJ [P,i64 s.first] B (.lit 1 S) s.parts.length 0 0,[]⟩):=by
   refine za (wb (g:=ga (ua (Ea (fun _=>none) 8) gh) (fa 0 [1,2,6,24,25,26]))
    (fun i t=>∃ k,t=⟨IJ [P,i64 s.first] B (.lit 1 S) s.parts.length i k,[]⟩∧0≤k∧k+Ha (s.parts.drop i)≤Ha s.parts∧fh s.parts bs 0=fh (s.parts.drop i) (bs.drop i) k)
    s.parts.length (by unfold qa;omega) _ ⟨0,rfl,by omega,by simp,rfl⟩ ?_ ?_) (fun r h=>h.2)
   ·rintro i t hi ⟨k,rfl,hk0,hk1,hs⟩
    obtain⟨v,hv,hpt,_⟩:=hP.sd hi []
    have a2:=hP.Dw hv
    have hpo:=Ba.parts s.parts[i] (List.getElem_mem hi)
    have hib:i < bs.length:=by omega
    have a3:=hB.sd hib
    have hbr:=hB.HC bs[i] (List.getElem_mem hib)
    have hd:s.parts.drop i=s.parts[i]::s.parts.drop (i+1):=List.drop_eq_getElem_cons hi
    have hdb:bs.drop i=bs[i]::bs.drop (i+1):=List.drop_eq_getElem_cons hib
    have hrr:=Xv v s.parts[i] hpt.is hpt.sz bs[i]
    rw[FC hpo.2] at hrr
    have hrb:=Oo (x:=bs[i]) (n:=0) hpo.2
    rw[hd,Ha] at hk1
    rw[hd,hdb,fh] at hs
    have hle:=Rk Ba.parts (i+1)
    have hpos:=sf (ls:=s.parts.drop (i+1)) fun x hx=>Ba.parts x (List.mem_of_mem_drop hx)
    have hsz:=Ah hpo
    generalize s.parts[i]=l at *
    generalize bs[i]=x at *
    have e1:decide ((i:Int) < (s.parts.length:Int))=true:=Fa (by omega)
    have t2:=Ua hi (by unfold maxLen;omega)
    have t3:IntKind.i64.wrap x=x:=Ca (by omega)
    have a1:∀ H,wa H 1 (.pv (.lit 1 S)) (i:Int)=some (.pv (.rp [i64 (Ha (s.parts.drop (i+1)))] 0)):=fun H=>by
     simp only[wa]
     rw[if_pos (by unfold Ia;simp;omega),Int.toNat_natCast,hde i hi];rfl
    obtain⟨⟨d,is⟩,hrk2⟩:∃ r,r=xf x 0 l:=⟨_,rfl⟩
    rw[← hrk2] at hrr hs hrb
    generalize hQ:LN _ _ i=Q
    cases is with
    |false=>
     simp only[Bool.false_eq_true,if_false] at hs
     simp -implicitDefEqProofs only[SX,sevalprocAttr,-List.reduceReplicate,gh,e1,a1,a2,a3,r0,r1,q0,t3,hrr,IJ]
     subst hQ
     exact⟨_,.inl ⟨rfl,by simp[Tr.aa],by simp[Tr.aa],hs⟩⟩
    |true=>
     simp only[if_true] at hs
     have hb2:=hrb rfl
     simp only at hb2
     have hmul:d * Ha (s.parts.drop (i+1))+Ha (s.parts.drop (i+1))≤Ha (s.parts.drop (i+1)) * Ac 0 l:=by
      have h1:(d+1) * Ha (s.parts.drop (i+1))≤Ac 0 l * Ha (s.parts.drop (i+1)):=Int.mul_le_mul_of_nonneg_right (by omega) (by omega)
      rw[Int.add_mul,Int.one_mul,Int.mul_comm (Ac 0 l)] at h1
      exact h1
     have hm0:0≤d * Ha (s.parts.drop (i+1)):=Int.mul_nonneg (by omega) (by omega)
     have t4:IntKind.i64.wrap (d * Ha (s.parts.drop (i+1)))=d * Ha (s.parts.drop (i+1)):=Ca (by omega)
     have t5:IntKind.i64.wrap (k+d * Ha (s.parts.drop (i+1)))=k+d * Ha (s.parts.drop (i+1)):=Ca (by omega)
     simp -implicitDefEqProofs only[SX,sevalprocAttr,-List.reduceReplicate,gh,e1,t2,t4,t5,a1,a2,a3,r0,r1,q0,t3,hrr,fa,Aa,AV.cut,pa,IJ]
     subst hQ
     exact⟨_,rfl,by omega,by omega,hs⟩
   ·rintro t ⟨k,rfl,hk0,hk1,hs⟩
    rw[List.drop_length,Hq] at hs
    have e1:decide ((s.parts.length:Int) < (s.parts.length:Int))=false:=Ga (by omega)
    generalize hQ:(fun r:Ex×St=>r.1.stop=true∧_)=Q
    simp -implicitDefEqProofs only[SX,sevalprocAttr,-List.reduceReplicate,gh,e1,IJ]
    subst hQ
    exact⟨rfl,_,.inr ⟨k,rfl,by simp[Tr.aa],hs⟩⟩
  obtain⟨r,h1,E,h2⟩:=xc hloop
  have h1':ab (ga (ua (Ea (fun _=>none) 8) gh) (fa 0 [1,2,6,24,25,26])) qa ⟨(((((Tr.lf.set 26 (.pv (.int .i64 0))).set 25 (.pv (i64 s.parts.length))).set 24 (.pv (.lit 1 S))).set 6 (.pv (.int .i64 0))).set 2 (.pv (.rp [P,i64 s.first] 0))).set 1 (.pv B),[]⟩=some r:=h1
  have d1:((bs.length:Int) != (s.parts.length:Int))=false:=by rw[hlen];simp
  rw[hrk]
  rcases h2 with⟨rfl,h4,h5,hn⟩ | ⟨k,rfl,h6,hk⟩
  ·refine⟨fun k hk=>by (rw[hn] at hk;cases hk),fun _=> ?_⟩
   simp -implicitDefEqProofs only[uh,SX,sevalprocAttr,-List.reduceReplicate,Pm,xb,hP1,hB1,r2,r0,q0,hb1,lP,lB,d1,hst,hsl,hdl,fa,Aa,AV.cut,pa,h1',h4,h5]
  ·refine⟨fun k' hk'=> ?_,fun hn=>by (rw[hk] at hn;cases hn)⟩
   obtain rfl:k=k':=Option.some.inj (hk.symm.trans hk')
   simp -implicitDefEqProofs only[uh,SX,sevalprocAttr,-List.reduceReplicate,Pm,xb,hP1,hB1,r2,r0,q0,hb1,lP,lB,d1,hst,hsl,hdl,fa,Aa,AV.cut,pa,h1',h6]
 ·have d1:((bs.length:Int) != (s.parts.length:Int))=true:=by
   have:(bs.length:Int)≠(s.parts.length:Int):=by omega
   simp[this]
  have hrk:Lf s bs=none:=by unfold Lf;rw[if_neg hlen]
  refine⟨fun k hk=>by (rw[hrk] at hk;cases hk),fun _=> ?_⟩
  simp -implicitDefEqProofs only[uh,SX,sevalprocAttr,-List.reduceReplicate,Pm,xb,hP1,hB1,r2,r0,q0,hb1,lP,lB,d1]
end Go.AM.B1
