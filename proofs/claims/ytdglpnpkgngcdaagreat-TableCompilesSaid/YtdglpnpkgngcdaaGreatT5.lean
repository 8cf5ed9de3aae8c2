/- What functions of the program compute. -/
import Derived.Test.YtdglpnpkgngcdaaGreatT4
import Derived.Test.YtdglpnpkgngcdaaGreatT3
set_option linter.unusedVariables false
set_option linter.unusedSimpArgs false
namespace Go.AM.B1
open Go.AM
def gv (n:Nat) (O:List Int):Prop:=O.Nodup∧∀ o∈O,0≤o∧o < (n:Int)
theorem gA:∀ (n:Nat) (O:List Int),O.Nodup→(∀ o∈O,0≤o∧o < (n:Int))→O.length≤n
 |0,O,_,h=>by
  cases O with
  |nil=>simp
  |cons a O=>have:=h a (by simp);omega
 |n+1,O,hd,h=>by
  have ih:=gA n (O.erase n) (hd.erase _) (fun o ho=>by
   have h1:=h o (List.mem_of_mem_erase ho)
   have h2:o≠n:=(hd.mem_erase_iff.1 ho).1
   omega)
  rw[List.length_erase] at ih
  split at ih <;> omega
theorem gv.len {n:Nat} {O:List Int} (h:gv n O):O.length≤n:=gA n O h.1 h.2
theorem Zz {a:Int}:∀ {l:List Int} {k:Nat},Qs a l k=none→a ∉ l
 | [],_,_=>by simp
 |b::l,k,h=>by
  simp only[Qs] at h
  split at h
  ·cases h
  ·next hne=>simp only[List.mem_cons,not_or];exact⟨hne,Zz h⟩
def Ed (mb:List Int):List Nat→List Int×List Int→List Int×List Int
 | [],r=>r
 |x::xs,r=>Ed mb xs (Oi x (mb.getD x 0) r)
theorem YS {n:Nat} {x:Nat} {to:Int} {r:List Int×List Int} (hto:to < n) (h:gv n r.1):gv n (Oi x to r).1∧(Oi x to r).2.length=r.2.length∧∃ t,(Oi x to r).1=r.1++t:=by
 unfold Oi
 by_cases h0:to < 0
 ·rw[if_pos h0];exact⟨h,rfl,[],by simp⟩
 ·rw[if_neg h0]
  cases hi:Qs to r.1 0 with
  |some k=>exact⟨h,by simp,[],by simp⟩
  |none=>
   have hn:=Zz hi
   refine⟨⟨?_,?_⟩,by simp,[to],rfl⟩
   ·simp only[List.nodup_append,h.1,true_and]
    refine⟨by simp,?_⟩
    intro a ha b hb
    simp at hb;subst hb
    intro e;subst e;exact hn ha
   ·intro o ho
    rcases List.mem_append.1 ho with h1 | h1
    ·exact h.2 o h1
    ·simp at h1;subst h1;omega
section
variable (call:ab) (R0 R1:ba) (S:PV) (nl nr:Bool) (fr:Nat) (sets:List Al) (C:List Int) (n:Nat) (L M:ba)
theorem dL (O:List Int) (out:List PV) (no:Bool) (J:List ba) (k:Int) (mb:List Int) (q:Nat) (hq13:q=J.length+1+1+1+1+1+1+1+1+1+1+1+1+1)
 (hO:gv n O) (hn:n≤64) (hrow:mb.length=256) (hto:∀ to∈mb,to < n):
 gb (fa (ta call oc) (fun s=>some (tidy [0,2,3,4,5,6,7,31,32] s))) oa ⟨Cx q k O mb 0,Gn R0 R1 S nl nr fr sets C n L M O out no (J++[.box (Ja mb)])⟩=
  some (.exit 2,⟨(Cx q k (Ed mb (List.range 256) (O,mb)).1 mb 256).set 33 (.pv (.bool false)),
   Gn R0 R1 S nl nr fr sets C n L M (Ed mb (List.range 256) (O,mb)).1 out no (J++[.box (Ja (Ed mb (List.range 256) (O,mb)).2)])⟩)∧
  gv n (Ed mb (List.range 256) (O,mb)).1∧(Ed mb (List.range 256) (O,mb)).2.length=256∧∃ t,(Ed mb (List.range 256) (O,mb)).1=O++t:=by
 generalize hxs:List.range 256=xs
 have key:=Pj (g:=fa (ta call oc) (fun s=>some (tidy [0,2,3,4,5,6,7,31,32] s)))
  (fun x t=>∃ r,gv n r.1∧r.2.length=256∧(∃ t,r.1=O++t)∧t=⟨Cx q k r.1 mb x,Gn R0 R1 S nl nr fr sets C n L M r.1 out no (J++[.box (Ja r.2)])⟩∧Ed mb xs (O,mb)=Ed mb (xs.drop x) r)
  (fun ex t=>ex= .exit 2∧t=⟨(Cx q k (Ed mb xs (O,mb)).1 mb 256).set 33 (.pv (.bool false)),Gn R0 R1 S nl nr fr sets C n L M (Ed mb xs (O,mb)).1 out no (J++[.box (Ja (Ed mb xs (O,mb)).2)])⟩∧
   gv n (Ed mb xs (O,mb)).1∧(Ed mb xs (O,mb)).2.length=256∧∃ t,(Ed mb xs (O,mb)).1=O++t)
  oa 256 0 ⟨Cx q k O mb (0:Nat),Gn R0 R1 S nl nr fr sets C n L M O out no (J++[.box (Ja mb)])⟩ (by unfold oa;omega) (by omega) ⟨(O,mb),hO,hrow,⟨[],by simp⟩,rfl,rfl⟩ ?_ ?_
 ·obtain⟨ex,t,h,_,rfl,rfl,q1,q2⟩:=key
  exact⟨h,q1,q2⟩
 ·rintro x hx t ⟨⟨O',row⟩,hO',hr',⟨tl,htl⟩,rfl,hl⟩
  have hd:=dq hx
  rw[hxs] at hd
  obtain⟨to,ht⟩:∃ to,mb[x]? =some to:=⟨mb[x],by simp[hrow,hx]⟩
  have hgd:mb.getD x 0=to:=by simp[List.getD_eq_getElem?_getD,ht]
  have hlt:=hto to (List.mem_of_getElem? ht)
  rw[hd,Ed,hgd] at hl
  have Aa:=YS (x:=x) (r:=(O',row)) hlt hO'
  refine .inl ⟨_,?_,Oi x to (O',row),Aa.1,by rw[Aa.2.1];exact hr',?_,rfl,hl⟩
  ·by_cases h0:to < 0
   ·have e:Oi x to (O',row)=(O',row):=by simp[Oi,h0]
    rw[e]
    exact qO call R0 R1 S nl nr fr sets C n L M O' out no J k mb row x to q hx ht h0
   ·have hlen:=hO'.len
    cases hi:Qs to O' 0 with
    |some j=>
     have e:Oi x to (O',row)=(O',row.set x j):=by simp[Oi,h0,hi]
     rw[e]
     exact nS call R0 R1 S nl nr fr sets C n L M O' out no J k mb row x to q hx ht hq13 hr' h0 hi
    |none=>
     have e:Oi x to (O',row)=(O'++[to],row.set x O'.length):=by simp[Oi,h0,hi]
     rw[e]
     exact NR call R0 R1 S nl nr fr sets C n L M O' out no J k mb row x to q hx ht hq13 hr' h0 hi (by simp only at hlen;omega)
  ·obtain⟨t2,h2⟩:=Aa.2.2
   exact⟨tl++t2,by rw[h2,←List.append_assoc,←htl]⟩
 ·rintro t ⟨⟨O',row⟩,hO',hr',htl,rfl,hl⟩
  rw[List.drop_eq_nil_of_le (by rw[← hxs,List.length_range];exact Nat.le_refl _),Ed] at hl
  rw[hl]
  refine⟨.exit 2,_,?_,rfl,rfl,rfl,hO',hr',htl⟩
  have e1:decide (((256:Nat):Int) < 256)=false:=by decide
  simp -implicitDefEqProofs only[SP,SA,SQ,sevalprocAttr,-List.reduceReplicate,fa,oc,e1,Cx]
abbrev UA (k:Int) (O:List Int):Tr:=
 ((((((Tr.lf.set 6 (.pv (i64 k))).set 5 (.ptr 11 0)).set 4 (.uq 10 false 1 (O.map i64))).set 3 (.mp 9)).set 2 (.ptr 8 0)).set 0 (.ptr 3 0))
def Vf (C:List Int) (o:Int) (O:List Int):List Int×List Int:=Ed (Wa C o.toNat) (List.range 256) (O,Wa C o.toNat)
theorem nM (O:List Int) (out:List PV) (no:Bool) (J:List ba) (k:Nat) (o:Int)
 (hC:C.length=n * 256) (cC:∀ c∈C,c < n) (hfr:fr≤n * 256) (hO:gv n O) (hn:n≤64) (hk:O[k]? =some o) (hout:out.length=k):
 fa (ta call jd) (fun s=>some (tidy [0,2,3,4,5,6] s)) ⟨UA k O,Gn R0 R1 S nl nr fr sets C n L M O out no J⟩=
  some (.norm,⟨UA (k+1:Nat) (Vf C o O).1,Gn R0 R1 S nl nr fr sets C n L M (Vf C o O).1 (out++[Vb (Qf (Vf C o O).2)]) false (J++[.box (Ja (Vf C o O).2)])⟩)∧
  gv n (Vf C o O).1∧∃ t,(Vf C o O).1=O++t:=by
 have hom:=hO.2 o (List.mem_of_getElem? hk)
 have hkl:=(List.getElem?_eq_some_iff.1 hk).1
 have hOl:=hO.len
 have hoi:o.toNat < n:=by omega
 have hr0:=Jh hC hoi
 obtain⟨hin,g1,g2,g3⟩:=dL call R0 R1 S nl nr fr sets C n L M O out no J k (Wa C o.toNat) _ rfl hO hn hr0 (fun to h=>cC to (List.mem_of_mem_drop (List.mem_of_mem_take h)))
 refine⟨?_,g1,g3⟩
 unfold Vf
 generalize Ed (Wa C o.toNat) (List.range 256) (O,Wa C o.toNat)=r at *
 obtain⟨O',row'⟩:=r
 simp only at g1 g2 g3 hin
 have hed:=HQ row' g2
 have hlen:(O.map i64).length=O.length:=by simp
 have e1:decide ((k:Int) < (O.length:Int))=true:=Ga (by omega)
 have t1:((k:Int)).toNat=k:=by simp
 have hq1:Fa (k:Int) O.length:=by unfold Fa;omega
 have hg:(O.map i64)[k]? =some (i64 o):=by rw[List.getElem?_map,hk];rfl
 have hq3:Fa o n:=by unfold Fa;omega
 have w2:mi 256 n fr (Ja C).length:=by rw[pb];unfold mi;omega
 have w4:((Ja C).length=n * 256)=True:=by rw[pb];exact eq_true hC
 have w6:(o.toNat * 256+256≤(Ja C).length)=True:=by rw[pb];exact eq_true (by omega)
 have p1:=pD C o.toNat
 have t2:=Ua (i:=k) (n:=64) (by omega) (by unfold maxLen;omega)
 have h9:((Wa C o.toNat).map i64).map AV.pv=Ja (Wa C o.toNat):=(Js _).symm
 have hz:=tW
 have p5:(256≤(Ja (List.replicate 256 0)).length)=True:=by rw[pb,List.length_replicate];exact eq_true (Nat.le_refl _)
 have p6:na (Ja (List.replicate 256 0)) 0 (Ja (Wa C o.toNat))=Ja (Wa C o.toNat):=by
  have:=uy (Ja (Wa C o.toNat)) (Ja (List.replicate 256 0)) [] (by rw[pb,pb,hr0,List.length_replicate])
  rw[List.nil_append,List.nil_append] at this;exact this
 generalize hzs:List.replicate 256 (0:Int)=zs at *
 generalize Wa C o.toNat=mb at *
 have r0:((Ja mb).length=256)=True:=by rw[pb,hr0];exact eq_self _
 have r1:(256≤(Ja mb).length)=True:=by rw[pb,hr0];exact eq_true (Nat.le_refl _)
 have r2:List.take 256 (Ja mb)=Ja mb:=List.take_of_length_le (by rw[pb,hr0];exact Nat.le_refl _)
 have r3:=Hs mb
 have r5:=KE mb
 have s1:(256≤(Ja row').length)=True:=by rw[pb,g2];exact eq_true (Nat.le_refl _)
 have s2:List.take 256 (Ja row')=Ja row':=List.take_of_length_le (by rw[pb,g2];exact Nat.le_refl _)
 have s3:=Hs row'
 have q1:xb (out.length+1) 24:=by unfold xb;omega
 have hlen2:(out++[Vb (Qf row')]).length=out.length+1:=by simp
 unfold Gn
 rw[hlen2]
 have hcs:(∃ l,Vb (Qf row')= .lit 3 l)∨Vb (Qf row')= .ma:=by unfold Vb;split;exact .inr rfl;exact .inl ⟨_,rfl⟩
 generalize Vb (Qf row')=ed at *
 simp only[Cx,Gn,Vh,tidy,Dc] at hin
 simp -implicitDefEqProofs only[SP,SA,SQ,sevalprocAttr,-List.reduceReplicate,fa,jd,hlen,e1,eq_true hq1,eq_true hq3,t1,hg,eq_true w2,w4,w6,p1,h9,hz,p5,p6,r0,r1,r2,r3,r5,Eo,zo,ua,Ip,tidy,Dc,UA,Vh]
 rw[hin]
 rcases hcs with⟨l,rfl⟩ | rfl <;>
 simp -implicitDefEqProofs only[SP,SA,SQ,sevalprocAttr,-List.reduceReplicate,t2,s1,s2,s3,hed,wg,Xb,eq_true q1,Eo,zo,ua,tidy,Dc,UA,Vh,Ai,AV.uC,AV.Xo]
def rj (C:List Int):Nat→List Int×List (List ve)→List Int×List (List ve)
 |0,r=>r
 |f+1,r=>match r.1[r.2.length]? with
  |none=>r
  |some o=>rj C f ((Vf C o r.1).1,r.2++[Qf (Vf C o r.1).2])
theorem Aq {C:List Int} {f:Nat} {r:List Int×List (List ve)} (h:r.1[r.2.length]? =none):rj C f r=r:=by
 cases f with
 |zero=>rfl
 |succ f=>rw[rj,h]
theorem gr {C:List Int} {f:Nat} {r:List Int×List (List ve)} {o:Int} (h:r.1[r.2.length]? =some o):rj C (f+1) r=rj C f ((Vf C o r.1).1,r.2++[Qf (Vf C o r.1).2]):=by
 rw[rj,h]
def gn (C:List Int):List (List ve):=(rj C 64 ([0],[])).2
def pf (l:List (List ve)):PV:= .lit 1 (l.map Vb)
theorem AF (O:List Int) (out:List PV) (no:Bool) (J:List ba) (k:Nat) (hk:k=O.length):
 fa (ta call jd) (fun s=>some (tidy [0,2,3,4,5,6] s)) ⟨UA k O,Gn R0 R1 S nl nr fr sets C n L M O out no J⟩=
  some (.exit 0,⟨((((UA k O).set 15 (.pv (i64 k))).set 16 (.uq 10 false 1 (O.map i64))).set 17 (.pv (i64 O.length))).set 18 (.pv (.bool false)),Gn R0 R1 S nl nr fr sets C n L M O out no J⟩):=by
 have hlen:(O.map i64).length=O.length:=by simp
 have e1:decide ((k:Int) < (O.length:Int))=false:=Ia (by omega)
 simp -implicitDefEqProofs only[SP,SA,SQ,sevalprocAttr,-List.reduceReplicate,fa,jd,hlen,e1,UA,Gn,Vh]
theorem lO (hC:C.length=n * 256) (cC:∀ c∈C,c < n) (hfr:fr≤n * 256) (hn:n≤64) (h0:0 < n):
 ∃ O J k,gb (fa (ta call jd) (fun s=>some (tidy [0,2,3,4,5,6] s))) oa ⟨UA 0 [0],Gn R0 R1 S nl nr fr sets C n L M [0] [] true []⟩=
  some (.exit 0,⟨((((UA k O).set 15 (.pv (i64 k))).set 16 (.uq 10 false 1 (O.map i64))).set 17 (.pv (i64 O.length))).set 18 (.pv (.bool false)),Gn R0 R1 S nl nr fr sets C n L M O ((gn C).map Vb) false J⟩):=by
 have key:=Pj (g:=fa (ta call jd) (fun s=>some (tidy [0,2,3,4,5,6] s)))
  (fun k t=>∃ (O:List Int) (out:List (List ve)) (J:List ba),gv n O∧out.length=k∧k≤O.length∧0 < O.length∧t=⟨UA k O,Gn R0 R1 S nl nr fr sets C n L M O (out.map Vb) (k==0) J⟩∧rj C 64 ([0],[])=rj C (64 - k) (O,out))
  (fun ex t=>∃ (O:List Int) (J:List ba) (k:Nat),ex= .exit 0∧t=⟨((((UA k O).set 15 (.pv (i64 k))).set 16 (.uq 10 false 1 (O.map i64))).set 17 (.pv (i64 O.length))).set 18 (.pv (.bool false)),Gn R0 R1 S nl nr fr sets C n L M O ((gn C).map Vb) false J⟩)
  oa 64 0 ⟨UA (0:Nat) [0],Gn R0 R1 S nl nr fr sets C n L M [0] [] true []⟩ (by unfold oa;omega) (by omega)
   ⟨[0],[],[],⟨by simp,by intro o ho;simp at ho;omega⟩,rfl,by simp,by simp,rfl,rfl⟩ ?_ ?_
 ·obtain⟨ex,t,h,_,O,J,k,rfl,rfl⟩:=key
  exact⟨O,J,k,h⟩
 ·rintro k hk t ⟨O,out,J,hO,hout,hkO,hO0,rfl,hl⟩
  by_cases hlt:k < O.length
  ·obtain⟨o,ho⟩:∃ o,O[k]? =some o:=⟨O[k],by simp[hlt]⟩
   obtain⟨g1,g2,t,g3⟩:=nM call R0 R1 S nl nr fr sets C n L M O (out.map Vb) (k==0) J k o hC cC hfr hO hn ho (by simpa using hout)
   rw[show 64 - k=(64 - (k+1))+1 by omega,gr (r:=(O,out)) (o:=o) (by show O[out.length]? =_;rw[hout];exact ho)] at hl
   refine .inl ⟨_,g1,_,out++[Qf (Vf C o O).2],J++[.box (Ja (Vf C o O).2)],g2,by simp[hout],?_,?_,?_,hl⟩
   ·rw[g3];simp;omega
   ·rw[g3];simp;omega
   ·have:(k+1==0)=false:=rfl
    rw[this];simp
  ·have hke:k=O.length:=by omega
   rw[Aq (r:=(O,out)) (by show O[out.length]? =none;rw[hout,hke];simp)] at hl
   refine .inr ⟨.exit 0,_,AF call R0 R1 S nl nr fr sets C n L M O _ _ J k hke,rfl,O,J,k,rfl,?_⟩
   have:(k==0)=false:=by simp;omega
   rw[this,gn,hl]
 ·rintro t ⟨O,out,J,hO,hout,hkO,hO0,rfl,hl⟩
  have hke:64=O.length:=by have:=hO.len;omega
  rw[Aq (r:=(O,out)) (by show O[out.length]? =none;rw[hout,hke];simp)] at hl
  refine⟨.exit 0,_,AF call R0 R1 S nl nr fr sets C n L M O _ _ J 64 hke,rfl,O,J,64,rfl,?_⟩
  have:((64:Nat)==0)=false:=rfl
  rw[this,gn,hl]
theorem mR (hC:C.length=n * 256) (cC:∀ c∈C,c < n) (hfr:fr≤n * 256) (hn:n≤64) (h0:0 < n):
 ∃ O J,cj call fj [.ptr 3 0] (Vh R0 R1 S nl nr fr sets C n [L,M])=
  some (.agg [.uq 12 false 1 ((gn C).map Vb)],Vh R0 R1 S nl nr fr sets C n (L::M:: .box [.uq 12 false 1 ((gn C).map Vb)]:: .map (DK O 0):: .tok 1 O.length false:: .box [.uq 12 false 1 ((gn C).map Vb)]:: .tok 1 ((gn C).map Vb).length false::J)):=by
 obtain⟨O,J,k,hl⟩:=lO call R0 R1 S nl nr fr sets C n L M hC cC hfr hn h0
 refine⟨O,J,?_⟩
 generalize (gn C).map Vb=out at *
 have hl':gb (fa (ta call jd) (fun s=>some ⟨((((((Tr.lf.set 6 (s.env.get 6)).set 5 (s.env.get 5)).set 4 (s.env.get 4)).set 3 (s.env.get 3)).set 2 (s.env.get 2)).set 0 (s.env.get 0)),s.H⟩)) oa
  ⟨((((((Tr.lf.set 6 (.pv (.int .i64 0))).set 5 (.ptr 11 0)).set 4 (.uq 10 false 1 [.int .i64 0])).set 3 (.mp 9)).set 2 (.ptr 8 0)).set 0 (.ptr 3 0)),[R0,R1,.map (UB sets 0),.box [.pv S,.mp 2,.uq 4 nl 2 (sets.map Zh),.own 5 n],.tok 2 sets.length nl,.seq 256 true (Ja C) fr nr,L,M,.box [.pv .ma],.map [(.int .i64 0,.int .i64 0)],.tok 1 1 false,.box [.uq 12 true 1 []],.tok 1 0 true]⟩=_:=hl
 simp only[UA,Gn,Vh] at hl'
 simp -implicitDefEqProofs only[SP,SA,SQ,sevalprocAttr,-List.reduceReplicate,fj,Ke,Ip,tidy,Dc,dm,Zi,Jn,Option.isSome_some,Ai,AV.uC,AV.Xo,Vh]
 rw[hl']
 simp -implicitDefEqProofs only[SP,SA,SQ,sevalprocAttr,-List.reduceReplicate,Vh]
end
end Go.AM.B1
namespace Go.AM.B1
open Go.AM
def aq (n:Nat):Int:=IntKind.u32.wrap (IntKind.u32.wrap (1 * 2 ^ min n IntKind.u32.bits) - 1)
theorem pE (n:Nat):IntKind.u32.wrap (IntKind.u32.wrap (1 * 2 ^ min n IntKind.u32.bits) - 1)=aq n:=rfl
theorem sD {n:Nat} (h:n≤32):aq n=((2 ^ n - 1:Nat):Int):=by
 have:∀ n:Fin 33,aq n.1=((2 ^ n.1 - 1:Nat):Int):=by decide
 exact this ⟨n,by omega⟩
theorem NM {a:Al}:∀ {l:List Al} {k i:Nat},Ul a l k=some i→i < k+l.length
 |b::l,k,i,h=>by
  simp only[Ul] at h
  split at h
  ·injection h with h;simp;omega
  ·have:=NM h;simp;omega
theorem mS {ss:List Yb} {a:Al} {x:Int} {sets:List Al} {r:List Al×Int} (h:Kg ss a x sets=some r):r.2 < r.1.length:=by
 unfold Kg at h
 split at h
 ·injection h with h;subst h;simp;omega
 ·split at h
  ·injection h with h;subst h;simp;omega
  ·split at h
   ·next k hk=>injection h with h;subst h;have:=NM hk;simp at this;simp;omega
   ·split at h
    ·injection h with h;subst h;simp;omega
    ·cases h
theorem gN {ss:List Yb} {a:Al}:∀ (xs:List Nat) (r r':List Al×List Int),r.1.length≤64→(∀ v∈r.2,v < r.1.length)→Qk ss a xs r=some r'→∀ v∈r'.2,v < r'.1.length
 | [],r,r',_,h,e=>by injection e with e;subst e;exact h
 |x::xs,r,r',hl,h,e=>by
  cases hst:Kg ss a x r.1 with
  |none=>rw[ct hst] at e;cases e
  |some p=>
   rw[vt hst] at e
   have hg:=RB hst hl
   refine gN xs (p.1,r.2.set x p.2) r' hg.1 ?_ e
   intro v hv
   obtain⟨t,ht⟩:=hg.2
   rcases List.mem_or_eq_of_mem_set hv with h1 | h1
   ·have h2:=h v h1
    have:r.1.length≤p.1.length:=by rw[ht];simp
    simp only;omega
   ·rw[h1];exact mS hst
theorem wI {ss:List Yb} (hw:ss.length≤32):∀ (k:Nat) (r r':List Al×List (List Int)),Sm ss r.1→(∀ l∈r.2,∀ v∈l,v < r.1.length)→Ig ss k r=some r'→(∀ l∈r'.2,∀ v∈l,v < r'.1.length)∧∃ t,r'.1=r.1++t
 |0,r,r',_,h,e=>by injection e with e;subst e;exact⟨h,[],by simp⟩
 |k+1,r,r',Aa,h,e=>by
  cases ha:r.1[r.2.length]? with
  |none=>rw[Ws ha] at e;injection e with e;subst e;exact⟨h,[],by simp⟩
  |some a=>
   cases hr:Qk ss a (List.range 256) (r.1,mb) with
   |none=>rw[Vu ha hr] at e;cases e
   |some p=>
    rw[Nt ha hr] at e
    obtain⟨g1,⟨t,g2⟩,g3⟩:=Tu hw (List.range 256) (r.1,mb) p Aa ha hr
    have hpos:0 < r.1.length:=by have:=(List.getElem?_eq_some_iff.1 ha).1;omega
    have g4:=gN (List.range 256) (r.1,mb) p Aa.1 (by
     intro v hv
     have:v=0:=List.eq_of_mem_replicate hv
     simp only;omega) hr
    obtain⟨k1,t2,k2⟩:=wI hw k (p.1,r.2++[p.2]) r' g1 (by
     intro l hl v hv
     rcases List.mem_append.1 hl with h1 | h1
     ·have:=h l h1 v hv
      simp only[g2,List.length_append] at this ⊢;omega
     ·simp at h1;subst h1;exact g4 v hv) e
    exact⟨k1,t++t2,by rw[k2,g2,List.append_assoc]⟩
theorem oA:∀ (rs:List (List Int)),Ja rs.flatten=rs.flatMap Ja
 | []=>rfl
 |r::rs=>by
  have:=oA rs
  rw[List.flatten_cons,zD,List.flatMap_cons,this]
def Jg (ss:List Yb):List Al:=[(0,aq ss.length)]
theorem lz {ss:List Yb} (hw:ss.length≤32) (hne:∀ s∈ss,0 < s.parts.length):Sm ss (Jg ss):=by
 refine⟨by simp[Jg],?_⟩
 intro k a ha
 match k,ha with
 |0,ha=>
  simp only[Jg,List.getElem?_cons_zero,Option.some.injEq] at ha
  subst ha
  refine⟨by simp,2 ^ ss.length - 1,sD hw,?_,?_⟩
  ·have:2 ^ ss.length≤2 ^ 32:=Nat.pow_le_pow_right (by decide) hw
   omega
  ·intro i s hs _
   exact hne s (List.mem_of_getElem? hs)
 |k+1,ha=>simp[Jg] at ha
section
variable (R0 R1:ba) (S:PV) (ss:List Yb)
 (h0:pa 7 R0=some R0) (h1:pa 7 R1=some R1) (g0:pa 6 R0=some R0) (g1:pa 6 R1=some R1)
 (hS:Th 2 S (ss.map Xd)) (hw:ss.length≤32) (hsz:∀ s∈ss,∀ l∈s.parts,l.length * 16≤140737488355328) (hne:∀ s∈ss,0 < s.parts.length)
include h0 h1 g0 g1 hS hw hsz hne
theorem BI:
 (∀ r,Ig ss 64 (Jg ss,[])=some r→∃ nl',cj (Ca Ea 7) ng [.ptr 3 0] (Gj R0 R1 S true [] (Ug []) 0 [])=some (.pv (.bool true),Gj R0 R1 S nl' r.1 (Ug r.2) r.2.length [])∧Sm ss r.1∧r.2.length=r.1.length∧∀ r'∈r.2,r'.length=256)∧
 (Ig ss 64 (Jg ss,[])=none→∃ H,cj (Ca Ea 7) ng [.ptr 3 0] (Gj R0 R1 S true [] (Ug []) 0 [])=some (.pv (.bool false),H)∧H[0]? =some R0):=by
 have hloop:=YP R0 R1 S false (Jg ss) ss h0 h1 g0 g1 hS hw hsz (lz hw hne) (by simp[Jg])
 have ls:=hS.len
 simp only[List.length_map] at ls
 have hmet:cj (Ca Ea 6) Wd [.ptr 3 0,.pv (.agg [.int .i64 0,.int .u32 (aq ss.length)])] [R0,R1,.map (UB [] 0),.box [.pv S,.mp 2,.uq 4 true 2 [],.own 5 0],.tok 2 0 true,.seq 256 true [] 0 true]=some (.pv (.Jc [.int .i64 0,.bool true]),Gj R0 R1 S false [(0,aq ss.length)] (Ug []) 0 []):=
  EN (Ca Ea 6) R0 R1 S true [] (Ug []) 0 [] (0,aq ss.length) rfl (by simp)
 have n0:¬((ss.length:Int) < 0):=by omega
 have t1:((ss.length:Int)).toNat=ss.length:=by simp
 have e1:((ss.length:Int) < 0)=False:=eq_false n0
 have q5:=sw 6 6 []
 simp only[List.flatMap_nil] at q5
 simp only[Gj,Ug,List.flatMap_nil,List.isEmpty_nil] at hmet
 unfold Gj Ug
 constructor
 ·intro r hr
  obtain⟨E,nl',hl,k1,k2,k3⟩:=hloop.1 r hr
  refine⟨nl',?_,k1,k2,k3⟩
  simp -implicitDefEqProofs only[SP,SA,SQ,sevalprocAttr,-List.reduceReplicate,ng,ls,e1,t1,pE,Ea,List.flatMap_nil,hmet,qb,ga,za,Dm,Im,tm,Ps,Ba,AV.cut,Xb,h0,h1,g0,g1,q5,Gj]
  have hl':gb (fa (ta (Ca Ea 7) Ab) (ga 6 [0,3])) oa ⟨(Tr.lf.set 3 (.pv (.int .i64 0))).set 0 (.ptr 3 0),[R0,R1,.map (UB [(0,aq ss.length)] 0),.box [.pv S,.mp 2,.uq 4 false 2 [Zh (0,aq ss.length)],.own 5 0],.tok 2 1 false,.seq 256 true [] 0 true]⟩=_:=hl
  rw[hl']
  simp -implicitDefEqProofs only[SP,SA,SQ,sevalprocAttr,-List.reduceReplicate,Gj,Ug]
 ·intro hr
  obtain⟨t,hl,k2,k3⟩:=mr (hloop.2 hr)
  refine⟨t.H,?_,k3⟩
  simp -implicitDefEqProofs only[SP,SA,SQ,sevalprocAttr,-List.reduceReplicate,ng,ls,e1,t1,pE,Ea,List.flatMap_nil,hmet,qb,ga,za,Dm,Im,tm,Ps,Ba,AV.cut,Xb,h0,h1,g0,g1,q5,Gj]
  have hl':gb (fa (ta (Ca Ea 7) Ab) (ga 6 [0,3])) oa ⟨(Tr.lf.set 3 (.pv (.int .i64 0))).set 0 (.ptr 3 0),[R0,R1,.map (UB [(0,aq ss.length)] 0),.box [.pv S,.mp 2,.uq 4 false 2 [Zh (0,aq ss.length)],.own 5 0],.tok 2 1 false,.seq 256 true [] 0 true]⟩=_:=hl
  rw[hl']
  simp -implicitDefEqProofs only[SP,SA,SQ,sevalprocAttr,-List.reduceReplicate,k2]
end
def eh (ss:List Yb):Option (List (List ve)):=
 (Ig ss 64 (Jg ss,[])).map fun r=>gn (Ge r.2.length r.2.flatten).C
section
variable (S0 S:PV) (ss:List Yb) (hS0:S0= .ma∨∃ l,S0= .lit 2 l) {y:Bool} {a b e:Int}
include hS0
theorem aQ (he:e≠0) (hp:ze [.agg [S0]]=some (.Jc [.agg [.bool y,i64 a,i64 b],i64 e])):
 Cc [.agg [S0]]=some (.Jc [.agg [.ma],i64 e]):=by
 have e1:=uh he
 rcases hS0 with rfl | ⟨l,rfl⟩ <;>
 simp -implicitDefEqProofs only[Cc,SP,SA,SQ,sevalprocAttr,-List.reduceReplicate,ml,hp,e1,bne,wg,Xb]
theorem VS (hp:ze [.agg [S0]]=some (.Jc [.agg [.bool false,i64 a,i64 b],i64 0])):
 Cc [.agg [S0]]=some (.Jc [.agg [.ma],i64 110]):=by
 rcases hS0 with rfl | ⟨l,rfl⟩ <;>
 simp -implicitDefEqProofs only[Cc,SP,SA,SQ,sevalprocAttr,-List.reduceReplicate,ml,hp,bne,wg,Xb]
variable (hp:ze [.agg [S0]]=some (.Jc [.agg [.bool true,i64 a,i64 b],i64 0])) (hc:Eh [.agg [S0]]=some (.agg [S]))
 (hS:Th 2 S (ss.map Xd)) (hw:ss.length≤32) (hsz:∀ s∈ss,∀ l∈s.parts,l.length * 16≤140737488355328) (hne:∀ s∈ss,0 < s.parts.length)
include hp hc hS hw hsz hne
theorem gL (h:eh ss=none):Cc [.agg [S0]]=some (.Jc [.agg [.ma],i64 130]):=by
 have hn:Ig ss 64 (Jg ss,[])=none:=by unfold eh at h;simpa using h
 obtain⟨H,hwk,hH⟩:=(BI (.box [.pv .ma]) (.box [.pv (.bool true),.pv (i64 a),.pv (i64 b)]) S ss rfl rfl rfl rfl hS hw hsz hne).2 hn
 have hb0:Gj (.box [.pv .ma]) (.box [.pv (.bool true),.pv (i64 a),.pv (i64 b)]) S true [] (Ug []) 0 []=[.box [.pv .ma],.box [.pv (.bool true),.pv (i64 a),.pv (i64 b)],.map [],.box [.pv S,.mp 2,.uq 4 true 2 [],.own 5 0],.tok 2 0 true,.seq 256 true [] 0 true]:=rfl
 rw[hb0] at hwk
 have hS2:S= .ma∨∃ l,S= .lit 2 l:=by rcases hS with⟨h,_⟩ | h;exact .inl h;exact .inr ⟨_,h⟩
 have hH2:∀ o,(H.set 0 o)[0]? =some o:=by
  intro o
  cases H with
  |nil=>cases hH
  |cons x H=>rfl
 rcases hS0 with rfl | ⟨l,rfl⟩ <;> rcases hS2 with rfl | ⟨l2,rfl⟩ <;>
 simp -implicitDefEqProofs only[Cc,SP,SA,SQ,sevalprocAttr,-List.reduceReplicate,ml,hp,hc,hwk,hH,hH2,Ea,Ke,Ai,AV.uC,AV.Xo,bne,wg,Xb]
theorem vS {l:List (List ve)} (h:eh ss=some l):Cc [.agg [S0]]=some (.Jc [.agg [pf l],i64 0]):=by
 obtain⟨r,hn,hl⟩:∃ r,Ig ss 64 (Jg ss,[])=some r∧gn (Ge r.2.length r.2.flatten).C=l:=by
  unfold eh at h;simpa using h
 obtain⟨nl,hwk,k1,k2,k3⟩:=(BI (.box [.pv .ma]) (.box [.pv (.bool true),.pv (i64 a),.pv (i64 b)]) S ss rfl rfl rfl rfl hS hw hsz hne).1 r hn
 have hb0:Gj (.box [.pv .ma]) (.box [.pv (.bool true),.pv (i64 a),.pv (i64 b)]) S true [] (Ug []) 0 []=[.box [.pv .ma],.box [.pv (.bool true),.pv (i64 a),.pv (i64 b)],.map [],.box [.pv S,.mp 2,.uq 4 true 2 [],.own 5 0],.tok 2 0 true,.seq 256 true [] 0 true]:=rfl
 have hb1:Gj (.box [.pv .ma]) (.box [.pv (.bool true),.pv (i64 a),.pv (i64 b)]) S nl r.1 (Ug r.2) r.2.length []=Vh (.box [.pv .ma]) (.box [.pv (.bool true),.pv (i64 a),.pv (i64 b)]) S nl r.2.isEmpty 0 r.1 r.2.flatten r.2.length []:=by
  unfold Gj Vh Ug;rw[oA]
 rw[hb0,hb1] at hwk
 have hlt:=wI hw 64 (Jg ss,[]) r (lz hw hne) (by simp) hn
 have hpos:0 < r.1.length:=by obtain⟨t,ht⟩:=hlt.2;rw[ht];simp[Jg]
 have hC:r.2.flatten.length=r.2.length * 256:=by
  have:=wE k3
  rw[← oA,pb] at this;exact this
 have cC:∀ c∈r.2.flatten,c < (r.2.length:Int):=by
  intro c hc
  obtain⟨l,h1,h2⟩:=List.mem_flatten.1 hc
  rw[k2];exact hlt.1 l h1 c h2
 have h64:r.2.length≤64:=by rw[k2];exact k1.1
 have h0:0 < r.2.length:=by omega
 obtain⟨fr,fk,v,hf,hls⟩:=rQ (Ca Ea 7) (.box [.pv .ma]) (.box [.pv (.bool true),.pv (i64 a),.pv (i64 b)]) S nl r.2.isEmpty r.1 r.2.flatten r.2.length h64 h0 k2.symm hC cC
 have Aa:NW r.2.length (Ge r.2.length r.2.flatten):=SC _ _ (Nat.le_refl _) ⟨hC,by simp,cC,by intro c hc;rw[List.eq_of_mem_replicate hc];omega,by simp⟩
 obtain⟨O,J,htd⟩:=mR (Ca Ea 7) (.box [.pv .ma]) (.box [.pv (.bool true),.pv (i64 a),.pv (i64 b)]) S nl r.2.isEmpty fr r.1 (Ge r.2.length r.2.flatten).C r.2.length (.seq 1 false (Ja (Ge r.2.length r.2.flatten).zc) fk false) (.map (Is (Ge r.2.length r.2.flatten).M)) Aa.hC Aa.cC (by omega) h64 h0
 rw[hl] at htd
 unfold pf
 generalize l.map Vb=out at *
 generalize Ge r.2.length r.2.flatten=g at *
 simp only[Vh] at hwk hls htd
 have hS2:S= .ma∨∃ l,S= .lit 2 l:=by rcases hS with⟨h,_⟩ | h;exact .inl h;exact .inr ⟨_,h⟩
 rcases hS0 with rfl | ⟨l,rfl⟩ <;> rcases hS2 with rfl | ⟨l2,rfl⟩ <;>
 simp -implicitDefEqProofs only[Cc,SP,SA,SQ,sevalprocAttr,-List.reduceReplicate,ml,hp,hc,hwk,hls,htd,Ea,Ke,Ai,AV.uC,AV.Xo,bne,wg,Xb]
end
end Go.AM.B1
namespace Go.AM.B1
open Go.AM Go.AM.So
structure um (v:PV) (l:List (Int×Int)):Prop where
 is:Th 2 v (Ld l)
 sz:l.length * 16≤140737488355328
structure cf (P:PV) (ls:List (List (Int×Int))) (ps:List PV):Prop where
 is:Th 1 P ps
 len:ps.length=ls.length
 all:∀ (k:Nat) v l,ps[k]? =some v→ls[k]? =some l→um v l
 sz:ls.length≤maxLen
structure Me (e:PV) (s:Yb) (P:PV) (ps:List PV):Prop where
 eq:e= .agg [P,i64 s.first]
 parts:cf P s.parts ps
structure Xa (S:PV) (ss:List Yb) (es:List PV):Prop where
 is:Th 2 S es
 len:es.length=ss.length
 all:∀ (k:Nat) e s,es[k]? =some e→ss[k]? =some s→∃ P ps,Me e s P ps
 sz:ss.length≤maxLen
theorem cf.get {P:PV} {ls:List (List (Int×Int))} {ps:List PV} (h:cf P ls ps) {i:Nat} (hi:i < ls.length):∃ v,ps[i]? =some v∧P= .lit 1 ps∧um v ls[i]:=by
 have h1:i < ps.length:=by rw[h.len];exact hi
 refine⟨ps[i],List.getElem?_eq_getElem h1,h.is.lit (i:=i) h1,h.all i _ _ (List.getElem?_eq_getElem h1) (List.getElem?_eq_getElem hi)⟩
theorem Xa.get {S:PV} {ss:List Yb} {es:List PV} (h:Xa S ss es) {i:Nat} (hi:i < ss.length):∃ e P ps,es[i]? =some e∧S= .lit 2 es∧Me e ss[i] P ps:=by
 have h1:i < es.length:=by rw[h.len];exact hi
 obtain⟨P,ps,hp⟩:=h.all i _ _ (List.getElem?_eq_getElem h1) (List.getElem?_eq_getElem hi)
 exact⟨es[i],P,ps,List.getElem?_eq_getElem h1,h.is.lit (i:=i) h1,hp⟩
theorem cf.Sb {P:PV} {ls:List (List (Int×Int))} {ps:List PV} (h:cf P ls ps) (H:List ba):Sb H 0 (.pv P)=some ls.length:=by
 rw[h.is.len,h.len]
theorem Xa.Sb {S:PV} {ss:List Yb} {es:List PV} (h:Xa S ss es) (H:List ba):Sb H 0 (.pv S)=some ss.length:=by
 rw[h.is.len,h.len]
def Bd (l:List (Int×Int)):Prop:=l≠[]∧Pa 255 (-2) l=true
instance (l:List (Int×Int)):Decidable (Bd l):=by unfold Bd;infer_instance
def sh:Int→List (List (Int×Int))→Int
 |n,[]=>n
 |n,l::r=>sh (if 1073741825 < n * Ic 0 l then 1073741825 else n * Ic 0 l) r
def ph (s:Yb):Int:=s.first+sh 1 s.parts - 1
theorem Fh {l:List (Int×Int)} (h:Bd l):1≤Ic 0 l∧Ic 0 l≤256:=by
 have:=(vr h.2).2.1 h.1;omega
theorem Yw {n s:Int} (h1:1≤n) (h2:n≤1073741825) (h3:1≤s) (h4:s≤256):1≤n * s∧n * s≤274877907200:=by
 constructor
 ·have:=Int.mul_le_mul h1 h3 (by omega) (by omega);omega
 ·have:=Int.mul_le_mul h2 h4 (by omega) (by omega);omega
theorem Xl:∀ (ls:List (List (Int×Int))) (n:Int),(∀ l∈ls,Bd l)→1≤n→n≤1073741825→1≤sh n ls∧sh n ls≤1073741825
 | [],n,_,h1,h2=>⟨h1,h2⟩
 |l::r,n,h,h1,h2=>by
  have hs:=Fh (h l (by simp))
  have hm:=Yw h1 h2 hs.1 hs.2
  rw[sh]
  refine Xl r _ (fun x hx=>h x (by simp[hx])) ?_ ?_ <;> split <;> omega
abbrev pK (row:List PV) (P:PV) (len i n:Int):Tr:=((((Tr.lf.set 9 (.pv (i64 i))).set 8 (.pv (i64 len))).set 7 (.pv P)).set 3 (.pv (i64 n))).set 1 (.pv (.rp row 0))
theorem rK {e:PV} {s:Yb} {P:PV} {ps:List PV} (h:Me e s P ps) (Aa:∀ l∈s.parts,Bd l) (hf:0≤s.first∧s.first≤1073741823):Un [e]=some (i64 (ph s)):=by
 obtain⟨rfl,hP⟩:=h
 have hb:=Xl s.parts 1 Aa (by omega) (by omega)
 have hsz:=hP.sz
 have hloop:Md (fun r=>∃ E H,r=(.exit 0,⟨E,H⟩)∧E.get 3= .pv (i64 (sh 1 s.parts))∧E.get 1= .pv (.rp [P,i64 s.first] 0))
  (gb (fa (ta (Ca (fun _=>none) 8) Hh) (ga 0 [1,3,7,8,9])) oa ⟨pK [P,i64 s.first] P s.parts.length 0 1,[]⟩):=by
  refine wa (yb (g:=fa (ta (Ca (fun _=>none) 8) Hh) (ga 0 [1,3,7,8,9]))
   (fun i t=>∃ n,t=⟨pK [P,i64 s.first] P s.parts.length i n,[]⟩∧1≤n∧n≤1073741825∧sh 1 s.parts=sh n (s.parts.drop i))
   s.parts.length (by unfold oa;unfold maxLen at hsz;omega) _ ⟨1,rfl,by omega,by omega,rfl⟩ ?_ ?_) (fun r h=>h.2)
  ·rintro i t hi ⟨n,rfl,h1,h2,hs⟩
   obtain⟨v,hv,hPl,hpt⟩:=hP.get hi
   have hd:s.parts.drop i=s.parts[i]::s.parts.drop (i+1):=List.drop_eq_getElem_cons hi
   have hpo:=Aa s.parts[i] (List.getElem_mem hi)
   have hss:=Sv v s.parts[i] hpt.is hpt.sz hpo.2
   have hsb:=Fh hpo
   rw[hd,sh] at hs
   generalize s.parts[i]=l at *
   have hm:=Yw h1 h2 hsb.1 hsb.2
   have e1:decide ((i:Int) < (s.parts.length:Int))=true:=Ga (by omega)
   have t2:=Ua hi hsz
   have t3:IntKind.i64.wrap (n * Ic 0 l)=n * Ic 0 l:=Da (by omega)
   have hq:i < ps.length:=by rw[hP.len];exact hi
   have hcl:v.cells=[v]:=by rcases hpt.is with⟨h,_⟩ | h <;> rw[h] <;> rfl
   have a1:ua [] 1 (.pv P) (i:Int)=some (.pv (.rp [v] 0)):=by
    rw[hPl]
    simp only[ua]
    rw[if_pos (by unfold Fa;simp;omega),Int.toNat_natCast,hv]
    simp[hcl]
   have a2:ya [] false 1 (.pv (.rp [v] 0))=some (.pv v):=rfl
   generalize hQ:LN _ _ i=Q
   simp -implicitDefEqProofs only[SX,sevalprocAttr,Hh,e1,t2,t3,a1,a2,hss,Jq,ue,ga,za,AV.cut,qa,pK]
   subst hQ
   exact⟨_,rfl,by split <;> omega,by split <;> omega,hs⟩
  ·rintro t ⟨n,rfl,h1,h2,hs⟩
   rw[List.drop_length,sh] at hs
   have e1:decide ((s.parts.length:Int) < (s.parts.length:Int))=false:=Ia (by omega)
   generalize hQ:(fun r:Ex×St=>r.1.stop=true∧_)=Q
   simp -implicitDefEqProofs only[SX,sevalprocAttr,Hh,e1,pK]
   subst hQ
   exact⟨rfl,_,_,rfl,by simp[Tr.aa,hs],by simp[Tr.aa]⟩
 obtain⟨r,h1,E,H,rfl,hE,hE1⟩:=Fc hloop
 have ls:=hP.Sb
 simp only[pK] at h1
 have h1':gb (fa (ta (Ca (fun _=>none) 8) Hh) (ga 0 [1,3,7,8,9])) oa ⟨((((Tr.lf.set 9 (.pv (.int .i64 0))).set 8 (.pv (.int .i64 s.parts.length))).set 7 (.pv P)).set 3 (.pv (.int .i64 1))).set 1 (.pv (.rp [P,i64 s.first] 0)),[]⟩=some (.exit 0,⟨E,H⟩):=h1
 unfold ph
 generalize sh 1 s.parts=n at *
 have t1:IntKind.i64.wrap (s.first+n)=s.first+n:=Da (by omega)
 have t2:IntKind.i64.wrap (s.first+n - 1)=s.first+n - 1:=Da (by omega)
 have hPv:∃ sz es,P= .ma∨P= .lit sz es:=by rcases hP.is with⟨h,_⟩ | h;exact⟨0,[],.inl h⟩;exact⟨_,_,.inr h⟩
 obtain⟨sz,es,rfl | rfl⟩:=hPv <;>
 simp -implicitDefEqProofs only[Un,SP,SA,SQ,WP,WQ,sevalprocAttr,Hr,qb,ls,h1',hE,hE1,t1,t2]
theorem BS (call:ab) {v:PV} {l:List (Int×Int)} (h:um v l) (H:List ba):cj call Tj [.pv v] H=some (.pv (.bool (!decide (Bd l))),H):=by
 have ls:=h.is.len
 simp only[Ld,List.length_map] at ls
 have hv:=XB v l h.is h.sz
 by_cases h0:l=[]
 ·have e1:((l.length:Int)==0)=true:=by simp[h0]
  have e2:(!decide (Bd l))=true:=by
   have:¬Bd l:=fun hp=>hp.1 h0
   simp[this]
  rw[e2]
  simp -implicitDefEqProofs only[SP,SA,SQ,WP,WQ,sevalprocAttr,Tj,ls,e1]
 ·have e1:((l.length:Int)==0)=false:=by
   have:l.length≠0:=fun e=>h0 (List.eq_nil_of_length_eq_zero e)
   exact uh (by omega)
  have e2:(!decide (Bd l))= !(Pa 255 (-2) l):=by
   congr 1
   rw[Bool.eq_iff_iff];simp[Bd,h0]
  rw[e2]
  simp -implicitDefEqProofs only[SP,SA,SQ,WP,WQ,sevalprocAttr,Tj,ls,e1,hv]
def Cw (ls:List (List (Int×Int))) (i:Nat):Int:=
 match ls with
 | []=> -1
 |l::r=>if Bd l then Cw r (i+1) else i
theorem bG:∀ (ls:List (List (Int×Int))) (i:Nat),decide (Cw ls i≥0)= !decide (∀ l∈ls,Bd l)
 | [],i=>by simp[Cw]
 |l::r,i=>by
  rw[Cw]
  by_cases h:Bd l
  ·rw[if_pos h,bG r];simp[h]
  ·rw[if_neg h];simp[h]
abbrev IJ (P:PV) (len i:Int):Tr:=(((Tr.lf.set 8 (.pv (i64 i))).set 7 (.pv (i64 len))).set 1 (.Wk 7 [])).set 0 (.pv P)
theorem cQ {P:PV} {ls:List (List (Int×Int))} {ps:List PV} (hP:cf P ls ps) (d:Nat) (H:List ba) (hH:Lg H):
 cj (Ca bc (d+1)) Ac [.pv P,.Wk 7 []] H=some (.pv (i64 (Cw ls 0)),H):=by
 have hsz:=hP.sz
 have lsn:=hP.Sb
 have hcut:=Lg.cut hH
 have h7:bc 7=some Tj:=rfl
 apply Xj
 have hloop:Md (fun r=>∃ E,(r=(.exit 0,⟨E,H⟩)∧Cw ls 0= -1)∨(r=(.ret,⟨E,H⟩)∧E.get 4= .pv (i64 (Cw ls 0))))
  (gb (fa (ta (Ca bc (d+1)) Ib) (ga H.length [0,1,7,8])) oa ⟨IJ P ls.length 0,H⟩):=by
  refine wa (yb (g:=fa (ta (Ca bc (d+1)) Ib) (ga H.length [0,1,7,8]))
   (fun i t=>t=⟨IJ P ls.length i,H⟩∧Cw ls 0=Cw (ls.drop i) i)
   ls.length (by unfold oa;unfold maxLen at hsz;omega) _ ⟨rfl,rfl⟩ ?_ ?_) (fun r h=>h.2)
  ·rintro i t hi ⟨rfl,hs⟩
   obtain⟨v,hv,hPl,hpt⟩:=hP.get hi
   have hd:ls.drop i=ls[i]::ls.drop (i+1):=List.drop_eq_getElem_cons hi
   rw[hd,Cw] at hs
   have hn:=BS (Ca bc d) hpt H
   generalize ls[i]=l at *
   have e1:decide ((i:Int) < (ls.length:Int))=true:=Ga (by omega)
   have t2:=Ua hi hsz
   have hq:i < ps.length:=by rw[hP.len];exact hi
   have hcl:v.cells=[v]:=by rcases hpt.is with⟨h,_⟩ | h <;> rw[h] <;> rfl
   have a1:ua H 1 (.pv P) (i:Int)=some (.pv (.rp [v] 0)):=by
    rw[hPl]
    simp only[ua]
    rw[if_pos (by unfold Fa;simp;omega),Int.toNat_natCast,hv]
    simp[hcl]
   have a2:ya H false 1 (.pv (.rp [v] 0))=some (.pv v):=rfl
   generalize hQ:LN _ _ i=Q
   by_cases Aa:Bd l
   ·rw[if_pos Aa] at hs
    rw[decide_eq_true Aa] at hn
    simp -implicitDefEqProofs only[SX,sevalprocAttr,Ib,e1,t2,a1,a2,h7,hn,hcut,List.take_length,ga,za,AV.cut,qa,IJ]
    subst hQ
    exact⟨rfl,hs⟩
   ·rw[if_neg Aa] at hs
    rw[decide_eq_false Aa] at hn
    simp -implicitDefEqProofs only[SX,sevalprocAttr,Ib,e1,t2,a1,a2,h7,hn,hcut,List.take_length,ga,za,AV.cut,qa,IJ]
    subst hQ
    exact⟨_,.inr ⟨rfl,by simp[Tr.aa,hs]⟩⟩
  ·rintro t ⟨rfl,hs⟩
   rw[List.drop_length,Cw] at hs
   have e1:decide ((ls.length:Int) < (ls.length:Int))=false:=Ia (by omega)
   generalize hQ:(fun r:Ex×St=>r.1.stop=true∧_)=Q
   simp -implicitDefEqProofs only[SX,sevalprocAttr,Ib,e1,IJ]
   subst hQ
   exact⟨rfl,_,.inl ⟨rfl,hs⟩⟩
 simp -implicitDefEqProofs only[SX,sevalprocAttr,Ac,qb,lsn,hcut,List.take_length,ga,za,AV.cut,qa]
 refine wa hloop ?_
 rintro _ ⟨E,⟨rfl,hb⟩ | ⟨rfl,hE⟩⟩
 ·simp -implicitDefEqProofs only[SX,sevalprocAttr,hb]
 ·simp -implicitDefEqProofs only[SX,sevalprocAttr,hE]
theorem Dz {P:PV} {ls:List (List (Int×Int))} {ps:List PV} (hP:cf P ls ps) (d:Nat) (H:List ba) (hH:Lg H):
 cj (Ca bc (d+2)) Jb [.pv P,.Wk 7 []] H=some (.pv (.bool (!decide (∀ l∈ls,Bd l))),H):=by
 have h:=cQ hP d H hH
 have h5:bc 5=some Ac:=rfl
 have hb:=bG ls 0
 simp -implicitDefEqProofs only[SX,sevalprocAttr,Jb,h5,h,hb]
end Go.AM.B1
namespace Go.AM.B1
open Go.AM Go.AM.So
structure xe (s:Yb):Prop where
 lo:1≤s.parts.length
 hi:s.parts.length≤8
 f0:0≤s.first
 f1:s.first≤1073741823
 parts:∀ l∈s.parts,Bd l
 last:ph s≤1073741823
def wm (s t:Yb):Prop:=∀ x,¬((s.first≤x∧x≤ph s)∧(t.first≤x∧x≤ph t))
structure wc (ss:List Yb):Prop where
 len:ss.length≤32
 jv:∀ s∈ss,xe s
 apart:ss.Pairwise wm
theorem xe.UH {s:Yb} (h:xe s):s.first≤ph s:=by
 have:=(Xl s.parts 1 h.parts (by omega) (by omega)).1
 unfold ph;omega
structure gW (ss:List Yb) (i:Nat) (v:PV) (u:List (Int×Int)):Prop where
 is:Th 2 v (Ld u)
 val:Pa Ly (-2) u=true
 len:u.length≤i
 mem:∀ x,Nj x u↔∃ s∈ss.take i,s.first≤x∧x≤ph s
 jv:∀ s∈ss.take i,xe s
 apart:(ss.take i).Pairwise wm
abbrev Nq (S v:PV) (len i:Int):Tr:=(((Tr.lf.set 14 (.pv (i64 i))).set 13 (.pv (i64 len))).set 12 (.pv S)).set 3 (.pv v)
theorem Ql (x y u v:AV) (hu:u.one=true) (hv:v.one=true) (A:List ba) (e:PV) (he:(AV.pv e).cells=[u,v]):Ma (A++[.box [x,y]]) 2 (.ptr A.length 0) (.pv e)=some (A++[.box [u,v]]):=by
 simp only[Ma,he,Cj,Sn,List.length_cons,List.length_nil,List.all,hu,hv]
 simp[na]
section
variable {S:PV} {ss:List Yb} {es:List PV} (hS:Xa S ss es) (hl:ss.length≤32)
include hS hl
omit hl in
theorem lC {i:Nat} (hi:i < ss.length) (v:PV) (hbad:¬xe ss[i]):
 ∃ E H,fa (ta (Ca bc 8) Kb) (ga 0 [3,12,13,14]) ⟨Nq S v ss.length i,[]⟩=some (.ret,⟨E,H⟩)∧E.get 2= .pv (.bool false):=by
 obtain⟨e,P,ps,he,hSl,hsh⟩:=hS.get hi
 obtain⟨rfl,hP⟩:=hsh
 generalize hs:ss[i]=s at *
 have hq:i < es.length:=by rw[hS.len];exact hi
 have e1:decide ((i:Int) < (ss.length:Int))=true:=Ga (by omega)
 have a1:ua [] 2 (.pv S) (i:Int)=some (.pv (.rp [P,i64 s.first] 0)):=by
  rw[hSl]
  simp only[ua]
  rw[if_pos (by unfold Fa;simp;omega),Int.toNat_natCast,he];rfl
 have a2:ya [] true 2 (.pv (.rp [P,i64 s.first] 0))=some (.pv (.agg [P,i64 s.first])):=rfl
 have hP1:(AV.pv P).one=true:=by rcases hP.is with⟨h,_⟩ | h <;> rw[h] <;> rfl
 have s1:Ma [.box [.pv .ma,.pv (i64 0)]] 2 (.ptr 0 0) (.pv (.agg [P,i64 s.first]))=some [.box [.pv P,.pv (i64 s.first)]]:=Ql _ _ _ _ hP1 rfl [] _ rfl
 have p0:place [.box [.pv P,.pv (i64 s.first)]] 0 (.ptr 0 0)=some (.ptr 0 0):=rfl
 have p1:place [.box [.pv P,.pv (i64 s.first)]] 1 (.ptr 0 0)=some (.ptr 0 1):=rfl
 have l0:ya [.box [.pv P,.pv (i64 s.first)]] false 1 (.ptr 0 0)=some (.pv P):=rfl
 have l1:ya [.box [.pv P,.pv (i64 s.first)]] false 1 (.ptr 0 1)=some (.pv (i64 s.first)):=rfl
 have l2:ya [.box [.pv P,.pv (i64 s.first)]] true 2 (.ptr 0 0)=some (.pv (.agg [P,i64 s.first])):=rfl
 have hg:Lg [.box [.pv P,.pv (i64 s.first)]]:=by
  intro n _ o ho;simp at ho;subst ho;simp[pa,Ra,Ba]
 have hct:=Dz hP 5 [.box [.pv P,.pv (i64 s.first)]] hg
 have h6:bc 6=some Jb:=rfl
 have lA:=hP.Sb
 have key:Md (fun r=>∃ E H,r=(.ret,⟨E,H⟩)∧E.get 2= .pv (.bool false)) (fa (ta (Ca bc 8) Kb) (ga 0 [3,12,13,14]) ⟨Nq S v ss.length i,[]⟩):=by
  generalize hQ:(fun r:Ex×St=>_)=Q
  by_cases c1:s.parts.length < 1
  ·have d1:decide ((s.parts.length:Int) < 1)=true:=Ga (by omega)
   simp -implicitDefEqProofs only[SX,sevalprocAttr,Kb,e1,a1,a2,s1,p0,p1,l0,l1,lA,d1,Nq]
   subst hQ;exact⟨_,_,rfl,by simp[Tr.aa]⟩
  have d1:decide ((s.parts.length:Int) < 1)=false:=Ia (by omega)
  by_cases c2:s.parts.length > 8
  ·have d2:decide ((s.parts.length:Int) > 8)=true:=Ga (by omega)
   simp -implicitDefEqProofs only[SX,sevalprocAttr,Kb,e1,a1,a2,s1,p0,p1,l0,l1,lA,d1,d2,Nq]
   subst hQ;exact⟨_,_,rfl,by simp[Tr.aa]⟩
  have d2:decide ((s.parts.length:Int) > 8)=false:=Ia (by omega)
  by_cases c3:s.first < 0
  ·have d3:decide (s.first < 0)=true:=Ga c3
   simp -implicitDefEqProofs only[SX,sevalprocAttr,Kb,e1,a1,a2,s1,p0,p1,l0,l1,lA,d1,d2,d3,Nq]
   subst hQ;exact⟨_,_,rfl,by simp[Tr.aa]⟩
  have d3:decide (s.first < 0)=false:=Ia c3
  by_cases c4:s.first > 1073741823
  ·have d4:decide (s.first > 1073741823)=true:=Ga c4
   simp -implicitDefEqProofs only[SX,sevalprocAttr,Kb,e1,a1,a2,s1,p0,p1,l0,l1,lA,d1,d2,d3,d4,Nq]
   subst hQ;exact⟨_,_,rfl,by simp[Tr.aa]⟩
  have d4:decide (s.first > 1073741823)=false:=Ia c4
  by_cases c5:∀ l∈s.parts,Bd l
  ·have hlast:=rK (e:= .agg [P,i64 s.first]) ⟨rfl,hP⟩ c5 (by omega)
   rw[decide_eq_true c5] at hct
   have c6:ph s > 1073741823:=by
    rcases Int.lt_or_le 1073741823 (ph s) with h | h
    ·exact h
    ·exact absurd (xe.mk (by omega) (by omega) (by omega) (by omega) c5 h) hbad
   have d6:decide (ph s > 1073741823)=true:=Ga c6
   have i0:∀ H (x y:Int),ua H 2 (.pv (.lit 2 [.agg [i64 x,i64 y]])) 0=some (.pv (.rp [i64 x,i64 y] 0)):=fun H x y=>rfl
   have q1:∀ H (x y:PV),place H 1 (.pv (.rp [x,y] 0))=some (.pv (.rp [x,y] 1)):=fun H x y=>rfl
   have m1:∀ H (x y:PV),ya H false 1 (.pv (.rp [x,y] 1))=some (.pv y):=fun H x y=>rfl
   simp -implicitDefEqProofs only[SX,sevalprocAttr,na,Kb,e1,a1,a2,s1,p0,p1,l0,l1,l2,lA,d1,d2,d3,d4,h6,hct,hlast,i0,q1,m1,d6,Nq]
   subst hQ;exact⟨_,_,rfl,by simp[Tr.aa]⟩
  ·rw[decide_eq_false c5] at hct
   simp -implicitDefEqProofs only[SX,sevalprocAttr,Kb,e1,a1,a2,s1,p0,p1,l0,l1,lA,d1,d2,d3,d4,h6,hct,Nq]
   subst hQ;exact⟨_,_,rfl,by simp[Tr.aa]⟩
 obtain⟨r,h1,E,H,rfl,h2⟩:=Fc key
 exact⟨E,H,h1,h2⟩
theorem XC {i:Nat} (hi:i < ss.length) {v:PV} {u:List (Int×Int)} (hv:gW ss i v u) (Aa:xe ss[i]):
 Md (fun r=>(∃ E H,r=(.ret,⟨E,H⟩)∧E.get 2= .pv (.bool false)∧∃ s∈ss.take i,¬wm s ss[i])∨(∃ v' u',r=(.norm,⟨Nq S v' ss.length (i+1:Nat),[]⟩)∧gW ss (i+1) v' u'))
  (fa (ta (Ca bc 8) Kb) (ga 0 [3,12,13,14]) ⟨Nq S v ss.length i,[]⟩):=by
 obtain⟨e,P,ps,he,hSl,hsh⟩:=hS.get hi
 obtain⟨rfl,hP⟩:=hsh
 have htake:ss.take (i+1)=ss.take i++[ss[i]]:=List.take_succ_eq_append_getElem hi
 generalize hs:ss[i]=s at *
 have hq:i < es.length:=by rw[hS.len];exact hi
 have e1:decide ((i:Int) < (ss.length:Int))=true:=Ga (by omega)
 have t2:=Ua hi hS.sz
 have a1:ua [] 2 (.pv S) (i:Int)=some (.pv (.rp [P,i64 s.first] 0)):=by
  rw[hSl]
  simp only[ua]
  rw[if_pos (by unfold Fa;simp;omega),Int.toNat_natCast,he];rfl
 have a2:ya [] true 2 (.pv (.rp [P,i64 s.first] 0))=some (.pv (.agg [P,i64 s.first])):=rfl
 have hP1:(AV.pv P).one=true:=by rcases hP.is with⟨h,_⟩ | h <;> rw[h] <;> rfl
 have s1:Ma [.box [.pv .ma,.pv (i64 0)]] 2 (.ptr 0 0) (.pv (.agg [P,i64 s.first]))=some [.box [.pv P,.pv (i64 s.first)]]:=Ql _ _ _ _ hP1 rfl [] _ rfl
 have p0:place [.box [.pv P,.pv (i64 s.first)]] 0 (.ptr 0 0)=some (.ptr 0 0):=rfl
 have p1:place [.box [.pv P,.pv (i64 s.first)]] 1 (.ptr 0 0)=some (.ptr 0 1):=rfl
 have l0:ya [.box [.pv P,.pv (i64 s.first)]] false 1 (.ptr 0 0)=some (.pv P):=rfl
 have l1:ya [.box [.pv P,.pv (i64 s.first)]] false 1 (.ptr 0 1)=some (.pv (i64 s.first)):=rfl
 have l2:ya [.box [.pv P,.pv (i64 s.first)]] true 2 (.ptr 0 0)=some (.pv (.agg [P,i64 s.first])):=rfl
 have hg:Lg [.box [.pv P,.pv (i64 s.first)]]:=by
  intro n _ o ho;simp at ho;subst ho;simp[pa,Ra,Ba]
 have hct:=Dz hP 5 [.box [.pv P,.pv (i64 s.first)]] hg
 rw[decide_eq_true Aa.parts] at hct
 have h6:bc 6=some Jb:=rfl
 have lA:=hP.Sb
 have d1:decide ((s.parts.length:Int) < 1)=false:=Ia (by have:=Aa.lo;omega)
 have d2:decide ((s.parts.length:Int) > 8)=false:=Ia (by have:=Aa.hi;omega)
 have d3:decide (s.first < 0)=false:=Ia (by have:=Aa.f0;omega)
 have d4:decide (s.first > 1073741823)=false:=Ia (by have:=Aa.f1;omega)
 have hlast:=rK (e:= .agg [P,i64 s.first]) ⟨rfl,hP⟩ Aa.parts ⟨Aa.f0,Aa.f1⟩
 have d6:decide (ph s > 1073741823)=false:=Ia (by have:=Aa.last;omega)
 have i0:∀ H (x y:Int),ua H 2 (.pv (.lit 2 [.agg [i64 x,i64 y]])) 0=some (.pv (.rp [i64 x,i64 y] 0)):=fun H x y=>rfl
 have q1:∀ H (x y:PV),place H 1 (.pv (.rp [x,y] 0))=some (.pv (.rp [x,y] 1)):=fun H x y=>rfl
 have m1:∀ H (x y:PV),ya H false 1 (.pv (.rp [x,y] 1))=some (.pv y):=fun H x y=>rfl
 have hvr:Pa Ly (-2) [(s.first,ph s)]=true:=by
  rw[Yp];have:=Aa.UH;have:=Aa.f0;have:=Aa.last;unfold Ly;simp only;omega
 have hmt:=pA v (.lit 2 [.agg [i64 s.first,i64 (ph s)]]) u [(s.first,ph s)] hv.is (.inr rfl) hv.val hvr (by have:=hv.len;simp;omega)
 obtain⟨u',hun,hv1,hv2,hv3⟩:=mO v (.lit 2 [.agg [i64 s.first,i64 (ph s)]]) u [(s.first,ph s)] hv.is (.inr rfl) hv.val hvr (by have:=hv.len;simp;omega)
 have hms:=SL hv.val hvr
 have hml:∀ l:List (Int×Int),(Ld l).length=l.length:=fun l=>by simp
 generalize Sf (u.length+[(s.first,ph s)].length) u [(s.first,ph s)]=mm at *
 have hvv:(AV.pv v).cells=[.pv v]:=by rcases hv.is with⟨h,_⟩ | h <;> rw[h] <;> rfl
 generalize hQ:(fun r:Ex×St=>_)=Q
 by_cases c7:mm=[]
 ·have d7:decide ((mm.length:Int) > 0)=false:=Ia (by rw[c7];simp)
  have hno:¬∃ x,Nj x u∧Nj x [(s.first,ph s)]:=fun h=>(hms.2 h) c7
  simp -implicitDefEqProofs only[SX,sevalprocAttr,na,Kb,e1,t2,a1,a2,s1,p0,p1,l0,l1,l2,lA,d1,d2,d3,d4,h6,hct,hlast,i0,q1,m1,d6,hmt,hml,d7,hun,ga,za,AV.cut,pa,List.take_zero,qa,Nq]
  subst hQ
  refine .inr ⟨_,u',rfl,.inr rfl,hv1,by have:=hv.len;simp at hv3;omega,fun x=> ?_,?_,?_⟩
  ·rw[hv2,eo,hv.mem,htake]
   constructor
   ·rintro (⟨t,ht,hx⟩ | hx)
    ·exact⟨t,by simp[ht],hx⟩
    ·exact⟨s,by simp,hx⟩
   ·rintro⟨t,ht,hx⟩
    rcases List.mem_append.1 ht with h | h
    ·exact .inl ⟨t,h,hx⟩
    ·simp at h;subst h;exact .inr hx
  ·intro t ht
   rw[htake] at ht
   rcases List.mem_append.1 ht with h | h
   ·exact hv.jv t h
   ·simp at h;subst h;exact Aa
  ·rw[htake,List.pairwise_append]
   refine⟨hv.apart,by simp,fun t ht w hw x hx=> ?_⟩
   simp at hw;subst hw
   exact hno ⟨x,(hv.mem x).2 ⟨t,ht,hx.1⟩,(eo _ _).2 hx.2⟩
 ·have d7:decide ((mm.length:Int) > 0)=true:=Ga (by have:mm.length≠0:=fun e=>c7 (List.eq_nil_of_length_eq_zero e);omega)
  obtain⟨x,hx1,hx2⟩:=hms.1 c7
  simp -implicitDefEqProofs only[SX,sevalprocAttr,na,Kb,e1,a1,a2,s1,p0,p1,l0,l1,l2,lA,d1,d2,d3,d4,h6,hct,hlast,i0,q1,m1,d6,hmt,hml,d7,Nq]
  subst hQ
  obtain⟨t,ht,hx3⟩:=(hv.mem x).1 hx1
  exact .inl ⟨_,_,rfl,by simp[Tr.aa],t,ht,fun h=>h x ⟨hx3,(eo _ _).1 hx2⟩⟩
end
theorem gl {S:PV} {ss:List Yb} {es:List PV} (hS:Xa S ss es):∃ b,Yf [.agg [S]]=some (.bool b)∧(b=true↔wc ss):=by
 have lA:=hS.Sb
 by_cases hl:ss.length≤32
 ·have e0:decide ((ss.length:Int) > 32)=false:=Ia (by omega)
  have hloop:Md (fun r=>∃ E H,(r=(.exit 0,⟨E,H⟩)∧wc ss)∨(r=(.ret,⟨E,H⟩)∧E.get 2= .pv (.bool false)∧¬wc ss))
   (gb (fa (ta (Ca bc 8) Kb) (ga 0 [3,12,13,14])) oa ⟨Nq S .ma ss.length 0,[]⟩):=by
   refine wa (yb (g:=fa (ta (Ca bc 8) Kb) (ga 0 [3,12,13,14]))
    (fun i t=>∃ v u,t=⟨Nq S v ss.length i,[]⟩∧gW ss i v u)
    ss.length (by unfold oa;omega) _ ⟨.ma,[],rfl,.inl ⟨rfl,rfl⟩,rfl,by simp,fun x=>by simp[Om],by simp,by simp⟩ ?_ ?_) (fun r h=>h.2)
   ·rintro i t hi ⟨v,u,rfl,hv⟩
    by_cases Aa:xe ss[i]
    ·refine wa (XC hS hl hi hv Aa) ?_
     rintro r (⟨E,H,rfl,hE,s,hs,hna⟩ | ⟨v',u',rfl,hv'⟩)
     ·refine⟨E,H,.inr ⟨rfl,hE,fun h=>hna ?_⟩⟩
      obtain⟨j,hj,rfl⟩:=List.mem_take_iff_getElem.1 hs
      have:=List.pairwise_iff_getElem.1 h.apart j i (by omega) hi (by omega)
      exact this
     ·exact⟨v',u',rfl,hv'⟩
    ·obtain⟨E,H,h1,h2⟩:=lC hS hi v Aa
     exact nW h1 ⟨E,H,.inr ⟨rfl,h2,fun h=>Aa (h.jv _ (List.getElem_mem hi))⟩⟩
   ·rintro t ⟨v,u,rfl,hv⟩
    have e1:decide ((ss.length:Int) < (ss.length:Int))=false:=Ia (by omega)
    have hfin:wc ss:=⟨hl,by have:=hv.jv;rwa [List.take_length] at this,by have:=hv.apart;rwa [List.take_length] at this⟩
    generalize hQ:(fun r:Ex×St=>r.1.stop=true∧_)=Q
    simp -implicitDefEqProofs only[SX,sevalprocAttr,Kb,e1,Nq]
    subst hQ
    exact⟨rfl,_,_,.inl ⟨rfl,hfin⟩⟩
  obtain⟨r,h1,E,H,h2⟩:=Fc hloop
  have h1':gb (fa (ta (Ca bc 8) Kb) (ga 0 [3,12,13,14])) oa ⟨(((Tr.lf.set 14 (.pv (.int .i64 0))).set 13 (.pv (.int .i64 ss.length))).set 12 (.pv S)).set 3 (.pv .ma),[]⟩=some r:=h1
  have hSv:∃ sz es,S= .ma∨S= .lit sz es:=by rcases hS.is with⟨h,_⟩ | h;exact⟨0,[],.inl h⟩;exact⟨_,_,.inr h⟩
  rcases h2 with⟨rfl,Aa⟩ | ⟨rfl,hE,hno⟩
  ·refine⟨true,?_,by simp[Aa]⟩
   obtain⟨sz,es,rfl | rfl⟩:=hSv <;>
   simp -implicitDefEqProofs only[Yf,SP,SA,SQ,WP,WQ,sevalprocAttr,Sk,qb,lA,e0,h1']
  ·refine⟨false,?_,by simp[hno]⟩
   obtain⟨sz,es,rfl | rfl⟩:=hSv <;>
   simp -implicitDefEqProofs only[Yf,SP,SA,SQ,WP,WQ,sevalprocAttr,Sk,qb,lA,e0,h1',hE]
 ·have e0:decide ((ss.length:Int) > 32)=true:=Ga (by omega)
  refine⟨false,?_,by simp;exact fun h=>hl h.len⟩
  have hSv:∃ sz es,S= .ma∨S= .lit sz es:=by rcases hS.is with⟨h,_⟩ | h;exact⟨0,[],.inl h⟩;exact⟨_,_,.inr h⟩
  obtain⟨sz,es,rfl | rfl⟩:=hSv <;>
  simp -implicitDefEqProofs only[Yf,SP,SA,SQ,WP,WQ,sevalprocAttr,Sk,qb,lA,e0]
end Go.AM.B1
namespace Go.AM.B1
open Go.AM Go.AM.So
theorem Me.one {e:PV} {s:Yb} {P:PV} {ps:List PV} (h:Me e s P ps):Xa (.lit 2 [e]) [s] [e]:=by
 refine⟨.inr rfl,rfl,?_,by simp[maxLen]⟩
 intro k e' s' h1 h2
 match k,h1,h2 with
 |0,h1,h2=>simp at h1 h2;subst h1 h2;exact⟨P,ps,h⟩
 |k+1,h1,h2=>simp at h1
theorem KP {s:Yb}:wc [s]↔xe s:=⟨fun h=>h.jv s (by simp),fun h=>⟨by simp,by simpa using h,by simp⟩⟩
theorem Me.Fx {e:PV} {s:Yb} {P:PV} {ps:List PV} (h:Me e s P ps):(AV.pv P).one=true∧P.cells=[P]:=by
 rcases h.parts.is with⟨h,_⟩ | h <;> rw[h] <;> exact⟨rfl,rfl⟩
theorem Il {e:PV} {s:Yb} {P:PV} {ps:List PV} (h:Me e s P ps):∃ b,Vi [e]=some (.bool b)∧(b=true↔xe s):=by
 obtain⟨b,h1,h2⟩:=gl h.one
 refine⟨b,?_,h2.trans KP⟩
 obtain⟨hP1,hP2⟩:=h.Fx
 have heq:=h.eq
 subst heq
 rcases h.parts.is with⟨rfl,_⟩ | rfl <;>
 simp -implicitDefEqProofs only[Vi,SP,SA,SQ,WP,WQ,sevalprocAttr,Ir,h1]
theorem cf.Uc {P:PV} {ls:List (List (Int×Int))} {ps:List PV} (hP:cf P ls ps) {i:Nat} (hi:i < ls.length) (H:List ba):∃ v,ps[i]? =some v∧um v ls[i]∧ua H 1 (.pv P) (i:Int)=some (.pv (.rp [v] 0)):=by
 obtain⟨v,hv,hPl,hpt⟩:=hP.get hi
 refine⟨v,hv,hpt,?_⟩
 have hq:i < ps.length:=by rw[hP.len];exact hi
 have hcl:v.cells=[v]:=by rcases hpt.is with⟨h,_⟩ | h <;> rw[h] <;> rfl
 rw[hPl]
 simp only[ua]
 rw[if_pos (by unfold Fa;simp;omega),Int.toNat_natCast,hv]
 simp[hcl]
theorem cf.Su {P:PV} {ls:List (List (Int×Int))} {ps:List PV} (hP:cf P ls ps) {i:Nat} {v:PV} (hv:ps[i]? =some v) (H:List ba):ua H 1 (.pv P) (i:Int)=some (.pv (.rp [v] 0)):=by
 have hi:i < ls.length:=by rw[← hP.len];exact (List.getElem?_eq_some_iff.1 hv).1
 obtain⟨w,hw,_,h⟩:=hP.Uc hi H
 rw[hv] at hw;injection hw with hw;subst hw;exact h
def Mo (p q:List (List (Int×Int))) (i:Nat):List (Int×Int):=match p[i]?,q[i]? with
 |some a,some b=>Sf (a.length+b.length) a b
 |_,_=>[]
def ec (p q:List (List (Int×Int))):Nat→Nat→Option (List Int)
 |0,_=>some []
 |n+1,i=>match Mo p q i with
  | []=>none
  |m::_=>(ec p q n (i+1)).map (m.1:: ·)
abbrev YJ (rp rq:List PV) (n i:Int) (tk:Nat) (nl:Bool) (es:List PV):Tr:=((((Tr.lf.set 35 (.pv (i64 i))).set 34 (.pv (i64 n))).set 8 (.uq tk nl 1 es)).set 4 (.pv (.rp rq 0))).set 3 (.pv (.rp rp 0))
theorem cr {A:List ba} {id n bytes:Nat} {nl:Bool} {h:Bf} {es:List PV} (hg:A[id]? =some (.tok 1 n nl)) (hn:n=es.length) (hr:xb (n+1) bytes) (e:PV):
 Zb A false h 1 false bytes (.uq id nl 1 es) (.pv (.lit 1 [e]))=some (.uq id false 1 (es++[e]),A.set id (.tok 1 (n+1) false)):=Fg hg hn hr e
theorem BM {e f:PV} {p q:Yb} {P Q:PV} {ps qs:List PV} (hp:Me e p P ps) (hq:Me f q Q qs) (op:xe p) (oq:xe q) {n:Nat} (hn:n≤p.parts.length) (hn2:n≤q.parts.length):
 (ec p.parts q.parts n 0=none→ni [e,f,i64 n]=some (.Jc [.ma,.bool false]))∧
 (∀ bs,ec p.parts q.parts n 0=some bs→∃ v,ni [e,f,i64 n]=some (.Jc [v,.bool true])∧Th 1 v (bs.map (PV.int .u8))∧bs.length=n∧∀ b∈bs,0≤b∧b≤255):=by
 obtain⟨b1,hb1,hb1'⟩:=Il hp
 obtain⟨b2,hb2,hb2'⟩:=Il hq
 have:b1=true:=hb1'.2 op
 subst this
 have:b2=true:=hb2'.2 oq
 subst this
 obtain⟨hP1,hP2⟩:=hp.Fx
 obtain⟨hQ1,hQ2⟩:=hq.Fx
 have heq:=hp.eq
 have hfq:=hq.eq
 subst heq hfq
 have h8:=op.hi
 have lP:=hp.parts.Sb
 have lQ:=hq.parts.Sb
 have hloop:Md (fun r=>∃ E H,(r=(.ret,⟨E,H⟩)∧E.get 6= .pv .ma∧E.get 7= .pv (.bool false)∧ec p.parts q.parts n 0=none)∨(∃ nl bs,r=(.exit 0,⟨E,H⟩)∧E.get 8= .uq 0 nl 1 (bs.map (PV.int .u8))∧(nl=true→bs=[])∧ec p.parts q.parts n 0=some bs∧bs.length=n∧∀ b∈bs,0≤b∧b≤255))
  (gb (fa (ta (Ca (fun _=>none) 8) Zf) (ga 1 [3,4,8,34,35])) oa ⟨YJ [P,i64 p.first] [Q,i64 q.first] n 0 0 true [],[.tok 1 0 true]⟩):=by
  refine wa (yb (g:=fa (ta (Ca (fun _=>none) 8) Zf) (ga 1 [3,4,8,34,35]))
   (fun i t=>∃ nl bs,t=⟨YJ [P,i64 p.first] [Q,i64 q.first] n i 0 nl (bs.map (PV.int .u8)),[.tok 1 i nl]⟩∧bs.length=i∧(nl=true→bs=[])∧(∀ b∈bs,0≤b∧b≤255)∧ec p.parts q.parts n 0=(ec p.parts q.parts (n - i) i).map (bs++ ·))
   n (by unfold oa;omega) _ ⟨true,[],rfl,rfl,fun _=>rfl,by simp,by cases ec p.parts q.parts n 0 <;> simp[*]⟩ ?_ ?_) (fun r h=>h.2)
  ·rintro i t hi ⟨nl,bs,rfl,hlen,hnl,hby,hs⟩
   obtain⟨v,hv,hpv,_⟩:=hp.parts.Uc (i:=i) (by omega) []
   obtain⟨w,hw,hqw,_⟩:=hq.parts.Uc (i:=i) (by omega) []
   have a1:=hp.parts.Su hv
   have a2:=hq.parts.Su hw
   have okv:=op.parts _ (List.getElem_mem (show i < p.parts.length by omega))
   have okw:=oq.parts _ (List.getElem_mem (show i < q.parts.length by omega))
   have hmt:=ZC v w _ _ hpv.is hqw.is okv.2 okw.2 (by
    have:=(vr okv.2).2.1 okv.1
    have h1:=hpv.sz
    have h2:=hqw.sz
    have k1:=fq okv.2
    have k2:=fq okw.2
    omega)
   have hlaw:=Xs _ _ _ (-2) (-2) okv.2 okw.2 (Nat.le_refl _)
   have hmA:Mo p.parts q.parts i=Sf (p.parts[i].length+q.parts[i].length) p.parts[i] q.parts[i]:=by
    unfold Mo
    rw[List.getElem?_eq_getElem (show i < p.parts.length by omega),List.getElem?_eq_getElem (show i < q.parts.length by omega)]
   obtain⟨m,hm⟩:∃ m,n - i=m+1:=⟨n - i - 1,by omega⟩
   have hm':n - (i+1)=m:=by omega
   rw[hm,ec,hmA] at hs
   have hme:=Dq okv.2
   generalize p.parts[i]=lv at *
   generalize q.parts[i]=lw at *
   generalize Sf (lv.length+lw.length) lv lw=mm at *
   have e1:decide ((i:Int) < (n:Int))=true:=Ga (by omega)
   have t2:=Ua (i:=i) (n:=n) hi (by unfold maxLen;omega)
   have lm:∀ H,Sb H 0 (.pv (.lit 2 (Ld mm)))=some mm.length:=fun H=>by simp[Sb]
   have r0:∀ H (x y:PV),ya H false 1 (.pv (.rp [x,y] 0))=some (.pv x):=fun H x y=>rfl
   have r1:∀ H (x:PV),ya H false 1 (.pv (.rp [x] 0))=some (.pv x):=fun H x=>rfl
   have q0:∀ H (x y:PV),place H 0 (.pv (.rp [x,y] 0))=some (.pv (.rp [x,y] 0)):=fun H x y=>rfl
   generalize hQ:LN _ _ i=QQ
   cases mm with
   |nil=>
    have z1:(((0:Nat):Int)==0)=true:=by decide
    simp only[Option.map_none] at hs
    simp -implicitDefEqProofs only[SX,sevalprocAttr,Zf,e1,a1,a2,r0,r1,q0,hmt,lm,z1,YJ]
    subst hQ
    exact⟨_,_,.inl ⟨rfl,by simp[Tr.aa],by simp[Tr.aa],hs⟩⟩
   |cons m0 mm=>
    have z1:(((mm.length+1:Nat):Int)==0)=false:=uh (by omega)
    have i0:∀ H,ua H 2 (.pv (.lit 2 (Ld (m0::mm)))) 0=some (.pv (.rp [i64 m0.1,i64 m0.2] 0)):=fun H=>Sj H (i:=0) (l:=m0::mm) (by simp)
    have hb0:0≤m0.1∧m0.1≤255:=by
     have hmem:=(hlaw.1 m0.1).1 ⟨m0,by simp,Int.le_refl _,hlaw.2 m0 (by simp)⟩
     obtain⟨pp,hpp,h1,h2⟩:=hmem.1
     have:=hme pp hpp;omega
    have t3:IntKind.u8.wrap m0.1=m0.1:=wrap_u8 hb0
    have hap:=cr (A:=[.tok 1 i nl]) (id:=0) (n:=i) (h:= .uq) (nl:=nl) (bytes:=1) (es:=bs.map (PV.int .u8)) rfl (by simp[hlen]) (by unfold xb;omega) (.int .u8 m0.1)
    rw[List.set_cons_zero] at hap
    have lm':∀ H,Sb H 0 (.pv (.lit 2 (Ld (m0::mm))))=some (mm.length+1):=lm
    have hbm:(bs++[m0.1]).map (PV.int .u8)=bs.map (PV.int .u8)++[.int .u8 m0.1]:=by simp
    generalize Ld (m0::mm)=L at *
    simp -implicitDefEqProofs only[SP,WP,na,sevalprocAttr,Zf,e1,t2,t3,a1,a2,r0,r1,q0,hmt,lm',z1,i0,hap,ga,za,AV.cut,pa,qa,YJ]
    subst hQ
    refine⟨false,bs++[m0.1],by rw[hbm],by simp[hlen],by simp,?_,?_⟩
    ·intro b hb
     rcases List.mem_append.1 hb with h | h
     ·exact hby b h
     ·simp at h;subst h;exact hb0
    ·rw[hs,hm']
     cases ec p.parts q.parts m (i+1) <;> simp
  ·rintro t ⟨nl,bs,rfl,hlen,hnl,hby,hs⟩
   rw[Nat.sub_self,ec] at hs
   have e1:decide ((n:Int) < (n:Int))=false:=Ia (by omega)
   generalize hQ:(fun r:Ex×St=>r.1.stop=true∧_)=QQ
   simp -implicitDefEqProofs only[SX,sevalprocAttr,Zf,e1,YJ]
   subst hQ
   exact⟨rfl,_,_,.inr ⟨nl,bs,rfl,by simp[Tr.aa],hnl,by rw[hs];simp,hlen,hby⟩⟩
 obtain⟨r,h1,E,H,h2⟩:=Fc hloop
 have h1':gb (fa (ta (Ca (fun _=>none) 8) Zf) (ga 1 [3,4,8,34,35])) oa ⟨((((Tr.lf.set 35 (.pv (.int .i64 0))).set 34 (.pv (i64 n))).set 8 (.uq 0 true 1 [])).set 4 (.pv (.rp [Q,i64 q.first] 0))).set 3 (.pv (.rp [P,i64 p.first] 0)),[.tok 1 0 true]⟩=some r:=h1
 have d0:decide ((n:Int) < 0)=false:=Ia (by omega)
 have d1:decide ((n:Int) > (if (q.parts.length:Int) < (p.parts.length:Int) then (q.parts.length:Int) else (p.parts.length:Int)))=false:=Ia (by split <;> omega)
 have hz:(0 < 1)=True:=by simp
 have r2:∀ H (x y:PV),ya H true 2 (.pv (.rp [x,y] 0))=some (.pv (.agg [x,y])):=fun H x y=>rfl
 have r0:∀ H (x y:PV),ya H false 1 (.pv (.rp [x,y] 0))=some (.pv x):=fun H x y=>rfl
 have q0:∀ H (x y:PV),place H 0 (.pv (.rp [x,y] 0))=some (.pv (.rp [x,y] 0)):=fun H x y=>rfl
 rcases h2 with⟨rfl,h6,h7,hnone⟩ | ⟨nl,bs,rfl,h8',hnl,hsome,hlen,hby⟩
 ·refine⟨fun _=> ?_,fun bs hbs=>by rw[hnone] at hbs;cases hbs⟩
  simp -implicitDefEqProofs only[ni,SX,sevalprocAttr,Jk,qb,hP1,hQ1,r2,r0,q0,hb1,hb2,lP,lQ,Jq,ue,d0,d1,Ke,hz,ga,za,AV.cut,pa,qa,h1',h6,h7]
 ·refine⟨fun hn=>(by rw[hsome] at hn;cases hn),fun bs' hbs=> ?_⟩
  rw[hsome] at hbs;injection hbs with hbs;subst hbs
  cases nl with
  |true=>
   have:=hnl rfl;subst this
   refine⟨.ma,?_,.inl ⟨rfl,rfl⟩,hlen,hby⟩
   simp -implicitDefEqProofs only[ni,SX,sevalprocAttr,Jk,qb,hP1,hQ1,r2,r0,q0,hb1,hb2,lP,lQ,Jq,ue,d0,d1,Ke,hz,ga,za,AV.cut,pa,qa,h1',h8']
  |false=>
   refine⟨.lit 1 (bs.map (PV.int .u8)),?_,.inr rfl,hlen,hby⟩
   simp -implicitDefEqProofs only[ni,SX,sevalprocAttr,Jk,qb,hP1,hQ1,r2,r0,q0,hb1,hb2,lP,lQ,Jq,ue,d0,d1,Ke,hz,ga,za,AV.cut,pa,qa,h1',h8']
end Go.AM.B1
namespace Go.AM.B1
open Go.AM Go.AM.So
def Qa:List (List (Int×Int))→Int
 | []=>1
 |l::r=>Qa r * Ic 0 l
theorem Kf:∀ {ls:List (List (Int×Int))},(∀ l∈ls,Bd l)→1≤Qa ls
 | [],_=>by simp[Qa]
 |l::r,h=>by
  have h1:=Kf (ls:=r) fun x hx=>h x (by simp[hx])
  have h2:=(Fh (h l (by simp))).1
  rw[Qa]
  have:=Int.mul_le_mul h1 h2 (by omega) (by omega);omega
theorem Ay:∀ (ls:List (List (Int×Int))) (n:Int),(∀ l∈ls,Bd l)→1≤n→n≤1073741825→sh n ls=if 1073741825 < n * Qa ls then 1073741825 else n * Qa ls
 | [],n,_,h1,h2=>by rw[sh,Qa,Int.mul_one,if_neg (by omega)]
 |l::r,n,h,h1,h2=>by
  have hs:=Fh (h l (by simp))
  have hm:=Yw h1 h2 hs.1 hs.2
  have hp:=Kf (ls:=r) fun x hx=>h x (by simp[hx])
  have e:n * (Qa r * Ic 0 l)=(n * Ic 0 l) * Qa r:=by rw[Int.mul_comm (Qa r),Int.mul_assoc]
  rw[sh,Qa,e]
  by_cases hc:1073741825 < n * Ic 0 l
  ·rw[if_pos hc,Ay r _ (fun x hx=>h x (by simp[hx])) (by omega) (by omega)]
   have h3:n * Ic 0 l * 1≤n * Ic 0 l * Qa r:=Int.mul_le_mul_of_nonneg_left hp (by omega)
   rw[if_pos (show 1073741825 < n * Ic 0 l * Qa r by omega)]
   split
   ·rfl
   ·have h4:1073741825 * 1≤1073741825 * Qa r:=Int.mul_le_mul_of_nonneg_left hp (by omega)
    omega
  ·rw[if_neg hc,Ay r _ (fun x hx=>h x (by simp[hx])) (by omega) (by omega)]
theorem xe.prod {s:Yb} (h:xe s):sh 1 s.parts=Qa s.parts∧Qa s.parts≤1073741824:=by
 have h1:=Ay s.parts 1 h.parts (by omega) (by omega)
 have h2:=h.last
 have h3:=h.f0
 unfold ph at h2
 rw[Int.one_mul] at h1
 split at h1
 ·omega
 ·exact⟨h1,by omega⟩
theorem xe.ph {s:Yb} (h:xe s):B1.ph s=s.first+Qa s.parts - 1:=by
 unfold B1.ph;rw[h.prod.1]
theorem vn {ls:List (List (Int×Int))} (h:∀ l∈ls,Bd l) (i:Nat):Qa (ls.drop i)≤Qa ls:=by
 induction ls generalizing i with
 |nil=>simp
 |cons l r ih=>
  cases i with
  |zero=>simp
  |succ i=>
   rw[List.drop_succ_cons,Qa]
   have h1:=ih (fun x hx=>h x (by simp[hx])) i
   have h2:=(Fh (h l (by simp))).1
   have hp:=Kf (ls:=r) fun x hx=>h x (by simp[hx])
   have:Qa r * 1≤Qa r * Ic 0 l:=Int.mul_le_mul_of_nonneg_left h2 (by omega)
   omega
def Lq (l:List Int) (fl:Nat) (nl:Bool):ba:= .seq 1 false (Ja l) fl nl
section
variable {A:List ba} {id n fl:Nat} {nl:Bool} {l:List Int} (hg:A[id]? =some (Lq l fl nl)) (hn:n=l.length) (hf:fl≤n)
include hg hn
theorem YC (hf:fl≤n) {i:Int} {k:Nat} (hi:i=(k:Int)) (hk:k < n):ua A 1 (.own id n) i=some (.Kc id n k):=by
 have:=pb l
 subst hi
 simp only[ua,hg,Lq]
 rw[if_pos (by refine⟨trivial,?_,?_⟩ <;> first | (unfold Fa;omega) | (unfold mi;omega))]
 simp
theorem HD {k:Nat} (hk:k < n) (v:Int):Ma A 1 (.Kc id n k) (.pv (i64 v))=some (A.set id (Lq (l.set k v) n nl)):=by
 have hl:=pb l
 have hc:(AV.pv (i64 v)).cells=[.pv (i64 v)]:=rfl
 simp only[Ma,hg,Lq,hc]
 rw[if_pos ⟨rfl,rfl⟩,if_pos ⟨by omega,by omega⟩,na,na,qj]
theorem qP (d:Nat):ic A (d+1) (.own id n)=some (if nl then .ma else .lit 1 (l.map i64)):=by
 have hl:=pb l
 subst hn
 simp only[ic,hg,Lq]
 have hm:Ra (ic A d) (Ja l)=some (l.map i64):=by rw[Js,wC]
 have hck:∀ l:List Int,chunk 1 false l.length (l.map i64)=l.map i64:=by
  intro l
  induction l with
  |nil=>rfl
  |cons a l ih=>simp only[List.map_cons,List.length_cons,chunk,Bool.false_eq_true,if_false,List.headD_cons,List.drop_succ_cons,List.drop_zero];rw[ih]
 rw[if_pos ⟨by omega,by rfl⟩,hm]
 cases nl with
 |true=>rfl
 |false=>simp only[Bool.false_eq_true,if_false,Option.map_some,hck]
end
theorem ZJ (l:List Int) (fl:Nat) (nl:Bool) (n:Nat):pa n (Lq l fl nl)=some (Lq l fl nl):=by
 have:(Ja l).all (AV.Ze n deep)=true:=by
  rw[List.all_eq_true]
  intro v hv
  obtain⟨p,_,rfl⟩:=List.mem_map.1 hv
  rfl
 simp[pa,Lq,this]
def im (ls:List (List (Int×Int))) (i:Nat):List Int:=(List.range (ls.length+1)).map fun j=>if i < j then Qa (ls.drop j) else 0
theorem Jw (ls:List (List (Int×Int))) (i:Nat):(im ls i).length=ls.length+1:=by simp[im]
theorem JO (ls:List (List (Int×Int))) (i:Nat) (hi:i < ls.length):(im ls (i+1)).set (i+1) (Qa (ls.drop (i+1)))=im ls i:=by
 apply List.ext_getElem
 ·simp[im]
 ·intro j h1 h2
  rw[List.getElem_set]
  simp only[im,List.getElem_map,List.getElem_range]
  by_cases hj:i+1=j
  ·subst hj;simp
  ·rw[if_neg hj]
   by_cases h:i+1 < j
   ·rw[if_pos h,if_pos (by omega)]
   ·rw[if_neg h,if_neg (by omega)]
def pk (ls:List (List (Int×Int))):List Int:=(List.range (ls.length+1)).map fun j=>Qa (ls.drop j)
theorem sL (ls:List (List (Int×Int))):(im ls 0).set 0 (Qa ls)=pk ls:=by
 apply List.ext_getElem
 ·simp[im,pk]
 ·intro j h1 h2
  rw[List.getElem_set]
  simp only[im,pk,List.getElem_map,List.getElem_range]
  by_cases hj:0=j
  ·subst hj;simp
  ·rw[if_neg hj,if_pos (by omega)]
abbrev cN (row:List PV) (m:Nat) (n i:Int):Tr:=(((Tr.lf.set 5 (.pv (i64 i))).set 4 (.pv (i64 n))).set 3 (.own 0 m)).set 1 (.pv (.rp row 0))
theorem rG {e:PV} {s:Yb} {P:PV} {ps:List PV} (h:Me e s P ps) (Aa:xe s):Dl [e]=some (.lit 1 ((pk s.parts).map i64)):=by
 obtain⟨hP1,hP2⟩:=h.Fx
 have heq:=h.eq
 subst heq
 have hP:=h.parts
 have lP:=hP.Sb
 have h8:=Aa.hi
 have hpr:=Aa.prod.2
 have hloop:Md (fun r=>∃ E,r=(.exit 0,⟨E,[Lq (im s.parts 0) (s.parts.length+1) false]⟩)∧E.get 3= .own 0 (s.parts.length+1)∧E.get 4= .pv (i64 (Qa s.parts)))
  (gb (fa (ta (Ca (fun _=>none) 8) Lh) (ga 1 [1,3,4,5])) oa ⟨cN [P,i64 s.first] (s.parts.length+1) 1 s.parts.length,[Lq (im s.parts s.parts.length) 0 false]⟩):=by
  refine wa (Tp (g:=fa (ta (Ca (fun _=>none) 8) Lh) (ga 1 [1,3,4,5]))
   (fun i t=>∃ fl,i≤s.parts.length∧t=⟨cN [P,i64 s.first] (s.parts.length+1) (Qa (s.parts.drop i)) i,[Lq (im s.parts i) fl false]⟩∧fl≤s.parts.length+1∧(i < s.parts.length∨s.parts.length=0→fl=s.parts.length+1∨s.parts.length=0))
   oa s.parts.length _ (by unfold oa;omega) ⟨0,Nat.le_refl _,by rw[List.drop_length];rfl,by omega,fun h=>by omega⟩ ?_) (fun r h=>h.2)
  rintro i t ⟨fl,hi,rfl,hfl,hfl2⟩
  cases i with
  |zero=>
   have h1:=Aa.lo
   have:fl=s.parts.length+1:=by rcases hfl2 (.inl (by omega)) with h | h <;> omega
   subst this
   have e1:decide (((0:Nat):Int) > 0)=false:=by decide
   generalize hQ:LQ _ _ _=Q
   simp -implicitDefEqProofs only[SX,sevalprocAttr,-List.reduceReplicate,Lh,e1,cN]
   subst hQ
   exact⟨_,rfl,by simp[Tr.aa],by simp[Tr.aa]⟩
  |succ i=>
   have e1:decide (((i+1:Nat):Int) > 0)=true:=Ga (by omega)
   have t1:IntKind.i64.wrap (((i+1:Nat):Int) - 1)=(i:Int):=by rw[Da (by omega)];omega
   have hg:[Lq (im s.parts (i+1)) fl false][0]? =some (Lq (im s.parts (i+1)) fl false):=rfl
   have a1:=YC hg (n:=s.parts.length+1) (Jw _ _).symm hfl (i:=((i+1:Nat):Int)) rfl (by omega)
   have s1:=HD hg (n:=s.parts.length+1) (Jw _ _).symm (k:=i+1) (by omega) (Qa (s.parts.drop (i+1)))
   rw[List.set_cons_zero,JO s.parts i (by omega)] at s1
   obtain⟨v,hv,hpt,_⟩:=hP.Uc (i:=i) (by omega) []
   have a2:=hP.Su hv
   have hpo:=Aa.parts s.parts[i] (List.getElem_mem (by omega))
   have hss:=Sv v s.parts[i] hpt.is hpt.sz hpo.2
   have hd:s.parts.drop i=s.parts[i]::s.parts.drop (i+1):=List.drop_eq_getElem_cons (by omega)
   have hpd:Qa (s.parts.drop i)=Qa (s.parts.drop (i+1)) * Ic 0 s.parts[i]:=by rw[hd,Qa]
   have hle:=vn Aa.parts i
   have hpos:=Kf (ls:=s.parts.drop i) fun x hx=>Aa.parts x (List.mem_of_mem_drop hx)
   rw[hpd] at hle hpos
   generalize s.parts[i]=l at *
   have t3:IntKind.i64.wrap (Qa (s.parts.drop (i+1)) * Ic 0 l)=Qa (s.parts.drop (i+1)) * Ic 0 l:=Da (by omega)
   have r0:∀ H (x y:PV),ya H false 1 (.pv (.rp [x,y] 0))=some (.pv x):=fun H x y=>rfl
   have r1:∀ H (x:PV),ya H false 1 (.pv (.rp [x] 0))=some (.pv x):=fun H x=>rfl
   have q0:∀ H (x y:PV),place H 0 (.pv (.rp [x,y] 0))=some (.pv (.rp [x,y] 0)):=fun H x y=>rfl
   have hcut:∀ l' fl',Ra (pa 1) [Lq l' fl' false]=some [Lq l' fl' false]:=fun l' fl'=>by simp[Ra,ZJ]
   have hz:(0 < 1)=True:=by simp
   have htk:∀ o:ba,[o].take 1=[o]:=fun o=>rfl
   generalize hQ:LQ _ _ _=Q
   simp -implicitDefEqProofs only[SP,WP,na,sevalprocAttr,-List.reduceReplicate,Lh,e1,t1,t3,a1,s1,a2,hss,r0,r1,q0,hcut,hz,htk,ga,za,AV.cut,qa,cN]
   subst hQ
   exact⟨i,by omega,s.parts.length+1,by omega,by rw[hpd],by omega,fun _=> .inl rfl⟩
 obtain⟨r,h1,E,rfl,hE3,hE4⟩:=Fc hloop
 have h1':gb (fa (ta (Ca (fun _=>none) 8) Lh) (ga 1 [1,3,4,5])) oa ⟨(((Tr.lf.set 5 (.pv (i64 s.parts.length))).set 4 (.pv (.int .i64 1))).set 3 (.own 0 (s.parts.length+1))).set 1 (.pv (.rp [P,i64 s.first] 0)),[Lq (im s.parts s.parts.length) 0 false]⟩=_:=h1
 have hz0:ba.seq 1 false (Fk [PV.int .i64 0] (s.parts.length+1)) 0 false=Lq (im s.parts s.parts.length) 0 false:=by
  rw[VF,Lq]
  congr 2
  apply List.ext_getElem
  ·simp[im]
  ·intro j hj1 hj2
   simp at hj1
   simp only[im,List.getElem_replicate,List.getElem_map,List.getElem_range]
   rw[if_neg (by omega)]
 have t1:IntKind.i64.wrap ((s.parts.length:Int)+1)=((s.parts.length+1:Nat):Int):=Da (by omega)
 have e2:(0≤((s.parts.length+1:Nat):Int))=True:=by simp;omega
 have e3:(((s.parts.length+1:Nat):Int)≤((s.parts.length+1:Nat):Int))=True:=by simp
 have e4:xb (s.parts.length+1) 8:=by unfold xb;omega
 have hg:[Lq (im s.parts 0) (s.parts.length+1) false][0]? =some (Lq (im s.parts 0) (s.parts.length+1) false):=rfl
 have a1:=YC hg (n:=s.parts.length+1) (Jw _ _).symm (Nat.le_refl _) (i:=0) (k:=0) rfl (by omega)
 have s1:=HD hg (n:=s.parts.length+1) (Jw _ _).symm (k:=0) (by omega) (Qa s.parts)
 rw[List.set_cons_zero,sL] at s1
 have hpv:=qP (A:=[Lq (pk s.parts) (s.parts.length+1) false]) (id:=0) (n:=s.parts.length+1) rfl (by simp[pk]) 5
 rw[if_neg (by simp)] at hpv
 have r0:∀ H (x y:PV),ya H false 1 (.pv (.rp [x,y] 0))=some (.pv x):=fun H x y=>rfl
 have q0:∀ H (x y:PV),place H 0 (.pv (.rp [x,y] 0))=some (.pv (.rp [x,y] 0)):=fun H x y=>rfl
 have hcut:∀ l' fl',Ra (pa 1) [Lq l' fl' false]=some [Lq l' fl' false]:=fun l' fl'=>by simp[Ra,ZJ]
 have hz:(0 < 1)=True:=by simp
 have htk:∀ o:ba,[o].take 1=[o]:=fun o=>rfl
 generalize s.parts.length+1=m at *
 simp -implicitDefEqProofs only[Dl,SP,WP,na,sevalprocAttr,-List.reduceReplicate,Kr,qb,hP1,r0,q0,lP,t1,e2,e3,eq_true e4,hz0,hcut,hz,htk,ga,za,AV.cut,h1',hE3,hE4,a1,s1,hpv,qa]
end Go.AM.B1
namespace Go.AM.B1
open Go.AM Go.AM.So
def sk:List (List (Int×Int))→List Int→Int→Option Int
 |l::r,x::b,k=>if (Gf x 0 l).2=true then sk r b (k+(Gf x 0 l).1 * Qa r) else none
 |_,_,k=>some k
def qn (s:Yb) (b:List Int):Option Int:=if b.length=s.parts.length then sk s.parts b 0 else none
theorem Vq {top x:Int}:∀ {l:List (Int×Int)} {last n:Int},Pa top last l=true→(Gf x n l).2=true→n≤(Gf x n l).1∧(Gf x n l).1 < n+Ic 0 l
 | [],last,n,_,h=>by simp[Gf] at h
 |p::l,last,n,hv,h=>by
  obtain⟨h1,h2,h3,h4,h5⟩:=ie hv
  have hs:=(vr h5).1
  rw[Gf] at h ⊢
  rw[Ic,AA]
  by_cases c1:x < p.1
  ·rw[if_pos c1] at h;cases h
  ·rw[if_neg c1] at h ⊢
   by_cases c2:x≤p.2
   ·rw[if_pos c2];simp only;omega
   ·rw[if_neg c2] at h ⊢
    have:=Vq h5 h;omega
theorem UM {l:List (Int×Int)} (h:Pa 255 (-2) l=true):sy l=l:=by unfold sy;rw[if_pos h]
theorem uI (H:List ba) {sz k:Nat} {es:List PV} (hz:0 < sz) (hk:k≤es.length):sg H sz (.pv (.lit sz es)) (some (k:Int)) none=some (.pv (.lit sz (es.drop k))):=by
 simp only[sg,Option.getD_some,Option.getD_none]
 rw[if_pos ⟨hz,trivial,by omega,by omega,by omega⟩]
 simp
theorem yy (b:List Int) (k:Int):sk [] b k=some k:=by cases b <;> rfl
abbrev KJ (row:List PV) (B S:PV) (n i k:Int):Tr:=(((((Tr.lf.set 26 (.pv (i64 i))).set 25 (.pv (i64 n))).set 24 (.pv S)).set 6 (.pv (i64 k))).set 2 (.pv (.rp row 0))).set 1 (.pv B)
structure uo (B:PV) (bs:List Int):Prop where
 is:Th 1 B (bs.map (PV.int .u8))
 UH:∀ b∈bs,0≤b∧b≤255
theorem uo.Sb {B:PV} {bs:List Int} (h:uo B bs) (H:List ba):Go.AM.Sb H 0 (.pv B)=some bs.length:=by
 rw[h.is.len];simp
theorem uo.one {B:PV} {bs:List Int} (h:uo B bs):(AV.pv B).one=true:=by
 rcases h.is with⟨h,_⟩ | h <;> rw[h] <;> rfl
theorem uo.Uc {B:PV} {bs:List Int} (h:uo B bs) {i:Nat} (hi:i < bs.length) (H:List ba):ua H 1 (.pv B) (i:Int)=some (.pv (.rp [.int .u8 bs[i]] 0)):=by
 have hl:=h.is.lit (i:=i) (by simpa using hi)
 rw[hl]
 simp only[ua]
 rw[if_pos (by unfold Fa;simp;omega),Int.toNat_natCast,List.getElem?_map,List.getElem?_eq_getElem hi];rfl
theorem vE {e:PV} {s:Yb} {P:PV} {ps:List PV} (h:Me e s P ps) {B:PV} {bs:List Int} (hB:uo B bs) (Aa:xe s):
 (∀ k,qn s bs=some k→Qi [e,B]=some (.Jc [i64 k,.bool true]))∧(qn s bs=none→Qi [e,B]=some (.Jc [i64 0,.bool false])):=by
 obtain⟨b1,hb1,hb1'⟩:=Il h
 have:=hb1'.2 Aa
 subst this
 have hst:=rG h Aa
 obtain⟨hP1,hP2⟩:=h.Fx
 have heq:=h.eq
 subst heq
 have hP:=h.parts
 have lP:=hP.Sb
 have lB:=hB.Sb
 have hB1:=hB.one
 have h8:=Aa.hi
 have hpr:=Aa.prod.2
 have r2:∀ H (x y:PV),ya H true 2 (.pv (.rp [x,y] 0))=some (.pv (.agg [x,y])):=fun H x y=>rfl
 have r0:∀ H (x y:PV),ya H false 1 (.pv (.rp [x,y] 0))=some (.pv x):=fun H x y=>rfl
 have r1:∀ H (x:PV),ya H false 1 (.pv (.rp [x] 0))=some (.pv x):=fun H x=>rfl
 have q0:∀ H (x y:PV),place H 0 (.pv (.rp [x,y] 0))=some (.pv (.rp [x,y] 0)):=fun H x y=>rfl
 by_cases hlen:bs.length=s.parts.length
 ·have hrk:qn s bs=sk s.parts bs 0:=by unfold qn;rw[if_pos hlen]
  have hsl:∀ H,sg H 1 (.pv (.lit 1 ((pk s.parts).map i64))) (some 1) none=some (.pv (.lit 1 (((pk s.parts).map i64).drop 1))):=fun H=>uI H (k:=1) (by omega) (by simp[pk])
  have hdl:(((pk s.parts).map i64).drop 1).length=s.parts.length:=by simp[pk]
  have hde:∀ i,i < s.parts.length→(((pk s.parts).map i64).drop 1)[i]? =some (i64 (Qa (s.parts.drop (i+1)))):=by
   intro i hi
   rw[List.getElem?_drop,List.getElem?_map,pk,List.getElem?_map,List.getElem?_range (by omega),Nat.add_comm 1 i];rfl
  generalize ((pk s.parts).map i64).drop 1=S at *
  have hloop:Md (fun r=>∃ E,(r=(.ret,⟨E,[]⟩)∧E.get 4= .pv (i64 0)∧E.get 5= .pv (.bool false)∧sk s.parts bs 0=none)∨(∃ k,r=(.exit 0,⟨E,[]⟩)∧E.get 6= .pv (i64 k)∧sk s.parts bs 0=some k))
   (gb (fa (ta (Ca (fun _=>none) 8) gh) (ga 0 [1,2,6,24,25,26])) oa ⟨KJ [P,i64 s.first] B (.lit 1 S) s.parts.length 0 0,[]⟩):=by
   refine wa (yb (g:=fa (ta (Ca (fun _=>none) 8) gh) (ga 0 [1,2,6,24,25,26]))
    (fun i t=>∃ k,t=⟨KJ [P,i64 s.first] B (.lit 1 S) s.parts.length i k,[]⟩∧0≤k∧k+Qa (s.parts.drop i)≤Qa s.parts∧sk s.parts bs 0=sk (s.parts.drop i) (bs.drop i) k)
    s.parts.length (by unfold oa;omega) _ ⟨0,rfl,by omega,by simp,rfl⟩ ?_ ?_) (fun r h=>h.2)
   ·rintro i t hi ⟨k,rfl,hk0,hk1,hs⟩
    obtain⟨v,hv,hpt,_⟩:=hP.Uc hi []
    have a2:=hP.Su hv
    have hpo:=Aa.parts s.parts[i] (List.getElem_mem hi)
    have hib:i < bs.length:=by omega
    have a3:=hB.Uc hib
    have hbr:=hB.UH bs[i] (List.getElem_mem hib)
    have hd:s.parts.drop i=s.parts[i]::s.parts.drop (i+1):=List.drop_eq_getElem_cons hi
    have hdb:bs.drop i=bs[i]::bs.drop (i+1):=List.drop_eq_getElem_cons hib
    have hrr:=Qv v s.parts[i] hpt.is hpt.sz bs[i]
    rw[UM hpo.2] at hrr
    have hrb:=Vq (x:=bs[i]) (n:=0) hpo.2
    rw[hd,Qa] at hk1
    rw[hd,hdb,sk] at hs
    have hle:=vn Aa.parts (i+1)
    have hpos:=Kf (ls:=s.parts.drop (i+1)) fun x hx=>Aa.parts x (List.mem_of_mem_drop hx)
    have hsz:=Fh hpo
    generalize s.parts[i]=l at *
    generalize bs[i]=x at *
    have e1:decide ((i:Int) < (s.parts.length:Int))=true:=Ga (by omega)
    have t2:=Ua hi (by unfold maxLen;omega)
    have t3:IntKind.i64.wrap x=x:=Da (by omega)
    have a1:∀ H,ua H 1 (.pv (.lit 1 S)) (i:Int)=some (.pv (.rp [i64 (Qa (s.parts.drop (i+1)))] 0)):=fun H=>by
     simp only[ua]
     rw[if_pos (by unfold Fa;simp;omega),Int.toNat_natCast,hde i hi];rfl
    obtain⟨⟨d,is⟩,hrk2⟩:∃ r,r=Gf x 0 l:=⟨_,rfl⟩
    rw[← hrk2] at hrr hs hrb
    generalize hQ:LN _ _ i=Q
    cases is with
    |false=>
     simp only[Bool.false_eq_true,if_false] at hs
     simp -implicitDefEqProofs only[SX,sevalprocAttr,-List.reduceReplicate,gh,e1,a1,a2,a3,r0,r1,q0,t3,hrr,KJ]
     subst hQ
     exact⟨_,.inl ⟨rfl,by simp[Tr.aa],by simp[Tr.aa],hs⟩⟩
    |true=>
     simp only[if_true] at hs
     have hb2:=hrb rfl
     simp only at hb2
     have hmul:d * Qa (s.parts.drop (i+1))+Qa (s.parts.drop (i+1))≤Qa (s.parts.drop (i+1)) * Ic 0 l:=by
      have h1:(d+1) * Qa (s.parts.drop (i+1))≤Ic 0 l * Qa (s.parts.drop (i+1)):=Int.mul_le_mul_of_nonneg_right (by omega) (by omega)
      rw[Int.add_mul,Int.one_mul,Int.mul_comm (Ic 0 l)] at h1
      exact h1
     have hm0:0≤d * Qa (s.parts.drop (i+1)):=Int.mul_nonneg (by omega) (by omega)
     have t4:IntKind.i64.wrap (d * Qa (s.parts.drop (i+1)))=d * Qa (s.parts.drop (i+1)):=Da (by omega)
     have t5:IntKind.i64.wrap (k+d * Qa (s.parts.drop (i+1)))=k+d * Qa (s.parts.drop (i+1)):=Da (by omega)
     simp -implicitDefEqProofs only[SX,sevalprocAttr,-List.reduceReplicate,gh,e1,t2,t4,t5,a1,a2,a3,r0,r1,q0,t3,hrr,ga,za,AV.cut,qa,KJ]
     subst hQ
     exact⟨_,rfl,by omega,by omega,hs⟩
   ·rintro t ⟨k,rfl,hk0,hk1,hs⟩
    rw[List.drop_length,yy] at hs
    have e1:decide ((s.parts.length:Int) < (s.parts.length:Int))=false:=Ia (by omega)
    generalize hQ:(fun r:Ex×St=>r.1.stop=true∧_)=Q
    simp -implicitDefEqProofs only[SX,sevalprocAttr,-List.reduceReplicate,gh,e1,KJ]
    subst hQ
    exact⟨rfl,_,.inr ⟨k,rfl,by simp[Tr.aa],hs⟩⟩
  obtain⟨r,h1,E,h2⟩:=Fc hloop
  have h1':gb (fa (ta (Ca (fun _=>none) 8) gh) (ga 0 [1,2,6,24,25,26])) oa ⟨(((((Tr.lf.set 26 (.pv (.int .i64 0))).set 25 (.pv (i64 s.parts.length))).set 24 (.pv (.lit 1 S))).set 6 (.pv (.int .i64 0))).set 2 (.pv (.rp [P,i64 s.first] 0))).set 1 (.pv B),[]⟩=some r:=h1
  have d1:((bs.length:Int) != (s.parts.length:Int))=false:=by rw[hlen];simp
  rw[hrk]
  rcases h2 with⟨rfl,h4,h5,hn⟩ | ⟨k,rfl,h6,hk⟩
  ·refine⟨fun k hk=>by (rw[hn] at hk;cases hk),fun _=> ?_⟩
   simp -implicitDefEqProofs only[Qi,SX,sevalprocAttr,-List.reduceReplicate,Wm,qb,hP1,hB1,r2,r0,q0,hb1,lP,lB,d1,hst,hsl,hdl,ga,za,AV.cut,qa,h1',h4,h5]
  ·refine⟨fun k' hk'=> ?_,fun hn=>by (rw[hk] at hn;cases hn)⟩
   obtain rfl:k=k':=Option.some.inj (hk.symm.trans hk')
   simp -implicitDefEqProofs only[Qi,SX,sevalprocAttr,-List.reduceReplicate,Wm,qb,hP1,hB1,r2,r0,q0,hb1,lP,lB,d1,hst,hsl,hdl,ga,za,AV.cut,qa,h1',h6]
 ·have d1:((bs.length:Int) != (s.parts.length:Int))=true:=by
   have:(bs.length:Int)≠(s.parts.length:Int):=by omega
   simp[this]
  have hrk:qn s bs=none:=by unfold qn;rw[if_neg hlen]
  refine⟨fun k hk=>by (rw[hrk] at hk;cases hk),fun _=> ?_⟩
  simp -implicitDefEqProofs only[Qi,SX,sevalprocAttr,-List.reduceReplicate,Wm,qb,hP1,hB1,r2,r0,q0,hb1,lP,lB,d1]
end Go.AM.B1
