/- What functions of the program compute. -/
import Derived.Test.YtdglpnpkgngcdaaGreatQ3
import Derived.Test.YtdglpnpkgngcdaaGreatQ2
set_option linter.unusedVariables false
set_option linter.unusedSimpArgs false
namespace Go.AM.B1
open Go.AM Go.AM.So
def Lh:List (Int×Int)→List (Int×Int)→List (Int×Int)
 |out,[]=>out
 |out,r::rest=>match out.getLast? with
  |some q=>if r.1≤q.2+1 then Lh (out.dropLast++[(q.1,if r.2 > q.2 then r.2 else q.2)]) rest else Lh (out++[r]) rest
  |none=>Lh (out++[r]) rest
theorem KG (r:Int×Int) (rest:List (Int×Int)):Lh [] (r::rest)=Lh [r] rest:=rfl
theorem qD {out rest:List (Int×Int)} {q r:Int×Int} (h:r.1≤q.2+1):Lh (out++[q]) (r::rest)=Lh (out++[(q.1,if r.2 > q.2 then r.2 else q.2)]) rest:=by
 rw[Lh,List.getLast?_append];simp[h]
theorem SG {out rest:List (Int×Int)} {q r:Int×Int} (h:¬r.1≤q.2+1):Lh (out++[q]) (r::rest)=Lh (out++[q]++[r]) rest:=by
 rw[Lh,List.getLast?_append];simp[h]
section
variable {A:List ba} {id fl:Nat} {nl:Bool} {out:List (Int×Int)} {q:Int×Int} (hg:A[id]? =some (ud (out++[q]) fl nl)) (hf:fl≤(out.length+1) * 2)
include hg hf
theorem iL:qa A 2 (.own id (out.length+1)) (out.length:Int)=some (.Gc id ((out.length+1) * 2) (out.length * 2)):=by
 have hl:=Fi (out++[q])
 rw[List.length_append,List.length_cons,List.length_nil] at hl
 simp only[qa,hg,ud,Wg]
 rw[if_pos (by refine⟨trivial,?_,?_⟩ <;> first | (unfold Fa;omega) | (unfold nh;omega))]
 simp
omit hf in
theorem BM:place A 1 (.Gc id ((out.length+1) * 2) (out.length * 2))=some (.Gc id ((out.length+1) * 2) (out.length * 2+1)):=by
 have hl:=Fi (out++[q])
 rw[List.length_append,List.length_cons,List.length_nil] at hl
 simp only[place,hg,ud,Wg,hl,if_true]
omit hf in
theorem NQ:ya A false 1 (.Gc id ((out.length+1) * 2) (out.length * 2+1))=some (.pv (i64 q.2)):=by
 have hl:=Fi (out++[q])
 rw[List.length_append,List.length_cons,List.length_nil] at hl
 simp only[ya,hg,ud,Wg,hl,if_true,lh,Bool.false_eq_true,if_false]
 have e:zh (gf (out++[q]))=zh (gf out)++[.pv (i64 q.1),.pv (i64 q.2)]:=by simp[zh,gf,pD]
 have hl2:=Fi out
 rw[e,List.getElem?_append_right (by omega),hl2]
 have:out.length * 2+1 - out.length * 2=1:=by omega
 rw[this];rfl
omit hf in
theorem bM (v:Int):Ra A 1 (.Gc id ((out.length+1) * 2) (out.length * 2+1)) (.pv (i64 v))=some (A.set id (ud (out++[(q.1,v)]) ((out.length+1) * 2) nl)):=by
 have hl:=Fi (out++[q])
 rw[List.length_append,List.length_cons,List.length_nil] at hl
 have e:∀ q:Int×Int,zh (gf (out++[q]))=zh (gf out)++[.pv (i64 q.1),.pv (i64 q.2)]:=fun q=>by simp[zh,gf,pD]
 have hl2:=Fi out
 have hs:na (zh (gf (out++[q]))) (out.length * 2+1) [.pv (i64 v)]=zh (gf (out++[(q.1,v)])):=by
  rw[e,e,na,na,List.set_append_right _ _ (by omega),hl2]
  have:out.length * 2+1 - out.length * 2=1:=by omega
  rw[this];rfl
 have hc:(AV.pv (i64 v)).cells=[.pv (i64 v)]:=rfl
 simp only[Ra,hg,ud,Wg,hc]
 rw[if_pos ⟨rfl,rfl⟩,if_pos ⟨hl,by omega⟩,hs]
end
abbrev zB (id0 n i id1 m:Nat):Tr:=(((Tr.lf.set 11 (.pv (i64 i))).set 10 (.pv (i64 n))).set 9 (.own id0 n)).set 3 (.own id1 m)
def qL (l:List (Int×Int)):Prop:=∀ p∈l,-4611686018427387904≤p.2∧p.2≤4611686018427387904
theorem NS {a b:List (Int×Int)} (ha:qL a) (hb:qL b):qL (a++b):=by
 intro p hp
 rcases List.mem_append.1 hp with h | h
 ·exact ha p h
 ·exact hb p h
theorem NO (call:Za) (l:List (Int×Int)) (hl:qL l) {id0 fl0:Nat} {nl0:Bool} (H:List ba) (hH:Ng H) (hg0:H[id0]? =some (ud l fl0 nl0)) (hf0:fl0≤l.length * 2) (hw:l.length≤1000000):
 Td (fun r=>∃ E fl nl,r=(.exit 0,⟨E,H++[ud (Lh [] l) fl nl]⟩)∧E.get 3= .own H.length (Lh [] l).length∧fl≤(Lh [] l).length * 2)
  (gb (fa (ta call ei) (ga (H.length+1) [3,9,10,11])) oa ⟨zB id0 l.length 0 H.length 0,H++[ud [] 0 true]⟩):=by
 have hp:=sN hg0 hf0 hH
 have hid:id0 < H.length:=hp.lt
 have hid1:id0 < H.length+1:=by omega
 have htk:H.length < H.length+1:=Nat.lt_succ_self _
 have hn:l.length=(gf l).size:=(mo l).symm
 have hcut:∀ a b c,Qa (ma (H.length+1)) (H++[ud a b c])=some (H++[ud a b c]):=fun a b c=>Gl fun o ho=>by
  rcases List.mem_append.1 ho with h | h
  ·exact hH _ (by omega) o h
  ·simp at h;subst h;exact dq _ _ _ _
 refine xa (Nb (g:=fa (ta call ei) (ga (H.length+1) [3,9,10,11]))
  (fun i t=>∃ out fl nl,t=⟨zB id0 l.length i H.length out.length,H++[ud out fl nl]⟩∧fl≤out.length * 2∧qL out∧out.length≤i∧Lh [] l=Lh out (l.drop i))
  l.length (by unfold oa;omega) _ ⟨[],0,true,rfl,by omega,by intro p hp;simp at hp,by simp,rfl⟩ ?_ ?_) (fun r h=>h.2)
 ·rintro i t hi ⟨out,fl,nl,rfl,hfl,hsa,hle,hs⟩
  have hd:l.drop i=l[i]::l.drop (i+1):=List.drop_eq_getElem_cons hi
  rw[hd] at hs
  have hsp:=hl l[i] (List.getElem_mem hi)
  have e1:decide ((i:Int) < (l.length:Int))=true:=Da (by omega)
  have t2:=Ua hi (by unfold maxLen;omega)
  have a1:=dH [ud out fl nl] hid (hp.pd ax hn (i:=(i:Int)) rfl (by omega))
  have l1:=nJ [ud out fl nl] hid (hp.load ax hn (k:=i) (by omega))
  rw[VD hi] at l1
  have l1':ya (H++[ud out fl nl]) true 2 (.Gc id0 (l.length * 2) (i * 2))=some (.pv (pr l[i])):=l1
  have s1:=dy (H++[ud out fl nl]) (.pv (i64 0)) (.pv (i64 0)) l[i]
  have l2:=JA (H++[ud out fl nl]) l[i]
  have b0:∀ p:Int×Int,place (H++[ud out fl nl]++[ba.box [.pv (i64 p.1),.pv (i64 p.2)]]) 0 (.ptr (H++[ud out fl nl]).length 0)=some (.ptr (H++[ud out fl nl]).length 0):=fun p=>by simp[place]
  have b1:∀ p:Int×Int,place (H++[ud out fl nl]++[ba.box [.pv (i64 p.1),.pv (i64 p.2)]]) 1 (.ptr (H++[ud out fl nl]).length 0)=some (.ptr (H++[ud out fl nl]).length 1):=fun p=>by simp[place]
  have b2:∀ p:Int×Int,ya (H++[ud out fl nl]++[ba.box [.pv (i64 p.1),.pv (i64 p.2)]]) false 1 (.ptr (H++[ud out fl nl]).length 0)=some (.pv (i64 p.1)):=fun p=>by simp[ya,lh]
  have b3:∀ p:Int×Int,ya (H++[ud out fl nl]++[ba.box [.pv (i64 p.1),.pv (i64 p.2)]]) false 1 (.ptr (H++[ud out fl nl]).length 1)=some (.pv (i64 p.2)):=fun p=>by simp[ya,lh]
  have hap:=GB (A:=H++[ud out fl nl]++[.box [.pv (i64 l[i].1),.pv (i64 l[i].2)]]) (id:=H.length) (n:=out.length) (h:= .own) (bytes:=16) (by rw[List.getElem?_append_left (by simp)];exact Jj _ _) rfl (by unfold pb;omega) l[i]
  rw[List.set_append_left _ _ (by simp),Rn] at hap
  have htk2:∀ (o o2:ba),(H++[o]++[o2]).take (H.length+1)=H++[o]:=fun o o2=>by
   rw[List.take_append_of_le_length (by simp),List.take_of_length_le (by simp)]
  have hlen:Wb (H++[ud out fl nl]++[.box [.pv (i64 l[i].1),.pv (i64 l[i].2)]]) 0 (.own H.length out.length)=some out.length:=by
   rw[Dz,List.getElem?_append_left (by simp),Jj]
   have:=Fi out
   simp only[ud,Wg]
   rw[if_pos];unfold nh;omega
  rcases List.eq_nil_or_concat out with rfl | ⟨out,q,rfl⟩
  ·have hz:decide (((0:Nat):Int) > 0)=false:=by decide
   rw[KG] at hs
   rw[List.length_nil] at hap hlen
   rw[Nat.zero_add,List.nil_append] at hap
   generalize l[i]=p at *
   generalize hQ:LN _ _ i=Q
   simp -implicitDefEqProofs only[SP,WP,na,sevalprocAttr,ei,e1,t2,a1,l1',s1,l2,hlen,hz,hap,htk2,hcut,hid1,htk,ga,za,AV.cut,wa,zB]
   subst hQ
   exact⟨[p],fl,false,rfl,by simp at hfl ⊢;omega,by intro x hx;simp at hx;subst hx;exact hsp,by simp,hs⟩
  ·rw[List.concat_eq_append] at *
   have hql:=hsa q (by simp)
   have hol:(out++[q]).length=out.length+1:=by simp
   have hg1:(H++[ud (out++[q]) fl nl]++[ba.box [.pv (i64 l[i].1),.pv (i64 l[i].2)]])[H.length]? =some (ud (out++[q]) fl nl):=by rw[List.getElem?_append_left (by simp)];exact Jj _ _
   have c1:=iL hg1 (by rw[hol] at hfl;exact hfl)
   have c2:=BM hg1
   have c3:=NQ hg1
   have c4:=bM hg1 (if l[i].2 > q.2 then l[i].2 else q.2)
   rw[List.set_append_left _ _ (by simp),Rn] at c4
   have t3:IntKind.i64.wrap (((out.length+1:Nat):Int) - 1)=(out.length:Int):=by rw[Ba (by omega)];omega
   have t4:IntKind.i64.wrap (q.2+1)=q.2+1:=Ba (by omega)
   have hz:decide (((out.length+1:Nat):Int) > 0)=true:=Da (by omega)
   rw[hol] at hlen hap hfl hle
   by_cases hj:l[i].1≤q.2+1
   ·have e2:decide (l[i].1≤q.2+1)=true:=Da hj
    rw[qD hj] at hs
    generalize l[i]=p at *
    generalize hmx:(if p.2 > q.2 then p.2 else q.2)=mx at *
    generalize hQ:LN _ _ i=Q
    simp -implicitDefEqProofs only[SP,WP,na,sevalprocAttr,ei,e1,t2,a1,l1',s1,l2,hol,hlen,hz,b0,b1,b2,b3,c1,c2,c3,c4,t3,t4,e2,gr,Ae,hmx,htk2,hcut,hid1,htk,ga,za,AV.cut,wa,zB]
    subst hQ
    refine⟨out++[(q.1,mx)],(out.length+1) * 2,nl,by simp[zB,hol],by simp,?_,by simp;omega,hs⟩
    intro x hx
    rcases List.mem_append.1 hx with h | h
    ·exact hsa x (by simp[h])
    ·simp at h;subst h
     rw[← hmx];split <;> simp only <;> omega
   ·have e2:decide (l[i].1≤q.2+1)=false:=Ha hj
    rw[SG hj] at hs
    generalize l[i]=p at *
    generalize hQ:LN _ _ i=Q
    simp -implicitDefEqProofs only[SP,WP,na,sevalprocAttr,ei,e1,t2,a1,l1',s1,l2,hol,hlen,hz,b0,b1,b2,b3,c1,c2,c3,t3,t4,e2,hap,htk2,hcut,hid1,htk,ga,za,AV.cut,wa,zB]
    subst hQ
    refine⟨out++[q]++[p],fl,false,by simp[zB],by simp;omega,?_,by simp;omega,hs⟩
    exact NS hsa (by intro x hx;simp at hx;subst hx;exact hsp)
 ·rintro t ⟨out,fl,nl,rfl,hfl,hsa,hle,hs⟩
  rw[List.drop_length,Lh] at hs
  have e1:decide ((l.length:Int) < (l.length:Int))=false:=Ha (by omega)
  generalize hQ:(fun r:Ex×St=>r.1.stop=true∧_)=Q
  simp -implicitDefEqProofs only[SX,sevalprocAttr,ei,e1,zB]
  subst hQ
  rw[hs]
  exact⟨rfl,_,fl,nl,rfl,by simp[Tr.aa],hfl⟩
end Go.AM.B1
namespace Go.AM.B1
open Go.AM Go.AM.So
def iy (last:Int) (a:List (Int×Int)):Int:=(a.getLast?.map (·.2)).getD last
theorem gJ (last:Int) (p:Int×Int) (a:List (Int×Int)):iy last (p::a)=iy p.2 a:=by
 cases a with
 |nil=>rfl
 |cons q a=>simp[iy,List.getLast?_cons]
theorem JJ (last:Int) (a:List (Int×Int)) (q:Int×Int):iy last (a++[q])=q.2:=by simp[iy]
theorem Wu (top:Int):∀ (a b:List (Int×Int)) (last:Int),Oa top last (a++b)=(Oa top last a&&Oa top (iy last a) b)
 | [],b,last=>by simp[Oa,iy]
 |p::a,b,last=>by
  rw[List.cons_append,Oa,Oa,Wu top a b p.2,gJ,Bool.and_assoc]
theorem Bq {top last:Int} {p:Int×Int}:Oa top last [p]=true↔0≤p.1∧p.1≤p.2∧p.2≤top∧last < p.1 - 1:=by
 simp only[Oa,Bool.and_true,Bool.not_eq_true',Bool.or_eq_false_iff,decide_eq_false_iff_not]
 constructor <;> intro h <;> refine⟨?_,?_⟩ <;> omega
theorem qt (x:Int) (a b:List (Int×Int)):Xj x (a++b)↔Xj x a∨Xj x b:=by
 unfold Xj
 simp only[List.mem_append]
 constructor
 ·rintro⟨p,h | h,hp⟩
  ·exact .inl ⟨p,h,hp⟩
  ·exact .inr ⟨p,h,hp⟩
 ·rintro (⟨p,h,hp⟩ | ⟨p,h,hp⟩)
  ·exact⟨p,.inl h,hp⟩
  ·exact⟨p,.inr h,hp⟩
theorem Po (x:Int) (p:Int×Int):Xj x [p]↔p.1≤x∧x≤p.2:=by
 unfold Xj;simp
theorem Xm (x:Int):¬Xj x []:=by unfold Xj;simp
theorem im (x:Int) (p:Int×Int) (l:List (Int×Int)):Xj x (p::l)↔(p.1≤x∧x≤p.2)∨Xj x l:=by
 unfold Xj;simp
theorem wA {top:Int}:∀ (rest out:List (Int×Int)) (q:Int×Int),Oa top (-2) (out++[q])=true→(∀ p∈rest,0≤p.1∧p.1≤p.2∧p.2≤top∧q.1≤p.1)→rest.Pairwise (fun p q=>p.1≤q.1)→
 Oa top (-2) (Lh (out++[q]) rest)=true∧(∀ x,Xj x (Lh (out++[q]) rest)↔Xj x (out++[q])∨Xj x rest)∧(Lh (out++[q]) rest).length≤out.length+1+rest.length
 | [],out,q,hv,_,_=>by
   rw[Lh]
   exact⟨hv,fun x=>by simp[Xm],by simp⟩
 |r::rest,out,q,hv,hr,hs=>by
  have h1:=hr r (by simp)
  rw[List.pairwise_cons] at hs
  have hv':=hv
  rw[Wu,Bool.and_eq_true,Bq] at hv'
  by_cases hj:r.1≤q.2+1
  ·rw[qD hj]
   have ih:=wA rest out (q.1,if r.2 > q.2 then r.2 else q.2) (by
    rw[Wu,Bool.and_eq_true,Bq]
    refine⟨hv'.1,hv'.2.1,?_,?_,hv'.2.2.2.2⟩ <;> simp only <;> split <;> omega) (fun p hp=>by
     have:=hr p (by simp[hp])
     exact⟨this.1,this.2.1,this.2.2.1,this.2.2.2⟩) hs.2
   refine⟨ih.1,fun x=> ?_,by have:=ih.2.2;simp only[List.length_cons];omega⟩
   rw[ih.2.1,qt,qt,Po,Po,im]
   have e:(q.1≤x∧x≤(if r.2 > q.2 then r.2 else q.2))↔(q.1≤x∧x≤q.2)∨(r.1≤x∧x≤r.2):=by
    split <;> constructor <;> intro h <;> omega
   simp only[e]
   constructor
   ·rintro ((h | h | h) | h)
    ·exact .inl (.inl h)
    ·exact .inl (.inr h)
    ·exact .inr (.inl h)
    ·exact .inr (.inr h)
   ·rintro ((h | h) | h | h)
    ·exact .inl (.inl h)
    ·exact .inl (.inr (.inl h))
    ·exact .inl (.inr (.inr h))
    ·exact .inr h
  ·rw[SG hj]
   have ih:=wA rest (out++[q]) r (by
    rw[Wu,Bool.and_eq_true,Bq,JJ]
    exact⟨hv,h1.1,h1.2.1,h1.2.2.1,by omega⟩) (fun p hp=>by
     have h2:=hr p (by simp[hp])
     exact⟨h2.1,h2.2.1,h2.2.2.1,hs.1 p hp⟩) hs.2
   refine⟨ih.1,fun x=> ?_,by have:=ih.2.2;simp only[List.length_cons,List.length_append,List.length_nil] at this ⊢;omega⟩
   rw[ih.2.1,qt,Po,im]
   constructor
   ·rintro ((h | h) | h)
    ·exact .inl h
    ·exact .inr (.inl h)
    ·exact .inr (.inr h)
   ·rintro (h | h | h)
    ·exact .inl (.inl h)
    ·exact .inl (.inr h)
    ·exact .inr h
theorem KP {top:Int} (l:List (Int×Int)) (hr:∀ p∈l,0≤p.1∧p.1≤p.2∧p.2≤top) (hs:l.Pairwise (fun p q=>p.1≤q.1)):
 Oa top (-2) (Lh [] l)=true∧(∀ x,Xj x (Lh [] l)↔Xj x l)∧(Lh [] l).length≤l.length:=by
 cases l with
 |nil=>exact⟨rfl,fun x=>Iff.rfl,Nat.le_refl _⟩
 |cons r rest=>
  rw[KG]
  have h1:=hr r (by simp)
  rw[List.pairwise_cons] at hs
  have:=wA rest [] r (by rw[List.nil_append,Bq];exact⟨h1.1,h1.2.1,h1.2.2,by omega⟩) (fun p hp=>by
   have h2:=hr p (by simp[hp])
   exact⟨h2.1,h2.2.1,h2.2.2,hs.1 p hp⟩) hs.2
  rw[List.nil_append] at this
  refine⟨this.1,fun x=> ?_,by have:=this.2.2;simp at this ⊢;omega⟩
  rw[this.2.1,Po,im]
theorem fq {top:Int}:∀ {l:List (Int×Int)} {last:Int},Oa top last l=true→∀ p∈l,0≤p.1∧p.1≤p.2∧p.2≤top
 |q::l,last,h,p,hp=>by
  obtain⟨h1,h2,h3,h4,h5⟩:=Pd h
  rcases List.mem_cons.1 hp with rfl | hp
  ·exact⟨by omega,by omega,by omega⟩
  ·exact fq h5 p hp
theorem Wy:∀ (l:List (Int×Int)),zh (gf l)=Of (l.flatMap fun p=>[p.1,p.2])
 | []=>rfl
 |p::l=>by
  have h:=Wy l
  simp only[zh,gf,Of] at h ⊢
  simp[pD,h]
theorem eE:∀ (l:List (Int×Int)),Jh 2 l.length (l.flatMap fun p=>[p.1,p.2])=l.map fun p=>[p.1,p.2]
 | []=>rfl
 |p::l=>by
  rw[List.length_cons,Jh,List.flatMap_cons,List.map_cons,←eE l];rfl
theorem DQ {l:List (Int×Int)} (hw:l.length < 50) {H:List ba} {id fl:Nat} {nl:Bool} (hg:H[id]? =some (ud l fl nl)):
 ∃ l',l'.Perm l∧l'.Pairwise (fun p q=>p.1≤q.1)∧rz 2 0 23 [.own id l.length,.gl 23 []] H=some (.pv (.Zb []),H.set id (ud l' (l.length * 2) nl)):=by
 obtain⟨s1,s2,s3⟩:=yz 2 0 (l.map fun p=>[p.1,p.2]).toArray
 have hso:∀ F,SC (zh (gf l))=some F→Jh 2 l.length F=l.map fun p=>[p.1,p.2]:=by
  intro F hF
  rw[Wy,ru] at hF
  injection hF with hF
  rw[← hF,eE]
 generalize hE:Ao 2 0 (l.map fun p=>[p.1,p.2]).toArray=E at *
 have hEl:∃ l':List (Int×Int),E.toList=l'.map fun p=>[p.1,p.2]:=by
  have key:∀ (L:List (List Int)),(∀ r∈L,∃ p:Int×Int,r=[p.1,p.2])→∃ l':List (Int×Int),L=l'.map fun p=>[p.1,p.2]:=by
   intro L
   induction L with
   |nil=>intro _;exact⟨[],rfl⟩
   |cons r L ih=>
    intro h
    obtain⟨p,rfl⟩:=h r (by simp)
    obtain⟨l',rfl⟩:=ih fun x hx=>h x (by simp[hx])
    exact⟨p::l',rfl⟩
  refine key _ fun r hr=> ?_
  have:=s2.mem_iff.1 hr
  simp only[List.mem_map] at this
  obtain⟨p,_,rfl⟩:=this
  exact⟨p,rfl⟩
 obtain⟨l',hl'⟩:=hEl
 have hs:E.size=l.length:=by rw[s1];simp
 have hll:l'.length=l.length:=by rw[← hs,←Array.length_toList,hl',List.length_map]
 refine⟨l',?_,?_,?_⟩
 ·rw[hl'] at s2
  have:=s2.map fun r=>(r.getD 0 0,r.getD 1 0)
  simpa[List.map_map,Function.comp_def] using this
 ·rw[List.pairwise_iff_getElem]
  intro i j hi hj hij
  have h:=s3 i j hij (by simp;omega)
  have hg:∀ q (hq:q < l'.length),Fw 2 0 E[q]! =l'[q].1:=by
   intro q hq
   have h1:q < E.size:=by omega
   have:E[q]=[l'[q].1,l'[q].2]:=by
    have h2:E.toList[q]? =some [l'[q].1,l'[q].2]:=by rw[hl',List.getElem?_map,List.getElem?_eq_getElem hq];rfl
    rw[Array.getElem?_toList,Array.getElem?_eq_getElem h1] at h2
    exact Option.some.inj h2
   rw[getElem!_pos E q h1,this];rfl
  rw[hg i hi,hg j hj] at h
  omega
 ·have hfl:=Fi l
  unfold rz
  simp only[hg,ud,Wg]
  rw[if_pos ⟨trivial,trivial,by rw[hfl],by omega⟩]
  have hF:=Wy l
  have hI:=ru (l.flatMap fun p=>[p.1,p.2])
  rw[← hF] at hI
  rw[hI,Option.map_some,hso _ hI,hE,hl',hfl]
  have e:Of (List.map (fun p:Int×Int=>[p.1,p.2]) l').flatten=zh (gf l'):=by rw[Wy,List.flatMap_def]
  rw[e]
theorem PQ (d:Nat) (args:List AV) (H:List ba):Hh sk Fb (d+1) 22 args H=rz 2 0 23 args H:=rfl
theorem VS (l:List (Int×Int)) (hl:qL l) {id0 fl0:Nat} {nl0:Bool} (H:List ba) (hH:Ng H) (hg0:H[id0]? =some (ud l fl0 nl0)) (hf0:fl0≤l.length * 2) (hw:l.length < 50):
 Td (fun r=>∃ l' fl nl,l'.Perm l∧l'.Pairwise (fun p q=>p.1≤q.1)∧r.1= .own (r.2.length - 1) (Lh [] l').length∧Ng r.2∧r.2[r.2.length - 1]? =some (ud (Lh [] l') fl nl)∧fl≤(Lh [] l').length * 2)
  (Ni (Hh sk Fb 7) Bo [.own id0 l.length] H):=by
 obtain⟨l',hpl,hps,hst⟩:=DQ hw hg0
 have hid0:=(List.getElem?_eq_some_iff.1 hg0).1
 have hs2:l'.length=l.length:=hpl.length_eq
 have hg:(H.set id0 (ud l' (l.length * 2) nl0))[id0]? =some (ud l' (l.length * 2) nl0):=List.getElem?_set_self hid0
 have hgd:Ng (H.set id0 (ud l' (l.length * 2) nl0)):=by
  intro n hn o ho
  rcases List.mem_or_eq_of_mem_set ho with h | h
  ·exact hH n (by simpa using hn) o h
  ·subst h;exact dq _ _ _ _
 have hfl:l.length * 2≤l'.length * 2:=by omega
 simp -implicitDefEqProofs only[SX,sevalprocAttr,Bo,PQ,hst]
 generalize H.set id0 (ud l' (l.length * 2) nl0)=H2 at *
 have hl':qL l':=fun p hpp=>hl p (hpl.mem_iff.1 hpp)
 have hlp:=NO (Hh sk Fb 7) l' hl' H2 hgd hg hfl (by omega)
 rw[hs2] at hlp
 have hlen:Wb (H2++[ud [] 0 true]) 0 (.own id0 l.length)=some l.length:=by
  have hid:id0 < H2.length:=(List.getElem?_eq_some_iff.1 hg).1
  have:=Fi l'
  rw[Dz,List.getElem?_append_left hid,hg]
  simp only[ud,Wg]
  unfold zh at this ⊢
  rw[if_pos];unfold nh;omega
 have hg2:H2.length < H2.length+1:=Nat.lt_succ_self _
 have hid1:id0 < H2.length+1:=by have:=(List.getElem?_eq_some_iff.1 hg).1;omega
 have hgood:Ng (H2++[ud [] 0 true]):=by
  intro n hn o ho
  rcases List.mem_append.1 ho with h | h
  ·exact hgd n (by simp at hn;omega) o h
  ·simp at h;subst h;exact dq _ _ _ _
 have hcut:=Ng.cut hgood
 have hlen1:(H2++[ud [] 0 true]).length=H2.length+1:=by simp
 rw[hlen1] at hcut
 have hz:(0 < 2)=True:=by simp
 have ho:ba.seq 2 true [] 0 true=ud [] 0 true:=rfl
 simp -implicitDefEqProofs only[SX,sevalprocAttr,xb,Vf,hz,ho,hlen,hlen1,hcut,hg2,hid1,List.take_of_length_le (show (H2++[ud [] 0 true]).length≤H2.length+1 by simp),ga,za,AV.cut,wa]
 refine xa hlp ?_
 rintro _ ⟨E,fl2,nl2,rfl,hE,hfl2⟩
 simp -implicitDefEqProofs only[SX,sevalprocAttr,hE]
 refine⟨l',fl2,nl2,hpl,hps,by simp,?_,by simp,hfl2⟩
 intro n hn o ho
 rcases List.mem_append.1 ho with h | h
 ·exact hgd n (by simp at hn;omega) o h
 ·simp at h;subst h;exact dq _ _ _ _
end Go.AM.B1
namespace Go.AM.B1
open Go.AM Go.AM.So
abbrev ay:Int:=1073741823
theorem LO {A:List ba} {id1 id2 n1 n2 f1 f2 bytes:Nat} {k1 k2:Bool} {h:Cf} {a b:List (Int×Int)} (h1:A[id1]? =some (ud a f1 k1)) (h2:A[id2]? =some (ud b f2 k2)) (hn1:n1=a.length) (hn2:n2=b.length) (hr:pb (n1+n2) bytes):
 ∃ k,ic A true h 2 true bytes (.own id1 n1) (.own id2 n2)=some (.own id1 (n1+n2),A.set id1 (ud (a++b) f1 k)):=by
 subst hn1 hn2
 have la:=Fi a
 have lb:=Fi b
 have e:zh (gf (a++b))=zh (gf a)++zh (gf b):=by simp[zh,gf]
 have hone:(zh (gf b)).all AV.one=true:=by
  rw[List.all_eq_true]
  intro v hv
  obtain⟨c,hc,rfl⟩:=List.mem_map.1 hv
  rw[List.mem_flatten] at hc
  obtain⟨r,hr,hc⟩:=hc
  exact (ax r (xA b r hr)).2 c hc
 refine⟨k1&&(b.length==0),?_⟩
 simp only[ic,if_true,h1,ud,Wg,Bj,h2,e]
 rw[if_pos ⟨trivial,by omega⟩]
 simp only[Option.bind_some]
 rw[if_pos ⟨trivial,by omega,hr,hone⟩]
theorem qp (v:PV) (l:List (Int×Int)) (hv:Di 2 v (de l)) (hw:l.length * 16≤140737488355328) (hval:Oa ay (-2) l=true) (H:List ba) (hH:Ng H):
 Ni (Hh sk Fb 7) Ki [.pv v] H=some (.own H.length l.length,H++[ud l 0 false]):=by
 have h1:=GM (Hh sk Fb 6) v l hv hw H hH
 have h2:=Ss (.lit 2 (de l)) l (.inr rfl) (by unfold maxLen;omega) ay (by decide)
 rw[hval] at h2
 have h0:∀ args H,Hh sk Fb 7 0 args H=Ni (Hh sk Fb 6) Zc args H:=fun _ _=>rfl
 have h3:=NP (A:=H++[ud l 0 false]) (id:=H.length) (n:=l.length) (Jj _ _) rfl 5
 rw[if_neg (by simp)] at h3
 simp -implicitDefEqProofs only[SX,sevalprocAttr,Ki,h0,h1,h2,h3]
theorem LM {H:List ba} (hH:Ng H) {o:ba} (ho:∀ n,ma n o=some o):Ng (H++[o]):=by
 intro n hn x hx
 rcases List.mem_append.1 hx with h | h
 ·exact hH n (by simp at hn;omega) x h
 ·simp at h;subst h;exact ho n
theorem cQ (A B:PV) (a b:List (Int×Int)) (hA:Di 2 A (de a)) (hB:Di 2 B (de b)) (hva:Oa ay (-2) a=true) (hvb:Oa ay (-2) b=true) (hl:a.length+b.length < 50):
 ∃ u,Yl [A,B]=some (.lit 2 (de u))∧Oa ay (-2) u=true∧(∀ x,Xj x u↔Xj x a∨Xj x b)∧u.length≤a.length+b.length:=by
 have h1:=qp A a hA (by omega) hva [] (by intro n _ o ho;simp at ho)
 have hg1:Ng ([]++[ud a 0 false]):=LM (by intro n _ o ho;simp at ho) (dq _ _ _)
 have h2:=qp B b hB (by omega) hvb ([]++[ud a 0 false]) hg1
 obtain⟨k,h3⟩:=LO (A:=[ud a 0 false,ud b 0 false]) (id1:=0) (id2:=1) (n1:=a.length) (n2:=b.length) (bytes:=16) (h:= .own) rfl rfl rfl rfl (by unfold pb;omega)
 have hg3:Ng [ud (a++b) 0 k,ud b 0 false]:=by
  intro n _ o ho
  simp at ho
  rcases ho with rfl | rfl <;> exact dq _ _ _ _
 have ra:=fq hva
 have rb:=fq hvb
 have rab:∀ p∈a++b,0≤p.1∧p.1≤p.2∧p.2≤ay:=fun p hp=>by
  rcases List.mem_append.1 hp with h | h
  ·exact ra p h
  ·exact rb p h
 have h4:=VS (a++b) (fun p hp=>by have:=rab p hp;unfold ay at this;omega) (id0:=0) [ud (a++b) 0 k,ud b 0 false] hg3 rfl (by omega) (by simp;omega)
 obtain⟨⟨v,H4⟩,e4,l',fl,nl,hpl,hps,hv,hg4,hget,hfl⟩:=Fc h4
 dsimp only at hv hg4 hget
 subst hv
 have law:=KP (top:=ay) l' (fun p hp=>rab p (hpl.mem_iff.1 hp)) hps
 have hll:(Lh [] l').length≤a.length+b.length:=by have:=hpl.length_eq;simp at this;omega
 have h5:=RP (Hh sk Fb 6) (Lh [] l') H4 hg4 hget hfl (by omega)
 have hmem:∀ x,Xj x (Lh [] l')↔Xj x a∨Xj x b:=by
  intro x
  rw[law.2.1,←qt]
  unfold Xj
  constructor
  ·rintro⟨p,h,hx⟩;exact⟨p,hpl.mem_iff.1 h,hx⟩
  ·rintro⟨p,h,hx⟩;exact⟨p,hpl.mem_iff.2 h,hx⟩
 refine⟨Lh [] l',?_,law.1,hmem,hll⟩
 generalize Lh [] l'=u at *
 simp only[List.nil_append,List.length_nil,List.cons_append,List.length_cons,Nat.zero_add] at h1 h2 h3
 rw[List.set_cons_zero] at h3
 have c1:∀ args H,Hh sk Fb 8 1 args H=Ni (Hh sk Fb 7) Ki args H:=fun _ _=>rfl
 have c24:∀ args H,Hh sk Fb 8 24 args H=Ni (Hh sk Fb 7) Bo args H:=fun _ _=>rfl
 have c3:∀ args H,Hh sk Fb 8 3 args H=Ni (Hh sk Fb 7) Ek args H:=fun _ _=>rfl
 have c2:∀ args H,Hh sk Fb 7 2 args H=Ni (Hh sk Fb 6) xd args H:=fun _ _=>rfl
 have hab:(a++b).length=a.length+b.length:=by simp
 rw[hab] at e4
 simp -implicitDefEqProofs only[Yl,XB,SP,WP,na,sevalprocAttr,Yo,c1,h1,h2,h3,c24,e4,c3,Ek,c2,h5]
theorem qv (v:PV) (l:List (Int×Int)) (hv:Di 2 v (de l)) (hw:l.length * 16≤140737488355328) (hval:Oa ay (-2) l=true):Sl [v]=some (.lit 2 (de l)):=by
 have h1:=qm v l hv hw
 rw[← MK] at h1
 have h2:=Ss (.lit 2 (de l)) l (.inr rfl) (by unfold maxLen;omega) ay (by decide)
 rw[hval] at h2
 simp -implicitDefEqProofs only[Sl,SP,SA,SQ,sevalprocAttr,Zr,Fe,Db,h1,h2]
def Xf:Nat→List (Int×Int)→List (Int×Int)→List (Int×Int)
 |0,_,_=>[]
 |n+1,a,b=>match a,b with
  |p::a',q::b'=>(if (if q.1 > p.1 then q.1 else p.1)≤(if q.2 < p.2 then q.2 else p.2) then [((if q.1 > p.1 then q.1 else p.1),(if q.2 < p.2 then q.2 else p.2))] else [])++(if p.2 < q.2 then Xf n a' (q::b') else Xf n (p::a') b')
  |_,_=>[]
abbrev aw (va vb:PV) (tk:Nat) (nl:Bool) (es:List PV):Tr:=((Tr.lf.set 5 (.uq tk nl 2 es)).set 1 (.pv vb)).set 0 (.pv va)
theorem Di.yW {v:PV} {p:PV} {es:List PV} (h:Di 2 v (p::es)):∀ H,Bg H 2 (.pv v) (some 1) none=some (.pv (.lit 2 es)):=by
 intro H
 rcases h with⟨_,h⟩ | rfl
 ·cases h
 ·simp[Bg]
  omega
theorem lK (A B:PV) (a b:List (Int×Int)) (hA:Di 2 A (de a)) (hB:Di 2 B (de b)) (hw:(a.length+b.length) * 16≤140737488355328):
 ∃ u,um [A,B]=some u∧Di 2 u (de (Xf (a.length+b.length) a b)):=by
 have hloop:Td (fun r=>∃ E H nl,r=(.exit 0,⟨E,H⟩)∧E.get 5= .uq 0 nl 2 (de (Xf (a.length+b.length) a b))∧(nl=true→Xf (a.length+b.length) a b=[]))
  (gb (fa (ta (Ga (fun _=>none) 8) fg) (ga 1 [0,1,5])) oa ⟨aw A B 0 true [],[.tok 2 0 true]⟩):=by
  refine xa (Iq (g:=fa (ta (Ga (fun _=>none) 8) fg) (ga 1 [0,1,5]))
   (fun m t=>∃ va vb a' b' nl out,m=a'.length+b'.length∧Di 2 va (de a')∧Di 2 vb (de b')∧t=⟨aw va vb 0 nl (de out),[.tok 2 out.length nl]⟩∧out.length+m≤a.length+b.length∧(nl=true→out=[])∧Xf (a.length+b.length) a b=out++Xf m a' b')
   oa (a.length+b.length) _ (by unfold oa;omega) ⟨A,B,a,b,true,[],rfl,hA,hB,rfl,by simp,fun _=>rfl,rfl⟩ ?_) (fun r h=>h.2)
  rintro m t ⟨va,vb,a',b',nl,out,rfl,ha,hb,rfl,hlen,hnl,hs⟩
  have la:=ha.len
  have lb:=hb.len
  simp only[de,List.length_map] at la lb
  cases a' with
  |nil=>
   have hs':Xf (a.length+b.length) a b=out:=by
    rw[hs];cases b' <;> simp[Xf]
   have z1:decide (((([]:List (Int×Int)).length:Nat):Int) > 0)=false:=by decide
   generalize hQ:LQ _ _ _=Q
   simp -implicitDefEqProofs only[SX,sevalprocAttr,fg,la,z1,aw]
   subst hQ
   rw[hs']
   exact⟨_,_,nl,rfl,by simp[Tr.aa],hnl⟩
  |cons p a'=>
   have z1:decide ((((p::a').length:Nat):Int) > 0)=true:=Da (by simp)
   cases b' with
   |nil=>
    have hs':Xf (a.length+b.length) a b=out:=by
     rw[hs];simp[Xf]
    have z2:decide (((([]:List (Int×Int)).length:Nat):Int) > 0)=false:=by decide
    generalize hQ:LQ _ _ _=Q
    have la':∀ H,Wb H 0 (.pv va)=some (a'.length+1):=la
    have z1':decide ((((a'.length+1):Nat):Int) > 0)=true:=z1
    have lb':∀ H,Wb H 0 (.pv vb)=some 0:=lb
    have z2':decide (((0:Nat):Int) > 0)=false:=z2
    simp -implicitDefEqProofs only[SX,sevalprocAttr,fg,la',lb',z1',z2',aw]
    subst hQ
    rw[hs']
    exact⟨_,_,nl,rfl,by simp[Tr.aa],hnl⟩
   |cons q b'=>
    have la':∀ H,Wb H 0 (.pv va)=some (a'.length+1):=la
    have z1':decide ((((a'.length+1):Nat):Int) > 0)=true:=z1
    have lb':∀ H,Wb H 0 (.pv vb)=some (b'.length+1):=lb
    have z2':decide ((((b'.length+1):Nat):Int) > 0)=true:=Da (by omega)
    have hva:va= .lit 2 (de (p::a')):=ha.lit (i:=0) (by simp)
    have hvb:vb= .lit 2 (de (q::b')):=hb.lit (i:=0) (by simp)
    have sa:=Di.yW ha
    have sb:=Di.yW hb
    have i1:∀ H,qa H 2 (.pv va) 0=some (.pv (.rp [i64 p.1,i64 p.2] 0)):=fun H=>by
     rw[hva];exact ll H (i:=0) (l:=p::a') (by simp)
    have i2:∀ H,qa H 2 (.pv vb) 0=some (.pv (.rp [i64 q.1,i64 q.2] 0)):=fun H=>by
     rw[hvb];exact ll H (i:=0) (l:=q::b') (by simp)
    have hap:=qj (A:=[.tok 2 out.length nl]) (id:=0) (n:=out.length) (h:= .uq) (ag:=true) (nl:=nl) (sz:=2) (bytes:=16) (es:=de out) rfl (by simp) (by unfold pb;simp only[List.length_cons] at hlen;omega) (pr ((if q.1 > p.1 then q.1 else p.1),(if q.2 < p.2 then q.2 else p.2)))
    rw[List.set_cons_zero] at hap
    have hm:∀ n,Xf (n+1) (p::a') (q::b')=(if (if q.1 > p.1 then q.1 else p.1)≤(if q.2 < p.2 then q.2 else p.2) then [((if q.1 > p.1 then q.1 else p.1),(if q.2 < p.2 then q.2 else p.2))] else [])++(if p.2 < q.2 then Xf n a' (q::b') else Xf n (p::a') b'):=fun n=>rfl
    have hmn:(p::a').length+(q::b').length=(a'.length+b'.length+1)+1:=by simp;omega
    have l0:∀ H (x y:PV),ya H false 1 (.pv (.rp [x,y] 0))=some (.pv x):=fun H x y=>rfl
    have l1:∀ H (x y:PV),ya H false 1 (.pv (.rp [x,y] 1))=some (.pv y):=fun H x y=>rfl
    have p0:∀ H (x y:PV),place H 0 (.pv (.rp [x,y] 0))=some (.pv (.rp [x,y] 0)):=fun H x y=>rfl
    have p1:∀ H (x y:PV),place H 1 (.pv (.rp [x,y] 0))=some (.pv (.rp [x,y] 1)):=fun H x y=>rfl
    rw[hmn] at hlen
    rw[hmn,hm] at hs
    generalize hlo:(if q.1 > p.1 then q.1 else p.1)=lo at *
    generalize hhi:(if q.2 < p.2 then q.2 else p.2)=hi at *
    clear hva hvb
    have hprs:de (out++[(lo,hi)])=de out++[pr (lo,hi)]:=by simp[de]
    generalize hQ:LQ _ _ _=Q
    by_cases c1:lo≤hi
    ·have d1:=Da c1
     rw[if_pos c1] at hs
     by_cases c2:p.2 < q.2
     ·have d2:=Da c2
      rw[if_pos c2] at hs
      simp -implicitDefEqProofs only[SP,WP,na,sevalprocAttr,fg,la',lb',z1',z2',i1,i2,l0,l1,p0,p1,gr,Ae,hlo,hhi,hap,d1,d2,sa,sb,ga,za,AV.cut,ma,wa,aw]
      subst hQ
      exact⟨a'.length+b'.length+1,by rw[hmn];omega,_,vb,a',q::b',false,out++[(lo,hi)],by simp;omega,.inr rfl,hb,by rw[hprs];simp[aw],by simp;omega,by simp,by rw[hs,List.append_assoc]⟩
     ·have d2:=Ha c2
      rw[if_neg c2] at hs
      simp -implicitDefEqProofs only[SP,WP,na,sevalprocAttr,fg,la',lb',z1',z2',i1,i2,l0,l1,p0,p1,gr,Ae,hlo,hhi,hap,d1,d2,sa,sb,ga,za,AV.cut,ma,wa,aw]
      subst hQ
      exact⟨a'.length+b'.length+1,by rw[hmn];omega,va,_,p::a',b',false,out++[(lo,hi)],by simp;omega,ha,.inr rfl,by rw[hprs];simp[aw],by simp;omega,by simp,by rw[hs,List.append_assoc]⟩
    ·have d1:=Ha c1
     rw[if_neg c1,List.nil_append] at hs
     by_cases c2:p.2 < q.2
     ·have d2:=Da c2
      rw[if_pos c2] at hs
      simp -implicitDefEqProofs only[SP,WP,na,sevalprocAttr,fg,la',lb',z1',z2',i1,i2,l0,l1,p0,p1,gr,Ae,hlo,hhi,d1,d2,sa,sb,ga,za,AV.cut,ma,wa,aw]
      subst hQ
      exact⟨a'.length+b'.length+1,by rw[hmn];omega,_,vb,a',q::b',nl,out,by simp;omega,.inr rfl,hb,rfl,by omega,hnl,hs⟩
     ·have d2:=Ha c2
      rw[if_neg c2] at hs
      simp -implicitDefEqProofs only[SP,WP,na,sevalprocAttr,fg,la',lb',z1',z2',i1,i2,l0,l1,p0,p1,gr,Ae,hlo,hhi,d1,d2,sa,sb,ga,za,AV.cut,ma,wa,aw]
      subst hQ
      exact⟨a'.length+b'.length+1,by rw[hmn];omega,va,_,p::a',b',nl,out,by simp;omega,ha,.inr rfl,rfl,by omega,hnl,hs⟩
 obtain⟨r,h1,E,H,nl,rfl,hE,hnl⟩:=Fc hloop
 simp only[aw,de,List.map_nil] at h1
 generalize Xf (a.length+b.length) a b=u at *
 have hz:(0 < 2)=True:=by simp
 cases nl with
 |true=>
  refine⟨.pa,?_,.inl ⟨rfl,by rw[hnl rfl];rfl⟩⟩
  simp -implicitDefEqProofs only[um,SX,sevalprocAttr,dr,xb,Vf,hz,ga,za,AV.cut,ma,wa,h1,hE]
 |false=>
  refine⟨.lit 2 (de u),?_,.inr rfl⟩
  simp -implicitDefEqProofs only[um,SX,sevalprocAttr,dr,xb,Vf,hz,ga,za,AV.cut,ma,wa,h1,hE]
end Go.AM.B1
namespace Go.AM.B1
open Go.AM Go.AM.So
theorem JE {top:Int}:∀ {l:List (Int×Int)} {last:Int},Oa top last l=true→∀ p∈l,last < p.1 - 1
 |q::l,last,h,p,hp=>by
  obtain⟨h1,h2,h3,h4,h5⟩:=Pd h
  rcases List.mem_cons.1 hp with rfl | hp
  ·omega
  ·have:=JE h5 p hp;omega
theorem Nl {top last x:Int} {l:List (Int×Int)} (h:Oa top last l=true) (hx:Xj x l):last+1 < x:=by
 obtain⟨p,hp,h1,h2⟩:=hx
 have:=JE h p hp;omega
theorem Ns {top:Int}:∀ (n:Nat) (a b:List (Int×Int)) (la lb:Int),Oa top la a=true→Oa top lb b=true→a.length+b.length≤n→
 (∀ x,Xj x (Xf n a b)↔Xj x a∧Xj x b)∧∀ p∈Xf n a b,p.1≤p.2
 |0,a,b,la,lb,_,_,hn=>by
  have:a=[]:=List.eq_nil_of_length_eq_zero (by omega)
  subst this
  exact⟨fun x=>by simp[Xf,Xm],by simp[Xf]⟩
 |n+1,[],b,la,lb,_,_,hn=>⟨fun x=>by simp[Xf,Xm],by simp[Xf]⟩
 |n+1,p::a,[],la,lb,_,_,hn=>⟨fun x=>by simp[Xf,Xm],by simp[Xf]⟩
 |n+1,p::a,q::b,la,lb,ha,hb,hn=>by
  obtain⟨a1,a2,a3,a4,a5⟩:=Pd ha
  obtain⟨b1,b2,b3,b4,b5⟩:=Pd hb
  rw[Xf]
  have hlo:p.1≤(if q.1 > p.1 then q.1 else p.1)∧q.1≤(if q.1 > p.1 then q.1 else p.1)∧((if q.1 > p.1 then q.1 else p.1)=p.1∨(if q.1 > p.1 then q.1 else p.1)=q.1):=by split <;> omega
  have hhi:(if q.2 < p.2 then q.2 else p.2)≤p.2∧(if q.2 < p.2 then q.2 else p.2)≤q.2∧((if q.2 < p.2 then q.2 else p.2)=p.2∨(if q.2 < p.2 then q.2 else p.2)=q.2):=by split <;> omega
  generalize (if q.1 > p.1 then q.1 else p.1)=lo at *
  generalize (if q.2 < p.2 then q.2 else p.2)=hi at *
  have hpc:∀ x,Xj x (if lo≤hi then [(lo,hi)] else [])↔(p.1≤x∧x≤p.2)∧(q.1≤x∧x≤q.2):=by
   intro x
   by_cases h:lo≤hi
   ·rw[if_pos h,Po];simp only;omega
   ·rw[if_neg h]
    simp only[Xm,false_iff]
    omega
  have hpl:∀ r∈(if lo≤hi then [(lo,hi)] else []),r.1≤r.2:=by
   intro r hr
   by_cases h:lo≤hi
   ·rw[if_pos h] at hr;simp at hr;subst hr;exact h
   ·rw[if_neg h] at hr;simp at hr
  by_cases c:p.2 < q.2
  ·rw[if_pos c]
   have ih:=Ns n a (q::b) p.2 lb a5 hb (by simp at hn ⊢;omega)
   refine⟨fun x=> ?_,fun r hr=> ?_⟩
   ·rw[qt,hpc,ih.1,im,im]
    have hfar:Xj x b→q.2+1 < x:=Nl b5
    constructor
    ·rintro (⟨h1,h2⟩ | ⟨h1,h2⟩)
     ·exact⟨.inl h1,.inl h2⟩
     ·exact⟨.inr h1,h2⟩
    ·rintro⟨h1 | h1,h2⟩
     ·rcases h2 with h2 | h2
      ·exact .inl ⟨h1,h2⟩
      ·have:=hfar h2;omega
     ·exact .inr ⟨h1,h2⟩
   ·rcases List.mem_append.1 hr with h | h
    ·exact hpl r h
    ·exact ih.2 r h
  ·rw[if_neg c]
   have ih:=Ns n (p::a) b la q.2 ha b5 (by simp at hn ⊢;omega)
   refine⟨fun x=> ?_,fun r hr=> ?_⟩
   ·rw[qt,hpc,ih.1,im,im]
    have hfar:Xj x a→p.2+1 < x:=Nl a5
    constructor
    ·rintro (⟨h1,h2⟩ | ⟨h1,h2⟩)
     ·exact⟨.inl h1,.inl h2⟩
     ·exact⟨h1,.inr h2⟩
    ·rintro⟨h1,h2 | h2⟩
     ·rcases h1 with h1 | h1
      ·exact .inl ⟨h1,h2⟩
      ·have:=hfar h1;omega
     ·exact .inr ⟨h1,h2⟩
   ·rcases List.mem_append.1 hr with h | h
    ·exact hpl r h
    ·exact ih.2 r h
theorem UM {top:Int} {a b:List (Int×Int)} (ha:Oa top (-2) a=true) (hb:Oa top (-2) b=true):Xf (a.length+b.length) a b≠[]↔∃ x,Xj x a∧Xj x b:=by
 have h:=Ns (a.length+b.length) a b (-2) (-2) ha hb (Nat.le_refl _)
 constructor
 ·intro hne
  obtain⟨p,r,hpr⟩:=List.exists_cons_of_ne_nil hne
  have hp:p∈Xf (a.length+b.length) a b:=by rw[hpr];simp
  exact⟨p.1,(h.1 p.1).1 ⟨p,hp,Int.le_refl _,h.2 p hp⟩⟩
 ·rintro⟨x,hx⟩ he
  have:=(h.1 x).2 hx
  rw[he] at this
  exact Xm x this
theorem sx:∀ (n:Nat) (a b:List (Int×Int)),(Xf n a b).length≤n
 |0,a,b=>by simp[Xf]
 |n+1,[],b=>by simp[Xf]
 |n+1,p::a,[]=>by simp[Xf]
 |n+1,p::a,q::b=>by
  rw[Xf,List.length_append]
  generalize (if q.1 > p.1 then q.1 else p.1)=lo
  generalize (if q.2 < p.2 then q.2 else p.2)=hi
  have h1:(if lo≤hi then [(lo,hi)] else []).length≤1:=by
   by_cases h:lo≤hi
   ·rw[if_pos h];simp
   ·rw[if_neg h];simp
  by_cases c:p.2 < q.2
  ·rw[if_pos c];have:=sx n a (q::b);omega
  ·rw[if_neg c];have:=sx n (p::a) b;omega
theorem OA (A B:PV) (a b:List (Int×Int)) (hA:Di 2 A (de a)) (hB:Di 2 B (de b)) (hva:Oa ay (-2) a=true) (hvb:Oa ay (-2) b=true) (hw:(a.length+b.length) * 16≤140737488355328):
 Om [A,B]=some (.lit 2 (de (Xf (a.length+b.length) a b))):=by
 have h1:=qv A a hA (by omega) hva
 have h2:=qv B b hB (by omega) hvb
 obtain⟨u,h3,h4⟩:=lK (.lit 2 (de a)) (.lit 2 (de b)) a b (.inr rfl) (.inr rfl) hw
 have h5:=qm u _ h4 (by have:=sx (a.length+b.length) a b;omega)
 rw[← iH] at h5
 have h6:Zm [u]=some (.lit 2 (de (Xf (a.length+b.length) a b))):=by
  simp -implicitDefEqProofs only[Zm,SP,SA,SQ,sevalprocAttr,Zp,Fe,Db,h5]
 simp -implicitDefEqProofs only[Om,SP,SA,SQ,sevalprocAttr,Jq,Fe,Db,h1,h2,h3,h6]
theorem Wr (v:PV) (l:List (Int×Int)) (hv:Di 2 v (de l)) (hw:l.length * 16≤140737488355328) (hval:Oa 255 (-2) l=true):ah [v]=some (.lit 2 (de l)):=by
 have h1:=qm v l hv hw
 have h2:=Ss (.lit 2 (de l)) l (.inr rfl) (by unfold maxLen;omega) 255 (by decide)
 rw[hval] at h2
 simp -implicitDefEqProofs only[ah,SP,SA,SQ,sevalprocAttr,zo,Fe,Db,h1,h2]
theorem RE (A B:PV) (a b:List (Int×Int)) (hA:Di 2 A (de a)) (hB:Di 2 B (de b)) (hva:Oa 255 (-2) a=true) (hvb:Oa 255 (-2) b=true) (hw:(a.length+b.length) * 16≤140737488355328):
 Gp [A,B]=some (.lit 2 (de (Xf (a.length+b.length) a b))):=by
 have h1:=Wr A a hA (by omega) hva
 have h2:=Wr B b hB (by omega) hvb
 obtain⟨u,h3,h4⟩:=lK (.lit 2 (de a)) (.lit 2 (de b)) a b (.inr rfl) (.inr rfl) hw
 have h5:=qm u _ h4 (by have:=sx (a.length+b.length) a b;omega)
 rw[← GJ] at h5
 have h6:Bp [u]=some (.lit 2 (de (Xf (a.length+b.length) a b))):=by
  simp -implicitDefEqProofs only[Bp,SP,SA,SQ,sevalprocAttr,Ju,Fe,Db,h5]
 simp -implicitDefEqProofs only[Gp,SP,SA,SQ,sevalprocAttr,eu,Fe,Db,h1,h2,h3,h6]
theorem UA (n:Int) (l:List (Int×Int)):Sb n l=n+Sb 0 l:=by
 induction l generalizing n with
 |nil=>simp[Sb]
 |cons p l ih=>rw[Sb,Sb,ih,ih (0+(p.2 - p.1+1))];omega
theorem yr {top:Int}:∀ {l:List (Int×Int)} {last:Int},Oa top last l=true→0≤Sb 0 l∧(l≠[]→1≤Sb 0 l∧Sb 0 l≤top - last - 1∧Sb 0 l≤top+1)∧Sb 0 l≤max 0 (top+1)
 | [],last,_=>⟨by simp[Sb],fun h=>absurd rfl h,by simp[Sb];omega⟩
 |p::l,last,h=>by
  obtain⟨h1,h2,h3,h4,h5⟩:=Pd h
  have ih:=yr h5
  rw[Sb,UA]
  have key:l≠[]∨l=[]:=by cases l <;> simp
  rcases key with hl | hl
  ·have:=ih.2.1 hl
   exact⟨by omega,fun _=>⟨by omega,by omega,by omega⟩,by omega⟩
  ·subst hl
   simp only[Sb]
   exact⟨by omega,fun _=>⟨by omega,by omega,by omega⟩,by omega⟩
theorem wu {top:Int}:∀ {l:List (Int×Int)} {last:Int},Oa top last l=true→(l.length:Int)≤max 0 (top - last)
 | [],last,_=>by simp;omega
 |p::l,last,h=>by
  obtain⟨h1,h2,h3,h4,h5⟩:=Pd h
  have:=wu h5
  simp only[List.length_cons]
  omega
theorem gw (v:PV) (l:List (Int×Int)) (hv:Di 2 v (de l)) (hw:l.length * 16≤140737488355328) (hval:Oa 255 (-2) l=true):Tm [v]=some (i64 (Sb 0 l)):=by
 have h1:=Wr v l hv hw hval
 have h2:=MR (.lit 2 (de l)) l (.inr rfl) (by unfold maxLen;omega) (top:=255) (by decide) hval
 simp -implicitDefEqProofs only[Tm,SP,SA,SQ,sevalprocAttr,vu,Fe,Db,h1,h2]
end Go.AM.B1
namespace Go.AM.B1
open Go.AM
theorem No (A:List ba) (o:ba):(A++[o])[A.length]? =some o:=by simp
theorem vo (A:List ba) (o o':ba):(A++[o]).set A.length o'=A++[o']:=by
 apply List.ext_getElem?
 intro i
 by_cases h:i=A.length
 ·subst h;simp
 ·rw[List.getElem?_set_ne (Ne.symm h)]
  rcases Nat.lt_or_ge i A.length with h1 | h1
  ·rw[List.getElem?_append_left h1,List.getElem?_append_left h1]
  ·rw[List.getElem?_append_right h1,List.getElem?_append_right h1]
   have:i - A.length≠0:=by omega
   obtain⟨k,hk⟩:∃ k,i - A.length=k+1:=⟨i - A.length - 1,by omega⟩
   rw[hk];simp
abbrev u32 (n:Int):PV:= .int .u32 n
abbrev zx (S:PV) (x d bits len i left:Int) (ends:Bool):Tr:=
 ((((((Tr.lf.set 18 (.pv (i64 i))).set 17 (.pv (i64 len))).set 16 (.pv S)).set 9 (.pv (.bool ends))).set 8 (.pv (u32 left))).set 4 (.pv (.rp [i64 d,u32 bits] 0))).set 2 (.pv (i64 x))
def Pz (bits:Int) (i:Nat):Bool:=IntKind.u32.wrap (((BitVec.ofInt IntKind.u32.bits (bits.fdiv (2 ^ min i IntKind.u32.bits)) &&& BitVec.ofInt IntKind.u32.bits 1).toNat:Nat):Int)==1
theorem Ww (bits:Int) (i:Nat):(IntKind.u32.wrap (((BitVec.ofInt IntKind.u32.bits (bits.fdiv (2 ^ min i IntKind.u32.bits)) &&& BitVec.ofInt IntKind.u32.bits 1).toNat:Nat):Int)==1)=Pz bits i:=rfl
def PX (left:Int) (i:Nat):Int:=IntKind.u32.wrap (((BitVec.ofInt IntKind.u32.bits left ||| BitVec.ofInt IntKind.u32.bits (IntKind.u32.wrap (1 * 2 ^ min i IntKind.u32.bits))).toNat:Nat):Int)
theorem EJ (left:Int) (i:Nat):IntKind.u32.wrap (((BitVec.ofInt IntKind.u32.bits left ||| BitVec.ofInt IntKind.u32.bits (IntKind.u32.wrap (1 * 2 ^ min i IntKind.u32.bits))).toNat:Nat):Int)=PX left i:=rfl
section
variable (call:Za) (A:List ba) (ss:List PV) (x bits left:Int) (d:Nat) (ends:Bool) (i len:Nat) (hi:i < len) (hl:len=ss.length) (hw:len≤maxLen) (ps:List PV) (first:Int) (hs:ss[i]? =some (.agg [.lit 1 ps,i64 first]))
include hi hl hw hs
theorem KU (hb:Pz bits i=false):
 fa (ta call Bb) (fun s=>some (tidy [2,4,8,9,16,17,18] s)) ⟨zx (.lit 2 ss) x d bits len i left ends,A⟩=
  some (.norm,⟨zx (.lit 2 ss) x d bits len (i+1:Nat) left ends,A++[.box [.pv (.lit 1 ps),.pv (i64 first)]]⟩):=by
 have e1:decide ((i:Int) < (len:Int))=true:=Da (by omega)
 have hq:Fa (i:Int) ss.length:=by unfold Fa;omega
 have t1:((i:Int)).toNat=i:=by simp
 have t2:=Ua hi hw
 have hn:((i:Int) < 0)=False:=by simp
 simp -implicitDefEqProofs only[SP,SA,SQ,sevalprocAttr,fa,Bb,e1,eq_true hq,t1,t2,hs,hn,Ww,hb,qa,No,vo,tidy,Dc,zx]
theorem kW (hb:Pz bits i=true) (qs:List PV) (hp:ps[d]? =some (.lit 2 qs)) (hdl:d < ps.length) (hd:d < 4611686018427387904) (hh:Uk [.lit 2 qs,i64 x]=some (.bool false)):
 fa (ta call Bb) (fun s=>some (tidy [2,4,8,9,16,17,18] s)) ⟨zx (.lit 2 ss) x d bits len i left ends,A⟩=
  some (.norm,⟨zx (.lit 2 ss) x d bits len (i+1:Nat) left ends,A++[.box [.pv (.lit 1 ps),.pv (i64 first)]]⟩):=by
 have e1:decide ((i:Int) < (len:Int))=true:=Da (by omega)
 have hq:Fa (i:Int) ss.length:=by unfold Fa;omega
 have t1:((i:Int)).toNat=i:=by simp
 have t2:=Ua hi hw
 have hn:((i:Int) < 0)=False:=by simp
 have hq2:Fa (d:Int) ps.length:=by unfold Fa;omega
 have t3:((d:Int)).toNat=d:=by simp
 simp -implicitDefEqProofs only[SP,SA,SQ,sevalprocAttr,fa,Bb,e1,eq_true hq,eq_true hq2,t1,t2,t3,hs,hn,Ww,hb,hp,hh,Fe,Db,qa,No,vo,tidy,Dc,zx]
theorem WW (hb:Pz bits i=true) (qs:List PV) (hp:ps[d]? =some (.lit 2 qs)) (hdl:d < ps.length) (hd:d < 4611686018427387904) (hh:Uk [.lit 2 qs,i64 x]=some (.bool true)):
 fa (ta call Bb) (fun s=>some (tidy [2,4,8,9,16,17,18] s)) ⟨zx (.lit 2 ss) x d bits len i left ends,A⟩=
  some (.norm,⟨zx (.lit 2 ss) x d bits len (i+1:Nat) (PX left i) (ends||(ps.length==d+1)),A++[.box [.pv (.lit 1 ps),.pv (i64 first)]]⟩):=by
 have e1:decide ((i:Int) < (len:Int))=true:=Da (by omega)
 have hq:Fa (i:Int) ss.length:=by unfold Fa;omega
 have t1:((i:Int)).toNat=i:=by simp
 have t2:=Ua hi hw
 have hn:((i:Int) < 0)=False:=by simp
 have hq2:Fa (d:Int) ps.length:=by unfold Fa;omega
 have t3:((d:Int)).toNat=d:=by simp
 have t4:IntKind.i64.wrap ((d:Int)+1)=((d+1:Nat):Int):=Ba (by omega)
 have t5:((ps.length:Int)==((d+1:Nat):Int))=(ps.length==d+1):=by
  rw[Bool.eq_iff_iff];simp;omega
 cases ends with
 |true=>simp -implicitDefEqProofs only[SP,SA,SQ,sevalprocAttr,fa,Bb,e1,eq_true hq,eq_true hq2,t1,t2,t3,t4,t5,hs,hn,Ww,EJ,hb,hp,hh,Fe,Db,qa,No,vo,tidy,Dc,zx]
 |false=>simp -implicitDefEqProofs only[SP,SA,SQ,sevalprocAttr,fa,Bb,e1,eq_true hq,eq_true hq2,t1,t2,t3,t4,t5,hs,hn,Ww,EJ,hb,hp,hh,Fe,Db,qa,No,vo,tidy,Dc,zx]
end
structure dc where
 parts:List (List (Int×Int))
 first:Int
def Te (l:List (Int×Int)):PV:= .lit 2 (de l)
def Le (s:dc):PV:= .agg [.lit 1 (s.parts.map Te),i64 s.first]
def mM (l:List (Int×Int)) (x:Int):Bool:=(Md x 0 (sy l)).2
def Nt (s:dc) (d:Nat) (x:Int):Bool:=
 match s.parts[d]? with
 |some l=>mM l x
 |none=>false
def wh (x bits:Int) (d:Nat):Nat→List dc→Int×Bool→Int×Bool
 |_,[],acc=>acc
 |i,s::r,acc=>wh x bits d (i+1) r (if Pz bits i&&Nt s d x then (PX acc.1 i,acc.2||(s.parts.length==d+1)) else acc)
theorem lH (l:List (Int×Int)):az (.lit 2 (de l))=some l:=by
 have:Qa Xz (de l)=some l:=by
  induction l with
  |nil=>rfl
  |cons p l ih=>simp only[de,List.map_cons,Qa,Xz,Option.bind_some] at ih ⊢;rw[ih];rfl
 exact this
theorem XQ {l:List (Int×Int)} (h:l.length * 16≤140737488355328) (x:Int):Uk [Te l,i64 x]=some (.bool (mM l x)):=by
 simp only[Uk,Te,lH,Option.bind_some,if_pos h];rfl
def dF (ss:List dc):List ba:=ss.map fun s=> .box [.pv (.lit 1 (s.parts.map Te)),.pv (i64 s.first)]
section
variable (call:Za) (H:List ba) (id:Nat) (rest:List AV) (S:PV) (ss:List dc) (x bits:Int) (d:Nat)
 (hid:H[id]? =some (.box (.pv S::rest))) (hS:Di 2 S (ss.map Le)) (hw:ss.length≤maxLen) (hd:d < 4611686018427387904)
 (Aa:∀ i s,ss[i]? =some s→Pz bits i=true→d < s.parts.length) (hsz:∀ s∈ss,∀ l∈s.parts,l.length * 16≤140737488355328)
include hid hS hw hd Aa hsz
theorem Kq:Ni call wi [.ptr id 0,.pv (.agg [i64 d,u32 bits]),.pv (i64 x)] H=
 some (.pv (.Zb [u32 (wh x bits d 0 ss (0,false)).1,.bool (wh x bits d 0 ss (0,false)).2]),H++dF ss):=by
 have ls:=hS.len
 simp only[List.length_map] at ls
 have key:=Wj (g:=fa (ta call Bb) (fun s=>some (tidy [2,4,8,9,16,17,18] s)))
  (fun i t=>∃ left ends,t=⟨zx S x d bits ss.length i left ends,H++dF (ss.take i)⟩∧wh x bits d 0 ss (0,false)=wh x bits d i (ss.drop i) (left,ends))
  (fun ex t=>ex= .exit 0∧t=⟨(zx S x d bits ss.length ss.length (wh x bits d 0 ss (0,false)).1 (wh x bits d 0 ss (0,false)).2).set 19 (.pv (.bool false)),H++dF ss⟩)
  oa ss.length 0 ⟨zx S x d bits ss.length (0:Nat) 0 false,H⟩ (by unfold oa;unfold maxLen at hw;omega) (by omega) ⟨0,false,by simp[dF],rfl⟩ ?_ ?_
 ·obtain⟨ex,t,h,_,rfl,rfl⟩:=key
  generalize wh x bits d 0 ss (0,false)=r at *
  simp -implicitDefEqProofs only[SP,SA,SQ,sevalprocAttr,wi,ls,hid,Dp,tidy,Dc,zx,h]
  simp only[zx] at h
  have h':gb (fa (ta call Bb) (fun s=>some (tidy [2,4,8,9,16,17,18] s))) oa ⟨((((((Tr.lf.set 18 (.pv (i64 0))).set 17 (.pv (i64 ss.length))).set 16 (.pv S)).set 9 (.pv (.bool false))).set 8 (.pv (u32 0))).set 4 (.pv (.rp [i64 d,u32 bits] 0))).set 2 (.pv (i64 x)),H⟩=_:=h
  simp only[tidy,Dc] at h'
  rw[h']
  simp -implicitDefEqProofs only[SP,SA,SQ,sevalprocAttr,Db]
 ·rintro i hi t ⟨left,ends,rfl,hb⟩
  have hlit:=hS.lit (i:=i) (by simpa using hi)
  subst hlit
  have hg:(ss.map Le)[i]? =some (.agg [.lit 1 (ss[i].parts.map Te),i64 ss[i].first]):=by simp[hi,Le]
  have hdr:ss.drop i=ss[i]::ss.drop (i+1):=List.drop_eq_getElem_cons hi
  have hJ:H++dF (ss.take (i+1))=H++dF (ss.take i)++[.box [.pv (.lit 1 (ss[i].parts.map Te)),.pv (i64 ss[i].first)]]:=by
   rw[List.take_succ_eq_append_getElem hi,dF,List.map_append,List.append_assoc];rfl
  rw[hdr,wh] at hb
  cases hbit:Pz bits i with
  |false=>
   rw[hbit] at hb
   refine .inl ⟨_,KU call _ _ x bits left d ends i ss.length hi (by simp) hw _ _ hg hbit,left,ends,by rw[hJ],hb⟩
  |true=>
   have hdl:=Aa i ss[i] (by simp[hi]) hbit
   have hp:(ss[i].parts.map Te)[d]? =some (.lit 2 (de ss[i].parts[d])):=by simp[hdl,Te]
   have hc:=XQ (hsz ss[i] (List.getElem_mem hi) ss[i].parts[d] (List.getElem_mem hdl)) x
   have hat:Nt ss[i] d x=mM ss[i].parts[d] x:=by simp[Nt,hdl]
   rw[hbit,hat,Bool.true_and] at hb
   cases hh:mM ss[i].parts[d] x with
   |false=>
    rw[hh] at hb hc
    refine .inl ⟨_,kW call _ _ x bits left d ends i ss.length hi (by simp) hw _ _ hg hbit _ hp (by simpa using hdl) hd hc,left,ends,by rw[hJ],hb⟩
   |true=>
    rw[hh] at hb hc
    refine .inl ⟨_,WW call _ _ x bits left d ends i ss.length hi (by simp) hw _ _ hg hbit _ hp (by simpa using hdl) hd hc,_,_,by rw[hJ],?_⟩
    rw[hb]
    simp
 ·rintro t ⟨left,ends,rfl,hb⟩
  rw[List.drop_length] at hb
  simp only[wh] at hb
  refine⟨.exit 0,_,?_,rfl,rfl,rfl⟩
  rw[hb,List.take_length]
  have e1:decide ((ss.length:Int) < (ss.length:Int))=false:=Ha (by omega)
  simp -implicitDefEqProofs only[SP,SA,SQ,sevalprocAttr,fa,Bb,e1,zx]
end
end Go.AM.B1
namespace Go.AM.B1
open Go.AM
abbrev Al:=Nat×Int
def ri (a:Al):PV:= .agg [i64 a.1,u32 a.2]
def iC (l:List Al) (k:Nat):List (PV×PV):=(l.zipIdx k).map fun p=>(ri p.1,i64 p.2)
theorem NA (a:Al) (l:List Al) (k:Nat):iC (a::l) k=(ri a,i64 k)::iC l (k+1):=rfl
theorem ZG (a:Al):∀ (l:List Al) (k:Nat),iC (l++[a]) k=iC l k++[(ri a,i64 (k+l.length:Nat))]
 | [],k=>by simp[iC]
 |b::l,k=>by rw[List.cons_append,NA,ZG a l (k+1),NA];simp;omega
theorem CC (a b:Al):gk (.row [1,1]) (ri a) (ri b)=some (decide (a=b)):=by
 obtain⟨a1,a2⟩:=a;obtain⟨b1,b2⟩:=b
 simp only[ri,gk,ej,Kr,if_true,Option.bind_some,Option.map_some,Bool.and_true,Prod.mk.injEq,Bool.decide_and]
 congr 1
 rw[Bool.eq_iff_iff]
 simp
 intro _
 omega
def dm (a:Al):List Al→Nat→Option Nat
 | [],_=>none
 |b::l,k=>if a=b then some k else dm a l (k+1)
theorem dI (a:Al):∀ (l:List Al) (k j:Nat),tm (.row [1,1]) (ri a) (iC l k) j=some ((dm a l k).map fun i=>(j+(i - k),i64 i)):=by
 intro l
 induction l with
 |nil=>intro k j;rfl
 |cons b l ih=>
  intro k j
  rw[NA,tm,CC]
  simp only[Option.bind_some,dm]
  by_cases h:a=b
  ·simp[h]
  ·rw[if_neg h,ih]
   simp only[h,decide_false,Bool.false_eq_true,if_false,Option.some.injEq]
   cases hi:dm a l (k+1) with
   |none=>rfl
   |some i=>
    have:k+1≤i:=by
     clear ih
     induction l generalizing k with
     |nil=>simp[dm] at hi
     |cons c l ihl=>
      simp only[dm] at hi
      split at hi
      ·injection hi with hi;omega
      ·have:=ihl (k+1) hi;omega
    simp only[Option.map_some,Option.some.injEq,Prod.mk.injEq,and_true]
    omega
abbrev Mj (R0 R1:ba) (S:PV) (nl:Bool) (sets:List Al) (rows:ba) (n:Nat) (T:List ba):List ba:=
 R0::R1:: .map (iC sets 0):: .box [.pv S,.mp 2,.uq 4 nl 2 (sets.map ri),.own 5 n]:: .tok 2 sets.length nl::rows::T
section
variable (call:Za) (R0 R1:ba) (S:PV) (nl:Bool) (sets:List Al) (rows:ba) (n:Nat) (T:List ba) (a:Al)
theorem jW {i:Nat} (h:dm a sets 0=some i):
 Ni call Xd [.ptr 3 0,.pv (ri a)] (Mj R0 R1 S nl sets rows n T)=some (.pv (.Zb [i64 i,.bool true]),Mj R0 R1 S nl sets rows n T):=by
 have hf:=dI a sets 0 0
 rw[h] at hf
 simp only[Option.map_some] at hf
 have hk:(gk (.row [1,1]) (ri a) (ri a)).isSome=true:=by rw[CC];rfl
 simp only[ri] at hf hk
 simp -implicitDefEqProofs only[SP,SA,SQ,sevalprocAttr,ri,Xd,hf,eq_true hk]
theorem KT (h:dm a sets 0=none) (hl:sets.length=64):
 Ni call Xd [.ptr 3 0,.pv (ri a)] (Mj R0 R1 S nl sets rows n T)=some (.pv (.Zb [i64 0,.bool false]),Mj R0 R1 S nl sets rows n T):=by
 have hf:=dI a sets 0 0
 rw[h] at hf
 simp only[Option.map_none] at hf
 have hk:(gk (.row [1,1]) (ri a) (ri a)).isSome=true:=by rw[CC];rfl
 have e1:(((sets.map ri).length:Int)==64)=true:=by simp[hl]
 simp only[ri] at hf hk
 simp -implicitDefEqProofs only[SP,SA,SQ,sevalprocAttr,Xd,ri,hf,eq_true hk,e1]
theorem lO (h:dm a sets 0=none) (hl:sets.length < 64):
 Ni call Xd [.ptr 3 0,.pv (ri a)] (Mj R0 R1 S nl sets rows n T)=some (.pv (.Zb [i64 sets.length,.bool true]),Mj R0 R1 S false (sets++[a]) rows n T):=by
 have hf:=dI a sets 0 0
 rw[h] at hf
 simp only[Option.map_none] at hf
 have hk:(gk (.row [1,1]) (ri a) (ri a)).isSome=true:=by rw[CC];rfl
 have e1:((sets.length:Int)==64)=false:=ni (by omega)
 have hp:=ZG a sets 0
 rw[Nat.zero_add] at hp
 have q1:pb (sets.length+1) 16:=by unfold pb;omega
 have hlen:(sets.map ri).length=sets.length:=by simp
 have hlen2:(sets++[a]).length=sets.length+1:=by simp
 have hmap:(sets++[a]).map ri=sets.map ri++[ri a]:=by simp
 unfold Mj
 rw[hp,hlen2,hmap]
 simp only[ri] at hf hk ⊢
 simp -implicitDefEqProofs only[SP,SA,SQ,sevalprocAttr,Xd,hf,eq_true hk,e1,hlen,eq_true q1,Zi,AV.cF,AV.Up]
end
end Go.AM.B1
namespace Go.AM.B1
open Go.AM
theorem uj (n:Nat) (cs:List AV):ma n (.box cs)=(Qa (AV.cut n deep) cs).map .box:=rfl
theorem Cm (n:Nat) (es:List (PV×PV)):ma n (.map es)=some (.map es):=rfl
theorem Qs (n sz:Nat) (ag:Bool) (cs:List AV) (fl:Nat) (nl:Bool):ma n (.seq sz ag cs fl nl)=if cs.all (AV.Be n deep)=true then some (.seq sz ag cs fl nl) else none:=rfl
theorem Fm (n sz m:Nat) (nl:Bool):ma n (.tok sz m nl)=some (.tok sz m nl):=rfl
def Rg (ss:List dc) (a:Al) (x:Int) (sets:List Al):Option (List Al×Int):=
 if (wh x a.2 a.1 0 ss (0,false)).1=0 then some (sets,-2)
 else if (wh x a.2 a.1 0 ss (0,false)).2=true then some (sets,-1)
 else match dm (a.1+1,(wh x a.2 a.1 0 ss (0,false)).1) sets 0 with
  |some k=>some (sets,(k:Int))
  |none=>if sets.length < 64 then some (sets++[(a.1+1,(wh x a.2 a.1 0 ss (0,false)).1)],(sets.length:Int)) else none
inductive Bu (k:Nat) (v:AV) (o:ba):Option (Ex×St)→Prop
 |mk (s:St):s.env.get k=v→s.H[0]? =some o→Bu k v o (some (.ret,s))
theorem fD {k:Nat} {v:AV} {o:ba} {s:St}:Bu k v o (some (.ret,s))=(s.env.get k=v∧s.H[0]? =some o):=
 propext ⟨fun h=>by cases h with | mk _ h h'=>exact⟨h,h'⟩,fun h=> .mk s h.1 h.2⟩
theorem mr {k:Nat} {v:AV} {o:ba} {r:Option (Ex×St)} (h:Bu k v o r):∃ t,r=some (.ret,t)∧t.env.get k=v∧t.H[0]? =some o:=by
 cases h with | mk s h h'=>exact⟨s,rfl,h,h'⟩
def Ka (l:List Int):List AV:=l.map fun n=> .pv (i64 n)
theorem gj (l:List Int) (x:Nat) (v:Int):(Ka l).set x (.pv (i64 v))=Ka (l.set x v):=by simp[Ka,List.map_set]
theorem fb (l:List Int):(Ka l).length=l.length:=by simp[Ka]
theorem xq (n d:Nat) (l:List Int):Qa (AV.cut n d) (Ka l)=some (Ka l):=by
 induction l with
 |nil=>rfl
 |cons a l ih=>simp only[Ka,List.map_cons,Qa,Ia,Option.bind_some] at ih ⊢;rw[ih];rfl
abbrev xm (i x:Int):Tr:=(((Tr.lf.set 30 (.pv (i64 x))).set 4 (.ptr 6 0)).set 3 (.pv (i64 i))).set 0 (.ptr 3 0)
section
variable (R0 R1:ba) (S:PV) (nl:Bool) (sets:List Al) (rows:ba) (n:Nat) (row:List Int) (ss:List dc) (i x:Nat) (a:Al)
 (h0:ma 7 R0=some R0) (h1:ma 7 R1=some R1) (hr:ma 7 rows=some rows) (hrow:row.length=256) (hx:x < 256)
 (hi:i < sets.length) (ha:(sets.map ri)[i]? =some (.agg [i64 a.1,u32 a.2])) (had:a.1 < 4611686018427387904)
 (hS:Di 2 S (ss.map Le)) (hw:ss.length≤maxLen)
 (Aa:∀ i s,ss[i]? =some s→Pz a.2 i=true→a.1 < s.parts.length) (hsz:∀ s∈ss,∀ l∈s.parts,l.length * 16≤140737488355328)
include h0 h1 hr hrow hx hi ha had hS hw Aa hsz
theorem VQ (hb:(wh x a.2 a.1 0 ss (0,false)).1=0):
 Mb (Ga Ea 7) [0,3,4,30] La 7 ⟨xm i x,Mj R0 R1 S nl sets rows n [.box (Ka row)]⟩=
  some (.norm,⟨xm i (x+1:Nat),Mj R0 R1 S nl sets rows n [.box (Ka (row.set x (-2)))]⟩):=by
 have e1:decide ((x:Int) < 256)=true:=Da (by omega)
 have hlen:(sets.map ri).length=sets.length:=by simp
 have hq:Fa (i:Int) sets.length:=by unfold Fa;omega
 have hq2:Fa (x:Int) 256:=by unfold Fa;omega
 have t1:((i:Int)).toNat=i:=by simp
 have t3:((x:Int)).toNat=x:=by simp
 have t2:=Ua (i:=x) (n:=256) hx (by unfold maxLen;omega)
 have hbeh:=Kq (Ga Ea 6) (Mj R0 R1 S nl sets rows n [.box (Ka row)]) 3 _ S ss x a.2 a.1 rfl hS hw had Aa hsz
 rw[hb] at hbeh
 have hle:x+1≤(Ka row).length:=by rw[fb];omega
 have hz:(((0:Nat)+x+1)≤(Ka row).length)=True:=by simp only[eq_iff_iff,iff_true];omega
 simp only[Mj,List.cons_append,List.nil_append] at hbeh
 generalize (wh x a.2 a.1 0 ss (0,false)).2=ends at *
 simp -implicitDefEqProofs only[SP,SA,SQ,sevalprocAttr,Mb,fa,La,Ea,e1,hlen,eq_true hq,eq_true hq2,t1,t2,t3,ha,hbeh,hz,eq_true hle,gj,qa,ga,za,uj,Cm,Fm,Ia,xq,AV.cut,Db,h0,h1,hr,xm,Mj]
theorem XS (hb:(wh x a.2 a.1 0 ss (0,false)).1≠0) (hb2:(wh x a.2 a.1 0 ss (0,false)).2=true):
 Mb (Ga Ea 7) [0,3,4,30] La 7 ⟨xm i x,Mj R0 R1 S nl sets rows n [.box (Ka row)]⟩=
  some (.norm,⟨xm i (x+1:Nat),Mj R0 R1 S nl sets rows n [.box (Ka (row.set x (-1)))]⟩):=by
 have e1:decide ((x:Int) < 256)=true:=Da (by omega)
 have hlen:(sets.map ri).length=sets.length:=by simp
 have hq:Fa (i:Int) sets.length:=by unfold Fa;omega
 have hq2:Fa (x:Int) 256:=by unfold Fa;omega
 have t1:((i:Int)).toNat=i:=by simp
 have t3:((x:Int)).toNat=x:=by simp
 have t2:=Ua (i:=x) (n:=256) hx (by unfold maxLen;omega)
 have hbeh:=Kq (Ga Ea 6) (Mj R0 R1 S nl sets rows n [.box (Ka row)]) 3 _ S ss x a.2 a.1 rfl hS hw had Aa hsz
 rw[hb2] at hbeh
 have hle:x+1≤(Ka row).length:=by rw[fb];omega
 have hz:(((0:Nat)+x+1)≤(Ka row).length)=True:=by simp only[eq_iff_iff,iff_true];omega
 simp only[Mj,List.cons_append,List.nil_append] at hbeh
 have e4:=ni hb
 generalize (wh x a.2 a.1 0 ss (0,false)).1=left at *
 simp -implicitDefEqProofs only[SP,SA,SQ,sevalprocAttr,Mb,fa,La,Ea,e1,hlen,eq_true hq,eq_true hq2,t1,t2,t3,ha,hbeh,e4,hz,eq_true hle,gj,qa,ga,za,uj,Cm,Fm,Ia,xq,AV.cut,Db,h0,h1,hr,xm,Mj]
theorem QS (hb:(wh x a.2 a.1 0 ss (0,false)).1≠0) (hb2:(wh x a.2 a.1 0 ss (0,false)).2=false) {k:Nat} (hk:dm (a.1+1,(wh x a.2 a.1 0 ss (0,false)).1) sets 0=some k):
 Mb (Ga Ea 7) [0,3,4,30] La 7 ⟨xm i x,Mj R0 R1 S nl sets rows n [.box (Ka row)]⟩=
  some (.norm,⟨xm i (x+1:Nat),Mj R0 R1 S nl sets rows n [.box (Ka (row.set x k))]⟩):=by
 have e1:decide ((x:Int) < 256)=true:=Da (by omega)
 have hlen:(sets.map ri).length=sets.length:=by simp
 have hq:Fa (i:Int) sets.length:=by unfold Fa;omega
 have hq2:Fa (x:Int) 256:=by unfold Fa;omega
 have t1:((i:Int)).toNat=i:=by simp
 have t3:((x:Int)).toNat=x:=by simp
 have t2:=Ua (i:=x) (n:=256) hx (by unfold maxLen;omega)
 have hbeh:=Kq (Ga Ea 6) (Mj R0 R1 S nl sets rows n [.box (Ka row)]) 3 _ S ss x a.2 a.1 rfl hS hw had Aa hsz
 rw[hb2] at hbeh
 have hle:x+1≤(Ka row).length:=by rw[fb];omega
 have hz:(((0:Nat)+x+1)≤(Ka row).length)=True:=by simp only[eq_iff_iff,iff_true];omega
 simp only[Mj,List.cons_append,List.nil_append] at hbeh
 have e4:=ni hb
 have t5:IntKind.i64.wrap ((a.1:Int)+1)=((a.1+1:Nat):Int):=Ba (by omega)
 have hmet:=jW (Ga Ea 6) R0 R1 S nl sets rows n (.box (Ka row)::dF ss) (a.1+1,(wh x a.2 a.1 0 ss (0,false)).1) hk
 simp only[Mj,ri] at hmet
 generalize (wh x a.2 a.1 0 ss (0,false)).1=left at *
 simp -implicitDefEqProofs only[SP,SA,SQ,sevalprocAttr,Mb,fa,La,Ea,e1,hlen,eq_true hq,eq_true hq2,t1,t2,t3,ha,hbeh,hmet,t5,e4,hz,eq_true hle,gj,qa,ga,za,uj,Cm,Fm,Ia,xq,AV.cut,Db,h0,h1,hr,xm,Mj]
theorem DR (hb:(wh x a.2 a.1 0 ss (0,false)).1≠0) (hb2:(wh x a.2 a.1 0 ss (0,false)).2=false) (hk:dm (a.1+1,(wh x a.2 a.1 0 ss (0,false)).1) sets 0=none) (hl:sets.length < 64):
 Mb (Ga Ea 7) [0,3,4,30] La 7 ⟨xm i x,Mj R0 R1 S nl sets rows n [.box (Ka row)]⟩=
  some (.norm,⟨xm i (x+1:Nat),Mj R0 R1 S false (sets++[(a.1+1,(wh x a.2 a.1 0 ss (0,false)).1)]) rows n [.box (Ka (row.set x (sets.length:Int)))]⟩):=by
 have e1:decide ((x:Int) < 256)=true:=Da (by omega)
 have hlen:(sets.map ri).length=sets.length:=by simp
 have hq:Fa (i:Int) sets.length:=by unfold Fa;omega
 have hq2:Fa (x:Int) 256:=by unfold Fa;omega
 have t1:((i:Int)).toNat=i:=by simp
 have t3:((x:Int)).toNat=x:=by simp
 have t2:=Ua (i:=x) (n:=256) hx (by unfold maxLen;omega)
 have hbeh:=Kq (Ga Ea 6) (Mj R0 R1 S nl sets rows n [.box (Ka row)]) 3 _ S ss x a.2 a.1 rfl hS hw had Aa hsz
 rw[hb2] at hbeh
 have hle:x+1≤(Ka row).length:=by rw[fb];omega
 have hz:(((0:Nat)+x+1)≤(Ka row).length)=True:=by simp only[eq_iff_iff,iff_true];omega
 simp only[Mj,List.cons_append,List.nil_append] at hbeh
 have e4:=ni hb
 have t5:IntKind.i64.wrap ((a.1:Int)+1)=((a.1+1:Nat):Int):=Ba (by omega)
 have hmet:=lO (Ga Ea 6) R0 R1 S nl sets rows n (.box (Ka row)::dF ss) (a.1+1,(wh x a.2 a.1 0 ss (0,false)).1) hk hl
 simp only[Mj,ri] at hmet ⊢
 generalize (wh x a.2 a.1 0 ss (0,false)).1=left at *
 simp -implicitDefEqProofs only[SP,SA,SQ,sevalprocAttr,Mb,fa,La,Ea,e1,hlen,eq_true hq,eq_true hq2,t1,t2,t3,ha,hbeh,hmet,t5,e4,hz,eq_true hle,gj,qa,ga,za,uj,Cm,Fm,Ia,xq,AV.cut,Db,h0,h1,hr,xm,Mj]
end
section
variable (R0 R1:ba) (S:PV) (nl:Bool) (sets:List Al) (rows:ba) (n:Nat) (row:List Int) (ss:List dc) (i x:Nat) (a:Al)
 (hrow:row.length=256) (hx:x < 256)
 (hi:i < sets.length) (ha:(sets.map ri)[i]? =some (.agg [i64 a.1,u32 a.2])) (had:a.1 < 4611686018427387904)
 (hS:Di 2 S (ss.map Le)) (hw:ss.length≤maxLen)
 (Aa:∀ i s,ss[i]? =some s→Pz a.2 i=true→a.1 < s.parts.length) (hsz:∀ s∈ss,∀ l∈s.parts,l.length * 16≤140737488355328)
include hrow hx hi ha had hS hw Aa hsz
theorem MP (hb:(wh x a.2 a.1 0 ss (0,false)).1≠0) (hb2:(wh x a.2 a.1 0 ss (0,false)).2=false) (hk:dm (a.1+1,(wh x a.2 a.1 0 ss (0,false)).1) sets 0=none) (hl:sets.length=64):
 Bu 2 (.pv (.bool false)) R0 (Mb (Ga Ea 7) [0,3,4,30] La 7 ⟨xm i x,Mj R0 R1 S nl sets rows n [.box (Ka row)]⟩):=by
 have e1:decide ((x:Int) < 256)=true:=Da (by omega)
 have hlen:(sets.map ri).length=sets.length:=by simp
 have hq:Fa (i:Int) sets.length:=by unfold Fa;omega
 have hq2:Fa (x:Int) 256:=by unfold Fa;omega
 have t1:((i:Int)).toNat=i:=by simp
 have t3:((x:Int)).toNat=x:=by simp
 have t2:=Ua (i:=x) (n:=256) hx (by unfold maxLen;omega)
 have hbeh:=Kq (Ga Ea 6) (Mj R0 R1 S nl sets rows n [.box (Ka row)]) 3 _ S ss x a.2 a.1 rfl hS hw had Aa hsz
 rw[hb2] at hbeh
 have hle:x+1≤(Ka row).length:=by rw[fb];omega
 have hz:(((0:Nat)+x+1)≤(Ka row).length)=True:=by simp only[eq_iff_iff,iff_true];omega
 simp only[Mj,List.cons_append,List.nil_append] at hbeh
 have e4:=ni hb
 have t5:IntKind.i64.wrap ((a.1:Int)+1)=((a.1+1:Nat):Int):=Ba (by omega)
 have hmet:=KT (Ga Ea 6) R0 R1 S nl sets rows n (.box (Ka row)::dF ss) (a.1+1,(wh x a.2 a.1 0 ss (0,false)).1) hk hl
 simp only[Mj,ri] at hmet
 generalize (wh x a.2 a.1 0 ss (0,false)).1=left at *
 simp -implicitDefEqProofs only[SP,SA,SQ,sevalprocAttr,Mb,fa,La,Ea,e1,hlen,eq_true hq,eq_true hq2,t1,t2,t3,ha,hbeh,hmet,t5,e4,fD,hz,eq_true hle,gj,qa,xm,Mj]
end
end Go.AM.B1
namespace Go.AM.B1
open Go.AM
def Mk (ss:List dc) (a:Al):List Nat→List Al×List Int→Option (List Al×List Int)
 | [],r=>some r
 |x::xs,r=>match Rg ss a x r.1 with
  |some p=>Mk ss a xs (p.1,r.2.set x p.2)
  |none=>none
theorem Cs {ss:List dc} {a:Al} {x:Nat} {xs:List Nat} {r:List Al×List Int} (h:Rg ss a x r.1=none):Mk ss a (x::xs) r=none:=by
 rw[Mk,h]
theorem Ht {ss:List dc} {a:Al} {x:Nat} {xs:List Nat} {r:List Al×List Int} {p:List Al×Int} (h:Rg ss a x r.1=some p):Mk ss a (x::xs) r=Mk ss a xs (p.1,r.2.set x p.2):=by
 rw[Mk,h]
theorem Yp {n x:Nat} (h:x < n):(List.range n).drop x=x::(List.range n).drop (x+1):=by
 rw[List.drop_eq_getElem_cons (by simpa using h)];simp
theorem UB {ss:List dc} {a:Al} {x:Int} {sets:List Al} {r:List Al×Int} (h:Rg ss a x sets=some r) (hl:sets.length≤64):r.1.length≤64∧∃ t,r.1=sets++t:=by
 unfold Rg at h
 split at h
 ·injection h with h;subst h;exact⟨hl,[],by simp⟩
 ·split at h
  ·injection h with h;subst h;exact⟨hl,[],by simp⟩
  ·split at h
   ·injection h with h;subst h;exact⟨hl,[],by simp⟩
   ·split at h
    ·injection h with h;subst h;exact⟨by simp;omega,_,rfl⟩
    ·cases h
section
variable (R0 R1:ba) (S:PV) (rows:ba) (n:Nat) (ss:List dc)
 (h0:ma 7 R0=some R0) (h1:ma 7 R1=some R1) (hr:ma 7 rows=some rows)
 (hS:Di 2 S (ss.map Le)) (hw:ss.length≤maxLen)
 (hsz:∀ s∈ss,∀ l∈s.parts,l.length * 16≤140737488355328)
include h0 h1 hr hS hw hsz
theorem kM {nl:Bool} {sets:List Al} {row:List Int} {i x:Nat} {a:Al} (hrow:row.length=256) (hx:x < 256) (ha:sets[i]? =some a) (had:a.1 < 4611686018427387904) (hl:sets.length≤64)
 (Aa:∀ i s,ss[i]? =some s→Pz a.2 i=true→a.1 < s.parts.length):
 (∀ r,Rg ss a x sets=some r→∃ nl',Mb (Ga Ea 7) [0,3,4,30] La 7 ⟨xm i x,Mj R0 R1 S nl sets rows n [.box (Ka row)]⟩=
  some (.norm,⟨xm i (x+1:Nat),Mj R0 R1 S nl' r.1 rows n [.box (Ka (row.set x r.2))]⟩))∧
 (Rg ss a x sets=none→Bu 2 (.pv (.bool false)) R0 (Mb (Ga Ea 7) [0,3,4,30] La 7 ⟨xm i x,Mj R0 R1 S nl sets rows n [.box (Ka row)]⟩)):=by
 have hi:i < sets.length:=(List.getElem?_eq_some_iff.1 ha).1
 have ha':(sets.map ri)[i]? =some (.agg [i64 a.1,u32 a.2]):=by rw[List.getElem?_map,ha];rfl
 by_cases hb:(wh x a.2 a.1 0 ss (0,false)).1=0
 ·have hst:=(show Rg ss a x sets=some (sets,-2) by unfold Rg;rw[if_pos hb])
  rw[hst]
  exact⟨fun r e=>by injection e with e;subst e;exact⟨nl,VQ R0 R1 S nl sets rows n row ss i x a h0 h1 hr hrow hx hi ha' had hS hw Aa hsz hb⟩,fun e=>by cases e⟩
 by_cases hb2:(wh x a.2 a.1 0 ss (0,false)).2=true
 ·have hst:=(show Rg ss a x sets=some (sets,-1) by unfold Rg;rw[if_neg hb,if_pos hb2])
  rw[hst]
  exact⟨fun r e=>by injection e with e;subst e;exact⟨nl,XS R0 R1 S nl sets rows n row ss i x a h0 h1 hr hrow hx hi ha' had hS hw Aa hsz hb hb2⟩,fun e=>by cases e⟩
 have hb3:(wh x a.2 a.1 0 ss (0,false)).2=false:=by simpa using hb2
 cases hk:dm (a.1+1,(wh x a.2 a.1 0 ss (0,false)).1) sets 0 with
 |some k=>
  have hst:=(show Rg ss a x sets=some (sets,(k:Int)) by unfold Rg;rw[if_neg hb,if_neg hb2,hk])
  rw[hst]
  exact⟨fun r e=>by injection e with e;subst e;exact⟨nl,QS R0 R1 S nl sets rows n row ss i x a h0 h1 hr hrow hx hi ha' had hS hw Aa hsz hb hb3 hk⟩,fun e=>by cases e⟩
 |none=>
  by_cases hlt:sets.length < 64
  ·have hst:=(show Rg ss a x sets=some (sets++[(a.1+1,(wh x a.2 a.1 0 ss (0,false)).1)],(sets.length:Int)) by unfold Rg;rw[if_neg hb,if_neg hb2,hk];simp only[if_pos hlt])
   rw[hst]
   exact⟨fun r e=>by injection e with e;subst e;exact⟨false,DR R0 R1 S nl sets rows n row ss i x a h0 h1 hr hrow hx hi ha' had hS hw Aa hsz hb hb3 hk hlt⟩,fun e=>by cases e⟩
  ·have hst:=(show Rg ss a x sets=none by unfold Rg;rw[if_neg hb,if_neg hb2,hk];simp only[if_neg hlt])
   rw[hst]
   exact⟨fun r e=>(by cases e),fun _=>MP R0 R1 S nl sets rows n row ss i x a hrow hx hi ha' had hS hw Aa hsz hb hb3 hk (by omega)⟩
theorem NT {nl:Bool} {sets:List Al} {row:List Int} {i:Nat} {a:Al} (hrow:row.length=256) (ha:sets[i]? =some a) (had:a.1 < 4611686018427387904) (hl:sets.length≤64)
 (Aa:∀ i s,ss[i]? =some s→Pz a.2 i=true→a.1 < s.parts.length):
 (∀ r,Mk ss a (List.range 256) (sets,row)=some r→∃ nl',gb (fa (ta (Ga Ea 7) La) (ga 7 [0,3,4,30])) oa ⟨xm i 0,Mj R0 R1 S nl sets rows n [.box (Ka row)]⟩=
  some (.exit 2,⟨(xm i 256).set 31 (.pv (.bool false)),Mj R0 R1 S nl' r.1 rows n [.box (Ka r.2)]⟩)∧r.1.length≤64∧r.2.length=256∧∃ t,r.1=sets++t)∧
 (Mk ss a (List.range 256) (sets,row)=none→Bu 2 (.pv (.bool false)) R0 (gb (fa (ta (Ga Ea 7) La) (ga 7 [0,3,4,30])) oa ⟨xm i 0,Mj R0 R1 S nl sets rows n [.box (Ka row)]⟩)):=by
 generalize hxs:List.range 256=xs
 have key:=Wj (g:=Mb (Ga Ea 7) [0,3,4,30] La 7)
  (fun x t=>∃ nl' sets' row',t=⟨xm i x,Mj R0 R1 S nl' sets' rows n [.box (Ka row')]⟩∧Mk ss a xs (sets,row)=Mk ss a (xs.drop x) (sets',row')∧sets'.length≤64∧row'.length=256∧∃ t,sets'=sets++t)
  (fun ex t=>(∃ r,ex= .exit 2∧Mk ss a xs (sets,row)=some r∧∃ nl',t=⟨(xm i 256).set 31 (.pv (.bool false)),Mj R0 R1 S nl' r.1 rows n [.box (Ka r.2)]⟩∧r.1.length≤64∧r.2.length=256∧∃ t,r.1=sets++t)∨
   (ex= .ret∧Mk ss a xs (sets,row)=none∧t.env.get 2= .pv (.bool false)∧t.H[0]? =some R0))
  oa 256 0 ⟨xm i (0:Nat),Mj R0 R1 S nl sets rows n [.box (Ka row)]⟩ (by unfold oa;omega) (by omega) ⟨nl,sets,row,rfl,rfl,hl,hrow,[],by simp⟩ ?_ ?_
 ·obtain⟨ex,t,h,_,hq⟩:=key
  have h':gb (fa (ta (Ga Ea 7) La) (ga 7 [0,3,4,30])) oa ⟨xm i 0,Mj R0 R1 S nl sets rows n [.box (Ka row)]⟩=some (ex,t):=h
  rw[h']
  rcases hq with⟨r,rfl,hr',nl',rfl,q1,q2,q3⟩ | ⟨rfl,hr',hg,hg2⟩
  ·refine⟨fun r2 e=> ?_,fun e=> ?_⟩
   ·rw[hr'] at e;injection e with e;subst e;exact⟨nl',rfl,q1,q2,q3⟩
   ·rw[hr'] at e;cases e
  ·refine⟨fun r2 e=> ?_,fun _=> .mk _ hg hg2⟩
   rw[hr'] at e;cases e
 ·rintro x hx t ⟨nl',sets',row',rfl,hrs,hl',hrow',tl,hts⟩
  have ha':sets'[i]? =some a:=by
   rw[hts,List.getElem?_append_left (List.getElem?_eq_some_iff.1 ha).1];exact ha
  have hd:=Yp hx
  rw[hxs] at hd
  have hsr:=kM R0 R1 S rows n ss h0 h1 hr hS hw hsz (nl:=nl') hrow' hx ha' had hl' Aa
  rw[hd] at hrs
  cases hst:Rg ss a x sets' with
  |none=>
   rw[Cs hst] at hrs
   obtain⟨t,g1,g2,g3⟩:=mr (hsr.2 hst)
   exact .inr ⟨.ret,t,g1,rfl,.inr ⟨rfl,hrs,g2,g3⟩⟩
  |some r=>
   rw[Ht hst] at hrs
   obtain⟨nl2,g1⟩:=hsr.1 r hst
   obtain⟨k1,t2,k2⟩:=UB hst hl'
   exact .inl ⟨_,g1,nl2,r.1,row'.set x r.2,rfl,hrs,k1,by simpa using hrow',tl++t2,by rw[k2,hts,List.append_assoc]⟩
 ·rintro t ⟨nl',sets',row',rfl,hrs,hl',hrow',tl,hts⟩
  rw[List.drop_eq_nil_of_le (by rw[← hxs,List.length_range];exact Nat.le_refl _)] at hrs
  refine⟨.exit 2,_,?_,rfl,.inl ⟨(sets',row'),rfl,hrs,nl',rfl,hl',hrow',tl,hts⟩⟩
  have e1:decide (((256:Nat):Int) < 256)=false:=by decide
  simp -implicitDefEqProofs only[SP,SA,SQ,sevalprocAttr,Mb,fa,La,e1,xm,Mj]
end
end Go.AM.B1
namespace Go.AM.B1
open Go.AM
def Zg (rs:List (List Int)):ba:= .seq 256 true (rs.flatMap Ka) 0 rs.isEmpty
theorem Ys (l:List Int):Ka l=(l.map i64).map .pv:=by simp[Ka]
theorem Rt (l:List Int):nf (Ka l)=some (l.map i64):=by
 rw[Ys]
 induction l with
 |nil=>rfl
 |cons a l ih=>simp only[List.map_cons,nf,ih,Option.map_some]
theorem bE (l:List Int):(Ka l).all AV.one=true:=by
 induction l with
 |nil=>rfl
 |cons a l ih=>simp only[Ka,List.map_cons,List.all_cons,AV.one,Bool.true_and] at ih ⊢;exact ih
theorem EW:List.map AV.pv (List.replicate 256 (PV.int .i64 0))=Ka (List.replicate 256 0):=by
 simp only[Ka,List.map_replicate]
theorem Cy {α:Type}:∀ (vs cs pre:List α),cs.length=vs.length→na (pre++cs) pre.length vs=pre++vs
 | [],cs,pre,h=>by simp at h;subst h;rfl
 |v::vs,c::cs,pre,h=>by
  rw[na]
  have h1:(pre++c::cs).set pre.length v=(pre++[v])++cs:=by
   rw[List.set_append_right _ _ (Nat.le_refl _)];simp
  rw[h1]
  have:=Cy vs cs (pre++[v]) (by simpa using h)
  simp only[List.length_append,List.length_cons,List.length_nil,Nat.zero_add] at this
  rw[this];simp
 |_::_,[],_,h=>by simp at h
theorem Vv (n d:Nat) (rs:List (List Int)):(rs.flatMap Ka).all (AV.Be n d)=true:=by
 rw[List.all_eq_true]
 intro v hv
 rw[List.mem_flatMap] at hv
 obtain⟨r,_,hv⟩:=hv
 simp only[Ka,List.mem_map] at hv
 obtain⟨x,_,rfl⟩:=hv
 cases d <;> rfl
theorem vE:∀ {rs:List (List Int)},(∀ r∈rs,r.length=256)→(rs.flatMap Ka).length=rs.length * 256
 | [],_=>rfl
 |r::rs,h=>by
  have:=vE (rs:=rs) (fun x hx=>h x (by simp[hx]))
  simp only[List.flatMap_cons,List.length_append,fb,h r (by simp),this,List.length_cons]
  omega
abbrev RA (i:Int):Tr:=(Tr.lf.set 3 (.pv (i64 i))).set 0 (.ptr 3 0)
section
variable (R0 R1:ba) (S:PV) (nl:Bool) (sets:List Al) (rs:List (List Int)) (ss:List dc) (i:Nat)
 (h0:ma 7 R0=some R0) (h1:ma 7 R1=some R1) (g0:ma 6 R0=some R0) (g1:ma 6 R1=some R1)
 (hi:i < sets.length) (hl:sets.length≤64) (hrl:rs.length≤64) (hrr:∀ r∈rs,r.length=256)
include h0 h1 g0 g1 hi hl hrl hrr
theorem IQ (nl':Bool) (sets':List Al) (row:List Int) (hrow:row.length=256)
 (hrowL:gb (fa (ta (Ga Ea 7) La) (ga 7 [0,3,4,30])) oa ⟨xm i 0,Mj R0 R1 S nl sets (Zg rs) rs.length [.box (Ka (List.replicate 256 0))]⟩=
  some (.exit 2,⟨(xm i 256).set 31 (.pv (.bool false)),Mj R0 R1 S nl' sets' (Zg rs) rs.length [.box (Ka row)]⟩)):
 Mb (Ga Ea 7) [0,3] qb 6 ⟨RA i,Mj R0 R1 S nl sets (Zg rs) rs.length []⟩=
  some (.norm,⟨RA (i+1:Nat),Mj R0 R1 S nl' sets' (Zg (rs++[row])) (rs.length+1) []⟩):=by
 have hlen:(sets.map ri).length=sets.length:=by simp
 have e1:decide ((i:Int) < (sets.length:Int))=true:=Da (by omega)
 have t2:=Ua (i:=i) (n:=64) (by omega) (by unfold maxLen;omega)
 have p0:((Ka row).length=256)=True:=by rw[fb,hrow];exact eq_self _
 have p1:(256≤(Ka row).length)=True:=by rw[fb,hrow];exact eq_true (Nat.le_refl _)
 have p2:List.take 256 (Ka row)=Ka row:=List.take_of_length_le (by rw[fb,hrow];exact Nat.le_refl _)
 have p3:=Rt row
 have p4:((row.map i64).length=256)=True:=by rw[List.length_map,hrow];exact eq_self _
 have p5:(256≤(Ka (List.replicate 256 0)).length)=True:=by rw[fb,List.length_replicate];exact eq_true (Nat.le_refl _)
 have p6:na (Ka (List.replicate 256 0)) 0 (Ka row)=Ka row:=by
  have:=Cy (Ka row) (Ka (List.replicate 256 0)) [] (by rw[fb,fb,hrow,List.length_replicate])
  rw[List.nil_append,List.nil_append] at this;exact this
 have p7:=bE row
 have p8:List.take 256 (row.map i64)=row.map i64:=List.take_of_length_le (by rw[List.length_map,hrow];exact Nat.le_refl _)
 have p9:(row.map i64).map AV.pv=Ka row:=(Ys row).symm
 have q1:(rs.length * 256=(rs.flatMap Ka).length)=True:=by rw[vE hrr];exact eq_self _
 have q2:pb (rs.length+1) 2048:=by unfold pb;omega
 have q3:(rs++[row]).flatMap Ka=rs.flatMap Ka++Ka row:=by rw[List.flatMap_append,List.flatMap_cons,List.flatMap_nil,List.append_nil]
 have q4:(rs++[row]).isEmpty=false:=by cases rs <;> rfl
 have q5:=Vv 7 6 rs
 have q6:=Vv 6 6 (rs++[row])
 rw[q3] at q6
 simp only[xm,Mj,Zg,Int.cast_ofNat_Int] at hrowL
 unfold Mj Zg
 rw[q3,q4]
 have hz2:=EW
 generalize hz:List.replicate 256 (0:Int)=zs at *
 simp -implicitDefEqProofs only[SP,SA,SQ,sevalprocAttr,-List.reduceReplicate,Mb,fa,qb,hlen,e1,xb,ga,za,uj,Cm,Fm,Qs,Ia,xq,AV.cut,Db,h0,h1,g0,g1,RA,hz2,q5]
 rw[hrowL]
 simp -implicitDefEqProofs only[SP,SA,SQ,sevalprocAttr,-List.reduceReplicate,List.append_nil,hlen,t2,p0,p1,p2,p3,p4,p5,p6,p7,p8,p9,q1,eq_true q2,q5,q6,Zi,AV.cF,AV.Up,hz2,Bj,ga,za,uj,Cm,Fm,Qs,Ia,xq,AV.cut,Db,h0,h1,g0,g1]
end
end Go.AM.B1
namespace Go.AM.B1
open Go.AM
theorem wrap_u32 {n:Nat} (h:n < 4294967296):IntKind.u32.wrap (n:Int)=(n:Int):=by
 have e:IntKind.u32.wrap (n:Int)=(n:Int) % 4294967296:=by
  simp[IntKind.signed,IntKind.wrap,IntKind.bits]
 rw[e];omega
theorem ER {a b:Nat} (ha:a < 4294967296) (hb:b < 4294967296):(BitVec.ofInt IntKind.u32.bits (a:Int) &&& BitVec.ofInt IntKind.u32.bits (b:Int)).toNat=a &&& b:=by
 show (BitVec.ofInt 32 (a:Int) &&& BitVec.ofInt 32 (b:Int)).toNat=_
 rw[BitVec.toNat_and,BitVec.ofInt_natCast,BitVec.ofInt_natCast,BitVec.toNat_ofNat,BitVec.toNat_ofNat,Nat.mod_eq_of_lt ha,Nat.mod_eq_of_lt hb]
theorem iV {a b:Nat} (ha:a < 4294967296) (hb:b < 4294967296):(BitVec.ofInt IntKind.u32.bits (a:Int) ||| BitVec.ofInt IntKind.u32.bits (b:Int)).toNat=a ||| b:=by
 show (BitVec.ofInt 32 (a:Int) ||| BitVec.ofInt 32 (b:Int)).toNat=_
 rw[BitVec.toNat_or,BitVec.ofInt_natCast,BitVec.ofInt_natCast,BitVec.toNat_ofNat,BitVec.toNat_ofNat,Nat.mod_eq_of_lt ha,Nat.mod_eq_of_lt hb]
theorem gK {n i:Nat} (hn:n < 4294967296) (hi:i < 32):Pz (n:Int) i=n.testBit i:=by
 have hm:min i IntKind.u32.bits=i:=by show min i 32=i;omega
 have hf:(n:Int).fdiv (2 ^ i)=((n / 2 ^ i:Nat):Int):=by
  rw[show ((2:Int) ^ i)=((2 ^ i:Nat):Int) by push_cast;rfl]
  exact (Int.ofNat_fdiv n (2 ^ i)).symm
 have hle:n / 2 ^ i < 4294967296:=Nat.lt_of_le_of_lt (Nat.div_le_self _ _) hn
 have e:(BitVec.ofInt IntKind.u32.bits ((n / 2 ^ i:Nat):Int) &&& BitVec.ofInt IntKind.u32.bits 1).toNat=n / 2 ^ i % 2:=by
  have:=ER hle (show 1 < 4294967296 by decide)
  rw[Nat.and_one_is_mod] at this
  exact this
 unfold Pz
 rw[hm,hf,e,wrap_u32 (by omega),Nat.testBit_eq_decide_div_mod_eq]
 rcases Nat.mod_two_eq_zero_or_one (n / 2 ^ i) with h | h <;> rw[h] <;> rfl
theorem lW {n i:Nat} (hn:n < 4294967296) (hi:i < 32):PX (n:Int) i=((n ||| 2 ^ i:Nat):Int):=by
 have hm:min i IntKind.u32.bits=i:=by show min i 32=i;omega
 have hp:2 ^ i < 4294967296:=by
  have:(2:Nat) ^ i < 2 ^ 32:=Nat.pow_lt_pow_right (by decide) hi
  simpa using this
 have h2:IntKind.u32.wrap (1 * 2 ^ i)=((2 ^ i:Nat):Int):=by
  rw[Int.one_mul,show ((2:Int) ^ i)=((2 ^ i:Nat):Int) by push_cast;rfl,wrap_u32 hp]
 unfold PX
 rw[hm,h2,iV hn hp,wrap_u32]
 exact Nat.or_lt_two_pow (n:=32) hn hp
def It (x:Int) (bits d:Nat):Nat→List dc→Nat×Bool→Nat×Bool
 |_,[],acc=>acc
 |i,s::r,acc=>It x bits d (i+1) r (if bits.testBit i&&Nt s d x then (acc.1 ||| 2 ^ i,acc.2||(s.parts.length==d+1)) else acc)
theorem lI {x:Int} {bits d:Nat}:∀ (ss:List dc) (i:Nat) (acc:Nat×Bool),i+ss.length≤32→acc.1 < 4294967296→(It x bits d i ss acc).1 < 4294967296
 | [],i,acc,_,h=>h
 |s::r,i,acc,hl,h=>by
  rw[It]
  refine lI r (i+1) _ (by simp only[List.length_cons] at hl;omega) ?_
  split
  ·refine Nat.or_lt_two_pow (n:=32) h ?_
   exact Nat.pow_lt_pow_right (by decide) (by simp only[List.length_cons] at hl;omega)
  ·exact h
theorem SL {x:Int} {bits d:Nat} (hb:bits < 4294967296):∀ (ss:List dc) (i:Nat) (acc:Nat×Bool),i+ss.length≤32→acc.1 < 4294967296→
 wh x (bits:Int) d i ss ((acc.1:Int),acc.2)=(((It x bits d i ss acc).1:Int),(It x bits d i ss acc).2)
 | [],i,acc,_,h=>rfl
 |s::r,i,acc,hl,h=>by
  have hi:i < 32:=by simp only[List.length_cons] at hl;omega
  rw[wh,It,gK hb hi,lW h hi]
  have h2:(acc.1 ||| 2 ^ i) < 4294967296:=Nat.or_lt_two_pow (n:=32) h (Nat.pow_lt_pow_right (by decide) hi)
  have ih:=SL (x:=x) (d:=d) hb r (i+1) (if bits.testBit i&&Nt s d x then (acc.1 ||| 2 ^ i,acc.2||(s.parts.length==d+1)) else acc)
   (by simp only[List.length_cons] at hl;omega) (by split;exact h2;exact h)
  rw[← ih]
  cases bits.testBit i&&Nt s d x <;> rfl
theorem LA {x:Int} {bits d:Nat}:∀ (ss:List dc) (i:Nat) (acc:Nat×Bool) (j:Nat),
 (It x bits d i ss acc).1.testBit j=(acc.1.testBit j||(decide (i≤j)&&(match ss[j - i]? with | some s=>bits.testBit j&&Nt s d x | none=>false)))
 | [],i,acc,j=>by simp[It]
 |s::r,i,acc,j=>by
  rw[It,LA r (i+1)]
  by_cases hij:i=j
  ·subst hij
   simp only[Nat.sub_self,List.getElem?_cons_zero,Nat.le_refl,decide_true,Bool.true_and]
   have:decide (i+1≤i)=false:=by simp
   rw[this,Bool.false_and,Bool.or_false]
   cases h:(bits.testBit i&&Nt s d x) with
   |true=>simp[Nat.testBit_or,Nat.testBit_two_pow_self]
   |false=>simp
  ·have e1:(if (bits.testBit i&&Nt s d x)=true then (acc.1 ||| 2 ^ i,acc.2||s.parts.length==d+1) else acc).1.testBit j=acc.1.testBit j:=by
    split
    ·simp only[Nat.testBit_or,Nat.testBit_two_pow_of_ne hij,Bool.or_false]
    ·rfl
   rw[e1]
   by_cases hlt:i+1≤j
   ·have e2:j - i=(j - (i+1))+1:=by omega
    have e3:decide (i≤j)=decide (i+1≤j):=by simp;omega
    rw[e2,e3,List.getElem?_cons_succ]
   ·have e3:decide (i≤j)=false:=by simp;omega
    have e4:decide (i+1≤j)=false:=by simp;omega
    rw[e3,e4];rfl
theorem fB {x:Int} {bits d:Nat}:∀ (ss:List dc) (i:Nat) (acc:Nat×Bool),
 (It x bits d i ss acc).2=(acc.2||(ss.zipIdx i).any fun p=>bits.testBit p.2&&Nt p.1 d x&&(p.1.parts.length==d+1))
 | [],i,acc=>by simp[It]
 |s::r,i,acc=>by
  rw[It,fB r (i+1),List.zipIdx_cons,List.any_cons]
  cases h:(bits.testBit i&&Nt s d x) with
  |true=>simp[Bool.or_assoc]
  |false=>simp
end Go.AM.B1
