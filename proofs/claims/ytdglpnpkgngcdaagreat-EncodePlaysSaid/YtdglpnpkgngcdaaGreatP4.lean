/- What functions of the program compute. -/
import Derived.Test.YtdglpnpkgngcdaaGreatP3
import Derived.Test.YtdglpnpkgngcdaaGreatP2
set_option linter.unusedVariables false
set_option linter.unusedSimpArgs false
namespace Go.AM.B1
open Go.AM Go.AM.So
def Hh:List (Int×Int)→List (Int×Int)→List (Int×Int)
 |out,[]=>out
 |out,r::rest=>match out.getLast? with
  |some q=>if r.1≤q.2+1 then Hh (out.dropLast++[(q.1,if r.2 > q.2 then r.2 else q.2)]) rest else Hh (out++[r]) rest
  |none=>Hh (out++[r]) rest
theorem zG (r:Int×Int) (rest:List (Int×Int)):Hh [] (r::rest)=Hh [r] rest:=rfl
theorem eF {out rest:List (Int×Int)} {q r:Int×Int} (h:r.1≤q.2+1):Hh (out++[q]) (r::rest)=Hh (out++[(q.1,if r.2 > q.2 then r.2 else q.2)]) rest:=by
 rw[Hh,List.getLast?_append];simp[h]
theorem gG {out rest:List (Int×Int)} {q r:Int×Int} (h:¬r.1≤q.2+1):Hh (out++[q]) (r::rest)=Hh (out++[q]++[r]) rest:=by
 rw[Hh,List.getLast?_append];simp[h]
section
variable {A:List ba} {id fl:Nat} {nl:Bool} {out:List (Int×Int)} {q:Int×Int} (hg:A[id]? =some (Ad (out++[q]) fl nl)) (hf:fl≤(out.length+1) * 2)
include hg hf
theorem IM:wa A 2 (.own id (out.length+1)) (out.length:Int)=some (.Mc id ((out.length+1) * 2) (out.length * 2)):=by
 have hl:=Li (out++[q])
 rw[List.length_append,List.length_cons,List.length_nil] at hl
 simp only[wa,hg,Ad,Vg]
 rw[if_pos (by refine⟨trivial,?_,?_⟩ <;> first | (unfold Ga;omega) | (unfold jh;omega))]
 simp
omit hf in
theorem qL:place A 1 (.Mc id ((out.length+1) * 2) (out.length * 2))=some (.Mc id ((out.length+1) * 2) (out.length * 2+1)):=by
 have hl:=Li (out++[q])
 rw[List.length_append,List.length_cons,List.length_nil] at hl
 simp only[place,hg,Ad,Vg,hl,if_true]
omit hf in
theorem cQ:ta A false 1 (.Mc id ((out.length+1) * 2) (out.length * 2+1))=some (.pv (i64 q.2)):=by
 have hl:=Li (out++[q])
 rw[List.length_append,List.length_cons,List.length_nil] at hl
 simp only[ta,hg,Ad,Vg,hl,if_true,Og,Bool.false_eq_true,if_false]
 have e:uh (yf (out++[q]))=uh (yf out)++[.pv (i64 q.1),.pv (i64 q.2)]:=by simp[uh,yf,nE]
 have hl2:=Li out
 rw[e,List.getElem?_append_right (by omega),hl2]
 have:out.length * 2+1 - out.length * 2=1:=by omega
 rw[this];rfl
omit hf in
theorem OL (v:Int):Ea A 1 (.Mc id ((out.length+1) * 2) (out.length * 2+1)) (.pv (i64 v))=some (A.set id (Ad (out++[(q.1,v)]) ((out.length+1) * 2) nl)):=by
 have hl:=Li (out++[q])
 rw[List.length_append,List.length_cons,List.length_nil] at hl
 have e:∀ q:Int×Int,uh (yf (out++[q]))=uh (yf out)++[.pv (i64 q.1),.pv (i64 q.2)]:=fun q=>by simp[uh,yf,nE]
 have hl2:=Li out
 have hs:ga (uh (yf (out++[q]))) (out.length * 2+1) [.pv (i64 v)]=uh (yf (out++[(q.1,v)])):=by
  rw[e,e,ga,ga,List.set_append_right _ _ (by omega),hl2]
  have:out.length * 2+1 - out.length * 2=1:=by omega
  rw[this];rfl
 have hc:(AV.pv (i64 v)).cells=[.pv (i64 v)]:=rfl
 simp only[Ea,hg,Ad,Vg,hc]
 rw[if_pos ⟨rfl,rfl⟩,if_pos ⟨hl,by omega⟩,hs]
end
abbrev mC (id0 n i id1 m:Nat):Tr:=(((Tr.lf.set 11 (.pv (i64 i))).set 10 (.pv (i64 n))).set 9 (.own id0 n)).set 3 (.own id1 m)
def YM (l:List (Int×Int)):Prop:=∀ p∈l,-4611686018427387904≤p.2∧p.2≤4611686018427387904
theorem bU {a b:List (Int×Int)} (ha:YM a) (hb:YM b):YM (a++b):=by
 intro p hp
 rcases List.mem_append.1 hp with h | h
 ·exact ha p h
 ·exact hb p h
theorem VQ (call:Ta) (l:List (Int×Int)) (hl:YM l) {id0 fl0:Nat} {nl0:Bool} (H:List ba) (hH:He H) (hg0:H[id0]? =some (Ad l fl0 nl0)) (hf0:fl0≤l.length * 2) (hw:l.length≤1000000):
 Pd (fun r=>∃ E fl nl,r=(.exit 0,⟨E,H++[Ad (Hh [] l) fl nl]⟩)∧E.get 3= .own H.length (Hh [] l).length∧fl≤(Hh [] l).length * 2)
  (pb (ma (qa call oi) (na (H.length+1) [3,9,10,11])) pa ⟨mC id0 l.length 0 H.length 0,H++[Ad [] 0 true]⟩):=by
 have hp:=DN hg0 hf0 hH
 have hid:id0 < H.length:=hp.lt
 have hid1:id0 < H.length+1:=by omega
 have htk:H.length < H.length+1:=Nat.lt_succ_self _
 have hn:l.length=(yf l).size:=(zo l).symm
 have hcut:∀ a b c,Pa (oa (H.length+1)) (H++[Ad a b c])=some (H++[Ad a b c]):=fun a b c=>Yk fun o ho=>by
  rcases List.mem_append.1 ho with h | h
  ·exact hH _ (by omega) o h
  ·simp at h;subst h;exact Lq _ _ _ _
 refine ya (Mb (g:=ma (qa call oi) (na (H.length+1) [3,9,10,11]))
  (fun i t=>∃ out fl nl,t=⟨mC id0 l.length i H.length out.length,H++[Ad out fl nl]⟩∧fl≤out.length * 2∧YM out∧out.length≤i∧Hh [] l=Hh out (l.drop i))
  l.length (by unfold pa;omega) _ ⟨[],0,true,rfl,by omega,by intro p hp;simp at hp,by simp,rfl⟩ ?_ ?_) (fun r h=>h.2)
 ·rintro i t hi ⟨out,fl,nl,rfl,hfl,hsa,hle,hs⟩
  have hd:l.drop i=l[i]::l.drop (i+1):=List.drop_eq_getElem_cons hi
  rw[hd] at hs
  have hsp:=hl l[i] (List.getElem_mem hi)
  have e1:decide ((i:Int) < (l.length:Int))=true:=Fa (by omega)
  have t2:=eb hi (by unfold maxLen;omega)
  have a1:=TG [Ad out fl nl] hid (hp.Sd yx hn (i:=(i:Int)) rfl (by omega))
  have l1:=QI [Ad out fl nl] hid (hp.load yx hn (k:=i) (by omega))
  rw[yE hi] at l1
  have l1':ta (H++[Ad out fl nl]) true 2 (.Mc id0 (l.length * 2) (i * 2))=some (.pv (pr l[i])):=l1
  have s1:=My (H++[Ad out fl nl]) (.pv (i64 0)) (.pv (i64 0)) l[i]
  have l2:=CA (H++[Ad out fl nl]) l[i]
  have b0:∀ p:Int×Int,place (H++[Ad out fl nl]++[ba.box [.pv (i64 p.1),.pv (i64 p.2)]]) 0 (.ptr (H++[Ad out fl nl]).length 0)=some (.ptr (H++[Ad out fl nl]).length 0):=fun p=>by simp[place]
  have b1:∀ p:Int×Int,place (H++[Ad out fl nl]++[ba.box [.pv (i64 p.1),.pv (i64 p.2)]]) 1 (.ptr (H++[Ad out fl nl]).length 0)=some (.ptr (H++[Ad out fl nl]).length 1):=fun p=>by simp[place]
  have b2:∀ p:Int×Int,ta (H++[Ad out fl nl]++[ba.box [.pv (i64 p.1),.pv (i64 p.2)]]) false 1 (.ptr (H++[Ad out fl nl]).length 0)=some (.pv (i64 p.1)):=fun p=>by simp[ta,Og]
  have b3:∀ p:Int×Int,ta (H++[Ad out fl nl]++[ba.box [.pv (i64 p.1),.pv (i64 p.2)]]) false 1 (.ptr (H++[Ad out fl nl]).length 1)=some (.pv (i64 p.2)):=fun p=>by simp[ta,Og]
  have hap:=QB (A:=H++[Ad out fl nl]++[.box [.pv (i64 l[i].1),.pv (i64 l[i].2)]]) (id:=H.length) (n:=out.length) (h:= .own) (bytes:=16) (by rw[List.getElem?_append_left (by simp)];exact Ej _ _) rfl (by unfold ab;omega) l[i]
  rw[List.set_append_left _ _ (by simp),Jn] at hap
  have htk2:∀ (o o2:ba),(H++[o]++[o2]).take (H.length+1)=H++[o]:=fun o o2=>by
   rw[List.take_append_of_le_length (by simp),List.take_of_length_le (by simp)]
  have hlen:Tb (H++[Ad out fl nl]++[.box [.pv (i64 l[i].1),.pv (i64 l[i].2)]]) 0 (.own H.length out.length)=some out.length:=by
   rw[Bz,List.getElem?_append_left (by simp),Ej]
   have:=Li out
   simp only[Ad,Vg]
   rw[if_pos];unfold jh;omega
  rcases List.eq_nil_or_concat out with rfl | ⟨out,q,rfl⟩
  ·have hz:decide (((0:Nat):Int) > 0)=false:=by decide
   rw[zG] at hs
   rw[List.length_nil] at hap hlen
   rw[Nat.zero_add,List.nil_append] at hap
   generalize l[i]=p at *
   generalize hQ:LN _ _ i=Q
   simp -implicitDefEqProofs only[SP,WP,ga,sevalprocAttr,oi,e1,t2,a1,l1',s1,l2,hlen,hz,hap,htk2,hcut,hid1,htk,na,za,AV.cut,ua,mC]
   subst hQ
   exact⟨[p],fl,false,rfl,by simp at hfl ⊢;omega,by intro x hx;simp at hx;subst hx;exact hsp,by simp,hs⟩
  ·rw[List.concat_eq_append] at *
   have hql:=hsa q (by simp)
   have hol:(out++[q]).length=out.length+1:=by simp
   have hg1:(H++[Ad (out++[q]) fl nl]++[ba.box [.pv (i64 l[i].1),.pv (i64 l[i].2)]])[H.length]? =some (Ad (out++[q]) fl nl):=by rw[List.getElem?_append_left (by simp)];exact Ej _ _
   have c1:=IM hg1 (by rw[hol] at hfl;exact hfl)
   have c2:=qL hg1
   have c3:=cQ hg1
   have c4:=OL hg1 (if l[i].2 > q.2 then l[i].2 else q.2)
   rw[List.set_append_left _ _ (by simp),Jn] at c4
   have t3:IntKind.i64.wrap (((out.length+1:Nat):Int) - 1)=(out.length:Int):=by rw[Aa (by omega)];omega
   have t4:IntKind.i64.wrap (q.2+1)=q.2+1:=Aa (by omega)
   have hz:decide (((out.length+1:Nat):Int) > 0)=true:=Fa (by omega)
   rw[hol] at hlen hap hfl hle
   by_cases hj:l[i].1≤q.2+1
   ·have e2:decide (l[i].1≤q.2+1)=true:=Fa hj
    rw[eF hj] at hs
    generalize l[i]=p at *
    generalize hmx:(if p.2 > q.2 then p.2 else q.2)=mx at *
    generalize hQ:LN _ _ i=Q
    simp -implicitDefEqProofs only[SP,WP,ga,sevalprocAttr,oi,e1,t2,a1,l1',s1,l2,hol,hlen,hz,b0,b1,b2,b3,c1,c2,c3,c4,t3,t4,e2,Br,Fe,hmx,htk2,hcut,hid1,htk,na,za,AV.cut,ua,mC]
    subst hQ
    refine⟨out++[(q.1,mx)],(out.length+1) * 2,nl,by simp[mC,hol],by simp,?_,by simp;omega,hs⟩
    intro x hx
    rcases List.mem_append.1 hx with h | h
    ·exact hsa x (by simp[h])
    ·simp at h;subst h
     rw[← hmx];split <;> simp only <;> omega
   ·have e2:decide (l[i].1≤q.2+1)=false:=Ha hj
    rw[gG hj] at hs
    generalize l[i]=p at *
    generalize hQ:LN _ _ i=Q
    simp -implicitDefEqProofs only[SP,WP,ga,sevalprocAttr,oi,e1,t2,a1,l1',s1,l2,hol,hlen,hz,b0,b1,b2,b3,c1,c2,c3,t3,t4,e2,hap,htk2,hcut,hid1,htk,na,za,AV.cut,ua,mC]
    subst hQ
    refine⟨out++[q]++[p],fl,false,by simp[mC],by simp;omega,?_,by simp;omega,hs⟩
    exact bU hsa (by intro x hx;simp at hx;subst hx;exact hsp)
 ·rintro t ⟨out,fl,nl,rfl,hfl,hsa,hle,hs⟩
  rw[List.drop_length,Hh] at hs
  have e1:decide ((l.length:Int) < (l.length:Int))=false:=Ha (by omega)
  generalize hQ:(fun r:Ex×St=>r.1.stop=true∧_)=Q
  simp -implicitDefEqProofs only[SX,sevalprocAttr,oi,e1,mC]
  subst hQ
  rw[hs]
  exact⟨rfl,_,fl,nl,rfl,by simp[Tr.aa],hfl⟩
end Go.AM.B1
namespace Go.AM.B1
open Go.AM Go.AM.So
def Hy (last:Int) (a:List (Int×Int)):Int:=(a.getLast?.map (·.2)).getD last
theorem mJ (last:Int) (p:Int×Int) (a:List (Int×Int)):Hy last (p::a)=Hy p.2 a:=by
 cases a with
 |nil=>rfl
 |cons q a=>simp[Hy,List.getLast?_cons]
theorem iK (last:Int) (a:List (Int×Int)) (q:Int×Int):Hy last (a++[q])=q.2:=by simp[Hy]
theorem wu (top:Int):∀ (a b:List (Int×Int)) (last:Int),Na top last (a++b)=(Na top last a&&Na top (Hy last a) b)
 | [],b,last=>by simp[Na,Hy]
 |p::a,b,last=>by
  rw[List.cons_append,Na,Na,wu top a b p.2,mJ,Bool.and_assoc]
theorem dq {top last:Int} {p:Int×Int}:Na top last [p]=true↔0≤p.1∧p.1≤p.2∧p.2≤top∧last < p.1 - 1:=by
 simp only[Na,Bool.and_true,Bool.not_eq_true',Bool.or_eq_false_iff,decide_eq_false_iff_not]
 constructor <;> intro h <;> refine⟨?_,?_⟩ <;> omega
theorem Vt (x:Int) (a b:List (Int×Int)):Lj x (a++b)↔Lj x a∨Lj x b:=by
 unfold Lj
 simp only[List.mem_append]
 constructor
 ·rintro⟨p,h | h,hp⟩
  ·exact .inl ⟨p,h,hp⟩
  ·exact .inr ⟨p,h,hp⟩
 ·rintro (⟨p,h,hp⟩ | ⟨p,h,hp⟩)
  ·exact⟨p,.inl h,hp⟩
  ·exact⟨p,.inr h,hp⟩
theorem Io (x:Int) (p:Int×Int):Lj x [p]↔p.1≤x∧x≤p.2:=by
 unfold Lj;simp
theorem Mm (x:Int):¬Lj x []:=by unfold Lj;simp
theorem Zl (x:Int) (p:Int×Int) (l:List (Int×Int)):Lj x (p::l)↔(p.1≤x∧x≤p.2)∨Lj x l:=by
 unfold Lj;simp
theorem XA {top:Int}:∀ (rest out:List (Int×Int)) (q:Int×Int),Na top (-2) (out++[q])=true→(∀ p∈rest,0≤p.1∧p.1≤p.2∧p.2≤top∧q.1≤p.1)→rest.Pairwise (fun p q=>p.1≤q.1)→
 Na top (-2) (Hh (out++[q]) rest)=true∧(∀ x,Lj x (Hh (out++[q]) rest)↔Lj x (out++[q])∨Lj x rest)∧(Hh (out++[q]) rest).length≤out.length+1+rest.length
 | [],out,q,hv,_,_=>by
   rw[Hh]
   exact⟨hv,fun x=>by simp[Mm],by simp⟩
 |r::rest,out,q,hv,hr,hs=>by
  have h1:=hr r (by simp)
  rw[List.pairwise_cons] at hs
  have hv':=hv
  rw[wu,Bool.and_eq_true,dq] at hv'
  by_cases hj:r.1≤q.2+1
  ·rw[eF hj]
   have ih:=XA rest out (q.1,if r.2 > q.2 then r.2 else q.2) (by
    rw[wu,Bool.and_eq_true,dq]
    refine⟨hv'.1,hv'.2.1,?_,?_,hv'.2.2.2.2⟩ <;> simp only <;> split <;> omega) (fun p hp=>by
     have:=hr p (by simp[hp])
     exact⟨this.1,this.2.1,this.2.2.1,this.2.2.2⟩) hs.2
   refine⟨ih.1,fun x=> ?_,by have:=ih.2.2;simp only[List.length_cons];omega⟩
   rw[ih.2.1,Vt,Vt,Io,Io,Zl]
   have e:(q.1≤x∧x≤(if r.2 > q.2 then r.2 else q.2))↔(q.1≤x∧x≤q.2)∨(r.1≤x∧x≤r.2):=by
    split <;> constructor <;> intro h <;> omega
   simp only[e]
   constructor
   ·rintro ((h | h | h) | h)
    ·exact .inl (.inl h)
    ·exact .inl (.inr h)
    ·exact .inr (.inl h)
    ·exact .inr (.inr h)
   ·rintro ((h | h) | h | h)
    ·exact .inl (.inl h)
    ·exact .inl (.inr (.inl h))
    ·exact .inl (.inr (.inr h))
    ·exact .inr h
  ·rw[gG hj]
   have ih:=XA rest (out++[q]) r (by
    rw[wu,Bool.and_eq_true,dq,iK]
    exact⟨hv,h1.1,h1.2.1,h1.2.2.1,by omega⟩) (fun p hp=>by
     have h2:=hr p (by simp[hp])
     exact⟨h2.1,h2.2.1,h2.2.2.1,hs.1 p hp⟩) hs.2
   refine⟨ih.1,fun x=> ?_,by have:=ih.2.2;simp only[List.length_cons,List.length_append,List.length_nil] at this ⊢;omega⟩
   rw[ih.2.1,Vt,Io,Zl]
   constructor
   ·rintro ((h | h) | h)
    ·exact .inl h
    ·exact .inr (.inl h)
    ·exact .inr (.inr h)
   ·rintro (h | h | h)
    ·exact .inl (.inl h)
    ·exact .inl (.inr h)
    ·exact .inr h
theorem YP {top:Int} (l:List (Int×Int)) (hr:∀ p∈l,0≤p.1∧p.1≤p.2∧p.2≤top) (hs:l.Pairwise (fun p q=>p.1≤q.1)):
 Na top (-2) (Hh [] l)=true∧(∀ x,Lj x (Hh [] l)↔Lj x l)∧(Hh [] l).length≤l.length:=by
 cases l with
 |nil=>exact⟨rfl,fun x=>Iff.rfl,Nat.le_refl _⟩
 |cons r rest=>
  rw[zG]
  have h1:=hr r (by simp)
  rw[List.pairwise_cons] at hs
  have:=XA rest [] r (by rw[List.nil_append,dq];exact⟨h1.1,h1.2.1,h1.2.2,by omega⟩) (fun p hp=>by
   have h2:=hr p (by simp[hp])
   exact⟨h2.1,h2.2.1,h2.2.2,hs.1 p hp⟩) hs.2
  rw[List.nil_append] at this
  refine⟨this.1,fun x=> ?_,by have:=this.2.2;simp at this ⊢;omega⟩
  rw[this.2.1,Io,Zl]
theorem Vp {top:Int}:∀ {l:List (Int×Int)} {last:Int},Na top last l=true→∀ p∈l,0≤p.1∧p.1≤p.2∧p.2≤top
 |q::l,last,h,p,hp=>by
  obtain⟨h1,h2,h3,h4,h5⟩:=Vd h
  rcases List.mem_cons.1 hp with rfl | hp
  ·exact⟨by omega,by omega,by omega⟩
  ·exact Vp h5 p hp
theorem Ez:∀ (l:List (Int×Int)),uh (yf l)=Sf (l.flatMap fun p=>[p.1,p.2])
 | []=>rfl
 |p::l=>by
  have h:=Ez l
  simp only[uh,yf,Sf] at h ⊢
  simp[nE,h]
theorem pD:∀ (l:List (Int×Int)),Eh 2 l.length (l.flatMap fun p=>[p.1,p.2])=l.map fun p=>[p.1,p.2]
 | []=>rfl
 |p::l=>by
  rw[List.length_cons,Eh,List.flatMap_cons,List.map_cons,←pD l];rfl
theorem sR {l:List (Int×Int)} (hw:l.length < 50) {H:List ba} {id fl:Nat} {nl:Bool} (hg:H[id]? =some (Ad l fl nl)):
 ∃ l',l'.Perm l∧l'.Pairwise (fun p q=>p.1≤q.1)∧mz 2 0 23 [.own id l.length,.Sk 23 []] H=some (.pv (.ic []),H.set id (Ad l' (l.length * 2) nl)):=by
 obtain⟨s1,s2,s3⟩:=Mz 2 0 (l.map fun p=>[p.1,p.2]).toArray
 have hso:∀ F,qD (uh (yf l))=some F→Eh 2 l.length F=l.map fun p=>[p.1,p.2]:=by
  intro F hF
  rw[Ez,gv] at hF
  injection hF with hF
  rw[← hF,pD]
 generalize hE:Eo 2 0 (l.map fun p=>[p.1,p.2]).toArray=E at *
 have hEl:∃ l':List (Int×Int),E.toList=l'.map fun p=>[p.1,p.2]:=by
  have key:∀ (L:List (List Int)),(∀ r∈L,∃ p:Int×Int,r=[p.1,p.2])→∃ l':List (Int×Int),L=l'.map fun p=>[p.1,p.2]:=by
   intro L
   induction L with
   |nil=>intro _;exact⟨[],rfl⟩
   |cons r L ih=>
    intro h
    obtain⟨p,rfl⟩:=h r (by simp)
    obtain⟨l',rfl⟩:=ih fun x hx=>h x (by simp[hx])
    exact⟨p::l',rfl⟩
  refine key _ fun r hr=> ?_
  have:=s2.mem_iff.1 hr
  simp only[List.mem_map] at this
  obtain⟨p,_,rfl⟩:=this
  exact⟨p,rfl⟩
 obtain⟨l',hl'⟩:=hEl
 have hs:E.size=l.length:=by rw[s1];simp
 have hll:l'.length=l.length:=by rw[← hs,←Array.length_toList,hl',List.length_map]
 refine⟨l',?_,?_,?_⟩
 ·rw[hl'] at s2
  have:=s2.map fun r=>(r.getD 0 0,r.getD 1 0)
  simpa[List.map_map,Function.comp_def] using this
 ·rw[List.pairwise_iff_getElem]
  intro i j hi hj hij
  have h:=s3 i j hij (by simp;omega)
  have hg:∀ q (hq:q < l'.length),Uv 2 0 E[q]! =l'[q].1:=by
   intro q hq
   have h1:q < E.size:=by omega
   have:E[q]=[l'[q].1,l'[q].2]:=by
    have h2:E.toList[q]? =some [l'[q].1,l'[q].2]:=by rw[hl',List.getElem?_map,List.getElem?_eq_getElem hq];rfl
    rw[Array.getElem?_toList,Array.getElem?_eq_getElem h1] at h2
    exact Option.some.inj h2
   rw[getElem!_pos E q h1,this];rfl
  rw[hg i hi,hg j hj] at h
  omega
 ·have hfl:=Li l
  unfold mz
  simp only[hg,Ad,Vg]
  rw[if_pos ⟨trivial,trivial,by rw[hfl],by omega⟩]
  have hF:=Ez l
  have hI:=gv (l.flatMap fun p=>[p.1,p.2])
  rw[← hF] at hI
  rw[hI,Option.map_some,hso _ hI,hE,hl',hfl]
  have e:Sf (List.map (fun p:Int×Int=>[p.1,p.2]) l').flatten=uh (yf l'):=by rw[Ez,List.flatMap_def]
  rw[e]
theorem RO (d:Nat) (args:List AV) (H:List ba):zh Tj Hb (d+1) 22 args H=mz 2 0 23 args H:=rfl
theorem RR (l:List (Int×Int)) (hl:YM l) {id0 fl0:Nat} {nl0:Bool} (H:List ba) (hH:He H) (hg0:H[id0]? =some (Ad l fl0 nl0)) (hf0:fl0≤l.length * 2) (hw:l.length < 50):
 Pd (fun r=>∃ l' fl nl,l'.Perm l∧l'.Pairwise (fun p q=>p.1≤q.1)∧r.1= .own (r.2.length - 1) (Hh [] l').length∧He r.2∧r.2[r.2.length - 1]? =some (Ad (Hh [] l') fl nl)∧fl≤(Hh [] l').length * 2)
  (xe (zh Tj Hb 7) mo [.own id0 l.length] H):=by
 obtain⟨l',hpl,hps,hst⟩:=sR hw hg0
 have hid0:=(List.getElem?_eq_some_iff.1 hg0).1
 have hs2:l'.length=l.length:=hpl.length_eq
 have hg:(H.set id0 (Ad l' (l.length * 2) nl0))[id0]? =some (Ad l' (l.length * 2) nl0):=List.getElem?_set_self hid0
 have hgd:He (H.set id0 (Ad l' (l.length * 2) nl0)):=by
  intro n hn o ho
  rcases List.mem_or_eq_of_mem_set ho with h | h
  ·exact hH n (by simpa using hn) o h
  ·subst h;exact Lq _ _ _ _
 have hfl:l.length * 2≤l'.length * 2:=by omega
 simp -implicitDefEqProofs only[SX,sevalprocAttr,mo,RO,hst]
 generalize H.set id0 (Ad l' (l.length * 2) nl0)=H2 at *
 have hl':YM l':=fun p hpp=>hl p (hpl.mem_iff.1 hpp)
 have hlp:=VQ (zh Tj Hb 7) l' hl' H2 hgd hg hfl (by omega)
 rw[hs2] at hlp
 have hlen:Tb (H2++[Ad [] 0 true]) 0 (.own id0 l.length)=some l.length:=by
  have hid:id0 < H2.length:=(List.getElem?_eq_some_iff.1 hg).1
  have:=Li l'
  rw[Bz,List.getElem?_append_left hid,hg]
  simp only[Ad,Vg]
  unfold uh at this ⊢
  rw[if_pos];unfold jh;omega
 have hg2:H2.length < H2.length+1:=Nat.lt_succ_self _
 have hid1:id0 < H2.length+1:=by have:=(List.getElem?_eq_some_iff.1 hg).1;omega
 have hgood:He (H2++[Ad [] 0 true]):=by
  intro n hn o ho
  rcases List.mem_append.1 ho with h | h
  ·exact hgd n (by simp at hn;omega) o h
  ·simp at h;subst h;exact Lq _ _ _ _
 have hcut:=He.cut hgood
 have hlen1:(H2++[Ad [] 0 true]).length=H2.length+1:=by simp
 rw[hlen1] at hcut
 have hz:(0 < 2)=True:=by simp
 have ho:ba.seq 2 true [] 0 true=Ad [] 0 true:=rfl
 simp -implicitDefEqProofs only[SX,sevalprocAttr,Fb,ff,hz,ho,hlen,hlen1,hcut,hg2,hid1,List.take_of_length_le (show (H2++[Ad [] 0 true]).length≤H2.length+1 by simp),na,za,AV.cut,ua]
 refine ya hlp ?_
 rintro _ ⟨E,fl2,nl2,rfl,hE,hfl2⟩
 simp -implicitDefEqProofs only[SX,sevalprocAttr,hE]
 refine⟨l',fl2,nl2,hpl,hps,by simp,?_,by simp,hfl2⟩
 intro n hn o ho
 rcases List.mem_append.1 ho with h | h
 ·exact hgd n (by simp at hn;omega) o h
 ·simp at h;subst h;exact Lq _ _ _ _
end Go.AM.B1
namespace Go.AM.B1
open Go.AM Go.AM.So
abbrev Ly:Int:=1073741823
theorem FP {A:List ba} {id1 id2 n1 n2 f1 f2 bytes:Nat} {k1 k2:Bool} {h:Nf} {a b:List (Int×Int)} (h1:A[id1]? =some (Ad a f1 k1)) (h2:A[id2]? =some (Ad b f2 k2)) (hn1:n1=a.length) (hn2:n2=b.length) (hr:ab (n1+n2) bytes):
 ∃ k,Gb A true h 2 true bytes (.own id1 n1) (.own id2 n2)=some (.own id1 (n1+n2),A.set id1 (Ad (a++b) f1 k)):=by
 subst hn1 hn2
 have la:=Li a
 have lb:=Li b
 have e:uh (yf (a++b))=uh (yf a)++uh (yf b):=by simp[uh,yf]
 have hone:(uh (yf b)).all AV.one=true:=by
  rw[List.all_eq_true]
  intro v hv
  obtain⟨c,hc,rfl⟩:=List.mem_map.1 hv
  rw[List.mem_flatten] at hc
  obtain⟨r,hr,hc⟩:=hc
  exact (yx r (AA b r hr)).2 c hc
 refine⟨k1&&(b.length==0),?_⟩
 simp only[Gb,if_true,h1,Ad,Vg,Fj,h2,e]
 rw[if_pos ⟨trivial,by omega⟩]
 simp only[Option.bind_some]
 rw[if_pos ⟨trivial,by omega,hr,hone⟩]
theorem ep (v:PV) (l:List (Int×Int)) (hv:Vh 2 v (Xd l)) (hw:l.length * 16≤140737488355328) (hval:Na Ly (-2) l=true) (H:List ba) (hH:He H):
 xe (zh Tj Hb 7) Ii [.pv v] H=some (.own H.length l.length,H++[Ad l 0 false]):=by
 have h1:=EL (zh Tj Hb 6) v l hv hw H hH
 have h2:=xt (.lit 2 (Xd l)) l (.inr rfl) (by unfold maxLen;omega) Ly (by decide)
 rw[hval] at h2
 have h0:∀ args H,zh Tj Hb 7 0 args H=xe (zh Tj Hb 6) qd args H:=fun _ _=>rfl
 have h3:=eR (A:=H++[Ad l 0 false]) (id:=H.length) (n:=l.length) (Ej _ _) rfl 5
 rw[if_neg (by simp)] at h3
 simp -implicitDefEqProofs only[SX,sevalprocAttr,Ii,h0,h1,h2,h3]
theorem FL {H:List ba} (hH:He H) {o:ba} (ho:∀ n,oa n o=some o):He (H++[o]):=by
 intro n hn x hx
 rcases List.mem_append.1 hx with h | h
 ·exact hH n (by simp at hn;omega) x h
 ·simp at h;subst h;exact ho n
theorem fR (A B:PV) (a b:List (Int×Int)) (hA:Vh 2 A (Xd a)) (hB:Vh 2 B (Xd b)) (hva:Na Ly (-2) a=true) (hvb:Na Ly (-2) b=true) (hl:a.length+b.length < 50):
 ∃ u,Ml [A,B]=some (.lit 2 (Xd u))∧Na Ly (-2) u=true∧(∀ x,Lj x u↔Lj x a∨Lj x b)∧u.length≤a.length+b.length:=by
 have h1:=ep A a hA (by omega) hva [] (by intro n _ o ho;simp at ho)
 have hg1:He ([]++[Ad a 0 false]):=FL (by intro n _ o ho;simp at ho) (Lq _ _ _)
 have h2:=ep B b hB (by omega) hvb ([]++[Ad a 0 false]) hg1
 obtain⟨k,h3⟩:=FP (A:=[Ad a 0 false,Ad b 0 false]) (id1:=0) (id2:=1) (n1:=a.length) (n2:=b.length) (bytes:=16) (h:= .own) rfl rfl rfl rfl (by unfold ab;omega)
 have hg3:He [Ad (a++b) 0 k,Ad b 0 false]:=by
  intro n _ o ho
  simp at ho
  rcases ho with rfl | rfl <;> exact Lq _ _ _ _
 have ra:=Vp hva
 have rb:=Vp hvb
 have rab:∀ p∈a++b,0≤p.1∧p.1≤p.2∧p.2≤Ly:=fun p hp=>by
  rcases List.mem_append.1 hp with h | h
  ·exact ra p h
  ·exact rb p h
 have h4:=RR (a++b) (fun p hp=>by have:=rab p hp;unfold Ly at this;omega) (id0:=0) [Ad (a++b) 0 k,Ad b 0 false] hg3 rfl (by omega) (by simp;omega)
 obtain⟨⟨v,H4⟩,e4,l',fl,nl,hpl,hps,hv,hg4,hget,hfl⟩:=pc h4
 dsimp only at hv hg4 hget
 subst hv
 have law:=YP (top:=Ly) l' (fun p hp=>rab p (hpl.mem_iff.1 hp)) hps
 have hll:(Hh [] l').length≤a.length+b.length:=by have:=hpl.length_eq;simp at this;omega
 have h5:=OO (zh Tj Hb 6) (Hh [] l') H4 hg4 hget hfl (by omega)
 have hmem:∀ x,Lj x (Hh [] l')↔Lj x a∨Lj x b:=by
  intro x
  rw[law.2.1,←Vt]
  unfold Lj
  constructor
  ·rintro⟨p,h,hx⟩;exact⟨p,hpl.mem_iff.1 h,hx⟩
  ·rintro⟨p,h,hx⟩;exact⟨p,hpl.mem_iff.2 h,hx⟩
 refine⟨Hh [] l',?_,law.1,hmem,hll⟩
 generalize Hh [] l'=u at *
 simp only[List.nil_append,List.length_nil,List.cons_append,List.length_cons,Nat.zero_add] at h1 h2 h3
 rw[List.set_cons_zero] at h3
 have c1:∀ args H,zh Tj Hb 8 1 args H=xe (zh Tj Hb 7) Ii args H:=fun _ _=>rfl
 have c24:∀ args H,zh Tj Hb 8 24 args H=xe (zh Tj Hb 7) mo args H:=fun _ _=>rfl
 have c3:∀ args H,zh Tj Hb 8 3 args H=xe (zh Tj Hb 7) sk args H:=fun _ _=>rfl
 have c2:∀ args H,zh Tj Hb 7 2 args H=xe (zh Tj Hb 6) Ed args H:=fun _ _=>rfl
 have hab:(a++b).length=a.length+b.length:=by simp
 rw[hab] at e4
 simp -implicitDefEqProofs only[Ml,FB,SP,WP,ga,sevalprocAttr,Ko,c1,h1,h2,h3,c24,e4,c3,sk,c2,h5]
theorem wv (v:PV) (l:List (Int×Int)) (hv:Vh 2 v (Xd l)) (hw:l.length * 16≤140737488355328) (hval:Na Ly (-2) l=true):xl [v]=some (.lit 2 (Xd l)):=by
 have h1:=bm v l hv hw
 rw[← nL] at h1
 have h2:=xt (.lit 2 (Xd l)) l (.inr rfl) (by unfold maxLen;omega) Ly (by decide)
 rw[hval] at h2
 simp -implicitDefEqProofs only[xl,SP,SA,SQ,sevalprocAttr,Sr,Eg,Hc,h1,h2]
def Yf:Nat→List (Int×Int)→List (Int×Int)→List (Int×Int)
 |0,_,_=>[]
 |n+1,a,b=>match a,b with
  |p::a',q::b'=>(if (if q.1 > p.1 then q.1 else p.1)≤(if q.2 < p.2 then q.2 else p.2) then [((if q.1 > p.1 then q.1 else p.1),(if q.2 < p.2 then q.2 else p.2))] else [])++(if p.2 < q.2 then Yf n a' (q::b') else Yf n (p::a') b')
  |_,_=>[]
abbrev Hw (va vb:PV) (tk:Nat) (nl:Bool) (es:List PV):Tr:=((Tr.lf.set 5 (.uq tk nl 2 es)).set 1 (.pv vb)).set 0 (.pv va)
theorem Vh.VW {v:PV} {p:PV} {es:List PV} (h:Vh 2 v (p::es)):∀ H,Bg H 2 (.pv v) (some 1) none=some (.pv (.lit 2 es)):=by
 intro H
 rcases h with⟨_,h⟩ | rfl
 ·cases h
 ·simp[Bg]
  omega
theorem bJ (A B:PV) (a b:List (Int×Int)) (hA:Vh 2 A (Xd a)) (hB:Vh 2 B (Xd b)) (hw:(a.length+b.length) * 16≤140737488355328):
 ∃ u,cm [A,B]=some u∧Vh 2 u (Xd (Yf (a.length+b.length) a b)):=by
 have hloop:Pd (fun r=>∃ E H nl,r=(.exit 0,⟨E,H⟩)∧E.get 5= .uq 0 nl 2 (Xd (Yf (a.length+b.length) a b))∧(nl=true→Yf (a.length+b.length) a b=[]))
  (pb (ma (qa (Ca (fun _=>none) 8) tg) (na 1 [0,1,5])) pa ⟨Hw A B 0 true [],[.tok 2 0 true]⟩):=by
  refine ya (Up (g:=ma (qa (Ca (fun _=>none) 8) tg) (na 1 [0,1,5]))
   (fun m t=>∃ va vb a' b' nl out,m=a'.length+b'.length∧Vh 2 va (Xd a')∧Vh 2 vb (Xd b')∧t=⟨Hw va vb 0 nl (Xd out),[.tok 2 out.length nl]⟩∧out.length+m≤a.length+b.length∧(nl=true→out=[])∧Yf (a.length+b.length) a b=out++Yf m a' b')
   pa (a.length+b.length) _ (by unfold pa;omega) ⟨A,B,a,b,true,[],rfl,hA,hB,rfl,by simp,fun _=>rfl,rfl⟩ ?_) (fun r h=>h.2)
  rintro m t ⟨va,vb,a',b',nl,out,rfl,ha,hb,rfl,hlen,hnl,hs⟩
  have la:=ha.len
  have lb:=hb.len
  simp only[Xd,List.length_map] at la lb
  cases a' with
  |nil=>
   have hs':Yf (a.length+b.length) a b=out:=by
    rw[hs];cases b' <;> simp[Yf]
   have z1:decide (((([]:List (Int×Int)).length:Nat):Int) > 0)=false:=by decide
   generalize hQ:LQ _ _ _=Q
   simp -implicitDefEqProofs only[SX,sevalprocAttr,tg,la,z1,Hw]
   subst hQ
   rw[hs']
   exact⟨_,_,nl,rfl,by simp[Tr.aa],hnl⟩
  |cons p a'=>
   have z1:decide ((((p::a').length:Nat):Int) > 0)=true:=Fa (by simp)
   cases b' with
   |nil=>
    have hs':Yf (a.length+b.length) a b=out:=by
     rw[hs];simp[Yf]
    have z2:decide (((([]:List (Int×Int)).length:Nat):Int) > 0)=false:=by decide
    generalize hQ:LQ _ _ _=Q
    have la':∀ H,Tb H 0 (.pv va)=some (a'.length+1):=la
    have z1':decide ((((a'.length+1):Nat):Int) > 0)=true:=z1
    have lb':∀ H,Tb H 0 (.pv vb)=some 0:=lb
    have z2':decide (((0:Nat):Int) > 0)=false:=z2
    simp -implicitDefEqProofs only[SX,sevalprocAttr,tg,la',lb',z1',z2',Hw]
    subst hQ
    rw[hs']
    exact⟨_,_,nl,rfl,by simp[Tr.aa],hnl⟩
   |cons q b'=>
    have la':∀ H,Tb H 0 (.pv va)=some (a'.length+1):=la
    have z1':decide ((((a'.length+1):Nat):Int) > 0)=true:=z1
    have lb':∀ H,Tb H 0 (.pv vb)=some (b'.length+1):=lb
    have z2':decide ((((b'.length+1):Nat):Int) > 0)=true:=Fa (by omega)
    have hva:va= .lit 2 (Xd (p::a')):=ha.lit (i:=0) (by simp)
    have hvb:vb= .lit 2 (Xd (q::b')):=hb.lit (i:=0) (by simp)
    have sa:=Vh.VW ha
    have sb:=Vh.VW hb
    have i1:∀ H,wa H 2 (.pv va) 0=some (.pv (.rp [i64 p.1,i64 p.2] 0)):=fun H=>by
     rw[hva];exact Wk H (i:=0) (l:=p::a') (by simp)
    have i2:∀ H,wa H 2 (.pv vb) 0=some (.pv (.rp [i64 q.1,i64 q.2] 0)):=fun H=>by
     rw[hvb];exact Wk H (i:=0) (l:=q::b') (by simp)
    have hap:=Lg (A:=[.tok 2 out.length nl]) (id:=0) (n:=out.length) (h:= .uq) (ag:=true) (nl:=nl) (sz:=2) (bytes:=16) (es:=Xd out) rfl (by simp) (by unfold ab;simp only[List.length_cons] at hlen;omega) (pr ((if q.1 > p.1 then q.1 else p.1),(if q.2 < p.2 then q.2 else p.2)))
    rw[List.set_cons_zero] at hap
    have hm:∀ n,Yf (n+1) (p::a') (q::b')=(if (if q.1 > p.1 then q.1 else p.1)≤(if q.2 < p.2 then q.2 else p.2) then [((if q.1 > p.1 then q.1 else p.1),(if q.2 < p.2 then q.2 else p.2))] else [])++(if p.2 < q.2 then Yf n a' (q::b') else Yf n (p::a') b'):=fun n=>rfl
    have hmn:(p::a').length+(q::b').length=(a'.length+b'.length+1)+1:=by simp;omega
    have l0:∀ H (x y:PV),ta H false 1 (.pv (.rp [x,y] 0))=some (.pv x):=fun H x y=>rfl
    have l1:∀ H (x y:PV),ta H false 1 (.pv (.rp [x,y] 1))=some (.pv y):=fun H x y=>rfl
    have p0:∀ H (x y:PV),place H 0 (.pv (.rp [x,y] 0))=some (.pv (.rp [x,y] 0)):=fun H x y=>rfl
    have p1:∀ H (x y:PV),place H 1 (.pv (.rp [x,y] 0))=some (.pv (.rp [x,y] 1)):=fun H x y=>rfl
    rw[hmn] at hlen
    rw[hmn,hm] at hs
    generalize hlo:(if q.1 > p.1 then q.1 else p.1)=lo at *
    generalize hhi:(if q.2 < p.2 then q.2 else p.2)=hi at *
    clear hva hvb
    have hprs:Xd (out++[(lo,hi)])=Xd out++[pr (lo,hi)]:=by simp[Xd]
    generalize hQ:LQ _ _ _=Q
    by_cases c1:lo≤hi
    ·have d1:=Fa c1
     rw[if_pos c1] at hs
     by_cases c2:p.2 < q.2
     ·have d2:=Fa c2
      rw[if_pos c2] at hs
      simp -implicitDefEqProofs only[SP,WP,ga,sevalprocAttr,tg,la',lb',z1',z2',i1,i2,l0,l1,p0,p1,Br,Fe,hlo,hhi,hap,d1,d2,sa,sb,na,za,AV.cut,oa,ua,Hw]
      subst hQ
      exact⟨a'.length+b'.length+1,by rw[hmn];omega,_,vb,a',q::b',false,out++[(lo,hi)],by simp;omega,.inr rfl,hb,by rw[hprs];simp[Hw],by simp;omega,by simp,by rw[hs,List.append_assoc]⟩
     ·have d2:=Ha c2
      rw[if_neg c2] at hs
      simp -implicitDefEqProofs only[SP,WP,ga,sevalprocAttr,tg,la',lb',z1',z2',i1,i2,l0,l1,p0,p1,Br,Fe,hlo,hhi,hap,d1,d2,sa,sb,na,za,AV.cut,oa,ua,Hw]
      subst hQ
      exact⟨a'.length+b'.length+1,by rw[hmn];omega,va,_,p::a',b',false,out++[(lo,hi)],by simp;omega,ha,.inr rfl,by rw[hprs];simp[Hw],by simp;omega,by simp,by rw[hs,List.append_assoc]⟩
    ·have d1:=Ha c1
     rw[if_neg c1,List.nil_append] at hs
     by_cases c2:p.2 < q.2
     ·have d2:=Fa c2
      rw[if_pos c2] at hs
      simp -implicitDefEqProofs only[SP,WP,ga,sevalprocAttr,tg,la',lb',z1',z2',i1,i2,l0,l1,p0,p1,Br,Fe,hlo,hhi,d1,d2,sa,sb,na,za,AV.cut,oa,ua,Hw]
      subst hQ
      exact⟨a'.length+b'.length+1,by rw[hmn];omega,_,vb,a',q::b',nl,out,by simp;omega,.inr rfl,hb,rfl,by omega,hnl,hs⟩
     ·have d2:=Ha c2
      rw[if_neg c2] at hs
      simp -implicitDefEqProofs only[SP,WP,ga,sevalprocAttr,tg,la',lb',z1',z2',i1,i2,l0,l1,p0,p1,Br,Fe,hlo,hhi,d1,d2,sa,sb,na,za,AV.cut,oa,ua,Hw]
      subst hQ
      exact⟨a'.length+b'.length+1,by rw[hmn];omega,va,_,p::a',b',nl,out,by simp;omega,ha,.inr rfl,rfl,by omega,hnl,hs⟩
 obtain⟨r,h1,E,H,nl,rfl,hE,hnl⟩:=pc hloop
 simp only[Hw,Xd,List.map_nil] at h1
 generalize Yf (a.length+b.length) a b=u at *
 have hz:(0 < 2)=True:=by simp
 cases nl with
 |true=>
  refine⟨.fa,?_,.inl ⟨rfl,by rw[hnl rfl];rfl⟩⟩
  simp -implicitDefEqProofs only[cm,SX,sevalprocAttr,mr,Fb,ff,hz,na,za,AV.cut,oa,ua,h1,hE]
 |false=>
  refine⟨.lit 2 (Xd u),?_,.inr rfl⟩
  simp -implicitDefEqProofs only[cm,SX,sevalprocAttr,mr,Fb,ff,hz,na,za,AV.cut,oa,ua,h1,hE]
end Go.AM.B1
namespace Go.AM.B1
open Go.AM Go.AM.So
theorem OD {top:Int}:∀ {l:List (Int×Int)} {last:Int},Na top last l=true→∀ p∈l,last < p.1 - 1
 |q::l,last,h,p,hp=>by
  obtain⟨h1,h2,h3,h4,h5⟩:=Vd h
  rcases List.mem_cons.1 hp with rfl | hp
  ·omega
  ·have:=OD h5 p hp;omega
theorem Fl {top last x:Int} {l:List (Int×Int)} (h:Na top last l=true) (hx:Lj x l):last+1 < x:=by
 obtain⟨p,hp,h1,h2⟩:=hx
 have:=OD h p hp;omega
theorem Xt {top:Int}:∀ (n:Nat) (a b:List (Int×Int)) (la lb:Int),Na top la a=true→Na top lb b=true→a.length+b.length≤n→
 (∀ x,Lj x (Yf n a b)↔Lj x a∧Lj x b)∧∀ p∈Yf n a b,p.1≤p.2
 |0,a,b,la,lb,_,_,hn=>by
  have:a=[]:=List.eq_nil_of_length_eq_zero (by omega)
  subst this
  exact⟨fun x=>by simp[Yf,Mm],by simp[Yf]⟩
 |n+1,[],b,la,lb,_,_,hn=>⟨fun x=>by simp[Yf,Mm],by simp[Yf]⟩
 |n+1,p::a,[],la,lb,_,_,hn=>⟨fun x=>by simp[Yf,Mm],by simp[Yf]⟩
 |n+1,p::a,q::b,la,lb,ha,hb,hn=>by
  obtain⟨a1,a2,a3,a4,a5⟩:=Vd ha
  obtain⟨b1,b2,b3,b4,b5⟩:=Vd hb
  rw[Yf]
  have hlo:p.1≤(if q.1 > p.1 then q.1 else p.1)∧q.1≤(if q.1 > p.1 then q.1 else p.1)∧((if q.1 > p.1 then q.1 else p.1)=p.1∨(if q.1 > p.1 then q.1 else p.1)=q.1):=by split <;> omega
  have hhi:(if q.2 < p.2 then q.2 else p.2)≤p.2∧(if q.2 < p.2 then q.2 else p.2)≤q.2∧((if q.2 < p.2 then q.2 else p.2)=p.2∨(if q.2 < p.2 then q.2 else p.2)=q.2):=by split <;> omega
  generalize (if q.1 > p.1 then q.1 else p.1)=lo at *
  generalize (if q.2 < p.2 then q.2 else p.2)=hi at *
  have hpc:∀ x,Lj x (if lo≤hi then [(lo,hi)] else [])↔(p.1≤x∧x≤p.2)∧(q.1≤x∧x≤q.2):=by
   intro x
   by_cases h:lo≤hi
   ·rw[if_pos h,Io];simp only;omega
   ·rw[if_neg h]
    simp only[Mm,false_iff]
    omega
  have hpl:∀ r∈(if lo≤hi then [(lo,hi)] else []),r.1≤r.2:=by
   intro r hr
   by_cases h:lo≤hi
   ·rw[if_pos h] at hr;simp at hr;subst hr;exact h
   ·rw[if_neg h] at hr;simp at hr
  by_cases c:p.2 < q.2
  ·rw[if_pos c]
   have ih:=Xt n a (q::b) p.2 lb a5 hb (by simp at hn ⊢;omega)
   refine⟨fun x=> ?_,fun r hr=> ?_⟩
   ·rw[Vt,hpc,ih.1,Zl,Zl]
    have hfar:Lj x b→q.2+1 < x:=Fl b5
    constructor
    ·rintro (⟨h1,h2⟩ | ⟨h1,h2⟩)
     ·exact⟨.inl h1,.inl h2⟩
     ·exact⟨.inr h1,h2⟩
    ·rintro⟨h1 | h1,h2⟩
     ·rcases h2 with h2 | h2
      ·exact .inl ⟨h1,h2⟩
      ·have:=hfar h2;omega
     ·exact .inr ⟨h1,h2⟩
   ·rcases List.mem_append.1 hr with h | h
    ·exact hpl r h
    ·exact ih.2 r h
  ·rw[if_neg c]
   have ih:=Xt n (p::a) b la q.2 ha b5 (by simp at hn ⊢;omega)
   refine⟨fun x=> ?_,fun r hr=> ?_⟩
   ·rw[Vt,hpc,ih.1,Zl,Zl]
    have hfar:Lj x a→p.2+1 < x:=Fl a5
    constructor
    ·rintro (⟨h1,h2⟩ | ⟨h1,h2⟩)
     ·exact⟨.inl h1,.inl h2⟩
     ·exact⟨h1,.inr h2⟩
    ·rintro⟨h1,h2 | h2⟩
     ·rcases h1 with h1 | h1
      ·exact .inl ⟨h1,h2⟩
      ·have:=hfar h1;omega
     ·exact .inr ⟨h1,h2⟩
   ·rcases List.mem_append.1 hr with h | h
    ·exact hpl r h
    ·exact ih.2 r h
theorem eM {top:Int} {a b:List (Int×Int)} (ha:Na top (-2) a=true) (hb:Na top (-2) b=true):Yf (a.length+b.length) a b≠[]↔∃ x,Lj x a∧Lj x b:=by
 have h:=Xt (a.length+b.length) a b (-2) (-2) ha hb (Nat.le_refl _)
 constructor
 ·intro hne
  obtain⟨p,r,hpr⟩:=List.exists_cons_of_ne_nil hne
  have hp:p∈Yf (a.length+b.length) a b:=by rw[hpr];simp
  exact⟨p.1,(h.1 p.1).1 ⟨p,hp,Int.le_refl _,h.2 p hp⟩⟩
 ·rintro⟨x,hx⟩ he
  have:=(h.1 x).2 hx
  rw[he] at this
  exact Mm x this
theorem cx:∀ (n:Nat) (a b:List (Int×Int)),(Yf n a b).length≤n
 |0,a,b=>by simp[Yf]
 |n+1,[],b=>by simp[Yf]
 |n+1,p::a,[]=>by simp[Yf]
 |n+1,p::a,q::b=>by
  rw[Yf,List.length_append]
  generalize (if q.1 > p.1 then q.1 else p.1)=lo
  generalize (if q.2 < p.2 then q.2 else p.2)=hi
  have h1:(if lo≤hi then [(lo,hi)] else []).length≤1:=by
   by_cases h:lo≤hi
   ·rw[if_pos h];simp
   ·rw[if_neg h];simp
  by_cases c:p.2 < q.2
  ·rw[if_pos c];have:=cx n a (q::b);omega
  ·rw[if_neg c];have:=cx n (p::a) b;omega
theorem iB (A B:PV) (a b:List (Int×Int)) (hA:Vh 2 A (Xd a)) (hB:Vh 2 B (Xd b)) (hva:Na Ly (-2) a=true) (hvb:Na Ly (-2) b=true) (hw:(a.length+b.length) * 16≤140737488355328):
 Um [A,B]=some (.lit 2 (Xd (Yf (a.length+b.length) a b))):=by
 have h1:=wv A a hA (by omega) hva
 have h2:=wv B b hB (by omega) hvb
 obtain⟨u,h3,h4⟩:=bJ (.lit 2 (Xd a)) (.lit 2 (Xd b)) a b (.inr rfl) (.inr rfl) hw
 have h5:=bm u _ h4 (by have:=cx (a.length+b.length) a b;omega)
 rw[← sH] at h5
 have h6:Pm [u]=some (.lit 2 (Xd (Yf (a.length+b.length) a b))):=by
  simp -implicitDefEqProofs only[Pm,SP,SA,SQ,sevalprocAttr,xq,Eg,Hc,h5]
 simp -implicitDefEqProofs only[Um,SP,SA,SQ,sevalprocAttr,qq,Eg,Hc,h1,h2,h3,h6]
theorem Rr (v:PV) (l:List (Int×Int)) (hv:Vh 2 v (Xd l)) (hw:l.length * 16≤140737488355328) (hval:Na 255 (-2) l=true):Zg [v]=some (.lit 2 (Xd l)):=by
 have h1:=bm v l hv hw
 have h2:=xt (.lit 2 (Xd l)) l (.inr rfl) (by unfold maxLen;omega) 255 (by decide)
 rw[hval] at h2
 simp -implicitDefEqProofs only[Zg,SP,SA,SQ,sevalprocAttr,yo,Eg,Hc,h1,h2]
theorem TE (A B:PV) (a b:List (Int×Int)) (hA:Vh 2 A (Xd a)) (hB:Vh 2 B (Xd b)) (hva:Na 255 (-2) a=true) (hvb:Na 255 (-2) b=true) (hw:(a.length+b.length) * 16≤140737488355328):
 Ap [A,B]=some (.lit 2 (Xd (Yf (a.length+b.length) a b))):=by
 have h1:=Rr A a hA (by omega) hva
 have h2:=Rr B b hB (by omega) hvb
 obtain⟨u,h3,h4⟩:=bJ (.lit 2 (Xd a)) (.lit 2 (Xd b)) a b (.inr rfl) (.inr rfl) hw
 have h5:=bm u _ h4 (by have:=cx (a.length+b.length) a b;omega)
 rw[← AJ] at h5
 have h6:Dp [u]=some (.lit 2 (Xd (Yf (a.length+b.length) a b))):=by
  simp -implicitDefEqProofs only[Dp,SP,SA,SQ,sevalprocAttr,yu,Eg,Hc,h5]
 simp -implicitDefEqProofs only[Ap,SP,SA,SQ,sevalprocAttr,Nu,Eg,Hc,h1,h2,h3,h6]
theorem oA (n:Int) (l:List (Int×Int)):oc n l=n+oc 0 l:=by
 induction l generalizing n with
 |nil=>simp[oc]
 |cons p l ih=>rw[oc,oc,ih,ih (0+(p.2 - p.1+1))];omega
theorem Uq {top:Int}:∀ {l:List (Int×Int)} {last:Int},Na top last l=true→0≤oc 0 l∧(l≠[]→1≤oc 0 l∧oc 0 l≤top - last - 1∧oc 0 l≤top+1)∧oc 0 l≤max 0 (top+1)
 | [],last,_=>⟨by simp[oc],fun h=>absurd rfl h,by simp[oc];omega⟩
 |p::l,last,h=>by
  obtain⟨h1,h2,h3,h4,h5⟩:=Vd h
  have ih:=Uq h5
  rw[oc,oA]
  have key:l≠[]∨l=[]:=by cases l <;> simp
  rcases key with hl | hl
  ·have:=ih.2.1 hl
   exact⟨by omega,fun _=>⟨by omega,by omega,by omega⟩,by omega⟩
  ·subst hl
   simp only[oc]
   exact⟨by omega,fun _=>⟨by omega,by omega,by omega⟩,by omega⟩
theorem mv {top:Int}:∀ {l:List (Int×Int)} {last:Int},Na top last l=true→(l.length:Int)≤max 0 (top - last)
 | [],last,_=>by simp;omega
 |p::l,last,h=>by
  obtain⟨h1,h2,h3,h4,h5⟩:=Vd h
  have:=mv h5
  simp only[List.length_cons]
  omega
theorem zw (v:PV) (l:List (Int×Int)) (hv:Vh 2 v (Xd l)) (hw:l.length * 16≤140737488355328) (hval:Na 255 (-2) l=true):rm [v]=some (i64 (oc 0 l)):=by
 have h1:=Rr v l hv hw hval
 have h2:=BT (.lit 2 (Xd l)) l (.inr rfl) (by unfold maxLen;omega) (top:=255) (by decide) hval
 simp -implicitDefEqProofs only[rm,SP,SA,SQ,sevalprocAttr,Fu,Eg,Hc,h1,h2]
end Go.AM.B1
namespace Go.AM.B1
open Go.AM
theorem Vn (A:List ba) (o:ba):(A++[o])[A.length]? =some o:=by simp
theorem Un (A:List ba) (o o':ba):(A++[o]).set A.length o'=A++[o']:=by
 apply List.ext_getElem?
 intro i
 by_cases h:i=A.length
 ·subst h;simp
 ·rw[List.getElem?_set_ne (Ne.symm h)]
  rcases Nat.lt_or_ge i A.length with h1 | h1
  ·rw[List.getElem?_append_left h1,List.getElem?_append_left h1]
  ·rw[List.getElem?_append_right h1,List.getElem?_append_right h1]
   have:i - A.length≠0:=by omega
   obtain⟨k,hk⟩:∃ k,i - A.length=k+1:=⟨i - A.length - 1,by omega⟩
   rw[hk];simp
abbrev u32 (n:Int):PV:= .int .u32 n
abbrev Kx (S:PV) (x d bits len i left:Int) (ends:Bool):Tr:=
 ((((((Tr.lf.set 18 (.pv (i64 i))).set 17 (.pv (i64 len))).set 16 (.pv S)).set 9 (.pv (.bool ends))).set 8 (.pv (u32 left))).set 4 (.pv (.rp [i64 d,u32 bits] 0))).set 2 (.pv (i64 x))
def uz (bits:Int) (i:Nat):Bool:=IntKind.u32.wrap (((BitVec.ofInt IntKind.u32.bits (bits.fdiv (2 ^ min i IntKind.u32.bits)) &&& BitVec.ofInt IntKind.u32.bits 1).toNat:Nat):Int)==1
theorem Zw (bits:Int) (i:Nat):(IntKind.u32.wrap (((BitVec.ofInt IntKind.u32.bits (bits.fdiv (2 ^ min i IntKind.u32.bits)) &&& BitVec.ofInt IntKind.u32.bits 1).toNat:Nat):Int)==1)=uz bits i:=rfl
def jY (left:Int) (i:Nat):Int:=IntKind.u32.wrap (((BitVec.ofInt IntKind.u32.bits left ||| BitVec.ofInt IntKind.u32.bits (IntKind.u32.wrap (1 * 2 ^ min i IntKind.u32.bits))).toNat:Nat):Int)
theorem oK (left:Int) (i:Nat):IntKind.u32.wrap (((BitVec.ofInt IntKind.u32.bits left ||| BitVec.ofInt IntKind.u32.bits (IntKind.u32.wrap (1 * 2 ^ min i IntKind.u32.bits))).toNat:Nat):Int)=jY left i:=rfl
section
variable (call:Ta) (A:List ba) (ss:List PV) (x bits left:Int) (d:Nat) (ends:Bool) (i len:Nat) (hi:i < len) (hl:len=ss.length) (hw:len≤maxLen) (ps:List PV) (first:Int) (hs:ss[i]? =some (.agg [.lit 1 ps,i64 first]))
include hi hl hw hs
theorem CV (hb:uz bits i=false):
 ma (qa call Cb) (fun s=>some (tidy [2,4,8,9,16,17,18] s)) ⟨Kx (.lit 2 ss) x d bits len i left ends,A⟩=
  some (.norm,⟨Kx (.lit 2 ss) x d bits len (i+1:Nat) left ends,A++[.box [.pv (.lit 1 ps),.pv (i64 first)]]⟩):=by
 have e1:decide ((i:Int) < (len:Int))=true:=Fa (by omega)
 have hq:Ga (i:Int) ss.length:=by unfold Ga;omega
 have t1:((i:Int)).toNat=i:=by simp
 have t2:=eb hi hw
 have hn:((i:Int) < 0)=False:=by simp
 simp -implicitDefEqProofs only[SP,SA,SQ,sevalprocAttr,ma,Cb,e1,eq_true hq,t1,t2,hs,hn,Zw,hb,wa,Vn,Un,tidy,Jc,Kx]
theorem BW (hb:uz bits i=true) (qs:List PV) (hp:ps[d]? =some (.lit 2 qs)) (hdl:d < ps.length) (hd:d < 4611686018427387904) (hh:Dk [.lit 2 qs,i64 x]=some (.bool false)):
 ma (qa call Cb) (fun s=>some (tidy [2,4,8,9,16,17,18] s)) ⟨Kx (.lit 2 ss) x d bits len i left ends,A⟩=
  some (.norm,⟨Kx (.lit 2 ss) x d bits len (i+1:Nat) left ends,A++[.box [.pv (.lit 1 ps),.pv (i64 first)]]⟩):=by
 have e1:decide ((i:Int) < (len:Int))=true:=Fa (by omega)
 have hq:Ga (i:Int) ss.length:=by unfold Ga;omega
 have t1:((i:Int)).toNat=i:=by simp
 have t2:=eb hi hw
 have hn:((i:Int) < 0)=False:=by simp
 have hq2:Ga (d:Int) ps.length:=by unfold Ga;omega
 have t3:((d:Int)).toNat=d:=by simp
 simp -implicitDefEqProofs only[SP,SA,SQ,sevalprocAttr,ma,Cb,e1,eq_true hq,eq_true hq2,t1,t2,t3,hs,hn,Zw,hb,hp,hh,Eg,Hc,wa,Vn,Un,tidy,Jc,Kx]
theorem xX (hb:uz bits i=true) (qs:List PV) (hp:ps[d]? =some (.lit 2 qs)) (hdl:d < ps.length) (hd:d < 4611686018427387904) (hh:Dk [.lit 2 qs,i64 x]=some (.bool true)):
 ma (qa call Cb) (fun s=>some (tidy [2,4,8,9,16,17,18] s)) ⟨Kx (.lit 2 ss) x d bits len i left ends,A⟩=
  some (.norm,⟨Kx (.lit 2 ss) x d bits len (i+1:Nat) (jY left i) (ends||(ps.length==d+1)),A++[.box [.pv (.lit 1 ps),.pv (i64 first)]]⟩):=by
 have e1:decide ((i:Int) < (len:Int))=true:=Fa (by omega)
 have hq:Ga (i:Int) ss.length:=by unfold Ga;omega
 have t1:((i:Int)).toNat=i:=by simp
 have t2:=eb hi hw
 have hn:((i:Int) < 0)=False:=by simp
 have hq2:Ga (d:Int) ps.length:=by unfold Ga;omega
 have t3:((d:Int)).toNat=d:=by simp
 have t4:IntKind.i64.wrap ((d:Int)+1)=((d+1:Nat):Int):=Aa (by omega)
 have t5:((ps.length:Int)==((d+1:Nat):Int))=(ps.length==d+1):=by
  rw[Bool.eq_iff_iff];simp;omega
 cases ends with
 |true=>simp -implicitDefEqProofs only[SP,SA,SQ,sevalprocAttr,ma,Cb,e1,eq_true hq,eq_true hq2,t1,t2,t3,t4,t5,hs,hn,Zw,oK,hb,hp,hh,Eg,Hc,wa,Vn,Un,tidy,Jc,Kx]
 |false=>simp -implicitDefEqProofs only[SP,SA,SQ,sevalprocAttr,ma,Cb,e1,eq_true hq,eq_true hq2,t1,t2,t3,t4,t5,hs,hn,Zw,oK,hb,hp,hh,Eg,Hc,wa,Vn,Un,tidy,Jc,Kx]
end
structure qc where
 parts:List (List (Int×Int))
 first:Int
def Le (l:List (Int×Int)):PV:= .lit 2 (Xd l)
def We (s:qc):PV:= .agg [.lit 1 (s.parts.map Le),i64 s.first]
def PQ (l:List (Int×Int)) (x:Int):Bool:=(kg x 0 (Ey l)).2
def eu (s:qc) (d:Nat) (x:Int):Bool:=
 match s.parts[d]? with
 |some l=>PQ l x
 |none=>false
def vh (x bits:Int) (d:Nat):Nat→List qc→Int×Bool→Int×Bool
 |_,[],acc=>acc
 |i,s::r,acc=>vh x bits d (i+1) r (if uz bits i&&eu s d x then (jY acc.1 i,acc.2||(s.parts.length==d+1)) else acc)
theorem yH (l:List (Int×Int)):yz (.lit 2 (Xd l))=some l:=by
 have:Pa Vy (Xd l)=some l:=by
  induction l with
  |nil=>rfl
  |cons p l ih=>simp only[Xd,List.map_cons,Pa,Vy,Option.bind_some] at ih ⊢;rw[ih];rfl
 exact this
theorem EO {l:List (Int×Int)} (h:l.length * 16≤140737488355328) (x:Int):Dk [Le l,i64 x]=some (.bool (PQ l x)):=by
 simp only[Dk,Le,yH,Option.bind_some,if_pos h];rfl
def RF (ss:List qc):List ba:=ss.map fun s=> .box [.pv (.lit 1 (s.parts.map Le)),.pv (i64 s.first)]
section
variable (call:Ta) (H:List ba) (id:Nat) (rest:List AV) (S:PV) (ss:List qc) (x bits:Int) (d:Nat)
 (hid:H[id]? =some (.box (.pv S::rest))) (hS:Vh 2 S (ss.map We)) (hw:ss.length≤maxLen) (hd:d < 4611686018427387904)
 (Ba:∀ i s,ss[i]? =some s→uz bits i=true→d < s.parts.length) (hsz:∀ s∈ss,∀ l∈s.parts,l.length * 16≤140737488355328)
include hid hS hw hd Ba hsz
theorem Hq:xe call wi [.ptr id 0,.pv (.agg [i64 d,u32 bits]),.pv (i64 x)] H=
 some (.pv (.ic [u32 (vh x bits d 0 ss (0,false)).1,.bool (vh x bits d 0 ss (0,false)).2]),H++RF ss):=by
 have ls:=hS.len
 simp only[List.length_map] at ls
 have key:=Ck (g:=ma (qa call Cb) (fun s=>some (tidy [2,4,8,9,16,17,18] s)))
  (fun i t=>∃ left ends,t=⟨Kx S x d bits ss.length i left ends,H++RF (ss.take i)⟩∧vh x bits d 0 ss (0,false)=vh x bits d i (ss.drop i) (left,ends))
  (fun ex t=>ex= .exit 0∧t=⟨(Kx S x d bits ss.length ss.length (vh x bits d 0 ss (0,false)).1 (vh x bits d 0 ss (0,false)).2).set 19 (.pv (.bool false)),H++RF ss⟩)
  pa ss.length 0 ⟨Kx S x d bits ss.length (0:Nat) 0 false,H⟩ (by unfold pa;unfold maxLen at hw;omega) (by omega) ⟨0,false,by simp[RF],rfl⟩ ?_ ?_
 ·obtain⟨ex,t,h,_,rfl,rfl⟩:=key
  generalize vh x bits d 0 ss (0,false)=r at *
  simp -implicitDefEqProofs only[SP,SA,SQ,sevalprocAttr,wi,ls,hid,Fp,tidy,Jc,Kx,h]
  simp only[Kx] at h
  have h':pb (ma (qa call Cb) (fun s=>some (tidy [2,4,8,9,16,17,18] s))) pa ⟨((((((Tr.lf.set 18 (.pv (i64 0))).set 17 (.pv (i64 ss.length))).set 16 (.pv S)).set 9 (.pv (.bool false))).set 8 (.pv (u32 0))).set 4 (.pv (.rp [i64 d,u32 bits] 0))).set 2 (.pv (i64 x)),H⟩=_:=h
  simp only[tidy,Jc] at h'
  rw[h']
  simp -implicitDefEqProofs only[SP,SA,SQ,sevalprocAttr,Hc]
 ·rintro i hi t ⟨left,ends,rfl,hb⟩
  have hlit:=hS.lit (i:=i) (by simpa using hi)
  subst hlit
  have hg:(ss.map We)[i]? =some (.agg [.lit 1 (ss[i].parts.map Le),i64 ss[i].first]):=by simp[hi,We]
  have hdr:ss.drop i=ss[i]::ss.drop (i+1):=List.drop_eq_getElem_cons hi
  have hJ:H++RF (ss.take (i+1))=H++RF (ss.take i)++[.box [.pv (.lit 1 (ss[i].parts.map Le)),.pv (i64 ss[i].first)]]:=by
   rw[List.take_succ_eq_append_getElem hi,RF,List.map_append,List.append_assoc];rfl
  rw[hdr,vh] at hb
  cases hbit:uz bits i with
  |false=>
   rw[hbit] at hb
   refine .inl ⟨_,CV call _ _ x bits left d ends i ss.length hi (by simp) hw _ _ hg hbit,left,ends,by rw[hJ],hb⟩
  |true=>
   have hdl:=Ba i ss[i] (by simp[hi]) hbit
   have hp:(ss[i].parts.map Le)[d]? =some (.lit 2 (Xd ss[i].parts[d])):=by simp[hdl,Le]
   have hc:=EO (hsz ss[i] (List.getElem_mem hi) ss[i].parts[d] (List.getElem_mem hdl)) x
   have hat:eu ss[i] d x=PQ ss[i].parts[d] x:=by simp[eu,hdl]
   rw[hbit,hat,Bool.true_and] at hb
   cases hh:PQ ss[i].parts[d] x with
   |false=>
    rw[hh] at hb hc
    refine .inl ⟨_,BW call _ _ x bits left d ends i ss.length hi (by simp) hw _ _ hg hbit _ hp (by simpa using hdl) hd hc,left,ends,by rw[hJ],hb⟩
   |true=>
    rw[hh] at hb hc
    refine .inl ⟨_,xX call _ _ x bits left d ends i ss.length hi (by simp) hw _ _ hg hbit _ hp (by simpa using hdl) hd hc,_,_,by rw[hJ],?_⟩
    rw[hb]
    simp
 ·rintro t ⟨left,ends,rfl,hb⟩
  rw[List.drop_length] at hb
  simp only[vh] at hb
  refine⟨.exit 0,_,?_,rfl,rfl,rfl⟩
  rw[hb,List.take_length]
  have e1:decide ((ss.length:Int) < (ss.length:Int))=false:=Ha (by omega)
  simp -implicitDefEqProofs only[SP,SA,SQ,sevalprocAttr,ma,Cb,e1,Kx]
end
end Go.AM.B1
namespace Go.AM.B1
open Go.AM
abbrev Al:=Nat×Int
def ei (a:Al):PV:= .agg [i64 a.1,u32 a.2]
def GC (l:List Al) (k:Nat):List (PV×PV):=(l.zipIdx k).map fun p=>(ei p.1,i64 p.2)
theorem GA (a:Al) (l:List Al) (k:Nat):GC (a::l) k=(ei a,i64 k)::GC l (k+1):=rfl
theorem QG (a:Al):∀ (l:List Al) (k:Nat),GC (l++[a]) k=GC l k++[(ei a,i64 (k+l.length:Nat))]
 | [],k=>by simp[GC]
 |b::l,k=>by rw[List.cons_append,GA,QG a l (k+1),GA];simp;omega
theorem JC (a b:Al):zk (.row [1,1]) (ei a) (ei b)=some (decide (a=b)):=by
 obtain⟨a1,a2⟩:=a;obtain⟨b1,b2⟩:=b
 simp only[ei,zk,si,Mq,if_true,Option.bind_some,Option.map_some,Bool.and_true,Prod.mk.injEq,Bool.decide_and]
 congr 1
 rw[Bool.eq_iff_iff]
 simp
 intro _
 omega
def Nl (a:Al):List Al→Nat→Option Nat
 | [],_=>none
 |b::l,k=>if a=b then some k else Nl a l (k+1)
theorem zH (a:Al):∀ (l:List Al) (k j:Nat),Yl (.row [1,1]) (ei a) (GC l k) j=some ((Nl a l k).map fun i=>(j+(i - k),i64 i)):=by
 intro l
 induction l with
 |nil=>intro k j;rfl
 |cons b l ih=>
  intro k j
  rw[GA,Yl,JC]
  simp only[Option.bind_some,Nl]
  by_cases h:a=b
  ·simp[h]
  ·rw[if_neg h,ih]
   simp only[h,decide_false,Bool.false_eq_true,if_false,Option.some.injEq]
   cases hi:Nl a l (k+1) with
   |none=>rfl
   |some i=>
    have:k+1≤i:=by
     clear ih
     induction l generalizing k with
     |nil=>simp[Nl] at hi
     |cons c l ihl=>
      simp only[Nl] at hi
      split at hi
      ·injection hi with hi;omega
      ·have:=ihl (k+1) hi;omega
    simp only[Option.map_some,Option.some.injEq,Prod.mk.injEq,and_true]
    omega
abbrev Gj (R0 R1:ba) (S:PV) (nl:Bool) (sets:List Al) (rows:ba) (n:Nat) (T:List ba):List ba:=
 R0::R1:: .map (GC sets 0):: .box [.pv S,.mp 2,.uq 4 nl 2 (sets.map ei),.own 5 n]:: .tok 2 sets.length nl::rows::T
section
variable (call:Ta) (R0 R1:ba) (S:PV) (nl:Bool) (sets:List Al) (rows:ba) (n:Nat) (T:List ba) (a:Al)
theorem XU {i:Nat} (h:Nl a sets 0=some i):
 xe call ie [.ptr 3 0,.pv (ei a)] (Gj R0 R1 S nl sets rows n T)=some (.pv (.ic [i64 i,.bool true]),Gj R0 R1 S nl sets rows n T):=by
 have hf:=zH a sets 0 0
 rw[h] at hf
 simp only[Option.map_some] at hf
 have hk:(zk (.row [1,1]) (ei a) (ei a)).isSome=true:=by rw[JC];rfl
 simp only[ei] at hf hk
 simp -implicitDefEqProofs only[SP,SA,SQ,sevalprocAttr,ei,ie,hf,eq_true hk]
theorem US (h:Nl a sets 0=none) (hl:sets.length=64):
 xe call ie [.ptr 3 0,.pv (ei a)] (Gj R0 R1 S nl sets rows n T)=some (.pv (.ic [i64 0,.bool false]),Gj R0 R1 S nl sets rows n T):=by
 have hf:=zH a sets 0 0
 rw[h] at hf
 simp only[Option.map_none] at hf
 have hk:(zk (.row [1,1]) (ei a) (ei a)).isSome=true:=by rw[JC];rfl
 have e1:(((sets.map ei).length:Int)==64)=true:=by simp[hl]
 simp only[ei] at hf hk
 simp -implicitDefEqProofs only[SP,SA,SQ,sevalprocAttr,ie,ei,hf,eq_true hk,e1]
theorem oO (h:Nl a sets 0=none) (hl:sets.length < 64):
 xe call ie [.ptr 3 0,.pv (ei a)] (Gj R0 R1 S nl sets rows n T)=some (.pv (.ic [i64 sets.length,.bool true]),Gj R0 R1 S false (sets++[a]) rows n T):=by
 have hf:=zH a sets 0 0
 rw[h] at hf
 simp only[Option.map_none] at hf
 have hk:(zk (.row [1,1]) (ei a) (ei a)).isSome=true:=by rw[JC];rfl
 have e1:((sets.length:Int)==64)=false:=zi (by omega)
 have hp:=QG a sets 0
 rw[Nat.zero_add] at hp
 have q1:ab (sets.length+1) 16:=by unfold ab;omega
 have hlen:(sets.map ei).length=sets.length:=by simp
 have hlen2:(sets++[a]).length=sets.length+1:=by simp
 have hmap:(sets++[a]).map ei=sets.map ei++[ei a]:=by simp
 unfold Gj
 rw[hp,hlen2,hmap]
 simp only[ei] at hf hk ⊢
 simp -implicitDefEqProofs only[SP,SA,SQ,sevalprocAttr,ie,hf,eq_true hk,e1,hlen,eq_true q1,yi,AV.KC,AV.Lo]
end
end Go.AM.B1
namespace Go.AM.B1
open Go.AM
theorem Bm (n:Nat) (cs:List AV):oa n (.box cs)=(Pa (AV.cut n deep) cs).map .box:=rfl
theorem Sm (n:Nat) (es:List (PV×PV)):oa n (.map es)=some (.map es):=rfl
theorem Ps (n sz:Nat) (ag:Bool) (cs:List AV) (fl:Nat) (nl:Bool):oa n (.seq sz ag cs fl nl)=if cs.all (AV.ue n deep)=true then some (.seq sz ag cs fl nl) else none:=rfl
theorem Wm (n sz m:Nat) (nl:Bool):oa n (.tok sz m nl)=some (.tok sz m nl):=rfl
def Qg (ss:List qc) (a:Al) (x:Int) (sets:List Al):Option (List Al×Int):=
 if (vh x a.2 a.1 0 ss (0,false)).1=0 then some (sets,-2)
 else if (vh x a.2 a.1 0 ss (0,false)).2=true then some (sets,-1)
 else match Nl (a.1+1,(vh x a.2 a.1 0 ss (0,false)).1) sets 0 with
  |some k=>some (sets,(k:Int))
  |none=>if sets.length < 64 then some (sets++[(a.1+1,(vh x a.2 a.1 0 ss (0,false)).1)],(sets.length:Int)) else none
inductive ju (k:Nat) (v:AV) (o:ba):Option (Ex×St)→Prop
 |mk (s:St):s.env.get k=v→s.H[0]? =some o→ju k v o (some (.ret,s))
theorem fF {k:Nat} {v:AV} {o:ba} {s:St}:ju k v o (some (.ret,s))=(s.env.get k=v∧s.H[0]? =some o):=
 propext ⟨fun h=>by cases h with | mk _ h h'=>exact⟨h,h'⟩,fun h=> .mk s h.1 h.2⟩
theorem Tq {k:Nat} {v:AV} {o:ba} {r:Option (Ex×St)} (h:ju k v o r):∃ t,r=some (.ret,t)∧t.env.get k=v∧t.H[0]? =some o:=by
 cases h with | mk s h h'=>exact⟨s,rfl,h,h'⟩
def Ja (l:List Int):List AV:=l.map fun n=> .pv (i64 n)
theorem nj (l:List Int) (x:Nat) (v:Int):(Ja l).set x (.pv (i64 v))=Ja (l.set x v):=by simp[Ja,List.map_set]
theorem ib (l:List Int):(Ja l).length=l.length:=by simp[Ja]
theorem Sp (n d:Nat) (l:List Int):Pa (AV.cut n d) (Ja l)=some (Ja l):=by
 induction l with
 |nil=>rfl
 |cons a l ih=>simp only[Ja,List.map_cons,Pa,Qa,Option.bind_some] at ih ⊢;rw[ih];rfl
abbrev nm (i x:Int):Tr:=(((Tr.lf.set 30 (.pv (i64 x))).set 4 (.ptr 6 0)).set 3 (.pv (i64 i))).set 0 (.ptr 3 0)
section
variable (R0 R1:ba) (S:PV) (nl:Bool) (sets:List Al) (rows:ba) (n:Nat) (row:List Int) (ss:List qc) (i x:Nat) (a:Al)
 (h0:oa 7 R0=some R0) (h1:oa 7 R1=some R1) (hr:oa 7 rows=some rows) (hrow:row.length=256) (hx:x < 256)
 (hi:i < sets.length) (ha:(sets.map ei)[i]? =some (.agg [i64 a.1,u32 a.2])) (had:a.1 < 4611686018427387904)
 (hS:Vh 2 S (ss.map We)) (hw:ss.length≤maxLen)
 (Ba:∀ i s,ss[i]? =some s→uz a.2 i=true→a.1 < s.parts.length) (hsz:∀ s∈ss,∀ l∈s.parts,l.length * 16≤140737488355328)
include h0 h1 hr hrow hx hi ha had hS hw Ba hsz
theorem pP (hb:(vh x a.2 a.1 0 ss (0,false)).1=0):
 Vc (Ca Da 7) [0,3,4,30] Ka 7 ⟨nm i x,Gj R0 R1 S nl sets rows n [.box (Ja row)]⟩=
  some (.norm,⟨nm i (x+1:Nat),Gj R0 R1 S nl sets rows n [.box (Ja (row.set x (-2)))]⟩):=by
 have e1:decide ((x:Int) < 256)=true:=Fa (by omega)
 have hlen:(sets.map ei).length=sets.length:=by simp
 have hq:Ga (i:Int) sets.length:=by unfold Ga;omega
 have hq2:Ga (x:Int) 256:=by unfold Ga;omega
 have t1:((i:Int)).toNat=i:=by simp
 have t3:((x:Int)).toNat=x:=by simp
 have t2:=eb (i:=x) (n:=256) hx (by unfold maxLen;omega)
 have hbeh:=Hq (Ca Da 6) (Gj R0 R1 S nl sets rows n [.box (Ja row)]) 3 _ S ss x a.2 a.1 rfl hS hw had Ba hsz
 rw[hb] at hbeh
 have hle:x+1≤(Ja row).length:=by rw[ib];omega
 have hz:(((0:Nat)+x+1)≤(Ja row).length)=True:=by simp only[eq_iff_iff,iff_true];omega
 simp only[Gj,List.cons_append,List.nil_append] at hbeh
 generalize (vh x a.2 a.1 0 ss (0,false)).2=ends at *
 simp -implicitDefEqProofs only[SP,SA,SQ,sevalprocAttr,Vc,ma,Ka,Da,e1,hlen,eq_true hq,eq_true hq2,t1,t2,t3,ha,hbeh,hz,eq_true hle,nj,wa,na,za,Bm,Sm,Wm,Qa,Sp,AV.cut,Hc,h0,h1,hr,nm,Gj]
theorem tS (hb:(vh x a.2 a.1 0 ss (0,false)).1≠0) (hb2:(vh x a.2 a.1 0 ss (0,false)).2=true):
 Vc (Ca Da 7) [0,3,4,30] Ka 7 ⟨nm i x,Gj R0 R1 S nl sets rows n [.box (Ja row)]⟩=
  some (.norm,⟨nm i (x+1:Nat),Gj R0 R1 S nl sets rows n [.box (Ja (row.set x (-1)))]⟩):=by
 have e1:decide ((x:Int) < 256)=true:=Fa (by omega)
 have hlen:(sets.map ei).length=sets.length:=by simp
 have hq:Ga (i:Int) sets.length:=by unfold Ga;omega
 have hq2:Ga (x:Int) 256:=by unfold Ga;omega
 have t1:((i:Int)).toNat=i:=by simp
 have t3:((x:Int)).toNat=x:=by simp
 have t2:=eb (i:=x) (n:=256) hx (by unfold maxLen;omega)
 have hbeh:=Hq (Ca Da 6) (Gj R0 R1 S nl sets rows n [.box (Ja row)]) 3 _ S ss x a.2 a.1 rfl hS hw had Ba hsz
 rw[hb2] at hbeh
 have hle:x+1≤(Ja row).length:=by rw[ib];omega
 have hz:(((0:Nat)+x+1)≤(Ja row).length)=True:=by simp only[eq_iff_iff,iff_true];omega
 simp only[Gj,List.cons_append,List.nil_append] at hbeh
 have e4:=zi hb
 generalize (vh x a.2 a.1 0 ss (0,false)).1=left at *
 simp -implicitDefEqProofs only[SP,SA,SQ,sevalprocAttr,Vc,ma,Ka,Da,e1,hlen,eq_true hq,eq_true hq2,t1,t2,t3,ha,hbeh,e4,hz,eq_true hle,nj,wa,na,za,Bm,Sm,Wm,Qa,Sp,AV.cut,Hc,h0,h1,hr,nm,Gj]
theorem sS (hb:(vh x a.2 a.1 0 ss (0,false)).1≠0) (hb2:(vh x a.2 a.1 0 ss (0,false)).2=false) {k:Nat} (hk:Nl (a.1+1,(vh x a.2 a.1 0 ss (0,false)).1) sets 0=some k):
 Vc (Ca Da 7) [0,3,4,30] Ka 7 ⟨nm i x,Gj R0 R1 S nl sets rows n [.box (Ja row)]⟩=
  some (.norm,⟨nm i (x+1:Nat),Gj R0 R1 S nl sets rows n [.box (Ja (row.set x k))]⟩):=by
 have e1:decide ((x:Int) < 256)=true:=Fa (by omega)
 have hlen:(sets.map ei).length=sets.length:=by simp
 have hq:Ga (i:Int) sets.length:=by unfold Ga;omega
 have hq2:Ga (x:Int) 256:=by unfold Ga;omega
 have t1:((i:Int)).toNat=i:=by simp
 have t3:((x:Int)).toNat=x:=by simp
 have t2:=eb (i:=x) (n:=256) hx (by unfold maxLen;omega)
 have hbeh:=Hq (Ca Da 6) (Gj R0 R1 S nl sets rows n [.box (Ja row)]) 3 _ S ss x a.2 a.1 rfl hS hw had Ba hsz
 rw[hb2] at hbeh
 have hle:x+1≤(Ja row).length:=by rw[ib];omega
 have hz:(((0:Nat)+x+1)≤(Ja row).length)=True:=by simp only[eq_iff_iff,iff_true];omega
 simp only[Gj,List.cons_append,List.nil_append] at hbeh
 have e4:=zi hb
 have t5:IntKind.i64.wrap ((a.1:Int)+1)=((a.1+1:Nat):Int):=Aa (by omega)
 have hmet:=XU (Ca Da 6) R0 R1 S nl sets rows n (.box (Ja row)::RF ss) (a.1+1,(vh x a.2 a.1 0 ss (0,false)).1) hk
 simp only[Gj,ei] at hmet
 generalize (vh x a.2 a.1 0 ss (0,false)).1=left at *
 simp -implicitDefEqProofs only[SP,SA,SQ,sevalprocAttr,Vc,ma,Ka,Da,e1,hlen,eq_true hq,eq_true hq2,t1,t2,t3,ha,hbeh,hmet,t5,e4,hz,eq_true hle,nj,wa,na,za,Bm,Sm,Wm,Qa,Sp,AV.cut,Hc,h0,h1,hr,nm,Gj]
theorem gT (hb:(vh x a.2 a.1 0 ss (0,false)).1≠0) (hb2:(vh x a.2 a.1 0 ss (0,false)).2=false) (hk:Nl (a.1+1,(vh x a.2 a.1 0 ss (0,false)).1) sets 0=none) (hl:sets.length < 64):
 Vc (Ca Da 7) [0,3,4,30] Ka 7 ⟨nm i x,Gj R0 R1 S nl sets rows n [.box (Ja row)]⟩=
  some (.norm,⟨nm i (x+1:Nat),Gj R0 R1 S false (sets++[(a.1+1,(vh x a.2 a.1 0 ss (0,false)).1)]) rows n [.box (Ja (row.set x (sets.length:Int)))]⟩):=by
 have e1:decide ((x:Int) < 256)=true:=Fa (by omega)
 have hlen:(sets.map ei).length=sets.length:=by simp
 have hq:Ga (i:Int) sets.length:=by unfold Ga;omega
 have hq2:Ga (x:Int) 256:=by unfold Ga;omega
 have t1:((i:Int)).toNat=i:=by simp
 have t3:((x:Int)).toNat=x:=by simp
 have t2:=eb (i:=x) (n:=256) hx (by unfold maxLen;omega)
 have hbeh:=Hq (Ca Da 6) (Gj R0 R1 S nl sets rows n [.box (Ja row)]) 3 _ S ss x a.2 a.1 rfl hS hw had Ba hsz
 rw[hb2] at hbeh
 have hle:x+1≤(Ja row).length:=by rw[ib];omega
 have hz:(((0:Nat)+x+1)≤(Ja row).length)=True:=by simp only[eq_iff_iff,iff_true];omega
 simp only[Gj,List.cons_append,List.nil_append] at hbeh
 have e4:=zi hb
 have t5:IntKind.i64.wrap ((a.1:Int)+1)=((a.1+1:Nat):Int):=Aa (by omega)
 have hmet:=oO (Ca Da 6) R0 R1 S nl sets rows n (.box (Ja row)::RF ss) (a.1+1,(vh x a.2 a.1 0 ss (0,false)).1) hk hl
 simp only[Gj,ei] at hmet ⊢
 generalize (vh x a.2 a.1 0 ss (0,false)).1=left at *
 simp -implicitDefEqProofs only[SP,SA,SQ,sevalprocAttr,Vc,ma,Ka,Da,e1,hlen,eq_true hq,eq_true hq2,t1,t2,t3,ha,hbeh,hmet,t5,e4,hz,eq_true hle,nj,wa,na,za,Bm,Sm,Wm,Qa,Sp,AV.cut,Hc,h0,h1,hr,nm,Gj]
end
section
variable (R0 R1:ba) (S:PV) (nl:Bool) (sets:List Al) (rows:ba) (n:Nat) (row:List Int) (ss:List qc) (i x:Nat) (a:Al)
 (hrow:row.length=256) (hx:x < 256)
 (hi:i < sets.length) (ha:(sets.map ei)[i]? =some (.agg [i64 a.1,u32 a.2])) (had:a.1 < 4611686018427387904)
 (hS:Vh 2 S (ss.map We)) (hw:ss.length≤maxLen)
 (Ba:∀ i s,ss[i]? =some s→uz a.2 i=true→a.1 < s.parts.length) (hsz:∀ s∈ss,∀ l∈s.parts,l.length * 16≤140737488355328)
include hrow hx hi ha had hS hw Ba hsz
theorem CP (hb:(vh x a.2 a.1 0 ss (0,false)).1≠0) (hb2:(vh x a.2 a.1 0 ss (0,false)).2=false) (hk:Nl (a.1+1,(vh x a.2 a.1 0 ss (0,false)).1) sets 0=none) (hl:sets.length=64):
 ju 2 (.pv (.bool false)) R0 (Vc (Ca Da 7) [0,3,4,30] Ka 7 ⟨nm i x,Gj R0 R1 S nl sets rows n [.box (Ja row)]⟩):=by
 have e1:decide ((x:Int) < 256)=true:=Fa (by omega)
 have hlen:(sets.map ei).length=sets.length:=by simp
 have hq:Ga (i:Int) sets.length:=by unfold Ga;omega
 have hq2:Ga (x:Int) 256:=by unfold Ga;omega
 have t1:((i:Int)).toNat=i:=by simp
 have t3:((x:Int)).toNat=x:=by simp
 have t2:=eb (i:=x) (n:=256) hx (by unfold maxLen;omega)
 have hbeh:=Hq (Ca Da 6) (Gj R0 R1 S nl sets rows n [.box (Ja row)]) 3 _ S ss x a.2 a.1 rfl hS hw had Ba hsz
 rw[hb2] at hbeh
 have hle:x+1≤(Ja row).length:=by rw[ib];omega
 have hz:(((0:Nat)+x+1)≤(Ja row).length)=True:=by simp only[eq_iff_iff,iff_true];omega
 simp only[Gj,List.cons_append,List.nil_append] at hbeh
 have e4:=zi hb
 have t5:IntKind.i64.wrap ((a.1:Int)+1)=((a.1+1:Nat):Int):=Aa (by omega)
 have hmet:=US (Ca Da 6) R0 R1 S nl sets rows n (.box (Ja row)::RF ss) (a.1+1,(vh x a.2 a.1 0 ss (0,false)).1) hk hl
 simp only[Gj,ei] at hmet
 generalize (vh x a.2 a.1 0 ss (0,false)).1=left at *
 simp -implicitDefEqProofs only[SP,SA,SQ,sevalprocAttr,Vc,ma,Ka,Da,e1,hlen,eq_true hq,eq_true hq2,t1,t2,t3,ha,hbeh,hmet,t5,e4,fF,hz,eq_true hle,nj,wa,nm,Gj]
end
end Go.AM.B1
namespace Go.AM.B1
open Go.AM
def Hk (ss:List qc) (a:Al):List Nat→List Al×List Int→Option (List Al×List Int)
 | [],r=>some r
 |x::xs,r=>match Qg ss a x r.1 with
  |some p=>Hk ss a xs (p.1,r.2.set x p.2)
  |none=>none
theorem Nt {ss:List qc} {a:Al} {x:Nat} {xs:List Nat} {r:List Al×List Int} (h:Qg ss a x r.1=none):Hk ss a (x::xs) r=none:=by
 rw[Hk,h]
theorem au {ss:List qc} {a:Al} {x:Nat} {xs:List Nat} {r:List Al×List Int} {p:List Al×Int} (h:Qg ss a x r.1=some p):Hk ss a (x::xs) r=Hk ss a xs (p.1,r.2.set x p.2):=by
 rw[Hk,h]
theorem mq {n x:Nat} (h:x < n):(List.range n).drop x=x::(List.range n).drop (x+1):=by
 rw[List.drop_eq_getElem_cons (by simpa using h)];simp
theorem RB {ss:List qc} {a:Al} {x:Int} {sets:List Al} {r:List Al×Int} (h:Qg ss a x sets=some r) (hl:sets.length≤64):r.1.length≤64∧∃ t,r.1=sets++t:=by
 unfold Qg at h
 split at h
 ·injection h with h;subst h;exact⟨hl,[],by simp⟩
 ·split at h
  ·injection h with h;subst h;exact⟨hl,[],by simp⟩
  ·split at h
   ·injection h with h;subst h;exact⟨hl,[],by simp⟩
   ·split at h
    ·injection h with h;subst h;exact⟨by simp;omega,_,rfl⟩
    ·cases h
section
variable (R0 R1:ba) (S:PV) (rows:ba) (n:Nat) (ss:List qc)
 (h0:oa 7 R0=some R0) (h1:oa 7 R1=some R1) (hr:oa 7 rows=some rows)
 (hS:Vh 2 S (ss.map We)) (hw:ss.length≤maxLen)
 (hsz:∀ s∈ss,∀ l∈s.parts,l.length * 16≤140737488355328)
include h0 h1 hr hS hw hsz
theorem TM {nl:Bool} {sets:List Al} {row:List Int} {i x:Nat} {a:Al} (hrow:row.length=256) (hx:x < 256) (ha:sets[i]? =some a) (had:a.1 < 4611686018427387904) (hl:sets.length≤64)
 (Ba:∀ i s,ss[i]? =some s→uz a.2 i=true→a.1 < s.parts.length):
 (∀ r,Qg ss a x sets=some r→∃ nl',Vc (Ca Da 7) [0,3,4,30] Ka 7 ⟨nm i x,Gj R0 R1 S nl sets rows n [.box (Ja row)]⟩=
  some (.norm,⟨nm i (x+1:Nat),Gj R0 R1 S nl' r.1 rows n [.box (Ja (row.set x r.2))]⟩))∧
 (Qg ss a x sets=none→ju 2 (.pv (.bool false)) R0 (Vc (Ca Da 7) [0,3,4,30] Ka 7 ⟨nm i x,Gj R0 R1 S nl sets rows n [.box (Ja row)]⟩)):=by
 have hi:i < sets.length:=(List.getElem?_eq_some_iff.1 ha).1
 have ha':(sets.map ei)[i]? =some (.agg [i64 a.1,u32 a.2]):=by rw[List.getElem?_map,ha];rfl
 by_cases hb:(vh x a.2 a.1 0 ss (0,false)).1=0
 ·have hst:=(show Qg ss a x sets=some (sets,-2) by unfold Qg;rw[if_pos hb])
  rw[hst]
  exact⟨fun r e=>by injection e with e;subst e;exact⟨nl,pP R0 R1 S nl sets rows n row ss i x a h0 h1 hr hrow hx hi ha' had hS hw Ba hsz hb⟩,fun e=>by cases e⟩
 by_cases hb2:(vh x a.2 a.1 0 ss (0,false)).2=true
 ·have hst:=(show Qg ss a x sets=some (sets,-1) by unfold Qg;rw[if_neg hb,if_pos hb2])
  rw[hst]
  exact⟨fun r e=>by injection e with e;subst e;exact⟨nl,tS R0 R1 S nl sets rows n row ss i x a h0 h1 hr hrow hx hi ha' had hS hw Ba hsz hb hb2⟩,fun e=>by cases e⟩
 have hb3:(vh x a.2 a.1 0 ss (0,false)).2=false:=by simpa using hb2
 cases hk:Nl (a.1+1,(vh x a.2 a.1 0 ss (0,false)).1) sets 0 with
 |some k=>
  have hst:=(show Qg ss a x sets=some (sets,(k:Int)) by unfold Qg;rw[if_neg hb,if_neg hb2,hk])
  rw[hst]
  exact⟨fun r e=>by injection e with e;subst e;exact⟨nl,sS R0 R1 S nl sets rows n row ss i x a h0 h1 hr hrow hx hi ha' had hS hw Ba hsz hb hb3 hk⟩,fun e=>by cases e⟩
 |none=>
  by_cases hlt:sets.length < 64
  ·have hst:=(show Qg ss a x sets=some (sets++[(a.1+1,(vh x a.2 a.1 0 ss (0,false)).1)],(sets.length:Int)) by unfold Qg;rw[if_neg hb,if_neg hb2,hk];simp only[if_pos hlt])
   rw[hst]
   exact⟨fun r e=>by injection e with e;subst e;exact⟨false,gT R0 R1 S nl sets rows n row ss i x a h0 h1 hr hrow hx hi ha' had hS hw Ba hsz hb hb3 hk hlt⟩,fun e=>by cases e⟩
  ·have hst:=(show Qg ss a x sets=none by unfold Qg;rw[if_neg hb,if_neg hb2,hk];simp only[if_neg hlt])
   rw[hst]
   exact⟨fun r e=>(by cases e),fun _=>CP R0 R1 S nl sets rows n row ss i x a hrow hx hi ha' had hS hw Ba hsz hb hb3 hk (by omega)⟩
theorem AS {nl:Bool} {sets:List Al} {row:List Int} {i:Nat} {a:Al} (hrow:row.length=256) (ha:sets[i]? =some a) (had:a.1 < 4611686018427387904) (hl:sets.length≤64)
 (Ba:∀ i s,ss[i]? =some s→uz a.2 i=true→a.1 < s.parts.length):
 (∀ r,Hk ss a (List.range 256) (sets,row)=some r→∃ nl',pb (ma (qa (Ca Da 7) Ka) (na 7 [0,3,4,30])) pa ⟨nm i 0,Gj R0 R1 S nl sets rows n [.box (Ja row)]⟩=
  some (.exit 2,⟨(nm i 256).set 31 (.pv (.bool false)),Gj R0 R1 S nl' r.1 rows n [.box (Ja r.2)]⟩)∧r.1.length≤64∧r.2.length=256∧∃ t,r.1=sets++t)∧
 (Hk ss a (List.range 256) (sets,row)=none→ju 2 (.pv (.bool false)) R0 (pb (ma (qa (Ca Da 7) Ka) (na 7 [0,3,4,30])) pa ⟨nm i 0,Gj R0 R1 S nl sets rows n [.box (Ja row)]⟩)):=by
 generalize hxs:List.range 256=xs
 have key:=Ck (g:=Vc (Ca Da 7) [0,3,4,30] Ka 7)
  (fun x t=>∃ nl' sets' row',t=⟨nm i x,Gj R0 R1 S nl' sets' rows n [.box (Ja row')]⟩∧Hk ss a xs (sets,row)=Hk ss a (xs.drop x) (sets',row')∧sets'.length≤64∧row'.length=256∧∃ t,sets'=sets++t)
  (fun ex t=>(∃ r,ex= .exit 2∧Hk ss a xs (sets,row)=some r∧∃ nl',t=⟨(nm i 256).set 31 (.pv (.bool false)),Gj R0 R1 S nl' r.1 rows n [.box (Ja r.2)]⟩∧r.1.length≤64∧r.2.length=256∧∃ t,r.1=sets++t)∨
   (ex= .ret∧Hk ss a xs (sets,row)=none∧t.env.get 2= .pv (.bool false)∧t.H[0]? =some R0))
  pa 256 0 ⟨nm i (0:Nat),Gj R0 R1 S nl sets rows n [.box (Ja row)]⟩ (by unfold pa;omega) (by omega) ⟨nl,sets,row,rfl,rfl,hl,hrow,[],by simp⟩ ?_ ?_
 ·obtain⟨ex,t,h,_,hq⟩:=key
  have h':pb (ma (qa (Ca Da 7) Ka) (na 7 [0,3,4,30])) pa ⟨nm i 0,Gj R0 R1 S nl sets rows n [.box (Ja row)]⟩=some (ex,t):=h
  rw[h']
  rcases hq with⟨r,rfl,hr',nl',rfl,q1,q2,q3⟩ | ⟨rfl,hr',hg,hg2⟩
  ·refine⟨fun r2 e=> ?_,fun e=> ?_⟩
   ·rw[hr'] at e;injection e with e;subst e;exact⟨nl',rfl,q1,q2,q3⟩
   ·rw[hr'] at e;cases e
  ·refine⟨fun r2 e=> ?_,fun _=> .mk _ hg hg2⟩
   rw[hr'] at e;cases e
 ·rintro x hx t ⟨nl',sets',row',rfl,hrs,hl',hrow',tl,hts⟩
  have ha':sets'[i]? =some a:=by
   rw[hts,List.getElem?_append_left (List.getElem?_eq_some_iff.1 ha).1];exact ha
  have hd:=mq hx
  rw[hxs] at hd
  have hsr:=TM R0 R1 S rows n ss h0 h1 hr hS hw hsz (nl:=nl') hrow' hx ha' had hl' Ba
  rw[hd] at hrs
  cases hst:Qg ss a x sets' with
  |none=>
   rw[Nt hst] at hrs
   obtain⟨t,g1,g2,g3⟩:=Tq (hsr.2 hst)
   exact .inr ⟨.ret,t,g1,rfl,.inr ⟨rfl,hrs,g2,g3⟩⟩
  |some r=>
   rw[au hst] at hrs
   obtain⟨nl2,g1⟩:=hsr.1 r hst
   obtain⟨k1,t2,k2⟩:=RB hst hl'
   exact .inl ⟨_,g1,nl2,r.1,row'.set x r.2,rfl,hrs,k1,by simpa using hrow',tl++t2,by rw[k2,hts,List.append_assoc]⟩
 ·rintro t ⟨nl',sets',row',rfl,hrs,hl',hrow',tl,hts⟩
  rw[List.drop_eq_nil_of_le (by rw[← hxs,List.length_range];exact Nat.le_refl _)] at hrs
  refine⟨.exit 2,_,?_,rfl,.inl ⟨(sets',row'),rfl,hrs,nl',rfl,hl',hrow',tl,hts⟩⟩
  have e1:decide (((256:Nat):Int) < 256)=false:=by decide
  simp -implicitDefEqProofs only[SP,SA,SQ,sevalprocAttr,Vc,ma,Ka,e1,nm,Gj]
end
end Go.AM.B1
namespace Go.AM.B1
open Go.AM
def Yg (rs:List (List Int)):ba:= .seq 256 true (rs.flatMap Ja) 0 rs.isEmpty
theorem dt (l:List Int):Ja l=(l.map i64).map .pv:=by simp[Ja]
theorem yt (l:List Int):Dd (Ja l)=some (l.map i64):=by
 rw[dt]
 induction l with
 |nil=>rfl
 |cons a l ih=>simp only[List.map_cons,Dd,ih,Option.map_some]
theorem pF (l:List Int):(Ja l).all AV.one=true:=by
 induction l with
 |nil=>rfl
 |cons a l ih=>simp only[Ja,List.map_cons,List.all_cons,AV.one,Bool.true_and] at ih ⊢;exact ih
theorem UX:List.map AV.pv (List.replicate 256 (PV.int .i64 0))=Ja (List.replicate 256 0):=by
 simp only[Ja,List.map_replicate]
theorem zy {α:Type}:∀ (vs cs pre:List α),cs.length=vs.length→ga (pre++cs) pre.length vs=pre++vs
 | [],cs,pre,h=>by simp at h;subst h;rfl
 |v::vs,c::cs,pre,h=>by
  rw[ga]
  have h1:(pre++c::cs).set pre.length v=(pre++[v])++cs:=by
   rw[List.set_append_right _ _ (Nat.le_refl _)];simp
  rw[h1]
  have:=zy vs cs (pre++[v]) (by simpa using h)
  simp only[List.length_append,List.length_cons,List.length_nil,Nat.zero_add] at this
  rw[this];simp
 |_::_,[],_,h=>by simp at h
theorem Cw (n d:Nat) (rs:List (List Int)):(rs.flatMap Ja).all (AV.ue n d)=true:=by
 rw[List.all_eq_true]
 intro v hv
 rw[List.mem_flatMap] at hv
 obtain⟨r,_,hv⟩:=hv
 simp only[Ja,List.mem_map] at hv
 obtain⟨x,_,rfl⟩:=hv
 cases d <;> rfl
theorem VE:∀ {rs:List (List Int)},(∀ r∈rs,r.length=256)→(rs.flatMap Ja).length=rs.length * 256
 | [],_=>rfl
 |r::rs,h=>by
  have:=VE (rs:=rs) (fun x hx=>h x (by simp[hx]))
  simp only[List.flatMap_cons,List.length_append,ib,h r (by simp),this,List.length_cons]
  omega
abbrev wA (i:Int):Tr:=(Tr.lf.set 3 (.pv (i64 i))).set 0 (.ptr 3 0)
section
variable (R0 R1:ba) (S:PV) (nl:Bool) (sets:List Al) (rs:List (List Int)) (ss:List qc) (i:Nat)
 (h0:oa 7 R0=some R0) (h1:oa 7 R1=some R1) (g0:oa 6 R0=some R0) (g1:oa 6 R1=some R1)
 (hi:i < sets.length) (hl:sets.length≤64) (hrl:rs.length≤64) (hrr:∀ r∈rs,r.length=256)
include h0 h1 g0 g1 hi hl hrl hrr
theorem MQ (nl':Bool) (sets':List Al) (row:List Int) (hrow:row.length=256)
 (hrowL:pb (ma (qa (Ca Da 7) Ka) (na 7 [0,3,4,30])) pa ⟨nm i 0,Gj R0 R1 S nl sets (Yg rs) rs.length [.box (Ja (List.replicate 256 0))]⟩=
  some (.exit 2,⟨(nm i 256).set 31 (.pv (.bool false)),Gj R0 R1 S nl' sets' (Yg rs) rs.length [.box (Ja row)]⟩)):
 Vc (Ca Da 7) [0,3] wb 6 ⟨wA i,Gj R0 R1 S nl sets (Yg rs) rs.length []⟩=
  some (.norm,⟨wA (i+1:Nat),Gj R0 R1 S nl' sets' (Yg (rs++[row])) (rs.length+1) []⟩):=by
 have hlen:(sets.map ei).length=sets.length:=by simp
 have e1:decide ((i:Int) < (sets.length:Int))=true:=Fa (by omega)
 have t2:=eb (i:=i) (n:=64) (by omega) (by unfold maxLen;omega)
 have p0:((Ja row).length=256)=True:=by rw[ib,hrow];exact eq_self _
 have p1:(256≤(Ja row).length)=True:=by rw[ib,hrow];exact eq_true (Nat.le_refl _)
 have p2:List.take 256 (Ja row)=Ja row:=List.take_of_length_le (by rw[ib,hrow];exact Nat.le_refl _)
 have p3:=yt row
 have p4:((row.map i64).length=256)=True:=by rw[List.length_map,hrow];exact eq_self _
 have p5:(256≤(Ja (List.replicate 256 0)).length)=True:=by rw[ib,List.length_replicate];exact eq_true (Nat.le_refl _)
 have p6:ga (Ja (List.replicate 256 0)) 0 (Ja row)=Ja row:=by
  have:=zy (Ja row) (Ja (List.replicate 256 0)) [] (by rw[ib,ib,hrow,List.length_replicate])
  rw[List.nil_append,List.nil_append] at this;exact this
 have p7:=pF row
 have p8:List.take 256 (row.map i64)=row.map i64:=List.take_of_length_le (by rw[List.length_map,hrow];exact Nat.le_refl _)
 have p9:(row.map i64).map AV.pv=Ja row:=(dt row).symm
 have q1:(rs.length * 256=(rs.flatMap Ja).length)=True:=by rw[VE hrr];exact eq_self _
 have q2:ab (rs.length+1) 2048:=by unfold ab;omega
 have q3:(rs++[row]).flatMap Ja=rs.flatMap Ja++Ja row:=by rw[List.flatMap_append,List.flatMap_cons,List.flatMap_nil,List.append_nil]
 have q4:(rs++[row]).isEmpty=false:=by cases rs <;> rfl
 have q5:=Cw 7 6 rs
 have q6:=Cw 6 6 (rs++[row])
 rw[q3] at q6
 simp only[nm,Gj,Yg,Int.cast_ofNat_Int] at hrowL
 unfold Gj Yg
 rw[q3,q4]
 have hz2:=UX
 generalize hz:List.replicate 256 (0:Int)=zs at *
 simp -implicitDefEqProofs only[SP,SA,SQ,sevalprocAttr,-List.reduceReplicate,Vc,ma,wb,hlen,e1,Fb,na,za,Bm,Sm,Wm,Ps,Qa,Sp,AV.cut,Hc,h0,h1,g0,g1,wA,hz2,q5]
 rw[hrowL]
 simp -implicitDefEqProofs only[SP,SA,SQ,sevalprocAttr,-List.reduceReplicate,List.append_nil,hlen,t2,p0,p1,p2,p3,p4,p5,p6,p7,p8,p9,q1,eq_true q2,q5,q6,yi,AV.KC,AV.Lo,hz2,Fj,na,za,Bm,Sm,Wm,Ps,Qa,Sp,AV.cut,Hc,h0,h1,g0,g1]
end
end Go.AM.B1
namespace Go.AM.B1
open Go.AM
theorem wrap_u32 {n:Nat} (h:n < 4294967296):IntKind.u32.wrap (n:Int)=(n:Int):=by
 have e:IntKind.u32.wrap (n:Int)=(n:Int) % 4294967296:=by
  simp[IntKind.signed,IntKind.wrap,IntKind.bits]
 rw[e];omega
theorem xT {a b:Nat} (ha:a < 4294967296) (hb:b < 4294967296):(BitVec.ofInt IntKind.u32.bits (a:Int) &&& BitVec.ofInt IntKind.u32.bits (b:Int)).toNat=a &&& b:=by
 show (BitVec.ofInt 32 (a:Int) &&& BitVec.ofInt 32 (b:Int)).toNat=_
 rw[BitVec.toNat_and,BitVec.ofInt_natCast,BitVec.ofInt_natCast,BitVec.toNat_ofNat,BitVec.toNat_ofNat,Nat.mod_eq_of_lt ha,Nat.mod_eq_of_lt hb]
theorem gW {a b:Nat} (ha:a < 4294967296) (hb:b < 4294967296):(BitVec.ofInt IntKind.u32.bits (a:Int) ||| BitVec.ofInt IntKind.u32.bits (b:Int)).toNat=a ||| b:=by
 show (BitVec.ofInt 32 (a:Int) ||| BitVec.ofInt 32 (b:Int)).toNat=_
 rw[BitVec.toNat_or,BitVec.ofInt_natCast,BitVec.ofInt_natCast,BitVec.toNat_ofNat,BitVec.toNat_ofNat,Nat.mod_eq_of_lt ha,Nat.mod_eq_of_lt hb]
theorem NK {n i:Nat} (hn:n < 4294967296) (hi:i < 32):uz (n:Int) i=n.testBit i:=by
 have hm:min i IntKind.u32.bits=i:=by show min i 32=i;omega
 have hf:(n:Int).fdiv (2 ^ i)=((n / 2 ^ i:Nat):Int):=by
  rw[show ((2:Int) ^ i)=((2 ^ i:Nat):Int) by push_cast;rfl]
  exact (Int.ofNat_fdiv n (2 ^ i)).symm
 have hle:n / 2 ^ i < 4294967296:=Nat.lt_of_le_of_lt (Nat.div_le_self _ _) hn
 have e:(BitVec.ofInt IntKind.u32.bits ((n / 2 ^ i:Nat):Int) &&& BitVec.ofInt IntKind.u32.bits 1).toNat=n / 2 ^ i % 2:=by
  have:=xT hle (show 1 < 4294967296 by decide)
  rw[Nat.and_one_is_mod] at this
  exact this
 unfold uz
 rw[hm,hf,e,wrap_u32 (by omega),Nat.testBit_eq_decide_div_mod_eq]
 rcases Nat.mod_two_eq_zero_or_one (n / 2 ^ i) with h | h <;> rw[h] <;> rfl
theorem NV {n i:Nat} (hn:n < 4294967296) (hi:i < 32):jY (n:Int) i=((n ||| 2 ^ i:Nat):Int):=by
 have hm:min i IntKind.u32.bits=i:=by show min i 32=i;omega
 have hp:2 ^ i < 4294967296:=by
  have:(2:Nat) ^ i < 2 ^ 32:=Nat.pow_lt_pow_right (by decide) hi
  simpa using this
 have h2:IntKind.u32.wrap (1 * 2 ^ i)=((2 ^ i:Nat):Int):=by
  rw[Int.one_mul,show ((2:Int) ^ i)=((2 ^ i:Nat):Int) by push_cast;rfl,wrap_u32 hp]
 unfold jY
 rw[hm,h2,gW hn hp,wrap_u32]
 exact Nat.or_lt_two_pow (n:=32) hn hp
def Ws (x:Int) (bits d:Nat):Nat→List qc→Nat×Bool→Nat×Bool
 |_,[],acc=>acc
 |i,s::r,acc=>Ws x bits d (i+1) r (if bits.testBit i&&eu s d x then (acc.1 ||| 2 ^ i,acc.2||(s.parts.length==d+1)) else acc)
theorem EH {x:Int} {bits d:Nat}:∀ (ss:List qc) (i:Nat) (acc:Nat×Bool),i+ss.length≤32→acc.1 < 4294967296→(Ws x bits d i ss acc).1 < 4294967296
 | [],i,acc,_,h=>h
 |s::r,i,acc,hl,h=>by
  rw[Ws]
  refine EH r (i+1) _ (by simp only[List.length_cons] at hl;omega) ?_
  split
  ·refine Nat.or_lt_two_pow (n:=32) h ?_
   exact Nat.pow_lt_pow_right (by decide) (by simp only[List.length_cons] at hl;omega)
  ·exact h
theorem tM {x:Int} {bits d:Nat} (hb:bits < 4294967296):∀ (ss:List qc) (i:Nat) (acc:Nat×Bool),i+ss.length≤32→acc.1 < 4294967296→
 vh x (bits:Int) d i ss ((acc.1:Int),acc.2)=(((Ws x bits d i ss acc).1:Int),(Ws x bits d i ss acc).2)
 | [],i,acc,_,h=>rfl
 |s::r,i,acc,hl,h=>by
  have hi:i < 32:=by simp only[List.length_cons] at hl;omega
  rw[vh,Ws,NK hb hi,NV h hi]
  have h2:(acc.1 ||| 2 ^ i) < 4294967296:=Nat.or_lt_two_pow (n:=32) h (Nat.pow_lt_pow_right (by decide) hi)
  have ih:=tM (x:=x) (d:=d) hb r (i+1) (if bits.testBit i&&eu s d x then (acc.1 ||| 2 ^ i,acc.2||(s.parts.length==d+1)) else acc)
   (by simp only[List.length_cons] at hl;omega) (by split;exact h2;exact h)
  rw[← ih]
  cases bits.testBit i&&eu s d x <;> rfl
theorem YA {x:Int} {bits d:Nat}:∀ (ss:List qc) (i:Nat) (acc:Nat×Bool) (j:Nat),
 (Ws x bits d i ss acc).1.testBit j=(acc.1.testBit j||(decide (i≤j)&&(match ss[j - i]? with | some s=>bits.testBit j&&eu s d x | none=>false)))
 | [],i,acc,j=>by simp[Ws]
 |s::r,i,acc,j=>by
  rw[Ws,YA r (i+1)]
  by_cases hij:i=j
  ·subst hij
   simp only[Nat.sub_self,List.getElem?_cons_zero,Nat.le_refl,decide_true,Bool.true_and]
   have:decide (i+1≤i)=false:=by simp
   rw[this,Bool.false_and,Bool.or_false]
   cases h:(bits.testBit i&&eu s d x) with
   |true=>simp[Nat.testBit_or,Nat.testBit_two_pow_self]
   |false=>simp
  ·have e1:(if (bits.testBit i&&eu s d x)=true then (acc.1 ||| 2 ^ i,acc.2||s.parts.length==d+1) else acc).1.testBit j=acc.1.testBit j:=by
    split
    ·simp only[Nat.testBit_or,Nat.testBit_two_pow_of_ne hij,Bool.or_false]
    ·rfl
   rw[e1]
   by_cases hlt:i+1≤j
   ·have e2:j - i=(j - (i+1))+1:=by omega
    have e3:decide (i≤j)=decide (i+1≤j):=by simp;omega
    rw[e2,e3,List.getElem?_cons_succ]
   ·have e3:decide (i≤j)=false:=by simp;omega
    have e4:decide (i+1≤j)=false:=by simp;omega
    rw[e3,e4];rfl
theorem KA {x:Int} {bits d:Nat}:∀ (ss:List qc) (i:Nat) (acc:Nat×Bool),
 (Ws x bits d i ss acc).2=(acc.2||(ss.zipIdx i).any fun p=>bits.testBit p.2&&eu p.1 d x&&(p.1.parts.length==d+1))
 | [],i,acc=>by simp[Ws]
 |s::r,i,acc=>by
  rw[Ws,KA r (i+1),List.zipIdx_cons,List.any_cons]
  cases h:(bits.testBit i&&eu s d x) with
  |true=>simp[Bool.or_assoc]
  |false=>simp
end Go.AM.B1
