/- What functions of the program compute. -/
import Derived.Test.YtijlhblleiaomaaGreatL2
import Derived.Test.YtijlhblleiaomaaGreatK3
import Derived.Test.YtijlhblleiaomaaGreatL1
set_option linter.unusedVariables false
set_option linter.unusedSimpArgs false
namespace Go.AM.B1
open Go.AM Go.AM.So
theorem cN:Qh=dc:=rfl
theorem ML:Oh=dc:=rfl
theorem yO:mi=dc:=rfl
def WG(p:Int×Int):List PV:=[i64 p.1,i64 p.2]
def Mf(l:List (Int×Int)):Array (List PV):=(l.map WG).toArray
def Z3(r:List PV):Prop:=∃ p,r=WG p
theorem Ez(r:List PV)(h:Z3 r):rX 2 r:=by
 obtain⟨p,rfl⟩:=h;exact⟨rfl,by intro c hc;simp[WG] at hc;rcases hc with rfl | rfl <;> rfl⟩
theorem zC(l:List (Int×Int)):∀ r∈(Mf l).toList,Z3 r:=by
 intro r hr;simp[Mf] at hr;obtain⟨a,b,_,rfl⟩:=hr;exact⟨(a,b),rfl⟩
theorem Yp(l:List (Int×Int)):(Mf l).size=l.length:=by simp[Mf]
def Ad(l:List (Int×Int))(fl:Nat)(nl:Bool):ba:=zh 2 (Mf l) fl nl
theorem Fj(l:List (Int×Int)):(Yh (Mf l)).length=l.length * 2:=by
 rw[pz fun r hr=>Ez r (zC l r hr),Yp]
theorem tE{A:List ba}{id n fl bytes:Nat}{nl:Bool}{h:Zf}{l:List (Int×Int)}(hg:A[id]? =some (Ad l fl nl))(hn:n=l.length)(hr:eb (n+1) bytes)(p:Int×Int):
 Cb A true h 2 true bytes (.own id n) (.pv (.lit 2 [pr p]))=some (.own id (n+1),A.set id (Ad (l++[p]) fl false)):=by
 subst hn;have hl:=Fj l;have e:Yh (Mf (l++[p]))=Yh (Mf l)++[.pv (i64 p.1),.pv (i64 p.2)]:=by simp[Yh,Mf,WG]
 simp only[Cb,if_true,hg,Ad,zh,pk,Kf,Kaa,Daa,flat,PV.cells,pr,Kab,pab,Rad,Raa,Dab,e];rw[if_pos]
 ·simp
 ·exact⟨trivial,by omega,hr,rfl⟩
theorem SE(H:List ba)(d:Nat)(l:List PV):Ra (Ub H d) (l.map .pv)=some l:=by
 induction l with
 |nil=>rfl
 |cons a l ih=>simp only[pab,Ra,Ng,Daa,ih]
theorem wE:∀ (l:List (Int×Int)),chunk 2 true l.length ((l.map WG).flatten)=ae l
 | []=>rfl
 |p::l=>by have ih:=wE l;simp only[Raa,pab,aac,chunk,if_true,WG] at ih ⊢;simp only[fab,cab,yad,List.take_zero,jad,Aac,ae,pab];rw[ih]
theorem mU{A:List ba}{id n fl:Nat}{nl:Bool}{l:List (Int×Int)}(hg:A[id]? =some (Ad l fl nl))(hn:n=l.length)(d:Nat):Ub A (d+1) (.own id n)=some (if nl then .ga else .lit 2 (ae l)):=by
 subst hn;have hl:=Fj l;have e:Yh (Mf l)=((l.map WG).flatten).map .pv:=by simp[Yh,Mf]
 simp only[Ub,hg,Ad,zh];rw[if_pos ⟨by omega,rfl⟩,e,SE];cases nl with
 |true=>rfl
 |false=>simp only[Baa,if_false,Kaa,wE]
theorem XA(A:List ba)(x y:AV)(p:Int×Int):Ha (A++[.box [x,y]]) 2 (.ptr A.length 0) (.pv (pr p))=some (A++[.box [.pv (i64 p.1),.pv (i64 p.2)]]):=by
 simp only[Ha,AV.cells,PV.cells,pr,pab,Rad,Raa,Dab,List.all,AV.one,Gk,Vp];simp[fa]
theorem JC(A:List ba)(p:Int×Int):pa (A++[.box [.pv (i64 p.1),.pv (i64 p.2)]]) true 2 (.ptr A.length 0)=some (.pv (pr p)):=by
 simp[pa,Lh,gv,Tc]
theorem Mr(l:List (Int×Int))(fl:Nat)(nl:Bool)(n:Nat):qa n (Ad l fl nl)=some (Ad l fl nl):=gz _ _ _ _ _
abbrev XR(v:PV)(id n len i:Nat):Tr:=(((Tr.lf.set 11 (.pv (i64 i))).set 10 (.pv (i64 len))).set 9 (.pv v)).set 3 (.own id n)
theorem ym(A:List ba){l:List (Int×Int)}{i:Nat}(hi:i < l.length):ta A 2 (.pv (.lit 2 (ae l))) (i:Int)=some (.pv (.rp [i64 l[i].1,i64 l[i].2] 0)):=by
 have hg:=Hr hi;simp only[ta];rw[if_pos (by unfold Ia;simp;omega),Eaa,hg];rfl
theorem FV(A:List ba)(p:Int×Int):pa A true 2 (.pv (.rp [i64 p.1,i64 p.2] 0))=some (.pv (pr p)):=by
 simp[pa,Im]
theorem TP(call:Sa)(v:PV)(l:List (Int×Int))(hv:Zh 2 v (ae l))(hw:l.length * 16<=140737488355328)(H:List ba)(hH:Vd H):
 ef call vd [.pv v] H=some (.own H.length l.length,H++[Ad l 0 false]):=by
 have ls:=hv.len
 simp only[ae,paa] at ls;have G7:H.length < H.length+1:=Uad _
 have hlen:∀ l',(H++[Ad l' 0 false]).length=H.length+1:=fun l'=>by simp
 have C7:∀ l',Ra (qa (H.length+1)) (H++[Ad l' 0 false])=some (H++[Ad l' 0 false]):=fun l'=>Bm fun o ho=>by
  rcases Naa.1 ho with h | h
  ·exact hH _ (by omega) o h
  ·simp at h;subst h;exact Mr _ _ _ _
 have D7:qd (fun r=>∃ E,r=(.exit 0,⟨E,H++[Ad l 0 false]⟩)/\E.get 3= .own H.length l.length)
  (ab (ma (oa call Kc) (na (H.length+1) [3,9,10,11])) ua ⟨XR v H.length 0 l.length 0,H++[Ad [] 0 false]⟩):=by
  refine wa (Gb (g:=ma (oa call Kc) (na (H.length+1) [3,9,10,11]))
   (fun i t=>t=⟨XR v H.length i l.length i,H++[Ad (l.take i) 0 false]⟩)
   l.length (by unfold ua;omega) _ rfl ?_ ?_) (fun r h=>h.2)
  ·rintro i t hi rfl
   have hv:=hv.lit (i:=i) (by simpa using hi)
   subst hv;have e1:decide ((i:Int) < (l.length:Int))=true:=Ea (by omega);have t2:=Za hi (by unfold maxLen;omega);have a1:=ym (H++[Ad (l.take i) 0 false]) hi;have l1:=FV (H++[Ad (l.take i) 0 false]) l[i];have s1:=XA (H++[Ad (l.take i) 0 false]) (.pv (i64 0)) (.pv (i64 0)) l[i];have l2:=JC (H++[Ad (l.take i) 0 false]) l[i];have e8:=tE (A:=H++[Ad (l.take i) 0 false]++[.box [.pv (i64 l[i].1),.pv (i64 l[i].2)]]) (id:=H.length) (n:=i) (h:= .own) (bytes:=16) (by rw[gaa (by simp)];exact Gk _ _) (by simp;omega) (by unfold eb;omega) l[i];rw[Bac _ _ (by simp),Vp,<-List.take_succ_eq_append_getElem hi] at e8;have Z7:(H++[Ad (l.take (i+1)) 0 false]++[ba.box [.pv (i64 l[i].1),.pv (i64 l[i].2)]]).take (H.length+1)=H++[Ad (l.take (i+1)) 0 false]:=by rw[Jac (by simp),Zaa (by simp)]
   have hc:=C7 (l.take (i+1));generalize l[i]=p at *;generalize hQ:LN _ _ i=Q;simp -implicitDefEqProofs only[SP,WP,fa,sevalprocAttr,Kc,e1,t2,a1,l1,s1,l2,e8,Z7,hc,G7,na,Ca,AV.cut,za,XR];subst hQ;rfl
  ·rintro t rfl
   rw[Fab];have e1:decide ((l.length:Int) < (l.length:Int))=false:=Ga (by omega);generalize hQ:(fun r:Ex×St=>r.1.stop=true/\_)=Q;simp -implicitDefEqProofs only[SX,sevalprocAttr,Kc,e1,XR];subst hQ;exact⟨rfl,_,rfl,by simp[Tr.aa]⟩
 have h2:(0:Int)<=(l.length:Int):=by omega
 have h3:eb l.length 16:=by unfold eb;omega
 have n0:(0:Int).toNat=0:=rfl
 have ho:ba.seq 2 true [] 0 false=Ad [] 0 false:=rfl
 apply bl;simp -implicitDefEqProofs only[SX,sevalprocAttr,vd,Db,ls,Kac,Laa h2,Laa h3,n0,ho,hlen,C7,G7,Zaa (show (H++[Ad [] 0 false]).length<=H.length+1 by simp),na,Ca,AV.cut,za];refine wa D7 ?_;rintro _ ⟨E,rfl,hE⟩;simp -implicitDefEqProofs only[SX,sevalprocAttr,hE]
theorem Ih{A:List ba}{id n sz bytes:Nat}{nl ag:Bool}{h:Zf}{es:List PV}(hg:A[id]? =some (.tok sz n nl))(hn:n=es.length)(hr:eb (n+1) bytes)(e:PV):
 Cb A false h sz ag bytes (.uq id nl sz es) (.pv (.lit sz [e]))=some (.uq id false sz (es++[e]),A.set id (.tok sz (n+1) false)):=by
 subst hn;simp only[Cb,Baa,if_false,hg,Kf,if_true,Daa,Raa,Dab];rw[if_pos ⟨trivial,trivial,trivial,hr⟩];simp
abbrev DR(id n i tk:Nat)(nl:Bool)(es:List PV):Tr:=(((Tr.lf.set 11 (.pv (i64 i))).set 10 (.pv (i64 n))).set 9 (.own id n)).set 3 (.uq tk nl 2 es)
theorem nS{A:List ba}{id fl:Nat}{nl:Bool}{l:List (Int×Int)}(hg:A[id]? =some (Ad l fl nl))(hf:fl<=l.length * 2)(hA:Vd A):Hp id 2 Z3 A (Mf l) A:=
 Hp.refl (fl:=fl) (nl:=nl) hA (by rw[Yp];exact hf) hg (zC l)
theorem NG{l:List (Int×Int)}{i:Nat}(hi:i < l.length):(Mf l)[i]! =WG l[i]:=by
 rw[R5 (by rw[Yp];exact hi)];simp[Mf]
theorem UU(call:Sa)(l:List (Int×Int)){id fl:Nat}{nl:Bool}(H:List ba)(hH:Vd H)(hg:H[id]? =some (Ad l fl nl))(hf:fl<=l.length * 2)(hw:l.length * 16<=140737488355328):
 ef call Ld [.own id l.length] H=some (.uq H.length false 2 (ae l),H++[.tok 2 l.length false]):=by
 have hp:=nS hg hf hH;have G7:id < H.length:=hp.lt
 have Oaa:id < H.length+1:=by omega
 have Z7:H.length < H.length+1:=Uad _
 have hl:=Fj l;have hn:l.length=(Mf l).size:=(Yp l).symm
 have hlen:∀ m b,(H++[ba.tok 2 m b]).length=H.length+1:=fun m b=>by simp
 have C7:∀ m b,Ra (qa (H.length+1)) (H++[ba.tok 2 m b])=some (H++[ba.tok 2 m b]):=fun m b=>Bm fun o ho=>by
  rcases Naa.1 ho with h | h
  ·exact hH _ (by omega) o h
  ·simp at h;subst h;rfl
 have hlA:∀ T,Tb (H++T) 0 (.own id l.length)=some l.length:=by intro T;rw[WB,gaa G7,hg];simp only[Ad,zh];rw[if_pos];unfold Ui;omega
 have Vaj:Tb H 0 (.own id l.length)=some l.length:=by have:=hlA [];rwa [Kab] at this
 have D7:qd (fun r=>∃ E,r=(.exit 0,⟨E,H++[.tok 2 l.length false]⟩)/\E.get 3= .uq H.length false 2 (ae l))
  (ab (ma (oa call Pc) (na (H.length+1) [3,9,10,11])) ua ⟨DR id l.length 0 H.length false [],H++[.tok 2 0 false]⟩):=by
  refine wa (Gb (g:=ma (oa call Pc) (na (H.length+1) [3,9,10,11]))
   (fun i t=>t=⟨DR id l.length i H.length false (ae (l.take i)),H++[.tok 2 i false]⟩)
   l.length (by unfold ua;omega) _ rfl ?_ ?_) (fun r h=>h.2)
  ·rintro i t hi rfl
   have e1:decide ((i:Int) < (l.length:Int))=true:=Ea (by omega);have t2:=Za hi (by unfold maxLen;omega);have a1:=tJ [.tok 2 i false] G7 (hp.Pd Ez hn (i:=(i:Int)) rfl (by omega));have l1:=aO [.tok 2 i false] G7 (hp.load Ez hn (k:=i) (by omega));rw[NG hi] at l1;have l1':pa (H++[.tok 2 i false]) true 2 (.Ec id (l.length * 2) (i * 2))=some (.pv (pr l[i])):=l1;have s1:=XA (H++[.tok 2 i false]) (.pv (i64 0)) (.pv (i64 0)) l[i];have l2:=JC (H++[.tok 2 i false]) l[i];have e8:=Ih (A:=H++[.tok 2 i false]++[.box [.pv (i64 l[i].1),.pv (i64 l[i].2)]]) (id:=H.length) (n:=i) (h:= .uq) (ag:=true) (nl:=false) (sz:=2) (bytes:=16) (es:=ae (l.take i)) (by rw[gaa (by simp)];exact Gk _ _) (by simp;omega) (by unfold eb;omega) (pr l[i]);have hs:ae (l.take (i+1))=ae (l.take i)++[pr l[i]]:=by rw[List.take_succ_eq_append_getElem hi];simp only[ae,qac,pab,Rad]
   rw[Bac _ _ (by simp),Vp,<-hs] at e8;have Z8:(H++[ba.tok 2 (i+1) false]++[ba.box [.pv (i64 l[i].1),.pv (i64 l[i].2)]]).take (H.length+1)=H++[ba.tok 2 (i+1) false]:=by rw[Jac (by simp),Zaa (by simp)]
   have hc:=C7 (i+1) false;generalize l[i]=p at *;generalize Waj:ae (l.take (i+1))=es' at *;generalize ae (l.take i)=es at *;generalize hQ:LN _ _ i=Q;simp -implicitDefEqProofs only[SP,WP,fa,sevalprocAttr,Pc,e1,t2,a1,l1',s1,l2,e8,Z7,Z8,hc,Oaa,na,Ca,AV.cut,za,DR];subst hQ;subst Waj;rfl
  ·rintro t rfl
   rw[Fab];have e1:decide ((l.length:Int) < (l.length:Int))=false:=Ga (by omega);generalize hQ:(fun r:Ex×St=>r.1.stop=true/\_)=Q;simp -implicitDefEqProofs only[SX,sevalprocAttr,Pc,e1,DR];subst hQ;exact⟨rfl,_,rfl,by simp[Tr.aa]⟩
 have h2:(0:Int)<=(l.length:Int):=by omega
 have h3:eb l.length 16:=by unfold eb;omega
 have n0:(0:Int).toNat=0:=rfl
 apply bl;simp -implicitDefEqProofs only[SX,sevalprocAttr,Ld,Db,hlA,Vaj,Kac,Laa h2,Laa h3,n0,hlen,C7,Oaa,Z7,Zaa (show (H++[ba.tok 2 0 false]).length<=H.length+1 by simp),na,Ca,AV.cut,za];refine wa D7 ?_;rintro _ ⟨E,rfl,hE⟩;simp -implicitDefEqProofs only[SX,sevalprocAttr,hE]
def Qk(x:Int)(l:List (Int×Int)):Prop:=∃ p∈l,p.1<=x/\x<=p.2
def yi:List (Int×Int)->List (Int×Int)->List (Int×Int)
 |out,[]=>out
 |out,r::rest=>match out.getLast? with
  |some q=>if r.1<=q.2+1 then yi (out.dropLast++[(q.1,if r.2 > q.2 then r.2 else q.2)]) rest else yi (out++[r]) rest
  |none=>yi (out++[r]) rest
theorem sJ(r:Int×Int)(rest:List (Int×Int)):yi [] (r::rest)=yi [r] rest:=rfl
theorem FG{out rest:List (Int×Int)}{q r:Int×Int}(h:r.1<=q.2+1):yi (out++[q]) (r::rest)=yi (out++[(q.1,if r.2 > q.2 then r.2 else q.2)]) rest:=by
 rw[yi,List.getLast?_append];simp[h]
theorem dJ{out rest:List (Int×Int)}{q r:Int×Int}(h:¬r.1<=q.2+1):yi (out++[q]) (r::rest)=yi (out++[q]++[r]) rest:=by
 rw[yi,List.getLast?_append];simp[h]
section
variable {A:List ba}{id fl:Nat}{nl:Bool}{out:List (Int×Int)}{q:Int×Int}(hg:A[id]? =some (Ad (out++[q]) fl nl))(hf:fl<=(out.length+1) * 2)
include hg hf
theorem iQ:ta A 2 (.own id (out.length+1)) (out.length:Int)=some (.Ec id ((out.length+1) * 2) (out.length * 2)):=by
 have hl:=Fj (out++[q]);rw[Aaa,Raa,Dab] at hl;simp only[ta,hg,Ad,zh];rw[if_pos (by refine⟨trivial,?_,?_⟩ <;> first | (unfold Ia;omega) | (unfold Ui;omega))];simp
omit hf in
theorem BP:place A 1 (.Ec id ((out.length+1) * 2) (out.length * 2))=some (.Ec id ((out.length+1) * 2) (out.length * 2+1)):=by
 have hl:=Fj (out++[q]);rw[Aaa,Raa,Dab] at hl;simp only[place,hg,Ad,zh,hl,if_true]
omit hf in
theorem wU:pa A false 1 (.Ec id ((out.length+1) * 2) (out.length * 2+1))=some (.pv (i64 q.2)):=by
 have hl:=Fj (out++[q]);rw[Aaa,Raa,Dab] at hl;simp only[pa,hg,Ad,zh,hl,if_true,Lh,Baa,if_false];have e:Yh (Mf (out++[q]))=Yh (Mf out)++[.pv (i64 q.1),.pv (i64 q.2)]:=by simp[Yh,Mf,WG]
 have I9:=Fj out;rw[e,Paa (by omega),I9];have:out.length * 2+1 - out.length * 2=1:=by omega
 rw[this];rfl
omit hf in
theorem xP(v:Int):Ha A 1 (.Ec id ((out.length+1) * 2) (out.length * 2+1)) (.pv (i64 v))=some (A.set id (Ad (out++[(q.1,v)]) ((out.length+1) * 2) nl)):=by
 have hl:=Fj (out++[q]);rw[Aaa,Raa,Dab] at hl;have e:∀ q:Int×Int,Yh (Mf (out++[q]))=Yh (Mf out)++[.pv (i64 q.1),.pv (i64 q.2)]:=fun q=>by simp[Yh,Mf,WG]
 have I9:=Fj out;have hs:fa (Yh (Mf (out++[q]))) (out.length * 2+1) [.pv (i64 v)]=Yh (Mf (out++[(q.1,v)])):=by
  rw[e,e,fa,fa,Xab _ _ (by omega),I9];have:out.length * 2+1 - out.length * 2=1:=by omega
  rw[this];rfl
 have hc:(AV.pv (i64 v)).cells=[.pv (i64 v)]:=rfl
 simp only[Ha,hg,Ad,zh,hc];rw[if_pos ⟨rfl,rfl⟩,if_pos ⟨hl,by omega⟩,hs]
end
abbrev dE(id0 n i id1 m:Nat):Tr:=(((Tr.lf.set 11 (.pv (i64 i))).set 10 (.pv (i64 n))).set 9 (.own id0 n)).set 3 (.own id1 m)
def YO(l:List (Int×Int)):Prop:=∀ p∈l,-4611686018427387904<=p.2/\p.2<=4611686018427387904
theorem sX{a b:List (Int×Int)}(ha:YO a)(hb:YO b):YO (a++b):=by
 intro p hp;rcases Naa.1 hp with h | h
 ·exact ha p h
 ·exact hb p h
theorem qT(call:Sa)(l:List (Int×Int))(hl:YO l){id0 fl0:Nat}{nl0:Bool}(H:List ba)(hH:Vd H)(hg0:H[id0]? =some (Ad l fl0 nl0))(hf0:fl0<=l.length * 2)(hw:l.length<=1000000):
 qd (fun r=>∃ E fl nl,r=(.exit 0,⟨E,H++[Ad (yi [] l) fl nl]⟩)/\E.get 3= .own H.length (yi [] l).length/\fl<=(yi [] l).length * 2)
  (ab (ma (oa call Ni) (na (H.length+1) [3,9,10,11])) ua ⟨dE id0 l.length 0 H.length 0,H++[Ad [] 0 true]⟩):=by
 have hp:=nS hg0 hf0 hH;have G7:id0 < H.length:=hp.lt
 have Oaa:id0 < H.length+1:=by omega
 have Z7:H.length < H.length+1:=Uad _
 have hn:l.length=(Mf l).size:=(Yp l).symm
 have C7:∀ a b c,Ra (qa (H.length+1)) (H++[Ad a b c])=some (H++[Ad a b c]):=fun a b c=>Bm fun o ho=>by
  rcases Naa.1 ho with h | h
  ·exact hH _ (by omega) o h
  ·simp at h;subst h;exact Mr _ _ _ _
 refine wa (Gb (g:=ma (oa call Ni) (na (H.length+1) [3,9,10,11]))
  (fun i t=>∃ out fl nl,t=⟨dE id0 l.length i H.length out.length,H++[Ad out fl nl]⟩/\fl<=out.length * 2/\YO out/\out.length<=i/\yi [] l=yi out (l.drop i))
  l.length (by unfold ua;omega) _ ⟨[],0,true,rfl,by omega,by intro p hp;simp at hp,by simp,rfl⟩ ?_ ?_) (fun r h=>h.2)
 ·rintro i t hi ⟨out,fl,nl,rfl,hfl,hsa,hle,hs⟩
  have hd:l.drop i=l[i]::l.drop (i+1):=Waa hi
  rw[hd] at hs;have hsp:=hl l[i] (saa hi);have e1:decide ((i:Int) < (l.length:Int))=true:=Ea (by omega);have t2:=Za hi (by unfold maxLen;omega);have a1:=tJ [Ad out fl nl] G7 (hp.Pd Ez hn (i:=(i:Int)) rfl (by omega));have l1:=aO [Ad out fl nl] G7 (hp.load Ez hn (k:=i) (by omega));rw[NG hi] at l1;have l1':pa (H++[Ad out fl nl]) true 2 (.Ec id0 (l.length * 2) (i * 2))=some (.pv (pr l[i])):=l1;have s1:=XA (H++[Ad out fl nl]) (.pv (i64 0)) (.pv (i64 0)) l[i];have l2:=JC (H++[Ad out fl nl]) l[i];have b0:∀ p:Int×Int,place (H++[Ad out fl nl]++[ba.box [.pv (i64 p.1),.pv (i64 p.2)]]) 0 (.ptr (H++[Ad out fl nl]).length 0)=some (.ptr (H++[Ad out fl nl]).length 0):=fun p=>by simp[place]
  have b1:∀ p:Int×Int,place (H++[Ad out fl nl]++[ba.box [.pv (i64 p.1),.pv (i64 p.2)]]) 1 (.ptr (H++[Ad out fl nl]).length 0)=some (.ptr (H++[Ad out fl nl]).length 1):=fun p=>by simp[place]
  have b2:∀ p:Int×Int,pa (H++[Ad out fl nl]++[ba.box [.pv (i64 p.1),.pv (i64 p.2)]]) false 1 (.ptr (H++[Ad out fl nl]).length 0)=some (.pv (i64 p.1)):=fun p=>by simp[pa,Lh]
  have b3:∀ p:Int×Int,pa (H++[Ad out fl nl]++[ba.box [.pv (i64 p.1),.pv (i64 p.2)]]) false 1 (.ptr (H++[Ad out fl nl]).length 1)=some (.pv (i64 p.2)):=fun p=>by simp[pa,Lh]
  have e8:=tE (A:=H++[Ad out fl nl]++[.box [.pv (i64 l[i].1),.pv (i64 l[i].2)]]) (id:=H.length) (n:=out.length) (h:= .own) (bytes:=16) (by rw[gaa (by simp)];exact Gk _ _) rfl (by unfold eb;omega) l[i];rw[Bac _ _ (by simp),Vp] at e8;have Z8:∀ (o o2:ba),(H++[o]++[o2]).take (H.length+1)=H++[o]:=fun o o2=>by rw[Jac (by simp),Zaa (by simp)]
  have hlen:Tb (H++[Ad out fl nl]++[.box [.pv (i64 l[i].1),.pv (i64 l[i].2)]]) 0 (.own H.length out.length)=some out.length:=by rw[WB,gaa (by simp),Gk];have:=Fj out;simp only[Ad,zh];rw[if_pos];unfold Ui;omega
  rcases cae out with rfl | ⟨out,q,rfl⟩
  ·have hz:decide (((0:Nat):Int) > 0)=false:=by decide
   rw[sJ] at hs;rw[Dab] at e8 hlen;rw[eab,cab] at e8;generalize l[i]=p at *;generalize hQ:LN _ _ i=Q;simp -implicitDefEqProofs only[SP,WP,fa,sevalprocAttr,Ni,e1,t2,a1,l1',s1,l2,hlen,hz,e8,Z8,C7,Oaa,Z7,na,Ca,AV.cut,za,dE];subst hQ;exact⟨[p],fl,false,rfl,by simp at hfl ⊢;omega,by intro x hx;simp at hx;subst hx;exact hsp,by simp,hs⟩
  ·rw[dae] at *
   have hql:=hsa q (by simp);have hol:(out++[q]).length=out.length+1:=by simp
   have hg1:(H++[Ad (out++[q]) fl nl]++[ba.box [.pv (i64 l[i].1),.pv (i64 l[i].2)]])[H.length]? =some (Ad (out++[q]) fl nl):=by rw[gaa (by simp)];exact Gk _ _
   have c1:=iQ hg1 (by rw[hol] at hfl;exact hfl);have c2:=BP hg1;have c3:=wU hg1;have c4:=xP hg1 (if l[i].2 > q.2 then l[i].2 else q.2);rw[Bac _ _ (by simp),Vp] at c4;have t3:IntKind.i64.wrap (((out.length+1:Nat):Int) - 1)=(out.length:Int):=by rw[Aa (by omega)];omega
   have t4:IntKind.i64.wrap (q.2+1)=q.2+1:=Aa (by omega)
   have hz:decide (((out.length+1:Nat):Int) > 0)=true:=Ea (by omega);rw[hol] at hlen e8 hfl hle
   by_cases hj:l[i].1<=q.2+1
   ·have e2:decide (l[i].1<=q.2+1)=true:=Ea hj
    rw[FG hj] at hs;generalize l[i]=p at *;generalize hmx:(if p.2 > q.2 then p.2 else q.2)=mx at *;generalize hQ:LN _ _ i=Q;simp -implicitDefEqProofs only[SP,WP,fa,sevalprocAttr,Ni,e1,t2,a1,l1',s1,l2,hol,hlen,hz,b0,b1,b2,b3,c1,c2,c3,c4,t3,t4,e2,cp,Ye,hmx,Z8,C7,Oaa,Z7,na,Ca,AV.cut,za,dE];subst hQ;refine⟨out++[(q.1,mx)],(out.length+1) * 2,nl,by simp[dE,hol],by simp,?_,by simp;omega,hs⟩;intro x hx;rcases Naa.1 hx with h | h
    ·exact hsa x (by simp[h])
    ·simp at h;subst h
     rw[<- hmx];split <;> simp only <;> omega
   ·have e2:decide (l[i].1<=q.2+1)=false:=Ga hj
    rw[dJ hj] at hs;generalize l[i]=p at *;generalize hQ:LN _ _ i=Q;simp -implicitDefEqProofs only[SP,WP,fa,sevalprocAttr,Ni,e1,t2,a1,l1',s1,l2,hol,hlen,hz,b0,b1,b2,b3,c1,c2,c3,t3,t4,e2,e8,Z8,C7,Oaa,Z7,na,Ca,AV.cut,za,dE];subst hQ;refine⟨out++[q]++[p],fl,false,by simp[dE],by simp;omega,?_,by simp;omega,hs⟩;exact sX hsa (by intro x hx;simp at hx;subst hx;exact hsp)
 ·rintro t ⟨out,fl,nl,rfl,hfl,hsa,hle,hs⟩
  rw[Hab,yi] at hs;have e1:decide ((l.length:Int) < (l.length:Int))=false:=Ga (by omega);generalize hQ:(fun r:Ex×St=>r.1.stop=true/\_)=Q;simp -implicitDefEqProofs only[SX,sevalprocAttr,Ni,e1,dE];subst hQ;rw[hs];exact⟨rfl,_,fl,nl,rfl,by simp[Tr.aa],hfl⟩
def CA(last:Int)(a:List (Int×Int)):Int:=(a.getLast?.map (·.2)).getD last
theorem NM(last:Int)(p:Int×Int)(a:List (Int×Int)):CA last (p::a)=CA p.2 a:=by
 cases a with
 |nil=>rfl
 |cons q a=>simp[CA,List.getLast?_cons]
theorem QM(last:Int)(a:List (Int×Int))(q:Int×Int):CA last (a++[q])=q.2:=by simp[CA]
theorem Sw(top:Int):∀ (a b:List (Int×Int))(last:Int),Pa top last (a++b)=(Pa top last a&&Pa top (CA last a) b)
 | [],b,last=>by simp[Pa,CA]
 |p::a,b,last=>by rw[fab,Pa,Pa,Sw top a b p.2,NM,Bool.and_assoc]
theorem Ss{top last:Int}{p:Int×Int}:Pa top last [p]=true↔0<=p.1/\p.1<=p.2/\p.2<=top/\last < p.1 - 1:=by
 simp only[Pa,mae,tac,Had,decide_eq_false_iff_not];constructor <;> intro h <;> refine⟨?_,?_⟩ <;> omega
theorem zv(x:Int)(a b:List (Int×Int)):Qk x (a++b)↔Qk x a\/Qk x b:=by
 unfold Qk;simp only[Naa];constructor
 ·rintro⟨p,h | h,hp⟩
  ·exact .inl ⟨p,h,hp⟩
  ·exact .inr ⟨p,h,hp⟩
 ·rintro (⟨p,h,hp⟩ | ⟨p,h,hp⟩)
  ·exact⟨p,.inl h,hp⟩
  ·exact⟨p,.inr h,hp⟩
theorem fq(x:Int)(p:Int×Int):Qk x [p]↔p.1<=x/\x<=p.2:=by
 unfold Qk;simp
theorem Qn(x:Int):¬Qk x []:=by unfold Qk;simp
theorem bn(x:Int)(p:Int×Int)(l:List (Int×Int)):Qk x (p::l)↔(p.1<=x/\x<=p.2)\/Qk x l:=by
 unfold Qk;simp
theorem iD{top:Int}:∀ (rest out:List (Int×Int))(q:Int×Int),Pa top (-2) (out++[q])=true->(∀ p∈rest,0<=p.1/\p.1<=p.2/\p.2<=top/\q.1<=p.1)->rest.Pairwise (fun p q=>p.1<=q.1)->
 Pa top (-2) (yi (out++[q]) rest)=true/\(∀ x,Qk x (yi (out++[q]) rest)↔Qk x (out++[q])\/Qk x rest)/\(yi (out++[q]) rest).length<=out.length+1+rest.length
 | [],out,q,hv,_,_=>by rw[yi];exact⟨hv,fun x=>by simp[Qn],by simp⟩
 |r::rest,out,q,hv,hr,hs=>by
  have h1:=hr r (by simp);rw[Wad] at hs;have hv':=hv;rw[Sw,daa,Ss] at hv'
  by_cases hj:r.1<=q.2+1
  ·rw[FG hj]
   have ih:=iD rest out (q.1,if r.2 > q.2 then r.2 else q.2) (by
    rw[Sw,daa,Ss];refine⟨hv'.1,hv'.2.1,?_,?_,hv'.2.2.2.2⟩ <;> simp only <;> split <;> omega) (fun p hp=>by have:=hr p (by simp[hp]);exact⟨this.1,this.2.1,this.2.2.1,this.2.2.2⟩) hs.2
   refine⟨ih.1,fun x=> ?_,by have:=ih.2.2;simp only[Raa];omega⟩;rw[ih.2.1,zv,zv,fq,fq,bn];have e:(q.1<=x/\x<=(if r.2 > q.2 then r.2 else q.2))↔(q.1<=x/\x<=q.2)\/(r.1<=x/\x<=r.2):=by
    split <;> constructor <;> intro h <;> omega
   simp only[e];constructor
   ·rintro ((h | h | h) | h)
    ·exact .inl (.inl h)
    ·exact .inl (.inr h)
    ·exact .inr (.inl h)
    ·exact .inr (.inr h)
   ·rintro ((h | h) | h | h)
    ·exact .inl (.inl h)
    ·exact .inl (.inr (.inl h))
    ·exact .inl (.inr (.inr h))
    ·exact .inr h
  ·rw[dJ hj]
   have ih:=iD rest (out++[q]) r (by
    rw[Sw,daa,Ss,QM];exact⟨hv,h1.1,h1.2.1,h1.2.2.1,by omega⟩) (fun p hp=>by have h2:=hr p (by simp[hp]);exact⟨h2.1,h2.2.1,h2.2.2.1,hs.1 p hp⟩) hs.2
   refine⟨ih.1,fun x=> ?_,by have:=ih.2.2;simp only[Raa,Aaa,Dab] at this ⊢;omega⟩;rw[ih.2.1,zv,fq,bn];constructor
   ·rintro ((h | h) | h)
    ·exact .inl h
    ·exact .inr (.inl h)
    ·exact .inr (.inr h)
   ·rintro (h | h | h)
    ·exact .inl (.inl h)
    ·exact .inl (.inr h)
    ·exact .inr h
theorem aT{top:Int}(l:List (Int×Int))(hr:∀ p∈l,0<=p.1/\p.1<=p.2/\p.2<=top)(hs:l.Pairwise (fun p q=>p.1<=q.1)):
 Pa top (-2) (yi [] l)=true/\(∀ x,Qk x (yi [] l)↔Qk x l)/\(yi [] l).length<=l.length:=by
 cases l with
 |nil=>exact⟨rfl,fun x=>Iff.rfl,waa _⟩
 |cons r rest=>
  rw[sJ];have h1:=hr r (by simp);rw[Wad] at hs;have:=iD rest [] r (by rw[cab,Ss];exact⟨h1.1,h1.2.1,h1.2.2,by omega⟩) (fun p hp=>by have h2:=hr p (by simp[hp]);exact⟨h2.1,h2.2.1,h2.2.2,hs.1 p hp⟩) hs.2
  rw[cab] at this;refine⟨this.1,fun x=> ?_,by have:=this.2.2;simp at this ⊢;omega⟩;rw[this.2.1,fq,bn]
theorem Fs{top:Int}:∀ {l:List (Int×Int)}{last:Int},Pa top last l=true->∀ p∈l,0<=p.1/\p.1<=p.2/\p.2<=top
 |q::l,last,h,p,hp=>by
  obtain⟨h1,h2,h3,h4,h5⟩:=Uc h;rcases bab.1 hp with rfl | hp
  ·exact⟨by omega,by omega,by omega⟩
  ·exact Fs h5 p hp
theorem fB:∀ (l:List (Int×Int)),Yh (Mf l)=jg (l.flatMap fun p=>[p.1,p.2])
 | []=>rfl
 |p::l=>by have h:=fB l;simp only[Yh,Mf,jg] at h ⊢;simp[WG,h]
theorem MF:∀ (l:List (Int×Int)),ri 2 l.length (l.flatMap fun p=>[p.1,p.2])=l.map fun p=>[p.1,p.2]
 | []=>rfl
 |p::l=>by rw[Raa,ri,rad,pab,<-MF l];rfl
theorem RS{l:List (Int×Int)}(hw:l.length < 50){H:List ba}{id fl:Nat}{nl:Bool}(hg:H[id]? =some (Ad l fl nl)):
 ∃ l',l'.Perm l/\l'.Pairwise (fun p q=>p.1<=q.1)/\yB 2 0 23 [.own id l.length,.Ol 23 []] H=some (.pv (.mc []),H.set id (Ad l' (l.length * 2) nl)):=by
 obtain⟨s1,s2,s3⟩:=SB 2 0 (l.map fun p=>[p.1,p.2]).toArray
 have hso:∀ F,CH (Yh (Mf l))=some F->ri 2 l.length F=l.map fun p=>[p.1,p.2]:=by
  intro F hF;rw[fB,ew] at hF;injection hF with hF
  rw[<- hF,MF]
 generalize hE:qq 2 0 (l.map fun p=>[p.1,p.2]).toArray=E at *
 have hEl:∃ l':List (Int×Int),E.toList=l'.map fun p=>[p.1,p.2]:=by
  have key:∀ (L:List (List Int)),(∀ r∈L,∃ p:Int×Int,r=[p.1,p.2])->∃ l':List (Int×Int),L=l'.map fun p=>[p.1,p.2]:=by
   intro L
   induction L with
   |nil=>intro _;exact⟨[],rfl⟩
   |cons r L ih=>intro h;obtain⟨p,rfl⟩:=h r (by simp);obtain⟨l',rfl⟩:=ih fun x hx=>h x (by simp[hx]);exact⟨p::l',rfl⟩
  refine key _ fun r hr=> ?_;have:=s2.mem_iff.1 hr
  simp only[oab] at this;obtain⟨p,_,rfl⟩:=this;exact⟨p,rfl⟩
 obtain⟨l',T8⟩:=hEl;have hs:E.size=l.length:=by rw[s1];simp
 have hll:l'.length=l.length:=by rw[<- hs,<-zad,T8,paa]
 refine⟨l',?_,?_,?_⟩
 ·rw[T8] at s2
  have:=s2.map fun r=>(r.getD 0 0,r.getD 1 0)
  simpa[wad,Function.comp_def] using this
 ·rw[fad]
  intro i j hi hj hij;have h:=s3 i j hij (by simp;omega);have hg:∀ q (hq:q < l'.length),Zx 2 0 E[q]! =l'[q].1:=by
   intro q hq;have h1:q < E.size:=by omega
   have:E[q]=[l'[q].1,l'[q].2]:=by
    have h2:E.toList[q]? =some [l'[q].1,l'[q].2]:=by rw[T8,Faa,caa hq];rfl
    rw[Array.getElem?_toList,Cad h1] at h2;exact Bad h2
   rw[getElem!_pos E q h1,this];rfl
  rw[hg i hi,hg j hj] at h;omega
 ·have hfl:=Fj l
  unfold yB;simp only[hg,Ad,zh];rw[if_pos ⟨trivial,trivial,by rw[hfl],by omega⟩];have hF:=fB l;have hI:=ew (l.flatMap fun p=>[p.1,p.2]);rw[<- hF] at hI;rw[hI,Kaa,hso _ hI,hE,T8,hfl];have e:jg (List.map (fun p:Int×Int=>[p.1,p.2]) l').flatten=Yh (Mf l'):=by rw[fB,List.flatMap_def]
  rw[e]
theorem vT(d:Nat)(args:List AV)(H:List ba):wi Xk Jb (d+1) 22 args H=yB 2 0 23 args H:=rfl
theorem FW(l:List (Int×Int))(hl:YO l){id0 fl0:Nat}{nl0:Bool}(H:List ba)(hH:Vd H)(hg0:H[id0]? =some (Ad l fl0 nl0))(hf0:fl0<=l.length * 2)(hw:l.length < 50):
 qd (fun r=>∃ l' fl nl,l'.Perm l/\l'.Pairwise (fun p q=>p.1<=q.1)/\r.1= .own (r.2.length - 1) (yi [] l').length/\Vd r.2/\r.2[r.2.length - 1]? =some (Ad (yi [] l') fl nl)/\fl<=(yi [] l').length * 2)
  (ef (wi Xk Jb 7) zq [.own id0 l.length] H):=by
 obtain⟨l',V7,hps,W7⟩:=RS hw hg0;have saf:=(qaa.1 hg0).1
 have hs2:l'.length=l.length:=V7.length_eq
 have hg:(H.set id0 (Ad l' (l.length * 2) nl0))[id0]? =some (Ad l' (l.length * 2) nl0):=Qaa saf;have hgd:Vd (H.set id0 (Ad l' (l.length * 2) nl0)):=by
  intro n hn o ho;rcases Nab ho with h | h
  ·exact hH n (by simpa using hn) o h
  ·subst h;exact Mr _ _ _ _
 have hfl:l.length * 2<=l'.length * 2:=by omega
 simp -implicitDefEqProofs only[SX,sevalprocAttr,zq,vT,W7];generalize H.set id0 (Ad l' (l.length * 2) nl0)=H2 at *
 have T8:YO l':=fun p hpp=>hl p (V7.mem_iff.1 hpp);have hlp:=qT (wi Xk Jb 7) l' T8 H2 hgd hg hfl (by omega);rw[hs2] at hlp;have hlen:Tb (H2++[Ad [] 0 true]) 0 (.own id0 l.length)=some l.length:=by
  have G7:id0 < H2.length:=(qaa.1 hg).1
  have:=Fj l';rw[WB,gaa G7,hg];simp only[Ad,zh];unfold Yh at this ⊢;rw[if_pos];unfold Ui;omega
 have hg2:H2.length < H2.length+1:=Uad _
 have Oaa:id0 < H2.length+1:=by have:=(qaa.1 hg).1;omega
 have Mab:Vd (H2++[Ad [] 0 true]):=by
  intro n hn o ho;rcases Naa.1 ho with h | h
  ·exact hgd n (by simp at hn;omega) o h
  ·simp at h;subst h;exact Mr _ _ _ _
 have C7:=Vd.cut Mab
 have x8:(H2++[Ad [] 0 true]).length=H2.length+1:=by simp
 rw[x8] at C7;have hz:(0 < 2)=True:=by simp
 have ho:ba.seq 2 true [] 0 true=Ad [] 0 true:=rfl
 simp -implicitDefEqProofs only[SX,sevalprocAttr,Db,fe,hz,ho,hlen,x8,C7,hg2,Oaa,Zaa (show (H2++[Ad [] 0 true]).length<=H2.length+1 by simp),na,Ca,AV.cut,za];refine wa hlp ?_;rintro _ ⟨E,fl2,nl2,rfl,hE,Daf⟩;simp -implicitDefEqProofs only[SX,sevalprocAttr,hE];refine⟨l',fl2,nl2,V7,hps,by simp,?_,by simp,Daf⟩;intro n hn o ho;rcases Naa.1 ho with h | h
 ·exact hgd n (by simp at hn;omega) o h
 ·simp at h;subst h;exact Mr _ _ _ _
abbrev TA:Int:=1073741823
theorem ZT{A:List ba}{id1 id2 n1 n2 f1 f2 bytes:Nat}{k1 k2:Bool}{h:Zf}{a b:List (Int×Int)}(h1:A[id1]? =some (Ad a f1 k1))(h2:A[id2]? =some (Ad b f2 k2))(hn1:n1=a.length)(hn2:n2=b.length)(hr:eb (n1+n2) bytes):
 ∃ k,Cb A true h 2 true bytes (.own id1 n1) (.own id2 n2)=some (.own id1 (n1+n2),A.set id1 (Ad (a++b) f1 k)):=by
 subst hn1 hn2;have la:=Fj a;have lb:=Fj b;have e:Yh (Mf (a++b))=Yh (Mf a)++Yh (Mf b):=by simp[Yh,Mf]
 have R7:(Yh (Mf b)).all AV.one=true:=by
  rw[aab];intro v hv;obtain⟨c,hc,rfl⟩:=oab.1 hv
  rw[Lae] at hc;obtain⟨r,hr,hc⟩:=hc;exact (Ez r (zC b r hr)).2 c hc
 refine⟨k1&&(b.length==0),?_⟩;simp only[Cb,if_true,h1,Ad,zh,pk,h2,e];rw[if_pos ⟨trivial,by omega⟩];simp only[Daa];rw[if_pos ⟨trivial,by omega,hr,R7⟩]
theorem ir(v:PV)(l:List (Int×Int))(hv:Zh 2 v (ae l))(hw:l.length * 16<=140737488355328)(M7:Pa TA (-2) l=true)(H:List ba)(hH:Vd H):
 ef (wi Xk Jb 7) tj [.pv v] H=some (.own H.length l.length,H++[Ad l 0 false]):=by
 have h1:=TP (wi Xk Jb 6) v l hv hw H hH;have h2:=Av (.lit 2 (ae l)) l (.inr rfl) (by unfold maxLen;omega) TA (by decide);rw[M7] at h2;have h0:∀ args H,wi Xk Jb 7 0 args H=ef (wi Xk Jb 6) vd args H:=fun _ _=>rfl;have h3:=mU (A:=H++[Ad l 0 false]) (id:=H.length) (n:=l.length) (Gk _ _) rfl 5;rw[taa (by simp)] at h3;simp -implicitDefEqProofs only[SX,sevalprocAttr,tj,h0,h1,h2,h3]
theorem NQ{H:List ba}(hH:Vd H){o:ba}(ho:∀ n,qa n o=some o):Vd (H++[o]):=by
 intro n hn x hx;rcases Naa.1 hx with h | h
 ·exact hH n (by simp at hn;omega) x h
 ·simp at h;subst h;exact ho n
theorem fU(A B:PV)(a b:List (Int×Int))(hA:Zh 2 A (ae a))(hB:Zh 2 B (ae b))(hva:Pa TA (-2) a=true)(hvb:Pa TA (-2) b=true)(hl:a.length+b.length < 50):
 ∃ u,Rm [A,B]=some (.lit 2 (ae u))/\Pa TA (-2) u=true/\(∀ x,Qk x u↔Qk x a\/Qk x b)/\u.length<=a.length+b.length:=by
 have h1:=ir A a hA (by omega) hva [] (by intro n _ o ho;simp at ho);have hg1:Vd ([]++[Ad a 0 false]):=NQ (by intro n _ o ho;simp at ho) (Mr _ _ _);have h2:=ir B b hB (by omega) hvb ([]++[Ad a 0 false]) hg1;obtain⟨k,h3⟩:=ZT (A:=[Ad a 0 false,Ad b 0 false]) (id1:=0) (id2:=1) (n1:=a.length) (n2:=b.length) (bytes:=16) (h:= .own) rfl rfl rfl rfl (by unfold eb;omega);have hg3:Vd [Ad (a++b) 0 k,Ad b 0 false]:=by intro n _ o ho;simp at ho;rcases ho with rfl | rfl <;> exact Mr _ _ _ _
 have ra:=Fs hva;have rb:=Fs hvb;have rab:∀ p∈a++b,0<=p.1/\p.1<=p.2/\p.2<=TA:=fun p hp=>by
  rcases Naa.1 hp with h | h
  ·exact ra p h
  ·exact rb p h
 have h4:=FW (a++b) (fun p hp=>by have:=rab p hp;unfold TA at this;omega) (id0:=0) [Ad (a++b) 0 k,Ad b 0 false] hg3 rfl (by omega) (by simp;omega);obtain⟨⟨v,H4⟩,e4,l',fl,nl,V7,hps,hv,hg4,hget,hfl⟩:=wc h4;dsimp only at hv hg4 hget;subst hv;have law:=aT (top:=TA) l' (fun p hp=>rab p (V7.mem_iff.1 hp)) hps;have hll:(yi [] l').length<=a.length+b.length:=by have:=V7.length_eq;simp at this;omega
 have h5:=UU (wi Xk Jb 6) (yi [] l') H4 hg4 hget hfl (by omega);have hmem:∀ x,Qk x (yi [] l')↔Qk x a\/Qk x b:=by
  intro x;rw[law.2.1,<-zv];unfold Qk;constructor
  ·rintro⟨p,h,hx⟩;exact⟨p,V7.mem_iff.1 h,hx⟩
  ·rintro⟨p,h,hx⟩;exact⟨p,V7.mem_iff.2 h,hx⟩
 refine⟨yi [] l',?_,law.1,hmem,hll⟩;generalize yi [] l'=u at *;simp only[cab,Dab,fab,Raa,eab] at h1 h2 h3;rw[nac] at h3;have c1:∀ args H,wi Xk Jb 8 1 args H=ef (wi Xk Jb 7) tj args H:=fun _ _=>rfl;have c24:∀ args H,wi Xk Jb 8 24 args H=ef (wi Xk Jb 7) zq args H:=fun _ _=>rfl;have c3:∀ args H,wi Xk Jb 8 3 args H=ef (wi Xk Jb 7) Ll args H:=fun _ _=>rfl;have c2:∀ args H,wi Xk Jb 7 2 args H=ef (wi Xk Jb 6) Ld args H:=fun _ _=>rfl;have hab:(a++b).length=a.length+b.length:=by simp
 rw[hab] at e4;simp -implicitDefEqProofs only[Rm,YD,SP,WP,fa,sevalprocAttr,br,c1,h1,h2,h3,c24,e4,c3,Ll,c2,h5]
theorem Bx(v:PV)(l:List (Int×Int))(hv:Zh 2 v (ae l))(hw:l.length * 16<=140737488355328)(M7:Pa TA (-2) l=true):Km [v]=some (.lit 2 (ae l)):=by
 have h1:=dn v l hv hw;rw[<- cN] at h1;have h2:=Av (.lit 2 (ae l)) l (.inr rfl) (by unfold maxLen;omega) TA (by decide);rw[M7] at h2;simp -implicitDefEqProofs only[Km,SP,SA,SQ,sevalprocAttr,yu,Ng,Gc,h1,h2]
def yg:Nat->List (Int×Int)->List (Int×Int)->List (Int×Int)
 |0,_,_=>[]
 |n+1,a,b=>match a,b with
  |p::a',q::b'=>(if (if q.1 > p.1 then q.1 else p.1)<=(if q.2 < p.2 then q.2 else p.2) then [((if q.1 > p.1 then q.1 else p.1),(if q.2 < p.2 then q.2 else p.2))] else [])++(if p.2 < q.2 then yg n a' (q::b') else yg n (p::a') b')
  |_,_=>[]
abbrev cz(va vb:PV)(tk:Nat)(nl:Bool)(es:List PV):Tr:=((Tr.lf.set 5 (.uq tk nl 2 es)).set 1 (.pv vb)).set 0 (.pv va)
theorem Zh.I2{v:PV}{p:PV}{es:List PV}(h:Zh 2 v (p::es)):∀ H,ug H 2 (.pv v) (some 1) none=some (.pv (.lit 2 es)):=by
 intro H;rcases h with⟨_,h⟩ | rfl
 ·cases h
 ·simp[ug]
  omega
theorem CO(A B:PV)(a b:List (Int×Int))(hA:Zh 2 A (ae a))(hB:Zh 2 B (ae b))(hw:(a.length+b.length) * 16<=140737488355328):
 ∃ u,an [A,B]=some u/\Zh 2 u (ae (yg (a.length+b.length) a b)):=by
 have D7:qd (fun r=>∃ E H nl,r=(.exit 0,⟨E,H⟩)/\E.get 5= .uq 0 nl 2 (ae (yg (a.length+b.length) a b))/\(nl=true->yg (a.length+b.length) a b=[]))
  (ab (ma (oa (Da (fun _=>none) 8) Bg) (na 1 [0,1,5])) ua ⟨cz A B 0 true [],[.tok 2 0 true]⟩):=by
  refine wa (Es (g:=ma (oa (Da (fun _=>none) 8) Bg) (na 1 [0,1,5]))
   (fun m t=>∃ va vb a' b' nl out,m=a'.length+b'.length/\Zh 2 va (ae a')/\Zh 2 vb (ae b')/\t=⟨cz va vb 0 nl (ae out),[.tok 2 out.length nl]⟩/\out.length+m<=a.length+b.length/\(nl=true->out=[])/\yg (a.length+b.length) a b=out++yg m a' b')
   ua (a.length+b.length) _ (by unfold ua;omega) ⟨A,B,a,b,true,[],rfl,hA,hB,rfl,by simp,fun _=>rfl,rfl⟩ ?_) (fun r h=>h.2)
  rintro m t ⟨va,vb,a',b',nl,out,rfl,ha,hb,rfl,hlen,Y7,hs⟩;have la:=ha.len
  have lb:=hb.len
  simp only[ae,paa] at la lb;cases a' with
  |nil=>
   have hs':yg (a.length+b.length) a b=out:=by rw[hs];cases b' <;> simp[yg]
   have z1:decide (((([]:List (Int×Int)).length:Nat):Int) > 0)=false:=by decide
   generalize hQ:LQ _ _ _=Q;simp -implicitDefEqProofs only[SX,sevalprocAttr,Bg,la,z1,cz];subst hQ;rw[hs'];exact⟨_,_,nl,rfl,by simp[Tr.aa],Y7⟩
  |cons p a'=>
   have z1:decide ((((p::a').length:Nat):Int) > 0)=true:=Ea (by simp);cases b' with
   |nil=>
    have hs':yg (a.length+b.length) a b=out:=by rw[hs];simp[yg]
    have z2:decide (((([]:List (Int×Int)).length:Nat):Int) > 0)=false:=by decide
    generalize hQ:LQ _ _ _=Q;have la':∀ H,Tb H 0 (.pv va)=some (a'.length+1):=la;have z1':decide ((((a'.length+1):Nat):Int) > 0)=true:=z1;have lb':∀ H,Tb H 0 (.pv vb)=some 0:=lb;have z2':decide (((0:Nat):Int) > 0)=false:=z2;simp -implicitDefEqProofs only[SX,sevalprocAttr,Bg,la',lb',z1',z2',cz];subst hQ;rw[hs'];exact⟨_,_,nl,rfl,by simp[Tr.aa],Y7⟩
   |cons q b'=>
    have la':∀ H,Tb H 0 (.pv va)=some (a'.length+1):=la;have z1':decide ((((a'.length+1):Nat):Int) > 0)=true:=z1;have lb':∀ H,Tb H 0 (.pv vb)=some (b'.length+1):=lb;have z2':decide ((((b'.length+1):Nat):Int) > 0)=true:=Ea (by omega);have hva:va= .lit 2 (ae (p::a')):=ha.lit (i:=0) (by simp)
    have hvb:vb= .lit 2 (ae (q::b')):=hb.lit (i:=0) (by simp)
    have sa:=Zh.I2 ha
    have sb:=Zh.I2 hb
    have i1:∀ H,ta H 2 (.pv va) 0=some (.pv (.rp [i64 p.1,i64 p.2] 0)):=fun H=>by rw[hva];exact ym H (i:=0) (l:=p::a') (by simp)
    have i2:∀ H,ta H 2 (.pv vb) 0=some (.pv (.rp [i64 q.1,i64 q.2] 0)):=fun H=>by rw[hvb];exact ym H (i:=0) (l:=q::b') (by simp)
    have e8:=Ih (A:=[.tok 2 out.length nl]) (id:=0) (n:=out.length) (h:= .uq) (ag:=true) (nl:=nl) (sz:=2) (bytes:=16) (es:=ae out) rfl (by simp) (by unfold eb;simp only[Raa] at hlen;omega) (pr ((if q.1 > p.1 then q.1 else p.1),(if q.2 < p.2 then q.2 else p.2)));rw[nac] at e8;have hm:∀ n,yg (n+1) (p::a') (q::b')=(if (if q.1 > p.1 then q.1 else p.1)<=(if q.2 < p.2 then q.2 else p.2) then [((if q.1 > p.1 then q.1 else p.1),(if q.2 < p.2 then q.2 else p.2))] else [])++(if p.2 < q.2 then yg n a' (q::b') else yg n (p::a') b'):=fun n=>rfl;have hmn:(p::a').length+(q::b').length=(a'.length+b'.length+1)+1:=by simp;omega
    have l0:∀ H (x y:PV),pa H false 1 (.pv (.rp [x,y] 0))=some (.pv x):=fun H x y=>rfl;have l1:∀ H (x y:PV),pa H false 1 (.pv (.rp [x,y] 1))=some (.pv y):=fun H x y=>rfl;have p0:∀ H (x y:PV),place H 0 (.pv (.rp [x,y] 0))=some (.pv (.rp [x,y] 0)):=fun H x y=>rfl;have p1:∀ H (x y:PV),place H 1 (.pv (.rp [x,y] 0))=some (.pv (.rp [x,y] 1)):=fun H x y=>rfl;rw[hmn] at hlen;rw[hmn,hm] at hs;generalize W8:(if q.1 > p.1 then q.1 else p.1)=lo at *;generalize hhi:(if q.2 < p.2 then q.2 else p.2)=hi at *;clear hva hvb;have rah:ae (out++[(lo,hi)])=ae out++[pr (lo,hi)]:=by simp[ae]
    generalize hQ:LQ _ _ _=Q
    by_cases c1:lo<=hi
    ·have d1:=Ea c1
     rw[if_pos c1] at hs
     by_cases c2:p.2 < q.2
     ·have d2:=Ea c2
      rw[if_pos c2] at hs;simp -implicitDefEqProofs only[SP,WP,fa,sevalprocAttr,Bg,la',lb',z1',z2',i1,i2,l0,l1,p0,p1,cp,Ye,W8,hhi,e8,d1,d2,sa,sb,na,Ca,AV.cut,qa,za,cz];subst hQ;exact⟨a'.length+b'.length+1,by rw[hmn];omega,_,vb,a',q::b',false,out++[(lo,hi)],by simp;omega,.inr rfl,hb,by rw[rah];simp[cz],by simp;omega,by simp,by rw[hs,Oab]⟩
     ·have d2:=Ga c2
      rw[taa c2] at hs;simp -implicitDefEqProofs only[SP,WP,fa,sevalprocAttr,Bg,la',lb',z1',z2',i1,i2,l0,l1,p0,p1,cp,Ye,W8,hhi,e8,d1,d2,sa,sb,na,Ca,AV.cut,qa,za,cz];subst hQ;exact⟨a'.length+b'.length+1,by rw[hmn];omega,va,_,p::a',b',false,out++[(lo,hi)],by simp;omega,ha,.inr rfl,by rw[rah];simp[cz],by simp;omega,by simp,by rw[hs,Oab]⟩
    ·have d1:=Ga c1
     rw[taa c1,cab] at hs
     by_cases c2:p.2 < q.2
     ·have d2:=Ea c2
      rw[if_pos c2] at hs;simp -implicitDefEqProofs only[SP,WP,fa,sevalprocAttr,Bg,la',lb',z1',z2',i1,i2,l0,l1,p0,p1,cp,Ye,W8,hhi,d1,d2,sa,sb,na,Ca,AV.cut,qa,za,cz];subst hQ;exact⟨a'.length+b'.length+1,by rw[hmn];omega,_,vb,a',q::b',nl,out,by simp;omega,.inr rfl,hb,rfl,by omega,Y7,hs⟩
     ·have d2:=Ga c2
      rw[taa c2] at hs;simp -implicitDefEqProofs only[SP,WP,fa,sevalprocAttr,Bg,la',lb',z1',z2',i1,i2,l0,l1,p0,p1,cp,Ye,W8,hhi,d1,d2,sa,sb,na,Ca,AV.cut,qa,za,cz];subst hQ;exact⟨a'.length+b'.length+1,by rw[hmn];omega,va,_,p::a',b',nl,out,by simp;omega,ha,.inr rfl,rfl,by omega,Y7,hs⟩
 obtain⟨r,h1,E,H,nl,rfl,hE,Y7⟩:=wc D7;simp only[cz,ae,Rad] at h1;generalize yg (a.length+b.length) a b=u at *;have hz:(0 < 2)=True:=by simp
 cases nl with
 |true=>refine⟨.ga,?_,.inl ⟨rfl,by rw[Y7 rfl];rfl⟩⟩;simp -implicitDefEqProofs only[an,SX,sevalprocAttr,yt,Db,fe,hz,na,Ca,AV.cut,qa,za,h1,hE]
 |false=>refine⟨.lit 2 (ae u),?_,.inr rfl⟩;simp -implicitDefEqProofs only[an,SX,sevalprocAttr,yt,Db,fe,hz,na,Ca,AV.cut,qa,za,h1,hE]
theorem rF{top:Int}:∀ {l:List (Int×Int)}{last:Int},Pa top last l=true->∀ p∈l,last < p.1 - 1
 |q::l,last,h,p,hp=>by
  obtain⟨h1,h2,h3,h4,h5⟩:=Uc h;rcases bab.1 hp with rfl | hp
  ·omega
  ·have:=rF h5 p hp;omega
theorem Rp{top last x:Int}{l:List (Int×Int)}(h:Pa top last l=true)(hx:Qk x l):last+1 < x:=by
 obtain⟨p,hp,h1,h2⟩:=hx;have:=rF h p hp;omega
theorem Lu{top:Int}:∀ (n:Nat)(a b:List (Int×Int))(la lb:Int),Pa top la a=true->Pa top lb b=true->a.length+b.length<=n->
 (∀ x,Qk x (yg n a b)↔Qk x a/\Qk x b)/\∀ p∈yg n a b,p.1<=p.2
 |0,a,b,la,lb,_,_,hn=>by have:a=[]:=yaa (by omega);subst this;exact⟨fun x=>by simp[yg,Qn],by simp[yg]⟩
 |n+1,[],b,la,lb,_,_,hn=>⟨fun x=>by simp[yg,Qn],by simp[yg]⟩
 |n+1,p::a,[],la,lb,_,_,hn=>⟨fun x=>by simp[yg,Qn],by simp[yg]⟩
 |n+1,p::a,q::b,la,lb,ha,hb,hn=>by
  obtain⟨a1,a2,a3,a4,a5⟩:=Uc ha;obtain⟨b1,b2,b3,b4,b5⟩:=Uc hb;rw[yg];have W8:p.1<=(if q.1 > p.1 then q.1 else p.1)/\q.1<=(if q.1 > p.1 then q.1 else p.1)/\((if q.1 > p.1 then q.1 else p.1)=p.1\/(if q.1 > p.1 then q.1 else p.1)=q.1):=by split <;> omega
  have hhi:(if q.2 < p.2 then q.2 else p.2)<=p.2/\(if q.2 < p.2 then q.2 else p.2)<=q.2/\((if q.2 < p.2 then q.2 else p.2)=p.2\/(if q.2 < p.2 then q.2 else p.2)=q.2):=by split <;> omega
  generalize (if q.1 > p.1 then q.1 else p.1)=lo at *;generalize (if q.2 < p.2 then q.2 else p.2)=hi at *;have hpc:∀ x,Qk x (if lo<=hi then [(lo,hi)] else [])↔(p.1<=x/\x<=p.2)/\(q.1<=x/\x<=q.2):=by
   intro x
   by_cases h:lo<=hi
   ·rw[if_pos h,fq];simp only;omega
   ·rw[taa h]
    simp only[Qn,false_iff];omega
  have V7:∀ r∈(if lo<=hi then [(lo,hi)] else []),r.1<=r.2:=by
   intro r hr
   by_cases h:lo<=hi
   ·rw[if_pos h] at hr;simp at hr;subst hr;exact h
   ·rw[taa h] at hr;simp at hr
  by_cases c:p.2 < q.2
  ·rw[if_pos c]
   have ih:=Lu n a (q::b) p.2 lb a5 hb (by simp at hn ⊢;omega)
   refine⟨fun x=> ?_,fun r hr=> ?_⟩
   ·rw[zv,hpc,ih.1,bn,bn]
    have Eaf:Qk x b->q.2+1 < x:=Rp b5
    constructor
    ·rintro (⟨h1,h2⟩ | ⟨h1,h2⟩)
     ·exact⟨.inl h1,.inl h2⟩
     ·exact⟨.inr h1,h2⟩
    ·rintro⟨h1 | h1,h2⟩
     ·rcases h2 with h2 | h2
      ·exact .inl ⟨h1,h2⟩
      ·have:=Eaf h2;omega
     ·exact .inr ⟨h1,h2⟩
   ·rcases Naa.1 hr with h | h
    ·exact V7 r h
    ·exact ih.2 r h
  ·rw[taa c]
   have ih:=Lu n (p::a) b la q.2 ha b5 (by simp at hn ⊢;omega)
   refine⟨fun x=> ?_,fun r hr=> ?_⟩
   ·rw[zv,hpc,ih.1,bn,bn]
    have Eaf:Qk x a->p.2+1 < x:=Rp a5
    constructor
    ·rintro (⟨h1,h2⟩ | ⟨h1,h2⟩)
     ·exact⟨.inl h1,.inl h2⟩
     ·exact⟨h1,.inr h2⟩
    ·rintro⟨h1,h2 | h2⟩
     ·rcases h1 with h1 | h1
      ·exact .inl ⟨h1,h2⟩
      ·have:=Eaf h1;omega
     ·exact .inr ⟨h1,h2⟩
   ·rcases Naa.1 hr with h | h
    ·exact V7 r h
    ·exact ih.2 r h
theorem TQ{top:Int}{a b:List (Int×Int)}(ha:Pa top (-2) a=true)(hb:Pa top (-2) b=true):yg (a.length+b.length) a b≠[]↔∃ x,Qk x a/\Qk x b:=by
 have h:=Lu (a.length+b.length) a b (-2) (-2) ha hb (waa _);constructor
 ·intro I7
  obtain⟨p,r,hpr⟩:=List.exists_cons_of_ne_nil I7
  have hp:p∈yg (a.length+b.length) a b:=by rw[hpr];simp
  exact⟨p.1,(h.1 p.1).1 ⟨p,hp,Kac _,h.2 p hp⟩⟩
 ·rintro⟨x,hx⟩ he
  have:=(h.1 x).2 hx
  rw[he] at this;exact Qn x this
theorem Dz:∀ (n:Nat)(a b:List (Int×Int)),(yg n a b).length<=n
 |0,a,b=>by simp[yg]
 |n+1,[],b=>by simp[yg]
 |n+1,p::a,[]=>by simp[yg]
 |n+1,p::a,q::b=>by
  rw[yg,Aaa];generalize (if q.1 > p.1 then q.1 else p.1)=lo;generalize (if q.2 < p.2 then q.2 else p.2)=hi;have h1:(if lo<=hi then [(lo,hi)] else []).length<=1:=by
   by_cases h:lo<=hi
   ·rw[if_pos h];simp
   ·rw[taa h];simp
  by_cases c:p.2 < q.2
  ·rw[if_pos c];have:=Dz n a (q::b);omega
  ·rw[taa c];have:=Dz n (p::a) b;omega
theorem CD(A B:PV)(a b:List (Int×Int))(hA:Zh 2 A (ae a))(hB:Zh 2 B (ae b))(hva:Pa TA (-2) a=true)(hvb:Pa TA (-2) b=true)(hw:(a.length+b.length) * 16<=140737488355328):
 Kn [A,B]=some (.lit 2 (ae (yg (a.length+b.length) a b))):=by
 have h1:=Bx A a hA (by omega) hva;have h2:=Bx B b hB (by omega) hvb;obtain⟨u,h3,h4⟩:=CO (.lit 2 (ae a)) (.lit 2 (ae b)) a b (.inr rfl) (.inr rfl) hw;have h5:=dn u _ h4 (by have:=Dz (a.length+b.length) a b;omega);rw[<- ML] at h5;have h6:Tn [u]=some (.lit 2 (ae (yg (a.length+b.length) a b))):=by simp -implicitDefEqProofs only[Tn,SP,SA,SQ,sevalprocAttr,Cs,Ng,Gc,h5]
 simp -implicitDefEqProofs only[Kn,SP,SA,SQ,sevalprocAttr,Gs,Ng,Gc,h1,h2,h3,h6]
theorem uu(v:PV)(l:List (Int×Int))(hv:Zh 2 v (ae l))(hw:l.length * 16<=140737488355328)(M7:Pa 255 (-2) l=true):Fh [v]=some (.lit 2 (ae l)):=by
 have h1:=dn v l hv hw;have h2:=Av (.lit 2 (ae l)) l (.inr rfl) (by unfold maxLen;omega) 255 (by decide);rw[M7] at h2;simp -implicitDefEqProofs only[Fh,SP,SA,SQ,sevalprocAttr,Xp,Ng,Gc,h1,h2]
theorem mF(A B:PV)(a b:List (Int×Int))(hA:Zh 2 A (ae a))(hB:Zh 2 B (ae b))(hva:Pa 255 (-2) a=true)(hvb:Pa 255 (-2) b=true)(hw:(a.length+b.length) * 16<=140737488355328):
 Ir [A,B]=some (.lit 2 (ae (yg (a.length+b.length) a b))):=by
 have h1:=uu A a hA (by omega) hva;have h2:=uu B b hB (by omega) hvb;obtain⟨u,h3,h4⟩:=CO (.lit 2 (ae a)) (.lit 2 (ae b)) a b (.inr rfl) (.inr rfl) hw;have h5:=dn u _ h4 (by have:=Dz (a.length+b.length) a b;omega);rw[<- yO] at h5;have h6:vr [u]=some (.lit 2 (ae (yg (a.length+b.length) a b))):=by simp -implicitDefEqProofs only[vr,SP,SA,SQ,sevalprocAttr,qx,Ng,Gc,h5]
 simp -implicitDefEqProofs only[Ir,SP,SA,SQ,sevalprocAttr,Yw,Ng,Gc,h1,h2,h3,h6]
theorem EC(n:Int)(l:List (Int×Int)):ib n l=n+ib 0 l:=by
 induction l generalizing n with
 |nil=>simp[ib]
 |cons p l ih=>rw[ib,ib,ih,ih (0+(p.2 - p.1+1))];omega
theorem Dt{top:Int}:∀ {l:List (Int×Int)}{last:Int},Pa top last l=true->0<=ib 0 l/\(l≠[]->1<=ib 0 l/\ib 0 l<=top - last - 1/\ib 0 l<=top+1)/\ib 0 l<=max 0 (top+1)
 | [],last,_=>⟨by simp[ib],fun h=>absurd rfl h,by simp[ib];omega⟩
 |p::l,last,h=>by
  obtain⟨h1,h2,h3,h4,h5⟩:=Uc h;have ih:=Dt h5;rw[ib,EC];have key:l≠[]\/l=[]:=by cases l <;> simp
  rcases key with hl | hl
  ·have:=ih.2.1 hl
   exact⟨by omega,fun _=>⟨by omega,by omega,by omega⟩,by omega⟩
  ·subst hl
   simp only[ib];exact⟨by omega,fun _=>⟨by omega,by omega,by omega⟩,by omega⟩
theorem Bw{top:Int}:∀ {l:List (Int×Int)}{last:Int},Pa top last l=true->(l.length:Int)<=max 0 (top - last)
 | [],last,_=>by simp;omega
 |p::l,last,h=>by obtain⟨h1,h2,h3,h4,h5⟩:=Uc h;have:=Bw h5;simp only[Raa];omega
theorem Cy(v:PV)(l:List (Int×Int))(hv:Zh 2 v (ae l))(hw:l.length * 16<=140737488355328)(M7:Pa 255 (-2) l=true):Un [v]=some (i64 (ib 0 l)):=by
 have h1:=uu v l hv hw M7;have h2:=CV (.lit 2 (ae l)) l (.inr rfl) (by unfold maxLen;omega) (top:=255) (by decide) M7;simp -implicitDefEqProofs only[Un,SP,SA,SQ,sevalprocAttr,Iw,Ng,Gc,h1,h2]
open Go.AM
theorem Jq(A:List ba)(o:ba):(A++[o])[A.length]? =some o:=by simp
theorem cq(A:List ba)(o o':ba):(A++[o]).set A.length o'=A++[o']:=by
 apply Vab;intro i
 by_cases h:i=A.length
 ·subst h;simp
 ·rw[Jaa (rac h)]
  rcases Xaa i A.length with h1 | h1
  ·rw[gaa h1,gaa h1]
  ·rw[Paa h1,Paa h1]
   have:i - A.length≠0:=by omega
   obtain⟨k,hk⟩:∃ k,i - A.length=k+1:=⟨i - A.length - 1,by omega⟩
   rw[hk];simp
abbrev u32(n:Int):PV:= .int .u32 n
abbrev Uz(S:PV)(x d bits len i left:Int)(ends:Bool):Tr:=
 ((((((Tr.lf.set 18 (.pv (i64 i))).set 17 (.pv (i64 len))).set 16 (.pv S)).set 9 (.pv (.bool ends))).set 8 (.pv (u32 left))).set 4 (.pv (.rp [i64 d,u32 bits] 0))).set 2 (.pv (i64 x))
def mC(bits:Int)(i:Nat):Bool:=IntKind.u32.wrap (((BitVec.ofInt IntKind.u32.bits (bits.fdiv (2 ^ min i IntKind.u32.bits)) &&& BitVec.ofInt IntKind.u32.bits 1).toNat:Nat):Int)==1
theorem Iz(bits:Int)(i:Nat):(IntKind.u32.wrap (((BitVec.ofInt IntKind.u32.bits (bits.fdiv (2 ^ min i IntKind.u32.bits)) &&& BitVec.ofInt IntKind.u32.bits 1).toNat:Nat):Int)==1)=mC bits i:=rfl
def O5(left:Int)(i:Nat):Int:=IntKind.u32.wrap (((BitVec.ofInt IntKind.u32.bits left ||| BitVec.ofInt IntKind.u32.bits (IntKind.u32.wrap (1 * 2 ^ min i IntKind.u32.bits))).toNat:Nat):Int)
theorem NN(left:Int)(i:Nat):IntKind.u32.wrap (((BitVec.ofInt IntKind.u32.bits left ||| BitVec.ofInt IntKind.u32.bits (IntKind.u32.wrap (1 * 2 ^ min i IntKind.u32.bits))).toNat:Nat):Int)=O5 left i:=rfl
section
variable (call:Sa)(A:List ba)(ss:List PV)(x bits left:Int)(d:Nat)(ends:Bool)(i len:Nat)(hi:i < len)(hl:len=ss.length)(hw:len<=maxLen)(ps:List PV)(first:Int)(hs:ss[i]? =some (.agg [.lit 1 ps,i64 first]))
include hi hl hw hs
theorem zZ(hb:mC bits i=false):
 ma (oa call Eb) (fun s=>some (tidy [2,4,8,9,16,17,18] s)) ⟨Uz (.lit 2 ss) x d bits len i left ends,A⟩=
  some (.norm,⟨Uz (.lit 2 ss) x d bits len (i+1:Nat) left ends,A++[.box [.pv (.lit 1 ps),.pv (i64 first)]]⟩):=by
 have e1:decide ((i:Int) < (len:Int))=true:=Ea (by omega);have hq:Ia (i:Int) ss.length:=by unfold Ia;omega
 have t1:((i:Int)).toNat=i:=by simp
 have t2:=Za hi hw;have hn:((i:Int) < 0)=False:=by simp
 simp -implicitDefEqProofs only[SP,SA,SQ,sevalprocAttr,ma,Eb,e1,Laa hq,t1,t2,hs,hn,Iz,hb,ta,Jq,cq,tidy,Hc,Uz]
theorem gZ(hb:mC bits i=true)(qs:List PV)(hp:ps[d]? =some (.lit 2 qs))(hdl:d < ps.length)(hd:d < 4611686018427387904)(hh:Wl [.lit 2 qs,i64 x]=some (.bool false)):
 ma (oa call Eb) (fun s=>some (tidy [2,4,8,9,16,17,18] s)) ⟨Uz (.lit 2 ss) x d bits len i left ends,A⟩=
  some (.norm,⟨Uz (.lit 2 ss) x d bits len (i+1:Nat) left ends,A++[.box [.pv (.lit 1 ps),.pv (i64 first)]]⟩):=by
 have e1:decide ((i:Int) < (len:Int))=true:=Ea (by omega);have hq:Ia (i:Int) ss.length:=by unfold Ia;omega
 have t1:((i:Int)).toNat=i:=by simp
 have t2:=Za hi hw;have hn:((i:Int) < 0)=False:=by simp
 have N9:Ia (d:Int) ps.length:=by unfold Ia;omega
 have t3:((d:Int)).toNat=d:=by simp
 simp -implicitDefEqProofs only[SP,SA,SQ,sevalprocAttr,ma,Eb,e1,Laa hq,Laa N9,t1,t2,t3,hs,hn,Iz,hb,hp,hh,Ng,Gc,ta,Jq,cq,tidy,Hc,Uz]
theorem K3(hb:mC bits i=true)(qs:List PV)(hp:ps[d]? =some (.lit 2 qs))(hdl:d < ps.length)(hd:d < 4611686018427387904)(hh:Wl [.lit 2 qs,i64 x]=some (.bool true)):
 ma (oa call Eb) (fun s=>some (tidy [2,4,8,9,16,17,18] s)) ⟨Uz (.lit 2 ss) x d bits len i left ends,A⟩=
  some (.norm,⟨Uz (.lit 2 ss) x d bits len (i+1:Nat) (O5 left i) (ends||(ps.length==d+1)),A++[.box [.pv (.lit 1 ps),.pv (i64 first)]]⟩):=by
 have e1:decide ((i:Int) < (len:Int))=true:=Ea (by omega);have hq:Ia (i:Int) ss.length:=by unfold Ia;omega
 have t1:((i:Int)).toNat=i:=by simp
 have t2:=Za hi hw;have hn:((i:Int) < 0)=False:=by simp
 have N9:Ia (d:Int) ps.length:=by unfold Ia;omega
 have t3:((d:Int)).toNat=d:=by simp
 have t4:IntKind.i64.wrap ((d:Int)+1)=((d+1:Nat):Int):=Aa (by omega)
 have t5:((ps.length:Int)==((d+1:Nat):Int))=(ps.length==d+1):=by rw[fae];simp;omega
 cases ends with
 |true=>simp -implicitDefEqProofs only[SP,SA,SQ,sevalprocAttr,ma,Eb,e1,Laa hq,Laa N9,t1,t2,t3,t4,t5,hs,hn,Iz,NN,hb,hp,hh,Ng,Gc,ta,Jq,cq,tidy,Hc,Uz]
 |false=>simp -implicitDefEqProofs only[SP,SA,SQ,sevalprocAttr,ma,Eb,e1,Laa hq,Laa N9,t1,t2,t3,t4,t5,hs,hn,Iz,NN,hb,hp,hh,Ng,Gc,ta,Jq,cq,tidy,Hc,Uz]
end
structure Ob where
 parts:List (List (Int×Int))
 first:Int
def Qe(l:List (Int×Int)):PV:= .lit 2 (ae l)
def uf(s:Ob):PV:= .agg [.lit 1 (s.parts.map Qe),i64 s.first]
def nQ(l:List (Int×Int))(x:Int):Bool:=(Md x 0 (AA l)).2
def Lv(s:Ob)(d:Nat)(x:Int):Bool:=
 match s.parts[d]? with
 |some l=>nQ l x
 |none=>false
def Th(x bits:Int)(d:Nat):Nat->List Ob->Int×Bool->Int×Bool
 |_,[],acc=>acc
 |i,s::r,acc=>Th x bits d (i+1) r (if mC bits i&&Lv s d x then (O5 acc.1 i,acc.2||(s.parts.length==d+1)) else acc)
theorem KL(l:List (Int×Int)):LB (.lit 2 (ae l))=some l:=by
 have:Ra zB (ae l)=some l:=by
  induction l with
  |nil=>rfl
  |cons p l ih=>simp only[ae,pab,Ra,zB,Daa] at ih ⊢;rw[ih];rfl
 exact this
theorem PS{l:List (Int×Int)}(h:l.length * 16<=140737488355328)(x:Int):Wl [Qe l,i64 x]=some (.bool (nQ l x)):=by
 simp only[Wl,Qe,KL,Daa,if_pos h];rfl
def gI(ss:List Ob):List ba:=ss.map fun s=> .box [.pv (.lit 1 (s.parts.map Qe)),.pv (i64 s.first)]
section
variable (call:Sa)(H:List ba)(id:Nat)(rest:List AV)(S:PV)(ss:List Ob)(x bits:Int)(d:Nat)
 (G7:H[id]? =some (.box (.pv S::rest))) (hS:Zh 2 S (ss.map uf)) (hw:ss.length<=maxLen) (hd:d < 4611686018427387904)
 (Ba:∀ i s,ss[i]? =some s->mC bits i=true->d < s.parts.length) (K7:∀ s∈ss,∀ l∈s.parts,l.length * 16<=140737488355328)
include G7 hS hw hd Ba K7
theorem Bs:ef call Xi [.ptr id 0,.pv (.agg [i64 d,u32 bits]),.pv (i64 x)] H=
 some (.pv (.mc [u32 (Th x bits d 0 ss (0,false)).1,.bool (Th x bits d 0 ss (0,false)).2]),H++gI ss):=by
 have ls:=hS.len
 simp only[paa] at ls;have key:=Zl (g:=ma (oa call Eb) (fun s=>some (tidy [2,4,8,9,16,17,18] s)))
  (fun i t=>∃ left ends,t=⟨Uz S x d bits ss.length i left ends,H++gI (ss.take i)⟩/\Th x bits d 0 ss (0,false)=Th x bits d i (ss.drop i) (left,ends))
  (fun ex t=>ex= .exit 0/\t=⟨(Uz S x d bits ss.length ss.length (Th x bits d 0 ss (0,false)).1 (Th x bits d 0 ss (0,false)).2).set 19 (.pv (.bool false)),H++gI ss⟩)
  ua ss.length 0 ⟨Uz S x d bits ss.length (0:Nat) 0 false,H⟩ (by unfold ua;unfold maxLen at hw;omega) (by omega) ⟨0,false,by simp[gI],rfl⟩ ?_ ?_
 ·obtain⟨ex,t,h,_,rfl,rfl⟩:=key
  generalize Th x bits d 0 ss (0,false)=r at *;simp -implicitDefEqProofs only[SP,SA,SQ,sevalprocAttr,Xi,ls,G7,yr,tidy,Hc,Uz,h];simp only[Uz] at h;have h':ab (ma (oa call Eb) (fun s=>some (tidy [2,4,8,9,16,17,18] s))) ua ⟨((((((Tr.lf.set 18 (.pv (i64 0))).set 17 (.pv (i64 ss.length))).set 16 (.pv S)).set 9 (.pv (.bool false))).set 8 (.pv (u32 0))).set 4 (.pv (.rp [i64 d,u32 bits] 0))).set 2 (.pv (i64 x)),H⟩=_:=h;simp only[tidy,Hc] at h';rw[h'];simp -implicitDefEqProofs only[SP,SA,SQ,sevalprocAttr,Gc]
 ·rintro i hi t ⟨left,ends,rfl,hb⟩
  have Yaj:=hS.lit (i:=i) (by simpa using hi)
  subst Yaj;have hg:(ss.map uf)[i]? =some (.agg [.lit 1 (ss[i].parts.map Qe),i64 ss[i].first]):=by simp[hi,uf]
  have hdr:ss.drop i=ss[i]::ss.drop (i+1):=Waa hi
  have hJ:H++gI (ss.take (i+1))=H++gI (ss.take i)++[.box [.pv (.lit 1 (ss[i].parts.map Qe)),.pv (i64 ss[i].first)]]:=by rw[List.take_succ_eq_append_getElem hi,gI,qac,Oab];rfl
  rw[hdr,Th] at hb;cases naa:mC bits i with
  |false=>rw[naa] at hb;refine .inl ⟨_,zZ call _ _ x bits left d ends i ss.length hi (by simp) hw _ _ hg naa,left,ends,by rw[hJ],hb⟩
  |true=>
   have hdl:=Ba i ss[i] (by simp[hi]) naa;have hp:(ss[i].parts.map Qe)[d]? =some (.lit 2 (ae ss[i].parts[d])):=by simp[hdl,Qe]
   have hc:=PS (K7 ss[i] (saa hi) ss[i].parts[d] (saa hdl)) x;have Y8:Lv ss[i] d x=nQ ss[i].parts[d] x:=by simp[Lv,hdl]
   rw[naa,Y8,uab] at hb;cases hh:nQ ss[i].parts[d] x with
   |false=>rw[hh] at hb hc;refine .inl ⟨_,gZ call _ _ x bits left d ends i ss.length hi (by simp) hw _ _ hg naa _ hp (by simpa using hdl) hd hc,left,ends,by rw[hJ],hb⟩
   |true=>
    rw[hh] at hb hc;refine .inl ⟨_,K3 call _ _ x bits left d ends i ss.length hi (by simp) hw _ _ hg naa _ hp (by simpa using hdl) hd hc,_,_,by rw[hJ],?_⟩
    rw[hb];simp
 ·rintro t ⟨left,ends,rfl,hb⟩
  rw[Hab] at hb;simp only[Th] at hb;refine⟨.exit 0,_,?_,rfl,rfl,rfl⟩;rw[hb,Fab];have e1:decide ((ss.length:Int) < (ss.length:Int))=false:=Ga (by omega);simp -implicitDefEqProofs only[SP,SA,SQ,sevalprocAttr,ma,Eb,e1,Uz]
end
abbrev Al:=Nat×Int
def Si(a:Al):PV:= .agg [i64 a.1,u32 a.2]
def AE(l:List Al)(k:Nat):List (PV×PV):=(l.zipIdx k).map fun p=>(Si p.1,i64 p.2)
theorem SC(a:Al)(l:List Al)(k:Nat):AE (a::l) k=(Si a,i64 k)::AE l (k+1):=rfl
theorem DJ(a:Al):∀ (l:List Al)(k:Nat),AE (l++[a]) k=AE l k++[(Si a,i64 (k+l.length:Nat))]
 | [],k=>by simp[AE]
 |b::l,k=>by rw[fab,SC,DJ a l (k+1),SC];simp;omega
theorem YE(a b:Al):Ql (.row [1,1]) (Si a) (Si b)=some (decide (a=b)):=by
 obtain⟨a1,a2⟩:=a;obtain⟨b1,b2⟩:=b;simp only[Si,Ql,cj,Us,if_true,Daa,Kaa,mae,vaa,Bool.decide_and]
 congr 1
 rw[fae];simp;intro _;omega
def Tm(a:Al):List Al->Nat->Option Nat
 | [],_=>none
 |b::l,k=>if a=b then some k else Tm a l (k+1)
theorem rL(a:Al):∀ (l:List Al)(k j:Nat),qn (.row [1,1]) (Si a) (AE l k) j=some ((Tm a l k).map fun i=>(j+(i - k),i64 i)):=by
 intro l
 induction l with
 |nil=>intro k j;rfl
 |cons b l ih=>
  intro k j;rw[SC,qn,YE];simp only[Daa,Tm]
  by_cases h:a=b
  ·simp[h]
  ·rw[taa h,ih]
   simp only[h,decide_false,Baa,if_false,eaa];cases hi:Tm a l (k+1) with
   |none=>rfl
   |some i=>
    have:k+1<=i:=by
     clear ih
     induction l generalizing k with
     |nil=>simp[Tm] at hi
     |cons c l ihl=>
      simp only[Tm] at hi
      split at hi
      ·injection hi with hi;omega
      ·have:=ihl (k+1) hi;omega
    simp only[Kaa,eaa,vaa,and_true];omega
abbrev Hk(R0 R1:ba)(S:PV)(nl:Bool)(B7:List Al)(rows:ba)(n:Nat)(T:List ba):List ba:=
 R0::R1:: .map (AE B7 0):: .box [.pv S,.mp 2,.uq 4 nl 2 (B7.map Si),.own 5 n]:: .tok 2 B7.length nl::rows::T
section
variable (call:Sa)(R0 R1:ba)(S:PV)(nl:Bool)(B7:List Al)(rows:ba)(n:Nat)(T:List ba)(a:Al)
theorem YZ{i:Nat}(h:Tm a B7 0=some i):
 ef call ze [.ptr 3 0,.pv (Si a)] (Hk R0 R1 S nl B7 rows n T)=some (.pv (.mc [i64 i,.bool true]),Hk R0 R1 S nl B7 rows n T):=by
 have hf:=rL a B7 0 0;rw[h] at hf;simp only[Kaa] at hf;have hk:(Ql (.row [1,1]) (Si a) (Si a)).isSome=true:=by rw[YE];rfl
 simp only[Si] at hf hk;simp -implicitDefEqProofs only[SP,SA,SQ,sevalprocAttr,Si,ze,hf,Laa hk]
theorem MX(h:Tm a B7 0=none)(hl:B7.length=64):
 ef call ze [.ptr 3 0,.pv (Si a)] (Hk R0 R1 S nl B7 rows n T)=some (.pv (.mc [i64 0,.bool false]),Hk R0 R1 S nl B7 rows n T):=by
 have hf:=rL a B7 0 0;rw[h] at hf;simp only[Option.map_none] at hf;have hk:(Ql (.row [1,1]) (Si a) (Si a)).isSome=true:=by rw[YE];rfl
 have e1:(((B7.map Si).length:Int)==64)=true:=by simp[hl]
 simp only[Si] at hf hk;simp -implicitDefEqProofs only[SP,SA,SQ,sevalprocAttr,ze,Si,hf,Laa hk,e1]
theorem wR(h:Tm a B7 0=none)(hl:B7.length < 64):
 ef call ze [.ptr 3 0,.pv (Si a)] (Hk R0 R1 S nl B7 rows n T)=some (.pv (.mc [i64 B7.length,.bool true]),Hk R0 R1 S false (B7++[a]) rows n T):=by
 have hf:=rL a B7 0 0;rw[h] at hf;simp only[Option.map_none] at hf;have hk:(Ql (.row [1,1]) (Si a) (Si a)).isSome=true:=by rw[YE];rfl
 have e1:((B7.length:Int)==64)=false:=mj (by omega);have hp:=DJ a B7 0;rw[eab] at hp;have q1:eb (B7.length+1) 16:=by unfold eb;omega
 have hlen:(B7.map Si).length=B7.length:=by simp
 have L8:(B7++[a]).length=B7.length+1:=by simp
 have Wab:(B7++[a]).map Si=B7.map Si++[Si a]:=by simp
 unfold Hk;rw[hp,L8,Wab];simp only[Si] at hf hk ⊢;simp -implicitDefEqProofs only[SP,SA,SQ,sevalprocAttr,ze,hf,Laa hk,e1,hlen,Laa q1,jj,AV.WE,AV.Tq]
end
theorem Mn(n:Nat)(cs:List AV):qa n (.box cs)=(Ra (AV.cut n deep) cs).map .box:=rfl
theorem Mo(n:Nat)(es:List (PV×PV)):qa n (.map es)=some (.map es):=rfl
theorem Au(n sz:Nat)(ag:Bool)(cs:List AV)(fl:Nat)(nl:Bool):qa n (.seq sz ag cs fl nl)=if cs.all (AV.ie n deep)=true then some (.seq sz ag cs fl nl) else none:=rfl
theorem Po(n sz m:Nat)(nl:Bool):qa n (.tok sz m nl)=some (.tok sz m nl):=rfl
def rh(ss:List Ob)(a:Al)(x:Int)(B7:List Al):Option (List Al×Int):=
 if (Th x a.2 a.1 0 ss (0,false)).1=0 then some (B7,-2)
 else if (Th x a.2 a.1 0 ss (0,false)).2=true then some (B7,-1)
 else match Tm (a.1+1,(Th x a.2 a.1 0 ss (0,false)).1) B7 0 with
  |some k=>some (B7,(k:Int))
  |none=>if B7.length < 64 then some (B7++[(a.1+1,(Th x a.2 a.1 0 ss (0,false)).1)],(B7.length:Int)) else none
inductive aw(k:Nat)(v:AV)(o:ba):Option (Ex×St)->Prop
 |mk (s:St):s.env.get k=v->s.H[0]? =some o->aw k v o (some (.ret,s))
theorem BG{k:Nat}{v:AV}{o:ba}{s:St}:aw k v o (some (.ret,s))=(s.env.get k=v/\s.H[0]? =some o):=
 propext ⟨fun h=>by cases h with | mk _ h h'=>exact⟨h,h'⟩,fun h=> .mk s h.1 h.2⟩
theorem Rt{k:Nat}{v:AV}{o:ba}{r:Option (Ex×St)}(h:aw k v o r):∃ t,r=some (.ret,t)/\t.env.get k=v/\t.H[0]? =some o:=by
 cases h with | mk s h h'=>exact⟨s,rfl,h,h'⟩
def La(l:List Int):List AV:=l.map fun n=> .pv (i64 n)
theorem Qj(l:List Int)(x:Nat)(v:Int):(La l).set x (.pv (i64 v))=La (l.set x v):=by simp[La,xae]
theorem pb(l:List Int):(La l).length=l.length:=by simp[La]
theorem Ws(n d:Nat)(l:List Int):Ra (AV.cut n d) (La l)=some (La l):=by
 induction l with
 |nil=>rfl
 |cons a l ih=>simp only[La,pab,Ra,Qa,Daa] at ih ⊢;rw[ih];rfl
abbrev Gn(i x:Int):Tr:=(((Tr.lf.set 30 (.pv (i64 x))).set 4 (.ptr 6 0)).set 3 (.pv (i64 i))).set 0 (.ptr 3 0)
section
variable (R0 R1:ba)(S:PV)(nl:Bool)(B7:List Al)(rows:ba)(n:Nat)(row:List Int)(ss:List Ob)(i x:Nat)(a:Al)
 (h0:qa 7 R0=some R0) (h1:qa 7 R1=some R1) (hr:qa 7 rows=some rows) (J7:row.length=256) (hx:x < 256)
 (hi:i < B7.length) (ha:(B7.map Si)[i]? =some (.agg [i64 a.1,u32 a.2])) (had:a.1 < 4611686018427387904)
 (hS:Zh 2 S (ss.map uf)) (hw:ss.length<=maxLen)
 (Ba:∀ i s,ss[i]? =some s->mC a.2 i=true->a.1 < s.parts.length) (K7:∀ s∈ss,∀ l∈s.parts,l.length * 16<=140737488355328)
include h0 h1 hr J7 hx hi ha had hS hw Ba K7
theorem iT(hb:(Th x a.2 a.1 0 ss (0,false)).1=0):
 Wc (Da Fa 7) [0,3,4,30] Ma 7 ⟨Gn i x,Hk R0 R1 S nl B7 rows n [.box (La row)]⟩=
  some (.norm,⟨Gn i (x+1:Nat),Hk R0 R1 S nl B7 rows n [.box (La (row.set x (-2)))]⟩):=by
 have e1:decide ((x:Int) < 256)=true:=Ea (by omega);have hlen:(B7.map Si).length=B7.length:=by simp
 have hq:Ia (i:Int) B7.length:=by unfold Ia;omega
 have N9:Ia (x:Int) 256:=by unfold Ia;omega
 have t1:((i:Int)).toNat=i:=by simp
 have t3:((x:Int)).toNat=x:=by simp
 have t2:=Za (i:=x) (n:=256) hx (by unfold maxLen;omega);have P8:=Bs (Da Fa 6) (Hk R0 R1 S nl B7 rows n [.box (La row)]) 3 _ S ss x a.2 a.1 rfl hS hw had Ba K7
 rw[hb] at P8;have hle:x+1<=(La row).length:=by rw[pb];omega
 have hz:(((0:Nat)+x+1)<=(La row).length)=True:=by simp only[eq_iff_iff,iff_true];omega
 simp only[Hk,fab,cab] at P8;generalize (Th x a.2 a.1 0 ss (0,false)).2=ends at *
 simp -implicitDefEqProofs only[SP,SA,SQ,sevalprocAttr,Wc,ma,Ma,Fa,e1,hlen,Laa hq,Laa N9,t1,t2,t3,ha,P8,hz,Laa hle,Qj,ta,na,Ca,Mn,Mo,Po,Qa,Ws,AV.cut,Gc,h0,h1,hr,Gn,Hk]
theorem dY(hb:(Th x a.2 a.1 0 ss (0,false)).1≠0)(s8:(Th x a.2 a.1 0 ss (0,false)).2=true):
 Wc (Da Fa 7) [0,3,4,30] Ma 7 ⟨Gn i x,Hk R0 R1 S nl B7 rows n [.box (La row)]⟩=
  some (.norm,⟨Gn i (x+1:Nat),Hk R0 R1 S nl B7 rows n [.box (La (row.set x (-1)))]⟩):=by
 have e1:decide ((x:Int) < 256)=true:=Ea (by omega);have hlen:(B7.map Si).length=B7.length:=by simp
 have hq:Ia (i:Int) B7.length:=by unfold Ia;omega
 have N9:Ia (x:Int) 256:=by unfold Ia;omega
 have t1:((i:Int)).toNat=i:=by simp
 have t3:((x:Int)).toNat=x:=by simp
 have t2:=Za (i:=x) (n:=256) hx (by unfold maxLen;omega);have P8:=Bs (Da Fa 6) (Hk R0 R1 S nl B7 rows n [.box (La row)]) 3 _ S ss x a.2 a.1 rfl hS hw had Ba K7
 rw[s8] at P8;have hle:x+1<=(La row).length:=by rw[pb];omega
 have hz:(((0:Nat)+x+1)<=(La row).length)=True:=by simp only[eq_iff_iff,iff_true];omega
 simp only[Hk,fab,cab] at P8;have e4:=mj hb;generalize (Th x a.2 a.1 0 ss (0,false)).1=left at *
 simp -implicitDefEqProofs only[SP,SA,SQ,sevalprocAttr,Wc,ma,Ma,Fa,e1,hlen,Laa hq,Laa N9,t1,t2,t3,ha,P8,e4,hz,Laa hle,Qj,ta,na,Ca,Mn,Mo,Po,Qa,Ws,AV.cut,Gc,h0,h1,hr,Gn,Hk]
theorem UW(hb:(Th x a.2 a.1 0 ss (0,false)).1≠0)(s8:(Th x a.2 a.1 0 ss (0,false)).2=false){k:Nat}(hk:Tm (a.1+1,(Th x a.2 a.1 0 ss (0,false)).1) B7 0=some k):
 Wc (Da Fa 7) [0,3,4,30] Ma 7 ⟨Gn i x,Hk R0 R1 S nl B7 rows n [.box (La row)]⟩=
  some (.norm,⟨Gn i (x+1:Nat),Hk R0 R1 S nl B7 rows n [.box (La (row.set x k))]⟩):=by
 have e1:decide ((x:Int) < 256)=true:=Ea (by omega);have hlen:(B7.map Si).length=B7.length:=by simp
 have hq:Ia (i:Int) B7.length:=by unfold Ia;omega
 have N9:Ia (x:Int) 256:=by unfold Ia;omega
 have t1:((i:Int)).toNat=i:=by simp
 have t3:((x:Int)).toNat=x:=by simp
 have t2:=Za (i:=x) (n:=256) hx (by unfold maxLen;omega);have P8:=Bs (Da Fa 6) (Hk R0 R1 S nl B7 rows n [.box (La row)]) 3 _ S ss x a.2 a.1 rfl hS hw had Ba K7
 rw[s8] at P8;have hle:x+1<=(La row).length:=by rw[pb];omega
 have hz:(((0:Nat)+x+1)<=(La row).length)=True:=by simp only[eq_iff_iff,iff_true];omega
 simp only[Hk,fab,cab] at P8;have e4:=mj hb;have t5:IntKind.i64.wrap ((a.1:Int)+1)=((a.1+1:Nat):Int):=Aa (by omega)
 have O9:=YZ (Da Fa 6) R0 R1 S nl B7 rows n (.box (La row)::gI ss) (a.1+1,(Th x a.2 a.1 0 ss (0,false)).1) hk;simp only[Hk,Si] at O9;generalize (Th x a.2 a.1 0 ss (0,false)).1=left at *
 simp -implicitDefEqProofs only[SP,SA,SQ,sevalprocAttr,Wc,ma,Ma,Fa,e1,hlen,Laa hq,Laa N9,t1,t2,t3,ha,P8,O9,t5,e4,hz,Laa hle,Qj,ta,na,Ca,Mn,Mo,Po,Qa,Ws,AV.cut,Gc,h0,h1,hr,Gn,Hk]
theorem TW(hb:(Th x a.2 a.1 0 ss (0,false)).1≠0)(s8:(Th x a.2 a.1 0 ss (0,false)).2=false)(hk:Tm (a.1+1,(Th x a.2 a.1 0 ss (0,false)).1) B7 0=none)(hl:B7.length < 64):
 Wc (Da Fa 7) [0,3,4,30] Ma 7 ⟨Gn i x,Hk R0 R1 S nl B7 rows n [.box (La row)]⟩=
  some (.norm,⟨Gn i (x+1:Nat),Hk R0 R1 S false (B7++[(a.1+1,(Th x a.2 a.1 0 ss (0,false)).1)]) rows n [.box (La (row.set x (B7.length:Int)))]⟩):=by
 have e1:decide ((x:Int) < 256)=true:=Ea (by omega);have hlen:(B7.map Si).length=B7.length:=by simp
 have hq:Ia (i:Int) B7.length:=by unfold Ia;omega
 have N9:Ia (x:Int) 256:=by unfold Ia;omega
 have t1:((i:Int)).toNat=i:=by simp
 have t3:((x:Int)).toNat=x:=by simp
 have t2:=Za (i:=x) (n:=256) hx (by unfold maxLen;omega);have P8:=Bs (Da Fa 6) (Hk R0 R1 S nl B7 rows n [.box (La row)]) 3 _ S ss x a.2 a.1 rfl hS hw had Ba K7
 rw[s8] at P8;have hle:x+1<=(La row).length:=by rw[pb];omega
 have hz:(((0:Nat)+x+1)<=(La row).length)=True:=by simp only[eq_iff_iff,iff_true];omega
 simp only[Hk,fab,cab] at P8;have e4:=mj hb;have t5:IntKind.i64.wrap ((a.1:Int)+1)=((a.1+1:Nat):Int):=Aa (by omega)
 have O9:=wR (Da Fa 6) R0 R1 S nl B7 rows n (.box (La row)::gI ss) (a.1+1,(Th x a.2 a.1 0 ss (0,false)).1) hk hl;simp only[Hk,Si] at O9 ⊢;generalize (Th x a.2 a.1 0 ss (0,false)).1=left at *
 simp -implicitDefEqProofs only[SP,SA,SQ,sevalprocAttr,Wc,ma,Ma,Fa,e1,hlen,Laa hq,Laa N9,t1,t2,t3,ha,P8,O9,t5,e4,hz,Laa hle,Qj,ta,na,Ca,Mn,Mo,Po,Qa,Ws,AV.cut,Gc,h0,h1,hr,Gn,Hk]
end
section
variable (R0 R1:ba)(S:PV)(nl:Bool)(B7:List Al)(rows:ba)(n:Nat)(row:List Int)(ss:List Ob)(i x:Nat)(a:Al)
 (J7:row.length=256) (hx:x < 256)
 (hi:i < B7.length) (ha:(B7.map Si)[i]? =some (.agg [i64 a.1,u32 a.2])) (had:a.1 < 4611686018427387904)
 (hS:Zh 2 S (ss.map uf)) (hw:ss.length<=maxLen)
 (Ba:∀ i s,ss[i]? =some s->mC a.2 i=true->a.1 < s.parts.length) (K7:∀ s∈ss,∀ l∈s.parts,l.length * 16<=140737488355328)
include J7 hx hi ha had hS hw Ba K7
theorem OU(hb:(Th x a.2 a.1 0 ss (0,false)).1≠0)(s8:(Th x a.2 a.1 0 ss (0,false)).2=false)(hk:Tm (a.1+1,(Th x a.2 a.1 0 ss (0,false)).1) B7 0=none)(hl:B7.length=64):
 aw 2 (.pv (.bool false)) R0 (Wc (Da Fa 7) [0,3,4,30] Ma 7 ⟨Gn i x,Hk R0 R1 S nl B7 rows n [.box (La row)]⟩):=by
 have e1:decide ((x:Int) < 256)=true:=Ea (by omega);have hlen:(B7.map Si).length=B7.length:=by simp
 have hq:Ia (i:Int) B7.length:=by unfold Ia;omega
 have N9:Ia (x:Int) 256:=by unfold Ia;omega
 have t1:((i:Int)).toNat=i:=by simp
 have t3:((x:Int)).toNat=x:=by simp
 have t2:=Za (i:=x) (n:=256) hx (by unfold maxLen;omega);have P8:=Bs (Da Fa 6) (Hk R0 R1 S nl B7 rows n [.box (La row)]) 3 _ S ss x a.2 a.1 rfl hS hw had Ba K7
 rw[s8] at P8;have hle:x+1<=(La row).length:=by rw[pb];omega
 have hz:(((0:Nat)+x+1)<=(La row).length)=True:=by simp only[eq_iff_iff,iff_true];omega
 simp only[Hk,fab,cab] at P8;have e4:=mj hb;have t5:IntKind.i64.wrap ((a.1:Int)+1)=((a.1+1:Nat):Int):=Aa (by omega)
 have O9:=MX (Da Fa 6) R0 R1 S nl B7 rows n (.box (La row)::gI ss) (a.1+1,(Th x a.2 a.1 0 ss (0,false)).1) hk hl;simp only[Hk,Si] at O9;generalize (Th x a.2 a.1 0 ss (0,false)).1=left at *
 simp -implicitDefEqProofs only[SP,SA,SQ,sevalprocAttr,Wc,ma,Ma,Fa,e1,hlen,Laa hq,Laa N9,t1,t2,t3,ha,P8,O9,t5,e4,BG,hz,Laa hle,Qj,ta,Gn,Hk]
end
def Vl(ss:List Ob)(a:Al):List Nat->List Al×List Int->Option (List Al×List Int)
 | [],r=>some r
 |x::xs,r=>match rh ss a x r.1 with
  |some p=>Vl ss a xs (p.1,r.2.set x p.2)
  |none=>none
theorem Ku{ss:List Ob}{a:Al}{x:Nat}{xs:List Nat}{r:List Al×List Int}(h:rh ss a x r.1=none):Vl ss a (x::xs) r=none:=by
 rw[Vl,h]
theorem Vu{ss:List Ob}{a:Al}{x:Nat}{xs:List Nat}{r:List Al×List Int}{p:List Al×Int}(h:rh ss a x r.1=some p):Vl ss a (x::xs) r=Vl ss a xs (p.1,r.2.set x p.2):=by
 rw[Vl,h]
theorem Zr{n x:Nat}(h:x < n):(List.range n).drop x=x::(List.range n).drop (x+1):=by
 rw[Waa (by simpa using h)];simp
theorem nE{ss:List Ob}{a:Al}{x:Int}{B7:List Al}{r:List Al×Int}(h:rh ss a x B7=some r)(hl:B7.length<=64):r.1.length<=64/\∃ t,r.1=B7++t:=by
 unfold rh at h
 split at h
 ·injection h with h;subst h;exact⟨hl,[],by simp⟩
 ·split at h
  ·injection h with h;subst h;exact⟨hl,[],by simp⟩
  ·split at h
   ·injection h with h;subst h;exact⟨hl,[],by simp⟩
   ·split at h
    ·injection h with h;subst h;exact⟨by simp;omega,_,rfl⟩
    ·cases h
section
variable (R0 R1:ba)(S:PV)(rows:ba)(n:Nat)(ss:List Ob)
 (h0:qa 7 R0=some R0) (h1:qa 7 R1=some R1) (hr:qa 7 rows=some rows)
 (hS:Zh 2 S (ss.map uf)) (hw:ss.length<=maxLen)
 (K7:∀ s∈ss,∀ l∈s.parts,l.length * 16<=140737488355328)
include h0 h1 hr hS hw K7
theorem KQ{nl:Bool}{B7:List Al}{row:List Int}{i x:Nat}{a:Al}(J7:row.length=256)(hx:x < 256)(ha:B7[i]? =some a)(had:a.1 < 4611686018427387904)(hl:B7.length<=64)
 (Ba:∀ i s,ss[i]? =some s->mC a.2 i=true->a.1 < s.parts.length):
 (∀ r,rh ss a x B7=some r->∃ nl',Wc (Da Fa 7) [0,3,4,30] Ma 7 ⟨Gn i x,Hk R0 R1 S nl B7 rows n [.box (La row)]⟩=
  some (.norm,⟨Gn i (x+1:Nat),Hk R0 R1 S nl' r.1 rows n [.box (La (row.set x r.2))]⟩))/\
 (rh ss a x B7=none->aw 2 (.pv (.bool false)) R0 (Wc (Da Fa 7) [0,3,4,30] Ma 7 ⟨Gn i x,Hk R0 R1 S nl B7 rows n [.box (La row)]⟩)):=by
 have hi:i < B7.length:=(qaa.1 ha).1
 have ha':(B7.map Si)[i]? =some (.agg [i64 a.1,u32 a.2]):=by rw[Faa,ha];rfl
 by_cases hb:(Th x a.2 a.1 0 ss (0,false)).1=0
 ·have W7:=(show rh ss a x B7=some (B7,-2) by unfold rh;rw[if_pos hb])
  rw[W7];exact⟨fun r e=>by injection e with e;subst e;exact⟨nl,iT R0 R1 S nl B7 rows n row ss i x a h0 h1 hr J7 hx hi ha' had hS hw Ba K7 hb⟩,fun e=>by cases e⟩
 by_cases s8:(Th x a.2 a.1 0 ss (0,false)).2=true
 ·have W7:=(show rh ss a x B7=some (B7,-1) by unfold rh;rw[taa hb,if_pos s8])
  rw[W7];exact⟨fun r e=>by injection e with e;subst e;exact⟨nl,dY R0 R1 S nl B7 rows n row ss i x a h0 h1 hr J7 hx hi ha' had hS hw Ba K7 hb s8⟩,fun e=>by cases e⟩
 have hb3:(Th x a.2 a.1 0 ss (0,false)).2=false:=by simpa using s8
 cases hk:Tm (a.1+1,(Th x a.2 a.1 0 ss (0,false)).1) B7 0 with
 |some k=>have W7:=(show rh ss a x B7=some (B7,(k:Int)) by unfold rh;rw[taa hb,taa s8,hk]);rw[W7];exact⟨fun r e=>by injection e with e;subst e;exact⟨nl,UW R0 R1 S nl B7 rows n row ss i x a h0 h1 hr J7 hx hi ha' had hS hw Ba K7 hb hb3 hk⟩,fun e=>by cases e⟩
 |none=>
  by_cases hlt:B7.length < 64
  ·have W7:=(show rh ss a x B7=some (B7++[(a.1+1,(Th x a.2 a.1 0 ss (0,false)).1)],(B7.length:Int)) by unfold rh;rw[taa hb,taa s8,hk];simp only[if_pos hlt])
   rw[W7];exact⟨fun r e=>by injection e with e;subst e;exact⟨false,TW R0 R1 S nl B7 rows n row ss i x a h0 h1 hr J7 hx hi ha' had hS hw Ba K7 hb hb3 hk hlt⟩,fun e=>by cases e⟩
  ·have W7:=(show rh ss a x B7=none by unfold rh;rw[taa hb,taa s8,hk];simp only[taa hlt])
   rw[W7];exact⟨fun r e=>(by cases e),fun _=>OU R0 R1 S nl B7 rows n row ss i x a J7 hx hi ha' had hS hw Ba K7 hb hb3 hk (by omega)⟩
theorem jW{nl:Bool}{B7:List Al}{row:List Int}{i:Nat}{a:Al}(J7:row.length=256)(ha:B7[i]? =some a)(had:a.1 < 4611686018427387904)(hl:B7.length<=64)
 (Ba:∀ i s,ss[i]? =some s->mC a.2 i=true->a.1 < s.parts.length):
 (∀ r,Vl ss a (List.range 256) (B7,row)=some r->∃ nl',ab (ma (oa (Da Fa 7) Ma) (na 7 [0,3,4,30])) ua ⟨Gn i 0,Hk R0 R1 S nl B7 rows n [.box (La row)]⟩=
  some (.exit 2,⟨(Gn i 256).set 31 (.pv (.bool false)),Hk R0 R1 S nl' r.1 rows n [.box (La r.2)]⟩)/\r.1.length<=64/\r.2.length=256/\∃ t,r.1=B7++t)/\
 (Vl ss a (List.range 256) (B7,row)=none->aw 2 (.pv (.bool false)) R0 (ab (ma (oa (Da Fa 7) Ma) (na 7 [0,3,4,30])) ua ⟨Gn i 0,Hk R0 R1 S nl B7 rows n [.box (La row)]⟩)):=by
 generalize hxs:List.range 256=xs
 have key:=Zl (g:=Wc (Da Fa 7) [0,3,4,30] Ma 7)
  (fun x t=>∃ nl' sets' row',t=⟨Gn i x,Hk R0 R1 S nl' sets' rows n [.box (La row')]⟩/\Vl ss a xs (B7,row)=Vl ss a (xs.drop x) (sets',row')/\sets'.length<=64/\row'.length=256/\∃ t,sets'=B7++t)
  (fun ex t=>(∃ r,ex= .exit 2/\Vl ss a xs (B7,row)=some r/\∃ nl',t=⟨(Gn i 256).set 31 (.pv (.bool false)),Hk R0 R1 S nl' r.1 rows n [.box (La r.2)]⟩/\r.1.length<=64/\r.2.length=256/\∃ t,r.1=B7++t)\/
   (ex= .ret/\Vl ss a xs (B7,row)=none/\t.env.get 2= .pv (.bool false)/\t.H[0]? =some R0))
  ua 256 0 ⟨Gn i (0:Nat),Hk R0 R1 S nl B7 rows n [.box (La row)]⟩ (by unfold ua;omega) (by omega) ⟨nl,B7,row,rfl,rfl,hl,J7,[],by simp⟩ ?_ ?_
 ·obtain⟨ex,t,h,_,hq⟩:=key
  have h':ab (ma (oa (Da Fa 7) Ma) (na 7 [0,3,4,30])) ua ⟨Gn i 0,Hk R0 R1 S nl B7 rows n [.box (La row)]⟩=some (ex,t):=h;rw[h'];rcases hq with⟨r,rfl,N8,nl',rfl,q1,q2,q3⟩ | ⟨rfl,N8,hg,hg2⟩
  ·refine⟨fun r2 e=> ?_,fun e=> ?_⟩
   ·rw[N8] at e;injection e with e;subst e;exact⟨nl',rfl,q1,q2,q3⟩
   ·rw[N8] at e;cases e
  ·refine⟨fun r2 e=> ?_,fun _=> .mk _ hg hg2⟩
   rw[N8] at e;cases e
 ·rintro x hx t ⟨nl',sets',row',rfl,W9,T8,K9,tl,hts⟩
  have ha':sets'[i]? =some a:=by rw[hts,gaa (qaa.1 ha).1];exact ha
  have hd:=Zr hx;rw[hxs] at hd;have hsr:=KQ R0 R1 S rows n ss h0 h1 hr hS hw K7 (nl:=nl') K9 hx ha' had T8 Ba;rw[hd] at W9;cases W7:rh ss a x sets' with
  |none=>rw[Ku W7] at W9;obtain⟨t,g1,g2,g3⟩:=Rt (hsr.2 W7);exact .inr ⟨.ret,t,g1,rfl,.inr ⟨rfl,W9,g2,g3⟩⟩
  |some r=>
   rw[Vu W7] at W9;obtain⟨nl2,g1⟩:=hsr.1 r W7
   obtain⟨k1,t2,k2⟩:=nE W7 T8;exact .inl ⟨_,g1,nl2,r.1,row'.set x r.2,rfl,W9,k1,by simpa using K9,tl++t2,by rw[k2,hts,Oab]⟩
 ·rintro t ⟨nl',sets',row',rfl,W9,T8,K9,tl,hts⟩
  rw[dac (by rw[<- hxs,mac];exact waa _)] at W9;refine⟨.exit 2,_,?_,rfl,.inl ⟨(sets',row'),rfl,W9,nl',rfl,T8,K9,tl,hts⟩⟩;have e1:decide (((256:Nat):Int) < 256)=false:=by decide
  simp -implicitDefEqProofs only[SP,SA,SQ,sevalprocAttr,Wc,ma,Ma,e1,Gn,Hk]
end
def Eh(rs:List (List Int)):ba:= .seq 256 true (rs.flatMap La) 0 rs.isEmpty
theorem Tu(l:List Int):La l=(l.map i64).map .pv:=by simp[La]
theorem Cu(l:List Int):Tc (La l)=some (l.map i64):=by
 rw[Tu]
 induction l with
 |nil=>rfl
 |cons a l ih=>simp only[pab,Tc,ih,Kaa]
theorem OF(l:List Int):(La l).all AV.one=true:=by
 induction l with
 |nil=>rfl
 |cons a l ih=>simp only[La,pab,zac,AV.one,uab] at ih ⊢;exact ih
theorem I3:List.map AV.pv (List.replicate 256 (PV.int .i64 0))=La (List.replicate 256 0):=by
 simp only[La,xad]
theorem vA{α:Type}:∀ (vs cs pre:List α),cs.length=vs.length->fa (pre++cs) pre.length vs=pre++vs
 | [],cs,pre,h=>by simp at h;subst h;rfl
 |v::vs,c::cs,pre,h=>by
  rw[fa];have h1:(pre++c::cs).set pre.length v=(pre++[v])++cs:=by rw[Xab _ _ (waa _)];simp
  rw[h1];have:=vA vs cs (pre++[v]) (by simpa using h);simp only[Aaa,Raa,Dab,eab] at this;rw[this];simp
 |_::_,[],_,h=>by simp at h
theorem Qy(n d:Nat)(rs:List (List Int)):(rs.flatMap La).all (AV.ie n d)=true:=by
 rw[aab];intro v hv;rw[List.mem_flatMap] at hv;obtain⟨r,_,hv⟩:=hv;simp only[La,oab] at hv;obtain⟨x,_,rfl⟩:=hv;cases d <;> rfl
theorem tF:∀ {rs:List (List Int)},(∀ r∈rs,r.length=256)->(rs.flatMap La).length=rs.length * 256
 | [],_=>rfl
 |r::rs,h=>by have:=tF (rs:=rs) (fun x hx=>h x (by simp[hx]));simp only[rad,Aaa,pb,h r (by simp),this,Raa];omega
abbrev GC(i:Int):Tr:=(Tr.lf.set 3 (.pv (i64 i))).set 0 (.ptr 3 0)
section
variable (R0 R1:ba)(S:PV)(nl:Bool)(B7:List Al)(rs:List (List Int))(ss:List Ob)(i:Nat)
 (h0:qa 7 R0=some R0) (h1:qa 7 R1=some R1) (g0:qa 6 R0=some R0) (g1:qa 6 R1=some R1)
 (hi:i < B7.length) (hl:B7.length<=64) (X9:rs.length<=64) (hrr:∀ r∈rs,r.length=256)
include h0 h1 g0 g1 hi hl X9 hrr
theorem dU(nl':Bool)(sets':List Al)(row:List Int)(J7:row.length=256)
 (hrowL:ab (ma (oa (Da Fa 7) Ma) (na 7 [0,3,4,30])) ua ⟨Gn i 0,Hk R0 R1 S nl B7 (Eh rs) rs.length [.box (La (List.replicate 256 0))]⟩=
  some (.exit 2,⟨(Gn i 256).set 31 (.pv (.bool false)),Hk R0 R1 S nl' sets' (Eh rs) rs.length [.box (La row)]⟩)):
 Wc (Da Fa 7) [0,3] yb 6 ⟨GC i,Hk R0 R1 S nl B7 (Eh rs) rs.length []⟩=
  some (.norm,⟨GC (i+1:Nat),Hk R0 R1 S nl' sets' (Eh (rs++[row])) (rs.length+1) []⟩):=by
 have hlen:(B7.map Si).length=B7.length:=by simp
 have e1:decide ((i:Int) < (B7.length:Int))=true:=Ea (by omega);have t2:=Za (i:=i) (n:=64) (by omega) (by unfold maxLen;omega);have p0:((La row).length=256)=True:=by rw[pb,J7];exact eq_self _
 have p1:(256<=(La row).length)=True:=by rw[pb,J7];exact Laa (waa _)
 have p2:List.take 256 (La row)=La row:=Zaa (by rw[pb,J7];exact waa _)
 have p3:=Cu row;have p4:((row.map i64).length=256)=True:=by rw[paa,J7];exact eq_self _
 have p5:(256<=(La (List.replicate 256 0)).length)=True:=by rw[pb,cac];exact Laa (waa _)
 have p6:fa (La (List.replicate 256 0)) 0 (La row)=La row:=by have:=vA (La row) (La (List.replicate 256 0)) [] (by rw[pb,pb,J7,cac]);rw[cab,cab] at this;exact this
 have p7:=OF row;have p8:List.take 256 (row.map i64)=row.map i64:=Zaa (by rw[paa,J7];exact waa _)
 have p9:(row.map i64).map AV.pv=La row:=(Tu row).symm
 have q1:(rs.length * 256=(rs.flatMap La).length)=True:=by rw[tF hrr];exact eq_self _
 have q2:eb (rs.length+1) 2048:=by unfold eb;omega
 have q3:(rs++[row]).flatMap La=rs.flatMap La++La row:=by rw[List.flatMap_append,rad,Mae,Kab]
 have q4:(rs++[row]).isEmpty=false:=by cases rs <;> rfl
 have q5:=Qy 7 6 rs;have q6:=Qy 6 6 (rs++[row]);rw[q3] at q6;simp only[Gn,Hk,Eh,Int.cast_ofNat_Int] at hrowL;unfold Hk Eh;rw[q3,q4];have hz2:=I3;generalize hz:List.replicate 256 (0:Int)=zs at *
 simp -implicitDefEqProofs only[SP,SA,SQ,sevalprocAttr,-List.reduceReplicate,Wc,ma,yb,hlen,e1,Db,na,Ca,Mn,Mo,Po,Au,Qa,Ws,AV.cut,Gc,h0,h1,g0,g1,GC,hz2,q5];rw[hrowL];simp -implicitDefEqProofs only[SP,SA,SQ,sevalprocAttr,-List.reduceReplicate,Kab,hlen,t2,p0,p1,p2,p3,p4,p5,p6,p7,p8,p9,q1,Laa q2,q5,q6,jj,AV.WE,AV.Tq,hz2,pk,na,Ca,Mn,Mo,Po,Au,Qa,Ws,AV.cut,Gc,h0,h1,g0,g1]
end
theorem wrap_u32{n:Nat}(h:n < 4294967296):IntKind.u32.wrap (n:Int)=(n:Int):=by
 have e:IntKind.u32.wrap (n:Int)=(n:Int) % 4294967296:=by simp[IntKind.signed,IntKind.wrap,IntKind.bits]
 rw[e];omega
theorem JW{a b:Nat}(ha:a < 4294967296)(hb:b < 4294967296):(BitVec.ofInt IntKind.u32.bits (a:Int) &&& BitVec.ofInt IntKind.u32.bits (b:Int)).toNat=a &&& b:=by
 show (BitVec.ofInt 32 (a:Int) &&& BitVec.ofInt 32 (b:Int)).toNat=_
 rw[BitVec.toNat_and,BitVec.ofInt_natCast,BitVec.ofInt_natCast,BitVec.toNat_ofNat,BitVec.toNat_ofNat,Jae ha,Jae hb]
theorem OZ{a b:Nat}(ha:a < 4294967296)(hb:b < 4294967296):(BitVec.ofInt IntKind.u32.bits (a:Int) ||| BitVec.ofInt IntKind.u32.bits (b:Int)).toNat=a ||| b:=by
 show (BitVec.ofInt 32 (a:Int) ||| BitVec.ofInt 32 (b:Int)).toNat=_
 rw[BitVec.toNat_or,BitVec.ofInt_natCast,BitVec.ofInt_natCast,BitVec.toNat_ofNat,BitVec.toNat_ofNat,Jae ha,Jae hb]
theorem KM{n i:Nat}(hn:n < 4294967296)(hi:i < 32):mC (n:Int) i=n.testBit i:=by
 have hm:min i IntKind.u32.bits=i:=by show min i 32=i;omega
 have hf:(n:Int).fdiv (2 ^ i)=((n / 2 ^ i:Nat):Int):=by rw[show ((2:Int) ^ i)=((2 ^ i:Nat):Int) by push_cast;rfl];exact (Int.ofNat_fdiv n (2 ^ i)).symm
 have hle:n / 2 ^ i < 4294967296:=Nat.lt_of_le_of_lt (Nat.div_le_self _ _) hn
 have e:(BitVec.ofInt IntKind.u32.bits ((n / 2 ^ i:Nat):Int) &&& BitVec.ofInt IntKind.u32.bits 1).toNat=n / 2 ^ i % 2:=by have:=JW hle (show 1 < 4294967296 by decide);rw[Nat.and_one_is_mod] at this;exact this
 unfold mC;rw[hm,hf,e,wrap_u32 (by omega),Nat.testBit_eq_decide_div_mod_eq];rcases Nat.mod_two_eq_zero_or_one (n / 2 ^ i) with h | h <;> rw[h] <;> rfl
theorem uZ{n i:Nat}(hn:n < 4294967296)(hi:i < 32):O5 (n:Int) i=((n ||| 2 ^ i:Nat):Int):=by
 have hm:min i IntKind.u32.bits=i:=by show min i 32=i;omega
 have hp:2 ^ i < 4294967296:=by
  have:(2:Nat) ^ i < 2 ^ 32:=Nat.pow_lt_pow_right (by decide) hi
  simpa using this
 have h2:IntKind.u32.wrap (1 * 2 ^ i)=((2 ^ i:Nat):Int):=by rw[Pae,show ((2:Int) ^ i)=((2 ^ i:Nat):Int) by push_cast;rfl,wrap_u32 hp]
 unfold O5;rw[hm,h2,OZ hn hp,wrap_u32];exact Nat.or_lt_two_pow (n:=32) hn hp
def Mv(x:Int)(bits d:Nat):Nat->List Ob->Nat×Bool->Nat×Bool
 |_,[],acc=>acc
 |i,s::r,acc=>Mv x bits d (i+1) r (if bits.testBit i&&Lv s d x then (acc.1 ||| 2 ^ i,acc.2||(s.parts.length==d+1)) else acc)
theorem RK{x:Int}{bits d:Nat}:∀ (ss:List Ob)(i:Nat)(acc:Nat×Bool),i+ss.length<=32->acc.1 < 4294967296->(Mv x bits d i ss acc).1 < 4294967296
 | [],i,acc,_,h=>h
 |s::r,i,acc,hl,h=>by
  rw[Mv];refine RK r (i+1) _ (by simp only[Raa] at hl;omega) ?_
  split
  ·refine Nat.or_lt_two_pow (n:=32) h ?_
   exact Nat.pow_lt_pow_right (by decide) (by simp only[Raa] at hl;omega)
  ·exact h
theorem YQ{x:Int}{bits d:Nat}(hb:bits < 4294967296):∀ (ss:List Ob)(i:Nat)(acc:Nat×Bool),i+ss.length<=32->acc.1 < 4294967296->
 Th x (bits:Int) d i ss ((acc.1:Int),acc.2)=(((Mv x bits d i ss acc).1:Int),(Mv x bits d i ss acc).2)
 | [],i,acc,_,h=>rfl
 |s::r,i,acc,hl,h=>by
  have hi:i < 32:=by simp only[Raa] at hl;omega
  rw[Th,Mv,KM hb hi,uZ h hi];have h2:(acc.1 ||| 2 ^ i) < 4294967296:=Nat.or_lt_two_pow (n:=32) h (Nat.pow_lt_pow_right (by decide) hi)
  have ih:=YQ (x:=x) (d:=d) hb r (i+1) (if bits.testBit i&&Lv s d x then (acc.1 ||| 2 ^ i,acc.2||(s.parts.length==d+1)) else acc)
   (by simp only[Raa] at hl;omega) (by split;exact h2;exact h)
  rw[<- ih];cases bits.testBit i&&Lv s d x <;> rfl
theorem oD{x:Int}{bits d:Nat}:∀ (ss:List Ob)(i:Nat)(acc:Nat×Bool)(j:Nat),
 (Mv x bits d i ss acc).1.testBit j=(acc.1.testBit j||(decide (i<=j)&&(match ss[j - i]? with | some s=>bits.testBit j&&Lv s d x | none=>false)))
 | [],i,acc,j=>by simp[Mv]
 |s::r,i,acc,j=>by
  rw[Mv,oD r (i+1)]
  by_cases hij:i=j
  ·subst hij
   simp only[uad,jab,waa,decide_true,uab];have:decide (i+1<=i)=false:=by simp
   rw[this,Fac,nae];cases h:(bits.testBit i&&Lv s d x) with
   |true=>simp[Nat.testBit_or,Nat.testBit_two_pow_self]
   |false=>simp
  ·have e1:(if (bits.testBit i&&Lv s d x)=true then (acc.1 ||| 2 ^ i,acc.2||s.parts.length==d+1) else acc).1.testBit j=acc.1.testBit j:=by
    split
    ·simp only[Nat.testBit_or,Nat.testBit_two_pow_of_ne hij,nae]
    ·rfl
   rw[e1]
   by_cases hlt:i+1<=j
   ·have e2:j - i=(j - (i+1))+1:=by omega
    have e3:decide (i<=j)=decide (i+1<=j):=by simp;omega
    rw[e2,e3,mab]
   ·have e3:decide (i<=j)=false:=by simp;omega
    have e4:decide (i+1<=j)=false:=by simp;omega
    rw[e3,e4];rfl
theorem FC{x:Int}{bits d:Nat}:∀ (ss:List Ob)(i:Nat)(acc:Nat×Bool),
 (Mv x bits d i ss acc).2=(acc.2||(ss.zipIdx i).any fun p=>bits.testBit p.2&&Lv p.1 d x&&(p.1.parts.length==d+1))
 | [],i,acc=>by simp[Mv]
 |s::r,i,acc=>by
  rw[Mv,FC r (i+1),List.zipIdx_cons,List.any_cons];cases h:(bits.testBit i&&Lv s d x) with
  |true=>simp[Bool.or_assoc]
  |false=>simp
def jN(ss:List Ob)(k:Nat)(a:Al):Prop:=
 a.1<=k/\∃ b:Nat,a.2=(b:Int)/\b < 4294967296/\∀ i s,ss[i]? =some s->b.testBit i=true->a.1 < s.parts.length
def zo(ss:List Ob)(B7:List Al):Prop:=B7.length<=64/\∀ k a,B7[k]? =some a->jN ss k a
theorem jN.Ba{ss:List Ob}{k:Nat}{a:Al}(h:jN ss k a)(hl:ss.length<=32):∀ i s,ss[i]? =some s->mC a.2 i=true->a.1 < s.parts.length:=by
 obtain⟨_,b,e,hb,h⟩:=h;intro i s hs ht;have hi:i < 32:=by have:=(qaa.1 hs).1;omega
 rw[e,KM hb hi] at ht;exact h i s hs ht
theorem X3{ss:List Ob}{k:Nat}{a:Al}{x:Int}(h:jN ss k a)(hl:ss.length<=32)(hf:(Th x a.2 a.1 0 ss (0,false)).2=false):
 jN ss (k+1) (a.1+1,(Th x a.2 a.1 0 ss (0,false)).1):=by
 obtain⟨hk,b,e,hb,h⟩:=h;have hN:Th x (b:Int) a.1 0 ss (0,false)=(((Mv x b a.1 0 ss (0,false)).1:Int),(Mv x b a.1 0 ss (0,false)).2):=YQ (x:=x) (d:=a.1) hb ss 0 (0,false) (by omega) (by decide)
 rw[e,hN] at hf;rw[e,hN];have hlt:=RK (x:=x) (bits:=b) (d:=a.1) ss 0 (0,false) (by omega) (by decide);refine⟨Nat.succ_le_succ hk,_,rfl,hlt,?_⟩;intro i s hs ht;rw[oD] at ht;simp only[Nat.zero_testBit,Iac,decide_true,uab,Tad,wae,hs] at ht;have hd:=h i s hs (by revert ht;cases b.testBit i <;> simp);have hf':(Mv x b a.1 0 ss (0,false)).2=false:=hf
 rw[FC,Tad,List.any_eq_false] at hf';have:=hf' (s,i) (by rw[List.mk_mem_zipIdx_iff_getElem?];exact hs);show a.1+1 < s.parts.length
 simp only[ht,uab] at this;have h2:¬s.parts.length=a.1+1:=by simpa using this
 omega
theorem QF{ss:List Ob}{a:Al}{x:Int}{B7:List Al}{r:List Al×Int}{k:Nat}(hs:zo ss B7)(ha:B7[k]? =some a)(hl:ss.length<=32)(h:rh ss a x B7=some r):
 zo ss r.1/\∃ t,r.1=B7++t:=by
 have hk:=hs.2 k a ha
 unfold rh at h
 split at h
 ·injection h with h;subst h;exact⟨hs,[],by simp⟩
 ·split at h
  ·injection h with h;subst h;exact⟨hs,[],by simp⟩
  ·next hf=>
   split at h
   ·injection h with h;subst h;exact⟨hs,[],by simp⟩
   ·split at h
    ·next hlt=>
     injection h with h;subst h
     refine⟨⟨by simp;omega,?_⟩,_,rfl⟩;intro j b hb;rcases Xaa j B7.length with h1 | h1
     ·rw[gaa h1] at hb;exact hs.2 j b hb
     ·rw[Paa h1] at hb
      cases hj:j - B7.length with
      |succ n=>rw[hj] at hb;simp at hb
      |zero=>
       rw[hj] at hb;simp only[jab,eaa] at hb;subst hb;have hkl:=(qaa.1 ha).1
       obtain⟨g1,g2⟩:=X3 hk hl (by simpa using hf);exact⟨sac g1 (by omega),g2⟩
    ·cases h
theorem Vw{ss:List Ob}{a:Al}{k:Nat}(hl:ss.length<=32):∀ (xs:List Nat)(r r':List Al×List Int),zo ss r.1->r.1[k]? =some a->Vl ss a xs r=some r'->
 zo ss r'.1/\(∃ t,r'.1=r.1++t)/\r'.2.length=r.2.length
 | [],r,r',h,_,e=>by injection e with e;subst e;exact⟨h,⟨[],by simp⟩,rfl⟩
 |x::xs,r,r',h,ha,e=>by
  cases W7:rh ss a x r.1 with
  |none=>rw[Ku W7] at e;cases e
  |some p=>rw[Vu W7] at e;obtain⟨g1,t,g2⟩:=QF h ha hl W7;obtain⟨k1,⟨t',k2⟩,k3⟩:=Vw hl xs (p.1,r.2.set x p.2) r' g1 (by rw[g2,gaa (qaa.1 ha).1];exact ha) e;exact⟨k1,⟨t++t',by rw[k2,g2,Oab]⟩,by rw[k3];simp⟩
def fb:List Int:=List.replicate 256 0
theorem uv:fb.length=256:=cac
def ph(ss:List Ob):Nat->List Al×List (List Int)->Option (List Al×List (List Int))
 |0,r=>some r
 |k+1,r=>match r.1[r.2.length]? with
  |none=>some r
  |some a=>match Vl ss a (List.range 256) (r.1,fb) with
   |none=>none
   |some p=>ph ss k (p.1,r.2++[p.2])
theorem Iv{ss:List Ob}{k:Nat}{r:List Al×List (List Int)}(h:r.1[r.2.length]? =none):ph ss k r=some r:=by
 cases k with
 |zero=>rfl
 |succ k=>rw[ph,h]
theorem uw{ss:List Ob}{k:Nat}{r:List Al×List (List Int)}{a:Al}(h:r.1[r.2.length]? =some a)(h2:Vl ss a (List.range 256) (r.1,fb)=none):ph ss (k+1) r=none:=by
 rw[ph,h];simp only[h2]
theorem Sv{ss:List Ob}{k:Nat}{r:List Al×List (List Int)}{a:Al}{p:List Al×List Int}(h:r.1[r.2.length]? =some a)(h2:Vl ss a (List.range 256) (r.1,fb)=some p):ph ss (k+1) r=ph ss k (p.1,r.2++[p.2]):=by
 rw[ph,h];simp only[h2]
section
variable (R0 R1:ba)(S:PV)(nl:Bool)(B7:List Al)(rs:List (List Int))(ss:List Ob)(i:Nat)
theorem AW(h0:qa 7 R0=some R0)(h1:qa 7 R1=some R1)(hi:i < B7.length)(hl:B7.length<=64)
 (hrowL:aw 2 (.pv (.bool false)) R0 (ab (ma (oa (Da Fa 7) Ma) (na 7 [0,3,4,30])) ua ⟨Gn i 0,Hk R0 R1 S nl B7 (Eh rs) rs.length [.box (La (List.replicate 256 0))]⟩)):
 aw 2 (.pv (.bool false)) R0 (Wc (Da Fa 7) [0,3] yb 6 ⟨GC i,Hk R0 R1 S nl B7 (Eh rs) rs.length []⟩):=by
 have hlen:(B7.map Si).length=B7.length:=by simp
 have e1:decide ((i:Int) < (B7.length:Int))=true:=Ea (by omega);have q5:=Qy 7 6 rs;obtain⟨t,g1,g2,g3⟩:=Rt hrowL;simp only[Gn,Hk,Eh,Int.cast_ofNat_Int] at g1;unfold Hk Eh;have hz2:=I3;generalize hz:List.replicate 256 (0:Int)=zs at *
 simp -implicitDefEqProofs only[SP,SA,SQ,sevalprocAttr,-List.reduceReplicate,Wc,ma,yb,hlen,e1,Db,na,Ca,Mn,Mo,Po,Au,Qa,Ws,AV.cut,Gc,h0,h1,GC,hz2,q5];rw[g1];simp -implicitDefEqProofs only[SP,SA,SQ,sevalprocAttr,-List.reduceReplicate,BG,g2,g3]
theorem gN(hi:i=B7.length):
 Wc (Da Fa 7) [0,3] yb 6 ⟨GC i,Hk R0 R1 S nl B7 (Eh rs) rs.length []⟩=
  some (.exit 0,⟨(((((((GC i).set 21 (.pv (i64 i))).set 22 (.ptr 3 0)).set 23 (.ptr 3 0)).set 24 (.ptr 3 2)).set 25 (.uq 4 nl 2 (B7.map Si))).set 26 (.pv (i64 B7.length))).set 27 (.pv (.bool false)),Hk R0 R1 S nl B7 (Eh rs) rs.length []⟩):=by
 have hlen:(B7.map Si).length=B7.length:=by simp
 have e1:decide ((i:Int) < (B7.length:Int))=false:=Ga (by omega);simp -implicitDefEqProofs only[SP,SA,SQ,sevalprocAttr,-List.reduceReplicate,Wc,ma,yb,hlen,e1,GC,Hk]
theorem fV(n:Nat):qa n (Eh rs)=some (Eh rs):=by
 have:(rs.flatMap La).all (AV.ie n deep)=true:=Qy n deep rs
 unfold Eh;rw[Au,if_pos this]
theorem VT(h0:qa 7 R0=some R0)(h1:qa 7 R1=some R1)(g0:qa 6 R0=some R0)(g1:qa 6 R1=some R1)
 (hS:Zh 2 S (ss.map uf)) (hw:ss.length<=32) (K7:∀ s∈ss,∀ l∈s.parts,l.length * 16<=140737488355328) (Ba:zo ss B7) (h1s:B7.length<=1):
 (∀ r,ph ss 64 (B7,[])=some r->∃ E nl',ab (ma (oa (Da Fa 7) yb) (na 6 [0,3])) ua ⟨GC 0,Hk R0 R1 S nl B7 (Eh []) 0 []⟩=
  some (.exit 0,⟨E,Hk R0 R1 S nl' r.1 (Eh r.2) r.2.length []⟩)/\zo ss r.1/\r.2.length=r.1.length/\∀ r'∈r.2,r'.length=256)/\
 (ph ss 64 (B7,[])=none->aw 2 (.pv (.bool false)) R0 (ab (ma (oa (Da Fa 7) yb) (na 6 [0,3])) ua ⟨GC 0,Hk R0 R1 S nl B7 (Eh []) 0 []⟩)):=by
 have key:=Zl (g:=Wc (Da Fa 7) [0,3] yb 6)
  (fun i t=>∃ nl' sets' L9,t=⟨GC i,Hk R0 R1 S nl' sets' (Eh L9) L9.length []⟩/\ph ss 64 (B7,[])=ph ss (64 - i) (sets',L9)/\zo ss sets'/\L9.length=i/\i<=sets'.length/\∀ r∈L9,r.length=256)
  (fun ex t=>(∃ r,ex= .exit 0/\ph ss 64 (B7,[])=some r/\∃ E nl',t=⟨E,Hk R0 R1 S nl' r.1 (Eh r.2) r.2.length []⟩/\zo ss r.1/\r.2.length=r.1.length/\∀ r'∈r.2,r'.length=256)\/
   (ex= .ret/\ph ss 64 (B7,[])=none/\t.env.get 2= .pv (.bool false)/\t.H[0]? =some R0))
  ua 64 0 ⟨GC (0:Nat),Hk R0 R1 S nl B7 (Eh []) 0 []⟩ (by unfold ua;omega) (by omega) ⟨nl,B7,[],rfl,rfl,Ba,rfl,by omega,by simp⟩ ?_ ?_
 ·obtain⟨ex,t,h,_,hq⟩:=key
  have h':ab (ma (oa (Da Fa 7) yb) (na 6 [0,3])) ua ⟨GC 0,Hk R0 R1 S nl B7 (Eh []) 0 []⟩=some (ex,t):=h;rw[h'];rcases hq with⟨r,rfl,N8,E,nl',rfl,q1,q2,q3⟩ | ⟨rfl,N8,hg,hg2⟩
  ·refine⟨fun r2 e=> ?_,fun e=> ?_⟩
   ·rw[N8] at e;injection e with e;subst e;exact⟨E,nl',rfl,q1,q2,q3⟩
   ·rw[N8] at e;cases e
  ·refine⟨fun r2 e=> ?_,fun _=> .mk _ hg hg2⟩
   rw[N8] at e;cases e
 ·rintro i hi t ⟨nl',sets',L9,rfl,hws,O8,X9,hil,hrr⟩
  by_cases hlt:i < sets'.length
  ·obtain⟨a,ha⟩:∃ a,sets'[i]? =some a:=⟨sets'[i],by simp[hlt]⟩
   have hsa:=O8.2 i a ha
   have hget:sets'[L9.length]? =some a:=by rw[X9];exact ha
   have J7:=jW R0 R1 S (Eh L9) L9.length ss h0 h1 (fV L9 7) hS (by unfold maxLen;omega) K7 (nl:=nl') uv ha (by have:=hsa.1;omega) O8.1 (hsa.Ba hw)
   have e64:64 - i=(64 - (i+1))+1:=by omega
   cases hr:Vl ss a (List.range 256) (sets',fb) with
   |none=>
    have W7:=AW R0 R1 S nl' sets' L9 i h0 h1 hlt O8.1 (J7.2 hr)
    obtain⟨t,k1,k2,k3⟩:=Rt W7;rw[e64,uw (r:=(sets',L9)) hget hr] at hws;exact .inr ⟨.ret,t,k1,rfl,.inr ⟨rfl,hws,k2,k3⟩⟩
   |some p=>
    obtain⟨nl2,k1,k2,k3,k4⟩:=J7.1 p hr
    have hro:=Vw hw _ _ _ O8 ha hr;rw[e64,Sv (r:=(sets',L9)) hget hr] at hws;have hsr:=dU R0 R1 S nl' sets' L9 i h0 h1 g0 g1 hlt O8.1 (by have:=O8.1;omega) hrr nl2 p.1 p.2 k3 k1
    refine .inl ⟨_,hsr,nl2,p.1,L9++[p.2],by simp,hws,hro.1,by simp[X9],?_,?_⟩
    ·obtain⟨t,ht⟩:=k4
     rw[ht];simp;omega
    ·intro r hr
     rcases Naa.1 hr with h | h
     ·exact hrr r h
     ·simp at h;subst h;exact k3
  ·have hie:i=sets'.length:=by omega
   rw[Iv (r:=(sets',L9)) (by show sets'[L9.length]? =none;rw[X9,hie];simp)] at hws;exact .inr ⟨.exit 0,_,gN R0 R1 S nl' sets' L9 i hie,rfl,.inl ⟨(sets',L9),rfl,hws,_,nl',rfl,O8,by show L9.length=sets'.length;omega,hrr⟩⟩
 ·rintro t ⟨nl',sets',L9,rfl,hws,O8,X9,hil,hrr⟩
  have hie:64=sets'.length:=by have:=O8.1;omega
  rw[Iv (r:=(sets',L9)) (by show sets'[L9.length]? =none;rw[X9,hie];simp)] at hws;exact⟨.exit 0,_,gN R0 R1 S nl' sets' L9 64 hie,rfl,.inl ⟨(sets',L9),rfl,hws,_,nl',rfl,O8,by show L9.length=sets'.length;omega,hrr⟩⟩
end
abbrev Mi(R0 R1:ba)(S:PV)(nl nr:Bool)(fr:Nat)(B7:List Al)(C:List Int)(n:Nat)(T:List ba):List ba:=
 R0::R1:: .map (AE B7 0):: .box [.pv S,.mp 2,.uq 4 nl 2 (B7.map Si),.own 5 n]:: .tok 2 B7.length nl:: .seq 256 true (La C) fr nr::T
abbrev Zi(row:List Int):PV:= .agg (row.map i64)
abbrev aC(n:Nat)(row:List Int)(i x:Int):Tr:=
 (((((Tr.lf.set 34 (.pv (i64 x))).set 33 (.pv (Zi row))).set 5 (.pv (i64 i))).set 4 (.mp 7)).set 3 (.own 6 n)).set 0 (.ptr 3 0)
section
variable (call:Sa)(R0 R1:ba)(S:PV)(nl nr nk:Bool)(fr fk:Nat)(B7:List Al)(C:List Int)(n:Nat)(Ac:List Int)(M:ba)(row:List Int)(i x:Nat)(to:Int)
theorem aP(hx:x < 256)(A8:row[x]? =some to)(h:to < 0):ma (oa call xc) (fun s=>some (tidy [0,3,4,5,33,34] s)) ⟨aC n row i x,Mi R0 R1 S nl nr fr B7 C n [.seq 1 false (La Ac) fk nk,M]⟩=
 some (.norm,⟨aC n row i (x+1:Nat),Mi R0 R1 S nl nr fr B7 C n [.seq 1 false (La Ac) fk nk,M]⟩):=by
 have e1:decide ((x:Int) < 256)=true:=Ea (by omega);have e2:decide (to>=0)=false:=Ga (by omega);have hq:Ia (x:Int) 256:=by unfold Ia;omega
 have t1:((x:Int)).toNat=x:=by simp
 have t2:=Za (i:=x) (n:=256) hx (by unfold maxLen;omega);have ht:(row.map i64)[x]? =some (i64 to):=by rw[Faa,A8];rfl
 simp -implicitDefEqProofs only[SP,SA,SQ,sevalprocAttr,-List.reduceReplicate,ma,xc,e1,e2,Laa hq,t1,t2,ht,Im,ta,tidy,Hc,aC,Mi]
theorem EU(hC:C.length=n * 256)(hk:Ac.length=n)(hfr:fr<=n * 256)(hfk:fk<=n)(hi:i < n)(hx:x < 256)(A8:row[x]? =some to)(h:0<=to){v:Int}(hv:Ac[to.toNat]? =some v):ma (oa call xc) (fun s=>some (tidy [0,3,4,5,33,34] s)) ⟨aC n row i x,Mi R0 R1 S nl nr fr B7 C n [.seq 1 false (La Ac) fk nk,M]⟩=
 some (.norm,⟨aC n row i (x+1:Nat),Mi R0 R1 S nl nr (n * 256) B7 (C.set (i * 256+x) v) n [.seq 1 false (La Ac) fk nk,M]⟩):=by
 have e1:decide ((x:Int) < 256)=true:=Ea (by omega);have e2:decide (to>=0)=true:=Ea (by omega);have hq:Ia (x:Int) 256:=by unfold Ia;omega
 have t1:((x:Int)).toNat=x:=by simp
 have t3:((i:Int)).toNat=i:=by simp
 have t2:=Za (i:=x) (n:=256) hx (by unfold maxLen;omega);have ht:(row.map i64)[x]? =some (i64 to):=by rw[Faa,A8];rfl
 have hv':(La Ac)[to.toNat]? =some (.pv (i64 v)):=by rw[La,Faa,hv];rfl
 have hvl:=(qaa.1 hv).1
 have N9:Ia to n:=by unfold Ia;omega
 have hq3:Ia (i:Int) n:=by unfold Ia;omega
 have w1:Ui 1 n fk (La Ac).length:=by rw[pb];unfold Ui;omega
 have w2:Ui 256 n fr (La C).length:=by rw[pb];unfold Ui;omega
 have w3:((La Ac).length=n)=True:=by rw[pb];exact Laa hk
 have w5:(i * 256+x+1<=n * 256)=True:=Laa (by omega);have w4:((La C).length=n * 256)=True:=by rw[pb];exact Laa hC
 simp -implicitDefEqProofs only[SP,SA,SQ,sevalprocAttr,-List.reduceReplicate,ma,xc,e1,e2,Laa hq,Laa N9,Laa hq3,Laa w1,Laa w2,w3,w4,w5,t1,t2,t3,ht,hv',Im,ta,Qj,tidy,Hc,aC,Mi]
def ee(Ac row:List Int)(i:Nat):List Nat->List Int->List Int
 | [],C=>C
 |x::xs,C=>ee Ac row i xs (match row[x]? with
  |some to=>if 0<=to then C.set (i * 256+x) (Ac.getD to.toNat 0) else C
  |none=>C)
theorem zn(Ac row:List Int)(i:Nat):∀ (xs:List Nat)(C:List Int),(ee Ac row i xs C).length=C.length
 | [],C=>rfl
 |x::xs,C=>by
  rw[ee,zn Ac row i xs]
  split
  ·split <;> simp
  ·rfl
theorem gO(hC:C.length=n * 256)(hk:Ac.length=n)(hfr:fr=0\/fr=n * 256)(hfk:fk<=n)(hi:i < n)(J7:row.length=256)(A8:∀ to∈row,to < n):
 ∃ fr',(fr'=0\/fr'=n * 256)/\ab (ma (oa call xc) (fun s=>some (tidy [0,3,4,5,33,34] s))) ua ⟨aC n row i 0,Mi R0 R1 S nl nr fr B7 C n [.seq 1 false (La Ac) fk nk,M]⟩=
  some (.exit 2,⟨(aC n row i 256).set 35 (.pv (.bool false)),Mi R0 R1 S nl nr fr' B7 (ee Ac row i (List.range 256) C) n [.seq 1 false (La Ac) fk nk,M]⟩):=by
 generalize hxs:List.range 256=xs
 have key:=Zl (g:=ma (oa call xc) (fun s=>some (tidy [0,3,4,5,33,34] s)))
  (fun x t=>∃ fr' C',(fr'=0\/fr'=n * 256)/\C'.length=n * 256/\t=⟨aC n row i x,Mi R0 R1 S nl nr fr' B7 C' n [.seq 1 false (La Ac) fk nk,M]⟩/\ee Ac row i xs C=ee Ac row i (xs.drop x) C')
  (fun ex t=>∃ fr',(fr'=0\/fr'=n * 256)/\ex= .exit 2/\t=⟨(aC n row i 256).set 35 (.pv (.bool false)),Mi R0 R1 S nl nr fr' B7 (ee Ac row i xs C) n [.seq 1 false (La Ac) fk nk,M]⟩)
  ua 256 0 ⟨aC n row i (0:Nat),Mi R0 R1 S nl nr fr B7 C n [.seq 1 false (La Ac) fk nk,M]⟩ (by unfold ua;omega) (by omega) ⟨fr,C,hfr,hC,rfl,rfl⟩ ?_ ?_
 ·obtain⟨ex,t,h,_,fr',q1,rfl,rfl⟩:=key
  exact⟨fr',q1,h⟩
 ·rintro x hx t ⟨fr',C',hf',hC',rfl,hl⟩
  have hd:=Zr hx;rw[hxs] at hd;rw[hd] at hl;obtain⟨to,ht⟩:∃ to,row[x]? =some to:=⟨row[x],by simp[J7,hx]⟩;have hlt:=A8 to (sab ht)
  by_cases h0:0<=to
  ·obtain⟨v,hv⟩:∃ v,Ac[to.toNat]? =some v:=⟨Ac[to.toNat]'(by omega),by rw[caa]⟩
   refine .inl ⟨_,EU call R0 R1 S nl nr nk fr' fk B7 C' n Ac M row i x to hC' hk (by omega) hfk hi hx ht h0 hv,n * 256,_,.inr rfl,by simpa using hC',rfl,?_⟩
   rw[hl,ee,ht];have:Ac.getD to.toNat 0=v:=by simp[hv]
   simp only[if_pos h0,this]
  ·refine .inl ⟨_,aP call R0 R1 S nl nr nk fr' fk B7 C' n Ac M row i x to hx ht (by omega),fr',C',hf',hC',rfl,?_⟩
   rw[hl,ee,ht];simp only[taa h0]
 ·rintro t ⟨fr',C',hf',hC',rfl,hl⟩
  rw[dac (by rw[<- hxs,mac];exact waa _)] at hl;refine⟨.exit 2,_,?_,rfl,fr',hf',rfl,rfl⟩;rw[hl];have e1:decide (((256:Nat):Int) < 256)=false:=by decide
  simp -implicitDefEqProofs only[SP,SA,SQ,sevalprocAttr,-List.reduceReplicate,ma,xc,e1,aC,Mi,ee]
end
theorem AD:∀ (a b:List Int),a.length=b.length->cj (List.replicate a.length 1) (a.map i64) (b.map i64)=some (decide (a=b))
 | [],[],_=>rfl
 |x::a,y::b,h=>by
  have ih:=AD a b (by simpa using h);simp only[Raa,List.replicate_succ,pab,cj,Us,if_true,Daa,ih,Kaa,Dae,Bool.decide_and]
  congr 2
 | [],_::_,h=>by cases h
 |_::_,[],h=>by cases h
def Su(M:List (List Int×Int)):List (PV×PV):=M.map fun p=>(Zi p.1,i64 p.2)
theorem AT(M:List (List Int×Int))(p:List Int×Int):Su (M++[p])=Su M++[(Zi p.1,i64 p.2)]:=by simp[Su]
def Gl(a:List Int):List (List Int×Int)->Option Int
 | []=>none
 |p::r=>if a=p.1 then some p.2 else Gl a r
theorem zO{a:List Int}(ha:a.length=256):∀ (M:List (List Int×Int))(j:Nat),(∀ p∈M,p.1.length=256)->
 (∀ v,Gl a M=some v->∃ k,qn (.row (List.replicate 256 1)) (Zi a) (Su M) j=some (some (k,i64 v)))/\(Gl a M=none->qn (.row (List.replicate 256 1)) (Zi a) (Su M) j=some none)
 | [],j,_=>⟨fun v h=>(by cases h),fun _=>rfl⟩
 |p::r,j,hp=>by
  have he:=AD a p.1 (by rw[ha,hp p (by simp)])
  rw[ha] at he;have ih:=zO ha r (j+1) (fun q hq=>hp q (by simp[hq]));have hk:Ql (.row (List.replicate 256 1)) (Zi a) (Zi p.1)=some (decide (a=p.1)):=he;rw[show Su (p::r)=(Zi p.1,i64 p.2)::Su r from rfl,qn,hk,Daa,Gl]
  by_cases h:a=p.1
  ·rw[if_pos h,decide_eq_true h]
   exact⟨fun v e=>(by injection e with e;subst e;exact⟨j,rfl⟩),fun e=>(by cases e)⟩
  ·rw[taa h,decide_eq_false h]
   exact ih
theorem eP{a:List Int}(ha:a.length=256):(Ql (.row (List.replicate 256 1)) (Zi a) (Zi a)).isSome=true:=by
 have he:=AD a a rfl;rw[ha] at he;show (cj _ _ _).isSome=true
 rw[he];rfl
def Va(C:List Int)(i:Nat):List Int:=(C.drop (i * 256)).take 256
theorem Fi{C:List Int}{n i:Nat}(hC:C.length=n * 256)(hi:i < n):(Va C i).length=256:=by
 unfold Va;rw[Lab,Pab,hC];omega
theorem PF(C:List Int)(i:Nat):Tc (List.take 256 (List.drop (i * 256) (La C)))=some ((Va C i).map i64):=by
 have:List.take 256 (List.drop (i * 256) (La C))=La (Va C i):=by unfold Va La;rw[List.map_take,List.map_drop]
 rw[this,Cu]
structure bO where
 C:List Int
 Ac:List Int
 M:List (List Int×Int)
def rm(i:Nat)(s:bO):bO:=
 let C:=ee s.Ac (Va s.C i) i (List.range 256) s.C
 match Gl (Va C i) s.M with
 |some v=>⟨C,s.Ac.set i v,s.M⟩
 |none=>⟨C,s.Ac.set i i,s.M++[(Va C i,(i:Int))]⟩
def Ck:Nat->bO->bO
 |0,s=>s
 |i+1,s=>Ck i (rm i s)
theorem nu{i:Nat}{s:bO}{v:Int}(h:Gl (Va (ee s.Ac (Va s.C i) i (List.range 256) s.C) i) s.M=some v):rm i s=⟨ee s.Ac (Va s.C i) i (List.range 256) s.C,s.Ac.set i v,s.M⟩:=by
 simp only[rm,h]
theorem au{i:Nat}{s:bO}(h:Gl (Va (ee s.Ac (Va s.C i) i (List.range 256) s.C) i) s.M=none):
 rm i s=⟨ee s.Ac (Va s.C i) i (List.range 256) s.C,s.Ac.set i i,s.M++[(Va (ee s.Ac (Va s.C i) i (List.range 256) s.C) i,(i:Int))]⟩:=by
 simp only[rm,h]
abbrev NC(n:Nat)(i:Int):Tr:=(((Tr.lf.set 5 (.pv (i64 i))).set 4 (.mp 7)).set 3 (.own 6 n)).set 0 (.ptr 3 0)
section
variable (call:Sa)(R0 R1:ba)(S:PV)(nl nr nk:Bool)(fr fk:Nat)(B7:List Al)(n:Nat)(s:bO)(i:Nat)
theorem nO(hC:s.C.length=n * 256)(hk:s.Ac.length=n)(hfr:fr=0\/fr=n * 256)(hfk:fk<=n)(hi:i < n)(hn:n<=64)(A8:∀ to∈Va s.C i,to < n)(hM:∀ p∈s.M,p.1.length=256):
 ∃ fr',(fr'=0\/fr'=n * 256)/\ma (oa call Td) (fun s=>some (tidy [0,3,4,5] s)) ⟨NC n i,Mi R0 R1 S nl nr fr B7 s.C n [.seq 1 false (La s.Ac) fk nk,.map (Su s.M)]⟩=
  some (.norm,⟨NC n ((i:Int) - 1),Mi R0 R1 S nl nr fr' B7 (rm i s).C n [.seq 1 false (La (rm i s).Ac) n nk,.map (Su (rm i s).M)]⟩):=by
 obtain⟨fr',hf',U8⟩:=gO call R0 R1 S nl nr nk fr fk B7 s.C n s.Ac (.map (Su s.M)) (Va s.C i) i hC hk hfr hfk hi (Fi hC hi) A8
 refine⟨fr',hf',?_⟩;have hC2:(ee s.Ac (Va s.C i) i (List.range 256) s.C).length=n * 256:=by rw[zn,hC]
 have X9:=Fi hC2 hi;have hfd:=zO X9 s.M 0 hM
 have his:=eP X9;have p1:=PF s.C i
 have p2:=PF (ee s.Ac (Va s.C i) i (List.range 256) s.C) i;have e1:decide ((i:Int)>=0)=true:=Ea (by omega);have hq3:Ia (i:Int) n:=by unfold Ia;omega
 have t3:((i:Int)).toNat=i:=by simp
 have t2:IntKind.i64.wrap ((i:Int) - 1)=(i:Int) - 1:=Aa (by omega)
 have w2:Ui 256 n fr (La s.C).length:=by rw[pb];unfold Ui;omega
 have w4:((La s.C).length=n * 256)=True:=by rw[pb];exact Laa hC
 have w6:(i * 256+256<=(La s.C).length)=True:=by rw[pb];exact Laa (by omega)
 have R9:=@nu i s;have I9:=@au i s;generalize ee s.Ac (Va s.C i) i (List.range 256) s.C=C2 at *
 have w12:Ui 256 n fr' (La C2).length:=by rw[pb];unfold Ui;omega
 have w14:((La C2).length=n * 256)=True:=by rw[pb];exact Laa hC2
 have w16:(i * 256+256<=(La C2).length)=True:=by rw[pb];exact Laa (by omega)
 have w1:Ui 1 n fk (La s.Ac).length:=by rw[pb];unfold Ui;omega
 have w3:((La s.Ac).length=n)=True:=by rw[pb];exact Laa hk
 have w5:(i+1<=n)=True:=Laa (by omega);generalize hz:List.replicate 256 1=ks at *
 have cad:ab (ma (oa call xc) (fun s=>some (tidy [0,3,4,5,33,34] s))) ua ⟨aC n (Va s.C i) i 0,Mi R0 R1 S nl nr fr B7 s.C n [.seq 1 false (La s.Ac) fk nk,.map (Su s.M)]⟩=_:=U8;simp only[aC,Mi,tidy,Hc] at cad;cases hlk:Gl (Va C2 i) s.M with
 |some v=>
  obtain⟨k,D8⟩:=hfd.1 v hlk
  rw[R9 hlk];simp -implicitDefEqProofs only[SP,SA,SQ,sevalprocAttr,-List.reduceReplicate,ma,Td,e1,Laa hq3,t2,t3,Laa w2,w4,w6,p1,ta,yr,tidy,Hc,NC,Mi,hz];rw[cad];simp -implicitDefEqProofs only[SP,SA,SQ,sevalprocAttr,-List.reduceReplicate,Laa hq3,t2,t3,Laa w12,w14,w16,Laa w1,w3,w5,p2,ta,Laa his,D8,Qj,tidy,Hc,NC,Mi]
 |none=>
  have D8:=hfd.2 hlk
  rw[I9 hlk];simp -implicitDefEqProofs only[SP,SA,SQ,sevalprocAttr,-List.reduceReplicate,ma,Td,e1,Laa hq3,t2,t3,Laa w2,w4,w6,p1,ta,yr,tidy,Hc,NC,Mi,hz];rw[cad];simp -implicitDefEqProofs only[SP,SA,SQ,sevalprocAttr,-List.reduceReplicate,Laa hq3,t2,t3,Laa w12,w14,w16,Laa w1,w3,w5,p2,ta,Laa his,D8,Qj,tidy,Hc,NC,Mi,AT]
end
structure T3(n:Nat)(s:bO):Prop where
 hC:s.C.length=n * 256
 hk:s.Ac.length=n
 cC:∀ c∈s.C,c < n
 ck:∀ c∈s.Ac,c < n
 cM:∀ p∈s.M,p.1.length=256/\p.2 < n
theorem cF{Ac row:List Int}{i:Nat}{n:Int}(hn:0 < n)(hk:∀ c∈Ac,c < n):∀ (xs:List Nat)(C:List Int),(∀ c∈C,c < n)->∀ c∈ee Ac row i xs C,c < n
 | [],C,h=>h
 |x::xs,C,h=>by
  rw[ee];refine cF hn hk xs _ ?_
  split
  ·split
   ·intro c hc
    rcases Nab hc with h1 | h1
    ·exact h c h1
    ·subst h1
     next to _ _=>
     rcases Xaa to.toNat Ac.length with h2 | h2
     ·rw[Caa,caa h2];exact hk _ (saa h2)
     ·rw[Caa,Yaa h2];exact hn
   ·exact h
  ·exact h
theorem Fv{a:List Int}:∀ {M:List (List Int×Int)}{v:Int},Gl a M=some v->∃ p∈M,p.1=a/\p.2=v
 |p::r,v,h=>by
  rw[Gl] at h
  split at h
  ·next h1=>injection h with h;exact⟨p,by simp,h1.symm,h⟩
  ·obtain⟨q,hq,e⟩:=Fv h
   exact⟨q,by simp[hq],e⟩
theorem QD{n i:Nat}{s:bO}(hi:i < n)(h:T3 n s):T3 n (rm i s):=by
 have hC2:(ee s.Ac (Va s.C i) i (List.range 256) s.C).length=n * 256:=by rw[zn,h.hC]
 have hlt:=cF (i:=i) (row:=Va s.C i) (n:=(n:Int)) (by omega) h.ck (List.range 256) s.C h.cC
 have R9:=@nu i s;have I9:=@au i s;generalize ee s.Ac (Va s.C i) i (List.range 256) s.C=C2 at *
 cases hl:Gl (Va C2 i) s.M with
 |some v=>
  obtain⟨p,hp,_,hv⟩:=Fv hl;have:=(h.cM p hp).2
  rw[R9 hl];refine⟨hC2,by simp[h.hk],hlt,?_,h.cM⟩;intro c hc;rcases Nab hc with h1 | h1
  ·exact h.ck c h1
  ·omega
 |none=>
  rw[I9 hl];refine⟨hC2,by simp[h.hk],hlt,?_,?_⟩
  ·intro c hc
   rcases Nab hc with h1 | h1
   ·exact h.ck c h1
   ·omega
  ·intro p hp
   rcases Naa.1 hp with h1 | h1
   ·exact h.cM p h1
   ·simp at h1;subst h1;exact⟨Fi hC2 hi,by simp;omega⟩
theorem OG{n:Nat}:∀ (k:Nat)(s:bO),k<=n->T3 n s->T3 n (Ck k s)
 |0,s,_,h=>h
 |k+1,s,hk,h=>OG k _ (by omega) (QD (by omega) h)
def mf(n:Nat)(C:List Int):bO:=Ck n ⟨C,List.replicate n 0,[]⟩
section
variable (call:Sa)(R0 R1:ba)(S:PV)(nl nr nk:Bool)(B7:List Al)(C:List Int)(n:Nat)
theorem VO(s0:bO)(hn:n<=64)(h0:0 < n)(Ba:T3 n s0):
 ∃ fr fk,(fr=0\/fr=n * 256)/\ab (ma (oa call Td) (fun s=>some (tidy [0,3,4,5] s))) ua ⟨NC n ((n:Int) - 1),Mi R0 R1 S nl nr 0 B7 s0.C n [.seq 1 false (La s0.Ac) 0 nk,.map (Su s0.M)]⟩=
  some (.exit 0,⟨((NC n (-1)).set 23 (.pv (i64 (-1)))).set 24 (.pv (.bool false)),Mi R0 R1 S nl nr fr B7 (Ck n s0).C n [.seq 1 false (La (Ck n s0).Ac) fk nk,.map (Su (Ck n s0).M)]⟩)/\fk<=n:=by
 have key:=Zl (g:=ma (oa call Td) (fun s=>some (tidy [0,3,4,5] s)))
  (fun j t=>∃ fr fk s,(fr=0\/fr=n * 256)/\fk<=n/\T3 n s/\t=⟨NC n ((n:Int) - 1 - j),Mi R0 R1 S nl nr fr B7 s.C n [.seq 1 false (La s.Ac) fk nk,.map (Su s.M)]⟩/\Ck n s0=Ck (n - j) s)
  (fun ex t=>∃ fr fk,(fr=0\/fr=n * 256)/\fk<=n/\ex= .exit 0/\t=⟨((NC n (-1)).set 23 (.pv (i64 (-1)))).set 24 (.pv (.bool false)),Mi R0 R1 S nl nr fr B7 (Ck n s0).C n [.seq 1 false (La (Ck n s0).Ac) fk nk,.map (Su (Ck n s0).M)]⟩)
  ua n 0 ⟨NC n ((n:Int) - 1 - (0:Nat)),Mi R0 R1 S nl nr 0 B7 s0.C n [.seq 1 false (La s0.Ac) 0 nk,.map (Su s0.M)]⟩ (by unfold ua;omega) (by omega) ⟨0,0,s0,.inl rfl,by omega,Ba,rfl,rfl⟩ ?_ ?_
 ·obtain⟨ex,t,h,_,fr,fk,q1,q2,rfl,rfl⟩:=key
  rw[show ((n:Int) - 1 - (0:Nat))=(n:Int) - 1 by omega] at h;exact⟨fr,fk,q1,h,q2⟩
 ·rintro j hj t ⟨fr,fk,s,hf,hfk,hs,rfl,hl⟩
  obtain⟨i,hi⟩:∃ i,n - j=i+1:=⟨n - j - 1,by omega⟩;rw[hi,Ck] at hl;obtain⟨fr',hf',hr⟩:=nO call R0 R1 S nl nr nk fr fk B7 n s i hs.hC hs.hk hf hfk (by omega) hn
   (fun to h=>hs.cC to (bac (xac h))) (fun p hp=>(hs.cM p hp).1)
  rw[show ((n:Int) - 1 - (j:Int))=(i:Int) by omega];refine .inl ⟨_,hr,fr',n,rm i s,hf',by omega,QD (by omega) hs,?_,?_⟩
  ·rw[show ((n:Int) - 1 - ((j+1:Nat):Int))=(i:Int) - 1 by omega]
  ·rw[hl,show n - (j+1)=i by omega]
 ·rintro t ⟨fr,fk,s,hf,hfk,hs,rfl,hl⟩
  rw[uad,Ck] at hl;rw[show ((n:Int) - 1 - (n:Int))= -1 by omega];refine⟨.exit 0,_,?_,rfl,fr,fk,hf,hfk,rfl,rfl⟩;rw[hl];have e1:decide ((-1:Int)>=0)=false:=by decide
  simp -implicitDefEqProofs only[SP,SA,SQ,sevalprocAttr,-List.reduceReplicate,ma,Td,e1,NC,Mi]
theorem dK(n:Nat):Ml [PV.int .i64 0] n=La (List.replicate n 0):=by
 induction n with
 |zero=>rfl
 |succ n ih=>rw[Ml,ih];rfl
theorem QS(hn:n<=64)(h0:0 < n)(hs:B7.length=n)(hC:C.length=n * 256)(cC:∀ c∈C,c < n):
 ∃ fr fk v,(fr=0\/fr=n * 256)/\ef call wj [.ptr 3 0] (Mi R0 R1 S nl nr 0 B7 C n [])=
  some (v,Mi R0 R1 S nl nr fr B7 (mf n C).C n [.seq 1 false (La (mf n C).Ac) fk false,.map (Su (mf n C).M)]):=by
 obtain⟨fr,fk,hf,hl,hfk⟩:=VO call R0 R1 S nl nr false B7 n ⟨C,List.replicate n 0,[]⟩ hn h0
  ⟨hC,by simp,cC,by intro c hc;rw[Fad hc];omega,by simp⟩
 refine⟨fr,fk,.own 6 n,hf,?_⟩;have hlen:(B7.map Si).length=n:=by rw[paa,hs]
 have r0:Ml [PV.int .i64 0] n=La (List.replicate n 0):=dK n;have t1:((n:Int)).toNat=n:=by simp
 have t2:IntKind.i64.wrap ((n:Int) - 1)=(n:Int) - 1:=Aa (by omega)
 have e1:(0<=(n:Int))=True:=by simp
 have e2:eb n 8:=by unfold eb;omega
 have e3:((n:Int)<=(n:Int))=True:=by simp
 unfold mf;generalize Ck n ⟨C,List.replicate n 0,[]⟩=g at *;generalize List.replicate n (0:Int)=zs at *
 simp only[tidy,Hc,NC,Mi,Su,Rad] at hl;simp -implicitDefEqProofs only[SP,SA,SQ,sevalprocAttr,-List.reduceReplicate,wj,hlen,r0,t1,t2,e1,Laa e2,e3,yr,tidy,Hc,Mi];rw[hl];simp -implicitDefEqProofs only[SP,SA,SQ,sevalprocAttr,-List.reduceReplicate,Mi,Su]
end
structure de where
 lo:Int
 hi:Int
 to:Int
deriving DecidableEq
def bI(e:de):PV:= .agg [i64 e.lo,i64 e.hi,i64 e.to]
def ud(l:List de):List Int:=l.flatMap fun e=>[e.lo,e.hi,e.to]
theorem Uk(l:List de):(ud l).length=l.length * 3:=by
 induction l with
 |nil=>rfl
 |cons e l ih=>simp only[ud,rad,Aaa,Raa,Dab] at ih ⊢;omega
theorem Sm(l:List de)(e:de):ud (l++[e])=ud l++[e.lo,e.hi,e.to]:=by simp[ud]
def pg(x to:Int)(l:List de):List de:=
 if to= -2 then l else match l.getLast? with
  |some e=>if e.to=to/\e.hi=x - 1 then l.dropLast++[⟨e.lo,x,e.to⟩] else l++[⟨x,x,to⟩]
  |none=>l++[⟨x,x,to⟩]
theorem R2(a b c:Int):La [a,b,c]=[.pv (i64 a),.pv (i64 b),.pv (i64 c)]:=rfl
theorem sH(a b:List Int):La (a++b)=La a++La b:=by simp[La]
abbrev Xu(row:List Int)(n:Nat)(x:Int):Tr:=((Tr.lf.set 8 (.pv (i64 x))).set 7 (.pv (Zi row))).set 3 (.own 0 n)
theorem ZG(l:List Int)(e:de)(k:Nat)(hk:k < 3):(La (l++[e.lo,e.hi,e.to]))[l.length+k]? =some (.pv (i64 (if k=0 then e.lo else if k=1 then e.hi else e.to))):=by
 rw[La,Faa,Paa (by omega),Eac]
 match k,hk with
 |0,_=>rfl
 |1,_=>rfl
 |2,_=>rfl
section
variable (call:Sa)(row:List Int)(x:Nat)(to:Int)(fl:Nat)
 (hx:x < 256) (A8:row[x]? =some to)
include hx A8
theorem gT(l:List de)(nl:Bool)(h:to= -2):ma (oa call od) (fun s=>some (tidy [3,7,8] s)) ⟨Xu row l.length x,[.seq 3 true (La (ud l)) fl nl]⟩=
 some (.norm,⟨Xu row l.length (x+1:Nat),[.seq 3 true (La (ud l)) fl nl]⟩):=by
 have e1:decide ((x:Int) < 256)=true:=Ea (by omega);have e2:(to== -2)=true:=by simp[h]
 have hq:Ia (x:Int) 256:=by unfold Ia;omega
 have t1:((x:Int)).toNat=x:=by simp
 have t2:=Za (i:=x) (n:=256) hx (by unfold maxLen;omega);have ht:(row.map i64)[x]? =some (i64 to):=by rw[Faa,A8];rfl
 simp -implicitDefEqProofs only[SP,SA,SQ,sevalprocAttr,ma,od,e1,e2,Laa hq,t1,t2,ht,ta,tidy,Hc,Xu]
theorem qQ(nl:Bool)(h:to≠ -2):ma (oa call od) (fun s=>some (tidy [3,7,8] s)) ⟨Xu row 0 x,[.seq 3 true [] 0 nl]⟩=
 some (.norm,⟨Xu row 1 (x+1:Nat),[.seq 3 true (La [(x:Int),x,to]) 0 false]⟩):=by
 have e1:decide ((x:Int) < 256)=true:=Ea (by omega);have e2:(to== -2)=false:=mj h;have hq:Ia (x:Int) 256:=by unfold Ia;omega
 have t1:((x:Int)).toNat=x:=by simp
 have t2:=Za (i:=x) (n:=256) hx (by unfold maxLen;omega);have ht:(row.map i64)[x]? =some (i64 to):=by rw[Faa,A8];rfl
 have q1:eb 1 24:=by unfold eb;omega
 simp -implicitDefEqProofs only[SP,SA,SQ,sevalprocAttr,ma,od,e1,e2,Laa hq,t1,t2,ht,Laa q1,ta,tidy,Hc,Xu,pk,jj,AV.WE,AV.Tq,La]
variable (l:List de)(e:de)(hl:l.length < 256)(hfl:fl<=(l.length+1) * 3)
include hl hfl
theorem bV(h:to≠ -2)(h1:e.to=to)(h2:e.hi=(x:Int) - 1):ma (oa call od) (fun s=>some (tidy [3,7,8] s)) ⟨Xu row (l.length+1) x,[.seq 3 true (La (ud l++[e.lo,e.hi,e.to])) fl false]⟩=
 some (.norm,⟨Xu row (l.length+1) (x+1:Nat),[.seq 3 true (La (ud l++[e.lo,(x:Int),e.to])) ((l.length+1) * 3) false]⟩):=by
 have e1:decide ((x:Int) < 256)=true:=Ea (by omega);have e2:(to== -2)=false:=mj h;have hq:Ia (x:Int) 256:=by unfold Ia;omega
 have t1:((x:Int)).toNat=x:=by simp
 have t2:=Za (i:=x) (n:=256) hx (by unfold maxLen;omega);have ht:(row.map i64)[x]? =some (i64 to):=by rw[Faa,A8];rfl
 have e3:decide (((l.length+1:Nat):Int) > 0)=true:=Ea (by omega);have t3:IntKind.i64.wrap (((l.length+1:Nat):Int) - 1)=(l.length:Int):=by rw[Aa (by omega)];omega
 have t4:((l.length:Int)).toNat=l.length:=by simp
 have t5:IntKind.i64.wrap ((x:Int) - 1)=(x:Int) - 1:=Aa (by omega)
 have N9:Ia (l.length:Int) (l.length+1):=by unfold Ia;omega
 have hlen:(La (ud l++[e.lo,e.hi,e.to])).length=(l.length+1) * 3:=by rw[pb,Aaa,Uk];simp;omega
 have w1:Ui 3 (l.length+1) fl (La (ud l++[e.lo,e.hi,e.to])).length:=by rw[hlen];unfold Ui;omega
 have w2:((La (ud l++[e.lo,e.hi,e.to])).length=(l.length+1) * 3)=True:=Laa hlen;have g2:=ZG (ud l) e 2 (by omega);have g1:=ZG (ud l) e 1 (by omega);rw[Uk] at g1 g2;simp only[h1,h2] at g1 g2;have b1:(to==to)=true:=by simp
 have b2:((x:Int) - 1==(x:Int) - 1)=true:=by simp
 have w3:(l.length * 3+1+1<=(l.length+1) * 3)=True:=Laa (by omega);have F8:(La (ud l++[e.lo,(x:Int) - 1,to])).set (l.length * 3+1) (.pv (i64 x))=La (ud l++[e.lo,(x:Int),to]):=by rw[Qj,<-Uk,Xab _ _ (by omega),Eac];rfl
 rw[h1,h2] at *;generalize ud l++[e.lo,(x:Int) - 1,to]=cs at *;simp -implicitDefEqProofs only[SP,SA,SQ,sevalprocAttr,ma,od,e1,e2,e3,Laa hq,Laa N9,t1,t2,t3,t4,t5,ht,g1,g2,Laa w1,w2,w3,b1,b2,F8,ta,tidy,Hc,Xu]
theorem OS(h:to≠ -2)(h1:¬(e.to=to/\e.hi=(x:Int) - 1)):ma (oa call od) (fun s=>some (tidy [3,7,8] s)) ⟨Xu row (l.length+1) x,[.seq 3 true (La (ud l++[e.lo,e.hi,e.to])) fl false]⟩=
 some (.norm,⟨Xu row (l.length+1+1) (x+1:Nat),[.seq 3 true (La (ud l++[e.lo,e.hi,e.to])++La [(x:Int),x,to]) fl false]⟩):=by
 have e1:decide ((x:Int) < 256)=true:=Ea (by omega);have e2:(to== -2)=false:=mj h;have hq:Ia (x:Int) 256:=by unfold Ia;omega
 have t1:((x:Int)).toNat=x:=by simp
 have t2:=Za (i:=x) (n:=256) hx (by unfold maxLen;omega);have ht:(row.map i64)[x]? =some (i64 to):=by rw[Faa,A8];rfl
 have e3:decide (((l.length+1:Nat):Int) > 0)=true:=Ea (by omega);have t3:IntKind.i64.wrap (((l.length+1:Nat):Int) - 1)=(l.length:Int):=by rw[Aa (by omega)];omega
 have t4:((l.length:Int)).toNat=l.length:=by simp
 have t5:IntKind.i64.wrap ((x:Int) - 1)=(x:Int) - 1:=Aa (by omega)
 have N9:Ia (l.length:Int) (l.length+1):=by unfold Ia;omega
 have hlen:(La (ud l++[e.lo,e.hi,e.to])).length=(l.length+1) * 3:=by rw[pb,Aaa,Uk];simp;omega
 have w1:Ui 3 (l.length+1) fl (La (ud l++[e.lo,e.hi,e.to])).length:=by rw[hlen];unfold Ui;omega
 have w2:((La (ud l++[e.lo,e.hi,e.to])).length=(l.length+1) * 3)=True:=Laa hlen;have w2':((l.length+1) * 3=(La (ud l++[e.lo,e.hi,e.to])).length)=True:=Laa hlen.symm
 have g2:(La (ud l++[e.lo,e.hi,e.to]))[(ud l).length+2]? =some (.pv (i64 e.to)):=ZG (ud l) e 2 (by omega);have g1:(La (ud l++[e.lo,e.hi,e.to]))[(ud l).length+1]? =some (.pv (i64 e.hi)):=ZG (ud l) e 1 (by omega);rw[Uk] at g1 g2;have q1:eb (l.length+1+1) 24:=by unfold eb;omega
 generalize ud l++[e.lo,e.hi,e.to]=cs at *
 by_cases H8:e.to=to
 ·have b1:(e.to==to)=true:=by simp[H8]
  have b2:(e.hi==(x:Int) - 1)=false:=mj fun hh=>h1 ⟨H8,hh⟩;simp -implicitDefEqProofs only[SP,SA,SQ,sevalprocAttr,ma,od,e1,e2,e3,Laa hq,Laa N9,t1,t2,t3,t4,t5,ht,g1,g2,Laa w1,w2,w2',Laa q1,b1,b2,ta,tidy,Hc,Xu,pk,jj,AV.WE,AV.Tq,R2]
 ·have b1:(e.to==to)=false:=mj H8
  simp -implicitDefEqProofs only[SP,SA,SQ,sevalprocAttr,ma,od,e1,e2,e3,Laa hq,Laa N9,t1,t2,t3,t4,t5,ht,g1,g2,Laa w1,w2,w2',Laa q1,b1,ta,tidy,Hc,Xu,pk,jj,AV.WE,AV.Tq,R2]
end
def Re(row:List Int):List Nat->List de->List de
 | [],l=>l
 |x::xs,l=>Re row xs (pg x (row.getD x 0) l)
def xg(row:List Int):List de:=Re row (List.range 256) []
def Ee(l:List de):PV:=if l.isEmpty then .ga else .lit 3 (l.map bI)
theorem LA(x:Int)(l:List de):pg x (-2) l=l:=by simp[pg]
theorem ez{x to:Int}(h:to≠ -2):pg x to []=[⟨x,x,to⟩]:=by simp[pg,h]
theorem PA{x:Int}{l:List de}{e:de}(h:e.to≠ -2)(h2:e.hi=x - 1):pg x e.to (l++[e])=l++[⟨e.lo,x,e.to⟩]:=by simp[pg,h,h2]
theorem Lw{x to:Int}{l:List de}{e:de}(h:to≠ -2)(h2:¬(e.to=to/\e.hi=x - 1)):pg x to (l++[e])=l++[e]++[⟨x,x,to⟩]:=by
 simp only[pg,taa h,List.getLast?_append,List.getLast?_singleton,Option.some_or,taa h2]
theorem TJ(H:List ba)(d:Nat)(l:List Int):Ra (Ub H d) (La l)=some (l.map i64):=by
 induction l with
 |nil=>rfl
 |cons a l ih=>simp only[La,pab,Ra,Ng,Daa] at ih ⊢;rw[ih];rfl
theorem vP:∀ (l:List de),chunk 3 true l.length ((ud l).map i64)=l.map bI
 | []=>rfl
 |e::l=>by have:=vP l;rw[Raa,chunk];simp only[ud,rad,fab,cab,pab,List.take,List.drop,if_true] at this ⊢;rw[this];rfl
theorem XO(H:List ba)(id:Nat)(l:List de)(fl:Nat)(h:H[id]? =some (.seq 3 true (La (ud l)) fl l.isEmpty)):Ub H deep (.own id l.length)=some (Ee l):=by
 have hl:(l.length * 3=(La (ud l)).length)=True:=by rw[pb,Uk];exact eq_self _
 rw[Gc];simp only[Ub,h,hl,Bool.true_or,and_self,if_true];unfold Ee;cases hn:l.isEmpty with
 |true=>rfl
 |false=>simp only[Baa,if_false,TJ,Kaa,vP]
section
variable (row:List Int)(J7:row.length=256)
include J7
theorem rQ(call:Sa):∃ fl,ab (ma (oa call od) (fun s=>some (tidy [3,7,8] s))) ua ⟨Xu row 0 0,[.seq 3 true [] 0 true]⟩=
 some (.exit 0,⟨(Xu row (xg row).length 256).set 9 (.pv (.bool false)),[.seq 3 true (La (ud (xg row))) fl (xg row).isEmpty]⟩):=by
 unfold xg;generalize hxs:List.range 256=xs
 have key:=Zl (g:=ma (oa call od) (fun s=>some (tidy [3,7,8] s)))
  (fun x t=>∃ fl l,fl<=l.length * 3/\l.length<=x/\t=⟨Xu row l.length x,[.seq 3 true (La (ud l)) fl l.isEmpty]⟩/\Re row xs []=Re row (xs.drop x) l)
  (fun ex t=>∃ fl,ex= .exit 0/\t=⟨(Xu row (Re row xs []).length 256).set 9 (.pv (.bool false)),[.seq 3 true (La (ud (Re row xs []))) fl (Re row xs []).isEmpty]⟩)
  ua 256 0 ⟨Xu row 0 (0:Nat),[.seq 3 true [] 0 true]⟩ (by unfold ua;omega) (by omega) ⟨0,[],by simp,by simp,rfl,rfl⟩ ?_ ?_
 ·obtain⟨ex,t,h,_,fl,rfl,rfl⟩:=key
  exact⟨fl,h⟩
 ·rintro x hx t ⟨fl,l,hf,hlx,rfl,hl⟩
  have hd:=Zr hx;rw[hxs] at hd;obtain⟨to,ht⟩:∃ to,row[x]? =some to:=⟨row[x],by simp[J7,hx]⟩;have hgd:row.getD x 0=to:=by simp[Caa,ht]
  rw[hd,Re,hgd] at hl
  by_cases h2:to= -2
  ·rw[h2,LA] at hl
   exact .inl ⟨_,gT call row x to fl hx ht l _ h2,fl,l,hf,by omega,rfl,hl⟩
  rcases cae l with rfl | ⟨l',e,rfl⟩
  ·rw[ez h2] at hl
   have hf0:fl=0:=by simpa using hf
   subst hf0;exact .inl ⟨_,qQ call row x to hx ht true h2,0,[⟨x,x,to⟩],by simp,by simp,rfl,hl⟩
  ·simp only[dae] at *
   have hem:(l'++[e]).isEmpty=false:=by simp
   have hlen:(l'++[e]).length=l'.length+1:=by simp
   rw[hlen] at hf hlx;rw[hem,hlen,Sm]
   by_cases h3:e.to=to/\e.hi=(x:Int) - 1
   ·obtain⟨h3,h4⟩:=h3
    rw[<- h3,PA (by rw[h3];exact h2) h4] at hl;refine .inl ⟨_,bV call row x to fl hx ht l' e (by omega) hf h2 h3 h4,(l'.length+1) * 3,l'++[⟨e.lo,x,e.to⟩],by simp,by simp;omega,?_,hl⟩
    rw[Sm];simp
   ·rw[Lw h2 h3] at hl
    refine .inl ⟨_,OS call row x to fl hx ht l' e (by omega) hf h2 h3,fl,_,?_,?_,?_,hl⟩
    ·simp;omega
    ·simp;omega
    ·rw[Sm,Sm,sH];simp[La]
 ·rintro t ⟨fl,l,hf,hlx,rfl,hl⟩
  rw[dac (by rw[<- hxs,mac];exact waa _)] at hl;refine⟨.exit 0,_,?_,rfl,fl,rfl,rfl⟩;rw[hl];have e1:decide (((256:Nat):Int) < 256)=false:=by decide
  simp -implicitDefEqProofs only[SP,SA,SQ,sevalprocAttr,ma,od,e1,Xu,Re]
theorem ES:Gr [Zi row]=some (Ee (xg row)):=by
 obtain⟨fl,hl⟩:=rQ row J7 (Da (fun _=>none) 8);have ht:=XO [.seq 3 true (La (ud (xg row))) fl (xg row).isEmpty] 0 (xg row) fl rfl;have h9:(row.map i64).map AV.pv=La row:=(Tu row).symm
 have p0:((La row).length=256)=True:=by rw[pb,J7];exact eq_self _
 have p1:(256<=(La row).length)=True:=by rw[pb,J7];exact Laa (waa _)
 have p2:List.take 256 (La row)=La row:=Zaa (by rw[pb,J7];exact waa _)
 have p3:=Cu row;have p5:=OF row;have p6:=TJ [] 0 row;have p8:List.take 256 (row.map i64)=row.map i64:=Zaa (by rw[paa,J7];exact waa _)
 have p7:(256<=(row.map i64).length)=True:=by rw[paa,J7];exact Laa (waa _)
 have p4:((row.map i64).length=256)=True:=by rw[paa,J7];exact eq_self _
 generalize xg row=es at *;simp only[tidy,Hc,Xu] at hl;simp -implicitDefEqProofs only[Gr,SP,SA,SQ,sevalprocAttr,iw,h9,p0,p1,p2,p3,p4,p5,p6,p7,p8,fe,yr,tidy,Hc];rw[hl];simp -implicitDefEqProofs only[SP,SA,SQ,sevalprocAttr,ht]
end
def ov(a:Int):List Int->Nat->Option Nat
 | [],_=>none
 |b::l,k=>if a=b then some k else ov a l (k+1)
def KN(l:List Int)(k:Nat):List (PV×PV):=(l.zipIdx k).map fun p=>(i64 p.1,i64 p.2)
theorem yD(a:Int)(l:List Int)(k:Nat):KN (a::l) k=(i64 a,i64 k)::KN l (k+1):=rfl
theorem IJ(a:Int):∀ (l:List Int)(k:Nat),KN (l++[a]) k=KN l k++[(i64 a,i64 (k+l.length:Nat))]
 | [],k=>by simp[KN]
 |b::l,k=>by rw[fab,yD,IJ a l (k+1),yD];simp;omega
theorem CR{a:Int}:∀ {l:List Int}{k i:Nat},ov a l k=some i->k<=i
 |b::l,k,i,h=>by
  simp only[ov] at h
  split at h
  ·injection h with h;omega
  ·have:=CR h;omega
theorem FM(a:Int):∀ (l:List Int)(k j:Nat),qn (.one 1) (i64 a) (KN l k) j=some ((ov a l k).map fun i=>(j+(i - k),i64 i)):=by
 intro l
 induction l with
 |nil=>intro k j;rfl
 |cons b l ih=>
  intro k j;have he:Ql (.one 1) (i64 a) (i64 b)=some (decide (a=b)):=by
   show (if IntKind.i64=IntKind.i64 then some (a==b) else none)=_;rw[if_pos rfl]
   congr 1
  rw[yD,qn,he];simp only[Daa,ov]
  by_cases h:a=b
  ·simp[h]
  ·rw[taa h,ih]
   simp only[h,decide_false,Baa,if_false,eaa];cases hi:ov a l (k+1) with
   |none=>rfl
   |some i=>have:=CR hi;simp only[Kaa,eaa,vaa,and_true];omega
theorem QH(a:Int):(Ql (.one 1) (i64 a) (i64 a)).isSome=true:=rfl
abbrev yp(R0 R1:ba)(S:PV)(nl nr:Bool)(fr:Nat)(B7:List Al)(C:List Int)(n:Nat)(L M:ba)(O:List Int)(out:List PV)(no:Bool)(T:List ba):List ba:=
 Mi R0 R1 S nl nr fr B7 C n (L::M:: .box [.pv .ga]:: .map (KN O 0):: .tok 1 O.length false:: .box [.uq 12 no 1 out]:: .tok 1 out.length no::T)
abbrev Wz(q:Nat)(k:Int)(O:List Int)(fb:List Int)(x:Int):Tr:=
 (((((((((Tr.lf.set 32 (.pv (i64 x))).set 31 (.pv (Zi fb))).set 7 (.ptr q 0)).set 6 (.pv (i64 k))).set 5 (.ptr 11 0)).set 4 (.uq 10 false 1 (O.map i64))).set 3 (.mp 9)).set 2 (.ptr 8 0)).set 0 (.ptr 3 0))
def Aj(x:Nat)(to:Int)(r:List Int×List Int):List Int×List Int:=
 if to < 0 then r else match ov to r.1 0 with
  |some k=>(r.1,r.2.set x k)
  |none=>(r.1++[to],r.2.set x r.1.length)
section
variable (call:Sa)(R0 R1:ba)(S:PV)(nl nr:Bool)(fr:Nat)(B7:List Al)(C:List Int)(n:Nat)(L M:ba)(O:List Int)(out:List PV)(no:Bool)(J:List ba)
 (k:Int) (fb row:List Int) (x:Nat) (to:Int) (q:Nat) (hx:x < 256) (A8:fb[x]? =some to)
include hx A8
theorem PT(h:to < 0):
 ma (oa call uc) (fun s=>some (tidy [0,2,3,4,5,6,7,31,32] s)) ⟨Wz q k O fb x,yp R0 R1 S nl nr fr B7 C n L M O out no (J++[.box (La row)])⟩=
  some (.norm,⟨Wz q k O fb (x+1:Nat),yp R0 R1 S nl nr fr B7 C n L M O out no (J++[.box (La row)])⟩):=by
 have e1:decide ((x:Int) < 256)=true:=Ea (by omega);have e2:decide (to < 0)=true:=Ea (by omega);have hq:Ia (x:Int) 256:=by unfold Ia;omega
 have t1:((x:Int)).toNat=x:=by simp
 have t2:=Za (i:=x) (n:=256) hx (by unfold maxLen;omega);have ht:(fb.map i64)[x]? =some (i64 to):=by rw[Faa,A8];rfl
 simp -implicitDefEqProofs only[SP,SA,SQ,sevalprocAttr,-List.reduceReplicate,ma,uc,e1,e2,Laa hq,t1,t2,ht,ta,tidy,Hc,Wz,yp,Mi]
theorem cW(hq13:q=J.length+1+1+1+1+1+1+1+1+1+1+1+1+1)(J7:row.length=256)(h:¬to < 0){j:Nat}(hj:ov to O 0=some j):
 ma (oa call uc) (fun s=>some (tidy [0,2,3,4,5,6,7,31,32] s)) ⟨Wz q k O fb x,yp R0 R1 S nl nr fr B7 C n L M O out no (J++[.box (La row)])⟩=
  some (.norm,⟨Wz q k O fb (x+1:Nat),yp R0 R1 S nl nr fr B7 C n L M O out no (J++[.box (La (row.set x j))])⟩):=by
 have e1:decide ((x:Int) < 256)=true:=Ea (by omega);have e2:decide (to < 0)=false:=Ga (by omega);have hq:Ia (x:Int) 256:=by unfold Ia;omega
 have t1:((x:Int)).toNat=x:=by simp
 have t2:=Za (i:=x) (n:=256) hx (by unfold maxLen;omega);have ht:(fb.map i64)[x]? =some (i64 to):=by rw[Faa,A8];rfl
 have hf:=FM to O 0 0;rw[hj] at hf;simp only[Kaa] at hf;have his:=QH to;have hle:(x+1<=(La row).length)=True:=by rw[pb];exact Laa (by omega)
 subst hq13;simp -implicitDefEqProofs only[SP,SA,SQ,sevalprocAttr,-List.reduceReplicate,ma,uc,e1,e2,Laa hq,t1,t2,ht,hf,Laa his,hle,Qj,Jq,cq,ta,tidy,Hc,Wz,yp,Mi]
theorem aW(hq13:q=J.length+1+1+1+1+1+1+1+1+1+1+1+1+1)(J7:row.length=256)(h:¬to < 0)(hj:ov to O 0=none)(hO:O.length < 100):
 ma (oa call uc) (fun s=>some (tidy [0,2,3,4,5,6,7,31,32] s)) ⟨Wz q k O fb x,yp R0 R1 S nl nr fr B7 C n L M O out no (J++[.box (La row)])⟩=
  some (.norm,⟨Wz q k (O++[to]) fb (x+1:Nat),yp R0 R1 S nl nr fr B7 C n L M (O++[to]) out no (J++[.box (La (row.set x O.length))])⟩):=by
 have e1:decide ((x:Int) < 256)=true:=Ea (by omega);have e2:decide (to < 0)=false:=Ga (by omega);have hq:Ia (x:Int) 256:=by unfold Ia;omega
 have t1:((x:Int)).toNat=x:=by simp
 have t2:=Za (i:=x) (n:=256) hx (by unfold maxLen;omega);have ht:(fb.map i64)[x]? =some (i64 to):=by rw[Faa,A8];rfl
 have hf:=FM to O 0 0;rw[hj] at hf;simp only[Option.map_none] at hf;have his:=QH to;have hle:(x+1<=(La row).length)=True:=by rw[pb];exact Laa (by omega)
 have hlen:(O.map i64).length=O.length:=by simp
 have q1:eb (O.length+1) 8:=by unfold eb;omega
 have hp:=IJ to O 0;rw[eab] at hp;have L8:(O++[to]).length=O.length+1:=by simp
 have Wab:(O++[to]).map i64=O.map i64++[i64 to]:=by simp
 subst hq13;unfold Wz yp;rw[hp,L8,Wab];simp -implicitDefEqProofs only[SP,SA,SQ,sevalprocAttr,-List.reduceReplicate,ma,uc,e1,e2,Laa hq,t1,t2,ht,hf,Laa his,hle,hlen,Laa q1,Qj,Jq,cq,ta,tidy,Hc,Mi,jj,AV.WE,AV.Tq]
end
def Ax(n:Nat)(O:List Int):Prop:=O.Nodup/\∀ o∈O,0<=o/\o < (n:Int)
theorem DD:∀ (n:Nat)(O:List Int),O.Nodup->(∀ o∈O,0<=o/\o < (n:Int))->O.length<=n
 |0,O,_,h=>by
  cases O with
  |nil=>simp
  |cons a O=>have:=h a (by simp);omega
 |n+1,O,hd,h=>by
  have ih:=DD n (O.erase n) (hd.erase _) (fun o ho=>by
   have h1:=h o (List.mem_of_mem_erase ho);have h2:o≠n:=(hd.mem_erase_iff.1 ho).1
   omega)
  rw[List.length_erase] at ih
  split at ih <;> omega
theorem Ax.len{n:Nat}{O:List Int}(h:Ax n O):O.length<=n:=DD n O h.1 h.2
theorem WC{a:Int}:∀ {l:List Int}{k:Nat},ov a l k=none->a ∉ l
 | [],_,_=>by simp
 |b::l,k,h=>by
  simp only[ov] at h
  split at h
  ·cases h
  ·next I7=>simp only[bab,not_or];exact⟨I7,WC h⟩
def Xd(fb:List Int):List Nat->List Int×List Int->List Int×List Int
 | [],r=>r
 |x::xs,r=>Xd fb xs (Aj x (fb.getD x 0) r)
theorem jY{n:Nat}{x:Nat}{to:Int}{r:List Int×List Int}(A8:to < n)(h:Ax n r.1):Ax n (Aj x to r).1/\(Aj x to r).2.length=r.2.length/\∃ t,(Aj x to r).1=r.1++t:=by
 unfold Aj
 by_cases h0:to < 0
 ·rw[if_pos h0];exact⟨h,rfl,[],by simp⟩
 ·rw[taa h0]
  cases hi:ov to r.1 0 with
  |some k=>exact⟨h,by simp,[],by simp⟩
  |none=>
   have hn:=WC hi;refine⟨⟨?_,?_⟩,by simp,[to],rfl⟩
   ·simp only[List.nodup_append,h.1,true_and]
    refine⟨by simp,?_⟩;intro a ha b hb;simp at hb;subst hb;intro e;subst e;exact hn ha
   ·intro o ho
    rcases Naa.1 ho with h1 | h1
    ·exact h.2 o h1
    ·simp at h1;subst h1;omega
section
variable (call:Sa)(R0 R1:ba)(S:PV)(nl nr:Bool)(fr:Nat)(B7:List Al)(C:List Int)(n:Nat)(L M:ba)
theorem RO(O:List Int)(out:List PV)(no:Bool)(J:List ba)(k:Int)(fb:List Int)(q:Nat)(hq13:q=J.length+1+1+1+1+1+1+1+1+1+1+1+1+1)
 (hO:Ax n O) (hn:n<=64) (J7:fb.length=256) (A8:∀ to∈fb,to < n):
 ab (ma (oa call uc) (fun s=>some (tidy [0,2,3,4,5,6,7,31,32] s))) ua ⟨Wz q k O fb 0,yp R0 R1 S nl nr fr B7 C n L M O out no (J++[.box (La fb)])⟩=
  some (.exit 2,⟨(Wz q k (Xd fb (List.range 256) (O,fb)).1 fb 256).set 33 (.pv (.bool false)),
   yp R0 R1 S nl nr fr B7 C n L M (Xd fb (List.range 256) (O,fb)).1 out no (J++[.box (La (Xd fb (List.range 256) (O,fb)).2)])⟩)/\
  Ax n (Xd fb (List.range 256) (O,fb)).1/\(Xd fb (List.range 256) (O,fb)).2.length=256/\∃ t,(Xd fb (List.range 256) (O,fb)).1=O++t:=by
 generalize hxs:List.range 256=xs
 have key:=Zl (g:=ma (oa call uc) (fun s=>some (tidy [0,2,3,4,5,6,7,31,32] s)))
  (fun x t=>∃ r,Ax n r.1/\r.2.length=256/\(∃ t,r.1=O++t)/\t=⟨Wz q k r.1 fb x,yp R0 R1 S nl nr fr B7 C n L M r.1 out no (J++[.box (La r.2)])⟩/\Xd fb xs (O,fb)=Xd fb (xs.drop x) r)
  (fun ex t=>ex= .exit 2/\t=⟨(Wz q k (Xd fb xs (O,fb)).1 fb 256).set 33 (.pv (.bool false)),yp R0 R1 S nl nr fr B7 C n L M (Xd fb xs (O,fb)).1 out no (J++[.box (La (Xd fb xs (O,fb)).2)])⟩/\
   Ax n (Xd fb xs (O,fb)).1/\(Xd fb xs (O,fb)).2.length=256/\∃ t,(Xd fb xs (O,fb)).1=O++t)
  ua 256 0 ⟨Wz q k O fb (0:Nat),yp R0 R1 S nl nr fr B7 C n L M O out no (J++[.box (La fb)])⟩ (by unfold ua;omega) (by omega) ⟨(O,fb),hO,J7,⟨[],by simp⟩,rfl,rfl⟩ ?_ ?_
 ·obtain⟨ex,t,h,_,rfl,rfl,q1,q2⟩:=key
  exact⟨h,q1,q2⟩
 ·rintro x hx t ⟨⟨O',row⟩,hO',N8,⟨tl,Y9⟩,rfl,hl⟩
  have hd:=Zr hx;rw[hxs] at hd;obtain⟨to,ht⟩:∃ to,fb[x]? =some to:=⟨fb[x],by simp[J7,hx]⟩;have hgd:fb.getD x 0=to:=by simp[Caa,ht]
  have hlt:=A8 to (sab ht);rw[hd,Xd,hgd] at hl;have Ba:=jY (x:=x) (r:=(O',row)) hlt hO';refine .inl ⟨_,?_,Aj x to (O',row),Ba.1,by rw[Ba.2.1];exact N8,?_,rfl,hl⟩
  ·by_cases h0:to < 0
   ·have e:Aj x to (O',row)=(O',row):=by simp[Aj,h0]
    rw[e];exact PT call R0 R1 S nl nr fr B7 C n L M O' out no J k fb row x to q hx ht h0
   ·have hlen:=hO'.len
    cases hi:ov to O' 0 with
    |some j=>
     have e:Aj x to (O',row)=(O',row.set x j):=by simp[Aj,h0,hi]
     rw[e];exact cW call R0 R1 S nl nr fr B7 C n L M O' out no J k fb row x to q hx ht hq13 N8 h0 hi
    |none=>
     have e:Aj x to (O',row)=(O'++[to],row.set x O'.length):=by simp[Aj,h0,hi]
     rw[e];exact aW call R0 R1 S nl nr fr B7 C n L M O' out no J k fb row x to q hx ht hq13 N8 h0 hi (by simp only at hlen;omega)
  ·obtain⟨t2,h2⟩:=Ba.2.2
   exact⟨tl++t2,by rw[h2,<-Oab,<-Y9]⟩
 ·rintro t ⟨⟨O',row⟩,hO',N8,Y9,rfl,hl⟩
  rw[dac (by rw[<- hxs,mac];exact waa _),Xd] at hl;rw[hl];refine⟨.exit 2,_,?_,rfl,rfl,rfl,hO',N8,Y9⟩;have e1:decide (((256:Nat):Int) < 256)=false:=by decide
  simp -implicitDefEqProofs only[SP,SA,SQ,sevalprocAttr,-List.reduceReplicate,ma,uc,e1,Wz]
abbrev DC(k:Int)(O:List Int):Tr:=
 ((((((Tr.lf.set 6 (.pv (i64 k))).set 5 (.ptr 11 0)).set 4 (.uq 10 false 1 (O.map i64))).set 3 (.mp 9)).set 2 (.ptr 8 0)).set 0 (.ptr 3 0))
def Dg(C:List Int)(o:Int)(O:List Int):List Int×List Int:=Xd (Va C o.toNat) (List.range 256) (O,Va C o.toNat)
theorem VQ(O:List Int)(out:List PV)(no:Bool)(J:List ba)(k:Nat)(o:Int)
 (hC:C.length=n * 256) (cC:∀ c∈C,c < n) (hfr:fr<=n * 256) (hO:Ax n O) (hn:n<=64) (hk:O[k]? =some o) (y8:out.length=k):
 ma (oa call zd) (fun s=>some (tidy [0,2,3,4,5,6] s)) ⟨DC k O,yp R0 R1 S nl nr fr B7 C n L M O out no J⟩=
  some (.norm,⟨DC (k+1:Nat) (Dg C o O).1,yp R0 R1 S nl nr fr B7 C n L M (Dg C o O).1 (out++[Ee (xg (Dg C o O).2)]) false (J++[.box (La (Dg C o O).2)])⟩)/\
  Ax n (Dg C o O).1/\∃ t,(Dg C o O).1=O++t:=by
 have hom:=hO.2 o (sab hk)
 have hkl:=(qaa.1 hk).1
 have hOl:=hO.len
 have hoi:o.toNat < n:=by omega
 have hr0:=Fi hC hoi;obtain⟨U8,g1,g2,g3⟩:=RO call R0 R1 S nl nr fr B7 C n L M O out no J k (Va C o.toNat) _ rfl hO hn hr0 (fun to h=>cC to (bac (xac h)));refine⟨?_,g1,g3⟩;unfold Dg;generalize Xd (Va C o.toNat) (List.range 256) (O,Va C o.toNat)=r at *;obtain⟨O',row'⟩:=r;simp only at g1 g2 g3 U8;have hed:=ES row' g2;have hlen:(O.map i64).length=O.length:=by simp
 have e1:decide ((k:Int) < (O.length:Int))=true:=Ea (by omega);have t1:((k:Int)).toNat=k:=by simp
 have hq1:Ia (k:Int) O.length:=by unfold Ia;omega
 have hg:(O.map i64)[k]? =some (i64 o):=by rw[Faa,hk];rfl
 have hq3:Ia o n:=by unfold Ia;omega
 have w2:Ui 256 n fr (La C).length:=by rw[pb];unfold Ui;omega
 have w4:((La C).length=n * 256)=True:=by rw[pb];exact Laa hC
 have w6:(o.toNat * 256+256<=(La C).length)=True:=by rw[pb];exact Laa (by omega)
 have p1:=PF C o.toNat
 have t2:=Za (i:=k) (n:=64) (by omega) (by unfold maxLen;omega);have h9:((Va C o.toNat).map i64).map AV.pv=La (Va C o.toNat):=(Tu _).symm
 have hz:=I3;have p5:(256<=(La (List.replicate 256 0)).length)=True:=by rw[pb,cac];exact Laa (waa _)
 have p6:fa (La (List.replicate 256 0)) 0 (La (Va C o.toNat))=La (Va C o.toNat):=by have:=vA (La (Va C o.toNat)) (La (List.replicate 256 0)) [] (by rw[pb,pb,hr0,cac]);rw[cab,cab] at this;exact this
 generalize hzs:List.replicate 256 (0:Int)=zs at *
 generalize Va C o.toNat=fb at *
 have r0:((La fb).length=256)=True:=by rw[pb,hr0];exact eq_self _
 have r1:(256<=(La fb).length)=True:=by rw[pb,hr0];exact Laa (waa _)
 have r2:List.take 256 (La fb)=La fb:=Zaa (by rw[pb,hr0];exact waa _)
 have r3:=Cu fb;have r5:=OF fb;have s1:(256<=(La row').length)=True:=by rw[pb,g2];exact Laa (waa _)
 have s2:List.take 256 (La row')=La row':=Zaa (by rw[pb,g2];exact waa _)
 have s3:=Cu row';have q1:eb (out.length+1) 24:=by unfold eb;omega
 have L8:(out++[Ee (xg row')]).length=out.length+1:=by simp
 unfold yp;rw[L8];have n9:(∃ l,Ee (xg row')= .lit 3 l)\/Ee (xg row')= .ga:=by unfold Ee;split;exact .inr rfl;exact .inl ⟨_,rfl⟩
 generalize Ee (xg row')=ed at *;simp only[Wz,yp,Mi,tidy,Hc] at U8;simp -implicitDefEqProofs only[SP,SA,SQ,sevalprocAttr,-List.reduceReplicate,ma,zd,hlen,e1,Laa hq1,Laa hq3,t1,hg,Laa w2,w4,w6,p1,h9,hz,p5,p6,r0,r1,r2,r3,r5,Jq,cq,ta,yr,tidy,Hc,DC,Mi];rw[U8];rcases n9 with⟨l,rfl⟩ | rfl <;>
 simp -implicitDefEqProofs only[SP,SA,SQ,sevalprocAttr,-List.reduceReplicate,t2,s1,s2,s3,hed,Ng,Gc,Laa q1,Jq,cq,ta,tidy,Hc,DC,Mi,jj,AV.WE,AV.Tq]
def ak(C:List Int):Nat->List Int×List (List de)->List Int×List (List de)
 |0,r=>r
 |f+1,r=>match r.1[r.2.length]? with
  |none=>r
  |some o=>ak C f ((Dg C o r.1).1,r.2++[xg (Dg C o r.1).2])
theorem Sr{C:List Int}{f:Nat}{r:List Int×List (List de)}(h:r.1[r.2.length]? =none):ak C f r=r:=by
 cases f with
 |zero=>rfl
 |succ f=>rw[ak,h]
theorem Kt{C:List Int}{f:Nat}{r:List Int×List (List de)}{o:Int}(h:r.1[r.2.length]? =some o):ak C (f+1) r=ak C f ((Dg C o r.1).1,r.2++[xg (Dg C o r.1).2]):=by
 rw[ak,h]
def dp(C:List Int):List (List de):=(ak C 64 ([0],[])).2
def Kk(l:List (List de)):PV:= .lit 1 (l.map Ee)
theorem QJ(O:List Int)(out:List PV)(no:Bool)(J:List ba)(k:Nat)(hk:k=O.length):
 ma (oa call zd) (fun s=>some (tidy [0,2,3,4,5,6] s)) ⟨DC k O,yp R0 R1 S nl nr fr B7 C n L M O out no J⟩=
  some (.exit 0,⟨((((DC k O).set 15 (.pv (i64 k))).set 16 (.uq 10 false 1 (O.map i64))).set 17 (.pv (i64 O.length))).set 18 (.pv (.bool false)),yp R0 R1 S nl nr fr B7 C n L M O out no J⟩):=by
 have hlen:(O.map i64).length=O.length:=by simp
 have e1:decide ((k:Int) < (O.length:Int))=false:=Ga (by omega);simp -implicitDefEqProofs only[SP,SA,SQ,sevalprocAttr,-List.reduceReplicate,ma,zd,hlen,e1,DC,yp,Mi]
theorem rU(hC:C.length=n * 256)(cC:∀ c∈C,c < n)(hfr:fr<=n * 256)(hn:n<=64)(h0:0 < n):
 ∃ O J k,ab (ma (oa call zd) (fun s=>some (tidy [0,2,3,4,5,6] s))) ua ⟨DC 0 [0],yp R0 R1 S nl nr fr B7 C n L M [0] [] true []⟩=
  some (.exit 0,⟨((((DC k O).set 15 (.pv (i64 k))).set 16 (.uq 10 false 1 (O.map i64))).set 17 (.pv (i64 O.length))).set 18 (.pv (.bool false)),yp R0 R1 S nl nr fr B7 C n L M O ((dp C).map Ee) false J⟩):=by
 have key:=Zl (g:=ma (oa call zd) (fun s=>some (tidy [0,2,3,4,5,6] s)))
  (fun k t=>∃ (O:List Int)(out:List (List de))(J:List ba),Ax n O/\out.length=k/\k<=O.length/\0 < O.length/\t=⟨DC k O,yp R0 R1 S nl nr fr B7 C n L M O (out.map Ee) (k==0) J⟩/\ak C 64 ([0],[])=ak C (64 - k) (O,out))
  (fun ex t=>∃ (O:List Int)(J:List ba)(k:Nat),ex= .exit 0/\t=⟨((((DC k O).set 15 (.pv (i64 k))).set 16 (.uq 10 false 1 (O.map i64))).set 17 (.pv (i64 O.length))).set 18 (.pv (.bool false)),yp R0 R1 S nl nr fr B7 C n L M O ((dp C).map Ee) false J⟩)
  ua 64 0 ⟨DC (0:Nat) [0],yp R0 R1 S nl nr fr B7 C n L M [0] [] true []⟩ (by unfold ua;omega) (by omega)
   ⟨[0],[],[],⟨by simp,by intro o ho;simp at ho;omega⟩,rfl,by simp,by simp,rfl,rfl⟩ ?_ ?_
 ·obtain⟨ex,t,h,_,O,J,k,rfl,rfl⟩:=key
  exact⟨O,J,k,h⟩
 ·rintro k hk t ⟨O,out,J,hO,y8,hkO,hO0,rfl,hl⟩
  by_cases hlt:k < O.length
  ·obtain⟨o,ho⟩:∃ o,O[k]? =some o:=⟨O[k],by simp[hlt]⟩
   obtain⟨g1,g2,t,g3⟩:=VQ call R0 R1 S nl nr fr B7 C n L M O (out.map Ee) (k==0) J k o hC cC hfr hO hn ho (by simpa using y8);rw[show 64 - k=(64 - (k+1))+1 by omega,Kt (r:=(O,out)) (o:=o) (by show O[out.length]? =_;rw[y8];exact ho)] at hl;refine .inl ⟨_,g1,_,out++[xg (Dg C o O).2],J++[.box (La (Dg C o O).2)],g2,by simp[y8],?_,?_,?_,hl⟩
   ·rw[g3];simp;omega
   ·rw[g3];simp;omega
   ·have:(k+1==0)=false:=rfl
    rw[this];simp
  ·have hke:k=O.length:=by omega
   rw[Sr (r:=(O,out)) (by show O[out.length]? =none;rw[y8,hke];simp)] at hl;refine .inr ⟨.exit 0,_,QJ call R0 R1 S nl nr fr B7 C n L M O _ _ J k hke,rfl,O,J,k,rfl,?_⟩
   have:(k==0)=false:=by simp;omega
   rw[this,dp,hl]
 ·rintro t ⟨O,out,J,hO,y8,hkO,hO0,rfl,hl⟩
  have hke:64=O.length:=by have:=hO.len;omega
  rw[Sr (r:=(O,out)) (by show O[out.length]? =none;rw[y8,hke];simp)] at hl;refine⟨.exit 0,_,QJ call R0 R1 S nl nr fr B7 C n L M O _ _ J 64 hke,rfl,O,J,64,rfl,?_⟩;have:((64:Nat)==0)=false:=rfl;rw[this,dp,hl]
theorem cY(hC:C.length=n * 256)(cC:∀ c∈C,c < n)(hfr:fr<=n * 256)(hn:n<=64)(h0:0 < n):
 ∃ O J,ef call Oj [.ptr 3 0] (Mi R0 R1 S nl nr fr B7 C n [L,M])=
  some (.agg [.uq 12 false 1 ((dp C).map Ee)],Mi R0 R1 S nl nr fr B7 C n (L::M:: .box [.uq 12 false 1 ((dp C).map Ee)]:: .map (KN O 0):: .tok 1 O.length false:: .box [.uq 12 false 1 ((dp C).map Ee)]:: .tok 1 ((dp C).map Ee).length false::J)):=by
 obtain⟨O,J,k,hl⟩:=rU call R0 R1 S nl nr fr B7 C n L M hC cC hfr hn h0;refine⟨O,J,?_⟩;generalize (dp C).map Ee=out at *
 have T8:ab (ma (oa call zd) (fun s=>some ⟨((((((Tr.lf.set 6 (s.env.get 6)).set 5 (s.env.get 5)).set 4 (s.env.get 4)).set 3 (s.env.get 3)).set 2 (s.env.get 2)).set 0 (s.env.get 0)),s.H⟩)) ua
  ⟨((((((Tr.lf.set 6 (.pv (.int .i64 0))).set 5 (.ptr 11 0)).set 4 (.uq 10 false 1 [.int .i64 0])).set 3 (.mp 9)).set 2 (.ptr 8 0)).set 0 (.ptr 3 0)),[R0,R1,.map (AE B7 0),.box [.pv S,.mp 2,.uq 4 nl 2 (B7.map Si),.own 5 n],.tok 2 B7.length nl,.seq 256 true (La C) fr nr,L,M,.box [.pv .ga],.map [(.int .i64 0,.int .i64 0)],.tok 1 1 false,.box [.uq 12 true 1 []],.tok 1 0 true]⟩=_:=hl
 simp only[DC,yp,Mi] at T8;simp -implicitDefEqProofs only[SP,SA,SQ,sevalprocAttr,-List.reduceReplicate,Oj,fe,yr,tidy,Hc,qn,Ql,Us,Option.isSome_some,jj,AV.WE,AV.Tq,Mi];rw[T8];simp -implicitDefEqProofs only[SP,SA,SQ,sevalprocAttr,-List.reduceReplicate,Mi]
end
def Wr(n:Nat):Int:=IntKind.u32.wrap (IntKind.u32.wrap (1 * 2 ^ min n IntKind.u32.bits) - 1)
theorem dH(n:Nat):IntKind.u32.wrap (IntKind.u32.wrap (1 * 2 ^ min n IntKind.u32.bits) - 1)=Wr n:=rfl
theorem IG{n:Nat}(h:n<=32):Wr n=((2 ^ n - 1:Nat):Int):=by
 have:∀ n:Fin 33,Wr n.1=((2 ^ n.1 - 1:Nat):Int):=by decide
 exact this ⟨n,by omega⟩
theorem vR{a:Al}:∀ {l:List Al}{k i:Nat},Tm a l k=some i->i < k+l.length
 |b::l,k,i,h=>by
  simp only[Tm] at h
  split at h
  ·injection h with h;simp;omega
  ·have:=vR h;simp;omega
theorem VX{ss:List Ob}{a:Al}{x:Int}{B7:List Al}{r:List Al×Int}(h:rh ss a x B7=some r):r.2 < r.1.length:=by
 unfold rh at h
 split at h
 ·injection h with h;subst h;simp;omega
 ·split at h
  ·injection h with h;subst h;simp;omega
  ·split at h
   ·next k hk=>injection h with h;subst h;have:=vR hk;simp at this;simp;omega
   ·split at h
    ·injection h with h;subst h;simp;omega
    ·cases h
theorem aS{ss:List Ob}{a:Al}:∀ (xs:List Nat)(r r':List Al×List Int),r.1.length<=64->(∀ v∈r.2,v < r.1.length)->Vl ss a xs r=some r'->∀ v∈r'.2,v < r'.1.length
 | [],r,r',_,h,e=>by injection e with e;subst e;exact h
 |x::xs,r,r',hl,h,e=>by
  cases W7:rh ss a x r.1 with
  |none=>rw[Ku W7] at e;cases e
  |some p=>
   rw[Vu W7] at e;have hg:=nE W7 hl;refine aS xs (p.1,r.2.set x p.2) r' hg.1 ?_ e
   intro v hv;obtain⟨t,ht⟩:=hg.2
   rcases Nab hv with h1 | h1
   ·have h2:=h v h1
    have:r.1.length<=p.1.length:=by rw[ht];simp
    simp only;omega
   ·rw[h1];exact VX W7
theorem YN{ss:List Ob}(hw:ss.length<=32):∀ (k:Nat)(r r':List Al×List (List Int)),zo ss r.1->(∀ l∈r.2,∀ v∈l,v < r.1.length)->ph ss k r=some r'->(∀ l∈r'.2,∀ v∈l,v < r'.1.length)/\∃ t,r'.1=r.1++t
 |0,r,r',_,h,e=>by injection e with e;subst e;exact⟨h,[],by simp⟩
 |k+1,r,r',Ba,h,e=>by
  cases ha:r.1[r.2.length]? with
  |none=>rw[Iv ha] at e;injection e with e;subst e;exact⟨h,[],by simp⟩
  |some a=>
   cases hr:Vl ss a (List.range 256) (r.1,fb) with
   |none=>rw[uw ha hr] at e;cases e
   |some p=>
    rw[Sv ha hr] at e;obtain⟨g1,⟨t,g2⟩,g3⟩:=Vw hw (List.range 256) (r.1,fb) p Ba ha hr;have j8:0 < r.1.length:=by have:=(qaa.1 ha).1;omega
    have g4:=aS (List.range 256) (r.1,fb) p Ba.1 (by intro v hv;have:v=0:=Fad hv;simp only;omega) hr
    obtain⟨k1,t2,k2⟩:=YN hw k (p.1,r.2++[p.2]) r' g1 (by
     intro l hl v hv;rcases Naa.1 hl with h1 | h1
     ·have:=h l h1 v hv
      simp only[g2,Aaa] at this ⊢;omega
     ·simp at h1;subst h1;exact g4 v hv) e
    exact⟨k1,t++t2,by rw[k2,g2,Oab]⟩
theorem UC:∀ (rs:List (List Int)),La rs.flatten=rs.flatMap La
 | []=>rfl
 |r::rs=>by have:=UC rs;rw[aac,sH,rad,this]
def qh(ss:List Ob):List Al:=[(0,Wr ss.length)]
theorem FB{ss:List Ob}(hw:ss.length<=32)(I7:∀ s∈ss,0 < s.parts.length):zo ss (qh ss):=by
 refine⟨by simp[qh],?_⟩;intro k a ha
 match k,ha with
 |0,ha=>
  simp only[qh,jab,eaa] at ha;subst ha;refine⟨by simp,2 ^ ss.length - 1,IG hw,?_,?_⟩
  ·have:2 ^ ss.length<=2 ^ 32:=Nat.pow_le_pow_right (by decide) hw
   omega
  ·intro i s hs _
   exact I7 s (sab hs)
 |k+1,ha=>simp[qh] at ha
section
variable (R0 R1:ba)(S:PV)(ss:List Ob)
 (h0:qa 7 R0=some R0) (h1:qa 7 R1=some R1) (g0:qa 6 R0=some R0) (g1:qa 6 R1=some R1)
 (hS:Zh 2 S (ss.map uf)) (hw:ss.length<=32) (K7:∀ s∈ss,∀ l∈s.parts,l.length * 16<=140737488355328) (I7:∀ s∈ss,0 < s.parts.length)
include h0 h1 g0 g1 hS hw K7 I7
theorem EN:
 (∀ r,ph ss 64 (qh ss,[])=some r->∃ nl',ef (Da Fa 7) Vg [.ptr 3 0] (Hk R0 R1 S true [] (Eh []) 0 [])=some (.pv (.bool true),Hk R0 R1 S nl' r.1 (Eh r.2) r.2.length [])/\zo ss r.1/\r.2.length=r.1.length/\∀ r'∈r.2,r'.length=256)/\
 (ph ss 64 (qh ss,[])=none->∃ H,ef (Da Fa 7) Vg [.ptr 3 0] (Hk R0 R1 S true [] (Eh []) 0 [])=some (.pv (.bool false),H)/\H[0]? =some R0):=by
 have D7:=VT R0 R1 S false (qh ss) ss h0 h1 g0 g1 hS hw K7 (FB hw I7) (by simp[qh]);have ls:=hS.len
 simp only[paa] at ls;have O9:ef (Da Fa 6) ze [.ptr 3 0,.pv (.agg [.int .i64 0,.int .u32 (Wr ss.length)])] [R0,R1,.map (AE [] 0),.box [.pv S,.mp 2,.uq 4 true 2 [],.own 5 0],.tok 2 0 true,.seq 256 true [] 0 true]=some (.pv (.mc [.int .i64 0,.bool true]),Hk R0 R1 S false [(0,Wr ss.length)] (Eh []) 0 []):=
  wR (Da Fa 6) R0 R1 S true [] (Eh []) 0 [] (0,Wr ss.length) rfl (by simp)
 have n0:¬((ss.length:Int) < 0):=by omega
 have t1:((ss.length:Int)).toNat=ss.length:=by simp
 have e1:((ss.length:Int) < 0)=False:=eq_false n0;have q5:=Qy 6 6 [];simp only[Mae] at q5;simp only[Hk,Eh,Mae,List.isEmpty_nil] at O9;unfold Hk Eh;constructor
 ·intro r hr
  obtain⟨E,nl',hl,k1,k2,k3⟩:=D7.1 r hr
  refine⟨nl',?_,k1,k2,k3⟩;simp -implicitDefEqProofs only[SP,SA,SQ,sevalprocAttr,-List.reduceReplicate,Vg,ls,e1,t1,dH,Fa,Mae,O9,Db,na,Ca,Mn,Mo,Po,Au,Qa,AV.cut,Gc,h0,h1,g0,g1,q5,Hk];have T8:ab (ma (oa (Da Fa 7) yb) (na 6 [0,3])) ua ⟨(Tr.lf.set 3 (.pv (.int .i64 0))).set 0 (.ptr 3 0),[R0,R1,.map (AE [(0,Wr ss.length)] 0),.box [.pv S,.mp 2,.uq 4 false 2 [Si (0,Wr ss.length)],.own 5 0],.tok 2 1 false,.seq 256 true [] 0 true]⟩=_:=hl;rw[T8];simp -implicitDefEqProofs only[SP,SA,SQ,sevalprocAttr,-List.reduceReplicate,Hk,Eh]
 ·intro hr
  obtain⟨t,hl,k2,k3⟩:=Rt (D7.2 hr);refine⟨t.H,?_,k3⟩;simp -implicitDefEqProofs only[SP,SA,SQ,sevalprocAttr,-List.reduceReplicate,Vg,ls,e1,t1,dH,Fa,Mae,O9,Db,na,Ca,Mn,Mo,Po,Au,Qa,AV.cut,Gc,h0,h1,g0,g1,q5,Hk];have T8:ab (ma (oa (Da Fa 7) yb) (na 6 [0,3])) ua ⟨(Tr.lf.set 3 (.pv (.int .i64 0))).set 0 (.ptr 3 0),[R0,R1,.map (AE [(0,Wr ss.length)] 0),.box [.pv S,.mp 2,.uq 4 false 2 [Si (0,Wr ss.length)],.own 5 0],.tok 2 1 false,.seq 256 true [] 0 true]⟩=_:=hl;rw[T8];simp -implicitDefEqProofs only[SP,SA,SQ,sevalprocAttr,-List.reduceReplicate,k2]
end
def ig(ss:List Ob):Option (List (List de)):=
 (ph ss 64 (qh ss,[])).map fun r=>dp (mf r.2.length r.2.flatten).C
section
variable (S0 S:PV)(ss:List Ob)(hS0:S0= .ga\/∃ l,S0= .lit 2 l){y:Bool}{a b e:Int}
include hS0
theorem MS(he:e≠0)(hp:gf [.agg [S0]]=some (.mc [.agg [.bool y,i64 a,i64 b],i64 e])):
 Ic [.agg [S0]]=some (.mc [.agg [.ga],i64 e]):=by
 have e1:=mj he;rcases hS0 with rfl | ⟨l,rfl⟩ <;>
 simp -implicitDefEqProofs only[Ic,SP,SA,SQ,sevalprocAttr,-List.reduceReplicate,zm,hp,e1,bne,Ng,Gc]
theorem bY(hp:gf [.agg [S0]]=some (.mc [.agg [.bool false,i64 a,i64 b],i64 0])):
 Ic [.agg [S0]]=some (.mc [.agg [.ga],i64 110]):=by
 rcases hS0 with rfl | ⟨l,rfl⟩ <;>
 simp -implicitDefEqProofs only[Ic,SP,SA,SQ,sevalprocAttr,-List.reduceReplicate,zm,hp,bne,Ng,Gc]
variable (hp:gf [.agg [S0]]=some (.mc [.agg [.bool true,i64 a,i64 b],i64 0]))(hc:Gj [.agg [S0]]=some (.agg [S]))
 (hS:Zh 2 S (ss.map uf)) (hw:ss.length<=32) (K7:∀ s∈ss,∀ l∈s.parts,l.length * 16<=140737488355328) (I7:∀ s∈ss,0 < s.parts.length)
include hp hc hS hw K7 I7
theorem ZO(h:ig ss=none):Ic [.agg [S0]]=some (.mc [.agg [.ga],i64 130]):=by
 have hn:ph ss 64 (qh ss,[])=none:=by unfold ig at h;simpa using h
 obtain⟨H,hwk,hH⟩:=(EN (.box [.pv .ga]) (.box [.pv (.bool true),.pv (i64 a),.pv (i64 b)]) S ss rfl rfl rfl rfl hS hw K7 I7).2 hn
 have hb0:Hk (.box [.pv .ga]) (.box [.pv (.bool true),.pv (i64 a),.pv (i64 b)]) S true [] (Eh []) 0 []=[.box [.pv .ga],.box [.pv (.bool true),.pv (i64 a),.pv (i64 b)],.map [],.box [.pv S,.mp 2,.uq 4 true 2 [],.own 5 0],.tok 2 0 true,.seq 256 true [] 0 true]:=rfl;rw[hb0] at hwk;have hS2:S= .ga\/∃ l,S= .lit 2 l:=by rcases hS with⟨h,_⟩ | h;exact .inl h;exact .inr ⟨_,h⟩
 have Z9:∀ o,(H.set 0 o)[0]? =some o:=by
  intro o;cases H with
  |nil=>cases hH
  |cons x H=>rfl
 rcases hS0 with rfl | ⟨l,rfl⟩ <;> rcases hS2 with rfl | ⟨l2,rfl⟩ <;>
 simp -implicitDefEqProofs only[Ic,SP,SA,SQ,sevalprocAttr,-List.reduceReplicate,zm,hp,hc,hwk,hH,Z9,Fa,fe,jj,AV.WE,AV.Tq,bne,Ng,Gc]
theorem qW{l:List (List de)}(h:ig ss=some l):Ic [.agg [S0]]=some (.mc [.agg [Kk l],i64 0]):=by
 obtain⟨r,hn,hl⟩:∃ r,ph ss 64 (qh ss,[])=some r/\dp (mf r.2.length r.2.flatten).C=l:=by unfold ig at h;simpa using h
 obtain⟨nl,hwk,k1,k2,k3⟩:=(EN (.box [.pv .ga]) (.box [.pv (.bool true),.pv (i64 a),.pv (i64 b)]) S ss rfl rfl rfl rfl hS hw K7 I7).1 r hn
 have hb0:Hk (.box [.pv .ga]) (.box [.pv (.bool true),.pv (i64 a),.pv (i64 b)]) S true [] (Eh []) 0 []=[.box [.pv .ga],.box [.pv (.bool true),.pv (i64 a),.pv (i64 b)],.map [],.box [.pv S,.mp 2,.uq 4 true 2 [],.own 5 0],.tok 2 0 true,.seq 256 true [] 0 true]:=rfl;have H8:Hk (.box [.pv .ga]) (.box [.pv (.bool true),.pv (i64 a),.pv (i64 b)]) S nl r.1 (Eh r.2) r.2.length []=Mi (.box [.pv .ga]) (.box [.pv (.bool true),.pv (i64 a),.pv (i64 b)]) S nl r.2.isEmpty 0 r.1 r.2.flatten r.2.length []:=by unfold Hk Mi Eh;rw[UC]
 rw[hb0,H8] at hwk;have hlt:=YN hw 64 (qh ss,[]) r (FB hw I7) (by simp) hn;have j8:0 < r.1.length:=by obtain⟨t,ht⟩:=hlt.2;rw[ht];simp[qh]
 have hC:r.2.flatten.length=r.2.length * 256:=by have:=tF k3;rw[<- UC,pb] at this;exact this
 have cC:∀ c∈r.2.flatten,c < (r.2.length:Int):=by
  intro c hc;obtain⟨l,h1,h2⟩:=Lae.1 hc
  rw[k2];exact hlt.1 l h1 c h2
 have h64:r.2.length<=64:=by rw[k2];exact k1.1
 have h0:0 < r.2.length:=by omega
 obtain⟨fr,fk,v,hf,hls⟩:=QS (Da Fa 7) (.box [.pv .ga]) (.box [.pv (.bool true),.pv (i64 a),.pv (i64 b)]) S nl r.2.isEmpty r.1 r.2.flatten r.2.length h64 h0 k2.symm hC cC
 have Ba:T3 r.2.length (mf r.2.length r.2.flatten):=OG _ _ (waa _) ⟨hC,by simp,cC,by intro c hc;rw[Fad hc];omega,by simp⟩
 obtain⟨O,J,htd⟩:=cY (Da Fa 7) (.box [.pv .ga]) (.box [.pv (.bool true),.pv (i64 a),.pv (i64 b)]) S nl r.2.isEmpty fr r.1 (mf r.2.length r.2.flatten).C r.2.length (.seq 1 false (La (mf r.2.length r.2.flatten).Ac) fk false) (.map (Su (mf r.2.length r.2.flatten).M)) Ba.hC Ba.cC (by omega) h64 h0
 rw[hl] at htd;unfold Kk;generalize l.map Ee=out at *
 generalize mf r.2.length r.2.flatten=g at *
 simp only[Mi] at hwk hls htd;have hS2:S= .ga\/∃ l,S= .lit 2 l:=by rcases hS with⟨h,_⟩ | h;exact .inl h;exact .inr ⟨_,h⟩
 rcases hS0 with rfl | ⟨l,rfl⟩ <;> rcases hS2 with rfl | ⟨l2,rfl⟩ <;>
 simp -implicitDefEqProofs only[Ic,SP,SA,SQ,sevalprocAttr,-List.reduceReplicate,zm,hp,hc,hwk,hls,htd,Fa,fe,jj,AV.WE,AV.Tq,bne,Ng,Gc]
end
structure iq(v:PV)(l:List (Int×Int)):Prop where
 is:Zh 2 v (ae l)
 sz:l.length * 16<=140737488355328
structure xf(P:PV)(ls:List (List (Int×Int)))(ps:List PV):Prop where
 is:Zh 1 P ps
 len:ps.length=ls.length
 all:∀ (k:Nat) v l,ps[k]? =some v->ls[k]? =some l->iq v l
 sz:ls.length<=maxLen
structure fg(e:PV)(s:Ob)(P:PV)(ps:List PV):Prop where
 eq:e= .agg [P,i64 s.first]
 parts:xf P s.parts ps
structure qb(S:PV)(ss:List Ob)(es:List PV):Prop where
 is:Zh 2 S es
 len:es.length=ss.length
 all:∀ (k:Nat) e s,es[k]? =some e->ss[k]? =some s->∃ P ps,fg e s P ps
 sz:ss.length<=maxLen
theorem xf.get{P:PV}{ls:List (List (Int×Int))}{ps:List PV}(h:xf P ls ps){i:Nat}(hi:i < ls.length):∃ v,ps[i]? =some v/\P= .lit 1 ps/\iq v ls[i]:=by
 have h1:i < ps.length:=by rw[h.len];exact hi
 refine⟨ps[i],caa h1,h.is.lit (i:=i) h1,h.all i _ _ (caa h1) (caa hi)⟩
theorem qb.get{S:PV}{ss:List Ob}{es:List PV}(h:qb S ss es){i:Nat}(hi:i < ss.length):∃ e P ps,es[i]? =some e/\S= .lit 2 es/\fg e ss[i] P ps:=by
 have h1:i < es.length:=by rw[h.len];exact hi
 obtain⟨P,ps,hp⟩:=h.all i _ _ (caa h1) (caa hi)
 exact⟨es[i],P,ps,caa h1,h.is.lit (i:=i) h1,hp⟩
theorem xf.Tb{P:PV}{ls:List (List (Int×Int))}{ps:List PV}(h:xf P ls ps)(H:List ba):Tb H 0 (.pv P)=some ls.length:=by
 rw[h.is.len,h.len]
theorem qb.Tb{S:PV}{ss:List Ob}{es:List PV}(h:qb S ss es)(H:List ba):Tb H 0 (.pv S)=some ss.length:=by
 rw[h.is.len,h.len]
def Hd(l:List (Int×Int)):Prop:=l≠[]/\Pa 255 (-2) l=true
instance (l:List (Int×Int)):Decidable (Hd l):=by unfold Hd;infer_instance
def Xh:Int->List (List (Int×Int))->Int
 |n,[]=>n
 |n,l::r=>Xh (if 1073741825 < n * ib 0 l then 1073741825 else n * ib 0 l) r
def zi(s:Ob):Int:=s.first+Xh 1 s.parts - 1
theorem Xg{l:List (Int×Int)}(h:Hd l):1<=ib 0 l/\ib 0 l<=256:=by
 have:=(Dt h.2).2.1 h.1;omega
theorem Az{n s:Int}(h1:1<=n)(h2:n<=1073741825)(h3:1<=s)(h4:s<=256):1<=n * s/\n * s<=274877907200:=by
 constructor
 ·have:=Int.mul_le_mul h1 h3 (by omega) (by omega);omega
 ·have:=Int.mul_le_mul h2 h4 (by omega) (by omega);omega
theorem yn:∀ (ls:List (List (Int×Int)))(n:Int),(∀ l∈ls,Hd l)->1<=n->n<=1073741825->1<=Xh n ls/\Xh n ls<=1073741825
 | [],n,_,h1,h2=>⟨h1,h2⟩
 |l::r,n,h,h1,h2=>by
  have hs:=Xg (h l (by simp));have hm:=Az h1 h2 hs.1 hs.2
  rw[Xh];refine yn r _ (fun x hx=>h x (by simp[hx])) ?_ ?_ <;> split <;> omega
abbrev vN(row:List PV)(P:PV)(len i n:Int):Tr:=((((Tr.lf.set 9 (.pv (i64 i))).set 8 (.pv (i64 len))).set 7 (.pv P)).set 3 (.pv (i64 n))).set 1 (.pv (.rp row 0))
theorem MM{e:PV}{s:Ob}{P:PV}{ps:List PV}(h:fg e s P ps)(Ba:∀ l∈s.parts,Hd l)(hf:0<=s.first/\s.first<=1073741823):Lp [e]=some (i64 (zi s)):=by
 obtain⟨rfl,hP⟩:=h;have hb:=yn s.parts 1 Ba (by omega) (by omega)
 have K7:=hP.sz
 have D7:qd (fun r=>∃ E H,r=(.exit 0,⟨E,H⟩)/\E.get 3= .pv (i64 (Xh 1 s.parts))/\E.get 1= .pv (.rp [P,i64 s.first] 0))
  (ab (ma (oa (Da (fun _=>none) 8) Di) (na 0 [1,3,7,8,9])) ua ⟨vN [P,i64 s.first] P s.parts.length 0 1,[]⟩):=by
  refine wa (Gb (g:=ma (oa (Da (fun _=>none) 8) Di) (na 0 [1,3,7,8,9]))
   (fun i t=>∃ n,t=⟨vN [P,i64 s.first] P s.parts.length i n,[]⟩/\1<=n/\n<=1073741825/\Xh 1 s.parts=Xh n (s.parts.drop i))
   s.parts.length (by unfold ua;unfold maxLen at K7;omega) _ ⟨1,rfl,by omega,by omega,rfl⟩ ?_ ?_) (fun r h=>h.2)
  ·rintro i t hi ⟨n,rfl,h1,h2,hs⟩
   obtain⟨v,hv,hPl,S8⟩:=hP.get hi
   have hd:s.parts.drop i=s.parts[i]::s.parts.drop (i+1):=Waa hi
   have J8:=Ba s.parts[i] (saa hi)
   have hss:=Cy v s.parts[i] S8.is S8.sz J8.2
   have hsb:=Xg J8;rw[hd,Xh] at hs;generalize s.parts[i]=l at *
   have hm:=Az h1 h2 hsb.1 hsb.2
   have e1:decide ((i:Int) < (s.parts.length:Int))=true:=Ea (by omega);have t2:=Za hi K7;have t3:IntKind.i64.wrap (n * ib 0 l)=n * ib 0 l:=Aa (by omega)
   have hq:i < ps.length:=by rw[hP.len];exact hi
   have O7:v.cells=[v]:=by rcases S8.is with⟨h,_⟩ | h <;> rw[h] <;> rfl
   have a1:ta [] 1 (.pv P) (i:Int)=some (.pv (.rp [v] 0)):=by rw[hPl];simp only[ta];rw[if_pos (by unfold Ia;simp;omega),Eaa,hv];simp[O7]
   have a2:pa [] false 1 (.pv (.rp [v] 0))=some (.pv v):=rfl;generalize hQ:LN _ _ i=Q;simp -implicitDefEqProofs only[SX,sevalprocAttr,Di,e1,t2,t3,a1,a2,hss,cp,Ye,na,Ca,AV.cut,za,vN];subst hQ;exact⟨_,rfl,by split <;> omega,by split <;> omega,hs⟩
  ·rintro t ⟨n,rfl,h1,h2,hs⟩
   rw[Hab,Xh] at hs;have e1:decide ((s.parts.length:Int) < (s.parts.length:Int))=false:=Ga (by omega);generalize hQ:(fun r:Ex×St=>r.1.stop=true/\_)=Q;simp -implicitDefEqProofs only[SX,sevalprocAttr,Di,e1,vN];subst hQ;exact⟨rfl,_,_,rfl,by simp[Tr.aa,hs],by simp[Tr.aa]⟩
 obtain⟨r,h1,E,H,rfl,hE,hE1⟩:=wc D7;have ls:=hP.Tb
 simp only[vN] at h1;have s9:ab (ma (oa (Da (fun _=>none) 8) Di) (na 0 [1,3,7,8,9])) ua ⟨((((Tr.lf.set 9 (.pv (.int .i64 0))).set 8 (.pv (.int .i64 s.parts.length))).set 7 (.pv P)).set 3 (.pv (.int .i64 1))).set 1 (.pv (.rp [P,i64 s.first] 0)),[]⟩=some (.exit 0,⟨E,H⟩):=h1;unfold zi;generalize Xh 1 s.parts=n at *
 have t1:IntKind.i64.wrap (s.first+n)=s.first+n:=Aa (by omega)
 have t2:IntKind.i64.wrap (s.first+n - 1)=s.first+n - 1:=Aa (by omega)
 have hPv:∃ sz es,P= .ga\/P= .lit sz es:=by rcases hP.is with⟨h,_⟩ | h;exact⟨0,[],.inl h⟩;exact⟨_,_,.inr h⟩
 obtain⟨sz,es,rfl | rfl⟩:=hPv <;>;simp -implicitDefEqProofs only[Lp,SP,SA,SQ,WP,WQ,sevalprocAttr,Xt,Db,ls,s9,hE,hE1,t1,t2]
theorem aY(call:Sa){v:PV}{l:List (Int×Int)}(h:iq v l)(H:List ba):ef call Tk [.pv v] H=some (.pv (.bool (!decide (Hd l))),H):=by
 have ls:=h.is.len
 simp only[ae,paa] at ls;have hv:=FE v l h.is h.sz
 by_cases h0:l=[]
 ·have e1:((l.length:Int)==0)=true:=by simp[h0]
  have e2:(!decide (Hd l))=true:=by
   have:¬Hd l:=fun hp=>hp.1 h0
   simp[this]
  rw[e2];simp -implicitDefEqProofs only[SP,SA,SQ,WP,WQ,sevalprocAttr,Tk,ls,e1]
 ·have e1:((l.length:Int)==0)=false:=by
   have:l.length≠0:=fun e=>h0 (yaa e)
   exact mj (by omega)
  have e2:(!decide (Hd l))= !(Pa 255 (-2) l):=by
   congr 1
   rw[fae];simp[Hd,h0]
  rw[e2];simp -implicitDefEqProofs only[SP,SA,SQ,WP,WQ,sevalprocAttr,Tk,ls,e1,hv]
def dz(ls:List (List (Int×Int)))(i:Nat):Int:=
 match ls with
 | []=> -1
 |l::r=>if Hd l then dz r (i+1) else i
theorem UJ:∀ (ls:List (List (Int×Int)))(i:Nat),decide (dz ls i>=0)= !decide (∀ l∈ls,Hd l)
 | [],i=>by simp[dz]
 |l::r,i=>by
  rw[dz]
  by_cases h:Hd l
  ·rw[if_pos h,UJ r];simp[h]
  ·rw[taa h];simp[h]
abbrev JN(P:PV)(len i:Int):Tr:=(((Tr.lf.set 8 (.pv (i64 i))).set 7 (.pv (i64 len))).set 1 (.Ol 7 [])).set 0 (.pv P)
theorem pV{P:PV}{ls:List (List (Int×Int))}{ps:List PV}(hP:xf P ls ps)(d:Nat)(H:List ba)(hH:Vd H):
 ef (Da bc (d+1)) Cc [.pv P,.Ol 7 []] H=some (.pv (i64 (dz ls 0)),H):=by
 have K7:=hP.sz
 have lsn:=hP.Tb
 have C7:=Vd.cut hH
 have h7:bc 7=some Tk:=rfl;apply bl;have D7:qd (fun r=>∃ E,(r=(.exit 0,⟨E,H⟩)/\dz ls 0= -1)\/(r=(.ret,⟨E,H⟩)/\E.get 4= .pv (i64 (dz ls 0))))
  (ab (ma (oa (Da bc (d+1)) Lb) (na H.length [0,1,7,8])) ua ⟨JN P ls.length 0,H⟩):=by
  refine wa (Gb (g:=ma (oa (Da bc (d+1)) Lb) (na H.length [0,1,7,8]))
   (fun i t=>t=⟨JN P ls.length i,H⟩/\dz ls 0=dz (ls.drop i) i)
   ls.length (by unfold ua;unfold maxLen at K7;omega) _ ⟨rfl,rfl⟩ ?_ ?_) (fun r h=>h.2)
  ·rintro i t hi ⟨rfl,hs⟩
   obtain⟨v,hv,hPl,S8⟩:=hP.get hi
   have hd:ls.drop i=ls[i]::ls.drop (i+1):=Waa hi
   rw[hd,dz] at hs;have hn:=aY (Da bc d) S8 H;generalize ls[i]=l at *;have e1:decide ((i:Int) < (ls.length:Int))=true:=Ea (by omega);have t2:=Za hi K7;have hq:i < ps.length:=by rw[hP.len];exact hi
   have O7:v.cells=[v]:=by rcases S8.is with⟨h,_⟩ | h <;> rw[h] <;> rfl
   have a1:ta H 1 (.pv P) (i:Int)=some (.pv (.rp [v] 0)):=by rw[hPl];simp only[ta];rw[if_pos (by unfold Ia;simp;omega),Eaa,hv];simp[O7]
   have a2:pa H false 1 (.pv (.rp [v] 0))=some (.pv v):=rfl;generalize hQ:LN _ _ i=Q
   by_cases Ba:Hd l
   ·rw[if_pos Ba] at hs
    rw[decide_eq_true Ba] at hn;simp -implicitDefEqProofs only[SX,sevalprocAttr,Lb,e1,t2,a1,a2,h7,hn,C7,Fab,na,Ca,AV.cut,za,JN];subst hQ;exact⟨rfl,hs⟩
   ·rw[taa Ba] at hs
    rw[decide_eq_false Ba] at hn;simp -implicitDefEqProofs only[SX,sevalprocAttr,Lb,e1,t2,a1,a2,h7,hn,C7,Fab,na,Ca,AV.cut,za,JN];subst hQ;exact⟨_,.inr ⟨rfl,by simp[Tr.aa,hs]⟩⟩
  ·rintro t ⟨rfl,hs⟩
   rw[Hab,dz] at hs;have e1:decide ((ls.length:Int) < (ls.length:Int))=false:=Ga (by omega);generalize hQ:(fun r:Ex×St=>r.1.stop=true/\_)=Q;simp -implicitDefEqProofs only[SX,sevalprocAttr,Lb,e1,JN];subst hQ;exact⟨rfl,_,.inl ⟨rfl,hs⟩⟩
 simp -implicitDefEqProofs only[SX,sevalprocAttr,Cc,Db,lsn,C7,Fab,na,Ca,AV.cut,za];refine wa D7 ?_;rintro _ ⟨E,⟨rfl,hb⟩ | ⟨rfl,hE⟩⟩
 ·simp -implicitDefEqProofs only[SX,sevalprocAttr,hb]
 ·simp -implicitDefEqProofs only[SX,sevalprocAttr,hE]
theorem JB{P:PV}{ls:List (List (Int×Int))}{ps:List PV}(hP:xf P ls ps)(d:Nat)(H:List ba)(hH:Vd H):
 ef (Da bc (d+2)) Kb [.pv P,.Ol 7 []] H=some (.pv (.bool (!decide (∀ l∈ls,Hd l))),H):=by
 have h:=pV hP d H hH;have h5:bc 5=some Cc:=rfl;have hb:=UJ ls 0;simp -implicitDefEqProofs only[SX,sevalprocAttr,Kb,h5,h,hb]
end Go.AM.B1
