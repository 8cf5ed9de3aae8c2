/- What functions of the program compute. -/
import Derived.Test.YtijlhblleiaomaaGreatL2
import Derived.Test.YtijlhblleiaomaaGreatK3
import Derived.Test.YtijlhblleiaomaaGreatL1
set_option linter.unusedVariables false
set_option linter.unusedSimpArgs false
namespace Go.AM.B1
open Go.AM Go.AM.So
theorem bN:Oh=dc:=rfl
theorem LK:Ph=dc:=rfl
theorem iO:ri=dc:=rfl
def nG(p:Int×Int):List PV:=[i64 p.1,i64 p.2]
def Lf(l:List (Int×Int)):Array (List PV):=(l.map nG).toArray
def I4(r:List PV):Prop:=∃ p,r=nG p
theorem Jz(r:List PV)(h:I4 r):uW 2 r:=by
 obtain⟨p,rfl⟩:=h;exact⟨rfl,by intro c hc;simp[nG] at hc;rcases hc with rfl | rfl <;> rfl⟩
theorem iD(l:List (Int×Int)):∀ r∈(Lf l).toList,I4 r:=by
 intro r hr;simp[Lf] at hr;obtain⟨a,b,_,rfl⟩:=hr;exact⟨(a,b),rfl⟩
theorem gq(l:List (Int×Int)):(Lf l).size=l.length:=by simp[Lf]
def Ed(l:List (Int×Int))(fl:Nat)(nl:Bool):ba:=th 2 (Lf l) fl nl
theorem xj(l:List (Int×Int)):(Wh (Lf l)).length=l.length * 2:=by
 rw[qz fun r hr=>Jz r (iD l r hr),gq]
theorem VD{A:List ba}{id n fl bytes:Nat}{nl:Bool}{h:Yf}{l:List (Int×Int)}(hg:A[id]? =some (Ed l fl nl))(hn:n=l.length)(hr:eb (n+1) bytes)(p:Int×Int):
 Cb A true h 2 true bytes (.own id n) (.pv (.lit 2 [pr p]))=some (.own id (n+1),A.set id (Ed (l++[p]) fl false)):=by
 subst hn;have hl:=xj l;have e:Wh (Lf (l++[p]))=Wh (Lf l)++[.pv (i64 p.1),.pv (i64 p.2)]:=by simp[Wh,Lf,nG]
 simp only[Cb,if_true,hg,Ed,th,pk,Mf,Haa,yaa,flat,PV.cells,pr,wab,lab,Oad,Oaa,pab,e];rw[if_pos]
 ·simp
 ·exact⟨trivial,by omega,hr,rfl⟩
theorem bF(H:List ba)(d:Nat)(l:List PV):Ra (Tb H d) (l.map .pv)=some l:=by
 induction l with
 |nil=>rfl
 |cons a l ih=>simp only[lab,Ra,Ig,yaa,ih]
theorem RD:∀ (l:List (Int×Int)),chunk 2 true l.length ((l.map nG).flatten)=de l
 | []=>rfl
 |p::l=>by have ih:=RD l;simp only[Oaa,lab,Uab,chunk,if_true,nG] at ih ⊢;simp only[bab,Yaa,lad,List.take_zero,Wac,xac,de,lab];rw[ih]
theorem WU{A:List ba}{id n fl:Nat}{nl:Bool}{l:List (Int×Int)}(hg:A[id]? =some (Ed l fl nl))(hn:n=l.length)(d:Nat):Tb A (d+1) (.own id n)=some (if nl then .ga else .lit 2 (de l)):=by
 subst hn;have hl:=xj l;have e:Wh (Lf l)=((l.map nG).flatten).map .pv:=by simp[Wh,Lf]
 simp only[Tb,hg,Ed,th];rw[if_pos ⟨by omega,rfl⟩,e,bF];cases nl with
 |true=>rfl
 |false=>simp only[saa,if_false,Haa,RD]
theorem yA(A:List ba)(x y:AV)(p:Int×Int):Ha (A++[.box [x,y]]) 2 (.ptr A.length 0) (.pv (pr p))=some (A++[.box [.pv (i64 p.1),.pv (i64 p.2)]]):=by
 simp only[Ha,AV.cells,PV.cells,pr,lab,Oad,Oaa,pab,List.all,AV.one,Fk,Kp];simp[fa]
theorem mD(A:List ba)(p:Int×Int):pa (A++[.box [.pv (i64 p.1),.pv (i64 p.2)]]) true 2 (.ptr A.length 0)=some (.pv (pr p)):=by
 simp[pa,Kh,Kv,Tc]
theorem As(l:List (Int×Int))(fl:Nat)(nl:Bool)(n:Nat):qa n (Ed l fl nl)=some (Ed l fl nl):=Yy _ _ _ _ _
abbrev fR(v:PV)(id n len i:Nat):Tr:=(((Tr.lf.set 11 (.pv (i64 i))).set 10 (.pv (i64 len))).set 9 (.pv v)).set 3 (.own id n)
theorem zm(A:List ba){l:List (Int×Int)}{i:Nat}(hi:i < l.length):ta A 2 (.pv (.lit 2 (de l))) (i:Int)=some (.pv (.rp [i64 l[i].1,i64 l[i].2] 0)):=by
 have hg:=mr hi;simp only[ta];rw[if_pos (by unfold Ia;simp;omega),Daa,hg];rfl
theorem yW(A:List ba)(p:Int×Int):pa A true 2 (.pv (.rp [i64 p.1,i64 p.2] 0))=some (.pv (pr p)):=by
 simp[pa,Im]
theorem JQ(call:Sa)(v:PV)(l:List (Int×Int))(hv:Uh 2 v (de l))(hw:l.length * 16<=140737488355328)(H:List ba)(hH:Wd H):
 ef call ud [.pv v] H=some (.own H.length l.length,H++[Ed l 0 false]):=by
 have ls:=hv.len
 simp only[de,haa] at ls;have H7:H.length < H.length+1:=Qad _
 have hlen:∀ l',(H++[Ed l' 0 false]).length=H.length+1:=fun l'=>by simp
 have C7:∀ l',Ra (qa (H.length+1)) (H++[Ed l' 0 false])=some (H++[Ed l' 0 false]):=fun l'=>sm fun o ho=>by
  rcases Jaa.1 ho with h | h
  ·exact hH _ (by omega) o h
  ·simp at h;subst h;exact As _ _ _ _
 have D7:qd (fun r=>∃ E,r=(.exit 0,⟨E,H++[Ed l 0 false]⟩)/\E.get 3= .own H.length l.length)
  (Za (ma (oa call Lc) (na (H.length+1) [3,9,10,11])) ua ⟨fR v H.length 0 l.length 0,H++[Ed [] 0 false]⟩):=by
  refine wa (Fb (g:=ma (oa call Lc) (na (H.length+1) [3,9,10,11]))
   (fun i t=>t=⟨fR v H.length i l.length i,H++[Ed (l.take i) 0 false]⟩)
   l.length (by unfold ua;omega) _ rfl ?_ ?_) (fun r h=>h.2)
  ·rintro i t hi rfl
   have hv:=hv.lit (i:=i) (by simpa using hi)
   subst hv;have e1:decide ((i:Int) < (l.length:Int))=true:=Ea (by omega);have t2:=ab hi (by unfold maxLen;omega);have a1:=zm (H++[Ed (l.take i) 0 false]) hi;have l1:=yW (H++[Ed (l.take i) 0 false]) l[i];have s1:=yA (H++[Ed (l.take i) 0 false]) (.pv (i64 0)) (.pv (i64 0)) l[i];have l2:=mD (H++[Ed (l.take i) 0 false]) l[i];have s8:=VD (A:=H++[Ed (l.take i) 0 false]++[.box [.pv (i64 l[i].1),.pv (i64 l[i].2)]]) (id:=H.length) (n:=i) (h:= .own) (bytes:=16) (by rw[eaa (by simp)];exact Fk _ _) (by simp;omega) (by unfold eb;omega) l[i];rw[Cac _ _ (by simp),Kp,<-List.take_succ_eq_append_getElem hi] at s8;have o8:(H++[Ed (l.take (i+1)) 0 false]++[ba.box [.pv (i64 l[i].1),.pv (i64 l[i].2)]]).take (H.length+1)=H++[Ed (l.take (i+1)) 0 false]:=by rw[Kac (by simp),Saa (by simp)]
   have hc:=C7 (l.take (i+1));generalize l[i]=p at *;generalize hQ:LN _ _ i=Q;simp -implicitDefEqProofs only[SP,WP,fa,sevalprocAttr,Lc,e1,t2,a1,l1,s1,l2,s8,o8,hc,H7,na,Ca,AV.cut,za,fR];subst hQ;rfl
  ·rintro t rfl
   rw[sab];have e1:decide ((l.length:Int) < (l.length:Int))=false:=Ga (by omega);generalize hQ:(fun r:Ex×St=>r.1.stop=true/\_)=Q;simp -implicitDefEqProofs only[SX,sevalprocAttr,Lc,e1,fR];subst hQ;exact⟨rfl,_,rfl,by simp[Tr.aa]⟩
 have h2:(0:Int)<=(l.length:Int):=by omega
 have h3:eb l.length 16:=by unfold eb;omega
 have n0:(0:Int).toNat=0:=rfl
 have ho:ba.seq 2 true [] 0 false=Ed [] 0 false:=rfl
 apply Yk;simp -implicitDefEqProofs only[SX,sevalprocAttr,ud,Db,ls,Lac,Iaa h2,Iaa h3,n0,ho,hlen,C7,H7,Saa (show (H++[Ed [] 0 false]).length<=H.length+1 by simp),na,Ca,AV.cut,za];refine wa D7 ?_;rintro _ ⟨E,rfl,hE⟩;simp -implicitDefEqProofs only[SX,sevalprocAttr,hE]
theorem Ih{A:List ba}{id n sz bytes:Nat}{nl ag:Bool}{h:Yf}{es:List PV}(hg:A[id]? =some (.tok sz n nl))(hn:n=es.length)(hr:eb (n+1) bytes)(e:PV):
 Cb A false h sz ag bytes (.uq id nl sz es) (.pv (.lit sz [e]))=some (.uq id false sz (es++[e]),A.set id (.tok sz (n+1) false)):=by
 subst hn;simp only[Cb,saa,if_false,hg,Mf,if_true,yaa,Oaa,pab];rw[if_pos ⟨trivial,trivial,trivial,hr⟩];simp
abbrev eS(id n i tk:Nat)(nl:Bool)(es:List PV):Tr:=(((Tr.lf.set 11 (.pv (i64 i))).set 10 (.pv (i64 n))).set 9 (.own id n)).set 3 (.uq tk nl 2 es)
theorem uS{A:List ba}{id fl:Nat}{nl:Bool}{l:List (Int×Int)}(hg:A[id]? =some (Ed l fl nl))(hf:fl<=l.length * 2)(hA:Wd A):Hp id 2 I4 A (Lf l) A:=
 Hp.refl (fl:=fl) (nl:=nl) hA (by rw[gq];exact hf) hg (iD l)
theorem lH{l:List (Int×Int)}{i:Nat}(hi:i < l.length):(Lf l)[i]! =nG l[i]:=by
 rw[G5 (by rw[gq];exact hi)];simp[Lf]
theorem vV(call:Sa)(l:List (Int×Int)){id fl:Nat}{nl:Bool}(H:List ba)(hH:Wd H)(hg:H[id]? =some (Ed l fl nl))(hf:fl<=l.length * 2)(hw:l.length * 16<=140737488355328):
 ef call Nd [.own id l.length] H=some (.uq H.length false 2 (de l),H++[.tok 2 l.length false]):=by
 have hp:=uS hg hf hH;have H7:id < H.length:=hp.lt
 have cab:id < H.length+1:=by omega
 have o8:H.length < H.length+1:=Qad _
 have hl:=xj l;have hn:l.length=(Lf l).size:=(gq l).symm
 have hlen:∀ m b,(H++[ba.tok 2 m b]).length=H.length+1:=fun m b=>by simp
 have C7:∀ m b,Ra (qa (H.length+1)) (H++[ba.tok 2 m b])=some (H++[ba.tok 2 m b]):=fun m b=>sm fun o ho=>by
  rcases Jaa.1 ho with h | h
  ·exact hH _ (by omega) o h
  ·simp at h;subst h;rfl
 have hlA:∀ T,Sb (H++T) 0 (.own id l.length)=some l.length:=by intro T;rw[dB,eaa H7,hg];simp only[Ed,th];rw[if_pos];unfold Mi;omega
 have Iak:Sb H 0 (.own id l.length)=some l.length:=by have:=hlA [];rwa [wab] at this
 have D7:qd (fun r=>∃ E,r=(.exit 0,⟨E,H++[.tok 2 l.length false]⟩)/\E.get 3= .uq H.length false 2 (de l))
  (Za (ma (oa call Rc) (na (H.length+1) [3,9,10,11])) ua ⟨eS id l.length 0 H.length false [],H++[.tok 2 0 false]⟩):=by
  refine wa (Fb (g:=ma (oa call Rc) (na (H.length+1) [3,9,10,11]))
   (fun i t=>t=⟨eS id l.length i H.length false (de (l.take i)),H++[.tok 2 i false]⟩)
   l.length (by unfold ua;omega) _ rfl ?_ ?_) (fun r h=>h.2)
  ·rintro i t hi rfl
   have e1:decide ((i:Int) < (l.length:Int))=true:=Ea (by omega);have t2:=ab hi (by unfold maxLen;omega);have a1:=XJ [.tok 2 i false] H7 (hp.Pd Jz hn (i:=(i:Int)) rfl (by omega));have l1:=ON [.tok 2 i false] H7 (hp.load Jz hn (k:=i) (by omega));rw[lH hi] at l1;have l1':pa (H++[.tok 2 i false]) true 2 (.Fc id (l.length * 2) (i * 2))=some (.pv (pr l[i])):=l1;have s1:=yA (H++[.tok 2 i false]) (.pv (i64 0)) (.pv (i64 0)) l[i];have l2:=mD (H++[.tok 2 i false]) l[i];have s8:=Ih (A:=H++[.tok 2 i false]++[.box [.pv (i64 l[i].1),.pv (i64 l[i].2)]]) (id:=H.length) (n:=i) (h:= .uq) (ag:=true) (nl:=false) (sz:=2) (bytes:=16) (es:=de (l.take i)) (by rw[eaa (by simp)];exact Fk _ _) (by simp;omega) (by unfold eb;omega) (pr l[i]);have hs:de (l.take (i+1))=de (l.take i)++[pr l[i]]:=by rw[List.take_succ_eq_append_getElem hi];simp only[de,jac,lab,Oad]
   rw[Cac _ _ (by simp),Kp,<-hs] at s8;have w9:(H++[ba.tok 2 (i+1) false]++[ba.box [.pv (i64 l[i].1),.pv (i64 l[i].2)]]).take (H.length+1)=H++[ba.tok 2 (i+1) false]:=by rw[Kac (by simp),Saa (by simp)]
   have hc:=C7 (i+1) false;generalize l[i]=p at *;generalize Jak:de (l.take (i+1))=es' at *;generalize de (l.take i)=es at *;generalize hQ:LN _ _ i=Q;simp -implicitDefEqProofs only[SP,WP,fa,sevalprocAttr,Rc,e1,t2,a1,l1',s1,l2,s8,o8,w9,hc,cab,na,Ca,AV.cut,za,eS];subst hQ;subst Jak;rfl
  ·rintro t rfl
   rw[sab];have e1:decide ((l.length:Int) < (l.length:Int))=false:=Ga (by omega);generalize hQ:(fun r:Ex×St=>r.1.stop=true/\_)=Q;simp -implicitDefEqProofs only[SX,sevalprocAttr,Rc,e1,eS];subst hQ;exact⟨rfl,_,rfl,by simp[Tr.aa]⟩
 have h2:(0:Int)<=(l.length:Int):=by omega
 have h3:eb l.length 16:=by unfold eb;omega
 have n0:(0:Int).toNat=0:=rfl
 apply Yk;simp -implicitDefEqProofs only[SX,sevalprocAttr,Nd,Db,hlA,Iak,Lac,Iaa h2,Iaa h3,n0,hlen,C7,cab,o8,Saa (show (H++[ba.tok 2 0 false]).length<=H.length+1 by simp),na,Ca,AV.cut,za];refine wa D7 ?_;rintro _ ⟨E,rfl,hE⟩;simp -implicitDefEqProofs only[SX,sevalprocAttr,hE]
def Jk(x:Int)(l:List (Int×Int)):Prop:=∃ p∈l,p.1<=x/\x<=p.2
def xi:List (Int×Int)->List (Int×Int)->List (Int×Int)
 |out,[]=>out
 |out,r::rest=>match out.getLast? with
  |some q=>if r.1<=q.2+1 then xi (out.dropLast++[(q.1,if r.2 > q.2 then r.2 else q.2)]) rest else xi (out++[r]) rest
  |none=>xi (out++[r]) rest
theorem VI(r:Int×Int)(rest:List (Int×Int)):xi [] (r::rest)=xi [r] rest:=rfl
theorem oG{out rest:List (Int×Int)}{q r:Int×Int}(h:r.1<=q.2+1):xi (out++[q]) (r::rest)=xi (out++[(q.1,if r.2 > q.2 then r.2 else q.2)]) rest:=by
 rw[xi,List.getLast?_append];simp[h]
theorem oJ{out rest:List (Int×Int)}{q r:Int×Int}(h:¬r.1<=q.2+1):xi (out++[q]) (r::rest)=xi (out++[q]++[r]) rest:=by
 rw[xi,List.getLast?_append];simp[h]
section
variable {A:List ba}{id fl:Nat}{nl:Bool}{out:List (Int×Int)}{q:Int×Int}(hg:A[id]? =some (Ed (out++[q]) fl nl))(hf:fl<=(out.length+1) * 2)
include hg hf
theorem MQ:ta A 2 (.own id (out.length+1)) (out.length:Int)=some (.Fc id ((out.length+1) * 2) (out.length * 2)):=by
 have hl:=xj (out++[q]);rw[raa,Oaa,pab] at hl;simp only[ta,hg,Ed,th];rw[if_pos (by refine⟨trivial,?_,?_⟩ <;> first | (unfold Ia;omega) | (unfold Mi;omega))];simp
omit hf in
theorem sP:place A 1 (.Fc id ((out.length+1) * 2) (out.length * 2))=some (.Fc id ((out.length+1) * 2) (out.length * 2+1)):=by
 have hl:=xj (out++[q]);rw[raa,Oaa,pab] at hl;simp only[place,hg,Ed,th,hl,if_true]
omit hf in
theorem xT:pa A false 1 (.Fc id ((out.length+1) * 2) (out.length * 2+1))=some (.pv (i64 q.2)):=by
 have hl:=xj (out++[q]);rw[raa,Oaa,pab] at hl;simp only[pa,hg,Ed,th,hl,if_true,Kh,saa,if_false];have e:Wh (Lf (out++[q]))=Wh (Lf out)++[.pv (i64 q.1),.pv (i64 q.2)]:=by simp[Wh,Lf,nG]
 have S9:=xj out;rw[e,Kaa (by omega),S9];have:out.length * 2+1 - out.length * 2=1:=by omega
 rw[this];rfl
omit hf in
theorem UP(v:Int):Ha A 1 (.Fc id ((out.length+1) * 2) (out.length * 2+1)) (.pv (i64 v))=some (A.set id (Ed (out++[(q.1,v)]) ((out.length+1) * 2) nl)):=by
 have hl:=xj (out++[q]);rw[raa,Oaa,pab] at hl;have e:∀ q:Int×Int,Wh (Lf (out++[q]))=Wh (Lf out)++[.pv (i64 q.1),.pv (i64 q.2)]:=fun q=>by simp[Wh,Lf,nG]
 have S9:=xj out;have hs:fa (Wh (Lf (out++[q]))) (out.length * 2+1) [.pv (i64 v)]=Wh (Lf (out++[(q.1,v)])):=by
  rw[e,e,fa,fa,Jab _ _ (by omega),S9];have:out.length * 2+1 - out.length * 2=1:=by omega
  rw[this];rfl
 have hc:(AV.pv (i64 v)).cells=[.pv (i64 v)]:=rfl
 simp only[Ha,hg,Ed,th,hc];rw[if_pos ⟨rfl,rfl⟩,if_pos ⟨hl,by omega⟩,hs]
end
abbrev SD(id0 n i id1 m:Nat):Tr:=(((Tr.lf.set 11 (.pv (i64 i))).set 10 (.pv (i64 n))).set 9 (.own id0 n)).set 3 (.own id1 m)
def pQ(l:List (Int×Int)):Prop:=∀ p∈l,-4611686018427387904<=p.2/\p.2<=4611686018427387904
theorem VX{a b:List (Int×Int)}(ha:pQ a)(hb:pQ b):pQ (a++b):=by
 intro p hp;rcases Jaa.1 hp with h | h
 ·exact ha p h
 ·exact hb p h
theorem nU(call:Sa)(l:List (Int×Int))(hl:pQ l){id0 fl0:Nat}{nl0:Bool}(H:List ba)(hH:Wd H)(hg0:H[id0]? =some (Ed l fl0 nl0))(hf0:fl0<=l.length * 2)(hw:l.length<=1000000):
 qd (fun r=>∃ E fl nl,r=(.exit 0,⟨E,H++[Ed (xi [] l) fl nl]⟩)/\E.get 3= .own H.length (xi [] l).length/\fl<=(xi [] l).length * 2)
  (Za (ma (oa call Si) (na (H.length+1) [3,9,10,11])) ua ⟨SD id0 l.length 0 H.length 0,H++[Ed [] 0 true]⟩):=by
 have hp:=uS hg0 hf0 hH;have H7:id0 < H.length:=hp.lt
 have cab:id0 < H.length+1:=by omega
 have o8:H.length < H.length+1:=Qad _
 have hn:l.length=(Lf l).size:=(gq l).symm
 have C7:∀ a b c,Ra (qa (H.length+1)) (H++[Ed a b c])=some (H++[Ed a b c]):=fun a b c=>sm fun o ho=>by
  rcases Jaa.1 ho with h | h
  ·exact hH _ (by omega) o h
  ·simp at h;subst h;exact As _ _ _ _
 refine wa (Fb (g:=ma (oa call Si) (na (H.length+1) [3,9,10,11]))
  (fun i t=>∃ out fl nl,t=⟨SD id0 l.length i H.length out.length,H++[Ed out fl nl]⟩/\fl<=out.length * 2/\pQ out/\out.length<=i/\xi [] l=xi out (l.drop i))
  l.length (by unfold ua;omega) _ ⟨[],0,true,rfl,by omega,by intro p hp;simp at hp,by simp,rfl⟩ ?_ ?_) (fun r h=>h.2)
 ·rintro i t hi ⟨out,fl,nl,rfl,w8,hsa,hle,hs⟩
  have hd:l.drop i=l[i]::l.drop (i+1):=Paa hi
  rw[hd] at hs;have hsp:=hl l[i] (jaa hi);have e1:decide ((i:Int) < (l.length:Int))=true:=Ea (by omega);have t2:=ab hi (by unfold maxLen;omega);have a1:=XJ [Ed out fl nl] H7 (hp.Pd Jz hn (i:=(i:Int)) rfl (by omega));have l1:=ON [Ed out fl nl] H7 (hp.load Jz hn (k:=i) (by omega));rw[lH hi] at l1;have l1':pa (H++[Ed out fl nl]) true 2 (.Fc id0 (l.length * 2) (i * 2))=some (.pv (pr l[i])):=l1;have s1:=yA (H++[Ed out fl nl]) (.pv (i64 0)) (.pv (i64 0)) l[i];have l2:=mD (H++[Ed out fl nl]) l[i];have b0:∀ p:Int×Int,place (H++[Ed out fl nl]++[ba.box [.pv (i64 p.1),.pv (i64 p.2)]]) 0 (.ptr (H++[Ed out fl nl]).length 0)=some (.ptr (H++[Ed out fl nl]).length 0):=fun p=>by simp[place]
  have b1:∀ p:Int×Int,place (H++[Ed out fl nl]++[ba.box [.pv (i64 p.1),.pv (i64 p.2)]]) 1 (.ptr (H++[Ed out fl nl]).length 0)=some (.ptr (H++[Ed out fl nl]).length 1):=fun p=>by simp[place]
  have b2:∀ p:Int×Int,pa (H++[Ed out fl nl]++[ba.box [.pv (i64 p.1),.pv (i64 p.2)]]) false 1 (.ptr (H++[Ed out fl nl]).length 0)=some (.pv (i64 p.1)):=fun p=>by simp[pa,Kh]
  have b3:∀ p:Int×Int,pa (H++[Ed out fl nl]++[ba.box [.pv (i64 p.1),.pv (i64 p.2)]]) false 1 (.ptr (H++[Ed out fl nl]).length 1)=some (.pv (i64 p.2)):=fun p=>by simp[pa,Kh]
  have s8:=VD (A:=H++[Ed out fl nl]++[.box [.pv (i64 l[i].1),.pv (i64 l[i].2)]]) (id:=H.length) (n:=out.length) (h:= .own) (bytes:=16) (by rw[eaa (by simp)];exact Fk _ _) rfl (by unfold eb;omega) l[i];rw[Cac _ _ (by simp),Kp] at s8;have w9:∀ (o o2:ba),(H++[o]++[o2]).take (H.length+1)=H++[o]:=fun o o2=>by rw[Kac (by simp),Saa (by simp)]
  have hlen:Sb (H++[Ed out fl nl]++[.box [.pv (i64 l[i].1),.pv (i64 l[i].2)]]) 0 (.own H.length out.length)=some out.length:=by rw[dB,eaa (by simp),Fk];have:=xj out;simp only[Ed,th];rw[if_pos];unfold Mi;omega
  rcases Uad out with rfl | ⟨out,q,rfl⟩
  ·have hz:decide (((0:Nat):Int) > 0)=false:=by decide
   rw[VI] at hs;rw[pab] at s8 hlen;rw[Zaa,Yaa] at s8;generalize l[i]=p at *;generalize hQ:LN _ _ i=Q;simp -implicitDefEqProofs only[SP,WP,fa,sevalprocAttr,Si,e1,t2,a1,l1',s1,l2,hlen,hz,s8,w9,C7,cab,o8,na,Ca,AV.cut,za,SD];subst hQ;exact⟨[p],fl,false,rfl,by simp at w8 ⊢;omega,by intro x hx;simp at hx;subst hx;exact hsp,by simp,hs⟩
  ·rw[Vad] at *
   have hql:=hsa q (by simp);have hol:(out++[q]).length=out.length+1:=by simp
   have hg1:(H++[Ed (out++[q]) fl nl]++[ba.box [.pv (i64 l[i].1),.pv (i64 l[i].2)]])[H.length]? =some (Ed (out++[q]) fl nl):=by rw[eaa (by simp)];exact Fk _ _
   have c1:=MQ hg1 (by rw[hol] at w8;exact w8);have c2:=sP hg1;have c3:=xT hg1;have c4:=UP hg1 (if l[i].2 > q.2 then l[i].2 else q.2);rw[Cac _ _ (by simp),Kp] at c4;have t3:IntKind.i64.wrap (((out.length+1:Nat):Int) - 1)=(out.length:Int):=by rw[Aa (by omega)];omega
   have t4:IntKind.i64.wrap (q.2+1)=q.2+1:=Aa (by omega)
   have hz:decide (((out.length+1:Nat):Int) > 0)=true:=Ea (by omega);rw[hol] at hlen s8 w8 hle
   by_cases hj:l[i].1<=q.2+1
   ·have e2:decide (l[i].1<=q.2+1)=true:=Ea hj
    rw[oG hj] at hs;generalize l[i]=p at *;generalize hmx:(if p.2 > q.2 then p.2 else q.2)=mx at *;generalize hQ:LN _ _ i=Q;simp -implicitDefEqProofs only[SP,WP,fa,sevalprocAttr,Si,e1,t2,a1,l1',s1,l2,hol,hlen,hz,b0,b1,b2,b3,c1,c2,c3,c4,t3,t4,e2,Zo,We,hmx,w9,C7,cab,o8,na,Ca,AV.cut,za,SD];subst hQ;refine⟨out++[(q.1,mx)],(out.length+1) * 2,nl,by simp[SD,hol],by simp,?_,by simp;omega,hs⟩;intro x hx;rcases Jaa.1 hx with h | h
    ·exact hsa x (by simp[h])
    ·simp at h;subst h
     rw[<- hmx];split <;> simp only <;> omega
   ·have e2:decide (l[i].1<=q.2+1)=false:=Ga hj
    rw[oJ hj] at hs;generalize l[i]=p at *;generalize hQ:LN _ _ i=Q;simp -implicitDefEqProofs only[SP,WP,fa,sevalprocAttr,Si,e1,t2,a1,l1',s1,l2,hol,hlen,hz,b0,b1,b2,b3,c1,c2,c3,t3,t4,e2,s8,w9,C7,cab,o8,na,Ca,AV.cut,za,SD];subst hQ;refine⟨out++[q]++[p],fl,false,by simp[SD],by simp;omega,?_,by simp;omega,hs⟩;exact VX hsa (by intro x hx;simp at hx;subst hx;exact hsp)
 ·rintro t ⟨out,fl,nl,rfl,w8,hsa,hle,hs⟩
  rw[vab,xi] at hs;have e1:decide ((l.length:Int) < (l.length:Int))=false:=Ga (by omega);generalize hQ:(fun r:Ex×St=>r.1.stop=true/\_)=Q;simp -implicitDefEqProofs only[SX,sevalprocAttr,Si,e1,SD];subst hQ;rw[hs];exact⟨rfl,_,fl,nl,rfl,by simp[Tr.aa],w8⟩
def RA(last:Int)(a:List (Int×Int)):Int:=(a.getLast?.map (·.2)).getD last
theorem MN(last:Int)(p:Int×Int)(a:List (Int×Int)):RA last (p::a)=RA p.2 a:=by
 cases a with
 |nil=>rfl
 |cons q a=>simp[RA,List.getLast?_cons]
theorem uN(last:Int)(a:List (Int×Int))(q:Int×Int):RA last (a++[q])=q.2:=by simp[RA]
theorem tw(top:Int):∀ (a b:List (Int×Int))(last:Int),Pa top last (a++b)=(Pa top last a&&Pa top (RA last a) b)
 | [],b,last=>by simp[Pa,RA]
 |p::a,b,last=>by rw[bab,Pa,Pa,tw top a b p.2,MN,Bool.and_assoc]
theorem Yr{top last:Int}{p:Int×Int}:Pa top last [p]=true↔0<=p.1/\p.1<=p.2/\p.2<=top/\last < p.1 - 1:=by
 simp only[Pa,aae,oac,Gad,decide_eq_false_iff_not];constructor <;> intro h <;> refine⟨?_,?_⟩ <;> omega
theorem jv(x:Int)(a b:List (Int×Int)):Jk x (a++b)↔Jk x a\/Jk x b:=by
 unfold Jk;simp only[Jaa];constructor
 ·rintro⟨p,h | h,hp⟩
  ·exact .inl ⟨p,h,hp⟩
  ·exact .inr ⟨p,h,hp⟩
 ·rintro (⟨p,h,hp⟩ | ⟨p,h,hp⟩)
  ·exact⟨p,.inl h,hp⟩
  ·exact⟨p,.inr h,hp⟩
theorem fq(x:Int)(p:Int×Int):Jk x [p]↔p.1<=x/\x<=p.2:=by
 unfold Jk;simp
theorem Qn(x:Int):¬Jk x []:=by unfold Jk;simp
theorem cn(x:Int)(p:Int×Int)(l:List (Int×Int)):Jk x (p::l)↔(p.1<=x/\x<=p.2)\/Jk x l:=by
 unfold Jk;simp
theorem EC{top:Int}:∀ (rest out:List (Int×Int))(q:Int×Int),Pa top (-2) (out++[q])=true->(∀ p∈rest,0<=p.1/\p.1<=p.2/\p.2<=top/\q.1<=p.1)->rest.Pairwise (fun p q=>p.1<=q.1)->
 Pa top (-2) (xi (out++[q]) rest)=true/\(∀ x,Jk x (xi (out++[q]) rest)↔Jk x (out++[q])\/Jk x rest)/\(xi (out++[q]) rest).length<=out.length+1+rest.length
 | [],out,q,hv,_,_=>by rw[xi];exact⟨hv,fun x=>by simp[Qn],by simp⟩
 |r::rest,out,q,hv,hr,hs=>by
  have h1:=hr r (by simp);rw[Sad] at hs;have hv':=hv;rw[tw,baa,Yr] at hv'
  by_cases hj:r.1<=q.2+1
  ·rw[oG hj]
   have ih:=EC rest out (q.1,if r.2 > q.2 then r.2 else q.2) (by
    rw[tw,baa,Yr];refine⟨hv'.1,hv'.2.1,?_,?_,hv'.2.2.2.2⟩ <;> simp only <;> split <;> omega) (fun p hp=>by have:=hr p (by simp[hp]);exact⟨this.1,this.2.1,this.2.2.1,this.2.2.2⟩) hs.2
   refine⟨ih.1,fun x=> ?_,by have:=ih.2.2;simp only[Oaa];omega⟩;rw[ih.2.1,jv,jv,fq,fq,cn];have e:(q.1<=x/\x<=(if r.2 > q.2 then r.2 else q.2))↔(q.1<=x/\x<=q.2)\/(r.1<=x/\x<=r.2):=by
    split <;> constructor <;> intro h <;> omega
   simp only[e];constructor
   ·rintro ((h | h | h) | h)
    ·exact .inl (.inl h)
    ·exact .inl (.inr h)
    ·exact .inr (.inl h)
    ·exact .inr (.inr h)
   ·rintro ((h | h) | h | h)
    ·exact .inl (.inl h)
    ·exact .inl (.inr (.inl h))
    ·exact .inl (.inr (.inr h))
    ·exact .inr h
  ·rw[oJ hj]
   have ih:=EC rest (out++[q]) r (by
    rw[tw,baa,Yr,uN];exact⟨hv,h1.1,h1.2.1,h1.2.2.1,by omega⟩) (fun p hp=>by have h2:=hr p (by simp[hp]);exact⟨h2.1,h2.2.1,h2.2.2.1,hs.1 p hp⟩) hs.2
   refine⟨ih.1,fun x=> ?_,by have:=ih.2.2;simp only[Oaa,raa,pab] at this ⊢;omega⟩;rw[ih.2.1,jv,fq,cn];constructor
   ·rintro ((h | h) | h)
    ·exact .inl h
    ·exact .inr (.inl h)
    ·exact .inr (.inr h)
   ·rintro (h | h | h)
    ·exact .inl (.inl h)
    ·exact .inl (.inr h)
    ·exact .inr h
theorem yV{top:Int}(l:List (Int×Int))(hr:∀ p∈l,0<=p.1/\p.1<=p.2/\p.2<=top)(hs:l.Pairwise (fun p q=>p.1<=q.1)):
 Pa top (-2) (xi [] l)=true/\(∀ x,Jk x (xi [] l)↔Jk x l)/\(xi [] l).length<=l.length:=by
 cases l with
 |nil=>exact⟨rfl,fun x=>Iff.rfl,paa _⟩
 |cons r rest=>
  rw[VI];have h1:=hr r (by simp);rw[Sad] at hs;have:=EC rest [] r (by rw[Yaa,Yr];exact⟨h1.1,h1.2.1,h1.2.2,by omega⟩) (fun p hp=>by have h2:=hr p (by simp[hp]);exact⟨h2.1,h2.2.1,h2.2.2,hs.1 p hp⟩) hs.2
  rw[Yaa] at this;refine⟨this.1,fun x=> ?_,by have:=this.2.2;simp at this ⊢;omega⟩;rw[this.2.1,fq,cn]
theorem Bs{top:Int}:∀ {l:List (Int×Int)}{last:Int},Pa top last l=true->∀ p∈l,0<=p.1/\p.1<=p.2/\p.2<=top
 |q::l,last,h,p,hp=>by
  obtain⟨h1,h2,h3,h4,h5⟩:=Uc h;rcases Xaa.1 hp with rfl | hp
  ·exact⟨by omega,by omega,by omega⟩
  ·exact Bs h5 p hp
theorem PB:∀ (l:List (Int×Int)),Wh (Lf l)=jg (l.flatMap fun p=>[p.1,p.2])
 | []=>rfl
 |p::l=>by have h:=PB l;simp only[Wh,Lf,jg] at h ⊢;simp[nG,h]
theorem LH:∀ (l:List (Int×Int)),ni 2 l.length (l.flatMap fun p=>[p.1,p.2])=l.map fun p=>[p.1,p.2]
 | []=>rfl
 |p::l=>by rw[Oaa,ni,Yac,lab,<-LH l];rfl
theorem aV{l:List (Int×Int)}(hw:l.length < 50){H:List ba}{id fl:Nat}{nl:Bool}(hg:H[id]? =some (Ed l fl nl)):
 ∃ l',l'.Perm l/\l'.Pairwise (fun p q=>p.1<=q.1)/\nC 2 0 23 [.own id l.length,.Ml 23 []] H=some (.pv (.mc []),H.set id (Ed l' (l.length * 2) nl)):=by
 obtain⟨s1,s2,s3⟩:=SB 2 0 (l.map fun p=>[p.1,p.2]).toArray
 have hso:∀ F,rF (Wh (Lf l))=some F->ni 2 l.length F=l.map fun p=>[p.1,p.2]:=by
  intro F hF;rw[PB,Ov] at hF;injection hF with hF
  rw[<- hF,LH]
 generalize hE:Dq 2 0 (l.map fun p=>[p.1,p.2]).toArray=E at *
 have hEl:∃ l':List (Int×Int),E.toList=l'.map fun p=>[p.1,p.2]:=by
  have key:∀ (L:List (List Int)),(∀ r∈L,∃ p:Int×Int,r=[p.1,p.2])->∃ l':List (Int×Int),L=l'.map fun p=>[p.1,p.2]:=by
   intro L
   induction L with
   |nil=>intro _;exact⟨[],rfl⟩
   |cons r L ih=>intro h;obtain⟨p,rfl⟩:=h r (by simp);obtain⟨l',rfl⟩:=ih fun x hx=>h x (by simp[hx]);exact⟨p::l',rfl⟩
  refine key _ fun r hr=> ?_;have:=s2.mem_iff.1 hr
  simp only[fab] at this;obtain⟨p,_,rfl⟩:=this;exact⟨p,rfl⟩
 obtain⟨l',Z8⟩:=hEl;have hs:E.size=l.length:=by rw[s1];simp
 have hll:l'.length=l.length:=by rw[<- hs,<-qad,Z8,haa]
 refine⟨l',?_,?_,?_⟩
 ·rw[Z8] at s2
  have:=s2.map fun r=>(r.getD 0 0,r.getD 1 0)
  simpa[jad,Function.comp_def] using this
 ·rw[Vac]
  intro i j hi hj hij;have h:=s3 i j hij (by simp;omega);have hg:∀ q (hq:q < l'.length),cz 2 0 E[q]! =l'[q].1:=by
   intro q hq;have h1:q < E.size:=by omega
   have:E[q]=[l'[q].1,l'[q].2]:=by
    have h2:E.toList[q]? =some [l'[q].1,l'[q].2]:=by rw[Z8,Eaa,aaa hq];rfl
    rw[Array.getElem?_toList,xad h1] at h2;exact vad h2
   rw[getElem!_pos E q h1,this];rfl
  rw[hg i hi,hg j hj] at h;omega
 ·have w8:=xj l
  unfold nC;simp only[hg,Ed,th];rw[if_pos ⟨trivial,trivial,by rw[w8],by omega⟩];have hF:=PB l;have hI:=Ov (l.flatMap fun p=>[p.1,p.2]);rw[<- hF] at hI;rw[hI,Haa,hso _ hI,hE,Z8,w8];have e:jg (List.map (fun p:Int×Int=>[p.1,p.2]) l').flatten=Wh (Lf l'):=by rw[PB,List.flatMap_def]
  rw[e]
theorem eT(d:Nat)(args:List AV)(H:List ba):si ll Hb (d+1) 22 args H=nC 2 0 23 args H:=rfl
theorem QX(l:List (Int×Int))(hl:pQ l){id0 fl0:Nat}{nl0:Bool}(H:List ba)(hH:Wd H)(hg0:H[id0]? =some (Ed l fl0 nl0))(hf0:fl0<=l.length * 2)(hw:l.length < 50):
 qd (fun r=>∃ l' fl nl,l'.Perm l/\l'.Pairwise (fun p q=>p.1<=q.1)/\r.1= .own (r.2.length - 1) (xi [] l').length/\Wd r.2/\r.2[r.2.length - 1]? =some (Ed (xi [] l') fl nl)/\fl<=(xi [] l').length * 2)
  (ef (si ll Hb 7) pq [.own id0 l.length] H):=by
 obtain⟨l',X7,hps,Y7⟩:=aV hw hg0;have Qaf:=(iaa.1 hg0).1
 have hs2:l'.length=l.length:=X7.length_eq
 have hg:(H.set id0 (Ed l' (l.length * 2) nl0))[id0]? =some (Ed l' (l.length * 2) nl0):=Maa Qaf;have hgd:Wd (H.set id0 (Ed l' (l.length * 2) nl0)):=by
  intro n hn o ho;rcases Aab ho with h | h
  ·exact hH n (by simpa using hn) o h
  ·subst h;exact As _ _ _ _
 have w8:l.length * 2<=l'.length * 2:=by omega
 simp -implicitDefEqProofs only[SX,sevalprocAttr,pq,eT,Y7];generalize H.set id0 (Ed l' (l.length * 2) nl0)=H2 at *
 have Z8:pQ l':=fun p hpp=>hl p (X7.mem_iff.1 hpp);have hlp:=nU (si ll Hb 7) l' Z8 H2 hgd hg w8 (by omega);rw[hs2] at hlp;have hlen:Sb (H2++[Ed [] 0 true]) 0 (.own id0 l.length)=some l.length:=by
  have H7:id0 < H2.length:=(iaa.1 hg).1
  have:=xj l';rw[dB,eaa H7,hg];simp only[Ed,th];unfold Wh at this ⊢;rw[if_pos];unfold Mi;omega
 have hg2:H2.length < H2.length+1:=Qad _
 have cab:id0 < H2.length+1:=by have:=(iaa.1 hg).1;omega
 have gac:Wd (H2++[Ed [] 0 true]):=by
  intro n hn o ho;rcases Jaa.1 ho with h | h
  ·exact hgd n (by simp at hn;omega) o h
  ·simp at h;subst h;exact As _ _ _ _
 have C7:=Wd.cut gac
 have C8:(H2++[Ed [] 0 true]).length=H2.length+1:=by simp
 rw[C8] at C7;have hz:(0 < 2)=True:=by simp
 have ho:ba.seq 2 true [] 0 true=Ed [] 0 true:=rfl
 simp -implicitDefEqProofs only[SX,sevalprocAttr,Db,fe,hz,ho,hlen,C8,C7,hg2,cab,Saa (show (H2++[Ed [] 0 true]).length<=H2.length+1 by simp),na,Ca,AV.cut,za];refine wa hlp ?_;rintro _ ⟨E,fl2,nl2,rfl,hE,dag⟩;simp -implicitDefEqProofs only[SX,sevalprocAttr,hE];refine⟨l',fl2,nl2,X7,hps,by simp,?_,by simp,dag⟩;intro n hn o ho;rcases Jaa.1 ho with h | h
 ·exact hgd n (by simp at hn;omega) o h
 ·simp at h;subst h;exact As _ _ _ _
abbrev WA:Int:=1073741823
theorem zV{A:List ba}{id1 id2 n1 n2 f1 f2 bytes:Nat}{k1 k2:Bool}{h:Yf}{a b:List (Int×Int)}(h1:A[id1]? =some (Ed a f1 k1))(h2:A[id2]? =some (Ed b f2 k2))(hn1:n1=a.length)(hn2:n2=b.length)(hr:eb (n1+n2) bytes):
 ∃ k,Cb A true h 2 true bytes (.own id1 n1) (.own id2 n2)=some (.own id1 (n1+n2),A.set id1 (Ed (a++b) f1 k)):=by
 subst hn1 hn2;have la:=xj a;have lb:=xj b;have e:Wh (Lf (a++b))=Wh (Lf a)++Wh (Lf b):=by simp[Wh,Lf]
 have S7:(Wh (Lf b)).all AV.one=true:=by
  rw[Taa];intro v hv;obtain⟨c,hc,rfl⟩:=fab.1 hv
  rw[Hae] at hc;obtain⟨r,hr,hc⟩:=hc;exact (Jz r (iD b r hr)).2 c hc
 refine⟨k1&&(b.length==0),?_⟩;simp only[Cb,if_true,h1,Ed,th,pk,h2,e];rw[if_pos ⟨trivial,by omega⟩];simp only[yaa];rw[if_pos ⟨trivial,by omega,hr,S7⟩]
theorem lr(v:PV)(l:List (Int×Int))(hv:Uh 2 v (de l))(hw:l.length * 16<=140737488355328)(N7:Pa WA (-2) l=true)(H:List ba)(hH:Wd H):
 ef (si ll Hb 7) qj [.pv v] H=some (.own H.length l.length,H++[Ed l 0 false]):=by
 have h1:=JQ (si ll Hb 6) v l hv hw H hH;have h2:=Ru (.lit 2 (de l)) l (.inr rfl) (by unfold maxLen;omega) WA (by decide);rw[N7] at h2;have h0:∀ args H,si ll Hb 7 0 args H=ef (si ll Hb 6) ud args H:=fun _ _=>rfl;have h3:=WU (A:=H++[Ed l 0 false]) (id:=H.length) (n:=l.length) (Fk _ _) rfl 5;rw[kaa (by simp)] at h3;simp -implicitDefEqProofs only[SX,sevalprocAttr,qj,h0,h1,h2,h3]
theorem HQ{H:List ba}(hH:Wd H){o:ba}(ho:∀ n,qa n o=some o):Wd (H++[o]):=by
 intro n hn x hx;rcases Jaa.1 hx with h | h
 ·exact hH n (by simp at hn;omega) x h
 ·simp at h;subst h;exact ho n
theorem xU(A B:PV)(a b:List (Int×Int))(hA:Uh 2 A (de a))(hB:Uh 2 B (de b))(hva:Pa WA (-2) a=true)(hvb:Pa WA (-2) b=true)(hl:a.length+b.length < 50):
 ∃ u,Om [A,B]=some (.lit 2 (de u))/\Pa WA (-2) u=true/\(∀ x,Jk x u↔Jk x a\/Jk x b)/\u.length<=a.length+b.length:=by
 have h1:=lr A a hA (by omega) hva [] (by intro n _ o ho;simp at ho);have hg1:Wd ([]++[Ed a 0 false]):=HQ (by intro n _ o ho;simp at ho) (As _ _ _);have h2:=lr B b hB (by omega) hvb ([]++[Ed a 0 false]) hg1;obtain⟨k,h3⟩:=zV (A:=[Ed a 0 false,Ed b 0 false]) (id1:=0) (id2:=1) (n1:=a.length) (n2:=b.length) (bytes:=16) (h:= .own) rfl rfl rfl rfl (by unfold eb;omega);have hg3:Wd [Ed (a++b) 0 k,Ed b 0 false]:=by intro n _ o ho;simp at ho;rcases ho with rfl | rfl <;> exact As _ _ _ _
 have ra:=Bs hva;have rb:=Bs hvb;have rab:∀ p∈a++b,0<=p.1/\p.1<=p.2/\p.2<=WA:=fun p hp=>by
  rcases Jaa.1 hp with h | h
  ·exact ra p h
  ·exact rb p h
 have h4:=QX (a++b) (fun p hp=>by have:=rab p hp;unfold WA at this;omega) (id0:=0) [Ed (a++b) 0 k,Ed b 0 false] hg3 rfl (by omega) (by simp;omega);obtain⟨⟨v,H4⟩,e4,l',fl,nl,X7,hps,hv,hg4,T9,w8⟩:=wc h4;dsimp only at hv hg4 T9;subst hv;have law:=yV (top:=WA) l' (fun p hp=>rab p (X7.mem_iff.1 hp)) hps;have hll:(xi [] l').length<=a.length+b.length:=by have:=X7.length_eq;simp at this;omega
 have h5:=vV (si ll Hb 6) (xi [] l') H4 hg4 T9 w8 (by omega);have S8:∀ x,Jk x (xi [] l')↔Jk x a\/Jk x b:=by
  intro x;rw[law.2.1,<-jv];unfold Jk;constructor
  ·rintro⟨p,h,hx⟩;exact⟨p,X7.mem_iff.1 h,hx⟩
  ·rintro⟨p,h,hx⟩;exact⟨p,X7.mem_iff.2 h,hx⟩
 refine⟨xi [] l',?_,law.1,S8,hll⟩;generalize xi [] l'=u at *;simp only[Yaa,pab,bab,Oaa,Zaa] at h1 h2 h3;rw[fac] at h3;have c1:∀ args H,si ll Hb 8 1 args H=ef (si ll Hb 7) qj args H:=fun _ _=>rfl;have c24:∀ args H,si ll Hb 8 24 args H=ef (si ll Hb 7) pq args H:=fun _ _=>rfl;have c3:∀ args H,si ll Hb 8 3 args H=ef (si ll Hb 7) Bl args H:=fun _ _=>rfl;have c2:∀ args H,si ll Hb 7 2 args H=ef (si ll Hb 6) Nd args H:=fun _ _=>rfl;have hab:(a++b).length=a.length+b.length:=by simp
 rw[hab] at e4;simp -implicitDefEqProofs only[Om,sE,SP,WP,fa,sevalprocAttr,Xq,c1,h1,h2,h3,c24,e4,c3,Bl,c2,h5]
theorem Bx(v:PV)(l:List (Int×Int))(hv:Uh 2 v (de l))(hw:l.length * 16<=140737488355328)(N7:Pa WA (-2) l=true):Jm [v]=some (.lit 2 (de l)):=by
 have h1:=vn v l hv hw;rw[<- bN] at h1;have h2:=Ru (.lit 2 (de l)) l (.inr rfl) (by unfold maxLen;omega) WA (by decide);rw[N7] at h2;simp -implicitDefEqProofs only[Jm,SP,SA,SQ,sevalprocAttr,Yt,Ig,Ic,h1,h2]
def Ag:Nat->List (Int×Int)->List (Int×Int)->List (Int×Int)
 |0,_,_=>[]
 |n+1,a,b=>match a,b with
  |p::a',q::b'=>(if (if q.1 > p.1 then q.1 else p.1)<=(if q.2 < p.2 then q.2 else p.2) then [((if q.1 > p.1 then q.1 else p.1),(if q.2 < p.2 then q.2 else p.2))] else [])++(if p.2 < q.2 then Ag n a' (q::b') else Ag n (p::a') b')
  |_,_=>[]
abbrev Ny(va vb:PV)(tk:Nat)(nl:Bool)(es:List PV):Tr:=((Tr.lf.set 5 (.uq tk nl 2 es)).set 1 (.pv vb)).set 0 (.pv va)
theorem Uh.J2{v:PV}{p:PV}{es:List PV}(h:Uh 2 v (p::es)):∀ H,ug H 2 (.pv v) (some 1) none=some (.pv (.lit 2 es)):=by
 intro H;rcases h with⟨_,h⟩ | rfl
 ·cases h
 ·simp[ug]
  omega
theorem jM(A B:PV)(a b:List (Int×Int))(hA:Uh 2 A (de a))(hB:Uh 2 B (de b))(hw:(a.length+b.length) * 16<=140737488355328):
 ∃ u,yn [A,B]=some u/\Uh 2 u (de (Ag (a.length+b.length) a b)):=by
 have D7:qd (fun r=>∃ E H nl,r=(.exit 0,⟨E,H⟩)/\E.get 5= .uq 0 nl 2 (de (Ag (a.length+b.length) a b))/\(nl=true->Ag (a.length+b.length) a b=[]))
  (Za (ma (oa (Da (fun _=>none) 8) Ug) (na 1 [0,1,5])) ua ⟨Ny A B 0 true [],[.tok 2 0 true]⟩):=by
  refine wa (Rr (g:=ma (oa (Da (fun _=>none) 8) Ug) (na 1 [0,1,5]))
   (fun m t=>∃ va vb a' b' nl out,m=a'.length+b'.length/\Uh 2 va (de a')/\Uh 2 vb (de b')/\t=⟨Ny va vb 0 nl (de out),[.tok 2 out.length nl]⟩/\out.length+m<=a.length+b.length/\(nl=true->out=[])/\Ag (a.length+b.length) a b=out++Ag m a' b')
   ua (a.length+b.length) _ (by unfold ua;omega) ⟨A,B,a,b,true,[],rfl,hA,hB,rfl,by simp,fun _=>rfl,rfl⟩ ?_) (fun r h=>h.2)
  rintro m t ⟨va,vb,a',b',nl,out,rfl,ha,hb,rfl,hlen,j8,hs⟩;have la:=ha.len
  have lb:=hb.len
  simp only[de,haa] at la lb;cases a' with
  |nil=>
   have hs':Ag (a.length+b.length) a b=out:=by rw[hs];cases b' <;> simp[Ag]
   have z1:decide (((([]:List (Int×Int)).length:Nat):Int) > 0)=false:=by decide
   generalize hQ:LQ _ _ _=Q;simp -implicitDefEqProofs only[SX,sevalprocAttr,Ug,la,z1,Ny];subst hQ;rw[hs'];exact⟨_,_,nl,rfl,by simp[Tr.aa],j8⟩
  |cons p a'=>
   have z1:decide ((((p::a').length:Nat):Int) > 0)=true:=Ea (by simp);cases b' with
   |nil=>
    have hs':Ag (a.length+b.length) a b=out:=by rw[hs];simp[Ag]
    have z2:decide (((([]:List (Int×Int)).length:Nat):Int) > 0)=false:=by decide
    generalize hQ:LQ _ _ _=Q;have la':∀ H,Sb H 0 (.pv va)=some (a'.length+1):=la;have z1':decide ((((a'.length+1):Nat):Int) > 0)=true:=z1;have lb':∀ H,Sb H 0 (.pv vb)=some 0:=lb;have z2':decide (((0:Nat):Int) > 0)=false:=z2;simp -implicitDefEqProofs only[SX,sevalprocAttr,Ug,la',lb',z1',z2',Ny];subst hQ;rw[hs'];exact⟨_,_,nl,rfl,by simp[Tr.aa],j8⟩
   |cons q b'=>
    have la':∀ H,Sb H 0 (.pv va)=some (a'.length+1):=la;have z1':decide ((((a'.length+1):Nat):Int) > 0)=true:=z1;have lb':∀ H,Sb H 0 (.pv vb)=some (b'.length+1):=lb;have z2':decide ((((b'.length+1):Nat):Int) > 0)=true:=Ea (by omega);have hva:va= .lit 2 (de (p::a')):=ha.lit (i:=0) (by simp)
    have hvb:vb= .lit 2 (de (q::b')):=hb.lit (i:=0) (by simp)
    have sa:=Uh.J2 ha
    have sb:=Uh.J2 hb
    have i1:∀ H,ta H 2 (.pv va) 0=some (.pv (.rp [i64 p.1,i64 p.2] 0)):=fun H=>by rw[hva];exact zm H (i:=0) (l:=p::a') (by simp)
    have i2:∀ H,ta H 2 (.pv vb) 0=some (.pv (.rp [i64 q.1,i64 q.2] 0)):=fun H=>by rw[hvb];exact zm H (i:=0) (l:=q::b') (by simp)
    have s8:=Ih (A:=[.tok 2 out.length nl]) (id:=0) (n:=out.length) (h:= .uq) (ag:=true) (nl:=nl) (sz:=2) (bytes:=16) (es:=de out) rfl (by simp) (by unfold eb;simp only[Oaa] at hlen;omega) (pr ((if q.1 > p.1 then q.1 else p.1),(if q.2 < p.2 then q.2 else p.2)));rw[fac] at s8;have hm:∀ n,Ag (n+1) (p::a') (q::b')=(if (if q.1 > p.1 then q.1 else p.1)<=(if q.2 < p.2 then q.2 else p.2) then [((if q.1 > p.1 then q.1 else p.1),(if q.2 < p.2 then q.2 else p.2))] else [])++(if p.2 < q.2 then Ag n a' (q::b') else Ag n (p::a') b'):=fun n=>rfl;have hmn:(p::a').length+(q::b').length=(a'.length+b'.length+1)+1:=by simp;omega
    have l0:∀ H (x y:PV),pa H false 1 (.pv (.rp [x,y] 0))=some (.pv x):=fun H x y=>rfl;have l1:∀ H (x y:PV),pa H false 1 (.pv (.rp [x,y] 1))=some (.pv y):=fun H x y=>rfl;have p0:∀ H (x y:PV),place H 0 (.pv (.rp [x,y] 0))=some (.pv (.rp [x,y] 0)):=fun H x y=>rfl;have p1:∀ H (x y:PV),place H 1 (.pv (.rp [x,y] 0))=some (.pv (.rp [x,y] 1)):=fun H x y=>rfl;rw[hmn] at hlen;rw[hmn,hm] at hs;generalize o9:(if q.1 > p.1 then q.1 else p.1)=lo at *;generalize hhi:(if q.2 < p.2 then q.2 else p.2)=hi at *;clear hva hvb;have Uah:de (out++[(lo,hi)])=de out++[pr (lo,hi)]:=by simp[de]
    generalize hQ:LQ _ _ _=Q
    by_cases c1:lo<=hi
    ·have d1:=Ea c1
     rw[if_pos c1] at hs
     by_cases c2:p.2 < q.2
     ·have d2:=Ea c2
      rw[if_pos c2] at hs;simp -implicitDefEqProofs only[SP,WP,fa,sevalprocAttr,Ug,la',lb',z1',z2',i1,i2,l0,l1,p0,p1,Zo,We,o9,hhi,s8,d1,d2,sa,sb,na,Ca,AV.cut,qa,za,Ny];subst hQ;exact⟨a'.length+b'.length+1,by rw[hmn];omega,_,vb,a',q::b',false,out++[(lo,hi)],by simp;omega,.inr rfl,hb,by rw[Uah];simp[Ny],by simp;omega,by simp,by rw[hs,Dab]⟩
     ·have d2:=Ga c2
      rw[kaa c2] at hs;simp -implicitDefEqProofs only[SP,WP,fa,sevalprocAttr,Ug,la',lb',z1',z2',i1,i2,l0,l1,p0,p1,Zo,We,o9,hhi,s8,d1,d2,sa,sb,na,Ca,AV.cut,qa,za,Ny];subst hQ;exact⟨a'.length+b'.length+1,by rw[hmn];omega,va,_,p::a',b',false,out++[(lo,hi)],by simp;omega,ha,.inr rfl,by rw[Uah];simp[Ny],by simp;omega,by simp,by rw[hs,Dab]⟩
    ·have d1:=Ga c1
     rw[kaa c1,Yaa] at hs
     by_cases c2:p.2 < q.2
     ·have d2:=Ea c2
      rw[if_pos c2] at hs;simp -implicitDefEqProofs only[SP,WP,fa,sevalprocAttr,Ug,la',lb',z1',z2',i1,i2,l0,l1,p0,p1,Zo,We,o9,hhi,d1,d2,sa,sb,na,Ca,AV.cut,qa,za,Ny];subst hQ;exact⟨a'.length+b'.length+1,by rw[hmn];omega,_,vb,a',q::b',nl,out,by simp;omega,.inr rfl,hb,rfl,by omega,j8,hs⟩
     ·have d2:=Ga c2
      rw[kaa c2] at hs;simp -implicitDefEqProofs only[SP,WP,fa,sevalprocAttr,Ug,la',lb',z1',z2',i1,i2,l0,l1,p0,p1,Zo,We,o9,hhi,d1,d2,sa,sb,na,Ca,AV.cut,qa,za,Ny];subst hQ;exact⟨a'.length+b'.length+1,by rw[hmn];omega,va,_,p::a',b',nl,out,by simp;omega,ha,.inr rfl,rfl,by omega,j8,hs⟩
 obtain⟨r,h1,E,H,nl,rfl,hE,j8⟩:=wc D7;simp only[Ny,de,Oad] at h1;generalize Ag (a.length+b.length) a b=u at *;have hz:(0 < 2)=True:=by simp
 cases nl with
 |true=>refine⟨.ga,?_,.inl ⟨rfl,by rw[j8 rfl];rfl⟩⟩;simp -implicitDefEqProofs only[yn,SX,sevalprocAttr,xt,Db,fe,hz,na,Ca,AV.cut,qa,za,h1,hE]
 |false=>refine⟨.lit 2 (de u),?_,.inr rfl⟩;simp -implicitDefEqProofs only[yn,SX,sevalprocAttr,xt,Db,fe,hz,na,Ca,AV.cut,qa,za,h1,hE]
theorem xF{top:Int}:∀ {l:List (Int×Int)}{last:Int},Pa top last l=true->∀ p∈l,last < p.1 - 1
 |q::l,last,h,p,hp=>by
  obtain⟨h1,h2,h3,h4,h5⟩:=Uc h;rcases Xaa.1 hp with rfl | hp
  ·omega
  ·have:=xF h5 p hp;omega
theorem Up{top last x:Int}{l:List (Int×Int)}(h:Pa top last l=true)(hx:Jk x l):last+1 < x:=by
 obtain⟨p,hp,h1,h2⟩:=hx;have:=xF h p hp;omega
theorem kv{top:Int}:∀ (n:Nat)(a b:List (Int×Int))(la lb:Int),Pa top la a=true->Pa top lb b=true->a.length+b.length<=n->
 (∀ x,Jk x (Ag n a b)↔Jk x a/\Jk x b)/\∀ p∈Ag n a b,p.1<=p.2
 |0,a,b,la,lb,_,_,hn=>by have:a=[]:=qaa (by omega);subst this;exact⟨fun x=>by simp[Ag,Qn],by simp[Ag]⟩
 |n+1,[],b,la,lb,_,_,hn=>⟨fun x=>by simp[Ag,Qn],by simp[Ag]⟩
 |n+1,p::a,[],la,lb,_,_,hn=>⟨fun x=>by simp[Ag,Qn],by simp[Ag]⟩
 |n+1,p::a,q::b,la,lb,ha,hb,hn=>by
  obtain⟨a1,a2,a3,a4,a5⟩:=Uc ha;obtain⟨b1,b2,b3,b4,b5⟩:=Uc hb;rw[Ag];have o9:p.1<=(if q.1 > p.1 then q.1 else p.1)/\q.1<=(if q.1 > p.1 then q.1 else p.1)/\((if q.1 > p.1 then q.1 else p.1)=p.1\/(if q.1 > p.1 then q.1 else p.1)=q.1):=by split <;> omega
  have hhi:(if q.2 < p.2 then q.2 else p.2)<=p.2/\(if q.2 < p.2 then q.2 else p.2)<=q.2/\((if q.2 < p.2 then q.2 else p.2)=p.2\/(if q.2 < p.2 then q.2 else p.2)=q.2):=by split <;> omega
  generalize (if q.1 > p.1 then q.1 else p.1)=lo at *;generalize (if q.2 < p.2 then q.2 else p.2)=hi at *;have hpc:∀ x,Jk x (if lo<=hi then [(lo,hi)] else [])↔(p.1<=x/\x<=p.2)/\(q.1<=x/\x<=q.2):=by
   intro x
   by_cases h:lo<=hi
   ·rw[if_pos h,fq];simp only;omega
   ·rw[kaa h]
    simp only[Qn,false_iff];omega
  have X7:∀ r∈(if lo<=hi then [(lo,hi)] else []),r.1<=r.2:=by
   intro r hr
   by_cases h:lo<=hi
   ·rw[if_pos h] at hr;simp at hr;subst hr;exact h
   ·rw[kaa h] at hr;simp at hr
  by_cases c:p.2 < q.2
  ·rw[if_pos c]
   have ih:=kv n a (q::b) p.2 lb a5 hb (by simp at hn ⊢;omega)
   refine⟨fun x=> ?_,fun r hr=> ?_⟩
   ·rw[jv,hpc,ih.1,cn,cn]
    have eag:Jk x b->q.2+1 < x:=Up b5
    constructor
    ·rintro (⟨h1,h2⟩ | ⟨h1,h2⟩)
     ·exact⟨.inl h1,.inl h2⟩
     ·exact⟨.inr h1,h2⟩
    ·rintro⟨h1 | h1,h2⟩
     ·rcases h2 with h2 | h2
      ·exact .inl ⟨h1,h2⟩
      ·have:=eag h2;omega
     ·exact .inr ⟨h1,h2⟩
   ·rcases Jaa.1 hr with h | h
    ·exact X7 r h
    ·exact ih.2 r h
  ·rw[kaa c]
   have ih:=kv n (p::a) b la q.2 ha b5 (by simp at hn ⊢;omega)
   refine⟨fun x=> ?_,fun r hr=> ?_⟩
   ·rw[jv,hpc,ih.1,cn,cn]
    have eag:Jk x a->p.2+1 < x:=Up a5
    constructor
    ·rintro (⟨h1,h2⟩ | ⟨h1,h2⟩)
     ·exact⟨.inl h1,.inl h2⟩
     ·exact⟨h1,.inr h2⟩
    ·rintro⟨h1,h2 | h2⟩
     ·rcases h1 with h1 | h1
      ·exact .inl ⟨h1,h2⟩
      ·have:=eag h1;omega
     ·exact .inr ⟨h1,h2⟩
   ·rcases Jaa.1 hr with h | h
    ·exact X7 r h
    ·exact ih.2 r h
theorem eP{top:Int}{a b:List (Int×Int)}(ha:Pa top (-2) a=true)(hb:Pa top (-2) b=true):Ag (a.length+b.length) a b≠[]↔∃ x,Jk x a/\Jk x b:=by
 have h:=kv (a.length+b.length) a b (-2) (-2) ha hb (paa _);constructor
 ·intro J7
  obtain⟨p,r,hpr⟩:=List.exists_cons_of_ne_nil J7
  have hp:p∈Ag (a.length+b.length) a b:=by rw[hpr];simp
  exact⟨p.1,(h.1 p.1).1 ⟨p,hp,Lac _,h.2 p hp⟩⟩
 ·rintro⟨x,hx⟩ he
  have:=(h.1 x).2 hx
  rw[he] at this;exact Qn x this
theorem Ez:∀ (n:Nat)(a b:List (Int×Int)),(Ag n a b).length<=n
 |0,a,b=>by simp[Ag]
 |n+1,[],b=>by simp[Ag]
 |n+1,p::a,[]=>by simp[Ag]
 |n+1,p::a,q::b=>by
  rw[Ag,raa];generalize (if q.1 > p.1 then q.1 else p.1)=lo;generalize (if q.2 < p.2 then q.2 else p.2)=hi;have h1:(if lo<=hi then [(lo,hi)] else []).length<=1:=by
   by_cases h:lo<=hi
   ·rw[if_pos h];simp
   ·rw[kaa h];simp
  by_cases c:p.2 < q.2
  ·rw[if_pos c];have:=Ez n a (q::b);omega
  ·rw[kaa c];have:=Ez n (p::a) b;omega
theorem WC(A B:PV)(a b:List (Int×Int))(hA:Uh 2 A (de a))(hB:Uh 2 B (de b))(hva:Pa WA (-2) a=true)(hvb:Pa WA (-2) b=true)(hw:(a.length+b.length) * 16<=140737488355328):
 Zn [A,B]=some (.lit 2 (de (Ag (a.length+b.length) a b))):=by
 have h1:=Bx A a hA (by omega) hva;have h2:=Bx B b hB (by omega) hvb;obtain⟨u,h3,h4⟩:=jM (.lit 2 (de a)) (.lit 2 (de b)) a b (.inr rfl) (.inr rfl) hw;have h5:=vn u _ h4 (by have:=Ez (a.length+b.length) a b;omega);rw[<- LK] at h5;have h6:Sn [u]=some (.lit 2 (de (Ag (a.length+b.length) a b))):=by simp -implicitDefEqProofs only[Sn,SP,SA,SQ,sevalprocAttr,Qr,Ig,Ic,h5]
 simp -implicitDefEqProofs only[Zn,SP,SA,SQ,sevalprocAttr,Ms,Ig,Ic,h1,h2,h3,h6]
theorem ru(v:PV)(l:List (Int×Int))(hv:Uh 2 v (de l))(hw:l.length * 16<=140737488355328)(N7:Pa 255 (-2) l=true):Hh [v]=some (.lit 2 (de l)):=by
 have h1:=vn v l hv hw;have h2:=Ru (.lit 2 (de l)) l (.inr rfl) (by unfold maxLen;omega) 255 (by decide);rw[N7] at h2;simp -implicitDefEqProofs only[Hh,SP,SA,SQ,sevalprocAttr,Iq,Ig,Ic,h1,h2]
theorem GH(A B:PV)(a b:List (Int×Int))(hA:Uh 2 A (de a))(hB:Uh 2 B (de b))(hva:Pa 255 (-2) a=true)(hvb:Pa 255 (-2) b=true)(hw:(a.length+b.length) * 16<=140737488355328):
 vr [A,B]=some (.lit 2 (de (Ag (a.length+b.length) a b))):=by
 have h1:=ru A a hA (by omega) hva;have h2:=ru B b hB (by omega) hvb;obtain⟨u,h3,h4⟩:=jM (.lit 2 (de a)) (.lit 2 (de b)) a b (.inr rfl) (.inr rfl) hw;have h5:=vn u _ h4 (by have:=Ez (a.length+b.length) a b;omega);rw[<- iO] at h5;have h6:xr [u]=some (.lit 2 (de (Ag (a.length+b.length) a b))):=by simp -implicitDefEqProofs only[xr,SP,SA,SQ,sevalprocAttr,Ww,Ig,Ic,h5]
 simp -implicitDefEqProofs only[vr,SP,SA,SQ,sevalprocAttr,mw,Ig,Ic,h1,h2,h3,h6]
theorem TC(n:Int)(l:List (Int×Int)):ib n l=n+ib 0 l:=by
 induction l generalizing n with
 |nil=>simp[ib]
 |cons p l ih=>rw[ib,ib,ih,ih (0+(p.2 - p.1+1))];omega
theorem Mt{top:Int}:∀ {l:List (Int×Int)}{last:Int},Pa top last l=true->0<=ib 0 l/\(l≠[]->1<=ib 0 l/\ib 0 l<=top - last - 1/\ib 0 l<=top+1)/\ib 0 l<=max 0 (top+1)
 | [],last,_=>⟨by simp[ib],fun h=>absurd rfl h,by simp[ib];omega⟩
 |p::l,last,h=>by
  obtain⟨h1,h2,h3,h4,h5⟩:=Uc h;have ih:=Mt h5;rw[ib,TC];have key:l≠[]\/l=[]:=by cases l <;> simp
  rcases key with hl | hl
  ·have:=ih.2.1 hl
   exact⟨by omega,fun _=>⟨by omega,by omega,by omega⟩,by omega⟩
  ·subst hl
   simp only[ib];exact⟨by omega,fun _=>⟨by omega,by omega,by omega⟩,by omega⟩
theorem jw{top:Int}:∀ {l:List (Int×Int)}{last:Int},Pa top last l=true->(l.length:Int)<=max 0 (top - last)
 | [],last,_=>by simp;omega
 |p::l,last,h=>by obtain⟨h1,h2,h3,h4,h5⟩:=Uc h;have:=jw h5;simp only[Oaa];omega
theorem Jy(v:PV)(l:List (Int×Int))(hv:Uh 2 v (de l))(hw:l.length * 16<=140737488355328)(N7:Pa 255 (-2) l=true):No [v]=some (i64 (ib 0 l)):=by
 have h1:=ru v l hv hw N7;have h2:=nW (.lit 2 (de l)) l (.inr rfl) (by unfold maxLen;omega) (top:=255) (by decide) N7;simp -implicitDefEqProofs only[No,SP,SA,SQ,sevalprocAttr,cw,Ig,Ic,h1,h2]
open Go.AM
theorem dq(A:List ba)(o:ba):(A++[o])[A.length]? =some o:=by simp
theorem Bq(A:List ba)(o o':ba):(A++[o]).set A.length o'=A++[o']:=by
 apply Iab;intro i
 by_cases h:i=A.length
 ·subst h;simp
 ·rw[Gaa (lac h)]
  rcases Qaa i A.length with h1 | h1
  ·rw[eaa h1,eaa h1]
  ·rw[Kaa h1,Kaa h1]
   have:i - A.length≠0:=by omega
   obtain⟨k,hk⟩:∃ k,i - A.length=k+1:=⟨i - A.length - 1,by omega⟩
   rw[hk];simp
abbrev u32(n:Int):PV:= .int .u32 n
abbrev Yz(S:PV)(x d bits len i left:Int)(ends:Bool):Tr:=
 ((((((Tr.lf.set 18 (.pv (i64 i))).set 17 (.pv (i64 len))).set 16 (.pv S)).set 9 (.pv (.bool ends))).set 8 (.pv (u32 left))).set 4 (.pv (.rp [i64 d,u32 bits] 0))).set 2 (.pv (i64 x))
def LB(bits:Int)(i:Nat):Bool:=IntKind.u32.wrap (((BitVec.ofInt IntKind.u32.bits (bits.fdiv (2 ^ min i IntKind.u32.bits)) &&& BitVec.ofInt IntKind.u32.bits 1).toNat:Nat):Int)==1
theorem Kz(bits:Int)(i:Nat):(IntKind.u32.wrap (((BitVec.ofInt IntKind.u32.bits (bits.fdiv (2 ^ min i IntKind.u32.bits)) &&& BitVec.ofInt IntKind.u32.bits 1).toNat:Nat):Int)==1)=LB bits i:=rfl
def O5(left:Int)(i:Nat):Int:=IntKind.u32.wrap (((BitVec.ofInt IntKind.u32.bits left ||| BitVec.ofInt IntKind.u32.bits (IntKind.u32.wrap (1 * 2 ^ min i IntKind.u32.bits))).toNat:Nat):Int)
theorem TM(left:Int)(i:Nat):IntKind.u32.wrap (((BitVec.ofInt IntKind.u32.bits left ||| BitVec.ofInt IntKind.u32.bits (IntKind.u32.wrap (1 * 2 ^ min i IntKind.u32.bits))).toNat:Nat):Int)=O5 left i:=rfl
section
variable (call:Sa)(A:List ba)(ss:List PV)(x bits left:Int)(d:Nat)(ends:Bool)(i len:Nat)(hi:i < len)(hl:len=ss.length)(hw:len<=maxLen)(ps:List PV)(first:Int)(hs:ss[i]? =some (.agg [.lit 1 ps,i64 first]))
include hi hl hw hs
theorem zZ(hb:LB bits i=false):
 ma (oa call Eb) (fun s=>some (tidy [2,4,8,9,16,17,18] s)) ⟨Yz (.lit 2 ss) x d bits len i left ends,A⟩=
  some (.norm,⟨Yz (.lit 2 ss) x d bits len (i+1:Nat) left ends,A++[.box [.pv (.lit 1 ps),.pv (i64 first)]]⟩):=by
 have e1:decide ((i:Int) < (len:Int))=true:=Ea (by omega);have hq:Ia (i:Int) ss.length:=by unfold Ia;omega
 have t1:((i:Int)).toNat=i:=by simp
 have t2:=ab hi hw;have hn:((i:Int) < 0)=False:=by simp
 simp -implicitDefEqProofs only[SP,SA,SQ,sevalprocAttr,ma,Eb,e1,Iaa hq,t1,t2,hs,hn,Kz,hb,ta,dq,Bq,tidy,Gc,Yz]
theorem PY(hb:LB bits i=true)(qs:List PV)(hp:ps[d]? =some (.lit 2 qs))(hdl:d < ps.length)(hd:d < 4611686018427387904)(hh:Rl [.lit 2 qs,i64 x]=some (.bool false)):
 ma (oa call Eb) (fun s=>some (tidy [2,4,8,9,16,17,18] s)) ⟨Yz (.lit 2 ss) x d bits len i left ends,A⟩=
  some (.norm,⟨Yz (.lit 2 ss) x d bits len (i+1:Nat) left ends,A++[.box [.pv (.lit 1 ps),.pv (i64 first)]]⟩):=by
 have e1:decide ((i:Int) < (len:Int))=true:=Ea (by omega);have hq:Ia (i:Int) ss.length:=by unfold Ia;omega
 have t1:((i:Int)).toNat=i:=by simp
 have t2:=ab hi hw;have hn:((i:Int) < 0)=False:=by simp
 have Y9:Ia (d:Int) ps.length:=by unfold Ia;omega
 have t3:((d:Int)).toNat=d:=by simp
 simp -implicitDefEqProofs only[SP,SA,SQ,sevalprocAttr,ma,Eb,e1,Iaa hq,Iaa Y9,t1,t2,t3,hs,hn,Kz,hb,hp,hh,Ig,Ic,ta,dq,Bq,tidy,Gc,Yz]
theorem Q4(hb:LB bits i=true)(qs:List PV)(hp:ps[d]? =some (.lit 2 qs))(hdl:d < ps.length)(hd:d < 4611686018427387904)(hh:Rl [.lit 2 qs,i64 x]=some (.bool true)):
 ma (oa call Eb) (fun s=>some (tidy [2,4,8,9,16,17,18] s)) ⟨Yz (.lit 2 ss) x d bits len i left ends,A⟩=
  some (.norm,⟨Yz (.lit 2 ss) x d bits len (i+1:Nat) (O5 left i) (ends||(ps.length==d+1)),A++[.box [.pv (.lit 1 ps),.pv (i64 first)]]⟩):=by
 have e1:decide ((i:Int) < (len:Int))=true:=Ea (by omega);have hq:Ia (i:Int) ss.length:=by unfold Ia;omega
 have t1:((i:Int)).toNat=i:=by simp
 have t2:=ab hi hw;have hn:((i:Int) < 0)=False:=by simp
 have Y9:Ia (d:Int) ps.length:=by unfold Ia;omega
 have t3:((d:Int)).toNat=d:=by simp
 have t4:IntKind.i64.wrap ((d:Int)+1)=((d+1:Nat):Int):=Aa (by omega)
 have t5:((ps.length:Int)==((d+1:Nat):Int))=(ps.length==d+1):=by rw[Xad];simp;omega
 cases ends with
 |true=>simp -implicitDefEqProofs only[SP,SA,SQ,sevalprocAttr,ma,Eb,e1,Iaa hq,Iaa Y9,t1,t2,t3,t4,t5,hs,hn,Kz,TM,hb,hp,hh,Ig,Ic,ta,dq,Bq,tidy,Gc,Yz]
 |false=>simp -implicitDefEqProofs only[SP,SA,SQ,sevalprocAttr,ma,Eb,e1,Iaa hq,Iaa Y9,t1,t2,t3,t4,t5,hs,hn,Kz,TM,hb,hp,hh,Ig,Ic,ta,dq,Bq,tidy,Gc,Yz]
end
structure Ob where
 parts:List (List (Int×Int))
 first:Int
def Te(l:List (Int×Int)):PV:= .lit 2 (de l)
def pf(s:Ob):PV:= .agg [.lit 1 (s.parts.map Te),i64 s.first]
def iP(l:List (Int×Int))(x:Int):Bool:=(Ld x 0 (JA l)).2
def Iu(s:Ob)(d:Nat)(x:Int):Bool:=
 match s.parts[d]? with
 |some l=>iP l x
 |none=>false
def Rh(x bits:Int)(d:Nat):Nat->List Ob->Int×Bool->Int×Bool
 |_,[],acc=>acc
 |i,s::r,acc=>Rh x bits d (i+1) r (if LB bits i&&Iu s d x then (O5 acc.1 i,acc.2||(s.parts.length==d+1)) else acc)
theorem DK(l:List (Int×Int)):pB (.lit 2 (de l))=some l:=by
 have:Ra fB (de l)=some l:=by
  induction l with
  |nil=>rfl
  |cons p l ih=>simp only[de,lab,Ra,fB,yaa] at ih ⊢;rw[ih];rfl
 exact this
theorem QT{l:List (Int×Int)}(h:l.length * 16<=140737488355328)(x:Int):Rl [Te l,i64 x]=some (.bool (iP l x)):=by
 simp only[Rl,Te,DK,yaa,if_pos h];rfl
def UH(ss:List Ob):List ba:=ss.map fun s=> .box [.pv (.lit 1 (s.parts.map Te)),.pv (i64 s.first)]
section
variable (call:Sa)(H:List ba)(id:Nat)(rest:List AV)(S:PV)(ss:List Ob)(x bits:Int)(d:Nat)
 (H7:H[id]? =some (.box (.pv S::rest))) (hS:Uh 2 S (ss.map pf)) (hw:ss.length<=maxLen) (hd:d < 4611686018427387904)
 (Ba:∀ i s,ss[i]? =some s->LB bits i=true->d < s.parts.length) (L7:∀ s∈ss,∀ l∈s.parts,l.length * 16<=140737488355328)
include H7 hS hw hd Ba L7
theorem Wr:ef call ej [.ptr id 0,.pv (.agg [i64 d,u32 bits]),.pv (i64 x)] H=
 some (.pv (.mc [u32 (Rh x bits d 0 ss (0,false)).1,.bool (Rh x bits d 0 ss (0,false)).2]),H++UH ss):=by
 have ls:=hS.len
 simp only[haa] at ls;have key:=im (g:=ma (oa call Eb) (fun s=>some (tidy [2,4,8,9,16,17,18] s)))
  (fun i t=>∃ left ends,t=⟨Yz S x d bits ss.length i left ends,H++UH (ss.take i)⟩/\Rh x bits d 0 ss (0,false)=Rh x bits d i (ss.drop i) (left,ends))
  (fun ex t=>ex= .exit 0/\t=⟨(Yz S x d bits ss.length ss.length (Rh x bits d 0 ss (0,false)).1 (Rh x bits d 0 ss (0,false)).2).set 19 (.pv (.bool false)),H++UH ss⟩)
  ua ss.length 0 ⟨Yz S x d bits ss.length (0:Nat) 0 false,H⟩ (by unfold ua;unfold maxLen at hw;omega) (by omega) ⟨0,false,by simp[UH],rfl⟩ ?_ ?_
 ·obtain⟨ex,t,h,_,rfl,rfl⟩:=key
  generalize Rh x bits d 0 ss (0,false)=r at *;simp -implicitDefEqProofs only[SP,SA,SQ,sevalprocAttr,ej,ls,H7,sr,tidy,Gc,Yz,h];simp only[Yz] at h;have h':Za (ma (oa call Eb) (fun s=>some (tidy [2,4,8,9,16,17,18] s))) ua ⟨((((((Tr.lf.set 18 (.pv (i64 0))).set 17 (.pv (i64 ss.length))).set 16 (.pv S)).set 9 (.pv (.bool false))).set 8 (.pv (u32 0))).set 4 (.pv (.rp [i64 d,u32 bits] 0))).set 2 (.pv (i64 x)),H⟩=_:=h;simp only[tidy,Gc] at h';rw[h'];simp -implicitDefEqProofs only[SP,SA,SQ,sevalprocAttr,Ic]
 ·rintro i hi t ⟨left,ends,rfl,hb⟩
  have Lak:=hS.lit (i:=i) (by simpa using hi)
  subst Lak;have hg:(ss.map pf)[i]? =some (.agg [.lit 1 (ss[i].parts.map Te),i64 ss[i].first]):=by simp[hi,pf]
  have hdr:ss.drop i=ss[i]::ss.drop (i+1):=Paa hi
  have hJ:H++UH (ss.take (i+1))=H++UH (ss.take i)++[.box [.pv (.lit 1 (ss[i].parts.map Te)),.pv (i64 ss[i].first)]]:=by rw[List.take_succ_eq_append_getElem hi,UH,jac,Dab];rfl
  rw[hdr,Rh] at hb;cases Baa:LB bits i with
  |false=>rw[Baa] at hb;refine .inl ⟨_,zZ call _ _ x bits left d ends i ss.length hi (by simp) hw _ _ hg Baa,left,ends,by rw[hJ],hb⟩
  |true=>
   have hdl:=Ba i ss[i] (by simp[hi]) Baa;have hp:(ss[i].parts.map Te)[d]? =some (.lit 2 (de ss[i].parts[d])):=by simp[hdl,Te]
   have hc:=QT (L7 ss[i] (jaa hi) ss[i].parts[d] (jaa hdl)) x;have u9:Iu ss[i] d x=iP ss[i].parts[d] x:=by simp[Iu,hdl]
   rw[Baa,u9,oab] at hb;cases hh:iP ss[i].parts[d] x with
   |false=>rw[hh] at hb hc;refine .inl ⟨_,PY call _ _ x bits left d ends i ss.length hi (by simp) hw _ _ hg Baa _ hp (by simpa using hdl) hd hc,left,ends,by rw[hJ],hb⟩
   |true=>
    rw[hh] at hb hc;refine .inl ⟨_,Q4 call _ _ x bits left d ends i ss.length hi (by simp) hw _ _ hg Baa _ hp (by simpa using hdl) hd hc,_,_,by rw[hJ],?_⟩
    rw[hb];simp
 ·rintro t ⟨left,ends,rfl,hb⟩
  rw[vab] at hb;simp only[Rh] at hb;refine⟨.exit 0,_,?_,rfl,rfl,rfl⟩;rw[hb,sab];have e1:decide ((ss.length:Int) < (ss.length:Int))=false:=Ga (by omega);simp -implicitDefEqProofs only[SP,SA,SQ,sevalprocAttr,ma,Eb,e1,Yz]
end
abbrev Al:=Nat×Int
def Oi(a:Al):PV:= .agg [i64 a.1,u32 a.2]
def KE(l:List Al)(k:Nat):List (PV×PV):=(l.zipIdx k).map fun p=>(Oi p.1,i64 p.2)
theorem ED(a:Al)(l:List Al)(k:Nat):KE (a::l) k=(Oi a,i64 k)::KE l (k+1):=rfl
theorem BI(a:Al):∀ (l:List Al)(k:Nat),KE (l++[a]) k=KE l k++[(Oi a,i64 (k+l.length:Nat))]
 | [],k=>by simp[KE]
 |b::l,k=>by rw[bab,ED,BI a l (k+1),ED];simp;omega
theorem UE(a b:Al):Ql (.row [1,1]) (Oi a) (Oi b)=some (decide (a=b)):=by
 obtain⟨a1,a2⟩:=a;obtain⟨b1,b2⟩:=b;simp only[Oi,Ql,gj,Vs,if_true,yaa,Haa,aae,oaa,Bool.decide_and]
 congr 1
 rw[Xad];simp;intro _;omega
def Vm(a:Al):List Al->Nat->Option Nat
 | [],_=>none
 |b::l,k=>if a=b then some k else Vm a l (k+1)
theorem BL(a:Al):∀ (l:List Al)(k j:Nat),sn (.row [1,1]) (Oi a) (KE l k) j=some ((Vm a l k).map fun i=>(j+(i - k),i64 i)):=by
 intro l
 induction l with
 |nil=>intro k j;rfl
 |cons b l ih=>
  intro k j;rw[ED,sn,UE];simp only[yaa,Vm]
  by_cases h:a=b
  ·simp[h]
  ·rw[kaa h,ih]
   simp only[h,decide_false,saa,if_false,caa];cases hi:Vm a l (k+1) with
   |none=>rfl
   |some i=>
    have:k+1<=i:=by
     clear ih
     induction l generalizing k with
     |nil=>simp[Vm] at hi
     |cons c l ihl=>
      simp only[Vm] at hi
      split at hi
      ·injection hi with hi;omega
      ·have:=ihl (k+1) hi;omega
    simp only[Haa,caa,oaa,and_true];omega
abbrev Hk(R0 R1:ba)(S:PV)(nl:Bool)(B7:List Al)(rows:ba)(n:Nat)(T:List ba):List ba:=
 R0::R1:: .map (KE B7 0):: .box [.pv S,.mp 2,.uq 4 nl 2 (B7.map Oi),.own 5 n]:: .tok 2 B7.length nl::rows::T
section
variable (call:Sa)(R0 R1:ba)(S:PV)(nl:Bool)(B7:List Al)(rows:ba)(n:Nat)(T:List ba)(a:Al)
theorem VY{i:Nat}(h:Vm a B7 0=some i):
 ef call xe [.ptr 3 0,.pv (Oi a)] (Hk R0 R1 S nl B7 rows n T)=some (.pv (.mc [i64 i,.bool true]),Hk R0 R1 S nl B7 rows n T):=by
 have hf:=BL a B7 0 0;rw[h] at hf;simp only[Haa] at hf;have hk:(Ql (.row [1,1]) (Oi a) (Oi a)).isSome=true:=by rw[UE];rfl
 simp only[Oi] at hf hk;simp -implicitDefEqProofs only[SP,SA,SQ,sevalprocAttr,Oi,xe,hf,Iaa hk]
theorem CY(h:Vm a B7 0=none)(hl:B7.length=64):
 ef call xe [.ptr 3 0,.pv (Oi a)] (Hk R0 R1 S nl B7 rows n T)=some (.pv (.mc [i64 0,.bool false]),Hk R0 R1 S nl B7 rows n T):=by
 have hf:=BL a B7 0 0;rw[h] at hf;simp only[Option.map_none] at hf;have hk:(Ql (.row [1,1]) (Oi a) (Oi a)).isSome=true:=by rw[UE];rfl
 have e1:(((B7.map Oi).length:Int)==64)=true:=by simp[hl]
 simp only[Oi] at hf hk;simp -implicitDefEqProofs only[SP,SA,SQ,sevalprocAttr,xe,Oi,hf,Iaa hk,e1]
theorem tS(h:Vm a B7 0=none)(hl:B7.length < 64):
 ef call xe [.ptr 3 0,.pv (Oi a)] (Hk R0 R1 S nl B7 rows n T)=some (.pv (.mc [i64 B7.length,.bool true]),Hk R0 R1 S false (B7++[a]) rows n T):=by
 have hf:=BL a B7 0 0;rw[h] at hf;simp only[Option.map_none] at hf;have hk:(Ql (.row [1,1]) (Oi a) (Oi a)).isSome=true:=by rw[UE];rfl
 have e1:((B7.length:Int)==64)=false:=mj (by omega);have hp:=BI a B7 0;rw[Zaa] at hp;have q1:eb (B7.length+1) 16:=by unfold eb;omega
 have hlen:(B7.map Oi).length=B7.length:=by simp
 have P8:(B7++[a]).length=B7.length+1:=by simp
 have pac:(B7++[a]).map Oi=B7.map Oi++[Oi a]:=by simp
 unfold Hk;rw[hp,P8,pac];simp only[Oi] at hf hk ⊢;simp -implicitDefEqProofs only[SP,SA,SQ,sevalprocAttr,xe,hf,Iaa hk,e1,hlen,Iaa q1,jj,AV.YE,AV.Pq]
end
theorem mo(n:Nat)(cs:List AV):qa n (.box cs)=(Ra (AV.cut n deep) cs).map .box:=rfl
theorem Rn(n:Nat)(es:List (PV×PV)):qa n (.map es)=some (.map es):=rfl
theorem Vu(n sz:Nat)(ag:Bool)(cs:List AV)(fl:Nat)(nl:Bool):qa n (.seq sz ag cs fl nl)=if cs.all (AV.oe n deep)=true then some (.seq sz ag cs fl nl) else none:=rfl
theorem Uo(n sz m:Nat)(nl:Bool):qa n (.tok sz m nl)=some (.tok sz m nl):=rfl
def ph(ss:List Ob)(a:Al)(x:Int)(B7:List Al):Option (List Al×Int):=
 if (Rh x a.2 a.1 0 ss (0,false)).1=0 then some (B7,-2)
 else if (Rh x a.2 a.1 0 ss (0,false)).2=true then some (B7,-1)
 else match Vm (a.1+1,(Rh x a.2 a.1 0 ss (0,false)).1) B7 0 with
  |some k=>some (B7,(k:Int))
  |none=>if B7.length < 64 then some (B7++[(a.1+1,(Rh x a.2 a.1 0 ss (0,false)).1)],(B7.length:Int)) else none
inductive Aw(k:Nat)(v:AV)(o:ba):Option (Ex×St)->Prop
 |mk (s:St):s.env.get k=v->s.H[0]? =some o->Aw k v o (some (.ret,s))
theorem cG{k:Nat}{v:AV}{o:ba}{s:St}:Aw k v o (some (.ret,s))=(s.env.get k=v/\s.H[0]? =some o):=
 propext ⟨fun h=>by cases h with | mk _ h h'=>exact⟨h,h'⟩,fun h=> .mk s h.1 h.2⟩
theorem yt{k:Nat}{v:AV}{o:ba}{r:Option (Ex×St)}(h:Aw k v o r):∃ t,r=some (.ret,t)/\t.env.get k=v/\t.H[0]? =some o:=by
 cases h with | mk s h h'=>exact⟨s,rfl,h,h'⟩
def La(l:List Int):List AV:=l.map fun n=> .pv (i64 n)
theorem Xj(l:List Int)(x:Nat)(v:Int):(La l).set x (.pv (i64 v))=La (l.set x v):=by simp[La,qae]
theorem qb(l:List Int):(La l).length=l.length:=by simp[La]
theorem Js(n d:Nat)(l:List Int):Ra (AV.cut n d) (La l)=some (La l):=by
 induction l with
 |nil=>rfl
 |cons a l ih=>simp only[La,lab,Ra,Qa,yaa] at ih ⊢;rw[ih];rfl
abbrev Hn(i x:Int):Tr:=(((Tr.lf.set 30 (.pv (i64 x))).set 4 (.ptr 6 0)).set 3 (.pv (i64 i))).set 0 (.ptr 3 0)
section
variable (R0 R1:ba)(S:PV)(nl:Bool)(B7:List Al)(rows:ba)(n:Nat)(row:List Int)(ss:List Ob)(i x:Nat)(a:Al)
 (h0:qa 7 R0=some R0) (h1:qa 7 R1=some R1) (hr:qa 7 rows=some rows) (K7:row.length=256) (hx:x < 256)
 (hi:i < B7.length) (ha:(B7.map Oi)[i]? =some (.agg [i64 a.1,u32 a.2])) (had:a.1 < 4611686018427387904)
 (hS:Uh 2 S (ss.map pf)) (hw:ss.length<=maxLen)
 (Ba:∀ i s,ss[i]? =some s->LB a.2 i=true->a.1 < s.parts.length) (L7:∀ s∈ss,∀ l∈s.parts,l.length * 16<=140737488355328)
include h0 h1 hr K7 hx hi ha had hS hw Ba L7
theorem kU(hb:(Rh x a.2 a.1 0 ss (0,false)).1=0):
 Wc (Da Fa 7) [0,3,4,30] Ma 7 ⟨Hn i x,Hk R0 R1 S nl B7 rows n [.box (La row)]⟩=
  some (.norm,⟨Hn i (x+1:Nat),Hk R0 R1 S nl B7 rows n [.box (La (row.set x (-2)))]⟩):=by
 have e1:decide ((x:Int) < 256)=true:=Ea (by omega);have hlen:(B7.map Oi).length=B7.length:=by simp
 have hq:Ia (i:Int) B7.length:=by unfold Ia;omega
 have Y9:Ia (x:Int) 256:=by unfold Ia;omega
 have t1:((i:Int)).toNat=i:=by simp
 have t3:((x:Int)).toNat=x:=by simp
 have t2:=ab (i:=x) (n:=256) hx (by unfold maxLen;omega);have U8:=Wr (Da Fa 6) (Hk R0 R1 S nl B7 rows n [.box (La row)]) 3 _ S ss x a.2 a.1 rfl hS hw had Ba L7
 rw[hb] at U8;have hle:x+1<=(La row).length:=by rw[qb];omega
 have hz:(((0:Nat)+x+1)<=(La row).length)=True:=by simp only[eq_iff_iff,iff_true];omega
 simp only[Hk,bab,Yaa] at U8;generalize (Rh x a.2 a.1 0 ss (0,false)).2=ends at *
 simp -implicitDefEqProofs only[SP,SA,SQ,sevalprocAttr,Wc,ma,Ma,Fa,e1,hlen,Iaa hq,Iaa Y9,t1,t2,t3,ha,U8,hz,Iaa hle,Xj,ta,na,Ca,mo,Rn,Uo,Qa,Js,AV.cut,Ic,h0,h1,hr,Hn,Hk]
theorem GX(hb:(Rh x a.2 a.1 0 ss (0,false)).1≠0)(y8:(Rh x a.2 a.1 0 ss (0,false)).2=true):
 Wc (Da Fa 7) [0,3,4,30] Ma 7 ⟨Hn i x,Hk R0 R1 S nl B7 rows n [.box (La row)]⟩=
  some (.norm,⟨Hn i (x+1:Nat),Hk R0 R1 S nl B7 rows n [.box (La (row.set x (-1)))]⟩):=by
 have e1:decide ((x:Int) < 256)=true:=Ea (by omega);have hlen:(B7.map Oi).length=B7.length:=by simp
 have hq:Ia (i:Int) B7.length:=by unfold Ia;omega
 have Y9:Ia (x:Int) 256:=by unfold Ia;omega
 have t1:((i:Int)).toNat=i:=by simp
 have t3:((x:Int)).toNat=x:=by simp
 have t2:=ab (i:=x) (n:=256) hx (by unfold maxLen;omega);have U8:=Wr (Da Fa 6) (Hk R0 R1 S nl B7 rows n [.box (La row)]) 3 _ S ss x a.2 a.1 rfl hS hw had Ba L7
 rw[y8] at U8;have hle:x+1<=(La row).length:=by rw[qb];omega
 have hz:(((0:Nat)+x+1)<=(La row).length)=True:=by simp only[eq_iff_iff,iff_true];omega
 simp only[Hk,bab,Yaa] at U8;have e4:=mj hb;generalize (Rh x a.2 a.1 0 ss (0,false)).1=left at *
 simp -implicitDefEqProofs only[SP,SA,SQ,sevalprocAttr,Wc,ma,Ma,Fa,e1,hlen,Iaa hq,Iaa Y9,t1,t2,t3,ha,U8,e4,hz,Iaa hle,Xj,ta,na,Ca,mo,Rn,Uo,Qa,Js,AV.cut,Ic,h0,h1,hr,Hn,Hk]
theorem dW(hb:(Rh x a.2 a.1 0 ss (0,false)).1≠0)(y8:(Rh x a.2 a.1 0 ss (0,false)).2=false){k:Nat}(hk:Vm (a.1+1,(Rh x a.2 a.1 0 ss (0,false)).1) B7 0=some k):
 Wc (Da Fa 7) [0,3,4,30] Ma 7 ⟨Hn i x,Hk R0 R1 S nl B7 rows n [.box (La row)]⟩=
  some (.norm,⟨Hn i (x+1:Nat),Hk R0 R1 S nl B7 rows n [.box (La (row.set x k))]⟩):=by
 have e1:decide ((x:Int) < 256)=true:=Ea (by omega);have hlen:(B7.map Oi).length=B7.length:=by simp
 have hq:Ia (i:Int) B7.length:=by unfold Ia;omega
 have Y9:Ia (x:Int) 256:=by unfold Ia;omega
 have t1:((i:Int)).toNat=i:=by simp
 have t3:((x:Int)).toNat=x:=by simp
 have t2:=ab (i:=x) (n:=256) hx (by unfold maxLen;omega);have U8:=Wr (Da Fa 6) (Hk R0 R1 S nl B7 rows n [.box (La row)]) 3 _ S ss x a.2 a.1 rfl hS hw had Ba L7
 rw[y8] at U8;have hle:x+1<=(La row).length:=by rw[qb];omega
 have hz:(((0:Nat)+x+1)<=(La row).length)=True:=by simp only[eq_iff_iff,iff_true];omega
 simp only[Hk,bab,Yaa] at U8;have e4:=mj hb;have t5:IntKind.i64.wrap ((a.1:Int)+1)=((a.1+1:Nat):Int):=Aa (by omega)
 have Z9:=VY (Da Fa 6) R0 R1 S nl B7 rows n (.box (La row)::UH ss) (a.1+1,(Rh x a.2 a.1 0 ss (0,false)).1) hk;simp only[Hk,Oi] at Z9;generalize (Rh x a.2 a.1 0 ss (0,false)).1=left at *
 simp -implicitDefEqProofs only[SP,SA,SQ,sevalprocAttr,Wc,ma,Ma,Fa,e1,hlen,Iaa hq,Iaa Y9,t1,t2,t3,ha,U8,Z9,t5,e4,hz,Iaa hle,Xj,ta,na,Ca,mo,Rn,Uo,Qa,Js,AV.cut,Ic,h0,h1,hr,Hn,Hk]
theorem YV(hb:(Rh x a.2 a.1 0 ss (0,false)).1≠0)(y8:(Rh x a.2 a.1 0 ss (0,false)).2=false)(hk:Vm (a.1+1,(Rh x a.2 a.1 0 ss (0,false)).1) B7 0=none)(hl:B7.length < 64):
 Wc (Da Fa 7) [0,3,4,30] Ma 7 ⟨Hn i x,Hk R0 R1 S nl B7 rows n [.box (La row)]⟩=
  some (.norm,⟨Hn i (x+1:Nat),Hk R0 R1 S false (B7++[(a.1+1,(Rh x a.2 a.1 0 ss (0,false)).1)]) rows n [.box (La (row.set x (B7.length:Int)))]⟩):=by
 have e1:decide ((x:Int) < 256)=true:=Ea (by omega);have hlen:(B7.map Oi).length=B7.length:=by simp
 have hq:Ia (i:Int) B7.length:=by unfold Ia;omega
 have Y9:Ia (x:Int) 256:=by unfold Ia;omega
 have t1:((i:Int)).toNat=i:=by simp
 have t3:((x:Int)).toNat=x:=by simp
 have t2:=ab (i:=x) (n:=256) hx (by unfold maxLen;omega);have U8:=Wr (Da Fa 6) (Hk R0 R1 S nl B7 rows n [.box (La row)]) 3 _ S ss x a.2 a.1 rfl hS hw had Ba L7
 rw[y8] at U8;have hle:x+1<=(La row).length:=by rw[qb];omega
 have hz:(((0:Nat)+x+1)<=(La row).length)=True:=by simp only[eq_iff_iff,iff_true];omega
 simp only[Hk,bab,Yaa] at U8;have e4:=mj hb;have t5:IntKind.i64.wrap ((a.1:Int)+1)=((a.1+1:Nat):Int):=Aa (by omega)
 have Z9:=tS (Da Fa 6) R0 R1 S nl B7 rows n (.box (La row)::UH ss) (a.1+1,(Rh x a.2 a.1 0 ss (0,false)).1) hk hl;simp only[Hk,Oi] at Z9 ⊢;generalize (Rh x a.2 a.1 0 ss (0,false)).1=left at *
 simp -implicitDefEqProofs only[SP,SA,SQ,sevalprocAttr,Wc,ma,Ma,Fa,e1,hlen,Iaa hq,Iaa Y9,t1,t2,t3,ha,U8,Z9,t5,e4,hz,Iaa hle,Xj,ta,na,Ca,mo,Rn,Uo,Qa,Js,AV.cut,Ic,h0,h1,hr,Hn,Hk]
end
section
variable (R0 R1:ba)(S:PV)(nl:Bool)(B7:List Al)(rows:ba)(n:Nat)(row:List Int)(ss:List Ob)(i x:Nat)(a:Al)
 (K7:row.length=256) (hx:x < 256)
 (hi:i < B7.length) (ha:(B7.map Oi)[i]? =some (.agg [i64 a.1,u32 a.2])) (had:a.1 < 4611686018427387904)
 (hS:Uh 2 S (ss.map pf)) (hw:ss.length<=maxLen)
 (Ba:∀ i s,ss[i]? =some s->LB a.2 i=true->a.1 < s.parts.length) (L7:∀ s∈ss,∀ l∈s.parts,l.length * 16<=140737488355328)
include K7 hx hi ha had hS hw Ba L7
theorem FT(hb:(Rh x a.2 a.1 0 ss (0,false)).1≠0)(y8:(Rh x a.2 a.1 0 ss (0,false)).2=false)(hk:Vm (a.1+1,(Rh x a.2 a.1 0 ss (0,false)).1) B7 0=none)(hl:B7.length=64):
 Aw 2 (.pv (.bool false)) R0 (Wc (Da Fa 7) [0,3,4,30] Ma 7 ⟨Hn i x,Hk R0 R1 S nl B7 rows n [.box (La row)]⟩):=by
 have e1:decide ((x:Int) < 256)=true:=Ea (by omega);have hlen:(B7.map Oi).length=B7.length:=by simp
 have hq:Ia (i:Int) B7.length:=by unfold Ia;omega
 have Y9:Ia (x:Int) 256:=by unfold Ia;omega
 have t1:((i:Int)).toNat=i:=by simp
 have t3:((x:Int)).toNat=x:=by simp
 have t2:=ab (i:=x) (n:=256) hx (by unfold maxLen;omega);have U8:=Wr (Da Fa 6) (Hk R0 R1 S nl B7 rows n [.box (La row)]) 3 _ S ss x a.2 a.1 rfl hS hw had Ba L7
 rw[y8] at U8;have hle:x+1<=(La row).length:=by rw[qb];omega
 have hz:(((0:Nat)+x+1)<=(La row).length)=True:=by simp only[eq_iff_iff,iff_true];omega
 simp only[Hk,bab,Yaa] at U8;have e4:=mj hb;have t5:IntKind.i64.wrap ((a.1:Int)+1)=((a.1+1:Nat):Int):=Aa (by omega)
 have Z9:=CY (Da Fa 6) R0 R1 S nl B7 rows n (.box (La row)::UH ss) (a.1+1,(Rh x a.2 a.1 0 ss (0,false)).1) hk hl;simp only[Hk,Oi] at Z9;generalize (Rh x a.2 a.1 0 ss (0,false)).1=left at *
 simp -implicitDefEqProofs only[SP,SA,SQ,sevalprocAttr,Wc,ma,Ma,Fa,e1,hlen,Iaa hq,Iaa Y9,t1,t2,t3,ha,U8,Z9,t5,e4,cG,hz,Iaa hle,Xj,ta,Hn,Hk]
end
def gm(ss:List Ob)(a:Al):List Nat->List Al×List Int->Option (List Al×List Int)
 | [],r=>some r
 |x::xs,r=>match ph ss a x r.1 with
  |some p=>gm ss a xs (p.1,r.2.set x p.2)
  |none=>none
theorem Lu{ss:List Ob}{a:Al}{x:Nat}{xs:List Nat}{r:List Al×List Int}(h:ph ss a x r.1=none):gm ss a (x::xs) r=none:=by
 rw[gm,h]
theorem Gu{ss:List Ob}{a:Al}{x:Nat}{xs:List Nat}{r:List Al×List Int}{p:List Al×Int}(h:ph ss a x r.1=some p):gm ss a (x::xs) r=gm ss a xs (p.1,r.2.set x p.2):=by
 rw[gm,h]
theorem Us{n x:Nat}(h:x < n):(List.range n).drop x=x::(List.range n).drop (x+1):=by
 rw[Paa (by simpa using h)];simp
theorem lE{ss:List Ob}{a:Al}{x:Int}{B7:List Al}{r:List Al×Int}(h:ph ss a x B7=some r)(hl:B7.length<=64):r.1.length<=64/\∃ t,r.1=B7++t:=by
 unfold ph at h
 split at h
 ·injection h with h;subst h;exact⟨hl,[],by simp⟩
 ·split at h
  ·injection h with h;subst h;exact⟨hl,[],by simp⟩
  ·split at h
   ·injection h with h;subst h;exact⟨hl,[],by simp⟩
   ·split at h
    ·injection h with h;subst h;exact⟨by simp;omega,_,rfl⟩
    ·cases h
section
variable (R0 R1:ba)(S:PV)(rows:ba)(n:Nat)(ss:List Ob)
 (h0:qa 7 R0=some R0) (h1:qa 7 R1=some R1) (hr:qa 7 rows=some rows)
 (hS:Uh 2 S (ss.map pf)) (hw:ss.length<=maxLen)
 (L7:∀ s∈ss,∀ l∈s.parts,l.length * 16<=140737488355328)
include h0 h1 hr hS hw L7
theorem zQ{nl:Bool}{B7:List Al}{row:List Int}{i x:Nat}{a:Al}(K7:row.length=256)(hx:x < 256)(ha:B7[i]? =some a)(had:a.1 < 4611686018427387904)(hl:B7.length<=64)
 (Ba:∀ i s,ss[i]? =some s->LB a.2 i=true->a.1 < s.parts.length):
 (∀ r,ph ss a x B7=some r->∃ nl',Wc (Da Fa 7) [0,3,4,30] Ma 7 ⟨Hn i x,Hk R0 R1 S nl B7 rows n [.box (La row)]⟩=
  some (.norm,⟨Hn i (x+1:Nat),Hk R0 R1 S nl' r.1 rows n [.box (La (row.set x r.2))]⟩))/\
 (ph ss a x B7=none->Aw 2 (.pv (.bool false)) R0 (Wc (Da Fa 7) [0,3,4,30] Ma 7 ⟨Hn i x,Hk R0 R1 S nl B7 rows n [.box (La row)]⟩)):=by
 have hi:i < B7.length:=(iaa.1 ha).1
 have ha':(B7.map Oi)[i]? =some (.agg [i64 a.1,u32 a.2]):=by rw[Eaa,ha];rfl
 by_cases hb:(Rh x a.2 a.1 0 ss (0,false)).1=0
 ·have Y7:=(show ph ss a x B7=some (B7,-2) by unfold ph;rw[if_pos hb])
  rw[Y7];exact⟨fun r e=>by injection e with e;subst e;exact⟨nl,kU R0 R1 S nl B7 rows n row ss i x a h0 h1 hr K7 hx hi ha' had hS hw Ba L7 hb⟩,fun e=>by cases e⟩
 by_cases y8:(Rh x a.2 a.1 0 ss (0,false)).2=true
 ·have Y7:=(show ph ss a x B7=some (B7,-1) by unfold ph;rw[kaa hb,if_pos y8])
  rw[Y7];exact⟨fun r e=>by injection e with e;subst e;exact⟨nl,GX R0 R1 S nl B7 rows n row ss i x a h0 h1 hr K7 hx hi ha' had hS hw Ba L7 hb y8⟩,fun e=>by cases e⟩
 have hb3:(Rh x a.2 a.1 0 ss (0,false)).2=false:=by simpa using y8
 cases hk:Vm (a.1+1,(Rh x a.2 a.1 0 ss (0,false)).1) B7 0 with
 |some k=>have Y7:=(show ph ss a x B7=some (B7,(k:Int)) by unfold ph;rw[kaa hb,kaa y8,hk]);rw[Y7];exact⟨fun r e=>by injection e with e;subst e;exact⟨nl,dW R0 R1 S nl B7 rows n row ss i x a h0 h1 hr K7 hx hi ha' had hS hw Ba L7 hb hb3 hk⟩,fun e=>by cases e⟩
 |none=>
  by_cases E7:B7.length < 64
  ·have Y7:=(show ph ss a x B7=some (B7++[(a.1+1,(Rh x a.2 a.1 0 ss (0,false)).1)],(B7.length:Int)) by unfold ph;rw[kaa hb,kaa y8,hk];simp only[if_pos E7])
   rw[Y7];exact⟨fun r e=>by injection e with e;subst e;exact⟨false,YV R0 R1 S nl B7 rows n row ss i x a h0 h1 hr K7 hx hi ha' had hS hw Ba L7 hb hb3 hk E7⟩,fun e=>by cases e⟩
  ·have Y7:=(show ph ss a x B7=none by unfold ph;rw[kaa hb,kaa y8,hk];simp only[kaa E7])
   rw[Y7];exact⟨fun r e=>(by cases e),fun _=>FT R0 R1 S nl B7 rows n row ss i x a K7 hx hi ha' had hS hw Ba L7 hb hb3 hk (by omega)⟩
theorem AX{nl:Bool}{B7:List Al}{row:List Int}{i:Nat}{a:Al}(K7:row.length=256)(ha:B7[i]? =some a)(had:a.1 < 4611686018427387904)(hl:B7.length<=64)
 (Ba:∀ i s,ss[i]? =some s->LB a.2 i=true->a.1 < s.parts.length):
 (∀ r,gm ss a (List.range 256) (B7,row)=some r->∃ nl',Za (ma (oa (Da Fa 7) Ma) (na 7 [0,3,4,30])) ua ⟨Hn i 0,Hk R0 R1 S nl B7 rows n [.box (La row)]⟩=
  some (.exit 2,⟨(Hn i 256).set 31 (.pv (.bool false)),Hk R0 R1 S nl' r.1 rows n [.box (La r.2)]⟩)/\r.1.length<=64/\r.2.length=256/\∃ t,r.1=B7++t)/\
 (gm ss a (List.range 256) (B7,row)=none->Aw 2 (.pv (.bool false)) R0 (Za (ma (oa (Da Fa 7) Ma) (na 7 [0,3,4,30])) ua ⟨Hn i 0,Hk R0 R1 S nl B7 rows n [.box (La row)]⟩)):=by
 generalize N9:List.range 256=xs
 have key:=im (g:=Wc (Da Fa 7) [0,3,4,30] Ma 7)
  (fun x t=>∃ nl' sets' row',t=⟨Hn i x,Hk R0 R1 S nl' sets' rows n [.box (La row')]⟩/\gm ss a xs (B7,row)=gm ss a (xs.drop x) (sets',row')/\sets'.length<=64/\row'.length=256/\∃ t,sets'=B7++t)
  (fun ex t=>(∃ r,ex= .exit 2/\gm ss a xs (B7,row)=some r/\∃ nl',t=⟨(Hn i 256).set 31 (.pv (.bool false)),Hk R0 R1 S nl' r.1 rows n [.box (La r.2)]⟩/\r.1.length<=64/\r.2.length=256/\∃ t,r.1=B7++t)\/
   (ex= .ret/\gm ss a xs (B7,row)=none/\t.env.get 2= .pv (.bool false)/\t.H[0]? =some R0))
  ua 256 0 ⟨Hn i (0:Nat),Hk R0 R1 S nl B7 rows n [.box (La row)]⟩ (by unfold ua;omega) (by omega) ⟨nl,B7,row,rfl,rfl,hl,K7,[],by simp⟩ ?_ ?_
 ·obtain⟨ex,t,h,_,hq⟩:=key
  have h':Za (ma (oa (Da Fa 7) Ma) (na 7 [0,3,4,30])) ua ⟨Hn i 0,Hk R0 R1 S nl B7 rows n [.box (La row)]⟩=some (ex,t):=h;rw[h'];rcases hq with⟨r,rfl,R8,nl',rfl,q1,q2,q3⟩ | ⟨rfl,R8,hg,hg2⟩
  ·refine⟨fun r2 e=> ?_,fun e=> ?_⟩
   ·rw[R8] at e;injection e with e;subst e;exact⟨nl',rfl,q1,q2,q3⟩
   ·rw[R8] at e;cases e
  ·refine⟨fun r2 e=> ?_,fun _=> .mk _ hg hg2⟩
   rw[R8] at e;cases e
 ·rintro x hx t ⟨nl',sets',row',rfl,hrs,Z8,V9,tl,hts⟩
  have ha':sets'[i]? =some a:=by rw[hts,eaa (iaa.1 ha).1];exact ha
  have hd:=Us hx;rw[N9] at hd;have hsr:=zQ R0 R1 S rows n ss h0 h1 hr hS hw L7 (nl:=nl') V9 hx ha' had Z8 Ba;rw[hd] at hrs;cases Y7:ph ss a x sets' with
  |none=>rw[Lu Y7] at hrs;obtain⟨t,g1,g2,g3⟩:=yt (hsr.2 Y7);exact .inr ⟨.ret,t,g1,rfl,.inr ⟨rfl,hrs,g2,g3⟩⟩
  |some r=>
   rw[Gu Y7] at hrs;obtain⟨nl2,g1⟩:=hsr.1 r Y7
   obtain⟨k1,t2,k2⟩:=lE Y7 Z8;exact .inl ⟨_,g1,nl2,r.1,row'.set x r.2,rfl,hrs,k1,by simpa using V9,tl++t2,by rw[k2,hts,Dab]⟩
 ·rintro t ⟨nl',sets',row',rfl,hrs,Z8,V9,tl,hts⟩
  rw[Yab (by rw[<- N9,eac];exact paa _)] at hrs;refine⟨.exit 2,_,?_,rfl,.inl ⟨(sets',row'),rfl,hrs,nl',rfl,Z8,V9,tl,hts⟩⟩;have e1:decide (((256:Nat):Int) < 256)=false:=by decide
  simp -implicitDefEqProofs only[SP,SA,SQ,sevalprocAttr,Wc,ma,Ma,e1,Hn,Hk]
end
def Ah(rs:List (List Int)):ba:= .seq 256 true (rs.flatMap La) 0 rs.isEmpty
theorem tv(l:List Int):La l=(l.map i64).map .pv:=by simp[La]
theorem Ev(l:List Int):Tc (La l)=some (l.map i64):=by
 rw[tv]
 induction l with
 |nil=>rfl
 |cons a l ih=>simp only[lab,Tc,ih,Haa]
theorem MH(l:List Int):(La l).all AV.one=true:=by
 induction l with
 |nil=>rfl
 |cons a l ih=>simp only[La,lab,wac,AV.one,oab] at ih ⊢;exact ih
theorem U4:List.map AV.pv (List.replicate 256 (PV.int .i64 0))=La (List.replicate 256 0):=by
 simp only[La,kad]
theorem zA{α:Type}:∀ (vs cs pre:List α),cs.length=vs.length->fa (pre++cs) pre.length vs=pre++vs
 | [],cs,pre,h=>by simp at h;subst h;rfl
 |v::vs,c::cs,pre,h=>by
  rw[fa];have h1:(pre++c::cs).set pre.length v=(pre++[v])++cs:=by rw[Jab _ _ (paa _)];simp
  rw[h1];have:=zA vs cs (pre++[v]) (by simpa using h);simp only[raa,Oaa,pab,Zaa] at this;rw[this];simp
 |_::_,[],_,h=>by simp at h
theorem ay(n d:Nat)(rs:List (List Int)):(rs.flatMap La).all (AV.oe n d)=true:=by
 rw[Taa];intro v hv;rw[List.mem_flatMap] at hv;obtain⟨r,_,hv⟩:=hv;simp only[La,fab] at hv;obtain⟨x,_,rfl⟩:=hv;cases d <;> rfl
theorem FF:∀ {rs:List (List Int)},(∀ r∈rs,r.length=256)->(rs.flatMap La).length=rs.length * 256
 | [],_=>rfl
 |r::rs,h=>by have:=FF (rs:=rs) (fun x hx=>h x (by simp[hx]));simp only[Yac,raa,qb,h r (by simp),this,Oaa];omega
abbrev JC(i:Int):Tr:=(Tr.lf.set 3 (.pv (i64 i))).set 0 (.ptr 3 0)
section
variable (R0 R1:ba)(S:PV)(nl:Bool)(B7:List Al)(rs:List (List Int))(ss:List Ob)(i:Nat)
 (h0:qa 7 R0=some R0) (h1:qa 7 R1=some R1) (g0:qa 6 R0=some R0) (g1:qa 6 R1=some R1)
 (hi:i < B7.length) (hl:B7.length<=64) (hrl:rs.length<=64) (hrr:∀ r∈rs,r.length=256)
include h0 h1 g0 g1 hi hl hrl hrr
theorem RU(nl':Bool)(sets':List Al)(row:List Int)(K7:row.length=256)
 (hrowL:Za (ma (oa (Da Fa 7) Ma) (na 7 [0,3,4,30])) ua ⟨Hn i 0,Hk R0 R1 S nl B7 (Ah rs) rs.length [.box (La (List.replicate 256 0))]⟩=
  some (.exit 2,⟨(Hn i 256).set 31 (.pv (.bool false)),Hk R0 R1 S nl' sets' (Ah rs) rs.length [.box (La row)]⟩)):
 Wc (Da Fa 7) [0,3] yb 6 ⟨JC i,Hk R0 R1 S nl B7 (Ah rs) rs.length []⟩=
  some (.norm,⟨JC (i+1:Nat),Hk R0 R1 S nl' sets' (Ah (rs++[row])) (rs.length+1) []⟩):=by
 have hlen:(B7.map Oi).length=B7.length:=by simp
 have e1:decide ((i:Int) < (B7.length:Int))=true:=Ea (by omega);have t2:=ab (i:=i) (n:=64) (by omega) (by unfold maxLen;omega);have p0:((La row).length=256)=True:=by rw[qb,K7];exact eq_self _
 have p1:(256<=(La row).length)=True:=by rw[qb,K7];exact Iaa (paa _)
 have p2:List.take 256 (La row)=La row:=Saa (by rw[qb,K7];exact paa _)
 have p3:=Ev row;have p4:((row.map i64).length=256)=True:=by rw[haa,K7];exact eq_self _
 have p5:(256<=(La (List.replicate 256 0)).length)=True:=by rw[qb,Xab];exact Iaa (paa _)
 have p6:fa (La (List.replicate 256 0)) 0 (La row)=La row:=by have:=zA (La row) (La (List.replicate 256 0)) [] (by rw[qb,qb,K7,Xab]);rw[Yaa,Yaa] at this;exact this
 have p7:=MH row;have p8:List.take 256 (row.map i64)=row.map i64:=Saa (by rw[haa,K7];exact paa _)
 have p9:(row.map i64).map AV.pv=La row:=(tv row).symm
 have q1:(rs.length * 256=(rs.flatMap La).length)=True:=by rw[FF hrr];exact eq_self _
 have q2:eb (rs.length+1) 2048:=by unfold eb;omega
 have q3:(rs++[row]).flatMap La=rs.flatMap La++La row:=by rw[List.flatMap_append,Yac,Iae,wab]
 have q4:(rs++[row]).isEmpty=false:=by cases rs <;> rfl
 have q5:=ay 7 6 rs;have q6:=ay 6 6 (rs++[row]);rw[q3] at q6;simp only[Hn,Hk,Ah,Int.cast_ofNat_Int] at hrowL;unfold Hk Ah;rw[q3,q4];have hz2:=U4;generalize hz:List.replicate 256 (0:Int)=zs at *
 simp -implicitDefEqProofs only[SP,SA,SQ,sevalprocAttr,-List.reduceReplicate,Wc,ma,yb,hlen,e1,Db,na,Ca,mo,Rn,Uo,Vu,Qa,Js,AV.cut,Ic,h0,h1,g0,g1,JC,hz2,q5];rw[hrowL];simp -implicitDefEqProofs only[SP,SA,SQ,sevalprocAttr,-List.reduceReplicate,wab,hlen,t2,p0,p1,p2,p3,p4,p5,p6,p7,p8,p9,q1,Iaa q2,q5,q6,jj,AV.YE,AV.Pq,hz2,pk,na,Ca,mo,Rn,Uo,Vu,Qa,Js,AV.cut,Ic,h0,h1,g0,g1]
end
theorem wrap_u32{n:Nat}(h:n < 4294967296):IntKind.u32.wrap (n:Int)=(n:Int):=by
 have e:IntKind.u32.wrap (n:Int)=(n:Int) % 4294967296:=by simp[IntKind.signed,IntKind.wrap,IntKind.bits]
 rw[e];omega
theorem lY{a b:Nat}(ha:a < 4294967296)(hb:b < 4294967296):(BitVec.ofInt IntKind.u32.bits (a:Int) &&& BitVec.ofInt IntKind.u32.bits (b:Int)).toNat=a &&& b:=by
 show (BitVec.ofInt 32 (a:Int) &&& BitVec.ofInt 32 (b:Int)).toNat=_
 rw[BitVec.toNat_and,BitVec.ofInt_natCast,BitVec.ofInt_natCast,BitVec.toNat_ofNat,BitVec.toNat_ofNat,Bae ha,Bae hb]
theorem JZ{a b:Nat}(ha:a < 4294967296)(hb:b < 4294967296):(BitVec.ofInt IntKind.u32.bits (a:Int) ||| BitVec.ofInt IntKind.u32.bits (b:Int)).toNat=a ||| b:=by
 show (BitVec.ofInt 32 (a:Int) ||| BitVec.ofInt 32 (b:Int)).toNat=_
 rw[BitVec.toNat_or,BitVec.ofInt_natCast,BitVec.ofInt_natCast,BitVec.toNat_ofNat,BitVec.toNat_ofNat,Bae ha,Bae hb]
theorem rM{n i:Nat}(hn:n < 4294967296)(hi:i < 32):LB (n:Int) i=n.testBit i:=by
 have hm:min i IntKind.u32.bits=i:=by show min i 32=i;omega
 have hf:(n:Int).fdiv (2 ^ i)=((n / 2 ^ i:Nat):Int):=by rw[show ((2:Int) ^ i)=((2 ^ i:Nat):Int) by push_cast;rfl];exact (Int.ofNat_fdiv n (2 ^ i)).symm
 have hle:n / 2 ^ i < 4294967296:=Nat.lt_of_le_of_lt (Nat.div_le_self _ _) hn
 have e:(BitVec.ofInt IntKind.u32.bits ((n / 2 ^ i:Nat):Int) &&& BitVec.ofInt IntKind.u32.bits 1).toNat=n / 2 ^ i % 2:=by have:=lY hle (show 1 < 4294967296 by decide);rw[Nat.and_one_is_mod] at this;exact this
 unfold LB;rw[hm,hf,e,wrap_u32 (by omega),Nat.testBit_eq_decide_div_mod_eq];rcases Nat.mod_two_eq_zero_or_one (n / 2 ^ i) with h | h <;> rw[h] <;> rfl
theorem ZZ{n i:Nat}(hn:n < 4294967296)(hi:i < 32):O5 (n:Int) i=((n ||| 2 ^ i:Nat):Int):=by
 have hm:min i IntKind.u32.bits=i:=by show min i 32=i;omega
 have hp:2 ^ i < 4294967296:=by
  have:(2:Nat) ^ i < 2 ^ 32:=Nat.pow_lt_pow_right (by decide) hi
  simpa using this
 have h2:IntKind.u32.wrap (1 * 2 ^ i)=((2 ^ i:Nat):Int):=by rw[Mae,show ((2:Int) ^ i)=((2 ^ i:Nat):Int) by push_cast;rfl,wrap_u32 hp]
 unfold O5;rw[hm,h2,JZ hn hp,wrap_u32];exact Nat.or_lt_two_pow (n:=32) hn hp
def qv(x:Int)(bits d:Nat):Nat->List Ob->Nat×Bool->Nat×Bool
 |_,[],acc=>acc
 |i,s::r,acc=>qv x bits d (i+1) r (if bits.testBit i&&Iu s d x then (acc.1 ||| 2 ^ i,acc.2||(s.parts.length==d+1)) else acc)
theorem QL{x:Int}{bits d:Nat}:∀ (ss:List Ob)(i:Nat)(acc:Nat×Bool),i+ss.length<=32->acc.1 < 4294967296->(qv x bits d i ss acc).1 < 4294967296
 | [],i,acc,_,h=>h
 |s::r,i,acc,hl,h=>by
  rw[qv];refine QL r (i+1) _ (by simp only[Oaa] at hl;omega) ?_
  split
  ·refine Nat.or_lt_two_pow (n:=32) h ?_
   exact Nat.pow_lt_pow_right (by decide) (by simp only[Oaa] at hl;omega)
  ·exact h
theorem HP{x:Int}{bits d:Nat}(hb:bits < 4294967296):∀ (ss:List Ob)(i:Nat)(acc:Nat×Bool),i+ss.length<=32->acc.1 < 4294967296->
 Rh x (bits:Int) d i ss ((acc.1:Int),acc.2)=(((qv x bits d i ss acc).1:Int),(qv x bits d i ss acc).2)
 | [],i,acc,_,h=>rfl
 |s::r,i,acc,hl,h=>by
  have hi:i < 32:=by simp only[Oaa] at hl;omega
  rw[Rh,qv,rM hb hi,ZZ h hi];have h2:(acc.1 ||| 2 ^ i) < 4294967296:=Nat.or_lt_two_pow (n:=32) h (Nat.pow_lt_pow_right (by decide) hi)
  have ih:=HP (x:=x) (d:=d) hb r (i+1) (if bits.testBit i&&Iu s d x then (acc.1 ||| 2 ^ i,acc.2||(s.parts.length==d+1)) else acc)
   (by simp only[Oaa] at hl;omega) (by split;exact h2;exact h)
  rw[<- ih];cases bits.testBit i&&Iu s d x <;> rfl
theorem RC{x:Int}{bits d:Nat}:∀ (ss:List Ob)(i:Nat)(acc:Nat×Bool)(j:Nat),
 (qv x bits d i ss acc).1.testBit j=(acc.1.testBit j||(decide (i<=j)&&(match ss[j - i]? with | some s=>bits.testBit j&&Iu s d x | none=>false)))
 | [],i,acc,j=>by simp[qv]
 |s::r,i,acc,j=>by
  rw[qv,RC r (i+1)]
  by_cases hij:i=j
  ·subst hij
   simp only[ead,dab,paa,decide_true,oab];have:decide (i+1<=i)=false:=by simp
   rw[this,Iac,cae];cases h:(bits.testBit i&&Iu s d x) with
   |true=>simp[Nat.testBit_or,Nat.testBit_two_pow_self]
   |false=>simp
  ·have e1:(if (bits.testBit i&&Iu s d x)=true then (acc.1 ||| 2 ^ i,acc.2||s.parts.length==d+1) else acc).1.testBit j=acc.1.testBit j:=by
    split
    ·simp only[Nat.testBit_or,Nat.testBit_two_pow_of_ne hij,cae]
    ·rfl
   rw[e1]
   by_cases E7:i+1<=j
   ·have e2:j - i=(j - (i+1))+1:=by omega
    have e3:decide (i<=j)=decide (i+1<=j):=by simp;omega
    rw[e2,e3,eab]
   ·have e3:decide (i<=j)=false:=by simp;omega
    have e4:decide (i+1<=j)=false:=by simp;omega
    rw[e3,e4];rfl
theorem CC{x:Int}{bits d:Nat}:∀ (ss:List Ob)(i:Nat)(acc:Nat×Bool),
 (qv x bits d i ss acc).2=(acc.2||(ss.zipIdx i).any fun p=>bits.testBit p.2&&Iu p.1 d x&&(p.1.parts.length==d+1))
 | [],i,acc=>by simp[qv]
 |s::r,i,acc=>by
  rw[qv,CC r (i+1),List.zipIdx_cons,List.any_cons];cases h:(bits.testBit i&&Iu s d x) with
  |true=>simp[Bool.or_assoc]
  |false=>simp
def zM(ss:List Ob)(k:Nat)(a:Al):Prop:=
 a.1<=k/\∃ b:Nat,a.2=(b:Int)/\b < 4294967296/\∀ i s,ss[i]? =some s->b.testBit i=true->a.1 < s.parts.length
def uo(ss:List Ob)(B7:List Al):Prop:=B7.length<=64/\∀ k a,B7[k]? =some a->zM ss k a
theorem zM.Ba{ss:List Ob}{k:Nat}{a:Al}(h:zM ss k a)(hl:ss.length<=32):∀ i s,ss[i]? =some s->LB a.2 i=true->a.1 < s.parts.length:=by
 obtain⟨_,b,e,hb,h⟩:=h;intro i s hs ht;have hi:i < 32:=by have:=(iaa.1 hs).1;omega
 rw[e,rM hb hi] at ht;exact h i s hs ht
theorem S3{ss:List Ob}{k:Nat}{a:Al}{x:Int}(h:zM ss k a)(hl:ss.length<=32)(hf:(Rh x a.2 a.1 0 ss (0,false)).2=false):
 zM ss (k+1) (a.1+1,(Rh x a.2 a.1 0 ss (0,false)).1):=by
 obtain⟨hk,b,e,hb,h⟩:=h;have hN:Rh x (b:Int) a.1 0 ss (0,false)=(((qv x b a.1 0 ss (0,false)).1:Int),(qv x b a.1 0 ss (0,false)).2):=HP (x:=x) (d:=a.1) hb ss 0 (0,false) (by omega) (by decide)
 rw[e,hN] at hf;rw[e,hN];have E7:=QL (x:=x) (bits:=b) (d:=a.1) ss 0 (0,false) (by omega) (by decide);refine⟨Nat.succ_le_succ hk,_,rfl,E7,?_⟩;intro i s hs ht;rw[RC] at ht;simp only[Nat.zero_testBit,Jac,decide_true,oab,Pad,pae,hs] at ht;have hd:=h i s hs (by revert ht;cases b.testBit i <;> simp);have hf':(qv x b a.1 0 ss (0,false)).2=false:=hf
 rw[CC,Pad,List.any_eq_false] at hf';have:=hf' (s,i) (by rw[List.mk_mem_zipIdx_iff_getElem?];exact hs);show a.1+1 < s.parts.length
 simp only[ht,oab] at this;have h2:¬s.parts.length=a.1+1:=by simpa using this
 omega
theorem zG{ss:List Ob}{a:Al}{x:Int}{B7:List Al}{r:List Al×Int}{k:Nat}(hs:uo ss B7)(ha:B7[k]? =some a)(hl:ss.length<=32)(h:ph ss a x B7=some r):
 uo ss r.1/\∃ t,r.1=B7++t:=by
 have hk:=hs.2 k a ha
 unfold ph at h
 split at h
 ·injection h with h;subst h;exact⟨hs,[],by simp⟩
 ·split at h
  ·injection h with h;subst h;exact⟨hs,[],by simp⟩
  ·next hf=>
   split at h
   ·injection h with h;subst h;exact⟨hs,[],by simp⟩
   ·split at h
    ·next E7=>
     injection h with h;subst h
     refine⟨⟨by simp;omega,?_⟩,_,rfl⟩;intro j b hb;rcases Qaa j B7.length with h1 | h1
     ·rw[eaa h1] at hb;exact hs.2 j b hb
     ·rw[Kaa h1] at hb
      cases hj:j - B7.length with
      |succ n=>rw[hj] at hb;simp at hb
      |zero=>
       rw[hj] at hb;simp only[dab,caa] at hb;subst hb;have hkl:=(iaa.1 ha).1
       obtain⟨g1,g2⟩:=S3 hk hl (by simpa using hf);exact⟨mac g1 (by omega),g2⟩
    ·cases h
theorem Ew{ss:List Ob}{a:Al}{k:Nat}(hl:ss.length<=32):∀ (xs:List Nat)(r r':List Al×List Int),uo ss r.1->r.1[k]? =some a->gm ss a xs r=some r'->
 uo ss r'.1/\(∃ t,r'.1=r.1++t)/\r'.2.length=r.2.length
 | [],r,r',h,_,e=>by injection e with e;subst e;exact⟨h,⟨[],by simp⟩,rfl⟩
 |x::xs,r,r',h,ha,e=>by
  cases Y7:ph ss a x r.1 with
  |none=>rw[Lu Y7] at e;cases e
  |some p=>rw[Gu Y7] at e;obtain⟨g1,t,g2⟩:=zG h ha hl Y7;obtain⟨k1,⟨t',k2⟩,k3⟩:=Ew hl xs (p.1,r.2.set x p.2) r' g1 (by rw[g2,eaa (iaa.1 ha).1];exact ha) e;exact⟨k1,⟨t++t',by rw[k2,g2,Dab]⟩,by rw[k3];simp⟩
def fb:List Int:=List.replicate 256 0
theorem nv:fb.length=256:=Xab
def rh(ss:List Ob):Nat->List Al×List (List Int)->Option (List Al×List (List Int))
 |0,r=>some r
 |k+1,r=>match r.1[r.2.length]? with
  |none=>some r
  |some a=>match gm ss a (List.range 256) (r.1,fb) with
   |none=>none
   |some p=>rh ss k (p.1,r.2++[p.2])
theorem Hv{ss:List Ob}{k:Nat}{r:List Al×List (List Int)}(h:r.1[r.2.length]? =none):rh ss k r=some r:=by
 cases k with
 |zero=>rfl
 |succ k=>rw[rh,h]
theorem iw{ss:List Ob}{k:Nat}{r:List Al×List (List Int)}{a:Al}(h:r.1[r.2.length]? =some a)(h2:gm ss a (List.range 256) (r.1,fb)=none):rh ss (k+1) r=none:=by
 rw[rh,h];simp only[h2]
theorem ux{ss:List Ob}{k:Nat}{r:List Al×List (List Int)}{a:Al}{p:List Al×List Int}(h:r.1[r.2.length]? =some a)(h2:gm ss a (List.range 256) (r.1,fb)=some p):rh ss (k+1) r=rh ss k (p.1,r.2++[p.2]):=by
 rw[rh,h];simp only[h2]
section
variable (R0 R1:ba)(S:PV)(nl:Bool)(B7:List Al)(rs:List (List Int))(ss:List Ob)(i:Nat)
theorem KX(h0:qa 7 R0=some R0)(h1:qa 7 R1=some R1)(hi:i < B7.length)(hl:B7.length<=64)
 (hrowL:Aw 2 (.pv (.bool false)) R0 (Za (ma (oa (Da Fa 7) Ma) (na 7 [0,3,4,30])) ua ⟨Hn i 0,Hk R0 R1 S nl B7 (Ah rs) rs.length [.box (La (List.replicate 256 0))]⟩)):
 Aw 2 (.pv (.bool false)) R0 (Wc (Da Fa 7) [0,3] yb 6 ⟨JC i,Hk R0 R1 S nl B7 (Ah rs) rs.length []⟩):=by
 have hlen:(B7.map Oi).length=B7.length:=by simp
 have e1:decide ((i:Int) < (B7.length:Int))=true:=Ea (by omega);have q5:=ay 7 6 rs;obtain⟨t,g1,g2,g3⟩:=yt hrowL;simp only[Hn,Hk,Ah,Int.cast_ofNat_Int] at g1;unfold Hk Ah;have hz2:=U4;generalize hz:List.replicate 256 (0:Int)=zs at *
 simp -implicitDefEqProofs only[SP,SA,SQ,sevalprocAttr,-List.reduceReplicate,Wc,ma,yb,hlen,e1,Db,na,Ca,mo,Rn,Uo,Vu,Qa,Js,AV.cut,Ic,h0,h1,JC,hz2,q5];rw[g1];simp -implicitDefEqProofs only[SP,SA,SQ,sevalprocAttr,-List.reduceReplicate,cG,g2,g3]
theorem qM(hi:i=B7.length):
 Wc (Da Fa 7) [0,3] yb 6 ⟨JC i,Hk R0 R1 S nl B7 (Ah rs) rs.length []⟩=
  some (.exit 0,⟨(((((((JC i).set 21 (.pv (i64 i))).set 22 (.ptr 3 0)).set 23 (.ptr 3 0)).set 24 (.ptr 3 2)).set 25 (.uq 4 nl 2 (B7.map Oi))).set 26 (.pv (i64 B7.length))).set 27 (.pv (.bool false)),Hk R0 R1 S nl B7 (Ah rs) rs.length []⟩):=by
 have hlen:(B7.map Oi).length=B7.length:=by simp
 have e1:decide ((i:Int) < (B7.length:Int))=false:=Ga (by omega);simp -implicitDefEqProofs only[SP,SA,SQ,sevalprocAttr,-List.reduceReplicate,Wc,ma,yb,hlen,e1,JC,Hk]
theorem nV(n:Nat):qa n (Ah rs)=some (Ah rs):=by
 have:(rs.flatMap La).all (AV.oe n deep)=true:=ay n deep rs
 unfold Ah;rw[Vu,if_pos this]
theorem dU(h0:qa 7 R0=some R0)(h1:qa 7 R1=some R1)(g0:qa 6 R0=some R0)(g1:qa 6 R1=some R1)
 (hS:Uh 2 S (ss.map pf)) (hw:ss.length<=32) (L7:∀ s∈ss,∀ l∈s.parts,l.length * 16<=140737488355328) (Ba:uo ss B7) (h1s:B7.length<=1):
 (∀ r,rh ss 64 (B7,[])=some r->∃ E nl',Za (ma (oa (Da Fa 7) yb) (na 6 [0,3])) ua ⟨JC 0,Hk R0 R1 S nl B7 (Ah []) 0 []⟩=
  some (.exit 0,⟨E,Hk R0 R1 S nl' r.1 (Ah r.2) r.2.length []⟩)/\uo ss r.1/\r.2.length=r.1.length/\∀ r'∈r.2,r'.length=256)/\
 (rh ss 64 (B7,[])=none->Aw 2 (.pv (.bool false)) R0 (Za (ma (oa (Da Fa 7) yb) (na 6 [0,3])) ua ⟨JC 0,Hk R0 R1 S nl B7 (Ah []) 0 []⟩)):=by
 have key:=im (g:=Wc (Da Fa 7) [0,3] yb 6)
  (fun i t=>∃ nl' sets' W9,t=⟨JC i,Hk R0 R1 S nl' sets' (Ah W9) W9.length []⟩/\rh ss 64 (B7,[])=rh ss (64 - i) (sets',W9)/\uo ss sets'/\W9.length=i/\i<=sets'.length/\∀ r∈W9,r.length=256)
  (fun ex t=>(∃ r,ex= .exit 0/\rh ss 64 (B7,[])=some r/\∃ E nl',t=⟨E,Hk R0 R1 S nl' r.1 (Ah r.2) r.2.length []⟩/\uo ss r.1/\r.2.length=r.1.length/\∀ r'∈r.2,r'.length=256)\/
   (ex= .ret/\rh ss 64 (B7,[])=none/\t.env.get 2= .pv (.bool false)/\t.H[0]? =some R0))
  ua 64 0 ⟨JC (0:Nat),Hk R0 R1 S nl B7 (Ah []) 0 []⟩ (by unfold ua;omega) (by omega) ⟨nl,B7,[],rfl,rfl,Ba,rfl,by omega,by simp⟩ ?_ ?_
 ·obtain⟨ex,t,h,_,hq⟩:=key
  have h':Za (ma (oa (Da Fa 7) yb) (na 6 [0,3])) ua ⟨JC 0,Hk R0 R1 S nl B7 (Ah []) 0 []⟩=some (ex,t):=h;rw[h'];rcases hq with⟨r,rfl,R8,E,nl',rfl,q1,q2,q3⟩ | ⟨rfl,R8,hg,hg2⟩
  ·refine⟨fun r2 e=> ?_,fun e=> ?_⟩
   ·rw[R8] at e;injection e with e;subst e;exact⟨E,nl',rfl,q1,q2,q3⟩
   ·rw[R8] at e;cases e
  ·refine⟨fun r2 e=> ?_,fun _=> .mk _ hg hg2⟩
   rw[R8] at e;cases e
 ·rintro i hi t ⟨nl',sets',W9,rfl,hws,T8,hrl,hil,hrr⟩
  by_cases E7:i < sets'.length
  ·obtain⟨a,ha⟩:∃ a,sets'[i]? =some a:=⟨sets'[i],by simp[E7]⟩
   have hsa:=T8.2 i a ha
   have T9:sets'[W9.length]? =some a:=by rw[hrl];exact ha
   have K7:=AX R0 R1 S (Ah W9) W9.length ss h0 h1 (nV W9 7) hS (by unfold maxLen;omega) L7 (nl:=nl') nv ha (by have:=hsa.1;omega) T8.1 (hsa.Ba hw)
   have e64:64 - i=(64 - (i+1))+1:=by omega
   cases hr:gm ss a (List.range 256) (sets',fb) with
   |none=>
    have Y7:=KX R0 R1 S nl' sets' W9 i h0 h1 E7 T8.1 (K7.2 hr)
    obtain⟨t,k1,k2,k3⟩:=yt Y7;rw[e64,iw (r:=(sets',W9)) T9 hr] at hws;exact .inr ⟨.ret,t,k1,rfl,.inr ⟨rfl,hws,k2,k3⟩⟩
   |some p=>
    obtain⟨nl2,k1,k2,k3,k4⟩:=K7.1 p hr
    have hro:=Ew hw _ _ _ T8 ha hr;rw[e64,ux (r:=(sets',W9)) T9 hr] at hws;have hsr:=RU R0 R1 S nl' sets' W9 i h0 h1 g0 g1 E7 T8.1 (by have:=T8.1;omega) hrr nl2 p.1 p.2 k3 k1
    refine .inl ⟨_,hsr,nl2,p.1,W9++[p.2],by simp,hws,hro.1,by simp[hrl],?_,?_⟩
    ·obtain⟨t,ht⟩:=k4
     rw[ht];simp;omega
    ·intro r hr
     rcases Jaa.1 hr with h | h
     ·exact hrr r h
     ·simp at h;subst h;exact k3
  ·have hie:i=sets'.length:=by omega
   rw[Hv (r:=(sets',W9)) (by show sets'[W9.length]? =none;rw[hrl,hie];simp)] at hws;exact .inr ⟨.exit 0,_,qM R0 R1 S nl' sets' W9 i hie,rfl,.inl ⟨(sets',W9),rfl,hws,_,nl',rfl,T8,by show W9.length=sets'.length;omega,hrr⟩⟩
 ·rintro t ⟨nl',sets',W9,rfl,hws,T8,hrl,hil,hrr⟩
  have hie:64=sets'.length:=by have:=T8.1;omega
  rw[Hv (r:=(sets',W9)) (by show sets'[W9.length]? =none;rw[hrl,hie];simp)] at hws;exact⟨.exit 0,_,qM R0 R1 S nl' sets' W9 64 hie,rfl,.inl ⟨(sets',W9),rfl,hws,_,nl',rfl,T8,by show W9.length=sets'.length;omega,hrr⟩⟩
end
abbrev Ri(R0 R1:ba)(S:PV)(nl nr:Bool)(fr:Nat)(B7:List Al)(C:List Int)(n:Nat)(T:List ba):List ba:=
 R0::R1:: .map (KE B7 0):: .box [.pv S,.mp 2,.uq 4 nl 2 (B7.map Oi),.own 5 n]:: .tok 2 B7.length nl:: .seq 256 true (La C) fr nr::T
abbrev fj(row:List Int):PV:= .agg (row.map i64)
abbrev nB(n:Nat)(row:List Int)(i x:Int):Tr:=
 (((((Tr.lf.set 34 (.pv (i64 x))).set 33 (.pv (fj row))).set 5 (.pv (i64 i))).set 4 (.mp 7)).set 3 (.own 6 n)).set 0 (.ptr 3 0)
section
variable (call:Sa)(R0 R1:ba)(S:PV)(nl nr nk:Bool)(fr fk:Nat)(B7:List Al)(C:List Int)(n:Nat)(Ac:List Int)(M:ba)(row:List Int)(i x:Nat)(to:Int)
theorem cP(hx:x < 256)(E8:row[x]? =some to)(h:to < 0):ma (oa call xc) (fun s=>some (tidy [0,3,4,5,33,34] s)) ⟨nB n row i x,Ri R0 R1 S nl nr fr B7 C n [.seq 1 false (La Ac) fk nk,M]⟩=
 some (.norm,⟨nB n row i (x+1:Nat),Ri R0 R1 S nl nr fr B7 C n [.seq 1 false (La Ac) fk nk,M]⟩):=by
 have e1:decide ((x:Int) < 256)=true:=Ea (by omega);have e2:decide (to>=0)=false:=Ga (by omega);have hq:Ia (x:Int) 256:=by unfold Ia;omega
 have t1:((x:Int)).toNat=x:=by simp
 have t2:=ab (i:=x) (n:=256) hx (by unfold maxLen;omega);have ht:(row.map i64)[x]? =some (i64 to):=by rw[Eaa,E8];rfl
 simp -implicitDefEqProofs only[SP,SA,SQ,sevalprocAttr,-List.reduceReplicate,ma,xc,e1,e2,Iaa hq,t1,t2,ht,Im,ta,tidy,Gc,nB,Ri]
theorem ZT(hC:C.length=n * 256)(hk:Ac.length=n)(H9:fr<=n * 256)(hfk:fk<=n)(hi:i < n)(hx:x < 256)(E8:row[x]? =some to)(h:0<=to){v:Int}(hv:Ac[to.toNat]? =some v):ma (oa call xc) (fun s=>some (tidy [0,3,4,5,33,34] s)) ⟨nB n row i x,Ri R0 R1 S nl nr fr B7 C n [.seq 1 false (La Ac) fk nk,M]⟩=
 some (.norm,⟨nB n row i (x+1:Nat),Ri R0 R1 S nl nr (n * 256) B7 (C.set (i * 256+x) v) n [.seq 1 false (La Ac) fk nk,M]⟩):=by
 have e1:decide ((x:Int) < 256)=true:=Ea (by omega);have e2:decide (to>=0)=true:=Ea (by omega);have hq:Ia (x:Int) 256:=by unfold Ia;omega
 have t1:((x:Int)).toNat=x:=by simp
 have t3:((i:Int)).toNat=i:=by simp
 have t2:=ab (i:=x) (n:=256) hx (by unfold maxLen;omega);have ht:(row.map i64)[x]? =some (i64 to):=by rw[Eaa,E8];rfl
 have hv':(La Ac)[to.toNat]? =some (.pv (i64 v)):=by rw[La,Eaa,hv];rfl
 have hvl:=(iaa.1 hv).1
 have Y9:Ia to n:=by unfold Ia;omega
 have hq3:Ia (i:Int) n:=by unfold Ia;omega
 have w1:Mi 1 n fk (La Ac).length:=by rw[qb];unfold Mi;omega
 have w2:Mi 256 n fr (La C).length:=by rw[qb];unfold Mi;omega
 have w3:((La Ac).length=n)=True:=by rw[qb];exact Iaa hk
 have w5:(i * 256+x+1<=n * 256)=True:=Iaa (by omega);have w4:((La C).length=n * 256)=True:=by rw[qb];exact Iaa hC
 simp -implicitDefEqProofs only[SP,SA,SQ,sevalprocAttr,-List.reduceReplicate,ma,xc,e1,e2,Iaa hq,Iaa Y9,Iaa hq3,Iaa w1,Iaa w2,w3,w4,w5,t1,t2,t3,ht,hv',Im,ta,Xj,tidy,Gc,nB,Ri]
def ee(Ac row:List Int)(i:Nat):List Nat->List Int->List Int
 | [],C=>C
 |x::xs,C=>ee Ac row i xs (match row[x]? with
  |some to=>if 0<=to then C.set (i * 256+x) (Ac.getD to.toNat 0) else C
  |none=>C)
theorem Bn(Ac row:List Int)(i:Nat):∀ (xs:List Nat)(C:List Int),(ee Ac row i xs C).length=C.length
 | [],C=>rfl
 |x::xs,C=>by
  rw[ee,Bn Ac row i xs]
  split
  ·split <;> simp
  ·rfl
theorem kM(hC:C.length=n * 256)(hk:Ac.length=n)(H9:fr=0\/fr=n * 256)(hfk:fk<=n)(hi:i < n)(K7:row.length=256)(E8:∀ to∈row,to < n):
 ∃ fr',(fr'=0\/fr'=n * 256)/\Za (ma (oa call xc) (fun s=>some (tidy [0,3,4,5,33,34] s))) ua ⟨nB n row i 0,Ri R0 R1 S nl nr fr B7 C n [.seq 1 false (La Ac) fk nk,M]⟩=
  some (.exit 2,⟨(nB n row i 256).set 35 (.pv (.bool false)),Ri R0 R1 S nl nr fr' B7 (ee Ac row i (List.range 256) C) n [.seq 1 false (La Ac) fk nk,M]⟩):=by
 generalize N9:List.range 256=xs
 have key:=im (g:=ma (oa call xc) (fun s=>some (tidy [0,3,4,5,33,34] s)))
  (fun x t=>∃ fr' C',(fr'=0\/fr'=n * 256)/\C'.length=n * 256/\t=⟨nB n row i x,Ri R0 R1 S nl nr fr' B7 C' n [.seq 1 false (La Ac) fk nk,M]⟩/\ee Ac row i xs C=ee Ac row i (xs.drop x) C')
  (fun ex t=>∃ fr',(fr'=0\/fr'=n * 256)/\ex= .exit 2/\t=⟨(nB n row i 256).set 35 (.pv (.bool false)),Ri R0 R1 S nl nr fr' B7 (ee Ac row i xs C) n [.seq 1 false (La Ac) fk nk,M]⟩)
  ua 256 0 ⟨nB n row i (0:Nat),Ri R0 R1 S nl nr fr B7 C n [.seq 1 false (La Ac) fk nk,M]⟩ (by unfold ua;omega) (by omega) ⟨fr,C,H9,hC,rfl,rfl⟩ ?_ ?_
 ·obtain⟨ex,t,h,_,fr',q1,rfl,rfl⟩:=key
  exact⟨fr',q1,h⟩
 ·rintro x hx t ⟨fr',C',hf',hC',rfl,hl⟩
  have hd:=Us hx;rw[N9] at hd;rw[hd] at hl;obtain⟨to,ht⟩:∃ to,row[x]? =some to:=⟨row[x],by simp[K7,hx]⟩;have E7:=E8 to (nab ht)
  by_cases h0:0<=to
  ·obtain⟨v,hv⟩:∃ v,Ac[to.toNat]? =some v:=⟨Ac[to.toNat]'(by omega),by rw[aaa]⟩
   refine .inl ⟨_,ZT call R0 R1 S nl nr nk fr' fk B7 C' n Ac M row i x to hC' hk (by omega) hfk hi hx ht h0 hv,n * 256,_,.inr rfl,by simpa using hC',rfl,?_⟩
   rw[hl,ee,ht];have:Ac.getD to.toNat 0=v:=by simp[hv]
   simp only[if_pos h0,this]
  ·refine .inl ⟨_,cP call R0 R1 S nl nr nk fr' fk B7 C' n Ac M row i x to hx ht (by omega),fr',C',hf',hC',rfl,?_⟩
   rw[hl,ee,ht];simp only[kaa h0]
 ·rintro t ⟨fr',C',hf',hC',rfl,hl⟩
  rw[Yab (by rw[<- N9,eac];exact paa _)] at hl;refine⟨.exit 2,_,?_,rfl,fr',hf',rfl,rfl⟩;rw[hl];have e1:decide (((256:Nat):Int) < 256)=false:=by decide
  simp -implicitDefEqProofs only[SP,SA,SQ,sevalprocAttr,-List.reduceReplicate,ma,xc,e1,nB,Ri,ee]
end
theorem CD:∀ (a b:List Int),a.length=b.length->gj (List.replicate a.length 1) (a.map i64) (b.map i64)=some (decide (a=b))
 | [],[],_=>rfl
 |x::a,y::b,h=>by
  have ih:=CD a b (by simpa using h);simp only[Oaa,List.replicate_succ,lab,gj,Vs,if_true,yaa,ih,Haa,tae,Bool.decide_and]
  congr 2
 | [],_::_,h=>by cases h
 |_::_,[],h=>by cases h
def ov(M:List (List Int×Int)):List (PV×PV):=M.map fun p=>(fj p.1,i64 p.2)
theorem QS(M:List (List Int×Int))(p:List Int×Int):ov (M++[p])=ov M++[(fj p.1,i64 p.2)]:=by simp[ov]
def Hl(a:List Int):List (List Int×Int)->Option Int
 | []=>none
 |p::r=>if a=p.1 then some p.2 else Hl a r
theorem BM{a:List Int}(ha:a.length=256):∀ (M:List (List Int×Int))(j:Nat),(∀ p∈M,p.1.length=256)->
 (∀ v,Hl a M=some v->∃ k,sn (.row (List.replicate 256 1)) (fj a) (ov M) j=some (some (k,i64 v)))/\(Hl a M=none->sn (.row (List.replicate 256 1)) (fj a) (ov M) j=some none)
 | [],j,_=>⟨fun v h=>(by cases h),fun _=>rfl⟩
 |p::r,j,hp=>by
  have he:=CD a p.1 (by rw[ha,hp p (by simp)])
  rw[ha] at he;have ih:=BM ha r (j+1) (fun q hq=>hp q (by simp[hq]));have hk:Ql (.row (List.replicate 256 1)) (fj a) (fj p.1)=some (decide (a=p.1)):=he;rw[show ov (p::r)=(fj p.1,i64 p.2)::ov r from rfl,sn,hk,yaa,Hl]
  by_cases h:a=p.1
  ·rw[if_pos h,decide_eq_true h]
   exact⟨fun v e=>(by injection e with e;subst e;exact⟨j,rfl⟩),fun e=>(by cases e)⟩
  ·rw[kaa h,decide_eq_false h]
   exact ih
theorem UQ{a:List Int}(ha:a.length=256):(Ql (.row (List.replicate 256 1)) (fj a) (fj a)).isSome=true:=by
 have he:=CD a a rfl;rw[ha] at he;show (gj _ _ _).isSome=true
 rw[he];rfl
def Va(C:List Int)(i:Nat):List Int:=(C.drop (i * 256)).take 256
theorem Di{C:List Int}{n i:Nat}(hC:C.length=n * 256)(hi:i < n):(Va C i).length=256:=by
 unfold Va;rw[zab,Fab,hC];omega
theorem vH(C:List Int)(i:Nat):Tc (List.take 256 (List.drop (i * 256) (La C)))=some ((Va C i).map i64):=by
 have:List.take 256 (List.drop (i * 256) (La C))=La (Va C i):=by unfold Va La;rw[List.map_take,List.map_drop]
 rw[this,Ev]
structure YM where
 C:List Int
 Ac:List Int
 M:List (List Int×Int)
def Ul(i:Nat)(s:YM):YM:=
 let C:=ee s.Ac (Va s.C i) i (List.range 256) s.C
 match Hl (Va C i) s.M with
 |some v=>⟨C,s.Ac.set i v,s.M⟩
 |none=>⟨C,s.Ac.set i i,s.M++[(Va C i,(i:Int))]⟩
def Dk:Nat->YM->YM
 |0,s=>s
 |i+1,s=>Dk i (Ul i s)
theorem vu{i:Nat}{s:YM}{v:Int}(h:Hl (Va (ee s.Ac (Va s.C i) i (List.range 256) s.C) i) s.M=some v):Ul i s=⟨ee s.Ac (Va s.C i) i (List.range 256) s.C,s.Ac.set i v,s.M⟩:=by
 simp only[Ul,h]
theorem ju{i:Nat}{s:YM}(h:Hl (Va (ee s.Ac (Va s.C i) i (List.range 256) s.C) i) s.M=none):
 Ul i s=⟨ee s.Ac (Va s.C i) i (List.range 256) s.C,s.Ac.set i i,s.M++[(Va (ee s.Ac (Va s.C i) i (List.range 256) s.C) i,(i:Int))]⟩:=by
 simp only[Ul,h]
abbrev pD(n:Nat)(i:Int):Tr:=(((Tr.lf.set 5 (.pv (i64 i))).set 4 (.mp 7)).set 3 (.own 6 n)).set 0 (.ptr 3 0)
section
variable (call:Sa)(R0 R1:ba)(S:PV)(nl nr nk:Bool)(fr fk:Nat)(B7:List Al)(n:Nat)(s:YM)(i:Nat)
theorem YN(hC:s.C.length=n * 256)(hk:s.Ac.length=n)(H9:fr=0\/fr=n * 256)(hfk:fk<=n)(hi:i < n)(hn:n<=64)(E8:∀ to∈Va s.C i,to < n)(hM:∀ p∈s.M,p.1.length=256):
 ∃ fr',(fr'=0\/fr'=n * 256)/\ma (oa call Zd) (fun s=>some (tidy [0,3,4,5] s)) ⟨pD n i,Ri R0 R1 S nl nr fr B7 s.C n [.seq 1 false (La s.Ac) fk nk,.map (ov s.M)]⟩=
  some (.norm,⟨pD n ((i:Int) - 1),Ri R0 R1 S nl nr fr' B7 (Ul i s).C n [.seq 1 false (La (Ul i s).Ac) n nk,.map (ov (Ul i s).M)]⟩):=by
 obtain⟨fr',hf',b9⟩:=kM call R0 R1 S nl nr nk fr fk B7 s.C n s.Ac (.map (ov s.M)) (Va s.C i) i hC hk H9 hfk hi (Di hC hi) E8
 refine⟨fr',hf',?_⟩;have hC2:(ee s.Ac (Va s.C i) i (List.range 256) s.C).length=n * 256:=by rw[Bn,hC]
 have hrl:=Di hC2 hi;have hfd:=BM hrl s.M 0 hM
 have his:=UQ hrl;have p1:=vH s.C i
 have p2:=vH (ee s.Ac (Va s.C i) i (List.range 256) s.C) i;have e1:decide ((i:Int)>=0)=true:=Ea (by omega);have hq3:Ia (i:Int) n:=by unfold Ia;omega
 have t3:((i:Int)).toNat=i:=by simp
 have t2:IntKind.i64.wrap ((i:Int) - 1)=(i:Int) - 1:=Aa (by omega)
 have w2:Mi 256 n fr (La s.C).length:=by rw[qb];unfold Mi;omega
 have w4:((La s.C).length=n * 256)=True:=by rw[qb];exact Iaa hC
 have w6:(i * 256+256<=(La s.C).length)=True:=by rw[qb];exact Iaa (by omega)
 have hl1:=@vu i s;have S9:=@ju i s;generalize ee s.Ac (Va s.C i) i (List.range 256) s.C=C2 at *
 have w12:Mi 256 n fr' (La C2).length:=by rw[qb];unfold Mi;omega
 have w14:((La C2).length=n * 256)=True:=by rw[qb];exact Iaa hC2
 have w16:(i * 256+256<=(La C2).length)=True:=by rw[qb];exact Iaa (by omega)
 have w1:Mi 1 n fk (La s.Ac).length:=by rw[qb];unfold Mi;omega
 have w3:((La s.Ac).length=n)=True:=by rw[qb];exact Iaa hk
 have w5:(i+1<=n)=True:=Iaa (by omega);generalize hz:List.replicate 256 1=ks at *
 have yad:Za (ma (oa call xc) (fun s=>some (tidy [0,3,4,5,33,34] s))) ua ⟨nB n (Va s.C i) i 0,Ri R0 R1 S nl nr fr B7 s.C n [.seq 1 false (La s.Ac) fk nk,.map (ov s.M)]⟩=_:=b9;simp only[nB,Ri,tidy,Gc] at yad;cases hlk:Hl (Va C2 i) s.M with
 |some v=>
  obtain⟨k,H8⟩:=hfd.1 v hlk
  rw[hl1 hlk];simp -implicitDefEqProofs only[SP,SA,SQ,sevalprocAttr,-List.reduceReplicate,ma,Zd,e1,Iaa hq3,t2,t3,Iaa w2,w4,w6,p1,ta,sr,tidy,Gc,pD,Ri,hz];rw[yad];simp -implicitDefEqProofs only[SP,SA,SQ,sevalprocAttr,-List.reduceReplicate,Iaa hq3,t2,t3,Iaa w12,w14,w16,Iaa w1,w3,w5,p2,ta,Iaa his,H8,Xj,tidy,Gc,pD,Ri]
 |none=>
  have H8:=hfd.2 hlk
  rw[S9 hlk];simp -implicitDefEqProofs only[SP,SA,SQ,sevalprocAttr,-List.reduceReplicate,ma,Zd,e1,Iaa hq3,t2,t3,Iaa w2,w4,w6,p1,ta,sr,tidy,Gc,pD,Ri,hz];rw[yad];simp -implicitDefEqProofs only[SP,SA,SQ,sevalprocAttr,-List.reduceReplicate,Iaa hq3,t2,t3,Iaa w12,w14,w16,Iaa w1,w3,w5,p2,ta,Iaa his,H8,Xj,tidy,Gc,pD,Ri,QS]
end
structure B3(n:Nat)(s:YM):Prop where
 hC:s.C.length=n * 256
 hk:s.Ac.length=n
 cC:∀ c∈s.C,c < n
 ck:∀ c∈s.Ac,c < n
 cM:∀ p∈s.M,p.1.length=256/\p.2 < n
theorem AF{Ac row:List Int}{i:Nat}{n:Int}(hn:0 < n)(hk:∀ c∈Ac,c < n):∀ (xs:List Nat)(C:List Int),(∀ c∈C,c < n)->∀ c∈ee Ac row i xs C,c < n
 | [],C,h=>h
 |x::xs,C,h=>by
  rw[ee];refine AF hn hk xs _ ?_
  split
  ·split
   ·intro c hc
    rcases Aab hc with h1 | h1
    ·exact h c h1
    ·subst h1
     next to _ _=>
     rcases Qaa to.toNat Ac.length with h2 | h2
     ·rw[taa,aaa h2];exact hk _ (jaa h2)
     ·rw[taa,Raa h2];exact hn
   ·exact h
  ·exact h
theorem Wu{a:List Int}:∀ {M:List (List Int×Int)}{v:Int},Hl a M=some v->∃ p∈M,p.1=a/\p.2=v
 |p::r,v,h=>by
  rw[Hl] at h
  split at h
  ·next h1=>injection h with h;exact⟨p,by simp,h1.symm,h⟩
  ·obtain⟨q,hq,e⟩:=Wu h
   exact⟨q,by simp[hq],e⟩
theorem eE{n i:Nat}{s:YM}(hi:i < n)(h:B3 n s):B3 n (Ul i s):=by
 have hC2:(ee s.Ac (Va s.C i) i (List.range 256) s.C).length=n * 256:=by rw[Bn,h.hC]
 have E7:=AF (i:=i) (row:=Va s.C i) (n:=(n:Int)) (by omega) h.ck (List.range 256) s.C h.cC
 have hl1:=@vu i s;have S9:=@ju i s;generalize ee s.Ac (Va s.C i) i (List.range 256) s.C=C2 at *
 cases hl:Hl (Va C2 i) s.M with
 |some v=>
  obtain⟨p,hp,_,hv⟩:=Wu hl;have:=(h.cM p hp).2
  rw[hl1 hl];refine⟨hC2,by simp[h.hk],E7,?_,h.cM⟩;intro c hc;rcases Aab hc with h1 | h1
  ·exact h.ck c h1
  ·omega
 |none=>
  rw[S9 hl];refine⟨hC2,by simp[h.hk],E7,?_,?_⟩
  ·intro c hc
   rcases Aab hc with h1 | h1
   ·exact h.ck c h1
   ·omega
  ·intro p hp
   rcases Jaa.1 hp with h1 | h1
   ·exact h.cM p h1
   ·simp at h1;subst h1;exact⟨Di hC2 hi,by simp;omega⟩
theorem UG{n:Nat}:∀ (k:Nat)(s:YM),k<=n->B3 n s->B3 n (Dk k s)
 |0,s,_,h=>h
 |k+1,s,hk,h=>UG k _ (by omega) (eE (by omega) h)
def mf(n:Nat)(C:List Int):YM:=Dk n ⟨C,List.replicate n 0,[]⟩
section
variable (call:Sa)(R0 R1:ba)(S:PV)(nl nr nk:Bool)(B7:List Al)(C:List Int)(n:Nat)
theorem SO(s0:YM)(hn:n<=64)(h0:0 < n)(Ba:B3 n s0):
 ∃ fr fk,(fr=0\/fr=n * 256)/\Za (ma (oa call Zd) (fun s=>some (tidy [0,3,4,5] s))) ua ⟨pD n ((n:Int) - 1),Ri R0 R1 S nl nr 0 B7 s0.C n [.seq 1 false (La s0.Ac) 0 nk,.map (ov s0.M)]⟩=
  some (.exit 0,⟨((pD n (-1)).set 23 (.pv (i64 (-1)))).set 24 (.pv (.bool false)),Ri R0 R1 S nl nr fr B7 (Dk n s0).C n [.seq 1 false (La (Dk n s0).Ac) fk nk,.map (ov (Dk n s0).M)]⟩)/\fk<=n:=by
 have key:=im (g:=ma (oa call Zd) (fun s=>some (tidy [0,3,4,5] s)))
  (fun j t=>∃ fr fk s,(fr=0\/fr=n * 256)/\fk<=n/\B3 n s/\t=⟨pD n ((n:Int) - 1 - j),Ri R0 R1 S nl nr fr B7 s.C n [.seq 1 false (La s.Ac) fk nk,.map (ov s.M)]⟩/\Dk n s0=Dk (n - j) s)
  (fun ex t=>∃ fr fk,(fr=0\/fr=n * 256)/\fk<=n/\ex= .exit 0/\t=⟨((pD n (-1)).set 23 (.pv (i64 (-1)))).set 24 (.pv (.bool false)),Ri R0 R1 S nl nr fr B7 (Dk n s0).C n [.seq 1 false (La (Dk n s0).Ac) fk nk,.map (ov (Dk n s0).M)]⟩)
  ua n 0 ⟨pD n ((n:Int) - 1 - (0:Nat)),Ri R0 R1 S nl nr 0 B7 s0.C n [.seq 1 false (La s0.Ac) 0 nk,.map (ov s0.M)]⟩ (by unfold ua;omega) (by omega) ⟨0,0,s0,.inl rfl,by omega,Ba,rfl,rfl⟩ ?_ ?_
 ·obtain⟨ex,t,h,_,fr,fk,q1,q2,rfl,rfl⟩:=key
  rw[show ((n:Int) - 1 - (0:Nat))=(n:Int) - 1 by omega] at h;exact⟨fr,fk,q1,h,q2⟩
 ·rintro j hj t ⟨fr,fk,s,hf,hfk,hs,rfl,hl⟩
  obtain⟨i,hi⟩:∃ i,n - j=i+1:=⟨n - j - 1,by omega⟩;rw[hi,Dk] at hl;obtain⟨fr',hf',hr⟩:=YN call R0 R1 S nl nr nk fr fk B7 n s i hs.hC hs.hk hf hfk (by omega) hn
   (fun to h=>hs.cC to (Vab (uac h))) (fun p hp=>(hs.cM p hp).1)
  rw[show ((n:Int) - 1 - (j:Int))=(i:Int) by omega];refine .inl ⟨_,hr,fr',n,Ul i s,hf',by omega,eE (by omega) hs,?_,?_⟩
  ·rw[show ((n:Int) - 1 - ((j+1:Nat):Int))=(i:Int) - 1 by omega]
  ·rw[hl,show n - (j+1)=i by omega]
 ·rintro t ⟨fr,fk,s,hf,hfk,hs,rfl,hl⟩
  rw[ead,Dk] at hl;rw[show ((n:Int) - 1 - (n:Int))= -1 by omega];refine⟨.exit 0,_,?_,rfl,fr,fk,hf,hfk,rfl,rfl⟩;rw[hl];have e1:decide ((-1:Int)>=0)=false:=by decide
  simp -implicitDefEqProofs only[SP,SA,SQ,sevalprocAttr,-List.reduceReplicate,ma,Zd,e1,pD,Ri]
theorem WI(n:Nat):Nl [PV.int .i64 0] n=La (List.replicate n 0):=by
 induction n with
 |zero=>rfl
 |succ n ih=>rw[Nl,ih];rfl
theorem CU(hn:n<=64)(h0:0 < n)(hs:B7.length=n)(hC:C.length=n * 256)(cC:∀ c∈C,c < n):
 ∃ fr fk v,(fr=0\/fr=n * 256)/\ef call Aj [.ptr 3 0] (Ri R0 R1 S nl nr 0 B7 C n [])=
  some (v,Ri R0 R1 S nl nr fr B7 (mf n C).C n [.seq 1 false (La (mf n C).Ac) fk false,.map (ov (mf n C).M)]):=by
 obtain⟨fr,fk,hf,hl,hfk⟩:=SO call R0 R1 S nl nr false B7 n ⟨C,List.replicate n 0,[]⟩ hn h0
  ⟨hC,by simp,cC,by intro c hc;rw[Ead hc];omega,by simp⟩
 refine⟨fr,fk,.own 6 n,hf,?_⟩;have hlen:(B7.map Oi).length=n:=by rw[haa,hs]
 have r0:Nl [PV.int .i64 0] n=La (List.replicate n 0):=WI n;have t1:((n:Int)).toNat=n:=by simp
 have t2:IntKind.i64.wrap ((n:Int) - 1)=(n:Int) - 1:=Aa (by omega)
 have e1:(0<=(n:Int))=True:=by simp
 have e2:eb n 8:=by unfold eb;omega
 have e3:((n:Int)<=(n:Int))=True:=by simp
 unfold mf;generalize Dk n ⟨C,List.replicate n 0,[]⟩=g at *;generalize List.replicate n (0:Int)=zs at *
 simp only[tidy,Gc,pD,Ri,ov,Oad] at hl;simp -implicitDefEqProofs only[SP,SA,SQ,sevalprocAttr,-List.reduceReplicate,Aj,hlen,r0,t1,t2,e1,Iaa e2,e3,sr,tidy,Gc,Ri];rw[hl];simp -implicitDefEqProofs only[SP,SA,SQ,sevalprocAttr,-List.reduceReplicate,Ri,ov]
end
structure ae where
 lo:Int
 hi:Int
 to:Int
deriving DecidableEq
def SH(e:ae):PV:= .agg [i64 e.lo,i64 e.hi,i64 e.to]
def yd(l:List ae):List Int:=l.flatMap fun e=>[e.lo,e.hi,e.to]
theorem Uk(l:List ae):(yd l).length=l.length * 3:=by
 induction l with
 |nil=>rfl
 |cons e l ih=>simp only[yd,Yac,raa,Oaa,pab] at ih ⊢;omega
theorem Zm(l:List ae)(e:ae):yd (l++[e])=yd l++[e.lo,e.hi,e.to]:=by simp[yd]
def pg(x to:Int)(l:List ae):List ae:=
 if to= -2 then l else match l.getLast? with
  |some e=>if e.to=to/\e.hi=x - 1 then l.dropLast++[⟨e.lo,x,e.to⟩] else l++[⟨x,x,to⟩]
  |none=>l++[⟨x,x,to⟩]
theorem I2(a b c:Int):La [a,b,c]=[.pv (i64 a),.pv (i64 b),.pv (i64 c)]:=rfl
theorem jG(a b:List Int):La (a++b)=La a++La b:=by simp[La]
abbrev Yu(row:List Int)(n:Nat)(x:Int):Tr:=((Tr.lf.set 8 (.pv (i64 x))).set 7 (.pv (fj row))).set 3 (.own 0 n)
theorem dF(l:List Int)(e:ae)(k:Nat)(hk:k < 3):(La (l++[e.lo,e.hi,e.to]))[l.length+k]? =some (.pv (i64 (if k=0 then e.lo else if k=1 then e.hi else e.to))):=by
 rw[La,Eaa,Kaa (by omega),Hac]
 match k,hk with
 |0,_=>rfl
 |1,_=>rfl
 |2,_=>rfl
section
variable (call:Sa)(row:List Int)(x:Nat)(to:Int)(fl:Nat)
 (hx:x < 256) (E8:row[x]? =some to)
include hx E8
theorem ZU(l:List ae)(nl:Bool)(h:to= -2):ma (oa call od) (fun s=>some (tidy [3,7,8] s)) ⟨Yu row l.length x,[.seq 3 true (La (yd l)) fl nl]⟩=
 some (.norm,⟨Yu row l.length (x+1:Nat),[.seq 3 true (La (yd l)) fl nl]⟩):=by
 have e1:decide ((x:Int) < 256)=true:=Ea (by omega);have e2:(to== -2)=true:=by simp[h]
 have hq:Ia (x:Int) 256:=by unfold Ia;omega
 have t1:((x:Int)).toNat=x:=by simp
 have t2:=ab (i:=x) (n:=256) hx (by unfold maxLen;omega);have ht:(row.map i64)[x]? =some (i64 to):=by rw[Eaa,E8];rfl
 simp -implicitDefEqProofs only[SP,SA,SQ,sevalprocAttr,ma,od,e1,e2,Iaa hq,t1,t2,ht,ta,tidy,Gc,Yu]
theorem KQ(nl:Bool)(h:to≠ -2):ma (oa call od) (fun s=>some (tidy [3,7,8] s)) ⟨Yu row 0 x,[.seq 3 true [] 0 nl]⟩=
 some (.norm,⟨Yu row 1 (x+1:Nat),[.seq 3 true (La [(x:Int),x,to]) 0 false]⟩):=by
 have e1:decide ((x:Int) < 256)=true:=Ea (by omega);have e2:(to== -2)=false:=mj h;have hq:Ia (x:Int) 256:=by unfold Ia;omega
 have t1:((x:Int)).toNat=x:=by simp
 have t2:=ab (i:=x) (n:=256) hx (by unfold maxLen;omega);have ht:(row.map i64)[x]? =some (i64 to):=by rw[Eaa,E8];rfl
 have q1:eb 1 24:=by unfold eb;omega
 simp -implicitDefEqProofs only[SP,SA,SQ,sevalprocAttr,ma,od,e1,e2,Iaa hq,t1,t2,ht,Iaa q1,ta,tidy,Gc,Yu,pk,jj,AV.YE,AV.Pq,La]
variable (l:List ae)(e:ae)(hl:l.length < 256)(w8:fl<=(l.length+1) * 3)
include hl w8
theorem vU(h:to≠ -2)(h1:e.to=to)(h2:e.hi=(x:Int) - 1):ma (oa call od) (fun s=>some (tidy [3,7,8] s)) ⟨Yu row (l.length+1) x,[.seq 3 true (La (yd l++[e.lo,e.hi,e.to])) fl false]⟩=
 some (.norm,⟨Yu row (l.length+1) (x+1:Nat),[.seq 3 true (La (yd l++[e.lo,(x:Int),e.to])) ((l.length+1) * 3) false]⟩):=by
 have e1:decide ((x:Int) < 256)=true:=Ea (by omega);have e2:(to== -2)=false:=mj h;have hq:Ia (x:Int) 256:=by unfold Ia;omega
 have t1:((x:Int)).toNat=x:=by simp
 have t2:=ab (i:=x) (n:=256) hx (by unfold maxLen;omega);have ht:(row.map i64)[x]? =some (i64 to):=by rw[Eaa,E8];rfl
 have e3:decide (((l.length+1:Nat):Int) > 0)=true:=Ea (by omega);have t3:IntKind.i64.wrap (((l.length+1:Nat):Int) - 1)=(l.length:Int):=by rw[Aa (by omega)];omega
 have t4:((l.length:Int)).toNat=l.length:=by simp
 have t5:IntKind.i64.wrap ((x:Int) - 1)=(x:Int) - 1:=Aa (by omega)
 have Y9:Ia (l.length:Int) (l.length+1):=by unfold Ia;omega
 have hlen:(La (yd l++[e.lo,e.hi,e.to])).length=(l.length+1) * 3:=by rw[qb,raa,Uk];simp;omega
 have w1:Mi 3 (l.length+1) fl (La (yd l++[e.lo,e.hi,e.to])).length:=by rw[hlen];unfold Mi;omega
 have w2:((La (yd l++[e.lo,e.hi,e.to])).length=(l.length+1) * 3)=True:=Iaa hlen;have g2:=dF (yd l) e 2 (by omega);have g1:=dF (yd l) e 1 (by omega);rw[Uk] at g1 g2;simp only[h1,h2] at g1 g2;have b1:(to==to)=true:=by simp
 have b2:((x:Int) - 1==(x:Int) - 1)=true:=by simp
 have w3:(l.length * 3+1+1<=(l.length+1) * 3)=True:=Iaa (by omega);have J8:(La (yd l++[e.lo,(x:Int) - 1,to])).set (l.length * 3+1) (.pv (i64 x))=La (yd l++[e.lo,(x:Int),to]):=by rw[Xj,<-Uk,Jab _ _ (by omega),Hac];rfl
 rw[h1,h2] at *;generalize yd l++[e.lo,(x:Int) - 1,to]=cs at *;simp -implicitDefEqProofs only[SP,SA,SQ,sevalprocAttr,ma,od,e1,e2,e3,Iaa hq,Iaa Y9,t1,t2,t3,t4,t5,ht,g1,g2,Iaa w1,w2,w3,b1,b2,J8,ta,tidy,Gc,Yu]
theorem zU(h:to≠ -2)(h1:¬(e.to=to/\e.hi=(x:Int) - 1)):ma (oa call od) (fun s=>some (tidy [3,7,8] s)) ⟨Yu row (l.length+1) x,[.seq 3 true (La (yd l++[e.lo,e.hi,e.to])) fl false]⟩=
 some (.norm,⟨Yu row (l.length+1+1) (x+1:Nat),[.seq 3 true (La (yd l++[e.lo,e.hi,e.to])++La [(x:Int),x,to]) fl false]⟩):=by
 have e1:decide ((x:Int) < 256)=true:=Ea (by omega);have e2:(to== -2)=false:=mj h;have hq:Ia (x:Int) 256:=by unfold Ia;omega
 have t1:((x:Int)).toNat=x:=by simp
 have t2:=ab (i:=x) (n:=256) hx (by unfold maxLen;omega);have ht:(row.map i64)[x]? =some (i64 to):=by rw[Eaa,E8];rfl
 have e3:decide (((l.length+1:Nat):Int) > 0)=true:=Ea (by omega);have t3:IntKind.i64.wrap (((l.length+1:Nat):Int) - 1)=(l.length:Int):=by rw[Aa (by omega)];omega
 have t4:((l.length:Int)).toNat=l.length:=by simp
 have t5:IntKind.i64.wrap ((x:Int) - 1)=(x:Int) - 1:=Aa (by omega)
 have Y9:Ia (l.length:Int) (l.length+1):=by unfold Ia;omega
 have hlen:(La (yd l++[e.lo,e.hi,e.to])).length=(l.length+1) * 3:=by rw[qb,raa,Uk];simp;omega
 have w1:Mi 3 (l.length+1) fl (La (yd l++[e.lo,e.hi,e.to])).length:=by rw[hlen];unfold Mi;omega
 have w2:((La (yd l++[e.lo,e.hi,e.to])).length=(l.length+1) * 3)=True:=Iaa hlen;have w2':((l.length+1) * 3=(La (yd l++[e.lo,e.hi,e.to])).length)=True:=Iaa hlen.symm
 have g2:(La (yd l++[e.lo,e.hi,e.to]))[(yd l).length+2]? =some (.pv (i64 e.to)):=dF (yd l) e 2 (by omega);have g1:(La (yd l++[e.lo,e.hi,e.to]))[(yd l).length+1]? =some (.pv (i64 e.hi)):=dF (yd l) e 1 (by omega);rw[Uk] at g1 g2;have q1:eb (l.length+1+1) 24:=by unfold eb;omega
 generalize yd l++[e.lo,e.hi,e.to]=cs at *
 by_cases L8:e.to=to
 ·have b1:(e.to==to)=true:=by simp[L8]
  have b2:(e.hi==(x:Int) - 1)=false:=mj fun hh=>h1 ⟨L8,hh⟩;simp -implicitDefEqProofs only[SP,SA,SQ,sevalprocAttr,ma,od,e1,e2,e3,Iaa hq,Iaa Y9,t1,t2,t3,t4,t5,ht,g1,g2,Iaa w1,w2,w2',Iaa q1,b1,b2,ta,tidy,Gc,Yu,pk,jj,AV.YE,AV.Pq,I2]
 ·have b1:(e.to==to)=false:=mj L8
  simp -implicitDefEqProofs only[SP,SA,SQ,sevalprocAttr,ma,od,e1,e2,e3,Iaa hq,Iaa Y9,t1,t2,t3,t4,t5,ht,g1,g2,Iaa w1,w2,w2',Iaa q1,b1,ta,tidy,Gc,Yu,pk,jj,AV.YE,AV.Pq,I2]
end
def Me(row:List Int):List Nat->List ae->List ae
 | [],l=>l
 |x::xs,l=>Me row xs (pg x (row.getD x 0) l)
def wg(row:List Int):List ae:=Me row (List.range 256) []
def De(l:List ae):PV:=if l.isEmpty then .ga else .lit 3 (l.map SH)
theorem DA(x:Int)(l:List ae):pg x (-2) l=l:=by simp[pg]
theorem fy{x to:Int}(h:to≠ -2):pg x to []=[⟨x,x,to⟩]:=by simp[pg,h]
theorem wA{x:Int}{l:List ae}{e:ae}(h:e.to≠ -2)(h2:e.hi=x - 1):pg x e.to (l++[e])=l++[⟨e.lo,x,e.to⟩]:=by simp[pg,h,h2]
theorem fx{x to:Int}{l:List ae}{e:ae}(h:to≠ -2)(h2:¬(e.to=to/\e.hi=x - 1)):pg x to (l++[e])=l++[e]++[⟨x,x,to⟩]:=by
 simp only[pg,kaa h,List.getLast?_append,List.getLast?_singleton,Option.some_or,kaa h2]
theorem gJ(H:List ba)(d:Nat)(l:List Int):Ra (Tb H d) (La l)=some (l.map i64):=by
 induction l with
 |nil=>rfl
 |cons a l ih=>simp only[La,lab,Ra,Ig,yaa] at ih ⊢;rw[ih];rfl
theorem cQ:∀ (l:List ae),chunk 3 true l.length ((yd l).map i64)=l.map SH
 | []=>rfl
 |e::l=>by have:=cQ l;rw[Oaa,chunk];simp only[yd,Yac,bab,Yaa,lab,List.take,List.drop,if_true] at this ⊢;rw[this];rfl
theorem rQ(H:List ba)(id:Nat)(l:List ae)(fl:Nat)(h:H[id]? =some (.seq 3 true (La (yd l)) fl l.isEmpty)):Tb H deep (.own id l.length)=some (De l):=by
 have hl:(l.length * 3=(La (yd l)).length)=True:=by rw[qb,Uk];exact eq_self _
 rw[Ic];simp only[Tb,h,hl,Bool.true_or,and_self,if_true];unfold De;cases hn:l.isEmpty with
 |true=>rfl
 |false=>simp only[saa,if_false,gJ,Haa,cQ]
section
variable (row:List Int)(K7:row.length=256)
include K7
theorem iQ(call:Sa):∃ fl,Za (ma (oa call od) (fun s=>some (tidy [3,7,8] s))) ua ⟨Yu row 0 0,[.seq 3 true [] 0 true]⟩=
 some (.exit 0,⟨(Yu row (wg row).length 256).set 9 (.pv (.bool false)),[.seq 3 true (La (yd (wg row))) fl (wg row).isEmpty]⟩):=by
 unfold wg;generalize N9:List.range 256=xs
 have key:=im (g:=ma (oa call od) (fun s=>some (tidy [3,7,8] s)))
  (fun x t=>∃ fl l,fl<=l.length * 3/\l.length<=x/\t=⟨Yu row l.length x,[.seq 3 true (La (yd l)) fl l.isEmpty]⟩/\Me row xs []=Me row (xs.drop x) l)
  (fun ex t=>∃ fl,ex= .exit 0/\t=⟨(Yu row (Me row xs []).length 256).set 9 (.pv (.bool false)),[.seq 3 true (La (yd (Me row xs []))) fl (Me row xs []).isEmpty]⟩)
  ua 256 0 ⟨Yu row 0 (0:Nat),[.seq 3 true [] 0 true]⟩ (by unfold ua;omega) (by omega) ⟨0,[],by simp,by simp,rfl,rfl⟩ ?_ ?_
 ·obtain⟨ex,t,h,_,fl,rfl,rfl⟩:=key
  exact⟨fl,h⟩
 ·rintro x hx t ⟨fl,l,hf,hlx,rfl,hl⟩
  have hd:=Us hx;rw[N9] at hd;obtain⟨to,ht⟩:∃ to,row[x]? =some to:=⟨row[x],by simp[K7,hx]⟩;have hgd:row.getD x 0=to:=by simp[taa,ht]
  rw[hd,Me,hgd] at hl
  by_cases h2:to= -2
  ·rw[h2,DA] at hl
   exact .inl ⟨_,ZU call row x to fl hx ht l _ h2,fl,l,hf,by omega,rfl,hl⟩
  rcases Uad l with rfl | ⟨l',e,rfl⟩
  ·rw[fy h2] at hl
   have hf0:fl=0:=by simpa using hf
   subst hf0;exact .inl ⟨_,KQ call row x to hx ht true h2,0,[⟨x,x,to⟩],by simp,by simp,rfl,hl⟩
  ·simp only[Vad] at *
   have hem:(l'++[e]).isEmpty=false:=by simp
   have hlen:(l'++[e]).length=l'.length+1:=by simp
   rw[hlen] at hf hlx;rw[hem,hlen,Zm]
   by_cases h3:e.to=to/\e.hi=(x:Int) - 1
   ·obtain⟨h3,h4⟩:=h3
    rw[<- h3,wA (by rw[h3];exact h2) h4] at hl;refine .inl ⟨_,vU call row x to fl hx ht l' e (by omega) hf h2 h3 h4,(l'.length+1) * 3,l'++[⟨e.lo,x,e.to⟩],by simp,by simp;omega,?_,hl⟩
    rw[Zm];simp
   ·rw[fx h2 h3] at hl
    refine .inl ⟨_,zU call row x to fl hx ht l' e (by omega) hf h2 h3,fl,_,?_,?_,?_,hl⟩
    ·simp;omega
    ·simp;omega
    ·rw[Zm,Zm,jG];simp[La]
 ·rintro t ⟨fl,l,hf,hlx,rfl,hl⟩
  rw[Yab (by rw[<- N9,eac];exact paa _)] at hl;refine⟨.exit 0,_,?_,rfl,fl,rfl,rfl⟩;rw[hl];have e1:decide (((256:Nat):Int) < 256)=false:=by decide
  simp -implicitDefEqProofs only[SP,SA,SQ,sevalprocAttr,ma,od,e1,Yu,Me]
theorem aT:Er [fj row]=some (De (wg row)):=by
 obtain⟨fl,hl⟩:=iQ row K7 (Da (fun _=>none) 8);have ht:=rQ [.seq 3 true (La (yd (wg row))) fl (wg row).isEmpty] 0 (wg row) fl rfl;have h9:(row.map i64).map AV.pv=La row:=(tv row).symm
 have p0:((La row).length=256)=True:=by rw[qb,K7];exact eq_self _
 have p1:(256<=(La row).length)=True:=by rw[qb,K7];exact Iaa (paa _)
 have p2:List.take 256 (La row)=La row:=Saa (by rw[qb,K7];exact paa _)
 have p3:=Ev row;have p5:=MH row;have p6:=gJ [] 0 row;have p8:List.take 256 (row.map i64)=row.map i64:=Saa (by rw[haa,K7];exact paa _)
 have p7:(256<=(row.map i64).length)=True:=by rw[haa,K7];exact Iaa (paa _)
 have p4:((row.map i64).length=256)=True:=by rw[haa,K7];exact eq_self _
 generalize wg row=es at *;simp only[tidy,Gc,Yu] at hl;simp -implicitDefEqProofs only[Er,SP,SA,SQ,sevalprocAttr,Gw,h9,p0,p1,p2,p3,p4,p5,p6,p7,p8,fe,sr,tidy,Gc];rw[hl];simp -implicitDefEqProofs only[SP,SA,SQ,sevalprocAttr,ht]
end
def Av(a:Int):List Int->Nat->Option Nat
 | [],_=>none
 |b::l,k=>if a=b then some k else Av a l (k+1)
def nO(l:List Int)(k:Nat):List (PV×PV):=(l.zipIdx k).map fun p=>(i64 p.1,i64 p.2)
theorem fD(a:Int)(l:List Int)(k:Nat):nO (a::l) k=(i64 a,i64 k)::nO l (k+1):=rfl
theorem BJ(a:Int):∀ (l:List Int)(k:Nat),nO (l++[a]) k=nO l k++[(i64 a,i64 (k+l.length:Nat))]
 | [],k=>by simp[nO]
 |b::l,k=>by rw[bab,fD,BJ a l (k+1),fD];simp;omega
theorem dR{a:Int}:∀ {l:List Int}{k i:Nat},Av a l k=some i->k<=i
 |b::l,k,i,h=>by
  simp only[Av] at h
  split at h
  ·injection h with h;omega
  ·have:=dR h;omega
theorem gM(a:Int):∀ (l:List Int)(k j:Nat),sn (.one 1) (i64 a) (nO l k) j=some ((Av a l k).map fun i=>(j+(i - k),i64 i)):=by
 intro l
 induction l with
 |nil=>intro k j;rfl
 |cons b l ih=>
  intro k j;have he:Ql (.one 1) (i64 a) (i64 b)=some (decide (a=b)):=by
   show (if IntKind.i64=IntKind.i64 then some (a==b) else none)=_;rw[if_pos rfl]
   congr 1
  rw[fD,sn,he];simp only[yaa,Av]
  by_cases h:a=b
  ·simp[h]
  ·rw[kaa h,ih]
   simp only[h,decide_false,saa,if_false,caa];cases hi:Av a l (k+1) with
   |none=>rfl
   |some i=>have:=dR hi;simp only[Haa,caa,oaa,and_true];omega
theorem EF(a:Int):(Ql (.one 1) (i64 a) (i64 a)).isSome=true:=rfl
abbrev Ap(R0 R1:ba)(S:PV)(nl nr:Bool)(fr:Nat)(B7:List Al)(C:List Int)(n:Nat)(L M:ba)(O:List Int)(out:List PV)(no:Bool)(T:List ba):List ba:=
 Ri R0 R1 S nl nr fr B7 C n (L::M:: .box [.pv .ga]:: .map (nO O 0):: .tok 1 O.length false:: .box [.uq 12 no 1 out]:: .tok 1 out.length no::T)
abbrev Pz(q:Nat)(k:Int)(O:List Int)(fb:List Int)(x:Int):Tr:=
 (((((((((Tr.lf.set 32 (.pv (i64 x))).set 31 (.pv (fj fb))).set 7 (.ptr q 0)).set 6 (.pv (i64 k))).set 5 (.ptr 11 0)).set 4 (.uq 10 false 1 (O.map i64))).set 3 (.mp 9)).set 2 (.ptr 8 0)).set 0 (.ptr 3 0))
def yj(x:Nat)(to:Int)(r:List Int×List Int):List Int×List Int:=
 if to < 0 then r else match Av to r.1 0 with
  |some k=>(r.1,r.2.set x k)
  |none=>(r.1++[to],r.2.set x r.1.length)
section
variable (call:Sa)(R0 R1:ba)(S:PV)(nl nr:Bool)(fr:Nat)(B7:List Al)(C:List Int)(n:Nat)(L M:ba)(O:List Int)(out:List PV)(no:Bool)(J:List ba)
 (k:Int) (fb row:List Int) (x:Nat) (to:Int) (q:Nat) (hx:x < 256) (E8:fb[x]? =some to)
include hx E8
theorem tV(h:to < 0):
 ma (oa call tc) (fun s=>some (tidy [0,2,3,4,5,6,7,31,32] s)) ⟨Pz q k O fb x,Ap R0 R1 S nl nr fr B7 C n L M O out no (J++[.box (La row)])⟩=
  some (.norm,⟨Pz q k O fb (x+1:Nat),Ap R0 R1 S nl nr fr B7 C n L M O out no (J++[.box (La row)])⟩):=by
 have e1:decide ((x:Int) < 256)=true:=Ea (by omega);have e2:decide (to < 0)=true:=Ea (by omega);have hq:Ia (x:Int) 256:=by unfold Ia;omega
 have t1:((x:Int)).toNat=x:=by simp
 have t2:=ab (i:=x) (n:=256) hx (by unfold maxLen;omega);have ht:(fb.map i64)[x]? =some (i64 to):=by rw[Eaa,E8];rfl
 simp -implicitDefEqProofs only[SP,SA,SQ,sevalprocAttr,-List.reduceReplicate,ma,tc,e1,e2,Iaa hq,t1,t2,ht,ta,tidy,Gc,Pz,Ap,Ri]
theorem XW(hq13:q=J.length+1+1+1+1+1+1+1+1+1+1+1+1+1)(K7:row.length=256)(h:¬to < 0){j:Nat}(hj:Av to O 0=some j):
 ma (oa call tc) (fun s=>some (tidy [0,2,3,4,5,6,7,31,32] s)) ⟨Pz q k O fb x,Ap R0 R1 S nl nr fr B7 C n L M O out no (J++[.box (La row)])⟩=
  some (.norm,⟨Pz q k O fb (x+1:Nat),Ap R0 R1 S nl nr fr B7 C n L M O out no (J++[.box (La (row.set x j))])⟩):=by
 have e1:decide ((x:Int) < 256)=true:=Ea (by omega);have e2:decide (to < 0)=false:=Ga (by omega);have hq:Ia (x:Int) 256:=by unfold Ia;omega
 have t1:((x:Int)).toNat=x:=by simp
 have t2:=ab (i:=x) (n:=256) hx (by unfold maxLen;omega);have ht:(fb.map i64)[x]? =some (i64 to):=by rw[Eaa,E8];rfl
 have hf:=gM to O 0 0;rw[hj] at hf;simp only[Haa] at hf;have his:=EF to;have hle:(x+1<=(La row).length)=True:=by rw[qb];exact Iaa (by omega)
 subst hq13;simp -implicitDefEqProofs only[SP,SA,SQ,sevalprocAttr,-List.reduceReplicate,ma,tc,e1,e2,Iaa hq,t1,t2,ht,hf,Iaa his,hle,Xj,dq,Bq,ta,tidy,Gc,Pz,Ap,Ri]
theorem vW(hq13:q=J.length+1+1+1+1+1+1+1+1+1+1+1+1+1)(K7:row.length=256)(h:¬to < 0)(hj:Av to O 0=none)(hO:O.length < 100):
 ma (oa call tc) (fun s=>some (tidy [0,2,3,4,5,6,7,31,32] s)) ⟨Pz q k O fb x,Ap R0 R1 S nl nr fr B7 C n L M O out no (J++[.box (La row)])⟩=
  some (.norm,⟨Pz q k (O++[to]) fb (x+1:Nat),Ap R0 R1 S nl nr fr B7 C n L M (O++[to]) out no (J++[.box (La (row.set x O.length))])⟩):=by
 have e1:decide ((x:Int) < 256)=true:=Ea (by omega);have e2:decide (to < 0)=false:=Ga (by omega);have hq:Ia (x:Int) 256:=by unfold Ia;omega
 have t1:((x:Int)).toNat=x:=by simp
 have t2:=ab (i:=x) (n:=256) hx (by unfold maxLen;omega);have ht:(fb.map i64)[x]? =some (i64 to):=by rw[Eaa,E8];rfl
 have hf:=gM to O 0 0;rw[hj] at hf;simp only[Option.map_none] at hf;have his:=EF to;have hle:(x+1<=(La row).length)=True:=by rw[qb];exact Iaa (by omega)
 have hlen:(O.map i64).length=O.length:=by simp
 have q1:eb (O.length+1) 8:=by unfold eb;omega
 have hp:=BJ to O 0;rw[Zaa] at hp;have P8:(O++[to]).length=O.length+1:=by simp
 have pac:(O++[to]).map i64=O.map i64++[i64 to]:=by simp
 subst hq13;unfold Pz Ap;rw[hp,P8,pac];simp -implicitDefEqProofs only[SP,SA,SQ,sevalprocAttr,-List.reduceReplicate,ma,tc,e1,e2,Iaa hq,t1,t2,ht,hf,Iaa his,hle,hlen,Iaa q1,Xj,dq,Bq,ta,tidy,Gc,Ri,jj,AV.YE,AV.Pq]
end
def Ax(n:Nat)(O:List Int):Prop:=O.Nodup/\∀ o∈O,0<=o/\o < (n:Int)
theorem eD:∀ (n:Nat)(O:List Int),O.Nodup->(∀ o∈O,0<=o/\o < (n:Int))->O.length<=n
 |0,O,_,h=>by
  cases O with
  |nil=>simp
  |cons a O=>have:=h a (by simp);omega
 |n+1,O,hd,h=>by
  have ih:=eD n (O.erase n) (hd.erase _) (fun o ho=>by
   have h1:=h o (List.mem_of_mem_erase ho);have h2:o≠n:=(hd.mem_erase_iff.1 ho).1
   omega)
  rw[List.length_erase] at ih
  split at ih <;> omega
theorem Ax.len{n:Nat}{O:List Int}(h:Ax n O):O.length<=n:=eD n O h.1 h.2
theorem SC{a:Int}:∀ {l:List Int}{k:Nat},Av a l k=none->a ∉ l
 | [],_,_=>by simp
 |b::l,k,h=>by
  simp only[Av] at h
  split at h
  ·cases h
  ·next J7=>simp only[Xaa,not_or];exact⟨J7,SC h⟩
def Td(fb:List Int):List Nat->List Int×List Int->List Int×List Int
 | [],r=>r
 |x::xs,r=>Td fb xs (yj x (fb.getD x 0) r)
theorem YX{n:Nat}{x:Nat}{to:Int}{r:List Int×List Int}(E8:to < n)(h:Ax n r.1):Ax n (yj x to r).1/\(yj x to r).2.length=r.2.length/\∃ t,(yj x to r).1=r.1++t:=by
 unfold yj
 by_cases h0:to < 0
 ·rw[if_pos h0];exact⟨h,rfl,[],by simp⟩
 ·rw[kaa h0]
  cases hi:Av to r.1 0 with
  |some k=>exact⟨h,by simp,[],by simp⟩
  |none=>
   have hn:=SC hi;refine⟨⟨?_,?_⟩,by simp,[to],rfl⟩
   ·simp only[List.nodup_append,h.1,true_and]
    refine⟨by simp,?_⟩;intro a ha b hb;simp at hb;subst hb;intro e;subst e;exact hn ha
   ·intro o ho
    rcases Jaa.1 ho with h1 | h1
    ·exact h.2 o h1
    ·simp at h1;subst h1;omega
section
variable (call:Sa)(R0 R1:ba)(S:PV)(nl nr:Bool)(fr:Nat)(B7:List Al)(C:List Int)(n:Nat)(L M:ba)
theorem OQ(O:List Int)(out:List PV)(no:Bool)(J:List ba)(k:Int)(fb:List Int)(q:Nat)(hq13:q=J.length+1+1+1+1+1+1+1+1+1+1+1+1+1)
 (hO:Ax n O) (hn:n<=64) (K7:fb.length=256) (E8:∀ to∈fb,to < n):
 Za (ma (oa call tc) (fun s=>some (tidy [0,2,3,4,5,6,7,31,32] s))) ua ⟨Pz q k O fb 0,Ap R0 R1 S nl nr fr B7 C n L M O out no (J++[.box (La fb)])⟩=
  some (.exit 2,⟨(Pz q k (Td fb (List.range 256) (O,fb)).1 fb 256).set 33 (.pv (.bool false)),
   Ap R0 R1 S nl nr fr B7 C n L M (Td fb (List.range 256) (O,fb)).1 out no (J++[.box (La (Td fb (List.range 256) (O,fb)).2)])⟩)/\
  Ax n (Td fb (List.range 256) (O,fb)).1/\(Td fb (List.range 256) (O,fb)).2.length=256/\∃ t,(Td fb (List.range 256) (O,fb)).1=O++t:=by
 generalize N9:List.range 256=xs
 have key:=im (g:=ma (oa call tc) (fun s=>some (tidy [0,2,3,4,5,6,7,31,32] s)))
  (fun x t=>∃ r,Ax n r.1/\r.2.length=256/\(∃ t,r.1=O++t)/\t=⟨Pz q k r.1 fb x,Ap R0 R1 S nl nr fr B7 C n L M r.1 out no (J++[.box (La r.2)])⟩/\Td fb xs (O,fb)=Td fb (xs.drop x) r)
  (fun ex t=>ex= .exit 2/\t=⟨(Pz q k (Td fb xs (O,fb)).1 fb 256).set 33 (.pv (.bool false)),Ap R0 R1 S nl nr fr B7 C n L M (Td fb xs (O,fb)).1 out no (J++[.box (La (Td fb xs (O,fb)).2)])⟩/\
   Ax n (Td fb xs (O,fb)).1/\(Td fb xs (O,fb)).2.length=256/\∃ t,(Td fb xs (O,fb)).1=O++t)
  ua 256 0 ⟨Pz q k O fb (0:Nat),Ap R0 R1 S nl nr fr B7 C n L M O out no (J++[.box (La fb)])⟩ (by unfold ua;omega) (by omega) ⟨(O,fb),hO,K7,⟨[],by simp⟩,rfl,rfl⟩ ?_ ?_
 ·obtain⟨ex,t,h,_,rfl,rfl,q1,q2⟩:=key
  exact⟨h,q1,q2⟩
 ·rintro x hx t ⟨⟨O',row⟩,hO',R8,⟨tl,htl⟩,rfl,hl⟩
  have hd:=Us hx;rw[N9] at hd;obtain⟨to,ht⟩:∃ to,fb[x]? =some to:=⟨fb[x],by simp[K7,hx]⟩;have hgd:fb.getD x 0=to:=by simp[taa,ht]
  have E7:=E8 to (nab ht);rw[hd,Td,hgd] at hl;have Ba:=YX (x:=x) (r:=(O',row)) E7 hO';refine .inl ⟨_,?_,yj x to (O',row),Ba.1,by rw[Ba.2.1];exact R8,?_,rfl,hl⟩
  ·by_cases h0:to < 0
   ·have e:yj x to (O',row)=(O',row):=by simp[yj,h0]
    rw[e];exact tV call R0 R1 S nl nr fr B7 C n L M O' out no J k fb row x to q hx ht h0
   ·have hlen:=hO'.len
    cases hi:Av to O' 0 with
    |some j=>
     have e:yj x to (O',row)=(O',row.set x j):=by simp[yj,h0,hi]
     rw[e];exact XW call R0 R1 S nl nr fr B7 C n L M O' out no J k fb row x to q hx ht hq13 R8 h0 hi
    |none=>
     have e:yj x to (O',row)=(O'++[to],row.set x O'.length):=by simp[yj,h0,hi]
     rw[e];exact vW call R0 R1 S nl nr fr B7 C n L M O' out no J k fb row x to q hx ht hq13 R8 h0 hi (by simp only at hlen;omega)
  ·obtain⟨t2,h2⟩:=Ba.2.2
   exact⟨tl++t2,by rw[h2,<-Dab,<-htl]⟩
 ·rintro t ⟨⟨O',row⟩,hO',R8,htl,rfl,hl⟩
  rw[Yab (by rw[<- N9,eac];exact paa _),Td] at hl;rw[hl];refine⟨.exit 2,_,?_,rfl,rfl,rfl,hO',R8,htl⟩;have e1:decide (((256:Nat):Int) < 256)=false:=by decide
  simp -implicitDefEqProofs only[SP,SA,SQ,sevalprocAttr,-List.reduceReplicate,ma,tc,e1,Pz]
abbrev bD(k:Int)(O:List Int):Tr:=
 ((((((Tr.lf.set 6 (.pv (i64 k))).set 5 (.ptr 11 0)).set 4 (.uq 10 false 1 (O.map i64))).set 3 (.mp 9)).set 2 (.ptr 8 0)).set 0 (.ptr 3 0))
def Pg(C:List Int)(o:Int)(O:List Int):List Int×List Int:=Td (Va C o.toNat) (List.range 256) (O,Va C o.toNat)
theorem BQ(O:List Int)(out:List PV)(no:Bool)(J:List ba)(k:Nat)(o:Int)
 (hC:C.length=n * 256) (cC:∀ c∈C,c < n) (H9:fr<=n * 256) (hO:Ax n O) (hn:n<=64) (hk:O[k]? =some o) (D8:out.length=k):
 ma (oa call xd) (fun s=>some (tidy [0,2,3,4,5,6] s)) ⟨bD k O,Ap R0 R1 S nl nr fr B7 C n L M O out no J⟩=
  some (.norm,⟨bD (k+1:Nat) (Pg C o O).1,Ap R0 R1 S nl nr fr B7 C n L M (Pg C o O).1 (out++[De (wg (Pg C o O).2)]) false (J++[.box (La (Pg C o O).2)])⟩)/\
  Ax n (Pg C o O).1/\∃ t,(Pg C o O).1=O++t:=by
 have hom:=hO.2 o (nab hk)
 have hkl:=(iaa.1 hk).1
 have hOl:=hO.len
 have hoi:o.toNat < n:=by omega
 have hr0:=Di hC hoi;obtain⟨b9,g1,g2,g3⟩:=OQ call R0 R1 S nl nr fr B7 C n L M O out no J k (Va C o.toNat) _ rfl hO hn hr0 (fun to h=>cC to (Vab (uac h)));refine⟨?_,g1,g3⟩;unfold Pg;generalize Td (Va C o.toNat) (List.range 256) (O,Va C o.toNat)=r at *;obtain⟨O',row'⟩:=r;simp only at g1 g2 g3 b9;have hed:=aT row' g2;have hlen:(O.map i64).length=O.length:=by simp
 have e1:decide ((k:Int) < (O.length:Int))=true:=Ea (by omega);have t1:((k:Int)).toNat=k:=by simp
 have hq1:Ia (k:Int) O.length:=by unfold Ia;omega
 have hg:(O.map i64)[k]? =some (i64 o):=by rw[Eaa,hk];rfl
 have hq3:Ia o n:=by unfold Ia;omega
 have w2:Mi 256 n fr (La C).length:=by rw[qb];unfold Mi;omega
 have w4:((La C).length=n * 256)=True:=by rw[qb];exact Iaa hC
 have w6:(o.toNat * 256+256<=(La C).length)=True:=by rw[qb];exact Iaa (by omega)
 have p1:=vH C o.toNat
 have t2:=ab (i:=k) (n:=64) (by omega) (by unfold maxLen;omega);have h9:((Va C o.toNat).map i64).map AV.pv=La (Va C o.toNat):=(tv _).symm
 have hz:=U4;have p5:(256<=(La (List.replicate 256 0)).length)=True:=by rw[qb,Xab];exact Iaa (paa _)
 have p6:fa (La (List.replicate 256 0)) 0 (La (Va C o.toNat))=La (Va C o.toNat):=by have:=zA (La (Va C o.toNat)) (La (List.replicate 256 0)) [] (by rw[qb,qb,hr0,Xab]);rw[Yaa,Yaa] at this;exact this
 generalize hzs:List.replicate 256 (0:Int)=zs at *
 generalize Va C o.toNat=fb at *
 have r0:((La fb).length=256)=True:=by rw[qb,hr0];exact eq_self _
 have r1:(256<=(La fb).length)=True:=by rw[qb,hr0];exact Iaa (paa _)
 have r2:List.take 256 (La fb)=La fb:=Saa (by rw[qb,hr0];exact paa _)
 have r3:=Ev fb;have r5:=MH fb;have s1:(256<=(La row').length)=True:=by rw[qb,g2];exact Iaa (paa _)
 have s2:List.take 256 (La row')=La row':=Saa (by rw[qb,g2];exact paa _)
 have s3:=Ev row';have q1:eb (out.length+1) 24:=by unfold eb;omega
 have P8:(out++[De (wg row')]).length=out.length+1:=by simp
 unfold Ap;rw[P8];have A9:(∃ l,De (wg row')= .lit 3 l)\/De (wg row')= .ga:=by unfold De;split;exact .inr rfl;exact .inl ⟨_,rfl⟩
 generalize De (wg row')=ed at *;simp only[Pz,Ap,Ri,tidy,Gc] at b9;simp -implicitDefEqProofs only[SP,SA,SQ,sevalprocAttr,-List.reduceReplicate,ma,xd,hlen,e1,Iaa hq1,Iaa hq3,t1,hg,Iaa w2,w4,w6,p1,h9,hz,p5,p6,r0,r1,r2,r3,r5,dq,Bq,ta,sr,tidy,Gc,bD,Ri];rw[b9];rcases A9 with⟨l,rfl⟩ | rfl <;>
 simp -implicitDefEqProofs only[SP,SA,SQ,sevalprocAttr,-List.reduceReplicate,t2,s1,s2,s3,hed,Ig,Ic,Iaa q1,dq,Bq,ta,tidy,Gc,bD,Ri,jj,AV.YE,AV.Pq]
def Vj(C:List Int):Nat->List Int×List (List ae)->List Int×List (List ae)
 |0,r=>r
 |f+1,r=>match r.1[r.2.length]? with
  |none=>r
  |some o=>Vj C f ((Pg C o r.1).1,r.2++[wg (Pg C o r.1).2])
theorem js{C:List Int}{f:Nat}{r:List Int×List (List ae)}(h:r.1[r.2.length]? =none):Vj C f r=r:=by
 cases f with
 |zero=>rfl
 |succ f=>rw[Vj,h]
theorem Gt{C:List Int}{f:Nat}{r:List Int×List (List ae)}{o:Int}(h:r.1[r.2.length]? =some o):Vj C (f+1) r=Vj C f ((Pg C o r.1).1,r.2++[wg (Pg C o r.1).2]):=by
 rw[Vj,h]
def ep(C:List Int):List (List ae):=(Vj C 64 ([0],[])).2
def Qk(l:List (List ae)):PV:= .lit 1 (l.map De)
theorem kJ(O:List Int)(out:List PV)(no:Bool)(J:List ba)(k:Nat)(hk:k=O.length):
 ma (oa call xd) (fun s=>some (tidy [0,2,3,4,5,6] s)) ⟨bD k O,Ap R0 R1 S nl nr fr B7 C n L M O out no J⟩=
  some (.exit 0,⟨((((bD k O).set 15 (.pv (i64 k))).set 16 (.uq 10 false 1 (O.map i64))).set 17 (.pv (i64 O.length))).set 18 (.pv (.bool false)),Ap R0 R1 S nl nr fr B7 C n L M O out no J⟩):=by
 have hlen:(O.map i64).length=O.length:=by simp
 have e1:decide ((k:Int) < (O.length:Int))=false:=Ga (by omega);simp -implicitDefEqProofs only[SP,SA,SQ,sevalprocAttr,-List.reduceReplicate,ma,xd,hlen,e1,bD,Ap,Ri]
theorem ET(hC:C.length=n * 256)(cC:∀ c∈C,c < n)(H9:fr<=n * 256)(hn:n<=64)(h0:0 < n):
 ∃ O J k,Za (ma (oa call xd) (fun s=>some (tidy [0,2,3,4,5,6] s))) ua ⟨bD 0 [0],Ap R0 R1 S nl nr fr B7 C n L M [0] [] true []⟩=
  some (.exit 0,⟨((((bD k O).set 15 (.pv (i64 k))).set 16 (.uq 10 false 1 (O.map i64))).set 17 (.pv (i64 O.length))).set 18 (.pv (.bool false)),Ap R0 R1 S nl nr fr B7 C n L M O ((ep C).map De) false J⟩):=by
 have key:=im (g:=ma (oa call xd) (fun s=>some (tidy [0,2,3,4,5,6] s)))
  (fun k t=>∃ (O:List Int)(out:List (List ae))(J:List ba),Ax n O/\out.length=k/\k<=O.length/\0 < O.length/\t=⟨bD k O,Ap R0 R1 S nl nr fr B7 C n L M O (out.map De) (k==0) J⟩/\Vj C 64 ([0],[])=Vj C (64 - k) (O,out))
  (fun ex t=>∃ (O:List Int)(J:List ba)(k:Nat),ex= .exit 0/\t=⟨((((bD k O).set 15 (.pv (i64 k))).set 16 (.uq 10 false 1 (O.map i64))).set 17 (.pv (i64 O.length))).set 18 (.pv (.bool false)),Ap R0 R1 S nl nr fr B7 C n L M O ((ep C).map De) false J⟩)
  ua 64 0 ⟨bD (0:Nat) [0],Ap R0 R1 S nl nr fr B7 C n L M [0] [] true []⟩ (by unfold ua;omega) (by omega)
   ⟨[0],[],[],⟨by simp,by intro o ho;simp at ho;omega⟩,rfl,by simp,by simp,rfl,rfl⟩ ?_ ?_
 ·obtain⟨ex,t,h,_,O,J,k,rfl,rfl⟩:=key
  exact⟨O,J,k,h⟩
 ·rintro k hk t ⟨O,out,J,hO,D8,hkO,hO0,rfl,hl⟩
  by_cases E7:k < O.length
  ·obtain⟨o,ho⟩:∃ o,O[k]? =some o:=⟨O[k],by simp[E7]⟩
   obtain⟨g1,g2,t,g3⟩:=BQ call R0 R1 S nl nr fr B7 C n L M O (out.map De) (k==0) J k o hC cC H9 hO hn ho (by simpa using D8);rw[show 64 - k=(64 - (k+1))+1 by omega,Gt (r:=(O,out)) (o:=o) (by show O[out.length]? =_;rw[D8];exact ho)] at hl;refine .inl ⟨_,g1,_,out++[wg (Pg C o O).2],J++[.box (La (Pg C o O).2)],g2,by simp[D8],?_,?_,?_,hl⟩
   ·rw[g3];simp;omega
   ·rw[g3];simp;omega
   ·have:(k+1==0)=false:=rfl
    rw[this];simp
  ·have hke:k=O.length:=by omega
   rw[js (r:=(O,out)) (by show O[out.length]? =none;rw[D8,hke];simp)] at hl;refine .inr ⟨.exit 0,_,kJ call R0 R1 S nl nr fr B7 C n L M O _ _ J k hke,rfl,O,J,k,rfl,?_⟩
   have:(k==0)=false:=by simp;omega
   rw[this,ep,hl]
 ·rintro t ⟨O,out,J,hO,D8,hkO,hO0,rfl,hl⟩
  have hke:64=O.length:=by have:=hO.len;omega
  rw[js (r:=(O,out)) (by show O[out.length]? =none;rw[D8,hke];simp)] at hl;refine⟨.exit 0,_,kJ call R0 R1 S nl nr fr B7 C n L M O _ _ J 64 hke,rfl,O,J,64,rfl,?_⟩;have:((64:Nat)==0)=false:=rfl;rw[this,ep,hl]
theorem tX(hC:C.length=n * 256)(cC:∀ c∈C,c < n)(H9:fr<=n * 256)(hn:n<=64)(h0:0 < n):
 ∃ O J,ef call Oj [.ptr 3 0] (Ri R0 R1 S nl nr fr B7 C n [L,M])=
  some (.agg [.uq 12 false 1 ((ep C).map De)],Ri R0 R1 S nl nr fr B7 C n (L::M:: .box [.uq 12 false 1 ((ep C).map De)]:: .map (nO O 0):: .tok 1 O.length false:: .box [.uq 12 false 1 ((ep C).map De)]:: .tok 1 ((ep C).map De).length false::J)):=by
 obtain⟨O,J,k,hl⟩:=ET call R0 R1 S nl nr fr B7 C n L M hC cC H9 hn h0;refine⟨O,J,?_⟩;generalize (ep C).map De=out at *
 have Z8:Za (ma (oa call xd) (fun s=>some ⟨((((((Tr.lf.set 6 (s.env.get 6)).set 5 (s.env.get 5)).set 4 (s.env.get 4)).set 3 (s.env.get 3)).set 2 (s.env.get 2)).set 0 (s.env.get 0)),s.H⟩)) ua
  ⟨((((((Tr.lf.set 6 (.pv (.int .i64 0))).set 5 (.ptr 11 0)).set 4 (.uq 10 false 1 [.int .i64 0])).set 3 (.mp 9)).set 2 (.ptr 8 0)).set 0 (.ptr 3 0)),[R0,R1,.map (KE B7 0),.box [.pv S,.mp 2,.uq 4 nl 2 (B7.map Oi),.own 5 n],.tok 2 B7.length nl,.seq 256 true (La C) fr nr,L,M,.box [.pv .ga],.map [(.int .i64 0,.int .i64 0)],.tok 1 1 false,.box [.uq 12 true 1 []],.tok 1 0 true]⟩=_:=hl
 simp only[bD,Ap,Ri] at Z8;simp -implicitDefEqProofs only[SP,SA,SQ,sevalprocAttr,-List.reduceReplicate,Oj,fe,sr,tidy,Gc,sn,Ql,Vs,Option.isSome_some,jj,AV.YE,AV.Pq,Ri];rw[Z8];simp -implicitDefEqProofs only[SP,SA,SQ,sevalprocAttr,-List.reduceReplicate,Ri]
end
def Nr(n:Nat):Int:=IntKind.u32.wrap (IntKind.u32.wrap (1 * 2 ^ min n IntKind.u32.bits) - 1)
theorem pF(n:Nat):IntKind.u32.wrap (IntKind.u32.wrap (1 * 2 ^ min n IntKind.u32.bits) - 1)=Nr n:=rfl
theorem mG{n:Nat}(h:n<=32):Nr n=((2 ^ n - 1:Nat):Int):=by
 have:∀ n:Fin 33,Nr n.1=((2 ^ n.1 - 1:Nat):Int):=by decide
 exact this ⟨n,by omega⟩
theorem dS{a:Al}:∀ {l:List Al}{k i:Nat},Vm a l k=some i->i < k+l.length
 |b::l,k,i,h=>by
  simp only[Vm] at h
  split at h
  ·injection h with h;simp;omega
  ·have:=dS h;simp;omega
theorem TX{ss:List Ob}{a:Al}{x:Int}{B7:List Al}{r:List Al×Int}(h:ph ss a x B7=some r):r.2 < r.1.length:=by
 unfold ph at h
 split at h
 ·injection h with h;subst h;simp;omega
 ·split at h
  ·injection h with h;subst h;simp;omega
  ·split at h
   ·next k hk=>injection h with h;subst h;have:=dS hk;simp at this;simp;omega
   ·split at h
    ·injection h with h;subst h;simp;omega
    ·cases h
theorem mS{ss:List Ob}{a:Al}:∀ (xs:List Nat)(r r':List Al×List Int),r.1.length<=64->(∀ v∈r.2,v < r.1.length)->gm ss a xs r=some r'->∀ v∈r'.2,v < r'.1.length
 | [],r,r',_,h,e=>by injection e with e;subst e;exact h
 |x::xs,r,r',hl,h,e=>by
  cases Y7:ph ss a x r.1 with
  |none=>rw[Lu Y7] at e;cases e
  |some p=>
   rw[Gu Y7] at e;have hg:=lE Y7 hl;refine mS xs (p.1,r.2.set x p.2) r' hg.1 ?_ e
   intro v hv;obtain⟨t,ht⟩:=hg.2
   rcases Aab hv with h1 | h1
   ·have h2:=h v h1
    have:r.1.length<=p.1.length:=by rw[ht];simp
    simp only;omega
   ·rw[h1];exact TX Y7
theorem bM{ss:List Ob}(hw:ss.length<=32):∀ (k:Nat)(r r':List Al×List (List Int)),uo ss r.1->(∀ l∈r.2,∀ v∈l,v < r.1.length)->rh ss k r=some r'->(∀ l∈r'.2,∀ v∈l,v < r'.1.length)/\∃ t,r'.1=r.1++t
 |0,r,r',_,h,e=>by injection e with e;subst e;exact⟨h,[],by simp⟩
 |k+1,r,r',Ba,h,e=>by
  cases ha:r.1[r.2.length]? with
  |none=>rw[Hv ha] at e;injection e with e;subst e;exact⟨h,[],by simp⟩
  |some a=>
   cases hr:gm ss a (List.range 256) (r.1,fb) with
   |none=>rw[iw ha hr] at e;cases e
   |some p=>
    rw[ux ha hr] at e;obtain⟨g1,⟨t,g2⟩,g3⟩:=Ew hw (List.range 256) (r.1,fb) p Ba ha hr;have v8:0 < r.1.length:=by have:=(iaa.1 ha).1;omega
    have g4:=mS (List.range 256) (r.1,fb) p Ba.1 (by intro v hv;have:v=0:=Ead hv;simp only;omega) hr
    obtain⟨k1,t2,k2⟩:=bM hw k (p.1,r.2++[p.2]) r' g1 (by
     intro l hl v hv;rcases Jaa.1 hl with h1 | h1
     ·have:=h l h1 v hv
      simp only[g2,raa] at this ⊢;omega
     ·simp at h1;subst h1;exact g4 v hv) e
    exact⟨k1,t++t2,by rw[k2,g2,Dab]⟩
theorem gD:∀ (rs:List (List Int)),La rs.flatten=rs.flatMap La
 | []=>rfl
 |r::rs=>by have:=gD rs;rw[Uab,jG,Yac,this]
def qh(ss:List Ob):List Al:=[(0,Nr ss.length)]
theorem ZB{ss:List Ob}(hw:ss.length<=32)(J7:∀ s∈ss,0 < s.parts.length):uo ss (qh ss):=by
 refine⟨by simp[qh],?_⟩;intro k a ha
 match k,ha with
 |0,ha=>
  simp only[qh,dab,caa] at ha;subst ha;refine⟨by simp,2 ^ ss.length - 1,mG hw,?_,?_⟩
  ·have:2 ^ ss.length<=2 ^ 32:=Nat.pow_le_pow_right (by decide) hw
   omega
  ·intro i s hs _
   exact J7 s (nab hs)
 |k+1,ha=>simp[qh] at ha
section
variable (R0 R1:ba)(S:PV)(ss:List Ob)
 (h0:qa 7 R0=some R0) (h1:qa 7 R1=some R1) (g0:qa 6 R0=some R0) (g1:qa 6 R1=some R1)
 (hS:Uh 2 S (ss.map pf)) (hw:ss.length<=32) (L7:∀ s∈ss,∀ l∈s.parts,l.length * 16<=140737488355328) (J7:∀ s∈ss,0 < s.parts.length)
include h0 h1 g0 g1 hS hw L7 J7
theorem ZN:
 (∀ r,rh ss 64 (qh ss,[])=some r->∃ nl',ef (Da Fa 7) Wg [.ptr 3 0] (Hk R0 R1 S true [] (Ah []) 0 [])=some (.pv (.bool true),Hk R0 R1 S nl' r.1 (Ah r.2) r.2.length [])/\uo ss r.1/\r.2.length=r.1.length/\∀ r'∈r.2,r'.length=256)/\
 (rh ss 64 (qh ss,[])=none->∃ H,ef (Da Fa 7) Wg [.ptr 3 0] (Hk R0 R1 S true [] (Ah []) 0 [])=some (.pv (.bool false),H)/\H[0]? =some R0):=by
 have D7:=dU R0 R1 S false (qh ss) ss h0 h1 g0 g1 hS hw L7 (ZB hw J7) (by simp[qh]);have ls:=hS.len
 simp only[haa] at ls;have Z9:ef (Da Fa 6) xe [.ptr 3 0,.pv (.agg [.int .i64 0,.int .u32 (Nr ss.length)])] [R0,R1,.map (KE [] 0),.box [.pv S,.mp 2,.uq 4 true 2 [],.own 5 0],.tok 2 0 true,.seq 256 true [] 0 true]=some (.pv (.mc [.int .i64 0,.bool true]),Hk R0 R1 S false [(0,Nr ss.length)] (Ah []) 0 []):=
  tS (Da Fa 6) R0 R1 S true [] (Ah []) 0 [] (0,Nr ss.length) rfl (by simp)
 have n0:¬((ss.length:Int) < 0):=by omega
 have t1:((ss.length:Int)).toNat=ss.length:=by simp
 have e1:((ss.length:Int) < 0)=False:=eq_false n0;have q5:=ay 6 6 [];simp only[Iae] at q5;simp only[Hk,Ah,Iae,List.isEmpty_nil] at Z9;unfold Hk Ah;constructor
 ·intro r hr
  obtain⟨E,nl',hl,k1,k2,k3⟩:=D7.1 r hr
  refine⟨nl',?_,k1,k2,k3⟩;simp -implicitDefEqProofs only[SP,SA,SQ,sevalprocAttr,-List.reduceReplicate,Wg,ls,e1,t1,pF,Fa,Iae,Z9,Db,na,Ca,mo,Rn,Uo,Vu,Qa,AV.cut,Ic,h0,h1,g0,g1,q5,Hk];have Z8:Za (ma (oa (Da Fa 7) yb) (na 6 [0,3])) ua ⟨(Tr.lf.set 3 (.pv (.int .i64 0))).set 0 (.ptr 3 0),[R0,R1,.map (KE [(0,Nr ss.length)] 0),.box [.pv S,.mp 2,.uq 4 false 2 [Oi (0,Nr ss.length)],.own 5 0],.tok 2 1 false,.seq 256 true [] 0 true]⟩=_:=hl;rw[Z8];simp -implicitDefEqProofs only[SP,SA,SQ,sevalprocAttr,-List.reduceReplicate,Hk,Ah]
 ·intro hr
  obtain⟨t,hl,k2,k3⟩:=yt (D7.2 hr);refine⟨t.H,?_,k3⟩;simp -implicitDefEqProofs only[SP,SA,SQ,sevalprocAttr,-List.reduceReplicate,Wg,ls,e1,t1,pF,Fa,Iae,Z9,Db,na,Ca,mo,Rn,Uo,Vu,Qa,AV.cut,Ic,h0,h1,g0,g1,q5,Hk];have Z8:Za (ma (oa (Da Fa 7) yb) (na 6 [0,3])) ua ⟨(Tr.lf.set 3 (.pv (.int .i64 0))).set 0 (.ptr 3 0),[R0,R1,.map (KE [(0,Nr ss.length)] 0),.box [.pv S,.mp 2,.uq 4 false 2 [Oi (0,Nr ss.length)],.own 5 0],.tok 2 1 false,.seq 256 true [] 0 true]⟩=_:=hl;rw[Z8];simp -implicitDefEqProofs only[SP,SA,SQ,sevalprocAttr,-List.reduceReplicate,k2]
end
def ig(ss:List Ob):Option (List (List ae)):=
 (rh ss 64 (qh ss,[])).map fun r=>ep (mf r.2.length r.2.flatten).C
section
variable (S0 S:PV)(ss:List Ob)(hS0:S0= .ga\/∃ l,S0= .lit 2 l){y:Bool}{a b e:Int}
include hS0
theorem YU(he:e≠0)(hp:ff [.agg [S0]]=some (.mc [.agg [.bool y,i64 a,i64 b],i64 e])):
 Hc [.agg [S0]]=some (.mc [.agg [.ga],i64 e]):=by
 have e1:=mj he;rcases hS0 with rfl | ⟨l,rfl⟩ <;>
 simp -implicitDefEqProofs only[Hc,SP,SA,SQ,sevalprocAttr,-List.reduceReplicate,Am,hp,e1,bne,Ig,Ic]
theorem kW(hp:ff [.agg [S0]]=some (.mc [.agg [.bool false,i64 a,i64 b],i64 0])):
 Hc [.agg [S0]]=some (.mc [.agg [.ga],i64 110]):=by
 rcases hS0 with rfl | ⟨l,rfl⟩ <;>
 simp -implicitDefEqProofs only[Hc,SP,SA,SQ,sevalprocAttr,-List.reduceReplicate,Am,hp,bne,Ig,Ic]
variable (hp:ff [.agg [S0]]=some (.mc [.agg [.bool true,i64 a,i64 b],i64 0]))(hc:Mj [.agg [S0]]=some (.agg [S]))
 (hS:Uh 2 S (ss.map pf)) (hw:ss.length<=32) (L7:∀ s∈ss,∀ l∈s.parts,l.length * 16<=140737488355328) (J7:∀ s∈ss,0 < s.parts.length)
include hp hc hS hw L7 J7
theorem GP(h:ig ss=none):Hc [.agg [S0]]=some (.mc [.agg [.ga],i64 130]):=by
 have hn:rh ss 64 (qh ss,[])=none:=by unfold ig at h;simpa using h
 obtain⟨H,hwk,hH⟩:=(ZN (.box [.pv .ga]) (.box [.pv (.bool true),.pv (i64 a),.pv (i64 b)]) S ss rfl rfl rfl rfl hS hw L7 J7).2 hn
 have hb0:Hk (.box [.pv .ga]) (.box [.pv (.bool true),.pv (i64 a),.pv (i64 b)]) S true [] (Ah []) 0 []=[.box [.pv .ga],.box [.pv (.bool true),.pv (i64 a),.pv (i64 b)],.map [],.box [.pv S,.mp 2,.uq 4 true 2 [],.own 5 0],.tok 2 0 true,.seq 256 true [] 0 true]:=rfl;rw[hb0] at hwk;have hS2:S= .ga\/∃ l,S= .lit 2 l:=by rcases hS with⟨h,_⟩ | h;exact .inl h;exact .inr ⟨_,h⟩
 have hH2:∀ o,(H.set 0 o)[0]? =some o:=by
  intro o;cases H with
  |nil=>cases hH
  |cons x H=>rfl
 rcases hS0 with rfl | ⟨l,rfl⟩ <;> rcases hS2 with rfl | ⟨l2,rfl⟩ <;>
 simp -implicitDefEqProofs only[Hc,SP,SA,SQ,sevalprocAttr,-List.reduceReplicate,Am,hp,hc,hwk,hH,hH2,Fa,fe,jj,AV.YE,AV.Pq,bne,Ig,Ic]
theorem yY{l:List (List ae)}(h:ig ss=some l):Hc [.agg [S0]]=some (.mc [.agg [Qk l],i64 0]):=by
 obtain⟨r,hn,hl⟩:∃ r,rh ss 64 (qh ss,[])=some r/\ep (mf r.2.length r.2.flatten).C=l:=by unfold ig at h;simpa using h
 obtain⟨nl,hwk,k1,k2,k3⟩:=(ZN (.box [.pv .ga]) (.box [.pv (.bool true),.pv (i64 a),.pv (i64 b)]) S ss rfl rfl rfl rfl hS hw L7 J7).1 r hn
 have hb0:Hk (.box [.pv .ga]) (.box [.pv (.bool true),.pv (i64 a),.pv (i64 b)]) S true [] (Ah []) 0 []=[.box [.pv .ga],.box [.pv (.bool true),.pv (i64 a),.pv (i64 b)],.map [],.box [.pv S,.mp 2,.uq 4 true 2 [],.own 5 0],.tok 2 0 true,.seq 256 true [] 0 true]:=rfl;have L8:Hk (.box [.pv .ga]) (.box [.pv (.bool true),.pv (i64 a),.pv (i64 b)]) S nl r.1 (Ah r.2) r.2.length []=Ri (.box [.pv .ga]) (.box [.pv (.bool true),.pv (i64 a),.pv (i64 b)]) S nl r.2.isEmpty 0 r.1 r.2.flatten r.2.length []:=by unfold Hk Ri Ah;rw[gD]
 rw[hb0,L8] at hwk;have E7:=bM hw 64 (qh ss,[]) r (ZB hw J7) (by simp) hn;have v8:0 < r.1.length:=by obtain⟨t,ht⟩:=E7.2;rw[ht];simp[qh]
 have hC:r.2.flatten.length=r.2.length * 256:=by have:=FF k3;rw[<- gD,qb] at this;exact this
 have cC:∀ c∈r.2.flatten,c < (r.2.length:Int):=by
  intro c hc;obtain⟨l,h1,h2⟩:=Hae.1 hc
  rw[k2];exact E7.1 l h1 c h2
 have h64:r.2.length<=64:=by rw[k2];exact k1.1
 have h0:0 < r.2.length:=by omega
 obtain⟨fr,fk,v,hf,hls⟩:=CU (Da Fa 7) (.box [.pv .ga]) (.box [.pv (.bool true),.pv (i64 a),.pv (i64 b)]) S nl r.2.isEmpty r.1 r.2.flatten r.2.length h64 h0 k2.symm hC cC
 have Ba:B3 r.2.length (mf r.2.length r.2.flatten):=UG _ _ (paa _) ⟨hC,by simp,cC,by intro c hc;rw[Ead hc];omega,by simp⟩
 obtain⟨O,J,htd⟩:=tX (Da Fa 7) (.box [.pv .ga]) (.box [.pv (.bool true),.pv (i64 a),.pv (i64 b)]) S nl r.2.isEmpty fr r.1 (mf r.2.length r.2.flatten).C r.2.length (.seq 1 false (La (mf r.2.length r.2.flatten).Ac) fk false) (.map (ov (mf r.2.length r.2.flatten).M)) Ba.hC Ba.cC (by omega) h64 h0
 rw[hl] at htd;unfold Qk;generalize l.map De=out at *
 generalize mf r.2.length r.2.flatten=g at *
 simp only[Ri] at hwk hls htd;have hS2:S= .ga\/∃ l,S= .lit 2 l:=by rcases hS with⟨h,_⟩ | h;exact .inl h;exact .inr ⟨_,h⟩
 rcases hS0 with rfl | ⟨l,rfl⟩ <;> rcases hS2 with rfl | ⟨l2,rfl⟩ <;>
 simp -implicitDefEqProofs only[Hc,SP,SA,SQ,sevalprocAttr,-List.reduceReplicate,Am,hp,hc,hwk,hls,htd,Fa,fe,jj,AV.YE,AV.Pq,bne,Ig,Ic]
end
structure zq(v:PV)(l:List (Int×Int)):Prop where
 is:Uh 2 v (de l)
 sz:l.length * 16<=140737488355328
structure xf(P:PV)(ls:List (List (Int×Int)))(ps:List PV):Prop where
 is:Uh 1 P ps
 len:ps.length=ls.length
 all:∀ (k:Nat) v l,ps[k]? =some v->ls[k]? =some l->zq v l
 sz:ls.length<=maxLen
structure fg(e:PV)(s:Ob)(P:PV)(ps:List PV):Prop where
 eq:e= .agg [P,i64 s.first]
 parts:xf P s.parts ps
structure pb(S:PV)(ss:List Ob)(es:List PV):Prop where
 is:Uh 2 S es
 len:es.length=ss.length
 all:∀ (k:Nat) e s,es[k]? =some e->ss[k]? =some s->∃ P ps,fg e s P ps
 sz:ss.length<=maxLen
theorem xf.get{P:PV}{ls:List (List (Int×Int))}{ps:List PV}(h:xf P ls ps){i:Nat}(hi:i < ls.length):∃ v,ps[i]? =some v/\P= .lit 1 ps/\zq v ls[i]:=by
 have h1:i < ps.length:=by rw[h.len];exact hi
 refine⟨ps[i],aaa h1,h.is.lit (i:=i) h1,h.all i _ _ (aaa h1) (aaa hi)⟩
theorem pb.get{S:PV}{ss:List Ob}{es:List PV}(h:pb S ss es){i:Nat}(hi:i < ss.length):∃ e P ps,es[i]? =some e/\S= .lit 2 es/\fg e ss[i] P ps:=by
 have h1:i < es.length:=by rw[h.len];exact hi
 obtain⟨P,ps,hp⟩:=h.all i _ _ (aaa h1) (aaa hi)
 exact⟨es[i],P,ps,aaa h1,h.is.lit (i:=i) h1,hp⟩
theorem xf.Sb{P:PV}{ls:List (List (Int×Int))}{ps:List PV}(h:xf P ls ps)(H:List ba):Sb H 0 (.pv P)=some ls.length:=by
 rw[h.is.len,h.len]
theorem pb.Sb{S:PV}{ss:List Ob}{es:List PV}(h:pb S ss es)(H:List ba):Sb H 0 (.pv S)=some ss.length:=by
 rw[h.is.len,h.len]
def Bd(l:List (Int×Int)):Prop:=l≠[]/\Pa 255 (-2) l=true
instance (l:List (Int×Int)):Decidable (Bd l):=by unfold Bd;infer_instance
def Xh:Int->List (List (Int×Int))->Int
 |n,[]=>n
 |n,l::r=>Xh (if 1073741825 < n * ib 0 l then 1073741825 else n * ib 0 l) r
def zi(s:Ob):Int:=s.first+Xh 1 s.parts - 1
theorem Yg{l:List (Int×Int)}(h:Bd l):1<=ib 0 l/\ib 0 l<=256:=by
 have:=(Mt h.2).2.1 h.1;omega
theorem yz{n s:Int}(h1:1<=n)(h2:n<=1073741825)(h3:1<=s)(h4:s<=256):1<=n * s/\n * s<=274877907200:=by
 constructor
 ·have:=Int.mul_le_mul h1 h3 (by omega) (by omega);omega
 ·have:=Int.mul_le_mul h2 h4 (by omega) (by omega);omega
theorem pn:∀ (ls:List (List (Int×Int)))(n:Int),(∀ l∈ls,Bd l)->1<=n->n<=1073741825->1<=Xh n ls/\Xh n ls<=1073741825
 | [],n,_,h1,h2=>⟨h1,h2⟩
 |l::r,n,h,h1,h2=>by
  have hs:=Yg (h l (by simp));have hm:=yz h1 h2 hs.1 hs.2
  rw[Xh];refine pn r _ (fun x hx=>h x (by simp[hx])) ?_ ?_ <;> split <;> omega
abbrev BO(row:List PV)(P:PV)(len i n:Int):Tr:=((((Tr.lf.set 9 (.pv (i64 i))).set 8 (.pv (i64 len))).set 7 (.pv P)).set 3 (.pv (i64 n))).set 1 (.pv (.rp row 0))
theorem nN{e:PV}{s:Ob}{P:PV}{ps:List PV}(h:fg e s P ps)(Ba:∀ l∈s.parts,Bd l)(hf:0<=s.first/\s.first<=1073741823):Pp [e]=some (i64 (zi s)):=by
 obtain⟨rfl,hP⟩:=h;have hb:=pn s.parts 1 Ba (by omega) (by omega)
 have L7:=hP.sz
 have D7:qd (fun r=>∃ E H,r=(.exit 0,⟨E,H⟩)/\E.get 3= .pv (i64 (Xh 1 s.parts))/\E.get 1= .pv (.rp [P,i64 s.first] 0))
  (Za (ma (oa (Da (fun _=>none) 8) Fi) (na 0 [1,3,7,8,9])) ua ⟨BO [P,i64 s.first] P s.parts.length 0 1,[]⟩):=by
  refine wa (Fb (g:=ma (oa (Da (fun _=>none) 8) Fi) (na 0 [1,3,7,8,9]))
   (fun i t=>∃ n,t=⟨BO [P,i64 s.first] P s.parts.length i n,[]⟩/\1<=n/\n<=1073741825/\Xh 1 s.parts=Xh n (s.parts.drop i))
   s.parts.length (by unfold ua;unfold maxLen at L7;omega) _ ⟨1,rfl,by omega,by omega,rfl⟩ ?_ ?_) (fun r h=>h.2)
  ·rintro i t hi ⟨n,rfl,h1,h2,hs⟩
   obtain⟨v,hv,hPl,Y8⟩:=hP.get hi
   have hd:s.parts.drop i=s.parts[i]::s.parts.drop (i+1):=Paa hi
   have N8:=Ba s.parts[i] (jaa hi)
   have hss:=Jy v s.parts[i] Y8.is Y8.sz N8.2
   have hsb:=Yg N8;rw[hd,Xh] at hs;generalize s.parts[i]=l at *
   have hm:=yz h1 h2 hsb.1 hsb.2
   have e1:decide ((i:Int) < (s.parts.length:Int))=true:=Ea (by omega);have t2:=ab hi L7;have t3:IntKind.i64.wrap (n * ib 0 l)=n * ib 0 l:=Aa (by omega)
   have hq:i < ps.length:=by rw[hP.len];exact hi
   have P7:v.cells=[v]:=by rcases Y8.is with⟨h,_⟩ | h <;> rw[h] <;> rfl
   have a1:ta [] 1 (.pv P) (i:Int)=some (.pv (.rp [v] 0)):=by rw[hPl];simp only[ta];rw[if_pos (by unfold Ia;simp;omega),Daa,hv];simp[P7]
   have a2:pa [] false 1 (.pv (.rp [v] 0))=some (.pv v):=rfl;generalize hQ:LN _ _ i=Q;simp -implicitDefEqProofs only[SX,sevalprocAttr,Fi,e1,t2,t3,a1,a2,hss,Zo,We,na,Ca,AV.cut,za,BO];subst hQ;exact⟨_,rfl,by split <;> omega,by split <;> omega,hs⟩
  ·rintro t ⟨n,rfl,h1,h2,hs⟩
   rw[vab,Xh] at hs;have e1:decide ((s.parts.length:Int) < (s.parts.length:Int))=false:=Ga (by omega);generalize hQ:(fun r:Ex×St=>r.1.stop=true/\_)=Q;simp -implicitDefEqProofs only[SX,sevalprocAttr,Fi,e1,BO];subst hQ;exact⟨rfl,_,_,rfl,by simp[Tr.aa,hs],by simp[Tr.aa]⟩
 obtain⟨r,h1,E,H,rfl,hE,hE1⟩:=wc D7;have ls:=hP.Sb
 simp only[BO] at h1;have D9:Za (ma (oa (Da (fun _=>none) 8) Fi) (na 0 [1,3,7,8,9])) ua ⟨((((Tr.lf.set 9 (.pv (.int .i64 0))).set 8 (.pv (.int .i64 s.parts.length))).set 7 (.pv P)).set 3 (.pv (.int .i64 1))).set 1 (.pv (.rp [P,i64 s.first] 0)),[]⟩=some (.exit 0,⟨E,H⟩):=h1;unfold zi;generalize Xh 1 s.parts=n at *
 have t1:IntKind.i64.wrap (s.first+n)=s.first+n:=Aa (by omega)
 have t2:IntKind.i64.wrap (s.first+n - 1)=s.first+n - 1:=Aa (by omega)
 have hPv:∃ sz es,P= .ga\/P= .lit sz es:=by rcases hP.is with⟨h,_⟩ | h;exact⟨0,[],.inl h⟩;exact⟨_,_,.inr h⟩
 obtain⟨sz,es,rfl | rfl⟩:=hPv <;>;simp -implicitDefEqProofs only[Pp,SP,SA,SQ,WP,WQ,sevalprocAttr,xu,Db,ls,D9,hE,hE1,t1,t2]
theorem FX(call:Sa){v:PV}{l:List (Int×Int)}(h:zq v l)(H:List ba):ef call Tk [.pv v] H=some (.pv (.bool (!decide (Bd l))),H):=by
 have ls:=h.is.len
 simp only[de,haa] at ls;have hv:=JE v l h.is h.sz
 by_cases h0:l=[]
 ·have e1:((l.length:Int)==0)=true:=by simp[h0]
  have e2:(!decide (Bd l))=true:=by
   have:¬Bd l:=fun hp=>hp.1 h0
   simp[this]
  rw[e2];simp -implicitDefEqProofs only[SP,SA,SQ,WP,WQ,sevalprocAttr,Tk,ls,e1]
 ·have e1:((l.length:Int)==0)=false:=by
   have:l.length≠0:=fun e=>h0 (qaa e)
   exact mj (by omega)
  have e2:(!decide (Bd l))= !(Pa 255 (-2) l):=by
   congr 1
   rw[Xad];simp[Bd,h0]
  rw[e2];simp -implicitDefEqProofs only[SP,SA,SQ,WP,WQ,sevalprocAttr,Tk,ls,e1,hv]
def By(ls:List (List (Int×Int)))(i:Nat):Int:=
 match ls with
 | []=> -1
 |l::r=>if Bd l then By r (i+1) else i
theorem ZI:∀ (ls:List (List (Int×Int)))(i:Nat),decide (By ls i>=0)= !decide (∀ l∈ls,Bd l)
 | [],i=>by simp[By]
 |l::r,i=>by
  rw[By]
  by_cases h:Bd l
  ·rw[if_pos h,ZI r];simp[h]
  ·rw[kaa h];simp[h]
abbrev dO(P:PV)(len i:Int):Tr:=(((Tr.lf.set 8 (.pv (i64 i))).set 7 (.pv (i64 len))).set 1 (.Ml 7 [])).set 0 (.pv P)
theorem cU{P:PV}{ls:List (List (Int×Int))}{ps:List PV}(hP:xf P ls ps)(d:Nat)(H:List ba)(hH:Wd H):
 ef (Da bc (d+1)) Dc [.pv P,.Ml 7 []] H=some (.pv (i64 (By ls 0)),H):=by
 have L7:=hP.sz
 have lsn:=hP.Sb
 have C7:=Wd.cut hH
 have h7:bc 7=some Tk:=rfl;apply Yk;have D7:qd (fun r=>∃ E,(r=(.exit 0,⟨E,H⟩)/\By ls 0= -1)\/(r=(.ret,⟨E,H⟩)/\E.get 4= .pv (i64 (By ls 0))))
  (Za (ma (oa (Da bc (d+1)) Kb) (na H.length [0,1,7,8])) ua ⟨dO P ls.length 0,H⟩):=by
  refine wa (Fb (g:=ma (oa (Da bc (d+1)) Kb) (na H.length [0,1,7,8]))
   (fun i t=>t=⟨dO P ls.length i,H⟩/\By ls 0=By (ls.drop i) i)
   ls.length (by unfold ua;unfold maxLen at L7;omega) _ ⟨rfl,rfl⟩ ?_ ?_) (fun r h=>h.2)
  ·rintro i t hi ⟨rfl,hs⟩
   obtain⟨v,hv,hPl,Y8⟩:=hP.get hi
   have hd:ls.drop i=ls[i]::ls.drop (i+1):=Paa hi
   rw[hd,By] at hs;have hn:=FX (Da bc d) Y8 H;generalize ls[i]=l at *;have e1:decide ((i:Int) < (ls.length:Int))=true:=Ea (by omega);have t2:=ab hi L7;have hq:i < ps.length:=by rw[hP.len];exact hi
   have P7:v.cells=[v]:=by rcases Y8.is with⟨h,_⟩ | h <;> rw[h] <;> rfl
   have a1:ta H 1 (.pv P) (i:Int)=some (.pv (.rp [v] 0)):=by rw[hPl];simp only[ta];rw[if_pos (by unfold Ia;simp;omega),Daa,hv];simp[P7]
   have a2:pa H false 1 (.pv (.rp [v] 0))=some (.pv v):=rfl;generalize hQ:LN _ _ i=Q
   by_cases Ba:Bd l
   ·rw[if_pos Ba] at hs
    rw[decide_eq_true Ba] at hn;simp -implicitDefEqProofs only[SX,sevalprocAttr,Kb,e1,t2,a1,a2,h7,hn,C7,sab,na,Ca,AV.cut,za,dO];subst hQ;exact⟨rfl,hs⟩
   ·rw[kaa Ba] at hs
    rw[decide_eq_false Ba] at hn;simp -implicitDefEqProofs only[SX,sevalprocAttr,Kb,e1,t2,a1,a2,h7,hn,C7,sab,na,Ca,AV.cut,za,dO];subst hQ;exact⟨_,.inr ⟨rfl,by simp[Tr.aa,hs]⟩⟩
  ·rintro t ⟨rfl,hs⟩
   rw[vab,By] at hs;have e1:decide ((ls.length:Int) < (ls.length:Int))=false:=Ga (by omega);generalize hQ:(fun r:Ex×St=>r.1.stop=true/\_)=Q;simp -implicitDefEqProofs only[SX,sevalprocAttr,Kb,e1,dO];subst hQ;exact⟨rfl,_,.inl ⟨rfl,hs⟩⟩
 simp -implicitDefEqProofs only[SX,sevalprocAttr,Dc,Db,lsn,C7,sab,na,Ca,AV.cut,za];refine wa D7 ?_;rintro _ ⟨E,⟨rfl,hb⟩ | ⟨rfl,hE⟩⟩
 ·simp -implicitDefEqProofs only[SX,sevalprocAttr,hb]
 ·simp -implicitDefEqProofs only[SX,sevalprocAttr,hE]
theorem bC{P:PV}{ls:List (List (Int×Int))}{ps:List PV}(hP:xf P ls ps)(d:Nat)(H:List ba)(hH:Wd H):
 ef (Da bc (d+2)) Lb [.pv P,.Ml 7 []] H=some (.pv (.bool (!decide (∀ l∈ls,Bd l))),H):=by
 have h:=cU hP d H hH;have h5:bc 5=some Dc:=rfl;have hb:=ZI ls 0;simp -implicitDefEqProofs only[SX,sevalprocAttr,Lb,h5,h,hb]
end Go.AM.B1
