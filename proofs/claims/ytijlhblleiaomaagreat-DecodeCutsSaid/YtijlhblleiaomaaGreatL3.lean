/- What functions of the program compute. -/
import Derived.Test.YtijlhblleiaomaaGreatL2
import Derived.Test.YtijlhblleiaomaaGreatK3
import Derived.Test.YtijlhblleiaomaaGreatL1
set_option linter.unusedVariables false
set_option linter.unusedSimpArgs false
namespace Go.AM.B1
open Go.AM Go.AM.So
theorem kM:Oh=ec:=rfl
theorem yK:Qh=ec:=rfl
theorem eN:qi=ec:=rfl
def OF(p:Int×Int):List PV:=[i64 p.1,i64 p.2]
def Mf(l:List (Int×Int)):Array (List PV):=(l.map OF).toArray
def L4(r:List PV):Prop:=∃ p,r=OF p
theorem qz(r:List PV)(h:L4 r):NW 2 r:=by
 obtain⟨p,rfl⟩:=h;exact⟨rfl,by intro c hc;simp[OF] at hc;rcases hc with rfl | rfl <;> rfl⟩
theorem aD(l:List (Int×Int)):∀ r∈(Mf l).toList,L4 r:=by
 intro r hr;simp[Mf] at hr;obtain⟨a,b,_,rfl⟩:=hr;exact⟨(a,b),rfl⟩
theorem Hq(l:List (Int×Int)):(Mf l).size=l.length:=by simp[Mf]
def Bd(l:List (Int×Int))(fl:Nat)(nl:Bool):ba:=vh 2 (Mf l) fl nl
theorem Fj(l:List (Int×Int)):(Rh (Mf l)).length=l.length * 2:=by
 rw[Kz fun r hr=>qz r (aD l r hr),Hq]
theorem PD{A:List ba}{id n fl bytes:Nat}{nl:Bool}{h:Zf}{l:List (Int×Int)}(hg:A[id]? =some (Bd l fl nl))(hn:n=l.length)(hr:eb (n+1) bytes)(p:Int×Int):
 Cb A true h 2 true bytes (.own id n) (.pv (.lit 2 [pr p]))=some (.own id (n+1),A.set id (Bd (l++[p]) fl false)):=by
 subst hn;have hl:=Fj l;have e:Rh (Mf (l++[p]))=Rh (Mf l)++[.pv (i64 p.1),.pv (i64 p.2)]:=by simp[Rh,Mf,OF]
 simp only[Cb,if_true,hg,Bd,vh,wk,Lf,Haa,yaa,flat,PV.cells,pr,wab,lab,Oad,Oaa,pab,e];rw[if_pos]
 ·simp
 ·exact⟨trivial,by omega,hr,rfl⟩
theorem bF(H:List ba)(d:Nat)(l:List PV):Ra (Sb H d) (l.map .pv)=some l:=by
 induction l with
 |nil=>rfl
 |cons a l ih=>simp only[lab,Ra,Mg,yaa,ih]
theorem qE:∀ (l:List (Int×Int)),chunk 2 true l.length ((l.map OF).flatten)=de l
 | []=>rfl
 |p::l=>by have ih:=qE l;simp only[Oaa,lab,Uab,chunk,if_true,OF] at ih ⊢;simp only[bab,Yaa,lad,List.take_zero,Wac,xac,de,lab];rw[ih]
theorem TT{A:List ba}{id n fl:Nat}{nl:Bool}{l:List (Int×Int)}(hg:A[id]? =some (Bd l fl nl))(hn:n=l.length)(d:Nat):Sb A (d+1) (.own id n)=some (if nl then .ga else .lit 2 (de l)):=by
 subst hn;have hl:=Fj l;have e:Rh (Mf l)=((l.map OF).flatten).map .pv:=by simp[Rh,Mf]
 simp only[Sb,hg,Bd,vh];rw[if_pos ⟨by omega,rfl⟩,e,bF];cases nl with
 |true=>rfl
 |false=>simp only[saa,if_false,Haa,qE]
theorem UA(A:List ba)(x y:AV)(p:Int×Int):Ha (A++[.box [x,y]]) 2 (.ptr A.length 0) (.pv (pr p))=some (A++[.box [.pv (i64 p.1),.pv (i64 p.2)]]):=by
 simp only[Ha,AV.cells,PV.cells,pr,lab,Oad,Oaa,pab,List.all,AV.one,Fk,Up];simp[fa]
theorem TC(A:List ba)(p:Int×Int):pa (A++[.box [.pv (i64 p.1),.pv (i64 p.2)]]) true 2 (.ptr A.length 0)=some (.pv (pr p)):=by
 simp[pa,Kh,Hu,Tc]
theorem Cs(l:List (Int×Int))(fl:Nat)(nl:Bool)(n:Nat):qa n (Bd l fl nl)=some (Bd l fl nl):=Qy _ _ _ _ _
abbrev sR(v:PV)(id n len i:Nat):Tr:=(((Tr.lf.set 11 (.pv (i64 i))).set 10 (.pv (i64 len))).set 9 (.pv v)).set 3 (.own id n)
theorem um(A:List ba){l:List (Int×Int)}{i:Nat}(hi:i < l.length):ta A 2 (.pv (.lit 2 (de l))) (i:Int)=some (.pv (.rp [i64 l[i].1,i64 l[i].2] 0)):=by
 have hg:=yr hi;simp only[ta];rw[if_pos (by unfold Ia;simp;omega),Daa,hg];rfl
theorem RX(A:List ba)(p:Int×Int):pa A true 2 (.pv (.rp [i64 p.1,i64 p.2] 0))=some (.pv (pr p)):=by
 simp[pa,Km]
theorem NP(call:Sa)(v:PV)(l:List (Int×Int))(hv:Vh 2 v (de l))(hw:l.length * 16<=140737488355328)(H:List ba)(hH:Wd H):
 ef call xd [.pv v] H=some (.own H.length l.length,H++[Bd l 0 false]):=by
 have ls:=hv.len
 simp only[de,haa] at ls;have H7:H.length < H.length+1:=Qad _
 have hlen:∀ l',(H++[Bd l' 0 false]).length=H.length+1:=fun l'=>by simp
 have C7:∀ l',Ra (qa (H.length+1)) (H++[Bd l' 0 false])=some (H++[Bd l' 0 false]):=fun l'=>Bm fun o ho=>by
  rcases Jaa.1 ho with h | h
  ·exact hH _ (by omega) o h
  ·simp at h;subst h;exact Cs _ _ _ _
 have D7:qd (fun r=>∃ E,r=(.exit 0,⟨E,H++[Bd l 0 false]⟩)/\E.get 3= .own H.length l.length)
  (ab (ma (oa call Jc) (na (H.length+1) [3,9,10,11])) ua ⟨sR v H.length 0 l.length 0,H++[Bd [] 0 false]⟩):=by
  refine wa (Fb (g:=ma (oa call Jc) (na (H.length+1) [3,9,10,11]))
   (fun i t=>t=⟨sR v H.length i l.length i,H++[Bd (l.take i) 0 false]⟩)
   l.length (by unfold ua;omega) _ rfl ?_ ?_) (fun r h=>h.2)
  ·rintro i t hi rfl
   have hv:=hv.lit (i:=i) (by simpa using hi)
   subst hv;have e1:decide ((i:Int) < (l.length:Int))=true:=Ea (by omega);have t2:=Za hi (by unfold maxLen;omega);have a1:=um (H++[Bd (l.take i) 0 false]) hi;have l1:=RX (H++[Bd (l.take i) 0 false]) l[i];have s1:=UA (H++[Bd (l.take i) 0 false]) (.pv (i64 0)) (.pv (i64 0)) l[i];have l2:=TC (H++[Bd (l.take i) 0 false]) l[i];have s8:=PD (A:=H++[Bd (l.take i) 0 false]++[.box [.pv (i64 l[i].1),.pv (i64 l[i].2)]]) (id:=H.length) (n:=i) (h:= .own) (bytes:=16) (by rw[eaa (by simp)];exact Fk _ _) (by simp;omega) (by unfold eb;omega) l[i];rw[Cac _ _ (by simp),Up,<-List.take_succ_eq_append_getElem hi] at s8;have o8:(H++[Bd (l.take (i+1)) 0 false]++[ba.box [.pv (i64 l[i].1),.pv (i64 l[i].2)]]).take (H.length+1)=H++[Bd (l.take (i+1)) 0 false]:=by rw[Kac (by simp),Saa (by simp)]
   have hc:=C7 (l.take (i+1));generalize l[i]=p at *;generalize hQ:LN _ _ i=Q;simp -implicitDefEqProofs only[SP,WP,fa,sevalprocAttr,Jc,e1,t2,a1,l1,s1,l2,s8,o8,hc,H7,na,Ca,AV.cut,za,sR];subst hQ;rfl
  ·rintro t rfl
   rw[sab];have e1:decide ((l.length:Int) < (l.length:Int))=false:=Ga (by omega);generalize hQ:(fun r:Ex×St=>r.1.stop=true/\_)=Q;simp -implicitDefEqProofs only[SX,sevalprocAttr,Jc,e1,sR];subst hQ;exact⟨rfl,_,rfl,by simp[Tr.aa]⟩
 have h2:(0:Int)<=(l.length:Int):=by omega
 have h3:eb l.length 16:=by unfold eb;omega
 have n0:(0:Int).toNat=0:=rfl
 have ho:ba.seq 2 true [] 0 false=Bd [] 0 false:=rfl
 apply Xk;simp -implicitDefEqProofs only[SX,sevalprocAttr,xd,Db,ls,Lac,Iaa h2,Iaa h3,n0,ho,hlen,C7,H7,Saa (show (H++[Bd [] 0 false]).length<=H.length+1 by simp),na,Ca,AV.cut,za];refine wa D7 ?_;rintro _ ⟨E,rfl,hE⟩;simp -implicitDefEqProofs only[SX,sevalprocAttr,hE]
theorem Mh{A:List ba}{id n sz bytes:Nat}{nl ag:Bool}{h:Zf}{es:List PV}(hg:A[id]? =some (.tok sz n nl))(hn:n=es.length)(hr:eb (n+1) bytes)(e:PV):
 Cb A false h sz ag bytes (.uq id nl sz es) (.pv (.lit sz [e]))=some (.uq id false sz (es++[e]),A.set id (.tok sz (n+1) false)):=by
 subst hn;simp only[Cb,saa,if_false,hg,Lf,if_true,yaa,Oaa,pab];rw[if_pos ⟨trivial,trivial,trivial,hr⟩];simp
abbrev PR(id n i tk:Nat)(nl:Bool)(es:List PV):Tr:=(((Tr.lf.set 11 (.pv (i64 i))).set 10 (.pv (i64 n))).set 9 (.own id n)).set 3 (.uq tk nl 2 es)
theorem CS{A:List ba}{id fl:Nat}{nl:Bool}{l:List (Int×Int)}(hg:A[id]? =some (Bd l fl nl))(hf:fl<=l.length * 2)(hA:Wd A):Hp id 2 L4 A (Mf l) A:=
 Hp.refl (fl:=fl) (nl:=nl) hA (by rw[Hq];exact hf) hg (aD l)
theorem TG{l:List (Int×Int)}{i:Nat}(hi:i < l.length):(Mf l)[i]! =OF l[i]:=by
 rw[b6 (by rw[Hq];exact hi)];simp[Mf]
theorem pT(call:Sa)(l:List (Int×Int)){id fl:Nat}{nl:Bool}(H:List ba)(hH:Wd H)(hg:H[id]? =some (Bd l fl nl))(hf:fl<=l.length * 2)(hw:l.length * 16<=140737488355328):
 ef call Md [.own id l.length] H=some (.uq H.length false 2 (de l),H++[.tok 2 l.length false]):=by
 have hp:=CS hg hf hH;have H7:id < H.length:=hp.lt
 have cab:id < H.length+1:=by omega
 have o8:H.length < H.length+1:=Qad _
 have hl:=Fj l;have hn:l.length=(Mf l).size:=(Hq l).symm
 have hlen:∀ m b,(H++[ba.tok 2 m b]).length=H.length+1:=fun m b=>by simp
 have C7:∀ m b,Ra (qa (H.length+1)) (H++[ba.tok 2 m b])=some (H++[ba.tok 2 m b]):=fun m b=>Bm fun o ho=>by
  rcases Jaa.1 ho with h | h
  ·exact hH _ (by omega) o h
  ·simp at h;subst h;rfl
 have hlA:∀ T,Tb (H++T) 0 (.own id l.length)=some l.length:=by intro T;rw[YB,eaa H7,hg];simp only[Bd,vh];rw[if_pos];unfold Ui;omega
 have Iak:Tb H 0 (.own id l.length)=some l.length:=by have:=hlA [];rwa [wab] at this
 have D7:qd (fun r=>∃ E,r=(.exit 0,⟨E,H++[.tok 2 l.length false]⟩)/\E.get 3= .uq H.length false 2 (de l))
  (ab (ma (oa call Oc) (na (H.length+1) [3,9,10,11])) ua ⟨PR id l.length 0 H.length false [],H++[.tok 2 0 false]⟩):=by
  refine wa (Fb (g:=ma (oa call Oc) (na (H.length+1) [3,9,10,11]))
   (fun i t=>t=⟨PR id l.length i H.length false (de (l.take i)),H++[.tok 2 i false]⟩)
   l.length (by unfold ua;omega) _ rfl ?_ ?_) (fun r h=>h.2)
  ·rintro i t hi rfl
   have e1:decide ((i:Int) < (l.length:Int))=true:=Ea (by omega);have t2:=Za hi (by unfold maxLen;omega);have a1:=XJ [.tok 2 i false] H7 (hp.Pd qz hn (i:=(i:Int)) rfl (by omega));have l1:=XL [.tok 2 i false] H7 (hp.load qz hn (k:=i) (by omega));rw[TG hi] at l1;have l1':pa (H++[.tok 2 i false]) true 2 (.Hc id (l.length * 2) (i * 2))=some (.pv (pr l[i])):=l1;have s1:=UA (H++[.tok 2 i false]) (.pv (i64 0)) (.pv (i64 0)) l[i];have l2:=TC (H++[.tok 2 i false]) l[i];have s8:=Mh (A:=H++[.tok 2 i false]++[.box [.pv (i64 l[i].1),.pv (i64 l[i].2)]]) (id:=H.length) (n:=i) (h:= .uq) (ag:=true) (nl:=false) (sz:=2) (bytes:=16) (es:=de (l.take i)) (by rw[eaa (by simp)];exact Fk _ _) (by simp;omega) (by unfold eb;omega) (pr l[i]);have hs:de (l.take (i+1))=de (l.take i)++[pr l[i]]:=by rw[List.take_succ_eq_append_getElem hi];simp only[de,jac,lab,Oad]
   rw[Cac _ _ (by simp),Up,<-hs] at s8;have w9:(H++[ba.tok 2 (i+1) false]++[ba.box [.pv (i64 l[i].1),.pv (i64 l[i].2)]]).take (H.length+1)=H++[ba.tok 2 (i+1) false]:=by rw[Kac (by simp),Saa (by simp)]
   have hc:=C7 (i+1) false;generalize l[i]=p at *;generalize Jak:de (l.take (i+1))=es' at *;generalize de (l.take i)=es at *;generalize hQ:LN _ _ i=Q;simp -implicitDefEqProofs only[SP,WP,fa,sevalprocAttr,Oc,e1,t2,a1,l1',s1,l2,s8,o8,w9,hc,cab,na,Ca,AV.cut,za,PR];subst hQ;subst Jak;rfl
  ·rintro t rfl
   rw[sab];have e1:decide ((l.length:Int) < (l.length:Int))=false:=Ga (by omega);generalize hQ:(fun r:Ex×St=>r.1.stop=true/\_)=Q;simp -implicitDefEqProofs only[SX,sevalprocAttr,Oc,e1,PR];subst hQ;exact⟨rfl,_,rfl,by simp[Tr.aa]⟩
 have h2:(0:Int)<=(l.length:Int):=by omega
 have h3:eb l.length 16:=by unfold eb;omega
 have n0:(0:Int).toNat=0:=rfl
 apply Xk;simp -implicitDefEqProofs only[SX,sevalprocAttr,Md,Db,hlA,Iak,Lac,Iaa h2,Iaa h3,n0,hlen,C7,cab,o8,Saa (show (H++[ba.tok 2 0 false]).length<=H.length+1 by simp),na,Ca,AV.cut,za];refine wa D7 ?_;rintro _ ⟨E,rfl,hE⟩;simp -implicitDefEqProofs only[SX,sevalprocAttr,hE]
def Kk(x:Int)(l:List (Int×Int)):Prop:=∃ p∈l,p.1<=x/\x<=p.2
def xi:List (Int×Int)->List (Int×Int)->List (Int×Int)
 |out,[]=>out
 |out,r::rest=>match out.getLast? with
  |some q=>if r.1<=q.2+1 then xi (out.dropLast++[(q.1,if r.2 > q.2 then r.2 else q.2)]) rest else xi (out++[r]) rest
  |none=>xi (out++[r]) rest
theorem lJ(r:Int×Int)(rest:List (Int×Int)):xi [] (r::rest)=xi [r] rest:=rfl
theorem JH{out rest:List (Int×Int)}{q r:Int×Int}(h:r.1<=q.2+1):xi (out++[q]) (r::rest)=xi (out++[(q.1,if r.2 > q.2 then r.2 else q.2)]) rest:=by
 rw[xi,List.getLast?_append];simp[h]
theorem KI{out rest:List (Int×Int)}{q r:Int×Int}(h:¬r.1<=q.2+1):xi (out++[q]) (r::rest)=xi (out++[q]++[r]) rest:=by
 rw[xi,List.getLast?_append];simp[h]
section
variable {A:List ba}{id fl:Nat}{nl:Bool}{out:List (Int×Int)}{q:Int×Int}(hg:A[id]? =some (Bd (out++[q]) fl nl))(hf:fl<=(out.length+1) * 2)
include hg hf
theorem dQ:ta A 2 (.own id (out.length+1)) (out.length:Int)=some (.Hc id ((out.length+1) * 2) (out.length * 2)):=by
 have hl:=Fj (out++[q]);rw[raa,Oaa,pab] at hl;simp only[ta,hg,Bd,vh];rw[if_pos (by refine⟨trivial,?_,?_⟩ <;> first | (unfold Ia;omega) | (unfold Ui;omega))];simp
omit hf in
theorem WO:place A 1 (.Hc id ((out.length+1) * 2) (out.length * 2))=some (.Hc id ((out.length+1) * 2) (out.length * 2+1)):=by
 have hl:=Fj (out++[q]);rw[raa,Oaa,pab] at hl;simp only[place,hg,Bd,vh,hl,if_true]
omit hf in
theorem US:pa A false 1 (.Hc id ((out.length+1) * 2) (out.length * 2+1))=some (.pv (i64 q.2)):=by
 have hl:=Fj (out++[q]);rw[raa,Oaa,pab] at hl;simp only[pa,hg,Bd,vh,hl,if_true,Kh,saa,if_false];have e:Rh (Mf (out++[q]))=Rh (Mf out)++[.pv (i64 q.1),.pv (i64 q.2)]:=by simp[Rh,Mf,OF]
 have S9:=Fj out;rw[e,Kaa (by omega),S9];have:out.length * 2+1 - out.length * 2=1:=by omega
 rw[this];rfl
omit hf in
theorem wP(v:Int):Ha A 1 (.Hc id ((out.length+1) * 2) (out.length * 2+1)) (.pv (i64 v))=some (A.set id (Bd (out++[(q.1,v)]) ((out.length+1) * 2) nl)):=by
 have hl:=Fj (out++[q]);rw[raa,Oaa,pab] at hl;have e:∀ q:Int×Int,Rh (Mf (out++[q]))=Rh (Mf out)++[.pv (i64 q.1),.pv (i64 q.2)]:=fun q=>by simp[Rh,Mf,OF]
 have S9:=Fj out;have hs:fa (Rh (Mf (out++[q]))) (out.length * 2+1) [.pv (i64 v)]=Rh (Mf (out++[(q.1,v)])):=by
  rw[e,e,fa,fa,Jab _ _ (by omega),S9];have:out.length * 2+1 - out.length * 2=1:=by omega
  rw[this];rfl
 have hc:(AV.pv (i64 v)).cells=[.pv (i64 v)]:=rfl
 simp only[Ha,hg,Bd,vh,hc];rw[if_pos ⟨rfl,rfl⟩,if_pos ⟨hl,by omega⟩,hs]
end
abbrev dE(id0 n i id1 m:Nat):Tr:=(((Tr.lf.set 11 (.pv (i64 i))).set 10 (.pv (i64 n))).set 9 (.own id0 n)).set 3 (.own id1 m)
def QO(l:List (Int×Int)):Prop:=∀ p∈l,-4611686018427387904<=p.2/\p.2<=4611686018427387904
theorem LV{a b:List (Int×Int)}(ha:QO a)(hb:QO b):QO (a++b):=by
 intro p hp;rcases Jaa.1 hp with h | h
 ·exact ha p h
 ·exact hb p h
theorem VT(call:Sa)(l:List (Int×Int))(hl:QO l){id0 fl0:Nat}{nl0:Bool}(H:List ba)(hH:Wd H)(hg0:H[id0]? =some (Bd l fl0 nl0))(hf0:fl0<=l.length * 2)(hw:l.length<=1000000):
 qd (fun r=>∃ E fl nl,r=(.exit 0,⟨E,H++[Bd (xi [] l) fl nl]⟩)/\E.get 3= .own H.length (xi [] l).length/\fl<=(xi [] l).length * 2)
  (ab (ma (oa call Vi) (na (H.length+1) [3,9,10,11])) ua ⟨dE id0 l.length 0 H.length 0,H++[Bd [] 0 true]⟩):=by
 have hp:=CS hg0 hf0 hH;have H7:id0 < H.length:=hp.lt
 have cab:id0 < H.length+1:=by omega
 have o8:H.length < H.length+1:=Qad _
 have hn:l.length=(Mf l).size:=(Hq l).symm
 have C7:∀ a b c,Ra (qa (H.length+1)) (H++[Bd a b c])=some (H++[Bd a b c]):=fun a b c=>Bm fun o ho=>by
  rcases Jaa.1 ho with h | h
  ·exact hH _ (by omega) o h
  ·simp at h;subst h;exact Cs _ _ _ _
 refine wa (Fb (g:=ma (oa call Vi) (na (H.length+1) [3,9,10,11]))
  (fun i t=>∃ out fl nl,t=⟨dE id0 l.length i H.length out.length,H++[Bd out fl nl]⟩/\fl<=out.length * 2/\QO out/\out.length<=i/\xi [] l=xi out (l.drop i))
  l.length (by unfold ua;omega) _ ⟨[],0,true,rfl,by omega,by intro p hp;simp at hp,by simp,rfl⟩ ?_ ?_) (fun r h=>h.2)
 ·rintro i t hi ⟨out,fl,nl,rfl,w8,hsa,hle,hs⟩
  have hd:l.drop i=l[i]::l.drop (i+1):=Paa hi
  rw[hd] at hs;have hsp:=hl l[i] (jaa hi);have e1:decide ((i:Int) < (l.length:Int))=true:=Ea (by omega);have t2:=Za hi (by unfold maxLen;omega);have a1:=XJ [Bd out fl nl] H7 (hp.Pd qz hn (i:=(i:Int)) rfl (by omega));have l1:=XL [Bd out fl nl] H7 (hp.load qz hn (k:=i) (by omega));rw[TG hi] at l1;have l1':pa (H++[Bd out fl nl]) true 2 (.Hc id0 (l.length * 2) (i * 2))=some (.pv (pr l[i])):=l1;have s1:=UA (H++[Bd out fl nl]) (.pv (i64 0)) (.pv (i64 0)) l[i];have l2:=TC (H++[Bd out fl nl]) l[i];have b0:∀ p:Int×Int,place (H++[Bd out fl nl]++[ba.box [.pv (i64 p.1),.pv (i64 p.2)]]) 0 (.ptr (H++[Bd out fl nl]).length 0)=some (.ptr (H++[Bd out fl nl]).length 0):=fun p=>by simp[place]
  have b1:∀ p:Int×Int,place (H++[Bd out fl nl]++[ba.box [.pv (i64 p.1),.pv (i64 p.2)]]) 1 (.ptr (H++[Bd out fl nl]).length 0)=some (.ptr (H++[Bd out fl nl]).length 1):=fun p=>by simp[place]
  have b2:∀ p:Int×Int,pa (H++[Bd out fl nl]++[ba.box [.pv (i64 p.1),.pv (i64 p.2)]]) false 1 (.ptr (H++[Bd out fl nl]).length 0)=some (.pv (i64 p.1)):=fun p=>by simp[pa,Kh]
  have b3:∀ p:Int×Int,pa (H++[Bd out fl nl]++[ba.box [.pv (i64 p.1),.pv (i64 p.2)]]) false 1 (.ptr (H++[Bd out fl nl]).length 1)=some (.pv (i64 p.2)):=fun p=>by simp[pa,Kh]
  have s8:=PD (A:=H++[Bd out fl nl]++[.box [.pv (i64 l[i].1),.pv (i64 l[i].2)]]) (id:=H.length) (n:=out.length) (h:= .own) (bytes:=16) (by rw[eaa (by simp)];exact Fk _ _) rfl (by unfold eb;omega) l[i];rw[Cac _ _ (by simp),Up] at s8;have w9:∀ (o o2:ba),(H++[o]++[o2]).take (H.length+1)=H++[o]:=fun o o2=>by rw[Kac (by simp),Saa (by simp)]
  have hlen:Tb (H++[Bd out fl nl]++[.box [.pv (i64 l[i].1),.pv (i64 l[i].2)]]) 0 (.own H.length out.length)=some out.length:=by rw[YB,eaa (by simp),Fk];have:=Fj out;simp only[Bd,vh];rw[if_pos];unfold Ui;omega
  rcases Uad out with rfl | ⟨out,q,rfl⟩
  ·have hz:decide (((0:Nat):Int) > 0)=false:=by decide
   rw[lJ] at hs;rw[pab] at s8 hlen;rw[Zaa,Yaa] at s8;generalize l[i]=p at *;generalize hQ:LN _ _ i=Q;simp -implicitDefEqProofs only[SP,WP,fa,sevalprocAttr,Vi,e1,t2,a1,l1',s1,l2,hlen,hz,s8,w9,C7,cab,o8,na,Ca,AV.cut,za,dE];subst hQ;exact⟨[p],fl,false,rfl,by simp at w8 ⊢;omega,by intro x hx;simp at hx;subst hx;exact hsp,by simp,hs⟩
  ·rw[Vad] at *
   have hql:=hsa q (by simp);have hol:(out++[q]).length=out.length+1:=by simp
   have hg1:(H++[Bd (out++[q]) fl nl]++[ba.box [.pv (i64 l[i].1),.pv (i64 l[i].2)]])[H.length]? =some (Bd (out++[q]) fl nl):=by rw[eaa (by simp)];exact Fk _ _
   have c1:=dQ hg1 (by rw[hol] at w8;exact w8);have c2:=WO hg1;have c3:=US hg1;have c4:=wP hg1 (if l[i].2 > q.2 then l[i].2 else q.2);rw[Cac _ _ (by simp),Up] at c4;have t3:IntKind.i64.wrap (((out.length+1:Nat):Int) - 1)=(out.length:Int):=by rw[Aa (by omega)];omega
   have t4:IntKind.i64.wrap (q.2+1)=q.2+1:=Aa (by omega)
   have hz:decide (((out.length+1:Nat):Int) > 0)=true:=Ea (by omega);rw[hol] at hlen s8 w8 hle
   by_cases hj:l[i].1<=q.2+1
   ·have e2:decide (l[i].1<=q.2+1)=true:=Ea hj
    rw[JH hj] at hs;generalize l[i]=p at *;generalize hmx:(if p.2 > q.2 then p.2 else q.2)=mx at *;generalize hQ:LN _ _ i=Q;simp -implicitDefEqProofs only[SP,WP,fa,sevalprocAttr,Vi,e1,t2,a1,l1',s1,l2,hol,hlen,hz,b0,b1,b2,b3,c1,c2,c3,c4,t3,t4,e2,ep,Ye,hmx,w9,C7,cab,o8,na,Ca,AV.cut,za,dE];subst hQ;refine⟨out++[(q.1,mx)],(out.length+1) * 2,nl,by simp[dE,hol],by simp,?_,by simp;omega,hs⟩;intro x hx;rcases Jaa.1 hx with h | h
    ·exact hsa x (by simp[h])
    ·simp at h;subst h
     rw[<- hmx];split <;> simp only <;> omega
   ·have e2:decide (l[i].1<=q.2+1)=false:=Ga hj
    rw[KI hj] at hs;generalize l[i]=p at *;generalize hQ:LN _ _ i=Q;simp -implicitDefEqProofs only[SP,WP,fa,sevalprocAttr,Vi,e1,t2,a1,l1',s1,l2,hol,hlen,hz,b0,b1,b2,b3,c1,c2,c3,t3,t4,e2,s8,w9,C7,cab,o8,na,Ca,AV.cut,za,dE];subst hQ;refine⟨out++[q]++[p],fl,false,by simp[dE],by simp;omega,?_,by simp;omega,hs⟩;exact LV hsa (by intro x hx;simp at hx;subst hx;exact hsp)
 ·rintro t ⟨out,fl,nl,rfl,w8,hsa,hle,hs⟩
  rw[vab,xi] at hs;have e1:decide ((l.length:Int) < (l.length:Int))=false:=Ga (by omega);generalize hQ:(fun r:Ex×St=>r.1.stop=true/\_)=Q;simp -implicitDefEqProofs only[SX,sevalprocAttr,Vi,e1,dE];subst hQ;rw[hs];exact⟨rfl,_,fl,nl,rfl,by simp[Tr.aa],w8⟩
def BA(last:Int)(a:List (Int×Int)):Int:=(a.getLast?.map (·.2)).getD last
theorem qO(last:Int)(p:Int×Int)(a:List (Int×Int)):BA last (p::a)=BA p.2 a:=by
 cases a with
 |nil=>rfl
 |cons q a=>simp[BA,List.getLast?_cons]
theorem wM(last:Int)(a:List (Int×Int))(q:Int×Int):BA last (a++[q])=q.2:=by simp[BA]
theorem ew(top:Int):∀ (a b:List (Int×Int))(last:Int),Pa top last (a++b)=(Pa top last a&&Pa top (BA last a) b)
 | [],b,last=>by simp[Pa,BA]
 |p::a,b,last=>by rw[bab,Pa,Pa,ew top a b p.2,qO,Bool.and_assoc]
theorem Mr{top last:Int}{p:Int×Int}:Pa top last [p]=true↔0<=p.1/\p.1<=p.2/\p.2<=top/\last < p.1 - 1:=by
 simp only[Pa,aae,oac,Gad,decide_eq_false_iff_not];constructor <;> intro h <;> refine⟨?_,?_⟩ <;> omega
theorem Uu(x:Int)(a b:List (Int×Int)):Kk x (a++b)↔Kk x a\/Kk x b:=by
 unfold Kk;simp only[Jaa];constructor
 ·rintro⟨p,h | h,hp⟩
  ·exact .inl ⟨p,h,hp⟩
  ·exact .inr ⟨p,h,hp⟩
 ·rintro (⟨p,h,hp⟩ | ⟨p,h,hp⟩)
  ·exact⟨p,.inl h,hp⟩
  ·exact⟨p,.inr h,hp⟩
theorem iq(x:Int)(p:Int×Int):Kk x [p]↔p.1<=x/\x<=p.2:=by
 unfold Kk;simp
theorem eo(x:Int):¬Kk x []:=by unfold Kk;simp
theorem zn(x:Int)(p:Int×Int)(l:List (Int×Int)):Kk x (p::l)↔(p.1<=x/\x<=p.2)\/Kk x l:=by
 unfold Kk;simp
theorem gD{top:Int}:∀ (rest out:List (Int×Int))(q:Int×Int),Pa top (-2) (out++[q])=true->(∀ p∈rest,0<=p.1/\p.1<=p.2/\p.2<=top/\q.1<=p.1)->rest.Pairwise (fun p q=>p.1<=q.1)->
 Pa top (-2) (xi (out++[q]) rest)=true/\(∀ x,Kk x (xi (out++[q]) rest)↔Kk x (out++[q])\/Kk x rest)/\(xi (out++[q]) rest).length<=out.length+1+rest.length
 | [],out,q,hv,_,_=>by rw[xi];exact⟨hv,fun x=>by simp[eo],by simp⟩
 |r::rest,out,q,hv,hr,hs=>by
  have h1:=hr r (by simp);rw[Sad] at hs;have hv':=hv;rw[ew,baa,Mr] at hv'
  by_cases hj:r.1<=q.2+1
  ·rw[JH hj]
   have ih:=gD rest out (q.1,if r.2 > q.2 then r.2 else q.2) (by
    rw[ew,baa,Mr];refine⟨hv'.1,hv'.2.1,?_,?_,hv'.2.2.2.2⟩ <;> simp only <;> split <;> omega) (fun p hp=>by have:=hr p (by simp[hp]);exact⟨this.1,this.2.1,this.2.2.1,this.2.2.2⟩) hs.2
   refine⟨ih.1,fun x=> ?_,by have:=ih.2.2;simp only[Oaa];omega⟩;rw[ih.2.1,Uu,Uu,iq,iq,zn];have e:(q.1<=x/\x<=(if r.2 > q.2 then r.2 else q.2))↔(q.1<=x/\x<=q.2)\/(r.1<=x/\x<=r.2):=by
    split <;> constructor <;> intro h <;> omega
   simp only[e];constructor
   ·rintro ((h | h | h) | h)
    ·exact .inl (.inl h)
    ·exact .inl (.inr h)
    ·exact .inr (.inl h)
    ·exact .inr (.inr h)
   ·rintro ((h | h) | h | h)
    ·exact .inl (.inl h)
    ·exact .inl (.inr (.inl h))
    ·exact .inl (.inr (.inr h))
    ·exact .inr h
  ·rw[KI hj]
   have ih:=gD rest (out++[q]) r (by
    rw[ew,baa,Mr,wM];exact⟨hv,h1.1,h1.2.1,h1.2.2.1,by omega⟩) (fun p hp=>by have h2:=hr p (by simp[hp]);exact⟨h2.1,h2.2.1,h2.2.2.1,hs.1 p hp⟩) hs.2
   refine⟨ih.1,fun x=> ?_,by have:=ih.2.2;simp only[Oaa,raa,pab] at this ⊢;omega⟩;rw[ih.2.1,Uu,iq,zn];constructor
   ·rintro ((h | h) | h)
    ·exact .inl h
    ·exact .inr (.inl h)
    ·exact .inr (.inr h)
   ·rintro (h | h | h)
    ·exact .inl (.inl h)
    ·exact .inl (.inr h)
    ·exact .inr h
theorem OS{top:Int}(l:List (Int×Int))(hr:∀ p∈l,0<=p.1/\p.1<=p.2/\p.2<=top)(hs:l.Pairwise (fun p q=>p.1<=q.1)):
 Pa top (-2) (xi [] l)=true/\(∀ x,Kk x (xi [] l)↔Kk x l)/\(xi [] l).length<=l.length:=by
 cases l with
 |nil=>exact⟨rfl,fun x=>Iff.rfl,paa _⟩
 |cons r rest=>
  rw[lJ];have h1:=hr r (by simp);rw[Sad] at hs;have:=gD rest [] r (by rw[Yaa,Mr];exact⟨h1.1,h1.2.1,h1.2.2,by omega⟩) (fun p hp=>by have h2:=hr p (by simp[hp]);exact⟨h2.1,h2.2.1,h2.2.2,hs.1 p hp⟩) hs.2
  rw[Yaa] at this;refine⟨this.1,fun x=> ?_,by have:=this.2.2;simp at this ⊢;omega⟩;rw[this.2.1,iq,zn]
theorem Es{top:Int}:∀ {l:List (Int×Int)}{last:Int},Pa top last l=true->∀ p∈l,0<=p.1/\p.1<=p.2/\p.2<=top
 |q::l,last,h,p,hp=>by
  obtain⟨h1,h2,h3,h4,h5⟩:=Vc h;rcases Xaa.1 hp with rfl | hp
  ·exact⟨by omega,by omega,by omega⟩
  ·exact Es h5 p hp
theorem EB:∀ (l:List (Int×Int)),Rh (Mf l)=ig (l.flatMap fun p=>[p.1,p.2])
 | []=>rfl
 |p::l=>by have h:=EB l;simp only[Rh,Mf,ig] at h ⊢;simp[OF,h]
theorem IF:∀ (l:List (Int×Int)),ri 2 l.length (l.flatMap fun p=>[p.1,p.2])=l.map fun p=>[p.1,p.2]
 | []=>rfl
 |p::l=>by rw[Oaa,ri,Yac,lab,<-IF l];rfl
theorem xU{l:List (Int×Int)}(hw:l.length < 50){H:List ba}{id fl:Nat}{nl:Bool}(hg:H[id]? =some (Bd l fl nl)):
 ∃ l',l'.Perm l/\l'.Pairwise (fun p q=>p.1<=q.1)/\mC 2 0 23 [.own id l.length,.Ol 23 []] H=some (.pv (.mc []),H.set id (Bd l' (l.length * 2) nl)):=by
 obtain⟨s1,s2,s3⟩:=tC 2 0 (l.map fun p=>[p.1,p.2]).toArray
 have hso:∀ F,jH (Rh (Mf l))=some F->ri 2 l.length F=l.map fun p=>[p.1,p.2]:=by
  intro F hF;rw[EB,Ov] at hF;injection hF with hF
  rw[<- hF,IF]
 generalize hE:Gq 2 0 (l.map fun p=>[p.1,p.2]).toArray=E at *
 have hEl:∃ l':List (Int×Int),E.toList=l'.map fun p=>[p.1,p.2]:=by
  have key:∀ (L:List (List Int)),(∀ r∈L,∃ p:Int×Int,r=[p.1,p.2])->∃ l':List (Int×Int),L=l'.map fun p=>[p.1,p.2]:=by
   intro L
   induction L with
   |nil=>intro _;exact⟨[],rfl⟩
   |cons r L ih=>intro h;obtain⟨p,rfl⟩:=h r (by simp);obtain⟨l',rfl⟩:=ih fun x hx=>h x (by simp[hx]);exact⟨p::l',rfl⟩
  refine key _ fun r hr=> ?_;have:=s2.mem_iff.1 hr
  simp only[fab] at this;obtain⟨p,_,rfl⟩:=this;exact⟨p,rfl⟩
 obtain⟨l',Z8⟩:=hEl;have hs:E.size=l.length:=by rw[s1];simp
 have hll:l'.length=l.length:=by rw[<- hs,<-qad,Z8,haa]
 refine⟨l',?_,?_,?_⟩
 ·rw[Z8] at s2
  have:=s2.map fun r=>(r.getD 0 0,r.getD 1 0)
  simpa[jad,Function.comp_def] using this
 ·rw[Vac]
  intro i j hi hj hij;have h:=s3 i j hij (by simp;omega);have hg:∀ q (hq:q < l'.length),Jy 2 0 E[q]! =l'[q].1:=by
   intro q hq;have h1:q < E.size:=by omega
   have:E[q]=[l'[q].1,l'[q].2]:=by
    have h2:E.toList[q]? =some [l'[q].1,l'[q].2]:=by rw[Z8,Eaa,aaa hq];rfl
    rw[Array.getElem?_toList,xad h1] at h2;exact vad h2
   rw[getElem!_pos E q h1,this];rfl
  rw[hg i hi,hg j hj] at h;omega
 ·have w8:=Fj l
  unfold mC;simp only[hg,Bd,vh];rw[if_pos ⟨trivial,trivial,by rw[w8],by omega⟩];have hF:=EB l;have hI:=Ov (l.flatMap fun p=>[p.1,p.2]);rw[<- hF] at hI;rw[hI,Haa,hso _ hI,hE,Z8,w8];have e:ig (List.map (fun p:Int×Int=>[p.1,p.2]) l').flatten=Rh (Mf l'):=by rw[EB,List.flatMap_def]
  rw[e]
theorem vT(d:Nat)(args:List AV)(H:List ba):si ll Jb (d+1) 22 args H=mC 2 0 23 args H:=rfl
theorem RV(l:List (Int×Int))(hl:QO l){id0 fl0:Nat}{nl0:Bool}(H:List ba)(hH:Wd H)(hg0:H[id0]? =some (Bd l fl0 nl0))(hf0:fl0<=l.length * 2)(hw:l.length < 50):
 qd (fun r=>∃ l' fl nl,l'.Perm l/\l'.Pairwise (fun p q=>p.1<=q.1)/\r.1= .own (r.2.length - 1) (xi [] l').length/\Wd r.2/\r.2[r.2.length - 1]? =some (Bd (xi [] l') fl nl)/\fl<=(xi [] l').length * 2)
  (ef (si ll Jb 7) sq [.own id0 l.length] H):=by
 obtain⟨l',X7,hps,Y7⟩:=xU hw hg0;have Qaf:=(iaa.1 hg0).1
 have hs2:l'.length=l.length:=X7.length_eq
 have hg:(H.set id0 (Bd l' (l.length * 2) nl0))[id0]? =some (Bd l' (l.length * 2) nl0):=Maa Qaf;have hgd:Wd (H.set id0 (Bd l' (l.length * 2) nl0)):=by
  intro n hn o ho;rcases Aab ho with h | h
  ·exact hH n (by simpa using hn) o h
  ·subst h;exact Cs _ _ _ _
 have w8:l.length * 2<=l'.length * 2:=by omega
 simp -implicitDefEqProofs only[SX,sevalprocAttr,sq,vT,Y7];generalize H.set id0 (Bd l' (l.length * 2) nl0)=H2 at *
 have Z8:QO l':=fun p hpp=>hl p (X7.mem_iff.1 hpp);have hlp:=VT (si ll Jb 7) l' Z8 H2 hgd hg w8 (by omega);rw[hs2] at hlp;have hlen:Tb (H2++[Bd [] 0 true]) 0 (.own id0 l.length)=some l.length:=by
  have H7:id0 < H2.length:=(iaa.1 hg).1
  have:=Fj l';rw[YB,eaa H7,hg];simp only[Bd,vh];unfold Rh at this ⊢;rw[if_pos];unfold Ui;omega
 have hg2:H2.length < H2.length+1:=Qad _
 have cab:id0 < H2.length+1:=by have:=(iaa.1 hg).1;omega
 have gac:Wd (H2++[Bd [] 0 true]):=by
  intro n hn o ho;rcases Jaa.1 ho with h | h
  ·exact hgd n (by simp at hn;omega) o h
  ·simp at h;subst h;exact Cs _ _ _ _
 have C7:=Wd.cut gac
 have C8:(H2++[Bd [] 0 true]).length=H2.length+1:=by simp
 rw[C8] at C7;have hz:(0 < 2)=True:=by simp
 have ho:ba.seq 2 true [] 0 true=Bd [] 0 true:=rfl
 simp -implicitDefEqProofs only[SX,sevalprocAttr,Db,fe,hz,ho,hlen,C8,C7,hg2,cab,Saa (show (H2++[Bd [] 0 true]).length<=H2.length+1 by simp),na,Ca,AV.cut,za];refine wa hlp ?_;rintro _ ⟨E,fl2,nl2,rfl,hE,dag⟩;simp -implicitDefEqProofs only[SX,sevalprocAttr,hE];refine⟨l',fl2,nl2,X7,hps,by simp,?_,by simp,dag⟩;intro n hn o ho;rcases Jaa.1 ho with h | h
 ·exact hgd n (by simp at hn;omega) o h
 ·simp at h;subst h;exact Cs _ _ _ _
abbrev GA:Int:=1073741823
theorem JU{A:List ba}{id1 id2 n1 n2 f1 f2 bytes:Nat}{k1 k2:Bool}{h:Zf}{a b:List (Int×Int)}(h1:A[id1]? =some (Bd a f1 k1))(h2:A[id2]? =some (Bd b f2 k2))(hn1:n1=a.length)(hn2:n2=b.length)(hr:eb (n1+n2) bytes):
 ∃ k,Cb A true h 2 true bytes (.own id1 n1) (.own id2 n2)=some (.own id1 (n1+n2),A.set id1 (Bd (a++b) f1 k)):=by
 subst hn1 hn2;have la:=Fj a;have lb:=Fj b;have e:Rh (Mf (a++b))=Rh (Mf a)++Rh (Mf b):=by simp[Rh,Mf]
 have S7:(Rh (Mf b)).all AV.one=true:=by
  rw[Taa];intro v hv;obtain⟨c,hc,rfl⟩:=fab.1 hv
  rw[Hae] at hc;obtain⟨r,hr,hc⟩:=hc;exact (qz r (aD b r hr)).2 c hc
 refine⟨k1&&(b.length==0),?_⟩;simp only[Cb,if_true,h1,Bd,vh,wk,h2,e];rw[if_pos ⟨trivial,by omega⟩];simp only[yaa];rw[if_pos ⟨trivial,by omega,hr,S7⟩]
theorem dr(v:PV)(l:List (Int×Int))(hv:Vh 2 v (de l))(hw:l.length * 16<=140737488355328)(N7:Pa GA (-2) l=true)(H:List ba)(hH:Wd H):
 ef (si ll Jb 7) zj [.pv v] H=some (.own H.length l.length,H++[Bd l 0 false]):=by
 have h1:=NP (si ll Jb 6) v l hv hw H hH;have h2:=yv (.lit 2 (de l)) l (.inr rfl) (by unfold maxLen;omega) GA (by decide);rw[N7] at h2;have h0:∀ args H,si ll Jb 7 0 args H=ef (si ll Jb 6) xd args H:=fun _ _=>rfl;have h3:=TT (A:=H++[Bd l 0 false]) (id:=H.length) (n:=l.length) (Fk _ _) rfl 5;rw[kaa (by simp)] at h3;simp -implicitDefEqProofs only[SX,sevalprocAttr,zj,h0,h1,h2,h3]
theorem tP{H:List ba}(hH:Wd H){o:ba}(ho:∀ n,qa n o=some o):Wd (H++[o]):=by
 intro n hn x hx;rcases Jaa.1 hx with h | h
 ·exact hH n (by simp at hn;omega) x h
 ·simp at h;subst h;exact ho n
theorem GS(A B:PV)(a b:List (Int×Int))(hA:Vh 2 A (de a))(hB:Vh 2 B (de b))(hva:Pa GA (-2) a=true)(hvb:Pa GA (-2) b=true)(hl:a.length+b.length < 50):
 ∃ u,Mm [A,B]=some (.lit 2 (de u))/\Pa GA (-2) u=true/\(∀ x,Kk x u↔Kk x a\/Kk x b)/\u.length<=a.length+b.length:=by
 have h1:=dr A a hA (by omega) hva [] (by intro n _ o ho;simp at ho);have hg1:Wd ([]++[Bd a 0 false]):=tP (by intro n _ o ho;simp at ho) (Cs _ _ _);have h2:=dr B b hB (by omega) hvb ([]++[Bd a 0 false]) hg1;obtain⟨k,h3⟩:=JU (A:=[Bd a 0 false,Bd b 0 false]) (id1:=0) (id2:=1) (n1:=a.length) (n2:=b.length) (bytes:=16) (h:= .own) rfl rfl rfl rfl (by unfold eb;omega);have hg3:Wd [Bd (a++b) 0 k,Bd b 0 false]:=by intro n _ o ho;simp at ho;rcases ho with rfl | rfl <;> exact Cs _ _ _ _
 have ra:=Es hva;have rb:=Es hvb;have rab:∀ p∈a++b,0<=p.1/\p.1<=p.2/\p.2<=GA:=fun p hp=>by
  rcases Jaa.1 hp with h | h
  ·exact ra p h
  ·exact rb p h
 have h4:=RV (a++b) (fun p hp=>by have:=rab p hp;unfold GA at this;omega) (id0:=0) [Bd (a++b) 0 k,Bd b 0 false] hg3 rfl (by omega) (by simp;omega);obtain⟨⟨v,H4⟩,e4,l',fl,nl,X7,hps,hv,hg4,T9,w8⟩:=wc h4;dsimp only at hv hg4 T9;subst hv;have law:=OS (top:=GA) l' (fun p hp=>rab p (X7.mem_iff.1 hp)) hps;have hll:(xi [] l').length<=a.length+b.length:=by have:=X7.length_eq;simp at this;omega
 have h5:=pT (si ll Jb 6) (xi [] l') H4 hg4 T9 w8 (by omega);have S8:∀ x,Kk x (xi [] l')↔Kk x a\/Kk x b:=by
  intro x;rw[law.2.1,<-Uu];unfold Kk;constructor
  ·rintro⟨p,h,hx⟩;exact⟨p,X7.mem_iff.1 h,hx⟩
  ·rintro⟨p,h,hx⟩;exact⟨p,X7.mem_iff.2 h,hx⟩
 refine⟨xi [] l',?_,law.1,S8,hll⟩;generalize xi [] l'=u at *;simp only[Yaa,pab,bab,Oaa,Zaa] at h1 h2 h3;rw[fac] at h3;have c1:∀ args H,si ll Jb 8 1 args H=ef (si ll Jb 7) zj args H:=fun _ _=>rfl;have c24:∀ args H,si ll Jb 8 24 args H=ef (si ll Jb 7) sq args H:=fun _ _=>rfl;have c3:∀ args H,si ll Jb 8 3 args H=ef (si ll Jb 7) Il args H:=fun _ _=>rfl;have c2:∀ args H,si ll Jb 7 2 args H=ef (si ll Jb 6) Md args H:=fun _ _=>rfl;have hab:(a++b).length=a.length+b.length:=by simp
 rw[hab] at e4;simp -implicitDefEqProofs only[Mm,TD,SP,WP,fa,sevalprocAttr,Zq,c1,h1,h2,h3,c24,e4,c3,Il,c2,h5]
theorem yx(v:PV)(l:List (Int×Int))(hv:Vh 2 v (de l))(hw:l.length * 16<=140737488355328)(N7:Pa GA (-2) l=true):Jm [v]=some (.lit 2 (de l)):=by
 have h1:=an v l hv hw;rw[<- kM] at h1;have h2:=yv (.lit 2 (de l)) l (.inr rfl) (by unfold maxLen;omega) GA (by decide);rw[N7] at h2;simp -implicitDefEqProofs only[Jm,SP,SA,SQ,sevalprocAttr,fu,Mg,Fc,h1,h2]
def zg:Nat->List (Int×Int)->List (Int×Int)->List (Int×Int)
 |0,_,_=>[]
 |n+1,a,b=>match a,b with
  |p::a',q::b'=>(if (if q.1 > p.1 then q.1 else p.1)<=(if q.2 < p.2 then q.2 else p.2) then [((if q.1 > p.1 then q.1 else p.1),(if q.2 < p.2 then q.2 else p.2))] else [])++(if p.2 < q.2 then zg n a' (q::b') else zg n (p::a') b')
  |_,_=>[]
abbrev Ay(va vb:PV)(tk:Nat)(nl:Bool)(es:List PV):Tr:=((Tr.lf.set 5 (.uq tk nl 2 es)).set 1 (.pv vb)).set 0 (.pv va)
theorem Vh.Q2{v:PV}{p:PV}{es:List PV}(h:Vh 2 v (p::es)):∀ H,ug H 2 (.pv v) (some 1) none=some (.pv (.lit 2 es)):=by
 intro H;rcases h with⟨_,h⟩ | rfl
 ·cases h
 ·simp[ug]
  omega
theorem PM(A B:PV)(a b:List (Int×Int))(hA:Vh 2 A (de a))(hB:Vh 2 B (de b))(hw:(a.length+b.length) * 16<=140737488355328):
 ∃ u,xn [A,B]=some u/\Vh 2 u (de (zg (a.length+b.length) a b)):=by
 have D7:qd (fun r=>∃ E H nl,r=(.exit 0,⟨E,H⟩)/\E.get 5= .uq 0 nl 2 (de (zg (a.length+b.length) a b))/\(nl=true->zg (a.length+b.length) a b=[]))
  (ab (ma (oa (Da (fun _=>none) 8) Jg) (na 1 [0,1,5])) ua ⟨Ay A B 0 true [],[.tok 2 0 true]⟩):=by
  refine wa (Js (g:=ma (oa (Da (fun _=>none) 8) Jg) (na 1 [0,1,5]))
   (fun m t=>∃ va vb a' b' nl out,m=a'.length+b'.length/\Vh 2 va (de a')/\Vh 2 vb (de b')/\t=⟨Ay va vb 0 nl (de out),[.tok 2 out.length nl]⟩/\out.length+m<=a.length+b.length/\(nl=true->out=[])/\zg (a.length+b.length) a b=out++zg m a' b')
   ua (a.length+b.length) _ (by unfold ua;omega) ⟨A,B,a,b,true,[],rfl,hA,hB,rfl,by simp,fun _=>rfl,rfl⟩ ?_) (fun r h=>h.2)
  rintro m t ⟨va,vb,a',b',nl,out,rfl,ha,hb,rfl,hlen,j8,hs⟩;have la:=ha.len
  have lb:=hb.len
  simp only[de,haa] at la lb;cases a' with
  |nil=>
   have hs':zg (a.length+b.length) a b=out:=by rw[hs];cases b' <;> simp[zg]
   have z1:decide (((([]:List (Int×Int)).length:Nat):Int) > 0)=false:=by decide
   generalize hQ:LQ _ _ _=Q;simp -implicitDefEqProofs only[SX,sevalprocAttr,Jg,la,z1,Ay];subst hQ;rw[hs'];exact⟨_,_,nl,rfl,by simp[Tr.aa],j8⟩
  |cons p a'=>
   have z1:decide ((((p::a').length:Nat):Int) > 0)=true:=Ea (by simp);cases b' with
   |nil=>
    have hs':zg (a.length+b.length) a b=out:=by rw[hs];simp[zg]
    have z2:decide (((([]:List (Int×Int)).length:Nat):Int) > 0)=false:=by decide
    generalize hQ:LQ _ _ _=Q;have la':∀ H,Tb H 0 (.pv va)=some (a'.length+1):=la;have z1':decide ((((a'.length+1):Nat):Int) > 0)=true:=z1;have lb':∀ H,Tb H 0 (.pv vb)=some 0:=lb;have z2':decide (((0:Nat):Int) > 0)=false:=z2;simp -implicitDefEqProofs only[SX,sevalprocAttr,Jg,la',lb',z1',z2',Ay];subst hQ;rw[hs'];exact⟨_,_,nl,rfl,by simp[Tr.aa],j8⟩
   |cons q b'=>
    have la':∀ H,Tb H 0 (.pv va)=some (a'.length+1):=la;have z1':decide ((((a'.length+1):Nat):Int) > 0)=true:=z1;have lb':∀ H,Tb H 0 (.pv vb)=some (b'.length+1):=lb;have z2':decide ((((b'.length+1):Nat):Int) > 0)=true:=Ea (by omega);have hva:va= .lit 2 (de (p::a')):=ha.lit (i:=0) (by simp)
    have hvb:vb= .lit 2 (de (q::b')):=hb.lit (i:=0) (by simp)
    have sa:=Vh.Q2 ha
    have sb:=Vh.Q2 hb
    have i1:∀ H,ta H 2 (.pv va) 0=some (.pv (.rp [i64 p.1,i64 p.2] 0)):=fun H=>by rw[hva];exact um H (i:=0) (l:=p::a') (by simp)
    have i2:∀ H,ta H 2 (.pv vb) 0=some (.pv (.rp [i64 q.1,i64 q.2] 0)):=fun H=>by rw[hvb];exact um H (i:=0) (l:=q::b') (by simp)
    have s8:=Mh (A:=[.tok 2 out.length nl]) (id:=0) (n:=out.length) (h:= .uq) (ag:=true) (nl:=nl) (sz:=2) (bytes:=16) (es:=de out) rfl (by simp) (by unfold eb;simp only[Oaa] at hlen;omega) (pr ((if q.1 > p.1 then q.1 else p.1),(if q.2 < p.2 then q.2 else p.2)));rw[fac] at s8;have hm:∀ n,zg (n+1) (p::a') (q::b')=(if (if q.1 > p.1 then q.1 else p.1)<=(if q.2 < p.2 then q.2 else p.2) then [((if q.1 > p.1 then q.1 else p.1),(if q.2 < p.2 then q.2 else p.2))] else [])++(if p.2 < q.2 then zg n a' (q::b') else zg n (p::a') b'):=fun n=>rfl;have hmn:(p::a').length+(q::b').length=(a'.length+b'.length+1)+1:=by simp;omega
    have l0:∀ H (x y:PV),pa H false 1 (.pv (.rp [x,y] 0))=some (.pv x):=fun H x y=>rfl;have l1:∀ H (x y:PV),pa H false 1 (.pv (.rp [x,y] 1))=some (.pv y):=fun H x y=>rfl;have p0:∀ H (x y:PV),place H 0 (.pv (.rp [x,y] 0))=some (.pv (.rp [x,y] 0)):=fun H x y=>rfl;have p1:∀ H (x y:PV),place H 1 (.pv (.rp [x,y] 0))=some (.pv (.rp [x,y] 1)):=fun H x y=>rfl;rw[hmn] at hlen;rw[hmn,hm] at hs;generalize o9:(if q.1 > p.1 then q.1 else p.1)=lo at *;generalize hhi:(if q.2 < p.2 then q.2 else p.2)=hi at *;clear hva hvb;have Uah:de (out++[(lo,hi)])=de out++[pr (lo,hi)]:=by simp[de]
    generalize hQ:LQ _ _ _=Q
    by_cases c1:lo<=hi
    ·have d1:=Ea c1
     rw[if_pos c1] at hs
     by_cases c2:p.2 < q.2
     ·have d2:=Ea c2
      rw[if_pos c2] at hs;simp -implicitDefEqProofs only[SP,WP,fa,sevalprocAttr,Jg,la',lb',z1',z2',i1,i2,l0,l1,p0,p1,ep,Ye,o9,hhi,s8,d1,d2,sa,sb,na,Ca,AV.cut,qa,za,Ay];subst hQ;exact⟨a'.length+b'.length+1,by rw[hmn];omega,_,vb,a',q::b',false,out++[(lo,hi)],by simp;omega,.inr rfl,hb,by rw[Uah];simp[Ay],by simp;omega,by simp,by rw[hs,Dab]⟩
     ·have d2:=Ga c2
      rw[kaa c2] at hs;simp -implicitDefEqProofs only[SP,WP,fa,sevalprocAttr,Jg,la',lb',z1',z2',i1,i2,l0,l1,p0,p1,ep,Ye,o9,hhi,s8,d1,d2,sa,sb,na,Ca,AV.cut,qa,za,Ay];subst hQ;exact⟨a'.length+b'.length+1,by rw[hmn];omega,va,_,p::a',b',false,out++[(lo,hi)],by simp;omega,ha,.inr rfl,by rw[Uah];simp[Ay],by simp;omega,by simp,by rw[hs,Dab]⟩
    ·have d1:=Ga c1
     rw[kaa c1,Yaa] at hs
     by_cases c2:p.2 < q.2
     ·have d2:=Ea c2
      rw[if_pos c2] at hs;simp -implicitDefEqProofs only[SP,WP,fa,sevalprocAttr,Jg,la',lb',z1',z2',i1,i2,l0,l1,p0,p1,ep,Ye,o9,hhi,d1,d2,sa,sb,na,Ca,AV.cut,qa,za,Ay];subst hQ;exact⟨a'.length+b'.length+1,by rw[hmn];omega,_,vb,a',q::b',nl,out,by simp;omega,.inr rfl,hb,rfl,by omega,j8,hs⟩
     ·have d2:=Ga c2
      rw[kaa c2] at hs;simp -implicitDefEqProofs only[SP,WP,fa,sevalprocAttr,Jg,la',lb',z1',z2',i1,i2,l0,l1,p0,p1,ep,Ye,o9,hhi,d1,d2,sa,sb,na,Ca,AV.cut,qa,za,Ay];subst hQ;exact⟨a'.length+b'.length+1,by rw[hmn];omega,va,_,p::a',b',nl,out,by simp;omega,ha,.inr rfl,rfl,by omega,j8,hs⟩
 obtain⟨r,h1,E,H,nl,rfl,hE,j8⟩:=wc D7;simp only[Ay,de,Oad] at h1;generalize zg (a.length+b.length) a b=u at *;have hz:(0 < 2)=True:=by simp
 cases nl with
 |true=>refine⟨.ga,?_,.inl ⟨rfl,by rw[j8 rfl];rfl⟩⟩;simp -implicitDefEqProofs only[xn,SX,sevalprocAttr,tt,Db,fe,hz,na,Ca,AV.cut,qa,za,h1,hE]
 |false=>refine⟨.lit 2 (de u),?_,.inr rfl⟩;simp -implicitDefEqProofs only[xn,SX,sevalprocAttr,tt,Db,fe,hz,na,Ca,AV.cut,qa,za,h1,hE]
theorem gF{top:Int}:∀ {l:List (Int×Int)}{last:Int},Pa top last l=true->∀ p∈l,last < p.1 - 1
 |q::l,last,h,p,hp=>by
  obtain⟨h1,h2,h3,h4,h5⟩:=Vc h;rcases Xaa.1 hp with rfl | hp
  ·omega
  ·have:=gF h5 p hp;omega
theorem Sp{top last x:Int}{l:List (Int×Int)}(h:Pa top last l=true)(hx:Kk x l):last+1 < x:=by
 obtain⟨p,hp,h1,h2⟩:=hx;have:=gF h p hp;omega
theorem Ku{top:Int}:∀ (n:Nat)(a b:List (Int×Int))(la lb:Int),Pa top la a=true->Pa top lb b=true->a.length+b.length<=n->
 (∀ x,Kk x (zg n a b)↔Kk x a/\Kk x b)/\∀ p∈zg n a b,p.1<=p.2
 |0,a,b,la,lb,_,_,hn=>by have:a=[]:=qaa (by omega);subst this;exact⟨fun x=>by simp[zg,eo],by simp[zg]⟩
 |n+1,[],b,la,lb,_,_,hn=>⟨fun x=>by simp[zg,eo],by simp[zg]⟩
 |n+1,p::a,[],la,lb,_,_,hn=>⟨fun x=>by simp[zg,eo],by simp[zg]⟩
 |n+1,p::a,q::b,la,lb,ha,hb,hn=>by
  obtain⟨a1,a2,a3,a4,a5⟩:=Vc ha;obtain⟨b1,b2,b3,b4,b5⟩:=Vc hb;rw[zg];have o9:p.1<=(if q.1 > p.1 then q.1 else p.1)/\q.1<=(if q.1 > p.1 then q.1 else p.1)/\((if q.1 > p.1 then q.1 else p.1)=p.1\/(if q.1 > p.1 then q.1 else p.1)=q.1):=by split <;> omega
  have hhi:(if q.2 < p.2 then q.2 else p.2)<=p.2/\(if q.2 < p.2 then q.2 else p.2)<=q.2/\((if q.2 < p.2 then q.2 else p.2)=p.2\/(if q.2 < p.2 then q.2 else p.2)=q.2):=by split <;> omega
  generalize (if q.1 > p.1 then q.1 else p.1)=lo at *;generalize (if q.2 < p.2 then q.2 else p.2)=hi at *;have hpc:∀ x,Kk x (if lo<=hi then [(lo,hi)] else [])↔(p.1<=x/\x<=p.2)/\(q.1<=x/\x<=q.2):=by
   intro x
   by_cases h:lo<=hi
   ·rw[if_pos h,iq];simp only;omega
   ·rw[kaa h]
    simp only[eo,false_iff];omega
  have X7:∀ r∈(if lo<=hi then [(lo,hi)] else []),r.1<=r.2:=by
   intro r hr
   by_cases h:lo<=hi
   ·rw[if_pos h] at hr;simp at hr;subst hr;exact h
   ·rw[kaa h] at hr;simp at hr
  by_cases c:p.2 < q.2
  ·rw[if_pos c]
   have ih:=Ku n a (q::b) p.2 lb a5 hb (by simp at hn ⊢;omega)
   refine⟨fun x=> ?_,fun r hr=> ?_⟩
   ·rw[Uu,hpc,ih.1,zn,zn]
    have eag:Kk x b->q.2+1 < x:=Sp b5
    constructor
    ·rintro (⟨h1,h2⟩ | ⟨h1,h2⟩)
     ·exact⟨.inl h1,.inl h2⟩
     ·exact⟨.inr h1,h2⟩
    ·rintro⟨h1 | h1,h2⟩
     ·rcases h2 with h2 | h2
      ·exact .inl ⟨h1,h2⟩
      ·have:=eag h2;omega
     ·exact .inr ⟨h1,h2⟩
   ·rcases Jaa.1 hr with h | h
    ·exact X7 r h
    ·exact ih.2 r h
  ·rw[kaa c]
   have ih:=Ku n (p::a) b la q.2 ha b5 (by simp at hn ⊢;omega)
   refine⟨fun x=> ?_,fun r hr=> ?_⟩
   ·rw[Uu,hpc,ih.1,zn,zn]
    have eag:Kk x a->p.2+1 < x:=Sp a5
    constructor
    ·rintro (⟨h1,h2⟩ | ⟨h1,h2⟩)
     ·exact⟨.inl h1,.inl h2⟩
     ·exact⟨h1,.inr h2⟩
    ·rintro⟨h1,h2 | h2⟩
     ·rcases h1 with h1 | h1
      ·exact .inl ⟨h1,h2⟩
      ·have:=eag h1;omega
     ·exact .inr ⟨h1,h2⟩
   ·rcases Jaa.1 hr with h | h
    ·exact X7 r h
    ·exact ih.2 r h
theorem kP{top:Int}{a b:List (Int×Int)}(ha:Pa top (-2) a=true)(hb:Pa top (-2) b=true):zg (a.length+b.length) a b≠[]↔∃ x,Kk x a/\Kk x b:=by
 have h:=Ku (a.length+b.length) a b (-2) (-2) ha hb (paa _);constructor
 ·intro J7
  obtain⟨p,r,hpr⟩:=List.exists_cons_of_ne_nil J7
  have hp:p∈zg (a.length+b.length) a b:=by rw[hpr];simp
  exact⟨p.1,(h.1 p.1).1 ⟨p,hp,Lac _,h.2 p hp⟩⟩
 ·rintro⟨x,hx⟩ he
  have:=(h.1 x).2 hx
  rw[he] at this;exact eo x this
theorem yz:∀ (n:Nat)(a b:List (Int×Int)),(zg n a b).length<=n
 |0,a,b=>by simp[zg]
 |n+1,[],b=>by simp[zg]
 |n+1,p::a,[]=>by simp[zg]
 |n+1,p::a,q::b=>by
  rw[zg,raa];generalize (if q.1 > p.1 then q.1 else p.1)=lo;generalize (if q.2 < p.2 then q.2 else p.2)=hi;have h1:(if lo<=hi then [(lo,hi)] else []).length<=1:=by
   by_cases h:lo<=hi
   ·rw[if_pos h];simp
   ·rw[kaa h];simp
  by_cases c:p.2 < q.2
  ·rw[if_pos c];have:=yz n a (q::b);omega
  ·rw[kaa c];have:=yz n (p::a) b;omega
theorem iD(A B:PV)(a b:List (Int×Int))(hA:Vh 2 A (de a))(hB:Vh 2 B (de b))(hva:Pa GA (-2) a=true)(hvb:Pa GA (-2) b=true)(hw:(a.length+b.length) * 16<=140737488355328):
 Sn [A,B]=some (.lit 2 (de (zg (a.length+b.length) a b))):=by
 have h1:=yx A a hA (by omega) hva;have h2:=yx B b hB (by omega) hvb;obtain⟨u,h3,h4⟩:=PM (.lit 2 (de a)) (.lit 2 (de b)) a b (.inr rfl) (.inr rfl) hw;have h5:=an u _ h4 (by have:=yz (a.length+b.length) a b;omega);rw[<- yK] at h5;have h6:vo [u]=some (.lit 2 (de (zg (a.length+b.length) a b))):=by simp -implicitDefEqProofs only[vo,SP,SA,SQ,sevalprocAttr,Xs,Mg,Fc,h5]
 simp -implicitDefEqProofs only[Sn,SP,SA,SQ,sevalprocAttr,Vs,Mg,Fc,h1,h2,h3,h6]
theorem qu(v:PV)(l:List (Int×Int))(hv:Vh 2 v (de l))(hw:l.length * 16<=140737488355328)(N7:Pa 255 (-2) l=true):Fh [v]=some (.lit 2 (de l)):=by
 have h1:=an v l hv hw;have h2:=yv (.lit 2 (de l)) l (.inr rfl) (by unfold maxLen;omega) 255 (by decide);rw[N7] at h2;simp -implicitDefEqProofs only[Fh,SP,SA,SQ,sevalprocAttr,yq,Mg,Fc,h1,h2]
theorem fG(A B:PV)(a b:List (Int×Int))(hA:Vh 2 A (de a))(hB:Vh 2 B (de b))(hva:Pa 255 (-2) a=true)(hvb:Pa 255 (-2) b=true)(hw:(a.length+b.length) * 16<=140737488355328):
 Dr [A,B]=some (.lit 2 (de (zg (a.length+b.length) a b))):=by
 have h1:=qu A a hA (by omega) hva;have h2:=qu B b hB (by omega) hvb;obtain⟨u,h3,h4⟩:=PM (.lit 2 (de a)) (.lit 2 (de b)) a b (.inr rfl) (.inr rfl) hw;have h5:=an u _ h4 (by have:=yz (a.length+b.length) a b;omega);rw[<- eN] at h5;have h6:Gr [u]=some (.lit 2 (de (zg (a.length+b.length) a b))):=by simp -implicitDefEqProofs only[Gr,SP,SA,SQ,sevalprocAttr,Gw,Mg,Fc,h5]
 simp -implicitDefEqProofs only[Dr,SP,SA,SQ,sevalprocAttr,ux,Mg,Fc,h1,h2,h3,h6]
theorem eD(n:Int)(l:List (Int×Int)):ib n l=n+ib 0 l:=by
 induction l generalizing n with
 |nil=>simp[ib]
 |cons p l ih=>rw[ib,ib,ih,ih (0+(p.2 - p.1+1))];omega
theorem Ut{top:Int}:∀ {l:List (Int×Int)}{last:Int},Pa top last l=true->0<=ib 0 l/\(l≠[]->1<=ib 0 l/\ib 0 l<=top - last - 1/\ib 0 l<=top+1)/\ib 0 l<=max 0 (top+1)
 | [],last,_=>⟨by simp[ib],fun h=>absurd rfl h,by simp[ib];omega⟩
 |p::l,last,h=>by
  obtain⟨h1,h2,h3,h4,h5⟩:=Vc h;have ih:=Ut h5;rw[ib,eD];have key:l≠[]\/l=[]:=by cases l <;> simp
  rcases key with hl | hl
  ·have:=ih.2.1 hl
   exact⟨by omega,fun _=>⟨by omega,by omega,by omega⟩,by omega⟩
  ·subst hl
   simp only[ib];exact⟨by omega,fun _=>⟨by omega,by omega,by omega⟩,by omega⟩
theorem Vw{top:Int}:∀ {l:List (Int×Int)}{last:Int},Pa top last l=true->(l.length:Int)<=max 0 (top - last)
 | [],last,_=>by simp;omega
 |p::l,last,h=>by obtain⟨h1,h2,h3,h4,h5⟩:=Vc h;have:=Vw h5;simp only[Oaa];omega
theorem sy(v:PV)(l:List (Int×Int))(hv:Vh 2 v (de l))(hw:l.length * 16<=140737488355328)(N7:Pa 255 (-2) l=true):Eo [v]=some (i64 (ib 0 l)):=by
 have h1:=qu v l hv hw N7;have h2:=cX (.lit 2 (de l)) l (.inr rfl) (by unfold maxLen;omega) (top:=255) (by decide) N7;simp -implicitDefEqProofs only[Eo,SP,SA,SQ,sevalprocAttr,Ew,Mg,Fc,h1,h2]
open Go.AM
theorem bq(A:List ba)(o:ba):(A++[o])[A.length]? =some o:=by simp
theorem Fq(A:List ba)(o o':ba):(A++[o]).set A.length o'=A++[o']:=by
 apply Iab;intro i
 by_cases h:i=A.length
 ·subst h;simp
 ·rw[Gaa (lac h)]
  rcases Qaa i A.length with h1 | h1
  ·rw[eaa h1,eaa h1]
  ·rw[Kaa h1,Kaa h1]
   have:i - A.length≠0:=by omega
   obtain⟨k,hk⟩:∃ k,i - A.length=k+1:=⟨i - A.length - 1,by omega⟩
   rw[hk];simp
abbrev u32(n:Int):PV:= .int .u32 n
abbrev Sz(S:PV)(x d bits len i left:Int)(ends:Bool):Tr:=
 ((((((Tr.lf.set 18 (.pv (i64 i))).set 17 (.pv (i64 len))).set 16 (.pv S)).set 9 (.pv (.bool ends))).set 8 (.pv (u32 left))).set 4 (.pv (.rp [i64 d,u32 bits] 0))).set 2 (.pv (i64 x))
def iB(bits:Int)(i:Nat):Bool:=IntKind.u32.wrap (((BitVec.ofInt IntKind.u32.bits (bits.fdiv (2 ^ min i IntKind.u32.bits)) &&& BitVec.ofInt IntKind.u32.bits 1).toNat:Nat):Int)==1
theorem Cz(bits:Int)(i:Nat):(IntKind.u32.wrap (((BitVec.ofInt IntKind.u32.bits (bits.fdiv (2 ^ min i IntKind.u32.bits)) &&& BitVec.ofInt IntKind.u32.bits 1).toNat:Nat):Int)==1)=iB bits i:=rfl
def D5(left:Int)(i:Nat):Int:=IntKind.u32.wrap (((BitVec.ofInt IntKind.u32.bits left ||| BitVec.ofInt IntKind.u32.bits (IntKind.u32.wrap (1 * 2 ^ min i IntKind.u32.bits))).toNat:Nat):Int)
theorem sN(left:Int)(i:Nat):IntKind.u32.wrap (((BitVec.ofInt IntKind.u32.bits left ||| BitVec.ofInt IntKind.u32.bits (IntKind.u32.wrap (1 * 2 ^ min i IntKind.u32.bits))).toNat:Nat):Int)=D5 left i:=rfl
section
variable (call:Sa)(A:List ba)(ss:List PV)(x bits left:Int)(d:Nat)(ends:Bool)(i len:Nat)(hi:i < len)(hl:len=ss.length)(hw:len<=maxLen)(ps:List PV)(first:Int)(hs:ss[i]? =some (.agg [.lit 1 ps,i64 first]))
include hi hl hw hs
theorem LY(hb:iB bits i=false):
 ma (oa call Eb) (fun s=>some (tidy [2,4,8,9,16,17,18] s)) ⟨Sz (.lit 2 ss) x d bits len i left ends,A⟩=
  some (.norm,⟨Sz (.lit 2 ss) x d bits len (i+1:Nat) left ends,A++[.box [.pv (.lit 1 ps),.pv (i64 first)]]⟩):=by
 have e1:decide ((i:Int) < (len:Int))=true:=Ea (by omega);have hq:Ia (i:Int) ss.length:=by unfold Ia;omega
 have t1:((i:Int)).toNat=i:=by simp
 have t2:=Za hi hw;have hn:((i:Int) < 0)=False:=by simp
 simp -implicitDefEqProofs only[SP,SA,SQ,sevalprocAttr,ma,Eb,e1,Iaa hq,t1,t2,hs,hn,Cz,hb,ta,bq,Fq,tidy,Ic,Sz]
theorem bZ(hb:iB bits i=true)(qs:List PV)(hp:ps[d]? =some (.lit 2 qs))(hdl:d < ps.length)(hd:d < 4611686018427387904)(hh:Zl [.lit 2 qs,i64 x]=some (.bool false)):
 ma (oa call Eb) (fun s=>some (tidy [2,4,8,9,16,17,18] s)) ⟨Sz (.lit 2 ss) x d bits len i left ends,A⟩=
  some (.norm,⟨Sz (.lit 2 ss) x d bits len (i+1:Nat) left ends,A++[.box [.pv (.lit 1 ps),.pv (i64 first)]]⟩):=by
 have e1:decide ((i:Int) < (len:Int))=true:=Ea (by omega);have hq:Ia (i:Int) ss.length:=by unfold Ia;omega
 have t1:((i:Int)).toNat=i:=by simp
 have t2:=Za hi hw;have hn:((i:Int) < 0)=False:=by simp
 have Y9:Ia (d:Int) ps.length:=by unfold Ia;omega
 have t3:((d:Int)).toNat=d:=by simp
 simp -implicitDefEqProofs only[SP,SA,SQ,sevalprocAttr,ma,Eb,e1,Iaa hq,Iaa Y9,t1,t2,t3,hs,hn,Cz,hb,hp,hh,Mg,Fc,ta,bq,Fq,tidy,Ic,Sz]
theorem M3(hb:iB bits i=true)(qs:List PV)(hp:ps[d]? =some (.lit 2 qs))(hdl:d < ps.length)(hd:d < 4611686018427387904)(hh:Zl [.lit 2 qs,i64 x]=some (.bool true)):
 ma (oa call Eb) (fun s=>some (tidy [2,4,8,9,16,17,18] s)) ⟨Sz (.lit 2 ss) x d bits len i left ends,A⟩=
  some (.norm,⟨Sz (.lit 2 ss) x d bits len (i+1:Nat) (D5 left i) (ends||(ps.length==d+1)),A++[.box [.pv (.lit 1 ps),.pv (i64 first)]]⟩):=by
 have e1:decide ((i:Int) < (len:Int))=true:=Ea (by omega);have hq:Ia (i:Int) ss.length:=by unfold Ia;omega
 have t1:((i:Int)).toNat=i:=by simp
 have t2:=Za hi hw;have hn:((i:Int) < 0)=False:=by simp
 have Y9:Ia (d:Int) ps.length:=by unfold Ia;omega
 have t3:((d:Int)).toNat=d:=by simp
 have t4:IntKind.i64.wrap ((d:Int)+1)=((d+1:Nat):Int):=Aa (by omega)
 have t5:((ps.length:Int)==((d+1:Nat):Int))=(ps.length==d+1):=by rw[Xad];simp;omega
 cases ends with
 |true=>simp -implicitDefEqProofs only[SP,SA,SQ,sevalprocAttr,ma,Eb,e1,Iaa hq,Iaa Y9,t1,t2,t3,t4,t5,hs,hn,Cz,sN,hb,hp,hh,Mg,Fc,ta,bq,Fq,tidy,Ic,Sz]
 |false=>simp -implicitDefEqProofs only[SP,SA,SQ,sevalprocAttr,ma,Eb,e1,Iaa hq,Iaa Y9,t1,t2,t3,t4,t5,hs,hn,Cz,sN,hb,hp,hh,Mg,Fc,ta,bq,Fq,tidy,Ic,Sz]
end
structure Nb where
 parts:List (List (Int×Int))
 first:Int
def Oe(l:List (Int×Int)):PV:= .lit 2 (de l)
def uf(s:Nb):PV:= .agg [.lit 1 (s.parts.map Oe),i64 s.first]
def YP(l:List (Int×Int))(x:Int):Bool:=(Ld x 0 (IA l)).2
def Nv(s:Nb)(d:Nat)(x:Int):Bool:=
 match s.parts[d]? with
 |some l=>YP l x
 |none=>false
def Zh(x bits:Int)(d:Nat):Nat->List Nb->Int×Bool->Int×Bool
 |_,[],acc=>acc
 |i,s::r,acc=>Zh x bits d (i+1) r (if iB bits i&&Nv s d x then (D5 acc.1 i,acc.2||(s.parts.length==d+1)) else acc)
theorem CL(l:List (Int×Int)):WB (.lit 2 (de l))=some l:=by
 have:Ra vB (de l)=some l:=by
  induction l with
  |nil=>rfl
  |cons p l ih=>simp only[de,lab,Ra,vB,yaa] at ih ⊢;rw[ih];rfl
 exact this
theorem SU{l:List (Int×Int)}(h:l.length * 16<=140737488355328)(x:Int):Zl [Oe l,i64 x]=some (.bool (YP l x)):=by
 simp only[Zl,Oe,CL,yaa,if_pos h];rfl
def lI(ss:List Nb):List ba:=ss.map fun s=> .box [.pv (.lit 1 (s.parts.map Oe)),.pv (i64 s.first)]
section
variable (call:Sa)(H:List ba)(id:Nat)(rest:List AV)(S:PV)(ss:List Nb)(x bits:Int)(d:Nat)
 (H7:H[id]? =some (.box (.pv S::rest))) (hS:Vh 2 S (ss.map uf)) (hw:ss.length<=maxLen) (hd:d < 4611686018427387904)
 (Ba:∀ i s,ss[i]? =some s->iB bits i=true->d < s.parts.length) (L7:∀ s∈ss,∀ l∈s.parts,l.length * 16<=140737488355328)
include H7 hS hw hd Ba L7
theorem Ur:ef call Wi [.ptr id 0,.pv (.agg [i64 d,u32 bits]),.pv (i64 x)] H=
 some (.pv (.mc [u32 (Zh x bits d 0 ss (0,false)).1,.bool (Zh x bits d 0 ss (0,false)).2]),H++lI ss):=by
 have ls:=hS.len
 simp only[haa] at ls;have key:=Yl (g:=ma (oa call Eb) (fun s=>some (tidy [2,4,8,9,16,17,18] s)))
  (fun i t=>∃ left ends,t=⟨Sz S x d bits ss.length i left ends,H++lI (ss.take i)⟩/\Zh x bits d 0 ss (0,false)=Zh x bits d i (ss.drop i) (left,ends))
  (fun ex t=>ex= .exit 0/\t=⟨(Sz S x d bits ss.length ss.length (Zh x bits d 0 ss (0,false)).1 (Zh x bits d 0 ss (0,false)).2).set 19 (.pv (.bool false)),H++lI ss⟩)
  ua ss.length 0 ⟨Sz S x d bits ss.length (0:Nat) 0 false,H⟩ (by unfold ua;unfold maxLen at hw;omega) (by omega) ⟨0,false,by simp[lI],rfl⟩ ?_ ?_
 ·obtain⟨ex,t,h,_,rfl,rfl⟩:=key
  generalize Zh x bits d 0 ss (0,false)=r at *;simp -implicitDefEqProofs only[SP,SA,SQ,sevalprocAttr,Wi,ls,H7,Er,tidy,Ic,Sz,h];simp only[Sz] at h;have h':ab (ma (oa call Eb) (fun s=>some (tidy [2,4,8,9,16,17,18] s))) ua ⟨((((((Tr.lf.set 18 (.pv (i64 0))).set 17 (.pv (i64 ss.length))).set 16 (.pv S)).set 9 (.pv (.bool false))).set 8 (.pv (u32 0))).set 4 (.pv (.rp [i64 d,u32 bits] 0))).set 2 (.pv (i64 x)),H⟩=_:=h;simp only[tidy,Ic] at h';rw[h'];simp -implicitDefEqProofs only[SP,SA,SQ,sevalprocAttr,Fc]
 ·rintro i hi t ⟨left,ends,rfl,hb⟩
  have Lak:=hS.lit (i:=i) (by simpa using hi)
  subst Lak;have hg:(ss.map uf)[i]? =some (.agg [.lit 1 (ss[i].parts.map Oe),i64 ss[i].first]):=by simp[hi,uf]
  have hdr:ss.drop i=ss[i]::ss.drop (i+1):=Paa hi
  have hJ:H++lI (ss.take (i+1))=H++lI (ss.take i)++[.box [.pv (.lit 1 (ss[i].parts.map Oe)),.pv (i64 ss[i].first)]]:=by rw[List.take_succ_eq_append_getElem hi,lI,jac,Dab];rfl
  rw[hdr,Zh] at hb;cases Baa:iB bits i with
  |false=>rw[Baa] at hb;refine .inl ⟨_,LY call _ _ x bits left d ends i ss.length hi (by simp) hw _ _ hg Baa,left,ends,by rw[hJ],hb⟩
  |true=>
   have hdl:=Ba i ss[i] (by simp[hi]) Baa;have hp:(ss[i].parts.map Oe)[d]? =some (.lit 2 (de ss[i].parts[d])):=by simp[hdl,Oe]
   have hc:=SU (L7 ss[i] (jaa hi) ss[i].parts[d] (jaa hdl)) x;have u9:Nv ss[i] d x=YP ss[i].parts[d] x:=by simp[Nv,hdl]
   rw[Baa,u9,oab] at hb;cases hh:YP ss[i].parts[d] x with
   |false=>rw[hh] at hb hc;refine .inl ⟨_,bZ call _ _ x bits left d ends i ss.length hi (by simp) hw _ _ hg Baa _ hp (by simpa using hdl) hd hc,left,ends,by rw[hJ],hb⟩
   |true=>
    rw[hh] at hb hc;refine .inl ⟨_,M3 call _ _ x bits left d ends i ss.length hi (by simp) hw _ _ hg Baa _ hp (by simpa using hdl) hd hc,_,_,by rw[hJ],?_⟩
    rw[hb];simp
 ·rintro t ⟨left,ends,rfl,hb⟩
  rw[vab] at hb;simp only[Zh] at hb;refine⟨.exit 0,_,?_,rfl,rfl,rfl⟩;rw[hb,sab];have e1:decide ((ss.length:Int) < (ss.length:Int))=false:=Ga (by omega);simp -implicitDefEqProofs only[SP,SA,SQ,sevalprocAttr,ma,Eb,e1,Sz]
end
abbrev Al:=Nat×Int
def Oi(a:Al):PV:= .agg [i64 a.1,u32 a.2]
def FE(l:List Al)(k:Nat):List (PV×PV):=(l.zipIdx k).map fun p=>(Oi p.1,i64 p.2)
theorem sD(a:Al)(l:List Al)(k:Nat):FE (a::l) k=(Oi a,i64 k)::FE l (k+1):=rfl
theorem tJ(a:Al):∀ (l:List Al)(k:Nat),FE (l++[a]) k=FE l k++[(Oi a,i64 (k+l.length:Nat))]
 | [],k=>by simp[FE]
 |b::l,k=>by rw[bab,sD,tJ a l (k+1),sD];simp;omega
theorem aF(a b:Al):Nl (.row [1,1]) (Oi a) (Oi b)=some (decide (a=b)):=by
 obtain⟨a1,a2⟩:=a;obtain⟨b1,b2⟩:=b;simp only[Oi,Nl,gj,Rr,if_true,yaa,Haa,aae,oaa,Bool.decide_and]
 congr 1
 rw[Xad];simp;intro _;omega
def Sm(a:Al):List Al->Nat->Option Nat
 | [],_=>none
 |b::l,k=>if a=b then some k else Sm a l (k+1)
theorem vL(a:Al):∀ (l:List Al)(k j:Nat),yn (.row [1,1]) (Oi a) (FE l k) j=some ((Sm a l k).map fun i=>(j+(i - k),i64 i)):=by
 intro l
 induction l with
 |nil=>intro k j;rfl
 |cons b l ih=>
  intro k j;rw[sD,yn,aF];simp only[yaa,Sm]
  by_cases h:a=b
  ·simp[h]
  ·rw[kaa h,ih]
   simp only[h,decide_false,saa,if_false,caa];cases hi:Sm a l (k+1) with
   |none=>rfl
   |some i=>
    have:k+1<=i:=by
     clear ih
     induction l generalizing k with
     |nil=>simp[Sm] at hi
     |cons c l ihl=>
      simp only[Sm] at hi
      split at hi
      ·injection hi with hi;omega
      ·have:=ihl (k+1) hi;omega
    simp only[Haa,caa,oaa,and_true];omega
abbrev Hk(R0 R1:ba)(S:PV)(nl:Bool)(B7:List Al)(rows:ba)(n:Nat)(T:List ba):List ba:=
 R0::R1:: .map (FE B7 0):: .box [.pv S,.mp 2,.uq 4 nl 2 (B7.map Oi),.own 5 n]:: .tok 2 B7.length nl::rows::T
section
variable (call:Sa)(R0 R1:ba)(S:PV)(nl:Bool)(B7:List Al)(rows:ba)(n:Nat)(T:List ba)(a:Al)
theorem aZ{i:Nat}(h:Sm a B7 0=some i):
 ef call xe [.ptr 3 0,.pv (Oi a)] (Hk R0 R1 S nl B7 rows n T)=some (.pv (.mc [i64 i,.bool true]),Hk R0 R1 S nl B7 rows n T):=by
 have hf:=vL a B7 0 0;rw[h] at hf;simp only[Haa] at hf;have hk:(Nl (.row [1,1]) (Oi a) (Oi a)).isSome=true:=by rw[aF];rfl
 simp only[Oi] at hf hk;simp -implicitDefEqProofs only[SP,SA,SQ,sevalprocAttr,Oi,xe,hf,Iaa hk]
theorem zX(h:Sm a B7 0=none)(hl:B7.length=64):
 ef call xe [.ptr 3 0,.pv (Oi a)] (Hk R0 R1 S nl B7 rows n T)=some (.pv (.mc [i64 0,.bool false]),Hk R0 R1 S nl B7 rows n T):=by
 have hf:=vL a B7 0 0;rw[h] at hf;simp only[Option.map_none] at hf;have hk:(Nl (.row [1,1]) (Oi a) (Oi a)).isSome=true:=by rw[aF];rfl
 have e1:(((B7.map Oi).length:Int)==64)=true:=by simp[hl]
 simp only[Oi] at hf hk;simp -implicitDefEqProofs only[SP,SA,SQ,sevalprocAttr,xe,Oi,hf,Iaa hk,e1]
theorem iS(h:Sm a B7 0=none)(hl:B7.length < 64):
 ef call xe [.ptr 3 0,.pv (Oi a)] (Hk R0 R1 S nl B7 rows n T)=some (.pv (.mc [i64 B7.length,.bool true]),Hk R0 R1 S false (B7++[a]) rows n T):=by
 have hf:=vL a B7 0 0;rw[h] at hf;simp only[Option.map_none] at hf;have hk:(Nl (.row [1,1]) (Oi a) (Oi a)).isSome=true:=by rw[aF];rfl
 have e1:((B7.length:Int)==64)=false:=lj (by omega);have hp:=tJ a B7 0;rw[Zaa] at hp;have q1:eb (B7.length+1) 16:=by unfold eb;omega
 have hlen:(B7.map Oi).length=B7.length:=by simp
 have P8:(B7++[a]).length=B7.length+1:=by simp
 have pac:(B7++[a]).map Oi=B7.map Oi++[Oi a]:=by simp
 unfold Hk;rw[hp,P8,pac];simp only[Oi] at hf hk ⊢;simp -implicitDefEqProofs only[SP,SA,SQ,sevalprocAttr,xe,hf,Iaa hk,e1,hlen,Iaa q1,jj,AV.VE,AV.Lq]
end
theorem Rn(n:Nat)(cs:List AV):qa n (.box cs)=(Ra (AV.cut n deep) cs).map .box:=rfl
theorem Ln(n:Nat)(es:List (PV×PV)):qa n (.map es)=some (.map es):=rfl
theorem Mu(n sz:Nat)(ag:Bool)(cs:List AV)(fl:Nat)(nl:Bool):qa n (.seq sz ag cs fl nl)=if cs.all (AV.je n deep)=true then some (.seq sz ag cs fl nl) else none:=rfl
theorem Yn(n sz m:Nat)(nl:Bool):qa n (.tok sz m nl)=some (.tok sz m nl):=rfl
def ph(ss:List Nb)(a:Al)(x:Int)(B7:List Al):Option (List Al×Int):=
 if (Zh x a.2 a.1 0 ss (0,false)).1=0 then some (B7,-2)
 else if (Zh x a.2 a.1 0 ss (0,false)).2=true then some (B7,-1)
 else match Sm (a.1+1,(Zh x a.2 a.1 0 ss (0,false)).1) B7 0 with
  |some k=>some (B7,(k:Int))
  |none=>if B7.length < 64 then some (B7++[(a.1+1,(Zh x a.2 a.1 0 ss (0,false)).1)],(B7.length:Int)) else none
inductive Bw(k:Nat)(v:AV)(o:ba):Option (Ex×St)->Prop
 |mk (s:St):s.env.get k=v->s.H[0]? =some o->Bw k v o (some (.ret,s))
theorem vH{k:Nat}{v:AV}{o:ba}{s:St}:Bw k v o (some (.ret,s))=(s.env.get k=v/\s.H[0]? =some o):=
 propext ⟨fun h=>by cases h with | mk _ h h'=>exact⟨h,h'⟩,fun h=> .mk s h.1 h.2⟩
theorem Rt{k:Nat}{v:AV}{o:ba}{r:Option (Ex×St)}(h:Bw k v o r):∃ t,r=some (.ret,t)/\t.env.get k=v/\t.H[0]? =some o:=by
 cases h with | mk s h h'=>exact⟨s,rfl,h,h'⟩
def La(l:List Int):List AV:=l.map fun n=> .pv (i64 n)
theorem Wj(l:List Int)(x:Nat)(v:Int):(La l).set x (.pv (i64 v))=La (l.set x v):=by simp[La,qae]
theorem mb(l:List Int):(La l).length=l.length:=by simp[La]
theorem Ts(n d:Nat)(l:List Int):Ra (AV.cut n d) (La l)=some (La l):=by
 induction l with
 |nil=>rfl
 |cons a l ih=>simp only[La,lab,Ra,Qa,yaa] at ih ⊢;rw[ih];rfl
abbrev Dn(i x:Int):Tr:=(((Tr.lf.set 30 (.pv (i64 x))).set 4 (.ptr 6 0)).set 3 (.pv (i64 i))).set 0 (.ptr 3 0)
section
variable (R0 R1:ba)(S:PV)(nl:Bool)(B7:List Al)(rows:ba)(n:Nat)(row:List Int)(ss:List Nb)(i x:Nat)(a:Al)
 (h0:qa 7 R0=some R0) (h1:qa 7 R1=some R1) (hr:qa 7 rows=some rows) (K7:row.length=256) (hx:x < 256)
 (hi:i < B7.length) (ha:(B7.map Oi)[i]? =some (.agg [i64 a.1,u32 a.2])) (had:a.1 < 4611686018427387904)
 (hS:Vh 2 S (ss.map uf)) (hw:ss.length<=maxLen)
 (Ba:∀ i s,ss[i]? =some s->iB a.2 i=true->a.1 < s.parts.length) (L7:∀ s∈ss,∀ l∈s.parts,l.length * 16<=140737488355328)
include h0 h1 hr K7 hx hi ha had hS hw Ba L7
theorem oV(hb:(Zh x a.2 a.1 0 ss (0,false)).1=0):
 Wc (Da Fa 7) [0,3,4,30] Ma 7 ⟨Dn i x,Hk R0 R1 S nl B7 rows n [.box (La row)]⟩=
  some (.norm,⟨Dn i (x+1:Nat),Hk R0 R1 S nl B7 rows n [.box (La (row.set x (-2)))]⟩):=by
 have e1:decide ((x:Int) < 256)=true:=Ea (by omega);have hlen:(B7.map Oi).length=B7.length:=by simp
 have hq:Ia (i:Int) B7.length:=by unfold Ia;omega
 have Y9:Ia (x:Int) 256:=by unfold Ia;omega
 have t1:((i:Int)).toNat=i:=by simp
 have t3:((x:Int)).toNat=x:=by simp
 have t2:=Za (i:=x) (n:=256) hx (by unfold maxLen;omega);have U8:=Ur (Da Fa 6) (Hk R0 R1 S nl B7 rows n [.box (La row)]) 3 _ S ss x a.2 a.1 rfl hS hw had Ba L7
 rw[hb] at U8;have hle:x+1<=(La row).length:=by rw[mb];omega
 have hz:(((0:Nat)+x+1)<=(La row).length)=True:=by simp only[eq_iff_iff,iff_true];omega
 simp only[Hk,bab,Yaa] at U8;generalize (Zh x a.2 a.1 0 ss (0,false)).2=ends at *
 simp -implicitDefEqProofs only[SP,SA,SQ,sevalprocAttr,Wc,ma,Ma,Fa,e1,hlen,Iaa hq,Iaa Y9,t1,t2,t3,ha,U8,hz,Iaa hle,Wj,ta,na,Ca,Rn,Ln,Yn,Qa,Ts,AV.cut,Fc,h0,h1,hr,Dn,Hk]
theorem UW(hb:(Zh x a.2 a.1 0 ss (0,false)).1≠0)(y8:(Zh x a.2 a.1 0 ss (0,false)).2=true):
 Wc (Da Fa 7) [0,3,4,30] Ma 7 ⟨Dn i x,Hk R0 R1 S nl B7 rows n [.box (La row)]⟩=
  some (.norm,⟨Dn i (x+1:Nat),Hk R0 R1 S nl B7 rows n [.box (La (row.set x (-1)))]⟩):=by
 have e1:decide ((x:Int) < 256)=true:=Ea (by omega);have hlen:(B7.map Oi).length=B7.length:=by simp
 have hq:Ia (i:Int) B7.length:=by unfold Ia;omega
 have Y9:Ia (x:Int) 256:=by unfold Ia;omega
 have t1:((i:Int)).toNat=i:=by simp
 have t3:((x:Int)).toNat=x:=by simp
 have t2:=Za (i:=x) (n:=256) hx (by unfold maxLen;omega);have U8:=Ur (Da Fa 6) (Hk R0 R1 S nl B7 rows n [.box (La row)]) 3 _ S ss x a.2 a.1 rfl hS hw had Ba L7
 rw[y8] at U8;have hle:x+1<=(La row).length:=by rw[mb];omega
 have hz:(((0:Nat)+x+1)<=(La row).length)=True:=by simp only[eq_iff_iff,iff_true];omega
 simp only[Hk,bab,Yaa] at U8;have e4:=lj hb;generalize (Zh x a.2 a.1 0 ss (0,false)).1=left at *
 simp -implicitDefEqProofs only[SP,SA,SQ,sevalprocAttr,Wc,ma,Ma,Fa,e1,hlen,Iaa hq,Iaa Y9,t1,t2,t3,ha,U8,e4,hz,Iaa hle,Wj,ta,na,Ca,Rn,Ln,Yn,Qa,Ts,AV.cut,Fc,h0,h1,hr,Dn,Hk]
theorem PW(hb:(Zh x a.2 a.1 0 ss (0,false)).1≠0)(y8:(Zh x a.2 a.1 0 ss (0,false)).2=false){k:Nat}(hk:Sm (a.1+1,(Zh x a.2 a.1 0 ss (0,false)).1) B7 0=some k):
 Wc (Da Fa 7) [0,3,4,30] Ma 7 ⟨Dn i x,Hk R0 R1 S nl B7 rows n [.box (La row)]⟩=
  some (.norm,⟨Dn i (x+1:Nat),Hk R0 R1 S nl B7 rows n [.box (La (row.set x k))]⟩):=by
 have e1:decide ((x:Int) < 256)=true:=Ea (by omega);have hlen:(B7.map Oi).length=B7.length:=by simp
 have hq:Ia (i:Int) B7.length:=by unfold Ia;omega
 have Y9:Ia (x:Int) 256:=by unfold Ia;omega
 have t1:((i:Int)).toNat=i:=by simp
 have t3:((x:Int)).toNat=x:=by simp
 have t2:=Za (i:=x) (n:=256) hx (by unfold maxLen;omega);have U8:=Ur (Da Fa 6) (Hk R0 R1 S nl B7 rows n [.box (La row)]) 3 _ S ss x a.2 a.1 rfl hS hw had Ba L7
 rw[y8] at U8;have hle:x+1<=(La row).length:=by rw[mb];omega
 have hz:(((0:Nat)+x+1)<=(La row).length)=True:=by simp only[eq_iff_iff,iff_true];omega
 simp only[Hk,bab,Yaa] at U8;have e4:=lj hb;have t5:IntKind.i64.wrap ((a.1:Int)+1)=((a.1+1:Nat):Int):=Aa (by omega)
 have Z9:=aZ (Da Fa 6) R0 R1 S nl B7 rows n (.box (La row)::lI ss) (a.1+1,(Zh x a.2 a.1 0 ss (0,false)).1) hk;simp only[Hk,Oi] at Z9;generalize (Zh x a.2 a.1 0 ss (0,false)).1=left at *
 simp -implicitDefEqProofs only[SP,SA,SQ,sevalprocAttr,Wc,ma,Ma,Fa,e1,hlen,Iaa hq,Iaa Y9,t1,t2,t3,ha,U8,Z9,t5,e4,hz,Iaa hle,Wj,ta,na,Ca,Rn,Ln,Yn,Qa,Ts,AV.cut,Fc,h0,h1,hr,Dn,Hk]
theorem aX(hb:(Zh x a.2 a.1 0 ss (0,false)).1≠0)(y8:(Zh x a.2 a.1 0 ss (0,false)).2=false)(hk:Sm (a.1+1,(Zh x a.2 a.1 0 ss (0,false)).1) B7 0=none)(hl:B7.length < 64):
 Wc (Da Fa 7) [0,3,4,30] Ma 7 ⟨Dn i x,Hk R0 R1 S nl B7 rows n [.box (La row)]⟩=
  some (.norm,⟨Dn i (x+1:Nat),Hk R0 R1 S false (B7++[(a.1+1,(Zh x a.2 a.1 0 ss (0,false)).1)]) rows n [.box (La (row.set x (B7.length:Int)))]⟩):=by
 have e1:decide ((x:Int) < 256)=true:=Ea (by omega);have hlen:(B7.map Oi).length=B7.length:=by simp
 have hq:Ia (i:Int) B7.length:=by unfold Ia;omega
 have Y9:Ia (x:Int) 256:=by unfold Ia;omega
 have t1:((i:Int)).toNat=i:=by simp
 have t3:((x:Int)).toNat=x:=by simp
 have t2:=Za (i:=x) (n:=256) hx (by unfold maxLen;omega);have U8:=Ur (Da Fa 6) (Hk R0 R1 S nl B7 rows n [.box (La row)]) 3 _ S ss x a.2 a.1 rfl hS hw had Ba L7
 rw[y8] at U8;have hle:x+1<=(La row).length:=by rw[mb];omega
 have hz:(((0:Nat)+x+1)<=(La row).length)=True:=by simp only[eq_iff_iff,iff_true];omega
 simp only[Hk,bab,Yaa] at U8;have e4:=lj hb;have t5:IntKind.i64.wrap ((a.1:Int)+1)=((a.1+1:Nat):Int):=Aa (by omega)
 have Z9:=iS (Da Fa 6) R0 R1 S nl B7 rows n (.box (La row)::lI ss) (a.1+1,(Zh x a.2 a.1 0 ss (0,false)).1) hk hl;simp only[Hk,Oi] at Z9 ⊢;generalize (Zh x a.2 a.1 0 ss (0,false)).1=left at *
 simp -implicitDefEqProofs only[SP,SA,SQ,sevalprocAttr,Wc,ma,Ma,Fa,e1,hlen,Iaa hq,Iaa Y9,t1,t2,t3,ha,U8,Z9,t5,e4,hz,Iaa hle,Wj,ta,na,Ca,Rn,Ln,Yn,Qa,Ts,AV.cut,Fc,h0,h1,hr,Dn,Hk]
end
section
variable (R0 R1:ba)(S:PV)(nl:Bool)(B7:List Al)(rows:ba)(n:Nat)(row:List Int)(ss:List Nb)(i x:Nat)(a:Al)
 (K7:row.length=256) (hx:x < 256)
 (hi:i < B7.length) (ha:(B7.map Oi)[i]? =some (.agg [i64 a.1,u32 a.2])) (had:a.1 < 4611686018427387904)
 (hS:Vh 2 S (ss.map uf)) (hw:ss.length<=maxLen)
 (Ba:∀ i s,ss[i]? =some s->iB a.2 i=true->a.1 < s.parts.length) (L7:∀ s∈ss,∀ l∈s.parts,l.length * 16<=140737488355328)
include K7 hx hi ha had hS hw Ba L7
theorem ZU(hb:(Zh x a.2 a.1 0 ss (0,false)).1≠0)(y8:(Zh x a.2 a.1 0 ss (0,false)).2=false)(hk:Sm (a.1+1,(Zh x a.2 a.1 0 ss (0,false)).1) B7 0=none)(hl:B7.length=64):
 Bw 2 (.pv (.bool false)) R0 (Wc (Da Fa 7) [0,3,4,30] Ma 7 ⟨Dn i x,Hk R0 R1 S nl B7 rows n [.box (La row)]⟩):=by
 have e1:decide ((x:Int) < 256)=true:=Ea (by omega);have hlen:(B7.map Oi).length=B7.length:=by simp
 have hq:Ia (i:Int) B7.length:=by unfold Ia;omega
 have Y9:Ia (x:Int) 256:=by unfold Ia;omega
 have t1:((i:Int)).toNat=i:=by simp
 have t3:((x:Int)).toNat=x:=by simp
 have t2:=Za (i:=x) (n:=256) hx (by unfold maxLen;omega);have U8:=Ur (Da Fa 6) (Hk R0 R1 S nl B7 rows n [.box (La row)]) 3 _ S ss x a.2 a.1 rfl hS hw had Ba L7
 rw[y8] at U8;have hle:x+1<=(La row).length:=by rw[mb];omega
 have hz:(((0:Nat)+x+1)<=(La row).length)=True:=by simp only[eq_iff_iff,iff_true];omega
 simp only[Hk,bab,Yaa] at U8;have e4:=lj hb;have t5:IntKind.i64.wrap ((a.1:Int)+1)=((a.1+1:Nat):Int):=Aa (by omega)
 have Z9:=zX (Da Fa 6) R0 R1 S nl B7 rows n (.box (La row)::lI ss) (a.1+1,(Zh x a.2 a.1 0 ss (0,false)).1) hk hl;simp only[Hk,Oi] at Z9;generalize (Zh x a.2 a.1 0 ss (0,false)).1=left at *
 simp -implicitDefEqProofs only[SP,SA,SQ,sevalprocAttr,Wc,ma,Ma,Fa,e1,hlen,Iaa hq,Iaa Y9,t1,t2,t3,ha,U8,Z9,t5,e4,vH,hz,Iaa hle,Wj,ta,Dn,Hk]
end
def Wl(ss:List Nb)(a:Al):List Nat->List Al×List Int->Option (List Al×List Int)
 | [],r=>some r
 |x::xs,r=>match ph ss a x r.1 with
  |some p=>Wl ss a xs (p.1,r.2.set x p.2)
  |none=>none
theorem Qu{ss:List Nb}{a:Al}{x:Nat}{xs:List Nat}{r:List Al×List Int}(h:ph ss a x r.1=none):Wl ss a (x::xs) r=none:=by
 rw[Wl,h]
theorem Kv{ss:List Nb}{a:Al}{x:Nat}{xs:List Nat}{r:List Al×List Int}{p:List Al×Int}(h:ph ss a x r.1=some p):Wl ss a (x::xs) r=Wl ss a xs (p.1,r.2.set x p.2):=by
 rw[Wl,h]
theorem Ns{n x:Nat}(h:x < n):(List.range n).drop x=x::(List.range n).drop (x+1):=by
 rw[Paa (by simpa using h)];simp
theorem gE{ss:List Nb}{a:Al}{x:Int}{B7:List Al}{r:List Al×Int}(h:ph ss a x B7=some r)(hl:B7.length<=64):r.1.length<=64/\∃ t,r.1=B7++t:=by
 unfold ph at h
 split at h
 ·injection h with h;subst h;exact⟨hl,[],by simp⟩
 ·split at h
  ·injection h with h;subst h;exact⟨hl,[],by simp⟩
  ·split at h
   ·injection h with h;subst h;exact⟨hl,[],by simp⟩
   ·split at h
    ·injection h with h;subst h;exact⟨by simp;omega,_,rfl⟩
    ·cases h
section
variable (R0 R1:ba)(S:PV)(rows:ba)(n:Nat)(ss:List Nb)
 (h0:qa 7 R0=some R0) (h1:qa 7 R1=some R1) (hr:qa 7 rows=some rows)
 (hS:Vh 2 S (ss.map uf)) (hw:ss.length<=maxLen)
 (L7:∀ s∈ss,∀ l∈s.parts,l.length * 16<=140737488355328)
include h0 h1 hr hS hw L7
theorem fQ{nl:Bool}{B7:List Al}{row:List Int}{i x:Nat}{a:Al}(K7:row.length=256)(hx:x < 256)(ha:B7[i]? =some a)(had:a.1 < 4611686018427387904)(hl:B7.length<=64)
 (Ba:∀ i s,ss[i]? =some s->iB a.2 i=true->a.1 < s.parts.length):
 (∀ r,ph ss a x B7=some r->∃ nl',Wc (Da Fa 7) [0,3,4,30] Ma 7 ⟨Dn i x,Hk R0 R1 S nl B7 rows n [.box (La row)]⟩=
  some (.norm,⟨Dn i (x+1:Nat),Hk R0 R1 S nl' r.1 rows n [.box (La (row.set x r.2))]⟩))/\
 (ph ss a x B7=none->Bw 2 (.pv (.bool false)) R0 (Wc (Da Fa 7) [0,3,4,30] Ma 7 ⟨Dn i x,Hk R0 R1 S nl B7 rows n [.box (La row)]⟩)):=by
 have hi:i < B7.length:=(iaa.1 ha).1
 have ha':(B7.map Oi)[i]? =some (.agg [i64 a.1,u32 a.2]):=by rw[Eaa,ha];rfl
 by_cases hb:(Zh x a.2 a.1 0 ss (0,false)).1=0
 ·have Y7:=(show ph ss a x B7=some (B7,-2) by unfold ph;rw[if_pos hb])
  rw[Y7];exact⟨fun r e=>by injection e with e;subst e;exact⟨nl,oV R0 R1 S nl B7 rows n row ss i x a h0 h1 hr K7 hx hi ha' had hS hw Ba L7 hb⟩,fun e=>by cases e⟩
 by_cases y8:(Zh x a.2 a.1 0 ss (0,false)).2=true
 ·have Y7:=(show ph ss a x B7=some (B7,-1) by unfold ph;rw[kaa hb,if_pos y8])
  rw[Y7];exact⟨fun r e=>by injection e with e;subst e;exact⟨nl,UW R0 R1 S nl B7 rows n row ss i x a h0 h1 hr K7 hx hi ha' had hS hw Ba L7 hb y8⟩,fun e=>by cases e⟩
 have hb3:(Zh x a.2 a.1 0 ss (0,false)).2=false:=by simpa using y8
 cases hk:Sm (a.1+1,(Zh x a.2 a.1 0 ss (0,false)).1) B7 0 with
 |some k=>have Y7:=(show ph ss a x B7=some (B7,(k:Int)) by unfold ph;rw[kaa hb,kaa y8,hk]);rw[Y7];exact⟨fun r e=>by injection e with e;subst e;exact⟨nl,PW R0 R1 S nl B7 rows n row ss i x a h0 h1 hr K7 hx hi ha' had hS hw Ba L7 hb hb3 hk⟩,fun e=>by cases e⟩
 |none=>
  by_cases E7:B7.length < 64
  ·have Y7:=(show ph ss a x B7=some (B7++[(a.1+1,(Zh x a.2 a.1 0 ss (0,false)).1)],(B7.length:Int)) by unfold ph;rw[kaa hb,kaa y8,hk];simp only[if_pos E7])
   rw[Y7];exact⟨fun r e=>by injection e with e;subst e;exact⟨false,aX R0 R1 S nl B7 rows n row ss i x a h0 h1 hr K7 hx hi ha' had hS hw Ba L7 hb hb3 hk E7⟩,fun e=>by cases e⟩
  ·have Y7:=(show ph ss a x B7=none by unfold ph;rw[kaa hb,kaa y8,hk];simp only[kaa E7])
   rw[Y7];exact⟨fun r e=>(by cases e),fun _=>ZU R0 R1 S nl B7 rows n row ss i x a K7 hx hi ha' had hS hw Ba L7 hb hb3 hk (by omega)⟩
theorem eX{nl:Bool}{B7:List Al}{row:List Int}{i:Nat}{a:Al}(K7:row.length=256)(ha:B7[i]? =some a)(had:a.1 < 4611686018427387904)(hl:B7.length<=64)
 (Ba:∀ i s,ss[i]? =some s->iB a.2 i=true->a.1 < s.parts.length):
 (∀ r,Wl ss a (List.range 256) (B7,row)=some r->∃ nl',ab (ma (oa (Da Fa 7) Ma) (na 7 [0,3,4,30])) ua ⟨Dn i 0,Hk R0 R1 S nl B7 rows n [.box (La row)]⟩=
  some (.exit 2,⟨(Dn i 256).set 31 (.pv (.bool false)),Hk R0 R1 S nl' r.1 rows n [.box (La r.2)]⟩)/\r.1.length<=64/\r.2.length=256/\∃ t,r.1=B7++t)/\
 (Wl ss a (List.range 256) (B7,row)=none->Bw 2 (.pv (.bool false)) R0 (ab (ma (oa (Da Fa 7) Ma) (na 7 [0,3,4,30])) ua ⟨Dn i 0,Hk R0 R1 S nl B7 rows n [.box (La row)]⟩)):=by
 generalize N9:List.range 256=xs
 have key:=Yl (g:=Wc (Da Fa 7) [0,3,4,30] Ma 7)
  (fun x t=>∃ nl' sets' row',t=⟨Dn i x,Hk R0 R1 S nl' sets' rows n [.box (La row')]⟩/\Wl ss a xs (B7,row)=Wl ss a (xs.drop x) (sets',row')/\sets'.length<=64/\row'.length=256/\∃ t,sets'=B7++t)
  (fun ex t=>(∃ r,ex= .exit 2/\Wl ss a xs (B7,row)=some r/\∃ nl',t=⟨(Dn i 256).set 31 (.pv (.bool false)),Hk R0 R1 S nl' r.1 rows n [.box (La r.2)]⟩/\r.1.length<=64/\r.2.length=256/\∃ t,r.1=B7++t)\/
   (ex= .ret/\Wl ss a xs (B7,row)=none/\t.env.get 2= .pv (.bool false)/\t.H[0]? =some R0))
  ua 256 0 ⟨Dn i (0:Nat),Hk R0 R1 S nl B7 rows n [.box (La row)]⟩ (by unfold ua;omega) (by omega) ⟨nl,B7,row,rfl,rfl,hl,K7,[],by simp⟩ ?_ ?_
 ·obtain⟨ex,t,h,_,hq⟩:=key
  have h':ab (ma (oa (Da Fa 7) Ma) (na 7 [0,3,4,30])) ua ⟨Dn i 0,Hk R0 R1 S nl B7 rows n [.box (La row)]⟩=some (ex,t):=h;rw[h'];rcases hq with⟨r,rfl,R8,nl',rfl,q1,q2,q3⟩ | ⟨rfl,R8,hg,hg2⟩
  ·refine⟨fun r2 e=> ?_,fun e=> ?_⟩
   ·rw[R8] at e;injection e with e;subst e;exact⟨nl',rfl,q1,q2,q3⟩
   ·rw[R8] at e;cases e
  ·refine⟨fun r2 e=> ?_,fun _=> .mk _ hg hg2⟩
   rw[R8] at e;cases e
 ·rintro x hx t ⟨nl',sets',row',rfl,hrs,Z8,V9,tl,hts⟩
  have ha':sets'[i]? =some a:=by rw[hts,eaa (iaa.1 ha).1];exact ha
  have hd:=Ns hx;rw[N9] at hd;have hsr:=fQ R0 R1 S rows n ss h0 h1 hr hS hw L7 (nl:=nl') V9 hx ha' had Z8 Ba;rw[hd] at hrs;cases Y7:ph ss a x sets' with
  |none=>rw[Qu Y7] at hrs;obtain⟨t,g1,g2,g3⟩:=Rt (hsr.2 Y7);exact .inr ⟨.ret,t,g1,rfl,.inr ⟨rfl,hrs,g2,g3⟩⟩
  |some r=>
   rw[Kv Y7] at hrs;obtain⟨nl2,g1⟩:=hsr.1 r Y7
   obtain⟨k1,t2,k2⟩:=gE Y7 Z8;exact .inl ⟨_,g1,nl2,r.1,row'.set x r.2,rfl,hrs,k1,by simpa using V9,tl++t2,by rw[k2,hts,Dab]⟩
 ·rintro t ⟨nl',sets',row',rfl,hrs,Z8,V9,tl,hts⟩
  rw[Yab (by rw[<- N9,eac];exact paa _)] at hrs;refine⟨.exit 2,_,?_,rfl,.inl ⟨(sets',row'),rfl,hrs,nl',rfl,Z8,V9,tl,hts⟩⟩;have e1:decide (((256:Nat):Int) < 256)=false:=by decide
  simp -implicitDefEqProofs only[SP,SA,SQ,sevalprocAttr,Wc,ma,Ma,e1,Dn,Hk]
end
def Eh(rs:List (List Int)):ba:= .seq 256 true (rs.flatMap La) 0 rs.isEmpty
theorem dv(l:List Int):La l=(l.map i64).map .pv:=by simp[La]
theorem Ju(l:List Int):Tc (La l)=some (l.map i64):=by
 rw[dv]
 induction l with
 |nil=>rfl
 |cons a l ih=>simp only[lab,Tc,ih,Haa]
theorem BF(l:List Int):(La l).all AV.one=true:=by
 induction l with
 |nil=>rfl
 |cons a l ih=>simp only[La,lab,wac,AV.one,oab] at ih ⊢;exact ih
theorem V3:List.map AV.pv (List.replicate 256 (PV.int .i64 0))=La (List.replicate 256 0):=by
 simp only[La,kad]
theorem RA{α:Type}:∀ (vs cs pre:List α),cs.length=vs.length->fa (pre++cs) pre.length vs=pre++vs
 | [],cs,pre,h=>by simp at h;subst h;rfl
 |v::vs,c::cs,pre,h=>by
  rw[fa];have h1:(pre++c::cs).set pre.length v=(pre++[v])++cs:=by rw[Jab _ _ (paa _)];simp
  rw[h1];have:=RA vs cs (pre++[v]) (by simpa using h);simp only[raa,Oaa,pab,Zaa] at this;rw[this];simp
 |_::_,[],_,h=>by simp at h
theorem bz(n d:Nat)(rs:List (List Int)):(rs.flatMap La).all (AV.je n d)=true:=by
 rw[Taa];intro v hv;rw[List.mem_flatMap] at hv;obtain⟨r,_,hv⟩:=hv;simp only[La,fab] at hv;obtain⟨x,_,rfl⟩:=hv;cases d <;> rfl
theorem tG:∀ {rs:List (List Int)},(∀ r∈rs,r.length=256)->(rs.flatMap La).length=rs.length * 256
 | [],_=>rfl
 |r::rs,h=>by have:=tG (rs:=rs) (fun x hx=>h x (by simp[hx]));simp only[Yac,raa,mb,h r (by simp),this,Oaa];omega
abbrev CC(i:Int):Tr:=(Tr.lf.set 3 (.pv (i64 i))).set 0 (.ptr 3 0)
section
variable (R0 R1:ba)(S:PV)(nl:Bool)(B7:List Al)(rs:List (List Int))(ss:List Nb)(i:Nat)
 (h0:qa 7 R0=some R0) (h1:qa 7 R1=some R1) (g0:qa 6 R0=some R0) (g1:qa 6 R1=some R1)
 (hi:i < B7.length) (hl:B7.length<=64) (hrl:rs.length<=64) (hrr:∀ r∈rs,r.length=256)
include h0 h1 g0 g1 hi hl hrl hrr
theorem AT(nl':Bool)(sets':List Al)(row:List Int)(K7:row.length=256)
 (hrowL:ab (ma (oa (Da Fa 7) Ma) (na 7 [0,3,4,30])) ua ⟨Dn i 0,Hk R0 R1 S nl B7 (Eh rs) rs.length [.box (La (List.replicate 256 0))]⟩=
  some (.exit 2,⟨(Dn i 256).set 31 (.pv (.bool false)),Hk R0 R1 S nl' sets' (Eh rs) rs.length [.box (La row)]⟩)):
 Wc (Da Fa 7) [0,3] yb 6 ⟨CC i,Hk R0 R1 S nl B7 (Eh rs) rs.length []⟩=
  some (.norm,⟨CC (i+1:Nat),Hk R0 R1 S nl' sets' (Eh (rs++[row])) (rs.length+1) []⟩):=by
 have hlen:(B7.map Oi).length=B7.length:=by simp
 have e1:decide ((i:Int) < (B7.length:Int))=true:=Ea (by omega);have t2:=Za (i:=i) (n:=64) (by omega) (by unfold maxLen;omega);have p0:((La row).length=256)=True:=by rw[mb,K7];exact eq_self _
 have p1:(256<=(La row).length)=True:=by rw[mb,K7];exact Iaa (paa _)
 have p2:List.take 256 (La row)=La row:=Saa (by rw[mb,K7];exact paa _)
 have p3:=Ju row;have p4:((row.map i64).length=256)=True:=by rw[haa,K7];exact eq_self _
 have p5:(256<=(La (List.replicate 256 0)).length)=True:=by rw[mb,Xab];exact Iaa (paa _)
 have p6:fa (La (List.replicate 256 0)) 0 (La row)=La row:=by have:=RA (La row) (La (List.replicate 256 0)) [] (by rw[mb,mb,K7,Xab]);rw[Yaa,Yaa] at this;exact this
 have p7:=BF row;have p8:List.take 256 (row.map i64)=row.map i64:=Saa (by rw[haa,K7];exact paa _)
 have p9:(row.map i64).map AV.pv=La row:=(dv row).symm
 have q1:(rs.length * 256=(rs.flatMap La).length)=True:=by rw[tG hrr];exact eq_self _
 have q2:eb (rs.length+1) 2048:=by unfold eb;omega
 have q3:(rs++[row]).flatMap La=rs.flatMap La++La row:=by rw[List.flatMap_append,Yac,Iae,wab]
 have q4:(rs++[row]).isEmpty=false:=by cases rs <;> rfl
 have q5:=bz 7 6 rs;have q6:=bz 6 6 (rs++[row]);rw[q3] at q6;simp only[Dn,Hk,Eh,Int.cast_ofNat_Int] at hrowL;unfold Hk Eh;rw[q3,q4];have hz2:=V3;generalize hz:List.replicate 256 (0:Int)=zs at *
 simp -implicitDefEqProofs only[SP,SA,SQ,sevalprocAttr,-List.reduceReplicate,Wc,ma,yb,hlen,e1,Db,na,Ca,Rn,Ln,Yn,Mu,Qa,Ts,AV.cut,Fc,h0,h1,g0,g1,CC,hz2,q5];rw[hrowL];simp -implicitDefEqProofs only[SP,SA,SQ,sevalprocAttr,-List.reduceReplicate,wab,hlen,t2,p0,p1,p2,p3,p4,p5,p6,p7,p8,p9,q1,Iaa q2,q5,q6,jj,AV.VE,AV.Lq,hz2,wk,na,Ca,Rn,Ln,Yn,Mu,Qa,Ts,AV.cut,Fc,h0,h1,g0,g1]
end
theorem wrap_u32{n:Nat}(h:n < 4294967296):IntKind.u32.wrap (n:Int)=(n:Int):=by
 have e:IntKind.u32.wrap (n:Int)=(n:Int) % 4294967296:=by simp[IntKind.signed,IntKind.wrap,IntKind.bits]
 rw[e];omega
theorem sX{a b:Nat}(ha:a < 4294967296)(hb:b < 4294967296):(BitVec.ofInt IntKind.u32.bits (a:Int) &&& BitVec.ofInt IntKind.u32.bits (b:Int)).toNat=a &&& b:=by
 show (BitVec.ofInt 32 (a:Int) &&& BitVec.ofInt 32 (b:Int)).toNat=_
 rw[BitVec.toNat_and,BitVec.ofInt_natCast,BitVec.ofInt_natCast,BitVec.toNat_ofNat,BitVec.toNat_ofNat,Bae ha,Bae hb]
theorem WZ{a b:Nat}(ha:a < 4294967296)(hb:b < 4294967296):(BitVec.ofInt IntKind.u32.bits (a:Int) ||| BitVec.ofInt IntKind.u32.bits (b:Int)).toNat=a ||| b:=by
 show (BitVec.ofInt 32 (a:Int) ||| BitVec.ofInt 32 (b:Int)).toNat=_
 rw[BitVec.toNat_or,BitVec.ofInt_natCast,BitVec.ofInt_natCast,BitVec.toNat_ofNat,BitVec.toNat_ofNat,Bae ha,Bae hb]
theorem vN{n i:Nat}(hn:n < 4294967296)(hi:i < 32):iB (n:Int) i=n.testBit i:=by
 have hm:min i IntKind.u32.bits=i:=by show min i 32=i;omega
 have hf:(n:Int).fdiv (2 ^ i)=((n / 2 ^ i:Nat):Int):=by rw[show ((2:Int) ^ i)=((2 ^ i:Nat):Int) by push_cast;rfl];exact (Int.ofNat_fdiv n (2 ^ i)).symm
 have hle:n / 2 ^ i < 4294967296:=Nat.lt_of_le_of_lt (Nat.div_le_self _ _) hn
 have e:(BitVec.ofInt IntKind.u32.bits ((n / 2 ^ i:Nat):Int) &&& BitVec.ofInt IntKind.u32.bits 1).toNat=n / 2 ^ i % 2:=by have:=sX hle (show 1 < 4294967296 by decide);rw[Nat.and_one_is_mod] at this;exact this
 unfold iB;rw[hm,hf,e,wrap_u32 (by omega),Nat.testBit_eq_decide_div_mod_eq];rcases Nat.mod_two_eq_zero_or_one (n / 2 ^ i) with h | h <;> rw[h] <;> rfl
theorem XZ{n i:Nat}(hn:n < 4294967296)(hi:i < 32):D5 (n:Int) i=((n ||| 2 ^ i:Nat):Int):=by
 have hm:min i IntKind.u32.bits=i:=by show min i 32=i;omega
 have hp:2 ^ i < 4294967296:=by
  have:(2:Nat) ^ i < 2 ^ 32:=Nat.pow_lt_pow_right (by decide) hi
  simpa using this
 have h2:IntKind.u32.wrap (1 * 2 ^ i)=((2 ^ i:Nat):Int):=by rw[Mae,show ((2:Int) ^ i)=((2 ^ i:Nat):Int) by push_cast;rfl,wrap_u32 hp]
 unfold D5;rw[hm,h2,WZ hn hp,wrap_u32];exact Nat.or_lt_two_pow (n:=32) hn hp
def Fv(x:Int)(bits d:Nat):Nat->List Nb->Nat×Bool->Nat×Bool
 |_,[],acc=>acc
 |i,s::r,acc=>Fv x bits d (i+1) r (if bits.testBit i&&Nv s d x then (acc.1 ||| 2 ^ i,acc.2||(s.parts.length==d+1)) else acc)
theorem tL{x:Int}{bits d:Nat}:∀ (ss:List Nb)(i:Nat)(acc:Nat×Bool),i+ss.length<=32->acc.1 < 4294967296->(Fv x bits d i ss acc).1 < 4294967296
 | [],i,acc,_,h=>h
 |s::r,i,acc,hl,h=>by
  rw[Fv];refine tL r (i+1) _ (by simp only[Oaa] at hl;omega) ?_
  split
  ·refine Nat.or_lt_two_pow (n:=32) h ?_
   exact Nat.pow_lt_pow_right (by decide) (by simp only[Oaa] at hl;omega)
  ·exact h
theorem BP{x:Int}{bits d:Nat}(hb:bits < 4294967296):∀ (ss:List Nb)(i:Nat)(acc:Nat×Bool),i+ss.length<=32->acc.1 < 4294967296->
 Zh x (bits:Int) d i ss ((acc.1:Int),acc.2)=(((Fv x bits d i ss acc).1:Int),(Fv x bits d i ss acc).2)
 | [],i,acc,_,h=>rfl
 |s::r,i,acc,hl,h=>by
  have hi:i < 32:=by simp only[Oaa] at hl;omega
  rw[Zh,Fv,vN hb hi,XZ h hi];have h2:(acc.1 ||| 2 ^ i) < 4294967296:=Nat.or_lt_two_pow (n:=32) h (Nat.pow_lt_pow_right (by decide) hi)
  have ih:=BP (x:=x) (d:=d) hb r (i+1) (if bits.testBit i&&Nv s d x then (acc.1 ||| 2 ^ i,acc.2||(s.parts.length==d+1)) else acc)
   (by simp only[Oaa] at hl;omega) (by split;exact h2;exact h)
  rw[<- ih];cases bits.testBit i&&Nv s d x <;> rfl
theorem BC{x:Int}{bits d:Nat}:∀ (ss:List Nb)(i:Nat)(acc:Nat×Bool)(j:Nat),
 (Fv x bits d i ss acc).1.testBit j=(acc.1.testBit j||(decide (i<=j)&&(match ss[j - i]? with | some s=>bits.testBit j&&Nv s d x | none=>false)))
 | [],i,acc,j=>by simp[Fv]
 |s::r,i,acc,j=>by
  rw[Fv,BC r (i+1)]
  by_cases hij:i=j
  ·subst hij
   simp only[ead,dab,paa,decide_true,oab];have:decide (i+1<=i)=false:=by simp
   rw[this,Iac,cae];cases h:(bits.testBit i&&Nv s d x) with
   |true=>simp[Nat.testBit_or,Nat.testBit_two_pow_self]
   |false=>simp
  ·have e1:(if (bits.testBit i&&Nv s d x)=true then (acc.1 ||| 2 ^ i,acc.2||s.parts.length==d+1) else acc).1.testBit j=acc.1.testBit j:=by
    split
    ·simp only[Nat.testBit_or,Nat.testBit_two_pow_of_ne hij,cae]
    ·rfl
   rw[e1]
   by_cases E7:i+1<=j
   ·have e2:j - i=(j - (i+1))+1:=by omega
    have e3:decide (i<=j)=decide (i+1<=j):=by simp;omega
    rw[e2,e3,eab]
   ·have e3:decide (i<=j)=false:=by simp;omega
    have e4:decide (i+1<=j)=false:=by simp;omega
    rw[e3,e4];rfl
theorem UC{x:Int}{bits d:Nat}:∀ (ss:List Nb)(i:Nat)(acc:Nat×Bool),
 (Fv x bits d i ss acc).2=(acc.2||(ss.zipIdx i).any fun p=>bits.testBit p.2&&Nv p.1 d x&&(p.1.parts.length==d+1))
 | [],i,acc=>by simp[Fv]
 |s::r,i,acc=>by
  rw[Fv,UC r (i+1),List.zipIdx_cons,List.any_cons];cases h:(bits.testBit i&&Nv s d x) with
  |true=>simp[Bool.or_assoc]
  |false=>simp
def aM(ss:List Nb)(k:Nat)(a:Al):Prop:=
 a.1<=k/\∃ b:Nat,a.2=(b:Int)/\b < 4294967296/\∀ i s,ss[i]? =some s->b.testBit i=true->a.1 < s.parts.length
def On(ss:List Nb)(B7:List Al):Prop:=B7.length<=64/\∀ k a,B7[k]? =some a->aM ss k a
theorem aM.Ba{ss:List Nb}{k:Nat}{a:Al}(h:aM ss k a)(hl:ss.length<=32):∀ i s,ss[i]? =some s->iB a.2 i=true->a.1 < s.parts.length:=by
 obtain⟨_,b,e,hb,h⟩:=h;intro i s hs ht;have hi:i < 32:=by have:=(iaa.1 hs).1;omega
 rw[e,vN hb hi] at ht;exact h i s hs ht
theorem C3{ss:List Nb}{k:Nat}{a:Al}{x:Int}(h:aM ss k a)(hl:ss.length<=32)(hf:(Zh x a.2 a.1 0 ss (0,false)).2=false):
 aM ss (k+1) (a.1+1,(Zh x a.2 a.1 0 ss (0,false)).1):=by
 obtain⟨hk,b,e,hb,h⟩:=h;have hN:Zh x (b:Int) a.1 0 ss (0,false)=(((Fv x b a.1 0 ss (0,false)).1:Int),(Fv x b a.1 0 ss (0,false)).2):=BP (x:=x) (d:=a.1) hb ss 0 (0,false) (by omega) (by decide)
 rw[e,hN] at hf;rw[e,hN];have E7:=tL (x:=x) (bits:=b) (d:=a.1) ss 0 (0,false) (by omega) (by decide);refine⟨Nat.succ_le_succ hk,_,rfl,E7,?_⟩;intro i s hs ht;rw[BC] at ht;simp only[Nat.zero_testBit,Jac,decide_true,oab,Pad,pae,hs] at ht;have hd:=h i s hs (by revert ht;cases b.testBit i <;> simp);have hf':(Fv x b a.1 0 ss (0,false)).2=false:=hf
 rw[UC,Pad,List.any_eq_false] at hf';have:=hf' (s,i) (by rw[List.mk_mem_zipIdx_iff_getElem?];exact hs);show a.1+1 < s.parts.length
 simp only[ht,oab] at this;have h2:¬s.parts.length=a.1+1:=by simpa using this
 omega
theorem JG{ss:List Nb}{a:Al}{x:Int}{B7:List Al}{r:List Al×Int}{k:Nat}(hs:On ss B7)(ha:B7[k]? =some a)(hl:ss.length<=32)(h:ph ss a x B7=some r):
 On ss r.1/\∃ t,r.1=B7++t:=by
 have hk:=hs.2 k a ha
 unfold ph at h
 split at h
 ·injection h with h;subst h;exact⟨hs,[],by simp⟩
 ·split at h
  ·injection h with h;subst h;exact⟨hs,[],by simp⟩
  ·next hf=>
   split at h
   ·injection h with h;subst h;exact⟨hs,[],by simp⟩
   ·split at h
    ·next E7=>
     injection h with h;subst h
     refine⟨⟨by simp;omega,?_⟩,_,rfl⟩;intro j b hb;rcases Qaa j B7.length with h1 | h1
     ·rw[eaa h1] at hb;exact hs.2 j b hb
     ·rw[Kaa h1] at hb
      cases hj:j - B7.length with
      |succ n=>rw[hj] at hb;simp at hb
      |zero=>
       rw[hj] at hb;simp only[dab,caa] at hb;subst hb;have hkl:=(iaa.1 ha).1
       obtain⟨g1,g2⟩:=C3 hk hl (by simpa using hf);exact⟨mac g1 (by omega),g2⟩
    ·cases h
theorem Jw{ss:List Nb}{a:Al}{k:Nat}(hl:ss.length<=32):∀ (xs:List Nat)(r r':List Al×List Int),On ss r.1->r.1[k]? =some a->Wl ss a xs r=some r'->
 On ss r'.1/\(∃ t,r'.1=r.1++t)/\r'.2.length=r.2.length
 | [],r,r',h,_,e=>by injection e with e;subst e;exact⟨h,⟨[],by simp⟩,rfl⟩
 |x::xs,r,r',h,ha,e=>by
  cases Y7:ph ss a x r.1 with
  |none=>rw[Qu Y7] at e;cases e
  |some p=>rw[Kv Y7] at e;obtain⟨g1,t,g2⟩:=JG h ha hl Y7;obtain⟨k1,⟨t',k2⟩,k3⟩:=Jw hl xs (p.1,r.2.set x p.2) r' g1 (by rw[g2,eaa (iaa.1 ha).1];exact ha) e;exact⟨k1,⟨t++t',by rw[k2,g2,Dab]⟩,by rw[k3];simp⟩
def fb:List Int:=List.replicate 256 0
theorem Au:fb.length=256:=Xab
def qh(ss:List Nb):Nat->List Al×List (List Int)->Option (List Al×List (List Int))
 |0,r=>some r
 |k+1,r=>match r.1[r.2.length]? with
  |none=>some r
  |some a=>match Wl ss a (List.range 256) (r.1,fb) with
   |none=>none
   |some p=>qh ss k (p.1,r.2++[p.2])
theorem Gv{ss:List Nb}{k:Nat}{r:List Al×List (List Int)}(h:r.1[r.2.length]? =none):qh ss k r=some r:=by
 cases k with
 |zero=>rfl
 |succ k=>rw[qh,h]
theorem Xw{ss:List Nb}{k:Nat}{r:List Al×List (List Int)}{a:Al}(h:r.1[r.2.length]? =some a)(h2:Wl ss a (List.range 256) (r.1,fb)=none):qh ss (k+1) r=none:=by
 rw[qh,h];simp only[h2]
theorem zw{ss:List Nb}{k:Nat}{r:List Al×List (List Int)}{a:Al}{p:List Al×List Int}(h:r.1[r.2.length]? =some a)(h2:Wl ss a (List.range 256) (r.1,fb)=some p):qh ss (k+1) r=qh ss k (p.1,r.2++[p.2]):=by
 rw[qh,h];simp only[h2]
section
variable (R0 R1:ba)(S:PV)(nl:Bool)(B7:List Al)(rs:List (List Int))(ss:List Nb)(i:Nat)
theorem qY(h0:qa 7 R0=some R0)(h1:qa 7 R1=some R1)(hi:i < B7.length)(hl:B7.length<=64)
 (hrowL:Bw 2 (.pv (.bool false)) R0 (ab (ma (oa (Da Fa 7) Ma) (na 7 [0,3,4,30])) ua ⟨Dn i 0,Hk R0 R1 S nl B7 (Eh rs) rs.length [.box (La (List.replicate 256 0))]⟩)):
 Bw 2 (.pv (.bool false)) R0 (Wc (Da Fa 7) [0,3] yb 6 ⟨CC i,Hk R0 R1 S nl B7 (Eh rs) rs.length []⟩):=by
 have hlen:(B7.map Oi).length=B7.length:=by simp
 have e1:decide ((i:Int) < (B7.length:Int))=true:=Ea (by omega);have q5:=bz 7 6 rs;obtain⟨t,g1,g2,g3⟩:=Rt hrowL;simp only[Dn,Hk,Eh,Int.cast_ofNat_Int] at g1;unfold Hk Eh;have hz2:=V3;generalize hz:List.replicate 256 (0:Int)=zs at *
 simp -implicitDefEqProofs only[SP,SA,SQ,sevalprocAttr,-List.reduceReplicate,Wc,ma,yb,hlen,e1,Db,na,Ca,Rn,Ln,Yn,Mu,Qa,Ts,AV.cut,Fc,h0,h1,CC,hz2,q5];rw[g1];simp -implicitDefEqProofs only[SP,SA,SQ,sevalprocAttr,-List.reduceReplicate,vH,g2,g3]
theorem pN(hi:i=B7.length):
 Wc (Da Fa 7) [0,3] yb 6 ⟨CC i,Hk R0 R1 S nl B7 (Eh rs) rs.length []⟩=
  some (.exit 0,⟨(((((((CC i).set 21 (.pv (i64 i))).set 22 (.ptr 3 0)).set 23 (.ptr 3 0)).set 24 (.ptr 3 2)).set 25 (.uq 4 nl 2 (B7.map Oi))).set 26 (.pv (i64 B7.length))).set 27 (.pv (.bool false)),Hk R0 R1 S nl B7 (Eh rs) rs.length []⟩):=by
 have hlen:(B7.map Oi).length=B7.length:=by simp
 have e1:decide ((i:Int) < (B7.length:Int))=false:=Ga (by omega);simp -implicitDefEqProofs only[SP,SA,SQ,sevalprocAttr,-List.reduceReplicate,Wc,ma,yb,hlen,e1,CC,Hk]
theorem pU(n:Nat):qa n (Eh rs)=some (Eh rs):=by
 have:(rs.flatMap La).all (AV.je n deep)=true:=bz n deep rs
 unfold Eh;rw[Mu,if_pos this]
theorem bT(h0:qa 7 R0=some R0)(h1:qa 7 R1=some R1)(g0:qa 6 R0=some R0)(g1:qa 6 R1=some R1)
 (hS:Vh 2 S (ss.map uf)) (hw:ss.length<=32) (L7:∀ s∈ss,∀ l∈s.parts,l.length * 16<=140737488355328) (Ba:On ss B7) (h1s:B7.length<=1):
 (∀ r,qh ss 64 (B7,[])=some r->∃ E nl',ab (ma (oa (Da Fa 7) yb) (na 6 [0,3])) ua ⟨CC 0,Hk R0 R1 S nl B7 (Eh []) 0 []⟩=
  some (.exit 0,⟨E,Hk R0 R1 S nl' r.1 (Eh r.2) r.2.length []⟩)/\On ss r.1/\r.2.length=r.1.length/\∀ r'∈r.2,r'.length=256)/\
 (qh ss 64 (B7,[])=none->Bw 2 (.pv (.bool false)) R0 (ab (ma (oa (Da Fa 7) yb) (na 6 [0,3])) ua ⟨CC 0,Hk R0 R1 S nl B7 (Eh []) 0 []⟩)):=by
 have key:=Yl (g:=Wc (Da Fa 7) [0,3] yb 6)
  (fun i t=>∃ nl' sets' W9,t=⟨CC i,Hk R0 R1 S nl' sets' (Eh W9) W9.length []⟩/\qh ss 64 (B7,[])=qh ss (64 - i) (sets',W9)/\On ss sets'/\W9.length=i/\i<=sets'.length/\∀ r∈W9,r.length=256)
  (fun ex t=>(∃ r,ex= .exit 0/\qh ss 64 (B7,[])=some r/\∃ E nl',t=⟨E,Hk R0 R1 S nl' r.1 (Eh r.2) r.2.length []⟩/\On ss r.1/\r.2.length=r.1.length/\∀ r'∈r.2,r'.length=256)\/
   (ex= .ret/\qh ss 64 (B7,[])=none/\t.env.get 2= .pv (.bool false)/\t.H[0]? =some R0))
  ua 64 0 ⟨CC (0:Nat),Hk R0 R1 S nl B7 (Eh []) 0 []⟩ (by unfold ua;omega) (by omega) ⟨nl,B7,[],rfl,rfl,Ba,rfl,by omega,by simp⟩ ?_ ?_
 ·obtain⟨ex,t,h,_,hq⟩:=key
  have h':ab (ma (oa (Da Fa 7) yb) (na 6 [0,3])) ua ⟨CC 0,Hk R0 R1 S nl B7 (Eh []) 0 []⟩=some (ex,t):=h;rw[h'];rcases hq with⟨r,rfl,R8,E,nl',rfl,q1,q2,q3⟩ | ⟨rfl,R8,hg,hg2⟩
  ·refine⟨fun r2 e=> ?_,fun e=> ?_⟩
   ·rw[R8] at e;injection e with e;subst e;exact⟨E,nl',rfl,q1,q2,q3⟩
   ·rw[R8] at e;cases e
  ·refine⟨fun r2 e=> ?_,fun _=> .mk _ hg hg2⟩
   rw[R8] at e;cases e
 ·rintro i hi t ⟨nl',sets',W9,rfl,hws,T8,hrl,hil,hrr⟩
  by_cases E7:i < sets'.length
  ·obtain⟨a,ha⟩:∃ a,sets'[i]? =some a:=⟨sets'[i],by simp[E7]⟩
   have hsa:=T8.2 i a ha
   have T9:sets'[W9.length]? =some a:=by rw[hrl];exact ha
   have K7:=eX R0 R1 S (Eh W9) W9.length ss h0 h1 (pU W9 7) hS (by unfold maxLen;omega) L7 (nl:=nl') Au ha (by have:=hsa.1;omega) T8.1 (hsa.Ba hw)
   have e64:64 - i=(64 - (i+1))+1:=by omega
   cases hr:Wl ss a (List.range 256) (sets',fb) with
   |none=>
    have Y7:=qY R0 R1 S nl' sets' W9 i h0 h1 E7 T8.1 (K7.2 hr)
    obtain⟨t,k1,k2,k3⟩:=Rt Y7;rw[e64,Xw (r:=(sets',W9)) T9 hr] at hws;exact .inr ⟨.ret,t,k1,rfl,.inr ⟨rfl,hws,k2,k3⟩⟩
   |some p=>
    obtain⟨nl2,k1,k2,k3,k4⟩:=K7.1 p hr
    have hro:=Jw hw _ _ _ T8 ha hr;rw[e64,zw (r:=(sets',W9)) T9 hr] at hws;have hsr:=AT R0 R1 S nl' sets' W9 i h0 h1 g0 g1 E7 T8.1 (by have:=T8.1;omega) hrr nl2 p.1 p.2 k3 k1
    refine .inl ⟨_,hsr,nl2,p.1,W9++[p.2],by simp,hws,hro.1,by simp[hrl],?_,?_⟩
    ·obtain⟨t,ht⟩:=k4
     rw[ht];simp;omega
    ·intro r hr
     rcases Jaa.1 hr with h | h
     ·exact hrr r h
     ·simp at h;subst h;exact k3
  ·have hie:i=sets'.length:=by omega
   rw[Gv (r:=(sets',W9)) (by show sets'[W9.length]? =none;rw[hrl,hie];simp)] at hws;exact .inr ⟨.exit 0,_,pN R0 R1 S nl' sets' W9 i hie,rfl,.inl ⟨(sets',W9),rfl,hws,_,nl',rfl,T8,by show W9.length=sets'.length;omega,hrr⟩⟩
 ·rintro t ⟨nl',sets',W9,rfl,hws,T8,hrl,hil,hrr⟩
  have hie:64=sets'.length:=by have:=T8.1;omega
  rw[Gv (r:=(sets',W9)) (by show sets'[W9.length]? =none;rw[hrl,hie];simp)] at hws;exact⟨.exit 0,_,pN R0 R1 S nl' sets' W9 64 hie,rfl,.inl ⟨(sets',W9),rfl,hws,_,nl',rfl,T8,by show W9.length=sets'.length;omega,hrr⟩⟩
end
abbrev Ri(R0 R1:ba)(S:PV)(nl nr:Bool)(fr:Nat)(B7:List Al)(C:List Int)(n:Nat)(T:List ba):List ba:=
 R0::R1:: .map (FE B7 0):: .box [.pv S,.mp 2,.uq 4 nl 2 (B7.map Oi),.own 5 n]:: .tok 2 B7.length nl:: .seq 256 true (La C) fr nr::T
abbrev Xi(row:List Int):PV:= .agg (row.map i64)
abbrev QB(n:Nat)(row:List Int)(i x:Int):Tr:=
 (((((Tr.lf.set 34 (.pv (i64 x))).set 33 (.pv (Xi row))).set 5 (.pv (i64 i))).set 4 (.mp 7)).set 3 (.own 6 n)).set 0 (.ptr 3 0)
section
variable (call:Sa)(R0 R1:ba)(S:PV)(nl nr nk:Bool)(fr fk:Nat)(B7:List Al)(C:List Int)(n:Nat)(Ac:List Int)(M:ba)(row:List Int)(i x:Nat)(to:Int)
theorem CQ(hx:x < 256)(E8:row[x]? =some to)(h:to < 0):ma (oa call xc) (fun s=>some (tidy [0,3,4,5,33,34] s)) ⟨QB n row i x,Ri R0 R1 S nl nr fr B7 C n [.seq 1 false (La Ac) fk nk,M]⟩=
 some (.norm,⟨QB n row i (x+1:Nat),Ri R0 R1 S nl nr fr B7 C n [.seq 1 false (La Ac) fk nk,M]⟩):=by
 have e1:decide ((x:Int) < 256)=true:=Ea (by omega);have e2:decide (to>=0)=false:=Ga (by omega);have hq:Ia (x:Int) 256:=by unfold Ia;omega
 have t1:((x:Int)).toNat=x:=by simp
 have t2:=Za (i:=x) (n:=256) hx (by unfold maxLen;omega);have ht:(row.map i64)[x]? =some (i64 to):=by rw[Eaa,E8];rfl
 simp -implicitDefEqProofs only[SP,SA,SQ,sevalprocAttr,-List.reduceReplicate,ma,xc,e1,e2,Iaa hq,t1,t2,ht,Km,ta,tidy,Ic,QB,Ri]
theorem mT(hC:C.length=n * 256)(hk:Ac.length=n)(H9:fr<=n * 256)(hfk:fk<=n)(hi:i < n)(hx:x < 256)(E8:row[x]? =some to)(h:0<=to){v:Int}(hv:Ac[to.toNat]? =some v):ma (oa call xc) (fun s=>some (tidy [0,3,4,5,33,34] s)) ⟨QB n row i x,Ri R0 R1 S nl nr fr B7 C n [.seq 1 false (La Ac) fk nk,M]⟩=
 some (.norm,⟨QB n row i (x+1:Nat),Ri R0 R1 S nl nr (n * 256) B7 (C.set (i * 256+x) v) n [.seq 1 false (La Ac) fk nk,M]⟩):=by
 have e1:decide ((x:Int) < 256)=true:=Ea (by omega);have e2:decide (to>=0)=true:=Ea (by omega);have hq:Ia (x:Int) 256:=by unfold Ia;omega
 have t1:((x:Int)).toNat=x:=by simp
 have t3:((i:Int)).toNat=i:=by simp
 have t2:=Za (i:=x) (n:=256) hx (by unfold maxLen;omega);have ht:(row.map i64)[x]? =some (i64 to):=by rw[Eaa,E8];rfl
 have hv':(La Ac)[to.toNat]? =some (.pv (i64 v)):=by rw[La,Eaa,hv];rfl
 have hvl:=(iaa.1 hv).1
 have Y9:Ia to n:=by unfold Ia;omega
 have hq3:Ia (i:Int) n:=by unfold Ia;omega
 have w1:Ui 1 n fk (La Ac).length:=by rw[mb];unfold Ui;omega
 have w2:Ui 256 n fr (La C).length:=by rw[mb];unfold Ui;omega
 have w3:((La Ac).length=n)=True:=by rw[mb];exact Iaa hk
 have w5:(i * 256+x+1<=n * 256)=True:=Iaa (by omega);have w4:((La C).length=n * 256)=True:=by rw[mb];exact Iaa hC
 simp -implicitDefEqProofs only[SP,SA,SQ,sevalprocAttr,-List.reduceReplicate,ma,xc,e1,e2,Iaa hq,Iaa Y9,Iaa hq3,Iaa w1,Iaa w2,w3,w4,w5,t1,t2,t3,ht,hv',Km,ta,Wj,tidy,Ic,QB,Ri]
def ee(Ac row:List Int)(i:Nat):List Nat->List Int->List Int
 | [],C=>C
 |x::xs,C=>ee Ac row i xs (match row[x]? with
  |some to=>if 0<=to then C.set (i * 256+x) (Ac.getD to.toNat 0) else C
  |none=>C)
theorem cn(Ac row:List Int)(i:Nat):∀ (xs:List Nat)(C:List Int),(ee Ac row i xs C).length=C.length
 | [],C=>rfl
 |x::xs,C=>by
  rw[ee,cn Ac row i xs]
  split
  ·split <;> simp
  ·rfl
theorem RN(hC:C.length=n * 256)(hk:Ac.length=n)(H9:fr=0\/fr=n * 256)(hfk:fk<=n)(hi:i < n)(K7:row.length=256)(E8:∀ to∈row,to < n):
 ∃ fr',(fr'=0\/fr'=n * 256)/\ab (ma (oa call xc) (fun s=>some (tidy [0,3,4,5,33,34] s))) ua ⟨QB n row i 0,Ri R0 R1 S nl nr fr B7 C n [.seq 1 false (La Ac) fk nk,M]⟩=
  some (.exit 2,⟨(QB n row i 256).set 35 (.pv (.bool false)),Ri R0 R1 S nl nr fr' B7 (ee Ac row i (List.range 256) C) n [.seq 1 false (La Ac) fk nk,M]⟩):=by
 generalize N9:List.range 256=xs
 have key:=Yl (g:=ma (oa call xc) (fun s=>some (tidy [0,3,4,5,33,34] s)))
  (fun x t=>∃ fr' C',(fr'=0\/fr'=n * 256)/\C'.length=n * 256/\t=⟨QB n row i x,Ri R0 R1 S nl nr fr' B7 C' n [.seq 1 false (La Ac) fk nk,M]⟩/\ee Ac row i xs C=ee Ac row i (xs.drop x) C')
  (fun ex t=>∃ fr',(fr'=0\/fr'=n * 256)/\ex= .exit 2/\t=⟨(QB n row i 256).set 35 (.pv (.bool false)),Ri R0 R1 S nl nr fr' B7 (ee Ac row i xs C) n [.seq 1 false (La Ac) fk nk,M]⟩)
  ua 256 0 ⟨QB n row i (0:Nat),Ri R0 R1 S nl nr fr B7 C n [.seq 1 false (La Ac) fk nk,M]⟩ (by unfold ua;omega) (by omega) ⟨fr,C,H9,hC,rfl,rfl⟩ ?_ ?_
 ·obtain⟨ex,t,h,_,fr',q1,rfl,rfl⟩:=key
  exact⟨fr',q1,h⟩
 ·rintro x hx t ⟨fr',C',hf',hC',rfl,hl⟩
  have hd:=Ns hx;rw[N9] at hd;rw[hd] at hl;obtain⟨to,ht⟩:∃ to,row[x]? =some to:=⟨row[x],by simp[K7,hx]⟩;have E7:=E8 to (nab ht)
  by_cases h0:0<=to
  ·obtain⟨v,hv⟩:∃ v,Ac[to.toNat]? =some v:=⟨Ac[to.toNat]'(by omega),by rw[aaa]⟩
   refine .inl ⟨_,mT call R0 R1 S nl nr nk fr' fk B7 C' n Ac M row i x to hC' hk (by omega) hfk hi hx ht h0 hv,n * 256,_,.inr rfl,by simpa using hC',rfl,?_⟩
   rw[hl,ee,ht];have:Ac.getD to.toNat 0=v:=by simp[hv]
   simp only[if_pos h0,this]
  ·refine .inl ⟨_,CQ call R0 R1 S nl nr nk fr' fk B7 C' n Ac M row i x to hx ht (by omega),fr',C',hf',hC',rfl,?_⟩
   rw[hl,ee,ht];simp only[kaa h0]
 ·rintro t ⟨fr',C',hf',hC',rfl,hl⟩
  rw[Yab (by rw[<- N9,eac];exact paa _)] at hl;refine⟨.exit 2,_,?_,rfl,fr',hf',rfl,rfl⟩;rw[hl];have e1:decide (((256:Nat):Int) < 256)=false:=by decide
  simp -implicitDefEqProofs only[SP,SA,SQ,sevalprocAttr,-List.reduceReplicate,ma,xc,e1,QB,Ri,ee]
end
theorem LC:∀ (a b:List Int),a.length=b.length->gj (List.replicate a.length 1) (a.map i64) (b.map i64)=some (decide (a=b))
 | [],[],_=>rfl
 |x::a,y::b,h=>by
  have ih:=LC a b (by simpa using h);simp only[Oaa,List.replicate_succ,lab,gj,Rr,if_true,yaa,ih,Haa,tae,Bool.decide_and]
  congr 2
 | [],_::_,h=>by cases h
 |_::_,[],h=>by cases h
def Tu(M:List (List Int×Int)):List (PV×PV):=M.map fun p=>(Xi p.1,i64 p.2)
theorem yV(M:List (List Int×Int))(p:List Int×Int):Tu (M++[p])=Tu M++[(Xi p.1,i64 p.2)]:=by simp[Tu]
def Ll(a:List Int):List (List Int×Int)->Option Int
 | []=>none
 |p::r=>if a=p.1 then some p.2 else Ll a r
theorem jO{a:List Int}(ha:a.length=256):∀ (M:List (List Int×Int))(j:Nat),(∀ p∈M,p.1.length=256)->
 (∀ v,Ll a M=some v->∃ k,yn (.row (List.replicate 256 1)) (Xi a) (Tu M) j=some (some (k,i64 v)))/\(Ll a M=none->yn (.row (List.replicate 256 1)) (Xi a) (Tu M) j=some none)
 | [],j,_=>⟨fun v h=>(by cases h),fun _=>rfl⟩
 |p::r,j,hp=>by
  have he:=LC a p.1 (by rw[ha,hp p (by simp)])
  rw[ha] at he;have ih:=jO ha r (j+1) (fun q hq=>hp q (by simp[hq]));have hk:Nl (.row (List.replicate 256 1)) (Xi a) (Xi p.1)=some (decide (a=p.1)):=he;rw[show Tu (p::r)=(Xi p.1,i64 p.2)::Tu r from rfl,yn,hk,yaa,Ll]
  by_cases h:a=p.1
  ·rw[if_pos h,decide_eq_true h]
   exact⟨fun v e=>(by injection e with e;subst e;exact⟨j,rfl⟩),fun e=>(by cases e)⟩
  ·rw[kaa h,decide_eq_false h]
   exact ih
theorem mP{a:List Int}(ha:a.length=256):(Nl (.row (List.replicate 256 1)) (Xi a) (Xi a)).isSome=true:=by
 have he:=LC a a rfl;rw[ha] at he;show (gj _ _ _).isSome=true
 rw[he];rfl
def Va(C:List Int)(i:Nat):List Int:=(C.drop (i * 256)).take 256
theorem Ei{C:List Int}{n i:Nat}(hC:C.length=n * 256)(hi:i < n):(Va C i).length=256:=by
 unfold Va;rw[zab,Fab,hC];omega
theorem fF(C:List Int)(i:Nat):Tc (List.take 256 (List.drop (i * 256) (La C)))=some ((Va C i).map i64):=by
 have:List.take 256 (List.drop (i * 256) (La C))=La (Va C i):=by unfold Va La;rw[List.map_take,List.map_drop]
 rw[this,Ju]
structure CO where
 C:List Int
 Ac:List Int
 M:List (List Int×Int)
def jm(i:Nat)(s:CO):CO:=
 let C:=ee s.Ac (Va s.C i) i (List.range 256) s.C
 match Ll (Va C i) s.M with
 |some v=>⟨C,s.Ac.set i v,s.M⟩
 |none=>⟨C,s.Ac.set i i,s.M++[(Va C i,(i:Int))]⟩
def zk:Nat->CO->CO
 |0,s=>s
 |i+1,s=>zk i (jm i s)
theorem Wt{i:Nat}{s:CO}{v:Int}(h:Ll (Va (ee s.Ac (Va s.C i) i (List.range 256) s.C) i) s.M=some v):jm i s=⟨ee s.Ac (Va s.C i) i (List.range 256) s.C,s.Ac.set i v,s.M⟩:=by
 simp only[jm,h]
theorem iu{i:Nat}{s:CO}(h:Ll (Va (ee s.Ac (Va s.C i) i (List.range 256) s.C) i) s.M=none):
 jm i s=⟨ee s.Ac (Va s.C i) i (List.range 256) s.C,s.Ac.set i i,s.M++[(Va (ee s.Ac (Va s.C i) i (List.range 256) s.C) i,(i:Int))]⟩:=by
 simp only[jm,h]
abbrev NC(n:Nat)(i:Int):Tr:=(((Tr.lf.set 5 (.pv (i64 i))).set 4 (.mp 7)).set 3 (.own 6 n)).set 0 (.ptr 3 0)
section
variable (call:Sa)(R0 R1:ba)(S:PV)(nl nr nk:Bool)(fr fk:Nat)(B7:List Al)(n:Nat)(s:CO)(i:Nat)
theorem lN(hC:s.C.length=n * 256)(hk:s.Ac.length=n)(H9:fr=0\/fr=n * 256)(hfk:fk<=n)(hi:i < n)(hn:n<=64)(E8:∀ to∈Va s.C i,to < n)(hM:∀ p∈s.M,p.1.length=256):
 ∃ fr',(fr'=0\/fr'=n * 256)/\ma (oa call Zd) (fun s=>some (tidy [0,3,4,5] s)) ⟨NC n i,Ri R0 R1 S nl nr fr B7 s.C n [.seq 1 false (La s.Ac) fk nk,.map (Tu s.M)]⟩=
  some (.norm,⟨NC n ((i:Int) - 1),Ri R0 R1 S nl nr fr' B7 (jm i s).C n [.seq 1 false (La (jm i s).Ac) n nk,.map (Tu (jm i s).M)]⟩):=by
 obtain⟨fr',hf',b9⟩:=RN call R0 R1 S nl nr nk fr fk B7 s.C n s.Ac (.map (Tu s.M)) (Va s.C i) i hC hk H9 hfk hi (Ei hC hi) E8
 refine⟨fr',hf',?_⟩;have hC2:(ee s.Ac (Va s.C i) i (List.range 256) s.C).length=n * 256:=by rw[cn,hC]
 have hrl:=Ei hC2 hi;have hfd:=jO hrl s.M 0 hM
 have his:=mP hrl;have p1:=fF s.C i
 have p2:=fF (ee s.Ac (Va s.C i) i (List.range 256) s.C) i;have e1:decide ((i:Int)>=0)=true:=Ea (by omega);have hq3:Ia (i:Int) n:=by unfold Ia;omega
 have t3:((i:Int)).toNat=i:=by simp
 have t2:IntKind.i64.wrap ((i:Int) - 1)=(i:Int) - 1:=Aa (by omega)
 have w2:Ui 256 n fr (La s.C).length:=by rw[mb];unfold Ui;omega
 have w4:((La s.C).length=n * 256)=True:=by rw[mb];exact Iaa hC
 have w6:(i * 256+256<=(La s.C).length)=True:=by rw[mb];exact Iaa (by omega)
 have hl1:=@Wt i s;have S9:=@iu i s;generalize ee s.Ac (Va s.C i) i (List.range 256) s.C=C2 at *
 have w12:Ui 256 n fr' (La C2).length:=by rw[mb];unfold Ui;omega
 have w14:((La C2).length=n * 256)=True:=by rw[mb];exact Iaa hC2
 have w16:(i * 256+256<=(La C2).length)=True:=by rw[mb];exact Iaa (by omega)
 have w1:Ui 1 n fk (La s.Ac).length:=by rw[mb];unfold Ui;omega
 have w3:((La s.Ac).length=n)=True:=by rw[mb];exact Iaa hk
 have w5:(i+1<=n)=True:=Iaa (by omega);generalize hz:List.replicate 256 1=ks at *
 have yad:ab (ma (oa call xc) (fun s=>some (tidy [0,3,4,5,33,34] s))) ua ⟨QB n (Va s.C i) i 0,Ri R0 R1 S nl nr fr B7 s.C n [.seq 1 false (La s.Ac) fk nk,.map (Tu s.M)]⟩=_:=b9;simp only[QB,Ri,tidy,Ic] at yad;cases hlk:Ll (Va C2 i) s.M with
 |some v=>
  obtain⟨k,H8⟩:=hfd.1 v hlk
  rw[hl1 hlk];simp -implicitDefEqProofs only[SP,SA,SQ,sevalprocAttr,-List.reduceReplicate,ma,Zd,e1,Iaa hq3,t2,t3,Iaa w2,w4,w6,p1,ta,Er,tidy,Ic,NC,Ri,hz];rw[yad];simp -implicitDefEqProofs only[SP,SA,SQ,sevalprocAttr,-List.reduceReplicate,Iaa hq3,t2,t3,Iaa w12,w14,w16,Iaa w1,w3,w5,p2,ta,Iaa his,H8,Wj,tidy,Ic,NC,Ri]
 |none=>
  have H8:=hfd.2 hlk
  rw[S9 hlk];simp -implicitDefEqProofs only[SP,SA,SQ,sevalprocAttr,-List.reduceReplicate,ma,Zd,e1,Iaa hq3,t2,t3,Iaa w2,w4,w6,p1,ta,Er,tidy,Ic,NC,Ri,hz];rw[yad];simp -implicitDefEqProofs only[SP,SA,SQ,sevalprocAttr,-List.reduceReplicate,Iaa hq3,t2,t3,Iaa w12,w14,w16,Iaa w1,w3,w5,p2,ta,Iaa his,H8,Wj,tidy,Ic,NC,Ri,yV]
end
structure u3(n:Nat)(s:CO):Prop where
 hC:s.C.length=n * 256
 hk:s.Ac.length=n
 cC:∀ c∈s.C,c < n
 ck:∀ c∈s.Ac,c < n
 cM:∀ p∈s.M,p.1.length=256/\p.2 < n
theorem bG{Ac row:List Int}{i:Nat}{n:Int}(hn:0 < n)(hk:∀ c∈Ac,c < n):∀ (xs:List Nat)(C:List Int),(∀ c∈C,c < n)->∀ c∈ee Ac row i xs C,c < n
 | [],C,h=>h
 |x::xs,C,h=>by
  rw[ee];refine bG hn hk xs _ ?_
  split
  ·split
   ·intro c hc
    rcases Aab hc with h1 | h1
    ·exact h c h1
    ·subst h1
     next to _ _=>
     rcases Qaa to.toNat Ac.length with h2 | h2
     ·rw[taa,aaa h2];exact hk _ (jaa h2)
     ·rw[taa,Raa h2];exact hn
   ·exact h
  ·exact h
theorem Eu{a:List Int}:∀ {M:List (List Int×Int)}{v:Int},Ll a M=some v->∃ p∈M,p.1=a/\p.2=v
 |p::r,v,h=>by
  rw[Ll] at h
  split at h
  ·next h1=>injection h with h;exact⟨p,by simp,h1.symm,h⟩
  ·obtain⟨q,hq,e⟩:=Eu h
   exact⟨q,by simp[hq],e⟩
theorem iE{n i:Nat}{s:CO}(hi:i < n)(h:u3 n s):u3 n (jm i s):=by
 have hC2:(ee s.Ac (Va s.C i) i (List.range 256) s.C).length=n * 256:=by rw[cn,h.hC]
 have E7:=bG (i:=i) (row:=Va s.C i) (n:=(n:Int)) (by omega) h.ck (List.range 256) s.C h.cC
 have hl1:=@Wt i s;have S9:=@iu i s;generalize ee s.Ac (Va s.C i) i (List.range 256) s.C=C2 at *
 cases hl:Ll (Va C2 i) s.M with
 |some v=>
  obtain⟨p,hp,_,hv⟩:=Eu hl;have:=(h.cM p hp).2
  rw[hl1 hl];refine⟨hC2,by simp[h.hk],E7,?_,h.cM⟩;intro c hc;rcases Aab hc with h1 | h1
  ·exact h.ck c h1
  ·omega
 |none=>
  rw[S9 hl];refine⟨hC2,by simp[h.hk],E7,?_,?_⟩
  ·intro c hc
   rcases Aab hc with h1 | h1
   ·exact h.ck c h1
   ·omega
  ·intro p hp
   rcases Jaa.1 hp with h1 | h1
   ·exact h.cM p h1
   ·simp at h1;subst h1;exact⟨Ei hC2 hi,by simp;omega⟩
theorem EF{n:Nat}:∀ (k:Nat)(s:CO),k<=n->u3 n s->u3 n (zk k s)
 |0,s,_,h=>h
 |k+1,s,hk,h=>EF k _ (by omega) (iE (by omega) h)
def ff(n:Nat)(C:List Int):CO:=zk n ⟨C,List.replicate n 0,[]⟩
section
variable (call:Sa)(R0 R1:ba)(S:PV)(nl nr nk:Bool)(B7:List Al)(C:List Int)(n:Nat)
theorem OP(s0:CO)(hn:n<=64)(h0:0 < n)(Ba:u3 n s0):
 ∃ fr fk,(fr=0\/fr=n * 256)/\ab (ma (oa call Zd) (fun s=>some (tidy [0,3,4,5] s))) ua ⟨NC n ((n:Int) - 1),Ri R0 R1 S nl nr 0 B7 s0.C n [.seq 1 false (La s0.Ac) 0 nk,.map (Tu s0.M)]⟩=
  some (.exit 0,⟨((NC n (-1)).set 23 (.pv (i64 (-1)))).set 24 (.pv (.bool false)),Ri R0 R1 S nl nr fr B7 (zk n s0).C n [.seq 1 false (La (zk n s0).Ac) fk nk,.map (Tu (zk n s0).M)]⟩)/\fk<=n:=by
 have key:=Yl (g:=ma (oa call Zd) (fun s=>some (tidy [0,3,4,5] s)))
  (fun j t=>∃ fr fk s,(fr=0\/fr=n * 256)/\fk<=n/\u3 n s/\t=⟨NC n ((n:Int) - 1 - j),Ri R0 R1 S nl nr fr B7 s.C n [.seq 1 false (La s.Ac) fk nk,.map (Tu s.M)]⟩/\zk n s0=zk (n - j) s)
  (fun ex t=>∃ fr fk,(fr=0\/fr=n * 256)/\fk<=n/\ex= .exit 0/\t=⟨((NC n (-1)).set 23 (.pv (i64 (-1)))).set 24 (.pv (.bool false)),Ri R0 R1 S nl nr fr B7 (zk n s0).C n [.seq 1 false (La (zk n s0).Ac) fk nk,.map (Tu (zk n s0).M)]⟩)
  ua n 0 ⟨NC n ((n:Int) - 1 - (0:Nat)),Ri R0 R1 S nl nr 0 B7 s0.C n [.seq 1 false (La s0.Ac) 0 nk,.map (Tu s0.M)]⟩ (by unfold ua;omega) (by omega) ⟨0,0,s0,.inl rfl,by omega,Ba,rfl,rfl⟩ ?_ ?_
 ·obtain⟨ex,t,h,_,fr,fk,q1,q2,rfl,rfl⟩:=key
  rw[show ((n:Int) - 1 - (0:Nat))=(n:Int) - 1 by omega] at h;exact⟨fr,fk,q1,h,q2⟩
 ·rintro j hj t ⟨fr,fk,s,hf,hfk,hs,rfl,hl⟩
  obtain⟨i,hi⟩:∃ i,n - j=i+1:=⟨n - j - 1,by omega⟩;rw[hi,zk] at hl;obtain⟨fr',hf',hr⟩:=lN call R0 R1 S nl nr nk fr fk B7 n s i hs.hC hs.hk hf hfk (by omega) hn
   (fun to h=>hs.cC to (Vab (uac h))) (fun p hp=>(hs.cM p hp).1)
  rw[show ((n:Int) - 1 - (j:Int))=(i:Int) by omega];refine .inl ⟨_,hr,fr',n,jm i s,hf',by omega,iE (by omega) hs,?_,?_⟩
  ·rw[show ((n:Int) - 1 - ((j+1:Nat):Int))=(i:Int) - 1 by omega]
  ·rw[hl,show n - (j+1)=i by omega]
 ·rintro t ⟨fr,fk,s,hf,hfk,hs,rfl,hl⟩
  rw[ead,zk] at hl;rw[show ((n:Int) - 1 - (n:Int))= -1 by omega];refine⟨.exit 0,_,?_,rfl,fr,fk,hf,hfk,rfl,rfl⟩;rw[hl];have e1:decide ((-1:Int)>=0)=false:=by decide
  simp -implicitDefEqProofs only[SP,SA,SQ,sevalprocAttr,-List.reduceReplicate,ma,Zd,e1,NC,Ri]
theorem aK(n:Nat):Ql [PV.int .i64 0] n=La (List.replicate n 0):=by
 induction n with
 |zero=>rfl
 |succ n ih=>rw[Ql,ih];rfl
theorem eU(hn:n<=64)(h0:0 < n)(hs:B7.length=n)(hC:C.length=n * 256)(cC:∀ c∈C,c < n):
 ∃ fr fk v,(fr=0\/fr=n * 256)/\ef call xj [.ptr 3 0] (Ri R0 R1 S nl nr 0 B7 C n [])=
  some (v,Ri R0 R1 S nl nr fr B7 (ff n C).C n [.seq 1 false (La (ff n C).Ac) fk false,.map (Tu (ff n C).M)]):=by
 obtain⟨fr,fk,hf,hl,hfk⟩:=OP call R0 R1 S nl nr false B7 n ⟨C,List.replicate n 0,[]⟩ hn h0
  ⟨hC,by simp,cC,by intro c hc;rw[Ead hc];omega,by simp⟩
 refine⟨fr,fk,.own 6 n,hf,?_⟩;have hlen:(B7.map Oi).length=n:=by rw[haa,hs]
 have r0:Ql [PV.int .i64 0] n=La (List.replicate n 0):=aK n;have t1:((n:Int)).toNat=n:=by simp
 have t2:IntKind.i64.wrap ((n:Int) - 1)=(n:Int) - 1:=Aa (by omega)
 have e1:(0<=(n:Int))=True:=by simp
 have e2:eb n 8:=by unfold eb;omega
 have e3:((n:Int)<=(n:Int))=True:=by simp
 unfold ff;generalize zk n ⟨C,List.replicate n 0,[]⟩=g at *;generalize List.replicate n (0:Int)=zs at *
 simp only[tidy,Ic,NC,Ri,Tu,Oad] at hl;simp -implicitDefEqProofs only[SP,SA,SQ,sevalprocAttr,-List.reduceReplicate,xj,hlen,r0,t1,t2,e1,Iaa e2,e3,Er,tidy,Ic,Ri];rw[hl];simp -implicitDefEqProofs only[SP,SA,SQ,sevalprocAttr,-List.reduceReplicate,Ri,Tu]
end
structure ae where
 lo:Int
 hi:Int
 to:Int
deriving DecidableEq
def TH(e:ae):PV:= .agg [i64 e.lo,i64 e.hi,i64 e.to]
def yd(l:List ae):List Int:=l.flatMap fun e=>[e.lo,e.hi,e.to]
theorem Sk(l:List ae):(yd l).length=l.length * 3:=by
 induction l with
 |nil=>rfl
 |cons e l ih=>simp only[yd,Yac,raa,Oaa,pab] at ih ⊢;omega
theorem Xm(l:List ae)(e:ae):yd (l++[e])=yd l++[e.lo,e.hi,e.to]:=by simp[yd]
def ng(x to:Int)(l:List ae):List ae:=
 if to= -2 then l else match l.getLast? with
  |some e=>if e.to=to/\e.hi=x - 1 then l.dropLast++[⟨e.lo,x,e.to⟩] else l++[⟨x,x,to⟩]
  |none=>l++[⟨x,x,to⟩]
theorem B2(a b c:Int):La [a,b,c]=[.pv (i64 a),.pv (i64 b),.pv (i64 c)]:=rfl
theorem IG(a b:List Int):La (a++b)=La a++La b:=by simp[La]
abbrev gv(row:List Int)(n:Nat)(x:Int):Tr:=((Tr.lf.set 8 (.pv (i64 x))).set 7 (.pv (Xi row))).set 3 (.own 0 n)
theorem LH(l:List Int)(e:ae)(k:Nat)(hk:k < 3):(La (l++[e.lo,e.hi,e.to]))[l.length+k]? =some (.pv (i64 (if k=0 then e.lo else if k=1 then e.hi else e.to))):=by
 rw[La,Eaa,Kaa (by omega),Hac]
 match k,hk with
 |0,_=>rfl
 |1,_=>rfl
 |2,_=>rfl
section
variable (call:Sa)(row:List Int)(x:Nat)(to:Int)(fl:Nat)
 (hx:x < 256) (E8:row[x]? =some to)
include hx E8
theorem dT(l:List ae)(nl:Bool)(h:to= -2):ma (oa call od) (fun s=>some (tidy [3,7,8] s)) ⟨gv row l.length x,[.seq 3 true (La (yd l)) fl nl]⟩=
 some (.norm,⟨gv row l.length (x+1:Nat),[.seq 3 true (La (yd l)) fl nl]⟩):=by
 have e1:decide ((x:Int) < 256)=true:=Ea (by omega);have e2:(to== -2)=true:=by simp[h]
 have hq:Ia (x:Int) 256:=by unfold Ia;omega
 have t1:((x:Int)).toNat=x:=by simp
 have t2:=Za (i:=x) (n:=256) hx (by unfold maxLen;omega);have ht:(row.map i64)[x]? =some (i64 to):=by rw[Eaa,E8];rfl
 simp -implicitDefEqProofs only[SP,SA,SQ,sevalprocAttr,ma,od,e1,e2,Iaa hq,t1,t2,ht,ta,tidy,Ic,gv]
theorem PO(nl:Bool)(h:to≠ -2):ma (oa call od) (fun s=>some (tidy [3,7,8] s)) ⟨gv row 0 x,[.seq 3 true [] 0 nl]⟩=
 some (.norm,⟨gv row 1 (x+1:Nat),[.seq 3 true (La [(x:Int),x,to]) 0 false]⟩):=by
 have e1:decide ((x:Int) < 256)=true:=Ea (by omega);have e2:(to== -2)=false:=lj h;have hq:Ia (x:Int) 256:=by unfold Ia;omega
 have t1:((x:Int)).toNat=x:=by simp
 have t2:=Za (i:=x) (n:=256) hx (by unfold maxLen;omega);have ht:(row.map i64)[x]? =some (i64 to):=by rw[Eaa,E8];rfl
 have q1:eb 1 24:=by unfold eb;omega
 simp -implicitDefEqProofs only[SP,SA,SQ,sevalprocAttr,ma,od,e1,e2,Iaa hq,t1,t2,ht,Iaa q1,ta,tidy,Ic,gv,wk,jj,AV.VE,AV.Lq,La]
variable (l:List ae)(e:ae)(hl:l.length < 256)(w8:fl<=(l.length+1) * 3)
include hl w8
theorem nT(h:to≠ -2)(h1:e.to=to)(h2:e.hi=(x:Int) - 1):ma (oa call od) (fun s=>some (tidy [3,7,8] s)) ⟨gv row (l.length+1) x,[.seq 3 true (La (yd l++[e.lo,e.hi,e.to])) fl false]⟩=
 some (.norm,⟨gv row (l.length+1) (x+1:Nat),[.seq 3 true (La (yd l++[e.lo,(x:Int),e.to])) ((l.length+1) * 3) false]⟩):=by
 have e1:decide ((x:Int) < 256)=true:=Ea (by omega);have e2:(to== -2)=false:=lj h;have hq:Ia (x:Int) 256:=by unfold Ia;omega
 have t1:((x:Int)).toNat=x:=by simp
 have t2:=Za (i:=x) (n:=256) hx (by unfold maxLen;omega);have ht:(row.map i64)[x]? =some (i64 to):=by rw[Eaa,E8];rfl
 have e3:decide (((l.length+1:Nat):Int) > 0)=true:=Ea (by omega);have t3:IntKind.i64.wrap (((l.length+1:Nat):Int) - 1)=(l.length:Int):=by rw[Aa (by omega)];omega
 have t4:((l.length:Int)).toNat=l.length:=by simp
 have t5:IntKind.i64.wrap ((x:Int) - 1)=(x:Int) - 1:=Aa (by omega)
 have Y9:Ia (l.length:Int) (l.length+1):=by unfold Ia;omega
 have hlen:(La (yd l++[e.lo,e.hi,e.to])).length=(l.length+1) * 3:=by rw[mb,raa,Sk];simp;omega
 have w1:Ui 3 (l.length+1) fl (La (yd l++[e.lo,e.hi,e.to])).length:=by rw[hlen];unfold Ui;omega
 have w2:((La (yd l++[e.lo,e.hi,e.to])).length=(l.length+1) * 3)=True:=Iaa hlen;have g2:=LH (yd l) e 2 (by omega);have g1:=LH (yd l) e 1 (by omega);rw[Sk] at g1 g2;simp only[h1,h2] at g1 g2;have b1:(to==to)=true:=by simp
 have b2:((x:Int) - 1==(x:Int) - 1)=true:=by simp
 have w3:(l.length * 3+1+1<=(l.length+1) * 3)=True:=Iaa (by omega);have J8:(La (yd l++[e.lo,(x:Int) - 1,to])).set (l.length * 3+1) (.pv (i64 x))=La (yd l++[e.lo,(x:Int),to]):=by rw[Wj,<-Sk,Jab _ _ (by omega),Hac];rfl
 rw[h1,h2] at *;generalize yd l++[e.lo,(x:Int) - 1,to]=cs at *;simp -implicitDefEqProofs only[SP,SA,SQ,sevalprocAttr,ma,od,e1,e2,e3,Iaa hq,Iaa Y9,t1,t2,t3,t4,t5,ht,g1,g2,Iaa w1,w2,w3,b1,b2,J8,ta,tidy,Ic,gv]
theorem oU(h:to≠ -2)(h1:¬(e.to=to/\e.hi=(x:Int) - 1)):ma (oa call od) (fun s=>some (tidy [3,7,8] s)) ⟨gv row (l.length+1) x,[.seq 3 true (La (yd l++[e.lo,e.hi,e.to])) fl false]⟩=
 some (.norm,⟨gv row (l.length+1+1) (x+1:Nat),[.seq 3 true (La (yd l++[e.lo,e.hi,e.to])++La [(x:Int),x,to]) fl false]⟩):=by
 have e1:decide ((x:Int) < 256)=true:=Ea (by omega);have e2:(to== -2)=false:=lj h;have hq:Ia (x:Int) 256:=by unfold Ia;omega
 have t1:((x:Int)).toNat=x:=by simp
 have t2:=Za (i:=x) (n:=256) hx (by unfold maxLen;omega);have ht:(row.map i64)[x]? =some (i64 to):=by rw[Eaa,E8];rfl
 have e3:decide (((l.length+1:Nat):Int) > 0)=true:=Ea (by omega);have t3:IntKind.i64.wrap (((l.length+1:Nat):Int) - 1)=(l.length:Int):=by rw[Aa (by omega)];omega
 have t4:((l.length:Int)).toNat=l.length:=by simp
 have t5:IntKind.i64.wrap ((x:Int) - 1)=(x:Int) - 1:=Aa (by omega)
 have Y9:Ia (l.length:Int) (l.length+1):=by unfold Ia;omega
 have hlen:(La (yd l++[e.lo,e.hi,e.to])).length=(l.length+1) * 3:=by rw[mb,raa,Sk];simp;omega
 have w1:Ui 3 (l.length+1) fl (La (yd l++[e.lo,e.hi,e.to])).length:=by rw[hlen];unfold Ui;omega
 have w2:((La (yd l++[e.lo,e.hi,e.to])).length=(l.length+1) * 3)=True:=Iaa hlen;have w2':((l.length+1) * 3=(La (yd l++[e.lo,e.hi,e.to])).length)=True:=Iaa hlen.symm
 have g2:(La (yd l++[e.lo,e.hi,e.to]))[(yd l).length+2]? =some (.pv (i64 e.to)):=LH (yd l) e 2 (by omega);have g1:(La (yd l++[e.lo,e.hi,e.to]))[(yd l).length+1]? =some (.pv (i64 e.hi)):=LH (yd l) e 1 (by omega);rw[Sk] at g1 g2;have q1:eb (l.length+1+1) 24:=by unfold eb;omega
 generalize yd l++[e.lo,e.hi,e.to]=cs at *
 by_cases L8:e.to=to
 ·have b1:(e.to==to)=true:=by simp[L8]
  have b2:(e.hi==(x:Int) - 1)=false:=lj fun hh=>h1 ⟨L8,hh⟩;simp -implicitDefEqProofs only[SP,SA,SQ,sevalprocAttr,ma,od,e1,e2,e3,Iaa hq,Iaa Y9,t1,t2,t3,t4,t5,ht,g1,g2,Iaa w1,w2,w2',Iaa q1,b1,b2,ta,tidy,Ic,gv,wk,jj,AV.VE,AV.Lq,B2]
 ·have b1:(e.to==to)=false:=lj L8
  simp -implicitDefEqProofs only[SP,SA,SQ,sevalprocAttr,ma,od,e1,e2,e3,Iaa hq,Iaa Y9,t1,t2,t3,t4,t5,ht,g1,g2,Iaa w1,w2,w2',Iaa q1,b1,ta,tidy,Ic,gv,wk,jj,AV.VE,AV.Lq,B2]
end
def Qe(row:List Int):List Nat->List ae->List ae
 | [],l=>l
 |x::xs,l=>Qe row xs (ng x (row.getD x 0) l)
def wg(row:List Int):List ae:=Qe row (List.range 256) []
def Ee(l:List ae):PV:=if l.isEmpty then .ga else .lit 3 (l.map TH)
theorem HA(x:Int)(l:List ae):ng x (-2) l=l:=by simp[ng]
theorem az{x to:Int}(h:to≠ -2):ng x to []=[⟨x,x,to⟩]:=by simp[ng,h]
theorem VA{x:Int}{l:List ae}{e:ae}(h:e.to≠ -2)(h2:e.hi=x - 1):ng x e.to (l++[e])=l++[⟨e.lo,x,e.to⟩]:=by simp[ng,h,h2]
theorem Dw{x to:Int}{l:List ae}{e:ae}(h:to≠ -2)(h2:¬(e.to=to/\e.hi=x - 1)):ng x to (l++[e])=l++[e]++[⟨x,x,to⟩]:=by
 simp only[ng,kaa h,List.getLast?_append,List.getLast?_singleton,Option.some_or,kaa h2]
theorem LJ(H:List ba)(d:Nat)(l:List Int):Ra (Sb H d) (La l)=some (l.map i64):=by
 induction l with
 |nil=>rfl
 |cons a l ih=>simp only[La,lab,Ra,Mg,yaa] at ih ⊢;rw[ih];rfl
theorem dP:∀ (l:List ae),chunk 3 true l.length ((yd l).map i64)=l.map TH
 | []=>rfl
 |e::l=>by have:=dP l;rw[Oaa,chunk];simp only[yd,Yac,bab,Yaa,lab,List.take,List.drop,if_true] at this ⊢;rw[this];rfl
theorem JP(H:List ba)(id:Nat)(l:List ae)(fl:Nat)(h:H[id]? =some (.seq 3 true (La (yd l)) fl l.isEmpty)):Sb H deep (.own id l.length)=some (Ee l):=by
 have hl:(l.length * 3=(La (yd l)).length)=True:=by rw[mb,Sk];exact eq_self _
 rw[Fc];simp only[Sb,h,hl,Bool.true_or,and_self,if_true];unfold Ee;cases hn:l.isEmpty with
 |true=>rfl
 |false=>simp only[saa,if_false,LJ,Haa,dP]
section
variable (row:List Int)(K7:row.length=256)
include K7
theorem IP(call:Sa):∃ fl,ab (ma (oa call od) (fun s=>some (tidy [3,7,8] s))) ua ⟨gv row 0 0,[.seq 3 true [] 0 true]⟩=
 some (.exit 0,⟨(gv row (wg row).length 256).set 9 (.pv (.bool false)),[.seq 3 true (La (yd (wg row))) fl (wg row).isEmpty]⟩):=by
 unfold wg;generalize N9:List.range 256=xs
 have key:=Yl (g:=ma (oa call od) (fun s=>some (tidy [3,7,8] s)))
  (fun x t=>∃ fl l,fl<=l.length * 3/\l.length<=x/\t=⟨gv row l.length x,[.seq 3 true (La (yd l)) fl l.isEmpty]⟩/\Qe row xs []=Qe row (xs.drop x) l)
  (fun ex t=>∃ fl,ex= .exit 0/\t=⟨(gv row (Qe row xs []).length 256).set 9 (.pv (.bool false)),[.seq 3 true (La (yd (Qe row xs []))) fl (Qe row xs []).isEmpty]⟩)
  ua 256 0 ⟨gv row 0 (0:Nat),[.seq 3 true [] 0 true]⟩ (by unfold ua;omega) (by omega) ⟨0,[],by simp,by simp,rfl,rfl⟩ ?_ ?_
 ·obtain⟨ex,t,h,_,fl,rfl,rfl⟩:=key
  exact⟨fl,h⟩
 ·rintro x hx t ⟨fl,l,hf,hlx,rfl,hl⟩
  have hd:=Ns hx;rw[N9] at hd;obtain⟨to,ht⟩:∃ to,row[x]? =some to:=⟨row[x],by simp[K7,hx]⟩;have hgd:row.getD x 0=to:=by simp[taa,ht]
  rw[hd,Qe,hgd] at hl
  by_cases h2:to= -2
  ·rw[h2,HA] at hl
   exact .inl ⟨_,dT call row x to fl hx ht l _ h2,fl,l,hf,by omega,rfl,hl⟩
  rcases Uad l with rfl | ⟨l',e,rfl⟩
  ·rw[az h2] at hl
   have hf0:fl=0:=by simpa using hf
   subst hf0;exact .inl ⟨_,PO call row x to hx ht true h2,0,[⟨x,x,to⟩],by simp,by simp,rfl,hl⟩
  ·simp only[Vad] at *
   have hem:(l'++[e]).isEmpty=false:=by simp
   have hlen:(l'++[e]).length=l'.length+1:=by simp
   rw[hlen] at hf hlx;rw[hem,hlen,Xm]
   by_cases h3:e.to=to/\e.hi=(x:Int) - 1
   ·obtain⟨h3,h4⟩:=h3
    rw[<- h3,VA (by rw[h3];exact h2) h4] at hl;refine .inl ⟨_,nT call row x to fl hx ht l' e (by omega) hf h2 h3 h4,(l'.length+1) * 3,l'++[⟨e.lo,x,e.to⟩],by simp,by simp;omega,?_,hl⟩
    rw[Xm];simp
   ·rw[Dw h2 h3] at hl
    refine .inl ⟨_,oU call row x to fl hx ht l' e (by omega) hf h2 h3,fl,_,?_,?_,?_,hl⟩
    ·simp;omega
    ·simp;omega
    ·rw[Xm,Xm,IG];simp[La]
 ·rintro t ⟨fl,l,hf,hlx,rfl,hl⟩
  rw[Yab (by rw[<- N9,eac];exact paa _)] at hl;refine⟨.exit 0,_,?_,rfl,fl,rfl,rfl⟩;rw[hl];have e1:decide (((256:Nat):Int) < 256)=false:=by decide
  simp -implicitDefEqProofs only[SP,SA,SQ,sevalprocAttr,ma,od,e1,gv,Qe]
theorem fV:xr [Xi row]=some (Ee (wg row)):=by
 obtain⟨fl,hl⟩:=IP row K7 (Da (fun _=>none) 8);have ht:=JP [.seq 3 true (La (yd (wg row))) fl (wg row).isEmpty] 0 (wg row) fl rfl;have h9:(row.map i64).map AV.pv=La row:=(dv row).symm
 have p0:((La row).length=256)=True:=by rw[mb,K7];exact eq_self _
 have p1:(256<=(La row).length)=True:=by rw[mb,K7];exact Iaa (paa _)
 have p2:List.take 256 (La row)=La row:=Saa (by rw[mb,K7];exact paa _)
 have p3:=Ju row;have p5:=BF row;have p6:=LJ [] 0 row;have p8:List.take 256 (row.map i64)=row.map i64:=Saa (by rw[haa,K7];exact paa _)
 have p7:(256<=(row.map i64).length)=True:=by rw[haa,K7];exact Iaa (paa _)
 have p4:((row.map i64).length=256)=True:=by rw[haa,K7];exact eq_self _
 generalize wg row=es at *;simp only[tidy,Ic,gv] at hl;simp -implicitDefEqProofs only[xr,SP,SA,SQ,sevalprocAttr,Aw,h9,p0,p1,p2,p3,p4,p5,p6,p7,p8,fe,Er,tidy,Ic];rw[hl];simp -implicitDefEqProofs only[SP,SA,SQ,sevalprocAttr,ht]
end
def Iv(a:Int):List Int->Nat->Option Nat
 | [],_=>none
 |b::l,k=>if a=b then some k else Iv a l (k+1)
def QN(l:List Int)(k:Nat):List (PV×PV):=(l.zipIdx k).map fun p=>(i64 p.1,i64 p.2)
theorem yD(a:Int)(l:List Int)(k:Nat):QN (a::l) k=(i64 a,i64 k)::QN l (k+1):=rfl
theorem MJ(a:Int):∀ (l:List Int)(k:Nat),QN (l++[a]) k=QN l k++[(i64 a,i64 (k+l.length:Nat))]
 | [],k=>by simp[QN]
 |b::l,k=>by rw[bab,yD,MJ a l (k+1),yD];simp;omega
theorem xS{a:Int}:∀ {l:List Int}{k i:Nat},Iv a l k=some i->k<=i
 |b::l,k,i,h=>by
  simp only[Iv] at h
  split at h
  ·injection h with h;omega
  ·have:=xS h;omega
theorem oO(a:Int):∀ (l:List Int)(k j:Nat),yn (.one 1) (i64 a) (QN l k) j=some ((Iv a l k).map fun i=>(j+(i - k),i64 i)):=by
 intro l
 induction l with
 |nil=>intro k j;rfl
 |cons b l ih=>
  intro k j;have he:Nl (.one 1) (i64 a) (i64 b)=some (decide (a=b)):=by
   show (if IntKind.i64=IntKind.i64 then some (a==b) else none)=_;rw[if_pos rfl]
   congr 1
  rw[yD,yn,he];simp only[yaa,Iv]
  by_cases h:a=b
  ·simp[h]
  ·rw[kaa h,ih]
   simp only[h,decide_false,saa,if_false,caa];cases hi:Iv a l (k+1) with
   |none=>rfl
   |some i=>have:=xS hi;simp only[Haa,caa,oaa,and_true];omega
theorem iF(a:Int):(Nl (.one 1) (i64 a) (i64 a)).isSome=true:=rfl
abbrev Bp(R0 R1:ba)(S:PV)(nl nr:Bool)(fr:Nat)(B7:List Al)(C:List Int)(n:Nat)(L M:ba)(O:List Int)(out:List PV)(no:Bool)(T:List ba):List ba:=
 Ri R0 R1 S nl nr fr B7 C n (L::M:: .box [.pv .ga]:: .map (QN O 0):: .tok 1 O.length false:: .box [.uq 12 no 1 out]:: .tok 1 out.length no::T)
abbrev Oz(q:Nat)(k:Int)(O:List Int)(fb:List Int)(x:Int):Tr:=
 (((((((((Tr.lf.set 32 (.pv (i64 x))).set 31 (.pv (Xi fb))).set 7 (.ptr q 0)).set 6 (.pv (i64 k))).set 5 (.ptr 11 0)).set 4 (.uq 10 false 1 (O.map i64))).set 3 (.mp 9)).set 2 (.ptr 8 0)).set 0 (.ptr 3 0))
def Dj(x:Nat)(to:Int)(r:List Int×List Int):List Int×List Int:=
 if to < 0 then r else match Iv to r.1 0 with
  |some k=>(r.1,r.2.set x k)
  |none=>(r.1++[to],r.2.set x r.1.length)
section
variable (call:Sa)(R0 R1:ba)(S:PV)(nl nr:Bool)(fr:Nat)(B7:List Al)(C:List Int)(n:Nat)(L M:ba)(O:List Int)(out:List PV)(no:Bool)(J:List ba)
 (k:Int) (fb row:List Int) (x:Nat) (to:Int) (q:Nat) (hx:x < 256) (E8:fb[x]? =some to)
include hx E8
theorem WS(h:to < 0):
 ma (oa call qc) (fun s=>some (tidy [0,2,3,4,5,6,7,31,32] s)) ⟨Oz q k O fb x,Bp R0 R1 S nl nr fr B7 C n L M O out no (J++[.box (La row)])⟩=
  some (.norm,⟨Oz q k O fb (x+1:Nat),Bp R0 R1 S nl nr fr B7 C n L M O out no (J++[.box (La row)])⟩):=by
 have e1:decide ((x:Int) < 256)=true:=Ea (by omega);have e2:decide (to < 0)=true:=Ea (by omega);have hq:Ia (x:Int) 256:=by unfold Ia;omega
 have t1:((x:Int)).toNat=x:=by simp
 have t2:=Za (i:=x) (n:=256) hx (by unfold maxLen;omega);have ht:(fb.map i64)[x]? =some (i64 to):=by rw[Eaa,E8];rfl
 simp -implicitDefEqProofs only[SP,SA,SQ,sevalprocAttr,-List.reduceReplicate,ma,qc,e1,e2,Iaa hq,t1,t2,ht,ta,tidy,Ic,Oz,Bp,Ri]
theorem fX(hq13:q=J.length+1+1+1+1+1+1+1+1+1+1+1+1+1)(K7:row.length=256)(h:¬to < 0){j:Nat}(hj:Iv to O 0=some j):
 ma (oa call qc) (fun s=>some (tidy [0,2,3,4,5,6,7,31,32] s)) ⟨Oz q k O fb x,Bp R0 R1 S nl nr fr B7 C n L M O out no (J++[.box (La row)])⟩=
  some (.norm,⟨Oz q k O fb (x+1:Nat),Bp R0 R1 S nl nr fr B7 C n L M O out no (J++[.box (La (row.set x j))])⟩):=by
 have e1:decide ((x:Int) < 256)=true:=Ea (by omega);have e2:decide (to < 0)=false:=Ga (by omega);have hq:Ia (x:Int) 256:=by unfold Ia;omega
 have t1:((x:Int)).toNat=x:=by simp
 have t2:=Za (i:=x) (n:=256) hx (by unfold maxLen;omega);have ht:(fb.map i64)[x]? =some (i64 to):=by rw[Eaa,E8];rfl
 have hf:=oO to O 0 0;rw[hj] at hf;simp only[Haa] at hf;have his:=iF to;have hle:(x+1<=(La row).length)=True:=by rw[mb];exact Iaa (by omega)
 subst hq13;simp -implicitDefEqProofs only[SP,SA,SQ,sevalprocAttr,-List.reduceReplicate,ma,qc,e1,e2,Iaa hq,t1,t2,ht,hf,Iaa his,hle,Wj,bq,Fq,ta,tidy,Ic,Oz,Bp,Ri]
theorem mX(hq13:q=J.length+1+1+1+1+1+1+1+1+1+1+1+1+1)(K7:row.length=256)(h:¬to < 0)(hj:Iv to O 0=none)(hO:O.length < 100):
 ma (oa call qc) (fun s=>some (tidy [0,2,3,4,5,6,7,31,32] s)) ⟨Oz q k O fb x,Bp R0 R1 S nl nr fr B7 C n L M O out no (J++[.box (La row)])⟩=
  some (.norm,⟨Oz q k (O++[to]) fb (x+1:Nat),Bp R0 R1 S nl nr fr B7 C n L M (O++[to]) out no (J++[.box (La (row.set x O.length))])⟩):=by
 have e1:decide ((x:Int) < 256)=true:=Ea (by omega);have e2:decide (to < 0)=false:=Ga (by omega);have hq:Ia (x:Int) 256:=by unfold Ia;omega
 have t1:((x:Int)).toNat=x:=by simp
 have t2:=Za (i:=x) (n:=256) hx (by unfold maxLen;omega);have ht:(fb.map i64)[x]? =some (i64 to):=by rw[Eaa,E8];rfl
 have hf:=oO to O 0 0;rw[hj] at hf;simp only[Option.map_none] at hf;have his:=iF to;have hle:(x+1<=(La row).length)=True:=by rw[mb];exact Iaa (by omega)
 have hlen:(O.map i64).length=O.length:=by simp
 have q1:eb (O.length+1) 8:=by unfold eb;omega
 have hp:=MJ to O 0;rw[Zaa] at hp;have P8:(O++[to]).length=O.length+1:=by simp
 have pac:(O++[to]).map i64=O.map i64++[i64 to]:=by simp
 subst hq13;unfold Oz Bp;rw[hp,P8,pac];simp -implicitDefEqProofs only[SP,SA,SQ,sevalprocAttr,-List.reduceReplicate,ma,qc,e1,e2,Iaa hq,t1,t2,ht,hf,Iaa his,hle,hlen,Iaa q1,Wj,bq,Fq,ta,tidy,Ic,Ri,jj,AV.VE,AV.Lq]
end
def xx(n:Nat)(O:List Int):Prop:=O.Nodup/\∀ o∈O,0<=o/\o < (n:Int)
theorem oD:∀ (n:Nat)(O:List Int),O.Nodup->(∀ o∈O,0<=o/\o < (n:Int))->O.length<=n
 |0,O,_,h=>by
  cases O with
  |nil=>simp
  |cons a O=>have:=h a (by simp);omega
 |n+1,O,hd,h=>by
  have ih:=oD n (O.erase n) (hd.erase _) (fun o ho=>by
   have h1:=h o (List.mem_of_mem_erase ho);have h2:o≠n:=(hd.mem_erase_iff.1 ho).1
   omega)
  rw[List.length_erase] at ih
  split at ih <;> omega
theorem xx.len{n:Nat}{O:List Int}(h:xx n O):O.length<=n:=oD n O h.1 h.2
theorem xC{a:Int}:∀ {l:List Int}{k:Nat},Iv a l k=none->a ∉ l
 | [],_,_=>by simp
 |b::l,k,h=>by
  simp only[Iv] at h
  split at h
  ·cases h
  ·next J7=>simp only[Xaa,not_or];exact⟨J7,xC h⟩
def Td(fb:List Int):List Nat->List Int×List Int->List Int×List Int
 | [],r=>r
 |x::xs,r=>Td fb xs (Dj x (fb.getD x 0) r)
theorem bY{n:Nat}{x:Nat}{to:Int}{r:List Int×List Int}(E8:to < n)(h:xx n r.1):xx n (Dj x to r).1/\(Dj x to r).2.length=r.2.length/\∃ t,(Dj x to r).1=r.1++t:=by
 unfold Dj
 by_cases h0:to < 0
 ·rw[if_pos h0];exact⟨h,rfl,[],by simp⟩
 ·rw[kaa h0]
  cases hi:Iv to r.1 0 with
  |some k=>exact⟨h,by simp,[],by simp⟩
  |none=>
   have hn:=xC hi;refine⟨⟨?_,?_⟩,by simp,[to],rfl⟩
   ·simp only[List.nodup_append,h.1,true_and]
    refine⟨by simp,?_⟩;intro a ha b hb;simp at hb;subst hb;intro e;subst e;exact hn ha
   ·intro o ho
    rcases Jaa.1 ho with h1 | h1
    ·exact h.2 o h1
    ·simp at h1;subst h1;omega
section
variable (call:Sa)(R0 R1:ba)(S:PV)(nl nr:Bool)(fr:Nat)(B7:List Al)(C:List Int)(n:Nat)(L M:ba)
theorem uQ(O:List Int)(out:List PV)(no:Bool)(J:List ba)(k:Int)(fb:List Int)(q:Nat)(hq13:q=J.length+1+1+1+1+1+1+1+1+1+1+1+1+1)
 (hO:xx n O) (hn:n<=64) (K7:fb.length=256) (E8:∀ to∈fb,to < n):
 ab (ma (oa call qc) (fun s=>some (tidy [0,2,3,4,5,6,7,31,32] s))) ua ⟨Oz q k O fb 0,Bp R0 R1 S nl nr fr B7 C n L M O out no (J++[.box (La fb)])⟩=
  some (.exit 2,⟨(Oz q k (Td fb (List.range 256) (O,fb)).1 fb 256).set 33 (.pv (.bool false)),
   Bp R0 R1 S nl nr fr B7 C n L M (Td fb (List.range 256) (O,fb)).1 out no (J++[.box (La (Td fb (List.range 256) (O,fb)).2)])⟩)/\
  xx n (Td fb (List.range 256) (O,fb)).1/\(Td fb (List.range 256) (O,fb)).2.length=256/\∃ t,(Td fb (List.range 256) (O,fb)).1=O++t:=by
 generalize N9:List.range 256=xs
 have key:=Yl (g:=ma (oa call qc) (fun s=>some (tidy [0,2,3,4,5,6,7,31,32] s)))
  (fun x t=>∃ r,xx n r.1/\r.2.length=256/\(∃ t,r.1=O++t)/\t=⟨Oz q k r.1 fb x,Bp R0 R1 S nl nr fr B7 C n L M r.1 out no (J++[.box (La r.2)])⟩/\Td fb xs (O,fb)=Td fb (xs.drop x) r)
  (fun ex t=>ex= .exit 2/\t=⟨(Oz q k (Td fb xs (O,fb)).1 fb 256).set 33 (.pv (.bool false)),Bp R0 R1 S nl nr fr B7 C n L M (Td fb xs (O,fb)).1 out no (J++[.box (La (Td fb xs (O,fb)).2)])⟩/\
   xx n (Td fb xs (O,fb)).1/\(Td fb xs (O,fb)).2.length=256/\∃ t,(Td fb xs (O,fb)).1=O++t)
  ua 256 0 ⟨Oz q k O fb (0:Nat),Bp R0 R1 S nl nr fr B7 C n L M O out no (J++[.box (La fb)])⟩ (by unfold ua;omega) (by omega) ⟨(O,fb),hO,K7,⟨[],by simp⟩,rfl,rfl⟩ ?_ ?_
 ·obtain⟨ex,t,h,_,rfl,rfl,q1,q2⟩:=key
  exact⟨h,q1,q2⟩
 ·rintro x hx t ⟨⟨O',row⟩,hO',R8,⟨tl,htl⟩,rfl,hl⟩
  have hd:=Ns hx;rw[N9] at hd;obtain⟨to,ht⟩:∃ to,fb[x]? =some to:=⟨fb[x],by simp[K7,hx]⟩;have hgd:fb.getD x 0=to:=by simp[taa,ht]
  have E7:=E8 to (nab ht);rw[hd,Td,hgd] at hl;have Ba:=bY (x:=x) (r:=(O',row)) E7 hO';refine .inl ⟨_,?_,Dj x to (O',row),Ba.1,by rw[Ba.2.1];exact R8,?_,rfl,hl⟩
  ·by_cases h0:to < 0
   ·have e:Dj x to (O',row)=(O',row):=by simp[Dj,h0]
    rw[e];exact WS call R0 R1 S nl nr fr B7 C n L M O' out no J k fb row x to q hx ht h0
   ·have hlen:=hO'.len
    cases hi:Iv to O' 0 with
    |some j=>
     have e:Dj x to (O',row)=(O',row.set x j):=by simp[Dj,h0,hi]
     rw[e];exact fX call R0 R1 S nl nr fr B7 C n L M O' out no J k fb row x to q hx ht hq13 R8 h0 hi
    |none=>
     have e:Dj x to (O',row)=(O'++[to],row.set x O'.length):=by simp[Dj,h0,hi]
     rw[e];exact mX call R0 R1 S nl nr fr B7 C n L M O' out no J k fb row x to q hx ht hq13 R8 h0 hi (by simp only at hlen;omega)
  ·obtain⟨t2,h2⟩:=Ba.2.2
   exact⟨tl++t2,by rw[h2,<-Dab,<-htl]⟩
 ·rintro t ⟨⟨O',row⟩,hO',R8,htl,rfl,hl⟩
  rw[Yab (by rw[<- N9,eac];exact paa _),Td] at hl;rw[hl];refine⟨.exit 2,_,?_,rfl,rfl,rfl,hO',R8,htl⟩;have e1:decide (((256:Nat):Int) < 256)=false:=by decide
  simp -implicitDefEqProofs only[SP,SA,SQ,sevalprocAttr,-List.reduceReplicate,ma,qc,e1,Oz]
abbrev RC(k:Int)(O:List Int):Tr:=
 ((((((Tr.lf.set 6 (.pv (i64 k))).set 5 (.ptr 11 0)).set 4 (.uq 10 false 1 (O.map i64))).set 3 (.mp 9)).set 2 (.ptr 8 0)).set 0 (.ptr 3 0))
def Hg(C:List Int)(o:Int)(O:List Int):List Int×List Int:=Td (Va C o.toNat) (List.range 256) (O,Va C o.toNat)
theorem XO(O:List Int)(out:List PV)(no:Bool)(J:List ba)(k:Nat)(o:Int)
 (hC:C.length=n * 256) (cC:∀ c∈C,c < n) (H9:fr<=n * 256) (hO:xx n O) (hn:n<=64) (hk:O[k]? =some o) (D8:out.length=k):
 ma (oa call zd) (fun s=>some (tidy [0,2,3,4,5,6] s)) ⟨RC k O,Bp R0 R1 S nl nr fr B7 C n L M O out no J⟩=
  some (.norm,⟨RC (k+1:Nat) (Hg C o O).1,Bp R0 R1 S nl nr fr B7 C n L M (Hg C o O).1 (out++[Ee (wg (Hg C o O).2)]) false (J++[.box (La (Hg C o O).2)])⟩)/\
  xx n (Hg C o O).1/\∃ t,(Hg C o O).1=O++t:=by
 have hom:=hO.2 o (nab hk)
 have hkl:=(iaa.1 hk).1
 have hOl:=hO.len
 have hoi:o.toNat < n:=by omega
 have hr0:=Ei hC hoi;obtain⟨b9,g1,g2,g3⟩:=uQ call R0 R1 S nl nr fr B7 C n L M O out no J k (Va C o.toNat) _ rfl hO hn hr0 (fun to h=>cC to (Vab (uac h)));refine⟨?_,g1,g3⟩;unfold Hg;generalize Td (Va C o.toNat) (List.range 256) (O,Va C o.toNat)=r at *;obtain⟨O',row'⟩:=r;simp only at g1 g2 g3 b9;have hed:=fV row' g2;have hlen:(O.map i64).length=O.length:=by simp
 have e1:decide ((k:Int) < (O.length:Int))=true:=Ea (by omega);have t1:((k:Int)).toNat=k:=by simp
 have hq1:Ia (k:Int) O.length:=by unfold Ia;omega
 have hg:(O.map i64)[k]? =some (i64 o):=by rw[Eaa,hk];rfl
 have hq3:Ia o n:=by unfold Ia;omega
 have w2:Ui 256 n fr (La C).length:=by rw[mb];unfold Ui;omega
 have w4:((La C).length=n * 256)=True:=by rw[mb];exact Iaa hC
 have w6:(o.toNat * 256+256<=(La C).length)=True:=by rw[mb];exact Iaa (by omega)
 have p1:=fF C o.toNat
 have t2:=Za (i:=k) (n:=64) (by omega) (by unfold maxLen;omega);have h9:((Va C o.toNat).map i64).map AV.pv=La (Va C o.toNat):=(dv _).symm
 have hz:=V3;have p5:(256<=(La (List.replicate 256 0)).length)=True:=by rw[mb,Xab];exact Iaa (paa _)
 have p6:fa (La (List.replicate 256 0)) 0 (La (Va C o.toNat))=La (Va C o.toNat):=by have:=RA (La (Va C o.toNat)) (La (List.replicate 256 0)) [] (by rw[mb,mb,hr0,Xab]);rw[Yaa,Yaa] at this;exact this
 generalize hzs:List.replicate 256 (0:Int)=zs at *
 generalize Va C o.toNat=fb at *
 have r0:((La fb).length=256)=True:=by rw[mb,hr0];exact eq_self _
 have r1:(256<=(La fb).length)=True:=by rw[mb,hr0];exact Iaa (paa _)
 have r2:List.take 256 (La fb)=La fb:=Saa (by rw[mb,hr0];exact paa _)
 have r3:=Ju fb;have r5:=BF fb;have s1:(256<=(La row').length)=True:=by rw[mb,g2];exact Iaa (paa _)
 have s2:List.take 256 (La row')=La row':=Saa (by rw[mb,g2];exact paa _)
 have s3:=Ju row';have q1:eb (out.length+1) 24:=by unfold eb;omega
 have P8:(out++[Ee (wg row')]).length=out.length+1:=by simp
 unfold Bp;rw[P8];have A9:(∃ l,Ee (wg row')= .lit 3 l)\/Ee (wg row')= .ga:=by unfold Ee;split;exact .inr rfl;exact .inl ⟨_,rfl⟩
 generalize Ee (wg row')=ed at *;simp only[Oz,Bp,Ri,tidy,Ic] at b9;simp -implicitDefEqProofs only[SP,SA,SQ,sevalprocAttr,-List.reduceReplicate,ma,zd,hlen,e1,Iaa hq1,Iaa hq3,t1,hg,Iaa w2,w4,w6,p1,h9,hz,p5,p6,r0,r1,r2,r3,r5,bq,Fq,ta,Er,tidy,Ic,RC,Ri];rw[b9];rcases A9 with⟨l,rfl⟩ | rfl <;>
 simp -implicitDefEqProofs only[SP,SA,SQ,sevalprocAttr,-List.reduceReplicate,t2,s1,s2,s3,hed,Mg,Fc,Iaa q1,bq,Fq,ta,tidy,Ic,RC,Ri,jj,AV.VE,AV.Lq]
def Sj(C:List Int):Nat->List Int×List (List ae)->List Int×List (List ae)
 |0,r=>r
 |f+1,r=>match r.1[r.2.length]? with
  |none=>r
  |some o=>Sj C f ((Hg C o r.1).1,r.2++[wg (Hg C o r.1).2])
theorem Sr{C:List Int}{f:Nat}{r:List Int×List (List ae)}(h:r.1[r.2.length]? =none):Sj C f r=r:=by
 cases f with
 |zero=>rfl
 |succ f=>rw[Sj,h]
theorem xt{C:List Int}{f:Nat}{r:List Int×List (List ae)}{o:Int}(h:r.1[r.2.length]? =some o):Sj C (f+1) r=Sj C f ((Hg C o r.1).1,r.2++[wg (Hg C o r.1).2]):=by
 rw[Sj,h]
def Yo(C:List Int):List (List ae):=(Sj C 64 ([0],[])).2
def Nk(l:List (List ae)):PV:= .lit 1 (l.map Ee)
theorem nJ(O:List Int)(out:List PV)(no:Bool)(J:List ba)(k:Nat)(hk:k=O.length):
 ma (oa call zd) (fun s=>some (tidy [0,2,3,4,5,6] s)) ⟨RC k O,Bp R0 R1 S nl nr fr B7 C n L M O out no J⟩=
  some (.exit 0,⟨((((RC k O).set 15 (.pv (i64 k))).set 16 (.uq 10 false 1 (O.map i64))).set 17 (.pv (i64 O.length))).set 18 (.pv (.bool false)),Bp R0 R1 S nl nr fr B7 C n L M O out no J⟩):=by
 have hlen:(O.map i64).length=O.length:=by simp
 have e1:decide ((k:Int) < (O.length:Int))=false:=Ga (by omega);simp -implicitDefEqProofs only[SP,SA,SQ,sevalprocAttr,-List.reduceReplicate,ma,zd,hlen,e1,RC,Bp,Ri]
theorem SS(hC:C.length=n * 256)(cC:∀ c∈C,c < n)(H9:fr<=n * 256)(hn:n<=64)(h0:0 < n):
 ∃ O J k,ab (ma (oa call zd) (fun s=>some (tidy [0,2,3,4,5,6] s))) ua ⟨RC 0 [0],Bp R0 R1 S nl nr fr B7 C n L M [0] [] true []⟩=
  some (.exit 0,⟨((((RC k O).set 15 (.pv (i64 k))).set 16 (.uq 10 false 1 (O.map i64))).set 17 (.pv (i64 O.length))).set 18 (.pv (.bool false)),Bp R0 R1 S nl nr fr B7 C n L M O ((Yo C).map Ee) false J⟩):=by
 have key:=Yl (g:=ma (oa call zd) (fun s=>some (tidy [0,2,3,4,5,6] s)))
  (fun k t=>∃ (O:List Int)(out:List (List ae))(J:List ba),xx n O/\out.length=k/\k<=O.length/\0 < O.length/\t=⟨RC k O,Bp R0 R1 S nl nr fr B7 C n L M O (out.map Ee) (k==0) J⟩/\Sj C 64 ([0],[])=Sj C (64 - k) (O,out))
  (fun ex t=>∃ (O:List Int)(J:List ba)(k:Nat),ex= .exit 0/\t=⟨((((RC k O).set 15 (.pv (i64 k))).set 16 (.uq 10 false 1 (O.map i64))).set 17 (.pv (i64 O.length))).set 18 (.pv (.bool false)),Bp R0 R1 S nl nr fr B7 C n L M O ((Yo C).map Ee) false J⟩)
  ua 64 0 ⟨RC (0:Nat) [0],Bp R0 R1 S nl nr fr B7 C n L M [0] [] true []⟩ (by unfold ua;omega) (by omega)
   ⟨[0],[],[],⟨by simp,by intro o ho;simp at ho;omega⟩,rfl,by simp,by simp,rfl,rfl⟩ ?_ ?_
 ·obtain⟨ex,t,h,_,O,J,k,rfl,rfl⟩:=key
  exact⟨O,J,k,h⟩
 ·rintro k hk t ⟨O,out,J,hO,D8,hkO,hO0,rfl,hl⟩
  by_cases E7:k < O.length
  ·obtain⟨o,ho⟩:∃ o,O[k]? =some o:=⟨O[k],by simp[E7]⟩
   obtain⟨g1,g2,t,g3⟩:=XO call R0 R1 S nl nr fr B7 C n L M O (out.map Ee) (k==0) J k o hC cC H9 hO hn ho (by simpa using D8);rw[show 64 - k=(64 - (k+1))+1 by omega,xt (r:=(O,out)) (o:=o) (by show O[out.length]? =_;rw[D8];exact ho)] at hl;refine .inl ⟨_,g1,_,out++[wg (Hg C o O).2],J++[.box (La (Hg C o O).2)],g2,by simp[D8],?_,?_,?_,hl⟩
   ·rw[g3];simp;omega
   ·rw[g3];simp;omega
   ·have:(k+1==0)=false:=rfl
    rw[this];simp
  ·have hke:k=O.length:=by omega
   rw[Sr (r:=(O,out)) (by show O[out.length]? =none;rw[D8,hke];simp)] at hl;refine .inr ⟨.exit 0,_,nJ call R0 R1 S nl nr fr B7 C n L M O _ _ J k hke,rfl,O,J,k,rfl,?_⟩
   have:(k==0)=false:=by simp;omega
   rw[this,Yo,hl]
 ·rintro t ⟨O,out,J,hO,D8,hkO,hO0,rfl,hl⟩
  have hke:64=O.length:=by have:=hO.len;omega
  rw[Sr (r:=(O,out)) (by show O[out.length]? =none;rw[D8,hke];simp)] at hl;refine⟨.exit 0,_,nJ call R0 R1 S nl nr fr B7 C n L M O _ _ J 64 hke,rfl,O,J,64,rfl,?_⟩;have:((64:Nat)==0)=false:=rfl;rw[this,Yo,hl]
theorem zY(hC:C.length=n * 256)(cC:∀ c∈C,c < n)(H9:fr<=n * 256)(hn:n<=64)(h0:0 < n):
 ∃ O J,ef call Oj [.ptr 3 0] (Ri R0 R1 S nl nr fr B7 C n [L,M])=
  some (.agg [.uq 12 false 1 ((Yo C).map Ee)],Ri R0 R1 S nl nr fr B7 C n (L::M:: .box [.uq 12 false 1 ((Yo C).map Ee)]:: .map (QN O 0):: .tok 1 O.length false:: .box [.uq 12 false 1 ((Yo C).map Ee)]:: .tok 1 ((Yo C).map Ee).length false::J)):=by
 obtain⟨O,J,k,hl⟩:=SS call R0 R1 S nl nr fr B7 C n L M hC cC H9 hn h0;refine⟨O,J,?_⟩;generalize (Yo C).map Ee=out at *
 have Z8:ab (ma (oa call zd) (fun s=>some ⟨((((((Tr.lf.set 6 (s.env.get 6)).set 5 (s.env.get 5)).set 4 (s.env.get 4)).set 3 (s.env.get 3)).set 2 (s.env.get 2)).set 0 (s.env.get 0)),s.H⟩)) ua
  ⟨((((((Tr.lf.set 6 (.pv (.int .i64 0))).set 5 (.ptr 11 0)).set 4 (.uq 10 false 1 [.int .i64 0])).set 3 (.mp 9)).set 2 (.ptr 8 0)).set 0 (.ptr 3 0)),[R0,R1,.map (FE B7 0),.box [.pv S,.mp 2,.uq 4 nl 2 (B7.map Oi),.own 5 n],.tok 2 B7.length nl,.seq 256 true (La C) fr nr,L,M,.box [.pv .ga],.map [(.int .i64 0,.int .i64 0)],.tok 1 1 false,.box [.uq 12 true 1 []],.tok 1 0 true]⟩=_:=hl
 simp only[RC,Bp,Ri] at Z8;simp -implicitDefEqProofs only[SP,SA,SQ,sevalprocAttr,-List.reduceReplicate,Oj,fe,Er,tidy,Ic,yn,Nl,Rr,Option.isSome_some,jj,AV.VE,AV.Lq,Ri];rw[Z8];simp -implicitDefEqProofs only[SP,SA,SQ,sevalprocAttr,-List.reduceReplicate,Ri]
end
def Ms(n:Nat):Int:=IntKind.u32.wrap (IntKind.u32.wrap (1 * 2 ^ min n IntKind.u32.bits) - 1)
theorem BH(n:Nat):IntKind.u32.wrap (IntKind.u32.wrap (1 * 2 ^ min n IntKind.u32.bits) - 1)=Ms n:=rfl
theorem wF{n:Nat}(h:n<=32):Ms n=((2 ^ n - 1:Nat):Int):=by
 have:∀ n:Fin 33,Ms n.1=((2 ^ n.1 - 1:Nat):Int):=by decide
 exact this ⟨n,by omega⟩
theorem YR{a:Al}:∀ {l:List Al}{k i:Nat},Sm a l k=some i->i < k+l.length
 |b::l,k,i,h=>by
  simp only[Sm] at h
  split at h
  ·injection h with h;simp;omega
  ·have:=YR h;simp;omega
theorem AY{ss:List Nb}{a:Al}{x:Int}{B7:List Al}{r:List Al×Int}(h:ph ss a x B7=some r):r.2 < r.1.length:=by
 unfold ph at h
 split at h
 ·injection h with h;subst h;simp;omega
 ·split at h
  ·injection h with h;subst h;simp;omega
  ·split at h
   ·next k hk=>injection h with h;subst h;have:=YR hk;simp at this;simp;omega
   ·split at h
    ·injection h with h;subst h;simp;omega
    ·cases h
theorem yS{ss:List Nb}{a:Al}:∀ (xs:List Nat)(r r':List Al×List Int),r.1.length<=64->(∀ v∈r.2,v < r.1.length)->Wl ss a xs r=some r'->∀ v∈r'.2,v < r'.1.length
 | [],r,r',_,h,e=>by injection e with e;subst e;exact h
 |x::xs,r,r',hl,h,e=>by
  cases Y7:ph ss a x r.1 with
  |none=>rw[Qu Y7] at e;cases e
  |some p=>
   rw[Kv Y7] at e;have hg:=gE Y7 hl;refine yS xs (p.1,r.2.set x p.2) r' hg.1 ?_ e
   intro v hv;obtain⟨t,ht⟩:=hg.2
   rcases Aab hv with h1 | h1
   ·have h2:=h v h1
    have:r.1.length<=p.1.length:=by rw[ht];simp
    simp only;omega
   ·rw[h1];exact AY Y7
theorem WN{ss:List Nb}(hw:ss.length<=32):∀ (k:Nat)(r r':List Al×List (List Int)),On ss r.1->(∀ l∈r.2,∀ v∈l,v < r.1.length)->qh ss k r=some r'->(∀ l∈r'.2,∀ v∈l,v < r'.1.length)/\∃ t,r'.1=r.1++t
 |0,r,r',_,h,e=>by injection e with e;subst e;exact⟨h,[],by simp⟩
 |k+1,r,r',Ba,h,e=>by
  cases ha:r.1[r.2.length]? with
  |none=>rw[Gv ha] at e;injection e with e;subst e;exact⟨h,[],by simp⟩
  |some a=>
   cases hr:Wl ss a (List.range 256) (r.1,fb) with
   |none=>rw[Xw ha hr] at e;cases e
   |some p=>
    rw[zw ha hr] at e;obtain⟨g1,⟨t,g2⟩,g3⟩:=Jw hw (List.range 256) (r.1,fb) p Ba ha hr;have v8:0 < r.1.length:=by have:=(iaa.1 ha).1;omega
    have g4:=yS (List.range 256) (r.1,fb) p Ba.1 (by intro v hv;have:v=0:=Ead hv;simp only;omega) hr
    obtain⟨k1,t2,k2⟩:=WN hw k (p.1,r.2++[p.2]) r' g1 (by
     intro l hl v hv;rcases Jaa.1 hl with h1 | h1
     ·have:=h l h1 v hv
      simp only[g2,raa] at this ⊢;omega
     ·simp at h1;subst h1;exact g4 v hv) e
    exact⟨k1,t++t2,by rw[k2,g2,Dab]⟩
theorem wD:∀ (rs:List (List Int)),La rs.flatten=rs.flatMap La
 | []=>rfl
 |r::rs=>by have:=wD rs;rw[Uab,IG,Yac,this]
def rh(ss:List Nb):List Al:=[(0,Ms ss.length)]
theorem XB{ss:List Nb}(hw:ss.length<=32)(J7:∀ s∈ss,0 < s.parts.length):On ss (rh ss):=by
 refine⟨by simp[rh],?_⟩;intro k a ha
 match k,ha with
 |0,ha=>
  simp only[rh,dab,caa] at ha;subst ha;refine⟨by simp,2 ^ ss.length - 1,wF hw,?_,?_⟩
  ·have:2 ^ ss.length<=2 ^ 32:=Nat.pow_le_pow_right (by decide) hw
   omega
  ·intro i s hs _
   exact J7 s (nab hs)
 |k+1,ha=>simp[rh] at ha
section
variable (R0 R1:ba)(S:PV)(ss:List Nb)
 (h0:qa 7 R0=some R0) (h1:qa 7 R1=some R1) (g0:qa 6 R0=some R0) (g1:qa 6 R1=some R1)
 (hS:Vh 2 S (ss.map uf)) (hw:ss.length<=32) (L7:∀ s∈ss,∀ l∈s.parts,l.length * 16<=140737488355328) (J7:∀ s∈ss,0 < s.parts.length)
include h0 h1 g0 g1 hS hw L7 J7
theorem zO:
 (∀ r,qh ss 64 (rh ss,[])=some r->∃ nl',ef (Da Fa 7) Wg [.ptr 3 0] (Hk R0 R1 S true [] (Eh []) 0 [])=some (.pv (.bool true),Hk R0 R1 S nl' r.1 (Eh r.2) r.2.length [])/\On ss r.1/\r.2.length=r.1.length/\∀ r'∈r.2,r'.length=256)/\
 (qh ss 64 (rh ss,[])=none->∃ H,ef (Da Fa 7) Wg [.ptr 3 0] (Hk R0 R1 S true [] (Eh []) 0 [])=some (.pv (.bool false),H)/\H[0]? =some R0):=by
 have D7:=bT R0 R1 S false (rh ss) ss h0 h1 g0 g1 hS hw L7 (XB hw J7) (by simp[rh]);have ls:=hS.len
 simp only[haa] at ls;have Z9:ef (Da Fa 6) xe [.ptr 3 0,.pv (.agg [.int .i64 0,.int .u32 (Ms ss.length)])] [R0,R1,.map (FE [] 0),.box [.pv S,.mp 2,.uq 4 true 2 [],.own 5 0],.tok 2 0 true,.seq 256 true [] 0 true]=some (.pv (.mc [.int .i64 0,.bool true]),Hk R0 R1 S false [(0,Ms ss.length)] (Eh []) 0 []):=
  iS (Da Fa 6) R0 R1 S true [] (Eh []) 0 [] (0,Ms ss.length) rfl (by simp)
 have n0:¬((ss.length:Int) < 0):=by omega
 have t1:((ss.length:Int)).toNat=ss.length:=by simp
 have e1:((ss.length:Int) < 0)=False:=eq_false n0;have q5:=bz 6 6 [];simp only[Iae] at q5;simp only[Hk,Eh,Iae,List.isEmpty_nil] at Z9;unfold Hk Eh;constructor
 ·intro r hr
  obtain⟨E,nl',hl,k1,k2,k3⟩:=D7.1 r hr
  refine⟨nl',?_,k1,k2,k3⟩;simp -implicitDefEqProofs only[SP,SA,SQ,sevalprocAttr,-List.reduceReplicate,Wg,ls,e1,t1,BH,Fa,Iae,Z9,Db,na,Ca,Rn,Ln,Yn,Mu,Qa,AV.cut,Fc,h0,h1,g0,g1,q5,Hk];have Z8:ab (ma (oa (Da Fa 7) yb) (na 6 [0,3])) ua ⟨(Tr.lf.set 3 (.pv (.int .i64 0))).set 0 (.ptr 3 0),[R0,R1,.map (FE [(0,Ms ss.length)] 0),.box [.pv S,.mp 2,.uq 4 false 2 [Oi (0,Ms ss.length)],.own 5 0],.tok 2 1 false,.seq 256 true [] 0 true]⟩=_:=hl;rw[Z8];simp -implicitDefEqProofs only[SP,SA,SQ,sevalprocAttr,-List.reduceReplicate,Hk,Eh]
 ·intro hr
  obtain⟨t,hl,k2,k3⟩:=Rt (D7.2 hr);refine⟨t.H,?_,k3⟩;simp -implicitDefEqProofs only[SP,SA,SQ,sevalprocAttr,-List.reduceReplicate,Wg,ls,e1,t1,BH,Fa,Iae,Z9,Db,na,Ca,Rn,Ln,Yn,Mu,Qa,AV.cut,Fc,h0,h1,g0,g1,q5,Hk];have Z8:ab (ma (oa (Da Fa 7) yb) (na 6 [0,3])) ua ⟨(Tr.lf.set 3 (.pv (.int .i64 0))).set 0 (.ptr 3 0),[R0,R1,.map (FE [(0,Ms ss.length)] 0),.box [.pv S,.mp 2,.uq 4 false 2 [Oi (0,Ms ss.length)],.own 5 0],.tok 2 1 false,.seq 256 true [] 0 true]⟩=_:=hl;rw[Z8];simp -implicitDefEqProofs only[SP,SA,SQ,sevalprocAttr,-List.reduceReplicate,k2]
end
def jg(ss:List Nb):Option (List (List ae)):=
 (qh ss 64 (rh ss,[])).map fun r=>Yo (ff r.2.length r.2.flatten).C
section
variable (S0 S:PV)(ss:List Nb)(hS0:S0= .ga\/∃ l,S0= .lit 2 l){y:Bool}{a b e:Int}
include hS0
theorem kU(he:e≠0)(hp:qf [.agg [S0]]=some (.mc [.agg [.bool y,i64 a,i64 b],i64 e])):
 Ec [.agg [S0]]=some (.mc [.agg [.ga],i64 e]):=by
 have e1:=lj he;rcases hS0 with rfl | ⟨l,rfl⟩ <;>
 simp -implicitDefEqProofs only[Ec,SP,SA,SQ,sevalprocAttr,-List.reduceReplicate,tm,hp,e1,bne,Mg,Fc]
theorem bX(hp:qf [.agg [S0]]=some (.mc [.agg [.bool false,i64 a,i64 b],i64 0])):
 Ec [.agg [S0]]=some (.mc [.agg [.ga],i64 110]):=by
 rcases hS0 with rfl | ⟨l,rfl⟩ <;>
 simp -implicitDefEqProofs only[Ec,SP,SA,SQ,sevalprocAttr,-List.reduceReplicate,tm,hp,bne,Mg,Fc]
variable (hp:qf [.agg [S0]]=some (.mc [.agg [.bool true,i64 a,i64 b],i64 0]))(hc:Mj [.agg [S0]]=some (.agg [S]))
 (hS:Vh 2 S (ss.map uf)) (hw:ss.length<=32) (L7:∀ s∈ss,∀ l∈s.parts,l.length * 16<=140737488355328) (J7:∀ s∈ss,0 < s.parts.length)
include hp hc hS hw L7 J7
theorem EP(h:jg ss=none):Ec [.agg [S0]]=some (.mc [.agg [.ga],i64 130]):=by
 have hn:qh ss 64 (rh ss,[])=none:=by unfold jg at h;simpa using h
 obtain⟨H,hwk,hH⟩:=(zO (.box [.pv .ga]) (.box [.pv (.bool true),.pv (i64 a),.pv (i64 b)]) S ss rfl rfl rfl rfl hS hw L7 J7).2 hn
 have hb0:Hk (.box [.pv .ga]) (.box [.pv (.bool true),.pv (i64 a),.pv (i64 b)]) S true [] (Eh []) 0 []=[.box [.pv .ga],.box [.pv (.bool true),.pv (i64 a),.pv (i64 b)],.map [],.box [.pv S,.mp 2,.uq 4 true 2 [],.own 5 0],.tok 2 0 true,.seq 256 true [] 0 true]:=rfl;rw[hb0] at hwk;have hS2:S= .ga\/∃ l,S= .lit 2 l:=by rcases hS with⟨h,_⟩ | h;exact .inl h;exact .inr ⟨_,h⟩
 have hH2:∀ o,(H.set 0 o)[0]? =some o:=by
  intro o;cases H with
  |nil=>cases hH
  |cons x H=>rfl
 rcases hS0 with rfl | ⟨l,rfl⟩ <;> rcases hS2 with rfl | ⟨l2,rfl⟩ <;>
 simp -implicitDefEqProofs only[Ec,SP,SA,SQ,sevalprocAttr,-List.reduceReplicate,tm,hp,hc,hwk,hH,hH2,Fa,fe,jj,AV.VE,AV.Lq,bne,Mg,Fc]
theorem CX{l:List (List ae)}(h:jg ss=some l):Ec [.agg [S0]]=some (.mc [.agg [Nk l],i64 0]):=by
 obtain⟨r,hn,hl⟩:∃ r,qh ss 64 (rh ss,[])=some r/\Yo (ff r.2.length r.2.flatten).C=l:=by unfold jg at h;simpa using h
 obtain⟨nl,hwk,k1,k2,k3⟩:=(zO (.box [.pv .ga]) (.box [.pv (.bool true),.pv (i64 a),.pv (i64 b)]) S ss rfl rfl rfl rfl hS hw L7 J7).1 r hn
 have hb0:Hk (.box [.pv .ga]) (.box [.pv (.bool true),.pv (i64 a),.pv (i64 b)]) S true [] (Eh []) 0 []=[.box [.pv .ga],.box [.pv (.bool true),.pv (i64 a),.pv (i64 b)],.map [],.box [.pv S,.mp 2,.uq 4 true 2 [],.own 5 0],.tok 2 0 true,.seq 256 true [] 0 true]:=rfl;have L8:Hk (.box [.pv .ga]) (.box [.pv (.bool true),.pv (i64 a),.pv (i64 b)]) S nl r.1 (Eh r.2) r.2.length []=Ri (.box [.pv .ga]) (.box [.pv (.bool true),.pv (i64 a),.pv (i64 b)]) S nl r.2.isEmpty 0 r.1 r.2.flatten r.2.length []:=by unfold Hk Ri Eh;rw[wD]
 rw[hb0,L8] at hwk;have E7:=WN hw 64 (rh ss,[]) r (XB hw J7) (by simp) hn;have v8:0 < r.1.length:=by obtain⟨t,ht⟩:=E7.2;rw[ht];simp[rh]
 have hC:r.2.flatten.length=r.2.length * 256:=by have:=tG k3;rw[<- wD,mb] at this;exact this
 have cC:∀ c∈r.2.flatten,c < (r.2.length:Int):=by
  intro c hc;obtain⟨l,h1,h2⟩:=Hae.1 hc
  rw[k2];exact E7.1 l h1 c h2
 have h64:r.2.length<=64:=by rw[k2];exact k1.1
 have h0:0 < r.2.length:=by omega
 obtain⟨fr,fk,v,hf,hls⟩:=eU (Da Fa 7) (.box [.pv .ga]) (.box [.pv (.bool true),.pv (i64 a),.pv (i64 b)]) S nl r.2.isEmpty r.1 r.2.flatten r.2.length h64 h0 k2.symm hC cC
 have Ba:u3 r.2.length (ff r.2.length r.2.flatten):=EF _ _ (paa _) ⟨hC,by simp,cC,by intro c hc;rw[Ead hc];omega,by simp⟩
 obtain⟨O,J,htd⟩:=zY (Da Fa 7) (.box [.pv .ga]) (.box [.pv (.bool true),.pv (i64 a),.pv (i64 b)]) S nl r.2.isEmpty fr r.1 (ff r.2.length r.2.flatten).C r.2.length (.seq 1 false (La (ff r.2.length r.2.flatten).Ac) fk false) (.map (Tu (ff r.2.length r.2.flatten).M)) Ba.hC Ba.cC (by omega) h64 h0
 rw[hl] at htd;unfold Nk;generalize l.map Ee=out at *
 generalize ff r.2.length r.2.flatten=g at *
 simp only[Ri] at hwk hls htd;have hS2:S= .ga\/∃ l,S= .lit 2 l:=by rcases hS with⟨h,_⟩ | h;exact .inl h;exact .inr ⟨_,h⟩
 rcases hS0 with rfl | ⟨l,rfl⟩ <;> rcases hS2 with rfl | ⟨l2,rfl⟩ <;>
 simp -implicitDefEqProofs only[Ec,SP,SA,SQ,sevalprocAttr,-List.reduceReplicate,tm,hp,hc,hwk,hls,htd,Fa,fe,jj,AV.VE,AV.Lq,bne,Mg,Fc]
end
structure gq(v:PV)(l:List (Int×Int)):Prop where
 is:Vh 2 v (de l)
 sz:l.length * 16<=140737488355328
structure zf(P:PV)(ls:List (List (Int×Int)))(ps:List PV):Prop where
 is:Vh 1 P ps
 len:ps.length=ls.length
 all:∀ (k:Nat) v l,ps[k]? =some v->ls[k]? =some l->gq v l
 sz:ls.length<=maxLen
structure dg(e:PV)(s:Nb)(P:PV)(ps:List PV):Prop where
 eq:e= .agg [P,i64 s.first]
 parts:zf P s.parts ps
structure qb(S:PV)(ss:List Nb)(es:List PV):Prop where
 is:Vh 2 S es
 len:es.length=ss.length
 all:∀ (k:Nat) e s,es[k]? =some e->ss[k]? =some s->∃ P ps,dg e s P ps
 sz:ss.length<=maxLen
theorem zf.get{P:PV}{ls:List (List (Int×Int))}{ps:List PV}(h:zf P ls ps){i:Nat}(hi:i < ls.length):∃ v,ps[i]? =some v/\P= .lit 1 ps/\gq v ls[i]:=by
 have h1:i < ps.length:=by rw[h.len];exact hi
 refine⟨ps[i],aaa h1,h.is.lit (i:=i) h1,h.all i _ _ (aaa h1) (aaa hi)⟩
theorem qb.get{S:PV}{ss:List Nb}{es:List PV}(h:qb S ss es){i:Nat}(hi:i < ss.length):∃ e P ps,es[i]? =some e/\S= .lit 2 es/\dg e ss[i] P ps:=by
 have h1:i < es.length:=by rw[h.len];exact hi
 obtain⟨P,ps,hp⟩:=h.all i _ _ (aaa h1) (aaa hi)
 exact⟨es[i],P,ps,aaa h1,h.is.lit (i:=i) h1,hp⟩
theorem zf.Tb{P:PV}{ls:List (List (Int×Int))}{ps:List PV}(h:zf P ls ps)(H:List ba):Tb H 0 (.pv P)=some ls.length:=by
 rw[h.is.len,h.len]
theorem qb.Tb{S:PV}{ss:List Nb}{es:List PV}(h:qb S ss es)(H:List ba):Tb H 0 (.pv S)=some ss.length:=by
 rw[h.is.len,h.len]
def Ad(l:List (Int×Int)):Prop:=l≠[]/\Pa 255 (-2) l=true
instance (l:List (Int×Int)):Decidable (Ad l):=by unfold Ad;infer_instance
def Uh:Int->List (List (Int×Int))->Int
 |n,[]=>n
 |n,l::r=>Uh (if 1073741825 < n * ib 0 l then 1073741825 else n * ib 0 l) r
def yi(s:Nb):Int:=s.first+Uh 1 s.parts - 1
theorem Xg{l:List (Int×Int)}(h:Ad l):1<=ib 0 l/\ib 0 l<=256:=by
 have:=(Ut h.2).2.1 h.1;omega
theorem iz{n s:Int}(h1:1<=n)(h2:n<=1073741825)(h3:1<=s)(h4:s<=256):1<=n * s/\n * s<=274877907200:=by
 constructor
 ·have:=Int.mul_le_mul h1 h3 (by omega) (by omega);omega
 ·have:=Int.mul_le_mul h2 h4 (by omega) (by omega);omega
theorem Bn:∀ (ls:List (List (Int×Int)))(n:Int),(∀ l∈ls,Ad l)->1<=n->n<=1073741825->1<=Uh n ls/\Uh n ls<=1073741825
 | [],n,_,h1,h2=>⟨h1,h2⟩
 |l::r,n,h,h1,h2=>by
  have hs:=Xg (h l (by simp));have hm:=iz h1 h2 hs.1 hs.2
  rw[Uh];refine Bn r _ (fun x hx=>h x (by simp[hx])) ?_ ?_ <;> split <;> omega
abbrev bM(row:List PV)(P:PV)(len i n:Int):Tr:=((((Tr.lf.set 9 (.pv (i64 i))).set 8 (.pv (i64 len))).set 7 (.pv P)).set 3 (.pv (i64 n))).set 1 (.pv (.rp row 0))
theorem lM{e:PV}{s:Nb}{P:PV}{ps:List PV}(h:dg e s P ps)(Ba:∀ l∈s.parts,Ad l)(hf:0<=s.first/\s.first<=1073741823):Tp [e]=some (i64 (yi s)):=by
 obtain⟨rfl,hP⟩:=h;have hb:=Bn s.parts 1 Ba (by omega) (by omega)
 have L7:=hP.sz
 have D7:qd (fun r=>∃ E H,r=(.exit 0,⟨E,H⟩)/\E.get 3= .pv (i64 (Uh 1 s.parts))/\E.get 1= .pv (.rp [P,i64 s.first] 0))
  (ab (ma (oa (Da (fun _=>none) 8) Fi) (na 0 [1,3,7,8,9])) ua ⟨bM [P,i64 s.first] P s.parts.length 0 1,[]⟩):=by
  refine wa (Fb (g:=ma (oa (Da (fun _=>none) 8) Fi) (na 0 [1,3,7,8,9]))
   (fun i t=>∃ n,t=⟨bM [P,i64 s.first] P s.parts.length i n,[]⟩/\1<=n/\n<=1073741825/\Uh 1 s.parts=Uh n (s.parts.drop i))
   s.parts.length (by unfold ua;unfold maxLen at L7;omega) _ ⟨1,rfl,by omega,by omega,rfl⟩ ?_ ?_) (fun r h=>h.2)
  ·rintro i t hi ⟨n,rfl,h1,h2,hs⟩
   obtain⟨v,hv,hPl,Y8⟩:=hP.get hi
   have hd:s.parts.drop i=s.parts[i]::s.parts.drop (i+1):=Paa hi
   have N8:=Ba s.parts[i] (jaa hi)
   have hss:=sy v s.parts[i] Y8.is Y8.sz N8.2
   have hsb:=Xg N8;rw[hd,Uh] at hs;generalize s.parts[i]=l at *
   have hm:=iz h1 h2 hsb.1 hsb.2
   have e1:decide ((i:Int) < (s.parts.length:Int))=true:=Ea (by omega);have t2:=Za hi L7;have t3:IntKind.i64.wrap (n * ib 0 l)=n * ib 0 l:=Aa (by omega)
   have hq:i < ps.length:=by rw[hP.len];exact hi
   have P7:v.cells=[v]:=by rcases Y8.is with⟨h,_⟩ | h <;> rw[h] <;> rfl
   have a1:ta [] 1 (.pv P) (i:Int)=some (.pv (.rp [v] 0)):=by rw[hPl];simp only[ta];rw[if_pos (by unfold Ia;simp;omega),Daa,hv];simp[P7]
   have a2:pa [] false 1 (.pv (.rp [v] 0))=some (.pv v):=rfl;generalize hQ:LN _ _ i=Q;simp -implicitDefEqProofs only[SX,sevalprocAttr,Fi,e1,t2,t3,a1,a2,hss,ep,Ye,na,Ca,AV.cut,za,bM];subst hQ;exact⟨_,rfl,by split <;> omega,by split <;> omega,hs⟩
  ·rintro t ⟨n,rfl,h1,h2,hs⟩
   rw[vab,Uh] at hs;have e1:decide ((s.parts.length:Int) < (s.parts.length:Int))=false:=Ga (by omega);generalize hQ:(fun r:Ex×St=>r.1.stop=true/\_)=Q;simp -implicitDefEqProofs only[SX,sevalprocAttr,Fi,e1,bM];subst hQ;exact⟨rfl,_,_,rfl,by simp[Tr.aa,hs],by simp[Tr.aa]⟩
 obtain⟨r,h1,E,H,rfl,hE,hE1⟩:=wc D7;have ls:=hP.Tb
 simp only[bM] at h1;have D9:ab (ma (oa (Da (fun _=>none) 8) Fi) (na 0 [1,3,7,8,9])) ua ⟨((((Tr.lf.set 9 (.pv (.int .i64 0))).set 8 (.pv (.int .i64 s.parts.length))).set 7 (.pv P)).set 3 (.pv (.int .i64 1))).set 1 (.pv (.rp [P,i64 s.first] 0)),[]⟩=some (.exit 0,⟨E,H⟩):=h1;unfold yi;generalize Uh 1 s.parts=n at *
 have t1:IntKind.i64.wrap (s.first+n)=s.first+n:=Aa (by omega)
 have t2:IntKind.i64.wrap (s.first+n - 1)=s.first+n - 1:=Aa (by omega)
 have hPv:∃ sz es,P= .ga\/P= .lit sz es:=by rcases hP.is with⟨h,_⟩ | h;exact⟨0,[],.inl h⟩;exact⟨_,_,.inr h⟩
 obtain⟨sz,es,rfl | rfl⟩:=hPv <;>;simp -implicitDefEqProofs only[Tp,SP,SA,SQ,WP,WQ,sevalprocAttr,vu,Db,ls,D9,hE,hE1,t1,t2]
theorem tY(call:Sa){v:PV}{l:List (Int×Int)}(h:gq v l)(H:List ba):ef call Rk [.pv v] H=some (.pv (.bool (!decide (Ad l))),H):=by
 have ls:=h.is.len
 simp only[de,haa] at ls;have hv:=PE v l h.is h.sz
 by_cases h0:l=[]
 ·have e1:((l.length:Int)==0)=true:=by simp[h0]
  have e2:(!decide (Ad l))=true:=by
   have:¬Ad l:=fun hp=>hp.1 h0
   simp[this]
  rw[e2];simp -implicitDefEqProofs only[SP,SA,SQ,WP,WQ,sevalprocAttr,Rk,ls,e1]
 ·have e1:((l.length:Int)==0)=false:=by
   have:l.length≠0:=fun e=>h0 (qaa e)
   exact lj (by omega)
  have e2:(!decide (Ad l))= !(Pa 255 (-2) l):=by
   congr 1
   rw[Xad];simp[Ad,h0]
  rw[e2];simp -implicitDefEqProofs only[SP,SA,SQ,WP,WQ,sevalprocAttr,Rk,ls,e1,hv]
def Oy(ls:List (List (Int×Int)))(i:Nat):Int:=
 match ls with
 | []=> -1
 |l::r=>if Ad l then Oy r (i+1) else i
theorem YJ:∀ (ls:List (List (Int×Int)))(i:Nat),decide (Oy ls i>=0)= !decide (∀ l∈ls,Ad l)
 | [],i=>by simp[Oy]
 |l::r,i=>by
  rw[Oy]
  by_cases h:Ad l
  ·rw[if_pos h,YJ r];simp[h]
  ·rw[kaa h];simp[h]
abbrev BO(P:PV)(len i:Int):Tr:=(((Tr.lf.set 8 (.pv (i64 i))).set 7 (.pv (i64 len))).set 1 (.Ol 7 [])).set 0 (.pv P)
theorem KS{P:PV}{ls:List (List (Int×Int))}{ps:List PV}(hP:zf P ls ps)(d:Nat)(H:List ba)(hH:Wd H):
 ef (Da Yb (d+1)) Bc [.pv P,.Ol 7 []] H=some (.pv (i64 (Oy ls 0)),H):=by
 have L7:=hP.sz
 have lsn:=hP.Tb
 have C7:=Wd.cut hH
 have h7:Yb 7=some Rk:=rfl;apply Xk;have D7:qd (fun r=>∃ E,(r=(.exit 0,⟨E,H⟩)/\Oy ls 0= -1)\/(r=(.ret,⟨E,H⟩)/\E.get 4= .pv (i64 (Oy ls 0))))
  (ab (ma (oa (Da Yb (d+1)) Lb) (na H.length [0,1,7,8])) ua ⟨BO P ls.length 0,H⟩):=by
  refine wa (Fb (g:=ma (oa (Da Yb (d+1)) Lb) (na H.length [0,1,7,8]))
   (fun i t=>t=⟨BO P ls.length i,H⟩/\Oy ls 0=Oy (ls.drop i) i)
   ls.length (by unfold ua;unfold maxLen at L7;omega) _ ⟨rfl,rfl⟩ ?_ ?_) (fun r h=>h.2)
  ·rintro i t hi ⟨rfl,hs⟩
   obtain⟨v,hv,hPl,Y8⟩:=hP.get hi
   have hd:ls.drop i=ls[i]::ls.drop (i+1):=Paa hi
   rw[hd,Oy] at hs;have hn:=tY (Da Yb d) Y8 H;generalize ls[i]=l at *;have e1:decide ((i:Int) < (ls.length:Int))=true:=Ea (by omega);have t2:=Za hi L7;have hq:i < ps.length:=by rw[hP.len];exact hi
   have P7:v.cells=[v]:=by rcases Y8.is with⟨h,_⟩ | h <;> rw[h] <;> rfl
   have a1:ta H 1 (.pv P) (i:Int)=some (.pv (.rp [v] 0)):=by rw[hPl];simp only[ta];rw[if_pos (by unfold Ia;simp;omega),Daa,hv];simp[P7]
   have a2:pa H false 1 (.pv (.rp [v] 0))=some (.pv v):=rfl;generalize hQ:LN _ _ i=Q
   by_cases Ba:Ad l
   ·rw[if_pos Ba] at hs
    rw[decide_eq_true Ba] at hn;simp -implicitDefEqProofs only[SX,sevalprocAttr,Lb,e1,t2,a1,a2,h7,hn,C7,sab,na,Ca,AV.cut,za,BO];subst hQ;exact⟨rfl,hs⟩
   ·rw[kaa Ba] at hs
    rw[decide_eq_false Ba] at hn;simp -implicitDefEqProofs only[SX,sevalprocAttr,Lb,e1,t2,a1,a2,h7,hn,C7,sab,na,Ca,AV.cut,za,BO];subst hQ;exact⟨_,.inr ⟨rfl,by simp[Tr.aa,hs]⟩⟩
  ·rintro t ⟨rfl,hs⟩
   rw[vab,Oy] at hs;have e1:decide ((ls.length:Int) < (ls.length:Int))=false:=Ga (by omega);generalize hQ:(fun r:Ex×St=>r.1.stop=true/\_)=Q;simp -implicitDefEqProofs only[SX,sevalprocAttr,Lb,e1,BO];subst hQ;exact⟨rfl,_,.inl ⟨rfl,hs⟩⟩
 simp -implicitDefEqProofs only[SX,sevalprocAttr,Bc,Db,lsn,C7,sab,na,Ca,AV.cut,za];refine wa D7 ?_;rintro _ ⟨E,⟨rfl,hb⟩ | ⟨rfl,hE⟩⟩
 ·simp -implicitDefEqProofs only[SX,sevalprocAttr,hb]
 ·simp -implicitDefEqProofs only[SX,sevalprocAttr,hE]
theorem dB{P:PV}{ls:List (List (Int×Int))}{ps:List PV}(hP:zf P ls ps)(d:Nat)(H:List ba)(hH:Wd H):
 ef (Da Yb (d+2)) Kb [.pv P,.Ol 7 []] H=some (.pv (.bool (!decide (∀ l∈ls,Ad l))),H):=by
 have h:=KS hP d H hH;have h5:Yb 5=some Bc:=rfl;have hb:=YJ ls 0;simp -implicitDefEqProofs only[SX,sevalprocAttr,Kb,h5,h,hb]
end Go.AM.B1
