/- What functions of the program compute. -/
import Derived.Test.YtijlhblleiaomaaGreatL2
import Derived.Test.YtijlhblleiaomaaGreatK3
import Derived.Test.YtijlhblleiaomaaGreatL1
set_option linter.unusedVariables false
set_option linter.unusedSimpArgs false
namespace Go.AM.B1
open Go.AM Go.AM.So
theorem Bar:sP=cx:=rfl
theorem Aar:qP=cx:=rfl
theorem Car:rP=cx:=rfl
def It(p:Int×Int):List PV:=[aa p.1,aa p.2]
def Hg(l:List (Int×Int)):Array (List PV):=(l.map It).toArray
def wP(r:List PV):Prop:=∃ p,r=It p
theorem pF(r:List PV)(h:wP r):yP 2 r:=by
 obtain⟨p,rfl⟩:=h;exact⟨rfl,by intro c hc;simp[It] at hc;rcases hc with rfl | rfl <;> rfl⟩
theorem CU(l:List (Int×Int)):∀ r∈(Hg l).toList,wP r:=by
 intro r hr;simp[Hg] at hr;obtain⟨a,b,_,rfl⟩:=hr;exact⟨(a,b),rfl⟩
theorem eJ(l:List (Int×Int)):(Hg l).size=l.length:=by simp[Hg]
def mc(l:List (Int×Int))(fl:Nat)(nl:Bool):fa:=Gj 2 (Hg l) fl nl
theorem Io(l:List (Int×Int)):(Dg (Hg l)).length=l.length * 2:=by
 rw[vM fun r hr=>pF r (CU l r hr),eJ]
theorem x6{A:List fa}{id n fl bytes:Nat}{nl:Bool}{h:Qc}{l:List (Int×Int)}(hg:A[id]? =some (mc l fl nl))(hn:n=l.length)(hr:Ac (n+1) bytes)(p:Int×Int):
 Ud A true h 2 true bytes (.own id n) (.pv (.lit 2 [pr p]))=some (.own id (n+1),A.set id (mc (l++[p]) fl false)):=by
 subst hn;have hl:=Io l;have e:Dg (Hg (l++[p]))=Dg (Hg l)++[.pv (aa p.1),.pv (aa p.2)]:=by simp[Dg,Hg,It]
 simp only[Ud,if_true,hg,mc,Gj,yk,Bg,Vc,Lc,flat,PV.cells,pr,yi,Pf,gv,Td,Ch,e];rw[if_pos]
 ·simp
 ·exact⟨trivial,by omega,hr,rfl⟩
theorem CN(H:List fa)(d:Nat)(l:List PV):Ha (qb H d) (l.map .pv)=some l:=by
 induction l with
 |nil=>rfl
 |cons a l ih=>simp only[Pf,Ha,ej,Lc,ih]
theorem LW:∀ (l:List (Int×Int)),chunk 2 true l.length ((l.map It).flatten)=Pa l
 | []=>rfl
 |p::l=>by have ih:=LW l;simp only[Td,Pf,um,chunk,if_true,It] at ih ⊢;simp only[Sg,Kf,RC,List.take_zero,Nz,Un,Pa,Pf];rw[ih]
theorem fao{A:List fa}{id n fl:Nat}{nl:Bool}{l:List (Int×Int)}(hg:A[id]? =some (mc l fl nl))(hn:n=l.length)(d:Nat):qb A (d+1) (.own id n)=some (if nl then .oa else .lit 2 (Pa l)):=by
 subst hn;have hl:=Io l;have e:Dg (Hg l)=((l.map It).flatten).map .pv:=by simp[Dg,Hg]
 simp only[qb,hg,mc,Gj];rw[if_pos ⟨by omega,rfl⟩,e,CN];cases nl with
 |true=>rfl
 |false=>simp only[Sc,if_false,Vc,LW]
theorem yU(A:List fa)(x y:AV)(p:Int×Int):Db (A++[.box [x,y]]) 2 (.ptr A.length 0) (.pv (pr p))=some (A++[.box [.pv (aa p.1),.pv (aa p.2)]]):=by
 simp only[Db,AV.cells,PV.cells,pr,Pf,gv,Td,Ch,List.all,AV.one,dn,Uu];simp[za]
theorem xU(A:List fa)(p:Int×Int):wa (A++[.box [.pv (aa p.1),.pv (aa p.2)]]) true 2 (.ptr A.length 0)=some (.pv (pr p)):=by
 simp[wa,tg,mq,bd]
theorem WB(l:List (Int×Int))(fl:Nat)(nl:Bool)(n:Nat):Fa n (mc l fl nl)=some (mc l fl nl):=SU _ _ _ _ _
abbrev eM(v:PV)(id n len i:Nat):Tr:=(((Tr.lf.set 11 (.pv (aa i))).set 10 (.pv (aa len))).set 9 (.pv v)).set 3 (.own id n)
theorem zw(A:List fa){l:List (Int×Int)}{i:Nat}(hi:i < l.length):Ua A 2 (.pv (.lit 2 (Pa l))) (i:Int)=some (.pv (.rp [aa l[i].1,aa l[i].2] 0)):=by
 have hg:=Hw hi;simp only[Ua];rw[if_pos (by unfold Ta;simp;omega),Uc,hg];rfl
theorem Aap(A:List fa)(p:Int×Int):wa A true 2 (.pv (.rp [aa p.1,aa p.2] 0))=some (.pv (pr p)):=by
 simp[wa,Dj]
theorem zar(call:Ab)(v:PV)(l:List (Int×Int))(hv:Pb 2 v (Pa l))(hw:l.length * 16<=140737488355328)(H:List fa)(hH:Pd H):
 Gc call TG [.pv v] H=some (.own H.length l.length,H++[mc l 0 false]):=by
 have ls:=hv.len
 simp only[Pa,wb] at ls;have Ma:H.length < H.length+1:=SC _
 have hlen:∀ l',(H++[mc l' 0 false]).length=H.length+1:=fun l'=>by simp
 have Eb:∀ l',Ha (Fa (H.length+1)) (H++[mc l' 0 false])=some (H++[mc l' 0 false]):=fun l'=>gq fun o ho=>by
  rcases Bd.1 ho with h | h
  ·exact hH _ (by omega) o h
  ·simp at h;subst h;exact WB _ _ _ _
 have yc:Ia (fun r=>∃ E,r=(.exit 0,⟨E,H++[mc l 0 false]⟩)/\E.get 3= .own H.length l.length)
  (Mb (Aa (ua call UG) (ta (H.length+1) [3,9,10,11])) Ga ⟨eM v H.length 0 l.length 0,H++[mc [] 0 false]⟩):=by
  refine Bb (We (g:=Aa (ua call UG) (ta (H.length+1) [3,9,10,11]))
   (fun i t=>t=⟨eM v H.length i l.length i,H++[mc (l.take i) 0 false]⟩)
   l.length (by unfold Ga;omega) _ rfl ?_ ?_) (fun r h=>h.2)
  ·rintro i t hi rfl
   have hv:=hv.lit (i:=i) (by simpa using hi)
   subst hv;have e1:decide ((i:Int) < (l.length:Int))=true:=Qa (by omega);have t2:=ee hi (by unfold maxLen;omega);have a1:=zw (H++[mc (l.take i) 0 false]) hi;have l1:=Aap (H++[mc (l.take i) 0 false]) l[i];have s1:=yU (H++[mc (l.take i) 0 false]) (.pv (aa 0)) (.pv (aa 0)) l[i];have l2:=xU (H++[mc (l.take i) 0 false]) l[i];have vd:=x6 (A:=H++[mc (l.take i) 0 false]++[.box [.pv (aa l[i].1),.pv (aa l[i].2)]]) (id:=H.length) (n:=i) (h:= .own) (bytes:=16) (by rw[Kc (by simp)];exact dn _ _) (by simp;omega) (by unfold Ac;omega) l[i];rw[kv _ _ (by simp),Uu,<-List.take_succ_eq_append_getElem hi] at vd;have od:(H++[mc (l.take (i+1)) 0 false]++[fa.box [.pv (aa l[i].1),.pv (aa l[i].2)]]).take (H.length+1)=H++[mc (l.take (i+1)) 0 false]:=by rw[gG (by simp),Ih (by simp)]
   have hc:=Eb (l.take (i+1));generalize l[i]=p at *;generalize hQ:LN _ _ i=Q;simp -implicitDefEqProofs only[SP,WP,za,sevalprocAttr,UG,e1,t2,a1,l1,s1,l2,vd,od,hc,Ma,ta,Za,AV.cut,Cb,eM];subst hQ;rfl
  ·rintro t rfl
   rw[ai];have e1:decide ((l.length:Int) < (l.length:Int))=false:=Ra (by omega);generalize hQ:(fun r:Ex×St=>r.1.stop=true/\_)=Q;simp -implicitDefEqProofs only[SX,sevalprocAttr,UG,e1,eM];subst hQ;exact⟨rfl,_,rfl,by simp[Tr.na]⟩
 have h2:(0:Int)<=(l.length:Int):=by omega
 have h3:Ac l.length 16:=by unfold Ac;omega
 have n0:(0:Int).toNat=0:=rfl
 have ho:fa.seq 2 true [] 0 false=mc [] 0 false:=rfl
 apply Hl;simp -implicitDefEqProofs only[SX,sevalprocAttr,TG,Oc,ls,Ll,Sa h2,Sa h3,n0,ho,hlen,Eb,Ma,Ih (show (H++[mc [] 0 false]).length<=H.length+1 by simp),ta,Za,AV.cut,Cb];refine Bb yc ?_;rintro _ ⟨E,rfl,hE⟩;simp -implicitDefEqProofs only[SX,sevalprocAttr,hE]
theorem Jo{A:List fa}{id n sz bytes:Nat}{nl ag:Bool}{h:Qc}{es:List PV}(hg:A[id]? =some (.tok sz n nl))(hn:n=es.length)(hr:Ac (n+1) bytes)(e:PV):
 Ud A false h sz ag bytes (.uq id nl sz es) (.pv (.lit sz [e]))=some (.uq id false sz (es++[e]),A.set id (.tok sz (n+1) false)):=by
 subst hn;simp only[Ud,Sc,if_false,hg,Bg,if_true,Lc,Td,Ch];rw[if_pos ⟨trivial,trivial,trivial,hr⟩];simp
abbrev dM(id n i tk:Nat)(nl:Bool)(es:List PV):Tr:=(((Tr.lf.set 11 (.pv (aa i))).set 10 (.pv (aa n))).set 9 (.own id n)).set 3 (.uq tk nl 2 es)
theorem y6{A:List fa}{id fl:Nat}{nl:Bool}{l:List (Int×Int)}(hg:A[id]? =some (mc l fl nl))(hf:fl<=l.length * 2)(hA:Pd A):Hp id 2 wP A (Hg l) A:=
 Hp.refl (fl:=fl) (nl:=nl) hA (by rw[eJ];exact hf) hg (CU l)
theorem C6{l:List (Int×Int)}{i:Nat}(hi:i < l.length):(Hg l)[i]! =It l[i]:=by
 rw[HY (by rw[eJ];exact hi)];simp[Hg]
theorem yar(call:Ab)(l:List (Int×Int)){id fl:Nat}{nl:Bool}(H:List fa)(hH:Pd H)(hg:H[id]? =some (mc l fl nl))(hf:fl<=l.length * 2)(hw:l.length * 16<=140737488355328):
 Gc call RG [.own id l.length] H=some (.uq H.length false 2 (Pa l),H++[.tok 2 l.length false]):=by
 have hp:=y6 hg hf hH;have Ma:id < H.length:=hp.lt
 have uy:id < H.length+1:=by omega
 have od:H.length < H.length+1:=SC _
 have hl:=Io l;have hn:l.length=(Hg l).size:=(eJ l).symm
 have hlen:∀ m b,(H++[fa.tok 2 m b]).length=H.length+1:=fun m b=>by simp
 have Eb:∀ m b,Ha (Fa (H.length+1)) (H++[fa.tok 2 m b])=some (H++[fa.tok 2 m b]):=fun m b=>gq fun o ho=>by
  rcases Bd.1 ho with h | h
  ·exact hH _ (by omega) o h
  ·simp at h;subst h;rfl
 have qZ:∀ T,mb (H++T) 0 (.own id l.length)=some l.length:=by intro T;rw[zN,Kc Ma,hg];simp only[mc,Gj];rw[if_pos];unfold bh;omega
 have Rai:mb H 0 (.own id l.length)=some l.length:=by have:=qZ [];rwa [yi] at this
 have yc:Ia (fun r=>∃ E,r=(.exit 0,⟨E,H++[.tok 2 l.length false]⟩)/\E.get 3= .uq H.length false 2 (Pa l))
  (Mb (Aa (ua call SG) (ta (H.length+1) [3,9,10,11])) Ga ⟨dM id l.length 0 H.length false [],H++[.tok 2 0 false]⟩):=by
  refine Bb (We (g:=Aa (ua call SG) (ta (H.length+1) [3,9,10,11]))
   (fun i t=>t=⟨dM id l.length i H.length false (Pa (l.take i)),H++[.tok 2 i false]⟩)
   l.length (by unfold Ga;omega) _ rfl ?_ ?_) (fun r h=>h.2)
  ·rintro i t hi rfl
   have e1:decide ((i:Int) < (l.length:Int))=true:=Qa (by omega);have t2:=ee hi (by unfold maxLen;omega);have a1:=O0 [.tok 2 i false] Ma (hp.Nd pF hn (i:=(i:Int)) rfl (by omega));have l1:=Q2 [.tok 2 i false] Ma (hp.load pF hn (k:=i) (by omega));rw[C6 hi] at l1;have II:wa (H++[.tok 2 i false]) true 2 (.Sb id (l.length * 2) (i * 2))=some (.pv (pr l[i])):=l1;have s1:=yU (H++[.tok 2 i false]) (.pv (aa 0)) (.pv (aa 0)) l[i];have l2:=xU (H++[.tok 2 i false]) l[i];have vd:=Jo (A:=H++[.tok 2 i false]++[.box [.pv (aa l[i].1),.pv (aa l[i].2)]]) (id:=H.length) (n:=i) (h:= .uq) (ag:=true) (nl:=false) (sz:=2) (bytes:=16) (es:=Pa (l.take i)) (by rw[Kc (by simp)];exact dn _ _) (by simp;omega) (by unfold Ac;omega) (pr l[i]);have hs:Pa (l.take (i+1))=Pa (l.take i)++[pr l[i]]:=by rw[List.take_succ_eq_append_getElem hi];simp only[Pa,xm,Pf,gv]
   rw[kv _ _ (by simp),Uu,<-hs] at vd;have Lm:(H++[fa.tok 2 (i+1) false]++[fa.box [.pv (aa l[i].1),.pv (aa l[i].2)]]).take (H.length+1)=H++[fa.tok 2 (i+1) false]:=by rw[gG (by simp),Ih (by simp)]
   have hc:=Eb (i+1) false;generalize l[i]=p at *;generalize oai:Pa (l.take (i+1))=es' at *;generalize Pa (l.take i)=es at *;generalize hQ:LN _ _ i=Q;simp -implicitDefEqProofs only[SP,WP,za,sevalprocAttr,SG,e1,t2,a1,II,s1,l2,vd,od,Lm,hc,uy,ta,Za,AV.cut,Cb,dM];subst hQ;subst oai;rfl
  ·rintro t rfl
   rw[ai];have e1:decide ((l.length:Int) < (l.length:Int))=false:=Ra (by omega);generalize hQ:(fun r:Ex×St=>r.1.stop=true/\_)=Q;simp -implicitDefEqProofs only[SX,sevalprocAttr,SG,e1,dM];subst hQ;exact⟨rfl,_,rfl,by simp[Tr.na]⟩
 have h2:(0:Int)<=(l.length:Int):=by omega
 have h3:Ac l.length 16:=by unfold Ac;omega
 have n0:(0:Int).toNat=0:=rfl
 apply Hl;simp -implicitDefEqProofs only[SX,sevalprocAttr,RG,Oc,qZ,Rai,Ll,Sa h2,Sa h3,n0,hlen,Eb,uy,od,Ih (show (H++[fa.tok 2 0 false]).length<=H.length+1 by simp),ta,Za,AV.cut,Cb];refine Bb yc ?_;rintro _ ⟨E,rfl,hE⟩;simp -implicitDefEqProofs only[SX,sevalprocAttr,hE]
def Mf(x:Int)(l:List (Int×Int)):Prop:=∃ p∈l,p.1<=x/\x<=p.2
def Qg:List (Int×Int)->List (Int×Int)->List (Int×Int)
 |out,[]=>out
 |out,r::rest=>match out.getLast? with
  |some q=>if r.1<=q.2+1 then Qg (out.dropLast++[(q.1,if r.2 > q.2 then r.2 else q.2)]) rest else Qg (out++[r]) rest
  |none=>Qg (out++[r]) rest
theorem M4(r:Int×Int)(rest:List (Int×Int)):Qg [] (r::rest)=Qg [r] rest:=rfl
theorem K4{out rest:List (Int×Int)}{q r:Int×Int}(h:r.1<=q.2+1):Qg (out++[q]) (r::rest)=Qg (out++[(q.1,if r.2 > q.2 then r.2 else q.2)]) rest:=by
 rw[Qg,List.getLast?_append];simp[h]
theorem L4{out rest:List (Int×Int)}{q r:Int×Int}(h:¬r.1<=q.2+1):Qg (out++[q]) (r::rest)=Qg (out++[q]++[r]) rest:=by
 rw[Qg,List.getLast?_append];simp[h]
section
variable {A:List fa}{id fl:Nat}{nl:Bool}{out:List (Int×Int)}{q:Int×Int}(hg:A[id]? =some (mc (out++[q]) fl nl))(hf:fl<=(out.length+1) * 2)
include hg hf
theorem Xak:Ua A 2 (.own id (out.length+1)) (out.length:Int)=some (.Sb id ((out.length+1) * 2) (out.length * 2)):=by
 have hl:=Io (out++[q]);rw[Pc,Td,Ch] at hl;simp only[Ua,hg,mc,Gj];rw[if_pos (by refine⟨trivial,?_,?_⟩ <;> first | (unfold Ta;omega) | (unfold bh;omega))];simp
omit hf in
theorem Zak:place A 1 (.Sb id ((out.length+1) * 2) (out.length * 2))=some (.Sb id ((out.length+1) * 2) (out.length * 2+1)):=by
 have hl:=Io (out++[q]);rw[Pc,Td,Ch] at hl;simp only[place,hg,mc,Gj,hl,if_true]
omit hf in
theorem Yak:wa A false 1 (.Sb id ((out.length+1) * 2) (out.length * 2+1))=some (.pv (aa q.2)):=by
 have hl:=Io (out++[q]);rw[Pc,Td,Ch] at hl;simp only[wa,hg,mc,Gj,hl,if_true,tg,Sc,if_false];have e:Dg (Hg (out++[q]))=Dg (Hg out)++[.pv (aa q.1),.pv (aa q.2)]:=by simp[Dg,Hg,It]
 have Mh:=Io out;rw[e,Tg (by omega),Mh];have:out.length * 2+1 - out.length * 2=1:=by omega
 rw[this];rfl
omit hf in
theorem aal(v:Int):Db A 1 (.Sb id ((out.length+1) * 2) (out.length * 2+1)) (.pv (aa v))=some (A.set id (mc (out++[(q.1,v)]) ((out.length+1) * 2) nl)):=by
 have hl:=Io (out++[q]);rw[Pc,Td,Ch] at hl;have e:∀ q:Int×Int,Dg (Hg (out++[q]))=Dg (Hg out)++[.pv (aa q.1),.pv (aa q.2)]:=fun q=>by simp[Dg,Hg,It]
 have Mh:=Io out;have hs:za (Dg (Hg (out++[q]))) (out.length * 2+1) [.pv (aa v)]=Dg (Hg (out++[(q.1,v)])):=by
  rw[e,e,za,za,Po _ _ (by omega),Mh];have:out.length * 2+1 - out.length * 2=1:=by omega
  rw[this];rfl
 have hc:(AV.pv (aa v)).cells=[.pv (aa v)]:=rfl
 simp only[Db,hg,mc,Gj,hc];rw[if_pos ⟨rfl,rfl⟩,if_pos ⟨hl,by omega⟩,hs]
end
abbrev Xx(id0 n i id1 m:Nat):Tr:=(((Tr.lf.set 11 (.pv (aa i))).set 10 (.pv (aa n))).set 9 (.own id0 n)).set 3 (.own id1 m)
def aA(l:List (Int×Int)):Prop:=∀ p∈l,-4611686018427387904<=p.2/\p.2<=4611686018427387904
theorem Iap{a b:List (Int×Int)}(ha:aA a)(hb:aA b):aA (a++b):=by
 intro p hp;rcases Bd.1 hp with h | h
 ·exact ha p h
 ·exact hb p h
theorem qam(call:Ab)(l:List (Int×Int))(hl:aA l){id0 RA:Nat}{PB:Bool}(H:List fa)(hH:Pd H)(uE:H[id0]? =some (mc l RA PB))(Yk:RA<=l.length * 2)(hw:l.length<=1000000):
 Ia (fun r=>∃ E fl nl,r=(.exit 0,⟨E,H++[mc (Qg [] l) fl nl]⟩)/\E.get 3= .own H.length (Qg [] l).length/\fl<=(Qg [] l).length * 2)
  (Mb (Aa (ua call zA) (ta (H.length+1) [3,9,10,11])) Ga ⟨Xx id0 l.length 0 H.length 0,H++[mc [] 0 true]⟩):=by
 have hp:=y6 uE Yk hH;have Ma:id0 < H.length:=hp.lt
 have uy:id0 < H.length+1:=by omega
 have od:H.length < H.length+1:=SC _
 have hn:l.length=(Hg l).size:=(eJ l).symm
 have Eb:∀ a b c,Ha (Fa (H.length+1)) (H++[mc a b c])=some (H++[mc a b c]):=fun a b c=>gq fun o ho=>by
  rcases Bd.1 ho with h | h
  ·exact hH _ (by omega) o h
  ·simp at h;subst h;exact WB _ _ _ _
 refine Bb (We (g:=Aa (ua call zA) (ta (H.length+1) [3,9,10,11]))
  (fun i t=>∃ out fl nl,t=⟨Xx id0 l.length i H.length out.length,H++[mc out fl nl]⟩/\fl<=out.length * 2/\aA out/\out.length<=i/\Qg [] l=Qg out (l.drop i))
  l.length (by unfold Ga;omega) _ ⟨[],0,true,rfl,by omega,by intro p hp;simp at hp,by simp,rfl⟩ ?_ ?_) (fun r h=>h.2)
 ·rintro i t hi ⟨out,fl,nl,rfl,hfl,BB,hle,hs⟩
  have hd:l.drop i=l[i]::l.drop (i+1):=Hh hi
  rw[hd] at hs;have hsp:=hl l[i] (ic hi);have e1:decide ((i:Int) < (l.length:Int))=true:=Qa (by omega);have t2:=ee hi (by unfold maxLen;omega);have a1:=O0 [mc out fl nl] Ma (hp.Nd pF hn (i:=(i:Int)) rfl (by omega));have l1:=Q2 [mc out fl nl] Ma (hp.load pF hn (k:=i) (by omega));rw[C6 hi] at l1;have II:wa (H++[mc out fl nl]) true 2 (.Sb id0 (l.length * 2) (i * 2))=some (.pv (pr l[i])):=l1;have s1:=yU (H++[mc out fl nl]) (.pv (aa 0)) (.pv (aa 0)) l[i];have l2:=xU (H++[mc out fl nl]) l[i];have b0:∀ p:Int×Int,place (H++[mc out fl nl]++[fa.box [.pv (aa p.1),.pv (aa p.2)]]) 0 (.ptr (H++[mc out fl nl]).length 0)=some (.ptr (H++[mc out fl nl]).length 0):=fun p=>by simp[place]
  have b1:∀ p:Int×Int,place (H++[mc out fl nl]++[fa.box [.pv (aa p.1),.pv (aa p.2)]]) 1 (.ptr (H++[mc out fl nl]).length 0)=some (.ptr (H++[mc out fl nl]).length 1):=fun p=>by simp[place]
  have b2:∀ p:Int×Int,wa (H++[mc out fl nl]++[fa.box [.pv (aa p.1),.pv (aa p.2)]]) false 1 (.ptr (H++[mc out fl nl]).length 0)=some (.pv (aa p.1)):=fun p=>by simp[wa,tg]
  have b3:∀ p:Int×Int,wa (H++[mc out fl nl]++[fa.box [.pv (aa p.1),.pv (aa p.2)]]) false 1 (.ptr (H++[mc out fl nl]).length 1)=some (.pv (aa p.2)):=fun p=>by simp[wa,tg]
  have vd:=x6 (A:=H++[mc out fl nl]++[.box [.pv (aa l[i].1),.pv (aa l[i].2)]]) (id:=H.length) (n:=out.length) (h:= .own) (bytes:=16) (by rw[Kc (by simp)];exact dn _ _) rfl (by unfold Ac;omega) l[i];rw[kv _ _ (by simp),Uu] at vd;have Lm:∀ (o o2:fa),(H++[o]++[o2]).take (H.length+1)=H++[o]:=fun o o2=>by rw[gG (by simp),Ih (by simp)]
  have hlen:mb (H++[mc out fl nl]++[.box [.pv (aa l[i].1),.pv (aa l[i].2)]]) 0 (.own H.length out.length)=some out.length:=by rw[zN,Kc (by simp),dn];have:=Io out;simp only[mc,Gj];rw[if_pos];unfold bh;omega
  rcases zK out with rfl | ⟨out,q,rfl⟩
  ·have hz:decide (((0:Nat):Int) > 0)=false:=by decide
   rw[M4] at hs;rw[Ch] at vd hlen;rw[De,Kf] at vd;generalize l[i]=p at *;generalize hQ:LN _ _ i=Q;simp -implicitDefEqProofs only[SP,WP,za,sevalprocAttr,zA,e1,t2,a1,II,s1,l2,hlen,hz,vd,Lm,Eb,uy,od,ta,Za,AV.cut,Cb,Xx];subst hQ;exact⟨[p],fl,false,rfl,by simp at hfl ⊢;omega,by intro x hx;simp at hx;subst hx;exact hsp,by simp,hs⟩
  ·rw[xK] at *
   have SZ:=BB q (by simp);have vr:(out++[q]).length=out.length+1:=by simp
   have vE:(H++[mc (out++[q]) fl nl]++[fa.box [.pv (aa l[i].1),.pv (aa l[i].2)]])[H.length]? =some (mc (out++[q]) fl nl):=by rw[Kc (by simp)];exact dn _ _
   have c1:=Xak vE (by rw[vr] at hfl;exact hfl);have c2:=Zak vE;have c3:=Yak vE;have c4:=aal vE (if l[i].2 > q.2 then l[i].2 else q.2);rw[kv _ _ (by simp),Uu] at c4;have t3:IntKind.i64.wrap (((out.length+1:Nat):Int) - 1)=(out.length:Int):=by rw[Gb (by omega)];omega
   have t4:IntKind.i64.wrap (q.2+1)=q.2+1:=Gb (by omega)
   have hz:decide (((out.length+1:Nat):Int) > 0)=true:=Qa (by omega);rw[vr] at hlen vd hfl hle
   by_cases hj:l[i].1<=q.2+1
   ·have e2:decide (l[i].1<=q.2+1)=true:=Qa hj
    rw[K4 hj] at hs;generalize l[i]=p at *;generalize jN:(if p.2 > q.2 then p.2 else q.2)=mx at *;generalize hQ:LN _ _ i=Q;simp -implicitDefEqProofs only[SP,WP,za,sevalprocAttr,zA,e1,t2,a1,II,s1,l2,vr,hlen,hz,b0,b1,b2,b3,c1,c2,c3,c4,t3,t4,e2,Tk,Rf,jN,Lm,Eb,uy,od,ta,Za,AV.cut,Cb,Xx];subst hQ;refine⟨out++[(q.1,mx)],(out.length+1) * 2,nl,by simp[Xx,vr],by simp,?_,by simp;omega,hs⟩;intro x hx;rcases Bd.1 hx with h | h
    ·exact BB x (by simp[h])
    ·simp at h;subst h
     rw[<- jN];split <;> simp only <;> omega
   ·have e2:decide (l[i].1<=q.2+1)=false:=Ra hj
    rw[L4 hj] at hs;generalize l[i]=p at *;generalize hQ:LN _ _ i=Q;simp -implicitDefEqProofs only[SP,WP,za,sevalprocAttr,zA,e1,t2,a1,II,s1,l2,vr,hlen,hz,b0,b1,b2,b3,c1,c2,c3,t3,t4,e2,vd,Lm,Eb,uy,od,ta,Za,AV.cut,Cb,Xx];subst hQ;refine⟨out++[q]++[p],fl,false,by simp[Xx],by simp;omega,?_,by simp;omega,hs⟩;exact Iap BB (by intro x hx;simp at hx;subst hx;exact hsp)
 ·rintro t ⟨out,fl,nl,rfl,hfl,BB,hle,hs⟩
  rw[Zh,Qg] at hs;have e1:decide ((l.length:Int) < (l.length:Int))=false:=Ra (by omega);generalize hQ:(fun r:Ex×St=>r.1.stop=true/\_)=Q;simp -implicitDefEqProofs only[SX,sevalprocAttr,zA,e1,Xx];subst hQ;rw[hs];exact⟨rfl,_,fl,nl,rfl,by simp[Tr.na],hfl⟩
def KB(last:Int)(a:List (Int×Int)):Int:=(a.getLast?.map (·.2)).getD last
theorem Vak(last:Int)(p:Int×Int)(a:List (Int×Int)):KB last (p::a)=KB p.2 a:=by
 cases a with
 |nil=>rfl
 |cons q a=>simp[KB,List.getLast?_cons]
theorem Wak(last:Int)(a:List (Int×Int))(q:Int×Int):KB last (a++[q])=q.2:=by simp[KB]
theorem WO(top:Int):∀ (a b:List (Int×Int))(last:Int),Ub top last (a++b)=(Ub top last a&&Ub top (KB last a) b)
 | [],b,last=>by simp[Ub,KB]
 |p::a,b,last=>by rw[Sg,Ub,Ub,WO top a b p.2,Vak,Bool.and_assoc]
theorem EJ{top last:Int}{p:Int×Int}:Ub top last [p]=true↔0<=p.1/\p.1<=p.2/\p.2<=top/\last < p.1 - 1:=by
 simp only[Ub,wz,Lo,IF,decide_eq_false_iff_not];constructor <;> intro h <;> refine⟨?_,?_⟩ <;> omega
theorem bF(x:Int)(a b:List (Int×Int)):Mf x (a++b)↔Mf x a\/Mf x b:=by
 unfold Mf;simp only[Bd];constructor
 ·rintro⟨p,h | h,hp⟩
  ·exact .inl ⟨p,h,hp⟩
  ·exact .inr ⟨p,h,hp⟩
 ·rintro (⟨p,h,hp⟩ | ⟨p,h,hp⟩)
  ·exact⟨p,.inl h,hp⟩
  ·exact⟨p,.inr h,hp⟩
theorem Wy(x:Int)(p:Int×Int):Mf x [p]↔p.1<=x/\x<=p.2:=by
 unfold Mf;simp
theorem Dw(x:Int):¬Mf x []:=by unfold Mf;simp
theorem Vy(x:Int)(p:Int×Int)(l:List (Int×Int)):Mf x (p::l)↔(p.1<=x/\x<=p.2)\/Mf x l:=by
 unfold Mf;simp
theorem kU{top:Int}:∀ (rest out:List (Int×Int))(q:Int×Int),Ub top (-2) (out++[q])=true->(∀ p∈rest,0<=p.1/\p.1<=p.2/\p.2<=top/\q.1<=p.1)->rest.Pairwise (fun p q=>p.1<=q.1)->
 Ub top (-2) (Qg (out++[q]) rest)=true/\(∀ x,Mf x (Qg (out++[q]) rest)↔Mf x (out++[q])\/Mf x rest)/\(Qg (out++[q]) rest).length<=out.length+1+rest.length
 | [],out,q,hv,_,_=>by rw[Qg];exact⟨hv,fun x=>by simp[Dw],by simp⟩
 |r::rest,out,q,hv,hr,hs=>by
  have h1:=hr r (by simp);rw[eG] at hs;have Ny:=hv;rw[WO,fb,EJ] at Ny
  by_cases hj:r.1<=q.2+1
  ·rw[K4 hj]
   have ih:=kU rest out (q.1,if r.2 > q.2 then r.2 else q.2) (by
    rw[WO,fb,EJ];refine⟨Ny.1,Ny.2.1,?_,?_,Ny.2.2.2.2⟩ <;> simp only <;> split <;> omega) (fun p hp=>by have:=hr p (by simp[hp]);exact⟨this.1,this.2.1,this.2.2.1,this.2.2.2⟩) hs.2
   refine⟨ih.1,fun x=> ?_,by have:=ih.2.2;simp only[Td];omega⟩;rw[ih.2.1,bF,bF,Wy,Wy,Vy];have e:(q.1<=x/\x<=(if r.2 > q.2 then r.2 else q.2))↔(q.1<=x/\x<=q.2)\/(r.1<=x/\x<=r.2):=by
    split <;> constructor <;> intro h <;> omega
   simp only[e];constructor
   ·rintro ((h | h | h) | h)
    ·exact .inl (.inl h)
    ·exact .inl (.inr h)
    ·exact .inr (.inl h)
    ·exact .inr (.inr h)
   ·rintro ((h | h) | h | h)
    ·exact .inl (.inl h)
    ·exact .inl (.inr (.inl h))
    ·exact .inl (.inr (.inr h))
    ·exact .inr h
  ·rw[L4 hj]
   have ih:=kU rest (out++[q]) r (by
    rw[WO,fb,EJ,Wak];exact⟨hv,h1.1,h1.2.1,h1.2.2.1,by omega⟩) (fun p hp=>by have h2:=hr p (by simp[hp]);exact⟨h2.1,h2.2.1,h2.2.2.1,hs.1 p hp⟩) hs.2
   refine⟨ih.1,fun x=> ?_,by have:=ih.2.2;simp only[Td,Pc,Ch] at this ⊢;omega⟩;rw[ih.2.1,bF,Wy,Vy];constructor
   ·rintro ((h | h) | h)
    ·exact .inl h
    ·exact .inr (.inl h)
    ·exact .inr (.inr h)
   ·rintro (h | h | h)
    ·exact .inl (.inl h)
    ·exact .inl (.inr h)
    ·exact .inr h
theorem oam{top:Int}(l:List (Int×Int))(hr:∀ p∈l,0<=p.1/\p.1<=p.2/\p.2<=top)(hs:l.Pairwise (fun p q=>p.1<=q.1)):
 Ub top (-2) (Qg [] l)=true/\(∀ x,Mf x (Qg [] l)↔Mf x l)/\(Qg [] l).length<=l.length:=by
 cases l with
 |nil=>exact⟨rfl,fun x=>Iff.rfl,gb _⟩
 |cons r rest=>
  rw[M4];have h1:=hr r (by simp);rw[eG] at hs;have:=kU rest [] r (by rw[Kf,EJ];exact⟨h1.1,h1.2.1,h1.2.2,by omega⟩) (fun p hp=>by have h2:=hr p (by simp[hp]);exact⟨h2.1,h2.2.1,h2.2.2,hs.1 p hp⟩) hs.2
  rw[Kf] at this;refine⟨this.1,fun x=> ?_,by have:=this.2.2;simp at this ⊢;omega⟩;rw[this.2.1,Wy,Vy]
theorem DJ{top:Int}:∀ {l:List (Int×Int)}{last:Int},Ub top last l=true->∀ p∈l,0<=p.1/\p.1<=p.2/\p.2<=top
 |q::l,last,h,p,hp=>by
  obtain⟨h1,h2,h3,h4,h5⟩:=ik h;rcases Ae.1 hp with rfl | hp
  ·exact⟨by omega,by omega,by omega⟩
  ·exact DJ h5 p hp
theorem RO:∀ (l:List (Int×Int)),Dg (Hg l)=cf (l.flatMap fun p=>[p.1,p.2])
 | []=>rfl
 |p::l=>by have h:=RO l;simp only[Dg,Hg,cf] at h ⊢;simp[It,h]
theorem UW:∀ (l:List (Int×Int)),xk 2 l.length (l.flatMap fun p=>[p.1,p.2])=l.map fun p=>[p.1,p.2]
 | []=>rfl
 |p::l=>by rw[Td,xk,yx,Pf,<-UW l];rfl
theorem Kaq{l:List (Int×Int)}(hw:l.length < 50){H:List fa}{id fl:Nat}{nl:Bool}(hg:H[id]? =some (mc l fl nl)):
 ∃ l',l'.Perm l/\l'.Pairwise (fun p q=>p.1<=q.1)/\Pw 2 0 23 [.own id l.length,.Ec 23 []] H=some (.pv (.Ba []),H.set id (mc l' (l.length * 2) nl)):=by
 obtain⟨s1,s2,s3⟩:=LO 2 0 (l.map fun p=>[p.1,p.2]).toArray
 have En:∀ F,IB (Dg (Hg l))=some F->xk 2 l.length F=l.map fun p=>[p.1,p.2]:=by
  intro F hF;rw[RO,sN] at hF;injection hF with hF
  rw[<- hF,UW]
 generalize hE:qm 2 0 (l.map fun p=>[p.1,p.2]).toArray=E at *
 have hEl:∃ l':List (Int×Int),E.toList=l'.map fun p=>[p.1,p.2]:=by
  have key:∀ (L:List (List Int)),(∀ r∈L,∃ p:Int×Int,r=[p.1,p.2])->∃ l':List (Int×Int),L=l'.map fun p=>[p.1,p.2]:=by
   intro L
   induction L with
   |nil=>intro _;exact⟨[],rfl⟩
   |cons r L ih=>intro h;obtain⟨p,rfl⟩:=h r (by simp);obtain⟨l',rfl⟩:=ih fun x hx=>h x (by simp[hx]);exact⟨p::l',rfl⟩
  refine key _ fun r hr=> ?_;have:=s2.mem_iff.1 hr
  simp only[Re] at this;obtain⟨p,_,rfl⟩:=this;exact⟨p,rfl⟩
 obtain⟨l',Uf⟩:=hEl;have hs:E.size=l.length:=by rw[s1];simp
 have bN:l'.length=l.length:=by rw[<- hs,<-wC,Uf,wb]
 refine⟨l',?_,?_,?_⟩
 ·rw[Uf] at s2
  have:=s2.map fun r=>(r.getD 0 0,r.getD 1 0)
  simpa[Iq,Function.comp_def] using this
 ·rw[fG]
  intro i j hi hj hij;have h:=s3 i j hij (by simp;omega);have hg:∀ q (hq:q < l'.length),gm 2 0 E[q]! =l'[q].1:=by
   intro q hq;have h1:q < E.size:=by omega
   have:E[q]=[l'[q].1,l'[q].2]:=by
    have h2:E.toList[q]? =some [l'[q].1,l'[q].2]:=by rw[Uf,Gd,Rb hq];rfl
    rw[Array.getElem?_toList,MJ h1] at h2;exact Dx h2
   rw[getElem!_pos E q h1,this];rfl
  rw[hg i hi,hg j hj] at h;omega
 ·have hfl:=Io l
  unfold Pw;simp only[hg,mc,Gj];rw[if_pos ⟨trivial,trivial,by rw[hfl],by omega⟩];have hF:=RO l;have hI:=sN (l.flatMap fun p=>[p.1,p.2]);rw[<- hF] at hI;rw[hI,Vc,En _ hI,hE,Uf,hfl];have e:cf (List.map (fun p:Int×Int=>[p.1,p.2]) l').flatten=Dg (Hg l'):=by rw[RO,List.flatMap_def]
  rw[e]
theorem sam(d:Nat)(args:List AV)(H:List fa):Ai Qk Mk (d+1) 22 args H=Pw 2 0 23 args H:=rfl
theorem ram(l:List (Int×Int))(hl:aA l){id0 RA:Nat}{PB:Bool}(H:List fa)(hH:Pd H)(uE:H[id0]? =some (mc l RA PB))(Yk:RA<=l.length * 2)(hw:l.length < 50):
 Ia (fun r=>∃ l' fl nl,l'.Perm l/\l'.Pairwise (fun p q=>p.1<=q.1)/\r.1= .own (r.2.length - 1) (Qg [] l').length/\Pd r.2/\r.2[r.2.length - 1]? =some (mc (Qg [] l') fl nl)/\fl<=(Qg [] l').length * 2)
  (Gc (Ai Qk Mk 7) PG [.own id0 l.length] H):=by
 obtain⟨l',xc,hps,zc⟩:=Kaq hw uE;have SS:=(Ad.1 uE).1
 have yr:l'.length=l.length:=xc.length_eq
 have hg:(H.set id0 (mc l' (l.length * 2) PB))[id0]? =some (mc l' (l.length * 2) PB):=Of SS;have Jm:Pd (H.set id0 (mc l' (l.length * 2) PB)):=by
  intro n hn o ho;rcases Oo ho with h | h
  ·exact hH n (by simpa using hn) o h
  ·subst h;exact WB _ _ _ _
 have hfl:l.length * 2<=l'.length * 2:=by omega
 simp -implicitDefEqProofs only[SX,sevalprocAttr,PG,sam,zc];generalize H.set id0 (mc l' (l.length * 2) PB)=H2 at *
 have Uf:aA l':=fun p Gy=>hl p (xc.mem_iff.1 Gy);have Sp:=qam (Ai Qk Mk 7) l' Uf H2 Jm hg hfl (by omega);rw[yr] at Sp;have hlen:mb (H2++[mc [] 0 true]) 0 (.own id0 l.length)=some l.length:=by
  have Ma:id0 < H2.length:=(Ad.1 hg).1
  have:=Io l';rw[zN,Kc Ma,hg];simp only[mc,Gj];unfold Dg at this ⊢;rw[if_pos];unfold bh;omega
 have Zk:H2.length < H2.length+1:=SC _
 have uy:id0 < H2.length+1:=by have:=(Ad.1 hg).1;omega
 have XM:Pd (H2++[mc [] 0 true]):=by
  intro n hn o ho;rcases Bd.1 ho with h | h
  ·exact Jm n (by simp at hn;omega) o h
  ·simp at h;subst h;exact WB _ _ _ _
 have Eb:=Pd.cut XM
 have Km:(H2++[mc [] 0 true]).length=H2.length+1:=by simp
 rw[Km] at Eb;have hz:(0 < 2)=True:=by simp
 have ho:fa.seq 2 true [] 0 true=mc [] 0 true:=rfl
 simp -implicitDefEqProofs only[SX,sevalprocAttr,Oc,Af,hz,ho,hlen,Km,Eb,Zk,uy,Ih (show (H2++[mc [] 0 true]).length<=H2.length+1 by simp),ta,Za,AV.cut,Cb];refine Bb Sp ?_;rintro _ ⟨E,OR,nl2,rfl,hE,MS⟩;simp -implicitDefEqProofs only[SX,sevalprocAttr,hE];refine⟨l',OR,nl2,xc,hps,by simp,?_,by simp,MS⟩;intro n hn o ho;rcases Bd.1 ho with h | h
 ·exact Jm n (by simp at hn;omega) o h
 ·simp at h;subst h;exact WB _ _ _ _
abbrev Rn:Int:=1073741823
theorem eao{A:List fa}{id1 id2 n1 n2 f1 f2 bytes:Nat}{k1 k2:Bool}{h:Qc}{a b:List (Int×Int)}(h1:A[id1]? =some (mc a f1 k1))(h2:A[id2]? =some (mc b f2 k2))(xB:n1=a.length)(yo:n2=b.length)(hr:Ac (n1+n2) bytes):
 ∃ k,Ud A true h 2 true bytes (.own id1 n1) (.own id2 n2)=some (.own id1 (n1+n2),A.set id1 (mc (a++b) f1 k)):=by
 subst xB yo;have la:=Io a;have lb:=Io b;have e:Dg (Hg (a++b))=Dg (Hg a)++Dg (Hg b):=by simp[Dg,Hg]
 have mf:(Dg (Hg b)).all AV.one=true:=by
  rw[Df];intro v hv;obtain⟨c,hc,rfl⟩:=Re.1 hv
  rw[EK] at hc;obtain⟨r,hr,hc⟩:=hc;exact (pF r (CU b r hr)).2 c hc
 refine⟨k1&&(b.length==0),?_⟩;simp only[Ud,if_true,h1,mc,Gj,yk,h2,e];rw[if_pos ⟨trivial,by omega⟩];simp only[Lc];rw[if_pos ⟨trivial,by omega,hr,mf⟩]
theorem V7(v:PV)(l:List (Int×Int))(hv:Pb 2 v (Pa l))(hw:l.length * 16<=140737488355328)(oe:Ub Rn (-2) l=true)(H:List fa)(hH:Pd H):
 Gc (Ai Qk Mk 7) NG [.pv v] H=some (.own H.length l.length,H++[mc l 0 false]):=by
 have h1:=zar (Ai Qk Mk 6) v l hv hw H hH;have h2:=GJ (.lit 2 (Pa l)) l (.inr rfl) (by unfold maxLen;omega) Rn (by decide);rw[oe] at h2;have h0:∀ args H,Ai Qk Mk 7 0 args H=Gc (Ai Qk Mk 6) TG args H:=fun _ _=>rfl;have h3:=fao (A:=H++[mc l 0 false]) (id:=H.length) (n:=l.length) (dn _ _) rfl 5;rw[qa (by simp)] at h3;simp -implicitDefEqProofs only[SX,sevalprocAttr,NG,h0,h1,h2,h3]
theorem Bai{H:List fa}(hH:Pd H){o:fa}(ho:∀ n,Fa n o=some o):Pd (H++[o]):=by
 intro n hn x hx;rcases Bd.1 hx with h | h
 ·exact hH n (by simp at hn;omega) x h
 ·simp at h;subst h;exact ho n
theorem ias(A B:PV)(a b:List (Int×Int))(hA:Pb 2 A (Pa a))(hB:Pb 2 B (Pa b))(nj:Ub Rn (-2) a=true)(Ao:Ub Rn (-2) b=true)(hl:a.length+b.length < 50):
 ∃ u,lK [A,B]=some (.lit 2 (Pa u))/\Ub Rn (-2) u=true/\(∀ x,Mf x u↔Mf x a\/Mf x b)/\u.length<=a.length+b.length:=by
 have h1:=V7 A a hA (by omega) nj [] (by intro n _ o ho;simp at ho);have vE:Pd ([]++[mc a 0 false]):=Bai (by intro n _ o ho;simp at ho) (WB _ _ _);have h2:=V7 B b hB (by omega) Ao ([]++[mc a 0 false]) vE;obtain⟨k,h3⟩:=eao (A:=[mc a 0 false,mc b 0 false]) (id1:=0) (id2:=1) (n1:=a.length) (n2:=b.length) (bytes:=16) (h:= .own) rfl rfl rfl rfl (by unfold Ac;omega);have hg3:Pd [mc (a++b) 0 k,mc b 0 false]:=by intro n _ o ho;simp at ho;rcases ho with rfl | rfl <;> exact WB _ _ _ _
 have ra:=DJ nj;have rb:=DJ Ao;have K6:∀ p∈a++b,0<=p.1/\p.1<=p.2/\p.2<=Rn:=fun p hp=>by
  rcases Bd.1 hp with h | h
  ·exact ra p h
  ·exact rb p h
 have h4:=ram (a++b) (fun p hp=>by have:=K6 p hp;unfold Rn at this;omega) (id0:=0) [mc (a++b) 0 k,mc b 0 false] hg3 rfl (by omega) (by simp;omega);obtain⟨⟨v,H4⟩,e4,l',fl,nl,xc,hps,hv,jZ,hget,hfl⟩:=wg h4;dsimp only at hv jZ hget;subst hv;have law:=oam (top:=Rn) l' (fun p hp=>K6 p (xc.mem_iff.1 hp)) hps;have bN:(Qg [] l').length<=a.length+b.length:=by have:=xc.length_eq;simp at this;omega
 have h5:=yar (Ai Qk Mk 6) (Qg [] l') H4 jZ hget hfl (by omega);have hmem:∀ x,Mf x (Qg [] l')↔Mf x a\/Mf x b:=by
  intro x;rw[law.2.1,<-bF];unfold Mf;constructor
  ·rintro⟨p,h,hx⟩;exact⟨p,xc.mem_iff.1 h,hx⟩
  ·rintro⟨p,h,hx⟩;exact⟨p,xc.mem_iff.2 h,hx⟩
 refine⟨Qg [] l',?_,law.1,hmem,bN⟩;generalize Qg [] l'=u at *;simp only[Kf,Ch,Sg,Td,De] at h1 h2 h3;rw[Qo] at h3;have c1:∀ args H,Ai Qk Mk 8 1 args H=Gc (Ai Qk Mk 7) NG args H:=fun _ _=>rfl;have c24:∀ args H,Ai Qk Mk 8 24 args H=Gc (Ai Qk Mk 7) PG args H:=fun _ _=>rfl;have c3:∀ args H,Ai Qk Mk 8 3 args H=Gc (Ai Qk Mk 7) mL args H:=fun _ _=>rfl;have c2:∀ args H,Ai Qk Mk 7 2 args H=Gc (Ai Qk Mk 6) RG args H:=fun _ _=>rfl;have Hm:(a++b).length=a.length+b.length:=by simp
 rw[Hm] at e4;simp -implicitDefEqProofs only[lK,ez,SP,WP,za,sevalprocAttr,mQ,c1,h1,h2,h3,c24,e4,c3,mL,c2,h5]
theorem W7(v:PV)(l:List (Int×Int))(hv:Pb 2 v (Pa l))(hw:l.length * 16<=140737488355328)(oe:Ub Rn (-2) l=true):SF [v]=some (.lit 2 (Pa l)):=by
 have h1:=EF v l hv hw;rw[<- Bar] at h1;have h2:=GJ (.lit 2 (Pa l)) l (.inr rfl) (by unfold maxLen;omega) Rn (by decide);rw[oe] at h2;simp -implicitDefEqProofs only[SF,SP,SA,SQ,sevalprocAttr,oQ,ej,Ef,h1,h2]
def Cf:Nat->List (Int×Int)->List (Int×Int)->List (Int×Int)
 |0,_,_=>[]
 |n+1,a,b=>match a,b with
  |p::a',q::b'=>(if (if q.1 > p.1 then q.1 else p.1)<=(if q.2 < p.2 then q.2 else p.2) then [((if q.1 > p.1 then q.1 else p.1),(if q.2 < p.2 then q.2 else p.2))] else [])++(if p.2 < q.2 then Cf n a' (q::b') else Cf n (p::a') b')
  |_,_=>[]
abbrev Hs(va vb:PV)(tk:Nat)(nl:Bool)(es:List PV):Tr:=((Tr.lf.set 5 (.uq tk nl 2 es)).set 1 (.pv vb)).set 0 (.pv va)
theorem Pb.yX{v:PV}{p:PV}{es:List PV}(h:Pb 2 v (p::es)):∀ H,nh H 2 (.pv v) (some 1) none=some (.pv (.lit 2 es)):=by
 intro H;rcases h with⟨_,h⟩ | rfl
 ·cases h
 ·simp[nh]
  omega
theorem K3(A B:PV)(a b:List (Int×Int))(hA:Pb 2 A (Pa a))(hB:Pb 2 B (Pa b))(hw:(a.length+b.length) * 16<=140737488355328):
 ∃ u,KC [A,B]=some u/\Pb 2 u (Pa (Cf (a.length+b.length) a b)):=by
 have yc:Ia (fun r=>∃ E H nl,r=(.exit 0,⟨E,H⟩)/\E.get 5= .uq 0 nl 2 (Pa (Cf (a.length+b.length) a b))/\(nl=true->Cf (a.length+b.length) a b=[]))
  (Mb (Aa (ua (La (fun _=>none) 8) Dv) (ta 1 [0,1,5])) Ga ⟨Hs A B 0 true [],[.tok 2 0 true]⟩):=by
  refine Bb (LB (g:=Aa (ua (La (fun _=>none) 8) Dv) (ta 1 [0,1,5]))
   (fun m t=>∃ va vb a' b' nl out,m=a'.length+b'.length/\Pb 2 va (Pa a')/\Pb 2 vb (Pa b')/\t=⟨Hs va vb 0 nl (Pa out),[.tok 2 out.length nl]⟩/\out.length+m<=a.length+b.length/\(nl=true->out=[])/\Cf (a.length+b.length) a b=out++Cf m a' b')
   Ga (a.length+b.length) _ (by unfold Ga;omega) ⟨A,B,a,b,true,[],rfl,hA,hB,rfl,by simp,fun _=>rfl,rfl⟩ ?_) (fun r h=>h.2)
  rintro m t ⟨va,vb,a',b',nl,out,rfl,ha,hb,rfl,hlen,Wc,hs⟩;have la:=ha.len
  have lb:=hb.len
  simp only[Pa,wb] at la lb;cases a' with
  |nil=>
   have Hu:Cf (a.length+b.length) a b=out:=by rw[hs];cases b' <;> simp[Cf]
   have z1:decide (((([]:List (Int×Int)).length:Nat):Int) > 0)=false:=by decide
   generalize hQ:LQ _ _ _=Q;simp -implicitDefEqProofs only[SX,sevalprocAttr,Dv,la,z1,Hs];subst hQ;rw[Hu];exact⟨_,_,nl,rfl,by simp[Tr.na],Wc⟩
  |cons p a'=>
   have z1:decide ((((p::a').length:Nat):Int) > 0)=true:=Qa (by simp);cases b' with
   |nil=>
    have Hu:Cf (a.length+b.length) a b=out:=by rw[hs];simp[Cf]
    have z2:decide (((([]:List (Int×Int)).length:Nat):Int) > 0)=false:=by decide
    generalize hQ:LQ _ _ _=Q;have XE:∀ H,mb H 0 (.pv va)=some (a'.length+1):=la;have FF:decide ((((a'.length+1):Nat):Int) > 0)=true:=z1;have ZE:∀ H,mb H 0 (.pv vb)=some 0:=lb;have GF:decide (((0:Nat):Int) > 0)=false:=z2;simp -implicitDefEqProofs only[SX,sevalprocAttr,Dv,XE,ZE,FF,GF,Hs];subst hQ;rw[Hu];exact⟨_,_,nl,rfl,by simp[Tr.na],Wc⟩
   |cons q b'=>
    have XE:∀ H,mb H 0 (.pv va)=some (a'.length+1):=la;have FF:decide ((((a'.length+1):Nat):Int) > 0)=true:=z1;have ZE:∀ H,mb H 0 (.pv vb)=some (b'.length+1):=lb;have GF:decide ((((b'.length+1):Nat):Int) > 0)=true:=Qa (by omega);have nj:va= .lit 2 (Pa (p::a')):=ha.lit (i:=0) (by simp)
    have Ao:vb= .lit 2 (Pa (q::b')):=hb.lit (i:=0) (by simp)
    have sa:=Pb.yX ha
    have sb:=Pb.yX hb
    have i1:∀ H,Ua H 2 (.pv va) 0=some (.pv (.rp [aa p.1,aa p.2] 0)):=fun H=>by rw[nj];exact zw H (i:=0) (l:=p::a') (by simp)
    have i2:∀ H,Ua H 2 (.pv vb) 0=some (.pv (.rp [aa q.1,aa q.2] 0)):=fun H=>by rw[Ao];exact zw H (i:=0) (l:=q::b') (by simp)
    have vd:=Jo (A:=[.tok 2 out.length nl]) (id:=0) (n:=out.length) (h:= .uq) (ag:=true) (nl:=nl) (sz:=2) (bytes:=16) (es:=Pa out) rfl (by simp) (by unfold Ac;simp only[Td] at hlen;omega) (pr ((if q.1 > p.1 then q.1 else p.1),(if q.2 < p.2 then q.2 else p.2)));rw[Qo] at vd;have hm:∀ n,Cf (n+1) (p::a') (q::b')=(if (if q.1 > p.1 then q.1 else p.1)<=(if q.2 < p.2 then q.2 else p.2) then [((if q.1 > p.1 then q.1 else p.1),(if q.2 < p.2 then q.2 else p.2))] else [])++(if p.2 < q.2 then Cf n a' (q::b') else Cf n (p::a') b'):=fun n=>rfl;have DE:(p::a').length+(q::b').length=(a'.length+b'.length+1)+1:=by simp;omega
    have l0:∀ H (x y:PV),wa H false 1 (.pv (.rp [x,y] 0))=some (.pv x):=fun H x y=>rfl;have l1:∀ H (x y:PV),wa H false 1 (.pv (.rp [x,y] 1))=some (.pv y):=fun H x y=>rfl;have p0:∀ H (x y:PV),place H 0 (.pv (.rp [x,y] 0))=some (.pv (.rp [x,y] 0)):=fun H x y=>rfl;have p1:∀ H (x y:PV),place H 1 (.pv (.rp [x,y] 0))=some (.pv (.rp [x,y] 1)):=fun H x y=>rfl;rw[DE] at hlen;rw[DE,hm] at hs;generalize sg:(if q.1 > p.1 then q.1 else p.1)=lo at *;generalize cw:(if q.2 < p.2 then q.2 else p.2)=hi at *;clear nj Ao;have PZ:Pa (out++[(lo,hi)])=Pa out++[pr (lo,hi)]:=by simp[Pa]
    generalize hQ:LQ _ _ _=Q
    by_cases c1:lo<=hi
    ·have d1:=Qa c1
     rw[if_pos c1] at hs
     by_cases c2:p.2 < q.2
     ·have d2:=Qa c2
      rw[if_pos c2] at hs;simp -implicitDefEqProofs only[SP,WP,za,sevalprocAttr,Dv,XE,ZE,FF,GF,i1,i2,l0,l1,p0,p1,Tk,Rf,sg,cw,vd,d1,d2,sa,sb,ta,Za,AV.cut,Fa,Cb,Hs];subst hQ;exact⟨a'.length+b'.length+1,by rw[DE];omega,_,vb,a',q::b',false,out++[(lo,hi)],by simp;omega,.inr rfl,hb,by rw[PZ];simp[Hs],by simp;omega,by simp,by rw[hs,Ij]⟩
     ·have d2:=Ra c2
      rw[qa c2] at hs;simp -implicitDefEqProofs only[SP,WP,za,sevalprocAttr,Dv,XE,ZE,FF,GF,i1,i2,l0,l1,p0,p1,Tk,Rf,sg,cw,vd,d1,d2,sa,sb,ta,Za,AV.cut,Fa,Cb,Hs];subst hQ;exact⟨a'.length+b'.length+1,by rw[DE];omega,va,_,p::a',b',false,out++[(lo,hi)],by simp;omega,ha,.inr rfl,by rw[PZ];simp[Hs],by simp;omega,by simp,by rw[hs,Ij]⟩
    ·have d1:=Ra c1
     rw[qa c1,Kf] at hs
     by_cases c2:p.2 < q.2
     ·have d2:=Qa c2
      rw[if_pos c2] at hs;simp -implicitDefEqProofs only[SP,WP,za,sevalprocAttr,Dv,XE,ZE,FF,GF,i1,i2,l0,l1,p0,p1,Tk,Rf,sg,cw,d1,d2,sa,sb,ta,Za,AV.cut,Fa,Cb,Hs];subst hQ;exact⟨a'.length+b'.length+1,by rw[DE];omega,_,vb,a',q::b',nl,out,by simp;omega,.inr rfl,hb,rfl,by omega,Wc,hs⟩
     ·have d2:=Ra c2
      rw[qa c2] at hs;simp -implicitDefEqProofs only[SP,WP,za,sevalprocAttr,Dv,XE,ZE,FF,GF,i1,i2,l0,l1,p0,p1,Tk,Rf,sg,cw,d1,d2,sa,sb,ta,Za,AV.cut,Fa,Cb,Hs];subst hQ;exact⟨a'.length+b'.length+1,by rw[DE];omega,va,_,p::a',b',nl,out,by simp;omega,ha,.inr rfl,rfl,by omega,Wc,hs⟩
 obtain⟨r,h1,E,H,nl,rfl,hE,Wc⟩:=wg yc;simp only[Hs,Pa,gv] at h1;generalize Cf (a.length+b.length) a b=u at *;have hz:(0 < 2)=True:=by simp
 cases nl with
 |true=>refine⟨.oa,?_,.inl ⟨rfl,by rw[Wc rfl];rfl⟩⟩;simp -implicitDefEqProofs only[KC,SX,sevalprocAttr,pL,Oc,Af,hz,ta,Za,AV.cut,Fa,Cb,h1,hE]
 |false=>refine⟨.lit 2 (Pa u),?_,.inr rfl⟩;simp -implicitDefEqProofs only[KC,SX,sevalprocAttr,pL,Oc,Af,hz,ta,Za,AV.cut,Fa,Cb,h1,hE]
theorem J9{top:Int}:∀ {l:List (Int×Int)}{last:Int},Ub top last l=true->∀ p∈l,last < p.1 - 1
 |q::l,last,h,p,hp=>by
  obtain⟨h1,h2,h3,h4,h5⟩:=ik h;rcases Ae.1 hp with rfl | hp
  ·omega
  ·have:=J9 h5 p hp;omega
theorem YO{top last x:Int}{l:List (Int×Int)}(h:Ub top last l=true)(hx:Mf x l):last+1 < x:=by
 obtain⟨p,hp,h1,h2⟩:=hx;have:=J9 h p hp;omega
theorem PI{top:Int}:∀ (n:Nat)(a b:List (Int×Int))(la lb:Int),Ub top la a=true->Ub top lb b=true->a.length+b.length<=n->
 (∀ x,Mf x (Cf n a b)↔Mf x a/\Mf x b)/\∀ p∈Cf n a b,p.1<=p.2
 |0,a,b,la,lb,_,_,hn=>by have:a=[]:=Ze (by omega);subst this;exact⟨fun x=>by simp[Cf,Dw],by simp[Cf]⟩
 |n+1,[],b,la,lb,_,_,hn=>⟨fun x=>by simp[Cf,Dw],by simp[Cf]⟩
 |n+1,p::a,[],la,lb,_,_,hn=>⟨fun x=>by simp[Cf,Dw],by simp[Cf]⟩
 |n+1,p::a,q::b,la,lb,ha,hb,hn=>by
  obtain⟨a1,a2,a3,a4,a5⟩:=ik ha;obtain⟨b1,b2,b3,b4,b5⟩:=ik hb;rw[Cf];have sg:p.1<=(if q.1 > p.1 then q.1 else p.1)/\q.1<=(if q.1 > p.1 then q.1 else p.1)/\((if q.1 > p.1 then q.1 else p.1)=p.1\/(if q.1 > p.1 then q.1 else p.1)=q.1):=by split <;> omega
  have cw:(if q.2 < p.2 then q.2 else p.2)<=p.2/\(if q.2 < p.2 then q.2 else p.2)<=q.2/\((if q.2 < p.2 then q.2 else p.2)=p.2\/(if q.2 < p.2 then q.2 else p.2)=q.2):=by split <;> omega
  generalize (if q.1 > p.1 then q.1 else p.1)=lo at *;generalize (if q.2 < p.2 then q.2 else p.2)=hi at *;have Du:∀ x,Mf x (if lo<=hi then [(lo,hi)] else [])↔(p.1<=x/\x<=p.2)/\(q.1<=x/\x<=q.2):=by
   intro x
   by_cases h:lo<=hi
   ·rw[if_pos h,Wy];simp only;omega
   ·rw[qa h]
    simp only[Dw,false_iff];omega
  have xc:∀ r∈(if lo<=hi then [(lo,hi)] else []),r.1<=r.2:=by
   intro r hr
   by_cases h:lo<=hi
   ·rw[if_pos h] at hr;simp at hr;subst hr;exact h
   ·rw[qa h] at hr;simp at hr
  by_cases c:p.2 < q.2
  ·rw[if_pos c]
   have ih:=PI n a (q::b) p.2 lb a5 hb (by simp at hn ⊢;omega)
   refine⟨fun x=> ?_,fun r hr=> ?_⟩
   ·rw[bF,Du,ih.1,Vy,Vy]
    have LS:Mf x b->q.2+1 < x:=YO b5
    constructor
    ·rintro (⟨h1,h2⟩ | ⟨h1,h2⟩)
     ·exact⟨.inl h1,.inl h2⟩
     ·exact⟨.inr h1,h2⟩
    ·rintro⟨h1 | h1,h2⟩
     ·rcases h2 with h2 | h2
      ·exact .inl ⟨h1,h2⟩
      ·have:=LS h2;omega
     ·exact .inr ⟨h1,h2⟩
   ·rcases Bd.1 hr with h | h
    ·exact xc r h
    ·exact ih.2 r h
  ·rw[qa c]
   have ih:=PI n (p::a) b la q.2 ha b5 (by simp at hn ⊢;omega)
   refine⟨fun x=> ?_,fun r hr=> ?_⟩
   ·rw[bF,Du,ih.1,Vy,Vy]
    have LS:Mf x a->p.2+1 < x:=YO a5
    constructor
    ·rintro (⟨h1,h2⟩ | ⟨h1,h2⟩)
     ·exact⟨.inl h1,.inl h2⟩
     ·exact⟨h1,.inr h2⟩
    ·rintro⟨h1,h2 | h2⟩
     ·rcases h1 with h1 | h1
      ·exact .inl ⟨h1,h2⟩
      ·have:=LS h1;omega
     ·exact .inr ⟨h1,h2⟩
   ·rcases Bd.1 hr with h | h
    ·exact xc r h
    ·exact ih.2 r h
theorem Nal{top:Int}{a b:List (Int×Int)}(ha:Ub top (-2) a=true)(hb:Ub top (-2) b=true):Cf (a.length+b.length) a b≠[]↔∃ x,Mf x a/\Mf x b:=by
 have h:=PI (a.length+b.length) a b (-2) (-2) ha hb (gb _);constructor
 ·intro Va
  obtain⟨p,r,Yl⟩:=List.exists_cons_of_ne_nil Va
  have hp:p∈Cf (a.length+b.length) a b:=by rw[Yl];simp
  exact⟨p.1,(h.1 p.1).1 ⟨p,hp,Ll _,h.2 p hp⟩⟩
 ·rintro⟨x,hx⟩ he
  have:=(h.1 x).2 hx
  rw[he] at this;exact Dw x this
theorem EN:∀ (n:Nat)(a b:List (Int×Int)),(Cf n a b).length<=n
 |0,a,b=>by simp[Cf]
 |n+1,[],b=>by simp[Cf]
 |n+1,p::a,[]=>by simp[Cf]
 |n+1,p::a,q::b=>by
  rw[Cf,Pc];generalize (if q.1 > p.1 then q.1 else p.1)=lo;generalize (if q.2 < p.2 then q.2 else p.2)=hi;have h1:(if lo<=hi then [(lo,hi)] else []).length<=1:=by
   by_cases h:lo<=hi
   ·rw[if_pos h];simp
   ·rw[qa h];simp
  by_cases c:p.2 < q.2
  ·rw[if_pos c];have:=EN n a (q::b);omega
  ·rw[qa c];have:=EN n (p::a) b;omega
theorem Jap(A B:PV)(a b:List (Int×Int))(hA:Pb 2 A (Pa a))(hB:Pb 2 B (Pa b))(nj:Ub Rn (-2) a=true)(Ao:Ub Rn (-2) b=true)(hw:(a.length+b.length) * 16<=140737488355328):
 iK [A,B]=some (.lit 2 (Pa (Cf (a.length+b.length) a b))):=by
 have h1:=W7 A a hA (by omega) nj;have h2:=W7 B b hB (by omega) Ao;obtain⟨u,h3,h4⟩:=K3 (.lit 2 (Pa a)) (.lit 2 (Pa b)) a b (.inr rfl) (.inr rfl) hw;have h5:=EF u _ h4 (by have:=EN (a.length+b.length) a b;omega);rw[<- Aar] at h5;have h6:mK [u]=some (.lit 2 (Pa (Cf (a.length+b.length) a b))):=by simp -implicitDefEqProofs only[mK,SP,SA,SQ,sevalprocAttr,nQ,ej,Ef,h5]
 simp -implicitDefEqProofs only[iK,SP,SA,SQ,sevalprocAttr,kQ,ej,Ef,h1,h2,h3,h6]
theorem gV(v:PV)(l:List (Int×Int))(hv:Pb 2 v (Pa l))(hw:l.length * 16<=140737488355328)(oe:Ub 255 (-2) l=true):Sr [v]=some (.lit 2 (Pa l)):=by
 have h1:=EF v l hv hw;have h2:=GJ (.lit 2 (Pa l)) l (.inr rfl) (by unfold maxLen;omega) 255 (by decide);rw[oe] at h2;simp -implicitDefEqProofs only[Sr,SP,SA,SQ,sevalprocAttr,ZG,ej,Ef,h1,h2]
theorem Oaq(A B:PV)(a b:List (Int×Int))(hA:Pb 2 A (Pa a))(hB:Pb 2 B (Pa b))(nj:Ub 255 (-2) a=true)(Ao:Ub 255 (-2) b=true)(hw:(a.length+b.length) * 16<=140737488355328):
 qK [A,B]=some (.lit 2 (Pa (Cf (a.length+b.length) a b))):=by
 have h1:=gV A a hA (by omega) nj;have h2:=gV B b hB (by omega) Ao;obtain⟨u,h3,h4⟩:=K3 (.lit 2 (Pa a)) (.lit 2 (Pa b)) a b (.inr rfl) (.inr rfl) hw;have h5:=EF u _ h4 (by have:=EN (a.length+b.length) a b;omega);rw[<- Car] at h5;have h6:sK [u]=some (.lit 2 (Pa (Cf (a.length+b.length) a b))):=by simp -implicitDefEqProofs only[sK,SP,SA,SQ,sevalprocAttr,AQ,ej,Ef,h5]
 simp -implicitDefEqProofs only[qK,SP,SA,SQ,sevalprocAttr,wQ,ej,Ef,h1,h2,h3,h6]
theorem fV(n:Int)(l:List (Int×Int)):Tb n l=n+Tb 0 l:=by
 induction l generalizing n with
 |nil=>simp[Tb]
 |cons p l ih=>rw[Tb,Tb,ih,ih (0+(p.2 - p.1+1))];omega
theorem HO{top:Int}:∀ {l:List (Int×Int)}{last:Int},Ub top last l=true->0<=Tb 0 l/\(l≠[]->1<=Tb 0 l/\Tb 0 l<=top - last - 1/\Tb 0 l<=top+1)/\Tb 0 l<=max 0 (top+1)
 | [],last,_=>⟨by simp[Tb],fun h=>absurd rfl h,by simp[Tb];omega⟩
 |p::l,last,h=>by
  obtain⟨h1,h2,h3,h4,h5⟩:=ik h;have ih:=HO h5;rw[Tb,fV];have key:l≠[]\/l=[]:=by cases l <;> simp
  rcases key with hl | hl
  ·have:=ih.2.1 hl
   exact⟨by omega,fun _=>⟨by omega,by omega,by omega⟩,by omega⟩
  ·subst hl
   simp only[Tb];exact⟨by omega,fun _=>⟨by omega,by omega,by omega⟩,by omega⟩
theorem XO{top:Int}:∀ {l:List (Int×Int)}{last:Int},Ub top last l=true->(l.length:Int)<=max 0 (top - last)
 | [],last,_=>by simp;omega
 |p::l,last,h=>by obtain⟨h1,h2,h3,h4,h5⟩:=ik h;have:=XO h5;simp only[Td];omega
theorem N8(v:PV)(l:List (Int×Int))(hv:Pb 2 v (Pa l))(hw:l.length * 16<=140737488355328)(oe:Ub 255 (-2) l=true):YF [v]=some (aa (Tb 0 l)):=by
 have h1:=gV v l hv hw oe;have h2:=Daq (.lit 2 (Pa l)) l (.inr rfl) (by unfold maxLen;omega) (top:=255) (by decide) oe;simp -implicitDefEqProofs only[YF,SP,SA,SQ,sevalprocAttr,yQ,ej,Ef,h1,h2]
open Go.AM
theorem ay(A:List fa)(o:fa):(A++[o])[A.length]? =some o:=by simp
theorem qz(A:List fa)(o o':fa):(A++[o]).set A.length o'=A++[o']:=by
 apply Nl;intro i
 by_cases h:i=A.length
 ·subst h;simp
 ·rw[ze (tf h)]
  rcases yd i A.length with h1 | h1
  ·rw[Kc h1,Kc h1]
  ·rw[Tg h1,Tg h1]
   have:i - A.length≠0:=by omega
   obtain⟨k,hk⟩:∃ k,i - A.length=k+1:=⟨i - A.length - 1,by omega⟩
   rw[hk];simp
abbrev u32(n:Int):PV:= .int .u32 n
abbrev Em(S:PV)(x d bits len i left:Int)(ends:Bool):Tr:=
 ((((((Tr.lf.set 18 (.pv (aa i))).set 17 (.pv (aa len))).set 16 (.pv S)).set 9 (.pv (.bool ends))).set 8 (.pv (u32 left))).set 4 (.pv (.rp [aa d,u32 bits] 0))).set 2 (.pv (aa x))
def Zn(bits:Int)(i:Nat):Bool:=IntKind.u32.wrap (((BitVec.ofInt IntKind.u32.bits (bits.fdiv (2 ^ min i IntKind.u32.bits)) &&& BitVec.ofInt IntKind.u32.bits 1).toNat:Nat):Int)==1
theorem xL(bits:Int)(i:Nat):(IntKind.u32.wrap (((BitVec.ofInt IntKind.u32.bits (bits.fdiv (2 ^ min i IntKind.u32.bits)) &&& BitVec.ofInt IntKind.u32.bits 1).toNat:Nat):Int)==1)=Zn bits i:=rfl
def YI(left:Int)(i:Nat):Int:=IntKind.u32.wrap (((BitVec.ofInt IntKind.u32.bits left ||| BitVec.ofInt IntKind.u32.bits (IntKind.u32.wrap (1 * 2 ^ min i IntKind.u32.bits))).toNat:Nat):Int)
theorem y5(left:Int)(i:Nat):IntKind.u32.wrap (((BitVec.ofInt IntKind.u32.bits left ||| BitVec.ofInt IntKind.u32.bits (IntKind.u32.wrap (1 * 2 ^ min i IntKind.u32.bits))).toNat:Nat):Int)=YI left i:=rfl
section
variable (call:Ab)(A:List fa)(ss:List PV)(x bits left:Int)(d:Nat)(ends:Bool)(i len:Nat)(hi:i < len)(hl:len=ss.length)(hw:len<=maxLen)(ps:List PV)(pa:Int)(hs:ss[i]? =some (.agg [.lit 1 ps,aa first]))
include hi hl hw hs
theorem bab(hb:Zn bits i=false):
 Aa (ua call js) (fun s=>some (tidy [2,4,8,9,16,17,18] s)) ⟨Em (.lit 2 ss) x d bits len i left ends,A⟩=
  some (.norm,⟨Em (.lit 2 ss) x d bits len (i+1:Nat) left ends,A++[.box [.pv (.lit 1 ps),.pv (aa first)]]⟩):=by
 have e1:decide ((i:Int) < (len:Int))=true:=Qa (by omega);have hq:Ta (i:Int) ss.length:=by unfold Ta;omega
 have t1:((i:Int)).toNat=i:=by simp
 have t2:=ee hi hw;have hn:((i:Int) < 0)=False:=by simp
 simp -implicitDefEqProofs only[SP,SA,SQ,sevalprocAttr,Aa,js,e1,Sa hq,t1,t2,hs,hn,xL,hb,Ua,ay,qz,tidy,Gf,Em]
theorem dab(hb:Zn bits i=true)(qs:List PV)(hp:ps[d]? =some (.lit 2 qs))(vn:d < ps.length)(hd:d < 4611686018427387904)(hh:yz [.lit 2 qs,aa x]=some (.bool false)):
 Aa (ua call js) (fun s=>some (tidy [2,4,8,9,16,17,18] s)) ⟨Em (.lit 2 ss) x d bits len i left ends,A⟩=
  some (.norm,⟨Em (.lit 2 ss) x d bits len (i+1:Nat) left ends,A++[.box [.pv (.lit 1 ps),.pv (aa first)]]⟩):=by
 have e1:decide ((i:Int) < (len:Int))=true:=Qa (by omega);have hq:Ta (i:Int) ss.length:=by unfold Ta;omega
 have t1:((i:Int)).toNat=i:=by simp
 have t2:=ee hi hw;have hn:((i:Int) < 0)=False:=by simp
 have si:Ta (d:Int) ps.length:=by unfold Ta;omega
 have t3:((d:Int)).toNat=d:=by simp
 simp -implicitDefEqProofs only[SP,SA,SQ,sevalprocAttr,Aa,js,e1,Sa hq,Sa si,t1,t2,t3,hs,hn,xL,hb,hp,hh,ej,Ef,Ua,ay,qz,tidy,Gf,Em]
theorem aab(hb:Zn bits i=true)(qs:List PV)(hp:ps[d]? =some (.lit 2 qs))(vn:d < ps.length)(hd:d < 4611686018427387904)(hh:yz [.lit 2 qs,aa x]=some (.bool true)):
 Aa (ua call js) (fun s=>some (tidy [2,4,8,9,16,17,18] s)) ⟨Em (.lit 2 ss) x d bits len i left ends,A⟩=
  some (.norm,⟨Em (.lit 2 ss) x d bits len (i+1:Nat) (YI left i) (ends||(ps.length==d+1)),A++[.box [.pv (.lit 1 ps),.pv (aa first)]]⟩):=by
 have e1:decide ((i:Int) < (len:Int))=true:=Qa (by omega);have hq:Ta (i:Int) ss.length:=by unfold Ta;omega
 have t1:((i:Int)).toNat=i:=by simp
 have t2:=ee hi hw;have hn:((i:Int) < 0)=False:=by simp
 have si:Ta (d:Int) ps.length:=by unfold Ta;omega
 have t3:((d:Int)).toNat=d:=by simp
 have t4:IntKind.i64.wrap ((d:Int)+1)=((d+1:Nat):Int):=Gb (by omega)
 have t5:((ps.length:Int)==((d+1:Nat):Int))=(ps.length==d+1):=by rw[yC];simp;omega
 cases ends with
 |true=>simp -implicitDefEqProofs only[SP,SA,SQ,sevalprocAttr,Aa,js,e1,Sa hq,Sa si,t1,t2,t3,t4,t5,hs,hn,xL,y5,hb,hp,hh,ej,Ef,Ua,ay,qz,tidy,Gf,Em]
 |false=>simp -implicitDefEqProofs only[SP,SA,SQ,sevalprocAttr,Aa,js,e1,Sa hq,Sa si,t1,t2,t3,t4,t5,hs,hn,xL,y5,hb,hp,hh,ej,Ef,Ua,ay,qz,tidy,Gf,Em]
end
structure ya where
 ba:List (List (Int×Int))
 pa:Int
def rh(l:List (Int×Int)):PV:= .lit 2 (Pa l)
def dg(s:ya):PV:= .agg [.lit 1 (s.ba.map rh),aa s.pa]
def bB(l:List (Int×Int))(x:Int):Bool:=(Ld x 0 (Pn l)).2
def Mp(s:ya)(d:Nat)(x:Int):Bool:=
 match s.ba[d]? with
 |some l=>bB l x
 |none=>false
def fe(x bits:Int)(d:Nat):Nat->List ya->Int×Bool->Int×Bool
 |_,[],acc=>acc
 |i,s::r,acc=>fe x bits d (i+1) r (if Zn bits i&&Mp s d x then (YI acc.1 i,acc.2||(s.ba.length==d+1)) else acc)
theorem nad(l:List (Int×Int)):OL (.lit 2 (Pa l))=some l:=by
 have:Ha rH (Pa l)=some l:=by
  induction l with
  |nil=>rfl
  |cons p l ih=>simp only[Pa,Pf,Ha,rH,Lc] at ih ⊢;rw[ih];rfl
 exact this
theorem cac{l:List (Int×Int)}(h:l.length * 16<=140737488355328)(x:Int):yz [rh l,aa x]=some (.bool (bB l x)):=by
 simp only[yz,rh,nad,Lc,if_pos h];rfl
def au(ss:List ya):List fa:=ss.map fun s=> .box [.pv (.lit 1 (s.ba.map rh)),.pv (aa s.pa)]
section
variable (call:Ab)(H:List fa)(id:Nat)(rest:List AV)(S:PV)(ss:List ya)(x bits:Int)(d:Nat)
 (Ma:H[id]? =some (.box (.pv S::rest))) (hS:Pb 2 S (ss.map dg)) (hw:ss.length<=maxLen) (hd:d < 4611686018427387904)
 (ga:∀ i s,ss[i]? =some s->Zn bits i=true->d < s.ba.length) (ib:∀ s∈ss,∀ l∈s.ba,l.length * 16<=140737488355328)
include Ma hS hw hd ga ib
theorem dH:Gc call RK [.ptr id 0,.pv (.agg [aa d,u32 bits]),.pv (aa x)] H=
 some (.pv (.Ba [u32 (fe x bits d 0 ss (0,false)).1,.bool (fe x bits d 0 ss (0,false)).2]),H++au ss):=by
 have ls:=hS.len
 simp only[wb] at ls;have key:=vt (g:=Aa (ua call js) (fun s=>some (tidy [2,4,8,9,16,17,18] s)))
  (fun i t=>∃ left ends,t=⟨Em S x d bits ss.length i left ends,H++au (ss.take i)⟩/\fe x bits d 0 ss (0,false)=fe x bits d i (ss.drop i) (left,ends))
  (fun ex t=>ex= .exit 0/\t=⟨(Em S x d bits ss.length ss.length (fe x bits d 0 ss (0,false)).1 (fe x bits d 0 ss (0,false)).2).set 19 (.pv (.bool false)),H++au ss⟩)
  Ga ss.length 0 ⟨Em S x d bits ss.length (0:Nat) 0 false,H⟩ (by unfold Ga;unfold maxLen at hw;omega) (by omega) ⟨0,false,by simp[au],rfl⟩ ?_ ?_
 ·obtain⟨ex,t,h,_,rfl,rfl⟩:=key
  generalize fe x bits d 0 ss (0,false)=r at *;simp -implicitDefEqProofs only[SP,SA,SQ,sevalprocAttr,RK,ls,Ma,Wu,tidy,Gf,Em,h];simp only[Em] at h;have h':Mb (Aa (ua call js) (fun s=>some (tidy [2,4,8,9,16,17,18] s))) Ga ⟨((((((Tr.lf.set 18 (.pv (aa 0))).set 17 (.pv (aa ss.length))).set 16 (.pv S)).set 9 (.pv (.bool false))).set 8 (.pv (u32 0))).set 4 (.pv (.rp [aa d,u32 bits] 0))).set 2 (.pv (aa x)),H⟩=_:=h;simp only[tidy,Gf] at h';rw[h'];simp -implicitDefEqProofs only[SP,SA,SQ,sevalprocAttr,Ef]
 ·rintro i hi t ⟨left,ends,rfl,hb⟩
  have Sai:=hS.lit (i:=i) (by simpa using hi)
  subst Sai;have hg:(ss.map dg)[i]? =some (.agg [.lit 1 (ss[i].ba.map rh),aa ss[i].pa]):=by simp[hi,dg]
  have qy:ss.drop i=ss[i]::ss.drop (i+1):=Hh hi
  have hJ:H++au (ss.take (i+1))=H++au (ss.take i)++[.box [.pv (.lit 1 (ss[i].ba.map rh)),.pv (aa ss[i].pa)]]:=by rw[List.take_succ_eq_append_getElem hi,au,xm,Ij];rfl
  rw[qy,fe] at hb;cases ru:Zn bits i with
  |false=>rw[ru] at hb;refine .inl ⟨_,bab call _ _ x bits left d ends i ss.length hi (by simp) hw _ _ hg ru,left,ends,by rw[hJ],hb⟩
  |true=>
   have vn:=ga i ss[i] (by simp[hi]) ru;have hp:(ss[i].ba.map rh)[d]? =some (.lit 2 (Pa ss[i].ba[d])):=by simp[vn,rh]
   have hc:=cac (ib ss[i] (ic hi) ss[i].ba[d] (ic vn)) x;have pg:Mp ss[i] d x=bB ss[i].ba[d] x:=by simp[Mp,vn]
   rw[ru,pg,ng] at hb;cases hh:bB ss[i].ba[d] x with
   |false=>rw[hh] at hb hc;refine .inl ⟨_,dab call _ _ x bits left d ends i ss.length hi (by simp) hw _ _ hg ru _ hp (by simpa using vn) hd hc,left,ends,by rw[hJ],hb⟩
   |true=>
    rw[hh] at hb hc;refine .inl ⟨_,aab call _ _ x bits left d ends i ss.length hi (by simp) hw _ _ hg ru _ hp (by simpa using vn) hd hc,_,_,by rw[hJ],?_⟩
    rw[hb];simp
 ·rintro t ⟨left,ends,rfl,hb⟩
  rw[Zh] at hb;simp only[fe] at hb;refine⟨.exit 0,_,?_,rfl,rfl,rfl⟩;rw[hb,ai];have e1:decide ((ss.length:Int) < (ss.length:Int))=false:=Ra (by omega);simp -implicitDefEqProofs only[SP,SA,SQ,sevalprocAttr,Aa,js,e1,Em]
end
abbrev Al:=Nat×Int
def xe(a:Al):PV:= .agg [aa a.1,u32 a.2]
def Uq(l:List Al)(k:Nat):List (PV×PV):=(l.zipIdx k).map fun p=>(xe p.1,aa p.2)
theorem xR(a:Al)(l:List Al)(k:Nat):Uq (a::l) k=(xe a,aa k)::Uq l (k+1):=rfl
theorem IX(a:Al):∀ (l:List Al)(k:Nat),Uq (l++[a]) k=Uq l k++[(xe a,aa (k+l.length:Nat))]
 | [],k=>by simp[Uq]
 |b::l,k=>by rw[Sg,xR,IX a l (k+1),xR];simp;omega
theorem gM(a b:Al):Sf (.row [1,1]) (xe a) (xe b)=some (decide (a=b)):=by
 obtain⟨a1,a2⟩:=a;obtain⟨b1,b2⟩:=b;simp only[xe,Sf,Wk,Is,if_true,Lc,Vc,wz,Jb,Bool.decide_and]
 congr 1
 rw[yC];simp;intro _;omega
def Wg(a:Al):List Al->Nat->Option Nat
 | [],_=>none
 |b::l,k=>if a=b then some k else Wg a l (k+1)
theorem NR(a:Al):∀ (l:List Al)(k j:Nat),Rj (.row [1,1]) (xe a) (Uq l k) j=some ((Wg a l k).map fun i=>(j+(i - k),aa i)):=by
 intro l
 induction l with
 |nil=>intro k j;rfl
 |cons b l ih=>
  intro k j;rw[xR,Rj,gM];simp only[Lc,Wg]
  by_cases h:a=b
  ·simp[h]
  ·rw[qa h,ih]
   simp only[h,decide_false,Sc,if_false,xb];cases hi:Wg a l (k+1) with
   |none=>rfl
   |some i=>
    have:k+1<=i:=by
     clear ih
     induction l generalizing k with
     |nil=>simp[Wg] at hi
     |cons c l ihl=>
      simp only[Wg] at hi
      split at hi
      ·injection hi with hi;omega
      ·have:=ihl (k+1) hi;omega
    simp only[Vc,xb,Jb,and_true];omega
abbrev tc(R0 R1:fa)(S:PV)(nl:Bool)(ma:List Al)(rows:fa)(n:Nat)(T:List fa):List fa:=
 R0::R1:: .map (Uq ma 0):: .box [.pv S,.mp 2,.uq 4 nl 2 (ma.map xe),.own 5 n]:: .tok 2 ma.length nl::rows::T
section
variable (call:Ab)(R0 R1:fa)(S:PV)(nl:Bool)(ma:List Al)(rows:fa)(n:Nat)(T:List fa)(a:Al)
theorem Val{i:Nat}(h:Wg a ma 0=some i):
 Gc call zv [.ptr 3 0,.pv (xe a)] (tc R0 R1 S nl ma rows n T)=some (.pv (.Ba [aa i,.bool true]),tc R0 R1 S nl ma rows n T):=by
 have hf:=NR a ma 0 0;rw[h] at hf;simp only[Vc] at hf;have hk:(Sf (.row [1,1]) (xe a) (xe a)).isSome=true:=by rw[gM];rfl
 simp only[xe] at hf hk;simp -implicitDefEqProofs only[SP,SA,SQ,sevalprocAttr,xe,zv,hf,Sa hk]
theorem Ual(h:Wg a ma 0=none)(hl:ma.length=64):
 Gc call zv [.ptr 3 0,.pv (xe a)] (tc R0 R1 S nl ma rows n T)=some (.pv (.Ba [aa 0,.bool false]),tc R0 R1 S nl ma rows n T):=by
 have hf:=NR a ma 0 0;rw[h] at hf;simp only[Option.map_none] at hf;have hk:(Sf (.row [1,1]) (xe a) (xe a)).isSome=true:=by rw[gM];rfl
 have e1:(((ma.map xe).length:Int)==64)=true:=by simp[hl]
 simp only[xe] at hf hk;simp -implicitDefEqProofs only[SP,SA,SQ,sevalprocAttr,zv,xe,hf,Sa hk,e1]
theorem U3(h:Wg a ma 0=none)(hl:ma.length < 64):
 Gc call zv [.ptr 3 0,.pv (xe a)] (tc R0 R1 S nl ma rows n T)=some (.pv (.Ba [aa ma.length,.bool true]),tc R0 R1 S false (ma++[a]) rows n T):=by
 have hf:=NR a ma 0 0;rw[h] at hf;simp only[Option.map_none] at hf;have hk:(Sf (.row [1,1]) (xe a) (xe a)).isSome=true:=by rw[gM];rfl
 have e1:((ma.length:Int)==64)=false:=jj (by omega);have hp:=IX a ma 0;rw[De] at hp;have q1:Ac (ma.length+1) 16:=by unfold Ac;omega
 have hlen:(ma.map xe).length=ma.length:=by simp
 have Rp:(ma++[a]).length=ma.length+1:=by simp
 have BE:(ma++[a]).map xe=ma.map xe++[xe a]:=by simp
 unfold tc;rw[hp,Rp,BE];simp only[xe] at hf hk ⊢;simp -implicitDefEqProofs only[SP,SA,SQ,sevalprocAttr,zv,hf,Sa hk,e1,hlen,Sa q1,mh,AV.Mi,AV.xi]
end
theorem Kv(n:Nat)(cs:List AV):Fa n (.box cs)=(Ha (AV.cut n deep) cs).map .box:=rfl
theorem Lv(n:Nat)(es:List (PV×PV)):Fa n (.map es)=some (.map es):=rfl
theorem LD(n sz:Nat)(ag:Bool)(cs:List AV)(fl:Nat)(nl:Bool):Fa n (.seq sz ag cs fl nl)=if cs.all (AV.qc n deep)=true then some (.seq sz ag cs fl nl) else none:=rfl
theorem Mv(n sz m:Nat)(nl:Bool):Fa n (.tok sz m nl)=some (.tok sz m nl):=rfl
def bg(ss:List ya)(a:Al)(x:Int)(ma:List Al):Option (List Al×Int):=
 if (fe x a.2 a.1 0 ss (0,false)).1=0 then some (ma,-2)
 else if (fe x a.2 a.1 0 ss (0,false)).2=true then some (ma,-1)
 else match Wg (a.1+1,(fe x a.2 a.1 0 ss (0,false)).1) ma 0 with
  |some k=>some (ma,(k:Int))
  |none=>if ma.length < 64 then some (ma++[(a.1+1,(fe x a.2 a.1 0 ss (0,false)).1)],(ma.length:Int)) else none
inductive Lw(k:Nat)(v:AV)(o:fa):Option (Ex×St)->Prop
 |mk (s:St):s.env.get k=v->s.H[0]? =some o->Lw k v o (some (.ret,s))
theorem A7{k:Nat}{v:AV}{o:fa}{s:St}:Lw k v o (some (.ret,s))=(s.env.get k=v/\s.H[0]? =some o):=
 propext ⟨fun h=>by cases h with | mk _ h h'=>exact⟨h,h'⟩,fun h=> .mk s h.1 h.2⟩
theorem oO{k:Nat}{v:AV}{o:fa}{r:Option (Ex×St)}(h:Lw k v o r):∃ t,r=some (.ret,t)/\t.env.get k=v/\t.H[0]? =some o:=by
 cases h with | mk s h h'=>exact⟨s,rfl,h,h'⟩
def Ca(l:List Int):List AV:=l.map fun n=> .pv (aa n)
theorem sq(l:List Int)(x:Nat)(v:Int):(Ca l).set x (.pv (aa v))=Ca (l.set x v):=by simp[Ca,Tz]
theorem qe(l:List Int):(Ca l).length=l.length:=by simp[Ca]
theorem HA(n d:Nat)(l:List Int):Ha (AV.cut n d) (Ca l)=some (Ca l):=by
 induction l with
 |nil=>rfl
 |cons a l ih=>simp only[Ca,Pf,Ha,bc,Lc] at ih ⊢;rw[ih];rfl
abbrev kh(i x:Int):Tr:=(((Tr.lf.set 30 (.pv (aa x))).set 4 (.ptr 6 0)).set 3 (.pv (aa i))).set 0 (.ptr 3 0)
section
variable (R0 R1:fa)(S:PV)(nl:Bool)(ma:List Al)(rows:fa)(n:Nat)(row:List Int)(ss:List ya)(i x:Nat)(a:Al)
 (h0:Fa 7 R0=some R0) (h1:Fa 7 R1=some R1) (hr:Fa 7 rows=some rows) (Xc:row.length=256) (hx:x < 256)
 (hi:i < ma.length) (ha:(ma.map xe)[i]? =some (.agg [aa a.1,u32 a.2])) (had:a.1 < 4611686018427387904)
 (hS:Pb 2 S (ss.map dg)) (hw:ss.length<=maxLen)
 (ga:∀ i s,ss[i]? =some s->Zn a.2 i=true->a.1 < s.ba.length) (ib:∀ s∈ss,∀ l∈s.ba,l.length * 16<=140737488355328)
include h0 h1 hr Xc hx hi ha had hS hw ga ib
theorem tas(hb:(fe x a.2 a.1 0 ss (0,false)).1=0):
 Be (La ue 7) [0,3,4,30] Mj 7 ⟨kh i x,tc R0 R1 S nl ma rows n [.box (Ca row)]⟩=
  some (.norm,⟨kh i (x+1:Nat),tc R0 R1 S nl ma rows n [.box (Ca (row.set x (-2)))]⟩):=by
 have e1:decide ((x:Int) < 256)=true:=Qa (by omega);have hlen:(ma.map xe).length=ma.length:=by simp
 have hq:Ta (i:Int) ma.length:=by unfold Ta;omega
 have si:Ta (x:Int) 256:=by unfold Ta;omega
 have t1:((i:Int)).toNat=i:=by simp
 have t3:((x:Int)).toNat=x:=by simp
 have t2:=ee (i:=x) (n:=256) hx (by unfold maxLen;omega);have Ak:=dH (La ue 6) (tc R0 R1 S nl ma rows n [.box (Ca row)]) 3 _ S ss x a.2 a.1 rfl hS hw had ga ib
 rw[hb] at Ak;have hle:x+1<=(Ca row).length:=by rw[qe];omega
 have hz:(((0:Nat)+x+1)<=(Ca row).length)=True:=by simp only[eq_iff_iff,iff_true];omega
 simp only[tc,Sg,Kf] at Ak;generalize (fe x a.2 a.1 0 ss (0,false)).2=ends at *
 simp -implicitDefEqProofs only[SP,SA,SQ,sevalprocAttr,Be,Aa,Mj,ue,e1,hlen,Sa hq,Sa si,t1,t2,t3,ha,Ak,hz,Sa hle,sq,Ua,ta,Za,Kv,Lv,Mv,bc,HA,AV.cut,Ef,h0,h1,hr,kh,tc]
theorem pas(hb:(fe x a.2 a.1 0 ss (0,false)).1≠0)(Vd:(fe x a.2 a.1 0 ss (0,false)).2=true):
 Be (La ue 7) [0,3,4,30] Mj 7 ⟨kh i x,tc R0 R1 S nl ma rows n [.box (Ca row)]⟩=
  some (.norm,⟨kh i (x+1:Nat),tc R0 R1 S nl ma rows n [.box (Ca (row.set x (-1)))]⟩):=by
 have e1:decide ((x:Int) < 256)=true:=Qa (by omega);have hlen:(ma.map xe).length=ma.length:=by simp
 have hq:Ta (i:Int) ma.length:=by unfold Ta;omega
 have si:Ta (x:Int) 256:=by unfold Ta;omega
 have t1:((i:Int)).toNat=i:=by simp
 have t3:((x:Int)).toNat=x:=by simp
 have t2:=ee (i:=x) (n:=256) hx (by unfold maxLen;omega);have Ak:=dH (La ue 6) (tc R0 R1 S nl ma rows n [.box (Ca row)]) 3 _ S ss x a.2 a.1 rfl hS hw had ga ib
 rw[Vd] at Ak;have hle:x+1<=(Ca row).length:=by rw[qe];omega
 have hz:(((0:Nat)+x+1)<=(Ca row).length)=True:=by simp only[eq_iff_iff,iff_true];omega
 simp only[tc,Sg,Kf] at Ak;have e4:=jj hb;generalize (fe x a.2 a.1 0 ss (0,false)).1=left at *
 simp -implicitDefEqProofs only[SP,SA,SQ,sevalprocAttr,Be,Aa,Mj,ue,e1,hlen,Sa hq,Sa si,t1,t2,t3,ha,Ak,e4,hz,Sa hle,sq,Ua,ta,Za,Kv,Lv,Mv,bc,HA,AV.cut,Ef,h0,h1,hr,kh,tc]
theorem uas(hb:(fe x a.2 a.1 0 ss (0,false)).1≠0)(Vd:(fe x a.2 a.1 0 ss (0,false)).2=false){k:Nat}(hk:Wg (a.1+1,(fe x a.2 a.1 0 ss (0,false)).1) ma 0=some k):
 Be (La ue 7) [0,3,4,30] Mj 7 ⟨kh i x,tc R0 R1 S nl ma rows n [.box (Ca row)]⟩=
  some (.norm,⟨kh i (x+1:Nat),tc R0 R1 S nl ma rows n [.box (Ca (row.set x k))]⟩):=by
 have e1:decide ((x:Int) < 256)=true:=Qa (by omega);have hlen:(ma.map xe).length=ma.length:=by simp
 have hq:Ta (i:Int) ma.length:=by unfold Ta;omega
 have si:Ta (x:Int) 256:=by unfold Ta;omega
 have t1:((i:Int)).toNat=i:=by simp
 have t3:((x:Int)).toNat=x:=by simp
 have t2:=ee (i:=x) (n:=256) hx (by unfold maxLen;omega);have Ak:=dH (La ue 6) (tc R0 R1 S nl ma rows n [.box (Ca row)]) 3 _ S ss x a.2 a.1 rfl hS hw had ga ib
 rw[Vd] at Ak;have hle:x+1<=(Ca row).length:=by rw[qe];omega
 have hz:(((0:Nat)+x+1)<=(Ca row).length)=True:=by simp only[eq_iff_iff,iff_true];omega
 simp only[tc,Sg,Kf] at Ak;have e4:=jj hb;have t5:IntKind.i64.wrap ((a.1:Int)+1)=((a.1+1:Nat):Int):=Gb (by omega)
 have sr:=Val (La ue 6) R0 R1 S nl ma rows n (.box (Ca row)::au ss) (a.1+1,(fe x a.2 a.1 0 ss (0,false)).1) hk;simp only[tc,xe] at sr;generalize (fe x a.2 a.1 0 ss (0,false)).1=left at *
 simp -implicitDefEqProofs only[SP,SA,SQ,sevalprocAttr,Be,Aa,Mj,ue,e1,hlen,Sa hq,Sa si,t1,t2,t3,ha,Ak,sr,t5,e4,hz,Sa hle,sq,Ua,ta,Za,Kv,Lv,Mv,bc,HA,AV.cut,Ef,h0,h1,hr,kh,tc]
theorem sas(hb:(fe x a.2 a.1 0 ss (0,false)).1≠0)(Vd:(fe x a.2 a.1 0 ss (0,false)).2=false)(hk:Wg (a.1+1,(fe x a.2 a.1 0 ss (0,false)).1) ma 0=none)(hl:ma.length < 64):
 Be (La ue 7) [0,3,4,30] Mj 7 ⟨kh i x,tc R0 R1 S nl ma rows n [.box (Ca row)]⟩=
  some (.norm,⟨kh i (x+1:Nat),tc R0 R1 S false (ma++[(a.1+1,(fe x a.2 a.1 0 ss (0,false)).1)]) rows n [.box (Ca (row.set x (ma.length:Int)))]⟩):=by
 have e1:decide ((x:Int) < 256)=true:=Qa (by omega);have hlen:(ma.map xe).length=ma.length:=by simp
 have hq:Ta (i:Int) ma.length:=by unfold Ta;omega
 have si:Ta (x:Int) 256:=by unfold Ta;omega
 have t1:((i:Int)).toNat=i:=by simp
 have t3:((x:Int)).toNat=x:=by simp
 have t2:=ee (i:=x) (n:=256) hx (by unfold maxLen;omega);have Ak:=dH (La ue 6) (tc R0 R1 S nl ma rows n [.box (Ca row)]) 3 _ S ss x a.2 a.1 rfl hS hw had ga ib
 rw[Vd] at Ak;have hle:x+1<=(Ca row).length:=by rw[qe];omega
 have hz:(((0:Nat)+x+1)<=(Ca row).length)=True:=by simp only[eq_iff_iff,iff_true];omega
 simp only[tc,Sg,Kf] at Ak;have e4:=jj hb;have t5:IntKind.i64.wrap ((a.1:Int)+1)=((a.1+1:Nat):Int):=Gb (by omega)
 have sr:=U3 (La ue 6) R0 R1 S nl ma rows n (.box (Ca row)::au ss) (a.1+1,(fe x a.2 a.1 0 ss (0,false)).1) hk hl;simp only[tc,xe] at sr ⊢;generalize (fe x a.2 a.1 0 ss (0,false)).1=left at *
 simp -implicitDefEqProofs only[SP,SA,SQ,sevalprocAttr,Be,Aa,Mj,ue,e1,hlen,Sa hq,Sa si,t1,t2,t3,ha,Ak,sr,t5,e4,hz,Sa hle,sq,Ua,ta,Za,Kv,Lv,Mv,bc,HA,AV.cut,Ef,h0,h1,hr,kh,tc]
end
section
variable (R0 R1:fa)(S:PV)(nl:Bool)(ma:List Al)(rows:fa)(n:Nat)(row:List Int)(ss:List ya)(i x:Nat)(a:Al)
 (Xc:row.length=256) (hx:x < 256)
 (hi:i < ma.length) (ha:(ma.map xe)[i]? =some (.agg [aa a.1,u32 a.2])) (had:a.1 < 4611686018427387904)
 (hS:Pb 2 S (ss.map dg)) (hw:ss.length<=maxLen)
 (ga:∀ i s,ss[i]? =some s->Zn a.2 i=true->a.1 < s.ba.length) (ib:∀ s∈ss,∀ l∈s.ba,l.length * 16<=140737488355328)
include Xc hx hi ha had hS hw ga ib
theorem qas(hb:(fe x a.2 a.1 0 ss (0,false)).1≠0)(Vd:(fe x a.2 a.1 0 ss (0,false)).2=false)(hk:Wg (a.1+1,(fe x a.2 a.1 0 ss (0,false)).1) ma 0=none)(hl:ma.length=64):
 Lw 2 (.pv (.bool false)) R0 (Be (La ue 7) [0,3,4,30] Mj 7 ⟨kh i x,tc R0 R1 S nl ma rows n [.box (Ca row)]⟩):=by
 have e1:decide ((x:Int) < 256)=true:=Qa (by omega);have hlen:(ma.map xe).length=ma.length:=by simp
 have hq:Ta (i:Int) ma.length:=by unfold Ta;omega
 have si:Ta (x:Int) 256:=by unfold Ta;omega
 have t1:((i:Int)).toNat=i:=by simp
 have t3:((x:Int)).toNat=x:=by simp
 have t2:=ee (i:=x) (n:=256) hx (by unfold maxLen;omega);have Ak:=dH (La ue 6) (tc R0 R1 S nl ma rows n [.box (Ca row)]) 3 _ S ss x a.2 a.1 rfl hS hw had ga ib
 rw[Vd] at Ak;have hle:x+1<=(Ca row).length:=by rw[qe];omega
 have hz:(((0:Nat)+x+1)<=(Ca row).length)=True:=by simp only[eq_iff_iff,iff_true];omega
 simp only[tc,Sg,Kf] at Ak;have e4:=jj hb;have t5:IntKind.i64.wrap ((a.1:Int)+1)=((a.1+1:Nat):Int):=Gb (by omega)
 have sr:=Ual (La ue 6) R0 R1 S nl ma rows n (.box (Ca row)::au ss) (a.1+1,(fe x a.2 a.1 0 ss (0,false)).1) hk hl;simp only[tc,xe] at sr;generalize (fe x a.2 a.1 0 ss (0,false)).1=left at *
 simp -implicitDefEqProofs only[SP,SA,SQ,sevalprocAttr,Be,Aa,Mj,ue,e1,hlen,Sa hq,Sa si,t1,t2,t3,ha,Ak,sr,t5,e4,A7,hz,Sa hle,sq,Ua,kh,tc]
end
def lg(ss:List ya)(a:Al):List Nat->List Al×List Int->Option (List Al×List Int)
 | [],r=>some r
 |x::xs,r=>match bg ss a x r.1 with
  |some p=>lg ss a xs (p.1,r.2.set x p.2)
  |none=>none
theorem kJ{ss:List ya}{a:Al}{x:Nat}{xs:List Nat}{r:List Al×List Int}(h:bg ss a x r.1=none):lg ss a (x::xs) r=none:=by
 rw[lg,h]
theorem lJ{ss:List ya}{a:Al}{x:Nat}{xs:List Nat}{r:List Al×List Int}{p:List Al×Int}(h:bg ss a x r.1=some p):lg ss a (x::xs) r=lg ss a xs (p.1,r.2.set x p.2):=by
 rw[lg,h]
theorem fJ{n x:Nat}(h:x < n):(List.range n).drop x=x::(List.range n).drop (x+1):=by
 rw[Hh (by simpa using h)];simp
theorem R8{ss:List ya}{a:Al}{x:Int}{ma:List Al}{r:List Al×Int}(h:bg ss a x ma=some r)(hl:ma.length<=64):r.1.length<=64/\∃ t,r.1=ma++t:=by
 unfold bg at h
 split at h
 ·injection h with h;subst h;exact⟨hl,[],by simp⟩
 ·split at h
  ·injection h with h;subst h;exact⟨hl,[],by simp⟩
  ·split at h
   ·injection h with h;subst h;exact⟨hl,[],by simp⟩
   ·split at h
    ·injection h with h;subst h;exact⟨by simp;omega,_,rfl⟩
    ·cases h
section
variable (R0 R1:fa)(S:PV)(rows:fa)(n:Nat)(ss:List ya)
 (h0:Fa 7 R0=some R0) (h1:Fa 7 R1=some R1) (hr:Fa 7 rows=some rows)
 (hS:Pb 2 S (ss.map dg)) (hw:ss.length<=maxLen)
 (ib:∀ s∈ss,∀ l∈s.ba,l.length * 16<=140737488355328)
include h0 h1 hr hS hw ib
theorem bar{nl:Bool}{ma:List Al}{row:List Int}{i x:Nat}{a:Al}(Xc:row.length=256)(hx:x < 256)(ha:ma[i]? =some a)(had:a.1 < 4611686018427387904)(hl:ma.length<=64)
 (ga:∀ i s,ss[i]? =some s->Zn a.2 i=true->a.1 < s.ba.length):
 (∀ r,bg ss a x ma=some r->∃ nl',Be (La ue 7) [0,3,4,30] Mj 7 ⟨kh i x,tc R0 R1 S nl ma rows n [.box (Ca row)]⟩=
  some (.norm,⟨kh i (x+1:Nat),tc R0 R1 S nl' r.1 rows n [.box (Ca (row.set x r.2))]⟩))/\
 (bg ss a x ma=none->Lw 2 (.pv (.bool false)) R0 (Be (La ue 7) [0,3,4,30] Mj 7 ⟨kh i x,tc R0 R1 S nl ma rows n [.box (Ca row)]⟩)):=by
 have hi:i < ma.length:=(Ad.1 ha).1
 have Lp:(ma.map xe)[i]? =some (.agg [aa a.1,u32 a.2]):=by rw[Gd,ha];rfl
 by_cases hb:(fe x a.2 a.1 0 ss (0,false)).1=0
 ·have zc:=(show bg ss a x ma=some (ma,-2) by unfold bg;rw[if_pos hb])
  rw[zc];exact⟨fun r e=>by injection e with e;subst e;exact⟨nl,tas R0 R1 S nl ma rows n row ss i x a h0 h1 hr Xc hx hi Lp had hS hw ga ib hb⟩,fun e=>by cases e⟩
 by_cases Vd:(fe x a.2 a.1 0 ss (0,false)).2=true
 ·have zc:=(show bg ss a x ma=some (ma,-1) by unfold bg;rw[qa hb,if_pos Vd])
  rw[zc];exact⟨fun r e=>by injection e with e;subst e;exact⟨nl,pas R0 R1 S nl ma rows n row ss i x a h0 h1 hr Xc hx hi Lp had hS hw ga ib hb Vd⟩,fun e=>by cases e⟩
 have cB:(fe x a.2 a.1 0 ss (0,false)).2=false:=by simpa using Vd
 cases hk:Wg (a.1+1,(fe x a.2 a.1 0 ss (0,false)).1) ma 0 with
 |some k=>have zc:=(show bg ss a x ma=some (ma,(k:Int)) by unfold bg;rw[qa hb,qa Vd,hk]);rw[zc];exact⟨fun r e=>by injection e with e;subst e;exact⟨nl,uas R0 R1 S nl ma rows n row ss i x a h0 h1 hr Xc hx hi Lp had hS hw ga ib hb cB hk⟩,fun e=>by cases e⟩
 |none=>
  by_cases hlt:ma.length < 64
  ·have zc:=(show bg ss a x ma=some (ma++[(a.1+1,(fe x a.2 a.1 0 ss (0,false)).1)],(ma.length:Int)) by unfold bg;rw[qa hb,qa Vd,hk];simp only[if_pos hlt])
   rw[zc];exact⟨fun r e=>by injection e with e;subst e;exact⟨false,sas R0 R1 S nl ma rows n row ss i x a h0 h1 hr Xc hx hi Lp had hS hw ga ib hb cB hk hlt⟩,fun e=>by cases e⟩
  ·have zc:=(show bg ss a x ma=none by unfold bg;rw[qa hb,qa Vd,hk];simp only[qa hlt])
   rw[zc];exact⟨fun r e=>(by cases e),fun _=>qas R0 R1 S nl ma rows n row ss i x a Xc hx hi Lp had hS hw ga ib hb cB hk (by omega)⟩
theorem oap{nl:Bool}{ma:List Al}{row:List Int}{i:Nat}{a:Al}(Xc:row.length=256)(ha:ma[i]? =some a)(had:a.1 < 4611686018427387904)(hl:ma.length<=64)
 (ga:∀ i s,ss[i]? =some s->Zn a.2 i=true->a.1 < s.ba.length):
 (∀ r,lg ss a (List.range 256) (ma,row)=some r->∃ nl',Mb (Aa (ua (La ue 7) Mj) (ta 7 [0,3,4,30])) Ga ⟨kh i 0,tc R0 R1 S nl ma rows n [.box (Ca row)]⟩=
  some (.exit 2,⟨(kh i 256).set 31 (.pv (.bool false)),tc R0 R1 S nl' r.1 rows n [.box (Ca r.2)]⟩)/\r.1.length<=64/\r.2.length=256/\∃ t,r.1=ma++t)/\
 (lg ss a (List.range 256) (ma,row)=none->Lw 2 (.pv (.bool false)) R0 (Mb (Aa (ua (La ue 7) Mj) (ta 7 [0,3,4,30])) Ga ⟨kh i 0,tc R0 R1 S nl ma rows n [.box (Ca row)]⟩)):=by
 generalize hxs:List.range 256=xs
 have key:=vt (g:=Be (La ue 7) [0,3,4,30] Mj 7)
  (fun x t=>∃ nl' sets' row',t=⟨kh i x,tc R0 R1 S nl' sets' rows n [.box (Ca row')]⟩/\lg ss a xs (ma,row)=lg ss a (xs.drop x) (sets',row')/\sets'.length<=64/\row'.length=256/\∃ t,sets'=ma++t)
  (fun ex t=>(∃ r,ex= .exit 2/\lg ss a xs (ma,row)=some r/\∃ nl',t=⟨(kh i 256).set 31 (.pv (.bool false)),tc R0 R1 S nl' r.1 rows n [.box (Ca r.2)]⟩/\r.1.length<=64/\r.2.length=256/\∃ t,r.1=ma++t)\/
   (ex= .ret/\lg ss a xs (ma,row)=none/\t.env.get 2= .pv (.bool false)/\t.H[0]? =some R0))
  Ga 256 0 ⟨kh i (0:Nat),tc R0 R1 S nl ma rows n [.box (Ca row)]⟩ (by unfold Ga;omega) (by omega) ⟨nl,ma,row,rfl,rfl,hl,Xc,[],by simp⟩ ?_ ?_
 ·obtain⟨ex,t,h,_,hq⟩:=key
  have h':Mb (Aa (ua (La ue 7) Mj) (ta 7 [0,3,4,30])) Ga ⟨kh i 0,tc R0 R1 S nl ma rows n [.box (Ca row)]⟩=some (ex,t):=h;rw[h'];rcases hq with⟨r,rfl,Bf,nl',rfl,q1,q2,q3⟩ | ⟨rfl,Bf,hg,Zk⟩
  ·refine⟨fun r2 e=> ?_,fun e=> ?_⟩
   ·rw[Bf] at e;injection e with e;subst e;exact⟨nl',rfl,q1,q2,q3⟩
   ·rw[Bf] at e;cases e
  ·refine⟨fun r2 e=> ?_,fun _=> .mk _ hg Zk⟩
   rw[Bf] at e;cases e
 ·rintro x hx t ⟨nl',sets',row',rfl,Vi,Uf,Jy,tl,hts⟩
  have Lp:sets'[i]? =some a:=by rw[hts,Kc (Ad.1 ha).1];exact ha
  have hd:=fJ hx;rw[hxs] at hd;have My:=bar R0 R1 S rows n ss h0 h1 hr hS hw ib (nl:=nl') Jy hx Lp had Uf ga;rw[hd] at Vi;cases zc:bg ss a x sets' with
  |none=>rw[kJ zc] at Vi;obtain⟨t,g1,g2,g3⟩:=oO (My.2 zc);exact .inr ⟨.ret,t,g1,rfl,.inr ⟨rfl,Vi,g2,g3⟩⟩
  |some r=>
   rw[lJ zc] at Vi;obtain⟨nl2,g1⟩:=My.1 r zc
   obtain⟨k1,t2,k2⟩:=R8 zc Uf;exact .inl ⟨_,g1,nl2,r.1,row'.set x r.2,rfl,Vi,k1,by simpa using Jy,tl++t2,by rw[k2,hts,Ij]⟩
 ·rintro t ⟨nl',sets',row',rfl,Vi,Uf,Jy,tl,hts⟩
  rw[Vr (by rw[<- hxs,Wn];exact gb _)] at Vi;refine⟨.exit 2,_,?_,rfl,.inl ⟨(sets',row'),rfl,Vi,nl',rfl,Uf,Jy,tl,hts⟩⟩;have e1:decide (((256:Nat):Int) < 256)=false:=by decide
  simp -implicitDefEqProofs only[SP,SA,SQ,sevalprocAttr,Be,Aa,Mj,e1,kh,tc]
end
def mg(rs:List (List Int)):fa:= .seq 256 true (rs.flatMap Ca) 0 rs.isEmpty
theorem vF(l:List Int):Ca l=(l.map aa).map .pv:=by simp[Ca]
theorem oG(l:List Int):bd (Ca l)=some (l.map aa):=by
 rw[vF]
 induction l with
 |nil=>rfl
 |cons a l ih=>simp only[Pf,bd,ih,Vc]
theorem OU(l:List Int):(Ca l).all AV.one=true:=by
 induction l with
 |nil=>rfl
 |cons a l ih=>simp only[Ca,Pf,tm,AV.one,ng] at ih ⊢;exact ih
theorem QU:List.map AV.pv (List.replicate 256 (PV.int .i64 0))=Ca (List.replicate 256 0):=by
 simp only[Ca,Sz]
theorem aV{α:Type}:∀ (vs cs pre:List α),cs.length=vs.length->za (pre++cs) pre.length vs=pre++vs
 | [],cs,pre,h=>by simp at h;subst h;rfl
 |v::vs,c::cs,pre,h=>by
  rw[za];have h1:(pre++c::cs).set pre.length v=(pre++[v])++cs:=by rw[Po _ _ (gb _)];simp
  rw[h1];have:=aV vs cs (pre++[v]) (by simpa using h);simp only[Pc,Td,Ch,De] at this;rw[this];simp
 |_::_,[],_,h=>by simp at h
theorem nH(n d:Nat)(rs:List (List Int)):(rs.flatMap Ca).all (AV.qc n d)=true:=by
 rw[Df];intro v hv;rw[List.mem_flatMap] at hv;obtain⟨r,_,hv⟩:=hv;simp only[Ca,Re] at hv;obtain⟨x,_,rfl⟩:=hv;cases d <;> rfl
theorem TU:∀ {rs:List (List Int)},(∀ r∈rs,r.length=256)->(rs.flatMap Ca).length=rs.length * 256
 | [],_=>rfl
 |r::rs,h=>by have:=TU (rs:=rs) (fun x hx=>h x (by simp[hx]));simp only[yx,Pc,qe,h r (by simp),this,Td];omega
abbrev ep(i:Int):Tr:=(Tr.lf.set 3 (.pv (aa i))).set 0 (.ptr 3 0)
section
variable (R0 R1:fa)(S:PV)(nl:Bool)(ma:List Al)(rs:List (List Int))(ss:List ya)(i:Nat)
 (h0:Fa 7 R0=some R0) (h1:Fa 7 R1=some R1) (g0:Fa 6 R0=some R0) (g1:Fa 6 R1=some R1)
 (hi:i < ma.length) (hl:ma.length<=64) (Ui:rs.length<=64) (aq:∀ r∈rs,r.length=256)
include h0 h1 g0 g1 hi hl Ui aq
theorem baq(nl':Bool)(sets':List Al)(row:List Int)(Xc:row.length=256)
 (hrowL:Mb (Aa (ua (La ue 7) Mj) (ta 7 [0,3,4,30])) Ga ⟨kh i 0,tc R0 R1 S nl ma (mg rs) rs.length [.box (Ca (List.replicate 256 0))]⟩=
  some (.exit 2,⟨(kh i 256).set 31 (.pv (.bool false)),tc R0 R1 S nl' sets' (mg rs) rs.length [.box (Ca row)]⟩)):
 Be (La ue 7) [0,3] Yo 6 ⟨ep i,tc R0 R1 S nl ma (mg rs) rs.length []⟩=
  some (.norm,⟨ep (i+1:Nat),tc R0 R1 S nl' sets' (mg (rs++[row])) (rs.length+1) []⟩):=by
 have hlen:(ma.map xe).length=ma.length:=by simp
 have e1:decide ((i:Int) < (ma.length:Int))=true:=Qa (by omega);have t2:=ee (i:=i) (n:=64) (by omega) (by unfold maxLen;omega);have p0:((Ca row).length=256)=True:=by rw[qe,Xc];exact eq_self _
 have p1:(256<=(Ca row).length)=True:=by rw[qe,Xc];exact Sa (gb _)
 have p2:List.take 256 (Ca row)=Ca row:=Ih (by rw[qe,Xc];exact gb _)
 have p3:=oG row;have p4:((row.map aa).length=256)=True:=by rw[wb,Xc];exact eq_self _
 have p5:(256<=(Ca (List.replicate 256 0)).length)=True:=by rw[qe,Gq];exact Sa (gb _)
 have p6:za (Ca (List.replicate 256 0)) 0 (Ca row)=Ca row:=by have:=aV (Ca row) (Ca (List.replicate 256 0)) [] (by rw[qe,qe,Xc,Gq]);rw[Kf,Kf] at this;exact this
 have p7:=OU row;have p8:List.take 256 (row.map aa)=row.map aa:=Ih (by rw[wb,Xc];exact gb _)
 have p9:(row.map aa).map AV.pv=Ca row:=(vF row).symm
 have q1:(rs.length * 256=(rs.flatMap Ca).length)=True:=by rw[TU aq];exact eq_self _
 have q2:Ac (rs.length+1) 2048:=by unfold Ac;omega
 have q3:(rs++[row]).flatMap Ca=rs.flatMap Ca++Ca row:=by rw[List.flatMap_append,yx,BK,yi]
 have q4:(rs++[row]).isEmpty=false:=by cases rs <;> rfl
 have q5:=nH 7 6 rs;have q6:=nH 6 6 (rs++[row]);rw[q3] at q6;simp only[kh,tc,mg,Int.cast_ofNat_Int] at hrowL;unfold tc mg;rw[q3,q4];have SE:=QU;generalize hz:List.replicate 256 (0:Int)=zs at *
 simp -implicitDefEqProofs only[SP,SA,SQ,sevalprocAttr,-List.reduceReplicate,Be,Aa,Yo,hlen,e1,Oc,ta,Za,Kv,Lv,Mv,LD,bc,HA,AV.cut,Ef,h0,h1,g0,g1,ep,SE,q5];rw[hrowL];simp -implicitDefEqProofs only[SP,SA,SQ,sevalprocAttr,-List.reduceReplicate,yi,hlen,t2,p0,p1,p2,p3,p4,p5,p6,p7,p8,p9,q1,Sa q2,q5,q6,mh,AV.Mi,AV.xi,SE,yk,ta,Za,Kv,Lv,Mv,LD,bc,HA,AV.cut,Ef,h0,h1,g0,g1]
end
theorem wrap_u32{n:Nat}(h:n < 4294967296):IntKind.u32.wrap (n:Int)=(n:Int):=by
 have e:IntKind.u32.wrap (n:Int)=(n:Int) % 4294967296:=by simp[IntKind.signed,IntKind.wrap,IntKind.bits]
 rw[e];omega
theorem qaa{a b:Nat}(ha:a < 4294967296)(hb:b < 4294967296):(BitVec.ofInt IntKind.u32.bits (a:Int) &&& BitVec.ofInt IntKind.u32.bits (b:Int)).toNat=a &&& b:=by
 show (BitVec.ofInt 32 (a:Int) &&& BitVec.ofInt 32 (b:Int)).toNat=_
 rw[BitVec.toNat_and,BitVec.ofInt_natCast,BitVec.ofInt_natCast,BitVec.toNat_ofNat,BitVec.toNat_ofNat,KK ha,KK hb]
theorem Ram{a b:Nat}(ha:a < 4294967296)(hb:b < 4294967296):(BitVec.ofInt IntKind.u32.bits (a:Int) ||| BitVec.ofInt IntKind.u32.bits (b:Int)).toNat=a ||| b:=by
 show (BitVec.ofInt 32 (a:Int) ||| BitVec.ofInt 32 (b:Int)).toNat=_
 rw[BitVec.toNat_or,BitVec.ofInt_natCast,BitVec.ofInt_natCast,BitVec.toNat_ofNat,BitVec.toNat_ofNat,KK ha,KK hb]
theorem oW{n i:Nat}(hn:n < 4294967296)(hi:i < 32):Zn (n:Int) i=n.testBit i:=by
 have hm:min i IntKind.u32.bits=i:=by show min i 32=i;omega
 have hf:(n:Int).fdiv (2 ^ i)=((n / 2 ^ i:Nat):Int):=by rw[show ((2:Int) ^ i)=((2 ^ i:Nat):Int) by push_cast;rfl];exact (Int.ofNat_fdiv n (2 ^ i)).symm
 have hle:n / 2 ^ i < 4294967296:=Nat.lt_of_le_of_lt (Nat.div_le_self _ _) hn
 have e:(BitVec.ofInt IntKind.u32.bits ((n / 2 ^ i:Nat):Int) &&& BitVec.ofInt IntKind.u32.bits 1).toNat=n / 2 ^ i % 2:=by have:=qaa hle (show 1 < 4294967296 by decide);rw[Nat.and_one_is_mod] at this;exact this
 unfold Zn;rw[hm,hf,e,wrap_u32 (by omega),Nat.testBit_eq_decide_div_mod_eq];rcases Nat.mod_two_eq_zero_or_one (n / 2 ^ i) with h | h <;> rw[h] <;> rfl
theorem Qam{n i:Nat}(hn:n < 4294967296)(hi:i < 32):YI (n:Int) i=((n ||| 2 ^ i:Nat):Int):=by
 have hm:min i IntKind.u32.bits=i:=by show min i 32=i;omega
 have hp:2 ^ i < 4294967296:=by
  have:(2:Nat) ^ i < 2 ^ 32:=Nat.pow_lt_pow_right (by decide) hi
  simpa using this
 have h2:IntKind.u32.wrap (1 * 2 ^ i)=((2 ^ i:Nat):Int):=by rw[NC,show ((2:Int) ^ i)=((2 ^ i:Nat):Int) by push_cast;rfl,wrap_u32 hp]
 unfold YI;rw[hm,h2,Ram hn hp,wrap_u32];exact Nat.or_lt_two_pow (n:=32) hn hp
def Nj(x:Int)(bits d:Nat):Nat->List ya->Nat×Bool->Nat×Bool
 |_,[],acc=>acc
 |i,s::r,acc=>Nj x bits d (i+1) r (if bits.testBit i&&Mp s d x then (acc.1 ||| 2 ^ i,acc.2||(s.ba.length==d+1)) else acc)
theorem FQ{x:Int}{bits d:Nat}:∀ (ss:List ya)(i:Nat)(acc:Nat×Bool),i+ss.length<=32->acc.1 < 4294967296->(Nj x bits d i ss acc).1 < 4294967296
 | [],i,acc,_,h=>h
 |s::r,i,acc,hl,h=>by
  rw[Nj];refine FQ r (i+1) _ (by simp only[Td] at hl;omega) ?_
  split
  ·refine Nat.or_lt_two_pow (n:=32) h ?_
   exact Nat.pow_lt_pow_right (by decide) (by simp only[Td] at hl;omega)
  ·exact h
theorem HQ{x:Int}{bits d:Nat}(hb:bits < 4294967296):∀ (ss:List ya)(i:Nat)(acc:Nat×Bool),i+ss.length<=32->acc.1 < 4294967296->
 fe x (bits:Int) d i ss ((acc.1:Int),acc.2)=(((Nj x bits d i ss acc).1:Int),(Nj x bits d i ss acc).2)
 | [],i,acc,_,h=>rfl
 |s::r,i,acc,hl,h=>by
  have hi:i < 32:=by simp only[Td] at hl;omega
  rw[fe,Nj,oW hb hi,Qam h hi];have h2:(acc.1 ||| 2 ^ i) < 4294967296:=Nat.or_lt_two_pow (n:=32) h (Nat.pow_lt_pow_right (by decide) hi)
  have ih:=HQ (x:=x) (d:=d) hb r (i+1) (if bits.testBit i&&Mp s d x then (acc.1 ||| 2 ^ i,acc.2||(s.ba.length==d+1)) else acc)
   (by simp only[Td] at hl;omega) (by split;exact h2;exact h)
  rw[<- ih];cases bits.testBit i&&Mp s d x <;> rfl
theorem GQ{x:Int}{bits d:Nat}:∀ (ss:List ya)(i:Nat)(acc:Nat×Bool)(j:Nat),
 (Nj x bits d i ss acc).1.testBit j=(acc.1.testBit j||(decide (i<=j)&&(match ss[j - i]? with | some s=>bits.testBit j&&Mp s d x | none=>false)))
 | [],i,acc,j=>by simp[Nj]
 |s::r,i,acc,j=>by
  rw[Nj,GQ r (i+1)]
  by_cases hij:i=j
  ·subst hij
   simp only[Kq,Kj,gb,decide_true,ng];have:decide (i+1<=i)=false:=by simp
   rw[this,Ko,xz];cases h:(bits.testBit i&&Mp s d x) with
   |true=>simp[Nat.testBit_or,Nat.testBit_two_pow_self]
   |false=>simp
  ·have e1:(if (bits.testBit i&&Mp s d x)=true then (acc.1 ||| 2 ^ i,acc.2||s.ba.length==d+1) else acc).1.testBit j=acc.1.testBit j:=by
    split
    ·simp only[Nat.testBit_or,Nat.testBit_two_pow_of_ne hij,xz]
    ·rfl
   rw[e1]
   by_cases hlt:i+1<=j
   ·have e2:j - i=(j - (i+1))+1:=by omega
    have e3:decide (i<=j)=decide (i+1<=j):=by simp;omega
    rw[e2,e3,Jj]
   ·have e3:decide (i<=j)=false:=by simp;omega
    have e4:decide (i+1<=j)=false:=by simp;omega
    rw[e3,e4];rfl
theorem DQ{x:Int}{bits d:Nat}:∀ (ss:List ya)(i:Nat)(acc:Nat×Bool),
 (Nj x bits d i ss acc).2=(acc.2||(ss.zipIdx i).any fun p=>bits.testBit p.2&&Mp p.1 d x&&(p.1.ba.length==d+1))
 | [],i,acc=>by simp[Nj]
 |s::r,i,acc=>by
  rw[Nj,DQ r (i+1),List.zipIdx_cons,List.any_cons];cases h:(bits.testBit i&&Mp s d x) with
  |true=>simp[Bool.or_assoc]
  |false=>simp
def kG(ss:List ya)(k:Nat)(a:Al):Prop:=
 a.1<=k/\∃ b:Nat,a.2=(b:Int)/\b < 4294967296/\∀ i s,ss[i]? =some s->b.testBit i=true->a.1 < s.ba.length
def lk(ss:List ya)(ma:List Al):Prop:=ma.length<=64/\∀ k a,ma[k]? =some a->kG ss k a
theorem kG.ga{ss:List ya}{k:Nat}{a:Al}(h:kG ss k a)(hl:ss.length<=32):∀ i s,ss[i]? =some s->Zn a.2 i=true->a.1 < s.ba.length:=by
 obtain⟨_,b,e,hb,h⟩:=h;intro i s hs ht;have hi:i < 32:=by have:=(Ad.1 hs).1;omega
 rw[e,oW hb hi] at ht;exact h i s hs ht
theorem cab{ss:List ya}{k:Nat}{a:Al}{x:Int}(h:kG ss k a)(hl:ss.length<=32)(hf:(fe x a.2 a.1 0 ss (0,false)).2=false):
 kG ss (k+1) (a.1+1,(fe x a.2 a.1 0 ss (0,false)).1):=by
 obtain⟨hk,b,e,hb,h⟩:=h;have hN:fe x (b:Int) a.1 0 ss (0,false)=(((Nj x b a.1 0 ss (0,false)).1:Int),(Nj x b a.1 0 ss (0,false)).2):=HQ (x:=x) (d:=a.1) hb ss 0 (0,false) (by omega) (by decide)
 rw[e,hN] at hf;rw[e,hN];have hlt:=FQ (x:=x) (bits:=b) (d:=a.1) ss 0 (0,false) (by omega) (by decide);refine⟨Nat.succ_le_succ hk,_,rfl,hlt,?_⟩;intro i s hs ht;rw[GQ] at ht;simp only[Nat.zero_testBit,Ql,decide_true,ng,Xw,Xz,hs] at ht;have hd:=h i s hs (by revert ht;cases b.testBit i <;> simp);have ir:(Nj x b a.1 0 ss (0,false)).2=false:=hf
 rw[DQ,Xw,List.any_eq_false] at ir;have:=ir (s,i) (by rw[List.mk_mem_zipIdx_iff_getElem?];exact hs);show a.1+1 < s.ba.length
 simp only[ht,ng] at this;have h2:¬s.ba.length=a.1+1:=by simpa using this
 omega
theorem mV{ss:List ya}{a:Al}{x:Int}{ma:List Al}{r:List Al×Int}{k:Nat}(hs:lk ss ma)(ha:ma[k]? =some a)(hl:ss.length<=32)(h:bg ss a x ma=some r):
 lk ss r.1/\∃ t,r.1=ma++t:=by
 have hk:=hs.2 k a ha
 unfold bg at h
 split at h
 ·injection h with h;subst h;exact⟨hs,[],by simp⟩
 ·split at h
  ·injection h with h;subst h;exact⟨hs,[],by simp⟩
  ·next hf=>
   split at h
   ·injection h with h;subst h;exact⟨hs,[],by simp⟩
   ·split at h
    ·next hlt=>
     injection h with h;subst h
     refine⟨⟨by simp;omega,?_⟩,_,rfl⟩;intro j b hb;rcases yd j ma.length with h1 | h1
     ·rw[Kc h1] at hb;exact hs.2 j b hb
     ·rw[Tg h1] at hb
      cases hj:j - ma.length with
      |succ n=>rw[hj] at hb;simp at hb
      |zero=>
       rw[hj] at hb;simp only[Kj,xb] at hb;subst hb;have US:=(Ad.1 ha).1
       obtain⟨g1,g2⟩:=cab hk hl (by simpa using hf);exact⟨Lj g1 (by omega),g2⟩
    ·cases h
theorem kC{ss:List ya}{a:Al}{k:Nat}(hl:ss.length<=32):∀ (xs:List Nat)(r r':List Al×List Int),lk ss r.1->r.1[k]? =some a->lg ss a xs r=some r'->
 lk ss r'.1/\(∃ t,r'.1=r.1++t)/\r'.2.length=r.2.length
 | [],r,r',h,_,e=>by injection e with e;subst e;exact⟨h,⟨[],by simp⟩,rfl⟩
 |x::xs,r,r',h,ha,e=>by
  cases zc:bg ss a x r.1 with
  |none=>rw[kJ zc] at e;cases e
  |some p=>rw[lJ zc] at e;obtain⟨g1,t,g2⟩:=mV h ha hl zc;obtain⟨k1,⟨t',k2⟩,k3⟩:=kC hl xs (p.1,r.2.set x p.2) r' g1 (by rw[g2,Kc (Ad.1 ha).1];exact ha) e;exact⟨k1,⟨t++t',by rw[k2,g2,Ij]⟩,by rw[k3];simp⟩
def Wa:List Int:=List.replicate 256 0
theorem uF:Wa.length=256:=Gq
def cg(ss:List ya):Nat->List Al×List (List Int)->Option (List Al×List (List Int))
 |0,r=>some r
 |k+1,r=>match r.1[r.2.length]? with
  |none=>some r
  |some a=>match lg ss a (List.range 256) (r.1,Wa) with
   |none=>none
   |some p=>cg ss k (p.1,r.2++[p.2])
theorem IJ{ss:List ya}{k:Nat}{r:List Al×List (List Int)}(h:r.1[r.2.length]? =none):cg ss k r=some r:=by
 cases k with
 |zero=>rfl
 |succ k=>rw[cg,h]
theorem aP{ss:List ya}{k:Nat}{r:List Al×List (List Int)}{a:Al}(h:r.1[r.2.length]? =some a)(h2:lg ss a (List.range 256) (r.1,Wa)=none):cg ss (k+1) r=none:=by
 rw[cg,h];simp only[h2]
theorem bP{ss:List ya}{k:Nat}{r:List Al×List (List Int)}{a:Al}{p:List Al×List Int}(h:r.1[r.2.length]? =some a)(h2:lg ss a (List.range 256) (r.1,Wa)=some p):cg ss (k+1) r=cg ss k (p.1,r.2++[p.2]):=by
 rw[cg,h];simp only[h2]
section
variable (R0 R1:fa)(S:PV)(nl:Bool)(ma:List Al)(rs:List (List Int))(ss:List ya)(i:Nat)
theorem caq(h0:Fa 7 R0=some R0)(h1:Fa 7 R1=some R1)(hi:i < ma.length)(hl:ma.length<=64)
 (hrowL:Lw 2 (.pv (.bool false)) R0 (Mb (Aa (ua (La ue 7) Mj) (ta 7 [0,3,4,30])) Ga ⟨kh i 0,tc R0 R1 S nl ma (mg rs) rs.length [.box (Ca (List.replicate 256 0))]⟩)):
 Lw 2 (.pv (.bool false)) R0 (Be (La ue 7) [0,3] Yo 6 ⟨ep i,tc R0 R1 S nl ma (mg rs) rs.length []⟩):=by
 have hlen:(ma.map xe).length=ma.length:=by simp
 have e1:decide ((i:Int) < (ma.length:Int))=true:=Qa (by omega);have q5:=nH 7 6 rs;obtain⟨t,g1,g2,g3⟩:=oO hrowL;simp only[kh,tc,mg,Int.cast_ofNat_Int] at g1;unfold tc mg;have SE:=QU;generalize hz:List.replicate 256 (0:Int)=zs at *
 simp -implicitDefEqProofs only[SP,SA,SQ,sevalprocAttr,-List.reduceReplicate,Be,Aa,Yo,hlen,e1,Oc,ta,Za,Kv,Lv,Mv,LD,bc,HA,AV.cut,Ef,h0,h1,ep,SE,q5];rw[g1];simp -implicitDefEqProofs only[SP,SA,SQ,sevalprocAttr,-List.reduceReplicate,A7,g2,g3]
theorem B8(hi:i=ma.length):
 Be (La ue 7) [0,3] Yo 6 ⟨ep i,tc R0 R1 S nl ma (mg rs) rs.length []⟩=
  some (.exit 0,⟨(((((((ep i).set 21 (.pv (aa i))).set 22 (.ptr 3 0)).set 23 (.ptr 3 0)).set 24 (.ptr 3 2)).set 25 (.uq 4 nl 2 (ma.map xe))).set 26 (.pv (aa ma.length))).set 27 (.pv (.bool false)),tc R0 R1 S nl ma (mg rs) rs.length []⟩):=by
 have hlen:(ma.map xe).length=ma.length:=by simp
 have e1:decide ((i:Int) < (ma.length:Int))=false:=Ra (by omega);simp -implicitDefEqProofs only[SP,SA,SQ,sevalprocAttr,-List.reduceReplicate,Be,Aa,Yo,hlen,e1,ep,tc]
theorem zap(n:Nat):Fa n (mg rs)=some (mg rs):=by
 have:(rs.flatMap Ca).all (AV.qc n deep)=true:=nH n deep rs
 unfold mg;rw[LD,if_pos this]
theorem ras(h0:Fa 7 R0=some R0)(h1:Fa 7 R1=some R1)(g0:Fa 6 R0=some R0)(g1:Fa 6 R1=some R1)
 (hS:Pb 2 S (ss.map dg)) (hw:ss.length<=32) (ib:∀ s∈ss,∀ l∈s.ba,l.length * 16<=140737488355328) (ga:lk ss ma) (h1s:ma.length<=1):
 (∀ r,cg ss 64 (ma,[])=some r->∃ E nl',Mb (Aa (ua (La ue 7) Yo) (ta 6 [0,3])) Ga ⟨ep 0,tc R0 R1 S nl ma (mg []) 0 []⟩=
  some (.exit 0,⟨E,tc R0 R1 S nl' r.1 (mg r.2) r.2.length []⟩)/\lk ss r.1/\r.2.length=r.1.length/\∀ r'∈r.2,r'.length=256)/\
 (cg ss 64 (ma,[])=none->Lw 2 (.pv (.bool false)) R0 (Mb (Aa (ua (La ue 7) Yo) (ta 6 [0,3])) Ga ⟨ep 0,tc R0 R1 S nl ma (mg []) 0 []⟩)):=by
 have key:=vt (g:=Be (La ue 7) [0,3] Yo 6)
  (fun i t=>∃ nl' sets' Xh,t=⟨ep i,tc R0 R1 S nl' sets' (mg Xh) Xh.length []⟩/\cg ss 64 (ma,[])=cg ss (64 - i) (sets',Xh)/\lk ss sets'/\Xh.length=i/\i<=sets'.length/\∀ r∈Xh,r.length=256)
  (fun ex t=>(∃ r,ex= .exit 0/\cg ss 64 (ma,[])=some r/\∃ E nl',t=⟨E,tc R0 R1 S nl' r.1 (mg r.2) r.2.length []⟩/\lk ss r.1/\r.2.length=r.1.length/\∀ r'∈r.2,r'.length=256)\/
   (ex= .ret/\cg ss 64 (ma,[])=none/\t.env.get 2= .pv (.bool false)/\t.H[0]? =some R0))
  Ga 64 0 ⟨ep (0:Nat),tc R0 R1 S nl ma (mg []) 0 []⟩ (by unfold Ga;omega) (by omega) ⟨nl,ma,[],rfl,rfl,ga,rfl,by omega,by simp⟩ ?_ ?_
 ·obtain⟨ex,t,h,_,hq⟩:=key
  have h':Mb (Aa (ua (La ue 7) Yo) (ta 6 [0,3])) Ga ⟨ep 0,tc R0 R1 S nl ma (mg []) 0 []⟩=some (ex,t):=h;rw[h'];rcases hq with⟨r,rfl,Bf,E,nl',rfl,q1,q2,q3⟩ | ⟨rfl,Bf,hg,Zk⟩
  ·refine⟨fun r2 e=> ?_,fun e=> ?_⟩
   ·rw[Bf] at e;injection e with e;subst e;exact⟨E,nl',rfl,q1,q2,q3⟩
   ·rw[Bf] at e;cases e
  ·refine⟨fun r2 e=> ?_,fun _=> .mk _ hg Zk⟩
   rw[Bf] at e;cases e
 ·rintro i hi t ⟨nl',sets',Xh,rfl,nw,Ck,Ui,wE,aq⟩
  by_cases hlt:i < sets'.length
  ·obtain⟨a,ha⟩:∃ a,sets'[i]? =some a:=⟨sets'[i],by simp[hlt]⟩
   have BB:=Ck.2 i a ha
   have hget:sets'[Xh.length]? =some a:=by rw[Ui];exact ha
   have Xc:=oap R0 R1 S (mg Xh) Xh.length ss h0 h1 (zap Xh 7) hS (by unfold maxLen;omega) ib (nl:=nl') uF ha (by have:=BB.1;omega) Ck.1 (BB.ga hw)
   have PD:64 - i=(64 - (i+1))+1:=by omega
   cases hr:lg ss a (List.range 256) (sets',Wa) with
   |none=>
    have zc:=caq R0 R1 S nl' sets' Xh i h0 h1 hlt Ck.1 (Xc.2 hr)
    obtain⟨t,k1,k2,k3⟩:=oO zc;rw[PD,aP (r:=(sets',Xh)) hget hr] at nw;exact .inr ⟨.ret,t,k1,rfl,.inr ⟨rfl,nw,k2,k3⟩⟩
   |some p=>
    obtain⟨nl2,k1,k2,k3,k4⟩:=Xc.1 p hr
    have CI:=kC hw _ _ _ Ck ha hr;rw[PD,bP (r:=(sets',Xh)) hget hr] at nw;have My:=baq R0 R1 S nl' sets' Xh i h0 h1 g0 g1 hlt Ck.1 (by have:=Ck.1;omega) aq nl2 p.1 p.2 k3 k1
    refine .inl ⟨_,My,nl2,p.1,Xh++[p.2],by simp,nw,CI.1,by simp[Ui],?_,?_⟩
    ·obtain⟨t,ht⟩:=k4
     rw[ht];simp;omega
    ·intro r hr
     rcases Bd.1 hr with h | h
     ·exact aq r h
     ·simp at h;subst h;exact k3
  ·have Bk:i=sets'.length:=by omega
   rw[IJ (r:=(sets',Xh)) (by show sets'[Xh.length]? =none;rw[Ui,Bk];simp)] at nw;exact .inr ⟨.exit 0,_,B8 R0 R1 S nl' sets' Xh i Bk,rfl,.inl ⟨(sets',Xh),rfl,nw,_,nl',rfl,Ck,by show Xh.length=sets'.length;omega,aq⟩⟩
 ·rintro t ⟨nl',sets',Xh,rfl,nw,Ck,Ui,wE,aq⟩
  have Bk:64=sets'.length:=by have:=Ck.1;omega
  rw[IJ (r:=(sets',Xh)) (by show sets'[Xh.length]? =none;rw[Ui,Bk];simp)] at nw;exact⟨.exit 0,_,B8 R0 R1 S nl' sets' Xh 64 Bk,rfl,.inl ⟨(sets',Xh),rfl,nw,_,nl',rfl,Ck,by show Xh.length=sets'.length;omega,aq⟩⟩
end
abbrev ve(R0 R1:fa)(S:PV)(nl nr:Bool)(fr:Nat)(ma:List Al)(C:List Int)(n:Nat)(T:List fa):List fa:=
 R0::R1:: .map (Uq ma 0):: .box [.pv S,.mp 2,.uq 4 nl 2 (ma.map xe),.own 5 n]:: .tok 2 ma.length nl:: .seq 256 true (Ca C) fr nr::T
abbrev Zb(row:List Int):PV:= .agg (row.map aa)
abbrev eo(n:Nat)(row:List Int)(i x:Int):Tr:=
 (((((Tr.lf.set 34 (.pv (aa x))).set 33 (.pv (Zb row))).set 5 (.pv (aa i))).set 4 (.mp 7)).set 3 (.own 6 n)).set 0 (.ptr 3 0)
section
variable (call:Ab)(R0 R1:fa)(S:PV)(nl nr nk:Bool)(fr fk:Nat)(ma:List Al)(C:List Int)(n:Nat)(Ob:List Int)(M:fa)(row:List Int)(i x:Nat)(to:Int)
theorem oal(hx:x < 256)(me:row[x]? =some to)(h:to < 0):Aa (ua call yv) (fun s=>some (tidy [0,3,4,5,33,34] s)) ⟨eo n row i x,ve R0 R1 S nl nr fr ma C n [.seq 1 false (Ca Ob) fk nk,M]⟩=
 some (.norm,⟨eo n row i (x+1:Nat),ve R0 R1 S nl nr fr ma C n [.seq 1 false (Ca Ob) fk nk,M]⟩):=by
 have e1:decide ((x:Int) < 256)=true:=Qa (by omega);have e2:decide (to>=0)=false:=Ra (by omega);have hq:Ta (x:Int) 256:=by unfold Ta;omega
 have t1:((x:Int)).toNat=x:=by simp
 have t2:=ee (i:=x) (n:=256) hx (by unfold maxLen;omega);have ht:(row.map aa)[x]? =some (aa to):=by rw[Gd,me];rfl
 simp -implicitDefEqProofs only[SP,SA,SQ,sevalprocAttr,-List.reduceReplicate,Aa,yv,e1,e2,Sa hq,t1,t2,ht,Dj,Ua,tidy,Gf,eo,ve]
theorem nal(hC:C.length=n * 256)(hk:Ob.length=n)(hfr:fr<=n * 256)(Qp:fk<=n)(hi:i < n)(hx:x < 256)(me:row[x]? =some to)(h:0<=to){v:Int}(hv:Ob[to.toNat]? =some v):Aa (ua call yv) (fun s=>some (tidy [0,3,4,5,33,34] s)) ⟨eo n row i x,ve R0 R1 S nl nr fr ma C n [.seq 1 false (Ca Ob) fk nk,M]⟩=
 some (.norm,⟨eo n row i (x+1:Nat),ve R0 R1 S nl nr (n * 256) ma (C.set (i * 256+x) v) n [.seq 1 false (Ca Ob) fk nk,M]⟩):=by
 have e1:decide ((x:Int) < 256)=true:=Qa (by omega);have e2:decide (to>=0)=true:=Qa (by omega);have hq:Ta (x:Int) 256:=by unfold Ta;omega
 have t1:((x:Int)).toNat=x:=by simp
 have t3:((i:Int)).toNat=i:=by simp
 have t2:=ee (i:=x) (n:=256) hx (by unfold maxLen;omega);have ht:(row.map aa)[x]? =some (aa to):=by rw[Gd,me];rfl
 have Ny:(Ca Ob)[to.toNat]? =some (.pv (aa v)):=by rw[Ca,Gd,hv];rfl
 have mw:=(Ad.1 hv).1
 have si:Ta to n:=by unfold Ta;omega
 have Iy:Ta (i:Int) n:=by unfold Ta;omega
 have w1:bh 1 n fk (Ca Ob).length:=by rw[qe];unfold bh;omega
 have w2:bh 256 n fr (Ca C).length:=by rw[qe];unfold bh;omega
 have w3:((Ca Ob).length=n)=True:=by rw[qe];exact Sa hk
 have w5:(i * 256+x+1<=n * 256)=True:=Sa (by omega);have w4:((Ca C).length=n * 256)=True:=by rw[qe];exact Sa hC
 simp -implicitDefEqProofs only[SP,SA,SQ,sevalprocAttr,-List.reduceReplicate,Aa,yv,e1,e2,Sa hq,Sa si,Sa Iy,Sa w1,Sa w2,w3,w4,w5,t1,t2,t3,ht,Ny,Dj,Ua,sq,tidy,Gf,eo,ve]
def Og(Ob row:List Int)(i:Nat):List Nat->List Int->List Int
 | [],C=>C
 |x::xs,C=>Og Ob row i xs (match row[x]? with
  |some to=>if 0<=to then C.set (i * 256+x) (Ob.getD to.toNat 0) else C
  |none=>C)
theorem aF(Ob row:List Int)(i:Nat):∀ (xs:List Nat)(C:List Int),(Og Ob row i xs C).length=C.length
 | [],C=>rfl
 |x::xs,C=>by
  rw[Og,aF Ob row i xs]
  split
  ·split <;> simp
  ·rfl
theorem ial(hC:C.length=n * 256)(hk:Ob.length=n)(hfr:fr=0\/fr=n * 256)(Qp:fk<=n)(hi:i < n)(Xc:row.length=256)(me:∀ to∈row,to < n):
 ∃ fr',(fr'=0\/fr'=n * 256)/\Mb (Aa (ua call yv) (fun s=>some (tidy [0,3,4,5,33,34] s))) Ga ⟨eo n row i 0,ve R0 R1 S nl nr fr ma C n [.seq 1 false (Ca Ob) fk nk,M]⟩=
  some (.exit 2,⟨(eo n row i 256).set 35 (.pv (.bool false)),ve R0 R1 S nl nr fr' ma (Og Ob row i (List.range 256) C) n [.seq 1 false (Ca Ob) fk nk,M]⟩):=by
 generalize hxs:List.range 256=xs
 have key:=vt (g:=Aa (ua call yv) (fun s=>some (tidy [0,3,4,5,33,34] s)))
  (fun x t=>∃ fr' C',(fr'=0\/fr'=n * 256)/\C'.length=n * 256/\t=⟨eo n row i x,ve R0 R1 S nl nr fr' ma C' n [.seq 1 false (Ca Ob) fk nk,M]⟩/\Og Ob row i xs C=Og Ob row i (xs.drop x) C')
  (fun ex t=>∃ fr',(fr'=0\/fr'=n * 256)/\ex= .exit 2/\t=⟨(eo n row i 256).set 35 (.pv (.bool false)),ve R0 R1 S nl nr fr' ma (Og Ob row i xs C) n [.seq 1 false (Ca Ob) fk nk,M]⟩)
  Ga 256 0 ⟨eo n row i (0:Nat),ve R0 R1 S nl nr fr ma C n [.seq 1 false (Ca Ob) fk nk,M]⟩ (by unfold Ga;omega) (by omega) ⟨fr,C,hfr,hC,rfl,rfl⟩ ?_ ?_
 ·obtain⟨ex,t,h,_,fr',q1,rfl,rfl⟩:=key
  exact⟨fr',q1,h⟩
 ·rintro x hx t ⟨fr',C',ir,CM,rfl,hl⟩
  have hd:=fJ hx;rw[hxs] at hd;rw[hd] at hl;obtain⟨to,ht⟩:∃ to,row[x]? =some to:=⟨row[x],by simp[Xc,hx]⟩;have hlt:=me to (vj ht)
  by_cases h0:0<=to
  ·obtain⟨v,hv⟩:∃ v,Ob[to.toNat]? =some v:=⟨Ob[to.toNat]'(by omega),by rw[Rb]⟩
   refine .inl ⟨_,nal call R0 R1 S nl nr nk fr' fk ma C' n Ob M row i x to CM hk (by omega) Qp hi hx ht h0 hv,n * 256,_,.inr rfl,by simpa using CM,rfl,?_⟩
   rw[hl,Og,ht];have:Ob.getD to.toNat 0=v:=by simp[hv]
   simp only[if_pos h0,this]
  ·refine .inl ⟨_,oal call R0 R1 S nl nr nk fr' fk ma C' n Ob M row i x to hx ht (by omega),fr',C',ir,CM,rfl,?_⟩
   rw[hl,Og,ht];simp only[qa h0]
 ·rintro t ⟨fr',C',ir,CM,rfl,hl⟩
  rw[Vr (by rw[<- hxs,Wn];exact gb _)] at hl;refine⟨.exit 2,_,?_,rfl,fr',ir,rfl,rfl⟩;rw[hl];have e1:decide (((256:Nat):Int) < 256)=false:=by decide
  simp -implicitDefEqProofs only[SP,SA,SQ,sevalprocAttr,-List.reduceReplicate,Aa,yv,e1,eo,ve,Og]
end
theorem BR:∀ (a b:List Int),a.length=b.length->Wk (List.replicate a.length 1) (a.map aa) (b.map aa)=some (decide (a=b))
 | [],[],_=>rfl
 |x::a,y::b,h=>by
  have ih:=BR a b (by simpa using h);simp only[Td,List.replicate_succ,Pf,Wk,Is,if_true,Lc,ih,Vc,bG,Bool.decide_and]
  congr 2
 | [],_::_,h=>by cases h
 |_::_,[],h=>by cases h
def Pj(M:List (List Int×Int)):List (PV×PV):=M.map fun p=>(Zb p.1,aa p.2)
theorem aae(M:List (List Int×Int))(p:List Int×Int):Pj (M++[p])=Pj M++[(Zb p.1,aa p.2)]:=by simp[Pj]
def Ii(a:List Int):List (List Int×Int)->Option Int
 | []=>none
 |p::r=>if a=p.1 then some p.2 else Ii a r
theorem iY{a:List Int}(ha:a.length=256):∀ (M:List (List Int×Int))(j:Nat),(∀ p∈M,p.1.length=256)->
 (∀ v,Ii a M=some v->∃ k,Rj (.row (List.replicate 256 1)) (Zb a) (Pj M) j=some (some (k,aa v)))/\(Ii a M=none->Rj (.row (List.replicate 256 1)) (Zb a) (Pj M) j=some none)
 | [],j,_=>⟨fun v h=>(by cases h),fun _=>rfl⟩
 |p::r,j,hp=>by
  have he:=BR a p.1 (by rw[ha,hp p (by simp)])
  rw[ha] at he;have ih:=iY ha r (j+1) (fun q hq=>hp q (by simp[hq]));have hk:Sf (.row (List.replicate 256 1)) (Zb a) (Zb p.1)=some (decide (a=p.1)):=he;rw[show Pj (p::r)=(Zb p.1,aa p.2)::Pj r from rfl,Rj,hk,Lc,Ii]
  by_cases h:a=p.1
  ·rw[if_pos h,decide_eq_true h]
   exact⟨fun v e=>(by injection e with e;subst e;exact⟨j,rfl⟩),fun e=>(by cases e)⟩
  ·rw[qa h,decide_eq_false h]
   exact ih
theorem nap{a:List Int}(ha:a.length=256):(Sf (.row (List.replicate 256 1)) (Zb a) (Zb a)).isSome=true:=by
 have he:=BR a a rfl;rw[ha] at he;show (Wk _ _ _).isSome=true
 rw[he];rfl
def Kb(C:List Int)(i:Nat):List Int:=(C.drop (i * 256)).take 256
theorem xq{C:List Int}{n i:Nat}(hC:C.length=n * 256)(hi:i < n):(Kb C i).length=256:=by
 unfold Kb;rw[ij,uk,hC];omega
theorem PU(C:List Int)(i:Nat):bd (List.take 256 (List.drop (i * 256) (Ca C)))=some ((Kb C i).map aa):=by
 have:List.take 256 (List.drop (i * 256) (Ca C))=Ca (Kb C i):=by unfold Kb Ca;rw[List.map_take,List.map_drop]
 rw[this,oG]
structure Ml where
 C:List Int
 Ob:List Int
 M:List (List Int×Int)
def tt(i:Nat)(s:Ml):Ml:=
 let C:=Og s.Ob (Kb s.C i) i (List.range 256) s.C
 match Ii (Kb C i) s.M with
 |some v=>⟨C,s.Ob.set i v,s.M⟩
 |none=>⟨C,s.Ob.set i i,s.M++[(Kb C i,(i:Int))]⟩
def Hn:Nat->Ml->Ml
 |0,s=>s
 |i+1,s=>Hn i (tt i s)
theorem WT{i:Nat}{s:Ml}{v:Int}(h:Ii (Kb (Og s.Ob (Kb s.C i) i (List.range 256) s.C) i) s.M=some v):tt i s=⟨Og s.Ob (Kb s.C i) i (List.range 256) s.C,s.Ob.set i v,s.M⟩:=by
 simp only[tt,h]
theorem VT{i:Nat}{s:Ml}(h:Ii (Kb (Og s.Ob (Kb s.C i) i (List.range 256) s.C) i) s.M=none):
 tt i s=⟨Og s.Ob (Kb s.C i) i (List.range 256) s.C,s.Ob.set i i,s.M++[(Kb (Og s.Ob (Kb s.C i) i (List.range 256) s.C) i,(i:Int))]⟩:=by
 simp only[tt,h]
abbrev fp(n:Nat)(i:Int):Tr:=(((Tr.lf.set 5 (.pv (aa i))).set 4 (.mp 7)).set 3 (.own 6 n)).set 0 (.ptr 3 0)
section
variable (call:Ab)(R0 R1:fa)(S:PV)(nl nr nk:Bool)(fr fk:Nat)(ma:List Al)(n:Nat)(s:Ml)(i:Nat)
theorem lal(hC:s.C.length=n * 256)(hk:s.Ob.length=n)(hfr:fr=0\/fr=n * 256)(Qp:fk<=n)(hi:i < n)(hn:n<=64)(me:∀ to∈Kb s.C i,to < n)(hM:∀ p∈s.M,p.1.length=256):
 ∃ fr',(fr'=0\/fr'=n * 256)/\Aa (ua call eA) (fun s=>some (tidy [0,3,4,5] s)) ⟨fp n i,ve R0 R1 S nl nr fr ma s.C n [.seq 1 false (Ca s.Ob) fk nk,.map (Pj s.M)]⟩=
  some (.norm,⟨fp n ((i:Int) - 1),ve R0 R1 S nl nr fr' ma (tt i s).C n [.seq 1 false (Ca (tt i s).Ob) n nk,.map (Pj (tt i s).M)]⟩):=by
 obtain⟨fr',ir,Tf⟩:=ial call R0 R1 S nl nr nk fr fk ma s.C n s.Ob (.map (Pj s.M)) (Kb s.C i) i hC hk hfr Qp hi (xq hC hi) me
 refine⟨fr',ir,?_⟩;have cy:(Og s.Ob (Kb s.C i) i (List.range 256) s.C).length=n * 256:=by rw[aF,hC]
 have Ui:=xq cy hi;have Tj:=iY Ui s.M 0 hM
 have Us:=nap Ui;have p1:=PU s.C i
 have p2:=PU (Og s.Ob (Kb s.C i) i (List.range 256) s.C) i;have e1:decide ((i:Int)>=0)=true:=Qa (by omega);have Iy:Ta (i:Int) n:=by unfold Ta;omega
 have t3:((i:Int)).toNat=i:=by simp
 have t2:IntKind.i64.wrap ((i:Int) - 1)=(i:Int) - 1:=Gb (by omega)
 have w2:bh 256 n fr (Ca s.C).length:=by rw[qe];unfold bh;omega
 have w4:((Ca s.C).length=n * 256)=True:=by rw[qe];exact Sa hC
 have w6:(i * 256+256<=(Ca s.C).length)=True:=by rw[qe];exact Sa (by omega)
 have Fi:=@WT i s;have Mh:=@VT i s;generalize Og s.Ob (Kb s.C i) i (List.range 256) s.C=C2 at *
 have K9:bh 256 n fr' (Ca C2).length:=by rw[qe];unfold bh;omega
 have L9:((Ca C2).length=n * 256)=True:=by rw[qe];exact Sa cy
 have M9:(i * 256+256<=(Ca C2).length)=True:=by rw[qe];exact Sa (by omega)
 have w1:bh 1 n fk (Ca s.Ob).length:=by rw[qe];unfold bh;omega
 have w3:((Ca s.Ob).length=n)=True:=by rw[qe];exact Sa hk
 have w5:(i+1<=n)=True:=Sa (by omega);generalize hz:List.replicate 256 1=ks at *
 have iI:Mb (Aa (ua call yv) (fun s=>some (tidy [0,3,4,5,33,34] s))) Ga ⟨eo n (Kb s.C i) i 0,ve R0 R1 S nl nr fr ma s.C n [.seq 1 false (Ca s.Ob) fk nk,.map (Pj s.M)]⟩=_:=Tf;simp only[eo,ve,tidy,Gf] at iI;cases wo:Ii (Kb C2 i) s.M with
 |some v=>
  obtain⟨k,Qe⟩:=Tj.1 v wo
  rw[Fi wo];simp -implicitDefEqProofs only[SP,SA,SQ,sevalprocAttr,-List.reduceReplicate,Aa,eA,e1,Sa Iy,t2,t3,Sa w2,w4,w6,p1,Ua,Wu,tidy,Gf,fp,ve,hz];rw[iI];simp -implicitDefEqProofs only[SP,SA,SQ,sevalprocAttr,-List.reduceReplicate,Sa Iy,t2,t3,Sa K9,L9,M9,Sa w1,w3,w5,p2,Ua,Sa Us,Qe,sq,tidy,Gf,fp,ve]
 |none=>
  have Qe:=Tj.2 wo
  rw[Mh wo];simp -implicitDefEqProofs only[SP,SA,SQ,sevalprocAttr,-List.reduceReplicate,Aa,eA,e1,Sa Iy,t2,t3,Sa w2,w4,w6,p1,Ua,Wu,tidy,Gf,fp,ve,hz];rw[iI];simp -implicitDefEqProofs only[SP,SA,SQ,sevalprocAttr,-List.reduceReplicate,Sa Iy,t2,t3,Sa K9,L9,M9,Sa w1,w3,w5,p2,Ua,Sa Us,Qe,sq,tidy,Gf,fp,ve,aae]
end
structure Mz(n:Nat)(s:Ml):Prop where
 hC:s.C.length=n * 256
 hk:s.Ob.length=n
 cC:∀ c∈s.C,c < n
 ck:∀ c∈s.Ob,c < n
 cM:∀ p∈s.M,p.1.length=256/\p.2 < n
theorem J2{Ob row:List Int}{i:Nat}{n:Int}(hn:0 < n)(hk:∀ c∈Ob,c < n):∀ (xs:List Nat)(C:List Int),(∀ c∈C,c < n)->∀ c∈Og Ob row i xs C,c < n
 | [],C,h=>h
 |x::xs,C,h=>by
  rw[Og];refine J2 hn hk xs _ ?_
  split
  ·split
   ·intro c hc
    rcases Oo hc with h1 | h1
    ·exact h c h1
    ·subst h1
     next to _ _=>
     rcases yd to.toNat Ob.length with h2 | h2
     ·rw[sf,Rb h2];exact hk _ (ic h2)
     ·rw[sf,dh h2];exact hn
   ·exact h
  ·exact h
theorem NI{a:List Int}:∀ {M:List (List Int×Int)}{v:Int},Ii a M=some v->∃ p∈M,p.1=a/\p.2=v
 |p::r,v,h=>by
  rw[Ii] at h
  split at h
  ·next h1=>injection h with h;exact⟨p,by simp,h1.symm,h⟩
  ·obtain⟨q,hq,e⟩:=NI h
   exact⟨q,by simp[hq],e⟩
theorem K2{n i:Nat}{s:Ml}(hi:i < n)(h:Mz n s):Mz n (tt i s):=by
 have cy:(Og s.Ob (Kb s.C i) i (List.range 256) s.C).length=n * 256:=by rw[aF,h.hC]
 have hlt:=J2 (i:=i) (row:=Kb s.C i) (n:=(n:Int)) (by omega) h.ck (List.range 256) s.C h.cC
 have Fi:=@WT i s;have Mh:=@VT i s;generalize Og s.Ob (Kb s.C i) i (List.range 256) s.C=C2 at *
 cases hl:Ii (Kb C2 i) s.M with
 |some v=>
  obtain⟨p,hp,_,hv⟩:=NI hl;have:=(h.cM p hp).2
  rw[Fi hl];refine⟨cy,by simp[h.hk],hlt,?_,h.cM⟩;intro c hc;rcases Oo hc with h1 | h1
  ·exact h.ck c h1
  ·omega
 |none=>
  rw[Mh hl];refine⟨cy,by simp[h.hk],hlt,?_,?_⟩
  ·intro c hc
   rcases Oo hc with h1 | h1
   ·exact h.ck c h1
   ·omega
  ·intro p hp
   rcases Bd.1 hp with h1 | h1
   ·exact h.cM p h1
   ·simp at h1;subst h1;exact⟨xq cy hi,by simp;omega⟩
theorem I2{n:Nat}:∀ (k:Nat)(s:Ml),k<=n->Mz n s->Mz n (Hn k s)
 |0,s,_,h=>h
 |k+1,s,hk,h=>I2 k _ (by omega) (K2 (by omega) h)
def eg(n:Nat)(C:List Int):Ml:=Hn n ⟨C,List.replicate n 0,[]⟩
section
variable (call:Ab)(R0 R1:fa)(S:PV)(nl nr nk:Bool)(ma:List Al)(C:List Int)(n:Nat)
theorem kal(s0:Ml)(hn:n<=64)(h0:0 < n)(ga:Mz n s0):
 ∃ fr fk,(fr=0\/fr=n * 256)/\Mb (Aa (ua call eA) (fun s=>some (tidy [0,3,4,5] s))) Ga ⟨fp n ((n:Int) - 1),ve R0 R1 S nl nr 0 ma s0.C n [.seq 1 false (Ca s0.Ob) 0 nk,.map (Pj s0.M)]⟩=
  some (.exit 0,⟨((fp n (-1)).set 23 (.pv (aa (-1)))).set 24 (.pv (.bool false)),ve R0 R1 S nl nr fr ma (Hn n s0).C n [.seq 1 false (Ca (Hn n s0).Ob) fk nk,.map (Pj (Hn n s0).M)]⟩)/\fk<=n:=by
 have key:=vt (g:=Aa (ua call eA) (fun s=>some (tidy [0,3,4,5] s)))
  (fun j t=>∃ fr fk s,(fr=0\/fr=n * 256)/\fk<=n/\Mz n s/\t=⟨fp n ((n:Int) - 1 - j),ve R0 R1 S nl nr fr ma s.C n [.seq 1 false (Ca s.Ob) fk nk,.map (Pj s.M)]⟩/\Hn n s0=Hn (n - j) s)
  (fun ex t=>∃ fr fk,(fr=0\/fr=n * 256)/\fk<=n/\ex= .exit 0/\t=⟨((fp n (-1)).set 23 (.pv (aa (-1)))).set 24 (.pv (.bool false)),ve R0 R1 S nl nr fr ma (Hn n s0).C n [.seq 1 false (Ca (Hn n s0).Ob) fk nk,.map (Pj (Hn n s0).M)]⟩)
  Ga n 0 ⟨fp n ((n:Int) - 1 - (0:Nat)),ve R0 R1 S nl nr 0 ma s0.C n [.seq 1 false (Ca s0.Ob) 0 nk,.map (Pj s0.M)]⟩ (by unfold Ga;omega) (by omega) ⟨0,0,s0,.inl rfl,by omega,ga,rfl,rfl⟩ ?_ ?_
 ·obtain⟨ex,t,h,_,fr,fk,q1,q2,rfl,rfl⟩:=key
  rw[show ((n:Int) - 1 - (0:Nat))=(n:Int) - 1 by omega] at h;exact⟨fr,fk,q1,h,q2⟩
 ·rintro j hj t ⟨fr,fk,s,hf,Qp,hs,rfl,hl⟩
  obtain⟨i,hi⟩:∃ i,n - j=i+1:=⟨n - j - 1,by omega⟩;rw[hi,Hn] at hl;obtain⟨fr',ir,hr⟩:=lal call R0 R1 S nl nr nk fr fk ma n s i hs.hC hs.hk hf Qp (by omega) hn
   (fun to h=>hs.cC to (No (Ot h))) (fun p hp=>(hs.cM p hp).1)
  rw[show ((n:Int) - 1 - (j:Int))=(i:Int) by omega];refine .inl ⟨_,hr,fr',n,tt i s,ir,by omega,K2 (by omega) hs,?_,?_⟩
  ·rw[show ((n:Int) - 1 - ((j+1:Nat):Int))=(i:Int) - 1 by omega]
  ·rw[hl,show n - (j+1)=i by omega]
 ·rintro t ⟨fr,fk,s,hf,Qp,hs,rfl,hl⟩
  rw[Kq,Hn] at hl;rw[show ((n:Int) - 1 - (n:Int))= -1 by omega];refine⟨.exit 0,_,?_,rfl,fr,fk,hf,Qp,rfl,rfl⟩;rw[hl];have e1:decide ((-1:Int)>=0)=false:=by decide
  simp -implicitDefEqProofs only[SP,SA,SQ,sevalprocAttr,-List.reduceReplicate,Aa,eA,e1,fp,ve]
theorem y7(n:Nat):Yf [PV.int .i64 0] n=Ca (List.replicate n 0):=by
 induction n with
 |zero=>rfl
 |succ n ih=>rw[Yf,ih];rfl
theorem mal(hn:n<=64)(h0:0 < n)(hs:ma.length=n)(hC:C.length=n * 256)(cC:∀ c∈C,c < n):
 ∃ fr fk v,(fr=0\/fr=n * 256)/\Gc call SK [.ptr 3 0] (ve R0 R1 S nl nr 0 ma C n [])=
  some (v,ve R0 R1 S nl nr fr ma (eg n C).C n [.seq 1 false (Ca (eg n C).Ob) fk false,.map (Pj (eg n C).M)]):=by
 obtain⟨fr,fk,hf,hl,Qp⟩:=kal call R0 R1 S nl nr false ma n ⟨C,List.replicate n 0,[]⟩ hn h0
  ⟨hC,by simp,cC,by intro c hc;rw[AK hc];omega,by simp⟩
 refine⟨fr,fk,.own 6 n,hf,?_⟩;have hlen:(ma.map xe).length=n:=by rw[wb,hs]
 have r0:Yf [PV.int .i64 0] n=Ca (List.replicate n 0):=y7 n;have t1:((n:Int)).toNat=n:=by simp
 have t2:IntKind.i64.wrap ((n:Int) - 1)=(n:Int) - 1:=Gb (by omega)
 have e1:(0<=(n:Int))=True:=by simp
 have e2:Ac n 8:=by unfold Ac;omega
 have e3:((n:Int)<=(n:Int))=True:=by simp
 unfold eg;generalize Hn n ⟨C,List.replicate n 0,[]⟩=g at *;generalize List.replicate n (0:Int)=zs at *
 simp only[tidy,Gf,fp,ve,Pj,gv] at hl;simp -implicitDefEqProofs only[SP,SA,SQ,sevalprocAttr,-List.reduceReplicate,SK,hlen,r0,t1,t2,e1,Sa e2,e3,Wu,tidy,Gf,ve];rw[hl];simp -implicitDefEqProofs only[SP,SA,SQ,sevalprocAttr,-List.reduceReplicate,ve,Pj]
end
structure Oa where
 lo:Int
 hi:Int
 to:Int
deriving DecidableEq
def gu(e:Oa):PV:= .agg [aa e.lo,aa e.hi,aa e.to]
def Ed(l:List Oa):List Int:=l.flatMap fun e=>[e.lo,e.hi,e.to]
theorem iu(l:List Oa):(Ed l).length=l.length * 3:=by
 induction l with
 |nil=>rfl
 |cons e l ih=>simp only[Ed,yx,Pc,Td,Ch] at ih ⊢;omega
theorem TA(l:List Oa)(e:Oa):Ed (l++[e])=Ed l++[e.lo,e.hi,e.to]:=by simp[Ed]
def uf(x to:Int)(l:List Oa):List Oa:=
 if to= -2 then l else match l.getLast? with
  |some e=>if e.to=to/\e.hi=x - 1 then l.dropLast++[⟨e.lo,x,e.to⟩] else l++[⟨x,x,to⟩]
  |none=>l++[⟨x,x,to⟩]
theorem F7(a b c:Int):Ca [a,b,c]=[.pv (aa a),.pv (aa b),.pv (aa c)]:=rfl
theorem MU(a b:List Int):Ca (a++b)=Ca a++Ca b:=by simp[Ca]
abbrev Qj(row:List Int)(n:Nat)(x:Int):Tr:=((Tr.lf.set 8 (.pv (aa x))).set 7 (.pv (Zb row))).set 3 (.own 0 n)
theorem tJ(l:List Int)(e:Oa)(k:Nat)(hk:k < 3):(Ca (l++[e.lo,e.hi,e.to]))[l.length+k]? =some (.pv (aa (if k=0 then e.lo else if k=1 then e.hi else e.to))):=by
 rw[Ca,Gd,Tg (by omega),Uz]
 match k,hk with
 |0,_=>rfl
 |1,_=>rfl
 |2,_=>rfl
section
variable (call:Ab)(row:List Int)(x:Nat)(to:Int)(fl:Nat)
 (hx:x < 256) (me:row[x]? =some to)
include hx me
theorem Rad(l:List Oa)(nl:Bool)(h:to= -2):Aa (ua call Zo) (fun s=>some (tidy [3,7,8] s)) ⟨Qj row l.length x,[.seq 3 true (Ca (Ed l)) fl nl]⟩=
 some (.norm,⟨Qj row l.length (x+1:Nat),[.seq 3 true (Ca (Ed l)) fl nl]⟩):=by
 have e1:decide ((x:Int) < 256)=true:=Qa (by omega);have e2:(to== -2)=true:=by simp[h]
 have hq:Ta (x:Int) 256:=by unfold Ta;omega
 have t1:((x:Int)).toNat=x:=by simp
 have t2:=ee (i:=x) (n:=256) hx (by unfold maxLen;omega);have ht:(row.map aa)[x]? =some (aa to):=by rw[Gd,me];rfl
 simp -implicitDefEqProofs only[SP,SA,SQ,sevalprocAttr,Aa,Zo,e1,e2,Sa hq,t1,t2,ht,Ua,tidy,Gf,Qj]
theorem Pad(nl:Bool)(h:to≠ -2):Aa (ua call Zo) (fun s=>some (tidy [3,7,8] s)) ⟨Qj row 0 x,[.seq 3 true [] 0 nl]⟩=
 some (.norm,⟨Qj row 1 (x+1:Nat),[.seq 3 true (Ca [(x:Int),x,to]) 0 false]⟩):=by
 have e1:decide ((x:Int) < 256)=true:=Qa (by omega);have e2:(to== -2)=false:=jj h;have hq:Ta (x:Int) 256:=by unfold Ta;omega
 have t1:((x:Int)).toNat=x:=by simp
 have t2:=ee (i:=x) (n:=256) hx (by unfold maxLen;omega);have ht:(row.map aa)[x]? =some (aa to):=by rw[Gd,me];rfl
 have q1:Ac 1 24:=by unfold Ac;omega
 simp -implicitDefEqProofs only[SP,SA,SQ,sevalprocAttr,Aa,Zo,e1,e2,Sa hq,t1,t2,ht,Sa q1,Ua,tidy,Gf,Qj,yk,mh,AV.Mi,AV.xi,Ca]
variable (l:List Oa)(e:Oa)(hl:l.length < 256)(hfl:fl<=(l.length+1) * 3)
include hl hfl
theorem Qad(h:to≠ -2)(h1:e.to=to)(h2:e.hi=(x:Int) - 1):Aa (ua call Zo) (fun s=>some (tidy [3,7,8] s)) ⟨Qj row (l.length+1) x,[.seq 3 true (Ca (Ed l++[e.lo,e.hi,e.to])) fl false]⟩=
 some (.norm,⟨Qj row (l.length+1) (x+1:Nat),[.seq 3 true (Ca (Ed l++[e.lo,(x:Int),e.to])) ((l.length+1) * 3) false]⟩):=by
 have e1:decide ((x:Int) < 256)=true:=Qa (by omega);have e2:(to== -2)=false:=jj h;have hq:Ta (x:Int) 256:=by unfold Ta;omega
 have t1:((x:Int)).toNat=x:=by simp
 have t2:=ee (i:=x) (n:=256) hx (by unfold maxLen;omega);have ht:(row.map aa)[x]? =some (aa to):=by rw[Gd,me];rfl
 have e3:decide (((l.length+1:Nat):Int) > 0)=true:=Qa (by omega);have t3:IntKind.i64.wrap (((l.length+1:Nat):Int) - 1)=(l.length:Int):=by rw[Gb (by omega)];omega
 have t4:((l.length:Int)).toNat=l.length:=by simp
 have t5:IntKind.i64.wrap ((x:Int) - 1)=(x:Int) - 1:=Gb (by omega)
 have si:Ta (l.length:Int) (l.length+1):=by unfold Ta;omega
 have hlen:(Ca (Ed l++[e.lo,e.hi,e.to])).length=(l.length+1) * 3:=by rw[qe,Pc,iu];simp;omega
 have w1:bh 3 (l.length+1) fl (Ca (Ed l++[e.lo,e.hi,e.to])).length:=by rw[hlen];unfold bh;omega
 have w2:((Ca (Ed l++[e.lo,e.hi,e.to])).length=(l.length+1) * 3)=True:=Sa hlen;have g2:=tJ (Ed l) e 2 (by omega);have g1:=tJ (Ed l) e 1 (by omega);rw[iu] at g1 g2;simp only[h1,h2] at g1 g2;have b1:(to==to)=true:=by simp
 have b2:((x:Int) - 1==(x:Int) - 1)=true:=by simp
 have w3:(l.length * 3+1+1<=(l.length+1) * 3)=True:=Sa (by omega);have Cj:(Ca (Ed l++[e.lo,(x:Int) - 1,to])).set (l.length * 3+1) (.pv (aa x))=Ca (Ed l++[e.lo,(x:Int),to]):=by rw[sq,<-iu,Po _ _ (by omega),Uz];rfl
 rw[h1,h2] at *;generalize Ed l++[e.lo,(x:Int) - 1,to]=cs at *;simp -implicitDefEqProofs only[SP,SA,SQ,sevalprocAttr,Aa,Zo,e1,e2,e3,Sa hq,Sa si,t1,t2,t3,t4,t5,ht,g1,g2,Sa w1,w2,w3,b1,b2,Cj,Ua,tidy,Gf,Qj]
theorem Sad(h:to≠ -2)(h1:¬(e.to=to/\e.hi=(x:Int) - 1)):Aa (ua call Zo) (fun s=>some (tidy [3,7,8] s)) ⟨Qj row (l.length+1) x,[.seq 3 true (Ca (Ed l++[e.lo,e.hi,e.to])) fl false]⟩=
 some (.norm,⟨Qj row (l.length+1+1) (x+1:Nat),[.seq 3 true (Ca (Ed l++[e.lo,e.hi,e.to])++Ca [(x:Int),x,to]) fl false]⟩):=by
 have e1:decide ((x:Int) < 256)=true:=Qa (by omega);have e2:(to== -2)=false:=jj h;have hq:Ta (x:Int) 256:=by unfold Ta;omega
 have t1:((x:Int)).toNat=x:=by simp
 have t2:=ee (i:=x) (n:=256) hx (by unfold maxLen;omega);have ht:(row.map aa)[x]? =some (aa to):=by rw[Gd,me];rfl
 have e3:decide (((l.length+1:Nat):Int) > 0)=true:=Qa (by omega);have t3:IntKind.i64.wrap (((l.length+1:Nat):Int) - 1)=(l.length:Int):=by rw[Gb (by omega)];omega
 have t4:((l.length:Int)).toNat=l.length:=by simp
 have t5:IntKind.i64.wrap ((x:Int) - 1)=(x:Int) - 1:=Gb (by omega)
 have si:Ta (l.length:Int) (l.length+1):=by unfold Ta;omega
 have hlen:(Ca (Ed l++[e.lo,e.hi,e.to])).length=(l.length+1) * 3:=by rw[qe,Pc,iu];simp;omega
 have w1:bh 3 (l.length+1) fl (Ca (Ed l++[e.lo,e.hi,e.to])).length:=by rw[hlen];unfold bh;omega
 have w2:((Ca (Ed l++[e.lo,e.hi,e.to])).length=(l.length+1) * 3)=True:=Sa hlen;have N9:((l.length+1) * 3=(Ca (Ed l++[e.lo,e.hi,e.to])).length)=True:=Sa hlen.symm
 have g2:(Ca (Ed l++[e.lo,e.hi,e.to]))[(Ed l).length+2]? =some (.pv (aa e.to)):=tJ (Ed l) e 2 (by omega);have g1:(Ca (Ed l++[e.lo,e.hi,e.to]))[(Ed l).length+1]? =some (.pv (aa e.hi)):=tJ (Ed l) e 1 (by omega);rw[iu] at g1 g2;have q1:Ac (l.length+1+1) 24:=by unfold Ac;omega
 generalize Ed l++[e.lo,e.hi,e.to]=cs at *
 by_cases ff:e.to=to
 ·have b1:(e.to==to)=true:=by simp[ff]
  have b2:(e.hi==(x:Int) - 1)=false:=jj fun hh=>h1 ⟨ff,hh⟩;simp -implicitDefEqProofs only[SP,SA,SQ,sevalprocAttr,Aa,Zo,e1,e2,e3,Sa hq,Sa si,t1,t2,t3,t4,t5,ht,g1,g2,Sa w1,w2,N9,Sa q1,b1,b2,Ua,tidy,Gf,Qj,yk,mh,AV.Mi,AV.xi,F7]
 ·have b1:(e.to==to)=false:=jj ff
  simp -implicitDefEqProofs only[SP,SA,SQ,sevalprocAttr,Aa,Zo,e1,e2,e3,Sa hq,Sa si,t1,t2,t3,t4,t5,ht,g1,g2,Sa w1,w2,N9,Sa q1,b1,Ua,tidy,Gf,Qj,yk,mh,AV.Mi,AV.xi,F7]
end
def qh(row:List Int):List Nat->List Oa->List Oa
 | [],l=>l
 |x::xs,l=>qh row xs (uf x (row.getD x 0) l)
def fh(row:List Int):List Oa:=qh row (List.range 256) []
def ae(l:List Oa):PV:=if l.isEmpty then .oa else .lit 3 (l.map gu)
theorem rR(x:Int)(l:List Oa):uf x (-2) l=l:=by simp[uf]
theorem pR{x to:Int}(h:to≠ -2):uf x to []=[⟨x,x,to⟩]:=by simp[uf,h]
theorem qR{x:Int}{l:List Oa}{e:Oa}(h:e.to≠ -2)(h2:e.hi=x - 1):uf x e.to (l++[e])=l++[⟨e.lo,x,e.to⟩]:=by simp[uf,h,h2]
theorem RL{x to:Int}{l:List Oa}{e:Oa}(h:to≠ -2)(h2:¬(e.to=to/\e.hi=x - 1)):uf x to (l++[e])=l++[e]++[⟨x,x,to⟩]:=by
 simp only[uf,qa h,List.getLast?_append,List.getLast?_singleton,Option.some_or,qa h2]
theorem y3(H:List fa)(d:Nat)(l:List Int):Ha (qb H d) (Ca l)=some (l.map aa):=by
 induction l with
 |nil=>rfl
 |cons a l ih=>simp only[Ca,Pf,Ha,ej,Lc] at ih ⊢;rw[ih];rfl
theorem YQ:∀ (l:List Oa),chunk 3 true l.length ((Ed l).map aa)=l.map gu
 | []=>rfl
 |e::l=>by have:=YQ l;rw[Td,chunk];simp only[Ed,yx,Sg,Kf,Pf,List.take,List.drop,if_true] at this ⊢;rw[this];rfl
theorem qar(H:List fa)(id:Nat)(l:List Oa)(fl:Nat)(h:H[id]? =some (.seq 3 true (Ca (Ed l)) fl l.isEmpty)):qb H deep (.own id l.length)=some (ae l):=by
 have hl:(l.length * 3=(Ca (Ed l)).length)=True:=by rw[qe,iu];exact eq_self _
 rw[Ef];simp only[qb,h,hl,Bool.true_or,and_self,if_true];unfold ae;cases hn:l.isEmpty with
 |true=>rfl
 |false=>simp only[Sc,if_false,y3,Vc,YQ]
section
variable (row:List Int)(Xc:row.length=256)
include Xc
theorem Vad(call:Ab):∃ fl,Mb (Aa (ua call Zo) (fun s=>some (tidy [3,7,8] s))) Ga ⟨Qj row 0 0,[.seq 3 true [] 0 true]⟩=
 some (.exit 0,⟨(Qj row (fh row).length 256).set 9 (.pv (.bool false)),[.seq 3 true (Ca (Ed (fh row))) fl (fh row).isEmpty]⟩):=by
 unfold fh;generalize hxs:List.range 256=xs
 have key:=vt (g:=Aa (ua call Zo) (fun s=>some (tidy [3,7,8] s)))
  (fun x t=>∃ fl l,fl<=l.length * 3/\l.length<=x/\t=⟨Qj row l.length x,[.seq 3 true (Ca (Ed l)) fl l.isEmpty]⟩/\qh row xs []=qh row (xs.drop x) l)
  (fun ex t=>∃ fl,ex= .exit 0/\t=⟨(Qj row (qh row xs []).length 256).set 9 (.pv (.bool false)),[.seq 3 true (Ca (Ed (qh row xs []))) fl (qh row xs []).isEmpty]⟩)
  Ga 256 0 ⟨Qj row 0 (0:Nat),[.seq 3 true [] 0 true]⟩ (by unfold Ga;omega) (by omega) ⟨0,[],by simp,by simp,rfl,rfl⟩ ?_ ?_
 ·obtain⟨ex,t,h,_,fl,rfl,rfl⟩:=key
  exact⟨fl,h⟩
 ·rintro x hx t ⟨fl,l,hf,Bj,rfl,hl⟩
  have hd:=fJ hx;rw[hxs] at hd;obtain⟨to,ht⟩:∃ to,row[x]? =some to:=⟨row[x],by simp[Xc,hx]⟩;have Jm:row.getD x 0=to:=by simp[sf,ht]
  rw[hd,qh,Jm] at hl
  by_cases h2:to= -2
  ·rw[h2,rR] at hl
   exact .inl ⟨_,Rad call row x to fl hx ht l _ h2,fl,l,hf,by omega,rfl,hl⟩
  rcases zK l with rfl | ⟨l',e,rfl⟩
  ·rw[pR h2] at hl
   have Yk:fl=0:=by simpa using hf
   subst Yk;exact .inl ⟨_,Pad call row x to hx ht true h2,0,[⟨x,x,to⟩],by simp,by simp,rfl,hl⟩
  ·simp only[xK] at *
   have GS:(l'++[e]).isEmpty=false:=by simp
   have hlen:(l'++[e]).length=l'.length+1:=by simp
   rw[hlen] at hf Bj;rw[GS,hlen,TA]
   by_cases h3:e.to=to/\e.hi=(x:Int) - 1
   ·obtain⟨h3,h4⟩:=h3
    rw[<- h3,qR (by rw[h3];exact h2) h4] at hl;refine .inl ⟨_,Qad call row x to fl hx ht l' e (by omega) hf h2 h3 h4,(l'.length+1) * 3,l'++[⟨e.lo,x,e.to⟩],by simp,by simp;omega,?_,hl⟩
    rw[TA];simp
   ·rw[RL h2 h3] at hl
    refine .inl ⟨_,Sad call row x to fl hx ht l' e (by omega) hf h2 h3,fl,_,?_,?_,?_,hl⟩
    ·simp;omega
    ·simp;omega
    ·rw[TA,TA,MU];simp[Ca]
 ·rintro t ⟨fl,l,hf,Bj,rfl,hl⟩
  rw[Vr (by rw[<- hxs,Wn];exact gb _)] at hl;refine⟨.exit 0,_,?_,rfl,fl,rfl,rfl⟩;rw[hl];have e1:decide (((256:Nat):Int) < 256)=false:=by decide
  simp -implicitDefEqProofs only[SP,SA,SQ,sevalprocAttr,Aa,Zo,e1,Qj,qh]
theorem Wad:SJ [Zb row]=some (ae (fh row)):=by
 obtain⟨fl,hl⟩:=Vad row Xc (La (fun _=>none) 8);have ht:=qar [.seq 3 true (Ca (Ed (fh row))) fl (fh row).isEmpty] 0 (fh row) fl rfl;have h9:(row.map aa).map AV.pv=Ca row:=(vF row).symm
 have p0:((Ca row).length=256)=True:=by rw[qe,Xc];exact eq_self _
 have p1:(256<=(Ca row).length)=True:=by rw[qe,Xc];exact Sa (gb _)
 have p2:List.take 256 (Ca row)=Ca row:=Ih (by rw[qe,Xc];exact gb _)
 have p3:=oG row;have p5:=OU row;have p6:=y3 [] 0 row;have p8:List.take 256 (row.map aa)=row.map aa:=Ih (by rw[wb,Xc];exact gb _)
 have p7:(256<=(row.map aa).length)=True:=by rw[wb,Xc];exact Sa (gb _)
 have p4:((row.map aa).length=256)=True:=by rw[wb,Xc];exact eq_self _
 generalize fh row=es at *;simp only[tidy,Gf,Qj] at hl;simp -implicitDefEqProofs only[SJ,SP,SA,SQ,sevalprocAttr,EP,h9,p0,p1,p2,p3,p4,p5,p6,p7,p8,Af,Wu,tidy,Gf];rw[hl];simp -implicitDefEqProofs only[SP,SA,SQ,sevalprocAttr,ht]
end
def Wj(a:Int):List Int->Nat->Option Nat
 | [],_=>none
 |b::l,k=>if a=b then some k else Wj a l (k+1)
def Vx(l:List Int)(k:Nat):List (PV×PV):=(l.zipIdx k).map fun p=>(aa p.1,aa p.2)
theorem yR(a:Int)(l:List Int)(k:Nat):Vx (a::l) k=(aa a,aa k)::Vx l (k+1):=rfl
theorem JX(a:Int):∀ (l:List Int)(k:Nat),Vx (l++[a]) k=Vx l k++[(aa a,aa (k+l.length:Nat))]
 | [],k=>by simp[Vx]
 |b::l,k=>by rw[Sg,yR,JX a l (k+1),yR];simp;omega
theorem P0{a:Int}:∀ {l:List Int}{k i:Nat},Wj a l k=some i->k<=i
 |b::l,k,i,h=>by
  simp only[Wj] at h
  split at h
  ·injection h with h;omega
  ·have:=P0 h;omega
theorem gY(a:Int):∀ (l:List Int)(k j:Nat),Rj (.one 1) (aa a) (Vx l k) j=some ((Wj a l k).map fun i=>(j+(i - k),aa i)):=by
 intro l
 induction l with
 |nil=>intro k j;rfl
 |cons b l ih=>
  intro k j;have he:Sf (.one 1) (aa a) (aa b)=some (decide (a=b)):=by
   show (if IntKind.i64=IntKind.i64 then some (a==b) else none)=_;rw[if_pos rfl]
   congr 1
  rw[yR,Rj,he];simp only[Lc,Wj]
  by_cases h:a=b
  ·simp[h]
  ·rw[qa h,ih]
   simp only[h,decide_false,Sc,if_false,xb];cases hi:Wj a l (k+1) with
   |none=>rfl
   |some i=>have:=P0 hi;simp only[Vc,xb,Jb,and_true];omega
theorem Y0(a:Int):(Sf (.one 1) (aa a) (aa a)).isSome=true:=rfl
abbrev Jh(R0 R1:fa)(S:PV)(nl nr:Bool)(fr:Nat)(ma:List Al)(C:List Int)(n:Nat)(L M:fa)(O:List Int)(out:List PV)(no:Bool)(T:List fa):List fa:=
 ve R0 R1 S nl nr fr ma C n (L::M:: .box [.pv .oa]:: .map (Vx O 0):: .tok 1 O.length false:: .box [.uq 12 no 1 out]:: .tok 1 out.length no::T)
abbrev Gm(q:Nat)(k:Int)(O:List Int)(Wa:List Int)(x:Int):Tr:=
 (((((((((Tr.lf.set 32 (.pv (aa x))).set 31 (.pv (Zb Wa))).set 7 (.ptr q 0)).set 6 (.pv (aa k))).set 5 (.ptr 11 0)).set 4 (.uq 10 false 1 (O.map aa))).set 3 (.mp 9)).set 2 (.ptr 8 0)).set 0 (.ptr 3 0))
def Bh(x:Nat)(to:Int)(r:List Int×List Int):List Int×List Int:=
 if to < 0 then r else match Wj to r.1 0 with
  |some k=>(r.1,r.2.set x k)
  |none=>(r.1++[to],r.2.set x r.1.length)
section
variable (call:Ab)(R0 R1:fa)(S:PV)(nl nr:Bool)(fr:Nat)(ma:List Al)(C:List Int)(n:Nat)(L M:fa)(O:List Int)(out:List PV)(no:Bool)(J:List fa)
 (k:Int) (Wa row:List Int) (x:Nat) (to:Int) (q:Nat) (hx:x < 256) (me:Wa[x]? =some to)
include hx me
theorem Yar(h:to < 0):
 Aa (ua call Vt) (fun s=>some (tidy [0,2,3,4,5,6,7,31,32] s)) ⟨Gm q k O Wa x,Jh R0 R1 S nl nr fr ma C n L M O out no (J++[.box (Ca row)])⟩=
  some (.norm,⟨Gm q k O Wa (x+1:Nat),Jh R0 R1 S nl nr fr ma C n L M O out no (J++[.box (Ca row)])⟩):=by
 have e1:decide ((x:Int) < 256)=true:=Qa (by omega);have e2:decide (to < 0)=true:=Qa (by omega);have hq:Ta (x:Int) 256:=by unfold Ta;omega
 have t1:((x:Int)).toNat=x:=by simp
 have t2:=ee (i:=x) (n:=256) hx (by unfold maxLen;omega);have ht:(Wa.map aa)[x]? =some (aa to):=by rw[Gd,me];rfl
 simp -implicitDefEqProofs only[SP,SA,SQ,sevalprocAttr,-List.reduceReplicate,Aa,Vt,e1,e2,Sa hq,t1,t2,ht,Ua,tidy,Gf,Gm,Jh,ve]
theorem Tar(hq13:q=J.length+1+1+1+1+1+1+1+1+1+1+1+1+1)(Xc:row.length=256)(h:¬to < 0){j:Nat}(hj:Wj to O 0=some j):
 Aa (ua call Vt) (fun s=>some (tidy [0,2,3,4,5,6,7,31,32] s)) ⟨Gm q k O Wa x,Jh R0 R1 S nl nr fr ma C n L M O out no (J++[.box (Ca row)])⟩=
  some (.norm,⟨Gm q k O Wa (x+1:Nat),Jh R0 R1 S nl nr fr ma C n L M O out no (J++[.box (Ca (row.set x j))])⟩):=by
 have e1:decide ((x:Int) < 256)=true:=Qa (by omega);have e2:decide (to < 0)=false:=Ra (by omega);have hq:Ta (x:Int) 256:=by unfold Ta;omega
 have t1:((x:Int)).toNat=x:=by simp
 have t2:=ee (i:=x) (n:=256) hx (by unfold maxLen;omega);have ht:(Wa.map aa)[x]? =some (aa to):=by rw[Gd,me];rfl
 have hf:=gY to O 0 0;rw[hj] at hf;simp only[Vc] at hf;have Us:=Y0 to;have hle:(x+1<=(Ca row).length)=True:=by rw[qe];exact Sa (by omega)
 subst hq13;simp -implicitDefEqProofs only[SP,SA,SQ,sevalprocAttr,-List.reduceReplicate,Aa,Vt,e1,e2,Sa hq,t1,t2,ht,hf,Sa Us,hle,sq,ay,qz,Ua,tidy,Gf,Gm,Jh,ve]
theorem Sar(hq13:q=J.length+1+1+1+1+1+1+1+1+1+1+1+1+1)(Xc:row.length=256)(h:¬to < 0)(hj:Wj to O 0=none)(hO:O.length < 100):
 Aa (ua call Vt) (fun s=>some (tidy [0,2,3,4,5,6,7,31,32] s)) ⟨Gm q k O Wa x,Jh R0 R1 S nl nr fr ma C n L M O out no (J++[.box (Ca row)])⟩=
  some (.norm,⟨Gm q k (O++[to]) Wa (x+1:Nat),Jh R0 R1 S nl nr fr ma C n L M (O++[to]) out no (J++[.box (Ca (row.set x O.length))])⟩):=by
 have e1:decide ((x:Int) < 256)=true:=Qa (by omega);have e2:decide (to < 0)=false:=Ra (by omega);have hq:Ta (x:Int) 256:=by unfold Ta;omega
 have t1:((x:Int)).toNat=x:=by simp
 have t2:=ee (i:=x) (n:=256) hx (by unfold maxLen;omega);have ht:(Wa.map aa)[x]? =some (aa to):=by rw[Gd,me];rfl
 have hf:=gY to O 0 0;rw[hj] at hf;simp only[Option.map_none] at hf;have Us:=Y0 to;have hle:(x+1<=(Ca row).length)=True:=by rw[qe];exact Sa (by omega)
 have hlen:(O.map aa).length=O.length:=by simp
 have q1:Ac (O.length+1) 8:=by unfold Ac;omega
 have hp:=JX to O 0;rw[De] at hp;have Rp:(O++[to]).length=O.length+1:=by simp
 have BE:(O++[to]).map aa=O.map aa++[aa to]:=by simp
 subst hq13;unfold Gm Jh;rw[hp,Rp,BE];simp -implicitDefEqProofs only[SP,SA,SQ,sevalprocAttr,-List.reduceReplicate,Aa,Vt,e1,e2,Sa hq,t1,t2,ht,hf,Sa Us,hle,hlen,Sa q1,sq,ay,qz,Ua,tidy,Gf,ve,mh,AV.Mi,AV.xi]
end
def Lq(n:Nat)(O:List Int):Prop:=O.Nodup/\∀ o∈O,0<=o/\o < (n:Int)
theorem jU:∀ (n:Nat)(O:List Int),O.Nodup->(∀ o∈O,0<=o/\o < (n:Int))->O.length<=n
 |0,O,_,h=>by
  cases O with
  |nil=>simp
  |cons a O=>have:=h a (by simp);omega
 |n+1,O,hd,h=>by
  have ih:=jU n (O.erase n) (hd.erase _) (fun o ho=>by
   have h1:=h o (List.mem_of_mem_erase ho);have h2:o≠n:=(hd.mem_erase_iff.1 ho).1
   omega)
  rw[List.length_erase] at ih
  split at ih <;> omega
theorem Lq.len{n:Nat}{O:List Int}(h:Lq n O):O.length<=n:=jU n O h.1 h.2
theorem KT{a:Int}:∀ {l:List Int}{k:Nat},Wj a l k=none->a ∉ l
 | [],_,_=>by simp
 |b::l,k,h=>by
  simp only[Wj] at h
  split at h
  ·cases h
  ·next Va=>simp only[Ae,not_or];exact⟨Va,KT h⟩
def xf(Wa:List Int):List Nat->List Int×List Int->List Int×List Int
 | [],r=>r
 |x::xs,r=>xf Wa xs (Bh x (Wa.getD x 0) r)
theorem Oar{n:Nat}{x:Nat}{to:Int}{r:List Int×List Int}(me:to < n)(h:Lq n r.1):Lq n (Bh x to r).1/\(Bh x to r).2.length=r.2.length/\∃ t,(Bh x to r).1=r.1++t:=by
 unfold Bh
 by_cases h0:to < 0
 ·rw[if_pos h0];exact⟨h,rfl,[],by simp⟩
 ·rw[qa h0]
  cases hi:Wj to r.1 0 with
  |some k=>exact⟨h,by simp,[],by simp⟩
  |none=>
   have hn:=KT hi;refine⟨⟨?_,?_⟩,by simp,[to],rfl⟩
   ·simp only[List.nodup_append,h.1,true_and]
    refine⟨by simp,?_⟩;intro a ha b hb;simp at hb;subst hb;intro e;subst e;exact hn ha
   ·intro o ho
    rcases Bd.1 ho with h1 | h1
    ·exact h.2 o h1
    ·simp at h1;subst h1;omega
section
variable (call:Ab)(R0 R1:fa)(S:PV)(nl nr:Bool)(fr:Nat)(ma:List Al)(C:List Int)(n:Nat)(L M:fa)
theorem Par(O:List Int)(out:List PV)(no:Bool)(J:List fa)(k:Int)(Wa:List Int)(q:Nat)(hq13:q=J.length+1+1+1+1+1+1+1+1+1+1+1+1+1)
 (hO:Lq n O) (hn:n<=64) (Xc:Wa.length=256) (me:∀ to∈Wa,to < n):
 Mb (Aa (ua call Vt) (fun s=>some (tidy [0,2,3,4,5,6,7,31,32] s))) Ga ⟨Gm q k O Wa 0,Jh R0 R1 S nl nr fr ma C n L M O out no (J++[.box (Ca Wa)])⟩=
  some (.exit 2,⟨(Gm q k (xf Wa (List.range 256) (O,Wa)).1 Wa 256).set 33 (.pv (.bool false)),
   Jh R0 R1 S nl nr fr ma C n L M (xf Wa (List.range 256) (O,Wa)).1 out no (J++[.box (Ca (xf Wa (List.range 256) (O,Wa)).2)])⟩)/\
  Lq n (xf Wa (List.range 256) (O,Wa)).1/\(xf Wa (List.range 256) (O,Wa)).2.length=256/\∃ t,(xf Wa (List.range 256) (O,Wa)).1=O++t:=by
 generalize hxs:List.range 256=xs
 have key:=vt (g:=Aa (ua call Vt) (fun s=>some (tidy [0,2,3,4,5,6,7,31,32] s)))
  (fun x t=>∃ r,Lq n r.1/\r.2.length=256/\(∃ t,r.1=O++t)/\t=⟨Gm q k r.1 Wa x,Jh R0 R1 S nl nr fr ma C n L M r.1 out no (J++[.box (Ca r.2)])⟩/\xf Wa xs (O,Wa)=xf Wa (xs.drop x) r)
  (fun ex t=>ex= .exit 2/\t=⟨(Gm q k (xf Wa xs (O,Wa)).1 Wa 256).set 33 (.pv (.bool false)),Jh R0 R1 S nl nr fr ma C n L M (xf Wa xs (O,Wa)).1 out no (J++[.box (Ca (xf Wa xs (O,Wa)).2)])⟩/\
   Lq n (xf Wa xs (O,Wa)).1/\(xf Wa xs (O,Wa)).2.length=256/\∃ t,(xf Wa xs (O,Wa)).1=O++t)
  Ga 256 0 ⟨Gm q k O Wa (0:Nat),Jh R0 R1 S nl nr fr ma C n L M O out no (J++[.box (Ca Wa)])⟩ (by unfold Ga;omega) (by omega) ⟨(O,Wa),hO,Xc,⟨[],by simp⟩,rfl,rfl⟩ ?_ ?_
 ·obtain⟨ex,t,h,_,rfl,rfl,q1,q2⟩:=key
  exact⟨h,q1,q2⟩
 ·rintro x hx t ⟨⟨O',row⟩,HM,Bf,⟨tl,Wi⟩,rfl,hl⟩
  have hd:=fJ hx;rw[hxs] at hd;obtain⟨to,ht⟩:∃ to,Wa[x]? =some to:=⟨Wa[x],by simp[Xc,hx]⟩;have Jm:Wa.getD x 0=to:=by simp[sf,ht]
  have hlt:=me to (vj ht);rw[hd,xf,Jm] at hl;have ga:=Oar (x:=x) (r:=(O',row)) hlt HM;refine .inl ⟨_,?_,Bh x to (O',row),ga.1,by rw[ga.2.1];exact Bf,?_,rfl,hl⟩
  ·by_cases h0:to < 0
   ·have e:Bh x to (O',row)=(O',row):=by simp[Bh,h0]
    rw[e];exact Yar call R0 R1 S nl nr fr ma C n L M O' out no J k Wa row x to q hx ht h0
   ·have hlen:=HM.len
    cases hi:Wj to O' 0 with
    |some j=>
     have e:Bh x to (O',row)=(O',row.set x j):=by simp[Bh,h0,hi]
     rw[e];exact Tar call R0 R1 S nl nr fr ma C n L M O' out no J k Wa row x to q hx ht hq13 Bf h0 hi
    |none=>
     have e:Bh x to (O',row)=(O'++[to],row.set x O'.length):=by simp[Bh,h0,hi]
     rw[e];exact Sar call R0 R1 S nl nr fr ma C n L M O' out no J k Wa row x to q hx ht hq13 Bf h0 hi (by simp only at hlen;omega)
  ·obtain⟨t2,h2⟩:=ga.2.2
   exact⟨tl++t2,by rw[h2,<-Ij,<-Wi]⟩
 ·rintro t ⟨⟨O',row⟩,HM,Bf,Wi,rfl,hl⟩
  rw[Vr (by rw[<- hxs,Wn];exact gb _),xf] at hl;rw[hl];refine⟨.exit 2,_,?_,rfl,rfl,rfl,HM,Bf,Wi⟩;have e1:decide (((256:Nat):Int) < 256)=false:=by decide
  simp -implicitDefEqProofs only[SP,SA,SQ,sevalprocAttr,-List.reduceReplicate,Aa,Vt,e1,Gm]
abbrev gp(k:Int)(O:List Int):Tr:=
 ((((((Tr.lf.set 6 (.pv (aa k))).set 5 (.ptr 11 0)).set 4 (.uq 10 false 1 (O.map aa))).set 3 (.mp 9)).set 2 (.ptr 8 0)).set 0 (.ptr 3 0))
def fj(C:List Int)(o:Int)(O:List Int):List Int×List Int:=xf (Kb C o.toNat) (List.range 256) (O,Kb C o.toNat)
theorem War(O:List Int)(out:List PV)(no:Bool)(J:List fa)(k:Nat)(o:Int)
 (hC:C.length=n * 256) (cC:∀ c∈C,c < n) (hfr:fr<=n * 256) (hO:Lq n O) (hn:n<=64) (hk:O[k]? =some o) (Gi:out.length=k):
 Aa (ua call Hx) (fun s=>some (tidy [0,2,3,4,5,6] s)) ⟨gp k O,Jh R0 R1 S nl nr fr ma C n L M O out no J⟩=
  some (.norm,⟨gp (k+1:Nat) (fj C o O).1,Jh R0 R1 S nl nr fr ma C n L M (fj C o O).1 (out++[ae (fh (fj C o O).2)]) false (J++[.box (Ca (fj C o O).2)])⟩)/\
  Lq n (fj C o O).1/\∃ t,(fj C o O).1=O++t:=by
 have hom:=hO.2 o (vj hk)
 have US:=(Ad.1 hk).1
 have hOl:=hO.len
 have hoi:o.toNat < n:=by omega
 have AI:=xq hC hoi;obtain⟨Tf,g1,g2,g3⟩:=Par call R0 R1 S nl nr fr ma C n L M O out no J k (Kb C o.toNat) _ rfl hO hn AI (fun to h=>cC to (No (Ot h)));refine⟨?_,g1,g3⟩;unfold fj;generalize xf (Kb C o.toNat) (List.range 256) (O,Kb C o.toNat)=r at *;obtain⟨O',row'⟩:=r;simp only at g1 g2 g3 Tf;have Yv:=Wad row' g2;have hlen:(O.map aa).length=O.length:=by simp
 have e1:decide ((k:Int) < (O.length:Int))=true:=Qa (by omega);have t1:((k:Int)).toNat=k:=by simp
 have AB:Ta (k:Int) O.length:=by unfold Ta;omega
 have hg:(O.map aa)[k]? =some (aa o):=by rw[Gd,hk];rfl
 have Iy:Ta o n:=by unfold Ta;omega
 have w2:bh 256 n fr (Ca C).length:=by rw[qe];unfold bh;omega
 have w4:((Ca C).length=n * 256)=True:=by rw[qe];exact Sa hC
 have w6:(o.toNat * 256+256<=(Ca C).length)=True:=by rw[qe];exact Sa (by omega)
 have p1:=PU C o.toNat
 have t2:=ee (i:=k) (n:=64) (by omega) (by unfold maxLen;omega);have h9:((Kb C o.toNat).map aa).map AV.pv=Ca (Kb C o.toNat):=(vF _).symm
 have hz:=QU;have p5:(256<=(Ca (List.replicate 256 0)).length)=True:=by rw[qe,Gq];exact Sa (gb _)
 have p6:za (Ca (List.replicate 256 0)) 0 (Ca (Kb C o.toNat))=Ca (Kb C o.toNat):=by have:=aV (Ca (Kb C o.toNat)) (Ca (List.replicate 256 0)) [] (by rw[qe,qe,AI,Gq]);rw[Kf,Kf] at this;exact this
 generalize cm:List.replicate 256 (0:Int)=zs at *
 generalize Kb C o.toNat=Wa at *
 have r0:((Ca Wa).length=256)=True:=by rw[qe,AI];exact eq_self _
 have r1:(256<=(Ca Wa).length)=True:=by rw[qe,AI];exact Sa (gb _)
 have r2:List.take 256 (Ca Wa)=Ca Wa:=Ih (by rw[qe,AI];exact gb _)
 have r3:=oG Wa;have r5:=OU Wa;have s1:(256<=(Ca row').length)=True:=by rw[qe,g2];exact Sa (gb _)
 have s2:List.take 256 (Ca row')=Ca row':=Ih (by rw[qe,g2];exact gb _)
 have s3:=oG row';have q1:Ac (out.length+1) 24:=by unfold Ac;omega
 have Rp:(out++[ae (fh row')]).length=out.length+1:=by simp
 unfold Jh;rw[Rp];have Kg:(∃ l,ae (fh row')= .lit 3 l)\/ae (fh row')= .oa:=by unfold ae;split;exact .inr rfl;exact .inl ⟨_,rfl⟩
 generalize ae (fh row')=ed at *;simp only[Gm,Jh,ve,tidy,Gf] at Tf;simp -implicitDefEqProofs only[SP,SA,SQ,sevalprocAttr,-List.reduceReplicate,Aa,Hx,hlen,e1,Sa AB,Sa Iy,t1,hg,Sa w2,w4,w6,p1,h9,hz,p5,p6,r0,r1,r2,r3,r5,ay,qz,Ua,Wu,tidy,Gf,gp,ve];rw[Tf];rcases Kg with⟨l,rfl⟩ | rfl <;>
 simp -implicitDefEqProofs only[SP,SA,SQ,sevalprocAttr,-List.reduceReplicate,t2,s1,s2,s3,Yv,ej,Ef,Sa q1,ay,qz,Ua,tidy,Gf,gp,ve,mh,AV.Mi,AV.xi]
def gk(C:List Int):Nat->List Int×List (List Oa)->List Int×List (List Oa)
 |0,r=>r
 |f+1,r=>match r.1[r.2.length]? with
  |none=>r
  |some o=>gk C f ((fj C o r.1).1,r.2++[fh (fj C o r.1).2])
theorem zJ{C:List Int}{f:Nat}{r:List Int×List (List Oa)}(h:r.1[r.2.length]? =none):gk C f r=r:=by
 cases f with
 |zero=>rfl
 |succ f=>rw[gk,h]
theorem VO{C:List Int}{f:Nat}{r:List Int×List (List Oa)}{o:Int}(h:r.1[r.2.length]? =some o):gk C (f+1) r=gk C f ((fj C o r.1).1,r.2++[fh (fj C o r.1).2]):=by
 rw[gk,h]
def Fl(C:List Int):List (List Oa):=(gk C 64 ([0],[])).2
def ni(l:List (List Oa)):PV:= .lit 1 (l.map ae)
theorem x9(O:List Int)(out:List PV)(no:Bool)(J:List fa)(k:Nat)(hk:k=O.length):
 Aa (ua call Hx) (fun s=>some (tidy [0,2,3,4,5,6] s)) ⟨gp k O,Jh R0 R1 S nl nr fr ma C n L M O out no J⟩=
  some (.exit 0,⟨((((gp k O).set 15 (.pv (aa k))).set 16 (.uq 10 false 1 (O.map aa))).set 17 (.pv (aa O.length))).set 18 (.pv (.bool false)),Jh R0 R1 S nl nr fr ma C n L M O out no J⟩):=by
 have hlen:(O.map aa).length=O.length:=by simp
 have e1:decide ((k:Int) < (O.length:Int))=false:=Ra (by omega);simp -implicitDefEqProofs only[SP,SA,SQ,sevalprocAttr,-List.reduceReplicate,Aa,Hx,hlen,e1,gp,Jh,ve]
theorem Rar(hC:C.length=n * 256)(cC:∀ c∈C,c < n)(hfr:fr<=n * 256)(hn:n<=64)(h0:0 < n):
 ∃ O J k,Mb (Aa (ua call Hx) (fun s=>some (tidy [0,2,3,4,5,6] s))) Ga ⟨gp 0 [0],Jh R0 R1 S nl nr fr ma C n L M [0] [] true []⟩=
  some (.exit 0,⟨((((gp k O).set 15 (.pv (aa k))).set 16 (.uq 10 false 1 (O.map aa))).set 17 (.pv (aa O.length))).set 18 (.pv (.bool false)),Jh R0 R1 S nl nr fr ma C n L M O ((Fl C).map ae) false J⟩):=by
 have key:=vt (g:=Aa (ua call Hx) (fun s=>some (tidy [0,2,3,4,5,6] s)))
  (fun k t=>∃ (O:List Int)(out:List (List Oa))(J:List fa),Lq n O/\out.length=k/\k<=O.length/\0 < O.length/\t=⟨gp k O,Jh R0 R1 S nl nr fr ma C n L M O (out.map ae) (k==0) J⟩/\gk C 64 ([0],[])=gk C (64 - k) (O,out))
  (fun ex t=>∃ (O:List Int)(J:List fa)(k:Nat),ex= .exit 0/\t=⟨((((gp k O).set 15 (.pv (aa k))).set 16 (.uq 10 false 1 (O.map aa))).set 17 (.pv (aa O.length))).set 18 (.pv (.bool false)),Jh R0 R1 S nl nr fr ma C n L M O ((Fl C).map ae) false J⟩)
  Ga 64 0 ⟨gp (0:Nat) [0],Jh R0 R1 S nl nr fr ma C n L M [0] [] true []⟩ (by unfold Ga;omega) (by omega)
   ⟨[0],[],[],⟨by simp,by intro o ho;simp at ho;omega⟩,rfl,by simp,by simp,rfl,rfl⟩ ?_ ?_
 ·obtain⟨ex,t,h,_,O,J,k,rfl,rfl⟩:=key
  exact⟨O,J,k,h⟩
 ·rintro k hk t ⟨O,out,J,hO,Gi,mr,hO0,rfl,hl⟩
  by_cases hlt:k < O.length
  ·obtain⟨o,ho⟩:∃ o,O[k]? =some o:=⟨O[k],by simp[hlt]⟩
   obtain⟨g1,g2,t,g3⟩:=War call R0 R1 S nl nr fr ma C n L M O (out.map ae) (k==0) J k o hC cC hfr hO hn ho (by simpa using Gi);rw[show 64 - k=(64 - (k+1))+1 by omega,VO (r:=(O,out)) (o:=o) (by show O[out.length]? =_;rw[Gi];exact ho)] at hl;refine .inl ⟨_,g1,_,out++[fh (fj C o O).2],J++[.box (Ca (fj C o O).2)],g2,by simp[Gi],?_,?_,?_,hl⟩
   ·rw[g3];simp;omega
   ·rw[g3];simp;omega
   ·have:(k+1==0)=false:=rfl
    rw[this];simp
  ·have tB:k=O.length:=by omega
   rw[zJ (r:=(O,out)) (by show O[out.length]? =none;rw[Gi,tB];simp)] at hl;refine .inr ⟨.exit 0,_,x9 call R0 R1 S nl nr fr ma C n L M O _ _ J k tB,rfl,O,J,k,rfl,?_⟩
   have:(k==0)=false:=by simp;omega
   rw[this,Fl,hl]
 ·rintro t ⟨O,out,J,hO,Gi,mr,hO0,rfl,hl⟩
  have tB:64=O.length:=by have:=hO.len;omega
  rw[zJ (r:=(O,out)) (by show O[out.length]? =none;rw[Gi,tB];simp)] at hl;refine⟨.exit 0,_,x9 call R0 R1 S nl nr fr ma C n L M O _ _ J 64 tB,rfl,O,J,64,rfl,?_⟩;have:((64:Nat)==0)=false:=rfl;rw[this,Fl,hl]
theorem Xar(hC:C.length=n * 256)(cC:∀ c∈C,c < n)(hfr:fr<=n * 256)(hn:n<=64)(h0:0 < n):
 ∃ O J,Gc call TK [.ptr 3 0] (ve R0 R1 S nl nr fr ma C n [L,M])=
  some (.agg [.uq 12 false 1 ((Fl C).map ae)],ve R0 R1 S nl nr fr ma C n (L::M:: .box [.uq 12 false 1 ((Fl C).map ae)]:: .map (Vx O 0):: .tok 1 O.length false:: .box [.uq 12 false 1 ((Fl C).map ae)]:: .tok 1 ((Fl C).map ae).length false::J)):=by
 obtain⟨O,J,k,hl⟩:=Rar call R0 R1 S nl nr fr ma C n L M hC cC hfr hn h0;refine⟨O,J,?_⟩;generalize (Fl C).map ae=out at *
 have Uf:Mb (Aa (ua call Hx) (fun s=>some ⟨((((((Tr.lf.set 6 (s.env.get 6)).set 5 (s.env.get 5)).set 4 (s.env.get 4)).set 3 (s.env.get 3)).set 2 (s.env.get 2)).set 0 (s.env.get 0)),s.H⟩)) Ga
  ⟨((((((Tr.lf.set 6 (.pv (.int .i64 0))).set 5 (.ptr 11 0)).set 4 (.uq 10 false 1 [.int .i64 0])).set 3 (.mp 9)).set 2 (.ptr 8 0)).set 0 (.ptr 3 0)),[R0,R1,.map (Uq ma 0),.box [.pv S,.mp 2,.uq 4 nl 2 (ma.map xe),.own 5 n],.tok 2 ma.length nl,.seq 256 true (Ca C) fr nr,L,M,.box [.pv .oa],.map [(.int .i64 0,.int .i64 0)],.tok 1 1 false,.box [.uq 12 true 1 []],.tok 1 0 true]⟩=_:=hl
 simp only[gp,Jh,ve] at Uf;simp -implicitDefEqProofs only[SP,SA,SQ,sevalprocAttr,-List.reduceReplicate,TK,Af,Wu,tidy,Gf,Rj,Sf,Is,Option.isSome_some,mh,AV.Mi,AV.xi,ve];rw[Uf];simp -implicitDefEqProofs only[SP,SA,SQ,sevalprocAttr,-List.reduceReplicate,ve]
end
def Xm(n:Nat):Int:=IntKind.u32.wrap (IntKind.u32.wrap (1 * 2 ^ min n IntKind.u32.bits) - 1)
theorem pW(n:Nat):IntKind.u32.wrap (IntKind.u32.wrap (1 * 2 ^ min n IntKind.u32.bits) - 1)=Xm n:=rfl
theorem JQ{n:Nat}(h:n<=32):Xm n=((2 ^ n - 1:Nat):Int):=by
 have:∀ n:Fin 33,Xm n.1=((2 ^ n.1 - 1:Nat):Int):=by decide
 exact this ⟨n,by omega⟩
theorem V0{a:Al}:∀ {l:List Al}{k i:Nat},Wg a l k=some i->i < k+l.length
 |b::l,k,i,h=>by
  simp only[Wg] at h
  split at h
  ·injection h with h;simp;omega
  ·have:=V0 h;simp;omega
theorem Yaq{ss:List ya}{a:Al}{x:Int}{ma:List Al}{r:List Al×Int}(h:bg ss a x ma=some r):r.2 < r.1.length:=by
 unfold bg at h
 split at h
 ·injection h with h;subst h;simp;omega
 ·split at h
  ·injection h with h;subst h;simp;omega
  ·split at h
   ·next k hk=>injection h with h;subst h;have:=V0 hk;simp at this;simp;omega
   ·split at h
    ·injection h with h;subst h;simp;omega
    ·cases h
theorem H7{ss:List ya}{a:Al}:∀ (xs:List Nat)(r r':List Al×List Int),r.1.length<=64->(∀ v∈r.2,v < r.1.length)->lg ss a xs r=some r'->∀ v∈r'.2,v < r'.1.length
 | [],r,r',_,h,e=>by injection e with e;subst e;exact h
 |x::xs,r,r',hl,h,e=>by
  cases zc:bg ss a x r.1 with
  |none=>rw[kJ zc] at e;cases e
  |some p=>
   rw[lJ zc] at e;have hg:=R8 zc hl;refine H7 xs (p.1,r.2.set x p.2) r' hg.1 ?_ e
   intro v hv;obtain⟨t,ht⟩:=hg.2
   rcases Oo hv with h1 | h1
   ·have h2:=h v h1
    have:r.1.length<=p.1.length:=by rw[ht];simp
    simp only;omega
   ·rw[h1];exact Yaq zc
theorem P9{ss:List ya}(hw:ss.length<=32):∀ (k:Nat)(r r':List Al×List (List Int)),lk ss r.1->(∀ l∈r.2,∀ v∈l,v < r.1.length)->cg ss k r=some r'->(∀ l∈r'.2,∀ v∈l,v < r'.1.length)/\∃ t,r'.1=r.1++t
 |0,r,r',_,h,e=>by injection e with e;subst e;exact⟨h,[],by simp⟩
 |k+1,r,r',ga,h,e=>by
  cases ha:r.1[r.2.length]? with
  |none=>rw[IJ ha] at e;injection e with e;subst e;exact⟨h,[],by simp⟩
  |some a=>
   cases hr:lg ss a (List.range 256) (r.1,Wa) with
   |none=>rw[aP ha hr] at e;cases e
   |some p=>
    rw[bP ha hr] at e;obtain⟨g1,⟨t,g2⟩,g3⟩:=kC hw (List.range 256) (r.1,Wa) p ga ha hr;have th:0 < r.1.length:=by have:=(Ad.1 ha).1;omega
    have g4:=H7 (List.range 256) (r.1,Wa) p ga.1 (by intro v hv;have:v=0:=AK hv;simp only;omega) hr
    obtain⟨k1,t2,k2⟩:=P9 hw k (p.1,r.2++[p.2]) r' g1 (by
     intro l hl v hv;rcases Bd.1 hl with h1 | h1
     ·have:=h l h1 v hv
      simp only[g2,Pc] at this ⊢;omega
     ·simp at h1;subst h1;exact g4 v hv) e
    exact⟨k1,t++t2,by rw[k2,g2,Ij]⟩
theorem NU:∀ (rs:List (List Int)),Ca rs.flatten=rs.flatMap Ca
 | []=>rfl
 |r::rs=>by have:=NU rs;rw[um,MU,yx,this]
def Zf(ss:List ya):List Al:=[(0,Xm ss.length)]
theorem DO{ss:List ya}(hw:ss.length<=32)(Va:∀ s∈ss,0 < s.ba.length):lk ss (Zf ss):=by
 refine⟨by simp[Zf],?_⟩;intro k a ha
 match k,ha with
 |0,ha=>
  simp only[Zf,Kj,xb] at ha;subst ha;refine⟨by simp,2 ^ ss.length - 1,JQ hw,?_,?_⟩
  ·have:2 ^ ss.length<=2 ^ 32:=Nat.pow_le_pow_right (by decide) hw
   omega
  ·intro i s hs _
   exact Va s (vj hs)
 |k+1,ha=>simp[Zf] at ha
section
variable (R0 R1:fa)(S:PV)(ss:List ya)
 (h0:Fa 7 R0=some R0) (h1:Fa 7 R1=some R1) (g0:Fa 6 R0=some R0) (g1:Fa 6 R1=some R1)
 (hS:Pb 2 S (ss.map dg)) (hw:ss.length<=32) (ib:∀ s∈ss,∀ l∈s.ba,l.length * 16<=140737488355328) (Va:∀ s∈ss,0 < s.ba.length)
include h0 h1 g0 g1 hS hw ib Va
theorem R9:
 (∀ r,cg ss 64 (Zf ss,[])=some r->∃ nl',Gc (La ue 7) eD [.ptr 3 0] (tc R0 R1 S true [] (mg []) 0 [])=some (.pv (.bool true),tc R0 R1 S nl' r.1 (mg r.2) r.2.length [])/\lk ss r.1/\r.2.length=r.1.length/\∀ r'∈r.2,r'.length=256)/\
 (cg ss 64 (Zf ss,[])=none->∃ H,Gc (La ue 7) eD [.ptr 3 0] (tc R0 R1 S true [] (mg []) 0 [])=some (.pv (.bool false),H)/\H[0]? =some R0):=by
 have yc:=ras R0 R1 S false (Zf ss) ss h0 h1 g0 g1 hS hw ib (DO hw Va) (by simp[Zf]);have ls:=hS.len
 simp only[wb] at ls;have sr:Gc (La ue 6) zv [.ptr 3 0,.pv (.agg [.int .i64 0,.int .u32 (Xm ss.length)])] [R0,R1,.map (Uq [] 0),.box [.pv S,.mp 2,.uq 4 true 2 [],.own 5 0],.tok 2 0 true,.seq 256 true [] 0 true]=some (.pv (.Ba [.int .i64 0,.bool true]),tc R0 R1 S false [(0,Xm ss.length)] (mg []) 0 []):=
  U3 (La ue 6) R0 R1 S true [] (mg []) 0 [] (0,Xm ss.length) rfl (by simp)
 have n0:¬((ss.length:Int) < 0):=by omega
 have t1:((ss.length:Int)).toNat=ss.length:=by simp
 have e1:((ss.length:Int) < 0)=False:=eq_false n0;have q5:=nH 6 6 [];simp only[BK] at q5;simp only[tc,mg,BK,List.isEmpty_nil] at sr;unfold tc mg;constructor
 ·intro r hr
  obtain⟨E,nl',hl,k1,k2,k3⟩:=yc.1 r hr
  refine⟨nl',?_,k1,k2,k3⟩;simp -implicitDefEqProofs only[SP,SA,SQ,sevalprocAttr,-List.reduceReplicate,eD,ls,e1,t1,pW,ue,BK,sr,Oc,ta,Za,Kv,Lv,Mv,LD,bc,AV.cut,Ef,h0,h1,g0,g1,q5,tc];have Uf:Mb (Aa (ua (La ue 7) Yo) (ta 6 [0,3])) Ga ⟨(Tr.lf.set 3 (.pv (.int .i64 0))).set 0 (.ptr 3 0),[R0,R1,.map (Uq [(0,Xm ss.length)] 0),.box [.pv S,.mp 2,.uq 4 false 2 [xe (0,Xm ss.length)],.own 5 0],.tok 2 1 false,.seq 256 true [] 0 true]⟩=_:=hl;rw[Uf];simp -implicitDefEqProofs only[SP,SA,SQ,sevalprocAttr,-List.reduceReplicate,tc,mg]
 ·intro hr
  obtain⟨t,hl,k2,k3⟩:=oO (yc.2 hr);refine⟨t.H,?_,k3⟩;simp -implicitDefEqProofs only[SP,SA,SQ,sevalprocAttr,-List.reduceReplicate,eD,ls,e1,t1,pW,ue,BK,sr,Oc,ta,Za,Kv,Lv,Mv,LD,bc,AV.cut,Ef,h0,h1,g0,g1,q5,tc];have Uf:Mb (Aa (ua (La ue 7) Yo) (ta 6 [0,3])) Ga ⟨(Tr.lf.set 3 (.pv (.int .i64 0))).set 0 (.ptr 3 0),[R0,R1,.map (Uq [(0,Xm ss.length)] 0),.box [.pv S,.mp 2,.uq 4 false 2 [xe (0,Xm ss.length)],.own 5 0],.tok 2 1 false,.seq 256 true [] 0 true]⟩=_:=hl;rw[Uf];simp -implicitDefEqProofs only[SP,SA,SQ,sevalprocAttr,-List.reduceReplicate,k2]
end
def bf(ss:List ya):Option (List (List Oa)):=
 (cg ss 64 (Zf ss,[])).map fun r=>Fl (eg r.2.length r.2.flatten).C
section
variable (S0 S:PV)(ss:List ya)(Zq:S0= .oa\/∃ l,S0= .lit 2 l){y:Bool}{a b e:Int}
include Zq
theorem Cab(he:e≠0)(hp:Qr [.agg [S0]]=some (.Ba [.agg [.bool y,aa a,aa b],aa e])):
 qk [.agg [S0]]=some (.Ba [.agg [.oa],aa e]):=by
 have e1:=jj he;rcases Zq with rfl | ⟨l,rfl⟩ <;>
 simp -implicitDefEqProofs only[qk,SP,SA,SQ,sevalprocAttr,-List.reduceReplicate,dD,hp,e1,bne,ej,Ef]
theorem Iab(hp:Qr [.agg [S0]]=some (.Ba [.agg [.bool false,aa a,aa b],aa 0])):
 qk [.agg [S0]]=some (.Ba [.agg [.oa],aa 110]):=by
 rcases Zq with rfl | ⟨l,rfl⟩ <;>
 simp -implicitDefEqProofs only[qk,SP,SA,SQ,sevalprocAttr,-List.reduceReplicate,dD,hp,bne,ej,Ef]
variable (hp:Qr [.agg [S0]]=some (.Ba [.agg [.bool true,aa a,aa b],aa 0]))(hc:Hz [.agg [S0]]=some (.agg [S]))
 (hS:Pb 2 S (ss.map dg)) (hw:ss.length<=32) (ib:∀ s∈ss,∀ l∈s.ba,l.length * 16<=140737488355328) (Va:∀ s∈ss,0 < s.ba.length)
include hp hc hS hw ib Va
theorem Dab(h:bf ss=none):qk [.agg [S0]]=some (.Ba [.agg [.oa],aa 130]):=by
 have hn:cg ss 64 (Zf ss,[])=none:=by unfold bf at h;simpa using h
 obtain⟨H,PE,hH⟩:=(R9 (.box [.pv .oa]) (.box [.pv (.bool true),.pv (aa a),.pv (aa b)]) S ss rfl rfl rfl rfl hS hw ib Va).2 hn
 have Im:tc (.box [.pv .oa]) (.box [.pv (.bool true),.pv (aa a),.pv (aa b)]) S true [] (mg []) 0 []=[.box [.pv .oa],.box [.pv (.bool true),.pv (aa a),.pv (aa b)],.map [],.box [.pv S,.mp 2,.uq 4 true 2 [],.own 5 0],.tok 2 0 true,.seq 256 true [] 0 true]:=rfl;rw[Im] at PE;have Vv:S= .oa\/∃ l,S= .lit 2 l:=by rcases hS with⟨h,_⟩ | h;exact .inl h;exact .inr ⟨_,h⟩
 have Ri:∀ o,(H.set 0 o)[0]? =some o:=by
  intro o;cases H with
  |nil=>cases hH
  |cons x H=>rfl
 rcases Zq with rfl | ⟨l,rfl⟩ <;> rcases Vv with rfl | ⟨l2,rfl⟩ <;>
 simp -implicitDefEqProofs only[qk,SP,SA,SQ,sevalprocAttr,-List.reduceReplicate,dD,hp,hc,PE,hH,Ri,ue,Af,mh,AV.Mi,AV.xi,bne,ej,Ef]
theorem Jab{l:List (List Oa)}(h:bf ss=some l):qk [.agg [S0]]=some (.Ba [.agg [ni l],aa 0]):=by
 obtain⟨r,hn,hl⟩:∃ r,cg ss 64 (Zf ss,[])=some r/\Fl (eg r.2.length r.2.flatten).C=l:=by unfold bf at h;simpa using h
 obtain⟨nl,PE,k1,k2,k3⟩:=(R9 (.box [.pv .oa]) (.box [.pv (.bool true),.pv (aa a),.pv (aa b)]) S ss rfl rfl rfl rfl hS hw ib Va).1 r hn
 have Im:tc (.box [.pv .oa]) (.box [.pv (.bool true),.pv (aa a),.pv (aa b)]) S true [] (mg []) 0 []=[.box [.pv .oa],.box [.pv (.bool true),.pv (aa a),.pv (aa b)],.map [],.box [.pv S,.mp 2,.uq 4 true 2 [],.own 5 0],.tok 2 0 true,.seq 256 true [] 0 true]:=rfl;have ff:tc (.box [.pv .oa]) (.box [.pv (.bool true),.pv (aa a),.pv (aa b)]) S nl r.1 (mg r.2) r.2.length []=ve (.box [.pv .oa]) (.box [.pv (.bool true),.pv (aa a),.pv (aa b)]) S nl r.2.isEmpty 0 r.1 r.2.flatten r.2.length []:=by unfold tc ve mg;rw[NU]
 rw[Im,ff] at PE;have hlt:=P9 hw 64 (Zf ss,[]) r (DO hw Va) (by simp) hn;have th:0 < r.1.length:=by obtain⟨t,ht⟩:=hlt.2;rw[ht];simp[Zf]
 have hC:r.2.flatten.length=r.2.length * 256:=by have:=TU k3;rw[<- NU,qe] at this;exact this
 have cC:∀ c∈r.2.flatten,c < (r.2.length:Int):=by
  intro c hc;obtain⟨l,h1,h2⟩:=EK.1 hc
  rw[k2];exact hlt.1 l h1 c h2
 have lE:r.2.length<=64:=by rw[k2];exact k1.1
 have h0:0 < r.2.length:=by omega
 obtain⟨fr,fk,v,hf,sZ⟩:=mal (La ue 7) (.box [.pv .oa]) (.box [.pv (.bool true),.pv (aa a),.pv (aa b)]) S nl r.2.isEmpty r.1 r.2.flatten r.2.length lE h0 k2.symm hC cC
 have ga:Mz r.2.length (eg r.2.length r.2.flatten):=I2 _ _ (gb _) ⟨hC,by simp,cC,by intro c hc;rw[AK hc];omega,by simp⟩
 obtain⟨O,J,EB⟩:=Xar (La ue 7) (.box [.pv .oa]) (.box [.pv (.bool true),.pv (aa a),.pv (aa b)]) S nl r.2.isEmpty fr r.1 (eg r.2.length r.2.flatten).C r.2.length (.seq 1 false (Ca (eg r.2.length r.2.flatten).Ob) fk false) (.map (Pj (eg r.2.length r.2.flatten).M)) ga.hC ga.cC (by omega) lE h0
 rw[hl] at EB;unfold ni;generalize l.map ae=out at *
 generalize eg r.2.length r.2.flatten=g at *
 simp only[ve] at PE sZ EB;have Vv:S= .oa\/∃ l,S= .lit 2 l:=by rcases hS with⟨h,_⟩ | h;exact .inl h;exact .inr ⟨_,h⟩
 rcases Zq with rfl | ⟨l,rfl⟩ <;> rcases Vv with rfl | ⟨l2,rfl⟩ <;>
 simp -implicitDefEqProofs only[qk,SP,SA,SQ,sevalprocAttr,-List.reduceReplicate,dD,hp,hc,PE,sZ,EB,ue,Af,mh,AV.Mi,AV.xi,bne,ej,Ef]
end
structure sx(v:PV)(l:List (Int×Int)):Prop where
 is:Pb 2 v (Pa l)
 sz:l.length * 16<=140737488355328
structure sk(P:PV)(ls:List (List (Int×Int)))(ps:List PV):Prop where
 is:Pb 1 P ps
 len:ps.length=ls.length
 all:∀ (k:Nat) v l,ps[k]? =some v->ls[k]? =some l->sx v l
 sz:ls.length<=maxLen
structure Yh(e:PV)(s:ya)(P:PV)(ps:List PV):Prop where
 eq:e= .agg [P,aa s.pa]
 ba:sk P s.ba ps
structure zd(S:PV)(ss:List ya)(es:List PV):Prop where
 is:Pb 2 S es
 len:es.length=ss.length
 all:∀ (k:Nat) e s,es[k]? =some e->ss[k]? =some s->∃ P ps,Yh e s P ps
 sz:ss.length<=maxLen
theorem sk.get{P:PV}{ls:List (List (Int×Int))}{ps:List PV}(h:sk P ls ps){i:Nat}(hi:i < ls.length):∃ v,ps[i]? =some v/\P= .lit 1 ps/\sx v ls[i]:=by
 have h1:i < ps.length:=by rw[h.len];exact hi
 refine⟨ps[i],Rb h1,h.is.lit (i:=i) h1,h.all i _ _ (Rb h1) (Rb hi)⟩
theorem zd.get{S:PV}{ss:List ya}{es:List PV}(h:zd S ss es){i:Nat}(hi:i < ss.length):∃ e P ps,es[i]? =some e/\S= .lit 2 es/\Yh e ss[i] P ps:=by
 have h1:i < es.length:=by rw[h.len];exact hi
 obtain⟨P,ps,hp⟩:=h.all i _ _ (Rb h1) (Rb hi)
 exact⟨es[i],P,ps,Rb h1,h.is.lit (i:=i) h1,hp⟩
theorem sk.mb{P:PV}{ls:List (List (Int×Int))}{ps:List PV}(h:sk P ls ps)(H:List fa):mb H 0 (.pv P)=some ls.length:=by
 rw[h.is.len,h.len]
theorem zd.mb{S:PV}{ss:List ya}{es:List PV}(h:zd S ss es)(H:List fa):mb H 0 (.pv S)=some ss.length:=by
 rw[h.is.len,h.len]
def Se(l:List (Int×Int)):Prop:=l≠[]/\Ub 255 (-2) l=true
instance (l:List (Int×Int)):Decidable (Se l):=by unfold Se;infer_instance
def Gg:Int->List (List (Int×Int))->Int
 |n,[]=>n
 |n,l::r=>Gg (if 1073741825 < n * Tb 0 l then 1073741825 else n * Tb 0 l) r
def Ng(s:ya):Int:=s.pa+Gg 1 s.ba - 1
theorem Hr{l:List (Int×Int)}(h:Se l):1<=Tb 0 l/\Tb 0 l<=256:=by
 have:=(HO h.2).2.1 h.1;omega
theorem KN{n s:Int}(h1:1<=n)(h2:n<=1073741825)(h3:1<=s)(h4:s<=256):1<=n * s/\n * s<=274877907200:=by
 constructor
 ·have:=Int.mul_le_mul h1 h3 (by omega) (by omega);omega
 ·have:=Int.mul_le_mul h2 h4 (by omega) (by omega);omega
theorem YE:∀ (ls:List (List (Int×Int)))(n:Int),(∀ l∈ls,Se l)->1<=n->n<=1073741825->1<=Gg n ls/\Gg n ls<=1073741825
 | [],n,_,h1,h2=>⟨h1,h2⟩
 |l::r,n,h,h1,h2=>by
  have hs:=Hr (h l (by simp));have hm:=KN h1 h2 hs.1 hs.2
  rw[Gg];refine YE r _ (fun x hx=>h x (by simp[hx])) ?_ ?_ <;> split <;> omega
abbrev AH(row:List PV)(P:PV)(len i n:Int):Tr:=((((Tr.lf.set 9 (.pv (aa i))).set 8 (.pv (aa len))).set 7 (.pv P)).set 3 (.pv (aa n))).set 1 (.pv (.rp row 0))
theorem F2{e:PV}{s:ya}{P:PV}{ps:List PV}(h:Yh e s P ps)(ga:∀ l∈s.ba,Se l)(hf:0<=s.pa/\s.pa<=1073741823):nK [e]=some (aa (Ng s)):=by
 obtain⟨rfl,hP⟩:=h;have hb:=YE s.ba 1 ga (by omega) (by omega)
 have ib:=hP.sz
 have yc:Ia (fun r=>∃ E H,r=(.exit 0,⟨E,H⟩)/\E.get 3= .pv (aa (Gg 1 s.ba))/\E.get 1= .pv (.rp [P,aa s.pa] 0))
  (Mb (Aa (ua (La (fun _=>none) 8) vD) (ta 0 [1,3,7,8,9])) Ga ⟨AH [P,aa s.pa] P s.ba.length 0 1,[]⟩):=by
  refine Bb (We (g:=Aa (ua (La (fun _=>none) 8) vD) (ta 0 [1,3,7,8,9]))
   (fun i t=>∃ n,t=⟨AH [P,aa s.pa] P s.ba.length i n,[]⟩/\1<=n/\n<=1073741825/\Gg 1 s.ba=Gg n (s.ba.drop i))
   s.ba.length (by unfold Ga;unfold maxLen at ib;omega) _ ⟨1,rfl,by omega,by omega,rfl⟩ ?_ ?_) (fun r h=>h.2)
  ·rintro i t hi ⟨n,rfl,h1,h2,hs⟩
   obtain⟨v,hv,fy,Qf⟩:=hP.get hi
   have hd:s.ba.drop i=s.ba[i]::s.ba.drop (i+1):=Hh hi
   have nf:=ga s.ba[i] (ic hi)
   have DB:=N8 v s.ba[i] Qf.is Qf.sz nf.2
   have CB:=Hr nf;rw[hd,Gg] at hs;generalize s.ba[i]=l at *
   have hm:=KN h1 h2 CB.1 CB.2
   have e1:decide ((i:Int) < (s.ba.length:Int))=true:=Qa (by omega);have t2:=ee hi ib;have t3:IntKind.i64.wrap (n * Tb 0 l)=n * Tb 0 l:=Gb (by omega)
   have hq:i < ps.length:=by rw[hP.len];exact hi
   have fc:v.cells=[v]:=by rcases Qf.is with⟨h,_⟩ | h <;> rw[h] <;> rfl
   have a1:Ua [] 1 (.pv P) (i:Int)=some (.pv (.rp [v] 0)):=by rw[fy];simp only[Ua];rw[if_pos (by unfold Ta;simp;omega),Uc,hv];simp[fc]
   have a2:wa [] false 1 (.pv (.rp [v] 0))=some (.pv v):=rfl;generalize hQ:LN _ _ i=Q;simp -implicitDefEqProofs only[SX,sevalprocAttr,vD,e1,t2,t3,a1,a2,DB,Tk,Rf,ta,Za,AV.cut,Cb,AH];subst hQ;exact⟨_,rfl,by split <;> omega,by split <;> omega,hs⟩
  ·rintro t ⟨n,rfl,h1,h2,hs⟩
   rw[Zh,Gg] at hs;have e1:decide ((s.ba.length:Int) < (s.ba.length:Int))=false:=Ra (by omega);generalize hQ:(fun r:Ex×St=>r.1.stop=true/\_)=Q;simp -implicitDefEqProofs only[SX,sevalprocAttr,vD,e1,AH];subst hQ;exact⟨rfl,_,_,rfl,by simp[Tr.na,hs],by simp[Tr.na]⟩
 obtain⟨r,h1,E,H,rfl,hE,gS⟩:=wg yc;have ls:=hP.mb
 simp only[AH] at h1;have Jg:Mb (Aa (ua (La (fun _=>none) 8) vD) (ta 0 [1,3,7,8,9])) Ga ⟨((((Tr.lf.set 9 (.pv (.int .i64 0))).set 8 (.pv (.int .i64 s.ba.length))).set 7 (.pv P)).set 3 (.pv (.int .i64 1))).set 1 (.pv (.rp [P,aa s.pa] 0)),[]⟩=some (.exit 0,⟨E,H⟩):=h1;unfold Ng;generalize Gg 1 s.ba=n at *
 have t1:IntKind.i64.wrap (s.pa+n)=s.pa+n:=Gb (by omega)
 have t2:IntKind.i64.wrap (s.pa+n - 1)=s.pa+n - 1:=Gb (by omega)
 have hPv:∃ sz es,P= .oa\/P= .lit sz es:=by rcases hP.is with⟨h,_⟩ | h;exact⟨0,[],.inl h⟩;exact⟨_,_,.inr h⟩
 obtain⟨sz,es,rfl | rfl⟩:=hPv <;>
 simp -implicitDefEqProofs only[nK,SP,SA,SQ,WP,WQ,sevalprocAttr,pQ,Oc,ls,Jg,hE,gS,t1,t2]
theorem kam(call:Ab){v:PV}{l:List (Int×Int)}(h:sx v l)(H:List fa):Gc call wD [.pv v] H=some (.pv (.bool (!decide (Se l))),H):=by
 have ls:=h.is.len
 simp only[Pa,wb] at ls;have hv:=Paq v l h.is h.sz
 by_cases h0:l=[]
 ·have e1:((l.length:Int)==0)=true:=by simp[h0]
  have e2:(!decide (Se l))=true:=by
   have:¬Se l:=fun hp=>hp.1 h0
   simp[this]
  rw[e2];simp -implicitDefEqProofs only[SP,SA,SQ,WP,WQ,sevalprocAttr,wD,ls,e1]
 ·have e1:((l.length:Int)==0)=false:=by
   have:l.length≠0:=fun e=>h0 (Ze e)
   exact jj (by omega)
  have e2:(!decide (Se l))= !(Ub 255 (-2) l):=by
   congr 1
   rw[yC];simp[Se,h0]
  rw[e2];simp -implicitDefEqProofs only[SP,SA,SQ,WP,WQ,sevalprocAttr,wD,ls,e1,hv]
def Fs(ls:List (List (Int×Int)))(i:Nat):Int:=
 match ls with
 | []=> -1
 |l::r=>if Se l then Fs r (i+1) else i
theorem fW:∀ (ls:List (List (Int×Int)))(i:Nat),decide (Fs ls i>=0)= !decide (∀ l∈ls,Se l)
 | [],i=>by simp[Fs]
 |l::r,i=>by
  rw[Fs]
  by_cases h:Se l
  ·rw[if_pos h,fW r];simp[h]
  ·rw[qa h];simp[h]
abbrev yH(P:PV)(len i:Int):Tr:=(((Tr.lf.set 8 (.pv (aa i))).set 7 (.pv (aa len))).set 1 (.Ec 7 [])).set 0 (.pv P)
theorem Jak{P:PV}{ls:List (List (Int×Int))}{ps:List PV}(hP:sk P ls ps)(d:Nat)(H:List fa)(hH:Pd H):
 Gc (La Dl (d+1)) YG [.pv P,.Ec 7 []] H=some (.pv (aa (Fs ls 0)),H):=by
 have ib:=hP.sz
 have X2:=hP.mb
 have Eb:=Pd.cut hH
 have h7:Dl 7=some wD:=rfl;apply Hl;have yc:Ia (fun r=>∃ E,(r=(.exit 0,⟨E,H⟩)/\Fs ls 0= -1)\/(r=(.ret,⟨E,H⟩)/\E.get 4= .pv (aa (Fs ls 0))))
  (Mb (Aa (ua (La Dl (d+1)) BD) (ta H.length [0,1,7,8])) Ga ⟨yH P ls.length 0,H⟩):=by
  refine Bb (We (g:=Aa (ua (La Dl (d+1)) BD) (ta H.length [0,1,7,8]))
   (fun i t=>t=⟨yH P ls.length i,H⟩/\Fs ls 0=Fs (ls.drop i) i)
   ls.length (by unfold Ga;unfold maxLen at ib;omega) _ ⟨rfl,rfl⟩ ?_ ?_) (fun r h=>h.2)
  ·rintro i t hi ⟨rfl,hs⟩
   obtain⟨v,hv,fy,Qf⟩:=hP.get hi
   have hd:ls.drop i=ls[i]::ls.drop (i+1):=Hh hi
   rw[hd,Fs] at hs;have hn:=kam (La Dl d) Qf H;generalize ls[i]=l at *;have e1:decide ((i:Int) < (ls.length:Int))=true:=Qa (by omega);have t2:=ee hi ib;have hq:i < ps.length:=by rw[hP.len];exact hi
   have fc:v.cells=[v]:=by rcases Qf.is with⟨h,_⟩ | h <;> rw[h] <;> rfl
   have a1:Ua H 1 (.pv P) (i:Int)=some (.pv (.rp [v] 0)):=by rw[fy];simp only[Ua];rw[if_pos (by unfold Ta;simp;omega),Uc,hv];simp[fc]
   have a2:wa H false 1 (.pv (.rp [v] 0))=some (.pv v):=rfl;generalize hQ:LN _ _ i=Q
   by_cases ga:Se l
   ·rw[if_pos ga] at hs
    rw[decide_eq_true ga] at hn;simp -implicitDefEqProofs only[SX,sevalprocAttr,BD,e1,t2,a1,a2,h7,hn,Eb,ai,ta,Za,AV.cut,Cb,yH];subst hQ;exact⟨rfl,hs⟩
   ·rw[qa ga] at hs
    rw[decide_eq_false ga] at hn;simp -implicitDefEqProofs only[SX,sevalprocAttr,BD,e1,t2,a1,a2,h7,hn,Eb,ai,ta,Za,AV.cut,Cb,yH];subst hQ;exact⟨_,.inr ⟨rfl,by simp[Tr.na,hs]⟩⟩
  ·rintro t ⟨rfl,hs⟩
   rw[Zh,Fs] at hs;have e1:decide ((ls.length:Int) < (ls.length:Int))=false:=Ra (by omega);generalize hQ:(fun r:Ex×St=>r.1.stop=true/\_)=Q;simp -implicitDefEqProofs only[SX,sevalprocAttr,BD,e1,yH];subst hQ;exact⟨rfl,_,.inl ⟨rfl,hs⟩⟩
 simp -implicitDefEqProofs only[SX,sevalprocAttr,YG,Oc,X2,Eb,ai,ta,Za,AV.cut,Cb];refine Bb yc ?_;rintro _ ⟨E,⟨rfl,hb⟩ | ⟨rfl,hE⟩⟩
 ·simp -implicitDefEqProofs only[SX,sevalprocAttr,hb]
 ·simp -implicitDefEqProofs only[SX,sevalprocAttr,hE]
theorem eX{P:PV}{ls:List (List (Int×Int))}{ps:List PV}(hP:sk P ls ps)(d:Nat)(H:List fa)(hH:Pd H):
 Gc (La Dl (d+2)) AD [.pv P,.Ec 7 []] H=some (.pv (.bool (!decide (∀ l∈ls,Se l))),H):=by
 have h:=Jak hP d H hH;have h5:Dl 5=some YG:=rfl;have hb:=fW ls 0;simp -implicitDefEqProofs only[SX,sevalprocAttr,AD,h5,h,hb]
end Go.AM.B1
