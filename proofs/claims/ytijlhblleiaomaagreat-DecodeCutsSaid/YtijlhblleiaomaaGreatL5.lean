/- What functions of the program compute. -/
import Derived.Test.YtijlhblleiaomaaGreatL4
set_option linter.unusedVariables false
set_option linter.unusedSimpArgs false
namespace Go.AM.B1
open Go.AM Go.AM.So
theorem ET{p q:Ob}(hp:Be p)(hq:Be q):vo p q↔¬(q.first<=zi p/\p.first<=zi q):=by
 have h1:=hp.By
 have h2:=hq.By
 unfold vo;constructor
 ·intro h hn
  by_cases hle:p.first<=q.first
  ·exact h q.first ⟨⟨hle,hn.1⟩,⟨Kac _,h2⟩⟩
  ·exact h p.first ⟨⟨Kac _,h1⟩,⟨by omega,hn.2⟩⟩
 ·intro h x hx
  exact h ⟨by omega,by omega⟩
theorem Gt{p:Ob}(hp:Be p):1<=Xh 1 p.parts/\Xh 1 p.parts<=1073741825:=yn p.parts 1 hp.parts (by omega) (by omega)
abbrev wJ(S:PV)(i j:Int):Tr:=((Tr.lf.set 5 (.pv (i64 j))).set 1 (.pv (i64 i))).set 0 (.pv S)
theorem WK{S:PV}{ss:List Ob}{es:List PV}(hS:qb S ss es){i:Nat}(hi:i < ss.length)(Ba:∀ j,j<=i->(h:j < ss.length)->Be ss[j]):
 ∃ b,fh [S,i64 i]=some (.bool b)/\(b=false↔∀ j,j < i->(h:j < ss.length)->vo ss[j] ss[i]):=by
 have K7:=hS.sz
 obtain⟨P,ps,hP,a0⟩:=hS.Pd hi
 have okp:=Ba i (waa _) hi;have hcp:=Kp hP okp.parts
 have hbp:=Gt okp;have e8:=fun j (hj:j < i) (h:j < ss.length)=>ET (Ba j (by omega) h) okp;generalize ss[i]=p at *;have D7:qd (fun r=>∃ E,(r=(.exit 0,⟨E,[]⟩)/\∀ j,j < i->(h:j < ss.length)->vo ss[j] p)\/(r=(.ret,⟨E,[]⟩)/\E.get 4= .pv (.bool true)/\∃ j,j < i/\∃ h:j < ss.length,¬vo ss[j] p))
  (ab (ma (oa (Da (fun _=>none) 8) Bd) (na 0 [0,1,5])) ua ⟨wJ S i 0,[]⟩):=by
  refine wa (Gb (g:=ma (oa (Da (fun _=>none) 8) Bd) (na 0 [0,1,5]))
   (fun j t=>t=⟨wJ S i j,[]⟩/\∀ j',j' < j->(h:j' < ss.length)->vo ss[j'] p)
   i (by unfold ua;unfold maxLen at K7;omega) _ ⟨rfl,by intro j h;omega⟩ ?_ ?_) (fun r h=>h.2)
  ·rintro j t hj ⟨rfl,hs⟩
   have hj2:j < ss.length:=by omega
   obtain⟨Q,qs,hQ,b0⟩:=hS.Pd hj2
   have okq:=Ba j (by omega) hj2;have hcq:=Kp hQ okq.parts
   have hbq:=Gt okq;have haq:=e8 j hj hj2;have T7:vo ss[j] p->∀ j',j' < j+1->(h:j' < ss.length)->vo ss[j'] p:=by
    intro h j' h1 h2;rcases Xaa j' j with h3 | h3
    ·exact hs j' h3 h2
    ·have:j'=j:=by omega
     subst this;exact h
   have hex:¬vo ss[j] p->∃ j,j < i/\∃ h:j < ss.length,¬vo ss[j] p:=fun h=>⟨j,hj,hj2,h⟩
   have dao:=okq.f0
   have eao:=okq.f1
   have fao:=okp.f0
   have gao:=okp.f1
   unfold zi at haq;generalize hq:ss[j]=q at *;generalize Xh 1 p.parts=np at *
   generalize Xh 1 q.parts=nq at *
   have e1:decide ((j:Int) < (i:Int))=true:=Ea (by omega);have t2:=Za hj (show i<=maxLen by omega);have t3:IntKind.i64.wrap (q.first+nq)=q.first+nq:=Aa (by omega)
   have t4:IntKind.i64.wrap (q.first+nq - 1)=q.first+nq - 1:=Aa (by omega)
   have t5:IntKind.i64.wrap (p.first+np)=p.first+np:=Aa (by omega)
   have t6:IntKind.i64.wrap (p.first+np - 1)=p.first+np - 1:=Aa (by omega)
   generalize P7:LN _ _ j=QQ
   by_cases c1:p.first<=q.first+nq - 1
   ·have d1:=Ea c1
    by_cases c2:q.first<=p.first+np - 1
    ·have d2:=Ea c2
     simp -implicitDefEqProofs only[SX,sevalprocAttr,Bd,e1,a0,b0,Hj,gk,tg,hcp,hcq,t3,t4,t5,t6,d1,d2,wJ];subst P7;exact⟨_,.inr ⟨rfl,by simp[Tr.aa],hex (fun h=>(haq.1 h) ⟨c1,c2⟩)⟩⟩
    ·have d2:=Ga c2
     simp -implicitDefEqProofs only[SX,sevalprocAttr,Bd,e1,a0,b0,Hj,gk,tg,hcp,hcq,t2,t3,t4,t5,t6,d1,d2,na,Ca,AV.cut,za,wJ];subst P7;exact⟨rfl,T7 (haq.2 fun h=>c2 h.2)⟩
   ·have d1:=Ga c1
    simp -implicitDefEqProofs only[SX,sevalprocAttr,Bd,e1,a0,b0,Hj,gk,tg,hcp,hcq,t2,t3,t4,d1,na,Ca,AV.cut,za,wJ];subst P7;exact⟨rfl,T7 (haq.2 fun h=>c1 h.1)⟩
  ·rintro t ⟨rfl,hs⟩
   have e1:decide ((i:Int) < (i:Int))=false:=Ga (by omega);generalize hQ:(fun r:Ex×St=>r.1.stop=true/\_)=Q;simp -implicitDefEqProofs only[SX,sevalprocAttr,Bd,e1,wJ];subst hQ;exact⟨rfl,_,.inl ⟨rfl,hs⟩⟩
 have key:qd (fun r=>∃ b,r=PV.bool b/\(b=false↔∀ j,j < i->(h:j < ss.length)->vo ss[j] p)) (fh [S,i64 i]):=by
  generalize P7:(fun r:PV=>_)=QQ;simp -implicitDefEqProofs only[fh,SX,sevalprocAttr,xl,Db,na,Ca,AV.cut,za];refine wa D7 ?_;rintro _ ⟨E,⟨rfl,hb⟩ | ⟨rfl,hE,j,hj,hj2,hb⟩⟩
  ·simp -implicitDefEqProofs only[SX,sevalprocAttr]
   subst P7;exact⟨false,rfl,by simpa using hb⟩
  ·simp -implicitDefEqProofs only[SX,sevalprocAttr,hE]
   subst P7;exact⟨true,rfl,by simp;exact⟨j,hj,hj2,hb⟩⟩
 obtain⟨r,h1,b,rfl,hb⟩:=wc key;exact⟨b,h1,hb⟩
abbrev ZC(row:List PV)(i:Int):Tr:=(Tr.lf.set 3 (.pv (i64 i))).set 1 (.pv (.rp row 0))
theorem AJ{ss:List Ob}:Xb ss↔ss.length<=32/\∀ i,(hi:i < ss.length)->Be ss[i]/\∀ j,j < i->(h:j < ss.length)->vo ss[j] ss[i]:=by
 constructor
 ·intro h
  refine⟨h.len,fun i hi=>⟨h.ft _ (saa hi),fun j hj hj2=> ?_⟩⟩;exact fad.1 h.apart j i hj2 hi hj
 ·rintro⟨h1,h2⟩
  refine⟨h1,?_,?_⟩
  ·intro s hs
   obtain⟨i,hi,rfl⟩:=Eab hs;exact (h2 i hi).1
  ·rw[fad]
   intro i j hi hj hij;exact (h2 j hj).2 i hij hi
theorem Uy{S:PV}{ss:List Ob}{es:List PV}(hS:qb S ss es):∃ b,Ae [.agg [S]]=some (.bool b)/\(b=true↔Xb ss):=by
 have K7:=hS.sz
 have ln:=hS.Tb
 have G8:(AV.pv S).one=true:=by rcases hS.is with⟨h,_⟩ | h <;> rw[h] <;> rfl
 by_cases c1:(ss.length:Int) > 32
 ·have d1:=Ea c1
  refine⟨false,?_,by simp;intro h;have:=h.len;omega⟩;simp -implicitDefEqProofs only[Ae,SX,sevalprocAttr,ui,G8,fc,Wa,ln,d1]
 have d1:=Ga c1;have D7:qd (fun r=>∃ E,(r=(.exit 0,⟨E,[]⟩)/\Xb ss)\/(r=(.ret,⟨E,[]⟩)/\E.get 2= .pv (.bool false)/\¬Xb ss))
  (ab (ma (oa (Da (fun _=>none) 8) jd) (na 0 [1,3])) ua ⟨ZC [S] 0,[]⟩):=by
  refine wa (Gb (g:=ma (oa (Da (fun _=>none) 8) jd) (na 0 [1,3]))
   (fun i t=>t=⟨ZC [S] i,[]⟩/\∀ k,k < i->(hk:k < ss.length)->Be ss[k]/\∀ j,j < k->(h:j < ss.length)->vo ss[j] ss[k])
   ss.length (by unfold ua;unfold maxLen at K7;omega) _ ⟨rfl,by intro j h;omega⟩ ?_ ?_) (fun r h=>h.2)
  ·rintro i t hi ⟨rfl,hs⟩
   obtain⟨P,ps,hP,a0⟩:=hS.Pd hi
   obtain⟨b,hb,hbb⟩:=Zs hP;have hmt:Be ss[i]->_:=fun h=>WK hS hi (fun j hj hj2=>by
    rcases Xaa j i with h1 | h1
    ·exact (hs j h1 hj2).1
    ·have:j=i:=by omega
     subst this;exact h)
   have T7:Be ss[i]->(∀ j,j < i->(h:j < ss.length)->vo ss[j] ss[i])->∀ k,k < i+1->(hk:k < ss.length)->Be ss[k]/\∀ j,j < k->(h:j < ss.length)->vo ss[j] ss[k]:=by
    intro h1 h2 k hk D8;rcases Xaa k i with h3 | h3
    ·exact hs k h3 D8
    ·have:k=i:=by omega
     subst this;exact⟨h1,h2⟩
   have A9:¬(Be ss[i]/\∀ j,j < i->(h:j < ss.length)->vo ss[j] ss[i])->¬Xb ss:=fun h hh=>h ((AJ.1 hh).2 i hi);generalize hgi:ss[i]=p at *;have e1:decide ((i:Int) < (ss.length:Int))=true:=Ea (by omega);have t2:=Za hi K7;generalize P7:LN _ _ i=QQ;cases b with
   |false=>
    have hno:¬Be p:=fun h=>by have:=hbb.2 h;cases this
    simp -implicitDefEqProofs only[SX,sevalprocAttr,jd,e1,ln,fc,Wa,a0,tg,hb,ZC];subst P7;exact⟨_,.inr ⟨rfl,by simp[Tr.aa],A9 fun h=>hno h.1⟩⟩
   |true=>
    have okp:=hbb.1 rfl
    obtain⟨c,hc,P9⟩:=hmt okp;cases c with
    |false=>simp -implicitDefEqProofs only[SX,sevalprocAttr,jd,e1,ln,fc,Wa,a0,tg,hb,hc,t2,na,Ca,AV.cut,za,ZC];subst P7;exact⟨rfl,T7 okp (P9.1 rfl)⟩
    |true=>simp -implicitDefEqProofs only[SX,sevalprocAttr,jd,e1,ln,fc,Wa,a0,tg,hb,hc,ZC];subst P7;exact⟨_,.inr ⟨rfl,by simp[Tr.aa],A9 fun h=>by have:=P9.2 h.2;cases this⟩⟩
  ·rintro t ⟨rfl,hs⟩
   have e1:decide ((ss.length:Int) < (ss.length:Int))=false:=Ga (by omega);generalize hQ:(fun r:Ex×St=>r.1.stop=true/\_)=Q;simp -implicitDefEqProofs only[SX,sevalprocAttr,jd,e1,ln,fc,Wa,ZC];subst hQ;exact⟨rfl,_,.inl ⟨rfl,AJ.2 ⟨by omega,fun i hi=>hs i hi hi⟩⟩⟩
 have key:qd (fun r=>∃ b,r=PV.bool b/\(b=true↔Xb ss)) (Ae [.agg [S]]):=by
  generalize P7:(fun r:PV=>_)=QQ;simp -implicitDefEqProofs only[Ae,SX,sevalprocAttr,ui,G8,fc,Wa,ln,d1,Db,na,Ca,AV.cut,za];refine wa D7 ?_;rintro _ ⟨E,⟨rfl,hb⟩ | ⟨rfl,hE,hb⟩⟩
  ·simp -implicitDefEqProofs only[SX,sevalprocAttr]
   subst P7;exact⟨true,rfl,by simpa using hb⟩
  ·simp -implicitDefEqProofs only[SX,sevalprocAttr,hE]
   subst P7;exact⟨false,rfl,by simpa using hb⟩
 obtain⟨r,h1,b,rfl,hb⟩:=wc key;exact⟨b,h1,hb⟩
abbrev xG(rp rq:List PV)(n i:Int)(nl:Bool)(es:List PV):Tr:=((((Tr.lf.set 9 (.pv (i64 i))).set 8 (.uq 0 nl 1 es)).set 4 (.pv (.rp rq 0))).set 3 (.pv (.rp rp 0))).set 2 (.pv (i64 n))
abbrev TC(rp rq:List PV)(n i x:Int)(nl:Bool)(es:List PV):Tr:=(((((Tr.lf.set 10 (.pv (i64 x))).set 9 (.pv (i64 i))).set 8 (.uq 0 nl 1 es)).set 4 (.pv (.rp rq 0))).set 3 (.pv (.rp rp 0))).set 2 (.pv (i64 n))
theorem uD(call:Sa){P Q:PV}{a b:PV}{n:Int}{lp lq:List (List (Int×Int))}{ps qs:List PV}(hp:xf P lp ps)(hq:xf Q lq qs){i:Nat}(hip:i < lp.length)(hiq:i < lq.length)(nl:Bool)(es:List PV)(m:Nat):
 qd (fun r=>∃ E y,r=(.exit 2,⟨E,[.tok 1 m nl]⟩)/\E.get 2= .pv (i64 n)/\E.get 3= .pv (.rp [P,a] 0)/\E.get 4= .pv (.rp [Q,b] 0)/\E.get 8= .uq 0 nl 1 es/\E.get 9= .pv (i64 i)/\E.get 10= .pv (i64 (y:Nat))/\
  ((y < 256/\lj lp[i] y=true/\lj lq[i] y=true)\/(y=256/\∀ x,x < 256->¬(lj lp[i] x=true/\lj lq[i] x=true))))
  (ab (ma (oa call Qc) (na 1 [2,3,4,8,9,10])) ua ⟨TC [P,a] [Q,b] n i 0 nl es,[.tok 1 m nl]⟩):=by
 obtain⟨v,hv,hpv,a1⟩:=hp.Pd hip [.tok 1 m nl]
 obtain⟨w,hw,hqw,a2⟩:=hq.Pd hiq [.tok 1 m nl]
 have hhp:=mE hpv.is hpv.sz
 have hhq:=mE hqw.is hqw.sz
 generalize lp[i]=lv at *;generalize lq[i]=lw at *;refine wa (Gb (g:=ma (oa call Qc) (na 1 [2,3,4,8,9,10]))
  (fun x t=>t=⟨TC [P,a] [Q,b] n i x nl es,[.tok 1 m nl]⟩/\∀ x',x' < x->¬(lj lv x'=true/\lj lw x'=true))
  256 (by unfold ua;omega) _ ⟨rfl,by intro x h;omega⟩ ?_ ?_) (fun r h=>h.2)
 ·rintro x t hx ⟨rfl,hs⟩
  have e1:decide ((x:Int) < 256)=true:=Ea (by omega);have t2:IntKind.i64.wrap ((x:Int)+1)=((x+1:Nat):Int):=Aa (by omega)
  have S9:=hhp (x:Int);have hq1:=hhq (x:Int);rw[Ea (show (0:Int)<=x by omega),Ea (show (x:Int)<=255 by omega),Eaa,uab,uab] at S9 hq1;have hz:(0 < 1)=True:=by simp
  have T7:¬(lj lv x=true/\lj lw x=true)->∀ x',x' < x+1->¬(lj lv x'=true/\lj lw x'=true):=by
   intro h x' hx';rcases Xaa x' x with h1 | h1
   ·exact hs x' h1
   ·have:x'=x:=by omega
    subst this;exact h
  generalize hQ:LN _ _ x=QQ;cases h1:lj lv x with
  |false=>rw[h1] at S9;simp -implicitDefEqProofs only[SX,sevalprocAttr,Qc,e1,Vc,je,Wa,a1,a2,S9,t2,hz,na,Ca,AV.cut,qa,za,TC];subst hQ;exact⟨rfl,T7 (by rw[h1];simp)⟩
  |true=>
   rw[h1] at S9;cases h2:lj lw x with
   |false=>rw[h2] at hq1;simp -implicitDefEqProofs only[SX,sevalprocAttr,Qc,e1,Vc,je,Wa,a1,a2,S9,hq1,t2,hz,na,Ca,AV.cut,qa,za,TC];subst hQ;exact⟨rfl,T7 (by rw[h2];simp)⟩
   |true=>rw[h2] at hq1;simp -implicitDefEqProofs only[SX,sevalprocAttr,Qc,e1,Vc,je,Wa,a1,a2,S9,hq1,TC];subst hQ;exact⟨_,x,rfl,by simp[Tr.aa],by simp[Tr.aa],by simp[Tr.aa],by simp[Tr.aa],by simp[Tr.aa],by simp[Tr.aa],.inl ⟨hx,h1,h2⟩⟩
 ·rintro t ⟨rfl,hs⟩
  have e1:decide (((256:Nat):Int) < 256)=false:=Ga (by omega);generalize hQ:(fun r:Ex×St=>r.1.stop=true/\_)=QQ;simp -implicitDefEqProofs only[SX,sevalprocAttr,Qc,e1,TC];subst hQ;exact⟨rfl,_,256,rfl,by simp[Tr.aa],by simp[Tr.aa],by simp[Tr.aa],by simp[Tr.aa],by simp[Tr.aa],by simp[Tr.aa],.inr ⟨rfl,hs⟩⟩
theorem QA{p q:List (List (Int×Int))}{i:Nat}(hp:i < p.length)(hq:i < q.length)(vp:Pa 255 (-2) p[i]=true)(vq:Pa 255 (-2) q[i]=true):
 Rq p q i≠[]↔∃ x,x < 256/\lj p[i] x=true/\lj q[i] x=true:=by
 have hmA:Rq p q i=yg (p[i].length+q[i].length) p[i] q[i]:=by unfold Rq;rw[caa hp,caa hq]
 have fac:=Lu _ _ _ (-2) (-2) vp vq (waa _);have hme:=Vn vp;rw[hmA];generalize p[i]=a at *;generalize q[i]=b at *;constructor
 ·intro h
  obtain⟨m,hm⟩:=List.exists_mem_of_ne_nil _ h
  have h2:=(fac.1 m.1).1 ⟨m,hm,Kac _,fac.2 m hm⟩
  have h0:0<=m.1/\m.1<=255:=by
   obtain⟨pp,hpp,h3,h4⟩:=h2.1
   have:=hme pp hpp;omega
  refine⟨m.1.toNat,by omega,?_,?_⟩
  ·rw[lj,vp,uab,sw,vac h0.1];exact h2.1
  ·rw[lj,vq,uab,sw,vac h0.1];exact h2.2
 ·rintro⟨x,hx,h1,h2⟩ kab
  rw[lj,vp,uab,sw] at h1;rw[lj,vq,uab,sw] at h2;have:=(fac.1 x).2 ⟨h1,h2⟩
  rw[kab] at this;exact Qn _ this
theorem Sy{e f:PV}{p q:Ob}{P Q:PV}{ps qs:List PV}(hp:fg e p P ps)(hq:fg f q Q qs)(op:Be p)(oq:Be q){n:Nat}(hn:n<=p.parts.length)(hn2:n<=q.parts.length):
 ∃ v,Ze [e,f,i64 n]=some (.mc [v,.bool (ec p.parts q.parts n 0).isSome]):=by
 have hc1:=Jy hp op;have hc2:=Jy hq oq;have H8:=Gt op;have s8:=Gt oq;obtain⟨E8,hP2⟩:=hp.Xz
 obtain⟨hQ1,hQ2⟩:=hq.Xz
 have heq:=hp.eq
 have hfq:=hq.eq
 subst heq hfq;have h8:=op.hi
 have lP:=hp.parts.Tb
 have lQ:=hq.parts.Tb
 have D7:qd (fun r=>∃ E H,(r=(.ret,⟨E,H⟩)/\E.get 6= .pv .ga/\E.get 7= .pv (.bool false)/\(ec p.parts q.parts n 0).isSome=false)\/(∃ nl es,r=(.exit 0,⟨E,H⟩)/\E.get 8= .uq 0 nl 1 es/\(ec p.parts q.parts n 0).isSome=true))
  (ab (ma (oa (Da (fun _=>none) 8) tf) (na 1 [2,3,4,8,9])) ua ⟨xG [P,i64 p.first] [Q,i64 q.first] n 0 true [],[.tok 1 0 true]⟩):=by
  refine wa (Gb (g:=ma (oa (Da (fun _=>none) 8) tf) (na 1 [2,3,4,8,9]))
   (fun i t=>∃ nl es,t=⟨xG [P,i64 p.first] [Q,i64 q.first] n i nl es,[.tok 1 i nl]⟩/\es.length=i/\(ec p.parts q.parts n 0).isSome=(ec p.parts q.parts (n - i) i).isSome)
   n (by unfold ua;omega) _ ⟨true,[],rfl,rfl,rfl⟩ ?_ ?_) (fun r h=>h.2)
  ·rintro i t hi ⟨nl,es,rfl,hlen,hs⟩
   have hip:i < p.parts.length:=by omega
   have hiq:i < q.parts.length:=by omega
   have U8:=uD (Da (fun _=>none) 8) (a:=i64 p.first) (b:=i64 q.first) (n:=n) hp.parts hq.parts hip hiq nl es i
   have okv:=op.parts _ (saa hip)
   have okw:=oq.parts _ (saa hiq)
   have hma:=QA hip hiq okv.2 okw.2
   obtain⟨m,hm⟩:∃ m,n - i=m+1:=⟨n - i - 1,by omega⟩;have hm':n - (i+1)=m:=by omega
   rw[hm,ec] at hs;have e1:decide ((i:Int) < (n:Int))=true:=Ea (by omega);have t2:=Za (i:=i) (n:=n) hi (by unfold maxLen;omega);have hz:(0 < 1)=True:=by simp
   have M8:∀ (nl':Bool)(es':List PV)(s:St),s=⟨xG [P,i64 p.first] [Q,i64 q.first] n (i+1:Nat) nl' es',[.tok 1 (i+1) nl']⟩->es'.length=i+1->(ec p.parts q.parts n 0).isSome=(ec p.parts q.parts m (i+1)).isSome->
    LN (fun i t=>∃ nl es,t=⟨xG [P,i64 p.first] [Q,i64 q.first] n i nl es,[.tok 1 i nl]⟩/\es.length=i/\(ec p.parts q.parts n 0).isSome=(ec p.parts q.parts (n - i) i).isSome)
     (fun r=>∃ E H,(r=(.ret,⟨E,H⟩)/\E.get 6= .pv .ga/\E.get 7= .pv (.bool false)/\(ec p.parts q.parts n 0).isSome=false)\/(∃ nl es,r=(.exit 0,⟨E,H⟩)/\E.get 8= .uq 0 nl 1 es/\(ec p.parts q.parts n 0).isSome=true)) i (.norm,s):=
    fun nl' es' s h1 h2 h3=>⟨nl',es',h1,h2,by rw[hm'];exact h3⟩
   have hLR:∀ (E:Tr)(H:List ba),E.get 6= .pv .ga->E.get 7= .pv (.bool false)->(ec p.parts q.parts n 0).isSome=false->
    LN (fun i t=>∃ nl es,t=⟨xG [P,i64 p.first] [Q,i64 q.first] n i nl es,[.tok 1 i nl]⟩/\es.length=i/\(ec p.parts q.parts n 0).isSome=(ec p.parts q.parts (n - i) i).isSome)
     (fun r=>∃ E H,(r=(.ret,⟨E,H⟩)/\E.get 6= .pv .ga/\E.get 7= .pv (.bool false)/\(ec p.parts q.parts n 0).isSome=false)\/(∃ nl es,r=(.exit 0,⟨E,H⟩)/\E.get 8= .uq 0 nl 1 es/\(ec p.parts q.parts n 0).isSome=true)) i (.ret,⟨E,H⟩):=
    fun E H h1 h2 h3=>⟨E,H,.inl ⟨rfl,h1,h2,h3⟩⟩
   generalize LN _ _ i=QQ at M8 hLR ⊢;simp -implicitDefEqProofs only[SX,sevalprocAttr,tf,Db,e1,hz,na,Ca,AV.cut,qa,za,xG];refine wa U8 ?_;rintro r ⟨E,y,rfl,g2,g3,g4,g8,g9,g10,⟨hy,hy1,hy2⟩ | ⟨rfl,hno⟩⟩
   ·have I7:Rq p.parts q.parts i≠[]:=hma.2 ⟨y,hy,hy1,hy2⟩
    have hs':(ec p.parts q.parts n 0).isSome=(ec p.parts q.parts m (i+1)).isSome:=by
     rw[hs];cases hmt:Rq p.parts q.parts i with
     |nil=>exact absurd hmt I7
     |cons a r=>simp
    have e2:(((y:Nat):Int)==256)=false:=mj (by omega);have t3:IntKind.u8.wrap ((y:Nat):Int)=(y:Int):=wrap_u8 (by omega)
    have e8:=Et (A:=[.tok 1 i nl]) (id:=0) (n:=i) (h:= .uq) (nl:=nl) (bytes:=1) (es:=es) rfl (by simp[hlen]) (by unfold eb;omega) (.int .u8 y);rw[nac] at e8;simp -implicitDefEqProofs only[SP,WP,fa,sevalprocAttr,g2,g3,g4,g8,g9,g10,e2,t2,t3,e8,hz,na,Ca,AV.cut,qa,za];exact M8 false (es++[.int .u8 y]) _ rfl (by simp[hlen]) hs'
   ·have I7:Rq p.parts q.parts i=[]:=by
     apply eae;intro h;obtain⟨x,hx,h1,h2⟩:=hma.1 h
     exact hno x hx ⟨h1,h2⟩
    have hs':(ec p.parts q.parts n 0).isSome=false:=by rw[hs,I7];rfl
    have e2:(((256:Nat):Int)==256)=true:=by decide
    simp -implicitDefEqProofs only[SP,WP,fa,sevalprocAttr,g2,g3,g4,g8,g9,g10,e2];exact hLR _ _ (by simp[Tr.aa]) (by simp[Tr.aa]) hs'
  ·rintro t ⟨nl,es,rfl,hlen,hs⟩
   rw[uad,ec] at hs;have e1:decide ((n:Int) < (n:Int))=false:=Ga (by omega);generalize hQ:(fun r:Ex×St=>r.1.stop=true/\_)=QQ;simp -implicitDefEqProofs only[SX,sevalprocAttr,tf,e1,xG];subst hQ;exact⟨rfl,_,_,.inr ⟨nl,es,rfl,by simp[Tr.aa],hs⟩⟩
 have key:qd (fun r=>∃ v,r= .mc [v,.bool (ec p.parts q.parts n 0).isSome]) (Ze [.agg [P,i64 p.first],.agg [Q,i64 q.first],i64 n]):=by
  have z1:(Xh 1 p.parts==0)=false:=mj (by omega);have z2:(Xh 1 q.parts==0)=false:=mj (by omega);have d0:decide ((n:Int) < 0)=false:=Ga (by omega);have d1:decide ((n:Int) > (p.parts.length:Int))=false:=Ga (by omega);have d2:decide ((n:Int) > (q.parts.length:Int))=false:=Ga (by omega);have hz:(0 < 1)=True:=by simp
  generalize Xh 1 p.parts=np at *
  generalize Xh 1 q.parts=nq at *
  generalize (ec p.parts q.parts n 0).isSome=b at *
  generalize P7:(fun r:PV=>_)=QQ;simp -implicitDefEqProofs only[Ze,SX,sevalprocAttr,Xj,Db,E8,hQ1,Vc,je,tg,hc1,hc2,z1,z2,lP,lQ,d0,d1,d2,fe,hz,na,Ca,AV.cut,qa,za];refine wa D7 ?_;rintro _ ⟨E,H,⟨rfl,h6,h7,hb⟩ | ⟨nl,es,rfl,g8,hb⟩⟩
  ·subst hb
   simp -implicitDefEqProofs only[SX,sevalprocAttr,h6,h7];subst P7;exact⟨_,rfl⟩
  ·subst hb
   cases nl <;>
   ·simp -implicitDefEqProofs only[SX,sevalprocAttr,g8]
    subst P7;exact⟨_,rfl⟩
 obtain⟨r,h1,v,rfl⟩:=wc key;exact⟨v,h1⟩
abbrev eS(row:List PV)(i:Int):Tr:=(Tr.lf.set 4 (.pv (i64 i))).set 1 (.pv (.rp row 0))
abbrev lJ(row:List PV)(i j:Int):Tr:=((Tr.lf.set 5 (.pv (i64 j))).set 4 (.pv (i64 i))).set 1 (.pv (.rp row 0))
def PX(ss:List Ob)(i j:Nat):Prop:=(hi:i < ss.length)->(hj:j < ss.length)->ss[i].parts.length < ss[j].parts.length->vf ss[i] ss[j]=false
theorem yC(call:Sa){S:PV}{ss:List Ob}{es:List PV}(hS:qb S ss es)(Ba:Xb ss){i:Nat}(hi:i < ss.length):
 qd (fun r=>∃ E,(r=(.exit 2,⟨E,[]⟩)/\E.get 1= .pv (.rp [S] 0)/\E.get 4= .pv (i64 i)/\∀ j,PX ss i j)\/(r=(.ret,⟨E,[]⟩)/\E.get 2= .pv (.bool false)/\E.get 3= .pv (i64 0)/\¬Df ss))
  (ab (ma (oa call Rc) (na 0 [1,4,5])) ua ⟨lJ [S] i 0,[]⟩):=by
 have h32:=Ba.len
 have ln:=hS.Tb
 obtain⟨P,ps,hP,a1⟩:=hS.Pd hi
 have okp:=Ba.ft _ (saa hi)
 have lP:=hP.parts.Tb
 have mak:∀ j (hj:j < ss.length),ss[i].parts.length < ss[j].parts.length->vf ss[i] ss[j]=true->¬Df ss:=fun j hj h1 h2 h=>by have:=h i j hi hj h1;rw[h2] at this;cases this
 have Y8:∀ j,PX ss i j↔((hj:j < ss.length)->ss[i].parts.length < ss[j].parts.length->vf ss[i] ss[j]=false):=fun j=>⟨fun h=>h hi,fun h _=>h⟩;simp only[Y8];generalize ss[i]=p at *;refine wa (Gb (g:=ma (oa call Rc) (na 0 [1,4,5]))
  (fun j t=>t=⟨lJ [S] i j,[]⟩/\∀ j',j' < j->(hj:j' < ss.length)->p.parts.length < ss[j'].parts.length->vf p ss[j']=false)
  ss.length (by unfold ua;omega) _ ⟨rfl,fun j h=>by omega⟩ ?_ ?_) (fun r h=>h.2)
 ·rintro j t hj ⟨rfl,hs⟩
  obtain⟨Q,qs,hQ,a2⟩:=hS.Pd hj
  have okq:=Ba.ft _ (saa hj)
  have hcm:=fun (h:p.parts.length<=ss[j].parts.length)=>Sy hP hQ okp okq (n:=p.parts.length) (waa _) h;have lQ:=hQ.parts.Tb
  have A9:=mak j hj;have T7:(p.parts.length < ss[j].parts.length->vf p ss[j]=false)->∀ j',j' < j+1->(hj:j' < ss.length)->p.parts.length < ss[j'].parts.length->vf p ss[j']=false:=by
   intro h j' h1 h2;rcases Xaa j' j with h3 | h3
   ·exact hs j' h3 h2
   ·have:j'=j:=by omega
    subst this;exact h
  unfold vf at A9 T7;generalize ss[j]=q at *;have e1:decide ((j:Int) < (ss.length:Int))=true:=Ea (by omega);have t2:=Za hj (by unfold maxLen;omega);generalize P7:LN _ _ j=QQ
  by_cases c1:(p.parts.length:Int) < (q.parts.length:Int)
  ·have d1:=Ea c1
   obtain⟨v,hv⟩:=hcm (by omega);cases hb:(ec p.parts q.parts p.parts.length 0).isSome with
   |true=>rw[hb] at hv;simp -implicitDefEqProofs only[SX,sevalprocAttr,Rc,ln,e1,fc,Wa,Vc,je,tg,a1,a2,lP,lQ,d1,hv,lJ];subst P7;exact⟨_,.inr ⟨rfl,by simp[Tr.aa],by simp[Tr.aa],A9 (by omega) hb⟩⟩
   |false=>rw[hb] at hv;simp -implicitDefEqProofs only[SX,sevalprocAttr,Rc,ln,e1,t2,fc,Wa,Vc,je,tg,a1,a2,lP,lQ,d1,hv,na,Ca,AV.cut,za,lJ];subst P7;exact⟨rfl,T7 fun _=>hb⟩
  ·have d1:=Ga c1
   simp -implicitDefEqProofs only[SX,sevalprocAttr,Rc,ln,e1,t2,fc,Wa,Vc,je,tg,a1,a2,lP,lQ,d1,na,Ca,AV.cut,za,lJ];subst P7;exact⟨rfl,T7 fun h=>absurd h (by omega)⟩
 ·rintro t ⟨rfl,hs⟩
  have e1:decide ((ss.length:Int) < (ss.length:Int))=false:=Ga (by omega);generalize hQ:(fun r:Ex×St=>r.1.stop=true/\_)=QQ;simp -implicitDefEqProofs only[SX,sevalprocAttr,Rc,e1,ln,fc,Wa,lJ];subst hQ;exact⟨rfl,_,.inl ⟨rfl,by simp[Tr.aa],by simp[Tr.aa],fun j hj=>hs j hj hj⟩⟩
theorem eG{S:PV}{ss:List Ob}{es:List PV}(hS:qb S ss es):
 (¬ Xb ss->Wd [.agg [S]]=some (.mc [.bool false,i64 84]))/\
 (Xb ss->∃ b,Wd [.agg [S]]=some (.mc [.bool b,i64 0])/\(b=true↔Df ss)):=by
 have ln:=hS.Tb
 have G8:(AV.pv S).one=true:=by rcases hS.is with⟨h,_⟩ | h <;> rw[h] <;> rfl
 obtain⟨b,hb,hbb⟩:=Uy hS;constructor
 ·intro h
  have:b=false:=by cases b with | false=>rfl | true=>exact absurd (hbb.1 rfl) h
  subst this;simp -implicitDefEqProofs only[Wd,SX,sevalprocAttr,Kh,G8,qe,hb]
 ·intro Ba
  have h32:=Ba.len
  have:=hbb.2 Ba
  subst this;have D7:qd (fun r=>∃ E,(r=(.exit 0,⟨E,[]⟩)/\Df ss)\/(r=(.ret,⟨E,[]⟩)/\E.get 2= .pv (.bool false)/\E.get 3= .pv (i64 0)/\¬Df ss))
   (ab (ma (oa (Da (fun _=>none) 8) pf) (na 0 [1,4])) ua ⟨eS [S] 0,[]⟩):=by
   refine wa (Gb (g:=ma (oa (Da (fun _=>none) 8) pf) (na 0 [1,4]))
    (fun i t=>t=⟨eS [S] i,[]⟩/\∀ i',i' < i->∀ j,PX ss i' j)
    ss.length (by unfold ua;omega) _ ⟨rfl,fun i h=>by omega⟩ ?_ ?_) (fun r h=>h.2)
   ·rintro i t hi ⟨rfl,hs⟩
    have U8:=yC (Da (fun _=>none) 8) hS Ba hi;have e1:decide ((i:Int) < (ss.length:Int))=true:=Ea (by omega);have t2:=Za hi (by unfold maxLen;omega);generalize P7:LN _ _ i=QQ;simp -implicitDefEqProofs only[SX,sevalprocAttr,pf,Db,ln,e1,fc,Wa,na,Ca,AV.cut,za,eS];refine wa U8 ?_;rintro _ ⟨E,⟨rfl,g1,g4,hp⟩ | ⟨rfl,g2,g3,hp⟩⟩
    ·simp -implicitDefEqProofs only[SX,sevalprocAttr,g1,g4,t2,na,Ca,AV.cut,za]
     subst P7;refine⟨rfl,fun i' hi' j=> ?_⟩;rcases Xaa i' i with h3 | h3
     ·exact hs i' h3 j
     ·have:i'=i:=by omega
      subst this;exact hp j
    ·simp -implicitDefEqProofs only[SX,sevalprocAttr]
     subst P7;exact⟨_,.inr ⟨rfl,g2,g3,hp⟩⟩
   ·rintro t ⟨rfl,hs⟩
    have e1:decide ((ss.length:Int) < (ss.length:Int))=false:=Ga (by omega);generalize hQ:(fun r:Ex×St=>r.1.stop=true/\_)=QQ;simp -implicitDefEqProofs only[SX,sevalprocAttr,pf,e1,ln,fc,Wa,eS];subst hQ;exact⟨rfl,_,.inl ⟨rfl,fun i j hi hj=>hs i hi j hi hj⟩⟩
  have key:qd (fun r=>∃ b,r=PV.mc [.bool b,i64 0]/\(b=true↔Df ss)) (Wd [.agg [S]]):=by
   generalize P7:(fun r:PV=>_)=QQ;simp -implicitDefEqProofs only[Wd,SX,sevalprocAttr,Kh,G8,fc,Wa,qe,hb,Db,na,Ca,AV.cut,za];refine wa D7 ?_;rintro _ ⟨E,⟨rfl,hp⟩ | ⟨rfl,g2,g3,hp⟩⟩
   ·simp -implicitDefEqProofs only[SX,sevalprocAttr]
    subst P7;exact⟨true,rfl,by simpa using hp⟩
   ·simp -implicitDefEqProofs only[SX,sevalprocAttr,g2,g3]
    subst P7;exact⟨false,rfl,by simpa using hp⟩
  obtain⟨r,h1,b,rfl,hb⟩:=wc key;exact⟨b,h1,hb⟩
def UL(f:Nat->Bool):List PV:=(List.range 32).map fun i=> .bool (f i)
def tc(d:Int)(f:Nat->Bool):List PV:=i64 d::UL f
def Af(a:Al):PV:= .agg (tc a.1 a.2.toNat.testBit)
theorem VE(f:Nat->Bool):(UL f).length=32:=by simp[UL]
theorem kh(d:Int)(f:Nat->Bool):(tc d f).length=33:=by rw[tc,Raa,VE]
theorem PQ(f:Nat->Bool){i:Nat}(h:i < (UL f).length):(UL f)[i]= .bool (f i):=by
 simp only[UL,rae,Yad]
theorem mL(f:Nat->Bool){i:Nat}(h:i < 32):(UL f)[i]? =some (.bool (f i)):=by
 rw[caa (by rw[VE];exact h),PQ]
theorem mR(f:Nat->Bool){i:Nat}(h:i < 32)(b:Bool):(UL f).set i (.bool b)=UL fun j=>if j=i then b else f j:=by
 apply Dad
 ·rw[uac,VE,VE]
 ·intro j h1 h2
  rw[Nae,PQ,PQ]
  by_cases hj:i=j
  ·subst hj;rw[if_pos rfl,if_pos rfl]
  ·rw[taa hj,taa (rac hj)]
theorem Hv{f g:Nat->Bool}(h:∀ x,x < 32->f x=g x):UL f=UL g:=by
 unfold UL;apply pac;intro x hx;rw[h x (by simpa using hx)]
theorem fS{f g:Nat->Bool}(h:UL f=UL g){i:Nat}(hi:i < 32):f i=g i:=by
 have h1:=mL f hi;rw[h,mL g hi] at h1;injection h1 with h1;injection h1 with h1;exact h1.symm
theorem Gy(d:Int)(f:Nat->Bool):∀ e∈tc d f,(AV.pv e).one=true:=by
 intro e he;rcases bab.1 he with rfl | he
 ·rfl
 ·obtain⟨x,_,rfl⟩:=oab.1 he
  rfl
def rW(a:Al):Prop:=∃ b:Nat,a.2=(b:Int)/\b < 4294967296
theorem lX{a b:Al}(ha:rW a)(hb:rW b)(h:Af a=Af b):a=b:=by
 obtain⟨d,_⟩:=a;obtain⟨e,_⟩:=b;obtain⟨m,rfl,hm⟩:=ha;obtain⟨n,rfl,hn⟩:=hb;simp only[Af,tc,PV.agg.injEq,Dae,PV.int.injEq,true_and,Eaa] at h;have:m=n:=by
  apply Nat.eq_of_testBit_eq
  intro i
  by_cases hi:i < 32
  ·exact fS h.2 hi
  ·rw[Nat.testBit_lt_two_pow (eac hm (Nat.pow_le_pow_right (n:=2) (by decide) (by omega:32<=i))),Nat.testBit_lt_two_pow (eac hn (Nat.pow_le_pow_right (n:=2) (by decide) (by omega:32<=i)))]
 subst this;have h1:d=e:=by have:=h.1;omega
 rw[h1]
theorem iA:∀ (l:List Nat)(f g:Nat->Bool),cj (l.map fun _=>0) (l.map fun i=> .bool (f i)) (l.map fun i=> .bool (g i))=some (l.all fun i=>f i==g i)
 | [],f,g=>rfl
 |i::l,f,g=>by simp only[pab,cj,Us,Daa,iA l f g,Kaa,zac]
abbrev Z6:Kd:= .row [1,0,0,0,0,0,0,0,0,0,0,0,0,0,0,0,0,0,0,0,0,0,0,0,0,0,0,0,0,0,0,0,0]
theorem bX(a b:Al):∃ c,Ql Z6 (Af a) (Af b)=some c/\(c=true↔Af a=Af b):=by
 have h:=iA (List.range 32) a.2.toNat.testBit b.2.toNat.testBit
 have h0:(List.range 32).map (fun _=>0)=[0,0,0,0,0,0,0,0,0,0,0,0,0,0,0,0,0,0,0,0,0,0,0,0,0,0,0,0,0,0,0,0]:=by decide
 rw[h0] at h;refine⟨((a.1:Int)==b.1)&&(List.range 32).all fun i=>a.2.toNat.testBit i==b.2.toNat.testBit i,?_,?_⟩
 ·show cj (1::[0,0,0,0,0,0,0,0,0,0,0,0,0,0,0,0,0,0,0,0,0,0,0,0,0,0,0,0,0,0,0,0]) (i64 a.1::UL _) (i64 b.1::UL _)=_
  unfold cj;rw[show UL a.2.toNat.testBit=(List.range 32).map fun i=> .bool (a.2.toNat.testBit i) from rfl,show UL b.2.toNat.testBit=(List.range 32).map fun i=> .bool (b.2.toNat.testBit i) from rfl,h];simp only[Us,if_true,Daa,Kaa]
 ·simp only[daa,beq_iff_eq,aab,Pac]
  constructor
  ·rintro⟨h1,h2⟩
   rw[Af,Af,h1];unfold tc;rw[Hv h2]
  ·intro h
   simp only[Af,tc,PV.agg.injEq,Dae,PV.int.injEq,true_and] at h;exact⟨h.1,fun i hi=>fS h.2 hi⟩
theorem KO(H:List ba){l:List Al}{i:Nat}(hi:i < l.length):ta H 33 (.pv (.lit 33 (l.map Af))) (i:Int)=some (.pv (.rp (tc l[i].1 l[i].2.toNat.testBit) 0)):=by
 simp only[ta];rw[if_pos (by refine⟨trivial,?_⟩;unfold Ia;simp;omega)];simp[hi,Af,PV.cells]
theorem TM(H:List ba)(d:Int)(f:Nat->Bool):pa H true 33 (.pv (.rp (tc d f) 0))=some (.pv (.agg (tc d f))):=by
 have h:=kh d f;simp only[pa,Im,if_true];rw[if_pos (by omega),Aac,Zaa (by omega)];rfl
theorem pT{a:Al}{l:List Al}{i k:Nat}(hi:i < l.length):Tm a (l.drop i) k=if a=l[i] then some k else Tm a (l.drop (i+1)) (k+1):=by
 rw[Waa hi,Tm]
abbrev CN(v:PV)(row:List PV)(i:Int):Tr:=((Tr.lf.set 5 (.pv (i64 i))).set 3 (.pv (.rp row 0))).set 0 (.pv v)
theorem AY{l:List Al}{a:Al}(hl:l.length<=64)(ha:rW a)(hb:∀ b∈l,rW b):Yi [.lit 33 (l.map Af),Af a]=some (i64 (match Tm a l 0 with | some k=>(k:Int) | none=> -1)):=by
 have D7:qd (fun r=>∃ E,(r=(.exit 0,⟨E,[]⟩)/\Tm a l 0=none)\/(∃ k,r=(.ret,⟨E,[]⟩)/\Tm a l 0=some k/\E.get 4= .pv (i64 (k:Nat))))
  (ab (ma (oa (Da (fun _=>none) 8) Ge) (na 0 [0,3,5])) ua ⟨CN (.lit 33 (l.map Af)) (tc a.1 a.2.toNat.testBit) 0,[]⟩):=by
  refine wa (Gb (g:=ma (oa (Da (fun _=>none) 8) Ge) (na 0 [0,3,5]))
   (fun i t=>t=⟨CN (.lit 33 (l.map Af)) (tc a.1 a.2.toNat.testBit) i,[]⟩/\Tm a l 0=Tm a (l.drop i) i)
   l.length (by unfold ua;omega) _ ⟨rfl,rfl⟩ ?_ ?_) (fun r h=>h.2)
  ·rintro i t hi ⟨rfl,hs⟩
   rw[pT hi] at hs;have a1:=KO [] hi;have a2:=TM [] l[i].1 l[i].2.toNat.testBit
   have a3:=TM [] a.1 a.2.toNat.testBit
   obtain⟨c,heq,hce⟩:=bX l[i] a;have heq:Ql Z6 (.agg (tc l[i].1 l[i].2.toNat.testBit)) (.agg (tc a.1 a.2.toNat.testBit))=some c:=heq;have e1:decide ((i:Int) < (l.length:Int))=true:=Ea (by omega);have t2:=Za hi (show l.length<=maxLen by unfold maxLen;omega);have ln:Tb [] 0 (.pv (.lit 33 (l.map Af)))=some l.length:=by simp[Tb]
   have hbi:=hb _ (saa hi);generalize tc a.1 a.2.toNat.testBit=row at *
   generalize tc l[i].1 l[i].2.toNat.testBit=bae at *
   generalize l.map Af=es at *
   generalize hQ:LN _ _ i=Q
   by_cases h:a=l[i]
   ·rw[hce.2 (by rw[h])] at heq
    rw[if_pos h] at hs;simp -implicitDefEqProofs only[SX,sevalprocAttr,Ge,e1,ln,a1,a2,a3,heq,CN];subst hQ;exact⟨_,.inr ⟨i,rfl,hs,by simp[Tr.aa]⟩⟩
   ·have:c=false:=by cases c with | false=>rfl | true=>exact absurd (lX hbi ha (hce.1 rfl)).symm h
    rw[this] at heq;rw[taa h] at hs;simp -implicitDefEqProofs only[SX,sevalprocAttr,Ge,e1,t2,ln,a1,a2,a3,heq,na,Ca,AV.cut,za,CN];subst hQ;exact⟨rfl,hs⟩
  ·rintro t ⟨rfl,hs⟩
   rw[Hab,Tm] at hs;have e1:decide ((l.length:Int) < (l.length:Int))=false:=Ga (by omega);have ln:Tb [] 0 (.pv (.lit 33 (l.map Af)))=some l.length:=by simp[Tb]
   generalize l.map Af=es at *
   generalize hQ:(fun r:Ex×St=>r.1.stop=true/\_)=Q;simp -implicitDefEqProofs only[SX,sevalprocAttr,Ge,e1,ln,CN];subst hQ;exact⟨rfl,_,.inl ⟨rfl,hs⟩⟩
 have hln:=kh (a.1:Int) a.2.toNat.testBit
 have v8:∀ e∈tc (a.1:Int) a.2.toNat.testBit,(AV.pv e).one=true:=Gy _ _
 have he:Af a= .agg (tc a.1 a.2.toNat.testBit):=rfl
 rw[he];generalize tc (a.1:Int) a.2.toNat.testBit=row at *
 have hbx:((row.map AV.pv).length=33/\(row.map AV.pv).all AV.one=true)=True:=by
  refine Laa ⟨by rw[paa,hln],?_⟩;rw[aab];intro v hv;obtain⟨e,he,rfl⟩:=oab.1 hv
  exact v8 e he
 have hmp:Ra (Ub [] 0) (row.map AV.pv)=some row:=SE _ _ _;generalize l.map Af=es at *
 apply bl;simp -implicitDefEqProofs only[Yi,SX,sevalprocAttr,Wk,hbx,hmp,Db,na,Ca,AV.cut,za];refine wa D7 ?_;rintro _ ⟨E,⟨rfl,hn⟩ | ⟨k,rfl,hk,g⟩⟩
 ·simp -implicitDefEqProofs only[SX,sevalprocAttr,hn]
 ·simp -implicitDefEqProofs only[SX,sevalprocAttr,g,hk]
theorem Nh{α:Type}:∀ (vs cs:List α)(off j:Nat),off+vs.length<=cs.length->(fa cs off vs)[j]? =if off<=j/\j < off+vs.length then vs[j - off]? else cs[j]?
 | [],cs,off,j,h=>by rw[taa (by simp only[Dab];omega)];rfl
 |v::vs,cs,off,j,h=>by
  simp only[Raa] at h;rw[fa,Nh vs _ (off+1) j (by simp;omega)]
  by_cases h1:off+1<=j/\j < off+1+vs.length
  ·rw[if_pos h1,if_pos (by simp only[Raa];omega),show j - off=(j - (off+1))+1 by omega,mab]
  ·rw[taa h1]
   by_cases h2:off=j
   ·subst h2
    rw[Qaa (by omega),if_pos (by simp only[Raa];omega),uad,jab]
   ·rw[Jaa h2,taa (by simp only[Raa];omega)]
def eg(n:Nat)(f:Nat->Bool):List PV:=(List.range n).map fun x=> .bool (f x)
theorem lh(n:Nat)(f:Nat->Bool):(eg n f).length=n:=by rw[eg,paa,mac]
theorem XE(n:Nat)(f:Nat->Bool){i:Nat}(h:i < (eg n f).length):(eg n f)[i]= .bool (f i):=by
 simp only[eg,rae,Yad]
theorem xB{n:Nat}(f:Nat->Bool){i:Nat}(h:i < n):(eg n f)[i]? =some (.bool (f i)):=by
 rw[caa (by rw[lh];exact h),XE]
theorem tabN_get?(n:Nat)(f:Nat->Bool)(i:Nat):(eg n f)[i]? =if i < n then some (.bool (f i)) else none:=by
 by_cases h:i < n
 ·rw[if_pos h,xB f h]
 ·rw[taa h,Yaa (by rw[lh];omega)]
theorem mH{n:Nat}{f g:Nat->Bool}(h:∀ x,x < n->f x=g x):eg n f=eg n g:=by
 unfold eg;apply pac;intro x hx;rw[h x (by simpa using hx)]
theorem PN(n:Nat)(f:Nat->Bool):∀ e∈eg n f,(AV.pv e).one=true:=by
 intro e he;obtain⟨x,_,rfl⟩:=oab.1 he
 rfl
theorem XF(n:Nat):List.replicate n (PV.bool false)=eg n fun _=>false:=by
 apply Dad
 ·rw[cac,lh]
 ·intro j h1 h2;rw[List.getElem_replicate,XE]
theorem nW(f:Nat->Bool):vg f=eg 256 f:=rfl
theorem vX{n:Nat}(f g:Nat->Bool){m off:Nat}(h:off+m<=n):fa (eg n f) off (eg m g)=eg n fun j=>if off<=j/\j < off+m then g (j - off) else f j:=by
 apply Vab;intro j;rw[Nh _ _ _ _ (by rw[lh,lh];exact h),lh,tabN_get?,tabN_get?,tabN_get?]
 by_cases h1:off<=j/\j < off+m
 ·rw[if_pos h1,if_pos (show j - off < m by omega),if_pos (by omega)]
  simp only[if_pos h1]
 ·rw[taa h1]
  simp only[taa h1]
theorem oH{α β:Type}(f:α->β):∀ (vs cs:List α)(off:Nat),fa (cs.map f) off (vs.map f)=(fa cs off vs).map f
 | [],cs,off=>rfl
 |v::vs,cs,off=>by rw[pab,fa,fa,<-oH f vs,xae]
theorem JY{A:List ba}{id n off m:Nat}{f g:Nat->Bool}(hg:A[id]? =some (Ib (eg n f)))(h:off+m<=n):
 Ha A m (.ptr id off) (.pv (.agg (eg m g)))=some (A.set id (Ib (eg n fun j=>if off<=j/\j < off+m then g (j - off) else f j))):=by
 have M9:(AV.pv (.agg (eg m g))).cells=(eg m g).map .pv:=rfl
 simp only[Ha,hg,M9];rw[if_pos ⟨by rw[paa,lh],by rw[aab];intro v hv;obtain⟨e,he,rfl⟩:=oab.1 hv;exact PN _ _ e he⟩,
  if_pos (by rw[paa,lh];exact h),oH,vX f g h]
def Jo(s:Ob)(k x:Nat):Bool:=match s.parts[k]? with
 |some l=>lj l x
 |none=>false
def Vo(s:Ob)(k j:Nat):Bool:=decide (j / 256 < k)&&Jo s (j / 256) (j % 256)
def xA(s:Ob):List PV:=eg 2048 (Vo s 8)
theorem zU(s:Ob){k:Nat}(hk:k < s.parts.length):(fun j=>if k * 256<=j/\j < k * 256+256 then lj s.parts[k] (j - k * 256) else Vo s k j)=Vo s (k+1):=by
 funext j
 by_cases h:k * 256<=j/\j < k * 256+256
 ·have h1:j / 256=k:=by omega
  have h2:j % 256=j - k * 256:=by omega
  rw[if_pos h,Vo,h1,h2,Jo,caa hk];simp
 ·rw[taa h,Vo,Vo]
  congr 1
  rw[decide_eq_decide];omega
theorem RX(s:Ob)(h8:s.parts.length<=8):eg 2048 (Vo s s.parts.length)=xA s:=by
 refine mH fun j hj=> ?_;unfold Vo;have h2:decide (j / 256 < 8)=true:=decide_eq_true (by omega);rw[h2,uab]
 by_cases h:j / 256 < s.parts.length
 ·rw[decide_eq_true h,uab]
 ·rw[decide_eq_false h,Fac,Jo,Yaa (by omega)]
abbrev Bc(i:Nat):List PV:=tc 0 fun j=>decide (j < i)
abbrev Jz(S:PV)(nl:Bool)(es:List PV)(i k:Int):Tr:=(((((Tr.lf.set 9 (.pv (i64 k))).set 8 (.ptr 2 0)).set 7 (.pv (i64 i))).set 6 (.ptr 1 0)).set 5 (.uq 0 nl 2048 es)).set 1 (.pv (.rp [S] 0))
abbrev Kz(S:PV)(nl:Bool)(es:List PV)(i:Int):Tr:=(((Tr.lf.set 7 (.pv (i64 i))).set 6 (.ptr 1 0)).set 5 (.uq 0 nl 2048 es)).set 1 (.pv (.rp [S] 0))
theorem XT(call:Sa){S:PV}{ss:List Ob}{es:List PV}(hS:qb S ss es){i:Nat}(hi:i < ss.length)(h8:ss[i].parts.length<=8)(nl:Bool)(os:List PV)(m:Nat)(F:List PV):
 qd (fun r=>∃ E,r=(.exit 2,⟨E,[.tok 2048 m nl,Ib F,Ib (xA ss[i])]⟩)/\E.get 1= .pv (.rp [S] 0)/\E.get 5= .uq 0 nl 2048 os/\E.get 6= .ptr 1 0/\E.get 7= .pv (i64 i)/\E.get 8= .ptr 2 0)
  (ab (ma (oa call cg) (na 3 [1,5,6,7,8,9])) ua ⟨Jz S nl os i 0,[.tok 2048 m nl,Ib F,Ib (eg 2048 fun _=>false)]⟩):=by
 obtain⟨P,ps,hP,a0⟩:=hS.Pd hi
 rw[<- RX _ h8];have ln:=hP.parts.Tb
 have hz:(eg 2048 fun _=>false)=eg 2048 (Vo ss[i] 0):=mH fun j _=>by rw[Vo];simp
 rw[hz];generalize ss[i]=s at *;refine wa (Gb (g:=ma (oa call cg) (na 3 [1,5,6,7,8,9]))
  (fun k t=>t=⟨Jz S nl os i k,[.tok 2048 m nl,Ib F,Ib (eg 2048 (Vo s k))]⟩)
  s.parts.length (by unfold ua;omega) _ rfl ?_ ?_) (fun r h=>h.2)
 ·rintro k t hk rfl
  obtain⟨v,hv,S8,_⟩:=hP.parts.Pd hk []
  have a1:=hP.parts.dy hv
  have hm:=Dy S8.is S8.sz
  have hnx:=zU s hk;have e1:decide ((k:Int) < (s.parts.length:Int))=true:=Ea (by omega);have t2:IntKind.i64.wrap ((k:Int)+1)=((k+1:Nat):Int):=Aa (by omega)
  have hq:Ia (k:Int) 8:=by unfold Ia;omega
  have t1:((k:Int)).toNat=k:=by simp
  have pl:=ik (A:=[.tok 2048 m nl,Ib F,Ib (eg 2048 (Vo s k))]) (id:=2) (es:=eg 2048 (Vo s k)) rfl 0 (k * 256);rw[eab] at pl;have st:=JY (A:=[.tok 2048 m nl,Ib F,Ib (eg 2048 (Vo s k))]) (id:=2) (n:=2048) (off:=k * 256) (m:=256) (f:=Vo s k) (g:=lj s.parts[k]) rfl (by omega);rw[hnx,<-nW] at st;have st2:([.tok 2048 m nl,Ib F,Ib (eg 2048 (Vo s k))]:List ba).set 2 (Ib (eg 2048 (Vo s (k+1))))=[.tok 2048 m nl,Ib F,Ib (eg 2048 (Vo s (k+1)))]:=rfl
  rw[st2] at st;have c1:=uh F 3;have c2:=uh (eg 2048 (Vo s (k+1))) 3;have c0:qa 3 (.tok 2048 m nl)=some (.tok 2048 m nl):=rfl;have M8:∀ st:St,st=⟨Jz S nl os i (k+1:Nat),[.tok 2048 m nl,Ib F,Ib (eg 2048 (Vo s (k+1)))]⟩->LN (fun k t=>t=⟨Jz S nl os i k,[.tok 2048 m nl,Ib F,Ib (eg 2048 (Vo s k))]⟩)
   (fun r=>∃ E,r=(.exit 2,⟨E,[.tok 2048 m nl,Ib F,Ib (eg 2048 (Vo s s.parts.length))]⟩)/\E.get 1= .pv (.rp [S] 0)/\E.get 5= .uq 0 nl 2048 os/\E.get 6= .ptr 1 0/\E.get 7= .pv (i64 i)/\E.get 8= .ptr 2 0) k (.norm,st):=fun st h=>h
  generalize LN _ _ k=QQ at M8 ⊢;generalize Ib F=oF at *;generalize Ib (eg 2048 (Vo s k))=oT at *;generalize Ib (eg 2048 (Vo s (k+1)))=oT' at *;generalize vg (lj s.parts[k])=T at *;have O7:Ra (qa 3) [.tok 2048 m nl,oF,oT']=some [.tok 2048 m nl,oF,oT']:=by simp only[Ra,c0,c1,c2,Daa,Kaa]
  have Z7:∀ a b c:ba,([a,b,c]:List ba).take 3=[a,b,c]:=fun a b c=>rfl
  have d0:(0 < 3)=True:=by simp
  have d1:(1 < 3)=True:=by simp
  have d2:(2 < 3)=True:=by simp
  simp -implicitDefEqProofs only[SX,sevalprocAttr,-List.reduceReplicate,cg,fc,Wa,Vc,je,a0,a1,ln,e1,hm,Laa hq,t1,t2,pl,st,O7,Z7,d0,d1,d2,na,Ca,AV.cut,za,Jz];exact M8 _ rfl
 ·rintro t rfl
  have e1:decide ((s.parts.length:Int) < (s.parts.length:Int))=false:=Ga (by omega);generalize Ib (eg 2048 (Vo s s.parts.length))=oT;generalize Ib F=oF;generalize hQ:(fun r:Ex×St=>r.1.stop=true/\_)=Q;simp -implicitDefEqProofs only[SX,sevalprocAttr,-List.reduceReplicate,cg,fc,Wa,Vc,je,a0,ln,e1,Jz];subst hQ;exact⟨rfl,_,rfl,by simp[Tr.aa],by simp[Tr.aa],by simp[Tr.aa],by simp[Tr.aa],by simp[Tr.aa]⟩
theorem yP{i:Nat}(hi:i < 32):(Bc i).set (1+i) (.bool true)=Bc (i+1):=by
 rw[Nat.add_comm 1 i];unfold Bc tc;rw[Mac,mR _ hi]
 congr 1
 refine Hv fun x hx=> ?_
 by_cases h:x=i
 ·subst h;simp
 ·rw[taa h,decide_eq_decide];omega
def Hf(ss:List Ob):List PV:=ss.map fun s=> .agg (xA s)
theorem NS(call:Sa){S:PV}{ss:List Ob}{es:List PV}(hS:qb S ss es)(hw:ss.length<=32)(h8:∀ s∈ss,s.parts.length<=8):
 qd (fun r=>∃ E nl,r=(.exit 0,⟨E,[.tok 2048 ss.length nl,Ib (Bc ss.length)]⟩)/\E.get 1= .pv (.rp [S] 0)/\E.get 5= .uq 0 nl 2048 (Hf ss)/\E.get 6= .ptr 1 0)
  (ab (ma (oa call bg) (na 2 [1,5,6,7])) ua ⟨Kz S true [] 0,[.tok 2048 0 true,Ib (Bc 0)]⟩):=by
 have ln:=hS.Tb
 refine wa (Gb (g:=ma (oa call bg) (na 2 [1,5,6,7]))
  (fun i t=>∃ nl,t=⟨Kz S nl (Hf (ss.take i)) i,[.tok 2048 i nl,Ib (Bc i)]⟩)
  ss.length (by unfold ua;omega) _ ⟨true,rfl⟩ ?_ ?_) (fun r h=>h.2)
 ·rintro i t hi ⟨nl,rfl⟩
  have U8:=XT call hS hi (h8 _ (saa hi)) nl (Hf (ss.take i)) i (Bc (i+1));have T7:Hf (ss.take (i+1))=Hf (ss.take i)++[.agg (xA ss[i])]:=by
   have:ss.take (i+1)=ss.take i++[ss[i]]:=by simp
   rw[this,Hf,qac];rfl
  have I8:(Hf (ss.take i)).length=i:=by rw[Hf,paa,Lab];omega
  have e1:decide ((i:Int) < (ss.length:Int))=true:=Ea (by omega);have t2:=Za hi (show ss.length<=maxLen by unfold maxLen;omega);have hq:Ia (i:Int) 32:=by unfold Ia;omega
  have t1:((i:Int)).toNat=i:=by simp
  have m1:i * 1=i:=by omega
  have p1:=ik (A:=[.tok 2048 i nl,Ib (Bc i)]) (id:=1) (es:=Bc i) rfl 0 1;have p2:=ik (A:=[.tok 2048 i nl,Ib (Bc i)]) (id:=1) (es:=Bc i) rfl 1 i;rw[eab] at p1;have st:=Gz (A:=[.tok 2048 i nl,Ib (Bc i)]) (id:=1) (es:=Bc i) rfl (k:=1+i) (by rw[Bc,kh];omega) (e:= .bool true) rfl rfl;rw[yP (by omega)] at st;have st2:([.tok 2048 i nl,Ib (Bc i)]:List ba).set 1 (Ib (Bc (i+1)))=[.tok 2048 i nl,Ib (Bc (i+1))]:=rfl
  rw[st2] at st;have hz1:ba.box (List.map AV.pv (List.replicate 2048 (PV.bool false)))=Ib (eg 2048 fun _=>false):=by rw[XF]
  have hcz:(List.replicate 2048 (PV.bool false)).length=2048:=cac
  have hld:pa [.tok 2048 i nl,Ib (Bc (i+1)),Ib (xA ss[i])] true 2048 (.ptr 2 0)=some (.pv (.agg (xA ss[i]))):=vn (id:=2) rfl (lh _ _);have e8:=Ih (A:=[.tok 2048 i nl,Ib (Bc (i+1)),Ib (xA ss[i])]) (id:=0) (n:=i) (sz:=2048) (h:= .uq) (nl:=nl) (ag:=true) (bytes:=2048) (es:=Hf (ss.take i)) rfl I8.symm (by unfold eb;omega) (.agg (xA ss[i]))
  rw[<- T7,nac] at e8;have c1:=uh (Bc i) 3;have c1':=uh (Bc (i+1)) 3;have c2:=uh (Bc (i+1)) 2;have c3:=uh (eg 2048 fun _=>false) 3;have c0:∀ k n nl,qa k (.tok 2048 n nl)=some (.tok 2048 n nl):=fun k n nl=>rfl;have hon:=PN 2048 (Vo ss[i] 8);have hol:=lh 2048 (Vo ss[i] 8);have M8:∀ st:St,st=⟨Kz S false (Hf (ss.take (i+1))) (i+1:Nat),[.tok 2048 (i+1) false,Ib (Bc (i+1))]⟩->LN (fun i t=>∃ nl,t=⟨Kz S nl (Hf (ss.take i)) i,[.tok 2048 i nl,Ib (Bc i)]⟩)
   (fun r=>∃ E nl,r=(.exit 0,⟨E,[.tok 2048 ss.length nl,Ib (Bc ss.length)]⟩)/\E.get 1= .pv (.rp [S] 0)/\E.get 5= .uq 0 nl 2048 (Hf ss)/\E.get 6= .ptr 1 0) i (.norm,st):=fun st h=>⟨false,h⟩
  generalize LN _ _ i=QQ at M8 ⊢;have oak:Ra (qa 3) [.tok 2048 i nl,Ib (Bc (i+1)),Ib (eg 2048 fun _=>false)]=some [.tok 2048 i nl,Ib (Bc (i+1)),Ib (eg 2048 fun _=>false)]:=by simp only[Ra,c0,c1',c3,Daa,Kaa]
  have haa:Ra (qa 2) [.tok 2048 (i+1) false,Ib (Bc (i+1))]=some [.tok 2048 (i+1) false,Ib (Bc (i+1))]:=by simp only[Ra,c0,c2,Daa,Kaa]
  change ∀ e∈xA ss[i],_ at hon;change (xA ss[i]).length=2048 at hol
  generalize xA ss[i]=T at *;generalize Hf (ss.take i)=os at *;generalize Hf (ss.take (i+1))=os' at *;generalize hzs:List.replicate 2048 (PV.bool false)=zs at *
  have v8:((T.map AV.pv).all AV.one)=true:=by
   rw[aab];intro v hv;obtain⟨e,he,rfl⟩:=oab.1 hv
   exact hon e he
  have hsr:fa (zs.map AV.pv++[]) 0 (T.map AV.pv)=T.map AV.pv:=by have:=Uv (T.map AV.pv) (zs.map AV.pv) [] (by simp;omega);rw[Kab];simpa using this
  have hTl:(T.map AV.pv).length=2048:=by rw[paa,hol]
  have Taa:=Tf T;have htT:T.take 2048=T:=Zaa (by omega)
  have hle:(2048<=(zs.map AV.pv++[]).length)=True:=Laa (by rw[Kab,paa,hcz];exact waa _);generalize hoz:Ib (eg 2048 fun _=>false)=oz at *;generalize Ib (Bc i)=o1 at *;generalize Ib (Bc (i+1))=o1' at *;generalize hoT:Ib T=oT at *;have Z7:∀ a b c:ba,([a,b,c]:List ba).take 3=[a,b,c]:=fun a b c=>rfl
  have Z8:∀ a b c:ba,([a,b,c]:List ba).take 2=[a,b]:=fun a b c=>rfl
  have d0:(0 < 3)=True:=by simp
  have d1:(1 < 3)=True:=by simp
  have d2:(2 < 3)=True:=by simp
  have d02:(0 < 2)=True:=by simp
  have d12:(1 < 2)=True:=by simp
  simp -implicitDefEqProofs only[SP,WP,fa,sevalprocAttr,-List.reduceReplicate,bg,Db,fc,Wa,ln,e1,Laa hq,t1,m1,p1,p2,st,hzs,hz1,oak,Z7,d0,d1,d2,na,Ca,AV.cut,za,Kz];refine wa U8 ?_;rintro r ⟨E,rfl,g1,g5,g6,g7,g8⟩;simp -implicitDefEqProofs only[SP,WP,fa,sevalprocAttr,-List.reduceReplicate,g1,g5,g6,g7,g8,hld,hzs,hTl,v8,hsr,e8,Taa,htT,hle,t2,haa,Z8,d02,d12,na,Ca,AV.cut,za];exact M8 _ rfl
 ·rintro t ⟨nl,rfl⟩
  rw[Fab];have e1:decide ((ss.length:Int) < (ss.length:Int))=false:=Ga (by omega);generalize Ib (Bc ss.length)=oF;generalize Hf ss=os;generalize hQ:(fun r:Ex×St=>r.1.stop=true/\_)=Q;simp -implicitDefEqProofs only[SX,sevalprocAttr,-List.reduceReplicate,bg,fc,Wa,ln,e1,Kz];subst hQ;exact⟨rfl,_,nl,rfl,by simp[Tr.aa],by simp[Tr.aa],by simp[Tr.aa]⟩
def Ag(f:Nat->Bool):Nat->Bool
 |0=>false
 |n+1=>Ag f n||f n
def Fm(ss:List Ob)(a:Al)(x j:Nat):Bool:=a.2.toNat.testBit j&&(match ss[j]? with | some s=>Jo s a.1 x | none=>false)
def sr(ss:List Ob)(a:Al)(x j:Nat):Bool:=Fm ss a x j&&(match ss[j]? with | some s=>((s.parts.length:Int)==(a.1:Int)+1) | none=>false)
abbrev sO(S:PV)(nl E9:Bool)(os es rs:List PV)(n x i:Int)(so en:Bool):Tr:=
 ((((((((((Tr.lf.set 18 (.pv (i64 i))).set 17 (.pv (.bool en))).set 16 (.pv (.bool so))).set 15 (.ptr 5 0)).set 14 (.pv (i64 x))).set 13 (.ptr 4 0)).set 12 (.pv (i64 n))).set 11 (.uq 3 E9 256 rs)).set 10 (.uq 2 false 33 es)).set 5 (.uq 0 nl 2048 os)).set 1 (.pv (.rp [S] 0))
theorem tO(d:Int)(f:Nat->Bool){i:Nat}(h:i < 32):(tc d f)[1+i]? =some (.bool (f i)):=by
 rw[Nat.add_comm,tc,mab,mL f h]
theorem xF(H:List ba)(id:Nat)(nl:Bool){l:List Al}{i:Nat}{a:Al}(ha:l[i]? =some a):ta H 33 (.uq id nl 33 (l.map Af)) (i:Int)=some (.pv (.rp (tc a.1 a.2.toNat.testBit) 0)):=by
 have hi:=(qaa.1 ha).1
 simp only[ta];rw[if_pos (by refine⟨trivial,?_⟩;unfold Ia;simp;omega)];simp[ha,Af,PV.cells]
theorem wT(H:List ba)(id:Nat)(nl:Bool){ss:List Ob}{i:Nat}(hi:i < ss.length):ta H 2048 (.uq id nl 2048 (Hf ss)) (i:Int)=some (.pv (.rp (xA ss[i]) 0)):=by
 simp only[ta];rw[if_pos (by refine⟨trivial,?_⟩;unfold Ia Hf;simp;omega)];simp[hi,Hf,PV.cells]
theorem Tj(H:List ba)(row:List PV)(o d:Nat):place H d (.pv (.rp row o))=some (.pv (.rp row (o+d))):=rfl
theorem UB{row:List PV}{k:Nat}{e:PV}(h:row[k]? =some e)(H:List ba):pa H false 1 (.pv (.rp row k))=some (.pv e):=by
 simp only[pa,Im,Baa,if_false,h,Kaa]
theorem RZ(call:Sa){S:PV}{ss:List Ob}{es:List PV}(hS:qb S ss es)(hw:ss.length<=32)(h8:∀ s∈ss,s.parts.length<=8){B7:List Al}{n x:Nat}{a:Al}(ha:B7[n]? =some a)(hx:x < 256)
 (Ba:∀ i s,ss[i]? =some s->a.2.toNat.testBit i=true->a.1 < s.parts.length) (hd:a.1<=64)
 (nl E9:Bool) (rs:List PV) (o0 o1 o2 o3 o4:ba) (hc:Ra (qa 6) [o0,o1,o2,o3,o4]=some [o0,o1,o2,o3,o4]):
 qd (fun r=>∃ E,r=(.exit 8,⟨E,[o0,o1,o2,o3,o4,Ib (tc ((a.1:Int)+1) fun j=>decide (j < ss.length)&&Fm ss a x j)]⟩)/\E.get 1= .pv (.rp [S] 0)/\E.get 5= .uq 0 nl 2048 (Hf ss)/\E.get 10= .uq 2 false 33 (B7.map Af)/\E.get 11= .uq 3 E9 256 rs/\E.get 12= .pv (i64 n)/\E.get 13= .ptr 4 0/\E.get 14= .pv (i64 x)/\E.get 15= .ptr 5 0/\
  E.get 16= .pv (.bool (Ag (Fm ss a x) ss.length))/\E.get 17= .pv (.bool (Ag (sr ss a x) ss.length)))
  (ab (ma (oa call Gd) (na 6 [1,5,10,11,12,13,14,15,16,17,18])) ua ⟨sO S nl E9 (Hf ss) (B7.map Af) rs n x 0 false false,[o0,o1,o2,o3,o4,Ib (tc ((a.1:Int)+1) fun _=>false)]⟩):=by
 have ln:=hS.Tb
 have a0:(tc ((a.1:Int)+1) fun _=>false)=tc ((a.1:Int)+1) fun j=>decide (j < 0)&&Fm ss a x j:=by simp
 rw[a0];refine wa (Gb (g:=ma (oa call Gd) (na 6 [1,5,10,11,12,13,14,15,16,17,18]))
  (fun i t=>t=⟨sO S nl E9 (Hf ss) (B7.map Af) rs n x i (Ag (Fm ss a x) i) (Ag (sr ss a x) i),[o0,o1,o2,o3,o4,Ib (tc ((a.1:Int)+1) fun j=>decide (j < i)&&Fm ss a x j)]⟩)
  ss.length (by unfold ua;omega) _ rfl ?_ ?_) (fun r h=>h.2)
 ·rintro i t hi rfl
  obtain⟨P,ps,hP,b0⟩:=hS.Pd hi
  have lP:=hP.parts.Tb
  have hsi:ss[i]? =some ss[i]:=caa hi;have Lah:=Ba i _ hsi;have h8i:=h8 _ (saa hi);have i1:=fun H=>xF H 2 false ha;have i2:=fun H=>wT H 0 nl hi;have l1:=UB (tO (a.1:Int) a.2.toNat.testBit (i:=i) (by omega));have l0:=UB (show (tc (a.1:Int) a.2.toNat.testBit)[0]? =some (i64 a.1) from rfl);have l2:a.1 < ss[i].parts.length->∀ H,pa H false 1 (.pv (.rp (xA ss[i]) (a.1 * 256+x)))=some (.pv (.bool (Jo ss[i] a.1 x))):=by intro hlt;refine UB ?_;rw[xA,xB _ (by omega),Vo,show (a.1 * 256+x) / 256=a.1 by omega,show (a.1 * 256+x) % 256=x by omega,decide_eq_true (show a.1 < 8 by omega),uab]
  have onE:Fm ss a x i=(a.2.toNat.testBit i&&Jo ss[i] a.1 x):=by rw[Fm,hsi]
  have enE:sr ss a x i=(Fm ss a x i&&((ss[i].parts.length:Int)==(a.1:Int)+1)):=by rw[sr,hsi]
  have p1:=ik (A:=[o0,o1,o2,o3,o4,Ib (tc ((a.1:Int)+1) fun j=>decide (j < i)&&Fm ss a x j)]) (id:=5) (es:=tc ((a.1:Int)+1) fun j=>decide (j < i)&&Fm ss a x j) rfl 0 1;have p2:=ik (A:=[o0,o1,o2,o3,o4,Ib (tc ((a.1:Int)+1) fun j=>decide (j < i)&&Fm ss a x j)]) (id:=5) (es:=tc ((a.1:Int)+1) fun j=>decide (j < i)&&Fm ss a x j) rfl 1 i;rw[eab] at p1;have st:=Gz (A:=[o0,o1,o2,o3,o4,Ib (tc ((a.1:Int)+1) fun j=>decide (j < i)&&Fm ss a x j)]) (id:=5) (es:=tc ((a.1:Int)+1) fun j=>decide (j < i)&&Fm ss a x j) rfl (k:=1+i) (by rw[kh];omega) (e:= .bool (Fm ss a x i)) rfl rfl;have F9:(tc ((a.1:Int)+1) fun j=>decide (j < i)&&Fm ss a x j).set (1+i) (.bool (Fm ss a x i))=tc ((a.1:Int)+1) fun j=>decide (j < i+1)&&Fm ss a x j:=by
   rw[Nat.add_comm 1 i];unfold tc;rw[Mac,mR _ (by omega)]
   congr 1
   refine Hv fun j hj=> ?_
   by_cases h:j=i
   ·subst h;simp
   ·rw[taa h]
    congr 1
    rw[decide_eq_decide];omega
  rw[F9] at st;have st2:([o0,o1,o2,o3,o4,Ib (tc ((a.1:Int)+1) fun j=>decide (j < i)&&Fm ss a x j)]:List ba).set 5 (Ib (tc ((a.1:Int)+1) fun j=>decide (j < i+1)&&Fm ss a x j))=[o0,o1,o2,o3,o4,Ib (tc ((a.1:Int)+1) fun j=>decide (j < i+1)&&Fm ss a x j)]:=rfl
  rw[st2] at st;have q1:=ik (A:=[o0,o1,o2,o3,o4,Ib (tc ((a.1:Int)+1) fun j=>decide (j < i+1)&&Fm ss a x j)]) (id:=5) (es:=tc ((a.1:Int)+1) fun j=>decide (j < i+1)&&Fm ss a x j) rfl 0 1;have q0:=ik (A:=[o0,o1,o2,o3,o4,Ib (tc ((a.1:Int)+1) fun j=>decide (j < i+1)&&Fm ss a x j)]) (id:=5) (es:=tc ((a.1:Int)+1) fun j=>decide (j < i+1)&&Fm ss a x j) rfl 0 0;have q2:=ik (A:=[o0,o1,o2,o3,o4,Ib (tc ((a.1:Int)+1) fun j=>decide (j < i+1)&&Fm ss a x j)]) (id:=5) (es:=tc ((a.1:Int)+1) fun j=>decide (j < i+1)&&Fm ss a x j) rfl 1 i;rw[eab] at q1 q0;have k1:=iF (A:=[o0,o1,o2,o3,o4,Ib (tc ((a.1:Int)+1) fun j=>decide (j < i+1)&&Fm ss a x j)]) (id:=5) (es:=tc ((a.1:Int)+1) fun j=>decide (j < i+1)&&Fm ss a x j) rfl (tO _ _ (i:=i) (by omega));have k0:=iF (A:=[o0,o1,o2,o3,o4,Ib (tc ((a.1:Int)+1) fun j=>decide (j < i+1)&&Fm ss a x j)]) (id:=5) (es:=tc ((a.1:Int)+1) fun j=>decide (j < i+1)&&Fm ss a x j) rfl (k:=0) (e:=i64 ((a.1:Int)+1)) rfl;rw[decide_eq_true (Uad i),uab] at k1;have c5:=uh (tc ((a.1:Int)+1) fun j=>decide (j < i+1)&&Fm ss a x j) 6;have e1:decide ((i:Int) < (ss.length:Int))=true:=Ea (by omega);have t2:=Za hi (show ss.length<=maxLen by unfold maxLen;omega);have hq:Ia (i:Int) 32:=by unfold Ia;omega
  have hqx:Ia (x:Int) 256:=by unfold Ia;omega
  have t1:∀ i:Nat,((i:Int)).toNat=i:=fun i=>by simp
  have m1:∀ i:Nat,i * 1=i:=fun i=>by omega
  have z1:∀ i:Nat,0+i=i:=fun i=>by omega
  have M8:∀ st:St,st=⟨sO S nl E9 (Hf ss) (B7.map Af) rs n x (i+1:Nat) (Ag (Fm ss a x) i||Fm ss a x i) (Ag (sr ss a x) i||sr ss a x i),[o0,o1,o2,o3,o4,Ib (tc ((a.1:Int)+1) fun j=>decide (j < i+1)&&Fm ss a x j)]⟩->
   LN (fun i t=>t=⟨sO S nl E9 (Hf ss) (B7.map Af) rs n x i (Ag (Fm ss a x) i) (Ag (sr ss a x) i),[o0,o1,o2,o3,o4,Ib (tc ((a.1:Int)+1) fun j=>decide (j < i)&&Fm ss a x j)]⟩)
   (fun r=>∃ E,r=(.exit 8,⟨E,[o0,o1,o2,o3,o4,Ib (tc ((a.1:Int)+1) fun j=>decide (j < ss.length)&&Fm ss a x j)]⟩)/\E.get 1= .pv (.rp [S] 0)/\E.get 5= .uq 0 nl 2048 (Hf ss)/\E.get 10= .uq 2 false 33 (B7.map Af)/\E.get 11= .uq 3 E9 256 rs/\E.get 12= .pv (i64 n)/\E.get 13= .ptr 4 0/\E.get 14= .pv (i64 x)/\E.get 15= .ptr 5 0/\
    E.get 16= .pv (.bool (Ag (Fm ss a x) ss.length))/\E.get 17= .pv (.bool (Ag (sr ss a x) ss.length))) i (.norm,st):=fun st h=>h
  generalize LN _ _ i=QQ at M8 ⊢;generalize (tc ((a.1:Int)+1) fun j=>decide (j < i)&&Fm ss a x j)=Y at *;generalize (tc ((a.1:Int)+1) fun j=>decide (j < i+1)&&Fm ss a x j)=Y' at *;generalize tc (a.1:Int) a.2.toNat.testBit=row at *
  generalize Ib Y=oY at *;generalize Ib Y'=oY' at *;have O7:Ra (qa 6) [o0,o1,o2,o3,o4,oY']=some [o0,o1,o2,o3,o4,oY']:=by
   simp only[Ra,uaa,faa] at hc;simp only[Ra];obtain⟨_,h0,_,⟨_,h1,_,⟨_,h2,_,⟨_,h3,_,⟨_,h4,_⟩,_⟩,_⟩,_⟩,hh⟩:=hc
   simp_all
  have Z7:∀ a b c d e f:ba,([a,b,c,d,e,f]:List ba).take 6=[a,b,c,d,e,f]:=fun a b c d e f=>rfl
  have d0:(0 < 6)=True:=by simp
  have d2:(2 < 6)=True:=by simp
  have d3:(3 < 6)=True:=by simp
  have d4:(4 < 6)=True:=by simp
  have d5:(5 < 6)=True:=by simp
  generalize xA ss[i]=J7 at *;generalize ss[i]=s at *;generalize Hf ss=os at *;generalize B7.map Af=se at *
  generalize Ag (Fm ss a x) i=so at *;generalize Ag (sr ss a x) i=en at *;generalize hle:((s.parts.length:Int)==(a.1:Int)+1)=le at *;rw[enE] at M8;rw[onE] at st k1 M8;generalize hbb:a.2.toNat.testBit i=bb at *
  generalize Jo s a.1 x=mm at *
  have hm6:(10<=20)=True:=by simp
  cases bb with
  |false=>
   simp only[Fac,nae] at st k1 M8;cases so <;> cases en <;>
   ·simp -implicitDefEqProofs only[SX,sevalprocAttr,Gd,fc,Wa,Tj,ln,e1,t2,i1,i2,l0,l1,Laa hq,Laa hqx,t1,m1,z1,p1,p2,st,q0,q1,q2,k0,k1,O7,Z7,d0,d2,d3,d4,d5,na,Ca,AV.cut,za,sO]
    exact M8 _ rfl
  |true=>
   have l2':=l2 (Lah rfl);have hqd:Ia (a.1:Int) 8:=by have:=Lah rfl;unfold Ia;omega
   simp only[uab] at st k1 M8;cases mm with
   |false=>
    simp only[Fac,nae] at M8;cases so <;> cases en <;>
    ·simp -implicitDefEqProofs only[SX,sevalprocAttr,Gd,fc,Wa,Tj,ln,e1,t2,i1,i2,l0,l1,l2',Laa hq,Laa hqx,Laa hqd,t1,m1,z1,p1,p2,st,q0,q1,q2,k0,k1,O7,Z7,d0,d2,d3,d4,d5,na,Ca,AV.cut,za,sO]
     exact M8 _ rfl
   |true=>
    simp only[uab,Bool.or_true] at M8;cases so <;> cases en <;>
    ·simp -implicitDefEqProofs only[SX,sevalprocAttr,Gd,fc,Wa,Vc,je,Tj,ln,lP,b0,e1,t2,i1,i2,l0,l1,l2',Laa hq,Laa hqx,Laa hqd,t1,m1,z1,p1,p2,st,q0,q1,q2,k0,k1,hle,O7,Z7,d0,d2,d3,d4,d5,na,Ca,AV.cut,za,sO]
     exact M8 _ rfl
 ·rintro t rfl
  have e1:decide ((ss.length:Int) < (ss.length:Int))=false:=Ga (by omega);generalize Ib (tc ((a.1:Int)+1) fun j=>decide (j < ss.length)&&Fm ss a x j)=oF;generalize Hf ss=os;generalize B7.map Af=se
  generalize Ag (Fm ss a x) ss.length=so
  generalize Ag (sr ss a x) ss.length=en
  generalize hQ:(fun r:Ex×St=>r.1.stop=true/\_)=Q;simp -implicitDefEqProofs only[SX,sevalprocAttr,Gd,fc,Wa,ln,e1,sO];subst hQ;exact⟨rfl,_,rfl,by simp[Tr.aa],by simp[Tr.aa],by simp[Tr.aa],by simp[Tr.aa],by simp[Tr.aa],by simp[Tr.aa],by simp[Tr.aa],by simp[Tr.aa],by simp[Tr.aa],by simp[Tr.aa]⟩
theorem PJ{x:Int}:∀ {l:List (Int×Int)}{last n:Int},Pa 255 last l=true->((Md x n l).2=true↔Qk x l)
 | [],last,n,h=>by simp[Md,Qn]
 |p::l,last,n,h=>by
  have hp:=Vn h p (by simp);have h2:=h;simp only[Pa,daa] at h2;rw[Md,bn]
  by_cases h1:x < p.1
  ·rw[if_pos h1]
   simp only[Baa,false_iff];rintro (h3 | h3)
   ·omega
   ·have:=Rp h2.2 h3;omega
  ·rw[taa h1]
   by_cases h3:x<=p.2
   ·rw[if_pos h3];simp;omega
   ·rw[taa h3,PJ h2.2]
    constructor
    ·exact .inr
    ·rintro (h4 | h4)
     ·omega
     ·exact h4
theorem VI(l:List (Int×Int))(x:Nat):nQ l x=lj l x:=by
 unfold nQ AA lj
 by_cases h:Pa 255 (-2) l=true
 ·rw[if_pos h,h,uab,fae,PJ h,sw]
 ·rw[taa h]
  have:Pa 255 (-2) l=false:=by simpa using h
  rw[this];rfl
theorem jy(s:Ob)(d x:Nat):Lv s d x=Jo s d x:=by
 unfold Lv Jo;cases s.parts[d]? with
 |none=>rfl
 |some l=>exact VI l x
theorem Zu(f:Nat->Bool):∀ n,Ag f n=true↔∃ j,j < n/\f j=true
 |0=>by simp[Ag]
 |n+1=>by
  rw[Ag,Oac,Zu f n];constructor
  ·rintro (⟨j,h1,h2⟩ | h)
   ·exact⟨j,by omega,h2⟩
   ·exact⟨n,by omega,h⟩
  ·rintro⟨j,h1,h2⟩
   by_cases h:j=n
   ·subst h;exact .inr h2
   ·exact .inl ⟨j,by omega,h2⟩
theorem vS{ss:List Ob}{a:Al}{x j:Nat}(h:ss.length<=j):Fm ss a x j=false:=by
 rw[Fm,Yaa h,Bool.and_false]
structure uE(ss:List Ob)(a:Al)(x:Nat)(m:Nat):Prop where
 fst:(Th x a.2 a.1 0 ss (0,false)).1=(m:Int)
 lt:m < 4294967296
 bit:∀ j,m.testBit j=Fm ss a x j
 ends:(Th x a.2 a.1 0 ss (0,false)).2=Ag (sr ss a x) ss.length
 ex:m≠0↔Ag (Fm ss a x) ss.length=true
theorem iW{ss:List Ob}{a:Al}(hb:rW a)(hw:ss.length<=32)(x:Nat):∃ m,uE ss a x m:=by
 obtain⟨d,_⟩:=a;obtain⟨b,rfl,hb⟩:=hb;have hN:Th x (b:Int) d 0 ss (0,false)=(((Mv x b d 0 ss (0,false)).1:Int),(Mv x b d 0 ss (0,false)).2):=YQ (x:=x) (d:=d) hb ss 0 (0,false) (by omega) (by decide);have naa:∀ j,(Mv x b d 0 ss (0,false)).1.testBit j=Fm ss (d,(b:Int)) x j:=by
  intro j;rw[oD];simp only[Nat.zero_testBit,Iac,decide_true,uab,Tad,wae,Fm,Eaa];cases ss[j]? with
  |none=>simp
  |some s=>simp only[jy]
 refine⟨(Mv x b d 0 ss (0,false)).1,?_,RK ss 0 (0,false) (by omega) (by decide),naa,?_,?_⟩
 ·show (Th x (b:Int) d 0 ss (0,false)).1=_
  rw[hN]
 ·show (Th x (b:Int) d 0 ss (0,false)).2=_
  rw[hN];show (Mv x b d 0 ss (0,false)).2=_
  rw[FC,Tad,fae,Vad,Zu];constructor
  ·rintro⟨⟨s,j⟩,h1,h2⟩
   rw[List.mk_mem_zipIdx_iff_getElem?] at h1;have hj:=(qaa.1 h1).1
   refine⟨j,hj,?_⟩;simp only[jy,daa,beq_iff_eq] at h2;rw[sr,Fm,h1];simp only[Eaa,daa,beq_iff_eq];exact⟨h2.1,by omega⟩
  ·rintro⟨j,hj,h2⟩
   have h1:ss[j]? =some ss[j]:=caa hj;rw[sr,Fm,h1] at h2;simp only[Eaa,daa,beq_iff_eq] at h2;refine⟨(ss[j],j),by rw[List.mk_mem_zipIdx_iff_getElem?];exact h1,?_⟩;simp only[jy,daa,beq_iff_eq];exact⟨h2.1,by omega⟩
 ·rw[Zu]
  constructor
  ·intro h
   apply eae;intro hn;apply h;apply Nat.eq_of_testBit_eq
   intro j;rw[naa,Nat.zero_testBit]
   by_cases hj:j < ss.length
   ·cases hc:Fm ss (d,(b:Int)) x j with
    |false=>rfl
    |true=>exact absurd ⟨j,hj,hc⟩ hn
   ·exact vS (by omega)
  ·rintro⟨j,hj,h⟩ h0
   rw[<- naa,h0,Nat.zero_testBit] at h;cases h
theorem uE.enc{ss:List Ob}{a:Al}{x m:Nat}(h:uE ss a x m):tc ((a.1:Int)+1) (fun j=>decide (j < ss.length)&&Fm ss a x j)=tc ((a.1+1:Nat):Int) m.testBit:=by
 have:((a.1+1:Nat):Int)=(a.1:Int)+1:=by omega
 rw[this];unfold tc
 congr 1
 refine Hv fun j hj=> ?_;rw[h.bit]
 by_cases hj:j < ss.length
 ·rw[decide_eq_true hj,uab]
 ·rw[decide_eq_false hj,Fac,vS (by omega)]
theorem uE.F6{ss:List Ob}{a:Al}{x m:Nat}(h:uE ss a x m):rW (a.1+1,(m:Int)):=⟨m,rfl,h.lt⟩
theorem uE.step{ss:List Ob}{a:Al}{x m:Nat}(h:uE ss a x m)(B7:List Al):
 rh ss a x B7=if Ag (Fm ss a x) ss.length=false then some (B7,-2)
  else if Ag (sr ss a x) ss.length=true then some (B7,-1)
  else match Tm (a.1+1,(m:Int)) B7 0 with
   |some k=>some (B7,(k:Int))
   |none=>if B7.length < 64 then some (B7++[(a.1+1,(m:Int))],(B7.length:Int)) else none:=by
 unfold rh;rw[h.ends,h.fst];have:((m:Int)=0)=(Ag (Fm ss a x) ss.length=false):=by
  apply propext;have:=h.ex
  cases hc:Ag (Fm ss a x) ss.length with
  |true=>rw[hc] at this;simp;have:=this.2 rfl;omega
  |false=>rw[hc] at this;simp;exact eae fun hn=>by have:=this.1 hn;cases this
 by_cases h1:Ag (Fm ss a x) ss.length=false
 ·rw[if_pos h1,if_pos (this.mpr h1)]
 ·rw[taa h1,taa (fun h=>h1 (this.mp h))]
  by_cases h2:Ag (sr ss a x) ss.length=true
  ·rw[if_pos h2,if_pos h2]
  ·rw[taa h2,taa h2]
   cases Tm (a.1+1,(m:Int)) B7 0 <;> rfl
abbrev MK(S:PV)(nl E9:Bool)(os es rs:List PV)(n x:Int):Tr:=
 ((((((Tr.lf.set 14 (.pv (i64 x))).set 13 (.ptr 4 0)).set 12 (.pv (i64 n))).set 11 (.uq 3 E9 256 rs)).set 10 (.uq 2 false 33 es)).set 5 (.uq 0 nl 2048 os)).set 1 (.pv (.rp [S] 0))
theorem pW:([PV.int .i64 0,PV.bool false,PV.bool false,PV.bool false,PV.bool false,PV.bool false,PV.bool false,PV.bool false,PV.bool false,PV.bool false,PV.bool false,PV.bool false,PV.bool false,PV.bool false,PV.bool false,PV.bool false,PV.bool false,PV.bool false,PV.bool false,PV.bool false,PV.bool false,PV.bool false,PV.bool false,PV.bool false,PV.bool false,PV.bool false,PV.bool false,PV.bool false,PV.bool false,PV.bool false,PV.bool false,PV.bool false,PV.bool false]:List PV)=tc 0 fun _=>false:=rfl
theorem pY(d e:Int)(f:Nat->Bool):((tc d f).map AV.pv).set 0 (.pv (i64 e))=(tc e f).map AV.pv:=rfl
theorem AK{es:List PV}(h:∀ e∈es,(AV.pv e).one=true):(es.map AV.pv).all AV.one=true:=by
 rw[aab];intro v hv;obtain⟨e,he,rfl⟩:=oab.1 hv
 exact h e he
theorem Kw{es zs:List PV}(h:es.length=zs.length):fa (zs.map AV.pv++[]) 0 (es.map AV.pv)=es.map AV.pv:=by
 have:=Uv (es.map AV.pv) (zs.map AV.pv) [] (by simp;omega);rw[Kab];simpa using this
section
variable (call:Sa){S:PV}{ss:List Ob}{es:List PV}(hS:qb S ss es)(hw:ss.length<=32)(h8:∀ s∈ss,s.parts.length<=8){B7:List Al}{n x:Nat}{a:Al}(ha:B7[n]? =some a)(hx:x < 256)
 (Ba:zo ss B7) (hd:a.1<=64)
 (nl E9:Bool) (rs:List PV) (o0 o1 o3:ba) (h0:∀ n,qa n o0=some o0) (h1:∀ n,qa n o1=some o1) (h3:∀ n,qa n o3=some o3) {row:List Int} (J7:row.length=256)
include hS hw h8 ha hx Ba hd h0 h1 h3 J7
set_option maxRecDepth 8000 in
theorem aI:
 qd (fun r=>(∃ p,rh ss a x B7=some p/\r=(.norm,⟨MK S nl E9 (Hf ss) (p.1.map Af) rs n (x+1:Nat),[o0,o1,.tok 33 p.1.length false,o3,Ib ((row.set x p.2).map i64)]⟩))\/
  (rh ss a x B7=none/\∃ E H,r=(.ret,⟨E,H⟩)/\E.get 2= .pv .ga/\E.get 3= .pv .ga/\E.get 4= .pv (.bool false)))
  (ma (oa call He) (na 5 [1,5,10,11,12,13,14]) ⟨MK S nl E9 (Hf ss) (B7.map Af) rs n x,[o0,o1,.tok 33 B7.length false,o3,Ib (row.map i64)]⟩):=by
 obtain⟨_,b,hb,H9,rak⟩:=Ba.2 n a ha
 have hba:rW a:=⟨b,hb,H9⟩;have v8:∀ c∈B7,rW c:=by
  intro c hc;obtain⟨k,hk,rfl⟩:=Eab hc;obtain⟨_,b,hb,H9,_⟩:=Ba.2 k _ (caa hk)
  exact⟨b,hb,H9⟩
 have Raf:=Ba.1
 obtain⟨m,hm⟩:=iW (x:=x) hba hw;have w8:=hm.step B7
 have hcR:∀ n (r:List Int),qa n (Ib (r.map i64))=some (Ib (r.map i64)):=fun n r=>uh _ n;have c2:∀ k n,qa k (.tok 33 n false)=some (.tok 33 n false):=fun k n=>rfl;have hc6:Ra (qa 6) [o0,o1,.tok 33 B7.length false,o3,Ib (row.map i64)]=some [o0,o1,.tok 33 B7.length false,o3,Ib (row.map i64)]:=by simp only[Ra,h0,h1,h3,c2,hcR,Daa,Kaa]
 have hl4:=RZ call hS hw h8 ha hx (fun i s hs ht=>rak i s hs (by rw[hb] at ht;simpa using ht)) hd nl E9 rs o0 o1 (.tok 33 B7.length false) o3 (Ib (row.map i64)) hc6;rw[hm.enc] at hl4;have i1:=fun H=>xF H 2 false ha;have l0:=UB (show (tc (a.1:Int) a.2.toNat.testBit)[0]? =some (i64 a.1) from rfl);have e1:decide ((x:Int) < 256)=true:=Ea (by omega);have t2:IntKind.i64.wrap ((x:Int)+1)=((x+1:Nat):Int):=Aa (by omega)
 have t3:IntKind.i64.wrap ((a.1:Int)+1)=(a.1:Int)+1:=Aa (by omega)
 have hq:Ia (x:Int) 256:=by unfold Ia;omega
 have t1:∀ i:Nat,((i:Int)).toNat=i:=fun i=>by simp
 have m1:∀ i:Nat,i * 1=i:=fun i=>by omega
 have z1:∀ i:Nat,0+i=i:=fun i=>by omega
 have zl:=kh 0 fun _=>false;have f1:(0+1<=((tc 0 fun _=>false).map AV.pv).length)=True:=Laa (by rw[paa,zl];omega);have f1':(1<=((tc 0 fun _=>false).map AV.pv).length)=True:=Laa (by rw[paa,zl];omega);have f2:=pY 0 ((a.1:Int)+1) fun _=>false;have f3:=Tf (tc ((a.1:Int)+1) fun _=>false);have st0:Ha [o0,o1,.tok 33 B7.length false,o3,Ib (row.map i64),Ib (tc 0 fun _=>false)] 33 (.ptr 5 0) (.pv (.agg (tc ((a.1:Int)+1) fun _=>false)))=some [o0,o1,.tok 33 B7.length false,o3,Ib (row.map i64),Ib (tc ((a.1:Int)+1) fun _=>false)]:=
  Cr (id:=5) rfl zl (kh _ _) (Gy _ _)
 have tak:∀ Y:List PV,Ra (qa 6) [o0,o1,.tok 33 B7.length false,o3,Ib (row.map i64),Ib Y]=some [o0,o1,.tok 33 B7.length false,o3,Ib (row.map i64),Ib Y]:=by intro Y;simp only[Ra,h0,h1,h3,c2,hcR,uh Y 6,Daa,Kaa]
 have Mah:=tak (tc ((a.1:Int)+1) fun _=>false);have aaa:∀ (k:Nat)(r:List Int),Ra (qa 5) [o0,o1,.tok 33 k false,o3,Ib (r.map i64)]=some [o0,o1,.tok 33 k false,o3,Ib (r.map i64)]:=by intro k r;simp only[Ra,h0,h1,h3,c2,hcR,Daa,Kaa]
 have uak:∀ a b c d e f:ba,([a,b,c,d,e,f]:List ba).take 6=[a,b,c,d,e,f]:=fun a b c d e f=>rfl
 have oaa:∀ a b c d e f:ba,([a,b,c,d,e,f]:List ba).take 5=[a,b,c,d,e]:=fun a b c d e f=>rfl
 have d6:∀ k:Fin 6,((k:Nat) < 6)=True:=by intro k;simp
 have d60:(0 < 6)=True:=by simp
 have d62:(2 < 6)=True:=by simp
 have d63:(3 < 6)=True:=by simp
 have d64:(4 < 6)=True:=by simp
 have d65:(5 < 6)=True:=by simp
 have d50:(0 < 5)=True:=by simp
 have d52:(2 < 5)=True:=by simp
 have d53:(3 < 5)=True:=by simp
 have d54:(4 < 5)=True:=by simp
 have pl:∀ (k:Nat)(r:List Int)(Y:List PV),place [o0,o1,.tok 33 k false,o3,Ib (r.map i64),Ib Y] x (.ptr 4 0)=some (.ptr 4 x):=by intro k r Y;have:=ik (A:=[o0,o1,.tok 33 k false,o3,Ib (r.map i64),Ib Y]) (id:=4) (es:=r.map i64) rfl 0 x;rw[this,eab]
 have st:∀ (k:Nat)(r:List Int)(Y:List PV)(v:Int),r.length=256->Ha [o0,o1,.tok 33 k false,o3,Ib (r.map i64),Ib Y] 1 (.ptr 4 x) (.pv (i64 v))=some [o0,o1,.tok 33 k false,o3,Ib ((r.set x v).map i64),Ib Y]:=by intro k r Y v hr;have:=Gz (A:=[o0,o1,.tok 33 k false,o3,Ib (r.map i64),Ib Y]) (id:=4) (es:=r.map i64) rfl (k:=x) (by rw[paa];omega) (e:=i64 v) rfl rfl;rw[this,xae];rfl
 have F8:∀ v,((row.set x (-2)).set x v)=row.set x v:=fun v=>by rw[List.set_set]
 have st1:=st B7.length row (tc ((a.1+1:Nat):Int) m.testBit) (-2) J7
 have st2:=fun (k:Nat) v=>st k (row.set x (-2)) (tc ((a.1+1:Nat):Int) m.testBit) v (by simp[J7]);simp only[F8] at st2;have pl1:=pl B7.length row (tc ((a.1+1:Nat):Int) m.testBit)
 have pl2:=fun k=>pl k (row.set x (-2)) (tc ((a.1+1:Nat):Int) m.testBit);have hfd:=AY Raf hm.F6 v8
 have Saf:∀ (k:Nat)(r:List Int),pa [o0,o1,.tok 33 k false,o3,Ib (r.map i64),Ib (tc ((a.1+1:Nat):Int) m.testBit)] true 33 (.ptr 5 0)=some (.pv (.agg (tc ((a.1+1:Nat):Int) m.testBit))):=fun k r=>vn (id:=5) rfl (kh _ _);have hYl:((tc ((a.1+1:Nat):Int) m.testBit).map AV.pv).length=33:=by rw[paa,kh]
 have Nah:=kh ((a.1+1:Nat):Int) m.testBit
 have hYr:fa ((tc 0 fun _=>false).map AV.pv++[]) 0 ((tc ((a.1+1:Nat):Int) m.testBit).map AV.pv)=(tc ((a.1+1:Nat):Int) m.testBit).map AV.pv:=Kw (by rw[kh,kh])
 have hYa:=AK (Gy ((a.1+1:Nat):Int) m.testBit);have hYp:=Tf (tc ((a.1+1:Nat):Int) m.testBit);have hYt:(tc ((a.1+1:Nat):Int) m.testBit).take 33=tc ((a.1+1:Nat):Int) m.testBit:=Zaa (by rw[kh];exact waa _)
 have f4:(33<=((tc 0 fun _=>false).map AV.pv++[]).length)=True:=Laa (by rw[Kab,paa,zl];exact waa _);have e8:B7.length < 64->Cb [o0,o1,.tok 33 B7.length false,o3,Ib ((row.set x (-2)).map i64),Ib (tc ((a.1+1:Nat):Int) m.testBit)] false .uq 33 true 40 (.uq 2 false 33 (B7.map Af)) (.pv (.lit 33 [.agg (tc ((a.1+1:Nat):Int) m.testBit)]))=
  some (.uq 2 false 33 ((B7++[(a.1+1,(m:Int))]).map Af),[o0,o1,.tok 33 (B7.length+1) false,o3,Ib ((row.set x (-2)).map i64),Ib (tc ((a.1+1:Nat):Int) m.testBit)]):=by
  intro hlt;have:=Ih (A:=[o0,o1,.tok 33 B7.length false,o3,Ib ((row.set x (-2)).map i64),Ib (tc ((a.1+1:Nat):Int) m.testBit)]) (id:=2) (n:=B7.length) (sz:=33) (h:= .uq) (nl:=false) (ag:=true) (bytes:=40) (es:=B7.map Af) rfl (by rw[paa]) (by unfold eb;omega) (.agg (tc ((a.1+1:Nat):Int) m.testBit));rw[this,qac];rfl
 have hen:Af (a.1+1,(m:Int))= .agg (tc ((a.1+1:Nat):Int) m.testBit):=by simp[Af]
 rw[hen] at hfd;have lsn:Tb [] 0 (.uq 2 false 33 (B7.map Af))=some B7.length:=by simp[Tb]
 have Zae:(B7.map Af).length=B7.length:=paa _
 have hR1:∀ p,rh ss a x B7=some p->∀ st:St,st=⟨MK S nl E9 (Hf ss) (p.1.map Af) rs n (x+1:Nat),[o0,o1,.tok 33 p.1.length false,o3,Ib ((row.set x p.2).map i64)]⟩->(∃ p,rh ss a x B7=some p/\(Ex.norm,st)=(Ex.norm,⟨MK S nl E9 (Hf ss) (p.1.map Af) rs n (x+1:Nat),[o0,o1,.tok 33 p.1.length false,o3,Ib ((row.set x p.2).map i64)]⟩))\/
  (rh ss a x B7=none/\∃ E H,(Ex.norm,st)=(.ret,⟨E,H⟩)/\E.get 2= .pv .ga/\E.get 3= .pv .ga/\E.get 4= .pv (.bool false)):=fun p hp st h=> .inl ⟨p,hp,by rw[h]⟩
 have hR2:rh ss a x B7=none->∀ E H,E.get 2= .pv .ga->E.get 3= .pv .ga->E.get 4= .pv (.bool false)->(∃ p,rh ss a x B7=some p/\(Ex.ret,(⟨E,H⟩:St))=(Ex.norm,⟨MK S nl E9 (Hf ss) (p.1.map Af) rs n (x+1:Nat),[o0,o1,.tok 33 p.1.length false,o3,Ib ((row.set x p.2).map i64)]⟩))\/
  (rh ss a x B7=none/\∃ E' H',(Ex.ret,(⟨E,H⟩:St))=(.ret,⟨E',H'⟩)/\E'.get 2= .pv .ga/\E'.get 3= .pv .ga/\E'.get 4= .pv (.bool false)):=fun hp E H g2 g3 g4=> .inr ⟨hp,E,H,rfl,g2,g3,g4⟩
 generalize P7:(fun r:Ex×St=>_)=QQ;have hz:=pW;generalize hzs:(tc 0 fun _=>false)=zs at *;generalize hys:(tc ((a.1:Int)+1) fun _=>false)=ys at *;generalize hYY:tc ((a.1+1:Nat):Int) m.testBit=Y at *
 generalize tc (a.1:Int) a.2.toNat.testBit=arow at *
 generalize hRR:Ib (row.map i64)=R at *;simp -implicitDefEqProofs only[SP,WP,fa,sevalprocAttr,He,Db,Tj,e1,t3,i1,l0,hz,f1,f1',f2,f3,st0,Mah,uak,d60,d62,d63,d64,d65,na,Ca,AV.cut,za,MK];refine wa hl4 ?_;rintro r ⟨E,rfl,g1,g5,g10,g11,g12,g13,g14,g15,g16,g17⟩;cases hso:Ag (Fm ss a x) ss.length with
 |false=>
  rw[hso] at g16;rw[if_pos hso] at w8;cases iac:Ag (sr ss a x) ss.length <;>
  ·rw[iac] at g17
   simp -implicitDefEqProofs only[SP,WP,fa,sevalprocAttr,g1,g5,g10,g11,g12,g13,g14,g15,g16,g17,Laa hq,t1,m1,t2,pl1,st1,aaa,oaa,d50,d52,d53,d54,na,Ca,AV.cut,za];subst P7;exact hR1 _ w8 _ rfl
 |true=>
  rw[hso] at g16;rw[taa (by rw[hso];simp)] at w8;cases iac:Ag (sr ss a x) ss.length with
  |true=>rw[iac] at g17;rw[if_pos iac] at w8;simp -implicitDefEqProofs only[SP,WP,fa,sevalprocAttr,g1,g5,g10,g11,g12,g13,g14,g15,g16,g17,Laa hq,t1,m1,t2,pl1,pl2,st1,st2,aaa,oaa,d50,d52,d53,d54,na,Ca,AV.cut,za];subst P7;exact hR1 _ w8 _ rfl
  |false=>
   rw[iac] at g17;rw[taa (by rw[iac];simp)] at w8;cases hix:Tm (a.1+1,(m:Int)) B7 0 with
   |some k=>rw[hix] at w8 hfd;simp only at w8 hfd;have dk:decide ((k:Int) < 0)=false:=Ga (by omega);simp -implicitDefEqProofs only[SP,WP,fa,sevalprocAttr,g1,g5,g10,g11,g12,g13,g14,g15,g16,g17,Laa hq,t1,m1,t2,pl1,pl2,st1,st2,Saf,hfd,dk,aaa,oaa,d50,d52,d53,d54,na,Ca,AV.cut,za];subst P7;exact hR1 _ w8 _ rfl
   |none=>
    rw[hix] at w8 hfd;simp only at w8 hfd;have dk:decide ((-1:Int) < 0)=true:=by decide
    by_cases hlt:B7.length < 64
    ·have Cab:=e8 hlt
     rw[if_pos hlt] at w8;have e64:((B7.length:Int)==64)=false:=mj (by omega);have R9:(B7++[(a.1+1,(m:Int))]).length=B7.length+1:=by simp
     simp -implicitDefEqProofs only[SP,WP,fa,sevalprocAttr,g1,g5,g10,g11,g12,g13,g14,g15,g16,g17,Laa hq,t1,m1,t2,pl1,pl2,st1,st2,Saf,hfd,dk,Zae,e64,Cab,hz,hYl,hYr,hYa,hYp,hYt,f4,aaa,oaa,d50,d52,d53,d54,na,Ca,AV.cut,za];subst P7;exact hR1 _ w8 _ (by rw[R9])
    ·rw[taa hlt] at w8
     have e64:((B7.length:Int)==64)=true:=by simp;omega
     simp -implicitDefEqProofs only[SP,WP,fa,sevalprocAttr,g1,g5,g10,g11,g12,g13,g14,g15,g16,g17,Laa hq,t1,m1,t2,pl1,pl2,st1,st2,Saf,hfd,dk,Zae,e64];subst P7;exact hR2 w8 _ _ (by simp[Tr.aa]) (by simp[Tr.aa]) (by simp[Tr.aa])
end
section
variable (call:Sa){S:PV}{ss:List Ob}{es:List PV}(hS:qb S ss es)(hw:ss.length<=32)(h8:∀ s∈ss,s.parts.length<=8){n:Nat}{a:Al}
 (hd:a.1<=64)
 (nl E9:Bool) (rs:List PV) (o0 o1 o3:ba) (h0:∀ n,qa n o0=some o0) (h1:∀ n,qa n o1=some o1) (h3:∀ n,qa n o3=some o3)
include hS hw h8 hd h0 h1 h3
set_option maxRecDepth 8000 in
theorem O1{B7:List Al}{row:List Int}(ha:B7[n]? =some a)(Ba:zo ss B7)(J7:row.length=256):
 qd (fun r=>(∃ p E,Vl ss a (List.range 256) (B7,row)=some p/\r=(.exit 6,⟨E,[o0,o1,.tok 33 p.1.length false,o3,Ib (p.2.map i64)]⟩)/\E.get 1= .pv (.rp [S] 0)/\E.get 5= .uq 0 nl 2048 (Hf ss)/\E.get 10= .uq 2 false 33 (p.1.map Af)/\E.get 11= .uq 3 E9 256 rs/\E.get 12= .pv (i64 n)/\E.get 13= .ptr 4 0)\/
  (Vl ss a (List.range 256) (B7,row)=none/\∃ E H,r=(.ret,⟨E,H⟩)/\E.get 2= .pv .ga/\E.get 3= .pv .ga/\E.get 4= .pv (.bool false)))
  (ab (ma (oa call He) (na 5 [1,5,10,11,12,13,14])) ua ⟨MK S nl E9 (Hf ss) (B7.map Af) rs n 0,[o0,o1,.tok 33 B7.length false,o3,Ib (row.map i64)]⟩):=by
 refine wa (Gb (g:=ma (oa call He) (na 5 [1,5,10,11,12,13,14]))
  (fun x t=>∃ sets' row',t=⟨MK S nl E9 (Hf ss) (sets'.map Af) rs n x,[o0,o1,.tok 33 sets'.length false,o3,Ib (row'.map i64)]⟩/\Vl ss a (List.range 256) (B7,row)=Vl ss a ((List.range 256).drop x) (sets',row')/\zo ss sets'/\sets'[n]? =some a/\row'.length=256)
  256 (by unfold ua;omega) _ ⟨B7,row,rfl,by rw[Aac],Ba,ha,J7⟩ ?_ ?_) (fun r h=>h.2)
 ·rintro x t hx ⟨sets',row',rfl,W9,O8,ha',K9⟩
  rw[Zr hx] at W9;refine wa (aI call hS hw h8 ha' hx O8 hd nl E9 rs o0 o1 o3 h0 h1 h3 K9) ?_;rintro r (⟨p,W7,rfl⟩ | ⟨W7,E,H,rfl,g2,g3,g4⟩)
  ·rw[Vu W7] at W9
   obtain⟨k1,t,k2⟩:=QF O8 ha' hw W7;refine⟨p.1,row'.set x p.2,rfl,W9,k1,?_,by simp[K9]⟩;rw[k2,gaa (qaa.1 ha').1];exact ha'
  ·rw[Ku W7] at W9
   exact .inr ⟨W9,E,H,rfl,g2,g3,g4⟩
 ·rintro t ⟨sets',row',rfl,W9,O8,ha',K9⟩
  have hdr:(List.range 256).drop 256=[]:=Cae (by rw[mac];exact waa _)
  rw[hdr,Vl] at W9;have e1:decide (((256:Nat):Int) < 256)=false:=Ga (by omega);have Q7:∀ E,E.get 1= .pv (.rp [S] 0)->E.get 5= .uq 0 nl 2048 (Hf ss)->E.get 10= .uq 2 false 33 (sets'.map Af)->E.get 11= .uq 3 E9 256 rs->E.get 12= .pv (i64 n)->E.get 13= .ptr 4 0->
   ((Ex.exit 6,(⟨E,[o0,o1,.tok 33 sets'.length false,o3,Ib (row'.map i64)]⟩:St)).1.stop=true/\((∃ p E',Vl ss a (List.range 256) (B7,row)=some p/\(Ex.exit 6,(⟨E,[o0,o1,.tok 33 sets'.length false,o3,Ib (row'.map i64)]⟩:St))=(.exit 6,⟨E',[o0,o1,.tok 33 p.1.length false,o3,Ib (p.2.map i64)]⟩)/\E'.get 1= .pv (.rp [S] 0)/\E'.get 5= .uq 0 nl 2048 (Hf ss)/\E'.get 10= .uq 2 false 33 (p.1.map Af)/\E'.get 11= .uq 3 E9 256 rs/\E'.get 12= .pv (i64 n)/\E'.get 13= .ptr 4 0)\/
    (Vl ss a (List.range 256) (B7,row)=none/\∃ E' H,(Ex.exit 6,(⟨E,[o0,o1,.tok 33 sets'.length false,o3,Ib (row'.map i64)]⟩:St))=(.ret,⟨E',H⟩)/\E'.get 2= .pv .ga/\E'.get 3= .pv .ga/\E'.get 4= .pv (.bool false)))):=
   fun E k1 k5 B9 C9 k12 k13=>⟨rfl,.inl ⟨(sets',row'),E,W9,rfl,k1,k5,B9,C9,k12,k13⟩⟩
  generalize hQ:(fun r:Ex×St=>r.1.stop=true/\_)=Q;generalize Ib (row'.map i64)=R at *;generalize sets'.map Af=se at *
  generalize Hf ss=os at *;simp -implicitDefEqProofs only[SX,sevalprocAttr,-List.reduceReplicate,He,e1,MK];subst hQ;exact Q7 _ (by simp[Tr.aa]) (by simp[Tr.aa]) (by simp[Tr.aa]) (by simp[Tr.aa]) (by simp[Tr.aa]) (by simp[Tr.aa])
end
abbrev iK(S:PV)(nl E9:Bool)(os es rs:List PV)(n:Int):Tr:=
 ((((Tr.lf.set 12 (.pv (i64 n))).set 11 (.uq 3 E9 256 rs)).set 10 (.uq 2 false 33 es)).set 5 (.uq 0 nl 2048 os)).set 1 (.pv (.rp [S] 0))
section
variable (call:Sa){S:PV}{ss:List Ob}{es:List PV}(hS:qb S ss es)(hw:ss.length<=32)(h8:∀ s∈ss,s.parts.length<=8)
 (nl:Bool) (k0:Nat) (F:List PV)
include hS hw h8
set_option maxRecDepth 8000 in
theorem UH{B7:List Al}{rs:List (List Int)}{a:Al}(ha:B7[rs.length]? =some a)(Ba:zo ss B7):
 qd (fun r=>(∃ p,Vl ss a (List.range 256) (B7,fb)=some p/\r=(.norm,⟨iK S nl false (Hf ss) (p.1.map Af) ((rs++[p.2]).map Zi) (rs.length+1:Nat),[.tok 2048 k0 nl,Ib F,.tok 33 p.1.length false,.tok 256 (rs.length+1) false]⟩))\/
  (Vl ss a (List.range 256) (B7,fb)=none/\∃ E H,r=(.ret,⟨E,H⟩)/\E.get 2= .pv .ga/\E.get 3= .pv .ga/\E.get 4= .pv (.bool false)))
  (ma (oa call Fe) (na 4 [1,5,10,11,12]) ⟨iK S nl rs.isEmpty (Hf ss) (B7.map Af) (rs.map Zi) rs.length,[.tok 2048 k0 nl,Ib F,.tok 33 B7.length false,.tok 256 rs.length rs.isEmpty]⟩):=by
 have hn:=(qaa.1 ha).1
 have Raf:=Ba.1
 have hd:a.1<=64:=by have:=(Ba.2 _ a ha).1;omega
 have hl3:=O1 call hS hw h8 hd nl rs.isEmpty (rs.map Zi) (.tok 2048 k0 nl) (Ib F) (.tok 256 rs.length rs.isEmpty) (fun n=>rfl) (fun n=>uh F n) (fun n=>rfl) ha Ba uv
 have X9:∀ p,Vl ss a (List.range 256) (B7,fb)=some p->p.2.length=256:=fun p hp=>by rw[(Vw hw (List.range 256) (B7,fb) p Ba ha hp).2.2];exact uv
 have e1:decide ((rs.length:Int) < (B7.length:Int))=true:=Ea (by omega);have t2:IntKind.i64.wrap ((rs.length:Int)+1)=((rs.length+1:Nat):Int):=Aa (by omega)
 have hse:(B7.map Af).length=B7.length:=paa _
 have hzz:List.replicate 256 (PV.int .i64 0)=fb.map i64:=by rw[fb,xad]
 have hz0:ba.box (List.map AV.pv (List.replicate 256 (PV.int .i64 0)))=Ib (fb.map i64):=by rw[hzz]
 have hc5:∀ (k:Nat)(R:List PV),Ra (qa 5) [.tok 2048 k0 nl,Ib F,.tok 33 k false,.tok 256 rs.length rs.isEmpty,Ib R]=some [.tok 2048 k0 nl,Ib F,.tok 33 k false,.tok 256 rs.length rs.isEmpty,Ib R]:=by intro k R;have c0:∀ k n nl,qa 5 (.tok k n nl)=some (.tok k n nl):=fun k n nl=>rfl;simp only[Ra,c0,uh,Daa,Kaa]
 have hc4:∀ (k:Nat),Ra (qa 4) [.tok 2048 k0 nl,Ib F,.tok 33 k false,.tok 256 (rs.length+1) false]=some [.tok 2048 k0 nl,Ib F,.tok 33 k false,.tok 256 (rs.length+1) false]:=by intro k;have c0:∀ k n nl,qa 4 (.tok k n nl)=some (.tok k n nl):=fun k n nl=>rfl;simp only[Ra,c0,uh,Daa,Kaa]
 have oaa:∀ a b c d e:ba,([a,b,c,d,e]:List ba).take 5=[a,b,c,d,e]:=fun a b c d e=>rfl
 have wab:∀ a b c d e:ba,([a,b,c,d,e]:List ba).take 4=[a,b,c,d]:=fun a b c d e=>rfl
 have d50:(0 < 5)=True:=by simp
 have d52:(2 < 5)=True:=by simp
 have d53:(3 < 5)=True:=by simp
 have d54:(4 < 5)=True:=by simp
 have d40:(0 < 4)=True:=by simp
 have d42:(2 < 4)=True:=by simp
 have d43:(3 < 4)=True:=by simp
 have hld:∀ (k:Nat)(r:List Int),r.length=256->pa [.tok 2048 k0 nl,Ib F,.tok 33 k false,.tok 256 rs.length rs.isEmpty,Ib (r.map i64)] true 256 (.ptr 4 0)=some (.pv (.agg (r.map i64))):=fun k r hr=>vn (id:=4) rfl (by rw[paa,hr])
 have R7:∀ r:List Int,∀ e∈r.map i64,(AV.pv e).one=true:=by
  intro r e he;obtain⟨v,_,rfl⟩:=oab.1 he
  rfl
 have e8:∀ (k:Nat)(r:List Int),Cb [.tok 2048 k0 nl,Ib F,.tok 33 k false,.tok 256 rs.length rs.isEmpty,Ib (r.map i64)] false .uq 256 true 2048 (.uq 3 rs.isEmpty 256 (rs.map Zi)) (.pv (.lit 256 [.agg (r.map i64)]))=
  some (.uq 3 false 256 ((rs++[r]).map Zi),[.tok 2048 k0 nl,Ib F,.tok 33 k false,.tok 256 (rs.length+1) false,Ib (r.map i64)]):=by
  intro k r;have:=Ih (A:=[.tok 2048 k0 nl,Ib F,.tok 33 k false,.tok 256 rs.length rs.isEmpty,Ib (r.map i64)]) (id:=3) (n:=rs.length) (sz:=256) (h:= .uq) (nl:=rs.isEmpty) (ag:=true) (bytes:=2048) (es:=rs.map Zi) rfl (by rw[paa]) (by unfold eb;omega) (.agg (r.map i64));rw[this,qac];rfl
 have GX:(fb.map i64).length=256:=by rw[paa,uv]
 have f4:(256<=((fb.map i64).map AV.pv++[]).length)=True:=Laa (by rw[Kab,paa,GX];exact waa _);have hYr:∀ r:List Int,r.length=256->fa ((fb.map i64).map AV.pv++[]) 0 ((r.map i64).map AV.pv)=(r.map i64).map AV.pv:=fun r hr=>Kw (by rw[GX,paa,hr])
 have hYa:∀ r:List Int,((r.map i64).map AV.pv).all AV.one=true:=fun r=>AK (R7 r)
 have hYp:∀ r:List Int,Tc ((r.map i64).map AV.pv)=some (r.map i64):=fun r=>Tf _;have hYt:∀ r:List Int,r.length=256->(r.map i64).take 256=r.map i64:=fun r hr=>Zaa (by rw[paa,hr];exact waa _)
 have hYl:∀ r:List Int,r.length=256->((r.map i64).map AV.pv).length=256:=fun r hr=>by rw[paa,paa,hr]
 have hR1:∀ p,Vl ss a (List.range 256) (B7,fb)=some p->∀ st:St,st=⟨iK S nl false (Hf ss) (p.1.map Af) ((rs++[p.2]).map Zi) (rs.length+1:Nat),[.tok 2048 k0 nl,Ib F,.tok 33 p.1.length false,.tok 256 (rs.length+1) false]⟩->
  (∃ p,Vl ss a (List.range 256) (B7,fb)=some p/\(Ex.norm,st)=(.norm,⟨iK S nl false (Hf ss) (p.1.map Af) ((rs++[p.2]).map Zi) (rs.length+1:Nat),[.tok 2048 k0 nl,Ib F,.tok 33 p.1.length false,.tok 256 (rs.length+1) false]⟩))\/
   (Vl ss a (List.range 256) (B7,fb)=none/\∃ E H,(Ex.norm,st)=(.ret,⟨E,H⟩)/\E.get 2= .pv .ga/\E.get 3= .pv .ga/\E.get 4= .pv (.bool false)):=fun p hp st h=> .inl ⟨p,hp,by rw[h]⟩
 generalize P7:(fun r:Ex×St=>_)=QQ;generalize hzs:fb.map i64=zs at *
 have wak:=hc5 B7.length zs
 generalize hRz:Ib zs=Rz at *;generalize hoF:Ib F=oF at *;simp -implicitDefEqProofs only[SP,WP,fa,sevalprocAttr,-List.reduceReplicate,Fe,Db,e1,hse,hzz,hRz,wak,oaa,d50,d52,d53,d54,na,Ca,AV.cut,za,iK];refine wa hl3 ?_;rintro r (⟨p,E,hp,rfl,g1,g5,g10,g11,g12,g13⟩ | ⟨hp,E,H,rfl,g2,g3,g4⟩)
 ·have V7:=X9 p hp
  have Uaf:=hld p.1.length p.2 V7
  have xak:=hYr p.2 V7
  have yak:=hYt p.2 V7
  have Nah:=hYl p.2 V7
  have zak:=hYa p.2
  have Aak:=hYp p.2
  have Cab:=e8 p.1.length p.2
  generalize p.2.map i64=zp at *
  simp -implicitDefEqProofs only[SP,WP,fa,sevalprocAttr,-List.reduceReplicate,g1,g5,g10,g11,g12,g13,t2,hzz,Uaf,xak,yak,Nah,zak,Aak,Cab,f4,hc4,wab,d40,d42,d43,na,Ca,AV.cut,za];subst P7;exact hR1 p hp _ rfl
 ·simp -implicitDefEqProofs only[SP,WP,fa,sevalprocAttr,-List.reduceReplicate]
  subst P7;exact .inr ⟨hp,E,H,rfl,g2,g3,g4⟩
end
attribute [local irreducible] qd
theorem WO{n:Nat}(h:n<=32)(i:Nat):(Wr n).toNat.testBit i=decide (i < n):=by
 rw[IG h,Eaa,Nat.testBit_two_pow_sub_one]
theorem XQ{n:Nat}(h:n<=32):Af (0,Wr n)= .agg (Bc n):=by
 unfold Af Bc tc
 congr 2
 exact Hv fun i _=>WO h i
set_option maxRecDepth 8000 in
theorem VZ(call:Sa){S:PV}{ss:List Ob}{es:List PV}(hS:qb S ss es)(hw:ss.length<=32)(h8:∀ s∈ss,s.parts.length<=8)(I7:∀ s∈ss,0 < s.parts.length)(nl:Bool)(k0:Nat)(F:List PV):
 qd (fun r=>(∃ p E,ph ss 64 (qh ss,[])=some p/\p.2.length=p.1.length/\0 < p.2.length/\r=(.exit 4,⟨E,[.tok 2048 k0 nl,Ib F,.tok 33 p.1.length false,.tok 256 p.2.length p.2.isEmpty]⟩)/\E.get 10= .uq 2 false 33 (p.1.map Af)/\E.get 11= .uq 3 p.2.isEmpty 256 (p.2.map Zi))\/
  (ph ss 64 (qh ss,[])=none/\∃ E H,r=(.ret,⟨E,H⟩)/\E.get 2= .pv .ga/\E.get 3= .pv .ga/\E.get 4= .pv (.bool false)))
  (ab (ma (oa call Fe) (na 4 [1,5,10,11,12])) ua ⟨iK S nl true (Hf ss) ((qh ss).map Af) [] 0,[.tok 2048 k0 nl,Ib F,.tok 33 1 false,.tok 256 0 true]⟩):=by
 refine wa (Es (g:=ma (oa call Fe) (na 4 [1,5,10,11,12]))
  (fun k t=>∃ (B7:List Al)(rs:List (List Int)),t=⟨iK S nl rs.isEmpty (Hf ss) (B7.map Af) (rs.map Zi) rs.length,[.tok 2048 k0 nl,Ib F,.tok 33 B7.length false,.tok 256 rs.length rs.isEmpty]⟩/\k+rs.length=64/\zo ss B7/\rs.length<=B7.length/\0 < B7.length/\ph ss 64 (qh ss,[])=ph ss k (B7,rs))
  ua 64 _ (by unfold ua;omega) ⟨qh ss,[],rfl,rfl,FB hw I7,by simp,by simp[qh],rfl⟩ ?_) (fun r h=>h.2)
 rintro k t ⟨B7,rs,rfl,hk,Ba,hle,j8,hs⟩;cases ha:B7[rs.length]? with
 |some a=>
  have hlt:=(qaa.1 ha).1
  have Raf:=Ba.1
  obtain⟨k',rfl⟩:∃ k',k=k'+1:=⟨k - 1,by omega⟩;refine wa (UH call hS hw h8 nl k0 F ha Ba) ?_;rintro r (⟨p,hp,rfl⟩ | ⟨hp,E,H,rfl,g2,g3,g4⟩)
  ·obtain⟨q1,⟨t,q2⟩,q3⟩:=Vw hw (List.range 256) (B7,fb) p Ba ha hp
   simp only at q2;have hse:(rs++[p.2]).isEmpty=false:=by cases rs <;> rfl
   have kad:(rs++[p.2]).length=rs.length+1:=by simp
   refine⟨k',by omega,p.1,rs++[p.2],?_,by rw[kad];omega,q1,?_,?_,?_⟩
   ·rw[hse,kad]
   ·rw[kad,q2,Aaa];omega
   ·rw[q2,Aaa];omega
   ·rw[hs,Sv ha hp]
  ·exact .inr ⟨by rw[hs,uw ha hp],E,H,rfl,g2,g3,g4⟩
 |none=>
  have hge:B7.length<=rs.length:=by
   rcases Xaa rs.length B7.length with h | h
   ·rw[caa h] at ha;cases ha
   ·exact h
  rw[Iv (r:=(B7,rs)) ha] at hs;have e1:decide ((rs.length:Int) < (B7.length:Int))=false:=Ga (by omega);have hse:(B7.map Af).length=B7.length:=paa _
  have Q7:∀ E,E.get 10= .uq 2 false 33 (B7.map Af)->E.get 11= .uq 3 rs.isEmpty 256 (rs.map Zi)->
   LQ (fun k t=>∃ (B7:List Al)(rs:List (List Int)),t=⟨iK S nl rs.isEmpty (Hf ss) (B7.map Af) (rs.map Zi) rs.length,[.tok 2048 k0 nl,Ib F,.tok 33 B7.length false,.tok 256 rs.length rs.isEmpty]⟩/\k+rs.length=64/\zo ss B7/\rs.length<=B7.length/\0 < B7.length/\ph ss 64 (qh ss,[])=ph ss k (B7,rs))
    (fun r=>(∃ p E,ph ss 64 (qh ss,[])=some p/\p.2.length=p.1.length/\0 < p.2.length/\r=(.exit 4,⟨E,[.tok 2048 k0 nl,Ib F,.tok 33 p.1.length false,.tok 256 p.2.length p.2.isEmpty]⟩)/\E.get 10= .uq 2 false 33 (p.1.map Af)/\E.get 11= .uq 3 p.2.isEmpty 256 (p.2.map Zi))\/
    (ph ss 64 (qh ss,[])=none/\∃ E H,r=(.ret,⟨E,H⟩)/\E.get 2= .pv .ga/\E.get 3= .pv .ga/\E.get 4= .pv (.bool false))) k
    (.exit 4,⟨E,[.tok 2048 k0 nl,Ib F,.tok 33 B7.length false,.tok 256 rs.length rs.isEmpty]⟩):=fun E g10 g11=> .inl ⟨(B7,rs),E,hs,by simp only;omega,by simp only;omega,rfl,g10,g11⟩
  generalize LQ _ _ k=QQ at Q7 ⊢;generalize Ib F=oF at *;generalize B7.map Af=se at *
  generalize rs.map Zi=re at *
  generalize Hf ss=os at *;simp -implicitDefEqProofs only[SX,sevalprocAttr,-List.reduceReplicate,Fe,e1,hse,iK];exact Q7 _ (by simp[Tr.aa]) (by simp[Tr.aa])
set_option maxRecDepth 8000 in
theorem rM{S:PV}{ss:List Ob}{es:List PV}(hS:qb S ss es)(Ba:Xb ss):
 (∀ p,ph ss 64 (qh ss,[])=some p->Uf [.agg [S]]=some (.mc [.lit 33 (p.1.map Af),.lit 256 (p.2.map Zi),.bool true])/\p.2.length=p.1.length)/\
 (ph ss 64 (qh ss,[])=none->Uf [.agg [S]]=some (.mc [.ga,.ga,.bool false])):=by
 have hw:=Ba.len
 have h8:∀ s∈ss,s.parts.length<=8:=fun s hs=>(Ba.ft s hs).hi
 have ln:=hS.Tb
 have G8:(AV.pv S).one=true:=by rcases hS.is with⟨h,_⟩ | h <;> rw[h] <;> rfl
 have e9:=NS (Da (fun _=>none) 8) hS hw h8;have I9:=fun nl=>VZ (Da (fun _=>none) 8) hS hw h8 Ba.ne nl ss.length (Bc ss.length)
 have hs0:(qh ss).map Af=[.agg (Bc ss.length)]:=by rw[qh,List.map_singleton,XQ hw]
 rw[hs0] at I9;have hz:=pW;have zl:=kh 0 fun _=>false;have hf0:Bc 0=tc 0 fun _=>false:=by unfold Bc;congr 1
 have st0:Ha [.tok 2048 0 true,Ib (tc 0 fun _=>false)] 33 (.ptr 1 0) (.pv (.agg (tc 0 fun _=>false)))=some [.tok 2048 0 true,Ib (tc 0 fun _=>false)]:=Cr (id:=1) rfl zl zl (Gy _ _);have haa:Ra (qa 2) [.tok 2048 0 true,Ib (tc 0 fun _=>false)]=some [.tok 2048 0 true,Ib (tc 0 fun _=>false)]:=by have c0:∀ k n nl,qa 2 (.tok k n nl)=some (.tok k n nl):=fun k n nl=>rfl;simp only[Ra,c0,uh,Daa,Kaa]
 have Z8:∀ a b:ba,([a,b]:List ba).take 2=[a,b]:=fun a b=>rfl
 have wab:∀ a b c d:ba,([a,b,c,d]:List ba).take 4=[a,b,c,d]:=fun a b c d=>rfl
 have vab:∀ nl,Ra (qa 4) [.tok 2048 ss.length nl,Ib (Bc ss.length),.tok 33 1 false,.tok 256 0 true]=some [.tok 2048 ss.length nl,Ib (Bc ss.length),.tok 33 1 false,.tok 256 0 true]:=by intro nl;have c0:∀ k n nl,qa 4 (.tok k n nl)=some (.tok k n nl):=fun k n nl=>rfl;simp only[Ra,c0,uh,Daa,Kaa]
 have hld:∀ nl,pa [.tok 2048 ss.length nl,Ib (Bc ss.length)] true 33 (.ptr 1 0)=some (.pv (.agg (Bc ss.length))):=fun nl=>vn (id:=1) rfl (kh _ _);have fz:=Tf (tc 0 fun _=>false);have hYl:((Bc ss.length).map AV.pv).length=33:=by rw[paa,kh]
 have hYr:fa ((tc 0 fun _=>false).map AV.pv++[]) 0 ((Bc ss.length).map AV.pv)=(Bc ss.length).map AV.pv:=Kw (by rw[kh,kh])
 have hYa:=AK (Gy 0 fun j=>decide (j < ss.length));have hYp:=Tf (Bc ss.length);have hYt:(Bc ss.length).take 33=Bc ss.length:=Zaa (by rw[kh];exact waa _)
 have f4:(33<=((tc 0 fun _=>false).map AV.pv++[]).length)=True:=Laa (by rw[Kab,paa,zl];exact waa _);have d20:(0 < 2)=True:=by simp
 have d21:(1 < 2)=True:=by simp
 have d40:(0 < 4)=True:=by simp
 have d42:(2 < 4)=True:=by simp
 have d43:(3 < 4)=True:=by simp
 have g1:(0 < 2048)=True:=by simp
 have g2:(0 < 256)=True:=by simp
 rw[hf0] at e9;have key:qd (fun r=>(∃ p,ph ss 64 (qh ss,[])=some p/\r=PV.mc [.lit 33 (p.1.map Af),.lit 256 (p.2.map Zi),.bool true]/\p.2.length=p.1.length)\/(ph ss 64 (qh ss,[])=none/\r=PV.mc [.ga,.ga,.bool false])) (Uf [.agg [S]]):=by
  generalize P7:(fun r:PV=>_)=QQ;change (((Bc ss.length).map AV.pv).all AV.one)=true at hYa;generalize hzs:(tc 0 fun _=>false)=zs at *;generalize hfs:Bc ss.length=fs at *
  generalize Bak:Ib zs=oz at *;generalize xao:Ib fs=of at *;simp -implicitDefEqProofs only[Uf,SP,WP,fa,sevalprocAttr,-List.reduceReplicate,ll,G8,hz,Bak,fz,st0,fe,g1,g2,haa,Z8,d20,d21,Db,na,Ca,AV.cut,za];refine wa e9 ?_;rintro r ⟨E,nl,rfl,k1,k5,k6⟩;have Cak:=I9 nl;have Qae:=vab nl;have Uaf:=hld nl;simp -implicitDefEqProofs only[SP,WP,fa,sevalprocAttr,-List.reduceReplicate,k1,k5,k6,Uaf,hz,hYl,hYr,hYa,hYp,hYt,f4,fe,g1,g2,Qae,wab,d40,d42,d43,Db,na,Ca,AV.cut,za];refine wa Cak ?_;rintro r (⟨p,E,hp,V7,hpp,rfl,B9,C9⟩ | ⟨hp,E,H,rfl,k2,k3,k4⟩)
  ·have hie:p.2.isEmpty=false:=by
    cases hh:p.2 with
    |nil=>rw[hh] at hpp;simp at hpp
    |cons a l=>rfl
   rw[hie] at C9;simp -implicitDefEqProofs only[SP,WP,fa,sevalprocAttr,-List.reduceReplicate,B9,C9];subst P7;exact .inl ⟨p,hp,rfl,V7⟩
  ·simp -implicitDefEqProofs only[SP,WP,fa,sevalprocAttr,-List.reduceReplicate,k2,k3,k4]
   subst P7;exact .inr ⟨hp,rfl⟩
 obtain⟨r,h1,h2⟩:=wc key;constructor
 ·intro p hp
  rcases h2 with⟨p',hp',rfl,hl⟩ | ⟨hn,_⟩
  ·rw[hp] at hp';injection hp' with hp';subst hp';exact⟨h1,hl⟩
  ·rw[hp] at hn;cases hn
 ·intro hn
  rcases h2 with⟨p',hp',_,_⟩ | ⟨_,rfl⟩
  ·rw[hn] at hp';cases hp'
  ·exact h1
attribute [local irreducible] qd
def owns(n:Nat):List AV:=(List.range n).map fun k=> .own (2 * k+1) n
def vD(n:Nat)(f:Nat->Bool)(fl:Nat):ba:= .seq 1 false ((eg n f).map .pv) fl false
structure Pt(H:List ba)(n:Nat)(f:Nat->Nat->Bool):Prop where
 len:H.length=2 * n+1
 hd:∃ nl,nl=false/\H[0]? =some (.seq 1 false (owns n) 0 nl)
 row:∀ k,k < n->∃ fl,fl<=n/\H[2 * k+1]? =some (vD n (f k) fl)
 Qv:Vd H
theorem TG(n:Nat):(owns n).length=n:=by rw[owns,paa,mac]
theorem kW{n k:Nat}(h:k < n):(owns n)[k]? =some (.own (2 * k+1) n):=by
 rw[owns,Faa,lad h];rfl
theorem MO(n:Nat)(f:Nat->Bool)(fl m:Nat):qa m (vD n f fl)=some (vD n f fl):=by
 have:((eg n f).map AV.pv).all (AV.ie m deep)=true:=by
  rw[aab];intro v hv;obtain⟨p,_,rfl⟩:=oab.1 hv
  rfl
 simp[qa,vD,this]
theorem GQ(m:Nat)(g:Nat->Bool){j:Nat}(hj:j < m)(b:Bool):(eg m g).set j (.bool b)=eg m fun x=>if x=j then b else g x:=by
 apply Dad
 ·rw[uac,lh,lh]
 ·intro k h1 h2
  rw[Nae,XE,XE]
  by_cases hk:j=k
  ·subst hk;rw[if_pos rfl,if_pos rfl]
  ·rw[taa hk,taa (rac hk)]
section
variable {H:List ba}{n:Nat}{f:Nat->Nat->Bool}(h:Pt H n f)
include h
theorem Pt.cut:Ra (qa (2 * n+1)) (H.take (2 * n+1))=some H:=by
 rw[<- h.len,Fab];exact Vd.cut h.Qv
theorem Pt.i0{i:Nat}(hi:i < n):ta H 1 (.own 0 n) (i:Int)=some (.Ec 0 n i):=by
 obtain⟨nl,_,h0⟩:=h.hd
 simp only[ta,h0];rw[if_pos (by refine⟨trivial,?_,?_⟩ <;> first | (unfold Ia;omega) | (unfold Ui;rw[TG];omega))];simp
theorem Pt.l0{i:Nat}(hi:i < n):pa H false 1 (.Ec 0 n i)=some (.own (2 * i+1) n):=by
 obtain⟨nl,_,h0⟩:=h.hd
 simp only[pa,h0];rw[if_pos (TG n)];simp only[Lh,Baa,if_false];exact kW hi
theorem Pt.i1{i j:Nat}(hi:i < n)(hj:j < n):ta H 1 (.own (2 * i+1) n) (j:Int)=some (.Ec (2 * i+1) n j):=by
 obtain⟨fl,hf,h0⟩:=h.row i hi
 simp only[ta,h0,vD];rw[if_pos (by refine⟨trivial,?_,?_⟩ <;> first | (unfold Ia;omega) | (unfold Ui;rw[paa,lh];omega))];simp
theorem Pt.l1{i j:Nat}(hi:i < n)(hj:j < n):pa H false 1 (.Ec (2 * i+1) n j)=some (.pv (.bool (f i j))):=by
 obtain⟨fl,hf,h0⟩:=h.row i hi
 simp only[pa,h0,vD];rw[if_pos (by rw[paa,lh])];simp only[Lh,Baa,if_false,Faa,xB _ hj,Kaa]
end
theorem Pt.store{H:List ba}{n:Nat}{f:Nat->Nat->Bool}(h:Pt H n f){i j:Nat}(hi:i < n)(hj:j < n):
 ∃ H',Ha H 1 (.Ec (2 * i+1) n j) (.pv (.bool true))=some H'/\Pt H' n (fun a b=>if a=i/\b=j then true else f a b):=by
 obtain⟨fl,hf,h0⟩:=h.row i hi
 have hc:(AV.pv (.bool true)).cells=[.pv (.bool true)]:=rfl
 refine⟨H.set (2 * i+1) (vD n (fun b=>if b=j then true else f i b) n),?_,?_⟩
 ·simp only[Ha,h0,vD,hc]
  rw[if_pos ⟨rfl,rfl⟩,if_pos ⟨by rw[paa,lh],by show j+1<=n;omega⟩,fa,fa,<-xae,GQ n _ hj]
 ·refine⟨by rw[uac,h.len],?_,?_,?_⟩
  ·obtain⟨nl,Y7,h1⟩:=h.hd
   exact⟨nl,Y7,by rw[Jaa (by omega)];exact h1⟩
  ·intro k hk
   by_cases hki:k=i
   ·subst hki
    refine⟨n,waa _,?_⟩;rw[Qaa (by rw[h.len];omega)];have:(fun b=>if k=k/\b=j then true else f k b)=fun b=>if b=j then true else f k b:=by funext b;simp only[true_and]
    show _=some (vD n (fun b=>if k=k/\b=j then true else f k b) n);rw[this]
   ·obtain⟨o8,hf',h1⟩:=h.row k hk
    refine⟨o8,hf',?_⟩;have:(fun b=>if k=i/\b=j then true else f k b)=f k:=by funext b;rw[taa (fun h=>hki h.1)]
    rw[Jaa (by omega),h1];show _=some (vD n (fun b=>if k=i/\b=j then true else f k b) o8);rw[this]
  ·intro m hm o ho
   rw[uac] at hm;rcases Nab ho with h1 | h1
   ·exact h.Qv m hm o h1
   ·subst h1;exact MO _ _ _ _
def VA(f:Nat->Nat->Bool)(i j a b:Nat):Bool:=if (a=i/\b=j)\/(a=j/\b=i) then true else f a b
theorem NZ(f:Nat->Nat->Bool)(i j:Nat):(fun a b=>if a=j/\b=i then true else (if a=i/\b=j then true else f a b))=VA f i j:=by
 funext a b
 unfold VA
 by_cases h1:a=i/\b=j
 ·by_cases h2:a=j/\b=i
  ·rw[if_pos h2,if_pos (.inl h1)]
  ·rw[taa h2,if_pos h1,if_pos (.inl h1)]
 ·by_cases h2:a=j/\b=i
  ·rw[if_pos h2,if_pos (.inr h2)]
  ·rw[taa h2,taa h1,taa (by intro h;rcases h with h | h <;> contradiction)]
def bh(C:List (List Int))(i x:Nat):Int:=(C.getD i []).getD x 0
def Hl(C:List (List Int))(f:Nat->Nat->Bool)(i j x:Nat):Bool:=
 ((bh C i x != bh C j x)&&(decide (bh C i x < 0)||decide (bh C j x < 0)))||(decide (bh C i x>=0)&&decide (bh C j x>=0)&&f (bh C i x).toNat (bh C j x).toNat)
structure WL(C:List (List Int)):Prop where
 row:∀ r∈C,r.length=256
 lt:∀ r∈C,∀ v∈r,v < (C.length:Int)
 sz:C.length<=64
theorem WL.get{C:List (List Int)}(h:WL C){i x:Nat}(hi:i < C.length)(hx:x < 256):C[i][x]? =some (bh C i x)/\bh C i x < (C.length:Int):=by
 have hm:=saa hi;have hl:=h.row _ hm
 have hg:C.getD i []=C[i]:=by rw[Caa,caa hi];rfl
 have h1:C[i][x]? =some (bh C i x):=by unfold bh;rw[hg,Caa,caa (by omega)];rfl
 exact⟨h1,h.lt _ hm _ (sab h1)⟩
theorem WL.Pd{C:List (List Int)}(h:WL C){i:Nat}(hi:i < C.length)(H:List ba):ta H 256 (.pv (.lit 256 (C.map Zi))) (i:Int)=some (.pv (.rp (C[i].map i64) 0)):=by
 simp only[ta];rw[if_pos (by refine⟨trivial,?_⟩;unfold Ia;simp;omega)];simp[hi,Zi,PV.cells]
theorem WL.load{C:List (List Int)}(h:WL C){i x:Nat}(hi:i < C.length)(hx:x < 256)(H:List ba):pa H false 1 (.pv (.rp (C[i].map i64) x))=some (.pv (i64 (bh C i x))):=
 UB (by rw[Faa,(h.get hi hx).1];rfl) H
abbrev bB(v:PV)(n i j x:Int)(g:Bool):Tr:=((((((Tr.lf.set 9 (.pv (i64 x))).set 8 (.pv (i64 j))).set 7 (.pv (i64 i))).set 6 (.pv (.bool g))).set 4 (.own 0 n.toNat)).set 3 (.pv (i64 n))).set 0 (.pv v)
section
variable (call:Sa){C:List (List Int)}(hC:WL C){i j:Nat}(hi:i < C.length)(hj:j < C.length)
include hC hi hj
theorem ZF{H:List ba}{f:Nat->Nat->Bool}(hM:Pt H C.length f)(g:Bool){x:Nat}(hx:x < 256):
 qd (fun r=>(f i j=true/\∃ E,r=(.exit 8,⟨E,H⟩)/\E.get 0= .pv (.lit 256 (C.map Zi))/\E.get 3= .pv (i64 C.length)/\E.get 4= .own 0 C.length/\E.get 6= .pv (.bool g)/\E.get 7= .pv (i64 i)/\E.get 8= .pv (i64 j))\/
  (f i j=false/\Hl C f i j x=false/\r=(.norm,⟨bB (.lit 256 (C.map Zi)) C.length i j (x+1:Nat) g,H⟩))\/
  (f i j=false/\Hl C f i j x=true/\∃ H',Pt H' C.length (VA f i j)/\r=(.norm,⟨bB (.lit 256 (C.map Zi)) C.length i j (x+1:Nat) true,H'⟩)))
  (ma (oa call Xa) (na (2 * C.length+1) [0,3,4,6,7,8,9]) ⟨bB (.lit 256 (C.map Zi)) C.length i j x g,H⟩):=by
 have C7:=hM.cut
 have a0:=hM.i0 hi
 have a1:=hM.l0 hi
 have b0:=hM.i0 hj
 have b1:=hM.l0 hj
 have a2:=hM.i1 hi hj
 have a3:=hM.l1 hi hj
 obtain⟨H1,s1,hM1⟩:=hM.store hi hj
 obtain⟨H2,s2,hM2⟩:=hM1.store hj hi
 rw[NZ] at hM2;have b2:=hM1.i1 hj hi
 have w9:=hM2.cut
 have c0:=fun H=>hC.Pd hi H
 have c1:=fun H=>hC.load hi hx H
 have d0:=fun H=>hC.Pd hj H
 have d1:=fun H=>hC.load hj hx H
 have hva:=(hC.get hi hx).2
 have hvb:=(hC.get hj hx).2
 have K7:=hC.sz
 have e1:decide ((x:Int) < 256)=true:=Ea (by omega);have hq:Ia (x:Int) 256:=by unfold Ia;omega
 have t1:((x:Int)).toNat=x:=by simp
 have m1:x * 1=x:=by omega
 have z1:0+x=x:=by omega
 have t2:IntKind.i64.wrap ((x:Int)+1)=((x+1:Nat):Int):=Aa (by omega)
 have tn:((C.length:Int)).toNat=C.length:=by simp
 have hz:(0 < 2 * C.length+1)=True:=by simp
 have Y9:Hl C f i j x=(((bh C i x != bh C j x)&&(decide (bh C i x < 0)||decide (bh C j x < 0)))||(decide (bh C i x>=0)&&decide (bh C j x>=0)&&f (bh C i x).toNat (bh C j x).toNat)):=rfl;have hun:0<=bh C i x->0<=bh C j x->ta H 1 (.own 0 C.length) (bh C i x)=some (.Ec 0 C.length (bh C i x).toNat)/\pa H false 1 (.Ec 0 C.length (bh C i x).toNat)=some (.own (2 * (bh C i x).toNat+1) C.length)/\
  ta H 1 (.own (2 * (bh C i x).toNat+1) C.length) (bh C j x)=some (.Ec (2 * (bh C i x).toNat+1) C.length (bh C j x).toNat)/\pa H false 1 (.Ec (2 * (bh C i x).toNat+1) C.length (bh C j x).toNat)=some (.pv (.bool (f (bh C i x).toNat (bh C j x).toNat))):=by
  intro h1 h2;have k1:=hM.i0 (i:=(bh C i x).toNat) (by omega)
  have k2:=hM.l0 (i:=(bh C i x).toNat) (by omega)
  have k3:=hM.i1 (i:=(bh C i x).toNat) (j:=(bh C j x).toNat) (by omega) (by omega)
  have k4:=hM.l1 (i:=(bh C i x).toNat) (j:=(bh C j x).toNat) (by omega) (by omega)
  rw[vac h1] at k1;rw[vac h2] at k3;exact⟨k1,k2,k3,k4⟩
 generalize bh C i x=a at *;generalize bh C j x=b at *;generalize hl:(PV.lit 256 (C.map Zi))=L at *;have hR0:f i j=true->∀ E,E.get 0= .pv L->E.get 3= .pv (i64 C.length)->E.get 4= .own 0 C.length->E.get 6= .pv (.bool g)->E.get 7= .pv (i64 i)->E.get 8= .pv (i64 j)->
  ((f i j=true/\∃ E',(Ex.exit 8,(⟨E,H⟩:St))=(.exit 8,⟨E',H⟩)/\E'.get 0= .pv L/\E'.get 3= .pv (i64 C.length)/\E'.get 4= .own 0 C.length/\E'.get 6= .pv (.bool g)/\E'.get 7= .pv (i64 i)/\E'.get 8= .pv (i64 j))\/
   (f i j=false/\Hl C f i j x=false/\(Ex.exit 8,(⟨E,H⟩:St))=(.norm,⟨bB L C.length i j (x+1:Nat) g,H⟩))\/
   (f i j=false/\Hl C f i j x=true/\∃ H',Pt H' C.length (VA f i j)/\(Ex.exit 8,(⟨E,H⟩:St))=(.norm,⟨bB L C.length i j (x+1:Nat) true,H'⟩))):=
  fun h E k0 k3 k4 k6 k7 k8=> .inl ⟨h,E,rfl,k0,k3,k4,k6,k7,k8⟩
 have hR1:f i j=false->Hl C f i j x=false->∀ s,s=(⟨bB L C.length i j (x+1:Nat) g,H⟩:St)->
  ((f i j=true/\∃ E',(Ex.norm,s)=(.exit 8,⟨E',H⟩)/\E'.get 0= .pv L/\E'.get 3= .pv (i64 C.length)/\E'.get 4= .own 0 C.length/\E'.get 6= .pv (.bool g)/\E'.get 7= .pv (i64 i)/\E'.get 8= .pv (i64 j))\/
   (f i j=false/\Hl C f i j x=false/\(Ex.norm,s)=(.norm,⟨bB L C.length i j (x+1:Nat) g,H⟩))\/
   (f i j=false/\Hl C f i j x=true/\∃ H',Pt H' C.length (VA f i j)/\(Ex.norm,s)=(.norm,⟨bB L C.length i j (x+1:Nat) true,H'⟩))):=
  fun h1 h2 s h3=> .inr (.inl ⟨h1,h2,by rw[h3]⟩)
 have hR2:f i j=false->Hl C f i j x=true->∀ s,s=(⟨bB L C.length i j (x+1:Nat) true,H2⟩:St)->
  ((f i j=true/\∃ E',(Ex.norm,s)=(.exit 8,⟨E',H⟩)/\E'.get 0= .pv L/\E'.get 3= .pv (i64 C.length)/\E'.get 4= .own 0 C.length/\E'.get 6= .pv (.bool g)/\E'.get 7= .pv (i64 i)/\E'.get 8= .pv (i64 j))\/
   (f i j=false/\Hl C f i j x=false/\(Ex.norm,s)=(.norm,⟨bB L C.length i j (x+1:Nat) g,H⟩))\/
   (f i j=false/\Hl C f i j x=true/\∃ H',Pt H' C.length (VA f i j)/\(Ex.norm,s)=(.norm,⟨bB L C.length i j (x+1:Nat) true,H'⟩))):=
  fun h1 h2 s h3=> .inr (.inr ⟨h1,h2,H2,hM2,by rw[h3]⟩)
 generalize P7:(fun r:Ex×St=>_)=QQ;generalize hu:f i j=u at *;cases u with
 |true=>simp -implicitDefEqProofs only[SX,sevalprocAttr,Xa,e1,tn,a0,a1,a2,a3,bB];subst P7;exact hR0 rfl _ (by simp[Tr.aa]) (by simp[Tr.aa]) (by simp[Tr.aa]) (by simp[Tr.aa]) (by simp[Tr.aa]) (by simp[Tr.aa])
 |false=>
  by_cases hab:a=b
  ·have ne1:(a != b)=false:=by simp[hab]
   subst hab
   by_cases ha:a>=0
   ·have da:=Ea ha
    have da':decide (a < 0)=false:=Ga (by omega);obtain⟨k1,k2,k3,k4⟩:=hun ha ha;rw[ne1,da,Fac,Tad,uab,uab] at Y9;generalize hw:f a.toNat a.toNat=w at *
    cases w with
    |true=>simp -implicitDefEqProofs only[SX,sevalprocAttr,Xa,e1,tn,a0,a1,a2,a3,b0,b1,b2,c0,c1,d0,d1,Laa hq,t1,m1,z1,Tj,ne1,da,k1,k2,k3,k4,s1,s2,t2,w9,hz,na,Ca,AV.cut,za,bB];subst P7;exact hR2 rfl Y9 _ (by simp only[bB,tn])
    |false=>simp -implicitDefEqProofs only[SX,sevalprocAttr,Xa,e1,tn,a0,a1,a2,a3,b0,b1,b2,c0,c1,d0,d1,Laa hq,t1,m1,z1,Tj,ne1,da,k1,k2,k3,k4,t2,C7,hz,na,Ca,AV.cut,za,bB];subst P7;exact hR1 rfl Y9 _ (by simp only[bB,tn])
   ·have da:=Ga ha
    rw[ne1,da,Fac,Tad,Fac,Fac] at Y9;simp -implicitDefEqProofs only[SX,sevalprocAttr,Xa,e1,tn,a0,a1,a2,a3,b0,b1,b2,c0,c1,d0,d1,Laa hq,t1,m1,z1,Tj,ne1,da,t2,C7,hz,na,Ca,AV.cut,za,bB];subst P7;exact hR1 rfl Y9 _ (by simp only[bB,tn])
  ·have ne1:(a != b)=true:=by simp[hab]
   by_cases ha:a < 0
   ·have da:=Ea ha
    rw[ne1,da] at Y9;simp only[uab,Bool.true_or] at Y9;simp -implicitDefEqProofs only[SX,sevalprocAttr,Xa,e1,tn,a0,a1,a2,a3,b0,b1,b2,c0,c1,d0,d1,Laa hq,t1,m1,z1,Tj,ne1,da,s1,s2,t2,w9,hz,na,Ca,AV.cut,za,bB];subst P7;exact hR2 rfl Y9 _ (by simp only[bB,tn])
   ·have da:=Ga ha
    have da':decide (a>=0)=true:=Ea (by omega)
    by_cases hb:b < 0
    ·have db:=Ea hb
     rw[ne1,da,db] at Y9;simp only[uab,Tad,Bool.true_or] at Y9;simp -implicitDefEqProofs only[SX,sevalprocAttr,Xa,e1,tn,a0,a1,a2,a3,b0,b1,b2,c0,c1,d0,d1,Laa hq,t1,m1,z1,Tj,ne1,da,db,s1,s2,t2,w9,hz,na,Ca,AV.cut,za,bB];subst P7;exact hR2 rfl Y9 _ (by simp only[bB,tn])
    ·have db:=Ga hb
     have db':decide (b>=0)=true:=Ea (by omega);obtain⟨k1,k2,k3,k4⟩:=hun (by omega) (by omega);rw[ne1,da,db,da',db'] at Y9;simp only[uab,Tad] at Y9;generalize hw:f a.toNat b.toNat=w at *
     cases w with
     |true=>simp -implicitDefEqProofs only[SX,sevalprocAttr,Xa,e1,tn,a0,a1,a2,a3,b0,b1,b2,c0,c1,d0,d1,Laa hq,t1,m1,z1,Tj,ne1,da,db,da',db',k1,k2,k3,k4,s1,s2,t2,w9,hz,na,Ca,AV.cut,za,bB];subst P7;exact hR2 rfl Y9 _ (by simp only[bB,tn])
     |false=>simp -implicitDefEqProofs only[SX,sevalprocAttr,Xa,e1,tn,a0,a1,a2,a3,b0,b1,b2,c0,c1,d0,d1,Laa hq,t1,m1,z1,Tj,ne1,da,db,da',db',k1,k2,k3,k4,t2,C7,hz,na,Ca,AV.cut,za,bB];subst P7;exact hR1 rfl Y9 _ (by simp only[bB,tn])
end
def JA(ss:List Ob)(B7:List Al)(a:Al)(x:Nat)(v:Int):Prop:=
 (Ag (Fm ss a x) ss.length=false/\v= -2)\/
 (Ag (Fm ss a x) ss.length=true/\Ag (sr ss a x) ss.length=true/\v= -1)\/
 (Ag (Fm ss a x) ss.length=true/\Ag (sr ss a x) ss.length=false/\∃ k m:Nat,v=(k:Int)/\uE ss a x m/\B7[k]? =some (a.1+1,(m:Int)))
theorem JA.mono{ss:List Ob}{B7 t:List Al}{a:Al}{x:Nat}{v:Int}(h:JA ss B7 a x v):JA ss (B7++t) a x v:=by
 rcases h with h | h | ⟨h1,h2,k,m,h3,h4,h5⟩
 ·exact .inl h
 ·exact .inr (.inl h)
 ·refine .inr (.inr ⟨h1,h2,k,m,h3,h4,?_⟩)
  rw[gaa (qaa.1 h5).1];exact h5
theorem nM{a:Al}:∀ {l:List Al}{k i:Nat},Tm a l k=some i->k<=i/\l[i - k]? =some a
 |b::l,k,i,h=>by
  simp only[Tm] at h
  split at h
  ·next he=>injection h with h;subst h;subst he;exact⟨waa _,by simp⟩
  ·obtain⟨h1,h2⟩:=nM h
   refine⟨by omega,?_⟩;rw[show i - k=(i - (k+1))+1 by omega,mab];exact h2
structure mQ(B7:List Al)(d:Nat):Prop where
 up:∀ (p q:Nat) a b,p<=q->B7[p]? =some a->B7[q]? =some b->a.1<=b.1
 top:∀ (q:Nat) b,B7[q]? =some b->b.1<=d+1
theorem mQ.push{B7:List Al}{d:Nat}(h:mQ B7 d)(e:Int):mQ (B7++[(d+1,e)]) d:=by
 have hg:∀ (q:Nat) b,(B7++[(d+1,e)])[q]? =some b->(q < B7.length/\B7[q]? =some b)\/(q=B7.length/\b=(d+1,e)):=by
  intro q b hb;rcases Xaa q B7.length with h1 | h1
  ·rw[gaa h1] at hb;exact .inl ⟨h1,hb⟩
  ·rw[Paa h1] at hb
   cases hq:q - B7.length with
   |zero=>rw[hq] at hb;simp at hb;exact .inr ⟨by omega,hb.symm⟩
   |succ n=>rw[hq] at hb;simp at hb
 refine⟨?_,?_⟩
 ·intro p q a b hpq ha hb
  rcases hg p a ha with⟨h1,h2⟩ | ⟨h1,h2⟩ <;> rcases hg q b hb with⟨h3,h4⟩ | ⟨h3,h4⟩
  ·exact h.up p q a b hpq h2 h4
  ·rw[h4];exact h.top p a h2
  ·omega
  ·rw[h2,h4];exact waa _
 ·intro q b hb
  rcases hg q b hb with⟨h3,h4⟩ | ⟨h3,h4⟩
  ·exact h.top q b h4
  ·rw[h4];exact waa _
theorem zV{ss:List Ob}(hw:ss.length<=32){B7:List Al}{a:Al}(hba:rW a){x:Nat}{p:List Al×Int}(h:rh ss a x B7=some p)(hR:mQ B7 a.1):
 JA ss p.1 a x p.2/\mQ p.1 a.1/\((p.1=B7)\/(p.1.length=B7.length+1/\p.2=(B7.length:Int))):=by
 obtain⟨m,hm⟩:=iW (x:=x) hba hw;rw[hm.step B7] at h
 by_cases h1:Ag (Fm ss a x) ss.length=false
 ·rw[if_pos h1] at h
  injection h with h;subst h
  exact⟨.inl ⟨h1,rfl⟩,hR,.inl rfl⟩
 ·rw[taa h1] at h
  have s9:Ag (Fm ss a x) ss.length=true:=by simpa using h1
  by_cases h2:Ag (sr ss a x) ss.length=true
  ·rw[if_pos h2] at h
   injection h with h;subst h
   exact⟨.inr (.inl ⟨s9,h2,rfl⟩),hR,.inl rfl⟩
  ·rw[taa h2] at h
   have h2':Ag (sr ss a x) ss.length=false:=by simpa using h2
   cases hi:Tm (a.1+1,(m:Int)) B7 0 with
   |some k=>
    rw[hi] at h;injection h with h;subst h
    exact⟨.inr (.inr ⟨s9,h2',k,m,rfl,hm,(nM hi).2⟩),hR,.inl rfl⟩
   |none=>
    rw[hi] at h;simp only at h
    split at h
    ·injection h with h;subst h
     refine⟨.inr (.inr ⟨s9,h2',B7.length,m,rfl,hm,by simp⟩),hR.push _,.inr ⟨by simp,rfl⟩⟩
    ·cases h
theorem tM{ss:List Ob}(hw:ss.length<=32){a:Al}(hba:rW a){i:Nat}:∀ (xs:List Nat)(r r':List Al×List Int),xs.Nodup->(∀ x∈xs,x < r.2.length)->zo ss r.1->r.1[i]? =some a->mQ r.1 a.1->Vl ss a xs r=some r'->
 (∀ x∈xs,JA ss r'.1 a x (r'.2.getD x 0))/\(∀ y,y ∉ xs->r'.2.getD y 0=r.2.getD y 0)/\(∀ k,r.1.length<=k->k < r'.1.length->∃ x∈xs,r'.2.getD x 0=(k:Int))/\mQ r'.1 a.1
 | [],r,r',_,_,_,_,hR,e=>by
   injection e with e;subst e
   exact⟨by simp,fun _ _=>rfl,fun k h1 h2=>by omega,hR⟩
 |x::xs,r,r',hnd,hlt,Ba,ha,hR,e=>by
  cases W7:rh ss a x r.1 with
  |none=>rw[Ku W7] at e;cases e
  |some p=>
   rw[Vu W7] at e;obtain⟨s1,s2,s3⟩:=zV hw hba W7 hR;obtain⟨g1,t,g2⟩:=QF Ba ha hw W7;rw[List.nodup_cons] at hnd;have hi:=(qaa.1 ha).1
   have hxl:=hlt x (by simp);obtain⟨k1,k2,k3,k4⟩:=tM hw hba xs (p.1,r.2.set x p.2) r' hnd.2 (fun y hy=>by rw[uac];exact hlt y (by simp[hy])) g1 (by rw[g2,gaa hi];exact ha) s2 e
   obtain⟨_,⟨t',q2⟩,_⟩:=Vw hw xs (p.1,r.2.set x p.2) r' g1 (by rw[g2,gaa hi];exact ha) e;simp only at q2;have hx:r'.2.getD x 0=p.2:=by rw[k2 x hnd.1,Caa,Qaa hxl];rfl
   refine⟨?_,?_,?_,k4⟩
   ·intro y hy
    rcases bab.1 hy with rfl | hy
    ·rw[hx,q2];exact s1.mono
    ·exact k1 y hy
   ·intro y hy
    rw[bab,not_or] at hy;rw[k2 y hy.2,Caa,Jaa (rac hy.1),<-Caa]
   ·intro k h1 h2
    rcases s3 with s3 | ⟨s3,s4⟩
    ·obtain⟨y,hy,h3⟩:=k3 k (by rw[s3];exact h1) h2
     exact⟨y,by simp[hy],h3⟩
    ·by_cases hk:k=r.1.length
     ·exact⟨x,by simp,by rw[hx,s4,hk]⟩
     ·obtain⟨y,hy,h3⟩:=k3 k (by simp only;omega) h2
      exact⟨y,by simp[hy],h3⟩
structure um(ss:List Ob)(B7:List Al)(C:List (List Int)):Prop where
 ok:zo ss B7
 le:C.length<=B7.length
 first:B7[0]? =some (0,Wr ss.length)
 row:∀ r∈C,r.length=256
 step:∀ (k:Nat) a,k < C.length->B7[k]? =some a->∀ x,x < 256->JA ss B7 a x (bh C k x)
 up:∀ (p q:Nat) a b,p<=q->B7[p]? =some a->B7[q]? =some b->a.1<=b.1
 top:∀ (k q:Nat) a b,k=C.length->B7[k]? =some a->B7[q]? =some b->b.1<=a.1+1
 reach:∀ k,0 < k->k < B7.length->∃ j x,j < k/\j < C.length/\x < 256/\bh C j x=(k:Int)
theorem uS{C:List (List Int)}{r:List Int}{k x:Nat}(hk:k < C.length):bh (C++[r]) k x=bh C k x:=by
 have:(C++[r]).getD k []=C.getD k []:=by rw[Caa,gaa hk,<-Caa]
 unfold bh;rw[this]
theorem pS{C:List (List Int)}{r:List Int}{x:Nat}:bh (C++[r]) C.length x=r.getD x 0:=by
 unfold bh;have:(C++[r]).getD C.length []=r:=by rw[Caa,Paa (waa _),uad];rfl
 rw[this]
theorem um.next{ss:List Ob}(hw:ss.length<=32){B7:List Al}{C:List (List Int)}(h:um ss B7 C){a:Al}(ha:B7[C.length]? =some a){p:List Al×List Int}(hp:Vl ss a (List.range 256) (B7,fb)=some p):um ss p.1 (C++[p.2]):=by
 have hlt:=(qaa.1 ha).1
 obtain⟨_,b,hb,H9,_⟩:=h.ok.2 _ a ha
 have hba:rW a:=⟨b,hb,H9⟩;obtain⟨k1,k2,k3,k4⟩:=tM hw hba (i:=C.length) (List.range 256) (B7,fb) p List.nodup_range (fun x hx=>by simp only[uv];simpa using hx) h.ok ha ⟨h.up,fun q b hb=>h.top C.length q a b rfl ha hb⟩ hp
 obtain⟨g1,⟨t,g2⟩,g3⟩:=Vw hw (List.range 256) (B7,fb) p h.ok ha hp
 simp only at g2 g3;rw[uv] at g3;have hold:∀ (k:Nat) c,k < B7.length->(p.1[k]? =some c↔B7[k]? =some c):=fun k c hk=>by rw[g2,gaa hk]
 refine⟨g1,?_,?_,?_,?_,k4.up,?_,?_⟩
 ·rw[g2];simp;omega
 ·rw[hold 0 _ (by omega)];exact h.first
 ·intro r hr
  rcases Naa.1 hr with h1 | h1
  ·exact h.row r h1
  ·rw[Sab] at h1;subst h1;exact g3
 ·intro k c hk hc x hx
  rw[Aaa,tad] at hk;rcases Xaa k C.length with h1 | h1
  ·rw[uS h1,g2]
   exact (h.step k c h1 ((hold k c (by omega)).1 hc) x hx).mono
  ·have:k=C.length:=by omega
   subst this;have hca:c=a:=by
    have:=(hold C.length c hlt).1 hc
    rw[ha] at this;injection this with this;exact this.symm
   subst hca;rw[pS];exact k1 x (by simpa using hx)
 ·intro k q c d hk hc hd
  rw[Aaa,tad] at hk;have h1:=k4.top q d hd
  have h2:=k4.up C.length k a c (by omega) ((hold _ a hlt).2 ha) hc
  omega
 ·intro k h0 hk
  rcases Xaa k B7.length with h1 | h1
  ·obtain⟨j,x,h2,h3,h4,h5⟩:=h.reach k h0 h1
   exact⟨j,x,h2,by rw[Aaa];omega,h4,by rw[uS h3];exact h5⟩
  ·obtain⟨x,hx,h2⟩:=k3 k h1 hk
   exact⟨C.length,x,by omega,by simp,by simpa using hx,by rw[pS];exact h2⟩
theorem pJ{ss:List Ob}(hw:ss.length<=32):∀ (k:Nat)(r r':List Al×List (List Int)),r.2.length+k=64->um ss r.1 r.2->ph ss k r=some r'->um ss r'.1 r'.2/\r'.2.length=r'.1.length
 |0,r,r',hk,h,e=>by
  injection e with e;subst e
  have:=h.ok.1
  have:=h.le
  exact⟨h,by omega⟩
 |k+1,r,r',hk,h,e=>by
  cases ha:r.1[r.2.length]? with
  |none=>
   rw[Iv ha] at e;injection e with e;subst e
   refine⟨h,?_⟩;have:=h.le
   rcases Xaa r.2.length r.1.length with h1 | h1
   ·rw[caa h1] at ha;cases ha
   ·omega
  |some a=>
   cases hr:Vl ss a (List.range 256) (r.1,fb) with
   |none=>rw[uw ha hr] at e;cases e
   |some p=>rw[Sv ha hr] at e;exact pJ hw k (p.1,r.2++[p.2]) r' (by simp;omega) (h.next hw ha hr) e
theorem ZJ{ss:List Ob}(hw:ss.length<=32)(I7:∀ s∈ss,0 < s.parts.length){p:List Al×List (List Int)}(h:ph ss 64 (qh ss,[])=some p):um ss p.1 p.2/\p.2.length=p.1.length:=by
 refine pJ hw 64 (qh ss,[]) p rfl ⟨FB hw I7,by simp,rfl,by simp,fun k a hk=>by simp at hk,?_,?_,?_⟩ h
 ·intro p q a b hpq ha hb
  have:p=0/\q=0:=by
   have h1:=(qaa.1 ha).1
   have h2:=(qaa.1 hb).1
   simp[qh] at h1 h2;omega
  obtain⟨rfl,rfl⟩:=this;rw[ha] at hb;injection hb with hb;subst hb;exact waa _
 ·intro k q a b hk ha hb
  have h2:=(qaa.1 hb).1
  simp[qh] at h2;subst h2;simp[qh] at hb;subst hb;simp
 ·intro k h0 hk
  simp[qh] at hk;omega
attribute [local irreducible] qd
def nR(C:List (List Int))(i j:Nat)(f:Nat->Nat->Bool)(g:Bool)(f':Nat->Nat->Bool)(g':Bool):Prop:=
 (f'=f/\g'=g/\(f i j=true\/∀ x,x < 256->Hl C f i j x=false))\/(f i j=false/\(∃ x,x < 256/\Hl C f i j x=true)/\f'=VA f i j/\g'=true)
section
variable (call:Sa){C:List (List Int)}(hC:WL C)
include hC
theorem uX{i j:Nat}(hi:i < C.length)(hj:j < C.length){H:List ba}{f:Nat->Nat->Bool}(hM:Pt H C.length f)(g:Bool):
 qd (fun r=>∃ E H' f' g',r=(.exit 8,⟨E,H'⟩)/\Pt H' C.length f'/\nR C i j f g f' g'/\E.get 0= .pv (.lit 256 (C.map Zi))/\E.get 3= .pv (i64 C.length)/\E.get 4= .own 0 C.length/\E.get 6= .pv (.bool g')/\E.get 7= .pv (i64 i)/\E.get 8= .pv (i64 j))
  (ab (ma (oa call Xa) (na (2 * C.length+1) [0,3,4,6,7,8,9])) ua ⟨bB (.lit 256 (C.map Zi)) C.length i j 0 g,H⟩):=by
 have hs2:VA f i j i j=true:=by unfold VA;rw[if_pos (.inl ⟨rfl,rfl⟩)]
 refine wa (Gb (g:=ma (oa call Xa) (na (2 * C.length+1) [0,3,4,6,7,8,9]))
  (fun x t=>∃ H' f' g',t=⟨bB (.lit 256 (C.map Zi)) C.length i j x g',H'⟩/\Pt H' C.length f'/\((f'=f/\g'=g/\(f i j=true\/∀ x',x' < x->Hl C f i j x'=false))\/(f i j=false/\(∃ x,x < 256/\Hl C f i j x=true)/\f'=VA f i j/\g'=true)))
  256 (by unfold ua;omega) _ ⟨H,f,g,rfl,hM,.inl ⟨rfl,rfl,.inr fun x h=>by omega⟩⟩ ?_ ?_) (fun r h=>h.2)
 ·rintro x t hx ⟨H',f',g',rfl,hM',hP⟩
  refine wa (ZF call hC hi hj hM' g' hx) ?_;rintro r (⟨hu,E,rfl,k0,k3,k4,k6,k7,k8⟩ | ⟨hu,Y9,rfl⟩ | ⟨hu,Y9,H2,hM2,rfl⟩)
  ·refine⟨E,H',f',g',rfl,hM',?_,k0,k3,k4,k6,k7,k8⟩
   rcases hP with⟨rfl,rfl,hp⟩ | ⟨h1,h2,h3,h4⟩
   ·exact .inl ⟨rfl,rfl,.inl hu⟩
   ·exact .inr ⟨h1,h2,h3,h4⟩
  ·rcases hP with⟨rfl,rfl,hp⟩ | ⟨h1,h2,rfl,h4⟩
   ·refine⟨H',f',g',rfl,hM',.inl ⟨rfl,rfl,.inr fun x' hx'=> ?_⟩⟩
    rcases hp with hp | hp
    ·rw[hu] at hp;cases hp
    ·rcases Xaa x' x with h | h
     ·exact hp x' h
     ·have:x'=x:=by omega
      subst this;exact Y9
   ·rw[hs2] at hu;cases hu
  ·rcases hP with⟨rfl,rfl,hp⟩ | ⟨h1,h2,rfl,h4⟩
   ·exact⟨H2,_,true,rfl,hM2,.inr ⟨hu,⟨x,hx,Y9⟩,rfl,rfl⟩⟩
   ·rw[hs2] at hu;cases hu
 ·rintro t ⟨H',f',g',rfl,hM',hP⟩
  have e1:decide (((256:Nat):Int) < 256)=false:=Ga (by omega);have Q7:∀ E,E.get 0= .pv (.lit 256 (C.map Zi))->E.get 3= .pv (i64 C.length)->E.get 4= .own 0 C.length->E.get 6= .pv (.bool g')->E.get 7= .pv (i64 i)->E.get 8= .pv (i64 j)->
   (Ex.exit 8,(⟨E,H'⟩:St)).1.stop=true/\∃ E' H2 f' g',(Ex.exit 8,(⟨E,H'⟩:St))=(.exit 8,⟨E',H2⟩)/\Pt H2 C.length f'/\nR C i j f g f' g'/\E'.get 0= .pv (.lit 256 (C.map Zi))/\E'.get 3= .pv (i64 C.length)/\E'.get 4= .own 0 C.length/\E'.get 6= .pv (.bool g')/\E'.get 7= .pv (i64 i)/\E'.get 8= .pv (i64 j):=
   fun E k0 k3 k4 k6 k7 k8=>⟨rfl,E,H',f',g',rfl,hM',hP,k0,k3,k4,k6,k7,k8⟩
  have tn:((C.length:Int)).toNat=C.length:=by simp
  generalize hQ:(fun r:Ex×St=>r.1.stop=true/\_)=Q;generalize (PV.lit 256 (C.map Zi))=L at *;simp -implicitDefEqProofs only[SX,sevalprocAttr,Xa,e1,tn,bB];subst hQ;exact Q7 _ (by simp[Tr.aa]) (by simp[Tr.aa]) (by simp[Tr.aa]) (by simp[Tr.aa]) (by simp[Tr.aa]) (by simp[Tr.aa])
end
def Gp(n:Nat)(f:Nat->Nat->Bool):Nat:=((List.range n).flatMap fun i=>(List.range n).map fun j=>(i,j)).countP fun p=> !f p.1 p.2
theorem KI{α:Type}{p q:α->Bool}:∀ {l:List α},(∀ a∈l,q a=true->p a=true)->(∃ a∈l,p a=true/\q a=false)->l.countP q < l.countP p
 | [],_,⟨a,h,_⟩=>by cases h
 |b::l,h,⟨a,ha,hp,hq⟩=>by
  rw[List.countP_cons,List.countP_cons];have Wac:l.countP q<=l.countP p:=List.countP_mono_left fun x hx h1=>h x (by simp[hx]) h1
  rcases bab.1 ha with rfl | ha
  ·rw[hp,hq];simp;omega
  ·have ih:=KI (l:=l) (fun x hx=>h x (by simp[hx])) ⟨a,ha,hp,hq⟩
   have hb:=h b (by simp);cases hqb:q b with
   |false=>simp;omega
   |true=>rw[hb hqb];simp;omega
theorem rT{n:Nat}{f:Nat->Nat->Bool}{i j:Nat}(hi:i < n)(hj:j < n)(h:f i j=false):Gp n (VA f i j) < Gp n f:=by
 refine KI ?_ ⟨(i,j),?_,?_,?_⟩
 ·rintro⟨a,b⟩ _ h1
  simp only[VA,tac] at h1 ⊢
  split at h1
  ·cases h1
  ·exact h1
 ·rw[List.mem_flatMap]
  exact⟨i,by simpa using hi,by rw[oab];exact⟨j,by simpa using hj,rfl⟩⟩
 ·simp[h]
 ·simp[VA]
theorem oU(n:Nat)(f:Nat->Nat->Bool):Gp n f<=n * n:=by
 refine sac List.countP_le_length ?_
 have:∀ l:List Nat,(l.flatMap fun i=>(List.range n).map fun j=>(i,j)).length=l.length * n:=by
  intro l
  induction l with
  |nil=>simp
  |cons a l ih=>rw[rad,Aaa,ih,paa,mac,Raa,vae];omega
 rw[this,mac];exact waa _
structure Zt(C:List (List Int))(D:Nat->Nat->Prop)(f0:Nat->Nat->Bool)(done:Nat->Nat->Prop)(f:Nat->Nat->Bool)(g:Bool):Prop where
 snd:∀ a b,f a b=true->D a b
 sym:∀ a b,f a b=f b a
 ie:g=false->f=f0/\∀ i j,done i j->f i j=true\/∀ x,x < 256->Hl C f i j x=false
 le:Gp C.length f<=Gp C.length f0
 lt:g=true->Gp C.length f < Gp C.length f0
def HN(C:List (List Int))(D:Nat->Nat->Prop):Prop:=(∀ a b,D a b->D b a)/\
 ∀ i j x (f:Nat->Nat->Bool),i < C.length->j < C.length->x < 256->(∀ a b,f a b=true->D a b)->Hl C f i j x=true->D i j
theorem Zt.step{C:List (List Int)}{D:Nat->Nat->Prop}(hD:HN C D){f0 f f':Nat->Nat->Bool}{done:Nat->Nat->Prop}{g g':Bool}(h:Zt C D f0 done f g){i j:Nat}(hi:i < C.length)(hj:j < C.length)(hp:nR C i j f g f' g'):
 Zt C D f0 (fun a b=>done a b\/(a=i/\b=j)) f' g':=by
 rcases hp with⟨rfl,rfl,hp⟩ | ⟨h1,⟨x,hx,h2⟩,rfl,rfl⟩
 ·refine⟨h.snd,h.sym,fun hg=>⟨(h.ie hg).1,?_⟩,h.le,h.lt⟩
  rintro a b (hd | ⟨rfl,rfl⟩)
  ·exact (h.ie hg).2 a b hd
  ·exact hp
 ·have hd:=hD.2 i j x f hi hj hx h.snd h2
  have hlt:=rT hi hj h1;have hle:=h.le
  refine⟨?_,?_,fun hg=>(by cases hg),by omega,fun _=>by omega⟩
  ·intro a b hab
   unfold VA at hab
   split at hab
   ·next hc=>
    rcases hc with⟨rfl,rfl⟩ | ⟨rfl,rfl⟩
    ·exact hd
    ·exact hD.1 _ _ hd
   ·exact h.snd a b hab
  ·intro a b
   unfold VA;rw[h.sym a b]
   congr 1
   apply propext;constructor
   ·rintro (⟨h1,h2⟩ | ⟨h1,h2⟩)
    ·exact .inr ⟨h2,h1⟩
    ·exact .inl ⟨h2,h1⟩
   ·rintro (⟨h1,h2⟩ | ⟨h1,h2⟩)
    ·exact .inr ⟨h2,h1⟩
    ·exact .inl ⟨h2,h1⟩
theorem Zt.weaken{C:List (List Int)}{D:Nat->Nat->Prop}{f0 f:Nat->Nat->Bool}{done aaf:Nat->Nat->Prop}{g:Bool}(h:Zt C D f0 done f g)(hd:∀ a b,aaf a b->done a b):Zt C D f0 aaf f g:=
 ⟨h.snd,h.sym,fun hg=>⟨(h.ie hg).1,fun a b hab=>(h.ie hg).2 a b (hd a b hab)⟩,h.le,h.lt⟩
attribute [local irreducible] qd
abbrev U2(v:PV)(n i j:Int)(g:Bool):Tr:=(((((Tr.lf.set 8 (.pv (i64 j))).set 7 (.pv (i64 i))).set 6 (.pv (.bool g))).set 4 (.own 0 n.toNat)).set 3 (.pv (i64 n))).set 0 (.pv v)
abbrev O2(v:PV)(n i:Int)(g:Bool):Tr:=((((Tr.lf.set 7 (.pv (i64 i))).set 6 (.pv (.bool g))).set 4 (.own 0 n.toNat)).set 3 (.pv (i64 n))).set 0 (.pv v)
abbrev T1(v:PV)(n:Int)(g:Bool):Tr:=(((Tr.lf.set 6 (.pv (.bool g))).set 4 (.own 0 n.toNat)).set 3 (.pv (i64 n))).set 0 (.pv v)
section
variable (call:Sa){C:List (List Int)}(hC:WL C){D:Nat->Nat->Prop}(hD:HN C D){f0:Nat->Nat->Bool}
include hC hD
theorem XX{i:Nat}(hi:i < C.length){done:Nat->Nat->Prop}{H:List ba}{f:Nat->Nat->Bool}(hM:Pt H C.length f){g:Bool}(hP:Zt C D f0 done f g):
 qd (fun r=>∃ E H' f' g',r=(.exit 6,⟨E,H'⟩)/\Pt H' C.length f'/\Zt C D f0 (fun a b=>done a b\/(a=i/\b < i)) f' g'/\E.get 0= .pv (.lit 256 (C.map Zi))/\E.get 3= .pv (i64 C.length)/\E.get 4= .own 0 C.length/\E.get 6= .pv (.bool g')/\E.get 7= .pv (i64 i))
  (ab (ma (oa call Bf) (na (2 * C.length+1) [0,3,4,6,7,8])) ua ⟨U2 (.lit 256 (C.map Zi)) C.length i 0 g,H⟩):=by
 have K7:=hC.sz
 refine wa (Gb (g:=ma (oa call Bf) (na (2 * C.length+1) [0,3,4,6,7,8]))
  (fun j t=>∃ H' f' g',t=⟨U2 (.lit 256 (C.map Zi)) C.length i j g',H'⟩/\Pt H' C.length f'/\Zt C D f0 (fun a b=>done a b\/(a=i/\b < j)) f' g')
  i (by unfold ua;omega) _ ⟨H,f,g,rfl,hM,hP.weaken fun a b h=>by rcases h with h | h;exact h;omega⟩ ?_ ?_) (fun r h=>h.2)
 ·rintro j t hj ⟨H',f',g',rfl,hM',hP'⟩
  have hj2:j < C.length:=by omega
  have U8:=uX call hC hi hj2 hM' g';have e1:decide ((j:Int) < (i:Int))=true:=Ea (by omega);have t2:IntKind.i64.wrap ((j:Int)+1)=((j+1:Nat):Int):=Aa (by omega)
  have tn:((C.length:Int)).toNat=C.length:=by simp
  have hz:(0 < 2 * C.length+1)=True:=by simp
  have C7:=hM'.cut
  have hlen:=hM'.len
  have M8:∀ H2 f2 g2,Pt H2 C.length f2->nR C i j f' g' f2 g2->
   LN (fun j t=>∃ H' f' g',t=⟨U2 (.lit 256 (C.map Zi)) C.length i j g',H'⟩/\Pt H' C.length f'/\Zt C D f0 (fun a b=>done a b\/(a=i/\b < j)) f' g')
    (fun r=>∃ E H' f' g',r=(.exit 6,⟨E,H'⟩)/\Pt H' C.length f'/\Zt C D f0 (fun a b=>done a b\/(a=i/\b < i)) f' g'/\E.get 0= .pv (.lit 256 (C.map Zi))/\E.get 3= .pv (i64 C.length)/\E.get 4= .own 0 C.length/\E.get 6= .pv (.bool g')/\E.get 7= .pv (i64 i)) j
    (.norm,⟨U2 (.lit 256 (C.map Zi)) C.length i (j+1:Nat) g2,H2⟩):=by
   intro H2 f2 g2 h1 h2;refine⟨H2,f2,g2,rfl,h1,(hP'.step hD hi hj2 h2).weaken ?_⟩;rintro a b (h | ⟨rfl,h⟩)
   ·exact .inl (.inl h)
   ·rcases Xaa b j with h3 | h3
    ·exact .inl (.inr ⟨rfl,h3⟩)
    ·exact .inr ⟨rfl,by omega⟩
  generalize LN _ _ j=QQ at M8 ⊢;generalize (PV.lit 256 (C.map Zi))=L at *;simp -implicitDefEqProofs only[SX,sevalprocAttr,Bf,e1,Db,hlen,C7,hz,tn,na,Ca,AV.cut,za,U2];simp only[bB,tn] at U8;refine wa U8 ?_;rintro r ⟨E,H2,f2,g2,rfl,hM2,hP2,k0,k3,k4,k6,k7,k8⟩;have w9:=hM2.cut
  have L8:=hM2.len
  have Uaa:=M8 H2 f2 g2 hM2 hP2;simp -implicitDefEqProofs only[SX,sevalprocAttr,k0,k3,k4,k6,k7,k8,t2,L8,w9,hz,na,Ca,AV.cut,za];simp only[U2,tn] at Uaa;exact Uaa
 ·rintro t ⟨H',f',g',rfl,hM',hP'⟩
  have e1:decide ((i:Int) < (i:Int))=false:=Ga (by omega);have tn:((C.length:Int)).toNat=C.length:=by simp
  have Q7:∀ E,E.get 0= .pv (.lit 256 (C.map Zi))->E.get 3= .pv (i64 C.length)->E.get 4= .own 0 C.length->E.get 6= .pv (.bool g')->E.get 7= .pv (i64 i)->
   (Ex.exit 6,(⟨E,H'⟩:St)).1.stop=true/\∃ E' H2 f' g',(Ex.exit 6,(⟨E,H'⟩:St))=(.exit 6,⟨E',H2⟩)/\Pt H2 C.length f'/\Zt C D f0 (fun a b=>done a b\/(a=i/\b < i)) f' g'/\E'.get 0= .pv (.lit 256 (C.map Zi))/\E'.get 3= .pv (i64 C.length)/\E'.get 4= .own 0 C.length/\E'.get 6= .pv (.bool g')/\E'.get 7= .pv (i64 i):=
   fun E k0 k3 k4 k6 k7=>⟨rfl,E,H',f',g',rfl,hM',hP',k0,k3,k4,k6,k7⟩
  generalize hQ:(fun r:Ex×St=>r.1.stop=true/\_)=Q;generalize (PV.lit 256 (C.map Zi))=L at *;simp -implicitDefEqProofs only[SX,sevalprocAttr,Bf,e1,tn,U2];subst hQ;exact Q7 _ (by simp[Tr.aa]) (by simp[Tr.aa]) (by simp[Tr.aa]) (by simp[Tr.aa]) (by simp[Tr.aa])
theorem LV{H:List ba}{f:Nat->Nat->Bool}(hM:Pt H C.length f){g:Bool}(hP:Zt C D f0 (fun _ _=>False) f g):
 qd (fun r=>∃ E H' f' g',r=(.exit 4,⟨E,H'⟩)/\Pt H' C.length f'/\Zt C D f0 (fun a b=>a < C.length/\b < a) f' g'/\E.get 0= .pv (.lit 256 (C.map Zi))/\E.get 3= .pv (i64 C.length)/\E.get 4= .own 0 C.length/\E.get 6= .pv (.bool g'))
  (ab (ma (oa call Ff) (na (2 * C.length+1) [0,3,4,6,7])) ua ⟨O2 (.lit 256 (C.map Zi)) C.length 0 g,H⟩):=by
 have K7:=hC.sz
 refine wa (Gb (g:=ma (oa call Ff) (na (2 * C.length+1) [0,3,4,6,7]))
  (fun i t=>∃ H' f' g',t=⟨O2 (.lit 256 (C.map Zi)) C.length i g',H'⟩/\Pt H' C.length f'/\Zt C D f0 (fun a b=>a < i/\b < a) f' g')
  C.length (by unfold ua;omega) _ ⟨H,f,g,rfl,hM,hP.weaken fun a b h=>by omega⟩ ?_ ?_) (fun r h=>h.2)
 ·rintro i t hi ⟨H',f',g',rfl,hM',hP'⟩
  have U8:=XX call hC hD hi hM' hP';have e1:decide ((i:Int) < (C.length:Int))=true:=Ea (by omega);have t2:IntKind.i64.wrap ((i:Int)+1)=((i+1:Nat):Int):=Aa (by omega)
  have tn:((C.length:Int)).toNat=C.length:=by simp
  have hz:(0 < 2 * C.length+1)=True:=by simp
  have C7:=hM'.cut
  have hlen:=hM'.len
  have M8:∀ H2 f2 g2,Pt H2 C.length f2->Zt C D f0 (fun a b=>(a < i/\b < a)\/(a=i/\b < i)) f2 g2->
   LN (fun i t=>∃ H' f' g',t=⟨O2 (.lit 256 (C.map Zi)) C.length i g',H'⟩/\Pt H' C.length f'/\Zt C D f0 (fun a b=>a < i/\b < a) f' g')
    (fun r=>∃ E H' f' g',r=(.exit 4,⟨E,H'⟩)/\Pt H' C.length f'/\Zt C D f0 (fun a b=>a < C.length/\b < a) f' g'/\E.get 0= .pv (.lit 256 (C.map Zi))/\E.get 3= .pv (i64 C.length)/\E.get 4= .own 0 C.length/\E.get 6= .pv (.bool g')) i
    (.norm,⟨O2 (.lit 256 (C.map Zi)) C.length (i+1:Nat) g2,H2⟩):=by
   intro H2 f2 g2 h1 h2;refine⟨H2,f2,g2,rfl,h1,h2.weaken ?_⟩;rintro a b ⟨h3,h4⟩;rcases Xaa a i with h5 | h5
   ·exact .inl ⟨h5,h4⟩
   ·exact .inr ⟨by omega,by omega⟩
  generalize LN _ _ i=QQ at M8 ⊢;generalize (PV.lit 256 (C.map Zi))=L at *;simp -implicitDefEqProofs only[SX,sevalprocAttr,Ff,e1,Db,hlen,C7,hz,tn,na,Ca,AV.cut,za,O2];simp only[U2,tn] at U8;refine wa U8 ?_;rintro r ⟨E,H2,f2,g2,rfl,hM2,hP2,k0,k3,k4,k6,k7⟩;have w9:=hM2.cut
  have L8:=hM2.len
  have Uaa:=M8 H2 f2 g2 hM2 hP2;simp -implicitDefEqProofs only[SX,sevalprocAttr,k0,k3,k4,k6,k7,t2,L8,w9,hz,na,Ca,AV.cut,za];simp only[O2,tn] at Uaa;exact Uaa
 ·rintro t ⟨H',f',g',rfl,hM',hP'⟩
  have e1:decide ((C.length:Int) < (C.length:Int))=false:=Ga (by omega);have tn:((C.length:Int)).toNat=C.length:=by simp
  have Q7:∀ E,E.get 0= .pv (.lit 256 (C.map Zi))->E.get 3= .pv (i64 C.length)->E.get 4= .own 0 C.length->E.get 6= .pv (.bool g')->
   (Ex.exit 4,(⟨E,H'⟩:St)).1.stop=true/\∃ E' H2 f' g',(Ex.exit 4,(⟨E,H'⟩:St))=(.exit 4,⟨E',H2⟩)/\Pt H2 C.length f'/\Zt C D f0 (fun a b=>a < C.length/\b < a) f' g'/\E'.get 0= .pv (.lit 256 (C.map Zi))/\E'.get 3= .pv (i64 C.length)/\E'.get 4= .own 0 C.length/\E'.get 6= .pv (.bool g'):=
   fun E k0 k3 k4 k6=>⟨rfl,E,H',f',g',rfl,hM',hP',k0,k3,k4,k6⟩
  generalize hQ:(fun r:Ex×St=>r.1.stop=true/\_)=Q;generalize (PV.lit 256 (C.map Zi))=L at *;simp -implicitDefEqProofs only[SX,sevalprocAttr,Ff,e1,tn,O2];subst hQ;exact Q7 _ (by simp[Tr.aa]) (by simp[Tr.aa]) (by simp[Tr.aa]) (by simp[Tr.aa])
end
structure dA(C:List (List Int))(D:Nat->Nat->Prop)(f:Nat->Nat->Bool)(g:Bool):Prop where
 snd:∀ a b,f a b=true->D a b
 sym:∀ a b,f a b=f b a
 closed:g=false->∀ i j,i < C.length->j < i->f i j=true\/∀ x,x < 256->Hl C f i j x=false
theorem fY(call:Sa){C:List (List Int)}(hC:WL C){D:Nat->Nat->Prop}(hD:HN C D){H:List ba}{f:Nat->Nat->Bool}(hM:Pt H C.length f)(hK:dA C D f true):
 qd (fun r=>∃ E H' f',r=(.exit 2,⟨E,H'⟩)/\Pt H' C.length f'/\dA C D f' false/\E.get 4= .own 0 C.length)
  (ab (ma (oa call Gf) (na (2 * C.length+1) [0,3,4,6])) ua ⟨T1 (.lit 256 (C.map Zi)) C.length true,H⟩):=by
 have K7:=hC.sz
 have hfl:∀ f,Gp C.length f<=4096:=fun f=>sac (oU _ _) (Nat.mul_le_mul K7 K7)
 refine wa (Es (g:=ma (oa call Gf) (na (2 * C.length+1) [0,3,4,6]))
  (fun k t=>∃ H' f' g',t=⟨T1 (.lit 256 (C.map Zi)) C.length g',H'⟩/\Pt H' C.length f'/\dA C D f' g'/\k=Gp C.length f'+if g' then 1 else 0)
  ua (Gp C.length f+1) _ (by have:=hfl f;unfold ua;omega) ⟨H,f,true,rfl,hM,hK,rfl⟩ ?_) (fun r h=>h.2)
 rintro k t ⟨H',f',g',rfl,hM',hK',hk⟩;have tn:((C.length:Int)).toNat=C.length:=by simp
 cases g' with
 |false=>
  have Q7:∀ E,E.get 4= .own 0 C.length->
   LQ (fun k t=>∃ H' f' g',t=⟨T1 (.lit 256 (C.map Zi)) C.length g',H'⟩/\Pt H' C.length f'/\dA C D f' g'/\k=Gp C.length f'+if g' then 1 else 0)
    (fun r=>∃ E H' f',r=(.exit 2,⟨E,H'⟩)/\Pt H' C.length f'/\dA C D f' false/\E.get 4= .own 0 C.length) k (.exit 2,⟨E,H'⟩):=fun E k4=>⟨E,H',f',rfl,hM',hK',k4⟩
  generalize LQ _ _ k=QQ at Q7 ⊢;generalize (PV.lit 256 (C.map Zi))=L at *;simp -implicitDefEqProofs only[SX,sevalprocAttr,Gf,tn,T1];exact Q7 _ (by simp[Tr.aa])
 |true=>
  have hP0:Zt C D f' (fun _ _=>False) f' false:=⟨hK'.snd,hK'.sym,fun _=>⟨rfl,fun _ _ h=>h.elim⟩,waa _,fun h=>by cases h⟩;have U8:=LV call hC hD hM' hP0;have hz:(0 < 2 * C.length+1)=True:=by simp
  have C7:=hM'.cut
  have hlen:=hM'.len
  have M8:∀ H2 f2 g2,Pt H2 C.length f2->Zt C D f' (fun a b=>a < C.length/\b < a) f2 g2->
   LQ (fun k t=>∃ H' f' g',t=⟨T1 (.lit 256 (C.map Zi)) C.length g',H'⟩/\Pt H' C.length f'/\dA C D f' g'/\k=Gp C.length f'+if g' then 1 else 0)
    (fun r=>∃ E H' f',r=(.exit 2,⟨E,H'⟩)/\Pt H' C.length f'/\dA C D f' false/\E.get 4= .own 0 C.length) k (.norm,⟨T1 (.lit 256 (C.map Zi)) C.length g2,H2⟩):=by
   intro H2 f2 g2 h1 h2;refine⟨Gp C.length f2+if g2 then 1 else 0,?_,H2,f2,g2,rfl,h1,⟨h2.snd,h2.sym,fun hg i j hi hj=>(h2.ie hg).2 i j ⟨hi,hj⟩⟩,rfl⟩;rw[hk];cases g2 with
   |false=>have:=h2.le;simp;omega
   |true=>have:=h2.lt rfl;simp;omega
  generalize LQ _ _ k=QQ at M8 ⊢;generalize (PV.lit 256 (C.map Zi))=L at *;simp -implicitDefEqProofs only[SX,sevalprocAttr,Gf,Db,hlen,C7,hz,tn,na,Ca,AV.cut,za,T1];simp only[O2,tn] at U8;refine wa U8 ?_;rintro r ⟨E,H2,f2,g2,rfl,hM2,hP2,k0,k3,k4,k6⟩;have w9:=hM2.cut
  have L8:=hM2.len
  have Uaa:=M8 H2 f2 g2 hM2 hP2;simp -implicitDefEqProofs only[SX,sevalprocAttr,k0,k3,k4,k6,L8,w9,hz,na,Ca,AV.cut,za];simp only[T1,tn] at Uaa;exact Uaa
theorem MG:∀ {C:List (List Int)},(∀ r∈C,r.length=256)->∀ {k:Nat},(hk:k < C.length)->Va C.flatten k=C[k]
 | [],_,k,hk=>by simp at hk
 |r::C,h,0,hk=>by
  have hr:=h r (by simp);show ((r++C.flatten).drop (0 * 256)).take 256=r
  rw[Kae,Aac,Jac (by omega),Zaa (by omega)]
 |r::C,h,k+1,hk=>by
  have hr:=h r (by simp);have ih:=MG (C:=C) (fun r' N8=>h r' (by simp[N8])) (k:=k) (by simpa using hk);show ((r++C.flatten).drop ((k+1) * 256)).take 256=C[k]'(by simpa using hk)
  rw[show (k+1) * 256=r.length+k * 256 by omega,Hae,Cae (by omega),cab,Eac];exact ih
theorem tv:∀ {C:List (List Int)},(∀ r∈C,r.length=256)->C.flatten.length=C.length * 256
 | [],_=>rfl
 |r::C,h=>by rw[aac,Aaa,h r (by simp),tv fun r' N8=>h r' (by simp[N8]),Raa];omega
section
variable {ss:List Ob}{B7:List Al}{C:List (List Int)}(W:um ss B7 C)(hl:C.length=B7.length)
include W hl
theorem um.at{k x:Nat}(hk:k < C.length)(hx:x < 256):∃ a,B7[k]? =some a/\JA ss B7 a x (bh C k x):=by
 have h1:B7[k]? =some (B7[k]'(by omega)):=caa (by omega);exact⟨_,h1,W.step k _ hk h1 x hx⟩
theorem um.bound{k x:Nat}(hk:k < C.length)(hx:x < 256): -2<=bh C k x/\bh C k x < C.length:=by
 obtain⟨a,ha,h⟩:=W.at hl hk hx
 rcases h with⟨_,h⟩ | ⟨_,_,h⟩ | ⟨_,_,k',m,h,_,h2⟩
 ·omega
 ·omega
 ·have:=(qaa.1 h2).1
  omega
omit hl in
theorem um.val{r:List Int}(hr:r∈C){v:Int}(hv:v∈r):∃ k x,k < C.length/\x < 256/\v=bh C k x:=by
 obtain⟨k,hk,rfl⟩:=Eab hr;obtain⟨x,hx,rfl⟩:=Eab hv;have Eak:=W.row _ (saa hk)
 refine⟨k,x,hk,by omega,?_⟩;unfold bh;have:C.getD k []=C[k]:=by rw[Caa,caa hk];rfl
 rw[this,Caa,caa hx];rfl
theorem um.vg:WL C:=by
 refine⟨W.row,?_,by have:=W.ok.1;omega⟩;intro r hr v hv;obtain⟨k,x,hk,hx,rfl⟩:=W.val hr hv
 exact (W.bound hl hk hx).2
theorem um.ge:∀ r∈C,∀ v∈r,-2<=v:=by
 intro r hr v hv;obtain⟨k,x,hk,hx,rfl⟩:=W.val hr hv
 exact (W.bound hl hk hx).1
theorem um.LC{k x:Nat}(hk:k < C.length)(hx:x < 256)(h:0<=bh C k x):(k:Int) < bh C k x:=by
 obtain⟨a,ha,hs⟩:=W.at hl hk hx
 rcases hs with⟨_,h2⟩ | ⟨_,_,h2⟩ | ⟨_,_,k',m,h2,_,h3⟩
 ·omega
 ·omega
 ·rw[h2]
  rcases Xaa k k' with h4 | h4
  ·omega
  ·have:=W.up k' k _ _ h4 h3 ha
   simp only at this;omega
theorem um.later:yR C.length C.flatten:=by
 intro j hj to A8 h0;rw[MG W.row hj] at A8;obtain⟨x,hx,rfl⟩:=Eab A8;have Eak:=W.row _ (saa hj)
 have hn:C[j][x]=bh C j x:=by
  unfold bh;have:C.getD j []=C[j]:=by rw[Caa,caa hj];rfl
  rw[this,Caa,caa hx];rfl
 rw[hn] at h0 ⊢;exact⟨W.LC hl hj (by omega) h0,(W.bound hl hj (by omega)).2⟩
end
def cls(C:List (List Int))(j:Nat):Int:=(mf C.length C.flatten).Ac.getD j 0
def Ur(C:List (List Int))(j x:Nat):Int:=if 0<=bh C j x then cls C (bh C j x).toNat else bh C j x
section
variable {ss:List Ob}{B7:List Al}{C:List (List Int)}(W:um ss B7 C)(hl:C.length=B7.length)
include W hl
theorem um.uA:ZA C.length C.flatten 0 (mf C.length C.flatten):=RU (W.later hl) (tv W.row)
theorem um.SU{j x:Nat}(hj:j < C.length)(hx:x < 256):(Va (mf C.length C.flatten).C j).getD x 0=Ur C j x:=by
 have h:=(W.uA hl).hi j (by omega) hj
 have hg:=(W.vg hl).get hj hx
 rw[h,MG W.row hj,Caa,Faa,hg.1];show Rs _ (bh C j x)=Ur C j x;unfold Rs Ur cls;rfl
theorem um.qC{j:Nat}(hj:j < C.length):(Va (mf C.length C.flatten).C j).length=256:=Fi (W.uA hl).hC hj
theorem um.aL{i j:Nat}(hi:i < C.length)(hj:j < C.length):cls C i=cls C j↔∀ x,x < 256->Ur C i x=Ur C j x:=by
 unfold cls;rw[(W.uA hl).lO hi hj];constructor
 ·intro h x hx
  rw[<- W.SU hl hi hx,<-W.SU hl hj hx,h]
 ·intro h
  apply Vab;intro x
  by_cases hx:x < 256
  ·have h1:=W.qC hl hi
   have h2:=W.qC hl hj
   have h3:=h x hx;rw[<- W.SU hl hi hx,<-W.SU hl hj hx,Caa,Caa,caa (by omega),caa (by omega)] at h3;rw[caa (by omega),caa (by omega)];exact congrArg some h3
  ·rw[Yaa (by rw[W.qC hl hi];omega),Yaa (by rw[W.qC hl hj];omega)]
theorem um.I5:HN C fun i j=>cls C i≠cls C j:=by
 refine⟨fun a b h=>h.symm,?_⟩;intro i j x f hi hj hx hs ht he;have h:=(W.aL hl hi hj).1 he x hx
 unfold Ur at h;unfold Hl at ht;generalize bh C i x=a at *;generalize bh C j x=b at *;rw[Oac,daa,daa,daa,Oac] at ht;simp only[decide_eq_true_eq,bne_iff_ne,ne_eq] at ht;rcases ht with⟨h1,h2⟩ | ⟨⟨h1,h2⟩,h3⟩
 ·by_cases ha:0<=a
  ·by_cases hb:0<=b
   ·omega
   ·rw[if_pos ha,taa hb] at h
    have:0<=cls C a.toNat\/C.length<=a.toNat:=by
     rcases Xaa a.toNat C.length with h4 | h4
     ·exact .inl ((W.uA hl).Gq h4).1
     ·exact .inr h4
    rcases this with h5 | h5
    ·omega
    ·have:cls C a.toNat=0:=by
      unfold cls;rw[Caa,Yaa (by rw[(W.uA hl).hk];exact h5)];rfl
     omega
  ·by_cases hb:0<=b
   ·rw[taa ha,if_pos hb] at h
    have:0<=cls C b.toNat:=by
     rcases Xaa b.toNat C.length with h4 | h4
     ·exact ((W.uA hl).Gq h4).1
     ·have:cls C b.toNat=0:=by
       unfold cls;rw[Caa,Yaa (by rw[(W.uA hl).hk];exact h4)];rfl
      omega
    omega
   ·rw[taa ha,taa hb] at h;exact h1 h
 ·rw[if_pos h1,if_pos h2] at h
  exact hs _ _ h3 h
theorem um.known{f:Nat->Nat->Bool}(hK:dA C (fun i j=>cls C i≠cls C j) f false):∀ i j,i < C.length->j < C.length->(f i j=false↔cls C i=cls C j):=by
 have key:∀ (m i j:Nat),(C.length - i)+(C.length - j)<=m->i < C.length->j < C.length->f i j=false->cls C i=cls C j:=by
  intro m
  induction m with
  |zero=>intro i j h hi hj;omega
  |succ m ih=>
   intro i j hm hi hj hf
   by_cases hij:i=j
   ·rw[hij]
   have O7:∀ x,x < 256->Hl C f i j x=false:=by
    have hsw:∀ x,Hl C f j i x=Hl C f i j x:=by intro x;unfold Hl;rw[hK.sym,bne_comm,Bool.or_comm (decide (bh C j x < 0)),Bool.and_comm (decide (bh C j x>=0))]
    rcases Nat.lt_or_gt_of_ne hij with h1 | h1
    ·rcases hK.closed rfl j i hj h1 with h2 | h2
     ·rw[hK.sym,hf] at h2;cases h2
     ·intro x hx;rw[<- hsw];exact h2 x hx
    ·rcases hK.closed rfl i j hi h1 with h2 | h2
     ·rw[hf] at h2;cases h2
     ·exact h2
   rw[W.aL hl hi hj];intro x hx;have ht:=O7 x hx;have di:=W.LC hl hi hx
   have dj:=W.LC hl hj hx
   have bi:=(W.bound hl hi hx).2
   have bj:=(W.bound hl hj hx).2
   unfold Ur;unfold Hl at ht;generalize bh C i x=a at *;generalize bh C j x=b at *;simp only[Had,Bool.and_eq_false_iff,bne_eq_false_iff_eq,decide_eq_false_iff_not] at ht
   by_cases hab:a=b
   ·rw[hab]
   ·have h1:¬a < 0/\¬b < 0:=by
     rcases ht.1 with h | h
     ·exact absurd h hab
     ·exact h
    have h2:f a.toNat b.toNat=false:=by
     rcases ht.2 with (h | h) | h
     ·omega
     ·omega
     ·exact h
    rw[if_pos (by omega),if_pos (by omega)];have:=di (by omega);have:=dj (by omega);exact ih a.toNat b.toNat (by omega) (by omega) (by omega) h2
 intro i j hi hj;refine⟨key _ i j (waa _) hi hj,fun h=> ?_⟩;cases hf:f i j with
 |false=>rfl
 |true=>exact absurd h (hK.snd i j hf)
end
def mo(s:Ob)(w:List Nat):Prop:=∀ j x,w[j]? =some x->Jo s j x=true
def Full(s:Ob)(w:List Nat):Prop:=mo s w/\w.length=s.parts.length
def Bytes(w:List Nat):Prop:=∀ x∈w,x < 256
theorem SG{s:Ob}{j x:Nat}(h:Jo s j x=true):j < s.parts.length:=by
 unfold Jo at h;cases hp:s.parts[j]? with
 |none=>rw[hp] at h;cases h
 |some l=>exact (qaa.1 hp).1
theorem CM{s:Ob}{w:List Nat}(h:mo s w):w.length<=s.parts.length:=by
 rcases Zac w.length with h0 | h0
 ·omega
 ·have:=SG (h (w.length - 1) _ (caa (by omega)))
  omega
theorem PW(s:Ob):mo s []:=by intro j x h;simp at h
theorem RT{s:Ob}{w:List Nat}{x:Nat}:mo s (w++[x])↔mo s w/\Jo s w.length x=true:=by
 constructor
 ·intro h
  refine⟨fun j y hj=>h j y ?_,h w.length x (by simp)⟩;rw[gaa (qaa.1 hj).1];exact hj
 ·rintro⟨h1,h2⟩ j y hj
  rcases Xaa j w.length with h | h
  ·rw[gaa h] at hj;exact h1 j y hj
  ·rw[Paa h] at hj
   cases hq:j - w.length with
   |succ n=>rw[hq] at hj;simp at hj
   |zero=>
    rw[hq] at hj;simp at hj;have:j=w.length:=by omega
    subst this;subst hj;exact h2
theorem yM{s:Ob}{w u:List Nat}(h:mo s (w++u)):mo s w:=by
 intro j y hj;refine h j y ?_;rw[gaa (qaa.1 hj).1];exact hj
theorem dM{p q:Ob}(op:Be p)(oq:Be q)(hlt:p.parts.length<=q.parts.length){w:List Nat}(hw:Bytes w)(hp:Full p w)(hq:mo q w):vf p q=true:=by
 have key:∀ (m i:Nat),i+m=p.parts.length->(ec p.parts q.parts m i).isSome=true:=by
  intro m
  induction m with
  |zero=>intro i _;rfl
  |succ m ih=>
   intro i hi;have h1:i < p.parts.length:=by omega
   have h2:i < q.parts.length:=by omega
   have hwi:i < w.length:=by rw[hp.2];exact h1
   have I7:Rq p.parts q.parts i≠[]:=by
    rw[QA h1 h2 (op.parts _ (saa h1)).2 (oq.parts _ (saa h2)).2];have k1:=hp.1 i w[i] (caa hwi)
    have k2:=hq i w[i] (caa hwi);unfold Jo at k1 k2;rw[caa h1] at k1;rw[caa h2] at k2;exact⟨w[i],hw _ (saa hwi),k1,k2⟩
   rw[ec];cases hm:Rq p.parts q.parts i with
   |nil=>exact absurd hm I7
   |cons a r=>have:=ih (i+1) (by omega);simp only[Option.isSome_map];exact this
 exact key _ 0 (by omega)
theorem gK{ss:List Ob}(Ba:Xb ss)(H7:Df ss){p q:Ob}(hp:p∈ss)(hq:q∈ss){w:List Nat}(hw:Bytes w)(h1:Full p w)(h2:mo q w):¬p.parts.length < q.parts.length:=by
 intro hlt;obtain⟨i,hi,rfl⟩:=Eab hp;obtain⟨j,hj,rfl⟩:=Eab hq;have:=H7 i j hi hj hlt;rw[dM (Ba.ft _ hp) (Ba.ft _ hq) (Nat.le_of_lt hlt) hw h1 h2] at this;cases this
def runT(C:List (List Int)):Int->List Nat->Int
 |k,[]=>k
 |k,x::w=>if k < 0 then -2 else runT C (bh C k.toNat x) w
theorem WW{C:List (List Int)}{u:List Nat}:runT C (-2) u= -2:=by cases u <;> rfl
theorem uH(C:List (List Int)):∀ (w u:List Nat)(k:Int),runT C k (w++u)=runT C (runT C k w) u
 | [],u,k=>rfl
 |x::w,u,k=>by
  rw[fab,runT,runT]
  split
  ·rw[WW]
  ·exact uH C w u _
theorem mJ(C:List (List Int))(w:List Nat)(x:Nat)(k:Int):runT C k (w++[x])=if runT C k w < 0 then -2 else bh C (runT C k w).toNat x:=by
 rw[uH,runT];rfl
def qL(ss:List Ob)(a:Al)(w:List Nat):Prop:=a.1=w.length/\∀ i,a.2.toNat.testBit i=true↔∃ s,ss[i]? =some s/\mo s w
theorem qL.on{ss:List Ob}{a:Al}{w:List Nat}(h:qL ss a w)(x i:Nat):Fm ss a x i=true↔∃ s,ss[i]? =some s/\mo s (w++[x]):=by
 unfold Fm;rw[daa,h.2];cases hs:ss[i]? with
 |none=>simp
 |some s=>simp only[eaa,exists_eq_left',h.1];rw[RT]
theorem qL.end{ss:List Ob}{a:Al}{w:List Nat}(h:qL ss a w)(x i:Nat):sr ss a x i=true↔∃ s,ss[i]? =some s/\Full s (w++[x]):=by
 unfold sr;rw[daa,h.on];cases hs:ss[i]? with
 |none=>simp
 |some s=>
  simp only[eaa,exists_eq_left',h.1,beq_iff_eq];unfold Full;rw[Aaa,tad];constructor
  ·rintro⟨h1,h2⟩;exact⟨h1,by omega⟩
  ·rintro⟨h1,h2⟩;exact⟨h1,by omega⟩
theorem qL.N2{ss:List Ob}{a:Al}{w:List Nat}(h:qL ss a w)(x:Nat):Ag (Fm ss a x) ss.length=true↔∃ s∈ss,mo s (w++[x]):=by
 rw[Zu];constructor
 ·rintro⟨j,_,h1⟩
  obtain⟨s,h2,h3⟩:=(h.on x j).1 h1
  exact⟨s,sab h2,h3⟩
 ·rintro⟨s,h1,h2⟩
  obtain⟨j,hj,rfl⟩:=Eab h1;exact⟨j,hj,(h.on x j).2 ⟨_,caa hj,h2⟩⟩
theorem qL.QV{ss:List Ob}{a:Al}{w:List Nat}(h:qL ss a w)(x:Nat):Ag (sr ss a x) ss.length=true↔∃ s∈ss,Full s (w++[x]):=by
 rw[Zu];constructor
 ·rintro⟨j,_,h1⟩
  obtain⟨s,h2,h3⟩:=(h.end x j).1 h1
  exact⟨s,sab h2,h3⟩
 ·rintro⟨s,h1,h2⟩
  obtain⟨j,hj,rfl⟩:=Eab h1;exact⟨j,hj,(h.end x j).2 ⟨_,caa hj,h2⟩⟩
theorem zM{n:Nat}(h:n<=32)(i:Nat):(Wr n).toNat.testBit i=decide (i < n):=by
 rw[IG h,Eaa,Nat.testBit_two_pow_sub_one]
def K2(ss:List Ob)(B7:List Al)(w:List Nat)(v:Int):Prop:=
 (v= -1/\∃ s∈ss,Full s w)\/
 (0<=v/\(∃ a,B7[v.toNat]? =some a/\qL ss a w)/\(w=[]\/∃ s∈ss,mo s w/\w.length < s.parts.length)/\∀ s∈ss,¬Full s w)\/
 (v= -2/\w≠[]/\∀ s∈ss,¬mo s w)
section
variable {ss:List Ob}{B7:List Al}{C:List (List Int)}(Ba:Xb ss)(H7:Df ss)(W:um ss B7 C)(hl:C.length=B7.length)
include Ba H7 W hl
theorem dB:∀ (m:Nat)(w:List Nat),w.length=m->Bytes w->K2 ss B7 w (runT C 0 w)
 |0,w,hm,_=>by
  have:w=[]:=yaa hm;subst this;refine .inr (.inl ⟨Kac _,⟨_,W.first,rfl,fun i=> ?_⟩,.inl rfl,?_⟩)
  ·rw[zM Ba.len i,decide_eq_true_iff]
   constructor
   ·intro h;exact⟨ss[i],caa h,PW _⟩
   ·rintro⟨s,h,_⟩;exact (qaa.1 h).1
  ·intro s hs hf
   have:=(Ba.ft s hs).lo
   have:=hf.2
   simp at this;omega
 |m+1,w,hm,hb=>by
  obtain⟨u,x,rfl⟩:∃ u x,w=u++[x]:=by
   rcases cae w with rfl | ⟨u,x,rfl⟩
   ·simp at hm
   ·exact⟨u,x,dae⟩
  have hum:u.length=m:=by simpa using hm
  have hbu:Bytes u:=fun y hy=>hb y (by simp[hy]);have hx:x < 256:=hb x (by simp);have ih:=dB m u hum hbu;rw[mJ];have I7:u++[x]≠[]:=by simp
  have hlen:(u++[x]).length=u.length+1:=by simp
  rcases ih with⟨hv,s,hs,hf⟩ | ⟨hv,⟨a,ha,hd⟩,h1,h2⟩ | ⟨hv,_,h1⟩
  ·rw[hv,if_pos (by decide)]
   refine .inr (.inr ⟨rfl,I7,fun q hq hmq=> ?_⟩)
   have h1:=yM hmq;have h2:=CM hmq;exact gK Ba H7 hs hq hbu hf h1 (by rw[<- hf.2];omega)
  ·rw[taa (by omega)]
   have hk:=(qaa.1 ha).1
   rcases W.step _ a (by omega) ha x hx with⟨q1,q2⟩ | ⟨q1,q2,q3⟩ | ⟨q1,q2,k',m',q3,q4,q5⟩
   ·rw[q2]
    refine .inr (.inr ⟨rfl,I7,fun s hs hms=> ?_⟩)
    rw[(hd.N2 x).2 ⟨s,hs,hms⟩] at q1;cases q1
   ·rw[q3]
    exact .inl ⟨rfl,(hd.QV x).1 q2⟩
   ·rw[q3]
    have hnf:∀ s∈ss,¬Full s (u++[x]):=fun s hs hf=>by rw[(hd.QV x).2 ⟨s,hs,hf⟩] at q2;cases q2
    refine .inr (.inl ⟨Int.natCast_nonneg _,⟨_,by rw[Eaa];exact q5,?_,?_⟩,?_,hnf⟩)
    ·rw[hlen,<-hd.1]
    ·intro i
     show (m':Int).toNat.testBit i=true↔_
     rw[Eaa,q4.bit,hd.on]
    ·obtain⟨s,hs,hms⟩:=(hd.N2 x).1 q1
     refine .inr ⟨s,hs,hms,?_⟩
     have:=CM hms;have:=hnf s hs;rcases Xaa (u++[x]).length s.parts.length with h | h
     ·exact h
     ·exact absurd ⟨hms,by omega⟩ this
  ·rw[hv,if_pos (by decide)]
   exact .inr (.inr ⟨rfl,I7,fun s hs hms=>h1 s hs (yM hms)⟩)
end
section
variable {ss:List Ob}{B7:List Al}{C:List (List Int)}(W:um ss B7 C)(hl:C.length=B7.length)
include W hl
theorem um.VP{k:Nat}(hk:k < C.length):0<=cls C k:=((W.uA hl).Gq hk).1
theorem um.jO:∀ (w:List Nat)(i j:Nat),Bytes w->i < C.length->j < C.length->cls C i=cls C j->(runT C i w= -1↔runT C j w= -1)
 | [],i,j,_,_,_,_=>by show ((i:Int)= -1↔(j:Int)= -1);constructor <;> intro h <;> omega
 |x::w,i,j,hb,hi,hj,h=>by
  have hx:x < 256:=hb x (by simp);have hbw:Bytes w:=fun y hy=>hb y (by simp[hy]);have hn:=(W.aL hl hi hj).1 h x hx
  have b1:=W.bound hl hi hx
  have b2:=W.bound hl hj hx
  rw[runT,runT,taa (by omega),taa (by omega),Eaa,Eaa];unfold Ur at hn
  by_cases h1:0<=bh C i x
  ·by_cases h2:0<=bh C j x
   ·rw[if_pos h1,if_pos h2] at hn
    have:=um.jO w (bh C i x).toNat (bh C j x).toNat hbw (by omega) (by omega) hn
    rw[vac h1,vac h2] at this;exact this
   ·rw[if_pos h1,taa h2] at hn
    have:=W.VP hl (k:=(bh C i x).toNat) (by omega)
    omega
  ·by_cases h2:0<=bh C j x
   ·rw[taa h1,if_pos h2] at hn
    have:=W.VP hl (k:=(bh C j x).toNat) (by omega)
    omega
   ·rw[taa h1,taa h2] at hn
    rw[hn]
theorem um.path:∀ (m k:Nat),k<=m->k < C.length->∃ w,Bytes w/\runT C 0 w=(k:Int)
 |0,k,hm,hk=>by
  have:k=0:=by omega
  subst this;exact⟨[],by simp[Bytes],rfl⟩
 |m+1,k,hm,hk=>by
  rcases Zac k with rfl | h0
  ·exact⟨[],by simp[Bytes],rfl⟩
  ·obtain⟨j,x,hj,hjC,hx,hn⟩:=W.reach k h0 (by omega)
   obtain⟨w,hw,hr⟩:=um.path m j (by omega) hjC
   refine⟨w++[x],?_,?_⟩
   ·intro y hy
    rcases Naa.1 hy with h | h
    ·exact hw y h
    ·simp at h;subst h;exact hx
   ·rw[mJ,hr,taa (by omega),Eaa,hn]
end
theorem mem_some{l:List (Int×Int)}(h:Hd l):∃ x,x < 256/\lj l x=true:=by
 obtain⟨p,hp⟩:=List.exists_mem_of_ne_nil _ h.1
 have h1:=Vn h.2 p hp
 refine⟨p.1.toNat,by omega,?_⟩;rw[lj,h.2,uab,sw,vac h1.1];exact⟨p,hp,Kac _,h1.2.1⟩
theorem gV{s:Ob}(h:∀ l∈s.parts,Hd l):∃ w,Bytes w/\Full s w:=by
 have key:∀ (ls:List (List (Int×Int))),(∀ l∈ls,Hd l)->∃ w:List Nat,w.length=ls.length/\(∀ x∈w,x < 256)/\∀ (j x:Nat),w[j]? =some x->∃ l,ls[j]? =some l/\lj l x=true:=by
  intro ls
  induction ls with
  |nil=>exact fun _=>⟨[],rfl,by simp,by simp⟩
  |cons l ls ih=>
   intro h;obtain⟨x,hx,hm⟩:=mem_some (h l (by simp));obtain⟨w,h1,h2,h3⟩:=ih fun l' T8=>h l' (by simp[T8]);refine⟨x::w,by simp[h1],?_,?_⟩
   ·intro y hy
    rcases bab.1 hy with rfl | hy
    ·exact hx
    ·exact h2 y hy
   ·intro j y hj
    cases j with
    |zero=>simp at hj;subst hj;exact⟨l,rfl,hm⟩
    |succ j=>simp at hj;exact h3 j y hj
 obtain⟨w,h1,h2,h3⟩:=key s.parts h
 refine⟨w,h2,?_,h1⟩;intro j x hj;obtain⟨l,h4,h5⟩:=h3 j x hj;unfold Jo;rw[h4];exact h5
theorem X0{ss:List Ob}(h:ss≠[]):∃ s∈ss,∀ q∈ss,q.parts.length<=s.parts.length:=by
 induction ss with
 |nil=>exact absurd rfl h
 |cons a ss ih=>
  by_cases hs:ss=[]
  ·subst hs;exact⟨a,by simp,by simp⟩
  ·obtain⟨s,h1,h2⟩:=ih hs
   rcases Xaa a.parts.length s.parts.length with h3 | h3
   ·refine⟨s,by simp[h1],fun q hq=> ?_⟩
    rcases bab.1 hq with rfl | hq
    ·omega
    ·exact h2 q hq
   ·refine⟨a,by simp,fun q hq=> ?_⟩
    rcases bab.1 hq with rfl | hq
    ·exact waa _
    ·exact sac (h2 q hq) h3
theorem um.jE{ss:List Ob}{B7:List Al}{C:List (List Int)}(Ba:Xb ss)(H7:Df ss)(W:um ss B7 C)(hl:C.length=B7.length){k:Nat}(h0:0 < k)(hk:k < C.length):cls C 0≠cls C k:=by
 intro he;obtain⟨w,hw,hr⟩:=W.path hl k k (waa _) hk
 have Rah:w≠[]:=by rintro rfl;have:(0:Int)=(k:Int):=hr;omega
 have I7:ss≠[]:=by
  rintro rfl;rcases dB Ba H7 W hl _ w rfl hw with⟨h1,_⟩ | ⟨_,_,h1,_⟩ | ⟨h1,_⟩
  ·omega
  ·rcases h1 with h1 | ⟨s,hs,_⟩
   ·exact Rah h1
   ·cases hs
  ·omega
 obtain⟨s,hs,Gad⟩:=X0 I7;obtain⟨u,hu,hf⟩:=gV (Ba.ft s hs).parts
 have h1:runT C 0 u= -1:=by
  rcases dB Ba H7 W hl _ u rfl hu with⟨h1,_⟩ | ⟨_,_,_,h1⟩ | ⟨_,_,h1⟩
  ·exact h1
  ·exact absurd hf (h1 s hs)
  ·exact absurd hf.1 (h1 s hs)
 have h2:runT C k u= -1:=(W.jO hl u 0 k hu (by omega) hk he).1 h1
 have h3:runT C 0 (w++u)= -1:=by rw[uH,hr];exact h2
 have hb:Bytes (w++u):=by
  intro y hy;rcases Naa.1 hy with h | h
  ·exact hw y h
  ·exact hu y h
 rcases dB Ba H7 W hl _ (w++u) rfl hb with⟨_,q,hq,hfq⟩ | ⟨h4,_⟩ | ⟨h4,_⟩
 ·have h5:=Gad q hq
  have h6:=hfq.2
  have h7:=hf.2
  have h8:0 < w.length:=by
   cases w with
   |nil=>exact absurd rfl Rah
   |cons=>simp
  rw[Aaa] at h6;omega
 ·omega
 ·omega
attribute [local irreducible] qd
abbrev B4(v:PV)(n i:Int):Tr:=(((Tr.lf.set 5 (.pv (i64 i))).set 4 (.own 0 i.toNat)).set 3 (.pv (i64 n))).set 0 (.pv v)
def Rn(n i:Nat):List AV:=(List.range i).map fun k=> .own (2 * k+1) n
theorem yQ(n i:Nat):(Rn n i).length=i:=by rw[Rn,paa,mac]
theorem SM(n i:Nat):Rn n (i+1)=Rn n i++[.own (2 * i+1) n]:=by
 rw[Rn,vad,qac];rfl
theorem sP{n i m:Nat}(h:2 * i+1<=m)(fl:Nat)(nl:Bool):qa m (.seq 1 false (Rn n i) fl nl)=some (.seq 1 false (Rn n i) fl nl):=by
 have:(Rn n i).all (AV.ie m deep)=true:=by
  rw[aab];intro v hv;obtain⟨k,hk,rfl⟩:=oab.1 hv
  have:k < i:=by simpa using hk
  show decide (2 * k+1 < m)=true;exact decide_eq_true (by omega)
 simp[qa,this]
structure oI(H:List ba)(n i:Nat):Prop where
 len:H.length=2 * i+1
 hd:∃ nl,H[0]? =some (.seq 1 false (Rn n i) 0 nl)/\(nl=true->i=0)
 row:∀ k,k < i->H[2 * k+1]? =some (vD n (fun _=>false) 0)
 Qv:Vd H
theorem oI.step{H:List ba}{n i:Nat}(h:oI H n i)(Y:ba)(hY:Y= .seq 1 false [.own (2 * i+1) n] 0 false):
 oI ((H++[vD n (fun _=>false) 0]++[Y]).set 0 (.seq 1 false (Rn n (i+1)) 0 false)) n (i+1):=by
 have hl:=h.len
 refine⟨by simp[hl];omega,⟨false,?_,fun h=>by cases h⟩,?_,?_⟩
 ·rw[Qaa (by simp)]
 ·intro k hk
  rw[Jaa (by omega)];rcases Xaa k i with h1 | h1
  ·rw[gaa (by simp;omega),gaa (by omega)]
   exact h.row k h1
  ·have:k=i:=by omega
   subst this;rw[gaa (by simp;omega),Paa (by omega),hl,uad];rfl
 ·intro m hm o ho
  simp only[uac,Aaa,tad,hl] at hm;rcases Nab ho with h1 | h1
  ·rw[Naa,Naa,Sab,Sab] at h1
   rcases h1 with (h1 | h1) | h1
   ·exact h.Qv m (by omega) o h1
   ·subst h1;exact MO _ _ _ _
   ·subst h1 hY
    have:([AV.own (2 * i+1) n]).all (AV.ie m deep)=true:=by show (decide (2 * i+1 < m)&&true)=true;rw[decide_eq_true (by omega)];rfl
    simp[qa,this]
  ·subst h1;exact sP (by omega) _ _
theorem UO(n:Nat):Ml [.bool false] n=(eg n fun _=>false).map AV.pv:=by
 have:∀ n,Ml [.bool false] n=List.replicate n (.pv (.bool false)):=by
  intro n
  induction n with
  |zero=>rfl
  |succ n ih=>rw[Ml,ih];rfl
 rw[this,<-XF,xad]
theorem EX(call:Sa)(v:PV)(n:Nat)(hn:n<=64):
 qd (fun r=>∃ E H,r=(.exit 0,⟨E,H⟩)/\oI H n n/\E.get 0= .pv v/\E.get 3= .pv (i64 n)/\E.get 4= .own 0 n)
  (ab (ma (oa call Ef) (fun s=>some (tidy [0,3,4,5] s))) ua ⟨B4 v n 0,[.seq 1 false [] 0 true]⟩):=by
 refine wa (Gb (g:=ma (oa call Ef) (fun s=>some (tidy [0,3,4,5] s)))
  (fun i t=>∃ H,t=⟨B4 v n i,H⟩/\oI H n i)
  n (by unfold ua;omega) _ ⟨_,rfl,⟨rfl,⟨true,rfl,fun _=>rfl⟩,fun k h=>by omega,?_⟩⟩ ?_ ?_) (fun r h=>h.2)
 ·intro m hm o ho
  rw[Sab] at ho;subst ho;rfl
 ·rintro i t hi ⟨H,rfl,hM⟩
  have e1:decide ((i:Int) < (n:Int))=true:=Ea (by omega);have t2:IntKind.i64.wrap ((i:Int)+1)=((i+1:Nat):Int):=Aa (by omega)
  have ti:((i:Int)).toNat=i:=by simp
  have ti1:(((i+1:Nat):Int)).toNat=i+1:=by simp
  have tn:((n:Int)).toNat=n:=by simp
  have Vaf:=UO n;have hl:=hM.len
  have hc:((0:Int)<=(n:Int)/\(n:Int)<=(n:Int)/\eb n 1)=True:=Laa ⟨by omega,by omega,by unfold eb;omega⟩;have R9:(H++[ba.seq 1 false ((eg n fun _=>false).map AV.pv) 0 false]).length=2 * i+2:=by simp[hl]
  obtain⟨nl,hd,Y7⟩:=hM.hd
  have w8:=hM.step _ rfl
  have e8:Cb (H++[ba.seq 1 false ((eg n fun _=>false).map AV.pv) 0 false]++[ba.seq 1 false [AV.own (2 * i+1) n] 0 false]) true .own 1 false 24 (.own 0 i) (.own (2 * i+2) 1)=
   some (.own 0 (i+1),(H++[ba.seq 1 false ((eg n fun _=>false).map AV.pv) 0 false]++[ba.seq 1 false [AV.own (2 * i+1) n] 0 false]).set 0 (.seq 1 false (Rn n (i+1)) 0 false)):=by
   have g0:(H++[ba.seq 1 false ((eg n fun _=>false).map AV.pv) 0 false]++[ba.seq 1 false [AV.own (2 * i+1) n] 0 false])[0]? =some (.seq 1 false (Rn n i) 0 nl):=by rw[gaa (by simp),gaa (by omega)];exact hd
   have g1:(H++[ba.seq 1 false ((eg n fun _=>false).map AV.pv) 0 false]++[ba.seq 1 false [AV.own (2 * i+1) n] 0 false])[2 * i+2]? =some (ba.seq 1 false [AV.own (2 * i+1) n] 0 false):=by rw[Paa (by rw[R9];exact waa _),R9,uad];rfl
   simp only[Cb,if_true,g0,pk,g1,tad];rw[if_pos ⟨trivial,trivial⟩];simp only[Daa];rw[if_pos ⟨trivial,by rw[yQ];omega,by unfold eb;omega,rfl⟩,SM];simp
  have M8:LN (fun i t=>∃ H,t=⟨B4 v n i,H⟩/\oI H n i) (fun r=>∃ E H,r=(.exit 0,⟨E,H⟩)/\oI H n n/\E.get 0= .pv v/\E.get 3= .pv (i64 n)/\E.get 4= .own 0 n) i
   (.norm,⟨B4 v n (i+1:Nat),(H++[ba.seq 1 false ((eg n fun _=>false).map AV.pv) 0 false]++[ba.seq 1 false [AV.own (2 * i+1) n] 0 false]).set 0 (.seq 1 false (Rn n (i+1)) 0 false)⟩):=⟨_,rfl,w8⟩
  generalize LN _ _ i=QQ at M8 ⊢;generalize Rn n (i+1)=ow at *;simp -implicitDefEqProofs only[SP,WP,fa,sevalprocAttr,-List.reduceReplicate,Ef,e1,t2,ti,ti1,tn,hc,Vaf,hl,R9,e8,tidy,Hc,B4];simp only[B4,ti1] at M8;exact M8
 ·rintro t ⟨H,rfl,hM⟩
  have e1:decide ((n:Int) < (n:Int))=false:=Ga (by omega);have tn:((n:Int)).toNat=n:=by simp
  have Q7:∀ E,E.get 0= .pv v->E.get 3= .pv (i64 n)->E.get 4= .own 0 n->(Ex.exit 0,(⟨E,H⟩:St)).1.stop=true/\∃ E' H',(Ex.exit 0,(⟨E,H⟩:St))=(.exit 0,⟨E',H'⟩)/\oI H' n n/\E'.get 0= .pv v/\E'.get 3= .pv (i64 n)/\E'.get 4= .own 0 n:=fun E k0 k3 k4=>⟨rfl,E,H,rfl,hM,k0,k3,k4⟩
  generalize hQ:(fun r:Ex×St=>r.1.stop=true/\_)=Q;simp -implicitDefEqProofs only[SX,sevalprocAttr,-List.reduceReplicate,Ef,e1,tn,B4];subst hQ;exact Q7 _ (by simp[Tr.aa]) (by simp[Tr.aa]) (by simp[Tr.aa])
theorem QO:∀ l:List PV,chunk 1 false l.length l=l
 | []=>rfl
 |a::l=>by simp only[Raa,chunk,Baa,if_false,List.headD_cons,jad,Aac,QO l]
theorem oM{α β γ:Type}(f:β->Option γ)(g:α->β)(k:α->γ):∀ (l:List α),(∀ a∈l,f (g a)=some (k a))->Ra f (l.map g)=some (l.map k)
 | [],_=>rfl
 |a::l,h=>by rw[pab,Ra,h a (by simp),oM f g k l (fun x hx=>h x (by simp[hx]))];rfl
def Pk(n:Nat)(f:Nat->Nat->Bool):PV:= .lit 1 ((List.range n).map fun i=> .lit 1 (eg n (f i)))
theorem Pt.Ub{H:List ba}{n:Nat}{f:Nat->Nat->Bool}(h:Pt H n f):Go.AM.Ub H 6 (.own 0 n)=some (Pk n f):=by
 obtain⟨nl,Y7,h0⟩:=h.hd
 subst Y7;have J7:∀ k∈List.range n,Go.AM.Ub H 5 (.own (2 * k+1) n)=some (.lit 1 (eg n (f k))):=by
  intro k hk;obtain⟨fl,hf,h1⟩:=h.row k (by simpa using hk)
  simp only[Go.AM.Ub,h1,vD];rw[if_pos ⟨by rw[paa,lh];omega,rfl⟩,SE];simp only[Baa,if_false,Kaa];have:=QO (eg n (f k));rw[lh] at this;rw[this]
 simp only[Go.AM.Ub,h0];rw[if_pos ⟨by rw[TG];omega,rfl⟩,owns,oM _ _ _ _ J7];simp only[Baa,if_false,Kaa,Pk];have:=QO ((List.range n).map fun i=>PV.lit 1 (eg n (f i)));rw[paa,mac] at this;rw[this]
theorem oI.z7{H:List ba}{n:Nat}(h:oI H n n)(hn:0 < n):Pt H n fun _ _=>false:=by
 obtain⟨nl,h1,h2⟩:=h.hd
 refine⟨h.len,⟨nl,?_,h1⟩,fun k hk=>⟨0,by omega,h.row k hk⟩,h.Qv⟩;cases nl with
 |false=>rfl
 |true=>have:=h2 rfl;omega
theorem kV{C:List (List Int)}(hC:WL C)(hn:0 < C.length){D:Nat->Nat->Prop}(hD:HN C D):
 ∃ f,dA C D f false/\Og [.lit 256 (C.map Zi)]=some (Pk C.length f):=by
 have e9:=EX (Da (fun _=>none) 8) (.lit 256 (C.map Zi)) C.length hC.sz
 have ln:Tb [] 0 (.pv (.lit 256 (C.map Zi)))=some C.length:=by simp[Tb]
 have tn:((C.length:Int)).toNat=C.length:=by simp
 have g1:(0 < 1)=True:=by simp
 have hz:(0 < 2 * C.length+1)=True:=by simp
 have key:qd (fun r=>∃ f,dA C D f false/\r=Pk C.length f) (Og [.lit 256 (C.map Zi)]):=by
  have R9:=fun {H}(hM:Pt H C.length fun _ _=>false)=>fY (Da (fun _=>none) 8) hC hD hM ⟨fun a b h=>(by cases h),fun a b=>rfl,fun h=>(by cases h)⟩;generalize P7:(fun r:PV=>_)=QQ;generalize (PV.lit 256 (C.map Zi))=L at *;simp -implicitDefEqProofs only[Og,SP,WP,fa,sevalprocAttr,-List.reduceReplicate,uk,ln,fe,g1,yr,Db,tidy,Hc];refine wa e9 ?_;rintro r ⟨E,H,rfl,hM,k0,k3,k4⟩;have hM2:=hM.z7 hn
  have C7:=hM2.cut
  have hlen:=hM2.len
  have Sah:=R9 hM2;simp -implicitDefEqProofs only[SP,WP,fa,sevalprocAttr,-List.reduceReplicate,Db,k0,k3,k4,hlen,C7,hz,na,Ca,AV.cut,za];simp only[T1,tn] at Sah;refine wa Sah ?_;rintro r ⟨E,H,f,rfl,hM3,hK,k4⟩;have hpv:=hM3.Ub
  simp -implicitDefEqProofs only[SP,WP,fa,sevalprocAttr,-List.reduceReplicate,k4,hpv];subst P7;exact⟨f,hK,rfl⟩
 obtain⟨r,h1,f,hK,rfl⟩:=wc key;exact⟨f,hK,h1⟩
open Go.AM
def qE:Ja:=(jQ [Cv 92 13,jn 93 0 92,jK 94 .gtr 93 0,Cv 95 94,jT 96 95 (.km 13),jT 97 95 (.km 13),jT 98 95 (.kn 0 97),jT 99 95 (.kK .sub 98 1),jT 100 95 (.ki 3 96 99),jT 101 95 (.kf 2 100),jT 102 95 (.kl 1 101),jT 103 95 (.km 15),jT 104 95 (.kB .eql 102 103),ja 105 95 104,Cv 106 105,jT 107 106 (.km 13),jT 108 106 (.km 13),jT 109 106 (.kn 0 108),jT 110 106 (.kK .sub 109 1),jT 111 106 (.ki 3 107 110),jT 112 106 (.kf 1 111),jT 113 106 (.kl 1 112),jT 114 106 (.km 14),jT 115 106 (.kK .sub 114 1),jT 116 106 (.kB .eql 113 115),ja 117 106 116] (jC 117 (.region [Cv 118 13,Cv 119 13,jn 120 0 119,jK 121 .sub 120 1,Cv 122 14,ji 123 3 118 121,jf 124 1 123,jS 1 124 122]) (.region [Cv 125 13,Cv 126 14,Cv 127 14,Cv 128 15,Co 129 (.build [(.int .i64 0),(.int .i64 0),(.int .i64 0)] [(0,1,(.t 126)),(1,1,(.t 127)),(2,1,(.t 128))]),Co 130 (.xb .lit 3 true 1 [(.int .i64 0),(.int .i64 0),(.int .i64 0)] [(0,(.t 129))]),Co 131 (.append true .own 3 true 24 (.t 125) (.t 130)),Cv 13 131])))
def qR:Ja:=(jQ [Cv 63 15,jK 64 .geq 63 0] (jC 64 (jQ [jk 16 0] (.seq (.block 4 (.loop [2,7,9,10,11,12,13,14,15,16] Zc)) (.seq (jQ [Cv 83 16,Cv 84 10,jn 85 0 84,jB 86 .eql 83 85] (jC 86 (.region [Cv 87 10,Cv 88 15,Co 89 (.xb .lit 1 false 1 [(.int .i64 0)] [(0,(.t 88))]),Co 90 (.ku 1 false 8 87 89),Cv 10 90]) .skip)) (.region [Cv 91 16,Cv 15 91])))) .skip))
theorem az:Cf=
 (.seq (.seq (.region [⟨(some 48),.move (.t 14),none,false⟩,
 ⟨(some 49),.bin .lss (.t 48) (.c (.int .i64 256)),none,false⟩])
 (.cond (.t 49) (.skip) (.exit 2)))
 (.seq (.block 3 (.seq (.region [⟨(some 52),.move (.t 7),none,false⟩,
  ⟨(some 53),.move (.t 10),none,false⟩,
  ⟨(some 54),.move (.t 12),none,false⟩,
  ⟨(some 55),.Pd 1 (.t 53) (.t 54),none,false⟩,
  ⟨(some 56),.load false 1 (.t 55),none,false⟩,
  ⟨(some 57),.move (.t 14),none,false⟩,
  ⟨(some 58),.Pd 256 (.t 52) (.t 56),none,false⟩,
  ⟨(some 59),.xy 256 1 (.t 58) (.t 57),none,false⟩,
  ⟨(some 60),.load false 1 (.t 59),none,false⟩,
  ⟨(some 15),.move (.t 60),none,false⟩])
  (.seq (.seq (.region [⟨(some 61),.move (.t 15),none,false⟩,
   ⟨(some 62),.bin .eql (.t 61) (.c (.int .i64 (-2))),none,false⟩])
  (.cond (.t 62) (.exit 3) (.skip)))
  (.seq qR
  qE))))
 (.region [⟨(some 50),.move (.t 14),none,false⟩,
  ⟨(some 51),.bin .add (.t 50) (.c (.int .i64 1)),none,false⟩,
  ⟨(some 14),.move (.t 51),none,false⟩]))):=rfl
attribute [local irreducible] qd
abbrev xt(l:List de)(fl:Nat):ba:= .seq 3 true (La (ud l)) fl l.isEmpty
section
variable (call:Sa)(E:Tr)(o0 o1 o2 o3:ba)(x:Nat)(to:Int)(g14:E.get 14= .pv (i64 x))(g15:E.get 15= .pv (i64 to))(hx:x < 256)(A8:to≠ -2)
include g14 g15 hx A8
omit hx A8 in
theorem EM(nl:Bool)(g13:E.get 13= .own 4 0):
 qd (fun r=>∃ E',r=(.norm,⟨E',[o0,o1,o2,o3,xt [⟨x,x,to⟩] 0]⟩)/\E'.get 13= .own 4 1/\E'.get 2=E.get 2/\E'.get 7=E.get 7/\E'.get 9=E.get 9/\E'.get 10=E.get 10/\E'.get 11=E.get 11/\E'.get 12=E.get 12/\E'.get 14=E.get 14)
  (oa call qE ⟨E,[o0,o1,o2,o3,.seq 3 true [] 0 nl]⟩):=by
 have ln:Tb [o0,o1,o2,o3,.seq 3 true [] 0 nl] 0 (.own 4 0)=some 0:=by simp only[Tb,mab,jab];rfl
 have e8:Cb [o0,o1,o2,o3,.seq 3 true [] 0 nl] true .own 3 true 24 (.own 4 0) (.pv (.lit 3 [.agg [i64 x,i64 x,i64 to]]))=some (.own 4 1,[o0,o1,o2,o3,xt [⟨x,x,to⟩] 0]):=by simp only[Cb,if_true,mab,jab,pk,Kf,Kaa,Daa];rw[if_pos ⟨trivial,rfl,by unfold eb;simp,rfl⟩];simp[xt,ud,La,flat,PV.cells]
 generalize P7:(fun r:Ex×St=>_)=QQ;generalize hO:xt [⟨x,x,to⟩] 0=O at *;simp -implicitDefEqProofs only[SP,WP,fa,sevalprocAttr,qE,g13,g14,g15,ln,e8,jj,AV.WE,AV.Tq];subst P7;refine⟨_,rfl,?_,?_,?_,?_,?_,?_,?_,?_⟩ <;> simp[Tr.aa]
variable (l:List de)(e:de)(hl:l.length < 256)(fl:Nat)(hfl:fl<=(l.length+1) * 3)(g13:E.get 13= .own 4 (l.length+1))
include hl hfl g13
theorem oQ:
 qd (fun r=>∃ E' o8,o8<=(pg x to (l++[e])).length * 3/\r=(.norm,⟨E',[o0,o1,o2,o3,xt (pg x to (l++[e])) o8]⟩)/\E'.get 13= .own 4 (pg x to (l++[e])).length/\E'.get 2=E.get 2/\E'.get 7=E.get 7/\E'.get 9=E.get 9/\E'.get 10=E.get 10/\E'.get 11=E.get 11/\E'.get 12=E.get 12/\E'.get 14=E.get 14)
  (oa call qE ⟨E,[o0,o1,o2,o3,.seq 3 true (La (ud l++[e.lo,e.hi,e.to])) fl false]⟩):=by
 have e3:decide (((l.length+1:Nat):Int) > 0)=true:=Ea (by omega);have t3:IntKind.i64.wrap (((l.length+1:Nat):Int) - 1)=(l.length:Int):=by rw[Aa (by omega)];omega
 have t4:((l.length:Int)).toNat=l.length:=by simp
 have t5:IntKind.i64.wrap ((x:Int) - 1)=(x:Int) - 1:=Aa (by omega)
 have hlen:∀ h,(La (ud l++[e.lo,h,e.to])).length=(l.length+1) * 3:=fun h=>by rw[pb,Aaa,Uk];simp;omega
 have ln:Tb [o0,o1,o2,o3,.seq 3 true (La (ud l++[e.lo,e.hi,e.to])) fl false] 0 (.own 4 (l.length+1))=some (l.length+1):=by simp only[Tb,mab,jab];rw[if_pos];rw[hlen];unfold Ui;omega
 have i1:ta [o0,o1,o2,o3,.seq 3 true (La (ud l++[e.lo,e.hi,e.to])) fl false] 3 (.own 4 (l.length+1)) (l.length:Int)=some (.Ec 4 ((l.length+1) * 3) (l.length * 3)):=by
  simp only[ta,mab,jab];rw[if_pos,t4];refine⟨trivial,?_,?_⟩
  ·unfold Ia;omega
  ·rw[hlen];unfold Ui;omega
 have pl:∀ d,place [o0,o1,o2,o3,.seq 3 true (La (ud l++[e.lo,e.hi,e.to])) fl false] d (.Ec 4 ((l.length+1) * 3) (l.length * 3))=some (.Ec 4 ((l.length+1) * 3) (l.length * 3+d)):=by intro d;simp only[place,mab,jab];rw[if_pos (hlen _)]
 have ld:∀ k,k < 3->pa [o0,o1,o2,o3,.seq 3 true (La (ud l++[e.lo,e.hi,e.to])) fl false] false 1 (.Ec 4 ((l.length+1) * 3) (l.length * 3+k))=some (.pv (i64 (if k=0 then e.lo else if k=1 then e.hi else e.to))):=by intro k hk;simp only[pa,mab,jab];rw[if_pos (hlen _)];have:=ZG (ud l) e k hk;rw[Uk] at this;simp only[Lh,Baa,if_false,this]
 have l1:=ld 1 (by omega);have l2:=ld 2 (by omega);simp only[if_true,Nat.one_ne_zero,if_false,show ¬(2=0) by omega,show ¬(2=1) by omega] at l1 l2;have W7:Ha [o0,o1,o2,o3,.seq 3 true (La (ud l++[e.lo,e.hi,e.to])) fl false] 1 (.Ec 4 ((l.length+1) * 3) (l.length * 3+1)) (.pv (i64 x))=some [o0,o1,o2,o3,xt (l++[⟨e.lo,x,e.to⟩]) ((l.length+1) * 3)]:=by
  have hc:(AV.pv (i64 x)).cells=[.pv (i64 x)]:=rfl
  simp only[Ha,mab,jab,hc];rw[if_pos ⟨rfl,rfl⟩,if_pos ⟨hlen _,by show l.length * 3+1+1<=(l.length+1) * 3;omega⟩,fa,fa,Qj];have:(ud l++[e.lo,e.hi,e.to]).set (l.length * 3+1) (x:Int)=ud (l++[⟨e.lo,x,e.to⟩]):=by rw[Sm,<-Uk,Xab _ _ (by omega),Eac];rfl
  rw[this];have he:(l++[(⟨e.lo,x,e.to⟩:de)]).isEmpty=false:=by cases l <;> rfl
  simp only[xt,he,Mac,nac]
 have e8:Cb [o0,o1,o2,o3,.seq 3 true (La (ud l++[e.lo,e.hi,e.to])) fl false] true .own 3 true 24 (.own 4 (l.length+1)) (.pv (.lit 3 [.agg [i64 x,i64 x,i64 to]]))=some (.own 4 (l.length+1+1),[o0,o1,o2,o3,xt (l++[e]++[⟨x,x,to⟩]) fl]):=by
  simp only[Cb,if_true,mab,jab,pk,Kf,Kaa,Daa];rw[if_pos ⟨trivial,(hlen _).symm,by unfold eb;simp;omega,rfl⟩];have he:(l++[e]++[(⟨x,x,to⟩:de)]).isEmpty=false:=by cases l <;> rfl
  simp only[xt,he,Sm,sH,Mac,nac];rfl
 have hR:∀ l' o8,pg x to (l++[e])=l'->o8<=l'.length * 3->∀ E',E'.get 13= .own 4 l'.length->E'.get 2=E.get 2->E'.get 7=E.get 7->E'.get 9=E.get 9->E'.get 10=E.get 10->E'.get 11=E.get 11->E'.get 12=E.get 12->E'.get 14=E.get 14->
  ∃ V9 Tah,Tah<=(pg x to (l++[e])).length * 3/\(Ex.norm,(⟨E',[o0,o1,o2,o3,xt l' o8]⟩:St))=(.norm,⟨V9,[o0,o1,o2,o3,xt (pg x to (l++[e])) Tah]⟩)/\V9.get 13= .own 4 (pg x to (l++[e])).length/\V9.get 2=E.get 2/\V9.get 7=E.get 7/\V9.get 9=E.get 9/\V9.get 10=E.get 10/\V9.get 11=E.get 11/\V9.get 12=E.get 12/\V9.get 14=E.get 14:=by
  intro l' o8 h1 h2 E' k13 k2 k7 k9 B9 C9 k12 k14;subst h1;exact⟨E',o8,h2,rfl,k13,k2,k7,k9,B9,C9,k12,k14⟩
 have hlj:(l++[(⟨e.lo,x,e.to⟩:de)]).length=l.length+1:=by simp
 have hlp:(l++[e]++[(⟨x,x,to⟩:de)]).length=l.length+1+1:=by simp
 generalize P7:(fun r:Ex×St=>_)=QQ
 by_cases h1:e.to=to
 ·have b1:(e.to==to)=true:=by simp[h1]
  by_cases h2:e.hi=(x:Int) - 1
  ·have b2:(e.hi==(x:Int) - 1)=true:=by simp[h2]
   have hj:pg x to (l++[e])=l++[⟨e.lo,x,e.to⟩]:=by rw[<- h1];exact PA (by rw[h1];exact A8) h2
   generalize ba.seq 3 true (La (ud l++[e.lo,e.hi,e.to])) fl false=oE at *
   generalize hO:xt (l++[⟨e.lo,x,e.to⟩]) ((l.length+1) * 3)=O at *;simp -implicitDefEqProofs only[SP,WP,fa,sevalprocAttr,qE,g13,g14,g15,ln,e3,t3,t5,i1,pl,l1,l2,b1,b2,W7,jj,AV.WE,AV.Tq];subst P7 hO;refine hR _ _ hj (by rw[hlj];exact waa _) _ ?_ ?_ ?_ ?_ ?_ ?_ ?_ ?_
   ·rw[hlj];simp only[Tr.aa];exact g13
   all_goals simp[Tr.aa]
  ·have b2:(e.hi==(x:Int) - 1)=false:=mj h2
   have hj:=Lw (l:=l) (x:=(x:Int)) (e:=e) A8 (fun h=>h2 h.2);generalize ba.seq 3 true (La (ud l++[e.lo,e.hi,e.to])) fl false=oE at *
   generalize hO:xt (l++[e]++[⟨x,x,to⟩]) fl=O at *;simp -implicitDefEqProofs only[SP,WP,fa,sevalprocAttr,qE,g13,g14,g15,ln,e3,t3,t5,i1,pl,l1,l2,b1,b2,e8,jj,AV.WE,AV.Tq];subst P7 hO;exact hR _ _ hj (by rw[hlp];omega) _ (by rw[hlp];simp[Tr.aa]) (by simp[Tr.aa]) (by simp[Tr.aa]) (by simp[Tr.aa]) (by simp[Tr.aa]) (by simp[Tr.aa]) (by simp[Tr.aa]) (by simp[Tr.aa])
 ·have b1:(e.to==to)=false:=mj h1
  have hj:=Lw (l:=l) (x:=(x:Int)) (e:=e) A8 (fun h=>h1 h.1);generalize ba.seq 3 true (La (ud l++[e.lo,e.hi,e.to])) fl false=oE at *
  generalize hO:xt (l++[e]++[⟨x,x,to⟩]) fl=O at *;simp -implicitDefEqProofs only[SP,WP,fa,sevalprocAttr,qE,g13,g14,g15,ln,e3,t3,t5,i1,pl,l1,l2,b1,e8,jj,AV.WE,AV.Tq];subst P7 hO;exact hR _ _ hj (by rw[hlp];omega) _ (by rw[hlp];simp[Tr.aa]) (by simp[Tr.aa]) (by simp[Tr.aa]) (by simp[Tr.aa]) (by simp[Tr.aa]) (by simp[Tr.aa]) (by simp[Tr.aa]) (by simp[Tr.aa])
end
end Go.AM.B1
