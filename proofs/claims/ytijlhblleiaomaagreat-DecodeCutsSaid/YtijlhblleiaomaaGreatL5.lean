/- What functions of the program compute. -/
import Derived.Test.YtijlhblleiaomaaGreatL4
set_option linter.unusedVariables false
set_option linter.unusedSimpArgs false
namespace Go.AM.B1
open Go.AM Go.AM.So
theorem mU{p q:Nb}(hp:Be p)(hq:Be q):Fo p q↔¬(q.first<=yi p/\p.first<=yi q):=by
 have h1:=hp.Sy
 have h2:=hq.Sy
 unfold Fo;constructor
 ·intro h hn
  by_cases hle:p.first<=q.first
  ·exact h q.first ⟨⟨hle,hn.1⟩,⟨Lac _,h2⟩⟩
  ·exact h p.first ⟨⟨Lac _,h1⟩,⟨by omega,hn.2⟩⟩
 ·intro h x hx
  exact h ⟨by omega,by omega⟩
theorem Tt{p:Nb}(hp:Be p):1<=Uh 1 p.parts/\Uh 1 p.parts<=1073741825:=Bn p.parts 1 hp.parts (by omega) (by omega)
abbrev qJ(S:PV)(i j:Int):Tr:=((Tr.lf.set 5 (.pv (i64 j))).set 1 (.pv (i64 i))).set 0 (.pv S)
theorem ZK{S:PV}{ss:List Nb}{es:List PV}(hS:qb S ss es){i:Nat}(hi:i < ss.length)(Ba:∀ j,j<=i->(h:j < ss.length)->Be ss[j]):
 ∃ b,fh [S,i64 i]=some (.bool b)/\(b=false↔∀ j,j < i->(h:j < ss.length)->Fo ss[j] ss[i]):=by
 have L7:=hS.sz
 obtain⟨P,ps,hP,a0⟩:=hS.Pd hi
 have okp:=Ba i (paa _) hi;have hcp:=Rp hP okp.parts
 have hbp:=Tt okp;have s8:=fun j (hj:j < i) (h:j < ss.length)=>mU (Ba j (by omega) h) okp;generalize ss[i]=p at *;have D7:qd (fun r=>∃ E,(r=(.exit 0,⟨E,[]⟩)/\∀ j,j < i->(h:j < ss.length)->Fo ss[j] p)\/(r=(.ret,⟨E,[]⟩)/\E.get 4= .pv (.bool true)/\∃ j,j < i/\∃ h:j < ss.length,¬Fo ss[j] p))
  (ab (ma (oa (Da (fun _=>none) 8) Cd) (na 0 [0,1,5])) ua ⟨qJ S i 0,[]⟩):=by
  refine wa (Fb (g:=ma (oa (Da (fun _=>none) 8) Cd) (na 0 [0,1,5]))
   (fun j t=>t=⟨qJ S i j,[]⟩/\∀ j',j' < j->(h:j' < ss.length)->Fo ss[j'] p)
   i (by unfold ua;unfold maxLen at L7;omega) _ ⟨rfl,by intro j h;omega⟩ ?_ ?_) (fun r h=>h.2)
  ·rintro j t hj ⟨rfl,hs⟩
   have hj2:j < ss.length:=by omega
   obtain⟨Q,qs,hQ,b0⟩:=hS.Pd hj2
   have okq:=Ba j (by omega) hj2;have hcq:=Rp hQ okq.parts
   have hbq:=Tt okq;have haq:=s8 j hj hj2;have U7:Fo ss[j] p->∀ j',j' < j+1->(h:j' < ss.length)->Fo ss[j'] p:=by
    intro h j' h1 h2;rcases Qaa j' j with h3 | h3
    ·exact hs j' h3 h2
    ·have:j'=j:=by omega
     subst this;exact h
   have hex:¬Fo ss[j] p->∃ j,j < i/\∃ h:j < ss.length,¬Fo ss[j] p:=fun h=>⟨j,hj,hj2,h⟩
   have gap:=okq.f0
   have iap:=okq.f1
   have jap:=okp.f0
   have kap:=okp.f1
   unfold yi at haq;generalize hq:ss[j]=q at *;generalize Uh 1 p.parts=np at *
   generalize Uh 1 q.parts=nq at *
   have e1:decide ((j:Int) < (i:Int))=true:=Ea (by omega);have t2:=Za hj (show i<=maxLen by omega);have t3:IntKind.i64.wrap (q.first+nq)=q.first+nq:=Aa (by omega)
   have t4:IntKind.i64.wrap (q.first+nq - 1)=q.first+nq - 1:=Aa (by omega)
   have t5:IntKind.i64.wrap (p.first+np)=p.first+np:=Aa (by omega)
   have t6:IntKind.i64.wrap (p.first+np - 1)=p.first+np - 1:=Aa (by omega)
   generalize Q7:LN _ _ j=QQ
   by_cases c1:p.first<=q.first+nq - 1
   ·have d1:=Ea c1
    by_cases c2:q.first<=p.first+np - 1
    ·have d2:=Ea c2
     simp -implicitDefEqProofs only[SX,sevalprocAttr,Cd,e1,a0,b0,Lj,ik,pg,hcp,hcq,t3,t4,t5,t6,d1,d2,qJ];subst Q7;exact⟨_,.inr ⟨rfl,by simp[Tr.aa],hex (fun h=>(haq.1 h) ⟨c1,c2⟩)⟩⟩
    ·have d2:=Ga c2
     simp -implicitDefEqProofs only[SX,sevalprocAttr,Cd,e1,a0,b0,Lj,ik,pg,hcp,hcq,t2,t3,t4,t5,t6,d1,d2,na,Ca,AV.cut,za,qJ];subst Q7;exact⟨rfl,U7 (haq.2 fun h=>c2 h.2)⟩
   ·have d1:=Ga c1
    simp -implicitDefEqProofs only[SX,sevalprocAttr,Cd,e1,a0,b0,Lj,ik,pg,hcp,hcq,t2,t3,t4,d1,na,Ca,AV.cut,za,qJ];subst Q7;exact⟨rfl,U7 (haq.2 fun h=>c1 h.1)⟩
  ·rintro t ⟨rfl,hs⟩
   have e1:decide ((i:Int) < (i:Int))=false:=Ga (by omega);generalize hQ:(fun r:Ex×St=>r.1.stop=true/\_)=Q;simp -implicitDefEqProofs only[SX,sevalprocAttr,Cd,e1,qJ];subst hQ;exact⟨rfl,_,.inl ⟨rfl,hs⟩⟩
 have key:qd (fun r=>∃ b,r=PV.bool b/\(b=false↔∀ j,j < i->(h:j < ss.length)->Fo ss[j] p)) (fh [S,i64 i]):=by
  generalize Q7:(fun r:PV=>_)=QQ;simp -implicitDefEqProofs only[fh,SX,sevalprocAttr,yl,Db,na,Ca,AV.cut,za];refine wa D7 ?_;rintro _ ⟨E,⟨rfl,hb⟩ | ⟨rfl,hE,j,hj,hj2,hb⟩⟩
  ·simp -implicitDefEqProofs only[SX,sevalprocAttr]
   subst Q7;exact⟨false,rfl,by simpa using hb⟩
  ·simp -implicitDefEqProofs only[SX,sevalprocAttr,hE]
   subst Q7;exact⟨true,rfl,by simp;exact⟨j,hj,hj2,hb⟩⟩
 obtain⟨r,h1,b,rfl,hb⟩:=wc key;exact⟨b,h1,hb⟩
abbrev DC(row:List PV)(i:Int):Tr:=(Tr.lf.set 3 (.pv (i64 i))).set 1 (.pv (.rp row 0))
theorem kJ{ss:List Nb}:Xb ss↔ss.length<=32/\∀ i,(hi:i < ss.length)->Be ss[i]/\∀ j,j < i->(h:j < ss.length)->Fo ss[j] ss[i]:=by
 constructor
 ·intro h
  refine⟨h.len,fun i hi=>⟨h.dt _ (jaa hi),fun j hj hj2=> ?_⟩⟩;exact Vac.1 h.apart j i hj2 hi hj
 ·rintro⟨h1,h2⟩
  refine⟨h1,?_,?_⟩
  ·intro s hs
   obtain⟨i,hi,rfl⟩:=qab hs;exact (h2 i hi).1
  ·rw[Vac]
   intro i j hi hj hij;exact (h2 j hj).2 i hij hi
theorem gz{S:PV}{ss:List Nb}{es:List PV}(hS:qb S ss es):∃ b,we [.agg [S]]=some (.bool b)/\(b=true↔Xb ss):=by
 have L7:=hS.sz
 have ln:=hS.Tb
 have K8:(AV.pv S).one=true:=by rcases hS.is with⟨h,_⟩ | h <;> rw[h] <;> rfl
 by_cases c1:(ss.length:Int) > 32
 ·have d1:=Ea c1
  refine⟨false,?_,by simp;intro h;have:=h.len;omega⟩;simp -implicitDefEqProofs only[we,SX,sevalprocAttr,mi,K8,fc,Wa,ln,d1]
 have d1:=Ga c1;have D7:qd (fun r=>∃ E,(r=(.exit 0,⟨E,[]⟩)/\Xb ss)\/(r=(.ret,⟨E,[]⟩)/\E.get 2= .pv (.bool false)/\¬Xb ss))
  (ab (ma (oa (Da (fun _=>none) 8) jd) (na 0 [1,3])) ua ⟨DC [S] 0,[]⟩):=by
  refine wa (Fb (g:=ma (oa (Da (fun _=>none) 8) jd) (na 0 [1,3]))
   (fun i t=>t=⟨DC [S] i,[]⟩/\∀ k,k < i->(hk:k < ss.length)->Be ss[k]/\∀ j,j < k->(h:j < ss.length)->Fo ss[j] ss[k])
   ss.length (by unfold ua;unfold maxLen at L7;omega) _ ⟨rfl,by intro j h;omega⟩ ?_ ?_) (fun r h=>h.2)
  ·rintro i t hi ⟨rfl,hs⟩
   obtain⟨P,ps,hP,a0⟩:=hS.Pd hi
   obtain⟨b,hb,hbb⟩:=Xr hP;have hmt:Be ss[i]->_:=fun h=>ZK hS hi (fun j hj hj2=>by
    rcases Qaa j i with h1 | h1
    ·exact (hs j h1 hj2).1
    ·have:j=i:=by omega
     subst this;exact h)
   have U7:Be ss[i]->(∀ j,j < i->(h:j < ss.length)->Fo ss[j] ss[i])->∀ k,k < i+1->(hk:k < ss.length)->Be ss[k]/\∀ j,j < k->(h:j < ss.length)->Fo ss[j] ss[k]:=by
    intro h1 h2 k hk H8;rcases Qaa k i with h3 | h3
    ·exact hs k h3 H8
    ·have:k=i:=by omega
     subst this;exact⟨h1,h2⟩
   have J9:¬(Be ss[i]/\∀ j,j < i->(h:j < ss.length)->Fo ss[j] ss[i])->¬Xb ss:=fun h hh=>h ((kJ.1 hh).2 i hi);generalize hgi:ss[i]=p at *;have e1:decide ((i:Int) < (ss.length:Int))=true:=Ea (by omega);have t2:=Za hi L7;generalize Q7:LN _ _ i=QQ;cases b with
   |false=>
    have hno:¬Be p:=fun h=>by have:=hbb.2 h;cases this
    simp -implicitDefEqProofs only[SX,sevalprocAttr,jd,e1,ln,fc,Wa,a0,pg,hb,DC];subst Q7;exact⟨_,.inr ⟨rfl,by simp[Tr.aa],J9 fun h=>hno h.1⟩⟩
   |true=>
    have okp:=hbb.1 rfl
    obtain⟨c,hc,hcc⟩:=hmt okp;cases c with
    |false=>simp -implicitDefEqProofs only[SX,sevalprocAttr,jd,e1,ln,fc,Wa,a0,pg,hb,hc,t2,na,Ca,AV.cut,za,DC];subst Q7;exact⟨rfl,U7 okp (hcc.1 rfl)⟩
    |true=>simp -implicitDefEqProofs only[SX,sevalprocAttr,jd,e1,ln,fc,Wa,a0,pg,hb,hc,DC];subst Q7;exact⟨_,.inr ⟨rfl,by simp[Tr.aa],J9 fun h=>by have:=hcc.2 h.2;cases this⟩⟩
  ·rintro t ⟨rfl,hs⟩
   have e1:decide ((ss.length:Int) < (ss.length:Int))=false:=Ga (by omega);generalize hQ:(fun r:Ex×St=>r.1.stop=true/\_)=Q;simp -implicitDefEqProofs only[SX,sevalprocAttr,jd,e1,ln,fc,Wa,DC];subst hQ;exact⟨rfl,_,.inl ⟨rfl,kJ.2 ⟨by omega,fun i hi=>hs i hi hi⟩⟩⟩
 have key:qd (fun r=>∃ b,r=PV.bool b/\(b=true↔Xb ss)) (we [.agg [S]]):=by
  generalize Q7:(fun r:PV=>_)=QQ;simp -implicitDefEqProofs only[we,SX,sevalprocAttr,mi,K8,fc,Wa,ln,d1,Db,na,Ca,AV.cut,za];refine wa D7 ?_;rintro _ ⟨E,⟨rfl,hb⟩ | ⟨rfl,hE,hb⟩⟩
  ·simp -implicitDefEqProofs only[SX,sevalprocAttr]
   subst Q7;exact⟨true,rfl,by simpa using hb⟩
  ·simp -implicitDefEqProofs only[SX,sevalprocAttr,hE]
   subst Q7;exact⟨false,rfl,by simpa using hb⟩
 obtain⟨r,h1,b,rfl,hb⟩:=wc key;exact⟨b,h1,hb⟩
abbrev MF(rp rq:List PV)(n i:Int)(nl:Bool)(es:List PV):Tr:=((((Tr.lf.set 9 (.pv (i64 i))).set 8 (.uq 0 nl 1 es)).set 4 (.pv (.rp rq 0))).set 3 (.pv (.rp rp 0))).set 2 (.pv (i64 n))
abbrev yC(rp rq:List PV)(n i x:Int)(nl:Bool)(es:List PV):Tr:=(((((Tr.lf.set 10 (.pv (i64 x))).set 9 (.pv (i64 i))).set 8 (.uq 0 nl 1 es)).set 4 (.pv (.rp rq 0))).set 3 (.pv (.rp rp 0))).set 2 (.pv (i64 n))
theorem uD(call:Sa){P Q:PV}{a b:PV}{n:Int}{lp lq:List (List (Int×Int))}{ps qs:List PV}(hp:zf P lp ps)(hq:zf Q lq qs){i:Nat}(hip:i < lp.length)(hiq:i < lq.length)(nl:Bool)(es:List PV)(m:Nat):
 qd (fun r=>∃ E y,r=(.exit 2,⟨E,[.tok 1 m nl]⟩)/\E.get 2= .pv (i64 n)/\E.get 3= .pv (.rp [P,a] 0)/\E.get 4= .pv (.rp [Q,b] 0)/\E.get 8= .uq 0 nl 1 es/\E.get 9= .pv (i64 i)/\E.get 10= .pv (i64 (y:Nat))/\
  ((y < 256/\mj lp[i] y=true/\mj lq[i] y=true)\/(y=256/\∀ x,x < 256->¬(mj lp[i] x=true/\mj lq[i] x=true))))
  (ab (ma (oa call Rc) (na 1 [2,3,4,8,9,10])) ua ⟨yC [P,a] [Q,b] n i 0 nl es,[.tok 1 m nl]⟩):=by
 obtain⟨v,hv,hpv,a1⟩:=hp.Pd hip [.tok 1 m nl]
 obtain⟨w,hw,hqw,a2⟩:=hq.Pd hiq [.tok 1 m nl]
 have hhp:=pE hpv.is hpv.sz
 have hhq:=pE hqw.is hqw.sz
 generalize lp[i]=lv at *;generalize lq[i]=lw at *;refine wa (Fb (g:=ma (oa call Rc) (na 1 [2,3,4,8,9,10]))
  (fun x t=>t=⟨yC [P,a] [Q,b] n i x nl es,[.tok 1 m nl]⟩/\∀ x',x' < x->¬(mj lv x'=true/\mj lw x'=true))
  256 (by unfold ua;omega) _ ⟨rfl,by intro x h;omega⟩ ?_ ?_) (fun r h=>h.2)
 ·rintro x t hx ⟨rfl,hs⟩
  have e1:decide ((x:Int) < 256)=true:=Ea (by omega);have t2:IntKind.i64.wrap ((x:Int)+1)=((x+1:Nat):Int):=Aa (by omega)
  have hp1:=hhp (x:Int);have hq1:=hhq (x:Int);rw[Ea (show (0:Int)<=x by omega),Ea (show (x:Int)<=255 by omega),Daa,oab,oab] at hp1 hq1;have hz:(0 < 1)=True:=by simp
  have U7:¬(mj lv x=true/\mj lw x=true)->∀ x',x' < x+1->¬(mj lv x'=true/\mj lw x'=true):=by
   intro h x' hx';rcases Qaa x' x with h1 | h1
   ·exact hs x' h1
   ·have:x'=x:=by omega
    subst this;exact h
  generalize hQ:LN _ _ x=QQ;cases h1:mj lv x with
  |false=>rw[h1] at hp1;simp -implicitDefEqProofs only[SX,sevalprocAttr,Rc,e1,Uc,oe,Wa,a1,a2,hp1,t2,hz,na,Ca,AV.cut,qa,za,yC];subst hQ;exact⟨rfl,U7 (by rw[h1];simp)⟩
  |true=>
   rw[h1] at hp1;cases h2:mj lw x with
   |false=>rw[h2] at hq1;simp -implicitDefEqProofs only[SX,sevalprocAttr,Rc,e1,Uc,oe,Wa,a1,a2,hp1,hq1,t2,hz,na,Ca,AV.cut,qa,za,yC];subst hQ;exact⟨rfl,U7 (by rw[h2];simp)⟩
   |true=>rw[h2] at hq1;simp -implicitDefEqProofs only[SX,sevalprocAttr,Rc,e1,Uc,oe,Wa,a1,a2,hp1,hq1,yC];subst hQ;exact⟨_,x,rfl,by simp[Tr.aa],by simp[Tr.aa],by simp[Tr.aa],by simp[Tr.aa],by simp[Tr.aa],by simp[Tr.aa],.inl ⟨hx,h1,h2⟩⟩
 ·rintro t ⟨rfl,hs⟩
  have e1:decide (((256:Nat):Int) < 256)=false:=Ga (by omega);generalize hQ:(fun r:Ex×St=>r.1.stop=true/\_)=QQ;simp -implicitDefEqProofs only[SX,sevalprocAttr,Rc,e1,yC];subst hQ;exact⟨rfl,_,256,rfl,by simp[Tr.aa],by simp[Tr.aa],by simp[Tr.aa],by simp[Tr.aa],by simp[Tr.aa],by simp[Tr.aa],.inr ⟨rfl,hs⟩⟩
theorem YA{p q:List (List (Int×Int))}{i:Nat}(hp:i < p.length)(hq:i < q.length)(vp:Pa 255 (-2) p[i]=true)(vq:Pa 255 (-2) q[i]=true):
 Rq p q i≠[]↔∃ x,x < 256/\mj p[i] x=true/\mj q[i] x=true:=by
 have hmA:Rq p q i=zg (p[i].length+q[i].length) p[i] q[i]:=by unfold Rq;rw[aaa hp,aaa hq]
 have yac:=Ku _ _ _ (-2) (-2) vp vq (paa _);have hme:=Jo vp;rw[hmA];generalize p[i]=a at *;generalize q[i]=b at *;constructor
 ·intro h
  obtain⟨m,hm⟩:=List.exists_mem_of_ne_nil _ h
  have h2:=(yac.1 m.1).1 ⟨m,hm,Lac _,yac.2 m hm⟩
  have h0:0<=m.1/\m.1<=255:=by
   obtain⟨pp,hpp,h3,h4⟩:=h2.1
   have:=hme pp hpp;omega
  refine⟨m.1.toNat,by omega,?_,?_⟩
  ·rw[mj,vp,oab,Yw,sac h0.1];exact h2.1
  ·rw[mj,vq,oab,Yw,sac h0.1];exact h2.2
 ·rintro⟨x,hx,h1,h2⟩ Bab
  rw[mj,vp,oab,Yw] at h1;rw[mj,vq,oab,Yw] at h2;have:=(yac.1 x).2 ⟨h1,h2⟩
  rw[Bab] at this;exact eo _ this
theorem my{e f:PV}{p q:Nb}{P Q:PV}{ps qs:List PV}(hp:dg e p P ps)(hq:dg f q Q qs)(op:Be p)(oq:Be q){n:Nat}(hn:n<=p.parts.length)(hn2:n<=q.parts.length):
 ∃ v,bf [e,f,i64 n]=some (.mc [v,.bool (dc p.parts q.parts n 0).isSome]):=by
 have hc1:=fy hp op;have hc2:=fy hq oq;have L8:=Tt op;have y8:=Tt oq;obtain⟨I8,hP2⟩:=hp.Qz
 obtain⟨hQ1,hQ2⟩:=hq.Qz
 have heq:=hp.eq
 have hfq:=hq.eq
 subst heq hfq;have h8:=op.hi
 have lP:=hp.parts.Tb
 have lQ:=hq.parts.Tb
 have D7:qd (fun r=>∃ E H,(r=(.ret,⟨E,H⟩)/\E.get 6= .pv .ga/\E.get 7= .pv (.bool false)/\(dc p.parts q.parts n 0).isSome=false)\/(∃ nl es,r=(.exit 0,⟨E,H⟩)/\E.get 8= .uq 0 nl 1 es/\(dc p.parts q.parts n 0).isSome=true))
  (ab (ma (oa (Da (fun _=>none) 8) gf) (na 1 [2,3,4,8,9])) ua ⟨MF [P,i64 p.first] [Q,i64 q.first] n 0 true [],[.tok 1 0 true]⟩):=by
  refine wa (Fb (g:=ma (oa (Da (fun _=>none) 8) gf) (na 1 [2,3,4,8,9]))
   (fun i t=>∃ nl es,t=⟨MF [P,i64 p.first] [Q,i64 q.first] n i nl es,[.tok 1 i nl]⟩/\es.length=i/\(dc p.parts q.parts n 0).isSome=(dc p.parts q.parts (n - i) i).isSome)
   n (by unfold ua;omega) _ ⟨true,[],rfl,rfl,rfl⟩ ?_ ?_) (fun r h=>h.2)
  ·rintro i t hi ⟨nl,es,rfl,hlen,hs⟩
   have hip:i < p.parts.length:=by omega
   have hiq:i < q.parts.length:=by omega
   have b9:=uD (Da (fun _=>none) 8) (a:=i64 p.first) (b:=i64 q.first) (n:=n) hp.parts hq.parts hip hiq nl es i
   have okv:=op.parts _ (jaa hip)
   have okw:=oq.parts _ (jaa hiq)
   have hma:=YA hip hiq okv.2 okw.2
   obtain⟨m,hm⟩:∃ m,n - i=m+1:=⟨n - i - 1,by omega⟩;have hm':n - (i+1)=m:=by omega
   rw[hm,dc] at hs;have e1:decide ((i:Int) < (n:Int))=true:=Ea (by omega);have t2:=Za (i:=i) (n:=n) hi (by unfold maxLen;omega);have hz:(0 < 1)=True:=by simp
   have Q8:∀ (nl':Bool)(es':List PV)(s:St),s=⟨MF [P,i64 p.first] [Q,i64 q.first] n (i+1:Nat) nl' es',[.tok 1 (i+1) nl']⟩->es'.length=i+1->(dc p.parts q.parts n 0).isSome=(dc p.parts q.parts m (i+1)).isSome->
    LN (fun i t=>∃ nl es,t=⟨MF [P,i64 p.first] [Q,i64 q.first] n i nl es,[.tok 1 i nl]⟩/\es.length=i/\(dc p.parts q.parts n 0).isSome=(dc p.parts q.parts (n - i) i).isSome)
     (fun r=>∃ E H,(r=(.ret,⟨E,H⟩)/\E.get 6= .pv .ga/\E.get 7= .pv (.bool false)/\(dc p.parts q.parts n 0).isSome=false)\/(∃ nl es,r=(.exit 0,⟨E,H⟩)/\E.get 8= .uq 0 nl 1 es/\(dc p.parts q.parts n 0).isSome=true)) i (.norm,s):=
    fun nl' es' s h1 h2 h3=>⟨nl',es',h1,h2,by rw[hm'];exact h3⟩
   have hLR:∀ (E:Tr)(H:List ba),E.get 6= .pv .ga->E.get 7= .pv (.bool false)->(dc p.parts q.parts n 0).isSome=false->
    LN (fun i t=>∃ nl es,t=⟨MF [P,i64 p.first] [Q,i64 q.first] n i nl es,[.tok 1 i nl]⟩/\es.length=i/\(dc p.parts q.parts n 0).isSome=(dc p.parts q.parts (n - i) i).isSome)
     (fun r=>∃ E H,(r=(.ret,⟨E,H⟩)/\E.get 6= .pv .ga/\E.get 7= .pv (.bool false)/\(dc p.parts q.parts n 0).isSome=false)\/(∃ nl es,r=(.exit 0,⟨E,H⟩)/\E.get 8= .uq 0 nl 1 es/\(dc p.parts q.parts n 0).isSome=true)) i (.ret,⟨E,H⟩):=
    fun E H h1 h2 h3=>⟨E,H,.inl ⟨rfl,h1,h2,h3⟩⟩
   generalize LN _ _ i=QQ at Q8 hLR ⊢;simp -implicitDefEqProofs only[SX,sevalprocAttr,gf,Db,e1,hz,na,Ca,AV.cut,qa,za,MF];refine wa b9 ?_;rintro r ⟨E,y,rfl,g2,g3,g4,g8,g9,g10,⟨hy,hy1,hy2⟩ | ⟨rfl,hno⟩⟩
   ·have J7:Rq p.parts q.parts i≠[]:=hma.2 ⟨y,hy,hy1,hy2⟩
    have hs':(dc p.parts q.parts n 0).isSome=(dc p.parts q.parts m (i+1)).isSome:=by
     rw[hs];cases hmt:Rq p.parts q.parts i with
     |nil=>exact absurd hmt J7
     |cons a r=>simp
    have e2:(((y:Nat):Int)==256)=false:=lj (by omega);have t3:IntKind.u8.wrap ((y:Nat):Int)=(y:Int):=wrap_u8 (by omega)
    have s8:=yt (A:=[.tok 1 i nl]) (id:=0) (n:=i) (h:= .uq) (nl:=nl) (bytes:=1) (es:=es) rfl (by simp[hlen]) (by unfold eb;omega) (.int .u8 y);rw[fac] at s8;simp -implicitDefEqProofs only[SP,WP,fa,sevalprocAttr,g2,g3,g4,g8,g9,g10,e2,t2,t3,s8,hz,na,Ca,AV.cut,qa,za];exact Q8 false (es++[.int .u8 y]) _ rfl (by simp[hlen]) hs'
   ·have J7:Rq p.parts q.parts i=[]:=by
     apply Wad;intro h;obtain⟨x,hx,h1,h2⟩:=hma.1 h
     exact hno x hx ⟨h1,h2⟩
    have hs':(dc p.parts q.parts n 0).isSome=false:=by rw[hs,J7];rfl
    have e2:(((256:Nat):Int)==256)=true:=by decide
    simp -implicitDefEqProofs only[SP,WP,fa,sevalprocAttr,g2,g3,g4,g8,g9,g10,e2];exact hLR _ _ (by simp[Tr.aa]) (by simp[Tr.aa]) hs'
  ·rintro t ⟨nl,es,rfl,hlen,hs⟩
   rw[ead,dc] at hs;have e1:decide ((n:Int) < (n:Int))=false:=Ga (by omega);generalize hQ:(fun r:Ex×St=>r.1.stop=true/\_)=QQ;simp -implicitDefEqProofs only[SX,sevalprocAttr,gf,e1,MF];subst hQ;exact⟨rfl,_,_,.inr ⟨nl,es,rfl,by simp[Tr.aa],hs⟩⟩
 have key:qd (fun r=>∃ v,r= .mc [v,.bool (dc p.parts q.parts n 0).isSome]) (bf [.agg [P,i64 p.first],.agg [Q,i64 q.first],i64 n]):=by
  have z1:(Uh 1 p.parts==0)=false:=lj (by omega);have z2:(Uh 1 q.parts==0)=false:=lj (by omega);have d0:decide ((n:Int) < 0)=false:=Ga (by omega);have d1:decide ((n:Int) > (p.parts.length:Int))=false:=Ga (by omega);have d2:decide ((n:Int) > (q.parts.length:Int))=false:=Ga (by omega);have hz:(0 < 1)=True:=by simp
  generalize Uh 1 p.parts=np at *
  generalize Uh 1 q.parts=nq at *
  generalize (dc p.parts q.parts n 0).isSome=b at *
  generalize Q7:(fun r:PV=>_)=QQ;simp -implicitDefEqProofs only[bf,SX,sevalprocAttr,Yj,Db,I8,hQ1,Uc,oe,pg,hc1,hc2,z1,z2,lP,lQ,d0,d1,d2,fe,hz,na,Ca,AV.cut,qa,za];refine wa D7 ?_;rintro _ ⟨E,H,⟨rfl,h6,h7,hb⟩ | ⟨nl,es,rfl,g8,hb⟩⟩
  ·subst hb
   simp -implicitDefEqProofs only[SX,sevalprocAttr,h6,h7];subst Q7;exact⟨_,rfl⟩
  ·subst hb
   cases nl <;>
   ·simp -implicitDefEqProofs only[SX,sevalprocAttr,g8]
    subst Q7;exact⟨_,rfl⟩
 obtain⟨r,h1,v,rfl⟩:=wc key;exact⟨v,h1⟩
abbrev CR(row:List PV)(i:Int):Tr:=(Tr.lf.set 4 (.pv (i64 i))).set 1 (.pv (.rp row 0))
abbrev yJ(row:List PV)(i j:Int):Tr:=((Tr.lf.set 5 (.pv (i64 j))).set 4 (.pv (i64 i))).set 1 (.pv (.rp row 0))
def OW(ss:List Nb)(i j:Nat):Prop:=(hi:i < ss.length)->(hj:j < ss.length)->ss[i].parts.length < ss[j].parts.length->mf ss[i] ss[j]=false
theorem FD(call:Sa){S:PV}{ss:List Nb}{es:List PV}(hS:qb S ss es)(Ba:Xb ss){i:Nat}(hi:i < ss.length):
 qd (fun r=>∃ E,(r=(.exit 2,⟨E,[]⟩)/\E.get 1= .pv (.rp [S] 0)/\E.get 4= .pv (i64 i)/\∀ j,OW ss i j)\/(r=(.ret,⟨E,[]⟩)/\E.get 2= .pv (.bool false)/\E.get 3= .pv (i64 0)/\¬Gf ss))
  (ab (ma (oa call Pc) (na 0 [1,4,5])) ua ⟨yJ [S] i 0,[]⟩):=by
 have h32:=Ba.len
 have ln:=hS.Tb
 obtain⟨P,ps,hP,a1⟩:=hS.Pd hi
 have okp:=Ba.dt _ (jaa hi)
 have lP:=hP.parts.Tb
 have Yak:∀ j (hj:j < ss.length),ss[i].parts.length < ss[j].parts.length->mf ss[i] ss[j]=true->¬Gf ss:=fun j hj h1 h2 h=>by have:=h i j hi hj h1;rw[h2] at this;cases this
 have u9:∀ j,OW ss i j↔((hj:j < ss.length)->ss[i].parts.length < ss[j].parts.length->mf ss[i] ss[j]=false):=fun j=>⟨fun h=>h hi,fun h _=>h⟩;simp only[u9];generalize ss[i]=p at *;refine wa (Fb (g:=ma (oa call Pc) (na 0 [1,4,5]))
  (fun j t=>t=⟨yJ [S] i j,[]⟩/\∀ j',j' < j->(hj:j' < ss.length)->p.parts.length < ss[j'].parts.length->mf p ss[j']=false)
  ss.length (by unfold ua;omega) _ ⟨rfl,fun j h=>by omega⟩ ?_ ?_) (fun r h=>h.2)
 ·rintro j t hj ⟨rfl,hs⟩
  obtain⟨Q,qs,hQ,a2⟩:=hS.Pd hj
  have okq:=Ba.dt _ (jaa hj)
  have hcm:=fun (h:p.parts.length<=ss[j].parts.length)=>my hP hQ okp okq (n:=p.parts.length) (paa _) h;have lQ:=hQ.parts.Tb
  have J9:=Yak j hj;have U7:(p.parts.length < ss[j].parts.length->mf p ss[j]=false)->∀ j',j' < j+1->(hj:j' < ss.length)->p.parts.length < ss[j'].parts.length->mf p ss[j']=false:=by
   intro h j' h1 h2;rcases Qaa j' j with h3 | h3
   ·exact hs j' h3 h2
   ·have:j'=j:=by omega
    subst this;exact h
  unfold mf at J9 U7;generalize ss[j]=q at *;have e1:decide ((j:Int) < (ss.length:Int))=true:=Ea (by omega);have t2:=Za hj (by unfold maxLen;omega);generalize Q7:LN _ _ j=QQ
  by_cases c1:(p.parts.length:Int) < (q.parts.length:Int)
  ·have d1:=Ea c1
   obtain⟨v,hv⟩:=hcm (by omega);cases hb:(dc p.parts q.parts p.parts.length 0).isSome with
   |true=>rw[hb] at hv;simp -implicitDefEqProofs only[SX,sevalprocAttr,Pc,ln,e1,fc,Wa,Uc,oe,pg,a1,a2,lP,lQ,d1,hv,yJ];subst Q7;exact⟨_,.inr ⟨rfl,by simp[Tr.aa],by simp[Tr.aa],J9 (by omega) hb⟩⟩
   |false=>rw[hb] at hv;simp -implicitDefEqProofs only[SX,sevalprocAttr,Pc,ln,e1,t2,fc,Wa,Uc,oe,pg,a1,a2,lP,lQ,d1,hv,na,Ca,AV.cut,za,yJ];subst Q7;exact⟨rfl,U7 fun _=>hb⟩
  ·have d1:=Ga c1
   simp -implicitDefEqProofs only[SX,sevalprocAttr,Pc,ln,e1,t2,fc,Wa,Uc,oe,pg,a1,a2,lP,lQ,d1,na,Ca,AV.cut,za,yJ];subst Q7;exact⟨rfl,U7 fun h=>absurd h (by omega)⟩
 ·rintro t ⟨rfl,hs⟩
  have e1:decide ((ss.length:Int) < (ss.length:Int))=false:=Ga (by omega);generalize hQ:(fun r:Ex×St=>r.1.stop=true/\_)=QQ;simp -implicitDefEqProofs only[SX,sevalprocAttr,Pc,e1,ln,fc,Wa,yJ];subst hQ;exact⟨rfl,_,.inl ⟨rfl,by simp[Tr.aa],by simp[Tr.aa],fun j hj=>hs j hj hj⟩⟩
theorem HG{S:PV}{ss:List Nb}{es:List PV}(hS:qb S ss es):
 (¬ Xb ss->Xd [.agg [S]]=some (.mc [.bool false,i64 84]))/\
 (Xb ss->∃ b,Xd [.agg [S]]=some (.mc [.bool b,i64 0])/\(b=true↔Gf ss)):=by
 have ln:=hS.Tb
 have K8:(AV.pv S).one=true:=by rcases hS.is with⟨h,_⟩ | h <;> rw[h] <;> rfl
 obtain⟨b,hb,hbb⟩:=gz hS;constructor
 ·intro h
  have:b=false:=by cases b with | false=>rfl | true=>exact absurd (hbb.1 rfl) h
  subst this;simp -implicitDefEqProofs only[Xd,SX,sevalprocAttr,Lh,K8,qe,hb]
 ·intro Ba
  have h32:=Ba.len
  have:=hbb.2 Ba
  subst this;have D7:qd (fun r=>∃ E,(r=(.exit 0,⟨E,[]⟩)/\Gf ss)\/(r=(.ret,⟨E,[]⟩)/\E.get 2= .pv (.bool false)/\E.get 3= .pv (i64 0)/\¬Gf ss))
   (ab (ma (oa (Da (fun _=>none) 8) pf) (na 0 [1,4])) ua ⟨CR [S] 0,[]⟩):=by
   refine wa (Fb (g:=ma (oa (Da (fun _=>none) 8) pf) (na 0 [1,4]))
    (fun i t=>t=⟨CR [S] i,[]⟩/\∀ i',i' < i->∀ j,OW ss i' j)
    ss.length (by unfold ua;omega) _ ⟨rfl,fun i h=>by omega⟩ ?_ ?_) (fun r h=>h.2)
   ·rintro i t hi ⟨rfl,hs⟩
    have b9:=FD (Da (fun _=>none) 8) hS Ba hi;have e1:decide ((i:Int) < (ss.length:Int))=true:=Ea (by omega);have t2:=Za hi (by unfold maxLen;omega);generalize Q7:LN _ _ i=QQ;simp -implicitDefEqProofs only[SX,sevalprocAttr,pf,Db,ln,e1,fc,Wa,na,Ca,AV.cut,za,CR];refine wa b9 ?_;rintro _ ⟨E,⟨rfl,g1,g4,hp⟩ | ⟨rfl,g2,g3,hp⟩⟩
    ·simp -implicitDefEqProofs only[SX,sevalprocAttr,g1,g4,t2,na,Ca,AV.cut,za]
     subst Q7;refine⟨rfl,fun i' hi' j=> ?_⟩;rcases Qaa i' i with h3 | h3
     ·exact hs i' h3 j
     ·have:i'=i:=by omega
      subst this;exact hp j
    ·simp -implicitDefEqProofs only[SX,sevalprocAttr]
     subst Q7;exact⟨_,.inr ⟨rfl,g2,g3,hp⟩⟩
   ·rintro t ⟨rfl,hs⟩
    have e1:decide ((ss.length:Int) < (ss.length:Int))=false:=Ga (by omega);generalize hQ:(fun r:Ex×St=>r.1.stop=true/\_)=QQ;simp -implicitDefEqProofs only[SX,sevalprocAttr,pf,e1,ln,fc,Wa,CR];subst hQ;exact⟨rfl,_,.inl ⟨rfl,fun i j hi hj=>hs i hi j hi hj⟩⟩
  have key:qd (fun r=>∃ b,r=PV.mc [.bool b,i64 0]/\(b=true↔Gf ss)) (Xd [.agg [S]]):=by
   generalize Q7:(fun r:PV=>_)=QQ;simp -implicitDefEqProofs only[Xd,SX,sevalprocAttr,Lh,K8,fc,Wa,qe,hb,Db,na,Ca,AV.cut,za];refine wa D7 ?_;rintro _ ⟨E,⟨rfl,hp⟩ | ⟨rfl,g2,g3,hp⟩⟩
   ·simp -implicitDefEqProofs only[SX,sevalprocAttr]
    subst Q7;exact⟨true,rfl,by simpa using hp⟩
   ·simp -implicitDefEqProofs only[SX,sevalprocAttr,g2,g3]
    subst Q7;exact⟨false,rfl,by simpa using hp⟩
  obtain⟨r,h1,b,rfl,hb⟩:=wc key;exact⟨b,h1,hb⟩
def WL(f:Nat->Bool):List PV:=(List.range 32).map fun i=> .bool (f i)
def uc(d:Int)(f:Nat->Bool):List PV:=i64 d::WL f
def Af(a:Al):PV:= .agg (uc a.1 a.2.toNat.testBit)
theorem YE(f:Nat->Bool):(WL f).length=32:=by simp[WL]
theorem kh(d:Int)(f:Nat->Bool):(uc d f).length=33:=by rw[uc,Oaa,YE]
theorem MQ(f:Nat->Bool){i:Nat}(h:i < (WL f).length):(WL f)[i]= .bool (f i):=by
 simp only[WL,kae,Tad]
theorem lK(f:Nat->Bool){i:Nat}(h:i < 32):(WL f)[i]? =some (.bool (f i)):=by
 rw[aaa (by rw[YE];exact h),MQ]
theorem wS(f:Nat->Bool){i:Nat}(h:i < 32)(b:Bool):(WL f).set i (.bool b)=WL fun j=>if j=i then b else f j:=by
 apply Aad
 ·rw[qac,YE,YE]
 ·intro j h1 h2
  rw[Lae,MQ,MQ]
  by_cases hj:i=j
  ·subst hj;rw[if_pos rfl,if_pos rfl]
  ·rw[kaa hj,kaa (lac hj)]
theorem ov{f g:Nat->Bool}(h:∀ x,x < 32->f x=g x):WL f=WL g:=by
 unfold WL;apply iac;intro x hx;rw[h x (by simpa using hx)]
theorem gR{f g:Nat->Bool}(h:WL f=WL g){i:Nat}(hi:i < 32):f i=g i:=by
 have h1:=lK f hi;rw[h,lK g hi] at h1;injection h1 with h1;injection h1 with h1;exact h1.symm
theorem Fy(d:Int)(f:Nat->Bool):∀ e∈uc d f,(AV.pv e).one=true:=by
 intro e he;rcases Xaa.1 he with rfl | he
 ·rfl
 ·obtain⟨x,_,rfl⟩:=fab.1 he
  rfl
def nX(a:Al):Prop:=∃ b:Nat,a.2=(b:Int)/\b < 4294967296
theorem fW{a b:Al}(ha:nX a)(hb:nX b)(h:Af a=Af b):a=b:=by
 obtain⟨d,_⟩:=a;obtain⟨e,_⟩:=b;obtain⟨m,rfl,hm⟩:=ha;obtain⟨n,rfl,hn⟩:=hb;simp only[Af,uc,PV.agg.injEq,tae,PV.int.injEq,true_and,Daa] at h;have:m=n:=by
  apply Nat.eq_of_testBit_eq
  intro i
  by_cases hi:i < 32
  ·exact gR h.2 hi
  ·rw[Nat.testBit_lt_two_pow (bac hm (Nat.pow_le_pow_right (n:=2) (by decide) (by omega:32<=i))),Nat.testBit_lt_two_pow (bac hn (Nat.pow_le_pow_right (n:=2) (by decide) (by omega:32<=i)))]
 subst this;have h1:d=e:=by have:=h.1;omega
 rw[h1]
theorem oA:∀ (l:List Nat)(f g:Nat->Bool),gj (l.map fun _=>0) (l.map fun i=> .bool (f i)) (l.map fun i=> .bool (g i))=some (l.all fun i=>f i==g i)
 | [],f,g=>rfl
 |i::l,f,g=>by simp only[lab,gj,Rr,yaa,oA l f g,Haa,wac]
abbrev Q6:Kd:= .row [1,0,0,0,0,0,0,0,0,0,0,0,0,0,0,0,0,0,0,0,0,0,0,0,0,0,0,0,0,0,0,0,0]
theorem jY(a b:Al):∃ c,Nl Q6 (Af a) (Af b)=some c/\(c=true↔Af a=Af b):=by
 have h:=oA (List.range 32) a.2.toNat.testBit b.2.toNat.testBit
 have h0:(List.range 32).map (fun _=>0)=[0,0,0,0,0,0,0,0,0,0,0,0,0,0,0,0,0,0,0,0,0,0,0,0,0,0,0,0,0,0,0,0]:=by decide
 rw[h0] at h;refine⟨((a.1:Int)==b.1)&&(List.range 32).all fun i=>a.2.toNat.testBit i==b.2.toNat.testBit i,?_,?_⟩
 ·show gj (1::[0,0,0,0,0,0,0,0,0,0,0,0,0,0,0,0,0,0,0,0,0,0,0,0,0,0,0,0,0,0,0,0]) (i64 a.1::WL _) (i64 b.1::WL _)=_
  unfold gj;rw[show WL a.2.toNat.testBit=(List.range 32).map fun i=> .bool (a.2.toNat.testBit i) from rfl,show WL b.2.toNat.testBit=(List.range 32).map fun i=> .bool (b.2.toNat.testBit i) from rfl,h];simp only[Rr,if_true,yaa,Haa]
 ·simp only[baa,beq_iff_eq,Taa,Oac]
  constructor
  ·rintro⟨h1,h2⟩
   rw[Af,Af,h1];unfold uc;rw[ov h2]
  ·intro h
   simp only[Af,uc,PV.agg.injEq,tae,PV.int.injEq,true_and] at h;exact⟨h.1,fun i hi=>gR h.2 hi⟩
theorem OM(H:List ba){l:List Al}{i:Nat}(hi:i < l.length):ta H 33 (.pv (.lit 33 (l.map Af))) (i:Int)=some (.pv (.rp (uc l[i].1 l[i].2.toNat.testBit) 0)):=by
 simp only[ta];rw[if_pos (by refine⟨trivial,?_⟩;unfold Ia;simp;omega)];simp[hi,Af,PV.cells]
theorem aN(H:List ba)(d:Int)(f:Nat->Bool):pa H true 33 (.pv (.rp (uc d f) 0))=some (.pv (.agg (uc d f))):=by
 have h:=kh d f;simp only[pa,Km,if_true];rw[if_pos (by omega),xac,Saa (by omega)];rfl
theorem RS{a:Al}{l:List Al}{i k:Nat}(hi:i < l.length):Sm a (l.drop i) k=if a=l[i] then some k else Sm a (l.drop (i+1)) (k+1):=by
 rw[Paa hi,Sm]
abbrev JN(v:PV)(row:List PV)(i:Int):Tr:=((Tr.lf.set 5 (.pv (i64 i))).set 3 (.pv (.rp row 0))).set 0 (.pv v)
theorem TW{l:List Al}{a:Al}(hl:l.length<=64)(ha:nX a)(hb:∀ b∈l,nX b):Zi [.lit 33 (l.map Af),Af a]=some (i64 (match Sm a l 0 with | some k=>(k:Int) | none=> -1)):=by
 have D7:qd (fun r=>∃ E,(r=(.exit 0,⟨E,[]⟩)/\Sm a l 0=none)\/(∃ k,r=(.ret,⟨E,[]⟩)/\Sm a l 0=some k/\E.get 4= .pv (i64 (k:Nat))))
  (ab (ma (oa (Da (fun _=>none) 8) Ge) (na 0 [0,3,5])) ua ⟨JN (.lit 33 (l.map Af)) (uc a.1 a.2.toNat.testBit) 0,[]⟩):=by
  refine wa (Fb (g:=ma (oa (Da (fun _=>none) 8) Ge) (na 0 [0,3,5]))
   (fun i t=>t=⟨JN (.lit 33 (l.map Af)) (uc a.1 a.2.toNat.testBit) i,[]⟩/\Sm a l 0=Sm a (l.drop i) i)
   l.length (by unfold ua;omega) _ ⟨rfl,rfl⟩ ?_ ?_) (fun r h=>h.2)
  ·rintro i t hi ⟨rfl,hs⟩
   rw[RS hi] at hs;have a1:=OM [] hi;have a2:=aN [] l[i].1 l[i].2.toNat.testBit
   have a3:=aN [] a.1 a.2.toNat.testBit
   obtain⟨c,heq,hce⟩:=jY l[i] a;have heq:Nl Q6 (.agg (uc l[i].1 l[i].2.toNat.testBit)) (.agg (uc a.1 a.2.toNat.testBit))=some c:=heq;have e1:decide ((i:Int) < (l.length:Int))=true:=Ea (by omega);have t2:=Za hi (show l.length<=maxLen by unfold maxLen;omega);have ln:Tb [] 0 (.pv (.lit 33 (l.map Af)))=some l.length:=by simp[Tb]
   have hbi:=hb _ (jaa hi);generalize uc a.1 a.2.toNat.testBit=row at *
   generalize uc l[i].1 l[i].2.toNat.testBit=wae at *
   generalize l.map Af=es at *
   generalize hQ:LN _ _ i=Q
   by_cases h:a=l[i]
   ·rw[hce.2 (by rw[h])] at heq
    rw[if_pos h] at hs;simp -implicitDefEqProofs only[SX,sevalprocAttr,Ge,e1,ln,a1,a2,a3,heq,JN];subst hQ;exact⟨_,.inr ⟨i,rfl,hs,by simp[Tr.aa]⟩⟩
   ·have:c=false:=by cases c with | false=>rfl | true=>exact absurd (fW hbi ha (hce.1 rfl)).symm h
    rw[this] at heq;rw[kaa h] at hs;simp -implicitDefEqProofs only[SX,sevalprocAttr,Ge,e1,t2,ln,a1,a2,a3,heq,na,Ca,AV.cut,za,JN];subst hQ;exact⟨rfl,hs⟩
  ·rintro t ⟨rfl,hs⟩
   rw[vab,Sm] at hs;have e1:decide ((l.length:Int) < (l.length:Int))=false:=Ga (by omega);have ln:Tb [] 0 (.pv (.lit 33 (l.map Af)))=some l.length:=by simp[Tb]
   generalize l.map Af=es at *
   generalize hQ:(fun r:Ex×St=>r.1.stop=true/\_)=Q;simp -implicitDefEqProofs only[SX,sevalprocAttr,Ge,e1,ln,JN];subst hQ;exact⟨rfl,_,.inl ⟨rfl,hs⟩⟩
 have hln:=kh (a.1:Int) a.2.toNat.testBit
 have A8:∀ e∈uc (a.1:Int) a.2.toNat.testBit,(AV.pv e).one=true:=Fy _ _
 have he:Af a= .agg (uc a.1 a.2.toNat.testBit):=rfl
 rw[he];generalize uc (a.1:Int) a.2.toNat.testBit=row at *
 have hbx:((row.map AV.pv).length=33/\(row.map AV.pv).all AV.one=true)=True:=by
  refine Iaa ⟨by rw[haa,hln],?_⟩;rw[Taa];intro v hv;obtain⟨e,he,rfl⟩:=fab.1 hv
  exact A8 e he
 have hmp:Ra (Sb [] 0) (row.map AV.pv)=some row:=bF _ _ _;generalize l.map Af=es at *
 apply Xk;simp -implicitDefEqProofs only[Zi,SX,sevalprocAttr,gl,hbx,hmp,Db,na,Ca,AV.cut,za];refine wa D7 ?_;rintro _ ⟨E,⟨rfl,hn⟩ | ⟨k,rfl,hk,g⟩⟩
 ·simp -implicitDefEqProofs only[SX,sevalprocAttr,hn]
 ·simp -implicitDefEqProofs only[SX,sevalprocAttr,g,hk]
theorem Nh{α:Type}:∀ (vs cs:List α)(off j:Nat),off+vs.length<=cs.length->(fa cs off vs)[j]? =if off<=j/\j < off+vs.length then vs[j - off]? else cs[j]?
 | [],cs,off,j,h=>by rw[kaa (by simp only[pab];omega)];rfl
 |v::vs,cs,off,j,h=>by
  simp only[Oaa] at h;rw[fa,Nh vs _ (off+1) j (by simp;omega)]
  by_cases h1:off+1<=j/\j < off+1+vs.length
  ·rw[if_pos h1,if_pos (by simp only[Oaa];omega),show j - off=(j - (off+1))+1 by omega,eab]
  ·rw[kaa h1]
   by_cases h2:off=j
   ·subst h2
    rw[Maa (by omega),if_pos (by simp only[Oaa];omega),ead,dab]
   ·rw[Gaa h2,kaa (by simp only[Oaa];omega)]
def fg(n:Nat)(f:Nat->Bool):List PV:=(List.range n).map fun x=> .bool (f x)
theorem lh(n:Nat)(f:Nat->Bool):(fg n f).length=n:=by rw[fg,haa,eac]
theorem SE(n:Nat)(f:Nat->Bool){i:Nat}(h:i < (fg n f).length):(fg n f)[i]= .bool (f i):=by
 simp only[fg,kae,Tad]
theorem KB{n:Nat}(f:Nat->Bool){i:Nat}(h:i < n):(fg n f)[i]? =some (.bool (f i)):=by
 rw[aaa (by rw[lh];exact h),SE]
theorem tabN_get?(n:Nat)(f:Nat->Bool)(i:Nat):(fg n f)[i]? =if i < n then some (.bool (f i)) else none:=by
 by_cases h:i < n
 ·rw[if_pos h,KB f h]
 ·rw[kaa h,Raa (by rw[lh];omega)]
theorem GF{n:Nat}{f g:Nat->Bool}(h:∀ x,x < n->f x=g x):fg n f=fg n g:=by
 unfold fg;apply iac;intro x hx;rw[h x (by simpa using hx)]
theorem HO(n:Nat)(f:Nat->Bool):∀ e∈fg n f,(AV.pv e).one=true:=by
 intro e he;obtain⟨x,_,rfl⟩:=fab.1 he
 rfl
theorem FF(n:Nat):List.replicate n (PV.bool false)=fg n fun _=>false:=by
 apply Aad
 ·rw[Xab,lh]
 ·intro j h1 h2;rw[List.getElem_replicate,SE]
theorem dX(f:Nat->Bool):xg f=fg 256 f:=rfl
theorem VW{n:Nat}(f g:Nat->Bool){m off:Nat}(h:off+m<=n):fa (fg n f) off (fg m g)=fg n fun j=>if off<=j/\j < off+m then g (j - off) else f j:=by
 apply Iab;intro j;rw[Nh _ _ _ _ (by rw[lh,lh];exact h),lh,tabN_get?,tabN_get?,tabN_get?]
 by_cases h1:off<=j/\j < off+m
 ·rw[if_pos h1,if_pos (show j - off < m by omega),if_pos (by omega)]
  simp only[if_pos h1]
 ·rw[kaa h1]
  simp only[kaa h1]
theorem eG{α β:Type}(f:α->β):∀ (vs cs:List α)(off:Nat),fa (cs.map f) off (vs.map f)=(fa cs off vs).map f
 | [],cs,off=>rfl
 |v::vs,cs,off=>by rw[lab,fa,fa,<-eG f vs,qae]
theorem Z1{A:List ba}{id n off m:Nat}{f g:Nat->Bool}(hg:A[id]? =some (Hb (fg n f)))(h:off+m<=n):
 Ha A m (.ptr id off) (.pv (.agg (fg m g)))=some (A.set id (Hb (fg n fun j=>if off<=j/\j < off+m then g (j - off) else f j))):=by
 have X9:(AV.pv (.agg (fg m g))).cells=(fg m g).map .pv:=rfl
 simp only[Ha,hg,X9];rw[if_pos ⟨by rw[haa,lh],by rw[Taa];intro v hv;obtain⟨e,he,rfl⟩:=fab.1 hv;exact HO _ _ e he⟩,
  if_pos (by rw[haa,lh];exact h),eG,VW f g h]
def Io(s:Nb)(k x:Nat):Bool:=match s.parts[k]? with
 |some l=>mj l x
 |none=>false
def Xo(s:Nb)(k j:Nat):Bool:=decide (j / 256 < k)&&Io s (j / 256) (j % 256)
def tA(s:Nb):List PV:=fg 2048 (Xo s 8)
theorem zT(s:Nb){k:Nat}(hk:k < s.parts.length):(fun j=>if k * 256<=j/\j < k * 256+256 then mj s.parts[k] (j - k * 256) else Xo s k j)=Xo s (k+1):=by
 funext j
 by_cases h:k * 256<=j/\j < k * 256+256
 ·have h1:j / 256=k:=by omega
  have h2:j % 256=j - k * 256:=by omega
  rw[if_pos h,Xo,h1,h2,Io,aaa hk];simp
 ·rw[kaa h,Xo,Xo]
  congr 1
  rw[decide_eq_decide];omega
theorem CY(s:Nb)(h8:s.parts.length<=8):fg 2048 (Xo s s.parts.length)=tA s:=by
 refine GF fun j hj=> ?_;unfold Xo;have h2:decide (j / 256 < 8)=true:=decide_eq_true (by omega);rw[h2,oab]
 by_cases h:j / 256 < s.parts.length
 ·rw[decide_eq_true h,oab]
 ·rw[decide_eq_false h,Iac,Io,Raa (by omega)]
abbrev Dc(i:Nat):List PV:=uc 0 fun j=>decide (j < i)
abbrev Lz(S:PV)(nl:Bool)(es:List PV)(i k:Int):Tr:=(((((Tr.lf.set 9 (.pv (i64 k))).set 8 (.ptr 2 0)).set 7 (.pv (i64 i))).set 6 (.ptr 1 0)).set 5 (.uq 0 nl 2048 es)).set 1 (.pv (.rp [S] 0))
abbrev Fz(S:PV)(nl:Bool)(es:List PV)(i:Int):Tr:=(((Tr.lf.set 7 (.pv (i64 i))).set 6 (.ptr 1 0)).set 5 (.uq 0 nl 2048 es)).set 1 (.pv (.rp [S] 0))
theorem EU(call:Sa){S:PV}{ss:List Nb}{es:List PV}(hS:qb S ss es){i:Nat}(hi:i < ss.length)(h8:ss[i].parts.length<=8)(nl:Bool)(os:List PV)(m:Nat)(F:List PV):
 qd (fun r=>∃ E,r=(.exit 2,⟨E,[.tok 2048 m nl,Hb F,Hb (tA ss[i])]⟩)/\E.get 1= .pv (.rp [S] 0)/\E.get 5= .uq 0 nl 2048 os/\E.get 6= .ptr 1 0/\E.get 7= .pv (i64 i)/\E.get 8= .ptr 2 0)
  (ab (ma (oa call Wf) (na 3 [1,5,6,7,8,9])) ua ⟨Lz S nl os i 0,[.tok 2048 m nl,Hb F,Hb (fg 2048 fun _=>false)]⟩):=by
 obtain⟨P,ps,hP,a0⟩:=hS.Pd hi
 rw[<- CY _ h8];have ln:=hP.parts.Tb
 have hz:(fg 2048 fun _=>false)=fg 2048 (Xo ss[i] 0):=GF fun j _=>by rw[Xo];simp
 rw[hz];generalize ss[i]=s at *;refine wa (Fb (g:=ma (oa call Wf) (na 3 [1,5,6,7,8,9]))
  (fun k t=>t=⟨Lz S nl os i k,[.tok 2048 m nl,Hb F,Hb (fg 2048 (Xo s k))]⟩)
  s.parts.length (by unfold ua;omega) _ rfl ?_ ?_) (fun r h=>h.2)
 ·rintro k t hk rfl
  obtain⟨v,hv,Y8,_⟩:=hP.parts.Pd hk []
  have a1:=hP.parts.Ry hv
  have hm:=Dy Y8.is Y8.sz
  have hnx:=zT s hk;have e1:decide ((k:Int) < (s.parts.length:Int))=true:=Ea (by omega);have t2:IntKind.i64.wrap ((k:Int)+1)=((k+1:Nat):Int):=Aa (by omega)
  have hq:Ia (k:Int) 8:=by unfold Ia;omega
  have t1:((k:Int)).toNat=k:=by simp
  have pl:=Vj (A:=[.tok 2048 m nl,Hb F,Hb (fg 2048 (Xo s k))]) (id:=2) (es:=fg 2048 (Xo s k)) rfl 0 (k * 256);rw[Zaa] at pl;have st:=Z1 (A:=[.tok 2048 m nl,Hb F,Hb (fg 2048 (Xo s k))]) (id:=2) (n:=2048) (off:=k * 256) (m:=256) (f:=Xo s k) (g:=mj s.parts[k]) rfl (by omega);rw[hnx,<-dX] at st;have st2:([.tok 2048 m nl,Hb F,Hb (fg 2048 (Xo s k))]:List ba).set 2 (Hb (fg 2048 (Xo s (k+1))))=[.tok 2048 m nl,Hb F,Hb (fg 2048 (Xo s (k+1)))]:=rfl
  rw[st2] at st;have c1:=xh F 3;have c2:=xh (fg 2048 (Xo s (k+1))) 3;have c0:qa 3 (.tok 2048 m nl)=some (.tok 2048 m nl):=rfl;have Q8:∀ st:St,st=⟨Lz S nl os i (k+1:Nat),[.tok 2048 m nl,Hb F,Hb (fg 2048 (Xo s (k+1)))]⟩->LN (fun k t=>t=⟨Lz S nl os i k,[.tok 2048 m nl,Hb F,Hb (fg 2048 (Xo s k))]⟩)
   (fun r=>∃ E,r=(.exit 2,⟨E,[.tok 2048 m nl,Hb F,Hb (fg 2048 (Xo s s.parts.length))]⟩)/\E.get 1= .pv (.rp [S] 0)/\E.get 5= .uq 0 nl 2048 os/\E.get 6= .ptr 1 0/\E.get 7= .pv (i64 i)/\E.get 8= .ptr 2 0) k (.norm,st):=fun st h=>h
  generalize LN _ _ k=QQ at Q8 ⊢;generalize Hb F=oF at *;generalize Hb (fg 2048 (Xo s k))=oT at *;generalize Hb (fg 2048 (Xo s (k+1)))=oT' at *;generalize xg (mj s.parts[k])=T at *;have P7:Ra (qa 3) [.tok 2048 m nl,oF,oT']=some [.tok 2048 m nl,oF,oT']:=by simp only[Ra,c0,c1,c2,yaa,Haa]
  have o8:∀ a b c:ba,([a,b,c]:List ba).take 3=[a,b,c]:=fun a b c=>rfl
  have d0:(0 < 3)=True:=by simp
  have d1:(1 < 3)=True:=by simp
  have d2:(2 < 3)=True:=by simp
  simp -implicitDefEqProofs only[SX,sevalprocAttr,-List.reduceReplicate,Wf,fc,Wa,Uc,oe,a0,a1,ln,e1,hm,Iaa hq,t1,t2,pl,st,P7,o8,d0,d1,d2,na,Ca,AV.cut,za,Lz];exact Q8 _ rfl
 ·rintro t rfl
  have e1:decide ((s.parts.length:Int) < (s.parts.length:Int))=false:=Ga (by omega);generalize Hb (fg 2048 (Xo s s.parts.length))=oT;generalize Hb F=oF;generalize hQ:(fun r:Ex×St=>r.1.stop=true/\_)=Q;simp -implicitDefEqProofs only[SX,sevalprocAttr,-List.reduceReplicate,Wf,fc,Wa,Uc,oe,a0,ln,e1,Lz];subst hQ;exact⟨rfl,_,rfl,by simp[Tr.aa],by simp[Tr.aa],by simp[Tr.aa],by simp[Tr.aa],by simp[Tr.aa]⟩
theorem PQ{i:Nat}(hi:i < 32):(Dc i).set (1+i) (.bool true)=Dc (i+1):=by
 rw[Nat.add_comm 1 i];unfold Dc uc;rw[Mac,wS _ hi]
 congr 1
 refine ov fun x hx=> ?_
 by_cases h:x=i
 ·subst h;simp
 ·rw[kaa h,decide_eq_decide];omega
def Ef(ss:List Nb):List PV:=ss.map fun s=> .agg (tA s)
theorem NU(call:Sa){S:PV}{ss:List Nb}{es:List PV}(hS:qb S ss es)(hw:ss.length<=32)(h8:∀ s∈ss,s.parts.length<=8):
 qd (fun r=>∃ E nl,r=(.exit 0,⟨E,[.tok 2048 ss.length nl,Hb (Dc ss.length)]⟩)/\E.get 1= .pv (.rp [S] 0)/\E.get 5= .uq 0 nl 2048 (Ef ss)/\E.get 6= .ptr 1 0)
  (ab (ma (oa call Yf) (na 2 [1,5,6,7])) ua ⟨Fz S true [] 0,[.tok 2048 0 true,Hb (Dc 0)]⟩):=by
 have ln:=hS.Tb
 refine wa (Fb (g:=ma (oa call Yf) (na 2 [1,5,6,7]))
  (fun i t=>∃ nl,t=⟨Fz S nl (Ef (ss.take i)) i,[.tok 2048 i nl,Hb (Dc i)]⟩)
  ss.length (by unfold ua;omega) _ ⟨true,rfl⟩ ?_ ?_) (fun r h=>h.2)
 ·rintro i t hi ⟨nl,rfl⟩
  have b9:=EU call hS hi (h8 _ (jaa hi)) nl (Ef (ss.take i)) i (Dc (i+1));have U7:Ef (ss.take (i+1))=Ef (ss.take i)++[.agg (tA ss[i])]:=by
   have:ss.take (i+1)=ss.take i++[ss[i]]:=by simp
   rw[this,Ef,jac];rfl
  have M8:(Ef (ss.take i)).length=i:=by rw[Ef,haa,zab];omega
  have e1:decide ((i:Int) < (ss.length:Int))=true:=Ea (by omega);have t2:=Za hi (show ss.length<=maxLen by unfold maxLen;omega);have hq:Ia (i:Int) 32:=by unfold Ia;omega
  have t1:((i:Int)).toNat=i:=by simp
  have m1:i * 1=i:=by omega
  have p1:=Vj (A:=[.tok 2048 i nl,Hb (Dc i)]) (id:=1) (es:=Dc i) rfl 0 1;have p2:=Vj (A:=[.tok 2048 i nl,Hb (Dc i)]) (id:=1) (es:=Dc i) rfl 1 i;rw[Zaa] at p1;have st:=wz (A:=[.tok 2048 i nl,Hb (Dc i)]) (id:=1) (es:=Dc i) rfl (k:=1+i) (by rw[Dc,kh];omega) (e:= .bool true) rfl rfl;rw[PQ (by omega)] at st;have st2:([.tok 2048 i nl,Hb (Dc i)]:List ba).set 1 (Hb (Dc (i+1)))=[.tok 2048 i nl,Hb (Dc (i+1))]:=rfl
  rw[st2] at st;have hz1:ba.box (List.map AV.pv (List.replicate 2048 (PV.bool false)))=Hb (fg 2048 fun _=>false):=by rw[FF]
  have hcz:(List.replicate 2048 (PV.bool false)).length=2048:=Xab
  have hld:pa [.tok 2048 i nl,Hb (Dc (i+1)),Hb (tA ss[i])] true 2048 (.ptr 2 0)=some (.pv (.agg (tA ss[i]))):=bn (id:=2) rfl (lh _ _);have s8:=Mh (A:=[.tok 2048 i nl,Hb (Dc (i+1)),Hb (tA ss[i])]) (id:=0) (n:=i) (sz:=2048) (h:= .uq) (nl:=nl) (ag:=true) (bytes:=2048) (es:=Ef (ss.take i)) rfl M8.symm (by unfold eb;omega) (.agg (tA ss[i]))
  rw[<- U7,fac] at s8;have c1:=xh (Dc i) 3;have c1':=xh (Dc (i+1)) 3;have c2:=xh (Dc (i+1)) 2;have c3:=xh (fg 2048 fun _=>false) 3;have c0:∀ k n nl,qa k (.tok 2048 n nl)=some (.tok 2048 n nl):=fun k n nl=>rfl;have hon:=HO 2048 (Xo ss[i] 8);have hol:=lh 2048 (Xo ss[i] 8);have Q8:∀ st:St,st=⟨Fz S false (Ef (ss.take (i+1))) (i+1:Nat),[.tok 2048 (i+1) false,Hb (Dc (i+1))]⟩->LN (fun i t=>∃ nl,t=⟨Fz S nl (Ef (ss.take i)) i,[.tok 2048 i nl,Hb (Dc i)]⟩)
   (fun r=>∃ E nl,r=(.exit 0,⟨E,[.tok 2048 ss.length nl,Hb (Dc ss.length)]⟩)/\E.get 1= .pv (.rp [S] 0)/\E.get 5= .uq 0 nl 2048 (Ef ss)/\E.get 6= .ptr 1 0) i (.norm,st):=fun st h=>⟨false,h⟩
  generalize LN _ _ i=QQ at Q8 ⊢;have aal:Ra (qa 3) [.tok 2048 i nl,Hb (Dc (i+1)),Hb (fg 2048 fun _=>false)]=some [.tok 2048 i nl,Hb (Dc (i+1)),Hb (fg 2048 fun _=>false)]:=by simp only[Ra,c0,c1',c3,yaa,Haa]
  have uaa:Ra (qa 2) [.tok 2048 (i+1) false,Hb (Dc (i+1))]=some [.tok 2048 (i+1) false,Hb (Dc (i+1))]:=by simp only[Ra,c0,c2,yaa,Haa]
  change ∀ e∈tA ss[i],_ at hon;change (tA ss[i]).length=2048 at hol
  generalize tA ss[i]=T at *;generalize Ef (ss.take i)=os at *;generalize Ef (ss.take (i+1))=os' at *;generalize hzs:List.replicate 2048 (PV.bool false)=zs at *
  have A8:((T.map AV.pv).all AV.one)=true:=by
   rw[Taa];intro v hv;obtain⟨e,he,rfl⟩:=fab.1 hv
   exact hon e he
  have hsr:fa (zs.map AV.pv++[]) 0 (T.map AV.pv)=T.map AV.pv:=by have:=Tw (T.map AV.pv) (zs.map AV.pv) [] (by simp;omega);rw[wab];simpa using this
  have hTl:(T.map AV.pv).length=2048:=by rw[haa,hol]
  have iab:=Qf T;have htT:T.take 2048=T:=Saa (by omega)
  have hle:(2048<=(zs.map AV.pv++[]).length)=True:=Iaa (by rw[wab,haa,hcz];exact paa _);generalize hoz:Hb (fg 2048 fun _=>false)=oz at *;generalize Hb (Dc i)=o1 at *;generalize Hb (Dc (i+1))=o1' at *;generalize hoT:Hb T=oT at *;have o8:∀ a b c:ba,([a,b,c]:List ba).take 3=[a,b,c]:=fun a b c=>rfl
  have w9:∀ a b c:ba,([a,b,c]:List ba).take 2=[a,b]:=fun a b c=>rfl
  have d0:(0 < 3)=True:=by simp
  have d1:(1 < 3)=True:=by simp
  have d2:(2 < 3)=True:=by simp
  have d02:(0 < 2)=True:=by simp
  have d12:(1 < 2)=True:=by simp
  simp -implicitDefEqProofs only[SP,WP,fa,sevalprocAttr,-List.reduceReplicate,Yf,Db,fc,Wa,ln,e1,Iaa hq,t1,m1,p1,p2,st,hzs,hz1,aal,o8,d0,d1,d2,na,Ca,AV.cut,za,Fz];refine wa b9 ?_;rintro r ⟨E,rfl,g1,g5,g6,g7,g8⟩;simp -implicitDefEqProofs only[SP,WP,fa,sevalprocAttr,-List.reduceReplicate,g1,g5,g6,g7,g8,hld,hzs,hTl,A8,hsr,s8,iab,htT,hle,t2,uaa,w9,d02,d12,na,Ca,AV.cut,za];exact Q8 _ rfl
 ·rintro t ⟨nl,rfl⟩
  rw[sab];have e1:decide ((ss.length:Int) < (ss.length:Int))=false:=Ga (by omega);generalize Hb (Dc ss.length)=oF;generalize Ef ss=os;generalize hQ:(fun r:Ex×St=>r.1.stop=true/\_)=Q;simp -implicitDefEqProofs only[SX,sevalprocAttr,-List.reduceReplicate,Yf,fc,Wa,ln,e1,Fz];subst hQ;exact⟨rfl,_,nl,rfl,by simp[Tr.aa],by simp[Tr.aa],by simp[Tr.aa]⟩
def yg(f:Nat->Bool):Nat->Bool
 |0=>false
 |n+1=>yg f n||f n
def Gm(ss:List Nb)(a:Al)(x j:Nat):Bool:=a.2.toNat.testBit j&&(match ss[j]? with | some s=>Io s a.1 x | none=>false)
def sr(ss:List Nb)(a:Al)(x j:Nat):Bool:=Gm ss a x j&&(match ss[j]? with | some s=>((s.parts.length:Int)==(a.1:Int)+1) | none=>false)
abbrev KN(S:PV)(nl O9:Bool)(os es rs:List PV)(n x i:Int)(so en:Bool):Tr:=
 ((((((((((Tr.lf.set 18 (.pv (i64 i))).set 17 (.pv (.bool en))).set 16 (.pv (.bool so))).set 15 (.ptr 5 0)).set 14 (.pv (i64 x))).set 13 (.ptr 4 0)).set 12 (.pv (i64 n))).set 11 (.uq 3 O9 256 rs)).set 10 (.uq 2 false 33 es)).set 5 (.uq 0 nl 2048 os)).set 1 (.pv (.rp [S] 0))
theorem QM(d:Int)(f:Nat->Bool){i:Nat}(h:i < 32):(uc d f)[1+i]? =some (.bool (f i)):=by
 rw[Nat.add_comm,uc,eab,lK f h]
theorem cG(H:List ba)(id:Nat)(nl:Bool){l:List Al}{i:Nat}{a:Al}(ha:l[i]? =some a):ta H 33 (.uq id nl 33 (l.map Af)) (i:Int)=some (.pv (.rp (uc a.1 a.2.toNat.testBit) 0)):=by
 have hi:=(iaa.1 ha).1
 simp only[ta];rw[if_pos (by refine⟨trivial,?_⟩;unfold Ia;simp;omega)];simp[ha,Af,PV.cells]
theorem TS(H:List ba)(id:Nat)(nl:Bool){ss:List Nb}{i:Nat}(hi:i < ss.length):ta H 2048 (.uq id nl 2048 (Ef ss)) (i:Int)=some (.pv (.rp (tA ss[i]) 0)):=by
 simp only[ta];rw[if_pos (by refine⟨trivial,?_⟩;unfold Ia Ef;simp;omega)];simp[hi,Ef,PV.cells]
theorem Tj(H:List ba)(row:List PV)(o d:Nat):place H d (.pv (.rp row o))=some (.pv (.rp row (o+d))):=rfl
theorem fC{row:List PV}{k:Nat}{e:PV}(h:row[k]? =some e)(H:List ba):pa H false 1 (.pv (.rp row k))=some (.pv e):=by
 simp only[pa,Km,saa,if_false,h,Haa]
theorem YZ(call:Sa){S:PV}{ss:List Nb}{es:List PV}(hS:qb S ss es)(hw:ss.length<=32)(h8:∀ s∈ss,s.parts.length<=8){B7:List Al}{n x:Nat}{a:Al}(ha:B7[n]? =some a)(hx:x < 256)
 (Ba:∀ i s,ss[i]? =some s->a.2.toNat.testBit i=true->a.1 < s.parts.length) (hd:a.1<=64)
 (nl O9:Bool) (rs:List PV) (o0 o1 o2 o3 o4:ba) (hc:Ra (qa 6) [o0,o1,o2,o3,o4]=some [o0,o1,o2,o3,o4]):
 qd (fun r=>∃ E,r=(.exit 8,⟨E,[o0,o1,o2,o3,o4,Hb (uc ((a.1:Int)+1) fun j=>decide (j < ss.length)&&Gm ss a x j)]⟩)/\E.get 1= .pv (.rp [S] 0)/\E.get 5= .uq 0 nl 2048 (Ef ss)/\E.get 10= .uq 2 false 33 (B7.map Af)/\E.get 11= .uq 3 O9 256 rs/\E.get 12= .pv (i64 n)/\E.get 13= .ptr 4 0/\E.get 14= .pv (i64 x)/\E.get 15= .ptr 5 0/\
  E.get 16= .pv (.bool (yg (Gm ss a x) ss.length))/\E.get 17= .pv (.bool (yg (sr ss a x) ss.length)))
  (ab (ma (oa call Gd) (na 6 [1,5,10,11,12,13,14,15,16,17,18])) ua ⟨KN S nl O9 (Ef ss) (B7.map Af) rs n x 0 false false,[o0,o1,o2,o3,o4,Hb (uc ((a.1:Int)+1) fun _=>false)]⟩):=by
 have ln:=hS.Tb
 have a0:(uc ((a.1:Int)+1) fun _=>false)=uc ((a.1:Int)+1) fun j=>decide (j < 0)&&Gm ss a x j:=by simp
 rw[a0];refine wa (Fb (g:=ma (oa call Gd) (na 6 [1,5,10,11,12,13,14,15,16,17,18]))
  (fun i t=>t=⟨KN S nl O9 (Ef ss) (B7.map Af) rs n x i (yg (Gm ss a x) i) (yg (sr ss a x) i),[o0,o1,o2,o3,o4,Hb (uc ((a.1:Int)+1) fun j=>decide (j < i)&&Gm ss a x j)]⟩)
  ss.length (by unfold ua;omega) _ rfl ?_ ?_) (fun r h=>h.2)
 ·rintro i t hi rfl
  obtain⟨P,ps,hP,b0⟩:=hS.Pd hi
  have lP:=hP.parts.Tb
  have hsi:ss[i]? =some ss[i]:=aaa hi;have oai:=Ba i _ hsi;have h8i:=h8 _ (jaa hi);have i1:=fun H=>cG H 2 false ha;have i2:=fun H=>TS H 0 nl hi;have l1:=fC (QM (a.1:Int) a.2.toNat.testBit (i:=i) (by omega));have l0:=fC (show (uc (a.1:Int) a.2.toNat.testBit)[0]? =some (i64 a.1) from rfl);have l2:a.1 < ss[i].parts.length->∀ H,pa H false 1 (.pv (.rp (tA ss[i]) (a.1 * 256+x)))=some (.pv (.bool (Io ss[i] a.1 x))):=by intro E7;refine fC ?_;rw[tA,KB _ (by omega),Xo,show (a.1 * 256+x) / 256=a.1 by omega,show (a.1 * 256+x) % 256=x by omega,decide_eq_true (show a.1 < 8 by omega),oab]
  have onE:Gm ss a x i=(a.2.toNat.testBit i&&Io ss[i] a.1 x):=by rw[Gm,hsi]
  have enE:sr ss a x i=(Gm ss a x i&&((ss[i].parts.length:Int)==(a.1:Int)+1)):=by rw[sr,hsi]
  have p1:=Vj (A:=[o0,o1,o2,o3,o4,Hb (uc ((a.1:Int)+1) fun j=>decide (j < i)&&Gm ss a x j)]) (id:=5) (es:=uc ((a.1:Int)+1) fun j=>decide (j < i)&&Gm ss a x j) rfl 0 1;have p2:=Vj (A:=[o0,o1,o2,o3,o4,Hb (uc ((a.1:Int)+1) fun j=>decide (j < i)&&Gm ss a x j)]) (id:=5) (es:=uc ((a.1:Int)+1) fun j=>decide (j < i)&&Gm ss a x j) rfl 1 i;rw[Zaa] at p1;have st:=wz (A:=[o0,o1,o2,o3,o4,Hb (uc ((a.1:Int)+1) fun j=>decide (j < i)&&Gm ss a x j)]) (id:=5) (es:=uc ((a.1:Int)+1) fun j=>decide (j < i)&&Gm ss a x j) rfl (k:=1+i) (by rw[kh];omega) (e:= .bool (Gm ss a x i)) rfl rfl;have P9:(uc ((a.1:Int)+1) fun j=>decide (j < i)&&Gm ss a x j).set (1+i) (.bool (Gm ss a x i))=uc ((a.1:Int)+1) fun j=>decide (j < i+1)&&Gm ss a x j:=by
   rw[Nat.add_comm 1 i];unfold uc;rw[Mac,wS _ (by omega)]
   congr 1
   refine ov fun j hj=> ?_
   by_cases h:j=i
   ·subst h;simp
   ·rw[kaa h]
    congr 1
    rw[decide_eq_decide];omega
  rw[P9] at st;have st2:([o0,o1,o2,o3,o4,Hb (uc ((a.1:Int)+1) fun j=>decide (j < i)&&Gm ss a x j)]:List ba).set 5 (Hb (uc ((a.1:Int)+1) fun j=>decide (j < i+1)&&Gm ss a x j))=[o0,o1,o2,o3,o4,Hb (uc ((a.1:Int)+1) fun j=>decide (j < i+1)&&Gm ss a x j)]:=rfl
  rw[st2] at st;have q1:=Vj (A:=[o0,o1,o2,o3,o4,Hb (uc ((a.1:Int)+1) fun j=>decide (j < i+1)&&Gm ss a x j)]) (id:=5) (es:=uc ((a.1:Int)+1) fun j=>decide (j < i+1)&&Gm ss a x j) rfl 0 1;have q0:=Vj (A:=[o0,o1,o2,o3,o4,Hb (uc ((a.1:Int)+1) fun j=>decide (j < i+1)&&Gm ss a x j)]) (id:=5) (es:=uc ((a.1:Int)+1) fun j=>decide (j < i+1)&&Gm ss a x j) rfl 0 0;have q2:=Vj (A:=[o0,o1,o2,o3,o4,Hb (uc ((a.1:Int)+1) fun j=>decide (j < i+1)&&Gm ss a x j)]) (id:=5) (es:=uc ((a.1:Int)+1) fun j=>decide (j < i+1)&&Gm ss a x j) rfl 1 i;rw[Zaa] at q1 q0;have k1:=rF (A:=[o0,o1,o2,o3,o4,Hb (uc ((a.1:Int)+1) fun j=>decide (j < i+1)&&Gm ss a x j)]) (id:=5) (es:=uc ((a.1:Int)+1) fun j=>decide (j < i+1)&&Gm ss a x j) rfl (QM _ _ (i:=i) (by omega));have k0:=rF (A:=[o0,o1,o2,o3,o4,Hb (uc ((a.1:Int)+1) fun j=>decide (j < i+1)&&Gm ss a x j)]) (id:=5) (es:=uc ((a.1:Int)+1) fun j=>decide (j < i+1)&&Gm ss a x j) rfl (k:=0) (e:=i64 ((a.1:Int)+1)) rfl;rw[decide_eq_true (Qad i),oab] at k1;have c5:=xh (uc ((a.1:Int)+1) fun j=>decide (j < i+1)&&Gm ss a x j) 6;have e1:decide ((i:Int) < (ss.length:Int))=true:=Ea (by omega);have t2:=Za hi (show ss.length<=maxLen by unfold maxLen;omega);have hq:Ia (i:Int) 32:=by unfold Ia;omega
  have hqx:Ia (x:Int) 256:=by unfold Ia;omega
  have t1:∀ i:Nat,((i:Int)).toNat=i:=fun i=>by simp
  have m1:∀ i:Nat,i * 1=i:=fun i=>by omega
  have z1:∀ i:Nat,0+i=i:=fun i=>by omega
  have Q8:∀ st:St,st=⟨KN S nl O9 (Ef ss) (B7.map Af) rs n x (i+1:Nat) (yg (Gm ss a x) i||Gm ss a x i) (yg (sr ss a x) i||sr ss a x i),[o0,o1,o2,o3,o4,Hb (uc ((a.1:Int)+1) fun j=>decide (j < i+1)&&Gm ss a x j)]⟩->
   LN (fun i t=>t=⟨KN S nl O9 (Ef ss) (B7.map Af) rs n x i (yg (Gm ss a x) i) (yg (sr ss a x) i),[o0,o1,o2,o3,o4,Hb (uc ((a.1:Int)+1) fun j=>decide (j < i)&&Gm ss a x j)]⟩)
   (fun r=>∃ E,r=(.exit 8,⟨E,[o0,o1,o2,o3,o4,Hb (uc ((a.1:Int)+1) fun j=>decide (j < ss.length)&&Gm ss a x j)]⟩)/\E.get 1= .pv (.rp [S] 0)/\E.get 5= .uq 0 nl 2048 (Ef ss)/\E.get 10= .uq 2 false 33 (B7.map Af)/\E.get 11= .uq 3 O9 256 rs/\E.get 12= .pv (i64 n)/\E.get 13= .ptr 4 0/\E.get 14= .pv (i64 x)/\E.get 15= .ptr 5 0/\
    E.get 16= .pv (.bool (yg (Gm ss a x) ss.length))/\E.get 17= .pv (.bool (yg (sr ss a x) ss.length))) i (.norm,st):=fun st h=>h
  generalize LN _ _ i=QQ at Q8 ⊢;generalize (uc ((a.1:Int)+1) fun j=>decide (j < i)&&Gm ss a x j)=Y at *;generalize (uc ((a.1:Int)+1) fun j=>decide (j < i+1)&&Gm ss a x j)=Y' at *;generalize uc (a.1:Int) a.2.toNat.testBit=row at *
  generalize Hb Y=oY at *;generalize Hb Y'=oY' at *;have P7:Ra (qa 6) [o0,o1,o2,o3,o4,oY']=some [o0,o1,o2,o3,o4,oY']:=by
   simp only[Ra,laa,daa] at hc;simp only[Ra];obtain⟨_,h0,_,⟨_,h1,_,⟨_,h2,_,⟨_,h3,_,⟨_,h4,_⟩,_⟩,_⟩,_⟩,hh⟩:=hc
   simp_all
  have o8:∀ a b c d e f:ba,([a,b,c,d,e,f]:List ba).take 6=[a,b,c,d,e,f]:=fun a b c d e f=>rfl
  have d0:(0 < 6)=True:=by simp
  have d2:(2 < 6)=True:=by simp
  have d3:(3 < 6)=True:=by simp
  have d4:(4 < 6)=True:=by simp
  have d5:(5 < 6)=True:=by simp
  generalize tA ss[i]=K7 at *;generalize ss[i]=s at *;generalize Ef ss=os at *;generalize B7.map Af=se at *
  generalize yg (Gm ss a x) i=so at *;generalize yg (sr ss a x) i=en at *;generalize hle:((s.parts.length:Int)==(a.1:Int)+1)=le at *;rw[enE] at Q8;rw[onE] at st k1 Q8;generalize hbb:a.2.toNat.testBit i=bb at *
  generalize Io s a.1 x=mm at *
  have hm6:(10<=20)=True:=by simp
  cases bb with
  |false=>
   simp only[Iac,cae] at st k1 Q8;cases so <;> cases en <;>
   ·simp -implicitDefEqProofs only[SX,sevalprocAttr,Gd,fc,Wa,Tj,ln,e1,t2,i1,i2,l0,l1,Iaa hq,Iaa hqx,t1,m1,z1,p1,p2,st,q0,q1,q2,k0,k1,P7,o8,d0,d2,d3,d4,d5,na,Ca,AV.cut,za,KN]
    exact Q8 _ rfl
  |true=>
   have l2':=l2 (oai rfl);have hqd:Ia (a.1:Int) 8:=by have:=oai rfl;unfold Ia;omega
   simp only[oab] at st k1 Q8;cases mm with
   |false=>
    simp only[Iac,cae] at Q8;cases so <;> cases en <;>
    ·simp -implicitDefEqProofs only[SX,sevalprocAttr,Gd,fc,Wa,Tj,ln,e1,t2,i1,i2,l0,l1,l2',Iaa hq,Iaa hqx,Iaa hqd,t1,m1,z1,p1,p2,st,q0,q1,q2,k0,k1,P7,o8,d0,d2,d3,d4,d5,na,Ca,AV.cut,za,KN]
     exact Q8 _ rfl
   |true=>
    simp only[oab,Bool.or_true] at Q8;cases so <;> cases en <;>
    ·simp -implicitDefEqProofs only[SX,sevalprocAttr,Gd,fc,Wa,Uc,oe,Tj,ln,lP,b0,e1,t2,i1,i2,l0,l1,l2',Iaa hq,Iaa hqx,Iaa hqd,t1,m1,z1,p1,p2,st,q0,q1,q2,k0,k1,hle,P7,o8,d0,d2,d3,d4,d5,na,Ca,AV.cut,za,KN]
     exact Q8 _ rfl
 ·rintro t rfl
  have e1:decide ((ss.length:Int) < (ss.length:Int))=false:=Ga (by omega);generalize Hb (uc ((a.1:Int)+1) fun j=>decide (j < ss.length)&&Gm ss a x j)=oF;generalize Ef ss=os;generalize B7.map Af=se
  generalize yg (Gm ss a x) ss.length=so
  generalize yg (sr ss a x) ss.length=en
  generalize hQ:(fun r:Ex×St=>r.1.stop=true/\_)=Q;simp -implicitDefEqProofs only[SX,sevalprocAttr,Gd,fc,Wa,ln,e1,KN];subst hQ;exact⟨rfl,_,rfl,by simp[Tr.aa],by simp[Tr.aa],by simp[Tr.aa],by simp[Tr.aa],by simp[Tr.aa],by simp[Tr.aa],by simp[Tr.aa],by simp[Tr.aa],by simp[Tr.aa],by simp[Tr.aa]⟩
theorem zJ{x:Int}:∀ {l:List (Int×Int)}{last n:Int},Pa 255 last l=true->((Ld x n l).2=true↔Kk x l)
 | [],last,n,h=>by simp[Ld,eo]
 |p::l,last,n,h=>by
  have hp:=Jo h p (by simp);have h2:=h;simp only[Pa,baa] at h2;rw[Ld,zn]
  by_cases h1:x < p.1
  ·rw[if_pos h1]
   simp only[saa,false_iff];rintro (h3 | h3)
   ·omega
   ·have:=Sp h2.2 h3;omega
  ·rw[kaa h1]
   by_cases h3:x<=p.2
   ·rw[if_pos h3];simp;omega
   ·rw[kaa h3,zJ h2.2]
    constructor
    ·exact .inr
    ·rintro (h4 | h4)
     ·omega
     ·exact h4
theorem vJ(l:List (Int×Int))(x:Nat):YP l x=mj l x:=by
 unfold YP IA mj
 by_cases h:Pa 255 (-2) l=true
 ·rw[if_pos h,h,oab,Xad,zJ h,Yw]
 ·rw[kaa h]
  have:Pa 255 (-2) l=false:=by simpa using h
  rw[this];rfl
theorem cz(s:Nb)(d x:Nat):Nv s d x=Io s d x:=by
 unfold Nv Io;cases s.parts[d]? with
 |none=>rfl
 |some l=>exact vJ l x
theorem Xu(f:Nat->Bool):∀ n,yg f n=true↔∃ j,j < n/\f j=true
 |0=>by simp[yg]
 |n+1=>by
  rw[yg,Nac,Xu f n];constructor
  ·rintro (⟨j,h1,h2⟩ | h)
   ·exact⟨j,by omega,h2⟩
   ·exact⟨n,by omega,h⟩
  ·rintro⟨j,h1,h2⟩
   by_cases h:j=n
   ·subst h;exact .inr h2
   ·exact .inl ⟨j,by omega,h2⟩
theorem mR{ss:List Nb}{a:Al}{x j:Nat}(h:ss.length<=j):Gm ss a x j=false:=by
 rw[Gm,Raa h,Bool.and_false]
structure MD(ss:List Nb)(a:Al)(x:Nat)(m:Nat):Prop where
 fst:(Zh x a.2 a.1 0 ss (0,false)).1=(m:Int)
 lt:m < 4294967296
 bit:∀ j,m.testBit j=Gm ss a x j
 ends:(Zh x a.2 a.1 0 ss (0,false)).2=yg (sr ss a x) ss.length
 ex:m≠0↔yg (Gm ss a x) ss.length=true
theorem MV{ss:List Nb}{a:Al}(hb:nX a)(hw:ss.length<=32)(x:Nat):∃ m,MD ss a x m:=by
 obtain⟨d,_⟩:=a;obtain⟨b,rfl,hb⟩:=hb;have hN:Zh x (b:Int) d 0 ss (0,false)=(((Fv x b d 0 ss (0,false)).1:Int),(Fv x b d 0 ss (0,false)).2):=BP (x:=x) (d:=d) hb ss 0 (0,false) (by omega) (by decide);have Baa:∀ j,(Fv x b d 0 ss (0,false)).1.testBit j=Gm ss (d,(b:Int)) x j:=by
  intro j;rw[BC];simp only[Nat.zero_testBit,Jac,decide_true,oab,Pad,pae,Gm,Daa];cases ss[j]? with
  |none=>simp
  |some s=>simp only[cz]
 refine⟨(Fv x b d 0 ss (0,false)).1,?_,tL ss 0 (0,false) (by omega) (by decide),Baa,?_,?_⟩
 ·show (Zh x (b:Int) d 0 ss (0,false)).1=_
  rw[hN]
 ·show (Zh x (b:Int) d 0 ss (0,false)).2=_
  rw[hN];show (Fv x b d 0 ss (0,false)).2=_
  rw[UC,Pad,Xad,Rad,Xu];constructor
  ·rintro⟨⟨s,j⟩,h1,h2⟩
   rw[List.mk_mem_zipIdx_iff_getElem?] at h1;have hj:=(iaa.1 h1).1
   refine⟨j,hj,?_⟩;simp only[cz,baa,beq_iff_eq] at h2;rw[sr,Gm,h1];simp only[Daa,baa,beq_iff_eq];exact⟨h2.1,by omega⟩
  ·rintro⟨j,hj,h2⟩
   have h1:ss[j]? =some ss[j]:=aaa hj;rw[sr,Gm,h1] at h2;simp only[Daa,baa,beq_iff_eq] at h2;refine⟨(ss[j],j),by rw[List.mk_mem_zipIdx_iff_getElem?];exact h1,?_⟩;simp only[cz,baa,beq_iff_eq];exact⟨h2.1,by omega⟩
 ·rw[Xu]
  constructor
  ·intro h
   apply Wad;intro hn;apply h;apply Nat.eq_of_testBit_eq
   intro j;rw[Baa,Nat.zero_testBit]
   by_cases hj:j < ss.length
   ·cases hc:Gm ss (d,(b:Int)) x j with
    |false=>rfl
    |true=>exact absurd ⟨j,hj,hc⟩ hn
   ·exact mR (by omega)
  ·rintro⟨j,hj,h⟩ h0
   rw[<- Baa,h0,Nat.zero_testBit] at h;cases h
theorem MD.enc{ss:List Nb}{a:Al}{x m:Nat}(h:MD ss a x m):uc ((a.1:Int)+1) (fun j=>decide (j < ss.length)&&Gm ss a x j)=uc ((a.1+1:Nat):Int) m.testBit:=by
 have:((a.1+1:Nat):Int)=(a.1:Int)+1:=by omega
 rw[this];unfold uc
 congr 1
 refine ov fun j hj=> ?_;rw[h.bit]
 by_cases hj:j < ss.length
 ·rw[decide_eq_true hj,oab]
 ·rw[decide_eq_false hj,Iac,mR (by omega)]
theorem MD.K6{ss:List Nb}{a:Al}{x m:Nat}(h:MD ss a x m):nX (a.1+1,(m:Int)):=⟨m,rfl,h.lt⟩
theorem MD.step{ss:List Nb}{a:Al}{x m:Nat}(h:MD ss a x m)(B7:List Al):
 ph ss a x B7=if yg (Gm ss a x) ss.length=false then some (B7,-2)
  else if yg (sr ss a x) ss.length=true then some (B7,-1)
  else match Sm (a.1+1,(m:Int)) B7 0 with
   |some k=>some (B7,(k:Int))
   |none=>if B7.length < 64 then some (B7++[(a.1+1,(m:Int))],(B7.length:Int)) else none:=by
 unfold ph;rw[h.ends,h.fst];have:((m:Int)=0)=(yg (Gm ss a x) ss.length=false):=by
  apply propext;have:=h.ex
  cases hc:yg (Gm ss a x) ss.length with
  |true=>rw[hc] at this;simp;have:=this.2 rfl;omega
  |false=>rw[hc] at this;simp;exact Wad fun hn=>by have:=this.1 hn;cases this
 by_cases h1:yg (Gm ss a x) ss.length=false
 ·rw[if_pos h1,if_pos (this.mpr h1)]
 ·rw[kaa h1,kaa (fun h=>h1 (this.mp h))]
  by_cases h2:yg (sr ss a x) ss.length=true
  ·rw[if_pos h2,if_pos h2]
  ·rw[kaa h2,kaa h2]
   cases Sm (a.1+1,(m:Int)) B7 0 <;> rfl
abbrev iK(S:PV)(nl O9:Bool)(os es rs:List PV)(n x:Int):Tr:=
 ((((((Tr.lf.set 14 (.pv (i64 x))).set 13 (.ptr 4 0)).set 12 (.pv (i64 n))).set 11 (.uq 3 O9 256 rs)).set 10 (.uq 2 false 33 es)).set 5 (.uq 0 nl 2048 os)).set 1 (.pv (.rp [S] 0))
theorem xX:([PV.int .i64 0,PV.bool false,PV.bool false,PV.bool false,PV.bool false,PV.bool false,PV.bool false,PV.bool false,PV.bool false,PV.bool false,PV.bool false,PV.bool false,PV.bool false,PV.bool false,PV.bool false,PV.bool false,PV.bool false,PV.bool false,PV.bool false,PV.bool false,PV.bool false,PV.bool false,PV.bool false,PV.bool false,PV.bool false,PV.bool false,PV.bool false,PV.bool false,PV.bool false,PV.bool false,PV.bool false,PV.bool false,PV.bool false]:List PV)=uc 0 fun _=>false:=rfl
theorem bW(d e:Int)(f:Nat->Bool):((uc d f).map AV.pv).set 0 (.pv (i64 e))=(uc e f).map AV.pv:=rfl
theorem sK{es:List PV}(h:∀ e∈es,(AV.pv e).one=true):(es.map AV.pv).all AV.one=true:=by
 rw[Taa];intro v hv;obtain⟨e,he,rfl⟩:=fab.1 hv
 exact h e he
theorem Yv{es zs:List PV}(h:es.length=zs.length):fa (zs.map AV.pv++[]) 0 (es.map AV.pv)=es.map AV.pv:=by
 have:=Tw (es.map AV.pv) (zs.map AV.pv) [] (by simp;omega);rw[wab];simpa using this
section
variable (call:Sa){S:PV}{ss:List Nb}{es:List PV}(hS:qb S ss es)(hw:ss.length<=32)(h8:∀ s∈ss,s.parts.length<=8){B7:List Al}{n x:Nat}{a:Al}(ha:B7[n]? =some a)(hx:x < 256)
 (Ba:On ss B7) (hd:a.1<=64)
 (nl O9:Bool) (rs:List PV) (o0 o1 o3:ba) (h0:∀ n,qa n o0=some o0) (h1:∀ n,qa n o1=some o1) (h3:∀ n,qa n o3=some o3) {row:List Int} (K7:row.length=256)
include hS hw h8 ha hx Ba hd h0 h1 h3 K7
set_option maxRecDepth 8000 in
theorem bI:
 qd (fun r=>(∃ p,ph ss a x B7=some p/\r=(.norm,⟨iK S nl O9 (Ef ss) (p.1.map Af) rs n (x+1:Nat),[o0,o1,.tok 33 p.1.length false,o3,Hb ((row.set x p.2).map i64)]⟩))\/
  (ph ss a x B7=none/\∃ E H,r=(.ret,⟨E,H⟩)/\E.get 2= .pv .ga/\E.get 3= .pv .ga/\E.get 4= .pv (.bool false)))
  (ma (oa call Ie) (na 5 [1,5,10,11,12,13,14]) ⟨iK S nl O9 (Ef ss) (B7.map Af) rs n x,[o0,o1,.tok 33 B7.length false,o3,Hb (row.map i64)]⟩):=by
 obtain⟨_,b,hb,R9,dal⟩:=Ba.2 n a ha
 have hba:nX a:=⟨b,hb,R9⟩;have A8:∀ c∈B7,nX c:=by
  intro c hc;obtain⟨k,hk,rfl⟩:=qab hc;obtain⟨_,b,hb,R9,_⟩:=Ba.2 k _ (aaa hk)
  exact⟨b,hb,R9⟩
 have sag:=Ba.1
 obtain⟨m,hm⟩:=MV (x:=x) hba hw;have B8:=hm.step B7
 have hcR:∀ n (r:List Int),qa n (Hb (r.map i64))=some (Hb (r.map i64)):=fun n r=>xh _ n;have c2:∀ k n,qa k (.tok 33 n false)=some (.tok 33 n false):=fun k n=>rfl;have hc6:Ra (qa 6) [o0,o1,.tok 33 B7.length false,o3,Hb (row.map i64)]=some [o0,o1,.tok 33 B7.length false,o3,Hb (row.map i64)]:=by simp only[Ra,h0,h1,h3,c2,hcR,yaa,Haa]
 have hl4:=YZ call hS hw h8 ha hx (fun i s hs ht=>dal i s hs (by rw[hb] at ht;simpa using ht)) hd nl O9 rs o0 o1 (.tok 33 B7.length false) o3 (Hb (row.map i64)) hc6;rw[hm.enc] at hl4;have i1:=fun H=>cG H 2 false ha;have l0:=fC (show (uc (a.1:Int) a.2.toNat.testBit)[0]? =some (i64 a.1) from rfl);have e1:decide ((x:Int) < 256)=true:=Ea (by omega);have t2:IntKind.i64.wrap ((x:Int)+1)=((x+1:Nat):Int):=Aa (by omega)
 have t3:IntKind.i64.wrap ((a.1:Int)+1)=(a.1:Int)+1:=Aa (by omega)
 have hq:Ia (x:Int) 256:=by unfold Ia;omega
 have t1:∀ i:Nat,((i:Int)).toNat=i:=fun i=>by simp
 have m1:∀ i:Nat,i * 1=i:=fun i=>by omega
 have z1:∀ i:Nat,0+i=i:=fun i=>by omega
 have zl:=kh 0 fun _=>false;have f1:(0+1<=((uc 0 fun _=>false).map AV.pv).length)=True:=Iaa (by rw[haa,zl];omega);have f1':(1<=((uc 0 fun _=>false).map AV.pv).length)=True:=Iaa (by rw[haa,zl];omega);have f2:=bW 0 ((a.1:Int)+1) fun _=>false;have f3:=Qf (uc ((a.1:Int)+1) fun _=>false);have st0:Ha [o0,o1,.tok 33 B7.length false,o3,Hb (row.map i64),Hb (uc 0 fun _=>false)] 33 (.ptr 5 0) (.pv (.agg (uc ((a.1:Int)+1) fun _=>false)))=some [o0,o1,.tok 33 B7.length false,o3,Hb (row.map i64),Hb (uc ((a.1:Int)+1) fun _=>false)]:=
  Ir (id:=5) rfl zl (kh _ _) (Fy _ _)
 have fal:∀ Y:List PV,Ra (qa 6) [o0,o1,.tok 33 B7.length false,o3,Hb (row.map i64),Hb Y]=some [o0,o1,.tok 33 B7.length false,o3,Hb (row.map i64),Hb Y]:=by intro Y;simp only[Ra,h0,h1,h3,c2,hcR,xh Y 6,yaa,Haa]
 have pai:=fal (uc ((a.1:Int)+1) fun _=>false);have maa:∀ (k:Nat)(r:List Int),Ra (qa 5) [o0,o1,.tok 33 k false,o3,Hb (r.map i64)]=some [o0,o1,.tok 33 k false,o3,Hb (r.map i64)]:=by intro k r;simp only[Ra,h0,h1,h3,c2,hcR,yaa,Haa]
 have gal:∀ a b c d e f:ba,([a,b,c,d,e,f]:List ba).take 6=[a,b,c,d,e,f]:=fun a b c d e f=>rfl
 have Caa:∀ a b c d e f:ba,([a,b,c,d,e,f]:List ba).take 5=[a,b,c,d,e]:=fun a b c d e f=>rfl
 have d6:∀ k:Fin 6,((k:Nat) < 6)=True:=by intro k;simp
 have d60:(0 < 6)=True:=by simp
 have d62:(2 < 6)=True:=by simp
 have d63:(3 < 6)=True:=by simp
 have d64:(4 < 6)=True:=by simp
 have d65:(5 < 6)=True:=by simp
 have d50:(0 < 5)=True:=by simp
 have d52:(2 < 5)=True:=by simp
 have d53:(3 < 5)=True:=by simp
 have d54:(4 < 5)=True:=by simp
 have pl:∀ (k:Nat)(r:List Int)(Y:List PV),place [o0,o1,.tok 33 k false,o3,Hb (r.map i64),Hb Y] x (.ptr 4 0)=some (.ptr 4 x):=by intro k r Y;have:=Vj (A:=[o0,o1,.tok 33 k false,o3,Hb (r.map i64),Hb Y]) (id:=4) (es:=r.map i64) rfl 0 x;rw[this,Zaa]
 have st:∀ (k:Nat)(r:List Int)(Y:List PV)(v:Int),r.length=256->Ha [o0,o1,.tok 33 k false,o3,Hb (r.map i64),Hb Y] 1 (.ptr 4 x) (.pv (i64 v))=some [o0,o1,.tok 33 k false,o3,Hb ((r.set x v).map i64),Hb Y]:=by intro k r Y v hr;have:=wz (A:=[o0,o1,.tok 33 k false,o3,Hb (r.map i64),Hb Y]) (id:=4) (es:=r.map i64) rfl (k:=x) (by rw[haa];omega) (e:=i64 v) rfl rfl;rw[this,qae];rfl
 have J8:∀ v,((row.set x (-2)).set x v)=row.set x v:=fun v=>by rw[List.set_set]
 have st1:=st B7.length row (uc ((a.1+1:Nat):Int) m.testBit) (-2) K7
 have st2:=fun (k:Nat) v=>st k (row.set x (-2)) (uc ((a.1+1:Nat):Int) m.testBit) v (by simp[K7]);simp only[J8] at st2;have pl1:=pl B7.length row (uc ((a.1+1:Nat):Int) m.testBit)
 have pl2:=fun k=>pl k (row.set x (-2)) (uc ((a.1+1:Nat):Int) m.testBit);have hfd:=TW sag hm.K6 A8
 have uag:∀ (k:Nat)(r:List Int),pa [o0,o1,.tok 33 k false,o3,Hb (r.map i64),Hb (uc ((a.1+1:Nat):Int) m.testBit)] true 33 (.ptr 5 0)=some (.pv (.agg (uc ((a.1+1:Nat):Int) m.testBit))):=fun k r=>bn (id:=5) rfl (kh _ _);have hYl:((uc ((a.1+1:Nat):Int) m.testBit).map AV.pv).length=33:=by rw[haa,kh]
 have qai:=kh ((a.1+1:Nat):Int) m.testBit
 have hYr:fa ((uc 0 fun _=>false).map AV.pv++[]) 0 ((uc ((a.1+1:Nat):Int) m.testBit).map AV.pv)=(uc ((a.1+1:Nat):Int) m.testBit).map AV.pv:=Yv (by rw[kh,kh])
 have hYa:=sK (Fy ((a.1+1:Nat):Int) m.testBit);have hYp:=Qf (uc ((a.1+1:Nat):Int) m.testBit);have hYt:(uc ((a.1+1:Nat):Int) m.testBit).take 33=uc ((a.1+1:Nat):Int) m.testBit:=Saa (by rw[kh];exact paa _)
 have f4:(33<=((uc 0 fun _=>false).map AV.pv++[]).length)=True:=Iaa (by rw[wab,haa,zl];exact paa _);have s8:B7.length < 64->Cb [o0,o1,.tok 33 B7.length false,o3,Hb ((row.set x (-2)).map i64),Hb (uc ((a.1+1:Nat):Int) m.testBit)] false .uq 33 true 40 (.uq 2 false 33 (B7.map Af)) (.pv (.lit 33 [.agg (uc ((a.1+1:Nat):Int) m.testBit)]))=
  some (.uq 2 false 33 ((B7++[(a.1+1,(m:Int))]).map Af),[o0,o1,.tok 33 (B7.length+1) false,o3,Hb ((row.set x (-2)).map i64),Hb (uc ((a.1+1:Nat):Int) m.testBit)]):=by
  intro E7;have:=Mh (A:=[o0,o1,.tok 33 B7.length false,o3,Hb ((row.set x (-2)).map i64),Hb (uc ((a.1+1:Nat):Int) m.testBit)]) (id:=2) (n:=B7.length) (sz:=33) (h:= .uq) (nl:=false) (ag:=true) (bytes:=40) (es:=B7.map Af) rfl (by rw[haa]) (by unfold eb;omega) (.agg (uc ((a.1+1:Nat):Int) m.testBit));rw[this,jac];rfl
 have hen:Af (a.1+1,(m:Int))= .agg (uc ((a.1+1:Nat):Int) m.testBit):=by simp[Af]
 rw[hen] at hfd;have lsn:Tb [] 0 (.uq 2 false 33 (B7.map Af))=some B7.length:=by simp[Tb]
 have waf:(B7.map Af).length=B7.length:=haa _
 have hR1:∀ p,ph ss a x B7=some p->∀ st:St,st=⟨iK S nl O9 (Ef ss) (p.1.map Af) rs n (x+1:Nat),[o0,o1,.tok 33 p.1.length false,o3,Hb ((row.set x p.2).map i64)]⟩->(∃ p,ph ss a x B7=some p/\(Ex.norm,st)=(Ex.norm,⟨iK S nl O9 (Ef ss) (p.1.map Af) rs n (x+1:Nat),[o0,o1,.tok 33 p.1.length false,o3,Hb ((row.set x p.2).map i64)]⟩))\/
  (ph ss a x B7=none/\∃ E H,(Ex.norm,st)=(.ret,⟨E,H⟩)/\E.get 2= .pv .ga/\E.get 3= .pv .ga/\E.get 4= .pv (.bool false)):=fun p hp st h=> .inl ⟨p,hp,by rw[h]⟩
 have hR2:ph ss a x B7=none->∀ E H,E.get 2= .pv .ga->E.get 3= .pv .ga->E.get 4= .pv (.bool false)->(∃ p,ph ss a x B7=some p/\(Ex.ret,(⟨E,H⟩:St))=(Ex.norm,⟨iK S nl O9 (Ef ss) (p.1.map Af) rs n (x+1:Nat),[o0,o1,.tok 33 p.1.length false,o3,Hb ((row.set x p.2).map i64)]⟩))\/
  (ph ss a x B7=none/\∃ E' H',(Ex.ret,(⟨E,H⟩:St))=(.ret,⟨E',H'⟩)/\E'.get 2= .pv .ga/\E'.get 3= .pv .ga/\E'.get 4= .pv (.bool false)):=fun hp E H g2 g3 g4=> .inr ⟨hp,E,H,rfl,g2,g3,g4⟩
 generalize Q7:(fun r:Ex×St=>_)=QQ;have hz:=xX;generalize hzs:(uc 0 fun _=>false)=zs at *;generalize hys:(uc ((a.1:Int)+1) fun _=>false)=ys at *;generalize hYY:uc ((a.1+1:Nat):Int) m.testBit=Y at *
 generalize uc (a.1:Int) a.2.toNat.testBit=arow at *
 generalize hRR:Hb (row.map i64)=R at *;simp -implicitDefEqProofs only[SP,WP,fa,sevalprocAttr,Ie,Db,Tj,e1,t3,i1,l0,hz,f1,f1',f2,f3,st0,pai,gal,d60,d62,d63,d64,d65,na,Ca,AV.cut,za,iK];refine wa hl4 ?_;rintro r ⟨E,rfl,g1,g5,g10,g11,g12,g13,g14,g15,g16,g17⟩;cases hso:yg (Gm ss a x) ss.length with
 |false=>
  rw[hso] at g16;rw[if_pos hso] at B8;cases Bac:yg (sr ss a x) ss.length <;>
  ·rw[Bac] at g17
   simp -implicitDefEqProofs only[SP,WP,fa,sevalprocAttr,g1,g5,g10,g11,g12,g13,g14,g15,g16,g17,Iaa hq,t1,m1,t2,pl1,st1,maa,Caa,d50,d52,d53,d54,na,Ca,AV.cut,za];subst Q7;exact hR1 _ B8 _ rfl
 |true=>
  rw[hso] at g16;rw[kaa (by rw[hso];simp)] at B8;cases Bac:yg (sr ss a x) ss.length with
  |true=>rw[Bac] at g17;rw[if_pos Bac] at B8;simp -implicitDefEqProofs only[SP,WP,fa,sevalprocAttr,g1,g5,g10,g11,g12,g13,g14,g15,g16,g17,Iaa hq,t1,m1,t2,pl1,pl2,st1,st2,maa,Caa,d50,d52,d53,d54,na,Ca,AV.cut,za];subst Q7;exact hR1 _ B8 _ rfl
  |false=>
   rw[Bac] at g17;rw[kaa (by rw[Bac];simp)] at B8;cases hix:Sm (a.1+1,(m:Int)) B7 0 with
   |some k=>rw[hix] at B8 hfd;simp only at B8 hfd;have dk:decide ((k:Int) < 0)=false:=Ga (by omega);simp -implicitDefEqProofs only[SP,WP,fa,sevalprocAttr,g1,g5,g10,g11,g12,g13,g14,g15,g16,g17,Iaa hq,t1,m1,t2,pl1,pl2,st1,st2,uag,hfd,dk,maa,Caa,d50,d52,d53,d54,na,Ca,AV.cut,za];subst Q7;exact hR1 _ B8 _ rfl
   |none=>
    rw[hix] at B8 hfd;simp only at B8 hfd;have dk:decide ((-1:Int) < 0)=true:=by decide
    by_cases E7:B7.length < 64
    ·have Rab:=s8 E7
     rw[if_pos E7] at B8;have e64:((B7.length:Int)==64)=false:=lj (by omega);have hl1:(B7++[(a.1+1,(m:Int))]).length=B7.length+1:=by simp
     simp -implicitDefEqProofs only[SP,WP,fa,sevalprocAttr,g1,g5,g10,g11,g12,g13,g14,g15,g16,g17,Iaa hq,t1,m1,t2,pl1,pl2,st1,st2,uag,hfd,dk,waf,e64,Rab,hz,hYl,hYr,hYa,hYp,hYt,f4,maa,Caa,d50,d52,d53,d54,na,Ca,AV.cut,za];subst Q7;exact hR1 _ B8 _ (by rw[hl1])
    ·rw[kaa E7] at B8
     have e64:((B7.length:Int)==64)=true:=by simp;omega
     simp -implicitDefEqProofs only[SP,WP,fa,sevalprocAttr,g1,g5,g10,g11,g12,g13,g14,g15,g16,g17,Iaa hq,t1,m1,t2,pl1,pl2,st1,st2,uag,hfd,dk,waf,e64];subst Q7;exact hR2 B8 _ _ (by simp[Tr.aa]) (by simp[Tr.aa]) (by simp[Tr.aa])
end
section
variable (call:Sa){S:PV}{ss:List Nb}{es:List PV}(hS:qb S ss es)(hw:ss.length<=32)(h8:∀ s∈ss,s.parts.length<=8){n:Nat}{a:Al}
 (hd:a.1<=64)
 (nl O9:Bool) (rs:List PV) (o0 o1 o3:ba) (h0:∀ n,qa n o0=some o0) (h1:∀ n,qa n o1=some o1) (h3:∀ n,qa n o3=some o3)
include hS hw h8 hd h0 h1 h3
set_option maxRecDepth 8000 in
theorem gZ{B7:List Al}{row:List Int}(ha:B7[n]? =some a)(Ba:On ss B7)(K7:row.length=256):
 qd (fun r=>(∃ p E,Wl ss a (List.range 256) (B7,row)=some p/\r=(.exit 6,⟨E,[o0,o1,.tok 33 p.1.length false,o3,Hb (p.2.map i64)]⟩)/\E.get 1= .pv (.rp [S] 0)/\E.get 5= .uq 0 nl 2048 (Ef ss)/\E.get 10= .uq 2 false 33 (p.1.map Af)/\E.get 11= .uq 3 O9 256 rs/\E.get 12= .pv (i64 n)/\E.get 13= .ptr 4 0)\/
  (Wl ss a (List.range 256) (B7,row)=none/\∃ E H,r=(.ret,⟨E,H⟩)/\E.get 2= .pv .ga/\E.get 3= .pv .ga/\E.get 4= .pv (.bool false)))
  (ab (ma (oa call Ie) (na 5 [1,5,10,11,12,13,14])) ua ⟨iK S nl O9 (Ef ss) (B7.map Af) rs n 0,[o0,o1,.tok 33 B7.length false,o3,Hb (row.map i64)]⟩):=by
 refine wa (Fb (g:=ma (oa call Ie) (na 5 [1,5,10,11,12,13,14]))
  (fun x t=>∃ sets' row',t=⟨iK S nl O9 (Ef ss) (sets'.map Af) rs n x,[o0,o1,.tok 33 sets'.length false,o3,Hb (row'.map i64)]⟩/\Wl ss a (List.range 256) (B7,row)=Wl ss a ((List.range 256).drop x) (sets',row')/\On ss sets'/\sets'[n]? =some a/\row'.length=256)
  256 (by unfold ua;omega) _ ⟨B7,row,rfl,by rw[xac],Ba,ha,K7⟩ ?_ ?_) (fun r h=>h.2)
 ·rintro x t hx ⟨sets',row',rfl,hrs,T8,ha',V9⟩
  rw[Ns hx] at hrs;refine wa (bI call hS hw h8 ha' hx T8 hd nl O9 rs o0 o1 o3 h0 h1 h3 V9) ?_;rintro r (⟨p,Y7,rfl⟩ | ⟨Y7,E,H,rfl,g2,g3,g4⟩)
  ·rw[Kv Y7] at hrs
   obtain⟨k1,t,k2⟩:=JG T8 ha' hw Y7;refine⟨p.1,row'.set x p.2,rfl,hrs,k1,?_,by simp[V9]⟩;rw[k2,eaa (iaa.1 ha').1];exact ha'
  ·rw[Qu Y7] at hrs
   exact .inr ⟨hrs,E,H,rfl,g2,g3,g4⟩
 ·rintro t ⟨sets',row',rfl,hrs,T8,ha',V9⟩
  have hdr:(List.range 256).drop 256=[]:=rae (by rw[eac];exact paa _)
  rw[hdr,Wl] at hrs;have e1:decide (((256:Nat):Int) < 256)=false:=Ga (by omega);have R7:∀ E,E.get 1= .pv (.rp [S] 0)->E.get 5= .uq 0 nl 2048 (Ef ss)->E.get 10= .uq 2 false 33 (sets'.map Af)->E.get 11= .uq 3 O9 256 rs->E.get 12= .pv (i64 n)->E.get 13= .ptr 4 0->
   ((Ex.exit 6,(⟨E,[o0,o1,.tok 33 sets'.length false,o3,Hb (row'.map i64)]⟩:St)).1.stop=true/\((∃ p E',Wl ss a (List.range 256) (B7,row)=some p/\(Ex.exit 6,(⟨E,[o0,o1,.tok 33 sets'.length false,o3,Hb (row'.map i64)]⟩:St))=(.exit 6,⟨E',[o0,o1,.tok 33 p.1.length false,o3,Hb (p.2.map i64)]⟩)/\E'.get 1= .pv (.rp [S] 0)/\E'.get 5= .uq 0 nl 2048 (Ef ss)/\E'.get 10= .uq 2 false 33 (p.1.map Af)/\E'.get 11= .uq 3 O9 256 rs/\E'.get 12= .pv (i64 n)/\E'.get 13= .ptr 4 0)\/
    (Wl ss a (List.range 256) (B7,row)=none/\∃ E' H,(Ex.exit 6,(⟨E,[o0,o1,.tok 33 sets'.length false,o3,Hb (row'.map i64)]⟩:St))=(.ret,⟨E',H⟩)/\E'.get 2= .pv .ga/\E'.get 3= .pv .ga/\E'.get 4= .pv (.bool false)))):=
   fun E k1 k5 K9 L9 k12 k13=>⟨rfl,.inl ⟨(sets',row'),E,hrs,rfl,k1,k5,K9,L9,k12,k13⟩⟩
  generalize hQ:(fun r:Ex×St=>r.1.stop=true/\_)=Q;generalize Hb (row'.map i64)=R at *;generalize sets'.map Af=se at *
  generalize Ef ss=os at *;simp -implicitDefEqProofs only[SX,sevalprocAttr,-List.reduceReplicate,Ie,e1,iK];subst hQ;exact R7 _ (by simp[Tr.aa]) (by simp[Tr.aa]) (by simp[Tr.aa]) (by simp[Tr.aa]) (by simp[Tr.aa]) (by simp[Tr.aa])
end
abbrev bL(S:PV)(nl O9:Bool)(os es rs:List PV)(n:Int):Tr:=
 ((((Tr.lf.set 12 (.pv (i64 n))).set 11 (.uq 3 O9 256 rs)).set 10 (.uq 2 false 33 es)).set 5 (.uq 0 nl 2048 os)).set 1 (.pv (.rp [S] 0))
section
variable (call:Sa){S:PV}{ss:List Nb}{es:List PV}(hS:qb S ss es)(hw:ss.length<=32)(h8:∀ s∈ss,s.parts.length<=8)
 (nl:Bool) (k0:Nat) (F:List PV)
include hS hw h8
set_option maxRecDepth 8000 in
theorem XH{B7:List Al}{rs:List (List Int)}{a:Al}(ha:B7[rs.length]? =some a)(Ba:On ss B7):
 qd (fun r=>(∃ p,Wl ss a (List.range 256) (B7,fb)=some p/\r=(.norm,⟨bL S nl false (Ef ss) (p.1.map Af) ((rs++[p.2]).map Xi) (rs.length+1:Nat),[.tok 2048 k0 nl,Hb F,.tok 33 p.1.length false,.tok 256 (rs.length+1) false]⟩))\/
  (Wl ss a (List.range 256) (B7,fb)=none/\∃ E H,r=(.ret,⟨E,H⟩)/\E.get 2= .pv .ga/\E.get 3= .pv .ga/\E.get 4= .pv (.bool false)))
  (ma (oa call Je) (na 4 [1,5,10,11,12]) ⟨bL S nl rs.isEmpty (Ef ss) (B7.map Af) (rs.map Xi) rs.length,[.tok 2048 k0 nl,Hb F,.tok 33 B7.length false,.tok 256 rs.length rs.isEmpty]⟩):=by
 have hn:=(iaa.1 ha).1
 have sag:=Ba.1
 have hd:a.1<=64:=by have:=(Ba.2 _ a ha).1;omega
 have hl3:=gZ call hS hw h8 hd nl rs.isEmpty (rs.map Xi) (.tok 2048 k0 nl) (Hb F) (.tok 256 rs.length rs.isEmpty) (fun n=>rfl) (fun n=>xh F n) (fun n=>rfl) ha Ba Au
 have hrl:∀ p,Wl ss a (List.range 256) (B7,fb)=some p->p.2.length=256:=fun p hp=>by rw[(Jw hw (List.range 256) (B7,fb) p Ba ha hp).2.2];exact Au
 have e1:decide ((rs.length:Int) < (B7.length:Int))=true:=Ea (by omega);have t2:IntKind.i64.wrap ((rs.length:Int)+1)=((rs.length+1:Nat):Int):=Aa (by omega)
 have hse:(B7.map Af).length=B7.length:=haa _
 have hzz:List.replicate 256 (PV.int .i64 0)=fb.map i64:=by rw[fb,kad]
 have hz0:ba.box (List.map AV.pv (List.replicate 256 (PV.int .i64 0)))=Hb (fb.map i64):=by rw[hzz]
 have hc5:∀ (k:Nat)(R:List PV),Ra (qa 5) [.tok 2048 k0 nl,Hb F,.tok 33 k false,.tok 256 rs.length rs.isEmpty,Hb R]=some [.tok 2048 k0 nl,Hb F,.tok 33 k false,.tok 256 rs.length rs.isEmpty,Hb R]:=by intro k R;have c0:∀ k n nl,qa 5 (.tok k n nl)=some (.tok k n nl):=fun k n nl=>rfl;simp only[Ra,c0,xh,yaa,Haa]
 have hc4:∀ (k:Nat),Ra (qa 4) [.tok 2048 k0 nl,Hb F,.tok 33 k false,.tok 256 (rs.length+1) false]=some [.tok 2048 k0 nl,Hb F,.tok 33 k false,.tok 256 (rs.length+1) false]:=by intro k;have c0:∀ k n nl,qa 4 (.tok k n nl)=some (.tok k n nl):=fun k n nl=>rfl;simp only[Ra,c0,xh,yaa,Haa]
 have Caa:∀ a b c d e:ba,([a,b,c,d,e]:List ba).take 5=[a,b,c,d,e]:=fun a b c d e=>rfl
 have Lab:∀ a b c d e:ba,([a,b,c,d,e]:List ba).take 4=[a,b,c,d]:=fun a b c d e=>rfl
 have d50:(0 < 5)=True:=by simp
 have d52:(2 < 5)=True:=by simp
 have d53:(3 < 5)=True:=by simp
 have d54:(4 < 5)=True:=by simp
 have d40:(0 < 4)=True:=by simp
 have d42:(2 < 4)=True:=by simp
 have d43:(3 < 4)=True:=by simp
 have hld:∀ (k:Nat)(r:List Int),r.length=256->pa [.tok 2048 k0 nl,Hb F,.tok 33 k false,.tok 256 rs.length rs.isEmpty,Hb (r.map i64)] true 256 (.ptr 4 0)=some (.pv (.agg (r.map i64))):=fun k r hr=>bn (id:=4) rfl (by rw[haa,hr])
 have S7:∀ r:List Int,∀ e∈r.map i64,(AV.pv e).one=true:=by
  intro r e he;obtain⟨v,_,rfl⟩:=fab.1 he
  rfl
 have s8:∀ (k:Nat)(r:List Int),Cb [.tok 2048 k0 nl,Hb F,.tok 33 k false,.tok 256 rs.length rs.isEmpty,Hb (r.map i64)] false .uq 256 true 2048 (.uq 3 rs.isEmpty 256 (rs.map Xi)) (.pv (.lit 256 [.agg (r.map i64)]))=
  some (.uq 3 false 256 ((rs++[r]).map Xi),[.tok 2048 k0 nl,Hb F,.tok 33 k false,.tok 256 (rs.length+1) false,Hb (r.map i64)]):=by
  intro k r;have:=Mh (A:=[.tok 2048 k0 nl,Hb F,.tok 33 k false,.tok 256 rs.length rs.isEmpty,Hb (r.map i64)]) (id:=3) (n:=rs.length) (sz:=256) (h:= .uq) (nl:=rs.isEmpty) (ag:=true) (bytes:=2048) (es:=rs.map Xi) rfl (by rw[haa]) (by unfold eb;omega) (.agg (r.map i64));rw[this,jac];rfl
 have nW:(fb.map i64).length=256:=by rw[haa,Au]
 have f4:(256<=((fb.map i64).map AV.pv++[]).length)=True:=Iaa (by rw[wab,haa,nW];exact paa _);have hYr:∀ r:List Int,r.length=256->fa ((fb.map i64).map AV.pv++[]) 0 ((r.map i64).map AV.pv)=(r.map i64).map AV.pv:=fun r hr=>Yv (by rw[nW,haa,hr])
 have hYa:∀ r:List Int,((r.map i64).map AV.pv).all AV.one=true:=fun r=>sK (S7 r)
 have hYp:∀ r:List Int,Tc ((r.map i64).map AV.pv)=some (r.map i64):=fun r=>Qf _;have hYt:∀ r:List Int,r.length=256->(r.map i64).take 256=r.map i64:=fun r hr=>Saa (by rw[haa,hr];exact paa _)
 have hYl:∀ r:List Int,r.length=256->((r.map i64).map AV.pv).length=256:=fun r hr=>by rw[haa,haa,hr]
 have hR1:∀ p,Wl ss a (List.range 256) (B7,fb)=some p->∀ st:St,st=⟨bL S nl false (Ef ss) (p.1.map Af) ((rs++[p.2]).map Xi) (rs.length+1:Nat),[.tok 2048 k0 nl,Hb F,.tok 33 p.1.length false,.tok 256 (rs.length+1) false]⟩->
  (∃ p,Wl ss a (List.range 256) (B7,fb)=some p/\(Ex.norm,st)=(.norm,⟨bL S nl false (Ef ss) (p.1.map Af) ((rs++[p.2]).map Xi) (rs.length+1:Nat),[.tok 2048 k0 nl,Hb F,.tok 33 p.1.length false,.tok 256 (rs.length+1) false]⟩))\/
   (Wl ss a (List.range 256) (B7,fb)=none/\∃ E H,(Ex.norm,st)=(.ret,⟨E,H⟩)/\E.get 2= .pv .ga/\E.get 3= .pv .ga/\E.get 4= .pv (.bool false)):=fun p hp st h=> .inl ⟨p,hp,by rw[h]⟩
 generalize Q7:(fun r:Ex×St=>_)=QQ;generalize hzs:fb.map i64=zs at *
 have jal:=hc5 B7.length zs
 generalize hRz:Hb zs=Rz at *;generalize hoF:Hb F=oF at *;simp -implicitDefEqProofs only[SP,WP,fa,sevalprocAttr,-List.reduceReplicate,Je,Db,e1,hse,hzz,hRz,jal,Caa,d50,d52,d53,d54,na,Ca,AV.cut,za,bL];refine wa hl3 ?_;rintro r (⟨p,E,hp,rfl,g1,g5,g10,g11,g12,g13⟩ | ⟨hp,E,H,rfl,g2,g3,g4⟩)
 ·have X7:=hrl p hp
  have wag:=hld p.1.length p.2 X7
  have kal:=hYr p.2 X7
  have lal:=hYt p.2 X7
  have qai:=hYl p.2 X7
  have mal:=hYa p.2
  have nal:=hYp p.2
  have Rab:=s8 p.1.length p.2
  generalize p.2.map i64=zp at *
  simp -implicitDefEqProofs only[SP,WP,fa,sevalprocAttr,-List.reduceReplicate,g1,g5,g10,g11,g12,g13,t2,hzz,wag,kal,lal,qai,mal,nal,Rab,f4,hc4,Lab,d40,d42,d43,na,Ca,AV.cut,za];subst Q7;exact hR1 p hp _ rfl
 ·simp -implicitDefEqProofs only[SP,WP,fa,sevalprocAttr,-List.reduceReplicate]
  subst Q7;exact .inr ⟨hp,E,H,rfl,g2,g3,g4⟩
end
attribute [local irreducible] qd
theorem SO{n:Nat}(h:n<=32)(i:Nat):(Ms n).toNat.testBit i=decide (i < n):=by
 rw[wF h,Daa,Nat.testBit_two_pow_sub_one]
theorem AQ{n:Nat}(h:n<=32):Af (0,Ms n)= .agg (Dc n):=by
 unfold Af Dc uc
 congr 2
 exact ov fun i _=>SO h i
set_option maxRecDepth 8000 in
theorem rZ(call:Sa){S:PV}{ss:List Nb}{es:List PV}(hS:qb S ss es)(hw:ss.length<=32)(h8:∀ s∈ss,s.parts.length<=8)(J7:∀ s∈ss,0 < s.parts.length)(nl:Bool)(k0:Nat)(F:List PV):
 qd (fun r=>(∃ p E,qh ss 64 (rh ss,[])=some p/\p.2.length=p.1.length/\0 < p.2.length/\r=(.exit 4,⟨E,[.tok 2048 k0 nl,Hb F,.tok 33 p.1.length false,.tok 256 p.2.length p.2.isEmpty]⟩)/\E.get 10= .uq 2 false 33 (p.1.map Af)/\E.get 11= .uq 3 p.2.isEmpty 256 (p.2.map Xi))\/
  (qh ss 64 (rh ss,[])=none/\∃ E H,r=(.ret,⟨E,H⟩)/\E.get 2= .pv .ga/\E.get 3= .pv .ga/\E.get 4= .pv (.bool false)))
  (ab (ma (oa call Je) (na 4 [1,5,10,11,12])) ua ⟨bL S nl true (Ef ss) ((rh ss).map Af) [] 0,[.tok 2048 k0 nl,Hb F,.tok 33 1 false,.tok 256 0 true]⟩):=by
 refine wa (Js (g:=ma (oa call Je) (na 4 [1,5,10,11,12]))
  (fun k t=>∃ (B7:List Al)(rs:List (List Int)),t=⟨bL S nl rs.isEmpty (Ef ss) (B7.map Af) (rs.map Xi) rs.length,[.tok 2048 k0 nl,Hb F,.tok 33 B7.length false,.tok 256 rs.length rs.isEmpty]⟩/\k+rs.length=64/\On ss B7/\rs.length<=B7.length/\0 < B7.length/\qh ss 64 (rh ss,[])=qh ss k (B7,rs))
  ua 64 _ (by unfold ua;omega) ⟨rh ss,[],rfl,rfl,XB hw J7,by simp,by simp[rh],rfl⟩ ?_) (fun r h=>h.2)
 rintro k t ⟨B7,rs,rfl,hk,Ba,hle,v8,hs⟩;cases ha:B7[rs.length]? with
 |some a=>
  have E7:=(iaa.1 ha).1
  have sag:=Ba.1
  obtain⟨k',rfl⟩:∃ k',k=k'+1:=⟨k - 1,by omega⟩;refine wa (XH call hS hw h8 nl k0 F ha Ba) ?_;rintro r (⟨p,hp,rfl⟩ | ⟨hp,E,H,rfl,g2,g3,g4⟩)
  ·obtain⟨q1,⟨t,q2⟩,q3⟩:=Jw hw (List.range 256) (B7,fb) p Ba ha hp
   simp only at q2;have hse:(rs++[p.2]).isEmpty=false:=by cases rs <;> rfl
   have Fad:(rs++[p.2]).length=rs.length+1:=by simp
   refine⟨k',by omega,p.1,rs++[p.2],?_,by rw[Fad];omega,q1,?_,?_,?_⟩
   ·rw[hse,Fad]
   ·rw[Fad,q2,raa];omega
   ·rw[q2,raa];omega
   ·rw[hs,zw ha hp]
  ·exact .inr ⟨by rw[hs,Xw ha hp],E,H,rfl,g2,g3,g4⟩
 |none=>
  have e9:B7.length<=rs.length:=by
   rcases Qaa rs.length B7.length with h | h
   ·rw[aaa h] at ha;cases ha
   ·exact h
  rw[Gv (r:=(B7,rs)) ha] at hs;have e1:decide ((rs.length:Int) < (B7.length:Int))=false:=Ga (by omega);have hse:(B7.map Af).length=B7.length:=haa _
  have R7:∀ E,E.get 10= .uq 2 false 33 (B7.map Af)->E.get 11= .uq 3 rs.isEmpty 256 (rs.map Xi)->
   LQ (fun k t=>∃ (B7:List Al)(rs:List (List Int)),t=⟨bL S nl rs.isEmpty (Ef ss) (B7.map Af) (rs.map Xi) rs.length,[.tok 2048 k0 nl,Hb F,.tok 33 B7.length false,.tok 256 rs.length rs.isEmpty]⟩/\k+rs.length=64/\On ss B7/\rs.length<=B7.length/\0 < B7.length/\qh ss 64 (rh ss,[])=qh ss k (B7,rs))
    (fun r=>(∃ p E,qh ss 64 (rh ss,[])=some p/\p.2.length=p.1.length/\0 < p.2.length/\r=(.exit 4,⟨E,[.tok 2048 k0 nl,Hb F,.tok 33 p.1.length false,.tok 256 p.2.length p.2.isEmpty]⟩)/\E.get 10= .uq 2 false 33 (p.1.map Af)/\E.get 11= .uq 3 p.2.isEmpty 256 (p.2.map Xi))\/
    (qh ss 64 (rh ss,[])=none/\∃ E H,r=(.ret,⟨E,H⟩)/\E.get 2= .pv .ga/\E.get 3= .pv .ga/\E.get 4= .pv (.bool false))) k
    (.exit 4,⟨E,[.tok 2048 k0 nl,Hb F,.tok 33 B7.length false,.tok 256 rs.length rs.isEmpty]⟩):=fun E g10 g11=> .inl ⟨(B7,rs),E,hs,by simp only;omega,by simp only;omega,rfl,g10,g11⟩
  generalize LQ _ _ k=QQ at R7 ⊢;generalize Hb F=oF at *;generalize B7.map Af=se at *
  generalize rs.map Xi=re at *
  generalize Ef ss=os at *;simp -implicitDefEqProofs only[SX,sevalprocAttr,-List.reduceReplicate,Je,e1,hse,bL];exact R7 _ (by simp[Tr.aa]) (by simp[Tr.aa])
set_option maxRecDepth 8000 in
theorem DN{S:PV}{ss:List Nb}{es:List PV}(hS:qb S ss es)(Ba:Xb ss):
 (∀ p,qh ss 64 (rh ss,[])=some p->Sf [.agg [S]]=some (.mc [.lit 33 (p.1.map Af),.lit 256 (p.2.map Xi),.bool true])/\p.2.length=p.1.length)/\
 (qh ss 64 (rh ss,[])=none->Sf [.agg [S]]=some (.mc [.ga,.ga,.bool false])):=by
 have hw:=Ba.len
 have h8:∀ s∈ss,s.parts.length<=8:=fun s hs=>(Ba.dt s hs).hi
 have ln:=hS.Tb
 have K8:(AV.pv S).one=true:=by rcases hS.is with⟨h,_⟩ | h <;> rw[h] <;> rfl
 have y9:=NU (Da (fun _=>none) 8) hS hw h8;have S9:=fun nl=>rZ (Da (fun _=>none) 8) hS hw h8 Ba.ne nl ss.length (Dc ss.length)
 have hs0:(rh ss).map Af=[.agg (Dc ss.length)]:=by rw[rh,List.map_singleton,AQ hw]
 rw[hs0] at S9;have hz:=xX;have zl:=kh 0 fun _=>false;have hf0:Dc 0=uc 0 fun _=>false:=by unfold Dc;congr 1
 have st0:Ha [.tok 2048 0 true,Hb (uc 0 fun _=>false)] 33 (.ptr 1 0) (.pv (.agg (uc 0 fun _=>false)))=some [.tok 2048 0 true,Hb (uc 0 fun _=>false)]:=Ir (id:=1) rfl zl zl (Fy _ _);have uaa:Ra (qa 2) [.tok 2048 0 true,Hb (uc 0 fun _=>false)]=some [.tok 2048 0 true,Hb (uc 0 fun _=>false)]:=by have c0:∀ k n nl,qa 2 (.tok k n nl)=some (.tok k n nl):=fun k n nl=>rfl;simp only[Ra,c0,xh,yaa,Haa]
 have w9:∀ a b:ba,([a,b]:List ba).take 2=[a,b]:=fun a b=>rfl
 have Lab:∀ a b c d:ba,([a,b,c,d]:List ba).take 4=[a,b,c,d]:=fun a b c d=>rfl
 have Kab:∀ nl,Ra (qa 4) [.tok 2048 ss.length nl,Hb (Dc ss.length),.tok 33 1 false,.tok 256 0 true]=some [.tok 2048 ss.length nl,Hb (Dc ss.length),.tok 33 1 false,.tok 256 0 true]:=by intro nl;have c0:∀ k n nl,qa 4 (.tok k n nl)=some (.tok k n nl):=fun k n nl=>rfl;simp only[Ra,c0,xh,yaa,Haa]
 have hld:∀ nl,pa [.tok 2048 ss.length nl,Hb (Dc ss.length)] true 33 (.ptr 1 0)=some (.pv (.agg (Dc ss.length))):=fun nl=>bn (id:=1) rfl (kh _ _);have fz:=Qf (uc 0 fun _=>false);have hYl:((Dc ss.length).map AV.pv).length=33:=by rw[haa,kh]
 have hYr:fa ((uc 0 fun _=>false).map AV.pv++[]) 0 ((Dc ss.length).map AV.pv)=(Dc ss.length).map AV.pv:=Yv (by rw[kh,kh])
 have hYa:=sK (Fy 0 fun j=>decide (j < ss.length));have hYp:=Qf (Dc ss.length);have hYt:(Dc ss.length).take 33=Dc ss.length:=Saa (by rw[kh];exact paa _)
 have f4:(33<=((uc 0 fun _=>false).map AV.pv++[]).length)=True:=Iaa (by rw[wab,haa,zl];exact paa _);have d20:(0 < 2)=True:=by simp
 have d21:(1 < 2)=True:=by simp
 have d40:(0 < 4)=True:=by simp
 have d42:(2 < 4)=True:=by simp
 have d43:(3 < 4)=True:=by simp
 have g1:(0 < 2048)=True:=by simp
 have g2:(0 < 256)=True:=by simp
 rw[hf0] at y9;have key:qd (fun r=>(∃ p,qh ss 64 (rh ss,[])=some p/\r=PV.mc [.lit 33 (p.1.map Af),.lit 256 (p.2.map Xi),.bool true]/\p.2.length=p.1.length)\/(qh ss 64 (rh ss,[])=none/\r=PV.mc [.ga,.ga,.bool false])) (Sf [.agg [S]]):=by
  generalize Q7:(fun r:PV=>_)=QQ;change (((Dc ss.length).map AV.pv).all AV.one)=true at hYa;generalize hzs:(uc 0 fun _=>false)=zs at *;generalize hfs:Dc ss.length=fs at *
  generalize oal:Hb zs=oz at *;generalize Cap:Hb fs=of at *;simp -implicitDefEqProofs only[Sf,SP,WP,fa,sevalprocAttr,-List.reduceReplicate,vl,K8,hz,oal,fz,st0,fe,g1,g2,uaa,w9,d20,d21,Db,na,Ca,AV.cut,za];refine wa y9 ?_;rintro r ⟨E,nl,rfl,k1,k5,k6⟩;have pal:=S9 nl;have naf:=Kab nl;have wag:=hld nl;simp -implicitDefEqProofs only[SP,WP,fa,sevalprocAttr,-List.reduceReplicate,k1,k5,k6,wag,hz,hYl,hYr,hYa,hYp,hYt,f4,fe,g1,g2,naf,Lab,d40,d42,d43,Db,na,Ca,AV.cut,za];refine wa pal ?_;rintro r (⟨p,E,hp,X7,hpp,rfl,K9,L9⟩ | ⟨hp,E,H,rfl,k2,k3,k4⟩)
  ·have hie:p.2.isEmpty=false:=by
    cases hh:p.2 with
    |nil=>rw[hh] at hpp;simp at hpp
    |cons a l=>rfl
   rw[hie] at L9;simp -implicitDefEqProofs only[SP,WP,fa,sevalprocAttr,-List.reduceReplicate,K9,L9];subst Q7;exact .inl ⟨p,hp,rfl,X7⟩
  ·simp -implicitDefEqProofs only[SP,WP,fa,sevalprocAttr,-List.reduceReplicate,k2,k3,k4]
   subst Q7;exact .inr ⟨hp,rfl⟩
 obtain⟨r,h1,h2⟩:=wc key;constructor
 ·intro p hp
  rcases h2 with⟨p',hp',rfl,hl⟩ | ⟨hn,_⟩
  ·rw[hp] at hp';injection hp' with hp';subst hp';exact⟨h1,hl⟩
  ·rw[hp] at hn;cases hn
 ·intro hn
  rcases h2 with⟨p',hp',_,_⟩ | ⟨_,rfl⟩
  ·rw[hn] at hp';cases hp'
  ·exact h1
attribute [local irreducible] qd
def owns(n:Nat):List AV:=(List.range n).map fun k=> .own (2 * k+1) n
def ED(n:Nat)(f:Nat->Bool)(fl:Nat):ba:= .seq 1 false ((fg n f).map .pv) fl false
structure zt(H:List ba)(n:Nat)(f:Nat->Nat->Bool):Prop where
 len:H.length=2 * n+1
 hd:∃ nl,nl=false/\H[0]? =some (.seq 1 false (owns n) 0 nl)
 row:∀ k,k < n->∃ fl,fl<=n/\H[2 * k+1]? =some (ED n (f k) fl)
 dw:Wd H
theorem yG(n:Nat):(owns n).length=n:=by rw[owns,haa,eac]
theorem lY{n k:Nat}(h:k < n):(owns n)[k]? =some (.own (2 * k+1) n):=by
 rw[owns,Eaa,Xac h];rfl
theorem qM(n:Nat)(f:Nat->Bool)(fl m:Nat):qa m (ED n f fl)=some (ED n f fl):=by
 have:((fg n f).map AV.pv).all (AV.je m deep)=true:=by
  rw[Taa];intro v hv;obtain⟨p,_,rfl⟩:=fab.1 hv
  rfl
 simp[qa,ED,this]
theorem nP(m:Nat)(g:Nat->Bool){j:Nat}(hj:j < m)(b:Bool):(fg m g).set j (.bool b)=fg m fun x=>if x=j then b else g x:=by
 apply Aad
 ·rw[qac,lh,lh]
 ·intro k h1 h2
  rw[Lae,SE,SE]
  by_cases hk:j=k
  ·subst hk;rw[if_pos rfl,if_pos rfl]
  ·rw[kaa hk,kaa (lac hk)]
section
variable {H:List ba}{n:Nat}{f:Nat->Nat->Bool}(h:zt H n f)
include h
theorem zt.cut:Ra (qa (2 * n+1)) (H.take (2 * n+1))=some H:=by
 rw[<- h.len,sab];exact Wd.cut h.dw
theorem zt.i0{i:Nat}(hi:i < n):ta H 1 (.own 0 n) (i:Int)=some (.Hc 0 n i):=by
 obtain⟨nl,_,h0⟩:=h.hd
 simp only[ta,h0];rw[if_pos (by refine⟨trivial,?_,?_⟩ <;> first | (unfold Ia;omega) | (unfold Ui;rw[yG];omega))];simp
theorem zt.l0{i:Nat}(hi:i < n):pa H false 1 (.Hc 0 n i)=some (.own (2 * i+1) n):=by
 obtain⟨nl,_,h0⟩:=h.hd
 simp only[pa,h0];rw[if_pos (yG n)];simp only[Kh,saa,if_false];exact lY hi
theorem zt.i1{i j:Nat}(hi:i < n)(hj:j < n):ta H 1 (.own (2 * i+1) n) (j:Int)=some (.Hc (2 * i+1) n j):=by
 obtain⟨fl,hf,h0⟩:=h.row i hi
 simp only[ta,h0,ED];rw[if_pos (by refine⟨trivial,?_,?_⟩ <;> first | (unfold Ia;omega) | (unfold Ui;rw[haa,lh];omega))];simp
theorem zt.l1{i j:Nat}(hi:i < n)(hj:j < n):pa H false 1 (.Hc (2 * i+1) n j)=some (.pv (.bool (f i j))):=by
 obtain⟨fl,hf,h0⟩:=h.row i hi
 simp only[pa,h0,ED];rw[if_pos (by rw[haa,lh])];simp only[Kh,saa,if_false,Eaa,KB _ hj,Haa]
end
theorem zt.store{H:List ba}{n:Nat}{f:Nat->Nat->Bool}(h:zt H n f){i j:Nat}(hi:i < n)(hj:j < n):
 ∃ H',Ha H 1 (.Hc (2 * i+1) n j) (.pv (.bool true))=some H'/\zt H' n (fun a b=>if a=i/\b=j then true else f a b):=by
 obtain⟨fl,hf,h0⟩:=h.row i hi
 have hc:(AV.pv (.bool true)).cells=[.pv (.bool true)]:=rfl
 refine⟨H.set (2 * i+1) (ED n (fun b=>if b=j then true else f i b) n),?_,?_⟩
 ·simp only[Ha,h0,ED,hc]
  rw[if_pos ⟨rfl,rfl⟩,if_pos ⟨by rw[haa,lh],by show j+1<=n;omega⟩,fa,fa,<-qae,nP n _ hj]
 ·refine⟨by rw[qac,h.len],?_,?_,?_⟩
  ·obtain⟨nl,j8,h1⟩:=h.hd
   exact⟨nl,j8,by rw[Gaa (by omega)];exact h1⟩
  ·intro k hk
   by_cases hki:k=i
   ·subst hki
    refine⟨n,paa _,?_⟩;rw[Maa (by rw[h.len];omega)];have:(fun b=>if k=k/\b=j then true else f k b)=fun b=>if b=j then true else f k b:=by funext b;simp only[true_and]
    show _=some (ED n (fun b=>if k=k/\b=j then true else f k b) n);rw[this]
   ·obtain⟨x8,hf',h1⟩:=h.row k hk
    refine⟨x8,hf',?_⟩;have:(fun b=>if k=i/\b=j then true else f k b)=f k:=by funext b;rw[kaa (fun h=>hki h.1)]
    rw[Gaa (by omega),h1];show _=some (ED n (fun b=>if k=i/\b=j then true else f k b) x8);rw[this]
  ·intro m hm o ho
   rw[qac] at hm;rcases Aab ho with h1 | h1
   ·exact h.dw m hm o h1
   ·subst h1;exact qM _ _ _ _
def CA(f:Nat->Nat->Bool)(i j a b:Nat):Bool:=if (a=i/\b=j)\/(a=j/\b=i) then true else f a b
theorem RY(f:Nat->Nat->Bool)(i j:Nat):(fun a b=>if a=j/\b=i then true else (if a=i/\b=j then true else f a b))=CA f i j:=by
 funext a b
 unfold CA
 by_cases h1:a=i/\b=j
 ·by_cases h2:a=j/\b=i
  ·rw[if_pos h2,if_pos (.inl h1)]
  ·rw[kaa h2,if_pos h1,if_pos (.inl h1)]
 ·by_cases h2:a=j/\b=i
  ·rw[if_pos h2,if_pos (.inr h2)]
  ·rw[kaa h2,kaa h1,kaa (by intro h;rcases h with h | h <;> contradiction)]
def ch(C:List (List Int))(i x:Nat):Int:=(C.getD i []).getD x 0
def Gl(C:List (List Int))(f:Nat->Nat->Bool)(i j x:Nat):Bool:=
 ((ch C i x != ch C j x)&&(decide (ch C i x < 0)||decide (ch C j x < 0)))||(decide (ch C i x>=0)&&decide (ch C j x>=0)&&f (ch C i x).toNat (ch C j x).toNat)
structure VL(C:List (List Int)):Prop where
 row:∀ r∈C,r.length=256
 lt:∀ r∈C,∀ v∈r,v < (C.length:Int)
 sz:C.length<=64
theorem VL.get{C:List (List Int)}(h:VL C){i x:Nat}(hi:i < C.length)(hx:x < 256):C[i][x]? =some (ch C i x)/\ch C i x < (C.length:Int):=by
 have hm:=jaa hi;have hl:=h.row _ hm
 have hg:C.getD i []=C[i]:=by rw[taa,aaa hi];rfl
 have h1:C[i][x]? =some (ch C i x):=by unfold ch;rw[hg,taa,aaa (by omega)];rfl
 exact⟨h1,h.lt _ hm _ (nab h1)⟩
theorem VL.Pd{C:List (List Int)}(h:VL C){i:Nat}(hi:i < C.length)(H:List ba):ta H 256 (.pv (.lit 256 (C.map Xi))) (i:Int)=some (.pv (.rp (C[i].map i64) 0)):=by
 simp only[ta];rw[if_pos (by refine⟨trivial,?_⟩;unfold Ia;simp;omega)];simp[hi,Xi,PV.cells]
theorem VL.load{C:List (List Int)}(h:VL C){i x:Nat}(hi:i < C.length)(hx:x < 256)(H:List ba):pa H false 1 (.pv (.rp (C[i].map i64) x))=some (.pv (i64 (ch C i x))):=
 fC (by rw[Eaa,(h.get hi hx).1];rfl) H
abbrev aB(v:PV)(n i j x:Int)(g:Bool):Tr:=((((((Tr.lf.set 9 (.pv (i64 x))).set 8 (.pv (i64 j))).set 7 (.pv (i64 i))).set 6 (.pv (.bool g))).set 4 (.own 0 n.toNat)).set 3 (.pv (i64 n))).set 0 (.pv v)
section
variable (call:Sa){C:List (List Int)}(hC:VL C){i j:Nat}(hi:i < C.length)(hj:j < C.length)
include hC hi hj
theorem QH{H:List ba}{f:Nat->Nat->Bool}(hM:zt H C.length f)(g:Bool){x:Nat}(hx:x < 256):
 qd (fun r=>(f i j=true/\∃ E,r=(.exit 8,⟨E,H⟩)/\E.get 0= .pv (.lit 256 (C.map Xi))/\E.get 3= .pv (i64 C.length)/\E.get 4= .own 0 C.length/\E.get 6= .pv (.bool g)/\E.get 7= .pv (i64 i)/\E.get 8= .pv (i64 j))\/
  (f i j=false/\Gl C f i j x=false/\r=(.norm,⟨aB (.lit 256 (C.map Xi)) C.length i j (x+1:Nat) g,H⟩))\/
  (f i j=false/\Gl C f i j x=true/\∃ H',zt H' C.length (CA f i j)/\r=(.norm,⟨aB (.lit 256 (C.map Xi)) C.length i j (x+1:Nat) true,H'⟩)))
  (ma (oa call Xa) (na (2 * C.length+1) [0,3,4,6,7,8,9]) ⟨aB (.lit 256 (C.map Xi)) C.length i j x g,H⟩):=by
 have C7:=hM.cut
 have a0:=hM.i0 hi
 have a1:=hM.l0 hi
 have b0:=hM.i0 hj
 have b1:=hM.l0 hj
 have a2:=hM.i1 hi hj
 have a3:=hM.l1 hi hj
 obtain⟨H1,s1,hM1⟩:=hM.store hi hj
 obtain⟨H2,s2,hM2⟩:=hM1.store hj hi
 rw[RY] at hM2;have b2:=hM1.i1 hj hi
 have F9:=hM2.cut
 have c0:=fun H=>hC.Pd hi H
 have c1:=fun H=>hC.load hi hx H
 have d0:=fun H=>hC.Pd hj H
 have d1:=fun H=>hC.load hj hx H
 have hva:=(hC.get hi hx).2
 have hvb:=(hC.get hj hx).2
 have L7:=hC.sz
 have e1:decide ((x:Int) < 256)=true:=Ea (by omega);have hq:Ia (x:Int) 256:=by unfold Ia;omega
 have t1:((x:Int)).toNat=x:=by simp
 have m1:x * 1=x:=by omega
 have z1:0+x=x:=by omega
 have t2:IntKind.i64.wrap ((x:Int)+1)=((x+1:Nat):Int):=Aa (by omega)
 have tn:((C.length:Int)).toNat=C.length:=by simp
 have hz:(0 < 2 * C.length+1)=True:=by simp
 have htl:Gl C f i j x=(((ch C i x != ch C j x)&&(decide (ch C i x < 0)||decide (ch C j x < 0)))||(decide (ch C i x>=0)&&decide (ch C j x>=0)&&f (ch C i x).toNat (ch C j x).toNat)):=rfl;have hun:0<=ch C i x->0<=ch C j x->ta H 1 (.own 0 C.length) (ch C i x)=some (.Hc 0 C.length (ch C i x).toNat)/\pa H false 1 (.Hc 0 C.length (ch C i x).toNat)=some (.own (2 * (ch C i x).toNat+1) C.length)/\
  ta H 1 (.own (2 * (ch C i x).toNat+1) C.length) (ch C j x)=some (.Hc (2 * (ch C i x).toNat+1) C.length (ch C j x).toNat)/\pa H false 1 (.Hc (2 * (ch C i x).toNat+1) C.length (ch C j x).toNat)=some (.pv (.bool (f (ch C i x).toNat (ch C j x).toNat))):=by
  intro h1 h2;have k1:=hM.i0 (i:=(ch C i x).toNat) (by omega)
  have k2:=hM.l0 (i:=(ch C i x).toNat) (by omega)
  have k3:=hM.i1 (i:=(ch C i x).toNat) (j:=(ch C j x).toNat) (by omega) (by omega)
  have k4:=hM.l1 (i:=(ch C i x).toNat) (j:=(ch C j x).toNat) (by omega) (by omega)
  rw[sac h1] at k1;rw[sac h2] at k3;exact⟨k1,k2,k3,k4⟩
 generalize ch C i x=a at *;generalize ch C j x=b at *;generalize hl:(PV.lit 256 (C.map Xi))=L at *;have hR0:f i j=true->∀ E,E.get 0= .pv L->E.get 3= .pv (i64 C.length)->E.get 4= .own 0 C.length->E.get 6= .pv (.bool g)->E.get 7= .pv (i64 i)->E.get 8= .pv (i64 j)->
  ((f i j=true/\∃ E',(Ex.exit 8,(⟨E,H⟩:St))=(.exit 8,⟨E',H⟩)/\E'.get 0= .pv L/\E'.get 3= .pv (i64 C.length)/\E'.get 4= .own 0 C.length/\E'.get 6= .pv (.bool g)/\E'.get 7= .pv (i64 i)/\E'.get 8= .pv (i64 j))\/
   (f i j=false/\Gl C f i j x=false/\(Ex.exit 8,(⟨E,H⟩:St))=(.norm,⟨aB L C.length i j (x+1:Nat) g,H⟩))\/
   (f i j=false/\Gl C f i j x=true/\∃ H',zt H' C.length (CA f i j)/\(Ex.exit 8,(⟨E,H⟩:St))=(.norm,⟨aB L C.length i j (x+1:Nat) true,H'⟩))):=
  fun h E k0 k3 k4 k6 k7 k8=> .inl ⟨h,E,rfl,k0,k3,k4,k6,k7,k8⟩
 have hR1:f i j=false->Gl C f i j x=false->∀ s,s=(⟨aB L C.length i j (x+1:Nat) g,H⟩:St)->
  ((f i j=true/\∃ E',(Ex.norm,s)=(.exit 8,⟨E',H⟩)/\E'.get 0= .pv L/\E'.get 3= .pv (i64 C.length)/\E'.get 4= .own 0 C.length/\E'.get 6= .pv (.bool g)/\E'.get 7= .pv (i64 i)/\E'.get 8= .pv (i64 j))\/
   (f i j=false/\Gl C f i j x=false/\(Ex.norm,s)=(.norm,⟨aB L C.length i j (x+1:Nat) g,H⟩))\/
   (f i j=false/\Gl C f i j x=true/\∃ H',zt H' C.length (CA f i j)/\(Ex.norm,s)=(.norm,⟨aB L C.length i j (x+1:Nat) true,H'⟩))):=
  fun h1 h2 s h3=> .inr (.inl ⟨h1,h2,by rw[h3]⟩)
 have hR2:f i j=false->Gl C f i j x=true->∀ s,s=(⟨aB L C.length i j (x+1:Nat) true,H2⟩:St)->
  ((f i j=true/\∃ E',(Ex.norm,s)=(.exit 8,⟨E',H⟩)/\E'.get 0= .pv L/\E'.get 3= .pv (i64 C.length)/\E'.get 4= .own 0 C.length/\E'.get 6= .pv (.bool g)/\E'.get 7= .pv (i64 i)/\E'.get 8= .pv (i64 j))\/
   (f i j=false/\Gl C f i j x=false/\(Ex.norm,s)=(.norm,⟨aB L C.length i j (x+1:Nat) g,H⟩))\/
   (f i j=false/\Gl C f i j x=true/\∃ H',zt H' C.length (CA f i j)/\(Ex.norm,s)=(.norm,⟨aB L C.length i j (x+1:Nat) true,H'⟩))):=
  fun h1 h2 s h3=> .inr (.inr ⟨h1,h2,H2,hM2,by rw[h3]⟩)
 generalize Q7:(fun r:Ex×St=>_)=QQ;generalize hu:f i j=u at *;cases u with
 |true=>simp -implicitDefEqProofs only[SX,sevalprocAttr,Xa,e1,tn,a0,a1,a2,a3,aB];subst Q7;exact hR0 rfl _ (by simp[Tr.aa]) (by simp[Tr.aa]) (by simp[Tr.aa]) (by simp[Tr.aa]) (by simp[Tr.aa]) (by simp[Tr.aa])
 |false=>
  by_cases hab:a=b
  ·have ne1:(a != b)=false:=by simp[hab]
   subst hab
   by_cases ha:a>=0
   ·have da:=Ea ha
    have da':decide (a < 0)=false:=Ga (by omega);obtain⟨k1,k2,k3,k4⟩:=hun ha ha;rw[ne1,da,Iac,Pad,oab,oab] at htl;generalize hw:f a.toNat a.toNat=w at *
    cases w with
    |true=>simp -implicitDefEqProofs only[SX,sevalprocAttr,Xa,e1,tn,a0,a1,a2,a3,b0,b1,b2,c0,c1,d0,d1,Iaa hq,t1,m1,z1,Tj,ne1,da,k1,k2,k3,k4,s1,s2,t2,F9,hz,na,Ca,AV.cut,za,aB];subst Q7;exact hR2 rfl htl _ (by simp only[aB,tn])
    |false=>simp -implicitDefEqProofs only[SX,sevalprocAttr,Xa,e1,tn,a0,a1,a2,a3,b0,b1,b2,c0,c1,d0,d1,Iaa hq,t1,m1,z1,Tj,ne1,da,k1,k2,k3,k4,t2,C7,hz,na,Ca,AV.cut,za,aB];subst Q7;exact hR1 rfl htl _ (by simp only[aB,tn])
   ·have da:=Ga ha
    rw[ne1,da,Iac,Pad,Iac,Iac] at htl;simp -implicitDefEqProofs only[SX,sevalprocAttr,Xa,e1,tn,a0,a1,a2,a3,b0,b1,b2,c0,c1,d0,d1,Iaa hq,t1,m1,z1,Tj,ne1,da,t2,C7,hz,na,Ca,AV.cut,za,aB];subst Q7;exact hR1 rfl htl _ (by simp only[aB,tn])
  ·have ne1:(a != b)=true:=by simp[hab]
   by_cases ha:a < 0
   ·have da:=Ea ha
    rw[ne1,da] at htl;simp only[oab,Bool.true_or] at htl;simp -implicitDefEqProofs only[SX,sevalprocAttr,Xa,e1,tn,a0,a1,a2,a3,b0,b1,b2,c0,c1,d0,d1,Iaa hq,t1,m1,z1,Tj,ne1,da,s1,s2,t2,F9,hz,na,Ca,AV.cut,za,aB];subst Q7;exact hR2 rfl htl _ (by simp only[aB,tn])
   ·have da:=Ga ha
    have da':decide (a>=0)=true:=Ea (by omega)
    by_cases hb:b < 0
    ·have db:=Ea hb
     rw[ne1,da,db] at htl;simp only[oab,Pad,Bool.true_or] at htl;simp -implicitDefEqProofs only[SX,sevalprocAttr,Xa,e1,tn,a0,a1,a2,a3,b0,b1,b2,c0,c1,d0,d1,Iaa hq,t1,m1,z1,Tj,ne1,da,db,s1,s2,t2,F9,hz,na,Ca,AV.cut,za,aB];subst Q7;exact hR2 rfl htl _ (by simp only[aB,tn])
    ·have db:=Ga hb
     have db':decide (b>=0)=true:=Ea (by omega);obtain⟨k1,k2,k3,k4⟩:=hun (by omega) (by omega);rw[ne1,da,db,da',db'] at htl;simp only[oab,Pad] at htl;generalize hw:f a.toNat b.toNat=w at *
     cases w with
     |true=>simp -implicitDefEqProofs only[SX,sevalprocAttr,Xa,e1,tn,a0,a1,a2,a3,b0,b1,b2,c0,c1,d0,d1,Iaa hq,t1,m1,z1,Tj,ne1,da,db,da',db',k1,k2,k3,k4,s1,s2,t2,F9,hz,na,Ca,AV.cut,za,aB];subst Q7;exact hR2 rfl htl _ (by simp only[aB,tn])
     |false=>simp -implicitDefEqProofs only[SX,sevalprocAttr,Xa,e1,tn,a0,a1,a2,a3,b0,b1,b2,c0,c1,d0,d1,Iaa hq,t1,m1,z1,Tj,ne1,da,db,da',db',k1,k2,k3,k4,t2,C7,hz,na,Ca,AV.cut,za,aB];subst Q7;exact hR1 rfl htl _ (by simp only[aB,tn])
end
def KA(ss:List Nb)(B7:List Al)(a:Al)(x:Nat)(v:Int):Prop:=
 (yg (Gm ss a x) ss.length=false/\v= -2)\/
 (yg (Gm ss a x) ss.length=true/\yg (sr ss a x) ss.length=true/\v= -1)\/
 (yg (Gm ss a x) ss.length=true/\yg (sr ss a x) ss.length=false/\∃ k m:Nat,v=(k:Int)/\MD ss a x m/\B7[k]? =some (a.1+1,(m:Int)))
theorem KA.mono{ss:List Nb}{B7 t:List Al}{a:Al}{x:Nat}{v:Int}(h:KA ss B7 a x v):KA ss (B7++t) a x v:=by
 rcases h with h | h | ⟨h1,h2,k,m,h3,h4,h5⟩
 ·exact .inl h
 ·exact .inr (.inl h)
 ·refine .inr (.inr ⟨h1,h2,k,m,h3,h4,?_⟩)
  rw[eaa (iaa.1 h5).1];exact h5
theorem TM{a:Al}:∀ {l:List Al}{k i:Nat},Sm a l k=some i->k<=i/\l[i - k]? =some a
 |b::l,k,i,h=>by
  simp only[Sm] at h
  split at h
  ·next he=>injection h with h;subst h;subst he;exact⟨paa _,by simp⟩
  ·obtain⟨h1,h2⟩:=TM h
   refine⟨by omega,?_⟩;rw[show i - k=(i - (k+1))+1 by omega,eab];exact h2
structure eP(B7:List Al)(d:Nat):Prop where
 up:∀ (p q:Nat) a b,p<=q->B7[p]? =some a->B7[q]? =some b->a.1<=b.1
 top:∀ (q:Nat) b,B7[q]? =some b->b.1<=d+1
theorem eP.push{B7:List Al}{d:Nat}(h:eP B7 d)(e:Int):eP (B7++[(d+1,e)]) d:=by
 have hg:∀ (q:Nat) b,(B7++[(d+1,e)])[q]? =some b->(q < B7.length/\B7[q]? =some b)\/(q=B7.length/\b=(d+1,e)):=by
  intro q b hb;rcases Qaa q B7.length with h1 | h1
  ·rw[eaa h1] at hb;exact .inl ⟨h1,hb⟩
  ·rw[Kaa h1] at hb
   cases hq:q - B7.length with
   |zero=>rw[hq] at hb;simp at hb;exact .inr ⟨by omega,hb.symm⟩
   |succ n=>rw[hq] at hb;simp at hb
 refine⟨?_,?_⟩
 ·intro p q a b hpq ha hb
  rcases hg p a ha with⟨h1,h2⟩ | ⟨h1,h2⟩ <;> rcases hg q b hb with⟨h3,h4⟩ | ⟨h3,h4⟩
  ·exact h.up p q a b hpq h2 h4
  ·rw[h4];exact h.top p a h2
  ·omega
  ·rw[h2,h4];exact paa _
 ·intro q b hb
  rcases hg q b hb with⟨h3,h4⟩ | ⟨h3,h4⟩
  ·exact h.top q b h4
  ·rw[h4];exact paa _
theorem iU{ss:List Nb}(hw:ss.length<=32){B7:List Al}{a:Al}(hba:nX a){x:Nat}{p:List Al×Int}(h:ph ss a x B7=some p)(hR:eP B7 a.1):
 KA ss p.1 a x p.2/\eP p.1 a.1/\((p.1=B7)\/(p.1.length=B7.length+1/\p.2=(B7.length:Int))):=by
 obtain⟨m,hm⟩:=MV (x:=x) hba hw;rw[hm.step B7] at h
 by_cases h1:yg (Gm ss a x) ss.length=false
 ·rw[if_pos h1] at h
  injection h with h;subst h
  exact⟨.inl ⟨h1,rfl⟩,hR,.inl rfl⟩
 ·rw[kaa h1] at h
  have D9:yg (Gm ss a x) ss.length=true:=by simpa using h1
  by_cases h2:yg (sr ss a x) ss.length=true
  ·rw[if_pos h2] at h
   injection h with h;subst h
   exact⟨.inr (.inl ⟨D9,h2,rfl⟩),hR,.inl rfl⟩
  ·rw[kaa h2] at h
   have h2':yg (sr ss a x) ss.length=false:=by simpa using h2
   cases hi:Sm (a.1+1,(m:Int)) B7 0 with
   |some k=>
    rw[hi] at h;injection h with h;subst h
    exact⟨.inr (.inr ⟨D9,h2',k,m,rfl,hm,(TM hi).2⟩),hR,.inl rfl⟩
   |none=>
    rw[hi] at h;simp only at h
    split at h
    ·injection h with h;subst h
     refine⟨.inr (.inr ⟨D9,h2',B7.length,m,rfl,hm,by simp⟩),hR.push _,.inr ⟨by simp,rfl⟩⟩
    ·cases h
theorem IN{ss:List Nb}(hw:ss.length<=32){a:Al}(hba:nX a){i:Nat}:∀ (xs:List Nat)(r r':List Al×List Int),xs.Nodup->(∀ x∈xs,x < r.2.length)->On ss r.1->r.1[i]? =some a->eP r.1 a.1->Wl ss a xs r=some r'->
 (∀ x∈xs,KA ss r'.1 a x (r'.2.getD x 0))/\(∀ y,y ∉ xs->r'.2.getD y 0=r.2.getD y 0)/\(∀ k,r.1.length<=k->k < r'.1.length->∃ x∈xs,r'.2.getD x 0=(k:Int))/\eP r'.1 a.1
 | [],r,r',_,_,_,_,hR,e=>by
   injection e with e;subst e
   exact⟨by simp,fun _ _=>rfl,fun k h1 h2=>by omega,hR⟩
 |x::xs,r,r',hnd,E7,Ba,ha,hR,e=>by
  cases Y7:ph ss a x r.1 with
  |none=>rw[Qu Y7] at e;cases e
  |some p=>
   rw[Kv Y7] at e;obtain⟨s1,s2,s3⟩:=iU hw hba Y7 hR;obtain⟨g1,t,g2⟩:=JG Ba ha hw Y7;rw[List.nodup_cons] at hnd;have hi:=(iaa.1 ha).1
   have hxl:=E7 x (by simp);obtain⟨k1,k2,k3,k4⟩:=IN hw hba xs (p.1,r.2.set x p.2) r' hnd.2 (fun y hy=>by rw[qac];exact E7 y (by simp[hy])) g1 (by rw[g2,eaa hi];exact ha) s2 e
   obtain⟨_,⟨t',q2⟩,_⟩:=Jw hw xs (p.1,r.2.set x p.2) r' g1 (by rw[g2,eaa hi];exact ha) e;simp only at q2;have hx:r'.2.getD x 0=p.2:=by rw[k2 x hnd.1,taa,Maa hxl];rfl
   refine⟨?_,?_,?_,k4⟩
   ·intro y hy
    rcases Xaa.1 hy with rfl | hy
    ·rw[hx,q2];exact s1.mono
    ·exact k1 y hy
   ·intro y hy
    rw[Xaa,not_or] at hy;rw[k2 y hy.2,taa,Gaa (lac hy.1),<-taa]
   ·intro k h1 h2
    rcases s3 with s3 | ⟨s3,s4⟩
    ·obtain⟨y,hy,h3⟩:=k3 k (by rw[s3];exact h1) h2
     exact⟨y,by simp[hy],h3⟩
    ·by_cases hk:k=r.1.length
     ·exact⟨x,by simp,by rw[hx,s4,hk]⟩
     ·obtain⟨y,hy,h3⟩:=k3 k (by simp only;omega) h2
      exact⟨y,by simp[hy],h3⟩
structure Dm(ss:List Nb)(B7:List Al)(C:List (List Int)):Prop where
 ok:On ss B7
 le:C.length<=B7.length
 first:B7[0]? =some (0,Ms ss.length)
 row:∀ r∈C,r.length=256
 step:∀ (k:Nat) a,k < C.length->B7[k]? =some a->∀ x,x < 256->KA ss B7 a x (ch C k x)
 up:∀ (p q:Nat) a b,p<=q->B7[p]? =some a->B7[q]? =some b->a.1<=b.1
 top:∀ (k q:Nat) a b,k=C.length->B7[k]? =some a->B7[q]? =some b->b.1<=a.1+1
 reach:∀ k,0 < k->k < B7.length->∃ j x,j < k/\j < C.length/\x < 256/\ch C j x=(k:Int)
theorem WR{C:List (List Int)}{r:List Int}{k x:Nat}(hk:k < C.length):ch (C++[r]) k x=ch C k x:=by
 have:(C++[r]).getD k []=C.getD k []:=by rw[taa,eaa hk,<-taa]
 unfold ch;rw[this]
theorem KR{C:List (List Int)}{r:List Int}{x:Nat}:ch (C++[r]) C.length x=r.getD x 0:=by
 unfold ch;have:(C++[r]).getD C.length []=r:=by rw[taa,Kaa (paa _),ead];rfl
 rw[this]
theorem Dm.next{ss:List Nb}(hw:ss.length<=32){B7:List Al}{C:List (List Int)}(h:Dm ss B7 C){a:Al}(ha:B7[C.length]? =some a){p:List Al×List Int}(hp:Wl ss a (List.range 256) (B7,fb)=some p):Dm ss p.1 (C++[p.2]):=by
 have E7:=(iaa.1 ha).1
 obtain⟨_,b,hb,R9,_⟩:=h.ok.2 _ a ha
 have hba:nX a:=⟨b,hb,R9⟩;obtain⟨k1,k2,k3,k4⟩:=IN hw hba (i:=C.length) (List.range 256) (B7,fb) p List.nodup_range (fun x hx=>by simp only[Au];simpa using hx) h.ok ha ⟨h.up,fun q b hb=>h.top C.length q a b rfl ha hb⟩ hp
 obtain⟨g1,⟨t,g2⟩,g3⟩:=Jw hw (List.range 256) (B7,fb) p h.ok ha hp
 simp only at g2 g3;rw[Au] at g3;have hold:∀ (k:Nat) c,k < B7.length->(p.1[k]? =some c↔B7[k]? =some c):=fun k c hk=>by rw[g2,eaa hk]
 refine⟨g1,?_,?_,?_,?_,k4.up,?_,?_⟩
 ·rw[g2];simp;omega
 ·rw[hold 0 _ (by omega)];exact h.first
 ·intro r hr
  rcases Jaa.1 hr with h1 | h1
  ·exact h.row r h1
  ·rw[Hab] at h1;subst h1;exact g3
 ·intro k c hk hc x hx
  rw[raa,dad] at hk;rcases Qaa k C.length with h1 | h1
  ·rw[WR h1,g2]
   exact (h.step k c h1 ((hold k c (by omega)).1 hc) x hx).mono
  ·have:k=C.length:=by omega
   subst this;have hca:c=a:=by
    have:=(hold C.length c E7).1 hc
    rw[ha] at this;injection this with this;exact this.symm
   subst hca;rw[KR];exact k1 x (by simpa using hx)
 ·intro k q c d hk hc hd
  rw[raa,dad] at hk;have h1:=k4.top q d hd
  have h2:=k4.up C.length k a c (by omega) ((hold _ a E7).2 ha) hc
  omega
 ·intro k h0 hk
  rcases Qaa k B7.length with h1 | h1
  ·obtain⟨j,x,h2,h3,h4,h5⟩:=h.reach k h0 h1
   exact⟨j,x,h2,by rw[raa];omega,h4,by rw[WR h3];exact h5⟩
  ·obtain⟨x,hx,h2⟩:=k3 k h1 hk
   exact⟨C.length,x,by omega,by simp,by simpa using hx,by rw[KR];exact h2⟩
theorem AI{ss:List Nb}(hw:ss.length<=32):∀ (k:Nat)(r r':List Al×List (List Int)),r.2.length+k=64->Dm ss r.1 r.2->qh ss k r=some r'->Dm ss r'.1 r'.2/\r'.2.length=r'.1.length
 |0,r,r',hk,h,e=>by
  injection e with e;subst e
  have:=h.ok.1
  have:=h.le
  exact⟨h,by omega⟩
 |k+1,r,r',hk,h,e=>by
  cases ha:r.1[r.2.length]? with
  |none=>
   rw[Gv ha] at e;injection e with e;subst e
   refine⟨h,?_⟩;have:=h.le
   rcases Qaa r.2.length r.1.length with h1 | h1
   ·rw[aaa h1] at ha;cases ha
   ·omega
  |some a=>
   cases hr:Wl ss a (List.range 256) (r.1,fb) with
   |none=>rw[Xw ha hr] at e;cases e
   |some p=>rw[zw ha hr] at e;exact AI hw k (p.1,r.2++[p.2]) r' (by simp;omega) (h.next hw ha hr) e
theorem KJ{ss:List Nb}(hw:ss.length<=32)(J7:∀ s∈ss,0 < s.parts.length){p:List Al×List (List Int)}(h:qh ss 64 (rh ss,[])=some p):Dm ss p.1 p.2/\p.2.length=p.1.length:=by
 refine AI hw 64 (rh ss,[]) p rfl ⟨XB hw J7,by simp,rfl,by simp,fun k a hk=>by simp at hk,?_,?_,?_⟩ h
 ·intro p q a b hpq ha hb
  have:p=0/\q=0:=by
   have h1:=(iaa.1 ha).1
   have h2:=(iaa.1 hb).1
   simp[rh] at h1 h2;omega
  obtain⟨rfl,rfl⟩:=this;rw[ha] at hb;injection hb with hb;subst hb;exact paa _
 ·intro k q a b hk ha hb
  have h2:=(iaa.1 hb).1
  simp[rh] at h2;subst h2;simp[rh] at hb;subst hb;simp
 ·intro k h0 hk
  simp[rh] at hk;omega
attribute [local irreducible] qd
def iR(C:List (List Int))(i j:Nat)(f:Nat->Nat->Bool)(g:Bool)(f':Nat->Nat->Bool)(g':Bool):Prop:=
 (f'=f/\g'=g/\(f i j=true\/∀ x,x < 256->Gl C f i j x=false))\/(f i j=false/\(∃ x,x < 256/\Gl C f i j x=true)/\f'=CA f i j/\g'=true)
section
variable (call:Sa){C:List (List Int)}(hC:VL C)
include hC
theorem TX{i j:Nat}(hi:i < C.length)(hj:j < C.length){H:List ba}{f:Nat->Nat->Bool}(hM:zt H C.length f)(g:Bool):
 qd (fun r=>∃ E H' f' g',r=(.exit 8,⟨E,H'⟩)/\zt H' C.length f'/\iR C i j f g f' g'/\E.get 0= .pv (.lit 256 (C.map Xi))/\E.get 3= .pv (i64 C.length)/\E.get 4= .own 0 C.length/\E.get 6= .pv (.bool g')/\E.get 7= .pv (i64 i)/\E.get 8= .pv (i64 j))
  (ab (ma (oa call Xa) (na (2 * C.length+1) [0,3,4,6,7,8,9])) ua ⟨aB (.lit 256 (C.map Xi)) C.length i j 0 g,H⟩):=by
 have hs2:CA f i j i j=true:=by unfold CA;rw[if_pos (.inl ⟨rfl,rfl⟩)]
 refine wa (Fb (g:=ma (oa call Xa) (na (2 * C.length+1) [0,3,4,6,7,8,9]))
  (fun x t=>∃ H' f' g',t=⟨aB (.lit 256 (C.map Xi)) C.length i j x g',H'⟩/\zt H' C.length f'/\((f'=f/\g'=g/\(f i j=true\/∀ x',x' < x->Gl C f i j x'=false))\/(f i j=false/\(∃ x,x < 256/\Gl C f i j x=true)/\f'=CA f i j/\g'=true)))
  256 (by unfold ua;omega) _ ⟨H,f,g,rfl,hM,.inl ⟨rfl,rfl,.inr fun x h=>by omega⟩⟩ ?_ ?_) (fun r h=>h.2)
 ·rintro x t hx ⟨H',f',g',rfl,hM',hP⟩
  refine wa (QH call hC hi hj hM' g' hx) ?_;rintro r (⟨hu,E,rfl,k0,k3,k4,k6,k7,k8⟩ | ⟨hu,htl,rfl⟩ | ⟨hu,htl,H2,hM2,rfl⟩)
  ·refine⟨E,H',f',g',rfl,hM',?_,k0,k3,k4,k6,k7,k8⟩
   rcases hP with⟨rfl,rfl,hp⟩ | ⟨h1,h2,h3,h4⟩
   ·exact .inl ⟨rfl,rfl,.inl hu⟩
   ·exact .inr ⟨h1,h2,h3,h4⟩
  ·rcases hP with⟨rfl,rfl,hp⟩ | ⟨h1,h2,rfl,h4⟩
   ·refine⟨H',f',g',rfl,hM',.inl ⟨rfl,rfl,.inr fun x' hx'=> ?_⟩⟩
    rcases hp with hp | hp
    ·rw[hu] at hp;cases hp
    ·rcases Qaa x' x with h | h
     ·exact hp x' h
     ·have:x'=x:=by omega
      subst this;exact htl
   ·rw[hs2] at hu;cases hu
  ·rcases hP with⟨rfl,rfl,hp⟩ | ⟨h1,h2,rfl,h4⟩
   ·exact⟨H2,_,true,rfl,hM2,.inr ⟨hu,⟨x,hx,htl⟩,rfl,rfl⟩⟩
   ·rw[hs2] at hu;cases hu
 ·rintro t ⟨H',f',g',rfl,hM',hP⟩
  have e1:decide (((256:Nat):Int) < 256)=false:=Ga (by omega);have R7:∀ E,E.get 0= .pv (.lit 256 (C.map Xi))->E.get 3= .pv (i64 C.length)->E.get 4= .own 0 C.length->E.get 6= .pv (.bool g')->E.get 7= .pv (i64 i)->E.get 8= .pv (i64 j)->
   (Ex.exit 8,(⟨E,H'⟩:St)).1.stop=true/\∃ E' H2 f' g',(Ex.exit 8,(⟨E,H'⟩:St))=(.exit 8,⟨E',H2⟩)/\zt H2 C.length f'/\iR C i j f g f' g'/\E'.get 0= .pv (.lit 256 (C.map Xi))/\E'.get 3= .pv (i64 C.length)/\E'.get 4= .own 0 C.length/\E'.get 6= .pv (.bool g')/\E'.get 7= .pv (i64 i)/\E'.get 8= .pv (i64 j):=
   fun E k0 k3 k4 k6 k7 k8=>⟨rfl,E,H',f',g',rfl,hM',hP,k0,k3,k4,k6,k7,k8⟩
  have tn:((C.length:Int)).toNat=C.length:=by simp
  generalize hQ:(fun r:Ex×St=>r.1.stop=true/\_)=Q;generalize (PV.lit 256 (C.map Xi))=L at *;simp -implicitDefEqProofs only[SX,sevalprocAttr,Xa,e1,tn,aB];subst hQ;exact R7 _ (by simp[Tr.aa]) (by simp[Tr.aa]) (by simp[Tr.aa]) (by simp[Tr.aa]) (by simp[Tr.aa]) (by simp[Tr.aa])
end
def qp(n:Nat)(f:Nat->Nat->Bool):Nat:=((List.range n).flatMap fun i=>(List.range n).map fun j=>(i,j)).countP fun p=> !f p.1 p.2
theorem FI{α:Type}{p q:α->Bool}:∀ {l:List α},(∀ a∈l,q a=true->p a=true)->(∃ a∈l,p a=true/\q a=false)->l.countP q < l.countP p
 | [],_,⟨a,h,_⟩=>by cases h
 |b::l,h,⟨a,ha,hp,hq⟩=>by
  rw[List.countP_cons,List.countP_cons];have sad:l.countP q<=l.countP p:=List.countP_mono_left fun x hx h1=>h x (by simp[hx]) h1
  rcases Xaa.1 ha with rfl | ha
  ·rw[hp,hq];simp;omega
  ·have ih:=FI (l:=l) (fun x hx=>h x (by simp[hx])) ⟨a,ha,hp,hq⟩
   have hb:=h b (by simp);cases hqb:q b with
   |false=>simp;omega
   |true=>rw[hb hqb];simp;omega
theorem IU{n:Nat}{f:Nat->Nat->Bool}{i j:Nat}(hi:i < n)(hj:j < n)(h:f i j=false):qp n (CA f i j) < qp n f:=by
 refine FI ?_ ⟨(i,j),?_,?_,?_⟩
 ·rintro⟨a,b⟩ _ h1
  simp only[CA,oac] at h1 ⊢
  split at h1
  ·cases h1
  ·exact h1
 ·rw[List.mem_flatMap]
  exact⟨i,by simpa using hi,by rw[fab];exact⟨j,by simpa using hj,rfl⟩⟩
 ·simp[h]
 ·simp[CA]
theorem AU(n:Nat)(f:Nat->Nat->Bool):qp n f<=n * n:=by
 refine mac List.countP_le_length ?_
 have:∀ l:List Nat,(l.flatMap fun i=>(List.range n).map fun j=>(i,j)).length=l.length * n:=by
  intro l
  induction l with
  |nil=>simp
  |cons a l ih=>rw[Yac,raa,ih,haa,eac,Oaa,oae];omega
 rw[this,eac];exact paa _
structure wu(C:List (List Int))(D:Nat->Nat->Prop)(f0:Nat->Nat->Bool)(done:Nat->Nat->Prop)(f:Nat->Nat->Bool)(g:Bool):Prop where
 snd:∀ a b,f a b=true->D a b
 sym:∀ a b,f a b=f b a
 je:g=false->f=f0/\∀ i j,done i j->f i j=true\/∀ x,x < 256->Gl C f i j x=false
 le:qp C.length f<=qp C.length f0
 lt:g=true->qp C.length f < qp C.length f0
def zM(C:List (List Int))(D:Nat->Nat->Prop):Prop:=(∀ a b,D a b->D b a)/\
 ∀ i j x (f:Nat->Nat->Bool),i < C.length->j < C.length->x < 256->(∀ a b,f a b=true->D a b)->Gl C f i j x=true->D i j
theorem wu.step{C:List (List Int)}{D:Nat->Nat->Prop}(hD:zM C D){f0 f f':Nat->Nat->Bool}{done:Nat->Nat->Prop}{g g':Bool}(h:wu C D f0 done f g){i j:Nat}(hi:i < C.length)(hj:j < C.length)(hp:iR C i j f g f' g'):
 wu C D f0 (fun a b=>done a b\/(a=i/\b=j)) f' g':=by
 rcases hp with⟨rfl,rfl,hp⟩ | ⟨h1,⟨x,hx,h2⟩,rfl,rfl⟩
 ·refine⟨h.snd,h.sym,fun hg=>⟨(h.je hg).1,?_⟩,h.le,h.lt⟩
  rintro a b (hd | ⟨rfl,rfl⟩)
  ·exact (h.je hg).2 a b hd
  ·exact hp
 ·have hd:=hD.2 i j x f hi hj hx h.snd h2
  have E7:=IU hi hj h1;have hle:=h.le
  refine⟨?_,?_,fun hg=>(by cases hg),by omega,fun _=>by omega⟩
  ·intro a b hab
   unfold CA at hab
   split at hab
   ·next hc=>
    rcases hc with⟨rfl,rfl⟩ | ⟨rfl,rfl⟩
    ·exact hd
    ·exact hD.1 _ _ hd
   ·exact h.snd a b hab
  ·intro a b
   unfold CA;rw[h.sym a b]
   congr 1
   apply propext;constructor
   ·rintro (⟨h1,h2⟩ | ⟨h1,h2⟩)
    ·exact .inr ⟨h2,h1⟩
    ·exact .inl ⟨h2,h1⟩
   ·rintro (⟨h1,h2⟩ | ⟨h1,h2⟩)
    ·exact .inr ⟨h2,h1⟩
    ·exact .inl ⟨h2,h1⟩
theorem wu.weaken{C:List (List Int)}{D:Nat->Nat->Prop}{f0 f:Nat->Nat->Bool}{done xaf:Nat->Nat->Prop}{g:Bool}(h:wu C D f0 done f g)(hd:∀ a b,xaf a b->done a b):wu C D f0 xaf f g:=
 ⟨h.snd,h.sym,fun hg=>⟨(h.je hg).1,fun a b hab=>(h.je hg).2 a b (hd a b hab)⟩,h.le,h.lt⟩
attribute [local irreducible] qd
abbrev P2(v:PV)(n i j:Int)(g:Bool):Tr:=(((((Tr.lf.set 8 (.pv (i64 j))).set 7 (.pv (i64 i))).set 6 (.pv (.bool g))).set 4 (.own 0 n.toNat)).set 3 (.pv (i64 n))).set 0 (.pv v)
abbrev K2(v:PV)(n i:Int)(g:Bool):Tr:=((((Tr.lf.set 7 (.pv (i64 i))).set 6 (.pv (.bool g))).set 4 (.own 0 n.toNat)).set 3 (.pv (i64 n))).set 0 (.pv v)
abbrev FZ(v:PV)(n:Int)(g:Bool):Tr:=(((Tr.lf.set 6 (.pv (.bool g))).set 4 (.own 0 n.toNat)).set 3 (.pv (i64 n))).set 0 (.pv v)
section
variable (call:Sa){C:List (List Int)}(hC:VL C){D:Nat->Nat->Prop}(hD:zM C D){f0:Nat->Nat->Bool}
include hC hD
theorem GX{i:Nat}(hi:i < C.length){done:Nat->Nat->Prop}{H:List ba}{f:Nat->Nat->Bool}(hM:zt H C.length f){g:Bool}(hP:wu C D f0 done f g):
 qd (fun r=>∃ E H' f' g',r=(.exit 6,⟨E,H'⟩)/\zt H' C.length f'/\wu C D f0 (fun a b=>done a b\/(a=i/\b < i)) f' g'/\E.get 0= .pv (.lit 256 (C.map Xi))/\E.get 3= .pv (i64 C.length)/\E.get 4= .own 0 C.length/\E.get 6= .pv (.bool g')/\E.get 7= .pv (i64 i))
  (ab (ma (oa call Df) (na (2 * C.length+1) [0,3,4,6,7,8])) ua ⟨P2 (.lit 256 (C.map Xi)) C.length i 0 g,H⟩):=by
 have L7:=hC.sz
 refine wa (Fb (g:=ma (oa call Df) (na (2 * C.length+1) [0,3,4,6,7,8]))
  (fun j t=>∃ H' f' g',t=⟨P2 (.lit 256 (C.map Xi)) C.length i j g',H'⟩/\zt H' C.length f'/\wu C D f0 (fun a b=>done a b\/(a=i/\b < j)) f' g')
  i (by unfold ua;omega) _ ⟨H,f,g,rfl,hM,hP.weaken fun a b h=>by rcases h with h | h;exact h;omega⟩ ?_ ?_) (fun r h=>h.2)
 ·rintro j t hj ⟨H',f',g',rfl,hM',hP'⟩
  have hj2:j < C.length:=by omega
  have b9:=TX call hC hi hj2 hM' g';have e1:decide ((j:Int) < (i:Int))=true:=Ea (by omega);have t2:IntKind.i64.wrap ((j:Int)+1)=((j+1:Nat):Int):=Aa (by omega)
  have tn:((C.length:Int)).toNat=C.length:=by simp
  have hz:(0 < 2 * C.length+1)=True:=by simp
  have C7:=hM'.cut
  have hlen:=hM'.len
  have Q8:∀ H2 f2 g2,zt H2 C.length f2->iR C i j f' g' f2 g2->
   LN (fun j t=>∃ H' f' g',t=⟨P2 (.lit 256 (C.map Xi)) C.length i j g',H'⟩/\zt H' C.length f'/\wu C D f0 (fun a b=>done a b\/(a=i/\b < j)) f' g')
    (fun r=>∃ E H' f' g',r=(.exit 6,⟨E,H'⟩)/\zt H' C.length f'/\wu C D f0 (fun a b=>done a b\/(a=i/\b < i)) f' g'/\E.get 0= .pv (.lit 256 (C.map Xi))/\E.get 3= .pv (i64 C.length)/\E.get 4= .own 0 C.length/\E.get 6= .pv (.bool g')/\E.get 7= .pv (i64 i)) j
    (.norm,⟨P2 (.lit 256 (C.map Xi)) C.length i (j+1:Nat) g2,H2⟩):=by
   intro H2 f2 g2 h1 h2;refine⟨H2,f2,g2,rfl,h1,(hP'.step hD hi hj2 h2).weaken ?_⟩;rintro a b (h | ⟨rfl,h⟩)
   ·exact .inl (.inl h)
   ·rcases Qaa b j with h3 | h3
    ·exact .inl (.inr ⟨rfl,h3⟩)
    ·exact .inr ⟨rfl,by omega⟩
  generalize LN _ _ j=QQ at Q8 ⊢;generalize (PV.lit 256 (C.map Xi))=L at *;simp -implicitDefEqProofs only[SX,sevalprocAttr,Df,e1,Db,hlen,C7,hz,tn,na,Ca,AV.cut,za,P2];simp only[aB,tn] at b9;refine wa b9 ?_;rintro r ⟨E,H2,f2,g2,rfl,hM2,hP2,k0,k3,k4,k6,k7,k8⟩;have F9:=hM2.cut
  have P8:=hM2.len
  have jab:=Q8 H2 f2 g2 hM2 hP2;simp -implicitDefEqProofs only[SX,sevalprocAttr,k0,k3,k4,k6,k7,k8,t2,P8,F9,hz,na,Ca,AV.cut,za];simp only[P2,tn] at jab;exact jab
 ·rintro t ⟨H',f',g',rfl,hM',hP'⟩
  have e1:decide ((i:Int) < (i:Int))=false:=Ga (by omega);have tn:((C.length:Int)).toNat=C.length:=by simp
  have R7:∀ E,E.get 0= .pv (.lit 256 (C.map Xi))->E.get 3= .pv (i64 C.length)->E.get 4= .own 0 C.length->E.get 6= .pv (.bool g')->E.get 7= .pv (i64 i)->
   (Ex.exit 6,(⟨E,H'⟩:St)).1.stop=true/\∃ E' H2 f' g',(Ex.exit 6,(⟨E,H'⟩:St))=(.exit 6,⟨E',H2⟩)/\zt H2 C.length f'/\wu C D f0 (fun a b=>done a b\/(a=i/\b < i)) f' g'/\E'.get 0= .pv (.lit 256 (C.map Xi))/\E'.get 3= .pv (i64 C.length)/\E'.get 4= .own 0 C.length/\E'.get 6= .pv (.bool g')/\E'.get 7= .pv (i64 i):=
   fun E k0 k3 k4 k6 k7=>⟨rfl,E,H',f',g',rfl,hM',hP',k0,k3,k4,k6,k7⟩
  generalize hQ:(fun r:Ex×St=>r.1.stop=true/\_)=Q;generalize (PV.lit 256 (C.map Xi))=L at *;simp -implicitDefEqProofs only[SX,sevalprocAttr,Df,e1,tn,P2];subst hQ;exact R7 _ (by simp[Tr.aa]) (by simp[Tr.aa]) (by simp[Tr.aa]) (by simp[Tr.aa]) (by simp[Tr.aa])
theorem xY{H:List ba}{f:Nat->Nat->Bool}(hM:zt H C.length f){g:Bool}(hP:wu C D f0 (fun _ _=>False) f g):
 qd (fun r=>∃ E H' f' g',r=(.exit 4,⟨E,H'⟩)/\zt H' C.length f'/\wu C D f0 (fun a b=>a < C.length/\b < a) f' g'/\E.get 0= .pv (.lit 256 (C.map Xi))/\E.get 3= .pv (i64 C.length)/\E.get 4= .own 0 C.length/\E.get 6= .pv (.bool g'))
  (ab (ma (oa call Ff) (na (2 * C.length+1) [0,3,4,6,7])) ua ⟨K2 (.lit 256 (C.map Xi)) C.length 0 g,H⟩):=by
 have L7:=hC.sz
 refine wa (Fb (g:=ma (oa call Ff) (na (2 * C.length+1) [0,3,4,6,7]))
  (fun i t=>∃ H' f' g',t=⟨K2 (.lit 256 (C.map Xi)) C.length i g',H'⟩/\zt H' C.length f'/\wu C D f0 (fun a b=>a < i/\b < a) f' g')
  C.length (by unfold ua;omega) _ ⟨H,f,g,rfl,hM,hP.weaken fun a b h=>by omega⟩ ?_ ?_) (fun r h=>h.2)
 ·rintro i t hi ⟨H',f',g',rfl,hM',hP'⟩
  have b9:=GX call hC hD hi hM' hP';have e1:decide ((i:Int) < (C.length:Int))=true:=Ea (by omega);have t2:IntKind.i64.wrap ((i:Int)+1)=((i+1:Nat):Int):=Aa (by omega)
  have tn:((C.length:Int)).toNat=C.length:=by simp
  have hz:(0 < 2 * C.length+1)=True:=by simp
  have C7:=hM'.cut
  have hlen:=hM'.len
  have Q8:∀ H2 f2 g2,zt H2 C.length f2->wu C D f0 (fun a b=>(a < i/\b < a)\/(a=i/\b < i)) f2 g2->
   LN (fun i t=>∃ H' f' g',t=⟨K2 (.lit 256 (C.map Xi)) C.length i g',H'⟩/\zt H' C.length f'/\wu C D f0 (fun a b=>a < i/\b < a) f' g')
    (fun r=>∃ E H' f' g',r=(.exit 4,⟨E,H'⟩)/\zt H' C.length f'/\wu C D f0 (fun a b=>a < C.length/\b < a) f' g'/\E.get 0= .pv (.lit 256 (C.map Xi))/\E.get 3= .pv (i64 C.length)/\E.get 4= .own 0 C.length/\E.get 6= .pv (.bool g')) i
    (.norm,⟨K2 (.lit 256 (C.map Xi)) C.length (i+1:Nat) g2,H2⟩):=by
   intro H2 f2 g2 h1 h2;refine⟨H2,f2,g2,rfl,h1,h2.weaken ?_⟩;rintro a b ⟨h3,h4⟩;rcases Qaa a i with h5 | h5
   ·exact .inl ⟨h5,h4⟩
   ·exact .inr ⟨by omega,by omega⟩
  generalize LN _ _ i=QQ at Q8 ⊢;generalize (PV.lit 256 (C.map Xi))=L at *;simp -implicitDefEqProofs only[SX,sevalprocAttr,Ff,e1,Db,hlen,C7,hz,tn,na,Ca,AV.cut,za,K2];simp only[P2,tn] at b9;refine wa b9 ?_;rintro r ⟨E,H2,f2,g2,rfl,hM2,hP2,k0,k3,k4,k6,k7⟩;have F9:=hM2.cut
  have P8:=hM2.len
  have jab:=Q8 H2 f2 g2 hM2 hP2;simp -implicitDefEqProofs only[SX,sevalprocAttr,k0,k3,k4,k6,k7,t2,P8,F9,hz,na,Ca,AV.cut,za];simp only[K2,tn] at jab;exact jab
 ·rintro t ⟨H',f',g',rfl,hM',hP'⟩
  have e1:decide ((C.length:Int) < (C.length:Int))=false:=Ga (by omega);have tn:((C.length:Int)).toNat=C.length:=by simp
  have R7:∀ E,E.get 0= .pv (.lit 256 (C.map Xi))->E.get 3= .pv (i64 C.length)->E.get 4= .own 0 C.length->E.get 6= .pv (.bool g')->
   (Ex.exit 4,(⟨E,H'⟩:St)).1.stop=true/\∃ E' H2 f' g',(Ex.exit 4,(⟨E,H'⟩:St))=(.exit 4,⟨E',H2⟩)/\zt H2 C.length f'/\wu C D f0 (fun a b=>a < C.length/\b < a) f' g'/\E'.get 0= .pv (.lit 256 (C.map Xi))/\E'.get 3= .pv (i64 C.length)/\E'.get 4= .own 0 C.length/\E'.get 6= .pv (.bool g'):=
   fun E k0 k3 k4 k6=>⟨rfl,E,H',f',g',rfl,hM',hP',k0,k3,k4,k6⟩
  generalize hQ:(fun r:Ex×St=>r.1.stop=true/\_)=Q;generalize (PV.lit 256 (C.map Xi))=L at *;simp -implicitDefEqProofs only[SX,sevalprocAttr,Ff,e1,tn,K2];subst hQ;exact R7 _ (by simp[Tr.aa]) (by simp[Tr.aa]) (by simp[Tr.aa]) (by simp[Tr.aa])
end
structure nA(C:List (List Int))(D:Nat->Nat->Prop)(f:Nat->Nat->Bool)(g:Bool):Prop where
 snd:∀ a b,f a b=true->D a b
 sym:∀ a b,f a b=f b a
 closed:g=false->∀ i j,i < C.length->j < i->f i j=true\/∀ x,x < 256->Gl C f i j x=false
theorem YV(call:Sa){C:List (List Int)}(hC:VL C){D:Nat->Nat->Prop}(hD:zM C D){H:List ba}{f:Nat->Nat->Bool}(hM:zt H C.length f)(hK:nA C D f true):
 qd (fun r=>∃ E H' f',r=(.exit 2,⟨E,H'⟩)/\zt H' C.length f'/\nA C D f' false/\E.get 4= .own 0 C.length)
  (ab (ma (oa call Bf) (na (2 * C.length+1) [0,3,4,6])) ua ⟨FZ (.lit 256 (C.map Xi)) C.length true,H⟩):=by
 have L7:=hC.sz
 have w8:∀ f,qp C.length f<=4096:=fun f=>mac (AU _ _) (Nat.mul_le_mul L7 L7)
 refine wa (Js (g:=ma (oa call Bf) (na (2 * C.length+1) [0,3,4,6]))
  (fun k t=>∃ H' f' g',t=⟨FZ (.lit 256 (C.map Xi)) C.length g',H'⟩/\zt H' C.length f'/\nA C D f' g'/\k=qp C.length f'+if g' then 1 else 0)
  ua (qp C.length f+1) _ (by have:=w8 f;unfold ua;omega) ⟨H,f,true,rfl,hM,hK,rfl⟩ ?_) (fun r h=>h.2)
 rintro k t ⟨H',f',g',rfl,hM',hK',hk⟩;have tn:((C.length:Int)).toNat=C.length:=by simp
 cases g' with
 |false=>
  have R7:∀ E,E.get 4= .own 0 C.length->
   LQ (fun k t=>∃ H' f' g',t=⟨FZ (.lit 256 (C.map Xi)) C.length g',H'⟩/\zt H' C.length f'/\nA C D f' g'/\k=qp C.length f'+if g' then 1 else 0)
    (fun r=>∃ E H' f',r=(.exit 2,⟨E,H'⟩)/\zt H' C.length f'/\nA C D f' false/\E.get 4= .own 0 C.length) k (.exit 2,⟨E,H'⟩):=fun E k4=>⟨E,H',f',rfl,hM',hK',k4⟩
  generalize LQ _ _ k=QQ at R7 ⊢;generalize (PV.lit 256 (C.map Xi))=L at *;simp -implicitDefEqProofs only[SX,sevalprocAttr,Bf,tn,FZ];exact R7 _ (by simp[Tr.aa])
 |true=>
  have hP0:wu C D f' (fun _ _=>False) f' false:=⟨hK'.snd,hK'.sym,fun _=>⟨rfl,fun _ _ h=>h.elim⟩,paa _,fun h=>by cases h⟩;have b9:=xY call hC hD hM' hP0;have hz:(0 < 2 * C.length+1)=True:=by simp
  have C7:=hM'.cut
  have hlen:=hM'.len
  have Q8:∀ H2 f2 g2,zt H2 C.length f2->wu C D f' (fun a b=>a < C.length/\b < a) f2 g2->
   LQ (fun k t=>∃ H' f' g',t=⟨FZ (.lit 256 (C.map Xi)) C.length g',H'⟩/\zt H' C.length f'/\nA C D f' g'/\k=qp C.length f'+if g' then 1 else 0)
    (fun r=>∃ E H' f',r=(.exit 2,⟨E,H'⟩)/\zt H' C.length f'/\nA C D f' false/\E.get 4= .own 0 C.length) k (.norm,⟨FZ (.lit 256 (C.map Xi)) C.length g2,H2⟩):=by
   intro H2 f2 g2 h1 h2;refine⟨qp C.length f2+if g2 then 1 else 0,?_,H2,f2,g2,rfl,h1,⟨h2.snd,h2.sym,fun hg i j hi hj=>(h2.je hg).2 i j ⟨hi,hj⟩⟩,rfl⟩;rw[hk];cases g2 with
   |false=>have:=h2.le;simp;omega
   |true=>have:=h2.lt rfl;simp;omega
  generalize LQ _ _ k=QQ at Q8 ⊢;generalize (PV.lit 256 (C.map Xi))=L at *;simp -implicitDefEqProofs only[SX,sevalprocAttr,Bf,Db,hlen,C7,hz,tn,na,Ca,AV.cut,za,FZ];simp only[K2,tn] at b9;refine wa b9 ?_;rintro r ⟨E,H2,f2,g2,rfl,hM2,hP2,k0,k3,k4,k6⟩;have F9:=hM2.cut
  have P8:=hM2.len
  have jab:=Q8 H2 f2 g2 hM2 hP2;simp -implicitDefEqProofs only[SX,sevalprocAttr,k0,k3,k4,k6,P8,F9,hz,na,Ca,AV.cut,za];simp only[FZ,tn] at jab;exact jab
theorem EG:∀ {C:List (List Int)},(∀ r∈C,r.length=256)->∀ {k:Nat},(hk:k < C.length)->Va C.flatten k=C[k]
 | [],_,k,hk=>by simp at hk
 |r::C,h,0,hk=>by
  have hr:=h r (by simp);show ((r++C.flatten).drop (0 * 256)).take 256=r
  rw[Eae,xac,Kac (by omega),Saa (by omega)]
 |r::C,h,k+1,hk=>by
  have hr:=h r (by simp);have ih:=EG (C:=C) (fun r' R8=>h r' (by simp[R8])) (k:=k) (by simpa using hk);show ((r++C.flatten).drop ((k+1) * 256)).take 256=C[k]'(by simpa using hk)
  rw[show (k+1) * 256=r.length+k * 256 by omega,zae,rae (by omega),Yaa,Hac];exact ih
theorem Wu:∀ {C:List (List Int)},(∀ r∈C,r.length=256)->C.flatten.length=C.length * 256
 | [],_=>rfl
 |r::C,h=>by rw[Uab,raa,h r (by simp),Wu fun r' R8=>h r' (by simp[R8]),Oaa];omega
section
variable {ss:List Nb}{B7:List Al}{C:List (List Int)}(W:Dm ss B7 C)(hl:C.length=B7.length)
include W hl
theorem Dm.at{k x:Nat}(hk:k < C.length)(hx:x < 256):∃ a,B7[k]? =some a/\KA ss B7 a x (ch C k x):=by
 have h1:B7[k]? =some (B7[k]'(by omega)):=aaa (by omega);exact⟨_,h1,W.step k _ hk h1 x hx⟩
theorem Dm.bound{k x:Nat}(hk:k < C.length)(hx:x < 256): -2<=ch C k x/\ch C k x < C.length:=by
 obtain⟨a,ha,h⟩:=W.at hl hk hx
 rcases h with⟨_,h⟩ | ⟨_,_,h⟩ | ⟨_,_,k',m,h,_,h2⟩
 ·omega
 ·omega
 ·have:=(iaa.1 h2).1
  omega
omit hl in
theorem Dm.val{r:List Int}(hr:r∈C){v:Int}(hv:v∈r):∃ k x,k < C.length/\x < 256/\v=ch C k x:=by
 obtain⟨k,hk,rfl⟩:=qab hr;obtain⟨x,hx,rfl⟩:=qab hv;have ral:=W.row _ (jaa hk)
 refine⟨k,x,hk,by omega,?_⟩;unfold ch;have:C.getD k []=C[k]:=by rw[taa,aaa hk];rfl
 rw[this,taa,aaa hx];rfl
theorem Dm.xg:VL C:=by
 refine⟨W.row,?_,by have:=W.ok.1;omega⟩;intro r hr v hv;obtain⟨k,x,hk,hx,rfl⟩:=W.val hr hv
 exact (W.bound hl hk hx).2
theorem Dm.ge:∀ r∈C,∀ v∈r,-2<=v:=by
 intro r hr v hv;obtain⟨k,x,hk,hx,rfl⟩:=W.val hr hv
 exact (W.bound hl hk hx).1
theorem Dm.vD{k x:Nat}(hk:k < C.length)(hx:x < 256)(h:0<=ch C k x):(k:Int) < ch C k x:=by
 obtain⟨a,ha,hs⟩:=W.at hl hk hx
 rcases hs with⟨_,h2⟩ | ⟨_,_,h2⟩ | ⟨_,_,k',m,h2,_,h3⟩
 ·omega
 ·omega
 ·rw[h2]
  rcases Qaa k k' with h4 | h4
  ·omega
  ·have:=W.up k' k _ _ h4 h3 ha
   simp only at this;omega
theorem Dm.later:rS C.length C.flatten:=by
 intro j hj to E8 h0;rw[EG W.row hj] at E8;obtain⟨x,hx,rfl⟩:=qab E8;have ral:=W.row _ (jaa hj)
 have hn:C[j][x]=ch C j x:=by
  unfold ch;have:C.getD j []=C[j]:=by rw[taa,aaa hj];rfl
  rw[this,taa,aaa hx];rfl
 rw[hn] at h0 ⊢;exact⟨W.vD hl hj (by omega) h0,(W.bound hl hj (by omega)).2⟩
end
def cls(C:List (List Int))(j:Nat):Int:=(ff C.length C.flatten).Ac.getD j 0
def Ss(C:List (List Int))(j x:Nat):Int:=if 0<=ch C j x then cls C (ch C j x).toNat else ch C j x
section
variable {ss:List Nb}{B7:List Al}{C:List (List Int)}(W:Dm ss B7 C)(hl:C.length=B7.length)
include W hl
theorem Dm.NA:OA C.length C.flatten 0 (ff C.length C.flatten):=XS (W.later hl) (Wu W.row)
theorem Dm.UU{j x:Nat}(hj:j < C.length)(hx:x < 256):(Va (ff C.length C.flatten).C j).getD x 0=Ss C j x:=by
 have h:=(W.NA hl).hi j (by omega) hj
 have hg:=(W.xg hl).get hj hx
 rw[h,EG W.row hj,taa,Eaa,hg.1];show Nr _ (ch C j x)=Ss C j x;unfold Nr Ss cls;rfl
theorem Dm.IB{j:Nat}(hj:j < C.length):(Va (ff C.length C.flatten).C j).length=256:=Ei (W.NA hl).hC hj
theorem Dm.fL{i j:Nat}(hi:i < C.length)(hj:j < C.length):cls C i=cls C j↔∀ x,x < 256->Ss C i x=Ss C j x:=by
 unfold cls;rw[(W.NA hl).yM hi hj];constructor
 ·intro h x hx
  rw[<- W.UU hl hi hx,<-W.UU hl hj hx,h]
 ·intro h
  apply Iab;intro x
  by_cases hx:x < 256
  ·have h1:=W.IB hl hi
   have h2:=W.IB hl hj
   have h3:=h x hx;rw[<- W.UU hl hi hx,<-W.UU hl hj hx,taa,taa,aaa (by omega),aaa (by omega)] at h3;rw[aaa (by omega),aaa (by omega)];exact congrArg some h3
  ·rw[Raa (by rw[W.IB hl hi];omega),Raa (by rw[W.IB hl hj];omega)]
theorem Dm.T5:zM C fun i j=>cls C i≠cls C j:=by
 refine⟨fun a b h=>h.symm,?_⟩;intro i j x f hi hj hx hs ht he;have h:=(W.fL hl hi hj).1 he x hx
 unfold Ss at h;unfold Gl at ht;generalize ch C i x=a at *;generalize ch C j x=b at *;rw[Nac,baa,baa,baa,Nac] at ht;simp only[decide_eq_true_eq,bne_iff_ne,ne_eq] at ht;rcases ht with⟨h1,h2⟩ | ⟨⟨h1,h2⟩,h3⟩
 ·by_cases ha:0<=a
  ·by_cases hb:0<=b
   ·omega
   ·rw[if_pos ha,kaa hb] at h
    have:0<=cls C a.toNat\/C.length<=a.toNat:=by
     rcases Qaa a.toNat C.length with h4 | h4
     ·exact .inl ((W.NA hl).mq h4).1
     ·exact .inr h4
    rcases this with h5 | h5
    ·omega
    ·have:cls C a.toNat=0:=by
      unfold cls;rw[taa,Raa (by rw[(W.NA hl).hk];exact h5)];rfl
     omega
  ·by_cases hb:0<=b
   ·rw[kaa ha,if_pos hb] at h
    have:0<=cls C b.toNat:=by
     rcases Qaa b.toNat C.length with h4 | h4
     ·exact ((W.NA hl).mq h4).1
     ·have:cls C b.toNat=0:=by
       unfold cls;rw[taa,Raa (by rw[(W.NA hl).hk];exact h4)];rfl
      omega
    omega
   ·rw[kaa ha,kaa hb] at h;exact h1 h
 ·rw[if_pos h1,if_pos h2] at h
  exact hs _ _ h3 h
theorem Dm.known{f:Nat->Nat->Bool}(hK:nA C (fun i j=>cls C i≠cls C j) f false):∀ i j,i < C.length->j < C.length->(f i j=false↔cls C i=cls C j):=by
 have key:∀ (m i j:Nat),(C.length - i)+(C.length - j)<=m->i < C.length->j < C.length->f i j=false->cls C i=cls C j:=by
  intro m
  induction m with
  |zero=>intro i j h hi hj;omega
  |succ m ih=>
   intro i j hm hi hj hf
   by_cases hij:i=j
   ·rw[hij]
   have P7:∀ x,x < 256->Gl C f i j x=false:=by
    have hsw:∀ x,Gl C f j i x=Gl C f i j x:=by intro x;unfold Gl;rw[hK.sym,bne_comm,Bool.or_comm (decide (ch C j x < 0)),Bool.and_comm (decide (ch C j x>=0))]
    rcases Nat.lt_or_gt_of_ne hij with h1 | h1
    ·rcases hK.closed rfl j i hj h1 with h2 | h2
     ·rw[hK.sym,hf] at h2;cases h2
     ·intro x hx;rw[<- hsw];exact h2 x hx
    ·rcases hK.closed rfl i j hi h1 with h2 | h2
     ·rw[hf] at h2;cases h2
     ·exact h2
   rw[W.fL hl hi hj];intro x hx;have ht:=P7 x hx;have di:=W.vD hl hi hx
   have dj:=W.vD hl hj hx
   have bi:=(W.bound hl hi hx).2
   have bj:=(W.bound hl hj hx).2
   unfold Ss;unfold Gl at ht;generalize ch C i x=a at *;generalize ch C j x=b at *;simp only[Gad,Bool.and_eq_false_iff,bne_eq_false_iff_eq,decide_eq_false_iff_not] at ht
   by_cases hab:a=b
   ·rw[hab]
   ·have h1:¬a < 0/\¬b < 0:=by
     rcases ht.1 with h | h
     ·exact absurd h hab
     ·exact h
    have h2:f a.toNat b.toNat=false:=by
     rcases ht.2 with (h | h) | h
     ·omega
     ·omega
     ·exact h
    rw[if_pos (by omega),if_pos (by omega)];have:=di (by omega);have:=dj (by omega);exact ih a.toNat b.toNat (by omega) (by omega) (by omega) h2
 intro i j hi hj;refine⟨key _ i j (paa _) hi hj,fun h=> ?_⟩;cases hf:f i j with
 |false=>rfl
 |true=>exact absurd h (hK.snd i j hf)
end
def No(s:Nb)(w:List Nat):Prop:=∀ j x,w[j]? =some x->Io s j x=true
def Full(s:Nb)(w:List Nat):Prop:=No s w/\w.length=s.parts.length
def Bytes(w:List Nat):Prop:=∀ x∈w,x < 256
theorem mG{s:Nb}{j x:Nat}(h:Io s j x=true):j < s.parts.length:=by
 unfold Io at h;cases hp:s.parts[j]? with
 |none=>rw[hp] at h;cases h
 |some l=>exact (iaa.1 hp).1
theorem aO{s:Nb}{w:List Nat}(h:No s w):w.length<=s.parts.length:=by
 rcases Sac w.length with h0 | h0
 ·omega
 ·have:=mG (h (w.length - 1) _ (aaa (by omega)))
  omega
theorem kX(s:Nb):No s []:=by intro j x h;simp at h
theorem BT{s:Nb}{w:List Nat}{x:Nat}:No s (w++[x])↔No s w/\Io s w.length x=true:=by
 constructor
 ·intro h
  refine⟨fun j y hj=>h j y ?_,h w.length x (by simp)⟩;rw[eaa (iaa.1 hj).1];exact hj
 ·rintro⟨h1,h2⟩ j y hj
  rcases Qaa j w.length with h | h
  ·rw[eaa h] at hj;exact h1 j y hj
  ·rw[Kaa h] at hj
   cases hq:j - w.length with
   |succ n=>rw[hq] at hj;simp at hj
   |zero=>
    rw[hq] at hj;simp at hj;have:j=w.length:=by omega
    subst this;subst hj;exact h2
theorem fN{s:Nb}{w u:List Nat}(h:No s (w++u)):No s w:=by
 intro j y hj;refine h j y ?_;rw[eaa (iaa.1 hj).1];exact hj
theorem tN{p q:Nb}(op:Be p)(oq:Be q)(E7:p.parts.length<=q.parts.length){w:List Nat}(hw:Bytes w)(hp:Full p w)(hq:No q w):mf p q=true:=by
 have key:∀ (m i:Nat),i+m=p.parts.length->(dc p.parts q.parts m i).isSome=true:=by
  intro m
  induction m with
  |zero=>intro i _;rfl
  |succ m ih=>
   intro i hi;have h1:i < p.parts.length:=by omega
   have h2:i < q.parts.length:=by omega
   have hwi:i < w.length:=by rw[hp.2];exact h1
   have J7:Rq p.parts q.parts i≠[]:=by
    rw[YA h1 h2 (op.parts _ (jaa h1)).2 (oq.parts _ (jaa h2)).2];have k1:=hp.1 i w[i] (aaa hwi)
    have k2:=hq i w[i] (aaa hwi);unfold Io at k1 k2;rw[aaa h1] at k1;rw[aaa h2] at k2;exact⟨w[i],hw _ (jaa hwi),k1,k2⟩
   rw[dc];cases hm:Rq p.parts q.parts i with
   |nil=>exact absurd hm J7
   |cons a r=>have:=ih (i+1) (by omega);simp only[Option.isSome_map];exact this
 exact key _ 0 (by omega)
theorem GK{ss:List Nb}(Ba:Xb ss)(I7:Gf ss){p q:Nb}(hp:p∈ss)(hq:q∈ss){w:List Nat}(hw:Bytes w)(h1:Full p w)(h2:No q w):¬p.parts.length < q.parts.length:=by
 intro E7;obtain⟨i,hi,rfl⟩:=qab hp;obtain⟨j,hj,rfl⟩:=qab hq;have:=I7 i j hi hj E7;rw[tN (Ba.dt _ hp) (Ba.dt _ hq) (Nat.le_of_lt E7) hw h1 h2] at this;cases this
def runT(C:List (List Int)):Int->List Nat->Int
 |k,[]=>k
 |k,x::w=>if k < 0 then -2 else runT C (ch C k.toNat x) w
theorem eW{C:List (List Int)}{u:List Nat}:runT C (-2) u= -2:=by cases u <;> rfl
theorem lG(C:List (List Int)):∀ (w u:List Nat)(k:Int),runT C k (w++u)=runT C (runT C k w) u
 | [],u,k=>rfl
 |x::w,u,k=>by
  rw[bab,runT,runT]
  split
  ·rw[eW]
  ·exact lG C w u _
theorem FJ(C:List (List Int))(w:List Nat)(x:Nat)(k:Int):runT C k (w++[x])=if runT C k w < 0 then -2 else ch C (runT C k w).toNat x:=by
 rw[lG,runT];rfl
def eL(ss:List Nb)(a:Al)(w:List Nat):Prop:=a.1=w.length/\∀ i,a.2.toNat.testBit i=true↔∃ s,ss[i]? =some s/\No s w
theorem eL.on{ss:List Nb}{a:Al}{w:List Nat}(h:eL ss a w)(x i:Nat):Gm ss a x i=true↔∃ s,ss[i]? =some s/\No s (w++[x]):=by
 unfold Gm;rw[baa,h.2];cases hs:ss[i]? with
 |none=>simp
 |some s=>simp only[caa,exists_eq_left',h.1];rw[BT]
theorem eL.end{ss:List Nb}{a:Al}{w:List Nat}(h:eL ss a w)(x i:Nat):sr ss a x i=true↔∃ s,ss[i]? =some s/\Full s (w++[x]):=by
 unfold sr;rw[baa,h.on];cases hs:ss[i]? with
 |none=>simp
 |some s=>
  simp only[caa,exists_eq_left',h.1,beq_iff_eq];unfold Full;rw[raa,dad];constructor
  ·rintro⟨h1,h2⟩;exact⟨h1,by omega⟩
  ·rintro⟨h1,h2⟩;exact⟨h1,by omega⟩
theorem eL.u2{ss:List Nb}{a:Al}{w:List Nat}(h:eL ss a w)(x:Nat):yg (Gm ss a x) ss.length=true↔∃ s∈ss,No s (w++[x]):=by
 rw[Xu];constructor
 ·rintro⟨j,_,h1⟩
  obtain⟨s,h2,h3⟩:=(h.on x j).1 h1
  exact⟨s,nab h2,h3⟩
 ·rintro⟨s,h1,h2⟩
  obtain⟨j,hj,rfl⟩:=qab h1;exact⟨j,hj,(h.on x j).2 ⟨_,aaa hj,h2⟩⟩
theorem eL.JV{ss:List Nb}{a:Al}{w:List Nat}(h:eL ss a w)(x:Nat):yg (sr ss a x) ss.length=true↔∃ s∈ss,Full s (w++[x]):=by
 rw[Xu];constructor
 ·rintro⟨j,_,h1⟩
  obtain⟨s,h2,h3⟩:=(h.end x j).1 h1
  exact⟨s,nab h2,h3⟩
 ·rintro⟨s,h1,h2⟩
  obtain⟨j,hj,rfl⟩:=qab h1;exact⟨j,hj,(h.end x j).2 ⟨_,aaa hj,h2⟩⟩
theorem gO{n:Nat}(h:n<=32)(i:Nat):(Ms n).toNat.testBit i=decide (i < n):=by
 rw[wF h,Daa,Nat.testBit_two_pow_sub_one]
def J2(ss:List Nb)(B7:List Al)(w:List Nat)(v:Int):Prop:=
 (v= -1/\∃ s∈ss,Full s w)\/
 (0<=v/\(∃ a,B7[v.toNat]? =some a/\eL ss a w)/\(w=[]\/∃ s∈ss,No s w/\w.length < s.parts.length)/\∀ s∈ss,¬Full s w)\/
 (v= -2/\w≠[]/\∀ s∈ss,¬No s w)
section
variable {ss:List Nb}{B7:List Al}{C:List (List Int)}(Ba:Xb ss)(I7:Gf ss)(W:Dm ss B7 C)(hl:C.length=B7.length)
include Ba I7 W hl
theorem mB:∀ (m:Nat)(w:List Nat),w.length=m->Bytes w->J2 ss B7 w (runT C 0 w)
 |0,w,hm,_=>by
  have:w=[]:=qaa hm;subst this;refine .inr (.inl ⟨Lac _,⟨_,W.first,rfl,fun i=> ?_⟩,.inl rfl,?_⟩)
  ·rw[gO Ba.len i,decide_eq_true_iff]
   constructor
   ·intro h;exact⟨ss[i],aaa h,kX _⟩
   ·rintro⟨s,h,_⟩;exact (iaa.1 h).1
  ·intro s hs hf
   have:=(Ba.dt s hs).lo
   have:=hf.2
   simp at this;omega
 |m+1,w,hm,hb=>by
  obtain⟨u,x,rfl⟩:∃ u x,w=u++[x]:=by
   rcases Uad w with rfl | ⟨u,x,rfl⟩
   ·simp at hm
   ·exact⟨u,x,Vad⟩
  have hum:u.length=m:=by simpa using hm
  have hbu:Bytes u:=fun y hy=>hb y (by simp[hy]);have hx:x < 256:=hb x (by simp);have ih:=mB m u hum hbu;rw[FJ];have J7:u++[x]≠[]:=by simp
  have hlen:(u++[x]).length=u.length+1:=by simp
  rcases ih with⟨hv,s,hs,hf⟩ | ⟨hv,⟨a,ha,hd⟩,h1,h2⟩ | ⟨hv,_,h1⟩
  ·rw[hv,if_pos (by decide)]
   refine .inr (.inr ⟨rfl,J7,fun q hq hmq=> ?_⟩)
   have h1:=fN hmq;have h2:=aO hmq;exact GK Ba I7 hs hq hbu hf h1 (by rw[<- hf.2];omega)
  ·rw[kaa (by omega)]
   have hk:=(iaa.1 ha).1
   rcases W.step _ a (by omega) ha x hx with⟨q1,q2⟩ | ⟨q1,q2,q3⟩ | ⟨q1,q2,k',m',q3,q4,q5⟩
   ·rw[q2]
    refine .inr (.inr ⟨rfl,J7,fun s hs hms=> ?_⟩)
    rw[(hd.u2 x).2 ⟨s,hs,hms⟩] at q1;cases q1
   ·rw[q3]
    exact .inl ⟨rfl,(hd.JV x).1 q2⟩
   ·rw[q3]
    have hnf:∀ s∈ss,¬Full s (u++[x]):=fun s hs hf=>by rw[(hd.JV x).2 ⟨s,hs,hf⟩] at q2;cases q2
    refine .inr (.inl ⟨Int.natCast_nonneg _,⟨_,by rw[Daa];exact q5,?_,?_⟩,?_,hnf⟩)
    ·rw[hlen,<-hd.1]
    ·intro i
     show (m':Int).toNat.testBit i=true↔_
     rw[Daa,q4.bit,hd.on]
    ·obtain⟨s,hs,hms⟩:=(hd.u2 x).1 q1
     refine .inr ⟨s,hs,hms,?_⟩
     have:=aO hms;have:=hnf s hs;rcases Qaa (u++[x]).length s.parts.length with h | h
     ·exact h
     ·exact absurd ⟨hms,by omega⟩ this
  ·rw[hv,if_pos (by decide)]
   exact .inr (.inr ⟨rfl,J7,fun s hs hms=>h1 s hs (fN hms)⟩)
end
section
variable {ss:List Nb}{B7:List Al}{C:List (List Int)}(W:Dm ss B7 C)(hl:C.length=B7.length)
include W hl
theorem Dm.ZO{k:Nat}(hk:k < C.length):0<=cls C k:=((W.NA hl).mq hk).1
theorem Dm.iO:∀ (w:List Nat)(i j:Nat),Bytes w->i < C.length->j < C.length->cls C i=cls C j->(runT C i w= -1↔runT C j w= -1)
 | [],i,j,_,_,_,_=>by show ((i:Int)= -1↔(j:Int)= -1);constructor <;> intro h <;> omega
 |x::w,i,j,hb,hi,hj,h=>by
  have hx:x < 256:=hb x (by simp);have hbw:Bytes w:=fun y hy=>hb y (by simp[hy]);have hn:=(W.fL hl hi hj).1 h x hx
  have b1:=W.bound hl hi hx
  have b2:=W.bound hl hj hx
  rw[runT,runT,kaa (by omega),kaa (by omega),Daa,Daa];unfold Ss at hn
  by_cases h1:0<=ch C i x
  ·by_cases h2:0<=ch C j x
   ·rw[if_pos h1,if_pos h2] at hn
    have:=Dm.iO w (ch C i x).toNat (ch C j x).toNat hbw (by omega) (by omega) hn
    rw[sac h1,sac h2] at this;exact this
   ·rw[if_pos h1,kaa h2] at hn
    have:=W.ZO hl (k:=(ch C i x).toNat) (by omega)
    omega
  ·by_cases h2:0<=ch C j x
   ·rw[kaa h1,if_pos h2] at hn
    have:=W.ZO hl (k:=(ch C j x).toNat) (by omega)
    omega
   ·rw[kaa h1,kaa h2] at hn
    rw[hn]
theorem Dm.path:∀ (m k:Nat),k<=m->k < C.length->∃ w,Bytes w/\runT C 0 w=(k:Int)
 |0,k,hm,hk=>by
  have:k=0:=by omega
  subst this;exact⟨[],by simp[Bytes],rfl⟩
 |m+1,k,hm,hk=>by
  rcases Sac k with rfl | h0
  ·exact⟨[],by simp[Bytes],rfl⟩
  ·obtain⟨j,x,hj,hjC,hx,hn⟩:=W.reach k h0 (by omega)
   obtain⟨w,hw,hr⟩:=Dm.path m j (by omega) hjC
   refine⟨w++[x],?_,?_⟩
   ·intro y hy
    rcases Jaa.1 hy with h | h
    ·exact hw y h
    ·simp at h;subst h;exact hx
   ·rw[FJ,hr,kaa (by omega),Daa,hn]
end
theorem mem_some{l:List (Int×Int)}(h:Ad l):∃ x,x < 256/\mj l x=true:=by
 obtain⟨p,hp⟩:=List.exists_mem_of_ne_nil _ h.1
 have h1:=Jo h.2 p hp
 refine⟨p.1.toNat,by omega,?_⟩;rw[mj,h.2,oab,Yw,sac h1.1];exact⟨p,hp,Lac _,h1.2.1⟩
theorem VU{s:Nb}(h:∀ l∈s.parts,Ad l):∃ w,Bytes w/\Full s w:=by
 have key:∀ (ls:List (List (Int×Int))),(∀ l∈ls,Ad l)->∃ w:List Nat,w.length=ls.length/\(∀ x∈w,x < 256)/\∀ (j x:Nat),w[j]? =some x->∃ l,ls[j]? =some l/\mj l x=true:=by
  intro ls
  induction ls with
  |nil=>exact fun _=>⟨[],rfl,by simp,by simp⟩
  |cons l ls ih=>
   intro h;obtain⟨x,hx,hm⟩:=mem_some (h l (by simp));obtain⟨w,h1,h2,h3⟩:=ih fun l' Z8=>h l' (by simp[Z8]);refine⟨x::w,by simp[h1],?_,?_⟩
   ·intro y hy
    rcases Xaa.1 hy with rfl | hy
    ·exact hx
    ·exact h2 y hy
   ·intro j y hj
    cases j with
    |zero=>simp at hj;subst hj;exact⟨l,rfl,hm⟩
    |succ j=>simp at hj;exact h3 j y hj
 obtain⟨w,h1,h2,h3⟩:=key s.parts h
 refine⟨w,h2,?_,h1⟩;intro j x hj;obtain⟨l,h4,h5⟩:=h3 j x hj;unfold Io;rw[h4];exact h5
theorem jZ{ss:List Nb}(h:ss≠[]):∃ s∈ss,∀ q∈ss,q.parts.length<=s.parts.length:=by
 induction ss with
 |nil=>exact absurd rfl h
 |cons a ss ih=>
  by_cases hs:ss=[]
  ·subst hs;exact⟨a,by simp,by simp⟩
  ·obtain⟨s,h1,h2⟩:=ih hs
   rcases Qaa a.parts.length s.parts.length with h3 | h3
   ·refine⟨s,by simp[h1],fun q hq=> ?_⟩
    rcases Xaa.1 hq with rfl | hq
    ·omega
    ·exact h2 q hq
   ·refine⟨a,by simp,fun q hq=> ?_⟩
    rcases Xaa.1 hq with rfl | hq
    ·exact paa _
    ·exact mac (h2 q hq) h3
theorem Dm.WD{ss:List Nb}{B7:List Al}{C:List (List Int)}(Ba:Xb ss)(I7:Gf ss)(W:Dm ss B7 C)(hl:C.length=B7.length){k:Nat}(h0:0 < k)(hk:k < C.length):cls C 0≠cls C k:=by
 intro he;obtain⟨w,hw,hr⟩:=W.path hl k k (paa _) hk
 have uai:w≠[]:=by rintro rfl;have:(0:Int)=(k:Int):=hr;omega
 have J7:ss≠[]:=by
  rintro rfl;rcases mB Ba I7 W hl _ w rfl hw with⟨h1,_⟩ | ⟨_,_,h1,_⟩ | ⟨h1,_⟩
  ·omega
  ·rcases h1 with h1 | ⟨s,hs,_⟩
   ·exact uai h1
   ·cases hs
  ·omega
 obtain⟨s,hs,bae⟩:=jZ J7;obtain⟨u,hu,hf⟩:=VU (Ba.dt s hs).parts
 have h1:runT C 0 u= -1:=by
  rcases mB Ba I7 W hl _ u rfl hu with⟨h1,_⟩ | ⟨_,_,_,h1⟩ | ⟨_,_,h1⟩
  ·exact h1
  ·exact absurd hf (h1 s hs)
  ·exact absurd hf.1 (h1 s hs)
 have h2:runT C k u= -1:=(W.iO hl u 0 k hu (by omega) hk he).1 h1
 have h3:runT C 0 (w++u)= -1:=by rw[lG,hr];exact h2
 have hb:Bytes (w++u):=by
  intro y hy;rcases Jaa.1 hy with h | h
  ·exact hw y h
  ·exact hu y h
 rcases mB Ba I7 W hl _ (w++u) rfl hb with⟨_,q,hq,hfq⟩ | ⟨h4,_⟩ | ⟨h4,_⟩
 ·have h5:=bae q hq
  have h6:=hfq.2
  have h7:=hf.2
  have h8:0 < w.length:=by
   cases w with
   |nil=>exact absurd rfl uai
   |cons=>simp
  rw[raa] at h6;omega
 ·omega
 ·omega
attribute [local irreducible] qd
abbrev D4(v:PV)(n i:Int):Tr:=(((Tr.lf.set 5 (.pv (i64 i))).set 4 (.own 0 i.toNat)).set 3 (.pv (i64 n))).set 0 (.pv v)
def Ho(n i:Nat):List AV:=(List.range i).map fun k=> .own (2 * k+1) n
theorem VP(n i:Nat):(Ho n i).length=i:=by rw[Ho,haa,eac]
theorem GN(n i:Nat):Ho n (i+1)=Ho n i++[.own (2 * i+1) n]:=by
 rw[Ho,gad,jac];rfl
theorem VO{n i m:Nat}(h:2 * i+1<=m)(fl:Nat)(nl:Bool):qa m (.seq 1 false (Ho n i) fl nl)=some (.seq 1 false (Ho n i) fl nl):=by
 have:(Ho n i).all (AV.je m deep)=true:=by
  rw[Taa];intro v hv;obtain⟨k,hk,rfl⟩:=fab.1 hv
  have:k < i:=by simpa using hk
  show decide (2 * k+1 < m)=true;exact decide_eq_true (by omega)
 simp[qa,this]
structure sI(H:List ba)(n i:Nat):Prop where
 len:H.length=2 * i+1
 hd:∃ nl,H[0]? =some (.seq 1 false (Ho n i) 0 nl)/\(nl=true->i=0)
 row:∀ k,k < i->H[2 * k+1]? =some (ED n (fun _=>false) 0)
 dw:Wd H
theorem sI.step{H:List ba}{n i:Nat}(h:sI H n i)(Y:ba)(hY:Y= .seq 1 false [.own (2 * i+1) n] 0 false):
 sI ((H++[ED n (fun _=>false) 0]++[Y]).set 0 (.seq 1 false (Ho n (i+1)) 0 false)) n (i+1):=by
 have hl:=h.len
 refine⟨by simp[hl];omega,⟨false,?_,fun h=>by cases h⟩,?_,?_⟩
 ·rw[Maa (by simp)]
 ·intro k hk
  rw[Gaa (by omega)];rcases Qaa k i with h1 | h1
  ·rw[eaa (by simp;omega),eaa (by omega)]
   exact h.row k h1
  ·have:k=i:=by omega
   subst this;rw[eaa (by simp;omega),Kaa (by omega),hl,ead];rfl
 ·intro m hm o ho
  simp only[qac,raa,dad,hl] at hm;rcases Aab ho with h1 | h1
  ·rw[Jaa,Jaa,Hab,Hab] at h1
   rcases h1 with (h1 | h1) | h1
   ·exact h.dw m (by omega) o h1
   ·subst h1;exact qM _ _ _ _
   ·subst h1 hY
    have:([AV.own (2 * i+1) n]).all (AV.je m deep)=true:=by show (decide (2 * i+1 < m)&&true)=true;rw[decide_eq_true (by omega)];rfl
    simp[qa,this]
  ·subst h1;exact VO (by omega) _ _
theorem qQ(n:Nat):Ql [.bool false] n=(fg n fun _=>false).map AV.pv:=by
 have:∀ n,Ql [.bool false] n=List.replicate n (.pv (.bool false)):=by
  intro n
  induction n with
  |zero=>rfl
  |succ n ih=>rw[Ql,ih];rfl
 rw[this,<-FF,kad]
theorem ZX(call:Sa)(v:PV)(n:Nat)(hn:n<=64):
 qd (fun r=>∃ E H,r=(.exit 0,⟨E,H⟩)/\sI H n n/\E.get 0= .pv v/\E.get 3= .pv (i64 n)/\E.get 4= .own 0 n)
  (ab (ma (oa call Cf) (fun s=>some (tidy [0,3,4,5] s))) ua ⟨D4 v n 0,[.seq 1 false [] 0 true]⟩):=by
 refine wa (Fb (g:=ma (oa call Cf) (fun s=>some (tidy [0,3,4,5] s)))
  (fun i t=>∃ H,t=⟨D4 v n i,H⟩/\sI H n i)
  n (by unfold ua;omega) _ ⟨_,rfl,⟨rfl,⟨true,rfl,fun _=>rfl⟩,fun k h=>by omega,?_⟩⟩ ?_ ?_) (fun r h=>h.2)
 ·intro m hm o ho
  rw[Hab] at ho;subst ho;rfl
 ·rintro i t hi ⟨H,rfl,hM⟩
  have e1:decide ((i:Int) < (n:Int))=true:=Ea (by omega);have t2:IntKind.i64.wrap ((i:Int)+1)=((i+1:Nat):Int):=Aa (by omega)
  have ti:((i:Int)).toNat=i:=by simp
  have ti1:(((i+1:Nat):Int)).toNat=i+1:=by simp
  have tn:((n:Int)).toNat=n:=by simp
  have xag:=qQ n;have hl:=hM.len
  have hc:((0:Int)<=(n:Int)/\(n:Int)<=(n:Int)/\eb n 1)=True:=Iaa ⟨by omega,by omega,by unfold eb;omega⟩;have hl1:(H++[ba.seq 1 false ((fg n fun _=>false).map AV.pv) 0 false]).length=2 * i+2:=by simp[hl]
  obtain⟨nl,hd,j8⟩:=hM.hd
  have B8:=hM.step _ rfl
  have s8:Cb (H++[ba.seq 1 false ((fg n fun _=>false).map AV.pv) 0 false]++[ba.seq 1 false [AV.own (2 * i+1) n] 0 false]) true .own 1 false 24 (.own 0 i) (.own (2 * i+2) 1)=
   some (.own 0 (i+1),(H++[ba.seq 1 false ((fg n fun _=>false).map AV.pv) 0 false]++[ba.seq 1 false [AV.own (2 * i+1) n] 0 false]).set 0 (.seq 1 false (Ho n (i+1)) 0 false)):=by
   have g0:(H++[ba.seq 1 false ((fg n fun _=>false).map AV.pv) 0 false]++[ba.seq 1 false [AV.own (2 * i+1) n] 0 false])[0]? =some (.seq 1 false (Ho n i) 0 nl):=by rw[eaa (by simp),eaa (by omega)];exact hd
   have g1:(H++[ba.seq 1 false ((fg n fun _=>false).map AV.pv) 0 false]++[ba.seq 1 false [AV.own (2 * i+1) n] 0 false])[2 * i+2]? =some (ba.seq 1 false [AV.own (2 * i+1) n] 0 false):=by rw[Kaa (by rw[hl1];exact paa _),hl1,ead];rfl
   simp only[Cb,if_true,g0,wk,g1,dad];rw[if_pos ⟨trivial,trivial⟩];simp only[yaa];rw[if_pos ⟨trivial,by rw[VP];omega,by unfold eb;omega,rfl⟩,GN];simp
  have Q8:LN (fun i t=>∃ H,t=⟨D4 v n i,H⟩/\sI H n i) (fun r=>∃ E H,r=(.exit 0,⟨E,H⟩)/\sI H n n/\E.get 0= .pv v/\E.get 3= .pv (i64 n)/\E.get 4= .own 0 n) i
   (.norm,⟨D4 v n (i+1:Nat),(H++[ba.seq 1 false ((fg n fun _=>false).map AV.pv) 0 false]++[ba.seq 1 false [AV.own (2 * i+1) n] 0 false]).set 0 (.seq 1 false (Ho n (i+1)) 0 false)⟩):=⟨_,rfl,B8⟩
  generalize LN _ _ i=QQ at Q8 ⊢;generalize Ho n (i+1)=ow at *;simp -implicitDefEqProofs only[SP,WP,fa,sevalprocAttr,-List.reduceReplicate,Cf,e1,t2,ti,ti1,tn,hc,xag,hl,hl1,s8,tidy,Ic,D4];simp only[D4,ti1] at Q8;exact Q8
 ·rintro t ⟨H,rfl,hM⟩
  have e1:decide ((n:Int) < (n:Int))=false:=Ga (by omega);have tn:((n:Int)).toNat=n:=by simp
  have R7:∀ E,E.get 0= .pv v->E.get 3= .pv (i64 n)->E.get 4= .own 0 n->(Ex.exit 0,(⟨E,H⟩:St)).1.stop=true/\∃ E' H',(Ex.exit 0,(⟨E,H⟩:St))=(.exit 0,⟨E',H'⟩)/\sI H' n n/\E'.get 0= .pv v/\E'.get 3= .pv (i64 n)/\E'.get 4= .own 0 n:=fun E k0 k3 k4=>⟨rfl,E,H,rfl,hM,k0,k3,k4⟩
  generalize hQ:(fun r:Ex×St=>r.1.stop=true/\_)=Q;simp -implicitDefEqProofs only[SX,sevalprocAttr,-List.reduceReplicate,Cf,e1,tn,D4];subst hQ;exact R7 _ (by simp[Tr.aa]) (by simp[Tr.aa]) (by simp[Tr.aa])
theorem CP:∀ l:List PV,chunk 1 false l.length l=l
 | []=>rfl
 |a::l=>by simp only[Oaa,chunk,saa,if_false,List.headD_cons,Wac,xac,CP l]
theorem TN{α β γ:Type}(f:β->Option γ)(g:α->β)(k:α->γ):∀ (l:List α),(∀ a∈l,f (g a)=some (k a))->Ra f (l.map g)=some (l.map k)
 | [],_=>rfl
 |a::l,h=>by rw[lab,Ra,h a (by simp),TN f g k l (fun x hx=>h x (by simp[hx]))];rfl
def Qk(n:Nat)(f:Nat->Nat->Bool):PV:= .lit 1 ((List.range n).map fun i=> .lit 1 (fg n (f i)))
theorem zt.Sb{H:List ba}{n:Nat}{f:Nat->Nat->Bool}(h:zt H n f):Go.AM.Sb H 6 (.own 0 n)=some (Qk n f):=by
 obtain⟨nl,j8,h0⟩:=h.hd
 subst j8;have K7:∀ k∈List.range n,Go.AM.Sb H 5 (.own (2 * k+1) n)=some (.lit 1 (fg n (f k))):=by
  intro k hk;obtain⟨fl,hf,h1⟩:=h.row k (by simpa using hk)
  simp only[Go.AM.Sb,h1,ED];rw[if_pos ⟨by rw[haa,lh];omega,rfl⟩,bF];simp only[saa,if_false,Haa];have:=CP (fg n (f k));rw[lh] at this;rw[this]
 simp only[Go.AM.Sb,h0];rw[if_pos ⟨by rw[yG];omega,rfl⟩,owns,TN _ _ _ _ K7];simp only[saa,if_false,Haa,Qk];have:=CP ((List.range n).map fun i=>PV.lit 1 (fg n (f i)));rw[haa,eac] at this;rw[this]
theorem sI.x7{H:List ba}{n:Nat}(h:sI H n n)(hn:0 < n):zt H n fun _ _=>false:=by
 obtain⟨nl,h1,h2⟩:=h.hd
 refine⟨h.len,⟨nl,?_,h1⟩,fun k hk=>⟨0,by omega,h.row k hk⟩,h.dw⟩;cases nl with
 |false=>rfl
 |true=>have:=h2 rfl;omega
theorem sU{C:List (List Int)}(hC:VL C)(hn:0 < C.length){D:Nat->Nat->Prop}(hD:zM C D):
 ∃ f,nA C D f false/\Fg [.lit 256 (C.map Xi)]=some (Qk C.length f):=by
 have y9:=ZX (Da (fun _=>none) 8) (.lit 256 (C.map Xi)) C.length hC.sz
 have ln:Tb [] 0 (.pv (.lit 256 (C.map Xi)))=some C.length:=by simp[Tb]
 have tn:((C.length:Int)).toNat=C.length:=by simp
 have g1:(0 < 1)=True:=by simp
 have hz:(0 < 2 * C.length+1)=True:=by simp
 have key:qd (fun r=>∃ f,nA C D f false/\r=Qk C.length f) (Fg [.lit 256 (C.map Xi)]):=by
  have hl1:=fun {H}(hM:zt H C.length fun _ _=>false)=>YV (Da (fun _=>none) 8) hC hD hM ⟨fun a b h=>(by cases h),fun a b=>rfl,fun h=>(by cases h)⟩;generalize Q7:(fun r:PV=>_)=QQ;generalize (PV.lit 256 (C.map Xi))=L at *;simp -implicitDefEqProofs only[Fg,SP,WP,fa,sevalprocAttr,-List.reduceReplicate,rk,ln,fe,g1,Er,Db,tidy,Ic];refine wa y9 ?_;rintro r ⟨E,H,rfl,hM,k0,k3,k4⟩;have hM2:=hM.x7 hn
  have C7:=hM2.cut
  have hlen:=hM2.len
  have vai:=hl1 hM2;simp -implicitDefEqProofs only[SP,WP,fa,sevalprocAttr,-List.reduceReplicate,Db,k0,k3,k4,hlen,C7,hz,na,Ca,AV.cut,za];simp only[FZ,tn] at vai;refine wa vai ?_;rintro r ⟨E,H,f,rfl,hM3,hK,k4⟩;have hpv:=hM3.Sb
  simp -implicitDefEqProofs only[SP,WP,fa,sevalprocAttr,-List.reduceReplicate,k4,hpv];subst Q7;exact⟨f,hK,rfl⟩
 obtain⟨r,h1,f,hK,rfl⟩:=wc key;exact⟨f,hK,h1⟩
open Go.AM
def eE:Ja:=(jQ [Cv 92 13,jn 93 0 92,jK 94 .gtr 93 0,Cv 95 94,jT 96 95 (.km 13),jT 97 95 (.km 13),jT 98 95 (.kn 0 97),jT 99 95 (.kK .sub 98 1),jT 100 95 (.ki 3 96 99),jT 101 95 (.kf 2 100),jT 102 95 (.kl 1 101),jT 103 95 (.km 15),jT 104 95 (.kB .eql 102 103),ja 105 95 104,Cv 106 105,jT 107 106 (.km 13),jT 108 106 (.km 13),jT 109 106 (.kn 0 108),jT 110 106 (.kK .sub 109 1),jT 111 106 (.ki 3 107 110),jT 112 106 (.kf 1 111),jT 113 106 (.kl 1 112),jT 114 106 (.km 14),jT 115 106 (.kK .sub 114 1),jT 116 106 (.kB .eql 113 115),ja 117 106 116] (jC 117 (.region [Cv 118 13,Cv 119 13,jn 120 0 119,jK 121 .sub 120 1,Cv 122 14,ji 123 3 118 121,jf 124 1 123,jS 1 124 122]) (.region [Cv 125 13,Cv 126 14,Cv 127 14,Cv 128 15,Co 129 (.build [(.int .i64 0),(.int .i64 0),(.int .i64 0)] [(0,1,(.t 126)),(1,1,(.t 127)),(2,1,(.t 128))]),Co 130 (.xb .lit 3 true 1 [(.int .i64 0),(.int .i64 0),(.int .i64 0)] [(0,(.t 129))]),Co 131 (.append true .own 3 true 24 (.t 125) (.t 130)),Cv 13 131])))
def OR:Ja:=(jQ [Cv 63 15,jK 64 .geq 63 0] (jC 64 (jQ [jk 16 0] (.seq (.block 4 (.loop [2,7,9,10,11,12,13,14,15,16] bd)) (.seq (jQ [Cv 83 16,Cv 84 10,jn 85 0 84,jB 86 .eql 83 85] (jC 86 (.region [Cv 87 10,Cv 88 15,Co 89 (.xb .lit 1 false 1 [(.int .i64 0)] [(0,(.t 88))]),Co 90 (.ku 1 false 8 87 89),Cv 10 90]) .skip)) (.region [Cv 91 16,Cv 15 91])))) .skip))
theorem Iy:Hf=
 (.seq (.seq (.region [⟨(some 48),.move (.t 14),none,false⟩,
 ⟨(some 49),.bin .lss (.t 48) (.c (.int .i64 256)),none,false⟩])
 (.cond (.t 49) (.skip) (.exit 2)))
 (.seq (.block 3 (.seq (.region [⟨(some 52),.move (.t 7),none,false⟩,
  ⟨(some 53),.move (.t 10),none,false⟩,
  ⟨(some 54),.move (.t 12),none,false⟩,
  ⟨(some 55),.Pd 1 (.t 53) (.t 54),none,false⟩,
  ⟨(some 56),.load false 1 (.t 55),none,false⟩,
  ⟨(some 57),.move (.t 14),none,false⟩,
  ⟨(some 58),.Pd 256 (.t 52) (.t 56),none,false⟩,
  ⟨(some 59),.ay 256 1 (.t 58) (.t 57),none,false⟩,
  ⟨(some 60),.load false 1 (.t 59),none,false⟩,
  ⟨(some 15),.move (.t 60),none,false⟩])
  (.seq (.seq (.region [⟨(some 61),.move (.t 15),none,false⟩,
   ⟨(some 62),.bin .eql (.t 61) (.c (.int .i64 (-2))),none,false⟩])
  (.cond (.t 62) (.exit 3) (.skip)))
  (.seq OR
  eE))))
 (.region [⟨(some 50),.move (.t 14),none,false⟩,
  ⟨(some 51),.bin .add (.t 50) (.c (.int .i64 1)),none,false⟩,
  ⟨(some 14),.move (.t 51),none,false⟩]))):=rfl
attribute [local irreducible] qd
abbrev Ht(l:List ae)(fl:Nat):ba:= .seq 3 true (La (yd l)) fl l.isEmpty
section
variable (call:Sa)(E:Tr)(o0 o1 o2 o3:ba)(x:Nat)(to:Int)(g14:E.get 14= .pv (i64 x))(g15:E.get 15= .pv (i64 to))(hx:x < 256)(E8:to≠ -2)
include g14 g15 hx E8
omit hx E8 in
theorem KO(nl:Bool)(g13:E.get 13= .own 4 0):
 qd (fun r=>∃ E',r=(.norm,⟨E',[o0,o1,o2,o3,Ht [⟨x,x,to⟩] 0]⟩)/\E'.get 13= .own 4 1/\E'.get 2=E.get 2/\E'.get 7=E.get 7/\E'.get 9=E.get 9/\E'.get 10=E.get 10/\E'.get 11=E.get 11/\E'.get 12=E.get 12/\E'.get 14=E.get 14)
  (oa call eE ⟨E,[o0,o1,o2,o3,.seq 3 true [] 0 nl]⟩):=by
 have ln:Tb [o0,o1,o2,o3,.seq 3 true [] 0 nl] 0 (.own 4 0)=some 0:=by simp only[Tb,eab,dab];rfl
 have s8:Cb [o0,o1,o2,o3,.seq 3 true [] 0 nl] true .own 3 true 24 (.own 4 0) (.pv (.lit 3 [.agg [i64 x,i64 x,i64 to]]))=some (.own 4 1,[o0,o1,o2,o3,Ht [⟨x,x,to⟩] 0]):=by simp only[Cb,if_true,eab,dab,wk,Lf,Haa,yaa];rw[if_pos ⟨trivial,rfl,by unfold eb;simp,rfl⟩];simp[Ht,yd,La,flat,PV.cells]
 generalize Q7:(fun r:Ex×St=>_)=QQ;generalize hO:Ht [⟨x,x,to⟩] 0=O at *;simp -implicitDefEqProofs only[SP,WP,fa,sevalprocAttr,eE,g13,g14,g15,ln,s8,jj,AV.VE,AV.Lq];subst Q7;refine⟨_,rfl,?_,?_,?_,?_,?_,?_,?_,?_⟩ <;> simp[Tr.aa]
variable (l:List ae)(e:ae)(hl:l.length < 256)(fl:Nat)(w8:fl<=(l.length+1) * 3)(g13:E.get 13= .own 4 (l.length+1))
include hl w8 g13
theorem oP:
 qd (fun r=>∃ E' x8,x8<=(ng x to (l++[e])).length * 3/\r=(.norm,⟨E',[o0,o1,o2,o3,Ht (ng x to (l++[e])) x8]⟩)/\E'.get 13= .own 4 (ng x to (l++[e])).length/\E'.get 2=E.get 2/\E'.get 7=E.get 7/\E'.get 9=E.get 9/\E'.get 10=E.get 10/\E'.get 11=E.get 11/\E'.get 12=E.get 12/\E'.get 14=E.get 14)
  (oa call eE ⟨E,[o0,o1,o2,o3,.seq 3 true (La (yd l++[e.lo,e.hi,e.to])) fl false]⟩):=by
 have e3:decide (((l.length+1:Nat):Int) > 0)=true:=Ea (by omega);have t3:IntKind.i64.wrap (((l.length+1:Nat):Int) - 1)=(l.length:Int):=by rw[Aa (by omega)];omega
 have t4:((l.length:Int)).toNat=l.length:=by simp
 have t5:IntKind.i64.wrap ((x:Int) - 1)=(x:Int) - 1:=Aa (by omega)
 have hlen:∀ h,(La (yd l++[e.lo,h,e.to])).length=(l.length+1) * 3:=fun h=>by rw[mb,raa,Sk];simp;omega
 have ln:Tb [o0,o1,o2,o3,.seq 3 true (La (yd l++[e.lo,e.hi,e.to])) fl false] 0 (.own 4 (l.length+1))=some (l.length+1):=by simp only[Tb,eab,dab];rw[if_pos];rw[hlen];unfold Ui;omega
 have i1:ta [o0,o1,o2,o3,.seq 3 true (La (yd l++[e.lo,e.hi,e.to])) fl false] 3 (.own 4 (l.length+1)) (l.length:Int)=some (.Hc 4 ((l.length+1) * 3) (l.length * 3)):=by
  simp only[ta,eab,dab];rw[if_pos,t4];refine⟨trivial,?_,?_⟩
  ·unfold Ia;omega
  ·rw[hlen];unfold Ui;omega
 have pl:∀ d,place [o0,o1,o2,o3,.seq 3 true (La (yd l++[e.lo,e.hi,e.to])) fl false] d (.Hc 4 ((l.length+1) * 3) (l.length * 3))=some (.Hc 4 ((l.length+1) * 3) (l.length * 3+d)):=by intro d;simp only[place,eab,dab];rw[if_pos (hlen _)]
 have ld:∀ k,k < 3->pa [o0,o1,o2,o3,.seq 3 true (La (yd l++[e.lo,e.hi,e.to])) fl false] false 1 (.Hc 4 ((l.length+1) * 3) (l.length * 3+k))=some (.pv (i64 (if k=0 then e.lo else if k=1 then e.hi else e.to))):=by intro k hk;simp only[pa,eab,dab];rw[if_pos (hlen _)];have:=LH (yd l) e k hk;rw[Sk] at this;simp only[Kh,saa,if_false,this]
 have l1:=ld 1 (by omega);have l2:=ld 2 (by omega);simp only[if_true,Nat.one_ne_zero,if_false,show ¬(2=0) by omega,show ¬(2=1) by omega] at l1 l2;have Y7:Ha [o0,o1,o2,o3,.seq 3 true (La (yd l++[e.lo,e.hi,e.to])) fl false] 1 (.Hc 4 ((l.length+1) * 3) (l.length * 3+1)) (.pv (i64 x))=some [o0,o1,o2,o3,Ht (l++[⟨e.lo,x,e.to⟩]) ((l.length+1) * 3)]:=by
  have hc:(AV.pv (i64 x)).cells=[.pv (i64 x)]:=rfl
  simp only[Ha,eab,dab,hc];rw[if_pos ⟨rfl,rfl⟩,if_pos ⟨hlen _,by show l.length * 3+1+1<=(l.length+1) * 3;omega⟩,fa,fa,Wj];have:(yd l++[e.lo,e.hi,e.to]).set (l.length * 3+1) (x:Int)=yd (l++[⟨e.lo,x,e.to⟩]):=by rw[Xm,<-Sk,Jab _ _ (by omega),Hac];rfl
  rw[this];have he:(l++[(⟨e.lo,x,e.to⟩:ae)]).isEmpty=false:=by cases l <;> rfl
  simp only[Ht,he,Mac,fac]
 have s8:Cb [o0,o1,o2,o3,.seq 3 true (La (yd l++[e.lo,e.hi,e.to])) fl false] true .own 3 true 24 (.own 4 (l.length+1)) (.pv (.lit 3 [.agg [i64 x,i64 x,i64 to]]))=some (.own 4 (l.length+1+1),[o0,o1,o2,o3,Ht (l++[e]++[⟨x,x,to⟩]) fl]):=by
  simp only[Cb,if_true,eab,dab,wk,Lf,Haa,yaa];rw[if_pos ⟨trivial,(hlen _).symm,by unfold eb;simp;omega,rfl⟩];have he:(l++[e]++[(⟨x,x,to⟩:ae)]).isEmpty=false:=by cases l <;> rfl
  simp only[Ht,he,Xm,IG,Mac,fac];rfl
 have hR:∀ l' x8,ng x to (l++[e])=l'->x8<=l'.length * 3->∀ E',E'.get 13= .own 4 l'.length->E'.get 2=E.get 2->E'.get 7=E.get 7->E'.get 9=E.get 9->E'.get 10=E.get 10->E'.get 11=E.get 11->E'.get 12=E.get 12->E'.get 14=E.get 14->
  ∃ E'' wai,wai<=(ng x to (l++[e])).length * 3/\(Ex.norm,(⟨E',[o0,o1,o2,o3,Ht l' x8]⟩:St))=(.norm,⟨E'',[o0,o1,o2,o3,Ht (ng x to (l++[e])) wai]⟩)/\E''.get 13= .own 4 (ng x to (l++[e])).length/\E''.get 2=E.get 2/\E''.get 7=E.get 7/\E''.get 9=E.get 9/\E''.get 10=E.get 10/\E''.get 11=E.get 11/\E''.get 12=E.get 12/\E''.get 14=E.get 14:=by
  intro l' x8 h1 h2 E' k13 k2 k7 k9 K9 L9 k12 k14;subst h1;exact⟨E',x8,h2,rfl,k13,k2,k7,k9,K9,L9,k12,k14⟩
 have hlj:(l++[(⟨e.lo,x,e.to⟩:ae)]).length=l.length+1:=by simp
 have hlp:(l++[e]++[(⟨x,x,to⟩:ae)]).length=l.length+1+1:=by simp
 generalize Q7:(fun r:Ex×St=>_)=QQ
 by_cases h1:e.to=to
 ·have b1:(e.to==to)=true:=by simp[h1]
  by_cases h2:e.hi=(x:Int) - 1
  ·have b2:(e.hi==(x:Int) - 1)=true:=by simp[h2]
   have hj:ng x to (l++[e])=l++[⟨e.lo,x,e.to⟩]:=by rw[<- h1];exact VA (by rw[h1];exact E8) h2
   generalize ba.seq 3 true (La (yd l++[e.lo,e.hi,e.to])) fl false=oE at *
   generalize hO:Ht (l++[⟨e.lo,x,e.to⟩]) ((l.length+1) * 3)=O at *;simp -implicitDefEqProofs only[SP,WP,fa,sevalprocAttr,eE,g13,g14,g15,ln,e3,t3,t5,i1,pl,l1,l2,b1,b2,Y7,jj,AV.VE,AV.Lq];subst Q7 hO;refine hR _ _ hj (by rw[hlj];exact paa _) _ ?_ ?_ ?_ ?_ ?_ ?_ ?_ ?_
   ·rw[hlj];simp only[Tr.aa];exact g13
   all_goals simp[Tr.aa]
  ·have b2:(e.hi==(x:Int) - 1)=false:=lj h2
   have hj:=Dw (l:=l) (x:=(x:Int)) (e:=e) E8 (fun h=>h2 h.2);generalize ba.seq 3 true (La (yd l++[e.lo,e.hi,e.to])) fl false=oE at *
   generalize hO:Ht (l++[e]++[⟨x,x,to⟩]) fl=O at *;simp -implicitDefEqProofs only[SP,WP,fa,sevalprocAttr,eE,g13,g14,g15,ln,e3,t3,t5,i1,pl,l1,l2,b1,b2,s8,jj,AV.VE,AV.Lq];subst Q7 hO;exact hR _ _ hj (by rw[hlp];omega) _ (by rw[hlp];simp[Tr.aa]) (by simp[Tr.aa]) (by simp[Tr.aa]) (by simp[Tr.aa]) (by simp[Tr.aa]) (by simp[Tr.aa]) (by simp[Tr.aa]) (by simp[Tr.aa])
 ·have b1:(e.to==to)=false:=lj h1
  have hj:=Dw (l:=l) (x:=(x:Int)) (e:=e) E8 (fun h=>h1 h.1);generalize ba.seq 3 true (La (yd l++[e.lo,e.hi,e.to])) fl false=oE at *
  generalize hO:Ht (l++[e]++[⟨x,x,to⟩]) fl=O at *;simp -implicitDefEqProofs only[SP,WP,fa,sevalprocAttr,eE,g13,g14,g15,ln,e3,t3,t5,i1,pl,l1,l2,b1,s8,jj,AV.VE,AV.Lq];subst Q7 hO;exact hR _ _ hj (by rw[hlp];omega) _ (by rw[hlp];simp[Tr.aa]) (by simp[Tr.aa]) (by simp[Tr.aa]) (by simp[Tr.aa]) (by simp[Tr.aa]) (by simp[Tr.aa]) (by simp[Tr.aa]) (by simp[Tr.aa])
end
end Go.AM.B1
