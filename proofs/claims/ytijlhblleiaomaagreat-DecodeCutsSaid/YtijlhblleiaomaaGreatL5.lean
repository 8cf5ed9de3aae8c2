/- What functions of the program compute. -/
import Derived.Test.YtijlhblleiaomaaGreatL4
set_option linter.unusedVariables false
set_option linter.unusedSimpArgs false
namespace Go.AM.B1
open Go.AM Go.AM.So
theorem raa{p q:ya}(hp:Yd p)(hq:Yd q):pk p q↔¬(q.pa<=Ng p/\p.pa<=Ng q):=by
 have h1:=hp.jg
 have h2:=hq.jg
 unfold pk;constructor
 ·intro h hn
  by_cases hle:p.pa<=q.pa
  ·exact h q.pa ⟨⟨hle,hn.1⟩,⟨Ll _,h2⟩⟩
  ·exact h p.pa ⟨⟨Ll _,h1⟩,⟨by omega,hn.2⟩⟩
 ·intro h x hx
  exact h ⟨by omega,by omega⟩
theorem xN{p:ya}(hp:Yd p):1<=Gg 1 p.ba/\Gg 1 p.ba<=1073741825:=YE p.ba 1 hp.ba (by omega) (by omega)
abbrev WD(S:PV)(i j:Int):Tr:=((Tr.lf.set 5 (.pv (aa j))).set 1 (.pv (aa i))).set 0 (.pv S)
theorem Hao{S:PV}{ss:List ya}{es:List PV}(hS:zd S ss es){i:Nat}(hi:i < ss.length)(ga:∀ j,j<=i->(h:j < ss.length)->Yd ss[j]):
 ∃ b,PF [S,aa i]=some (.bool b)/\(b=false↔∀ j,j < i->(h:j < ss.length)->pk ss[j] ss[i]):=by
 have ib:=hS.sz
 obtain⟨P,ps,hP,a0⟩:=hS.Nd hi
 have Nn:=ga i (gb _) hi;have ny:=kO hP Nn.ba
 have hbp:=xN Nn;have vd:=fun j (hj:j < i) (h:j < ss.length)=>raa (ga j (by omega) h) Nn;generalize ss[i]=p at *;have yc:Ia (fun r=>∃ E,(r=(.exit 0,⟨E,[]⟩)/\∀ j,j < i->(h:j < ss.length)->pk ss[j] p)\/(r=(.ret,⟨E,[]⟩)/\E.get 4= .pv (.bool true)/\∃ j,j < i/\∃ h:j < ss.length,¬pk ss[j] p))
  (Mb (Aa (ua (La (fun _=>none) 8) sA) (ta 0 [0,1,5])) Ga ⟨WD S i 0,[]⟩):=by
  refine Bb (We (g:=Aa (ua (La (fun _=>none) 8) sA) (ta 0 [0,1,5]))
   (fun j t=>t=⟨WD S i j,[]⟩/\∀ j',j' < j->(h:j' < ss.length)->pk ss[j'] p)
   i (by unfold Ga;unfold maxLen at ib;omega) _ ⟨rfl,by intro j h;omega⟩ ?_ ?_) (fun r h=>h.2)
  ·rintro j t hj ⟨rfl,hs⟩
   have al:j < ss.length:=by omega
   obtain⟨Q,qs,hQ,b0⟩:=hS.Nd al
   have Et:=ga j (by omega) al;have DS:=kO hQ Et.ba
   have hbq:=xN Et;have OM:=vd j hj al;have Th:pk ss[j] p->∀ j',j' < j+1->(h:j' < ss.length)->pk ss[j'] p:=by
    intro h j' h1 h2;rcases yd j' j with h3 | h3
    ·exact hs j' h3 h2
    ·have:j'=j:=by omega
     subst this;exact h
   have hex:¬pk ss[j] p->∃ j,j < i/\∃ h:j < ss.length,¬pk ss[j] p:=fun h=>⟨j,hj,al,h⟩
   have Yat:=Et.f0
   have Zat:=Et.f1
   have Wat:=Nn.f0
   have Xat:=Nn.f1
   unfold Ng at OM;generalize hq:ss[j]=q at *;generalize Gg 1 p.ba=np at *
   generalize Gg 1 q.ba=nq at *
   have e1:decide ((j:Int) < (i:Int))=true:=Qa (by omega);have t2:=ee hj (show i<=maxLen by omega);have t3:IntKind.i64.wrap (q.pa+nq)=q.pa+nq:=Gb (by omega)
   have t4:IntKind.i64.wrap (q.pa+nq - 1)=q.pa+nq - 1:=Gb (by omega)
   have t5:IntKind.i64.wrap (p.pa+np)=p.pa+np:=Gb (by omega)
   have t6:IntKind.i64.wrap (p.pa+np - 1)=p.pa+np - 1:=Gb (by omega)
   generalize ec:LN _ _ j=QQ
   by_cases c1:p.pa<=q.pa+nq - 1
   ·have d1:=Qa c1
    by_cases c2:q.pa<=p.pa+np - 1
    ·have d2:=Qa c2
     simp -implicitDefEqProofs only[SX,sevalprocAttr,sA,e1,a0,b0,Su,Jt,nm,ny,DS,t3,t4,t5,t6,d1,d2,WD];subst ec;exact⟨_,.inr ⟨rfl,by simp[Tr.na],hex (fun h=>(OM.1 h) ⟨c1,c2⟩)⟩⟩
    ·have d2:=Ra c2
     simp -implicitDefEqProofs only[SX,sevalprocAttr,sA,e1,a0,b0,Su,Jt,nm,ny,DS,t2,t3,t4,t5,t6,d1,d2,ta,Za,AV.cut,Cb,WD];subst ec;exact⟨rfl,Th (OM.2 fun h=>c2 h.2)⟩
   ·have d1:=Ra c1
    simp -implicitDefEqProofs only[SX,sevalprocAttr,sA,e1,a0,b0,Su,Jt,nm,ny,DS,t2,t3,t4,d1,ta,Za,AV.cut,Cb,WD];subst ec;exact⟨rfl,Th (OM.2 fun h=>c1 h.1)⟩
  ·rintro t ⟨rfl,hs⟩
   have e1:decide ((i:Int) < (i:Int))=false:=Ra (by omega);generalize hQ:(fun r:Ex×St=>r.1.stop=true/\_)=Q;simp -implicitDefEqProofs only[SX,sevalprocAttr,sA,e1,WD];subst hQ;exact⟨rfl,_,.inl ⟨rfl,hs⟩⟩
 have key:Ia (fun r=>∃ b,r=PV.bool b/\(b=false↔∀ j,j < i->(h:j < ss.length)->pk ss[j] p)) (PF [S,aa i]):=by
  generalize ec:(fun r:PV=>_)=QQ;simp -implicitDefEqProofs only[PF,SX,sevalprocAttr,VP,Oc,ta,Za,AV.cut,Cb];refine Bb yc ?_;rintro _ ⟨E,⟨rfl,hb⟩ | ⟨rfl,hE,j,hj,al,hb⟩⟩
  ·simp -implicitDefEqProofs only[SX,sevalprocAttr]
   subst ec;exact⟨false,rfl,by simpa using hb⟩
  ·simp -implicitDefEqProofs only[SX,sevalprocAttr,hE]
   subst ec;exact⟨true,rfl,by simp;exact⟨j,hj,al,hb⟩⟩
 obtain⟨r,h1,b,rfl,hb⟩:=wg key;exact⟨b,h1,hb⟩
abbrev ZD(row:List PV)(i:Int):Tr:=(Tr.lf.set 3 (.pv (aa i))).set 1 (.pv (.rp row 0))
theorem X7{ss:List ya}:uc ss↔ss.length<=32/\∀ i,(hi:i < ss.length)->Yd ss[i]/\∀ j,j < i->(h:j < ss.length)->pk ss[j] ss[i]:=by
 constructor
 ·intro h
  refine⟨h.len,fun i hi=>⟨h.He _ (ic hi),fun j hj al=> ?_⟩⟩;exact fG.1 h.apart j i al hi hj
 ·rintro⟨h1,h2⟩
  refine⟨h1,?_,?_⟩
  ·intro s hs
   obtain⟨i,hi,rfl⟩:=uj hs;exact (h2 i hi).1
  ·rw[fG]
   intro i j hi hj hij;exact (h2 j hj).2 i hij hi
theorem b7{S:PV}{ss:List ya}{es:List PV}(hS:zd S ss es):∃ b,Ez [.agg [S]]=some (.bool b)/\(b=true↔uc ss):=by
 have ib:=hS.sz
 have ln:=hS.mb
 have Ve:(AV.pv S).one=true:=by rcases hS.is with⟨h,_⟩ | h <;> rw[h] <;> rfl
 by_cases c1:(ss.length:Int) > 32
 ·have d1:=Qa c1
  refine⟨false,?_,by simp;intro h;have:=h.len;omega⟩;simp -implicitDefEqProofs only[Ez,SX,sevalprocAttr,aL,Ve,ah,Xd,ln,d1]
 have d1:=Ra c1;have yc:Ia (fun r=>∃ E,(r=(.exit 0,⟨E,[]⟩)/\uc ss)\/(r=(.ret,⟨E,[]⟩)/\E.get 2= .pv (.bool false)/\¬uc ss))
  (Mb (Aa (ua (La (fun _=>none) 8) rA) (ta 0 [1,3])) Ga ⟨ZD [S] 0,[]⟩):=by
  refine Bb (We (g:=Aa (ua (La (fun _=>none) 8) rA) (ta 0 [1,3]))
   (fun i t=>t=⟨ZD [S] i,[]⟩/\∀ k,k < i->(hk:k < ss.length)->Yd ss[k]/\∀ j,j < k->(h:j < ss.length)->pk ss[j] ss[k])
   ss.length (by unfold Ga;unfold maxLen at ib;omega) _ ⟨rfl,by intro j h;omega⟩ ?_ ?_) (fun r h=>h.2)
  ·rintro i t hi ⟨rfl,hs⟩
   obtain⟨P,ps,hP,a0⟩:=hS.Nd hi
   obtain⟨b,hb,hbb⟩:=u7 hP;have Xl:Yd ss[i]->_:=fun h=>Hao hS hi (fun j hj al=>by
    rcases yd j i with h1 | h1
    ·exact (hs j h1 al).1
    ·have:j=i:=by omega
     subst this;exact h)
   have Th:Yd ss[i]->(∀ j,j < i->(h:j < ss.length)->pk ss[j] ss[i])->∀ k,k < i+1->(hk:k < ss.length)->Yd ss[k]/\∀ j,j < k->(h:j < ss.length)->pk ss[j] ss[k]:=by
    intro h1 h2 k hk Qe;rcases yd k i with h3 | h3
    ·exact hs k h3 Qe
    ·have:k=i:=by omega
     subst this;exact⟨h1,h2⟩
   have sn:¬(Yd ss[i]/\∀ j,j < i->(h:j < ss.length)->pk ss[j] ss[i])->¬uc ss:=fun h hh=>h ((X7.1 hh).2 i hi);generalize gI:ss[i]=p at *;have e1:decide ((i:Int) < (ss.length:Int))=true:=Qa (by omega);have t2:=ee hi ib;generalize ec:LN _ _ i=QQ;cases b with
   |false=>
    have Uj:¬Yd p:=fun h=>by have:=hbb.2 h;cases this
    simp -implicitDefEqProofs only[SX,sevalprocAttr,rA,e1,ln,ah,Xd,a0,nm,hb,ZD];subst ec;exact⟨_,.inr ⟨rfl,by simp[Tr.na],sn fun h=>Uj h.1⟩⟩
   |true=>
    have Nn:=hbb.1 rfl
    obtain⟨c,hc,Di⟩:=Xl Nn;cases c with
    |false=>simp -implicitDefEqProofs only[SX,sevalprocAttr,rA,e1,ln,ah,Xd,a0,nm,hb,hc,t2,ta,Za,AV.cut,Cb,ZD];subst ec;exact⟨rfl,Th Nn (Di.1 rfl)⟩
    |true=>simp -implicitDefEqProofs only[SX,sevalprocAttr,rA,e1,ln,ah,Xd,a0,nm,hb,hc,ZD];subst ec;exact⟨_,.inr ⟨rfl,by simp[Tr.na],sn fun h=>by have:=Di.2 h.2;cases this⟩⟩
  ·rintro t ⟨rfl,hs⟩
   have e1:decide ((ss.length:Int) < (ss.length:Int))=false:=Ra (by omega);generalize hQ:(fun r:Ex×St=>r.1.stop=true/\_)=Q;simp -implicitDefEqProofs only[SX,sevalprocAttr,rA,e1,ln,ah,Xd,ZD];subst hQ;exact⟨rfl,_,.inl ⟨rfl,X7.2 ⟨by omega,fun i hi=>hs i hi hi⟩⟩⟩
 have key:Ia (fun r=>∃ b,r=PV.bool b/\(b=true↔uc ss)) (Ez [.agg [S]]):=by
  generalize ec:(fun r:PV=>_)=QQ;simp -implicitDefEqProofs only[Ez,SX,sevalprocAttr,aL,Ve,ah,Xd,ln,d1,Oc,ta,Za,AV.cut,Cb];refine Bb yc ?_;rintro _ ⟨E,⟨rfl,hb⟩ | ⟨rfl,hE,hb⟩⟩
  ·simp -implicitDefEqProofs only[SX,sevalprocAttr]
   subst ec;exact⟨true,rfl,by simpa using hb⟩
  ·simp -implicitDefEqProofs only[SX,sevalprocAttr,hE]
   subst ec;exact⟨false,rfl,by simpa using hb⟩
 obtain⟨r,h1,b,rfl,hb⟩:=wg key;exact⟨b,h1,hb⟩
abbrev OA(rp rq:List PV)(n i:Int)(nl:Bool)(es:List PV):Tr:=((((Tr.lf.set 9 (.pv (aa i))).set 8 (.uq 0 nl 1 es)).set 4 (.pv (.rp rq 0))).set 3 (.pv (.rp rp 0))).set 2 (.pv (aa n))
abbrev YD(rp rq:List PV)(n i x:Int)(nl:Bool)(es:List PV):Tr:=(((((Tr.lf.set 10 (.pv (aa x))).set 9 (.pv (aa i))).set 8 (.uq 0 nl 1 es)).set 4 (.pv (.rp rq 0))).set 3 (.pv (.rp rp 0))).set 2 (.pv (aa n))
theorem Gao(call:Ab){P Q:PV}{a b:PV}{n:Int}{lp lq:List (List (Int×Int))}{ps qs:List PV}(hp:sk P lp ps)(hq:sk Q lq qs){i:Nat}(jI:i < lp.length)(xy:i < lq.length)(nl:Bool)(es:List PV)(m:Nat):
 Ia (fun r=>∃ E y,r=(.exit 2,⟨E,[.tok 1 m nl]⟩)/\E.get 2= .pv (aa n)/\E.get 3= .pv (.rp [P,a] 0)/\E.get 4= .pv (.rp [Q,b] 0)/\E.get 8= .uq 0 nl 1 es/\E.get 9= .pv (aa i)/\E.get 10= .pv (aa (y:Nat))/\
  ((y < 256/\Ge lp[i] y=true/\Ge lq[i] y=true)\/(y=256/\∀ x,x < 256->¬(Ge lp[i] x=true/\Ge lq[i] x=true))))
  (Mb (Aa (ua call tA) (ta 1 [2,3,4,8,9,10])) Ga ⟨YD [P,a] [Q,b] n i 0 nl es,[.tok 1 m nl]⟩):=by
 obtain⟨v,hv,Eu,a1⟩:=hp.Nd jI [.tok 1 m nl]
 obtain⟨w,hw,zI,a2⟩:=hq.Nd xy [.tok 1 m nl]
 have hhp:=Z6 Eu.is Eu.sz
 have hhq:=Z6 zI.is zI.sz
 generalize lp[i]=lv at *;generalize lq[i]=lw at *;refine Bb (We (g:=Aa (ua call tA) (ta 1 [2,3,4,8,9,10]))
  (fun x t=>t=⟨YD [P,a] [Q,b] n i x nl es,[.tok 1 m nl]⟩/\∀ x',x' < x->¬(Ge lv x'=true/\Ge lw x'=true))
  256 (by unfold Ga;omega) _ ⟨rfl,by intro x h;omega⟩ ?_ ?_) (fun r h=>h.2)
 ·rintro x t hx ⟨rfl,hs⟩
  have e1:decide ((x:Int) < 256)=true:=Qa (by omega);have t2:IntKind.i64.wrap ((x:Int)+1)=((x+1:Nat):Int):=Gb (by omega)
  have Ti:=hhp (x:Int);have AB:=hhq (x:Int);rw[Qa (show (0:Int)<=x by omega),Qa (show (x:Int)<=255 by omega),Uc,ng,ng] at Ti AB;have hz:(0 < 1)=True:=by simp
  have Th:¬(Ge lv x=true/\Ge lw x=true)->∀ x',x' < x+1->¬(Ge lv x'=true/\Ge lw x'=true):=by
   intro h x' Dk;rcases yd x' x with h1 | h1
   ·exact hs x' h1
   ·have:x'=x:=by omega
    subst this;exact h
  generalize hQ:LN _ _ x=QQ;cases h1:Ge lv x with
  |false=>rw[h1] at Ti;simp -implicitDefEqProofs only[SX,sevalprocAttr,tA,e1,Wh,Vh,Xd,a1,a2,Ti,t2,hz,ta,Za,AV.cut,Fa,Cb,YD];subst hQ;exact⟨rfl,Th (by rw[h1];simp)⟩
  |true=>
   rw[h1] at Ti;cases h2:Ge lw x with
   |false=>rw[h2] at AB;simp -implicitDefEqProofs only[SX,sevalprocAttr,tA,e1,Wh,Vh,Xd,a1,a2,Ti,AB,t2,hz,ta,Za,AV.cut,Fa,Cb,YD];subst hQ;exact⟨rfl,Th (by rw[h2];simp)⟩
   |true=>rw[h2] at AB;simp -implicitDefEqProofs only[SX,sevalprocAttr,tA,e1,Wh,Vh,Xd,a1,a2,Ti,AB,YD];subst hQ;exact⟨_,x,rfl,by simp[Tr.na],by simp[Tr.na],by simp[Tr.na],by simp[Tr.na],by simp[Tr.na],by simp[Tr.na],.inl ⟨hx,h1,h2⟩⟩
 ·rintro t ⟨rfl,hs⟩
  have e1:decide (((256:Nat):Int) < 256)=false:=Ra (by omega);generalize hQ:(fun r:Ex×St=>r.1.stop=true/\_)=QQ;simp -implicitDefEqProofs only[SX,sevalprocAttr,tA,e1,YD];subst hQ;exact⟨rfl,_,256,rfl,by simp[Tr.na],by simp[Tr.na],by simp[Tr.na],by simp[Tr.na],by simp[Tr.na],by simp[Tr.na],.inr ⟨rfl,hs⟩⟩
theorem aU{p q:List (List (Int×Int))}{i:Nat}(hp:i < p.length)(hq:i < q.length)(vp:Ub 255 (-2) p[i]=true)(vq:Ub 255 (-2) q[i]=true):
 Cr p q i≠[]↔∃ x,x < 256/\Ge p[i] x=true/\Ge q[i] x=true:=by
 have cT:Cr p q i=Cf (p[i].length+q[i].length) p[i] q[i]:=by unfold Cr;rw[Rb hp,Rb hq]
 have AE:=PI _ _ _ (-2) (-2) vp vq (gb _);have eT:=FJ vp;rw[cT];generalize p[i]=a at *;generalize q[i]=b at *;constructor
 ·intro h
  obtain⟨m,hm⟩:=List.exists_mem_of_ne_nil _ h
  have h2:=(AE.1 m.1).1 ⟨m,hm,Ll _,AE.2 m hm⟩
  have h0:0<=m.1/\m.1<=255:=by
   obtain⟨pp,Gy,h3,h4⟩:=h2.1
   have:=eT pp Gy;omega
  refine⟨m.1.toNat,by omega,?_,?_⟩
  ·rw[Ge,vp,ng,HB,Ur h0.1];exact h2.1
  ·rw[Ge,vq,ng,HB,Ur h0.1];exact h2.2
 ·rintro⟨x,hx,h1,h2⟩ yB
  rw[Ge,vp,ng,HB] at h1;rw[Ge,vq,ng,HB] at h2;have:=(AE.1 x).2 ⟨h1,h2⟩
  rw[yB] at this;exact Dw _ this
theorem X6{e f:PV}{p q:ya}{P Q:PV}{ps qs:List PV}(hp:Yh e p P ps)(hq:Yh f q Q qs)(op:Yd p)(oq:Yd q){n:Nat}(hn:n<=p.ba.length)(yo:n<=q.ba.length):
 ∃ v,GC [e,f,aa n]=some (.Ba [v,.bool (Ke p.ba q.ba n 0).isSome]):=by
 have hc1:=Y6 hp op;have hc2:=Y6 hq oq;have ff:=xN op;have Vd:=xN oq;obtain⟨Me,Ul⟩:=hp.zm
 obtain⟨XA,SY⟩:=hq.zm
 have heq:=hp.eq
 have fI:=hq.eq
 subst heq fI;have h8:=op.hi
 have lP:=hp.ba.mb
 have lQ:=hq.ba.mb
 have yc:Ia (fun r=>∃ E H,(r=(.ret,⟨E,H⟩)/\E.get 6= .pv .oa/\E.get 7= .pv (.bool false)/\(Ke p.ba q.ba n 0).isSome=false)\/(∃ nl es,r=(.exit 0,⟨E,H⟩)/\E.get 8= .uq 0 nl 1 es/\(Ke p.ba q.ba n 0).isSome=true))
  (Mb (Aa (ua (La (fun _=>none) 8) EG) (ta 1 [2,3,4,8,9])) Ga ⟨OA [P,aa p.pa] [Q,aa q.pa] n 0 true [],[.tok 1 0 true]⟩):=by
  refine Bb (We (g:=Aa (ua (La (fun _=>none) 8) EG) (ta 1 [2,3,4,8,9]))
   (fun i t=>∃ nl es,t=⟨OA [P,aa p.pa] [Q,aa q.pa] n i nl es,[.tok 1 i nl]⟩/\es.length=i/\(Ke p.ba q.ba n 0).isSome=(Ke p.ba q.ba (n - i) i).isSome)
   n (by unfold Ga;omega) _ ⟨true,[],rfl,rfl,rfl⟩ ?_ ?_) (fun r h=>h.2)
  ·rintro i t hi ⟨nl,es,rfl,hlen,hs⟩
   have jI:i < p.ba.length:=by omega
   have xy:i < q.ba.length:=by omega
   have Tf:=Gao (La (fun _=>none) 8) (a:=aa p.pa) (b:=aa q.pa) (n:=n) hp.ba hq.ba jI xy nl es i
   have bz:=op.ba _ (ic jI)
   have WI:=oq.ba _ (ic xy)
   have wZ:=aU jI xy bz.2 WI.2
   obtain⟨m,hm⟩:∃ m,n - i=m+1:=⟨n - i - 1,by omega⟩;have wB:n - (i+1)=m:=by omega
   rw[hm,Ke] at hs;have e1:decide ((i:Int) < (n:Int))=true:=Qa (by omega);have t2:=ee (i:=i) (n:=n) hi (by unfold maxLen;omega);have hz:(0 < 1)=True:=by simp
   have vf:∀ (nl':Bool)(es':List PV)(s:St),s=⟨OA [P,aa p.pa] [Q,aa q.pa] n (i+1:Nat) nl' es',[.tok 1 (i+1) nl']⟩->es'.length=i+1->(Ke p.ba q.ba n 0).isSome=(Ke p.ba q.ba m (i+1)).isSome->
    LN (fun i t=>∃ nl es,t=⟨OA [P,aa p.pa] [Q,aa q.pa] n i nl es,[.tok 1 i nl]⟩/\es.length=i/\(Ke p.ba q.ba n 0).isSome=(Ke p.ba q.ba (n - i) i).isSome)
     (fun r=>∃ E H,(r=(.ret,⟨E,H⟩)/\E.get 6= .pv .oa/\E.get 7= .pv (.bool false)/\(Ke p.ba q.ba n 0).isSome=false)\/(∃ nl es,r=(.exit 0,⟨E,H⟩)/\E.get 8= .uq 0 nl 1 es/\(Ke p.ba q.ba n 0).isSome=true)) i (.norm,s):=
    fun nl' es' s h1 h2 h3=>⟨nl',es',h1,h2,by rw[wB];exact h3⟩
   have hLR:∀ (E:Tr)(H:List fa),E.get 6= .pv .oa->E.get 7= .pv (.bool false)->(Ke p.ba q.ba n 0).isSome=false->
    LN (fun i t=>∃ nl es,t=⟨OA [P,aa p.pa] [Q,aa q.pa] n i nl es,[.tok 1 i nl]⟩/\es.length=i/\(Ke p.ba q.ba n 0).isSome=(Ke p.ba q.ba (n - i) i).isSome)
     (fun r=>∃ E H,(r=(.ret,⟨E,H⟩)/\E.get 6= .pv .oa/\E.get 7= .pv (.bool false)/\(Ke p.ba q.ba n 0).isSome=false)\/(∃ nl es,r=(.exit 0,⟨E,H⟩)/\E.get 8= .uq 0 nl 1 es/\(Ke p.ba q.ba n 0).isSome=true)) i (.ret,⟨E,H⟩):=
    fun E H h1 h2 h3=>⟨E,H,.inl ⟨rfl,h1,h2,h3⟩⟩
   generalize LN _ _ i=QQ at vf hLR ⊢;simp -implicitDefEqProofs only[SX,sevalprocAttr,EG,Oc,e1,hz,ta,Za,AV.cut,Fa,Cb,OA];refine Bb Tf ?_;rintro r ⟨E,y,rfl,g2,g3,g4,g8,g9,g10,⟨hy,Mm,Ar⟩ | ⟨rfl,Uj⟩⟩
   ·have Va:Cr p.ba q.ba i≠[]:=wZ.2 ⟨y,hy,Mm,Ar⟩
    have Hu:(Ke p.ba q.ba n 0).isSome=(Ke p.ba q.ba m (i+1)).isSome:=by
     rw[hs];cases Xl:Cr p.ba q.ba i with
     |nil=>exact absurd Xl Va
     |cons a r=>simp
    have e2:(((y:Nat):Int)==256)=false:=jj (by omega);have t3:IntKind.u8.wrap ((y:Nat):Int)=(y:Int):=wrap_u8 (by omega)
    have vd:=yL (A:=[.tok 1 i nl]) (id:=0) (n:=i) (h:= .uq) (nl:=nl) (bytes:=1) (es:=es) rfl (by simp[hlen]) (by unfold Ac;omega) (.int .u8 y);rw[Qo] at vd;simp -implicitDefEqProofs only[SP,WP,za,sevalprocAttr,g2,g3,g4,g8,g9,g10,e2,t2,t3,vd,hz,ta,Za,AV.cut,Fa,Cb];exact vf false (es++[.int .u8 y]) _ rfl (by simp[hlen]) Hu
   ·have Va:Cr p.ba q.ba i=[]:=by
     apply iP;intro h;obtain⟨x,hx,h1,h2⟩:=wZ.1 h
     exact Uj x hx ⟨h1,h2⟩
    have Hu:(Ke p.ba q.ba n 0).isSome=false:=by rw[hs,Va];rfl
    have e2:(((256:Nat):Int)==256)=true:=by decide
    simp -implicitDefEqProofs only[SP,WP,za,sevalprocAttr,g2,g3,g4,g8,g9,g10,e2];exact hLR _ _ (by simp[Tr.na]) (by simp[Tr.na]) Hu
  ·rintro t ⟨nl,es,rfl,hlen,hs⟩
   rw[Kq,Ke] at hs;have e1:decide ((n:Int) < (n:Int))=false:=Ra (by omega);generalize hQ:(fun r:Ex×St=>r.1.stop=true/\_)=QQ;simp -implicitDefEqProofs only[SX,sevalprocAttr,EG,e1,OA];subst hQ;exact⟨rfl,_,_,.inr ⟨nl,es,rfl,by simp[Tr.na],hs⟩⟩
 have key:Ia (fun r=>∃ v,r= .Ba [v,.bool (Ke p.ba q.ba n 0).isSome]) (GC [.agg [P,aa p.pa],.agg [Q,aa q.pa],aa n]):=by
  have z1:(Gg 1 p.ba==0)=false:=jj (by omega);have z2:(Gg 1 q.ba==0)=false:=jj (by omega);have d0:decide ((n:Int) < 0)=false:=Ra (by omega);have d1:decide ((n:Int) > (p.ba.length:Int))=false:=Ra (by omega);have d2:decide ((n:Int) > (q.ba.length:Int))=false:=Ra (by omega);have hz:(0 < 1)=True:=by simp
  generalize Gg 1 p.ba=np at *
  generalize Gg 1 q.ba=nq at *
  generalize (Ke p.ba q.ba n 0).isSome=b at *
  generalize ec:(fun r:PV=>_)=QQ;simp -implicitDefEqProofs only[GC,SX,sevalprocAttr,XP,Oc,Me,XA,Wh,Vh,nm,hc1,hc2,z1,z2,lP,lQ,d0,d1,d2,Af,hz,ta,Za,AV.cut,Fa,Cb];refine Bb yc ?_;rintro _ ⟨E,H,⟨rfl,h6,h7,hb⟩ | ⟨nl,es,rfl,g8,hb⟩⟩
  ·subst hb
   simp -implicitDefEqProofs only[SX,sevalprocAttr,h6,h7];subst ec;exact⟨_,rfl⟩
  ·subst hb
   cases nl <;>
   ·simp -implicitDefEqProofs only[SX,sevalprocAttr,g8]
    subst ec;exact⟨_,rfl⟩
 obtain⟨r,h1,v,rfl⟩:=wg key;exact⟨v,h1⟩
abbrev ZL(row:List PV)(i:Int):Tr:=(Tr.lf.set 4 (.pv (aa i))).set 1 (.pv (.rp row 0))
abbrev XD(row:List PV)(i j:Int):Tr:=((Tr.lf.set 5 (.pv (aa j))).set 4 (.pv (aa i))).set 1 (.pv (.rp row 0))
def xP(ss:List ya)(i j:Nat):Prop:=(hi:i < ss.length)->(hj:j < ss.length)->ss[i].ba.length < ss[j].ba.length->fg ss[i] ss[j]=false
theorem Iao(call:Ab){S:PV}{ss:List ya}{es:List PV}(hS:zd S ss es)(ga:uc ss){i:Nat}(hi:i < ss.length):
 Ia (fun r=>∃ E,(r=(.exit 2,⟨E,[]⟩)/\E.get 1= .pv (.rp [S] 0)/\E.get 4= .pv (aa i)/\∀ j,xP ss i j)\/(r=(.ret,⟨E,[]⟩)/\E.get 2= .pv (.bool false)/\E.get 3= .pv (aa 0)/\¬Ee ss))
  (Mb (Aa (ua call uA) (ta 0 [1,4,5])) Ga ⟨XD [S] i 0,[]⟩):=by
 have Wq:=ga.len
 have ln:=hS.mb
 obtain⟨P,ps,hP,a1⟩:=hS.Nd hi
 have Nn:=ga.He _ (ic hi)
 have lP:=hP.ba.mb
 have bah:∀ j (hj:j < ss.length),ss[i].ba.length < ss[j].ba.length->fg ss[i] ss[j]=true->¬Ee ss:=fun j hj h1 h2 h=>by have:=h i j hi hj h1;rw[h2] at this;cases this
 have pg:∀ j,xP ss i j↔((hj:j < ss.length)->ss[i].ba.length < ss[j].ba.length->fg ss[i] ss[j]=false):=fun j=>⟨fun h=>h hi,fun h _=>h⟩;simp only[pg];generalize ss[i]=p at *;refine Bb (We (g:=Aa (ua call uA) (ta 0 [1,4,5]))
  (fun j t=>t=⟨XD [S] i j,[]⟩/\∀ j',j' < j->(hj:j' < ss.length)->p.ba.length < ss[j'].ba.length->fg p ss[j']=false)
  ss.length (by unfold Ga;omega) _ ⟨rfl,fun j h=>by omega⟩ ?_ ?_) (fun r h=>h.2)
 ·rintro j t hj ⟨rfl,hs⟩
  obtain⟨Q,qs,hQ,a2⟩:=hS.Nd hj
  have Et:=ga.He _ (ic hj)
  have Ss:=fun (h:p.ba.length<=ss[j].ba.length)=>X6 hP hQ Nn Et (n:=p.ba.length) (gb _) h;have lQ:=hQ.ba.mb
  have sn:=bah j hj;have Th:(p.ba.length < ss[j].ba.length->fg p ss[j]=false)->∀ j',j' < j+1->(hj:j' < ss.length)->p.ba.length < ss[j'].ba.length->fg p ss[j']=false:=by
   intro h j' h1 h2;rcases yd j' j with h3 | h3
   ·exact hs j' h3 h2
   ·have:j'=j:=by omega
    subst this;exact h
  unfold fg at sn Th;generalize ss[j]=q at *;have e1:decide ((j:Int) < (ss.length:Int))=true:=Qa (by omega);have t2:=ee hj (by unfold maxLen;omega);generalize ec:LN _ _ j=QQ
  by_cases c1:(p.ba.length:Int) < (q.ba.length:Int)
  ·have d1:=Qa c1
   obtain⟨v,hv⟩:=Ss (by omega);cases hb:(Ke p.ba q.ba p.ba.length 0).isSome with
   |true=>rw[hb] at hv;simp -implicitDefEqProofs only[SX,sevalprocAttr,uA,ln,e1,ah,Xd,Wh,Vh,nm,a1,a2,lP,lQ,d1,hv,XD];subst ec;exact⟨_,.inr ⟨rfl,by simp[Tr.na],by simp[Tr.na],sn (by omega) hb⟩⟩
   |false=>rw[hb] at hv;simp -implicitDefEqProofs only[SX,sevalprocAttr,uA,ln,e1,t2,ah,Xd,Wh,Vh,nm,a1,a2,lP,lQ,d1,hv,ta,Za,AV.cut,Cb,XD];subst ec;exact⟨rfl,Th fun _=>hb⟩
  ·have d1:=Ra c1
   simp -implicitDefEqProofs only[SX,sevalprocAttr,uA,ln,e1,t2,ah,Xd,Wh,Vh,nm,a1,a2,lP,lQ,d1,ta,Za,AV.cut,Cb,XD];subst ec;exact⟨rfl,Th fun h=>absurd h (by omega)⟩
 ·rintro t ⟨rfl,hs⟩
  have e1:decide ((ss.length:Int) < (ss.length:Int))=false:=Ra (by omega);generalize hQ:(fun r:Ex×St=>r.1.stop=true/\_)=QQ;simp -implicitDefEqProofs only[SX,sevalprocAttr,uA,e1,ln,ah,Xd,XD];subst hQ;exact⟨rfl,_,.inl ⟨rfl,by simp[Tr.na],by simp[Tr.na],fun j hj=>hs j hj hj⟩⟩
theorem Jao{S:PV}{ss:List ya}{es:List PV}(hS:zd S ss es):
 (¬ uc ss->Fz [.agg [S]]=some (.Ba [.bool false,aa 84]))/\
 (uc ss->∃ b,Fz [.agg [S]]=some (.Ba [.bool b,aa 0])/\(b=true↔Ee ss)):=by
 have ln:=hS.mb
 have Ve:(AV.pv S).one=true:=by rcases hS.is with⟨h,_⟩ | h <;> rw[h] <;> rfl
 obtain⟨b,hb,hbb⟩:=b7 hS;constructor
 ·intro h
  have:b=false:=by cases b with | false=>rfl | true=>exact absurd (hbb.1 rfl) h
  subst this;simp -implicitDefEqProofs only[Fz,SX,sevalprocAttr,cL,Ve,pj,hb]
 ·intro ga
  have Wq:=ga.len
  have:=hbb.2 ga
  subst this;have yc:Ia (fun r=>∃ E,(r=(.exit 0,⟨E,[]⟩)/\Ee ss)\/(r=(.ret,⟨E,[]⟩)/\E.get 2= .pv (.bool false)/\E.get 3= .pv (aa 0)/\¬Ee ss))
   (Mb (Aa (ua (La (fun _=>none) 8) FG) (ta 0 [1,4])) Ga ⟨ZL [S] 0,[]⟩):=by
   refine Bb (We (g:=Aa (ua (La (fun _=>none) 8) FG) (ta 0 [1,4]))
    (fun i t=>t=⟨ZL [S] i,[]⟩/\∀ i',i' < i->∀ j,xP ss i' j)
    ss.length (by unfold Ga;omega) _ ⟨rfl,fun i h=>by omega⟩ ?_ ?_) (fun r h=>h.2)
   ·rintro i t hi ⟨rfl,hs⟩
    have Tf:=Iao (La (fun _=>none) 8) hS ga hi;have e1:decide ((i:Int) < (ss.length:Int))=true:=Qa (by omega);have t2:=ee hi (by unfold maxLen;omega);generalize ec:LN _ _ i=QQ;simp -implicitDefEqProofs only[SX,sevalprocAttr,FG,Oc,ln,e1,ah,Xd,ta,Za,AV.cut,Cb,ZL];refine Bb Tf ?_;rintro _ ⟨E,⟨rfl,g1,g4,hp⟩ | ⟨rfl,g2,g3,hp⟩⟩
    ·simp -implicitDefEqProofs only[SX,sevalprocAttr,g1,g4,t2,ta,Za,AV.cut,Cb]
     subst ec;refine⟨rfl,fun i' hi' j=> ?_⟩;rcases yd i' i with h3 | h3
     ·exact hs i' h3 j
     ·have:i'=i:=by omega
      subst this;exact hp j
    ·simp -implicitDefEqProofs only[SX,sevalprocAttr]
     subst ec;exact⟨_,.inr ⟨rfl,g2,g3,hp⟩⟩
   ·rintro t ⟨rfl,hs⟩
    have e1:decide ((ss.length:Int) < (ss.length:Int))=false:=Ra (by omega);generalize hQ:(fun r:Ex×St=>r.1.stop=true/\_)=QQ;simp -implicitDefEqProofs only[SX,sevalprocAttr,FG,e1,ln,ah,Xd,ZL];subst hQ;exact⟨rfl,_,.inl ⟨rfl,fun i j hi hj=>hs i hi j hi hj⟩⟩
  have key:Ia (fun r=>∃ b,r=PV.Ba [.bool b,aa 0]/\(b=true↔Ee ss)) (Fz [.agg [S]]):=by
   generalize ec:(fun r:PV=>_)=QQ;simp -implicitDefEqProofs only[Fz,SX,sevalprocAttr,cL,Ve,ah,Xd,pj,hb,Oc,ta,Za,AV.cut,Cb];refine Bb yc ?_;rintro _ ⟨E,⟨rfl,hp⟩ | ⟨rfl,g2,g3,hp⟩⟩
   ·simp -implicitDefEqProofs only[SX,sevalprocAttr]
    subst ec;exact⟨true,rfl,by simpa using hp⟩
   ·simp -implicitDefEqProofs only[SX,sevalprocAttr,g2,g3]
    subst ec;exact⟨false,rfl,by simpa using hp⟩
  obtain⟨r,h1,b,rfl,hb⟩:=wg key;exact⟨b,h1,hb⟩
def rl(f:Nat->Bool):List PV:=(List.range 32).map fun i=> .bool (f i)
def Ib(d:Int)(f:Nat->Bool):List PV:=aa d::rl f
def Mc(a:Al):PV:= .agg (Ib a.1 a.2.toNat.testBit)
theorem RN(f:Nat->Bool):(rl f).length=32:=by simp[rl]
theorem yl(d:Int)(f:Nat->Bool):(Ib d f).length=33:=by rw[Ib,Td,RN]
theorem rU(f:Nat->Bool){i:Nat}(h:i < (rl f).length):(rl f)[i]= .bool (f i):=by
 simp only[rl,cG,dG]
theorem sU(f:Nat->Bool){i:Nat}(h:i < 32):(rl f)[i]? =some (.bool (f i)):=by
 rw[Rb (by rw[RN];exact h),rU]
theorem Y4(f:Nat->Bool){i:Nat}(h:i < 32)(b:Bool):(rl f).set i (.bool b)=rl fun j=>if j=i then b else f j:=by
 apply Oz
 ·rw[Um,RN,RN]
 ·intro j h1 h2
  rw[DK,rU,rU]
  by_cases hj:i=j
  ·subst hj;rw[if_pos rfl,if_pos rfl]
  ·rw[qa hj,qa (tf hj)]
theorem XI{f g:Nat->Bool}(h:∀ x,x < 32->f x=g x):rl f=rl g:=by
 unfold rl;apply Hq;intro x hx;rw[h x (by simpa using hx)]
theorem X4{f g:Nat->Bool}(h:rl f=rl g){i:Nat}(hi:i < 32):f i=g i:=by
 have h1:=sU f hi;rw[h,sU g hi] at h1;injection h1 with h1;injection h1 with h1;exact h1.symm
theorem vJ(d:Int)(f:Nat->Bool):∀ e∈Ib d f,(AV.pv e).one=true:=by
 intro e he;rcases Ae.1 he with rfl | he
 ·rfl
 ·obtain⟨x,_,rfl⟩:=Re.1 he
  rfl
def Mr(a:Al):Prop:=∃ b:Nat,a.2=(b:Int)/\b < 4294967296
theorem cae{a b:Al}(ha:Mr a)(hb:Mr b)(h:Mc a=Mc b):a=b:=by
 obtain⟨d,_⟩:=a;obtain⟨e,_⟩:=b;obtain⟨m,rfl,hm⟩:=ha;obtain⟨n,rfl,hn⟩:=hb;simp only[Mc,Ib,PV.agg.injEq,bG,PV.int.injEq,true_and,Uc] at h;have:m=n:=by
  apply Nat.eq_of_testBit_eq
  intro i
  by_cases hi:i < 32
  ·exact X4 h.2 hi
  ·rw[Nat.testBit_lt_two_pow (Xn hm (Nat.pow_le_pow_right (n:=2) (by decide) (by omega:32<=i))),Nat.testBit_lt_two_pow (Xn hn (Nat.pow_le_pow_right (n:=2) (by decide) (by omega:32<=i)))]
 subst this;have h1:d=e:=by have:=h.1;omega
 rw[h1]
theorem PX:∀ (l:List Nat)(f g:Nat->Bool),Wk (l.map fun _=>0) (l.map fun i=> .bool (f i)) (l.map fun i=> .bool (g i))=some (l.all fun i=>f i==g i)
 | [],f,g=>rfl
 |i::l,f,g=>by simp only[Pf,Wk,Is,Lc,PX l f g,Vc,tm]
abbrev T1:Kd:= .row [1,0,0,0,0,0,0,0,0,0,0,0,0,0,0,0,0,0,0,0,0,0,0,0,0,0,0,0,0,0,0,0,0]
theorem hae(a b:Al):∃ c,Sf T1 (Mc a) (Mc b)=some c/\(c=true↔Mc a=Mc b):=by
 have h:=PX (List.range 32) a.2.toNat.testBit b.2.toNat.testBit
 have h0:(List.range 32).map (fun _=>0)=[0,0,0,0,0,0,0,0,0,0,0,0,0,0,0,0,0,0,0,0,0,0,0,0,0,0,0,0,0,0,0,0]:=by decide
 rw[h0] at h;refine⟨((a.1:Int)==b.1)&&(List.range 32).all fun i=>a.2.toNat.testBit i==b.2.toNat.testBit i,?_,?_⟩
 ·show Wk (1::[0,0,0,0,0,0,0,0,0,0,0,0,0,0,0,0,0,0,0,0,0,0,0,0,0,0,0,0,0,0,0,0]) (aa a.1::rl _) (aa b.1::rl _)=_
  unfold Wk;rw[show rl a.2.toNat.testBit=(List.range 32).map fun i=> .bool (a.2.toNat.testBit i) from rfl,show rl b.2.toNat.testBit=(List.range 32).map fun i=> .bool (b.2.toNat.testBit i) from rfl,h];simp only[Is,if_true,Lc,Vc]
 ·simp only[fb,beq_iff_eq,Df,Jq]
  constructor
  ·rintro⟨h1,h2⟩
   rw[Mc,Mc,h1];unfold Ib;rw[XI h2]
  ·intro h
   simp only[Mc,Ib,PV.agg.injEq,bG,PV.int.injEq,true_and] at h;exact⟨h.1,fun i hi=>X4 h.2 hi⟩
theorem yal(H:List fa){l:List Al}{i:Nat}(hi:i < l.length):Ua H 33 (.pv (.lit 33 (l.map Mc))) (i:Int)=some (.pv (.rp (Ib l[i].1 l[i].2.toNat.testBit) 0)):=by
 simp only[Ua];rw[if_pos (by refine⟨trivial,?_⟩;unfold Ta;simp;omega)];simp[hi,Mc,PV.cells]
theorem M7(H:List fa)(d:Int)(f:Nat->Bool):wa H true 33 (.pv (.rp (Ib d f) 0))=some (.pv (.agg (Ib d f))):=by
 have h:=yl d f;simp only[wa,Dj,if_true];rw[if_pos (by omega),Un,Ih (by omega)];rfl
theorem Gak{a:Al}{l:List Al}{i k:Nat}(hi:i < l.length):Wg a (l.drop i) k=if a=l[i] then some k else Wg a (l.drop (i+1)) (k+1):=by
 rw[Hh hi,Wg]
abbrev xH(v:PV)(row:List PV)(i:Int):Tr:=((Tr.lf.set 5 (.pv (aa i))).set 3 (.pv (.rp row 0))).set 0 (.pv v)
theorem Eae{l:List Al}{a:Al}(hl:l.length<=64)(ha:Mr a)(hb:∀ b∈l,Mr b):dK [.lit 33 (l.map Mc),Mc a]=some (aa (match Wg a l 0 with | some k=>(k:Int) | none=> -1)):=by
 have yc:Ia (fun r=>∃ E,(r=(.exit 0,⟨E,[]⟩)/\Wg a l 0=none)\/(∃ k,r=(.ret,⟨E,[]⟩)/\Wg a l 0=some k/\E.get 4= .pv (aa (k:Nat))))
  (Mb (Aa (ua (La (fun _=>none) 8) rD) (ta 0 [0,3,5])) Ga ⟨xH (.lit 33 (l.map Mc)) (Ib a.1 a.2.toNat.testBit) 0,[]⟩):=by
  refine Bb (We (g:=Aa (ua (La (fun _=>none) 8) rD) (ta 0 [0,3,5]))
   (fun i t=>t=⟨xH (.lit 33 (l.map Mc)) (Ib a.1 a.2.toNat.testBit) i,[]⟩/\Wg a l 0=Wg a (l.drop i) i)
   l.length (by unfold Ga;omega) _ ⟨rfl,rfl⟩ ?_ ?_) (fun r h=>h.2)
  ·rintro i t hi ⟨rfl,hs⟩
   rw[Gak hi] at hs;have a1:=yal [] hi;have a2:=M7 [] l[i].1 l[i].2.toNat.testBit
   have a3:=M7 [] a.1 a.2.toNat.testBit
   obtain⟨c,heq,su⟩:=hae l[i] a;have heq:Sf T1 (.agg (Ib l[i].1 l[i].2.toNat.testBit)) (.agg (Ib a.1 a.2.toNat.testBit))=some c:=heq;have e1:decide ((i:Int) < (l.length:Int))=true:=Qa (by omega);have t2:=ee hi (show l.length<=maxLen by unfold maxLen;omega);have ln:mb [] 0 (.pv (.lit 33 (l.map Mc)))=some l.length:=by simp[mb]
   have hbi:=hb _ (ic hi);generalize Ib a.1 a.2.toNat.testBit=row at *
   generalize Ib l[i].1 l[i].2.toNat.testBit=qO at *
   generalize l.map Mc=es at *
   generalize hQ:LN _ _ i=Q
   by_cases h:a=l[i]
   ·rw[su.2 (by rw[h])] at heq
    rw[if_pos h] at hs;simp -implicitDefEqProofs only[SX,sevalprocAttr,rD,e1,ln,a1,a2,a3,heq,xH];subst hQ;exact⟨_,.inr ⟨i,rfl,hs,by simp[Tr.na]⟩⟩
   ·have:c=false:=by cases c with | false=>rfl | true=>exact absurd (cae hbi ha (su.1 rfl)).symm h
    rw[this] at heq;rw[qa h] at hs;simp -implicitDefEqProofs only[SX,sevalprocAttr,rD,e1,t2,ln,a1,a2,a3,heq,ta,Za,AV.cut,Cb,xH];subst hQ;exact⟨rfl,hs⟩
  ·rintro t ⟨rfl,hs⟩
   rw[Zh,Wg] at hs;have e1:decide ((l.length:Int) < (l.length:Int))=false:=Ra (by omega);have ln:mb [] 0 (.pv (.lit 33 (l.map Mc)))=some l.length:=by simp[mb]
   generalize l.map Mc=es at *
   generalize hQ:(fun r:Ex×St=>r.1.stop=true/\_)=Q;simp -implicitDefEqProofs only[SX,sevalprocAttr,rD,e1,ln,xH];subst hQ;exact⟨rfl,_,.inl ⟨rfl,hs⟩⟩
 have nI:=yl (a.1:Int) a.2.toNat.testBit
 have Rh:∀ e∈Ib (a.1:Int) a.2.toNat.testBit,(AV.pv e).one=true:=vJ _ _
 have he:Mc a= .agg (Ib a.1 a.2.toNat.testBit):=rfl
 rw[he];generalize Ib (a.1:Int) a.2.toNat.testBit=row at *
 have hbx:((row.map AV.pv).length=33/\(row.map AV.pv).all AV.one=true)=True:=by
  refine Sa ⟨by rw[wb,nI],?_⟩;rw[Df];intro v hv;obtain⟨e,he,rfl⟩:=Re.1 hv
  exact Rh e he
 have hmp:Ha (qb [] 0) (row.map AV.pv)=some row:=CN _ _ _;generalize l.map Mc=es at *
 apply Hl;simp -implicitDefEqProofs only[dK,SX,sevalprocAttr,cQ,hbx,hmp,Oc,ta,Za,AV.cut,Cb];refine Bb yc ?_;rintro _ ⟨E,⟨rfl,hn⟩ | ⟨k,rfl,hk,g⟩⟩
 ·simp -implicitDefEqProofs only[SX,sevalprocAttr,hn]
 ·simp -implicitDefEqProofs only[SX,sevalprocAttr,g,hk]
theorem Lr{α:Type}:∀ (vs cs:List α)(off j:Nat),off+vs.length<=cs.length->(za cs off vs)[j]? =if off<=j/\j < off+vs.length then vs[j - off]? else cs[j]?
 | [],cs,off,j,h=>by rw[qa (by simp only[Ch];omega)];rfl
 |v::vs,cs,off,j,h=>by
  simp only[Td] at h;rw[za,Lr vs _ (off+1) j (by simp;omega)]
  by_cases h1:off+1<=j/\j < off+1+vs.length
  ·rw[if_pos h1,if_pos (by simp only[Td];omega),show j - off=(j - (off+1))+1 by omega,Jj]
  ·rw[qa h1]
   by_cases h2:off=j
   ·subst h2
    rw[Of (by omega),if_pos (by simp only[Td];omega),Kq,Kj]
   ·rw[ze h2,qa (by simp only[Td];omega)]
def Tc(n:Nat)(f:Nat->Bool):List PV:=(List.range n).map fun x=> .bool (f x)
theorem El(n:Nat)(f:Nat->Bool):(Tc n f).length=n:=by rw[Tc,wb,Wn]
theorem SO(n:Nat)(f:Nat->Bool){i:Nat}(h:i < (Tc n f).length):(Tc n f)[i]= .bool (f i):=by
 simp only[Tc,cG,dG]
theorem TO{n:Nat}(f:Nat->Bool){i:Nat}(h:i < n):(Tc n f)[i]? =some (.bool (f i)):=by
 rw[Rb (by rw[El];exact h),SO]
theorem tabN_get?(n:Nat)(f:Nat->Bool)(i:Nat):(Tc n f)[i]? =if i < n then some (.bool (f i)) else none:=by
 by_cases h:i < n
 ·rw[if_pos h,TO f h]
 ·rw[qa h,dh (by rw[El];omega)]
theorem U8{n:Nat}{f g:Nat->Bool}(h:∀ x,x < n->f x=g x):Tc n f=Tc n g:=by
 unfold Tc;apply Hq;intro x hx;rw[h x (by simpa using hx)]
theorem X8(n:Nat)(f:Nat->Bool):∀ e∈Tc n f,(AV.pv e).one=true:=by
 intro e he;obtain⟨x,_,rfl⟩:=Re.1 he
 rfl
theorem V8(n:Nat):List.replicate n (PV.bool false)=Tc n fun _=>false:=by
 apply Oz
 ·rw[Gq,El]
 ·intro j h1 h2;rw[List.getElem_replicate,SO]
theorem jar(f:Nat->Bool):pb f=Tc 256 f:=rfl
theorem gar{n:Nat}(f g:Nat->Bool){m off:Nat}(h:off+m<=n):za (Tc n f) off (Tc m g)=Tc n fun j=>if off<=j/\j < off+m then g (j - off) else f j:=by
 apply Nl;intro j;rw[Lr _ _ _ _ (by rw[El,El];exact h),El,tabN_get?,tabN_get?,tabN_get?]
 by_cases h1:off<=j/\j < off+m
 ·rw[if_pos h1,if_pos (show j - off < m by omega),if_pos (by omega)]
  simp only[if_pos h1]
 ·rw[qa h1]
  simp only[qa h1]
theorem y8{α β:Type}(f:α->β):∀ (vs cs:List α)(off:Nat),za (cs.map f) off (vs.map f)=(za cs off vs).map f
 | [],cs,off=>rfl
 |v::vs,cs,off=>by rw[Pf,za,za,<-y8 f vs,Tz]
theorem Zan{A:List fa}{id n off m:Nat}{f g:Nat->Bool}(hg:A[id]? =some (xa (Tc n f)))(h:off+m<=n):
 Db A m (.ptr id off) (.pv (.agg (Tc m g)))=some (A.set id (xa (Tc n fun j=>if off<=j/\j < off+m then g (j - off) else f j))):=by
 have ri:(AV.pv (.agg (Tc m g))).cells=(Tc m g).map .pv:=rfl
 simp only[Db,hg,ri];rw[if_pos ⟨by rw[wb,El],by rw[Df];intro v hv;obtain⟨e,he,rfl⟩:=Re.1 hv;exact X8 _ _ e he⟩,
  if_pos (by rw[wb,El];exact h),y8,gar f g h]
def Ek(s:ya)(k x:Nat):Bool:=match s.ba[k]? with
 |some l=>Ge l x
 |none=>false
def Fh(s:ya)(k j:Nat):Bool:=decide (j / 256 < k)&&Ek s (j / 256) (j % 256)
def qn(s:ya):List PV:=Tc 2048 (Fh s 8)
theorem Aah(s:ya){k:Nat}(hk:k < s.ba.length):(fun j=>if k * 256<=j/\j < k * 256+256 then Ge s.ba[k] (j - k * 256) else Fh s k j)=Fh s (k+1):=by
 funext j
 by_cases h:k * 256<=j/\j < k * 256+256
 ·have h1:j / 256=k:=by omega
  have h2:j % 256=j - k * 256:=by omega
  rw[if_pos h,Fh,h1,h2,Ek,Rb hk];simp
 ·rw[qa h,Fh,Fh]
  congr 1
  rw[decide_eq_decide];omega
theorem zah(s:ya)(h8:s.ba.length<=8):Tc 2048 (Fh s s.ba.length)=qn s:=by
 refine U8 fun j hj=> ?_;unfold Fh;have h2:decide (j / 256 < 8)=true:=decide_eq_true (by omega);rw[h2,ng]
 by_cases h:j / 256 < s.ba.length
 ·rw[decide_eq_true h,ng]
 ·rw[decide_eq_false h,Ko,Ek,dh (by omega)]
abbrev je(i:Nat):List PV:=Ib 0 fun j=>decide (j < i)
abbrev UD(S:PV)(nl:Bool)(es:List PV)(i k:Int):Tr:=(((((Tr.lf.set 9 (.pv (aa k))).set 8 (.ptr 2 0)).set 7 (.pv (aa i))).set 6 (.ptr 1 0)).set 5 (.uq 0 nl 2048 es)).set 1 (.pv (.rp [S] 0))
abbrev TD(S:PV)(nl:Bool)(es:List PV)(i:Int):Tr:=(((Tr.lf.set 7 (.pv (aa i))).set 6 (.ptr 1 0)).set 5 (.uq 0 nl 2048 es)).set 1 (.pv (.rp [S] 0))
theorem Bah(call:Ab){S:PV}{ss:List ya}{es:List PV}(hS:zd S ss es){i:Nat}(hi:i < ss.length)(h8:ss[i].ba.length<=8)(nl:Bool)(os:List PV)(m:Nat)(F:List PV):
 Ia (fun r=>∃ E,r=(.exit 2,⟨E,[.tok 2048 m nl,xa F,xa (qn ss[i])]⟩)/\E.get 1= .pv (.rp [S] 0)/\E.get 5= .uq 0 nl 2048 os/\E.get 6= .ptr 1 0/\E.get 7= .pv (aa i)/\E.get 8= .ptr 2 0)
  (Mb (Aa (ua call IG) (ta 3 [1,5,6,7,8,9])) Ga ⟨UD S nl os i 0,[.tok 2048 m nl,xa F,xa (Tc 2048 fun _=>false)]⟩):=by
 obtain⟨P,ps,hP,a0⟩:=hS.Nd hi
 rw[<- zah _ h8];have ln:=hP.ba.mb
 have hz:(Tc 2048 fun _=>false)=Tc 2048 (Fh ss[i] 0):=U8 fun j _=>by rw[Fh];simp
 rw[hz];generalize ss[i]=s at *;refine Bb (We (g:=Aa (ua call IG) (ta 3 [1,5,6,7,8,9]))
  (fun k t=>t=⟨UD S nl os i k,[.tok 2048 m nl,xa F,xa (Tc 2048 (Fh s k))]⟩)
  s.ba.length (by unfold Ga;omega) _ rfl ?_ ?_) (fun r h=>h.2)
 ·rintro k t hk rfl
  obtain⟨v,hv,Qf,_⟩:=hP.ba.Nd hk []
  have a1:=hP.ba.Sy hv
  have hm:=eU Qf.is Qf.sz
  have Dy:=Aah s hk;have e1:decide ((k:Int) < (s.ba.length:Int))=true:=Qa (by omega);have t2:IntKind.i64.wrap ((k:Int)+1)=((k+1:Nat):Int):=Gb (by omega)
  have hq:Ta (k:Int) 8:=by unfold Ta;omega
  have t1:((k:Int)).toNat=k:=by simp
  have pl:=Gt (A:=[.tok 2048 m nl,xa F,xa (Tc 2048 (Fh s k))]) (id:=2) (es:=Tc 2048 (Fh s k)) rfl 0 (k * 256);rw[De] at pl;have st:=Zan (A:=[.tok 2048 m nl,xa F,xa (Tc 2048 (Fh s k))]) (id:=2) (n:=2048) (off:=k * 256) (m:=256) (f:=Fh s k) (g:=Ge s.ba[k]) rfl (by omega);rw[Dy,<-jar] at st;have st2:([.tok 2048 m nl,xa F,xa (Tc 2048 (Fh s k))]:List fa).set 2 (xa (Tc 2048 (Fh s (k+1))))=[.tok 2048 m nl,xa F,xa (Tc 2048 (Fh s (k+1)))]:=rfl
  rw[st2] at st;have c1:=Ej F 3;have c2:=Ej (Tc 2048 (Fh s (k+1))) 3;have c0:Fa 3 (.tok 2048 m nl)=some (.tok 2048 m nl):=rfl;have vf:∀ st:St,st=⟨UD S nl os i (k+1:Nat),[.tok 2048 m nl,xa F,xa (Tc 2048 (Fh s (k+1)))]⟩->LN (fun k t=>t=⟨UD S nl os i k,[.tok 2048 m nl,xa F,xa (Tc 2048 (Fh s k))]⟩)
   (fun r=>∃ E,r=(.exit 2,⟨E,[.tok 2048 m nl,xa F,xa (Tc 2048 (Fh s s.ba.length))]⟩)/\E.get 1= .pv (.rp [S] 0)/\E.get 5= .uq 0 nl 2048 os/\E.get 6= .ptr 1 0/\E.get 7= .pv (aa i)/\E.get 8= .ptr 2 0) k (.norm,st):=fun st h=>h
  generalize LN _ _ k=QQ at vf ⊢;generalize xa F=oF at *;generalize xa (Tc 2048 (Fh s k))=oT at *;generalize xa (Tc 2048 (Fh s (k+1)))=R4 at *;generalize pb (Ge s.ba[k])=T at *;have fc:Ha (Fa 3) [.tok 2048 m nl,oF,R4]=some [.tok 2048 m nl,oF,R4]:=by simp only[Ha,c0,c1,c2,Lc,Vc]
  have od:∀ a b c:fa,([a,b,c]:List fa).take 3=[a,b,c]:=fun a b c=>rfl
  have d0:(0 < 3)=True:=by simp
  have d1:(1 < 3)=True:=by simp
  have d2:(2 < 3)=True:=by simp
  simp -implicitDefEqProofs only[SX,sevalprocAttr,-List.reduceReplicate,IG,ah,Xd,Wh,Vh,a0,a1,ln,e1,hm,Sa hq,t1,t2,pl,st,fc,od,d0,d1,d2,ta,Za,AV.cut,Cb,UD];exact vf _ rfl
 ·rintro t rfl
  have e1:decide ((s.ba.length:Int) < (s.ba.length:Int))=false:=Ra (by omega);generalize xa (Tc 2048 (Fh s s.ba.length))=oT;generalize xa F=oF;generalize hQ:(fun r:Ex×St=>r.1.stop=true/\_)=Q;simp -implicitDefEqProofs only[SX,sevalprocAttr,-List.reduceReplicate,IG,ah,Xd,Wh,Vh,a0,ln,e1,UD];subst hQ;exact⟨rfl,_,rfl,by simp[Tr.na],by simp[Tr.na],by simp[Tr.na],by simp[Tr.na],by simp[Tr.na]⟩
theorem Fae{i:Nat}(hi:i < 32):(je i).set (1+i) (.bool true)=je (i+1):=by
 rw[Nat.add_comm 1 i];unfold je Ib;rw[mv,Y4 _ hi]
 congr 1
 refine XI fun x hx=> ?_
 by_cases h:x=i
 ·subst h;simp
 ·rw[qa h,decide_eq_decide];omega
def Fe(ss:List ya):List PV:=ss.map fun s=> .agg (qn s)
theorem Cah(call:Ab){S:PV}{ss:List ya}{es:List PV}(hS:zd S ss es)(hw:ss.length<=32)(h8:∀ s∈ss,s.ba.length<=8):
 Ia (fun r=>∃ E nl,r=(.exit 0,⟨E,[.tok 2048 ss.length nl,xa (je ss.length)]⟩)/\E.get 1= .pv (.rp [S] 0)/\E.get 5= .uq 0 nl 2048 (Fe ss)/\E.get 6= .ptr 1 0)
  (Mb (Aa (ua call HG) (ta 2 [1,5,6,7])) Ga ⟨TD S true [] 0,[.tok 2048 0 true,xa (je 0)]⟩):=by
 have ln:=hS.mb
 refine Bb (We (g:=Aa (ua call HG) (ta 2 [1,5,6,7]))
  (fun i t=>∃ nl,t=⟨TD S nl (Fe (ss.take i)) i,[.tok 2048 i nl,xa (je i)]⟩)
  ss.length (by unfold Ga;omega) _ ⟨true,rfl⟩ ?_ ?_) (fun r h=>h.2)
 ·rintro i t hi ⟨nl,rfl⟩
  have Tf:=Bah call hS hi (h8 _ (ic hi)) nl (Fe (ss.take i)) i (je (i+1));have Th:Fe (ss.take (i+1))=Fe (ss.take i)++[.agg (qn ss[i])]:=by
   have:ss.take (i+1)=ss.take i++[ss[i]]:=by simp
   rw[this,Fe,xm];rfl
  have gf:(Fe (ss.take i)).length=i:=by rw[Fe,wb,ij];omega
  have e1:decide ((i:Int) < (ss.length:Int))=true:=Qa (by omega);have t2:=ee hi (show ss.length<=maxLen by unfold maxLen;omega);have hq:Ta (i:Int) 32:=by unfold Ta;omega
  have t1:((i:Int)).toNat=i:=by simp
  have m1:i * 1=i:=by omega
  have p1:=Gt (A:=[.tok 2048 i nl,xa (je i)]) (id:=1) (es:=je i) rfl 0 1;have p2:=Gt (A:=[.tok 2048 i nl,xa (je i)]) (id:=1) (es:=je i) rfl 1 i;rw[De] at p1;have st:=YN (A:=[.tok 2048 i nl,xa (je i)]) (id:=1) (es:=je i) rfl (k:=1+i) (by rw[je,yl];omega) (e:= .bool true) rfl rfl;rw[Fae (by omega)] at st;have st2:([.tok 2048 i nl,xa (je i)]:List fa).set 1 (xa (je (i+1)))=[.tok 2048 i nl,xa (je (i+1))]:=rfl
  rw[st2] at st;have ft:fa.box (List.map AV.pv (List.replicate 2048 (PV.bool false)))=xa (Tc 2048 fun _=>false):=by rw[V8]
  have ES:(List.replicate 2048 (PV.bool false)).length=2048:=Gq
  have vB:wa [.tok 2048 i nl,xa (je (i+1)),xa (qn ss[i])] true 2048 (.ptr 2 0)=some (.pv (.agg (qn ss[i]))):=mF (id:=2) rfl (El _ _);have vd:=Jo (A:=[.tok 2048 i nl,xa (je (i+1)),xa (qn ss[i])]) (id:=0) (n:=i) (sz:=2048) (h:= .uq) (nl:=nl) (ag:=true) (bytes:=2048) (es:=Fe (ss.take i)) rfl gf.symm (by unfold Ac;omega) (.agg (qn ss[i]))
  rw[<- Th,Qo] at vd;have c1:=Ej (je i) 3;have c1':=Ej (je (i+1)) 3;have c2:=Ej (je (i+1)) 2;have c3:=Ej (Tc 2048 fun _=>false) 3;have c0:∀ k n nl,Fa k (.tok 2048 n nl)=some (.tok 2048 n nl):=fun k n nl=>rfl;have GZ:=X8 2048 (Fh ss[i] 8);have vr:=El 2048 (Fh ss[i] 8);have vf:∀ st:St,st=⟨TD S false (Fe (ss.take (i+1))) (i+1:Nat),[.tok 2048 (i+1) false,xa (je (i+1))]⟩->LN (fun i t=>∃ nl,t=⟨TD S nl (Fe (ss.take i)) i,[.tok 2048 i nl,xa (je i)]⟩)
   (fun r=>∃ E nl,r=(.exit 0,⟨E,[.tok 2048 ss.length nl,xa (je ss.length)]⟩)/\E.get 1= .pv (.rp [S] 0)/\E.get 5= .uq 0 nl 2048 (Fe ss)/\E.get 6= .ptr 1 0) i (.norm,st):=fun st h=>⟨false,h⟩
  generalize LN _ _ i=QQ at vf ⊢;have Yah:Ha (Fa 3) [.tok 2048 i nl,xa (je (i+1)),xa (Tc 2048 fun _=>false)]=some [.tok 2048 i nl,xa (je (i+1)),xa (Tc 2048 fun _=>false)]:=by simp only[Ha,c0,c1',c3,Lc,Vc]
  have uu:Ha (Fa 2) [.tok 2048 (i+1) false,xa (je (i+1))]=some [.tok 2048 (i+1) false,xa (je (i+1))]:=by simp only[Ha,c0,c2,Lc,Vc]
  change ∀ e∈qn ss[i],_ at GZ;change (qn ss[i]).length=2048 at vr
  generalize qn ss[i]=T at *;generalize Fe (ss.take i)=os at *;generalize Fe (ss.take (i+1))=eF at *;generalize cm:List.replicate 2048 (PV.bool false)=zs at *
  have Rh:((T.map AV.pv).all AV.one)=true:=by
   rw[Df];intro v hv;obtain⟨e,he,rfl⟩:=Re.1 hv
   exact GZ e he
  have My:za (zs.map AV.pv++[]) 0 (T.map AV.pv)=T.map AV.pv:=by have:=CO (T.map AV.pv) (zs.map AV.pv) [] (by simp;omega);rw[yi];simpa using this
  have hTl:(T.map AV.pv).length=2048:=by rw[wb,vr]
  have iy:=Sk T;have htT:T.take 2048=T:=Ih (by omega)
  have hle:(2048<=(zs.map AV.pv++[]).length)=True:=Sa (by rw[yi,wb,ES];exact gb _);generalize hoz:xa (Tc 2048 fun _=>false)=oz at *;generalize xa (je i)=o1 at *;generalize xa (je (i+1))=o1' at *;generalize hoT:xa T=oT at *;have od:∀ a b c:fa,([a,b,c]:List fa).take 3=[a,b,c]:=fun a b c=>rfl
  have Lm:∀ a b c:fa,([a,b,c]:List fa).take 2=[a,b]:=fun a b c=>rfl
  have d0:(0 < 3)=True:=by simp
  have d1:(1 < 3)=True:=by simp
  have d2:(2 < 3)=True:=by simp
  have d02:(0 < 2)=True:=by simp
  have d12:(1 < 2)=True:=by simp
  simp -implicitDefEqProofs only[SP,WP,za,sevalprocAttr,-List.reduceReplicate,HG,Oc,ah,Xd,ln,e1,Sa hq,t1,m1,p1,p2,st,cm,ft,Yah,od,d0,d1,d2,ta,Za,AV.cut,Cb,TD];refine Bb Tf ?_;rintro r ⟨E,rfl,g1,g5,g6,g7,g8⟩;simp -implicitDefEqProofs only[SP,WP,za,sevalprocAttr,-List.reduceReplicate,g1,g5,g6,g7,g8,vB,cm,hTl,Rh,My,vd,iy,htT,hle,t2,uu,Lm,d02,d12,ta,Za,AV.cut,Cb];exact vf _ rfl
 ·rintro t ⟨nl,rfl⟩
  rw[ai];have e1:decide ((ss.length:Int) < (ss.length:Int))=false:=Ra (by omega);generalize xa (je ss.length)=oF;generalize Fe ss=os;generalize hQ:(fun r:Ex×St=>r.1.stop=true/\_)=Q;simp -implicitDefEqProofs only[SX,sevalprocAttr,-List.reduceReplicate,HG,ah,Xd,ln,e1,TD];subst hQ;exact⟨rfl,_,nl,rfl,by simp[Tr.na],by simp[Tr.na],by simp[Tr.na]⟩
def yf(f:Nat->Bool):Nat->Bool
 |0=>false
 |n+1=>yf f n||f n
def Nc(ss:List ya)(a:Al)(x j:Nat):Bool:=a.2.toNat.testBit j&&(match ss[j]? with | some s=>Ek s a.1 x | none=>false)
def Bi(ss:List ya)(a:Al)(x j:Nat):Bool:=Nc ss a x j&&(match ss[j]? with | some s=>((s.ba.length:Int)==(a.1:Int)+1) | none=>false)
abbrev Tx(S:PV)(nl xh:Bool)(os es rs:List PV)(n x i:Int)(so en:Bool):Tr:=
 ((((((((((Tr.lf.set 18 (.pv (aa i))).set 17 (.pv (.bool en))).set 16 (.pv (.bool so))).set 15 (.ptr 5 0)).set 14 (.pv (aa x))).set 13 (.ptr 4 0)).set 12 (.pv (aa n))).set 11 (.uq 3 xh 256 rs)).set 10 (.uq 2 false 33 es)).set 5 (.uq 0 nl 2048 os)).set 1 (.pv (.rp [S] 0))
theorem s8(d:Int)(f:Nat->Bool){i:Nat}(h:i < 32):(Ib d f)[1+i]? =some (.bool (f i)):=by
 rw[Nat.add_comm,Ib,Jj,sU f h]
theorem G9(H:List fa)(id:Nat)(nl:Bool){l:List Al}{i:Nat}{a:Al}(ha:l[i]? =some a):Ua H 33 (.uq id nl 33 (l.map Mc)) (i:Int)=some (.pv (.rp (Ib a.1 a.2.toNat.testBit) 0)):=by
 have hi:=(Ad.1 ha).1
 simp only[Ua];rw[if_pos (by refine⟨trivial,?_⟩;unfold Ta;simp;omega)];simp[ha,Mc,PV.cells]
theorem jas(H:List fa)(id:Nat)(nl:Bool){ss:List ya}{i:Nat}(hi:i < ss.length):Ua H 2048 (.uq id nl 2048 (Fe ss)) (i:Int)=some (.pv (.rp (qn ss[i]) 0)):=by
 simp only[Ua];rw[if_pos (by refine⟨trivial,?_⟩;unfold Ta Fe;simp;omega)];simp[hi,Fe,PV.cells]
theorem yq(H:List fa)(row:List PV)(o d:Nat):place H d (.pv (.rp row o))=some (.pv (.rp row (o+d))):=rfl
theorem nJ{row:List PV}{k:Nat}{e:PV}(h:row[k]? =some e)(H:List fa):wa H false 1 (.pv (.rp row k))=some (.pv e):=by
 simp only[wa,Dj,Sc,if_false,h,Vc]
theorem jaq(call:Ab){S:PV}{ss:List ya}{es:List PV}(hS:zd S ss es)(hw:ss.length<=32)(h8:∀ s∈ss,s.ba.length<=8){ma:List Al}{n x:Nat}{a:Al}(ha:ma[n]? =some a)(hx:x < 256)
 (ga:∀ i s,ss[i]? =some s->a.2.toNat.testBit i=true->a.1 < s.ba.length) (hd:a.1<=64)
 (nl xh:Bool) (rs:List PV) (o0 o1 o2 o3 o4:fa) (hc:Ha (Fa 6) [o0,o1,o2,o3,o4]=some [o0,o1,o2,o3,o4]):
 Ia (fun r=>∃ E,r=(.exit 8,⟨E,[o0,o1,o2,o3,o4,xa (Ib ((a.1:Int)+1) fun j=>decide (j < ss.length)&&Nc ss a x j)]⟩)/\E.get 1= .pv (.rp [S] 0)/\E.get 5= .uq 0 nl 2048 (Fe ss)/\E.get 10= .uq 2 false 33 (ma.map Mc)/\E.get 11= .uq 3 xh 256 rs/\E.get 12= .pv (aa n)/\E.get 13= .ptr 4 0/\E.get 14= .pv (aa x)/\E.get 15= .ptr 5 0/\
  E.get 16= .pv (.bool (yf (Nc ss a x) ss.length))/\E.get 17= .pv (.bool (yf (Bi ss a x) ss.length)))
  (Mb (Aa (ua call xA) (ta 6 [1,5,10,11,12,13,14,15,16,17,18])) Ga ⟨Tx S nl xh (Fe ss) (ma.map Mc) rs n x 0 false false,[o0,o1,o2,o3,o4,xa (Ib ((a.1:Int)+1) fun _=>false)]⟩):=by
 have ln:=hS.mb
 have a0:(Ib ((a.1:Int)+1) fun _=>false)=Ib ((a.1:Int)+1) fun j=>decide (j < 0)&&Nc ss a x j:=by simp
 rw[a0];refine Bb (We (g:=Aa (ua call xA) (ta 6 [1,5,10,11,12,13,14,15,16,17,18]))
  (fun i t=>t=⟨Tx S nl xh (Fe ss) (ma.map Mc) rs n x i (yf (Nc ss a x) i) (yf (Bi ss a x) i),[o0,o1,o2,o3,o4,xa (Ib ((a.1:Int)+1) fun j=>decide (j < i)&&Nc ss a x j)]⟩)
  ss.length (by unfold Ga;omega) _ rfl ?_ ?_) (fun r h=>h.2)
 ·rintro i t hi rfl
  obtain⟨P,ps,hP,b0⟩:=hS.Nd hi
  have lP:=hP.ba.mb
  have yT:ss[i]? =some ss[i]:=Rb hi;have fZ:=ga i _ yT;have h8i:=h8 _ (ic hi);have i1:=fun H=>G9 H 2 false ha;have i2:=fun H=>jas H 0 nl hi;have l1:=nJ (s8 (a.1:Int) a.2.toNat.testBit (i:=i) (by omega));have l0:=nJ (show (Ib (a.1:Int) a.2.toNat.testBit)[0]? =some (aa a.1) from rfl);have l2:a.1 < ss[i].ba.length->∀ H,wa H false 1 (.pv (.rp (qn ss[i]) (a.1 * 256+x)))=some (.pv (.bool (Ek ss[i] a.1 x))):=by intro hlt;refine nJ ?_;rw[qn,TO _ (by omega),Fh,show (a.1 * 256+x) / 256=a.1 by omega,show (a.1 * 256+x) % 256=x by omega,decide_eq_true (show a.1 < 8 by omega),ng]
  have onE:Nc ss a x i=(a.2.toNat.testBit i&&Ek ss[i] a.1 x):=by rw[Nc,yT]
  have enE:Bi ss a x i=(Nc ss a x i&&((ss[i].ba.length:Int)==(a.1:Int)+1)):=by rw[Bi,yT]
  have p1:=Gt (A:=[o0,o1,o2,o3,o4,xa (Ib ((a.1:Int)+1) fun j=>decide (j < i)&&Nc ss a x j)]) (id:=5) (es:=Ib ((a.1:Int)+1) fun j=>decide (j < i)&&Nc ss a x j) rfl 0 1;have p2:=Gt (A:=[o0,o1,o2,o3,o4,xa (Ib ((a.1:Int)+1) fun j=>decide (j < i)&&Nc ss a x j)]) (id:=5) (es:=Ib ((a.1:Int)+1) fun j=>decide (j < i)&&Nc ss a x j) rfl 1 i;rw[De] at p1;have st:=YN (A:=[o0,o1,o2,o3,o4,xa (Ib ((a.1:Int)+1) fun j=>decide (j < i)&&Nc ss a x j)]) (id:=5) (es:=Ib ((a.1:Int)+1) fun j=>decide (j < i)&&Nc ss a x j) rfl (k:=1+i) (by rw[yl];omega) (e:= .bool (Nc ss a x i)) rfl rfl;have Up:(Ib ((a.1:Int)+1) fun j=>decide (j < i)&&Nc ss a x j).set (1+i) (.bool (Nc ss a x i))=Ib ((a.1:Int)+1) fun j=>decide (j < i+1)&&Nc ss a x j:=by
   rw[Nat.add_comm 1 i];unfold Ib;rw[mv,Y4 _ (by omega)]
   congr 1
   refine XI fun j hj=> ?_
   by_cases h:j=i
   ·subst h;simp
   ·rw[qa h]
    congr 1
    rw[decide_eq_decide];omega
  rw[Up] at st;have st2:([o0,o1,o2,o3,o4,xa (Ib ((a.1:Int)+1) fun j=>decide (j < i)&&Nc ss a x j)]:List fa).set 5 (xa (Ib ((a.1:Int)+1) fun j=>decide (j < i+1)&&Nc ss a x j))=[o0,o1,o2,o3,o4,xa (Ib ((a.1:Int)+1) fun j=>decide (j < i+1)&&Nc ss a x j)]:=rfl
  rw[st2] at st;have q1:=Gt (A:=[o0,o1,o2,o3,o4,xa (Ib ((a.1:Int)+1) fun j=>decide (j < i+1)&&Nc ss a x j)]) (id:=5) (es:=Ib ((a.1:Int)+1) fun j=>decide (j < i+1)&&Nc ss a x j) rfl 0 1;have q0:=Gt (A:=[o0,o1,o2,o3,o4,xa (Ib ((a.1:Int)+1) fun j=>decide (j < i+1)&&Nc ss a x j)]) (id:=5) (es:=Ib ((a.1:Int)+1) fun j=>decide (j < i+1)&&Nc ss a x j) rfl 0 0;have q2:=Gt (A:=[o0,o1,o2,o3,o4,xa (Ib ((a.1:Int)+1) fun j=>decide (j < i+1)&&Nc ss a x j)]) (id:=5) (es:=Ib ((a.1:Int)+1) fun j=>decide (j < i+1)&&Nc ss a x j) rfl 1 i;rw[De] at q1 q0;have k1:=zU (A:=[o0,o1,o2,o3,o4,xa (Ib ((a.1:Int)+1) fun j=>decide (j < i+1)&&Nc ss a x j)]) (id:=5) (es:=Ib ((a.1:Int)+1) fun j=>decide (j < i+1)&&Nc ss a x j) rfl (s8 _ _ (i:=i) (by omega));have k0:=zU (A:=[o0,o1,o2,o3,o4,xa (Ib ((a.1:Int)+1) fun j=>decide (j < i+1)&&Nc ss a x j)]) (id:=5) (es:=Ib ((a.1:Int)+1) fun j=>decide (j < i+1)&&Nc ss a x j) rfl (k:=0) (e:=aa ((a.1:Int)+1)) rfl;rw[decide_eq_true (SC i),ng] at k1;have c5:=Ej (Ib ((a.1:Int)+1) fun j=>decide (j < i+1)&&Nc ss a x j) 6;have e1:decide ((i:Int) < (ss.length:Int))=true:=Qa (by omega);have t2:=ee hi (show ss.length<=maxLen by unfold maxLen;omega);have hq:Ta (i:Int) 32:=by unfold Ta;omega
  have uT:Ta (x:Int) 256:=by unfold Ta;omega
  have t1:∀ i:Nat,((i:Int)).toNat=i:=fun i=>by simp
  have m1:∀ i:Nat,i * 1=i:=fun i=>by omega
  have z1:∀ i:Nat,0+i=i:=fun i=>by omega
  have vf:∀ st:St,st=⟨Tx S nl xh (Fe ss) (ma.map Mc) rs n x (i+1:Nat) (yf (Nc ss a x) i||Nc ss a x i) (yf (Bi ss a x) i||Bi ss a x i),[o0,o1,o2,o3,o4,xa (Ib ((a.1:Int)+1) fun j=>decide (j < i+1)&&Nc ss a x j)]⟩->
   LN (fun i t=>t=⟨Tx S nl xh (Fe ss) (ma.map Mc) rs n x i (yf (Nc ss a x) i) (yf (Bi ss a x) i),[o0,o1,o2,o3,o4,xa (Ib ((a.1:Int)+1) fun j=>decide (j < i)&&Nc ss a x j)]⟩)
   (fun r=>∃ E,r=(.exit 8,⟨E,[o0,o1,o2,o3,o4,xa (Ib ((a.1:Int)+1) fun j=>decide (j < ss.length)&&Nc ss a x j)]⟩)/\E.get 1= .pv (.rp [S] 0)/\E.get 5= .uq 0 nl 2048 (Fe ss)/\E.get 10= .uq 2 false 33 (ma.map Mc)/\E.get 11= .uq 3 xh 256 rs/\E.get 12= .pv (aa n)/\E.get 13= .ptr 4 0/\E.get 14= .pv (aa x)/\E.get 15= .ptr 5 0/\
    E.get 16= .pv (.bool (yf (Nc ss a x) ss.length))/\E.get 17= .pv (.bool (yf (Bi ss a x) ss.length))) i (.norm,st):=fun st h=>h
  generalize LN _ _ i=QQ at vf ⊢;generalize (Ib ((a.1:Int)+1) fun j=>decide (j < i)&&Nc ss a x j)=Y at *;generalize (Ib ((a.1:Int)+1) fun j=>decide (j < i+1)&&Nc ss a x j)=Y' at *;generalize Ib (a.1:Int) a.2.toNat.testBit=row at *
  generalize xa Y=oY at *;generalize xa Y'=S4 at *;have fc:Ha (Fa 6) [o0,o1,o2,o3,o4,S4]=some [o0,o1,o2,o3,o4,S4]:=by
   simp only[Ha,Hd,dc] at hc;simp only[Ha];obtain⟨_,h0,_,⟨_,h1,_,⟨_,h2,_,⟨_,h3,_,⟨_,h4,_⟩,_⟩,_⟩,_⟩,hh⟩:=hc
   simp_all
  have od:∀ a b c d e f:fa,([a,b,c,d,e,f]:List fa).take 6=[a,b,c,d,e,f]:=fun a b c d e f=>rfl
  have d0:(0 < 6)=True:=by simp
  have d2:(2 < 6)=True:=by simp
  have d3:(3 < 6)=True:=by simp
  have d4:(4 < 6)=True:=by simp
  have d5:(5 < 6)=True:=by simp
  generalize qn ss[i]=Xc at *;generalize ss[i]=s at *;generalize Fe ss=os at *;generalize ma.map Mc=se at *
  generalize yf (Nc ss a x) i=so at *;generalize yf (Bi ss a x) i=en at *;generalize hle:((s.ba.length:Int)==(a.1:Int)+1)=le at *;rw[enE] at vf;rw[onE] at st k1 vf;generalize hbb:a.2.toNat.testBit i=bb at *
  generalize Ek s a.1 x=mm at *
  have hm6:(10<=20)=True:=by simp
  cases bb with
  |false=>
   simp only[Ko,xz] at st k1 vf;cases so <;> cases en <;>
   ·simp -implicitDefEqProofs only[SX,sevalprocAttr,xA,ah,Xd,yq,ln,e1,t2,i1,i2,l0,l1,Sa hq,Sa uT,t1,m1,z1,p1,p2,st,q0,q1,q2,k0,k1,fc,od,d0,d2,d3,d4,d5,ta,Za,AV.cut,Cb,Tx]
    exact vf _ rfl
  |true=>
   have B2:=l2 (fZ rfl);have RZ:Ta (a.1:Int) 8:=by have:=fZ rfl;unfold Ta;omega
   simp only[ng] at st k1 vf;cases mm with
   |false=>
    simp only[Ko,xz] at vf;cases so <;> cases en <;>
    ·simp -implicitDefEqProofs only[SX,sevalprocAttr,xA,ah,Xd,yq,ln,e1,t2,i1,i2,l0,l1,B2,Sa hq,Sa uT,Sa RZ,t1,m1,z1,p1,p2,st,q0,q1,q2,k0,k1,fc,od,d0,d2,d3,d4,d5,ta,Za,AV.cut,Cb,Tx]
     exact vf _ rfl
   |true=>
    simp only[ng,Bool.or_true] at vf;cases so <;> cases en <;>
    ·simp -implicitDefEqProofs only[SX,sevalprocAttr,xA,ah,Xd,Wh,Vh,yq,ln,lP,b0,e1,t2,i1,i2,l0,l1,B2,Sa hq,Sa uT,Sa RZ,t1,m1,z1,p1,p2,st,q0,q1,q2,k0,k1,hle,fc,od,d0,d2,d3,d4,d5,ta,Za,AV.cut,Cb,Tx]
     exact vf _ rfl
 ·rintro t rfl
  have e1:decide ((ss.length:Int) < (ss.length:Int))=false:=Ra (by omega);generalize xa (Ib ((a.1:Int)+1) fun j=>decide (j < ss.length)&&Nc ss a x j)=oF;generalize Fe ss=os;generalize ma.map Mc=se
  generalize yf (Nc ss a x) ss.length=so
  generalize yf (Bi ss a x) ss.length=en
  generalize hQ:(fun r:Ex×St=>r.1.stop=true/\_)=Q;simp -implicitDefEqProofs only[SX,sevalprocAttr,xA,ah,Xd,ln,e1,Tx];subst hQ;exact⟨rfl,_,rfl,by simp[Tr.na],by simp[Tr.na],by simp[Tr.na],by simp[Tr.na],by simp[Tr.na],by simp[Tr.na],by simp[Tr.na],by simp[Tr.na],by simp[Tr.na],by simp[Tr.na]⟩
theorem R6{x:Int}:∀ {l:List (Int×Int)}{last n:Int},Ub 255 last l=true->((Ld x n l).2=true↔Mf x l)
 | [],last,n,h=>by simp[Ld,Dw]
 |p::l,last,n,h=>by
  have hp:=FJ h p (by simp);have h2:=h;simp only[Ub,fb] at h2;rw[Ld,Vy]
  by_cases h1:x < p.1
  ·rw[if_pos h1]
   simp only[Sc,false_iff];rintro (h3 | h3)
   ·omega
   ·have:=YO h2.2 h3;omega
  ·rw[qa h1]
   by_cases h3:x<=p.2
   ·rw[if_pos h3];simp;omega
   ·rw[qa h3,R6 h2.2]
    constructor
    ·exact .inr
    ·rintro (h4 | h4)
     ·omega
     ·exact h4
theorem ZY(l:List (Int×Int))(x:Nat):bB l x=Ge l x:=by
 unfold bB Pn Ge
 by_cases h:Ub 255 (-2) l=true
 ·rw[if_pos h,h,ng,yC,R6 h,HB]
 ·rw[qa h]
  have:Ub 255 (-2) l=false:=by simpa using h
  rw[this];rfl
theorem sS(s:ya)(d x:Nat):Mp s d x=Ek s d x:=by
 unfold Mp Ek;cases s.ba[d]? with
 |none=>rfl
 |some l=>exact ZY l x
theorem pG(f:Nat->Bool):∀ n,yf f n=true↔∃ j,j < n/\f j=true
 |0=>by simp[yf]
 |n+1=>by
  rw[yf,Nr,pG f n];constructor
  ·rintro (⟨j,h1,h2⟩ | h)
   ·exact⟨j,by omega,h2⟩
   ·exact⟨n,by omega,h⟩
  ·rintro⟨j,h1,h2⟩
   by_cases h:j=n
   ·subst h;exact .inr h2
   ·exact .inl ⟨j,by omega,h2⟩
theorem W4{ss:List ya}{a:Al}{x j:Nat}(h:ss.length<=j):Nc ss a x j=false:=by
 rw[Nc,dh h,Bool.and_false]
structure Ww(ss:List ya)(a:Al)(x:Nat)(m:Nat):Prop where
 fst:(fe x a.2 a.1 0 ss (0,false)).1=(m:Int)
 lt:m < 4294967296
 bit:∀ j,m.testBit j=Nc ss a x j
 ends:(fe x a.2 a.1 0 ss (0,false)).2=yf (Bi ss a x) ss.length
 ex:m≠0↔yf (Nc ss a x) ss.length=true
theorem gW{ss:List ya}{a:Al}(hb:Mr a)(hw:ss.length<=32)(x:Nat):∃ m,Ww ss a x m:=by
 obtain⟨d,_⟩:=a;obtain⟨b,rfl,hb⟩:=hb;have hN:fe x (b:Int) d 0 ss (0,false)=(((Nj x b d 0 ss (0,false)).1:Int),(Nj x b d 0 ss (0,false)).2):=HQ (x:=x) (d:=d) hb ss 0 (0,false) (by omega) (by decide);have ru:∀ j,(Nj x b d 0 ss (0,false)).1.testBit j=Nc ss (d,(b:Int)) x j:=by
  intro j;rw[GQ];simp only[Nat.zero_testBit,Ql,decide_true,ng,Xw,Xz,Nc,Uc];cases ss[j]? with
  |none=>simp
  |some s=>simp only[sS]
 refine⟨(Nj x b d 0 ss (0,false)).1,?_,FQ ss 0 (0,false) (by omega) (by decide),ru,?_,?_⟩
 ·show (fe x (b:Int) d 0 ss (0,false)).1=_
  rw[hN]
 ·show (fe x (b:Int) d 0 ss (0,false)).2=_
  rw[hN];show (Nj x b d 0 ss (0,false)).2=_
  rw[DQ,Xw,yC,OC,pG];constructor
  ·rintro⟨⟨s,j⟩,h1,h2⟩
   rw[List.mk_mem_zipIdx_iff_getElem?] at h1;have hj:=(Ad.1 h1).1
   refine⟨j,hj,?_⟩;simp only[sS,fb,beq_iff_eq] at h2;rw[Bi,Nc,h1];simp only[Uc,fb,beq_iff_eq];exact⟨h2.1,by omega⟩
  ·rintro⟨j,hj,h2⟩
   have h1:ss[j]? =some ss[j]:=Rb hj;rw[Bi,Nc,h1] at h2;simp only[Uc,fb,beq_iff_eq] at h2;refine⟨(ss[j],j),by rw[List.mk_mem_zipIdx_iff_getElem?];exact h1,?_⟩;simp only[sS,fb,beq_iff_eq];exact⟨h2.1,by omega⟩
 ·rw[pG]
  constructor
  ·intro h
   apply iP;intro hn;apply h;apply Nat.eq_of_testBit_eq
   intro j;rw[ru,Nat.zero_testBit]
   by_cases hj:j < ss.length
   ·cases hc:Nc ss (d,(b:Int)) x j with
    |false=>rfl
    |true=>exact absurd ⟨j,hj,hc⟩ hn
   ·exact W4 (by omega)
  ·rintro⟨j,hj,h⟩ h0
   rw[<- ru,h0,Nat.zero_testBit] at h;cases h
theorem Ww.enc{ss:List ya}{a:Al}{x m:Nat}(h:Ww ss a x m):Ib ((a.1:Int)+1) (fun j=>decide (j < ss.length)&&Nc ss a x j)=Ib ((a.1+1:Nat):Int) m.testBit:=by
 have:((a.1+1:Nat):Int)=(a.1:Int)+1:=by omega
 rw[this];unfold Ib
 congr 1
 refine XI fun j hj=> ?_;rw[h.bit]
 by_cases hj:j < ss.length
 ·rw[decide_eq_true hj,ng]
 ·rw[decide_eq_false hj,Ko,W4 (by omega)]
theorem Ww.fab{ss:List ya}{a:Al}{x m:Nat}(h:Ww ss a x m):Mr (a.1+1,(m:Int)):=⟨m,rfl,h.lt⟩
theorem Ww.step{ss:List ya}{a:Al}{x m:Nat}(h:Ww ss a x m)(ma:List Al):
 bg ss a x ma=if yf (Nc ss a x) ss.length=false then some (ma,-2)
  else if yf (Bi ss a x) ss.length=true then some (ma,-1)
  else match Wg (a.1+1,(m:Int)) ma 0 with
   |some k=>some (ma,(k:Int))
   |none=>if ma.length < 64 then some (ma++[(a.1+1,(m:Int))],(ma.length:Int)) else none:=by
 unfold bg;rw[h.ends,h.fst];have:((m:Int)=0)=(yf (Nc ss a x) ss.length=false):=by
  apply propext;have:=h.ex
  cases hc:yf (Nc ss a x) ss.length with
  |true=>rw[hc] at this;simp;have:=this.2 rfl;omega
  |false=>rw[hc] at this;simp;exact iP fun hn=>by have:=this.1 hn;cases this
 by_cases h1:yf (Nc ss a x) ss.length=false
 ·rw[if_pos h1,if_pos (this.mpr h1)]
 ·rw[qa h1,qa (fun h=>h1 (this.mp h))]
  by_cases h2:yf (Bi ss a x) ss.length=true
  ·rw[if_pos h2,if_pos h2]
  ·rw[qa h2,qa h2]
   cases Wg (a.1+1,(m:Int)) ma 0 <;> rfl
abbrev Pv(S:PV)(nl xh:Bool)(os es rs:List PV)(n x:Int):Tr:=
 ((((((Tr.lf.set 14 (.pv (aa x))).set 13 (.ptr 4 0)).set 12 (.pv (aa n))).set 11 (.uq 3 xh 256 rs)).set 10 (.uq 2 false 33 es)).set 5 (.uq 0 nl 2048 os)).set 1 (.pv (.rp [S] 0))
theorem W9:([PV.int .i64 0,PV.bool false,PV.bool false,PV.bool false,PV.bool false,PV.bool false,PV.bool false,PV.bool false,PV.bool false,PV.bool false,PV.bool false,PV.bool false,PV.bool false,PV.bool false,PV.bool false,PV.bool false,PV.bool false,PV.bool false,PV.bool false,PV.bool false,PV.bool false,PV.bool false,PV.bool false,PV.bool false,PV.bool false,PV.bool false,PV.bool false,PV.bool false,PV.bool false,PV.bool false,PV.bool false,PV.bool false,PV.bool false]:List PV)=Ib 0 fun _=>false:=rfl
theorem Wap(d e:Int)(f:Nat->Bool):((Ib d f).map AV.pv).set 0 (.pv (aa e))=(Ib e f).map AV.pv:=rfl
theorem BP{es:List PV}(h:∀ e∈es,(AV.pv e).one=true):(es.map AV.pv).all AV.one=true:=by
 rw[Df];intro v hv;obtain⟨e,he,rfl⟩:=Re.1 hv
 exact h e he
theorem bV{es zs:List PV}(h:es.length=zs.length):za (zs.map AV.pv++[]) 0 (es.map AV.pv)=es.map AV.pv:=by
 have:=CO (es.map AV.pv) (zs.map AV.pv) [] (by simp;omega);rw[yi];simpa using this
section
variable (call:Ab){S:PV}{ss:List ya}{es:List PV}(hS:zd S ss es)(hw:ss.length<=32)(h8:∀ s∈ss,s.ba.length<=8){ma:List Al}{n x:Nat}{a:Al}(ha:ma[n]? =some a)(hx:x < 256)
 (ga:lk ss ma) (hd:a.1<=64)
 (nl xh:Bool) (rs:List PV) (o0 o1 o3:fa) (h0:∀ n,Fa n o0=some o0) (h1:∀ n,Fa n o1=some o1) (h3:∀ n,Fa n o3=some o3) {row:List Int} (Xc:row.length=256)
include hS hw h8 ha hx ga hd h0 h1 h3 Xc
set_option maxRecDepth 8000 in
theorem iaq:
 Ia (fun r=>(∃ p,bg ss a x ma=some p/\r=(.norm,⟨Pv S nl xh (Fe ss) (p.1.map Mc) rs n (x+1:Nat),[o0,o1,.tok 33 p.1.length false,o3,xa ((row.set x p.2).map aa)]⟩))\/
  (bg ss a x ma=none/\∃ E H,r=(.ret,⟨E,H⟩)/\E.get 2= .pv .oa/\E.get 3= .pv .oa/\E.get 4= .pv (.bool false)))
  (Aa (ua call qD) (ta 5 [1,5,10,11,12,13,14]) ⟨Pv S nl xh (Fe ss) (ma.map Mc) rs n x,[o0,o1,.tok 33 ma.length false,o3,xa (row.map aa)]⟩):=by
 obtain⟨_,b,hb,Np,Hah⟩:=ga.2 n a ha
 have my:Mr a:=⟨b,hb,Np⟩;have Rh:∀ c∈ma,Mr c:=by
  intro c hc;obtain⟨k,hk,rfl⟩:=uj hc;obtain⟨_,b,hb,Np,_⟩:=ga.2 k _ (Rb hk)
  exact⟨b,hb,Np⟩
 have XS:=ga.1
 obtain⟨m,hm⟩:=gW (x:=x) my hw;have Zl:=hm.step ma
 have BS:∀ n (r:List Int),Fa n (xa (r.map aa))=some (xa (r.map aa)):=fun n r=>Ej _ n;have c2:∀ k n,Fa k (.tok 33 n false)=some (.tok 33 n false):=fun k n=>rfl;have hc6:Ha (Fa 6) [o0,o1,.tok 33 ma.length false,o3,xa (row.map aa)]=some [o0,o1,.tok 33 ma.length false,o3,xa (row.map aa)]:=by simp only[Ha,h0,h1,h3,c2,BS,Lc,Vc]
 have zE:=jaq call hS hw h8 ha hx (fun i s hs ht=>Hah i s hs (by rw[hb] at ht;simpa using ht)) hd nl xh rs o0 o1 (.tok 33 ma.length false) o3 (xa (row.map aa)) hc6;rw[hm.enc] at zE;have i1:=fun H=>G9 H 2 false ha;have l0:=nJ (show (Ib (a.1:Int) a.2.toNat.testBit)[0]? =some (aa a.1) from rfl);have e1:decide ((x:Int) < 256)=true:=Qa (by omega);have t2:IntKind.i64.wrap ((x:Int)+1)=((x+1:Nat):Int):=Gb (by omega)
 have t3:IntKind.i64.wrap ((a.1:Int)+1)=(a.1:Int)+1:=Gb (by omega)
 have hq:Ta (x:Int) 256:=by unfold Ta;omega
 have t1:∀ i:Nat,((i:Int)).toNat=i:=fun i=>by simp
 have m1:∀ i:Nat,i * 1=i:=fun i=>by omega
 have z1:∀ i:Nat,0+i=i:=fun i=>by omega
 have zl:=yl 0 fun _=>false;have f1:(0+1<=((Ib 0 fun _=>false).map AV.pv).length)=True:=Sa (by rw[wb,zl];omega);have f1':(1<=((Ib 0 fun _=>false).map AV.pv).length)=True:=Sa (by rw[wb,zl];omega);have f2:=Wap 0 ((a.1:Int)+1) fun _=>false;have f3:=Sk (Ib ((a.1:Int)+1) fun _=>false);have rj:Db [o0,o1,.tok 33 ma.length false,o3,xa (row.map aa),xa (Ib 0 fun _=>false)] 33 (.ptr 5 0) (.pv (.agg (Ib ((a.1:Int)+1) fun _=>false)))=some [o0,o1,.tok 33 ma.length false,o3,xa (row.map aa),xa (Ib ((a.1:Int)+1) fun _=>false)]:=
  ZN (id:=5) rfl zl (yl _ _) (vJ _ _)
 have bai:∀ Y:List PV,Ha (Fa 6) [o0,o1,.tok 33 ma.length false,o3,xa (row.map aa),xa Y]=some [o0,o1,.tok 33 ma.length false,o3,xa (row.map aa),xa Y]:=by intro Y;simp only[Ha,h0,h1,h3,c2,BS,Ej Y 6,Lc,Vc]
 have cai:=bai (Ib ((a.1:Int)+1) fun _=>false);have Rs:∀ (k:Nat)(r:List Int),Ha (Fa 5) [o0,o1,.tok 33 k false,o3,xa (r.map aa)]=some [o0,o1,.tok 33 k false,o3,xa (r.map aa)]:=by intro k r;simp only[Ha,h0,h1,h3,c2,BS,Lc,Vc]
 have Zaj:∀ a b c d e f:fa,([a,b,c,d,e,f]:List fa).take 6=[a,b,c,d,e,f]:=fun a b c d e f=>rfl
 have Iu:∀ a b c d e f:fa,([a,b,c,d,e,f]:List fa).take 5=[a,b,c,d,e]:=fun a b c d e f=>rfl
 have d6:∀ k:Fin 6,((k:Nat) < 6)=True:=by intro k;simp
 have d60:(0 < 6)=True:=by simp
 have d62:(2 < 6)=True:=by simp
 have d63:(3 < 6)=True:=by simp
 have d64:(4 < 6)=True:=by simp
 have d65:(5 < 6)=True:=by simp
 have d50:(0 < 5)=True:=by simp
 have d52:(2 < 5)=True:=by simp
 have d53:(3 < 5)=True:=by simp
 have d54:(4 < 5)=True:=by simp
 have pl:∀ (k:Nat)(r:List Int)(Y:List PV),place [o0,o1,.tok 33 k false,o3,xa (r.map aa),xa Y] x (.ptr 4 0)=some (.ptr 4 x):=by intro k r Y;have:=Gt (A:=[o0,o1,.tok 33 k false,o3,xa (r.map aa),xa Y]) (id:=4) (es:=r.map aa) rfl 0 x;rw[this,De]
 have st:∀ (k:Nat)(r:List Int)(Y:List PV)(v:Int),r.length=256->Db [o0,o1,.tok 33 k false,o3,xa (r.map aa),xa Y] 1 (.ptr 4 x) (.pv (aa v))=some [o0,o1,.tok 33 k false,o3,xa ((r.set x v).map aa),xa Y]:=by intro k r Y v hr;have:=YN (A:=[o0,o1,.tok 33 k false,o3,xa (r.map aa),xa Y]) (id:=4) (es:=r.map aa) rfl (k:=x) (by rw[wb];omega) (e:=aa v) rfl rfl;rw[this,Tz];rfl
 have Cj:∀ v,((row.set x (-2)).set x v)=row.set x v:=fun v=>by rw[List.set_set]
 have st1:=st ma.length row (Ib ((a.1+1:Nat):Int) m.testBit) (-2) Xc
 have st2:=fun (k:Nat) v=>st k (row.set x (-2)) (Ib ((a.1+1:Nat):Int) m.testBit) v (by simp[Xc]);simp only[Cj] at st2;have Ht:=pl ma.length row (Ib ((a.1+1:Nat):Int) m.testBit)
 have dz:=fun k=>pl k (row.set x (-2)) (Ib ((a.1+1:Nat):Int) m.testBit);have Tj:=Eae XS hm.fab Rh
 have bT:∀ (k:Nat)(r:List Int),wa [o0,o1,.tok 33 k false,o3,xa (r.map aa),xa (Ib ((a.1+1:Nat):Int) m.testBit)] true 33 (.ptr 5 0)=some (.pv (.agg (Ib ((a.1+1:Nat):Int) m.testBit))):=fun k r=>mF (id:=5) rfl (yl _ _);have ZA:((Ib ((a.1+1:Nat):Int) m.testBit).map AV.pv).length=33:=by rw[wb,yl]
 have WY:=yl ((a.1+1:Nat):Int) m.testBit
 have UH:za ((Ib 0 fun _=>false).map AV.pv++[]) 0 ((Ib ((a.1+1:Nat):Int) m.testBit).map AV.pv)=(Ib ((a.1+1:Nat):Int) m.testBit).map AV.pv:=bV (by rw[yl,yl])
 have nE:=BP (vJ ((a.1+1:Nat):Int) m.testBit);have TH:=Sk (Ib ((a.1+1:Nat):Int) m.testBit);have VH:(Ib ((a.1+1:Nat):Int) m.testBit).take 33=Ib ((a.1+1:Nat):Int) m.testBit:=Ih (by rw[yl];exact gb _)
 have f4:(33<=((Ib 0 fun _=>false).map AV.pv++[]).length)=True:=Sa (by rw[yi,wb,zl];exact gb _);have vd:ma.length < 64->Ud [o0,o1,.tok 33 ma.length false,o3,xa ((row.set x (-2)).map aa),xa (Ib ((a.1+1:Nat):Int) m.testBit)] false .uq 33 true 40 (.uq 2 false 33 (ma.map Mc)) (.pv (.lit 33 [.agg (Ib ((a.1+1:Nat):Int) m.testBit)]))=
  some (.uq 2 false 33 ((ma++[(a.1+1,(m:Int))]).map Mc),[o0,o1,.tok 33 (ma.length+1) false,o3,xa ((row.set x (-2)).map aa),xa (Ib ((a.1+1:Nat):Int) m.testBit)]):=by
  intro hlt;have:=Jo (A:=[o0,o1,.tok 33 ma.length false,o3,xa ((row.set x (-2)).map aa),xa (Ib ((a.1+1:Nat):Int) m.testBit)]) (id:=2) (n:=ma.length) (sz:=33) (h:= .uq) (nl:=false) (ag:=true) (bytes:=40) (es:=ma.map Mc) rfl (by rw[wb]) (by unfold Ac;omega) (.agg (Ib ((a.1+1:Nat):Int) m.testBit));rw[this,xm];rfl
 have hen:Mc (a.1+1,(m:Int))= .agg (Ib ((a.1+1:Nat):Int) m.testBit):=by simp[Mc]
 rw[hen] at Tj;have X2:mb [] 0 (.uq 2 false 33 (ma.map Mc))=some ma.length:=by simp[mb]
 have UZ:(ma.map Mc).length=ma.length:=wb _
 have hR1:∀ p,bg ss a x ma=some p->∀ st:St,st=⟨Pv S nl xh (Fe ss) (p.1.map Mc) rs n (x+1:Nat),[o0,o1,.tok 33 p.1.length false,o3,xa ((row.set x p.2).map aa)]⟩->(∃ p,bg ss a x ma=some p/\(Ex.norm,st)=(Ex.norm,⟨Pv S nl xh (Fe ss) (p.1.map Mc) rs n (x+1:Nat),[o0,o1,.tok 33 p.1.length false,o3,xa ((row.set x p.2).map aa)]⟩))\/
  (bg ss a x ma=none/\∃ E H,(Ex.norm,st)=(.ret,⟨E,H⟩)/\E.get 2= .pv .oa/\E.get 3= .pv .oa/\E.get 4= .pv (.bool false)):=fun p hp st h=> .inl ⟨p,hp,by rw[h]⟩
 have hR2:bg ss a x ma=none->∀ E H,E.get 2= .pv .oa->E.get 3= .pv .oa->E.get 4= .pv (.bool false)->(∃ p,bg ss a x ma=some p/\(Ex.ret,(⟨E,H⟩:St))=(Ex.norm,⟨Pv S nl xh (Fe ss) (p.1.map Mc) rs n (x+1:Nat),[o0,o1,.tok 33 p.1.length false,o3,xa ((row.set x p.2).map aa)]⟩))\/
  (bg ss a x ma=none/\∃ E' H',(Ex.ret,(⟨E,H⟩:St))=(.ret,⟨E',H'⟩)/\E'.get 2= .pv .oa/\E'.get 3= .pv .oa/\E'.get 4= .pv (.bool false)):=fun hp E H g2 g3 g4=> .inr ⟨hp,E,H,rfl,g2,g3,g4⟩
 generalize ec:(fun r:Ex×St=>_)=QQ;have hz:=W9;generalize cm:(Ib 0 fun _=>false)=zs at *;generalize IT:(Ib ((a.1:Int)+1) fun _=>false)=ys at *;generalize hYY:Ib ((a.1+1:Nat):Int) m.testBit=Y at *
 generalize Ib (a.1:Int) a.2.toNat.testBit=arow at *
 generalize hRR:xa (row.map aa)=R at *;simp -implicitDefEqProofs only[SP,WP,za,sevalprocAttr,qD,Oc,yq,e1,t3,i1,l0,hz,f1,f1',f2,f3,rj,cai,Zaj,d60,d62,d63,d64,d65,ta,Za,AV.cut,Cb,Pv];refine Bb zE ?_;rintro r ⟨E,rfl,g1,g5,g10,g11,g12,g13,g14,g15,g16,g17⟩;cases En:yf (Nc ss a x) ss.length with
 |false=>
  rw[En] at g16;rw[if_pos En] at Zl;cases sE:yf (Bi ss a x) ss.length <;>
  ·rw[sE] at g17
   simp -implicitDefEqProofs only[SP,WP,za,sevalprocAttr,g1,g5,g10,g11,g12,g13,g14,g15,g16,g17,Sa hq,t1,m1,t2,Ht,st1,Rs,Iu,d50,d52,d53,d54,ta,Za,AV.cut,Cb];subst ec;exact hR1 _ Zl _ rfl
 |true=>
  rw[En] at g16;rw[qa (by rw[En];simp)] at Zl;cases sE:yf (Bi ss a x) ss.length with
  |true=>rw[sE] at g17;rw[if_pos sE] at Zl;simp -implicitDefEqProofs only[SP,WP,za,sevalprocAttr,g1,g5,g10,g11,g12,g13,g14,g15,g16,g17,Sa hq,t1,m1,t2,Ht,dz,st1,st2,Rs,Iu,d50,d52,d53,d54,ta,Za,AV.cut,Cb];subst ec;exact hR1 _ Zl _ rfl
  |false=>
   rw[sE] at g17;rw[qa (by rw[sE];simp)] at Zl;cases yy:Wg (a.1+1,(m:Int)) ma 0 with
   |some k=>rw[yy] at Zl Tj;simp only at Zl Tj;have dk:decide ((k:Int) < 0)=false:=Ra (by omega);simp -implicitDefEqProofs only[SP,WP,za,sevalprocAttr,g1,g5,g10,g11,g12,g13,g14,g15,g16,g17,Sa hq,t1,m1,t2,Ht,dz,st1,st2,bT,Tj,dk,Rs,Iu,d50,d52,d53,d54,ta,Za,AV.cut,Cb];subst ec;exact hR1 _ Zl _ rfl
   |none=>
    rw[yy] at Zl Tj;simp only at Zl Tj;have dk:decide ((-1:Int) < 0)=true:=by decide
    by_cases hlt:ma.length < 64
    ·have aB:=vd hlt
     rw[if_pos hlt] at Zl;have PD:((ma.length:Int)==64)=false:=jj (by omega);have Fi:(ma++[(a.1+1,(m:Int))]).length=ma.length+1:=by simp
     simp -implicitDefEqProofs only[SP,WP,za,sevalprocAttr,g1,g5,g10,g11,g12,g13,g14,g15,g16,g17,Sa hq,t1,m1,t2,Ht,dz,st1,st2,bT,Tj,dk,UZ,PD,aB,hz,ZA,UH,nE,TH,VH,f4,Rs,Iu,d50,d52,d53,d54,ta,Za,AV.cut,Cb];subst ec;exact hR1 _ Zl _ (by rw[Fi])
    ·rw[qa hlt] at Zl
     have PD:((ma.length:Int)==64)=true:=by simp;omega
     simp -implicitDefEqProofs only[SP,WP,za,sevalprocAttr,g1,g5,g10,g11,g12,g13,g14,g15,g16,g17,Sa hq,t1,m1,t2,Ht,dz,st1,st2,bT,Tj,dk,UZ,PD];subst ec;exact hR2 Zl _ _ (by simp[Tr.na]) (by simp[Tr.na]) (by simp[Tr.na])
end
section
variable (call:Ab){S:PV}{ss:List ya}{es:List PV}(hS:zd S ss es)(hw:ss.length<=32)(h8:∀ s∈ss,s.ba.length<=8){n:Nat}{a:Al}
 (hd:a.1<=64)
 (nl xh:Bool) (rs:List PV) (o0 o1 o3:fa) (h0:∀ n,Fa n o0=some o0) (h1:∀ n,Fa n o1=some o1) (h3:∀ n,Fa n o3=some o3)
include hS hw h8 hd h0 h1 h3
set_option maxRecDepth 8000 in
theorem gaq{ma:List Al}{row:List Int}(ha:ma[n]? =some a)(ga:lk ss ma)(Xc:row.length=256):
 Ia (fun r=>(∃ p E,lg ss a (List.range 256) (ma,row)=some p/\r=(.exit 6,⟨E,[o0,o1,.tok 33 p.1.length false,o3,xa (p.2.map aa)]⟩)/\E.get 1= .pv (.rp [S] 0)/\E.get 5= .uq 0 nl 2048 (Fe ss)/\E.get 10= .uq 2 false 33 (p.1.map Mc)/\E.get 11= .uq 3 xh 256 rs/\E.get 12= .pv (aa n)/\E.get 13= .ptr 4 0)\/
  (lg ss a (List.range 256) (ma,row)=none/\∃ E H,r=(.ret,⟨E,H⟩)/\E.get 2= .pv .oa/\E.get 3= .pv .oa/\E.get 4= .pv (.bool false)))
  (Mb (Aa (ua call qD) (ta 5 [1,5,10,11,12,13,14])) Ga ⟨Pv S nl xh (Fe ss) (ma.map Mc) rs n 0,[o0,o1,.tok 33 ma.length false,o3,xa (row.map aa)]⟩):=by
 refine Bb (We (g:=Aa (ua call qD) (ta 5 [1,5,10,11,12,13,14]))
  (fun x t=>∃ sets' row',t=⟨Pv S nl xh (Fe ss) (sets'.map Mc) rs n x,[o0,o1,.tok 33 sets'.length false,o3,xa (row'.map aa)]⟩/\lg ss a (List.range 256) (ma,row)=lg ss a ((List.range 256).drop x) (sets',row')/\lk ss sets'/\sets'[n]? =some a/\row'.length=256)
  256 (by unfold Ga;omega) _ ⟨ma,row,rfl,by rw[Un],ga,ha,Xc⟩ ?_ ?_) (fun r h=>h.2)
 ·rintro x t hx ⟨sets',row',rfl,Vi,Ck,Lp,Jy⟩
  rw[fJ hx] at Vi;refine Bb (iaq call hS hw h8 Lp hx Ck hd nl xh rs o0 o1 o3 h0 h1 h3 Jy) ?_;rintro r (⟨p,zc,rfl⟩ | ⟨zc,E,H,rfl,g2,g3,g4⟩)
  ·rw[lJ zc] at Vi
   obtain⟨k1,t,k2⟩:=mV Ck Lp hw zc;refine⟨p.1,row'.set x p.2,rfl,Vi,k1,?_,by simp[Jy]⟩;rw[k2,Kc (Ad.1 Lp).1];exact Lp
  ·rw[kJ zc] at Vi
   exact .inr ⟨Vi,E,H,rfl,g2,g3,g4⟩
 ·rintro t ⟨sets',row',rfl,Vi,Ck,Lp,Jy⟩
  have qy:(List.range 256).drop 256=[]:=uP (by rw[Wn];exact gb _)
  rw[qy,lg] at Vi;have e1:decide (((256:Nat):Int) < 256)=false:=Ra (by omega);have Oe:∀ E,E.get 1= .pv (.rp [S] 0)->E.get 5= .uq 0 nl 2048 (Fe ss)->E.get 10= .uq 2 false 33 (sets'.map Mc)->E.get 11= .uq 3 xh 256 rs->E.get 12= .pv (aa n)->E.get 13= .ptr 4 0->
   ((Ex.exit 6,(⟨E,[o0,o1,.tok 33 sets'.length false,o3,xa (row'.map aa)]⟩:St)).1.stop=true/\((∃ p E',lg ss a (List.range 256) (ma,row)=some p/\(Ex.exit 6,(⟨E,[o0,o1,.tok 33 sets'.length false,o3,xa (row'.map aa)]⟩:St))=(.exit 6,⟨E',[o0,o1,.tok 33 p.1.length false,o3,xa (p.2.map aa)]⟩)/\E'.get 1= .pv (.rp [S] 0)/\E'.get 5= .uq 0 nl 2048 (Fe ss)/\E'.get 10= .uq 2 false 33 (p.1.map Mc)/\E'.get 11= .uq 3 xh 256 rs/\E'.get 12= .pv (aa n)/\E'.get 13= .ptr 4 0)\/
    (lg ss a (List.range 256) (ma,row)=none/\∃ E' H,(Ex.exit 6,(⟨E,[o0,o1,.tok 33 sets'.length false,o3,xa (row'.map aa)]⟩:St))=(.ret,⟨E',H⟩)/\E'.get 2= .pv .oa/\E'.get 3= .pv .oa/\E'.get 4= .pv (.bool false)))):=
   fun E k1 k5 Xg Yg Xj Yj=>⟨rfl,.inl ⟨(sets',row'),E,Vi,rfl,k1,k5,Xg,Yg,Xj,Yj⟩⟩
  generalize hQ:(fun r:Ex×St=>r.1.stop=true/\_)=Q;generalize xa (row'.map aa)=R at *;generalize sets'.map Mc=se at *
  generalize Fe ss=os at *;simp -implicitDefEqProofs only[SX,sevalprocAttr,-List.reduceReplicate,qD,e1,Pv];subst hQ;exact Oe _ (by simp[Tr.na]) (by simp[Tr.na]) (by simp[Tr.na]) (by simp[Tr.na]) (by simp[Tr.na]) (by simp[Tr.na])
end
abbrev Ov(S:PV)(nl xh:Bool)(os es rs:List PV)(n:Int):Tr:=
 ((((Tr.lf.set 12 (.pv (aa n))).set 11 (.uq 3 xh 256 rs)).set 10 (.uq 2 false 33 es)).set 5 (.uq 0 nl 2048 os)).set 1 (.pv (.rp [S] 0))
section
variable (call:Ab){S:PV}{ss:List ya}{es:List PV}(hS:zd S ss es)(hw:ss.length<=32)(h8:∀ s∈ss,s.ba.length<=8)
 (nl:Bool) (k0:Nat) (F:List PV)
include hS hw h8
set_option maxRecDepth 8000 in
theorem faq{ma:List Al}{rs:List (List Int)}{a:Al}(ha:ma[rs.length]? =some a)(ga:lk ss ma):
 Ia (fun r=>(∃ p,lg ss a (List.range 256) (ma,Wa)=some p/\r=(.norm,⟨Ov S nl false (Fe ss) (p.1.map Mc) ((rs++[p.2]).map Zb) (rs.length+1:Nat),[.tok 2048 k0 nl,xa F,.tok 33 p.1.length false,.tok 256 (rs.length+1) false]⟩))\/
  (lg ss a (List.range 256) (ma,Wa)=none/\∃ E H,r=(.ret,⟨E,H⟩)/\E.get 2= .pv .oa/\E.get 3= .pv .oa/\E.get 4= .pv (.bool false)))
  (Aa (ua call pD) (ta 4 [1,5,10,11,12]) ⟨Ov S nl rs.isEmpty (Fe ss) (ma.map Mc) (rs.map Zb) rs.length,[.tok 2048 k0 nl,xa F,.tok 33 ma.length false,.tok 256 rs.length rs.isEmpty]⟩):=by
 have hn:=(Ad.1 ha).1
 have XS:=ga.1
 have hd:a.1<=64:=by have:=(ga.2 _ a ha).1;omega
 have lI:=gaq call hS hw h8 hd nl rs.isEmpty (rs.map Zb) (.tok 2048 k0 nl) (xa F) (.tok 256 rs.length rs.isEmpty) (fun n=>rfl) (fun n=>Ej F n) (fun n=>rfl) ha ga uF
 have Ui:∀ p,lg ss a (List.range 256) (ma,Wa)=some p->p.2.length=256:=fun p hp=>by rw[(kC hw (List.range 256) (ma,Wa) p ga ha hp).2.2];exact uF
 have e1:decide ((rs.length:Int) < (ma.length:Int))=true:=Qa (by omega);have t2:IntKind.i64.wrap ((rs.length:Int)+1)=((rs.length+1:Nat):Int):=Gb (by omega)
 have jw:(ma.map Mc).length=ma.length:=wb _
 have Vj:List.replicate 256 (PV.int .i64 0)=Wa.map aa:=by rw[Wa,Sz]
 have rN:fa.box (List.map AV.pv (List.replicate 256 (PV.int .i64 0)))=xa (Wa.map aa):=by rw[Vj]
 have hc5:∀ (k:Nat)(R:List PV),Ha (Fa 5) [.tok 2048 k0 nl,xa F,.tok 33 k false,.tok 256 rs.length rs.isEmpty,xa R]=some [.tok 2048 k0 nl,xa F,.tok 33 k false,.tok 256 rs.length rs.isEmpty,xa R]:=by intro k R;have c0:∀ k n nl,Fa 5 (.tok k n nl)=some (.tok k n nl):=fun k n nl=>rfl;simp only[Ha,c0,Ej,Lc,Vc]
 have AS:∀ (k:Nat),Ha (Fa 4) [.tok 2048 k0 nl,xa F,.tok 33 k false,.tok 256 (rs.length+1) false]=some [.tok 2048 k0 nl,xa F,.tok 33 k false,.tok 256 (rs.length+1) false]:=by intro k;have c0:∀ k n nl,Fa 4 (.tok k n nl)=some (.tok k n nl):=fun k n nl=>rfl;simp only[Ha,c0,Ej,Lc,Vc]
 have Iu:∀ a b c d e:fa,([a,b,c,d,e]:List fa).take 5=[a,b,c,d,e]:=fun a b c d e=>rfl
 have FB:∀ a b c d e:fa,([a,b,c,d,e]:List fa).take 4=[a,b,c,d]:=fun a b c d e=>rfl
 have d50:(0 < 5)=True:=by simp
 have d52:(2 < 5)=True:=by simp
 have d53:(3 < 5)=True:=by simp
 have d54:(4 < 5)=True:=by simp
 have d40:(0 < 4)=True:=by simp
 have d42:(2 < 4)=True:=by simp
 have d43:(3 < 4)=True:=by simp
 have vB:∀ (k:Nat)(r:List Int),r.length=256->wa [.tok 2048 k0 nl,xa F,.tok 33 k false,.tok 256 rs.length rs.isEmpty,xa (r.map aa)] true 256 (.ptr 4 0)=some (.pv (.agg (r.map aa))):=fun k r hr=>mF (id:=4) rfl (by rw[wb,hr])
 have mf:∀ r:List Int,∀ e∈r.map aa,(AV.pv e).one=true:=by
  intro r e he;obtain⟨v,_,rfl⟩:=Re.1 he
  rfl
 have vd:∀ (k:Nat)(r:List Int),Ud [.tok 2048 k0 nl,xa F,.tok 33 k false,.tok 256 rs.length rs.isEmpty,xa (r.map aa)] false .uq 256 true 2048 (.uq 3 rs.isEmpty 256 (rs.map Zb)) (.pv (.lit 256 [.agg (r.map aa)]))=
  some (.uq 3 false 256 ((rs++[r]).map Zb),[.tok 2048 k0 nl,xa F,.tok 33 k false,.tok 256 (rs.length+1) false,xa (r.map aa)]):=by
  intro k r;have:=Jo (A:=[.tok 2048 k0 nl,xa F,.tok 33 k false,.tok 256 rs.length rs.isEmpty,xa (r.map aa)]) (id:=3) (n:=rs.length) (sz:=256) (h:= .uq) (nl:=rs.isEmpty) (ag:=true) (bytes:=2048) (es:=rs.map Zb) rfl (by rw[wb]) (by unfold Ac;omega) (.agg (r.map aa));rw[this,xm];rfl
 have pt:(Wa.map aa).length=256:=by rw[wb,uF]
 have f4:(256<=((Wa.map aa).map AV.pv++[]).length)=True:=Sa (by rw[yi,wb,pt];exact gb _);have UH:∀ r:List Int,r.length=256->za ((Wa.map aa).map AV.pv++[]) 0 ((r.map aa).map AV.pv)=(r.map aa).map AV.pv:=fun r hr=>bV (by rw[pt,wb,hr])
 have nE:∀ r:List Int,((r.map aa).map AV.pv).all AV.one=true:=fun r=>BP (mf r)
 have TH:∀ r:List Int,bd ((r.map aa).map AV.pv)=some (r.map aa):=fun r=>Sk _;have VH:∀ r:List Int,r.length=256->(r.map aa).take 256=r.map aa:=fun r hr=>Ih (by rw[wb,hr];exact gb _)
 have ZA:∀ r:List Int,r.length=256->((r.map aa).map AV.pv).length=256:=fun r hr=>by rw[wb,wb,hr]
 have hR1:∀ p,lg ss a (List.range 256) (ma,Wa)=some p->∀ st:St,st=⟨Ov S nl false (Fe ss) (p.1.map Mc) ((rs++[p.2]).map Zb) (rs.length+1:Nat),[.tok 2048 k0 nl,xa F,.tok 33 p.1.length false,.tok 256 (rs.length+1) false]⟩->
  (∃ p,lg ss a (List.range 256) (ma,Wa)=some p/\(Ex.norm,st)=(.norm,⟨Ov S nl false (Fe ss) (p.1.map Mc) ((rs++[p.2]).map Zb) (rs.length+1:Nat),[.tok 2048 k0 nl,xa F,.tok 33 p.1.length false,.tok 256 (rs.length+1) false]⟩))\/
   (lg ss a (List.range 256) (ma,Wa)=none/\∃ E H,(Ex.norm,st)=(.ret,⟨E,H⟩)/\E.get 2= .pv .oa/\E.get 3= .pv .oa/\E.get 4= .pv (.bool false)):=fun p hp st h=> .inl ⟨p,hp,by rw[h]⟩
 generalize ec:(fun r:Ex×St=>_)=QQ;generalize cm:Wa.map aa=zs at *
 have Mah:=hc5 ma.length zs
 generalize hRz:xa zs=Rz at *;generalize hoF:xa F=oF at *;simp -implicitDefEqProofs only[SP,WP,za,sevalprocAttr,-List.reduceReplicate,pD,Oc,e1,jw,Vj,hRz,Mah,Iu,d50,d52,d53,d54,ta,Za,AV.cut,Cb,Ov];refine Bb lI ?_;rintro r (⟨p,E,hp,rfl,g1,g5,g10,g11,g12,g13⟩ | ⟨hp,E,H,rfl,g2,g3,g4⟩)
 ·have xc:=Ui p hp
  have aT:=vB p.1.length p.2 xc
  have tah:=UH p.2 xc
  have uah:=VH p.2 xc
  have WY:=ZA p.2 xc
  have pah:=nE p.2
  have sah:=TH p.2
  have aB:=vd p.1.length p.2
  generalize p.2.map aa=zp at *
  simp -implicitDefEqProofs only[SP,WP,za,sevalprocAttr,-List.reduceReplicate,g1,g5,g10,g11,g12,g13,t2,Vj,aT,tah,uah,WY,pah,sah,aB,f4,AS,FB,d40,d42,d43,ta,Za,AV.cut,Cb];subst ec;exact hR1 p hp _ rfl
 ·simp -implicitDefEqProofs only[SP,WP,za,sevalprocAttr,-List.reduceReplicate]
  subst ec;exact .inr ⟨hp,E,H,rfl,g2,g3,g4⟩
end
attribute [local irreducible] Ia
theorem gab{n:Nat}(h:n<=32)(i:Nat):(Xm n).toNat.testBit i=decide (i < n):=by
 rw[JQ h,Uc,Nat.testBit_two_pow_sub_one]
theorem bae{n:Nat}(h:n<=32):Mc (0,Xm n)= .agg (je n):=by
 unfold Mc je Ib
 congr 2
 exact XI fun i _=>gab h i
set_option maxRecDepth 8000 in
theorem eaq(call:Ab){S:PV}{ss:List ya}{es:List PV}(hS:zd S ss es)(hw:ss.length<=32)(h8:∀ s∈ss,s.ba.length<=8)(Va:∀ s∈ss,0 < s.ba.length)(nl:Bool)(k0:Nat)(F:List PV):
 Ia (fun r=>(∃ p E,cg ss 64 (Zf ss,[])=some p/\p.2.length=p.1.length/\0 < p.2.length/\r=(.exit 4,⟨E,[.tok 2048 k0 nl,xa F,.tok 33 p.1.length false,.tok 256 p.2.length p.2.isEmpty]⟩)/\E.get 10= .uq 2 false 33 (p.1.map Mc)/\E.get 11= .uq 3 p.2.isEmpty 256 (p.2.map Zb))\/
  (cg ss 64 (Zf ss,[])=none/\∃ E H,r=(.ret,⟨E,H⟩)/\E.get 2= .pv .oa/\E.get 3= .pv .oa/\E.get 4= .pv (.bool false)))
  (Mb (Aa (ua call pD) (ta 4 [1,5,10,11,12])) Ga ⟨Ov S nl true (Fe ss) ((Zf ss).map Mc) [] 0,[.tok 2048 k0 nl,xa F,.tok 33 1 false,.tok 256 0 true]⟩):=by
 refine Bb (LB (g:=Aa (ua call pD) (ta 4 [1,5,10,11,12]))
  (fun k t=>∃ (ma:List Al)(rs:List (List Int)),t=⟨Ov S nl rs.isEmpty (Fe ss) (ma.map Mc) (rs.map Zb) rs.length,[.tok 2048 k0 nl,xa F,.tok 33 ma.length false,.tok 256 rs.length rs.isEmpty]⟩/\k+rs.length=64/\lk ss ma/\rs.length<=ma.length/\0 < ma.length/\cg ss 64 (Zf ss,[])=cg ss k (ma,rs))
  Ga 64 _ (by unfold Ga;omega) ⟨Zf ss,[],rfl,rfl,DO hw Va,by simp,by simp[Zf],rfl⟩ ?_) (fun r h=>h.2)
 rintro k t ⟨ma,rs,rfl,hk,ga,hle,th,hs⟩;cases ha:ma[rs.length]? with
 |some a=>
  have hlt:=(Ad.1 ha).1
  have XS:=ga.1
  obtain⟨k',rfl⟩:∃ k',k=k'+1:=⟨k - 1,by omega⟩;refine Bb (faq call hS hw h8 nl k0 F ha ga) ?_;rintro r (⟨p,hp,rfl⟩ | ⟨hp,E,H,rfl,g2,g3,g4⟩)
  ·obtain⟨q1,⟨t,q2⟩,q3⟩:=kC hw (List.range 256) (ma,Wa) p ga ha hp
   simp only at q2;have jw:(rs++[p.2]).isEmpty=false:=by cases rs <;> rfl
   have mI:(rs++[p.2]).length=rs.length+1:=by simp
   refine⟨k',by omega,p.1,rs++[p.2],?_,by rw[mI];omega,q1,?_,?_,?_⟩
   ·rw[jw,mI]
   ·rw[mI,q2,Pc];omega
   ·rw[q2,Pc];omega
   ·rw[hs,bP ha hp]
  ·exact .inr ⟨by rw[hs,aP ha hp],E,H,rfl,g2,g3,g4⟩
 |none=>
  have hge:ma.length<=rs.length:=by
   rcases yd rs.length ma.length with h | h
   ·rw[Rb h] at ha;cases ha
   ·exact h
  rw[IJ (r:=(ma,rs)) ha] at hs;have e1:decide ((rs.length:Int) < (ma.length:Int))=false:=Ra (by omega);have jw:(ma.map Mc).length=ma.length:=wb _
  have Oe:∀ E,E.get 10= .uq 2 false 33 (ma.map Mc)->E.get 11= .uq 3 rs.isEmpty 256 (rs.map Zb)->
   LQ (fun k t=>∃ (ma:List Al)(rs:List (List Int)),t=⟨Ov S nl rs.isEmpty (Fe ss) (ma.map Mc) (rs.map Zb) rs.length,[.tok 2048 k0 nl,xa F,.tok 33 ma.length false,.tok 256 rs.length rs.isEmpty]⟩/\k+rs.length=64/\lk ss ma/\rs.length<=ma.length/\0 < ma.length/\cg ss 64 (Zf ss,[])=cg ss k (ma,rs))
    (fun r=>(∃ p E,cg ss 64 (Zf ss,[])=some p/\p.2.length=p.1.length/\0 < p.2.length/\r=(.exit 4,⟨E,[.tok 2048 k0 nl,xa F,.tok 33 p.1.length false,.tok 256 p.2.length p.2.isEmpty]⟩)/\E.get 10= .uq 2 false 33 (p.1.map Mc)/\E.get 11= .uq 3 p.2.isEmpty 256 (p.2.map Zb))\/
    (cg ss 64 (Zf ss,[])=none/\∃ E H,r=(.ret,⟨E,H⟩)/\E.get 2= .pv .oa/\E.get 3= .pv .oa/\E.get 4= .pv (.bool false))) k
    (.exit 4,⟨E,[.tok 2048 k0 nl,xa F,.tok 33 ma.length false,.tok 256 rs.length rs.isEmpty]⟩):=fun E g10 g11=> .inl ⟨(ma,rs),E,hs,by simp only;omega,by simp only;omega,rfl,g10,g11⟩
  generalize LQ _ _ k=QQ at Oe ⊢;generalize xa F=oF at *;generalize ma.map Mc=se at *
  generalize rs.map Zb=re at *
  generalize Fe ss=os at *;simp -implicitDefEqProofs only[SX,sevalprocAttr,-List.reduceReplicate,pD,e1,jw,Ov];exact Oe _ (by simp[Tr.na]) (by simp[Tr.na])
set_option maxRecDepth 8000 in
theorem C8{S:PV}{ss:List ya}{es:List PV}(hS:zd S ss es)(ga:uc ss):
 (∀ p,cg ss 64 (Zf ss,[])=some p->IC [.agg [S]]=some (.Ba [.lit 33 (p.1.map Mc),.lit 256 (p.2.map Zb),.bool true])/\p.2.length=p.1.length)/\
 (cg ss 64 (Zf ss,[])=none->IC [.agg [S]]=some (.Ba [.oa,.oa,.bool false])):=by
 have hw:=ga.len
 have h8:∀ s∈ss,s.ba.length<=8:=fun s hs=>(ga.He s hs).hi
 have ln:=hS.mb
 have Ve:(AV.pv S).one=true:=by rcases hS.is with⟨h,_⟩ | h <;> rw[h] <;> rfl
 have Mg:=Cah (La (fun _=>none) 8) hS hw h8;have Mh:=fun nl=>eaq (La (fun _=>none) 8) hS hw h8 ga.ne nl ss.length (je ss.length)
 have gw:(Zf ss).map Mc=[.agg (je ss.length)]:=by rw[Zf,List.map_singleton,bae hw]
 rw[gw] at Mh;have hz:=W9;have zl:=yl 0 fun _=>false;have Yk:je 0=Ib 0 fun _=>false:=by unfold je;congr 1
 have rj:Db [.tok 2048 0 true,xa (Ib 0 fun _=>false)] 33 (.ptr 1 0) (.pv (.agg (Ib 0 fun _=>false)))=some [.tok 2048 0 true,xa (Ib 0 fun _=>false)]:=ZN (id:=1) rfl zl zl (vJ _ _);have uu:Ha (Fa 2) [.tok 2048 0 true,xa (Ib 0 fun _=>false)]=some [.tok 2048 0 true,xa (Ib 0 fun _=>false)]:=by have c0:∀ k n nl,Fa 2 (.tok k n nl)=some (.tok k n nl):=fun k n nl=>rfl;simp only[Ha,c0,Ej,Lc,Vc]
 have Lm:∀ a b:fa,([a,b]:List fa).take 2=[a,b]:=fun a b=>rfl
 have FB:∀ a b c d:fa,([a,b,c,d]:List fa).take 4=[a,b,c,d]:=fun a b c d=>rfl
 have iB:∀ nl,Ha (Fa 4) [.tok 2048 ss.length nl,xa (je ss.length),.tok 33 1 false,.tok 256 0 true]=some [.tok 2048 ss.length nl,xa (je ss.length),.tok 33 1 false,.tok 256 0 true]:=by intro nl;have c0:∀ k n nl,Fa 4 (.tok k n nl)=some (.tok k n nl):=fun k n nl=>rfl;simp only[Ha,c0,Ej,Lc,Vc]
 have vB:∀ nl,wa [.tok 2048 ss.length nl,xa (je ss.length)] true 33 (.ptr 1 0)=some (.pv (.agg (je ss.length))):=fun nl=>mF (id:=1) rfl (yl _ _);have fz:=Sk (Ib 0 fun _=>false);have ZA:((je ss.length).map AV.pv).length=33:=by rw[wb,yl]
 have UH:za ((Ib 0 fun _=>false).map AV.pv++[]) 0 ((je ss.length).map AV.pv)=(je ss.length).map AV.pv:=bV (by rw[yl,yl])
 have nE:=BP (vJ 0 fun j=>decide (j < ss.length));have TH:=Sk (je ss.length);have VH:(je ss.length).take 33=je ss.length:=Ih (by rw[yl];exact gb _)
 have f4:(33<=((Ib 0 fun _=>false).map AV.pv++[]).length)=True:=Sa (by rw[yi,wb,zl];exact gb _);have d20:(0 < 2)=True:=by simp
 have d21:(1 < 2)=True:=by simp
 have d40:(0 < 4)=True:=by simp
 have d42:(2 < 4)=True:=by simp
 have d43:(3 < 4)=True:=by simp
 have g1:(0 < 2048)=True:=by simp
 have g2:(0 < 256)=True:=by simp
 rw[Yk] at Mg;have key:Ia (fun r=>(∃ p,cg ss 64 (Zf ss,[])=some p/\r=PV.Ba [.lit 33 (p.1.map Mc),.lit 256 (p.2.map Zb),.bool true]/\p.2.length=p.1.length)\/(cg ss 64 (Zf ss,[])=none/\r=PV.Ba [.oa,.oa,.bool false])) (IC [.agg [S]]):=by
  generalize ec:(fun r:PV=>_)=QQ;change (((je ss.length).map AV.pv).all AV.one)=true at nE;generalize cm:(Ib 0 fun _=>false)=zs at *;generalize OS:je ss.length=fs at *
  generalize saj:xa zs=oz at *;generalize Kat:xa fs=of at *;simp -implicitDefEqProofs only[IC,SP,WP,za,sevalprocAttr,-List.reduceReplicate,aQ,Ve,hz,saj,fz,rj,Af,g1,g2,uu,Lm,d20,d21,Oc,ta,Za,AV.cut,Cb];refine Bb Mg ?_;rintro r ⟨E,nl,rfl,k1,k5,k6⟩;have Qai:=Mh nl;have dZ:=iB nl;have aT:=vB nl;simp -implicitDefEqProofs only[SP,WP,za,sevalprocAttr,-List.reduceReplicate,k1,k5,k6,aT,hz,ZA,UH,nE,TH,VH,f4,Af,g1,g2,dZ,FB,d40,d42,d43,Oc,ta,Za,AV.cut,Cb];refine Bb Qai ?_;rintro r (⟨p,E,hp,xc,Gy,rfl,Xg,Yg⟩ | ⟨hp,E,H,rfl,k2,k3,k4⟩)
  ·have Bk:p.2.isEmpty=false:=by
    cases hh:p.2 with
    |nil=>rw[hh] at Gy;simp at Gy
    |cons a l=>rfl
   rw[Bk] at Yg;simp -implicitDefEqProofs only[SP,WP,za,sevalprocAttr,-List.reduceReplicate,Xg,Yg];subst ec;exact .inl ⟨p,hp,rfl,xc⟩
  ·simp -implicitDefEqProofs only[SP,WP,za,sevalprocAttr,-List.reduceReplicate,k2,k3,k4]
   subst ec;exact .inr ⟨hp,rfl⟩
 obtain⟨r,h1,h2⟩:=wg key;constructor
 ·intro p hp
  rcases h2 with⟨p',bl,rfl,hl⟩ | ⟨hn,_⟩
  ·rw[hp] at bl;injection bl with bl;subst bl;exact⟨h1,hl⟩
  ·rw[hp] at hn;cases hn
 ·intro hn
  rcases h2 with⟨p',bl,_,_⟩ | ⟨_,rfl⟩
  ·rw[hn] at bl;cases bl
  ·exact h1
attribute [local irreducible] Ia
def owns(n:Nat):List AV:=(List.range n).map fun k=> .own (2 * k+1) n
def cp(n:Nat)(f:Nat->Bool)(fl:Nat):fa:= .seq 1 false ((Tc n f).map .pv) fl false
structure Ie(H:List fa)(n:Nat)(f:Nat->Nat->Bool):Prop where
 len:H.length=2 * n+1
 hd:∃ nl,nl=false/\H[0]? =some (.seq 1 false (owns n) 0 nl)
 row:∀ k,k < n->∃ fl,fl<=n/\H[2 * k+1]? =some (cp n (f k) fl)
 zk:Pd H
theorem vU(n:Nat):(owns n).length=n:=by rw[owns,wb,Wn]
theorem Xam{n k:Nat}(h:k < n):(owns n)[k]? =some (.own (2 * k+1) n):=by
 rw[owns,Gd,Pz h];rfl
theorem qW(n:Nat)(f:Nat->Bool)(fl m:Nat):Fa m (cp n f fl)=some (cp n f fl):=by
 have:((Tc n f).map AV.pv).all (AV.qc m deep)=true:=by
  rw[Df];intro v hv;obtain⟨p,_,rfl⟩:=Re.1 hv
  rfl
 simp[Fa,cp,this]
theorem har(m:Nat)(g:Nat->Bool){j:Nat}(hj:j < m)(b:Bool):(Tc m g).set j (.bool b)=Tc m fun x=>if x=j then b else g x:=by
 apply Oz
 ·rw[Um,El,El]
 ·intro k h1 h2
  rw[DK,SO,SO]
  by_cases hk:j=k
  ·subst hk;rw[if_pos rfl,if_pos rfl]
  ·rw[qa hk,qa (tf hk)]
section
variable {H:List fa}{n:Nat}{f:Nat->Nat->Bool}(h:Ie H n f)
include h
theorem Ie.cut:Ha (Fa (2 * n+1)) (H.take (2 * n+1))=some H:=by
 rw[<- h.len,ai];exact Pd.cut h.zk
theorem Ie.i0{i:Nat}(hi:i < n):Ua H 1 (.own 0 n) (i:Int)=some (.Sb 0 n i):=by
 obtain⟨nl,_,h0⟩:=h.hd
 simp only[Ua,h0];rw[if_pos (by refine⟨trivial,?_,?_⟩ <;> first | (unfold Ta;omega) | (unfold bh;rw[vU];omega))];simp
theorem Ie.l0{i:Nat}(hi:i < n):wa H false 1 (.Sb 0 n i)=some (.own (2 * i+1) n):=by
 obtain⟨nl,_,h0⟩:=h.hd
 simp only[wa,h0];rw[if_pos (vU n)];simp only[tg,Sc,if_false];exact Xam hi
theorem Ie.i1{i j:Nat}(hi:i < n)(hj:j < n):Ua H 1 (.own (2 * i+1) n) (j:Int)=some (.Sb (2 * i+1) n j):=by
 obtain⟨fl,hf,h0⟩:=h.row i hi
 simp only[Ua,h0,cp];rw[if_pos (by refine⟨trivial,?_,?_⟩ <;> first | (unfold Ta;omega) | (unfold bh;rw[wb,El];omega))];simp
theorem Ie.l1{i j:Nat}(hi:i < n)(hj:j < n):wa H false 1 (.Sb (2 * i+1) n j)=some (.pv (.bool (f i j))):=by
 obtain⟨fl,hf,h0⟩:=h.row i hi
 simp only[wa,h0,cp];rw[if_pos (by rw[wb,El])];simp only[tg,Sc,if_false,Gd,TO _ hj,Vc]
end
theorem Ie.store{H:List fa}{n:Nat}{f:Nat->Nat->Bool}(h:Ie H n f){i j:Nat}(hi:i < n)(hj:j < n):
 ∃ H',Db H 1 (.Sb (2 * i+1) n j) (.pv (.bool true))=some H'/\Ie H' n (fun a b=>if a=i/\b=j then true else f a b):=by
 obtain⟨fl,hf,h0⟩:=h.row i hi
 have hc:(AV.pv (.bool true)).cells=[.pv (.bool true)]:=rfl
 refine⟨H.set (2 * i+1) (cp n (fun b=>if b=j then true else f i b) n),?_,?_⟩
 ·simp only[Db,h0,cp,hc]
  rw[if_pos ⟨rfl,rfl⟩,if_pos ⟨by rw[wb,El],by show j+1<=n;omega⟩,za,za,<-Tz,har n _ hj]
 ·refine⟨by rw[Um,h.len],?_,?_,?_⟩
  ·obtain⟨nl,Wc,h1⟩:=h.hd
   exact⟨nl,Wc,by rw[ze (by omega)];exact h1⟩
  ·intro k hk
   by_cases kI:k=i
   ·subst kI
    refine⟨n,gb _,?_⟩;rw[Of (by rw[h.len];omega)];have:(fun b=>if k=k/\b=j then true else f k b)=fun b=>if b=j then true else f k b:=by funext b;simp only[true_and]
    show _=some (cp n (fun b=>if k=k/\b=j then true else f k b) n);rw[this]
   ·obtain⟨Qd,ir,h1⟩:=h.row k hk
    refine⟨Qd,ir,?_⟩;have:(fun b=>if k=i/\b=j then true else f k b)=f k:=by funext b;rw[qa (fun h=>kI h.1)]
    rw[ze (by omega),h1];show _=some (cp n (fun b=>if k=i/\b=j then true else f k b) Qd);rw[this]
  ·intro m hm o ho
   rw[Um] at hm;rcases Oo ho with h1 | h1
   ·exact h.zk m hm o h1
   ·subst h1;exact qW _ _ _ _
def On(f:Nat->Nat->Bool)(i j a b:Nat):Bool:=if (a=i/\b=j)\/(a=j/\b=i) then true else f a b
theorem Vap(f:Nat->Nat->Bool)(i j:Nat):(fun a b=>if a=j/\b=i then true else (if a=i/\b=j then true else f a b))=On f i j:=by
 funext a b
 unfold On
 by_cases h1:a=i/\b=j
 ·by_cases h2:a=j/\b=i
  ·rw[if_pos h2,if_pos (.inl h1)]
  ·rw[qa h2,if_pos h1,if_pos (.inl h1)]
 ·by_cases h2:a=j/\b=i
  ·rw[if_pos h2,if_pos (.inr h2)]
  ·rw[qa h2,qa h1,qa (by intro h;rcases h with h | h <;> contradiction)]
def Fb(C:List (List Int))(i x:Nat):Int:=(C.getD i []).getD x 0
def Ni(C:List (List Int))(f:Nat->Nat->Bool)(i j x:Nat):Bool:=
 ((Fb C i x != Fb C j x)&&(decide (Fb C i x < 0)||decide (Fb C j x < 0)))||(decide (Fb C i x>=0)&&decide (Fb C j x>=0)&&f (Fb C i x).toNat (Fb C j x).toNat)
structure Rk(C:List (List Int)):Prop where
 row:∀ r∈C,r.length=256
 lt:∀ r∈C,∀ v∈r,v < (C.length:Int)
 sz:C.length<=64
theorem Rk.get{C:List (List Int)}(h:Rk C){i x:Nat}(hi:i < C.length)(hx:x < 256):C[i][x]? =some (Fb C i x)/\Fb C i x < (C.length:Int):=by
 have hm:=ic hi;have hl:=h.row _ hm
 have hg:C.getD i []=C[i]:=by rw[sf,Rb hi];rfl
 have h1:C[i][x]? =some (Fb C i x):=by unfold Fb;rw[hg,sf,Rb (by omega)];rfl
 exact⟨h1,h.lt _ hm _ (vj h1)⟩
theorem Rk.Nd{C:List (List Int)}(h:Rk C){i:Nat}(hi:i < C.length)(H:List fa):Ua H 256 (.pv (.lit 256 (C.map Zb))) (i:Int)=some (.pv (.rp (C[i].map aa) 0)):=by
 simp only[Ua];rw[if_pos (by refine⟨trivial,?_⟩;unfold Ta;simp;omega)];simp[hi,Zb,PV.cells]
theorem Rk.load{C:List (List Int)}(h:Rk C){i x:Nat}(hi:i < C.length)(hx:x < 256)(H:List fa):wa H false 1 (.pv (.rp (C[i].map aa) x))=some (.pv (aa (Fb C i x))):=
 nJ (by rw[Gd,(h.get hi hx).1];rfl) H
abbrev eh(v:PV)(n i j x:Int)(g:Bool):Tr:=((((((Tr.lf.set 9 (.pv (aa x))).set 8 (.pv (aa j))).set 7 (.pv (aa i))).set 6 (.pv (.bool g))).set 4 (.own 0 n.toNat)).set 3 (.pv (aa n))).set 0 (.pv v)
section
variable (call:Ab){C:List (List Int)}(hC:Rk C){i j:Nat}(hi:i < C.length)(hj:j < C.length)
include hC hi hj
theorem xaa{H:List fa}{f:Nat->Nat->Bool}(hM:Ie H C.length f)(g:Bool){x:Nat}(hx:x < 256):
 Ia (fun r=>(f i j=true/\∃ E,r=(.exit 8,⟨E,H⟩)/\E.get 0= .pv (.lit 256 (C.map Zb))/\E.get 3= .pv (aa C.length)/\E.get 4= .own 0 C.length/\E.get 6= .pv (.bool g)/\E.get 7= .pv (aa i)/\E.get 8= .pv (aa j))\/
  (f i j=false/\Ni C f i j x=false/\r=(.norm,⟨eh (.lit 256 (C.map Zb)) C.length i j (x+1:Nat) g,H⟩))\/
  (f i j=false/\Ni C f i j x=true/\∃ H',Ie H' C.length (On f i j)/\r=(.norm,⟨eh (.lit 256 (C.map Zb)) C.length i j (x+1:Nat) true,H'⟩)))
  (Aa (ua call bp) (ta (2 * C.length+1) [0,3,4,6,7,8,9]) ⟨eh (.lit 256 (C.map Zb)) C.length i j x g,H⟩):=by
 have Eb:=hM.cut
 have a0:=hM.i0 hi
 have a1:=hM.l0 hi
 have b0:=hM.i0 hj
 have b1:=hM.l0 hj
 have a2:=hM.i1 hi hj
 have a3:=hM.l1 hi hj
 obtain⟨H1,s1,OY⟩:=hM.store hi hj
 obtain⟨H2,s2,Aj⟩:=OY.store hj hi
 rw[Vap] at Aj;have b2:=OY.i1 hj hi
 have xu:=Aj.cut
 have c0:=fun H=>hC.Nd hi H
 have c1:=fun H=>hC.load hi hx H
 have d0:=fun H=>hC.Nd hj H
 have d1:=fun H=>hC.load hj hx H
 have nj:=(hC.get hi hx).2
 have Ao:=(hC.get hj hx).2
 have ib:=hC.sz
 have e1:decide ((x:Int) < 256)=true:=Qa (by omega);have hq:Ta (x:Int) 256:=by unfold Ta;omega
 have t1:((x:Int)).toNat=x:=by simp
 have m1:x * 1=x:=by omega
 have z1:0+x=x:=by omega
 have t2:IntKind.i64.wrap ((x:Int)+1)=((x+1:Nat):Int):=Gb (by omega)
 have tn:((C.length:Int)).toNat=C.length:=by simp
 have hz:(0 < 2 * C.length+1)=True:=by simp
 have Wi:Ni C f i j x=(((Fb C i x != Fb C j x)&&(decide (Fb C i x < 0)||decide (Fb C j x < 0)))||(decide (Fb C i x>=0)&&decide (Fb C j x>=0)&&f (Fb C i x).toNat (Fb C j x).toNat)):=rfl;have OE:0<=Fb C i x->0<=Fb C j x->Ua H 1 (.own 0 C.length) (Fb C i x)=some (.Sb 0 C.length (Fb C i x).toNat)/\wa H false 1 (.Sb 0 C.length (Fb C i x).toNat)=some (.own (2 * (Fb C i x).toNat+1) C.length)/\
  Ua H 1 (.own (2 * (Fb C i x).toNat+1) C.length) (Fb C j x)=some (.Sb (2 * (Fb C i x).toNat+1) C.length (Fb C j x).toNat)/\wa H false 1 (.Sb (2 * (Fb C i x).toNat+1) C.length (Fb C j x).toNat)=some (.pv (.bool (f (Fb C i x).toNat (Fb C j x).toNat))):=by
  intro h1 h2;have k1:=hM.i0 (i:=(Fb C i x).toNat) (by omega)
  have k2:=hM.l0 (i:=(Fb C i x).toNat) (by omega)
  have k3:=hM.i1 (i:=(Fb C i x).toNat) (j:=(Fb C j x).toNat) (by omega) (by omega)
  have k4:=hM.l1 (i:=(Fb C i x).toNat) (j:=(Fb C j x).toNat) (by omega) (by omega)
  rw[Ur h1] at k1;rw[Ur h2] at k3;exact⟨k1,k2,k3,k4⟩
 generalize Fb C i x=a at *;generalize Fb C j x=b at *;generalize hl:(PV.lit 256 (C.map Zb))=L at *;have hR0:f i j=true->∀ E,E.get 0= .pv L->E.get 3= .pv (aa C.length)->E.get 4= .own 0 C.length->E.get 6= .pv (.bool g)->E.get 7= .pv (aa i)->E.get 8= .pv (aa j)->
  ((f i j=true/\∃ E',(Ex.exit 8,(⟨E,H⟩:St))=(.exit 8,⟨E',H⟩)/\E'.get 0= .pv L/\E'.get 3= .pv (aa C.length)/\E'.get 4= .own 0 C.length/\E'.get 6= .pv (.bool g)/\E'.get 7= .pv (aa i)/\E'.get 8= .pv (aa j))\/
   (f i j=false/\Ni C f i j x=false/\(Ex.exit 8,(⟨E,H⟩:St))=(.norm,⟨eh L C.length i j (x+1:Nat) g,H⟩))\/
   (f i j=false/\Ni C f i j x=true/\∃ H',Ie H' C.length (On f i j)/\(Ex.exit 8,(⟨E,H⟩:St))=(.norm,⟨eh L C.length i j (x+1:Nat) true,H'⟩))):=
  fun h E k0 k3 k4 k6 k7 k8=> .inl ⟨h,E,rfl,k0,k3,k4,k6,k7,k8⟩
 have hR1:f i j=false->Ni C f i j x=false->∀ s,s=(⟨eh L C.length i j (x+1:Nat) g,H⟩:St)->
  ((f i j=true/\∃ E',(Ex.norm,s)=(.exit 8,⟨E',H⟩)/\E'.get 0= .pv L/\E'.get 3= .pv (aa C.length)/\E'.get 4= .own 0 C.length/\E'.get 6= .pv (.bool g)/\E'.get 7= .pv (aa i)/\E'.get 8= .pv (aa j))\/
   (f i j=false/\Ni C f i j x=false/\(Ex.norm,s)=(.norm,⟨eh L C.length i j (x+1:Nat) g,H⟩))\/
   (f i j=false/\Ni C f i j x=true/\∃ H',Ie H' C.length (On f i j)/\(Ex.norm,s)=(.norm,⟨eh L C.length i j (x+1:Nat) true,H'⟩))):=
  fun h1 h2 s h3=> .inr (.inl ⟨h1,h2,by rw[h3]⟩)
 have hR2:f i j=false->Ni C f i j x=true->∀ s,s=(⟨eh L C.length i j (x+1:Nat) true,H2⟩:St)->
  ((f i j=true/\∃ E',(Ex.norm,s)=(.exit 8,⟨E',H⟩)/\E'.get 0= .pv L/\E'.get 3= .pv (aa C.length)/\E'.get 4= .own 0 C.length/\E'.get 6= .pv (.bool g)/\E'.get 7= .pv (aa i)/\E'.get 8= .pv (aa j))\/
   (f i j=false/\Ni C f i j x=false/\(Ex.norm,s)=(.norm,⟨eh L C.length i j (x+1:Nat) g,H⟩))\/
   (f i j=false/\Ni C f i j x=true/\∃ H',Ie H' C.length (On f i j)/\(Ex.norm,s)=(.norm,⟨eh L C.length i j (x+1:Nat) true,H'⟩))):=
  fun h1 h2 s h3=> .inr (.inr ⟨h1,h2,H2,Aj,by rw[h3]⟩)
 generalize ec:(fun r:Ex×St=>_)=QQ;generalize hu:f i j=u at *;cases u with
 |true=>simp -implicitDefEqProofs only[SX,sevalprocAttr,bp,e1,tn,a0,a1,a2,a3,eh];subst ec;exact hR0 rfl _ (by simp[Tr.na]) (by simp[Tr.na]) (by simp[Tr.na]) (by simp[Tr.na]) (by simp[Tr.na]) (by simp[Tr.na])
 |false=>
  by_cases Hm:a=b
  ·have pq:(a != b)=false:=by simp[Hm]
   subst Hm
   by_cases ha:a>=0
   ·have da:=Qa ha
    have NL:decide (a < 0)=false:=Ra (by omega);obtain⟨k1,k2,k3,k4⟩:=OE ha ha;rw[pq,da,Ko,Xw,ng,ng] at Wi;generalize hw:f a.toNat a.toNat=w at *
    cases w with
    |true=>simp -implicitDefEqProofs only[SX,sevalprocAttr,bp,e1,tn,a0,a1,a2,a3,b0,b1,b2,c0,c1,d0,d1,Sa hq,t1,m1,z1,yq,pq,da,k1,k2,k3,k4,s1,s2,t2,xu,hz,ta,Za,AV.cut,Cb,eh];subst ec;exact hR2 rfl Wi _ (by simp only[eh,tn])
    |false=>simp -implicitDefEqProofs only[SX,sevalprocAttr,bp,e1,tn,a0,a1,a2,a3,b0,b1,b2,c0,c1,d0,d1,Sa hq,t1,m1,z1,yq,pq,da,k1,k2,k3,k4,t2,Eb,hz,ta,Za,AV.cut,Cb,eh];subst ec;exact hR1 rfl Wi _ (by simp only[eh,tn])
   ·have da:=Ra ha
    rw[pq,da,Ko,Xw,Ko,Ko] at Wi;simp -implicitDefEqProofs only[SX,sevalprocAttr,bp,e1,tn,a0,a1,a2,a3,b0,b1,b2,c0,c1,d0,d1,Sa hq,t1,m1,z1,yq,pq,da,t2,Eb,hz,ta,Za,AV.cut,Cb,eh];subst ec;exact hR1 rfl Wi _ (by simp only[eh,tn])
  ·have pq:(a != b)=true:=by simp[Hm]
   by_cases ha:a < 0
   ·have da:=Qa ha
    rw[pq,da] at Wi;simp only[ng,Bool.true_or] at Wi;simp -implicitDefEqProofs only[SX,sevalprocAttr,bp,e1,tn,a0,a1,a2,a3,b0,b1,b2,c0,c1,d0,d1,Sa hq,t1,m1,z1,yq,pq,da,s1,s2,t2,xu,hz,ta,Za,AV.cut,Cb,eh];subst ec;exact hR2 rfl Wi _ (by simp only[eh,tn])
   ·have da:=Ra ha
    have NL:decide (a>=0)=true:=Qa (by omega)
    by_cases hb:b < 0
    ·have db:=Qa hb
     rw[pq,da,db] at Wi;simp only[ng,Xw,Bool.true_or] at Wi;simp -implicitDefEqProofs only[SX,sevalprocAttr,bp,e1,tn,a0,a1,a2,a3,b0,b1,b2,c0,c1,d0,d1,Sa hq,t1,m1,z1,yq,pq,da,db,s1,s2,t2,xu,hz,ta,Za,AV.cut,Cb,eh];subst ec;exact hR2 rfl Wi _ (by simp only[eh,tn])
    ·have db:=Ra hb
     have fR:decide (b>=0)=true:=Qa (by omega);obtain⟨k1,k2,k3,k4⟩:=OE (by omega) (by omega);rw[pq,da,db,NL,fR] at Wi;simp only[ng,Xw] at Wi;generalize hw:f a.toNat b.toNat=w at *
     cases w with
     |true=>simp -implicitDefEqProofs only[SX,sevalprocAttr,bp,e1,tn,a0,a1,a2,a3,b0,b1,b2,c0,c1,d0,d1,Sa hq,t1,m1,z1,yq,pq,da,db,NL,fR,k1,k2,k3,k4,s1,s2,t2,xu,hz,ta,Za,AV.cut,Cb,eh];subst ec;exact hR2 rfl Wi _ (by simp only[eh,tn])
     |false=>simp -implicitDefEqProofs only[SX,sevalprocAttr,bp,e1,tn,a0,a1,a2,a3,b0,b1,b2,c0,c1,d0,d1,Sa hq,t1,m1,z1,yq,pq,da,db,NL,fR,k1,k2,k3,k4,t2,Eb,hz,ta,Za,AV.cut,Cb,eh];subst ec;exact hR1 rfl Wi _ (by simp only[eh,tn])
end
def bA(ss:List ya)(ma:List Al)(a:Al)(x:Nat)(v:Int):Prop:=
 (yf (Nc ss a x) ss.length=false/\v= -2)\/
 (yf (Nc ss a x) ss.length=true/\yf (Bi ss a x) ss.length=true/\v= -1)\/
 (yf (Nc ss a x) ss.length=true/\yf (Bi ss a x) ss.length=false/\∃ k m:Nat,v=(k:Int)/\Ww ss a x m/\ma[k]? =some (a.1+1,(m:Int)))
theorem bA.mono{ss:List ya}{ma t:List Al}{a:Al}{x:Nat}{v:Int}(h:bA ss ma a x v):bA ss (ma++t) a x v:=by
 rcases h with h | h | ⟨h1,h2,k,m,h3,h4,h5⟩
 ·exact .inl h
 ·exact .inr (.inl h)
 ·refine .inr (.inr ⟨h1,h2,k,m,h3,h4,?_⟩)
  rw[Kc (Ad.1 h5).1];exact h5
theorem U0{a:Al}:∀ {l:List Al}{k i:Nat},Wg a l k=some i->k<=i/\l[i - k]? =some a
 |b::l,k,i,h=>by
  simp only[Wg] at h
  split at h
  ·next he=>injection h with h;subst h;subst he;exact⟨gb _,by simp⟩
  ·obtain⟨h1,h2⟩:=U0 h
   refine⟨by omega,?_⟩;rw[show i - k=(i - (k+1))+1 by omega,Jj];exact h2
structure Zz(ma:List Al)(d:Nat):Prop where
 up:∀ (p q:Nat) a b,p<=q->ma[p]? =some a->ma[q]? =some b->a.1<=b.1
 top:∀ (q:Nat) b,ma[q]? =some b->b.1<=d+1
theorem Zz.push{ma:List Al}{d:Nat}(h:Zz ma d)(e:Int):Zz (ma++[(d+1,e)]) d:=by
 have hg:∀ (q:Nat) b,(ma++[(d+1,e)])[q]? =some b->(q < ma.length/\ma[q]? =some b)\/(q=ma.length/\b=(d+1,e)):=by
  intro q b hb;rcases yd q ma.length with h1 | h1
  ·rw[Kc h1] at hb;exact .inl ⟨h1,hb⟩
  ·rw[Tg h1] at hb
   cases hq:q - ma.length with
   |zero=>rw[hq] at hb;simp at hb;exact .inr ⟨by omega,hb.symm⟩
   |succ n=>rw[hq] at hb;simp at hb
 refine⟨?_,?_⟩
 ·intro p q a b Hy ha hb
  rcases hg p a ha with⟨h1,h2⟩ | ⟨h1,h2⟩ <;> rcases hg q b hb with⟨h3,h4⟩ | ⟨h3,h4⟩
  ·exact h.up p q a b Hy h2 h4
  ·rw[h4];exact h.top p a h2
  ·omega
  ·rw[h2,h4];exact gb _
 ·intro q b hb
  rcases hg q b hb with⟨h3,h4⟩ | ⟨h3,h4⟩
  ·exact h.top q b h4
  ·rw[h4];exact gb _
theorem Zaq{ss:List ya}(hw:ss.length<=32){ma:List Al}{a:Al}(my:Mr a){x:Nat}{p:List Al×Int}(h:bg ss a x ma=some p)(hR:Zz ma a.1):
 bA ss p.1 a x p.2/\Zz p.1 a.1/\((p.1=ma)\/(p.1.length=ma.length+1/\p.2=(ma.length:Int))):=by
 obtain⟨m,hm⟩:=gW (x:=x) my hw;rw[hm.step ma] at h
 by_cases h1:yf (Nc ss a x) ss.length=false
 ·rw[if_pos h1] at h
  injection h with h;subst h
  exact⟨.inl ⟨h1,rfl⟩,hR,.inl rfl⟩
 ·rw[qa h1] at h
  have Jg:yf (Nc ss a x) ss.length=true:=by simpa using h1
  by_cases h2:yf (Bi ss a x) ss.length=true
  ·rw[if_pos h2] at h
   injection h with h;subst h
   exact⟨.inr (.inl ⟨Jg,h2,rfl⟩),hR,.inl rfl⟩
  ·rw[qa h2] at h
   have jE:yf (Bi ss a x) ss.length=false:=by simpa using h2
   cases hi:Wg (a.1+1,(m:Int)) ma 0 with
   |some k=>
    rw[hi] at h;injection h with h;subst h
    exact⟨.inr (.inr ⟨Jg,jE,k,m,rfl,hm,(U0 hi).2⟩),hR,.inl rfl⟩
   |none=>
    rw[hi] at h;simp only at h
    split at h
    ·injection h with h;subst h
     refine⟨.inr (.inr ⟨Jg,jE,ma.length,m,rfl,hm,by simp⟩),hR.push _,.inr ⟨by simp,rfl⟩⟩
    ·cases h
theorem I7{ss:List ya}(hw:ss.length<=32){a:Al}(my:Mr a){i:Nat}:∀ (xs:List Nat)(r r':List Al×List Int),xs.Nodup->(∀ x∈xs,x < r.2.length)->lk ss r.1->r.1[i]? =some a->Zz r.1 a.1->lg ss a xs r=some r'->
 (∀ x∈xs,bA ss r'.1 a x (r'.2.getD x 0))/\(∀ y,y ∉ xs->r'.2.getD y 0=r.2.getD y 0)/\(∀ k,r.1.length<=k->k < r'.1.length->∃ x∈xs,r'.2.getD x 0=(k:Int))/\Zz r'.1 a.1
 | [],r,r',_,_,_,_,hR,e=>by
   injection e with e;subst e
   exact⟨by simp,fun _ _=>rfl,fun k h1 h2=>by omega,hR⟩
 |x::xs,r,r',Tp,hlt,ga,ha,hR,e=>by
  cases zc:bg ss a x r.1 with
  |none=>rw[kJ zc] at e;cases e
  |some p=>
   rw[lJ zc] at e;obtain⟨s1,s2,s3⟩:=Zaq hw my zc hR;obtain⟨g1,t,g2⟩:=mV ga ha hw zc;rw[List.nodup_cons] at Tp;have hi:=(Ad.1 ha).1
   have qN:=hlt x (by simp);obtain⟨k1,k2,k3,k4⟩:=I7 hw my xs (p.1,r.2.set x p.2) r' Tp.2 (fun y hy=>by rw[Um];exact hlt y (by simp[hy])) g1 (by rw[g2,Kc hi];exact ha) s2 e
   obtain⟨_,⟨t',q2⟩,_⟩:=kC hw xs (p.1,r.2.set x p.2) r' g1 (by rw[g2,Kc hi];exact ha) e;simp only at q2;have hx:r'.2.getD x 0=p.2:=by rw[k2 x Tp.1,sf,Of qN];rfl
   refine⟨?_,?_,?_,k4⟩
   ·intro y hy
    rcases Ae.1 hy with rfl | hy
    ·rw[hx,q2];exact s1.mono
    ·exact k1 y hy
   ·intro y hy
    rw[Ae,not_or] at hy;rw[k2 y hy.2,sf,ze (tf hy.1),<-sf]
   ·intro k h1 h2
    rcases s3 with s3 | ⟨s3,s4⟩
    ·obtain⟨y,hy,h3⟩:=k3 k (by rw[s3];exact h1) h2
     exact⟨y,by simp[hy],h3⟩
    ·by_cases hk:k=r.1.length
     ·exact⟨x,by simp,by rw[hx,s4,hk]⟩
     ·obtain⟨y,hy,h3⟩:=k3 k (by simp only;omega) h2
      exact⟨y,by simp[hy],h3⟩
structure og(ss:List ya)(ma:List Al)(C:List (List Int)):Prop where
 ok:lk ss ma
 le:C.length<=ma.length
 pa:ma[0]? =some (0,Xm ss.length)
 row:∀ r∈C,r.length=256
 step:∀ (k:Nat) a,k < C.length->ma[k]? =some a->∀ x,x < 256->bA ss ma a x (Fb C k x)
 up:∀ (p q:Nat) a b,p<=q->ma[p]? =some a->ma[q]? =some b->a.1<=b.1
 top:∀ (k q:Nat) a b,k=C.length->ma[k]? =some a->ma[q]? =some b->b.1<=a.1+1
 reach:∀ k,0 < k->k < ma.length->∃ j x,j < k/\j < C.length/\x < 256/\Fb C j x=(k:Int)
theorem Q4{C:List (List Int)}{r:List Int}{k x:Nat}(hk:k < C.length):Fb (C++[r]) k x=Fb C k x:=by
 have:(C++[r]).getD k []=C.getD k []:=by rw[sf,Kc hk,<-sf]
 unfold Fb;rw[this]
theorem P4{C:List (List Int)}{r:List Int}{x:Nat}:Fb (C++[r]) C.length x=r.getD x 0:=by
 unfold Fb;have:(C++[r]).getD C.length []=r:=by rw[sf,Tg (gb _),Kq];rfl
 rw[this]
theorem og.next{ss:List ya}(hw:ss.length<=32){ma:List Al}{C:List (List Int)}(h:og ss ma C){a:Al}(ha:ma[C.length]? =some a){p:List Al×List Int}(hp:lg ss a (List.range 256) (ma,Wa)=some p):og ss p.1 (C++[p.2]):=by
 have hlt:=(Ad.1 ha).1
 obtain⟨_,b,hb,Np,_⟩:=h.ok.2 _ a ha
 have my:Mr a:=⟨b,hb,Np⟩;obtain⟨k1,k2,k3,k4⟩:=I7 hw my (i:=C.length) (List.range 256) (ma,Wa) p List.nodup_range (fun x hx=>by simp only[uF];simpa using hx) h.ok ha ⟨h.up,fun q b hb=>h.top C.length q a b rfl ha hb⟩ hp
 obtain⟨g1,⟨t,g2⟩,g3⟩:=kC hw (List.range 256) (ma,Wa) p h.ok ha hp
 simp only at g2 g3;rw[uF] at g3;have hold:∀ (k:Nat) c,k < ma.length->(p.1[k]? =some c↔ma[k]? =some c):=fun k c hk=>by rw[g2,Kc hk]
 refine⟨g1,?_,?_,?_,?_,k4.up,?_,?_⟩
 ·rw[g2];simp;omega
 ·rw[hold 0 _ (by omega)];exact h.pa
 ·intro r hr
  rcases Bd.1 hr with h1 | h1
  ·exact h.row r h1
  ·rw[ym] at h1;subst h1;exact g3
 ·intro k c hk hc x hx
  rw[Pc,QC] at hk;rcases yd k C.length with h1 | h1
  ·rw[Q4 h1,g2]
   exact (h.step k c h1 ((hold k c (by omega)).1 hc) x hx).mono
  ·have:k=C.length:=by omega
   subst this;have SM:c=a:=by
    have:=(hold C.length c hlt).1 hc
    rw[ha] at this;injection this with this;exact this.symm
   subst SM;rw[P4];exact k1 x (by simpa using hx)
 ·intro k q c d hk hc hd
  rw[Pc,QC] at hk;have h1:=k4.top q d hd
  have h2:=k4.up C.length k a c (by omega) ((hold _ a hlt).2 ha) hc
  omega
 ·intro k h0 hk
  rcases yd k ma.length with h1 | h1
  ·obtain⟨j,x,h2,h3,h4,h5⟩:=h.reach k h0 h1
   exact⟨j,x,h2,by rw[Pc];omega,h4,by rw[Q4 h3];exact h5⟩
  ·obtain⟨x,hx,h2⟩:=k3 k h1 hk
   exact⟨C.length,x,by omega,by simp,by simpa using hx,by rw[P4];exact h2⟩
theorem Q9{ss:List ya}(hw:ss.length<=32):∀ (k:Nat)(r r':List Al×List (List Int)),r.2.length+k=64->og ss r.1 r.2->cg ss k r=some r'->og ss r'.1 r'.2/\r'.2.length=r'.1.length
 |0,r,r',hk,h,e=>by
  injection e with e;subst e
  have:=h.ok.1
  have:=h.le
  exact⟨h,by omega⟩
 |k+1,r,r',hk,h,e=>by
  cases ha:r.1[r.2.length]? with
  |none=>
   rw[IJ ha] at e;injection e with e;subst e
   refine⟨h,?_⟩;have:=h.le
   rcases yd r.2.length r.1.length with h1 | h1
   ·rw[Rb h1] at ha;cases ha
   ·omega
  |some a=>
   cases hr:lg ss a (List.range 256) (r.1,Wa) with
   |none=>rw[aP ha hr] at e;cases e
   |some p=>rw[bP ha hr] at e;exact Q9 hw k (p.1,r.2++[p.2]) r' (by simp;omega) (h.next hw ha hr) e
theorem O9{ss:List ya}(hw:ss.length<=32)(Va:∀ s∈ss,0 < s.ba.length){p:List Al×List (List Int)}(h:cg ss 64 (Zf ss,[])=some p):og ss p.1 p.2/\p.2.length=p.1.length:=by
 refine Q9 hw 64 (Zf ss,[]) p rfl ⟨DO hw Va,by simp,rfl,by simp,fun k a hk=>by simp at hk,?_,?_,?_⟩ h
 ·intro p q a b Hy ha hb
  have:p=0/\q=0:=by
   have h1:=(Ad.1 ha).1
   have h2:=(Ad.1 hb).1
   simp[Zf] at h1 h2;omega
  obtain⟨rfl,rfl⟩:=this;rw[ha] at hb;injection hb with hb;subst hb;exact gb _
 ·intro k q a b hk ha hb
  have h2:=(Ad.1 hb).1
  simp[Zf] at h2;subst h2;simp[Zf] at hb;subst hb;simp
 ·intro k h0 hk
  simp[Zf] at hk;omega
attribute [local irreducible] Ia
def MK(C:List (List Int))(i j:Nat)(f:Nat->Nat->Bool)(g:Bool)(f':Nat->Nat->Bool)(g':Bool):Prop:=
 (f'=f/\g'=g/\(f i j=true\/∀ x,x < 256->Ni C f i j x=false))\/(f i j=false/\(∃ x,x < 256/\Ni C f i j x=true)/\f'=On f i j/\g'=true)
section
variable (call:Ab){C:List (List Int)}(hC:Rk C)
include hC
theorem waa{i j:Nat}(hi:i < C.length)(hj:j < C.length){H:List fa}{f:Nat->Nat->Bool}(hM:Ie H C.length f)(g:Bool):
 Ia (fun r=>∃ E H' f' g',r=(.exit 8,⟨E,H'⟩)/\Ie H' C.length f'/\MK C i j f g f' g'/\E.get 0= .pv (.lit 256 (C.map Zb))/\E.get 3= .pv (aa C.length)/\E.get 4= .own 0 C.length/\E.get 6= .pv (.bool g')/\E.get 7= .pv (aa i)/\E.get 8= .pv (aa j))
  (Mb (Aa (ua call bp) (ta (2 * C.length+1) [0,3,4,6,7,8,9])) Ga ⟨eh (.lit 256 (C.map Zb)) C.length i j 0 g,H⟩):=by
 have yr:On f i j i j=true:=by unfold On;rw[if_pos (.inl ⟨rfl,rfl⟩)]
 refine Bb (We (g:=Aa (ua call bp) (ta (2 * C.length+1) [0,3,4,6,7,8,9]))
  (fun x t=>∃ H' f' g',t=⟨eh (.lit 256 (C.map Zb)) C.length i j x g',H'⟩/\Ie H' C.length f'/\((f'=f/\g'=g/\(f i j=true\/∀ x',x' < x->Ni C f i j x'=false))\/(f i j=false/\(∃ x,x < 256/\Ni C f i j x=true)/\f'=On f i j/\g'=true)))
  256 (by unfold Ga;omega) _ ⟨H,f,g,rfl,hM,.inl ⟨rfl,rfl,.inr fun x h=>by omega⟩⟩ ?_ ?_) (fun r h=>h.2)
 ·rintro x t hx ⟨H',f',g',rfl,mj,hP⟩
  refine Bb (xaa call hC hi hj mj g' hx) ?_;rintro r (⟨hu,E,rfl,k0,k3,k4,k6,k7,k8⟩ | ⟨hu,Wi,rfl⟩ | ⟨hu,Wi,H2,Aj,rfl⟩)
  ·refine⟨E,H',f',g',rfl,mj,?_,k0,k3,k4,k6,k7,k8⟩
   rcases hP with⟨rfl,rfl,hp⟩ | ⟨h1,h2,h3,h4⟩
   ·exact .inl ⟨rfl,rfl,.inl hu⟩
   ·exact .inr ⟨h1,h2,h3,h4⟩
  ·rcases hP with⟨rfl,rfl,hp⟩ | ⟨h1,h2,rfl,h4⟩
   ·refine⟨H',f',g',rfl,mj,.inl ⟨rfl,rfl,.inr fun x' Dk=> ?_⟩⟩
    rcases hp with hp | hp
    ·rw[hu] at hp;cases hp
    ·rcases yd x' x with h | h
     ·exact hp x' h
     ·have:x'=x:=by omega
      subst this;exact Wi
   ·rw[yr] at hu;cases hu
  ·rcases hP with⟨rfl,rfl,hp⟩ | ⟨h1,h2,rfl,h4⟩
   ·exact⟨H2,_,true,rfl,Aj,.inr ⟨hu,⟨x,hx,Wi⟩,rfl,rfl⟩⟩
   ·rw[yr] at hu;cases hu
 ·rintro t ⟨H',f',g',rfl,mj,hP⟩
  have e1:decide (((256:Nat):Int) < 256)=false:=Ra (by omega);have Oe:∀ E,E.get 0= .pv (.lit 256 (C.map Zb))->E.get 3= .pv (aa C.length)->E.get 4= .own 0 C.length->E.get 6= .pv (.bool g')->E.get 7= .pv (aa i)->E.get 8= .pv (aa j)->
   (Ex.exit 8,(⟨E,H'⟩:St)).1.stop=true/\∃ E' H2 f' g',(Ex.exit 8,(⟨E,H'⟩:St))=(.exit 8,⟨E',H2⟩)/\Ie H2 C.length f'/\MK C i j f g f' g'/\E'.get 0= .pv (.lit 256 (C.map Zb))/\E'.get 3= .pv (aa C.length)/\E'.get 4= .own 0 C.length/\E'.get 6= .pv (.bool g')/\E'.get 7= .pv (aa i)/\E'.get 8= .pv (aa j):=
   fun E k0 k3 k4 k6 k7 k8=>⟨rfl,E,H',f',g',rfl,mj,hP,k0,k3,k4,k6,k7,k8⟩
  have tn:((C.length:Int)).toNat=C.length:=by simp
  generalize hQ:(fun r:Ex×St=>r.1.stop=true/\_)=Q;generalize (PV.lit 256 (C.map Zb))=L at *;simp -implicitDefEqProofs only[SX,sevalprocAttr,bp,e1,tn,eh];subst hQ;exact Oe _ (by simp[Tr.na]) (by simp[Tr.na]) (by simp[Tr.na]) (by simp[Tr.na]) (by simp[Tr.na]) (by simp[Tr.na])
end
def Fp(n:Nat)(f:Nat->Nat->Bool):Nat:=((List.range n).flatMap fun i=>(List.range n).map fun j=>(i,j)).countP fun p=> !f p.1 p.2
theorem fX{α:Type}{p q:α->Bool}:∀ {l:List α},(∀ a∈l,q a=true->p a=true)->(∃ a∈l,p a=true/\q a=false)->l.countP q < l.countP p
 | [],_,⟨a,h,_⟩=>by cases h
 |b::l,h,⟨a,ha,hp,hq⟩=>by
  rw[List.countP_cons,List.countP_cons];have fT:l.countP q<=l.countP p:=List.countP_mono_left fun x hx h1=>h x (by simp[hx]) h1
  rcases Ae.1 ha with rfl | ha
  ·rw[hp,hq];simp;omega
  ·have ih:=fX (l:=l) (fun x hx=>h x (by simp[hx])) ⟨a,ha,hp,hq⟩
   have hb:=h b (by simp);cases hqb:q b with
   |false=>simp;omega
   |true=>rw[hb hqb];simp;omega
theorem yae{n:Nat}{f:Nat->Nat->Bool}{i j:Nat}(hi:i < n)(hj:j < n)(h:f i j=false):Fp n (On f i j) < Fp n f:=by
 refine fX ?_ ⟨(i,j),?_,?_,?_⟩
 ·rintro⟨a,b⟩ _ h1
  simp only[On,Lo] at h1 ⊢
  split at h1
  ·cases h1
  ·exact h1
 ·rw[List.mem_flatMap]
  exact⟨i,by simpa using hi,by rw[Re];exact⟨j,by simpa using hj,rfl⟩⟩
 ·simp[h]
 ·simp[On]
theorem xae(n:Nat)(f:Nat->Nat->Bool):Fp n f<=n * n:=by
 refine Lj List.countP_le_length ?_
 have:∀ l:List Nat,(l.flatMap fun i=>(List.range n).map fun j=>(i,j)).length=l.length * n:=by
  intro l
  induction l with
  |nil=>simp
  |cons a l ih=>rw[yx,Pc,ih,wb,Wn,Td,Yz];omega
 rw[this,Wn];exact gb _
structure wj(C:List (List Int))(D:Nat->Nat->Prop)(f0:Nat->Nat->Bool)(done:Nat->Nat->Prop)(f:Nat->Nat->Bool)(g:Bool):Prop where
 snd:∀ a b,f a b=true->D a b
 sym:∀ a b,f a b=f b a
 qc:g=false->f=f0/\∀ i j,done i j->f i j=true\/∀ x,x < 256->Ni C f i j x=false
 le:Fp C.length f<=Fp C.length f0
 lt:g=true->Fp C.length f < Fp C.length f0
def mG(C:List (List Int))(D:Nat->Nat->Prop):Prop:=(∀ a b,D a b->D b a)/\
 ∀ i j x (f:Nat->Nat->Bool),i < C.length->j < C.length->x < 256->(∀ a b,f a b=true->D a b)->Ni C f i j x=true->D i j
theorem wj.step{C:List (List Int)}{D:Nat->Nat->Prop}(hD:mG C D){f0 f f':Nat->Nat->Bool}{done:Nat->Nat->Prop}{g g':Bool}(h:wj C D f0 done f g){i j:Nat}(hi:i < C.length)(hj:j < C.length)(hp:MK C i j f g f' g'):
 wj C D f0 (fun a b=>done a b\/(a=i/\b=j)) f' g':=by
 rcases hp with⟨rfl,rfl,hp⟩ | ⟨h1,⟨x,hx,h2⟩,rfl,rfl⟩
 ·refine⟨h.snd,h.sym,fun hg=>⟨(h.qc hg).1,?_⟩,h.le,h.lt⟩
  rintro a b (hd | ⟨rfl,rfl⟩)
  ·exact (h.qc hg).2 a b hd
  ·exact hp
 ·have hd:=hD.2 i j x f hi hj hx h.snd h2
  have hlt:=yae hi hj h1;have hle:=h.le
  refine⟨?_,?_,fun hg=>(by cases hg),by omega,fun _=>by omega⟩
  ·intro a b Hm
   unfold On at Hm
   split at Hm
   ·next hc=>
    rcases hc with⟨rfl,rfl⟩ | ⟨rfl,rfl⟩
    ·exact hd
    ·exact hD.1 _ _ hd
   ·exact h.snd a b Hm
  ·intro a b
   unfold On;rw[h.sym a b]
   congr 1
   apply propext;constructor
   ·rintro (⟨h1,h2⟩ | ⟨h1,h2⟩)
    ·exact .inr ⟨h2,h1⟩
    ·exact .inl ⟨h2,h1⟩
   ·rintro (⟨h1,h2⟩ | ⟨h1,h2⟩)
    ·exact .inr ⟨h2,h1⟩
    ·exact .inl ⟨h2,h1⟩
theorem wj.weaken{C:List (List Int)}{D:Nat->Nat->Prop}{f0 f:Nat->Nat->Bool}{done xX:Nat->Nat->Prop}{g:Bool}(h:wj C D f0 done f g)(hd:∀ a b,xX a b->done a b):wj C D f0 xX f g:=
 ⟨h.snd,h.sym,fun hg=>⟨(h.qc hg).1,fun a b Hm=>(h.qc hg).2 a b (hd a b Hm)⟩,h.le,h.lt⟩
attribute [local irreducible] Ia
abbrev Sx(v:PV)(n i j:Int)(g:Bool):Tr:=(((((Tr.lf.set 8 (.pv (aa j))).set 7 (.pv (aa i))).set 6 (.pv (.bool g))).set 4 (.own 0 n.toNat)).set 3 (.pv (aa n))).set 0 (.pv v)
abbrev Rx(v:PV)(n i:Int)(g:Bool):Tr:=((((Tr.lf.set 7 (.pv (aa i))).set 6 (.pv (.bool g))).set 4 (.own 0 n.toNat)).set 3 (.pv (aa n))).set 0 (.pv v)
abbrev Nv(v:PV)(n:Int)(g:Bool):Tr:=(((Tr.lf.set 6 (.pv (.bool g))).set 4 (.own 0 n.toNat)).set 3 (.pv (aa n))).set 0 (.pv v)
section
variable (call:Ab){C:List (List Int)}(hC:Rk C){D:Nat->Nat->Prop}(hD:mG C D){f0:Nat->Nat->Bool}
include hC hD
theorem vaa{i:Nat}(hi:i < C.length){done:Nat->Nat->Prop}{H:List fa}{f:Nat->Nat->Bool}(hM:Ie H C.length f){g:Bool}(hP:wj C D f0 done f g):
 Ia (fun r=>∃ E H' f' g',r=(.exit 6,⟨E,H'⟩)/\Ie H' C.length f'/\wj C D f0 (fun a b=>done a b\/(a=i/\b < i)) f' g'/\E.get 0= .pv (.lit 256 (C.map Zb))/\E.get 3= .pv (aa C.length)/\E.get 4= .own 0 C.length/\E.get 6= .pv (.bool g')/\E.get 7= .pv (aa i))
  (Mb (Aa (ua call MG) (ta (2 * C.length+1) [0,3,4,6,7,8])) Ga ⟨Sx (.lit 256 (C.map Zb)) C.length i 0 g,H⟩):=by
 have ib:=hC.sz
 refine Bb (We (g:=Aa (ua call MG) (ta (2 * C.length+1) [0,3,4,6,7,8]))
  (fun j t=>∃ H' f' g',t=⟨Sx (.lit 256 (C.map Zb)) C.length i j g',H'⟩/\Ie H' C.length f'/\wj C D f0 (fun a b=>done a b\/(a=i/\b < j)) f' g')
  i (by unfold Ga;omega) _ ⟨H,f,g,rfl,hM,hP.weaken fun a b h=>by rcases h with h | h;exact h;omega⟩ ?_ ?_) (fun r h=>h.2)
 ·rintro j t hj ⟨H',f',g',rfl,mj,hP'⟩
  have al:j < C.length:=by omega
  have Tf:=waa call hC hi al mj g';have e1:decide ((j:Int) < (i:Int))=true:=Qa (by omega);have t2:IntKind.i64.wrap ((j:Int)+1)=((j+1:Nat):Int):=Gb (by omega)
  have tn:((C.length:Int)).toNat=C.length:=by simp
  have hz:(0 < 2 * C.length+1)=True:=by simp
  have Eb:=mj.cut
  have hlen:=mj.len
  have vf:∀ H2 f2 g2,Ie H2 C.length f2->MK C i j f' g' f2 g2->
   LN (fun j t=>∃ H' f' g',t=⟨Sx (.lit 256 (C.map Zb)) C.length i j g',H'⟩/\Ie H' C.length f'/\wj C D f0 (fun a b=>done a b\/(a=i/\b < j)) f' g')
    (fun r=>∃ E H' f' g',r=(.exit 6,⟨E,H'⟩)/\Ie H' C.length f'/\wj C D f0 (fun a b=>done a b\/(a=i/\b < i)) f' g'/\E.get 0= .pv (.lit 256 (C.map Zb))/\E.get 3= .pv (aa C.length)/\E.get 4= .own 0 C.length/\E.get 6= .pv (.bool g')/\E.get 7= .pv (aa i)) j
    (.norm,⟨Sx (.lit 256 (C.map Zb)) C.length i (j+1:Nat) g2,H2⟩):=by
   intro H2 f2 g2 h1 h2;refine⟨H2,f2,g2,rfl,h1,(hP'.step hD hi al h2).weaken ?_⟩;rintro a b (h | ⟨rfl,h⟩)
   ·exact .inl (.inl h)
   ·rcases yd b j with h3 | h3
    ·exact .inl (.inr ⟨rfl,h3⟩)
    ·exact .inr ⟨rfl,by omega⟩
  generalize LN _ _ j=QQ at vf ⊢;generalize (PV.lit 256 (C.map Zb))=L at *;simp -implicitDefEqProofs only[SX,sevalprocAttr,MG,e1,Oc,hlen,Eb,hz,tn,ta,Za,AV.cut,Cb,Sx];simp only[eh,tn] at Tf;refine Bb Tf ?_;rintro r ⟨E,H2,f2,g2,rfl,Aj,Ul,k0,k3,k4,k6,k7,k8⟩;have xu:=Aj.cut
  have Rp:=Aj.len
  have ey:=vf H2 f2 g2 Aj Ul;simp -implicitDefEqProofs only[SX,sevalprocAttr,k0,k3,k4,k6,k7,k8,t2,Rp,xu,hz,ta,Za,AV.cut,Cb];simp only[Sx,tn] at ey;exact ey
 ·rintro t ⟨H',f',g',rfl,mj,hP'⟩
  have e1:decide ((i:Int) < (i:Int))=false:=Ra (by omega);have tn:((C.length:Int)).toNat=C.length:=by simp
  have Oe:∀ E,E.get 0= .pv (.lit 256 (C.map Zb))->E.get 3= .pv (aa C.length)->E.get 4= .own 0 C.length->E.get 6= .pv (.bool g')->E.get 7= .pv (aa i)->
   (Ex.exit 6,(⟨E,H'⟩:St)).1.stop=true/\∃ E' H2 f' g',(Ex.exit 6,(⟨E,H'⟩:St))=(.exit 6,⟨E',H2⟩)/\Ie H2 C.length f'/\wj C D f0 (fun a b=>done a b\/(a=i/\b < i)) f' g'/\E'.get 0= .pv (.lit 256 (C.map Zb))/\E'.get 3= .pv (aa C.length)/\E'.get 4= .own 0 C.length/\E'.get 6= .pv (.bool g')/\E'.get 7= .pv (aa i):=
   fun E k0 k3 k4 k6 k7=>⟨rfl,E,H',f',g',rfl,mj,hP',k0,k3,k4,k6,k7⟩
  generalize hQ:(fun r:Ex×St=>r.1.stop=true/\_)=Q;generalize (PV.lit 256 (C.map Zb))=L at *;simp -implicitDefEqProofs only[SX,sevalprocAttr,MG,e1,tn,Sx];subst hQ;exact Oe _ (by simp[Tr.na]) (by simp[Tr.na]) (by simp[Tr.na]) (by simp[Tr.na]) (by simp[Tr.na])
theorem uaa{H:List fa}{f:Nat->Nat->Bool}(hM:Ie H C.length f){g:Bool}(hP:wj C D f0 (fun _ _=>False) f g):
 Ia (fun r=>∃ E H' f' g',r=(.exit 4,⟨E,H'⟩)/\Ie H' C.length f'/\wj C D f0 (fun a b=>a < C.length/\b < a) f' g'/\E.get 0= .pv (.lit 256 (C.map Zb))/\E.get 3= .pv (aa C.length)/\E.get 4= .own 0 C.length/\E.get 6= .pv (.bool g'))
  (Mb (Aa (ua call LG) (ta (2 * C.length+1) [0,3,4,6,7])) Ga ⟨Rx (.lit 256 (C.map Zb)) C.length 0 g,H⟩):=by
 have ib:=hC.sz
 refine Bb (We (g:=Aa (ua call LG) (ta (2 * C.length+1) [0,3,4,6,7]))
  (fun i t=>∃ H' f' g',t=⟨Rx (.lit 256 (C.map Zb)) C.length i g',H'⟩/\Ie H' C.length f'/\wj C D f0 (fun a b=>a < i/\b < a) f' g')
  C.length (by unfold Ga;omega) _ ⟨H,f,g,rfl,hM,hP.weaken fun a b h=>by omega⟩ ?_ ?_) (fun r h=>h.2)
 ·rintro i t hi ⟨H',f',g',rfl,mj,hP'⟩
  have Tf:=vaa call hC hD hi mj hP';have e1:decide ((i:Int) < (C.length:Int))=true:=Qa (by omega);have t2:IntKind.i64.wrap ((i:Int)+1)=((i+1:Nat):Int):=Gb (by omega)
  have tn:((C.length:Int)).toNat=C.length:=by simp
  have hz:(0 < 2 * C.length+1)=True:=by simp
  have Eb:=mj.cut
  have hlen:=mj.len
  have vf:∀ H2 f2 g2,Ie H2 C.length f2->wj C D f0 (fun a b=>(a < i/\b < a)\/(a=i/\b < i)) f2 g2->
   LN (fun i t=>∃ H' f' g',t=⟨Rx (.lit 256 (C.map Zb)) C.length i g',H'⟩/\Ie H' C.length f'/\wj C D f0 (fun a b=>a < i/\b < a) f' g')
    (fun r=>∃ E H' f' g',r=(.exit 4,⟨E,H'⟩)/\Ie H' C.length f'/\wj C D f0 (fun a b=>a < C.length/\b < a) f' g'/\E.get 0= .pv (.lit 256 (C.map Zb))/\E.get 3= .pv (aa C.length)/\E.get 4= .own 0 C.length/\E.get 6= .pv (.bool g')) i
    (.norm,⟨Rx (.lit 256 (C.map Zb)) C.length (i+1:Nat) g2,H2⟩):=by
   intro H2 f2 g2 h1 h2;refine⟨H2,f2,g2,rfl,h1,h2.weaken ?_⟩;rintro a b ⟨h3,h4⟩;rcases yd a i with h5 | h5
   ·exact .inl ⟨h5,h4⟩
   ·exact .inr ⟨by omega,by omega⟩
  generalize LN _ _ i=QQ at vf ⊢;generalize (PV.lit 256 (C.map Zb))=L at *;simp -implicitDefEqProofs only[SX,sevalprocAttr,LG,e1,Oc,hlen,Eb,hz,tn,ta,Za,AV.cut,Cb,Rx];simp only[Sx,tn] at Tf;refine Bb Tf ?_;rintro r ⟨E,H2,f2,g2,rfl,Aj,Ul,k0,k3,k4,k6,k7⟩;have xu:=Aj.cut
  have Rp:=Aj.len
  have ey:=vf H2 f2 g2 Aj Ul;simp -implicitDefEqProofs only[SX,sevalprocAttr,k0,k3,k4,k6,k7,t2,Rp,xu,hz,ta,Za,AV.cut,Cb];simp only[Rx,tn] at ey;exact ey
 ·rintro t ⟨H',f',g',rfl,mj,hP'⟩
  have e1:decide ((C.length:Int) < (C.length:Int))=false:=Ra (by omega);have tn:((C.length:Int)).toNat=C.length:=by simp
  have Oe:∀ E,E.get 0= .pv (.lit 256 (C.map Zb))->E.get 3= .pv (aa C.length)->E.get 4= .own 0 C.length->E.get 6= .pv (.bool g')->
   (Ex.exit 4,(⟨E,H'⟩:St)).1.stop=true/\∃ E' H2 f' g',(Ex.exit 4,(⟨E,H'⟩:St))=(.exit 4,⟨E',H2⟩)/\Ie H2 C.length f'/\wj C D f0 (fun a b=>a < C.length/\b < a) f' g'/\E'.get 0= .pv (.lit 256 (C.map Zb))/\E'.get 3= .pv (aa C.length)/\E'.get 4= .own 0 C.length/\E'.get 6= .pv (.bool g'):=
   fun E k0 k3 k4 k6=>⟨rfl,E,H',f',g',rfl,mj,hP',k0,k3,k4,k6⟩
  generalize hQ:(fun r:Ex×St=>r.1.stop=true/\_)=Q;generalize (PV.lit 256 (C.map Zb))=L at *;simp -implicitDefEqProofs only[SX,sevalprocAttr,LG,e1,tn,Rx];subst hQ;exact Oe _ (by simp[Tr.na]) (by simp[Tr.na]) (by simp[Tr.na]) (by simp[Tr.na])
end
structure Nt(C:List (List Int))(D:Nat->Nat->Prop)(f:Nat->Nat->Bool)(g:Bool):Prop where
 snd:∀ a b,f a b=true->D a b
 sym:∀ a b,f a b=f b a
 closed:g=false->∀ i j,i < C.length->j < i->f i j=true\/∀ x,x < 256->Ni C f i j x=false
theorem taa(call:Ab){C:List (List Int)}(hC:Rk C){D:Nat->Nat->Prop}(hD:mG C D){H:List fa}{f:Nat->Nat->Bool}(hM:Ie H C.length f)(hK:Nt C D f true):
 Ia (fun r=>∃ E H' f',r=(.exit 2,⟨E,H'⟩)/\Ie H' C.length f'/\Nt C D f' false/\E.get 4= .own 0 C.length)
  (Mb (Aa (ua call KG) (ta (2 * C.length+1) [0,3,4,6])) Ga ⟨Nv (.lit 256 (C.map Zb)) C.length true,H⟩):=by
 have ib:=hC.sz
 have hfl:∀ f,Fp C.length f<=4096:=fun f=>Lj (xae _ _) (Nat.mul_le_mul ib ib)
 refine Bb (LB (g:=Aa (ua call KG) (ta (2 * C.length+1) [0,3,4,6]))
  (fun k t=>∃ H' f' g',t=⟨Nv (.lit 256 (C.map Zb)) C.length g',H'⟩/\Ie H' C.length f'/\Nt C D f' g'/\k=Fp C.length f'+if g' then 1 else 0)
  Ga (Fp C.length f+1) _ (by have:=hfl f;unfold Ga;omega) ⟨H,f,true,rfl,hM,hK,rfl⟩ ?_) (fun r h=>h.2)
 rintro k t ⟨H',f',g',rfl,mj,Yq,hk⟩;have tn:((C.length:Int)).toNat=C.length:=by simp
 cases g' with
 |false=>
  have Oe:∀ E,E.get 4= .own 0 C.length->
   LQ (fun k t=>∃ H' f' g',t=⟨Nv (.lit 256 (C.map Zb)) C.length g',H'⟩/\Ie H' C.length f'/\Nt C D f' g'/\k=Fp C.length f'+if g' then 1 else 0)
    (fun r=>∃ E H' f',r=(.exit 2,⟨E,H'⟩)/\Ie H' C.length f'/\Nt C D f' false/\E.get 4= .own 0 C.length) k (.exit 2,⟨E,H'⟩):=fun E k4=>⟨E,H',f',rfl,mj,Yq,k4⟩
  generalize LQ _ _ k=QQ at Oe ⊢;generalize (PV.lit 256 (C.map Zb))=L at *;simp -implicitDefEqProofs only[SX,sevalprocAttr,KG,tn,Nv];exact Oe _ (by simp[Tr.na])
 |true=>
  have hP0:wj C D f' (fun _ _=>False) f' false:=⟨Yq.snd,Yq.sym,fun _=>⟨rfl,fun _ _ h=>h.elim⟩,gb _,fun h=>by cases h⟩;have Tf:=uaa call hC hD mj hP0;have hz:(0 < 2 * C.length+1)=True:=by simp
  have Eb:=mj.cut
  have hlen:=mj.len
  have vf:∀ H2 f2 g2,Ie H2 C.length f2->wj C D f' (fun a b=>a < C.length/\b < a) f2 g2->
   LQ (fun k t=>∃ H' f' g',t=⟨Nv (.lit 256 (C.map Zb)) C.length g',H'⟩/\Ie H' C.length f'/\Nt C D f' g'/\k=Fp C.length f'+if g' then 1 else 0)
    (fun r=>∃ E H' f',r=(.exit 2,⟨E,H'⟩)/\Ie H' C.length f'/\Nt C D f' false/\E.get 4= .own 0 C.length) k (.norm,⟨Nv (.lit 256 (C.map Zb)) C.length g2,H2⟩):=by
   intro H2 f2 g2 h1 h2;refine⟨Fp C.length f2+if g2 then 1 else 0,?_,H2,f2,g2,rfl,h1,⟨h2.snd,h2.sym,fun hg i j hi hj=>(h2.qc hg).2 i j ⟨hi,hj⟩⟩,rfl⟩;rw[hk];cases g2 with
   |false=>have:=h2.le;simp;omega
   |true=>have:=h2.lt rfl;simp;omega
  generalize LQ _ _ k=QQ at vf ⊢;generalize (PV.lit 256 (C.map Zb))=L at *;simp -implicitDefEqProofs only[SX,sevalprocAttr,KG,Oc,hlen,Eb,hz,tn,ta,Za,AV.cut,Cb,Nv];simp only[Rx,tn] at Tf;refine Bb Tf ?_;rintro r ⟨E,H2,f2,g2,rfl,Aj,Ul,k0,k3,k4,k6⟩;have xu:=Aj.cut
  have Rp:=Aj.len
  have ey:=vf H2 f2 g2 Aj Ul;simp -implicitDefEqProofs only[SX,sevalprocAttr,k0,k3,k4,k6,Rp,xu,hz,ta,Za,AV.cut,Cb];simp only[Nv,tn] at ey;exact ey
theorem QR:∀ {C:List (List Int)},(∀ r∈C,r.length=256)->∀ {k:Nat},(hk:k < C.length)->Kb C.flatten k=C[k]
 | [],_,k,hk=>by simp at hk
 |r::C,h,0,hk=>by
  have hr:=h r (by simp);show ((r++C.flatten).drop (0 * 256)).take 256=r
  rw[TC,Un,gG (by omega),Ih (by omega)]
 |r::C,h,k+1,hk=>by
  have hr:=h r (by simp);have ih:=QR (C:=C) (fun r' Bf=>h r' (by simp[Bf])) (k:=k) (by simpa using hk);show ((r++C.flatten).drop ((k+1) * 256)).take 256=C[k]'(by simpa using hk)
  rw[show (k+1) * 256=r.length+k * 256 by omega,yK,uP (by omega),Kf,Uz];exact ih
theorem fE:∀ {C:List (List Int)},(∀ r∈C,r.length=256)->C.flatten.length=C.length * 256
 | [],_=>rfl
 |r::C,h=>by rw[um,Pc,h r (by simp),fE fun r' Bf=>h r' (by simp[Bf]),Td];omega
section
variable {ss:List ya}{ma:List Al}{C:List (List Int)}(W:og ss ma C)(hl:C.length=ma.length)
include W hl
theorem og.at{k x:Nat}(hk:k < C.length)(hx:x < 256):∃ a,ma[k]? =some a/\bA ss ma a x (Fb C k x):=by
 have h1:ma[k]? =some (ma[k]'(by omega)):=Rb (by omega);exact⟨_,h1,W.step k _ hk h1 x hx⟩
theorem og.bound{k x:Nat}(hk:k < C.length)(hx:x < 256): -2<=Fb C k x/\Fb C k x < C.length:=by
 obtain⟨a,ha,h⟩:=W.at hl hk hx
 rcases h with⟨_,h⟩ | ⟨_,_,h⟩ | ⟨_,_,k',m,h,_,h2⟩
 ·omega
 ·omega
 ·have:=(Ad.1 h2).1
  omega
omit hl in
theorem og.val{r:List Int}(hr:r∈C){v:Int}(hv:v∈r):∃ k x,k < C.length/\x < 256/\v=Fb C k x:=by
 obtain⟨k,hk,rfl⟩:=uj hr;obtain⟨x,hx,rfl⟩:=uj hv;have Kag:=W.row _ (ic hk)
 refine⟨k,x,hk,by omega,?_⟩;unfold Fb;have:C.getD k []=C[k]:=by rw[sf,Rb hk];rfl
 rw[this,sf,Rb hx];rfl
theorem og.pb:Rk C:=by
 refine⟨W.row,?_,by have:=W.ok.1;omega⟩;intro r hr v hv;obtain⟨k,x,hk,hx,rfl⟩:=W.val hr hv
 exact (W.bound hl hk hx).2
theorem og.ge:∀ r∈C,∀ v∈r,-2<=v:=by
 intro r hr v hv;obtain⟨k,x,hk,hx,rfl⟩:=W.val hr hv
 exact (W.bound hl hk hx).1
theorem og.MD{k x:Nat}(hk:k < C.length)(hx:x < 256)(h:0<=Fb C k x):(k:Int) < Fb C k x:=by
 obtain⟨a,ha,hs⟩:=W.at hl hk hx
 rcases hs with⟨_,h2⟩ | ⟨_,_,h2⟩ | ⟨_,_,k',m,h2,_,h3⟩
 ·omega
 ·omega
 ·rw[h2]
  rcases yd k k' with h4 | h4
  ·omega
  ·have:=W.up k' k _ _ h4 h3 ha
   simp only at this;omega
theorem og.later:wK C.length C.flatten:=by
 intro j hj to me h0;rw[QR W.row hj] at me;obtain⟨x,hx,rfl⟩:=uj me;have Kag:=W.row _ (ic hj)
 have hn:C[j][x]=Fb C j x:=by
  unfold Fb;have:C.getD j []=C[j]:=by rw[sf,Rb hj];rfl
  rw[this,sf,Rb hx];rfl
 rw[hn] at h0 ⊢;exact⟨W.MD hl hj (by omega) h0,(W.bound hl hj (by omega)).2⟩
end
def cls(C:List (List Int))(j:Nat):Int:=(eg C.length C.flatten).Ob.getD j 0
def Yi(C:List (List Int))(j x:Nat):Int:=if 0<=Fb C j x then cls C (Fb C j x).toNat else Fb C j x
section
variable {ss:List ya}{ma:List Al}{C:List (List Int)}(W:og ss ma C)(hl:C.length=ma.length)
include W hl
theorem og.Kn:Wm C.length C.flatten 0 (eg C.length C.flatten):=jal (W.later hl) (fE W.row)
theorem og.KD{j x:Nat}(hj:j < C.length)(hx:x < 256):(Kb (eg C.length C.flatten).C j).getD x 0=Yi C j x:=by
 have h:=(W.Kn hl).hi j (by omega) hj
 have hg:=(W.pb hl).get hj hx
 rw[h,QR W.row hj,sf,Gd,hg.1];show Jn _ (Fb C j x)=Yi C j x;unfold Jn Yi cls;rfl
theorem og.ML{j:Nat}(hj:j < C.length):(Kb (eg C.length C.flatten).C j).length=256:=xq (W.Kn hl).hC hj
theorem og.aR{i j:Nat}(hi:i < C.length)(hj:j < C.length):cls C i=cls C j↔∀ x,x < 256->Yi C i x=Yi C j x:=by
 unfold cls;rw[(W.Kn hl).L2 hi hj];constructor
 ·intro h x hx
  rw[<- W.KD hl hi hx,<-W.KD hl hj hx,h]
 ·intro h
  apply Nl;intro x
  by_cases hx:x < 256
  ·have h1:=W.ML hl hi
   have h2:=W.ML hl hj
   have h3:=h x hx;rw[<- W.KD hl hi hx,<-W.KD hl hj hx,sf,sf,Rb (by omega),Rb (by omega)] at h3;rw[Rb (by omega),Rb (by omega)];exact congrArg some h3
  ·rw[dh (by rw[W.ML hl hi];omega),dh (by rw[W.ML hl hj];omega)]
theorem og.aas:mG C fun i j=>cls C i≠cls C j:=by
 refine⟨fun a b h=>h.symm,?_⟩;intro i j x f hi hj hx hs ht he;have h:=(W.aR hl hi hj).1 he x hx
 unfold Yi at h;unfold Ni at ht;generalize Fb C i x=a at *;generalize Fb C j x=b at *;rw[Nr,fb,fb,fb,Nr] at ht;simp only[decide_eq_true_eq,bne_iff_ne,ne_eq] at ht;rcases ht with⟨h1,h2⟩ | ⟨⟨h1,h2⟩,h3⟩
 ·by_cases ha:0<=a
  ·by_cases hb:0<=b
   ·omega
   ·rw[if_pos ha,qa hb] at h
    have:0<=cls C a.toNat\/C.length<=a.toNat:=by
     rcases yd a.toNat C.length with h4 | h4
     ·exact .inl ((W.Kn hl).Uy h4).1
     ·exact .inr h4
    rcases this with h5 | h5
    ·omega
    ·have:cls C a.toNat=0:=by
      unfold cls;rw[sf,dh (by rw[(W.Kn hl).hk];exact h5)];rfl
     omega
  ·by_cases hb:0<=b
   ·rw[qa ha,if_pos hb] at h
    have:0<=cls C b.toNat:=by
     rcases yd b.toNat C.length with h4 | h4
     ·exact ((W.Kn hl).Uy h4).1
     ·have:cls C b.toNat=0:=by
       unfold cls;rw[sf,dh (by rw[(W.Kn hl).hk];exact h4)];rfl
      omega
    omega
   ·rw[qa ha,qa hb] at h;exact h1 h
 ·rw[if_pos h1,if_pos h2] at h
  exact hs _ _ h3 h
theorem og.known{f:Nat->Nat->Bool}(hK:Nt C (fun i j=>cls C i≠cls C j) f false):∀ i j,i < C.length->j < C.length->(f i j=false↔cls C i=cls C j):=by
 have key:∀ (m i j:Nat),(C.length - i)+(C.length - j)<=m->i < C.length->j < C.length->f i j=false->cls C i=cls C j:=by
  intro m
  induction m with
  |zero=>intro i j h hi hj;omega
  |succ m ih=>
   intro i j hm hi hj hf
   by_cases hij:i=j
   ·rw[hij]
   have fc:∀ x,x < 256->Ni C f i j x=false:=by
    have hsw:∀ x,Ni C f j i x=Ni C f i j x:=by intro x;unfold Ni;rw[hK.sym,bne_comm,Bool.or_comm (decide (Fb C j x < 0)),Bool.and_comm (decide (Fb C j x>=0))]
    rcases Nat.lt_or_gt_of_ne hij with h1 | h1
    ·rcases hK.closed rfl j i hj h1 with h2 | h2
     ·rw[hK.sym,hf] at h2;cases h2
     ·intro x hx;rw[<- hsw];exact h2 x hx
    ·rcases hK.closed rfl i j hi h1 with h2 | h2
     ·rw[hf] at h2;cases h2
     ·exact h2
   rw[W.aR hl hi hj];intro x hx;have ht:=fc x hx;have di:=W.MD hl hi hx
   have dj:=W.MD hl hj hx
   have bi:=(W.bound hl hi hx).2
   have bj:=(W.bound hl hj hx).2
   unfold Yi;unfold Ni at ht;generalize Fb C i x=a at *;generalize Fb C j x=b at *;simp only[IF,Bool.and_eq_false_iff,bne_eq_false_iff_eq,decide_eq_false_iff_not] at ht
   by_cases Hm:a=b
   ·rw[Hm]
   ·have h1:¬a < 0/\¬b < 0:=by
     rcases ht.1 with h | h
     ·exact absurd h Hm
     ·exact h
    have h2:f a.toNat b.toNat=false:=by
     rcases ht.2 with (h | h) | h
     ·omega
     ·omega
     ·exact h
    rw[if_pos (by omega),if_pos (by omega)];have:=di (by omega);have:=dj (by omega);exact ih a.toNat b.toNat (by omega) (by omega) (by omega) h2
 intro i j hi hj;refine⟨key _ i j (gb _) hi hj,fun h=> ?_⟩;cases hf:f i j with
 |false=>rfl
 |true=>exact absurd h (hK.snd i j hf)
end
def uh(s:ya)(w:List Nat):Prop:=∀ j x,w[j]? =some x->Ek s j x=true
def Full(s:ya)(w:List Nat):Prop:=uh s w/\w.length=s.ba.length
def Bytes(w:List Nat):Prop:=∀ x∈w,x < 256
theorem bU{s:ya}{j x:Nat}(h:Ek s j x=true):j < s.ba.length:=by
 unfold Ek at h;cases hp:s.ba[j]? with
 |none=>rw[hp] at h;cases h
 |some l=>exact (Ad.1 hp).1
theorem G3{s:ya}{w:List Nat}(h:uh s w):w.length<=s.ba.length:=by
 rcases Bx w.length with h0 | h0
 ·omega
 ·have:=bU (h (w.length - 1) _ (Rb (by omega)))
  omega
theorem Lal(s:ya):uh s []:=by intro j x h;simp at h
theorem Mal{s:ya}{w:List Nat}{x:Nat}:uh s (w++[x])↔uh s w/\Ek s w.length x=true:=by
 constructor
 ·intro h
  refine⟨fun j y hj=>h j y ?_,h w.length x (by simp)⟩;rw[Kc (Ad.1 hj).1];exact hj
 ·rintro⟨h1,h2⟩ j y hj
  rcases yd j w.length with h | h
  ·rw[Kc h] at hj;exact h1 j y hj
  ·rw[Tg h] at hj
   cases hq:j - w.length with
   |succ n=>rw[hq] at hj;simp at hj
   |zero=>
    rw[hq] at hj;simp at hj;have:j=w.length:=by omega
    subst this;subst hj;exact h2
theorem I3{s:ya}{w u:List Nat}(h:uh s (w++u)):uh s w:=by
 intro j y hj;refine h j y ?_;rw[Kc (Ad.1 hj).1];exact hj
theorem N3{p q:ya}(op:Yd p)(oq:Yd q)(hlt:p.ba.length<=q.ba.length){w:List Nat}(hw:Bytes w)(hp:Full p w)(hq:uh q w):fg p q=true:=by
 have key:∀ (m i:Nat),i+m=p.ba.length->(Ke p.ba q.ba m i).isSome=true:=by
  intro m
  induction m with
  |zero=>intro i _;rfl
  |succ m ih=>
   intro i hi;have h1:i < p.ba.length:=by omega
   have h2:i < q.ba.length:=by omega
   have DT:i < w.length:=by rw[hp.2];exact h1
   have Va:Cr p.ba q.ba i≠[]:=by
    rw[aU h1 h2 (op.ba _ (ic h1)).2 (oq.ba _ (ic h2)).2];have k1:=hp.1 i w[i] (Rb DT)
    have k2:=hq i w[i] (Rb DT);unfold Ek at k1 k2;rw[Rb h1] at k1;rw[Rb h2] at k2;exact⟨w[i],hw _ (ic DT),k1,k2⟩
   rw[Ke];cases hm:Cr p.ba q.ba i with
   |nil=>exact absurd hm Va
   |cons a r=>have:=ih (i+1) (by omega);simp only[Option.isSome_map];exact this
 exact key _ 0 (by omega)
theorem aO{ss:List ya}(ga:uc ss)(wc:Ee ss){p q:ya}(hp:p∈ss)(hq:q∈ss){w:List Nat}(hw:Bytes w)(h1:Full p w)(h2:uh q w):¬p.ba.length < q.ba.length:=by
 intro hlt;obtain⟨i,hi,rfl⟩:=uj hp;obtain⟨j,hj,rfl⟩:=uj hq;have:=wc i j hi hj hlt;rw[N3 (ga.He _ hp) (ga.He _ hq) (Nat.le_of_lt hlt) hw h1 h2] at this;cases this
def runT(C:List (List Int)):Int->List Nat->Int
 |k,[]=>k
 |k,x::w=>if k < 0 then -2 else runT C (Fb C k.toNat x) w
theorem Cap{C:List (List Int)}{u:List Nat}:runT C (-2) u= -2:=by cases u <;> rfl
theorem UU(C:List (List Int)):∀ (w u:List Nat)(k:Int),runT C k (w++u)=runT C (runT C k w) u
 | [],u,k=>rfl
 |x::w,u,k=>by
  rw[Sg,runT,runT]
  split
  ·rw[Cap]
  ·exact UU C w u _
theorem N7(C:List (List Int))(w:List Nat)(x:Nat)(k:Int):runT C k (w++[x])=if runT C k w < 0 then -2 else Fb C (runT C k w).toNat x:=by
 rw[UU,runT];rfl
def Xu(ss:List ya)(a:Al)(w:List Nat):Prop:=a.1=w.length/\∀ i,a.2.toNat.testBit i=true↔∃ s,ss[i]? =some s/\uh s w
theorem Xu.on{ss:List ya}{a:Al}{w:List Nat}(h:Xu ss a w)(x i:Nat):Nc ss a x i=true↔∃ s,ss[i]? =some s/\uh s (w++[x]):=by
 unfold Nc;rw[fb,h.2];cases hs:ss[i]? with
 |none=>simp
 |some s=>simp only[xb,exists_eq_left',h.1];rw[Mal]
theorem Xu.end{ss:List ya}{a:Al}{w:List Nat}(h:Xu ss a w)(x i:Nat):Bi ss a x i=true↔∃ s,ss[i]? =some s/\Full s (w++[x]):=by
 unfold Bi;rw[fb,h.on];cases hs:ss[i]? with
 |none=>simp
 |some s=>
  simp only[xb,exists_eq_left',h.1,beq_iff_eq];unfold Full;rw[Pc,QC];constructor
  ·rintro⟨h1,h2⟩;exact⟨h1,by omega⟩
  ·rintro⟨h1,h2⟩;exact⟨h1,by omega⟩
theorem Xu.NV{ss:List ya}{a:Al}{w:List Nat}(h:Xu ss a w)(x:Nat):yf (Nc ss a x) ss.length=true↔∃ s∈ss,uh s (w++[x]):=by
 rw[pG];constructor
 ·rintro⟨j,_,h1⟩
  obtain⟨s,h2,h3⟩:=(h.on x j).1 h1
  exact⟨s,vj h2,h3⟩
 ·rintro⟨s,h1,h2⟩
  obtain⟨j,hj,rfl⟩:=uj h1;exact⟨j,hj,(h.on x j).2 ⟨_,Rb hj,h2⟩⟩
theorem Xu.MV{ss:List ya}{a:Al}{w:List Nat}(h:Xu ss a w)(x:Nat):yf (Bi ss a x) ss.length=true↔∃ s∈ss,Full s (w++[x]):=by
 rw[pG];constructor
 ·rintro⟨j,_,h1⟩
  obtain⟨s,h2,h3⟩:=(h.end x j).1 h1
  exact⟨s,vj h2,h3⟩
 ·rintro⟨s,h1,h2⟩
  obtain⟨j,hj,rfl⟩:=uj h1;exact⟨j,hj,(h.end x j).2 ⟨_,Rb hj,h2⟩⟩
theorem iab{n:Nat}(h:n<=32)(i:Nat):(Xm n).toNat.testBit i=decide (i < n):=by
 rw[JQ h,Uc,Nat.testBit_two_pow_sub_one]
def CV(ss:List ya)(ma:List Al)(w:List Nat)(v:Int):Prop:=
 (v= -1/\∃ s∈ss,Full s w)\/
 (0<=v/\(∃ a,ma[v.toNat]? =some a/\Xu ss a w)/\(w=[]\/∃ s∈ss,uh s w/\w.length < s.ba.length)/\∀ s∈ss,¬Full s w)\/
 (v= -2/\w≠[]/\∀ s∈ss,¬uh s w)
section
variable {ss:List ya}{ma:List Al}{C:List (List Int)}(ga:uc ss)(wc:Ee ss)(W:og ss ma C)(hl:C.length=ma.length)
include ga wc W hl
theorem qJ:∀ (m:Nat)(w:List Nat),w.length=m->Bytes w->CV ss ma w (runT C 0 w)
 |0,w,hm,_=>by
  have:w=[]:=Ze hm;subst this;refine .inr (.inl ⟨Ll _,⟨_,W.pa,rfl,fun i=> ?_⟩,.inl rfl,?_⟩)
  ·rw[iab ga.len i,decide_eq_true_iff]
   constructor
   ·intro h;exact⟨ss[i],Rb h,Lal _⟩
   ·rintro⟨s,h,_⟩;exact (Ad.1 h).1
  ·intro s hs hf
   have:=(ga.He s hs).lo
   have:=hf.2
   simp at this;omega
 |m+1,w,hm,hb=>by
  obtain⟨u,x,rfl⟩:∃ u x,w=u++[x]:=by
   rcases zK w with rfl | ⟨u,x,rfl⟩
   ·simp at hm
   ·exact⟨u,x,xK⟩
  have hum:u.length=m:=by simpa using hm
  have aZ:Bytes u:=fun y hy=>hb y (by simp[hy]);have hx:x < 256:=hb x (by simp);have ih:=qJ m u hum aZ;rw[N7];have Va:u++[x]≠[]:=by simp
  have hlen:(u++[x]).length=u.length+1:=by simp
  rcases ih with⟨hv,s,hs,hf⟩ | ⟨hv,⟨a,ha,hd⟩,h1,h2⟩ | ⟨hv,_,h1⟩
  ·rw[hv,if_pos (by decide)]
   refine .inr (.inr ⟨rfl,Va,fun q hq AZ=> ?_⟩)
   have h1:=I3 AZ;have h2:=G3 AZ;exact aO ga wc hs hq aZ hf h1 (by rw[<- hf.2];omega)
  ·rw[qa (by omega)]
   have hk:=(Ad.1 ha).1
   rcases W.step _ a (by omega) ha x hx with⟨q1,q2⟩ | ⟨q1,q2,q3⟩ | ⟨q1,q2,k',m',q3,q4,q5⟩
   ·rw[q2]
    refine .inr (.inr ⟨rfl,Va,fun s hs ur=> ?_⟩)
    rw[(hd.NV x).2 ⟨s,hs,ur⟩] at q1;cases q1
   ·rw[q3]
    exact .inl ⟨rfl,(hd.MV x).1 q2⟩
   ·rw[q3]
    have BZ:∀ s∈ss,¬Full s (u++[x]):=fun s hs hf=>by rw[(hd.MV x).2 ⟨s,hs,hf⟩] at q2;cases q2
    refine .inr (.inl ⟨Int.natCast_nonneg _,⟨_,by rw[Uc];exact q5,?_,?_⟩,?_,BZ⟩)
    ·rw[hlen,<-hd.1]
    ·intro i
     show (m':Int).toNat.testBit i=true↔_
     rw[Uc,q4.bit,hd.on]
    ·obtain⟨s,hs,ur⟩:=(hd.NV x).1 q1
     refine .inr ⟨s,hs,ur,?_⟩
     have:=G3 ur;have:=BZ s hs;rcases yd (u++[x]).length s.ba.length with h | h
     ·exact h
     ·exact absurd ⟨ur,by omega⟩ this
  ·rw[hv,if_pos (by decide)]
   exact .inr (.inr ⟨rfl,Va,fun s hs ur=>h1 s hs (I3 ur)⟩)
end
section
variable {ss:List ya}{ma:List Al}{C:List (List Int)}(W:og ss ma C)(hl:C.length=ma.length)
include W hl
theorem og.bR{k:Nat}(hk:k < C.length):0<=cls C k:=((W.Kn hl).Uy hk).1
theorem og.U7:∀ (w:List Nat)(i j:Nat),Bytes w->i < C.length->j < C.length->cls C i=cls C j->(runT C i w= -1↔runT C j w= -1)
 | [],i,j,_,_,_,_=>by show ((i:Int)= -1↔(j:Int)= -1);constructor <;> intro h <;> omega
 |x::w,i,j,hb,hi,hj,h=>by
  have hx:x < 256:=hb x (by simp);have rE:Bytes w:=fun y hy=>hb y (by simp[hy]);have hn:=(W.aR hl hi hj).1 h x hx
  have b1:=W.bound hl hi hx
  have b2:=W.bound hl hj hx
  rw[runT,runT,qa (by omega),qa (by omega),Uc,Uc];unfold Yi at hn
  by_cases h1:0<=Fb C i x
  ·by_cases h2:0<=Fb C j x
   ·rw[if_pos h1,if_pos h2] at hn
    have:=og.U7 w (Fb C i x).toNat (Fb C j x).toNat rE (by omega) (by omega) hn
    rw[Ur h1,Ur h2] at this;exact this
   ·rw[if_pos h1,qa h2] at hn
    have:=W.bR hl (k:=(Fb C i x).toNat) (by omega)
    omega
  ·by_cases h2:0<=Fb C j x
   ·rw[qa h1,if_pos h2] at hn
    have:=W.bR hl (k:=(Fb C j x).toNat) (by omega)
    omega
   ·rw[qa h1,qa h2] at hn
    rw[hn]
theorem og.path:∀ (m k:Nat),k<=m->k < C.length->∃ w,Bytes w/\runT C 0 w=(k:Int)
 |0,k,hm,hk=>by
  have:k=0:=by omega
  subst this;exact⟨[],by simp[Bytes],rfl⟩
 |m+1,k,hm,hk=>by
  rcases Bx k with rfl | h0
  ·exact⟨[],by simp[Bytes],rfl⟩
  ·obtain⟨j,x,hj,hjC,hx,hn⟩:=W.reach k h0 (by omega)
   obtain⟨w,hw,hr⟩:=og.path m j (by omega) hjC
   refine⟨w++[x],?_,?_⟩
   ·intro y hy
    rcases Bd.1 hy with h | h
    ·exact hw y h
    ·simp at h;subst h;exact hx
   ·rw[N7,hr,qa (by omega),Uc,hn]
end
theorem mem_some{l:List (Int×Int)}(h:Se l):∃ x,x < 256/\Ge l x=true:=by
 obtain⟨p,hp⟩:=List.exists_mem_of_ne_nil _ h.1
 have h1:=FJ h.2 p hp
 refine⟨p.1.toNat,by omega,?_⟩;rw[Ge,h.2,ng,HB,Ur h1.1];exact⟨p,hp,Ll _,h1.2.1⟩
theorem Dag{s:ya}(h:∀ l∈s.ba,Se l):∃ w,Bytes w/\Full s w:=by
 have key:∀ (ls:List (List (Int×Int))),(∀ l∈ls,Se l)->∃ w:List Nat,w.length=ls.length/\(∀ x∈w,x < 256)/\∀ (j x:Nat),w[j]? =some x->∃ l,ls[j]? =some l/\Ge l x=true:=by
  intro ls
  induction ls with
  |nil=>exact fun _=>⟨[],rfl,by simp,by simp⟩
  |cons l ls ih=>
   intro h;obtain⟨x,hx,hm⟩:=mem_some (h l (by simp));obtain⟨w,h1,h2,h3⟩:=ih fun l' Uf=>h l' (by simp[Uf]);refine⟨x::w,by simp[h1],?_,?_⟩
   ·intro y hy
    rcases Ae.1 hy with rfl | hy
    ·exact hx
    ·exact h2 y hy
   ·intro j y hj
    cases j with
    |zero=>simp at hj;subst hj;exact⟨l,rfl,hm⟩
    |succ j=>simp at hj;exact h3 j y hj
 obtain⟨w,h1,h2,h3⟩:=key s.ba h
 refine⟨w,h2,?_,h1⟩;intro j x hj;obtain⟨l,h4,h5⟩:=h3 j x hj;unfold Ek;rw[h4];exact h5
theorem Dal{ss:List ya}(h:ss≠[]):∃ s∈ss,∀ q∈ss,q.ba.length<=s.ba.length:=by
 induction ss with
 |nil=>exact absurd rfl h
 |cons a ss ih=>
  by_cases hs:ss=[]
  ·subst hs;exact⟨a,by simp,by simp⟩
  ·obtain⟨s,h1,h2⟩:=ih hs
   rcases yd a.ba.length s.ba.length with h3 | h3
   ·refine⟨s,by simp[h1],fun q hq=> ?_⟩
    rcases Ae.1 hq with rfl | hq
    ·omega
    ·exact h2 q hq
   ·refine⟨a,by simp,fun q hq=> ?_⟩
    rcases Ae.1 hq with rfl | hq
    ·exact gb _
    ·exact Lj (h2 q hq) h3
theorem og.jY{ss:List ya}{ma:List Al}{C:List (List Int)}(ga:uc ss)(wc:Ee ss)(W:og ss ma C)(hl:C.length=ma.length){k:Nat}(h0:0 < k)(hk:k < C.length):cls C 0≠cls C k:=by
 intro he;obtain⟨w,hw,hr⟩:=W.path hl k k (gb _) hk
 have F0:w≠[]:=by rintro rfl;have:(0:Int)=(k:Int):=hr;omega
 have Va:ss≠[]:=by
  rintro rfl;rcases qJ ga wc W hl _ w rfl hw with⟨h1,_⟩ | ⟨_,_,h1,_⟩ | ⟨h1,_⟩
  ·omega
  ·rcases h1 with h1 | ⟨s,hs,_⟩
   ·exact F0 h1
   ·cases hs
  ·omega
 obtain⟨s,hs,gN⟩:=Dal Va;obtain⟨u,hu,hf⟩:=Dag (ga.He s hs).ba
 have h1:runT C 0 u= -1:=by
  rcases qJ ga wc W hl _ u rfl hu with⟨h1,_⟩ | ⟨_,_,_,h1⟩ | ⟨_,_,h1⟩
  ·exact h1
  ·exact absurd hf (h1 s hs)
  ·exact absurd hf.1 (h1 s hs)
 have h2:runT C k u= -1:=(W.U7 hl u 0 k hu (by omega) hk he).1 h1
 have h3:runT C 0 (w++u)= -1:=by rw[UU,hr];exact h2
 have hb:Bytes (w++u):=by
  intro y hy;rcases Bd.1 hy with h | h
  ·exact hw y h
  ·exact hu y h
 rcases qJ ga wc W hl _ (w++u) rfl hb with⟨_,q,hq,fI⟩ | ⟨h4,_⟩ | ⟨h4,_⟩
 ·have h5:=gN q hq
  have h6:=fI.2
  have h7:=hf.2
  have h8:0 < w.length:=by
   cases w with
   |nil=>exact absurd rfl F0
   |cons=>simp
  rw[Pc] at h6;omega
 ·omega
 ·omega
attribute [local irreducible] Ia
abbrev MA(v:PV)(n i:Int):Tr:=(((Tr.lf.set 5 (.pv (aa i))).set 4 (.own 0 i.toNat)).set 3 (.pv (aa n))).set 0 (.pv v)
def Ho(n i:Nat):List AV:=(List.range i).map fun k=> .own (2 * k+1) n
theorem Vam(n i:Nat):(Ho n i).length=i:=by rw[Ho,wb,Wn]
theorem Wam(n i:Nat):Ho n (i+1)=Ho n i++[.own (2 * i+1) n]:=by
 rw[Ho,jv,xm];rfl
theorem Uam{n i m:Nat}(h:2 * i+1<=m)(fl:Nat)(nl:Bool):Fa m (.seq 1 false (Ho n i) fl nl)=some (.seq 1 false (Ho n i) fl nl):=by
 have:(Ho n i).all (AV.qc m deep)=true:=by
  rw[Df];intro v hv;obtain⟨k,hk,rfl⟩:=Re.1 hv
  have:k < i:=by simpa using hk
  show decide (2 * k+1 < m)=true;exact decide_eq_true (by omega)
 simp[Fa,this]
structure Pt(H:List fa)(n i:Nat):Prop where
 len:H.length=2 * i+1
 hd:∃ nl,H[0]? =some (.seq 1 false (Ho n i) 0 nl)/\(nl=true->i=0)
 row:∀ k,k < i->H[2 * k+1]? =some (cp n (fun _=>false) 0)
 zk:Pd H
theorem Pt.step{H:List fa}{n i:Nat}(h:Pt H n i)(Y:fa)(hY:Y= .seq 1 false [.own (2 * i+1) n] 0 false):
 Pt ((H++[cp n (fun _=>false) 0]++[Y]).set 0 (.seq 1 false (Ho n (i+1)) 0 false)) n (i+1):=by
 have hl:=h.len
 refine⟨by simp[hl];omega,⟨false,?_,fun h=>by cases h⟩,?_,?_⟩
 ·rw[Of (by simp)]
 ·intro k hk
  rw[ze (by omega)];rcases yd k i with h1 | h1
  ·rw[Kc (by simp;omega),Kc (by omega)]
   exact h.row k h1
  ·have:k=i:=by omega
   subst this;rw[Kc (by simp;omega),Tg (by omega),hl,Kq];rfl
 ·intro m hm o ho
  simp only[Um,Pc,QC,hl] at hm;rcases Oo ho with h1 | h1
  ·rw[Bd,Bd,ym,ym] at h1
   rcases h1 with (h1 | h1) | h1
   ·exact h.zk m (by omega) o h1
   ·subst h1;exact qW _ _ _ _
   ·subst h1 hY
    have:([AV.own (2 * i+1) n]).all (AV.qc m deep)=true:=by show (decide (2 * i+1 < m)&&true)=true;rw[decide_eq_true (by omega)];rfl
    simp[Fa,this]
  ·subst h1;exact Uam (by omega) _ _
theorem Sao(n:Nat):Yf [.bool false] n=(Tc n fun _=>false).map AV.pv:=by
 have:∀ n,Yf [.bool false] n=List.replicate n (.pv (.bool false)):=by
  intro n
  induction n with
  |zero=>rfl
  |succ n ih=>rw[Yf,ih];rfl
 rw[this,<-V8,Sz]
theorem saa(call:Ab)(v:PV)(n:Nat)(hn:n<=64):
 Ia (fun r=>∃ E H,r=(.exit 0,⟨E,H⟩)/\Pt H n n/\E.get 0= .pv v/\E.get 3= .pv (aa n)/\E.get 4= .own 0 n)
  (Mb (Aa (ua call JG) (fun s=>some (tidy [0,3,4,5] s))) Ga ⟨MA v n 0,[.seq 1 false [] 0 true]⟩):=by
 refine Bb (We (g:=Aa (ua call JG) (fun s=>some (tidy [0,3,4,5] s)))
  (fun i t=>∃ H,t=⟨MA v n i,H⟩/\Pt H n i)
  n (by unfold Ga;omega) _ ⟨_,rfl,⟨rfl,⟨true,rfl,fun _=>rfl⟩,fun k h=>by omega,?_⟩⟩ ?_ ?_) (fun r h=>h.2)
 ·intro m hm o ho
  rw[ym] at ho;subst ho;rfl
 ·rintro i t hi ⟨H,rfl,hM⟩
  have e1:decide ((i:Int) < (n:Int))=true:=Qa (by omega);have t2:IntKind.i64.wrap ((i:Int)+1)=((i+1:Nat):Int):=Gb (by omega)
  have ti:((i:Int)).toNat=i:=by simp
  have b9:(((i+1:Nat):Int)).toNat=i+1:=by simp
  have tn:((n:Int)).toNat=n:=by simp
  have vT:=Sao n;have hl:=hM.len
  have hc:((0:Int)<=(n:Int)/\(n:Int)<=(n:Int)/\Ac n 1)=True:=Sa ⟨by omega,by omega,by unfold Ac;omega⟩;have Fi:(H++[fa.seq 1 false ((Tc n fun _=>false).map AV.pv) 0 false]).length=2 * i+2:=by simp[hl]
  obtain⟨nl,hd,Wc⟩:=hM.hd
  have Zl:=hM.step _ rfl
  have vd:Ud (H++[fa.seq 1 false ((Tc n fun _=>false).map AV.pv) 0 false]++[fa.seq 1 false [AV.own (2 * i+1) n] 0 false]) true .own 1 false 24 (.own 0 i) (.own (2 * i+2) 1)=
   some (.own 0 (i+1),(H++[fa.seq 1 false ((Tc n fun _=>false).map AV.pv) 0 false]++[fa.seq 1 false [AV.own (2 * i+1) n] 0 false]).set 0 (.seq 1 false (Ho n (i+1)) 0 false)):=by
   have g0:(H++[fa.seq 1 false ((Tc n fun _=>false).map AV.pv) 0 false]++[fa.seq 1 false [AV.own (2 * i+1) n] 0 false])[0]? =some (.seq 1 false (Ho n i) 0 nl):=by rw[Kc (by simp),Kc (by omega)];exact hd
   have g1:(H++[fa.seq 1 false ((Tc n fun _=>false).map AV.pv) 0 false]++[fa.seq 1 false [AV.own (2 * i+1) n] 0 false])[2 * i+2]? =some (fa.seq 1 false [AV.own (2 * i+1) n] 0 false):=by rw[Tg (by rw[Fi];exact gb _),Fi,Kq];rfl
   simp only[Ud,if_true,g0,yk,g1,QC];rw[if_pos ⟨trivial,trivial⟩];simp only[Lc];rw[if_pos ⟨trivial,by rw[Vam];omega,by unfold Ac;omega,rfl⟩,Wam];simp
  have vf:LN (fun i t=>∃ H,t=⟨MA v n i,H⟩/\Pt H n i) (fun r=>∃ E H,r=(.exit 0,⟨E,H⟩)/\Pt H n n/\E.get 0= .pv v/\E.get 3= .pv (aa n)/\E.get 4= .own 0 n) i
   (.norm,⟨MA v n (i+1:Nat),(H++[fa.seq 1 false ((Tc n fun _=>false).map AV.pv) 0 false]++[fa.seq 1 false [AV.own (2 * i+1) n] 0 false]).set 0 (.seq 1 false (Ho n (i+1)) 0 false)⟩):=⟨_,rfl,Zl⟩
  generalize LN _ _ i=QQ at vf ⊢;generalize Ho n (i+1)=ow at *;simp -implicitDefEqProofs only[SP,WP,za,sevalprocAttr,-List.reduceReplicate,JG,e1,t2,ti,b9,tn,hc,vT,hl,Fi,vd,tidy,Gf,MA];simp only[MA,b9] at vf;exact vf
 ·rintro t ⟨H,rfl,hM⟩
  have e1:decide ((n:Int) < (n:Int))=false:=Ra (by omega);have tn:((n:Int)).toNat=n:=by simp
  have Oe:∀ E,E.get 0= .pv v->E.get 3= .pv (aa n)->E.get 4= .own 0 n->(Ex.exit 0,(⟨E,H⟩:St)).1.stop=true/\∃ E' H',(Ex.exit 0,(⟨E,H⟩:St))=(.exit 0,⟨E',H'⟩)/\Pt H' n n/\E'.get 0= .pv v/\E'.get 3= .pv (aa n)/\E'.get 4= .own 0 n:=fun E k0 k3 k4=>⟨rfl,E,H,rfl,hM,k0,k3,k4⟩
  generalize hQ:(fun r:Ex×St=>r.1.stop=true/\_)=Q;simp -implicitDefEqProofs only[SX,sevalprocAttr,-List.reduceReplicate,JG,e1,tn,MA];subst hQ;exact Oe _ (by simp[Tr.na]) (by simp[Tr.na]) (by simp[Tr.na])
theorem XQ:∀ l:List PV,chunk 1 false l.length l=l
 | []=>rfl
 |a::l=>by simp only[Td,chunk,Sc,if_false,List.headD_cons,Nz,Un,XQ l]
theorem u3{α β γ:Type}(f:β->Option γ)(g:α->β)(k:α->γ):∀ (l:List α),(∀ a∈l,f (g a)=some (k a))->Ha f (l.map g)=some (l.map k)
 | [],_=>rfl
 |a::l,h=>by rw[Pf,Ha,h a (by simp),u3 f g k l (fun x hx=>h x (by simp[hx]))];rfl
def Lf(n:Nat)(f:Nat->Nat->Bool):PV:= .lit 1 ((List.range n).map fun i=> .lit 1 (Tc n (f i)))
theorem Ie.qb{H:List fa}{n:Nat}{f:Nat->Nat->Bool}(h:Ie H n f):Go.AM.qb H 6 (.own 0 n)=some (Lf n f):=by
 obtain⟨nl,Wc,h0⟩:=h.hd
 subst Wc;have Xc:∀ k∈List.range n,Go.AM.qb H 5 (.own (2 * k+1) n)=some (.lit 1 (Tc n (f k))):=by
  intro k hk;obtain⟨fl,hf,h1⟩:=h.row k (by simpa using hk)
  simp only[Go.AM.qb,h1,cp];rw[if_pos ⟨by rw[wb,El];omega,rfl⟩,CN];simp only[Sc,if_false,Vc];have:=XQ (Tc n (f k));rw[El] at this;rw[this]
 simp only[Go.AM.qb,h0];rw[if_pos ⟨by rw[vU];omega,rfl⟩,owns,u3 _ _ _ _ Xc];simp only[Sc,if_false,Vc,Lf];have:=XQ ((List.range n).map fun i=>PV.lit 1 (Tc n (f i)));rw[wb,Wn] at this;rw[this]
theorem Pt.mat{H:List fa}{n:Nat}(h:Pt H n n)(hn:0 < n):Ie H n fun _ _=>false:=by
 obtain⟨nl,h1,h2⟩:=h.hd
 refine⟨h.len,⟨nl,?_,h1⟩,fun k hk=>⟨0,by omega,h.row k hk⟩,h.zk⟩;cases nl with
 |false=>rfl
 |true=>have:=h2 rfl;omega
theorem yaa{C:List (List Int)}(hC:Rk C)(hn:0 < C.length){D:Nat->Nat->Prop}(hD:mG C D):
 ∃ f,Nt C D f false/\RF [.lit 256 (C.map Zb)]=some (Lf C.length f):=by
 have Mg:=saa (La (fun _=>none) 8) (.lit 256 (C.map Zb)) C.length hC.sz
 have ln:mb [] 0 (.pv (.lit 256 (C.map Zb)))=some C.length:=by simp[mb]
 have tn:((C.length:Int)).toNat=C.length:=by simp
 have g1:(0 < 1)=True:=by simp
 have hz:(0 < 2 * C.length+1)=True:=by simp
 have key:Ia (fun r=>∃ f,Nt C D f false/\r=Lf C.length f) (RF [.lit 256 (C.map Zb)]):=by
  have Fi:=fun {H}(hM:Ie H C.length fun _ _=>false)=>taa (La (fun _=>none) 8) hC hD hM ⟨fun a b h=>(by cases h),fun a b=>rfl,fun h=>(by cases h)⟩;generalize ec:(fun r:PV=>_)=QQ;generalize (PV.lit 256 (C.map Zb))=L at *;simp -implicitDefEqProofs only[RF,SP,WP,za,sevalprocAttr,-List.reduceReplicate,bQ,ln,Af,g1,Wu,Oc,tidy,Gf];refine Bb Mg ?_;rintro r ⟨E,H,rfl,hM,k0,k3,k4⟩;have Aj:=hM.mat hn
  have Eb:=Aj.cut
  have hlen:=Aj.len
  have pZ:=Fi Aj;simp -implicitDefEqProofs only[SP,WP,za,sevalprocAttr,-List.reduceReplicate,Oc,k0,k3,k4,hlen,Eb,hz,ta,Za,AV.cut,Cb];simp only[Nv,tn] at pZ;refine Bb pZ ?_;rintro r ⟨E,H,f,rfl,hM3,hK,k4⟩;have Eu:=hM3.qb
  simp -implicitDefEqProofs only[SP,WP,za,sevalprocAttr,-List.reduceReplicate,k4,Eu];subst ec;exact⟨f,hK,rfl⟩
 obtain⟨r,h1,f,hK,rfl⟩:=wg key;exact⟨f,hK,h1⟩
open Go.AM
def Gx:Ya:=(jQ [Cv 92 13,jn 93 0 92,jK 94 .gtr 93 0,Cv 95 94,jT 96 95 (.km 13),jT 97 95 (.km 13),jT 98 95 (.kn 0 97),jT 99 95 (.kK .sub 98 1),jT 100 95 (.ki 3 96 99),jT 101 95 (.kf 2 100),jT 102 95 (.kl 1 101),jT 103 95 (.km 15),jT 104 95 (.kB .eql 102 103),ja 105 95 104,Cv 106 105,jT 107 106 (.km 13),jT 108 106 (.km 13),jT 109 106 (.kn 0 108),jT 110 106 (.kK .sub 109 1),jT 111 106 (.ki 3 107 110),jT 112 106 (.kf 1 111),jT 113 106 (.kl 1 112),jT 114 106 (.km 14),jT 115 106 (.kK .sub 114 1),jT 116 106 (.kB .eql 113 115),ja 117 106 116] (jC 117 (.region [Cv 118 13,Cv 119 13,jn 120 0 119,jK 121 .sub 120 1,Cv 122 14,ji 123 3 118 121,jf 124 1 123,jS 1 124 122]) (.region [Cv 125 13,Cv 126 14,Cv 127 14,Cv 128 15,Co 129 (.build [(.int .i64 0),(.int .i64 0),(.int .i64 0)] [(0,1,(.t 126)),(1,1,(.t 127)),(2,1,(.t 128))]),Co 130 (.Fc .lit 3 true 1 [(.int .i64 0),(.int .i64 0),(.int .i64 0)] [(0,(.t 129))]),Co 131 (.append true .own 3 true 24 (.t 125) (.t 130)),Cv 13 131])))
def QK:Ya:=(jQ [Cv 63 15,jK 64 .geq 63 0] (jC 64 (jQ [jk 16 0] (.seq (.block 4 (.loop [2,7,9,10,11,12,13,14,15,16] wA)) (.seq (jQ [Cv 83 16,Cv 84 10,jn 85 0 84,jB 86 .eql 83 85] (jC 86 (.region [Cv 87 10,Cv 88 15,Co 89 (.Fc .lit 1 false 1 [(.int .i64 0)] [(0,(.t 88))]),Co 90 (.ku 1 false 8 87 89),Cv 10 90]) .skip)) (.region [Cv 91 16,Cv 15 91])))) .skip))
theorem OQ:GG=
 (.seq (.seq (.region [⟨(some 48),.move (.t 14),none,false⟩,
 ⟨(some 49),.bin .lss (.t 48) (.c (.int .i64 256)),none,false⟩])
 (.cond (.t 49) (.skip) (.exit 2)))
 (.seq (.block 3 (.seq (.region [⟨(some 52),.move (.t 7),none,false⟩,
  ⟨(some 53),.move (.t 10),none,false⟩,
  ⟨(some 54),.move (.t 12),none,false⟩,
  ⟨(some 55),.Nd 1 (.t 53) (.t 54),none,false⟩,
  ⟨(some 56),.load false 1 (.t 55),none,false⟩,
  ⟨(some 57),.move (.t 14),none,false⟩,
  ⟨(some 58),.Nd 256 (.t 52) (.t 56),none,false⟩,
  ⟨(some 59),.Ry 256 1 (.t 58) (.t 57),none,false⟩,
  ⟨(some 60),.load false 1 (.t 59),none,false⟩,
  ⟨(some 15),.move (.t 60),none,false⟩])
  (.seq (.seq (.region [⟨(some 61),.move (.t 15),none,false⟩,
   ⟨(some 62),.bin .eql (.t 61) (.c (.int .i64 (-2))),none,false⟩])
  (.cond (.t 62) (.exit 3) (.skip)))
  (.seq QK
  Gx))))
 (.region [⟨(some 50),.move (.t 14),none,false⟩,
  ⟨(some 51),.bin .add (.t 50) (.c (.int .i64 1)),none,false⟩,
  ⟨(some 14),.move (.t 51),none,false⟩]))):=rfl
attribute [local irreducible] Ia
abbrev Le(l:List Oa)(fl:Nat):fa:= .seq 3 true (Ca (Ed l)) fl l.isEmpty
section
variable (call:Ab)(E:Tr)(o0 o1 o2 o3:fa)(x:Nat)(to:Int)(g14:E.get 14= .pv (aa x))(g15:E.get 15= .pv (aa to))(hx:x < 256)(me:to≠ -2)
include g14 g15 hx me
omit hx me in
theorem Qaa(nl:Bool)(g13:E.get 13= .own 4 0):
 Ia (fun r=>∃ E',r=(.norm,⟨E',[o0,o1,o2,o3,Le [⟨x,x,to⟩] 0]⟩)/\E'.get 13= .own 4 1/\E'.get 2=E.get 2/\E'.get 7=E.get 7/\E'.get 9=E.get 9/\E'.get 10=E.get 10/\E'.get 11=E.get 11/\E'.get 12=E.get 12/\E'.get 14=E.get 14)
  (ua call Gx ⟨E,[o0,o1,o2,o3,.seq 3 true [] 0 nl]⟩):=by
 have ln:mb [o0,o1,o2,o3,.seq 3 true [] 0 nl] 0 (.own 4 0)=some 0:=by simp only[mb,Jj,Kj];rfl
 have vd:Ud [o0,o1,o2,o3,.seq 3 true [] 0 nl] true .own 3 true 24 (.own 4 0) (.pv (.lit 3 [.agg [aa x,aa x,aa to]]))=some (.own 4 1,[o0,o1,o2,o3,Le [⟨x,x,to⟩] 0]):=by simp only[Ud,if_true,Jj,Kj,yk,Bg,Vc,Lc];rw[if_pos ⟨trivial,rfl,by unfold Ac;simp,rfl⟩];simp[Le,Ed,Ca,flat,PV.cells]
 generalize ec:(fun r:Ex×St=>_)=QQ;generalize hO:Le [⟨x,x,to⟩] 0=O at *;simp -implicitDefEqProofs only[SP,WP,za,sevalprocAttr,Gx,g13,g14,g15,ln,vd,mh,AV.Mi,AV.xi];subst ec;refine⟨_,rfl,?_,?_,?_,?_,?_,?_,?_,?_⟩ <;> simp[Tr.na]
variable (l:List Oa)(e:Oa)(hl:l.length < 256)(fl:Nat)(hfl:fl<=(l.length+1) * 3)(g13:E.get 13= .own 4 (l.length+1))
include hl hfl g13
theorem Raa:
 Ia (fun r=>∃ E' Qd,Qd<=(uf x to (l++[e])).length * 3/\r=(.norm,⟨E',[o0,o1,o2,o3,Le (uf x to (l++[e])) Qd]⟩)/\E'.get 13= .own 4 (uf x to (l++[e])).length/\E'.get 2=E.get 2/\E'.get 7=E.get 7/\E'.get 9=E.get 9/\E'.get 10=E.get 10/\E'.get 11=E.get 11/\E'.get 12=E.get 12/\E'.get 14=E.get 14)
  (ua call Gx ⟨E,[o0,o1,o2,o3,.seq 3 true (Ca (Ed l++[e.lo,e.hi,e.to])) fl false]⟩):=by
 have e3:decide (((l.length+1:Nat):Int) > 0)=true:=Qa (by omega);have t3:IntKind.i64.wrap (((l.length+1:Nat):Int) - 1)=(l.length:Int):=by rw[Gb (by omega)];omega
 have t4:((l.length:Int)).toNat=l.length:=by simp
 have t5:IntKind.i64.wrap ((x:Int) - 1)=(x:Int) - 1:=Gb (by omega)
 have hlen:∀ h,(Ca (Ed l++[e.lo,h,e.to])).length=(l.length+1) * 3:=fun h=>by rw[qe,Pc,iu];simp;omega
 have ln:mb [o0,o1,o2,o3,.seq 3 true (Ca (Ed l++[e.lo,e.hi,e.to])) fl false] 0 (.own 4 (l.length+1))=some (l.length+1):=by simp only[mb,Jj,Kj];rw[if_pos];rw[hlen];unfold bh;omega
 have i1:Ua [o0,o1,o2,o3,.seq 3 true (Ca (Ed l++[e.lo,e.hi,e.to])) fl false] 3 (.own 4 (l.length+1)) (l.length:Int)=some (.Sb 4 ((l.length+1) * 3) (l.length * 3)):=by
  simp only[Ua,Jj,Kj];rw[if_pos,t4];refine⟨trivial,?_,?_⟩
  ·unfold Ta;omega
  ·rw[hlen];unfold bh;omega
 have pl:∀ d,place [o0,o1,o2,o3,.seq 3 true (Ca (Ed l++[e.lo,e.hi,e.to])) fl false] d (.Sb 4 ((l.length+1) * 3) (l.length * 3))=some (.Sb 4 ((l.length+1) * 3) (l.length * 3+d)):=by intro d;simp only[place,Jj,Kj];rw[if_pos (hlen _)]
 have ld:∀ k,k < 3->wa [o0,o1,o2,o3,.seq 3 true (Ca (Ed l++[e.lo,e.hi,e.to])) fl false] false 1 (.Sb 4 ((l.length+1) * 3) (l.length * 3+k))=some (.pv (aa (if k=0 then e.lo else if k=1 then e.hi else e.to))):=by intro k hk;simp only[wa,Jj,Kj];rw[if_pos (hlen _)];have:=tJ (Ed l) e k hk;rw[iu] at this;simp only[tg,Sc,if_false,this]
 have l1:=ld 1 (by omega);have l2:=ld 2 (by omega);simp only[if_true,Nat.one_ne_zero,if_false,show ¬(2=0) by omega,show ¬(2=1) by omega] at l1 l2;have zc:Db [o0,o1,o2,o3,.seq 3 true (Ca (Ed l++[e.lo,e.hi,e.to])) fl false] 1 (.Sb 4 ((l.length+1) * 3) (l.length * 3+1)) (.pv (aa x))=some [o0,o1,o2,o3,Le (l++[⟨e.lo,x,e.to⟩]) ((l.length+1) * 3)]:=by
  have hc:(AV.pv (aa x)).cells=[.pv (aa x)]:=rfl
  simp only[Db,Jj,Kj,hc];rw[if_pos ⟨rfl,rfl⟩,if_pos ⟨hlen _,by show l.length * 3+1+1<=(l.length+1) * 3;omega⟩,za,za,sq];have:(Ed l++[e.lo,e.hi,e.to]).set (l.length * 3+1) (x:Int)=Ed (l++[⟨e.lo,x,e.to⟩]):=by rw[TA,<-iu,Po _ _ (by omega),Uz];rfl
  rw[this];have he:(l++[(⟨e.lo,x,e.to⟩:Oa)]).isEmpty=false:=by cases l <;> rfl
  simp only[Le,he,mv,Qo]
 have vd:Ud [o0,o1,o2,o3,.seq 3 true (Ca (Ed l++[e.lo,e.hi,e.to])) fl false] true .own 3 true 24 (.own 4 (l.length+1)) (.pv (.lit 3 [.agg [aa x,aa x,aa to]]))=some (.own 4 (l.length+1+1),[o0,o1,o2,o3,Le (l++[e]++[⟨x,x,to⟩]) fl]):=by
  simp only[Ud,if_true,Jj,Kj,yk,Bg,Vc,Lc];rw[if_pos ⟨trivial,(hlen _).symm,by unfold Ac;simp;omega,rfl⟩];have he:(l++[e]++[(⟨x,x,to⟩:Oa)]).isEmpty=false:=by cases l <;> rfl
  simp only[Le,he,TA,MU,mv,Qo];rfl
 have hR:∀ l' Qd,uf x to (l++[e])=l'->Qd<=l'.length * 3->∀ E',E'.get 13= .own 4 l'.length->E'.get 2=E.get 2->E'.get 7=E.get 7->E'.get 9=E.get 9->E'.get 10=E.get 10->E'.get 11=E.get 11->E'.get 12=E.get 12->E'.get 14=E.get 14->
  ∃ Oi lY,lY<=(uf x to (l++[e])).length * 3/\(Ex.norm,(⟨E',[o0,o1,o2,o3,Le l' Qd]⟩:St))=(.norm,⟨Oi,[o0,o1,o2,o3,Le (uf x to (l++[e])) lY]⟩)/\Oi.get 13= .own 4 (uf x to (l++[e])).length/\Oi.get 2=E.get 2/\Oi.get 7=E.get 7/\Oi.get 9=E.get 9/\Oi.get 10=E.get 10/\Oi.get 11=E.get 11/\Oi.get 12=E.get 12/\Oi.get 14=E.get 14:=by
  intro l' Qd h1 h2 E' Yj k2 k7 k9 Xg Yg Xj Gn;subst h1;exact⟨E',Qd,h2,rfl,Yj,k2,k7,k9,Xg,Yg,Xj,Gn⟩
 have rZ:(l++[(⟨e.lo,x,e.to⟩:Oa)]).length=l.length+1:=by simp
 have Sp:(l++[e]++[(⟨x,x,to⟩:Oa)]).length=l.length+1+1:=by simp
 generalize ec:(fun r:Ex×St=>_)=QQ
 by_cases h1:e.to=to
 ·have b1:(e.to==to)=true:=by simp[h1]
  by_cases h2:e.hi=(x:Int) - 1
  ·have b2:(e.hi==(x:Int) - 1)=true:=by simp[h2]
   have hj:uf x to (l++[e])=l++[⟨e.lo,x,e.to⟩]:=by rw[<- h1];exact qR (by rw[h1];exact me) h2
   generalize fa.seq 3 true (Ca (Ed l++[e.lo,e.hi,e.to])) fl false=oE at *
   generalize hO:Le (l++[⟨e.lo,x,e.to⟩]) ((l.length+1) * 3)=O at *;simp -implicitDefEqProofs only[SP,WP,za,sevalprocAttr,Gx,g13,g14,g15,ln,e3,t3,t5,i1,pl,l1,l2,b1,b2,zc,mh,AV.Mi,AV.xi];subst ec hO;refine hR _ _ hj (by rw[rZ];exact gb _) _ ?_ ?_ ?_ ?_ ?_ ?_ ?_ ?_
   ·rw[rZ];simp only[Tr.na];exact g13
   all_goals simp[Tr.na]
  ·have b2:(e.hi==(x:Int) - 1)=false:=jj h2
   have hj:=RL (l:=l) (x:=(x:Int)) (e:=e) me (fun h=>h2 h.2);generalize fa.seq 3 true (Ca (Ed l++[e.lo,e.hi,e.to])) fl false=oE at *
   generalize hO:Le (l++[e]++[⟨x,x,to⟩]) fl=O at *;simp -implicitDefEqProofs only[SP,WP,za,sevalprocAttr,Gx,g13,g14,g15,ln,e3,t3,t5,i1,pl,l1,l2,b1,b2,vd,mh,AV.Mi,AV.xi];subst ec hO;exact hR _ _ hj (by rw[Sp];omega) _ (by rw[Sp];simp[Tr.na]) (by simp[Tr.na]) (by simp[Tr.na]) (by simp[Tr.na]) (by simp[Tr.na]) (by simp[Tr.na]) (by simp[Tr.na]) (by simp[Tr.na])
 ·have b1:(e.to==to)=false:=jj h1
  have hj:=RL (l:=l) (x:=(x:Int)) (e:=e) me (fun h=>h1 h.1);generalize fa.seq 3 true (Ca (Ed l++[e.lo,e.hi,e.to])) fl false=oE at *
  generalize hO:Le (l++[e]++[⟨x,x,to⟩]) fl=O at *;simp -implicitDefEqProofs only[SP,WP,za,sevalprocAttr,Gx,g13,g14,g15,ln,e3,t3,t5,i1,pl,l1,l2,b1,vd,mh,AV.Mi,AV.xi];subst ec hO;exact hR _ _ hj (by rw[Sp];omega) _ (by rw[Sp];simp[Tr.na]) (by simp[Tr.na]) (by simp[Tr.na]) (by simp[Tr.na]) (by simp[Tr.na]) (by simp[Tr.na]) (by simp[Tr.na]) (by simp[Tr.na])
end
end Go.AM.B1
