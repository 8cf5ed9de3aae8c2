/- What functions of the program compute. -/
import Derived.Test.YtijlhblleiaomaaGreatL4
import Derived.Test.YtijlhblleiaomaaGreatL6
import Derived.Test.YtijlhblleiaomaaGreatL2
set_option linter.unusedVariables false
set_option linter.unusedSimpArgs false
namespace Go.AM.B1
open Go.AM
theorem IH(fb:List Int):∀ (xs ys:List Nat)(r:List Int×List Int),Xd fb (xs++ys) r=Xd fb ys (Xd fb xs r)
 | [],ys,r=>rfl
 |x::xs,ys,r=>by rw[fab,Xd,Xd,IH fb xs]
theorem FJ{a:Int}:∀ {l:List Int}{k i:Nat},ov a l k=some i->k<=i/\l[i - k]? =some a
 | [],_,_,h=>by cases h
 |b::l,k,i,h=>by
  simp only[ov] at h
  split at h
  ·next he=>injection h with h;subst h he;simp
  ·obtain⟨h1,h2⟩:=FJ h
   refine⟨by omega,?_⟩;have:i - k=(i - (k+1))+1:=by omega
   rw[this,mab];exact h2
structure u6(fb O:List Int)(n:Nat)(r:List Int×List Int):Prop where
 len:r.2.length=fb.length
 hi:∀ x,n<=x->r.2.getD x 0=fb.getD x 0
 ext:∃ t,r.1=O++t/\∀ o∈t,0<=o/\∃ x,x < n/\fb.getD x 0=o
 nodup:r.1.Nodup
 val:∀ x,x < n->(fb.getD x 0 < 0->r.2.getD x 0=fb.getD x 0)/\(0<=fb.getD x 0->∃ k:Nat,r.2.getD x 0=(k:Int)/\r.1[k]? =some (fb.getD x 0))
theorem Mk{l:List Int}{x y:Nat}{v:Int}(hx:x < l.length):(l.set x v).getD y 0=if y=x then v else l.getD y 0:=by
 rw[Caa,Caa]
 by_cases h:y=x
 ·subst h;rw[Qaa hx,if_pos rfl];rfl
 ·rw[Jaa (rac h),taa h]
theorem u6.next{fb O:List Int}{n:Nat}{r:List Int×List Int}(h:u6 fb O n r)(hn:n < fb.length):
 u6 fb O (n+1) (Aj n (fb.getD n 0) r)/\(Aj n (fb.getD n 0) r).2.getD n 0<=r.1.length/\
 (((Aj n (fb.getD n 0) r).1.length:Int)=if (Aj n (fb.getD n 0) r).2.getD n 0=r.1.length then (r.1.length:Int)+1 else r.1.length)/\
 (∀ x,x < n->(Aj n (fb.getD n 0) r).2.getD x 0=r.2.getD x 0):=by
 obtain⟨t,ht,hts⟩:=h.ext
 have hl:n < r.2.length:=by rw[h.len];exact hn
 have I7:∀ x,x < n->x≠n:=fun x hx=>by omega
 unfold Aj
 by_cases h0:fb.getD n 0 < 0
 ·rw[if_pos h0]
  have hv:=h.hi n (waa _)
  refine⟨⟨h.len,fun x hx=>h.hi x (by omega),⟨t,ht,fun o ho=>⟨(hts o ho).1,by obtain⟨x,hx,e⟩:=(hts o ho).2;exact⟨x,by omega,e⟩⟩⟩,h.nodup,?_⟩,by rw[hv];omega,by rw[hv,taa (by omega)],fun x hx=>rfl⟩;intro x hx;rcases Xaa x n with h1 | h1
  ·exact h.val x h1
  ·have:x=n:=by omega
   subst this;exact⟨fun _=>hv,fun h2=>by omega⟩
 ·rw[taa h0]
  cases hi:ov (fb.getD n 0) r.1 0 with
  |some k=>
   have hk:=(FJ hi).2
   rw[wae] at hk;have hkl:=(qaa.1 hk).1
   simp only;refine⟨⟨by rw[uac,h.len],?_,⟨t,ht,fun o ho=>⟨(hts o ho).1,by obtain⟨x,hx,e⟩:=(hts o ho).2;exact⟨x,by omega,e⟩⟩⟩,h.nodup,?_⟩,?_,?_,?_⟩
   ·intro x hx;rw[Mk hl,taa (by omega)];exact h.hi x (by omega)
   ·intro x hx
    rcases Xaa x n with h1 | h1
    ·rw[Mk hl,taa (by omega)];exact h.val x h1
    ·have:x=n:=by omega
     subst this;rw[Mk hl,if_pos rfl];exact⟨fun h2=>absurd h2 h0,fun _=>⟨k,rfl,hk⟩⟩
   ·rw[Mk hl,if_pos rfl];omega
   ·rw[Mk hl,if_pos rfl,taa (by omega)]
   ·intro x hx;rw[Mk hl,taa (by omega)]
  |none=>
   have hnm:=WC hi;simp only;refine⟨⟨by rw[uac,h.len],?_,⟨t++[fb.getD n 0],by rw[ht,Oab],?_⟩,?_,?_⟩,?_,?_,?_⟩
   ·intro x hx;rw[Mk hl,taa (by omega)];exact h.hi x (by omega)
   ·intro o ho
    rcases Naa.1 ho with h1 | h1
    ·exact⟨(hts o h1).1,by obtain⟨x,hx,e⟩:=(hts o h1).2;exact⟨x,by omega,e⟩⟩
    ·simp only[Sab] at h1;subst h1;exact⟨by omega,n,by omega,rfl⟩
   ·rw[List.nodup_append]
    refine⟨h.nodup,by simp,fun a ha b hb=> ?_⟩;simp only[Sab] at hb;subst hb;intro e;subst e;exact hnm ha
   ·intro x hx
    rcases Xaa x n with h1 | h1
    ·rw[Mk hl,taa (by omega)]
     refine⟨(h.val x h1).1,fun h2=> ?_⟩;obtain⟨k,e1,e2⟩:=(h.val x h1).2 h2
     exact⟨k,e1,by rw[gaa (qaa.1 e2).1];exact e2⟩
    ·have:x=n:=by omega
     subst this;rw[Mk hl,if_pos rfl];exact⟨fun h2=>absurd h2 h0,fun _=>⟨_,rfl,by simp⟩⟩
   ·rw[Mk hl,if_pos rfl];omega
   ·rw[Mk hl,if_pos rfl,if_pos rfl,Aaa];simp
   ·intro x hx;rw[Mk hl,taa (by omega)]
theorem fX{fb O:List Int}(hO:O.Nodup):∀ n:Nat,n<=fb.length->u6 fb O n (Xd fb (List.range n) (O,fb))/\
 (∀ x,x < n->(Xd fb (List.range n) (O,fb)).2.getD x 0<=((Xd fb (List.range x) (O,fb)).1.length:Int)/\
  ((Xd fb (List.range (x+1)) (O,fb)).1.length:Int)=if (Xd fb (List.range n) (O,fb)).2.getD x 0=((Xd fb (List.range x) (O,fb)).1.length:Int) then ((Xd fb (List.range x) (O,fb)).1.length:Int)+1 else ((Xd fb (List.range x) (O,fb)).1.length:Int))
 |0,_=>⟨⟨rfl,fun x _=>rfl,⟨[],by simp[Xd]⟩,hO,by omega⟩,by omega⟩
 |n+1,hn=>by
  obtain⟨h1,h2⟩:=fX (fb:=fb) hO n (by omega);obtain⟨k1,k2,k3,k4⟩:=h1.next (by omega)
  have e:Xd fb (List.range (n+1)) (O,fb)=Aj n (fb.getD n 0) (Xd fb (List.range n) (O,fb)):=by rw[vad,IH];rfl
  refine⟨by rw[e];exact k1,fun x hx=> ?_⟩;rcases Xaa x n with h3 | h3
  ·rw[e,k4 x h3];exact h2 x h3
  ·have:x=n:=by omega
   subst this;rw[e];exact⟨k2,k3⟩
structure sM(D:List Int)(O:List Int)(o:Int)(e:List de):Prop where
 ex:∃ row,e=xg row/\∀ x,x < 256->((Va D o.toNat).getD x 0 < 0->row.getD x 0=(Va D o.toNat).getD x 0)/\
  (0<=(Va D o.toNat).getD x 0->∃ k:Nat,row.getD x 0=(k:Int)/\O[k]? =some ((Va D o.toNat).getD x 0))
theorem sM.mono{D O:List Int}{o:Int}{e:List de}(h:sM D O o e)(t:List Int):sM D (O++t) o e:=by
 obtain⟨row,h1,h2⟩:=h.ex
 refine⟨row,h1,fun x hx=>⟨(h2 x hx).1,fun h0=> ?_⟩⟩;obtain⟨k,h3,h4⟩:=(h2 x hx).2 h0
 exact⟨k,h3,by rw[gaa (qaa.1 h4).1];exact h4⟩
def eL:Int->Int->List (List de)->Prop
 |_,_,[]=>True
 |m,i,e::l=>i < m/\cA m e/\eL (IC m e) (i+1) l
def dL(m:Int)(l:List (List de)):Int:=l.foldl IC m
theorem sE:∀ {m i:Int}{l:List (List de)}{e:List de},eL m i l->i+l.length < dL m l->cA (dL m l) e->eL m i (l++[e])
 |m,i,[],e,_,h1,h2=>⟨by simpa[dL] using h1,h2,trivial⟩
 |m,i,a::l,e,h,h1,h2=>⟨h.1,h.2.1,sE h.2.2 (by simp only[Raa] at h1;simp only[dL,Aad] at h1;simp only[dL];omega) h2⟩
theorem XS(m:Int)(l:List (List de))(e:List de):dL m (l++[e])=IC (dL m l) e:=by
 unfold dL;rw[Kad];rfl
structure Xs(D:List Int)(n:Nat)(J:Int->Prop)(O:List Int)(l:List (List de)):Prop where
 ord:Ax n O
 first:O[0]? =some 0
 le:l.length<=O.length
 rows:∀ (k:Nat) o e,O[k]? =some o->l[k]? =some e->sM D O o e
 met:dL 1 l=O.length
 A6:eL 1 0 l
 all:∀ o∈O,J o
 T6:∀ e∈l,∀ x∈e,x.to < O.length
section
variable {D:List Int}{n:Nat}{J:Int->Prop}(hD:D.length=n * 256)(cD:∀ c∈D,c < n)
 (hJ:∀ o,J o->0<=o->o < n->∀ x,x < 256->0<=(Va D o.toNat).getD x 0->J ((Va D o.toNat).getD x 0))
include hD cD hJ
theorem Xs.next{O:List Int}{l:List (List de)}(h:Xs D n J O l){o:Int}(ho:O[l.length]? =some o):
 Xs D n J (Dg D o O).1 (l++[xg (Dg D o O).2]):=by
 have hoO:=sab ho;have hb:=h.ord.2 o hoO
 have hlt:=(qaa.1 ho).1
 have X9:(Va D o.toNat).length=256:=Fi hD (by omega)
 obtain⟨k1,k2⟩:=fX (fb:=Va D o.toNat) h.ord.1 256 (by omega)
 obtain⟨t,ht,hts⟩:=k1.ext
 unfold Dg;have hm:=GJ (row:=(Xd (Va D o.toNat) (List.range 256) (O,Va D o.toNat)).2) (g:=fun x=>((Xd (Va D o.toNat) (List.range x) (O,Va D o.toNat)).1.length:Int)) (fun x=>by omega) 256 (fun x hx=>(k2 x hx).1) (fun x hx=>(k2 x hx).2);generalize hr:Xd (Va D o.toNat) (List.range 256) (O,Va D o.toNat)=r at *;obtain⟨m1,m2,m3⟩:=hm;have hg0:((Xd (Va D o.toNat) (List.range 0) (O,Va D o.toNat)).1.length:Int)=O.length:=rfl
 simp only[hg0] at m1 m2;have e1:Re r.2 (List.range 256) []=xg r.2:=rfl
 rw[e1] at m1 m2 m3;have M7:sM D r.1 o (xg r.2):=⟨r.2,rfl,fun x hx=>k1.val x hx⟩
 have hm':=h.met
 have hget:∀ x,x < 256->(Va D o.toNat).getD x 0 < n:=by intro x hx;rw[Caa,caa (by omega)];have:=saa (l:=Va D o.toNat) (n:=x) (by omega);exact cD _ (by unfold Va at this;exact bac (xac this))
 refine⟨⟨k1.nodup,?_⟩,?_,?_,?_,?_,?_,?_,?_⟩
 ·intro o' ho'
  rw[ht] at ho';rcases Naa.1 ho' with h1 | h1
  ·exact h.ord.2 o' h1
  ·obtain⟨h2,x,hx,rfl⟩:=hts o' h1;exact⟨h2,hget x hx⟩
 ·rw[ht,gaa (by omega)];exact h.first
 ·rw[ht];simp;omega
 ·intro k o' e h1 h2
  rcases Xaa k l.length with h3 | h3
  ·rw[gaa h3] at h2
   rw[ht,gaa (by omega)] at h1;rw[ht];exact (h.rows k o' e h1 h2).mono t
  ·have h4:=(qaa.1 h2).1
   have:k=l.length:=by simp at h4;omega
   subst this;rw[Paa (waa _)] at h2;simp at h2;subst h2;rw[ht,gaa (by omega),ho] at h1;injection h1 with h1;subst h1;exact M7
 ·rw[XS,hm',m1]
 ·exact sE h.A6 (by rw[hm'];omega) (by rw[hm'];exact m2)
 ·intro o' ho'
  rw[ht] at ho';rcases Naa.1 ho' with h1 | h1
  ·exact h.all o' h1
  ·obtain⟨h2,x,hx,rfl⟩:=hts o' h1;exact hJ o (h.all o hoO) hb.1 hb.2 x hx h2
 ·intro e he x hx
  rcases Naa.1 he with h1 | h1
  ·have:=h.T6 e h1 x hx;rw[ht,Aaa];omega
  ·simp only[Sab] at h1;subst h1;exact m3 x hx
theorem Xs.go:∀ (f:Nat)(O:List Int)(l:List (List de)),Xs D n J O l->n<=l.length+f->Xs D n J (ak D f (O,l)).1 (ak D f (O,l)).2/\(ak D f (O,l)).1.length=(ak D f (O,l)).2.length
 |0,O,l,h,hf=>⟨h,by have:=h.ord.len;have:=h.le;show O.length=l.length;omega⟩
 |f+1,O,l,h,hf=>by
  cases ho:O[l.length]? with
  |none=>
   rw[Sr (r:=(O,l)) ho];have:=List.getElem?_eq_none_iff.1 ho
   exact⟨h,by have:=h.le;show O.length=l.length;omega⟩
  |some o=>rw[Kt (r:=(O,l)) ho];exact Xs.go f _ _ (h.next hD cD hJ ho) (by simp;omega)
theorem BZ(hn:n<=64)(h0:0 < n)(hJ0:J 0):∃ O,Xs D n J O (dp D)/\O.length=(dp D).length:=by
 have h:Xs D n J [0] []:=⟨⟨by simp,by simp;omega⟩,rfl,by simp,by simp,rfl,trivial,by simpa using hJ0,by simp⟩;have:=Xs.go hD cD hJ 64 [0] [] h (by simp;omega)
 exact⟨_,this.1,this.2⟩
end
open Go.AM Go.AM.So
structure VY(ss:List Ob)(B7:List Al)(C:List (List Int))(O:List Int)(l:List (List de)):Prop where
 ok:Xb ss
 pre:Df ss
 W:um ss B7 C
 hl:C.length=B7.length
 told:Xs (mf C.length C.flatten).C C.length (fun o=>∃ j,j < C.length/\o=co C j) O l
 len:O.length=l.length
 pos:0 < C.length
 le:C.length<=64
theorem yL(C:List (List Int)):co C 0=0:=by unfold co;rw[if_pos rfl]
section
variable {ss:List Ob}{B7:List Al}{C:List (List Int)}(W:um ss B7 C)(hl:C.length=B7.length)
include W hl
theorem BR{j x:Nat}(hj:j < C.length)(hx:x < 256):Ur C j x=if 0<=bh C j x then co C (bh C j x).toNat else bh C j x:=by
 unfold Ur
 split
 ·next h=>
  have:=W.LC hl hj hx h
  unfold co;rw[taa (by omega)]
 ·rfl
end
theorem cR{ss:List Ob}{l:List (List de)}(Ba:Xb ss)(H7:Df ss)(h:ig ss=some l):∃ B7 C O,VY ss B7 C O l:=by
 unfold ig at h;rw[faa] at h;obtain⟨⟨B7,C⟩,hw,rfl⟩:=h;obtain⟨W,hl⟩:=ZJ Ba.len (fun s hs=>(Ba.ft s hs).lo) hw
 have W:um ss B7 C:=W;have hl:C.length=B7.length:=hl
 have hm:=W.uA hl
 have h0:0 < C.length:=by rw[hl];exact (qaa.1 W.first).1
 have h64:C.length<=64:=by rw[hl];exact W.ok.1
 have J7:∀ j x,j < C.length->x < 256->(Va (mf C.length C.flatten).C (co C j).toNat).getD x 0=Ur C j x:=fun j x hj hx=>UK W hl hj hx
 obtain⟨O,h1,h2⟩:=BZ (n:=C.length) (J:=fun o=>∃ j,j < C.length/\o=co C j) (D:=(mf C.length C.flatten).C) hm.hC (by
  intro c hc;obtain⟨p,hp,rfl⟩:=Eab hc;have V7:p < C.length * 256:=by rw[<- hm.hC];exact hp
  have e1:(mf C.length C.flatten).C[p]=(Va (mf C.length C.flatten).C (p / 256)).getD (p % 256) 0:=by
   rw[Caa,Bv (Gae _ (by omega))];have:p / 256 * 256+p % 256=p:=by omega
   rw[this,caa hp];rfl
  rw[e1,W.SU hl (by omega) (Gae _ (by omega))];have hb:=W.bound hl (k:=p / 256) (x:=p % 256) (by omega) (Gae _ (by omega))
  unfold Ur
  split
  ·exact (hm.Gq (j:=(bh C (p / 256) (p % 256)).toNat) (by omega)).2.1
  ·exact hb.2) (by
  rintro o ⟨j,hj,rfl⟩ _ _ x hx h3;rw[J7 j x hj hx,BR W hl hj hx] at h3 ⊢;have hb:=W.bound hl hj hx
  split at h3
  ·next h4=>rw[if_pos h4];exact⟨_,by omega,rfl⟩
  ·omega) h64 h0 ⟨0,h0,(yL C).symm⟩
 exact⟨B7,C,O,Ba,H7,W,hl,h1,h2,h0,h64⟩
section
variable {ss:List Ob}{B7:List Al}{C:List (List Int)}{O:List Int}{l:List (List de)}
theorem VY.first(h:VY ss B7 C O l):O[0]? =some (co C 0):=by rw[yL];exact h.told.first
theorem VY.row(h:VY ss B7 C O l){k j:Nat}(hk:O[k]? =some (co C j))(hj:j < C.length):∃ row,l[k]? =some (xg row)/\
 ∀ x,x < 256->(bh C j x < 0->row.getD x 0=bh C j x)/\(0<=bh C j x->∃ k':Nat,row.getD x 0=(k':Int)/\0 < k'/\O[k']? =some (co C (bh C j x).toNat)):=by
 have hkl:=(qaa.1 hk).1
 have hle:=h.len
 have he:l[k]? =some l[k]:=caa (by omega);obtain⟨row,h1,h2⟩:=(h.told.rows k _ _ hk he).ex
 refine⟨row,by rw[he,h1],fun x hx=> ?_⟩;have h3:=h2 x hx;rw[UK h.W h.hl hj hx,BR h.W h.hl hj hx] at h3;constructor
 ·intro h4
  rw[taa (by omega)] at h3;exact h3.1 h4
 ·intro h4
  rw[if_pos h4] at h3;have hd:=h.W.LC h.hl hj hx h4
  have hb:=h.W.bound h.hl hj hx
  have hc:0<=co C (bh C j x).toNat:=by
   unfold co;split
   ·omega
   ·exact ((h.W.uA h.hl).Gq (by omega)).1
  obtain⟨k',e1,e2⟩:=h3.2 hc
  refine⟨k',e1,?_,e2⟩;rcases Zac k' with rfl | h5
  ·rw[h.first,yL] at e2
   injection e2 with e2
   unfold co at e2;rw[taa (by omega)] at e2;exact absurd e2.symm (ZR h.ok h.pre h.W h.hl (by omega) (by omega))
  ·exact h5
end
section
variable {ss:List Ob}{B7:List Al}{C:List (List Int)}{O:List Int}{l:List (List de)}(h:VY ss B7 C O l)
include h
theorem VY.step{k j:Nat}(hk:O[k]? =some (co C j))(hj:j < C.length){x:Nat}(hx:x < 256):
 (bh C j x= -2/\Nd l (k:Int) (x:Int)=(0,false))\/(bh C j x= -1/\Nd l (k:Int) (x:Int)=(-1,true))\/
 (0<=bh C j x/\bh C j x < C.length/\∃ k':Nat,Nd l (k:Int) (x:Int)=((k':Int),true)/\0 < k'/\O[k']? =some (co C (bh C j x).toNat)):=by
 obtain⟨row,h1,h2⟩:=h.row hk hj
 have h3:=(ID row).step x hx
 obtain⟨h4,h5⟩:=h2 x hx;have hb:=h.W.bound h.hl hj hx
 have hs:Nd l (k:Int) (x:Int)=match Zg (x:Int) (xg row) with
  |some t=>(t,true)
  |none=>(0,false):=by
  unfold Nd;rw[taa (by omega),Eaa,h1] <;> rfl
 rw[h3] at hs
 by_cases c0:0<=bh C j x
 ·obtain⟨k',e1,e2,e3⟩:=h5 c0
  rw[e1,taa (by omega)] at hs;exact .inr (.inr ⟨c0,hb.2,k',hs,e2,e3⟩)
 ·have h6:=h4 (by omega)
  rw[h6] at hs
  by_cases c1:bh C j x= -2
  ·rw[if_pos c1] at hs;exact .inl ⟨c1,hs⟩
  ·have c2:bh C j x= -1:=by omega
   rw[taa c1,c2] at hs;exact .inr (.inl ⟨c2,hs⟩)
theorem VY.match:∀ (bs:List Nat)(i k j:Nat),Bytes bs->O[k]? =some (co C j)->j < C.length->
 ∃ m:Nat,m<=bs.length/\((Mg l i (k:Int) (bs.map fun (n:Nat)=>(n:Int))=(((i+m:Nat):Int),1)/\0 < m/\runT C j (bs.take m)= -1)\/
  (Mg l i (k:Int) (bs.map fun (n:Nat)=>(n:Int))=(((i+m:Nat):Int),2)/\m=bs.length/\0<=runT C j bs)\/
  (Mg l i (k:Int) (bs.map fun (n:Nat)=>(n:Int))=(((i+m:Nat):Int),3)/\m < bs.length/\0<=runT C j (bs.take m)/\runT C j (bs.take (m+1))= -2))
 | [],i,k,j,_,hk,hj=>⟨0,by simp,.inr (.inl ⟨rfl,rfl,Int.natCast_nonneg j⟩)⟩
 |x::bs,i,k,j,hb,hk,hj=>by
  have hx:x < 256:=hb x (by simp);have hbs:Bytes bs:=fun y hy=>hb y (by simp[hy]);have hj0:¬((j:Int) < 0):=by omega
  rw[pab,Mg];rcases h.step hk hj hx with⟨h1,h2⟩ | ⟨h1,h2⟩ | ⟨h1,s9,k',h2,h3,h4⟩
  ·rw[h2]
   refine⟨0,by simp,.inr (.inr ⟨rfl,by simp,Int.natCast_nonneg j,?_⟩)⟩;show runT C j [x]= -2;rw[runT,taa hj0,Eaa,h1];rfl
  ·rw[h2]
   refine⟨1,by simp,.inl ⟨rfl,by omega,?_⟩⟩;show runT C j [x]= -1;rw[runT,taa hj0,Eaa,h1];rfl
  ·rw[h2]
   simp only[Bool.true_eq_false,if_false];rw[taa (by omega)];obtain⟨m,hm,hc⟩:=VY.match bs (i+1) k' (bh C j x).toNat hbs h4 (by omega)
   have hr:∀ w,runT C j (x::w)=runT C ((bh C j x).toNat:Nat) w:=by intro w;rw[runT,taa hj0,Eaa,vac h1]
   have he:i+1+m=i+(m+1):=by omega
   rw[he] at hc;refine⟨m+1,by simp;omega,?_⟩;rcases hc with⟨c1,c2,c3⟩ | ⟨c1,c2,c3⟩ | ⟨c1,c2,c3,c4⟩
   ·exact .inl ⟨c1,by omega,by rw[yad,hr];exact c3⟩
   ·exact .inr (.inl ⟨c1,by simp[c2],by rw[hr];exact c3⟩)
   ·exact .inr (.inr ⟨c1,by simp;omega,by rw[yad,hr];exact c3,by rw[yad,hr];exact c4⟩)
end
theorem xJ{ss:List Ob}{l:List (List de)}(Ba:Xb ss)(H7:Df ss)(ha:ig ss=some l)(bs:List Nat)(hb:Bytes bs):
 ∃ m:Nat,m<=bs.length/\((Mg l 0 0 (bs.map fun (n:Nat)=>(n:Int))=((m:Int),1)/\∃ s∈ss,Full s (bs.take m))\/
  (Mg l 0 0 (bs.map fun (n:Nat)=>(n:Int))=((m:Int),2)/\m=bs.length/\(bs=[]\/∃ s∈ss,mo s bs)/\∀ s∈ss,¬Full s bs)\/
  (Mg l 0 0 (bs.map fun (n:Nat)=>(n:Int))=((m:Int),3)/\m < bs.length/\(bs.take m=[]\/∃ s∈ss,mo s (bs.take m))/\(∀ s∈ss,¬Full s (bs.take m))/\∀ s∈ss,¬mo s (bs.take (m+1)))):=by
 obtain⟨B7,C,O,h⟩:=cR Ba H7 ha;obtain⟨m,hm,hc⟩:=h.match bs 0 0 0 hb h.first h.pos
 have hbt:∀ m,Bytes (bs.take m):=fun m x hx=>hb x (xac hx);have kae:∀ w,Bytes w->K2 ss B7 w (runT C 0 w):=fun w hw=>dB Ba H7 h.W h.hl _ w rfl hw
 rw[eab] at hc;refine⟨m,hm,?_⟩;rcases hc with⟨c1,c2,c3⟩ | ⟨c1,c2,c3⟩ | ⟨c1,c2,c3,c4⟩
 ·refine .inl ⟨c1,?_⟩
  rcases kae _ (hbt m) with⟨_,q⟩ | ⟨q,_⟩ | ⟨q,_⟩
  ·exact q
  ·have:runT C ((0:Nat):Int) (bs.take m)= -1:=c3
   rw[show ((0:Nat):Int)=0 from rfl] at this;omega
  ·have:runT C ((0:Nat):Int) (bs.take m)= -1:=c3
   rw[show ((0:Nat):Int)=0 from rfl] at this;omega
 ·refine .inr (.inl ⟨c1,c2,?_⟩)
  rw[show ((0:Nat):Int)=0 from rfl] at c3;rcases kae _ hb with⟨q,_⟩ | ⟨_,_,q1,q2⟩ | ⟨q,_⟩
  ·omega
  ·refine⟨?_,q2⟩
   rcases q1 with q1 | ⟨s,h1,h2,_⟩
   ·exact .inl q1
   ·exact .inr ⟨s,h1,h2⟩
  ·omega
 ·rw[show ((0:Nat):Int)=0 from rfl] at c3 c4
  refine .inr (.inr ⟨c1,c2,?_⟩)
  have h4:∀ s∈ss,¬mo s (bs.take (m+1)):=by
   rcases kae _ (hbt (m+1)) with⟨q,_⟩ | ⟨q,_⟩ | ⟨_,_,q⟩
   ·omega
   ·omega
   ·exact q
  rcases kae _ (hbt m) with⟨q,_⟩ | ⟨_,_,q1,q2⟩ | ⟨q,_⟩
  ·omega
  ·refine⟨?_,q2,h4⟩
   rcases q1 with q1 | ⟨s,h1,h2,_⟩
   ·exact .inl q1
   ·exact .inr ⟨s,h1,h2⟩
  ·omega
theorem CT{row:List Int}{e:de}(he:e∈xg row):0<=e.lo/\e.lo<=e.hi/\e.hi < 256/\e.to≠ -2/\e.to=row.getD e.lo.toNat 0:=by
 have h:=ID row;obtain⟨h1,h2,h3,h4⟩:=h.By e he
 have hs:=h.step e.lo.toNat (by omega)
 rw[vac h1,VF h.ord e he (Kac _) h2] at hs;refine⟨h1,h2,h3,h4,?_⟩
 split at hs
 ·cases hs
 ·injection hs
theorem QG{ss:List Ob}{l:List (List de)}(Ba:Xb ss)(H7:Df ss)(h:ig ss=some l):∀ e∈l,sj e:=by
 obtain⟨B7,C,O,L⟩:=cR Ba H7 h;intro e he;obtain⟨k,hk,rfl⟩:=Eab he;have hkO:k < O.length:=by rw[L.len];exact hk
 obtain⟨j,hj,ho⟩:=L.told.all O[k] (saa hkO)
 obtain⟨row,h1,h2⟩:=L.row (k:=k) (j:=j) (by rw[caa hkO,ho]) hj
 rw[caa hk] at h1;injection h1 with h1
 have fai:=L.told.T6 _ (saa hk)
 have h64:=(CC h).1
 have hlen:=L.len
 rw[h1] at fai ⊢;refine⟨fun x hx=> ?_,(ID row).ord⟩;obtain⟨e1,e2,e3,e4,e5⟩:=CT hx;have:=fai x hx;refine⟨e1,e2,e3,?_,by omega⟩;obtain⟨f1,f2⟩:=h2 x.lo.toNat (by omega)
 by_cases hc:bh C j x.lo.toNat < 0
 ·have hb:=L.W.bound L.hl hj (x:=x.lo.toNat) (by omega)
  rw[f1 hc] at e5;omega
 ·obtain⟨k',g1,_⟩:=f2 (by omega)
  rw[g1] at e5;omega
def GK(r:List Int):PV:= .agg (r.map i64)
theorem GH{sz:Nat}:∀ {D:List (List PV)},(∀ r∈D,r.length=sz)->chunk sz true D.length D.flatten=D.map .agg
 | [],_=>rfl
 |r::D,h=>by have hr:=h r (by simp);rw[Raa,chunk,if_pos rfl,aac,List.take_left' hr,List.drop_left' hr,GH fun x hx=>h x (by simp[hx])];rfl
theorem CB:∀ {D:List (List Int)},(∀ r∈D,r.length=3)->ri 3 D.length D.flatten=D
 | [],_=>rfl
 |r::D,h=>by have hr:=h r (by simp);rw[Raa,ri,aac,List.take_left' hr,List.drop_left' hr,CB fun x hx=>h x (by simp[hx])]
def Wj(ss:List Ob):List (List Int):=(qq 3 0 (yj ss ss.length).toArray).toList
theorem Hs(ss:List Ob):(Wj ss).Perm (yj ss ss.length):=(SB 3 0 (yj ss ss.length).toArray).2.1
theorem xD{ss:List Ob}{r:List Int}(h:r∈Wj ss):r.length=3:=iz ((Hs ss).mem_iff.1 h)
theorem rJ(ss:List Ob):(Wj ss).length=ss.length:=by rw[(Hs ss).length_eq,Kr]
structure Uo(T:PV)(ss:List Ob)(l:List (List de)):Prop where
 ex:∃ S' NX DG RW,T= .rp [S',Kk l,NX,DG,RW,i64 (zj ss)] 0/\Zh 2 S' (ss.map uf)/\Zh 256 NX (l.map Zo)/\Zh 1 DG (ss.map fun s=>Mj s.parts)/\Zh 3 RW ((Wj ss).map GK)
section
variable {S:PV}{ss:List Ob}{es:List PV}(hS:qb S ss es)
include hS
theorem aE{n:Int}{V:PV}(hV:(AV.pv V).one=true)(h0:n≠0)(h1:n≠130)(hb:Ic [.agg [S]]=some (.mc [.agg [V],i64 n])):Hb [.agg [S]]=some (.mc [.qf,i64 n]):=by
 have G8:(AV.pv S).one=true:=by rcases hS.is with⟨h,_⟩ | h <;> rw[h] <;> rfl
 have d0:(n==0)=false:=by simp[h0]
 have d1:(n==130)=false:=by simp[h1]
 have d2:(n != 0)=true:=by simp[h0]
 have st:Ha [.box [.pv .ga]] 1 (.ptr 0 0) (.pv (.agg [V]))=some [.box [.pv V]]:=by simp[Ha,AV.cells,PV.cells,hV,fa]
 simp -implicitDefEqProofs only[Hb,YD.eq_1,SX,sevalprocAttr,pj,G8,qe,hb,st,d0,d1,d2]
theorem RD{n:Int}{V:PV}{y:Bool}{a b:Int}(hV:(AV.pv V).one=true)(h0:n=0\/n=130)(hy:n=130\/y=false)(hb:Ic [.agg [S]]=some (.mc [.agg [V],i64 n]))(hi:Ah [.agg [S]]=some (.mc [.agg [.bool y,i64 a,i64 b],i64 0])):
 Hb [.agg [S]]=some (.mc [.qf,i64 (if y then n else 111)]):=by
 have G8:(AV.pv S).one=true:=by rcases hS.is with⟨h,_⟩ | h <;> rw[h] <;> rfl
 have st:Ha [.box [.pv .ga]] 1 (.ptr 0 0) (.pv (.agg [V]))=some [.box [.pv V]]:=by simp[Ha,AV.cells,PV.cells,hV,fa]
 have st2:Ha [.box [.pv V],.box [.pv (.bool false),.pv (i64 0),.pv (i64 0)]] 3 (.ptr 1 0) (.pv (.agg [.bool y,i64 a,i64 b]))=some [.box [.pv V],.box [.pv (.bool y),.pv (i64 a),.pv (i64 b)]]:=rfl;have p2:∀ a b c d,place [a,.box [b,c,d]] 0 (.ptr 1 0)=some (.ptr 1 0):=fun a b c d=>rfl;have l2:∀ a b c d,pa [a,.box [b,c,d]] false 1 (.ptr 1 0)=some b:=fun a b c d=>rfl;have z0:((0:Int)==0)=true:=rfl;have z1:((130:Int)==0)=false:=rfl;have z2:((130:Int)==130)=true:=rfl;have z3:((130:Int) != 0)=true:=rfl;have z4:((111:Int) != 0)=true:=rfl;rcases h0 with rfl | rfl
 ·obtain rfl:y=false:=by rcases hy with h | h;cases h;exact h
  simp -implicitDefEqProofs only[Hb,YD.eq_1,SX,sevalprocAttr,pj,G8,qe,hb,hi,st,st2,p2,l2,z0,z1,z2,z3,z4]
 ·cases y <;> simp -implicitDefEqProofs only[Hb,YD.eq_1,SX,sevalprocAttr,pj,G8,qe,hb,hi,st,st2,p2,l2,z0,z1,z2,z3,z4]
end
theorem wG(l:List Int)(n:Nat):(jg l).all (AV.ie n deep)=true:=by
 rw[aab];intro x hx;obtain⟨y,_,rfl⟩:=oab.1 hx
 rfl
theorem SV{V S':PV}{y:Bool}{a b:Int}(nl:Bool)(ds:List PV)(D:List (List Int))(fl:Nat)(nr:Bool)(m:Int):
 Vd (Vz (.box [.pv V]) (.box [.pv (.bool y),.pv (i64 a),.pv (i64 b)]) (.tok 256 0 true) (.pv S') (.pv V) (.uq 3 true 256 []) nl ds D fl nr m):=by
 intro n hn o ho;have hn:6<=n:=hn;simp only[Vz,bab,oac,or_false] at ho;rcases ho with rfl | rfl | rfl | rfl | rfl | rfl
 ·exact js n [V]
 ·exact js n [.bool y,i64 a,i64 b]
 ·simp only[qa,Ra,Qa,CG (show 3 < n by omega),CG (show 4 < n by omega),AR (show 5 < n by omega),Daa,Kaa]
 ·rfl
 ·rfl
 ·simp only[qa,wG,if_true]
theorem eX{V S':PV}{y:Bool}{a b m:Int}{nl:Bool}{ds:List PV}{D:List (List Int)}{fl k:Nat}{nr:Bool}(nx:Bool)(es:List PV):
 Vd (Xx (.box [.pv V]) (.box [.pv (.bool y),.pv (i64 a),.pv (i64 b)]) (.tok 1 k nl) (.seq 3 true (jg D.flatten) fl nr) (.pv S') (.pv V) (.uq 4 nl 1 ds) (.own 5 k) (.pv (i64 m)) nx es):=by
 intro n hn o ho;have hn:6<=n:=hn;simp only[Xx,bab,oac,or_false] at ho;rcases ho with rfl | rfl | rfl | rfl | rfl | rfl
 ·exact js n [V]
 ·exact js n [.bool y,i64 a,i64 b]
 ·simp only[qa,Ra,Qa,CG (show 3 < n by omega),CG (show 4 < n by omega),AR (show 5 < n by omega),Daa,Kaa]
 ·rfl
 ·rfl
 ·simp only[qa,wG,if_true]
theorem yW{V S':PV}{o0 o1:ba}{m:Int}{nl nr nx:Bool}{ds es:List PV}{D:List (List Int)}{fl k:Nat}(hk:D.length=k)(hD:∀ r∈D,r.length=3)(h1:nl=true->ds=[])(h2:nr=true->D=[])(h3:nx=true->es=[]):
 ∃ NX DG RW,Ub (Xx o0 o1 (.tok 1 k nl) (.seq 3 true (jg D.flatten) fl nr) (.pv S') (.pv V) (.uq 4 nl 1 ds) (.own 5 k) (.pv (i64 m)) nx es) 5 (.ptr 2 0)=some (.rp [S',V,NX,DG,RW,i64 m] 0)/\
  Zh 256 NX es/\Zh 1 DG ds/\Zh 3 RW (D.map GK):=by
 refine⟨if nx then .ga else .lit 256 es,if nl then .ga else .lit 1 ds,if nr then .ga else .lit 3 (D.map GK),?_,?_,?_,?_⟩
 ·have hc:k * 3=(jg D.flatten).length/\(true||(3:Nat)==1)=true:=⟨by rw[paa,lz hD,hk],rfl⟩
  have hm:Ra (Ub (Xx o0 o1 (.tok 1 k nl) (.seq 3 true (jg D.flatten) fl nr) (.pv S') (.pv V) (.uq 4 nl 1 ds) (.own 5 k) (.pv (i64 m)) nx es) 3) (jg D.flatten)=some (D.flatten.map i64):=by
   generalize Xx o0 o1 (.tok 1 k nl) (.seq 3 true (jg D.flatten) fl nr) (.pv S') (.pv V) (.uq 4 nl 1 ds) (.own 5 k) (.pv (i64 m)) nx es=H;generalize D.flatten=F
   induction F with
   |nil=>rfl
   |cons x F ih=>show Ra (Ub H 3) (.pv (i64 x)::jg F)=_;rw[Ra,ih];rfl
  have hch:chunk 3 true k (D.flatten.map i64)=D.map GK:=by
   have:=GH (sz:=3) (D:=D.map fun r=>r.map i64) (by
    intro r hr;obtain⟨q,hq,rfl⟩:=oab.1 hr
    rw[paa,hD q hq])
   rw[paa,wad,<-List.map_flatten,hk] at this;exact this
  have h5:(Xx o0 o1 (.tok 1 k nl) (.seq 3 true (jg D.flatten) fl nr) (.pv S') (.pv V) (.uq 4 nl 1 ds) (.own 5 k) (.pv (i64 m)) nx es)[5]? =some (.seq 3 true (jg D.flatten) fl nr):=rfl;have hb:(Xx o0 o1 (.tok 1 k nl) (.seq 3 true (jg D.flatten) fl nr) (.pv S') (.pv V) (.uq 4 nl 1 ds) (.own 5 k) (.pv (i64 m)) nx es)[2]? =some (.box [.pv S',.pv V,.uq 3 nx 256 es,.uq 4 nl 1 ds,.own 5 k,.pv (i64 m)]):=rfl;have ho:Ub (Xx o0 o1 (.tok 1 k nl) (.seq 3 true (jg D.flatten) fl nr) (.pv S') (.pv V) (.uq 4 nl 1 ds) (.own 5 k) (.pv (i64 m)) nx es) 4 (.own 5 k)=some (if nr then .ga else .lit 3 (D.map GK)):=by simp only[Ub,h5,if_pos hc,hm,Kaa,hch];cases nr <;> rfl
  generalize Xx o0 o1 (.tok 1 k nl) (.seq 3 true (jg D.flatten) fl nr) (.pv S') (.pv V) (.uq 4 nl 1 ds) (.own 5 k) (.pv (i64 m)) nx es=H at *;show (match H[2]? with | some (.box cells)=>(Ra (Ub H 4) cells).map fun ps=>PV.rp ps 0 | _=>none)=_;rw[hb];have hv:∀ p:PV,Ub H 4 (.pv p)=some p:=fun p=>rfl;have hu:∀ id nl sz es,Ub H 4 (.uq id nl sz es)=some (if nl then .ga else .lit sz es):=fun _ _ _ _=>rfl;simp only[Ra,hv,hu,ho,Daa,Kaa]
 ·cases nx with
  |false=>exact .inr rfl
  |true=>exact .inl ⟨rfl,h3 rfl⟩
 ·cases nl with
  |false=>exact .inr rfl
  |true=>exact .inl ⟨rfl,h1 rfl⟩
 ·cases nr with
  |false=>exact .inr rfl
  |true=>exact .inl ⟨rfl,by rw[h2 rfl];rfl⟩
theorem DV{ss:List Ob}(h32:ss.length<=32){H:List ba}{fl:Nat}{nr:Bool}(hH:H[5]? =some (.seq 3 true (jg (yj ss ss.length).flatten) fl nr)):
 wi qt (fun _=>none) 8 34 [.own 5 ss.length,.Ol 36 []] H=some (.pv (.mc []),H.set 5 (.seq 3 true (jg (Wj ss).flatten) (ss.length * 3) nr)):=by
 have e34:∀ (d:Nat) args H,wi qt (fun _=>none) (d+1) 34 args H=yB 3 0 36 args H:=fun d args H=>rfl;rw[e34 7];have hl:(jg (yj ss ss.length).flatten).length=ss.length * 3:=by rw[paa,lz fun r hr=>iz hr,Kr]
 simp only[yB,hH];rw[if_pos ⟨trivial,trivial,hl.symm,by omega⟩,ew,Kaa,hl];have:=CB (D:=yj ss ss.length) fun r hr=>iz hr;rw[Kr] at this;rw[this];rfl
theorem cH{S:PV}{ss:List Ob}{es:List PV}(hS:qb S ss es)(Ba:Xb ss)(H7:Df ss){l:List (List de)}(ha:ig ss=some l){a b:Int}(hi:Ah [.agg [S]]=some (.mc [.agg [.bool true,i64 a,i64 b],i64 0])):
 ∃ T,Hb [.agg [S]]=some (.mc [T,i64 0])/\Uo T ss l:=by
 have G8:(AV.pv S).one=true:=by rcases hS.is with⟨h,_⟩ | h <;> rw[h] <;> rfl
 have hb:=(nj hS).2.2.2 Ba H7 l ha
 obtain⟨S',hcp,hS'⟩:=gF hS Ba;have Xak:(AV.pv S').one=true:=by rcases hS' with⟨h,_⟩ | h <;> rw[h] <;> rfl
 have lS:=hS.Tb
 obtain⟨k64,gai⟩:=CC ha;have W7:=vG k64 gai;have hV1:(AV.pv (Kk l)).one=true:=rfl
 have hVl:Zh 1 (Kk l) (l.map Ee):= .inr rfl
 have lV:=hVl.len
 rw[paa] at lV;have heo:=QG Ba H7 ha;obtain⟨V,hVe⟩:∃ V,V=Kk l:=⟨_,rfl⟩;rw[<- hVe] at hb W7 hV1 hVl lV;have st:Ha [.box [.pv .ga]] 1 (.ptr 0 0) (.pv (.agg [V]))=some [.box [.pv V]]:=by simp[Ha,AV.cells,PV.cells,hV1,fa]
 have st2:Ha [.box [.pv V],.box [.pv (.bool false),.pv (i64 0),.pv (i64 0)]] 3 (.ptr 1 0) (.pv (.agg [.bool true,i64 a,i64 b]))=some [.box [.pv V],.box [.pv (.bool true),.pv (i64 a),.pv (i64 b)]]:=rfl;have p2:∀ a b c d,place [a,.box [b,c,d]] 0 (.ptr 1 0)=some (.ptr 1 0):=fun a b c d=>rfl;have l2:∀ a b c d,pa [a,.box [b,c,d]] false 1 (.ptr 1 0)=some b:=fun a b c d=>rfl;have l3:pa [.box [.pv V],.box [.pv (.bool true),.pv (i64 a),.pv (i64 b)]] true 1 (.ptr 0 0)=some (.pv (.agg [V])):=rfl;have z0:((0:Int)==0)=true:=rfl;have z1:((0:Int) != 0)=false:=rfl;have m1:fa [AV.pv PV.ga,.pv .ga,.pv .ga,.pv .ga,.pv .ga,.pv (.int .i64 0)] 0 [AV.pv S']=[.pv S',.pv .ga,.pv .ga,.pv .ga,.pv .ga,.pv (.int .i64 0)]:=rfl;have m2:fa [AV.pv S',.pv .ga,.pv .ga,.pv .ga,.pv .ga,.pv (.int .i64 0)] 1 [AV.pv V]=[.pv S',.pv V,.pv .ga,.pv .ga,.pv .ga,.pv (.int .i64 0)]:=rfl;have m3:Tc [AV.pv S',.pv V,.pv .ga,.pv .ga,.pv .ga,.pv (.int .i64 0)]=some [S',V,.ga,.ga,.ga,.int .i64 0]:=rfl;have hz1:(0 < 256)=True:=by simp
 have hz2:(0 < 3)=True:=by simp
 have hz3:(0 < 1)=True:=by simp
 suffices key:qd (fun r=>∃ T,r= .mc [T,i64 0]/\Uo T ss l) (Hb [.agg [S]]) by obtain⟨r,h1,T,rfl,h2⟩:=wc key;exact⟨T,h1,h2⟩
 generalize hQ:(fun r=>∃ T,r=PV.mc [T,i64 0]/\_)=Q;simp -implicitDefEqProofs only[Hb,YD.eq_1,SX,sevalprocAttr,pj,G8,hV1,Xak,qe,Wa,fc,hb,hi,st,st2,p2,l2,l3,z0,z1,hcp,m1,m2,m3,DB,fe,hz1,hz2,hz3,lS];generalize U7:(Tr.set _ 48 _:Tr)=E;have q4:E.get 4= .ptr 0 0:=by rw[<- U7];simp[Tr.aa]
 have q8:E.get 8= .ptr 2 0:=by rw[<- U7];simp[Tr.aa]
 have q46:E.get 46= .pv S:=by rw[<- U7];simp[Tr.aa]
 have q47:E.get 47= .pv (i64 ss.length):=by rw[<- U7];simp[Tr.aa]
 have q48:E.get 48= .pv (i64 0):=by rw[<- U7];simp[Tr.aa]
 refine wa (O0 (call:=wi qt (fun _=>none) 8) (SV (V:=V) (S':=S') (y:=true) (a:=a) (b:=b)) hS Ba q4 q8 q46 q47 q48) ?_;rintro r ⟨_,E2,nl,nr,rfl,g4,g8,Y7,hnr⟩;have hdl:(ss.map fun s=>Mj s.parts).length=ss.length:=by rw[paa]
 have X9:=Kr ss ss.length
 have hDl:=rJ ss;have p5:∀ d,place (Vz (.box [.pv V]) (.box [.pv (.bool true),.pv (i64 a),.pv (i64 b)]) (.tok 256 0 true) (.pv S') (.pv V) (.uq 3 true 256 []) nl (ss.map fun s=>Mj s.parts) (yj ss ss.length) 0 nr (zj ss)) d (.ptr 2 0)=some (.ptr 2 (0+d)):=fun d=>Wg rfl d 0;have l5:pa (Vz (.box [.pv V]) (.box [.pv (.bool true),.pv (i64 a),.pv (i64 b)]) (.tok 256 0 true) (.pv S') (.pv V) (.uq 3 true 256 []) nl (ss.map fun s=>Mj s.parts) (yj ss ss.length) 0 nr (zj ss)) false 1 (.ptr 2 4)=some (.own 5 ss.length):=by rw[<- X9,Kr];show some (AV.own 5 (yj ss ss.length).length)=_;rw[X9]
 have daf:=DV Ba.len (H:=Vz (.box [.pv V]) (.box [.pv (.bool true),.pv (i64 a),.pv (i64 b)]) (.tok 256 0 true) (.pv S') (.pv V) (.uq 3 true 256 []) nl (ss.map fun s=>Mj s.parts) (yj ss ss.length) 0 nr (zj ss)) rfl
 have hHT:(Vz (.box [.pv V]) (.box [.pv (.bool true),.pv (i64 a),.pv (i64 b)]) (.tok 256 0 true) (.pv S') (.pv V) (.uq 3 true 256 []) nl (ss.map fun s=>Mj s.parts) (yj ss ss.length) 0 nr (zj ss)).set 5 (.seq 3 true (jg (Wj ss).flatten) (ss.length * 3) nr)=Xx (.box [.pv V]) (.box [.pv (.bool true),.pv (i64 a),.pv (i64 b)]) (.tok 1 ss.length nl) (.seq 3 true (jg (Wj ss).flatten) (ss.length * 3) nr) (.pv S') (.pv V) (.uq 4 nl 1 (ss.map fun s=>Mj s.parts)) (.own 5 ss.length) (.pv (i64 (zj ss))) true []:=by unfold Vz Xx;rw[hdl,X9];rfl
 rw[hHT] at daf;have p6:∀ d,place (Xx (.box [.pv V]) (.box [.pv (.bool true),.pv (i64 a),.pv (i64 b)]) (.tok 1 ss.length nl) (.seq 3 true (jg (Wj ss).flatten) (ss.length * 3) nr) (.pv S') (.pv V) (.uq 4 nl 1 (ss.map fun s=>Mj s.parts)) (.own 5 ss.length) (.pv (i64 (zj ss))) true []) d (.ptr 0 0)=some (.ptr 0 (0+d)):=fun d=>Wg rfl d 0;have l6:pa (Xx (.box [.pv V]) (.box [.pv (.bool true),.pv (i64 a),.pv (i64 b)]) (.tok 1 ss.length nl) (.seq 3 true (jg (Wj ss).flatten) (ss.length * 3) nr) (.pv S') (.pv V) (.uq 4 nl 1 (ss.map fun s=>Mj s.parts)) (.own 5 ss.length) (.pv (i64 (zj ss))) true []) false 1 (.ptr 0 0)=some (.pv V):=rfl;have hnx:=fun (E3:Tr)(r8:E3.get 8= .ptr 2 0)(r101:E3.get 101= .pv V)(r102:E3.get 102= .pv (i64 l.length))(r103:E3.get 103= .pv (i64 0))=>
  OY (call:=wi qt (fun _=>none) 8) (eX (V:=V) (S':=S') (y:=true) (a:=a) (b:=b) (m:=zj ss) (nl:=nl) (ds:=ss.map fun s=>Mj s.parts) (D:=Wj ss) (fl:=ss.length * 3) (k:=ss.length) (nr:=nr)) hVl k64 gai heo r8 r101 r102 r103
 obtain⟨NX,hNX⟩:∃ x,x=fun nx=>Xx (.box [.pv V]) (.box [.pv (.bool true),.pv (i64 a),.pv (i64 b)]) (.tok 1 ss.length nl) (.seq 3 true (jg (Wj ss).flatten) (ss.length * 3) nr) (.pv S') (.pv V) (.uq 4 nl 1 (ss.map fun s=>Mj s.parts)) (.own 5 ss.length) (.pv (i64 (zj ss))) nx (l.map Zo):=⟨_,rfl⟩;have xap:=hnx;generalize Vz (.box [.pv V]) (.box [.pv (.bool true),.pv (i64 a),.pv (i64 b)]) (.tok 256 0 true) (.pv S') (.pv V) (.uq 3 true 256 []) nl (ss.map fun s=>Mj s.parts) (yj ss ss.length) 0 nr (zj ss)=HS at *;simp -implicitDefEqProofs only[SX,sevalprocAttr,g4,g8,p5,l5,daf,p6,l6,lV];generalize lae:(Tr.set _ 103 _:Tr)=E3;refine wa (hnx E3 (by rw[<- lae];simp[Tr.aa,g8]) (by rw[<- lae];simp[Tr.aa]) (by rw[<- lae];simp[Tr.aa]) (by rw[<- lae];simp[Tr.aa])) ?_;rintro r ⟨_,E4,nx,rfl,r8,hx⟩;obtain⟨NX,DG,RW,t1,t2,t3,t4⟩:=yW (V:=V) (S':=S') (o0:= .box [.pv V]) (o1:= .box [.pv (.bool true),.pv (i64 a),.pv (i64 b)]) (m:=zj ss) (nl:=nl) (nr:=nr) (nx:=nx) (ds:=ss.map fun s=>Mj s.parts) (es:=l.map Zo) (D:=Wj ss) (fl:=ss.length * 3) (k:=ss.length) hDl (fun r hr=>xD hr) (fun h=>by rw[Y7 h];rfl) (fun h=>by have:=hDl;rw[hnr h] at this ⊢;exact yaa this) (fun h=>by rw[hx h];rfl);generalize Xx (.box [.pv V]) (.box [.pv (.bool true),.pv (i64 a),.pv (i64 b)]) (.tok 1 ss.length nl) (.seq 3 true (jg (Wj ss).flatten) (ss.length * 3) nr) (.pv S') (.pv V) (.uq 4 nl 1 (ss.map fun s=>Mj s.parts)) (.own 5 ss.length) (.pv (i64 (zj ss))) nx (l.map Zo)=HT at *;have hm1:qy [AV.ptr 2 0,.pv (.int .i64 0)]= .mc [.ptr 2 0,.pv (.int .i64 0)]:=rfl
 have htp:Ub HT 6 (.mc [.ptr 2 0,.pv (.int .i64 0)])=some (.mc [.rp [S',V,NX,DG,RW,i64 (zj ss)] 0,i64 0]):=by
  show (Ra (Ub HT 5) [AV.ptr 2 0,.pv (.int .i64 0)]).map PV.mc=_
  have hv:Ub HT 5 (.pv (.int .i64 0))=some (.int .i64 0):=rfl;simp only[Ra,t1,hv,Daa,Kaa]
 simp -implicitDefEqProofs only[SX,sevalprocAttr,r8,UF,hm1,htp];subst hQ;exact⟨_,rfl,⟨S',NX,DG,RW,by rw[hVe],hS',t2,t3,t4⟩⟩
theorem Lr{S:PV}{ss:List Ob}{es:List PV}(hS:qb S ss es):∃ T n,Hb [.agg [S]]=some (.mc [T,i64 n])/\(n≠0->T= .qf)/\
 (¬ Xb ss->n=84)/\(Xb ss->¬Df ss->n=110)/\(Xb ss->Df ss->¬Gm ss->n=111)/\(Xb ss->Df ss->Gm ss->ig ss=none->n=130)/\
 (∀ l,Xb ss->Df ss->Gm ss->ig ss=some l->n=0/\Uo T ss l):=by
 have hb:=nj hS
 by_cases h1:Xb ss
 ·by_cases h2:Df ss
  ·obtain⟨y,a,b,hi,hy⟩:=uQ hS h1
   by_cases h3:Gm ss
   ·have:=hy.2 h3
    subst this;cases h4:ig ss with
    |none=>have:=RD hS (n:=130) (V:= .ga) rfl (.inr rfl) (.inl rfl) (hb.2.2.1 h1 h2 h4) hi;exact⟨.qf,130,this,fun _=>rfl,fun h=>absurd h1 h,fun _ h=>absurd h2 h,fun _ _ h=>absurd h3 h,fun _ _ _ _=>rfl,fun l _ _ _ h=>(by cases h)⟩
    |some l=>
     obtain⟨T,t1,t2⟩:=cH hS h1 h2 h4 hi;refine⟨T,0,t1,fun h=>absurd rfl h,fun h=>absurd h1 h,fun _ h=>absurd h2 h,fun _ _ h=>absurd h3 h,fun _ _ _ h=>(by cases h),fun l' _ _ _ h=> ?_⟩;injection h with h
     exact⟨rfl,h ▸ t2⟩
   ·have hyf:y=false:=by cases y with | false=>rfl | true=>exact absurd (hy.1 rfl) h3
    subst hyf;have key:∃ n V,(AV.pv V).one=true/\(n=0\/n=130)/\Ic [.agg [S]]=some (.mc [.agg [V],i64 n]):=by
     cases h4:ig ss with
     |none=>exact⟨130,.ga,rfl,.inr rfl,hb.2.2.1 h1 h2 h4⟩
     |some l=>exact⟨0,Kk l,rfl,.inl rfl,hb.2.2.2 h1 h2 l h4⟩
    obtain⟨n,V,k1,k2,k3⟩:=key;have:=RD hS k1 k2 (.inr rfl) k3 hi;exact⟨.qf,111,this,fun _=>rfl,fun h=>absurd h1 h,fun _ h=>absurd h2 h,fun _ _ _=>rfl,fun _ _ h=>absurd h h3,fun l _ _ h=>absurd h h3⟩
  ·have:=aE hS (n:=110) (V:= .ga) rfl (by decide) (by decide) (hb.2.1 h1 h2)
   exact⟨.qf,110,this,fun _=>rfl,fun h=>absurd h1 h,fun _ _=>rfl,fun _ h=>absurd h h2,fun _ h=>absurd h h2,fun l _ h=>absurd h h2⟩
 ·have:=aE hS (n:=84) (V:= .ga) rfl (by decide) (by decide) (hb.1 h1)
  exact⟨.qf,84,this,fun _=>rfl,fun _=>rfl,fun h=>absurd h h1,fun h=>absurd h h1,fun h=>absurd h h1,fun l h=>absurd h h1⟩
theorem uU{S:PV}{ss:List Ob}{es:List PV}(hS:qb S ss es):∃ T n,Hb [.agg [S]]=some (.mc [T,i64 n])/\
 ((n≠0/\T= .qf)\/(n=0/\Xb ss/\Df ss/\Gm ss/\∃ l,ig ss=some l/\Uo T ss l/\∀ e∈l,sj e)):=by
 obtain⟨T,n,hc,hn,h1,h2,h3,h4,h5⟩:=Lr hS;refine⟨T,n,hc,?_⟩
 by_cases h0:n=0
 ·refine .inr ⟨h0,?_⟩
  by_cases k1:Xb ss
  ·by_cases k2:Df ss
   ·by_cases k3:Gm ss
    ·cases k4:ig ss with
     |none=>have:=h4 k1 k2 k3 k4;omega
     |some l=>exact⟨k1,k2,k3,l,rfl,(h5 l k1 k2 k3 k4).2,QG k1 k2 k4⟩
    ·have:=h3 k1 k2 k3;omega
   ·have:=h2 k1 k2;omega
  ·have:=h1 k1;omega
 ·exact .inl ⟨h0,hn h0⟩
theorem fF{p q:Ob}(op:Be p)(oq:Be q)(hle:p.parts.length<=q.parts.length):vf p q=true↔∀ k (h1:k < p.parts.length) (h2:k < q.parts.length),∃ x,x < 256/\lj p.parts[k] x=true/\lj q.parts[k] x=true:=by
 have key:∀ (m i:Nat),i+m=p.parts.length->((ec p.parts q.parts m i).isSome=true↔∀ k,i<=k->(h1:k < p.parts.length)->(h2:k < q.parts.length)->∃ x,x < 256/\lj p.parts[k] x=true/\lj q.parts[k] x=true):=by
  intro m
  induction m with
  |zero=>intro i hi;exact⟨fun _ k hk h1=>by omega,fun _=>rfl⟩
  |succ m ih=>
   intro i hi;have h1:i < p.parts.length:=by omega
   have h2:i < q.parts.length:=by omega
   have hm:=QA h1 h2 (op.parts _ (saa h1)).2 (oq.parts _ (saa h2)).2
   have hI:=ih (i+1) (by omega);rw[ec];cases hmt:Rq p.parts q.parts i with
   |nil=>
    constructor
    ·intro h;cases h
    ·intro h;exact absurd hmt (hm.2 (h i (waa _) h1 h2))
   |cons a r=>
    simp only[Option.isSome_map];rw[hI];constructor
    ·intro h k hk g1 g2
     rcases Xaa i k with h3 | h3
     ·exact h k h3 g1 g2
     ·have:k=i:=by omega
      subst this;exact hm.1 (by rw[hmt];simp)
    ·intro h k hk;exact h k (by omega)
 have:=key p.parts.length 0 (by omega)
 unfold vf;rw[this];exact⟨fun h k h1 h2=>h k (by omega) h1 h2,fun h k _ h1 h2=>h k h1 h2⟩
theorem eH{p q:Ob}(op:Be p)(oq:Be q)(h:p.parts.length=q.parts.length):vf p q=vf q p:=by
 rw[fae,fF op oq (by omega),fF oq op (by omega)];constructor
 ·intro k i h1 h2;obtain⟨x,a,b,c⟩:=k i h2 h1;exact⟨x,a,c,b⟩
 ·intro k i h1 h2;obtain⟨x,a,b,c⟩:=k i h2 h1;exact⟨x,a,c,b⟩
def EF(ss:List Ob)(i j:Nat):Prop:=(hi:i < ss.length)->(hj:j < ss.length)->j < i->ss[i].parts.length=ss[j].parts.length->vf ss[i] ss[j]=false
theorem VJ{ss:List Ob}(Ba:Xb ss):Gm ss↔∀ i j,EF ss i j:=by
 constructor
 ·intro h i j hi hj hlt he
  rw[eH (Ba.ft _ (saa hi)) (Ba.ft _ (saa hj)) he];exact h j i hj hi hlt he.symm
 ·intro h i j hi hj hlt he
  rw[eH (Ba.ft _ (saa hi)) (Ba.ft _ (saa hj)) he];exact h j i hj hi hlt he.symm
section
variable {S:PV}{ss:List Ob}{es:List PV}(hS:qb S ss es)(Ba:Xb ss)
include hS Ba
theorem YK(call:Sa){i:Nat}(hi:i < ss.length){E:Tr}(h1:E.get 1= .pv (.rp [S] 0))(h4:E.get 4= .pv (i64 i))(h5:E.get 5= .pv (i64 0)):
 qd (fun r=>r.1.stop=true/\((∃ E',r=(.exit 2,⟨E',[]⟩)/\Xe [1,4] E E'/\∀ j,EF ss i j)\/∃ E',r=(.ret,⟨E',[]⟩)/\E'.get 2= .pv (.bool false)/\E'.get 3= .pv (i64 0)/\¬Gm ss))
  (oa call (.loop [1,4,5] Yd) ⟨E,[]⟩):=by
 have h32:=Ba.len
 have ln:=hS.Tb
 obtain⟨P,ps,hP,a1⟩:=hS.Pd hi
 have okp:=Ba.ft _ (saa hi)
 have lP:=hP.parts.Tb
 refine Dr (fun j t=>Xe [1,4] E t.env/\t.env.get 5= .pv (i64 j)/\t.H=[]/\∀ j',j' < j->EF ss i j') i (by unfold ua;omega)
  (Rh.all rfl (by simp) (Fit.cons h1 Qa (.cons h4 Qa (.cons h5 Qa (.nil _ _)))) fun E' hE=>⟨Xe.sub hE rfl,by rw[hE 5 (by simp),h5];rfl,rfl,fun j h=>by omega⟩) ?_ ?_
 ·rintro j ⟨E1,H1⟩ hj ⟨k1,k5,k3,hs⟩
  simp only at k1 k5 k3;subst k3;have hjl:j < ss.length:=by omega
  have g1:=(k1 1 (by simp)).trans h1
  have g4:=(k1 4 (by simp)).trans h4
  obtain⟨Q,qs,hQ,a2⟩:=hS.Pd hjl
  have okq:=Ba.ft _ (saa hjl)
  have hcm:=fun (h:ss[i].parts.length<=ss[j].parts.length)=>Sy hP hQ okp okq (n:=ss[i].parts.length) (waa _) h;have lQ:=hQ.parts.Tb
  have Y8:∀ b,(ss[i].parts.length=ss[j].parts.length->vf ss[i] ss[j]=b)->b=false->∀ j',j' < j+1->EF ss i j':=by
   intro b hb hb0 j' hj';rcases Xaa j' j with h3 | h3
   ·exact hs j' h3
   ·have:j'=j:=by omega
    subst this;intro _ _ _ he;rw[hb he,hb0]
  have A9:ss[i].parts.length=ss[j].parts.length->vf ss[i] ss[j]=true->¬Gm ss:=fun he hm h=>by
   have:=(VJ Ba).1 h i j hi hjl hj he
   rw[hm] at this;cases this
  unfold vf at Y8 A9;generalize ss[i]=p at *;generalize ss[j]=q at *;have e1:decide ((j:Int) < (i:Int))=true:=Ea (by omega);have t2:IntKind.i64.wrap ((j:Int)+1)=((j+1:Nat):Int):=sg (by omega)
  have fin:(∀ j',j' < j+1->EF ss i j')->∀ E2:Tr,Xe [1,4] E E2->E2.get 5= .pv (i64 (j+1:Nat))->Rh ([]:List ba).length [1,4,5] (fun t=>Xe [1,4] E t.env/\t.env.get 5= .pv (i64 (j+1:Nat))/\t.H=[]/\∀ j',j' < j+1->EF ss i j') ⟨E2,[]⟩:=fun hn E2 kk z5=>
   Rh.all rfl (by simp) (Fit.sub (.cons z5 Qa (Fit.ie (l:=[1,4]) (.cons h1 Qa (.cons h4 Qa (.nil _ _))) kk)) rfl) fun E' hE=>⟨kk.trans (Xe.sub hE rfl),by rw[hE 5 (by simp),z5],rfl,hn⟩
  generalize P7:RQ _ _ _ _=QQ
  by_cases c1:p.parts.length=q.parts.length
  ·have d1:((p.parts.length:Int)==(q.parts.length:Int))=true:=by rw[c1];simp
   obtain⟨v,hv⟩:=hcm (by omega);cases hb:(ec p.parts q.parts p.parts.length 0).isSome with
   |true=>rw[hb] at hv;simp -implicitDefEqProofs only[SX,sevalprocAttr,Yd,g1,g4,k5,e1,fc,Wa,Vc,je,tg,a1,a2,lP,lQ,d1,hv];subst P7;exact .inr ⟨_,rfl,by simp[Tr.aa],by simp[Tr.aa],A9 c1 hb⟩
   |false=>rw[hb] at hv;simp -implicitDefEqProofs only[SX,sevalprocAttr,Yd,g1,g4,k5,e1,t2,fc,Wa,Vc,je,tg,a1,a2,lP,lQ,d1,hv];subst P7;rw[Yn];generalize U7:(Tr.set _ 5 _:Tr)=E2;refine fin (Y8 false (fun _=>hb) rfl) E2 (by rw[<- U7];(repeat refine Xe.set ?_ rfl);exact k1) (by rw[<- U7];simp[Tr.aa])
  ·have d1:((p.parts.length:Int)==(q.parts.length:Int))=false:=beq_false_of_ne (by omega)
   simp -implicitDefEqProofs only[SX,sevalprocAttr,Yd,g1,g4,k5,e1,t2,fc,Wa,Vc,je,tg,a1,a2,lP,lQ,d1];subst P7;rw[Yn];generalize U7:(Tr.set _ 5 _:Tr)=E2;refine fin (Y8 false (fun h=>absurd h c1) rfl) E2 (by rw[<- U7];(repeat refine Xe.set ?_ rfl);exact k1) (by rw[<- U7];simp[Tr.aa])
 ·rintro⟨E1,H1⟩ ⟨k1,k5,k3,hs⟩
  simp only at k1 k5 k3;subst k3;have g4:=(k1 4 (by simp)).trans h4
  have e1:decide ((i:Int) < (i:Int))=false:=Ga (by omega);generalize hQ:(fun r:Ex×St=>r.1.stop=true/\_)=QQ;simp -implicitDefEqProofs only[SX,sevalprocAttr,Yd,g4,k5,e1];subst hQ;refine⟨rfl,.inl ⟨_,rfl,?_,fun j a b c=>hs j c a b c⟩⟩
  repeat refine Xe.set ?_ rfl
  exact k1
theorem FA:∃ b,bf [.agg [S]]=some (.mc [.bool b,i64 0])/\(b=true↔Gm ss):=by
 have ln:=hS.Tb
 have G8:(AV.pv S).one=true:=by rcases hS.is with⟨h,_⟩ | h <;> rw[h] <;> rfl
 obtain⟨b,hb,hbb⟩:=Uy hS;have:=hbb.2 Ba
 subst this;have h32:=Ba.len
 have D7:=fun (E:Tr)(h1:E.get 1= .pv (.rp [S] 0))(h4:E.get 4= .pv (i64 0))=>
  Dr (call:=Da (fun _=>none) 8) (b:=Jg) (live:=[1,4]) (s:=⟨E,[]⟩) (Q:=fun r=>(∃ E',r=(.exit 0,⟨E',[]⟩)/\Gm ss)\/∃ E',r=(.ret,⟨E',[]⟩)/\E'.get 2= .pv (.bool false)/\E'.get 3= .pv (i64 0)/\¬Gm ss)
   (fun i t=>Xe [1] E t.env/\t.env.get 4= .pv (i64 i)/\t.H=[]/\∀ i',i' < i->∀ j,EF ss i' j) ss.length (by unfold ua;omega)
   (Rh.all rfl (by simp) (Fit.cons h1 Qa (.cons h4 Qa (.nil _ _))) fun E' hE=>⟨Xe.sub hE rfl,by rw[hE 4 (by simp),h4];rfl,rfl,fun i h=>by omega⟩)
   (by
    rintro i ⟨E1,H1⟩ hi ⟨k1,k4,k3,hs⟩;simp only at k1 k4 k3;subst k3;have g1:=(k1 1 (by simp)).trans h1
    have e1:decide ((i:Int) < (ss.length:Int))=true:=Ea (by omega);have t2:=Za hi (by unfold maxLen;omega);generalize P7:RQ _ _ _ _=QQ;simp -implicitDefEqProofs only[SX,sevalprocAttr,Jg,g1,k4,ln,e1,fc,Wa];generalize U7:(Tr.set _ 5 _:Tr)=E2;have z1:E2.get 1= .pv (.rp [S] 0):=by rw[<- U7];simp[Tr.aa,g1]
    have z4:E2.get 4= .pv (i64 i):=by rw[<- U7];simp[Tr.aa,k4]
    refine wa (YK hS Ba _ hi z1 z4 (by rw[<- U7];simp[Tr.aa])) ?_;rintro _ ⟨_,⟨E3,rfl,k6,hp⟩ | ⟨E3,rfl,g2,g3,hp⟩⟩
    ·have y4:=(k6 4 (by simp)).trans z4
     simp -implicitDefEqProofs only[SX,sevalprocAttr,y4,t2];subst P7;rw[Yn];generalize hE4:(Tr.set _ 4 _:Tr)=E4;have y1:E4.get 1= .pv (.rp [S] 0):=by rw[<- hE4];simp[Tr.aa];exact (k6 1 (by simp)).trans z1
     have y4:E4.get 4= .pv (i64 (i+1:Nat)):=by rw[<- hE4];simp[Tr.aa]
     exact Rh.all rfl (by simp) (Fit.cons y1 Qa (.cons y4 Qa (.nil _ _))) fun E' hE=>⟨fun t ht=>by
      rw[Sab] at ht;subst ht;rw[hE 1 (by simp),y1,h1],by rw[hE 4 (by simp),y4],rfl,fun i' hi' j=>by
      rcases Xaa i' i with h3 | h3
      ·exact hs i' h3 j
      ·have:i'=i:=by omega
       subst this;exact hp j⟩
    ·simp -implicitDefEqProofs only[SX,sevalprocAttr]
     subst P7;exact .inr ⟨_,rfl,g2,g3,hp⟩)
   (by
    rintro⟨E1,H1⟩ ⟨k1,k4,k3,hs⟩;simp only at k1 k4 k3;subst k3;have g1:=(k1 1 (by simp)).trans h1
    have e1:decide ((ss.length:Int) < (ss.length:Int))=false:=Ga (by omega);generalize hQ:(fun r:Ex×St=>r.1.stop=true/\_)=QQ;simp -implicitDefEqProofs only[SX,sevalprocAttr,Jg,g1,k4,ln,e1,fc,Wa];subst hQ;exact⟨rfl,.inl ⟨_,rfl,(VJ Ba).2 fun i j hi hj=>hs i hi j hi hj⟩⟩)
 have key:qd (fun r=>∃ b,r=PV.mc [.bool b,i64 0]/\(b=true↔Gm ss)) (bf [.agg [S]]):=by
  generalize P7:(fun r:PV=>_)=QQ;simp -implicitDefEqProofs only[bf,SX,sevalprocAttr,Zj,G8,fc,Wa,qe,hb];generalize U7:(Tr.set _ 4 _:Tr)=E;refine wa (D7 E (by rw[<- U7];simp[Tr.aa]) (by rw[<- U7];simp[Tr.aa])) ?_;rintro _ ⟨_,⟨E',rfl,hp⟩ | ⟨E',rfl,g2,g3,hp⟩⟩
  ·simp -implicitDefEqProofs only[SX,sevalprocAttr]
   subst P7;exact⟨true,rfl,by simpa using hp⟩
  ·simp -implicitDefEqProofs only[SX,sevalprocAttr,g2,g3]
   subst P7;exact⟨false,rfl,by simpa using hp⟩
 obtain⟨r,h1,b,rfl,hb⟩:=wc key;exact⟨b,h1,hb⟩
end
theorem UI{S V:PV}{ss:List Ob}{es:List PV}(hS:qb S ss es){m:Int}(hV:(AV.pv V).one=true)(hm:m=84\/m=110)(hb:Ya [.agg [S]]=some (.mc [.agg [V],i64 m])):Cd [.agg [S]]=some (.mc [.agg [.ga],i64 m]):=by
 have G8:(AV.pv S).one=true:=by rcases hS.is with⟨h,_⟩ | h <;> rw[h] <;> rfl
 have s1:Ha [.box [.pv .ga],.box [.pv .ga]] 1 (.ptr 1 0) (.pv (.agg [V]))=some [.box [.pv .ga],.box [.pv V]]:=by simp[Ha,AV.cells,PV.cells,hV,fa]
 have s0:Ha [.box [.pv .ga],.box [.pv V]] 1 (.ptr 0 0) (.pv (.agg [.ga]))=some [.box [.pv .ga],.box [.pv V]]:=rfl;have ld:pa [.box [.pv .ga],.box [.pv V]] true 1 (.ptr 0 0)=some (.pv (.agg [.ga])):=rfl;have z1:((84:Int)==84)=true:=rfl;have z2:((110:Int)==84)=false:=rfl;have z3:((110:Int)==110)=true:=rfl;rcases hm with rfl | rfl <;>
 simp -implicitDefEqProofs only[Cd,SX,sevalprocAttr,vh,G8,qe,hb,s1,s0,ld,z1,z2,z3]
theorem nz{S V:PV}{ss:List Ob}{es:List PV}(hS:qb S ss es){m:Int}{b:Bool}(hV:(AV.pv V).one=true)(h1:m≠84)(h2:m≠110)(hb:Ya [.agg [S]]=some (.mc [.agg [V],i64 m]))(hi:bf [.agg [S]]=some (.mc [.bool b,i64 0])):
 Cd [.agg [S]]=some (.mc [.agg [if b then V else .ga],i64 (if b then m else 111)]):=by
 have G8:(AV.pv S).one=true:=by rcases hS.is with⟨h,_⟩ | h <;> rw[h] <;> rfl
 have s1:Ha [.box [.pv .ga],.box [.pv .ga]] 1 (.ptr 1 0) (.pv (.agg [V]))=some [.box [.pv .ga],.box [.pv V]]:=by simp[Ha,AV.cells,PV.cells,hV,fa]
 have s0:Ha [.box [.pv .ga],.box [.pv V]] 1 (.ptr 0 0) (.pv (.agg [.ga]))=some [.box [.pv .ga],.box [.pv V]]:=rfl;have s2:Ha [.box [.pv .ga],.box [.pv V]] 1 (.ptr 0 0) (.pv (.agg [V]))=some [.box [.pv V],.box [.pv V]]:=by simp[Ha,AV.cells,PV.cells,hV,fa]
 have ld:∀ W:PV,pa [.box [.pv W],.box [.pv V]] true 1 (.ptr 0 0)=some (.pv (.agg [W])):=fun W=>rfl;have ld1:pa [.box [.pv .ga],.box [.pv V]] true 1 (.ptr 1 0)=some (.pv (.agg [V])):=rfl;have z1:(m==84)=false:=beq_false_of_ne h1;have z2:(m==110)=false:=beq_false_of_ne h2;cases b <;>;simp -implicitDefEqProofs only[Cd,SX,sevalprocAttr,vh,G8,qe,hb,hi,s1,s0,s2,ld,ld1,z1,z2]
theorem ZK(ss:List Ob):∃ n V,(∀ (S:PV)(es:List PV),qb S ss es->Cd [.agg [S]]=some (.mc [.agg [V],i64 n]))/\(n=0->∃ l,ig ss=some l/\V=Kk l)/\(AV.pv V).one=true/\
 (∀ (S:PV)(es:List PV),qb S ss es->∃ T,Hb [.agg [S]]=some (.mc [T,i64 n])/\((n≠0/\T= .qf)\/(n=0/\Xb ss/\Df ss/\Gm ss/\∃ l,ig ss=some l/\Uo T ss l/\∀ e∈l,sj e))):=by
 obtain⟨VB,lB,m,hVB,_,_,H8,s8⟩:=CQ ss;have M7:∀ (S:PV)(es:List PV)(V':PV)(m':Int),qb S ss es->Ic [.agg [S]]=some (.mc [.agg [V'],i64 m'])->Ya [.agg [S]]=some (.mc [.agg [V'],i64 m']):=by intro S es V' m' hS h;rw[s8 S es hS,<-H8 S es hS,h]
 have vg:∀ n:Int,(∀ (S:PV)(es:List PV),qb S ss es->∀ T k,Hb [.agg [S]]=some (.mc [T,i64 k])->k=n)->∀ (S:PV)(es:List PV),qb S ss es->∃ T,Hb [.agg [S]]=some (.mc [T,i64 n])/\((n≠0/\T= .qf)\/(n=0/\Xb ss/\Df ss/\Gm ss/\∃ l,ig ss=some l/\Uo T ss l/\∀ e∈l,sj e)):=by intro n hn S es hS;obtain⟨T,k,h1,h2⟩:=uU hS;obtain rfl:=hn S es hS T k h1;exact⟨T,h1,h2⟩
 have same:∀ {S:PV}{T T':PV}{k k':Int},Hb [.agg [S]]=some (.mc [T,i64 k])->Hb [.agg [S]]=some (.mc [T',i64 k'])->k=k':=by
  intro S T T' k k' h1 h2;rw[h1] at h2;injection h2 with h2
  injection h2 with h2
  injection h2 with _ h2
  injection h2 with h2 _
  injection h2
 have aut:ig ss=none\/∃ l,ig ss=some l:=by
  cases ig ss with
  |none=>exact .inl rfl
  |some l=>exact .inr ⟨l,rfl⟩
 have one:∀ {l:List (List de)},(AV.pv (Kk l)).one=true:=fun {l}=>rfl
 by_cases h1:Xb ss
 ·by_cases h2:Df ss
  ·by_cases h3:Gm ss
   ·rcases aut with h4 | ⟨l,h4⟩
    ·skip
     refine⟨130,.ga,fun S es hS=> ?_,fun h=>(by cases h),rfl,vg 130 fun S es hS T k hk=> ?_⟩
     ·obtain⟨b,i1,i2⟩:=FA hS h1
      have:=i2.2 h3
      subst this;exact nz hS rfl (by decide) (by decide) (M7 S es _ _ hS ((nj hS).2.2.1 h1 h2 h4)) i1
     ·obtain⟨T',n,t1,_,_,_,_,t2,_⟩:=Lr hS
      have:=t2 h1 h2 h3 h4;subst this;exact same hk t1
    ·skip
     refine⟨0,Kk l,fun S es hS=> ?_,fun _=>⟨l,h4,rfl⟩,one,vg 0 fun S es hS T k hk=> ?_⟩
     ·obtain⟨b,i1,i2⟩:=FA hS h1
      have:=i2.2 h3
      subst this;exact nz hS one (by decide) (by decide) (M7 S es _ _ hS ((nj hS).2.2.2 h1 h2 l h4)) i1
     ·obtain⟨T',n,t1,_,_,_,_,_,t2⟩:=Lr hS
      have:=(t2 l h1 h2 h3 h4).1
      subst this;exact same hk t1
   ·refine⟨111,.ga,fun S es hS=> ?_,fun h=>(by cases h),rfl,vg 111 fun S es hS T k hk=> ?_⟩
    ·obtain⟨b,i1,i2⟩:=FA hS h1
     have hb:b=false:=by cases b with | false=>rfl | true=>exact absurd (i2.1 rfl) h3
     subst hb;cases h4:ig ss with
     |none=>exact nz hS (V:= .ga) rfl (by decide) (by decide) (M7 S es _ _ hS ((nj hS).2.2.1 h1 h2 h4)) i1
     |some l=>exact nz hS one (by decide) (by decide) (M7 S es _ _ hS ((nj hS).2.2.2 h1 h2 l h4)) i1
    ·obtain⟨T',n,t1,_,_,_,t2,_⟩:=Lr hS
     have:=t2 h1 h2 h3;subst this;exact same hk t1
  ·refine⟨110,.ga,fun S es hS=>UI hS (V:= .ga) rfl (.inr rfl) (M7 S es _ _ hS ((nj hS).2.1 h1 h2)),fun h=>(by cases h),rfl,vg 110 fun S es hS T k hk=> ?_⟩
   obtain⟨T',n,t1,_,_,t2,_⟩:=Lr hS;have:=t2 h1 h2;subst this;exact same hk t1
 ·refine⟨84,.ga,fun S es hS=>UI hS (V:= .ga) rfl (.inl rfl) (M7 S es _ _ hS ((nj hS).1 h1)),fun h=>(by cases h),rfl,vg 84 fun S es hS T k hk=> ?_⟩
  obtain⟨T',n,t1,_,t2,_⟩:=Lr hS;have:=t2 h1;subst this;exact same hk t1
def EL(ls:List (List (Int×Int)))(i:Nat):List PV:=(List.range 258).map fun k=>KK ls (i * 258+k)
theorem NL(H:List ba)(d o:Nat)(row:List PV):place H d (.pv (.rp row o))=some (.pv (.rp row (o+d))):=rfl
theorem Y6(H:List ba)(o n:Nat)(row:List PV):place H (n * 1) (.pv (.rp row o))=some (.pv (.rp row (o+n))):=by rw[Nat.mul_one];rfl
theorem CJ{ls:List (List (Int×Int))}{i:Nat}(hi:i < ls.length)(H:List ba):ta H 258 (.pv (.lit 258 ((List.range ls.length).map (tK ls)))) (i:Int)=some (.pv (.rp (EL ls i) 0)):=by
 simp only[ta];rw[if_pos ⟨trivial,by unfold Ia;simp;omega⟩,Eaa,Faa,lad hi];rfl
theorem SF{ls:List (List (Int×Int))}{i k:Nat}(hk:k < 258)(H:List ba):pa H false 1 (.pv (.rp (EL ls i) k))=some (.pv (KK ls (i * 258+k))):=by
 have:(EL ls i)[k]? =some (KK ls (i * 258+k)):=by rw[EL,Faa,lad hk];rfl
 simp only[pa,Im,Baa,if_false,this];rfl
theorem R4{ls:List (List (Int×Int))}{i:Nat}(H:List ba):pa H false 1 (.pv (.rp (EL ls i) 0))=some (.pv (Sq (ls.getD i []))):=by
 rw[SF (by omega),KK,if_pos (by omega),show (i * 258+0) / 258=i by omega]
theorem TV{ls:List (List (Int×Int))}{i:Nat}(H:List ba):pa H false 1 (.pv (.rp (EL ls i) 257))=some (.pv (i64 (Na (ls.drop (i+1))))):=by
 rw[SF (by omega),KK,taa (by omega),if_pos (by omega),show (i * 258+257) / 258=i by omega]
theorem V3{ls:List (List (Int×Int))}{i y:Nat}(hy:y < 256)(H:List ba):pa H false 1 (.pv (.rp (EL ls i) (1+y)))=some (.pv (sx (ls.getD i []) y)):=by
 rw[SF (by omega),KK,taa (by omega),taa (by omega),show (i * 258+(1+y)) / 258=i by omega,show (i * 258+(1+y)) % 258 - 1=y by omega]
theorem zR{ls:List (List (Int×Int))}{i:Nat}(hi:i < ls.length):ls.getD i []=ls[i]:=by rw[Caa,caa hi];rfl
abbrev DO(C B:PV)(n i k:Int):Tr:=((((Tr.lf.set 22 (.pv (i64 i))).set 21 (.pv (i64 n))).set 6 (.pv (i64 k))).set 1 (.pv B)).set 0 (.pv (.rp [C] 0))
theorem mK{s:Ob}{B:PV}{bs:List Int}(hB:lk B bs)(Ba:Be s):
 (∀ k,Oi s bs=some k->Lf [Mj s.parts,B]=some (.mc [i64 k,.bool true]))/\(Oi s bs=none->Lf [Mj s.parts,B]=some (.mc [i64 0,.bool false])):=by
 have lB:=hB.Tb
 have h8:=Ba.hi
 have hpr:=Ba.prod.2
 have hia:=fun {i:Nat}(hi:i < s.parts.length)=>CJ (ls:=s.parts) hi;have O7:((List.range s.parts.length).map (tK s.parts)).length=s.parts.length:=by simp
 have hdg:Mj s.parts= .rp [.lit 258 ((List.range s.parts.length).map (tK s.parts))] 0:=rfl
 rw[hdg];generalize (List.range s.parts.length).map (tK s.parts)=C at *
 by_cases hlen:bs.length=s.parts.length
 ·have hrk:Oi s bs=Dh s.parts bs 0:=by unfold Oi;rw[if_pos hlen]
  have D7:qd (fun r=>∃ E,(r=(.ret,⟨E,[]⟩)/\E.get 4= .pv (i64 0)/\E.get 5= .pv (.bool false)/\Dh s.parts bs 0=none)\/(∃ k,r=(.exit 0,⟨E,[]⟩)/\E.get 6= .pv (i64 k)/\Dh s.parts bs 0=some k))
   (ab (ma (oa (Da (fun _=>none) 8) ve) (na 0 [0,1,6,21,22])) ua ⟨DO (.lit 258 C) B s.parts.length 0 0,[]⟩):=by
   refine wa (Gb (g:=ma (oa (Da (fun _=>none) 8) ve) (na 0 [0,1,6,21,22]))
    (fun i t=>∃ k,t=⟨DO (.lit 258 C) B s.parts.length i k,[]⟩/\0<=k/\k+Na (s.parts.drop i)<=Na s.parts/\Dh s.parts bs 0=Dh (s.parts.drop i) (bs.drop i) k)
    s.parts.length (by unfold ua;omega) _ ⟨0,rfl,by omega,by simp,rfl⟩ ?_ ?_) (fun r h=>h.2)
   ·rintro i t hi ⟨k,rfl,hk0,hk1,hs⟩
    have J8:=Ba.parts s.parts[i] (saa hi)
    have hib:i < bs.length:=by omega
    have a3:=hB.Pd hib
    have hbr:=hB.By bs[i] (saa hib)
    have hd:s.parts.drop i=s.parts[i]::s.parts.drop (i+1):=Waa hi
    have hdb:bs.drop i=bs[i]::bs.drop (i+1):=Waa hib
    have hrb:=gn (x:=bs[i]) (n:=0) J8.2
    rw[hd,Na] at hk1;rw[hd,hdb,Dh] at hs;have hle:=gp Ba.parts (i+1)
    have j8:=zf (ls:=s.parts.drop (i+1)) fun x hx=>Ba.parts x (bac hx)
    have K7:=Xg J8;have a1:=hia hi;have a4:=TV (ls:=s.parts) (i:=i);have a5:=V3 (ls:=s.parts) (i:=i) (y:=(bs[i]).toNat) (by omega);rw[zR hi] at a5;generalize EL s.parts i=R at *
    generalize s.parts[i]=l at *
    generalize bs[i]=x at *;have hwp:sx l x.toNat= .int .u16 (if (Md x 0 l).2 then (Md x 0 l).1+1 else 0):=by unfold sx;rw[vac hbr.1]
    rw[hwp] at a5;have e1:decide ((i:Int) < (s.parts.length:Int))=true:=Ea (by omega);have t2:=Za hi (by unfold maxLen;omega);have iae:(0<=x/\x < ((256:Nat):Int))=True:=Laa (by omega);obtain⟨⟨d,is⟩,Laf⟩:∃ r,r=Md x 0 l:=⟨_,rfl⟩;rw[<- Laf] at hs hrb a5;generalize hQ:LN _ _ i=Q;cases is with
    |false=>
     simp only[Baa,if_false] at hs a5;have t3:IntKind.i64.wrap 0=0:=rfl
     have z1:((0:Int)==0)=true:=rfl;simp -implicitDefEqProofs only[SX,sevalprocAttr,ve,e1,a1,a3,a5,NL,Y6,Wa,iae,t3,z1,DO];subst hQ;exact⟨_,.inl ⟨rfl,by simp[Tr.aa],by simp[Tr.aa],hs⟩⟩
    |true=>
     simp only[if_true] at hs a5;have s8:=hrb rfl;simp only at s8;have hmul:d * Na (s.parts.drop (i+1))+Na (s.parts.drop (i+1))<=Na (s.parts.drop (i+1)) * ib 0 l:=by have h1:(d+1) * Na (s.parts.drop (i+1))<=ib 0 l * Na (s.parts.drop (i+1)):=ead (by omega) (by omega);rw[Int.add_mul,Pae,jae (ib 0 l)] at h1;exact h1
     have hm0:0<=d * Na (s.parts.drop (i+1)):=Int.mul_nonneg (by omega) (by omega)
     have t3:IntKind.i64.wrap (d+1)=d+1:=Aa (by omega)
     have t6:IntKind.i64.wrap (d+1 - 1)=d:=by rw[show d+1 - 1=d by omega];exact Aa (by omega)
     have z1:((d+1:Int)==0)=false:=by simp;omega
     have t4:IntKind.i64.wrap (d * Na (s.parts.drop (i+1)))=d * Na (s.parts.drop (i+1)):=Aa (by omega)
     have t5:IntKind.i64.wrap (k+d * Na (s.parts.drop (i+1)))=k+d * Na (s.parts.drop (i+1)):=Aa (by omega)
     simp -implicitDefEqProofs only[SX,sevalprocAttr,ve,e1,t2,t3,t4,t5,t6,z1,a1,a3,a4,a5,NL,Y6,Wa,iae,na,Ca,AV.cut,za,DO];subst hQ;exact⟨_,rfl,by omega,by omega,hs⟩
   ·rintro t ⟨k,rfl,hk0,hk1,hs⟩
    rw[Hab,Vr] at hs;have e1:decide ((s.parts.length:Int) < (s.parts.length:Int))=false:=Ga (by omega);generalize hQ:(fun r:Ex×St=>r.1.stop=true/\_)=Q;simp -implicitDefEqProofs only[SX,sevalprocAttr,ve,e1,DO];subst hQ;exact⟨rfl,_,.inr ⟨k,rfl,by simp[Tr.aa],hs⟩⟩
  obtain⟨r,h1,E,h2⟩:=wc D7;have s9:ab (ma (oa (Da (fun _=>none) 8) ve) (na 0 [0,1,6,21,22])) ua ⟨((((Tr.lf.set 22 (.pv (.int .i64 0))).set 21 (.pv (i64 s.parts.length))).set 6 (.pv (.int .i64 0))).set 1 (.pv B)).set 0 (.pv (.rp [.lit 258 C] 0)),[]⟩=some r:=h1;have d1:((bs.length:Int) != (s.parts.length:Int))=false:=by rw[hlen];simp
  rw[hrk];rcases h2 with⟨rfl,h4,h5,hn⟩ | ⟨k,rfl,h6,hk⟩
  ·refine⟨fun k hk=>by (rw[hn] at hk;cases hk),fun _=> ?_⟩
   simp -implicitDefEqProofs only[Lf,SX,sevalprocAttr,Wh,Db,NL,Wa,lB,O7,d1,na,Ca,AV.cut,za,s9,h4,h5]
  ·refine⟨fun k' hk'=> ?_,fun hn=>by (rw[hk] at hn;cases hn)⟩
   obtain rfl:k=k':=Bad (hk.symm.trans hk');simp -implicitDefEqProofs only[Lf,SX,sevalprocAttr,Wh,Db,NL,Wa,lB,O7,d1,na,Ca,AV.cut,za,s9,h6]
 ·have d1:((bs.length:Int) != (s.parts.length:Int))=true:=by
   have:(bs.length:Int)≠(s.parts.length:Int):=by omega
   simp[this]
  have hrk:Oi s bs=none:=by unfold Oi;rw[taa hlen]
  refine⟨fun k hk=>by (rw[hrk] at hk;cases hk),fun _=> ?_⟩;simp -implicitDefEqProofs only[Lf,SX,sevalprocAttr,Wh,NL,Wa,lB,O7,d1]
theorem mZ{l:List (Int×Int)}(h:Hd l){k x:Int}(h0:0<=k)(h1:k < ib 0 l)(hx:EW k l=some x):(Nl l)[k.toNat]? =some x:=by
 obtain⟨y,q1,_,_,_,q5⟩:=Bz h.2 h0 h1
 rw[hx] at q1;injection q1 with q1;subst q1
 have hr:=q5 0;obtain⟨m,e1,e2⟩:=fx (n:=0) h.2 (by rw[hr])
 rw[hr] at e2;simp only at e2;rw[show k.toNat=m by omega];exact e1
abbrev YR(C:PV)(n i k:Int)(es:List PV):Tr:=((((Tr.lf.set 19 (.pv (i64 i))).set 18 (.pv (i64 n))).set 5 (.uq 0 false 1 es)).set 1 (.pv (i64 k))).set 0 (.pv (.rp [C] 0))
theorem IF{s:Ob}(Ba:Be s){k:Int}(h0:0<=k)(h1:k < Na s.parts):rl [Mj s.parts,i64 k]=some (.lit 1 ((Uh s.parts k).map (PV.int .u8))):=by
 have h8:=Ba.hi
 have hpr:=Ba.prod.2
 have hia:=fun {i:Nat}(hi:i < s.parts.length)=>CJ (ls:=s.parts) hi;have O7:((List.range s.parts.length).map (tK s.parts)).length=s.parts.length:=by simp
 have hdg:Mj s.parts= .rp [.lit 258 ((List.range s.parts.length).map (tK s.parts))] 0:=rfl
 rw[hdg];generalize (List.range s.parts.length).map (tK s.parts)=C at *
 have D7:qd (fun r=>∃ E H,r=(.exit 0,⟨E,H⟩)/\E.get 5= .uq 0 false 1 ((Uh s.parts k).map (PV.int .u8)))
  (ab (ma (oa (Da (fun _=>none) 8) Yf) (na 1 [0,1,5,18,19])) ua ⟨YR (.lit 258 C) s.parts.length 0 k [],[.tok 1 0 false]⟩):=by
  refine wa (Gb (fun i t=>∃ j es,t=⟨YR (.lit 258 C) s.parts.length i j (es.map (PV.int .u8)),[.tok 1 i false]⟩/\0<=j/\j < Na (s.parts.drop i)/\es.length=i/\Uh s.parts k=es++Uh (s.parts.drop i) j)
   s.parts.length (by unfold ua;omega) _ ⟨k,[],rfl,h0,h1,rfl,rfl⟩ ?_ ?_) (fun r h=>h.2)
  ·rintro i t hi ⟨j,es,rfl,hj0,hj1,I8,hs⟩
   have J8:=Ba.parts s.parts[i] (saa hi)
   have hd:s.parts.drop i=s.parts[i]::s.parts.drop (i+1):=Waa hi
   rw[hd,Na] at hj1;rw[hd,Uh] at hs;have j8:=zf (ls:=s.parts.drop (i+1)) fun x hx=>Ba.parts x (bac hx)
   have hle:=gp Ba.parts (i+1)
   have hdv:=mW hj0 j8 hj1;obtain⟨x,q3,q4,q5,_⟩:=Bz J8.2 hdv.1 hdv.2.1
   rw[q3,aad] at hs;have hm:=mZ J8 hdv.1 hdv.2.1 q3
   have hml:=getElem?_lt hm;have kad:=gp Ba.parts i
   rw[hd,Na] at kad;have t3:IntKind.i64.wrap (j.tdiv (Na (s.parts.drop (i+1))))=j.tdiv (Na (s.parts.drop (i+1))):=Aa (by
    have:=hdv.2.2.2.2
    have h5:j.tdiv (Na (s.parts.drop (i+1))) * 1<=j.tdiv (Na (s.parts.drop (i+1))) * Na (s.parts.drop (i+1)):=yac j8 hdv.1
    omega)
   have a1:=hia hi;have a4:=TV (ls:=s.parts) (i:=i);have a5:=R4 (ls:=s.parts) (i:=i);rw[zR hi] at a5;generalize EL s.parts i=R at *
   generalize s.parts[i]=l at *
   have a6:∀ H,ta H 1 (.pv (Sq l)) (j.tdiv (Na (s.parts.drop (i+1))))=some (.pv (.rp [.int .u8 x] 0)):=fun H=>by simp only[ta,Sq];rw[if_pos ⟨trivial,by unfold Ia;rw[paa];omega⟩,Faa,hm];rfl
   have e1:decide ((i:Int) < (s.parts.length:Int))=true:=Ea (by omega);have t2:=Za hi (by unfold maxLen;omega);have z0:(Na (s.parts.drop (i+1))=0)=False:=by simp;omega
   have e8:=Et (A:=[.tok 1 i false]) (id:=0) (n:=i) (h:= .uq) (nl:=false) (bytes:=1) (es:=es.map (PV.int .u8)) rfl (by simp[I8]) (by unfold eb;omega) (.int .u8 x);rw[nac] at e8;have hbm:(es++[x]).map (PV.int .u8)=es.map (PV.int .u8)++[.int .u8 x]:=by simp
   generalize hpq:Na (s.parts.drop (i+1))=pr at *;generalize hQ:LN _ _ i=QQ;simp -implicitDefEqProofs only[SP,WP,fa,sevalprocAttr,Yf,e1,t2,t3,z0,a1,a4,a5,a6,NL,Wa,e8,na,Ca,AV.cut,qa,za,YR];subst hQ;exact⟨_,es++[x],by rw[hbm],hdv.2.2.1,by rw[hpq];exact hdv.2.2.2.1,by simp[I8],by rw[hs];simp⟩
  ·rintro t ⟨j,es,rfl,hj0,hj1,I8,hs⟩
   rw[Hab,Uh,Kab] at hs;have e1:decide ((s.parts.length:Int) < (s.parts.length:Int))=false:=Ga (by omega);generalize hQ:(fun r:Ex×St=>r.1.stop=true/\_)=Q;simp -implicitDefEqProofs only[SX,sevalprocAttr,Yf,e1,YR];subst hQ;exact⟨rfl,_,_,rfl,by rw[hs];simp[Tr.aa]⟩
 obtain⟨r,g1,E,H,rfl,g6⟩:=wc D7;have g1':ab (ma (oa (Da (fun _=>none) 8) Yf) (na 1 [0,1,5,18,19])) ua ⟨((((Tr.lf.set 19 (.pv (.int .i64 0))).set 18 (.pv (i64 s.parts.length))).set 5 (.uq 0 false 1 [])).set 1 (.pv (i64 k))).set 0 (.pv (.rp [.lit 258 C] 0)),[.tok 1 0 false]⟩=some (.exit 0,⟨E,H⟩):=g1;have e4:eb s.parts.length 1:=by unfold eb;omega
 have e2:(0<=(s.parts.length:Int))=True:=by simp
 have e5:((0:Int)<=0)=True:=by simp
 simp -implicitDefEqProofs only[rl,SX,sevalprocAttr,ep,NL,Wa,O7,Laa e4,e2,e5,Db,na,Ca,AV.cut,qa,za,g1',g6,Ml,fresh,Tc,chunk]
def MT(es:List de):List PV:=(List.range 256).map fun b=> .int .i8 (Kl es b)
theorem YS{es:List de}{b:Nat}(hb:b < 256)(H:List ba):pa H false 1 (.pv (.rp (MT es) b))=some (.pv (.int .i8 (Kl es b))):=by
 have:(MT es)[b]? =some (.int .i8 (Kl es b)):=by rw[MT,Faa,lad hb];rfl
 simp only[pa,Im,Baa,if_false,this];rfl
theorem tX{NX:PV}{l:List (List de)}(h:Zh 256 NX (l.map Zo)){i:Nat}(hi:i < l.length)(H:List ba):ta H 256 (.pv NX) (i:Int)=some (.pv (.rp (MT l[i]) 0)):=by
 rw[h.lit (i:=i) (by simpa using hi)];simp only[ta];rw[if_pos ⟨trivial,by unfold Ia;rw[paa];omega⟩,Eaa,Faa,caa hi];rfl
theorem mB(H:List ba)(a b c d e f:PV):pa H false 1 (.pv (.rp [a,b,c,d,e,f] 2))=some (.pv c)/\pa H false 1 (.pv (.rp [a,b,c,d,e,f] 3))=some (.pv d)/\pa H false 1 (.pv (.rp [a,b,c,d,e,f] 4))=some (.pv e)/\pa H false 1 (.pv (.rp [a,b,c,d,e,f] 5))=some (.pv f)/\pa H false 1 (.pv (.rp [a,b,c,d,e,f] 0))=some (.pv a)/\pa H false 1 (.pv (.rp [a,b,c,d,e,f] 1))=some (.pv b)/\pa H true 1 (.pv (.rp [a,b,c,d,e,f] 0))=some (.pv (.agg [a])):=⟨rfl,rfl,rfl,rfl,rfl,rfl,rfl⟩
section
variable {T:PV}{ss:List Ob}{l:List (List de)}(hT:Uo T ss l)(ho:∀ e∈l,sj e)
include hT ho
theorem iJ{st b:Int}(hb:0<=b/\b<=255):mg [T,i64 st,u8 b]=some (.mc [i64 (Nd l st b).1,.bool (Nd l st b).2]):=by
 obtain⟨S',NX,DG,RW,rfl,_,hNX,_,_⟩:=hT.ex
 have hrp:=mB (a:=S') (b:=Kk l) (c:=NX) (d:=DG) (e:=RW) (f:=i64 (zj ss));have l2:=fun H=>(hrp H).1
 have ln:=hNX.len
 rw[paa] at ln;generalize ([S',Kk l,NX,DG,RW,i64 (zj ss)]:List PV)=R at *
 by_cases h0:st < 0
 ·have hs:Nd l st b=(0,false):=by unfold Nd;rw[if_pos h0]
  have d0:decide (st < 0)=true:=Ea h0;rw[hs];simp -implicitDefEqProofs only[mg,SX,sevalprocAttr,mh,Kq,d0]
 have d0:decide (st < 0)=false:=Ga h0;obtain⟨i,rfl⟩:∃ i:Nat,st=(i:Int):=⟨st.toNat,by omega⟩
 by_cases h1:i < l.length
 ·have d1:decide ((i:Int)>=(l.length:Int))=false:=Ga (by omega)
  have a1:=tX hNX h1;have hs:Nd l (i:Int) b=match Zg b l[i] with
   |some t=>(t,true)
   |none=>(0,false):=by unfold Nd;rw[taa h0,Eaa,caa h1] <;> rfl
  have heo:=(ho _ (saa h1)).By
  rw[hs];generalize l[i]=es at *;have G7:(0<=b/\b < ((256:Nat):Int))=True:=Laa (by omega);have l3:=fun H=>YS (es:=es) (b:=b.toNat) (by omega) H;have hg:Kl es b.toNat=(Zg b es).getD (-2):=by unfold Kl;rw[vac hb.1]
  rw[hg] at l3;have iai:∀ H (row:List PV),place H b.toNat (.pv (.rp row 0))=some (.pv (.rp row b.toNat)):=fun H row=>by rw[NL,eab]
  cases hse:Zg b es with
  |none=>rw[hse] at l3;have z:((-2:Int)== -2)=true:=rfl;have l3:∀ H,pa H false 1 (.pv (.rp (MT es) b.toNat))=some (.pv (.int .i8 (-2))):=l3;simp -implicitDefEqProofs only[mg,SX,sevalprocAttr,mh,Kq,d0,d1,NL,iai,l2,ln,a1,G7,l3,z]
  |some t=>
   rw[hse] at l3;have l3:∀ H,pa H false 1 (.pv (.rp (MT es) b.toNat))=some (.pv (.int .i8 t)):=l3;obtain⟨x,hx,_,_,hxt⟩:=Ty hse;have hr:=heo x hx;rw[hxt] at hr;have z:(t== -2)=false:=by simp;omega
   have t1:IntKind.i64.wrap t=t:=Aa (by omega)
   simp -implicitDefEqProofs only[mg,SX,sevalprocAttr,mh,Kq,d0,d1,NL,iai,l2,ln,a1,G7,l3,z,t1]
 ·have d1:decide ((i:Int)>=(l.length:Int))=true:=Ea (by omega)
  have hs:Nd l (i:Int) b=(0,false):=by unfold Nd;rw[taa h0,Eaa,Yaa (by omega)]
  rw[hs];simp -implicitDefEqProofs only[mg,SX,sevalprocAttr,mh,Kq,d0,d1,NL,l2,ln]
end
def QK(a b:Int):Int:=if a < b then -1 else if a > b then 1 else 0
theorem AN(a b:Int):Ej [i64 a,i64 b]=some (i64 (QK a b)):=by
 have hn:∀ x:Int,Om [i64 x]=some (.bool false):=fun x=>by
  have z:(x != x)=false:=by simp
  simp -implicitDefEqProofs only[Om,SX,sevalprocAttr,Dx,z]
 unfold QK
 by_cases h1:a < b
 ·have d1:decide (a < b)=true:=Ea h1
  rw[if_pos h1];simp -implicitDefEqProofs only[Ej,SX,sevalprocAttr,Il,hn,d1]
 ·have d1:decide (a < b)=false:=Ga h1
  rw[taa h1]
  by_cases h2:a > b
  ·have d2:decide (a > b)=true:=Ea h2
   rw[if_pos h2];simp -implicitDefEqProofs only[Ej,SX,sevalprocAttr,Il,hn,d1,d2]
  ·have d2:decide (a > b)=false:=Ga h2
   rw[taa h2];simp -implicitDefEqProofs only[Ej,SX,sevalprocAttr,Il,hn,d1,d2]
theorem gM(call:Sa)(a b c u:Int)(H:List ba):ef call Pj [.pv (.agg [i64 a,i64 b,i64 c]),.pv (i64 u)] H=some (.pv (i64 (QK a u)),H):=by
 have hc:=AN a u;have l0:∀ H,pa H false 1 (.pv (.rp [i64 a,i64 b,i64 c] 0))=some (.pv (i64 a)):=fun H=>rfl;have l1:∀ H,place H 0 (.pv (.rp [i64 a,i64 b,i64 c] 0))=some (.pv (.rp [i64 a,i64 b,i64 c] 0)):=fun H=>rfl;simp -implicitDefEqProofs only[SX,sevalprocAttr,Pj,l0,l1,hc]
def r0(r:List Int):Int:=r.getD 0 0
def r1(r:List Int):Int:=r.getD 1 0
def r2(r:List Int):Int:=r.getD 2 0
theorem H6{r:List Int}(h:r.length=3):r=[r0 r,r1 r,r2 r]:=by
 match r,h with
 | [a,b,c],_=>rfl
section
variable {RW:PV}{D:List (List Int)}(hR:Zh 3 RW (D.map GK))(hD:∀ r∈D,r.length=3)
include hR hD
theorem BB{i:Nat}(hi:i < D.length)(H:List ba):ta H 3 (.pv RW) (i:Int)=some (.pv (.rp [i64 (r0 D[i]),i64 (r1 D[i]),i64 (r2 D[i])] 0)):=by
 rw[hR.lit (i:=i) (by simpa using hi)];simp only[ta];have h3:=H6 (hD _ (saa hi));rw[if_pos ⟨trivial,by unfold Ia;rw[paa];omega⟩,Eaa,Faa,caa hi,Kaa,Kaa]
 congr 4
 show (GK D[i]).cells=_
 unfold GK;generalize D[i]=r at *
 match r,h3 with
 |r,h3=>rw[h3];rfl
variable (hs:∀ i j (h:i < j) (hj:j < D.length),r0 D[i]<=r0 D[j])(hlen:D.length<=32)
include hs hlen
theorem M4{H:List ba}(hH:Vd H)(u:Int):∃ i:Nat,i<=D.length/\(∀ k (hk:k < D.length),k < i->r0 D[k] < u)/\(∀ k (hk:k < D.length),i<=k->u<=r0 D[k])/\
 ef (Da Se 7) gb [.pv RW,.pv (i64 u),.Ol 41 []] H=some (.pv (.mc [i64 i,.bool (if h:i < D.length then decide (r0 D[i]=u) else false)]),H):=by
 have lR:=hR.len
 rw[paa] at lR;have c41:Se 41=some Pj:=rfl;have r3:∀ H (x y z:PV),pa H true 3 (.pv (.rp [x,y,z] 0))=some (.pv (.agg [x,y,z])):=fun H x y z=>rfl;have O7:∀ n,AV.cut n deep (.Ol 41 [])=some (.Ol 41 []):=fun n=>rfl
 have D7:=fun (E:Tr)(h0:E.get 0= .pv RW)(h1:E.get 1= .pv (i64 u))(h2:E.get 2= .Ol 41 [])(h8:E.get 8= .pv (i64 D.length))(h9:E.get 9= .pv (i64 0))(h10:E.get 10= .pv (i64 D.length))=>
  bK (call:=Da Se 7) (b:=Ab) (live:=[0,1,2,8,9,10]) (s:=⟨E,H⟩)
   (Q:=fun r=>∃ E' i,r=(.exit 0,⟨E',H⟩)/\Xe [0,1,2,8] E E'/\E'.get 9= .pv (i64 (i:Nat))/\i<=D.length/\(∀ k (hk:k < D.length),k < i->r0 D[k] < u)/\(∀ k (hk:k < D.length),i<=k->u<=r0 D[k]))
   (fun m t=>Xe [0,1,2,8] E t.env/\t.H=H/\∃ i j:Nat,t.env.get 9= .pv (i64 i)/\t.env.get 10= .pv (i64 j)/\i<=j/\j<=D.length/\m=j - i/\(∀ k (hk:k < D.length),k < i->r0 D[k] < u)/\(∀ k (hk:k < D.length),j<=k->u<=r0 D[k]))
   D.length (by unfold ua;omega)
   (Rh.all rfl (hH _ (waa _)) (Fit.cons h0 Qa (.cons h1 Qa (.cons h2 (O7 _) (.cons h8 Qa (.cons h9 Qa (.cons h10 Qa (.nil _ _))))))) fun E' hE=>⟨Xe.sub hE rfl,rfl,0,D.length,by rw[hE 9 (by simp),h9];rfl,by rw[hE 10 (by simp),h10],by omega,by omega,by omega,fun k _ h=>by omega,fun k hk h=>by omega⟩)
   (by
    rintro m ⟨E1,H1⟩ ⟨k1,k2,i,j,k9,B9,hij,hj,hm,ha,hb⟩;simp only at k1 k2 k9 B9;replace k2:=k2.symm
    subst k2
    by_cases hlt:i < j
    ·have e1:decide ((i:Int) < (j:Int))=true:=Ea (by omega)
     have g0:=(k1 0 (by simp)).trans h0
     have g1:=(k1 1 (by simp)).trans h1
     have g2:=(k1 2 (by simp)).trans h2
     obtain⟨h,hh⟩:∃ h,h=(i+j) / 2:=⟨_,rfl⟩;have hhD:h < D.length:=by omega
     have a1:=BB hR hD hhD;have hc:=gM (Da Se 6) (r0 D[h]) (r1 D[h]) (r2 D[h]) u H;have w1:IntKind.i64.wrap ((i:Int)+(j:Int))=(i:Int)+j:=Aa (by omega)
     have w2:IntKind.u64.wrap ((i:Int)+(j:Int))=(i:Int)+j:=by unfold IntKind.wrap;simp[IntKind.signed,IntKind.bits];omega
     have w3:((i:Int)+(j:Int)).fdiv (2 ^ min 1 IntKind.u64.bits)=(h:Int):=by
      show ((i:Int)+(j:Int)).fdiv 2=_
      rw[Int.fdiv_eq_ediv_of_nonneg _ (by omega)];omega
     have w4:IntKind.i64.wrap (h:Int)=(h:Int):=Aa (by omega)
     have w5:IntKind.i64.wrap ((h:Int)+1)=((h+1:Nat):Int):=sg (by omega)
     have z0:((1:Int) < 0)=False:=by simp
     generalize hQ:RQ _ _ _ _=Q
     by_cases hcu:r0 D[h] < u
     ·have hcm:QK (r0 D[h]) u= -1:=by unfold QK;rw[if_pos hcu]
      have z1:decide ((-1:Int) < 0)=true:=rfl;rw[hcm] at hc;simp -implicitDefEqProofs only[SX,sevalprocAttr,Ab,k9,B9,e1,g0,g1,g2,a1,r3,w1,w2,w3,w4,w5,z0,c41,hc,z1];subst hQ;rw[Yn];generalize U7:(Tr.set _ 9 _:Tr)=E2;have kk:Xe [0,1,2,8] E E2:=by
       rw[<- U7]
       repeat refine Xe.set ?_ rfl
       exact k1
      have z9:E2.get 9= .pv (i64 (h+1:Nat)):=by rw[<- U7];simp[Tr.aa]
      have z10:E2.get 10= .pv (i64 j):=by rw[<- U7];simp[Tr.aa,B9]
      exact Rh.all rfl (hH _ (waa _)) (Fit.sub (.cons z9 Qa (.cons z10 Qa (Fit.ie (l:=[0,1,2,8]) (.cons h0 Qa (.cons h1 Qa (.cons h2 (O7 _) (.cons h8 Qa (.nil _ _))))) kk))) rfl) fun E' hE=>⟨j - (h+1),by omega,kk.trans (Xe.sub hE rfl),rfl,h+1,j,by rw[hE 9 (by simp),z9],by rw[hE 10 (by simp),z10],by omega,hj,rfl,fun k hk hkh=>by
       rcases Xaa k h with h5 | h5
       ·exact Int.lt_of_le_of_lt (hs k h h5 hhD) hcu
       ·obtain rfl:k=h:=by omega
        exact hcu,hb⟩
     ·have z1:decide (QK (r0 D[h]) u < 0)=false:=Ga (by unfold QK;rw[taa hcu];split <;> omega)
      simp -implicitDefEqProofs only[SX,sevalprocAttr,Ab,k9,B9,e1,g0,g1,g2,a1,r3,w1,w2,w3,w4,w5,z0,c41,hc,z1];subst hQ;rw[Yn];generalize U7:(Tr.set _ 10 _:Tr)=E2;have kk:Xe [0,1,2,8] E E2:=by
       rw[<- U7]
       repeat refine Xe.set ?_ rfl
       exact k1
      have z9:E2.get 9= .pv (i64 i):=by rw[<- U7];simp[Tr.aa,k9]
      have z10:E2.get 10= .pv (i64 h):=by rw[<- U7];simp[Tr.aa]
      exact Rh.all rfl (hH _ (waa _)) (Fit.sub (.cons z9 Qa (.cons z10 Qa (Fit.ie (l:=[0,1,2,8]) (.cons h0 Qa (.cons h1 Qa (.cons h2 (O7 _) (.cons h8 Qa (.nil _ _))))) kk))) rfl) fun E' hE=>⟨h - i,by omega,kk.trans (Xe.sub hE rfl),rfl,i,h,by rw[hE 9 (by simp),z9],by rw[hE 10 (by simp),z10],by omega,by omega,rfl,ha,fun k hk hkh=>by
       rcases Xaa h k with h5 | h5
       ·exact Int.le_trans (Int.not_lt.1 hcu) (hs h k h5 hk)
       ·obtain rfl:k=h:=by omega
        omega⟩
    ·obtain rfl:i=j:=by omega
     have e1:decide ((i:Int) < (i:Int))=false:=Ga (by omega);generalize hQ:RQ _ _ _ _=Q;simp -implicitDefEqProofs only[SX,sevalprocAttr,Ab,k9,B9,e1];subst hQ;exact⟨_,i,rfl,by repeat refine Xe.set ?_ rfl
                      exact k1,by simp[Tr.aa,k9],hj,ha,hb⟩)
 have key:qd (fun r=>∃ i:Nat,i<=D.length/\(∀ k (hk:k < D.length),k < i->r0 D[k] < u)/\(∀ k (hk:k < D.length),i<=k->u<=r0 D[k])/\r=(.pv (.mc [i64 i,.bool (if h:i < D.length then decide (r0 D[i]=u) else false)]),H)) (ef (Da Se 7) gb [.pv RW,.pv (i64 u),.Ol 41 []] H):=by
  generalize hQ:(fun r:AV×List ba=>∃ i:Nat,_)=Q;simp -implicitDefEqProofs only[SX,sevalprocAttr,gb,lR];generalize U7:(Tr.set _ 10 _:Tr)=E;refine wa (D7 E (by rw[<- U7];simp[Tr.aa]) (by rw[<- U7];simp[Tr.aa]) (by rw[<- U7];simp[Tr.aa]) (by rw[<- U7];simp[Tr.aa]) (by rw[<- U7];simp[Tr.aa]) (by rw[<- U7];simp[Tr.aa])) ?_;have h0:E.get 0= .pv RW:=by rw[<- U7];simp[Tr.aa]
  have h1:E.get 1= .pv (i64 u):=by rw[<- U7];simp[Tr.aa]
  have h2:E.get 2= .Ol 41 []:=by rw[<- U7];simp[Tr.aa]
  have h8:E.get 8= .pv (i64 D.length):=by rw[<- U7];simp[Tr.aa]
  rintro r ⟨_,E',i,rfl,k1,k9,hi,ha,hb⟩;have g0:=(k1 0 (by simp)).trans h0
  have g1:=(k1 1 (by simp)).trans h1
  have g2:=(k1 2 (by simp)).trans h2
  have g8:=(k1 8 (by simp)).trans h8
  by_cases hlt:i < D.length
  ·have e1:decide ((i:Int) < (D.length:Int))=true:=Ea (by omega)
   have a1:=BB hR hD hlt;have hc:=gM (Da Se 6) (r0 D[i]) (r1 D[i]) (r2 D[i]) u H;have hge:=hb i hlt (waa _);have z:(QK (r0 D[i]) u==0)=decide (r0 D[i]=u):=by
    unfold QK;rw[taa (by omega)]
    by_cases h5:r0 D[i] > u
    ·rw[if_pos h5,Ga (by omega)];rfl
    ·rw[taa h5,Ea (by omega)];rfl
   simp -implicitDefEqProofs only[SX,sevalprocAttr,k9,g0,g1,g2,g8,e1,a1,r3,c41,hc,z];subst hQ;exact⟨i,hi,ha,hb,by rw[dif_pos hlt]⟩
  ·have e1:decide ((i:Int) < (D.length:Int))=false:=Ga (by omega)
   simp -implicitDefEqProofs only[SX,sevalprocAttr,k9,g0,g1,g2,g8,e1];subst hQ;exact⟨i,hi,ha,hb,by rw[dif_neg hlt]⟩
 obtain⟨r,h1,i,h2,h3,h4,rfl⟩:=wc key;exact⟨i,h2,h3,h4,h1⟩
end
theorem tU{ss:List Ob}{r:List Int}(h:r∈Wj ss):∃ j,∃ hj:j < ss.length,r=Qx ss[j] j:=by
 have:=(Hs ss).mem_iff.1 h
 unfold yj at this;obtain⟨j,hj,rfl⟩:=oab.1 this
 have hj:=Pac.1 hj
 exact⟨j,hj,by rw[Caa,caa hj];rfl⟩
theorem pU{ss:List Ob}{j:Nat}(hj:j < ss.length):Qx ss[j] j∈Wj ss:=by
 refine (Hs ss).mem_iff.2 ?_
 unfold yj;refine oab.2 ⟨j,Pac.2 hj,?_⟩
 rw[Caa,caa hj];rfl
theorem HL(ss:List Ob)(i j:Nat)(h:i < j)(hj:j < (Wj ss).length):r0 (Wj ss)[i]<=r0 (Wj ss)[j]:=by
 obtain⟨h1,h2,h3⟩:=SB 3 0 (yj ss ss.length).toArray
 have hj':j < (yj ss ss.length).toArray.size:=by rw[<- h1];simpa[Wj] using hj
 have h4:=h3 i j h hj';have key:∀ k (hk:k < (Wj ss).length),Zx 3 0 (qq 3 0 (yj ss ss.length).toArray)[k]! =r0 (Wj ss)[k]:=by
  intro k hk;have hk':k < (qq 3 0 (yj ss ss.length).toArray).size:=by simpa[Wj] using hk
  rw[getElem!_pos _ k hk'];have e:(qq 3 0 (yj ss ss.length).toArray)[k]=(Wj ss)[k]:=by simp[Wj]
  have h3:=xD (saa hk);rw[e];generalize (Wj ss)[k]=r at *;unfold Zx r0;rw[if_pos h3]
 rw[key i (by omega),key j hj] at h4;omega
theorem HM(ss:List Ob):(Wj ss).Nodup:=by
 refine (Hs ss).nodup_iff.2 ?_
 unfold yj List.Nodup
 rw[List.pairwise_map];refine List.Pairwise.imp ?_ (List.nodup_range (n:=ss.length))
 intro i j h e;unfold Qx at e;injection e with _ e
 injection e with _ e
 injection e with e _
 omega
def has(s:Ob)(u:Int):Prop:=s.first<=u/\u < s.first+Na s.parts
theorem sK{ss:List Ob}(Ba:Xb ss){i j:Nat}(hi:i < ss.length)(hj:j < ss.length){u:Int}(h1:has ss[i] u)(h2:has ss[j] u):i=j:=by
 have e8:=Ba.apart
 rw[fad] at e8;have e1:=(Ba.ft _ (saa hi)).zi
 have e2:=(Ba.ft _ (saa hj)).zi
 unfold has at h1 h2;rcases Nat.lt_trichotomy i j with h | h | h
 ·exact absurd (e8 i j hi hj h u) (fun hn=>hn ⟨by omega,by omega⟩)
 ·exact h
 ·exact absurd (e8 j i hj hi h u) (fun hn=>hn ⟨by omega,by omega⟩)
section
variable {T:PV}{ss:List Ob}{l:List (List de)}(hT:Uo T ss l)(Ba:Xb ss)
include hT Ba
theorem CW(u:Int):(∃ j,∃ hj:j < ss.length,has ss[j] u/\Pe [T,i64 u]=some (.mc [.agg [i64 ss[j].first,i64 (ss[j].first+Na ss[j].parts - 1),i64 j],.bool true]))\/
 ((∀ s∈ss,¬has s u)/\Pe [T,i64 u]=some (.mc [.agg [i64 0,i64 0,i64 0],.bool false])):=by
 obtain⟨S',NX,DG,RW,rfl,_,_,_,hRW⟩:=hT.ex
 have hrp:=mB (a:=S') (b:=Kk l) (c:=NX) (d:=DG) (e:=RW) (f:=i64 (zj ss));have l4:=fun H=>(hrp H).2.2.1
 generalize ([S',Kk l,NX,DG,RW,i64 (zj ss)]:List PV)=R at *;obtain⟨D,hRW,hDr,hDm,hDh,hDl,hDs,hnd⟩:∃ D:List (List Int),Zh 3 RW (D.map GK)/\(∀ r∈D,r.length=3)/\(∀ r∈D,∃ j,∃ hj:j < ss.length,r=Qx ss[j] j)/\(∀ j (hj:j < ss.length),Qx ss[j] j∈D)/\D.length=ss.length/\(∀ i j (h:i < j) (hj:j < D.length),r0 D[i]<=r0 D[j])/\D.Nodup:=
  ⟨Wj ss,hRW,fun r hr=>xD hr,fun r hr=>tU hr,fun j hj=>pU hj,rJ ss,HL ss,HM ss⟩
 have h32:=Ba.len
 have hg:Vd [ba.box [.pv (i64 0),.pv (i64 0),.pv (i64 0)]]:=fun n _ o ho=>by rw[Sab] at ho;subst ho;exact js n [i64 0,i64 0,i64 0]
 obtain⟨i,hi,ha,hb,L7⟩:=M4 hRW hDr hDs (by omega) hg u;have c40:Se 40=some gb:=rfl;have b0:∀ a b c d e f,Ha [ba.box [.pv a,.pv b,.pv c]] 3 (.ptr 0 0) (.pv (.agg [.int .i64 d,.int .i64 e,.int .i64 f]))=some [.box [.pv (i64 d),.pv (i64 e),.pv (i64 f)]]:=fun a b c d e f=>rfl;have ld:∀ a b c,pa [ba.box [.pv a,.pv b,.pv c]] true 3 (.ptr 0 0)=some (.pv (.agg [a,b,c])):=fun a b c=>rfl;have r3:∀ H (x y z:PV),pa H true 3 (.pv (.rp [x,y,z] 0))=some (.pv (.agg [x,y,z])):=fun H x y z=>rfl;have r31:∀ H (x y z:PV),pa H false 1 (.pv (.rp [x,y,z] 1))=some (.pv y):=fun H x y z=>rfl;have fin:∀ k (hk:k < D.length),(∀ m (hm:m < D.length),k < m->u < r0 D[m])->r0 D[k]<=u->
  ((u<=r1 D[k]->∃ j,∃ hj:j < ss.length,has ss[j] u/\PV.agg [i64 (r0 D[k]),i64 (r1 D[k]),i64 (r2 D[k])]= .agg [i64 ss[j].first,i64 (ss[j].first+Na ss[j].parts - 1),i64 j])/\(¬ u<=r1 D[k]->∀ s∈ss,¬has s u)):=by
  intro k hk hgt hle;obtain⟨j',hj',N8⟩:=hDm _ (saa hk);constructor
  ·intro h1
   rw[N8] at h1 hle ⊢;refine⟨j',hj',⟨hle,?_⟩,rfl⟩;have:u<=ss[j'].first+Na ss[j'].parts - 1:=h1
   omega
  ·intro h1 s hs hh
   obtain⟨j,hj,rfl⟩:=Eab hs;obtain⟨m,hm,hmr⟩:=Eab (hDh j hj);have hh':=hh;unfold has at hh';have hp:=zf (Ba.ft _ (saa hj')).parts
   rcases Xaa k m with h | h
   ·have:=hgt m hm h
    rw[hmr] at this;have:u < ss[j].first:=this
    omega
   ·have h3:r0 D[m]<=r0 D[k]:=by
     rcases Xaa m k with h5 | h5
     ·exact hDs m k h5 hk
     ·have:m=k:=by omega
      subst this;exact Kac _
    rw[hmr] at h3;rw[N8] at h3 hle h1;have h3:ss[j].first<=ss[j'].first:=h3
    have hle:ss[j'].first<=u:=hle
    have e:j=j':=sK Ba hj hj' (u:=ss[j'].first) ⟨h3,by omega⟩ ⟨Kac _,by omega⟩;subst e;have:¬u<=ss[j].first+Na ss[j].parts - 1:=h1
    omega
 have step:∀ (k:Nat)(hk:k < D.length),(∀ q (hq:q < D.length),k < q->u < r0 D[q])->r0 D[k]<=u->∀ R0:PV,
  (u<=r1 D[k]->R0= .mc [.agg [i64 (r0 D[k]),i64 (r1 D[k]),i64 (r2 D[k])],.bool true])->(¬ u<=r1 D[k]->R0= .mc [.agg [i64 0,i64 0,i64 0],.bool false])->
  (∃ j,∃ hj:j < ss.length,has ss[j] u/\R0= .mc [.agg [i64 ss[j].first,i64 (ss[j].first+Na ss[j].parts - 1),i64 j],.bool true])\/((∀ s∈ss,¬has s u)/\R0= .mc [.agg [i64 0,i64 0,i64 0],.bool false]):=by
  intro k hk h1 h2 R0 h3 h4;obtain⟨f1,f2⟩:=fin k hk h1 h2
  by_cases hc:u<=r1 D[k]
  ·obtain⟨j,hj,g1,g2⟩:=f1 hc
   exact .inl ⟨j,hj,g1,by rw[h3 hc,g2]⟩
  ·exact .inr ⟨f2 hc,h4 hc⟩
 suffices key:∃ R0,Pe [.rp R 0,i64 u]=some R0/\((∃ j,∃ hj:j < ss.length,has ss[j] u/\R0= .mc [.agg [i64 ss[j].first,i64 (ss[j].first+Na ss[j].parts - 1),i64 j],.bool true])\/((∀ s∈ss,¬has s u)/\R0= .mc [.agg [i64 0,i64 0,i64 0],.bool false])) by
  obtain⟨R0,k1,⟨j,hj,k2,rfl⟩ | ⟨k2,rfl⟩⟩:=key
  ·exact .inl ⟨j,hj,k2,k1⟩
  ·exact .inr ⟨k2,k1⟩
 by_cases his:∃ h:i < D.length,r0 D[i]=u
 ·obtain⟨h,he⟩:=his
  rw[dif_pos h,Ea he] at L7;have hgt:∀ q (hq:q < D.length),i < q->u < r0 D[q]:=by
   intro q hq hiq;have h3:=hDs i q hiq hq;rcases Int.lt_or_le u (r0 D[q]) with h5 | h5
   ·exact h5
   ·exfalso
    obtain⟨j,hj,hr⟩:=hDm _ (saa h);obtain⟨j',hj',N8⟩:=hDm _ (saa hq);have hp:=zf (Ba.ft _ (saa hj)).parts
    have hp':=zf (Ba.ft _ (saa hj')).parts
    have e1:ss[j].first=u:=by rw[hr] at he;exact he
    have e2:ss[j'].first<=u:=by rw[N8] at h5;exact h5
    have e3:u<=ss[j'].first:=by rw[N8,he] at h3;exact h3
    have:j=j':=sK Ba hj hj' (u:=u) ⟨by omega,by omega⟩ ⟨by omega,by omega⟩;subst this;have:=(List.getElem_inj hnd).1 (hr.trans N8.symm)
    omega
  have a1:=BB hRW hDr h;have z1:decide ((i:Int) < 0)=false:=Ga (by omega);refine⟨_,?_,step i h hgt (by omega) (if u<=r1 D[i] then .mc [.agg [i64 (r0 D[i]),i64 (r1 D[i]),i64 (r2 D[i])],.bool true] else .mc [.agg [i64 0,i64 0,i64 0],.bool false]) (fun h=>by rw[if_pos h]) (fun h=>by rw[taa h])⟩
  by_cases hc:u<=r1 D[i]
  ·have z2:decide (u > r1 D[i])=false:=Ga (by omega)
   rw[if_pos hc];simp -implicitDefEqProofs only[Pe,SX,sevalprocAttr,Jh,Kq,NL,l4,c40,L7,z1,a1,z2,r31,r3,b0,ld]
  ·have z2:decide (u > r1 D[i])=true:=Ea (by omega)
   rw[taa hc];simp -implicitDefEqProofs only[Pe,SX,sevalprocAttr,Jh,Kq,NL,l4,c40,L7,z1,a1,z2,r31,r3,b0,ld]
 ·have hf:(if h:i < D.length then decide (r0 D[i]=u) else false)=false:=by
   by_cases h:i < D.length
   ·rw[dif_pos h];exact Ga fun e=>his ⟨h,e⟩
   ·rw[dif_neg h]
  rw[hf] at L7;have w1:IntKind.i64.wrap ((i:Int) - 1)=(i:Int) - 1:=Aa (by omega)
  cases i with
  |zero=>
   have z1:decide ((-1:Int) < 0)=true:=rfl;have w1:IntKind.i64.wrap (-1)= -1:=Aa (by decide)
   have L7:ef (Da Se 7) gb [.pv RW,.pv (i64 u),.Ol 41 []] [.box [.pv (i64 0),.pv (i64 0),.pv (i64 0)]]=some (.pv (.mc [i64 0,.bool false]),[.box [.pv (i64 0),.pv (i64 0),.pv (i64 0)]]):=L7;refine⟨.mc [.agg [i64 0,i64 0,i64 0],.bool false],?_,.inr ⟨fun s hs hh=> ?_,rfl⟩⟩
   ·simp -implicitDefEqProofs only[Pe,SX,sevalprocAttr,Jh,Kq,NL,l4,c40,L7,w1,z1,b0,ld]
   ·obtain⟨j,hj,rfl⟩:=Eab hs
    obtain⟨m,hm,hmr⟩:=Eab (hDh j hj);have h6:=hb m hm (Iac _);have I7:r0 D[m]≠u:=by
     intro e;have h7:=hb 0 (by omega) (waa _);have h8:r0 D[0]<=r0 D[m]:=by
      rcases Zac m with h9 | h9
      ·subst h9;exact Kac _
      ·exact hDs 0 m h9 hm
     exact his ⟨by omega,by omega⟩
    rw[hmr] at h6 I7;have h6:u<=ss[j].first:=h6
    have I7:ss[j].first≠u:=I7
    unfold has at hh;omega
  |succ i=>
   have h:i < D.length:=by omega
   have w2:((i+1:Nat):Int) - 1=(i:Int):=by omega
   rw[w2] at w1;have z1:decide ((i:Int) < 0)=false:=Ga (by omega);have a1:=BB hRW hDr h;have hlt:=ha i h (by omega);have hgt:∀ q (hq:q < D.length),i < q->u < r0 D[q]:=by
    intro q hq hiq;have h6:=hb q hq (by omega);rcases Int.lt_or_le u (r0 D[q]) with h5 | h5
    ·exact h5
    ·exfalso
     have h7:=hb (i+1) (by omega) (waa _);have h8:r0 D[i+1]<=r0 D[q]:=by
      rcases Xaa (i+1) q with h9 | h9
      ·exact hDs (i+1) q h9 hq
      ·have:i+1=q:=by omega
       subst this;exact Kac _
     exact his ⟨by omega,by omega⟩
   refine⟨_,?_,step i h hgt (by omega) (if u<=r1 D[i] then .mc [.agg [i64 (r0 D[i]),i64 (r1 D[i]),i64 (r2 D[i])],.bool true] else .mc [.agg [i64 0,i64 0,i64 0],.bool false]) (fun h=>by rw[if_pos h]) (fun h=>by rw[taa h])⟩
   by_cases hc:u<=r1 D[i]
   ·have z2:decide (u > r1 D[i])=false:=Ga (by omega)
    rw[if_pos hc];simp -implicitDefEqProofs only[Pe,SX,sevalprocAttr,Jh,Kq,NL,l4,c40,L7,w1,w2,z1,a1,z2,r31,r3,b0,ld]
   ·have z2:decide (u > r1 D[i])=true:=Ea (by omega)
    rw[taa hc];simp -implicitDefEqProofs only[Pe,SX,sevalprocAttr,Jh,Kq,NL,l4,c40,L7,w1,w2,z1,a1,z2,r31,r3,b0,ld]
end
def GY(u:Int):List Ob->Option (List Int)
 | []=>none
 |s::r=>if s.first<=u/\u < s.first+Na s.parts then some (Uh s.parts (u - s.first)) else GY u r
theorem IN{u:Int}:∀ {ss:List Ob}{b:List Int},(∀ s∈ss,Be s)->GY u ss=some b->∃ s∈ss,s.first<=u/\u < s.first+Na s.parts/\b=Uh s.parts (u - s.first)/\Oi s b=some (u - s.first)/\(∀ x∈b,0<=x/\x<=255)/\b≠[]
 |s::r,b,h,he=>by
  rw[GY] at he
  split at he
  ·next hc=>
   injection he with he;subst he
   have hs:=h s (by simp);obtain⟨h1,h2,h3⟩:=cy s.parts (u - s.first) 0 hs.parts (by omega) (by omega)
   refine⟨s,by simp,hc.1,hc.2,rfl,?_,h3,?_⟩
   ·unfold Oi;rw[if_pos h2,h1,Int.zero_add]
   ·intro h4;rw[h4] at h2;have:=hs.lo;simp at h2;omega
  ·obtain⟨s',h1,h2⟩:=IN (fun x hx=>h x (by simp[hx])) he
   exact⟨s',by simp[h1],h2⟩
theorem QR{u:Int}:∀ {ss:List Ob},(∀ s∈ss,¬has s u)->GY u ss=none
 | [],_=>rfl
 |s::ss,h=>by have h1:=h s (by simp);unfold has at h1;rw[GY,taa h1];exact QR fun x hx=>h x (by simp[hx])
theorem M3{u:Int}{ss:List Ob}(Ba:Xb ss){j:Nat}(hj:j < ss.length)(h:has ss[j] u):GY u ss=some (Uh ss[j].parts (u - ss[j].first)):=by
 have key:∀ (l:List Ob)(j:Nat)(hj:j < l.length),(∀ i (hi:i < l.length),has l[i] u->i=j)->has l[j] u->GY u l=some (Uh l[j].parts (u - l[j].first)):=by
  intro l
  induction l with
  |nil=>intro j hj;simp at hj
  |cons s l ih=>
   intro j hj R7 hh;rw[GY];cases j with
   |zero=>rw[if_pos (show s.first<=u/\u < s.first+Na s.parts from hh)];rfl
   |succ j=>rw[taa (fun hc:s.first<=u/\u < s.first+Na s.parts=>by have:=R7 0 (by simp) hc;omega)];exact ih j (by simpa using hj) (fun i hi hx=>by have:=R7 (i+1) (by simpa using hi) hx;omega) hh
 exact key ss j hj (fun i hi hx=>sK Ba hi hj hx h) h
section
variable {T:PV}{ss:List Ob}{l:List (List de)}(hT:Uo T ss l)(Ba:Xb ss)
include hT Ba
theorem oX(u:Int):Bj [T,i64 u]=some (match GY u ss with | some b=> .mc [.lit 1 (b.map u8),.bool true] | none=> .mc [.ga,.bool false]):=by
 have J7:=CW hT Ba u;obtain⟨S',NX,DG,RW,rfl,_,_,hDG,_⟩:=hT.ex
 have hrp:=mB (a:=S') (b:=Kk l) (c:=NX) (d:=DG) (e:=RW) (f:=i64 (zj ss));have l3:=fun H=>(hrp H).2.1
 generalize ([S',Kk l,NX,DG,RW,i64 (zj ss)]:List PV)=R at *;have st:∀ a b c,Ha [ba.box [.pv (i64 0),.pv (i64 0),.pv (i64 0)]] 3 (.ptr 0 0) (.pv (.agg [i64 a,i64 b,i64 c]))=some [.box [.pv (i64 a),.pv (i64 b),.pv (i64 c)]]:=fun a b c=>rfl;rcases J7 with⟨j,hj,hh,hr⟩ | ⟨hn,hr⟩
 ·rw[M3 Ba hj hh]
  have hs:=Ba.ft _ (saa hj)
  have hh':=hh;unfold has at hh';have hun:=IF hs (k:=u - ss[j].first) (by omega) (by omega);have hf0:=hs.f0
  have hl:=hs.zi
  have I9:=hs.last
  have a1:∀ H,ta H 1 (.pv DG) (j:Int)=some (.pv (.rp [Mj ss[j].parts] 0)):=fun H=>by rw[hDG.lit (i:=j) (by simpa using hj)];simp only[ta];rw[if_pos ⟨trivial,by unfold Ia;rw[paa];omega⟩,Eaa,Faa,caa hj];rfl
  generalize ss[j]=s at *;have w1:IntKind.i64.wrap (u - s.first)=u - s.first:=Aa (by omega)
  have p0:∀ a b c d,place [ba.box [.pv a,.pv b,.pv c]] d (.ptr 0 0)=some (.ptr 0 (0+d)):=fun a b c d=>rfl;have q2:∀ a b c,pa [ba.box [.pv a,.pv b,.pv c]] false 1 (.ptr 0 2)=some (.pv c):=fun a b c=>rfl;have q0:∀ a b c,pa [ba.box [.pv a,.pv b,.pv c]] false 1 (.ptr 0 0)=some (.pv a):=fun a b c=>rfl;simp -implicitDefEqProofs only[Bj,SX,sevalprocAttr,jm,hr,st,NL,l3,p0,q2,q0,a1,Wa,w1,hun]
 ·rw[QR hn]
  simp -implicitDefEqProofs only[Bj,SX,sevalprocAttr,jm,hr,st]
def Du(bs:List Int):List Ob->Option Int
 | []=>none
 |s::ss=>match Oi s bs with
  |some k=>some (s.first+k)
  |none=>Du bs ss
omit hT Ba in
theorem jV{bs:List Int}{ss:List Ob}{i:Nat}(hi:i < ss.length):Du bs (ss.drop i)=match Oi ss[i] bs with | some k=>some (ss[i].first+k) | none=>Du bs (ss.drop (i+1)):=by
 rw[Waa hi,Du]
theorem uW{B:PV}{bs:List Int}(hB:lk B bs):Bh [T,B]=some (match Du bs ss with | some v=> .mc [i64 v,.bool true] | none=> .mc [i64 0,.bool false]):=by
 obtain⟨S',NX,DG,RW,rfl,hS',_,hDG,_⟩:=hT.ex
 have hrp:=mB (a:=S') (b:=Kk l) (c:=NX) (d:=DG) (e:=RW) (f:=i64 (zj ss));have l3:=fun H=>(hrp H).2.1
 have l0:=fun H=>(hrp H).2.2.2.2.1
 generalize ([S',Kk l,NX,DG,RW,i64 (zj ss)]:List PV)=R at *;have lD:=hDG.len
 rw[paa] at lD;have h32:=Ba.len
 have hB1:=hB.one
 obtain⟨D,hD⟩:∃ D,D=Du bs ss:=⟨_,rfl⟩;rw[<- hD];have D7:=fun (E:Tr)(h0:E.get 0= .pv (.rp R 0))(h1:E.get 1= .pv B)(h15:E.get 15= .pv DG)(h16:E.get 16= .pv (i64 ss.length))(h17:E.get 17= .pv (i64 0))=>
  Dr (call:=Da (fun _=>none) 8) (b:=ng) (live:=[0,1,15,16,17]) (s:=⟨E,[]⟩) (Q:=fun r=>(∃ E',r=(.exit 0,⟨E',[]⟩)/\D=none)\/∃ E' v,r=(.ret,⟨E',[]⟩)/\E'.get 4= .pv (i64 v)/\E'.get 5= .pv (.bool true)/\D=some v)
   (fun i t=>Xe [0,1,15,16] E t.env/\t.env.get 17= .pv (i64 i)/\t.H=[]/\D=Du bs (ss.drop i)) ss.length (by unfold ua;omega)
   (Rh.all rfl (by simp) (Fit.cons h0 Qa (.cons h1 Qa (.cons h15 Qa (.cons h16 Qa (.cons h17 Qa (.nil _ _)))))) fun E' hE=>⟨Xe.sub hE rfl,by rw[hE 17 (by simp),h17];rfl,rfl,hD⟩)
   (by
    rintro i ⟨E1,H1⟩ hi ⟨k1,k2,k3,k5⟩;simp only at k1 k2 k3;subst k3;have g0:=(k1 0 (by simp)).trans h0
    have g1:=(k1 1 (by simp)).trans h1
    have g15:=(k1 15 (by simp)).trans h15
    have g16:=(k1 16 (by simp)).trans h16
    have hs:=Ba.ft _ (saa hi)
    have hrk:=mK hB hs;rw[jV hi] at k5;have hdc:(Mj ss[i].parts).cells=[Mj ss[i].parts]:=rfl
    have a1:∀ H,ta H 1 (.pv DG) (i:Int)=some (.pv (.rp [Mj ss[i].parts] 0)):=fun H=>by rw[hDG.lit (i:=i) (by simpa using hi)];simp only[ta];rw[if_pos ⟨trivial,by unfold Ia;rw[paa];omega⟩,Eaa,Faa,caa hi];rfl
    have a2:∀ H,ta H 2 (.pv S') (i:Int)=some (.pv (.rp [.lit 1 (ss[i].parts.map Qe),i64 ss[i].first] 0)):=fun H=>by rw[hS'.lit (i:=i) (by simpa using hi)];simp only[ta];rw[if_pos ⟨trivial,by unfold Ia;rw[paa];omega⟩,Eaa,Faa,caa hi];rfl
    have hrb:=fun k hk=>ON (b:=bs) (k:=k) hs hk;generalize ss[i]=s at *;have hf0:=hs.f0
    have e1:decide ((i:Int) < (ss.length:Int))=true:=Ea (by omega);have t1:IntKind.i64.wrap ((i:Int)+1)=((i+1:Nat):Int):=sg (by omega)
    generalize hQ:RQ _ _ _ _=Q;cases W9:Oi s bs with
    |some k=>
     rw[W9] at k5;have hr1:=hrk.1 k W9
     have hb:=hrb k W9;have w1:IntKind.i64.wrap (s.first+k)=s.first+k:=Aa (by omega)
     simp -implicitDefEqProofs only[SX,sevalprocAttr,ng,g0,g1,g15,g16,k2,e1,a1,a2,Wa,NL,l0,gk,hr1,w1];subst hQ;exact .inr ⟨_,_,rfl,by simp[Tr.aa],by simp[Tr.aa],k5⟩
    |none=>
     rw[W9] at k5;have hr1:=hrk.2 W9
     simp -implicitDefEqProofs only[SX,sevalprocAttr,ng,g0,g1,g15,g16,k2,e1,a1,Wa,hr1,t1];subst hQ;rw[Yn];generalize U7:(Tr.set _ 17 _:Tr)=E2;have kk:Xe [0,1,15,16] E E2:=by
      rw[<- U7]
      repeat refine Xe.set ?_ rfl
      exact k1
     have z17:E2.get 17= .pv (i64 (i+1:Nat)):=by rw[<- U7];simp[Tr.aa]
     exact Rh.all rfl (by simp) (Fit.sub (.cons z17 Qa (Fit.ie (l:=[0,1,15,16]) (.cons h0 Qa (.cons h1 Qa (.cons h15 Qa (.cons h16 Qa (.nil _ _))))) kk)) rfl) fun E' hE=>⟨kk.trans (Xe.sub hE rfl),by rw[hE 17 (by simp),z17],rfl,k5⟩)
   (by
    rintro⟨E1,H1⟩ ⟨k1,k2,k3,k5⟩;simp only at k1 k2 k3;subst k3;have g16:=(k1 16 (by simp)).trans h16
    rw[Hab] at k5;have e1:decide ((ss.length:Int) < (ss.length:Int))=false:=Ga (by omega);generalize hQ:(fun r:Ex×St=>r.1.stop=true/\_)=Q;simp -implicitDefEqProofs only[SX,sevalprocAttr,ng,g16,k2,e1];subst hQ;exact⟨rfl,.inl ⟨_,rfl,k5⟩⟩)
 refine bl ?_;generalize hQ:(fun x:PV=>x=_)=Q;simp -implicitDefEqProofs only[Bh,SX,sevalprocAttr,Rl,Kq,NL,l3,lD];generalize U7:(Tr.set _ 17 _:Tr)=E;refine wa (D7 E (by rw[<- U7];simp[Tr.aa]) (by rw[<- U7];simp[Tr.aa]) (by rw[<- U7];simp[Tr.aa]) (by rw[<- U7];simp[Tr.aa]) (by rw[<- U7];simp[Tr.aa])) ?_;rintro r ⟨_,⟨E',rfl,z1⟩ | ⟨E',v,rfl,z4,z5,z6⟩⟩
 ·simp -implicitDefEqProofs only[SX,sevalprocAttr]
  subst hQ;rw[z1]
 ·simp -implicitDefEqProofs only[SX,sevalprocAttr,z4,z5]
  subst hQ;rw[z6]
end
structure Kv where
 kind:Int
 size:Nat
 u:Int
theorem VC(l:List (List de)):∀ (bs:List Int)(i:Nat)(st:Int),∃ k:Nat,i<=k/\k<=i+bs.length/\((Mg l i st bs=((k:Int),1)/\i < k)\/(Mg l i st bs=((k:Int),2)/\k=i+bs.length)\/(Mg l i st bs=((k:Int),3)/\k < i+bs.length))
 | [],i,st=>⟨i,waa _,by simp,.inr (.inl ⟨rfl,by simp⟩)⟩
 |b::r,i,st=>by
  rw[Mg]
  by_cases h1:(Nd l st b).2=false
  ·rw[if_pos h1];exact⟨i,waa _,by simp,.inr (.inr ⟨rfl,by simp⟩)⟩
  ·rw[taa h1]
   by_cases h2:(Nd l st b).1= -1
   ·rw[if_pos h2];exact⟨i+1,by omega,by simp,.inl ⟨rfl,by omega⟩⟩
   ·rw[taa h2]
    obtain⟨k,k1,k2,k3⟩:=VC l r (i+1) (Nd l st b).1
    refine⟨k,by omega,by simp;omega,?_⟩;rcases k3 with⟨a,b⟩ | ⟨a,b⟩ | ⟨a,b⟩
    ·exact .inl ⟨a,by omega⟩
    ·exact .inr (.inl ⟨a,by simp;omega⟩)
    ·exact .inr (.inr ⟨a,by simp;omega⟩)
def stays(l:List (List de)):Int->List Int->Option Int
 |st,[]=>some st
 |st,b::r=>if (Nd l st b).2=false\/(Nd l st b).1= -1 then none else stays l (Nd l st b).1 r
theorem Ny{l:List (List de)}{st':Int}(r:List Int):∀ {h:List Int}{i:Nat}{st:Int},stays l st h=some st'->Mg l i st (h++r)=Mg l (i+h.length) st' r
 | [],i,st,hs=>by injection hs with hs;subst hs;rfl
 |b::h,i,st,hs=>by
  rw[stays] at hs
  split at hs
  ·cases hs
  ·next hn=>
   rw[fab,Mg,taa (fun h=>hn (.inl h)),taa (fun h=>hn (.inr h)),Ny r hs,Raa]
   congr 1;omega
theorem WA{l:List (List de)}{b:Int}{st':Int}:∀ {h:List Int}{st:Int},stays l st h=some st'->(Nd l st' b).2=true->(Nd l st' b).1≠ -1->stays l st (h++[b])=some (Nd l st' b).1
 | [],st,hs,h1,h2=>by
   injection hs with hs;subst hs
   rw[cab,stays,taa (by rw[h1];simp[h2]),stays]
 |c::h,st,hs,h1,h2=>by
  rw[stays] at hs
  split at hs
  ·cases hs
  ·next hn=>rw[fab,stays,taa hn];exact WA hs h1 h2
section
variable (ss:List Ob)(l:List (List de))
def zu(bs:List Int):Kv:=
 if (Mg l 0 0 bs).2=1 then ⟨1,(Mg l 0 0 bs).1.toNat,(Du (bs.take (Mg l 0 0 bs).1.toNat) ss).getD 0⟩
 else if (Mg l 0 0 bs).2=2 then ⟨3,(Mg l 0 0 bs).1.toNat,0⟩ else ⟨2,max (Mg l 0 0 bs).1.toNat 1,0⟩
theorem cv{bs:List Int}(h:bs≠[]):1<=(zu ss l bs).size/\(zu ss l bs).size<=bs.length:=by
 have hl:0 < bs.length:=Zab.2 h
 obtain⟨k,k1,k2,k3⟩:=VC l bs 0 0;unfold zu;rcases k3 with⟨a,b⟩ | ⟨a,b⟩ | ⟨a,b⟩ <;> rw[a] <;> simp <;> omega
def JK:Nat->List Int->List Kv
 |0,_=>[]
 |n+1,bs=>if bs=[] then [] else zu ss l bs::JK n (bs.drop (zu ss l bs).size)
theorem XJ:∀ {n m:Nat}{bs:List Int},bs.length<=n->bs.length<=m->JK ss l n bs=JK ss l m bs
 |0,m,bs,h1,h2=>by have:bs=[]:=yaa (by omega);subst this;cases m <;> simp[JK]
 |n+1,0,bs,h1,h2=>by have:bs=[]:=yaa (by omega);subst this;simp[JK]
 |n+1,m+1,bs,h1,h2=>by
  rw[JK,JK]
  by_cases h:bs=[]
  ·rw[if_pos h,if_pos h]
  ·rw[taa h,taa h]
   have:=cv ss l h;rw[XJ (n:=n) (m:=m) (by rw[Pab];omega) (by rw[Pab];omega)]
def ct(bs:List Int):List Kv:=JK ss l bs.length bs
theorem nC:ct ss l []=[]:=rfl
theorem YC{bs:List Int}(h:bs≠[]):ct ss l bs=zu ss l bs::ct ss l (bs.drop (zu ss l bs).size):=by
 have hl:0 < bs.length:=Zab.2 h
 have hs:=cv ss l h;obtain⟨n,hn⟩:∃ n,bs.length=n+1:=⟨bs.length - 1,by omega⟩
 unfold ct
 conv=>lhs;rw[hn]
 rw[JK,taa h,XJ ss l (n:=n) (m:=(bs.drop (zu ss l bs).size).length) (by rw[Pab];omega) (waa _)]
def Wy:Nat->List Int->List Kv×List Int
 |0,bs=>([],bs)
 |n+1,bs=>if bs=[]\/(zu ss l bs).kind=3 then ([],bs) else (zu ss l bs::(Wy n (bs.drop (zu ss l bs).size)).1,(Wy n (bs.drop (zu ss l bs).size)).2)
theorem KG:∀ {n m:Nat}{bs:List Int},bs.length<=n->bs.length<=m->Wy ss l n bs=Wy ss l m bs
 |0,m,bs,h1,h2=>by have:bs=[]:=yaa (by omega);subst this;cases m <;> simp[Wy]
 |n+1,0,bs,h1,h2=>by have:bs=[]:=yaa (by omega);subst this;simp[Wy]
 |n+1,m+1,bs,h1,h2=>by
  rw[Wy,Wy]
  by_cases h:bs=[]\/(zu ss l bs).kind=3
  ·rw[if_pos h,if_pos h]
  ·rw[taa h,taa h]
   have:=cv ss l (fun h'=>h (.inl h'));rw[KG (n:=n) (m:=m) (by rw[Pab];omega) (by rw[Pab];omega)]
def nf(bs:List Int):List Kv×List Int:=Wy ss l bs.length bs
theorem mz{bs:List Int}(h:bs=[]\/(zu ss l bs).kind=3):nf ss l bs=([],bs):=by
 unfold nf;cases bs.length with
 |zero=>rfl
 |succ n=>rw[Wy,if_pos h]
theorem Ap{bs:List Int}(h:bs≠[])(h3:(zu ss l bs).kind≠3):nf ss l bs=(zu ss l bs::(nf ss l (bs.drop (zu ss l bs).size)).1,(nf ss l (bs.drop (zu ss l bs).size)).2):=by
 have hl:0 < bs.length:=Zab.2 h
 have hs:=cv ss l h;obtain⟨n,hn⟩:∃ n,bs.length=n+1:=⟨bs.length - 1,by omega⟩
 unfold nf
 conv=>lhs;rw[hn]
 rw[Wy,taa (by simp[h,h3]),KG ss l (n:=n) (m:=(bs.drop (zu ss l bs).size).length) (by rw[Pab];omega) (waa _)]
def aA(x:Int):List Kv×List Int:=if (Nd l 0 x).2=true then (if (Nd l 0 x).1= -1 then ([⟨1,1,(Du [x] ss).getD 0⟩],[]) else ([],[x])) else ([⟨2,1,0⟩],[])
def El(stop:Bool)(h:List Int)(st x:Int):List Kv×List Int:=
 if (Nd l st x).2=true then (if (Nd l st x).1= -1 then ([⟨1,h.length+1,(Du (h++[x]) ss).getD 0⟩],[]) else ([],h++[x]))
 else if h=[] then ([⟨2,1,0⟩],[]) else if stop then ([⟨2,h.length,0⟩],[]) else (⟨2,h.length,0⟩::(aA ss l x).1,(aA ss l x).2)
def Iq(e:Kv):Bool:=e.kind==2
def Dl(stop:Bool):List Int->List Int->List Kv×List Int×Bool
 |h,[]=>([],h,false)
 |h,x::r=>if stop&&(El ss l stop h ((stays l 0 h).getD 0) x).1.any Iq then ((El ss l stop h ((stays l 0 h).getD 0) x).1,(El ss l stop h ((stays l 0 h).getD 0) x).2,true)
  else ((El ss l stop h ((stays l 0 h).getD 0) x).1++(Dl stop (El ss l stop h ((stays l 0 h).getD 0) x).2 r).1,(Dl stop (El ss l stop h ((stays l 0 h).getD 0) x).2 r).2)
theorem oN{h:List Int}{st:Int}(hs:stays l 0 h=some st)(r:List Int):Mg l 0 0 (h++r)=Mg l h.length st r:=by
 rw[Ny r hs,eab]
theorem uV{h:List Int}{st:Int}(hs:stays l 0 h=some st):nf ss l h=([],h):=by
 apply mz;have:=oN l hs [];rw[Kab,Mg] at this;exact .inr (by unfold zu;rw[this,taa (by simp),if_pos rfl])
theorem tQ(x:Int)(r:List Int):∃ st,stays l 0 (aA ss l x).2=some st/\nf ss l (x::r)=((aA ss l x).1++(nf ss l ((aA ss l x).2++r)).1,(nf ss l ((aA ss l x).2++r)).2):=by
 unfold aA;have hm:Mg l 0 0 (x::r)=if (Nd l 0 x).2=false then (((0:Nat):Int),3) else if (Nd l 0 x).1= -1 then (((0+1:Nat):Int),1) else Mg l (0+1) (Nd l 0 x).1 r:=rfl
 by_cases h1:(Nd l 0 x).2=true
 ·rw[if_pos h1]
  rw[taa (by rw[h1];simp)] at hm
  by_cases h2:(Nd l 0 x).1= -1
  ·rw[if_pos h2]
   rw[if_pos h2] at hm;refine⟨0,rfl,?_⟩;have he:zu ss l (x::r)=⟨1,1,(Du [x] ss).getD 0⟩:=by unfold zu;rw[hm];rfl
   rw[Ap ss l (by simp) (by rw[he];simp),he];rfl
  ·rw[taa h2]
   exact⟨_,by rw[stays,taa (by rw[h1];simp[h2]),stays],rfl⟩
 ·have s9:(Nd l 0 x).2=false:=by simpa using h1
  rw[taa h1];rw[if_pos s9] at hm;refine⟨0,rfl,?_⟩;have he:zu ss l (x::r)=⟨2,1,0⟩:=by unfold zu;rw[hm];rfl
  rw[Ap ss l (by simp) (by rw[he];simp),he];rfl
theorem aU{h:List Int}{st:Int}(hs:stays l 0 h=some st)(x:Int)(r:List Int):∃ st',stays l 0 (El ss l false h st x).2=some st'/\nf ss l (h++x::r)=((El ss l false h st x).1++(nf ss l ((El ss l false h st x).2++r)).1,(nf ss l ((El ss l false h st x).2++r)).2):=by
 have hm:=oN l hs (x::r);have hm2:Mg l h.length st (x::r)=if (Nd l st x).2=false then ((h.length:Int),3) else if (Nd l st x).1= -1 then (((h.length+1:Nat):Int),1) else Mg l (h.length+1) (Nd l st x).1 r:=rfl
 rw[hm2] at hm;unfold El
 by_cases h1:(Nd l st x).2=true
 ·rw[if_pos h1]
  rw[taa (by rw[h1];simp)] at hm
  by_cases h2:(Nd l st x).1= -1
  ·rw[if_pos h2]
   rw[if_pos h2] at hm;refine⟨0,rfl,?_⟩;have ht:(h++x::r).take (h.length+1)=h++[x]:=by rw[Iae,Zaa (by omega)];simp
   have hd:(h++x::r).drop (h.length+1)=r:=by rw[Hae,Cae (by omega)];simp
   have he:zu ss l (h++x::r)=⟨1,h.length+1,(Du (h++[x]) ss).getD 0⟩:=by unfold zu;rw[hm,if_pos rfl,Eaa,ht]
   rw[Ap ss l (by simp) (by rw[he];simp),he];simp only[hd];rfl
  ·rw[taa h2]
   refine⟨_,WA hs h1 h2,by simp⟩
 ·have s9:(Nd l st x).2=false:=by simpa using h1
  rw[taa h1];rw[if_pos s9] at hm
  by_cases h0:h=[]
  ·subst h0
   rw[if_pos rfl];refine⟨0,rfl,?_⟩;have he:zu ss l ([]++x::r)=⟨2,1,0⟩:=by unfold zu;rw[hm];rfl
   rw[Ap ss l (by simp) (by rw[he];simp),he];rfl
  ·rw[taa h0,taa (by simp)]
   have hl:0 < h.length:=Zab.2 h0
   obtain⟨st0,b1,b2⟩:=tQ ss l x r;refine⟨st0,b1,?_⟩;have he:zu ss l (h++x::r)=⟨2,h.length,0⟩:=by
    unfold zu;rw[hm,taa (by simp),taa (by simp),Eaa]
    congr 1;omega
   rw[Ap ss l (by simp) (by rw[he];simp),he];simp only[List.drop_left' rfl];rw[b2];rfl
theorem Hz:∀ (b h:List Int)(st:Int),stays l 0 h=some st->Dl ss l false h b=((nf ss l (h++b)).1,(nf ss l (h++b)).2,false)/\∃ st',stays l 0 (nf ss l (h++b)).2=some st'
 | [],h,st,hs=>by rw[Kab,uV ss l hs];exact⟨rfl,st,hs⟩
 |x::r,h,st,hs=>by
  obtain⟨st',c1,c2⟩:=aU ss l hs x r;rw[c2,Dl,hs,aad];obtain⟨f1,f2⟩:=Hz r (El ss l false h st x).2 st' c1
  rw[f1];exact⟨rfl,f2⟩
end
def ah(e:Kv)(at_:Int):PV:= .agg [i64 e.kind,i64 at_,i64 e.size,i64 e.u,i64 0]
def Oc:Nat->List Kv->List PV
 |_,[]=>[]
 |k,e::r=>ah e k::Oc (k+e.size) r
theorem Xf:∀ (k:Nat)(l:List Kv),(Oc k l).length=l.length
 |_,[]=>rfl
 |k,e::r=>by rw[Oc,Raa,Raa,Xf]
theorem FF:∀ (k:Nat)(l:List Kv)(i:Nat)(h:i < l.length),∃ p:Nat,(Oc k l)[i]? =some (ah l[i] p)
 |k,e::r,0,_=>⟨k,rfl⟩
 |k,e::r,i+1,h=>by obtain⟨p,hp⟩:=FF (k+e.size) r i (by simpa using h);exact⟨p,by simpa[Oc] using hp⟩
theorem IB:∀ (k:Nat)(a b:List Kv),Oc k (a++b)=Oc k a++Oc (k+(a.map (·.size)).sum) b
 |k,[],b=>by simp[Oc]
 |k,e::a,b=>by rw[fab,Oc,Oc,IB,pab,List.sum_cons,Nat.add_assoc];rfl
def G5(T R:PV)(un Jc out:Int)(st fin:Bool):ba:= .box ([T,i64 un,R,i64 Jc,i64 out,.bool st,.bool fin].map .pv)
structure K4(T:PV)(cd:Int->Option (List Int)):Prop where
 enc:∀ u,Bj [T,i64 u]=some (match cd u with | some b=> .mc [.lit 1 (b.map u8),.bool true] | none=> .mc [.ga,.bool false])
 len:∀ u b,cd u=some b->b.length<=8
 ptr:∃ R,T= .rp R 0
structure QU(U:AV)(us:List Int)(n0:Nat):Prop where
 len:∀ H,Tb H 0 U=some us.length
 V4:∀ H (i:Nat) (h:i < us.length),ta H 1 U i=some (.pv (.rp [i64 us[i]] 0))
 cut:∀ n,n0<=n->AV.cut n deep U=some U
theorem GA{A:List ba}{id n sz bytes:Nat}{nl nl' ag:Bool}{h:Zf}{es ys:List PV}(hg:A[id]? =some (.tok sz n nl'))(hn:n=es.length)(hr:eb (es.length+ys.length) bytes):
 Cb A false h sz ag bytes (.uq id nl sz es) (.pv (.lit sz ys))=some (.uq id (nl&&ys.isEmpty) sz (es++ys),A.set id (.tok sz (es.length+ys.length) (nl&&ys.isEmpty))):=by
 subst hn;simp only[Cb,Baa,if_false,hg,Kf,if_true,Daa];rw[if_pos ⟨trivial,trivial,trivial,hr⟩]
section
variable {A:List ba}{c:Nat}
end
def Vh(buf:List Int)(r h n:Int):List PV:=buf.map u8++[i64 r,i64 h,i64 n]
theorem aM{buf:List Int}(hb:buf.length=8)(r h n:Int):(Vh buf r h n).length=11:=by simp[Vh,hb]
theorem QY{buf:List Int}(hb:buf.length=8){r h n:Int}{k:Nat}(hk:k < 8):(Vh buf r h n)[k]? =some (u8 (buf[k]'(by omega))):=by
 unfold Vh;rw[gaa (by simp;omega)];simp[hb,hk]
theorem BH{buf:List Int}(hb:buf.length=8){r h n:Int}:(Vh buf r h n)[8]? =some (i64 r)/\(Vh buf r h n)[9]? =some (i64 h)/\(Vh buf r h n)[10]? =some (i64 n):=by
 unfold Vh;refine⟨?_,?_,?_⟩ <;> rw[Paa (by simp;omega)] <;> simp[hb]
structure eo(buf:List Int)(h:Nat)(q:List Int):Prop where
 len:buf.length=8
 head:h < 8
 n:q.length<=8
 V4:∀ i (hi:i < q.length),buf[(h+i) % 8]? =some q[i]
 By:∀ x∈q,0<=x/\x<=255
theorem nK{row:List PV}{k:Nat}{p:PV}(h:row[k]? =some p)(H:List ba):pa H false 1 (.pv (.rp row k))=some (.pv p):=by
 show (row[k]?).map AV.pv=_
 rw[h];rfl
theorem Py(row:List PV)(H:List ba)(k:Nat):place H k (.pv (.rp row 0))=some (.pv (.rp row k)):=by
 show some (AV.pv (.rp row (0+k)))=_;rw[eab]
theorem Ov{buf q:List Int}{h:Nat}{r:Int}(hq:eo buf h q):Of [.rp (Vh buf r h q.length) 0]=some (i64 q.length):=by
 obtain⟨c8,c9,c10⟩:=BH hq.len (r:=r) (h:=h) (n:=q.length)
 generalize Vh buf r h q.length=row at *
 have e1:∀ H,Kq H 1 (.pv (.rp row 0)) (.pv .qf)=some false:=fun H=>rfl;have pl:=Py row;have ld:=fun H=>nK c10 H;simp -implicitDefEqProofs only[Of,SX,sevalprocAttr,Ao,e1,pl,ld]
theorem MU{buf q:List Int}{h:Nat}{r:Int}(hq:eo buf h q){i:Nat}(hi:i < q.length):tm [.rp (Vh buf r h q.length) 0,i64 i]=some (.mc [u8 q[i],.bool true]):=by
 have hlen:=Ov (r:=r) hq;obtain⟨c8,c9,c10⟩:=BH hq.len (r:=r) (h:=h) (n:=q.length)
 have hm:(h+i) % 8 < 8:=Gae _ (by decide);have hca:=QY hq.len (r:=r) (h:=(h:Int)) (n:=q.length) hm
 have hbv:buf[(h+i) % 8]'(by rw[hq.len];exact hm)=q[i]:=by
  have:=hq.V4 i hi
  rw[caa (by rw[hq.len];exact hm)] at this;injection this
 rw[hbv] at hca;have hh:=hq.head
 have hn:=hq.n
 generalize Vh buf r h q.length=row at *
 have pl:=Py row;have ld9:=fun H=>nK c9 H;have ldm:=fun H=>nK hca H;have d1:decide ((i:Int) < 0)=false:=Ga (by omega);have d2:decide ((i:Int)>=(q.length:Int))=false:=Ga (by omega);have w1:IntKind.i64.wrap ((h:Int)+(i:Int))=((h+i:Nat):Int):=(Aa (by omega)).trans (by omega)
 have w2:(((h+i:Nat):Int)).tmod 8=(((h+i) % 8:Nat):Int):=(Int.ofNat_tmod (h+i) 8).symm
 have hx:Ia (((h+i) % 8:Nat):Int) 8:=by unfold Ia;omega
 have hn8:((((h+i) % 8:Nat):Int)).toNat=(h+i) % 8:=Eaa _
 simp -implicitDefEqProofs only[tm,SX,sevalprocAttr,qp,hlen,pl,ld9,d1,d2,w1,w2,Laa hx,hn8,ldm]
def We(buf:List Int)(r h n:Int):ba:= .box ((Vh buf r h n).map .pv)
theorem xr{H:List ba}{c:Nat}{row:List PV}(hc:H[c]? =some (.box (row.map .pv))){k:Nat}{p:PV}(hk:row[k]? =some p):pa H false 1 (.ptr c k)=some (.pv p):=by
 unfold pa;simp only[hc];show (row.map AV.pv)[k]? =_;rw[Faa,hk];rfl
theorem Yv{H:List ba}{c:Nat}{cells:List AV}(hc:H[c]? =some (.box cells))(k:Nat):place H k (.ptr c 0)=some (.ptr c k):=by
 unfold place;simp only[hc,eab]
theorem oC{H:List ba}{c:Nat}{row:List PV}(hc:H[c]? =some (.box (row.map .pv))){k:Nat}(hk:k < row.length){p:PV}(h1:(AV.pv p).one=true)(h2:p.cells=[p]):Ha H 1 (.ptr c k) (.pv p)=some (H.set c (.box ((row.set k p).map .pv))):=by
 unfold Ha;rw[if_pos ⟨by simp[AV.cells,h2],by simp[AV.cells,h2,h1]⟩];simp only[hc];rw[if_pos (by rw[paa];omega)];simp[AV.cells,h2,fa,xae]
theorem HX{call:Sa}{H:List ba}{c:Nat}{buf q:List Int}{h:Nat}{x:Int}(hq:eo buf h q)(hc:H[c]? =some (We buf 8 h q.length))(hl:q.length < 8)(hx:0<=x/\x<=255):
 ∃ buf',eo buf' h (q++[x])/\ef call xe [.ptr c 0,.pv (u8 x)] H=some (.pv (i64 0),H.set c (We buf' 8 h (q++[x]).length)):=by
 obtain⟨c8,c9,c10⟩:=BH hq.len (r:=8) (h:=h) (n:=q.length)
 have X9:=aM hq.len 8 h q.length
 have hm:(h+q.length) % 8 < 8:=Gae _ (by decide);have hh:=hq.head
 refine⟨buf.set ((h+q.length) % 8) x,⟨by rw[uac];exact hq.len,hh,by simp;omega,fun i hi=> ?_,fun y hy=> ?_⟩,?_⟩
 ·rw[List.getElem?_set]
  rcases Xaa i q.length with hlt | hge
  ·rw[taa (by omega),hq.V4 i hlt,List.getElem_append_left hlt]
  ·have:i=q.length:=by simp at hi;omega
   subst this;rw[if_pos rfl,if_pos (by rw[hq.len];exact hm)];simp
 ·rcases Naa.1 hy with h1 | h1
  ·exact hq.By y h1
  ·rw[Sab] at h1;subst h1;exact hx
 ·unfold We at hc
  have O7:c < H.length:=(qaa.1 hc).1
  have e1:Kq H 1 (.ptr c 0) (.pv .qf)=some false:=by simp[Kq,hc]
  have pl:=fun k=>Yv hc k;have l8:=xr hc c8;have l9:=xr hc c9;have l10:=xr hc c10;have d1:decide ((q.length:Int)>=8)=false:=Ga (by omega);have w1:IntKind.i64.wrap ((h:Int)+(q.length:Int))=((h+q.length:Nat):Int):=(Aa (by omega)).trans (by omega)
  have w2:(((h+q.length:Nat):Int)).tmod 8=(((h+q.length) % 8:Nat):Int):=(Int.ofNat_tmod (h+q.length) 8).symm
  have w3:IntKind.i64.wrap ((q.length:Int)+1)=((q.length+1:Nat):Int):=sg (by omega)
  have hix:Ia (((h+q.length) % 8:Nat):Int) 8:=by unfold Ia;omega
  have hn8:((((h+q.length) % 8:Nat):Int)).toNat=(h+q.length) % 8:=Eaa _
  have st1:=oC hc (k:=(h+q.length) % 8) (by omega) (p:=u8 x) rfl rfl;have hc2:(H.set c (.box (((Vh buf 8 h q.length).set ((h+q.length) % 8) (u8 x)).map .pv)))[c]? =some (.box (((Vh buf 8 h q.length).set ((h+q.length) % 8) (u8 x)).map .pv)):=by rw[Qaa O7]
  have pl2:=fun k=>Yv hc2 k;have eag:((Vh buf 8 h q.length).set ((h+q.length) % 8) (u8 x))[10]? =some (i64 q.length):=by rw[List.getElem?_set,taa (by omega),c10]
  have fag:=xr hc2 eag;have st2:=oC hc2 (k:=10) (by rw[uac];omega) (p:=i64 ((q.length+1:Nat):Int)) rfl rfl;have Q7:((Vh buf 8 h q.length).set ((h+q.length) % 8) (u8 x)).set 10 (i64 ((q.length+1:Nat):Int))=Vh (buf.set ((h+q.length) % 8) x) 8 h (q++[x]).length:=by unfold Vh;rw[Bac _ _ (by simp[hq.len];omega),Xab _ _ (by simp[hq.len])];simp[hq.len,xae]
  rw[List.set_set,Q7] at st2;unfold We;generalize Vh buf 8 h q.length=row at *
  generalize Vh (buf.set ((h+q.length) % 8) x) 8 h (q++[x]).length=bae at *
  generalize row.set ((h+q.length) % 8) (u8 x)=row1 at *
  simp -implicitDefEqProofs only[SX,sevalprocAttr,xe,e1,pl,l8,l9,l10,d1,w1,w2,w3,Laa hix,hn8,st1,pl2,fag,st2]
theorem Vy{call:Sa}{H:List ba}{c:Nat}{buf q:List Int}{h k:Nat}(hq:eo buf h q)(hc:H[c]? =some (We buf 8 h q.length))(hk:k<=q.length):
 eo buf ((h+k) % 8) (q.drop k)/\ef call Nc [.ptr c 0,.pv (i64 k)] H=some (.pv (i64 0),H.set c (We buf 8 ((h+k) % 8:Nat) (q.drop k).length)):=by
 obtain⟨c8,c9,c10⟩:=BH hq.len (r:=8) (h:=h) (n:=q.length)
 have X9:=aM hq.len 8 h q.length
 have hh:=hq.head
 have hn:=hq.n
 have hm:(h+k) % 8 < 8:=Gae _ (by decide);refine⟨⟨hq.len,hm,by rw[Pab];omega,fun i hi=> ?_,fun y hy=>hq.By y (bac hy)⟩,?_⟩
 ·rw[Pab] at hi
  have:=hq.V4 (k+i) (by omega)
  rw[List.getElem_drop,<-this]
  congr 1
  omega
 ·unfold We at hc
  have O7:c < H.length:=(qaa.1 hc).1
  have e1:Kq H 1 (.ptr c 0) (.pv .qf)=some false:=by simp[Kq,hc]
  have pl:=fun k=>Yv hc k;have l9:=xr hc c9;have l10:=xr hc c10;have d1:decide ((k:Int) < 0)=false:=Ga (by omega);have d2:decide ((k:Int) > (q.length:Int))=false:=Ga (by omega);have w1:IntKind.i64.wrap ((h:Int)+(k:Int))=((h+k:Nat):Int):=(Aa (by omega)).trans (by omega)
  have w2:(((h+k:Nat):Int)).tmod 8=(((h+k) % 8:Nat):Int):=(Int.ofNat_tmod (h+k) 8).symm
  have w3:IntKind.i64.wrap ((q.length:Int) - (k:Int))=(((q.drop k).length:Nat):Int):=(Aa (by omega)).trans (by rw[Pab];omega)
  have st1:=oC hc (k:=9) (by omega) (p:=i64 (((h+k) % 8:Nat):Int)) rfl rfl;have hc2:(H.set c (.box (((Vh buf 8 h q.length).set 9 (i64 (((h+k) % 8:Nat):Int))).map .pv)))[c]? =some (.box (((Vh buf 8 h q.length).set 9 (i64 (((h+k) % 8:Nat):Int))).map .pv)):=by rw[Qaa O7]
  have pl2:=fun k=>Yv hc2 k;have eag:((Vh buf 8 h q.length).set 9 (i64 (((h+k) % 8:Nat):Int)))[10]? =some (i64 q.length):=by rw[List.getElem?_set,taa (by omega),c10]
  have fag:=xr hc2 eag;have st2:=oC hc2 (k:=10) (by rw[uac];omega) (p:=i64 (((q.drop k).length:Nat):Int)) rfl rfl;have Q7:((Vh buf 8 h q.length).set 9 (i64 (((h+k) % 8:Nat):Int))).set 10 (i64 (((q.drop k).length:Nat):Int))=Vh buf 8 (((h+k) % 8:Nat):Int) (q.drop k).length:=by unfold Vh;rw[Xab _ _ (by simp[hq.len]),Xab _ _ (by simp[hq.len])];simp[hq.len]
  rw[List.set_set,Q7] at st2;unfold We;generalize Vh buf 8 h q.length=row at *
  generalize Vh buf 8 (((h+k) % 8:Nat):Int) (q.drop k).length=bae at *
  generalize row.set 9 (i64 (((h+k) % 8:Nat):Int))=row1 at *
  simp -implicitDefEqProofs only[SX,sevalprocAttr,Nc,e1,pl,l9,l10,d1,d2,w1,w2,w3,st1,pl2,fag,st2]
def Sl(A:List ba)(d c:Nat)(o1 o2:ba)(X:List ba):List ba:=(A.set d o1).set c o2++X
structure eZ(A:List ba)(d c:Nat):Prop where
 ld:d < A.length
 lc:c < A.length
 ne:d≠c
section
variable {A:List ba}{d c:Nat}(h:eZ A d c){o1 o2 o:ba}{X:List ba}
include h
theorem cE:(Sl A d c o1 o2 X)[d]? =some o1:=by
 have:=h.ld;have:=h.ne
 unfold Sl;rw[gaa (by simp;omega),Jaa (by omega),Qaa (by omega)]
theorem SI:(Sl A d c o1 o2 X)[c]? =some o2:=by
 have:=h.lc
 unfold Sl;rw[gaa (by simp;omega),Qaa (by simp;omega)]
theorem sF:(Sl A d c o1 o2 X).set d o=Sl A d c o o2 X:=by
 have:=h.ld;have:=h.ne
 unfold Sl;rw[Bac _ _ (by simp;omega),List.set_comm _ _ (rac h.ne),List.set_set]
theorem kM:(Sl A d c o1 o2 X).set c o=Sl A d c o1 o X:=by
 have:=h.lc
 unfold Sl;rw[Bac _ _ (by simp;omega),List.set_set]
omit h
theorem sm:(Sl A d c o1 o2 X).length=A.length+X.length:=by simp[Sl]
theorem Q2(k:Nat):(Sl A d c o1 o2 X)[A.length+k]? =X[k]? :=by
 unfold Sl;rw[Paa (by simp)];simp
theorem VM(k:Nat):(Sl A d c o1 o2 X).set (A.length+k) o=Sl A d c o1 o2 (X.set k o):=by
 unfold Sl;rw[Xab _ _ (by simp)];simp
theorem Ot(Y:List ba):Sl A d c o1 o2 X++Y=Sl A d c o1 o2 (X++Y):=by unfold Sl;rw[Oab]
theorem SY{k:Nat}(hk:k < A.length)(h1:k≠d)(h2:k≠c):(Sl A d c o1 o2 X)[k]? =A[k]? :=by
 unfold Sl;rw[gaa (by simp;omega),Jaa (by omega),Jaa (by omega)]
end
def oO(T:PV)(bad:Int)(c:Nat)(st at_ Jc:Int)(ya fin:Bool):List AV:=[.pv T,.pv (i64 bad),.ptr c 0,.pv (i64 st),.pv (i64 at_),.pv (i64 Jc),.pv (.bool ya),.pv (.bool fin)]
def Lc(T:PV)(bad:Int)(c:Nat)(st at_ Jc:Int)(ya fin:Bool):ba:= .box (oO T bad c st at_ Jc ya fin)
theorem VK{H:List ba}{c:Nat}{row:List PV}(hc:H[c]? =some (.box (row.map .pv)))(d:Nat):Ub H (d+1) (.ptr c 0)=some (.rp row 0):=by
 have key:∀ row:List PV,Ra (Ub H d) (row.map .pv)=some row:=by
  intro row
  induction row with
  |nil=>rfl
  |cons p r ih=>have h1:Ub H d (.pv p)=some p:=Ng H d p;simp only[pab,Ra,h1,ih];rfl
 unfold Ub;simp only[hc,key];rfl
section
variable {H:List ba}{d c:Nat}{T:PV}{bad st at_ Jc:Int}{ya fin:Bool}(h:H[d]? =some (Lc T bad c st at_ Jc ya fin))
include h
theorem J5:Kq H 1 (.ptr d 0) (.pv .qf)=some false:=by simp only[Kq,h,Lc]
theorem HF(k:Nat):place H k (.ptr d 0)=some (.ptr d k):=Yv h k
theorem XD{k:Nat}{v:AV}(hk:(oO T bad c st at_ Jc ya fin)[k]? =some v):pa H false 1 (.ptr d k)=some v:=by
 unfold pa;simp only[h,Lc];show (oO T bad c st at_ Jc ya fin)[k]? =_;exact hk
theorem tA:pa H false 1 (.ptr d 0)=some (.pv T)/\pa H false 1 (.ptr d 1)=some (.pv (i64 bad))/\pa H false 1 (.ptr d 2)=some (.ptr c 0)/\pa H false 1 (.ptr d 3)=some (.pv (i64 st))/\
 pa H false 1 (.ptr d 4)=some (.pv (i64 at_))/\pa H false 1 (.ptr d 5)=some (.pv (i64 Jc))/\pa H false 1 (.ptr d 6)=some (.pv (.bool ya))/\pa H false 1 (.ptr d 7)=some (.pv (.bool fin)):=
 ⟨XD h rfl,XD h rfl,XD h rfl,XD h rfl,XD h rfl,XD h rfl,XD h rfl,XD h rfl⟩
theorem iO{k:Nat}(hk:k < 8){p:PV}(h1:(AV.pv p).one=true)(h2:p.cells=[p]):Ha H 1 (.ptr d k) (.pv p)=some (H.set d (.box ((oO T bad c st at_ Jc ya fin).set k (.pv p)))):=by
 unfold Ha;rw[if_pos ⟨by simp[AV.cells,h2],by simp[AV.cells,h2,h1]⟩];simp only[h,Lc];rw[if_pos (by show k+1<=8;omega)];simp[AV.cells,h2,fa]
theorem P2(v:Int):Ha H 1 (.ptr d 3) (.pv (i64 v))=some (H.set d (Lc T bad c v at_ Jc ya fin)):=iO h (by decide) rfl rfl
theorem Z5(v:Int):Ha H 1 (.ptr d 4) (.pv (i64 v))=some (H.set d (Lc T bad c st v Jc ya fin)):=iO h (by decide) rfl rfl
theorem o6(v:Int):Ha H 1 (.ptr d 5) (.pv (i64 v))=some (H.set d (Lc T bad c st at_ v ya fin)):=iO h (by decide) rfl rfl
theorem T5(v:Bool):Ha H 1 (.ptr d 6) (.pv (.bool v))=some (H.set d (Lc T bad c st at_ Jc v fin)):=iO h (by decide) rfl rfl
theorem b6(v:Bool):Ha H 1 (.ptr d 7) (.pv (.bool v))=some (H.set d (Lc T bad c st at_ Jc ya v)):=iO h (by decide) rfl rfl
end
def Still(X:List ba):Prop:=∀ n,X.all (xE n)=true
theorem Still.nil:Still []:=fun _=>rfl
theorem Still.app{X Y:List ba}(h1:Still X)(h2:Still Y):Still (X++Y):=fun n=>by rw[List.all_append,h1 n,h2 n];rfl
theorem Still.tok(sz n:Nat)(nl:Bool):Still [.tok sz n nl]:=fun _=>rfl
theorem Still.dead:Still [.dead]:=fun _=>rfl
theorem Still.box(cs:List PV):Still [.box (cs.map .pv)]:=fun n=>by simp only[zac,List.all_nil,uB,qae]
theorem Still.cons{o:ba}{X:List ba}(h1:Still [o])(h2:Still X):Still (o::X):=h1.app h2
theorem Still.Qv{A X:List ba}(hA:Vd A)(hX:Still X):Vd (A++X):=fun n hn o ho=>by
 rcases Naa.1 ho with h | h
 ·exact hA n (by rw[Aaa] at hn;omega) o h
 ·exact Bo (hX n) o h
theorem Yy{A:List ba}{d c:Nat}(hA:Vd A)(h2:eZ A d c){T:PV}{bad st at_ Jc:Int}{ya fin:Bool}{buf:List Int}{r h m:Int}{X:List ba}(hX:Still X):Vd (Sl A d c (Lc T bad c st at_ Jc ya fin) (We buf r h m) X):=by
 intro n hn o ho;rw[sm] at hn;unfold Sl at ho;rcases Naa.1 ho with h | h
 ·rcases Nab h with h | rfl
  ·rcases Nab h with h | rfl
   ·exact hA n (by omega) o h
   ·have:=h2.lc
    exact As (by simp[Lc,oO,xE,vj,Zn,show c < n by omega])
  ·exact As (uB n _)
 ·exact Bo (hX n) o h
theorem OK{call:Sa}{H:List ba}{c:Nat}{buf q:List Int}{h:Nat}{r:Int}(hG:Vd H)(hq:eo buf h q)(hc:H[c]? =some (We buf r h q.length)):
 ef call Dc [.ptr c 0] H=some (.uq H.length false 1 (q.map u8),H++[.tok 1 q.length false]):=by
 have hlen:=Ov (r:=r) hq;have Y8:=fun i (hi:i < q.length)=>MU (r:=r) hq hi;have hn:=hq.n
 unfold We at hc;have O7:c < H.length:=(qaa.1 hc).1
 have tp:=VK hc 5;have tp1:=fun Y=>VK (H:=H++Y) (show (H++Y)[c]? =_ by rw[gaa O7];exact hc) 5;generalize Vh buf r h q.length=row at *
 have D7:=fun (E:Tr)(g0:E.get 0= .ptr c 0)(g3:E.get 3= .uq H.length false 1 [])(g11:E.get 11= .pv (i64 q.length))(g12:E.get 12= .pv (i64 0))=>
  xo (call:=call) (b:=Sg) (live:=[0,3,11,12]) (E0:=E) (H0:=H++[.tok 1 0 false]) (Q:=fun r=>∃ E,r=(.exit 0,⟨E,H++[.tok 1 q.length false]⟩)/\E.get 3= .uq H.length false 1 (q.map u8))
   (fun i:Nat=>[(0,.ptr c 0),(3,.uq H.length false 1 ((q.take i).map u8)),(11,.pv (i64 q.length)),(12,.pv (i64 i))]) (fun i=>H++[.tok 1 ((q.take i).map u8).length false]) (fun i x=>x=i) q.length (by unfold ua;omega) (fun _=>rfl)
   (fun i x _=>⟨by simp[vj,wz,Zn,show c < H.length+1 by omega],fun o ho=>by
    rcases Naa.1 ho with h | h
    ·exact hG _ (by simp) o h
    ·simp at h;subst h;rfl,by simp⟩) ⟨0,⟨g0,g3,g11,g12,trivial⟩,rfl,rfl⟩
   (by
    rintro _ i E hi rfl ⟨g0,g3,g11,g12,_⟩;have ha:=Y8 i hi;have e1:decide ((i:Int) < (q.length:Int))=true:=Ea (by omega);have t1:IntKind.i64.wrap ((i:Int)+1)=((i+1:Nat):Int):=sg (by omega)
    have Z7:(q.take (i+1)).map u8=(q.take i).map u8++[u8 q[i]]:=by rw[Fae,caa hi,qac];rfl
    have ap:Cb (H++[.tok 1 ((q.take i).map u8).length false]) false .uq 1 false 1 (.uq H.length false 1 ((q.take i).map u8)) (.pv (.lit 1 [u8 q[i]]))=some (.uq H.length false 1 ((q.take (i+1)).map u8),H++[.tok 1 ((q.take (i+1)).map u8).length false]):=by rw[GA (n:=((q.take i).map u8).length) (nl':=false) (by simp) rfl (by unfold eb;simp;omega),Z7];simp
    generalize q[i]=x at *;have fl:Jp [u8 x,PV.bool true]=true:=rfl;generalize hQ:RH _ _ _ _=Q;simp -implicitDefEqProofs only[SP,WP,sevalprocAttr,Sg,g0,g3,g11,g12,e1,tp1,ha,fl,ap,t1,fa.eq_1,fa.eq_2,List.set,Tc,List.headD_cons];subst hQ;exact⟨i+1,[],by simp[Has,Tr.aa,g0,g11],by simp,rfl⟩)
   (by rintro i E rfl ⟨g0,g3,g11,g12,_⟩;have e1:decide ((q.length:Int) < (q.length:Int))=false:=Ga (by omega);rw[Fab] at g3;show qd _ (oa call Sg ⟨E,H++[.tok 1 ((q.take q.length).map u8).length false]⟩);rw[Fab,paa];generalize hQ:(fun r:Ex×St=>r.1.stop=true/\_)=Q;simp -implicitDefEqProofs only[SP,WP,sevalprocAttr,Sg,g11,g12,e1];subst hQ;exact⟨rfl,_,rfl,by simp[Tr.aa,g3]⟩)
 have tp2:=tp1 [.tok 1 0 false];have fl0:∀ n,Nj (i64 n)=true:=fun n=>rfl;have hmk:∀ (E:Tr),E.get 8= .pv (i64 q.length)->xa call E H (.eh .uq 1 false [.int .u8 0] 1 (.c (.int .i64 0)) (.t 8))=some (.uq H.length false 1 [],H++[.tok 1 0 false]):=fun E h8=>by simp only[xa,AO.ev,h8,asInt,Daa];rw[if_pos ⟨by omega,by omega,by unfold eb;omega⟩];rfl
 apply bl;generalize hQ:(fun y:AV×List ba=>y=(AV.uq H.length false 1 (q.map u8),H++[.tok 1 q.length false]))=Q;simp -implicitDefEqProofs only[SP,WP,sevalprocAttr,Dc,tp,tp2,hlen,fl0,↓hmk];refine wa (D7 _ (by simp[Tr.aa]) (by simp[Tr.aa]) (by simp[Tr.aa]) (by simp[Tr.aa])) ?_;rintro r ⟨_,E,rfl,h⟩;simp -implicitDefEqProofs only[SP,WP,sevalprocAttr,h];subst hQ;rfl
theorem CY{A:List ba}{d c:Nat}{o1 o2:ba}{X Y:List ba}(i:Nat):(Sl A d c o1 o2 (X++Y))[A.length+X.length+i]? =Y[i]? :=by
 rw[Nat.add_assoc,Q2,Paa (by omega)];simp
theorem LI{A:List ba}{d c:Nat}{o1 o2 o:ba}{X Y:List ba}(i:Nat):(Sl A d c o1 o2 (X++Y)).set (A.length+X.length+i) o=Sl A d c o1 o2 (X++Y.set i o):=by
 rw[Nat.add_assoc,VM,Xab _ _ (by omega)];simp
theorem SK{H:List ba}{c:Nat}{row:List PV}(hc:H[c]? =some (.box (row.map .pv)))(hl:row.length=5):pa H true 5 (.ptr c 0)=some (.pv (.agg row)):=by
 match row,hl with
 | [a,b,e,f,g],_=>simp only[pa,hc];rfl
theorem oK{H:List ba}{c:Nat}{row b:List PV}(hc:H[c]? =some (.box (row.map .pv)))(hl:row.length=5)(hb:b.length=5)(h1:∀ p∈b,(AV.pv p).one=true):Ha H 5 (.ptr c 0) (.pv (.agg b))=some (H.set c (.box (b.map .pv))):=by
 match row,hl,b,hb with
 | [a1,a2,a3,a4,a5],_,[b1,b2,b3,b4,b5],_=>have:=h1 b1 (by simp);have:=h1 b2 (by simp);have:=h1 b3 (by simp);have:=h1 b4 (by simp);have:=h1 b5 (by simp);unfold Ha;rw[if_pos ⟨rfl,by simp_all [AV.cells,PV.cells]⟩];simp only[hc];rfl
def D6(a b:List PV):List ba:=[.box (a.map .pv),.box (b.map .pv)]
abbrev Qo(k a n u:Int):List PV:=[i64 k,i64 a,i64 n,i64 u,i64 0]
theorem eK{k a n u:Int}:∀ p∈Qo k a n u,(AV.pv p).one=true:=by
 intro p hp;simp only[Qo,bab,oac,or_false] at hp;rcases hp with rfl | rfl | rfl | rfl | rfl <;> rfl
theorem FD(a b:List PV):Still (D6 a b):=(Still.box a).cons (Still.box b)
theorem dO{call call':Sa}{A:List ba}{d c:Nat}(hA:Vd A)(h2:eZ A d c){X:List ba}(hX:Still X){T:PV}{bad st Jc:Int}{at_:Nat}{ya fin:Bool}{buf q:List Int}{h:Nat}(hq:eo buf h q)
 (h82:∀ H (n:Int),call 82 [.ptr c 0,.pv (i64 n)] H=ef call' Nc [.ptr c 0,.pv (i64 n)] H) (h83:∀ H,call 83 [.ptr c 0] H=ef call' Dc [.ptr c 0] H)
 (Y8:at_<=1000000) {k u:Int} (hd:k=1->∃ ok,Bh [T,.lit 1 (q.map u8)]=some (.mc [i64 u,.bool ok])) (hu:k≠1->u=0):
 ∃ Y,Still Y/\ef call Yb [.ptr d 0,.pv (i64 k)] (Sl A d c (Lc T bad c st at_ Jc ya fin) (We buf 8 h q.length) X)=some (.pv (ah ⟨k,q.length,u⟩ at_),Sl A d c (Lc T bad c 0 ((at_+q.length:Nat):Int) Jc ya fin) (We buf 8 ((h+q.length) % 8:Nat) 0) (X++Y)):=by
 have hn:=hq.n
 obtain⟨n,Y7⟩:∃ n,n=A.length+X.length:=⟨_,rfl⟩
 have hlen:=Ov (r:=8) hq;have O7:c < A.length:=h2.lc
 obtain⟨G,hG⟩:∃ G:ba->ba->List PV->List PV->List ba->List ba,G=fun o1 o2 a b Z=>Sl A d c o1 o2 (X++(D6 a b++Z)):=⟨_,rfl⟩;have gd:∀ o1 o2 a b Z,(G o1 o2 a b Z)[d]? =some o1:=fun o1 o2 a b Z=>by rw[hG];exact cE h2
 have gc:∀ o1 o2 a b Z,(G o1 o2 a b Z)[c]? =some o2:=fun o1 o2 a b Z=>by rw[hG];exact SI h2
 have g0:∀ o1 o2 a b Z,(G o1 o2 a b Z)[n]? =some (.box (a.map .pv)):=fun o1 o2 a b Z=>by rw[hG,Y7];exact CY 0
 have g1:∀ o1 o2 a b Z,(G o1 o2 a b Z)[n+1]? =some (.box (b.map .pv)):=fun o1 o2 a b Z=>by rw[hG,Y7];exact CY 1
 have sd:∀ o1 o2 a b Z o,(G o1 o2 a b Z).set d o=G o o2 a b Z:=fun o1 o2 a b Z o=>by rw[hG];exact sF h2
 have sc:∀ o1 o2 a b Z o,(G o1 o2 a b Z).set c o=G o1 o a b Z:=fun o1 o2 a b Z o=>by rw[hG];exact kM h2
 have s0:∀ o1 o2 a b Z r,(G o1 o2 a b Z).set n (.box (List.map AV.pv r))=G o1 o2 r b Z:=fun o1 o2 a b Z r=>by rw[hG,Y7];exact LI 0
 have s1:∀ o1 o2 a b Z r,(G o1 o2 a b Z).set (n+1) (.box (List.map AV.pv r))=G o1 o2 a r Z:=fun o1 o2 a b Z r=>by rw[hG,Y7];exact LI 1
 have gg:∀ st at_ h m a b Z,Still Z->Vd (G (Lc T bad c st at_ Jc ya fin) (We buf 8 h m) a b Z):=fun st at_ h m a b Z hZ=>by rw[hG];exact Yy hA h2 (hX.app ((FD a b).app hZ))
 have gx:∀ o1 o2 a b Z Z',G o1 o2 a b Z++Z'=G o1 o2 a b (Z++Z'):=fun o1 o2 a b Z Z'=>by rw[hG];simp only[Ot,Oab]
 obtain⟨H0,hH0⟩:∃ H0,H0=Sl A d c (Lc T bad c st at_ Jc ya fin) (We buf 8 h q.length) X:=⟨_,rfl⟩;rw[<- hH0];have l0:H0.length=n:=by rw[hH0,Y7,sm]
 obtain⟨z,hz⟩:∃ z:ba,z= .box [.pv (i64 0),.pv (i64 0),.pv (i64 0),.pv (i64 0),.pv (i64 0)]:=⟨_,rfl⟩
 have hz':ba.box [.pv (.int .i64 0),.pv (.int .i64 0),.pv (.int .i64 0),.pv (.int .i64 0),.pv (.int .i64 0)]=z:=hz.symm
 have l1:(H0++[z]).length=n+1:=by rw[Aaa,l0];rfl
 have hd1:(H0++[z])[d]? =some (Lc T bad c st at_ Jc ya fin):=by rw[hH0,Ot];exact cE h2
 have hc1:(H0++[z])[c]? =some (We buf 8 h q.length):=by rw[hH0,Ot];exact SI h2
 have p1:=HF hd1;have ld1:=tA hd1;have tp1:=VK hc1 5;have st0:∀ m,Ha (H0++[z]++[z]) 5 (.ptr (n+1) 0) (.pv (.agg (Qo k at_ m 0)))=some (G (Lc T bad c st at_ Jc ya fin) (We buf 8 h q.length) (Qo 0 0 0 0) (Qo k at_ m 0) []):=fun m=>by
  have:H0++[z]++[z]=G (Lc T bad c st at_ Jc ya fin) (We buf 8 h q.length) (Qo 0 0 0 0) (Qo 0 0 0 0) []:=by rw[hH0,hG,hz];simp only[Ot,Oab];rfl
  rw[this,oK (g1 _ _ _ _ _) rfl rfl eK,s1]
 have pd:∀ st at_ o2 a b Z k,place (G (Lc T bad c st at_ Jc ya fin) o2 a b Z) k (.ptr d 0)=some (.ptr d k):=fun st at_ o2 a b Z k=>HF (gd _ _ _ _ _) k;have ldd:=fun st at_ o2 a b Z=>tA (gd (Lc T bad c st at_ Jc ya fin) o2 a b Z);have pe:∀ o1 o2 a b Z k,place (G o1 o2 a b Z) k (.ptr (n+1) 0)=some (.ptr (n+1) k):=fun o1 o2 a b Z k=>Yv (g1 _ _ _ _ _) k;have l2:∀ o1 o2 a k x m u Z,pa (G o1 o2 a (Qo k x m u) Z) false 1 (.ptr (n+1) 2)=some (.pv (i64 m)):=fun o1 o2 a k x m u Z=>xr (g1 _ _ _ _ _) rfl;have st3:∀ o1 o2 a k x m u v Z,Ha (G o1 o2 a (Qo k x m u) Z) 1 (.ptr (n+1) 3) (.pv (i64 v))=some (G o1 o2 a (Qo k x m v) Z):=fun o1 o2 a k x m u v Z=>by rw[oC (g1 _ _ _ _ _) (show 3 < 5 by decide) rfl rfl,s1];rfl
 have lT:∀ o1 o2 a k x m u Z,pa (G o1 o2 a (Qo k x m u) Z) true 5 (.ptr (n+1) 0)=some (.pv (.agg (Qo k x m u))):=fun o1 o2 a k x m u Z=>SK (g1 _ _ _ _ _) rfl;have sT:∀ o1 o2 b k x m u Z,Ha (G o1 o2 (Qo 0 0 0 0) b Z) 5 (.ptr n 0) (.pv (.agg (Qo k x m u)))=some (G o1 o2 (Qo k x m u) b Z):=fun o1 o2 b k x m u Z=>by rw[oK (g0 _ _ _ _ _) rfl rfl eK,s0]
 have lR:∀ o1 o2 b k x m u Z,pa (G o1 o2 (Qo k x m u) b Z) true 5 (.ptr n 0)=some (.pv (.agg (Qo k x m u))):=fun o1 o2 b k x m u Z=>SK (g0 _ _ _ _ _) rfl;have w1:IntKind.i64.wrap ((at_:Int)+(q.length:Int))=((at_+q.length:Nat):Int):=(Aa (by omega)).trans (by omega)
 have sat:∀ o2 a b Z v,Ha (G (Lc T bad c st at_ Jc ya fin) o2 a b Z) 1 (.ptr d 4) (.pv (i64 v))=some (G (Lc T bad c st v Jc ya fin) o2 a b Z):=fun o2 a b Z v=>by rw[Z5 (gd _ _ _ _ _),sd]
 have sst:∀ at_ o2 a b Z v,Ha (G (Lc T bad c st at_ Jc ya fin) o2 a b Z) 1 (.ptr d 3) (.pv (i64 v))=some (G (Lc T bad c v at_ Jc ya fin) o2 a b Z):=fun at_ o2 a b Z v=>by rw[P2 (gd _ _ _ _ _),sd]
 have hdr:∀ at_ a b Z,call 82 [.ptr c 0,.pv (i64 q.length)] (G (Lc T bad c st at_ Jc ya fin) (We buf 8 h q.length) a b Z)=some (.pv (i64 0),G (Lc T bad c st at_ Jc ya fin) (We buf 8 ((h+q.length) % 8:Nat) 0) a b Z):=fun at_ a b Z=>by rw[h82,(Vy (call:=call') hq (gc _ _ _ _ _) (waa _)).2,sc,Hab];rfl
 have oae:∀ Z,Still Z->G (Lc T bad c 0 ((at_+q.length:Nat):Int) Jc ya fin) (We buf 8 ((h+q.length) % 8:Nat) 0) (Qo k at_ q.length u) (Qo k at_ q.length u) Z=Sl A d c (Lc T bad c 0 ((at_+q.length:Nat):Int) Jc ya fin) (We buf 8 ((h+q.length) % 8:Nat) 0) (X++(D6 (Qo k at_ q.length u) (Qo k at_ q.length u)++Z)):=fun Z _=>by rw[hG]
 have he:ah ⟨k,q.length,u⟩ at_= .agg (Qo k at_ q.length u):=rfl
 by_cases hk:k=1
 ·obtain⟨ok,Ba⟩:=hd hk
  have hb:=OK (call:=call') (gg st at_ h q.length (Qo 0 0 0 0) (Qo k at_ q.length 0) [] Still.nil) hq (gc _ _ _ _ _);rw[gx,cab,<-h83] at hb;generalize (G (Lc T bad c st at_ Jc ya fin) (We buf 8 h q.length) (Qo 0 0 0 0) (Qo k at_ q.length 0) []).length=nb at hb
  refine⟨_,(FD (Qo k at_ q.length u) (Qo k at_ q.length u)).app (Still.tok 1 q.length false),?_⟩;rw[<- oae _ (Still.tok 1 q.length false),he];have e1:(k==1)=true:=by rw[hk];rfl
  have tq:∀ H,Ub H 6 (.uq nb false 1 (q.map u8))=some (.lit 1 (q.map u8)):=fun H=>rfl;have sh:=aJ (G (Lc T bad c st at_ Jc ya fin) (We buf 8 h q.length) (Qo 0 0 0 0) (Qo k at_ q.length 0) []) [.tok 1 q.length false];rw[gx,cab] at sh;clear hG hH0 hz gg gx s0 s1 sd sc g0 g1 gd gc h82 h83 oae hd hu he;simp -implicitDefEqProofs only[SP,WP,sevalprocAttr,Yb,l0,l1,hz',p1,ld1,tp1,hlen,fa.eq_1,fa.eq_2,List.set,Tc,st0,e1,pd,ldd,pe,l2,hb,sh,tq,Ba,st3,w1,sat,hdr,sst,lT,sT,lR]
 ·have hu0:=hu hk
  subst hu0;refine⟨_,(FD (Qo k at_ q.length 0) (Qo k at_ q.length 0)).app Still.nil,?_⟩;rw[<- oae _ Still.nil,he];have e1:(k==1)=false:=beq_false_of_ne hk;clear hG hH0 hz gg gx s0 s1 sd sc g0 g1 gd gc h82 h83 oae hd he;simp -implicitDefEqProofs only[SP,WP,sevalprocAttr,Yb,l0,l1,hz',p1,ld1,tp1,hlen,fa.eq_1,fa.eq_2,List.set,Tc,st0,e1,pd,ldd,pe,l2,w1,sat,hdr,sst,lT,sT,lR]
end Go.AM.B1
