/- What functions of the program compute. -/
import Derived.Test.YtijlhblleiaomaaGreatL4
import Derived.Test.YtijlhblleiaomaaGreatL6
import Derived.Test.YtijlhblleiaomaaGreatL2
set_option linter.unusedVariables false
set_option linter.unusedSimpArgs false
namespace Go.AM.B1
open Go.AM
theorem fH(fb:List Int):∀ (xs ys:List Nat)(r:List Int×List Int),Td fb (xs++ys) r=Td fb ys (Td fb xs r)
 | [],ys,r=>rfl
 |x::xs,ys,r=>by rw[bab,Td,Td,fH fb xs]
theorem bK{a:Int}:∀ {l:List Int}{k i:Nat},Av a l k=some i->k<=i/\l[i - k]? =some a
 | [],_,_,h=>by cases h
 |b::l,k,i,h=>by
  simp only[Av] at h
  split at h
  ·next he=>injection h with h;subst h he;simp
  ·obtain⟨h1,h2⟩:=bK h
   refine⟨by omega,?_⟩;have:i - k=(i - (k+1))+1:=by omega
   rw[this,eab];exact h2
structure u6(fb O:List Int)(n:Nat)(r:List Int×List Int):Prop where
 len:r.2.length=fb.length
 hi:∀ x,n<=x->r.2.getD x 0=fb.getD x 0
 ext:∃ t,r.1=O++t/\∀ o∈t,0<=o/\∃ x,x < n/\fb.getD x 0=o
 nodup:r.1.Nodup
 val:∀ x,x < n->(fb.getD x 0 < 0->r.2.getD x 0=fb.getD x 0)/\(0<=fb.getD x 0->∃ k:Nat,r.2.getD x 0=(k:Int)/\r.1[k]? =some (fb.getD x 0))
theorem Kk{l:List Int}{x y:Nat}{v:Int}(hx:x < l.length):(l.set x v).getD y 0=if y=x then v else l.getD y 0:=by
 rw[taa,taa]
 by_cases h:y=x
 ·subst h;rw[Maa hx,if_pos rfl];rfl
 ·rw[Gaa (lac h),kaa h]
theorem u6.next{fb O:List Int}{n:Nat}{r:List Int×List Int}(h:u6 fb O n r)(hn:n < fb.length):
 u6 fb O (n+1) (yj n (fb.getD n 0) r)/\(yj n (fb.getD n 0) r).2.getD n 0<=r.1.length/\
 (((yj n (fb.getD n 0) r).1.length:Int)=if (yj n (fb.getD n 0) r).2.getD n 0=r.1.length then (r.1.length:Int)+1 else r.1.length)/\
 (∀ x,x < n->(yj n (fb.getD n 0) r).2.getD x 0=r.2.getD x 0):=by
 obtain⟨t,ht,hts⟩:=h.ext
 have hl:n < r.2.length:=by rw[h.len];exact hn
 have J7:∀ x,x < n->x≠n:=fun x hx=>by omega
 unfold yj
 by_cases h0:fb.getD n 0 < 0
 ·rw[if_pos h0]
  have hv:=h.hi n (paa _)
  refine⟨⟨h.len,fun x hx=>h.hi x (by omega),⟨t,ht,fun o ho=>⟨(hts o ho).1,by obtain⟨x,hx,e⟩:=(hts o ho).2;exact⟨x,by omega,e⟩⟩⟩,h.nodup,?_⟩,by rw[hv];omega,by rw[hv,kaa (by omega)],fun x hx=>rfl⟩;intro x hx;rcases Qaa x n with h1 | h1
  ·exact h.val x h1
  ·have:x=n:=by omega
   subst this;exact⟨fun _=>hv,fun h2=>by omega⟩
 ·rw[kaa h0]
  cases hi:Av (fb.getD n 0) r.1 0 with
  |some k=>
   have hk:=(bK hi).2
   rw[pae] at hk;have hkl:=(iaa.1 hk).1
   simp only;refine⟨⟨by rw[qac,h.len],?_,⟨t,ht,fun o ho=>⟨(hts o ho).1,by obtain⟨x,hx,e⟩:=(hts o ho).2;exact⟨x,by omega,e⟩⟩⟩,h.nodup,?_⟩,?_,?_,?_⟩
   ·intro x hx;rw[Kk hl,kaa (by omega)];exact h.hi x (by omega)
   ·intro x hx
    rcases Qaa x n with h1 | h1
    ·rw[Kk hl,kaa (by omega)];exact h.val x h1
    ·have:x=n:=by omega
     subst this;rw[Kk hl,if_pos rfl];exact⟨fun h2=>absurd h2 h0,fun _=>⟨k,rfl,hk⟩⟩
   ·rw[Kk hl,if_pos rfl];omega
   ·rw[Kk hl,if_pos rfl,kaa (by omega)]
   ·intro x hx;rw[Kk hl,kaa (by omega)]
  |none=>
   have hnm:=SC hi;simp only;refine⟨⟨by rw[qac,h.len],?_,⟨t++[fb.getD n 0],by rw[ht,Dab],?_⟩,?_,?_⟩,?_,?_,?_⟩
   ·intro x hx;rw[Kk hl,kaa (by omega)];exact h.hi x (by omega)
   ·intro o ho
    rcases Jaa.1 ho with h1 | h1
    ·exact⟨(hts o h1).1,by obtain⟨x,hx,e⟩:=(hts o h1).2;exact⟨x,by omega,e⟩⟩
    ·simp only[Hab] at h1;subst h1;exact⟨by omega,n,by omega,rfl⟩
   ·rw[List.nodup_append]
    refine⟨h.nodup,by simp,fun a ha b hb=> ?_⟩;simp only[Hab] at hb;subst hb;intro e;subst e;exact hnm ha
   ·intro x hx
    rcases Qaa x n with h1 | h1
    ·rw[Kk hl,kaa (by omega)]
     refine⟨(h.val x h1).1,fun h2=> ?_⟩;obtain⟨k,e1,e2⟩:=(h.val x h1).2 h2
     exact⟨k,e1,by rw[eaa (iaa.1 e2).1];exact e2⟩
    ·have:x=n:=by omega
     subst this;rw[Kk hl,if_pos rfl];exact⟨fun h2=>absurd h2 h0,fun _=>⟨_,rfl,by simp⟩⟩
   ·rw[Kk hl,if_pos rfl];omega
   ·rw[Kk hl,if_pos rfl,if_pos rfl,raa];simp
   ·intro x hx;rw[Kk hl,kaa (by omega)]
theorem LV{fb O:List Int}(hO:O.Nodup):∀ n:Nat,n<=fb.length->u6 fb O n (Td fb (List.range n) (O,fb))/\
 (∀ x,x < n->(Td fb (List.range n) (O,fb)).2.getD x 0<=((Td fb (List.range x) (O,fb)).1.length:Int)/\
  ((Td fb (List.range (x+1)) (O,fb)).1.length:Int)=if (Td fb (List.range n) (O,fb)).2.getD x 0=((Td fb (List.range x) (O,fb)).1.length:Int) then ((Td fb (List.range x) (O,fb)).1.length:Int)+1 else ((Td fb (List.range x) (O,fb)).1.length:Int))
 |0,_=>⟨⟨rfl,fun x _=>rfl,⟨[],by simp[Td]⟩,hO,by omega⟩,by omega⟩
 |n+1,hn=>by
  obtain⟨h1,h2⟩:=LV (fb:=fb) hO n (by omega);obtain⟨k1,k2,k3,k4⟩:=h1.next (by omega)
  have e:Td fb (List.range (n+1)) (O,fb)=yj n (fb.getD n 0) (Td fb (List.range n) (O,fb)):=by rw[gad,fH];rfl
  refine⟨by rw[e];exact k1,fun x hx=> ?_⟩;rcases Qaa x n with h3 | h3
  ·rw[e,k4 x h3];exact h2 x h3
  ·have:x=n:=by omega
   subst this;rw[e];exact⟨k2,k3⟩
structure LM(D:List Int)(O:List Int)(o:Int)(e:List ae):Prop where
 ex:∃ row,e=wg row/\∀ x,x < 256->((Va D o.toNat).getD x 0 < 0->row.getD x 0=(Va D o.toNat).getD x 0)/\
  (0<=(Va D o.toNat).getD x 0->∃ k:Nat,row.getD x 0=(k:Int)/\O[k]? =some ((Va D o.toNat).getD x 0))
theorem LM.mono{D O:List Int}{o:Int}{e:List ae}(h:LM D O o e)(t:List Int):LM D (O++t) o e:=by
 obtain⟨row,h1,h2⟩:=h.ex
 refine⟨row,h1,fun x hx=>⟨(h2 x hx).1,fun h0=> ?_⟩⟩;obtain⟨k,h3,h4⟩:=(h2 x hx).2 h0
 exact⟨k,h3,by rw[eaa (iaa.1 h4).1];exact h4⟩
def qL:Int->Int->List (List ae)->Prop
 |_,_,[]=>True
 |m,i,e::l=>i < m/\fA m e/\qL (yC m e) (i+1) l
def UK(m:Int)(l:List (List ae)):Int:=l.foldl yC m
theorem jE:∀ {m i:Int}{l:List (List ae)}{e:List ae},qL m i l->i+l.length < UK m l->fA (UK m l) e->qL m i (l++[e])
 |m,i,[],e,_,h1,h2=>⟨by simpa[UK] using h1,h2,trivial⟩
 |m,i,a::l,e,h,h1,h2=>⟨h.1,h.2.1,jE h.2.2 (by simp only[Oaa] at h1;simp only[UK,uad] at h1;simp only[UK];omega) h2⟩
theorem GU(m:Int)(l:List (List ae))(e:List ae):UK m (l++[e])=yC (UK m l) e:=by
 unfold UK;rw[Lad];rfl
structure Ns(D:List Int)(n:Nat)(J:Int->Prop)(O:List Int)(l:List (List ae)):Prop where
 ord:Ax n O
 first:O[0]? =some 0
 le:l.length<=O.length
 rows:∀ (k:Nat) o e,O[k]? =some o->l[k]? =some e->LM D O o e
 met:UK 1 l=O.length
 H6:qL 1 0 l
 all:∀ o∈O,J o
 b7:∀ e∈l,∀ x∈e,x.to < O.length
section
variable {D:List Int}{n:Nat}{J:Int->Prop}(hD:D.length=n * 256)(cD:∀ c∈D,c < n)
 (hJ:∀ o,J o->0<=o->o < n->∀ x,x < 256->0<=(Va D o.toNat).getD x 0->J ((Va D o.toNat).getD x 0))
include hD cD hJ
theorem Ns.next{O:List Int}{l:List (List ae)}(h:Ns D n J O l){o:Int}(ho:O[l.length]? =some o):
 Ns D n J (Pg D o O).1 (l++[wg (Pg D o O).2]):=by
 have hoO:=nab ho;have hb:=h.ord.2 o hoO
 have E7:=(iaa.1 ho).1
 have hrl:(Va D o.toNat).length=256:=Di hD (by omega)
 obtain⟨k1,k2⟩:=LV (fb:=Va D o.toNat) h.ord.1 256 (by omega)
 obtain⟨t,ht,hts⟩:=k1.ext
 unfold Pg;have hm:=aJ (row:=(Td (Va D o.toNat) (List.range 256) (O,Va D o.toNat)).2) (g:=fun x=>((Td (Va D o.toNat) (List.range x) (O,Va D o.toNat)).1.length:Int)) (fun x=>by omega) 256 (fun x hx=>(k2 x hx).1) (fun x hx=>(k2 x hx).2);generalize hr:Td (Va D o.toNat) (List.range 256) (O,Va D o.toNat)=r at *;obtain⟨m1,m2,m3⟩:=hm;have hg0:((Td (Va D o.toNat) (List.range 0) (O,Va D o.toNat)).1.length:Int)=O.length:=rfl
 simp only[hg0] at m1 m2;have e1:Me r.2 (List.range 256) []=wg r.2:=rfl
 rw[e1] at m1 m2 m3;have N7:LM D r.1 o (wg r.2):=⟨r.2,rfl,fun x hx=>k1.val x hx⟩
 have hm':=h.met
 have T9:∀ x,x < 256->(Va D o.toNat).getD x 0 < n:=by intro x hx;rw[taa,aaa (by omega)];have:=jaa (l:=Va D o.toNat) (n:=x) (by omega);exact cD _ (by unfold Va at this;exact Vab (uac this))
 refine⟨⟨k1.nodup,?_⟩,?_,?_,?_,?_,?_,?_,?_⟩
 ·intro o' ho'
  rw[ht] at ho';rcases Jaa.1 ho' with h1 | h1
  ·exact h.ord.2 o' h1
  ·obtain⟨h2,x,hx,rfl⟩:=hts o' h1;exact⟨h2,T9 x hx⟩
 ·rw[ht,eaa (by omega)];exact h.first
 ·rw[ht];simp;omega
 ·intro k o' e h1 h2
  rcases Qaa k l.length with h3 | h3
  ·rw[eaa h3] at h2
   rw[ht,eaa (by omega)] at h1;rw[ht];exact (h.rows k o' e h1 h2).mono t
  ·have h4:=(iaa.1 h2).1
   have:k=l.length:=by simp at h4;omega
   subst this;rw[Kaa (paa _)] at h2;simp at h2;subst h2;rw[ht,eaa (by omega),ho] at h1;injection h1 with h1;subst h1;exact N7
 ·rw[GU,hm',m1]
 ·exact jE h.H6 (by rw[hm'];omega) (by rw[hm'];exact m2)
 ·intro o' ho'
  rw[ht] at ho';rcases Jaa.1 ho' with h1 | h1
  ·exact h.all o' h1
  ·obtain⟨h2,x,hx,rfl⟩:=hts o' h1;exact hJ o (h.all o hoO) hb.1 hb.2 x hx h2
 ·intro e he x hx
  rcases Jaa.1 he with h1 | h1
  ·have:=h.b7 e h1 x hx;rw[ht,raa];omega
  ·simp only[Hab] at h1;subst h1;exact m3 x hx
theorem Ns.go:∀ (f:Nat)(O:List Int)(l:List (List ae)),Ns D n J O l->n<=l.length+f->Ns D n J (Vj D f (O,l)).1 (Vj D f (O,l)).2/\(Vj D f (O,l)).1.length=(Vj D f (O,l)).2.length
 |0,O,l,h,hf=>⟨h,by have:=h.ord.len;have:=h.le;show O.length=l.length;omega⟩
 |f+1,O,l,h,hf=>by
  cases ho:O[l.length]? with
  |none=>
   rw[js (r:=(O,l)) ho];have:=List.getElem?_eq_none_iff.1 ho
   exact⟨h,by have:=h.le;show O.length=l.length;omega⟩
  |some o=>rw[Gt (r:=(O,l)) ho];exact Ns.go f _ _ (h.next hD cD hJ ho) (by simp;omega)
theorem LY(hn:n<=64)(h0:0 < n)(hJ0:J 0):∃ O,Ns D n J O (ep D)/\O.length=(ep D).length:=by
 have h:Ns D n J [0] []:=⟨⟨by simp,by simp;omega⟩,rfl,by simp,by simp,rfl,trivial,by simpa using hJ0,by simp⟩;have:=Ns.go hD cD hJ 64 [0] [] h (by simp;omega)
 exact⟨_,this.1,this.2⟩
end
open Go.AM Go.AM.So
structure YZ(ss:List Ob)(B7:List Al)(C:List (List Int))(O:List Int)(l:List (List ae)):Prop where
 ok:Xb ss
 pre:Hf ss
 W:xm ss B7 C
 hl:C.length=B7.length
 told:Ns (mf C.length C.flatten).C C.length (fun o=>∃ j,j < C.length/\o=co C j) O l
 len:O.length=l.length
 pos:0 < C.length
 le:C.length<=64
theorem ZK(C:List (List Int)):co C 0=0:=by unfold co;rw[if_pos rfl]
section
variable {ss:List Ob}{B7:List Al}{C:List (List Int)}(W:xm ss B7 C)(hl:C.length=B7.length)
include W hl
theorem kS{j x:Nat}(hj:j < C.length)(hx:x < 256):Xs C j x=if 0<=dh C j x then co C (dh C j x).toNat else dh C j x:=by
 unfold Xs
 split
 ·next h=>
  have:=W.zC hl hj hx h
  unfold co;rw[kaa (by omega)]
 ·rfl
end
theorem nS{ss:List Ob}{l:List (List ae)}(Ba:Xb ss)(I7:Hf ss)(h:ig ss=some l):∃ B7 C O,YZ ss B7 C O l:=by
 unfold ig at h;rw[daa] at h;obtain⟨⟨B7,C⟩,hw,rfl⟩:=h;obtain⟨W,hl⟩:=YJ Ba.len (fun s hs=>(Ba.ct s hs).lo) hw
 have W:xm ss B7 C:=W;have hl:C.length=B7.length:=hl
 have hm:=W.QA hl
 have h0:0 < C.length:=by rw[hl];exact (iaa.1 W.first).1
 have h64:C.length<=64:=by rw[hl];exact W.ok.1
 have K7:∀ j x,j < C.length->x < 256->(Va (mf C.length C.flatten).C (co C j).toNat).getD x 0=Xs C j x:=fun j x hj hx=>NL W hl hj hx
 obtain⟨O,h1,h2⟩:=LY (n:=C.length) (J:=fun o=>∃ j,j < C.length/\o=co C j) (D:=(mf C.length C.flatten).C) hm.hC (by
  intro c hc;obtain⟨p,hp,rfl⟩:=qab hc;have X7:p < C.length * 256:=by rw[<- hm.hC];exact hp
  have e1:(mf C.length C.flatten).C[p]=(Va (mf C.length C.flatten).C (p / 256)).getD (p % 256) 0:=by
   rw[taa,Hu (yae _ (by omega))];have:p / 256 * 256+p % 256=p:=by omega
   rw[this,aaa hp];rfl
  rw[e1,W.yU hl (by omega) (yae _ (by omega))];have hb:=W.bound hl (k:=p / 256) (x:=p % 256) (by omega) (yae _ (by omega))
  unfold Xs
  split
  ·exact (hm.Fq (j:=(dh C (p / 256) (p % 256)).toNat) (by omega)).2.1
  ·exact hb.2) (by
  rintro o ⟨j,hj,rfl⟩ _ _ x hx h3;rw[K7 j x hj hx,kS W hl hj hx] at h3 ⊢;have hb:=W.bound hl hj hx
  split at h3
  ·next h4=>rw[if_pos h4];exact⟨_,by omega,rfl⟩
  ·omega) h64 h0 ⟨0,h0,(ZK C).symm⟩
 exact⟨B7,C,O,Ba,I7,W,hl,h1,h2,h0,h64⟩
section
variable {ss:List Ob}{B7:List Al}{C:List (List Int)}{O:List Int}{l:List (List ae)}
theorem YZ.first(h:YZ ss B7 C O l):O[0]? =some (co C 0):=by rw[ZK];exact h.told.first
theorem YZ.row(h:YZ ss B7 C O l){k j:Nat}(hk:O[k]? =some (co C j))(hj:j < C.length):∃ row,l[k]? =some (wg row)/\
 ∀ x,x < 256->(dh C j x < 0->row.getD x 0=dh C j x)/\(0<=dh C j x->∃ k':Nat,row.getD x 0=(k':Int)/\0 < k'/\O[k']? =some (co C (dh C j x).toNat)):=by
 have hkl:=(iaa.1 hk).1
 have hle:=h.len
 have he:l[k]? =some l[k]:=aaa (by omega);obtain⟨row,h1,h2⟩:=(h.told.rows k _ _ hk he).ex
 refine⟨row,by rw[he,h1],fun x hx=> ?_⟩;have h3:=h2 x hx;rw[NL h.W h.hl hj hx,kS h.W h.hl hj hx] at h3;constructor
 ·intro h4
  rw[kaa (by omega)] at h3;exact h3.1 h4
 ·intro h4
  rw[if_pos h4] at h3;have hd:=h.W.zC h.hl hj hx h4
  have hb:=h.W.bound h.hl hj hx
  have hc:0<=co C (dh C j x).toNat:=by
   unfold co;split
   ·omega
   ·exact ((h.W.QA h.hl).Fq (by omega)).1
  obtain⟨k',e1,e2⟩:=h3.2 hc
  refine⟨k',e1,?_,e2⟩;rcases Sac k' with rfl | h5
  ·rw[h.first,ZK] at e2
   injection e2 with e2
   unfold co at e2;rw[kaa (by omega)] at e2;exact absurd e2.symm (XR h.ok h.pre h.W h.hl (by omega) (by omega))
  ·exact h5
end
section
variable {ss:List Ob}{B7:List Al}{C:List (List Int)}{O:List Int}{l:List (List ae)}(h:YZ ss B7 C O l)
include h
theorem YZ.step{k j:Nat}(hk:O[k]? =some (co C j))(hj:j < C.length){x:Nat}(hx:x < 256):
 (dh C j x= -2/\Md l (k:Int) (x:Int)=(0,false))\/(dh C j x= -1/\Md l (k:Int) (x:Int)=(-1,true))\/
 (0<=dh C j x/\dh C j x < C.length/\∃ k':Nat,Md l (k:Int) (x:Int)=((k':Int),true)/\0 < k'/\O[k']? =some (co C (dh C j x).toNat)):=by
 obtain⟨row,h1,h2⟩:=h.row hk hj
 have h3:=(qD row).step x hx
 obtain⟨h4,h5⟩:=h2 x hx;have hb:=h.W.bound h.hl hj hx
 have hs:Md l (k:Int) (x:Int)=match ah (x:Int) (wg row) with
  |some t=>(t,true)
  |none=>(0,false):=by
  unfold Md;rw[kaa (by omega),Daa,h1] <;> rfl
 rw[h3] at hs
 by_cases c0:0<=dh C j x
 ·obtain⟨k',e1,e2,e3⟩:=h5 c0
  rw[e1,kaa (by omega)] at hs;exact .inr (.inr ⟨c0,hb.2,k',hs,e2,e3⟩)
 ·have h6:=h4 (by omega)
  rw[h6] at hs
  by_cases c1:dh C j x= -2
  ·rw[if_pos c1] at hs;exact .inl ⟨c1,hs⟩
  ·have c2:dh C j x= -1:=by omega
   rw[kaa c1,c2] at hs;exact .inr (.inl ⟨c2,hs⟩)
theorem YZ.match:∀ (bs:List Nat)(i k j:Nat),Bytes bs->O[k]? =some (co C j)->j < C.length->
 ∃ m:Nat,m<=bs.length/\((Tg l i (k:Int) (bs.map fun (n:Nat)=>(n:Int))=(((i+m:Nat):Int),1)/\0 < m/\runT C j (bs.take m)= -1)\/
  (Tg l i (k:Int) (bs.map fun (n:Nat)=>(n:Int))=(((i+m:Nat):Int),2)/\m=bs.length/\0<=runT C j bs)\/
  (Tg l i (k:Int) (bs.map fun (n:Nat)=>(n:Int))=(((i+m:Nat):Int),3)/\m < bs.length/\0<=runT C j (bs.take m)/\runT C j (bs.take (m+1))= -2))
 | [],i,k,j,_,hk,hj=>⟨0,by simp,.inr (.inl ⟨rfl,rfl,Int.natCast_nonneg j⟩)⟩
 |x::bs,i,k,j,hb,hk,hj=>by
  have hx:x < 256:=hb x (by simp);have hbs:Bytes bs:=fun y hy=>hb y (by simp[hy]);have hj0:¬((j:Int) < 0):=by omega
  rw[lab,Tg];rcases h.step hk hj hx with⟨h1,h2⟩ | ⟨h1,h2⟩ | ⟨h1,D9,k',h2,h3,h4⟩
  ·rw[h2]
   refine⟨0,by simp,.inr (.inr ⟨rfl,by simp,Int.natCast_nonneg j,?_⟩)⟩;show runT C j [x]= -2;rw[runT,kaa hj0,Daa,h1];rfl
  ·rw[h2]
   refine⟨1,by simp,.inl ⟨rfl,by omega,?_⟩⟩;show runT C j [x]= -1;rw[runT,kaa hj0,Daa,h1];rfl
  ·rw[h2]
   simp only[Bool.true_eq_false,if_false];rw[kaa (by omega)];obtain⟨m,hm,hc⟩:=YZ.match bs (i+1) k' (dh C j x).toNat hbs h4 (by omega)
   have hr:∀ w,runT C j (x::w)=runT C ((dh C j x).toNat:Nat) w:=by intro w;rw[runT,kaa hj0,Daa,sac h1]
   have he:i+1+m=i+(m+1):=by omega
   rw[he] at hc;refine⟨m+1,by simp;omega,?_⟩;rcases hc with⟨c1,c2,c3⟩ | ⟨c1,c2,c3⟩ | ⟨c1,c2,c3,c4⟩
   ·exact .inl ⟨c1,by omega,by rw[lad,hr];exact c3⟩
   ·exact .inr (.inl ⟨c1,by simp[c2],by rw[hr];exact c3⟩)
   ·exact .inr (.inr ⟨c1,by simp;omega,by rw[lad,hr];exact c3,by rw[lad,hr];exact c4⟩)
end
theorem xJ{ss:List Ob}{l:List (List ae)}(Ba:Xb ss)(I7:Hf ss)(ha:ig ss=some l)(bs:List Nat)(hb:Bytes bs):
 ∃ m:Nat,m<=bs.length/\((Tg l 0 0 (bs.map fun (n:Nat)=>(n:Int))=((m:Int),1)/\∃ s∈ss,Full s (bs.take m))\/
  (Tg l 0 0 (bs.map fun (n:Nat)=>(n:Int))=((m:Int),2)/\m=bs.length/\(bs=[]\/∃ s∈ss,Wn s bs)/\∀ s∈ss,¬Full s bs)\/
  (Tg l 0 0 (bs.map fun (n:Nat)=>(n:Int))=((m:Int),3)/\m < bs.length/\(bs.take m=[]\/∃ s∈ss,Wn s (bs.take m))/\(∀ s∈ss,¬Full s (bs.take m))/\∀ s∈ss,¬Wn s (bs.take (m+1)))):=by
 obtain⟨B7,C,O,h⟩:=nS Ba I7 ha;obtain⟨m,hm,hc⟩:=h.match bs 0 0 0 hb h.first h.pos
 have hbt:∀ m,Bytes (bs.take m):=fun m x hx=>hb x (uac hx);have Fae:∀ w,Bytes w->O2 ss B7 w (runT C 0 w):=fun w hw=>oC Ba I7 h.W h.hl _ w rfl hw
 rw[Zaa] at hc;refine⟨m,hm,?_⟩;rcases hc with⟨c1,c2,c3⟩ | ⟨c1,c2,c3⟩ | ⟨c1,c2,c3,c4⟩
 ·refine .inl ⟨c1,?_⟩
  rcases Fae _ (hbt m) with⟨_,q⟩ | ⟨q,_⟩ | ⟨q,_⟩
  ·exact q
  ·have:runT C ((0:Nat):Int) (bs.take m)= -1:=c3
   rw[show ((0:Nat):Int)=0 from rfl] at this;omega
  ·have:runT C ((0:Nat):Int) (bs.take m)= -1:=c3
   rw[show ((0:Nat):Int)=0 from rfl] at this;omega
 ·refine .inr (.inl ⟨c1,c2,?_⟩)
  rw[show ((0:Nat):Int)=0 from rfl] at c3;rcases Fae _ hb with⟨q,_⟩ | ⟨_,_,q1,q2⟩ | ⟨q,_⟩
  ·omega
  ·refine⟨?_,q2⟩
   rcases q1 with q1 | ⟨s,h1,h2,_⟩
   ·exact .inl q1
   ·exact .inr ⟨s,h1,h2⟩
  ·omega
 ·rw[show ((0:Nat):Int)=0 from rfl] at c3 c4
  refine .inr (.inr ⟨c1,c2,?_⟩)
  have h4:∀ s∈ss,¬Wn s (bs.take (m+1)):=by
   rcases Fae _ (hbt (m+1)) with⟨q,_⟩ | ⟨q,_⟩ | ⟨_,_,q⟩
   ·omega
   ·omega
   ·exact q
  rcases Fae _ (hbt m) with⟨q,_⟩ | ⟨_,_,q1,q2⟩ | ⟨q,_⟩
  ·omega
  ·refine⟨?_,q2,h4⟩
   rcases q1 with q1 | ⟨s,h1,h2,_⟩
   ·exact .inl q1
   ·exact .inr ⟨s,h1,h2⟩
  ·omega
theorem yT{row:List Int}{e:ae}(he:e∈wg row):0<=e.lo/\e.lo<=e.hi/\e.hi < 256/\e.to≠ -2/\e.to=row.getD e.lo.toNat 0:=by
 have h:=qD row;obtain⟨h1,h2,h3,h4⟩:=h.Ty e he
 have hs:=h.step e.lo.toNat (by omega)
 rw[sac h1,MF h.ord e he (Lac _) h2] at hs;refine⟨h1,h2,h3,h4,?_⟩
 split at hs
 ·cases hs
 ·injection hs
theorem cH{ss:List Ob}{l:List (List ae)}(Ba:Xb ss)(I7:Hf ss)(h:ig ss=some l):∀ e∈l,Dj e:=by
 obtain⟨B7,C,O,L⟩:=nS Ba I7 h;intro e he;obtain⟨k,hk,rfl⟩:=qab he;have hkO:k < O.length:=by rw[L.len];exact hk
 obtain⟨j,hj,ho⟩:=L.told.all O[k] (jaa hkO)
 obtain⟨row,h1,h2⟩:=L.row (k:=k) (j:=j) (by rw[aaa hkO,ho]) hj
 rw[aaa hk] at h1;injection h1 with h1
 have Iai:=L.told.b7 _ (jaa hk)
 have h64:=(DC h).1
 have hlen:=L.len
 rw[h1] at Iai ⊢;refine⟨fun x hx=> ?_,(qD row).ord⟩;obtain⟨e1,e2,e3,e4,e5⟩:=yT hx;have:=Iai x hx;refine⟨e1,e2,e3,?_,by omega⟩;obtain⟨f1,f2⟩:=h2 x.lo.toNat (by omega)
 by_cases hc:dh C j x.lo.toNat < 0
 ·have hb:=L.W.bound L.hl hj (x:=x.lo.toNat) (by omega)
  rw[f1 hc] at e5;omega
 ·obtain⟨k',g1,_⟩:=f2 (by omega)
  rw[g1] at e5;omega
def AL(r:List Int):PV:= .agg (r.map i64)
theorem QF{sz:Nat}:∀ {D:List (List PV)},(∀ r∈D,r.length=sz)->chunk sz true D.length D.flatten=D.map .agg
 | [],_=>rfl
 |r::D,h=>by have hr:=h r (by simp);rw[Oaa,chunk,if_pos rfl,Uab,List.take_left' hr,List.drop_left' hr,QF fun x hx=>h x (by simp[hx])];rfl
theorem gC:∀ {D:List (List Int)},(∀ r∈D,r.length=3)->ni 3 D.length D.flatten=D
 | [],_=>rfl
 |r::D,h=>by have hr:=h r (by simp);rw[Oaa,ni,Uab,List.take_left' hr,List.drop_left' hr,gC fun x hx=>h x (by simp[hx])]
def Sj(ss:List Ob):List (List Int):=(Dq 3 0 (Fj ss ss.length).toArray).toList
theorem Zr(ss:List Ob):(Sj ss).Perm (Fj ss ss.length):=(SB 3 0 (Fj ss ss.length).toArray).2.1
theorem FC{ss:List Ob}{r:List Int}(h:r∈Sj ss):r.length=3:=zz ((Zr ss).mem_iff.1 h)
theorem AI(ss:List Ob):(Sj ss).length=ss.length:=by rw[(Zr ss).length_eq,Jr]
structure Ko(T:PV)(ss:List Ob)(l:List (List ae)):Prop where
 ex:∃ S' NX DG RW,T= .rp [S',Qk l,NX,DG,RW,i64 (Cj ss)] 0/\Uh 2 S' (ss.map pf)/\Uh 256 NX (l.map dp)/\Uh 1 DG (ss.map fun s=>Ij s.parts)/\Uh 3 RW ((Sj ss).map AL)
section
variable {S:PV}{ss:List Ob}{es:List PV}(hS:pb S ss es)
include hS
theorem ZD{n:Int}{V:PV}(hV:(AV.pv V).one=true)(h0:n≠0)(h1:n≠130)(hb:Hc [.agg [S]]=some (.mc [.agg [V],i64 n])):Jb [.agg [S]]=some (.mc [.sf,i64 n]):=by
 have K8:(AV.pv S).one=true:=by rcases hS.is with⟨h,_⟩ | h <;> rw[h] <;> rfl
 have d0:(n==0)=false:=by simp[h0]
 have d1:(n==130)=false:=by simp[h1]
 have d2:(n != 0)=true:=by simp[h0]
 have st:Ha [.box [.pv .ga]] 1 (.ptr 0 0) (.pv (.agg [V]))=some [.box [.pv V]]:=by simp[Ha,AV.cells,PV.cells,hV,fa]
 simp -implicitDefEqProofs only[Jb,sE.eq_1,SX,sevalprocAttr,pj,K8,ue,hb,st,d0,d1,d2]
theorem JD{n:Int}{V:PV}{y:Bool}{a b:Int}(hV:(AV.pv V).one=true)(h0:n=0\/n=130)(hy:n=130\/y=false)(hb:Hc [.agg [S]]=some (.mc [.agg [V],i64 n]))(hi:Dh [.agg [S]]=some (.mc [.agg [.bool y,i64 a,i64 b],i64 0])):
 Jb [.agg [S]]=some (.mc [.sf,i64 (if y then n else 111)]):=by
 have K8:(AV.pv S).one=true:=by rcases hS.is with⟨h,_⟩ | h <;> rw[h] <;> rfl
 have st:Ha [.box [.pv .ga]] 1 (.ptr 0 0) (.pv (.agg [V]))=some [.box [.pv V]]:=by simp[Ha,AV.cells,PV.cells,hV,fa]
 have st2:Ha [.box [.pv V],.box [.pv (.bool false),.pv (i64 0),.pv (i64 0)]] 3 (.ptr 1 0) (.pv (.agg [.bool y,i64 a,i64 b]))=some [.box [.pv V],.box [.pv (.bool y),.pv (i64 a),.pv (i64 b)]]:=rfl;have p2:∀ a b c d,place [a,.box [b,c,d]] 0 (.ptr 1 0)=some (.ptr 1 0):=fun a b c d=>rfl;have l2:∀ a b c d,pa [a,.box [b,c,d]] false 1 (.ptr 1 0)=some b:=fun a b c d=>rfl;have z0:((0:Int)==0)=true:=rfl;have z1:((130:Int)==0)=false:=rfl;have z2:((130:Int)==130)=true:=rfl;have z3:((130:Int) != 0)=true:=rfl;have z4:((111:Int) != 0)=true:=rfl;rcases h0 with rfl | rfl
 ·obtain rfl:y=false:=by rcases hy with h | h;cases h;exact h
  simp -implicitDefEqProofs only[Jb,sE.eq_1,SX,sevalprocAttr,pj,K8,ue,hb,hi,st,st2,p2,l2,z0,z1,z2,z3,z4]
 ·cases y <;> simp -implicitDefEqProofs only[Jb,sE.eq_1,SX,sevalprocAttr,pj,K8,ue,hb,hi,st,st2,p2,l2,z0,z1,z2,z3,z4]
end
theorem tG(l:List Int)(n:Nat):(jg l).all (AV.oe n deep)=true:=by
 rw[Taa];intro x hx;obtain⟨y,_,rfl⟩:=fab.1 hx
 rfl
theorem DW{V S':PV}{y:Bool}{a b:Int}(nl:Bool)(ds:List PV)(D:List (List Int))(fl:Nat)(nr:Bool)(m:Int):
 Wd (Wz (.box [.pv V]) (.box [.pv (.bool y),.pv (i64 a),.pv (i64 b)]) (.tok 256 0 true) (.pv S') (.pv V) (.uq 3 true 256 []) nl ds D fl nr m):=by
 intro n hn o ho;have hn:6<=n:=hn;simp only[Wz,Xaa,hac,or_false] at ho;rcases ho with rfl | rfl | rfl | rfl | rfl | rfl
 ·exact Ks n [V]
 ·exact Ks n [.bool y,i64 a,i64 b]
 ·simp only[qa,Ra,Qa,eH (show 3 < n by omega),eH (show 4 < n by omega),aS (show 5 < n by omega),yaa,Haa]
 ·rfl
 ·rfl
 ·simp only[qa,tG,if_true]
theorem EX{V S':PV}{y:Bool}{a b m:Int}{nl:Bool}{ds:List PV}{D:List (List Int)}{fl k:Nat}{nr:Bool}(nx:Bool)(es:List PV):
 Wd (Wx (.box [.pv V]) (.box [.pv (.bool y),.pv (i64 a),.pv (i64 b)]) (.tok 1 k nl) (.seq 3 true (jg D.flatten) fl nr) (.pv S') (.pv V) (.uq 4 nl 1 ds) (.own 5 k) (.pv (i64 m)) nx es):=by
 intro n hn o ho;have hn:6<=n:=hn;simp only[Wx,Xaa,hac,or_false] at ho;rcases ho with rfl | rfl | rfl | rfl | rfl | rfl
 ·exact Ks n [V]
 ·exact Ks n [.bool y,i64 a,i64 b]
 ·simp only[qa,Ra,Qa,eH (show 3 < n by omega),eH (show 4 < n by omega),aS (show 5 < n by omega),yaa,Haa]
 ·rfl
 ·rfl
 ·simp only[qa,tG,if_true]
theorem BX{V S':PV}{o0 o1:ba}{m:Int}{nl nr nx:Bool}{ds es:List PV}{D:List (List Int)}{fl k:Nat}(hk:D.length=k)(hD:∀ r∈D,r.length=3)(h1:nl=true->ds=[])(h2:nr=true->D=[])(h3:nx=true->es=[]):
 ∃ NX DG RW,Tb (Wx o0 o1 (.tok 1 k nl) (.seq 3 true (jg D.flatten) fl nr) (.pv S') (.pv V) (.uq 4 nl 1 ds) (.own 5 k) (.pv (i64 m)) nx es) 5 (.ptr 2 0)=some (.rp [S',V,NX,DG,RW,i64 m] 0)/\
  Uh 256 NX es/\Uh 1 DG ds/\Uh 3 RW (D.map AL):=by
 refine⟨if nx then .ga else .lit 256 es,if nl then .ga else .lit 1 ds,if nr then .ga else .lit 3 (D.map AL),?_,?_,?_,?_⟩
 ·have hc:k * 3=(jg D.flatten).length/\(true||(3:Nat)==1)=true:=⟨by rw[haa,uz hD,hk],rfl⟩
  have hm:Ra (Tb (Wx o0 o1 (.tok 1 k nl) (.seq 3 true (jg D.flatten) fl nr) (.pv S') (.pv V) (.uq 4 nl 1 ds) (.own 5 k) (.pv (i64 m)) nx es) 3) (jg D.flatten)=some (D.flatten.map i64):=by
   generalize Wx o0 o1 (.tok 1 k nl) (.seq 3 true (jg D.flatten) fl nr) (.pv S') (.pv V) (.uq 4 nl 1 ds) (.own 5 k) (.pv (i64 m)) nx es=H;generalize D.flatten=F
   induction F with
   |nil=>rfl
   |cons x F ih=>show Ra (Tb H 3) (.pv (i64 x)::jg F)=_;rw[Ra,ih];rfl
  have hch:chunk 3 true k (D.flatten.map i64)=D.map AL:=by
   have:=QF (sz:=3) (D:=D.map fun r=>r.map i64) (by
    intro r hr;obtain⟨q,hq,rfl⟩:=fab.1 hr
    rw[haa,hD q hq])
   rw[haa,jad,<-List.map_flatten,hk] at this;exact this
  have h5:(Wx o0 o1 (.tok 1 k nl) (.seq 3 true (jg D.flatten) fl nr) (.pv S') (.pv V) (.uq 4 nl 1 ds) (.own 5 k) (.pv (i64 m)) nx es)[5]? =some (.seq 3 true (jg D.flatten) fl nr):=rfl;have hb:(Wx o0 o1 (.tok 1 k nl) (.seq 3 true (jg D.flatten) fl nr) (.pv S') (.pv V) (.uq 4 nl 1 ds) (.own 5 k) (.pv (i64 m)) nx es)[2]? =some (.box [.pv S',.pv V,.uq 3 nx 256 es,.uq 4 nl 1 ds,.own 5 k,.pv (i64 m)]):=rfl;have ho:Tb (Wx o0 o1 (.tok 1 k nl) (.seq 3 true (jg D.flatten) fl nr) (.pv S') (.pv V) (.uq 4 nl 1 ds) (.own 5 k) (.pv (i64 m)) nx es) 4 (.own 5 k)=some (if nr then .ga else .lit 3 (D.map AL)):=by simp only[Tb,h5,if_pos hc,hm,Haa,hch];cases nr <;> rfl
  generalize Wx o0 o1 (.tok 1 k nl) (.seq 3 true (jg D.flatten) fl nr) (.pv S') (.pv V) (.uq 4 nl 1 ds) (.own 5 k) (.pv (i64 m)) nx es=H at *;show (match H[2]? with | some (.box cells)=>(Ra (Tb H 4) cells).map fun ps=>PV.rp ps 0 | _=>none)=_;rw[hb];have hv:∀ p:PV,Tb H 4 (.pv p)=some p:=fun p=>rfl;have hu:∀ id nl sz es,Tb H 4 (.uq id nl sz es)=some (if nl then .ga else .lit sz es):=fun _ _ _ _=>rfl;simp only[Ra,hv,hu,ho,yaa,Haa]
 ·cases nx with
  |false=>exact .inr rfl
  |true=>exact .inl ⟨rfl,h3 rfl⟩
 ·cases nl with
  |false=>exact .inr rfl
  |true=>exact .inl ⟨rfl,h1 rfl⟩
 ·cases nr with
  |false=>exact .inr rfl
  |true=>exact .inl ⟨rfl,by rw[h2 rfl];rfl⟩
theorem bY{ss:List Ob}(h32:ss.length<=32){H:List ba}{fl:Nat}{nr:Bool}(hH:H[5]? =some (.seq 3 true (jg (Fj ss ss.length).flatten) fl nr)):
 si Nt (fun _=>none) 8 34 [.own 5 ss.length,.Ml 36 []] H=some (.pv (.mc []),H.set 5 (.seq 3 true (jg (Sj ss).flatten) (ss.length * 3) nr)):=by
 have e34:∀ (d:Nat) args H,si Nt (fun _=>none) (d+1) 34 args H=nC 3 0 36 args H:=fun d args H=>rfl;rw[e34 7];have hl:(jg (Fj ss ss.length).flatten).length=ss.length * 3:=by rw[haa,uz fun r hr=>zz hr,Jr]
 simp only[nC,hH];rw[if_pos ⟨trivial,trivial,hl.symm,by omega⟩,Ov,Haa,hl];have:=gC (D:=Fj ss ss.length) fun r hr=>zz hr;rw[Jr] at this;rw[this];rfl
theorem qF{S:PV}{ss:List Ob}{es:List PV}(hS:pb S ss es)(Ba:Xb ss)(I7:Hf ss){l:List (List ae)}(ha:ig ss=some l){a b:Int}(hi:Dh [.agg [S]]=some (.mc [.agg [.bool true,i64 a,i64 b],i64 0])):
 ∃ T,Jb [.agg [S]]=some (.mc [T,i64 0])/\Ko T ss l:=by
 have K8:(AV.pv S).one=true:=by rcases hS.is with⟨h,_⟩ | h <;> rw[h] <;> rfl
 have hb:=(nj hS).2.2.2 Ba I7 l ha
 obtain⟨S',hcp,hS'⟩:=KH hS Ba;have Lal:(AV.pv S').one=true:=by rcases hS' with⟨h,_⟩ | h <;> rw[h] <;> rfl
 have lS:=hS.Sb
 obtain⟨k64,Jai⟩:=DC ha;have Y7:=RF k64 Jai;have hV1:(AV.pv (Qk l)).one=true:=rfl
 have hVl:Uh 1 (Qk l) (l.map De):= .inr rfl
 have lV:=hVl.len
 rw[haa] at lV;have heo:=cH Ba I7 ha;obtain⟨V,hVe⟩:∃ V,V=Qk l:=⟨_,rfl⟩;rw[<- hVe] at hb Y7 hV1 hVl lV;have st:Ha [.box [.pv .ga]] 1 (.ptr 0 0) (.pv (.agg [V]))=some [.box [.pv V]]:=by simp[Ha,AV.cells,PV.cells,hV1,fa]
 have st2:Ha [.box [.pv V],.box [.pv (.bool false),.pv (i64 0),.pv (i64 0)]] 3 (.ptr 1 0) (.pv (.agg [.bool true,i64 a,i64 b]))=some [.box [.pv V],.box [.pv (.bool true),.pv (i64 a),.pv (i64 b)]]:=rfl;have p2:∀ a b c d,place [a,.box [b,c,d]] 0 (.ptr 1 0)=some (.ptr 1 0):=fun a b c d=>rfl;have l2:∀ a b c d,pa [a,.box [b,c,d]] false 1 (.ptr 1 0)=some b:=fun a b c d=>rfl;have l3:pa [.box [.pv V],.box [.pv (.bool true),.pv (i64 a),.pv (i64 b)]] true 1 (.ptr 0 0)=some (.pv (.agg [V])):=rfl;have z0:((0:Int)==0)=true:=rfl;have z1:((0:Int) != 0)=false:=rfl;have m1:fa [AV.pv PV.ga,.pv .ga,.pv .ga,.pv .ga,.pv .ga,.pv (.int .i64 0)] 0 [AV.pv S']=[.pv S',.pv .ga,.pv .ga,.pv .ga,.pv .ga,.pv (.int .i64 0)]:=rfl;have m2:fa [AV.pv S',.pv .ga,.pv .ga,.pv .ga,.pv .ga,.pv (.int .i64 0)] 1 [AV.pv V]=[.pv S',.pv V,.pv .ga,.pv .ga,.pv .ga,.pv (.int .i64 0)]:=rfl;have m3:Tc [AV.pv S',.pv V,.pv .ga,.pv .ga,.pv .ga,.pv (.int .i64 0)]=some [S',V,.ga,.ga,.ga,.int .i64 0]:=rfl;have hz1:(0 < 256)=True:=by simp
 have hz2:(0 < 3)=True:=by simp
 have hz3:(0 < 1)=True:=by simp
 suffices key:qd (fun r=>∃ T,r= .mc [T,i64 0]/\Ko T ss l) (Jb [.agg [S]]) by obtain⟨r,h1,T,rfl,h2⟩:=wc key;exact⟨T,h1,h2⟩
 generalize hQ:(fun r=>∃ T,r=PV.mc [T,i64 0]/\_)=Q;simp -implicitDefEqProofs only[Jb,sE.eq_1,SX,sevalprocAttr,pj,K8,hV1,Lal,ue,Wa,fc,hb,hi,st,st2,p2,l2,l3,z0,z1,hcp,m1,m2,m3,TB,fe,hz1,hz2,hz3,lS];generalize W7:(Tr.set _ 48 _:Tr)=E;have q4:E.get 4= .ptr 0 0:=by rw[<- W7];simp[Tr.aa]
 have q8:E.get 8= .ptr 2 0:=by rw[<- W7];simp[Tr.aa]
 have q46:E.get 46= .pv S:=by rw[<- W7];simp[Tr.aa]
 have q47:E.get 47= .pv (i64 ss.length):=by rw[<- W7];simp[Tr.aa]
 have q48:E.get 48= .pv (i64 0):=by rw[<- W7];simp[Tr.aa]
 refine wa (uZ (call:=si Nt (fun _=>none) 8) (DW (V:=V) (S':=S') (y:=true) (a:=a) (b:=b)) hS Ba q4 q8 q46 q47 q48) ?_;rintro r ⟨_,E2,nl,nr,rfl,g4,g8,j8,hnr⟩;have hdl:(ss.map fun s=>Ij s.parts).length=ss.length:=by rw[haa]
 have hrl:=Jr ss ss.length
 have hDl:=AI ss;have p5:∀ d,place (Wz (.box [.pv V]) (.box [.pv (.bool true),.pv (i64 a),.pv (i64 b)]) (.tok 256 0 true) (.pv S') (.pv V) (.uq 3 true 256 []) nl (ss.map fun s=>Ij s.parts) (Fj ss ss.length) 0 nr (Cj ss)) d (.ptr 2 0)=some (.ptr 2 (0+d)):=fun d=>Vg rfl d 0;have l5:pa (Wz (.box [.pv V]) (.box [.pv (.bool true),.pv (i64 a),.pv (i64 b)]) (.tok 256 0 true) (.pv S') (.pv V) (.uq 3 true 256 []) nl (ss.map fun s=>Ij s.parts) (Fj ss ss.length) 0 nr (Cj ss)) false 1 (.ptr 2 4)=some (.own 5 ss.length):=by rw[<- hrl,Jr];show some (AV.own 5 (Fj ss ss.length).length)=_;rw[hrl]
 have Aaf:=bY Ba.len (H:=Wz (.box [.pv V]) (.box [.pv (.bool true),.pv (i64 a),.pv (i64 b)]) (.tok 256 0 true) (.pv S') (.pv V) (.uq 3 true 256 []) nl (ss.map fun s=>Ij s.parts) (Fj ss ss.length) 0 nr (Cj ss)) rfl
 have hHT:(Wz (.box [.pv V]) (.box [.pv (.bool true),.pv (i64 a),.pv (i64 b)]) (.tok 256 0 true) (.pv S') (.pv V) (.uq 3 true 256 []) nl (ss.map fun s=>Ij s.parts) (Fj ss ss.length) 0 nr (Cj ss)).set 5 (.seq 3 true (jg (Sj ss).flatten) (ss.length * 3) nr)=Wx (.box [.pv V]) (.box [.pv (.bool true),.pv (i64 a),.pv (i64 b)]) (.tok 1 ss.length nl) (.seq 3 true (jg (Sj ss).flatten) (ss.length * 3) nr) (.pv S') (.pv V) (.uq 4 nl 1 (ss.map fun s=>Ij s.parts)) (.own 5 ss.length) (.pv (i64 (Cj ss))) true []:=by unfold Wz Wx;rw[hdl,hrl];rfl
 rw[hHT] at Aaf;have p6:∀ d,place (Wx (.box [.pv V]) (.box [.pv (.bool true),.pv (i64 a),.pv (i64 b)]) (.tok 1 ss.length nl) (.seq 3 true (jg (Sj ss).flatten) (ss.length * 3) nr) (.pv S') (.pv V) (.uq 4 nl 1 (ss.map fun s=>Ij s.parts)) (.own 5 ss.length) (.pv (i64 (Cj ss))) true []) d (.ptr 0 0)=some (.ptr 0 (0+d)):=fun d=>Vg rfl d 0;have l6:pa (Wx (.box [.pv V]) (.box [.pv (.bool true),.pv (i64 a),.pv (i64 b)]) (.tok 1 ss.length nl) (.seq 3 true (jg (Sj ss).flatten) (ss.length * 3) nr) (.pv S') (.pv V) (.uq 4 nl 1 (ss.map fun s=>Ij s.parts)) (.own 5 ss.length) (.pv (i64 (Cj ss))) true []) false 1 (.ptr 0 0)=some (.pv V):=rfl;have hnx:=fun (E3:Tr)(r8:E3.get 8= .ptr 2 0)(r101:E3.get 101= .pv V)(r102:E3.get 102= .pv (i64 l.length))(r103:E3.get 103= .pv (i64 0))=>
  iZ (call:=si Nt (fun _=>none) 8) (EX (V:=V) (S':=S') (y:=true) (a:=a) (b:=b) (m:=Cj ss) (nl:=nl) (ds:=ss.map fun s=>Ij s.parts) (D:=Sj ss) (fl:=ss.length * 3) (k:=ss.length) (nr:=nr)) hVl k64 Jai heo r8 r101 r102 r103
 obtain⟨NX,hNX⟩:∃ x,x=fun nx=>Wx (.box [.pv V]) (.box [.pv (.bool true),.pv (i64 a),.pv (i64 b)]) (.tok 1 ss.length nl) (.seq 3 true (jg (Sj ss).flatten) (ss.length * 3) nr) (.pv S') (.pv V) (.uq 4 nl 1 (ss.map fun s=>Ij s.parts)) (.own 5 ss.length) (.pv (i64 (Cj ss))) nx (l.map dp):=⟨_,rfl⟩;have zaq:=hnx;generalize Wz (.box [.pv V]) (.box [.pv (.bool true),.pv (i64 a),.pv (i64 b)]) (.tok 256 0 true) (.pv S') (.pv V) (.uq 3 true 256 []) nl (ss.map fun s=>Ij s.parts) (Fj ss ss.length) 0 nr (Cj ss)=HS at *;simp -implicitDefEqProofs only[SX,sevalprocAttr,g4,g8,p5,l5,Aaf,p6,l6,lV];generalize Gae:(Tr.set _ 103 _:Tr)=E3;refine wa (hnx E3 (by rw[<- Gae];simp[Tr.aa,g8]) (by rw[<- Gae];simp[Tr.aa]) (by rw[<- Gae];simp[Tr.aa]) (by rw[<- Gae];simp[Tr.aa])) ?_;rintro r ⟨_,E4,nx,rfl,r8,hx⟩;obtain⟨NX,DG,RW,t1,t2,t3,t4⟩:=BX (V:=V) (S':=S') (o0:= .box [.pv V]) (o1:= .box [.pv (.bool true),.pv (i64 a),.pv (i64 b)]) (m:=Cj ss) (nl:=nl) (nr:=nr) (nx:=nx) (ds:=ss.map fun s=>Ij s.parts) (es:=l.map dp) (D:=Sj ss) (fl:=ss.length * 3) (k:=ss.length) hDl (fun r hr=>FC hr) (fun h=>by rw[j8 h];rfl) (fun h=>by have:=hDl;rw[hnr h] at this ⊢;exact qaa this) (fun h=>by rw[hx h];rfl);generalize Wx (.box [.pv V]) (.box [.pv (.bool true),.pv (i64 a),.pv (i64 b)]) (.tok 1 ss.length nl) (.seq 3 true (jg (Sj ss).flatten) (ss.length * 3) nr) (.pv S') (.pv V) (.uq 4 nl 1 (ss.map fun s=>Ij s.parts)) (.own 5 ss.length) (.pv (i64 (Cj ss))) nx (l.map dp)=HT at *;have hm1:Fy [AV.ptr 2 0,.pv (.int .i64 0)]= .mc [.ptr 2 0,.pv (.int .i64 0)]:=rfl
 have htp:Tb HT 6 (.mc [.ptr 2 0,.pv (.int .i64 0)])=some (.mc [.rp [S',V,NX,DG,RW,i64 (Cj ss)] 0,i64 0]):=by
  show (Ra (Tb HT 5) [AV.ptr 2 0,.pv (.int .i64 0)]).map PV.mc=_
  have hv:Tb HT 5 (.pv (.int .i64 0))=some (.int .i64 0):=rfl;simp only[Ra,t1,hv,yaa,Haa]
 simp -implicitDefEqProofs only[SX,sevalprocAttr,r8,sH,hm1,htp];subst hQ;exact⟨_,rfl,⟨S',NX,DG,RW,by rw[hVe],hS',t2,t3,t4⟩⟩
theorem Kr{S:PV}{ss:List Ob}{es:List PV}(hS:pb S ss es):∃ T n,Jb [.agg [S]]=some (.mc [T,i64 n])/\(n≠0->T= .sf)/\
 (¬ Xb ss->n=84)/\(Xb ss->¬Hf ss->n=110)/\(Xb ss->Hf ss->¬Fm ss->n=111)/\(Xb ss->Hf ss->Fm ss->ig ss=none->n=130)/\
 (∀ l,Xb ss->Hf ss->Fm ss->ig ss=some l->n=0/\Ko T ss l):=by
 have hb:=nj hS
 by_cases h1:Xb ss
 ·by_cases h2:Hf ss
  ·obtain⟨y,a,b,hi,hy⟩:=NP hS h1
   by_cases h3:Fm ss
   ·have:=hy.2 h3
    subst this;cases h4:ig ss with
    |none=>have:=JD hS (n:=130) (V:= .ga) rfl (.inr rfl) (.inl rfl) (hb.2.2.1 h1 h2 h4) hi;exact⟨.sf,130,this,fun _=>rfl,fun h=>absurd h1 h,fun _ h=>absurd h2 h,fun _ _ h=>absurd h3 h,fun _ _ _ _=>rfl,fun l _ _ _ h=>(by cases h)⟩
    |some l=>
     obtain⟨T,t1,t2⟩:=qF hS h1 h2 h4 hi;refine⟨T,0,t1,fun h=>absurd rfl h,fun h=>absurd h1 h,fun _ h=>absurd h2 h,fun _ _ h=>absurd h3 h,fun _ _ _ h=>(by cases h),fun l' _ _ _ h=> ?_⟩;injection h with h
     exact⟨rfl,h ▸ t2⟩
   ·have hyf:y=false:=by cases y with | false=>rfl | true=>exact absurd (hy.1 rfl) h3
    subst hyf;have key:∃ n V,(AV.pv V).one=true/\(n=0\/n=130)/\Hc [.agg [S]]=some (.mc [.agg [V],i64 n]):=by
     cases h4:ig ss with
     |none=>exact⟨130,.ga,rfl,.inr rfl,hb.2.2.1 h1 h2 h4⟩
     |some l=>exact⟨0,Qk l,rfl,.inl rfl,hb.2.2.2 h1 h2 l h4⟩
    obtain⟨n,V,k1,k2,k3⟩:=key;have:=JD hS k1 k2 (.inr rfl) k3 hi;exact⟨.sf,111,this,fun _=>rfl,fun h=>absurd h1 h,fun _ h=>absurd h2 h,fun _ _ _=>rfl,fun _ _ h=>absurd h h3,fun l _ _ h=>absurd h h3⟩
  ·have:=ZD hS (n:=110) (V:= .ga) rfl (by decide) (by decide) (hb.2.1 h1 h2)
   exact⟨.sf,110,this,fun _=>rfl,fun h=>absurd h1 h,fun _ _=>rfl,fun _ h=>absurd h h2,fun _ h=>absurd h h2,fun l _ h=>absurd h h2⟩
 ·have:=ZD hS (n:=84) (V:= .ga) rfl (by decide) (by decide) (hb.1 h1)
  exact⟨.sf,84,this,fun _=>rfl,fun _=>rfl,fun h=>absurd h h1,fun h=>absurd h h1,fun h=>absurd h h1,fun l h=>absurd h h1⟩
theorem OU{S:PV}{ss:List Ob}{es:List PV}(hS:pb S ss es):∃ T n,Jb [.agg [S]]=some (.mc [T,i64 n])/\
 ((n≠0/\T= .sf)\/(n=0/\Xb ss/\Hf ss/\Fm ss/\∃ l,ig ss=some l/\Ko T ss l/\∀ e∈l,Dj e)):=by
 obtain⟨T,n,hc,hn,h1,h2,h3,h4,h5⟩:=Kr hS;refine⟨T,n,hc,?_⟩
 by_cases h0:n=0
 ·refine .inr ⟨h0,?_⟩
  by_cases k1:Xb ss
  ·by_cases k2:Hf ss
   ·by_cases k3:Fm ss
    ·cases k4:ig ss with
     |none=>have:=h4 k1 k2 k3 k4;omega
     |some l=>exact⟨k1,k2,k3,l,rfl,(h5 l k1 k2 k3 k4).2,cH k1 k2 k4⟩
    ·have:=h3 k1 k2 k3;omega
   ·have:=h2 k1 k2;omega
  ·have:=h1 k1;omega
 ·exact .inl ⟨h0,hn h0⟩
theorem yH{p q:Ob}(op:Be p)(oq:Be q)(hle:p.parts.length<=q.parts.length):nf p q=true↔∀ k (h1:k < p.parts.length) (h2:k < q.parts.length),∃ x,x < 256/\lj p.parts[k] x=true/\lj q.parts[k] x=true:=by
 have key:∀ (m i:Nat),i+m=p.parts.length->((ec p.parts q.parts m i).isSome=true↔∀ k,i<=k->(h1:k < p.parts.length)->(h2:k < q.parts.length)->∃ x,x < 256/\lj p.parts[k] x=true/\lj q.parts[k] x=true):=by
  intro m
  induction m with
  |zero=>intro i hi;exact⟨fun _ k hk h1=>by omega,fun _=>rfl⟩
  |succ m ih=>
   intro i hi;have h1:i < p.parts.length:=by omega
   have h2:i < q.parts.length:=by omega
   have hm:=HA h1 h2 (op.parts _ (jaa h1)).2 (oq.parts _ (jaa h2)).2
   have hI:=ih (i+1) (by omega);rw[ec];cases hmt:Rq p.parts q.parts i with
   |nil=>
    constructor
    ·intro h;cases h
    ·intro h;exact absurd hmt (hm.2 (h i (paa _) h1 h2))
   |cons a r=>
    simp only[Option.isSome_map];rw[hI];constructor
    ·intro h k hk g1 g2
     rcases Qaa i k with h3 | h3
     ·exact h k h3 g1 g2
     ·have:k=i:=by omega
      subst this;exact hm.1 (by rw[hmt];simp)
    ·intro h k hk;exact h k (by omega)
 have:=key p.parts.length 0 (by omega)
 unfold nf;rw[this];exact⟨fun h k h1 h2=>h k (by omega) h1 h2,fun h k _ h1 h2=>h k h1 h2⟩
theorem EH{p q:Ob}(op:Be p)(oq:Be q)(h:p.parts.length=q.parts.length):nf p q=nf q p:=by
 rw[Xad,yH op oq (by omega),yH oq op (by omega)];constructor
 ·intro k i h1 h2;obtain⟨x,a,b,c⟩:=k i h2 h1;exact⟨x,a,c,b⟩
 ·intro k i h1 h2;obtain⟨x,a,b,c⟩:=k i h2 h1;exact⟨x,a,c,b⟩
def PF(ss:List Ob)(i j:Nat):Prop:=(hi:i < ss.length)->(hj:j < ss.length)->j < i->ss[i].parts.length=ss[j].parts.length->nf ss[i] ss[j]=false
theorem KI{ss:List Ob}(Ba:Xb ss):Fm ss↔∀ i j,PF ss i j:=by
 constructor
 ·intro h i j hi hj E7 he
  rw[EH (Ba.ct _ (jaa hi)) (Ba.ct _ (jaa hj)) he];exact h j i hj hi E7 he.symm
 ·intro h i j hi hj E7 he
  rw[EH (Ba.ct _ (jaa hi)) (Ba.ct _ (jaa hj)) he];exact h j i hj hi E7 he.symm
section
variable {S:PV}{ss:List Ob}{es:List PV}(hS:pb S ss es)(Ba:Xb ss)
include hS Ba
theorem OK(call:Sa){i:Nat}(hi:i < ss.length){E:Tr}(h1:E.get 1= .pv (.rp [S] 0))(h4:E.get 4= .pv (i64 i))(h5:E.get 5= .pv (i64 0)):
 qd (fun r=>r.1.stop=true/\((∃ E',r=(.exit 2,⟨E',[]⟩)/\Ve [1,4] E E'/\∀ j,PF ss i j)\/∃ E',r=(.ret,⟨E',[]⟩)/\E'.get 2= .pv (.bool false)/\E'.get 3= .pv (i64 0)/\¬Fm ss))
  (oa call (.loop [1,4,5] Xd) ⟨E,[]⟩):=by
 have h32:=Ba.len
 have ln:=hS.Sb
 obtain⟨P,ps,hP,a1⟩:=hS.Pd hi
 have okp:=Ba.ct _ (jaa hi)
 have lP:=hP.parts.Sb
 refine tr (fun j t=>Ve [1,4] E t.env/\t.env.get 5= .pv (i64 j)/\t.H=[]/\∀ j',j' < j->PF ss i j') i (by unfold ua;omega)
  (Yh.all rfl (by simp) (Fit.cons h1 Qa (.cons h4 Qa (.cons h5 Qa (.nil _ _)))) fun E' hE=>⟨Ve.sub hE rfl,by rw[hE 5 (by simp),h5];rfl,rfl,fun j h=>by omega⟩) ?_ ?_
 ·rintro j ⟨E1,H1⟩ hj ⟨k1,k5,k3,hs⟩
  simp only at k1 k5 k3;subst k3;have hjl:j < ss.length:=by omega
  have g1:=(k1 1 (by simp)).trans h1
  have g4:=(k1 4 (by simp)).trans h4
  obtain⟨Q,qs,hQ,a2⟩:=hS.Pd hjl
  have okq:=Ba.ct _ (jaa hjl)
  have hcm:=fun (h:ss[i].parts.length<=ss[j].parts.length)=>Cy hP hQ okp okq (n:=ss[i].parts.length) (paa _) h;have lQ:=hQ.parts.Sb
  have u9:∀ b,(ss[i].parts.length=ss[j].parts.length->nf ss[i] ss[j]=b)->b=false->∀ j',j' < j+1->PF ss i j':=by
   intro b hb hb0 j' hj';rcases Qaa j' j with h3 | h3
   ·exact hs j' h3
   ·have:j'=j:=by omega
    subst this;intro _ _ _ he;rw[hb he,hb0]
  have J9:ss[i].parts.length=ss[j].parts.length->nf ss[i] ss[j]=true->¬Fm ss:=fun he hm h=>by
   have:=(KI Ba).1 h i j hi hjl hj he
   rw[hm] at this;cases this
  unfold nf at u9 J9;generalize ss[i]=p at *;generalize ss[j]=q at *;have e1:decide ((j:Int) < (i:Int))=true:=Ea (by omega);have t2:IntKind.i64.wrap ((j:Int)+1)=((j+1:Nat):Int):=og (by omega)
  have fin:(∀ j',j' < j+1->PF ss i j')->∀ E2:Tr,Ve [1,4] E E2->E2.get 5= .pv (i64 (j+1:Nat))->Yh ([]:List ba).length [1,4,5] (fun t=>Ve [1,4] E t.env/\t.env.get 5= .pv (i64 (j+1:Nat))/\t.H=[]/\∀ j',j' < j+1->PF ss i j') ⟨E2,[]⟩:=fun hn E2 kk z5=>
   Yh.all rfl (by simp) (Fit.sub (.cons z5 Qa (Fit.oe (l:=[1,4]) (.cons h1 Qa (.cons h4 Qa (.nil _ _))) kk)) rfl) fun E' hE=>⟨kk.trans (Ve.sub hE rfl),by rw[hE 5 (by simp),z5],rfl,hn⟩
  generalize Q7:RQ _ _ _ _=QQ
  by_cases c1:p.parts.length=q.parts.length
  ·have d1:((p.parts.length:Int)==(q.parts.length:Int))=true:=by rw[c1];simp
   obtain⟨v,hv⟩:=hcm (by omega);cases hb:(ec p.parts q.parts p.parts.length 0).isSome with
   |true=>rw[hb] at hv;simp -implicitDefEqProofs only[SX,sevalprocAttr,Xd,g1,g4,k5,e1,fc,Wa,Vc,ie,tg,a1,a2,lP,lQ,d1,hv];subst Q7;exact .inr ⟨_,rfl,by simp[Tr.aa],by simp[Tr.aa],J9 c1 hb⟩
   |false=>rw[hb] at hv;simp -implicitDefEqProofs only[SX,sevalprocAttr,Xd,g1,g4,k5,e1,t2,fc,Wa,Vc,ie,tg,a1,a2,lP,lQ,d1,hv];subst Q7;rw[Mn];generalize W7:(Tr.set _ 5 _:Tr)=E2;refine fin (u9 false (fun _=>hb) rfl) E2 (by rw[<- W7];(repeat refine Ve.set ?_ rfl);exact k1) (by rw[<- W7];simp[Tr.aa])
  ·have d1:((p.parts.length:Int)==(q.parts.length:Int))=false:=beq_false_of_ne (by omega)
   simp -implicitDefEqProofs only[SX,sevalprocAttr,Xd,g1,g4,k5,e1,t2,fc,Wa,Vc,ie,tg,a1,a2,lP,lQ,d1];subst Q7;rw[Mn];generalize W7:(Tr.set _ 5 _:Tr)=E2;refine fin (u9 false (fun h=>absurd h c1) rfl) E2 (by rw[<- W7];(repeat refine Ve.set ?_ rfl);exact k1) (by rw[<- W7];simp[Tr.aa])
 ·rintro⟨E1,H1⟩ ⟨k1,k5,k3,hs⟩
  simp only at k1 k5 k3;subst k3;have g4:=(k1 4 (by simp)).trans h4
  have e1:decide ((i:Int) < (i:Int))=false:=Ga (by omega);generalize hQ:(fun r:Ex×St=>r.1.stop=true/\_)=QQ;simp -implicitDefEqProofs only[SX,sevalprocAttr,Xd,g4,k5,e1];subst hQ;refine⟨rfl,.inl ⟨_,rfl,?_,fun j a b c=>hs j c a b c⟩⟩
  repeat refine Ve.set ?_ rfl
  exact k1
theorem tA:∃ b,cf [.agg [S]]=some (.mc [.bool b,i64 0])/\(b=true↔Fm ss):=by
 have ln:=hS.Sb
 have K8:(AV.pv S).one=true:=by rcases hS.is with⟨h,_⟩ | h <;> rw[h] <;> rfl
 obtain⟨b,hb,hbb⟩:=Zy hS;have:=hbb.2 Ba
 subst this;have h32:=Ba.len
 have D7:=fun (E:Tr)(h1:E.get 1= .pv (.rp [S] 0))(h4:E.get 4= .pv (i64 0))=>
  tr (call:=Da (fun _=>none) 8) (b:=Mg) (live:=[1,4]) (s:=⟨E,[]⟩) (Q:=fun r=>(∃ E',r=(.exit 0,⟨E',[]⟩)/\Fm ss)\/∃ E',r=(.ret,⟨E',[]⟩)/\E'.get 2= .pv (.bool false)/\E'.get 3= .pv (i64 0)/\¬Fm ss)
   (fun i t=>Ve [1] E t.env/\t.env.get 4= .pv (i64 i)/\t.H=[]/\∀ i',i' < i->∀ j,PF ss i' j) ss.length (by unfold ua;omega)
   (Yh.all rfl (by simp) (Fit.cons h1 Qa (.cons h4 Qa (.nil _ _))) fun E' hE=>⟨Ve.sub hE rfl,by rw[hE 4 (by simp),h4];rfl,rfl,fun i h=>by omega⟩)
   (by
    rintro i ⟨E1,H1⟩ hi ⟨k1,k4,k3,hs⟩;simp only at k1 k4 k3;subst k3;have g1:=(k1 1 (by simp)).trans h1
    have e1:decide ((i:Int) < (ss.length:Int))=true:=Ea (by omega);have t2:=ab hi (by unfold maxLen;omega);generalize Q7:RQ _ _ _ _=QQ;simp -implicitDefEqProofs only[SX,sevalprocAttr,Mg,g1,k4,ln,e1,fc,Wa];generalize W7:(Tr.set _ 5 _:Tr)=E2;have z1:E2.get 1= .pv (.rp [S] 0):=by rw[<- W7];simp[Tr.aa,g1]
    have z4:E2.get 4= .pv (i64 i):=by rw[<- W7];simp[Tr.aa,k4]
    refine wa (OK hS Ba _ hi z1 z4 (by rw[<- W7];simp[Tr.aa])) ?_;rintro _ ⟨_,⟨E3,rfl,k6,hp⟩ | ⟨E3,rfl,g2,g3,hp⟩⟩
    ·have y4:=(k6 4 (by simp)).trans z4
     simp -implicitDefEqProofs only[SX,sevalprocAttr,y4,t2];subst Q7;rw[Mn];generalize hE4:(Tr.set _ 4 _:Tr)=E4;have y1:E4.get 1= .pv (.rp [S] 0):=by rw[<- hE4];simp[Tr.aa];exact (k6 1 (by simp)).trans z1
     have y4:E4.get 4= .pv (i64 (i+1:Nat)):=by rw[<- hE4];simp[Tr.aa]
     exact Yh.all rfl (by simp) (Fit.cons y1 Qa (.cons y4 Qa (.nil _ _))) fun E' hE=>⟨fun t ht=>by
      rw[Hab] at ht;subst ht;rw[hE 1 (by simp),y1,h1],by rw[hE 4 (by simp),y4],rfl,fun i' hi' j=>by
      rcases Qaa i' i with h3 | h3
      ·exact hs i' h3 j
      ·have:i'=i:=by omega
       subst this;exact hp j⟩
    ·simp -implicitDefEqProofs only[SX,sevalprocAttr]
     subst Q7;exact .inr ⟨_,rfl,g2,g3,hp⟩)
   (by
    rintro⟨E1,H1⟩ ⟨k1,k4,k3,hs⟩;simp only at k1 k4 k3;subst k3;have g1:=(k1 1 (by simp)).trans h1
    have e1:decide ((ss.length:Int) < (ss.length:Int))=false:=Ga (by omega);generalize hQ:(fun r:Ex×St=>r.1.stop=true/\_)=QQ;simp -implicitDefEqProofs only[SX,sevalprocAttr,Mg,g1,k4,ln,e1,fc,Wa];subst hQ;exact⟨rfl,.inl ⟨_,rfl,(KI Ba).2 fun i j hi hj=>hs i hi j hi hj⟩⟩)
 have key:qd (fun r=>∃ b,r=PV.mc [.bool b,i64 0]/\(b=true↔Fm ss)) (cf [.agg [S]]):=by
  generalize Q7:(fun r:PV=>_)=QQ;simp -implicitDefEqProofs only[cf,SX,sevalprocAttr,Wj,K8,fc,Wa,ue,hb];generalize W7:(Tr.set _ 4 _:Tr)=E;refine wa (D7 E (by rw[<- W7];simp[Tr.aa]) (by rw[<- W7];simp[Tr.aa])) ?_;rintro _ ⟨_,⟨E',rfl,hp⟩ | ⟨E',rfl,g2,g3,hp⟩⟩
  ·simp -implicitDefEqProofs only[SX,sevalprocAttr]
   subst Q7;exact⟨true,rfl,by simpa using hp⟩
  ·simp -implicitDefEqProofs only[SX,sevalprocAttr,g2,g3]
   subst Q7;exact⟨false,rfl,by simpa using hp⟩
 obtain⟨r,h1,b,rfl,hb⟩:=wc key;exact⟨b,h1,hb⟩
end
theorem QI{S V:PV}{ss:List Ob}{es:List PV}(hS:pb S ss es){m:Int}(hV:(AV.pv V).one=true)(hm:m=84\/m=110)(hb:Ya [.agg [S]]=some (.mc [.agg [V],i64 m])):Gd [.agg [S]]=some (.mc [.agg [.ga],i64 m]):=by
 have K8:(AV.pv S).one=true:=by rcases hS.is with⟨h,_⟩ | h <;> rw[h] <;> rfl
 have s1:Ha [.box [.pv .ga],.box [.pv .ga]] 1 (.ptr 1 0) (.pv (.agg [V]))=some [.box [.pv .ga],.box [.pv V]]:=by simp[Ha,AV.cells,PV.cells,hV,fa]
 have s0:Ha [.box [.pv .ga],.box [.pv V]] 1 (.ptr 0 0) (.pv (.agg [.ga]))=some [.box [.pv .ga],.box [.pv V]]:=rfl;have ld:pa [.box [.pv .ga],.box [.pv V]] true 1 (.ptr 0 0)=some (.pv (.agg [.ga])):=rfl;have z1:((84:Int)==84)=true:=rfl;have z2:((110:Int)==84)=false:=rfl;have z3:((110:Int)==110)=true:=rfl;rcases hm with rfl | rfl <;>
 simp -implicitDefEqProofs only[Gd,SX,sevalprocAttr,yh,K8,ue,hb,s1,s0,ld,z1,z2,z3]
theorem tz{S V:PV}{ss:List Ob}{es:List PV}(hS:pb S ss es){m:Int}{b:Bool}(hV:(AV.pv V).one=true)(h1:m≠84)(h2:m≠110)(hb:Ya [.agg [S]]=some (.mc [.agg [V],i64 m]))(hi:cf [.agg [S]]=some (.mc [.bool b,i64 0])):
 Gd [.agg [S]]=some (.mc [.agg [if b then V else .ga],i64 (if b then m else 111)]):=by
 have K8:(AV.pv S).one=true:=by rcases hS.is with⟨h,_⟩ | h <;> rw[h] <;> rfl
 have s1:Ha [.box [.pv .ga],.box [.pv .ga]] 1 (.ptr 1 0) (.pv (.agg [V]))=some [.box [.pv .ga],.box [.pv V]]:=by simp[Ha,AV.cells,PV.cells,hV,fa]
 have s0:Ha [.box [.pv .ga],.box [.pv V]] 1 (.ptr 0 0) (.pv (.agg [.ga]))=some [.box [.pv .ga],.box [.pv V]]:=rfl;have s2:Ha [.box [.pv .ga],.box [.pv V]] 1 (.ptr 0 0) (.pv (.agg [V]))=some [.box [.pv V],.box [.pv V]]:=by simp[Ha,AV.cells,PV.cells,hV,fa]
 have ld:∀ W:PV,pa [.box [.pv W],.box [.pv V]] true 1 (.ptr 0 0)=some (.pv (.agg [W])):=fun W=>rfl;have ld1:pa [.box [.pv .ga],.box [.pv V]] true 1 (.ptr 1 0)=some (.pv (.agg [V])):=rfl;have z1:(m==84)=false:=beq_false_of_ne h1;have z2:(m==110)=false:=beq_false_of_ne h2;cases b <;>;simp -implicitDefEqProofs only[Gd,SX,sevalprocAttr,yh,K8,ue,hb,hi,s1,s0,s2,ld,ld1,z1,z2]
theorem pL(ss:List Ob):∃ n V,(∀ (S:PV)(es:List PV),pb S ss es->Gd [.agg [S]]=some (.mc [.agg [V],i64 n]))/\(n=0->∃ l,ig ss=some l/\V=Qk l)/\(AV.pv V).one=true/\
 (∀ (S:PV)(es:List PV),pb S ss es->∃ T,Jb [.agg [S]]=some (.mc [T,i64 n])/\((n≠0/\T= .sf)\/(n=0/\Xb ss/\Hf ss/\Fm ss/\∃ l,ig ss=some l/\Ko T ss l/\∀ e∈l,Dj e))):=by
 obtain⟨VB,lB,m,hVB,_,_,L8,y8⟩:=TP ss;have N7:∀ (S:PV)(es:List PV)(V':PV)(m':Int),pb S ss es->Hc [.agg [S]]=some (.mc [.agg [V'],i64 m'])->Ya [.agg [S]]=some (.mc [.agg [V'],i64 m']):=by intro S es V' m' hS h;rw[y8 S es hS,<-L8 S es hS,h]
 have xg:∀ n:Int,(∀ (S:PV)(es:List PV),pb S ss es->∀ T k,Jb [.agg [S]]=some (.mc [T,i64 k])->k=n)->∀ (S:PV)(es:List PV),pb S ss es->∃ T,Jb [.agg [S]]=some (.mc [T,i64 n])/\((n≠0/\T= .sf)\/(n=0/\Xb ss/\Hf ss/\Fm ss/\∃ l,ig ss=some l/\Ko T ss l/\∀ e∈l,Dj e)):=by intro n hn S es hS;obtain⟨T,k,h1,h2⟩:=OU hS;obtain rfl:=hn S es hS T k h1;exact⟨T,h1,h2⟩
 have same:∀ {S:PV}{T T':PV}{k k':Int},Jb [.agg [S]]=some (.mc [T,i64 k])->Jb [.agg [S]]=some (.mc [T',i64 k'])->k=k':=by
  intro S T T' k k' h1 h2;rw[h1] at h2;injection h2 with h2
  injection h2 with h2
  injection h2 with _ h2
  injection h2 with h2 _
  injection h2
 have aut:ig ss=none\/∃ l,ig ss=some l:=by
  cases ig ss with
  |none=>exact .inl rfl
  |some l=>exact .inr ⟨l,rfl⟩
 have one:∀ {l:List (List ae)},(AV.pv (Qk l)).one=true:=fun {l}=>rfl
 by_cases h1:Xb ss
 ·by_cases h2:Hf ss
  ·by_cases h3:Fm ss
   ·rcases aut with h4 | ⟨l,h4⟩
    ·skip
     refine⟨130,.ga,fun S es hS=> ?_,fun h=>(by cases h),rfl,xg 130 fun S es hS T k hk=> ?_⟩
     ·obtain⟨b,i1,i2⟩:=tA hS h1
      have:=i2.2 h3
      subst this;exact tz hS rfl (by decide) (by decide) (N7 S es _ _ hS ((nj hS).2.2.1 h1 h2 h4)) i1
     ·obtain⟨T',n,t1,_,_,_,_,t2,_⟩:=Kr hS
      have:=t2 h1 h2 h3 h4;subst this;exact same hk t1
    ·skip
     refine⟨0,Qk l,fun S es hS=> ?_,fun _=>⟨l,h4,rfl⟩,one,xg 0 fun S es hS T k hk=> ?_⟩
     ·obtain⟨b,i1,i2⟩:=tA hS h1
      have:=i2.2 h3
      subst this;exact tz hS one (by decide) (by decide) (N7 S es _ _ hS ((nj hS).2.2.2 h1 h2 l h4)) i1
     ·obtain⟨T',n,t1,_,_,_,_,_,t2⟩:=Kr hS
      have:=(t2 l h1 h2 h3 h4).1
      subst this;exact same hk t1
   ·refine⟨111,.ga,fun S es hS=> ?_,fun h=>(by cases h),rfl,xg 111 fun S es hS T k hk=> ?_⟩
    ·obtain⟨b,i1,i2⟩:=tA hS h1
     have hb:b=false:=by cases b with | false=>rfl | true=>exact absurd (i2.1 rfl) h3
     subst hb;cases h4:ig ss with
     |none=>exact tz hS (V:= .ga) rfl (by decide) (by decide) (N7 S es _ _ hS ((nj hS).2.2.1 h1 h2 h4)) i1
     |some l=>exact tz hS one (by decide) (by decide) (N7 S es _ _ hS ((nj hS).2.2.2 h1 h2 l h4)) i1
    ·obtain⟨T',n,t1,_,_,_,t2,_⟩:=Kr hS
     have:=t2 h1 h2 h3;subst this;exact same hk t1
  ·refine⟨110,.ga,fun S es hS=>QI hS (V:= .ga) rfl (.inr rfl) (N7 S es _ _ hS ((nj hS).2.1 h1 h2)),fun h=>(by cases h),rfl,xg 110 fun S es hS T k hk=> ?_⟩
   obtain⟨T',n,t1,_,_,t2,_⟩:=Kr hS;have:=t2 h1 h2;subst this;exact same hk t1
 ·refine⟨84,.ga,fun S es hS=>QI hS (V:= .ga) rfl (.inl rfl) (N7 S es _ _ hS ((nj hS).1 h1)),fun h=>(by cases h),rfl,xg 84 fun S es hS T k hk=> ?_⟩
  obtain⟨T',n,t1,_,t2,_⟩:=Kr hS;have:=t2 h1;subst this;exact same hk t1
def uL(ls:List (List (Int×Int)))(i:Nat):List PV:=(List.range 258).map fun k=>KL ls (i * 258+k)
theorem vK(H:List ba)(d o:Nat)(row:List PV):place H d (.pv (.rp row o))=some (.pv (.rp row (o+d))):=rfl
theorem U6(H:List ba)(o n:Nat)(row:List PV):place H (n * 1) (.pv (.rp row o))=some (.pv (.rp row (o+n))):=by rw[Nat.mul_one];rfl
theorem SI{ls:List (List (Int×Int))}{i:Nat}(hi:i < ls.length)(H:List ba):ta H 258 (.pv (.lit 258 ((List.range ls.length).map (nL ls)))) (i:Int)=some (.pv (.rp (uL ls i) 0)):=by
 simp only[ta];rw[if_pos ⟨trivial,by unfold Ia;simp;omega⟩,Daa,Eaa,Xac hi];rfl
theorem CG{ls:List (List (Int×Int))}{i k:Nat}(hk:k < 258)(H:List ba):pa H false 1 (.pv (.rp (uL ls i) k))=some (.pv (KL ls (i * 258+k))):=by
 have:(uL ls i)[k]? =some (KL ls (i * 258+k)):=by rw[uL,Eaa,Xac hk];rfl
 simp only[pa,Im,saa,if_false,this];rfl
theorem O4{ls:List (List (Int×Int))}{i:Nat}(H:List ba):pa H false 1 (.pv (.rp (uL ls i) 0))=some (.pv (Mq (ls.getD i []))):=by
 rw[CG (by omega),KL,if_pos (by omega),show (i * 258+0) / 258=i by omega]
theorem gX{ls:List (List (Int×Int))}{i:Nat}(H:List ba):pa H false 1 (.pv (.rp (uL ls i) 257))=some (.pv (i64 (Na (ls.drop (i+1))))):=by
 rw[CG (by omega),KL,kaa (by omega),if_pos (by omega),show (i * 258+257) / 258=i by omega]
theorem T4{ls:List (List (Int×Int))}{i y:Nat}(hy:y < 256)(H:List ba):pa H false 1 (.pv (.rp (uL ls i) (1+y)))=some (.pv (Mw (ls.getD i []) y)):=by
 rw[CG (by omega),KL,kaa (by omega),kaa (by omega),show (i * 258+(1+y)) / 258=i by omega,show (i * 258+(1+y)) % 258 - 1=y by omega]
theorem zS{ls:List (List (Int×Int))}{i:Nat}(hi:i < ls.length):ls.getD i []=ls[i]:=by rw[taa,aaa hi];rfl
abbrev EN(C B:PV)(n i k:Int):Tr:=((((Tr.lf.set 22 (.pv (i64 i))).set 21 (.pv (i64 n))).set 6 (.pv (i64 k))).set 1 (.pv B)).set 0 (.pv (.rp [C] 0))
theorem XK{s:Ob}{B:PV}{bs:List Int}(hB:lk B bs)(Ba:Be s):
 (∀ k,Ti s bs=some k->Kf [Ij s.parts,B]=some (.mc [i64 k,.bool true]))/\(Ti s bs=none->Kf [Ij s.parts,B]=some (.mc [i64 0,.bool false])):=by
 have lB:=hB.Sb
 have h8:=Ba.hi
 have hpr:=Ba.prod.2
 have hia:=fun {i:Nat}(hi:i < s.parts.length)=>SI (ls:=s.parts) hi;have P7:((List.range s.parts.length).map (nL s.parts)).length=s.parts.length:=by simp
 have hdg:Ij s.parts= .rp [.lit 258 ((List.range s.parts.length).map (nL s.parts))] 0:=rfl
 rw[hdg];generalize (List.range s.parts.length).map (nL s.parts)=C at *
 by_cases hlen:bs.length=s.parts.length
 ·have hrk:Ti s bs=Eh s.parts bs 0:=by unfold Ti;rw[if_pos hlen]
  have D7:qd (fun r=>∃ E,(r=(.ret,⟨E,[]⟩)/\E.get 4= .pv (i64 0)/\E.get 5= .pv (.bool false)/\Eh s.parts bs 0=none)\/(∃ k,r=(.exit 0,⟨E,[]⟩)/\E.get 6= .pv (i64 k)/\Eh s.parts bs 0=some k))
   (Za (ma (oa (Da (fun _=>none) 8) ze) (na 0 [0,1,6,21,22])) ua ⟨EN (.lit 258 C) B s.parts.length 0 0,[]⟩):=by
   refine wa (Fb (g:=ma (oa (Da (fun _=>none) 8) ze) (na 0 [0,1,6,21,22]))
    (fun i t=>∃ k,t=⟨EN (.lit 258 C) B s.parts.length i k,[]⟩/\0<=k/\k+Na (s.parts.drop i)<=Na s.parts/\Eh s.parts bs 0=Eh (s.parts.drop i) (bs.drop i) k)
    s.parts.length (by unfold ua;omega) _ ⟨0,rfl,by omega,by simp,rfl⟩ ?_ ?_) (fun r h=>h.2)
   ·rintro i t hi ⟨k,rfl,hk0,hk1,hs⟩
    have N8:=Ba.parts s.parts[i] (jaa hi)
    have hib:i < bs.length:=by omega
    have a3:=hB.Pd hib
    have hbr:=hB.Ty bs[i] (jaa hib)
    have hd:s.parts.drop i=s.parts[i]::s.parts.drop (i+1):=Paa hi
    have hdb:bs.drop i=bs[i]::bs.drop (i+1):=Paa hib
    have hrb:=dn (x:=bs[i]) (n:=0) N8.2
    rw[hd,Na] at hk1;rw[hd,hdb,Eh] at hs;have hle:=Gp Ba.parts (i+1)
    have v8:=zf (ls:=s.parts.drop (i+1)) fun x hx=>Ba.parts x (Vab hx)
    have L7:=Yg N8;have a1:=hia hi;have a4:=gX (ls:=s.parts) (i:=i);have a5:=T4 (ls:=s.parts) (i:=i) (y:=(bs[i]).toNat) (by omega);rw[zS hi] at a5;generalize uL s.parts i=R at *
    generalize s.parts[i]=l at *
    generalize bs[i]=x at *;have hwp:Mw l x.toNat= .int .u16 (if (Ld x 0 l).2 then (Ld x 0 l).1+1 else 0):=by unfold Mw;rw[sac hbr.1]
    rw[hwp] at a5;have e1:decide ((i:Int) < (s.parts.length:Int))=true:=Ea (by omega);have t2:=ab hi (by unfold maxLen;omega);have Dae:(0<=x/\x < ((256:Nat):Int))=True:=Iaa (by omega);obtain⟨⟨d,is⟩,mag⟩:∃ r,r=Ld x 0 l:=⟨_,rfl⟩;rw[<- mag] at hs hrb a5;generalize hQ:LN _ _ i=Q;cases is with
    |false=>
     simp only[saa,if_false] at hs a5;have t3:IntKind.i64.wrap 0=0:=rfl
     have z1:((0:Int)==0)=true:=rfl;simp -implicitDefEqProofs only[SX,sevalprocAttr,ze,e1,a1,a3,a5,vK,U6,Wa,Dae,t3,z1,EN];subst hQ;exact⟨_,.inl ⟨rfl,by simp[Tr.aa],by simp[Tr.aa],hs⟩⟩
    |true=>
     simp only[if_true] at hs a5;have y8:=hrb rfl;simp only at y8;have hmul:d * Na (s.parts.drop (i+1))+Na (s.parts.drop (i+1))<=Na (s.parts.drop (i+1)) * ib 0 l:=by have h1:(d+1) * Na (s.parts.drop (i+1))<=ib 0 l * Na (s.parts.drop (i+1)):=Uac (by omega) (by omega);rw[Int.add_mul,Mae,Zad (ib 0 l)] at h1;exact h1
     have hm0:0<=d * Na (s.parts.drop (i+1)):=Int.mul_nonneg (by omega) (by omega)
     have t3:IntKind.i64.wrap (d+1)=d+1:=Aa (by omega)
     have t6:IntKind.i64.wrap (d+1 - 1)=d:=by rw[show d+1 - 1=d by omega];exact Aa (by omega)
     have z1:((d+1:Int)==0)=false:=by simp;omega
     have t4:IntKind.i64.wrap (d * Na (s.parts.drop (i+1)))=d * Na (s.parts.drop (i+1)):=Aa (by omega)
     have t5:IntKind.i64.wrap (k+d * Na (s.parts.drop (i+1)))=k+d * Na (s.parts.drop (i+1)):=Aa (by omega)
     simp -implicitDefEqProofs only[SX,sevalprocAttr,ze,e1,t2,t3,t4,t5,t6,z1,a1,a3,a4,a5,vK,U6,Wa,Dae,na,Ca,AV.cut,za,EN];subst hQ;exact⟨_,rfl,by omega,by omega,hs⟩
   ·rintro t ⟨k,rfl,hk0,hk1,hs⟩
    rw[vab,Zs] at hs;have e1:decide ((s.parts.length:Int) < (s.parts.length:Int))=false:=Ga (by omega);generalize hQ:(fun r:Ex×St=>r.1.stop=true/\_)=Q;simp -implicitDefEqProofs only[SX,sevalprocAttr,ze,e1,EN];subst hQ;exact⟨rfl,_,.inr ⟨k,rfl,by simp[Tr.aa],hs⟩⟩
  obtain⟨r,h1,E,h2⟩:=wc D7;have D9:Za (ma (oa (Da (fun _=>none) 8) ze) (na 0 [0,1,6,21,22])) ua ⟨((((Tr.lf.set 22 (.pv (.int .i64 0))).set 21 (.pv (i64 s.parts.length))).set 6 (.pv (.int .i64 0))).set 1 (.pv B)).set 0 (.pv (.rp [.lit 258 C] 0)),[]⟩=some r:=h1;have d1:((bs.length:Int) != (s.parts.length:Int))=false:=by rw[hlen];simp
  rw[hrk];rcases h2 with⟨rfl,h4,h5,hn⟩ | ⟨k,rfl,h6,hk⟩
  ·refine⟨fun k hk=>by (rw[hn] at hk;cases hk),fun _=> ?_⟩
   simp -implicitDefEqProofs only[Kf,SX,sevalprocAttr,Zh,Db,vK,Wa,lB,P7,d1,na,Ca,AV.cut,za,D9,h4,h5]
  ·refine⟨fun k' hk'=> ?_,fun hn=>by (rw[hk] at hn;cases hn)⟩
   obtain rfl:k=k':=vad (hk.symm.trans hk');simp -implicitDefEqProofs only[Kf,SX,sevalprocAttr,Zh,Db,vK,Wa,lB,P7,d1,na,Ca,AV.cut,za,D9,h6]
 ·have d1:((bs.length:Int) != (s.parts.length:Int))=true:=by
   have:(bs.length:Int)≠(s.parts.length:Int):=by omega
   simp[this]
  have hrk:Ti s bs=none:=by unfold Ti;rw[kaa hlen]
  refine⟨fun k hk=>by (rw[hrk] at hk;cases hk),fun _=> ?_⟩;simp -implicitDefEqProofs only[Kf,SX,sevalprocAttr,Zh,vK,Wa,lB,P7,d1]
theorem IY{l:List (Int×Int)}(h:Bd l){k x:Int}(h0:0<=k)(h1:k < ib 0 l)(hx:sY k l=some x):(Ol l)[k.toNat]? =some x:=by
 obtain⟨y,q1,_,_,_,q5⟩:=Fz h.2 h0 h1
 rw[hx] at q1;injection q1 with q1;subst q1
 have hr:=q5 0;obtain⟨m,e1,e2⟩:=Dw (n:=0) h.2 (by rw[hr])
 rw[hr] at e2;simp only at e2;rw[show k.toNat=m by omega];exact e1
abbrev gR(C:PV)(n i k:Int)(es:List PV):Tr:=((((Tr.lf.set 19 (.pv (i64 i))).set 18 (.pv (i64 n))).set 5 (.uq 0 false 1 es)).set 1 (.pv (i64 k))).set 0 (.pv (.rp [C] 0))
theorem OF{s:Ob}(Ba:Be s){k:Int}(h0:0<=k)(h1:k < Na s.parts):yl [Ij s.parts,i64 k]=some (.lit 1 ((ai s.parts k).map (PV.int .u8))):=by
 have h8:=Ba.hi
 have hpr:=Ba.prod.2
 have hia:=fun {i:Nat}(hi:i < s.parts.length)=>SI (ls:=s.parts) hi;have P7:((List.range s.parts.length).map (nL s.parts)).length=s.parts.length:=by simp
 have hdg:Ij s.parts= .rp [.lit 258 ((List.range s.parts.length).map (nL s.parts))] 0:=rfl
 rw[hdg];generalize (List.range s.parts.length).map (nL s.parts)=C at *
 have D7:qd (fun r=>∃ E H,r=(.exit 0,⟨E,H⟩)/\E.get 5= .uq 0 false 1 ((ai s.parts k).map (PV.int .u8)))
  (Za (ma (oa (Da (fun _=>none) 8) cg) (na 1 [0,1,5,18,19])) ua ⟨gR (.lit 258 C) s.parts.length 0 k [],[.tok 1 0 false]⟩):=by
  refine wa (Fb (fun i t=>∃ j es,t=⟨gR (.lit 258 C) s.parts.length i j (es.map (PV.int .u8)),[.tok 1 i false]⟩/\0<=j/\j < Na (s.parts.drop i)/\es.length=i/\ai s.parts k=es++ai (s.parts.drop i) j)
   s.parts.length (by unfold ua;omega) _ ⟨k,[],rfl,h0,h1,rfl,rfl⟩ ?_ ?_) (fun r h=>h.2)
  ·rintro i t hi ⟨j,es,rfl,hj0,hj1,M8,hs⟩
   have N8:=Ba.parts s.parts[i] (jaa hi)
   have hd:s.parts.drop i=s.parts[i]::s.parts.drop (i+1):=Paa hi
   rw[hd,Na] at hj1;rw[hd,ai] at hs;have v8:=zf (ls:=s.parts.drop (i+1)) fun x hx=>Ba.parts x (Vab hx)
   have hle:=Gp Ba.parts (i+1)
   have hdv:=PX hj0 v8 hj1;obtain⟨x,q3,q4,q5,_⟩:=Fz N8.2 hdv.1 hdv.2.1
   rw[q3,Tac] at hs;have hm:=IY N8 hdv.1 hdv.2.1 q3
   have hml:=getElem?_lt hm;have Fad:=Gp Ba.parts i
   rw[hd,Na] at Fad;have t3:IntKind.i64.wrap (j.tdiv (Na (s.parts.drop (i+1))))=j.tdiv (Na (s.parts.drop (i+1))):=Aa (by
    have:=hdv.2.2.2.2
    have h5:j.tdiv (Na (s.parts.drop (i+1))) * 1<=j.tdiv (Na (s.parts.drop (i+1))) * Na (s.parts.drop (i+1)):=vac v8 hdv.1
    omega)
   have a1:=hia hi;have a4:=gX (ls:=s.parts) (i:=i);have a5:=O4 (ls:=s.parts) (i:=i);rw[zS hi] at a5;generalize uL s.parts i=R at *
   generalize s.parts[i]=l at *
   have a6:∀ H,ta H 1 (.pv (Mq l)) (j.tdiv (Na (s.parts.drop (i+1))))=some (.pv (.rp [.int .u8 x] 0)):=fun H=>by simp only[ta,Mq];rw[if_pos ⟨trivial,by unfold Ia;rw[haa];omega⟩,Eaa,hm];rfl
   have e1:decide ((i:Int) < (s.parts.length:Int))=true:=Ea (by omega);have t2:=ab hi (by unfold maxLen;omega);have z0:(Na (s.parts.drop (i+1))=0)=False:=by simp;omega
   have s8:=Ot (A:=[.tok 1 i false]) (id:=0) (n:=i) (h:= .uq) (nl:=false) (bytes:=1) (es:=es.map (PV.int .u8)) rfl (by simp[M8]) (by unfold eb;omega) (.int .u8 x);rw[fac] at s8;have hbm:(es++[x]).map (PV.int .u8)=es.map (PV.int .u8)++[.int .u8 x]:=by simp
   generalize hpq:Na (s.parts.drop (i+1))=pr at *;generalize hQ:LN _ _ i=QQ;simp -implicitDefEqProofs only[SP,WP,fa,sevalprocAttr,cg,e1,t2,t3,z0,a1,a4,a5,a6,vK,Wa,s8,na,Ca,AV.cut,qa,za,gR];subst hQ;exact⟨_,es++[x],by rw[hbm],hdv.2.2.1,by rw[hpq];exact hdv.2.2.2.1,by simp[M8],by rw[hs];simp⟩
  ·rintro t ⟨j,es,rfl,hj0,hj1,M8,hs⟩
   rw[vab,ai,wab] at hs;have e1:decide ((s.parts.length:Int) < (s.parts.length:Int))=false:=Ga (by omega);generalize hQ:(fun r:Ex×St=>r.1.stop=true/\_)=Q;simp -implicitDefEqProofs only[SX,sevalprocAttr,cg,e1,gR];subst hQ;exact⟨rfl,_,_,rfl,by rw[hs];simp[Tr.aa]⟩
 obtain⟨r,g1,E,H,rfl,g6⟩:=wc D7;have g1':Za (ma (oa (Da (fun _=>none) 8) cg) (na 1 [0,1,5,18,19])) ua ⟨((((Tr.lf.set 19 (.pv (.int .i64 0))).set 18 (.pv (i64 s.parts.length))).set 5 (.uq 0 false 1 [])).set 1 (.pv (i64 k))).set 0 (.pv (.rp [.lit 258 C] 0)),[.tok 1 0 false]⟩=some (.exit 0,⟨E,H⟩):=g1;have e4:eb s.parts.length 1:=by unfold eb;omega
 have e2:(0<=(s.parts.length:Int))=True:=by simp
 have e5:((0:Int)<=0)=True:=by simp
 simp -implicitDefEqProofs only[yl,SX,sevalprocAttr,Yo,vK,Wa,P7,Iaa e4,e2,e5,Db,na,Ca,AV.cut,qa,za,g1',g6,Nl,fresh,Tc,chunk]
def CT(es:List ae):List PV:=(List.range 256).map fun b=> .int .i8 (El es b)
theorem SS{es:List ae}{b:Nat}(hb:b < 256)(H:List ba):pa H false 1 (.pv (.rp (CT es) b))=some (.pv (.int .i8 (El es b))):=by
 have:(CT es)[b]? =some (.int .i8 (El es b)):=by rw[CT,Eaa,Xac hb];rfl
 simp only[pa,Im,saa,if_false,this];rfl
theorem qY{NX:PV}{l:List (List ae)}(h:Uh 256 NX (l.map dp)){i:Nat}(hi:i < l.length)(H:List ba):ta H 256 (.pv NX) (i:Int)=some (.pv (.rp (CT l[i]) 0)):=by
 rw[h.lit (i:=i) (by simpa using hi)];simp only[ta];rw[if_pos ⟨trivial,by unfold Ia;rw[haa];omega⟩,Daa,Eaa,aaa hi];rfl
theorem rC(H:List ba)(a b c d e f:PV):pa H false 1 (.pv (.rp [a,b,c,d,e,f] 2))=some (.pv c)/\pa H false 1 (.pv (.rp [a,b,c,d,e,f] 3))=some (.pv d)/\pa H false 1 (.pv (.rp [a,b,c,d,e,f] 4))=some (.pv e)/\pa H false 1 (.pv (.rp [a,b,c,d,e,f] 5))=some (.pv f)/\pa H false 1 (.pv (.rp [a,b,c,d,e,f] 0))=some (.pv a)/\pa H false 1 (.pv (.rp [a,b,c,d,e,f] 1))=some (.pv b)/\pa H true 1 (.pv (.rp [a,b,c,d,e,f] 0))=some (.pv (.agg [a])):=⟨rfl,rfl,rfl,rfl,rfl,rfl,rfl⟩
section
variable {T:PV}{ss:List Ob}{l:List (List ae)}(hT:Ko T ss l)(ho:∀ e∈l,Dj e)
include hT ho
theorem dK{st b:Int}(hb:0<=b/\b<=255):mg [T,i64 st,u8 b]=some (.mc [i64 (Md l st b).1,.bool (Md l st b).2]):=by
 obtain⟨S',NX,DG,RW,rfl,_,hNX,_,_⟩:=hT.ex
 have hrp:=rC (a:=S') (b:=Qk l) (c:=NX) (d:=DG) (e:=RW) (f:=i64 (Cj ss));have l2:=fun H=>(hrp H).1
 have ln:=hNX.len
 rw[haa] at ln;generalize ([S',Qk l,NX,DG,RW,i64 (Cj ss)]:List PV)=R at *
 by_cases h0:st < 0
 ·have hs:Md l st b=(0,false):=by unfold Md;rw[if_pos h0]
  have d0:decide (st < 0)=true:=Ea h0;rw[hs];simp -implicitDefEqProofs only[mg,SX,sevalprocAttr,nh,Kq,d0]
 have d0:decide (st < 0)=false:=Ga h0;obtain⟨i,rfl⟩:∃ i:Nat,st=(i:Int):=⟨st.toNat,by omega⟩
 by_cases h1:i < l.length
 ·have d1:decide ((i:Int)>=(l.length:Int))=false:=Ga (by omega)
  have a1:=qY hNX h1;have hs:Md l (i:Int) b=match ah b l[i] with
   |some t=>(t,true)
   |none=>(0,false):=by unfold Md;rw[kaa h0,Daa,aaa h1] <;> rfl
  have heo:=(ho _ (jaa h1)).Ty
  rw[hs];generalize l[i]=es at *;have H7:(0<=b/\b < ((256:Nat):Int))=True:=Iaa (by omega);have l3:=fun H=>SS (es:=es) (b:=b.toNat) (by omega) H;have hg:El es b.toNat=(ah b es).getD (-2):=by unfold El;rw[sac hb.1]
  rw[hg] at l3;have Lai:∀ H (row:List PV),place H b.toNat (.pv (.rp row 0))=some (.pv (.rp row b.toNat)):=fun H row=>by rw[vK,Zaa]
  cases hse:ah b es with
  |none=>rw[hse] at l3;have z:((-2:Int)== -2)=true:=rfl;have l3:∀ H,pa H false 1 (.pv (.rp (CT es) b.toNat))=some (.pv (.int .i8 (-2))):=l3;simp -implicitDefEqProofs only[mg,SX,sevalprocAttr,nh,Kq,d0,d1,vK,Lai,l2,ln,a1,H7,l3,z]
  |some t=>
   rw[hse] at l3;have l3:∀ H,pa H false 1 (.pv (.rp (CT es) b.toNat))=some (.pv (.int .i8 t)):=l3;obtain⟨x,hx,_,_,hxt⟩:=Yx hse;have hr:=heo x hx;rw[hxt] at hr;have z:(t== -2)=false:=by simp;omega
   have t1:IntKind.i64.wrap t=t:=Aa (by omega)
   simp -implicitDefEqProofs only[mg,SX,sevalprocAttr,nh,Kq,d0,d1,vK,Lai,l2,ln,a1,H7,l3,z,t1]
 ·have d1:decide ((i:Int)>=(l.length:Int))=true:=Ea (by omega)
  have hs:Md l (i:Int) b=(0,false):=by unfold Md;rw[kaa h0,Daa,Raa (by omega)]
  rw[hs];simp -implicitDefEqProofs only[mg,SX,sevalprocAttr,nh,Kq,d0,d1,vK,l2,ln]
end
def PK(a b:Int):Int:=if a < b then -1 else if a > b then 1 else 0
theorem qO(a b:Int):uj [i64 a,i64 b]=some (i64 (PK a b)):=by
 have hn:∀ x:Int,Rm [i64 x]=some (.bool false):=fun x=>by
  have z:(x != x)=false:=by simp
  simp -implicitDefEqProofs only[Rm,SX,sevalprocAttr,Dx,z]
 unfold PK
 by_cases h1:a < b
 ·have d1:decide (a < b)=true:=Ea h1
  rw[if_pos h1];simp -implicitDefEqProofs only[uj,SX,sevalprocAttr,Fl,hn,d1]
 ·have d1:decide (a < b)=false:=Ga h1
  rw[kaa h1]
  by_cases h2:a > b
  ·have d2:decide (a > b)=true:=Ea h2
   rw[if_pos h2];simp -implicitDefEqProofs only[uj,SX,sevalprocAttr,Fl,hn,d1,d2]
  ·have d2:decide (a > b)=false:=Ga h2
   rw[kaa h2];simp -implicitDefEqProofs only[uj,SX,sevalprocAttr,Fl,hn,d1,d2]
theorem kN(call:Sa)(a b c u:Int)(H:List ba):ef call Pj [.pv (.agg [i64 a,i64 b,i64 c]),.pv (i64 u)] H=some (.pv (i64 (PK a u)),H):=by
 have hc:=qO a u;have l0:∀ H,pa H false 1 (.pv (.rp [i64 a,i64 b,i64 c] 0))=some (.pv (i64 a)):=fun H=>rfl;have l1:∀ H,place H 0 (.pv (.rp [i64 a,i64 b,i64 c] 0))=some (.pv (.rp [i64 a,i64 b,i64 c] 0)):=fun H=>rfl;simp -implicitDefEqProofs only[SX,sevalprocAttr,Pj,l0,l1,hc]
def r0(r:List Int):Int:=r.getD 0 0
def r1(r:List Int):Int:=r.getD 1 0
def r2(r:List Int):Int:=r.getD 2 0
theorem G6{r:List Int}(h:r.length=3):r=[r0 r,r1 r,r2 r]:=by
 match r,h with
 | [a,b,c],_=>rfl
section
variable {RW:PV}{D:List (List Int)}(hR:Uh 3 RW (D.map AL))(hD:∀ r∈D,r.length=3)
include hR hD
theorem cB{i:Nat}(hi:i < D.length)(H:List ba):ta H 3 (.pv RW) (i:Int)=some (.pv (.rp [i64 (r0 D[i]),i64 (r1 D[i]),i64 (r2 D[i])] 0)):=by
 rw[hR.lit (i:=i) (by simpa using hi)];simp only[ta];have h3:=G6 (hD _ (jaa hi));rw[if_pos ⟨trivial,by unfold Ia;rw[haa];omega⟩,Daa,Eaa,aaa hi,Haa,Haa]
 congr 4
 show (AL D[i]).cells=_
 unfold AL;generalize D[i]=r at *
 match r,h3 with
 |r,h3=>rw[h3];rfl
variable (hs:∀ i j (h:i < j) (hj:j < D.length),r0 D[i]<=r0 D[j])(hlen:D.length<=32)
include hs hlen
theorem U3{H:List ba}(hH:Wd H)(u:Int):∃ i:Nat,i<=D.length/\(∀ k (hk:k < D.length),k < i->r0 D[k] < u)/\(∀ k (hk:k < D.length),i<=k->u<=r0 D[k])/\
 ef (Da Oe 7) gb [.pv RW,.pv (i64 u),.Ml 41 []] H=some (.pv (.mc [i64 i,.bool (if h:i < D.length then decide (r0 D[i]=u) else false)]),H):=by
 have lR:=hR.len
 rw[haa] at lR;have c41:Oe 41=some Pj:=rfl;have r3:∀ H (x y z:PV),pa H true 3 (.pv (.rp [x,y,z] 0))=some (.pv (.agg [x,y,z])):=fun H x y z=>rfl;have P7:∀ n,AV.cut n deep (.Ml 41 [])=some (.Ml 41 []):=fun n=>rfl
 have D7:=fun (E:Tr)(h0:E.get 0= .pv RW)(h1:E.get 1= .pv (i64 u))(h2:E.get 2= .Ml 41 [])(h8:E.get 8= .pv (i64 D.length))(h9:E.get 9= .pv (i64 0))(h10:E.get 10= .pv (i64 D.length))=>
  UI (call:=Da Oe 7) (b:=Ab) (live:=[0,1,2,8,9,10]) (s:=⟨E,H⟩)
   (Q:=fun r=>∃ E' i,r=(.exit 0,⟨E',H⟩)/\Ve [0,1,2,8] E E'/\E'.get 9= .pv (i64 (i:Nat))/\i<=D.length/\(∀ k (hk:k < D.length),k < i->r0 D[k] < u)/\(∀ k (hk:k < D.length),i<=k->u<=r0 D[k]))
   (fun m t=>Ve [0,1,2,8] E t.env/\t.H=H/\∃ i j:Nat,t.env.get 9= .pv (i64 i)/\t.env.get 10= .pv (i64 j)/\i<=j/\j<=D.length/\m=j - i/\(∀ k (hk:k < D.length),k < i->r0 D[k] < u)/\(∀ k (hk:k < D.length),j<=k->u<=r0 D[k]))
   D.length (by unfold ua;omega)
   (Yh.all rfl (hH _ (paa _)) (Fit.cons h0 Qa (.cons h1 Qa (.cons h2 (P7 _) (.cons h8 Qa (.cons h9 Qa (.cons h10 Qa (.nil _ _))))))) fun E' hE=>⟨Ve.sub hE rfl,rfl,0,D.length,by rw[hE 9 (by simp),h9];rfl,by rw[hE 10 (by simp),h10],by omega,by omega,by omega,fun k _ h=>by omega,fun k hk h=>by omega⟩)
   (by
    rintro m ⟨E1,H1⟩ ⟨k1,k2,i,j,k9,K9,hij,hj,hm,ha,hb⟩;simp only at k1 k2 k9 K9;replace k2:=k2.symm
    subst k2
    by_cases E7:i < j
    ·have e1:decide ((i:Int) < (j:Int))=true:=Ea (by omega)
     have g0:=(k1 0 (by simp)).trans h0
     have g1:=(k1 1 (by simp)).trans h1
     have g2:=(k1 2 (by simp)).trans h2
     obtain⟨h,hh⟩:∃ h,h=(i+j) / 2:=⟨_,rfl⟩;have hhD:h < D.length:=by omega
     have a1:=cB hR hD hhD;have hc:=kN (Da Oe 6) (r0 D[h]) (r1 D[h]) (r2 D[h]) u H;have w1:IntKind.i64.wrap ((i:Int)+(j:Int))=(i:Int)+j:=Aa (by omega)
     have w2:IntKind.u64.wrap ((i:Int)+(j:Int))=(i:Int)+j:=by unfold IntKind.wrap;simp[IntKind.signed,IntKind.bits];omega
     have w3:((i:Int)+(j:Int)).fdiv (2 ^ min 1 IntKind.u64.bits)=(h:Int):=by
      show ((i:Int)+(j:Int)).fdiv 2=_
      rw[Int.fdiv_eq_ediv_of_nonneg _ (by omega)];omega
     have w4:IntKind.i64.wrap (h:Int)=(h:Int):=Aa (by omega)
     have w5:IntKind.i64.wrap ((h:Int)+1)=((h+1:Nat):Int):=og (by omega)
     have z0:((1:Int) < 0)=False:=by simp
     generalize hQ:RQ _ _ _ _=Q
     by_cases hcu:r0 D[h] < u
     ·have hcm:PK (r0 D[h]) u= -1:=by unfold PK;rw[if_pos hcu]
      have z1:decide ((-1:Int) < 0)=true:=rfl;rw[hcm] at hc;simp -implicitDefEqProofs only[SX,sevalprocAttr,Ab,k9,K9,e1,g0,g1,g2,a1,r3,w1,w2,w3,w4,w5,z0,c41,hc,z1];subst hQ;rw[Mn];generalize W7:(Tr.set _ 9 _:Tr)=E2;have kk:Ve [0,1,2,8] E E2:=by
       rw[<- W7]
       repeat refine Ve.set ?_ rfl
       exact k1
      have z9:E2.get 9= .pv (i64 (h+1:Nat)):=by rw[<- W7];simp[Tr.aa]
      have z10:E2.get 10= .pv (i64 j):=by rw[<- W7];simp[Tr.aa,K9]
      exact Yh.all rfl (hH _ (paa _)) (Fit.sub (.cons z9 Qa (.cons z10 Qa (Fit.oe (l:=[0,1,2,8]) (.cons h0 Qa (.cons h1 Qa (.cons h2 (P7 _) (.cons h8 Qa (.nil _ _))))) kk))) rfl) fun E' hE=>⟨j - (h+1),by omega,kk.trans (Ve.sub hE rfl),rfl,h+1,j,by rw[hE 9 (by simp),z9],by rw[hE 10 (by simp),z10],by omega,hj,rfl,fun k hk hkh=>by
       rcases Qaa k h with h5 | h5
       ·exact Int.lt_of_le_of_lt (hs k h h5 hhD) hcu
       ·obtain rfl:k=h:=by omega
        exact hcu,hb⟩
     ·have z1:decide (PK (r0 D[h]) u < 0)=false:=Ga (by unfold PK;rw[kaa hcu];split <;> omega)
      simp -implicitDefEqProofs only[SX,sevalprocAttr,Ab,k9,K9,e1,g0,g1,g2,a1,r3,w1,w2,w3,w4,w5,z0,c41,hc,z1];subst hQ;rw[Mn];generalize W7:(Tr.set _ 10 _:Tr)=E2;have kk:Ve [0,1,2,8] E E2:=by
       rw[<- W7]
       repeat refine Ve.set ?_ rfl
       exact k1
      have z9:E2.get 9= .pv (i64 i):=by rw[<- W7];simp[Tr.aa,k9]
      have z10:E2.get 10= .pv (i64 h):=by rw[<- W7];simp[Tr.aa]
      exact Yh.all rfl (hH _ (paa _)) (Fit.sub (.cons z9 Qa (.cons z10 Qa (Fit.oe (l:=[0,1,2,8]) (.cons h0 Qa (.cons h1 Qa (.cons h2 (P7 _) (.cons h8 Qa (.nil _ _))))) kk))) rfl) fun E' hE=>⟨h - i,by omega,kk.trans (Ve.sub hE rfl),rfl,i,h,by rw[hE 9 (by simp),z9],by rw[hE 10 (by simp),z10],by omega,by omega,rfl,ha,fun k hk hkh=>by
       rcases Qaa h k with h5 | h5
       ·exact Int.le_trans (Int.not_lt.1 hcu) (hs h k h5 hk)
       ·obtain rfl:k=h:=by omega
        omega⟩
    ·obtain rfl:i=j:=by omega
     have e1:decide ((i:Int) < (i:Int))=false:=Ga (by omega);generalize hQ:RQ _ _ _ _=Q;simp -implicitDefEqProofs only[SX,sevalprocAttr,Ab,k9,K9,e1];subst hQ;exact⟨_,i,rfl,by repeat refine Ve.set ?_ rfl
                      exact k1,by simp[Tr.aa,k9],hj,ha,hb⟩)
 have key:qd (fun r=>∃ i:Nat,i<=D.length/\(∀ k (hk:k < D.length),k < i->r0 D[k] < u)/\(∀ k (hk:k < D.length),i<=k->u<=r0 D[k])/\r=(.pv (.mc [i64 i,.bool (if h:i < D.length then decide (r0 D[i]=u) else false)]),H)) (ef (Da Oe 7) gb [.pv RW,.pv (i64 u),.Ml 41 []] H):=by
  generalize hQ:(fun r:AV×List ba=>∃ i:Nat,_)=Q;simp -implicitDefEqProofs only[SX,sevalprocAttr,gb,lR];generalize W7:(Tr.set _ 10 _:Tr)=E;refine wa (D7 E (by rw[<- W7];simp[Tr.aa]) (by rw[<- W7];simp[Tr.aa]) (by rw[<- W7];simp[Tr.aa]) (by rw[<- W7];simp[Tr.aa]) (by rw[<- W7];simp[Tr.aa]) (by rw[<- W7];simp[Tr.aa])) ?_;have h0:E.get 0= .pv RW:=by rw[<- W7];simp[Tr.aa]
  have h1:E.get 1= .pv (i64 u):=by rw[<- W7];simp[Tr.aa]
  have h2:E.get 2= .Ml 41 []:=by rw[<- W7];simp[Tr.aa]
  have h8:E.get 8= .pv (i64 D.length):=by rw[<- W7];simp[Tr.aa]
  rintro r ⟨_,E',i,rfl,k1,k9,hi,ha,hb⟩;have g0:=(k1 0 (by simp)).trans h0
  have g1:=(k1 1 (by simp)).trans h1
  have g2:=(k1 2 (by simp)).trans h2
  have g8:=(k1 8 (by simp)).trans h8
  by_cases E7:i < D.length
  ·have e1:decide ((i:Int) < (D.length:Int))=true:=Ea (by omega)
   have a1:=cB hR hD E7;have hc:=kN (Da Oe 6) (r0 D[i]) (r1 D[i]) (r2 D[i]) u H;have e9:=hb i E7 (paa _);have z:(PK (r0 D[i]) u==0)=decide (r0 D[i]=u):=by
    unfold PK;rw[kaa (by omega)]
    by_cases h5:r0 D[i] > u
    ·rw[if_pos h5,Ga (by omega)];rfl
    ·rw[kaa h5,Ea (by omega)];rfl
   simp -implicitDefEqProofs only[SX,sevalprocAttr,k9,g0,g1,g2,g8,e1,a1,r3,c41,hc,z];subst hQ;exact⟨i,hi,ha,hb,by rw[dif_pos E7]⟩
  ·have e1:decide ((i:Int) < (D.length:Int))=false:=Ga (by omega)
   simp -implicitDefEqProofs only[SX,sevalprocAttr,k9,g0,g1,g2,g8,e1];subst hQ;exact⟨i,hi,ha,hb,by rw[dif_neg E7]⟩
 obtain⟨r,h1,i,h2,h3,h4,rfl⟩:=wc key;exact⟨i,h2,h3,h4,h1⟩
end
theorem wV{ss:List Ob}{r:List Int}(h:r∈Sj ss):∃ j,∃ hj:j < ss.length,r=Hx ss[j] j:=by
 have:=(Zr ss).mem_iff.1 h
 unfold Fj at this;obtain⟨j,hj,rfl⟩:=fab.1 this
 have hj:=Oac.1 hj
 exact⟨j,hj,by rw[taa,aaa hj];rfl⟩
theorem UT{ss:List Ob}{j:Nat}(hj:j < ss.length):Hx ss[j] j∈Sj ss:=by
 refine (Zr ss).mem_iff.2 ?_
 unfold Fj;refine fab.2 ⟨j,Oac.2 hj,?_⟩
 rw[taa,aaa hj];rfl
theorem xL(ss:List Ob)(i j:Nat)(h:i < j)(hj:j < (Sj ss).length):r0 (Sj ss)[i]<=r0 (Sj ss)[j]:=by
 obtain⟨h1,h2,h3⟩:=SB 3 0 (Fj ss ss.length).toArray
 have hj':j < (Fj ss ss.length).toArray.size:=by rw[<- h1];simpa[Sj] using hj
 have h4:=h3 i j h hj';have key:∀ k (hk:k < (Sj ss).length),cz 3 0 (Dq 3 0 (Fj ss ss.length).toArray)[k]! =r0 (Sj ss)[k]:=by
  intro k hk;have hk':k < (Dq 3 0 (Fj ss ss.length).toArray).size:=by simpa[Sj] using hk
  rw[getElem!_pos _ k hk'];have e:(Dq 3 0 (Fj ss ss.length).toArray)[k]=(Sj ss)[k]:=by simp[Sj]
  have h3:=FC (jaa hk);rw[e];generalize (Sj ss)[k]=r at *;unfold cz r0;rw[if_pos h3]
 rw[key i (by omega),key j hj] at h4;omega
theorem JO(ss:List Ob):(Sj ss).Nodup:=by
 refine (Zr ss).nodup_iff.2 ?_
 unfold Fj List.Nodup
 rw[List.pairwise_map];refine List.Pairwise.imp ?_ (List.nodup_range (n:=ss.length))
 intro i j h e;unfold Hx at e;injection e with _ e
 injection e with _ e
 injection e with e _
 omega
def has(s:Ob)(u:Int):Prop:=s.first<=u/\u < s.first+Na s.parts
theorem iL{ss:List Ob}(Ba:Xb ss){i j:Nat}(hi:i < ss.length)(hj:j < ss.length){u:Int}(h1:has ss[i] u)(h2:has ss[j] u):i=j:=by
 have s8:=Ba.apart
 rw[Vac] at s8;have e1:=(Ba.ct _ (jaa hi)).zi
 have e2:=(Ba.ct _ (jaa hj)).zi
 unfold has at h1 h2;rcases Nat.lt_trichotomy i j with h | h | h
 ·exact absurd (s8 i j hi hj h u) (fun hn=>hn ⟨by omega,by omega⟩)
 ·exact h
 ·exact absurd (s8 j i hj hi h u) (fun hn=>hn ⟨by omega,by omega⟩)
section
variable {T:PV}{ss:List Ob}{l:List (List ae)}(hT:Ko T ss l)(Ba:Xb ss)
include hT Ba
theorem wY(u:Int):(∃ j,∃ hj:j < ss.length,has ss[j] u/\Ue [T,i64 u]=some (.mc [.agg [i64 ss[j].first,i64 (ss[j].first+Na ss[j].parts - 1),i64 j],.bool true]))\/
 ((∀ s∈ss,¬has s u)/\Ue [T,i64 u]=some (.mc [.agg [i64 0,i64 0,i64 0],.bool false])):=by
 obtain⟨S',NX,DG,RW,rfl,_,_,_,hRW⟩:=hT.ex
 have hrp:=rC (a:=S') (b:=Qk l) (c:=NX) (d:=DG) (e:=RW) (f:=i64 (Cj ss));have l4:=fun H=>(hrp H).2.2.1
 generalize ([S',Qk l,NX,DG,RW,i64 (Cj ss)]:List PV)=R at *;obtain⟨D,hRW,hDr,hDm,hDh,hDl,hDs,hnd⟩:∃ D:List (List Int),Uh 3 RW (D.map AL)/\(∀ r∈D,r.length=3)/\(∀ r∈D,∃ j,∃ hj:j < ss.length,r=Hx ss[j] j)/\(∀ j (hj:j < ss.length),Hx ss[j] j∈D)/\D.length=ss.length/\(∀ i j (h:i < j) (hj:j < D.length),r0 D[i]<=r0 D[j])/\D.Nodup:=
  ⟨Sj ss,hRW,fun r hr=>FC hr,fun r hr=>wV hr,fun j hj=>UT hj,AI ss,xL ss,JO ss⟩
 have h32:=Ba.len
 have hg:Wd [ba.box [.pv (i64 0),.pv (i64 0),.pv (i64 0)]]:=fun n _ o ho=>by rw[Hab] at ho;subst ho;exact Ks n [i64 0,i64 0,i64 0]
 obtain⟨i,hi,ha,hb,M7⟩:=U3 hRW hDr hDs (by omega) hg u;have c40:Oe 40=some gb:=rfl;have b0:∀ a b c d e f,Ha [ba.box [.pv a,.pv b,.pv c]] 3 (.ptr 0 0) (.pv (.agg [.int .i64 d,.int .i64 e,.int .i64 f]))=some [.box [.pv (i64 d),.pv (i64 e),.pv (i64 f)]]:=fun a b c d e f=>rfl;have ld:∀ a b c,pa [ba.box [.pv a,.pv b,.pv c]] true 3 (.ptr 0 0)=some (.pv (.agg [a,b,c])):=fun a b c=>rfl;have r3:∀ H (x y z:PV),pa H true 3 (.pv (.rp [x,y,z] 0))=some (.pv (.agg [x,y,z])):=fun H x y z=>rfl;have r31:∀ H (x y z:PV),pa H false 1 (.pv (.rp [x,y,z] 1))=some (.pv y):=fun H x y z=>rfl;have fin:∀ k (hk:k < D.length),(∀ m (hm:m < D.length),k < m->u < r0 D[m])->r0 D[k]<=u->
  ((u<=r1 D[k]->∃ j,∃ hj:j < ss.length,has ss[j] u/\PV.agg [i64 (r0 D[k]),i64 (r1 D[k]),i64 (r2 D[k])]= .agg [i64 ss[j].first,i64 (ss[j].first+Na ss[j].parts - 1),i64 j])/\(¬ u<=r1 D[k]->∀ s∈ss,¬has s u)):=by
  intro k hk hgt hle;obtain⟨j',hj',R8⟩:=hDm _ (jaa hk);constructor
  ·intro h1
   rw[R8] at h1 hle ⊢;refine⟨j',hj',⟨hle,?_⟩,rfl⟩;have:u<=ss[j'].first+Na ss[j'].parts - 1:=h1
   omega
  ·intro h1 s hs hh
   obtain⟨j,hj,rfl⟩:=qab hs;obtain⟨m,hm,hmr⟩:=qab (hDh j hj);have hh':=hh;unfold has at hh';have hp:=zf (Ba.ct _ (jaa hj')).parts
   rcases Qaa k m with h | h
   ·have:=hgt m hm h
    rw[hmr] at this;have:u < ss[j].first:=this
    omega
   ·have h3:r0 D[m]<=r0 D[k]:=by
     rcases Qaa m k with h5 | h5
     ·exact hDs m k h5 hk
     ·have:m=k:=by omega
      subst this;exact Lac _
    rw[hmr] at h3;rw[R8] at h3 hle h1;have h3:ss[j].first<=ss[j'].first:=h3
    have hle:ss[j'].first<=u:=hle
    have e:j=j':=iL Ba hj hj' (u:=ss[j'].first) ⟨h3,by omega⟩ ⟨Lac _,by omega⟩;subst e;have:¬u<=ss[j].first+Na ss[j].parts - 1:=h1
    omega
 have step:∀ (k:Nat)(hk:k < D.length),(∀ q (hq:q < D.length),k < q->u < r0 D[q])->r0 D[k]<=u->∀ R0:PV,
  (u<=r1 D[k]->R0= .mc [.agg [i64 (r0 D[k]),i64 (r1 D[k]),i64 (r2 D[k])],.bool true])->(¬ u<=r1 D[k]->R0= .mc [.agg [i64 0,i64 0,i64 0],.bool false])->
  (∃ j,∃ hj:j < ss.length,has ss[j] u/\R0= .mc [.agg [i64 ss[j].first,i64 (ss[j].first+Na ss[j].parts - 1),i64 j],.bool true])\/((∀ s∈ss,¬has s u)/\R0= .mc [.agg [i64 0,i64 0,i64 0],.bool false]):=by
  intro k hk h1 h2 R0 h3 h4;obtain⟨f1,f2⟩:=fin k hk h1 h2
  by_cases hc:u<=r1 D[k]
  ·obtain⟨j,hj,g1,g2⟩:=f1 hc
   exact .inl ⟨j,hj,g1,by rw[h3 hc,g2]⟩
  ·exact .inr ⟨f2 hc,h4 hc⟩
 suffices key:∃ R0,Ue [.rp R 0,i64 u]=some R0/\((∃ j,∃ hj:j < ss.length,has ss[j] u/\R0= .mc [.agg [i64 ss[j].first,i64 (ss[j].first+Na ss[j].parts - 1),i64 j],.bool true])\/((∀ s∈ss,¬has s u)/\R0= .mc [.agg [i64 0,i64 0,i64 0],.bool false])) by
  obtain⟨R0,k1,⟨j,hj,k2,rfl⟩ | ⟨k2,rfl⟩⟩:=key
  ·exact .inl ⟨j,hj,k2,k1⟩
  ·exact .inr ⟨k2,k1⟩
 by_cases his:∃ h:i < D.length,r0 D[i]=u
 ·obtain⟨h,he⟩:=his
  rw[dif_pos h,Ea he] at M7;have hgt:∀ q (hq:q < D.length),i < q->u < r0 D[q]:=by
   intro q hq hiq;have h3:=hDs i q hiq hq;rcases Int.lt_or_le u (r0 D[q]) with h5 | h5
   ·exact h5
   ·exfalso
    obtain⟨j,hj,hr⟩:=hDm _ (jaa h);obtain⟨j',hj',R8⟩:=hDm _ (jaa hq);have hp:=zf (Ba.ct _ (jaa hj)).parts
    have hp':=zf (Ba.ct _ (jaa hj')).parts
    have e1:ss[j].first=u:=by rw[hr] at he;exact he
    have e2:ss[j'].first<=u:=by rw[R8] at h5;exact h5
    have e3:u<=ss[j'].first:=by rw[R8,he] at h3;exact h3
    have:j=j':=iL Ba hj hj' (u:=u) ⟨by omega,by omega⟩ ⟨by omega,by omega⟩;subst this;have:=(List.getElem_inj hnd).1 (hr.trans R8.symm)
    omega
  have a1:=cB hRW hDr h;have z1:decide ((i:Int) < 0)=false:=Ga (by omega);refine⟨_,?_,step i h hgt (by omega) (if u<=r1 D[i] then .mc [.agg [i64 (r0 D[i]),i64 (r1 D[i]),i64 (r2 D[i])],.bool true] else .mc [.agg [i64 0,i64 0,i64 0],.bool false]) (fun h=>by rw[if_pos h]) (fun h=>by rw[kaa h])⟩
  by_cases hc:u<=r1 D[i]
  ·have z2:decide (u > r1 D[i])=false:=Ga (by omega)
   rw[if_pos hc];simp -implicitDefEqProofs only[Ue,SX,sevalprocAttr,Jh,Kq,vK,l4,c40,M7,z1,a1,z2,r31,r3,b0,ld]
  ·have z2:decide (u > r1 D[i])=true:=Ea (by omega)
   rw[kaa hc];simp -implicitDefEqProofs only[Ue,SX,sevalprocAttr,Jh,Kq,vK,l4,c40,M7,z1,a1,z2,r31,r3,b0,ld]
 ·have hf:(if h:i < D.length then decide (r0 D[i]=u) else false)=false:=by
   by_cases h:i < D.length
   ·rw[dif_pos h];exact Ga fun e=>his ⟨h,e⟩
   ·rw[dif_neg h]
  rw[hf] at M7;have w1:IntKind.i64.wrap ((i:Int) - 1)=(i:Int) - 1:=Aa (by omega)
  cases i with
  |zero=>
   have z1:decide ((-1:Int) < 0)=true:=rfl;have w1:IntKind.i64.wrap (-1)= -1:=Aa (by decide)
   have M7:ef (Da Oe 7) gb [.pv RW,.pv (i64 u),.Ml 41 []] [.box [.pv (i64 0),.pv (i64 0),.pv (i64 0)]]=some (.pv (.mc [i64 0,.bool false]),[.box [.pv (i64 0),.pv (i64 0),.pv (i64 0)]]):=M7;refine⟨.mc [.agg [i64 0,i64 0,i64 0],.bool false],?_,.inr ⟨fun s hs hh=> ?_,rfl⟩⟩
   ·simp -implicitDefEqProofs only[Ue,SX,sevalprocAttr,Jh,Kq,vK,l4,c40,M7,w1,z1,b0,ld]
   ·obtain⟨j,hj,rfl⟩:=qab hs
    obtain⟨m,hm,hmr⟩:=qab (hDh j hj);have h6:=hb m hm (Jac _);have J7:r0 D[m]≠u:=by
     intro e;have h7:=hb 0 (by omega) (paa _);have h8:r0 D[0]<=r0 D[m]:=by
      rcases Sac m with h9 | h9
      ·subst h9;exact Lac _
      ·exact hDs 0 m h9 hm
     exact his ⟨by omega,by omega⟩
    rw[hmr] at h6 J7;have h6:u<=ss[j].first:=h6
    have J7:ss[j].first≠u:=J7
    unfold has at hh;omega
  |succ i=>
   have h:i < D.length:=by omega
   have w2:((i+1:Nat):Int) - 1=(i:Int):=by omega
   rw[w2] at w1;have z1:decide ((i:Int) < 0)=false:=Ga (by omega);have a1:=cB hRW hDr h;have E7:=ha i h (by omega);have hgt:∀ q (hq:q < D.length),i < q->u < r0 D[q]:=by
    intro q hq hiq;have h6:=hb q hq (by omega);rcases Int.lt_or_le u (r0 D[q]) with h5 | h5
    ·exact h5
    ·exfalso
     have h7:=hb (i+1) (by omega) (paa _);have h8:r0 D[i+1]<=r0 D[q]:=by
      rcases Qaa (i+1) q with h9 | h9
      ·exact hDs (i+1) q h9 hq
      ·have:i+1=q:=by omega
       subst this;exact Lac _
     exact his ⟨by omega,by omega⟩
   refine⟨_,?_,step i h hgt (by omega) (if u<=r1 D[i] then .mc [.agg [i64 (r0 D[i]),i64 (r1 D[i]),i64 (r2 D[i])],.bool true] else .mc [.agg [i64 0,i64 0,i64 0],.bool false]) (fun h=>by rw[if_pos h]) (fun h=>by rw[kaa h])⟩
   by_cases hc:u<=r1 D[i]
   ·have z2:decide (u > r1 D[i])=false:=Ga (by omega)
    rw[if_pos hc];simp -implicitDefEqProofs only[Ue,SX,sevalprocAttr,Jh,Kq,vK,l4,c40,M7,w1,w2,z1,a1,z2,r31,r3,b0,ld]
   ·have z2:decide (u > r1 D[i])=true:=Ea (by omega)
    rw[kaa hc];simp -implicitDefEqProofs only[Ue,SX,sevalprocAttr,Jh,Kq,vK,l4,c40,M7,w1,w2,z1,a1,z2,r31,r3,b0,ld]
end
def GY(u:Int):List Ob->Option (List Int)
 | []=>none
 |s::r=>if s.first<=u/\u < s.first+Na s.parts then some (ai s.parts (u - s.first)) else GY u r
theorem PM{u:Int}:∀ {ss:List Ob}{b:List Int},(∀ s∈ss,Be s)->GY u ss=some b->∃ s∈ss,s.first<=u/\u < s.first+Na s.parts/\b=ai s.parts (u - s.first)/\Ti s b=some (u - s.first)/\(∀ x∈b,0<=x/\x<=255)/\b≠[]
 |s::r,b,h,he=>by
  rw[GY] at he
  split at he
  ·next hc=>
   injection he with he;subst he
   have hs:=h s (by simp);obtain⟨h1,h2,h3⟩:=Sy s.parts (u - s.first) 0 hs.parts (by omega) (by omega)
   refine⟨s,by simp,hc.1,hc.2,rfl,?_,h3,?_⟩
   ·unfold Ti;rw[if_pos h2,h1,Int.zero_add]
   ·intro h4;rw[h4] at h2;have:=hs.lo;simp at h2;omega
  ·obtain⟨s',h1,h2⟩:=PM (fun x hx=>h x (by simp[hx])) he
   exact⟨s',by simp[h1],h2⟩
theorem ER{u:Int}:∀ {ss:List Ob},(∀ s∈ss,¬has s u)->GY u ss=none
 | [],_=>rfl
 |s::ss,h=>by have h1:=h s (by simp);unfold has at h1;rw[GY,kaa h1];exact ER fun x hx=>h x (by simp[hx])
theorem C3{u:Int}{ss:List Ob}(Ba:Xb ss){j:Nat}(hj:j < ss.length)(h:has ss[j] u):GY u ss=some (ai ss[j].parts (u - ss[j].first)):=by
 have key:∀ (l:List Ob)(j:Nat)(hj:j < l.length),(∀ i (hi:i < l.length),has l[i] u->i=j)->has l[j] u->GY u l=some (ai l[j].parts (u - l[j].first)):=by
  intro l
  induction l with
  |nil=>intro j hj;simp at hj
  |cons s l ih=>
   intro j hj S7 hh;rw[GY];cases j with
   |zero=>rw[if_pos (show s.first<=u/\u < s.first+Na s.parts from hh)];rfl
   |succ j=>rw[kaa (fun hc:s.first<=u/\u < s.first+Na s.parts=>by have:=S7 0 (by simp) hc;omega)];exact ih j (by simpa using hj) (fun i hi hx=>by have:=S7 (i+1) (by simpa using hi) hx;omega) hh
 exact key ss j hj (fun i hi hx=>iL Ba hi hj hx h) h
section
variable {T:PV}{ss:List Ob}{l:List (List ae)}(hT:Ko T ss l)(Ba:Xb ss)
include hT Ba
theorem LW(u:Int):Ej [T,i64 u]=some (match GY u ss with | some b=> .mc [.lit 1 (b.map u8),.bool true] | none=> .mc [.ga,.bool false]):=by
 have K7:=wY hT Ba u;obtain⟨S',NX,DG,RW,rfl,_,_,hDG,_⟩:=hT.ex
 have hrp:=rC (a:=S') (b:=Qk l) (c:=NX) (d:=DG) (e:=RW) (f:=i64 (Cj ss));have l3:=fun H=>(hrp H).2.1
 generalize ([S',Qk l,NX,DG,RW,i64 (Cj ss)]:List PV)=R at *;have st:∀ a b c,Ha [ba.box [.pv (i64 0),.pv (i64 0),.pv (i64 0)]] 3 (.ptr 0 0) (.pv (.agg [i64 a,i64 b,i64 c]))=some [.box [.pv (i64 a),.pv (i64 b),.pv (i64 c)]]:=fun a b c=>rfl;rcases K7 with⟨j,hj,hh,hr⟩ | ⟨hn,hr⟩
 ·rw[C3 Ba hj hh]
  have hs:=Ba.ct _ (jaa hj)
  have hh':=hh;unfold has at hh';have hun:=OF hs (k:=u - ss[j].first) (by omega) (by omega);have hf0:=hs.f0
  have hl:=hs.zi
  have S9:=hs.last
  have a1:∀ H,ta H 1 (.pv DG) (j:Int)=some (.pv (.rp [Ij ss[j].parts] 0)):=fun H=>by rw[hDG.lit (i:=j) (by simpa using hj)];simp only[ta];rw[if_pos ⟨trivial,by unfold Ia;rw[haa];omega⟩,Daa,Eaa,aaa hj];rfl
  generalize ss[j]=s at *;have w1:IntKind.i64.wrap (u - s.first)=u - s.first:=Aa (by omega)
  have p0:∀ a b c d,place [ba.box [.pv a,.pv b,.pv c]] d (.ptr 0 0)=some (.ptr 0 (0+d)):=fun a b c d=>rfl;have q2:∀ a b c,pa [ba.box [.pv a,.pv b,.pv c]] false 1 (.ptr 0 2)=some (.pv c):=fun a b c=>rfl;have q0:∀ a b c,pa [ba.box [.pv a,.pv b,.pv c]] false 1 (.ptr 0 0)=some (.pv a):=fun a b c=>rfl;simp -implicitDefEqProofs only[Ej,SX,sevalprocAttr,Vl,hr,st,vK,l3,p0,q2,q0,a1,Wa,w1,hun]
 ·rw[ER hn]
  simp -implicitDefEqProofs only[Ej,SX,sevalprocAttr,Vl,hr,st]
def cv(bs:List Int):List Ob->Option Int
 | []=>none
 |s::ss=>match Ti s bs with
  |some k=>some (s.first+k)
  |none=>cv bs ss
omit hT Ba in
theorem GS{bs:List Int}{ss:List Ob}{i:Nat}(hi:i < ss.length):cv bs (ss.drop i)=match Ti ss[i] bs with | some k=>some (ss[i].first+k) | none=>cv bs (ss.drop (i+1)):=by
 rw[Paa hi,cv]
theorem rW{B:PV}{bs:List Int}(hB:lk B bs):Fh [T,B]=some (match cv bs ss with | some v=> .mc [i64 v,.bool true] | none=> .mc [i64 0,.bool false]):=by
 obtain⟨S',NX,DG,RW,rfl,hS',_,hDG,_⟩:=hT.ex
 have hrp:=rC (a:=S') (b:=Qk l) (c:=NX) (d:=DG) (e:=RW) (f:=i64 (Cj ss));have l3:=fun H=>(hrp H).2.1
 have l0:=fun H=>(hrp H).2.2.2.2.1
 generalize ([S',Qk l,NX,DG,RW,i64 (Cj ss)]:List PV)=R at *;have lD:=hDG.len
 rw[haa] at lD;have h32:=Ba.len
 have hB1:=hB.one
 obtain⟨D,hD⟩:∃ D,D=cv bs ss:=⟨_,rfl⟩;rw[<- hD];have D7:=fun (E:Tr)(h0:E.get 0= .pv (.rp R 0))(h1:E.get 1= .pv B)(h15:E.get 15= .pv DG)(h16:E.get 16= .pv (i64 ss.length))(h17:E.get 17= .pv (i64 0))=>
  tr (call:=Da (fun _=>none) 8) (b:=ng) (live:=[0,1,15,16,17]) (s:=⟨E,[]⟩) (Q:=fun r=>(∃ E',r=(.exit 0,⟨E',[]⟩)/\D=none)\/∃ E' v,r=(.ret,⟨E',[]⟩)/\E'.get 4= .pv (i64 v)/\E'.get 5= .pv (.bool true)/\D=some v)
   (fun i t=>Ve [0,1,15,16] E t.env/\t.env.get 17= .pv (i64 i)/\t.H=[]/\D=cv bs (ss.drop i)) ss.length (by unfold ua;omega)
   (Yh.all rfl (by simp) (Fit.cons h0 Qa (.cons h1 Qa (.cons h15 Qa (.cons h16 Qa (.cons h17 Qa (.nil _ _)))))) fun E' hE=>⟨Ve.sub hE rfl,by rw[hE 17 (by simp),h17];rfl,rfl,hD⟩)
   (by
    rintro i ⟨E1,H1⟩ hi ⟨k1,k2,k3,k5⟩;simp only at k1 k2 k3;subst k3;have g0:=(k1 0 (by simp)).trans h0
    have g1:=(k1 1 (by simp)).trans h1
    have g15:=(k1 15 (by simp)).trans h15
    have g16:=(k1 16 (by simp)).trans h16
    have hs:=Ba.ct _ (jaa hi)
    have hrk:=XK hB hs;rw[GS hi] at k5;have hdc:(Ij ss[i].parts).cells=[Ij ss[i].parts]:=rfl
    have a1:∀ H,ta H 1 (.pv DG) (i:Int)=some (.pv (.rp [Ij ss[i].parts] 0)):=fun H=>by rw[hDG.lit (i:=i) (by simpa using hi)];simp only[ta];rw[if_pos ⟨trivial,by unfold Ia;rw[haa];omega⟩,Daa,Eaa,aaa hi];rfl
    have a2:∀ H,ta H 2 (.pv S') (i:Int)=some (.pv (.rp [.lit 1 (ss[i].parts.map Te),i64 ss[i].first] 0)):=fun H=>by rw[hS'.lit (i:=i) (by simpa using hi)];simp only[ta];rw[if_pos ⟨trivial,by unfold Ia;rw[haa];omega⟩,Daa,Eaa,aaa hi];rfl
    have hrb:=fun k hk=>HN (b:=bs) (k:=k) hs hk;generalize ss[i]=s at *;have hf0:=hs.f0
    have e1:decide ((i:Int) < (ss.length:Int))=true:=Ea (by omega);have t1:IntKind.i64.wrap ((i:Int)+1)=((i+1:Nat):Int):=og (by omega)
    generalize hQ:RQ _ _ _ _=Q;cases hrs:Ti s bs with
    |some k=>
     rw[hrs] at k5;have hr1:=hrk.1 k hrs
     have hb:=hrb k hrs;have w1:IntKind.i64.wrap (s.first+k)=s.first+k:=Aa (by omega)
     simp -implicitDefEqProofs only[SX,sevalprocAttr,ng,g0,g1,g15,g16,k2,e1,a1,a2,Wa,vK,l0,Rj,hr1,w1];subst hQ;exact .inr ⟨_,_,rfl,by simp[Tr.aa],by simp[Tr.aa],k5⟩
    |none=>
     rw[hrs] at k5;have hr1:=hrk.2 hrs
     simp -implicitDefEqProofs only[SX,sevalprocAttr,ng,g0,g1,g15,g16,k2,e1,a1,Wa,hr1,t1];subst hQ;rw[Mn];generalize W7:(Tr.set _ 17 _:Tr)=E2;have kk:Ve [0,1,15,16] E E2:=by
      rw[<- W7]
      repeat refine Ve.set ?_ rfl
      exact k1
     have z17:E2.get 17= .pv (i64 (i+1:Nat)):=by rw[<- W7];simp[Tr.aa]
     exact Yh.all rfl (by simp) (Fit.sub (.cons z17 Qa (Fit.oe (l:=[0,1,15,16]) (.cons h0 Qa (.cons h1 Qa (.cons h15 Qa (.cons h16 Qa (.nil _ _))))) kk)) rfl) fun E' hE=>⟨kk.trans (Ve.sub hE rfl),by rw[hE 17 (by simp),z17],rfl,k5⟩)
   (by
    rintro⟨E1,H1⟩ ⟨k1,k2,k3,k5⟩;simp only at k1 k2 k3;subst k3;have g16:=(k1 16 (by simp)).trans h16
    rw[vab] at k5;have e1:decide ((ss.length:Int) < (ss.length:Int))=false:=Ga (by omega);generalize hQ:(fun r:Ex×St=>r.1.stop=true/\_)=Q;simp -implicitDefEqProofs only[SX,sevalprocAttr,ng,g16,k2,e1];subst hQ;exact⟨rfl,.inl ⟨_,rfl,k5⟩⟩)
 refine Yk ?_;generalize hQ:(fun x:PV=>x=_)=Q;simp -implicitDefEqProofs only[Fh,SX,sevalprocAttr,Yl,Kq,vK,l3,lD];generalize W7:(Tr.set _ 17 _:Tr)=E;refine wa (D7 E (by rw[<- W7];simp[Tr.aa]) (by rw[<- W7];simp[Tr.aa]) (by rw[<- W7];simp[Tr.aa]) (by rw[<- W7];simp[Tr.aa]) (by rw[<- W7];simp[Tr.aa])) ?_;rintro r ⟨_,⟨E',rfl,z1⟩ | ⟨E',v,rfl,z4,z5,z6⟩⟩
 ·simp -implicitDefEqProofs only[SX,sevalprocAttr]
  subst hQ;rw[z1]
 ·simp -implicitDefEqProofs only[SX,sevalprocAttr,z4,z5]
  subst hQ;rw[z6]
end
structure Pu where
 kind:Int
 size:Nat
 u:Int
theorem aD(l:List (List ae)):∀ (bs:List Int)(i:Nat)(st:Int),∃ k:Nat,i<=k/\k<=i+bs.length/\((Tg l i st bs=((k:Int),1)/\i < k)\/(Tg l i st bs=((k:Int),2)/\k=i+bs.length)\/(Tg l i st bs=((k:Int),3)/\k < i+bs.length))
 | [],i,st=>⟨i,paa _,by simp,.inr (.inl ⟨rfl,by simp⟩)⟩
 |b::r,i,st=>by
  rw[Tg]
  by_cases h1:(Md l st b).2=false
  ·rw[if_pos h1];exact⟨i,paa _,by simp,.inr (.inr ⟨rfl,by simp⟩)⟩
  ·rw[kaa h1]
   by_cases h2:(Md l st b).1= -1
   ·rw[if_pos h2];exact⟨i+1,by omega,by simp,.inl ⟨rfl,by omega⟩⟩
   ·rw[kaa h2]
    obtain⟨k,k1,k2,k3⟩:=aD l r (i+1) (Md l st b).1
    refine⟨k,by omega,by simp;omega,?_⟩;rcases k3 with⟨a,b⟩ | ⟨a,b⟩ | ⟨a,b⟩
    ·exact .inl ⟨a,by omega⟩
    ·exact .inr (.inl ⟨a,by simp;omega⟩)
    ·exact .inr (.inr ⟨a,by simp;omega⟩)
def stays(l:List (List ae)):Int->List Int->Option Int
 |st,[]=>some st
 |st,b::r=>if (Md l st b).2=false\/(Md l st b).1= -1 then none else stays l (Md l st b).1 r
theorem zy{l:List (List ae)}{st':Int}(r:List Int):∀ {h:List Int}{i:Nat}{st:Int},stays l st h=some st'->Tg l i st (h++r)=Tg l (i+h.length) st' r
 | [],i,st,hs=>by injection hs with hs;subst hs;rfl
 |b::h,i,st,hs=>by
  rw[stays] at hs
  split at hs
  ·cases hs
  ·next hn=>
   rw[bab,Tg,kaa (fun h=>hn (.inl h)),kaa (fun h=>hn (.inr h)),zy r hs,Oaa]
   congr 1;omega
theorem MA{l:List (List ae)}{b:Int}{st':Int}:∀ {h:List Int}{st:Int},stays l st h=some st'->(Md l st' b).2=true->(Md l st' b).1≠ -1->stays l st (h++[b])=some (Md l st' b).1
 | [],st,hs,h1,h2=>by
   injection hs with hs;subst hs
   rw[Yaa,stays,kaa (by rw[h1];simp[h2]),stays]
 |c::h,st,hs,h1,h2=>by
  rw[stays] at hs
  split at hs
  ·cases hs
  ·next hn=>rw[bab,stays,kaa hn];exact MA hs h1 h2
section
variable (ss:List Ob)(l:List (List ae))
def zu(bs:List Int):Pu:=
 if (Tg l 0 0 bs).2=1 then ⟨1,(Tg l 0 0 bs).1.toNat,(cv (bs.take (Tg l 0 0 bs).1.toNat) ss).getD 0⟩
 else if (Tg l 0 0 bs).2=2 then ⟨3,(Tg l 0 0 bs).1.toNat,0⟩ else ⟨2,max (Tg l 0 0 bs).1.toNat 1,0⟩
theorem Ou{bs:List Int}(h:bs≠[]):1<=(zu ss l bs).size/\(zu ss l bs).size<=bs.length:=by
 have hl:0 < bs.length:=Sab.2 h
 obtain⟨k,k1,k2,k3⟩:=aD l bs 0 0;unfold zu;rcases k3 with⟨a,b⟩ | ⟨a,b⟩ | ⟨a,b⟩ <;> rw[a] <;> simp <;> omega
def rK:Nat->List Int->List Pu
 |0,_=>[]
 |n+1,bs=>if bs=[] then [] else zu ss l bs::rK n (bs.drop (zu ss l bs).size)
theorem II:∀ {n m:Nat}{bs:List Int},bs.length<=n->bs.length<=m->rK ss l n bs=rK ss l m bs
 |0,m,bs,h1,h2=>by have:bs=[]:=qaa (by omega);subst this;cases m <;> simp[rK]
 |n+1,0,bs,h1,h2=>by have:bs=[]:=qaa (by omega);subst this;simp[rK]
 |n+1,m+1,bs,h1,h2=>by
  rw[rK,rK]
  by_cases h:bs=[]
  ·rw[if_pos h,if_pos h]
  ·rw[kaa h,kaa h]
   have:=Ou ss l h;rw[II (n:=n) (m:=m) (by rw[Fab];omega) (by rw[Fab];omega)]
def dt(bs:List Int):List Pu:=rK ss l bs.length bs
theorem HB:dt ss l []=[]:=rfl
theorem QC{bs:List Int}(h:bs≠[]):dt ss l bs=zu ss l bs::dt ss l (bs.drop (zu ss l bs).size):=by
 have hl:0 < bs.length:=Sab.2 h
 have hs:=Ou ss l h;obtain⟨n,hn⟩:∃ n,bs.length=n+1:=⟨bs.length - 1,by omega⟩
 unfold dt
 conv=>lhs;rw[hn]
 rw[rK,kaa h,II ss l (n:=n) (m:=(bs.drop (zu ss l bs).size).length) (by rw[Fab];omega) (paa _)]
def cy:Nat->List Int->List Pu×List Int
 |0,bs=>([],bs)
 |n+1,bs=>if bs=[]\/(zu ss l bs).kind=3 then ([],bs) else (zu ss l bs::(cy n (bs.drop (zu ss l bs).size)).1,(cy n (bs.drop (zu ss l bs).size)).2)
theorem kH:∀ {n m:Nat}{bs:List Int},bs.length<=n->bs.length<=m->cy ss l n bs=cy ss l m bs
 |0,m,bs,h1,h2=>by have:bs=[]:=qaa (by omega);subst this;cases m <;> simp[cy]
 |n+1,0,bs,h1,h2=>by have:bs=[]:=qaa (by omega);subst this;simp[cy]
 |n+1,m+1,bs,h1,h2=>by
  rw[cy,cy]
  by_cases h:bs=[]\/(zu ss l bs).kind=3
  ·rw[if_pos h,if_pos h]
  ·rw[kaa h,kaa h]
   have:=Ou ss l (fun h'=>h (.inl h'));rw[kH (n:=n) (m:=m) (by rw[Fab];omega) (by rw[Fab];omega)]
def qf(bs:List Int):List Pu×List Int:=cy ss l bs.length bs
theorem Az{bs:List Int}(h:bs=[]\/(zu ss l bs).kind=3):qf ss l bs=([],bs):=by
 unfold qf;cases bs.length with
 |zero=>rfl
 |succ n=>rw[cy,if_pos h]
theorem Bp{bs:List Int}(h:bs≠[])(h3:(zu ss l bs).kind≠3):qf ss l bs=(zu ss l bs::(qf ss l (bs.drop (zu ss l bs).size)).1,(qf ss l (bs.drop (zu ss l bs).size)).2):=by
 have hl:0 < bs.length:=Sab.2 h
 have hs:=Ou ss l h;obtain⟨n,hn⟩:∃ n,bs.length=n+1:=⟨bs.length - 1,by omega⟩
 unfold qf
 conv=>lhs;rw[hn]
 rw[cy,kaa (by simp[h,h3]),kH ss l (n:=n) (m:=(bs.drop (zu ss l bs).size).length) (by rw[Fab];omega) (paa _)]
def cA(x:Int):List Pu×List Int:=if (Md l 0 x).2=true then (if (Md l 0 x).1= -1 then ([⟨1,1,(cv [x] ss).getD 0⟩],[]) else ([],[x])) else ([⟨2,1,0⟩],[])
def Il(stop:Bool)(h:List Int)(st x:Int):List Pu×List Int:=
 if (Md l st x).2=true then (if (Md l st x).1= -1 then ([⟨1,h.length+1,(cv (h++[x]) ss).getD 0⟩],[]) else ([],h++[x]))
 else if h=[] then ([⟨2,1,0⟩],[]) else if stop then ([⟨2,h.length,0⟩],[]) else (⟨2,h.length,0⟩::(cA ss l x).1,(cA ss l x).2)
def Jq(e:Pu):Bool:=e.kind==2
def Dl(stop:Bool):List Int->List Int->List Pu×List Int×Bool
 |h,[]=>([],h,false)
 |h,x::r=>if stop&&(Il ss l stop h ((stays l 0 h).getD 0) x).1.any Jq then ((Il ss l stop h ((stays l 0 h).getD 0) x).1,(Il ss l stop h ((stays l 0 h).getD 0) x).2,true)
  else ((Il ss l stop h ((stays l 0 h).getD 0) x).1++(Dl stop (Il ss l stop h ((stays l 0 h).getD 0) x).2 r).1,(Dl stop (Il ss l stop h ((stays l 0 h).getD 0) x).2 r).2)
theorem HO{h:List Int}{st:Int}(hs:stays l 0 h=some st)(r:List Int):Tg l 0 0 (h++r)=Tg l h.length st r:=by
 rw[zy r hs,Zaa]
theorem zT{h:List Int}{st:Int}(hs:stays l 0 h=some st):qf ss l h=([],h):=by
 apply Az;have:=HO l hs [];rw[wab,Tg] at this;exact .inr (by unfold zu;rw[this,kaa (by simp),if_pos rfl])
theorem LP(x:Int)(r:List Int):∃ st,stays l 0 (cA ss l x).2=some st/\qf ss l (x::r)=((cA ss l x).1++(qf ss l ((cA ss l x).2++r)).1,(qf ss l ((cA ss l x).2++r)).2):=by
 unfold cA;have hm:Tg l 0 0 (x::r)=if (Md l 0 x).2=false then (((0:Nat):Int),3) else if (Md l 0 x).1= -1 then (((0+1:Nat):Int),1) else Tg l (0+1) (Md l 0 x).1 r:=rfl
 by_cases h1:(Md l 0 x).2=true
 ·rw[if_pos h1]
  rw[kaa (by rw[h1];simp)] at hm
  by_cases h2:(Md l 0 x).1= -1
  ·rw[if_pos h2]
   rw[if_pos h2] at hm;refine⟨0,rfl,?_⟩;have he:zu ss l (x::r)=⟨1,1,(cv [x] ss).getD 0⟩:=by unfold zu;rw[hm];rfl
   rw[Bp ss l (by simp) (by rw[he];simp),he];rfl
  ·rw[kaa h2]
   exact⟨_,by rw[stays,kaa (by rw[h1];simp[h2]),stays],rfl⟩
 ·have D9:(Md l 0 x).2=false:=by simpa using h1
  rw[kaa h1];rw[if_pos D9] at hm;refine⟨0,rfl,?_⟩;have he:zu ss l (x::r)=⟨2,1,0⟩:=by unfold zu;rw[hm];rfl
  rw[Bp ss l (by simp) (by rw[he];simp),he];rfl
theorem oV{h:List Int}{st:Int}(hs:stays l 0 h=some st)(x:Int)(r:List Int):∃ st',stays l 0 (Il ss l false h st x).2=some st'/\qf ss l (h++x::r)=((Il ss l false h st x).1++(qf ss l ((Il ss l false h st x).2++r)).1,(qf ss l ((Il ss l false h st x).2++r)).2):=by
 have hm:=HO l hs (x::r);have hm2:Tg l h.length st (x::r)=if (Md l st x).2=false then ((h.length:Int),3) else if (Md l st x).1= -1 then (((h.length+1:Nat):Int),1) else Tg l (h.length+1) (Md l st x).1 r:=rfl
 rw[hm2] at hm;unfold Il
 by_cases h1:(Md l st x).2=true
 ·rw[if_pos h1]
  rw[kaa (by rw[h1];simp)] at hm
  by_cases h2:(Md l st x).1= -1
  ·rw[if_pos h2]
   rw[if_pos h2] at hm;refine⟨0,rfl,?_⟩;have ht:(h++x::r).take (h.length+1)=h++[x]:=by rw[Aae,Saa (by omega)];simp
   have hd:(h++x::r).drop (h.length+1)=r:=by rw[zae,rae (by omega)];simp
   have he:zu ss l (h++x::r)=⟨1,h.length+1,(cv (h++[x]) ss).getD 0⟩:=by unfold zu;rw[hm,if_pos rfl,Daa,ht]
   rw[Bp ss l (by simp) (by rw[he];simp),he];simp only[hd];rfl
  ·rw[kaa h2]
   refine⟨_,MA hs h1 h2,by simp⟩
 ·have D9:(Md l st x).2=false:=by simpa using h1
  rw[kaa h1];rw[if_pos D9] at hm
  by_cases h0:h=[]
  ·subst h0
   rw[if_pos rfl];refine⟨0,rfl,?_⟩;have he:zu ss l ([]++x::r)=⟨2,1,0⟩:=by unfold zu;rw[hm];rfl
   rw[Bp ss l (by simp) (by rw[he];simp),he];rfl
  ·rw[kaa h0,kaa (by simp)]
   have hl:0 < h.length:=Sab.2 h0
   obtain⟨st0,b1,b2⟩:=LP ss l x r;refine⟨st0,b1,?_⟩;have he:zu ss l (h++x::r)=⟨2,h.length,0⟩:=by
    unfold zu;rw[hm,kaa (by simp),kaa (by simp),Daa]
    congr 1;omega
   rw[Bp ss l (by simp) (by rw[he];simp),he];simp only[List.drop_left' rfl];rw[b2];rfl
theorem Mz:∀ (b h:List Int)(st:Int),stays l 0 h=some st->Dl ss l false h b=((qf ss l (h++b)).1,(qf ss l (h++b)).2,false)/\∃ st',stays l 0 (qf ss l (h++b)).2=some st'
 | [],h,st,hs=>by rw[wab,zT ss l hs];exact⟨rfl,st,hs⟩
 |x::r,h,st,hs=>by
  obtain⟨st',c1,c2⟩:=oV ss l hs x r;rw[c2,Dl,hs,Tac];obtain⟨f1,f2⟩:=Mz r (Il ss l false h st x).2 st' c1
  rw[f1];exact⟨rfl,f2⟩
end
def Zg(e:Pu)(at_:Int):PV:= .agg [i64 e.kind,i64 at_,i64 e.size,i64 e.u,i64 0]
def Oc:Nat->List Pu->List PV
 |_,[]=>[]
 |k,e::r=>Zg e k::Oc (k+e.size) r
theorem Vf:∀ (k:Nat)(l:List Pu),(Oc k l).length=l.length
 |_,[]=>rfl
 |k,e::r=>by rw[Oc,Oaa,Oaa,Vf]
theorem FH:∀ (k:Nat)(l:List Pu)(i:Nat)(h:i < l.length),∃ p:Nat,(Oc k l)[i]? =some (Zg l[i] p)
 |k,e::r,0,_=>⟨k,rfl⟩
 |k,e::r,i+1,h=>by obtain⟨p,hp⟩:=FH (k+e.size) r i (by simpa using h);exact⟨p,by simpa[Oc] using hp⟩
theorem xB:∀ (k:Nat)(a b:List Pu),Oc k (a++b)=Oc k a++Oc (k+(a.map (·.size)).sum) b
 |k,[],b=>by simp[Oc]
 |k,e::a,b=>by rw[bab,Oc,Oc,xB,lab,List.sum_cons,Nat.add_assoc];rfl
def X5(T R:PV)(un Jc out:Int)(st fin:Bool):ba:= .box ([T,i64 un,R,i64 Jc,i64 out,.bool st,.bool fin].map .pv)
structure S4(T:PV)(cd:Int->Option (List Int)):Prop where
 enc:∀ u,Ej [T,i64 u]=some (match cd u with | some b=> .mc [.lit 1 (b.map u8),.bool true] | none=> .mc [.ga,.bool false])
 len:∀ u b,cd u=some b->b.length<=8
 ptr:∃ R,T= .rp R 0
structure NT(U:AV)(us:List Int)(n0:Nat):Prop where
 len:∀ H,Sb H 0 U=some us.length
 Z4:∀ H (i:Nat) (h:i < us.length),ta H 1 U i=some (.pv (.rp [i64 us[i]] 0))
 cut:∀ n,n0<=n->AV.cut n deep U=some U
theorem EA{A:List ba}{id n sz bytes:Nat}{nl nl' ag:Bool}{h:Yf}{es ys:List PV}(hg:A[id]? =some (.tok sz n nl'))(hn:n=es.length)(hr:eb (es.length+ys.length) bytes):
 Cb A false h sz ag bytes (.uq id nl sz es) (.pv (.lit sz ys))=some (.uq id (nl&&ys.isEmpty) sz (es++ys),A.set id (.tok sz (es.length+ys.length) (nl&&ys.isEmpty))):=by
 subst hn;simp only[Cb,saa,if_false,hg,Mf,if_true,yaa];rw[if_pos ⟨trivial,trivial,trivial,hr⟩]
section
variable {A:List ba}{c:Nat}
end
def Th(buf:List Int)(r h n:Int):List PV:=buf.map u8++[i64 r,i64 h,i64 n]
theorem sN{buf:List Int}(hb:buf.length=8)(r h n:Int):(Th buf r h n).length=11:=by simp[Th,hb]
theorem LZ{buf:List Int}(hb:buf.length=8){r h n:Int}{k:Nat}(hk:k < 8):(Th buf r h n)[k]? =some (u8 (buf[k]'(by omega))):=by
 unfold Th;rw[eaa (by simp;omega)];simp[hb,hk]
theorem xG{buf:List Int}(hb:buf.length=8){r h n:Int}:(Th buf r h n)[8]? =some (i64 r)/\(Th buf r h n)[9]? =some (i64 h)/\(Th buf r h n)[10]? =some (i64 n):=by
 unfold Th;refine⟨?_,?_,?_⟩ <;> rw[Kaa (by simp;omega)] <;> simp[hb]
structure xo(buf:List Int)(h:Nat)(q:List Int):Prop where
 len:buf.length=8
 head:h < 8
 n:q.length<=8
 Z4:∀ i (hi:i < q.length),buf[(h+i) % 8]? =some q[i]
 Ty:∀ x∈q,0<=x/\x<=255
theorem gK{row:List PV}{k:Nat}{p:PV}(h:row[k]? =some p)(H:List ba):pa H false 1 (.pv (.rp row k))=some (.pv p):=by
 show (row[k]?).map AV.pv=_
 rw[h];rfl
theorem yy(row:List PV)(H:List ba)(k:Nat):place H k (.pv (.rp row 0))=some (.pv (.rp row k)):=by
 show some (AV.pv (.rp row (0+k)))=_;rw[Zaa]
theorem xw{buf q:List Int}{h:Nat}{r:Int}(hq:xo buf h q):Of [.rp (Th buf r h q.length) 0]=some (i64 q.length):=by
 obtain⟨c8,c9,c10⟩:=xG hq.len (r:=r) (h:=h) (n:=q.length)
 generalize Th buf r h q.length=row at *
 have e1:∀ H,Kq H 1 (.pv (.rp row 0)) (.pv .sf)=some false:=fun H=>rfl;have pl:=yy row;have ld:=fun H=>gK c10 H;simp -implicitDefEqProofs only[Of,SX,sevalprocAttr,Mo,e1,pl,ld]
theorem JS{buf q:List Int}{h:Nat}{r:Int}(hq:xo buf h q){i:Nat}(hi:i < q.length):wm [.rp (Th buf r h q.length) 0,i64 i]=some (.mc [u8 q[i],.bool true]):=by
 have hlen:=xw (r:=r) hq;obtain⟨c8,c9,c10⟩:=xG hq.len (r:=r) (h:=h) (n:=q.length)
 have hm:(h+i) % 8 < 8:=yae _ (by decide);have hca:=LZ hq.len (r:=r) (h:=(h:Int)) (n:=q.length) hm
 have hbv:buf[(h+i) % 8]'(by rw[hq.len];exact hm)=q[i]:=by
  have:=hq.Z4 i hi
  rw[aaa (by rw[hq.len];exact hm)] at this;injection this
 rw[hbv] at hca;have hh:=hq.head
 have hn:=hq.n
 generalize Th buf r h q.length=row at *
 have pl:=yy row;have ld9:=fun H=>gK c9 H;have ldm:=fun H=>gK hca H;have d1:decide ((i:Int) < 0)=false:=Ga (by omega);have d2:decide ((i:Int)>=(q.length:Int))=false:=Ga (by omega);have w1:IntKind.i64.wrap ((h:Int)+(i:Int))=((h+i:Nat):Int):=(Aa (by omega)).trans (by omega)
 have w2:(((h+i:Nat):Int)).tmod 8=(((h+i) % 8:Nat):Int):=(Int.ofNat_tmod (h+i) 8).symm
 have hx:Ia (((h+i) % 8:Nat):Int) 8:=by unfold Ia;omega
 have hn8:((((h+i) % 8:Nat):Int)).toNat=(h+i) % 8:=Daa _
 simp -implicitDefEqProofs only[wm,SX,sevalprocAttr,Dp,hlen,pl,ld9,d1,d2,w1,w2,Iaa hx,hn8,ldm]
def Xe(buf:List Int)(r h n:Int):ba:= .box ((Th buf r h n).map .pv)
theorem Ar{H:List ba}{c:Nat}{row:List PV}(hc:H[c]? =some (.box (row.map .pv))){k:Nat}{p:PV}(hk:row[k]? =some p):pa H false 1 (.ptr c k)=some (.pv p):=by
 unfold pa;simp only[hc];show (row.map AV.pv)[k]? =_;rw[Eaa,hk];rfl
theorem Jw{H:List ba}{c:Nat}{cells:List AV}(hc:H[c]? =some (.box cells))(k:Nat):place H k (.ptr c 0)=some (.ptr c k):=by
 unfold place;simp only[hc,Zaa]
theorem iB{H:List ba}{c:Nat}{row:List PV}(hc:H[c]? =some (.box (row.map .pv))){k:Nat}(hk:k < row.length){p:PV}(h1:(AV.pv p).one=true)(h2:p.cells=[p]):Ha H 1 (.ptr c k) (.pv p)=some (H.set c (.box ((row.set k p).map .pv))):=by
 unfold Ha;rw[if_pos ⟨by simp[AV.cells,h2],by simp[AV.cells,h2,h1]⟩];simp only[hc];rw[if_pos (by rw[haa];omega)];simp[AV.cells,h2,fa,qae]
theorem oW{call:Sa}{H:List ba}{c:Nat}{buf q:List Int}{h:Nat}{x:Int}(hq:xo buf h q)(hc:H[c]? =some (Xe buf 8 h q.length))(hl:q.length < 8)(hx:0<=x/\x<=255):
 ∃ buf',xo buf' h (q++[x])/\ef call Ae [.ptr c 0,.pv (u8 x)] H=some (.pv (i64 0),H.set c (Xe buf' 8 h (q++[x]).length)):=by
 obtain⟨c8,c9,c10⟩:=xG hq.len (r:=8) (h:=h) (n:=q.length)
 have hrl:=sN hq.len 8 h q.length
 have hm:(h+q.length) % 8 < 8:=yae _ (by decide);have hh:=hq.head
 refine⟨buf.set ((h+q.length) % 8) x,⟨by rw[qac];exact hq.len,hh,by simp;omega,fun i hi=> ?_,fun y hy=> ?_⟩,?_⟩
 ·rw[List.getElem?_set]
  rcases Qaa i q.length with E7 | e9
  ·rw[kaa (by omega),hq.Z4 i E7,List.getElem_append_left E7]
  ·have:i=q.length:=by simp at hi;omega
   subst this;rw[if_pos rfl,if_pos (by rw[hq.len];exact hm)];simp
 ·rcases Jaa.1 hy with h1 | h1
  ·exact hq.Ty y h1
  ·rw[Hab] at h1;subst h1;exact hx
 ·unfold Xe at hc
  have P7:c < H.length:=(iaa.1 hc).1
  have e1:Kq H 1 (.ptr c 0) (.pv .sf)=some false:=by simp[Kq,hc]
  have pl:=fun k=>Jw hc k;have l8:=Ar hc c8;have l9:=Ar hc c9;have l10:=Ar hc c10;have d1:decide ((q.length:Int)>=8)=false:=Ga (by omega);have w1:IntKind.i64.wrap ((h:Int)+(q.length:Int))=((h+q.length:Nat):Int):=(Aa (by omega)).trans (by omega)
  have w2:(((h+q.length:Nat):Int)).tmod 8=(((h+q.length) % 8:Nat):Int):=(Int.ofNat_tmod (h+q.length) 8).symm
  have w3:IntKind.i64.wrap ((q.length:Int)+1)=((q.length+1:Nat):Int):=og (by omega)
  have hix:Ia (((h+q.length) % 8:Nat):Int) 8:=by unfold Ia;omega
  have hn8:((((h+q.length) % 8:Nat):Int)).toNat=(h+q.length) % 8:=Daa _
  have st1:=iB hc (k:=(h+q.length) % 8) (by omega) (p:=u8 x) rfl rfl;have hc2:(H.set c (.box (((Th buf 8 h q.length).set ((h+q.length) % 8) (u8 x)).map .pv)))[c]? =some (.box (((Th buf 8 h q.length).set ((h+q.length) % 8) (u8 x)).map .pv)):=by rw[Maa P7]
  have pl2:=fun k=>Jw hc2 k;have Gag:((Th buf 8 h q.length).set ((h+q.length) % 8) (u8 x))[10]? =some (i64 q.length):=by rw[List.getElem?_set,kaa (by omega),c10]
  have Hag:=Ar hc2 Gag;have st2:=iB hc2 (k:=10) (by rw[qac];omega) (p:=i64 ((q.length+1:Nat):Int)) rfl rfl;have R7:((Th buf 8 h q.length).set ((h+q.length) % 8) (u8 x)).set 10 (i64 ((q.length+1:Nat):Int))=Th (buf.set ((h+q.length) % 8) x) 8 h (q++[x]).length:=by unfold Th;rw[Cac _ _ (by simp[hq.len];omega),Jab _ _ (by simp[hq.len])];simp[hq.len,qae]
  rw[List.set_set,R7] at st2;unfold Xe;generalize Th buf 8 h q.length=row at *
  generalize Th (buf.set ((h+q.length) % 8) x) 8 h (q++[x]).length=wae at *
  generalize row.set ((h+q.length) % 8) (u8 x)=row1 at *
  simp -implicitDefEqProofs only[SX,sevalprocAttr,Ae,e1,pl,l8,l9,l10,d1,w1,w2,w3,Iaa hix,hn8,st1,pl2,Hag,st2]
theorem iy{call:Sa}{H:List ba}{c:Nat}{buf q:List Int}{h k:Nat}(hq:xo buf h q)(hc:H[c]? =some (Xe buf 8 h q.length))(hk:k<=q.length):
 xo buf ((h+k) % 8) (q.drop k)/\ef call Nc [.ptr c 0,.pv (i64 k)] H=some (.pv (i64 0),H.set c (Xe buf 8 ((h+k) % 8:Nat) (q.drop k).length)):=by
 obtain⟨c8,c9,c10⟩:=xG hq.len (r:=8) (h:=h) (n:=q.length)
 have hrl:=sN hq.len 8 h q.length
 have hh:=hq.head
 have hn:=hq.n
 have hm:(h+k) % 8 < 8:=yae _ (by decide);refine⟨⟨hq.len,hm,by rw[Fab];omega,fun i hi=> ?_,fun y hy=>hq.Ty y (Vab hy)⟩,?_⟩
 ·rw[Fab] at hi
  have:=hq.Z4 (k+i) (by omega)
  rw[List.getElem_drop,<-this]
  congr 1
  omega
 ·unfold Xe at hc
  have P7:c < H.length:=(iaa.1 hc).1
  have e1:Kq H 1 (.ptr c 0) (.pv .sf)=some false:=by simp[Kq,hc]
  have pl:=fun k=>Jw hc k;have l9:=Ar hc c9;have l10:=Ar hc c10;have d1:decide ((k:Int) < 0)=false:=Ga (by omega);have d2:decide ((k:Int) > (q.length:Int))=false:=Ga (by omega);have w1:IntKind.i64.wrap ((h:Int)+(k:Int))=((h+k:Nat):Int):=(Aa (by omega)).trans (by omega)
  have w2:(((h+k:Nat):Int)).tmod 8=(((h+k) % 8:Nat):Int):=(Int.ofNat_tmod (h+k) 8).symm
  have w3:IntKind.i64.wrap ((q.length:Int) - (k:Int))=(((q.drop k).length:Nat):Int):=(Aa (by omega)).trans (by rw[Fab];omega)
  have st1:=iB hc (k:=9) (by omega) (p:=i64 (((h+k) % 8:Nat):Int)) rfl rfl;have hc2:(H.set c (.box (((Th buf 8 h q.length).set 9 (i64 (((h+k) % 8:Nat):Int))).map .pv)))[c]? =some (.box (((Th buf 8 h q.length).set 9 (i64 (((h+k) % 8:Nat):Int))).map .pv)):=by rw[Maa P7]
  have pl2:=fun k=>Jw hc2 k;have Gag:((Th buf 8 h q.length).set 9 (i64 (((h+k) % 8:Nat):Int)))[10]? =some (i64 q.length):=by rw[List.getElem?_set,kaa (by omega),c10]
  have Hag:=Ar hc2 Gag;have st2:=iB hc2 (k:=10) (by rw[qac];omega) (p:=i64 (((q.drop k).length:Nat):Int)) rfl rfl;have R7:((Th buf 8 h q.length).set 9 (i64 (((h+k) % 8:Nat):Int))).set 10 (i64 (((q.drop k).length:Nat):Int))=Th buf 8 (((h+k) % 8:Nat):Int) (q.drop k).length:=by unfold Th;rw[Jab _ _ (by simp[hq.len]),Jab _ _ (by simp[hq.len])];simp[hq.len]
  rw[List.set_set,R7] at st2;unfold Xe;generalize Th buf 8 h q.length=row at *
  generalize Th buf 8 (((h+k) % 8:Nat):Int) (q.drop k).length=wae at *
  generalize row.set 9 (i64 (((h+k) % 8:Nat):Int))=row1 at *
  simp -implicitDefEqProofs only[SX,sevalprocAttr,Nc,e1,pl,l9,l10,d1,d2,w1,w2,w3,st1,pl2,Hag,st2]
def dm(A:List ba)(d c:Nat)(o1 o2:ba)(X:List ba):List ba:=(A.set d o1).set c o2++X
structure oZ(A:List ba)(d c:Nat):Prop where
 ld:d < A.length
 lc:c < A.length
 ne:d≠c
section
variable {A:List ba}{d c:Nat}(h:oZ A d c){o1 o2 o:ba}{X:List ba}
include h
theorem dE:(dm A d c o1 o2 X)[d]? =some o1:=by
 have:=h.ld;have:=h.ne
 unfold dm;rw[eaa (by simp;omega),Gaa (by omega),Maa (by omega)]
theorem wJ:(dm A d c o1 o2 X)[c]? =some o2:=by
 have:=h.lc
 unfold dm;rw[eaa (by simp;omega),Maa (by simp;omega)]
theorem nH:(dm A d c o1 o2 X).set d o=dm A d c o o2 X:=by
 have:=h.ld;have:=h.ne
 unfold dm;rw[Cac _ _ (by simp;omega),List.set_comm _ _ (lac h.ne),List.set_set]
theorem wO:(dm A d c o1 o2 X).set c o=dm A d c o1 o X:=by
 have:=h.lc
 unfold dm;rw[Cac _ _ (by simp;omega),List.set_set]
omit h
theorem um:(dm A d c o1 o2 X).length=A.length+X.length:=by simp[dm]
theorem P2(k:Nat):(dm A d c o1 o2 X)[A.length+k]? =X[k]? :=by
 unfold dm;rw[Kaa (by simp)];simp
theorem fN(k:Nat):(dm A d c o1 o2 X).set (A.length+k) o=dm A d c o1 o2 (X.set k o):=by
 unfold dm;rw[Jab _ _ (by simp)];simp
theorem tt(Y:List ba):dm A d c o1 o2 X++Y=dm A d c o1 o2 (X++Y):=by unfold dm;rw[Dab]
theorem F1{k:Nat}(hk:k < A.length)(h1:k≠d)(h2:k≠c):(dm A d c o1 o2 X)[k]? =A[k]? :=by
 unfold dm;rw[eaa (by simp;omega),Gaa (by omega),Gaa (by omega)]
end
def CM(T:PV)(bad:Int)(c:Nat)(st at_ Jc:Int)(ya fin:Bool):List AV:=[.pv T,.pv (i64 bad),.ptr c 0,.pv (i64 st),.pv (i64 at_),.pv (i64 Jc),.pv (.bool ya),.pv (.bool fin)]
def Kc(T:PV)(bad:Int)(c:Nat)(st at_ Jc:Int)(ya fin:Bool):ba:= .box (CM T bad c st at_ Jc ya fin)
theorem eL{H:List ba}{c:Nat}{row:List PV}(hc:H[c]? =some (.box (row.map .pv)))(d:Nat):Tb H (d+1) (.ptr c 0)=some (.rp row 0):=by
 have key:∀ row:List PV,Ra (Tb H d) (row.map .pv)=some row:=by
  intro row
  induction row with
  |nil=>rfl
  |cons p r ih=>have h1:Tb H d (.pv p)=some p:=Ig H d p;simp only[lab,Ra,h1,ih];rfl
 unfold Tb;simp only[hc,key];rfl
section
variable {H:List ba}{d c:Nat}{T:PV}{bad st at_ Jc:Int}{ya fin:Bool}(h:H[d]? =some (Kc T bad c st at_ Jc ya fin))
include h
theorem W5:Kq H 1 (.ptr d 0) (.pv .sf)=some false:=by simp only[Kq,h,Kc]
theorem NH(k:Nat):place H k (.ptr d 0)=some (.ptr d k):=Jw h k
theorem pE{k:Nat}{v:AV}(hk:(CM T bad c st at_ Jc ya fin)[k]? =some v):pa H false 1 (.ptr d k)=some v:=by
 unfold pa;simp only[h,Kc];show (CM T bad c st at_ Jc ya fin)[k]? =_;exact hk
theorem GA:pa H false 1 (.ptr d 0)=some (.pv T)/\pa H false 1 (.ptr d 1)=some (.pv (i64 bad))/\pa H false 1 (.ptr d 2)=some (.ptr c 0)/\pa H false 1 (.ptr d 3)=some (.pv (i64 st))/\
 pa H false 1 (.ptr d 4)=some (.pv (i64 at_))/\pa H false 1 (.ptr d 5)=some (.pv (i64 Jc))/\pa H false 1 (.ptr d 6)=some (.pv (.bool ya))/\pa H false 1 (.ptr d 7)=some (.pv (.bool fin)):=
 ⟨pE h rfl,pE h rfl,pE h rfl,pE h rfl,pE h rfl,pE h rfl,pE h rfl,pE h rfl⟩
theorem KM{k:Nat}(hk:k < 8){p:PV}(h1:(AV.pv p).one=true)(h2:p.cells=[p]):Ha H 1 (.ptr d k) (.pv p)=some (H.set d (.box ((CM T bad c st at_ Jc ya fin).set k (.pv p)))):=by
 unfold Ha;rw[if_pos ⟨by simp[AV.cells,h2],by simp[AV.cells,h2,h1]⟩];simp only[h,Kc];rw[if_pos (by show k+1<=8;omega)];simp[AV.cells,h2,fa]
theorem T2(v:Int):Ha H 1 (.ptr d 3) (.pv (i64 v))=some (H.set d (Kc T bad c v at_ Jc ya fin)):=KM h (by decide) rfl rfl
theorem M5(v:Int):Ha H 1 (.ptr d 4) (.pv (i64 v))=some (H.set d (Kc T bad c st v Jc ya fin)):=KM h (by decide) rfl rfl
theorem P5(v:Int):Ha H 1 (.ptr d 5) (.pv (i64 v))=some (H.set d (Kc T bad c st at_ v ya fin)):=KM h (by decide) rfl rfl
theorem K5(v:Bool):Ha H 1 (.ptr d 6) (.pv (.bool v))=some (H.set d (Kc T bad c st at_ Jc v fin)):=KM h (by decide) rfl rfl
theorem I5(v:Bool):Ha H 1 (.ptr d 7) (.pv (.bool v))=some (H.set d (Kc T bad c st at_ Jc ya v)):=KM h (by decide) rfl rfl
end
def Still(X:List ba):Prop:=∀ n,X.all (zE n)=true
theorem Still.nil:Still []:=fun _=>rfl
theorem Still.app{X Y:List ba}(h1:Still X)(h2:Still Y):Still (X++Y):=fun n=>by rw[List.all_append,h1 n,h2 n];rfl
theorem Still.tok(sz n:Nat)(nl:Bool):Still [.tok sz n nl]:=fun _=>rfl
theorem Still.dead:Still [.dead]:=fun _=>rfl
theorem Still.box(cs:List PV):Still [.box (cs.map .pv)]:=fun n=>by simp only[wac,List.all_nil,EB,fae]
theorem Still.cons{o:ba}{X:List ba}(h1:Still [o])(h2:Still X):Still (o::X):=h1.app h2
theorem Still.Tw{A X:List ba}(hA:Wd A)(hX:Still X):Wd (A++X):=fun n hn o ho=>by
 rcases Jaa.1 ho with h | h
 ·exact hA n (by rw[raa] at hn;omega) o h
 ·exact Io (hX n) o h
theorem ez{A:List ba}{d c:Nat}(hA:Wd A)(h2:oZ A d c){T:PV}{bad st at_ Jc:Int}{ya fin:Bool}{buf:List Int}{r h m:Int}{X:List ba}(hX:Still X):Wd (dm A d c (Kc T bad c st at_ Jc ya fin) (Xe buf r h m) X):=by
 intro n hn o ho;rw[um] at hn;unfold dm at ho;rcases Jaa.1 ho with h | h
 ·rcases Aab h with h | rfl
  ·rcases Aab h with h | rfl
   ·exact hA n (by omega) o h
   ·have:=h2.lc
    exact Pr (by simp[Kc,CM,zE,wj,Fo,show c < n by omega])
  ·exact Pr (EB n _)
 ·exact Io (hX n) o h
theorem GL{call:Sa}{H:List ba}{c:Nat}{buf q:List Int}{h:Nat}{r:Int}(hG:Wd H)(hq:xo buf h q)(hc:H[c]? =some (Xe buf r h q.length)):
 ef call Cc [.ptr c 0] H=some (.uq H.length false 1 (q.map u8),H++[.tok 1 q.length false]):=by
 have hlen:=xw (r:=r) hq;have u9:=fun i (hi:i < q.length)=>JS (r:=r) hq hi;have hn:=hq.n
 unfold Xe at hc;have P7:c < H.length:=(iaa.1 hc).1
 have tp:=eL hc 5;have tp1:=fun Y=>eL (H:=H++Y) (show (H++Y)[c]? =_ by rw[eaa P7];exact hc) 5;generalize Th buf r h q.length=row at *
 have D7:=fun (E:Tr)(g0:E.get 0= .ptr c 0)(g3:E.get 3= .uq H.length false 1 [])(g11:E.get 11= .pv (i64 q.length))(g12:E.get 12= .pv (i64 0))=>
  Vn (call:=call) (b:=Eg) (live:=[0,3,11,12]) (E0:=E) (H0:=H++[.tok 1 0 false]) (Q:=fun r=>∃ E,r=(.exit 0,⟨E,H++[.tok 1 q.length false]⟩)/\E.get 3= .uq H.length false 1 (q.map u8))
   (fun i:Nat=>[(0,.ptr c 0),(3,.uq H.length false 1 ((q.take i).map u8)),(11,.pv (i64 q.length)),(12,.pv (i64 i))]) (fun i=>H++[.tok 1 ((q.take i).map u8).length false]) (fun i x=>x=i) q.length (by unfold ua;omega) (fun _=>rfl)
   (fun i x _=>⟨by simp[wj,Bz,Fo,show c < H.length+1 by omega],fun o ho=>by
    rcases Jaa.1 ho with h | h
    ·exact hG _ (by simp) o h
    ·simp at h;subst h;rfl,by simp⟩) ⟨0,⟨g0,g3,g11,g12,trivial⟩,rfl,rfl⟩
   (by
    rintro _ i E hi rfl ⟨g0,g3,g11,g12,_⟩;have ha:=u9 i hi;have e1:decide ((i:Int) < (q.length:Int))=true:=Ea (by omega);have t1:IntKind.i64.wrap ((i:Int)+1)=((i+1:Nat):Int):=og (by omega)
    have o8:(q.take (i+1)).map u8=(q.take i).map u8++[u8 q[i]]:=by rw[xae,aaa hi,jac];rfl
    have ap:Cb (H++[.tok 1 ((q.take i).map u8).length false]) false .uq 1 false 1 (.uq H.length false 1 ((q.take i).map u8)) (.pv (.lit 1 [u8 q[i]]))=some (.uq H.length false 1 ((q.take (i+1)).map u8),H++[.tok 1 ((q.take (i+1)).map u8).length false]):=by rw[EA (n:=((q.take i).map u8).length) (nl':=false) (by simp) rfl (by unfold eb;simp;omega),o8];simp
    generalize q[i]=x at *;have fl:Ep [u8 x,PV.bool true]=true:=rfl;generalize hQ:RH _ _ _ _=Q;simp -implicitDefEqProofs only[SP,WP,sevalprocAttr,Eg,g0,g3,g11,g12,e1,tp1,ha,fl,ap,t1,fa.eq_1,fa.eq_2,List.set,Tc,List.headD_cons];subst hQ;exact⟨i+1,[],by simp[Has,Tr.aa,g0,g11],by simp,rfl⟩)
   (by rintro i E rfl ⟨g0,g3,g11,g12,_⟩;have e1:decide ((q.length:Int) < (q.length:Int))=false:=Ga (by omega);rw[sab] at g3;show qd _ (oa call Eg ⟨E,H++[.tok 1 ((q.take q.length).map u8).length false]⟩);rw[sab,haa];generalize hQ:(fun r:Ex×St=>r.1.stop=true/\_)=Q;simp -implicitDefEqProofs only[SP,WP,sevalprocAttr,Eg,g11,g12,e1];subst hQ;exact⟨rfl,_,rfl,by simp[Tr.aa,g3]⟩)
 have tp2:=tp1 [.tok 1 0 false];have fl0:∀ n,Nj (i64 n)=true:=fun n=>rfl;have hmk:∀ (E:Tr),E.get 8= .pv (i64 q.length)->xa call E H (.bh .uq 1 false [.int .u8 0] 1 (.c (.int .i64 0)) (.t 8))=some (.uq H.length false 1 [],H++[.tok 1 0 false]):=fun E h8=>by simp only[xa,AO.ev,h8,asInt,yaa];rw[if_pos ⟨by omega,by omega,by unfold eb;omega⟩];rfl
 apply Yk;generalize hQ:(fun y:AV×List ba=>y=(AV.uq H.length false 1 (q.map u8),H++[.tok 1 q.length false]))=Q;simp -implicitDefEqProofs only[SP,WP,sevalprocAttr,Cc,tp,tp2,hlen,fl0,↓hmk];refine wa (D7 _ (by simp[Tr.aa]) (by simp[Tr.aa]) (by simp[Tr.aa]) (by simp[Tr.aa])) ?_;rintro r ⟨_,E,rfl,h⟩;simp -implicitDefEqProofs only[SP,WP,sevalprocAttr,h];subst hQ;rfl
theorem OV{A:List ba}{d c:Nat}{o1 o2:ba}{X Y:List ba}(i:Nat):(dm A d c o1 o2 (X++Y))[A.length+X.length+i]? =Y[i]? :=by
 rw[Nat.add_assoc,P2,Kaa (by omega)];simp
theorem OJ{A:List ba}{d c:Nat}{o1 o2 o:ba}{X Y:List ba}(i:Nat):(dm A d c o1 o2 (X++Y)).set (A.length+X.length+i) o=dm A d c o1 o2 (X++Y.set i o):=by
 rw[Nat.add_assoc,fN,Jab _ _ (by omega)];simp
theorem BK{H:List ba}{c:Nat}{row:List PV}(hc:H[c]? =some (.box (row.map .pv)))(hl:row.length=5):pa H true 5 (.ptr c 0)=some (.pv (.agg row)):=by
 match row,hl with
 | [a,b,e,f,g],_=>simp only[pa,hc];rfl
theorem JK{H:List ba}{c:Nat}{row b:List PV}(hc:H[c]? =some (.box (row.map .pv)))(hl:row.length=5)(hb:b.length=5)(h1:∀ p∈b,(AV.pv p).one=true):Ha H 5 (.ptr c 0) (.pv (.agg b))=some (H.set c (.box (b.map .pv))):=by
 match row,hl,b,hb with
 | [a1,a2,a3,a4,a5],_,[b1,b2,b3,b4,b5],_=>have:=h1 b1 (by simp);have:=h1 b2 (by simp);have:=h1 b3 (by simp);have:=h1 b4 (by simp);have:=h1 b5 (by simp);unfold Ha;rw[if_pos ⟨rfl,by simp_all [AV.cells,PV.cells]⟩];simp only[hc];rfl
def C6(a b:List PV):List ba:=[.box (a.map .pv),.box (b.map .pv)]
abbrev Yn(k a n u:Int):List PV:=[i64 k,i64 a,i64 n,i64 u,i64 0]
theorem GK{k a n u:Int}:∀ p∈Yn k a n u,(AV.pv p).one=true:=by
 intro p hp;simp only[Yn,Xaa,hac,or_false] at hp;rcases hp with rfl | rfl | rfl | rfl | rfl <;> rfl
theorem kD(a b:List PV):Still (C6 a b):=(Still.box a).cons (Still.box b)
theorem CO{call call':Sa}{A:List ba}{d c:Nat}(hA:Wd A)(h2:oZ A d c){X:List ba}(hX:Still X){T:PV}{bad st Jc:Int}{at_:Nat}{ya fin:Bool}{buf q:List Int}{h:Nat}(hq:xo buf h q)
 (h82:∀ H (n:Int),call 82 [.ptr c 0,.pv (i64 n)] H=ef call' Nc [.ptr c 0,.pv (i64 n)] H) (h83:∀ H,call 83 [.ptr c 0] H=ef call' Cc [.ptr c 0] H)
 (u9:at_<=1000000) {k u:Int} (hd:k=1->∃ ok,Fh [T,.lit 1 (q.map u8)]=some (.mc [i64 u,.bool ok])) (hu:k≠1->u=0):
 ∃ Y,Still Y/\ef call Zb [.ptr d 0,.pv (i64 k)] (dm A d c (Kc T bad c st at_ Jc ya fin) (Xe buf 8 h q.length) X)=some (.pv (Zg ⟨k,q.length,u⟩ at_),dm A d c (Kc T bad c 0 ((at_+q.length:Nat):Int) Jc ya fin) (Xe buf 8 ((h+q.length) % 8:Nat) 0) (X++Y)):=by
 have hn:=hq.n
 obtain⟨n,j8⟩:∃ n,n=A.length+X.length:=⟨_,rfl⟩
 have hlen:=xw (r:=8) hq;have P7:c < A.length:=h2.lc
 obtain⟨G,hG⟩:∃ G:ba->ba->List PV->List PV->List ba->List ba,G=fun o1 o2 a b Z=>dm A d c o1 o2 (X++(C6 a b++Z)):=⟨_,rfl⟩;have gd:∀ o1 o2 a b Z,(G o1 o2 a b Z)[d]? =some o1:=fun o1 o2 a b Z=>by rw[hG];exact dE h2
 have gc:∀ o1 o2 a b Z,(G o1 o2 a b Z)[c]? =some o2:=fun o1 o2 a b Z=>by rw[hG];exact wJ h2
 have g0:∀ o1 o2 a b Z,(G o1 o2 a b Z)[n]? =some (.box (a.map .pv)):=fun o1 o2 a b Z=>by rw[hG,j8];exact OV 0
 have g1:∀ o1 o2 a b Z,(G o1 o2 a b Z)[n+1]? =some (.box (b.map .pv)):=fun o1 o2 a b Z=>by rw[hG,j8];exact OV 1
 have sd:∀ o1 o2 a b Z o,(G o1 o2 a b Z).set d o=G o o2 a b Z:=fun o1 o2 a b Z o=>by rw[hG];exact nH h2
 have sc:∀ o1 o2 a b Z o,(G o1 o2 a b Z).set c o=G o1 o a b Z:=fun o1 o2 a b Z o=>by rw[hG];exact wO h2
 have s0:∀ o1 o2 a b Z r,(G o1 o2 a b Z).set n (.box (List.map AV.pv r))=G o1 o2 r b Z:=fun o1 o2 a b Z r=>by rw[hG,j8];exact OJ 0
 have s1:∀ o1 o2 a b Z r,(G o1 o2 a b Z).set (n+1) (.box (List.map AV.pv r))=G o1 o2 a r Z:=fun o1 o2 a b Z r=>by rw[hG,j8];exact OJ 1
 have gg:∀ st at_ h m a b Z,Still Z->Wd (G (Kc T bad c st at_ Jc ya fin) (Xe buf 8 h m) a b Z):=fun st at_ h m a b Z hZ=>by rw[hG];exact ez hA h2 (hX.app ((kD a b).app hZ))
 have gx:∀ o1 o2 a b Z Z',G o1 o2 a b Z++Z'=G o1 o2 a b (Z++Z'):=fun o1 o2 a b Z Z'=>by rw[hG];simp only[tt,Dab]
 obtain⟨H0,hH0⟩:∃ H0,H0=dm A d c (Kc T bad c st at_ Jc ya fin) (Xe buf 8 h q.length) X:=⟨_,rfl⟩;rw[<- hH0];have l0:H0.length=n:=by rw[hH0,j8,um]
 obtain⟨z,hz⟩:∃ z:ba,z= .box [.pv (i64 0),.pv (i64 0),.pv (i64 0),.pv (i64 0),.pv (i64 0)]:=⟨_,rfl⟩
 have hz':ba.box [.pv (.int .i64 0),.pv (.int .i64 0),.pv (.int .i64 0),.pv (.int .i64 0),.pv (.int .i64 0)]=z:=hz.symm
 have l1:(H0++[z]).length=n+1:=by rw[raa,l0];rfl
 have hd1:(H0++[z])[d]? =some (Kc T bad c st at_ Jc ya fin):=by rw[hH0,tt];exact dE h2
 have hc1:(H0++[z])[c]? =some (Xe buf 8 h q.length):=by rw[hH0,tt];exact wJ h2
 have p1:=NH hd1;have ld1:=GA hd1;have tp1:=eL hc1 5;have st0:∀ m,Ha (H0++[z]++[z]) 5 (.ptr (n+1) 0) (.pv (.agg (Yn k at_ m 0)))=some (G (Kc T bad c st at_ Jc ya fin) (Xe buf 8 h q.length) (Yn 0 0 0 0) (Yn k at_ m 0) []):=fun m=>by
  have:H0++[z]++[z]=G (Kc T bad c st at_ Jc ya fin) (Xe buf 8 h q.length) (Yn 0 0 0 0) (Yn 0 0 0 0) []:=by rw[hH0,hG,hz];simp only[tt,Dab];rfl
  rw[this,JK (g1 _ _ _ _ _) rfl rfl GK,s1]
 have pd:∀ st at_ o2 a b Z k,place (G (Kc T bad c st at_ Jc ya fin) o2 a b Z) k (.ptr d 0)=some (.ptr d k):=fun st at_ o2 a b Z k=>NH (gd _ _ _ _ _) k;have ldd:=fun st at_ o2 a b Z=>GA (gd (Kc T bad c st at_ Jc ya fin) o2 a b Z);have pe:∀ o1 o2 a b Z k,place (G o1 o2 a b Z) k (.ptr (n+1) 0)=some (.ptr (n+1) k):=fun o1 o2 a b Z k=>Jw (g1 _ _ _ _ _) k;have l2:∀ o1 o2 a k x m u Z,pa (G o1 o2 a (Yn k x m u) Z) false 1 (.ptr (n+1) 2)=some (.pv (i64 m)):=fun o1 o2 a k x m u Z=>Ar (g1 _ _ _ _ _) rfl;have st3:∀ o1 o2 a k x m u v Z,Ha (G o1 o2 a (Yn k x m u) Z) 1 (.ptr (n+1) 3) (.pv (i64 v))=some (G o1 o2 a (Yn k x m v) Z):=fun o1 o2 a k x m u v Z=>by rw[iB (g1 _ _ _ _ _) (show 3 < 5 by decide) rfl rfl,s1];rfl
 have lT:∀ o1 o2 a k x m u Z,pa (G o1 o2 a (Yn k x m u) Z) true 5 (.ptr (n+1) 0)=some (.pv (.agg (Yn k x m u))):=fun o1 o2 a k x m u Z=>BK (g1 _ _ _ _ _) rfl;have sT:∀ o1 o2 b k x m u Z,Ha (G o1 o2 (Yn 0 0 0 0) b Z) 5 (.ptr n 0) (.pv (.agg (Yn k x m u)))=some (G o1 o2 (Yn k x m u) b Z):=fun o1 o2 b k x m u Z=>by rw[JK (g0 _ _ _ _ _) rfl rfl GK,s0]
 have lR:∀ o1 o2 b k x m u Z,pa (G o1 o2 (Yn k x m u) b Z) true 5 (.ptr n 0)=some (.pv (.agg (Yn k x m u))):=fun o1 o2 b k x m u Z=>BK (g0 _ _ _ _ _) rfl;have w1:IntKind.i64.wrap ((at_:Int)+(q.length:Int))=((at_+q.length:Nat):Int):=(Aa (by omega)).trans (by omega)
 have sat:∀ o2 a b Z v,Ha (G (Kc T bad c st at_ Jc ya fin) o2 a b Z) 1 (.ptr d 4) (.pv (i64 v))=some (G (Kc T bad c st v Jc ya fin) o2 a b Z):=fun o2 a b Z v=>by rw[M5 (gd _ _ _ _ _),sd]
 have sst:∀ at_ o2 a b Z v,Ha (G (Kc T bad c st at_ Jc ya fin) o2 a b Z) 1 (.ptr d 3) (.pv (i64 v))=some (G (Kc T bad c v at_ Jc ya fin) o2 a b Z):=fun at_ o2 a b Z v=>by rw[T2 (gd _ _ _ _ _),sd]
 have hdr:∀ at_ a b Z,call 82 [.ptr c 0,.pv (i64 q.length)] (G (Kc T bad c st at_ Jc ya fin) (Xe buf 8 h q.length) a b Z)=some (.pv (i64 0),G (Kc T bad c st at_ Jc ya fin) (Xe buf 8 ((h+q.length) % 8:Nat) 0) a b Z):=fun at_ a b Z=>by rw[h82,(iy (call:=call') hq (gc _ _ _ _ _) (paa _)).2,sc,vab];rfl
 have Jae:∀ Z,Still Z->G (Kc T bad c 0 ((at_+q.length:Nat):Int) Jc ya fin) (Xe buf 8 ((h+q.length) % 8:Nat) 0) (Yn k at_ q.length u) (Yn k at_ q.length u) Z=dm A d c (Kc T bad c 0 ((at_+q.length:Nat):Int) Jc ya fin) (Xe buf 8 ((h+q.length) % 8:Nat) 0) (X++(C6 (Yn k at_ q.length u) (Yn k at_ q.length u)++Z)):=fun Z _=>by rw[hG]
 have he:Zg ⟨k,q.length,u⟩ at_= .agg (Yn k at_ q.length u):=rfl
 by_cases hk:k=1
 ·obtain⟨ok,Ba⟩:=hd hk
  have hb:=GL (call:=call') (gg st at_ h q.length (Yn 0 0 0 0) (Yn k at_ q.length 0) [] Still.nil) hq (gc _ _ _ _ _);rw[gx,Yaa,<-h83] at hb;generalize (G (Kc T bad c st at_ Jc ya fin) (Xe buf 8 h q.length) (Yn 0 0 0 0) (Yn k at_ q.length 0) []).length=nb at hb
  refine⟨_,(kD (Yn k at_ q.length u) (Yn k at_ q.length u)).app (Still.tok 1 q.length false),?_⟩;rw[<- Jae _ (Still.tok 1 q.length false),he];have e1:(k==1)=true:=by rw[hk];rfl
  have tq:∀ H,Tb H 6 (.uq nb false 1 (q.map u8))=some (.lit 1 (q.map u8)):=fun H=>rfl;have sh:=NI (G (Kc T bad c st at_ Jc ya fin) (Xe buf 8 h q.length) (Yn 0 0 0 0) (Yn k at_ q.length 0) []) [.tok 1 q.length false];rw[gx,Yaa] at sh;clear hG hH0 hz gg gx s0 s1 sd sc g0 g1 gd gc h82 h83 Jae hd hu he;simp -implicitDefEqProofs only[SP,WP,sevalprocAttr,Zb,l0,l1,hz',p1,ld1,tp1,hlen,fa.eq_1,fa.eq_2,List.set,Tc,st0,e1,pd,ldd,pe,l2,hb,sh,tq,Ba,st3,w1,sat,hdr,sst,lT,sT,lR]
 ·have hu0:=hu hk
  subst hu0;refine⟨_,(kD (Yn k at_ q.length 0) (Yn k at_ q.length 0)).app Still.nil,?_⟩;rw[<- Jae _ Still.nil,he];have e1:(k==1)=false:=beq_false_of_ne hk;clear hG hH0 hz gg gx s0 s1 sd sc g0 g1 gd gc h82 h83 Jae hd he;simp -implicitDefEqProofs only[SP,WP,sevalprocAttr,Zb,l0,l1,hz',p1,ld1,tp1,hlen,fa.eq_1,fa.eq_2,List.set,Tc,st0,e1,pd,ldd,pe,l2,w1,sat,hdr,sst,lT,sT,lR]
end Go.AM.B1
