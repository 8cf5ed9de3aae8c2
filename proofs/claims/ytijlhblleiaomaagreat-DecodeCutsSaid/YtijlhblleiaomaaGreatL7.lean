/- What functions of the program compute. -/
import Derived.Test.YtijlhblleiaomaaGreatL4
import Derived.Test.YtijlhblleiaomaaGreatL6
import Derived.Test.YtijlhblleiaomaaGreatL2
set_option linter.unusedVariables false
set_option linter.unusedSimpArgs false
namespace Go.AM.B1
open Go.AM
theorem jG(fb:List Int):∀ (xs ys:List Nat)(r:List Int×List Int),Td fb (xs++ys) r=Td fb ys (Td fb xs r)
 | [],ys,r=>rfl
 |x::xs,ys,r=>by rw[bab,Td,Td,jG fb xs]
theorem dJ{a:Int}:∀ {l:List Int}{k i:Nat},Iv a l k=some i->k<=i/\l[i - k]? =some a
 | [],_,_,h=>by cases h
 |b::l,k,i,h=>by
  simp only[Iv] at h
  split at h
  ·next he=>injection h with h;subst h he;simp
  ·obtain⟨h1,h2⟩:=dJ h
   refine⟨by omega,?_⟩;have:i - k=(i - (k+1))+1:=by omega
   rw[this,eab];exact h2
structure u6(fb O:List Int)(n:Nat)(r:List Int×List Int):Prop where
 len:r.2.length=fb.length
 hi:∀ x,n<=x->r.2.getD x 0=fb.getD x 0
 ext:∃ t,r.1=O++t/\∀ o∈t,0<=o/\∃ x,x < n/\fb.getD x 0=o
 nodup:r.1.Nodup
 val:∀ x,x < n->(fb.getD x 0 < 0->r.2.getD x 0=fb.getD x 0)/\(0<=fb.getD x 0->∃ k:Nat,r.2.getD x 0=(k:Int)/\r.1[k]? =some (fb.getD x 0))
theorem Lk{l:List Int}{x y:Nat}{v:Int}(hx:x < l.length):(l.set x v).getD y 0=if y=x then v else l.getD y 0:=by
 rw[taa,taa]
 by_cases h:y=x
 ·subst h;rw[Maa hx,if_pos rfl];rfl
 ·rw[Gaa (lac h),kaa h]
theorem u6.next{fb O:List Int}{n:Nat}{r:List Int×List Int}(h:u6 fb O n r)(hn:n < fb.length):
 u6 fb O (n+1) (Dj n (fb.getD n 0) r)/\(Dj n (fb.getD n 0) r).2.getD n 0<=r.1.length/\
 (((Dj n (fb.getD n 0) r).1.length:Int)=if (Dj n (fb.getD n 0) r).2.getD n 0=r.1.length then (r.1.length:Int)+1 else r.1.length)/\
 (∀ x,x < n->(Dj n (fb.getD n 0) r).2.getD x 0=r.2.getD x 0):=by
 obtain⟨t,ht,hts⟩:=h.ext
 have hl:n < r.2.length:=by rw[h.len];exact hn
 have J7:∀ x,x < n->x≠n:=fun x hx=>by omega
 unfold Dj
 by_cases h0:fb.getD n 0 < 0
 ·rw[if_pos h0]
  have hv:=h.hi n (paa _)
  refine⟨⟨h.len,fun x hx=>h.hi x (by omega),⟨t,ht,fun o ho=>⟨(hts o ho).1,by obtain⟨x,hx,e⟩:=(hts o ho).2;exact⟨x,by omega,e⟩⟩⟩,h.nodup,?_⟩,by rw[hv];omega,by rw[hv,kaa (by omega)],fun x hx=>rfl⟩;intro x hx;rcases Qaa x n with h1 | h1
  ·exact h.val x h1
  ·have:x=n:=by omega
   subst this;exact⟨fun _=>hv,fun h2=>by omega⟩
 ·rw[kaa h0]
  cases hi:Iv (fb.getD n 0) r.1 0 with
  |some k=>
   have hk:=(dJ hi).2
   rw[pae] at hk;have hkl:=(iaa.1 hk).1
   simp only;refine⟨⟨by rw[qac,h.len],?_,⟨t,ht,fun o ho=>⟨(hts o ho).1,by obtain⟨x,hx,e⟩:=(hts o ho).2;exact⟨x,by omega,e⟩⟩⟩,h.nodup,?_⟩,?_,?_,?_⟩
   ·intro x hx;rw[Lk hl,kaa (by omega)];exact h.hi x (by omega)
   ·intro x hx
    rcases Qaa x n with h1 | h1
    ·rw[Lk hl,kaa (by omega)];exact h.val x h1
    ·have:x=n:=by omega
     subst this;rw[Lk hl,if_pos rfl];exact⟨fun h2=>absurd h2 h0,fun _=>⟨k,rfl,hk⟩⟩
   ·rw[Lk hl,if_pos rfl];omega
   ·rw[Lk hl,if_pos rfl,kaa (by omega)]
   ·intro x hx;rw[Lk hl,kaa (by omega)]
  |none=>
   have hnm:=xC hi;simp only;refine⟨⟨by rw[qac,h.len],?_,⟨t++[fb.getD n 0],by rw[ht,Dab],?_⟩,?_,?_⟩,?_,?_,?_⟩
   ·intro x hx;rw[Lk hl,kaa (by omega)];exact h.hi x (by omega)
   ·intro o ho
    rcases Jaa.1 ho with h1 | h1
    ·exact⟨(hts o h1).1,by obtain⟨x,hx,e⟩:=(hts o h1).2;exact⟨x,by omega,e⟩⟩
    ·simp only[Hab] at h1;subst h1;exact⟨by omega,n,by omega,rfl⟩
   ·rw[List.nodup_append]
    refine⟨h.nodup,by simp,fun a ha b hb=> ?_⟩;simp only[Hab] at hb;subst hb;intro e;subst e;exact hnm ha
   ·intro x hx
    rcases Qaa x n with h1 | h1
    ·rw[Lk hl,kaa (by omega)]
     refine⟨(h.val x h1).1,fun h2=> ?_⟩;obtain⟨k,e1,e2⟩:=(h.val x h1).2 h2
     exact⟨k,e1,by rw[eaa (iaa.1 e2).1];exact e2⟩
    ·have:x=n:=by omega
     subst this;rw[Lk hl,if_pos rfl];exact⟨fun h2=>absurd h2 h0,fun _=>⟨_,rfl,by simp⟩⟩
   ·rw[Lk hl,if_pos rfl];omega
   ·rw[Lk hl,if_pos rfl,if_pos rfl,raa];simp
   ·intro x hx;rw[Lk hl,kaa (by omega)]
theorem KV{fb O:List Int}(hO:O.Nodup):∀ n:Nat,n<=fb.length->u6 fb O n (Td fb (List.range n) (O,fb))/\
 (∀ x,x < n->(Td fb (List.range n) (O,fb)).2.getD x 0<=((Td fb (List.range x) (O,fb)).1.length:Int)/\
  ((Td fb (List.range (x+1)) (O,fb)).1.length:Int)=if (Td fb (List.range n) (O,fb)).2.getD x 0=((Td fb (List.range x) (O,fb)).1.length:Int) then ((Td fb (List.range x) (O,fb)).1.length:Int)+1 else ((Td fb (List.range x) (O,fb)).1.length:Int))
 |0,_=>⟨⟨rfl,fun x _=>rfl,⟨[],by simp[Td]⟩,hO,by omega⟩,by omega⟩
 |n+1,hn=>by
  obtain⟨h1,h2⟩:=KV (fb:=fb) hO n (by omega);obtain⟨k1,k2,k3,k4⟩:=h1.next (by omega)
  have e:Td fb (List.range (n+1)) (O,fb)=Dj n (fb.getD n 0) (Td fb (List.range n) (O,fb)):=by rw[gad,jG];rfl
  refine⟨by rw[e];exact k1,fun x hx=> ?_⟩;rcases Qaa x n with h3 | h3
  ·rw[e,k4 x h3];exact h2 x h3
  ·have:x=n:=by omega
   subst this;rw[e];exact⟨k2,k3⟩
structure VM(D:List Int)(O:List Int)(o:Int)(e:List ae):Prop where
 ex:∃ row,e=wg row/\∀ x,x < 256->((Va D o.toNat).getD x 0 < 0->row.getD x 0=(Va D o.toNat).getD x 0)/\
  (0<=(Va D o.toNat).getD x 0->∃ k:Nat,row.getD x 0=(k:Int)/\O[k]? =some ((Va D o.toNat).getD x 0))
theorem VM.mono{D O:List Int}{o:Int}{e:List ae}(h:VM D O o e)(t:List Int):VM D (O++t) o e:=by
 obtain⟨row,h1,h2⟩:=h.ex
 refine⟨row,h1,fun x hx=>⟨(h2 x hx).1,fun h0=> ?_⟩⟩;obtain⟨k,h3,h4⟩:=(h2 x hx).2 h0
 exact⟨k,h3,by rw[eaa (iaa.1 h4).1];exact h4⟩
def uL:Int->Int->List (List ae)->Prop
 |_,_,[]=>True
 |m,i,e::l=>i < m/\Zz m e/\uL (CD m e) (i+1) l
def UK(m:Int)(l:List (List ae)):Int:=l.foldl CD m
theorem ZD:∀ {m i:Int}{l:List (List ae)}{e:List ae},uL m i l->i+l.length < UK m l->Zz (UK m l) e->uL m i (l++[e])
 |m,i,[],e,_,h1,h2=>⟨by simpa[UK] using h1,h2,trivial⟩
 |m,i,a::l,e,h,h1,h2=>⟨h.1,h.2.1,ZD h.2.2 (by simp only[Oaa] at h1;simp only[UK,uad] at h1;simp only[UK];omega) h2⟩
theorem pV(m:Int)(l:List (List ae))(e:List ae):UK m (l++[e])=CD (UK m l) e:=by
 unfold UK;rw[Lad];rfl
structure Ls(D:List Int)(n:Nat)(J:Int->Prop)(O:List Int)(l:List (List ae)):Prop where
 ord:xx n O
 first:O[0]? =some 0
 le:l.length<=O.length
 rows:∀ (k:Nat) o e,O[k]? =some o->l[k]? =some e->VM D O o e
 met:UK 1 l=O.length
 D6:uL 1 0 l
 all:∀ o∈O,J o
 W6:∀ e∈l,∀ x∈e,x.to < O.length
section
variable {D:List Int}{n:Nat}{J:Int->Prop}(hD:D.length=n * 256)(cD:∀ c∈D,c < n)
 (hJ:∀ o,J o->0<=o->o < n->∀ x,x < 256->0<=(Va D o.toNat).getD x 0->J ((Va D o.toNat).getD x 0))
include hD cD hJ
theorem Ls.next{O:List Int}{l:List (List ae)}(h:Ls D n J O l){o:Int}(ho:O[l.length]? =some o):
 Ls D n J (Hg D o O).1 (l++[wg (Hg D o O).2]):=by
 have hoO:=nab ho;have hb:=h.ord.2 o hoO
 have E7:=(iaa.1 ho).1
 have hrl:(Va D o.toNat).length=256:=Ei hD (by omega)
 obtain⟨k1,k2⟩:=KV (fb:=Va D o.toNat) h.ord.1 256 (by omega)
 obtain⟨t,ht,hts⟩:=k1.ext
 unfold Hg;have hm:=UI (row:=(Td (Va D o.toNat) (List.range 256) (O,Va D o.toNat)).2) (g:=fun x=>((Td (Va D o.toNat) (List.range x) (O,Va D o.toNat)).1.length:Int)) (fun x=>by omega) 256 (fun x hx=>(k2 x hx).1) (fun x hx=>(k2 x hx).2);generalize hr:Td (Va D o.toNat) (List.range 256) (O,Va D o.toNat)=r at *;obtain⟨m1,m2,m3⟩:=hm;have hg0:((Td (Va D o.toNat) (List.range 0) (O,Va D o.toNat)).1.length:Int)=O.length:=rfl
 simp only[hg0] at m1 m2;have e1:Qe r.2 (List.range 256) []=wg r.2:=rfl
 rw[e1] at m1 m2 m3;have N7:VM D r.1 o (wg r.2):=⟨r.2,rfl,fun x hx=>k1.val x hx⟩
 have hm':=h.met
 have T9:∀ x,x < 256->(Va D o.toNat).getD x 0 < n:=by intro x hx;rw[taa,aaa (by omega)];have:=jaa (l:=Va D o.toNat) (n:=x) (by omega);exact cD _ (by unfold Va at this;exact Vab (uac this))
 refine⟨⟨k1.nodup,?_⟩,?_,?_,?_,?_,?_,?_,?_⟩
 ·intro o' ho'
  rw[ht] at ho';rcases Jaa.1 ho' with h1 | h1
  ·exact h.ord.2 o' h1
  ·obtain⟨h2,x,hx,rfl⟩:=hts o' h1;exact⟨h2,T9 x hx⟩
 ·rw[ht,eaa (by omega)];exact h.first
 ·rw[ht];simp;omega
 ·intro k o' e h1 h2
  rcases Qaa k l.length with h3 | h3
  ·rw[eaa h3] at h2
   rw[ht,eaa (by omega)] at h1;rw[ht];exact (h.rows k o' e h1 h2).mono t
  ·have h4:=(iaa.1 h2).1
   have:k=l.length:=by simp at h4;omega
   subst this;rw[Kaa (paa _)] at h2;simp at h2;subst h2;rw[ht,eaa (by omega),ho] at h1;injection h1 with h1;subst h1;exact N7
 ·rw[pV,hm',m1]
 ·exact ZD h.D6 (by rw[hm'];omega) (by rw[hm'];exact m2)
 ·intro o' ho'
  rw[ht] at ho';rcases Jaa.1 ho' with h1 | h1
  ·exact h.all o' h1
  ·obtain⟨h2,x,hx,rfl⟩:=hts o' h1;exact hJ o (h.all o hoO) hb.1 hb.2 x hx h2
 ·intro e he x hx
  rcases Jaa.1 he with h1 | h1
  ·have:=h.W6 e h1 x hx;rw[ht,raa];omega
  ·simp only[Hab] at h1;subst h1;exact m3 x hx
theorem Ls.go:∀ (f:Nat)(O:List Int)(l:List (List ae)),Ls D n J O l->n<=l.length+f->Ls D n J (Sj D f (O,l)).1 (Sj D f (O,l)).2/\(Sj D f (O,l)).1.length=(Sj D f (O,l)).2.length
 |0,O,l,h,hf=>⟨h,by have:=h.ord.len;have:=h.le;show O.length=l.length;omega⟩
 |f+1,O,l,h,hf=>by
  cases ho:O[l.length]? with
  |none=>
   rw[Sr (r:=(O,l)) ho];have:=List.getElem?_eq_none_iff.1 ho
   exact⟨h,by have:=h.le;show O.length=l.length;omega⟩
  |some o=>rw[xt (r:=(O,l)) ho];exact Ls.go f _ _ (h.next hD cD hJ ho) (by simp;omega)
theorem S1(hn:n<=64)(h0:0 < n)(hJ0:J 0):∃ O,Ls D n J O (Yo D)/\O.length=(Yo D).length:=by
 have h:Ls D n J [0] []:=⟨⟨by simp,by simp;omega⟩,rfl,by simp,by simp,rfl,trivial,by simpa using hJ0,by simp⟩;have:=Ls.go hD cD hJ 64 [0] [] h (by simp;omega)
 exact⟨_,this.1,this.2⟩
end
open Go.AM Go.AM.So
structure UY(ss:List Nb)(B7:List Al)(C:List (List Int))(O:List Int)(l:List (List ae)):Prop where
 ok:Xb ss
 pre:Gf ss
 W:Dm ss B7 C
 hl:C.length=B7.length
 told:Ls (ff C.length C.flatten).C C.length (fun o=>∃ j,j < C.length/\o=co C j) O l
 len:O.length=l.length
 pos:0 < C.length
 le:C.length<=64
theorem QL(C:List (List Int)):co C 0=0:=by unfold co;rw[if_pos rfl]
section
variable {ss:List Nb}{B7:List Al}{C:List (List Int)}(W:Dm ss B7 C)(hl:C.length=B7.length)
include W hl
theorem ER{j x:Nat}(hj:j < C.length)(hx:x < 256):Ss C j x=if 0<=ch C j x then co C (ch C j x).toNat else ch C j x:=by
 unfold Ss
 split
 ·next h=>
  have:=W.vD hl hj hx h
  unfold co;rw[kaa (by omega)]
 ·rfl
end
theorem GR{ss:List Nb}{l:List (List ae)}(Ba:Xb ss)(I7:Gf ss)(h:jg ss=some l):∃ B7 C O,UY ss B7 C O l:=by
 unfold jg at h;rw[daa] at h;obtain⟨⟨B7,C⟩,hw,rfl⟩:=h;obtain⟨W,hl⟩:=KJ Ba.len (fun s hs=>(Ba.dt s hs).lo) hw
 have W:Dm ss B7 C:=W;have hl:C.length=B7.length:=hl
 have hm:=W.NA hl
 have h0:0 < C.length:=by rw[hl];exact (iaa.1 W.first).1
 have h64:C.length<=64:=by rw[hl];exact W.ok.1
 have K7:∀ j x,j < C.length->x < 256->(Va (ff C.length C.flatten).C (co C j).toNat).getD x 0=Ss C j x:=fun j x hj hx=>IK W hl hj hx
 obtain⟨O,h1,h2⟩:=S1 (n:=C.length) (J:=fun o=>∃ j,j < C.length/\o=co C j) (D:=(ff C.length C.flatten).C) hm.hC (by
  intro c hc;obtain⟨p,hp,rfl⟩:=qab hc;have X7:p < C.length * 256:=by rw[<- hm.hC];exact hp
  have e1:(ff C.length C.flatten).C[p]=(Va (ff C.length C.flatten).C (p / 256)).getD (p % 256) 0:=by
   rw[taa,Fu (yae _ (by omega))];have:p / 256 * 256+p % 256=p:=by omega
   rw[this,aaa hp];rfl
  rw[e1,W.UU hl (by omega) (yae _ (by omega))];have hb:=W.bound hl (k:=p / 256) (x:=p % 256) (by omega) (yae _ (by omega))
  unfold Ss
  split
  ·exact (hm.mq (j:=(ch C (p / 256) (p % 256)).toNat) (by omega)).2.1
  ·exact hb.2) (by
  rintro o ⟨j,hj,rfl⟩ _ _ x hx h3;rw[K7 j x hj hx,ER W hl hj hx] at h3 ⊢;have hb:=W.bound hl hj hx
  split at h3
  ·next h4=>rw[if_pos h4];exact⟨_,by omega,rfl⟩
  ·omega) h64 h0 ⟨0,h0,(QL C).symm⟩
 exact⟨B7,C,O,Ba,I7,W,hl,h1,h2,h0,h64⟩
section
variable {ss:List Nb}{B7:List Al}{C:List (List Int)}{O:List Int}{l:List (List ae)}
theorem UY.first(h:UY ss B7 C O l):O[0]? =some (co C 0):=by rw[QL];exact h.told.first
theorem UY.row(h:UY ss B7 C O l){k j:Nat}(hk:O[k]? =some (co C j))(hj:j < C.length):∃ row,l[k]? =some (wg row)/\
 ∀ x,x < 256->(ch C j x < 0->row.getD x 0=ch C j x)/\(0<=ch C j x->∃ k':Nat,row.getD x 0=(k':Int)/\0 < k'/\O[k']? =some (co C (ch C j x).toNat)):=by
 have hkl:=(iaa.1 hk).1
 have hle:=h.len
 have he:l[k]? =some l[k]:=aaa (by omega);obtain⟨row,h1,h2⟩:=(h.told.rows k _ _ hk he).ex
 refine⟨row,by rw[he,h1],fun x hx=> ?_⟩;have h3:=h2 x hx;rw[IK h.W h.hl hj hx,ER h.W h.hl hj hx] at h3;constructor
 ·intro h4
  rw[kaa (by omega)] at h3;exact h3.1 h4
 ·intro h4
  rw[if_pos h4] at h3;have hd:=h.W.vD h.hl hj hx h4
  have hb:=h.W.bound h.hl hj hx
  have hc:0<=co C (ch C j x).toNat:=by
   unfold co;split
   ·omega
   ·exact ((h.W.NA h.hl).mq (by omega)).1
  obtain⟨k',e1,e2⟩:=h3.2 hc
  refine⟨k',e1,?_,e2⟩;rcases Sac k' with rfl | h5
  ·rw[h.first,QL] at e2
   injection e2 with e2
   unfold co at e2;rw[kaa (by omega)] at e2;exact absurd e2.symm (BR h.ok h.pre h.W h.hl (by omega) (by omega))
  ·exact h5
end
section
variable {ss:List Nb}{B7:List Al}{C:List (List Int)}{O:List Int}{l:List (List ae)}(h:UY ss B7 C O l)
include h
theorem UY.step{k j:Nat}(hk:O[k]? =some (co C j))(hj:j < C.length){x:Nat}(hx:x < 256):
 (ch C j x= -2/\Nd l (k:Int) (x:Int)=(0,false))\/(ch C j x= -1/\Nd l (k:Int) (x:Int)=(-1,true))\/
 (0<=ch C j x/\ch C j x < C.length/\∃ k':Nat,Nd l (k:Int) (x:Int)=((k':Int),true)/\0 < k'/\O[k']? =some (co C (ch C j x).toNat)):=by
 obtain⟨row,h1,h2⟩:=h.row hk hj
 have h3:=(tD row).step x hx
 obtain⟨h4,h5⟩:=h2 x hx;have hb:=h.W.bound h.hl hj hx
 have hs:Nd l (k:Int) (x:Int)=match Zg (x:Int) (wg row) with
  |some t=>(t,true)
  |none=>(0,false):=by
  unfold Nd;rw[kaa (by omega),Daa,h1] <;> rfl
 rw[h3] at hs
 by_cases c0:0<=ch C j x
 ·obtain⟨k',e1,e2,e3⟩:=h5 c0
  rw[e1,kaa (by omega)] at hs;exact .inr (.inr ⟨c0,hb.2,k',hs,e2,e3⟩)
 ·have h6:=h4 (by omega)
  rw[h6] at hs
  by_cases c1:ch C j x= -2
  ·rw[if_pos c1] at hs;exact .inl ⟨c1,hs⟩
  ·have c2:ch C j x= -1:=by omega
   rw[kaa c1,c2] at hs;exact .inr (.inl ⟨c2,hs⟩)
theorem UY.match:∀ (bs:List Nat)(i k j:Nat),Bytes bs->O[k]? =some (co C j)->j < C.length->
 ∃ m:Nat,m<=bs.length/\((Pg l i (k:Int) (bs.map fun (n:Nat)=>(n:Int))=(((i+m:Nat):Int),1)/\0 < m/\runT C j (bs.take m)= -1)\/
  (Pg l i (k:Int) (bs.map fun (n:Nat)=>(n:Int))=(((i+m:Nat):Int),2)/\m=bs.length/\0<=runT C j bs)\/
  (Pg l i (k:Int) (bs.map fun (n:Nat)=>(n:Int))=(((i+m:Nat):Int),3)/\m < bs.length/\0<=runT C j (bs.take m)/\runT C j (bs.take (m+1))= -2))
 | [],i,k,j,_,hk,hj=>⟨0,by simp,.inr (.inl ⟨rfl,rfl,Int.natCast_nonneg j⟩)⟩
 |x::bs,i,k,j,hb,hk,hj=>by
  have hx:x < 256:=hb x (by simp);have hbs:Bytes bs:=fun y hy=>hb y (by simp[hy]);have hj0:¬((j:Int) < 0):=by omega
  rw[lab,Pg];rcases h.step hk hj hx with⟨h1,h2⟩ | ⟨h1,h2⟩ | ⟨h1,D9,k',h2,h3,h4⟩
  ·rw[h2]
   refine⟨0,by simp,.inr (.inr ⟨rfl,by simp,Int.natCast_nonneg j,?_⟩)⟩;show runT C j [x]= -2;rw[runT,kaa hj0,Daa,h1];rfl
  ·rw[h2]
   refine⟨1,by simp,.inl ⟨rfl,by omega,?_⟩⟩;show runT C j [x]= -1;rw[runT,kaa hj0,Daa,h1];rfl
  ·rw[h2]
   simp only[Bool.true_eq_false,if_false];rw[kaa (by omega)];obtain⟨m,hm,hc⟩:=UY.match bs (i+1) k' (ch C j x).toNat hbs h4 (by omega)
   have hr:∀ w,runT C j (x::w)=runT C ((ch C j x).toNat:Nat) w:=by intro w;rw[runT,kaa hj0,Daa,sac h1]
   have he:i+1+m=i+(m+1):=by omega
   rw[he] at hc;refine⟨m+1,by simp;omega,?_⟩;rcases hc with⟨c1,c2,c3⟩ | ⟨c1,c2,c3⟩ | ⟨c1,c2,c3,c4⟩
   ·exact .inl ⟨c1,by omega,by rw[lad,hr];exact c3⟩
   ·exact .inr (.inl ⟨c1,by simp[c2],by rw[hr];exact c3⟩)
   ·exact .inr (.inr ⟨c1,by simp;omega,by rw[lad,hr];exact c3,by rw[lad,hr];exact c4⟩)
end
theorem CJ{ss:List Nb}{l:List (List ae)}(Ba:Xb ss)(I7:Gf ss)(ha:jg ss=some l)(bs:List Nat)(hb:Bytes bs):
 ∃ m:Nat,m<=bs.length/\((Pg l 0 0 (bs.map fun (n:Nat)=>(n:Int))=((m:Int),1)/\∃ s∈ss,Full s (bs.take m))\/
  (Pg l 0 0 (bs.map fun (n:Nat)=>(n:Int))=((m:Int),2)/\m=bs.length/\(bs=[]\/∃ s∈ss,No s bs)/\∀ s∈ss,¬Full s bs)\/
  (Pg l 0 0 (bs.map fun (n:Nat)=>(n:Int))=((m:Int),3)/\m < bs.length/\(bs.take m=[]\/∃ s∈ss,No s (bs.take m))/\(∀ s∈ss,¬Full s (bs.take m))/\∀ s∈ss,¬No s (bs.take (m+1)))):=by
 obtain⟨B7,C,O,h⟩:=GR Ba I7 ha;obtain⟨m,hm,hc⟩:=h.match bs 0 0 0 hb h.first h.pos
 have hbt:∀ m,Bytes (bs.take m):=fun m x hx=>hb x (uac hx);have Fae:∀ w,Bytes w->J2 ss B7 w (runT C 0 w):=fun w hw=>mB Ba I7 h.W h.hl _ w rfl hw
 rw[Zaa] at hc;refine⟨m,hm,?_⟩;rcases hc with⟨c1,c2,c3⟩ | ⟨c1,c2,c3⟩ | ⟨c1,c2,c3,c4⟩
 ·refine .inl ⟨c1,?_⟩
  rcases Fae _ (hbt m) with⟨_,q⟩ | ⟨q,_⟩ | ⟨q,_⟩
  ·exact q
  ·have:runT C ((0:Nat):Int) (bs.take m)= -1:=c3
   rw[show ((0:Nat):Int)=0 from rfl] at this;omega
  ·have:runT C ((0:Nat):Int) (bs.take m)= -1:=c3
   rw[show ((0:Nat):Int)=0 from rfl] at this;omega
 ·refine .inr (.inl ⟨c1,c2,?_⟩)
  rw[show ((0:Nat):Int)=0 from rfl] at c3;rcases Fae _ hb with⟨q,_⟩ | ⟨_,_,q1,q2⟩ | ⟨q,_⟩
  ·omega
  ·refine⟨?_,q2⟩
   rcases q1 with q1 | ⟨s,h1,h2,_⟩
   ·exact .inl q1
   ·exact .inr ⟨s,h1,h2⟩
  ·omega
 ·rw[show ((0:Nat):Int)=0 from rfl] at c3 c4
  refine .inr (.inr ⟨c1,c2,?_⟩)
  have h4:∀ s∈ss,¬No s (bs.take (m+1)):=by
   rcases Fae _ (hbt (m+1)) with⟨q,_⟩ | ⟨q,_⟩ | ⟨_,_,q⟩
   ·omega
   ·omega
   ·exact q
  rcases Fae _ (hbt m) with⟨q,_⟩ | ⟨_,_,q1,q2⟩ | ⟨q,_⟩
  ·omega
  ·refine⟨?_,q2,h4⟩
   rcases q1 with q1 | ⟨s,h1,h2,_⟩
   ·exact .inl q1
   ·exact .inr ⟨s,h1,h2⟩
  ·omega
theorem qV{row:List Int}{e:ae}(he:e∈wg row):0<=e.lo/\e.lo<=e.hi/\e.hi < 256/\e.to≠ -2/\e.to=row.getD e.lo.toNat 0:=by
 have h:=tD row;obtain⟨h1,h2,h3,h4⟩:=h.Sy e he
 have hs:=h.step e.lo.toNat (by omega)
 rw[sac h1,oH h.ord e he (Lac _) h2] at hs;refine⟨h1,h2,h3,h4,?_⟩
 split at hs
 ·cases hs
 ·injection hs
theorem kH{ss:List Nb}{l:List (List ae)}(Ba:Xb ss)(I7:Gf ss)(h:jg ss=some l):∀ e∈l,yj e:=by
 obtain⟨B7,C,O,L⟩:=GR Ba I7 h;intro e he;obtain⟨k,hk,rfl⟩:=qab he;have hkO:k < O.length:=by rw[L.len];exact hk
 obtain⟨j,hj,ho⟩:=L.told.all O[k] (jaa hkO)
 obtain⟨row,h1,h2⟩:=L.row (k:=k) (j:=j) (by rw[aaa hkO,ho]) hj
 rw[aaa hk] at h1;injection h1 with h1
 have Iai:=L.told.W6 _ (jaa hk)
 have h64:=(GD h).1
 have hlen:=L.len
 rw[h1] at Iai ⊢;refine⟨fun x hx=> ?_,(tD row).ord⟩;obtain⟨e1,e2,e3,e4,e5⟩:=qV hx;have:=Iai x hx;refine⟨e1,e2,e3,?_,by omega⟩;obtain⟨f1,f2⟩:=h2 x.lo.toNat (by omega)
 by_cases hc:ch C j x.lo.toNat < 0
 ·have hb:=L.W.bound L.hl hj (x:=x.lo.toNat) (by omega)
  rw[f1 hc] at e5;omega
 ·obtain⟨k',g1,_⟩:=f2 (by omega)
  rw[g1] at e5;omega
def IL(r:List Int):PV:= .agg (r.map i64)
theorem kG{sz:Nat}:∀ {D:List (List PV)},(∀ r∈D,r.length=sz)->chunk sz true D.length D.flatten=D.map .agg
 | [],_=>rfl
 |r::D,h=>by have hr:=h r (by simp);rw[Oaa,chunk,if_pos rfl,Uab,List.take_left' hr,List.drop_left' hr,kG fun x hx=>h x (by simp[hx])];rfl
theorem vC:∀ {D:List (List Int)},(∀ r∈D,r.length=3)->ri 3 D.length D.flatten=D
 | [],_=>rfl
 |r::D,h=>by have hr:=h r (by simp);rw[Oaa,ri,Uab,List.take_left' hr,List.drop_left' hr,vC fun x hx=>h x (by simp[hx])]
def Zj(ss:List Nb):List (List Int):=(Gq 3 0 (uj ss ss.length).toArray).toList
theorem Hs(ss:List Nb):(Zj ss).Perm (uj ss ss.length):=(tC 3 0 (uj ss ss.length).toArray).2.1
theorem BD{ss:List Nb}{r:List Int}(h:r∈Zj ss):r.length=3:=Dz ((Hs ss).mem_iff.1 h)
theorem CI(ss:List Nb):(Zj ss).length=ss.length:=by rw[(Hs ss).length_eq,Jr]
structure xo(T:PV)(ss:List Nb)(l:List (List ae)):Prop where
 ex:∃ S' NX DG RW,T= .rp [S',Nk l,NX,DG,RW,i64 (Aj ss)] 0/\Vh 2 S' (ss.map uf)/\Vh 256 NX (l.map bp)/\Vh 1 DG (ss.map fun s=>Ij s.parts)/\Vh 3 RW ((Zj ss).map IL)
section
variable {S:PV}{ss:List Nb}{es:List PV}(hS:qb S ss es)
include hS
theorem rE{n:Int}{V:PV}(hV:(AV.pv V).one=true)(h0:n≠0)(h1:n≠130)(hb:Ec [.agg [S]]=some (.mc [.agg [V],i64 n])):Ib [.agg [S]]=some (.mc [.sf,i64 n]):=by
 have K8:(AV.pv S).one=true:=by rcases hS.is with⟨h,_⟩ | h <;> rw[h] <;> rfl
 have d0:(n==0)=false:=by simp[h0]
 have d1:(n==130)=false:=by simp[h1]
 have d2:(n != 0)=true:=by simp[h0]
 have st:Ha [.box [.pv .ga]] 1 (.ptr 0 0) (.pv (.agg [V]))=some [.box [.pv V]]:=by simp[Ha,AV.cells,PV.cells,hV,fa]
 simp -implicitDefEqProofs only[Ib,TD.eq_1,SX,sevalprocAttr,oj,K8,qe,hb,st,d0,d1,d2]
theorem cE{n:Int}{V:PV}{y:Bool}{a b:Int}(hV:(AV.pv V).one=true)(h0:n=0\/n=130)(hy:n=130\/y=false)(hb:Ec [.agg [S]]=some (.mc [.agg [V],i64 n]))(hi:Gh [.agg [S]]=some (.mc [.agg [.bool y,i64 a,i64 b],i64 0])):
 Ib [.agg [S]]=some (.mc [.sf,i64 (if y then n else 111)]):=by
 have K8:(AV.pv S).one=true:=by rcases hS.is with⟨h,_⟩ | h <;> rw[h] <;> rfl
 have st:Ha [.box [.pv .ga]] 1 (.ptr 0 0) (.pv (.agg [V]))=some [.box [.pv V]]:=by simp[Ha,AV.cells,PV.cells,hV,fa]
 have st2:Ha [.box [.pv V],.box [.pv (.bool false),.pv (i64 0),.pv (i64 0)]] 3 (.ptr 1 0) (.pv (.agg [.bool y,i64 a,i64 b]))=some [.box [.pv V],.box [.pv (.bool y),.pv (i64 a),.pv (i64 b)]]:=rfl;have p2:∀ a b c d,place [a,.box [b,c,d]] 0 (.ptr 1 0)=some (.ptr 1 0):=fun a b c d=>rfl;have l2:∀ a b c d,pa [a,.box [b,c,d]] false 1 (.ptr 1 0)=some b:=fun a b c d=>rfl;have z0:((0:Int)==0)=true:=rfl;have z1:((130:Int)==0)=false:=rfl;have z2:((130:Int)==130)=true:=rfl;have z3:((130:Int) != 0)=true:=rfl;have z4:((111:Int) != 0)=true:=rfl;rcases h0 with rfl | rfl
 ·obtain rfl:y=false:=by rcases hy with h | h;cases h;exact h
  simp -implicitDefEqProofs only[Ib,TD.eq_1,SX,sevalprocAttr,oj,K8,qe,hb,hi,st,st2,p2,l2,z0,z1,z2,z3,z4]
 ·cases y <;> simp -implicitDefEqProofs only[Ib,TD.eq_1,SX,sevalprocAttr,oj,K8,qe,hb,hi,st,st2,p2,l2,z0,z1,z2,z3,z4]
end
theorem TF(l:List Int)(n:Nat):(ig l).all (AV.je n deep)=true:=by
 rw[Taa];intro x hx;obtain⟨y,_,rfl⟩:=fab.1 hx
 rfl
theorem OV{V S':PV}{y:Bool}{a b:Int}(nl:Bool)(ds:List PV)(D:List (List Int))(fl:Nat)(nr:Bool)(m:Int):
 Wd (Pz (.box [.pv V]) (.box [.pv (.bool y),.pv (i64 a),.pv (i64 b)]) (.tok 256 0 true) (.pv S') (.pv V) (.uq 3 true 256 []) nl ds D fl nr m):=by
 intro n hn o ho;have hn:6<=n:=hn;simp only[Pz,Xaa,hac,or_false] at ho;rcases ho with rfl | rfl | rfl | rfl | rfl | rfl
 ·exact Bs n [V]
 ·exact Bs n [.bool y,i64 a,i64 b]
 ·simp only[qa,Ra,Qa,rH (show 3 < n by omega),rH (show 4 < n by omega),nR (show 5 < n by omega),yaa,Haa]
 ·rfl
 ·rfl
 ·simp only[qa,TF,if_true]
theorem NV{V S':PV}{y:Bool}{a b m:Int}{nl:Bool}{ds:List PV}{D:List (List Int)}{fl k:Nat}{nr:Bool}(nx:Bool)(es:List PV):
 Wd (Xx (.box [.pv V]) (.box [.pv (.bool y),.pv (i64 a),.pv (i64 b)]) (.tok 1 k nl) (.seq 3 true (ig D.flatten) fl nr) (.pv S') (.pv V) (.uq 4 nl 1 ds) (.own 5 k) (.pv (i64 m)) nx es):=by
 intro n hn o ho;have hn:6<=n:=hn;simp only[Xx,Xaa,hac,or_false] at ho;rcases ho with rfl | rfl | rfl | rfl | rfl | rfl
 ·exact Bs n [V]
 ·exact Bs n [.bool y,i64 a,i64 b]
 ·simp only[qa,Ra,Qa,rH (show 3 < n by omega),rH (show 4 < n by omega),nR (show 5 < n by omega),yaa,Haa]
 ·rfl
 ·rfl
 ·simp only[qa,TF,if_true]
theorem rX{V S':PV}{o0 o1:ba}{m:Int}{nl nr nx:Bool}{ds es:List PV}{D:List (List Int)}{fl k:Nat}(hk:D.length=k)(hD:∀ r∈D,r.length=3)(h1:nl=true->ds=[])(h2:nr=true->D=[])(h3:nx=true->es=[]):
 ∃ NX DG RW,Sb (Xx o0 o1 (.tok 1 k nl) (.seq 3 true (ig D.flatten) fl nr) (.pv S') (.pv V) (.uq 4 nl 1 ds) (.own 5 k) (.pv (i64 m)) nx es) 5 (.ptr 2 0)=some (.rp [S',V,NX,DG,RW,i64 m] 0)/\
  Vh 256 NX es/\Vh 1 DG ds/\Vh 3 RW (D.map IL):=by
 refine⟨if nx then .ga else .lit 256 es,if nl then .ga else .lit 1 ds,if nr then .ga else .lit 3 (D.map IL),?_,?_,?_,?_⟩
 ·have hc:k * 3=(ig D.flatten).length/\(true||(3:Nat)==1)=true:=⟨by rw[haa,Gz hD,hk],rfl⟩
  have hm:Ra (Sb (Xx o0 o1 (.tok 1 k nl) (.seq 3 true (ig D.flatten) fl nr) (.pv S') (.pv V) (.uq 4 nl 1 ds) (.own 5 k) (.pv (i64 m)) nx es) 3) (ig D.flatten)=some (D.flatten.map i64):=by
   generalize Xx o0 o1 (.tok 1 k nl) (.seq 3 true (ig D.flatten) fl nr) (.pv S') (.pv V) (.uq 4 nl 1 ds) (.own 5 k) (.pv (i64 m)) nx es=H;generalize D.flatten=F
   induction F with
   |nil=>rfl
   |cons x F ih=>show Ra (Sb H 3) (.pv (i64 x)::ig F)=_;rw[Ra,ih];rfl
  have hch:chunk 3 true k (D.flatten.map i64)=D.map IL:=by
   have:=kG (sz:=3) (D:=D.map fun r=>r.map i64) (by
    intro r hr;obtain⟨q,hq,rfl⟩:=fab.1 hr
    rw[haa,hD q hq])
   rw[haa,jad,<-List.map_flatten,hk] at this;exact this
  have h5:(Xx o0 o1 (.tok 1 k nl) (.seq 3 true (ig D.flatten) fl nr) (.pv S') (.pv V) (.uq 4 nl 1 ds) (.own 5 k) (.pv (i64 m)) nx es)[5]? =some (.seq 3 true (ig D.flatten) fl nr):=rfl;have hb:(Xx o0 o1 (.tok 1 k nl) (.seq 3 true (ig D.flatten) fl nr) (.pv S') (.pv V) (.uq 4 nl 1 ds) (.own 5 k) (.pv (i64 m)) nx es)[2]? =some (.box [.pv S',.pv V,.uq 3 nx 256 es,.uq 4 nl 1 ds,.own 5 k,.pv (i64 m)]):=rfl;have ho:Sb (Xx o0 o1 (.tok 1 k nl) (.seq 3 true (ig D.flatten) fl nr) (.pv S') (.pv V) (.uq 4 nl 1 ds) (.own 5 k) (.pv (i64 m)) nx es) 4 (.own 5 k)=some (if nr then .ga else .lit 3 (D.map IL)):=by simp only[Sb,h5,if_pos hc,hm,Haa,hch];cases nr <;> rfl
  generalize Xx o0 o1 (.tok 1 k nl) (.seq 3 true (ig D.flatten) fl nr) (.pv S') (.pv V) (.uq 4 nl 1 ds) (.own 5 k) (.pv (i64 m)) nx es=H at *;show (match H[2]? with | some (.box cells)=>(Ra (Sb H 4) cells).map fun ps=>PV.rp ps 0 | _=>none)=_;rw[hb];have hv:∀ p:PV,Sb H 4 (.pv p)=some p:=fun p=>rfl;have hu:∀ id nl sz es,Sb H 4 (.uq id nl sz es)=some (if nl then .ga else .lit sz es):=fun _ _ _ _=>rfl;simp only[Ra,hv,hu,ho,yaa,Haa]
 ·cases nx with
  |false=>exact .inr rfl
  |true=>exact .inl ⟨rfl,h3 rfl⟩
 ·cases nl with
  |false=>exact .inr rfl
  |true=>exact .inl ⟨rfl,h1 rfl⟩
 ·cases nr with
  |false=>exact .inr rfl
  |true=>exact .inl ⟨rfl,by rw[h2 rfl];rfl⟩
theorem HV{ss:List Nb}(h32:ss.length<=32){H:List ba}{fl:Nat}{nr:Bool}(hH:H[5]? =some (.seq 3 true (ig (uj ss ss.length).flatten) fl nr)):
 si Jt (fun _=>none) 8 34 [.own 5 ss.length,.Ol 36 []] H=some (.pv (.mc []),H.set 5 (.seq 3 true (ig (Zj ss).flatten) (ss.length * 3) nr)):=by
 have e34:∀ (d:Nat) args H,si Jt (fun _=>none) (d+1) 34 args H=mC 3 0 36 args H:=fun d args H=>rfl;rw[e34 7];have hl:(ig (uj ss ss.length).flatten).length=ss.length * 3:=by rw[haa,Gz fun r hr=>Dz hr,Jr]
 simp only[mC,hH];rw[if_pos ⟨trivial,trivial,hl.symm,by omega⟩,Ov,Haa,hl];have:=vC (D:=uj ss ss.length) fun r hr=>Dz hr;rw[Jr] at this;rw[this];rfl
theorem nF{S:PV}{ss:List Nb}{es:List PV}(hS:qb S ss es)(Ba:Xb ss)(I7:Gf ss){l:List (List ae)}(ha:jg ss=some l){a b:Int}(hi:Gh [.agg [S]]=some (.mc [.agg [.bool true,i64 a,i64 b],i64 0])):
 ∃ T,Ib [.agg [S]]=some (.mc [T,i64 0])/\xo T ss l:=by
 have K8:(AV.pv S).one=true:=by rcases hS.is with⟨h,_⟩ | h <;> rw[h] <;> rfl
 have hb:=(nj hS).2.2.2 Ba I7 l ha
 obtain⟨S',hcp,hS'⟩:=bH hS Ba;have Lal:(AV.pv S').one=true:=by rcases hS' with⟨h,_⟩ | h <;> rw[h] <;> rfl
 have lS:=hS.Tb
 obtain⟨k64,Jai⟩:=GD ha;have Y7:=dG k64 Jai;have hV1:(AV.pv (Nk l)).one=true:=rfl
 have hVl:Vh 1 (Nk l) (l.map Ee):= .inr rfl
 have lV:=hVl.len
 rw[haa] at lV;have heo:=kH Ba I7 ha;obtain⟨V,hVe⟩:∃ V,V=Nk l:=⟨_,rfl⟩;rw[<- hVe] at hb Y7 hV1 hVl lV;have st:Ha [.box [.pv .ga]] 1 (.ptr 0 0) (.pv (.agg [V]))=some [.box [.pv V]]:=by simp[Ha,AV.cells,PV.cells,hV1,fa]
 have st2:Ha [.box [.pv V],.box [.pv (.bool false),.pv (i64 0),.pv (i64 0)]] 3 (.ptr 1 0) (.pv (.agg [.bool true,i64 a,i64 b]))=some [.box [.pv V],.box [.pv (.bool true),.pv (i64 a),.pv (i64 b)]]:=rfl;have p2:∀ a b c d,place [a,.box [b,c,d]] 0 (.ptr 1 0)=some (.ptr 1 0):=fun a b c d=>rfl;have l2:∀ a b c d,pa [a,.box [b,c,d]] false 1 (.ptr 1 0)=some b:=fun a b c d=>rfl;have l3:pa [.box [.pv V],.box [.pv (.bool true),.pv (i64 a),.pv (i64 b)]] true 1 (.ptr 0 0)=some (.pv (.agg [V])):=rfl;have z0:((0:Int)==0)=true:=rfl;have z1:((0:Int) != 0)=false:=rfl;have m1:fa [AV.pv PV.ga,.pv .ga,.pv .ga,.pv .ga,.pv .ga,.pv (.int .i64 0)] 0 [AV.pv S']=[.pv S',.pv .ga,.pv .ga,.pv .ga,.pv .ga,.pv (.int .i64 0)]:=rfl;have m2:fa [AV.pv S',.pv .ga,.pv .ga,.pv .ga,.pv .ga,.pv (.int .i64 0)] 1 [AV.pv V]=[.pv S',.pv V,.pv .ga,.pv .ga,.pv .ga,.pv (.int .i64 0)]:=rfl;have m3:Tc [AV.pv S',.pv V,.pv .ga,.pv .ga,.pv .ga,.pv (.int .i64 0)]=some [S',V,.ga,.ga,.ga,.int .i64 0]:=rfl;have hz1:(0 < 256)=True:=by simp
 have hz2:(0 < 3)=True:=by simp
 have hz3:(0 < 1)=True:=by simp
 suffices key:qd (fun r=>∃ T,r= .mc [T,i64 0]/\xo T ss l) (Ib [.agg [S]]) by obtain⟨r,h1,T,rfl,h2⟩:=wc key;exact⟨T,h1,h2⟩
 generalize hQ:(fun r=>∃ T,r=PV.mc [T,i64 0]/\_)=Q;simp -implicitDefEqProofs only[Ib,TD.eq_1,SX,sevalprocAttr,oj,K8,hV1,Lal,qe,Wa,fc,hb,hi,st,st2,p2,l2,l3,z0,z1,hcp,m1,m2,m3,bC,fe,hz1,hz2,hz3,lS];generalize W7:(Tr.set _ 48 _:Tr)=E;have q4:E.get 4= .ptr 0 0:=by rw[<- W7];simp[Tr.aa]
 have q8:E.get 8= .ptr 2 0:=by rw[<- W7];simp[Tr.aa]
 have q46:E.get 46= .pv S:=by rw[<- W7];simp[Tr.aa]
 have q47:E.get 47= .pv (i64 ss.length):=by rw[<- W7];simp[Tr.aa]
 have q48:E.get 48= .pv (i64 0):=by rw[<- W7];simp[Tr.aa]
 refine wa (P0 (call:=si Jt (fun _=>none) 8) (OV (V:=V) (S':=S') (y:=true) (a:=a) (b:=b)) hS Ba q4 q8 q46 q47 q48) ?_;rintro r ⟨_,E2,nl,nr,rfl,g4,g8,j8,hnr⟩;have hdl:(ss.map fun s=>Ij s.parts).length=ss.length:=by rw[haa]
 have hrl:=Jr ss ss.length
 have hDl:=CI ss;have p5:∀ d,place (Pz (.box [.pv V]) (.box [.pv (.bool true),.pv (i64 a),.pv (i64 b)]) (.tok 256 0 true) (.pv S') (.pv V) (.uq 3 true 256 []) nl (ss.map fun s=>Ij s.parts) (uj ss ss.length) 0 nr (Aj ss)) d (.ptr 2 0)=some (.ptr 2 (0+d)):=fun d=>Vg rfl d 0;have l5:pa (Pz (.box [.pv V]) (.box [.pv (.bool true),.pv (i64 a),.pv (i64 b)]) (.tok 256 0 true) (.pv S') (.pv V) (.uq 3 true 256 []) nl (ss.map fun s=>Ij s.parts) (uj ss ss.length) 0 nr (Aj ss)) false 1 (.ptr 2 4)=some (.own 5 ss.length):=by rw[<- hrl,Jr];show some (AV.own 5 (uj ss ss.length).length)=_;rw[hrl]
 have Aaf:=HV Ba.len (H:=Pz (.box [.pv V]) (.box [.pv (.bool true),.pv (i64 a),.pv (i64 b)]) (.tok 256 0 true) (.pv S') (.pv V) (.uq 3 true 256 []) nl (ss.map fun s=>Ij s.parts) (uj ss ss.length) 0 nr (Aj ss)) rfl
 have hHT:(Pz (.box [.pv V]) (.box [.pv (.bool true),.pv (i64 a),.pv (i64 b)]) (.tok 256 0 true) (.pv S') (.pv V) (.uq 3 true 256 []) nl (ss.map fun s=>Ij s.parts) (uj ss ss.length) 0 nr (Aj ss)).set 5 (.seq 3 true (ig (Zj ss).flatten) (ss.length * 3) nr)=Xx (.box [.pv V]) (.box [.pv (.bool true),.pv (i64 a),.pv (i64 b)]) (.tok 1 ss.length nl) (.seq 3 true (ig (Zj ss).flatten) (ss.length * 3) nr) (.pv S') (.pv V) (.uq 4 nl 1 (ss.map fun s=>Ij s.parts)) (.own 5 ss.length) (.pv (i64 (Aj ss))) true []:=by unfold Pz Xx;rw[hdl,hrl];rfl
 rw[hHT] at Aaf;have p6:∀ d,place (Xx (.box [.pv V]) (.box [.pv (.bool true),.pv (i64 a),.pv (i64 b)]) (.tok 1 ss.length nl) (.seq 3 true (ig (Zj ss).flatten) (ss.length * 3) nr) (.pv S') (.pv V) (.uq 4 nl 1 (ss.map fun s=>Ij s.parts)) (.own 5 ss.length) (.pv (i64 (Aj ss))) true []) d (.ptr 0 0)=some (.ptr 0 (0+d)):=fun d=>Vg rfl d 0;have l6:pa (Xx (.box [.pv V]) (.box [.pv (.bool true),.pv (i64 a),.pv (i64 b)]) (.tok 1 ss.length nl) (.seq 3 true (ig (Zj ss).flatten) (ss.length * 3) nr) (.pv S') (.pv V) (.uq 4 nl 1 (ss.map fun s=>Ij s.parts)) (.own 5 ss.length) (.pv (i64 (Aj ss))) true []) false 1 (.ptr 0 0)=some (.pv V):=rfl;have hnx:=fun (E3:Tr)(r8:E3.get 8= .ptr 2 0)(r101:E3.get 101= .pv V)(r102:E3.get 102= .pv (i64 l.length))(r103:E3.get 103= .pv (i64 0))=>
  LZ (call:=si Jt (fun _=>none) 8) (NV (V:=V) (S':=S') (y:=true) (a:=a) (b:=b) (m:=Aj ss) (nl:=nl) (ds:=ss.map fun s=>Ij s.parts) (D:=Zj ss) (fl:=ss.length * 3) (k:=ss.length) (nr:=nr)) hVl k64 Jai heo r8 r101 r102 r103
 obtain⟨NX,hNX⟩:∃ x,x=fun nx=>Xx (.box [.pv V]) (.box [.pv (.bool true),.pv (i64 a),.pv (i64 b)]) (.tok 1 ss.length nl) (.seq 3 true (ig (Zj ss).flatten) (ss.length * 3) nr) (.pv S') (.pv V) (.uq 4 nl 1 (ss.map fun s=>Ij s.parts)) (.own 5 ss.length) (.pv (i64 (Aj ss))) nx (l.map bp):=⟨_,rfl⟩;have zaq:=hnx;generalize Pz (.box [.pv V]) (.box [.pv (.bool true),.pv (i64 a),.pv (i64 b)]) (.tok 256 0 true) (.pv S') (.pv V) (.uq 3 true 256 []) nl (ss.map fun s=>Ij s.parts) (uj ss ss.length) 0 nr (Aj ss)=HS at *;simp -implicitDefEqProofs only[SX,sevalprocAttr,g4,g8,p5,l5,Aaf,p6,l6,lV];generalize Gae:(Tr.set _ 103 _:Tr)=E3;refine wa (hnx E3 (by rw[<- Gae];simp[Tr.aa,g8]) (by rw[<- Gae];simp[Tr.aa]) (by rw[<- Gae];simp[Tr.aa]) (by rw[<- Gae];simp[Tr.aa])) ?_;rintro r ⟨_,E4,nx,rfl,r8,hx⟩;obtain⟨NX,DG,RW,t1,t2,t3,t4⟩:=rX (V:=V) (S':=S') (o0:= .box [.pv V]) (o1:= .box [.pv (.bool true),.pv (i64 a),.pv (i64 b)]) (m:=Aj ss) (nl:=nl) (nr:=nr) (nx:=nx) (ds:=ss.map fun s=>Ij s.parts) (es:=l.map bp) (D:=Zj ss) (fl:=ss.length * 3) (k:=ss.length) hDl (fun r hr=>BD hr) (fun h=>by rw[j8 h];rfl) (fun h=>by have:=hDl;rw[hnr h] at this ⊢;exact qaa this) (fun h=>by rw[hx h];rfl);generalize Xx (.box [.pv V]) (.box [.pv (.bool true),.pv (i64 a),.pv (i64 b)]) (.tok 1 ss.length nl) (.seq 3 true (ig (Zj ss).flatten) (ss.length * 3) nr) (.pv S') (.pv V) (.uq 4 nl 1 (ss.map fun s=>Ij s.parts)) (.own 5 ss.length) (.pv (i64 (Aj ss))) nx (l.map bp)=HT at *;have hm1:iy [AV.ptr 2 0,.pv (.int .i64 0)]= .mc [.ptr 2 0,.pv (.int .i64 0)]:=rfl
 have htp:Sb HT 6 (.mc [.ptr 2 0,.pv (.int .i64 0)])=some (.mc [.rp [S',V,NX,DG,RW,i64 (Aj ss)] 0,i64 0]):=by
  show (Ra (Sb HT 5) [AV.ptr 2 0,.pv (.int .i64 0)]).map PV.mc=_
  have hv:Sb HT 5 (.pv (.int .i64 0))=some (.int .i64 0):=rfl;simp only[Ra,t1,hv,yaa,Haa]
 simp -implicitDefEqProofs only[SX,sevalprocAttr,r8,dH,hm1,htp];subst hQ;exact⟨_,rfl,⟨S',NX,DG,RW,by rw[hVe],hS',t2,t3,t4⟩⟩
theorem Lr{S:PV}{ss:List Nb}{es:List PV}(hS:qb S ss es):∃ T n,Ib [.agg [S]]=some (.mc [T,i64 n])/\(n≠0->T= .sf)/\
 (¬ Xb ss->n=84)/\(Xb ss->¬Gf ss->n=110)/\(Xb ss->Gf ss->¬Fm ss->n=111)/\(Xb ss->Gf ss->Fm ss->jg ss=none->n=130)/\
 (∀ l,Xb ss->Gf ss->Fm ss->jg ss=some l->n=0/\xo T ss l):=by
 have hb:=nj hS
 by_cases h1:Xb ss
 ·by_cases h2:Gf ss
  ·obtain⟨y,a,b,hi,hy⟩:=NQ hS h1
   by_cases h3:Fm ss
   ·have:=hy.2 h3
    subst this;cases h4:jg ss with
    |none=>have:=cE hS (n:=130) (V:= .ga) rfl (.inr rfl) (.inl rfl) (hb.2.2.1 h1 h2 h4) hi;exact⟨.sf,130,this,fun _=>rfl,fun h=>absurd h1 h,fun _ h=>absurd h2 h,fun _ _ h=>absurd h3 h,fun _ _ _ _=>rfl,fun l _ _ _ h=>(by cases h)⟩
    |some l=>
     obtain⟨T,t1,t2⟩:=nF hS h1 h2 h4 hi;refine⟨T,0,t1,fun h=>absurd rfl h,fun h=>absurd h1 h,fun _ h=>absurd h2 h,fun _ _ h=>absurd h3 h,fun _ _ _ h=>(by cases h),fun l' _ _ _ h=> ?_⟩;injection h with h
     exact⟨rfl,h ▸ t2⟩
   ·have hyf:y=false:=by cases y with | false=>rfl | true=>exact absurd (hy.1 rfl) h3
    subst hyf;have key:∃ n V,(AV.pv V).one=true/\(n=0\/n=130)/\Ec [.agg [S]]=some (.mc [.agg [V],i64 n]):=by
     cases h4:jg ss with
     |none=>exact⟨130,.ga,rfl,.inr rfl,hb.2.2.1 h1 h2 h4⟩
     |some l=>exact⟨0,Nk l,rfl,.inl rfl,hb.2.2.2 h1 h2 l h4⟩
    obtain⟨n,V,k1,k2,k3⟩:=key;have:=cE hS k1 k2 (.inr rfl) k3 hi;exact⟨.sf,111,this,fun _=>rfl,fun h=>absurd h1 h,fun _ h=>absurd h2 h,fun _ _ _=>rfl,fun _ _ h=>absurd h h3,fun l _ _ h=>absurd h h3⟩
  ·have:=rE hS (n:=110) (V:= .ga) rfl (by decide) (by decide) (hb.2.1 h1 h2)
   exact⟨.sf,110,this,fun _=>rfl,fun h=>absurd h1 h,fun _ _=>rfl,fun _ h=>absurd h h2,fun _ h=>absurd h h2,fun l _ h=>absurd h h2⟩
 ·have:=rE hS (n:=84) (V:= .ga) rfl (by decide) (by decide) (hb.1 h1)
  exact⟨.sf,84,this,fun _=>rfl,fun _=>rfl,fun h=>absurd h h1,fun h=>absurd h h1,fun h=>absurd h h1,fun l h=>absurd h h1⟩
theorem XT{S:PV}{ss:List Nb}{es:List PV}(hS:qb S ss es):∃ T n,Ib [.agg [S]]=some (.mc [T,i64 n])/\
 ((n≠0/\T= .sf)\/(n=0/\Xb ss/\Gf ss/\Fm ss/\∃ l,jg ss=some l/\xo T ss l/\∀ e∈l,yj e)):=by
 obtain⟨T,n,hc,hn,h1,h2,h3,h4,h5⟩:=Lr hS;refine⟨T,n,hc,?_⟩
 by_cases h0:n=0
 ·refine .inr ⟨h0,?_⟩
  by_cases k1:Xb ss
  ·by_cases k2:Gf ss
   ·by_cases k3:Fm ss
    ·cases k4:jg ss with
     |none=>have:=h4 k1 k2 k3 k4;omega
     |some l=>exact⟨k1,k2,k3,l,rfl,(h5 l k1 k2 k3 k4).2,kH k1 k2 k4⟩
    ·have:=h3 k1 k2 k3;omega
   ·have:=h2 k1 k2;omega
  ·have:=h1 k1;omega
 ·exact .inl ⟨h0,hn h0⟩
theorem DH{p q:Nb}(op:Be p)(oq:Be q)(hle:p.parts.length<=q.parts.length):mf p q=true↔∀ k (h1:k < p.parts.length) (h2:k < q.parts.length),∃ x,x < 256/\mj p.parts[k] x=true/\mj q.parts[k] x=true:=by
 have key:∀ (m i:Nat),i+m=p.parts.length->((dc p.parts q.parts m i).isSome=true↔∀ k,i<=k->(h1:k < p.parts.length)->(h2:k < q.parts.length)->∃ x,x < 256/\mj p.parts[k] x=true/\mj q.parts[k] x=true):=by
  intro m
  induction m with
  |zero=>intro i hi;exact⟨fun _ k hk h1=>by omega,fun _=>rfl⟩
  |succ m ih=>
   intro i hi;have h1:i < p.parts.length:=by omega
   have h2:i < q.parts.length:=by omega
   have hm:=YA h1 h2 (op.parts _ (jaa h1)).2 (oq.parts _ (jaa h2)).2
   have hI:=ih (i+1) (by omega);rw[dc];cases hmt:Rq p.parts q.parts i with
   |nil=>
    constructor
    ·intro h;cases h
    ·intro h;exact absurd hmt (hm.2 (h i (paa _) h1 h2))
   |cons a r=>
    simp only[Option.isSome_map];rw[hI];constructor
    ·intro h k hk g1 g2
     rcases Qaa i k with h3 | h3
     ·exact h k h3 g1 g2
     ·have:k=i:=by omega
      subst this;exact hm.1 (by rw[hmt];simp)
    ·intro h k hk;exact h k (by omega)
 have:=key p.parts.length 0 (by omega)
 unfold mf;rw[this];exact⟨fun h k h1 h2=>h k (by omega) h1 h2,fun h k _ h1 h2=>h k h1 h2⟩
theorem pH{p q:Nb}(op:Be p)(oq:Be q)(h:p.parts.length=q.parts.length):mf p q=mf q p:=by
 rw[Xad,DH op oq (by omega),DH oq op (by omega)];constructor
 ·intro k i h1 h2;obtain⟨x,a,b,c⟩:=k i h2 h1;exact⟨x,a,c,b⟩
 ·intro k i h1 h2;obtain⟨x,a,b,c⟩:=k i h2 h1;exact⟨x,a,c,b⟩
def uF(ss:List Nb)(i j:Nat):Prop:=(hi:i < ss.length)->(hj:j < ss.length)->j < i->ss[i].parts.length=ss[j].parts.length->mf ss[i] ss[j]=false
theorem OJ{ss:List Nb}(Ba:Xb ss):Fm ss↔∀ i j,uF ss i j:=by
 constructor
 ·intro h i j hi hj E7 he
  rw[pH (Ba.dt _ (jaa hi)) (Ba.dt _ (jaa hj)) he];exact h j i hj hi E7 he.symm
 ·intro h i j hi hj E7 he
  rw[pH (Ba.dt _ (jaa hi)) (Ba.dt _ (jaa hj)) he];exact h j i hj hi E7 he.symm
section
variable {S:PV}{ss:List Nb}{es:List PV}(hS:qb S ss es)(Ba:Xb ss)
include hS Ba
theorem aL(call:Sa){i:Nat}(hi:i < ss.length){E:Tr}(h1:E.get 1= .pv (.rp [S] 0))(h4:E.get 4= .pv (i64 i))(h5:E.get 5= .pv (i64 0)):
 qd (fun r=>r.1.stop=true/\((∃ E',r=(.exit 2,⟨E',[]⟩)/\Xe [1,4] E E'/\∀ j,uF ss i j)\/∃ E',r=(.ret,⟨E',[]⟩)/\E'.get 2= .pv (.bool false)/\E'.get 3= .pv (i64 0)/\¬Fm ss))
  (oa call (.loop [1,4,5] Ud) ⟨E,[]⟩):=by
 have h32:=Ba.len
 have ln:=hS.Tb
 obtain⟨P,ps,hP,a1⟩:=hS.Pd hi
 have okp:=Ba.dt _ (jaa hi)
 have lP:=hP.parts.Tb
 refine Hr (fun j t=>Xe [1,4] E t.env/\t.env.get 5= .pv (i64 j)/\t.H=[]/\∀ j',j' < j->uF ss i j') i (by unfold ua;omega)
  (Th.all rfl (by simp) (Fit.cons h1 Qa (.cons h4 Qa (.cons h5 Qa (.nil _ _)))) fun E' hE=>⟨Xe.sub hE rfl,by rw[hE 5 (by simp),h5];rfl,rfl,fun j h=>by omega⟩) ?_ ?_
 ·rintro j ⟨E1,H1⟩ hj ⟨k1,k5,k3,hs⟩
  simp only at k1 k5 k3;subst k3;have hjl:j < ss.length:=by omega
  have g1:=(k1 1 (by simp)).trans h1
  have g4:=(k1 4 (by simp)).trans h4
  obtain⟨Q,qs,hQ,a2⟩:=hS.Pd hjl
  have okq:=Ba.dt _ (jaa hjl)
  have hcm:=fun (h:ss[i].parts.length<=ss[j].parts.length)=>my hP hQ okp okq (n:=ss[i].parts.length) (paa _) h;have lQ:=hQ.parts.Tb
  have u9:∀ b,(ss[i].parts.length=ss[j].parts.length->mf ss[i] ss[j]=b)->b=false->∀ j',j' < j+1->uF ss i j':=by
   intro b hb hb0 j' hj';rcases Qaa j' j with h3 | h3
   ·exact hs j' h3
   ·have:j'=j:=by omega
    subst this;intro _ _ _ he;rw[hb he,hb0]
  have J9:ss[i].parts.length=ss[j].parts.length->mf ss[i] ss[j]=true->¬Fm ss:=fun he hm h=>by
   have:=(OJ Ba).1 h i j hi hjl hj he
   rw[hm] at this;cases this
  unfold mf at u9 J9;generalize ss[i]=p at *;generalize ss[j]=q at *;have e1:decide ((j:Int) < (i:Int))=true:=Ea (by omega);have t2:IntKind.i64.wrap ((j:Int)+1)=((j+1:Nat):Int):=sg (by omega)
  have fin:(∀ j',j' < j+1->uF ss i j')->∀ E2:Tr,Xe [1,4] E E2->E2.get 5= .pv (i64 (j+1:Nat))->Th ([]:List ba).length [1,4,5] (fun t=>Xe [1,4] E t.env/\t.env.get 5= .pv (i64 (j+1:Nat))/\t.H=[]/\∀ j',j' < j+1->uF ss i j') ⟨E2,[]⟩:=fun hn E2 kk z5=>
   Th.all rfl (by simp) (Fit.sub (.cons z5 Qa (Fit.je (l:=[1,4]) (.cons h1 Qa (.cons h4 Qa (.nil _ _))) kk)) rfl) fun E' hE=>⟨kk.trans (Xe.sub hE rfl),by rw[hE 5 (by simp),z5],rfl,hn⟩
  generalize Q7:RQ _ _ _ _=QQ
  by_cases c1:p.parts.length=q.parts.length
  ·have d1:((p.parts.length:Int)==(q.parts.length:Int))=true:=by rw[c1];simp
   obtain⟨v,hv⟩:=hcm (by omega);cases hb:(dc p.parts q.parts p.parts.length 0).isSome with
   |true=>rw[hb] at hv;simp -implicitDefEqProofs only[SX,sevalprocAttr,Ud,g1,g4,k5,e1,fc,Wa,Uc,oe,pg,a1,a2,lP,lQ,d1,hv];subst Q7;exact .inr ⟨_,rfl,by simp[Tr.aa],by simp[Tr.aa],J9 c1 hb⟩
   |false=>rw[hb] at hv;simp -implicitDefEqProofs only[SX,sevalprocAttr,Ud,g1,g4,k5,e1,t2,fc,Wa,Uc,oe,pg,a1,a2,lP,lQ,d1,hv];subst Q7;rw[Un];generalize W7:(Tr.set _ 5 _:Tr)=E2;refine fin (u9 false (fun _=>hb) rfl) E2 (by rw[<- W7];(repeat refine Xe.set ?_ rfl);exact k1) (by rw[<- W7];simp[Tr.aa])
  ·have d1:((p.parts.length:Int)==(q.parts.length:Int))=false:=beq_false_of_ne (by omega)
   simp -implicitDefEqProofs only[SX,sevalprocAttr,Ud,g1,g4,k5,e1,t2,fc,Wa,Uc,oe,pg,a1,a2,lP,lQ,d1];subst Q7;rw[Un];generalize W7:(Tr.set _ 5 _:Tr)=E2;refine fin (u9 false (fun h=>absurd h c1) rfl) E2 (by rw[<- W7];(repeat refine Xe.set ?_ rfl);exact k1) (by rw[<- W7];simp[Tr.aa])
 ·rintro⟨E1,H1⟩ ⟨k1,k5,k3,hs⟩
  simp only at k1 k5 k3;subst k3;have g4:=(k1 4 (by simp)).trans h4
  have e1:decide ((i:Int) < (i:Int))=false:=Ga (by omega);generalize hQ:(fun r:Ex×St=>r.1.stop=true/\_)=QQ;simp -implicitDefEqProofs only[SX,sevalprocAttr,Ud,g4,k5,e1];subst hQ;refine⟨rfl,.inl ⟨_,rfl,?_,fun j a b c=>hs j c a b c⟩⟩
  repeat refine Xe.set ?_ rfl
  exact k1
theorem ZA:∃ b,Ze [.agg [S]]=some (.mc [.bool b,i64 0])/\(b=true↔Fm ss):=by
 have ln:=hS.Tb
 have K8:(AV.pv S).one=true:=by rcases hS.is with⟨h,_⟩ | h <;> rw[h] <;> rfl
 obtain⟨b,hb,hbb⟩:=gz hS;have:=hbb.2 Ba
 subst this;have h32:=Ba.len
 have D7:=fun (E:Tr)(h1:E.get 1= .pv (.rp [S] 0))(h4:E.get 4= .pv (i64 0))=>
  Hr (call:=Da (fun _=>none) 8) (b:=Sg) (live:=[1,4]) (s:=⟨E,[]⟩) (Q:=fun r=>(∃ E',r=(.exit 0,⟨E',[]⟩)/\Fm ss)\/∃ E',r=(.ret,⟨E',[]⟩)/\E'.get 2= .pv (.bool false)/\E'.get 3= .pv (i64 0)/\¬Fm ss)
   (fun i t=>Xe [1] E t.env/\t.env.get 4= .pv (i64 i)/\t.H=[]/\∀ i',i' < i->∀ j,uF ss i' j) ss.length (by unfold ua;omega)
   (Th.all rfl (by simp) (Fit.cons h1 Qa (.cons h4 Qa (.nil _ _))) fun E' hE=>⟨Xe.sub hE rfl,by rw[hE 4 (by simp),h4];rfl,rfl,fun i h=>by omega⟩)
   (by
    rintro i ⟨E1,H1⟩ hi ⟨k1,k4,k3,hs⟩;simp only at k1 k4 k3;subst k3;have g1:=(k1 1 (by simp)).trans h1
    have e1:decide ((i:Int) < (ss.length:Int))=true:=Ea (by omega);have t2:=Za hi (by unfold maxLen;omega);generalize Q7:RQ _ _ _ _=QQ;simp -implicitDefEqProofs only[SX,sevalprocAttr,Sg,g1,k4,ln,e1,fc,Wa];generalize W7:(Tr.set _ 5 _:Tr)=E2;have z1:E2.get 1= .pv (.rp [S] 0):=by rw[<- W7];simp[Tr.aa,g1]
    have z4:E2.get 4= .pv (i64 i):=by rw[<- W7];simp[Tr.aa,k4]
    refine wa (aL hS Ba _ hi z1 z4 (by rw[<- W7];simp[Tr.aa])) ?_;rintro _ ⟨_,⟨E3,rfl,k6,hp⟩ | ⟨E3,rfl,g2,g3,hp⟩⟩
    ·have y4:=(k6 4 (by simp)).trans z4
     simp -implicitDefEqProofs only[SX,sevalprocAttr,y4,t2];subst Q7;rw[Un];generalize hE4:(Tr.set _ 4 _:Tr)=E4;have y1:E4.get 1= .pv (.rp [S] 0):=by rw[<- hE4];simp[Tr.aa];exact (k6 1 (by simp)).trans z1
     have y4:E4.get 4= .pv (i64 (i+1:Nat)):=by rw[<- hE4];simp[Tr.aa]
     exact Th.all rfl (by simp) (Fit.cons y1 Qa (.cons y4 Qa (.nil _ _))) fun E' hE=>⟨fun t ht=>by
      rw[Hab] at ht;subst ht;rw[hE 1 (by simp),y1,h1],by rw[hE 4 (by simp),y4],rfl,fun i' hi' j=>by
      rcases Qaa i' i with h3 | h3
      ·exact hs i' h3 j
      ·have:i'=i:=by omega
       subst this;exact hp j⟩
    ·simp -implicitDefEqProofs only[SX,sevalprocAttr]
     subst Q7;exact .inr ⟨_,rfl,g2,g3,hp⟩)
   (by
    rintro⟨E1,H1⟩ ⟨k1,k4,k3,hs⟩;simp only at k1 k4 k3;subst k3;have g1:=(k1 1 (by simp)).trans h1
    have e1:decide ((ss.length:Int) < (ss.length:Int))=false:=Ga (by omega);generalize hQ:(fun r:Ex×St=>r.1.stop=true/\_)=QQ;simp -implicitDefEqProofs only[SX,sevalprocAttr,Sg,g1,k4,ln,e1,fc,Wa];subst hQ;exact⟨rfl,.inl ⟨_,rfl,(OJ Ba).2 fun i j hi hj=>hs i hi j hi hj⟩⟩)
 have key:qd (fun r=>∃ b,r=PV.mc [.bool b,i64 0]/\(b=true↔Fm ss)) (Ze [.agg [S]]):=by
  generalize Q7:(fun r:PV=>_)=QQ;simp -implicitDefEqProofs only[Ze,SX,sevalprocAttr,bk,K8,fc,Wa,qe,hb];generalize W7:(Tr.set _ 4 _:Tr)=E;refine wa (D7 E (by rw[<- W7];simp[Tr.aa]) (by rw[<- W7];simp[Tr.aa])) ?_;rintro _ ⟨_,⟨E',rfl,hp⟩ | ⟨E',rfl,g2,g3,hp⟩⟩
  ·simp -implicitDefEqProofs only[SX,sevalprocAttr]
   subst Q7;exact⟨true,rfl,by simpa using hp⟩
  ·simp -implicitDefEqProofs only[SX,sevalprocAttr,g2,g3]
   subst Q7;exact⟨false,rfl,by simpa using hp⟩
 obtain⟨r,h1,b,rfl,hb⟩:=wc key;exact⟨b,h1,hb⟩
end
theorem HI{S V:PV}{ss:List Nb}{es:List PV}(hS:qb S ss es){m:Int}(hV:(AV.pv V).one=true)(hm:m=84\/m=110)(hb:Ya [.agg [S]]=some (.mc [.agg [V],i64 m])):Dd [.agg [S]]=some (.mc [.agg [.ga],i64 m]):=by
 have K8:(AV.pv S).one=true:=by rcases hS.is with⟨h,_⟩ | h <;> rw[h] <;> rfl
 have s1:Ha [.box [.pv .ga],.box [.pv .ga]] 1 (.ptr 1 0) (.pv (.agg [V]))=some [.box [.pv .ga],.box [.pv V]]:=by simp[Ha,AV.cells,PV.cells,hV,fa]
 have s0:Ha [.box [.pv .ga],.box [.pv V]] 1 (.ptr 0 0) (.pv (.agg [.ga]))=some [.box [.pv .ga],.box [.pv V]]:=rfl;have ld:pa [.box [.pv .ga],.box [.pv V]] true 1 (.ptr 0 0)=some (.pv (.agg [.ga])):=rfl;have z1:((84:Int)==84)=true:=rfl;have z2:((110:Int)==84)=false:=rfl;have z3:((110:Int)==110)=true:=rfl;rcases hm with rfl | rfl <;>
 simp -implicitDefEqProofs only[Dd,SX,sevalprocAttr,wh,K8,qe,hb,s1,s0,ld,z1,z2,z3]
theorem Ez{S V:PV}{ss:List Nb}{es:List PV}(hS:qb S ss es){m:Int}{b:Bool}(hV:(AV.pv V).one=true)(h1:m≠84)(h2:m≠110)(hb:Ya [.agg [S]]=some (.mc [.agg [V],i64 m]))(hi:Ze [.agg [S]]=some (.mc [.bool b,i64 0])):
 Dd [.agg [S]]=some (.mc [.agg [if b then V else .ga],i64 (if b then m else 111)]):=by
 have K8:(AV.pv S).one=true:=by rcases hS.is with⟨h,_⟩ | h <;> rw[h] <;> rfl
 have s1:Ha [.box [.pv .ga],.box [.pv .ga]] 1 (.ptr 1 0) (.pv (.agg [V]))=some [.box [.pv .ga],.box [.pv V]]:=by simp[Ha,AV.cells,PV.cells,hV,fa]
 have s0:Ha [.box [.pv .ga],.box [.pv V]] 1 (.ptr 0 0) (.pv (.agg [.ga]))=some [.box [.pv .ga],.box [.pv V]]:=rfl;have s2:Ha [.box [.pv .ga],.box [.pv V]] 1 (.ptr 0 0) (.pv (.agg [V]))=some [.box [.pv V],.box [.pv V]]:=by simp[Ha,AV.cells,PV.cells,hV,fa]
 have ld:∀ W:PV,pa [.box [.pv W],.box [.pv V]] true 1 (.ptr 0 0)=some (.pv (.agg [W])):=fun W=>rfl;have ld1:pa [.box [.pv .ga],.box [.pv V]] true 1 (.ptr 1 0)=some (.pv (.agg [V])):=rfl;have z1:(m==84)=false:=beq_false_of_ne h1;have z2:(m==110)=false:=beq_false_of_ne h2;cases b <;>;simp -implicitDefEqProofs only[Dd,SX,sevalprocAttr,wh,K8,qe,hb,hi,s1,s0,s2,ld,ld1,z1,z2]
theorem BL(ss:List Nb):∃ n V,(∀ (S:PV)(es:List PV),qb S ss es->Dd [.agg [S]]=some (.mc [.agg [V],i64 n]))/\(n=0->∃ l,jg ss=some l/\V=Nk l)/\(AV.pv V).one=true/\
 (∀ (S:PV)(es:List PV),qb S ss es->∃ T,Ib [.agg [S]]=some (.mc [T,i64 n])/\((n≠0/\T= .sf)\/(n=0/\Xb ss/\Gf ss/\Fm ss/\∃ l,jg ss=some l/\xo T ss l/\∀ e∈l,yj e))):=by
 obtain⟨VB,lB,m,hVB,_,_,L8,y8⟩:=rQ ss;have N7:∀ (S:PV)(es:List PV)(V':PV)(m':Int),qb S ss es->Ec [.agg [S]]=some (.mc [.agg [V'],i64 m'])->Ya [.agg [S]]=some (.mc [.agg [V'],i64 m']):=by intro S es V' m' hS h;rw[y8 S es hS,<-L8 S es hS,h]
 have xg:∀ n:Int,(∀ (S:PV)(es:List PV),qb S ss es->∀ T k,Ib [.agg [S]]=some (.mc [T,i64 k])->k=n)->∀ (S:PV)(es:List PV),qb S ss es->∃ T,Ib [.agg [S]]=some (.mc [T,i64 n])/\((n≠0/\T= .sf)\/(n=0/\Xb ss/\Gf ss/\Fm ss/\∃ l,jg ss=some l/\xo T ss l/\∀ e∈l,yj e)):=by intro n hn S es hS;obtain⟨T,k,h1,h2⟩:=XT hS;obtain rfl:=hn S es hS T k h1;exact⟨T,h1,h2⟩
 have same:∀ {S:PV}{T T':PV}{k k':Int},Ib [.agg [S]]=some (.mc [T,i64 k])->Ib [.agg [S]]=some (.mc [T',i64 k'])->k=k':=by
  intro S T T' k k' h1 h2;rw[h1] at h2;injection h2 with h2
  injection h2 with h2
  injection h2 with _ h2
  injection h2 with h2 _
  injection h2
 have aut:jg ss=none\/∃ l,jg ss=some l:=by
  cases jg ss with
  |none=>exact .inl rfl
  |some l=>exact .inr ⟨l,rfl⟩
 have one:∀ {l:List (List ae)},(AV.pv (Nk l)).one=true:=fun {l}=>rfl
 by_cases h1:Xb ss
 ·by_cases h2:Gf ss
  ·by_cases h3:Fm ss
   ·rcases aut with h4 | ⟨l,h4⟩
    ·skip
     refine⟨130,.ga,fun S es hS=> ?_,fun h=>(by cases h),rfl,xg 130 fun S es hS T k hk=> ?_⟩
     ·obtain⟨b,i1,i2⟩:=ZA hS h1
      have:=i2.2 h3
      subst this;exact Ez hS rfl (by decide) (by decide) (N7 S es _ _ hS ((nj hS).2.2.1 h1 h2 h4)) i1
     ·obtain⟨T',n,t1,_,_,_,_,t2,_⟩:=Lr hS
      have:=t2 h1 h2 h3 h4;subst this;exact same hk t1
    ·skip
     refine⟨0,Nk l,fun S es hS=> ?_,fun _=>⟨l,h4,rfl⟩,one,xg 0 fun S es hS T k hk=> ?_⟩
     ·obtain⟨b,i1,i2⟩:=ZA hS h1
      have:=i2.2 h3
      subst this;exact Ez hS one (by decide) (by decide) (N7 S es _ _ hS ((nj hS).2.2.2 h1 h2 l h4)) i1
     ·obtain⟨T',n,t1,_,_,_,_,_,t2⟩:=Lr hS
      have:=(t2 l h1 h2 h3 h4).1
      subst this;exact same hk t1
   ·refine⟨111,.ga,fun S es hS=> ?_,fun h=>(by cases h),rfl,xg 111 fun S es hS T k hk=> ?_⟩
    ·obtain⟨b,i1,i2⟩:=ZA hS h1
     have hb:b=false:=by cases b with | false=>rfl | true=>exact absurd (i2.1 rfl) h3
     subst hb;cases h4:jg ss with
     |none=>exact Ez hS (V:= .ga) rfl (by decide) (by decide) (N7 S es _ _ hS ((nj hS).2.2.1 h1 h2 h4)) i1
     |some l=>exact Ez hS one (by decide) (by decide) (N7 S es _ _ hS ((nj hS).2.2.2 h1 h2 l h4)) i1
    ·obtain⟨T',n,t1,_,_,_,t2,_⟩:=Lr hS
     have:=t2 h1 h2 h3;subst this;exact same hk t1
  ·refine⟨110,.ga,fun S es hS=>HI hS (V:= .ga) rfl (.inr rfl) (N7 S es _ _ hS ((nj hS).2.1 h1 h2)),fun h=>(by cases h),rfl,xg 110 fun S es hS T k hk=> ?_⟩
   obtain⟨T',n,t1,_,_,t2,_⟩:=Lr hS;have:=t2 h1 h2;subst this;exact same hk t1
 ·refine⟨84,.ga,fun S es hS=>HI hS (V:= .ga) rfl (.inl rfl) (N7 S es _ _ hS ((nj hS).1 h1)),fun h=>(by cases h),rfl,xg 84 fun S es hS T k hk=> ?_⟩
  obtain⟨T',n,t1,_,t2,_⟩:=Lr hS;have:=t2 h1;subst this;exact same hk t1
def FL(ls:List (List (Int×Int)))(i:Nat):List PV:=(List.range 258).map fun k=>sL ls (i * 258+k)
theorem DK(H:List ba)(d o:Nat)(row:List PV):place H d (.pv (.rp row o))=some (.pv (.rp row (o+d))):=rfl
theorem X6(H:List ba)(o n:Nat)(row:List PV):place H (n * 1) (.pv (.rp row o))=some (.pv (.rp row (o+n))):=by rw[Nat.mul_one];rfl
theorem DJ{ls:List (List (Int×Int))}{i:Nat}(hi:i < ls.length)(H:List ba):ta H 258 (.pv (.lit 258 ((List.range ls.length).map (xK ls)))) (i:Int)=some (.pv (.rp (FL ls i) 0)):=by
 simp only[ta];rw[if_pos ⟨trivial,by unfold Ia;simp;omega⟩,Daa,Eaa,Xac hi];rfl
theorem ZG{ls:List (List (Int×Int))}{i k:Nat}(hk:k < 258)(H:List ba):pa H false 1 (.pv (.rp (FL ls i) k))=some (.pv (sL ls (i * 258+k))):=by
 have:(FL ls i)[k]? =some (sL ls (i * 258+k)):=by rw[FL,Eaa,Xac hk];rfl
 simp only[pa,Km,saa,if_false,this];rfl
theorem U3{ls:List (List (Int×Int))}{i:Nat}(H:List ba):pa H false 1 (.pv (.rp (FL ls i) 0))=some (.pv (Wq (ls.getD i []))):=by
 rw[ZG (by omega),sL,if_pos (by omega),show (i * 258+0) / 258=i by omega]
theorem kY{ls:List (List (Int×Int))}{i:Nat}(H:List ba):pa H false 1 (.pv (.rp (FL ls i) 257))=some (.pv (i64 (Na (ls.drop (i+1))))):=by
 rw[ZG (by omega),sL,kaa (by omega),if_pos (by omega),show (i * 258+257) / 258=i by omega]
theorem J3{ls:List (List (Int×Int))}{i y:Nat}(hy:y < 256)(H:List ba):pa H false 1 (.pv (.rp (FL ls i) (1+y)))=some (.pv (Pw (ls.getD i []) y)):=by
 rw[ZG (by omega),sL,kaa (by omega),kaa (by omega),show (i * 258+(1+y)) / 258=i by omega,show (i * 258+(1+y)) % 258 - 1=y by omega]
theorem UR{ls:List (List (Int×Int))}{i:Nat}(hi:i < ls.length):ls.getD i []=ls[i]:=by rw[taa,aaa hi];rfl
abbrev MO(C B:PV)(n i k:Int):Tr:=((((Tr.lf.set 22 (.pv (i64 i))).set 21 (.pv (i64 n))).set 6 (.pv (i64 k))).set 1 (.pv B)).set 0 (.pv (.rp [C] 0))
theorem qL{s:Nb}{B:PV}{bs:List Int}(hB:lk B bs)(Ba:Be s):
 (∀ k,Mi s bs=some k->Kf [Ij s.parts,B]=some (.mc [i64 k,.bool true]))/\(Mi s bs=none->Kf [Ij s.parts,B]=some (.mc [i64 0,.bool false])):=by
 have lB:=hB.Tb
 have h8:=Ba.hi
 have hpr:=Ba.prod.2
 have hia:=fun {i:Nat}(hi:i < s.parts.length)=>DJ (ls:=s.parts) hi;have P7:((List.range s.parts.length).map (xK s.parts)).length=s.parts.length:=by simp
 have hdg:Ij s.parts= .rp [.lit 258 ((List.range s.parts.length).map (xK s.parts))] 0:=rfl
 rw[hdg];generalize (List.range s.parts.length).map (xK s.parts)=C at *
 by_cases hlen:bs.length=s.parts.length
 ·have hrk:Mi s bs=Ch s.parts bs 0:=by unfold Mi;rw[if_pos hlen]
  have D7:qd (fun r=>∃ E,(r=(.ret,⟨E,[]⟩)/\E.get 4= .pv (i64 0)/\E.get 5= .pv (.bool false)/\Ch s.parts bs 0=none)\/(∃ k,r=(.exit 0,⟨E,[]⟩)/\E.get 6= .pv (i64 k)/\Ch s.parts bs 0=some k))
   (ab (ma (oa (Da (fun _=>none) 8) Ae) (na 0 [0,1,6,21,22])) ua ⟨MO (.lit 258 C) B s.parts.length 0 0,[]⟩):=by
   refine wa (Fb (g:=ma (oa (Da (fun _=>none) 8) Ae) (na 0 [0,1,6,21,22]))
    (fun i t=>∃ k,t=⟨MO (.lit 258 C) B s.parts.length i k,[]⟩/\0<=k/\k+Na (s.parts.drop i)<=Na s.parts/\Ch s.parts bs 0=Ch (s.parts.drop i) (bs.drop i) k)
    s.parts.length (by unfold ua;omega) _ ⟨0,rfl,by omega,by simp,rfl⟩ ?_ ?_) (fun r h=>h.2)
   ·rintro i t hi ⟨k,rfl,hk0,hk1,hs⟩
    have N8:=Ba.parts s.parts[i] (jaa hi)
    have hib:i < bs.length:=by omega
    have a3:=hB.Pd hib
    have hbr:=hB.Sy bs[i] (jaa hib)
    have hd:s.parts.drop i=s.parts[i]::s.parts.drop (i+1):=Paa hi
    have hdb:bs.drop i=bs[i]::bs.drop (i+1):=Paa hib
    have hrb:=dn (x:=bs[i]) (n:=0) N8.2
    rw[hd,Na] at hk1;rw[hd,hdb,Ch] at hs;have hle:=Fp Ba.parts (i+1)
    have v8:=yf (ls:=s.parts.drop (i+1)) fun x hx=>Ba.parts x (Vab hx)
    have L7:=Xg N8;have a1:=hia hi;have a4:=kY (ls:=s.parts) (i:=i);have a5:=J3 (ls:=s.parts) (i:=i) (y:=(bs[i]).toNat) (by omega);rw[UR hi] at a5;generalize FL s.parts i=R at *
    generalize s.parts[i]=l at *
    generalize bs[i]=x at *;have hwp:Pw l x.toNat= .int .u16 (if (Ld x 0 l).2 then (Ld x 0 l).1+1 else 0):=by unfold Pw;rw[sac hbr.1]
    rw[hwp] at a5;have e1:decide ((i:Int) < (s.parts.length:Int))=true:=Ea (by omega);have t2:=Za hi (by unfold maxLen;omega);have Dae:(0<=x/\x < ((256:Nat):Int))=True:=Iaa (by omega);obtain⟨⟨d,is⟩,mag⟩:∃ r,r=Ld x 0 l:=⟨_,rfl⟩;rw[<- mag] at hs hrb a5;generalize hQ:LN _ _ i=Q;cases is with
    |false=>
     simp only[saa,if_false] at hs a5;have t3:IntKind.i64.wrap 0=0:=rfl
     have z1:((0:Int)==0)=true:=rfl;simp -implicitDefEqProofs only[SX,sevalprocAttr,Ae,e1,a1,a3,a5,DK,X6,Wa,Dae,t3,z1,MO];subst hQ;exact⟨_,.inl ⟨rfl,by simp[Tr.aa],by simp[Tr.aa],hs⟩⟩
    |true=>
     simp only[if_true] at hs a5;have y8:=hrb rfl;simp only at y8;have hmul:d * Na (s.parts.drop (i+1))+Na (s.parts.drop (i+1))<=Na (s.parts.drop (i+1)) * ib 0 l:=by have h1:(d+1) * Na (s.parts.drop (i+1))<=ib 0 l * Na (s.parts.drop (i+1)):=Uac (by omega) (by omega);rw[Int.add_mul,Mae,Zad (ib 0 l)] at h1;exact h1
     have hm0:0<=d * Na (s.parts.drop (i+1)):=Int.mul_nonneg (by omega) (by omega)
     have t3:IntKind.i64.wrap (d+1)=d+1:=Aa (by omega)
     have t6:IntKind.i64.wrap (d+1 - 1)=d:=by rw[show d+1 - 1=d by omega];exact Aa (by omega)
     have z1:((d+1:Int)==0)=false:=by simp;omega
     have t4:IntKind.i64.wrap (d * Na (s.parts.drop (i+1)))=d * Na (s.parts.drop (i+1)):=Aa (by omega)
     have t5:IntKind.i64.wrap (k+d * Na (s.parts.drop (i+1)))=k+d * Na (s.parts.drop (i+1)):=Aa (by omega)
     simp -implicitDefEqProofs only[SX,sevalprocAttr,Ae,e1,t2,t3,t4,t5,t6,z1,a1,a3,a4,a5,DK,X6,Wa,Dae,na,Ca,AV.cut,za,MO];subst hQ;exact⟨_,rfl,by omega,by omega,hs⟩
   ·rintro t ⟨k,rfl,hk0,hk1,hs⟩
    rw[vab,Is] at hs;have e1:decide ((s.parts.length:Int) < (s.parts.length:Int))=false:=Ga (by omega);generalize hQ:(fun r:Ex×St=>r.1.stop=true/\_)=Q;simp -implicitDefEqProofs only[SX,sevalprocAttr,Ae,e1,MO];subst hQ;exact⟨rfl,_,.inr ⟨k,rfl,by simp[Tr.aa],hs⟩⟩
  obtain⟨r,h1,E,h2⟩:=wc D7;have D9:ab (ma (oa (Da (fun _=>none) 8) Ae) (na 0 [0,1,6,21,22])) ua ⟨((((Tr.lf.set 22 (.pv (.int .i64 0))).set 21 (.pv (i64 s.parts.length))).set 6 (.pv (.int .i64 0))).set 1 (.pv B)).set 0 (.pv (.rp [.lit 258 C] 0)),[]⟩=some r:=h1;have d1:((bs.length:Int) != (s.parts.length:Int))=false:=by rw[hlen];simp
  rw[hrk];rcases h2 with⟨rfl,h4,h5,hn⟩ | ⟨k,rfl,h6,hk⟩
  ·refine⟨fun k hk=>by (rw[hn] at hk;cases hk),fun _=> ?_⟩
   simp -implicitDefEqProofs only[Kf,SX,sevalprocAttr,Xh,Db,DK,Wa,lB,P7,d1,na,Ca,AV.cut,za,D9,h4,h5]
  ·refine⟨fun k' hk'=> ?_,fun hn=>by (rw[hk] at hn;cases hn)⟩
   obtain rfl:k=k':=vad (hk.symm.trans hk');simp -implicitDefEqProofs only[Kf,SX,sevalprocAttr,Xh,Db,DK,Wa,lB,P7,d1,na,Ca,AV.cut,za,D9,h6]
 ·have d1:((bs.length:Int) != (s.parts.length:Int))=true:=by
   have:(bs.length:Int)≠(s.parts.length:Int):=by omega
   simp[this]
  have hrk:Mi s bs=none:=by unfold Mi;rw[kaa hlen]
  refine⟨fun k hk=>by (rw[hrk] at hk;cases hk),fun _=> ?_⟩;simp -implicitDefEqProofs only[Kf,SX,sevalprocAttr,Xh,DK,Wa,lB,P7,d1]
theorem O0{l:List (Int×Int)}(h:Ad l){k x:Int}(h0:0<=k)(h1:k < ib 0 l)(hx:FW k l=some x):(Ml l)[k.toNat]? =some x:=by
 obtain⟨y,q1,_,_,_,q5⟩:=vz h.2 h0 h1
 rw[hx] at q1;injection q1 with q1;subst q1
 have hr:=q5 0;obtain⟨m,e1,e2⟩:=Sv (n:=0) h.2 (by rw[hr])
 rw[hr] at e2;simp only at e2;rw[show k.toNat=m by omega];exact e1
abbrev kS(C:PV)(n i k:Int)(es:List PV):Tr:=((((Tr.lf.set 19 (.pv (i64 i))).set 18 (.pv (i64 n))).set 5 (.uq 0 false 1 es)).set 1 (.pv (i64 k))).set 0 (.pv (.rp [C] 0))
theorem DF{s:Nb}(Ba:Be s){k:Int}(h0:0<=k)(h1:k < Na s.parts):xl [Ij s.parts,i64 k]=some (.lit 1 ((Wh s.parts k).map (PV.int .u8))):=by
 have h8:=Ba.hi
 have hpr:=Ba.prod.2
 have hia:=fun {i:Nat}(hi:i < s.parts.length)=>DJ (ls:=s.parts) hi;have P7:((List.range s.parts.length).map (xK s.parts)).length=s.parts.length:=by simp
 have hdg:Ij s.parts= .rp [.lit 258 ((List.range s.parts.length).map (xK s.parts))] 0:=rfl
 rw[hdg];generalize (List.range s.parts.length).map (xK s.parts)=C at *
 have D7:qd (fun r=>∃ E H,r=(.exit 0,⟨E,H⟩)/\E.get 5= .uq 0 false 1 ((Wh s.parts k).map (PV.int .u8)))
  (ab (ma (oa (Da (fun _=>none) 8) Xf) (na 1 [0,1,5,18,19])) ua ⟨kS (.lit 258 C) s.parts.length 0 k [],[.tok 1 0 false]⟩):=by
  refine wa (Fb (fun i t=>∃ j es,t=⟨kS (.lit 258 C) s.parts.length i j (es.map (PV.int .u8)),[.tok 1 i false]⟩/\0<=j/\j < Na (s.parts.drop i)/\es.length=i/\Wh s.parts k=es++Wh (s.parts.drop i) j)
   s.parts.length (by unfold ua;omega) _ ⟨k,[],rfl,h0,h1,rfl,rfl⟩ ?_ ?_) (fun r h=>h.2)
  ·rintro i t hi ⟨j,es,rfl,hj0,hj1,M8,hs⟩
   have N8:=Ba.parts s.parts[i] (jaa hi)
   have hd:s.parts.drop i=s.parts[i]::s.parts.drop (i+1):=Paa hi
   rw[hd,Na] at hj1;rw[hd,Wh] at hs;have v8:=yf (ls:=s.parts.drop (i+1)) fun x hx=>Ba.parts x (Vab hx)
   have hle:=Fp Ba.parts (i+1)
   have hdv:=QX hj0 v8 hj1;obtain⟨x,q3,q4,q5,_⟩:=vz N8.2 hdv.1 hdv.2.1
   rw[q3,Tac] at hs;have hm:=O0 N8 hdv.1 hdv.2.1 q3
   have hml:=getElem?_lt hm;have Fad:=Fp Ba.parts i
   rw[hd,Na] at Fad;have t3:IntKind.i64.wrap (j.tdiv (Na (s.parts.drop (i+1))))=j.tdiv (Na (s.parts.drop (i+1))):=Aa (by
    have:=hdv.2.2.2.2
    have h5:j.tdiv (Na (s.parts.drop (i+1))) * 1<=j.tdiv (Na (s.parts.drop (i+1))) * Na (s.parts.drop (i+1)):=vac v8 hdv.1
    omega)
   have a1:=hia hi;have a4:=kY (ls:=s.parts) (i:=i);have a5:=U3 (ls:=s.parts) (i:=i);rw[UR hi] at a5;generalize FL s.parts i=R at *
   generalize s.parts[i]=l at *
   have a6:∀ H,ta H 1 (.pv (Wq l)) (j.tdiv (Na (s.parts.drop (i+1))))=some (.pv (.rp [.int .u8 x] 0)):=fun H=>by simp only[ta,Wq];rw[if_pos ⟨trivial,by unfold Ia;rw[haa];omega⟩,Eaa,hm];rfl
   have e1:decide ((i:Int) < (s.parts.length:Int))=true:=Ea (by omega);have t2:=Za hi (by unfold maxLen;omega);have z0:(Na (s.parts.drop (i+1))=0)=False:=by simp;omega
   have s8:=yt (A:=[.tok 1 i false]) (id:=0) (n:=i) (h:= .uq) (nl:=false) (bytes:=1) (es:=es.map (PV.int .u8)) rfl (by simp[M8]) (by unfold eb;omega) (.int .u8 x);rw[fac] at s8;have hbm:(es++[x]).map (PV.int .u8)=es.map (PV.int .u8)++[.int .u8 x]:=by simp
   generalize hpq:Na (s.parts.drop (i+1))=pr at *;generalize hQ:LN _ _ i=QQ;simp -implicitDefEqProofs only[SP,WP,fa,sevalprocAttr,Xf,e1,t2,t3,z0,a1,a4,a5,a6,DK,Wa,s8,na,Ca,AV.cut,qa,za,kS];subst hQ;exact⟨_,es++[x],by rw[hbm],hdv.2.2.1,by rw[hpq];exact hdv.2.2.2.1,by simp[M8],by rw[hs];simp⟩
  ·rintro t ⟨j,es,rfl,hj0,hj1,M8,hs⟩
   rw[vab,Wh,wab] at hs;have e1:decide ((s.parts.length:Int) < (s.parts.length:Int))=false:=Ga (by omega);generalize hQ:(fun r:Ex×St=>r.1.stop=true/\_)=Q;simp -implicitDefEqProofs only[SX,sevalprocAttr,Xf,e1,kS];subst hQ;exact⟨rfl,_,_,rfl,by rw[hs];simp[Tr.aa]⟩
 obtain⟨r,g1,E,H,rfl,g6⟩:=wc D7;have g1':ab (ma (oa (Da (fun _=>none) 8) Xf) (na 1 [0,1,5,18,19])) ua ⟨((((Tr.lf.set 19 (.pv (.int .i64 0))).set 18 (.pv (i64 s.parts.length))).set 5 (.uq 0 false 1 [])).set 1 (.pv (i64 k))).set 0 (.pv (.rp [.lit 258 C] 0)),[.tok 1 0 false]⟩=some (.exit 0,⟨E,H⟩):=g1;have e4:eb s.parts.length 1:=by unfold eb;omega
 have e2:(0<=(s.parts.length:Int))=True:=by simp
 have e5:((0:Int)<=0)=True:=by simp
 simp -implicitDefEqProofs only[xl,SX,sevalprocAttr,cp,DK,Wa,P7,Iaa e4,e2,e5,Db,na,Ca,AV.cut,qa,za,g1',g6,Ql,fresh,Tc,chunk]
def gU(es:List ae):List PV:=(List.range 256).map fun b=> .int .i8 (Dl es b)
theorem OU{es:List ae}{b:Nat}(hb:b < 256)(H:List ba):pa H false 1 (.pv (.rp (gU es) b))=some (.pv (.int .i8 (Dl es b))):=by
 have:(gU es)[b]? =some (.int .i8 (Dl es b)):=by rw[gU,Eaa,Xac hb];rfl
 simp only[pa,Km,saa,if_false,this];rfl
theorem ZV{NX:PV}{l:List (List ae)}(h:Vh 256 NX (l.map bp)){i:Nat}(hi:i < l.length)(H:List ba):ta H 256 (.pv NX) (i:Int)=some (.pv (.rp (gU l[i]) 0)):=by
 rw[h.lit (i:=i) (by simpa using hi)];simp only[ta];rw[if_pos ⟨trivial,by unfold Ia;rw[haa];omega⟩,Daa,Eaa,aaa hi];rfl
theorem rC(H:List ba)(a b c d e f:PV):pa H false 1 (.pv (.rp [a,b,c,d,e,f] 2))=some (.pv c)/\pa H false 1 (.pv (.rp [a,b,c,d,e,f] 3))=some (.pv d)/\pa H false 1 (.pv (.rp [a,b,c,d,e,f] 4))=some (.pv e)/\pa H false 1 (.pv (.rp [a,b,c,d,e,f] 5))=some (.pv f)/\pa H false 1 (.pv (.rp [a,b,c,d,e,f] 0))=some (.pv a)/\pa H false 1 (.pv (.rp [a,b,c,d,e,f] 1))=some (.pv b)/\pa H true 1 (.pv (.rp [a,b,c,d,e,f] 0))=some (.pv (.agg [a])):=⟨rfl,rfl,rfl,rfl,rfl,rfl,rfl⟩
section
variable {T:PV}{ss:List Nb}{l:List (List ae)}(hT:xo T ss l)(ho:∀ e∈l,yj e)
include hT ho
theorem oJ{st b:Int}(hb:0<=b/\b<=255):lg [T,i64 st,u8 b]=some (.mc [i64 (Nd l st b).1,.bool (Nd l st b).2]):=by
 obtain⟨S',NX,DG,RW,rfl,_,hNX,_,_⟩:=hT.ex
 have hrp:=rC (a:=S') (b:=Nk l) (c:=NX) (d:=DG) (e:=RW) (f:=i64 (Aj ss));have l2:=fun H=>(hrp H).1
 have ln:=hNX.len
 rw[haa] at ln;generalize ([S',Nk l,NX,DG,RW,i64 (Aj ss)]:List PV)=R at *
 by_cases h0:st < 0
 ·have hs:Nd l st b=(0,false):=by unfold Nd;rw[if_pos h0]
  have d0:decide (st < 0)=true:=Ea h0;rw[hs];simp -implicitDefEqProofs only[lg,SX,sevalprocAttr,nh,Kq,d0]
 have d0:decide (st < 0)=false:=Ga h0;obtain⟨i,rfl⟩:∃ i:Nat,st=(i:Int):=⟨st.toNat,by omega⟩
 by_cases h1:i < l.length
 ·have d1:decide ((i:Int)>=(l.length:Int))=false:=Ga (by omega)
  have a1:=ZV hNX h1;have hs:Nd l (i:Int) b=match Zg b l[i] with
   |some t=>(t,true)
   |none=>(0,false):=by unfold Nd;rw[kaa h0,Daa,aaa h1] <;> rfl
  have heo:=(ho _ (jaa h1)).Sy
  rw[hs];generalize l[i]=es at *;have H7:(0<=b/\b < ((256:Nat):Int))=True:=Iaa (by omega);have l3:=fun H=>OU (es:=es) (b:=b.toNat) (by omega) H;have hg:Dl es b.toNat=(Zg b es).getD (-2):=by unfold Dl;rw[sac hb.1]
  rw[hg] at l3;have Lai:∀ H (row:List PV),place H b.toNat (.pv (.rp row 0))=some (.pv (.rp row b.toNat)):=fun H row=>by rw[DK,Zaa]
  cases hse:Zg b es with
  |none=>rw[hse] at l3;have z:((-2:Int)== -2)=true:=rfl;have l3:∀ H,pa H false 1 (.pv (.rp (gU es) b.toNat))=some (.pv (.int .i8 (-2))):=l3;simp -implicitDefEqProofs only[lg,SX,sevalprocAttr,nh,Kq,d0,d1,DK,Lai,l2,ln,a1,H7,l3,z]
  |some t=>
   rw[hse] at l3;have l3:∀ H,pa H false 1 (.pv (.rp (gU es) b.toNat))=some (.pv (.int .i8 t)):=l3;obtain⟨x,hx,_,_,hxt⟩:=Ky hse;have hr:=heo x hx;rw[hxt] at hr;have z:(t== -2)=false:=by simp;omega
   have t1:IntKind.i64.wrap t=t:=Aa (by omega)
   simp -implicitDefEqProofs only[lg,SX,sevalprocAttr,nh,Kq,d0,d1,DK,Lai,l2,ln,a1,H7,l3,z,t1]
 ·have d1:decide ((i:Int)>=(l.length:Int))=true:=Ea (by omega)
  have hs:Nd l (i:Int) b=(0,false):=by unfold Nd;rw[kaa h0,Daa,Raa (by omega)]
  rw[hs];simp -implicitDefEqProofs only[lg,SX,sevalprocAttr,nh,Kq,d0,d1,DK,l2,ln]
end
def gL(a b:Int):Int:=if a < b then -1 else if a > b then 1 else 0
theorem pO(a b:Int):rj [i64 a,i64 b]=some (i64 (gL a b)):=by
 have hn:∀ x:Int,Om [i64 x]=some (.bool false):=fun x=>by
  have z:(x != x)=false:=by simp
  simp -implicitDefEqProofs only[Om,SX,sevalprocAttr,Fx,z]
 unfold gL
 by_cases h1:a < b
 ·have d1:decide (a < b)=true:=Ea h1
  rw[if_pos h1];simp -implicitDefEqProofs only[rj,SX,sevalprocAttr,Cl,hn,d1]
 ·have d1:decide (a < b)=false:=Ga h1
  rw[kaa h1]
  by_cases h2:a > b
  ·have d2:decide (a > b)=true:=Ea h2
   rw[if_pos h2];simp -implicitDefEqProofs only[rj,SX,sevalprocAttr,Cl,hn,d1,d2]
  ·have d2:decide (a > b)=false:=Ga h2
   rw[kaa h2];simp -implicitDefEqProofs only[rj,SX,sevalprocAttr,Cl,hn,d1,d2]
theorem yO(call:Sa)(a b c u:Int)(H:List ba):ef call Pj [.pv (.agg [i64 a,i64 b,i64 c]),.pv (i64 u)] H=some (.pv (i64 (gL a u)),H):=by
 have hc:=pO a u;have l0:∀ H,pa H false 1 (.pv (.rp [i64 a,i64 b,i64 c] 0))=some (.pv (i64 a)):=fun H=>rfl;have l1:∀ H,place H 0 (.pv (.rp [i64 a,i64 b,i64 c] 0))=some (.pv (.rp [i64 a,i64 b,i64 c] 0)):=fun H=>rfl;simp -implicitDefEqProofs only[SX,sevalprocAttr,Pj,l0,l1,hc]
def r0(r:List Int):Int:=r.getD 0 0
def r1(r:List Int):Int:=r.getD 1 0
def r2(r:List Int):Int:=r.getD 2 0
theorem I6{r:List Int}(h:r.length=3):r=[r0 r,r1 r,r2 r]:=by
 match r,h with
 | [a,b,c],_=>rfl
section
variable {RW:PV}{D:List (List Int)}(hR:Vh 3 RW (D.map IL))(hD:∀ r∈D,r.length=3)
include hR hD
theorem oB{i:Nat}(hi:i < D.length)(H:List ba):ta H 3 (.pv RW) (i:Int)=some (.pv (.rp [i64 (r0 D[i]),i64 (r1 D[i]),i64 (r2 D[i])] 0)):=by
 rw[hR.lit (i:=i) (by simpa using hi)];simp only[ta];have h3:=I6 (hD _ (jaa hi));rw[if_pos ⟨trivial,by unfold Ia;rw[haa];omega⟩,Daa,Eaa,aaa hi,Haa,Haa]
 congr 4
 show (IL D[i]).cells=_
 unfold IL;generalize D[i]=r at *
 match r,h3 with
 |r,h3=>rw[h3];rfl
variable (hs:∀ i j (h:i < j) (hj:j < D.length),r0 D[i]<=r0 D[j])(hlen:D.length<=32)
include hs hlen
theorem G3{H:List ba}(hH:Wd H)(u:Int):∃ i:Nat,i<=D.length/\(∀ k (hk:k < D.length),k < i->r0 D[k] < u)/\(∀ k (hk:k < D.length),i<=k->u<=r0 D[k])/\
 ef (Da Pe 7) gb [.pv RW,.pv (i64 u),.Ol 41 []] H=some (.pv (.mc [i64 i,.bool (if h:i < D.length then decide (r0 D[i]=u) else false)]),H):=by
 have lR:=hR.len
 rw[haa] at lR;have c41:Pe 41=some Pj:=rfl;have r3:∀ H (x y z:PV),pa H true 3 (.pv (.rp [x,y,z] 0))=some (.pv (.agg [x,y,z])):=fun H x y z=>rfl;have P7:∀ n,AV.cut n deep (.Ol 41 [])=some (.Ol 41 []):=fun n=>rfl
 have D7:=fun (E:Tr)(h0:E.get 0= .pv RW)(h1:E.get 1= .pv (i64 u))(h2:E.get 2= .Ol 41 [])(h8:E.get 8= .pv (i64 D.length))(h9:E.get 9= .pv (i64 0))(h10:E.get 10= .pv (i64 D.length))=>
  dK (call:=Da Pe 7) (b:=Ab) (live:=[0,1,2,8,9,10]) (s:=⟨E,H⟩)
   (Q:=fun r=>∃ E' i,r=(.exit 0,⟨E',H⟩)/\Xe [0,1,2,8] E E'/\E'.get 9= .pv (i64 (i:Nat))/\i<=D.length/\(∀ k (hk:k < D.length),k < i->r0 D[k] < u)/\(∀ k (hk:k < D.length),i<=k->u<=r0 D[k]))
   (fun m t=>Xe [0,1,2,8] E t.env/\t.H=H/\∃ i j:Nat,t.env.get 9= .pv (i64 i)/\t.env.get 10= .pv (i64 j)/\i<=j/\j<=D.length/\m=j - i/\(∀ k (hk:k < D.length),k < i->r0 D[k] < u)/\(∀ k (hk:k < D.length),j<=k->u<=r0 D[k]))
   D.length (by unfold ua;omega)
   (Th.all rfl (hH _ (paa _)) (Fit.cons h0 Qa (.cons h1 Qa (.cons h2 (P7 _) (.cons h8 Qa (.cons h9 Qa (.cons h10 Qa (.nil _ _))))))) fun E' hE=>⟨Xe.sub hE rfl,rfl,0,D.length,by rw[hE 9 (by simp),h9];rfl,by rw[hE 10 (by simp),h10],by omega,by omega,by omega,fun k _ h=>by omega,fun k hk h=>by omega⟩)
   (by
    rintro m ⟨E1,H1⟩ ⟨k1,k2,i,j,k9,K9,hij,hj,hm,ha,hb⟩;simp only at k1 k2 k9 K9;replace k2:=k2.symm
    subst k2
    by_cases E7:i < j
    ·have e1:decide ((i:Int) < (j:Int))=true:=Ea (by omega)
     have g0:=(k1 0 (by simp)).trans h0
     have g1:=(k1 1 (by simp)).trans h1
     have g2:=(k1 2 (by simp)).trans h2
     obtain⟨h,hh⟩:∃ h,h=(i+j) / 2:=⟨_,rfl⟩;have hhD:h < D.length:=by omega
     have a1:=oB hR hD hhD;have hc:=yO (Da Pe 6) (r0 D[h]) (r1 D[h]) (r2 D[h]) u H;have w1:IntKind.i64.wrap ((i:Int)+(j:Int))=(i:Int)+j:=Aa (by omega)
     have w2:IntKind.u64.wrap ((i:Int)+(j:Int))=(i:Int)+j:=by unfold IntKind.wrap;simp[IntKind.signed,IntKind.bits];omega
     have w3:((i:Int)+(j:Int)).fdiv (2 ^ min 1 IntKind.u64.bits)=(h:Int):=by
      show ((i:Int)+(j:Int)).fdiv 2=_
      rw[Int.fdiv_eq_ediv_of_nonneg _ (by omega)];omega
     have w4:IntKind.i64.wrap (h:Int)=(h:Int):=Aa (by omega)
     have w5:IntKind.i64.wrap ((h:Int)+1)=((h+1:Nat):Int):=sg (by omega)
     have z0:((1:Int) < 0)=False:=by simp
     generalize hQ:RQ _ _ _ _=Q
     by_cases hcu:r0 D[h] < u
     ·have hcm:gL (r0 D[h]) u= -1:=by unfold gL;rw[if_pos hcu]
      have z1:decide ((-1:Int) < 0)=true:=rfl;rw[hcm] at hc;simp -implicitDefEqProofs only[SX,sevalprocAttr,Ab,k9,K9,e1,g0,g1,g2,a1,r3,w1,w2,w3,w4,w5,z0,c41,hc,z1];subst hQ;rw[Un];generalize W7:(Tr.set _ 9 _:Tr)=E2;have kk:Xe [0,1,2,8] E E2:=by
       rw[<- W7]
       repeat refine Xe.set ?_ rfl
       exact k1
      have z9:E2.get 9= .pv (i64 (h+1:Nat)):=by rw[<- W7];simp[Tr.aa]
      have z10:E2.get 10= .pv (i64 j):=by rw[<- W7];simp[Tr.aa,K9]
      exact Th.all rfl (hH _ (paa _)) (Fit.sub (.cons z9 Qa (.cons z10 Qa (Fit.je (l:=[0,1,2,8]) (.cons h0 Qa (.cons h1 Qa (.cons h2 (P7 _) (.cons h8 Qa (.nil _ _))))) kk))) rfl) fun E' hE=>⟨j - (h+1),by omega,kk.trans (Xe.sub hE rfl),rfl,h+1,j,by rw[hE 9 (by simp),z9],by rw[hE 10 (by simp),z10],by omega,hj,rfl,fun k hk hkh=>by
       rcases Qaa k h with h5 | h5
       ·exact Int.lt_of_le_of_lt (hs k h h5 hhD) hcu
       ·obtain rfl:k=h:=by omega
        exact hcu,hb⟩
     ·have z1:decide (gL (r0 D[h]) u < 0)=false:=Ga (by unfold gL;rw[kaa hcu];split <;> omega)
      simp -implicitDefEqProofs only[SX,sevalprocAttr,Ab,k9,K9,e1,g0,g1,g2,a1,r3,w1,w2,w3,w4,w5,z0,c41,hc,z1];subst hQ;rw[Un];generalize W7:(Tr.set _ 10 _:Tr)=E2;have kk:Xe [0,1,2,8] E E2:=by
       rw[<- W7]
       repeat refine Xe.set ?_ rfl
       exact k1
      have z9:E2.get 9= .pv (i64 i):=by rw[<- W7];simp[Tr.aa,k9]
      have z10:E2.get 10= .pv (i64 h):=by rw[<- W7];simp[Tr.aa]
      exact Th.all rfl (hH _ (paa _)) (Fit.sub (.cons z9 Qa (.cons z10 Qa (Fit.je (l:=[0,1,2,8]) (.cons h0 Qa (.cons h1 Qa (.cons h2 (P7 _) (.cons h8 Qa (.nil _ _))))) kk))) rfl) fun E' hE=>⟨h - i,by omega,kk.trans (Xe.sub hE rfl),rfl,i,h,by rw[hE 9 (by simp),z9],by rw[hE 10 (by simp),z10],by omega,by omega,rfl,ha,fun k hk hkh=>by
       rcases Qaa h k with h5 | h5
       ·exact Int.le_trans (Int.not_lt.1 hcu) (hs h k h5 hk)
       ·obtain rfl:k=h:=by omega
        omega⟩
    ·obtain rfl:i=j:=by omega
     have e1:decide ((i:Int) < (i:Int))=false:=Ga (by omega);generalize hQ:RQ _ _ _ _=Q;simp -implicitDefEqProofs only[SX,sevalprocAttr,Ab,k9,K9,e1];subst hQ;exact⟨_,i,rfl,by repeat refine Xe.set ?_ rfl
                      exact k1,by simp[Tr.aa,k9],hj,ha,hb⟩)
 have key:qd (fun r=>∃ i:Nat,i<=D.length/\(∀ k (hk:k < D.length),k < i->r0 D[k] < u)/\(∀ k (hk:k < D.length),i<=k->u<=r0 D[k])/\r=(.pv (.mc [i64 i,.bool (if h:i < D.length then decide (r0 D[i]=u) else false)]),H)) (ef (Da Pe 7) gb [.pv RW,.pv (i64 u),.Ol 41 []] H):=by
  generalize hQ:(fun r:AV×List ba=>∃ i:Nat,_)=Q;simp -implicitDefEqProofs only[SX,sevalprocAttr,gb,lR];generalize W7:(Tr.set _ 10 _:Tr)=E;refine wa (D7 E (by rw[<- W7];simp[Tr.aa]) (by rw[<- W7];simp[Tr.aa]) (by rw[<- W7];simp[Tr.aa]) (by rw[<- W7];simp[Tr.aa]) (by rw[<- W7];simp[Tr.aa]) (by rw[<- W7];simp[Tr.aa])) ?_;have h0:E.get 0= .pv RW:=by rw[<- W7];simp[Tr.aa]
  have h1:E.get 1= .pv (i64 u):=by rw[<- W7];simp[Tr.aa]
  have h2:E.get 2= .Ol 41 []:=by rw[<- W7];simp[Tr.aa]
  have h8:E.get 8= .pv (i64 D.length):=by rw[<- W7];simp[Tr.aa]
  rintro r ⟨_,E',i,rfl,k1,k9,hi,ha,hb⟩;have g0:=(k1 0 (by simp)).trans h0
  have g1:=(k1 1 (by simp)).trans h1
  have g2:=(k1 2 (by simp)).trans h2
  have g8:=(k1 8 (by simp)).trans h8
  by_cases E7:i < D.length
  ·have e1:decide ((i:Int) < (D.length:Int))=true:=Ea (by omega)
   have a1:=oB hR hD E7;have hc:=yO (Da Pe 6) (r0 D[i]) (r1 D[i]) (r2 D[i]) u H;have e9:=hb i E7 (paa _);have z:(gL (r0 D[i]) u==0)=decide (r0 D[i]=u):=by
    unfold gL;rw[kaa (by omega)]
    by_cases h5:r0 D[i] > u
    ·rw[if_pos h5,Ga (by omega)];rfl
    ·rw[kaa h5,Ea (by omega)];rfl
   simp -implicitDefEqProofs only[SX,sevalprocAttr,k9,g0,g1,g2,g8,e1,a1,r3,c41,hc,z];subst hQ;exact⟨i,hi,ha,hb,by rw[dif_pos E7]⟩
  ·have e1:decide ((i:Int) < (D.length:Int))=false:=Ga (by omega)
   simp -implicitDefEqProofs only[SX,sevalprocAttr,k9,g0,g1,g2,g8,e1];subst hQ;exact⟨i,hi,ha,hb,by rw[dif_neg E7]⟩
 obtain⟨r,h1,i,h2,h3,h4,rfl⟩:=wc key;exact⟨i,h2,h3,h4,h1⟩
end
theorem PU{ss:List Nb}{r:List Int}(h:r∈Zj ss):∃ j,∃ hj:j < ss.length,r=Mx ss[j] j:=by
 have:=(Hs ss).mem_iff.1 h
 unfold uj at this;obtain⟨j,hj,rfl⟩:=fab.1 this
 have hj:=Oac.1 hj
 exact⟨j,hj,by rw[taa,aaa hj];rfl⟩
theorem eV{ss:List Nb}{j:Nat}(hj:j < ss.length):Mx ss[j] j∈Zj ss:=by
 refine (Hs ss).mem_iff.2 ?_
 unfold uj;refine fab.2 ⟨j,Oac.2 hj,?_⟩
 rw[taa,aaa hj];rfl
theorem QK(ss:List Nb)(i j:Nat)(h:i < j)(hj:j < (Zj ss).length):r0 (Zj ss)[i]<=r0 (Zj ss)[j]:=by
 obtain⟨h1,h2,h3⟩:=tC 3 0 (uj ss ss.length).toArray
 have hj':j < (uj ss ss.length).toArray.size:=by rw[<- h1];simpa[Zj] using hj
 have h4:=h3 i j h hj';have key:∀ k (hk:k < (Zj ss).length),Jy 3 0 (Gq 3 0 (uj ss ss.length).toArray)[k]! =r0 (Zj ss)[k]:=by
  intro k hk;have hk':k < (Gq 3 0 (uj ss ss.length).toArray).size:=by simpa[Zj] using hk
  rw[getElem!_pos _ k hk'];have e:(Gq 3 0 (uj ss ss.length).toArray)[k]=(Zj ss)[k]:=by simp[Zj]
  have h3:=BD (jaa hk);rw[e];generalize (Zj ss)[k]=r at *;unfold Jy r0;rw[if_pos h3]
 rw[key i (by omega),key j hj] at h4;omega
theorem JO(ss:List Nb):(Zj ss).Nodup:=by
 refine (Hs ss).nodup_iff.2 ?_
 unfold uj List.Nodup
 rw[List.pairwise_map];refine List.Pairwise.imp ?_ (List.nodup_range (n:=ss.length))
 intro i j h e;unfold Mx at e;injection e with _ e
 injection e with _ e
 injection e with e _
 omega
def has(s:Nb)(u:Int):Prop:=s.first<=u/\u < s.first+Na s.parts
theorem WK{ss:List Nb}(Ba:Xb ss){i j:Nat}(hi:i < ss.length)(hj:j < ss.length){u:Int}(h1:has ss[i] u)(h2:has ss[j] u):i=j:=by
 have s8:=Ba.apart
 rw[Vac] at s8;have e1:=(Ba.dt _ (jaa hi)).yi
 have e2:=(Ba.dt _ (jaa hj)).yi
 unfold has at h1 h2;rcases Nat.lt_trichotomy i j with h | h | h
 ·exact absurd (s8 i j hi hj h u) (fun hn=>hn ⟨by omega,by omega⟩)
 ·exact h
 ·exact absurd (s8 j i hj hi h u) (fun hn=>hn ⟨by omega,by omega⟩)
section
variable {T:PV}{ss:List Nb}{l:List (List ae)}(hT:xo T ss l)(Ba:Xb ss)
include hT Ba
theorem mW(u:Int):(∃ j,∃ hj:j < ss.length,has ss[j] u/\Te [T,i64 u]=some (.mc [.agg [i64 ss[j].first,i64 (ss[j].first+Na ss[j].parts - 1),i64 j],.bool true]))\/
 ((∀ s∈ss,¬has s u)/\Te [T,i64 u]=some (.mc [.agg [i64 0,i64 0,i64 0],.bool false])):=by
 obtain⟨S',NX,DG,RW,rfl,_,_,_,hRW⟩:=hT.ex
 have hrp:=rC (a:=S') (b:=Nk l) (c:=NX) (d:=DG) (e:=RW) (f:=i64 (Aj ss));have l4:=fun H=>(hrp H).2.2.1
 generalize ([S',Nk l,NX,DG,RW,i64 (Aj ss)]:List PV)=R at *;obtain⟨D,hRW,hDr,hDm,hDh,hDl,hDs,hnd⟩:∃ D:List (List Int),Vh 3 RW (D.map IL)/\(∀ r∈D,r.length=3)/\(∀ r∈D,∃ j,∃ hj:j < ss.length,r=Mx ss[j] j)/\(∀ j (hj:j < ss.length),Mx ss[j] j∈D)/\D.length=ss.length/\(∀ i j (h:i < j) (hj:j < D.length),r0 D[i]<=r0 D[j])/\D.Nodup:=
  ⟨Zj ss,hRW,fun r hr=>BD hr,fun r hr=>PU hr,fun j hj=>eV hj,CI ss,QK ss,JO ss⟩
 have h32:=Ba.len
 have hg:Wd [ba.box [.pv (i64 0),.pv (i64 0),.pv (i64 0)]]:=fun n _ o ho=>by rw[Hab] at ho;subst ho;exact Bs n [i64 0,i64 0,i64 0]
 obtain⟨i,hi,ha,hb,M7⟩:=G3 hRW hDr hDs (by omega) hg u;have c40:Pe 40=some gb:=rfl;have b0:∀ a b c d e f,Ha [ba.box [.pv a,.pv b,.pv c]] 3 (.ptr 0 0) (.pv (.agg [.int .i64 d,.int .i64 e,.int .i64 f]))=some [.box [.pv (i64 d),.pv (i64 e),.pv (i64 f)]]:=fun a b c d e f=>rfl;have ld:∀ a b c,pa [ba.box [.pv a,.pv b,.pv c]] true 3 (.ptr 0 0)=some (.pv (.agg [a,b,c])):=fun a b c=>rfl;have r3:∀ H (x y z:PV),pa H true 3 (.pv (.rp [x,y,z] 0))=some (.pv (.agg [x,y,z])):=fun H x y z=>rfl;have r31:∀ H (x y z:PV),pa H false 1 (.pv (.rp [x,y,z] 1))=some (.pv y):=fun H x y z=>rfl;have fin:∀ k (hk:k < D.length),(∀ m (hm:m < D.length),k < m->u < r0 D[m])->r0 D[k]<=u->
  ((u<=r1 D[k]->∃ j,∃ hj:j < ss.length,has ss[j] u/\PV.agg [i64 (r0 D[k]),i64 (r1 D[k]),i64 (r2 D[k])]= .agg [i64 ss[j].first,i64 (ss[j].first+Na ss[j].parts - 1),i64 j])/\(¬ u<=r1 D[k]->∀ s∈ss,¬has s u)):=by
  intro k hk hgt hle;obtain⟨j',hj',R8⟩:=hDm _ (jaa hk);constructor
  ·intro h1
   rw[R8] at h1 hle ⊢;refine⟨j',hj',⟨hle,?_⟩,rfl⟩;have:u<=ss[j'].first+Na ss[j'].parts - 1:=h1
   omega
  ·intro h1 s hs hh
   obtain⟨j,hj,rfl⟩:=qab hs;obtain⟨m,hm,hmr⟩:=qab (hDh j hj);have hh':=hh;unfold has at hh';have hp:=yf (Ba.dt _ (jaa hj')).parts
   rcases Qaa k m with h | h
   ·have:=hgt m hm h
    rw[hmr] at this;have:u < ss[j].first:=this
    omega
   ·have h3:r0 D[m]<=r0 D[k]:=by
     rcases Qaa m k with h5 | h5
     ·exact hDs m k h5 hk
     ·have:m=k:=by omega
      subst this;exact Lac _
    rw[hmr] at h3;rw[R8] at h3 hle h1;have h3:ss[j].first<=ss[j'].first:=h3
    have hle:ss[j'].first<=u:=hle
    have e:j=j':=WK Ba hj hj' (u:=ss[j'].first) ⟨h3,by omega⟩ ⟨Lac _,by omega⟩;subst e;have:¬u<=ss[j].first+Na ss[j].parts - 1:=h1
    omega
 have step:∀ (k:Nat)(hk:k < D.length),(∀ q (hq:q < D.length),k < q->u < r0 D[q])->r0 D[k]<=u->∀ R0:PV,
  (u<=r1 D[k]->R0= .mc [.agg [i64 (r0 D[k]),i64 (r1 D[k]),i64 (r2 D[k])],.bool true])->(¬ u<=r1 D[k]->R0= .mc [.agg [i64 0,i64 0,i64 0],.bool false])->
  (∃ j,∃ hj:j < ss.length,has ss[j] u/\R0= .mc [.agg [i64 ss[j].first,i64 (ss[j].first+Na ss[j].parts - 1),i64 j],.bool true])\/((∀ s∈ss,¬has s u)/\R0= .mc [.agg [i64 0,i64 0,i64 0],.bool false]):=by
  intro k hk h1 h2 R0 h3 h4;obtain⟨f1,f2⟩:=fin k hk h1 h2
  by_cases hc:u<=r1 D[k]
  ·obtain⟨j,hj,g1,g2⟩:=f1 hc
   exact .inl ⟨j,hj,g1,by rw[h3 hc,g2]⟩
  ·exact .inr ⟨f2 hc,h4 hc⟩
 suffices key:∃ R0,Te [.rp R 0,i64 u]=some R0/\((∃ j,∃ hj:j < ss.length,has ss[j] u/\R0= .mc [.agg [i64 ss[j].first,i64 (ss[j].first+Na ss[j].parts - 1),i64 j],.bool true])\/((∀ s∈ss,¬has s u)/\R0= .mc [.agg [i64 0,i64 0,i64 0],.bool false])) by
  obtain⟨R0,k1,⟨j,hj,k2,rfl⟩ | ⟨k2,rfl⟩⟩:=key
  ·exact .inl ⟨j,hj,k2,k1⟩
  ·exact .inr ⟨k2,k1⟩
 by_cases his:∃ h:i < D.length,r0 D[i]=u
 ·obtain⟨h,he⟩:=his
  rw[dif_pos h,Ea he] at M7;have hgt:∀ q (hq:q < D.length),i < q->u < r0 D[q]:=by
   intro q hq hiq;have h3:=hDs i q hiq hq;rcases Int.lt_or_le u (r0 D[q]) with h5 | h5
   ·exact h5
   ·exfalso
    obtain⟨j,hj,hr⟩:=hDm _ (jaa h);obtain⟨j',hj',R8⟩:=hDm _ (jaa hq);have hp:=yf (Ba.dt _ (jaa hj)).parts
    have hp':=yf (Ba.dt _ (jaa hj')).parts
    have e1:ss[j].first=u:=by rw[hr] at he;exact he
    have e2:ss[j'].first<=u:=by rw[R8] at h5;exact h5
    have e3:u<=ss[j'].first:=by rw[R8,he] at h3;exact h3
    have:j=j':=WK Ba hj hj' (u:=u) ⟨by omega,by omega⟩ ⟨by omega,by omega⟩;subst this;have:=(List.getElem_inj hnd).1 (hr.trans R8.symm)
    omega
  have a1:=oB hRW hDr h;have z1:decide ((i:Int) < 0)=false:=Ga (by omega);refine⟨_,?_,step i h hgt (by omega) (if u<=r1 D[i] then .mc [.agg [i64 (r0 D[i]),i64 (r1 D[i]),i64 (r2 D[i])],.bool true] else .mc [.agg [i64 0,i64 0,i64 0],.bool false]) (fun h=>by rw[if_pos h]) (fun h=>by rw[kaa h])⟩
  by_cases hc:u<=r1 D[i]
  ·have z2:decide (u > r1 D[i])=false:=Ga (by omega)
   rw[if_pos hc];simp -implicitDefEqProofs only[Te,SX,sevalprocAttr,Ih,Kq,DK,l4,c40,M7,z1,a1,z2,r31,r3,b0,ld]
  ·have z2:decide (u > r1 D[i])=true:=Ea (by omega)
   rw[kaa hc];simp -implicitDefEqProofs only[Te,SX,sevalprocAttr,Ih,Kq,DK,l4,c40,M7,z1,a1,z2,r31,r3,b0,ld]
 ·have hf:(if h:i < D.length then decide (r0 D[i]=u) else false)=false:=by
   by_cases h:i < D.length
   ·rw[dif_pos h];exact Ga fun e=>his ⟨h,e⟩
   ·rw[dif_neg h]
  rw[hf] at M7;have w1:IntKind.i64.wrap ((i:Int) - 1)=(i:Int) - 1:=Aa (by omega)
  cases i with
  |zero=>
   have z1:decide ((-1:Int) < 0)=true:=rfl;have w1:IntKind.i64.wrap (-1)= -1:=Aa (by decide)
   have M7:ef (Da Pe 7) gb [.pv RW,.pv (i64 u),.Ol 41 []] [.box [.pv (i64 0),.pv (i64 0),.pv (i64 0)]]=some (.pv (.mc [i64 0,.bool false]),[.box [.pv (i64 0),.pv (i64 0),.pv (i64 0)]]):=M7;refine⟨.mc [.agg [i64 0,i64 0,i64 0],.bool false],?_,.inr ⟨fun s hs hh=> ?_,rfl⟩⟩
   ·simp -implicitDefEqProofs only[Te,SX,sevalprocAttr,Ih,Kq,DK,l4,c40,M7,w1,z1,b0,ld]
   ·obtain⟨j,hj,rfl⟩:=qab hs
    obtain⟨m,hm,hmr⟩:=qab (hDh j hj);have h6:=hb m hm (Jac _);have J7:r0 D[m]≠u:=by
     intro e;have h7:=hb 0 (by omega) (paa _);have h8:r0 D[0]<=r0 D[m]:=by
      rcases Sac m with h9 | h9
      ·subst h9;exact Lac _
      ·exact hDs 0 m h9 hm
     exact his ⟨by omega,by omega⟩
    rw[hmr] at h6 J7;have h6:u<=ss[j].first:=h6
    have J7:ss[j].first≠u:=J7
    unfold has at hh;omega
  |succ i=>
   have h:i < D.length:=by omega
   have w2:((i+1:Nat):Int) - 1=(i:Int):=by omega
   rw[w2] at w1;have z1:decide ((i:Int) < 0)=false:=Ga (by omega);have a1:=oB hRW hDr h;have E7:=ha i h (by omega);have hgt:∀ q (hq:q < D.length),i < q->u < r0 D[q]:=by
    intro q hq hiq;have h6:=hb q hq (by omega);rcases Int.lt_or_le u (r0 D[q]) with h5 | h5
    ·exact h5
    ·exfalso
     have h7:=hb (i+1) (by omega) (paa _);have h8:r0 D[i+1]<=r0 D[q]:=by
      rcases Qaa (i+1) q with h9 | h9
      ·exact hDs (i+1) q h9 hq
      ·have:i+1=q:=by omega
       subst this;exact Lac _
     exact his ⟨by omega,by omega⟩
   refine⟨_,?_,step i h hgt (by omega) (if u<=r1 D[i] then .mc [.agg [i64 (r0 D[i]),i64 (r1 D[i]),i64 (r2 D[i])],.bool true] else .mc [.agg [i64 0,i64 0,i64 0],.bool false]) (fun h=>by rw[if_pos h]) (fun h=>by rw[kaa h])⟩
   by_cases hc:u<=r1 D[i]
   ·have z2:decide (u > r1 D[i])=false:=Ga (by omega)
    rw[if_pos hc];simp -implicitDefEqProofs only[Te,SX,sevalprocAttr,Ih,Kq,DK,l4,c40,M7,w1,w2,z1,a1,z2,r31,r3,b0,ld]
   ·have z2:decide (u > r1 D[i])=true:=Ea (by omega)
    rw[kaa hc];simp -implicitDefEqProofs only[Te,SX,sevalprocAttr,Ih,Kq,DK,l4,c40,M7,w1,w2,z1,a1,z2,r31,r3,b0,ld]
end
def EY(u:Int):List Nb->Option (List Int)
 | []=>none
 |s::r=>if s.first<=u/\u < s.first+Na s.parts then some (Wh s.parts (u - s.first)) else EY u r
theorem mN{u:Int}:∀ {ss:List Nb}{b:List Int},(∀ s∈ss,Be s)->EY u ss=some b->∃ s∈ss,s.first<=u/\u < s.first+Na s.parts/\b=Wh s.parts (u - s.first)/\Mi s b=some (u - s.first)/\(∀ x∈b,0<=x/\x<=255)/\b≠[]
 |s::r,b,h,he=>by
  rw[EY] at he
  split at he
  ·next hc=>
   injection he with he;subst he
   have hs:=h s (by simp);obtain⟨h1,h2,h3⟩:=Wy s.parts (u - s.first) 0 hs.parts (by omega) (by omega)
   refine⟨s,by simp,hc.1,hc.2,rfl,?_,h3,?_⟩
   ·unfold Mi;rw[if_pos h2,h1,Int.zero_add]
   ·intro h4;rw[h4] at h2;have:=hs.lo;simp at h2;omega
  ·obtain⟨s',h1,h2⟩:=mN (fun x hx=>h x (by simp[hx])) he
   exact⟨s',by simp[h1],h2⟩
theorem uS{u:Int}:∀ {ss:List Nb},(∀ s∈ss,¬has s u)->EY u ss=none
 | [],_=>rfl
 |s::ss,h=>by have h1:=h s (by simp);unfold has at h1;rw[EY,kaa h1];exact uS fun x hx=>h x (by simp[hx])
theorem R4{u:Int}{ss:List Nb}(Ba:Xb ss){j:Nat}(hj:j < ss.length)(h:has ss[j] u):EY u ss=some (Wh ss[j].parts (u - ss[j].first)):=by
 have key:∀ (l:List Nb)(j:Nat)(hj:j < l.length),(∀ i (hi:i < l.length),has l[i] u->i=j)->has l[j] u->EY u l=some (Wh l[j].parts (u - l[j].first)):=by
  intro l
  induction l with
  |nil=>intro j hj;simp at hj
  |cons s l ih=>
   intro j hj S7 hh;rw[EY];cases j with
   |zero=>rw[if_pos (show s.first<=u/\u < s.first+Na s.parts from hh)];rfl
   |succ j=>rw[kaa (fun hc:s.first<=u/\u < s.first+Na s.parts=>by have:=S7 0 (by simp) hc;omega)];exact ih j (by simpa using hj) (fun i hi hx=>by have:=S7 (i+1) (by simpa using hi) hx;omega) hh
 exact key ss j hj (fun i hi hx=>WK Ba hi hj hx h) h
section
variable {T:PV}{ss:List Nb}{l:List (List ae)}(hT:xo T ss l)(Ba:Xb ss)
include hT Ba
theorem yW(u:Int):tj [T,i64 u]=some (match EY u ss with | some b=> .mc [.lit 1 (b.map u8),.bool true] | none=> .mc [.ga,.bool false]):=by
 have K7:=mW hT Ba u;obtain⟨S',NX,DG,RW,rfl,_,_,hDG,_⟩:=hT.ex
 have hrp:=rC (a:=S') (b:=Nk l) (c:=NX) (d:=DG) (e:=RW) (f:=i64 (Aj ss));have l3:=fun H=>(hrp H).2.1
 generalize ([S',Nk l,NX,DG,RW,i64 (Aj ss)]:List PV)=R at *;have st:∀ a b c,Ha [ba.box [.pv (i64 0),.pv (i64 0),.pv (i64 0)]] 3 (.ptr 0 0) (.pv (.agg [i64 a,i64 b,i64 c]))=some [.box [.pv (i64 a),.pv (i64 b),.pv (i64 c)]]:=fun a b c=>rfl;rcases K7 with⟨j,hj,hh,hr⟩ | ⟨hn,hr⟩
 ·rw[R4 Ba hj hh]
  have hs:=Ba.dt _ (jaa hj)
  have hh':=hh;unfold has at hh';have hun:=DF hs (k:=u - ss[j].first) (by omega) (by omega);have hf0:=hs.f0
  have hl:=hs.yi
  have S9:=hs.last
  have a1:∀ H,ta H 1 (.pv DG) (j:Int)=some (.pv (.rp [Ij ss[j].parts] 0)):=fun H=>by rw[hDG.lit (i:=j) (by simpa using hj)];simp only[ta];rw[if_pos ⟨trivial,by unfold Ia;rw[haa];omega⟩,Daa,Eaa,aaa hj];rfl
  generalize ss[j]=s at *;have w1:IntKind.i64.wrap (u - s.first)=u - s.first:=Aa (by omega)
  have p0:∀ a b c d,place [ba.box [.pv a,.pv b,.pv c]] d (.ptr 0 0)=some (.ptr 0 (0+d)):=fun a b c d=>rfl;have q2:∀ a b c,pa [ba.box [.pv a,.pv b,.pv c]] false 1 (.ptr 0 2)=some (.pv c):=fun a b c=>rfl;have q0:∀ a b c,pa [ba.box [.pv a,.pv b,.pv c]] false 1 (.ptr 0 0)=some (.pv a):=fun a b c=>rfl;simp -implicitDefEqProofs only[tj,SX,sevalprocAttr,Tl,hr,st,DK,l3,p0,q2,q0,a1,Wa,w1,hun]
 ·rw[uS hn]
  simp -implicitDefEqProofs only[tj,SX,sevalprocAttr,Tl,hr,st]
def Gu(bs:List Int):List Nb->Option Int
 | []=>none
 |s::ss=>match Mi s bs with
  |some k=>some (s.first+k)
  |none=>Gu bs ss
omit hT Ba in
theorem cU{bs:List Int}{ss:List Nb}{i:Nat}(hi:i < ss.length):Gu bs (ss.drop i)=match Mi ss[i] bs with | some k=>some (ss[i].first+k) | none=>Gu bs (ss.drop (i+1)):=by
 rw[Paa hi,Gu]
theorem aY{B:PV}{bs:List Int}(hB:lk B bs):Bh [T,B]=some (match Gu bs ss with | some v=> .mc [i64 v,.bool true] | none=> .mc [i64 0,.bool false]):=by
 obtain⟨S',NX,DG,RW,rfl,hS',_,hDG,_⟩:=hT.ex
 have hrp:=rC (a:=S') (b:=Nk l) (c:=NX) (d:=DG) (e:=RW) (f:=i64 (Aj ss));have l3:=fun H=>(hrp H).2.1
 have l0:=fun H=>(hrp H).2.2.2.2.1
 generalize ([S',Nk l,NX,DG,RW,i64 (Aj ss)]:List PV)=R at *;have lD:=hDG.len
 rw[haa] at lD;have h32:=Ba.len
 have hB1:=hB.one
 obtain⟨D,hD⟩:∃ D,D=Gu bs ss:=⟨_,rfl⟩;rw[<- hD];have D7:=fun (E:Tr)(h0:E.get 0= .pv (.rp R 0))(h1:E.get 1= .pv B)(h15:E.get 15= .pv DG)(h16:E.get 16= .pv (i64 ss.length))(h17:E.get 17= .pv (i64 0))=>
  Hr (call:=Da (fun _=>none) 8) (b:=og) (live:=[0,1,15,16,17]) (s:=⟨E,[]⟩) (Q:=fun r=>(∃ E',r=(.exit 0,⟨E',[]⟩)/\D=none)\/∃ E' v,r=(.ret,⟨E',[]⟩)/\E'.get 4= .pv (i64 v)/\E'.get 5= .pv (.bool true)/\D=some v)
   (fun i t=>Xe [0,1,15,16] E t.env/\t.env.get 17= .pv (i64 i)/\t.H=[]/\D=Gu bs (ss.drop i)) ss.length (by unfold ua;omega)
   (Th.all rfl (by simp) (Fit.cons h0 Qa (.cons h1 Qa (.cons h15 Qa (.cons h16 Qa (.cons h17 Qa (.nil _ _)))))) fun E' hE=>⟨Xe.sub hE rfl,by rw[hE 17 (by simp),h17];rfl,rfl,hD⟩)
   (by
    rintro i ⟨E1,H1⟩ hi ⟨k1,k2,k3,k5⟩;simp only at k1 k2 k3;subst k3;have g0:=(k1 0 (by simp)).trans h0
    have g1:=(k1 1 (by simp)).trans h1
    have g15:=(k1 15 (by simp)).trans h15
    have g16:=(k1 16 (by simp)).trans h16
    have hs:=Ba.dt _ (jaa hi)
    have hrk:=qL hB hs;rw[cU hi] at k5;have hdc:(Ij ss[i].parts).cells=[Ij ss[i].parts]:=rfl
    have a1:∀ H,ta H 1 (.pv DG) (i:Int)=some (.pv (.rp [Ij ss[i].parts] 0)):=fun H=>by rw[hDG.lit (i:=i) (by simpa using hi)];simp only[ta];rw[if_pos ⟨trivial,by unfold Ia;rw[haa];omega⟩,Daa,Eaa,aaa hi];rfl
    have a2:∀ H,ta H 2 (.pv S') (i:Int)=some (.pv (.rp [.lit 1 (ss[i].parts.map Oe),i64 ss[i].first] 0)):=fun H=>by rw[hS'.lit (i:=i) (by simpa using hi)];simp only[ta];rw[if_pos ⟨trivial,by unfold Ia;rw[haa];omega⟩,Daa,Eaa,aaa hi];rfl
    have hrb:=fun k hk=>BN (b:=bs) (k:=k) hs hk;generalize ss[i]=s at *;have hf0:=hs.f0
    have e1:decide ((i:Int) < (ss.length:Int))=true:=Ea (by omega);have t1:IntKind.i64.wrap ((i:Int)+1)=((i+1:Nat):Int):=sg (by omega)
    generalize hQ:RQ _ _ _ _=Q;cases hrs:Mi s bs with
    |some k=>
     rw[hrs] at k5;have hr1:=hrk.1 k hrs
     have hb:=hrb k hrs;have w1:IntKind.i64.wrap (s.first+k)=s.first+k:=Aa (by omega)
     simp -implicitDefEqProofs only[SX,sevalprocAttr,og,g0,g1,g15,g16,k2,e1,a1,a2,Wa,DK,l0,ik,hr1,w1];subst hQ;exact .inr ⟨_,_,rfl,by simp[Tr.aa],by simp[Tr.aa],k5⟩
    |none=>
     rw[hrs] at k5;have hr1:=hrk.2 hrs
     simp -implicitDefEqProofs only[SX,sevalprocAttr,og,g0,g1,g15,g16,k2,e1,a1,Wa,hr1,t1];subst hQ;rw[Un];generalize W7:(Tr.set _ 17 _:Tr)=E2;have kk:Xe [0,1,15,16] E E2:=by
      rw[<- W7]
      repeat refine Xe.set ?_ rfl
      exact k1
     have z17:E2.get 17= .pv (i64 (i+1:Nat)):=by rw[<- W7];simp[Tr.aa]
     exact Th.all rfl (by simp) (Fit.sub (.cons z17 Qa (Fit.je (l:=[0,1,15,16]) (.cons h0 Qa (.cons h1 Qa (.cons h15 Qa (.cons h16 Qa (.nil _ _))))) kk)) rfl) fun E' hE=>⟨kk.trans (Xe.sub hE rfl),by rw[hE 17 (by simp),z17],rfl,k5⟩)
   (by
    rintro⟨E1,H1⟩ ⟨k1,k2,k3,k5⟩;simp only at k1 k2 k3;subst k3;have g16:=(k1 16 (by simp)).trans h16
    rw[vab] at k5;have e1:decide ((ss.length:Int) < (ss.length:Int))=false:=Ga (by omega);generalize hQ:(fun r:Ex×St=>r.1.stop=true/\_)=Q;simp -implicitDefEqProofs only[SX,sevalprocAttr,og,g16,k2,e1];subst hQ;exact⟨rfl,.inl ⟨_,rfl,k5⟩⟩)
 refine Xk ?_;generalize hQ:(fun x:PV=>x=_)=Q;simp -implicitDefEqProofs only[Bh,SX,sevalprocAttr,dm,Kq,DK,l3,lD];generalize W7:(Tr.set _ 17 _:Tr)=E;refine wa (D7 E (by rw[<- W7];simp[Tr.aa]) (by rw[<- W7];simp[Tr.aa]) (by rw[<- W7];simp[Tr.aa]) (by rw[<- W7];simp[Tr.aa]) (by rw[<- W7];simp[Tr.aa])) ?_;rintro r ⟨_,⟨E',rfl,z1⟩ | ⟨E',v,rfl,z4,z5,z6⟩⟩
 ·simp -implicitDefEqProofs only[SX,sevalprocAttr]
  subst hQ;rw[z1]
 ·simp -implicitDefEqProofs only[SX,sevalprocAttr,z4,z5]
  subst hQ;rw[z6]
end
structure Mv where
 kind:Int
 size:Nat
 u:Int
theorem VC(l:List (List ae)):∀ (bs:List Int)(i:Nat)(st:Int),∃ k:Nat,i<=k/\k<=i+bs.length/\((Pg l i st bs=((k:Int),1)/\i < k)\/(Pg l i st bs=((k:Int),2)/\k=i+bs.length)\/(Pg l i st bs=((k:Int),3)/\k < i+bs.length))
 | [],i,st=>⟨i,paa _,by simp,.inr (.inl ⟨rfl,by simp⟩)⟩
 |b::r,i,st=>by
  rw[Pg]
  by_cases h1:(Nd l st b).2=false
  ·rw[if_pos h1];exact⟨i,paa _,by simp,.inr (.inr ⟨rfl,by simp⟩)⟩
  ·rw[kaa h1]
   by_cases h2:(Nd l st b).1= -1
   ·rw[if_pos h2];exact⟨i+1,by omega,by simp,.inl ⟨rfl,by omega⟩⟩
   ·rw[kaa h2]
    obtain⟨k,k1,k2,k3⟩:=VC l r (i+1) (Nd l st b).1
    refine⟨k,by omega,by simp;omega,?_⟩;rcases k3 with⟨a,b⟩ | ⟨a,b⟩ | ⟨a,b⟩
    ·exact .inl ⟨a,by omega⟩
    ·exact .inr (.inl ⟨a,by simp;omega⟩)
    ·exact .inr (.inr ⟨a,by simp;omega⟩)
def stays(l:List (List ae)):Int->List Int->Option Int
 |st,[]=>some st
 |st,b::r=>if (Nd l st b).2=false\/(Nd l st b).1= -1 then none else stays l (Nd l st b).1 r
theorem cy{l:List (List ae)}{st':Int}(r:List Int):∀ {h:List Int}{i:Nat}{st:Int},stays l st h=some st'->Pg l i st (h++r)=Pg l (i+h.length) st' r
 | [],i,st,hs=>by injection hs with hs;subst hs;rfl
 |b::h,i,st,hs=>by
  rw[stays] at hs
  split at hs
  ·cases hs
  ·next hn=>
   rw[bab,Pg,kaa (fun h=>hn (.inl h)),kaa (fun h=>hn (.inr h)),cy r hs,Oaa]
   congr 1;omega
theorem vA{l:List (List ae)}{b:Int}{st':Int}:∀ {h:List Int}{st:Int},stays l st h=some st'->(Nd l st' b).2=true->(Nd l st' b).1≠ -1->stays l st (h++[b])=some (Nd l st' b).1
 | [],st,hs,h1,h2=>by
   injection hs with hs;subst hs
   rw[Yaa,stays,kaa (by rw[h1];simp[h2]),stays]
 |c::h,st,hs,h1,h2=>by
  rw[stays] at hs
  split at hs
  ·cases hs
  ·next hn=>rw[bab,stays,kaa hn];exact vA hs h1 h2
section
variable (ss:List Nb)(l:List (List ae))
def zu(bs:List Int):Mv:=
 if (Pg l 0 0 bs).2=1 then ⟨1,(Pg l 0 0 bs).1.toNat,(Gu (bs.take (Pg l 0 0 bs).1.toNat) ss).getD 0⟩
 else if (Pg l 0 0 bs).2=2 then ⟨3,(Pg l 0 0 bs).1.toNat,0⟩ else ⟨2,max (Pg l 0 0 bs).1.toNat 1,0⟩
theorem wv{bs:List Int}(h:bs≠[]):1<=(zu ss l bs).size/\(zu ss l bs).size<=bs.length:=by
 have hl:0 < bs.length:=Sab.2 h
 obtain⟨k,k1,k2,k3⟩:=VC l bs 0 0;unfold zu;rcases k3 with⟨a,b⟩ | ⟨a,b⟩ | ⟨a,b⟩ <;> rw[a] <;> simp <;> omega
def AL:Nat->List Int->List Mv
 |0,_=>[]
 |n+1,bs=>if bs=[] then [] else zu ss l bs::AL n (bs.drop (zu ss l bs).size)
theorem WJ:∀ {n m:Nat}{bs:List Int},bs.length<=n->bs.length<=m->AL ss l n bs=AL ss l m bs
 |0,m,bs,h1,h2=>by have:bs=[]:=qaa (by omega);subst this;cases m <;> simp[AL]
 |n+1,0,bs,h1,h2=>by have:bs=[]:=qaa (by omega);subst this;simp[AL]
 |n+1,m+1,bs,h1,h2=>by
  rw[AL,AL]
  by_cases h:bs=[]
  ·rw[if_pos h,if_pos h]
  ·rw[kaa h,kaa h]
   have:=wv ss l h;rw[WJ (n:=n) (m:=m) (by rw[Fab];omega) (by rw[Fab];omega)]
def ft(bs:List Int):List Mv:=AL ss l bs.length bs
theorem fB:ft ss l []=[]:=rfl
theorem xD{bs:List Int}(h:bs≠[]):ft ss l bs=zu ss l bs::ft ss l (bs.drop (zu ss l bs).size):=by
 have hl:0 < bs.length:=Sab.2 h
 have hs:=wv ss l h;obtain⟨n,hn⟩:∃ n,bs.length=n+1:=⟨bs.length - 1,by omega⟩
 unfold ft
 conv=>lhs;rw[hn]
 rw[AL,kaa h,WJ ss l (n:=n) (m:=(bs.drop (zu ss l bs).size).length) (by rw[Fab];omega) (paa _)]
def Ty:Nat->List Int->List Mv×List Int
 |0,bs=>([],bs)
 |n+1,bs=>if bs=[]\/(zu ss l bs).kind=3 then ([],bs) else (zu ss l bs::(Ty n (bs.drop (zu ss l bs).size)).1,(Ty n (bs.drop (zu ss l bs).size)).2)
theorem SF:∀ {n m:Nat}{bs:List Int},bs.length<=n->bs.length<=m->Ty ss l n bs=Ty ss l m bs
 |0,m,bs,h1,h2=>by have:bs=[]:=qaa (by omega);subst this;cases m <;> simp[Ty]
 |n+1,0,bs,h1,h2=>by have:bs=[]:=qaa (by omega);subst this;simp[Ty]
 |n+1,m+1,bs,h1,h2=>by
  rw[Ty,Ty]
  by_cases h:bs=[]\/(zu ss l bs).kind=3
  ·rw[if_pos h,if_pos h]
  ·rw[kaa h,kaa h]
   have:=wv ss l (fun h'=>h (.inl h'));rw[SF (n:=n) (m:=m) (by rw[Fab];omega) (by rw[Fab];omega)]
def nf(bs:List Int):List Mv×List Int:=Ty ss l bs.length bs
theorem Hz{bs:List Int}(h:bs=[]\/(zu ss l bs).kind=3):nf ss l bs=([],bs):=by
 unfold nf;cases bs.length with
 |zero=>rfl
 |succ n=>rw[Ty,if_pos h]
theorem yp{bs:List Int}(h:bs≠[])(h3:(zu ss l bs).kind≠3):nf ss l bs=(zu ss l bs::(nf ss l (bs.drop (zu ss l bs).size)).1,(nf ss l (bs.drop (zu ss l bs).size)).2):=by
 have hl:0 < bs.length:=Sab.2 h
 have hs:=wv ss l h;obtain⟨n,hn⟩:∃ n,bs.length=n+1:=⟨bs.length - 1,by omega⟩
 unfold nf
 conv=>lhs;rw[hn]
 rw[Ty,kaa (by simp[h,h3]),SF ss l (n:=n) (m:=(bs.drop (zu ss l bs).size).length) (by rw[Fab];omega) (paa _)]
def gA(x:Int):List Mv×List Int:=if (Nd l 0 x).2=true then (if (Nd l 0 x).1= -1 then ([⟨1,1,(Gu [x] ss).getD 0⟩],[]) else ([],[x])) else ([⟨2,1,0⟩],[])
def Kl(stop:Bool)(h:List Int)(st x:Int):List Mv×List Int:=
 if (Nd l st x).2=true then (if (Nd l st x).1= -1 then ([⟨1,h.length+1,(Gu (h++[x]) ss).getD 0⟩],[]) else ([],h++[x]))
 else if h=[] then ([⟨2,1,0⟩],[]) else if stop then ([⟨2,h.length,0⟩],[]) else (⟨2,h.length,0⟩::(gA ss l x).1,(gA ss l x).2)
def Aq(e:Mv):Bool:=e.kind==2
def Hl(stop:Bool):List Int->List Int->List Mv×List Int×Bool
 |h,[]=>([],h,false)
 |h,x::r=>if stop&&(Kl ss l stop h ((stays l 0 h).getD 0) x).1.any Aq then ((Kl ss l stop h ((stays l 0 h).getD 0) x).1,(Kl ss l stop h ((stays l 0 h).getD 0) x).2,true)
  else ((Kl ss l stop h ((stays l 0 h).getD 0) x).1++(Hl stop (Kl ss l stop h ((stays l 0 h).getD 0) x).2 r).1,(Hl stop (Kl ss l stop h ((stays l 0 h).getD 0) x).2 r).2)
theorem HN{h:List Int}{st:Int}(hs:stays l 0 h=some st)(r:List Int):Pg l 0 0 (h++r)=Pg l h.length st r:=by
 rw[cy r hs,Zaa]
theorem uV{h:List Int}{st:Int}(hs:stays l 0 h=some st):nf ss l h=([],h):=by
 apply Hz;have:=HN l hs [];rw[wab,Pg] at this;exact .inr (by unfold zu;rw[this,kaa (by simp),if_pos rfl])
theorem iP(x:Int)(r:List Int):∃ st,stays l 0 (gA ss l x).2=some st/\nf ss l (x::r)=((gA ss l x).1++(nf ss l ((gA ss l x).2++r)).1,(nf ss l ((gA ss l x).2++r)).2):=by
 unfold gA;have hm:Pg l 0 0 (x::r)=if (Nd l 0 x).2=false then (((0:Nat):Int),3) else if (Nd l 0 x).1= -1 then (((0+1:Nat):Int),1) else Pg l (0+1) (Nd l 0 x).1 r:=rfl
 by_cases h1:(Nd l 0 x).2=true
 ·rw[if_pos h1]
  rw[kaa (by rw[h1];simp)] at hm
  by_cases h2:(Nd l 0 x).1= -1
  ·rw[if_pos h2]
   rw[if_pos h2] at hm;refine⟨0,rfl,?_⟩;have he:zu ss l (x::r)=⟨1,1,(Gu [x] ss).getD 0⟩:=by unfold zu;rw[hm];rfl
   rw[yp ss l (by simp) (by rw[he];simp),he];rfl
  ·rw[kaa h2]
   exact⟨_,by rw[stays,kaa (by rw[h1];simp[h2]),stays],rfl⟩
 ·have D9:(Nd l 0 x).2=false:=by simpa using h1
  rw[kaa h1];rw[if_pos D9] at hm;refine⟨0,rfl,?_⟩;have he:zu ss l (x::r)=⟨2,1,0⟩:=by unfold zu;rw[hm];rfl
  rw[yp ss l (by simp) (by rw[he];simp),he];rfl
theorem rV{h:List Int}{st:Int}(hs:stays l 0 h=some st)(x:Int)(r:List Int):∃ st',stays l 0 (Kl ss l false h st x).2=some st'/\nf ss l (h++x::r)=((Kl ss l false h st x).1++(nf ss l ((Kl ss l false h st x).2++r)).1,(nf ss l ((Kl ss l false h st x).2++r)).2):=by
 have hm:=HN l hs (x::r);have hm2:Pg l h.length st (x::r)=if (Nd l st x).2=false then ((h.length:Int),3) else if (Nd l st x).1= -1 then (((h.length+1:Nat):Int),1) else Pg l (h.length+1) (Nd l st x).1 r:=rfl
 rw[hm2] at hm;unfold Kl
 by_cases h1:(Nd l st x).2=true
 ·rw[if_pos h1]
  rw[kaa (by rw[h1];simp)] at hm
  by_cases h2:(Nd l st x).1= -1
  ·rw[if_pos h2]
   rw[if_pos h2] at hm;refine⟨0,rfl,?_⟩;have ht:(h++x::r).take (h.length+1)=h++[x]:=by rw[Aae,Saa (by omega)];simp
   have hd:(h++x::r).drop (h.length+1)=r:=by rw[zae,rae (by omega)];simp
   have he:zu ss l (h++x::r)=⟨1,h.length+1,(Gu (h++[x]) ss).getD 0⟩:=by unfold zu;rw[hm,if_pos rfl,Daa,ht]
   rw[yp ss l (by simp) (by rw[he];simp),he];simp only[hd];rfl
  ·rw[kaa h2]
   refine⟨_,vA hs h1 h2,by simp⟩
 ·have D9:(Nd l st x).2=false:=by simpa using h1
  rw[kaa h1];rw[if_pos D9] at hm
  by_cases h0:h=[]
  ·subst h0
   rw[if_pos rfl];refine⟨0,rfl,?_⟩;have he:zu ss l ([]++x::r)=⟨2,1,0⟩:=by unfold zu;rw[hm];rfl
   rw[yp ss l (by simp) (by rw[he];simp),he];rfl
  ·rw[kaa h0,kaa (by simp)]
   have hl:0 < h.length:=Sab.2 h0
   obtain⟨st0,b1,b2⟩:=iP ss l x r;refine⟨st0,b1,?_⟩;have he:zu ss l (h++x::r)=⟨2,h.length,0⟩:=by
    unfold zu;rw[hm,kaa (by simp),kaa (by simp),Daa]
    congr 1;omega
   rw[yp ss l (by simp) (by rw[he];simp),he];simp only[List.drop_left' rfl];rw[b2];rfl
theorem Jz:∀ (b h:List Int)(st:Int),stays l 0 h=some st->Hl ss l false h b=((nf ss l (h++b)).1,(nf ss l (h++b)).2,false)/\∃ st',stays l 0 (nf ss l (h++b)).2=some st'
 | [],h,st,hs=>by rw[wab,uV ss l hs];exact⟨rfl,st,hs⟩
 |x::r,h,st,hs=>by
  obtain⟨st',c1,c2⟩:=rV ss l hs x r;rw[c2,Hl,hs,Tac];obtain⟨f1,f2⟩:=Jz r (Kl ss l false h st x).2 st' c1
  rw[f1];exact⟨rfl,f2⟩
end
def ah(e:Mv)(at_:Int):PV:= .agg [i64 e.kind,i64 at_,i64 e.size,i64 e.u,i64 0]
def Nc:Nat->List Mv->List PV
 |_,[]=>[]
 |k,e::r=>ah e k::Nc (k+e.size) r
theorem cg:∀ (k:Nat)(l:List Mv),(Nc k l).length=l.length
 |_,[]=>rfl
 |k,e::r=>by rw[Nc,Oaa,Oaa,cg]
theorem tF:∀ (k:Nat)(l:List Mv)(i:Nat)(h:i < l.length),∃ p:Nat,(Nc k l)[i]? =some (ah l[i] p)
 |k,e::r,0,_=>⟨k,rfl⟩
 |k,e::r,i+1,h=>by obtain⟨p,hp⟩:=tF (k+e.size) r i (by simpa using h);exact⟨p,by simpa[Nc] using hp⟩
theorem nB:∀ (k:Nat)(a b:List Mv),Nc k (a++b)=Nc k a++Nc (k+(a.map (·.size)).sum) b
 |k,[],b=>by simp[Nc]
 |k,e::a,b=>by rw[bab,Nc,Nc,nB,lab,List.sum_cons,Nat.add_assoc];rfl
def W5(T R:PV)(un Kc out:Int)(st fin:Bool):ba:= .box ([T,i64 un,R,i64 Kc,i64 out,.bool st,.bool fin].map .pv)
structure X2(T:PV)(cd:Int->Option (List Int)):Prop where
 enc:∀ u,tj [T,i64 u]=some (match cd u with | some b=> .mc [.lit 1 (b.map u8),.bool true] | none=> .mc [.ga,.bool false])
 len:∀ u b,cd u=some b->b.length<=8
 ptr:∃ R,T= .rp R 0
structure MU(U:AV)(us:List Int)(n0:Nat):Prop where
 len:∀ H,Tb H 0 U=some us.length
 C5:∀ H (i:Nat) (h:i < us.length),ta H 1 U i=some (.pv (.rp [i64 us[i]] 0))
 cut:∀ n,n0<=n->AV.cut n deep U=some U
theorem DA{A:List ba}{id n sz bytes:Nat}{nl nl' ag:Bool}{h:Zf}{es ys:List PV}(hg:A[id]? =some (.tok sz n nl'))(hn:n=es.length)(hr:eb (es.length+ys.length) bytes):
 Cb A false h sz ag bytes (.uq id nl sz es) (.pv (.lit sz ys))=some (.uq id (nl&&ys.isEmpty) sz (es++ys),A.set id (.tok sz (es.length+ys.length) (nl&&ys.isEmpty))):=by
 subst hn;simp only[Cb,saa,if_false,hg,Lf,if_true,yaa];rw[if_pos ⟨trivial,trivial,trivial,hr⟩]
section
variable {A:List ba}{c:Nat}
end
def Yh(buf:List Int)(r h n:Int):List PV:=buf.map u8++[i64 r,i64 h,i64 n]
theorem JM{buf:List Int}(hb:buf.length=8)(r h n:Int):(Yh buf r h n).length=11:=by simp[Yh,hb]
theorem cZ{buf:List Int}(hb:buf.length=8){r h n:Int}{k:Nat}(hk:k < 8):(Yh buf r h n)[k]? =some (u8 (buf[k]'(by omega))):=by
 unfold Yh;rw[eaa (by simp;omega)];simp[hb,hk]
theorem UG{buf:List Int}(hb:buf.length=8){r h n:Int}:(Yh buf r h n)[8]? =some (i64 r)/\(Yh buf r h n)[9]? =some (i64 h)/\(Yh buf r h n)[10]? =some (i64 n):=by
 unfold Yh;refine⟨?_,?_,?_⟩ <;> rw[Kaa (by simp;omega)] <;> simp[hb]
structure wo(buf:List Int)(h:Nat)(q:List Int):Prop where
 len:buf.length=8
 head:h < 8
 n:q.length<=8
 C5:∀ i (hi:i < q.length),buf[(h+i) % 8]? =some q[i]
 Sy:∀ x∈q,0<=x/\x<=255
theorem uK{row:List PV}{k:Nat}{p:PV}(h:row[k]? =some p)(H:List ba):pa H false 1 (.pv (.rp row k))=some (.pv p):=by
 show (row[k]?).map AV.pv=_
 rw[h];rfl
theorem Hy(row:List PV)(H:List ba)(k:Nat):place H k (.pv (.rp row 0))=some (.pv (.rp row k)):=by
 show some (AV.pv (.rp row (0+k)))=_;rw[Zaa]
theorem Hw{buf q:List Int}{h:Nat}{r:Int}(hq:wo buf h q):Of [.rp (Yh buf r h q.length) 0]=some (i64 q.length):=by
 obtain⟨c8,c9,c10⟩:=UG hq.len (r:=r) (h:=h) (n:=q.length)
 generalize Yh buf r h q.length=row at *
 have e1:∀ H,Kq H 1 (.pv (.rp row 0)) (.pv .sf)=some false:=fun H=>rfl;have pl:=Hy row;have ld:=fun H=>uK c10 H;simp -implicitDefEqProofs only[Of,SX,sevalprocAttr,Pn,e1,pl,ld]
theorem XU{buf q:List Int}{h:Nat}{r:Int}(hq:wo buf h q){i:Nat}(hi:i < q.length):Em [.rp (Yh buf r h q.length) 0,i64 i]=some (.mc [u8 q[i],.bool true]):=by
 have hlen:=Hw (r:=r) hq;obtain⟨c8,c9,c10⟩:=UG hq.len (r:=r) (h:=h) (n:=q.length)
 have hm:(h+i) % 8 < 8:=yae _ (by decide);have hca:=cZ hq.len (r:=r) (h:=(h:Int)) (n:=q.length) hm
 have hbv:buf[(h+i) % 8]'(by rw[hq.len];exact hm)=q[i]:=by
  have:=hq.C5 i hi
  rw[aaa (by rw[hq.len];exact hm)] at this;injection this
 rw[hbv] at hca;have hh:=hq.head
 have hn:=hq.n
 generalize Yh buf r h q.length=row at *
 have pl:=Hy row;have ld9:=fun H=>uK c9 H;have ldm:=fun H=>uK hca H;have d1:decide ((i:Int) < 0)=false:=Ga (by omega);have d2:decide ((i:Int)>=(q.length:Int))=false:=Ga (by omega);have w1:IntKind.i64.wrap ((h:Int)+(i:Int))=((h+i:Nat):Int):=(Aa (by omega)).trans (by omega)
 have w2:(((h+i:Nat):Int)).tmod 8=(((h+i) % 8:Nat):Int):=(Int.ofNat_tmod (h+i) 8).symm
 have hx:Ia (((h+i) % 8:Nat):Int) 8:=by unfold Ia;omega
 have hn8:((((h+i) % 8:Nat):Int)).toNat=(h+i) % 8:=Daa _
 simp -implicitDefEqProofs only[Em,SX,sevalprocAttr,Ip,hlen,pl,ld9,d1,d2,w1,w2,Iaa hx,hn8,ldm]
def We(buf:List Int)(r h n:Int):ba:= .box ((Yh buf r h n).map .pv)
theorem vr{H:List ba}{c:Nat}{row:List PV}(hc:H[c]? =some (.box (row.map .pv))){k:Nat}{p:PV}(hk:row[k]? =some p):pa H false 1 (.ptr c k)=some (.pv p):=by
 unfold pa;simp only[hc];show (row.map AV.pv)[k]? =_;rw[Eaa,hk];rfl
theorem qx{H:List ba}{c:Nat}{cells:List AV}(hc:H[c]? =some (.box cells))(k:Nat):place H k (.ptr c 0)=some (.ptr c k):=by
 unfold place;simp only[hc,Zaa]
theorem cB{H:List ba}{c:Nat}{row:List PV}(hc:H[c]? =some (.box (row.map .pv))){k:Nat}(hk:k < row.length){p:PV}(h1:(AV.pv p).one=true)(h2:p.cells=[p]):Ha H 1 (.ptr c k) (.pv p)=some (H.set c (.box ((row.set k p).map .pv))):=by
 unfold Ha;rw[if_pos ⟨by simp[AV.cells,h2],by simp[AV.cells,h2,h1]⟩];simp only[hc];rw[if_pos (by rw[haa];omega)];simp[AV.cells,h2,fa,qae]
theorem LW{call:Sa}{H:List ba}{c:Nat}{buf q:List Int}{h:Nat}{x:Int}(hq:wo buf h q)(hc:H[c]? =some (We buf 8 h q.length))(hl:q.length < 8)(hx:0<=x/\x<=255):
 ∃ buf',wo buf' h (q++[x])/\ef call ve [.ptr c 0,.pv (u8 x)] H=some (.pv (i64 0),H.set c (We buf' 8 h (q++[x]).length)):=by
 obtain⟨c8,c9,c10⟩:=UG hq.len (r:=8) (h:=h) (n:=q.length)
 have hrl:=JM hq.len 8 h q.length
 have hm:(h+q.length) % 8 < 8:=yae _ (by decide);have hh:=hq.head
 refine⟨buf.set ((h+q.length) % 8) x,⟨by rw[qac];exact hq.len,hh,by simp;omega,fun i hi=> ?_,fun y hy=> ?_⟩,?_⟩
 ·rw[List.getElem?_set]
  rcases Qaa i q.length with E7 | e9
  ·rw[kaa (by omega),hq.C5 i E7,List.getElem_append_left E7]
  ·have:i=q.length:=by simp at hi;omega
   subst this;rw[if_pos rfl,if_pos (by rw[hq.len];exact hm)];simp
 ·rcases Jaa.1 hy with h1 | h1
  ·exact hq.Sy y h1
  ·rw[Hab] at h1;subst h1;exact hx
 ·unfold We at hc
  have P7:c < H.length:=(iaa.1 hc).1
  have e1:Kq H 1 (.ptr c 0) (.pv .sf)=some false:=by simp[Kq,hc]
  have pl:=fun k=>qx hc k;have l8:=vr hc c8;have l9:=vr hc c9;have l10:=vr hc c10;have d1:decide ((q.length:Int)>=8)=false:=Ga (by omega);have w1:IntKind.i64.wrap ((h:Int)+(q.length:Int))=((h+q.length:Nat):Int):=(Aa (by omega)).trans (by omega)
  have w2:(((h+q.length:Nat):Int)).tmod 8=(((h+q.length) % 8:Nat):Int):=(Int.ofNat_tmod (h+q.length) 8).symm
  have w3:IntKind.i64.wrap ((q.length:Int)+1)=((q.length+1:Nat):Int):=sg (by omega)
  have hix:Ia (((h+q.length) % 8:Nat):Int) 8:=by unfold Ia;omega
  have hn8:((((h+q.length) % 8:Nat):Int)).toNat=(h+q.length) % 8:=Daa _
  have st1:=cB hc (k:=(h+q.length) % 8) (by omega) (p:=u8 x) rfl rfl;have hc2:(H.set c (.box (((Yh buf 8 h q.length).set ((h+q.length) % 8) (u8 x)).map .pv)))[c]? =some (.box (((Yh buf 8 h q.length).set ((h+q.length) % 8) (u8 x)).map .pv)):=by rw[Maa P7]
  have pl2:=fun k=>qx hc2 k;have Gag:((Yh buf 8 h q.length).set ((h+q.length) % 8) (u8 x))[10]? =some (i64 q.length):=by rw[List.getElem?_set,kaa (by omega),c10]
  have Hag:=vr hc2 Gag;have st2:=cB hc2 (k:=10) (by rw[qac];omega) (p:=i64 ((q.length+1:Nat):Int)) rfl rfl;have R7:((Yh buf 8 h q.length).set ((h+q.length) % 8) (u8 x)).set 10 (i64 ((q.length+1:Nat):Int))=Yh (buf.set ((h+q.length) % 8) x) 8 h (q++[x]).length:=by unfold Yh;rw[Cac _ _ (by simp[hq.len];omega),Jab _ _ (by simp[hq.len])];simp[hq.len,qae]
  rw[List.set_set,R7] at st2;unfold We;generalize Yh buf 8 h q.length=row at *
  generalize Yh (buf.set ((h+q.length) % 8) x) 8 h (q++[x]).length=wae at *
  generalize row.set ((h+q.length) % 8) (u8 x)=row1 at *
  simp -implicitDefEqProofs only[SX,sevalprocAttr,ve,e1,pl,l8,l9,l10,d1,w1,w2,w3,Iaa hix,hn8,st1,pl2,Hag,st2]
theorem dz{call:Sa}{H:List ba}{c:Nat}{buf q:List Int}{h k:Nat}(hq:wo buf h q)(hc:H[c]? =some (We buf 8 h q.length))(hk:k<=q.length):
 wo buf ((h+k) % 8) (q.drop k)/\ef call Qc [.ptr c 0,.pv (i64 k)] H=some (.pv (i64 0),H.set c (We buf 8 ((h+k) % 8:Nat) (q.drop k).length)):=by
 obtain⟨c8,c9,c10⟩:=UG hq.len (r:=8) (h:=h) (n:=q.length)
 have hrl:=JM hq.len 8 h q.length
 have hh:=hq.head
 have hn:=hq.n
 have hm:(h+k) % 8 < 8:=yae _ (by decide);refine⟨⟨hq.len,hm,by rw[Fab];omega,fun i hi=> ?_,fun y hy=>hq.Sy y (Vab hy)⟩,?_⟩
 ·rw[Fab] at hi
  have:=hq.C5 (k+i) (by omega)
  rw[List.getElem_drop,<-this]
  congr 1
  omega
 ·unfold We at hc
  have P7:c < H.length:=(iaa.1 hc).1
  have e1:Kq H 1 (.ptr c 0) (.pv .sf)=some false:=by simp[Kq,hc]
  have pl:=fun k=>qx hc k;have l9:=vr hc c9;have l10:=vr hc c10;have d1:decide ((k:Int) < 0)=false:=Ga (by omega);have d2:decide ((k:Int) > (q.length:Int))=false:=Ga (by omega);have w1:IntKind.i64.wrap ((h:Int)+(k:Int))=((h+k:Nat):Int):=(Aa (by omega)).trans (by omega)
  have w2:(((h+k:Nat):Int)).tmod 8=(((h+k) % 8:Nat):Int):=(Int.ofNat_tmod (h+k) 8).symm
  have w3:IntKind.i64.wrap ((q.length:Int) - (k:Int))=(((q.drop k).length:Nat):Int):=(Aa (by omega)).trans (by rw[Fab];omega)
  have st1:=cB hc (k:=9) (by omega) (p:=i64 (((h+k) % 8:Nat):Int)) rfl rfl;have hc2:(H.set c (.box (((Yh buf 8 h q.length).set 9 (i64 (((h+k) % 8:Nat):Int))).map .pv)))[c]? =some (.box (((Yh buf 8 h q.length).set 9 (i64 (((h+k) % 8:Nat):Int))).map .pv)):=by rw[Maa P7]
  have pl2:=fun k=>qx hc2 k;have Gag:((Yh buf 8 h q.length).set 9 (i64 (((h+k) % 8:Nat):Int)))[10]? =some (i64 q.length):=by rw[List.getElem?_set,kaa (by omega),c10]
  have Hag:=vr hc2 Gag;have st2:=cB hc2 (k:=10) (by rw[qac];omega) (p:=i64 (((q.drop k).length:Nat):Int)) rfl rfl;have R7:((Yh buf 8 h q.length).set 9 (i64 (((h+k) % 8:Nat):Int))).set 10 (i64 (((q.drop k).length:Nat):Int))=Yh buf 8 (((h+k) % 8:Nat):Int) (q.drop k).length:=by unfold Yh;rw[Jab _ _ (by simp[hq.len]),Jab _ _ (by simp[hq.len])];simp[hq.len]
  rw[List.set_set,R7] at st2;unfold We;generalize Yh buf 8 h q.length=row at *
  generalize Yh buf 8 (((h+k) % 8:Nat):Int) (q.drop k).length=wae at *
  generalize row.set 9 (i64 (((h+k) % 8:Nat):Int))=row1 at *
  simp -implicitDefEqProofs only[SX,sevalprocAttr,Qc,e1,pl,l9,l10,d1,d2,w1,w2,w3,st1,pl2,Hag,st2]
def Ul(A:List ba)(d c:Nat)(o1 o2:ba)(X:List ba):List ba:=(A.set d o1).set c o2++X
structure JY(A:List ba)(d c:Nat):Prop where
 ld:d < A.length
 lc:c < A.length
 ne:d≠c
section
variable {A:List ba}{d c:Nat}(h:JY A d c){o1 o2 o:ba}{X:List ba}
include h
theorem OD:(Ul A d c o1 o2 X)[d]? =some o1:=by
 have:=h.ld;have:=h.ne
 unfold Ul;rw[eaa (by simp;omega),Gaa (by omega),Maa (by omega)]
theorem sJ:(Ul A d c o1 o2 X)[c]? =some o2:=by
 have:=h.lc
 unfold Ul;rw[eaa (by simp;omega),Maa (by simp;omega)]
theorem rG:(Ul A d c o1 o2 X).set d o=Ul A d c o o2 X:=by
 have:=h.ld;have:=h.ne
 unfold Ul;rw[Cac _ _ (by simp;omega),List.set_comm _ _ (lac h.ne),List.set_set]
theorem kO:(Ul A d c o1 o2 X).set c o=Ul A d c o1 o X:=by
 have:=h.lc
 unfold Ul;rw[Cac _ _ (by simp;omega),List.set_set]
omit h
theorem sm:(Ul A d c o1 o2 X).length=A.length+X.length:=by simp[Ul]
theorem T2(k:Nat):(Ul A d c o1 o2 X)[A.length+k]? =X[k]? :=by
 unfold Ul;rw[Kaa (by simp)];simp
theorem oN(k:Nat):(Ul A d c o1 o2 X).set (A.length+k) o=Ul A d c o1 o2 (X.set k o):=by
 unfold Ul;rw[Jab _ _ (by simp)];simp
theorem Nt(Y:List ba):Ul A d c o1 o2 X++Y=Ul A d c o1 o2 (X++Y):=by unfold Ul;rw[Dab]
theorem VZ{k:Nat}(hk:k < A.length)(h1:k≠d)(h2:k≠c):(Ul A d c o1 o2 X)[k]? =A[k]? :=by
 unfold Ul;rw[eaa (by simp;omega),Gaa (by omega),Gaa (by omega)]
end
def fO(T:PV)(bad:Int)(c:Nat)(st at_ Kc:Int)(ya fin:Bool):List AV:=[.pv T,.pv (i64 bad),.ptr c 0,.pv (i64 st),.pv (i64 at_),.pv (i64 Kc),.pv (.bool ya),.pv (.bool fin)]
def Lc(T:PV)(bad:Int)(c:Nat)(st at_ Kc:Int)(ya fin:Bool):ba:= .box (fO T bad c st at_ Kc ya fin)
theorem AK{H:List ba}{c:Nat}{row:List PV}(hc:H[c]? =some (.box (row.map .pv)))(d:Nat):Sb H (d+1) (.ptr c 0)=some (.rp row 0):=by
 have key:∀ row:List PV,Ra (Sb H d) (row.map .pv)=some row:=by
  intro row
  induction row with
  |nil=>rfl
  |cons p r ih=>have h1:Sb H d (.pv p)=some p:=Mg H d p;simp only[lab,Ra,h1,ih];rfl
 unfold Sb;simp only[hc,key];rfl
section
variable {H:List ba}{d c:Nat}{T:PV}{bad st at_ Kc:Int}{ya fin:Bool}(h:H[d]? =some (Lc T bad c st at_ Kc ya fin))
include h
theorem M5:Kq H 1 (.ptr d 0) (.pv .sf)=some false:=by simp only[Kq,h,Lc]
theorem zH(k:Nat):place H k (.ptr d 0)=some (.ptr d k):=qx h k
theorem lE{k:Nat}{v:AV}(hk:(fO T bad c st at_ Kc ya fin)[k]? =some v):pa H false 1 (.ptr d k)=some v:=by
 unfold pa;simp only[h,Lc];show (fO T bad c st at_ Kc ya fin)[k]? =_;exact hk
theorem WA:pa H false 1 (.ptr d 0)=some (.pv T)/\pa H false 1 (.ptr d 1)=some (.pv (i64 bad))/\pa H false 1 (.ptr d 2)=some (.ptr c 0)/\pa H false 1 (.ptr d 3)=some (.pv (i64 st))/\
 pa H false 1 (.ptr d 4)=some (.pv (i64 at_))/\pa H false 1 (.ptr d 5)=some (.pv (i64 Kc))/\pa H false 1 (.ptr d 6)=some (.pv (.bool ya))/\pa H false 1 (.ptr d 7)=some (.pv (.bool fin)):=
 ⟨lE h rfl,lE h rfl,lE h rfl,lE h rfl,lE h rfl,lE h rfl,lE h rfl,lE h rfl⟩
theorem zN{k:Nat}(hk:k < 8){p:PV}(h1:(AV.pv p).one=true)(h2:p.cells=[p]):Ha H 1 (.ptr d k) (.pv p)=some (H.set d (.box ((fO T bad c st at_ Kc ya fin).set k (.pv p)))):=by
 unfold Ha;rw[if_pos ⟨by simp[AV.cells,h2],by simp[AV.cells,h2,h1]⟩];simp only[h,Lc];rw[if_pos (by show k+1<=8;omega)];simp[AV.cells,h2,fa]
theorem U2(v:Int):Ha H 1 (.ptr d 3) (.pv (i64 v))=some (H.set d (Lc T bad c v at_ Kc ya fin)):=zN h (by decide) rfl rfl
theorem U5(v:Int):Ha H 1 (.ptr d 4) (.pv (i64 v))=some (H.set d (Lc T bad c st v Kc ya fin)):=zN h (by decide) rfl rfl
theorem R5(v:Int):Ha H 1 (.ptr d 5) (.pv (i64 v))=some (H.set d (Lc T bad c st at_ v ya fin)):=zN h (by decide) rfl rfl
theorem X5(v:Bool):Ha H 1 (.ptr d 6) (.pv (.bool v))=some (H.set d (Lc T bad c st at_ Kc v fin)):=zN h (by decide) rfl rfl
theorem S5(v:Bool):Ha H 1 (.ptr d 7) (.pv (.bool v))=some (H.set d (Lc T bad c st at_ Kc ya v)):=zN h (by decide) rfl rfl
end
def Still(X:List ba):Prop:=∀ n,X.all (zE n)=true
theorem Still.nil:Still []:=fun _=>rfl
theorem Still.app{X Y:List ba}(h1:Still X)(h2:Still Y):Still (X++Y):=fun n=>by rw[List.all_append,h1 n,h2 n];rfl
theorem Still.tok(sz n:Nat)(nl:Bool):Still [.tok sz n nl]:=fun _=>rfl
theorem Still.dead:Still [.dead]:=fun _=>rfl
theorem Still.box(cs:List PV):Still [.box (cs.map .pv)]:=fun n=>by simp only[wac,List.all_nil,BB,fae]
theorem Still.cons{o:ba}{X:List ba}(h1:Still [o])(h2:Still X):Still (o::X):=h1.app h2
theorem Still.dw{A X:List ba}(hA:Wd A)(hX:Still X):Wd (A++X):=fun n hn o ho=>by
 rcases Jaa.1 ho with h | h
 ·exact hA n (by rw[raa] at hn;omega) o h
 ·exact Wn (hX n) o h
theorem Yy{A:List ba}{d c:Nat}(hA:Wd A)(h2:JY A d c){T:PV}{bad st at_ Kc:Int}{ya fin:Bool}{buf:List Int}{r h m:Int}{X:List ba}(hX:Still X):Wd (Ul A d c (Lc T bad c st at_ Kc ya fin) (We buf r h m) X):=by
 intro n hn o ho;rw[sm] at hn;unfold Ul at ho;rcases Jaa.1 ho with h | h
 ·rcases Aab h with h | rfl
  ·rcases Aab h with h | rfl
   ·exact hA n (by omega) o h
   ·have:=h2.lc
    exact Vr (by simp[Lc,fO,zE,Cj,Kn,show c < n by omega])
  ·exact Vr (BB n _)
 ·exact Wn (hX n) o h
theorem LK{call:Sa}{H:List ba}{c:Nat}{buf q:List Int}{h:Nat}{r:Int}(hG:Wd H)(hq:wo buf h q)(hc:H[c]? =some (We buf r h q.length)):
 ef call Cc [.ptr c 0] H=some (.uq H.length false 1 (q.map u8),H++[.tok 1 q.length false]):=by
 have hlen:=Hw (r:=r) hq;have u9:=fun i (hi:i < q.length)=>XU (r:=r) hq hi;have hn:=hq.n
 unfold We at hc;have P7:c < H.length:=(iaa.1 hc).1
 have tp:=AK hc 5;have tp1:=fun Y=>AK (H:=H++Y) (show (H++Y)[c]? =_ by rw[eaa P7];exact hc) 5;generalize Yh buf r h q.length=row at *
 have D7:=fun (E:Tr)(g0:E.get 0= .ptr c 0)(g3:E.get 3= .uq H.length false 1 [])(g11:E.get 11= .pv (i64 q.length))(g12:E.get 12= .pv (i64 0))=>
  yo (call:=call) (b:=Dg) (live:=[0,3,11,12]) (E0:=E) (H0:=H++[.tok 1 0 false]) (Q:=fun r=>∃ E,r=(.exit 0,⟨E,H++[.tok 1 q.length false]⟩)/\E.get 3= .uq H.length false 1 (q.map u8))
   (fun i:Nat=>[(0,.ptr c 0),(3,.uq H.length false 1 ((q.take i).map u8)),(11,.pv (i64 q.length)),(12,.pv (i64 i))]) (fun i=>H++[.tok 1 ((q.take i).map u8).length false]) (fun i x=>x=i) q.length (by unfold ua;omega) (fun _=>rfl)
   (fun i x _=>⟨by simp[Cj,Mz,Kn,show c < H.length+1 by omega],fun o ho=>by
    rcases Jaa.1 ho with h | h
    ·exact hG _ (by simp) o h
    ·simp at h;subst h;rfl,by simp⟩) ⟨0,⟨g0,g3,g11,g12,trivial⟩,rfl,rfl⟩
   (by
    rintro _ i E hi rfl ⟨g0,g3,g11,g12,_⟩;have ha:=u9 i hi;have e1:decide ((i:Int) < (q.length:Int))=true:=Ea (by omega);have t1:IntKind.i64.wrap ((i:Int)+1)=((i+1:Nat):Int):=sg (by omega)
    have o8:(q.take (i+1)).map u8=(q.take i).map u8++[u8 q[i]]:=by rw[xae,aaa hi,jac];rfl
    have ap:Cb (H++[.tok 1 ((q.take i).map u8).length false]) false .uq 1 false 1 (.uq H.length false 1 ((q.take i).map u8)) (.pv (.lit 1 [u8 q[i]]))=some (.uq H.length false 1 ((q.take (i+1)).map u8),H++[.tok 1 ((q.take (i+1)).map u8).length false]):=by rw[DA (n:=((q.take i).map u8).length) (nl':=false) (by simp) rfl (by unfold eb;simp;omega),o8];simp
    generalize q[i]=x at *;have fl:Ep [u8 x,PV.bool true]=true:=rfl;generalize hQ:RH _ _ _ _=Q;simp -implicitDefEqProofs only[SP,WP,sevalprocAttr,Dg,g0,g3,g11,g12,e1,tp1,ha,fl,ap,t1,fa.eq_1,fa.eq_2,List.set,Tc,List.headD_cons];subst hQ;exact⟨i+1,[],by simp[Has,Tr.aa,g0,g11],by simp,rfl⟩)
   (by rintro i E rfl ⟨g0,g3,g11,g12,_⟩;have e1:decide ((q.length:Int) < (q.length:Int))=false:=Ga (by omega);rw[sab] at g3;show qd _ (oa call Dg ⟨E,H++[.tok 1 ((q.take q.length).map u8).length false]⟩);rw[sab,haa];generalize hQ:(fun r:Ex×St=>r.1.stop=true/\_)=Q;simp -implicitDefEqProofs only[SP,WP,sevalprocAttr,Dg,g11,g12,e1];subst hQ;exact⟨rfl,_,rfl,by simp[Tr.aa,g3]⟩)
 have tp2:=tp1 [.tok 1 0 false];have fl0:∀ n,Nj (i64 n)=true:=fun n=>rfl;have hmk:∀ (E:Tr),E.get 8= .pv (i64 q.length)->xa call E H (.bh .uq 1 false [.int .u8 0] 1 (.c (.int .i64 0)) (.t 8))=some (.uq H.length false 1 [],H++[.tok 1 0 false]):=fun E h8=>by simp only[xa,AO.ev,h8,asInt,yaa];rw[if_pos ⟨by omega,by omega,by unfold eb;omega⟩];rfl
 apply Xk;generalize hQ:(fun y:AV×List ba=>y=(AV.uq H.length false 1 (q.map u8),H++[.tok 1 q.length false]))=Q;simp -implicitDefEqProofs only[SP,WP,sevalprocAttr,Cc,tp,tp2,hlen,fl0,↓hmk];refine wa (D7 _ (by simp[Tr.aa]) (by simp[Tr.aa]) (by simp[Tr.aa]) (by simp[Tr.aa])) ?_;rintro r ⟨_,E,rfl,h⟩;simp -implicitDefEqProofs only[SP,WP,sevalprocAttr,h];subst hQ;rfl
theorem iY{A:List ba}{d c:Nat}{o1 o2:ba}{X Y:List ba}(i:Nat):(Ul A d c o1 o2 (X++Y))[A.length+X.length+i]? =Y[i]? :=by
 rw[Nat.add_assoc,T2,Kaa (by omega)];simp
theorem TJ{A:List ba}{d c:Nat}{o1 o2 o:ba}{X Y:List ba}(i:Nat):(Ul A d c o1 o2 (X++Y)).set (A.length+X.length+i) o=Ul A d c o1 o2 (X++Y.set i o):=by
 rw[Nat.add_assoc,oN,Jab _ _ (by omega)];simp
theorem SL{H:List ba}{c:Nat}{row:List PV}(hc:H[c]? =some (.box (row.map .pv)))(hl:row.length=5):pa H true 5 (.ptr c 0)=some (.pv (.agg row)):=by
 match row,hl with
 | [a,b,e,f,g],_=>simp only[pa,hc];rfl
theorem HL{H:List ba}{c:Nat}{row b:List PV}(hc:H[c]? =some (.box (row.map .pv)))(hl:row.length=5)(hb:b.length=5)(h1:∀ p∈b,(AV.pv p).one=true):Ha H 5 (.ptr c 0) (.pv (.agg b))=some (H.set c (.box (b.map .pv))):=by
 match row,hl,b,hb with
 | [a1,a2,a3,a4,a5],_,[b1,b2,b3,b4,b5],_=>have:=h1 b1 (by simp);have:=h1 b2 (by simp);have:=h1 b3 (by simp);have:=h1 b4 (by simp);have:=h1 b5 (by simp);unfold Ha;rw[if_pos ⟨rfl,by simp_all [AV.cells,PV.cells]⟩];simp only[hc];rfl
def O6(a b:List PV):List ba:=[.box (a.map .pv),.box (b.map .pv)]
abbrev Bo(k a n u:Int):List PV:=[i64 k,i64 a,i64 n,i64 u,i64 0]
theorem FK{k a n u:Int}:∀ p∈Bo k a n u,(AV.pv p).one=true:=by
 intro p hp;simp only[Bo,Xaa,hac,or_false] at hp;rcases hp with rfl | rfl | rfl | rfl | rfl <;> rfl
theorem pD(a b:List PV):Still (O6 a b):=(Still.box a).cons (Still.box b)
theorem IM{call call':Sa}{A:List ba}{d c:Nat}(hA:Wd A)(h2:JY A d c){X:List ba}(hX:Still X){T:PV}{bad st Kc:Int}{at_:Nat}{ya fin:Bool}{buf q:List Int}{h:Nat}(hq:wo buf h q)
 (h82:∀ H (n:Int),call 82 [.ptr c 0,.pv (i64 n)] H=ef call' Qc [.ptr c 0,.pv (i64 n)] H) (h83:∀ H,call 83 [.ptr c 0] H=ef call' Cc [.ptr c 0] H)
 (u9:at_<=1000000) {k u:Int} (hd:k=1->∃ ok,Bh [T,.lit 1 (q.map u8)]=some (.mc [i64 u,.bool ok])) (hu:k≠1->u=0):
 ∃ Y,Still Y/\ef call Zb [.ptr d 0,.pv (i64 k)] (Ul A d c (Lc T bad c st at_ Kc ya fin) (We buf 8 h q.length) X)=some (.pv (ah ⟨k,q.length,u⟩ at_),Ul A d c (Lc T bad c 0 ((at_+q.length:Nat):Int) Kc ya fin) (We buf 8 ((h+q.length) % 8:Nat) 0) (X++Y)):=by
 have hn:=hq.n
 obtain⟨n,j8⟩:∃ n,n=A.length+X.length:=⟨_,rfl⟩
 have hlen:=Hw (r:=8) hq;have P7:c < A.length:=h2.lc
 obtain⟨G,hG⟩:∃ G:ba->ba->List PV->List PV->List ba->List ba,G=fun o1 o2 a b Z=>Ul A d c o1 o2 (X++(O6 a b++Z)):=⟨_,rfl⟩;have gd:∀ o1 o2 a b Z,(G o1 o2 a b Z)[d]? =some o1:=fun o1 o2 a b Z=>by rw[hG];exact OD h2
 have gc:∀ o1 o2 a b Z,(G o1 o2 a b Z)[c]? =some o2:=fun o1 o2 a b Z=>by rw[hG];exact sJ h2
 have g0:∀ o1 o2 a b Z,(G o1 o2 a b Z)[n]? =some (.box (a.map .pv)):=fun o1 o2 a b Z=>by rw[hG,j8];exact iY 0
 have g1:∀ o1 o2 a b Z,(G o1 o2 a b Z)[n+1]? =some (.box (b.map .pv)):=fun o1 o2 a b Z=>by rw[hG,j8];exact iY 1
 have sd:∀ o1 o2 a b Z o,(G o1 o2 a b Z).set d o=G o o2 a b Z:=fun o1 o2 a b Z o=>by rw[hG];exact rG h2
 have sc:∀ o1 o2 a b Z o,(G o1 o2 a b Z).set c o=G o1 o a b Z:=fun o1 o2 a b Z o=>by rw[hG];exact kO h2
 have s0:∀ o1 o2 a b Z r,(G o1 o2 a b Z).set n (.box (List.map AV.pv r))=G o1 o2 r b Z:=fun o1 o2 a b Z r=>by rw[hG,j8];exact TJ 0
 have s1:∀ o1 o2 a b Z r,(G o1 o2 a b Z).set (n+1) (.box (List.map AV.pv r))=G o1 o2 a r Z:=fun o1 o2 a b Z r=>by rw[hG,j8];exact TJ 1
 have gg:∀ st at_ h m a b Z,Still Z->Wd (G (Lc T bad c st at_ Kc ya fin) (We buf 8 h m) a b Z):=fun st at_ h m a b Z hZ=>by rw[hG];exact Yy hA h2 (hX.app ((pD a b).app hZ))
 have gx:∀ o1 o2 a b Z Z',G o1 o2 a b Z++Z'=G o1 o2 a b (Z++Z'):=fun o1 o2 a b Z Z'=>by rw[hG];simp only[Nt,Dab]
 obtain⟨H0,hH0⟩:∃ H0,H0=Ul A d c (Lc T bad c st at_ Kc ya fin) (We buf 8 h q.length) X:=⟨_,rfl⟩;rw[<- hH0];have l0:H0.length=n:=by rw[hH0,j8,sm]
 obtain⟨z,hz⟩:∃ z:ba,z= .box [.pv (i64 0),.pv (i64 0),.pv (i64 0),.pv (i64 0),.pv (i64 0)]:=⟨_,rfl⟩
 have hz':ba.box [.pv (.int .i64 0),.pv (.int .i64 0),.pv (.int .i64 0),.pv (.int .i64 0),.pv (.int .i64 0)]=z:=hz.symm
 have l1:(H0++[z]).length=n+1:=by rw[raa,l0];rfl
 have hd1:(H0++[z])[d]? =some (Lc T bad c st at_ Kc ya fin):=by rw[hH0,Nt];exact OD h2
 have hc1:(H0++[z])[c]? =some (We buf 8 h q.length):=by rw[hH0,Nt];exact sJ h2
 have p1:=zH hd1;have ld1:=WA hd1;have tp1:=AK hc1 5;have st0:∀ m,Ha (H0++[z]++[z]) 5 (.ptr (n+1) 0) (.pv (.agg (Bo k at_ m 0)))=some (G (Lc T bad c st at_ Kc ya fin) (We buf 8 h q.length) (Bo 0 0 0 0) (Bo k at_ m 0) []):=fun m=>by
  have:H0++[z]++[z]=G (Lc T bad c st at_ Kc ya fin) (We buf 8 h q.length) (Bo 0 0 0 0) (Bo 0 0 0 0) []:=by rw[hH0,hG,hz];simp only[Nt,Dab];rfl
  rw[this,HL (g1 _ _ _ _ _) rfl rfl FK,s1]
 have pd:∀ st at_ o2 a b Z k,place (G (Lc T bad c st at_ Kc ya fin) o2 a b Z) k (.ptr d 0)=some (.ptr d k):=fun st at_ o2 a b Z k=>zH (gd _ _ _ _ _) k;have ldd:=fun st at_ o2 a b Z=>WA (gd (Lc T bad c st at_ Kc ya fin) o2 a b Z);have pe:∀ o1 o2 a b Z k,place (G o1 o2 a b Z) k (.ptr (n+1) 0)=some (.ptr (n+1) k):=fun o1 o2 a b Z k=>qx (g1 _ _ _ _ _) k;have l2:∀ o1 o2 a k x m u Z,pa (G o1 o2 a (Bo k x m u) Z) false 1 (.ptr (n+1) 2)=some (.pv (i64 m)):=fun o1 o2 a k x m u Z=>vr (g1 _ _ _ _ _) rfl;have st3:∀ o1 o2 a k x m u v Z,Ha (G o1 o2 a (Bo k x m u) Z) 1 (.ptr (n+1) 3) (.pv (i64 v))=some (G o1 o2 a (Bo k x m v) Z):=fun o1 o2 a k x m u v Z=>by rw[cB (g1 _ _ _ _ _) (show 3 < 5 by decide) rfl rfl,s1];rfl
 have lT:∀ o1 o2 a k x m u Z,pa (G o1 o2 a (Bo k x m u) Z) true 5 (.ptr (n+1) 0)=some (.pv (.agg (Bo k x m u))):=fun o1 o2 a k x m u Z=>SL (g1 _ _ _ _ _) rfl;have sT:∀ o1 o2 b k x m u Z,Ha (G o1 o2 (Bo 0 0 0 0) b Z) 5 (.ptr n 0) (.pv (.agg (Bo k x m u)))=some (G o1 o2 (Bo k x m u) b Z):=fun o1 o2 b k x m u Z=>by rw[HL (g0 _ _ _ _ _) rfl rfl FK,s0]
 have lR:∀ o1 o2 b k x m u Z,pa (G o1 o2 (Bo k x m u) b Z) true 5 (.ptr n 0)=some (.pv (.agg (Bo k x m u))):=fun o1 o2 b k x m u Z=>SL (g0 _ _ _ _ _) rfl;have w1:IntKind.i64.wrap ((at_:Int)+(q.length:Int))=((at_+q.length:Nat):Int):=(Aa (by omega)).trans (by omega)
 have sat:∀ o2 a b Z v,Ha (G (Lc T bad c st at_ Kc ya fin) o2 a b Z) 1 (.ptr d 4) (.pv (i64 v))=some (G (Lc T bad c st v Kc ya fin) o2 a b Z):=fun o2 a b Z v=>by rw[U5 (gd _ _ _ _ _),sd]
 have sst:∀ at_ o2 a b Z v,Ha (G (Lc T bad c st at_ Kc ya fin) o2 a b Z) 1 (.ptr d 3) (.pv (i64 v))=some (G (Lc T bad c v at_ Kc ya fin) o2 a b Z):=fun at_ o2 a b Z v=>by rw[U2 (gd _ _ _ _ _),sd]
 have hdr:∀ at_ a b Z,call 82 [.ptr c 0,.pv (i64 q.length)] (G (Lc T bad c st at_ Kc ya fin) (We buf 8 h q.length) a b Z)=some (.pv (i64 0),G (Lc T bad c st at_ Kc ya fin) (We buf 8 ((h+q.length) % 8:Nat) 0) a b Z):=fun at_ a b Z=>by rw[h82,(dz (call:=call') hq (gc _ _ _ _ _) (paa _)).2,sc,vab];rfl
 have Jae:∀ Z,Still Z->G (Lc T bad c 0 ((at_+q.length:Nat):Int) Kc ya fin) (We buf 8 ((h+q.length) % 8:Nat) 0) (Bo k at_ q.length u) (Bo k at_ q.length u) Z=Ul A d c (Lc T bad c 0 ((at_+q.length:Nat):Int) Kc ya fin) (We buf 8 ((h+q.length) % 8:Nat) 0) (X++(O6 (Bo k at_ q.length u) (Bo k at_ q.length u)++Z)):=fun Z _=>by rw[hG]
 have he:ah ⟨k,q.length,u⟩ at_= .agg (Bo k at_ q.length u):=rfl
 by_cases hk:k=1
 ·obtain⟨ok,Ba⟩:=hd hk
  have hb:=LK (call:=call') (gg st at_ h q.length (Bo 0 0 0 0) (Bo k at_ q.length 0) [] Still.nil) hq (gc _ _ _ _ _);rw[gx,Yaa,<-h83] at hb;generalize (G (Lc T bad c st at_ Kc ya fin) (We buf 8 h q.length) (Bo 0 0 0 0) (Bo k at_ q.length 0) []).length=nb at hb
  refine⟨_,(pD (Bo k at_ q.length u) (Bo k at_ q.length u)).app (Still.tok 1 q.length false),?_⟩;rw[<- Jae _ (Still.tok 1 q.length false),he];have e1:(k==1)=true:=by rw[hk];rfl
  have tq:∀ H,Sb H 6 (.uq nb false 1 (q.map u8))=some (.lit 1 (q.map u8)):=fun H=>rfl;have sh:=NI (G (Lc T bad c st at_ Kc ya fin) (We buf 8 h q.length) (Bo 0 0 0 0) (Bo k at_ q.length 0) []) [.tok 1 q.length false];rw[gx,Yaa] at sh;clear hG hH0 hz gg gx s0 s1 sd sc g0 g1 gd gc h82 h83 Jae hd hu he;simp -implicitDefEqProofs only[SP,WP,sevalprocAttr,Zb,l0,l1,hz',p1,ld1,tp1,hlen,fa.eq_1,fa.eq_2,List.set,Tc,st0,e1,pd,ldd,pe,l2,hb,sh,tq,Ba,st3,w1,sat,hdr,sst,lT,sT,lR]
 ·have hu0:=hu hk
  subst hu0;refine⟨_,(pD (Bo k at_ q.length 0) (Bo k at_ q.length 0)).app Still.nil,?_⟩;rw[<- Jae _ Still.nil,he];have e1:(k==1)=false:=beq_false_of_ne hk;clear hG hH0 hz gg gx s0 s1 sd sc g0 g1 gd gc h82 h83 Jae hd he;simp -implicitDefEqProofs only[SP,WP,sevalprocAttr,Zb,l0,l1,hz',p1,ld1,tp1,hlen,fa.eq_1,fa.eq_2,List.set,Tc,st0,e1,pd,ldd,pe,l2,w1,sat,hdr,sst,lT,sT,lR]
end Go.AM.B1
