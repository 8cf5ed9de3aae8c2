/- What functions of the program compute. -/
import Derived.Test.YtijlhblleiaomaaGreatL4
import Derived.Test.YtijlhblleiaomaaGreatL6
import Derived.Test.YtijlhblleiaomaaGreatL2
set_option linter.unusedVariables false
set_option linter.unusedSimpArgs false
namespace Go.AM.B1
open Go.AM
theorem u9(Wa:List Int):∀ (xs ys:List Nat)(r:List Int×List Int),xf Wa (xs++ys) r=xf Wa ys (xf Wa xs r)
 | [],ys,r=>rfl
 |x::xs,ys,r=>by rw[Sg,xf,xf,u9 Wa xs]
theorem T0{a:Int}:∀ {l:List Int}{k i:Nat},Wj a l k=some i->k<=i/\l[i - k]? =some a
 | [],_,_,h=>by cases h
 |b::l,k,i,h=>by
  simp only[Wj] at h
  split at h
  ·next he=>injection h with h;subst h he;simp
  ·obtain⟨h1,h2⟩:=T0 h
   refine⟨by omega,?_⟩;have:i - k=(i - (k+1))+1:=by omega
   rw[this,Jj];exact h2
structure NK(Wa O:List Int)(n:Nat)(r:List Int×List Int):Prop where
 len:r.2.length=Wa.length
 hi:∀ x,n<=x->r.2.getD x 0=Wa.getD x 0
 ext:∃ t,r.1=O++t/\∀ o∈t,0<=o/\∃ x,x < n/\Wa.getD x 0=o
 nodup:r.1.Nodup
 val:∀ x,x < n->(Wa.getD x 0 < 0->r.2.getD x 0=Wa.getD x 0)/\(0<=Wa.getD x 0->∃ k:Nat,r.2.getD x 0=(k:Int)/\r.1[k]? =some (Wa.getD x 0))
theorem Vq{l:List Int}{x y:Nat}{v:Int}(hx:x < l.length):(l.set x v).getD y 0=if y=x then v else l.getD y 0:=by
 rw[sf,sf]
 by_cases h:y=x
 ·subst h;rw[Of hx,if_pos rfl];rfl
 ·rw[ze (tf h),qa h]
theorem NK.next{Wa O:List Int}{n:Nat}{r:List Int×List Int}(h:NK Wa O n r)(hn:n < Wa.length):
 NK Wa O (n+1) (Bh n (Wa.getD n 0) r)/\(Bh n (Wa.getD n 0) r).2.getD n 0<=r.1.length/\
 (((Bh n (Wa.getD n 0) r).1.length:Int)=if (Bh n (Wa.getD n 0) r).2.getD n 0=r.1.length then (r.1.length:Int)+1 else r.1.length)/\
 (∀ x,x < n->(Bh n (Wa.getD n 0) r).2.getD x 0=r.2.getD x 0):=by
 obtain⟨t,ht,hts⟩:=h.ext
 have hl:n < r.2.length:=by rw[h.len];exact hn
 have Va:∀ x,x < n->x≠n:=fun x hx=>by omega
 unfold Bh
 by_cases h0:Wa.getD n 0 < 0
 ·rw[if_pos h0]
  have hv:=h.hi n (gb _)
  refine⟨⟨h.len,fun x hx=>h.hi x (by omega),⟨t,ht,fun o ho=>⟨(hts o ho).1,by obtain⟨x,hx,e⟩:=(hts o ho).2;exact⟨x,by omega,e⟩⟩⟩,h.nodup,?_⟩,by rw[hv];omega,by rw[hv,qa (by omega)],fun x hx=>rfl⟩;intro x hx;rcases yd x n with h1 | h1
  ·exact h.val x h1
  ·have:x=n:=by omega
   subst this;exact⟨fun _=>hv,fun h2=>by omega⟩
 ·rw[qa h0]
  cases hi:Wj (Wa.getD n 0) r.1 0 with
  |some k=>
   have hk:=(T0 hi).2
   rw[Xz] at hk;have US:=(Ad.1 hk).1
   simp only;refine⟨⟨by rw[Um,h.len],?_,⟨t,ht,fun o ho=>⟨(hts o ho).1,by obtain⟨x,hx,e⟩:=(hts o ho).2;exact⟨x,by omega,e⟩⟩⟩,h.nodup,?_⟩,?_,?_,?_⟩
   ·intro x hx;rw[Vq hl,qa (by omega)];exact h.hi x (by omega)
   ·intro x hx
    rcases yd x n with h1 | h1
    ·rw[Vq hl,qa (by omega)];exact h.val x h1
    ·have:x=n:=by omega
     subst this;rw[Vq hl,if_pos rfl];exact⟨fun h2=>absurd h2 h0,fun _=>⟨k,rfl,hk⟩⟩
   ·rw[Vq hl,if_pos rfl];omega
   ·rw[Vq hl,if_pos rfl,qa (by omega)]
   ·intro x hx;rw[Vq hl,qa (by omega)]
  |none=>
   have hnm:=KT hi;simp only;refine⟨⟨by rw[Um,h.len],?_,⟨t++[Wa.getD n 0],by rw[ht,Ij],?_⟩,?_,?_⟩,?_,?_,?_⟩
   ·intro x hx;rw[Vq hl,qa (by omega)];exact h.hi x (by omega)
   ·intro o ho
    rcases Bd.1 ho with h1 | h1
    ·exact⟨(hts o h1).1,by obtain⟨x,hx,e⟩:=(hts o h1).2;exact⟨x,by omega,e⟩⟩
    ·simp only[ym] at h1;subst h1;exact⟨by omega,n,by omega,rfl⟩
   ·rw[List.nodup_append]
    refine⟨h.nodup,by simp,fun a ha b hb=> ?_⟩;simp only[ym] at hb;subst hb;intro e;subst e;exact hnm ha
   ·intro x hx
    rcases yd x n with h1 | h1
    ·rw[Vq hl,qa (by omega)]
     refine⟨(h.val x h1).1,fun h2=> ?_⟩;obtain⟨k,e1,e2⟩:=(h.val x h1).2 h2
     exact⟨k,e1,by rw[Kc (Ad.1 e2).1];exact e2⟩
    ·have:x=n:=by omega
     subst this;rw[Vq hl,if_pos rfl];exact⟨fun h2=>absurd h2 h0,fun _=>⟨_,rfl,by simp⟩⟩
   ·rw[Vq hl,if_pos rfl];omega
   ·rw[Vq hl,if_pos rfl,if_pos rfl,Pc];simp
   ·intro x hx;rw[Vq hl,qa (by omega)]
theorem T8{Wa O:List Int}(hO:O.Nodup):∀ n:Nat,n<=Wa.length->NK Wa O n (xf Wa (List.range n) (O,Wa))/\
 (∀ x,x < n->(xf Wa (List.range n) (O,Wa)).2.getD x 0<=((xf Wa (List.range x) (O,Wa)).1.length:Int)/\
  ((xf Wa (List.range (x+1)) (O,Wa)).1.length:Int)=if (xf Wa (List.range n) (O,Wa)).2.getD x 0=((xf Wa (List.range x) (O,Wa)).1.length:Int) then ((xf Wa (List.range x) (O,Wa)).1.length:Int)+1 else ((xf Wa (List.range x) (O,Wa)).1.length:Int))
 |0,_=>⟨⟨rfl,fun x _=>rfl,⟨[],by simp[xf]⟩,hO,by omega⟩,by omega⟩
 |n+1,hn=>by
  obtain⟨h1,h2⟩:=T8 (Wa:=Wa) hO n (by omega);obtain⟨k1,k2,k3,k4⟩:=h1.next (by omega)
  have e:xf Wa (List.range (n+1)) (O,Wa)=Bh n (Wa.getD n 0) (xf Wa (List.range n) (O,Wa)):=by rw[jv,u9];rfl
  refine⟨by rw[e];exact k1,fun x hx=> ?_⟩;rcases yd x n with h3 | h3
  ·rw[e,k4 x h3];exact h2 x h3
  ·have:x=n:=by omega
   subst this;rw[e];exact⟨k2,k3⟩
structure jG(D:List Int)(O:List Int)(o:Int)(e:List Oa):Prop where
 ex:∃ row,e=fh row/\∀ x,x < 256->((Kb D o.toNat).getD x 0 < 0->row.getD x 0=(Kb D o.toNat).getD x 0)/\
  (0<=(Kb D o.toNat).getD x 0->∃ k:Nat,row.getD x 0=(k:Int)/\O[k]? =some ((Kb D o.toNat).getD x 0))
theorem jG.mono{D O:List Int}{o:Int}{e:List Oa}(h:jG D O o e)(t:List Int):jG D (O++t) o e:=by
 obtain⟨row,h1,h2⟩:=h.ex
 refine⟨row,h1,fun x hx=>⟨(h2 x hx).1,fun h0=> ?_⟩⟩;obtain⟨k,h3,h4⟩:=(h2 x hx).2 h0
 exact⟨k,h3,by rw[Kc (Ad.1 h4).1];exact h4⟩
def JK:Int->Int->List (List Oa)->Prop
 |_,_,[]=>True
 |m,i,e::l=>i < m/\Qt m e/\JK (iq m e) (i+1) l
def Ew(m:Int)(l:List (List Oa)):Int:=l.foldl iq m
theorem V3:∀ {m i:Int}{l:List (List Oa)}{e:List Oa},JK m i l->i+l.length < Ew m l->Qt (Ew m l) e->JK m i (l++[e])
 |m,i,[],e,_,h1,h2=>⟨by simpa[Ew] using h1,h2,trivial⟩
 |m,i,a::l,e,h,h1,h2=>⟨h.1,h.2.1,V3 h.2.2 (by simp only[Td] at h1;simp only[Ew,zx] at h1;simp only[Ew];omega) h2⟩
theorem Tal(m:Int)(l:List (List Oa))(e:List Oa):Ew m (l++[e])=iq (Ew m l) e:=by
 unfold Ew;rw[PC];rfl
structure Yr(D:List Int)(n:Nat)(J:Int->Prop)(O:List Int)(l:List (List Oa)):Prop where
 ord:Lq n O
 pa:O[0]? =some 0
 le:l.length<=O.length
 rows:∀ (k:Nat) o e,O[k]? =some o->l[k]? =some e->jG D O o e
 met:Ew 1 l=O.length
 Wal:JK 1 0 l
 all:∀ o∈O,J o
 y9:∀ e∈l,∀ x∈e,x.to < O.length
section
variable {D:List Int}{n:Nat}{J:Int->Prop}(hD:D.length=n * 256)(cD:∀ c∈D,c < n)
 (hJ:∀ o,J o->0<=o->o < n->∀ x,x < 256->0<=(Kb D o.toNat).getD x 0->J ((Kb D o.toNat).getD x 0))
include hD cD hJ
theorem Yr.next{O:List Int}{l:List (List Oa)}(h:Yr D n J O l){o:Int}(ho:O[l.length]? =some o):
 Yr D n J (fj D o O).1 (l++[fh (fj D o O).2]):=by
 have FZ:=vj ho;have hb:=h.ord.2 o FZ
 have hlt:=(Ad.1 ho).1
 have Ui:(Kb D o.toNat).length=256:=xq hD (by omega)
 obtain⟨k1,k2⟩:=T8 (Wa:=Kb D o.toNat) h.ord.1 256 (by omega)
 obtain⟨t,ht,hts⟩:=k1.ext
 unfold fj;have hm:=EX (row:=(xf (Kb D o.toNat) (List.range 256) (O,Kb D o.toNat)).2) (g:=fun x=>((xf (Kb D o.toNat) (List.range x) (O,Kb D o.toNat)).1.length:Int)) (fun x=>by omega) 256 (fun x hx=>(k2 x hx).1) (fun x hx=>(k2 x hx).2);generalize hr:xf (Kb D o.toNat) (List.range 256) (O,Kb D o.toNat)=r at *;obtain⟨m1,m2,m3⟩:=hm;have uE:((xf (Kb D o.toNat) (List.range 0) (O,Kb D o.toNat)).1.length:Int)=O.length:=rfl
 simp only[uE] at m1 m2;have e1:qh r.2 (List.range 256) []=fh r.2:=rfl
 rw[e1] at m1 m2 m3;have oe:jG D r.1 o (fh r.2):=⟨r.2,rfl,fun x hx=>k1.val x hx⟩
 have wB:=h.met
 have hget:∀ x,x < 256->(Kb D o.toNat).getD x 0 < n:=by intro x hx;rw[sf,Rb (by omega)];have:=ic (l:=Kb D o.toNat) (n:=x) (by omega);exact cD _ (by unfold Kb at this;exact No (Ot this))
 refine⟨⟨k1.nodup,?_⟩,?_,?_,?_,?_,?_,?_,?_⟩
 ·intro o' Xs
  rw[ht] at Xs;rcases Bd.1 Xs with h1 | h1
  ·exact h.ord.2 o' h1
  ·obtain⟨h2,x,hx,rfl⟩:=hts o' h1;exact⟨h2,hget x hx⟩
 ·rw[ht,Kc (by omega)];exact h.pa
 ·rw[ht];simp;omega
 ·intro k o' e h1 h2
  rcases yd k l.length with h3 | h3
  ·rw[Kc h3] at h2
   rw[ht,Kc (by omega)] at h1;rw[ht];exact (h.rows k o' e h1 h2).mono t
  ·have h4:=(Ad.1 h2).1
   have:k=l.length:=by simp at h4;omega
   subst this;rw[Tg (gb _)] at h2;simp at h2;subst h2;rw[ht,Kc (by omega),ho] at h1;injection h1 with h1;subst h1;exact oe
 ·rw[Tal,wB,m1]
 ·exact V3 h.Wal (by rw[wB];omega) (by rw[wB];exact m2)
 ·intro o' Xs
  rw[ht] at Xs;rcases Bd.1 Xs with h1 | h1
  ·exact h.all o' h1
  ·obtain⟨h2,x,hx,rfl⟩:=hts o' h1;exact hJ o (h.all o FZ) hb.1 hb.2 x hx h2
 ·intro e he x hx
  rcases Bd.1 he with h1 | h1
  ·have:=h.y9 e h1 x hx;rw[ht,Pc];omega
  ·simp only[ym] at h1;subst h1;exact m3 x hx
theorem Yr.go:∀ (f:Nat)(O:List Int)(l:List (List Oa)),Yr D n J O l->n<=l.length+f->Yr D n J (gk D f (O,l)).1 (gk D f (O,l)).2/\(gk D f (O,l)).1.length=(gk D f (O,l)).2.length
 |0,O,l,h,hf=>⟨h,by have:=h.ord.len;have:=h.le;show O.length=l.length;omega⟩
 |f+1,O,l,h,hf=>by
  cases ho:O[l.length]? with
  |none=>
   rw[zJ (r:=(O,l)) ho];have:=List.getElem?_eq_none_iff.1 ho
   exact⟨h,by have:=h.le;show O.length=l.length;omega⟩
  |some o=>rw[VO (r:=(O,l)) ho];exact Yr.go f _ _ (h.next hD cD hJ ho) (by simp;omega)
theorem Qar(hn:n<=64)(h0:0 < n)(hJ0:J 0):∃ O,Yr D n J O (Fl D)/\O.length=(Fl D).length:=by
 have h:Yr D n J [0] []:=⟨⟨by simp,by simp;omega⟩,rfl,by simp,by simp,rfl,trivial,by simpa using hJ0,by simp⟩;have:=Yr.go hD cD hJ 64 [0] [] h (by simp;omega)
 exact⟨_,this.1,this.2⟩
end
open Go.AM Go.AM.So
structure dv(ss:List ya)(ma:List Al)(C:List (List Int))(O:List Int)(l:List (List Oa)):Prop where
 ok:uc ss
 pre:Ee ss
 W:og ss ma C
 hl:C.length=ma.length
 told:Yr (eg C.length C.flatten).C C.length (fun o=>∃ j,j < C.length/\o=co C j) O l
 len:O.length=l.length
 pos:0 < C.length
 le:C.length<=64
theorem cR(C:List (List Int)):co C 0=0:=by unfold co;rw[if_pos rfl]
section
variable {ss:List ya}{ma:List Al}{C:List (List Int)}(W:og ss ma C)(hl:C.length=ma.length)
include W hl
theorem O4{j x:Nat}(hj:j < C.length)(hx:x < 256):Yi C j x=if 0<=Fb C j x then co C (Fb C j x).toNat else Fb C j x:=by
 unfold Yi
 split
 ·next h=>
  have:=W.MD hl hj hx h
  unfold co;rw[qa (by omega)]
 ·rfl
end
theorem RV{ss:List ya}{l:List (List Oa)}(ga:uc ss)(wc:Ee ss)(h:bf ss=some l):∃ ma C O,dv ss ma C O l:=by
 unfold bf at h;rw[dc] at h;obtain⟨⟨ma,C⟩,hw,rfl⟩:=h;obtain⟨W,hl⟩:=O9 ga.len (fun s hs=>(ga.He s hs).lo) hw
 have W:og ss ma C:=W;have hl:C.length=ma.length:=hl
 have hm:=W.Kn hl
 have h0:0 < C.length:=by rw[hl];exact (Ad.1 W.pa).1
 have lE:C.length<=64:=by rw[hl];exact W.ok.1
 have Xc:∀ j x,j < C.length->x < 256->(Kb (eg C.length C.flatten).C (co C j).toNat).getD x 0=Yi C j x:=fun j x hj hx=>KL W hl hj hx
 obtain⟨O,h1,h2⟩:=Qar (n:=C.length) (J:=fun o=>∃ j,j < C.length/\o=co C j) (D:=(eg C.length C.flatten).C) hm.hC (by
  intro c hc;obtain⟨p,hp,rfl⟩:=uj hc;have xc:p < C.length * 256:=by rw[<- hm.hC];exact hp
  have e1:(eg C.length C.flatten).C[p]=(Kb (eg C.length C.flatten).C (p / 256)).getD (p % 256) 0:=by
   rw[sf,iJ (Cx _ (by omega))];have:p / 256 * 256+p % 256=p:=by omega
   rw[this,Rb hp];rfl
  rw[e1,W.KD hl (by omega) (Cx _ (by omega))];have hb:=W.bound hl (k:=p / 256) (x:=p % 256) (by omega) (Cx _ (by omega))
  unfold Yi
  split
  ·exact (hm.Uy (j:=(Fb C (p / 256) (p % 256)).toNat) (by omega)).2.1
  ·exact hb.2) (by
  rintro o ⟨j,hj,rfl⟩ _ _ x hx h3;rw[Xc j x hj hx,O4 W hl hj hx] at h3 ⊢;have hb:=W.bound hl hj hx
  split at h3
  ·next h4=>rw[if_pos h4];exact⟨_,by omega,rfl⟩
  ·omega) lE h0 ⟨0,h0,(cR C).symm⟩
 exact⟨ma,C,O,ga,wc,W,hl,h1,h2,h0,lE⟩
section
variable {ss:List ya}{ma:List Al}{C:List (List Int)}{O:List Int}{l:List (List Oa)}
theorem dv.pa(h:dv ss ma C O l):O[0]? =some (co C 0):=by rw[cR];exact h.told.pa
theorem dv.row(h:dv ss ma C O l){k j:Nat}(hk:O[k]? =some (co C j))(hj:j < C.length):∃ row,l[k]? =some (fh row)/\
 ∀ x,x < 256->(Fb C j x < 0->row.getD x 0=Fb C j x)/\(0<=Fb C j x->∃ k':Nat,row.getD x 0=(k':Int)/\0 < k'/\O[k']? =some (co C (Fb C j x).toNat)):=by
 have US:=(Ad.1 hk).1
 have hle:=h.len
 have he:l[k]? =some l[k]:=Rb (by omega);obtain⟨row,h1,h2⟩:=(h.told.rows k _ _ hk he).ex
 refine⟨row,by rw[he,h1],fun x hx=> ?_⟩;have h3:=h2 x hx;rw[KL h.W h.hl hj hx,O4 h.W h.hl hj hx] at h3;constructor
 ·intro h4
  rw[qa (by omega)] at h3;exact h3.1 h4
 ·intro h4
  rw[if_pos h4] at h3;have hd:=h.W.MD h.hl hj hx h4
  have hb:=h.W.bound h.hl hj hx
  have hc:0<=co C (Fb C j x).toNat:=by
   unfold co;split
   ·omega
   ·exact ((h.W.Kn h.hl).Uy (by omega)).1
  obtain⟨k',e1,e2⟩:=h3.2 hc
  refine⟨k',e1,?_,e2⟩;rcases Bx k' with rfl | h5
  ·rw[h.pa,cR] at e2
   injection e2 with e2
   unfold co at e2;rw[qa (by omega)] at e2;exact absurd e2.symm (ZW h.ok h.pre h.W h.hl (by omega) (by omega))
  ·exact h5
end
section
variable {ss:List ya}{ma:List Al}{C:List (List Int)}{O:List Int}{l:List (List Oa)}(h:dv ss ma C O l)
include h
theorem dv.step{k j:Nat}(hk:O[k]? =some (co C j))(hj:j < C.length){x:Nat}(hx:x < 256):
 (Fb C j x= -2/\Md l (k:Int) (x:Int)=(0,false))\/(Fb C j x= -1/\Md l (k:Int) (x:Int)=(-1,true))\/
 (0<=Fb C j x/\Fb C j x < C.length/\∃ k':Nat,Md l (k:Int) (x:Int)=((k':Int),true)/\0 < k'/\O[k']? =some (co C (Fb C j x).toNat)):=by
 obtain⟨row,h1,h2⟩:=h.row hk hj
 have h3:=(tR row).step x hx
 obtain⟨h4,h5⟩:=h2 x hx;have hb:=h.W.bound h.hl hj hx
 have hs:Md l (k:Int) (x:Int)=match Gh (x:Int) (fh row) with
  |some t=>(t,true)
  |none=>(0,false):=by
  unfold Md;rw[qa (by omega),Uc,h1] <;> rfl
 rw[h3] at hs
 by_cases c0:0<=Fb C j x
 ·obtain⟨k',e1,e2,e3⟩:=h5 c0
  rw[e1,qa (by omega)] at hs;exact .inr (.inr ⟨c0,hb.2,k',hs,e2,e3⟩)
 ·have h6:=h4 (by omega)
  rw[h6] at hs
  by_cases c1:Fb C j x= -2
  ·rw[if_pos c1] at hs;exact .inl ⟨c1,hs⟩
  ·have c2:Fb C j x= -1:=by omega
   rw[qa c1,c2] at hs;exact .inr (.inl ⟨c2,hs⟩)
theorem dv.match:∀ (bs:List Nat)(i k j:Nat),Bytes bs->O[k]? =some (co C j)->j < C.length->
 ∃ m:Nat,m<=bs.length/\((vh l i (k:Int) (bs.map fun (n:Nat)=>(n:Int))=(((i+m:Nat):Int),1)/\0 < m/\runT C j (bs.take m)= -1)\/
  (vh l i (k:Int) (bs.map fun (n:Nat)=>(n:Int))=(((i+m:Nat):Int),2)/\m=bs.length/\0<=runT C j bs)\/
  (vh l i (k:Int) (bs.map fun (n:Nat)=>(n:Int))=(((i+m:Nat):Int),3)/\m < bs.length/\0<=runT C j (bs.take m)/\runT C j (bs.take (m+1))= -2))
 | [],i,k,j,_,hk,hj=>⟨0,by simp,.inr (.inl ⟨rfl,rfl,Int.natCast_nonneg j⟩)⟩
 |x::bs,i,k,j,hb,hk,hj=>by
  have hx:x < 256:=hb x (by simp);have Vl:Bytes bs:=fun y hy=>hb y (by simp[hy]);have Vs:¬((j:Int) < 0):=by omega
  rw[Pf,vh];rcases h.step hk hj hx with⟨h1,h2⟩ | ⟨h1,h2⟩ | ⟨h1,Jg,k',h2,h3,h4⟩
  ·rw[h2]
   refine⟨0,by simp,.inr (.inr ⟨rfl,by simp,Int.natCast_nonneg j,?_⟩)⟩;show runT C j [x]= -2;rw[runT,qa Vs,Uc,h1];rfl
  ·rw[h2]
   refine⟨1,by simp,.inl ⟨rfl,by omega,?_⟩⟩;show runT C j [x]= -1;rw[runT,qa Vs,Uc,h1];rfl
  ·rw[h2]
   simp only[Bool.true_eq_false,if_false];rw[qa (by omega)];obtain⟨m,hm,hc⟩:=dv.match bs (i+1) k' (Fb C j x).toNat Vl h4 (by omega)
   have hr:∀ w,runT C j (x::w)=runT C ((Fb C j x).toNat:Nat) w:=by intro w;rw[runT,qa Vs,Uc,Ur h1]
   have he:i+1+m=i+(m+1):=by omega
   rw[he] at hc;refine⟨m+1,by simp;omega,?_⟩;rcases hc with⟨c1,c2,c3⟩ | ⟨c1,c2,c3⟩ | ⟨c1,c2,c3,c4⟩
   ·exact .inl ⟨c1,by omega,by rw[RC,hr];exact c3⟩
   ·exact .inr (.inl ⟨c1,by simp[c2],by rw[hr];exact c3⟩)
   ·exact .inr (.inr ⟨c1,by simp;omega,by rw[RC,hr];exact c3,by rw[RC,hr];exact c4⟩)
end
theorem J3{ss:List ya}{l:List (List Oa)}(ga:uc ss)(wc:Ee ss)(ha:bf ss=some l)(bs:List Nat)(hb:Bytes bs):
 ∃ m:Nat,m<=bs.length/\((vh l 0 0 (bs.map fun (n:Nat)=>(n:Int))=((m:Int),1)/\∃ s∈ss,Full s (bs.take m))\/
  (vh l 0 0 (bs.map fun (n:Nat)=>(n:Int))=((m:Int),2)/\m=bs.length/\(bs=[]\/∃ s∈ss,uh s bs)/\∀ s∈ss,¬Full s bs)\/
  (vh l 0 0 (bs.map fun (n:Nat)=>(n:Int))=((m:Int),3)/\m < bs.length/\(bs.take m=[]\/∃ s∈ss,uh s (bs.take m))/\(∀ s∈ss,¬Full s (bs.take m))/\∀ s∈ss,¬uh s (bs.take (m+1)))):=by
 obtain⟨ma,C,O,h⟩:=RV ga wc ha;obtain⟨m,hm,hc⟩:=h.match bs 0 0 0 hb h.pa h.pos
 have Qs:∀ m,Bytes (bs.take m):=fun m x hx=>hb x (Ot hx);have nN:∀ w,Bytes w->CV ss ma w (runT C 0 w):=fun w hw=>qJ ga wc h.W h.hl _ w rfl hw
 rw[De] at hc;refine⟨m,hm,?_⟩;rcases hc with⟨c1,c2,c3⟩ | ⟨c1,c2,c3⟩ | ⟨c1,c2,c3,c4⟩
 ·refine .inl ⟨c1,?_⟩
  rcases nN _ (Qs m) with⟨_,q⟩ | ⟨q,_⟩ | ⟨q,_⟩
  ·exact q
  ·have:runT C ((0:Nat):Int) (bs.take m)= -1:=c3
   rw[show ((0:Nat):Int)=0 from rfl] at this;omega
  ·have:runT C ((0:Nat):Int) (bs.take m)= -1:=c3
   rw[show ((0:Nat):Int)=0 from rfl] at this;omega
 ·refine .inr (.inl ⟨c1,c2,?_⟩)
  rw[show ((0:Nat):Int)=0 from rfl] at c3;rcases nN _ hb with⟨q,_⟩ | ⟨_,_,q1,q2⟩ | ⟨q,_⟩
  ·omega
  ·refine⟨?_,q2⟩
   rcases q1 with q1 | ⟨s,h1,h2,_⟩
   ·exact .inl q1
   ·exact .inr ⟨s,h1,h2⟩
  ·omega
 ·rw[show ((0:Nat):Int)=0 from rfl] at c3 c4
  refine .inr (.inr ⟨c1,c2,?_⟩)
  have h4:∀ s∈ss,¬uh s (bs.take (m+1)):=by
   rcases nN _ (Qs (m+1)) with⟨q,_⟩ | ⟨q,_⟩ | ⟨_,_,q⟩
   ·omega
   ·omega
   ·exact q
  rcases nN _ (Qs m) with⟨q,_⟩ | ⟨_,_,q1,q2⟩ | ⟨q,_⟩
  ·omega
  ·refine⟨?_,q2,h4⟩
   rcases q1 with q1 | ⟨s,h1,h2,_⟩
   ·exact .inl q1
   ·exact .inr ⟨s,h1,h2⟩
  ·omega
theorem Uad{row:List Int}{e:Oa}(he:e∈fh row):0<=e.lo/\e.lo<=e.hi/\e.hi < 256/\e.to≠ -2/\e.to=row.getD e.lo.toNat 0:=by
 have h:=tR row;obtain⟨h1,h2,h3,h4⟩:=h.jg e he
 have hs:=h.step e.lo.toNat (by omega)
 rw[Ur h1,Q8 h.ord e he (Ll _) h2] at hs;refine⟨h1,h2,h3,h4,?_⟩
 split at hs
 ·cases hs
 ·injection hs
theorem uR{ss:List ya}{l:List (List Oa)}(ga:uc ss)(wc:Ee ss)(h:bf ss=some l):∀ e∈l,Kl e:=by
 obtain⟨ma,C,O,L⟩:=RV ga wc h;intro e he;obtain⟨k,hk,rfl⟩:=uj he;have mr:k < O.length:=by rw[L.len];exact hk
 obtain⟨j,hj,ho⟩:=L.told.all O[k] (ic mr)
 obtain⟨row,h1,h2⟩:=L.row (k:=k) (j:=j) (by rw[Rb mr,ho]) hj
 rw[Rb hk] at h1;injection h1 with h1
 have ZZ:=L.told.y9 _ (ic hk)
 have lE:=(DP h).1
 have hlen:=L.len
 rw[h1] at ZZ ⊢;refine⟨fun x hx=> ?_,(tR row).ord⟩;obtain⟨e1,e2,e3,e4,e5⟩:=Uad hx;have:=ZZ x hx;refine⟨e1,e2,e3,?_,by omega⟩;obtain⟨f1,f2⟩:=h2 x.lo.toNat (by omega)
 by_cases hc:Fb C j x.lo.toNat < 0
 ·have hb:=L.W.bound L.hl hj (x:=x.lo.toNat) (by omega)
  rw[f1 hc] at e5;omega
 ·obtain⟨k',g1,_⟩:=f2 (by omega)
  rw[g1] at e5;omega
def Mw(r:List Int):PV:= .agg (r.map aa)
theorem NW{sz:Nat}:∀ {D:List (List PV)},(∀ r∈D,r.length=sz)->chunk sz true D.length D.flatten=D.map .agg
 | [],_=>rfl
 |r::D,h=>by have hr:=h r (by simp);rw[Td,chunk,if_pos rfl,um,List.take_left' hr,List.drop_left' hr,NW fun x hx=>h x (by simp[hx])];rfl
theorem TW:∀ {D:List (List Int)},(∀ r∈D,r.length=3)->xk 3 D.length D.flatten=D
 | [],_=>rfl
 |r::D,h=>by have hr:=h r (by simp);rw[Td,xk,um,List.take_left' hr,List.drop_left' hr,TW fun x hx=>h x (by simp[hx])]
def Nh(ss:List ya):List (List Int):=(qm 3 0 (Ah ss ss.length).toArray).toList
theorem mJ(ss:List ya):(Nh ss).Perm (Ah ss ss.length):=(LO 3 0 (Ah ss ss.length).toArray).2.1
theorem RU{ss:List ya}{r:List Int}(h:r∈Nh ss):r.length=3:=sO ((mJ ss).mem_iff.1 h)
theorem J7(ss:List ya):(Nh ss).length=ss.length:=by rw[(mJ ss).length_eq,xF]
structure wk(T:PV)(ss:List ya)(l:List (List Oa)):Prop where
 ex:∃ S' NX DG RW,T= .rp [S',ni l,NX,DG,RW,aa (wh ss)] 0/\Pb 2 S' (ss.map dg)/\Pb 256 NX (l.map ql)/\Pb 1 DG (ss.map fun s=>Te s.ba)/\Pb 3 RW ((Nh ss).map Mw)
section
variable {S:PV}{ss:List ya}{es:List PV}(hS:zd S ss es)
include hS
theorem bX{n:Int}{V:PV}(hV:(AV.pv V).one=true)(h0:n≠0)(h1:n≠130)(hb:qk [.agg [S]]=some (.Ba [.agg [V],aa n])):rk [.agg [S]]=some (.Ba [.Ic,aa n]):=by
 have Ve:(AV.pv S).one=true:=by rcases hS.is with⟨h,_⟩ | h <;> rw[h] <;> rfl
 have d0:(n==0)=false:=by simp[h0]
 have d1:(n==130)=false:=by simp[h1]
 have d2:(n != 0)=true:=by simp[h0]
 have st:Db [.box [.pv .oa]] 1 (.ptr 0 0) (.pv (.agg [V]))=some [.box [.pv V]]:=by simp[Db,AV.cells,PV.cells,hV,za]
 simp -implicitDefEqProofs only[rk,ez.eq_1,SX,sevalprocAttr,DD,Ve,pj,hb,st,d0,d1,d2]
theorem cX{n:Int}{V:PV}{y:Bool}{a b:Int}(hV:(AV.pv V).one=true)(h0:n=0\/n=130)(hy:n=130\/y=false)(hb:qk [.agg [S]]=some (.Ba [.agg [V],aa n]))(hi:ax [.agg [S]]=some (.Ba [.agg [.bool y,aa a,aa b],aa 0])):
 rk [.agg [S]]=some (.Ba [.Ic,aa (if y then n else 111)]):=by
 have Ve:(AV.pv S).one=true:=by rcases hS.is with⟨h,_⟩ | h <;> rw[h] <;> rfl
 have st:Db [.box [.pv .oa]] 1 (.ptr 0 0) (.pv (.agg [V]))=some [.box [.pv V]]:=by simp[Db,AV.cells,PV.cells,hV,za]
 have st2:Db [.box [.pv V],.box [.pv (.bool false),.pv (aa 0),.pv (aa 0)]] 3 (.ptr 1 0) (.pv (.agg [.bool y,aa a,aa b]))=some [.box [.pv V],.box [.pv (.bool y),.pv (aa a),.pv (aa b)]]:=rfl;have p2:∀ a b c d,place [a,.box [b,c,d]] 0 (.ptr 1 0)=some (.ptr 1 0):=fun a b c d=>rfl;have l2:∀ a b c d,wa [a,.box [b,c,d]] false 1 (.ptr 1 0)=some b:=fun a b c d=>rfl;have z0:((0:Int)==0)=true:=rfl;have z1:((130:Int)==0)=false:=rfl;have z2:((130:Int)==130)=true:=rfl;have z3:((130:Int) != 0)=true:=rfl;have z4:((111:Int) != 0)=true:=rfl;rcases h0 with rfl | rfl
 ·obtain rfl:y=false:=by rcases hy with h | h;cases h;exact h
  simp -implicitDefEqProofs only[rk,ez.eq_1,SX,sevalprocAttr,DD,Ve,pj,hb,hi,st,st2,p2,l2,z0,z1,z2,z3,z4]
 ·cases y <;> simp -implicitDefEqProofs only[rk,ez.eq_1,SX,sevalprocAttr,DD,Ve,pj,hb,hi,st,st2,p2,l2,z0,z1,z2,z3,z4]
end
theorem V1(l:List Int)(n:Nat):(cf l).all (AV.qc n deep)=true:=by
 rw[Df];intro x hx;obtain⟨y,_,rfl⟩:=Re.1 hx
 rfl
theorem xaj{V S':PV}{y:Bool}{a b:Int}(nl:Bool)(ds:List PV)(D:List (List Int))(fl:Nat)(nr:Bool)(m:Int):
 Pd (Eg (.box [.pv V]) (.box [.pv (.bool y),.pv (aa a),.pv (aa b)]) (.tok 256 0 true) (.pv S') (.pv V) (.uq 3 true 256 []) nl ds D fl nr m):=by
 intro n hn o ho;have hn:6<=n:=hn;simp only[Eg,Ae,Vm,or_false] at ho;rcases ho with rfl | rfl | rfl | rfl | rfl | rfl
 ·exact CA n [V]
 ·exact CA n [.bool y,aa a,aa b]
 ·simp only[Fa,Ha,bc,oH (show 3 < n by omega),oH (show 4 < n by omega),iX (show 5 < n by omega),Lc,Vc]
 ·rfl
 ·rfl
 ·simp only[Fa,V1,if_true]
theorem yaj{V S':PV}{y:Bool}{a b m:Int}{nl:Bool}{ds:List PV}{D:List (List Int)}{fl k:Nat}{nr:Bool}(nx:Bool)(es:List PV):
 Pd (Vf (.box [.pv V]) (.box [.pv (.bool y),.pv (aa a),.pv (aa b)]) (.tok 1 k nl) (.seq 3 true (cf D.flatten) fl nr) (.pv S') (.pv V) (.uq 4 nl 1 ds) (.own 5 k) (.pv (aa m)) nx es):=by
 intro n hn o ho;have hn:6<=n:=hn;simp only[Vf,Ae,Vm,or_false] at ho;rcases ho with rfl | rfl | rfl | rfl | rfl | rfl
 ·exact CA n [V]
 ·exact CA n [.bool y,aa a,aa b]
 ·simp only[Fa,Ha,bc,oH (show 3 < n by omega),oH (show 4 < n by omega),iX (show 5 < n by omega),Lc,Vc]
 ·rfl
 ·rfl
 ·simp only[Fa,V1,if_true]
theorem zaj{V S':PV}{o0 o1:fa}{m:Int}{nl nr nx:Bool}{ds es:List PV}{D:List (List Int)}{fl k:Nat}(hk:D.length=k)(hD:∀ r∈D,r.length=3)(h1:nl=true->ds=[])(h2:nr=true->D=[])(h3:nx=true->es=[]):
 ∃ NX DG RW,qb (Vf o0 o1 (.tok 1 k nl) (.seq 3 true (cf D.flatten) fl nr) (.pv S') (.pv V) (.uq 4 nl 1 ds) (.own 5 k) (.pv (aa m)) nx es) 5 (.ptr 2 0)=some (.rp [S',V,NX,DG,RW,aa m] 0)/\
  Pb 256 NX es/\Pb 1 DG ds/\Pb 3 RW (D.map Mw):=by
 refine⟨if nx then .oa else .lit 256 es,if nl then .oa else .lit 1 ds,if nr then .oa else .lit 3 (D.map Mw),?_,?_,?_,?_⟩
 ·have hc:k * 3=(cf D.flatten).length/\(true||(3:Nat)==1)=true:=⟨by rw[wb,uM hD,hk],rfl⟩
  have hm:Ha (qb (Vf o0 o1 (.tok 1 k nl) (.seq 3 true (cf D.flatten) fl nr) (.pv S') (.pv V) (.uq 4 nl 1 ds) (.own 5 k) (.pv (aa m)) nx es) 3) (cf D.flatten)=some (D.flatten.map aa):=by
   generalize Vf o0 o1 (.tok 1 k nl) (.seq 3 true (cf D.flatten) fl nr) (.pv S') (.pv V) (.uq 4 nl 1 ds) (.own 5 k) (.pv (aa m)) nx es=H;generalize D.flatten=F
   induction F with
   |nil=>rfl
   |cons x F ih=>show Ha (qb H 3) (.pv (aa x)::cf F)=_;rw[Ha,ih];rfl
  have gB:chunk 3 true k (D.flatten.map aa)=D.map Mw:=by
   have:=NW (sz:=3) (D:=D.map fun r=>r.map aa) (by
    intro r hr;obtain⟨q,hq,rfl⟩:=Re.1 hr
    rw[wb,hD q hq])
   rw[wb,Iq,<-List.map_flatten,hk] at this;exact this
  have h5:(Vf o0 o1 (.tok 1 k nl) (.seq 3 true (cf D.flatten) fl nr) (.pv S') (.pv V) (.uq 4 nl 1 ds) (.own 5 k) (.pv (aa m)) nx es)[5]? =some (.seq 3 true (cf D.flatten) fl nr):=rfl;have hb:(Vf o0 o1 (.tok 1 k nl) (.seq 3 true (cf D.flatten) fl nr) (.pv S') (.pv V) (.uq 4 nl 1 ds) (.own 5 k) (.pv (aa m)) nx es)[2]? =some (.box [.pv S',.pv V,.uq 3 nx 256 es,.uq 4 nl 1 ds,.own 5 k,.pv (aa m)]):=rfl;have ho:qb (Vf o0 o1 (.tok 1 k nl) (.seq 3 true (cf D.flatten) fl nr) (.pv S') (.pv V) (.uq 4 nl 1 ds) (.own 5 k) (.pv (aa m)) nx es) 4 (.own 5 k)=some (if nr then .oa else .lit 3 (D.map Mw)):=by simp only[qb,h5,if_pos hc,hm,Vc,gB];cases nr <;> rfl
  generalize Vf o0 o1 (.tok 1 k nl) (.seq 3 true (cf D.flatten) fl nr) (.pv S') (.pv V) (.uq 4 nl 1 ds) (.own 5 k) (.pv (aa m)) nx es=H at *;show (match H[2]? with | some (.box cells)=>(Ha (qb H 4) cells).map fun ps=>PV.rp ps 0 | _=>none)=_;rw[hb];have hv:∀ p:PV,qb H 4 (.pv p)=some p:=fun p=>rfl;have hu:∀ id nl sz es,qb H 4 (.uq id nl sz es)=some (if nl then .oa else .lit sz es):=fun _ _ _ _=>rfl;simp only[Ha,hv,hu,ho,Lc,Vc]
 ·cases nx with
  |false=>exact .inr rfl
  |true=>exact .inl ⟨rfl,h3 rfl⟩
 ·cases nl with
  |false=>exact .inr rfl
  |true=>exact .inl ⟨rfl,h1 rfl⟩
 ·cases nr with
  |false=>exact .inr rfl
  |true=>exact .inl ⟨rfl,by rw[h2 rfl];rfl⟩
theorem sap{ss:List ya}(Wq:ss.length<=32){H:List fa}{fl:Nat}{nr:Bool}(hH:H[5]? =some (.seq 3 true (cf (Ah ss ss.length).flatten) fl nr)):
 Ai rz (fun _=>none) 8 34 [.own 5 ss.length,.Ec 36 []] H=some (.pv (.Ba []),H.set 5 (.seq 3 true (cf (Nh ss).flatten) (ss.length * 3) nr)):=by
 have e34:∀ (d:Nat) args H,Ai rz (fun _=>none) (d+1) 34 args H=Pw 3 0 36 args H:=fun d args H=>rfl;rw[e34 7];have hl:(cf (Ah ss ss.length).flatten).length=ss.length * 3:=by rw[wb,uM fun r hr=>sO hr,xF]
 simp only[Pw,hH];rw[if_pos ⟨trivial,trivial,hl.symm,by omega⟩,sN,Vc,hl];have:=TW (D:=Ah ss ss.length) fun r hr=>sO hr;rw[xF] at this;rw[this];rfl
theorem dX{S:PV}{ss:List ya}{es:List PV}(hS:zd S ss es)(ga:uc ss)(wc:Ee ss){l:List (List Oa)}(ha:bf ss=some l){a b:Int}(hi:ax [.agg [S]]=some (.Ba [.agg [.bool true,aa a,aa b],aa 0])):
 ∃ T,rk [.agg [S]]=some (.Ba [T,aa 0])/\wk T ss l:=by
 have Ve:(AV.pv S).one=true:=by rcases hS.is with⟨h,_⟩ | h <;> rw[h] <;> rfl
 have hb:=(Pq hS).2.2.2 ga wc l ha
 obtain⟨S',ny,IM⟩:=eR hS ga;have fah:(AV.pv S').one=true:=by rcases IM with⟨h,_⟩ | h <;> rw[h] <;> rfl
 have lS:=hS.mb
 obtain⟨Q1,P1⟩:=DP ha;have zc:=KX Q1 P1;have YA:(AV.pv (ni l)).one=true:=rfl
 have SH:Pb 1 (ni l) (l.map ae):= .inr rfl
 have lV:=SH.len
 rw[wb] at lV;have IS:=uR ga wc ha;obtain⟨V,TY⟩:∃ V,V=ni l:=⟨_,rfl⟩;rw[<- TY] at hb zc YA SH lV;have st:Db [.box [.pv .oa]] 1 (.ptr 0 0) (.pv (.agg [V]))=some [.box [.pv V]]:=by simp[Db,AV.cells,PV.cells,YA,za]
 have st2:Db [.box [.pv V],.box [.pv (.bool false),.pv (aa 0),.pv (aa 0)]] 3 (.ptr 1 0) (.pv (.agg [.bool true,aa a,aa b]))=some [.box [.pv V],.box [.pv (.bool true),.pv (aa a),.pv (aa b)]]:=rfl;have p2:∀ a b c d,place [a,.box [b,c,d]] 0 (.ptr 1 0)=some (.ptr 1 0):=fun a b c d=>rfl;have l2:∀ a b c d,wa [a,.box [b,c,d]] false 1 (.ptr 1 0)=some b:=fun a b c d=>rfl;have l3:wa [.box [.pv V],.box [.pv (.bool true),.pv (aa a),.pv (aa b)]] true 1 (.ptr 0 0)=some (.pv (.agg [V])):=rfl;have z0:((0:Int)==0)=true:=rfl;have z1:((0:Int) != 0)=false:=rfl;have m1:za [AV.pv PV.oa,.pv .oa,.pv .oa,.pv .oa,.pv .oa,.pv (.int .i64 0)] 0 [AV.pv S']=[.pv S',.pv .oa,.pv .oa,.pv .oa,.pv .oa,.pv (.int .i64 0)]:=rfl;have m2:za [AV.pv S',.pv .oa,.pv .oa,.pv .oa,.pv .oa,.pv (.int .i64 0)] 1 [AV.pv V]=[.pv S',.pv V,.pv .oa,.pv .oa,.pv .oa,.pv (.int .i64 0)]:=rfl;have m3:bd [AV.pv S',.pv V,.pv .oa,.pv .oa,.pv .oa,.pv (.int .i64 0)]=some [S',V,.oa,.oa,.oa,.int .i64 0]:=rfl;have ft:(0 < 256)=True:=by simp
 have SE:(0 < 3)=True:=by simp
 have hz3:(0 < 1)=True:=by simp
 suffices key:Ia (fun r=>∃ T,r= .Ba [T,aa 0]/\wk T ss l) (rk [.agg [S]]) by obtain⟨r,h1,T,rfl,h2⟩:=wg key;exact⟨T,h1,h2⟩
 generalize hQ:(fun r=>∃ T,r=PV.Ba [T,aa 0]/\_)=Q;simp -implicitDefEqProofs only[rk,ez.eq_1,SX,sevalprocAttr,DD,Ve,YA,fah,pj,Xd,ah,hb,hi,st,st2,p2,l2,l3,z0,z1,ny,m1,m2,m3,KF,Af,ft,SE,hz3,lS];generalize vc:(Tr.set _ 48 _:Tr)=E;have q4:E.get 4= .ptr 0 0:=by rw[<- vc];simp[Tr.na]
 have q8:E.get 8= .ptr 2 0:=by rw[<- vc];simp[Tr.na]
 have q46:E.get 46= .pv S:=by rw[<- vc];simp[Tr.na]
 have q47:E.get 47= .pv (aa ss.length):=by rw[<- vc];simp[Tr.na]
 have q48:E.get 48= .pv (aa 0):=by rw[<- vc];simp[Tr.na]
 refine Bb (naq (call:=Ai rz (fun _=>none) 8) (xaj (V:=V) (S':=S') (y:=true) (a:=a) (b:=b)) hS ga q4 q8 q46 q47 q48) ?_;rintro r ⟨_,E2,nl,nr,rfl,g4,g8,Wc,hnr⟩;have vn:(ss.map fun s=>Te s.ba).length=ss.length:=by rw[wb]
 have Ui:=xF ss ss.length
 have Xq:=J7 ss;have p5:∀ d,place (Eg (.box [.pv V]) (.box [.pv (.bool true),.pv (aa a),.pv (aa b)]) (.tok 256 0 true) (.pv S') (.pv V) (.uq 3 true 256 []) nl (ss.map fun s=>Te s.ba) (Ah ss ss.length) 0 nr (wh ss)) d (.ptr 2 0)=some (.ptr 2 (0+d)):=fun d=>Cm rfl d 0;have l5:wa (Eg (.box [.pv V]) (.box [.pv (.bool true),.pv (aa a),.pv (aa b)]) (.tok 256 0 true) (.pv S') (.pv V) (.uq 3 true 256 []) nl (ss.map fun s=>Te s.ba) (Ah ss ss.length) 0 nr (wh ss)) false 1 (.ptr 2 4)=some (.own 5 ss.length):=by rw[<- Ui,xF];show some (AV.own 5 (Ah ss ss.length).length)=_;rw[Ui]
 have WZ:=sap ga.len (H:=Eg (.box [.pv V]) (.box [.pv (.bool true),.pv (aa a),.pv (aa b)]) (.tok 256 0 true) (.pv S') (.pv V) (.uq 3 true 256 []) nl (ss.map fun s=>Te s.ba) (Ah ss ss.length) 0 nr (wh ss)) rfl
 have hHT:(Eg (.box [.pv V]) (.box [.pv (.bool true),.pv (aa a),.pv (aa b)]) (.tok 256 0 true) (.pv S') (.pv V) (.uq 3 true 256 []) nl (ss.map fun s=>Te s.ba) (Ah ss ss.length) 0 nr (wh ss)).set 5 (.seq 3 true (cf (Nh ss).flatten) (ss.length * 3) nr)=Vf (.box [.pv V]) (.box [.pv (.bool true),.pv (aa a),.pv (aa b)]) (.tok 1 ss.length nl) (.seq 3 true (cf (Nh ss).flatten) (ss.length * 3) nr) (.pv S') (.pv V) (.uq 4 nl 1 (ss.map fun s=>Te s.ba)) (.own 5 ss.length) (.pv (aa (wh ss))) true []:=by unfold Eg Vf;rw[vn,Ui];rfl
 rw[hHT] at WZ;have p6:∀ d,place (Vf (.box [.pv V]) (.box [.pv (.bool true),.pv (aa a),.pv (aa b)]) (.tok 1 ss.length nl) (.seq 3 true (cf (Nh ss).flatten) (ss.length * 3) nr) (.pv S') (.pv V) (.uq 4 nl 1 (ss.map fun s=>Te s.ba)) (.own 5 ss.length) (.pv (aa (wh ss))) true []) d (.ptr 0 0)=some (.ptr 0 (0+d)):=fun d=>Cm rfl d 0;have l6:wa (Vf (.box [.pv V]) (.box [.pv (.bool true),.pv (aa a),.pv (aa b)]) (.tok 1 ss.length nl) (.seq 3 true (cf (Nh ss).flatten) (ss.length * 3) nr) (.pv S') (.pv V) (.uq 4 nl 1 (ss.map fun s=>Te s.ba)) (.own 5 ss.length) (.pv (aa (wh ss))) true []) false 1 (.ptr 0 0)=some (.pv V):=rfl;have Dy:=fun (E3:Tr)(r8:E3.get 8= .ptr 2 0)(r101:E3.get 101= .pv V)(r102:E3.get 102= .pv (aa l.length))(r103:E3.get 103= .pv (aa 0))=>
  yam (call:=Ai rz (fun _=>none) 8) (yaj (V:=V) (S':=S') (y:=true) (a:=a) (b:=b) (m:=wh ss) (nl:=nl) (ds:=ss.map fun s=>Te s.ba) (D:=Nh ss) (fl:=ss.length * 3) (k:=ss.length) (nr:=nr)) SH Q1 P1 IS r8 r101 r102 r103
 obtain⟨NX,mS⟩:∃ x,x=fun nx=>Vf (.box [.pv V]) (.box [.pv (.bool true),.pv (aa a),.pv (aa b)]) (.tok 1 ss.length nl) (.seq 3 true (cf (Nh ss).flatten) (ss.length * 3) nr) (.pv S') (.pv V) (.uq 4 nl 1 (ss.map fun s=>Te s.ba)) (.own 5 ss.length) (.pv (aa (wh ss))) nx (l.map ql):=⟨_,rfl⟩;have Gat:=Dy;generalize Eg (.box [.pv V]) (.box [.pv (.bool true),.pv (aa a),.pv (aa b)]) (.tok 256 0 true) (.pv S') (.pv V) (.uq 3 true 256 []) nl (ss.map fun s=>Te s.ba) (Ah ss ss.length) 0 nr (wh ss)=HS at *;simp -implicitDefEqProofs only[SX,sevalprocAttr,g4,g8,p5,l5,WZ,p6,l6,lV];generalize FM:(Tr.set _ 103 _:Tr)=E3;refine Bb (Dy E3 (by rw[<- FM];simp[Tr.na,g8]) (by rw[<- FM];simp[Tr.na]) (by rw[<- FM];simp[Tr.na]) (by rw[<- FM];simp[Tr.na])) ?_;rintro r ⟨_,E4,nx,rfl,r8,hx⟩;obtain⟨NX,DG,RW,t1,t2,t3,t4⟩:=zaj (V:=V) (S':=S') (o0:= .box [.pv V]) (o1:= .box [.pv (.bool true),.pv (aa a),.pv (aa b)]) (m:=wh ss) (nl:=nl) (nr:=nr) (nx:=nx) (ds:=ss.map fun s=>Te s.ba) (es:=l.map ql) (D:=Nh ss) (fl:=ss.length * 3) (k:=ss.length) Xq (fun r hr=>RU hr) (fun h=>by rw[Wc h];rfl) (fun h=>by have:=Xq;rw[hnr h] at this ⊢;exact Ze this) (fun h=>by rw[hx h];rfl);generalize Vf (.box [.pv V]) (.box [.pv (.bool true),.pv (aa a),.pv (aa b)]) (.tok 1 ss.length nl) (.seq 3 true (cf (Nh ss).flatten) (ss.length * 3) nr) (.pv S') (.pv V) (.uq 4 nl 1 (ss.map fun s=>Te s.ba)) (.own 5 ss.length) (.pv (aa (wh ss))) nx (l.map ql)=HT at *;have hm1:xt [AV.ptr 2 0,.pv (.int .i64 0)]= .Ba [.ptr 2 0,.pv (.int .i64 0)]:=rfl
 have htp:qb HT 6 (.Ba [.ptr 2 0,.pv (.int .i64 0)])=some (.Ba [.rp [S',V,NX,DG,RW,aa (wh ss)] 0,aa 0]):=by
  show (Ha (qb HT 5) [AV.ptr 2 0,.pv (.int .i64 0)]).map PV.Ba=_
  have hv:qb HT 5 (.pv (.int .i64 0))=some (.int .i64 0):=rfl;simp only[Ha,t1,hv,Lc,Vc]
 simp -implicitDefEqProofs only[SX,sevalprocAttr,r8,Ft,hm1,htp];subst hQ;exact⟨_,rfl,⟨S',NX,DG,RW,by rw[TY],IM,t2,t3,t4⟩⟩
theorem DF{S:PV}{ss:List ya}{es:List PV}(hS:zd S ss es):∃ T n,rk [.agg [S]]=some (.Ba [T,aa n])/\(n≠0->T= .Ic)/\
 (¬ uc ss->n=84)/\(uc ss->¬Ee ss->n=110)/\(uc ss->Ee ss->¬gj ss->n=111)/\(uc ss->Ee ss->gj ss->bf ss=none->n=130)/\
 (∀ l,uc ss->Ee ss->gj ss->bf ss=some l->n=0/\wk T ss l):=by
 have hb:=Pq hS
 by_cases h1:uc ss
 ·by_cases h2:Ee ss
  ·obtain⟨y,a,b,hi,hy⟩:=Lak hS h1
   by_cases h3:gj ss
   ·have:=hy.2 h3
    subst this;cases h4:bf ss with
    |none=>have:=cX hS (n:=130) (V:= .oa) rfl (.inr rfl) (.inl rfl) (hb.2.2.1 h1 h2 h4) hi;exact⟨.Ic,130,this,fun _=>rfl,fun h=>absurd h1 h,fun _ h=>absurd h2 h,fun _ _ h=>absurd h3 h,fun _ _ _ _=>rfl,fun l _ _ _ h=>(by cases h)⟩
    |some l=>
     obtain⟨T,t1,t2⟩:=dX hS h1 h2 h4 hi;refine⟨T,0,t1,fun h=>absurd rfl h,fun h=>absurd h1 h,fun _ h=>absurd h2 h,fun _ _ h=>absurd h3 h,fun _ _ _ h=>(by cases h),fun l' _ _ _ h=> ?_⟩;injection h with h
     exact⟨rfl,h ▸ t2⟩
   ·have hyf:y=false:=by cases y with | false=>rfl | true=>exact absurd (hy.1 rfl) h3
    subst hyf;have key:∃ n V,(AV.pv V).one=true/\(n=0\/n=130)/\qk [.agg [S]]=some (.Ba [.agg [V],aa n]):=by
     cases h4:bf ss with
     |none=>exact⟨130,.oa,rfl,.inr rfl,hb.2.2.1 h1 h2 h4⟩
     |some l=>exact⟨0,ni l,rfl,.inl rfl,hb.2.2.2 h1 h2 l h4⟩
    obtain⟨n,V,k1,k2,k3⟩:=key;have:=cX hS k1 k2 (.inr rfl) k3 hi;exact⟨.Ic,111,this,fun _=>rfl,fun h=>absurd h1 h,fun _ h=>absurd h2 h,fun _ _ _=>rfl,fun _ _ h=>absurd h h3,fun l _ _ h=>absurd h h3⟩
  ·have:=bX hS (n:=110) (V:= .oa) rfl (by decide) (by decide) (hb.2.1 h1 h2)
   exact⟨.Ic,110,this,fun _=>rfl,fun h=>absurd h1 h,fun _ _=>rfl,fun _ h=>absurd h h2,fun _ h=>absurd h h2,fun l _ h=>absurd h h2⟩
 ·have:=bX hS (n:=84) (V:= .oa) rfl (by decide) (by decide) (hb.1 h1)
  exact⟨.Ic,84,this,fun _=>rfl,fun _=>rfl,fun h=>absurd h h1,fun h=>absurd h h1,fun h=>absurd h h1,fun l h=>absurd h h1⟩
theorem kar{S:PV}{ss:List ya}{es:List PV}(hS:zd S ss es):∃ T n,rk [.agg [S]]=some (.Ba [T,aa n])/\
 ((n≠0/\T= .Ic)\/(n=0/\uc ss/\Ee ss/\gj ss/\∃ l,bf ss=some l/\wk T ss l/\∀ e∈l,Kl e)):=by
 obtain⟨T,n,hc,hn,h1,h2,h3,h4,h5⟩:=DF hS;refine⟨T,n,hc,?_⟩
 by_cases h0:n=0
 ·refine .inr ⟨h0,?_⟩
  by_cases k1:uc ss
  ·by_cases k2:Ee ss
   ·by_cases k3:gj ss
    ·cases k4:bf ss with
     |none=>have:=h4 k1 k2 k3 k4;omega
     |some l=>exact⟨k1,k2,k3,l,rfl,(h5 l k1 k2 k3 k4).2,uR k1 k2 k4⟩
    ·have:=h3 k1 k2 k3;omega
   ·have:=h2 k1 k2;omega
  ·have:=h1 k1;omega
 ·exact .inl ⟨h0,hn h0⟩
theorem L3{p q:ya}(op:Yd p)(oq:Yd q)(hle:p.ba.length<=q.ba.length):fg p q=true↔∀ k (h1:k < p.ba.length) (h2:k < q.ba.length),∃ x,x < 256/\Ge p.ba[k] x=true/\Ge q.ba[k] x=true:=by
 have key:∀ (m i:Nat),i+m=p.ba.length->((Ke p.ba q.ba m i).isSome=true↔∀ k,i<=k->(h1:k < p.ba.length)->(h2:k < q.ba.length)->∃ x,x < 256/\Ge p.ba[k] x=true/\Ge q.ba[k] x=true):=by
  intro m
  induction m with
  |zero=>intro i hi;exact⟨fun _ k hk h1=>by omega,fun _=>rfl⟩
  |succ m ih=>
   intro i hi;have h1:i < p.ba.length:=by omega
   have h2:i < q.ba.length:=by omega
   have hm:=aU h1 h2 (op.ba _ (ic h1)).2 (oq.ba _ (ic h2)).2
   have hI:=ih (i+1) (by omega);rw[Ke];cases Xl:Cr p.ba q.ba i with
   |nil=>
    constructor
    ·intro h;cases h
    ·intro h;exact absurd Xl (hm.2 (h i (gb _) h1 h2))
   |cons a r=>
    simp only[Option.isSome_map];rw[hI];constructor
    ·intro h k hk g1 g2
     rcases yd i k with h3 | h3
     ·exact h k h3 g1 g2
     ·have:k=i:=by omega
      subst this;exact hm.1 (by rw[Xl];simp)
    ·intro h k hk;exact h k (by omega)
 have:=key p.ba.length 0 (by omega)
 unfold fg;rw[this];exact⟨fun h k h1 h2=>h k (by omega) h1 h2,fun h k _ h1 h2=>h k h1 h2⟩
theorem M3{p q:ya}(op:Yd p)(oq:Yd q)(h:p.ba.length=q.ba.length):fg p q=fg q p:=by
 rw[yC,L3 op oq (by omega),L3 oq op (by omega)];constructor
 ·intro k i h1 h2;obtain⟨x,a,b,c⟩:=k i h2 h1;exact⟨x,a,c,b⟩
 ·intro k i h1 h2;obtain⟨x,a,b,c⟩:=k i h2 h1;exact⟨x,a,c,b⟩
def Lz(ss:List ya)(i j:Nat):Prop:=(hi:i < ss.length)->(hj:j < ss.length)->j < i->ss[i].ba.length=ss[j].ba.length->fg ss[i] ss[j]=false
theorem W0{ss:List ya}(ga:uc ss):gj ss↔∀ i j,Lz ss i j:=by
 constructor
 ·intro h i j hi hj hlt he
  rw[M3 (ga.He _ (ic hi)) (ga.He _ (ic hj)) he];exact h j i hj hi hlt he.symm
 ·intro h i j hi hj hlt he
  rw[M3 (ga.He _ (ic hi)) (ga.He _ (ic hj)) he];exact h j i hj hi hlt he.symm
section
variable {S:PV}{ss:List ya}{es:List PV}(hS:zd S ss es)(ga:uc ss)
include hS ga
theorem Nao(call:Ab){i:Nat}(hi:i < ss.length){E:Tr}(h1:E.get 1= .pv (.rp [S] 0))(h4:E.get 4= .pv (aa i))(h5:E.get 5= .pv (aa 0)):
 Ia (fun r=>r.1.stop=true/\((∃ E',r=(.exit 2,⟨E',[]⟩)/\Bc [1,4] E E'/\∀ j,Lz ss i j)\/∃ E',r=(.ret,⟨E',[]⟩)/\E'.get 2= .pv (.bool false)/\E'.get 3= .pv (aa 0)/\¬gj ss))
  (ua call (.loop [1,4,5] nD) ⟨E,[]⟩):=by
 have Wq:=ga.len
 have ln:=hS.mb
 obtain⟨P,ps,hP,a1⟩:=hS.Nd hi
 have Nn:=ga.He _ (ic hi)
 have lP:=hP.ba.mb
 refine Bw (fun j t=>Bc [1,4] E t.env/\t.env.get 5= .pv (aa j)/\t.H=[]/\∀ j',j' < j->Lz ss i j') i (by unfold Ga;omega)
  (yg.all rfl (by simp) (Fit.cons h1 bc (.cons h4 bc (.cons h5 bc (.nil _ _)))) fun E' hE=>⟨Bc.sub hE rfl,by rw[hE 5 (by simp),h5];rfl,rfl,fun j h=>by omega⟩) ?_ ?_
 ·rintro j ⟨E1,H1⟩ hj ⟨k1,k5,k3,hs⟩
  simp only at k1 k5 k3;subst k3;have zy:j < ss.length:=by omega
  have g1:=(k1 1 (by simp)).trans h1
  have g4:=(k1 4 (by simp)).trans h4
  obtain⟨Q,qs,hQ,a2⟩:=hS.Nd zy
  have Et:=ga.He _ (ic zy)
  have Ss:=fun (h:ss[i].ba.length<=ss[j].ba.length)=>X6 hP hQ Nn Et (n:=ss[i].ba.length) (gb _) h;have lQ:=hQ.ba.mb
  have pg:∀ b,(ss[i].ba.length=ss[j].ba.length->fg ss[i] ss[j]=b)->b=false->∀ j',j' < j+1->Lz ss i j':=by
   intro b hb Im j' hj';rcases yd j' j with h3 | h3
   ·exact hs j' h3
   ·have:j'=j:=by omega
    subst this;intro _ _ _ he;rw[hb he,Im]
  have sn:ss[i].ba.length=ss[j].ba.length->fg ss[i] ss[j]=true->¬gj ss:=fun he hm h=>by
   have:=(W0 ga).1 h i j hi zy hj he
   rw[hm] at this;cases this
  unfold fg at pg sn;generalize ss[i]=p at *;generalize ss[j]=q at *;have e1:decide ((j:Int) < (i:Int))=true:=Qa (by omega);have t2:IntKind.i64.wrap ((j:Int)+1)=((j+1:Nat):Int):=sm (by omega)
  have fin:(∀ j',j' < j+1->Lz ss i j')->∀ E2:Tr,Bc [1,4] E E2->E2.get 5= .pv (aa (j+1:Nat))->yg ([]:List fa).length [1,4,5] (fun t=>Bc [1,4] E t.env/\t.env.get 5= .pv (aa (j+1:Nat))/\t.H=[]/\∀ j',j' < j+1->Lz ss i j') ⟨E2,[]⟩:=fun hn E2 kk z5=>
   yg.all rfl (by simp) (Fit.sub (.cons z5 bc (Fit.qc (l:=[1,4]) (.cons h1 bc (.cons h4 bc (.nil _ _))) kk)) rfl) fun E' hE=>⟨kk.trans (Bc.sub hE rfl),by rw[hE 5 (by simp),z5],rfl,hn⟩
  generalize ec:RQ _ _ _ _=QQ
  by_cases c1:p.ba.length=q.ba.length
  ·have d1:((p.ba.length:Int)==(q.ba.length:Int))=true:=by rw[c1];simp
   obtain⟨v,hv⟩:=Ss (by omega);cases hb:(Ke p.ba q.ba p.ba.length 0).isSome with
   |true=>rw[hb] at hv;simp -implicitDefEqProofs only[SX,sevalprocAttr,nD,g1,g4,k5,e1,ah,Xd,Wh,Vh,nm,a1,a2,lP,lQ,d1,hv];subst ec;exact .inr ⟨_,rfl,by simp[Tr.na],by simp[Tr.na],sn c1 hb⟩
   |false=>rw[hb] at hv;simp -implicitDefEqProofs only[SX,sevalprocAttr,nD,g1,g4,k5,e1,t2,ah,Xd,Wh,Vh,nm,a1,a2,lP,lQ,d1,hv];subst ec;rw[Xr];generalize vc:(Tr.set _ 5 _:Tr)=E2;refine fin (pg false (fun _=>hb) rfl) E2 (by rw[<- vc];(repeat refine Bc.set ?_ rfl);exact k1) (by rw[<- vc];simp[Tr.na])
  ·have d1:((p.ba.length:Int)==(q.ba.length:Int))=false:=beq_false_of_ne (by omega)
   simp -implicitDefEqProofs only[SX,sevalprocAttr,nD,g1,g4,k5,e1,t2,ah,Xd,Wh,Vh,nm,a1,a2,lP,lQ,d1];subst ec;rw[Xr];generalize vc:(Tr.set _ 5 _:Tr)=E2;refine fin (pg false (fun h=>absurd h c1) rfl) E2 (by rw[<- vc];(repeat refine Bc.set ?_ rfl);exact k1) (by rw[<- vc];simp[Tr.na])
 ·rintro⟨E1,H1⟩ ⟨k1,k5,k3,hs⟩
  simp only at k1 k5 k3;subst k3;have g4:=(k1 4 (by simp)).trans h4
  have e1:decide ((i:Int) < (i:Int))=false:=Ra (by omega);generalize hQ:(fun r:Ex×St=>r.1.stop=true/\_)=QQ;simp -implicitDefEqProofs only[SX,sevalprocAttr,nD,g4,k5,e1];subst hQ;refine⟨rfl,.inl ⟨_,rfl,?_,fun j a b c=>hs j c a b c⟩⟩
  repeat refine Bc.set ?_ rfl
  exact k1
theorem KU:∃ b,HC [.agg [S]]=some (.Ba [.bool b,aa 0])/\(b=true↔gj ss):=by
 have ln:=hS.mb
 have Ve:(AV.pv S).one=true:=by rcases hS.is with⟨h,_⟩ | h <;> rw[h] <;> rfl
 obtain⟨b,hb,hbb⟩:=b7 hS;have:=hbb.2 ga
 subst this;have Wq:=ga.len
 have yc:=fun (E:Tr)(h1:E.get 1= .pv (.rp [S] 0))(h4:E.get 4= .pv (aa 0))=>
  Bw (call:=La (fun _=>none) 8) (b:=bL) (live:=[1,4]) (s:=⟨E,[]⟩) (Q:=fun r=>(∃ E',r=(.exit 0,⟨E',[]⟩)/\gj ss)\/∃ E',r=(.ret,⟨E',[]⟩)/\E'.get 2= .pv (.bool false)/\E'.get 3= .pv (aa 0)/\¬gj ss)
   (fun i t=>Bc [1] E t.env/\t.env.get 4= .pv (aa i)/\t.H=[]/\∀ i',i' < i->∀ j,Lz ss i' j) ss.length (by unfold Ga;omega)
   (yg.all rfl (by simp) (Fit.cons h1 bc (.cons h4 bc (.nil _ _))) fun E' hE=>⟨Bc.sub hE rfl,by rw[hE 4 (by simp),h4];rfl,rfl,fun i h=>by omega⟩)
   (by
    rintro i ⟨E1,H1⟩ hi ⟨k1,k4,k3,hs⟩;simp only at k1 k4 k3;subst k3;have g1:=(k1 1 (by simp)).trans h1
    have e1:decide ((i:Int) < (ss.length:Int))=true:=Qa (by omega);have t2:=ee hi (by unfold maxLen;omega);generalize ec:RQ _ _ _ _=QQ;simp -implicitDefEqProofs only[SX,sevalprocAttr,bL,g1,k4,ln,e1,ah,Xd];generalize vc:(Tr.set _ 5 _:Tr)=E2;have z1:E2.get 1= .pv (.rp [S] 0):=by rw[<- vc];simp[Tr.na,g1]
    have z4:E2.get 4= .pv (aa i):=by rw[<- vc];simp[Tr.na,k4]
    refine Bb (Nao hS ga _ hi z1 z4 (by rw[<- vc];simp[Tr.na])) ?_;rintro _ ⟨_,⟨E3,rfl,k6,hp⟩ | ⟨E3,rfl,g2,g3,hp⟩⟩
    ·have y4:=(k6 4 (by simp)).trans z4
     simp -implicitDefEqProofs only[SX,sevalprocAttr,y4,t2];subst ec;rw[Xr];generalize EM:(Tr.set _ 4 _:Tr)=E4;have y1:E4.get 1= .pv (.rp [S] 0):=by rw[<- EM];simp[Tr.na];exact (k6 1 (by simp)).trans z1
     have y4:E4.get 4= .pv (aa (i+1:Nat)):=by rw[<- EM];simp[Tr.na]
     exact yg.all rfl (by simp) (Fit.cons y1 bc (.cons y4 bc (.nil _ _))) fun E' hE=>⟨fun t ht=>by
      rw[ym] at ht;subst ht;rw[hE 1 (by simp),y1,h1],by rw[hE 4 (by simp),y4],rfl,fun i' hi' j=>by
      rcases yd i' i with h3 | h3
      ·exact hs i' h3 j
      ·have:i'=i:=by omega
       subst this;exact hp j⟩
    ·simp -implicitDefEqProofs only[SX,sevalprocAttr]
     subst ec;exact .inr ⟨_,rfl,g2,g3,hp⟩)
   (by
    rintro⟨E1,H1⟩ ⟨k1,k4,k3,hs⟩;simp only at k1 k4 k3;subst k3;have g1:=(k1 1 (by simp)).trans h1
    have e1:decide ((ss.length:Int) < (ss.length:Int))=false:=Ra (by omega);generalize hQ:(fun r:Ex×St=>r.1.stop=true/\_)=QQ;simp -implicitDefEqProofs only[SX,sevalprocAttr,bL,g1,k4,ln,e1,ah,Xd];subst hQ;exact⟨rfl,.inl ⟨_,rfl,(W0 ga).2 fun i j hi hj=>hs i hi j hi hj⟩⟩)
 have key:Ia (fun r=>∃ b,r=PV.Ba [.bool b,aa 0]/\(b=true↔gj ss)) (HC [.agg [S]]):=by
  generalize ec:(fun r:PV=>_)=QQ;simp -implicitDefEqProofs only[HC,SX,sevalprocAttr,ZP,Ve,ah,Xd,pj,hb];generalize vc:(Tr.set _ 4 _:Tr)=E;refine Bb (yc E (by rw[<- vc];simp[Tr.na]) (by rw[<- vc];simp[Tr.na])) ?_;rintro _ ⟨_,⟨E',rfl,hp⟩ | ⟨E',rfl,g2,g3,hp⟩⟩
  ·simp -implicitDefEqProofs only[SX,sevalprocAttr]
   subst ec;exact⟨true,rfl,by simpa using hp⟩
  ·simp -implicitDefEqProofs only[SX,sevalprocAttr,g2,g3]
   subst ec;exact⟨false,rfl,by simpa using hp⟩
 obtain⟨r,h1,b,rfl,hb⟩:=wg key;exact⟨b,h1,hb⟩
end
theorem T6{S V:PV}{ss:List ya}{es:List PV}(hS:zd S ss es){m:Int}(hV:(AV.pv V).one=true)(hm:m=84\/m=110)(hb:Tm [.agg [S]]=some (.Ba [.agg [V],aa m])):Gz [.agg [S]]=some (.Ba [.agg [.oa],aa m]):=by
 have Ve:(AV.pv S).one=true:=by rcases hS.is with⟨h,_⟩ | h <;> rw[h] <;> rfl
 have s1:Db [.box [.pv .oa],.box [.pv .oa]] 1 (.ptr 1 0) (.pv (.agg [V]))=some [.box [.pv .oa],.box [.pv V]]:=by simp[Db,AV.cells,PV.cells,hV,za]
 have s0:Db [.box [.pv .oa],.box [.pv V]] 1 (.ptr 0 0) (.pv (.agg [.oa]))=some [.box [.pv .oa],.box [.pv V]]:=rfl;have ld:wa [.box [.pv .oa],.box [.pv V]] true 1 (.ptr 0 0)=some (.pv (.agg [.oa])):=rfl;have z1:((84:Int)==84)=true:=rfl;have z2:((110:Int)==84)=false:=rfl;have z3:((110:Int)==110)=true:=rfl;rcases hm with rfl | rfl <;>
 simp -implicitDefEqProofs only[Gz,SX,sevalprocAttr,dL,Ve,pj,hb,s1,s0,ld,z1,z2,z3]
theorem iO{S V:PV}{ss:List ya}{es:List PV}(hS:zd S ss es){m:Int}{b:Bool}(hV:(AV.pv V).one=true)(h1:m≠84)(h2:m≠110)(hb:Tm [.agg [S]]=some (.Ba [.agg [V],aa m]))(hi:HC [.agg [S]]=some (.Ba [.bool b,aa 0])):
 Gz [.agg [S]]=some (.Ba [.agg [if b then V else .oa],aa (if b then m else 111)]):=by
 have Ve:(AV.pv S).one=true:=by rcases hS.is with⟨h,_⟩ | h <;> rw[h] <;> rfl
 have s1:Db [.box [.pv .oa],.box [.pv .oa]] 1 (.ptr 1 0) (.pv (.agg [V]))=some [.box [.pv .oa],.box [.pv V]]:=by simp[Db,AV.cells,PV.cells,hV,za]
 have s0:Db [.box [.pv .oa],.box [.pv V]] 1 (.ptr 0 0) (.pv (.agg [.oa]))=some [.box [.pv .oa],.box [.pv V]]:=rfl;have s2:Db [.box [.pv .oa],.box [.pv V]] 1 (.ptr 0 0) (.pv (.agg [V]))=some [.box [.pv V],.box [.pv V]]:=by simp[Db,AV.cells,PV.cells,hV,za]
 have ld:∀ W:PV,wa [.box [.pv W],.box [.pv V]] true 1 (.ptr 0 0)=some (.pv (.agg [W])):=fun W=>rfl;have ld1:wa [.box [.pv .oa],.box [.pv V]] true 1 (.ptr 1 0)=some (.pv (.agg [V])):=rfl;have z1:(m==84)=false:=beq_false_of_ne h1;have z2:(m==110)=false:=beq_false_of_ne h2;cases b <;>
 simp -implicitDefEqProofs only[Gz,SX,sevalprocAttr,dL,Ve,pj,hb,hi,s1,s0,s2,ld,ld1,z1,z2]
theorem qab(ss:List ya):∃ n V,(∀ (S:PV)(es:List PV),zd S ss es->Gz [.agg [S]]=some (.Ba [.agg [V],aa n]))/\(n=0->∃ l,bf ss=some l/\V=ni l)/\(AV.pv V).one=true/\
 (∀ (S:PV)(es:List PV),zd S ss es->∃ T,rk [.agg [S]]=some (.Ba [T,aa n])/\((n≠0/\T= .Ic)\/(n=0/\uc ss/\Ee ss/\gj ss/\∃ l,bf ss=some l/\wk T ss l/\∀ e∈l,Kl e))):=by
 obtain⟨VB,lB,m,hVB,_,_,ff,Vd⟩:=pab ss;have oe:∀ (S:PV)(es:List PV)(V':PV)(m':Int),zd S ss es->qk [.agg [S]]=some (.Ba [.agg [V'],aa m'])->Tm [.agg [S]]=some (.Ba [.agg [V'],aa m']):=by intro S es V' m' hS h;rw[Vd S es hS,<-ff S es hS,h]
 have pb:∀ n:Int,(∀ (S:PV)(es:List PV),zd S ss es->∀ T k,rk [.agg [S]]=some (.Ba [T,aa k])->k=n)->∀ (S:PV)(es:List PV),zd S ss es->∃ T,rk [.agg [S]]=some (.Ba [T,aa n])/\((n≠0/\T= .Ic)\/(n=0/\uc ss/\Ee ss/\gj ss/\∃ l,bf ss=some l/\wk T ss l/\∀ e∈l,Kl e)):=by intro n hn S es hS;obtain⟨T,k,h1,h2⟩:=kar hS;obtain rfl:=hn S es hS T k h1;exact⟨T,h1,h2⟩
 have same:∀ {S:PV}{T T':PV}{k k':Int},rk [.agg [S]]=some (.Ba [T,aa k])->rk [.agg [S]]=some (.Ba [T',aa k'])->k=k':=by
  intro S T T' k k' h1 h2;rw[h1] at h2;injection h2 with h2
  injection h2 with h2
  injection h2 with _ h2
  injection h2 with h2 _
  injection h2
 have aut:bf ss=none\/∃ l,bf ss=some l:=by
  cases bf ss with
  |none=>exact .inl rfl
  |some l=>exact .inr ⟨l,rfl⟩
 have one:∀ {l:List (List Oa)},(AV.pv (ni l)).one=true:=fun {l}=>rfl
 by_cases h1:uc ss
 ·by_cases h2:Ee ss
  ·by_cases h3:gj ss
   ·rcases aut with h4 | ⟨l,h4⟩
    ·skip
     refine⟨130,.oa,fun S es hS=> ?_,fun h=>(by cases h),rfl,pb 130 fun S es hS T k hk=> ?_⟩
     ·obtain⟨b,i1,i2⟩:=KU hS h1
      have:=i2.2 h3
      subst this;exact iO hS rfl (by decide) (by decide) (oe S es _ _ hS ((Pq hS).2.2.1 h1 h2 h4)) i1
     ·obtain⟨T',n,t1,_,_,_,_,t2,_⟩:=DF hS
      have:=t2 h1 h2 h3 h4;subst this;exact same hk t1
    ·skip
     refine⟨0,ni l,fun S es hS=> ?_,fun _=>⟨l,h4,rfl⟩,one,pb 0 fun S es hS T k hk=> ?_⟩
     ·obtain⟨b,i1,i2⟩:=KU hS h1
      have:=i2.2 h3
      subst this;exact iO hS one (by decide) (by decide) (oe S es _ _ hS ((Pq hS).2.2.2 h1 h2 l h4)) i1
     ·obtain⟨T',n,t1,_,_,_,_,_,t2⟩:=DF hS
      have:=(t2 l h1 h2 h3 h4).1
      subst this;exact same hk t1
   ·refine⟨111,.oa,fun S es hS=> ?_,fun h=>(by cases h),rfl,pb 111 fun S es hS T k hk=> ?_⟩
    ·obtain⟨b,i1,i2⟩:=KU hS h1
     have hb:b=false:=by cases b with | false=>rfl | true=>exact absurd (i2.1 rfl) h3
     subst hb;cases h4:bf ss with
     |none=>exact iO hS (V:= .oa) rfl (by decide) (by decide) (oe S es _ _ hS ((Pq hS).2.2.1 h1 h2 h4)) i1
     |some l=>exact iO hS one (by decide) (by decide) (oe S es _ _ hS ((Pq hS).2.2.2 h1 h2 l h4)) i1
    ·obtain⟨T',n,t1,_,_,_,t2,_⟩:=DF hS
     have:=t2 h1 h2 h3;subst this;exact same hk t1
  ·refine⟨110,.oa,fun S es hS=>T6 hS (V:= .oa) rfl (.inr rfl) (oe S es _ _ hS ((Pq hS).2.1 h1 h2)),fun h=>(by cases h),rfl,pb 110 fun S es hS T k hk=> ?_⟩
   obtain⟨T',n,t1,_,_,t2,_⟩:=DF hS;have:=t2 h1 h2;subst this;exact same hk t1
 ·refine⟨84,.oa,fun S es hS=>T6 hS (V:= .oa) rfl (.inl rfl) (oe S es _ _ hS ((Pq hS).1 h1)),fun h=>(by cases h),rfl,pb 84 fun S es hS T k hk=> ?_⟩
  obtain⟨T',n,t1,_,t2,_⟩:=DF hS;have:=t2 h1;subst this;exact same hk t1
def Jv(ls:List (List (Int×Int)))(i:Nat):List PV:=(List.range 258).map fun k=>Hv ls (i * 258+k)
theorem Kk(H:List fa)(d o:Nat)(row:List PV):place H d (.pv (.rp row o))=some (.pv (.rp row (o+d))):=rfl
theorem K7(H:List fa)(o n:Nat)(row:List PV):place H (n * 1) (.pv (.rp row o))=some (.pv (.rp row (o+n))):=by rw[Nat.mul_one];rfl
theorem uX{ls:List (List (Int×Int))}{i:Nat}(hi:i < ls.length)(H:List fa):Ua H 258 (.pv (.lit 258 ((List.range ls.length).map (Iv ls)))) (i:Int)=some (.pv (.rp (Jv ls i) 0)):=by
 simp only[Ua];rw[if_pos ⟨trivial,by unfold Ta;simp;omega⟩,Uc,Gd,Pz hi];rfl
theorem dR{ls:List (List (Int×Int))}{i k:Nat}(hk:k < 258)(H:List fa):wa H false 1 (.pv (.rp (Jv ls i) k))=some (.pv (Hv ls (i * 258+k))):=by
 have:(Jv ls i)[k]? =some (Hv ls (i * 258+k)):=by rw[Jv,Gd,Pz hk];rfl
 simp only[wa,Dj,Sc,if_false,this];rfl
theorem Nac{ls:List (List (Int×Int))}{i:Nat}(H:List fa):wa H false 1 (.pv (.rp (Jv ls i) 0))=some (.pv (Qq (ls.getD i []))):=by
 rw[dR (by omega),Hv,if_pos (by omega),show (i * 258+0) / 258=i by omega]
theorem aX{ls:List (List (Int×Int))}{i:Nat}(H:List fa):wa H false 1 (.pv (.rp (Jv ls i) 257))=some (.pv (aa (eb (ls.drop (i+1))))):=by
 rw[dR (by omega),Hv,qa (by omega),if_pos (by omega),show (i * 258+257) / 258=i by omega]
theorem Oac{ls:List (List (Int×Int))}{i y:Nat}(hy:y < 256)(H:List fa):wa H false 1 (.pv (.rp (Jv ls i) (1+y)))=some (.pv (Uw (ls.getD i []) y)):=by
 rw[dR (by omega),Hv,qa (by omega),qa (by omega),show (i * 258+(1+y)) / 258=i by omega,show (i * 258+(1+y)) % 258 - 1=y by omega]
theorem IY{ls:List (List (Int×Int))}{i:Nat}(hi:i < ls.length):ls.getD i []=ls[i]:=by rw[sf,Rb hi];rfl
abbrev wH(C B:PV)(n i k:Int):Tr:=((((Tr.lf.set 22 (.pv (aa i))).set 21 (.pv (aa n))).set 6 (.pv (aa k))).set 1 (.pv B)).set 0 (.pv (.rp [C] 0))
theorem zad{s:ya}{B:PV}{bs:List Int}(hB:Oh B bs)(ga:Yd s):
 (∀ k,Zg s bs=some k->Az [Te s.ba,B]=some (.Ba [aa k,.bool true]))/\(Zg s bs=none->Az [Te s.ba,B]=some (.Ba [aa 0,.bool false])):=by
 have lB:=hB.mb
 have h8:=ga.hi
 have Yl:=ga.prod.2
 have sB:=fun {i:Nat}(hi:i < s.ba.length)=>uX (ls:=s.ba) hi;have fc:((List.range s.ba.length).map (Iv s.ba)).length=s.ba.length:=by simp
 have dr:Te s.ba= .rp [.lit 258 ((List.range s.ba.length).map (Iv s.ba))] 0:=rfl
 rw[dr];generalize (List.range s.ba.length).map (Iv s.ba)=C at *
 by_cases hlen:bs.length=s.ba.length
 ·have Dn:Zg s bs=Uh s.ba bs 0:=by unfold Zg;rw[if_pos hlen]
  have yc:Ia (fun r=>∃ E,(r=(.ret,⟨E,[]⟩)/\E.get 4= .pv (aa 0)/\E.get 5= .pv (.bool false)/\Uh s.ba bs 0=none)\/(∃ k,r=(.exit 0,⟨E,[]⟩)/\E.get 6= .pv (aa k)/\Uh s.ba bs 0=some k))
   (Mb (Aa (ua (La (fun _=>none) 8) nA) (ta 0 [0,1,6,21,22])) Ga ⟨wH (.lit 258 C) B s.ba.length 0 0,[]⟩):=by
   refine Bb (We (g:=Aa (ua (La (fun _=>none) 8) nA) (ta 0 [0,1,6,21,22]))
    (fun i t=>∃ k,t=⟨wH (.lit 258 C) B s.ba.length i k,[]⟩/\0<=k/\k+eb (s.ba.drop i)<=eb s.ba/\Uh s.ba bs 0=Uh (s.ba.drop i) (bs.drop i) k)
    s.ba.length (by unfold Ga;omega) _ ⟨0,rfl,by omega,by simp,rfl⟩ ?_ ?_) (fun r h=>h.2)
   ·rintro i t hi ⟨k,rfl,Bn,Cn,hs⟩
    have nf:=ga.ba s.ba[i] (ic hi)
    have dw:i < bs.length:=by omega
    have a3:=hB.Nd dw
    have dB:=hB.jg bs[i] (ic dw)
    have hd:s.ba.drop i=s.ba[i]::s.ba.drop (i+1):=Hh hi
    have dI:bs.drop i=bs[i]::bs.drop (i+1):=Hh dw
    have Fu:=sF (x:=bs[i]) (n:=0) nf.2
    rw[hd,eb] at Cn;rw[hd,dI,Uh] at hs;have hle:=nF ga.ba (i+1)
    have th:=Ik (ls:=s.ba.drop (i+1)) fun x hx=>ga.ba x (No hx)
    have ib:=Hr nf;have a1:=sB hi;have a4:=aX (ls:=s.ba) (i:=i);have a5:=Oac (ls:=s.ba) (i:=i) (y:=(bs[i]).toNat) (by omega);rw[IY hi] at a5;generalize Jv s.ba i=R at *
    generalize s.ba[i]=l at *
    generalize bs[i]=x at *;have hwp:Uw l x.toNat= .int .u16 (if (Ld x 0 l).2 then (Ld x 0 l).1+1 else 0):=by unfold Uw;rw[Ur dB.1]
    rw[hwp] at a5;have e1:decide ((i:Int) < (s.ba.length:Int))=true:=Qa (by omega);have t2:=ee hi (by unfold maxLen;omega);have YM:(0<=x/\x < ((256:Nat):Int))=True:=Sa (by omega);obtain⟨⟨d,is⟩,xT⟩:∃ r,r=Ld x 0 l:=⟨_,rfl⟩;rw[<- xT] at hs Fu a5;generalize hQ:LN _ _ i=Q;cases is with
    |false=>
     simp only[Sc,if_false] at hs a5;have t3:IntKind.i64.wrap 0=0:=rfl
     have z1:((0:Int)==0)=true:=rfl;simp -implicitDefEqProofs only[SX,sevalprocAttr,nA,e1,a1,a3,a5,Kk,K7,Xd,YM,t3,z1,wH];subst hQ;exact⟨_,.inl ⟨rfl,by simp[Tr.na],by simp[Tr.na],hs⟩⟩
    |true=>
     simp only[if_true] at hs a5;have Vd:=Fu rfl;simp only at Vd;have hmul:d * eb (s.ba.drop (i+1))+eb (s.ba.drop (i+1))<=eb (s.ba.drop (i+1)) * Tb 0 l:=by have h1:(d+1) * eb (s.ba.drop (i+1))<=Tb 0 l * eb (s.ba.drop (i+1)):=vK (by omega) (by omega);rw[Int.add_mul,NC,xx (Tb 0 l)] at h1;exact h1
     have hm0:0<=d * eb (s.ba.drop (i+1)):=Int.mul_nonneg (by omega) (by omega)
     have t3:IntKind.i64.wrap (d+1)=d+1:=Gb (by omega)
     have t6:IntKind.i64.wrap (d+1 - 1)=d:=by rw[show d+1 - 1=d by omega];exact Gb (by omega)
     have z1:((d+1:Int)==0)=false:=by simp;omega
     have t4:IntKind.i64.wrap (d * eb (s.ba.drop (i+1)))=d * eb (s.ba.drop (i+1)):=Gb (by omega)
     have t5:IntKind.i64.wrap (k+d * eb (s.ba.drop (i+1)))=k+d * eb (s.ba.drop (i+1)):=Gb (by omega)
     simp -implicitDefEqProofs only[SX,sevalprocAttr,nA,e1,t2,t3,t4,t5,t6,z1,a1,a3,a4,a5,Kk,K7,Xd,YM,ta,Za,AV.cut,Cb,wH];subst hQ;exact⟨_,rfl,by omega,by omega,hs⟩
   ·rintro t ⟨k,rfl,Bn,Cn,hs⟩
    rw[Zh,gJ] at hs;have e1:decide ((s.ba.length:Int) < (s.ba.length:Int))=false:=Ra (by omega);generalize hQ:(fun r:Ex×St=>r.1.stop=true/\_)=Q;simp -implicitDefEqProofs only[SX,sevalprocAttr,nA,e1,wH];subst hQ;exact⟨rfl,_,.inr ⟨k,rfl,by simp[Tr.na],hs⟩⟩
  obtain⟨r,h1,E,h2⟩:=wg yc;have Jg:Mb (Aa (ua (La (fun _=>none) 8) nA) (ta 0 [0,1,6,21,22])) Ga ⟨((((Tr.lf.set 22 (.pv (.int .i64 0))).set 21 (.pv (aa s.ba.length))).set 6 (.pv (.int .i64 0))).set 1 (.pv B)).set 0 (.pv (.rp [.lit 258 C] 0)),[]⟩=some r:=h1;have d1:((bs.length:Int) != (s.ba.length:Int))=false:=by rw[hlen];simp
  rw[Dn];rcases h2 with⟨rfl,h4,h5,hn⟩ | ⟨k,rfl,h6,hk⟩
  ·refine⟨fun k hk=>by (rw[hn] at hk;cases hk),fun _=> ?_⟩
   simp -implicitDefEqProofs only[Az,SX,sevalprocAttr,vG,Oc,Kk,Xd,lB,fc,d1,ta,Za,AV.cut,Cb,Jg,h4,h5]
  ·refine⟨fun k' vo=> ?_,fun hn=>by (rw[hk] at hn;cases hn)⟩
   obtain rfl:k=k':=Dx (hk.symm.trans vo);simp -implicitDefEqProofs only[Az,SX,sevalprocAttr,vG,Oc,Kk,Xd,lB,fc,d1,ta,Za,AV.cut,Cb,Jg,h6]
 ·have d1:((bs.length:Int) != (s.ba.length:Int))=true:=by
   have:(bs.length:Int)≠(s.ba.length:Int):=by omega
   simp[this]
  have Dn:Zg s bs=none:=by unfold Zg;rw[qa hlen]
  refine⟨fun k hk=>by (rw[Dn] at hk;cases hk),fun _=> ?_⟩;simp -implicitDefEqProofs only[Az,SX,sevalprocAttr,vG,Kk,Xd,lB,fc,d1]
theorem Ral{l:List (Int×Int)}(h:Se l){k x:Int}(h0:0<=k)(h1:k < Tb 0 l)(hx:sJ k l=some x):(Xf l)[k.toNat]? =some x:=by
 obtain⟨y,q1,_,_,_,q5⟩:=zO h.2 h0 h1
 rw[hx] at q1;injection q1 with q1;subst q1
 have hr:=q5 0;obtain⟨m,e1,e2⟩:=dU (n:=0) h.2 (by rw[hr])
 rw[hr] at e2;simp only at e2;rw[show k.toNat=m by omega];exact e1
abbrev WL(C:PV)(n i k:Int)(es:List PV):Tr:=((((Tr.lf.set 19 (.pv (aa i))).set 18 (.pv (aa n))).set 5 (.uq 0 false 1 es)).set 1 (.pv (aa k))).set 0 (.pv (.rp [C] 0))
theorem Aad{s:ya}(ga:Yd s){k:Int}(h0:0<=k)(h1:k < eb s.ba):pP [Te s.ba,aa k]=some (.lit 1 ((Rm s.ba k).map (PV.int .u8))):=by
 have h8:=ga.hi
 have Yl:=ga.prod.2
 have sB:=fun {i:Nat}(hi:i < s.ba.length)=>uX (ls:=s.ba) hi;have fc:((List.range s.ba.length).map (Iv s.ba)).length=s.ba.length:=by simp
 have dr:Te s.ba= .rp [.lit 258 ((List.range s.ba.length).map (Iv s.ba))] 0:=rfl
 rw[dr];generalize (List.range s.ba.length).map (Iv s.ba)=C at *
 have yc:Ia (fun r=>∃ E H,r=(.exit 0,⟨E,H⟩)/\E.get 5= .uq 0 false 1 ((Rm s.ba k).map (PV.int .u8)))
  (Mb (Aa (ua (La (fun _=>none) 8) wG) (ta 1 [0,1,5,18,19])) Ga ⟨WL (.lit 258 C) s.ba.length 0 k [],[.tok 1 0 false]⟩):=by
  refine Bb (We (fun i t=>∃ j es,t=⟨WL (.lit 258 C) s.ba.length i j (es.map (PV.int .u8)),[.tok 1 i false]⟩/\0<=j/\j < eb (s.ba.drop i)/\es.length=i/\Rm s.ba k=es++Rm (s.ba.drop i) j)
   s.ba.length (by unfold Ga;omega) _ ⟨k,[],rfl,h0,h1,rfl,rfl⟩ ?_ ?_) (fun r h=>h.2)
  ·rintro i t hi ⟨j,es,rfl,Vs,Au,gf,hs⟩
   have nf:=ga.ba s.ba[i] (ic hi)
   have hd:s.ba.drop i=s.ba[i]::s.ba.drop (i+1):=Hh hi
   rw[hd,eb] at Au;rw[hd,Rm] at hs;have th:=Ik (ls:=s.ba.drop (i+1)) fun x hx=>ga.ba x (No hx)
   have hle:=nF ga.ba (i+1)
   have ry:=vX Vs th Au;obtain⟨x,q3,q4,q5,_⟩:=zO nf.2 ry.1 ry.2.1
   rw[q3,ov] at hs;have hm:=Ral nf ry.1 ry.2.1 q3
   have tr:=getElem?_lt hm;have mI:=nF ga.ba i
   rw[hd,eb] at mI;have t3:IntKind.i64.wrap (j.tdiv (eb (s.ba.drop (i+1))))=j.tdiv (eb (s.ba.drop (i+1))):=Gb (by
    have:=ry.2.2.2.2
    have h5:j.tdiv (eb (s.ba.drop (i+1))) * 1<=j.tdiv (eb (s.ba.drop (i+1))) * eb (s.ba.drop (i+1)):=MC th ry.1
    omega)
   have a1:=sB hi;have a4:=aX (ls:=s.ba) (i:=i);have a5:=Nac (ls:=s.ba) (i:=i);rw[IY hi] at a5;generalize Jv s.ba i=R at *
   generalize s.ba[i]=l at *
   have a6:∀ H,Ua H 1 (.pv (Qq l)) (j.tdiv (eb (s.ba.drop (i+1))))=some (.pv (.rp [.int .u8 x] 0)):=fun H=>by simp only[Ua,Qq];rw[if_pos ⟨trivial,by unfold Ta;rw[wb];omega⟩,Gd,hm];rfl
   have e1:decide ((i:Int) < (s.ba.length:Int))=true:=Qa (by omega);have t2:=ee hi (by unfold maxLen;omega);have z0:(eb (s.ba.drop (i+1))=0)=False:=by simp;omega
   have vd:=yL (A:=[.tok 1 i false]) (id:=0) (n:=i) (h:= .uq) (nl:=false) (bytes:=1) (es:=es.map (PV.int .u8)) rfl (by simp[gf]) (by unfold Ac;omega) (.int .u8 x);rw[Qo] at vd;have aI:(es++[x]).map (PV.int .u8)=es.map (PV.int .u8)++[.int .u8 x]:=by simp
   generalize Hy:eb (s.ba.drop (i+1))=pr at *;generalize hQ:LN _ _ i=QQ;simp -implicitDefEqProofs only[SP,WP,za,sevalprocAttr,wG,e1,t2,t3,z0,a1,a4,a5,a6,Kk,Xd,vd,ta,Za,AV.cut,Fa,Cb,WL];subst hQ;exact⟨_,es++[x],by rw[aI],ry.2.2.1,by rw[Hy];exact ry.2.2.2.1,by simp[gf],by rw[hs];simp⟩
  ·rintro t ⟨j,es,rfl,Vs,Au,gf,hs⟩
   rw[Zh,Rm,yi] at hs;have e1:decide ((s.ba.length:Int) < (s.ba.length:Int))=false:=Ra (by omega);generalize hQ:(fun r:Ex×St=>r.1.stop=true/\_)=Q;simp -implicitDefEqProofs only[SX,sevalprocAttr,wG,e1,WL];subst hQ;exact⟨rfl,_,_,rfl,by rw[hs];simp[Tr.na]⟩
 obtain⟨r,g1,E,H,rfl,g6⟩:=wg yc;have g1':Mb (Aa (ua (La (fun _=>none) 8) wG) (ta 1 [0,1,5,18,19])) Ga ⟨((((Tr.lf.set 19 (.pv (.int .i64 0))).set 18 (.pv (aa s.ba.length))).set 5 (.uq 0 false 1 [])).set 1 (.pv (aa k))).set 0 (.pv (.rp [.lit 258 C] 0)),[.tok 1 0 false]⟩=some (.exit 0,⟨E,H⟩):=g1;have e4:Ac s.ba.length 1:=by unfold Ac;omega
 have e2:(0<=(s.ba.length:Int))=True:=by simp
 have e5:((0:Int)<=0)=True:=by simp
 simp -implicitDefEqProofs only[pP,SX,sevalprocAttr,bW,Kk,Xd,fc,Sa e4,e2,e5,Oc,ta,Za,AV.cut,Fa,Cb,g1',g6,Yf,fresh,bd,chunk]
def wF(es:List Oa):List PV:=(List.range 256).map fun b=> .int .i8 (Ki es b)
theorem gap{es:List Oa}{b:Nat}(hb:b < 256)(H:List fa):wa H false 1 (.pv (.rp (wF es) b))=some (.pv (.int .i8 (Ki es b))):=by
 have:(wF es)[b]? =some (.int .i8 (Ki es b)):=by rw[wF,Gd,Pz hb];rfl
 simp only[wa,Dj,Sc,if_false,this];rfl
theorem xam{NX:PV}{l:List (List Oa)}(h:Pb 256 NX (l.map ql)){i:Nat}(hi:i < l.length)(H:List fa):Ua H 256 (.pv NX) (i:Int)=some (.pv (.rp (wF l[i]) 0)):=by
 rw[h.lit (i:=i) (by simpa using hi)];simp only[Ua];rw[if_pos ⟨trivial,by unfold Ta;rw[wb];omega⟩,Uc,Gd,Rb hi];rfl
theorem uO(H:List fa)(a b c d e f:PV):wa H false 1 (.pv (.rp [a,b,c,d,e,f] 2))=some (.pv c)/\wa H false 1 (.pv (.rp [a,b,c,d,e,f] 3))=some (.pv d)/\wa H false 1 (.pv (.rp [a,b,c,d,e,f] 4))=some (.pv e)/\wa H false 1 (.pv (.rp [a,b,c,d,e,f] 5))=some (.pv f)/\wa H false 1 (.pv (.rp [a,b,c,d,e,f] 0))=some (.pv a)/\wa H false 1 (.pv (.rp [a,b,c,d,e,f] 1))=some (.pv b)/\wa H true 1 (.pv (.rp [a,b,c,d,e,f] 0))=some (.pv (.agg [a])):=⟨rfl,rfl,rfl,rfl,rfl,rfl,rfl⟩
section
variable {T:PV}{ss:List ya}{l:List (List Oa)}(hT:wk T ss l)(ho:∀ e∈l,Kl e)
include hT ho
theorem E9{st b:Int}(hb:0<=b/\b<=255):Kz [T,aa st,u8 b]=some (.Ba [aa (Md l st b).1,.bool (Md l st b).2]):=by
 obtain⟨S',NX,DG,RW,rfl,_,mS,_,_⟩:=hT.ex
 have Ky:=uO (a:=S') (b:=ni l) (c:=NX) (d:=DG) (e:=RW) (f:=aa (wh ss));have l2:=fun H=>(Ky H).1
 have ln:=mS.len
 rw[wb] at ln;generalize ([S',ni l,NX,DG,RW,aa (wh ss)]:List PV)=R at *
 by_cases h0:st < 0
 ·have hs:Md l st b=(0,false):=by unfold Md;rw[if_pos h0]
  have d0:decide (st < 0)=true:=Qa h0;rw[hs];simp -implicitDefEqProofs only[Kz,SX,sevalprocAttr,ED,Zd,d0]
 have d0:decide (st < 0)=false:=Ra h0;obtain⟨i,rfl⟩:∃ i:Nat,st=(i:Int):=⟨st.toNat,by omega⟩
 by_cases h1:i < l.length
 ·have d1:decide ((i:Int)>=(l.length:Int))=false:=Ra (by omega)
  have a1:=xam mS h1;have hs:Md l (i:Int) b=match Gh b l[i] with
   |some t=>(t,true)
   |none=>(0,false):=by unfold Md;rw[qa h0,Uc,Rb h1] <;> rfl
  have IS:=(ho _ (ic h1)).jg
  rw[hs];generalize l[i]=es at *;have Ma:(0<=b/\b < ((256:Nat):Int))=True:=Sa (by omega);have l3:=fun H=>gap (es:=es) (b:=b.toNat) (by omega) H;have hg:Ki es b.toNat=(Gh b es).getD (-2):=by unfold Ki;rw[Ur hb.1]
  rw[hg] at l3;have L7:∀ H (row:List PV),place H b.toNat (.pv (.rp row 0))=some (.pv (.rp row b.toNat)):=fun H row=>by rw[Kk,De]
  cases jw:Gh b es with
  |none=>rw[jw] at l3;have z:((-2:Int)== -2)=true:=rfl;have l3:∀ H,wa H false 1 (.pv (.rp (wF es) b.toNat))=some (.pv (.int .i8 (-2))):=l3;simp -implicitDefEqProofs only[Kz,SX,sevalprocAttr,ED,Zd,d0,d1,Kk,L7,l2,ln,a1,Ma,l3,z]
  |some t=>
   rw[jw] at l3;have l3:∀ H,wa H false 1 (.pv (.rp (wF es) b.toNat))=some (.pv (.int .i8 t)):=l3;obtain⟨x,hx,_,_,hxt⟩:=kV jw;have hr:=IS x hx;rw[hxt] at hr;have z:(t== -2)=false:=by simp;omega
   have t1:IntKind.i64.wrap t=t:=Gb (by omega)
   simp -implicitDefEqProofs only[Kz,SX,sevalprocAttr,ED,Zd,d0,d1,Kk,L7,l2,ln,a1,Ma,l3,z,t1]
 ·have d1:decide ((i:Int)>=(l.length:Int))=true:=Qa (by omega)
  have hs:Md l (i:Int) b=(0,false):=by unfold Md;rw[qa h0,Uc,dh (by omega)]
  rw[hs];simp -implicitDefEqProofs only[Kz,SX,sevalprocAttr,ED,Zd,d0,d1,Kk,l2,ln]
end
def Gv(a b:Int):Int:=if a < b then -1 else if a > b then 1 else 0
theorem Hac(a b:Int):MF [aa a,aa b]=some (aa (Gv a b)):=by
 have hn:∀ x:Int,VJ [aa x]=some (.bool false):=fun x=>by
  have z:(x != x)=false:=by simp
  simp -implicitDefEqProofs only[VJ,SX,sevalprocAttr,YV,z]
 unfold Gv
 by_cases h1:a < b
 ·have d1:decide (a < b)=true:=Qa h1
  rw[if_pos h1];simp -implicitDefEqProofs only[MF,SX,sevalprocAttr,VK,hn,d1]
 ·have d1:decide (a < b)=false:=Ra h1
  rw[qa h1]
  by_cases h2:a > b
  ·have d2:decide (a > b)=true:=Qa h2
   rw[if_pos h2];simp -implicitDefEqProofs only[MF,SX,sevalprocAttr,VK,hn,d1,d2]
  ·have d2:decide (a > b)=false:=Ra h2
   rw[qa h2];simp -implicitDefEqProofs only[MF,SX,sevalprocAttr,VK,hn,d1,d2]
theorem E7(call:Ab)(a b c u:Int)(H:List fa):Gc call wL [.pv (.agg [aa a,aa b,aa c]),.pv (aa u)] H=some (.pv (aa (Gv a u)),H):=by
 have hc:=Hac a u;have l0:∀ H,wa H false 1 (.pv (.rp [aa a,aa b,aa c] 0))=some (.pv (aa a)):=fun H=>rfl;have l1:∀ H,place H 0 (.pv (.rp [aa a,aa b,aa c] 0))=some (.pv (.rp [aa a,aa b,aa c] 0)):=fun H=>rfl;simp -implicitDefEqProofs only[SX,sevalprocAttr,wL,l0,l1,hc]
def r0(r:List Int):Int:=r.getD 0 0
def r1(r:List Int):Int:=r.getD 1 0
def r2(r:List Int):Int:=r.getD 2 0
theorem eap{r:List Int}(h:r.length=3):r=[r0 r,r1 r,r2 r]:=by
 match r,h with
 | [a,b,c],_=>rfl
section
variable {RW:PV}{D:List (List Int)}(hR:Pb 3 RW (D.map Mw))(hD:∀ r∈D,r.length=3)
include hR hD
theorem xO{i:Nat}(hi:i < D.length)(H:List fa):Ua H 3 (.pv RW) (i:Int)=some (.pv (.rp [aa (r0 D[i]),aa (r1 D[i]),aa (r2 D[i])] 0)):=by
 rw[hR.lit (i:=i) (by simpa using hi)];simp only[Ua];have h3:=eap (hD _ (ic hi));rw[if_pos ⟨trivial,by unfold Ta;rw[wb];omega⟩,Uc,Gd,Rb hi,Vc,Vc]
 congr 4
 show (Mw D[i]).cells=_
 unfold Mw;generalize D[i]=r at *
 match r,h3 with
 |r,h3=>rw[h3];rfl
variable (hs:∀ i j (h:i < j) (hj:j < D.length),r0 D[i]<=r0 D[j])(hlen:D.length<=32)
include hs hlen
theorem xab{H:List fa}(hH:Pd H)(u:Int):∃ i:Nat,i<=D.length/\(∀ k (hk:k < D.length),k < i->r0 D[k] < u)/\(∀ k (hk:k < D.length),i<=k->u<=r0 D[k])/\
 Gc (La Qw 7) zD [.pv RW,.pv (aa u),.Ec 41 []] H=some (.pv (.Ba [aa i,.bool (if h:i < D.length then decide (r0 D[i]=u) else false)]),H):=by
 have lR:=hR.len
 rw[wb] at lR;have TQ:Qw 41=some wL:=rfl;have r3:∀ H (x y z:PV),wa H true 3 (.pv (.rp [x,y,z] 0))=some (.pv (.agg [x,y,z])):=fun H x y z=>rfl;have fc:∀ n,AV.cut n deep (.Ec 41 [])=some (.Ec 41 []):=fun n=>rfl
 have yc:=fun (E:Tr)(h0:E.get 0= .pv RW)(h1:E.get 1= .pv (aa u))(h2:E.get 2= .Ec 41 [])(h8:E.get 8= .pv (aa D.length))(h9:E.get 9= .pv (aa 0))(h10:E.get 10= .pv (aa D.length))=>
  V2 (call:=La Qw 7) (b:=XG) (live:=[0,1,2,8,9,10]) (s:=⟨E,H⟩)
   (Q:=fun r=>∃ E' i,r=(.exit 0,⟨E',H⟩)/\Bc [0,1,2,8] E E'/\E'.get 9= .pv (aa (i:Nat))/\i<=D.length/\(∀ k (hk:k < D.length),k < i->r0 D[k] < u)/\(∀ k (hk:k < D.length),i<=k->u<=r0 D[k]))
   (fun m t=>Bc [0,1,2,8] E t.env/\t.H=H/\∃ i j:Nat,t.env.get 9= .pv (aa i)/\t.env.get 10= .pv (aa j)/\i<=j/\j<=D.length/\m=j - i/\(∀ k (hk:k < D.length),k < i->r0 D[k] < u)/\(∀ k (hk:k < D.length),j<=k->u<=r0 D[k]))
   D.length (by unfold Ga;omega)
   (yg.all rfl (hH _ (gb _)) (Fit.cons h0 bc (.cons h1 bc (.cons h2 (fc _) (.cons h8 bc (.cons h9 bc (.cons h10 bc (.nil _ _))))))) fun E' hE=>⟨Bc.sub hE rfl,rfl,0,D.length,by rw[hE 9 (by simp),h9];rfl,by rw[hE 10 (by simp),h10],by omega,by omega,by omega,fun k _ h=>by omega,fun k hk h=>by omega⟩)
   (by
    rintro m ⟨E1,H1⟩ ⟨k1,k2,i,j,k9,Xg,hij,hj,hm,ha,hb⟩;simp only at k1 k2 k9 Xg;replace k2:=k2.symm
    subst k2
    by_cases hlt:i < j
    ·have e1:decide ((i:Int) < (j:Int))=true:=Qa (by omega)
     have g0:=(k1 0 (by simp)).trans h0
     have g1:=(k1 1 (by simp)).trans h1
     have g2:=(k1 2 (by simp)).trans h2
     obtain⟨h,hh⟩:∃ h,h=(i+j) / 2:=⟨_,rfl⟩;have lZ:h < D.length:=by omega
     have a1:=xO hR hD lZ;have hc:=E7 (La Qw 6) (r0 D[h]) (r1 D[h]) (r2 D[h]) u H;have w1:IntKind.i64.wrap ((i:Int)+(j:Int))=(i:Int)+j:=Gb (by omega)
     have w2:IntKind.u64.wrap ((i:Int)+(j:Int))=(i:Int)+j:=by unfold IntKind.wrap;simp[IntKind.signed,IntKind.bits];omega
     have w3:((i:Int)+(j:Int)).fdiv (2 ^ min 1 IntKind.u64.bits)=(h:Int):=by
      show ((i:Int)+(j:Int)).fdiv 2=_
      rw[Int.fdiv_eq_ediv_of_nonneg _ (by omega)];omega
     have w4:IntKind.i64.wrap (h:Int)=(h:Int):=Gb (by omega)
     have w5:IntKind.i64.wrap ((h:Int)+1)=((h+1:Nat):Int):=sm (by omega)
     have z0:((1:Int) < 0)=False:=by simp
     generalize hQ:RQ _ _ _ _=Q
     by_cases cI:r0 D[h] < u
     ·have Ss:Gv (r0 D[h]) u= -1:=by unfold Gv;rw[if_pos cI]
      have z1:decide ((-1:Int) < 0)=true:=rfl;rw[Ss] at hc;simp -implicitDefEqProofs only[SX,sevalprocAttr,XG,k9,Xg,e1,g0,g1,g2,a1,r3,w1,w2,w3,w4,w5,z0,TQ,hc,z1];subst hQ;rw[Xr];generalize vc:(Tr.set _ 9 _:Tr)=E2;have kk:Bc [0,1,2,8] E E2:=by
       rw[<- vc]
       repeat refine Bc.set ?_ rfl
       exact k1
      have z9:E2.get 9= .pv (aa (h+1:Nat)):=by rw[<- vc];simp[Tr.na]
      have KJ:E2.get 10= .pv (aa j):=by rw[<- vc];simp[Tr.na,Xg]
      exact yg.all rfl (hH _ (gb _)) (Fit.sub (.cons z9 bc (.cons KJ bc (Fit.qc (l:=[0,1,2,8]) (.cons h0 bc (.cons h1 bc (.cons h2 (fc _) (.cons h8 bc (.nil _ _))))) kk))) rfl) fun E' hE=>⟨j - (h+1),by omega,kk.trans (Bc.sub hE rfl),rfl,h+1,j,by rw[hE 9 (by simp),z9],by rw[hE 10 (by simp),KJ],by omega,hj,rfl,fun k hk hkh=>by
       rcases yd k h with h5 | h5
       ·exact Int.lt_of_le_of_lt (hs k h h5 lZ) cI
       ·obtain rfl:k=h:=by omega
        exact cI,hb⟩
     ·have z1:decide (Gv (r0 D[h]) u < 0)=false:=Ra (by unfold Gv;rw[qa cI];split <;> omega)
      simp -implicitDefEqProofs only[SX,sevalprocAttr,XG,k9,Xg,e1,g0,g1,g2,a1,r3,w1,w2,w3,w4,w5,z0,TQ,hc,z1];subst hQ;rw[Xr];generalize vc:(Tr.set _ 10 _:Tr)=E2;have kk:Bc [0,1,2,8] E E2:=by
       rw[<- vc]
       repeat refine Bc.set ?_ rfl
       exact k1
      have z9:E2.get 9= .pv (aa i):=by rw[<- vc];simp[Tr.na,k9]
      have KJ:E2.get 10= .pv (aa h):=by rw[<- vc];simp[Tr.na]
      exact yg.all rfl (hH _ (gb _)) (Fit.sub (.cons z9 bc (.cons KJ bc (Fit.qc (l:=[0,1,2,8]) (.cons h0 bc (.cons h1 bc (.cons h2 (fc _) (.cons h8 bc (.nil _ _))))) kk))) rfl) fun E' hE=>⟨h - i,by omega,kk.trans (Bc.sub hE rfl),rfl,i,h,by rw[hE 9 (by simp),z9],by rw[hE 10 (by simp),KJ],by omega,by omega,rfl,ha,fun k hk hkh=>by
       rcases yd h k with h5 | h5
       ·exact Int.le_trans (Int.not_lt.1 cI) (hs h k h5 hk)
       ·obtain rfl:k=h:=by omega
        omega⟩
    ·obtain rfl:i=j:=by omega
     have e1:decide ((i:Int) < (i:Int))=false:=Ra (by omega);generalize hQ:RQ _ _ _ _=Q;simp -implicitDefEqProofs only[SX,sevalprocAttr,XG,k9,Xg,e1];subst hQ;exact⟨_,i,rfl,by repeat refine Bc.set ?_ rfl
                      exact k1,by simp[Tr.na,k9],hj,ha,hb⟩)
 have key:Ia (fun r=>∃ i:Nat,i<=D.length/\(∀ k (hk:k < D.length),k < i->r0 D[k] < u)/\(∀ k (hk:k < D.length),i<=k->u<=r0 D[k])/\r=(.pv (.Ba [aa i,.bool (if h:i < D.length then decide (r0 D[i]=u) else false)]),H)) (Gc (La Qw 7) zD [.pv RW,.pv (aa u),.Ec 41 []] H):=by
  generalize hQ:(fun r:AV×List fa=>∃ i:Nat,_)=Q;simp -implicitDefEqProofs only[SX,sevalprocAttr,zD,lR];generalize vc:(Tr.set _ 10 _:Tr)=E;refine Bb (yc E (by rw[<- vc];simp[Tr.na]) (by rw[<- vc];simp[Tr.na]) (by rw[<- vc];simp[Tr.na]) (by rw[<- vc];simp[Tr.na]) (by rw[<- vc];simp[Tr.na]) (by rw[<- vc];simp[Tr.na])) ?_;have h0:E.get 0= .pv RW:=by rw[<- vc];simp[Tr.na]
  have h1:E.get 1= .pv (aa u):=by rw[<- vc];simp[Tr.na]
  have h2:E.get 2= .Ec 41 []:=by rw[<- vc];simp[Tr.na]
  have h8:E.get 8= .pv (aa D.length):=by rw[<- vc];simp[Tr.na]
  rintro r ⟨_,E',i,rfl,k1,k9,hi,ha,hb⟩;have g0:=(k1 0 (by simp)).trans h0
  have g1:=(k1 1 (by simp)).trans h1
  have g2:=(k1 2 (by simp)).trans h2
  have g8:=(k1 8 (by simp)).trans h8
  by_cases hlt:i < D.length
  ·have e1:decide ((i:Int) < (D.length:Int))=true:=Qa (by omega)
   have a1:=xO hR hD hlt;have hc:=E7 (La Qw 6) (r0 D[i]) (r1 D[i]) (r2 D[i]) u H;have hge:=hb i hlt (gb _);have z:(Gv (r0 D[i]) u==0)=decide (r0 D[i]=u):=by
    unfold Gv;rw[qa (by omega)]
    by_cases h5:r0 D[i] > u
    ·rw[if_pos h5,Ra (by omega)];rfl
    ·rw[qa h5,Qa (by omega)];rfl
   simp -implicitDefEqProofs only[SX,sevalprocAttr,k9,g0,g1,g2,g8,e1,a1,r3,TQ,hc,z];subst hQ;exact⟨i,hi,ha,hb,by rw[dif_pos hlt]⟩
  ·have e1:decide ((i:Int) < (D.length:Int))=false:=Ra (by omega)
   simp -implicitDefEqProofs only[SX,sevalprocAttr,k9,g0,g1,g2,g8,e1];subst hQ;exact⟨i,hi,ha,hb,by rw[dif_neg hlt]⟩
 obtain⟨r,h1,i,h2,h3,h4,rfl⟩:=wg key;exact⟨i,h2,h3,h4,h1⟩
end
theorem wap{ss:List ya}{r:List Int}(h:r∈Nh ss):∃ j,∃ hj:j < ss.length,r=vl ss[j] j:=by
 have:=(mJ ss).mem_iff.1 h
 unfold Ah at this;obtain⟨j,hj,rfl⟩:=Re.1 this
 have hj:=Jq.1 hj
 exact⟨j,hj,by rw[sf,Rb hj];rfl⟩
theorem vap{ss:List ya}{j:Nat}(hj:j < ss.length):vl ss[j] j∈Nh ss:=by
 refine (mJ ss).mem_iff.2 ?_
 unfold Ah;refine Re.2 ⟨j,Jq.2 hj,?_⟩
 rw[sf,Rb hj];rfl
theorem uap(ss:List ya)(i j:Nat)(h:i < j)(hj:j < (Nh ss).length):r0 (Nh ss)[i]<=r0 (Nh ss)[j]:=by
 obtain⟨h1,h2,h3⟩:=LO 3 0 (Ah ss ss.length).toArray
 have hj':j < (Ah ss ss.length).toArray.size:=by rw[<- h1];simpa[Nh] using hj
 have h4:=h3 i j h hj';have key:∀ k (hk:k < (Nh ss).length),gm 3 0 (qm 3 0 (Ah ss ss.length).toArray)[k]! =r0 (Nh ss)[k]:=by
  intro k hk;have vo:k < (qm 3 0 (Ah ss ss.length).toArray).size:=by simpa[Nh] using hk
  rw[getElem!_pos _ k vo];have e:(qm 3 0 (Ah ss ss.length).toArray)[k]=(Nh ss)[k]:=by simp[Nh]
  have h3:=RU (ic hk);rw[e];generalize (Nh ss)[k]=r at *;unfold gm r0;rw[if_pos h3]
 rw[key i (by omega),key j hj] at h4;omega
theorem tap(ss:List ya):(Nh ss).Nodup:=by
 refine (mJ ss).nodup_iff.2 ?_
 unfold Ah List.Nodup
 rw[List.pairwise_map];refine List.Pairwise.imp ?_ (List.nodup_range (n:=ss.length))
 intro i j h e;unfold vl at e;injection e with _ e
 injection e with _ e
 injection e with e _
 omega
def has(s:ya)(u:Int):Prop:=s.pa<=u/\u < s.pa+eb s.ba
theorem tS{ss:List ya}(ga:uc ss){i j:Nat}(hi:i < ss.length)(hj:j < ss.length){u:Int}(h1:has ss[i] u)(h2:has ss[j] u):i=j:=by
 have vd:=ga.apart
 rw[fG] at vd;have e1:=(ga.He _ (ic hi)).Ng
 have e2:=(ga.He _ (ic hj)).Ng
 unfold has at h1 h2;rcases Nat.lt_trichotomy i j with h | h | h
 ·exact absurd (vd i j hi hj h u) (fun hn=>hn ⟨by omega,by omega⟩)
 ·exact h
 ·exact absurd (vd j i hj hi h u) (fun hn=>hn ⟨by omega,by omega⟩)
section
variable {T:PV}{ss:List ya}{l:List (List Oa)}(hT:wk T ss l)(ga:uc ss)
include hT ga
theorem Zar(u:Int):(∃ j,∃ hj:j < ss.length,has ss[j] u/\cv [T,aa u]=some (.Ba [.agg [aa ss[j].pa,aa (ss[j].pa+eb ss[j].ba - 1),aa j],.bool true]))\/
 ((∀ s∈ss,¬has s u)/\cv [T,aa u]=some (.Ba [.agg [aa 0,aa 0,aa 0],.bool false])):=by
 obtain⟨S',NX,DG,RW,rfl,_,_,_,PH⟩:=hT.ex
 have Ky:=uO (a:=S') (b:=ni l) (c:=NX) (d:=DG) (e:=RW) (f:=aa (wh ss));have l4:=fun H=>(Ky H).2.2.1
 generalize ([S',ni l,NX,DG,RW,aa (wh ss)]:List PV)=R at *;obtain⟨D,PH,dy,fS,hDh,Xq,NH,Tp⟩:∃ D:List (List Int),Pb 3 RW (D.map Mw)/\(∀ r∈D,r.length=3)/\(∀ r∈D,∃ j,∃ hj:j < ss.length,r=vl ss[j] j)/\(∀ j (hj:j < ss.length),vl ss[j] j∈D)/\D.length=ss.length/\(∀ i j (h:i < j) (hj:j < D.length),r0 D[i]<=r0 D[j])/\D.Nodup:=
  ⟨Nh ss,PH,fun r hr=>RU hr,fun r hr=>wap hr,fun j hj=>vap hj,J7 ss,uap ss,tap ss⟩
 have Wq:=ga.len
 have hg:Pd [fa.box [.pv (aa 0),.pv (aa 0),.pv (aa 0)]]:=fun n _ o ho=>by rw[ym] at ho;subst ho;exact CA n [aa 0,aa 0,aa 0]
 obtain⟨i,hi,ha,hb,jd⟩:=xab PH dy NH (by omega) hg u;have fH:Qw 40=some zD:=rfl;have b0:∀ a b c d e f,Db [fa.box [.pv a,.pv b,.pv c]] 3 (.ptr 0 0) (.pv (.agg [.int .i64 d,.int .i64 e,.int .i64 f]))=some [.box [.pv (aa d),.pv (aa e),.pv (aa f)]]:=fun a b c d e f=>rfl;have ld:∀ a b c,wa [fa.box [.pv a,.pv b,.pv c]] true 3 (.ptr 0 0)=some (.pv (.agg [a,b,c])):=fun a b c=>rfl;have r3:∀ H (x y z:PV),wa H true 3 (.pv (.rp [x,y,z] 0))=some (.pv (.agg [x,y,z])):=fun H x y z=>rfl;have gO:∀ H (x y z:PV),wa H false 1 (.pv (.rp [x,y,z] 1))=some (.pv y):=fun H x y z=>rfl;have fin:∀ k (hk:k < D.length),(∀ m (hm:m < D.length),k < m->u < r0 D[m])->r0 D[k]<=u->
  ((u<=r1 D[k]->∃ j,∃ hj:j < ss.length,has ss[j] u/\PV.agg [aa (r0 D[k]),aa (r1 D[k]),aa (r2 D[k])]= .agg [aa ss[j].pa,aa (ss[j].pa+eb ss[j].ba - 1),aa j])/\(¬ u<=r1 D[k]->∀ s∈ss,¬has s u)):=by
  intro k hk rB hle;obtain⟨j',hj',Bf⟩:=fS _ (ic hk);constructor
  ·intro h1
   rw[Bf] at h1 hle ⊢;refine⟨j',hj',⟨hle,?_⟩,rfl⟩;have:u<=ss[j'].pa+eb ss[j'].ba - 1:=h1
   omega
  ·intro h1 s hs hh
   obtain⟨j,hj,rfl⟩:=uj hs;obtain⟨m,hm,iN⟩:=uj (hDh j hj);have RS:=hh;unfold has at RS;have hp:=Ik (ga.He _ (ic hj')).ba
   rcases yd k m with h | h
   ·have:=rB m hm h
    rw[iN] at this;have:u < ss[j].pa:=this
    omega
   ·have h3:r0 D[m]<=r0 D[k]:=by
     rcases yd m k with h5 | h5
     ·exact NH m k h5 hk
     ·have:m=k:=by omega
      subst this;exact Ll _
    rw[iN] at h3;rw[Bf] at h3 hle h1;have h3:ss[j].pa<=ss[j'].pa:=h3
    have hle:ss[j'].pa<=u:=hle
    have e:j=j':=tS ga hj hj' (u:=ss[j'].pa) ⟨h3,by omega⟩ ⟨Ll _,by omega⟩;subst e;have:¬u<=ss[j].pa+eb ss[j].ba - 1:=h1
    omega
 have step:∀ (k:Nat)(hk:k < D.length),(∀ q (hq:q < D.length),k < q->u < r0 D[q])->r0 D[k]<=u->∀ R0:PV,
  (u<=r1 D[k]->R0= .Ba [.agg [aa (r0 D[k]),aa (r1 D[k]),aa (r2 D[k])],.bool true])->(¬ u<=r1 D[k]->R0= .Ba [.agg [aa 0,aa 0,aa 0],.bool false])->
  (∃ j,∃ hj:j < ss.length,has ss[j] u/\R0= .Ba [.agg [aa ss[j].pa,aa (ss[j].pa+eb ss[j].ba - 1),aa j],.bool true])\/((∀ s∈ss,¬has s u)/\R0= .Ba [.agg [aa 0,aa 0,aa 0],.bool false]):=by
  intro k hk h1 h2 R0 h3 h4;obtain⟨f1,f2⟩:=fin k hk h1 h2
  by_cases hc:u<=r1 D[k]
  ·obtain⟨j,hj,g1,g2⟩:=f1 hc
   exact .inl ⟨j,hj,g1,by rw[h3 hc,g2]⟩
  ·exact .inr ⟨f2 hc,h4 hc⟩
 suffices key:∃ R0,cv [.rp R 0,aa u]=some R0/\((∃ j,∃ hj:j < ss.length,has ss[j] u/\R0= .Ba [.agg [aa ss[j].pa,aa (ss[j].pa+eb ss[j].ba - 1),aa j],.bool true])\/((∀ s∈ss,¬has s u)/\R0= .Ba [.agg [aa 0,aa 0,aa 0],.bool false])) by
  obtain⟨R0,k1,⟨j,hj,k2,rfl⟩ | ⟨k2,rfl⟩⟩:=key
  ·exact .inl ⟨j,hj,k2,k1⟩
  ·exact .inr ⟨k2,k1⟩
 by_cases Us:∃ h:i < D.length,r0 D[i]=u
 ·obtain⟨h,he⟩:=Us
  rw[dif_pos h,Qa he] at jd;have rB:∀ q (hq:q < D.length),i < q->u < r0 D[q]:=by
   intro q hq xy;have h3:=NH i q xy hq;rcases Int.lt_or_le u (r0 D[q]) with h5 | h5
   ·exact h5
   ·exfalso
    obtain⟨j,hj,hr⟩:=fS _ (ic h);obtain⟨j',hj',Bf⟩:=fS _ (ic hq);have hp:=Ik (ga.He _ (ic hj)).ba
    have bl:=Ik (ga.He _ (ic hj')).ba
    have e1:ss[j].pa=u:=by rw[hr] at he;exact he
    have e2:ss[j'].pa<=u:=by rw[Bf] at h5;exact h5
    have e3:u<=ss[j'].pa:=by rw[Bf,he] at h3;exact h3
    have:j=j':=tS ga hj hj' (u:=u) ⟨by omega,by omega⟩ ⟨by omega,by omega⟩;subst this;have:=(List.getElem_inj Tp).1 (hr.trans Bf.symm)
    omega
  have a1:=xO PH dy h;have z1:decide ((i:Int) < 0)=false:=Ra (by omega);refine⟨_,?_,step i h rB (by omega) (if u<=r1 D[i] then .Ba [.agg [aa (r0 D[i]),aa (r1 D[i]),aa (r2 D[i])],.bool true] else .Ba [.agg [aa 0,aa 0,aa 0],.bool false]) (fun h=>by rw[if_pos h]) (fun h=>by rw[qa h])⟩
  by_cases hc:u<=r1 D[i]
  ·have z2:decide (u > r1 D[i])=false:=Ra (by omega)
   rw[if_pos hc];simp -implicitDefEqProofs only[cv,SX,sevalprocAttr,FD,Zd,Kk,l4,fH,jd,z1,a1,z2,gO,r3,b0,ld]
  ·have z2:decide (u > r1 D[i])=true:=Qa (by omega)
   rw[qa hc];simp -implicitDefEqProofs only[cv,SX,sevalprocAttr,FD,Zd,Kk,l4,fH,jd,z1,a1,z2,gO,r3,b0,ld]
 ·have hf:(if h:i < D.length then decide (r0 D[i]=u) else false)=false:=by
   by_cases h:i < D.length
   ·rw[dif_pos h];exact Ra fun e=>Us ⟨h,e⟩
   ·rw[dif_neg h]
  rw[hf] at jd;have w1:IntKind.i64.wrap ((i:Int) - 1)=(i:Int) - 1:=Gb (by omega)
  cases i with
  |zero=>
   have z1:decide ((-1:Int) < 0)=true:=rfl;have w1:IntKind.i64.wrap (-1)= -1:=Gb (by decide)
   have jd:Gc (La Qw 7) zD [.pv RW,.pv (aa u),.Ec 41 []] [.box [.pv (aa 0),.pv (aa 0),.pv (aa 0)]]=some (.pv (.Ba [aa 0,.bool false]),[.box [.pv (aa 0),.pv (aa 0),.pv (aa 0)]]):=jd;refine⟨.Ba [.agg [aa 0,aa 0,aa 0],.bool false],?_,.inr ⟨fun s hs hh=> ?_,rfl⟩⟩
   ·simp -implicitDefEqProofs only[cv,SX,sevalprocAttr,FD,Zd,Kk,l4,fH,jd,w1,z1,b0,ld]
   ·obtain⟨j,hj,rfl⟩:=uj hs
    obtain⟨m,hm,iN⟩:=uj (hDh j hj);have h6:=hb m hm (Ql _);have Va:r0 D[m]≠u:=by
     intro e;have h7:=hb 0 (by omega) (gb _);have h8:r0 D[0]<=r0 D[m]:=by
      rcases Bx m with h9 | h9
      ·subst h9;exact Ll _
      ·exact NH 0 m h9 hm
     exact Us ⟨by omega,by omega⟩
    rw[iN] at h6 Va;have h6:u<=ss[j].pa:=h6
    have Va:ss[j].pa≠u:=Va
    unfold has at hh;omega
  |succ i=>
   have h:i < D.length:=by omega
   have w2:((i+1:Nat):Int) - 1=(i:Int):=by omega
   rw[w2] at w1;have z1:decide ((i:Int) < 0)=false:=Ra (by omega);have a1:=xO PH dy h;have hlt:=ha i h (by omega);have rB:∀ q (hq:q < D.length),i < q->u < r0 D[q]:=by
    intro q hq xy;have h6:=hb q hq (by omega);rcases Int.lt_or_le u (r0 D[q]) with h5 | h5
    ·exact h5
    ·exfalso
     have h7:=hb (i+1) (by omega) (gb _);have h8:r0 D[i+1]<=r0 D[q]:=by
      rcases yd (i+1) q with h9 | h9
      ·exact NH (i+1) q h9 hq
      ·have:i+1=q:=by omega
       subst this;exact Ll _
     exact Us ⟨by omega,by omega⟩
   refine⟨_,?_,step i h rB (by omega) (if u<=r1 D[i] then .Ba [.agg [aa (r0 D[i]),aa (r1 D[i]),aa (r2 D[i])],.bool true] else .Ba [.agg [aa 0,aa 0,aa 0],.bool false]) (fun h=>by rw[if_pos h]) (fun h=>by rw[qa h])⟩
   by_cases hc:u<=r1 D[i]
   ·have z2:decide (u > r1 D[i])=false:=Ra (by omega)
    rw[if_pos hc];simp -implicitDefEqProofs only[cv,SX,sevalprocAttr,FD,Zd,Kk,l4,fH,jd,w1,w2,z1,a1,z2,gO,r3,b0,ld]
   ·have z2:decide (u > r1 D[i])=true:=Qa (by omega)
    rw[qa hc];simp -implicitDefEqProofs only[cv,SX,sevalprocAttr,FD,Zd,Kk,l4,fH,jd,w1,w2,z1,a1,z2,gO,r3,b0,ld]
end
def cu(u:Int):List ya->Option (List Int)
 | []=>none
 |s::r=>if s.pa<=u/\u < s.pa+eb s.ba then some (Rm s.ba (u - s.pa)) else cu u r
theorem DW{u:Int}:∀ {ss:List ya}{b:List Int},(∀ s∈ss,Yd s)->cu u ss=some b->∃ s∈ss,s.pa<=u/\u < s.pa+eb s.ba/\b=Rm s.ba (u - s.pa)/\Zg s b=some (u - s.pa)/\(∀ x∈b,0<=x/\x<=255)/\b≠[]
 |s::r,b,h,he=>by
  rw[cu] at he
  split at he
  ·next hc=>
   injection he with he;subst he
   have hs:=h s (by simp);obtain⟨h1,h2,h3⟩:=tV s.ba (u - s.pa) 0 hs.ba (by omega) (by omega)
   refine⟨s,by simp,hc.1,hc.2,rfl,?_,h3,?_⟩
   ·unfold Zg;rw[if_pos h2,h1,Int.zero_add]
   ·intro h4;rw[h4] at h2;have:=hs.lo;simp at h2;omega
  ·obtain⟨s',h1,h2⟩:=DW (fun x hx=>h x (by simp[hx])) he
   exact⟨s',by simp[h1],h2⟩
theorem CW{u:Int}:∀ {ss:List ya},(∀ s∈ss,¬has s u)->cu u ss=none
 | [],_=>rfl
 |s::ss,h=>by have h1:=h s (by simp);unfold has at h1;rw[cu,qa h1];exact CW fun x hx=>h x (by simp[hx])
theorem qac{u:Int}{ss:List ya}(ga:uc ss){j:Nat}(hj:j < ss.length)(h:has ss[j] u):cu u ss=some (Rm ss[j].ba (u - ss[j].pa)):=by
 have key:∀ (l:List ya)(j:Nat)(hj:j < l.length),(∀ i (hi:i < l.length),has l[i] u->i=j)->has l[j] u->cu u l=some (Rm l[j].ba (u - l[j].pa)):=by
  intro l
  induction l with
  |nil=>intro j hj;simp at hj
  |cons s l ih=>
   intro j hj mf hh;rw[cu];cases j with
   |zero=>rw[if_pos (show s.pa<=u/\u < s.pa+eb s.ba from hh)];rfl
   |succ j=>rw[qa (fun hc:s.pa<=u/\u < s.pa+eb s.ba=>by have:=mf 0 (by simp) hc;omega)];exact ih j (by simpa using hj) (fun i hi hx=>by have:=mf (i+1) (by simpa using hi) hx;omega) hh
 exact key ss j hj (fun i hi hx=>tS ga hi hj hx h) h
section
variable {T:PV}{ss:List ya}{l:List (List Oa)}(hT:wk T ss l)(ga:uc ss)
include hT ga
theorem mar(u:Int):tK [T,aa u]=some (match cu u ss with | some b=> .Ba [.lit 1 (b.map u8),.bool true] | none=> .Ba [.oa,.bool false]):=by
 have Xc:=Zar hT ga u;obtain⟨S',NX,DG,RW,rfl,_,_,DM,_⟩:=hT.ex
 have Ky:=uO (a:=S') (b:=ni l) (c:=NX) (d:=DG) (e:=RW) (f:=aa (wh ss));have l3:=fun H=>(Ky H).2.1
 generalize ([S',ni l,NX,DG,RW,aa (wh ss)]:List PV)=R at *;have st:∀ a b c,Db [fa.box [.pv (aa 0),.pv (aa 0),.pv (aa 0)]] 3 (.ptr 0 0) (.pv (.agg [aa a,aa b,aa c]))=some [.box [.pv (aa a),.pv (aa b),.pv (aa c)]]:=fun a b c=>rfl;rcases Xc with⟨j,hj,hh,hr⟩ | ⟨hn,hr⟩
 ·rw[qac ga hj hh]
  have hs:=ga.He _ (ic hj)
  have RS:=hh;unfold has at RS;have OE:=Aad hs (k:=u - ss[j].pa) (by omega) (by omega);have Yk:=hs.f0
  have hl:=hs.Ng
  have Mh:=hs.last
  have a1:∀ H,Ua H 1 (.pv DG) (j:Int)=some (.pv (.rp [Te ss[j].ba] 0)):=fun H=>by rw[DM.lit (i:=j) (by simpa using hj)];simp only[Ua];rw[if_pos ⟨trivial,by unfold Ta;rw[wb];omega⟩,Uc,Gd,Rb hj];rfl
  generalize ss[j]=s at *;have w1:IntKind.i64.wrap (u - s.pa)=u - s.pa:=Gb (by omega)
  have p0:∀ a b c d,place [fa.box [.pv a,.pv b,.pv c]] d (.ptr 0 0)=some (.ptr 0 (0+d)):=fun a b c d=>rfl;have q2:∀ a b c,wa [fa.box [.pv a,.pv b,.pv c]] false 1 (.ptr 0 2)=some (.pv c):=fun a b c=>rfl;have q0:∀ a b c,wa [fa.box [.pv a,.pv b,.pv c]] false 1 (.ptr 0 0)=some (.pv a):=fun a b c=>rfl;simp -implicitDefEqProofs only[tK,SX,sevalprocAttr,CQ,hr,st,Kk,l3,p0,q2,q0,a1,Xd,w1,OE]
 ·rw[CW hn]
  simp -implicitDefEqProofs only[tK,SX,sevalprocAttr,CQ,hr,st]
def Oj(bs:List Int):List ya->Option Int
 | []=>none
 |s::ss=>match Zg s bs with
  |some k=>some (s.pa+k)
  |none=>Oj bs ss
omit hT ga in
theorem oad{bs:List Int}{ss:List ya}{i:Nat}(hi:i < ss.length):Oj bs (ss.drop i)=match Zg ss[i] bs with | some k=>some (ss[i].pa+k) | none=>Oj bs (ss.drop (i+1)):=by
 rw[Hh hi,Oj]
theorem lar{B:PV}{bs:List Int}(hB:Oh B bs):ZF [T,B]=some (match Oj bs ss with | some v=> .Ba [aa v,.bool true] | none=> .Ba [aa 0,.bool false]):=by
 obtain⟨S',NX,DG,RW,rfl,IM,_,DM,_⟩:=hT.ex
 have Ky:=uO (a:=S') (b:=ni l) (c:=NX) (d:=DG) (e:=RW) (f:=aa (wh ss));have l3:=fun H=>(Ky H).2.1
 have l0:=fun H=>(Ky H).2.2.2.2.1
 generalize ([S',ni l,NX,DG,RW,aa (wh ss)]:List PV)=R at *;have lD:=DM.len
 rw[wb] at lD;have Wq:=ga.len
 have Ms:=hB.one
 obtain⟨D,hD⟩:∃ D,D=Oj bs ss:=⟨_,rfl⟩;rw[<- hD];have yc:=fun (E:Tr)(h0:E.get 0= .pv (.rp R 0))(h1:E.get 1= .pv B)(h15:E.get 15= .pv DG)(h16:E.get 16= .pv (aa ss.length))(h17:E.get 17= .pv (aa 0))=>
  Bw (call:=La (fun _=>none) 8) (b:=cH) (live:=[0,1,15,16,17]) (s:=⟨E,[]⟩) (Q:=fun r=>(∃ E',r=(.exit 0,⟨E',[]⟩)/\D=none)\/∃ E' v,r=(.ret,⟨E',[]⟩)/\E'.get 4= .pv (aa v)/\E'.get 5= .pv (.bool true)/\D=some v)
   (fun i t=>Bc [0,1,15,16] E t.env/\t.env.get 17= .pv (aa i)/\t.H=[]/\D=Oj bs (ss.drop i)) ss.length (by unfold Ga;omega)
   (yg.all rfl (by simp) (Fit.cons h0 bc (.cons h1 bc (.cons h15 bc (.cons h16 bc (.cons h17 bc (.nil _ _)))))) fun E' hE=>⟨Bc.sub hE rfl,by rw[hE 17 (by simp),h17];rfl,rfl,hD⟩)
   (by
    rintro i ⟨E1,H1⟩ hi ⟨k1,k2,k3,k5⟩;simp only at k1 k2 k3;subst k3;have g0:=(k1 0 (by simp)).trans h0
    have g1:=(k1 1 (by simp)).trans h1
    have g15:=(k1 15 (by simp)).trans h15
    have g16:=(k1 16 (by simp)).trans h16
    have hs:=ga.He _ (ic hi)
    have Dn:=zad hB hs;rw[oad hi] at k5;have eZ:(Te ss[i].ba).cells=[Te ss[i].ba]:=rfl
    have a1:∀ H,Ua H 1 (.pv DG) (i:Int)=some (.pv (.rp [Te ss[i].ba] 0)):=fun H=>by rw[DM.lit (i:=i) (by simpa using hi)];simp only[Ua];rw[if_pos ⟨trivial,by unfold Ta;rw[wb];omega⟩,Uc,Gd,Rb hi];rfl
    have a2:∀ H,Ua H 2 (.pv S') (i:Int)=some (.pv (.rp [.lit 1 (ss[i].ba.map rh),aa ss[i].pa] 0)):=fun H=>by rw[IM.lit (i:=i) (by simpa using hi)];simp only[Ua];rw[if_pos ⟨trivial,by unfold Ta;rw[wb];omega⟩,Uc,Gd,Rb hi];rfl
    have Fu:=fun k hk=>yao (b:=bs) (k:=k) hs hk;generalize ss[i]=s at *;have Yk:=hs.f0
    have e1:decide ((i:Int) < (ss.length:Int))=true:=Qa (by omega);have t1:IntKind.i64.wrap ((i:Int)+1)=((i+1:Nat):Int):=sm (by omega)
    generalize hQ:RQ _ _ _ _=Q;cases Vi:Zg s bs with
    |some k=>
     rw[Vi] at k5;have Zp:=Dn.1 k Vi
     have hb:=Fu k Vi;have w1:IntKind.i64.wrap (s.pa+k)=s.pa+k:=Gb (by omega)
     simp -implicitDefEqProofs only[SX,sevalprocAttr,cH,g0,g1,g15,g16,k2,e1,a1,a2,Xd,Kk,l0,Jt,Zp,w1];subst hQ;exact .inr ⟨_,_,rfl,by simp[Tr.na],by simp[Tr.na],k5⟩
    |none=>
     rw[Vi] at k5;have Zp:=Dn.2 Vi
     simp -implicitDefEqProofs only[SX,sevalprocAttr,cH,g0,g1,g15,g16,k2,e1,a1,Xd,Zp,t1];subst hQ;rw[Xr];generalize vc:(Tr.set _ 17 _:Tr)=E2;have kk:Bc [0,1,15,16] E E2:=by
      rw[<- vc]
      repeat refine Bc.set ?_ rfl
      exact k1
     have z17:E2.get 17= .pv (aa (i+1:Nat)):=by rw[<- vc];simp[Tr.na]
     exact yg.all rfl (by simp) (Fit.sub (.cons z17 bc (Fit.qc (l:=[0,1,15,16]) (.cons h0 bc (.cons h1 bc (.cons h15 bc (.cons h16 bc (.nil _ _))))) kk)) rfl) fun E' hE=>⟨kk.trans (Bc.sub hE rfl),by rw[hE 17 (by simp),z17],rfl,k5⟩)
   (by
    rintro⟨E1,H1⟩ ⟨k1,k2,k3,k5⟩;simp only at k1 k2 k3;subst k3;have g16:=(k1 16 (by simp)).trans h16
    rw[Zh] at k5;have e1:decide ((ss.length:Int) < (ss.length:Int))=false:=Ra (by omega);generalize hQ:(fun r:Ex×St=>r.1.stop=true/\_)=Q;simp -implicitDefEqProofs only[SX,sevalprocAttr,cH,g16,k2,e1];subst hQ;exact⟨rfl,.inl ⟨_,rfl,k5⟩⟩)
 refine Hl ?_;generalize hQ:(fun x:PV=>x=_)=Q;simp -implicitDefEqProofs only[ZF,SX,sevalprocAttr,BQ,Zd,Kk,l3,lD];generalize vc:(Tr.set _ 17 _:Tr)=E;refine Bb (yc E (by rw[<- vc];simp[Tr.na]) (by rw[<- vc];simp[Tr.na]) (by rw[<- vc];simp[Tr.na]) (by rw[<- vc];simp[Tr.na]) (by rw[<- vc];simp[Tr.na])) ?_;rintro r ⟨_,⟨E',rfl,z1⟩ | ⟨E',v,rfl,z4,z5,z6⟩⟩
 ·simp -implicitDefEqProofs only[SX,sevalprocAttr]
  subst hQ;rw[z1]
 ·simp -implicitDefEqProofs only[SX,sevalprocAttr,z4,z5]
  subst hQ;rw[z6]
end
structure qf where
 kind:Int
 size:Nat
 u:Int
theorem YT(l:List (List Oa)):∀ (bs:List Int)(i:Nat)(st:Int),∃ k:Nat,i<=k/\k<=i+bs.length/\((vh l i st bs=((k:Int),1)/\i < k)\/(vh l i st bs=((k:Int),2)/\k=i+bs.length)\/(vh l i st bs=((k:Int),3)/\k < i+bs.length))
 | [],i,st=>⟨i,gb _,by simp,.inr (.inl ⟨rfl,by simp⟩)⟩
 |b::r,i,st=>by
  rw[vh]
  by_cases h1:(Md l st b).2=false
  ·rw[if_pos h1];exact⟨i,gb _,by simp,.inr (.inr ⟨rfl,by simp⟩)⟩
  ·rw[qa h1]
   by_cases h2:(Md l st b).1= -1
   ·rw[if_pos h2];exact⟨i+1,by omega,by simp,.inl ⟨rfl,by omega⟩⟩
   ·rw[qa h2]
    obtain⟨k,k1,k2,k3⟩:=YT l r (i+1) (Md l st b).1
    refine⟨k,by omega,by simp;omega,?_⟩;rcases k3 with⟨a,b⟩ | ⟨a,b⟩ | ⟨a,b⟩
    ·exact .inl ⟨a,by omega⟩
    ·exact .inr (.inl ⟨a,by simp;omega⟩)
    ·exact .inr (.inr ⟨a,by simp;omega⟩)
def stays(l:List (List Oa)):Int->List Int->Option Int
 |st,[]=>some st
 |st,b::r=>if (Md l st b).2=false\/(Md l st b).1= -1 then none else stays l (Md l st b).1 r
theorem ZT{l:List (List Oa)}{st':Int}(r:List Int):∀ {h:List Int}{i:Nat}{st:Int},stays l st h=some st'->vh l i st (h++r)=vh l (i+h.length) st' r
 | [],i,st,hs=>by injection hs with hs;subst hs;rfl
 |b::h,i,st,hs=>by
  rw[stays] at hs
  split at hs
  ·cases hs
  ·next hn=>
   rw[Sg,vh,qa (fun h=>hn (.inl h)),qa (fun h=>hn (.inr h)),ZT r hs,Td]
   congr 1;omega
theorem jV{l:List (List Oa)}{b:Int}{st':Int}:∀ {h:List Int}{st:Int},stays l st h=some st'->(Md l st' b).2=true->(Md l st' b).1≠ -1->stays l st (h++[b])=some (Md l st' b).1
 | [],st,hs,h1,h2=>by
   injection hs with hs;subst hs
   rw[Kf,stays,qa (by rw[h1];simp[h2]),stays]
 |c::h,st,hs,h1,h2=>by
  rw[stays] at hs
  split at hs
  ·cases hs
  ·next hn=>rw[Sg,stays,qa hn];exact jV hs h1 h2
section
variable (ss:List ya)(l:List (List Oa))
def ef(bs:List Int):qf:=
 if (vh l 0 0 bs).2=1 then ⟨1,(vh l 0 0 bs).1.toNat,(Oj (bs.take (vh l 0 0 bs).1.toNat) ss).getD 0⟩
 else if (vh l 0 0 bs).2=2 then ⟨3,(vh l 0 0 bs).1.toNat,0⟩ else ⟨2,max (vh l 0 0 bs).1.toNat 1,0⟩
theorem dE{bs:List Int}(h:bs≠[]):1<=(ef ss l bs).size/\(ef ss l bs).size<=bs.length:=by
 have hl:0 < bs.length:=Vn.2 h
 obtain⟨k,k1,k2,k3⟩:=YT l bs 0 0;unfold ef;rcases k3 with⟨a,b⟩ | ⟨a,b⟩ | ⟨a,b⟩ <;> rw[a] <;> simp <;> omega
def Tv:Nat->List Int->List qf
 |0,_=>[]
 |n+1,bs=>if bs=[] then [] else ef ss l bs::Tv n (bs.drop (ef ss l bs).size)
theorem ZX:∀ {n m:Nat}{bs:List Int},bs.length<=n->bs.length<=m->Tv ss l n bs=Tv ss l m bs
 |0,m,bs,h1,h2=>by have:bs=[]:=Ze (by omega);subst this;cases m <;> simp[Tv]
 |n+1,0,bs,h1,h2=>by have:bs=[]:=Ze (by omega);subst this;simp[Tv]
 |n+1,m+1,bs,h1,h2=>by
  rw[Tv,Tv]
  by_cases h:bs=[]
  ·rw[if_pos h,if_pos h]
  ·rw[qa h,qa h]
   have:=dE ss l h;rw[ZX (n:=n) (m:=m) (by rw[uk];omega) (by rw[uk];omega)]
def lj(bs:List Int):List qf:=Tv ss l bs.length bs
theorem nM:lj ss l []=[]:=rfl
theorem KR{bs:List Int}(h:bs≠[]):lj ss l bs=ef ss l bs::lj ss l (bs.drop (ef ss l bs).size):=by
 have hl:0 < bs.length:=Vn.2 h
 have hs:=dE ss l h;obtain⟨n,hn⟩:∃ n,bs.length=n+1:=⟨bs.length - 1,by omega⟩
 unfold lj
 conv=>lhs;rw[hn]
 rw[Tv,qa h,ZX ss l (n:=n) (m:=(bs.drop (ef ss l bs).size).length) (by rw[uk];omega) (gb _)]
def Gs:Nat->List Int->List qf×List Int
 |0,bs=>([],bs)
 |n+1,bs=>if bs=[]\/(ef ss l bs).kind=3 then ([],bs) else (ef ss l bs::(Gs n (bs.drop (ef ss l bs).size)).1,(Gs n (bs.drop (ef ss l bs).size)).2)
theorem JW:∀ {n m:Nat}{bs:List Int},bs.length<=n->bs.length<=m->Gs ss l n bs=Gs ss l m bs
 |0,m,bs,h1,h2=>by have:bs=[]:=Ze (by omega);subst this;cases m <;> simp[Gs]
 |n+1,0,bs,h1,h2=>by have:bs=[]:=Ze (by omega);subst this;simp[Gs]
 |n+1,m+1,bs,h1,h2=>by
  rw[Gs,Gs]
  by_cases h:bs=[]\/(ef ss l bs).kind=3
  ·rw[if_pos h,if_pos h]
  ·rw[qa h,qa h]
   have:=dE ss l (fun h'=>h (.inl h'));rw[JW (n:=n) (m:=m) (by rw[uk];omega) (by rw[uk];omega)]
def we(bs:List Int):List qf×List Int:=Gs ss l bs.length bs
theorem EL{bs:List Int}(h:bs=[]\/(ef ss l bs).kind=3):we ss l bs=([],bs):=by
 unfold we;cases bs.length with
 |zero=>rfl
 |succ n=>rw[Gs,if_pos h]
theorem JD{bs:List Int}(h:bs≠[])(h3:(ef ss l bs).kind≠3):we ss l bs=(ef ss l bs::(we ss l (bs.drop (ef ss l bs).size)).1,(we ss l (bs.drop (ef ss l bs).size)).2):=by
 have hl:0 < bs.length:=Vn.2 h
 have hs:=dE ss l h;obtain⟨n,hn⟩:∃ n,bs.length=n+1:=⟨bs.length - 1,by omega⟩
 unfold we
 conv=>lhs;rw[hn]
 rw[Gs,qa (by simp[h,h3]),JW ss l (n:=n) (m:=(bs.drop (ef ss l bs).size).length) (by rw[uk];omega) (gb _)]
def bu(x:Int):List qf×List Int:=if (Md l 0 x).2=true then (if (Md l 0 x).1= -1 then ([⟨1,1,(Oj [x] ss).getD 0⟩],[]) else ([],[x])) else ([⟨2,1,0⟩],[])
def zi(stop:Bool)(h:List Int)(st x:Int):List qf×List Int:=
 if (Md l st x).2=true then (if (Md l st x).1= -1 then ([⟨1,h.length+1,(Oj (h++[x]) ss).getD 0⟩],[]) else ([],h++[x]))
 else if h=[] then ([⟨2,1,0⟩],[]) else if stop then ([⟨2,h.length,0⟩],[]) else (⟨2,h.length,0⟩::(bu ss l x).1,(bu ss l x).2)
def dm(e:qf):Bool:=e.kind==2
def Ci(stop:Bool):List Int->List Int->List qf×List Int×Bool
 |h,[]=>([],h,false)
 |h,x::r=>if stop&&(zi ss l stop h ((stays l 0 h).getD 0) x).1.any dm then ((zi ss l stop h ((stays l 0 h).getD 0) x).1,(zi ss l stop h ((stays l 0 h).getD 0) x).2,true)
  else ((zi ss l stop h ((stays l 0 h).getD 0) x).1++(Ci stop (zi ss l stop h ((stays l 0 h).getD 0) x).2 r).1,(Ci stop (zi ss l stop h ((stays l 0 h).getD 0) x).2 r).2)
theorem WX{h:List Int}{st:Int}(hs:stays l 0 h=some st)(r:List Int):vh l 0 0 (h++r)=vh l h.length st r:=by
 rw[ZT r hs,De]
theorem Bac{h:List Int}{st:Int}(hs:stays l 0 h=some st):we ss l h=([],h):=by
 apply EL;have:=WX l hs [];rw[yi,vh] at this;exact .inr (by unfold ef;rw[this,qa (by simp),if_pos rfl])
theorem Aac(x:Int)(r:List Int):∃ st,stays l 0 (bu ss l x).2=some st/\we ss l (x::r)=((bu ss l x).1++(we ss l ((bu ss l x).2++r)).1,(we ss l ((bu ss l x).2++r)).2):=by
 unfold bu;have hm:vh l 0 0 (x::r)=if (Md l 0 x).2=false then (((0:Nat):Int),3) else if (Md l 0 x).1= -1 then (((0+1:Nat):Int),1) else vh l (0+1) (Md l 0 x).1 r:=rfl
 by_cases h1:(Md l 0 x).2=true
 ·rw[if_pos h1]
  rw[qa (by rw[h1];simp)] at hm
  by_cases h2:(Md l 0 x).1= -1
  ·rw[if_pos h2]
   rw[if_pos h2] at hm;refine⟨0,rfl,?_⟩;have he:ef ss l (x::r)=⟨1,1,(Oj [x] ss).getD 0⟩:=by unfold ef;rw[hm];rfl
   rw[JD ss l (by simp) (by rw[he];simp),he];rfl
  ·rw[qa h2]
   exact⟨_,by rw[stays,qa (by rw[h1];simp[h2]),stays],rfl⟩
 ·have Jg:(Md l 0 x).2=false:=by simpa using h1
  rw[qa h1];rw[if_pos Jg] at hm;refine⟨0,rfl,?_⟩;have he:ef ss l (x::r)=⟨2,1,0⟩:=by unfold ef;rw[hm];rfl
  rw[JD ss l (by simp) (by rw[he];simp),he];rfl
theorem zac{h:List Int}{st:Int}(hs:stays l 0 h=some st)(x:Int)(r:List Int):∃ st',stays l 0 (zi ss l false h st x).2=some st'/\we ss l (h++x::r)=((zi ss l false h st x).1++(we ss l ((zi ss l false h st x).2++r)).1,(we ss l ((zi ss l false h st x).2++r)).2):=by
 have hm:=WX l hs (x::r);have eN:vh l h.length st (x::r)=if (Md l st x).2=false then ((h.length:Int),3) else if (Md l st x).1= -1 then (((h.length+1:Nat):Int),1) else vh l (h.length+1) (Md l st x).1 r:=rfl
 rw[eN] at hm;unfold zi
 by_cases h1:(Md l st x).2=true
 ·rw[if_pos h1]
  rw[qa (by rw[h1];simp)] at hm
  by_cases h2:(Md l st x).1= -1
  ·rw[if_pos h2]
   rw[if_pos h2] at hm;refine⟨0,rfl,?_⟩;have ht:(h++x::r).take (h.length+1)=h++[x]:=by rw[IK,Ih (by omega)];simp
   have hd:(h++x::r).drop (h.length+1)=r:=by rw[yK,uP (by omega)];simp
   have he:ef ss l (h++x::r)=⟨1,h.length+1,(Oj (h++[x]) ss).getD 0⟩:=by unfold ef;rw[hm,if_pos rfl,Uc,ht]
   rw[JD ss l (by simp) (by rw[he];simp),he];simp only[hd];rfl
  ·rw[qa h2]
   refine⟨_,jV hs h1 h2,by simp⟩
 ·have Jg:(Md l st x).2=false:=by simpa using h1
  rw[qa h1];rw[if_pos Jg] at hm
  by_cases h0:h=[]
  ·subst h0
   rw[if_pos rfl];refine⟨0,rfl,?_⟩;have he:ef ss l ([]++x::r)=⟨2,1,0⟩:=by unfold ef;rw[hm];rfl
   rw[JD ss l (by simp) (by rw[he];simp),he];rfl
  ·rw[qa h0,qa (by simp)]
   have hl:0 < h.length:=Vn.2 h0
   obtain⟨rj,b1,b2⟩:=Aac ss l x r;refine⟨rj,b1,?_⟩;have he:ef ss l (h++x::r)=⟨2,h.length,0⟩:=by
    unfold ef;rw[hm,qa (by simp),qa (by simp),Uc]
    congr 1;omega
   rw[JD ss l (by simp) (by rw[he];simp),he];simp only[List.drop_left' rfl];rw[b2];rfl
theorem qM:∀ (b h:List Int)(st:Int),stays l 0 h=some st->Ci ss l false h b=((we ss l (h++b)).1,(we ss l (h++b)).2,false)/\∃ st',stays l 0 (we ss l (h++b)).2=some st'
 | [],h,st,hs=>by rw[yi,Bac ss l hs];exact⟨rfl,st,hs⟩
 |x::r,h,st,hs=>by
  obtain⟨st',c1,c2⟩:=zac ss l hs x r;rw[c2,Ci,hs,ov];obtain⟨f1,f2⟩:=qM r (zi ss l false h st x).2 st' c1
  rw[f1];exact⟨rfl,f2⟩
end
def Jd(e:qf)(at_:Int):PV:= .agg [aa e.kind,aa at_,aa e.size,aa e.u,aa 0]
def Xb:Nat->List qf->List PV
 |_,[]=>[]
 |k,e::r=>Jd e k::Xb (k+e.size) r
theorem zj:∀ (k:Nat)(l:List qf),(Xb k l).length=l.length
 |_,[]=>rfl
 |k,e::r=>by rw[Xb,Td,Td,zj]
theorem ER:∀ (k:Nat)(l:List qf)(i:Nat)(h:i < l.length),∃ p:Nat,(Xb k l)[i]? =some (Jd l[i] p)
 |k,e::r,0,_=>⟨k,rfl⟩
 |k,e::r,i+1,h=>by obtain⟨p,hp⟩:=ER (k+e.size) r i (by simpa using h);exact⟨p,by simpa[Xb] using hp⟩
theorem jM:∀ (k:Nat)(a b:List qf),Xb k (a++b)=Xb k a++Xb (k+(a.map (·.size)).sum) b
 |k,[],b=>by simp[Xb]
 |k,e::a,b=>by rw[Sg,Xb,Xb,jM,Pf,List.sum_cons,Nat.add_assoc];rfl
def GX(T R:PV)(un Ea out:Int)(st fin:Bool):fa:= .box ([T,aa un,R,aa Ea,aa out,.bool st,.bool fin].map .pv)
structure jP(T:PV)(cd:Int->Option (List Int)):Prop where
 enc:∀ u,tK [T,aa u]=some (match cd u with | some b=> .Ba [.lit 1 (b.map u8),.bool true] | none=> .Ba [.oa,.bool false])
 len:∀ u b,cd u=some b->b.length<=8
 ptr:∃ R,T= .rp R 0
structure VC(U:AV)(us:List Int)(n0:Nat):Prop where
 len:∀ H,mb H 0 U=some us.length
 ZC:∀ H (i:Nat) (h:i < us.length),Ua H 1 U i=some (.pv (.rp [aa us[i]] 0))
 cut:∀ n,n0<=n->AV.cut n deep U=some U
theorem vV{A:List fa}{id n sz bytes:Nat}{nl nl' ag:Bool}{h:Qc}{es ys:List PV}(hg:A[id]? =some (.tok sz n nl'))(hn:n=es.length)(hr:Ac (es.length+ys.length) bytes):
 Ud A false h sz ag bytes (.uq id nl sz es) (.pv (.lit sz ys))=some (.uq id (nl&&ys.isEmpty) sz (es++ys),A.set id (.tok sz (es.length+ys.length) (nl&&ys.isEmpty))):=by
 subst hn;simp only[Ud,Sc,if_false,hg,Bg,if_true,Lc];rw[if_pos ⟨trivial,trivial,trivial,hr⟩]
section
variable {A:List fa}{c:Nat}
end
def ie(buf:List Int)(r h n:Int):List PV:=buf.map u8++[aa r,aa h,aa n]
theorem BW{buf:List Int}(hb:buf.length=8)(r h n:Int):(ie buf r h n).length=11:=by simp[ie,hb]
theorem lac{buf:List Int}(hb:buf.length=8){r h n:Int}{k:Nat}(hk:k < 8):(ie buf r h n)[k]? =some (u8 (buf[k]'(by omega))):=by
 unfold ie;rw[Kc (by simp;omega)];simp[hb,hk]
theorem jH{buf:List Int}(hb:buf.length=8){r h n:Int}:(ie buf r h n)[8]? =some (aa r)/\(ie buf r h n)[9]? =some (aa h)/\(ie buf r h n)[10]? =some (aa n):=by
 unfold ie;refine⟨?_,?_,?_⟩ <;> rw[Tg (by simp;omega)] <;> simp[hb]
structure oh(buf:List Int)(h:Nat)(q:List Int):Prop where
 len:buf.length=8
 head:h < 8
 n:q.length<=8
 ZC:∀ i (hi:i < q.length),buf[(h+i) % 8]? =some q[i]
 jg:∀ x∈q,0<=x/\x<=255
theorem yN{row:List PV}{k:Nat}{p:PV}(h:row[k]? =some p)(H:List fa):wa H false 1 (.pv (.rp row k))=some (.pv p):=by
 show (row[k]?).map AV.pv=_
 rw[h];rfl
theorem mz(row:List PV)(H:List fa)(k:Nat):place H k (.pv (.rp row 0))=some (.pv (.rp row k)):=by
 show some (AV.pv (.rp row (0+k)))=_;rw[De]
theorem BL{buf q:List Int}{h:Nat}{r:Int}(hq:oh buf h q):Zw [.rp (ie buf r h q.length) 0]=some (aa q.length):=by
 obtain⟨c8,c9,Ev⟩:=jH hq.len (r:=r) (h:=h) (n:=q.length)
 generalize ie buf r h q.length=row at *
 have e1:∀ H,Zd H 1 (.pv (.rp row 0)) (.pv .Ic)=some false:=fun H=>rfl;have pl:=mz row;have ld:=fun H=>yN Ev H;simp -implicitDefEqProofs only[Zw,SX,sevalprocAttr,GP,e1,pl,ld]
theorem mac{buf q:List Int}{h:Nat}{r:Int}(hq:oh buf h q){i:Nat}(hi:i < q.length):TJ [.rp (ie buf r h q.length) 0,aa i]=some (.Ba [u8 q[i],.bool true]):=by
 have hlen:=BL (r:=r) hq;obtain⟨c8,c9,Ev⟩:=jH hq.len (r:=r) (h:=h) (n:=q.length)
 have hm:(h+i) % 8 < 8:=Cx _ (by decide);have SM:=lac hq.len (r:=r) (h:=(h:Int)) (n:=q.length) hm
 have hbv:buf[(h+i) % 8]'(by rw[hq.len];exact hm)=q[i]:=by
  have:=hq.ZC i hi
  rw[Rb (by rw[hq.len];exact hm)] at this;injection this
 rw[hbv] at SM;have hh:=hq.head
 have hn:=hq.n
 generalize ie buf r h q.length=row at *
 have pl:=mz row;have ld9:=fun H=>yN c9 H;have ldm:=fun H=>yN SM H;have d1:decide ((i:Int) < 0)=false:=Ra (by omega);have d2:decide ((i:Int)>=(q.length:Int))=false:=Ra (by omega);have w1:IntKind.i64.wrap ((h:Int)+(i:Int))=((h+i:Nat):Int):=(Gb (by omega)).trans (by omega)
 have w2:(((h+i:Nat):Int)).tmod 8=(((h+i) % 8:Nat):Int):=(Int.ofNat_tmod (h+i) 8).symm
 have hx:Ta (((h+i) % 8:Nat):Int) 8:=by unfold Ta;omega
 have kT:((((h+i) % 8:Nat):Int)).toNat=(h+i) % 8:=Uc _
 simp -implicitDefEqProofs only[TJ,SX,sevalprocAttr,FP,hlen,pl,ld9,d1,d2,w1,w2,Sa hx,kT,ldm]
def Dc(buf:List Int)(r h n:Int):fa:= .box ((ie buf r h n).map .pv)
theorem Fv{H:List fa}{c:Nat}{row:List PV}(hc:H[c]? =some (.box (row.map .pv))){k:Nat}{p:PV}(hk:row[k]? =some p):wa H false 1 (.ptr c k)=some (.pv p):=by
 unfold wa;simp only[hc];show (row.map AV.pv)[k]? =_;rw[Gd,hk];rfl
theorem FA{H:List fa}{c:Nat}{cells:List AV}(hc:H[c]? =some (.box cells))(k:Nat):place H k (.ptr c 0)=some (.ptr c k):=by
 unfold place;simp only[hc,De]
theorem iH{H:List fa}{c:Nat}{row:List PV}(hc:H[c]? =some (.box (row.map .pv))){k:Nat}(hk:k < row.length){p:PV}(h1:(AV.pv p).one=true)(h2:p.cells=[p]):Db H 1 (.ptr c k) (.pv p)=some (H.set c (.box ((row.set k p).map .pv))):=by
 unfold Db;rw[if_pos ⟨by simp[AV.cells,h2],by simp[AV.cells,h2,h1]⟩];simp only[hc];rw[if_pos (by rw[wb];omega)];simp[AV.cells,h2,za,Tz]
theorem iao{call:Ab}{H:List fa}{c:Nat}{buf q:List Int}{h:Nat}{x:Int}(hq:oh buf h q)(hc:H[c]? =some (Dc buf 8 h q.length))(hl:q.length < 8)(hx:0<=x/\x<=255):
 ∃ buf',oh buf' h (q++[x])/\Gc call Av [.ptr c 0,.pv (u8 x)] H=some (.pv (aa 0),H.set c (Dc buf' 8 h (q++[x]).length)):=by
 obtain⟨c8,c9,Ev⟩:=jH hq.len (r:=8) (h:=h) (n:=q.length)
 have Ui:=BW hq.len 8 h q.length
 have hm:(h+q.length) % 8 < 8:=Cx _ (by decide);have hh:=hq.head
 refine⟨buf.set ((h+q.length) % 8) x,⟨by rw[Um];exact hq.len,hh,by simp;omega,fun i hi=> ?_,fun y hy=> ?_⟩,?_⟩
 ·rw[List.getElem?_set]
  rcases yd i q.length with hlt | hge
  ·rw[qa (by omega),hq.ZC i hlt,List.getElem_append_left hlt]
  ·have:i=q.length:=by simp at hi;omega
   subst this;rw[if_pos rfl,if_pos (by rw[hq.len];exact hm)];simp
 ·rcases Bd.1 hy with h1 | h1
  ·exact hq.jg y h1
  ·rw[ym] at h1;subst h1;exact hx
 ·unfold Dc at hc
  have fc:c < H.length:=(Ad.1 hc).1
  have e1:Zd H 1 (.ptr c 0) (.pv .Ic)=some false:=by simp[Zd,hc]
  have pl:=fun k=>FA hc k;have l8:=Fv hc c8;have l9:=Fv hc c9;have QT:=Fv hc Ev;have d1:decide ((q.length:Int)>=8)=false:=Ra (by omega);have w1:IntKind.i64.wrap ((h:Int)+(q.length:Int))=((h+q.length:Nat):Int):=(Gb (by omega)).trans (by omega)
  have w2:(((h+q.length:Nat):Int)).tmod 8=(((h+q.length) % 8:Nat):Int):=(Int.ofNat_tmod (h+q.length) 8).symm
  have w3:IntKind.i64.wrap ((q.length:Int)+1)=((q.length+1:Nat):Int):=sm (by omega)
  have yy:Ta (((h+q.length) % 8:Nat):Int) 8:=by unfold Ta;omega
  have kT:((((h+q.length) % 8:Nat):Int)).toNat=(h+q.length) % 8:=Uc _
  have st1:=iH hc (k:=(h+q.length) % 8) (by omega) (p:=u8 x) rfl rfl;have hc2:(H.set c (.box (((ie buf 8 h q.length).set ((h+q.length) % 8) (u8 x)).map .pv)))[c]? =some (.box (((ie buf 8 h q.length).set ((h+q.length) % 8) (u8 x)).map .pv)):=by rw[Of fc]
  have dz:=fun k=>FA hc2 k;have PQ:((ie buf 8 h q.length).set ((h+q.length) % 8) (u8 x))[10]? =some (aa q.length):=by rw[List.getElem?_set,qa (by omega),Ev]
  have RT:=Fv hc2 PQ;have st2:=iH hc2 (k:=10) (by rw[Um];omega) (p:=aa ((q.length+1:Nat):Int)) rfl rfl;have Oe:((ie buf 8 h q.length).set ((h+q.length) % 8) (u8 x)).set 10 (aa ((q.length+1:Nat):Int))=ie (buf.set ((h+q.length) % 8) x) 8 h (q++[x]).length:=by unfold ie;rw[kv _ _ (by simp[hq.len];omega),Po _ _ (by simp[hq.len])];simp[hq.len,Tz]
  rw[List.set_set,Oe] at st2;unfold Dc;generalize ie buf 8 h q.length=row at *
  generalize ie (buf.set ((h+q.length) % 8) x) 8 h (q++[x]).length=qO at *
  generalize row.set ((h+q.length) % 8) (u8 x)=row1 at *
  simp -implicitDefEqProofs only[SX,sevalprocAttr,Av,e1,pl,l8,l9,QT,d1,w1,w2,w3,Sa yy,kT,st1,dz,RT,st2]
theorem sH{call:Ab}{H:List fa}{c:Nat}{buf q:List Int}{h k:Nat}(hq:oh buf h q)(hc:H[c]? =some (Dc buf 8 h q.length))(hk:k<=q.length):
 oh buf ((h+k) % 8) (q.drop k)/\Gc call Bs [.ptr c 0,.pv (aa k)] H=some (.pv (aa 0),H.set c (Dc buf 8 ((h+k) % 8:Nat) (q.drop k).length)):=by
 obtain⟨c8,c9,Ev⟩:=jH hq.len (r:=8) (h:=h) (n:=q.length)
 have Ui:=BW hq.len 8 h q.length
 have hh:=hq.head
 have hn:=hq.n
 have hm:(h+k) % 8 < 8:=Cx _ (by decide);refine⟨⟨hq.len,hm,by rw[uk];omega,fun i hi=> ?_,fun y hy=>hq.jg y (No hy)⟩,?_⟩
 ·rw[uk] at hi
  have:=hq.ZC (k+i) (by omega)
  rw[List.getElem_drop,<-this]
  congr 1
  omega
 ·unfold Dc at hc
  have fc:c < H.length:=(Ad.1 hc).1
  have e1:Zd H 1 (.ptr c 0) (.pv .Ic)=some false:=by simp[Zd,hc]
  have pl:=fun k=>FA hc k;have l9:=Fv hc c9;have QT:=Fv hc Ev;have d1:decide ((k:Int) < 0)=false:=Ra (by omega);have d2:decide ((k:Int) > (q.length:Int))=false:=Ra (by omega);have w1:IntKind.i64.wrap ((h:Int)+(k:Int))=((h+k:Nat):Int):=(Gb (by omega)).trans (by omega)
  have w2:(((h+k:Nat):Int)).tmod 8=(((h+k) % 8:Nat):Int):=(Int.ofNat_tmod (h+k) 8).symm
  have w3:IntKind.i64.wrap ((q.length:Int) - (k:Int))=(((q.drop k).length:Nat):Int):=(Gb (by omega)).trans (by rw[uk];omega)
  have st1:=iH hc (k:=9) (by omega) (p:=aa (((h+k) % 8:Nat):Int)) rfl rfl;have hc2:(H.set c (.box (((ie buf 8 h q.length).set 9 (aa (((h+k) % 8:Nat):Int))).map .pv)))[c]? =some (.box (((ie buf 8 h q.length).set 9 (aa (((h+k) % 8:Nat):Int))).map .pv)):=by rw[Of fc]
  have dz:=fun k=>FA hc2 k;have PQ:((ie buf 8 h q.length).set 9 (aa (((h+k) % 8:Nat):Int)))[10]? =some (aa q.length):=by rw[List.getElem?_set,qa (by omega),Ev]
  have RT:=Fv hc2 PQ;have st2:=iH hc2 (k:=10) (by rw[Um];omega) (p:=aa (((q.drop k).length:Nat):Int)) rfl rfl;have Oe:((ie buf 8 h q.length).set 9 (aa (((h+k) % 8:Nat):Int))).set 10 (aa (((q.drop k).length:Nat):Int))=ie buf 8 (((h+k) % 8:Nat):Int) (q.drop k).length:=by unfold ie;rw[Po _ _ (by simp[hq.len]),Po _ _ (by simp[hq.len])];simp[hq.len]
  rw[List.set_set,Oe] at st2;unfold Dc;generalize ie buf 8 h q.length=row at *
  generalize ie buf 8 (((h+k) % 8:Nat):Int) (q.drop k).length=qO at *
  generalize row.set 9 (aa (((h+k) % 8:Nat):Int))=row1 at *
  simp -implicitDefEqProofs only[SX,sevalprocAttr,Bs,e1,pl,l9,QT,d1,d2,w1,w2,w3,st1,dz,RT,st2]
def Hc(A:List fa)(d c:Nat)(o1 o2:fa)(X:List fa):List fa:=(A.set d o1).set c o2++X
structure uv(A:List fa)(d c:Nat):Prop where
 ld:d < A.length
 lc:c < A.length
 ne:d≠c
section
variable {A:List fa}{d c:Nat}(h:uv A d c){o1 o2 o:fa}{X:List fa}
include h
theorem Fy:(Hc A d c o1 o2 X)[d]? =some o1:=by
 have:=h.ld;have:=h.ne
 unfold Hc;rw[Kc (by simp;omega),ze (by omega),Of (by omega)]
theorem HE:(Hc A d c o1 o2 X)[c]? =some o2:=by
 have:=h.lc
 unfold Hc;rw[Kc (by simp;omega),Of (by simp;omega)]
theorem qT:(Hc A d c o1 o2 X).set d o=Hc A d c o o2 X:=by
 have:=h.ld;have:=h.ne
 unfold Hc;rw[kv _ _ (by simp;omega),List.set_comm _ _ (tf h.ne),List.set_set]
theorem JZ:(Hc A d c o1 o2 X).set c o=Hc A d c o1 o X:=by
 have:=h.lc
 unfold Hc;rw[kv _ _ (by simp;omega),List.set_set]
omit h
theorem Wp:(Hc A d c o1 o2 X).length=A.length+X.length:=by simp[Hc]
theorem MZ(k:Nat):(Hc A d c o1 o2 X)[A.length+k]? =X[k]? :=by
 unfold Hc;rw[Tg (by simp)];simp
theorem KZ(k:Nat):(Hc A d c o1 o2 X).set (A.length+k) o=Hc A d c o1 o2 (X.set k o):=by
 unfold Hc;rw[Po _ _ (by simp)];simp
theorem Ey(Y:List fa):Hc A d c o1 o2 X++Y=Hc A d c o1 o2 (X++Y):=by unfold Hc;rw[Ij]
theorem uaj{k:Nat}(hk:k < A.length)(h1:k≠d)(h2:k≠c):(Hc A d c o1 o2 X)[k]? =A[k]? :=by
 unfold Hc;rw[Kc (by simp;omega),ze (by omega),ze (by omega)]
end
def Qx(T:PV)(bad:Int)(c:Nat)(st at_ Ea:Int)(ab fin:Bool):List AV:=[.pv T,.pv (aa bad),.ptr c 0,.pv (aa st),.pv (aa at_),.pv (aa Ea),.pv (.bool ab),.pv (.bool fin)]
def Wb(T:PV)(bad:Int)(c:Nat)(st at_ Ea:Int)(ab fin:Bool):fa:= .box (Qx T bad c st at_ Ea ab fin)
theorem AL{H:List fa}{c:Nat}{row:List PV}(hc:H[c]? =some (.box (row.map .pv)))(d:Nat):qb H (d+1) (.ptr c 0)=some (.rp row 0):=by
 have key:∀ row:List PV,Ha (qb H d) (row.map .pv)=some row:=by
  intro row
  induction row with
  |nil=>rfl
  |cons p r ih=>have h1:qb H d (.pv p)=some p:=ej H d p;simp only[Pf,Ha,h1,ih];rfl
 unfold qb;simp only[hc,key];rfl
section
variable {H:List fa}{d c:Nat}{T:PV}{bad st at_ Ea:Int}{ab fin:Bool}(h:H[d]? =some (Wb T bad c st at_ Ea ab fin))
include h
theorem fad:Zd H 1 (.ptr d 0) (.pv .Ic)=some false:=by simp only[Zd,h,Wb]
theorem JA(k:Nat):place H k (.ptr d 0)=some (.ptr d k):=FA h k
theorem Px{k:Nat}{v:AV}(hk:(Qx T bad c st at_ Ea ab fin)[k]? =some v):wa H false 1 (.ptr d k)=some v:=by
 unfold wa;simp only[h,Wb];show (Qx T bad c st at_ Ea ab fin)[k]? =_;exact hk
theorem IA:wa H false 1 (.ptr d 0)=some (.pv T)/\wa H false 1 (.ptr d 1)=some (.pv (aa bad))/\wa H false 1 (.ptr d 2)=some (.ptr c 0)/\wa H false 1 (.ptr d 3)=some (.pv (aa st))/\
 wa H false 1 (.ptr d 4)=some (.pv (aa at_))/\wa H false 1 (.ptr d 5)=some (.pv (aa Ea))/\wa H false 1 (.ptr d 6)=some (.pv (.bool ab))/\wa H false 1 (.ptr d 7)=some (.pv (.bool fin)):=
 ⟨Px h rfl,Px h rfl,Px h rfl,Px h rfl,Px h rfl,Px h rfl,Px h rfl,Px h rfl⟩
theorem pH{k:Nat}(hk:k < 8){p:PV}(h1:(AV.pv p).one=true)(h2:p.cells=[p]):Db H 1 (.ptr d k) (.pv p)=some (H.set d (.box ((Qx T bad c st at_ Ea ab fin).set k (.pv p)))):=by
 unfold Db;rw[if_pos ⟨by simp[AV.cells,h2],by simp[AV.cells,h2,h1]⟩];simp only[h,Wb];rw[if_pos (by show k+1<=8;omega)];simp[AV.cells,h2,za]
theorem mX(v:Int):Db H 1 (.ptr d 3) (.pv (aa v))=some (H.set d (Wb T bad c v at_ Ea ab fin)):=pH h (by decide) rfl rfl
theorem gad(v:Int):Db H 1 (.ptr d 4) (.pv (aa v))=some (H.set d (Wb T bad c st v Ea ab fin)):=pH h (by decide) rfl rfl
theorem iad(v:Int):Db H 1 (.ptr d 5) (.pv (aa v))=some (H.set d (Wb T bad c st at_ v ab fin)):=pH h (by decide) rfl rfl
theorem jad(v:Bool):Db H 1 (.ptr d 6) (.pv (.bool v))=some (H.set d (Wb T bad c st at_ Ea v fin)):=pH h (by decide) rfl rfl
theorem kad(v:Bool):Db H 1 (.ptr d 7) (.pv (.bool v))=some (H.set d (Wb T bad c st at_ Ea ab v)):=pH h (by decide) rfl rfl
end
def Still(X:List fa):Prop:=∀ n,X.all (Er n)=true
theorem Still.nil:Still []:=fun _=>rfl
theorem Still.app{X Y:List fa}(h1:Still X)(h2:Still Y):Still (X++Y):=fun n=>by rw[List.all_append,h1 n,h2 n];rfl
theorem Still.tok(sz n:Nat)(nl:Bool):Still [.tok sz n nl]:=fun _=>rfl
theorem Still.dead:Still [.dead]:=fun _=>rfl
theorem Still.box(cs:List PV):Still [.box (cs.map .pv)]:=fun n=>by simp only[tm,List.all_nil,NN,vz]
theorem Still.cons{o:fa}{X:List fa}(h1:Still [o])(h2:Still X):Still (o::X):=h1.app h2
theorem Still.zk{A X:List fa}(hA:Pd A)(hX:Still X):Pd (A++X):=fun n hn o ho=>by
 rcases Bd.1 ho with h | h
 ·exact hA n (by rw[Pc] at hn;omega) o h
 ·exact Gw (hX n) o h
theorem vI{A:List fa}{d c:Nat}(hA:Pd A)(h2:uv A d c){T:PV}{bad st at_ Ea:Int}{ab fin:Bool}{buf:List Int}{r h m:Int}{X:List fa}(hX:Still X):Pd (Hc A d c (Wb T bad c st at_ Ea ab fin) (Dc buf r h m) X):=by
 intro n hn o ho;rw[Wp] at hn;unfold Hc at ho;rcases Bd.1 ho with h | h
 ·rcases Oo h with h | rfl
  ·rcases Oo h with h | rfl
   ·exact hA n (by omega) o h
   ·have:=h2.lc
    exact QB (by simp[Wb,Qx,Er,fm,tw,show c < n by omega])
  ·exact QB (NN n _)
 ·exact Gw (hX n) o h
theorem nac{call:Ab}{H:List fa}{c:Nat}{buf q:List Int}{h:Nat}{r:Int}(hG:Pd H)(hq:oh buf h q)(hc:H[c]? =some (Dc buf r h q.length)):
 Gc call As [.ptr c 0] H=some (.uq H.length false 1 (q.map u8),H++[.tok 1 q.length false]):=by
 have hlen:=BL (r:=r) hq;have pg:=fun i (hi:i < q.length)=>mac (r:=r) hq hi;have hn:=hq.n
 unfold Dc at hc;have fc:c < H.length:=(Ad.1 hc).1
 have tp:=AL hc 5;have AJ:=fun Y=>AL (H:=H++Y) (show (H++Y)[c]? =_ by rw[Kc fc];exact hc) 5;generalize ie buf r h q.length=row at *
 have yc:=fun (E:Tr)(g0:E.get 0= .ptr c 0)(g3:E.get 3= .uq H.length false 1 [])(g11:E.get 11= .pv (aa q.length))(g12:E.get 12= .pv (aa 0))=>
  Aw (call:=call) (b:=qG) (live:=[0,3,11,12]) (E0:=E) (H0:=H++[.tok 1 0 false]) (Q:=fun r=>∃ E,r=(.exit 0,⟨E,H++[.tok 1 q.length false]⟩)/\E.get 3= .uq H.length false 1 (q.map u8))
   (fun i:Nat=>[(0,.ptr c 0),(3,.uq H.length false 1 ((q.take i).map u8)),(11,.pv (aa q.length)),(12,.pv (aa i))]) (fun i=>H++[.tok 1 ((q.take i).map u8).length false]) (fun i x=>x=i) q.length (by unfold Ga;omega) (fun _=>rfl)
   (fun i x _=>⟨by simp[fm,WE,tw,show c < H.length+1 by omega],fun o ho=>by
    rcases Bd.1 ho with h | h
    ·exact hG _ (by simp) o h
    ·simp at h;subst h;rfl,by simp⟩) ⟨0,⟨g0,g3,g11,g12,trivial⟩,rfl,rfl⟩
   (by
    rintro _ i E hi rfl ⟨g0,g3,g11,g12,_⟩;have ha:=pg i hi;have e1:decide ((i:Int) < (q.length:Int))=true:=Qa (by omega);have t1:IntKind.i64.wrap ((i:Int)+1)=((i+1:Nat):Int):=sm (by omega)
    have od:(q.take (i+1)).map u8=(q.take i).map u8++[u8 q[i]]:=by rw[GK,Rb hi,xm];rfl
    have ap:Ud (H++[.tok 1 ((q.take i).map u8).length false]) false .uq 1 false 1 (.uq H.length false 1 ((q.take i).map u8)) (.pv (.lit 1 [u8 q[i]]))=some (.uq H.length false 1 ((q.take (i+1)).map u8),H++[.tok 1 ((q.take (i+1)).map u8).length false]):=by rw[vV (n:=((q.take i).map u8).length) (nl':=false) (by simp) rfl (by unfold Ac;simp;omega),od];simp
    generalize q[i]=x at *;have fl:Gp [u8 x,PV.bool true]=true:=rfl;generalize hQ:RH _ _ _ _=Q;simp -implicitDefEqProofs only[SP,WP,sevalprocAttr,qG,g0,g3,g11,g12,e1,AJ,ha,fl,ap,t1,za.eq_1,za.eq_2,List.set,bd,List.headD_cons];subst hQ;exact⟨i+1,[],by simp[Has,Tr.na,g0,g11],by simp,rfl⟩)
   (by rintro i E rfl ⟨g0,g3,g11,g12,_⟩;have e1:decide ((q.length:Int) < (q.length:Int))=false:=Ra (by omega);rw[ai] at g3;show Ia _ (ua call qG ⟨E,H++[.tok 1 ((q.take q.length).map u8).length false]⟩);rw[ai,wb];generalize hQ:(fun r:Ex×St=>r.1.stop=true/\_)=Q;simp -implicitDefEqProofs only[SP,WP,sevalprocAttr,qG,g11,g12,e1];subst hQ;exact⟨rfl,_,rfl,by simp[Tr.na,g3]⟩)
 have Sw:=AJ [.tok 1 0 false];have RA:∀ n,Eh (aa n)=true:=fun n=>rfl;have CE:∀ (E:Tr),E.get 8= .pv (aa q.length)->Ja call E H (.oj .uq 1 false [.int .u8 0] 1 (.c (.int .i64 0)) (.t 8))=some (.uq H.length false 1 [],H++[.tok 1 0 false]):=fun E h8=>by simp only[Ja,AO.ev,h8,asInt,Lc];rw[if_pos ⟨by omega,by omega,by unfold Ac;omega⟩];rfl
 apply Hl;generalize hQ:(fun y:AV×List fa=>y=(AV.uq H.length false 1 (q.map u8),H++[.tok 1 q.length false]))=Q;simp -implicitDefEqProofs only[SP,WP,sevalprocAttr,As,tp,Sw,hlen,RA,↓CE];refine Bb (yc _ (by simp[Tr.na]) (by simp[Tr.na]) (by simp[Tr.na]) (by simp[Tr.na])) ?_;rintro r ⟨_,E,rfl,h⟩;simp -implicitDefEqProofs only[SP,WP,sevalprocAttr,h];subst hQ;rfl
theorem NZ{A:List fa}{d c:Nat}{o1 o2:fa}{X Y:List fa}(i:Nat):(Hc A d c o1 o2 (X++Y))[A.length+X.length+i]? =Y[i]? :=by
 rw[Nat.add_assoc,MZ,Tg (by omega)];simp
theorem LZ{A:List fa}{d c:Nat}{o1 o2 o:fa}{X Y:List fa}(i:Nat):(Hc A d c o1 o2 (X++Y)).set (A.length+X.length+i) o=Hc A d c o1 o2 (X++Y.set i o):=by
 rw[Nat.add_assoc,KZ,Po _ _ (by omega)];simp
theorem KQ{H:List fa}{c:Nat}{row:List PV}(hc:H[c]? =some (.box (row.map .pv)))(hl:row.length=5):wa H true 5 (.ptr c 0)=some (.pv (.agg row)):=by
 match row,hl with
 | [a,b,e,f,g],_=>simp only[wa,hc];rfl
theorem MQ{H:List fa}{c:Nat}{row b:List PV}(hc:H[c]? =some (.box (row.map .pv)))(hl:row.length=5)(hb:b.length=5)(h1:∀ p∈b,(AV.pv p).one=true):Db H 5 (.ptr c 0) (.pv (.agg b))=some (H.set c (.box (b.map .pv))):=by
 match row,hl,b,hb with
 | [a1,a2,a3,a4,a5],_,[b1,b2,b3,b4,b5],_=>have:=h1 b1 (by simp);have:=h1 b2 (by simp);have:=h1 b3 (by simp);have:=h1 b4 (by simp);have:=h1 b5 (by simp);unfold Db;rw[if_pos ⟨rfl,by simp_all [AV.cells,PV.cells]⟩];simp only[hc];rfl
def GR(a b:List PV):List fa:=[.box (a.map .pv),.box (b.map .pv)]
abbrev Dd(k a n u:Int):List PV:=[aa k,aa a,aa n,aa u,aa 0]
theorem DR{k a n u:Int}:∀ p∈Dd k a n u,(AV.pv p).one=true:=by
 intro p hp;simp only[Dd,Ae,Vm,or_false] at hp;rcases hp with rfl | rfl | rfl | rfl | rfl <;> rfl
theorem HR(a b:List PV):Still (GR a b):=(Still.box a).cons (Still.box b)
theorem G8{call call':Ab}{A:List fa}{d c:Nat}(hA:Pd A)(h2:uv A d c){X:List fa}(hX:Still X){T:PV}{bad st Ea:Int}{at_:Nat}{ab fin:Bool}{buf q:List Int}{h:Nat}(hq:oh buf h q)
 (h82:∀ H (n:Int),call 82 [.ptr c 0,.pv (aa n)] H=Gc call' Bs [.ptr c 0,.pv (aa n)] H) (h83:∀ H,call 83 [.ptr c 0] H=Gc call' As [.ptr c 0] H)
 (pg:at_<=1000000) {k u:Int} (hd:k=1->∃ ok,ZF [T,.lit 1 (q.map u8)]=some (.Ba [aa u,.bool ok])) (hu:k≠1->u=0):
 ∃ Y,Still Y/\Gc call Cs [.ptr d 0,.pv (aa k)] (Hc A d c (Wb T bad c st at_ Ea ab fin) (Dc buf 8 h q.length) X)=some (.pv (Jd ⟨k,q.length,u⟩ at_),Hc A d c (Wb T bad c 0 ((at_+q.length:Nat):Int) Ea ab fin) (Dc buf 8 ((h+q.length) % 8:Nat) 0) (X++Y)):=by
 have hn:=hq.n
 obtain⟨n,Wc⟩:∃ n,n=A.length+X.length:=⟨_,rfl⟩
 have hlen:=BL (r:=8) hq;have fc:c < A.length:=h2.lc
 obtain⟨G,hG⟩:∃ G:fa->fa->List PV->List PV->List fa->List fa,G=fun o1 o2 a b Z=>Hc A d c o1 o2 (X++(GR a b++Z)):=⟨_,rfl⟩;have gd:∀ o1 o2 a b Z,(G o1 o2 a b Z)[d]? =some o1:=fun o1 o2 a b Z=>by rw[hG];exact Fy h2
 have gc:∀ o1 o2 a b Z,(G o1 o2 a b Z)[c]? =some o2:=fun o1 o2 a b Z=>by rw[hG];exact HE h2
 have g0:∀ o1 o2 a b Z,(G o1 o2 a b Z)[n]? =some (.box (a.map .pv)):=fun o1 o2 a b Z=>by rw[hG,Wc];exact NZ 0
 have g1:∀ o1 o2 a b Z,(G o1 o2 a b Z)[n+1]? =some (.box (b.map .pv)):=fun o1 o2 a b Z=>by rw[hG,Wc];exact NZ 1
 have sd:∀ o1 o2 a b Z o,(G o1 o2 a b Z).set d o=G o o2 a b Z:=fun o1 o2 a b Z o=>by rw[hG];exact qT h2
 have sc:∀ o1 o2 a b Z o,(G o1 o2 a b Z).set c o=G o1 o a b Z:=fun o1 o2 a b Z o=>by rw[hG];exact JZ h2
 have s0:∀ o1 o2 a b Z r,(G o1 o2 a b Z).set n (.box (List.map AV.pv r))=G o1 o2 r b Z:=fun o1 o2 a b Z r=>by rw[hG,Wc];exact LZ 0
 have s1:∀ o1 o2 a b Z r,(G o1 o2 a b Z).set (n+1) (.box (List.map AV.pv r))=G o1 o2 a r Z:=fun o1 o2 a b Z r=>by rw[hG,Wc];exact LZ 1
 have gg:∀ st at_ h m a b Z,Still Z->Pd (G (Wb T bad c st at_ Ea ab fin) (Dc buf 8 h m) a b Z):=fun st at_ h m a b Z hZ=>by rw[hG];exact vI hA h2 (hX.app ((HR a b).app hZ))
 have gx:∀ o1 o2 a b Z Z',G o1 o2 a b Z++Z'=G o1 o2 a b (Z++Z'):=fun o1 o2 a b Z Z'=>by rw[hG];simp only[Ey,Ij]
 obtain⟨H0,Xk⟩:∃ H0,H0=Hc A d c (Wb T bad c st at_ Ea ab fin) (Dc buf 8 h q.length) X:=⟨_,rfl⟩;rw[<- Xk];have l0:H0.length=n:=by rw[Xk,Wc,Wp]
 obtain⟨z,hz⟩:∃ z:fa,z= .box [.pv (aa 0),.pv (aa 0),.pv (aa 0),.pv (aa 0),.pv (aa 0)]:=⟨_,rfl⟩
 have J0:fa.box [.pv (.int .i64 0),.pv (.int .i64 0),.pv (.int .i64 0),.pv (.int .i64 0),.pv (.int .i64 0)]=z:=hz.symm
 have l1:(H0++[z]).length=n+1:=by rw[Pc,l0];rfl
 have cr:(H0++[z])[d]? =some (Wb T bad c st at_ Ea ab fin):=by rw[Xk,Ey];exact Fy h2
 have hc1:(H0++[z])[c]? =some (Dc buf 8 h q.length):=by rw[Xk,Ey];exact HE h2
 have p1:=JA cr;have ld1:=IA cr;have AJ:=AL hc1 5;have rj:∀ m,Db (H0++[z]++[z]) 5 (.ptr (n+1) 0) (.pv (.agg (Dd k at_ m 0)))=some (G (Wb T bad c st at_ Ea ab fin) (Dc buf 8 h q.length) (Dd 0 0 0 0) (Dd k at_ m 0) []):=fun m=>by
  have:H0++[z]++[z]=G (Wb T bad c st at_ Ea ab fin) (Dc buf 8 h q.length) (Dd 0 0 0 0) (Dd 0 0 0 0) []:=by rw[Xk,hG,hz];simp only[Ey,Ij];rfl
  rw[this,MQ (g1 _ _ _ _ _) rfl rfl DR,s1]
 have pd:∀ st at_ o2 a b Z k,place (G (Wb T bad c st at_ Ea ab fin) o2 a b Z) k (.ptr d 0)=some (.ptr d k):=fun st at_ o2 a b Z k=>JA (gd _ _ _ _ _) k;have fq:=fun st at_ o2 a b Z=>IA (gd (Wb T bad c st at_ Ea ab fin) o2 a b Z);have pe:∀ o1 o2 a b Z k,place (G o1 o2 a b Z) k (.ptr (n+1) 0)=some (.ptr (n+1) k):=fun o1 o2 a b Z k=>FA (g1 _ _ _ _ _) k;have l2:∀ o1 o2 a k x m u Z,wa (G o1 o2 a (Dd k x m u) Z) false 1 (.ptr (n+1) 2)=some (.pv (aa m)):=fun o1 o2 a k x m u Z=>Fv (g1 _ _ _ _ _) rfl;have st3:∀ o1 o2 a k x m u v Z,Db (G o1 o2 a (Dd k x m u) Z) 1 (.ptr (n+1) 3) (.pv (aa v))=some (G o1 o2 a (Dd k x m v) Z):=fun o1 o2 a k x m u v Z=>by rw[iH (g1 _ _ _ _ _) (show 3 < 5 by decide) rfl rfl,s1];rfl
 have lT:∀ o1 o2 a k x m u Z,wa (G o1 o2 a (Dd k x m u) Z) true 5 (.ptr (n+1) 0)=some (.pv (.agg (Dd k x m u))):=fun o1 o2 a k x m u Z=>KQ (g1 _ _ _ _ _) rfl;have sT:∀ o1 o2 b k x m u Z,Db (G o1 o2 (Dd 0 0 0 0) b Z) 5 (.ptr n 0) (.pv (.agg (Dd k x m u)))=some (G o1 o2 (Dd k x m u) b Z):=fun o1 o2 b k x m u Z=>by rw[MQ (g0 _ _ _ _ _) rfl rfl DR,s0]
 have lR:∀ o1 o2 b k x m u Z,wa (G o1 o2 (Dd k x m u) b Z) true 5 (.ptr n 0)=some (.pv (.agg (Dd k x m u))):=fun o1 o2 b k x m u Z=>KQ (g0 _ _ _ _ _) rfl;have w1:IntKind.i64.wrap ((at_:Int)+(q.length:Int))=((at_+q.length:Nat):Int):=(Gb (by omega)).trans (by omega)
 have sat:∀ o2 a b Z v,Db (G (Wb T bad c st at_ Ea ab fin) o2 a b Z) 1 (.ptr d 4) (.pv (aa v))=some (G (Wb T bad c st v Ea ab fin) o2 a b Z):=fun o2 a b Z v=>by rw[gad (gd _ _ _ _ _),sd]
 have MO:∀ at_ o2 a b Z v,Db (G (Wb T bad c st at_ Ea ab fin) o2 a b Z) 1 (.ptr d 3) (.pv (aa v))=some (G (Wb T bad c v at_ Ea ab fin) o2 a b Z):=fun at_ o2 a b Z v=>by rw[mX (gd _ _ _ _ _),sd]
 have qy:∀ at_ a b Z,call 82 [.ptr c 0,.pv (aa q.length)] (G (Wb T bad c st at_ Ea ab fin) (Dc buf 8 h q.length) a b Z)=some (.pv (aa 0),G (Wb T bad c st at_ Ea ab fin) (Dc buf 8 ((h+q.length) % 8:Nat) 0) a b Z):=fun at_ a b Z=>by rw[h82,(sH (call:=call') hq (gc _ _ _ _ _) (gb _)).2,sc,Zh];rfl
 have rM:∀ Z,Still Z->G (Wb T bad c 0 ((at_+q.length:Nat):Int) Ea ab fin) (Dc buf 8 ((h+q.length) % 8:Nat) 0) (Dd k at_ q.length u) (Dd k at_ q.length u) Z=Hc A d c (Wb T bad c 0 ((at_+q.length:Nat):Int) Ea ab fin) (Dc buf 8 ((h+q.length) % 8:Nat) 0) (X++(GR (Dd k at_ q.length u) (Dd k at_ q.length u)++Z)):=fun Z _=>by rw[hG]
 have he:Jd ⟨k,q.length,u⟩ at_= .agg (Dd k at_ q.length u):=rfl
 by_cases hk:k=1
 ·obtain⟨ok,ga⟩:=hd hk
  have hb:=nac (call:=call') (gg st at_ h q.length (Dd 0 0 0 0) (Dd k at_ q.length 0) [] Still.nil) hq (gc _ _ _ _ _);rw[gx,Kf,<-h83] at hb;generalize (G (Wb T bad c st at_ Ea ab fin) (Dc buf 8 h q.length) (Dd 0 0 0 0) (Dd k at_ q.length 0) []).length=nb at hb
  refine⟨_,(HR (Dd k at_ q.length u) (Dd k at_ q.length u)).app (Still.tok 1 q.length false),?_⟩;rw[<- rM _ (Still.tok 1 q.length false),he];have e1:(k==1)=true:=by rw[hk];rfl
  have tq:∀ H,qb H 6 (.uq nb false 1 (q.map u8))=some (.lit 1 (q.map u8)):=fun H=>rfl;have sh:=S7 (G (Wb T bad c st at_ Ea ab fin) (Dc buf 8 h q.length) (Dd 0 0 0 0) (Dd k at_ q.length 0) []) [.tok 1 q.length false];rw[gx,Kf] at sh;clear hG Xk hz gg gx s0 s1 sd sc g0 g1 gd gc h82 h83 rM hd hu he;simp -implicitDefEqProofs only[SP,WP,sevalprocAttr,Cs,l0,l1,J0,p1,ld1,AJ,hlen,za.eq_1,za.eq_2,List.set,bd,rj,e1,pd,fq,pe,l2,hb,sh,tq,ga,st3,w1,sat,qy,MO,lT,sT,lR]
 ·have hu0:=hu hk
  subst hu0;refine⟨_,(HR (Dd k at_ q.length 0) (Dd k at_ q.length 0)).app Still.nil,?_⟩;rw[<- rM _ Still.nil,he];have e1:(k==1)=false:=beq_false_of_ne hk;clear hG Xk hz gg gx s0 s1 sd sc g0 g1 gd gc h82 h83 rM hd he;simp -implicitDefEqProofs only[SP,WP,sevalprocAttr,Cs,l0,l1,J0,p1,ld1,AJ,hlen,za.eq_1,za.eq_2,List.set,bd,rj,e1,pd,fq,pe,l2,w1,sat,qy,MO,lT,sT,lR]
end Go.AM.B1
