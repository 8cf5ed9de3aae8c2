/- What functions of the program compute. -/
import Derived.Test.YtijlhblleiaomaaGreatV9
import Derived.Test.YtijlhblleiaomaaGreatV7
import Derived.Test.YtijlhblleiaomaaGreatV8
set_option linter.unusedVariables false
set_option linter.unusedSimpArgs false
namespace Go.AM.B1
open Go.AM Go.AM.So
attribute [local irreducible] Gd
def xO (C:List (List Int)) (i j:Nat) (f:Nat→Nat→Bool) (g:Bool) (f':Nat→Nat→Bool) (g':Bool):Prop:=
 (f'=f∧g'=g∧(f i j=true∨∀ x,x < 256→Bk C f i j x=false))∨(f i j=false∧(∃ x,x < 256∧Bk C f i j x=true)∧f'=Cy f i j∧g'=true)
section
variable (call:Wa) {C:List (List Int)} (hC:gJ C)
include hC
theorem dT {i j:Nat} (hi:i < C.length) (hj:j < C.length) {H:List ba} {f:Nat→Nat→Bool} (hM:Er H C.length f) (g:Bool):
 Gd (fun r=>∃ E H' f' g',r=(.exit 8,⟨E,H'⟩)∧Er H' C.length f'∧xO C i j f g f' g'∧E.get 0= .pv (.lit 256 (C.map ei))∧E.get 3= .pv (i64 C.length)∧E.get 4= .own 0 C.length∧E.get 6= .pv (.bool g')∧E.get 7= .pv (i64 i)∧E.get 8= .pv (i64 j))
  (ab (ga (ua call Ya) (fa (2 * C.length+1) [0,3,4,6,7,8,9])) qa ⟨Oy (.lit 256 (C.map ei)) C.length i j 0 g,H⟩):=by
 have hs2:Cy f i j i j=true:=by unfold Cy;rw[if_pos (.inl ⟨rfl,rfl⟩)]
 refine za (wb (g:=ga (ua call Ya) (fa (2 * C.length+1) [0,3,4,6,7,8,9]))
  (fun x t=>∃ H' f' g',t=⟨Oy (.lit 256 (C.map ei)) C.length i j x g',H'⟩∧Er H' C.length f'∧((f'=f∧g'=g∧(f i j=true∨∀ x',x' < x→Bk C f i j x'=false))∨(f i j=false∧(∃ x,x < 256∧Bk C f i j x=true)∧f'=Cy f i j∧g'=true)))
  256 (by unfold qa;omega) _ ⟨H,f,g,rfl,hM,.inl ⟨rfl,rfl,.inr fun x h=>by omega⟩⟩ ?_ ?_) (fun r h=>h.2)
 ·rintro x t hx ⟨H',f',g',rfl,hM',hP⟩
  refine za (aF call hC hi hj hM' g' hx) ?_
  rintro r (⟨hu,E,rfl,k0,k3,k4,k6,k7,k8⟩ | ⟨hu,htl,rfl⟩ | ⟨hu,htl,H2,hM2,rfl⟩)
  ·refine⟨E,H',f',g',rfl,hM',?_,k0,k3,k4,k6,k7,k8⟩
   rcases hP with⟨rfl,rfl,hp⟩ | ⟨h1,h2,h3,h4⟩
   ·exact .inl ⟨rfl,rfl,.inl hu⟩
   ·exact .inr ⟨h1,h2,h3,h4⟩
  ·rcases hP with⟨rfl,rfl,hp⟩ | ⟨h1,h2,rfl,h4⟩
   ·refine⟨H',f',g',rfl,hM',.inl ⟨rfl,rfl,.inr fun x' hx'=> ?_⟩⟩
    rcases hp with hp | hp
    ·rw[hu] at hp;cases hp
    ·rcases Nat.lt_or_ge x' x with h | h
     ·exact hp x' h
     ·have:x'=x:=by omega
      subst this;exact htl
   ·rw[hs2] at hu;cases hu
  ·rcases hP with⟨rfl,rfl,hp⟩ | ⟨h1,h2,rfl,h4⟩
   ·exact⟨H2,_,true,rfl,hM2,.inr ⟨hu,⟨x,hx,htl⟩,rfl,rfl⟩⟩
   ·rw[hs2] at hu;cases hu
 ·rintro t ⟨H',f',g',rfl,hM',hP⟩
  have e1:decide (((256:Nat):Int) < 256)=false:=Ga (by omega)
  have hfin:∀ E,E.get 0= .pv (.lit 256 (C.map ei))→E.get 3= .pv (i64 C.length)→E.get 4= .own 0 C.length→E.get 6= .pv (.bool g')→E.get 7= .pv (i64 i)→E.get 8= .pv (i64 j)→
   (Ex.exit 8,(⟨E,H'⟩:St)).1.stop=true∧∃ E' H2 f' g',(Ex.exit 8,(⟨E,H'⟩:St))=(.exit 8,⟨E',H2⟩)∧Er H2 C.length f'∧xO C i j f g f' g'∧E'.get 0= .pv (.lit 256 (C.map ei))∧E'.get 3= .pv (i64 C.length)∧E'.get 4= .own 0 C.length∧E'.get 6= .pv (.bool g')∧E'.get 7= .pv (i64 i)∧E'.get 8= .pv (i64 j):=
   fun E k0 k3 k4 k6 k7 k8=>⟨rfl,E,H',f',g',rfl,hM',hP,k0,k3,k4,k6,k7,k8⟩
  have tn:((C.length:Int)).toNat=C.length:=by simp
  generalize hQ:(fun r:Ex×St=>r.1.stop=true∧_)=Q
  generalize (PV.lit 256 (C.map ei))=L at *
  simp -implicitDefEqProofs only[SX,sevalprocAttr,Ya,e1,tn,Oy]
  subst hQ
  exact hfin _ (by simp[Tr.aa]) (by simp[Tr.aa]) (by simp[Tr.aa]) (by simp[Tr.aa]) (by simp[Tr.aa]) (by simp[Tr.aa])
end
def Gn (n:Nat) (f:Nat→Nat→Bool):Nat:=((List.range n).flatMap fun i=>(List.range n).map fun j=>(i,j)).countP fun p=> !f p.1 p.2
theorem XG {α:Type} {p q:α→Bool}:∀ {l:List α},(∀ a∈l,q a=true→p a=true)→(∃ a∈l,p a=true∧q a=false)→l.countP q < l.countP p
 | [],_,⟨a,h,_⟩=>by cases h
 |b::l,h,⟨a,ha,hp,hq⟩=>by
  rw[List.countP_cons,List.countP_cons]
  have hmono:l.countP q≤l.countP p:=List.countP_mono_left fun x hx h1=>h x (by simp[hx]) h1
  rcases List.mem_cons.1 ha with rfl | ha
  ·rw[hp,hq];simp;omega
  ·have ih:=XG (l:=l) (fun x hx=>h x (by simp[hx])) ⟨a,ha,hp,hq⟩
   have hb:=h b (by simp)
   cases hqb:q b with
   |false=>simp;omega
   |true=>rw[hb hqb];simp;omega
theorem BR {n:Nat} {f:Nat→Nat→Bool} {i j:Nat} (hi:i < n) (hj:j < n) (h:f i j=false):Gn n (Cy f i j) < Gn n f:=by
 refine XG ?_ ⟨(i,j),?_,?_,?_⟩
 ·rintro⟨a,b⟩ _ h1
  simp only[Cy,Bool.not_eq_true'] at h1 ⊢
  split at h1
  ·cases h1
  ·exact h1
 ·rw[List.mem_flatMap]
  exact⟨i,by simpa using hi,by rw[List.mem_map];exact⟨j,by simpa using hj,rfl⟩⟩
 ·simp[h]
 ·simp[Cy]
theorem qQ (n:Nat) (f:Nat→Nat→Bool):Gn n f≤n * n:=by
 refine Nat.le_trans List.countP_le_length ?_
 have:∀ l:List Nat,(l.flatMap fun i=>(List.range n).map fun j=>(i,j)).length=l.length * n:=by
  intro l
  induction l with
  |nil=>simp
  |cons a l ih=>rw[List.flatMap_cons,List.length_append,ih,List.length_map,List.length_range,List.length_cons,Nat.succ_mul];omega
 rw[this,List.length_range]
 exact Nat.le_refl _
structure Rs (C:List (List Int)) (D:Nat→Nat→Prop) (f0:Nat→Nat→Bool) (done:Nat→Nat→Prop) (f:Nat→Nat→Bool) (g:Bool):Prop where
 snd:∀ a b,f a b=true→D a b
 sym:∀ a b,f a b=f b a
 Je:g=false→f=f0∧∀ i j,done i j→f i j=true∨∀ x,x < 256→Bk C f i j x=false
 le:Gn C.length f≤Gn C.length f0
 lt:g=true→Gn C.length f < Gn C.length f0
def RJ (C:List (List Int)) (D:Nat→Nat→Prop):Prop:=(∀ a b,D a b→D b a)∧
 ∀ i j x (f:Nat→Nat→Bool),i < C.length→j < C.length→x < 256→(∀ a b,f a b=true→D a b)→Bk C f i j x=true→D i j
theorem Rs.step {C:List (List Int)} {D:Nat→Nat→Prop} (hD:RJ C D) {f0 f f':Nat→Nat→Bool} {done:Nat→Nat→Prop} {g g':Bool} (h:Rs C D f0 done f g) {i j:Nat} (hi:i < C.length) (hj:j < C.length) (hp:xO C i j f g f' g'):
 Rs C D f0 (fun a b=>done a b∨(a=i∧b=j)) f' g':=by
 rcases hp with⟨rfl,rfl,hp⟩ | ⟨h1,⟨x,hx,h2⟩,rfl,rfl⟩
 ·refine⟨h.snd,h.sym,fun hg=>⟨(h.Je hg).1,?_⟩,h.le,h.lt⟩
  rintro a b (hd | ⟨rfl,rfl⟩)
  ·exact (h.Je hg).2 a b hd
  ·exact hp
 ·have hd:=hD.2 i j x f hi hj hx h.snd h2
  have hlt:=BR hi hj h1
  have hle:=h.le
  refine⟨?_,?_,fun hg=>(by cases hg),by omega,fun _=>by omega⟩
  ·intro a b hab
   unfold Cy at hab
   split at hab
   ·next hc=>
    rcases hc with⟨rfl,rfl⟩ | ⟨rfl,rfl⟩
    ·exact hd
    ·exact hD.1 _ _ hd
   ·exact h.snd a b hab
  ·intro a b
   unfold Cy
   rw[h.sym a b]
   congr 1
   apply propext
   constructor
   ·rintro (⟨h1,h2⟩ | ⟨h1,h2⟩)
    ·exact .inr ⟨h2,h1⟩
    ·exact .inl ⟨h2,h1⟩
   ·rintro (⟨h1,h2⟩ | ⟨h1,h2⟩)
    ·exact .inr ⟨h2,h1⟩
    ·exact .inl ⟨h2,h1⟩
theorem Rs.weaken {C:List (List Int)} {D:Nat→Nat→Prop} {f0 f:Nat→Nat→Bool} {done done':Nat→Nat→Prop} {g:Bool} (h:Rs C D f0 done f g) (hd:∀ a b,done' a b→done a b):Rs C D f0 done' f g:=
 ⟨h.snd,h.sym,fun hg=>⟨(h.Je hg).1,fun a b hab=>(h.Je hg).2 a b (hd a b hab)⟩,h.le,h.lt⟩
end Go.AM.B1
namespace Go.AM.B1
open Go.AM Go.AM.So
attribute [local irreducible] Gd
abbrev RX (v:PV) (n i j:Int) (g:Bool):Tr:=(((((Tr.lf.set 8 (.pv (i64 j))).set 7 (.pv (i64 i))).set 6 (.pv (.bool g))).set 4 (.own 0 n.toNat)).set 3 (.pv (i64 n))).set 0 (.pv v)
abbrev LX (v:PV) (n i:Int) (g:Bool):Tr:=((((Tr.lf.set 7 (.pv (i64 i))).set 6 (.pv (.bool g))).set 4 (.own 0 n.toNat)).set 3 (.pv (i64 n))).set 0 (.pv v)
abbrev QW (v:PV) (n:Int) (g:Bool):Tr:=(((Tr.lf.set 6 (.pv (.bool g))).set 4 (.own 0 n.toNat)).set 3 (.pv (i64 n))).set 0 (.pv v)
section
variable (call:Wa) {C:List (List Int)} (hC:gJ C) {D:Nat→Nat→Prop} (hD:RJ C D) {f0:Nat→Nat→Bool}
include hC hD
theorem gT {i:Nat} (hi:i < C.length) {done:Nat→Nat→Prop} {H:List ba} {f:Nat→Nat→Bool} (hM:Er H C.length f) {g:Bool} (hP:Rs C D f0 done f g):
 Gd (fun r=>∃ E H' f' g',r=(.exit 6,⟨E,H'⟩)∧Er H' C.length f'∧Rs C D f0 (fun a b=>done a b∨(a=i∧b < i)) f' g'∧E.get 0= .pv (.lit 256 (C.map ei))∧E.get 3= .pv (i64 C.length)∧E.get 4= .own 0 C.length∧E.get 6= .pv (.bool g')∧E.get 7= .pv (i64 i))
  (ab (ga (ua call bf) (fa (2 * C.length+1) [0,3,4,6,7,8])) qa ⟨RX (.lit 256 (C.map ei)) C.length i 0 g,H⟩):=by
 have hsz:=hC.sz
 refine za (wb (g:=ga (ua call bf) (fa (2 * C.length+1) [0,3,4,6,7,8]))
  (fun j t=>∃ H' f' g',t=⟨RX (.lit 256 (C.map ei)) C.length i j g',H'⟩∧Er H' C.length f'∧Rs C D f0 (fun a b=>done a b∨(a=i∧b < j)) f' g')
  i (by unfold qa;omega) _ ⟨H,f,g,rfl,hM,hP.weaken fun a b h=>by rcases h with h | h;exact h;omega⟩ ?_ ?_) (fun r h=>h.2)
 ·rintro j t hj ⟨H',f',g',rfl,hM',hP'⟩
  have hj2:j < C.length:=by omega
  have hin:=dT call hC hi hj2 hM' g'
  have e1:decide ((j:Int) < (i:Int))=true:=Fa (by omega)
  have t2:IntKind.i64.wrap ((j:Int)+1)=((j+1:Nat):Int):=Ca (by omega)
  have tn:((C.length:Int)).toNat=C.length:=by simp
  have hz:(0 < 2 * C.length+1)=True:=by simp
  have hcut:=hM'.cut
  have hlen:=hM'.len
  have hLN:∀ H2 f2 g2,Er H2 C.length f2→xO C i j f' g' f2 g2→
   LN (fun j t=>∃ H' f' g',t=⟨RX (.lit 256 (C.map ei)) C.length i j g',H'⟩∧Er H' C.length f'∧Rs C D f0 (fun a b=>done a b∨(a=i∧b < j)) f' g')
    (fun r=>∃ E H' f' g',r=(.exit 6,⟨E,H'⟩)∧Er H' C.length f'∧Rs C D f0 (fun a b=>done a b∨(a=i∧b < i)) f' g'∧E.get 0= .pv (.lit 256 (C.map ei))∧E.get 3= .pv (i64 C.length)∧E.get 4= .own 0 C.length∧E.get 6= .pv (.bool g')∧E.get 7= .pv (i64 i)) j
    (.norm,⟨RX (.lit 256 (C.map ei)) C.length i (j+1:Nat) g2,H2⟩):=by
   intro H2 f2 g2 h1 h2
   refine⟨H2,f2,g2,rfl,h1,(hP'.step hD hi hj2 h2).weaken ?_⟩
   rintro a b (h | ⟨rfl,h⟩)
   ·exact .inl (.inl h)
   ·rcases Nat.lt_or_ge b j with h3 | h3
    ·exact .inl (.inr ⟨rfl,h3⟩)
    ·exact .inr ⟨rfl,by omega⟩
  generalize LN _ _ j=QQ at hLN ⊢
  generalize (PV.lit 256 (C.map ei))=L at *
  simp -implicitDefEqProofs only[SX,sevalprocAttr,bf,e1,xb,hlen,hcut,hz,tn,fa,Aa,AV.cut,pa,RX]
  simp only[Oy,tn] at hin
  refine za hin ?_
  rintro r ⟨E,H2,f2,g2,rfl,hM2,hP2,k0,k3,k4,k6,k7,k8⟩
  have hcut2:=hM2.cut
  have hlen2:=hM2.len
  have hLN':=hLN H2 f2 g2 hM2 hP2
  simp -implicitDefEqProofs only[SX,sevalprocAttr,k0,k3,k4,k6,k7,k8,t2,hlen2,hcut2,hz,fa,Aa,AV.cut,pa]
  simp only[RX,tn] at hLN'
  exact hLN'
 ·rintro t ⟨H',f',g',rfl,hM',hP'⟩
  have e1:decide ((i:Int) < (i:Int))=false:=Ga (by omega)
  have tn:((C.length:Int)).toNat=C.length:=by simp
  have hfin:∀ E,E.get 0= .pv (.lit 256 (C.map ei))→E.get 3= .pv (i64 C.length)→E.get 4= .own 0 C.length→E.get 6= .pv (.bool g')→E.get 7= .pv (i64 i)→
   (Ex.exit 6,(⟨E,H'⟩:St)).1.stop=true∧∃ E' H2 f' g',(Ex.exit 6,(⟨E,H'⟩:St))=(.exit 6,⟨E',H2⟩)∧Er H2 C.length f'∧Rs C D f0 (fun a b=>done a b∨(a=i∧b < i)) f' g'∧E'.get 0= .pv (.lit 256 (C.map ei))∧E'.get 3= .pv (i64 C.length)∧E'.get 4= .own 0 C.length∧E'.get 6= .pv (.bool g')∧E'.get 7= .pv (i64 i):=
   fun E k0 k3 k4 k6 k7=>⟨rfl,E,H',f',g',rfl,hM',hP',k0,k3,k4,k6,k7⟩
  generalize hQ:(fun r:Ex×St=>r.1.stop=true∧_)=Q
  generalize (PV.lit 256 (C.map ei))=L at *
  simp -implicitDefEqProofs only[SX,sevalprocAttr,bf,e1,tn,RX]
  subst hQ
  exact hfin _ (by simp[Tr.aa]) (by simp[Tr.aa]) (by simp[Tr.aa]) (by simp[Tr.aa]) (by simp[Tr.aa])
theorem GS {H:List ba} {f:Nat→Nat→Bool} (hM:Er H C.length f) {g:Bool} (hP:Rs C D f0 (fun _ _=>False) f g):
 Gd (fun r=>∃ E H' f' g',r=(.exit 4,⟨E,H'⟩)∧Er H' C.length f'∧Rs C D f0 (fun a b=>a < C.length∧b < a) f' g'∧E.get 0= .pv (.lit 256 (C.map ei))∧E.get 3= .pv (i64 C.length)∧E.get 4= .own 0 C.length∧E.get 6= .pv (.bool g'))
  (ab (ga (ua call cf) (fa (2 * C.length+1) [0,3,4,6,7])) qa ⟨LX (.lit 256 (C.map ei)) C.length 0 g,H⟩):=by
 have hsz:=hC.sz
 refine za (wb (g:=ga (ua call cf) (fa (2 * C.length+1) [0,3,4,6,7]))
  (fun i t=>∃ H' f' g',t=⟨LX (.lit 256 (C.map ei)) C.length i g',H'⟩∧Er H' C.length f'∧Rs C D f0 (fun a b=>a < i∧b < a) f' g')
  C.length (by unfold qa;omega) _ ⟨H,f,g,rfl,hM,hP.weaken fun a b h=>by omega⟩ ?_ ?_) (fun r h=>h.2)
 ·rintro i t hi ⟨H',f',g',rfl,hM',hP'⟩
  have hin:=gT call hC hD hi hM' hP'
  have e1:decide ((i:Int) < (C.length:Int))=true:=Fa (by omega)
  have t2:IntKind.i64.wrap ((i:Int)+1)=((i+1:Nat):Int):=Ca (by omega)
  have tn:((C.length:Int)).toNat=C.length:=by simp
  have hz:(0 < 2 * C.length+1)=True:=by simp
  have hcut:=hM'.cut
  have hlen:=hM'.len
  have hLN:∀ H2 f2 g2,Er H2 C.length f2→Rs C D f0 (fun a b=>(a < i∧b < a)∨(a=i∧b < i)) f2 g2→
   LN (fun i t=>∃ H' f' g',t=⟨LX (.lit 256 (C.map ei)) C.length i g',H'⟩∧Er H' C.length f'∧Rs C D f0 (fun a b=>a < i∧b < a) f' g')
    (fun r=>∃ E H' f' g',r=(.exit 4,⟨E,H'⟩)∧Er H' C.length f'∧Rs C D f0 (fun a b=>a < C.length∧b < a) f' g'∧E.get 0= .pv (.lit 256 (C.map ei))∧E.get 3= .pv (i64 C.length)∧E.get 4= .own 0 C.length∧E.get 6= .pv (.bool g')) i
    (.norm,⟨LX (.lit 256 (C.map ei)) C.length (i+1:Nat) g2,H2⟩):=by
   intro H2 f2 g2 h1 h2
   refine⟨H2,f2,g2,rfl,h1,h2.weaken ?_⟩
   rintro a b ⟨h3,h4⟩
   rcases Nat.lt_or_ge a i with h5 | h5
   ·exact .inl ⟨h5,h4⟩
   ·exact .inr ⟨by omega,by omega⟩
  generalize LN _ _ i=QQ at hLN ⊢
  generalize (PV.lit 256 (C.map ei))=L at *
  simp -implicitDefEqProofs only[SX,sevalprocAttr,cf,e1,xb,hlen,hcut,hz,tn,fa,Aa,AV.cut,pa,LX]
  simp only[RX,tn] at hin
  refine za hin ?_
  rintro r ⟨E,H2,f2,g2,rfl,hM2,hP2,k0,k3,k4,k6,k7⟩
  have hcut2:=hM2.cut
  have hlen2:=hM2.len
  have hLN':=hLN H2 f2 g2 hM2 hP2
  simp -implicitDefEqProofs only[SX,sevalprocAttr,k0,k3,k4,k6,k7,t2,hlen2,hcut2,hz,fa,Aa,AV.cut,pa]
  simp only[LX,tn] at hLN'
  exact hLN'
 ·rintro t ⟨H',f',g',rfl,hM',hP'⟩
  have e1:decide ((C.length:Int) < (C.length:Int))=false:=Ga (by omega)
  have tn:((C.length:Int)).toNat=C.length:=by simp
  have hfin:∀ E,E.get 0= .pv (.lit 256 (C.map ei))→E.get 3= .pv (i64 C.length)→E.get 4= .own 0 C.length→E.get 6= .pv (.bool g')→
   (Ex.exit 4,(⟨E,H'⟩:St)).1.stop=true∧∃ E' H2 f' g',(Ex.exit 4,(⟨E,H'⟩:St))=(.exit 4,⟨E',H2⟩)∧Er H2 C.length f'∧Rs C D f0 (fun a b=>a < C.length∧b < a) f' g'∧E'.get 0= .pv (.lit 256 (C.map ei))∧E'.get 3= .pv (i64 C.length)∧E'.get 4= .own 0 C.length∧E'.get 6= .pv (.bool g'):=
   fun E k0 k3 k4 k6=>⟨rfl,E,H',f',g',rfl,hM',hP',k0,k3,k4,k6⟩
  generalize hQ:(fun r:Ex×St=>r.1.stop=true∧_)=Q
  generalize (PV.lit 256 (C.map ei))=L at *
  simp -implicitDefEqProofs only[SX,sevalprocAttr,cf,e1,tn,LX]
  subst hQ
  exact hfin _ (by simp[Tr.aa]) (by simp[Tr.aa]) (by simp[Tr.aa]) (by simp[Tr.aa])
end
structure Tx (C:List (List Int)) (D:Nat→Nat→Prop) (f:Nat→Nat→Bool) (g:Bool):Prop where
 snd:∀ a b,f a b=true→D a b
 sym:∀ a b,f a b=f b a
 closed:g=false→∀ i j,i < C.length→j < i→f i j=true∨∀ x,x < 256→Bk C f i j x=false
theorem lT (call:Wa) {C:List (List Int)} (hC:gJ C) {D:Nat→Nat→Prop} (hD:RJ C D) {H:List ba} {f:Nat→Nat→Bool} (hM:Er H C.length f) (hK:Tx C D f true):
 Gd (fun r=>∃ E H' f',r=(.exit 2,⟨E,H'⟩)∧Er H' C.length f'∧Tx C D f' false∧E.get 4= .own 0 C.length)
  (ab (ga (ua call ef) (fa (2 * C.length+1) [0,3,4,6])) qa ⟨QW (.lit 256 (C.map ei)) C.length true,H⟩):=by
 have hsz:=hC.sz
 have hfl:∀ f,Gn C.length f≤4096:=fun f=>Nat.le_trans (qQ _ _) (Nat.mul_le_mul hsz hsz)
 refine za (Qq (g:=ga (ua call ef) (fa (2 * C.length+1) [0,3,4,6]))
  (fun k t=>∃ H' f' g',t=⟨QW (.lit 256 (C.map ei)) C.length g',H'⟩∧Er H' C.length f'∧Tx C D f' g'∧k=Gn C.length f'+if g' then 1 else 0)
  qa (Gn C.length f+1) _ (by have:=hfl f;unfold qa;omega) ⟨H,f,true,rfl,hM,hK,rfl⟩ ?_) (fun r h=>h.2)
 rintro k t ⟨H',f',g',rfl,hM',hK',hk⟩
 have tn:((C.length:Int)).toNat=C.length:=by simp
 cases g' with
 |false=>
  have hfin:∀ E,E.get 4= .own 0 C.length→
   LQ (fun k t=>∃ H' f' g',t=⟨QW (.lit 256 (C.map ei)) C.length g',H'⟩∧Er H' C.length f'∧Tx C D f' g'∧k=Gn C.length f'+if g' then 1 else 0)
    (fun r=>∃ E H' f',r=(.exit 2,⟨E,H'⟩)∧Er H' C.length f'∧Tx C D f' false∧E.get 4= .own 0 C.length) k (.exit 2,⟨E,H'⟩):=fun E k4=>⟨E,H',f',rfl,hM',hK',k4⟩
  generalize LQ _ _ k=QQ at hfin ⊢
  generalize (PV.lit 256 (C.map ei))=L at *
  simp -implicitDefEqProofs only[SX,sevalprocAttr,ef,tn,QW]
  exact hfin _ (by simp[Tr.aa])
 |true=>
  have hP0:Rs C D f' (fun _ _=>False) f' false:=⟨hK'.snd,hK'.sym,fun _=>⟨rfl,fun _ _ h=>h.elim⟩,Nat.le_refl _,fun h=>by cases h⟩
  have hin:=GS call hC hD hM' hP0
  have hz:(0 < 2 * C.length+1)=True:=by simp
  have hcut:=hM'.cut
  have hlen:=hM'.len
  have hLN:∀ H2 f2 g2,Er H2 C.length f2→Rs C D f' (fun a b=>a < C.length∧b < a) f2 g2→
   LQ (fun k t=>∃ H' f' g',t=⟨QW (.lit 256 (C.map ei)) C.length g',H'⟩∧Er H' C.length f'∧Tx C D f' g'∧k=Gn C.length f'+if g' then 1 else 0)
    (fun r=>∃ E H' f',r=(.exit 2,⟨E,H'⟩)∧Er H' C.length f'∧Tx C D f' false∧E.get 4= .own 0 C.length) k (.norm,⟨QW (.lit 256 (C.map ei)) C.length g2,H2⟩):=by
   intro H2 f2 g2 h1 h2
   refine⟨Gn C.length f2+if g2 then 1 else 0,?_,H2,f2,g2,rfl,h1,⟨h2.snd,h2.sym,fun hg i j hi hj=>(h2.Je hg).2 i j ⟨hi,hj⟩⟩,rfl⟩
   rw[hk]
   cases g2 with
   |false=>have:=h2.le;simp;omega
   |true=>have:=h2.lt rfl;simp;omega
  generalize LQ _ _ k=QQ at hLN ⊢
  generalize (PV.lit 256 (C.map ei))=L at *
  simp -implicitDefEqProofs only[SX,sevalprocAttr,ef,xb,hlen,hcut,hz,tn,fa,Aa,AV.cut,pa,QW]
  simp only[LX,tn] at hin
  refine za hin ?_
  rintro r ⟨E,H2,f2,g2,rfl,hM2,hP2,k0,k3,k4,k6⟩
  have hcut2:=hM2.cut
  have hlen2:=hM2.len
  have hLN':=hLN H2 f2 g2 hM2 hP2
  simp -implicitDefEqProofs only[SX,sevalprocAttr,k0,k3,k4,k6,hlen2,hcut2,hz,fa,Aa,AV.cut,pa]
  simp only[QW,tn] at hLN'
  exact hLN'
end Go.AM.B1
namespace Go.AM.B1
open Go.AM Go.AM.So
theorem wE:∀ {C:List (List Int)},(∀ r∈C,r.length=256)→∀ {k:Nat},(hk:k < C.length)→Xa C.flatten k=C[k]
 | [],_,k,hk=>by simp at hk
 |r::C,h,0,hk=>by
  have hr:=h r (by simp)
  show ((r++C.flatten).drop (0 * 256)).take 256=r
  rw[Nat.zero_mul,List.drop_zero,List.take_append_of_le_length (by omega),List.take_of_length_le (by omega)]
 |r::C,h,k+1,hk=>by
  have hr:=h r (by simp)
  have ih:=wE (C:=C) (fun r' hr'=>h r' (by simp[hr'])) (k:=k) (by simpa using hk)
  show ((r++C.flatten).drop ((k+1) * 256)).take 256=C[k]'(by simpa using hk)
  rw[show (k+1) * 256=r.length+k * 256 by omega,List.drop_append,List.drop_of_length_le (by omega),List.nil_append,Nat.add_sub_cancel_left]
  exact ih
theorem zt:∀ {C:List (List Int)},(∀ r∈C,r.length=256)→C.flatten.length=C.length * 256
 | [],_=>rfl
 |r::C,h=>by
  rw[List.flatten_cons,List.length_append,h r (by simp),zt fun r' hr'=>h r' (by simp[hr']),List.length_cons];omega
section
variable {ss:List Lb} {sets:List Al} {C:List (List Int)} (W:ml ss sets C) (hl:C.length=sets.length)
include W hl
theorem ml.at {k x:Nat} (hk:k < C.length) (hx:x < 256):∃ a,sets[k]? =some a∧zy ss sets a x (vg C k x):=by
 have h1:sets[k]? =some (sets[k]'(by omega)):=List.getElem?_eq_getElem (by omega)
 exact⟨_,h1,W.step k _ hk h1 x hx⟩
theorem ml.bound {k x:Nat} (hk:k < C.length) (hx:x < 256): -2≤vg C k x∧vg C k x < C.length:=by
 obtain⟨a,ha,h⟩:=W.at hl hk hx
 rcases h with⟨_,h⟩ | ⟨_,_,h⟩ | ⟨_,_,k',m,h,_,h2⟩
 ·omega
 ·omega
 ·have:=(List.getElem?_eq_some_iff.1 h2).1
  omega
omit hl in
theorem ml.val {r:List Int} (hr:r∈C) {v:Int} (hv:v∈r):∃ k x,k < C.length∧x < 256∧v=vg C k x:=by
 obtain⟨k,hk,rfl⟩:=List.getElem_of_mem hr
 obtain⟨x,hx,rfl⟩:=List.getElem_of_mem hv
 have h256:=W.row _ (List.getElem_mem hk)
 refine⟨k,x,hk,by omega,?_⟩
 unfold vg
 have:C.getD k []=C[k]:=by rw[List.getD_eq_getElem?_getD,List.getElem?_eq_getElem hk];rfl
 rw[this,List.getD_eq_getElem?_getD,List.getElem?_eq_getElem hx];rfl
theorem ml.Pf:gJ C:=by
 refine⟨W.row,?_,by have:=W.ok.1;omega⟩
 intro r hr v hv
 obtain⟨k,x,hk,hx,rfl⟩:=W.val hr hv
 exact (W.bound hl hk hx).2
theorem ml.ge:∀ r∈C,∀ v∈r,-2≤v:=by
 intro r hr v hv
 obtain⟨k,x,hk,hx,rfl⟩:=W.val hr hv
 exact (W.bound hl hk hx).1
theorem ml.RA {k x:Nat} (hk:k < C.length) (hx:x < 256) (h:0≤vg C k x):(k:Int) < vg C k x:=by
 obtain⟨a,ha,hs⟩:=W.at hl hk hx
 rcases hs with⟨_,h2⟩ | ⟨_,_,h2⟩ | ⟨_,_,k',m,h2,_,h3⟩
 ·omega
 ·omega
 ·rw[h2]
  rcases Nat.lt_or_ge k k' with h4 | h4
  ·omega
  ·have:=W.up k' k _ _ h4 h3 ha
   simp only at this;omega
theorem ml.later:fP C.length C.flatten:=by
 intro j hj to hto h0
 rw[wE W.row hj] at hto
 obtain⟨x,hx,rfl⟩:=List.getElem_of_mem hto
 have h256:=W.row _ (List.getElem_mem hj)
 have hn:C[j][x]=vg C j x:=by
  unfold vg
  have:C.getD j []=C[j]:=by rw[List.getD_eq_getElem?_getD,List.getElem?_eq_getElem hj];rfl
  rw[this,List.getD_eq_getElem?_getD,List.getElem?_eq_getElem hx];rfl
 rw[hn] at h0 ⊢
 exact⟨W.RA hl hj (by omega) h0,(W.bound hl hj (by omega)).2⟩
end
def cls (C:List (List Int)) (j:Nat):Int:=(Re C.length C.flatten).uc.getD j 0
def qq (C:List (List Int)) (j x:Nat):Int:=if 0≤vg C j x then cls C (vg C j x).toNat else vg C j x
section
variable {ss:List Lb} {sets:List Al} {C:List (List Int)} (W:ml ss sets C) (hl:C.length=sets.length)
include W hl
theorem ml.Iy:jy C.length C.flatten 0 (Re C.length C.flatten):=VQ (W.later hl) (zt W.row)
theorem ml.bQ {j x:Nat} (hj:j < C.length) (hx:x < 256):(Xa (Re C.length C.flatten).C j).getD x 0=qq C j x:=by
 have h:=(W.Iy hl).hi j (by omega) hj
 have hg:=(W.Pf hl).get hj hx
 rw[h,wE W.row hj,List.getD_eq_getElem?_getD,List.getElem?_map,hg.1]
 show Dq _ (vg C j x)=qq C j x
 unfold Dq qq cls
 rfl
theorem ml.yz {j:Nat} (hj:j < C.length):(Xa (Re C.length C.flatten).C j).length=256:=Ih (W.Iy hl).hC hj
theorem ml.aJ {i j:Nat} (hi:i < C.length) (hj:j < C.length):cls C i=cls C j↔∀ x,x < 256→qq C i x=qq C j x:=by
 unfold cls
 rw[(W.Iy hl).OK hi hj]
 constructor
 ·intro h x hx
  rw[← W.bQ hl hi hx,←W.bQ hl hj hx,h]
 ·intro h
  apply List.ext_getElem?
  intro x
  by_cases hx:x < 256
  ·have h1:=W.yz hl hi
   have h2:=W.yz hl hj
   have h3:=h x hx
   rw[← W.bQ hl hi hx,←W.bQ hl hj hx,List.getD_eq_getElem?_getD,List.getD_eq_getElem?_getD,List.getElem?_eq_getElem (by omega),List.getElem?_eq_getElem (by omega)] at h3
   rw[List.getElem?_eq_getElem (by omega),List.getElem?_eq_getElem (by omega)]
   exact congrArg some h3
  ·rw[List.getElem?_eq_none (by rw[W.yz hl hi];omega),List.getElem?_eq_none (by rw[W.yz hl hj];omega)]
theorem ml.aZ:RJ C fun i j=>cls C i≠cls C j:=by
 refine⟨fun a b h=>h.symm,?_⟩
 intro i j x f hi hj hx hs ht he
 have h:=(W.aJ hl hi hj).1 he x hx
 unfold qq at h
 unfold Bk at ht
 generalize vg C i x=a at *
 generalize vg C j x=b at *
 rw[Bool.or_eq_true,Bool.and_eq_true,Bool.and_eq_true,Bool.and_eq_true,Bool.or_eq_true] at ht
 simp only[decide_eq_true_eq,bne_iff_ne,ne_eq] at ht
 rcases ht with⟨h1,h2⟩ | ⟨⟨h1,h2⟩,h3⟩
 ·by_cases ha:0≤a
  ·by_cases hb:0≤b
   ·omega
   ·rw[if_pos ha,if_neg hb] at h
    have:0≤cls C a.toNat∨C.length≤a.toNat:=by
     rcases Nat.lt_or_ge a.toNat C.length with h4 | h4
     ·exact .inl ((W.Iy hl).Vo h4).1
     ·exact .inr h4
    rcases this with h5 | h5
    ·omega
    ·have:cls C a.toNat=0:=by
      unfold cls
      rw[List.getD_eq_getElem?_getD,List.getElem?_eq_none (by rw[(W.Iy hl).hk];exact h5)];rfl
     omega
  ·by_cases hb:0≤b
   ·rw[if_neg ha,if_pos hb] at h
    have:0≤cls C b.toNat:=by
     rcases Nat.lt_or_ge b.toNat C.length with h4 | h4
     ·exact ((W.Iy hl).Vo h4).1
     ·have:cls C b.toNat=0:=by
       unfold cls
       rw[List.getD_eq_getElem?_getD,List.getElem?_eq_none (by rw[(W.Iy hl).hk];exact h4)];rfl
      omega
    omega
   ·rw[if_neg ha,if_neg hb] at h;exact h1 h
 ·rw[if_pos h1,if_pos h2] at h
  exact hs _ _ h3 h
theorem ml.known {f:Nat→Nat→Bool} (hK:Tx C (fun i j=>cls C i≠cls C j) f false):∀ i j,i < C.length→j < C.length→(f i j=false↔cls C i=cls C j):=by
 have key:∀ (m i j:Nat),(C.length - i)+(C.length - j)≤m→i < C.length→j < C.length→f i j=false→cls C i=cls C j:=by
  intro m
  induction m with
  |zero=>intro i j h hi hj;omega
  |succ m ih=>
   intro i j hm hi hj hf
   by_cases hij:i=j
   ·rw[hij]
   have hcl:∀ x,x < 256→Bk C f i j x=false:=by
    have hsw:∀ x,Bk C f j i x=Bk C f i j x:=by
     intro x
     unfold Bk
     rw[hK.sym,bne_comm,Bool.or_comm (decide (vg C j x < 0)),Bool.and_comm (decide (vg C j x≥0))]
    rcases Nat.lt_or_gt_of_ne hij with h1 | h1
    ·rcases hK.closed rfl j i hj h1 with h2 | h2
     ·rw[hK.sym,hf] at h2;cases h2
     ·intro x hx;rw[← hsw];exact h2 x hx
    ·rcases hK.closed rfl i j hi h1 with h2 | h2
     ·rw[hf] at h2;cases h2
     ·exact h2
   rw[W.aJ hl hi hj]
   intro x hx
   have ht:=hcl x hx
   have di:=W.RA hl hi hx
   have dj:=W.RA hl hj hx
   have bi:=(W.bound hl hi hx).2
   have bj:=(W.bound hl hj hx).2
   unfold qq
   unfold Bk at ht
   generalize vg C i x=a at *
   generalize vg C j x=b at *
   simp only[Bool.or_eq_false_iff,Bool.and_eq_false_iff,bne_eq_false_iff_eq,decide_eq_false_iff_not] at ht
   by_cases hab:a=b
   ·rw[hab]
   ·have h1:¬a < 0∧¬b < 0:=by
     rcases ht.1 with h | h
     ·exact absurd h hab
     ·exact h
    have h2:f a.toNat b.toNat=false:=by
     rcases ht.2 with (h | h) | h
     ·omega
     ·omega
     ·exact h
    rw[if_pos (by omega),if_pos (by omega)]
    have:=di (by omega)
    have:=dj (by omega)
    exact ih a.toNat b.toNat (by omega) (by omega) (by omega) h2
 intro i j hi hj
 refine⟨key _ i j (Nat.le_refl _) hi hj,fun h=> ?_⟩
 cases hf:f i j with
 |false=>rfl
 |true=>exact absurd h (hK.snd i j hf)
end
end Go.AM.B1
namespace Go.AM.B1
open Go.AM Go.AM.So
def Wr (s:Lb) (w:List Nat):Prop:=∀ j x,w[j]? =some x→Ro s j x=true
def Full (s:Lb) (w:List Nat):Prop:=Wr s w∧w.length=s.parts.length
def Bytes (w:List Nat):Prop:=∀ x∈w,x < 256
theorem GK {s:Lb} {j x:Nat} (h:Ro s j x=true):j < s.parts.length:=by
 unfold Ro at h
 cases hp:s.parts[j]? with
 |none=>rw[hp] at h;cases h
 |some l=>exact (List.getElem?_eq_some_iff.1 hp).1
theorem QJ {s:Lb} {w:List Nat} (h:Wr s w):w.length≤s.parts.length:=by
 rcases Nat.eq_zero_or_pos w.length with h0 | h0
 ·omega
 ·have:=GK (h (w.length - 1) _ (List.getElem?_eq_getElem (by omega)))
  omega
theorem KU (s:Lb):Wr s []:=by intro j x h;simp at h
theorem tP {s:Lb} {w:List Nat} {x:Nat}:Wr s (w++[x])↔Wr s w∧Ro s w.length x=true:=by
 constructor
 ·intro h
  refine⟨fun j y hj=>h j y ?_,h w.length x (by simp)⟩
  rw[List.getElem?_append_left (List.getElem?_eq_some_iff.1 hj).1];exact hj
 ·rintro⟨h1,h2⟩ j y hj
  rcases Nat.lt_or_ge j w.length with h | h
  ·rw[List.getElem?_append_left h] at hj;exact h1 j y hj
  ·rw[List.getElem?_append_right h] at hj
   cases hq:j - w.length with
   |succ n=>rw[hq] at hj;simp at hj
   |zero=>
    rw[hq] at hj
    simp at hj
    have:j=w.length:=by omega
    subst this;subst hj;exact h2
theorem OJ {s:Lb} {w u:List Nat} (h:Wr s (w++u)):Wr s w:=by
 intro j y hj
 refine h j y ?_
 rw[List.getElem?_append_left (List.getElem?_eq_some_iff.1 hj).1];exact hj
theorem NK {p q:Lb} (op:Dd p) (oq:Dd q) (hlt:p.parts.length≤q.parts.length) {w:List Nat} (hw:Bytes w) (hp:Full p w) (hq:Wr q w):Te p q=true:=by
 have key:∀ (m i:Nat),i+m=p.parts.length→(Zb p.parts q.parts m i).isSome=true:=by
  intro m
  induction m with
  |zero=>intro i _;rfl
  |succ m ih=>
   intro i hi
   have h1:i < p.parts.length:=by omega
   have h2:i < q.parts.length:=by omega
   have hwi:i < w.length:=by rw[hp.2];exact h1
   have hne:Gp p.parts q.parts i≠[]:=by
    rw[qy h1 h2 (op.parts _ (List.getElem_mem h1)).2 (oq.parts _ (List.getElem_mem h2)).2]
    have k1:=hp.1 i w[i] (List.getElem?_eq_getElem hwi)
    have k2:=hq i w[i] (List.getElem?_eq_getElem hwi)
    unfold Ro at k1 k2
    rw[List.getElem?_eq_getElem h1] at k1
    rw[List.getElem?_eq_getElem h2] at k2
    exact⟨w[i],hw _ (List.getElem_mem hwi),k1,k2⟩
   rw[Zb]
   cases hm:Gp p.parts q.parts i with
   |nil=>exact absurd hm hne
   |cons a r=>
    have:=ih (i+1) (by omega)
    simp only[Option.isSome_map]
    exact this
 exact key _ 0 (by omega)
theorem cY {ss:List Lb} (Ba:Tb ss) (hpre:xg ss) {p q:Lb} (hp:p∈ss) (hq:q∈ss) {w:List Nat} (hw:Bytes w) (h1:Full p w) (h2:Wr q w):¬p.parts.length < q.parts.length:=by
 intro hlt
 obtain⟨i,hi,rfl⟩:=List.getElem_of_mem hp
 obtain⟨j,hj,rfl⟩:=List.getElem_of_mem hq
 have:=hpre i j hi hj hlt
 rw[NK (Ba.Xo _ hp) (Ba.Xo _ hq) (Nat.le_of_lt hlt) hw h1 h2] at this
 cases this
def runT (C:List (List Int)):Int→List Nat→Int
 |k,[]=>k
 |k,x::w=>if k < 0 then -2 else runT C (vg C k.toNat x) w
theorem TS {C:List (List Int)} {u:List Nat}:runT C (-2) u= -2:=by cases u <;> rfl
theorem KC (C:List (List Int)):∀ (w u:List Nat) (k:Int),runT C k (w++u)=runT C (runT C k w) u
 | [],u,k=>rfl
 |x::w,u,k=>by
  rw[List.cons_append,runT,runT]
  split
  ·rw[TS]
  ·exact KC C w u _
theorem MG (C:List (List Int)) (w:List Nat) (x:Nat) (k:Int):runT C k (w++[x])=if runT C k w < 0 then -2 else vg C (runT C k w).toNat x:=by
 rw[KC,runT]
 rfl
def QH (ss:List Lb) (a:Al) (w:List Nat):Prop:=a.1=w.length∧∀ i,a.2.toNat.testBit i=true↔∃ s,ss[i]? =some s∧Wr s w
theorem QH.on {ss:List Lb} {a:Al} {w:List Nat} (h:QH ss a w) (x i:Nat):Dl ss a x i=true↔∃ s,ss[i]? =some s∧Wr s (w++[x]):=by
 unfold Dl
 rw[Bool.and_eq_true,h.2]
 cases hs:ss[i]? with
 |none=>simp
 |some s=>
  simp only[Option.some.injEq,exists_eq_left',h.1]
  rw[tP]
theorem QH.end {ss:List Lb} {a:Al} {w:List Nat} (h:QH ss a w) (x i:Nat):cq ss a x i=true↔∃ s,ss[i]? =some s∧Full s (w++[x]):=by
 unfold cq
 rw[Bool.and_eq_true,h.on]
 cases hs:ss[i]? with
 |none=>simp
 |some s=>
  simp only[Option.some.injEq,exists_eq_left',h.1,beq_iff_eq]
  unfold Full
  rw[List.length_append,List.length_singleton]
  constructor
  ·rintro⟨h1,h2⟩;exact⟨h1,by omega⟩
  ·rintro⟨h1,h2⟩;exact⟨h1,by omega⟩
theorem QH.QX {ss:List Lb} {a:Al} {w:List Nat} (h:QH ss a w) (x:Nat):Rf (Dl ss a x) ss.length=true↔∃ s∈ss,Wr s (w++[x]):=by
 rw[Ht]
 constructor
 ·rintro⟨j,_,h1⟩
  obtain⟨s,h2,h3⟩:=(h.on x j).1 h1
  exact⟨s,List.mem_of_getElem? h2,h3⟩
 ·rintro⟨s,h1,h2⟩
  obtain⟨j,hj,rfl⟩:=List.getElem_of_mem h1
  exact⟨j,hj,(h.on x j).2 ⟨_,List.getElem?_eq_getElem hj,h2⟩⟩
theorem QH.DS {ss:List Lb} {a:Al} {w:List Nat} (h:QH ss a w) (x:Nat):Rf (cq ss a x) ss.length=true↔∃ s∈ss,Full s (w++[x]):=by
 rw[Ht]
 constructor
 ·rintro⟨j,_,h1⟩
  obtain⟨s,h2,h3⟩:=(h.end x j).1 h1
  exact⟨s,List.mem_of_getElem? h2,h3⟩
 ·rintro⟨s,h1,h2⟩
  obtain⟨j,hj,rfl⟩:=List.getElem_of_mem h1
  exact⟨j,hj,(h.end x j).2 ⟨_,List.getElem?_eq_getElem hj,h2⟩⟩
theorem XJ {n:Nat} (h:n≤32) (i:Nat):(Kq n).toNat.testBit i=decide (i < n):=by
 rw[DE h,Int.toNat_natCast,Nat.testBit_two_pow_sub_one]
def HX (ss:List Lb) (sets:List Al) (w:List Nat) (v:Int):Prop:=
 (v= -1∧∃ s∈ss,Full s w)∨
 (0≤v∧(∃ a,sets[v.toNat]? =some a∧QH ss a w)∧(w=[]∨∃ s∈ss,Wr s w∧w.length < s.parts.length)∧∀ s∈ss,¬Full s w)∨
 (v= -2∧w≠[]∧∀ s∈ss,¬Wr s w)
section
variable {ss:List Lb} {sets:List Al} {C:List (List Int)} (Ba:Tb ss) (hpre:xg ss) (W:ml ss sets C) (hl:C.length=sets.length)
include Ba hpre W hl
theorem zz:∀ (m:Nat) (w:List Nat),w.length=m→Bytes w→HX ss sets w (runT C 0 w)
 |0,w,hm,_=>by
  have:w=[]:=List.eq_nil_of_length_eq_zero hm
  subst this
  refine .inr (.inl ⟨Int.le_refl _,⟨_,W.first,rfl,fun i=> ?_⟩,.inl rfl,?_⟩)
  ·rw[XJ Ba.len i,decide_eq_true_iff]
   constructor
   ·intro h;exact⟨ss[i],List.getElem?_eq_getElem h,KU _⟩
   ·rintro⟨s,h,_⟩;exact (List.getElem?_eq_some_iff.1 h).1
  ·intro s hs hf
   have:=(Ba.Xo s hs).lo
   have:=hf.2
   simp at this;omega
 |m+1,w,hm,hb=>by
  obtain⟨u,x,rfl⟩:∃ u x,w=u++[x]:=by
   rcases List.eq_nil_or_concat w with rfl | ⟨u,x,rfl⟩
   ·simp at hm
   ·exact⟨u,x,List.concat_eq_append⟩
  have hum:u.length=m:=by simpa using hm
  have hbu:Bytes u:=fun y hy=>hb y (by simp[hy])
  have hx:x < 256:=hb x (by simp)
  have ih:=zz m u hum hbu
  rw[MG]
  have hne:u++[x]≠[]:=by simp
  have hlen:(u++[x]).length=u.length+1:=by simp
  rcases ih with⟨hv,s,hs,hf⟩ | ⟨hv,⟨a,ha,hd⟩,h1,h2⟩ | ⟨hv,_,h1⟩
  ·rw[hv,if_pos (by decide)]
   refine .inr (.inr ⟨rfl,hne,fun q hq hmq=> ?_⟩)
   have h1:=OJ hmq
   have h2:=QJ hmq
   exact cY Ba hpre hs hq hbu hf h1 (by rw[← hf.2];omega)
  ·rw[if_neg (by omega)]
   have hk:=(List.getElem?_eq_some_iff.1 ha).1
   rcases W.step _ a (by omega) ha x hx with⟨q1,q2⟩ | ⟨q1,q2,q3⟩ | ⟨q1,q2,k',m',q3,q4,q5⟩
   ·rw[q2]
    refine .inr (.inr ⟨rfl,hne,fun s hs hms=> ?_⟩)
    rw[(hd.QX x).2 ⟨s,hs,hms⟩] at q1;cases q1
   ·rw[q3]
    exact .inl ⟨rfl,(hd.DS x).1 q2⟩
   ·rw[q3]
    have hnf:∀ s∈ss,¬Full s (u++[x]):=fun s hs hf=>by rw[(hd.DS x).2 ⟨s,hs,hf⟩] at q2;cases q2
    refine .inr (.inl ⟨Int.natCast_nonneg _,⟨_,by rw[Int.toNat_natCast];exact q5,?_,?_⟩,?_,hnf⟩)
    ·rw[hlen,←hd.1]
    ·intro i
     show (m':Int).toNat.testBit i=true↔_
     rw[Int.toNat_natCast,q4.bit,hd.on]
    ·obtain⟨s,hs,hms⟩:=(hd.QX x).1 q1
     refine .inr ⟨s,hs,hms,?_⟩
     have:=QJ hms
     have:=hnf s hs
     rcases Nat.lt_or_ge (u++[x]).length s.parts.length with h | h
     ·exact h
     ·exact absurd ⟨hms,by omega⟩ this
  ·rw[hv,if_pos (by decide)]
   exact .inr (.inr ⟨rfl,hne,fun s hs hms=>h1 s hs (OJ hms)⟩)
end
end Go.AM.B1
namespace Go.AM.B1
open Go.AM Go.AM.So
section
variable {ss:List Lb} {sets:List Al} {C:List (List Int)} (W:ml ss sets C) (hl:C.length=sets.length)
include W hl
theorem ml.OL {k:Nat} (hk:k < C.length):0≤cls C k:=((W.Iy hl).Vo hk).1
theorem ml.NL:∀ (w:List Nat) (i j:Nat),Bytes w→i < C.length→j < C.length→cls C i=cls C j→(runT C i w= -1↔runT C j w= -1)
 | [],i,j,_,_,_,_=>by
   show ((i:Int)= -1↔(j:Int)= -1)
   constructor <;> intro h <;> omega
 |x::w,i,j,hb,hi,hj,h=>by
  have hx:x < 256:=hb x (by simp)
  have hbw:Bytes w:=fun y hy=>hb y (by simp[hy])
  have hn:=(W.aJ hl hi hj).1 h x hx
  have b1:=W.bound hl hi hx
  have b2:=W.bound hl hj hx
  rw[runT,runT,if_neg (by omega),if_neg (by omega),Int.toNat_natCast,Int.toNat_natCast]
  unfold qq at hn
  by_cases h1:0≤vg C i x
  ·by_cases h2:0≤vg C j x
   ·rw[if_pos h1,if_pos h2] at hn
    have:=ml.NL w (vg C i x).toNat (vg C j x).toNat hbw (by omega) (by omega) hn
    rw[Int.toNat_of_nonneg h1,Int.toNat_of_nonneg h2] at this
    exact this
   ·rw[if_pos h1,if_neg h2] at hn
    have:=W.OL hl (k:=(vg C i x).toNat) (by omega)
    omega
  ·by_cases h2:0≤vg C j x
   ·rw[if_neg h1,if_pos h2] at hn
    have:=W.OL hl (k:=(vg C j x).toNat) (by omega)
    omega
   ·rw[if_neg h1,if_neg h2] at hn
    rw[hn]
theorem ml.path:∀ (m k:Nat),k≤m→k < C.length→∃ w,Bytes w∧runT C 0 w=(k:Int)
 |0,k,hm,hk=>by
  have:k=0:=by omega
  subst this
  exact⟨[],by simp[Bytes],rfl⟩
 |m+1,k,hm,hk=>by
  rcases Nat.eq_zero_or_pos k with rfl | h0
  ·exact⟨[],by simp[Bytes],rfl⟩
  ·obtain⟨j,x,hj,hjC,hx,hn⟩:=W.reach k h0 (by omega)
   obtain⟨w,hw,hr⟩:=ml.path m j (by omega) hjC
   refine⟨w++[x],?_,?_⟩
   ·intro y hy
    rcases List.mem_append.1 hy with h | h
    ·exact hw y h
    ·simp at h;subst h;exact hx
   ·rw[MG,hr,if_neg (by omega),Int.toNat_natCast,hn]
end
theorem mem_some {l:List (Int×Int)} (h:Xc l):∃ x,x < 256∧wi l x=true:=by
 obtain⟨p,hp⟩:=List.exists_mem_of_ne_nil _ h.1
 have h1:=Wm h.2 p hp
 refine⟨p.1.toNat,by omega,?_⟩
 rw[wi,h.2,Bool.true_and,Pu,Int.toNat_of_nonneg h1.1]
 exact⟨p,hp,Int.le_refl _,h1.2.1⟩
theorem UP {s:Lb} (h:∀ l∈s.parts,Xc l):∃ w,Bytes w∧Full s w:=by
 have key:∀ (ls:List (List (Int×Int))),(∀ l∈ls,Xc l)→∃ w:List Nat,w.length=ls.length∧(∀ x∈w,x < 256)∧∀ (j x:Nat),w[j]? =some x→∃ l,ls[j]? =some l∧wi l x=true:=by
  intro ls
  induction ls with
  |nil=>exact fun _=>⟨[],rfl,by simp,by simp⟩
  |cons l ls ih=>
   intro h
   obtain⟨x,hx,hm⟩:=mem_some (h l (by simp))
   obtain⟨w,h1,h2,h3⟩:=ih fun l' hl'=>h l' (by simp[hl'])
   refine⟨x::w,by simp[h1],?_,?_⟩
   ·intro y hy
    rcases List.mem_cons.1 hy with rfl | hy
    ·exact hx
    ·exact h2 y hy
   ·intro j y hj
    cases j with
    |zero=>simp at hj;subst hj;exact⟨l,rfl,hm⟩
    |succ j=>simp at hj;exact h3 j y hj
 obtain⟨w,h1,h2,h3⟩:=key s.parts h
 refine⟨w,h2,?_,h1⟩
 intro j x hj
 obtain⟨l,h4,h5⟩:=h3 j x hj
 unfold Ro
 rw[h4];exact h5
theorem cX {ss:List Lb} (h:ss≠[]):∃ s∈ss,∀ q∈ss,q.parts.length≤s.parts.length:=by
 induction ss with
 |nil=>exact absurd rfl h
 |cons a ss ih=>
  by_cases hs:ss=[]
  ·subst hs;exact⟨a,by simp,by simp⟩
  ·obtain⟨s,h1,h2⟩:=ih hs
   rcases Nat.lt_or_ge a.parts.length s.parts.length with h3 | h3
   ·refine⟨s,by simp[h1],fun q hq=> ?_⟩
    rcases List.mem_cons.1 hq with rfl | hq
    ·omega
    ·exact h2 q hq
   ·refine⟨a,by simp,fun q hq=> ?_⟩
    rcases List.mem_cons.1 hq with rfl | hq
    ·exact Nat.le_refl _
    ·exact Nat.le_trans (h2 q hq) h3
theorem ml.MB {ss:List Lb} {sets:List Al} {C:List (List Int)} (Ba:Tb ss) (hpre:xg ss) (W:ml ss sets C) (hl:C.length=sets.length) {k:Nat} (h0:0 < k) (hk:k < C.length):cls C 0≠cls C k:=by
 intro he
 obtain⟨w,hw,hr⟩:=W.path hl k k (Nat.le_refl _) hk
 have hwne:w≠[]:=by
  rintro rfl
  have:(0:Int)=(k:Int):=hr
  omega
 have hne:ss≠[]:=by
  rintro rfl
  rcases zz Ba hpre W hl _ w rfl hw with⟨h1,_⟩ | ⟨_,_,h1,_⟩ | ⟨h1,_⟩
  ·omega
  ·rcases h1 with h1 | ⟨s,hs,_⟩
   ·exact hwne h1
   ·cases hs
  ·omega
 obtain⟨s,hs,hmax⟩:=cX hne
 obtain⟨u,hu,hf⟩:=UP (Ba.Xo s hs).parts
 have h1:runT C 0 u= -1:=by
  rcases zz Ba hpre W hl _ u rfl hu with⟨h1,_⟩ | ⟨_,_,_,h1⟩ | ⟨_,_,h1⟩
  ·exact h1
  ·exact absurd hf (h1 s hs)
  ·exact absurd hf.1 (h1 s hs)
 have h2:runT C k u= -1:=(W.NL hl u 0 k hu (by omega) hk he).1 h1
 have h3:runT C 0 (w++u)= -1:=by rw[KC,hr];exact h2
 have hb:Bytes (w++u):=by
  intro y hy
  rcases List.mem_append.1 hy with h | h
  ·exact hw y h
  ·exact hu y h
 rcases zz Ba hpre W hl _ (w++u) rfl hb with⟨_,q,hq,hfq⟩ | ⟨h4,_⟩ | ⟨h4,_⟩
 ·have h5:=hmax q hq
  have h6:=hfq.2
  have h7:=hf.2
  have h8:0 < w.length:=by
   cases w with
   |nil=>exact absurd rfl hwne
   |cons=>simp
  rw[List.length_append] at h6
  omega
 ·omega
 ·omega
end Go.AM.B1
namespace Go.AM.B1
open Go.AM Go.AM.So
attribute [local irreducible] Gd
abbrev BY (v:PV) (n i:Int):Tr:=(((Tr.lf.set 5 (.pv (i64 i))).set 4 (.own 0 i.toNat)).set 3 (.pv (i64 n))).set 0 (.pv v)
def Rm (n i:Nat):List AV:=(List.range i).map fun k=> .own (2 * k+1) n
theorem BM (n i:Nat):(Rm n i).length=i:=by rw[Rm,List.length_map,List.length_range]
theorem kJ (n i:Nat):Rm n (i+1)=Rm n i++[.own (2 * i+1) n]:=by
 rw[Rm,List.range_succ,List.map_append];rfl
theorem tM {n i m:Nat} (h:2 * i+1≤m) (fl:Nat) (nl:Bool):na m (.seq 1 false (Rm n i) fl nl)=some (.seq 1 false (Rm n i) fl nl):=by
 have:(Rm n i).all (AV.Je m deep)=true:=by
  rw[List.all_eq_true]
  intro v hv
  obtain⟨k,hk,rfl⟩:=List.mem_map.1 hv
  have:k < i:=by simpa using hk
  show decide (2 * k+1 < m)=true
  exact decide_eq_true (by omega)
 simp[na,this]
structure dG (H:List ba) (n i:Nat):Prop where
 len:H.length=2 * i+1
 hd:∃ nl,H[0]? =some (.seq 1 false (Rm n i) 0 nl)∧(nl=true→i=0)
 row:∀ k,k < i→H[2 * k+1]? =some (ZA n (fun _=>false) 0)
 SI:Gg H
theorem dG.step {H:List ba} {n i:Nat} (h:dG H n i) (Y:ba) (hY:Y= .seq 1 false [.own (2 * i+1) n] 0 false):
 dG ((H++[ZA n (fun _=>false) 0]++[Y]).set 0 (.seq 1 false (Rm n (i+1)) 0 false)) n (i+1):=by
 have hl:=h.len
 refine⟨by simp[hl];omega,⟨false,?_,fun h=>by cases h⟩,?_,?_⟩
 ·rw[List.getElem?_set_self (by simp)]
 ·intro k hk
  rw[List.getElem?_set_ne (by omega)]
  rcases Nat.lt_or_ge k i with h1 | h1
  ·rw[List.getElem?_append_left (by simp;omega),List.getElem?_append_left (by omega)]
   exact h.row k h1
  ·have:k=i:=by omega
   subst this
   rw[List.getElem?_append_left (by simp;omega),List.getElem?_append_right (by omega),hl,Nat.sub_self]
   rfl
 ·intro m hm o ho
  simp only[List.length_set,List.length_append,List.length_singleton,hl] at hm
  rcases List.mem_or_eq_of_mem_set ho with h1 | h1
  ·rw[List.mem_append,List.mem_append,List.mem_singleton,List.mem_singleton] at h1
   rcases h1 with (h1 | h1) | h1
   ·exact h.SI m (by omega) o h1
   ·subst h1;exact ZK _ _ _ _
   ·subst h1 hY
    have:([AV.own (2 * i+1) n]).all (AV.Je m deep)=true:=by
     show (decide (2 * i+1 < m)&&true)=true
     rw[decide_eq_true (by omega)];rfl
    simp[na,this]
  ·subst h1;exact tM (by omega) _ _
theorem WM (n:Nat):Dk [.bool false] n=(Ff n fun _=>false).map AV.pv:=by
 have:∀ n,Dk [.bool false] n=List.replicate n (.pv (.bool false)):=by
  intro n
  induction n with
  |zero=>rfl
  |succ n ih=>rw[Dk,ih];rfl
 rw[this,←QD,List.map_replicate]
theorem NU (call:Wa) (v:PV) (n:Nat) (hn:n≤64):
 Gd (fun r=>∃ E H,r=(.exit 0,⟨E,H⟩)∧dG H n n∧E.get 0= .pv v∧E.get 3= .pv (i64 n)∧E.get 4= .own 0 n)
  (ab (ga (ua call ff) (fun s=>some (tidy [0,3,4,5] s))) qa ⟨BY v n 0,[.seq 1 false [] 0 true]⟩):=by
 refine za (wb (g:=ga (ua call ff) (fun s=>some (tidy [0,3,4,5] s)))
  (fun i t=>∃ H,t=⟨BY v n i,H⟩∧dG H n i)
  n (by unfold qa;omega) _ ⟨_,rfl,⟨rfl,⟨true,rfl,fun _=>rfl⟩,fun k h=>by omega,?_⟩⟩ ?_ ?_) (fun r h=>h.2)
 ·intro m hm o ho
  rw[List.mem_singleton] at ho
  subst ho;rfl
 ·rintro i t hi ⟨H,rfl,hM⟩
  have e1:decide ((i:Int) < (n:Int))=true:=Fa (by omega)
  have t2:IntKind.i64.wrap ((i:Int)+1)=((i+1:Nat):Int):=Ca (by omega)
  have ti:((i:Int)).toNat=i:=by simp
  have ti1:(((i+1:Nat):Int)).toNat=i+1:=by simp
  have tn:((n:Int)).toNat=n:=by simp
  have hrep:=WM n
  have hl:=hM.len
  have hc:((0:Int)≤(n:Int)∧(n:Int)≤(n:Int)∧qb n 1)=True:=eq_true ⟨by omega,by omega,by unfold qb;omega⟩
  have hl1:(H++[ba.seq 1 false ((Ff n fun _=>false).map AV.pv) 0 false]).length=2 * i+2:=by simp[hl]
  obtain⟨nl,hd,hnl⟩:=hM.hd
  have hstep:=hM.step _ rfl
  have hap:Yb (H++[ba.seq 1 false ((Ff n fun _=>false).map AV.pv) 0 false]++[ba.seq 1 false [AV.own (2 * i+1) n] 0 false]) true .own 1 false 24 (.own 0 i) (.own (2 * i+2) 1)=
   some (.own 0 (i+1),(H++[ba.seq 1 false ((Ff n fun _=>false).map AV.pv) 0 false]++[ba.seq 1 false [AV.own (2 * i+1) n] 0 false]).set 0 (.seq 1 false (Rm n (i+1)) 0 false)):=by
   have g0:(H++[ba.seq 1 false ((Ff n fun _=>false).map AV.pv) 0 false]++[ba.seq 1 false [AV.own (2 * i+1) n] 0 false])[0]? =some (.seq 1 false (Rm n i) 0 nl):=by
    rw[List.getElem?_append_left (by simp),List.getElem?_append_left (by omega)];exact hd
   have g1:(H++[ba.seq 1 false ((Ff n fun _=>false).map AV.pv) 0 false]++[ba.seq 1 false [AV.own (2 * i+1) n] 0 false])[2 * i+2]? =some (ba.seq 1 false [AV.own (2 * i+1) n] 0 false):=by
    rw[List.getElem?_append_right (by rw[hl1];exact Nat.le_refl _),hl1,Nat.sub_self];rfl
   simp only[Yb,if_true,g0,Cj,g1,List.length_singleton]
   rw[if_pos ⟨trivial,trivial⟩]
   simp only[Option.bind_some]
   rw[if_pos ⟨trivial,by rw[BM];omega,by unfold qb;omega,rfl⟩,kJ]
   simp
  have hLN:LN (fun i t=>∃ H,t=⟨BY v n i,H⟩∧dG H n i) (fun r=>∃ E H,r=(.exit 0,⟨E,H⟩)∧dG H n n∧E.get 0= .pv v∧E.get 3= .pv (i64 n)∧E.get 4= .own 0 n) i
   (.norm,⟨BY v n (i+1:Nat),(H++[ba.seq 1 false ((Ff n fun _=>false).map AV.pv) 0 false]++[ba.seq 1 false [AV.own (2 * i+1) n] 0 false]).set 0 (.seq 1 false (Rm n (i+1)) 0 false)⟩):=⟨_,rfl,hstep⟩
  generalize LN _ _ i=QQ at hLN ⊢
  generalize Rm n (i+1)=ow at *
  simp -implicitDefEqProofs only[SP,WP,oa,sevalprocAttr,-List.reduceReplicate,ff,e1,t2,ti,ti1,tn,hc,hrep,hl,hl1,hap,tidy,Bc,BY]
  simp only[BY,ti1] at hLN
  exact hLN
 ·rintro t ⟨H,rfl,hM⟩
  have e1:decide ((n:Int) < (n:Int))=false:=Ga (by omega)
  have tn:((n:Int)).toNat=n:=by simp
  have hfin:∀ E,E.get 0= .pv v→E.get 3= .pv (i64 n)→E.get 4= .own 0 n→(Ex.exit 0,(⟨E,H⟩:St)).1.stop=true∧∃ E' H',(Ex.exit 0,(⟨E,H⟩:St))=(.exit 0,⟨E',H'⟩)∧dG H' n n∧E'.get 0= .pv v∧E'.get 3= .pv (i64 n)∧E'.get 4= .own 0 n:=fun E k0 k3 k4=>⟨rfl,E,H,rfl,hM,k0,k3,k4⟩
  generalize hQ:(fun r:Ex×St=>r.1.stop=true∧_)=Q
  simp -implicitDefEqProofs only[SX,sevalprocAttr,-List.reduceReplicate,ff,e1,tn,BY]
  subst hQ
  exact hfin _ (by simp[Tr.aa]) (by simp[Tr.aa]) (by simp[Tr.aa])
theorem TL:∀ l:List PV,chunk 1 false l.length l=l
 | []=>rfl
 |a::l=>by simp only[List.length_cons,chunk,Bool.false_eq_true,if_false,List.headD_cons,List.drop_succ_cons,List.drop_zero,TL l]
theorem YK {α β γ:Type} (f:β→Option γ) (g:α→β) (k:α→γ):∀ (l:List α),(∀ a∈l,f (g a)=some (k a))→Ra f (l.map g)=some (l.map k)
 | [],_=>rfl
 |a::l,h=>by
  rw[List.map_cons,Ra,h a (by simp),YK f g k l (fun x hx=>h x (by simp[hx]))];rfl
def Nj (n:Nat) (f:Nat→Nat→Bool):PV:= .lit 1 ((List.range n).map fun i=> .lit 1 (Ff n (f i)))
theorem Er.dc {H:List ba} {n:Nat} {f:Nat→Nat→Bool} (h:Er H n f):Go.AM.dc H 6 (.own 0 n)=some (Nj n f):=by
 obtain⟨nl,hnl,h0⟩:=h.hd
 subst hnl
 have hrow:∀ k∈List.range n,Go.AM.dc H 5 (.own (2 * k+1) n)=some (.lit 1 (Ff n (f k))):=by
  intro k hk
  obtain⟨fl,hf,h1⟩:=h.row k (by simpa using hk)
  simp only[Go.AM.dc,h1,ZA]
  rw[if_pos ⟨by rw[List.length_map,yg];omega,rfl⟩,DC]
  simp only[Bool.false_eq_true,if_false,Option.map_some]
  have:=TL (Ff n (f k))
  rw[yg] at this
  rw[this]
 simp only[Go.AM.dc,h0]
 rw[if_pos ⟨by rw[rF];omega,rfl⟩,owns,YK _ _ _ _ hrow]
 simp only[Bool.false_eq_true,if_false,Option.map_some,Nj]
 have:=TL ((List.range n).map fun i=>PV.lit 1 (Ff n (f i)))
 rw[List.length_map,List.length_range] at this
 rw[this]
theorem dG.QZ {H:List ba} {n:Nat} (h:dG H n n) (hn:0 < n):Er H n fun _ _=>false:=by
 obtain⟨nl,h1,h2⟩:=h.hd
 refine⟨h.len,⟨nl,?_,h1⟩,fun k hk=>⟨0,by omega,h.row k hk⟩,h.SI⟩
 cases nl with
 |false=>rfl
 |true=>have:=h2 rfl;omega
theorem eS {C:List (List Int)} (hC:gJ C) (hn:0 < C.length) {D:Nat→Nat→Prop} (hD:RJ C D):
 ∃ f,Tx C D f false∧Xf [.lit 256 (C.map ei)]=some (Nj C.length f):=by
 have hl0:=NU (Ea (fun _=>none) 8) (.lit 256 (C.map ei)) C.length hC.sz
 have ln:Vb [] 0 (.pv (.lit 256 (C.map ei)))=some C.length:=by simp[Vb]
 have tn:((C.length:Int)).toNat=C.length:=by simp
 have g1:(0 < 1)=True:=by simp
 have hz:(0 < 2 * C.length+1)=True:=by simp
 have key:Gd (fun r=>∃ f,Tx C D f false∧r=Nj C.length f) (Xf [.lit 256 (C.map ei)]):=by
  have hl1:=fun {H} (hM:Er H C.length fun _ _=>false)=>lT (Ea (fun _=>none) 8) hC hD hM ⟨fun a b h=>(by cases h),fun a b=>rfl,fun h=>(by cases h)⟩
  generalize hQQ:(fun r:PV=>_)=QQ
  generalize (PV.lit 256 (C.map ei))=L at *
  simp -implicitDefEqProofs only[Xf,SP,WP,oa,sevalprocAttr,-List.reduceReplicate,Gj,ln,Be,g1,Tp,xb,tidy,Bc]
  refine za hl0 ?_
  rintro r ⟨E,H,rfl,hM,k0,k3,k4⟩
  have hM2:=hM.QZ hn
  have hcut:=hM2.cut
  have hlen:=hM2.len
  have hl1':=hl1 hM2
  simp -implicitDefEqProofs only[SP,WP,oa,sevalprocAttr,-List.reduceReplicate,xb,k0,k3,k4,hlen,hcut,hz,fa,Aa,AV.cut,pa]
  simp only[QW,tn] at hl1'
  refine za hl1' ?_
  rintro r ⟨E,H,f,rfl,hM3,hK,k4⟩
  have hpv:=hM3.dc
  simp -implicitDefEqProofs only[SP,WP,oa,sevalprocAttr,-List.reduceReplicate,k4,hpv]
  subst hQQ
  exact⟨f,hK,rfl⟩
 obtain⟨r,h1,f,hK,rfl⟩:=xc key
 exact⟨f,hK,h1⟩
end Go.AM.B1
namespace Go.AM.B1
open Go.AM
def rB:Pa:=(jQ [Cv 92 13,jn 93 0 92,jK 94 .gtr 93 0,Cv 95 94,jT 96 95 (.km 13),jT 97 95 (.km 13),jT 98 95 (.kn 0 97),jT 99 95 (.kK .sub 98 1),jT 100 95 (.ki 3 96 99),jT 101 95 (.kf 2 100),jT 102 95 (.kl 1 101),jT 103 95 (.km 15),jT 104 95 (.kB .eql 102 103),ja 105 95 104,Cv 106 105,jT 107 106 (.km 13),jT 108 106 (.km 13),jT 109 106 (.kn 0 108),jT 110 106 (.kK .sub 109 1),jT 111 106 (.ki 3 107 110),jT 112 106 (.kf 1 111),jT 113 106 (.kl 1 112),jT 114 106 (.km 14),jT 115 106 (.kK .sub 114 1),jT 116 106 (.kB .eql 113 115),ja 117 106 116] (jC 117 (.region [Cv 118 13,Cv 119 13,jn 120 0 119,jK 121 .sub 120 1,Cv 122 14,ji 123 3 118 121,jf 124 1 123,jS 1 124 122]) (.region [Cv 125 13,Cv 126 14,Cv 127 14,Cv 128 15,Co 129 (.build [(.int .i64 0),(.int .i64 0),(.int .i64 0)] [(0,1,(.t 126)),(1,1,(.t 127)),(2,1,(.t 128))]),Co 130 (.Gb .lit 3 true 1 [(.int .i64 0),(.int .i64 0),(.int .i64 0)] [(0,(.t 129))]),Co 131 (.append true .own 3 true 24 (.t 125) (.t 130)),Cv 13 131])))
def YN:Pa:=(jQ [Cv 63 15,jK 64 .geq 63 0] (jC 64 (jQ [jk 16 0] (.seq (.block 4 (.loop [2,7,9,10,11,12,13,14,15,16] Rc)) (.seq (jQ [Cv 83 16,Cv 84 10,jn 85 0 84,jB 86 .eql 83 85] (jC 86 (.region [Cv 87 10,Cv 88 15,Co 89 (.Gb .lit 1 false 1 [(.int .i64 0)] [(0,(.t 88))]),Co 90 (.ku 1 false 8 87 89),Cv 10 90]) .skip)) (.region [Cv 91 16,Cv 15 91])))) .skip))
theorem iw:Ye=
 (.seq (.seq (.region [⟨(some 48),.move (.t 14),none,false⟩,
 ⟨(some 49),.bin .lss (.t 48) (.c (.int .i64 256)),none,false⟩])
 (.cond (.t 49) (.skip) (.exit 2)))
 (.seq (.block 3 (.seq (.region [⟨(some 52),.move (.t 7),none,false⟩,
  ⟨(some 53),.move (.t 10),none,false⟩,
  ⟨(some 54),.move (.t 12),none,false⟩,
  ⟨(some 55),.sd 1 (.t 53) (.t 54),none,false⟩,
  ⟨(some 56),.load false 1 (.t 55),none,false⟩,
  ⟨(some 57),.move (.t 14),none,false⟩,
  ⟨(some 58),.sd 256 (.t 52) (.t 56),none,false⟩,
  ⟨(some 59),.Yv 256 1 (.t 58) (.t 57),none,false⟩,
  ⟨(some 60),.load false 1 (.t 59),none,false⟩,
  ⟨(some 15),.move (.t 60),none,false⟩])
  (.seq (.seq (.region [⟨(some 61),.move (.t 15),none,false⟩,
   ⟨(some 62),.bin .eql (.t 61) (.c (.int .i64 (-2))),none,false⟩])
  (.cond (.t 62) (.exit 3) (.skip)))
  (.seq YN
  rB))))
 (.region [⟨(some 50),.move (.t 14),none,false⟩,
  ⟨(some 51),.bin .add (.t 50) (.c (.int .i64 1)),none,false⟩,
  ⟨(some 14),.move (.t 51),none,false⟩]))):=rfl
end Go.AM.B1
namespace Go.AM.B1
open Go.AM Go.AM.So
attribute [local irreducible] Gd
abbrev Lr (l:List ze) (fl:Nat):ba:= .seq 3 true (Ka (Yc l)) fl l.isEmpty
section
variable (call:Wa) (E:Tr) (o0 o1 o2 o3:ba) (x:Nat) (to:Int) (g14:E.get 14= .pv (i64 x)) (g15:E.get 15= .pv (i64 to)) (hx:x < 256) (hto:to≠ -2)
include g14 g15 hx hto
omit hx hto in
theorem AJ (nl:Bool) (g13:E.get 13= .own 4 0):
 Gd (fun r=>∃ E',r=(.norm,⟨E',[o0,o1,o2,o3,Lr [⟨x,x,to⟩] 0]⟩)∧E'.get 13= .own 4 1∧E'.get 2=E.get 2∧E'.get 7=E.get 7∧E'.get 9=E.get 9∧E'.get 10=E.get 10∧E'.get 11=E.get 11∧E'.get 12=E.get 12∧E'.get 14=E.get 14)
  (ua call rB ⟨E,[o0,o1,o2,o3,.seq 3 true [] 0 nl]⟩):=by
 have ln:Vb [o0,o1,o2,o3,.seq 3 true [] 0 nl] 0 (.own 4 0)=some 0:=by
  simp only[Vb,List.getElem?_cons_succ,List.getElem?_cons_zero];rfl
 have hap:Yb [o0,o1,o2,o3,.seq 3 true [] 0 nl] true .own 3 true 24 (.own 4 0) (.pv (.lit 3 [.agg [i64 x,i64 x,i64 to]]))=some (.own 4 1,[o0,o1,o2,o3,Lr [⟨x,x,to⟩] 0]):=by
  simp only[Yb,if_true,List.getElem?_cons_succ,List.getElem?_cons_zero,Cj,Kf,Option.map_some,Option.bind_some]
  rw[if_pos ⟨trivial,rfl,by unfold qb;simp,rfl⟩]
  simp[Lr,Yc,Ka,flat,PV.cells]
 generalize hQQ:(fun r:Ex×St=>_)=QQ
 generalize hO:Lr [⟨x,x,to⟩] 0=O at *
 simp -implicitDefEqProofs only[SP,WP,oa,sevalprocAttr,rB,g13,g14,g15,ln,hap,si,AV.CC,AV.Ip]
 subst hQQ
 refine⟨_,rfl,?_,?_,?_,?_,?_,?_,?_,?_⟩ <;> simp[Tr.aa]
variable (l:List ze) (e:ze) (hl:l.length < 256) (fl:Nat) (hfl:fl≤(l.length+1) * 3) (g13:E.get 13= .own 4 (l.length+1))
include hl hfl g13
theorem BN:
 Gd (fun r=>∃ E' fl',fl'≤(Mf x to (l++[e])).length * 3∧r=(.norm,⟨E',[o0,o1,o2,o3,Lr (Mf x to (l++[e])) fl']⟩)∧E'.get 13= .own 4 (Mf x to (l++[e])).length∧E'.get 2=E.get 2∧E'.get 7=E.get 7∧E'.get 9=E.get 9∧E'.get 10=E.get 10∧E'.get 11=E.get 11∧E'.get 12=E.get 12∧E'.get 14=E.get 14)
  (ua call rB ⟨E,[o0,o1,o2,o3,.seq 3 true (Ka (Yc l++[e.lo,e.hi,e.to])) fl false]⟩):=by
 have e3:decide (((l.length+1:Nat):Int) > 0)=true:=Fa (by omega)
 have t3:IntKind.i64.wrap (((l.length+1:Nat):Int) - 1)=(l.length:Int):=by rw[Ca (by omega)];omega
 have t4:((l.length:Int)).toNat=l.length:=by simp
 have t5:IntKind.i64.wrap ((x:Int) - 1)=(x:Int) - 1:=Ca (by omega)
 have hlen:∀ h,(Ka (Yc l++[e.lo,h,e.to])).length=(l.length+1) * 3:=fun h=>by rw[pb,List.length_append,Sj];simp;omega
 have ln:Vb [o0,o1,o2,o3,.seq 3 true (Ka (Yc l++[e.lo,e.hi,e.to])) fl false] 0 (.own 4 (l.length+1))=some (l.length+1):=by
  simp only[Vb,List.getElem?_cons_succ,List.getElem?_cons_zero]
  rw[if_pos];rw[hlen];unfold Qh;omega
 have i1:wa [o0,o1,o2,o3,.seq 3 true (Ka (Yc l++[e.lo,e.hi,e.to])) fl false] 3 (.own 4 (l.length+1)) (l.length:Int)=some (.Gc 4 ((l.length+1) * 3) (l.length * 3)):=by
  simp only[wa,List.getElem?_cons_succ,List.getElem?_cons_zero]
  rw[if_pos,t4]
  refine⟨trivial,?_,?_⟩
  ·unfold Ia;omega
  ·rw[hlen];unfold Qh;omega
 have pl:∀ d,place [o0,o1,o2,o3,.seq 3 true (Ka (Yc l++[e.lo,e.hi,e.to])) fl false] d (.Gc 4 ((l.length+1) * 3) (l.length * 3))=some (.Gc 4 ((l.length+1) * 3) (l.length * 3+d)):=by
  intro d
  simp only[place,List.getElem?_cons_succ,List.getElem?_cons_zero]
  rw[if_pos (hlen _)]
 have ld:∀ k,k < 3→xa [o0,o1,o2,o3,.seq 3 true (Ka (Yc l++[e.lo,e.hi,e.to])) fl false] false 1 (.Gc 4 ((l.length+1) * 3) (l.length * 3+k))=some (.pv (i64 (if k=0 then e.lo else if k=1 then e.hi else e.to))):=by
  intro k hk
  simp only[xa,List.getElem?_cons_succ,List.getElem?_cons_zero]
  rw[if_pos (hlen _)]
  have:=nF (Yc l) e k hk
  rw[Sj] at this
  simp only[bh,Bool.false_eq_true,if_false,this]
 have l1:=ld 1 (by omega)
 have l2:=ld 2 (by omega)
 simp only[if_true,Nat.one_ne_zero,if_false,show ¬(2=0) by omega,show ¬(2=1) by omega] at l1 l2
 have hst:Oa [o0,o1,o2,o3,.seq 3 true (Ka (Yc l++[e.lo,e.hi,e.to])) fl false] 1 (.Gc 4 ((l.length+1) * 3) (l.length * 3+1)) (.pv (i64 x))=some [o0,o1,o2,o3,Lr (l++[⟨e.lo,x,e.to⟩]) ((l.length+1) * 3)]:=by
  have hc:(AV.pv (i64 x)).cells=[.pv (i64 x)]:=rfl
  simp only[Oa,List.getElem?_cons_succ,List.getElem?_cons_zero,hc]
  rw[if_pos ⟨rfl,rfl⟩,if_pos ⟨hlen _,by show l.length * 3+1+1≤(l.length+1) * 3;omega⟩,oa,oa,aj]
  have:(Yc l++[e.lo,e.hi,e.to]).set (l.length * 3+1) (x:Int)=Yc (l++[⟨e.lo,x,e.to⟩]):=by
   rw[dm,←Sj,List.set_append_right _ _ (by omega),Nat.add_sub_cancel_left];rfl
  rw[this]
  have he:(l++[(⟨e.lo,x,e.to⟩:ze)]).isEmpty=false:=by cases l <;> rfl
  simp only[Lr,he,List.set_cons_succ,List.set_cons_zero]
 have hap:Yb [o0,o1,o2,o3,.seq 3 true (Ka (Yc l++[e.lo,e.hi,e.to])) fl false] true .own 3 true 24 (.own 4 (l.length+1)) (.pv (.lit 3 [.agg [i64 x,i64 x,i64 to]]))=some (.own 4 (l.length+1+1),[o0,o1,o2,o3,Lr (l++[e]++[⟨x,x,to⟩]) fl]):=by
  simp only[Yb,if_true,List.getElem?_cons_succ,List.getElem?_cons_zero,Cj,Kf,Option.map_some,Option.bind_some]
  rw[if_pos ⟨trivial,(hlen _).symm,by unfold qb;simp;omega,rfl⟩]
  have he:(l++[e]++[(⟨x,x,to⟩:ze)]).isEmpty=false:=by cases l <;> rfl
  simp only[Lr,he,dm,dF,List.set_cons_succ,List.set_cons_zero]
  rfl
 have hR:∀ l' fl',Mf x to (l++[e])=l'→fl'≤l'.length * 3→∀ E',E'.get 13= .own 4 l'.length→E'.get 2=E.get 2→E'.get 7=E.get 7→E'.get 9=E.get 9→E'.get 10=E.get 10→E'.get 11=E.get 11→E'.get 12=E.get 12→E'.get 14=E.get 14→
  ∃ E'' fl'',fl''≤(Mf x to (l++[e])).length * 3∧(Ex.norm,(⟨E',[o0,o1,o2,o3,Lr l' fl']⟩:St))=(.norm,⟨E'',[o0,o1,o2,o3,Lr (Mf x to (l++[e])) fl'']⟩)∧E''.get 13= .own 4 (Mf x to (l++[e])).length∧E''.get 2=E.get 2∧E''.get 7=E.get 7∧E''.get 9=E.get 9∧E''.get 10=E.get 10∧E''.get 11=E.get 11∧E''.get 12=E.get 12∧E''.get 14=E.get 14:=by
  intro l' fl' h1 h2 E' k13 k2 k7 k9 k10 k11 k12 k14
  subst h1
  exact⟨E',fl',h2,rfl,k13,k2,k7,k9,k10,k11,k12,k14⟩
 have hlj:(l++[(⟨e.lo,x,e.to⟩:ze)]).length=l.length+1:=by simp
 have hlp:(l++[e]++[(⟨x,x,to⟩:ze)]).length=l.length+1+1:=by simp
 generalize hQQ:(fun r:Ex×St=>_)=QQ
 by_cases h1:e.to=to
 ·have b1:(e.to==to)=true:=by simp[h1]
  by_cases h2:e.hi=(x:Int) - 1
  ·have b2:(e.hi==(x:Int) - 1)=true:=by simp[h2]
   have hj:Mf x to (l++[e])=l++[⟨e.lo,x,e.to⟩]:=by rw[← h1];exact ry (by rw[h1];exact hto) h2
   generalize ba.seq 3 true (Ka (Yc l++[e.lo,e.hi,e.to])) fl false=oE at *
   generalize hO:Lr (l++[⟨e.lo,x,e.to⟩]) ((l.length+1) * 3)=O at *
   simp -implicitDefEqProofs only[SP,WP,oa,sevalprocAttr,rB,g13,g14,g15,ln,e3,t3,t5,i1,pl,l1,l2,b1,b2,hst,si,AV.CC,AV.Ip]
   subst hQQ hO
   refine hR _ _ hj (by rw[hlj];exact Nat.le_refl _) _ ?_ ?_ ?_ ?_ ?_ ?_ ?_ ?_
   ·rw[hlj];simp only[Tr.aa];exact g13
   all_goals simp[Tr.aa]
  ·have b2:(e.hi==(x:Int) - 1)=false:=vi h2
   have hj:=nv (l:=l) (x:=(x:Int)) (e:=e) hto (fun h=>h2 h.2)
   generalize ba.seq 3 true (Ka (Yc l++[e.lo,e.hi,e.to])) fl false=oE at *
   generalize hO:Lr (l++[e]++[⟨x,x,to⟩]) fl=O at *
   simp -implicitDefEqProofs only[SP,WP,oa,sevalprocAttr,rB,g13,g14,g15,ln,e3,t3,t5,i1,pl,l1,l2,b1,b2,hap,si,AV.CC,AV.Ip]
   subst hQQ hO
   exact hR _ _ hj (by rw[hlp];omega) _ (by rw[hlp];simp[Tr.aa]) (by simp[Tr.aa]) (by simp[Tr.aa]) (by simp[Tr.aa]) (by simp[Tr.aa]) (by simp[Tr.aa]) (by simp[Tr.aa]) (by simp[Tr.aa])
 ·have b1:(e.to==to)=false:=vi h1
  have hj:=nv (l:=l) (x:=(x:Int)) (e:=e) hto (fun h=>h1 h.1)
  generalize ba.seq 3 true (Ka (Yc l++[e.lo,e.hi,e.to])) fl false=oE at *
  generalize hO:Lr (l++[e]++[⟨x,x,to⟩]) fl=O at *
  simp -implicitDefEqProofs only[SP,WP,oa,sevalprocAttr,rB,g13,g14,g15,ln,e3,t3,t5,i1,pl,l1,l2,b1,hap,si,AV.CC,AV.Ip]
  subst hQQ hO
  exact hR _ _ hj (by rw[hlp];omega) _ (by rw[hlp];simp[Tr.aa]) (by simp[Tr.aa]) (by simp[Tr.aa]) (by simp[Tr.aa]) (by simp[Tr.aa]) (by simp[Tr.aa]) (by simp[Tr.aa]) (by simp[Tr.aa])
end
end Go.AM.B1
namespace Go.AM.B1
open Go.AM Go.AM.So
attribute [local irreducible] Gd
abbrev ints (O:List Nat):List PV:=O.map fun (o:Nat)=>i64 (Int.ofNat o)
def Cf (f:Nat→Nat→Bool) (O:List Nat) (to:Int):List Nat×Int:=
 if to < 0 then (O,to) else
  (if O.findIdx (fun o=> !f o to.toNat)=O.length then O++[to.toNat] else O,(O.findIdx (fun o=> !f o to.toNat):Int))
theorem eB (H:List ba) {id:Nat} {nl:Bool} {O:List Nat} {k:Nat} (hk:k < O.length):wa H 1 (.uq id nl 1 (ints O)) (k:Int)=some (.pv (.rp [i64 (O[k]:Int)] 0)):=by
 simp only[wa]
 rw[if_pos (by refine⟨trivial,?_⟩;unfold Ia;simp;omega)]
 simp[hk,PV.cells]
theorem VD (H:List ba) {n:Nat} {f:Nat→Nat→Bool} {k:Nat} (hk:k < n):wa H 1 (.pv (Nj n f)) (k:Int)=some (.pv (.rp [.lit 1 (Ff n (f k))] 0)):=by
 simp only[wa,Nj]
 rw[if_pos (by refine⟨trivial,?_⟩;unfold Ia;simp;omega)]
 simp[hk,PV.cells]
theorem HE (H:List ba) {n:Nat} {f:Nat→Bool} {k:Nat} (hk:k < n):wa H 1 (.pv (.lit 1 (Ff n f))) (k:Int)=some (.pv (.rp [.bool (f k)] 0)):=by
 simp only[wa]
 rw[if_pos (by refine⟨trivial,?_⟩;unfold Ia;rw[yg];omega),Int.toNat_natCast,Dz _ hk]
 rfl
theorem Yw (H:List ba) (x:PV):xa H false 1 (.pv (.rp [x] 0))=some (.pv x):=rfl
abbrev NY (L M:PV) (O:List PV) (k len x:Nat) (to:Int) (m:Int):Tr:=
 (((((((((Tr.lf.set 16 (.pv (i64 m))).set 15 (.pv (i64 to))).set 14 (.pv (i64 x))).set 13 (.own 4 len)).set 12 (.pv (i64 k))).set 11 (.ptr 2 0)).set 10 (.uq 1 false 1 O)).set 9 (.pv M)).set 7 (.pv L)).set 2 (.ptr 0 0)
section
variable (call:Wa) (L:PV) (n:Nat) (f:Nat→Nat→Bool) (O:List Nat) (k len x:Nat) (o0 o2 o3 o4:ba)
 (hc:Ra (na 5) [o0,.tok 1 O.length false,o2,o3,o4]=some [o0,.tok 1 O.length false,o2,o3,o4]) (hO:∀ o∈O,o < n) (hO2:O.length≤64)
include hc hO hO2
theorem VR (to:Nat) (hto:to < n):
 Gd (fun r=>∃ E,r=(.exit 4,⟨E,[o0,.tok 1 O.length false,o2,o3,o4]⟩)∧E.get 2= .ptr 0 0∧E.get 7= .pv L∧E.get 9= .pv (Nj n f)∧E.get 10= .uq 1 false 1 (ints O)∧E.get 11= .ptr 2 0∧E.get 12= .pv (i64 k)∧E.get 13= .own 4 len∧E.get 14= .pv (i64 x)∧E.get 15= .pv (i64 to)∧E.get 16= .pv (i64 (O.findIdx (fun o=> !f o to):Nat)))
  (ab (ga (ua call Rc) (fa 5 [2,7,9,10,11,12,13,14,15,16])) qa ⟨NY L (Nj n f) (ints O) k len x to 0,[o0,.tok 1 O.length false,o2,o3,o4]⟩):=by
 have hle:O.findIdx (fun o=> !f o to)≤O.length:=List.findIdx_le_length
 have hlO:(ints O).length=O.length:=by rw[List.length_map]
 refine za (wb (g:=ga (ua call Rc) (fa 5 [2,7,9,10,11,12,13,14,15,16]))
  (fun m t=>t=⟨NY L (Nj n f) (ints O) k len x to m,[o0,.tok 1 O.length false,o2,o3,o4]⟩)
  (O.findIdx (fun o=> !f o to)) (by unfold qa;omega) _ rfl ?_ ?_) (fun r h=>h.2)
 ·rintro m t hm rfl
  have hmO:m < O.length:=by omega
  have hf:f O[m] to=true:=by
   have:=List.not_of_lt_findIdx hm
   simpa using this
  have e1:decide ((m:Int) < (O.length:Int))=true:=Fa (by omega)
  have t2:IntKind.i64.wrap ((m:Int)+1)=((m+1:Nat):Int):=Ca (by omega)
  have i1:=fun H=>eB H (id:=1) (nl:=false) hmO
  have i2:=fun H=>VD H (f:=f) (hO _ (List.getElem_mem hmO))
  have i3:=fun H=>HE H (f:=f O[m]) hto
  rw[hf] at i3
  generalize O[m]=o at *
  generalize Ff n (f o)=T at *
  generalize Nj n f=M at *
  generalize ints O=os at *
  have d0:(0 < 5)=True:=by simp
  have d1:(1 < 5)=True:=by simp
  have d2:(2 < 5)=True:=by simp
  have d4:(4 < 5)=True:=by simp
  have htk:∀ a b c d e:ba,([a,b,c,d,e]:List ba).take 5=[a,b,c,d,e]:=fun a b c d e=>rfl
  generalize hQ:LN _ _ m=Q
  simp -implicitDefEqProofs only[SX,sevalprocAttr,Rc,hlO,e1,t2,i1,i2,i3,Yw,hc,htk,d0,d1,d2,d4,fa,Aa,AV.cut,pa,NY]
  subst hQ
  show (_:St)=_
  rfl
 ·rintro t rfl
  generalize hN:O.findIdx (fun o=> !f o to)=N at *
  have hfin:∀ E:Tr,E.get 2= .ptr 0 0→E.get 7= .pv L→E.get 9= .pv (Nj n f)→E.get 10= .uq 1 false 1 (ints O)→E.get 11= .ptr 2 0→E.get 12= .pv (i64 k)→E.get 13= .own 4 len→E.get 14= .pv (i64 x)→E.get 15= .pv (i64 to)→E.get 16= .pv (i64 N)→
   (Ex.exit 4,(⟨E,[o0,.tok 1 O.length false,o2,o3,o4]⟩:St)).1.stop=true∧∃ E',(Ex.exit 4,(⟨E,[o0,.tok 1 O.length false,o2,o3,o4]⟩:St))=(.exit 4,⟨E',[o0,.tok 1 O.length false,o2,o3,o4]⟩)∧E'.get 2= .ptr 0 0∧E'.get 7= .pv L∧E'.get 9= .pv (Nj n f)∧E'.get 10= .uq 1 false 1 (ints O)∧E'.get 11= .ptr 2 0∧E'.get 12= .pv (i64 k)∧E'.get 13= .own 4 len∧E'.get 14= .pv (i64 x)∧E'.get 15= .pv (i64 to)∧E'.get 16= .pv (i64 N):=
   fun E k2 k7 k9 k10 k11 k12 k13 k14 k15 k16=>⟨rfl,E,rfl,k2,k7,k9,k10,k11,k12,k13,k14,k15,k16⟩
  generalize hQ:(fun r:Ex×St=>r.1.stop=true∧_)=Q
  by_cases hlt:N < O.length
  ·have hf:f O[N] to=false:=by
    have:=List.findIdx_getElem (w:=by rw[hN];exact hlt) (p:=fun o=> !f o to) (xs:=O)
    simp only[hN] at this
    simpa using this
   have e1:decide ((N:Int) < (O.length:Int))=true:=Fa (by omega)
   have i1:=fun H=>eB H (id:=1) (nl:=false) hlt
   have i2:=fun H=>VD H (f:=f) (hO _ (List.getElem_mem hlt))
   have i3:=fun H=>HE H (f:=f O[N]) hto
   rw[hf] at i3
   generalize O[N]=o at *
   generalize Ff n (f o)=T at *
   generalize Nj n f=M at *
   generalize ints O=os at *
   simp -implicitDefEqProofs only[SX,sevalprocAttr,Rc,hlO,e1,i1,i2,i3,Yw,NY]
   subst hQ
   exact hfin _ (by simp[Tr.aa]) (by simp[Tr.aa]) (by simp[Tr.aa]) (by simp[Tr.aa]) (by simp[Tr.aa]) (by simp[Tr.aa]) (by simp[Tr.aa]) (by simp[Tr.aa]) (by simp[Tr.aa]) (by simp[Tr.aa])
  ·have e1:decide ((N:Int) < (O.length:Int))=false:=Ga (by omega)
   generalize Nj n f=M at *
   generalize ints O=os at *
   simp -implicitDefEqProofs only[SX,sevalprocAttr,Rc,hlO,e1,NY]
   subst hQ
   exact hfin _ (by simp[Tr.aa]) (by simp[Tr.aa]) (by simp[Tr.aa]) (by simp[Tr.aa]) (by simp[Tr.aa]) (by simp[Tr.aa]) (by simp[Tr.aa]) (by simp[Tr.aa]) (by simp[Tr.aa]) (by simp[Tr.aa])
theorem TR (E:Tr) (to:Int) (hto:to < (n:Int)) (g2:E.get 2= .ptr 0 0) (g7:E.get 7= .pv L) (g9:E.get 9= .pv (Nj n f)) (g10:E.get 10= .uq 1 false 1 (ints O)) (g11:E.get 11= .ptr 2 0) (g12:E.get 12= .pv (i64 k)) (g13:E.get 13= .own 4 len) (g14:E.get 14= .pv (i64 x)) (g15:E.get 15= .pv (i64 to)):
 Gd (fun r=>∃ E',r=(.norm,⟨E',[o0,.tok 1 (Cf f O to).1.length false,o2,o3,o4]⟩)∧E'.get 2= .ptr 0 0∧E'.get 7= .pv L∧E'.get 9= .pv (Nj n f)∧E'.get 10= .uq 1 false 1 (ints (Cf f O to).1)∧E'.get 11= .ptr 2 0∧E'.get 12= .pv (i64 k)∧E'.get 13= .own 4 len∧E'.get 14= .pv (i64 x)∧E'.get 15= .pv (i64 (Cf f O to).2))
  (ua call YN ⟨E,[o0,.tok 1 O.length false,o2,o3,o4]⟩):=by
 have hR:∀ O' v,Cf f O to=(O',v)→∀ E':Tr,E'.get 2= .ptr 0 0→E'.get 7= .pv L→E'.get 9= .pv (Nj n f)→E'.get 10= .uq 1 false 1 (ints O')→E'.get 11= .ptr 2 0→E'.get 12= .pv (i64 k)→E'.get 13= .own 4 len→E'.get 14= .pv (i64 x)→E'.get 15= .pv (i64 v)→
  ∃ E'',(Ex.norm,(⟨E',[o0,.tok 1 O'.length false,o2,o3,o4]⟩:St))=(.norm,⟨E'',[o0,.tok 1 (Cf f O to).1.length false,o2,o3,o4]⟩)∧E''.get 2= .ptr 0 0∧E''.get 7= .pv L∧E''.get 9= .pv (Nj n f)∧E''.get 10= .uq 1 false 1 (ints (Cf f O to).1)∧E''.get 11= .ptr 2 0∧E''.get 12= .pv (i64 k)∧E''.get 13= .own 4 len∧E''.get 14= .pv (i64 x)∧E''.get 15= .pv (i64 (Cf f O to).2):=by
  intro O' v h E' k2 k7 k9 k10 k11 k12 k13 k14 k15
  rw[h]
  exact⟨E',rfl,k2,k7,k9,k10,k11,k12,k13,k14,k15⟩
 by_cases hneg:to < 0
 ·have d1:decide (to≥0)=false:=Ga (by omega)
  have hcl:Cf f O to=(O,to):=by unfold Cf;rw[if_pos hneg]
  generalize hQQ:(fun r:Ex×St=>_)=QQ
  simp -implicitDefEqProofs only[SP,WP,oa,sevalprocAttr,YN,g15,d1]
  subst hQQ
  exact hR O to hcl _ (by simp[Tr.aa,g2]) (by simp[Tr.aa,g7]) (by simp[Tr.aa,g9]) (by simp[Tr.aa,g10]) (by simp[Tr.aa,g11]) (by simp[Tr.aa,g12]) (by simp[Tr.aa,g13]) (by simp[Tr.aa,g14]) (by simp[Tr.aa,g15])
 ·have d1:decide (to≥0)=true:=Fa (by omega)
  obtain⟨t,rfl⟩:∃ t:Nat,to=t:=⟨to.toNat,by omega⟩
  have hlp:=VR call L n f O k len x o0 o2 o3 o4 hc hO hO2 t (by omega)
  have hcl:Cf f O (t:Int)=(if O.findIdx (fun o=> !f o t)=O.length then O++[t] else O,(O.findIdx (fun o=> !f o t):Int)):=by unfold Cf;rw[if_neg hneg,Int.toNat_natCast]
  have hlO:(ints O).length=O.length:=by rw[List.length_map]
  generalize O.findIdx (fun o=> !f o t)=N at *
  have d0:(0 < 5)=True:=by simp
  have d1':(1 < 5)=True:=by simp
  have d2:(2 < 5)=True:=by simp
  have d4:(4 < 5)=True:=by simp
  have htk:∀ a b c d e:ba,([a,b,c,d,e]:List ba).take 5=[a,b,c,d,e]:=fun a b c d e=>rfl
  have hap:Yb [o0,.tok 1 O.length false,o2,o3,o4] false .uq 1 false 8 (.uq 1 false 1 (ints O)) (.pv (.lit 1 [i64 t]))=some (.uq 1 false 1 (ints (O++[t])),[o0,.tok 1 (O.length+1) false,o2,o3,o4]):=by
   have:=Fh (A:=[o0,.tok 1 O.length false,o2,o3,o4]) (id:=1) (n:=O.length) (sz:=1) (h:= .uq) (nl:=false) (ag:=false) (bytes:=8) (es:=ints O) rfl (by rw[List.length_map]) (by unfold qb;omega) (i64 t)
   rw[this]
   simp[ints]
  have hlen2:(O++[t]).length=O.length+1:=by simp
  generalize hQQ:(fun r:Ex×St=>_)=QQ
  generalize hM:Nj n f=M at *
  generalize hos:ints O=os at *
  generalize hos2:ints (O++[t])=os2 at *
  simp -implicitDefEqProofs only[SP,WP,oa,sevalprocAttr,YN,g2,g7,g9,g10,g11,g12,g13,g14,g15,d1,xb,hc,htk,d0,d1',d2,d4,fa,Aa,AV.cut,pa]
  simp only[NY,hos] at hlp
  refine za hlp ?_
  rintro r ⟨E2,rfl,k2,k7,k9,k10,k11,k12,k13,k14,k15,k16⟩
  by_cases hN:N=O.length
  ·have e2:((N:Int)==(O.length:Int))=true:=by simp[hN]
   rw[if_pos hN] at hcl
   simp -implicitDefEqProofs only[SP,WP,oa,sevalprocAttr,k2,k7,k9,k10,k11,k12,k13,k14,k15,k16,hlO,e2,hap,si,AV.CC,AV.Ip]
   subst hQQ
   rw[← hlen2]
   exact hR (O++[t]) N hcl _ (by simp[Tr.aa,k2]) (by simp[Tr.aa,k7]) (by simp[Tr.aa,k9]) (by simp[Tr.aa,hos2]) (by simp[Tr.aa,k11]) (by simp[Tr.aa,k12]) (by simp[Tr.aa,k13]) (by simp[Tr.aa,k14]) (by simp[Tr.aa])
  ·have e2:((N:Int)==(O.length:Int))=false:=vi (by omega)
   rw[if_neg hN] at hcl
   simp -implicitDefEqProofs only[SP,WP,oa,sevalprocAttr,k2,k7,k9,k10,k11,k12,k13,k14,k15,k16,hlO,e2]
   subst hQQ
   exact hR O N hcl _ (by simp[Tr.aa,k2]) (by simp[Tr.aa,k7]) (by simp[Tr.aa,k9]) (by simp[Tr.aa,k10,hos]) (by simp[Tr.aa,k11]) (by simp[Tr.aa,k12]) (by simp[Tr.aa,k13]) (by simp[Tr.aa,k14]) (by simp[Tr.aa])
end
end Go.AM.B1
namespace Go.AM.B1
open Go.AM Go.AM.So
attribute [local irreducible] Gd
theorem XT (l:List ze) (e:ze) (fl:Nat):Lr (l++[e]) fl= .seq 3 true (Ka (Yc l++[e.lo,e.hi,e.to])) fl false:=by
 have he:(l++[e]).isEmpty=false:=by cases l <;> rfl
 rw[Lr,he,dm]
theorem fO (l:List ze) (fl n:Nat):na n (Lr l fl)=some (Lr l fl):=by
 have:(Ka (Yc l)).all (AV.Je n deep)=true:=by
  rw[List.all_eq_true]
  intro v hv
  obtain⟨p,_,rfl⟩:=List.mem_map.1 hv
  rfl
 simp[na,Lr,this]
theorem kS (call:Wa) (E:Tr) (o0 o1 o2 o3:ba) (x:Nat) (to:Int) (g14:E.get 14= .pv (i64 x)) (g15:E.get 15= .pv (i64 to)) (hx:x < 256) (hto:to≠ -2) (l:List ze) (hl:l.length≤256) (fl:Nat) (hfl:fl≤l.length * 3) (g13:E.get 13= .own 4 l.length):
 Gd (fun r=>∃ E' fl',fl'≤(Mf x to l).length * 3∧r=(.norm,⟨E',[o0,o1,o2,o3,Lr (Mf x to l) fl']⟩)∧E'.get 13= .own 4 (Mf x to l).length∧E'.get 2=E.get 2∧E'.get 7=E.get 7∧E'.get 9=E.get 9∧E'.get 10=E.get 10∧E'.get 11=E.get 11∧E'.get 12=E.get 12∧E'.get 14=E.get 14)
  (ua call rB ⟨E,[o0,o1,o2,o3,Lr l fl]⟩):=by
 rcases List.eq_nil_or_concat l with rfl | ⟨l',e,rfl⟩
 ·have:fl=0:=by simpa using hfl
  subst this
  refine za (AJ call E o0 o1 o2 o3 x to g14 g15 true g13) ?_
  rintro r ⟨E',rfl,k13,k2,k7,k9,k10,k11,k12,k14⟩
  have hj:=Mw (x:=(x:Int)) hto
  rw[hj]
  exact⟨E',0,by omega,rfl,k13,k2,k7,k9,k10,k11,k12,k14⟩
 ·rw[List.concat_eq_append] at *
  have hl1:(l'++[e]).length=l'.length+1:=by simp
  rw[hl1] at hl hfl g13
  rw[XT]
  exact BN call E o0 o1 o2 o3 x to g14 g15 hx hto l' e (by omega) fl hfl g13
theorem wH (x to:Int) (l:List ze):(Mf x to l).length≤l.length+1:=by
 by_cases h:to= -2
 ·subst h;rw[Fy];omega
 ·rcases List.eq_nil_or_concat l with rfl | ⟨l',e,rfl⟩
  ·rw[Mw h];simp
  ·rw[List.concat_eq_append]
   by_cases h2:e.to=to∧e.hi=x - 1
   ·obtain⟨rfl,h3⟩:=h2
    rw[ry h h3];simp
   ·rw[nv h h2];simp
def Om (C:List (List Int)) (f:Nat→Nat→Bool) (o:Nat) (r:List Nat×List ze) (x:Nat):List Nat×List ze:=
 if vg C o x= -2 then r else ((Cf f r.1 (vg C o x)).1,Mf x (Cf f r.1 (vg C o x)).2 r.2)
structure Fw (n:Nat) (O:List Nat):Prop where
 nd:O.Nodup
 lt:∀ o∈O,o < n
theorem Fw.len {n:Nat} {O:List Nat} (h:Fw n O):O.length≤n:=by
 have h1:=LA n (O.map fun (o:Nat)=>Int.ofNat o) ?_ ?_
 ·simpa using h1
 ·rw[List.Nodup,List.pairwise_map]
  exact h.nd.imp fun hne he=>hne (Int.ofNat.inj he)
 ·intro o ho
  obtain⟨p,hp,rfl⟩:=List.mem_map.1 ho
  have:=h.lt p hp
  constructor
  ·exact Int.natCast_nonneg p
  ·exact Int.ofNat_lt.2 this
theorem oD {n:Nat} {f:Nat→Nat→Bool} (hf:∀ a,f a a=false) {O:List Nat} (h:Fw n O) {to:Int} (hto:to < n):Fw n (Cf f O to).1∧∃ t,(Cf f O to).1=O++t:=by
 unfold Cf
 by_cases h1:to < 0
 ·rw[if_pos h1];exact⟨h,[],by simp⟩
 ·rw[if_neg h1]
  by_cases h2:O.findIdx (fun o=> !f o to.toNat)=O.length
  ·rw[if_pos h2]
   have hall:∀ o∈O,f o to.toNat=true:=by
    intro o ho
    obtain⟨k,hk,rfl⟩:=List.getElem_of_mem ho
    have:=List.not_of_lt_findIdx (p:=fun o=> !f o to.toNat) (xs:=O) (i:=k) (by omega)
    simpa using this
   refine⟨⟨?_,?_⟩,[to.toNat],rfl⟩
   ·rw[List.nodup_append]
    refine⟨h.nd,by simp,?_⟩
    intro a ha b hb
    rw[List.mem_singleton] at hb
    subst hb
    intro he
    subst he
    have:=hall _ ha
    rw[hf] at this;cases this
   ·intro o ho
    rcases List.mem_append.1 ho with h3 | h3
    ·exact h.lt o h3
    ·rw[List.mem_singleton] at h3;subst h3;omega
  ·rw[if_neg h2];exact⟨h,[],by simp⟩
theorem gR {f:Nat→Nat→Bool} {O:List Nat} {to:Int} (h:to≠ -2) (h2: -2≤to):(Cf f O to).2≠ -2:=by
 unfold Cf
 by_cases h1:to < 0
 ·rw[if_pos h1];exact h
 ·rw[if_neg h1];simp only;omega
abbrev zV (L M:PV) (O:List PV) (k len x:Nat):Tr:=
 (((((((Tr.lf.set 14 (.pv (i64 x))).set 13 (.own 4 len)).set 12 (.pv (i64 k))).set 11 (.ptr 2 0)).set 10 (.uq 1 false 1 O)).set 9 (.pv M)).set 7 (.pv L)).set 2 (.ptr 0 0)
section
variable (call:Wa) {C:List (List Int)} (hC:gJ C) (hge:∀ r∈C,∀ v∈r,-2≤v) {f:Nat→Nat→Bool} (hf:∀ a,f a a=false) (k:Nat) (o0 o2 o3:ba) (h0:∀ n,na n o0=some o0) (h2:na 5 o2=some o2) (h3:∀ n,na n o3=some o3)
include hC hge hf h0 h2 h3
omit hf in
theorem BE {O:List Nat} (hO:Fw C.length O) {o:Nat} (hk:O[k]? =some o) {l:List ze} {x:Nat} (hx:x < 256) (hl:l.length≤x) {fl:Nat} (hfl:fl≤l.length * 3):
 Gd (fun r=>∃ fl',fl'≤(Om C f o (O,l) x).2.length * 3∧r=(.norm,⟨zV (.lit 256 (C.map ei)) (Nj C.length f) (ints (Om C f o (O,l) x).1) k (Om C f o (O,l) x).2.length (x+1),[o0,.tok 1 (Om C f o (O,l) x).1.length false,o2,o3,Lr (Om C f o (O,l) x).2 fl']⟩))
  (ga (ua call Ye) (fa 5 [2,7,9,10,11,12,13,14]) ⟨zV (.lit 256 (C.map ei)) (Nj C.length f) (ints O) k l.length x,[o0,.tok 1 O.length false,o2,o3,Lr l fl]⟩):=by
 have hkO:=(List.getElem?_eq_some_iff.1 hk).1
 have hko:O[k]=o:=(List.getElem?_eq_some_iff.1 hk).2
 have ho:o < C.length:=by rw[← hko];exact hO.lt _ (List.getElem_mem hkO)
 have hO64:O.length≤64:=Nat.le_trans hO.len hC.sz
 have i1:=fun H=>eB H (id:=1) (nl:=false) hkO
 rw[hko] at i1
 have i2:=fun H=>hC.sd ho H
 have l2:=fun H=>hC.load ho hx H
 have hv:=(hC.get ho hx).2
 have hv2: -2≤vg C o x:=hge _ (List.getElem_mem ho) _ (List.mem_of_getElem? (hC.get ho hx).1)
 have e1:decide ((x:Int) < 256)=true:=Fa (by omega)
 have hq:Ia (x:Int) 256:=by unfold Ia;omega
 have t1:((x:Int)).toNat=x:=by simp
 have m1:x * 1=x:=by omega
 have z1:0+x=x:=by omega
 have t2:IntKind.i64.wrap ((x:Int)+1)=((x+1:Nat):Int):=Ca (by omega)
 have hcl:∀ (m:Nat) (l:List ze) (fl:Nat),Ra (na 5) [o0,.tok 1 m false,o2,o3,Lr l fl]=some [o0,.tok 1 m false,o2,o3,Lr l fl]:=by
  intro m l fl
  have c1:na 5 (.tok 1 m false)=some (.tok 1 m false):=rfl
  simp only[Ra,h0,h2,h3,c1,fO,Option.bind_some,Option.map_some]
 have htk:∀ a b c d e:ba,([a,b,c,d,e]:List ba).take 5=[a,b,c,d,e]:=fun a b c d e=>rfl
 have d0:(0 < 5)=True:=by simp
 have d1:(1 < 5)=True:=by simp
 have d2:(2 < 5)=True:=by simp
 have d4:(4 < 5)=True:=by simp
 have hfind:=fun (E:Tr) g2 g7 g9 g10 g11 g12 g13 g14 g15=>TR call (.lit 256 (C.map ei)) C.length f O k l.length x o0 o2 o3 (Lr l fl) (hcl _ _ _) hO.lt hO64 E (vg C o x) hv g2 g7 g9 g10 g11 g12 g13 g14 g15
 have hce:vg C o x≠ -2→(Cf f O (vg C o x)).2≠ -2:=fun h=>gR h hv2
 have hR:∀ r,Om C f o (O,l) x=r→∀ fl',fl'≤r.2.length * 3→∀ s:St,s=⟨zV (.lit 256 (C.map ei)) (Nj C.length f) (ints r.1) k r.2.length (x+1),[o0,.tok 1 r.1.length false,o2,o3,Lr r.2 fl']⟩→
  ∃ fl',fl'≤(Om C f o (O,l) x).2.length * 3∧(Ex.norm,s)=(.norm,⟨zV (.lit 256 (C.map ei)) (Nj C.length f) (ints (Om C f o (O,l) x).1) k (Om C f o (O,l) x).2.length (x+1),[o0,.tok 1 (Om C f o (O,l) x).1.length false,o2,o3,Lr (Om C f o (O,l) x).2 fl']⟩):=by
  intro r hr fl' hfl' s hs
  subst hr
  exact⟨fl',hfl',by rw[hs]⟩
 have hrx:vg C o x= -2→Om C f o (O,l) x=(O,l):=fun h=>by unfold Om;rw[if_pos h]
 have hrx2:vg C o x≠ -2→Om C f o (O,l) x=((Cf f O (vg C o x)).1,Mf x (Cf f O (vg C o x)).2 l):=fun h=>by unfold Om;rw[if_neg h]
 generalize hQQ:(fun r:Ex×St=>_)=QQ
 generalize vg C o x=to at *
 generalize hL:(PV.lit 256 (C.map ei))=L at *
 generalize hM:Nj C.length f=M at *
 generalize hoR:C[o].map i64=oR at *
 by_cases hto:to= -2
 ·have b1:(to== -2)=true:=by simp[hto]
  have hclx:=hcl O.length l fl
  have hfin:=hR (O,l) (hrx hto) fl hfl
  generalize hos:ints O=os at *
  generalize hO4:Lr l fl=o4 at *
  simp -implicitDefEqProofs only[SP,WP,oa,sevalprocAttr,iw,e1,i1,i2,l2,Yw,lj,eq_true hq,t1,m1,z1,b1,t2,hclx,htk,d0,d1,d2,d4,fa,Aa,AV.cut,pa,zV]
  subst hQQ
  exact hfin _ (by simp only[zV,hos,hO4])
 ·have b1:(to== -2)=false:=vi hto
  have hce':=hce hto
  generalize hos:ints O=os at *
  generalize hO4:Lr l fl=o4 at *
  simp -implicitDefEqProofs only[SP,WP,oa,sevalprocAttr,iw,e1,i1,i2,l2,Yw,lj,eq_true hq,t1,m1,z1,b1,zV]
  refine za (hfind _ ?_ ?_ ?_ ?_ ?_ ?_ ?_ ?_ ?_) ?_
  any_goals (simp[Tr.aa];done)
  rintro r ⟨E2,rfl,k2,k7,k9,k10,k11,k12,k13,k14,k15⟩
  simp -implicitDefEqProofs only[SP,WP,oa,sevalprocAttr]
  subst hO4
  refine za (kS call E2 o0 _ o2 o3 x _ k14 k15 hx hce' l (by omega) fl hfl k13) ?_
  rintro r ⟨E3,fl',hfl',rfl,j13,j2,j7,j9,j10,j11,j12,j14⟩
  rw[k2] at j2;rw[k7] at j7;rw[k9] at j9;rw[k10] at j10;rw[k11] at j11;rw[k12] at j12;rw[k14] at j14
  have hclx:=hcl (Cf f O to).1.length (Mf x (Cf f O to).2 l) fl'
  have hfin:=hR _ (hrx2 hto) fl' hfl'
  simp only at hfin
  generalize (Cf f O to).1.length=n1 at *
  generalize hos1:ints (Cf f O to).1=os1 at *
  generalize (Mf x (Cf f O to).2 l).length=n2 at *
  generalize Lr (Mf x (Cf f O to).2 l) fl'=o4 at *
  simp -implicitDefEqProofs only[SP,WP,oa,sevalprocAttr,j2,j7,j9,j10,j11,j12,j13,j14,t2,hclx,htk,d0,d1,d2,d4,fa,Aa,AV.cut,pa]
  subst hQQ
  exact hfin _ rfl
end
end Go.AM.B1
namespace Go.AM.B1
open Go.AM Go.AM.So
attribute [local irreducible] Gd
def kg (C:List (List Int)) (f:Nat→Nat→Bool) (o:Nat) (O:List Nat) (x:Nat):List Nat×List ze:=(List.range x).foldl (Om C f o) (O,[])
theorem Ay (C:List (List Int)) (f:Nat→Nat→Bool) (o:Nat) (O:List Nat) (x:Nat):kg C f o O (x+1)=Om C f o (kg C f o O x) x:=by
 unfold kg
 rw[List.range_succ,List.foldl_append];rfl
theorem ET {C:List (List Int)} (hC:gJ C) {f:Nat→Nat→Bool} (hf:∀ a,f a a=false) {o:Nat} (ho:o < C.length) {r:List Nat×List ze} (h:Fw C.length r.1) {x:Nat} (hx:x < 256):
 Fw C.length (Om C f o r x).1∧(∃ t,(Om C f o r x).1=r.1++t)∧(Om C f o r x).2.length≤r.2.length+1:=by
 unfold Om
 split
 ·exact⟨h,⟨[],by simp⟩,by omega⟩
 ·obtain⟨h1,h2⟩:=oD hf h (hC.get ho hx).2
  exact⟨h1,h2,wH _ _ _⟩
theorem wA {C:List (List Int)} (hC:gJ C) {f:Nat→Nat→Bool} (hf:∀ a,f a a=false) {o:Nat} (ho:o < C.length) {O:List Nat} (h:Fw C.length O):∀ (x:Nat),x≤256→
 Fw C.length (kg C f o O x).1∧(∃ t,(kg C f o O x).1=O++t)∧(kg C f o O x).2.length≤x
 |0,_=>⟨h,⟨[],by simp[kg]⟩,by simp[kg]⟩
 |x+1,hx=>by
  obtain⟨h1,⟨t,h2⟩,h3⟩:=wA hC hf ho h x (by omega)
  obtain⟨k1,⟨t',k2⟩,k3⟩:=ET hC hf ho h1 (x:=x) (by omega)
  rw[Ay]
  exact⟨k1,⟨t++t',by rw[k2,h2,List.append_assoc]⟩,by omega⟩
def Pp (C:List (List Int)) (f:Nat→Nat→Bool):Nat→List Nat×List (List ze)→List Nat×List (List ze)
 |0,r=>r
 |k+1,r=>match r.1[r.2.length]? with
  |none=>r
  |some o=>Pp C f k ((kg C f o r.1 256).1,r.2++[(kg C f o r.1 256).2])
theorem eH {C:List (List Int)} {f:Nat→Nat→Bool} {k:Nat} {r:List Nat×List (List ze)} (h:r.1[r.2.length]? =none):Pp C f k r=r:=by
 cases k with
 |zero=>rfl
 |succ k=>rw[Pp,h]
theorem fF {C:List (List Int)} {f:Nat→Nat→Bool} {k:Nat} {r:List Nat×List (List ze)} {o:Nat} (h:r.1[r.2.length]? =some o):Pp C f (k+1) r=Pp C f k ((kg C f o r.1 256).1,r.2++[(kg C f o r.1 256).2]):=by
 rw[Pp,h]
section
variable (call:Wa) {C:List (List Int)} (hC:gJ C) (hge:∀ r∈C,∀ v∈r,-2≤v) {f:Nat→Nat→Bool} (hf:∀ a,f a a=false)
include hC hge hf
theorem rT (k:Nat) (o0 o2 o3:ba) (h0:∀ n,na n o0=some o0) (h2:na 5 o2=some o2) (h3:∀ n,na n o3=some o3) {O:List Nat} (hO:Fw C.length O) {o:Nat} (hk:O[k]? =some o):
 Gd (fun r=>∃ E fl,r=(.exit 2,⟨E,[o0,.tok 1 (kg C f o O 256).1.length false,o2,o3,Lr (kg C f o O 256).2 fl]⟩)∧E.get 2= .ptr 0 0∧E.get 7= .pv (.lit 256 (C.map ei))∧E.get 9= .pv (Nj C.length f)∧E.get 10= .uq 1 false 1 (ints (kg C f o O 256).1)∧E.get 11= .ptr 2 0∧E.get 12= .pv (i64 k)∧E.get 13= .own 4 (kg C f o O 256).2.length)
  (ab (ga (ua call Ye) (fa 5 [2,7,9,10,11,12,13,14])) qa ⟨zV (.lit 256 (C.map ei)) (Nj C.length f) (ints O) k 0 0,[o0,.tok 1 O.length false,o2,o3,Lr [] 0]⟩):=by
 have hkO:=(List.getElem?_eq_some_iff.1 hk).1
 have hko:O[k]=o:=(List.getElem?_eq_some_iff.1 hk).2
 have ho:o < C.length:=by rw[← hko];exact hO.lt _ (List.getElem_mem hkO)
 refine za (wb (g:=ga (ua call Ye) (fa 5 [2,7,9,10,11,12,13,14]))
  (fun x t=>∃ fl,fl≤(kg C f o O x).2.length * 3∧t=⟨zV (.lit 256 (C.map ei)) (Nj C.length f) (ints (kg C f o O x).1) k (kg C f o O x).2.length x,[o0,.tok 1 (kg C f o O x).1.length false,o2,o3,Lr (kg C f o O x).2 fl]⟩)
  256 (by unfold qa;omega) _ ⟨0,by omega,rfl⟩ ?_ ?_) (fun r h=>h.2)
 ·rintro x t hx ⟨fl,hfl,rfl⟩
  obtain⟨q1,⟨t,q2⟩,q3⟩:=wA hC hf ho hO x (by omega)
  have hk':(kg C f o O x).1[k]? =some o:=by rw[q2,List.getElem?_append_left hkO];exact hk
  refine za (BE call hC hge k o0 o2 o3 h0 h2 h3 q1 hk' hx q3 hfl) ?_
  rintro r ⟨fl',hfl',rfl⟩
  have:Om C f o ((kg C f o O x).1,(kg C f o O x).2) x=kg C f o O (x+1):=(Ay C f o O x).symm
  rw[this] at hfl' ⊢
  exact⟨fl',hfl',rfl⟩
 ·rintro t ⟨fl,hfl,rfl⟩
  have e1:decide (((256:Nat):Int) < 256)=false:=Ga (by omega)
  generalize kg C f o O 256=r at *
  have hfin:∀ E:Tr,E.get 2= .ptr 0 0→E.get 7= .pv (.lit 256 (C.map ei))→E.get 9= .pv (Nj C.length f)→E.get 10= .uq 1 false 1 (ints r.1)→E.get 11= .ptr 2 0→E.get 12= .pv (i64 k)→E.get 13= .own 4 r.2.length→
   (Ex.exit 2,(⟨E,[o0,.tok 1 r.1.length false,o2,o3,Lr r.2 fl]⟩:St)).1.stop=true∧∃ E' fl',(Ex.exit 2,(⟨E,[o0,.tok 1 r.1.length false,o2,o3,Lr r.2 fl]⟩:St))=(.exit 2,⟨E',[o0,.tok 1 r.1.length false,o2,o3,Lr r.2 fl']⟩)∧E'.get 2= .ptr 0 0∧E'.get 7= .pv (.lit 256 (C.map ei))∧E'.get 9= .pv (Nj C.length f)∧E'.get 10= .uq 1 false 1 (ints r.1)∧E'.get 11= .ptr 2 0∧E'.get 12= .pv (i64 k)∧E'.get 13= .own 4 r.2.length:=
   fun E k2 k7 k9 k10 k11 k12 k13=>⟨rfl,E,fl,rfl,k2,k7,k9,k10,k11,k12,k13⟩
  generalize hQ:(fun r:Ex×St=>r.1.stop=true∧_)=Q
  generalize (PV.lit 256 (C.map ei))=L at *
  generalize Nj C.length f=M at *
  generalize ints r.1=os at *
  generalize Lr r.2 fl=o4 at *
  simp -implicitDefEqProofs only[SX,sevalprocAttr,iw,e1,zV]
  subst hQ
  exact hfin _ (by simp[Tr.aa]) (by simp[Tr.aa]) (by simp[Tr.aa]) (by simp[Tr.aa]) (by simp[Tr.aa]) (by simp[Tr.aa]) (by simp[Tr.aa])
end
abbrev EY (L M:PV) (O:List PV) (k:Nat):Tr:=
 (((((Tr.lf.set 12 (.pv (i64 k))).set 11 (.ptr 2 0)).set 10 (.uq 1 false 1 O)).set 9 (.pv M)).set 7 (.pv L)).set 2 (.ptr 0 0)
abbrev Ny (nl:Bool) (es:List PV):ba:= .box [.uq 3 nl 1 es]
abbrev GC (out:List (List ze)):List PV:=out.map Wd
section
variable (call:Wa) {C:List (List Int)} (hC:gJ C) (hge:∀ r∈C,∀ v∈r,-2≤v) {f:Nat→Nat→Bool} (hf:∀ a,f a a=false)
include hC hge hf
theorem NC (o0:ba) (h0:∀ n,na n o0=some o0) {O:List Nat} (hO:Fw C.length O) {out:List (List ze)} {o:Nat} (hk:O[out.length]? =some o):
 Gd (fun r=>r=(.norm,⟨EY (.lit 256 (C.map ei)) (Nj C.length f) (ints (kg C f o O 256).1) (out.length+1),[o0,.tok 1 (kg C f o O 256).1.length false,Ny false (GC (out++[(kg C f o O 256).2])),.tok 1 (out.length+1) false]⟩))
  (ga (ua call Pc) (fa 4 [2,7,9,10,11,12]) ⟨EY (.lit 256 (C.map ei)) (Nj C.length f) (ints O) out.length,[o0,.tok 1 O.length false,Ny out.isEmpty (GC out),.tok 1 out.length out.isEmpty]⟩):=by
 have hkO:=(List.getElem?_eq_some_iff.1 hk).1
 have hko:O[out.length]=o:=(List.getElem?_eq_some_iff.1 hk).2
 have hO64:O.length≤64:=Nat.le_trans hO.len hC.sz
 have ho:o < C.length:=by rw[← hko];exact hO.lt _ (List.getElem_mem hkO)
 have hlO:(ints O).length=O.length:=by rw[List.length_map]
 have hlo:(GC out).length=out.length:=by rw[List.length_map]
 have e1:decide ((out.length:Int) < (O.length:Int))=true:=Fa (by omega)
 have t2:IntKind.i64.wrap ((out.length:Int)+1)=((out.length+1:Nat):Int):=Ca (by omega)
 have hc2:∀ nl es,na 5 (Ny nl es)=some (Ny nl es):=fun nl es=>rfl
 have hl1:=rT call hC hge hf out.length o0 (Ny out.isEmpty (GC out)) (.tok 1 out.length out.isEmpty) h0 (hc2 _ _) (fun n=>rfl) hO hk
 have hcl5:∀ (m:Nat) (nl:Bool) (es:List PV) (n:Nat) (l:List ze) (fl:Nat),Ra (na 5) [o0,.tok 1 m false,Ny nl es,.tok 1 n nl,Lr l fl]=some [o0,.tok 1 m false,Ny nl es,.tok 1 n nl,Lr l fl]:=by
  intro m nl es n l fl
  have c1:∀ m nl,na 5 (.tok 1 m nl)=some (.tok 1 m nl):=fun m nl=>rfl
  simp only[Ra,h0,hc2,c1,fO,Option.bind_some,Option.map_some]
 have hc24:∀ nl es,na 4 (Ny nl es)=some (Ny nl es):=fun nl es=>rfl
 have hcl4:∀ (m:Nat) (nl:Bool) (es:List PV) (n:Nat),Ra (na 4) [o0,.tok 1 m false,Ny nl es,.tok 1 n nl]=some [o0,.tok 1 m false,Ny nl es,.tok 1 n nl]:=by
  intro m nl es n
  have c1:∀ m nl,na 4 (.tok 1 m nl)=some (.tok 1 m nl):=fun m nl=>rfl
  simp only[Ra,h0,hc24,c1,Option.bind_some,Option.map_some]
 have hez:ba.seq 3 true [] 0 true=Lr [] 0:=rfl
 have htk5:∀ a b c d e:ba,([a,b,c,d,e]:List ba).take 5=[a,b,c,d,e]:=fun a b c d e=>rfl
 have htk4:∀ a b c d e:ba,([a,b,c,d,e]:List ba).take 4=[a,b,c,d]:=fun a b c d e=>rfl
 have d50:(0 < 5)=True:=by simp
 have d51:(1 < 5)=True:=by simp
 have d52:(2 < 5)=True:=by simp
 have d54:(4 < 5)=True:=by simp
 have d40:(0 < 4)=True:=by simp
 have d41:(1 < 4)=True:=by simp
 have d42:(2 < 4)=True:=by simp
 have g3:(0 < 3)=True:=by simp
 generalize hr:kg C f o O 256=r at *
 obtain⟨O',l⟩:=r
 simp only at hl1 ⊢
 have hfz:∀ (E:Tr) (fl:Nat) (a b c d:ba),E.get 13= .own 4 l.length→Be (.freeze 13) ⟨E,[a,b,c,d,Lr l fl]⟩=some ⟨E.set 13 (.pv (Wd l)),[a,b,c,d,.dead]⟩:=by
  intro E fl a b c d h
  have h1:l.length * 3=(Ka (Yc l)).length:=by rw[pb,Sj]
  simp only[Be,h,List.getElem?_cons_succ,List.getElem?_cons_zero,Lr]
  rw[if_pos ⟨h1,rfl⟩,List.set_cons_succ,List.set_cons_succ,List.set_cons_succ,List.set_cons_succ,List.set_cons_zero]
  cases hl:l with
  |nil=>rfl
  |cons e l'=>
   rw[← hl]
   have:l.isEmpty=false:=by rw[hl];rfl
   rw[this]
   simp only[Bool.false_eq_true,if_false]
   have h2:ve (Ka (Yc l))=some ((Yc l).map i64):=by rw[ct,uf]
   rw[h2,Option.map_some,PM,Wd,this]
   rfl
 have hpl:∀ (a b c d:ba) nl es,place [a,b,Ny nl es,c,d] 0 (.ptr 2 0)=some (.ptr 2 0):=fun a b c d nl es=>rfl
 have hld:∀ (a b c d:ba) nl es,xa [a,b,Ny nl es,c,d] false 1 (.ptr 2 0)=some (.uq 3 nl 1 es):=fun a b c d nl es=>rfl
 have hst:∀ (a b c d:ba) nl nl' es es',Oa [a,b,Ny nl es,c,d] 1 (.ptr 2 0) (.uq 3 nl' 1 es')=some [a,b,Ny nl' es',c,d]:=fun a b c d nl nl' es es'=>rfl
 have hap:Yb [o0,.tok 1 O'.length false,Ny out.isEmpty (GC out),.tok 1 out.length out.isEmpty,.dead] false .uq 1 false 24 (.uq 3 out.isEmpty 1 (GC out)) (.pv (.lit 1 [Wd l]))=some (.uq 3 false 1 (GC (out++[l])),[o0,.tok 1 O'.length false,Ny out.isEmpty (GC out),.tok 1 (out.length+1) false,.dead]):=by
  have:=Fh (A:=[o0,.tok 1 O'.length false,Ny out.isEmpty (GC out),.tok 1 out.length out.isEmpty,.dead]) (id:=3) (n:=out.length) (sz:=1) (h:= .uq) (nl:=out.isEmpty) (ag:=false) (bytes:=24) (es:=GC out) rfl hlo.symm (by unfold qb;omega) (Wd l)
  rw[this]
  simp[GC]
 have hone:(AV.pv (Wd l)).one=true:=by unfold Wd;split <;> rfl
 have hcel:(AV.pv (Wd l)).cells=[.pv (Wd l)]:=by unfold Wd;split <;> rfl
 have hpu:(AV.pv (Wd l)).CC= .pv (Wd l):=by unfold Wd;split <;> rfl
 have hpc:(Wd l).cells=[Wd l]:=by unfold Wd;split <;> rfl
 have hcl5z:=hcl5 O.length out.isEmpty (GC out) out.length [] 0
 have hcl4z:=hcl4 O'.length false (GC (out++[l])) (out.length+1)
 generalize Wd l=el at *
 generalize hQQ:(fun r:Ex×St=>_)=QQ
 generalize hL:(PV.lit 256 (C.map ei))=L at *
 generalize hM:Nj C.length f=M at *
 generalize hos:ints O=os at *
 generalize hos':ints O'=os' at *
 generalize hou:GC out=ou at *
 generalize hou':GC (out++[l])=ou' at *
 generalize hzb:Lr [] 0=zb at *
 generalize hob:Ny out.isEmpty ou=ob at *
 simp -implicitDefEqProofs only[SP,WP,oa,sevalprocAttr,Pc,hlO,e1,Be,g3,hez,xb,hcl5z,htk5,d50,d51,d52,d54,fa,Aa,AV.cut,pa,EY]
 refine za hl1 ?_
 rintro r ⟨E,fl,rfl,k2,k7,k9,k10,k11,k12,k13⟩
 have hfz':=hfz E fl o0 (.tok 1 O'.length false) ob (.tok 1 out.length out.isEmpty) k13
 subst hob
 simp -implicitDefEqProofs only[SP,WP,oa,sevalprocAttr,hfz',k2,k7,k9,k10,k11,k12,hpl,hld,hap,hst,si,hone,hcel,hpu,hpc,t2,hcl4z,htk4,d40,d41,d42,fa,Aa,AV.cut,pa]
 subst hQQ
 rfl
end
end Go.AM.B1
