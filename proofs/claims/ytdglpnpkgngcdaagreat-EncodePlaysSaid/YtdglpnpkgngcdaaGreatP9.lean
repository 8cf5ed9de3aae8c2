/- What functions of the program compute. -/
import Derived.Test.YtdglpnpkgngcdaaGreatP8
import Derived.Test.YtdglpnpkgngcdaaGreatP7
import Derived.Test.YtdglpnpkgngcdaaGreatP6
import Derived.Test.YtdglpnpkgngcdaaGreatP2
import Derived.Test.YtdglpnpkgngcdaaGreatP3
import Derived.Test.YtdglpnpkgngcdaaGreatP5
set_option linter.unusedVariables false
set_option linter.unusedSimpArgs false
namespace Go.AM.B1
open Go.AM Go.AM.So
attribute [local irreducible] Pd
abbrev XW (v:PV) (n i j:Int) (g:Bool):Tr:=(((((Tr.lf.set 8 (.pv (i64 j))).set 7 (.pv (i64 i))).set 6 (.pv (.bool g))).set 4 (.own 0 n.toNat)).set 3 (.pv (i64 n))).set 0 (.pv v)
abbrev PW (v:PV) (n i:Int) (g:Bool):Tr:=((((Tr.lf.set 7 (.pv (i64 i))).set 6 (.pv (.bool g))).set 4 (.own 0 n.toNat)).set 3 (.pv (i64 n))).set 0 (.pv v)
abbrev BU (v:PV) (n:Int) (g:Bool):Tr:=(((Tr.lf.set 6 (.pv (.bool g))).set 4 (.own 0 n.toNat)).set 3 (.pv (i64 n))).set 0 (.pv v)
section
variable (call:Ta) {C:List (List Int)} (hC:LI C) {D:Nat→Nat→Prop} (hD:vJ C D) {f0:Nat→Nat→Bool}
include hC hD
theorem kT {i:Nat} (hi:i < C.length) {done:Nat→Nat→Prop} {H:List ba} {f:Nat→Nat→Bool} (hM:vr H C.length f) {g:Bool} (hP:Pr C D f0 done f g):
 Pd (fun r=>∃ E H' f' g',r=(.exit 6,⟨E,H'⟩)∧vr H' C.length f'∧Pr C D f0 (fun a b=>done a b∨(a=i∧b < i)) f' g'∧E.get 0= .pv (.lit 256 (C.map xi))∧E.get 3= .pv (i64 C.length)∧E.get 4= .own 0 C.length∧E.get 6= .pv (.bool g')∧E.get 7= .pv (i64 i))
  (pb (ma (qa call rf) (na (2 * C.length+1) [0,3,4,6,7,8])) pa ⟨XW (.lit 256 (C.map xi)) C.length i 0 g,H⟩):=by
 have hsz:=hC.sz
 refine ya (Mb (g:=ma (qa call rf) (na (2 * C.length+1) [0,3,4,6,7,8]))
  (fun j t=>∃ H' f' g',t=⟨XW (.lit 256 (C.map xi)) C.length i j g',H'⟩∧vr H' C.length f'∧Pr C D f0 (fun a b=>done a b∨(a=i∧b < j)) f' g')
  i (by unfold pa;omega) _ ⟨H,f,g,rfl,hM,hP.weaken fun a b h=>by rcases h with h | h;exact h;omega⟩ ?_ ?_) (fun r h=>h.2)
 ·rintro j t hj ⟨H',f',g',rfl,hM',hP'⟩
  have hj2:j < C.length:=by omega
  have hin:=VS call hC hi hj2 hM' g'
  have e1:decide ((j:Int) < (i:Int))=true:=Fa (by omega)
  have t2:IntKind.i64.wrap ((j:Int)+1)=((j+1:Nat):Int):=Aa (by omega)
  have tn:((C.length:Int)).toNat=C.length:=by simp
  have hz:(0 < 2 * C.length+1)=True:=by simp
  have hcut:=hM'.cut
  have hlen:=hM'.len
  have hLN:∀ H2 f2 g2,vr H2 C.length f2→yO C i j f' g' f2 g2→
   LN (fun j t=>∃ H' f' g',t=⟨XW (.lit 256 (C.map xi)) C.length i j g',H'⟩∧vr H' C.length f'∧Pr C D f0 (fun a b=>done a b∨(a=i∧b < j)) f' g')
    (fun r=>∃ E H' f' g',r=(.exit 6,⟨E,H'⟩)∧vr H' C.length f'∧Pr C D f0 (fun a b=>done a b∨(a=i∧b < i)) f' g'∧E.get 0= .pv (.lit 256 (C.map xi))∧E.get 3= .pv (i64 C.length)∧E.get 4= .own 0 C.length∧E.get 6= .pv (.bool g')∧E.get 7= .pv (i64 i)) j
    (.norm,⟨XW (.lit 256 (C.map xi)) C.length i (j+1:Nat) g2,H2⟩):=by
   intro H2 f2 g2 h1 h2
   refine⟨H2,f2,g2,rfl,h1,(hP'.step hD hi hj2 h2).weaken ?_⟩
   rintro a b (h | ⟨rfl,h⟩)
   ·exact .inl (.inl h)
   ·rcases Nat.lt_or_ge b j with h3 | h3
    ·exact .inl (.inr ⟨rfl,h3⟩)
    ·exact .inr ⟨rfl,by omega⟩
  generalize LN _ _ j=QQ at hLN ⊢
  generalize (PV.lit 256 (C.map xi))=L at *
  simp -implicitDefEqProofs only[SX,sevalprocAttr,rf,e1,Fb,hlen,hcut,hz,tn,na,za,AV.cut,ua,XW]
  simp only[Sy,tn] at hin
  refine ya hin ?_
  rintro r ⟨E,H2,f2,g2,rfl,hM2,hP2,k0,k3,k4,k6,k7,k8⟩
  have hcut2:=hM2.cut
  have hlen2:=hM2.len
  have hLN':=hLN H2 f2 g2 hM2 hP2
  simp -implicitDefEqProofs only[SX,sevalprocAttr,k0,k3,k4,k6,k7,k8,t2,hlen2,hcut2,hz,na,za,AV.cut,ua]
  simp only[XW,tn] at hLN'
  exact hLN'
 ·rintro t ⟨H',f',g',rfl,hM',hP'⟩
  have e1:decide ((i:Int) < (i:Int))=false:=Ha (by omega)
  have tn:((C.length:Int)).toNat=C.length:=by simp
  have hfin:∀ E,E.get 0= .pv (.lit 256 (C.map xi))→E.get 3= .pv (i64 C.length)→E.get 4= .own 0 C.length→E.get 6= .pv (.bool g')→E.get 7= .pv (i64 i)→
   (Ex.exit 6,(⟨E,H'⟩:St)).1.stop=true∧∃ E' H2 f' g',(Ex.exit 6,(⟨E,H'⟩:St))=(.exit 6,⟨E',H2⟩)∧vr H2 C.length f'∧Pr C D f0 (fun a b=>done a b∨(a=i∧b < i)) f' g'∧E'.get 0= .pv (.lit 256 (C.map xi))∧E'.get 3= .pv (i64 C.length)∧E'.get 4= .own 0 C.length∧E'.get 6= .pv (.bool g')∧E'.get 7= .pv (i64 i):=
   fun E k0 k3 k4 k6 k7=>⟨rfl,E,H',f',g',rfl,hM',hP',k0,k3,k4,k6,k7⟩
  generalize hQ:(fun r:Ex×St=>r.1.stop=true∧_)=Q
  generalize (PV.lit 256 (C.map xi))=L at *
  simp -implicitDefEqProofs only[SX,sevalprocAttr,rf,e1,tn,XW]
  subst hQ
  exact hfin _ (by simp[Tr.aa]) (by simp[Tr.aa]) (by simp[Tr.aa]) (by simp[Tr.aa]) (by simp[Tr.aa])
theorem VR {H:List ba} {f:Nat→Nat→Bool} (hM:vr H C.length f) {g:Bool} (hP:Pr C D f0 (fun _ _=>False) f g):
 Pd (fun r=>∃ E H' f' g',r=(.exit 4,⟨E,H'⟩)∧vr H' C.length f'∧Pr C D f0 (fun a b=>a < C.length∧b < a) f' g'∧E.get 0= .pv (.lit 256 (C.map xi))∧E.get 3= .pv (i64 C.length)∧E.get 4= .own 0 C.length∧E.get 6= .pv (.bool g'))
  (pb (ma (qa call nf) (na (2 * C.length+1) [0,3,4,6,7])) pa ⟨PW (.lit 256 (C.map xi)) C.length 0 g,H⟩):=by
 have hsz:=hC.sz
 refine ya (Mb (g:=ma (qa call nf) (na (2 * C.length+1) [0,3,4,6,7]))
  (fun i t=>∃ H' f' g',t=⟨PW (.lit 256 (C.map xi)) C.length i g',H'⟩∧vr H' C.length f'∧Pr C D f0 (fun a b=>a < i∧b < a) f' g')
  C.length (by unfold pa;omega) _ ⟨H,f,g,rfl,hM,hP.weaken fun a b h=>by omega⟩ ?_ ?_) (fun r h=>h.2)
 ·rintro i t hi ⟨H',f',g',rfl,hM',hP'⟩
  have hin:=kT call hC hD hi hM' hP'
  have e1:decide ((i:Int) < (C.length:Int))=true:=Fa (by omega)
  have t2:IntKind.i64.wrap ((i:Int)+1)=((i+1:Nat):Int):=Aa (by omega)
  have tn:((C.length:Int)).toNat=C.length:=by simp
  have hz:(0 < 2 * C.length+1)=True:=by simp
  have hcut:=hM'.cut
  have hlen:=hM'.len
  have hLN:∀ H2 f2 g2,vr H2 C.length f2→Pr C D f0 (fun a b=>(a < i∧b < a)∨(a=i∧b < i)) f2 g2→
   LN (fun i t=>∃ H' f' g',t=⟨PW (.lit 256 (C.map xi)) C.length i g',H'⟩∧vr H' C.length f'∧Pr C D f0 (fun a b=>a < i∧b < a) f' g')
    (fun r=>∃ E H' f' g',r=(.exit 4,⟨E,H'⟩)∧vr H' C.length f'∧Pr C D f0 (fun a b=>a < C.length∧b < a) f' g'∧E.get 0= .pv (.lit 256 (C.map xi))∧E.get 3= .pv (i64 C.length)∧E.get 4= .own 0 C.length∧E.get 6= .pv (.bool g')) i
    (.norm,⟨PW (.lit 256 (C.map xi)) C.length (i+1:Nat) g2,H2⟩):=by
   intro H2 f2 g2 h1 h2
   refine⟨H2,f2,g2,rfl,h1,h2.weaken ?_⟩
   rintro a b ⟨h3,h4⟩
   rcases Nat.lt_or_ge a i with h5 | h5
   ·exact .inl ⟨h5,h4⟩
   ·exact .inr ⟨by omega,by omega⟩
  generalize LN _ _ i=QQ at hLN ⊢
  generalize (PV.lit 256 (C.map xi))=L at *
  simp -implicitDefEqProofs only[SX,sevalprocAttr,nf,e1,Fb,hlen,hcut,hz,tn,na,za,AV.cut,ua,PW]
  simp only[XW,tn] at hin
  refine ya hin ?_
  rintro r ⟨E,H2,f2,g2,rfl,hM2,hP2,k0,k3,k4,k6,k7⟩
  have hcut2:=hM2.cut
  have hlen2:=hM2.len
  have hLN':=hLN H2 f2 g2 hM2 hP2
  simp -implicitDefEqProofs only[SX,sevalprocAttr,k0,k3,k4,k6,k7,t2,hlen2,hcut2,hz,na,za,AV.cut,ua]
  simp only[PW,tn] at hLN'
  exact hLN'
 ·rintro t ⟨H',f',g',rfl,hM',hP'⟩
  have e1:decide ((C.length:Int) < (C.length:Int))=false:=Ha (by omega)
  have tn:((C.length:Int)).toNat=C.length:=by simp
  have hfin:∀ E,E.get 0= .pv (.lit 256 (C.map xi))→E.get 3= .pv (i64 C.length)→E.get 4= .own 0 C.length→E.get 6= .pv (.bool g')→
   (Ex.exit 4,(⟨E,H'⟩:St)).1.stop=true∧∃ E' H2 f' g',(Ex.exit 4,(⟨E,H'⟩:St))=(.exit 4,⟨E',H2⟩)∧vr H2 C.length f'∧Pr C D f0 (fun a b=>a < C.length∧b < a) f' g'∧E'.get 0= .pv (.lit 256 (C.map xi))∧E'.get 3= .pv (i64 C.length)∧E'.get 4= .own 0 C.length∧E'.get 6= .pv (.bool g'):=
   fun E k0 k3 k4 k6=>⟨rfl,E,H',f',g',rfl,hM',hP',k0,k3,k4,k6⟩
  generalize hQ:(fun r:Ex×St=>r.1.stop=true∧_)=Q
  generalize (PV.lit 256 (C.map xi))=L at *
  simp -implicitDefEqProofs only[SX,sevalprocAttr,nf,e1,tn,PW]
  subst hQ
  exact hfin _ (by simp[Tr.aa]) (by simp[Tr.aa]) (by simp[Tr.aa]) (by simp[Tr.aa])
end
structure Vx (C:List (List Int)) (D:Nat→Nat→Prop) (f:Nat→Nat→Bool) (g:Bool):Prop where
 snd:∀ a b,f a b=true→D a b
 sym:∀ a b,f a b=f b a
 closed:g=false→∀ i j,i < C.length→j < i→f i j=true∨∀ x,x < 256→qk C f i j x=false
theorem OS (call:Ta) {C:List (List Int)} (hC:LI C) {D:Nat→Nat→Prop} (hD:vJ C D) {H:List ba} {f:Nat→Nat→Bool} (hM:vr H C.length f) (hK:Vx C D f true):
 Pd (fun r=>∃ E H' f',r=(.exit 2,⟨E,H'⟩)∧vr H' C.length f'∧Vx C D f' false∧E.get 4= .own 0 C.length)
  (pb (ma (qa call pf) (na (2 * C.length+1) [0,3,4,6])) pa ⟨BU (.lit 256 (C.map xi)) C.length true,H⟩):=by
 have hsz:=hC.sz
 have hfl:∀ f,Cn C.length f≤4096:=fun f=>Nat.le_trans (iQ _ _) (Nat.mul_le_mul hsz hsz)
 refine ya (Up (g:=ma (qa call pf) (na (2 * C.length+1) [0,3,4,6]))
  (fun k t=>∃ H' f' g',t=⟨BU (.lit 256 (C.map xi)) C.length g',H'⟩∧vr H' C.length f'∧Vx C D f' g'∧k=Cn C.length f'+if g' then 1 else 0)
  pa (Cn C.length f+1) _ (by have:=hfl f;unfold pa;omega) ⟨H,f,true,rfl,hM,hK,rfl⟩ ?_) (fun r h=>h.2)
 rintro k t ⟨H',f',g',rfl,hM',hK',hk⟩
 have tn:((C.length:Int)).toNat=C.length:=by simp
 cases g' with
 |false=>
  have hfin:∀ E,E.get 4= .own 0 C.length→
   LQ (fun k t=>∃ H' f' g',t=⟨BU (.lit 256 (C.map xi)) C.length g',H'⟩∧vr H' C.length f'∧Vx C D f' g'∧k=Cn C.length f'+if g' then 1 else 0)
    (fun r=>∃ E H' f',r=(.exit 2,⟨E,H'⟩)∧vr H' C.length f'∧Vx C D f' false∧E.get 4= .own 0 C.length) k (.exit 2,⟨E,H'⟩):=fun E k4=>⟨E,H',f',rfl,hM',hK',k4⟩
  generalize LQ _ _ k=QQ at hfin ⊢
  generalize (PV.lit 256 (C.map xi))=L at *
  simp -implicitDefEqProofs only[SX,sevalprocAttr,pf,tn,BU]
  exact hfin _ (by simp[Tr.aa])
 |true=>
  have hP0:Pr C D f' (fun _ _=>False) f' false:=⟨hK'.snd,hK'.sym,fun _=>⟨rfl,fun _ _ h=>h.elim⟩,Nat.le_refl _,fun h=>by cases h⟩
  have hin:=VR call hC hD hM' hP0
  have hz:(0 < 2 * C.length+1)=True:=by simp
  have hcut:=hM'.cut
  have hlen:=hM'.len
  have hLN:∀ H2 f2 g2,vr H2 C.length f2→Pr C D f' (fun a b=>a < C.length∧b < a) f2 g2→
   LQ (fun k t=>∃ H' f' g',t=⟨BU (.lit 256 (C.map xi)) C.length g',H'⟩∧vr H' C.length f'∧Vx C D f' g'∧k=Cn C.length f'+if g' then 1 else 0)
    (fun r=>∃ E H' f',r=(.exit 2,⟨E,H'⟩)∧vr H' C.length f'∧Vx C D f' false∧E.get 4= .own 0 C.length) k (.norm,⟨BU (.lit 256 (C.map xi)) C.length g2,H2⟩):=by
   intro H2 f2 g2 h1 h2
   refine⟨Cn C.length f2+if g2 then 1 else 0,?_,H2,f2,g2,rfl,h1,⟨h2.snd,h2.sym,fun hg i j hi hj=>(h2.ue hg).2 i j ⟨hi,hj⟩⟩,rfl⟩
   rw[hk]
   cases g2 with
   |false=>have:=h2.le;simp;omega
   |true=>have:=h2.lt rfl;simp;omega
  generalize LQ _ _ k=QQ at hLN ⊢
  generalize (PV.lit 256 (C.map xi))=L at *
  simp -implicitDefEqProofs only[SX,sevalprocAttr,pf,Fb,hlen,hcut,hz,tn,na,za,AV.cut,ua,BU]
  simp only[PW,tn] at hin
  refine ya hin ?_
  rintro r ⟨E,H2,f2,g2,rfl,hM2,hP2,k0,k3,k4,k6⟩
  have hcut2:=hM2.cut
  have hlen2:=hM2.len
  have hLN':=hLN H2 f2 g2 hM2 hP2
  simp -implicitDefEqProofs only[SX,sevalprocAttr,k0,k3,k4,k6,hlen2,hcut2,hz,na,za,AV.cut,ua]
  simp only[BU,tn] at hLN'
  exact hLN'
end Go.AM.B1
namespace Go.AM.B1
open Go.AM Go.AM.So
theorem KD:∀ {C:List (List Int)},(∀ r∈C,r.length=256)→∀ {k:Nat},(hk:k < C.length)→Va C.flatten k=C[k]
 | [],_,k,hk=>by simp at hk
 |r::C,h,0,hk=>by
  have hr:=h r (by simp)
  show ((r++C.flatten).drop (0 * 256)).take 256=r
  rw[Nat.zero_mul,List.drop_zero,List.take_append_of_le_length (by omega),List.take_of_length_le (by omega)]
 |r::C,h,k+1,hk=>by
  have hr:=h r (by simp)
  have ih:=KD (C:=C) (fun r' hr'=>h r' (by simp[hr'])) (k:=k) (by simpa using hk)
  show ((r++C.flatten).drop ((k+1) * 256)).take 256=C[k]'(by simpa using hk)
  rw[show (k+1) * 256=r.length+k * 256 by omega,List.drop_append,List.drop_of_length_le (by omega),List.nil_append,Nat.add_sub_cancel_left]
  exact ih
theorem Ls:∀ {C:List (List Int)},(∀ r∈C,r.length=256)→C.flatten.length=C.length * 256
 | [],_=>rfl
 |r::C,h=>by
  rw[List.flatten_cons,List.length_append,h r (by simp),Ls fun r' hr'=>h r' (by simp[hr']),List.length_cons];omega
section
variable {ss:List qc} {sets:List Al} {C:List (List Int)} (W:Tk ss sets C) (hl:C.length=sets.length)
include W hl
theorem Tk.at {k x:Nat} (hk:k < C.length) (hx:x < 256):∃ a,sets[k]? =some a∧xy ss sets a x (Dg C k x):=by
 have h1:sets[k]? =some (sets[k]'(by omega)):=List.getElem?_eq_getElem (by omega)
 exact⟨_,h1,W.step k _ hk h1 x hx⟩
theorem Tk.bound {k x:Nat} (hk:k < C.length) (hx:x < 256): -2≤Dg C k x∧Dg C k x < C.length:=by
 obtain⟨a,ha,h⟩:=W.at hl hk hx
 rcases h with⟨_,h⟩ | ⟨_,_,h⟩ | ⟨_,_,k',m,h,_,h2⟩
 ·omega
 ·omega
 ·have:=(List.getElem?_eq_some_iff.1 h2).1
  omega
omit hl in
theorem Tk.val {r:List Int} (hr:r∈C) {v:Int} (hv:v∈r):∃ k x,k < C.length∧x < 256∧v=Dg C k x:=by
 obtain⟨k,hk,rfl⟩:=List.getElem_of_mem hr
 obtain⟨x,hx,rfl⟩:=List.getElem_of_mem hv
 have h256:=W.row _ (List.getElem_mem hk)
 refine⟨k,x,hk,by omega,?_⟩
 unfold Dg
 have:C.getD k []=C[k]:=by rw[List.getD_eq_getElem?_getD,List.getElem?_eq_getElem hk];rfl
 rw[this,List.getD_eq_getElem?_getD,List.getElem?_eq_getElem hx];rfl
theorem Tk.Xe:LI C:=by
 refine⟨W.row,?_,by have:=W.ok.1;omega⟩
 intro r hr v hv
 obtain⟨k,x,hk,hx,rfl⟩:=W.val hr hv
 exact (W.bound hl hk hx).2
theorem Tk.ge:∀ r∈C,∀ v∈r,-2≤v:=by
 intro r hr v hv
 obtain⟨k,x,hk,hx,rfl⟩:=W.val hr hv
 exact (W.bound hl hk hx).1
theorem Tk.OA {k x:Nat} (hk:k < C.length) (hx:x < 256) (h:0≤Dg C k x):(k:Int) < Dg C k x:=by
 obtain⟨a,ha,hs⟩:=W.at hl hk hx
 rcases hs with⟨_,h2⟩ | ⟨_,_,h2⟩ | ⟨_,_,k',m,h2,_,h3⟩
 ·omega
 ·omega
 ·rw[h2]
  rcases Nat.lt_or_ge k k' with h4 | h4
  ·omega
  ·have:=W.up k' k _ _ h4 h3 ha
   simp only at this;omega
theorem Tk.later:uO C.length C.flatten:=by
 intro j hj to hto h0
 rw[KD W.row hj] at hto
 obtain⟨x,hx,rfl⟩:=List.getElem_of_mem hto
 have h256:=W.row _ (List.getElem_mem hj)
 have hn:C[j][x]=Dg C j x:=by
  unfold Dg
  have:C.getD j []=C[j]:=by rw[List.getD_eq_getElem?_getD,List.getElem?_eq_getElem hj];rfl
  rw[this,List.getD_eq_getElem?_getD,List.getElem?_eq_getElem hx];rfl
 rw[hn] at h0 ⊢
 exact⟨W.OA hl hj (by omega) h0,(W.bound hl hj (by omega)).2⟩
end
def cls (C:List (List Int)) (j:Nat):Int:=(Te C.length C.flatten).Dc.getD j 0
def Wp (C:List (List Int)) (j x:Nat):Int:=if 0≤Dg C j x then cls C (Dg C j x).toNat else Dg C j x
section
variable {ss:List qc} {sets:List Al} {C:List (List Int)} (W:Tk ss sets C) (hl:C.length=sets.length)
include W hl
theorem Tk.fy:Cy C.length C.flatten 0 (Te C.length C.flatten):=wQ (W.later hl) (Ls W.row)
theorem Tk.AP {j x:Nat} (hj:j < C.length) (hx:x < 256):(Va (Te C.length C.flatten).C j).getD x 0=Wp C j x:=by
 have h:=(W.fy hl).hi j (by omega) hj
 have hg:=(W.Xe hl).get hj hx
 rw[h,KD W.row hj,List.getD_eq_getElem?_getD,List.getElem?_map,hg.1]
 show Zp _ (Dg C j x)=Wp C j x
 unfold Zp Wp cls
 rfl
theorem Tk.Zz {j:Nat} (hj:j < C.length):(Va (Te C.length C.flatten).C j).length=256:=Lh (W.fy hl).hC hj
theorem Tk.cI {i j:Nat} (hi:i < C.length) (hj:j < C.length):cls C i=cls C j↔∀ x,x < 256→Wp C i x=Wp C j x:=by
 unfold cls
 rw[(W.fy hl).ZI hi hj]
 constructor
 ·intro h x hx
  rw[← W.AP hl hi hx,←W.AP hl hj hx,h]
 ·intro h
  apply List.ext_getElem?
  intro x
  by_cases hx:x < 256
  ·have h1:=W.Zz hl hi
   have h2:=W.Zz hl hj
   have h3:=h x hx
   rw[← W.AP hl hi hx,←W.AP hl hj hx,List.getD_eq_getElem?_getD,List.getD_eq_getElem?_getD,List.getElem?_eq_getElem (by omega),List.getElem?_eq_getElem (by omega)] at h3
   rw[List.getElem?_eq_getElem (by omega),List.getElem?_eq_getElem (by omega)]
   exact congrArg some h3
  ·rw[List.getElem?_eq_none (by rw[W.Zz hl hi];omega),List.getElem?_eq_none (by rw[W.Zz hl hj];omega)]
theorem Tk.kY:vJ C fun i j=>cls C i≠cls C j:=by
 refine⟨fun a b h=>h.symm,?_⟩
 intro i j x f hi hj hx hs ht he
 have h:=(W.cI hl hi hj).1 he x hx
 unfold Wp at h
 unfold qk at ht
 generalize Dg C i x=a at *
 generalize Dg C j x=b at *
 rw[Bool.or_eq_true,Bool.and_eq_true,Bool.and_eq_true,Bool.and_eq_true,Bool.or_eq_true] at ht
 simp only[decide_eq_true_eq,bne_iff_ne,ne_eq] at ht
 rcases ht with⟨h1,h2⟩ | ⟨⟨h1,h2⟩,h3⟩
 ·by_cases ha:0≤a
  ·by_cases hb:0≤b
   ·omega
   ·rw[if_pos ha,if_neg hb] at h
    have:0≤cls C a.toNat∨C.length≤a.toNat:=by
     rcases Nat.lt_or_ge a.toNat C.length with h4 | h4
     ·exact .inl ((W.fy hl).uo h4).1
     ·exact .inr h4
    rcases this with h5 | h5
    ·omega
    ·have:cls C a.toNat=0:=by
      unfold cls
      rw[List.getD_eq_getElem?_getD,List.getElem?_eq_none (by rw[(W.fy hl).hk];exact h5)];rfl
     omega
  ·by_cases hb:0≤b
   ·rw[if_neg ha,if_pos hb] at h
    have:0≤cls C b.toNat:=by
     rcases Nat.lt_or_ge b.toNat C.length with h4 | h4
     ·exact ((W.fy hl).uo h4).1
     ·have:cls C b.toNat=0:=by
       unfold cls
       rw[List.getD_eq_getElem?_getD,List.getElem?_eq_none (by rw[(W.fy hl).hk];exact h4)];rfl
      omega
    omega
   ·rw[if_neg ha,if_neg hb] at h;exact h1 h
 ·rw[if_pos h1,if_pos h2] at h
  exact hs _ _ h3 h
theorem Tk.known {f:Nat→Nat→Bool} (hK:Vx C (fun i j=>cls C i≠cls C j) f false):∀ i j,i < C.length→j < C.length→(f i j=false↔cls C i=cls C j):=by
 have key:∀ (m i j:Nat),(C.length - i)+(C.length - j)≤m→i < C.length→j < C.length→f i j=false→cls C i=cls C j:=by
  intro m
  induction m with
  |zero=>intro i j h hi hj;omega
  |succ m ih=>
   intro i j hm hi hj hf
   by_cases hij:i=j
   ·rw[hij]
   have hcl:∀ x,x < 256→qk C f i j x=false:=by
    have hsw:∀ x,qk C f j i x=qk C f i j x:=by
     intro x
     unfold qk
     rw[hK.sym,bne_comm,Bool.or_comm (decide (Dg C j x < 0)),Bool.and_comm (decide (Dg C j x≥0))]
    rcases Nat.lt_or_gt_of_ne hij with h1 | h1
    ·rcases hK.closed rfl j i hj h1 with h2 | h2
     ·rw[hK.sym,hf] at h2;cases h2
     ·intro x hx;rw[← hsw];exact h2 x hx
    ·rcases hK.closed rfl i j hi h1 with h2 | h2
     ·rw[hf] at h2;cases h2
     ·exact h2
   rw[W.cI hl hi hj]
   intro x hx
   have ht:=hcl x hx
   have di:=W.OA hl hi hx
   have dj:=W.OA hl hj hx
   have bi:=(W.bound hl hi hx).2
   have bj:=(W.bound hl hj hx).2
   unfold Wp
   unfold qk at ht
   generalize Dg C i x=a at *
   generalize Dg C j x=b at *
   simp only[Bool.or_eq_false_iff,Bool.and_eq_false_iff,bne_eq_false_iff_eq,decide_eq_false_iff_not] at ht
   by_cases hab:a=b
   ·rw[hab]
   ·have h1:¬a < 0∧¬b < 0:=by
     rcases ht.1 with h | h
     ·exact absurd h hab
     ·exact h
    have h2:f a.toNat b.toNat=false:=by
     rcases ht.2 with (h | h) | h
     ·omega
     ·omega
     ·exact h
    rw[if_pos (by omega),if_pos (by omega)]
    have:=di (by omega)
    have:=dj (by omega)
    exact ih a.toNat b.toNat (by omega) (by omega) (by omega) h2
 intro i j hi hj
 refine⟨key _ i j (Nat.le_refl _) hi hj,fun h=> ?_⟩
 cases hf:f i j with
 |false=>rfl
 |true=>exact absurd h (hK.snd i j hf)
end
end Go.AM.B1
namespace Go.AM.B1
open Go.AM Go.AM.So
def Tz (s:qc) (w:List Nat):Prop:=∀ j x,w[j]? =some x→Tp s j x=true
def Full (s:qc) (w:List Nat):Prop:=Tz s w∧w.length=s.parts.length
def Bytes (w:List Nat):Prop:=∀ x∈w,x < 256
theorem gS {s:qc} {j x:Nat} (h:Tp s j x=true):j < s.parts.length:=by
 unfold Tp at h
 cases hp:s.parts[j]? with
 |none=>rw[hp] at h;cases h
 |some l=>exact (List.getElem?_eq_some_iff.1 hp).1
theorem UJ {s:qc} {w:List Nat} (h:Tz s w):w.length≤s.parts.length:=by
 rcases Nat.eq_zero_or_pos w.length with h0 | h0
 ·omega
 ·have:=gS (h (w.length - 1) _ (List.getElem?_eq_getElem (by omega)))
  omega
theorem bT (s:qc):Tz s []:=by intro j x h;simp at h
theorem tQ {s:qc} {w:List Nat} {x:Nat}:Tz s (w++[x])↔Tz s w∧Tp s w.length x=true:=by
 constructor
 ·intro h
  refine⟨fun j y hj=>h j y ?_,h w.length x (by simp)⟩
  rw[List.getElem?_append_left (List.getElem?_eq_some_iff.1 hj).1];exact hj
 ·rintro⟨h1,h2⟩ j y hj
  rcases Nat.lt_or_ge j w.length with h | h
  ·rw[List.getElem?_append_left h] at hj;exact h1 j y hj
  ·rw[List.getElem?_append_right h] at hj
   cases hq:j - w.length with
   |succ n=>rw[hq] at hj;simp at hj
   |zero=>
    rw[hq] at hj
    simp at hj
    have:j=w.length:=by omega
    subst this;subst hj;exact h2
theorem WK {s:qc} {w u:List Nat} (h:Tz s (w++u)):Tz s w:=by
 intro j y hj
 refine h j y ?_
 rw[List.getElem?_append_left (List.getElem?_eq_some_iff.1 hj).1];exact hj
theorem YS {p q:qc} (op:Ie p) (oq:Ie q) (hlt:p.parts.length≤q.parts.length) {w:List Nat} (hw:Bytes w) (hp:Full p w) (hq:Tz q w):cf p q=true:=by
 have key:∀ (m i:Nat),i+m=p.parts.length→(fc p.parts q.parts m i).isSome=true:=by
  intro m
  induction m with
  |zero=>intro i _;rfl
  |succ m ih=>
   intro i hi
   have h1:i < p.parts.length:=by omega
   have h2:i < q.parts.length:=by omega
   have hwi:i < w.length:=by rw[hp.2];exact h1
   have hne:Vo p.parts q.parts i≠[]:=by
    rw[ry h1 h2 (op.parts _ (List.getElem_mem h1)).2 (oq.parts _ (List.getElem_mem h2)).2]
    have k1:=hp.1 i w[i] (List.getElem?_eq_getElem hwi)
    have k2:=hq i w[i] (List.getElem?_eq_getElem hwi)
    unfold Tp at k1 k2
    rw[List.getElem?_eq_getElem h1] at k1
    rw[List.getElem?_eq_getElem h2] at k2
    exact⟨w[i],hw _ (List.getElem_mem hwi),k1,k2⟩
   rw[fc]
   cases hm:Vo p.parts q.parts i with
   |nil=>exact absurd hm hne
   |cons a r=>
    have:=ih (i+1) (by omega)
    simp only[Option.isSome_map]
    exact this
 exact key _ 0 (by omega)
theorem RX {ss:List qc} (Ba:Fc ss) (hpre:bh ss) {p q:qc} (hp:p∈ss) (hq:q∈ss) {w:List Nat} (hw:Bytes w) (h1:Full p w) (h2:Tz q w):¬p.parts.length < q.parts.length:=by
 intro hlt
 obtain⟨i,hi,rfl⟩:=List.getElem_of_mem hp
 obtain⟨j,hj,rfl⟩:=List.getElem_of_mem hq
 have:=hpre i j hi hj hlt
 rw[YS (Ba.gu _ hp) (Ba.gu _ hq) (Nat.le_of_lt hlt) hw h1 h2] at this
 cases this
def runT (C:List (List Int)):Int→List Nat→Int
 |k,[]=>k
 |k,x::w=>if k < 0 then -2 else runT C (Dg C k.toNat x) w
theorem cU {C:List (List Int)} {u:List Nat}:runT C (-2) u= -2:=by cases u <;> rfl
theorem GD (C:List (List Int)):∀ (w u:List Nat) (k:Int),runT C k (w++u)=runT C (runT C k w) u
 | [],u,k=>rfl
 |x::w,u,k=>by
  rw[List.cons_append,runT,runT]
  split
  ·rw[cU]
  ·exact GD C w u _
theorem MG (C:List (List Int)) (w:List Nat) (x:Nat) (k:Int):runT C k (w++[x])=if runT C k w < 0 then -2 else Dg C (runT C k w).toNat x:=by
 rw[GD,runT]
 rfl
def AH (ss:List qc) (a:Al) (w:List Nat):Prop:=a.1=w.length∧∀ i,a.2.toNat.testBit i=true↔∃ s,ss[i]? =some s∧Tz s w
theorem AH.on {ss:List qc} {a:Al} {w:List Nat} (h:AH ss a w) (x i:Nat):ql ss a x i=true↔∃ s,ss[i]? =some s∧Tz s (w++[x]):=by
 unfold ql
 rw[Bool.and_eq_true,h.2]
 cases hs:ss[i]? with
 |none=>simp
 |some s=>
  simp only[Option.some.injEq,exists_eq_left',h.1]
  rw[tQ]
theorem AH.end {ss:List qc} {a:Al} {w:List Nat} (h:AH ss a w) (x i:Nat):Mp ss a x i=true↔∃ s,ss[i]? =some s∧Full s (w++[x]):=by
 unfold Mp
 rw[Bool.and_eq_true,h.on]
 cases hs:ss[i]? with
 |none=>simp
 |some s=>
  simp only[Option.some.injEq,exists_eq_left',h.1,beq_iff_eq]
  unfold Full
  rw[List.length_append,List.length_singleton]
  constructor
  ·rintro⟨h1,h2⟩;exact⟨h1,by omega⟩
  ·rintro⟨h1,h2⟩;exact⟨h1,by omega⟩
theorem AH.QW {ss:List qc} {a:Al} {w:List Nat} (h:AH ss a w) (x:Nat):Zf (ql ss a x) ss.length=true↔∃ s∈ss,Tz s (w++[x]):=by
 rw[Qt]
 constructor
 ·rintro⟨j,_,h1⟩
  obtain⟨s,h2,h3⟩:=(h.on x j).1 h1
  exact⟨s,List.mem_of_getElem? h2,h3⟩
 ·rintro⟨s,h1,h2⟩
  obtain⟨j,hj,rfl⟩:=List.getElem_of_mem h1
  exact⟨j,hj,(h.on x j).2 ⟨_,List.getElem?_eq_getElem hj,h2⟩⟩
theorem AH.PR {ss:List qc} {a:Al} {w:List Nat} (h:AH ss a w) (x:Nat):Zf (Mp ss a x) ss.length=true↔∃ s∈ss,Full s (w++[x]):=by
 rw[Qt]
 constructor
 ·rintro⟨j,_,h1⟩
  obtain⟨s,h2,h3⟩:=(h.end x j).1 h1
  exact⟨s,List.mem_of_getElem? h2,h3⟩
 ·rintro⟨s,h1,h2⟩
  obtain⟨j,hj,rfl⟩:=List.getElem_of_mem h1
  exact⟨j,hj,(h.end x j).2 ⟨_,List.getElem?_eq_getElem hj,h2⟩⟩
theorem CK {n:Nat} (h:n≤32) (i:Nat):(iq n).toNat.testBit i=decide (i < n):=by
 rw[gD h,Int.toNat_natCast,Nat.testBit_two_pow_sub_one]
def vY (ss:List qc) (sets:List Al) (w:List Nat) (v:Int):Prop:=
 (v= -1∧∃ s∈ss,Full s w)∨
 (0≤v∧(∃ a,sets[v.toNat]? =some a∧AH ss a w)∧(w=[]∨∃ s∈ss,Tz s w∧w.length < s.parts.length)∧∀ s∈ss,¬Full s w)∨
 (v= -2∧w≠[]∧∀ s∈ss,¬Tz s w)
section
variable {ss:List qc} {sets:List Al} {C:List (List Int)} (Ba:Fc ss) (hpre:bh ss) (W:Tk ss sets C) (hl:C.length=sets.length)
include Ba hpre W hl
theorem SC:∀ (m:Nat) (w:List Nat),w.length=m→Bytes w→vY ss sets w (runT C 0 w)
 |0,w,hm,_=>by
  have:w=[]:=List.eq_nil_of_length_eq_zero hm
  subst this
  refine .inr (.inl ⟨Int.le_refl _,⟨_,W.first,rfl,fun i=> ?_⟩,.inl rfl,?_⟩)
  ·rw[CK Ba.len i,decide_eq_true_iff]
   constructor
   ·intro h;exact⟨ss[i],List.getElem?_eq_getElem h,bT _⟩
   ·rintro⟨s,h,_⟩;exact (List.getElem?_eq_some_iff.1 h).1
  ·intro s hs hf
   have:=(Ba.gu s hs).lo
   have:=hf.2
   simp at this;omega
 |m+1,w,hm,hb=>by
  obtain⟨u,x,rfl⟩:∃ u x,w=u++[x]:=by
   rcases List.eq_nil_or_concat w with rfl | ⟨u,x,rfl⟩
   ·simp at hm
   ·exact⟨u,x,List.concat_eq_append⟩
  have hum:u.length=m:=by simpa using hm
  have hbu:Bytes u:=fun y hy=>hb y (by simp[hy])
  have hx:x < 256:=hb x (by simp)
  have ih:=SC m u hum hbu
  rw[MG]
  have hne:u++[x]≠[]:=by simp
  have hlen:(u++[x]).length=u.length+1:=by simp
  rcases ih with⟨hv,s,hs,hf⟩ | ⟨hv,⟨a,ha,hd⟩,h1,h2⟩ | ⟨hv,_,h1⟩
  ·rw[hv,if_pos (by decide)]
   refine .inr (.inr ⟨rfl,hne,fun q hq hmq=> ?_⟩)
   have h1:=WK hmq
   have h2:=UJ hmq
   exact RX Ba hpre hs hq hbu hf h1 (by rw[← hf.2];omega)
  ·rw[if_neg (by omega)]
   have hk:=(List.getElem?_eq_some_iff.1 ha).1
   rcases W.step _ a (by omega) ha x hx with⟨q1,q2⟩ | ⟨q1,q2,q3⟩ | ⟨q1,q2,k',m',q3,q4,q5⟩
   ·rw[q2]
    refine .inr (.inr ⟨rfl,hne,fun s hs hms=> ?_⟩)
    rw[(hd.QW x).2 ⟨s,hs,hms⟩] at q1;cases q1
   ·rw[q3]
    exact .inl ⟨rfl,(hd.PR x).1 q2⟩
   ·rw[q3]
    have hnf:∀ s∈ss,¬Full s (u++[x]):=fun s hs hf=>by rw[(hd.PR x).2 ⟨s,hs,hf⟩] at q2;cases q2
    refine .inr (.inl ⟨Int.natCast_nonneg _,⟨_,by rw[Int.toNat_natCast];exact q5,?_,?_⟩,?_,hnf⟩)
    ·rw[hlen,←hd.1]
    ·intro i
     show (m':Int).toNat.testBit i=true↔_
     rw[Int.toNat_natCast,q4.bit,hd.on]
    ·obtain⟨s,hs,hms⟩:=(hd.QW x).1 q1
     refine .inr ⟨s,hs,hms,?_⟩
     have:=UJ hms
     have:=hnf s hs
     rcases Nat.lt_or_ge (u++[x]).length s.parts.length with h | h
     ·exact h
     ·exact absurd ⟨hms,by omega⟩ this
  ·rw[hv,if_pos (by decide)]
   exact .inr (.inr ⟨rfl,hne,fun s hs hms=>h1 s hs (WK hms)⟩)
end
end Go.AM.B1
namespace Go.AM.B1
open Go.AM Go.AM.So
end Go.AM.B1
namespace Go.AM.B1
open Go.AM Go.AM.So
def UL:Int→List (Int×Int)→Option Int
 |_,[]=>none
 |k,p::r=>if k≤p.2 - p.1 then some (p.1+k) else UL (k - (p.2 - p.1+1)) r
theorem Ts {top:Int}:∀ {l:List (Int×Int)} {last k:Int},Na top last l=true→0≤k→k < oc 0 l→∃ x,UL k l=some x∧0≤x∧x≤top∧last+1 < x∧∀ n,kg x n l=(n+k,true)
 | [],last,k,_,h0,h1=>by simp[oc] at h1;omega
 |p::l,last,k,hv,h0,h1=>by
  obtain⟨v1,v2,v3,v4,v5⟩:=Vd hv
  rw[oc,oA] at h1
  rw[UL]
  by_cases c:k≤p.2 - p.1
  ·rw[if_pos c]
   refine⟨_,rfl,by omega,by omega,by omega,fun n=> ?_⟩
   rw[kg,if_neg (by omega),if_pos (by omega)]
   congr 1;omega
  ·rw[if_neg c]
   obtain⟨x,q1,q2,q3,q4,q5⟩:=Ts (k:=k - (p.2 - p.1+1)) v5 (by omega) (by omega)
   refine⟨x,q1,q2,q3,by omega,fun n=> ?_⟩
   rw[kg,if_neg (by omega),if_neg (by omega),q5]
   congr 1;omega
theorem xC {e:PV} {s:qc} {P:PV} {ps:List PV} (h:zf e s P ps) (Ba:Ie s):On [e]=some (i64 (La s.parts)):=by
 obtain⟨b1,hb1,hb1'⟩:=Hl h
 have:=hb1'.2 Ba
 subst this
 have hst:=fG h Ba
 have hP1:=h.cw.1
 have heq:=h.eq
 subst heq
 have i0:∀ H,wa H 1 (.pv (.lit 1 ((Vj s.parts).map i64))) 0=some (.pv (.rp [i64 (La s.parts)] 0)):=fun H=>by
  have:(Vj s.parts).map i64=i64 (La s.parts)::((Vj s.parts).map i64).tail:=by
   simp only[Vj,List.range_succ_eq_map,List.map_cons,List.drop_zero,List.tail_cons]
  rw[this]
  simp only[wa]
  rw[if_pos (by unfold Ga;simp)];rfl
 simp -implicitDefEqProofs only[On,SX,sevalprocAttr,-List.reduceReplicate,Fs,hP1,Uc,hb1,hst,i0,Sa]
def Of:List (List (Int×Int))→Int→List Int
 | [],_=>[]
 |l::r,k=>(UL (k.tdiv (La r)) l).getD 0::Of r (k.tmod (La r))
theorem vH {k p q:Int} (h0:0≤k) (hp:1≤p) (h1:k < p * q):0≤k.tdiv p∧k.tdiv p < q∧0≤k.tmod p∧k.tmod p < p∧k.tdiv p * p+k.tmod p=k:=by
 rw[Int.tdiv_eq_ediv_of_nonneg h0,Int.tmod_eq_emod_of_nonneg h0]
 refine⟨Int.ediv_nonneg h0 (by omega),Int.ediv_lt_of_lt_mul (by omega) (by rw[Int.mul_comm];exact h1),Int.emod_nonneg _ (by omega),Int.emod_lt_of_pos _ (by omega),?_⟩
 rw[Int.mul_comm];exact Int.mul_ediv_add_emod k p
theorem Wl:∀ (ls:List (List (Int×Int))) (k n:Int),(∀ l∈ls,Bd l)→0≤k→k < La ls→cq ls (Of ls k) n=some (n+k)∧(Of ls k).length=ls.length∧∀ x∈Of ls k,0≤x∧x≤255
 | [],k,n,_,h0,h1=>by
   have:k=0:=by rw[La] at h1;omega
   subst this
   exact⟨by rw[xD,Int.add_zero],rfl,by simp[Of]⟩
 |l::r,k,n,hp,h0,h1=>by
  have hpr:=Vf (ls:=r) fun x hx=>hp x (by simp[hx])
  rw[La] at h1
  obtain⟨d1,d2,d3,d4,d5⟩:=vH h0 hpr h1
  obtain⟨x,q1,q2,q3,_,q5⟩:=Ts (hp l (by simp)).2 d1 d2
  obtain⟨i1,i2,i3⟩:=Wl r (k.tmod (La r)) (n+k.tdiv (La r) * La r) (fun x hx=>hp x (by simp[hx])) d3 d4
  rw[Of,q1,Option.getD_some,cq,q5,if_pos rfl]
  simp only[Int.zero_add]
  rw[i1]
  refine⟨by congr 1;omega,by simp[i2],?_⟩
  intro y hy
  rcases List.mem_cons.1 hy with rfl | hy
  ·exact⟨q2,q3⟩
  ·exact i3 y hy
end Go.AM.B1
namespace Go.AM.B1
open Go.AM Go.AM.So
def Tv (u:Int):List qc→Option (List Int)
 | []=>none
 |s::r=>if s.first≤u∧u < s.first+La s.parts then some (Of s.parts (u - s.first)) else Tv u r
theorem Uy {u:Int}:∀ {ss:List qc} {b:List Int},(∀ s∈ss,Ie s)→Tv u ss=some b→∃ s∈ss,s.first≤u∧u < s.first+La s.parts∧b=Of s.parts (u - s.first)∧cA s b=some (u - s.first)∧(∀ x∈b,0≤x∧x≤255)∧b≠[]
 |s::r,b,h,he=>by
  rw[Tv] at he
  split at he
  ·next hc=>
   injection he with he;subst he
   have hs:=h s (by simp)
   obtain⟨h1,h2,h3⟩:=Wl s.parts (u - s.first) 0 hs.parts (by omega) (by omega)
   refine⟨s,by simp,hc.1,hc.2,rfl,?_,h3,?_⟩
   ·unfold cA;rw[if_pos h2,h1,Int.zero_add]
   ·intro h4;rw[h4] at h2;have:=hs.lo;simp at h2;omega
  ·obtain⟨s',h1,h2⟩:=Uy (fun x hx=>h x (by simp[hx])) he
   exact⟨s',by simp[h1],h2⟩
end Go.AM.B1
namespace Go.AM.B1
open Go.AM Go.AM.So
def cellsOf (n:Nat) (g:Nat→AV):List AV:=(List.range n).map g
theorem Ag (n:Nat) (g:Nat→AV):(cellsOf n g).length=n:=by simp[cellsOf]
theorem sr {n i:Nat} (g:Nat→AV) (h:i < n):(cellsOf n g)[i]? =some (g i):=by simp[cellsOf,h]
def Mv (g:Nat→AV) (i:Nat) (v:AV):Nat→AV:=fun j=>if j=i then v else g j
theorem Bt (g:Nat→AV) (i:Nat) (v:AV):Mv g i v i=v:=if_pos rfl
theorem jv (g:Nat→AV) {i j:Nat} (v:AV) (h:j≠i):Mv g i v j=g j:=if_neg h
theorem BB {n i:Nat} (g:Nat→AV) (v:AV):(cellsOf n g).set i v=cellsOf n (Mv g i v):=by
 apply List.ext_getElem?
 intro j
 by_cases hj:j < n
 ·rw[sr _ hj]
  by_cases h:i=j
  ·subst h;rw[List.getElem?_set_self (by rw[Ag];exact hj),Bt]
  ·rw[List.getElem?_set_ne h,sr _ hj,jv _ _ (Ne.symm h)]
 ·rw[List.getElem?_eq_none (by rw[List.length_set,Ag];omega),List.getElem?_eq_none (by rw[Ag];omega)]
theorem wD {H:List ba} {id m n off sz:Nat} {ag:Bool} {g:Nat→AV} {fl:Nat} {nl:Bool} (hg:H[id]? =some (.seq sz ag (cellsOf n g) fl nl)) (hm:m=n) (ho:off < n):
 ta H false 1 (.Mc id m off)=some (g off):=by
 subst hm
 simp only[ta,hg,Ag,if_true,Og,Bool.false_eq_true,if_false,sr g ho]
theorem Wt {H:List ba} {id m n off sz d:Nat} {ag:Bool} {g:Nat→AV} {fl:Nat} {nl:Bool} (hg:H[id]? =some (.seq sz ag (cellsOf n g) fl nl)) (hm:m=n):
 place H d (.Mc id m off)=some (.Mc id m (off+d)):=by
 subst hm
 simp only[place,hg,Ag,if_true]
theorem tA {H:List ba} {id m n off sz:Nat} {ag:Bool} {g:Nat→AV} {fl:Nat} {nl:Bool} (hg:H[id]? =some (.seq sz ag (cellsOf n g) fl nl)) (hm:m=n) (ho:off < n) {v:AV} (hv:v.cells=[v]) (h1:v.one=true):
 Ea H 1 (.Mc id m off) v=some (H.set id (.seq sz ag (cellsOf n (Mv g off v)) n nl)):=by
 subst hm
 simp only[Ea,hv,List.length_cons,List.length_nil,List.all_cons,h1,List.all_nil,Bool.and_true,and_self,if_true,hg,Ag]
 rw[if_pos ⟨trivial,by omega⟩]
 simp only[ga,BB]
def Bk:List (Int×Int)→List Int
 | []=>[]
 |p::l=>Qf 0 p++Bk l
theorem zU (l:List (Int×Int)):l.flatMap (Qf 0)=Bk l:=by
 induction l with
 |nil=>rfl
 |cons p l ih=>rw[List.flatMap_cons,ih];rfl
theorem lJ {p:Int×Int} (h0:0≤p.1) (h1:p.1≤p.2):Qf 0 p=(List.range (p.2 - p.1+1).toNat).map fun (i:Nat)=>p.1+(i:Int):=by
 unfold Qf
 rw[if_neg (by omega),show max p.1 0=p.1 from by omega]
end Go.AM.B1
namespace Go.AM.B1
open Go.AM
end Go.AM.B1
namespace Go.AM.B1
open Go.AM
end Go.AM.B1
namespace Go.AM.B1
open Go.AM
abbrev u8 (n:Int):PV:= .int .u8 n
structure Bn (A:PV) (l:List (List Af)):Prop where
 held:∃ es,Vh 1 A es∧es.length=l.length∧∀ (i:Nat) v e,es[i]? =some v→l[i]? =some e→Vh 3 v (e.map AF)
 len:l.length * 24≤140737488355328
 lens:∀ e∈l,e.length * 24≤140737488355328
def rh (b:Int):List Af→Option Int
 | []=>none
 |e::r=>if e.lo≤b∧b≤e.hi then some e.to else rh b r
def EB (l:List (List Af)) (st b:Int):Int×Bool:=
 if st < 0 then (0,false) else match l[st.toNat]? with
  |some e=>match rh b e with
   |some t=>(t,true)
   |none=>(0,false)
  |none=>(0,false)
section
variable (b:Int) (hb:0≤b∧b≤255)
include hb
variable (V:PV) (l:List Af) (hV:Vh 3 V (l.map AF)) (hw:l.length≤maxLen)
include hV hw
end
theorem Bn.get {A:PV} {l:List (List Af)} (h:Bn A l) {i:Nat} (hi:i < l.length):∃ es V,A= .lit 1 es∧es.length=l.length∧es[i]? =some V∧Vh 3 V (l[i].map AF):=by
 obtain⟨es,h1,h2,h3⟩:=h.held
 have hie:i < es.length:=by omega
 refine⟨es,es[i],h1.lit hie,h2,by simp[hie],h3 i _ _ (by simp[hie]) (by simp[hi])⟩
theorem Bn.Tb {A:PV} {l:List (List Af)} (h:Bn A l) (H:List ba):Tb H 0 (.pv A)=some l.length:=by
 obtain⟨es,h1,h2,h3⟩:=h.held
 rw[h1.len,h2]
section
variable (A:PV) (l:List (List Af)) (hA:Bn A l) (st b:Int) (hb:0≤b∧b≤255)
include hA hb
end
section
variable (call:Ta) (es:List PV) (st b:Int) (hb:0≤b∧b≤255) (e:List Af) (V:PV) (h0:0≤st∧st < es.length) (hV:es[st.toNat]? =some V) (hVL:Vh 3 V (e.map AF)) (hw:e.length≤maxLen)
include h0 hV hVL
include hb hw
end
section
variable (A:PV) (l:List (List Af)) (hA:Bn A l) (st b:Int) (hb:0≤b∧b≤255)
include hA hb
end
end Go.AM.B1
namespace Go.AM.B1
open Go.AM
theorem Au (b:Int):∀ (l m:List Af),rh b (l++m)=(rh b l).or (rh b m)
 | [],m=>by simp[rh]
 |e::l,m=>by
  rw[List.cons_append,rh,rh]
  split
  ·rfl
  ·exact Au b l m
theorem Xq {b:Int}:∀ {l:List Af},(∀ e∈l,e.hi < b)→rh b l=none
 | [],_=>rfl
 |e::l,h=>by
  have:=h e (by simp)
  rw[rh,if_neg (by omega)]
  exact Xq fun x hx=>h x (by simp[hx])
theorem UC {b:Int}:∀ {l:List Af},l.Pairwise (fun a c=>a.hi < c.lo)→∀ e∈l,e.lo≤b→b≤e.hi→rh b l=some e.to
 |a::l,h,e,he,h1,h2=>by
  rw[List.pairwise_cons] at h
  rw[rh]
  rcases List.mem_cons.1 he with rfl | he
  ·rw[if_pos ⟨h1,h2⟩]
  ·have:=h.1 e he
   rw[if_neg (by omega)]
   exact UC h.2 e he h1 h2
theorem YB {b t:Int}:∀ {l:List Af},rh b l=some t→∃ e∈l,e.lo≤b∧b≤e.hi∧e.to=t
 |e::l,h=>by
  rw[rh] at h
  split at h
  ·next hc=>exact⟨e,by simp,hc.1,hc.2,Option.some.inj h⟩
  ·obtain⟨x,hx,h1⟩:=YB h
   exact⟨x,by simp[hx],h1⟩
structure EK (row:List Int) (n:Nat) (l:List Af):Prop where
 JI:∀ e∈l,0≤e.lo∧e.lo≤e.hi∧e.hi < n∧e.to≠ -2
 ord:l.Pairwise (fun a b=>a.hi < b.lo)
 tight:∀ (k:Nat) a b,l[k]? =some a→l[k+1]? =some b→b.lo=a.hi+1→b.to≠a.to
 step:∀ x:Nat,x < n→rh x l=if row.getD x 0= -2 then none else some (row.getD x 0)
theorem WG {l:List Af} {e:Af} (h:l.getLast? =some e):∃ m,l=m++[e]:=by
 have hne:l≠[]:=by rintro rfl;simp at h
 rw[List.getLast?_eq_some_getLast hne] at h
 exact⟨l.dropLast,by rw[← Option.some.inj h];exact (List.dropLast_concat_getLast hne).symm⟩
theorem SI {α:Type} {m:List α} {e a b:α} {k:Nat} (h1:(m++[e])[k]? =some a) (h2:(m++[e])[k+1]? =some b):m[k]? =some a∧((m[k+1]? =some b)∨(k+1=m.length∧b=e)):=by
 have hk:k+1 < (m++[e]).length:=(List.getElem?_eq_some_iff.1 h2).1
 simp at hk
 rw[List.getElem?_append_left (by omega)] at h1
 refine⟨h1,?_⟩
 rcases Nat.lt_or_ge (k+1) m.length with h | h
 ·rw[List.getElem?_append_left h] at h2;exact .inl h2
 ·have:k+1=m.length:=by omega
  rw[List.getElem?_append_right h,this] at h2
  simp at h2
  exact .inr ⟨this,h2.symm⟩
theorem EK.push {row:List Int} {n:Nat} {l:List Af} (h:EK row n l) {to:Int} (ht:row.getD n 0=to) (h2:to≠ -2) (hl:∀ e,l.getLast? =some e→¬(e.to=to∧e.hi=(n:Int) - 1)):EK row (n+1) (l++[⟨n,n,to⟩]):=by
 refine⟨?_,?_,?_,?_⟩
 ·intro e he
  rcases List.mem_append.1 he with he | he
  ·have:=h.JI e he;exact⟨this.1,this.2.1,by omega,this.2.2.2⟩
  ·simp at he;subst he;simp;exact⟨by omega,h2⟩
 ·rw[List.pairwise_append]
  refine⟨h.ord,by simp,?_⟩
  intro a ha b hb
  simp at hb;subst hb
  have:=h.JI a ha;simp;omega
 ·intro k a b h1 h3 h4
  obtain⟨h5,h6 | ⟨h6,rfl⟩⟩:=SI h1 h3
  ·exact h.tight k a b h5 h6 h4
  ·have hla:l.getLast? =some a:=by rw[List.getLast?_eq_getElem?,←h5];congr 1;omega
   intro h7
   simp only at h4 h7
   exact hl a hla ⟨h7.symm,by omega⟩
 ·intro x hx
  rw[Au]
  rcases Nat.lt_or_ge x n with hxn | hxn
  ·rw[h.step x hxn]
   split
   ·simp only[Option.none_or,rh];rw[if_neg (by omega)]
   ·rfl
  ·have:x=n:=by omega
   subst this
   rw[Xq fun e he=>by have:=h.JI e he;omega,Option.none_or,rh,if_pos (by simp),ht,if_neg h2]
theorem EK.next {row:List Int} {n:Nat} {l:List Af} (h:EK row n l):EK row (n+1) (Wf n (row.getD n 0) l):=by
 obtain⟨to,ht⟩:∃ to,row.getD n 0=to:=⟨_,rfl⟩
 rw[ht]
 unfold Wf
 by_cases h2:to= -2
 ·rw[if_pos h2]
  refine⟨fun e he=>by have:=h.JI e he;exact⟨this.1,this.2.1,by omega,this.2.2.2⟩,h.ord,h.tight,?_⟩
  intro x hx
  rcases Nat.lt_or_ge x n with hxn | hxn
  ·exact h.step x hxn
  ·have:x=n:=by omega
   subst this
   rw[Xq fun e he=>by have:=h.JI e he;omega,ht,if_pos h2]
 ·rw[if_neg h2]
  cases hl:l.getLast? with
  |none=>exact h.push ht h2 fun e he=>by rw[hl] at he;cases he
  |some e=>
   by_cases hc:e.to=to∧e.hi=(n:Int) - 1
   ·simp only[hc,and_self,if_true]
    obtain⟨m,rfl⟩:=WG hl
    rw[List.dropLast_concat]
    have hr:=h.JI e (by simp)
    have ho:=List.pairwise_append.1 h.ord
    have hlt:∀ a∈m,a.hi < e.lo:=fun a ha=>ho.2.2 a ha e (by simp)
    refine⟨?_,?_,?_,?_⟩
    ·intro x hx
     rcases List.mem_append.1 hx with hx | hx
     ·have:=h.JI x (by simp[hx]);exact⟨this.1,this.2.1,by omega,this.2.2.2⟩
     ·simp at hx;subst hx;simp only;exact⟨hr.1,by omega,by omega,h2⟩
    ·rw[List.pairwise_append]
     refine⟨ho.1,by simp,?_⟩
     intro a ha b hb
     simp at hb;subst hb
     exact hlt a ha
    ·intro k a b h1 h3 h4
     obtain⟨h5,h6 | ⟨h6,rfl⟩⟩:=SI h1 h3
     ·have hk1:=(List.getElem?_eq_some_iff.1 h6).1
      exact h.tight k a b (by rw[List.getElem?_append_left (by omega)];exact h5) (by rw[List.getElem?_append_left hk1];exact h6) h4
     ·have:=h.tight k a e (by rw[List.getElem?_append_left (by omega)];exact h5) (by rw[List.getElem?_append_right (by omega),h6];simp) h4
      rw[hc.1] at this;exact this
    ·intro x hx
     rw[Au]
     rcases Nat.lt_or_ge x n with hxn | hxn
     ·rw[← h.step x hxn,Au]
      congr 1
      simp only[rh,hc.1]
      by_cases h3:e.lo≤(x:Int)
      ·rw[if_pos ⟨h3,by omega⟩,if_pos ⟨h3,by omega⟩]
      ·rw[if_neg fun q=>h3 q.1,if_neg fun q=>h3 q.1]
     ·have:x=n:=by omega
      subst this
      rw[Xq fun a ha=>by have:=hlt a ha;omega,Option.none_or,rh]
      simp only
      rw[if_pos ⟨by omega,Int.le_refl _⟩,ht,if_neg h2]
   ·simp only[hc,if_false]
    exact h.push ht h2 fun e' he'=>by rw[hl] at he';injection he' with he';subst he';exact hc
theorem Ew (row:List Int):∀ (xs ys:List Nat) (l:List Af),Be row (xs++ys) l=Be row ys (Be row xs l)
 | [],ys,l=>rfl
 |x::xs,ys,l=>by rw[List.cons_append,Be,Be,Ew row xs]
theorem NG (row:List Int):∀ n:Nat,EK row n (Be row (List.range n) [])
 |0=>⟨by simp[Be],by simp[Be],by simp[Be],by omega⟩
 |n+1=>by
  rw[List.range_succ,Ew]
  exact (NG row n).next
theorem xA (row:List Int):EK row 256 (Xf row):=NG row 256
def VA (m:Int) (l:List Af):Int:=l.foldl (fun m e=>if e.to=m then m+1 else m) m
theorem oB (m:Int) (l:List Af) (e:Af):VA m (l++[e])=if e.to=VA m l then VA m l+1 else VA m l:=by
 unfold VA;rw[List.foldl_append];rfl
def Xx:Int→List Af→Prop
 |_,[]=>True
 |m,e::l=>e.to≤m∧Xx (if e.to=m then m+1 else m) l
theorem Lu:∀ {m:Int} {l:List Af} {e:Af},Xx m (l++[e])↔Xx m l∧e.to≤VA m l
 |m,[],e=>by simp[Xx,VA]
 |m,a::l,e=>by
  show (a.to≤m∧Xx _ (l++[e]))↔_
  rw[Lu];exact and_assoc.symm
theorem pG {row:List Int} {g:Nat→Int} (h0:∀ x,0≤g x):∀ n:Nat,(∀ x,x < n→row.getD x 0≤g x)→(∀ x,x < n→g (x+1)=if row.getD x 0=g x then g x+1 else g x)→
 VA (g 0) (Be row (List.range n) [])=g n∧Xx (g 0) (Be row (List.range n) [])∧(∀ e∈Be row (List.range n) [],e.to < g n)
 |0,_,_=>⟨rfl,trivial,by simp[Be]⟩
 |n+1,h1,h2=>by
  obtain⟨i1,i2,i3⟩:=pG h0 n (fun x hx=>h1 x (by omega)) (fun x hx=>h2 x (by omega))
  have hn:=h1 n (by omega)
  have hg:=h2 n (by omega)
  rw[List.range_succ,Ew]
  generalize Be row (List.range n) []=l at *
  show VA (g 0) (Wf n (row.getD n 0) l)=_∧Xx (g 0) (Wf n (row.getD n 0) l)∧∀ e∈Wf n (row.getD n 0) l,_
  generalize row.getD n 0=to at *
  have hpush:VA (g 0) (l++[⟨n,n,to⟩])=g (n+1)∧Xx (g 0) (l++[⟨n,n,to⟩])∧(∀ e∈l++[⟨n,n,to⟩],e.to < g (n+1)):=by
   refine⟨by rw[oB,i1,hg],Lu.2 ⟨i2,by rw[i1];exact hn⟩,?_⟩
   intro e he
   rcases List.mem_append.1 he with he | he
   ·have:=i3 e he;rw[hg];split <;> omega
   ·simp at he;subst he;simp only;rw[hg];split <;> omega
  unfold Wf
  by_cases h3:to= -2
  ·have:=h0 n
   rw[if_pos h3,hg,if_neg (by omega)]
   exact⟨i1,i2,i3⟩
  ·rw[if_neg h3]
   cases hl:l.getLast? with
   |none=>exact hpush
   |some e=>
    simp only
    split
    ·next hc=>
     obtain⟨m,rfl⟩:=WG hl
     have h4:=i3 e (by simp)
     rw[List.dropLast_concat,hg,if_neg (by omega)]
     rw[oB] at i1
     rw[Lu] at i2
     refine⟨by rw[oB];exact i1,Lu.2 i2,?_⟩
     intro x hx
     rcases List.mem_append.1 hx with hx | hx
     ·exact i3 x (by simp[hx])
     ·simp at hx;subst hx;exact h4
    ·exact hpush
end Go.AM.B1
