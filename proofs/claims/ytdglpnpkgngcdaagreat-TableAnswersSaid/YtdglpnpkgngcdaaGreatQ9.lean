/- What functions of the program compute. -/
import Derived.Test.YtdglpnpkgngcdaaGreatQ8
import Derived.Test.YtdglpnpkgngcdaaGreatQ7
import Derived.Test.YtdglpnpkgngcdaaGreatQ6
import Derived.Test.YtdglpnpkgngcdaaGreatQ2
import Derived.Test.YtdglpnpkgngcdaaGreatQ3
import Derived.Test.YtdglpnpkgngcdaaGreatQ5
set_option linter.unusedVariables false
set_option linter.unusedSimpArgs false
namespace Go.AM.B1
open Go.AM Go.AM.So
attribute [local irreducible] Td
abbrev xW (v:PV) (n i j:Int) (g:Bool):Tr:=(((((Tr.lf.set 8 (.pv (i64 j))).set 7 (.pv (i64 i))).set 6 (.pv (.bool g))).set 4 (.own 0 n.toNat)).set 3 (.pv (i64 n))).set 0 (.pv v)
abbrev BW (v:PV) (n i:Int) (g:Bool):Tr:=((((Tr.lf.set 7 (.pv (i64 i))).set 6 (.pv (.bool g))).set 4 (.own 0 n.toNat)).set 3 (.pv (i64 n))).set 0 (.pv v)
abbrev zV (v:PV) (n:Int) (g:Bool):Tr:=(((Tr.lf.set 6 (.pv (.bool g))).set 4 (.own 0 n.toNat)).set 3 (.pv (i64 n))).set 0 (.pv v)
section
variable (call:Za) {C:List (List Int)} (hC:GI C) {D:Nat→Nat→Prop} (hD:FK C D) {f0:Nat→Nat→Bool}
include hC hD
theorem pS {i:Nat} (hi:i < C.length) {done:Nat→Nat→Prop} {H:List ba} {f:Nat→Nat→Bool} (hM:sr H C.length f) {g:Bool} (hP:Yr C D f0 done f g):
 Td (fun r=>∃ E H' f' g',r=(.exit 6,⟨E,H'⟩)∧sr H' C.length f'∧Yr C D f0 (fun a b=>done a b∨(a=i∧b < i)) f' g'∧E.get 0= .pv (.lit 256 (C.map yi))∧E.get 3= .pv (i64 C.length)∧E.get 4= .own 0 C.length∧E.get 6= .pv (.bool g')∧E.get 7= .pv (i64 i))
  (gb (fa (ta call Xe) (ga (2 * C.length+1) [0,3,4,6,7,8])) oa ⟨xW (.lit 256 (C.map yi)) C.length i 0 g,H⟩):=by
 have hsz:=hC.sz
 refine xa (Nb (g:=fa (ta call Xe) (ga (2 * C.length+1) [0,3,4,6,7,8]))
  (fun j t=>∃ H' f' g',t=⟨xW (.lit 256 (C.map yi)) C.length i j g',H'⟩∧sr H' C.length f'∧Yr C D f0 (fun a b=>done a b∨(a=i∧b < j)) f' g')
  i (by unfold oa;omega) _ ⟨H,f,g,rfl,hM,hP.weaken fun a b h=>by rcases h with h | h;exact h;omega⟩ ?_ ?_) (fun r h=>h.2)
 ·rintro j t hj ⟨H',f',g',rfl,hM',hP'⟩
  have hj2:j < C.length:=by omega
  have hin:=fU call hC hi hj2 hM' g'
  have e1:decide ((j:Int) < (i:Int))=true:=Da (by omega)
  have t2:IntKind.i64.wrap ((j:Int)+1)=((j+1:Nat):Int):=Ba (by omega)
  have tn:((C.length:Int)).toNat=C.length:=by simp
  have hz:(0 < 2 * C.length+1)=True:=by simp
  have hcut:=hM'.cut
  have hlen:=hM'.len
  have hLN:∀ H2 f2 g2,sr H2 C.length f2→qN C i j f' g' f2 g2→
   LN (fun j t=>∃ H' f' g',t=⟨xW (.lit 256 (C.map yi)) C.length i j g',H'⟩∧sr H' C.length f'∧Yr C D f0 (fun a b=>done a b∨(a=i∧b < j)) f' g')
    (fun r=>∃ E H' f' g',r=(.exit 6,⟨E,H'⟩)∧sr H' C.length f'∧Yr C D f0 (fun a b=>done a b∨(a=i∧b < i)) f' g'∧E.get 0= .pv (.lit 256 (C.map yi))∧E.get 3= .pv (i64 C.length)∧E.get 4= .own 0 C.length∧E.get 6= .pv (.bool g')∧E.get 7= .pv (i64 i)) j
    (.norm,⟨xW (.lit 256 (C.map yi)) C.length i (j+1:Nat) g2,H2⟩):=by
   intro H2 f2 g2 h1 h2
   refine⟨H2,f2,g2,rfl,h1,(hP'.step hD hi hj2 h2).weaken ?_⟩
   rintro a b (h | ⟨rfl,h⟩)
   ·exact .inl (.inl h)
   ·rcases Nat.lt_or_ge b j with h3 | h3
    ·exact .inl (.inr ⟨rfl,h3⟩)
    ·exact .inr ⟨rfl,by omega⟩
  generalize LN _ _ j=QQ at hLN ⊢
  generalize (PV.lit 256 (C.map yi))=L at *
  simp -implicitDefEqProofs only[SX,sevalprocAttr,Xe,e1,xb,hlen,hcut,hz,tn,ga,za,AV.cut,wa,xW]
  simp only[Qy,tn] at hin
  refine xa hin ?_
  rintro r ⟨E,H2,f2,g2,rfl,hM2,hP2,k0,k3,k4,k6,k7,k8⟩
  have hcut2:=hM2.cut
  have hlen2:=hM2.len
  have hLN':=hLN H2 f2 g2 hM2 hP2
  simp -implicitDefEqProofs only[SX,sevalprocAttr,k0,k3,k4,k6,k7,k8,t2,hlen2,hcut2,hz,ga,za,AV.cut,wa]
  simp only[xW,tn] at hLN'
  exact hLN'
 ·rintro t ⟨H',f',g',rfl,hM',hP'⟩
  have e1:decide ((i:Int) < (i:Int))=false:=Ha (by omega)
  have tn:((C.length:Int)).toNat=C.length:=by simp
  have hfin:∀ E,E.get 0= .pv (.lit 256 (C.map yi))→E.get 3= .pv (i64 C.length)→E.get 4= .own 0 C.length→E.get 6= .pv (.bool g')→E.get 7= .pv (i64 i)→
   (Ex.exit 6,(⟨E,H'⟩:St)).1.stop=true∧∃ E' H2 f' g',(Ex.exit 6,(⟨E,H'⟩:St))=(.exit 6,⟨E',H2⟩)∧sr H2 C.length f'∧Yr C D f0 (fun a b=>done a b∨(a=i∧b < i)) f' g'∧E'.get 0= .pv (.lit 256 (C.map yi))∧E'.get 3= .pv (i64 C.length)∧E'.get 4= .own 0 C.length∧E'.get 6= .pv (.bool g')∧E'.get 7= .pv (i64 i):=
   fun E k0 k3 k4 k6 k7=>⟨rfl,E,H',f',g',rfl,hM',hP',k0,k3,k4,k6,k7⟩
  generalize hQ:(fun r:Ex×St=>r.1.stop=true∧_)=Q
  generalize (PV.lit 256 (C.map yi))=L at *
  simp -implicitDefEqProofs only[SX,sevalprocAttr,Xe,e1,tn,xW]
  subst hQ
  exact hfin _ (by simp[Tr.aa]) (by simp[Tr.aa]) (by simp[Tr.aa]) (by simp[Tr.aa]) (by simp[Tr.aa])
theorem uR {H:List ba} {f:Nat→Nat→Bool} (hM:sr H C.length f) {g:Bool} (hP:Yr C D f0 (fun _ _=>False) f g):
 Td (fun r=>∃ E H' f' g',r=(.exit 4,⟨E,H'⟩)∧sr H' C.length f'∧Yr C D f0 (fun a b=>a < C.length∧b < a) f' g'∧E.get 0= .pv (.lit 256 (C.map yi))∧E.get 3= .pv (i64 C.length)∧E.get 4= .own 0 C.length∧E.get 6= .pv (.bool g'))
  (gb (fa (ta call bf) (ga (2 * C.length+1) [0,3,4,6,7])) oa ⟨BW (.lit 256 (C.map yi)) C.length 0 g,H⟩):=by
 have hsz:=hC.sz
 refine xa (Nb (g:=fa (ta call bf) (ga (2 * C.length+1) [0,3,4,6,7]))
  (fun i t=>∃ H' f' g',t=⟨BW (.lit 256 (C.map yi)) C.length i g',H'⟩∧sr H' C.length f'∧Yr C D f0 (fun a b=>a < i∧b < a) f' g')
  C.length (by unfold oa;omega) _ ⟨H,f,g,rfl,hM,hP.weaken fun a b h=>by omega⟩ ?_ ?_) (fun r h=>h.2)
 ·rintro i t hi ⟨H',f',g',rfl,hM',hP'⟩
  have hin:=pS call hC hD hi hM' hP'
  have e1:decide ((i:Int) < (C.length:Int))=true:=Da (by omega)
  have t2:IntKind.i64.wrap ((i:Int)+1)=((i+1:Nat):Int):=Ba (by omega)
  have tn:((C.length:Int)).toNat=C.length:=by simp
  have hz:(0 < 2 * C.length+1)=True:=by simp
  have hcut:=hM'.cut
  have hlen:=hM'.len
  have hLN:∀ H2 f2 g2,sr H2 C.length f2→Yr C D f0 (fun a b=>(a < i∧b < a)∨(a=i∧b < i)) f2 g2→
   LN (fun i t=>∃ H' f' g',t=⟨BW (.lit 256 (C.map yi)) C.length i g',H'⟩∧sr H' C.length f'∧Yr C D f0 (fun a b=>a < i∧b < a) f' g')
    (fun r=>∃ E H' f' g',r=(.exit 4,⟨E,H'⟩)∧sr H' C.length f'∧Yr C D f0 (fun a b=>a < C.length∧b < a) f' g'∧E.get 0= .pv (.lit 256 (C.map yi))∧E.get 3= .pv (i64 C.length)∧E.get 4= .own 0 C.length∧E.get 6= .pv (.bool g')) i
    (.norm,⟨BW (.lit 256 (C.map yi)) C.length (i+1:Nat) g2,H2⟩):=by
   intro H2 f2 g2 h1 h2
   refine⟨H2,f2,g2,rfl,h1,h2.weaken ?_⟩
   rintro a b ⟨h3,h4⟩
   rcases Nat.lt_or_ge a i with h5 | h5
   ·exact .inl ⟨h5,h4⟩
   ·exact .inr ⟨by omega,by omega⟩
  generalize LN _ _ i=QQ at hLN ⊢
  generalize (PV.lit 256 (C.map yi))=L at *
  simp -implicitDefEqProofs only[SX,sevalprocAttr,bf,e1,xb,hlen,hcut,hz,tn,ga,za,AV.cut,wa,BW]
  simp only[xW,tn] at hin
  refine xa hin ?_
  rintro r ⟨E,H2,f2,g2,rfl,hM2,hP2,k0,k3,k4,k6,k7⟩
  have hcut2:=hM2.cut
  have hlen2:=hM2.len
  have hLN':=hLN H2 f2 g2 hM2 hP2
  simp -implicitDefEqProofs only[SX,sevalprocAttr,k0,k3,k4,k6,k7,t2,hlen2,hcut2,hz,ga,za,AV.cut,wa]
  simp only[BW,tn] at hLN'
  exact hLN'
 ·rintro t ⟨H',f',g',rfl,hM',hP'⟩
  have e1:decide ((C.length:Int) < (C.length:Int))=false:=Ha (by omega)
  have tn:((C.length:Int)).toNat=C.length:=by simp
  have hfin:∀ E,E.get 0= .pv (.lit 256 (C.map yi))→E.get 3= .pv (i64 C.length)→E.get 4= .own 0 C.length→E.get 6= .pv (.bool g')→
   (Ex.exit 4,(⟨E,H'⟩:St)).1.stop=true∧∃ E' H2 f' g',(Ex.exit 4,(⟨E,H'⟩:St))=(.exit 4,⟨E',H2⟩)∧sr H2 C.length f'∧Yr C D f0 (fun a b=>a < C.length∧b < a) f' g'∧E'.get 0= .pv (.lit 256 (C.map yi))∧E'.get 3= .pv (i64 C.length)∧E'.get 4= .own 0 C.length∧E'.get 6= .pv (.bool g'):=
   fun E k0 k3 k4 k6=>⟨rfl,E,H',f',g',rfl,hM',hP',k0,k3,k4,k6⟩
  generalize hQ:(fun r:Ex×St=>r.1.stop=true∧_)=Q
  generalize (PV.lit 256 (C.map yi))=L at *
  simp -implicitDefEqProofs only[SX,sevalprocAttr,bf,e1,tn,BW]
  subst hQ
  exact hfin _ (by simp[Tr.aa]) (by simp[Tr.aa]) (by simp[Tr.aa]) (by simp[Tr.aa])
end
structure Vx (C:List (List Int)) (D:Nat→Nat→Prop) (f:Nat→Nat→Bool) (g:Bool):Prop where
 snd:∀ a b,f a b=true→D a b
 sym:∀ a b,f a b=f b a
 closed:g=false→∀ i j,i < C.length→j < i→f i j=true∨∀ x,x < 256→Ck C f i j x=false
theorem QT (call:Za) {C:List (List Int)} (hC:GI C) {D:Nat→Nat→Prop} (hD:FK C D) {H:List ba} {f:Nat→Nat→Bool} (hM:sr H C.length f) (hK:Vx C D f true):
 Td (fun r=>∃ E H' f',r=(.exit 2,⟨E,H'⟩)∧sr H' C.length f'∧Vx C D f' false∧E.get 4= .own 0 C.length)
  (gb (fa (ta call cf) (ga (2 * C.length+1) [0,3,4,6])) oa ⟨zV (.lit 256 (C.map yi)) C.length true,H⟩):=by
 have hsz:=hC.sz
 have hfl:∀ f,Bn C.length f≤4096:=fun f=>Nat.le_trans (dR _ _) (Nat.mul_le_mul hsz hsz)
 refine xa (Iq (g:=fa (ta call cf) (ga (2 * C.length+1) [0,3,4,6]))
  (fun k t=>∃ H' f' g',t=⟨zV (.lit 256 (C.map yi)) C.length g',H'⟩∧sr H' C.length f'∧Vx C D f' g'∧k=Bn C.length f'+if g' then 1 else 0)
  oa (Bn C.length f+1) _ (by have:=hfl f;unfold oa;omega) ⟨H,f,true,rfl,hM,hK,rfl⟩ ?_) (fun r h=>h.2)
 rintro k t ⟨H',f',g',rfl,hM',hK',hk⟩
 have tn:((C.length:Int)).toNat=C.length:=by simp
 cases g' with
 |false=>
  have hfin:∀ E,E.get 4= .own 0 C.length→
   LQ (fun k t=>∃ H' f' g',t=⟨zV (.lit 256 (C.map yi)) C.length g',H'⟩∧sr H' C.length f'∧Vx C D f' g'∧k=Bn C.length f'+if g' then 1 else 0)
    (fun r=>∃ E H' f',r=(.exit 2,⟨E,H'⟩)∧sr H' C.length f'∧Vx C D f' false∧E.get 4= .own 0 C.length) k (.exit 2,⟨E,H'⟩):=fun E k4=>⟨E,H',f',rfl,hM',hK',k4⟩
  generalize LQ _ _ k=QQ at hfin ⊢
  generalize (PV.lit 256 (C.map yi))=L at *
  simp -implicitDefEqProofs only[SX,sevalprocAttr,cf,tn,zV]
  exact hfin _ (by simp[Tr.aa])
 |true=>
  have hP0:Yr C D f' (fun _ _=>False) f' false:=⟨hK'.snd,hK'.sym,fun _=>⟨rfl,fun _ _ h=>h.elim⟩,Nat.le_refl _,fun h=>by cases h⟩
  have hin:=uR call hC hD hM' hP0
  have hz:(0 < 2 * C.length+1)=True:=by simp
  have hcut:=hM'.cut
  have hlen:=hM'.len
  have hLN:∀ H2 f2 g2,sr H2 C.length f2→Yr C D f' (fun a b=>a < C.length∧b < a) f2 g2→
   LQ (fun k t=>∃ H' f' g',t=⟨zV (.lit 256 (C.map yi)) C.length g',H'⟩∧sr H' C.length f'∧Vx C D f' g'∧k=Bn C.length f'+if g' then 1 else 0)
    (fun r=>∃ E H' f',r=(.exit 2,⟨E,H'⟩)∧sr H' C.length f'∧Vx C D f' false∧E.get 4= .own 0 C.length) k (.norm,⟨zV (.lit 256 (C.map yi)) C.length g2,H2⟩):=by
   intro H2 f2 g2 h1 h2
   refine⟨Bn C.length f2+if g2 then 1 else 0,?_,H2,f2,g2,rfl,h1,⟨h2.snd,h2.sym,fun hg i j hi hj=>(h2.Be hg).2 i j ⟨hi,hj⟩⟩,rfl⟩
   rw[hk]
   cases g2 with
   |false=>have:=h2.le;simp;omega
   |true=>have:=h2.lt rfl;simp;omega
  generalize LQ _ _ k=QQ at hLN ⊢
  generalize (PV.lit 256 (C.map yi))=L at *
  simp -implicitDefEqProofs only[SX,sevalprocAttr,cf,xb,hlen,hcut,hz,tn,ga,za,AV.cut,wa,zV]
  simp only[BW,tn] at hin
  refine xa hin ?_
  rintro r ⟨E,H2,f2,g2,rfl,hM2,hP2,k0,k3,k4,k6⟩
  have hcut2:=hM2.cut
  have hlen2:=hM2.len
  have hLN':=hLN H2 f2 g2 hM2 hP2
  simp -implicitDefEqProofs only[SX,sevalprocAttr,k0,k3,k4,k6,hlen2,hcut2,hz,ga,za,AV.cut,wa]
  simp only[zV,tn] at hLN'
  exact hLN'
end Go.AM.B1
namespace Go.AM.B1
open Go.AM Go.AM.So
theorem SD:∀ {C:List (List Int)},(∀ r∈C,r.length=256)→∀ {k:Nat},(hk:k < C.length)→Wa C.flatten k=C[k]
 | [],_,k,hk=>by simp at hk
 |r::C,h,0,hk=>by
  have hr:=h r (by simp)
  show ((r++C.flatten).drop (0 * 256)).take 256=r
  rw[Nat.zero_mul,List.drop_zero,List.take_append_of_le_length (by omega),List.take_of_length_le (by omega)]
 |r::C,h,k+1,hk=>by
  have hr:=h r (by simp)
  have ih:=SD (C:=C) (fun r' hr'=>h r' (by simp[hr'])) (k:=k) (by simpa using hk)
  show ((r++C.flatten).drop ((k+1) * 256)).take 256=C[k]'(by simpa using hk)
  rw[show (k+1) * 256=r.length+k * 256 by omega,List.drop_append,List.drop_of_length_le (by omega),List.nil_append,Nat.add_sub_cancel_left]
  exact ih
theorem Pt:∀ {C:List (List Int)},(∀ r∈C,r.length=256)→C.flatten.length=C.length * 256
 | [],_=>rfl
 |r::C,h=>by
  rw[List.flatten_cons,List.length_append,h r (by simp),Pt fun r' hr'=>h r' (by simp[hr']),List.length_cons];omega
section
variable {ss:List dc} {sets:List Al} {C:List (List Int)} (W:yl ss sets C) (hl:C.length=sets.length)
include W hl
theorem yl.at {k x:Nat} (hk:k < C.length) (hx:x < 256):∃ a,sets[k]? =some a∧My ss sets a x (Dg C k x):=by
 have h1:sets[k]? =some (sets[k]'(by omega)):=List.getElem?_eq_getElem (by omega)
 exact⟨_,h1,W.step k _ hk h1 x hx⟩
theorem yl.bound {k x:Nat} (hk:k < C.length) (hx:x < 256): -2≤Dg C k x∧Dg C k x < C.length:=by
 obtain⟨a,ha,h⟩:=W.at hl hk hx
 rcases h with⟨_,h⟩ | ⟨_,_,h⟩ | ⟨_,_,k',m,h,_,h2⟩
 ·omega
 ·omega
 ·have:=(List.getElem?_eq_some_iff.1 h2).1
  omega
omit hl in
theorem yl.val {r:List Int} (hr:r∈C) {v:Int} (hv:v∈r):∃ k x,k < C.length∧x < 256∧v=Dg C k x:=by
 obtain⟨k,hk,rfl⟩:=List.getElem_of_mem hr
 obtain⟨x,hx,rfl⟩:=List.getElem_of_mem hv
 have h256:=W.row _ (List.getElem_mem hk)
 refine⟨k,x,hk,by omega,?_⟩
 unfold Dg
 have:C.getD k []=C[k]:=by rw[List.getD_eq_getElem?_getD,List.getElem?_eq_getElem hk];rfl
 rw[this,List.getD_eq_getElem?_getD,List.getElem?_eq_getElem hx];rfl
theorem yl.ae:GI C:=by
 refine⟨W.row,?_,by have:=W.ok.1;omega⟩
 intro r hr v hv
 obtain⟨k,x,hk,hx,rfl⟩:=W.val hr hv
 exact (W.bound hl hk hx).2
theorem yl.ge:∀ r∈C,∀ v∈r,-2≤v:=by
 intro r hr v hv
 obtain⟨k,x,hk,hx,rfl⟩:=W.val hr hv
 exact (W.bound hl hk hx).1
theorem yl.TA {k x:Nat} (hk:k < C.length) (hx:x < 256) (h:0≤Dg C k x):(k:Int) < Dg C k x:=by
 obtain⟨a,ha,hs⟩:=W.at hl hk hx
 rcases hs with⟨_,h2⟩ | ⟨_,_,h2⟩ | ⟨_,_,k',m,h2,_,h3⟩
 ·omega
 ·omega
 ·rw[h2]
  rcases Nat.lt_or_ge k k' with h4 | h4
  ·omega
  ·have:=W.up k' k _ _ h4 h3 ha
   simp only at this;omega
theorem yl.later:rO C.length C.flatten:=by
 intro j hj to hto h0
 rw[SD W.row hj] at hto
 obtain⟨x,hx,rfl⟩:=List.getElem_of_mem hto
 have h256:=W.row _ (List.getElem_mem hj)
 have hn:C[j][x]=Dg C j x:=by
  unfold Dg
  have:C.getD j []=C[j]:=by rw[List.getD_eq_getElem?_getD,List.getElem?_eq_getElem hj];rfl
  rw[this,List.getD_eq_getElem?_getD,List.getElem?_eq_getElem hx];rfl
 rw[hn] at h0 ⊢
 exact⟨W.TA hl hj (by omega) h0,(W.bound hl hj (by omega)).2⟩
end
def cls (C:List (List Int)) (j:Nat):Int:=(Ie C.length C.flatten).yc.getD j 0
def aq (C:List (List Int)) (j x:Nat):Int:=if 0≤Dg C j x then cls C (Dg C j x).toNat else Dg C j x
section
variable {ss:List dc} {sets:List Al} {C:List (List Int)} (W:yl ss sets C) (hl:C.length=sets.length)
include W hl
theorem yl.gy:Ky C.length C.flatten 0 (Ie C.length C.flatten):=nP (W.later hl) (Pt W.row)
theorem yl.XP {j x:Nat} (hj:j < C.length) (hx:x < 256):(Wa (Ie C.length C.flatten).C j).getD x 0=aq C j x:=by
 have h:=(W.gy hl).hi j (by omega) hj
 have hg:=(W.ae hl).get hj hx
 rw[h,SD W.row hj,List.getD_eq_getElem?_getD,List.getElem?_map,hg.1]
 show Xp _ (Dg C j x)=aq C j x
 unfold Xp aq cls
 rfl
theorem yl.Xy {j:Nat} (hj:j < C.length):(Wa (Ie C.length C.flatten).C j).length=256:=Yh (W.gy hl).hC hj
theorem yl.fH {i j:Nat} (hi:i < C.length) (hj:j < C.length):cls C i=cls C j↔∀ x,x < 256→aq C i x=aq C j x:=by
 unfold cls
 rw[(W.gy hl).QJ hi hj]
 constructor
 ·intro h x hx
  rw[← W.XP hl hi hx,←W.XP hl hj hx,h]
 ·intro h
  apply List.ext_getElem?
  intro x
  by_cases hx:x < 256
  ·have h1:=W.Xy hl hi
   have h2:=W.Xy hl hj
   have h3:=h x hx
   rw[← W.XP hl hi hx,←W.XP hl hj hx,List.getD_eq_getElem?_getD,List.getD_eq_getElem?_getD,List.getElem?_eq_getElem (by omega),List.getElem?_eq_getElem (by omega)] at h3
   rw[List.getElem?_eq_getElem (by omega),List.getElem?_eq_getElem (by omega)]
   exact congrArg some h3
  ·rw[List.getElem?_eq_none (by rw[W.Xy hl hi];omega),List.getElem?_eq_none (by rw[W.Xy hl hj];omega)]
theorem yl.MX:FK C fun i j=>cls C i≠cls C j:=by
 refine⟨fun a b h=>h.symm,?_⟩
 intro i j x f hi hj hx hs ht he
 have h:=(W.fH hl hi hj).1 he x hx
 unfold aq at h
 unfold Ck at ht
 generalize Dg C i x=a at *
 generalize Dg C j x=b at *
 rw[Bool.or_eq_true,Bool.and_eq_true,Bool.and_eq_true,Bool.and_eq_true,Bool.or_eq_true] at ht
 simp only[decide_eq_true_eq,bne_iff_ne,ne_eq] at ht
 rcases ht with⟨h1,h2⟩ | ⟨⟨h1,h2⟩,h3⟩
 ·by_cases ha:0≤a
  ·by_cases hb:0≤b
   ·omega
   ·rw[if_pos ha,if_neg hb] at h
    have:0≤cls C a.toNat∨C.length≤a.toNat:=by
     rcases Nat.lt_or_ge a.toNat C.length with h4 | h4
     ·exact .inl ((W.gy hl).Oo h4).1
     ·exact .inr h4
    rcases this with h5 | h5
    ·omega
    ·have:cls C a.toNat=0:=by
      unfold cls
      rw[List.getD_eq_getElem?_getD,List.getElem?_eq_none (by rw[(W.gy hl).hk];exact h5)];rfl
     omega
  ·by_cases hb:0≤b
   ·rw[if_neg ha,if_pos hb] at h
    have:0≤cls C b.toNat:=by
     rcases Nat.lt_or_ge b.toNat C.length with h4 | h4
     ·exact ((W.gy hl).Oo h4).1
     ·have:cls C b.toNat=0:=by
       unfold cls
       rw[List.getD_eq_getElem?_getD,List.getElem?_eq_none (by rw[(W.gy hl).hk];exact h4)];rfl
      omega
    omega
   ·rw[if_neg ha,if_neg hb] at h;exact h1 h
 ·rw[if_pos h1,if_pos h2] at h
  exact hs _ _ h3 h
theorem yl.known {f:Nat→Nat→Bool} (hK:Vx C (fun i j=>cls C i≠cls C j) f false):∀ i j,i < C.length→j < C.length→(f i j=false↔cls C i=cls C j):=by
 have key:∀ (m i j:Nat),(C.length - i)+(C.length - j)≤m→i < C.length→j < C.length→f i j=false→cls C i=cls C j:=by
  intro m
  induction m with
  |zero=>intro i j h hi hj;omega
  |succ m ih=>
   intro i j hm hi hj hf
   by_cases hij:i=j
   ·rw[hij]
   have hcl:∀ x,x < 256→Ck C f i j x=false:=by
    have hsw:∀ x,Ck C f j i x=Ck C f i j x:=by
     intro x
     unfold Ck
     rw[hK.sym,bne_comm,Bool.or_comm (decide (Dg C j x < 0)),Bool.and_comm (decide (Dg C j x≥0))]
    rcases Nat.lt_or_gt_of_ne hij with h1 | h1
    ·rcases hK.closed rfl j i hj h1 with h2 | h2
     ·rw[hK.sym,hf] at h2;cases h2
     ·intro x hx;rw[← hsw];exact h2 x hx
    ·rcases hK.closed rfl i j hi h1 with h2 | h2
     ·rw[hf] at h2;cases h2
     ·exact h2
   rw[W.fH hl hi hj]
   intro x hx
   have ht:=hcl x hx
   have di:=W.TA hl hi hx
   have dj:=W.TA hl hj hx
   have bi:=(W.bound hl hi hx).2
   have bj:=(W.bound hl hj hx).2
   unfold aq
   unfold Ck at ht
   generalize Dg C i x=a at *
   generalize Dg C j x=b at *
   simp only[Bool.or_eq_false_iff,Bool.and_eq_false_iff,bne_eq_false_iff_eq,decide_eq_false_iff_not] at ht
   by_cases hab:a=b
   ·rw[hab]
   ·have h1:¬a < 0∧¬b < 0:=by
     rcases ht.1 with h | h
     ·exact absurd h hab
     ·exact h
    have h2:f a.toNat b.toNat=false:=by
     rcases ht.2 with (h | h) | h
     ·omega
     ·omega
     ·exact h
    rw[if_pos (by omega),if_pos (by omega)]
    have:=di (by omega)
    have:=dj (by omega)
    exact ih a.toNat b.toNat (by omega) (by omega) (by omega) h2
 intro i j hi hj
 refine⟨key _ i j (Nat.le_refl _) hi hj,fun h=> ?_⟩
 cases hf:f i j with
 |false=>rfl
 |true=>exact absurd h (hK.snd i j hf)
end
end Go.AM.B1
namespace Go.AM.B1
open Go.AM Go.AM.So
def jy (s:dc) (w:List Nat):Prop:=∀ j x,w[j]? =some x→Zn s j x=true
def Full (s:dc) (w:List Nat):Prop:=jy s w∧w.length=s.parts.length
def Bytes (w:List Nat):Prop:=∀ x∈w,x < 256
theorem aT {s:dc} {j x:Nat} (h:Zn s j x=true):j < s.parts.length:=by
 unfold Zn at h
 cases hp:s.parts[j]? with
 |none=>rw[hp] at h;cases h
 |some l=>exact (List.getElem?_eq_some_iff.1 hp).1
theorem pJ {s:dc} {w:List Nat} (h:jy s w):w.length≤s.parts.length:=by
 rcases Nat.eq_zero_or_pos w.length with h0 | h0
 ·omega
 ·have:=aT (h (w.length - 1) _ (List.getElem?_eq_getElem (by omega)))
  omega
theorem nT (s:dc):jy s []:=by intro j x h;simp at h
theorem QP {s:dc} {w:List Nat} {x:Nat}:jy s (w++[x])↔jy s w∧Zn s w.length x=true:=by
 constructor
 ·intro h
  refine⟨fun j y hj=>h j y ?_,h w.length x (by simp)⟩
  rw[List.getElem?_append_left (List.getElem?_eq_some_iff.1 hj).1];exact hj
 ·rintro⟨h1,h2⟩ j y hj
  rcases Nat.lt_or_ge j w.length with h | h
  ·rw[List.getElem?_append_left h] at hj;exact h1 j y hj
  ·rw[List.getElem?_append_right h] at hj
   cases hq:j - w.length with
   |succ n=>rw[hq] at hj;simp at hj
   |zero=>
    rw[hq] at hj
    simp at hj
    have:j=w.length:=by omega
    subst this;subst hj;exact h2
theorem TI {s:dc} {w u:List Nat} (h:jy s (w++u)):jy s w:=by
 intro j y hj
 refine h j y ?_
 rw[List.getElem?_append_left (List.getElem?_eq_some_iff.1 hj).1];exact hj
theorem NK {p q:dc} (op:Nd p) (oq:Nd q) (hlt:p.parts.length≤q.parts.length) {w:List Nat} (hw:Bytes w) (hp:Full p w) (hq:jy q w):Pe p q=true:=by
 have key:∀ (m i:Nat),i+m=p.parts.length→(ec p.parts q.parts m i).isSome=true:=by
  intro m
  induction m with
  |zero=>intro i _;rfl
  |succ m ih=>
   intro i hi
   have h1:i < p.parts.length:=by omega
   have h2:i < q.parts.length:=by omega
   have hwi:i < w.length:=by rw[hp.2];exact h1
   have hne:Uo p.parts q.parts i≠[]:=by
    rw[Fy h1 h2 (op.parts _ (List.getElem_mem h1)).2 (oq.parts _ (List.getElem_mem h2)).2]
    have k1:=hp.1 i w[i] (List.getElem?_eq_getElem hwi)
    have k2:=hq i w[i] (List.getElem?_eq_getElem hwi)
    unfold Zn at k1 k2
    rw[List.getElem?_eq_getElem h1] at k1
    rw[List.getElem?_eq_getElem h2] at k2
    exact⟨w[i],hw _ (List.getElem_mem hwi),k1,k2⟩
   rw[ec]
   cases hm:Uo p.parts q.parts i with
   |nil=>exact absurd hm hne
   |cons a r=>
    have:=ih (i+1) (by omega)
    simp only[Option.isSome_map]
    exact this
 exact key _ 0 (by omega)
theorem eX {ss:List dc} (Aa:Hc ss) (hpre:gh ss) {p q:dc} (hp:p∈ss) (hq:q∈ss) {w:List Nat} (hw:Bytes w) (h1:Full p w) (h2:jy q w):¬p.parts.length < q.parts.length:=by
 intro hlt
 obtain⟨i,hi,rfl⟩:=List.getElem_of_mem hp
 obtain⟨j,hj,rfl⟩:=List.getElem_of_mem hq
 have:=hpre i j hi hj hlt
 rw[NK (Aa.As _ hp) (Aa.As _ hq) (Nat.le_of_lt hlt) hw h1 h2] at this
 cases this
def runT (C:List (List Int)):Int→List Nat→Int
 |k,[]=>k
 |k,x::w=>if k < 0 then -2 else runT C (Dg C k.toNat x) w
theorem bU {C:List (List Int)} {u:List Nat}:runT C (-2) u= -2:=by cases u <;> rfl
theorem MC (C:List (List Int)):∀ (w u:List Nat) (k:Int),runT C k (w++u)=runT C (runT C k w) u
 | [],u,k=>rfl
 |x::w,u,k=>by
  rw[List.cons_append,runT,runT]
  split
  ·rw[bU]
  ·exact MC C w u _
theorem lG (C:List (List Int)) (w:List Nat) (x:Nat) (k:Int):runT C k (w++[x])=if runT C k w < 0 then -2 else Dg C (runT C k w).toNat x:=by
 rw[MC,runT]
 rfl
def IH (ss:List dc) (a:Al) (w:List Nat):Prop:=a.1=w.length∧∀ i,a.2.toNat.testBit i=true↔∃ s,ss[i]? =some s∧jy s w
theorem IH.on {ss:List dc} {a:Al} {w:List Nat} (h:IH ss a w) (x i:Nat):Hl ss a x i=true↔∃ s,ss[i]? =some s∧jy s (w++[x]):=by
 unfold Hl
 rw[Bool.and_eq_true,h.2]
 cases hs:ss[i]? with
 |none=>simp
 |some s=>
  simp only[Option.some.injEq,exists_eq_left',h.1]
  rw[QP]
theorem IH.end {ss:List dc} {a:Al} {w:List Nat} (h:IH ss a w) (x i:Nat):Ep ss a x i=true↔∃ s,ss[i]? =some s∧Full s (w++[x]):=by
 unfold Ep
 rw[Bool.and_eq_true,h.on]
 cases hs:ss[i]? with
 |none=>simp
 |some s=>
  simp only[Option.some.injEq,exists_eq_left',h.1,beq_iff_eq]
  unfold Full
  rw[List.length_append,List.length_singleton]
  constructor
  ·rintro⟨h1,h2⟩;exact⟨h1,by omega⟩
  ·rintro⟨h1,h2⟩;exact⟨h1,by omega⟩
theorem IH.tW {ss:List dc} {a:Al} {w:List Nat} (h:IH ss a w) (x:Nat):Zf (Hl ss a x) ss.length=true↔∃ s∈ss,jy s (w++[x]):=by
 rw[Fs]
 constructor
 ·rintro⟨j,_,h1⟩
  obtain⟨s,h2,h3⟩:=(h.on x j).1 h1
  exact⟨s,List.mem_of_getElem? h2,h3⟩
 ·rintro⟨s,h1,h2⟩
  obtain⟨j,hj,rfl⟩:=List.getElem_of_mem h1
  exact⟨j,hj,(h.on x j).2 ⟨_,List.getElem?_eq_getElem hj,h2⟩⟩
theorem IH.MS {ss:List dc} {a:Al} {w:List Nat} (h:IH ss a w) (x:Nat):Zf (Ep ss a x) ss.length=true↔∃ s∈ss,Full s (w++[x]):=by
 rw[Fs]
 constructor
 ·rintro⟨j,_,h1⟩
  obtain⟨s,h2,h3⟩:=(h.end x j).1 h1
  exact⟨s,List.mem_of_getElem? h2,h3⟩
 ·rintro⟨s,h1,h2⟩
  obtain⟨j,hj,rfl⟩:=List.getElem_of_mem h1
  exact⟨j,hj,(h.end x j).2 ⟨_,List.getElem?_eq_getElem hj,h2⟩⟩
theorem YJ {n:Nat} (h:n≤32) (i:Nat):(Vp n).toNat.testBit i=decide (i < n):=by
 rw[dD h,Int.toNat_natCast,Nat.testBit_two_pow_sub_one]
def CX (ss:List dc) (sets:List Al) (w:List Nat) (v:Int):Prop:=
 (v= -1∧∃ s∈ss,Full s w)∨
 (0≤v∧(∃ a,sets[v.toNat]? =some a∧IH ss a w)∧(w=[]∨∃ s∈ss,jy s w∧w.length < s.parts.length)∧∀ s∈ss,¬Full s w)∨
 (v= -2∧w≠[]∧∀ s∈ss,¬jy s w)
section
variable {ss:List dc} {sets:List Al} {C:List (List Int)} (Aa:Hc ss) (hpre:gh ss) (W:yl ss sets C) (hl:C.length=sets.length)
include Aa hpre W hl
theorem yC:∀ (m:Nat) (w:List Nat),w.length=m→Bytes w→CX ss sets w (runT C 0 w)
 |0,w,hm,_=>by
  have:w=[]:=List.eq_nil_of_length_eq_zero hm
  subst this
  refine .inr (.inl ⟨Int.le_refl _,⟨_,W.first,rfl,fun i=> ?_⟩,.inl rfl,?_⟩)
  ·rw[YJ Aa.len i,decide_eq_true_iff]
   constructor
   ·intro h;exact⟨ss[i],List.getElem?_eq_getElem h,nT _⟩
   ·rintro⟨s,h,_⟩;exact (List.getElem?_eq_some_iff.1 h).1
  ·intro s hs hf
   have:=(Aa.As s hs).lo
   have:=hf.2
   simp at this;omega
 |m+1,w,hm,hb=>by
  obtain⟨u,x,rfl⟩:∃ u x,w=u++[x]:=by
   rcases List.eq_nil_or_concat w with rfl | ⟨u,x,rfl⟩
   ·simp at hm
   ·exact⟨u,x,List.concat_eq_append⟩
  have hum:u.length=m:=by simpa using hm
  have hbu:Bytes u:=fun y hy=>hb y (by simp[hy])
  have hx:x < 256:=hb x (by simp)
  have ih:=yC m u hum hbu
  rw[lG]
  have hne:u++[x]≠[]:=by simp
  have hlen:(u++[x]).length=u.length+1:=by simp
  rcases ih with⟨hv,s,hs,hf⟩ | ⟨hv,⟨a,ha,hd⟩,h1,h2⟩ | ⟨hv,_,h1⟩
  ·rw[hv,if_pos (by decide)]
   refine .inr (.inr ⟨rfl,hne,fun q hq hmq=> ?_⟩)
   have h1:=TI hmq
   have h2:=pJ hmq
   exact eX Aa hpre hs hq hbu hf h1 (by rw[← hf.2];omega)
  ·rw[if_neg (by omega)]
   have hk:=(List.getElem?_eq_some_iff.1 ha).1
   rcases W.step _ a (by omega) ha x hx with⟨q1,q2⟩ | ⟨q1,q2,q3⟩ | ⟨q1,q2,k',m',q3,q4,q5⟩
   ·rw[q2]
    refine .inr (.inr ⟨rfl,hne,fun s hs hms=> ?_⟩)
    rw[(hd.tW x).2 ⟨s,hs,hms⟩] at q1;cases q1
   ·rw[q3]
    exact .inl ⟨rfl,(hd.MS x).1 q2⟩
   ·rw[q3]
    have hnf:∀ s∈ss,¬Full s (u++[x]):=fun s hs hf=>by rw[(hd.MS x).2 ⟨s,hs,hf⟩] at q2;cases q2
    refine .inr (.inl ⟨Int.natCast_nonneg _,⟨_,by rw[Int.toNat_natCast];exact q5,?_,?_⟩,?_,hnf⟩)
    ·rw[hlen,←hd.1]
    ·intro i
     show (m':Int).toNat.testBit i=true↔_
     rw[Int.toNat_natCast,q4.bit,hd.on]
    ·obtain⟨s,hs,hms⟩:=(hd.tW x).1 q1
     refine .inr ⟨s,hs,hms,?_⟩
     have:=pJ hms
     have:=hnf s hs
     rcases Nat.lt_or_ge (u++[x]).length s.parts.length with h | h
     ·exact h
     ·exact absurd ⟨hms,by omega⟩ this
  ·rw[hv,if_pos (by decide)]
   exact .inr (.inr ⟨rfl,hne,fun s hs hms=>h1 s hs (TI hms)⟩)
end
end Go.AM.B1
namespace Go.AM.B1
open Go.AM Go.AM.So
abbrev AW (w:List Nat):List Int:=w.map fun (n:Nat)=>(n:Int)
theorem UL {l:List (Int×Int)} (hl:zc l) (x:Nat):(Md (x:Int) 0 l).2=Uf l x:=by
 rw[← nG];unfold mM;rw[SH hl.2]
theorem OC:∀ (ls:List (List (Int×Int))) (w:List Nat) (k:Int),(∀ l∈ls,zc l)→w.length=ls.length→((Ag ls (AW w) k).isSome↔∀ (j x:Nat) l,w[j]? =some x→ls[j]? =some l→Uf l x=true)
 | [],w,k,_,hl=>by
   have:w=[]:=List.eq_nil_of_length_eq_zero hl
   subst this
   rw[Fq];simp
 |l::ls,[],k,_,hl=>by simp at hl
 |l::ls,y::w,k,h,hl=>by
  have hp:=h l (by simp)
  show (Ag (l::ls) ((y:Int)::AW w) k).isSome↔_
  rw[Ag,UL hp]
  split
  ·next hm=>
   rw[OC ls w _ (fun x hx=>h x (by simp[hx])) (by simpa using hl)]
   constructor
   ·intro h1 j x l' hj hl'
    cases j with
    |zero=>simp at hj hl';subst hj hl';exact hm
    |succ j=>exact h1 j x l' (by simpa using hj) (by simpa using hl')
   ·intro h1 j x l' hj hl'
    exact h1 (j+1) x l' (by simpa using hj) (by simpa using hl')
  ·next hm=>
   constructor
   ·intro h1;cases h1
   ·intro h1;exact absurd (h1 0 y l rfl rfl) hm
theorem bG {s:dc} {j x:Nat}:Zn s j x=true↔∃ l,s.parts[j]? =some l∧Uf l x=true:=by
 unfold Zn
 cases s.parts[j]? <;> simp
theorem wD {s:dc} (h:Nd s) (w:List Nat):(Nf s (AW w)).isSome↔Full s w:=by
 unfold Nf Full
 by_cases hl:w.length=s.parts.length
 ·rw[if_pos (by rw[List.length_map];exact hl),OC _ _ _ h.parts hl]
  unfold jy
  constructor
  ·intro h1
   refine⟨fun j x hj=> ?_,hl⟩
   have hjl:=(List.getElem?_eq_some_iff.1 hj).1
   have hl2:s.parts[j]? =some s.parts[j]:=List.getElem?_eq_getElem (by omega)
   exact bG.2 ⟨_,hl2,h1 j x _ hj hl2⟩
  ·rintro⟨h1,_⟩ j x l hj hl2
   obtain⟨l',h3,h4⟩:=bG.1 (h1 j x hj)
   rw[hl2] at h3;injection h3 with h3;subst h3;exact h4
 ·rw[if_neg (by rw[List.length_map];exact hl)]
  constructor
  ·intro h1;cases h1
  ·intro h1;exact absurd h1.2 hl
theorem Lp:∀ (ls:List (List (Int×Int))) (b:List Int) (k k':Int),(∀ l∈ls,zc l)→Ag ls b k=some k'→k≤k'∧k' < k+Ca ls
 | [],b,k,k',_,h=>by rw[Fq] at h;injection h with h;subst h;rw[Ca];omega
 |l::ls,[],k,k',hp,h=>by
  rw[Ag] at h
  ·injection h with h;subst h
   have:=Cd hp;omega
  ·intro _ _ _ _ h2 h3;cases h3
 |l::ls,y::b,k,k',hp,h=>by
  rw[Ag] at h
  split at h
  ·next hc=>
   have h0:=hp l (by simp)
   have hb:=fm (x:=y) (n:=0) h0.2 hc
   obtain⟨h1,h2⟩:=Lp ls b _ _ (fun x hx=>hp x (by simp[hx])) h
   have h3:=Cd (ls:=ls) fun x hx=>hp x (by simp[hx])
   have h4:0≤(Md y 0 l).1 * Ca ls:=Int.mul_nonneg hb.1 (by omega)
   have h5:((Md y 0 l).1+1) * Ca ls≤Sb 0 l * Ca ls:=Int.mul_le_mul_of_nonneg_right (by omega) (by omega)
   rw[Int.add_mul,Int.one_mul] at h5
   rw[Ca,Int.mul_comm (Ca ls)]
   omega
  ·cases h
theorem cL {s:dc} (h:Nd s) {b:List Int} {k:Int} (hk:Nf s b=some k):0≤k∧s.first+k≤1073741823:=by
 unfold Nf at hk
 split at hk
 ·obtain⟨h1,h2⟩:=Lp _ _ _ _ h.parts hk
  have h3:=h.last
  rw[h.Nh] at h3
  omega
 ·cases hk
end Go.AM.B1
namespace Go.AM.B1
open Go.AM Go.AM.So
def eM:Int→List (Int×Int)→Option Int
 |_,[]=>none
 |k,p::r=>if k≤p.2 - p.1 then some (p.1+k) else eM (k - (p.2 - p.1+1)) r
theorem Rp {top:Int}:∀ {l:List (Int×Int)} {last k:Int},Oa top last l=true→0≤k→k < Sb 0 l→∃ x,eM k l=some x∧0≤x∧x≤top∧last+1 < x∧∀ n,Md x n l=(n+k,true)
 | [],last,k,_,h0,h1=>by simp[Sb] at h1;omega
 |p::l,last,k,hv,h0,h1=>by
  obtain⟨v1,v2,v3,v4,v5⟩:=Pd hv
  rw[Sb,UA] at h1
  rw[eM]
  by_cases c:k≤p.2 - p.1
  ·rw[if_pos c]
   refine⟨_,rfl,by omega,by omega,by omega,fun n=> ?_⟩
   rw[Md,if_neg (by omega),if_pos (by omega)]
   congr 1;omega
  ·rw[if_neg c]
   obtain⟨x,q1,q2,q3,q4,q5⟩:=Rp (k:=k - (p.2 - p.1+1)) v5 (by omega) (by omega)
   refine⟨x,q1,q2,q3,by omega,fun n=> ?_⟩
   rw[Md,if_neg (by omega),if_neg (by omega),q5]
   congr 1;omega
theorem gC {e:PV} {s:dc} {P:PV} {ps:List PV} (h:pf e s P ps) (Aa:Nd s):Ln [e]=some (i64 (Ca s.parts)):=by
 obtain⟨b1,hb1,hb1'⟩:=Zl h
 have:=hb1'.2 Aa
 subst this
 have hst:=TG h Aa
 have hP1:=h.Mv.1
 have heq:=h.eq
 subst heq
 have i0:∀ H,qa H 1 (.pv (.lit 1 ((xk s.parts).map i64))) 0=some (.pv (.rp [i64 (Ca s.parts)] 0)):=fun H=>by
  have:(xk s.parts).map i64=i64 (Ca s.parts)::((xk s.parts).map i64).tail:=by
   simp only[xk,List.range_succ_eq_map,List.map_cons,List.drop_zero,List.tail_cons]
  rw[this]
  simp only[qa]
  rw[if_pos (by unfold Fa;simp)];rfl
 simp -implicitDefEqProofs only[Ln,SX,sevalprocAttr,-List.reduceReplicate,Lr,hP1,Vc,hb1,hst,i0,Pa]
def we:List (List (Int×Int))→Int→List Int
 | [],_=>[]
 |l::r,k=>(eM (k.tdiv (Ca r)) l).getD 0::we r (k.tmod (Ca r))
theorem JH {k p q:Int} (h0:0≤k) (hp:1≤p) (h1:k < p * q):0≤k.tdiv p∧k.tdiv p < q∧0≤k.tmod p∧k.tmod p < p∧k.tdiv p * p+k.tmod p=k:=by
 rw[Int.tdiv_eq_ediv_of_nonneg h0,Int.tmod_eq_emod_of_nonneg h0]
 refine⟨Int.ediv_nonneg h0 (by omega),Int.ediv_lt_of_lt_mul (by omega) (by rw[Int.mul_comm];exact h1),Int.emod_nonneg _ (by omega),Int.emod_lt_of_pos _ (by omega),?_⟩
 rw[Int.mul_comm];exact Int.mul_ediv_add_emod k p
theorem Qq:∀ (ls:List (List (Int×Int))) (k n:Int),(∀ l∈ls,zc l)→0≤k→k < Ca ls→Ag ls (we ls k) n=some (n+k)∧(we ls k).length=ls.length∧∀ x∈we ls k,0≤x∧x≤255
 | [],k,n,_,h0,h1=>by
   have:k=0:=by rw[Ca] at h1;omega
   subst this
   exact⟨by rw[Fq,Int.add_zero],rfl,by simp[we]⟩
 |l::r,k,n,hp,h0,h1=>by
  have hpr:=Cd (ls:=r) fun x hx=>hp x (by simp[hx])
  rw[Ca] at h1
  obtain⟨d1,d2,d3,d4,d5⟩:=JH h0 hpr h1
  obtain⟨x,q1,q2,q3,_,q5⟩:=Rp (hp l (by simp)).2 d1 d2
  obtain⟨i1,i2,i3⟩:=Qq r (k.tmod (Ca r)) (n+k.tdiv (Ca r) * Ca r) (fun x hx=>hp x (by simp[hx])) d3 d4
  rw[we,q1,Option.getD_some,Ag,q5,if_pos rfl]
  simp only[Int.zero_add]
  rw[i1]
  refine⟨by congr 1;omega,by simp[i2],?_⟩
  intro y hy
  rcases List.mem_cons.1 hy with rfl | hy
  ·exact⟨q2,q3⟩
  ·exact i3 y hy
end Go.AM.B1
namespace Go.AM.B1
open Go.AM Go.AM.So
def AN (u:Int):List dc→Option (List Int)
 | []=>none
 |s::r=>if s.first≤u∧u < s.first+Ca s.parts then some (we s.parts (u - s.first)) else AN u r
theorem fL {u:Int}:∀ {ss:List dc} {b:List Int},(∀ s∈ss,Nd s)→AN u ss=some b→∃ s∈ss,s.first≤u∧u < s.first+Ca s.parts∧b=we s.parts (u - s.first)∧Nf s b=some (u - s.first)∧(∀ x∈b,0≤x∧x≤255)∧b≠[]
 |s::r,b,h,he=>by
  rw[AN] at he
  split at he
  ·next hc=>
   injection he with he;subst he
   have hs:=h s (by simp)
   obtain⟨h1,h2,h3⟩:=Qq s.parts (u - s.first) 0 hs.parts (by omega) (by omega)
   refine⟨s,by simp,hc.1,hc.2,rfl,?_,h3,?_⟩
   ·unfold Nf;rw[if_pos h2,h1,Int.zero_add]
   ·intro h4;rw[h4] at h2;have:=hs.lo;simp at h2;omega
  ·obtain⟨s',h1,h2⟩:=fL (fun x hx=>h x (by simp[hx])) he
   exact⟨s',by simp[h1],h2⟩
end Go.AM.B1
namespace Go.AM.B1
open Go.AM Go.AM.So
def cellsOf (n:Nat) (g:Nat→AV):List AV:=(List.range n).map g
theorem zg (n:Nat) (g:Nat→AV):(cellsOf n g).length=n:=by simp[cellsOf]
theorem cr {n i:Nat} (g:Nat→AV) (h:i < n):(cellsOf n g)[i]? =some (g i):=by simp[cellsOf,h]
def Iv (g:Nat→AV) (i:Nat) (v:AV):Nat→AV:=fun j=>if j=i then v else g j
theorem ct (g:Nat→AV) (i:Nat) (v:AV):Iv g i v i=v:=if_pos rfl
theorem cu (g:Nat→AV) {i j:Nat} (v:AV) (h:j≠i):Iv g i v j=g j:=if_neg h
theorem nB {n i:Nat} (g:Nat→AV) (v:AV):(cellsOf n g).set i v=cellsOf n (Iv g i v):=by
 apply List.ext_getElem?
 intro j
 by_cases hj:j < n
 ·rw[cr _ hj]
  by_cases h:i=j
  ·subst h;rw[List.getElem?_set_self (by rw[zg];exact hj),ct]
  ·rw[List.getElem?_set_ne h,cr _ hj,cu _ _ (Ne.symm h)]
 ·rw[List.getElem?_eq_none (by rw[List.length_set,zg];omega),List.getElem?_eq_none (by rw[zg];omega)]
theorem oD {H:List ba} {id m n off sz:Nat} {ag:Bool} {g:Nat→AV} {fl:Nat} {nl:Bool} (hg:H[id]? =some (.seq sz ag (cellsOf n g) fl nl)) (hm:m=n) (ho:off < n):
 ya H false 1 (.Gc id m off)=some (g off):=by
 subst hm
 simp only[ya,hg,zg,if_true,lh,Bool.false_eq_true,if_false,cr g ho]
theorem Dt {H:List ba} {id m n off sz d:Nat} {ag:Bool} {g:Nat→AV} {fl:Nat} {nl:Bool} (hg:H[id]? =some (.seq sz ag (cellsOf n g) fl nl)) (hm:m=n):
 place H d (.Gc id m off)=some (.Gc id m (off+d)):=by
 subst hm
 simp only[place,hg,zg,if_true]
theorem eB {H:List ba} {id m n off sz:Nat} {ag:Bool} {g:Nat→AV} {fl:Nat} {nl:Bool} (hg:H[id]? =some (.seq sz ag (cellsOf n g) fl nl)) (hm:m=n) (ho:off < n) {v:AV} (hv:v.cells=[v]) (h1:v.one=true):
 Ra H 1 (.Gc id m off) v=some (H.set id (.seq sz ag (cellsOf n (Iv g off v)) n nl)):=by
 subst hm
 simp only[Ra,hv,List.length_cons,List.length_nil,List.all_cons,h1,List.all_nil,Bool.and_true,and_self,if_true,hg,zg]
 rw[if_pos ⟨trivial,by omega⟩]
 simp only[na,nB]
def Jk:List (Int×Int)→List Int
 | []=>[]
 |p::l=>Lf 0 p++Jk l
theorem pU (l:List (Int×Int)):l.flatMap (Lf 0)=Jk l:=by
 induction l with
 |nil=>rfl
 |cons p l ih=>rw[List.flatMap_cons,ih];rfl
theorem JK {p:Int×Int} (h0:0≤p.1) (h1:p.1≤p.2):Lf 0 p=(List.range (p.2 - p.1+1).toNat).map fun (i:Nat)=>p.1+(i:Int):=by
 unfold Lf
 rw[if_neg (by omega),show max p.1 0=p.1 from by omega]
end Go.AM.B1
namespace Go.AM.B1
open Go.AM
end Go.AM.B1
namespace Go.AM.B1
open Go.AM
end Go.AM.B1
namespace Go.AM.B1
open Go.AM
theorem mJ {α β:Type} {g:St→Option (Ex×St)} (st:Nat→β→St) (f:Nat→β→α) (I:Nat→β→Prop) (Q:α→Ex→St→Prop) (N:Nat) (hN:N < oa) (a0:β) (h0:I 0 a0)
 (hs:∀ i,i < N→∀ a,I i a→(∃ a',g (st i a)=some (.norm,st (i+1) a')∧f i a=f (i+1) a'∧I (i+1) a')∨∃ ex t,g (st i a)=some (ex,t)∧ex.stop=true∧Q (f i a) ex t)
 (he:∀ a,I N a→∃ ex t,g (st N a)=some (ex,t)∧ex.stop=true∧Q (f N a) ex t):
 ∃ ex t,gb g oa (st 0 a0)=some (ex,t)∧ex.stop=true∧Q (f 0 a0) ex t:=by
 refine Wj (fun i t=>∃ a,t=st i a∧I i a∧f 0 a0=f i a) (fun ex t=>Q (f 0 a0) ex t) oa N 0 (st 0 a0) (by omega) (by omega) ⟨a0,rfl,h0,rfl⟩ ?_ ?_
 ·rintro i hi t ⟨a,rfl,ha,hf⟩
  rw[hf]
  rcases hs i hi a ha with⟨a',h1,h2,h3⟩ | h
  ·exact .inl ⟨_,h1,a',rfl,h3,by rw[h2]⟩
  ·exact .inr h
 ·rintro t ⟨a,rfl,ha,hf⟩
  rw[hf]
  exact he a ha
abbrev u8 (n:Int):PV:= .int .u8 n
structure Sk (A:PV) (l:List (List Oe)):Prop where
 held:∃ es,Di 1 A es∧es.length=l.length∧∀ (i:Nat) v e,es[i]? =some v→l[i]? =some e→Di 3 v (e.map ry)
 len:l.length * 24≤140737488355328
 lens:∀ e∈l,e.length * 24≤140737488355328
def Df (b:Int):List Oe→Option Int
 | []=>none
 |e::r=>if e.lo≤b∧b≤e.hi then some e.to else Df b r
def Yf (l:List (List Oe)) (st b:Int):Int×Bool:=
 if st < 0 then (0,false) else match l[st.toNat]? with
  |some e=>match Df b e with
   |some t=>(t,true)
   |none=>(0,false)
  |none=>(0,false)
theorem XR {l:List Oe} {i:Nat} (hi:i < l.length):(l.map ry)[i]? =some (ry l[i]):=by simp[hi]
section
variable (b:Int) (hb:0≤b∧b≤255)
include hb
variable (V:PV) (l:List Oe) (hV:Di 3 V (l.map ry)) (hw:l.length≤maxLen)
include hV hw
end
theorem Sk.get {A:PV} {l:List (List Oe)} (h:Sk A l) {i:Nat} (hi:i < l.length):∃ es V,A= .lit 1 es∧es.length=l.length∧es[i]? =some V∧Di 3 V (l[i].map ry):=by
 obtain⟨es,h1,h2,h3⟩:=h.held
 have hie:i < es.length:=by omega
 refine⟨es,es[i],h1.lit hie,h2,by simp[hie],h3 i _ _ (by simp[hie]) (by simp[hi])⟩
theorem Sk.Wb {A:PV} {l:List (List Oe)} (h:Sk A l) (H:List ba):Wb H 0 (.pv A)=some l.length:=by
 obtain⟨es,h1,h2,h3⟩:=h.held
 rw[h1.len,h2]
theorem Sk.form {A:PV} {l:List (List Oe)} (h:Sk A l):A= .pa∨∃ es,A= .lit 1 es:=by
 obtain⟨es,h1,h2,h3⟩:=h.held
 rcases h1 with⟨rfl,_⟩ | rfl
 ·exact .inl rfl
 ·exact .inr ⟨_,rfl⟩
theorem Di.form {sz:Nat} {v:PV} {es:List PV} (h:Di sz v es):v= .pa∨∃ es,v= .lit sz es:=by
 rcases h with⟨rfl,_⟩ | rfl
 ·exact .inl rfl
 ·exact .inr ⟨_,rfl⟩
section
variable (A:PV) (l:List (List Oe)) (hA:Sk A l) (st b:Int) (hb:0≤b∧b≤255)
include hA hb
end
abbrev oC (A:PV) (st b i:Int):Tr:=(((Tr.lf.set 8 (.pv (i64 i))).set 3 (.pv (.rp [A] 0))).set 2 (.pv (u8 b))).set 1 (.pv (i64 st))
section
variable (call:Za) (es:List PV) (st b:Int) (hb:0≤b∧b≤255) (e:List Oe) (V:PV) (h0:0≤st∧st < es.length) (hV:es[st.toNat]? =some V) (hVL:Di 3 V (e.map ry)) (hw:e.length≤maxLen)
include h0 hV hVL
theorem KK:Mb call [1,2,3,8] Tb 0 ⟨oC (.lit 1 es) st b e.length,[]⟩=some (.exit 0,⟨((((((((oC (.lit 1 es) st b e.length).set 19 (.pv (i64 e.length))).set 20 (.pv (.rp [.lit 1 es] 0))).set 21 (.pv (.lit 1 es))).set 22 (.pv (i64 st))).set 23 (.pv (.rp [V] 0))).set 24 (.pv V)).set 25 (.pv (i64 e.length))).set 26 (.pv (.bool false)),[]⟩):=by
 have ls:=hVL.len []
 simp only[List.length_map] at ls
 have e1:decide ((e.length:Int) < (e.length:Int))=false:=Ha (by omega)
 have hq:Fa st es.length:=by unfold Fa;omega
 rcases hVL.form with rfl | ⟨vs,rfl⟩ <;>
 simp -implicitDefEqProofs only[SP,SA,SQ,sevalprocAttr,Mb,fa,Tb,e1,ls,eq_true hq,hV,qa,oC]
include hb hw
theorem xF (i:Nat) (hi:i < e.length):
 ((e[i].lo≤b∧b≤e[i].hi)→Hy 6 (.pv (i64 e[i].to)) 7 (.pv (.bool true)) (Mb call [1,2,3,8] Tb 0 ⟨oC (.lit 1 es) st b i,[]⟩))∧
 (¬ (e[i].lo≤b∧b≤e[i].hi)→Mb call [1,2,3,8] Tb 0 ⟨oC (.lit 1 es) st b i,[]⟩=some (.norm,⟨oC (.lit 1 es) st b (i+1:Nat),[]⟩)):=by
 have hVl:=hVL.lit (i:=i) (by simpa using hi)
 subst hVl
 have e1:decide ((i:Int) < (e.length:Int))=true:=Da (by omega)
 have hq:Fa st es.length:=by unfold Fa;omega
 have hlen:(e.map ry).length=e.length:=by simp
 have hq2:Fa (i:Int) e.length:=by unfold Fa;omega
 have t1:((i:Int)).toNat=i:=by simp
 have t2:=Ua hi hw
 have t3:IntKind.i64.wrap b=b:=Ba (by omega)
 have hg:(e.map ry)[i]? =some (.agg [i64 e[i].lo,i64 e[i].hi,i64 e[i].to]):=XR hi
 generalize e.map ry=vs at *
 generalize e[i]=ed at *
 constructor
 ·intro h
  have d1:decide (b≥ed.lo)=true:=Da h.1
  have d2:=Da h.2
  simp -implicitDefEqProofs only[SP,SA,SQ,sevalprocAttr,Mb,fa,Tb,e1,hlen,eq_true hq,eq_true hq2,t1,t2,t3,hV,hg,d1,d2,qa,oC,su]
 ·intro h
  by_cases h1:b≥ed.lo
  ·have d1:=Da h1
   have d2:decide (b≤ed.hi)=false:=Ha fun h2=>h ⟨h1,h2⟩
   simp -implicitDefEqProofs only[SP,SA,SQ,sevalprocAttr,Mb,fa,Tb,e1,hlen,eq_true hq,eq_true hq2,t1,t2,t3,hV,hg,d1,d2,qa,oC,ga,za,uj,Ia,AV.cut,Db]
  ·have d1:=Ha h1
   simp -implicitDefEqProofs only[SP,SA,SQ,sevalprocAttr,Mb,fa,Tb,e1,hlen,eq_true hq,eq_true hq2,t1,t2,t3,hV,hg,d1,qa,oC,ga,za,uj,Ia,AV.cut,Db]
theorem gH:∃ ex t,gb (fa (ta call Tb) (ga 0 [1,2,3,8])) oa ⟨oC (.lit 1 es) st b 0,[]⟩=some (ex,t)∧ex.stop=true∧
 ((ex= .exit 0∧Df b e=none)∨(ex= .ret∧∃ r,Df b e=some r∧t.env.get 6= .pv (i64 r)∧t.env.get 7= .pv (.bool true))):=by
 have key:=mJ (g:=Mb call [1,2,3,8] Tb 0)
  (fun i (_:Unit)=>⟨oC (.lit 1 es) st b i,[]⟩) (fun i _=>Df b (e.drop i)) (fun _ _=>True)
  (fun r ex t=>(ex= .exit 0∧r=none)∨(ex= .ret∧∃ r',r=some r'∧t.env.get 6= .pv (i64 r')∧t.env.get 7= .pv (.bool true)))
  e.length (by unfold oa;unfold maxLen at hw;omega) () trivial ?_ ?_
 ·exact key
 ·rintro i hi _ _
  have hr:=xF call es st b hb e V h0 hV hVL hw i hi
  have hd:e.drop i=e[i]::e.drop (i+1):=List.drop_eq_getElem_cons hi
  simp only[hd,Df]
  by_cases h:e[i].lo≤b∧b≤e[i].hi
  ·obtain⟨t,k1,k2,k3⟩:=Yq (hr.1 h)
   rw[if_pos h]
   exact .inr ⟨.ret,t,k1,rfl,.inr ⟨rfl,_,rfl,k2,k3⟩⟩
  ·rw[if_neg h]
   exact .inl ⟨(),hr.2 h,rfl,trivial⟩
 ·rintro _ _
  rw[List.drop_length]
  exact⟨.exit 0,_,KK call es st b e V h0 hV hVL,rfl,.inl ⟨rfl,rfl⟩⟩
end
section
variable (A:PV) (l:List (List Oe)) (hA:Sk A l) (st b:Int) (hb:0≤b∧b≤255)
include hA hb
theorem LB:Pc [.agg [A],i64 st,u8 b]=some (.Zb [i64 (Yf l st b).1,.bool (Yf l st b).2]):=by
 have hla:=hA.Wb
 by_cases h0:st < 0
 ·have e:Yf l st b=(0,false):=by simp[Yf,h0]
  have d:=Da h0
  rw[e]
  rcases hA.form with rfl | ⟨es,rfl⟩ <;>
  simp -implicitDefEqProofs only[Pc,SP,SA,SQ,sevalprocAttr,qe,d,Fe,Db]
 have d0:=Ha h0
 by_cases h1:st.toNat < l.length
 ·obtain⟨es,V,rfl,hel,hV,hVL⟩:=hA.get h1
  have d1:decide (st≥(l.length:Int))=false:=Ha (by omega)
  have hlen:=hA.lens l[st.toNat] (List.getElem_mem h1)
  have hget:l[st.toNat]? =some l[st.toNat]:=by simp[h1]
  simp only[Yf,if_neg h0,hget]
  generalize l[st.toNat]=e at *
  obtain⟨ex,⟨E,H⟩,hl,_,hq⟩:=gH (Ga (fun _=>none) 8) es st b hb e V (by omega) hV hVL (by unfold maxLen;omega)
  simp only[oC] at hl
  rcases hq with⟨rfl,k2⟩ | ⟨rfl,r,k2,k3,k4⟩
  ·simp only[k2]
   simp -implicitDefEqProofs only[Pc,SP,SA,SQ,sevalprocAttr,qe,d0,d1,hel,xb,ga,za,uj,Ia,AV.cut,Db]
   rw[hl]
   simp -implicitDefEqProofs only[SP,SA,SQ,sevalprocAttr]
  ·simp only[k2]
   simp only at k3 k4
   simp -implicitDefEqProofs only[Pc,SP,SA,SQ,sevalprocAttr,qe,d0,d1,hel,xb,ga,za,uj,Ia,AV.cut,Db]
   rw[hl]
   simp -implicitDefEqProofs only[SP,SA,SQ,sevalprocAttr,k3,k4]
 ·have hn:l[st.toNat]? =none:=by simp;omega
  have e:Yf l st b=(0,false):=by simp[Yf,hn]
  have d1:decide (st≥(l.length:Int))=true:=Da (by omega)
  rw[e]
  rcases hA.form with rfl | ⟨es,rfl⟩
  ·have d1:decide (st≥0)=true:=Da (by omega)
   simp -implicitDefEqProofs only[Pc,SP,SA,SQ,sevalprocAttr,qe,d0,d1,Fe,Db]
  ·have hel:es.length=l.length:=by have:=hla [];simpa[Wb] using this
   simp -implicitDefEqProofs only[Pc,SP,SA,SQ,sevalprocAttr,qe,d0,d1,hel,Fe,Db]
end
end Go.AM.B1
namespace Go.AM.B1
open Go.AM
theorem gu (b:Int):∀ (l m:List Oe),Df b (l++m)=(Df b l).or (Df b m)
 | [],m=>by simp[Df]
 |e::l,m=>by
  rw[List.cons_append,Df,Df]
  split
  ·rfl
  ·exact gu b l m
theorem ir {b:Int}:∀ {l:List Oe},(∀ e∈l,e.hi < b)→Df b l=none
 | [],_=>rfl
 |e::l,h=>by
  have:=h e (by simp)
  rw[Df,if_neg (by omega)]
  exact ir fun x hx=>h x (by simp[hx])
theorem VC {b:Int}:∀ {l:List Oe},l.Pairwise (fun a c=>a.hi < c.lo)→∀ e∈l,e.lo≤b→b≤e.hi→Df b l=some e.to
 |a::l,h,e,he,h1,h2=>by
  rw[List.pairwise_cons] at h
  rw[Df]
  rcases List.mem_cons.1 he with rfl | he
  ·rw[if_pos ⟨h1,h2⟩]
  ·have:=h.1 e he
   rw[if_neg (by omega)]
   exact VC h.2 e he h1 h2
theorem cw {b t:Int}:∀ {l:List Oe},Df b l=some t→∃ e∈l,e.lo≤b∧b≤e.hi∧e.to=t
 |e::l,h=>by
  rw[Df] at h
  split at h
  ·next hc=>exact⟨e,by simp,hc.1,hc.2,Option.some.inj h⟩
  ·obtain⟨x,hx,h1⟩:=cw h
   exact⟨x,by simp[hx],h1⟩
structure vJ (row:List Int) (n:Nat) (l:List Oe):Prop where
 RB:∀ e∈l,0≤e.lo∧e.lo≤e.hi∧e.hi < n∧e.to≠ -2
 ord:l.Pairwise (fun a b=>a.hi < b.lo)
 tight:∀ (k:Nat) a b,l[k]? =some a→l[k+1]? =some b→b.lo=a.hi+1→b.to≠a.to
 step:∀ x:Nat,x < n→Df x l=if row.getD x 0= -2 then none else some (row.getD x 0)
theorem PG {l:List Oe} {e:Oe} (h:l.getLast? =some e):∃ m,l=m++[e]:=by
 have hne:l≠[]:=by rintro rfl;simp at h
 rw[List.getLast?_eq_some_getLast hne] at h
 exact⟨l.dropLast,by rw[← Option.some.inj h];exact (List.dropLast_concat_getLast hne).symm⟩
theorem SI {α:Type} {m:List α} {e a b:α} {k:Nat} (h1:(m++[e])[k]? =some a) (h2:(m++[e])[k+1]? =some b):m[k]? =some a∧((m[k+1]? =some b)∨(k+1=m.length∧b=e)):=by
 have hk:k+1 < (m++[e]).length:=(List.getElem?_eq_some_iff.1 h2).1
 simp at hk
 rw[List.getElem?_append_left (by omega)] at h1
 refine⟨h1,?_⟩
 rcases Nat.lt_or_ge (k+1) m.length with h | h
 ·rw[List.getElem?_append_left h] at h2;exact .inl h2
 ·have:k+1=m.length:=by omega
  rw[List.getElem?_append_right h,this] at h2
  simp at h2
  exact .inr ⟨this,h2.symm⟩
theorem vJ.push {row:List Int} {n:Nat} {l:List Oe} (h:vJ row n l) {to:Int} (ht:row.getD n 0=to) (h2:to≠ -2) (hl:∀ e,l.getLast? =some e→¬(e.to=to∧e.hi=(n:Int) - 1)):vJ row (n+1) (l++[⟨n,n,to⟩]):=by
 refine⟨?_,?_,?_,?_⟩
 ·intro e he
  rcases List.mem_append.1 he with he | he
  ·have:=h.RB e he;exact⟨this.1,this.2.1,by omega,this.2.2.2⟩
  ·simp at he;subst he;simp;exact⟨by omega,h2⟩
 ·rw[List.pairwise_append]
  refine⟨h.ord,by simp,?_⟩
  intro a ha b hb
  simp at hb;subst hb
  have:=h.RB a ha;simp;omega
 ·intro k a b h1 h3 h4
  obtain⟨h5,h6 | ⟨h6,rfl⟩⟩:=SI h1 h3
  ·exact h.tight k a b h5 h6 h4
  ·have hla:l.getLast? =some a:=by rw[List.getLast?_eq_getElem?,←h5];congr 1;omega
   intro h7
   simp only at h4 h7
   exact hl a hla ⟨h7.symm,by omega⟩
 ·intro x hx
  rw[gu]
  rcases Nat.lt_or_ge x n with hxn | hxn
  ·rw[h.step x hxn]
   split
   ·simp only[Option.none_or,Df];rw[if_neg (by omega)]
   ·rfl
  ·have:x=n:=by omega
   subst this
   rw[ir fun e he=>by have:=h.RB e he;omega,Option.none_or,Df,if_pos (by simp),ht,if_neg h2]
theorem vJ.next {row:List Int} {n:Nat} {l:List Oe} (h:vJ row n l):vJ row (n+1) (Qf n (row.getD n 0) l):=by
 obtain⟨to,ht⟩:∃ to,row.getD n 0=to:=⟨_,rfl⟩
 rw[ht]
 unfold Qf
 by_cases h2:to= -2
 ·rw[if_pos h2]
  refine⟨fun e he=>by have:=h.RB e he;exact⟨this.1,this.2.1,by omega,this.2.2.2⟩,h.ord,h.tight,?_⟩
  intro x hx
  rcases Nat.lt_or_ge x n with hxn | hxn
  ·exact h.step x hxn
  ·have:x=n:=by omega
   subst this
   rw[ir fun e he=>by have:=h.RB e he;omega,ht,if_pos h2]
 ·rw[if_neg h2]
  cases hl:l.getLast? with
  |none=>exact h.push ht h2 fun e he=>by rw[hl] at he;cases he
  |some e=>
   by_cases hc:e.to=to∧e.hi=(n:Int) - 1
   ·simp only[hc,and_self,if_true]
    obtain⟨m,rfl⟩:=PG hl
    rw[List.dropLast_concat]
    have hr:=h.RB e (by simp)
    have ho:=List.pairwise_append.1 h.ord
    have hlt:∀ a∈m,a.hi < e.lo:=fun a ha=>ho.2.2 a ha e (by simp)
    refine⟨?_,?_,?_,?_⟩
    ·intro x hx
     rcases List.mem_append.1 hx with hx | hx
     ·have:=h.RB x (by simp[hx]);exact⟨this.1,this.2.1,by omega,this.2.2.2⟩
     ·simp at hx;subst hx;simp only;exact⟨hr.1,by omega,by omega,h2⟩
    ·rw[List.pairwise_append]
     refine⟨ho.1,by simp,?_⟩
     intro a ha b hb
     simp at hb;subst hb
     exact hlt a ha
    ·intro k a b h1 h3 h4
     obtain⟨h5,h6 | ⟨h6,rfl⟩⟩:=SI h1 h3
     ·have hk1:=(List.getElem?_eq_some_iff.1 h6).1
      exact h.tight k a b (by rw[List.getElem?_append_left (by omega)];exact h5) (by rw[List.getElem?_append_left hk1];exact h6) h4
     ·have:=h.tight k a e (by rw[List.getElem?_append_left (by omega)];exact h5) (by rw[List.getElem?_append_right (by omega),h6];simp) h4
      rw[hc.1] at this;exact this
    ·intro x hx
     rw[gu]
     rcases Nat.lt_or_ge x n with hxn | hxn
     ·rw[← h.step x hxn,gu]
      congr 1
      simp only[Df,hc.1]
      by_cases h3:e.lo≤(x:Int)
      ·rw[if_pos ⟨h3,by omega⟩,if_pos ⟨h3,by omega⟩]
      ·rw[if_neg fun q=>h3 q.1,if_neg fun q=>h3 q.1]
     ·have:x=n:=by omega
      subst this
      rw[ir fun a ha=>by have:=hlt a ha;omega,Option.none_or,Df]
      simp only
      rw[if_pos ⟨by omega,Int.le_refl _⟩,ht,if_neg h2]
   ·simp only[hc,if_false]
    exact h.push ht h2 fun e' he'=>by rw[hl] at he';injection he' with he';subst he';exact hc
theorem Aw (row:List Int):∀ (xs ys:List Nat) (l:List Oe),ye row (xs++ys) l=ye row ys (ye row xs l)
 | [],ys,l=>rfl
 |x::xs,ys,l=>by rw[List.cons_append,ye,ye,Aw row xs]
theorem MG (row:List Int):∀ n:Nat,vJ row n (ye row (List.range n) [])
 |0=>⟨by simp[ye],by simp[ye],by simp[ye],by omega⟩
 |n+1=>by
  rw[List.range_succ,Aw]
  exact (MG row n).next
theorem zA (row:List Int):vJ row 256 (Wf row):=MG row 256
def nA (m:Int) (l:List Oe):Int:=l.foldl (fun m e=>if e.to=m then m+1 else m) m
theorem WA (m:Int) (l:List Oe) (e:Oe):nA m (l++[e])=if e.to=nA m l then nA m l+1 else nA m l:=by
 unfold nA;rw[List.foldl_append];rfl
def Yx:Int→List Oe→Prop
 |_,[]=>True
 |m,e::l=>e.to≤m∧Yx (if e.to=m then m+1 else m) l
theorem Pu:∀ {m:Int} {l:List Oe} {e:Oe},Yx m (l++[e])↔Yx m l∧e.to≤nA m l
 |m,[],e=>by simp[Yx,nA]
 |m,a::l,e=>by
  show (a.to≤m∧Yx _ (l++[e]))↔_
  rw[Pu];exact and_assoc.symm
theorem HG {row:List Int} {g:Nat→Int} (h0:∀ x,0≤g x):∀ n:Nat,(∀ x,x < n→row.getD x 0≤g x)→(∀ x,x < n→g (x+1)=if row.getD x 0=g x then g x+1 else g x)→
 nA (g 0) (ye row (List.range n) [])=g n∧Yx (g 0) (ye row (List.range n) [])∧(∀ e∈ye row (List.range n) [],e.to < g n)
 |0,_,_=>⟨rfl,trivial,by simp[ye]⟩
 |n+1,h1,h2=>by
  obtain⟨i1,i2,i3⟩:=HG h0 n (fun x hx=>h1 x (by omega)) (fun x hx=>h2 x (by omega))
  have hn:=h1 n (by omega)
  have hg:=h2 n (by omega)
  rw[List.range_succ,Aw]
  generalize ye row (List.range n) []=l at *
  show nA (g 0) (Qf n (row.getD n 0) l)=_∧Yx (g 0) (Qf n (row.getD n 0) l)∧∀ e∈Qf n (row.getD n 0) l,_
  generalize row.getD n 0=to at *
  have hpush:nA (g 0) (l++[⟨n,n,to⟩])=g (n+1)∧Yx (g 0) (l++[⟨n,n,to⟩])∧(∀ e∈l++[⟨n,n,to⟩],e.to < g (n+1)):=by
   refine⟨by rw[WA,i1,hg],Pu.2 ⟨i2,by rw[i1];exact hn⟩,?_⟩
   intro e he
   rcases List.mem_append.1 he with he | he
   ·have:=i3 e he;rw[hg];split <;> omega
   ·simp at he;subst he;simp only;rw[hg];split <;> omega
  unfold Qf
  by_cases h3:to= -2
  ·have:=h0 n
   rw[if_pos h3,hg,if_neg (by omega)]
   exact⟨i1,i2,i3⟩
  ·rw[if_neg h3]
   cases hl:l.getLast? with
   |none=>exact hpush
   |some e=>
    simp only
    split
    ·next hc=>
     obtain⟨m,rfl⟩:=PG hl
     have h4:=i3 e (by simp)
     rw[List.dropLast_concat,hg,if_neg (by omega)]
     rw[WA] at i1
     rw[Pu] at i2
     refine⟨by rw[WA];exact i1,Pu.2 i2,?_⟩
     intro x hx
     rcases List.mem_append.1 hx with hx | hx
     ·exact i3 x (by simp[hx])
     ·simp at hx;subst hx;exact h4
    ·exact hpush
end Go.AM.B1
