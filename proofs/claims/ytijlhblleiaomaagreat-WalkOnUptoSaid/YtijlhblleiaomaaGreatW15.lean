/- What functions of the program compute. -/
import Derived.Test.YtijlhblleiaomaaGreatW14
import Derived.Test.YtijlhblleiaomaaGreatW3
import Derived.Test.YtijlhblleiaomaaGreatW8
import Derived.Test.YtijlhblleiaomaaGreatW13
import Derived.Test.YtijlhblleiaomaaGreatW10
import Derived.Test.YtijlhblleiaomaaGreatW11
import Derived.Test.YtijlhblleiaomaaGreatH3
import Derived.Deep.CondSized
import Derived.Test.YtijlhblleiaomaaGreatRows
set_option linter.unusedVariables false
set_option linter.unusedSimpArgs false
namespace Go.AM.B1
open Go.AM Go.AM.So
section
variable {S:PV} {ss:List Rb} {es:List PV} (hS:wb S ss es) (Ba:qc ss)
include hS Ba
end
end Go.AM.B1
namespace Go.AM.B1
open Go.AM Go.AM.So
theorem OO.lit (us:List Int) (n0:Nat):OO (.pv (.lit 1 (us.map i64))) us n0:=by
 refine⟨fun H=>by simp[Sb],fun H i h=> ?_,fun n hn=>Ja⟩
 simp only[wa]
 rw[if_pos ⟨trivial,by unfold Ga;rw[List.length_map];omega⟩,Int.toNat_natCast,List.getElem?_map,List.getElem?_eq_getElem h];rfl
theorem OO.ma (n0:Nat):OO (.pv .ma) [] n0:=⟨fun H=>rfl,fun H i h=>by simp at h,fun n hn=>Ja⟩
theorem OO.uq (us:List Int) {id n0:Nat} (nl:Bool) (h:id < n0):OO (.uq id nl 1 (us.map i64)) us n0:=by
 refine⟨fun H=>by simp[Sb],fun H i h=> ?_,fun n hn=>gD (by omega)⟩
 simp only[wa]
 rw[if_pos ⟨trivial,by unfold Ga;rw[List.length_map];omega⟩,Int.toNat_natCast,List.getElem?_map,List.getElem?_eq_getElem h];rfl
end Go.AM.B1
namespace Go.AM.B1
open Go.AM Go.AM.So
section
variable {A:List ba} {c:Nat} {call:Ua} {S R:PV} {ss:List Rb} {es:List PV} {un tot out:Int} {rb:List Int}
structure uU (H:List ba) (c:Nat) (S R:PV) (un tot out:Int) (st fin:Bool):Prop where
 ld:∀ o,ya H false 1 (.ptr c o)=Sg false 1 [.pv S,.pv (i64 un),.pv R,.pv (i64 tot),.pv (i64 out),.pv (.bool st),.pv (.bool fin)] o
 pl:∀ d,place H d (.ptr c 0)=some (.ptr c (0+d))
 l0:ya H true 1 (.ptr c 0)=some (.pv (.agg [S]))
 nn:su H 1 (.ptr c 0) (.pv .Kg)=some false
theorem uU.of {H:List ba} {st fin:Bool} (h:H[c]? =some (OX S R un tot out st fin)):uU H c S R un tot out st fin:=by
 have hB:OX S R un tot out st fin= .box [.pv S,.pv (i64 un),.pv R,.pv (i64 tot),.pv (i64 out),.pv (.bool st),.pv (.bool fin)]:=rfl
 refine⟨fun o=>by simp only[ya,h,hB],fun d=>cg h d 0,by simp only[ya,h,hB];rfl,by simp only[su,h,hB]⟩
theorem uU.get {H:List ba} {st fin:Bool} (h:uU H c S R un tot out st fin):ya H false 1 (.ptr c 1)=some (.pv (i64 un))∧ya H false 1 (.ptr c 2)=some (.pv R)∧ya H false 1 (.ptr c 3)=some (.pv (i64 tot))∧ya H false 1 (.ptr c 4)=some (.pv (i64 out))∧ya H false 1 (.ptr c 5)=some (.pv (.bool st))∧ya H false 1 (.ptr c 6)=some (.pv (.bool fin))∧ya H true 1 (.ptr c 0)=some (.pv (.agg [S]))∧∀ d,place H d (.ptr c 0)=some (.ptr c (0+d)):=
 ⟨h.ld _,h.ld _,h.ld _,h.ld _,h.ld _,h.ld _,h.l0,h.pl⟩
end
end Go.AM.B1
namespace Go.AM.B1
open Go.AM Go.AM.So
def jY (l:List Int):ByteArray:=⟨(l.map fun n=>UInt8.ofNat n.toNat).toArray⟩
theorem xC:∀ l:List Int,bytesOf (l.map u8)=some (l.map fun n=>UInt8.ofNat n.toNat)
 | []=>rfl
 |x::l=>by
  show (bytesOf (l.map u8)).map (UInt8.ofNat x.toNat:: ·)=_
  rw[xC l];rfl
theorem aO (H:List ba) (l:List Int):dF H (.pv (.lit 1 (l.map u8)))=some (jY l):=by
 show (bytesOf (l.map u8)).map _=_
 rw[xC];rfl
end Go.AM.B1
namespace Go.AM.B1
open Go.AM Go.AM.So
def HW (e:PV):Prop:=∃ a b c d f:Int,e= .agg [i64 a,i64 b,i64 c,i64 d,i64 f]
theorem EV {e:PV} (h:HW e):rk (.row [1,1,1,1,1]) e e=some true:=by
 obtain⟨a,b,c,d,f,rfl⟩:=h
 show Th [1,1,1,1,1] [i64 a,i64 b,i64 c,i64 d,i64 f] [i64 a,i64 b,i64 c,i64 d,i64 f]=_
 simp[Th,Up]
theorem SJ {V W:PV} {evs:List PV} (hV:ri 5 V evs) (hW:ri 5 W evs) (he:∀ x∈evs,HW x) (hl:evs.length≤140737488355328):ff [V,W]=some (.bool true):=by
 have lV:=hV.len
 have lW:=hW.len
 have hat:∀ {V:PV},ri 5 V evs→∀ (i:Nat) (h:i < evs.length) H,∃ c,wa H 5 (.pv V) (i:Int)=some (.pv (.rp c 0))∧(∀ H',ya H' true 5 (.pv (.rp c 0))=some (.pv evs[i])):=fun {V} hV i h H=>by
  obtain⟨a,b,c,d,f,hx⟩:=he _ (List.getElem_mem h)
  refine⟨[i64 a,i64 b,i64 c,i64 d,i64 f],?_,fun H'=>by rw[hx];rfl⟩
  rw[hV.lit (i:=i) h]
  simp only[wa]
  rw[if_pos ⟨trivial,by unfold Ga;omega⟩,Int.toNat_natCast,List.getElem?_eq_getElem h,hx];rfl
 have hloop:=fun (E:Tr) (h0:E.get 0= .pv V) (h1:E.get 1= .pv W) (h5:E.get 5= .pv (i64 0))=>
  wJ (call:=Ea (fun _=>none) 8) (b:=Eg) (live:=[0,1,5]) (E0:=E) (H0:=[]) (Q:=fun r=>∃ E,r=(.exit 0,⟨E,[]⟩))
   (fun i:Nat=>[(0,.pv V),(1,.pv W),(5,.pv (i64 i))]) (fun _=>[]) (fun i x=>x=i) evs.length (by unfold qa;omega) (fun _=>rfl)
   (fun i x _=>⟨by simp[WN],VJ rfl,rfl⟩) ⟨0,⟨h0,h1,h5,trivial⟩,rfl,rfl⟩
   (by
    rintro _ i E hi rfl ⟨g0,g1,g5,_⟩
    obtain⟨c1,a1,b1⟩:=hat hV i hi []
    obtain⟨c2,a2,b2⟩:=hat hW i hi []
    have hs:=EV (he _ (List.getElem_mem hi))
    generalize evs[i]=e at *
    have e1:decide ((i:Int) < (evs.length:Int))=true:=Fa (by omega)
    have t1:IntKind.i64.wrap ((i:Int)+1)=((i+1:Nat):Int):=Wk (by omega)
    generalize hQ:RH _ _ _ _=Q
    simp -implicitDefEqProofs only[SX,sevalprocAttr,Eg,g0,g1,g5,lV,e1,a1,a2,b1,b2,hs,t1]
    subst hQ
    exact⟨i+1,[],by simp[Has,Tr.aa,g0,g1],rfl,rfl⟩)
   (by
    rintro i E rfl ⟨g0,g1,g5,_⟩
    have e1:decide ((evs.length:Int) < (evs.length:Int))=false:=Ka (by omega)
    generalize hQ:(fun r:Ex×St=>r.1.stop=true∧_)=Q
    simp -implicitDefEqProofs only[SX,sevalprocAttr,Eg,g0,g5,lV,e1]
    subst hQ
    exact⟨rfl,_,rfl⟩)
 have x1:((evs.length:Int) != (evs.length:Int))=false:=by simp
 apply bl
 generalize hQ:(fun x=>x=PV.bool true)=Q
 simp -implicitDefEqProofs only[ff,SX,sevalprocAttr,Qj,lV,lW,x1]
 refine za (hloop _ (by simp[Tr.aa]) (by simp[Tr.aa]) (by simp[Tr.aa])) ?_
 rintro r ⟨_,E,rfl⟩
 simp -implicitDefEqProofs only[SX,sevalprocAttr]
 subst hQ
 rfl
end Go.AM.B1
namespace Go.AM.B1
open Go.AM Go.AM.So
theorem bQ:∃ T l,xi []=some T∧yg Qw=some l∧Sn T Qw l∧qc Qw∧∀ e∈l,ij e:=by
 obtain⟨l,hl⟩:=Option.isSome_iff_exists.1 VL
 obtain⟨Ba,T,h1,hT,he⟩:=DI (zG (by decide) (by decide) (by decide)) EJ LH pH hl
 refine⟨T,l,?_,hl,hT,Ba,he⟩
 have hdoc:(.lit 2 (Qw.map Fe):PV)= .lit 2 [.agg [.lit 1 [.lit 2 [.agg [i64 0,i64 127]]],i64 0],.agg [.lit 1 [.lit 2 [.agg [i64 194,i64 223]],.lit 2 [.agg [i64 128,i64 191]]],i64 128],.agg [.lit 1 [.lit 2 [.agg [i64 225,i64 225]],.lit 2 [.agg [i64 128,i64 191]],.lit 2 [.agg [i64 128,i64 191]]],i64 4096]]:=rfl
 rw[hdoc] at h1
 obtain⟨R,hR⟩:=(LW.of hT Ba).ptr
 subst hR
 simp -implicitDefEqProofs only[xi,SX,sevalprocAttr,Bk,h1,na.eq_1,na.eq_2,List.set,de]
def VH:List FG:=[⟨1,1,65⟩,⟨1,2,233⟩,⟨2,2,0⟩,⟨1,1,66⟩,⟨2,1,0⟩,⟨3,1,0⟩]
theorem TP:(yg Qw).map (fun l=>Ly Qw l [65,195,169,225,128,66,128,225])=some VH:=by kernel_rfl
theorem dI:lh []=some (.bool true):=by
 obtain⟨T,l,htw,hl,hT,Ba,he⟩:=bQ
 have hev:=TP
 rw[hl,Option.map_some,Option.some.injEq] at hev
 have hB:Yi (.lit 1 [.int .u8 65,.int .u8 195,.int .u8 169,.int .u8 225,.int .u8 128,.int .u8 66,.int .u8 128,.int .u8 225]) [65,195,169,225,128,66,128,225]:=⟨.inr rfl,by decide⟩
 obtain⟨V,hls,hV⟩:=Lt hT Ba he hB (by decide) 0
 rw[List.drop_zero,hev] at hV
 rcases hV with⟨_,h⟩ | rfl
 ·exact absurd h (by simp[VH,Rj])
 obtain⟨R,rfl⟩:∃ R,T= .rp R 0:=by
  obtain⟨S',NX,DG,RW,h,_⟩:=hT.ex
  exact⟨_,h⟩
 have hsm:ff [.lit 5 (Rj 0 VH),.lit 5 [.agg [.int .i64 1,.int .i64 0,.int .i64 1,.int .i64 65,.int .i64 0],.agg [.int .i64 1,.int .i64 1,.int .i64 2,.int .i64 233,.int .i64 0],.agg [.int .i64 2,.int .i64 3,.int .i64 2,.int .i64 0,.int .i64 0],.agg [.int .i64 1,.int .i64 5,.int .i64 1,.int .i64 66,.int .i64 0],.agg [.int .i64 2,.int .i64 6,.int .i64 1,.int .i64 0,.int .i64 0],.agg [.int .i64 3,.int .i64 7,.int .i64 1,.int .i64 0,.int .i64 0]]]=some (.bool true):=by kernel_rfl
 have e1:∀ H,su H 1 (.pv (.rp R 0)) (.pv .Kg)=some false:=fun H=>rfl
 generalize Rj 0 VH=W at *
 replace hls:pb [.rp R 0,.lit 1 [.int .u8 65,.int .u8 195,.int .u8 169,.int .u8 225,.int .u8 128,.int .u8 66,.int .u8 128,.int .u8 225],.int .i64 0]=some (.lit 5 W):=hls
 simp -implicitDefEqProofs only[lh,SX,sevalprocAttr,lj,htw,hls,hsm,e1,na.eq_1,na.eq_2,List.set,de]
end Go.AM.B1
namespace Go.AM.B1
open Go.AM Go.AM.So
theorem FM {S:PV} {ss:List Rb} {es:List PV} (hS:wb S ss es) (hz:WB ss):∃ T,mg [.agg [S]]=some (.uc [T,.bool true])∧
 (T= .Kg∨(qc ss∧Fg ss∧ym ss∧∃ l,yg ss=some l∧Sn T ss l∧∀ e∈l,ij e)):=by
 obtain⟨n,V,hr,_,hV1,ht⟩:=KG ss
 have hr:=hr S es hS
 obtain⟨T,ht,ho⟩:=ht (TX ss) (Ho ss) (PK hS)
 have hcp:=xP hS hz
 have hS1:(AV.pv S).one=true:=by rcases hS.is with⟨h,_⟩ | h <;> rw[h] <;> rfl
 have s1:Ma [.box [.pv .ma]] 1 (.ptr 0 0) (.pv (.agg [V]))=some [.box [.pv V]]:=by simp[Ma,AV.cells,PV.cells,hV1,na]
 have d1:(n==n)=true:=by simp
 refine⟨T,?_,ho.imp (fun h=>h.2) (fun h=>h.2)⟩
 rcases ho with⟨h0,rfl⟩ | ⟨rfl,_,_,_,l,_,hT,_⟩
 ·have d2:(n != 0)=true:=by simp[h0]
  have e1:∀ H,su H 1 (.pv .Kg) (.pv .Kg)=some true:=fun H=>rfl
  have e2:∀ H,su H 0 (.pv (.bool true)) (.pv (.bool true))=some true:=fun H=>rfl
  simp -implicitDefEqProofs only[mg,SX,sevalprocAttr,Uh,hS1,Af,hcp,ht,hr,s1,d1,d2,e1,e2]
 ·have d2:((0:Int) != 0)=false:=rfl
  have d1:((0:Int)==0)=true:=rfl
  obtain⟨R,rfl⟩:∃ R,T= .rp R 0:=by
   obtain⟨S',NX,DG,RW,h,_⟩:=hT.ex
   exact⟨_,h⟩
  have e1:∀ H,su H 1 (.pv (.rp R 0)) (.pv .Kg)=some false:=fun H=>rfl
  have e2:∀ H,su H 0 (.pv (.bool false)) (.pv (.bool false))=some true:=fun H=>rfl
  simp -implicitDefEqProofs only[mg,SX,sevalprocAttr,Uh,hS1,Af,hcp,ht,hr,s1,d1,d2,e1,e2]
theorem yI {ss:List Rb} {l:List (List xe)} {bs:List Int}:∀ (k f:Nat),k < (Ly ss l (bs.drop f)).length→∃ (e:FG) (p:Nat),(Rj f (Ly ss l (bs.drop f)))[k]? =some (Ro e p)∧Rj p (Ly ss l (bs.drop p))=(Rj f (Ly ss l (bs.drop f))).drop k
 |k,f,h=>by
  by_cases hne:bs.drop f=[]
  ·rw[hne,TI] at h;simp at h
  rw[Cs ss l hne,List.drop_drop] at h
  cases k with
  |zero=>exact⟨gH ss l (bs.drop f),f,by rw[Cs ss l hne,Rj];rfl,rfl⟩
  |succ k=>
   obtain⟨e,p,h1,h2⟩:=yI (ss:=ss) (l:=l) (bs:=bs) k (f+(gH ss l (bs.drop f)).size) (by simpa using h)
   refine⟨e,p,?_,?_⟩
   ·rw[Cs ss l hne,Rj,List.drop_drop];exact h1
   ·rw[h2]
    conv=>rhs;rw[Cs ss l hne,Rj,List.drop_drop]
    rfl
theorem EN:∀ (k:Nat) (l:List FG),∀ x∈Rj k l,HW x
 |_,[],x,h=>by cases h
 |k,e::r,x,h=>by
  rcases List.mem_cons.1 h with rfl | h
  ·exact⟨_,_,_,_,_,rfl⟩
  ·exact EN _ _ x h
theorem XK {S:PV} {ss:List Rb} {es:List PV} (hS:wb S ss es) (hz:WB ss) {B:PV} {bs:List Int} (hB:Yi B bs) (hw:bs.length≤1000000000000) (fr:Int):Qg [.agg [S],B,i64 fr]=some (.bool true):=by
 have hS1:(AV.pv S).one=true:=by rcases hS.is with⟨h,_⟩ | h <;> rw[h] <;> rfl
 obtain⟨T,hmk,hT⟩:=FM hS hz
 have hfx:=dI
 rcases hT with rfl | ⟨Ba,hpre,hinj,l,ha,hT,ho⟩
 ·have e1:∀ H,su H 1 (.pv .Kg) (.pv .Kg)=some true:=fun H=>rfl
  simp -implicitDefEqProofs only[Qg,SX,sevalprocAttr,Ef,hS1,Af,hmk,hfx,e1]
 obtain⟨R,rfl⟩:∃ R,T= .rp R 0:=by
  obtain⟨S',NX,DG,RW,h,_⟩:=hT.ex
  exact⟨_,h⟩
 have e1:∀ H,su H 1 (.pv (.rp R 0)) (.pv .Kg)=some false:=fun H=>rfl
 have lB:=hB.Sb
 obtain⟨V0,hv0,hV0⟩:=Lt hT Ba ho hB hw bs.length
 rw[List.drop_length,TI,Rj] at hV0
 have l0:∀ H,Sb H 0 (.pv V0)=some 0:=fun H=>hV0.len H
 obtain⟨V,f,evs,hv,hV,hle,htail⟩:∃ V f evs,pb [.rp R 0,B,i64 fr]=some V∧ri 5 V (Rj f evs)∧evs.length≤1000000000000∧
  ∀ k,k < evs.length→∃ (e:FG) (p:Nat),(Rj f evs)[k]? =some (Ro e p)∧Rj p (Ly ss l (bs.drop p))=(Rj f evs).drop k:=by
  by_cases hn:fr < 0
  ·rcases JK (R:=R) hB hw hn with h | h
   ·exact⟨_,0,[],h,.inl ⟨rfl,rfl⟩,by simp,fun k hk=>by simp at hk⟩
   ·exact⟨_,0,[],h,.inr rfl,by simp,fun k hk=>by simp at hk⟩
  ·obtain⟨n,rfl⟩:∃ n:Nat,fr=n:=⟨fr.toNat,by omega⟩
   obtain⟨V,h1,h2⟩:=Lt hT Ba ho hB hw n
   have hlen:=fK ss l (bs.drop n)
   rw[List.length_drop] at hlen
   exact⟨V,n,_,h1,h2,by omega,fun k hk=>yI k n hk⟩
 have hEv:=EN f evs
 have hL:(Rj f evs).length=evs.length:=sI f evs
 generalize hW:Rj f evs=W at *
 have lV:=hV.len
 rw[hL] at lV
 have hloop:=fun (E:Tr) (g1:E.get 1= .pv B) (g7:E.get 7= .pv (.rp R 0)) (g9:E.get 9= .pv V) (g26:E.get 26= .pv (i64 evs.length)) (g27:E.get 27= .pv (i64 0))=>
  wJ (call:=Ea (fun _=>none) 8) (b:=Be) (live:=[1,7,9,26,27]) (E0:=E) (H0:=[]) (Q:=fun r=>∃ E,r=(.exit 0,⟨E,[]⟩)∧E.get 1= .pv B∧E.get 7= .pv (.rp R 0))
   (fun i:Nat=>[(1,.pv B),(7,.pv (.rp R 0)),(9,.pv V),(26,.pv (i64 evs.length)),(27,.pv (i64 i))]) (fun _=>[]) (fun i x=>x=i) evs.length (by unfold qa;omega) (fun _=>rfl)
   (fun i x _=>⟨by simp[WN],VJ rfl,rfl⟩) ⟨0,⟨g1,g7,g9,g26,g27,trivial⟩,rfl,rfl⟩
   (by
    rintro _ i E hi rfl ⟨g1,g7,g9,g26,g27,_⟩
    have e2:decide ((i:Int) < (evs.length:Int))=true:=Fa (by omega)
    by_cases h12:12 < i
    ·have e3:decide ((i:Int) > 12)=true:=Fa (by omega)
     generalize hQ:RH _ _ _ _=Q
     simp -implicitDefEqProofs only[SX,sevalprocAttr,Be,g1,g7,g9,g26,g27,e2,e3]
     subst hQ
     exact⟨_,rfl,by simp[Tr.aa,g1],by simp[Tr.aa,g7]⟩
    ·have e3:decide ((i:Int) > 12)=false:=Ka (by omega)
     obtain⟨e,p,h1,h2⟩:=htail i hi
     obtain⟨V2,hv2,hV2⟩:=Lt hT Ba ho hB hw p
     rw[h2] at hV2
     have hVl:=hV.lit (i:=i) (by omega)
     have a1:∀ H,wa H 5 (.pv V) (i:Int)=some (.pv (.rp [i64 e.kind,i64 p,i64 e.size,i64 e.u,i64 0] 0)):=fun H=>by
      rw[hVl]
      simp only[wa]
      rw[if_pos ⟨trivial,by unfold Ga;omega⟩,Int.toNat_natCast,h1];rfl
     have a2:∀ H,ya H false 1 (.pv (.rp [i64 e.kind,i64 p,i64 e.size,i64 e.u,i64 0] 1))=some (.pv (i64 p)):=fun H=>rfl
     have pl:∀ H,place H 1 (.pv (.rp [i64 e.kind,i64 p,i64 e.size,i64 e.u,i64 0] 0))=some (.pv (.rp [i64 e.kind,i64 p,i64 e.size,i64 e.u,i64 0] 1)):=fun H=>rfl
     have sl:∀ H,Ye H 5 (.pv V) (some (i:Int)) none=some (.pv (.lit 5 (W.drop i))):=fun H=>by
      rw[hVl]
      exact EC H (by decide) (by omega)
     have hsm:=SJ hV2 (.inr rfl) (fun x hx=>hEv x (List.mem_of_mem_drop hx)) (by rw[List.length_drop];omega)
     have t1:IntKind.i64.wrap ((i:Int)+1)=((i+1:Nat):Int):=Wk (by omega)
     generalize hQ:RH _ _ _ _=Q
     simp -implicitDefEqProofs only[SX,sevalprocAttr,Be,g1,g7,g9,g26,g27,e2,e3,a1,a2,pl,hv2,sl,hsm,t1]
     subst hQ
     exact⟨i+1,[],by simp[Has,Tr.aa,g1,g7,g9,g26],rfl,rfl⟩)
   (by
    rintro i E rfl ⟨g1,g7,g9,g26,g27,_⟩
    have e2:decide ((evs.length:Int) < (evs.length:Int))=false:=Ka (by omega)
    generalize hQ:(fun r:Ex×St=>r.1.stop=true∧_)=Q
    simp -implicitDefEqProofs only[SX,sevalprocAttr,Be,g1,g7,g9,g26,g27,e2]
    subst hQ
    exact⟨rfl,_,rfl,by simp[Tr.aa,g1],by simp[Tr.aa,g7]⟩)
 apply bl
 generalize hQ:(fun x=>x=PV.bool true)=Q
 simp -implicitDefEqProofs only[Qg,SX,sevalprocAttr,Ef,hS1,Af,hmk,hfx,e1,hv,lV]
 refine za (hloop _ (by simp[Tr.aa]) (by simp[Tr.aa]) (by simp[Tr.aa]) (by simp[Tr.aa]) (by simp[Tr.aa])) ?_
 rintro r ⟨_,E,rfl,g1,g7⟩
 simp -implicitDefEqProofs only[SX,sevalprocAttr,g1,g7,lB,hv0,l0]
 subst hQ
 rfl
end Go.AM.B1
namespace Go.AM
open Go Go.ChangeShapes Go.WideShapes Go.ChangeAt Go.RowKit
theorem tS {H:Type} {enc:TypeId×Value→H} {C:Checked} {os:Os} {f:FuncId} {fn:Func} {F:List PV→Option PV} {s:OpenSpec} {k:(H:Type)→List (DataW H)→Bool} (hk:s.cond=some k) (Fi:Stop.Interp) {bt:TypeId} {ts:List TypeId} (g:Nat)
 (own:ownKnob C.prog.godebug=none) (laid:laidOutB C.prog=true) (started:os.Started) (noInit:C.prog.inits.idxOf? f=none) (hfn:C.prog.funcs[f]? =some fn)
 (witness:∃ (w:World) (tape:Tape) (i:Input),w.os=os∧(w.forCall tape i).Shaped C.prog∧i.vars=[]∧Input.okWide C.prog (w.forCall tape i) .any w.heap.size f i∧
  s.pre6 enc C.prog fn [] false (w.forCall tape i).memory i.args∧({}:Assume).holds C.prog (lone (Frame.enter C.prog f i.args .normal) [] (w.forCall tape i)))
 (hvars:s.vars=[]) (hvars':(s.at Fi).vars=[]) (hplain:s.bare.plain.varTypes C.prog=[]) (hts:fn.params=ts.toArray) (hres:fn.resultTypes= #[bt]) (hbt:C.prog.underlying bt=some .bool)
 (Ba:UE C.prog g ts=true) (hpure:Na C.prog f F)
 (hspec:∀ ds:List (DataW H),ds.length=ts.length→(s.at Fi).fn H (ds++[])={results:=[.lit (.bool true)],args:=ds})
 (run:∀ ds:List (DataW H),sX C.prog g ts ds→k H (ds++[])=true→F (kY C.prog g ts ds)=some (.bool true)):
 ReturnsInHanded {} C os f .any (s.pre6 enc C.prog fn [] false) ((s.at Fi).post enc C.prog fn false true false false):=by
 refine returnsInHanded_of_cond_sized hk own started noInit hfn witness ?_
 intro W base args ds gs before hval0 hW _ hkk hwt _
 have hval:∀ (j:Nat) t v,ts[j]? =some t→args.toList[j]? =some v→Value.okWide C.prog W .any base t v:=by
  intro j t v ht hv
  exact hval0 j t v (by rw[hts];simpa using ht) (by simpa using hv)
 have hW':=hW
 obtain⟨p,q,hA0,hV,rfl,_,_⟩:=hW
 rw[hvars] at hV
 obtain⟨rfl,rfl⟩:=trodVars_none hV
 have hA:DataW.TrodAll enc C.prog W 0 (fun _=>true) true ts args.toList ds p:=by rw[hts] at hA0;simpa using hA0
 have hlt:∀ x∈p,x.block < W.heap.size:=fun x hx=>by simpa using hW'.lt x (by simpa using hx)
 have hw':∀ n∈DataW.weightsEach C.prog ts ds,n≤reachBytes:=by
  intro n hn
  rw[hts,hplain] at hwt
  simp only[List.append_nil] at hwt
  have:=List.all_eq_true.1 hwt n (by simpa using hn)
  simpa using this
 have hrel:=bB Ba hval hA
 have hr:=run ds (HD Ba hw' hA) hkk
 refine (VP hpure hrel hr).mono fun e W' ⟨he,hb⟩=> ?_
 subst he
 have hs:=hspec ds (GA hA).2
 refine⟨_,rfl,ds,[],p++[],[],p,[],hW',?_,?_,?_,hb.frame _,fun h=>by cases h⟩
 ·rw[hs,hres]
  exact trodAll_mk1 (shut_bool hbt _)
 ·rw[hs,hts]
  exact fx laid hb Ba hlt hA
 ·rw[hs,hvars']
  exact rfl
end Go.AM
set_option maxRecDepth 100000
namespace Go.Proofs.YtijlhblleiaomaaGreat
open Go.ChangeShapes Go.WideShapes Go.ChangeAt Go.RowKit Go.AM
theorem gR:Tryz.prog.cellsOf 116=2:=by kernel_rfl
theorem iT:Tryz.prog.bytesOf 116=16:=by kernel_rfl
theorem BR:Tryz.prog.cellsOf 117=1:=by kernel_rfl
theorem UR:Tryz.prog.bytesOf 117=24:=by kernel_rfl
theorem TS:Tryz.prog.cellsOf 107=2:=by kernel_rfl
theorem AT:Tryz.prog.bytesOf 107=32:=by kernel_rfl
theorem FV {g:Nat} {row:List PV} (h:Sh Tryz.prog (g+2) 116 row):∃ p:Int×Int,bn Tryz.prog 116 row=B1.pr p:=by
 rw[yz Tryz.underlying116]
 obtain⟨rows,hl,rfl,hr⟩:=Uz Tryz.underlying116 h
 match rows,hl with
 | [x,y],_=>
   obtain⟨a,rfl,_⟩:=vA Tryz.underlying3 (hr 0 _ x rfl rfl)
   obtain⟨b,rfl,_⟩:=vA Tryz.underlying3 (hr 1 _ y rfl rfl)
   exact⟨(a,b),rfl⟩
theorem GS {α β:Type} {f:α→β}:∀ {es:List β},(∀ e∈es,∃ a,e=f a)→∃ l:List α,es=l.map f
 | [],_=>⟨[],rfl⟩
 |e::es,h=>by
  obtain⟨a,ha⟩:=h e (by simp)
  obtain⟨l,hl⟩:=GS (es:=es) fun e he=>h e (by simp[he])
  exact⟨a::l,by rw[ha,hl];rfl⟩
theorem RS {g:Nat} {row:List PV} (h:Sh Tryz.prog (g+3) 117 row):∃ (V:PV) (l:List (Int×Int)),row=[V]∧B1.Pn V l:=by
 rcases Fy Tryz.underlying117 h with rfl | ⟨es,rfl,h1,h2,h3⟩
 ·exact⟨_,[],rfl,.inl ⟨rfl,rfl⟩,Nat.zero_le _⟩
 ·obtain⟨l,hl⟩:=GS (f:=B1.pr) (es:=es.map (bn Tryz.prog 116)) (by
   intro e he
   obtain⟨r,hr,rfl⟩:=List.mem_map.1 he
   exact FV (h3 r hr))
  have hlen:l.length=es.length:=by have:=congrArg List.length hl;simpa using this.symm
  refine⟨_,l,rfl,.inr (by rw[gR,hl]),?_⟩
  rw[hlen]
  rw[iT] at h2
  exact Nat.le_trans h2 (by decide)
theorem BG {R A:Type} {f:R→PV} {Q:PV→A→Prop}:∀ (es:List R),(∀ r∈es,∃ a,Q (f r) a)→∃ l:List A,l.length=es.length∧∀ (k:Nat) v a,(es.map f)[k]? =some v→l[k]? =some a→Q v a
 | [],_=>⟨[],rfl,by simp⟩
 |r::es,h=>by
  obtain⟨a,ha⟩:=h r (by simp)
  obtain⟨l,h1,h2⟩:=BG es fun x hx=>h x (by simp[hx])
  refine⟨a::l,by simp[h1],?_⟩
  intro k v b hv hb
  match k with
  |0=>simp at hv hb;subst hv hb;exact ha
  |k+1=>exact h2 k v b (by simpa using hv) (by simpa using hb)
theorem BT {g:Nat} {row:List PV} (h:Sh Tryz.prog (g+4) 105 row):∃ (P:PV) (ls:List (List (Int×Int))) (ps:List PV),row=[P]∧B1.Ze P ls ps∧ls.length * 24≤140737488355328:=by
 rcases Fy Tryz.underlying105 h with rfl | ⟨es,rfl,h1,h2,h3⟩
 ·exact⟨_,[],[],rfl,⟨.inl ⟨rfl,rfl⟩,rfl,by simp,by simp⟩,by simp⟩
 ·obtain⟨l,hl,hq⟩:=BG (f:=bn Tryz.prog 117) (Q:=B1.Pn) es (by
   intro r hr
   obtain⟨V,l,rfl,hV⟩:=RS (h3 r hr)
   rw[TJ Tryz.underlying117]
   exact⟨l,hV⟩)
  have hz:l.length * 24≤140737488355328:=by rw[UR] at h2;rw[hl];exact Nat.le_trans h2 (by decide)
  exact⟨_,l,es.map (bn Tryz.prog 117),rfl,⟨.inr (by rw[BR]),by rw[List.length_map,hl],hq,by unfold maxLen;omega⟩,hz⟩
theorem mT {g:Nat} {row:List PV} (h:Sh Tryz.prog (g+5) 107 row):∃ (s:B1.Rb),(∃ P ps,B1.sf (bn Tryz.prog 107 row) s P ps)∧s.parts.length * 24≤140737488355328:=by
 rw[yz Tryz.underlying107]
 obtain⟨rows,hl,rfl,hr⟩:=Uz Tryz.underlying107 h
 match rows,hl with
 | [x,y],_=>
   obtain⟨P,ls,ps,rfl,hP,hz⟩:=BT (hr 0 _ x rfl rfl)
   obtain⟨b,rfl,_⟩:=vA Tryz.underlying3 (hr 1 _ y rfl rfl)
   exact⟨⟨ls,b⟩,⟨P,ps,rfl,hP⟩,hz⟩
theorem wO {g:Nat} {row:List PV} (h:Sh Tryz.prog (g+6) 22 row):∃ (S:PV) (ss:List B1.Rb) (es:List PV),row=[S]∧B1.wb S ss es∧B1.WB ss:=by
 rcases Fy Tryz.underlying22 h with rfl | ⟨es,rfl,h1,h2,h3⟩
 ·exact⟨_,[],[],rfl,⟨.inl ⟨rfl,rfl⟩,rfl,by simp,by simp⟩,⟨by simp,by simp⟩⟩
 ·obtain⟨l,hl,hq⟩:=BG (f:=bn Tryz.prog 107) (Q:=fun e s=>(∃ P ps,B1.sf e s P ps)∧s.parts.length * 24≤140737488355328) es (fun r hr=>mT (h3 r hr))
  have hz:l.length * 32≤140737488355328:=by rw[AT] at h2;rw[hl];exact Nat.le_trans h2 (by decide)
  refine⟨_,l,es.map (bn Tryz.prog 107),rfl,⟨.inr (by rw[TS]),by rw[List.length_map,hl],fun k e s he hs=>(hq k e s he hs).1,by unfold maxLen;omega⟩,hz,?_⟩
  intro s hs
  obtain⟨k,hk,rfl⟩:=List.getElem_of_mem hs
  exact (hq k _ _ (List.getElem?_eq_getElem (by rw[List.length_map];omega)) (List.getElem?_eq_getElem hk)).2
theorem FQ {g:Nat} {row:List PV} (h:Sh Tryz.prog (g+7) 24 row):∃ (S:PV) (ss:List B1.Rb) (es:List PV),row=[S]∧B1.wb S ss es∧B1.WB ss:=by
 obtain⟨rows,hl,rfl,hr⟩:=Uz Tryz.underlying24 h
 match rows,hl with
 | [x],_=>
   obtain⟨S,ss,es,rfl,h1,h2⟩:=wO (hr 0 _ x rfl rfl)
   exact⟨S,ss,es,rfl,h1,h2⟩
theorem own:ownKnob Tryz.prog.godebug=none:=by kernel_rfl
theorem laidOut:laidOutB Tryz.prog=true:=by kernel_rfl
theorem wW:Tryz.prog.cellsOf 5=1:=by kernel_rfl
theorem JW:Tryz.prog.bytesOf 5=1:=by kernel_rfl
theorem wf_u8 {n:Int} (h:(Lit.int .u8 n).wf=true):0≤n∧n≤255:=by
 simp only[Lit.wf,Bool.and_eq_true,decide_eq_true_eq] at h
 exact h
theorem pT {g:Nat} {row:List PV} (h:Sh Tryz.prog (g+2) 25 row):∃ (B:PV) (bs:List Int),row=[B]∧B1.Yi B bs∧bs.length≤reachBytes:=by
 rcases tU Tryz.underlying25 Tryz.underlying5 h with rfl | ⟨l,rfl,_,hl,hw⟩
 ·exact⟨_,[],rfl,⟨.inl ⟨rfl,rfl⟩,by simp⟩,Nat.zero_le _⟩
 ·rw[JW,Nat.mul_one] at hl
  exact⟨_,l,rfl,⟨.inr (by rw[wW]),fun b hb=>wf_u8 (hw b hb)⟩,hl⟩
end Go.Proofs.YtijlhblleiaomaaGreat
namespace Go.Proofs.YtijlhblleiaomaaGreat
open Go.ChangeShapes Go.WideShapes Go.ChangeAt Go.RowKit Go.AM
theorem HR {H:Type} (d:DataW H):1≤Rows.uptoBulk d:=by
 cases d with
 |lit l=>cases l <;> simp[Rows.uptoBulk]
 |nil=>simp[Rows.uptoBulk]
 |ptr d=>simp[Rows.uptoBulk]
 |slice elems spare=>simp[Rows.uptoBulk]
 |agg parts=>simp[Rows.uptoBulk]
 |iface t d=>simp[Rows.uptoBulk]
 |map entries=>simp[Rows.uptoBulk]
 |held h=>simp[Rows.uptoBulk]
theorem NI {H:Type} (l:List (DataW H)):l.length≤Rows.uptoBulkAll l:=by
 induction l with
 |nil=>simp[Rows.uptoBulkAll]
 |cons x r ih=>have:=HR x;simp only[Rows.uptoBulkAll,List.length_cons];omega
theorem gO {H:Type} {d:DataW H} {l:List (DataW H)} (h:d∈l):Rows.uptoBulk d≤Rows.uptoBulkAll l:=by
 induction l with
 |nil=>cases h
 |cons x r ih=>
  simp only[Rows.uptoBulkAll]
  cases List.mem_cons.1 h with
  |inl e=>subst e;omega
  |inr e=>have:=ih e;omega
theorem DL {H:Type} {l:List (DataW H)} (hk:Rows.uptoSmall H l=true):Rows.uptoBulkAll l≤1048576:=of_decide_eq_true hk
theorem SL {H:Type} {P:Program} {g:Nat} {t e:TypeId} (hu:P.underlying t=some (.slice e)) {d:DataW H} {c:Nat} {es:List PV} (h:rowOf P (g+1) t d=[.lit c es]):es.length≤Rows.uptoBulk d:=by
 cases d with
 |slice els sp=>
  simp only[rowOf,hu,List.cons.injEq,PV.lit.injEq,and_true] at h
  rw[← h.2,List.length_map]
  have:=NI els
  simp only[Rows.uptoBulk]
  omega
 |lit l=>cases l <;> simp[rowOf,hu] at h
 |_=>simp[rowOf,hu] at h
end Go.Proofs.YtijlhblleiaomaaGreat
