/- What functions of the program compute. -/
import Derived.Test.YtijlhblleiaomaaGreatV14
import Derived.Test.YtijlhblleiaomaaGreatV3
import Derived.Test.YtijlhblleiaomaaGreatV8
import Derived.Test.YtijlhblleiaomaaGreatV13
import Derived.Test.YtijlhblleiaomaaGreatV10
import Derived.Test.YtijlhblleiaomaaGreatV11
set_option linter.unusedVariables false
set_option linter.unusedSimpArgs false
namespace Go.AM.B1
open Go.AM Go.AM.So
section
variable {S:PV} {ss:List Lb} {es:List PV} (hS:eb S ss es) (Ba:Tb ss)
include hS Ba
end
end Go.AM.B1
namespace Go.AM.B1
open Go.AM Go.AM.So
theorem TQ.lit (us:List Int) (n0:Nat):TQ (.pv (.lit 1 (us.map i64))) us n0:=by
 refine⟨fun H=>by simp[Vb],fun H i h=> ?_,fun n hn=>Ma⟩
 simp only[wa]
 rw[if_pos ⟨trivial,by unfold Ia;rw[List.length_map];omega⟩,Int.toNat_natCast,List.getElem?_map,List.getElem?_eq_getElem h];rfl
theorem TQ.ma (n0:Nat):TQ (.pv .ma) [] n0:=⟨fun H=>rfl,fun H i h=>by simp at h,fun n hn=>Ma⟩
theorem TQ.uq (us:List Int) {id n0:Nat} (nl:Bool) (h:id < n0):TQ (.uq id nl 1 (us.map i64)) us n0:=by
 refine⟨fun H=>by simp[Vb],fun H i h=> ?_,fun n hn=>ID (by omega)⟩
 simp only[wa]
 rw[if_pos ⟨trivial,by unfold Ia;rw[List.length_map];omega⟩,Int.toNat_natCast,List.getElem?_map,List.getElem?_eq_getElem h];rfl
end Go.AM.B1
namespace Go.AM.B1
open Go.AM Go.AM.So
section
variable {A:List ba} {c:Nat} {call:Wa} {S R:PV} {ss:List Lb} {es:List PV} {un tot out:Int} {rb:List Int}
structure CV (H:List ba) (c:Nat) (S R:PV) (un tot out:Int) (st fin:Bool):Prop where
 ld:∀ o,xa H false 1 (.ptr c o)=bh false 1 [.pv S,.pv (i64 un),.pv R,.pv (i64 tot),.pv (i64 out),.pv (.bool st),.pv (.bool fin)] o
 pl:∀ d,place H d (.ptr c 0)=some (.ptr c (0+d))
 l0:xa H true 1 (.ptr c 0)=some (.pv (.agg [S]))
 nn:Vs H 1 (.ptr c 0) (.pv .Sg)=some false
theorem CV.of {H:List ba} {st fin:Bool} (h:H[c]? =some (TY S R un tot out st fin)):CV H c S R un tot out st fin:=by
 have hB:TY S R un tot out st fin= .box [.pv S,.pv (i64 un),.pv R,.pv (i64 tot),.pv (i64 out),.pv (.bool st),.pv (.bool fin)]:=rfl
 refine⟨fun o=>by simp only[xa,h,hB],fun d=>ng h d 0,by simp only[xa,h,hB];rfl,by simp only[Vs,h,hB]⟩
theorem CV.get {H:List ba} {st fin:Bool} (h:CV H c S R un tot out st fin):xa H false 1 (.ptr c 1)=some (.pv (i64 un))∧xa H false 1 (.ptr c 2)=some (.pv R)∧xa H false 1 (.ptr c 3)=some (.pv (i64 tot))∧xa H false 1 (.ptr c 4)=some (.pv (i64 out))∧xa H false 1 (.ptr c 5)=some (.pv (.bool st))∧xa H false 1 (.ptr c 6)=some (.pv (.bool fin))∧xa H true 1 (.ptr c 0)=some (.pv (.agg [S]))∧∀ d,place H d (.ptr c 0)=some (.ptr c (0+d)):=
 ⟨h.ld _,h.ld _,h.ld _,h.ld _,h.ld _,h.ld _,h.l0,h.pl⟩
end
end Go.AM.B1
namespace Go.AM.B1
open Go.AM Go.AM.So
def sY (l:List Int):ByteArray:=⟨(l.map fun n=>UInt8.ofNat n.toNat).toArray⟩
theorem OD:∀ l:List Int,bytesOf (l.map u8)=some (l.map fun n=>UInt8.ofNat n.toNat)
 | []=>rfl
 |x::l=>by
  show (bytesOf (l.map u8)).map (UInt8.ofNat x.toNat:: ·)=_
  rw[OD l];rfl
theorem gI (H:List ba) (l:List Int):ED H (.pv (.lit 1 (l.map u8)))=some (sY l):=by
 show (bytesOf (l.map u8)).map _=_
 rw[OD];rfl
theorem yY (x:ByteArray):tI .neq x x=some (.bool false):=by
 show some (PV.bool (!(x.data.toList==x.data.toList)))=_
 rw[QS];rfl
end Go.AM.B1
namespace Go.AM.B1
open Go.AM Go.AM.So
end Go.AM.B1
namespace Go.AM.B1
open Go.AM Go.AM.So
theorem oQ:∃ T l,Mi []=some T∧sg Rx=some l∧Bo T Rx l∧Tb Rx∧∀ e∈l,Ej e:=by
 obtain⟨l,hl⟩:=Option.isSome_iff_exists.1 SL
 obtain⟨Ba,T,h1,hT,he⟩:=QK (DI (by decide) (by decide) (by decide)) oJ iI YI hl
 refine⟨T,l,?_,hl,hT,Ba,he⟩
 have hdoc:(.lit 2 (Rx.map Oe):PV)= .lit 2 [.agg [.lit 1 [.lit 2 [.agg [i64 0,i64 127]]],i64 0],.agg [.lit 1 [.lit 2 [.agg [i64 194,i64 223]],.lit 2 [.agg [i64 128,i64 191]]],i64 128],.agg [.lit 1 [.lit 2 [.agg [i64 225,i64 225]],.lit 2 [.agg [i64 128,i64 191]],.lit 2 [.agg [i64 128,i64 191]]],i64 4096]]:=rfl
 rw[hdoc] at h1
 obtain⟨R,hR⟩:=(YX.of hT Ba).ptr
 subst hR
 simp -implicitDefEqProofs only[Mi,SX,sevalprocAttr,Gk,h1,oa.eq_1,oa.eq_2,List.set,ve]
def uI:List GJ:=[⟨1,1,65⟩,⟨1,2,233⟩,⟨2,2,0⟩,⟨1,1,66⟩,⟨2,1,0⟩,⟨3,1,0⟩]
theorem XR:(sg Rx).map (fun l=>Gy Rx l [65,195,169,225,128,66,128,225])=some uI:=by kernel_rfl
theorem VJ:vh []=some (.bool true):=by
 obtain⟨T,l,htw,hl,hT,Ba,he⟩:=oQ
 have hev:=XR
 rw[hl,Option.map_some,Option.some.injEq] at hev
 have hB:Wi (.lit 1 [.int .u8 65,.int .u8 195,.int .u8 169,.int .u8 225,.int .u8 128,.int .u8 66,.int .u8 128,.int .u8 225]) [65,195,169,225,128,66,128,225]:=⟨.inr rfl,by decide⟩
 obtain⟨V,hls,hV⟩:=sF hT Ba he hB (by decide) 0
 rw[List.drop_zero,hev] at hV
 rcases hV with⟨_,h⟩ | rfl
 ·exact absurd h (by simp[uI,Bm])
 obtain⟨R,rfl⟩:∃ R,T= .rp R 0:=by
  obtain⟨S',NX,DG,RW,h,_⟩:=hT.ex
  exact⟨_,h⟩
 have hsm:rk [.lit 5 (Bm 0 uI),.lit 5 [.agg [.int .i64 1,.int .i64 0,.int .i64 1,.int .i64 65,.int .i64 0],.agg [.int .i64 1,.int .i64 1,.int .i64 2,.int .i64 233,.int .i64 0],.agg [.int .i64 2,.int .i64 3,.int .i64 2,.int .i64 0,.int .i64 0],.agg [.int .i64 1,.int .i64 5,.int .i64 1,.int .i64 66,.int .i64 0],.agg [.int .i64 2,.int .i64 6,.int .i64 1,.int .i64 0,.int .i64 0],.agg [.int .i64 3,.int .i64 7,.int .i64 1,.int .i64 0,.int .i64 0]]]=some (.bool true):=by kernel_rfl
 have e1:∀ H,Vs H 1 (.pv (.rp R 0)) (.pv .Sg)=some false:=fun H=>rfl
 generalize Bm 0 uI=W at *
 replace hls:Mc [.rp R 0,.lit 1 [.int .u8 65,.int .u8 195,.int .u8 169,.int .u8 225,.int .u8 128,.int .u8 66,.int .u8 128,.int .u8 225],.int .i64 0]=some (.lit 5 W):=hls
 simp -implicitDefEqProofs only[vh,SX,sevalprocAttr,zj,htw,hls,hsm,e1,oa.eq_1,oa.eq_2,List.set,ve]
end Go.AM.B1
namespace Go.AM.B1
open Go.AM Go.AM.So
theorem AN {S:PV} {ss:List Lb} {es:List PV} (hS:eb S ss es) (hz:AE ss):∃ T,wg [.agg [S]]=some (.mc [T,.bool true])∧
 (T= .Sg∨(Tb ss∧xg ss∧Vk ss∧∃ l,sg ss=some l∧Bo T ss l∧∀ e∈l,Ej e)):=by
 obtain⟨n,V,hr,_,hV1,ht⟩:=PH ss
 have hr:=hr S es hS
 obtain⟨T,ht,ho⟩:=ht (oZ ss) (Zo ss) (iM hS)
 have hcp:=yR hS hz
 have hS1:(AV.pv S).one=true:=by rcases hS.is with⟨h,_⟩ | h <;> rw[h] <;> rfl
 have s1:Oa [.box [.pv .ma]] 1 (.ptr 0 0) (.pv (.agg [V]))=some [.box [.pv V]]:=by simp[Oa,AV.cells,PV.cells,hV1,oa]
 have d1:(n==n)=true:=by simp
 refine⟨T,?_,ho.imp (fun h=>h.2) (fun h=>h.2)⟩
 rcases ho with⟨h0,rfl⟩ | ⟨rfl,_,_,_,l,_,hT,_⟩
 ·have d2:(n != 0)=true:=by simp[h0]
  have e1:∀ H,Vs H 1 (.pv .Sg) (.pv .Sg)=some true:=fun H=>rfl
  have e2:∀ H,Vs H 0 (.pv (.bool true)) (.pv (.bool true))=some true:=fun H=>rfl
  simp -implicitDefEqProofs only[wg,SX,sevalprocAttr,ni,hS1,zc,hcp,ht,hr,s1,d1,d2,e1,e2]
 ·have d2:((0:Int) != 0)=false:=rfl
  have d1:((0:Int)==0)=true:=rfl
  obtain⟨R,rfl⟩:∃ R,T= .rp R 0:=by
   obtain⟨S',NX,DG,RW,h,_⟩:=hT.ex
   exact⟨_,h⟩
  have e1:∀ H,Vs H 1 (.pv (.rp R 0)) (.pv .Sg)=some false:=fun H=>rfl
  have e2:∀ H,Vs H 0 (.pv (.bool false)) (.pv (.bool false))=some true:=fun H=>rfl
  simp -implicitDefEqProofs only[wg,SX,sevalprocAttr,ni,hS1,zc,hcp,ht,hr,s1,d1,d2,e1,e2]
end Go.AM.B1
