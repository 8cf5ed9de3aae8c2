/- What functions of the program compute. -/
import Derived.Test.YtijlhblleiaomaaGreatN16
import Derived.Test.YtijlhblleiaomaaGreatN15
import Derived.Test.YtijlhblleiaomaaGreatN13
import Derived.Test.YtijlhblleiaomaaGreatN11
import Derived.Test.YtijlhblleiaomaaGreatJ3
import Derived.Test.YtijlhblleiaomaaGreatRows
set_option linter.unusedVariables false
set_option linter.unusedSimpArgs false
namespace Go.AM.B1
open Go.AM Go.AM.So
theorem yM.lit (us:List Int) (n0:Nat):yM (.pv (.lit 1 (us.map i64))) us n0:=by
 refine⟨fun H=>by simp[Mc],fun H i h=> ?_,fun n hn=>Ha⟩
 simp only[ma]
 rw[if_pos ⟨trivial,by unfold Ca;rw[List.length_map];omega⟩,Int.toNat_natCast,List.getElem?_map,List.getElem?_eq_getElem h];rfl
theorem yM.qa (n0:Nat):yM (.pv .qa) [] n0:=⟨fun H=>rfl,fun H i h=>by simp at h,fun n hn=>Ha⟩
theorem yM.uq (us:List Int) {id n0:Nat} (nl:Bool) (h:id < n0):yM (.uq id nl 1 (us.map i64)) us n0:=by
 refine⟨fun H=>by simp[Mc],fun H i h=> ?_,fun n hn=>tA (by omega)⟩
 simp only[ma]
 rw[if_pos ⟨trivial,by unfold Ca;rw[List.length_map];omega⟩,Int.toNat_natCast,List.getElem?_map,List.getElem?_eq_getElem h];rfl
end Go.AM.B1
namespace Go.AM.B1
open Go.AM Go.AM.So
section
variable {A:List aa} {c:Nat} {call:Fa} {S R:PV} {ss:List ec} {es:List PV} {un Sb out:Int} {rb:List Int}
structure YQ (H:List aa) (c:Nat) (S R:PV) (un Sb out:Int) (st fin:Bool):Prop where
 ld:∀ o,na H false 1 (.ptr c o)=ng false 1 [.pv S,.pv (i64 un),.pv R,.pv (i64 Sb),.pv (i64 out),.pv (.bool st),.pv (.bool fin)] o
 pl:∀ d,place H d (.ptr c 0)=some (.ptr c (0+d))
 l0:na H true 1 (.ptr c 0)=some (.pv (.agg [S]))
 nn:sm H 1 (.ptr c 0) (.pv .yd)=some false
theorem YQ.of {H:List aa} {st fin:Bool} (h:H[c]? =some (eT S R un Sb out st fin)):YQ H c S R un Sb out st fin:=by
 have hB:eT S R un Sb out st fin= .box [.pv S,.pv (i64 un),.pv R,.pv (i64 Sb),.pv (i64 out),.pv (.bool st),.pv (.bool fin)]:=rfl
 refine⟨fun o=>by simp only[na,h,hB],fun d=>Ke h d 0,by simp only[na,h,hB];rfl,by simp only[sm,h,hB]⟩
theorem YQ.get {H:List aa} {st fin:Bool} (h:YQ H c S R un Sb out st fin):na H false 1 (.ptr c 1)=some (.pv (i64 un))∧na H false 1 (.ptr c 2)=some (.pv R)∧na H false 1 (.ptr c 3)=some (.pv (i64 Sb))∧na H false 1 (.ptr c 4)=some (.pv (i64 out))∧na H false 1 (.ptr c 5)=some (.pv (.bool st))∧na H false 1 (.ptr c 6)=some (.pv (.bool fin))∧na H true 1 (.ptr c 0)=some (.pv (.agg [S]))∧∀ d,place H d (.ptr c 0)=some (.ptr c (0+d)):=
 ⟨h.ld _,h.ld _,h.ld _,h.ld _,h.ld _,h.ld _,h.l0,h.pl⟩
end
end Go.AM.B1
namespace Go.AM.B1
open Go.AM Go.AM.So
def MT (l:List Int):ByteArray:=⟨(l.map fun n=>UInt8.ofNat n.toNat).toArray⟩
theorem jA:∀ l:List Int,bytesOf (l.map u8)=some (l.map fun n=>UInt8.ofNat n.toNat)
 | []=>rfl
 |x::l=>by
  show (bytesOf (l.map u8)).map (UInt8.ofNat x.toNat:: ·)=_
  rw[jA l];rfl
theorem OJ (H:List aa) (l:List Int):iB H (.pv (.lit 1 (l.map u8)))=some (MT l):=by
 show (bytesOf (l.map u8)).map _=_
 rw[jA];rfl
end Go.AM.B1
namespace Go.AM.B1
open Go.AM Go.AM.So
end Go.AM.B1
namespace Go.AM.B1
open Go.AM Go.AM.So
theorem bC:∃ R,Dd []=some (.rp R 0)∧er (.rp R 0) xl bo∧ue xl∧ik xl∧∀ e∈bo,Qj e:=by
 obtain⟨ta,T,h1,hT,he⟩:=TF (sD (by decide) (by decide) (by decide)) yF ID fD bw
 have hpre:ik xl:=fun i j hi hj=>(show ∀ i:Fin 3,∀ j:Fin 3,xl[i].parts.length < xl[j].parts.length→th xl[i] xl[j]=false by decide) ⟨i,hi⟩ ⟨j,hj⟩
 have hdoc:(.lit 2 (xl.map Ed):PV)= .lit 2 [.agg [.lit 1 [.lit 2 [.agg [i64 0,i64 127]]],i64 0],.agg [.lit 1 [.lit 2 [.agg [i64 194,i64 223]],.lit 2 [.agg [i64 128,i64 191]]],i64 128],.agg [.lit 1 [.lit 2 [.agg [i64 225,i64 225]],.lit 2 [.agg [i64 128,i64 191]],.lit 2 [.agg [i64 128,i64 191]]],i64 4096]]:=rfl
 rw[hdoc] at h1
 obtain⟨R,hR⟩:=(PR.of hT ta).ptr
 subst hR
 refine⟨R,?_,hT,ta,hpre,he⟩
 simp -implicitDefEqProofs only[Dd,SX,sevalprocAttr,wi,h1,oa.eq_1,oa.eq_2,List.set,Bc]
def yB:List Int:=[0,0,0,0,0,0,0,0]
theorem CT:Ak yB 0 []:=⟨rfl,by decide,by decide,fun i hi=>by simp at hi,fun x hx=>by cases hx⟩
theorem fI {call:Fa} (H:List aa):Hd call Bi [.pv (i64 8)] H=some (.bc [.ptr H.length 0,.pv (i64 0)],H++[ee yB 8 0 0]):=by
 have e1:decide ((8:Int) < 1)=false:=rfl
 have e2:decide ((8:Int) > 8)=false:=rfl
 have hb:ee yB 8 0 0= .box [.pv (.int .u8 0),.pv (.int .u8 0),.pv (.int .u8 0),.pv (.int .u8 0),.pv (.int .u8 0),.pv (.int .u8 0),.pv (.int .u8 0),.pv (.int .u8 0),.pv (.int .i64 8),.pv (.int .i64 0),.pv (.int .i64 0)]:=rfl
 rw[hb]
 have hm:∀ n,Ep [.ptr n 0,.pv (.int .i64 0)]= .bc [.ptr n 0,.pv (i64 0)]:=fun _=>rfl
 simp -implicitDefEqProofs only[SX,sevalprocAttr,Bi,e1,e2,oa.eq_1,oa.eq_2,List.set,Bc,hm]
section
variable {call call':Fa} {R:List PV} {bad:Int} (H:List aa)
theorem BG (h80:∀ H,call 80 [.pv (i64 8)] H=Hd call' Bi [.pv (i64 8)] H) (hb:bad=1∨bad=3):
 Hd call Fe [.pv (.rp R 0),.pv (i64 bad)] H=some (.bc [.ptr (H.length+1) 0,.pv (i64 0)],H++[ee yB 8 0 0]++[xc (.rp R 0) bad H.length 0 0 0 false false]):=by
 have hc:=fI (call:=call') H
 rw[← h80] at hc
 have e1:∀ H,sm H 1 (.pv (.rp R 0)) (.pv .yd)=some false:=fun H=>rfl
 have hl:(H++[ee yB 8 0 0]).length=H.length+1:=by simp
 have hm:∀ n,Ep [.ptr n 0,.pv (.int .i64 0)]= .bc [.ptr n 0,.pv (i64 0)]:=fun _=>rfl
 have hd:xc (.rp R 0) bad H.length 0 0 0 false false= .box [.pv (.rp R 0),.pv (.int .i64 bad),.ptr H.length 0,.pv (.int .i64 0),.pv (.int .i64 0),.pv (.int .i64 0),.pv (.bool false),.pv (.bool false)]:=rfl
 rw[hd]
 rcases hb with rfl | rfl
 ·have e3:((1:Int) != 1)=false:=rfl
  simp -implicitDefEqProofs only[SX,sevalprocAttr,Fe,e1,e3,hc,hl,hm,oa.eq_1,oa.eq_2,List.set,Bc]
 ·have e3:((3:Int) != 1)=true:=rfl
  have e4:((3:Int) != 3)=false:=rfl
  simp -implicitDefEqProofs only[SX,sevalprocAttr,Fe,e1,e3,e4,hc,hl,hm,oa.eq_1,oa.eq_2,List.set,Bc]
theorem ZF:Hd call Fe [.pv .yd,.pv (i64 bad)] H=some (.pv (.bc [.yd,i64 2]),H):=by
 have e1:∀ H,sm H 1 (.pv .yd) (.pv .yd)=some true:=fun H=>rfl
 have hm:∀ a b:PV,Ep [.pv a,.pv b]= .pv (.bc [a,b]):=fun _ _=>rfl
 simp -implicitDefEqProofs only[SX,sevalprocAttr,Fe,e1,hm]
theorem Wx (hb:¬(bad=1∨bad=3)):Hd call Fe [.pv (.rp R 0),.pv (i64 bad)] H=some (.pv (.bc [.yd,i64 180]),H):=by
 have e1:∀ H,sm H 1 (.pv (.rp R 0)) (.pv .yd)=some false:=fun H=>rfl
 have e3:(bad != 1)=true:=by simp;exact fun h=>hb (.inl h)
 have e4:(bad != 3)=true:=by simp;exact fun h=>hb (.inr h)
 have hm:∀ a b:PV,Ep [.pv a,.pv b]= .pv (.bc [a,b]):=fun _ _=>rfl
 simp -implicitDefEqProofs only[SX,sevalprocAttr,Fe,e1,e3,e4,hm]
end
section
variable {call call':Fa} {A:List aa} {d c:Nat} (hA:Kc A) (h2:fQ A d c) {T:PV} {bad:Int} {s:iS}
include hA h2
theorem IB (h89:∀ H (k:Int),call 89 [.ptr d 0,.pv (i64 k)] H=Hd call' xb [.ptr d 0,.pv (i64 k)] H) {call'':Fa}
 (h82:∀ H (n:Int),call' 82 [.ptr c 0,.pv (i64 n)] H=Hd call'' Nb [.ptr c 0,.pv (i64 n)] H) (h83:∀ H,call' 83 [.ptr c 0] H=Hd call'' Ib [.ptr c 0] H)
 (hd:A[d]? =some (xc T bad c s.st s.at_ s.Sb s.ea false)) (hc:A[c]? =some (ee s.buf 8 s.h s.q.length)) (hq:Ak s.buf s.h s.q) (hat:s.at_≤1000000):
 ∃ Y st' h',Still Y∧Ak s.buf h' []∧(st'=0∨s.q=[]∧st'=s.st)∧Hd call zb [.ptr d 0] A=some (.pv (.bc [if s.q=[] then .qa else .lit 5 [Dh ⟨3,s.q.length,0⟩ s.at_],i64 0]),Qi A d c (xc T bad c st' ((s.at_+s.q.length:Nat):Int) s.Sb s.ea true) (ee s.buf 8 (h':Nat) 0) Y):=by
 have tp:=Vr hd hc
 have pd:=Ox hd
 have ld:=Zs hd
 have hf:=Eu (T:=T) (bad:=bad) (C:= .rp (mf s.buf 8 s.h s.q.length) 0) (st:=s.st) (at_:=s.at_) (Sb:=s.Sb) (ea:=s.ea) (fin:=false)
 rw[if_neg (by simp)] at hf
 have hm:∀ a b:PV,Ep [.pv a,.pv b]= .pv (.bc [a,b]):=fun _ _=>rfl
 have fl:∀ n:Int,bh (i64 n)=true:=fun n=>rfl
 have hcs:(A.set d (xc T bad c s.st s.at_ s.Sb s.ea true))[c]? =some (ee s.buf 8 s.h s.q.length):=by rw[List.getElem?_set_ne h2.ne];exact hc
 have s7:Pa A 1 (.ptr d 7) (.pv (.bool true))=some (Qi A d c (xc T bad c s.st s.at_ s.Sb s.ea true) (ee s.buf 8 s.h s.q.length) []):=by
  rw[TS hd]
  congr 1
  unfold Qi
  rw[List.append_nil]
  obtain⟨hl',hg'⟩:=List.getElem?_eq_some_iff.1 hcs
  rw[← hg'];exact (List.set_getElem_self _).symm
 have tp2:=Vr (Kx h2 (o1:=xc T bad c s.st s.at_ s.Sb s.ea true) (o2:=ee s.buf 8 s.h s.q.length) (X:=[])) (PC h2)
 have hh:=oC (T:=T) (bad:=bad) (st:=s.st) (at_:=s.at_) (Sb:=s.Sb) (ea:=s.ea) (fin:=true) (r:=8) hq
 generalize Bl T bad (.rp (mf s.buf 8 s.h s.q.length) 0) s.st s.at_ s.Sb s.ea false=row at *
 generalize Bl T bad (.rp (mf s.buf 8 s.h s.q.length) 0) s.st s.at_ s.Sb s.ea true=row2 at *
 obtain⟨f,hfe⟩:∃ f:Int,f=if s.ea then 182 else 0:=⟨_,rfl⟩
 rw[← hfe] at hf
 have hgo:(f != 0)=true→(f != 182)=false:=fun h=>by
  cases hs:s.ea with
  |true=>rw[hs,if_pos rfl] at hfe;rw[hfe];rfl
  |false=>rw[hs,if_neg (by simp)] at hfe;rw[hfe] at h;cases h
 by_cases hq0:s.q=[]
 ·have hz:(((s.q.length:Nat):Int)==0)=true:=by rw[hq0];rfl
  refine⟨[],s.st,s.h,Still.nil,?_,.inr ⟨hq0,rfl⟩,?_⟩
  ·rw[hq0] at hq;exact hq
  ·rw[if_pos hq0]
   have hql:s.q.length=0:=by rw[hq0];rfl
   obtain⟨H1,hH1⟩:∃ H1,H1=Qi A d c (xc T bad c s.st s.at_ s.Sb s.ea true) (ee s.buf 8 s.h s.q.length) []:=⟨_,rfl⟩
   rw[← hH1] at s7 tp2
   have hend:Qi A d c (xc T bad c s.st ((s.at_+s.q.length:Nat):Int) s.Sb s.ea true) (ee s.buf 8 s.h 0) []=H1:=by rw[hH1,hql];rfl
   rw[hend]
   cases hf0:(f != 0) with
   |true=>
    have hf2:=hgo hf0
    simp -implicitDefEqProofs only[SP,WP,sevalprocAttr,zb,tp,pd,ld,hf,fl,hf0,hf2,s7,tp2,hh,hz,hm]
   |false=>
    simp -implicitDefEqProofs only[SP,WP,sevalprocAttr,zb,tp,pd,ld,hf,fl,hf0,s7,tp2,hh,hz,hm]
 ·have hz:(((s.q.length:Nat):Int)==0)=false:=beq_false_of_ne (by have:=List.length_pos_iff.2 hq0;omega)
  obtain⟨Y,y1,y2⟩:=VE (call:=call') (call':=call'') hA h2 Still.nil (T:=T) (bad:=bad) (st:=s.st) (Sb:=s.Sb) (at_:=s.at_) (ea:=s.ea) (fin:=true) hq h82 h83 hat (k:=3) (u:=0) (fun h=>absurd h (by decide)) (fun _=>rfl)
  have hqn:=(Hr (call:=call) hq (H:=[.box ((mf s.buf 8 s.h s.q.length).map .pv)]) (c:=0) rfl (Nat.le_refl _)).1
  rw[List.drop_length] at hqn
  rw[← h89,List.nil_append] at y2
  have bsl:∀ (e:Ty) (a:Int) (H:List aa),((if (List.map AV.pv (Dh e a).cells).length=5∧(List.map AV.pv (Dh e a).cells).all AV.one=true then some (oa [AV.pv (PV.int IntKind.i64 0),AV.pv (PV.int IntKind.i64 0),AV.pv (PV.int IntKind.i64 0),AV.pv (PV.int IntKind.i64 0),AV.pv (PV.int IntKind.i64 0)] 0 (List.map AV.pv (Dh e a).cells)) else none).bind fun cs=>
   if cs.all AV.one=true then Option.map (fun ps=>(AV.pv (PV.lit 5 [PV.agg (List.take 5 ps)]),H)) (Bc cs) else none)=some (.pv (.lit 5 [Dh e a]),H):=fun e a H=>rfl
  refine⟨Y,0,_,y1,hqn,.inl rfl,?_⟩
  rw[if_neg hq0]
  cases hf0:(f != 0) with
  |true=>
   have hf2:=hgo hf0
   simp -implicitDefEqProofs only[SP,WP,sevalprocAttr,zb,tp,pd,ld,hf,fl,hf0,hf2,s7,tp2,hh,hz,y2,bsl,hm]
  |false=>
   simp -implicitDefEqProofs only[SP,WP,sevalprocAttr,zb,tp,pd,ld,hf,fl,hf0,s7,tp2,hh,hz,y2,bsl,hm]
end
end Go.AM.B1
namespace Go.AM.B1
open Go.AM Go.AM.So
structure OH (t:Nat→Option re):Prop where
 kU:t 80=some Bi
 jU:t 81=some yc
 fU:t 82=some Nb
 UT:t 83=some Ib
 rT:t 86=some Fe
 WT:t 87=some wb
 XT:t 89=some xb
 mU:t 90=some Fc
structure Qr (l:List (List je)) (A:List aa) (d c:Nat) (T:PV) (bad:Int) (s:iS):Prop where
 Wt:Kc A
 two:fQ A d c
 hd:A[d]? =some (xc T bad c s.st s.at_ s.Sb s.ea s.fin)
 hc:A[c]? =some (ee s.buf 8 s.h s.q.length)
 q:Ak s.buf s.h s.q
 st:stays l 0 s.q=some s.st
structure sr (A A':List aa) (d c:Nat):Prop where
 le:A.length≤A'.length
 get:∀ k,k < A.length→k≠d→k≠c→A'[k]? =A[k]?
theorem sr.trans {A B C:List aa} {d c:Nat} (h:sr A B d c) (k:sr B C d c):sr A C d c:=⟨Nat.le_trans h.le k.le,fun i hi h1 h2=>(k.get i (Nat.lt_of_lt_of_le hi h.le) h1 h2).trans (h.get i hi h1 h2)⟩
theorem sr.Qi {A:List aa} {d c:Nat} {o1 o2:aa} {X:List aa}:sr A (Qi A d c o1 o2 X) d c:=⟨by rw[Oi];omega,fun k hk h1 h2=>mR hk h1 h2⟩
theorem sr.app {A:List aa} {d c:Nat} (X:List aa):sr A (A++X) d c:=⟨by simp,fun k hk _ _=>List.getElem?_append_left hk⟩
theorem Qr.app {l:List (List je)} {A:List aa} {d c:Nat} {T:PV} {bad:Int} {s:iS} (h:Qr l A d c T bad s) {X:List aa} (hX:Still X):Qr l (A++X) d c T bad s:=
 ⟨hX.Wt h.Wt,⟨by have:=h.two.ld;simp;omega,by have:=h.two.lc;simp;omega,h.two.ne⟩,by rw[List.getElem?_append_left h.two.ld];exact h.hd,by rw[List.getElem?_append_left h.two.lc];exact h.hc,h.q,h.st⟩
section
variable {t:Nat→Option re} (D:OH t) {n:Nat} {T:PV} {ss:List ec} {l:List (List je)} (hT:er T ss l) (ta:ue ss) (ho:∀ e∈l,Qj e) (hpre:ik ss) (ha:Ck ss=some l)
variable {A:List aa} {d c:Nat} {bad:Int} {s:iS}
include D
theorem kC {R:List PV} (hG:Kc A) (hb:bad=1∨bad=3):∃ A',za t (n+2) 86 [.pv (.rp R 0),.pv (i64 bad)] A=some (.bc [.ptr (A.length+1) 0,.pv (i64 0)],A')∧Qr l A' (A.length+1) A.length (.rp R 0) bad ⟨yB,0,[],0,0,0,false,false⟩∧(∀ k,k < A.length→A'[k]? =A[k]?)∧A'.length=A.length+2:=by
 refine⟨_,(Wd _ _ _ _ _ D.rT).trans (BG A (fun H=>Wd _ _ _ _ _ D.kU) hb),⟨?_,⟨by simp,by simp,by omega⟩,by simp,?_,CT,rfl⟩,fun k hk=> ?_,by simp⟩
 ·intro m hm o ho
  simp at hm
  rcases List.mem_append.1 ho with h | h
  ·rcases List.mem_append.1 h with h | h
   ·exact hG m (by omega) o h
   ·simp at h;subst h;exact Qs (Qz m _)
  ·simp at h;subst h
   exact Qs (by simp[xc,II,tD,Oq,Rr,show A.length < m by omega])
 ·rw[List.getElem?_append_left (by simp),List.getElem?_append_right (by omega)];simp
 ·rw[List.getElem?_append_left (by simp;omega),List.getElem?_append_left hk]
theorem gH (h88:t 88=some zb) (hI:Qr l A d c T bad s) (hf:s.fin=false) (hat:s.at_≤1000000):∃ A' s',za t (n+3) 88 [.ptr d 0] A=some (.pv (.bc [if s.q=[] then .qa else .lit 5 [Dh ⟨3,s.q.length,0⟩ s.at_],i64 0]),A')∧Qr l A' d c T bad s'∧sr A A' d c∧s'.q=[]∧s'.at_=s.at_+s.q.length∧s'.Sb=s.Sb∧s'.ea=s.ea∧s'.fin=true:=by
 obtain⟨Y,st',h',hY,hq,hst,hr⟩:=IB (call:=za t (n+2)) (call':=za t (n+1)) (call'':=za t n) hI.Wt hI.two (T:=T) (bad:=bad) (s:=s) (fun H k=>Wd _ _ _ _ _ D.XT) (fun H m=>Wd _ _ _ _ _ D.fU) (fun H=>Wd _ _ _ _ _ D.UT) (by have:=hI.hd;rw[hf] at this;exact this) hI.hc hI.q hat
 have hs0:st'=0:=by
  rcases hst with h | ⟨h,h'⟩
  ·exact h
  ·have:=hI.st
   rw[h] at this
   injection this with this
   rw[h',←this]
 refine⟨_,⟨s.buf,h',[],st',s.at_+s.q.length,s.Sb,s.ea,true⟩,(Wd _ _ _ _ _ h88).trans hr,⟨Xs hI.Wt hI.two hY,⟨?_,?_,hI.two.ne⟩,Kx hI.two,PC hI.two,hq,by rw[hs0];rfl⟩,sr.Qi,rfl,rfl,rfl,rfl,rfl⟩
 ·have:=hI.two.ld;rw[Oi];omega
 ·have:=hI.two.lc;rw[Oi];omega
theorem iC (hI:Qr l A d c T bad s) {U:AV} {bs:List Int} {n0:Nat} (hU:Jy U bs n0) (ht0:0≤s.Sb) (ht1:s.Sb≤65536)
 {e:Int} (he:e=if s.fin then 181 else if s.ea then 182 else if (bs.length:Int) > 65536 - s.Sb then 183 else 0) (h0:e≠0):za t (n+1) 87 [.ptr d 0,U] A=some (.pv (.bc [.qa,i64 e]),A):=
 (Wd _ _ _ _ _ D.WT).trans (QD hI.hd hI.hc hU ht0 ht1 he h0)
include hT ta ho hpre ha
theorem Zq (hI:Qr l A d c T bad s) (hf:s.fin=false) (hs:s.ea=false) {U:AV} {bs:List Int} (hU:Jy U bs A.length) (ht0:0≤s.Sb) (ht1:s.Sb+bs.length≤65536) (hat:s.at_≤65536):
 ∃ A' s' nl out,za t (n+5) 87 [.ptr d 0,U] A=some (.bc [.uq A.length nl 5 (Re s.at_ out),.pv (i64 0)],A')∧Qr l A' d c T bad s'∧sr A A' d c∧A.length < A'.length∧yn ss l (bad==3) s.q bs=(out,s'.q,s'.ea)∧s'.at_=s.at_+Hw out∧s'.Sb=s.Sb+bs.length∧s'.fin=false∧(nl=true→out=[]):=by
 have hd:=hI.hd
 rw[hf,hs] at hd
 obtain⟨r,hr,nl,Y,buf,q,h,st,out,sp,rfl,hY,hq,hst,hfd,hnl,hYl⟩:=vd (ND hT ta ho hpre ha (call:=za t (n+4)) (call':=za t (n+3)) (call'':=za t (n+2)) (call3:=za t (n+1)) hI.Wt hI.two (bad:=bad) (fun H x=>Wd _ _ _ _ _ D.mU) (fun H k=>Wd _ _ _ _ _ D.XT) (fun H x=>Wd _ _ _ _ _ D.jU) (fun H m=>Wd _ _ _ _ _ D.fU) (fun H=>Wd _ _ _ _ _ D.UT) (s:=s) hd hI.hc hI.q hI.st hU ht0 ht1 hat)
 refine⟨_,⟨buf,h,q,st,s.at_+Hw out,s.Sb+bs.length,sp,false⟩,nl,out,(Wd _ _ _ _ _ D.WT).trans hr,⟨Xs hI.Wt hI.two hY,⟨?_,?_,hI.two.ne⟩,Kx hI.two,PC hI.two,hq,hst⟩,sr.Qi,?_,hfd,rfl,rfl,rfl,hnl⟩
 ·have:=hI.two.ld;rw[Oi];omega
 ·have:=hI.two.lc;rw[Oi];omega
 ·rw[Oi];omega
end
section
variable {l:List (List je)} {A:List aa} {d c:Nat} {T:PV} {bad:Int} {s:iS} (h:Qr l A d c T bad s)
include h
theorem OG:∃ row,Ab A 6 (.ptr d 0)=some (.rp row 0)∧Cc [.rp row 0]=some (i64 s.q.length)∧Qc [.rp row 0]=some (i64 s.Sb)∧Vd [.rp row 0]=some (i64 8)∧Yc [.rp row 0]=some (.bool s.ea):=
 ⟨_,Vr h.hd h.hc,oC h.q,AH,uL h.q,uD⟩
theorem Qr.nn:sm A 1 (.ptr d 0) (.pv .yd)=some false:=cT h.hd
end
end Go.AM.B1
namespace Go.AM.B1
open Go.AM Go.AM.So
theorem uQ:yn xl bo (1==3) [] [65,225,128]=([⟨1,1,65⟩],[225,128],false):=by kernel_rfl
theorem GQ:yn xl bo (1==3) [225,128] [66,195]=([⟨2,2,0⟩,⟨1,1,66⟩],[195],false):=by kernel_rfl
theorem Kc.nil:Kc []:=fun _ _ _ h=>by cases h
theorem cH {A:List aa} {n:Nat} {k:Nat} (hn:A.length=n):(A++[aa.tok 1 k false])[n]? =some (aa.tok 1 k false)∧(A++[aa.tok 1 k false]).set n aa.dead=A++[aa.dead]:=by
 subst hn
 exact⟨by simp,by simp⟩
theorem gD:OH ze:=⟨rfl,rfl,rfl,rfl,rfl,rfl,rfl,rfl⟩
theorem Ix:xe []=some (.bool true):=by
 obtain⟨R,htw,hT,ta,hpre,he⟩:=bC
 have h1:=uQ
 have h2:=GQ
 have D:=gD
 obtain⟨A0,n1,i1,_,l1⟩:=kC (n:=6) D (l:=bo) (R:=R) (bad:=1) Kc.nil (.inl rfl)
 rw[List.length_nil,Nat.zero_add] at n1 i1 l1
 obtain⟨A1,hA1⟩:∃ A1,A1=A0++[.dead]:=⟨_,rfl⟩
 have i1':=i1.app Still.dead
 rw[← hA1] at i1'
 have hs1:=cH (k:=3) l1
 rw[← hA1] at hs1
 have hl1:A1.length=3:=by rw[hA1];simp[l1]
 obtain⟨A2,s2,nl2,o2,n2,i2,_,_,f2,a2,t2,fn2,hn2⟩:=Zq (n:=3) D hT ta he hpre bw i1' rfl rfl (Jy.of (B:= .lit 1 [u8 65,u8 225,u8 128]) (bs:=[65,225,128]) ⟨.inr rfl,by decide⟩ _) (by decide) (by decide) (by decide)
 replace f2:=h1.symm.trans f2
 have q1:[⟨1,1,65⟩]=o2:=congrArg (fun x=>x.1) f2
 have q2:[225,128]=s2.q:=congrArg (fun x=>x.2.1) f2
 have q3:false=s2.ea:=congrArg (fun x=>x.2.2) f2
 subst q1
 have hn2:nl2=false:=by cases nl2 with | false=>rfl | true=>cases hn2 rfl
 subst hn2
 rw[hl1] at n2
 obtain⟨row2,tp2,hh2,_⟩:=OG i2
 rw[← q2] at hh2
 obtain⟨m2,hm2⟩:∃ m,A2.length=m:=⟨_,rfl⟩
 obtain⟨A3,hA3⟩:∃ A3,A3=A2++[.dead]:=⟨_,rfl⟩
 have i2':=i2.app Still.dead
 rw[← hA3] at i2'
 have hs2:=cH (k:=2) hm2
 rw[← hA3] at hs2
 have at2:s2.at_=1:=by rw[a2];rfl
 have tt2:s2.Sb=3:=by rw[t2];rfl
 obtain⟨A4,s4,nl4,o4,n4,i4,_,_,f4,a4,t4,fn4,hn4⟩:=Zq (n:=3) D hT ta he hpre bw i2' fn2 q3.symm (Jy.of (B:= .lit 1 [u8 66,u8 195]) (bs:=[66,195]) ⟨.inr rfl,by decide⟩ _) (by rw[tt2];decide) (by rw[tt2];decide) (by rw[at2];decide)
 rw[← q2] at f4
 replace f4:=h2.symm.trans f4
 have q1:[⟨2,2,0⟩,⟨1,1,66⟩]=o4:=congrArg (fun x=>x.1) f4
 have q4:[195]=s4.q:=congrArg (fun x=>x.2.1) f4
 subst q1
 have hn4:nl4=false:=by cases nl4 with | false=>rfl | true=>cases hn4 rfl
 subst hn4
 rw[at2] at n4 a4
 have at4:s4.at_=4:=by rw[a4];rfl
 obtain⟨A5,s5,n5,_⟩:=gH (n:=5) D rfl i4 fn4 (by rw[at4];decide)
 rw[← q4,at4,if_neg (by simp)] at n5
 have e1:=i1.nn
 have sm1:bd [.lit 5 (Re 0 [⟨1,1,65⟩]),.lit 5 [.agg [.int .i64 1,.int .i64 0,.int .i64 1,.int .i64 65,.int .i64 0]]]=some (.bool true):=by kernel_rfl
 have sm2:bd [.lit 5 (Re 1 [⟨2,2,0⟩,⟨1,1,66⟩]),.lit 5 [.agg [.int .i64 2,.int .i64 1,.int .i64 2,.int .i64 0,.int .i64 0],.agg [.int .i64 1,.int .i64 3,.int .i64 1,.int .i64 66,.int .i64 0]]]=some (.bool true):=by kernel_rfl
 have sm3:bd [.lit 5 [Dh ⟨3,([195]:List Int).length,0⟩ ((4:Nat):Int)],.lit 5 [.agg [.int .i64 3,.int .i64 4,.int .i64 1,.int .i64 0,.int .i64 0]]]=some (.bool true):=by kernel_rfl
 have tu:∀ H n es,Ab H 6 (.uq n false 5 es)=some (.lit 5 es):=fun H n es=>rfl
 obtain⟨call,hcall⟩:∃ x,x=za ze 8:=⟨_,rfl⟩
 rw[← hcall] at n1 n2 n4 n5
 rw[xe,fc,←hcall]
 generalize Re 0 [⟨1,1,65⟩]=W1 at *
 generalize hW2:Re 1 [⟨2,2,0⟩,⟨1,1,66⟩]=W2 at *
 generalize Dh ⟨3,([195]:List Int).length,0⟩ ((4:Nat):Int)=W3 at *
 have z0:((0:Int)==0)=true:=rfl
 have z1:((0:Int) != 0)=false:=rfl
 have z2:((([225,128]:List Int).length:Int)==2)=true:=rfl
 have fl:∀ n:Int,bh (i64 n)=true:=fun n=>rfl
 have n2':call 87 [.ptr 1 0,.pv (.lit 1 [.int .u8 65,.int .u8 225,.int .u8 128])] A1=some (.bc [.uq 3 false 5 W1,.pv (i64 0)],A2):=n2
 have n4':call 87 [.ptr 1 0,.pv (.lit 1 [.int .u8 66,.int .u8 195])] A3=some (.bc [.uq A3.length false 5 W2,.pv (i64 0)],A4):=n4
 clear hcall hA1 hA3 h1 h2 n2 n4
 simp -implicitDefEqProofs only[SP,WP,sevalprocAttr,kh,htw,n1,e1,z1,l1,hs1,n2',tp2,hh2,fl,hm2,hs2,n4',n5,tu,sm1,sm2,sm3,z0,z2,oa.eq_1,oa.eq_2,List.set,Bc]
theorem fJ {call:Fa} {B:PV} {bs:List Int} (hB:ej B bs) (H:List aa):Hd call wb [.pv .yd,.pv B] H=some (.pv (.bc [.qa,i64 2]),H)∧Hd call zb [.pv .yd] H=some (.pv (.bc [.qa,i64 2]),H):=by
 have hf:tc [.yd]=some (i64 2):=by kernel_rfl
 have lB:=hB.Mc
 have hm:∀ a b:PV,Ep [.pv a,.pv b]= .pv (.bc [a,b]):=fun _ _=>rfl
 have z0:((2:Int)==0)=false:=rfl
 have z1:((2:Int) != 0)=true:=rfl
 have z2:((2:Int) != 182)=true:=rfl
 constructor
 ·simp -implicitDefEqProofs only[SX,sevalprocAttr,wb,hf,lB,z0,z1,hm]
 ·simp -implicitDefEqProofs only[SX,sevalprocAttr,zb,hf,z1,z2,hm]
theorem rB {B:PV} {bs:List Int} (hB:ej B bs):Xf [B]=some (.bool true):=by
 have hf:=Ix
 have n1:=fun H=>(Wd Wb 7 87 [.pv .yd,.pv B] H rfl).trans (fJ hB H).1
 have n2:=fun H=>(Wd Wb 7 88 [.pv .yd] H rfl).trans (fJ hB H).2
 have g1:Cc [.yd]=some (i64 0):=by kernel_rfl
 have g2:Qc [.yd]=some (i64 0):=by kernel_rfl
 have g3:Vd [.yd]=some (i64 0):=by kernel_rfl
 have g4:Yc [.yd]=some (.bool false):=by kernel_rfl
 have z0:((0:Int)==0)=true:=rfl
 have z2:((2:Int)==2)=true:=rfl
 have z3:(((0:Nat):Int))=0:=rfl
 have w0:IntKind.i64.wrap 0=0:=rfl
 rw[Xf,fc]
 generalize za Wb 8=call at *
 simp -implicitDefEqProofs only[SX,sevalprocAttr,ve,hf,n1,n2,g1,g2,g3,g4,z0,z2,z3,w0]
end Go.AM.B1
set_option maxRecDepth 100000
namespace Go.Proofs.YtijlhblleiaomaaGreat
open Go.ChangeShapes Go.WideShapes Go.ChangeAt Go.RowKit Go.AM
theorem own:ownKnob Tryz.prog.godebug=none:=by kernel_rfl
theorem laidOut:laidOutB Tryz.prog=true:=by kernel_rfl
theorem JR:Tryz.prog.cellsOf 5=1:=by kernel_rfl
theorem KR:Tryz.prog.bytesOf 5=1:=by kernel_rfl
theorem wf_u8 {n:Int} (h:(Lit.int .u8 n).wf=true):0≤n∧n≤255:=by
 simp only[Lit.wf,Bool.and_eq_true,decide_eq_true_eq] at h
 exact h
theorem XN {g:Nat} {row:List PV} (h:Sh Tryz.prog (g+2) 25 row):∃ (B:PV) (bs:List Int),row=[B]∧B1.ej B bs∧bs.length≤reachBytes:=by
 rcases RP Tryz.underlying25 Tryz.underlying5 h with rfl | ⟨l,rfl,_,hl,hw⟩
 ·exact⟨_,[],rfl,⟨.inl ⟨rfl,rfl⟩,by simp⟩,Nat.zero_le _⟩
 ·rw[KR,Nat.mul_one] at hl
  exact⟨_,l,rfl,⟨.inr (by rw[JR]),fun b hb=>wf_u8 (hw b hb)⟩,hl⟩
end Go.Proofs.YtijlhblleiaomaaGreat
namespace Go.AM.B1
open Go.AM Go.AM.So
theorem NA (p:PV):∀ n,Bc (zi [p] n)=some (List.replicate n p)
 |0=>rfl
 |n+1=>by
  show (Bc (zi [p] n)).map (p:: ·)=_
  rw[NA p n];rfl
theorem nA (p:PV):∀ n,chunk 1 false n (List.replicate n p)=List.replicate n p
 |0=>rfl
 |n+1=>by rw[chunk,List.replicate_succ,List.drop_one,List.tail_cons,nA p n];rfl
def ig (n:Nat):List Int:=List.replicate n 0
theorem ZD (n:Nat):ej (.lit 1 ((ig n).map u8)) (ig n):=⟨.inr rfl,fun b hb=>by rw[List.eq_of_mem_replicate hb];decide⟩
theorem eh (n:Nat):(ig n).length=n:=List.length_replicate
theorem pO (call:Fa) (e:Tr) (H:List aa) {x y:AO} {n:Nat} (hx:x.ev e= .pv (i64 n)) (hy:y.ev e= .pv (i64 n)) (hn:n≤1000000):da call e H (.ye .lit 1 false [.int .u8 0] 1 x y)=some (.pv (.lit 1 ((ig n).map u8)),H):=by
 simp only[da,hx,hy,asInt,Option.bind_some]
 rw[if_pos ⟨by omega,Int.le_refl _,by unfold Cb;omega⟩,Int.toNat_natCast,fresh,NA,Option.map_some,nA,ig,List.map_replicate]
theorem XE (stop:Bool):qk xl bo stop [] 0 0=([⟨1,1,0⟩],[]):=by cases stop <;> kernel_rfl
theorem Mr (stop:Bool):∀ n,yn xl bo stop [] (ig n)=(List.replicate n ⟨1,1,0⟩,[],false)
 |0=>rfl
 |n+1=>by
  rw[ig,List.replicate_succ,yn,show (stays bo 0 []).getD 0=0 from rfl,XE]
  have ih:=Mr stop n
  rw[ig] at ih
  simp only[ih]
  cases stop <;> rfl
theorem NP (n:Nat):Hw (List.replicate n ⟨1,1,0⟩)=n:=by simp[Hw]
theorem CD:OH eb:=⟨rfl,rfl,rfl,rfl,rfl,rfl,rfl,rfl⟩
theorem zy:vf []=some (.bool true):=by
 have hfx:=Ix
 obtain⟨R,htw,hT,ta,hpre,he⟩:=bC
 have D:=CD
 have n1:za eb 8 86 [.pv .yd,.pv (i64 0)] []=_:=(Wd _ 7 _ _ _ D.rT).trans (ZF [])
 have n2:za eb 8 86 [.pv (.rp R 0),.pv (i64 2)] []=_:=(Wd _ 7 _ _ _ D.rT).trans (Wx [] (by decide))
 have n3:za eb 8 86 [.pv (.rp R 0),.pv (i64 0)] []=_:=(Wd _ 7 _ _ _ D.rT).trans (Wx [] (by decide))
 obtain⟨A0,n4,i0,_,l0⟩:=kC (n:=6) D (l:=bo) (R:=R) (bad:=3) Kc.nil (.inr rfl)
 rw[List.length_nil,Nat.zero_add] at n4 i0 l0
 have hz:=fun n=>Jy.of (ZD n)
 obtain⟨A1,s1,nl1,o1,m1,i1,_,_,f1,a1,t1,fn1,hn1⟩:=Zq (n:=3) D hT ta he hpre bw i0 rfl rfl (hz 65535 _) (by decide) (by rw[eh];decide) (by decide)
 rw[show ((3:Int)==3)=true from rfl] at f1
 replace f1:=(Mr true 65535).symm.trans f1
 have q1:List.replicate 65535 ⟨1,1,0⟩=o1:=congrArg (fun x=>x.1) f1
 have q2:[]=s1.q:=congrArg (fun x=>x.2.1) f1
 have q3:false=s1.ea:=congrArg (fun x=>x.2.2) f1
 subst q1
 have at1:s1.at_=65535:=by rw[a1,NP]
 have tt1:s1.Sb=65535:=by rw[t1,eh];rfl
 have m2:=iC (n:=7) D i1 (hz 2 0) (by rw[tt1];decide) (by rw[tt1];decide) (e:=183) (by rw[fn1,←q3,tt1,eh];decide) (by decide)
 obtain⟨A2,s2,nl2,o2,m3,i2,_,_,f2,a2,t2,fn2,hn2⟩:=Zq (n:=3) D hT ta he hpre bw i1 fn1 q3.symm (hz 1 _) (by rw[tt1];decide) (by rw[tt1,eh];decide) (by rw[at1];decide)
 rw[show ((3:Int)==3)=true from rfl,←q2] at f2
 replace f2:=(Mr true 1).symm.trans f2
 have q1:List.replicate 1 ⟨1,1,0⟩=o2:=congrArg (fun x=>x.1) f2
 have q4:false=s2.ea:=congrArg (fun x=>x.2.2) f2
 subst q1
 have tt2:s2.Sb=65536:=by rw[t2,eh,tt1];rfl
 have m4:=iC (n:=7) D i2 (hz 1 0) (by rw[tt2];decide) (by rw[tt2];decide) (e:=183) (by rw[fn2,←q4,tt2,eh];decide) (by decide)
 obtain⟨row,tp,_,ht,_⟩:=OG i2
 rw[tt2] at ht
 have e1:=i0.nn
 have e2:∀ H,sm H 1 (.pv .yd) (.pv .yd)=some true:=fun H=>rfl
 obtain⟨L,hL⟩:∃ L,L=(ig 65536).map u8:=⟨_,rfl⟩
 have hmk:=fun (call:Fa) e H=>pO call e H (x:= .c (.int .i64 65536)) (y:= .c (.int .i64 65536)) (n:=65536) rfl rfl (by decide)
 rw[← hL] at hmk
 have sl1:∀ H,Ad H 1 (.pv (.lit 1 L)) (some 1) none=some (.pv (.lit 1 ((ig 65535).map u8))):=fun H=>by
  have:L=u8 0::(ig 65535).map u8:=by rw[hL];rfl
  have hl:((ig 65535).map u8).length=65535:=by rw[List.length_map,eh]
  rw[this]
  simp only[Ad,Option.getD_some,Option.getD_none]
  rw[if_pos ⟨by decide,trivial,by decide,by rw[List.length_cons,hl];decide,Int.le_refl _⟩,Int.toNat_natCast,List.take_length];rfl
 have sl2:∀ H (k:Nat),k≤65536→Ad H 1 (.pv (.lit 1 L)) none (some (k:Int))=some (.pv (.lit 1 ((ig k).map u8))):=fun H k hk=>by
  have hl:L.length=65536:=by rw[hL,List.length_map,eh]
  rw[iN H L k (by omega),hL,ig,ig,List.map_replicate,List.map_replicate,List.take_replicate,Nat.min_eq_left hk]
 have sl22:=fun H=>sl2 H 2 (by decide)
 have sl21:=fun H=>sl2 H 1 (by decide)
 obtain⟨Z,hZ⟩:∃ Z,Z=(ig 65535).map u8:=⟨_,rfl⟩
 obtain⟨Z2,hZ2⟩:∃ Z,Z=(ig 2).map u8:=⟨_,rfl⟩
 obtain⟨Z1,hZ1⟩:∃ Z,Z=(ig 1).map u8:=⟨_,rfl⟩
 rw[← hZ] at sl1 m1
 rw[← hZ2] at sl22 m2
 rw[← hZ1] at sl21 m3 m4
 have hw:(Re s1.at_ (List.replicate 1 ⟨1,1,0⟩))=[Dh ⟨1,1,0⟩ 65535]:=by rw[at1];rfl
 rw[hw] at m3
 have hlen:∀ H n nl,Mc H 0 (.uq n nl 5 (Re (0:Nat) (List.replicate 65535 ⟨1,1,0⟩)))=some 65535:=fun H n nl=>by rw[cE,Ap,List.length_replicate]
 replace m1:za eb 8 87 [.ptr 1 0,.pv (.lit 1 Z)] A0=some (.bc [.uq A0.length nl1 5 (Re (0:Nat) (List.replicate 65535 ⟨1,1,0⟩)),.pv (i64 0)],A1):=m1
 generalize Re (0:Nat) (List.replicate 65535 ⟨1,1,0⟩)=W1 at *
 have ia:∀ H n nl,ma H 5 (.uq n nl 5 [Dh ⟨1,1,0⟩ 65535]) 0=some (.pv (.rp [i64 1,i64 65535,i64 1,i64 0,i64 0] 0)):=fun H n nl=>rfl
 have ip:∀ H,place H 1 (.pv (.rp [i64 1,i64 65535,i64 1,i64 0,i64 0] 0))=some (.pv (.rp [i64 1,i64 65535,i64 1,i64 0,i64 0] 1)):=fun H=>rfl
 have il:∀ H,na H false 1 (.pv (.rp [i64 1,i64 65535,i64 1,i64 0,i64 0] 1))=some (.pv (i64 65535)):=fun H=>rfl
 have z1:((2:Int) != 2)=false:=rfl
 have z2:((180:Int) != 180)=false:=rfl
 have z4:((0:Int) != 0)=false:=rfl
 have z5:((0:Int)==0)=true:=rfl
 have z6:(((65535:Nat):Int)==65535)=true:=rfl
 have z6':((65535:Int)==65535)=true:=rfl
 have z7:((183:Int)==183)=true:=rfl
 have z8:((65536:Int)==65536)=true:=rfl
 have z9:(((1:Nat):Int)==1)=true:=rfl
 have z9':((1:Int)==1)=true:=rfl
 have fl:∀ n:Int,bh (i64 n)=true:=fun n=>rfl
 have hs22:∀ H,Ad H 1 (.pv (.lit 1 L)) none (some 2)=some (.pv (.lit 1 Z2)):=sl22
 have hs21:∀ H,Ad H 1 (.pv (.lit 1 L)) none (some 1)=some (.pv (.lit 1 Z1)):=sl21
 rw[vf,fc]
 generalize za eb 8=call at *
 clear hL hZ hZ2 hZ1 sl22 sl21 sl2
 simp -implicitDefEqProofs only[SP,WP,sevalprocAttr,-List.reduceReplicate,xf,hfx,htw,n1,n2,n3,n4,e1,e2,↓hmk,sl1,hs22,hs21,m1,m2,m3,m4,hlen,ia,ip,il,tp,ht,fl,z1,z2,z4,z5,z6,z6',z7,z8,z9,z9']
end Go.AM.B1
