/- What functions of the program compute. -/
import Derived.Test.YtijlhblleiaomaaGreatV3
import Derived.Test.YtijlhblleiaomaaGreatV2
import Derived.Test.YtijlhblleiaomaaGreatV1
import Derived.Test.YtijlhblleiaomaaGreatI3
set_option linter.unusedVariables false
set_option linter.unusedSimpArgs false
namespace Go.AM.B1
open Go.AM
def dD:PV→Option (List PV)
 | .ma=>some []
 | .lit 1 es=>some es
 |_=>none
def Uu (tv:PV) (es:List PV):Nat→Nat→Option (List (List PV))
 |0,_=>none
 |n+1,k=>if es.length≤k then some [] else (Zf [tv,.lit 1 (es.drop k)]).bind fun e=>match e with
  | .agg [.int .i64 x,.int .i64 a,.int .i64 z,.int .i64 u,.int .i64 o]=>if 1≤z∧z+k≤es.length then (Uu tv es n (k+z.toNat)).map ([.agg [.int .i64 x,.int .i64 k,.int .i64 z,.int .i64 u,.int .i64 o]]:: ·) else none
  |_=>none
def Bf:List PV→Option (List (List PV))
 | [.rp [.Sg] 0,.rp [.int .i64 fr] 0,.rp [bv] 0]=>some []
 | [.rp [.rp tr 0] 0,.rp [.int .i64 fr] 0,.rp [bv] 0]=>if fr < 0 then some [] else (dD bv).bind fun es=>if es.length≤4611686018427387904 then Uu (.rp tr 0) es (es.length+1) fr.toNat else none
 |_=>none
theorem Zs:∀ (es:List PV) (k:Nat),(∀ e∈es,e.cells.length=1)→(flat es).drop k=flat (es.drop k)
 | [],k,_=>by simp[flat]
 |e::es,0,_=>rfl
 |e::es,k+1,h=>by
  have he:=h e (by simp)
  rw[flat,List.drop_succ_cons,List.drop_append,he,List.drop_of_length_le (by omega),List.nil_append,Nat.add_sub_cancel]
  exact Zs es k fun x hx=>h x (by simp[hx])
theorem xQ {R:Rd} {l:PV} {es:List PV} {v:Value} (hp:dD l=some es) (h:Sa R l v):∃ a cap,v= .slice a es.length cap∧
 (∀ k,k < es.length→∃ b o,a=some ⟨b,o,none⟩∧es.length≤cap∧∀ R':Rd,Sa R' l v→Sa R' (.lit 1 (es.drop k)) (.slice (some ⟨b,o+k,none⟩) (es.length - k) (cap - k))):=by
 unfold dD at hp
 split at hp
 ·injection hp with hp;subst hp
  cases h
  exact⟨none,0,rfl,fun k h=>by simp at h⟩
 ·injection hp with hp;subst hp
  cases h with
  |lit _ _ b o cap h1 h2 h3=>
   refine⟨some ⟨b,o,none⟩,cap,rfl,fun k hk=>⟨b,o,rfl,h1,fun R' hR'=> ?_⟩⟩
   rename_i es
   generalize hv:Value.slice (some (⟨b,o,none⟩:Addr)) es.length cap=v at hR'
   cases hR' with
   |lit _ _ b' o' cap' _ _ h3'=>
    cases hv
    have h4:=h3'.drop k
    have hfl:(flat es).drop k=flat (es.drop k):=Zs es k h2
    rw[hfl] at h4
    have:=Sa.lit (R:=R') 1 (es.drop k) b (o+k) (cap - k) (by rw[List.length_drop];omega) (fun e he=>h2 e (List.mem_of_mem_drop he)) h4
    rw[List.length_drop] at this
    exact this
   |Jz=>simp at hk
  |Jz _ a=>exact⟨some a,0,rfl,fun k hk=>by simp at hk⟩
 ·cases hp
theorem wN {tv:PV} {es:List PV} {m k:Nat} {rest:List (List PV)} (h:Uu tv es m k=some rest):(es.length≤k∧rest=[])∨(k < es.length∧∃ m' x a z u o rest',m=m'+1∧Zf [tv,.lit 1 (es.drop k)]=some (.agg [.int .i64 x,.int .i64 a,.int .i64 z,.int .i64 u,.int .i64 o])∧
 1≤z∧z+k≤es.length∧Uu tv es m' (k+z.toNat)=some rest'∧rest=[.agg [.int .i64 x,.int .i64 k,.int .i64 z,.int .i64 u,.int .i64 o]]::rest'):=by
 cases m with
 |zero=>cases h
 |succ m=>
  rw[Uu] at h
  split at h
  ·next hc=>injection h with h;exact .inl ⟨hc,h.symm⟩
  ·next hc=>
   rw[Option.bind_eq_some_iff] at h
   obtain⟨e,h1,h2⟩:=h
   split at h2
   ·split at h2
    ·next hz=>
     rw[Option.map_eq_some_iff] at h2
     obtain⟨r,h3,h4⟩:=h2
     exact .inr ⟨by omega,m,_,_,_,_,_,r,rfl,h1,hz.1,hz.2,h3,h4.symm⟩
    ·cases h2
   ·cases h2
def eP:List gb:=[Cp 18 (.load false 1 (.t 1)),Cp 19 (.load false 1 (.t 3)),Cv 20 5,Cp 21 (.slice 1 (.t 19) (some (.t 20)) none),Co 22 (.Bn Zf [.t 18,.t 21]),Co 6 (.alloc [.int .i64 0,.int .i64 0,.int .i64 0,.int .i64 0,.int .i64 0]),Ce (.store 5 (.t 6) (.t 22))]
def FO (tr:List PV) (es:List PV) (k:Nat):Tr:=((Tr.lf.set 1 (.pv (.rp [.rp tr 0] 0))).set 3 (.pv (.rp [.lit 1 es] 0))).set 5 (.pv (.int .i64 k))
theorem AQ {tr es:List PV} {k:Nat} (hk:k < es.length) {x a z u o:Int} (h:Zf [.rp tr 0,.lit 1 (es.drop k)]=some (.agg [.int .i64 x,.int .i64 a,.int .i64 z,.int .i64 u,.int .i64 o])):
 ∃ E,Cd (fun _ _ _=>none) eP ⟨FO tr es k,[]⟩=some ⟨E,[.box [.pv (.int .i64 x),.pv (.int .i64 a),.pv (.int .i64 z),.pv (.int .i64 u),.pv (.int .i64 o)]]⟩∧E.get 6= .ptr 0 0:=by
 have l1:∀ H,xa H false 1 (.pv (.rp [.rp tr 0] 0))=some (.pv (.rp tr 0)):=fun H=>rfl
 have l2:∀ H,xa H false 1 (.pv (.rp [.lit 1 es] 0))=some (.pv (.lit 1 es)):=fun H=>rfl
 have hs:∀ H,ye H 1 (.pv (.lit 1 es)) (some (k:Int)) none=some (.pv (.lit 1 (es.drop k))):=fun H=>by
  simp only[ye,Option.getD_some,Option.getD_none]
  rw[if_pos ⟨by decide,trivial,by omega,by omega,by omega⟩,Int.toNat_natCast,Int.toNat_natCast,List.take_length]
 suffices key:Gd (fun s=>s.H=[.box [.pv (.int .i64 x),.pv (.int .i64 a),.pv (.int .i64 z),.pv (.int .i64 u),.pv (.int .i64 o)]]∧s.env.get 6= .ptr 0 0) (Cd (fun _ _ _=>none) eP ⟨FO tr es k,[]⟩) by
  obtain⟨⟨E,H⟩,h1,h2,h3⟩:=xc key
  simp only at h2 h3
  rw[h1,h2]
  exact⟨E,rfl,h3⟩
 generalize hQ:(fun s:St=>s.H=_∧_)=Q
 simp -implicitDefEqProofs only[SX,SQ,sevalprocAttr,eP,FO,l1,l2,hs,h]
 subst hQ
 exact⟨rfl,by simp[Tr.aa]⟩
theorem LV {caps:List PV} {xs:List (List PV)} (h:Bf caps=some xs):∃ tv fr bv,caps=[.rp [tv] 0,.rp [.int .i64 fr] 0,.rp [bv] 0]∧((tv= .Sg∧xs=[])∨∃ tr,tv= .rp tr 0∧((fr < 0∧xs=[])∨
 ∃ es,0≤fr∧dD bv=some es∧es.length≤4611686018427387904∧Uu tv es (es.length+1) fr.toNat=some xs)):=by
 unfold Bf at h
 split at h
 ·injection h with h;exact⟨_,_,_,rfl,.inl ⟨rfl,h.symm⟩⟩
 ·split at h
  ·next hc=>injection h with h;exact⟨_,_,_,rfl,.inr ⟨_,rfl,.inl ⟨hc,h.symm⟩⟩⟩
  ·next hc=>
   rw[Option.bind_eq_some_iff] at h
   obtain⟨es,h1,h2⟩:=h
   split at h2
   ·next hb=>exact⟨_,_,_,rfl,.inr ⟨_,rfl,.inr ⟨es,by omega,h1,hb,h2⟩⟩⟩
   ·cases h2
 ·cases h
theorem YP {bv:PV} {es:List PV} (h:dD bv=some es) (hne:es≠[]):bv= .lit 1 es:=by
 unfold dD at h
 split at h
 ·injection h with h;exact absurd h.symm hne
 ·injection h with h;rw[h]
 ·cases h
theorem jU {R:Rd} {φ:Pl} {H:List ba} {fo:Nat→FuncId} {x a z u o:Int} {vs:List Value} (h:fb fo (K R φ H) [.pv (.int .i64 x),.pv (.int .i64 a),.pv (.int .i64 z),.pv (.int .i64 u),.pv (.int .i64 o)] vs):vs=[.int .i64 x,.int .i64 a,.int .i64 z,.int .i64 u,.int .i64 o]:=by
 have at1:∀ {n:Int} {v:Value},Kc fo (K R φ H) (.pv (.int .i64 n)) v→v= .int .i64 n:=fun h=>by
  cases h with | atom _ _ h=>cases (show Sa R _ _ from h);rfl
 cases h with | cons _ _ v1 _ h1 h=>cases h with | cons _ _ v2 _ h2 h=>cases h with | cons _ _ v3 _ h3 h=>cases h with | cons _ _ v4 _ h4 h=>cases h with | cons _ _ v5 _ h5 h=>
 cases h
 rw[at1 h1,at1 h2,at1 h3,at1 h4,at1 h5]
theorem zY {R:Rd} {tr:List PV} {v:Value} (h:Sa R (.rp tr 0) v):∃ a,v= .pointer (some a):=by
 cases h with | rp _ _ b o _=>exact⟨_,rfl⟩
end Go.AM.B1
namespace Go.Proofs
open Go.RowKit Go.Shelf
attribute [local go_sem] Oper.semAt_some
theorem AM.HW {P:Program} {L L':List (FuncId×(List AM.PV→Option AM.PV))} (h:L=L') (k:∀ d∈L',AM.Na P d.1 d.2):∀ d∈L,AM.Na P d.1 d.2:=h ▸ k
set_option maxRecDepth 100000 in
set_option maxHeartbeats 2000000 in
theorem eL:AM.bp Tryz.prog 49 AM.B1.Bf:=by
 refine⟨⟨_,_,Tryz.func49,rfl,by kernel_rfl⟩,fun caps vs xs hF hfl R l J Jx W hLR hsub hJ hJx hRd hY h0=> ?_⟩
 obtain⟨tv,fr,bv,rfl,hcase⟩:=AM.B1.LV hF
 obtain⟨v1,v2,v3,rfl,hv1,hv2,hv3⟩:∃ v1 v2 v3,vs=[v1,v2,v3]∧AM.Sa R (.rp [tv] 0) v1∧AM.Sa R (.rp [.int .i64 fr] 0) v2∧AM.Sa R (.rp [bv] 0) v3:=by
  cases hLR with | cons _ _ v1 _ h1 h2=>cases h2 with | cons _ _ v2 _ h3 h4=>cases h4 with | cons _ _ v3 _ h5 h6=>cases h6;exact⟨v1,v2,v3,rfl,h1,h3,h5⟩
 have hv1':=hv1
 have hv2':=hv2
 have hv3':=hv3
 obtain⟨b1,o1,u1,rfl,hR1,ht,hbx1⟩:=AM.B1.az hv1
 obtain⟨b2,o2,fv,rfl,hR2,hfv,hbx2⟩:=AM.B1.az hv2
 obtain⟨b3,o3,u3,rfl,hR3,hb,hbx3⟩:=AM.B1.az hv3
 cases hfv
 have c1:=hsub _ _ _ hR1
 have c2:=hsub _ _ _ hR2
 have c3:=hsub _ _ _ hR3
 refine (callsIn_wide (n:=1)).1 (callsIn_of_wp Tryz.func49 rfl trivial ?_ rfl)
 simp only[Tryz.ntmps49,List.size_toArray,List.length_cons,List.length_nil,Nat.reduceAdd,Nat.reduceSub,Array.replicate_succ,Array.replicate_zero,List.push_toArray,List.append_toArray,List.nil_append,List.cons_append]
 rcases hcase with⟨rfl,rfl⟩ | ⟨tr,rfl,hcase⟩
 ·cases ht
  gi_wp2
  exact⟨rfl,_,results_none rfl _ _ _,⟨_,rfl⟩,.inl ⟨_,h0⟩⟩
 obtain⟨ta,rfl⟩:=AM.B1.zY ht
 rcases hcase with⟨hneg,rfl⟩ | ⟨es,hfr,hby,heb,hrows⟩
 ·gi_wp2
  exact⟨rfl,_,results_none rfl _ _ _,⟨_,rfl⟩,.inl ⟨_,h0⟩⟩
 have hread:∀ i T A,J i T A→∃ (R':AM.Rd) (u1:Value) (sa:Option Addr) (cap:Nat),(∀ b o v,R' b o=some v→A.cell? ⟨b,o,none⟩=some v)∧A.cell? ⟨b1,o1,none⟩=some u1∧A.cell? ⟨b3,o3,none⟩=some (.slice sa es.length cap)∧
  AM.Sa R' (.rp [.rp tr 0] 0) (.pointer (some ⟨b1,o1,none⟩))∧AM.Sa R' (.rp [bv] 0) (.pointer (some ⟨b3,o3,none⟩)):=by
  intro i T A h
  obtain⟨R',hs,hp⟩:=hRd i T A h
  obtain⟨u1,g1,g2⟩:=hbx1 R' (hp _ _ hv1')
  obtain⟨u3,g3,g4⟩:=hbx3 R' (hp _ _ hv3')
  obtain⟨sa,cap,rfl,_⟩:=AM.B1.xQ hby g4
  exact⟨R',u1,sa,cap,hs,hs _ _ _ g1,hs _ _ _ g3,hp _ _ hv1',hp _ _ hv3'⟩
 gi_wp2
 gi_loopw [5] (fun iv wr=>∃ (k m:Nat) (done rest:List (List AM.PV)) (T:Nat→Prop),iv= .int .i64 (k:Int)∧AM.B1.Uu (.rp tr 0) es m k=some rest∧xs=done++rest∧J done.length T wr) (fun iv _=>es.length - (intOf iv).toNat)
 case atStart=>exact⟨fr.toNat,_,[],xs,_,by simp[Int.toNat_of_nonneg hfr],hrows,rfl,h0⟩
 case round=>
  obtain⟨k,m,done,rest,T,rfl,hrw,hxs,hJk⟩:=hrel
  obtain⟨R',w1,sa,cap,hs,q1,q3,q4,q5⟩:=hread _ _ _ hJk
  rcases AM.B1.wN hrw with⟨hge,rfl⟩ | ⟨hlt,m',x,ea,z,u,o,rest',rfl,hev,hz1,hz2,hrw',rfl⟩
  ·rw[List.append_nil] at hxs
   have hi1:¬(k:Int) < (es.length:Int):=by omega
   gi_wp2
   refine⟨rfl,_,results_none rfl _ _ _,⟨_,rfl⟩,.inl ⟨T,by first | exact hJk | (rw[hxs];exact hJk)⟩⟩
  ·have hi1:(k:Int) < (es.length:Int):=by omega
   obtain rfl:=AM.B1.YP hby (by intro e;rw[e] at hlt;simp at hlt)
   obtain⟨E,hE,hE6⟩:=AM.B1.AQ hlt hev
   gi_wp2
   rename_i K0 hK0
   have hS:AM.ic (fun _=>0) {n:=wr.heap.size,R:=R'} wr R' (fun _=>(0,0)) []:=
    ⟨Nat.le_refl _,hs,fun id o h=>by simp at h,fun i j hi=>by obtain⟨o,ho,_⟩:=hi;simp at ho,fun _ _ _=>rfl,fun _ h=>h.elim,fun _ _ h=>h⟩
   refine AM.IH (fo:=fun _=>0) (call:=fun _ _ _=>none) (aops:=AM.B1.eP) (D:=[18,19,20,21,22,6]) none (by kernel_rfl) (AM.QE (fun _ _ _ _ _ _ _ _ _ _ _ h=>by cases h) (by kernel_rfl) ?_) (by kernel_rfl) (by kernel_rfl) (s:=⟨AM.B1.FO tr es k,[]⟩) hS ?_ rfl hE ?_
   ·exact AM.HW (L':=[(50,AM.B1.Zf)]) (by kernel_rfl) (AM.dC AM.B1.qI AM.dN)
   ·exact AM.vr (AM.vr (AM.vr (fun t=>by rw[show AM.Tr.lf.get t= .undef from rfl];exact .undef _) (.atom _ _ q4)) (.atom _ _ q5)) (.atom _ _ (.int _ _))
   ·intro a' w' R2 φ2 g hfm hdf
    show K0 a' w'
    have e6:=g.env 6
    rw[hE6] at e6
    obtain⟨tm,df⟩:=a'
    dsimp only at hdf hfm e6
    subst hdf
    have hsz:tm.size=33:=g.size
    have htm:=AM.aY hsz
    simp only[show List.range 33=[0,1,2,3,4,5,6,7,8,9,10,11,12,13,14,15,16,17,18,19,20,21,22,23,24,25,26,27,28,29,30,31,32] from rfl,List.map,hfm 0 (by decide),hfm 1 (by decide),hfm 2 (by decide),hfm 3 (by decide),hfm 4 (by decide),hfm 5 (by decide),hfm 7 (by decide),hfm 8 (by decide),hfm 9 (by decide),hfm 10 (by decide),hfm 11 (by decide),hfm 12 (by decide),hfm 13 (by decide),hfm 14 (by decide),hfm 15 (by decide),hfm 16 (by decide),hfm 17 (by decide),hfm 23 (by decide),hfm 24 (by decide),hfm 25 (by decide),hfm 26 (by decide),hfm 27 (by decide),hfm 28 (by decide),hfm 29 (by decide),hfm 30 (by decide),hfm 31 (by decide),hfm 32 (by decide)] at htm
    replace htm:tm= #[.func (.yield l) #[] #[],.pointer (some ⟨b1,o1,none⟩),.pointer (some ⟨b2,o2,none⟩),.pointer (some ⟨b3,o3,none⟩),undef,.int .i64 k,tm.getD 6 undef,.pointer (some ta),.bool false,.bool false,.int .i64 fr,.bool (decide (fr < 0)),.bool (decide (fr < 0)),.int .i64 fr,.int .i64 k,.slice sa es.length cap,.int .i64 es.length,.bool true,
     tm.getD 18 undef,tm.getD 19 undef,tm.getD 20 undef,tm.getD 21 undef,tm.getD 22 undef,u23,u24,u25,u26,u27,u28,u29,u30,u31,u32]:=htm
    obtain⟨hB,hnone,_,arr,⟨ty,fz,hh,hz⟩,hal⟩:=g.rel.obj 0 _ rfl
    have e6':tm.getD 6 undef= .pointer (some ⟨(φ2 0).1,0,none⟩):=by
     cases e6 with | atom _ _ h=>exact h.2.2 _ rfl
    have harr:=AM.B1.jU hal
    obtain⟨arr⟩:=arr
    dsimp only at harr
    subst harr
    rw[e6'] at htm
    generalize tm.getD 18 undef=y18,tm.getD 19 undef=y19,tm.getD 20 undef=y20,tm.getD 21 undef=y21,tm.getD 22 undef=y22 at htm
    have hbel:=g.below.toBelow
    clear hfm e6 e6' hsz g hal
    subst htm
    generalize hbk:(φ2 0).1=bk at *
    clear hnone
    refine hK0 _ _ ?_
    have hc1:w'.cell? ⟨bk,1,none⟩=some (.int .i64 ea):=by simp[World.cell?,hh]
    have hc2:w'.cell? ⟨bk,2,none⟩=some (.int .i64 z):=by simp[World.cell?,hh]
    have hfz:w'.frozen? ⟨bk,1,none⟩=false:=by
     have:=hz 1 (by simp)
     simp only[World.frozen?,hh]
     first | simpa using this | (simp;omega)
    obtain⟨W2,hW2⟩:∃ W2,W2=w'.setCell ⟨bk,1,none⟩ (.int .i64 k):=⟨_,rfl⟩
    have hh2:W2.heap[bk]? =some (.cells #[.int .i64 x,.int .i64 k,.int .i64 z,.int .i64 u,.int .i64 o] ty fz):=by
     rw[hW2]
     simp only[World.setCell,Array.getElem?_modify,if_true,hh]
     rfl
    have hb2:Below wr.heap.size wr W2:=by
     rw[hW2]
     exact hbel.setCell hB _
    have hd0:W2.cell? ⟨bk,0,none⟩=some (.int .i64 x):=by simp[World.cell?,hh2]
    have hd1:W2.cell? ⟨bk,1,none⟩=some (.int .i64 k):=by simp[World.cell?,hh2]
    have hd2:W2.cell? ⟨bk,2,none⟩=some (.int .i64 z):=by simp[World.cell?,hh2]
    have hd3:W2.cell? ⟨bk,3,none⟩=some (.int .i64 u):=by simp[World.cell?,hh2]
    have hd4:W2.cell? ⟨bk,4,none⟩=some (.int .i64 o):=by simp[World.cell?,hh2]
    have hJ2:J done.length T W2:=hJ _ T wr W2 T hJk hb2 (fun _ h=> .inl h)
    have hget:xs[done.length]? =some [.agg [.int .i64 x,.int .i64 k,.int .i64 z,.int .i64 u,.int .i64 o]]:=by rw[hxs];simp
    obtain⟨fn,tmps,assign,body,hy,hR⟩:=hY done.length _ _ W2 hget hJ2
    dsimp only[AM.Kp,AM.rQ] at hy
    rw[hW2] at hy hR hd0 hd1 hd2 hd3 hd4
    gi_wp2
    refine hR.mono ?_
    rintro e W3 (⟨rfl,hJ3,hk3⟩ | ⟨rfl,hJx3⟩)
    ·gi_wp2
     exact⟨⟨k+z.toNat,m',done++[[.agg [.int .i64 x,.int .i64 k,.int .i64 z,.int .i64 u,.int .i64 o]]],rest',T,congrArg _ (by omega),hrw',by rw[hxs];simp,by simpa using hJ3⟩,by simp[intOf];omega⟩
    ·gi_wp2
     exact⟨rfl,_,results_none rfl _ _ _,⟨_,rfl⟩,.inr hJx3⟩
end Go.Proofs
namespace Go.AM.B1
open Go.AM
def Gk:gf:=⟨0,[.tmp 0],(jQ [jc 0 .Sg] (jQ [Co 4 (.build [(.int .i64 0),(.int .i64 0)] [(0,1,(.c (.int .i64 128))),(1,1,(.c (.int .i64 191)))]),Co 5 (.Gb .lit 2 true 1 [(.int .i64 0),(.int .i64 0)] [(0,(.t 4))]),Cv 1 5] (jQ [Co 7 (.build [(.int .i64 0),(.int .i64 0)] [(0,1,(.c (.int .i64 0))),(1,1,(.c (.int .i64 127)))]),Co 8 (.Gb .lit 2 true 1 [(.int .i64 0),(.int .i64 0)] [(0,(.t 7))]),Co 9 (.Gb .lit 1 false 1 [.ma] [(0,(.t 8))]),Co 10 (.build [.ma,(.int .i64 0)] [(0,1,(.t 9))]),Co 11 (.build [(.int .i64 0),(.int .i64 0)] [(0,1,(.c (.int .i64 194))),(1,1,(.c (.int .i64 223)))]),Co 12 (.Gb .lit 2 true 1 [(.int .i64 0),(.int .i64 0)] [(0,(.t 11))]),Cv 13 1,Co 14 (.Gb .lit 1 false 2 [.ma] [(0,(.t 12)),(1,(.t 13))]),Co 15 (.build [.ma,(.int .i64 0)] [(0,1,(.t 14)),(1,1,(.c (.int .i64 128)))]),Co 16 (.build [(.int .i64 0),(.int .i64 0)] [(0,1,(.c (.int .i64 225))),(1,1,(.c (.int .i64 225)))]),Co 17 (.Gb .lit 2 true 1 [(.int .i64 0),(.int .i64 0)] [(0,(.t 16))]),Cv 18 1,Cv 19 1,Co 20 (.Gb .lit 1 false 3 [.ma] [(0,(.t 17)),(1,(.t 18)),(2,(.t 19))]),Co 21 (.build [.ma,(.int .i64 0)] [(0,1,(.t 20)),(1,1,(.c (.int .i64 4096)))]),Co 22 (.Gb .lit 2 true 3 [.ma,(.int .i64 0)] [(0,(.t 10)),(1,(.t 15)),(2,(.t 21))]),Co 23 (.build [.ma] [(0,1,(.t 22))]),jp 24 Hb 23,Cv 6 24,jx 25 0 6,jx 26 1 6,Cv 2 25,Cv 3 26] (jr [Cv 27 2,Cv 0 27]))))⟩
theorem Qv:wc P fo 43 Gk:=fM Go.Proofs.Tryz.func43 (dC yv dN)
def Mi:=Ub (fun _=>none) Gk
theorem Nw:Na P 43 Mi:=Ja Va Qv
def Is:gf:=⟨1,[.tmp 2],(jQ [jc 2 .ma] (.seq (jQ [Cv 3 0,Co 4 (.eq 2 false (.t 3) (.c .ma))] (jC 4 (jr [jc 2 .ma]) .skip)) (jr [Co 5 (.Gb .uq 1 false 0 [(.int .u8 0)] []),Cv 6 0,Co 7 (.ku 1 false 1 5 6),Cv 2 7])))⟩
theorem uD:wc P fo 48 Is:=fM Go.Proofs.Tryz.func48 dN
def Rj:=Ub (fun _=>none) Is
theorem SF:Na P 48 Rj:=Ja Va uD
def Rl:gf:=⟨3,[.tmp 6],(jQ [jR 3 1 0,Co 4 (.box 1 (.t 1)),jR 5 1 2,jc 6 .Ov] (jQ [jl 7 1 4,jp 8 Rj 7,jS 1 4 8] (.seq (.ghost (.freeze 4) (.region [Co 9 (.PF 99 [(.t 3),(.t 5),(.t 4)]),Cv 6 9])) .ret)))⟩
theorem MD:wc P fo 20 Rl:=fM Go.Proofs.Tryz.func20 (dC SF dN)
def vd:Pa:=(.block 1 (.region [jl 14 1 7,jL 15 5 8,Co 16 (.Gb .lit 5 true 1 [(.int .i64 0),(.int .i64 0),(.int .i64 0),(.int .i64 0),(.int .i64 0)] [(0,(.t 15))]),Co 17 (.ku 5 true 40 14 16),jS 1 7 17]))
def ch:gf:=⟨3,[.tmp 6],(jQ [jc 6 .ma] (jQ [Co 7 (.alloc [.ma])] (.ghost (.Ct 7 0 5) (.seq (jQ [Cv 9 0,Cv 10 1,Cv 11 2,Co 12 (.tj 98 [(.t 9),(.t 10),(.t 11)])] (.block 0 (.kv 99 Bf (.t 12) [13] [Co 8 (.alloc [(.int .i64 0),(.int .i64 0),(.int .i64 0),(.int .i64 0),(.int .i64 0)]),jS 5 8 13] vd))) (jr [jl 18 1 7,Cv 6 18])))))⟩
theorem Ns:∀ d∈xe ch.body,bp P (fo d.1) d.2:=by
 intro d hd
 obtain rfl:d=(99,Bf):=List.mem_singleton.1 hd
 exact Go.Proofs.eL
theorem Ks:wc P fo 17 ch:=LZ Go.Proofs.Tryz.func17 dN (Ns)
def Ee:Nat→Option gf
 |98=>some Rl
 |_=>none
theorem cr:Sl P fo Ee:=by
 intro ix af h
 unfold Ee at h
 split at h
 ·injection h with h;subst h;exact MD
 ·cases h
def Mc:=Ub Ee ch
theorem jm:Na P 17 Mc:=Ja cr Ks
def zj:gf:=⟨0,[.tmp 0],(jQ [jb 0 false] (jQ [Co 2 (.Bn Mi []),Cv 1 2] (jr [Cv 3 1,Co 4 (.kE 1 true 3),Cv 5 4,jT 6 5 (.km 1),jT 7 5 (.Gb .uq 1 false 8 [(.int .u8 0)] [(0,(.c (.int .u8 65))),(1,(.c (.int .u8 195))),(2,(.c (.int .u8 169))),(3,(.c (.int .u8 225))),(4,(.c (.int .u8 128))),(5,(.c (.int .u8 66))),(6,(.c (.int .u8 128))),(7,(.c (.int .u8 225)))]),jT 8 5 (.YY (.t 7)),jT 9 5 (.Bn Mc [(.t 6),(.t 8),(.c (.int .i64 0))]),jT 10 5 (.build [(.int .i64 0),(.int .i64 0),(.int .i64 0),(.int .i64 0),(.int .i64 0)] [(0,1,(.c (.int .i64 1))),(1,1,(.c (.int .i64 0))),(2,1,(.c (.int .i64 1))),(3,1,(.c (.int .i64 65)))]),jT 11 5 (.build [(.int .i64 0),(.int .i64 0),(.int .i64 0),(.int .i64 0),(.int .i64 0)] [(0,1,(.c (.int .i64 1))),(1,1,(.c (.int .i64 1))),(2,1,(.c (.int .i64 2))),(3,1,(.c (.int .i64 233)))]),jT 12 5 (.build [(.int .i64 0),(.int .i64 0),(.int .i64 0),(.int .i64 0),(.int .i64 0)] [(0,1,(.c (.int .i64 2))),(1,1,(.c (.int .i64 3))),(2,1,(.c (.int .i64 2)))]),jT 13 5 (.build [(.int .i64 0),(.int .i64 0),(.int .i64 0),(.int .i64 0),(.int .i64 0)] [(0,1,(.c (.int .i64 1))),(1,1,(.c (.int .i64 5))),(2,1,(.c (.int .i64 1))),(3,1,(.c (.int .i64 66)))]),jT 14 5 (.build [(.int .i64 0),(.int .i64 0),(.int .i64 0),(.int .i64 0),(.int .i64 0)] [(0,1,(.c (.int .i64 2))),(1,1,(.c (.int .i64 6))),(2,1,(.c (.int .i64 1)))]),jT 15 5 (.build [(.int .i64 0),(.int .i64 0),(.int .i64 0),(.int .i64 0),(.int .i64 0)] [(0,1,(.c (.int .i64 3))),(1,1,(.c (.int .i64 7))),(2,1,(.c (.int .i64 1)))]),jT 16 5 (.Gb .lit 5 true 6 [(.int .i64 0),(.int .i64 0),(.int .i64 0),(.int .i64 0),(.int .i64 0)] [(0,(.t 10)),(1,(.t 11)),(2,(.t 12)),(3,(.t 13)),(4,(.t 14)),(5,(.t 15))]),jT 17 5 (.kq rk 9 16),ja 18 5 17,Cv 19 18,Co 20 (.pick (.t 19) (.c (.bool true)) (.c (.bool false))),Cv 21 20,Co 22 (.pick (.t 21) (.c (.bool true)) (.c (.bool false))),Cv 23 22,Co 24 (.pick (.t 23) (.c (.bool true)) (.c (.bool false))),Cv 25 24,Co 26 (.pick (.t 25) (.c (.bool true)) (.c (.bool false))),Cv 0 26])))⟩
theorem iu:wc P fo 15 zj:=fM Go.Proofs.Tryz.func15 (dC Nw (dC jm (dC Sv dN)))
def vh:=Ub (fun _=>none) zj
theorem mu:Na P 15 vh:=Ja Va iu
def ni:gf:=⟨1,[.tmp 2,.tmp 3],(jQ [jR 1 1 0,jc 2 .Sg,jb 3 false] (jQ [JL 9 1 1,jp 10 qi 9,jp 11 Hb 10,Cv 8 11,jx 12 0 8,jx 13 1 8,Cv 4 12,Cv 5 13] (jQ [JL 15 1 1,jp 16 Zc 15,Cv 14 16,jx 17 0 14,jx 18 1 14,Co 6 (.alloc [.ma]),jS 1 6 17,Cv 7 18] (jr [Cv 19 4,Cv 20 5,Cv 21 7,jB 22 .eql 20 21,Cv 23 22,jT 24 23 (.km 4),jT 25 23 (.kE 1 false 24),jT 26 23 (.km 7),jT 27 23 (.kK .neq 26 0),jT 28 23 (.ke 0 25 27),ja 29 23 28,Cv 2 19,Cv 3 29]))))⟩
theorem Bu:wc P fo 16 ni:=fM Go.Proofs.Tryz.func16 (dC Dv (dC yv (dC Gs dN)))
def wg:=Ub (fun _=>none) ni
theorem Iv:Na P 16 wg:=Ja Va Bu
end Go.AM.B1
namespace Go.AM.B1
open Go.AM
def Ac:Int→List (Int×Int)→Int
 |n,[]=>n
 |n,p::r=>Ac (n+(p.2 - p.1+1)) r
abbrev DR (v:PV) (len i n:Int):Tr:=(((Tr.lf.set 8 (.pv (i64 i))).set 7 (.pv (i64 len))).set 6 (.pv v)).set 3 (.pv (i64 n))
theorem TT (v:PV) (l:List (Int×Int)) (hv:Vi 2 v (Hd l)) (hw:l.length≤maxLen) {top:Int} (ht:top≤4611686018427387900) (hval:Qa top (-2) l=true):ur [v]=some (i64 (Ac 0 l)):=by
 have ls:=hv.len
 simp only[Hd,List.length_map] at ls
 have key:=wb (g:=Nc (Ea (fun _=>none) 8) [3,6,7,8] Lk 0)
  (fun i t=>∃ n last,t=⟨DR v l.length i n,[]⟩∧Ac 0 l=Ac n (l.drop i)∧Qa top last (l.drop i)=true∧0≤n∧n≤max 0 (last+1)∧last≤top)
  (Q:=fun r=>∃ E H,r=(.exit 0,⟨E,H⟩)∧E.get 3= .pv (i64 (Ac 0 l)))
  l.length (by unfold qa;unfold maxLen at hw;omega) ⟨DR v l.length (0:Nat) 0,[]⟩ ?_ ?_ ?_
 ·obtain⟨⟨ex,t⟩,h,_,E,H,he,hE⟩:=xc key
  cases he
  have h':ab (ga (ua (Ea (fun _=>none) 8) Lk) (fa 0 [3,6,7,8])) qa ⟨DR v l.length 0 0,[]⟩=some (.exit 0,⟨E,H⟩):=h
  simp only[DR] at h'
  simp -implicitDefEqProofs only[ur,SP,SA,SQ,WP,WQ,sevalprocAttr,vw,ls,xb,h',hE]
 ·refine⟨0,min (-2) top,rfl,rfl,?_,by omega,by omega,by omega⟩
  have mono:∀ {a b:Int} {r:List (Int×Int)},a≤b→Qa top b r=true→Qa top a r=true:=by
   intro a b r hab h
   cases r with
   |nil=>rfl
   |cons p r=>
    obtain⟨h1,h2,h3,h4,h5⟩:=ee h
    simp only[Qa,h5,Bool.and_true,Bool.not_eq_true',Bool.or_eq_false_iff,decide_eq_false_iff_not]
    exact⟨⟨⟨h1,h2⟩,h3⟩,by omega⟩
  exact mono (by omega) hval
 ·rintro i t hi ⟨n,last,rfl,hr,hva,hn0,hn1,hlast⟩
  have hv:=hv.lit (i:=i) (by simpa using hi)
  subst hv
  have hd:l.drop i=l[i]::l.drop (i+1):=List.drop_eq_getElem_cons hi
  rw[hd] at hr hva
  obtain⟨h1,h2,h3,h4,h5⟩:=ee hva
  rw[Ac] at hr
  have t2:=Ua hi hw
  have hg:=xr hi
  have hl:(Hd l).length=l.length:=by simp
  generalize l[i]=p at *
  have t3:IntKind.i64.wrap (p.2 - p.1)=p.2 - p.1:=Ca (by omega)
  have t4:IntKind.i64.wrap (p.2 - p.1+1)=p.2 - p.1+1:=Ca (by omega)
  have t5:IntKind.i64.wrap (n+(p.2 - p.1+1))=n+(p.2 - p.1+1):=Ca (by omega)
  generalize hes:Hd l=es at *
  generalize hQ:LN _ _ i=Q
  simp -implicitDefEqProofs only[SP,SA,SQ,WP,WQ,sevalprocAttr,Lk,hi,hl,t2,t3,t4,t5,hg,DR]
  subst hQ
  exact⟨_,p.2,rfl,hr,h5,by omega,by omega,by omega⟩
 ·rintro t ⟨n,last,rfl,hr,_⟩
  rw[List.drop_length,Ac] at hr
  have e1:decide (l.length < l.length)=false:=Ga (by omega)
  generalize hQ:(fun r:Ex×St=>r.1.stop=true∧_)=Q
  simp -implicitDefEqProofs only[SP,SA,SQ,WP,WQ,sevalprocAttr,Lk,e1,DR]
  subst hQ
  exact⟨rfl,_,_,rfl,by rw[hr];rfl⟩
theorem _root_.Go.AM.So.Gg.cut {H:List ba} (h:So.Gg H):Ra (na H.length) H=some H:=So.vl fun o ho=>h _ (Nat.le_refl _) o ho
theorem Dj (A:List ba) (o:ba):(A++[o])[A.length]? =some o:=by simp
theorem Un (A:List ba) (o o':ba):(A++[o]).set A.length o'=A++[o']:=by
 rw[List.set_append_right _ _ (Nat.le_refl _)];simp
theorem xG {A:List ba} (T:List ba) {sz id n:Nat} {i:Int} {v:AV} (hid:id < A.length) (h:wa A sz (.own id n) i=some v):wa (A++T) sz (.own id n) i=some v:=by
 simp only[wa] at h ⊢
 rw[List.getElem?_append_left hid];exact h
theorem vL {A:List ba} (T:List ba) {sz id:Nat} {ag:Bool} {m off:Nat} {v:AV} (hid:id < A.length) (h:xa A ag sz (.Gc id m off)=some v):xa (A++T) ag sz (.Gc id m off)=some v:=by
 simp only[xa] at h ⊢
 rw[List.getElem?_append_left hid];exact h
end Go.AM.B1
namespace Go.AM.B1
open Go.AM Go.AM.So
theorem fD {n:Nat} {E:Tr}:∀ {live:List Nat},(∀ t∈live,(E.get t).cut n deep=some (E.get t))→∃ E',Aa n E live=some E'∧∀ t∈live,E'.get t=E.get t
 | [],_=>⟨.lf,rfl,by simp⟩
 |a::live,h=>by
  obtain⟨E',h1,h2⟩:=fD (live:=live) fun t ht=>h t (by simp[ht])
  refine⟨E'.set a (E.get a),by rw[Aa,h a (by simp),Option.bind_some,h1];rfl,fun t ht=> ?_⟩
  rw[Tr.aa]
  by_cases he:t=a
  ·rw[if_pos he,he]
  ·rw[if_neg he]
   rcases List.mem_cons.1 ht with h3 | h3
   ·exact absurd h3 he
   ·exact h2 t h3
theorem zP {n:Nat} {live:List Nat} {E:Tr} {A T:List ba} (hn:A.length=n) (hA:∀ o∈A,na n o=some o) (hE:∀ t∈live,(E.get t).cut n deep=some (E.get t)):
 ∃ E',fa n live ⟨E,A++T⟩=some ⟨E',A⟩∧∀ t∈live,E'.get t=E.get t:=by
 obtain⟨E',h1,h2⟩:=fD hE
 refine⟨E',?_,h2⟩
 subst hn
 simp only[fa,h1,Option.bind_some]
 rw[List.take_left' rfl,vl hA];rfl
def Tg (n:Nat) (live:List Nat) (J:St→Prop) (s:St):Prop:=
 ∃ A T,s.H=A++T∧A.length=n∧(∀ o∈A,na n o=some o)∧(∀ t∈live,(s.env.get t).cut n deep=some (s.env.get t))∧∀ E',(∀ t∈live,E'.get t=s.env.get t)→J ⟨E',A⟩
theorem Tg.fa {n:Nat} {live:List Nat} {J:St→Prop} {s:St} (h:Tg n live J s):∃ s',fa n live s=some s'∧J s':=by
 obtain⟨A,T,h1,h2,h3,h4,h5⟩:=h
 obtain⟨E,H⟩:=s
 simp only at h1 h4 h5
 subst h1
 obtain⟨E',h6,h7⟩:=zP (T:=T) h2 h3 h4
 exact⟨_,h6,h5 E' h7⟩
def RQ (n:Nat) (live:List Nat) (J:St→Prop) (Q:Ex×St→Prop):Ex×St→Prop
 | (.norm,s)=>Tg n live J s
 |r=>Q r
theorem Xl {n:Nat} {live:List Nat} {J:St→Prop} {Q:Ex×St→Prop} {s:St}:RQ n live J Q (.norm,s)=Tg n live J s:=rfl
theorem ZT {call:Wa} {b:Pa} {n:Nat} {live:List Nat} {I:Nat→St→Prop} {Q:Ex×St→Prop} {i:Nat} {s:St} (h:Gd (RQ n live (I (i+1)) Q) (ua call b s)):
 Gd (LN I Q i) (ga (ua call b) (fa n live) s):=by
 rw[ga,ez]
 refine za h ?_
 rintro⟨ex,t⟩ hr
 cases ex with
 |norm=>
  obtain⟨s',h1,h2⟩:=Tg.fa hr
  show Gd _ (Wq (Go.AM.fa n live t))
  rw[h1];exact h2
 |exit=>exact hr
 |ret=>exact hr
theorem sR {call:Wa} {b:Pa} {cl:St→Option St} {Q:Ex×St→Prop} {s:St} (h:Gd (fun r=>r.1.stop=true∧Q r) (ua call b s)):
 Gd (fun r=>r.1.stop=true∧Q r) (ga (ua call b) cl s):=by
 rw[ga,ez]
 refine za h ?_
 rintro⟨ex,t⟩ ⟨h1,h2⟩
 cases ex with
 |norm=>cases h1
 |exit=>exact⟨h1,h2⟩
 |ret=>exact⟨h1,h2⟩
theorem Qn {call:Wa} {b:Pa} {live:List Nat} {Q:Ex×St→Prop} {s:St} (I:Nat→St→Prop) (N:Nat) (hN:N < qa) (h0:Tg s.H.length live (I 0) s)
 (hs:∀ i t,i < N→I i t→Gd (RQ s.H.length live (I (i+1)) Q) (ua call b t)) (he:∀ t,I N t→Gd (fun r=>r.1.stop=true∧Q r) (ua call b t)):
 Gd (fun r=>r.1.stop=true∧Q r) (ua call (.loop live b) s):=by
 obtain⟨s',h1,h2⟩:=h0.fa
 rw[xb,h1]
 exact wb I N hN s' h2 (fun i t hi hI=>ZT (hs i t hi hI)) (fun t hI=>sR (he t hI))
theorem LP {call:Wa} {b:Pa} {live:List Nat} {Q:Ex×St→Prop} {s:St} (I:Nat→St→Prop) (N:Nat) (hN:N < qa) (h0:Tg s.H.length live (I N) s)
 (hs:∀ k t,I k t→Gd (RQ s.H.length live (fun s'=>∃ j,j < k∧I j s') Q) (ua call b t)):
 Gd (fun r=>r.1.stop=true∧Q r) (ua call (.loop live b) s):=by
 obtain⟨s',h1,h2⟩:=h0.fa
 rw[xb,h1]
 refine Qq I qa N s' hN h2 fun k t hI=> ?_
 rw[ga,ez]
 refine za (hs k t hI) ?_
 rintro⟨ex,t⟩ hr
 cases ex with
 |norm=>
  obtain⟨s',h1,h2⟩:=Tg.fa (J:=fun s'=>∃ j,j < k∧I j s') hr
  show Gd _ (Wq (Go.AM.fa _ live t))
  rw[h1];exact h2
 |exit=>exact hr
 |ret=>exact hr
theorem Tg.all {live:List Nat} {J:St→Prop} {E:Tr} {H:List ba} {n:Nat} (hn:n=H.length) (h1:∀ o∈H,na n o=some o) (h2:∀ t∈live,(E.get t).cut n deep=some (E.get t)) (h3:∀ E',(∀ t∈live,E'.get t=E.get t)→J ⟨E',H⟩):Tg n live J ⟨E,H⟩:=
 ⟨H,[],by simp,hn.symm,h1,h2,h3⟩
theorem Tg.front {live:List Nat} {J:St→Prop} {E:Tr} {A T:List ba} {n:Nat} (hn:n=A.length) (h1:∀ o∈A,na n o=some o) (h2:∀ t∈live,(E.get t).cut n deep=some (E.get t)) (h3:∀ E',(∀ t∈live,E'.get t=E.get t)→J ⟨E',A⟩):Tg n live J ⟨E,A++T⟩:=
 ⟨A,T,rfl,hn.symm,h1,h2,h3⟩
theorem Ru {n d id off:Nat} (h:id < n):AV.cut n d (.ptr id off)=some (.ptr id off):=by
 cases d <;> simp[AV.cut,h]
theorem dP {n d id len:Nat} (h:id < n):AV.cut n d (.own id len)=some (.own id len):=by
 cases d <;> simp[AV.cut,h]
theorem ID {n d id sz:Nat} {nl:Bool} {es:List PV} (h:id < n):AV.cut n d (.uq id nl sz es)=some (.uq id nl sz es):=by
 cases d <;> simp[AV.cut,h]
theorem Aq (n:Nat) (cs:List PV):na n (.box (cs.map .pv))=some (.box (cs.map .pv)):=by
 have:Ra (AV.cut n deep) (cs.map .pv)=some (cs.map .pv):=vl fun a ha=>by
  obtain⟨p,_,rfl⟩:=List.mem_map.1 ha
  exact Ma
 simp[na,this]
def Td (l:List Nat) (E E':Tr):Prop:=∀ t∈l,E'.get t=E.get t
theorem Td.refl (l:List Nat) (E:Tr):Td l E E:=fun _ _=>rfl
theorem Td.trans {l:List Nat} {E E' E'':Tr} (h1:Td l E E') (h2:Td l E' E''):Td l E E'':=fun t ht=>(h2 t ht).trans (h1 t ht)
theorem Td.sub {l l':List Nat} {E E':Tr} (h:Td l E E') (hs:l'.all l.contains=true):Td l' E E':=fun t ht=>h t (by
 have:=List.all_eq_true.1 hs t ht
 simpa using this)
theorem Td.set {l:List Nat} {E E':Tr} {k:Nat} {v:AV} (h:Td l E E') (hk:l.contains k=false):Td l E (E'.set k v):=fun t ht=>by
 have:t≠k:=by
  rintro rfl
  have:l.contains t=true:=by simpa using ht
  rw[hk] at this;cases this
 rw[Tr.aa,if_neg this];exact h t ht
def Fit (n:Nat) (l:List Nat) (E:Tr):Prop:=∀ t∈l,(E.get t).cut n deep=some (E.get t)
theorem Fit.nil (n:Nat) (E:Tr):Fit n [] E:=fun _ h=>by cases h
theorem Fit.cons {n t:Nat} {l:List Nat} {E:Tr} {v:AV} (h:E.get t=v) (hv:v.cut n deep=some v) (hl:Fit n l E):Fit n (t::l) E:=fun u hu=>by
 rcases List.mem_cons.1 hu with rfl | hu
 ·rw[h];exact hv
 ·exact hl u hu
theorem Fit.Je {n:Nat} {l:List Nat} {E E':Tr} (h:Fit n l E) (hk:Td l E E'):Fit n l E':=fun t ht=>by rw[hk t ht];exact h t ht
theorem Fit.sub {n:Nat} {l l':List Nat} {E:Tr} (h:Fit n l E) (hs:l'.all l.contains=true):Fit n l' E:=fun t ht=>h t (by
 have:=List.all_eq_true.1 hs t ht
 simpa using this)
end Go.AM.B1
namespace Go.AM.B1
open Go.AM Go.AM.So
theorem LK:jh=Xb:=rfl
theorem CI:eh=Xb:=rfl
theorem eK:th=Xb:=rfl
def SE (p:Int×Int):List PV:=[i64 p.1,i64 p.2]
def nf (l:List (Int×Int)):Array (List PV):=(l.map SE).toArray
def TX (r:List PV):Prop:=∃ p,r=SE p
theorem Dx (r:List PV) (h:TX r):pV 2 r:=by
 obtain⟨p,rfl⟩:=h
 exact⟨rfl,by intro c hc;simp[SE] at hc;rcases hc with rfl | rfl <;> rfl⟩
theorem WA (l:List (Int×Int)):∀ r∈(nf l).toList,TX r:=by
 intro r hr
 simp[nf] at hr
 obtain⟨a,b,_,rfl⟩:=hr
 exact⟨(a,b),rfl⟩
theorem Lo (l:List (Int×Int)):(nf l).size=l.length:=by simp[nf]
def od (l:List (Int×Int)) (fl:Nat) (nl:Bool):ba:=Lg 2 (nf l) fl nl
theorem Gi (l:List (Int×Int)):(mh (nf l)).length=l.length * 2:=by
 rw[ux fun r hr=>Dx r (WA l r hr),Lo]
theorem ZB {A:List ba} {id n fl bytes:Nat} {nl:Bool} {h:Af} {l:List (Int×Int)} (hg:A[id]? =some (od l fl nl)) (hn:n=l.length) (hr:qb (n+1) bytes) (p:Int×Int):
 Yb A true h 2 true bytes (.own id n) (.pv (.lit 2 [pr p]))=some (.own id (n+1),A.set id (od (l++[p]) fl false)):=by
 subst hn
 have hl:=Gi l
 have e:mh (nf (l++[p]))=mh (nf l)++[.pv (i64 p.1),.pv (i64 p.2)]:=by
  simp[mh,nf,SE]
 simp only[Yb,if_true,hg,od,Lg,Cj,Kf,Option.map_some,Option.bind_some,flat,PV.cells,pr,List.append_nil,List.map_cons,List.map_nil,List.length_cons,List.length_nil,e]
 rw[if_pos]
 ·simp
 ·exact⟨trivial,by omega,hr,rfl⟩
theorem DC (H:List ba) (d:Nat) (l:List PV):Ra (dc H d) (l.map .pv)=some l:=by
 induction l with
 |nil=>rfl
 |cons a l ih=>simp only[List.map_cons,Ra,lg,Option.bind_some,ih]
theorem UB:∀ (l:List (Int×Int)),chunk 2 true l.length ((l.map SE).flatten)=Hd l
 | []=>rfl
 |p::l=>by
  have ih:=UB l
  simp only[List.length_cons,List.map_cons,List.flatten_cons,chunk,if_true,SE] at ih ⊢
  simp only[List.cons_append,List.nil_append,List.take_succ_cons,List.take_zero,List.drop_succ_cons,List.drop_zero,Hd,List.map_cons]
  rw[ih]
theorem fQ {A:List ba} {id n fl:Nat} {nl:Bool} {l:List (Int×Int)} (hg:A[id]? =some (od l fl nl)) (hn:n=l.length) (d:Nat):dc A (d+1) (.own id n)=some (if nl then .ma else .lit 2 (Hd l)):=by
 subst hn
 have hl:=Gi l
 have e:mh (nf l)=((l.map SE).flatten).map .pv:=by simp[mh,nf]
 simp only[dc,hg,od,Lg]
 rw[if_pos ⟨by omega,rfl⟩,e,DC]
 cases nl with
 |true=>rfl
 |false=>simp only[Bool.false_eq_true,if_false,Option.map_some,UB]
theorem sy (A:List ba) (x y:AV) (p:Int×Int):Oa (A++[.box [x,y]]) 2 (.ptr A.length 0) (.pv (pr p))=some (A++[.box [.pv (i64 p.1),.pv (i64 p.2)]]):=by
 simp only[Oa,AV.cells,PV.cells,pr,List.map_cons,List.map_nil,List.length_cons,List.length_nil,List.all,AV.one,Dj,Un]
 simp[oa]
theorem bA (A:List ba) (p:Int×Int):xa (A++[.box [.pv (i64 p.1),.pv (i64 p.2)]]) true 2 (.ptr A.length 0)=some (.pv (pr p)):=by
 simp[xa,bh,Ir,ve]
theorem yq (l:List (Int×Int)) (fl:Nat) (nl:Bool) (n:Nat):na n (od l fl nl)=some (od l fl nl):=Wv _ _ _ _ _
abbrev nP (v:PV) (id n len i:Nat):Tr:=(((Tr.lf.set 11 (.pv (i64 i))).set 10 (.pv (i64 len))).set 9 (.pv v)).set 3 (.own id n)
theorem Qj (A:List ba) {l:List (Int×Int)} {i:Nat} (hi:i < l.length):wa A 2 (.pv (.lit 2 (Hd l))) (i:Int)=some (.pv (.rp [i64 l[i].1,i64 l[i].2] 0)):=by
 have hg:=xr hi
 simp only[wa]
 rw[if_pos (by unfold Ia;simp;omega),Int.toNat_natCast,hg];rfl
theorem gV (A:List ba) (p:Int×Int):xa A true 2 (.pv (.rp [i64 p.1,i64 p.2] 0))=some (.pv (pr p)):=by
 simp[xa,Hl]
theorem qM (call:Wa) (v:PV) (l:List (Int×Int)) (hv:Vi 2 v (Hd l)) (hw:l.length * 16≤140737488355328) (H:List ba) (hH:Gg H):
 Ri call Vc [.pv v] H=some (.own H.length l.length,H++[od l 0 false]):=by
 have ls:=hv.len
 simp only[Hd,List.length_map] at ls
 have hid:H.length < H.length+1:=Nat.lt_succ_self _
 have hlen:∀ l',(H++[od l' 0 false]).length=H.length+1:=fun l'=>by simp
 have hcut:∀ l',Ra (na (H.length+1)) (H++[od l' 0 false])=some (H++[od l' 0 false]):=fun l'=>vl fun o ho=>by
  rcases List.mem_append.1 ho with h | h
  ·exact hH _ (by omega) o h
  ·simp at h;subst h;exact yq _ _ _ _
 have hloop:Gd (fun r=>∃ E,r=(.exit 0,⟨E,H++[od l 0 false]⟩)∧E.get 3= .own H.length l.length)
  (ab (ga (ua call Ec) (fa (H.length+1) [3,9,10,11])) qa ⟨nP v H.length 0 l.length 0,H++[od [] 0 false]⟩):=by
  refine za (wb (g:=ga (ua call Ec) (fa (H.length+1) [3,9,10,11]))
   (fun i t=>t=⟨nP v H.length i l.length i,H++[od (l.take i) 0 false]⟩)
   l.length (by unfold qa;omega) _ rfl ?_ ?_) (fun r h=>h.2)
  ·rintro i t hi rfl
   have hv:=hv.lit (i:=i) (by simpa using hi)
   subst hv
   have e1:decide ((i:Int) < (l.length:Int))=true:=Fa (by omega)
   have t2:=Ua hi (by unfold maxLen;omega)
   have a1:=Qj (H++[od (l.take i) 0 false]) hi
   have l1:=gV (H++[od (l.take i) 0 false]) l[i]
   have s1:=sy (H++[od (l.take i) 0 false]) (.pv (i64 0)) (.pv (i64 0)) l[i]
   have l2:=bA (H++[od (l.take i) 0 false]) l[i]
   have hap:=ZB (A:=H++[od (l.take i) 0 false]++[.box [.pv (i64 l[i].1),.pv (i64 l[i].2)]]) (id:=H.length) (n:=i) (h:= .own) (bytes:=16) (by rw[List.getElem?_append_left (by simp)];exact Dj _ _) (by simp;omega) (by unfold qb;omega) l[i]
   rw[List.set_append_left _ _ (by simp),Un,←List.take_succ_eq_append_getElem hi] at hap
   have htk:(H++[od (l.take (i+1)) 0 false]++[ba.box [.pv (i64 l[i].1),.pv (i64 l[i].2)]]).take (H.length+1)=H++[od (l.take (i+1)) 0 false]:=by
    rw[List.take_append_of_le_length (by simp),List.take_of_length_le (by simp)]
   have hc:=hcut (l.take (i+1))
   generalize l[i]=p at *
   generalize hQ:LN _ _ i=Q
   simp -implicitDefEqProofs only[SP,WP,oa,sevalprocAttr,Ec,e1,t2,a1,l1,s1,l2,hap,htk,hc,hid,fa,Aa,AV.cut,pa,nP]
   subst hQ
   rfl
  ·rintro t rfl
   rw[List.take_length]
   have e1:decide ((l.length:Int) < (l.length:Int))=false:=Ga (by omega)
   generalize hQ:(fun r:Ex×St=>r.1.stop=true∧_)=Q
   simp -implicitDefEqProofs only[SX,sevalprocAttr,Ec,e1,nP]
   subst hQ
   exact⟨rfl,_,rfl,by simp[Tr.aa]⟩
 have h2:(0:Int)≤(l.length:Int):=by omega
 have h3:qb l.length 16:=by unfold qb;omega
 have n0:(0:Int).toNat=0:=rfl
 have ho:ba.seq 2 true [] 0 false=od [] 0 false:=rfl
 apply Yk
 simp -implicitDefEqProofs only[SX,sevalprocAttr,Vc,xb,ls,Int.le_refl,eq_true h2,eq_true h3,n0,ho,hlen,hcut,hid,List.take_of_length_le (show (H++[od [] 0 false]).length≤H.length+1 by simp),fa,Aa,AV.cut,pa]
 refine za hloop ?_
 rintro _ ⟨E,rfl,hE⟩
 simp -implicitDefEqProofs only[SX,sevalprocAttr,hE]
end Go.AM.B1
namespace Go.AM.B1
open Go.AM Go.AM.So
theorem Fh {A:List ba} {id n sz bytes:Nat} {nl ag:Bool} {h:Af} {es:List PV} (hg:A[id]? =some (.tok sz n nl)) (hn:n=es.length) (hr:qb (n+1) bytes) (e:PV):
 Yb A false h sz ag bytes (.uq id nl sz es) (.pv (.lit sz [e]))=some (.uq id false sz (es++[e]),A.set id (.tok sz (n+1) false)):=by
 subst hn
 simp only[Yb,Bool.false_eq_true,if_false,hg,Kf,if_true,Option.bind_some,List.length_cons,List.length_nil]
 rw[if_pos ⟨trivial,trivial,trivial,hr⟩]
 simp
abbrev wO (id n i tk:Nat) (nl:Bool) (es:List PV):Tr:=(((Tr.lf.set 11 (.pv (i64 i))).set 10 (.pv (i64 n))).set 9 (.own id n)).set 3 (.uq tk nl 2 es)
theorem bP {A:List ba} {id fl:Nat} {nl:Bool} {l:List (Int×Int)} (hg:A[id]? =some (od l fl nl)) (hf:fl≤l.length * 2) (hA:Gg A):Hp id 2 TX A (nf l) A:=
 Hp.refl (fl:=fl) (nl:=nl) hA (by rw[Lo];exact hf) hg (WA l)
theorem xD {l:List (Int×Int)} {i:Nat} (hi:i < l.length):(nf l)[i]! =SE l[i]:=by
 rw[jZ (by rw[Lo];exact hi)];simp[nf]
theorem vQ (call:Wa) (l:List (Int×Int)) {id fl:Nat} {nl:Bool} (H:List ba) (hH:Gg H) (hg:H[id]? =some (od l fl nl)) (hf:fl≤l.length * 2) (hw:l.length * 16≤140737488355328):
 Ri call pd [.own id l.length] H=some (.uq H.length false 2 (Hd l),H++[.tok 2 l.length false]):=by
 have hp:=bP hg hf hH
 have hid:id < H.length:=hp.lt
 have hid1:id < H.length+1:=by omega
 have htk:H.length < H.length+1:=Nat.lt_succ_self _
 have hl:=Gi l
 have hn:l.length=(nf l).size:=(Lo l).symm
 have hlen:∀ m b,(H++[ba.tok 2 m b]).length=H.length+1:=fun m b=>by simp
 have hcut:∀ m b,Ra (na (H.length+1)) (H++[ba.tok 2 m b])=some (H++[ba.tok 2 m b]):=fun m b=>vl fun o ho=>by
  rcases List.mem_append.1 ho with h | h
  ·exact hH _ (by omega) o h
  ·simp at h;subst h;rfl
 have hlA:∀ T,Vb (H++T) 0 (.own id l.length)=some l.length:=by
  intro T
  rw[Vz,List.getElem?_append_left hid,hg]
  simp only[od,Lg]
  rw[if_pos];unfold Qh;omega
 have hlA0:Vb H 0 (.own id l.length)=some l.length:=by have:=hlA [];rwa [List.append_nil] at this
 have hloop:Gd (fun r=>∃ E,r=(.exit 0,⟨E,H++[.tok 2 l.length false]⟩)∧E.get 3= .uq H.length false 2 (Hd l))
  (ab (ga (ua call Jc) (fa (H.length+1) [3,9,10,11])) qa ⟨wO id l.length 0 H.length false [],H++[.tok 2 0 false]⟩):=by
  refine za (wb (g:=ga (ua call Jc) (fa (H.length+1) [3,9,10,11]))
   (fun i t=>t=⟨wO id l.length i H.length false (Hd (l.take i)),H++[.tok 2 i false]⟩)
   l.length (by unfold qa;omega) _ rfl ?_ ?_) (fun r h=>h.2)
  ·rintro i t hi rfl
   have e1:decide ((i:Int) < (l.length:Int))=true:=Fa (by omega)
   have t2:=Ua hi (by unfold maxLen;omega)
   have a1:=xG [.tok 2 i false] hid (hp.sd Dx hn (i:=(i:Int)) rfl (by omega))
   have l1:=vL [.tok 2 i false] hid (hp.load Dx hn (k:=i) (by omega))
   rw[xD hi] at l1
   have l1':xa (H++[.tok 2 i false]) true 2 (.Gc id (l.length * 2) (i * 2))=some (.pv (pr l[i])):=l1
   have s1:=sy (H++[.tok 2 i false]) (.pv (i64 0)) (.pv (i64 0)) l[i]
   have l2:=bA (H++[.tok 2 i false]) l[i]
   have hap:=Fh (A:=H++[.tok 2 i false]++[.box [.pv (i64 l[i].1),.pv (i64 l[i].2)]]) (id:=H.length) (n:=i) (h:= .uq) (ag:=true) (nl:=false) (sz:=2) (bytes:=16) (es:=Hd (l.take i)) (by rw[List.getElem?_append_left (by simp)];exact Dj _ _) (by simp;omega) (by unfold qb;omega) (pr l[i])
   have hs:Hd (l.take (i+1))=Hd (l.take i)++[pr l[i]]:=by rw[List.take_succ_eq_append_getElem hi];simp only[Hd,List.map_append,List.map_cons,List.map_nil]
   rw[List.set_append_left _ _ (by simp),Un,←hs] at hap
   have htk2:(H++[ba.tok 2 (i+1) false]++[ba.box [.pv (i64 l[i].1),.pv (i64 l[i].2)]]).take (H.length+1)=H++[ba.tok 2 (i+1) false]:=by
    rw[List.take_append_of_le_length (by simp),List.take_of_length_le (by simp)]
   have hc:=hcut (i+1) false
   generalize l[i]=p at *
   generalize hes':Hd (l.take (i+1))=es' at *
   generalize Hd (l.take i)=es at *
   generalize hQ:LN _ _ i=Q
   simp -implicitDefEqProofs only[SP,WP,oa,sevalprocAttr,Jc,e1,t2,a1,l1',s1,l2,hap,htk,htk2,hc,hid1,fa,Aa,AV.cut,pa,wO]
   subst hQ
   subst hes'
   rfl
  ·rintro t rfl
   rw[List.take_length]
   have e1:decide ((l.length:Int) < (l.length:Int))=false:=Ga (by omega)
   generalize hQ:(fun r:Ex×St=>r.1.stop=true∧_)=Q
   simp -implicitDefEqProofs only[SX,sevalprocAttr,Jc,e1,wO]
   subst hQ
   exact⟨rfl,_,rfl,by simp[Tr.aa]⟩
 have h2:(0:Int)≤(l.length:Int):=by omega
 have h3:qb l.length 16:=by unfold qb;omega
 have n0:(0:Int).toNat=0:=rfl
 apply Yk
 simp -implicitDefEqProofs only[SX,sevalprocAttr,pd,xb,hlA,hlA0,Int.le_refl,eq_true h2,eq_true h3,n0,hlen,hcut,hid1,htk,List.take_of_length_le (show (H++[ba.tok 2 0 false]).length≤H.length+1 by simp),fa,Aa,AV.cut,pa]
 refine za hloop ?_
 rintro _ ⟨E,rfl,hE⟩
 simp -implicitDefEqProofs only[SX,sevalprocAttr,hE]
def Lj (x:Int) (l:List (Int×Int)):Prop:=∃ p∈l,p.1≤x∧x≤p.2
end Go.AM.B1
namespace Go.AM.B1
open Go.AM Go.AM.So
def zh:List (Int×Int)→List (Int×Int)→List (Int×Int)
 |out,[]=>out
 |out,r::rest=>match out.getLast? with
  |some q=>if r.1≤q.2+1 then zh (out.dropLast++[(q.1,if r.2 > q.2 then r.2 else q.2)]) rest else zh (out++[r]) rest
  |none=>zh (out++[r]) rest
theorem zH (r:Int×Int) (rest:List (Int×Int)):zh [] (r::rest)=zh [r] rest:=rfl
theorem eD {out rest:List (Int×Int)} {q r:Int×Int} (h:r.1≤q.2+1):zh (out++[q]) (r::rest)=zh (out++[(q.1,if r.2 > q.2 then r.2 else q.2)]) rest:=by
 rw[zh,List.getLast?_append];simp[h]
theorem vH {out rest:List (Int×Int)} {q r:Int×Int} (h:¬r.1≤q.2+1):zh (out++[q]) (r::rest)=zh (out++[q]++[r]) rest:=by
 rw[zh,List.getLast?_append];simp[h]
section
variable {A:List ba} {id fl:Nat} {nl:Bool} {out:List (Int×Int)} {q:Int×Int} (hg:A[id]? =some (od (out++[q]) fl nl)) (hf:fl≤(out.length+1) * 2)
include hg hf
theorem GM:wa A 2 (.own id (out.length+1)) (out.length:Int)=some (.Gc id ((out.length+1) * 2) (out.length * 2)):=by
 have hl:=Gi (out++[q])
 rw[List.length_append,List.length_cons,List.length_nil] at hl
 simp only[wa,hg,od,Lg]
 rw[if_pos (by refine⟨trivial,?_,?_⟩ <;> first | (unfold Ia;omega) | (unfold Qh;omega))]
 simp
omit hf in
theorem CM:place A 1 (.Gc id ((out.length+1) * 2) (out.length * 2))=some (.Gc id ((out.length+1) * 2) (out.length * 2+1)):=by
 have hl:=Gi (out++[q])
 rw[List.length_append,List.length_cons,List.length_nil] at hl
 simp only[place,hg,od,Lg,hl,if_true]
omit hf in
theorem wR:xa A false 1 (.Gc id ((out.length+1) * 2) (out.length * 2+1))=some (.pv (i64 q.2)):=by
 have hl:=Gi (out++[q])
 rw[List.length_append,List.length_cons,List.length_nil] at hl
 simp only[xa,hg,od,Lg,hl,if_true,bh,Bool.false_eq_true,if_false]
 have e:mh (nf (out++[q]))=mh (nf out)++[.pv (i64 q.1),.pv (i64 q.2)]:=by simp[mh,nf,SE]
 have hl2:=Gi out
 rw[e,List.getElem?_append_right (by omega),hl2]
 have:out.length * 2+1 - out.length * 2=1:=by omega
 rw[this];rfl
omit hf in
theorem oN (v:Int):Oa A 1 (.Gc id ((out.length+1) * 2) (out.length * 2+1)) (.pv (i64 v))=some (A.set id (od (out++[(q.1,v)]) ((out.length+1) * 2) nl)):=by
 have hl:=Gi (out++[q])
 rw[List.length_append,List.length_cons,List.length_nil] at hl
 have e:∀ q:Int×Int,mh (nf (out++[q]))=mh (nf out)++[.pv (i64 q.1),.pv (i64 q.2)]:=fun q=>by simp[mh,nf,SE]
 have hl2:=Gi out
 have hs:oa (mh (nf (out++[q]))) (out.length * 2+1) [.pv (i64 v)]=mh (nf (out++[(q.1,v)])):=by
  rw[e,e,oa,oa,List.set_append_right _ _ (by omega),hl2]
  have:out.length * 2+1 - out.length * 2=1:=by omega
  rw[this];rfl
 have hc:(AV.pv (i64 v)).cells=[.pv (i64 v)]:=rfl
 simp only[Oa,hg,od,Lg,hc]
 rw[if_pos ⟨rfl,rfl⟩,if_pos ⟨hl,by omega⟩,hs]
end
abbrev wB (id0 n i id1 m:Nat):Tr:=(((Tr.lf.set 11 (.pv (i64 i))).set 10 (.pv (i64 n))).set 9 (.own id0 n)).set 3 (.own id1 m)
def yM (l:List (Int×Int)):Prop:=∀ p∈l,-4611686018427387904≤p.2∧p.2≤4611686018427387904
theorem IT {a b:List (Int×Int)} (ha:yM a) (hb:yM b):yM (a++b):=by
 intro p hp
 rcases List.mem_append.1 hp with h | h
 ·exact ha p h
 ·exact hb p h
theorem aS (call:Wa) (l:List (Int×Int)) (hl:yM l) {id0 fl0:Nat} {nl0:Bool} (H:List ba) (hH:Gg H) (hg0:H[id0]? =some (od l fl0 nl0)) (hf0:fl0≤l.length * 2) (hw:l.length≤1000000):
 Gd (fun r=>∃ E fl nl,r=(.exit 0,⟨E,H++[od (zh [] l) fl nl]⟩)∧E.get 3= .own H.length (zh [] l).length∧fl≤(zh [] l).length * 2)
  (ab (ga (ua call Wh) (fa (H.length+1) [3,9,10,11])) qa ⟨wB id0 l.length 0 H.length 0,H++[od [] 0 true]⟩):=by
 have hp:=bP hg0 hf0 hH
 have hid:id0 < H.length:=hp.lt
 have hid1:id0 < H.length+1:=by omega
 have htk:H.length < H.length+1:=Nat.lt_succ_self _
 have hn:l.length=(nf l).size:=(Lo l).symm
 have hcut:∀ a b c,Ra (na (H.length+1)) (H++[od a b c])=some (H++[od a b c]):=fun a b c=>vl fun o ho=>by
  rcases List.mem_append.1 ho with h | h
  ·exact hH _ (by omega) o h
  ·simp at h;subst h;exact yq _ _ _ _
 refine za (wb (g:=ga (ua call Wh) (fa (H.length+1) [3,9,10,11]))
  (fun i t=>∃ out fl nl,t=⟨wB id0 l.length i H.length out.length,H++[od out fl nl]⟩∧fl≤out.length * 2∧yM out∧out.length≤i∧zh [] l=zh out (l.drop i))
  l.length (by unfold qa;omega) _ ⟨[],0,true,rfl,by omega,by intro p hp;simp at hp,by simp,rfl⟩ ?_ ?_) (fun r h=>h.2)
 ·rintro i t hi ⟨out,fl,nl,rfl,hfl,hsa,hle,hs⟩
  have hd:l.drop i=l[i]::l.drop (i+1):=List.drop_eq_getElem_cons hi
  rw[hd] at hs
  have hsp:=hl l[i] (List.getElem_mem hi)
  have e1:decide ((i:Int) < (l.length:Int))=true:=Fa (by omega)
  have t2:=Ua hi (by unfold maxLen;omega)
  have a1:=xG [od out fl nl] hid (hp.sd Dx hn (i:=(i:Int)) rfl (by omega))
  have l1:=vL [od out fl nl] hid (hp.load Dx hn (k:=i) (by omega))
  rw[xD hi] at l1
  have l1':xa (H++[od out fl nl]) true 2 (.Gc id0 (l.length * 2) (i * 2))=some (.pv (pr l[i])):=l1
  have s1:=sy (H++[od out fl nl]) (.pv (i64 0)) (.pv (i64 0)) l[i]
  have l2:=bA (H++[od out fl nl]) l[i]
  have b0:∀ p:Int×Int,place (H++[od out fl nl]++[ba.box [.pv (i64 p.1),.pv (i64 p.2)]]) 0 (.ptr (H++[od out fl nl]).length 0)=some (.ptr (H++[od out fl nl]).length 0):=fun p=>by simp[place]
  have b1:∀ p:Int×Int,place (H++[od out fl nl]++[ba.box [.pv (i64 p.1),.pv (i64 p.2)]]) 1 (.ptr (H++[od out fl nl]).length 0)=some (.ptr (H++[od out fl nl]).length 1):=fun p=>by simp[place]
  have b2:∀ p:Int×Int,xa (H++[od out fl nl]++[ba.box [.pv (i64 p.1),.pv (i64 p.2)]]) false 1 (.ptr (H++[od out fl nl]).length 0)=some (.pv (i64 p.1)):=fun p=>by simp[xa,bh]
  have b3:∀ p:Int×Int,xa (H++[od out fl nl]++[ba.box [.pv (i64 p.1),.pv (i64 p.2)]]) false 1 (.ptr (H++[od out fl nl]).length 1)=some (.pv (i64 p.2)):=fun p=>by simp[xa,bh]
  have hap:=ZB (A:=H++[od out fl nl]++[.box [.pv (i64 l[i].1),.pv (i64 l[i].2)]]) (id:=H.length) (n:=out.length) (h:= .own) (bytes:=16) (by rw[List.getElem?_append_left (by simp)];exact Dj _ _) rfl (by unfold qb;omega) l[i]
  rw[List.set_append_left _ _ (by simp),Un] at hap
  have htk2:∀ (o o2:ba),(H++[o]++[o2]).take (H.length+1)=H++[o]:=fun o o2=>by
   rw[List.take_append_of_le_length (by simp),List.take_of_length_le (by simp)]
  have hlen:Vb (H++[od out fl nl]++[.box [.pv (i64 l[i].1),.pv (i64 l[i].2)]]) 0 (.own H.length out.length)=some out.length:=by
   rw[Vz,List.getElem?_append_left (by simp),Dj]
   have:=Gi out
   simp only[od,Lg]
   rw[if_pos];unfold Qh;omega
  rcases List.eq_nil_or_concat out with rfl | ⟨out,q,rfl⟩
  ·have hz:decide (((0:Nat):Int) > 0)=false:=by decide
   rw[zH] at hs
   rw[List.length_nil] at hap hlen
   rw[Nat.zero_add,List.nil_append] at hap
   generalize l[i]=p at *
   generalize hQ:LN _ _ i=Q
   simp -implicitDefEqProofs only[SP,WP,oa,sevalprocAttr,Wh,e1,t2,a1,l1',s1,l2,hlen,hz,hap,htk2,hcut,hid1,htk,fa,Aa,AV.cut,pa,wB]
   subst hQ
   exact⟨[p],fl,false,rfl,by simp at hfl ⊢;omega,by intro x hx;simp at hx;subst hx;exact hsp,by simp,hs⟩
  ·rw[List.concat_eq_append] at *
   have hql:=hsa q (by simp)
   have hol:(out++[q]).length=out.length+1:=by simp
   have hg1:(H++[od (out++[q]) fl nl]++[ba.box [.pv (i64 l[i].1),.pv (i64 l[i].2)]])[H.length]? =some (od (out++[q]) fl nl):=by rw[List.getElem?_append_left (by simp)];exact Dj _ _
   have c1:=GM hg1 (by rw[hol] at hfl;exact hfl)
   have c2:=CM hg1
   have c3:=wR hg1
   have c4:=oN hg1 (if l[i].2 > q.2 then l[i].2 else q.2)
   rw[List.set_append_left _ _ (by simp),Un] at c4
   have t3:IntKind.i64.wrap (((out.length+1:Nat):Int) - 1)=(out.length:Int):=by rw[Ca (by omega)];omega
   have t4:IntKind.i64.wrap (q.2+1)=q.2+1:=Ca (by omega)
   have hz:decide (((out.length+1:Nat):Int) > 0)=true:=Fa (by omega)
   rw[hol] at hlen hap hfl hle
   by_cases hj:l[i].1≤q.2+1
   ·have e2:decide (l[i].1≤q.2+1)=true:=Fa hj
    rw[eD hj] at hs
    generalize l[i]=p at *
    generalize hmx:(if p.2 > q.2 then p.2 else q.2)=mx at *
    generalize hQ:LN _ _ i=Q
    simp -implicitDefEqProofs only[SP,WP,oa,sevalprocAttr,Wh,e1,t2,a1,l1',s1,l2,hol,hlen,hz,b0,b1,b2,b3,c1,c2,c3,c4,t3,t4,e2,Mo,De,hmx,htk2,hcut,hid1,htk,fa,Aa,AV.cut,pa,wB]
    subst hQ
    refine⟨out++[(q.1,mx)],(out.length+1) * 2,nl,by simp[wB,hol],by simp,?_,by simp;omega,hs⟩
    intro x hx
    rcases List.mem_append.1 hx with h | h
    ·exact hsa x (by simp[h])
    ·simp at h;subst h
     rw[← hmx];split <;> simp only <;> omega
   ·have e2:decide (l[i].1≤q.2+1)=false:=Ga hj
    rw[vH hj] at hs
    generalize l[i]=p at *
    generalize hQ:LN _ _ i=Q
    simp -implicitDefEqProofs only[SP,WP,oa,sevalprocAttr,Wh,e1,t2,a1,l1',s1,l2,hol,hlen,hz,b0,b1,b2,b3,c1,c2,c3,t3,t4,e2,hap,htk2,hcut,hid1,htk,fa,Aa,AV.cut,pa,wB]
    subst hQ
    refine⟨out++[q]++[p],fl,false,by simp[wB],by simp;omega,?_,by simp;omega,hs⟩
    exact IT hsa (by intro x hx;simp at hx;subst hx;exact hsp)
 ·rintro t ⟨out,fl,nl,rfl,hfl,hsa,hle,hs⟩
  rw[List.drop_length,zh] at hs
  have e1:decide ((l.length:Int) < (l.length:Int))=false:=Ga (by omega)
  generalize hQ:(fun r:Ex×St=>r.1.stop=true∧_)=Q
  simp -implicitDefEqProofs only[SX,sevalprocAttr,Wh,e1,wB]
  subst hQ
  rw[hs]
  exact⟨rfl,_,fl,nl,rfl,by simp[Tr.aa],hfl⟩
end Go.AM.B1
namespace Go.AM.B1
open Go.AM Go.AM.So
def my (last:Int) (a:List (Int×Int)):Int:=(a.getLast?.map (·.2)).getD last
theorem tJ (last:Int) (p:Int×Int) (a:List (Int×Int)):my last (p::a)=my p.2 a:=by
 cases a with
 |nil=>rfl
 |cons q a=>simp[my,List.getLast?_cons]
theorem WK (last:Int) (a:List (Int×Int)) (q:Int×Int):my last (a++[q])=q.2:=by simp[my]
theorem gv (top:Int):∀ (a b:List (Int×Int)) (last:Int),Qa top last (a++b)=(Qa top last a&&Qa top (my last a) b)
 | [],b,last=>by simp[Qa,my]
 |p::a,b,last=>by
  rw[List.cons_append,Qa,Qa,gv top a b p.2,tJ,Bool.and_assoc]
theorem Sq {top last:Int} {p:Int×Int}:Qa top last [p]=true↔0≤p.1∧p.1≤p.2∧p.2≤top∧last < p.1 - 1:=by
 simp only[Qa,Bool.and_true,Bool.not_eq_true',Bool.or_eq_false_iff,decide_eq_false_iff_not]
 constructor <;> intro h <;> refine⟨?_,?_⟩ <;> omega
theorem dt (x:Int) (a b:List (Int×Int)):Lj x (a++b)↔Lj x a∨Lj x b:=by
 unfold Lj
 simp only[List.mem_append]
 constructor
 ·rintro⟨p,h | h,hp⟩
  ·exact .inl ⟨p,h,hp⟩
  ·exact .inr ⟨p,h,hp⟩
 ·rintro (⟨p,h,hp⟩ | ⟨p,h,hp⟩)
  ·exact⟨p,.inl h,hp⟩
  ·exact⟨p,.inr h,hp⟩
theorem Eo (x:Int) (p:Int×Int):Lj x [p]↔p.1≤x∧x≤p.2:=by
 unfold Lj;simp
theorem Vm (x:Int):¬Lj x []:=by unfold Lj;simp
theorem xm (x:Int) (p:Int×Int) (l:List (Int×Int)):Lj x (p::l)↔(p.1≤x∧x≤p.2)∨Lj x l:=by
 unfold Lj;simp
theorem Zz {top:Int}:∀ (rest out:List (Int×Int)) (q:Int×Int),Qa top (-2) (out++[q])=true→(∀ p∈rest,0≤p.1∧p.1≤p.2∧p.2≤top∧q.1≤p.1)→rest.Pairwise (fun p q=>p.1≤q.1)→
 Qa top (-2) (zh (out++[q]) rest)=true∧(∀ x,Lj x (zh (out++[q]) rest)↔Lj x (out++[q])∨Lj x rest)∧(zh (out++[q]) rest).length≤out.length+1+rest.length
 | [],out,q,hv,_,_=>by
   rw[zh]
   exact⟨hv,fun x=>by simp[Vm],by simp⟩
 |r::rest,out,q,hv,hr,hs=>by
  have h1:=hr r (by simp)
  rw[List.pairwise_cons] at hs
  have hv':=hv
  rw[gv,Bool.and_eq_true,Sq] at hv'
  by_cases hj:r.1≤q.2+1
  ·rw[eD hj]
   have ih:=Zz rest out (q.1,if r.2 > q.2 then r.2 else q.2) (by
    rw[gv,Bool.and_eq_true,Sq]
    refine⟨hv'.1,hv'.2.1,?_,?_,hv'.2.2.2.2⟩ <;> simp only <;> split <;> omega) (fun p hp=>by
     have:=hr p (by simp[hp])
     exact⟨this.1,this.2.1,this.2.2.1,this.2.2.2⟩) hs.2
   refine⟨ih.1,fun x=> ?_,by have:=ih.2.2;simp only[List.length_cons];omega⟩
   rw[ih.2.1,dt,dt,Eo,Eo,xm]
   have e:(q.1≤x∧x≤(if r.2 > q.2 then r.2 else q.2))↔(q.1≤x∧x≤q.2)∨(r.1≤x∧x≤r.2):=by
    split <;> constructor <;> intro h <;> omega
   simp only[e]
   constructor
   ·rintro ((h | h | h) | h)
    ·exact .inl (.inl h)
    ·exact .inl (.inr h)
    ·exact .inr (.inl h)
    ·exact .inr (.inr h)
   ·rintro ((h | h) | h | h)
    ·exact .inl (.inl h)
    ·exact .inl (.inr (.inl h))
    ·exact .inl (.inr (.inr h))
    ·exact .inr h
  ·rw[vH hj]
   have ih:=Zz rest (out++[q]) r (by
    rw[gv,Bool.and_eq_true,Sq,WK]
    exact⟨hv,h1.1,h1.2.1,h1.2.2.1,by omega⟩) (fun p hp=>by
     have h2:=hr p (by simp[hp])
     exact⟨h2.1,h2.2.1,h2.2.2.1,hs.1 p hp⟩) hs.2
   refine⟨ih.1,fun x=> ?_,by have:=ih.2.2;simp only[List.length_cons,List.length_append,List.length_nil] at this ⊢;omega⟩
   rw[ih.2.1,dt,Eo,xm]
   constructor
   ·rintro ((h | h) | h)
    ·exact .inl h
    ·exact .inr (.inl h)
    ·exact .inr (.inr h)
   ·rintro (h | h | h)
    ·exact .inl (.inl h)
    ·exact .inl (.inr h)
    ·exact .inr h
theorem xP {top:Int} (l:List (Int×Int)) (hr:∀ p∈l,0≤p.1∧p.1≤p.2∧p.2≤top) (hs:l.Pairwise (fun p q=>p.1≤q.1)):
 Qa top (-2) (zh [] l)=true∧(∀ x,Lj x (zh [] l)↔Lj x l)∧(zh [] l).length≤l.length:=by
 cases l with
 |nil=>exact⟨rfl,fun x=>Iff.rfl,Nat.le_refl _⟩
 |cons r rest=>
  rw[zH]
  have h1:=hr r (by simp)
  rw[List.pairwise_cons] at hs
  have:=Zz rest [] r (by rw[List.nil_append,Sq];exact⟨h1.1,h1.2.1,h1.2.2,by omega⟩) (fun p hp=>by
   have h2:=hr p (by simp[hp])
   exact⟨h2.1,h2.2.1,h2.2.2,hs.1 p hp⟩) hs.2
  rw[List.nil_append] at this
  refine⟨this.1,fun x=> ?_,by have:=this.2.2;simp at this ⊢;omega⟩
  rw[this.2.1,Eo,xm]
theorem Jn {top:Int}:∀ {l:List (Int×Int)} {last:Int},Qa top last l=true→∀ p∈l,0≤p.1∧p.1≤p.2∧p.2≤top
 |q::l,last,h,p,hp=>by
  obtain⟨h1,h2,h3,h4,h5⟩:=ee h
  rcases List.mem_cons.1 hp with rfl | hp
  ·exact⟨by omega,by omega,by omega⟩
  ·exact Jn h5 p hp
theorem dz:∀ (l:List (Int×Int)),mh (nf l)=Hf (l.flatMap fun p=>[p.1,p.2])
 | []=>rfl
 |p::l=>by
  have h:=dz l
  simp only[mh,nf,Hf] at h ⊢
  simp[SE,h]
theorem ND:∀ (l:List (Int×Int)),wh 2 l.length (l.flatMap fun p=>[p.1,p.2])=l.map fun p=>[p.1,p.2]
 | []=>rfl
 |p::l=>by
  rw[List.length_cons,wh,List.flatMap_cons,List.map_cons,←ND l];rfl
theorem ER {l:List (Int×Int)} (hw:l.length < 50) {H:List ba} {id fl:Nat} {nl:Bool} (hg:H[id]? =some (od l fl nl)):
 ∃ l',l'.Perm l∧l'.Pairwise (fun p q=>p.1≤q.1)∧Zy 2 0 23 [.own id l.length,.Fk 23 []] H=some (.pv (.mc []),H.set id (od l' (l.length * 2) nl)):=by
 obtain⟨s1,s2,s3⟩:=Xy 2 0 (l.map fun p=>[p.1,p.2]).toArray
 have hso:∀ F,uF (mh (nf l))=some F→wh 2 l.length F=l.map fun p=>[p.1,p.2]:=by
  intro F hF
  rw[dz,Ou] at hF
  injection hF with hF
  rw[← hF,ND]
 generalize hE:Ho 2 0 (l.map fun p=>[p.1,p.2]).toArray=E at *
 have hEl:∃ l':List (Int×Int),E.toList=l'.map fun p=>[p.1,p.2]:=by
  have key:∀ (L:List (List Int)),(∀ r∈L,∃ p:Int×Int,r=[p.1,p.2])→∃ l':List (Int×Int),L=l'.map fun p=>[p.1,p.2]:=by
   intro L
   induction L with
   |nil=>intro _;exact⟨[],rfl⟩
   |cons r L ih=>
    intro h
    obtain⟨p,rfl⟩:=h r (by simp)
    obtain⟨l',rfl⟩:=ih fun x hx=>h x (by simp[hx])
    exact⟨p::l',rfl⟩
  refine key _ fun r hr=> ?_
  have:=s2.mem_iff.1 hr
  simp only[List.mem_map] at this
  obtain⟨p,_,rfl⟩:=this
  exact⟨p,rfl⟩
 obtain⟨l',hl'⟩:=hEl
 have hs:E.size=l.length:=by rw[s1];simp
 have hll:l'.length=l.length:=by rw[← hs,←Array.length_toList,hl',List.length_map]
 refine⟨l',?_,?_,?_⟩
 ·rw[hl'] at s2
  have:=s2.map fun r=>(r.getD 0 0,r.getD 1 0)
  simpa[List.map_map,Function.comp_def] using this
 ·rw[List.pairwise_iff_getElem]
  intro i j hi hj hij
  have h:=s3 i j hij (by simp;omega)
  have hg:∀ q (hq:q < l'.length),uw 2 0 E[q]! =l'[q].1:=by
   intro q hq
   have h1:q < E.size:=by omega
   have:E[q]=[l'[q].1,l'[q].2]:=by
    have h2:E.toList[q]? =some [l'[q].1,l'[q].2]:=by rw[hl',List.getElem?_map,List.getElem?_eq_getElem hq];rfl
    rw[Array.getElem?_toList,Array.getElem?_eq_getElem h1] at h2
    exact Option.some.inj h2
   rw[getElem!_pos E q h1,this];rfl
  rw[hg i hi,hg j hj] at h
  omega
 ·have hfl:=Gi l
  unfold Zy
  simp only[hg,od,Lg]
  rw[if_pos ⟨trivial,trivial,by rw[hfl],by omega⟩]
  have hF:=dz l
  have hI:=Ou (l.flatMap fun p=>[p.1,p.2])
  rw[← hF] at hI
  rw[hI,Option.map_some,hso _ hI,hE,hl',hfl]
  have e:Hf (List.map (fun p:Int×Int=>[p.1,p.2]) l').flatten=mh (nf l'):=by rw[dz,List.flatMap_def]
  rw[e]
theorem sS (d:Nat) (args:List AV) (H:List ba):rh Wj Fb (d+1) 22 args H=Zy 2 0 23 args H:=rfl
theorem qU (l:List (Int×Int)) (hl:yM l) {id0 fl0:Nat} {nl0:Bool} (H:List ba) (hH:Gg H) (hg0:H[id0]? =some (od l fl0 nl0)) (hf0:fl0≤l.length * 2) (hw:l.length < 50):
 Gd (fun r=>∃ l' fl nl,l'.Perm l∧l'.Pairwise (fun p q=>p.1≤q.1)∧r.1= .own (r.2.length - 1) (zh [] l').length∧Gg r.2∧r.2[r.2.length - 1]? =some (od (zh [] l') fl nl)∧fl≤(zh [] l').length * 2)
  (Ri (rh Wj Fb 7) Io [.own id0 l.length] H):=by
 obtain⟨l',hpl,hps,hst⟩:=ER hw hg0
 have hid0:=(List.getElem?_eq_some_iff.1 hg0).1
 have hs2:l'.length=l.length:=hpl.length_eq
 have hg:(H.set id0 (od l' (l.length * 2) nl0))[id0]? =some (od l' (l.length * 2) nl0):=List.getElem?_set_self hid0
 have hgd:Gg (H.set id0 (od l' (l.length * 2) nl0)):=by
  intro n hn o ho
  rcases List.mem_or_eq_of_mem_set ho with h | h
  ·exact hH n (by simpa using hn) o h
  ·subst h;exact yq _ _ _ _
 have hfl:l.length * 2≤l'.length * 2:=by omega
 simp -implicitDefEqProofs only[SX,sevalprocAttr,Io,sS,hst]
 generalize H.set id0 (od l' (l.length * 2) nl0)=H2 at *
 have hl':yM l':=fun p hpp=>hl p (hpl.mem_iff.1 hpp)
 have hlp:=aS (rh Wj Fb 7) l' hl' H2 hgd hg hfl (by omega)
 rw[hs2] at hlp
 have hlen:Vb (H2++[od [] 0 true]) 0 (.own id0 l.length)=some l.length:=by
  have hid:id0 < H2.length:=(List.getElem?_eq_some_iff.1 hg).1
  have:=Gi l'
  rw[Vz,List.getElem?_append_left hid,hg]
  simp only[od,Lg]
  unfold mh at this ⊢
  rw[if_pos];unfold Qh;omega
 have hg2:H2.length < H2.length+1:=Nat.lt_succ_self _
 have hid1:id0 < H2.length+1:=by have:=(List.getElem?_eq_some_iff.1 hg).1;omega
 have hgood:Gg (H2++[od [] 0 true]):=by
  intro n hn o ho
  rcases List.mem_append.1 ho with h | h
  ·exact hgd n (by simp at hn;omega) o h
  ·simp at h;subst h;exact yq _ _ _ _
 have hcut:=Gg.cut hgood
 have hlen1:(H2++[od [] 0 true]).length=H2.length+1:=by simp
 rw[hlen1] at hcut
 have hz:(0 < 2)=True:=by simp
 have ho:ba.seq 2 true [] 0 true=od [] 0 true:=rfl
 simp -implicitDefEqProofs only[SX,sevalprocAttr,xb,Be,hz,ho,hlen,hlen1,hcut,hg2,hid1,List.take_of_length_le (show (H2++[od [] 0 true]).length≤H2.length+1 by simp),fa,Aa,AV.cut,pa]
 refine za hlp ?_
 rintro _ ⟨E,fl2,nl2,rfl,hE,hfl2⟩
 simp -implicitDefEqProofs only[SX,sevalprocAttr,hE]
 refine⟨l',fl2,nl2,hpl,hps,by simp,?_,by simp,hfl2⟩
 intro n hn o ho
 rcases List.mem_append.1 ho with h | h
 ·exact hgd n (by simp at hn;omega) o h
 ·simp at h;subst h;exact yq _ _ _ _
end Go.AM.B1
namespace Go.AM.B1
open Go.AM Go.AM.So
abbrev My:Int:=1073741823
theorem dQ {A:List ba} {id1 id2 n1 n2 f1 f2 bytes:Nat} {k1 k2:Bool} {h:Af} {a b:List (Int×Int)} (h1:A[id1]? =some (od a f1 k1)) (h2:A[id2]? =some (od b f2 k2)) (hn1:n1=a.length) (hn2:n2=b.length) (hr:qb (n1+n2) bytes):
 ∃ k,Yb A true h 2 true bytes (.own id1 n1) (.own id2 n2)=some (.own id1 (n1+n2),A.set id1 (od (a++b) f1 k)):=by
 subst hn1 hn2
 have la:=Gi a
 have lb:=Gi b
 have e:mh (nf (a++b))=mh (nf a)++mh (nf b):=by simp[mh,nf]
 have hone:(mh (nf b)).all AV.one=true:=by
  rw[List.all_eq_true]
  intro v hv
  obtain⟨c,hc,rfl⟩:=List.mem_map.1 hv
  rw[List.mem_flatten] at hc
  obtain⟨r,hr,hc⟩:=hc
  exact (Dx r (WA b r hr)).2 c hc
 refine⟨k1&&(b.length==0),?_⟩
 simp only[Yb,if_true,h1,od,Lg,Cj,h2,e]
 rw[if_pos ⟨trivial,by omega⟩]
 simp only[Option.bind_some]
 rw[if_pos ⟨trivial,by omega,hr,hone⟩]
theorem Mp (v:PV) (l:List (Int×Int)) (hv:Vi 2 v (Hd l)) (hw:l.length * 16≤140737488355328) (hval:Qa My (-2) l=true) (H:List ba) (hH:Gg H):
 Ri (rh Wj Fb 7) Di [.pv v] H=some (.own H.length l.length,H++[od l 0 false]):=by
 have h1:=qM (rh Wj Fb 6) v l hv hw H hH
 have h2:=bu (.lit 2 (Hd l)) l (.inr rfl) (by unfold maxLen;omega) My (by decide)
 rw[hval] at h2
 have h0:∀ args H,rh Wj Fb 7 0 args H=Ri (rh Wj Fb 6) Vc args H:=fun _ _=>rfl
 have h3:=fQ (A:=H++[od l 0 false]) (id:=H.length) (n:=l.length) (Dj _ _) rfl 5
 rw[if_neg (by simp)] at h3
 simp -implicitDefEqProofs only[SX,sevalprocAttr,Di,h0,h1,h2,h3]
theorem RL {H:List ba} (hH:Gg H) {o:ba} (ho:∀ n,na n o=some o):Gg (H++[o]):=by
 intro n hn x hx
 rcases List.mem_append.1 hx with h | h
 ·exact hH n (by simp at hn;omega) x h
 ·simp at h;subst h;exact ho n
theorem UQ (A B:PV) (a b:List (Int×Int)) (hA:Vi 2 A (Hd a)) (hB:Vi 2 B (Hd b)) (hva:Qa My (-2) a=true) (hvb:Qa My (-2) b=true) (hl:a.length+b.length < 50):
 ∃ u,Ul [A,B]=some (.lit 2 (Hd u))∧Qa My (-2) u=true∧(∀ x,Lj x u↔Lj x a∨Lj x b)∧u.length≤a.length+b.length:=by
 have h1:=Mp A a hA (by omega) hva [] (by intro n _ o ho;simp at ho)
 have hg1:Gg ([]++[od a 0 false]):=RL (by intro n _ o ho;simp at ho) (yq _ _ _)
 have h2:=Mp B b hB (by omega) hvb ([]++[od a 0 false]) hg1
 obtain⟨k,h3⟩:=dQ (A:=[od a 0 false,od b 0 false]) (id1:=0) (id2:=1) (n1:=a.length) (n2:=b.length) (bytes:=16) (h:= .own) rfl rfl rfl rfl (by unfold qb;omega)
 have hg3:Gg [od (a++b) 0 k,od b 0 false]:=by
  intro n _ o ho
  simp at ho
  rcases ho with rfl | rfl <;> exact yq _ _ _ _
 have ra:=Jn hva
 have rb:=Jn hvb
 have rab:∀ p∈a++b,0≤p.1∧p.1≤p.2∧p.2≤My:=fun p hp=>by
  rcases List.mem_append.1 hp with h | h
  ·exact ra p h
  ·exact rb p h
 have h4:=qU (a++b) (fun p hp=>by have:=rab p hp;unfold My at this;omega) (id0:=0) [od (a++b) 0 k,od b 0 false] hg3 rfl (by omega) (by simp;omega)
 obtain⟨⟨v,H4⟩,e4,l',fl,nl,hpl,hps,hv,hg4,hget,hfl⟩:=xc h4
 dsimp only at hv hg4 hget
 subst hv
 have law:=xP (top:=My) l' (fun p hp=>rab p (hpl.mem_iff.1 hp)) hps
 have hll:(zh [] l').length≤a.length+b.length:=by have:=hpl.length_eq;simp at this;omega
 have h5:=vQ (rh Wj Fb 6) (zh [] l') H4 hg4 hget hfl (by omega)
 have hmem:∀ x,Lj x (zh [] l')↔Lj x a∨Lj x b:=by
  intro x
  rw[law.2.1,←dt]
  unfold Lj
  constructor
  ·rintro⟨p,h,hx⟩;exact⟨p,hpl.mem_iff.1 h,hx⟩
  ·rintro⟨p,h,hx⟩;exact⟨p,hpl.mem_iff.2 h,hx⟩
 refine⟨zh [] l',?_,law.1,hmem,hll⟩
 generalize zh [] l'=u at *
 simp only[List.nil_append,List.length_nil,List.cons_append,List.length_cons,Nat.zero_add] at h1 h2 h3
 rw[List.set_cons_zero] at h3
 have c1:∀ args H,rh Wj Fb 8 1 args H=Ri (rh Wj Fb 7) Di args H:=fun _ _=>rfl
 have c24:∀ args H,rh Wj Fb 8 24 args H=Ri (rh Wj Fb 7) Io args H:=fun _ _=>rfl
 have c3:∀ args H,rh Wj Fb 8 3 args H=Ri (rh Wj Fb 7) yk args H:=fun _ _=>rfl
 have c2:∀ args H,rh Wj Fb 7 2 args H=Ri (rh Wj Fb 6) pd args H:=fun _ _=>rfl
 have hab:(a++b).length=a.length+b.length:=by simp
 rw[hab] at e4
 simp -implicitDefEqProofs only[Ul,QB,SP,WP,oa,sevalprocAttr,ep,c1,h1,h2,h3,c24,e4,c3,yk,c2,h5]
theorem uv (v:PV) (l:List (Int×Int)) (hv:Vi 2 v (Hd l)) (hw:l.length * 16≤140737488355328) (hval:Qa My (-2) l=true):Ll [v]=some (.lit 2 (Hd l)):=by
 have h1:=rm v l hv hw
 rw[← LK] at h1
 have h2:=bu (.lit 2 (Hd l)) l (.inr rfl) (by unfold maxLen;omega) My (by decide)
 rw[hval] at h2
 simp -implicitDefEqProofs only[Ll,SP,SA,SQ,sevalprocAttr,Qr,lg,Dc,h1,h2]
def Sf:Nat→List (Int×Int)→List (Int×Int)→List (Int×Int)
 |0,_,_=>[]
 |n+1,a,b=>match a,b with
  |p::a',q::b'=>(if (if q.1 > p.1 then q.1 else p.1)≤(if q.2 < p.2 then q.2 else p.2) then [((if q.1 > p.1 then q.1 else p.1),(if q.2 < p.2 then q.2 else p.2))] else [])++(if p.2 < q.2 then Sf n a' (q::b') else Sf n (p::a') b')
  |_,_=>[]
abbrev xw (va vb:PV) (tk:Nat) (nl:Bool) (es:List PV):Tr:=((Tr.lf.set 5 (.uq tk nl 2 es)).set 1 (.pv vb)).set 0 (.pv va)
theorem Vi.EX {v:PV} {p:PV} {es:List PV} (h:Vi 2 v (p::es)):∀ H,ye H 2 (.pv v) (some 1) none=some (.pv (.lit 2 es)):=by
 intro H
 rcases h with⟨_,h⟩ | rfl
 ·cases h
 ·simp[ye]
  omega
theorem fL (A B:PV) (a b:List (Int×Int)) (hA:Vi 2 A (Hd a)) (hB:Vi 2 B (Hd b)) (hw:(a.length+b.length) * 16≤140737488355328):
 ∃ u,qm [A,B]=some u∧Vi 2 u (Hd (Sf (a.length+b.length) a b)):=by
 have hloop:Gd (fun r=>∃ E H nl,r=(.exit 0,⟨E,H⟩)∧E.get 5= .uq 0 nl 2 (Hd (Sf (a.length+b.length) a b))∧(nl=true→Sf (a.length+b.length) a b=[]))
  (ab (ga (ua (Ea (fun _=>none) 8) cg) (fa 1 [0,1,5])) qa ⟨xw A B 0 true [],[.tok 2 0 true]⟩):=by
  refine za (Qq (g:=ga (ua (Ea (fun _=>none) 8) cg) (fa 1 [0,1,5]))
   (fun m t=>∃ va vb a' b' nl out,m=a'.length+b'.length∧Vi 2 va (Hd a')∧Vi 2 vb (Hd b')∧t=⟨xw va vb 0 nl (Hd out),[.tok 2 out.length nl]⟩∧out.length+m≤a.length+b.length∧(nl=true→out=[])∧Sf (a.length+b.length) a b=out++Sf m a' b')
   qa (a.length+b.length) _ (by unfold qa;omega) ⟨A,B,a,b,true,[],rfl,hA,hB,rfl,by simp,fun _=>rfl,rfl⟩ ?_) (fun r h=>h.2)
  rintro m t ⟨va,vb,a',b',nl,out,rfl,ha,hb,rfl,hlen,hnl,hs⟩
  have la:=ha.len
  have lb:=hb.len
  simp only[Hd,List.length_map] at la lb
  cases a' with
  |nil=>
   have hs':Sf (a.length+b.length) a b=out:=by
    rw[hs];cases b' <;> simp[Sf]
   have z1:decide (((([]:List (Int×Int)).length:Nat):Int) > 0)=false:=by decide
   generalize hQ:LQ _ _ _=Q
   simp -implicitDefEqProofs only[SX,sevalprocAttr,cg,la,z1,xw]
   subst hQ
   rw[hs']
   exact⟨_,_,nl,rfl,by simp[Tr.aa],hnl⟩
  |cons p a'=>
   have z1:decide ((((p::a').length:Nat):Int) > 0)=true:=Fa (by simp)
   cases b' with
   |nil=>
    have hs':Sf (a.length+b.length) a b=out:=by
     rw[hs];simp[Sf]
    have z2:decide (((([]:List (Int×Int)).length:Nat):Int) > 0)=false:=by decide
    generalize hQ:LQ _ _ _=Q
    have la':∀ H,Vb H 0 (.pv va)=some (a'.length+1):=la
    have z1':decide ((((a'.length+1):Nat):Int) > 0)=true:=z1
    have lb':∀ H,Vb H 0 (.pv vb)=some 0:=lb
    have z2':decide (((0:Nat):Int) > 0)=false:=z2
    simp -implicitDefEqProofs only[SX,sevalprocAttr,cg,la',lb',z1',z2',xw]
    subst hQ
    rw[hs']
    exact⟨_,_,nl,rfl,by simp[Tr.aa],hnl⟩
   |cons q b'=>
    have la':∀ H,Vb H 0 (.pv va)=some (a'.length+1):=la
    have z1':decide ((((a'.length+1):Nat):Int) > 0)=true:=z1
    have lb':∀ H,Vb H 0 (.pv vb)=some (b'.length+1):=lb
    have z2':decide ((((b'.length+1):Nat):Int) > 0)=true:=Fa (by omega)
    have hva:va= .lit 2 (Hd (p::a')):=ha.lit (i:=0) (by simp)
    have hvb:vb= .lit 2 (Hd (q::b')):=hb.lit (i:=0) (by simp)
    have sa:=Vi.EX ha
    have sb:=Vi.EX hb
    have i1:∀ H,wa H 2 (.pv va) 0=some (.pv (.rp [i64 p.1,i64 p.2] 0)):=fun H=>by
     rw[hva];exact Qj H (i:=0) (l:=p::a') (by simp)
    have i2:∀ H,wa H 2 (.pv vb) 0=some (.pv (.rp [i64 q.1,i64 q.2] 0)):=fun H=>by
     rw[hvb];exact Qj H (i:=0) (l:=q::b') (by simp)
    have hap:=Fh (A:=[.tok 2 out.length nl]) (id:=0) (n:=out.length) (h:= .uq) (ag:=true) (nl:=nl) (sz:=2) (bytes:=16) (es:=Hd out) rfl (by simp) (by unfold qb;simp only[List.length_cons] at hlen;omega) (pr ((if q.1 > p.1 then q.1 else p.1),(if q.2 < p.2 then q.2 else p.2)))
    rw[List.set_cons_zero] at hap
    have hm:∀ n,Sf (n+1) (p::a') (q::b')=(if (if q.1 > p.1 then q.1 else p.1)≤(if q.2 < p.2 then q.2 else p.2) then [((if q.1 > p.1 then q.1 else p.1),(if q.2 < p.2 then q.2 else p.2))] else [])++(if p.2 < q.2 then Sf n a' (q::b') else Sf n (p::a') b'):=fun n=>rfl
    have hmn:(p::a').length+(q::b').length=(a'.length+b'.length+1)+1:=by simp;omega
    have l0:∀ H (x y:PV),xa H false 1 (.pv (.rp [x,y] 0))=some (.pv x):=fun H x y=>rfl
    have l1:∀ H (x y:PV),xa H false 1 (.pv (.rp [x,y] 1))=some (.pv y):=fun H x y=>rfl
    have p0:∀ H (x y:PV),place H 0 (.pv (.rp [x,y] 0))=some (.pv (.rp [x,y] 0)):=fun H x y=>rfl
    have p1:∀ H (x y:PV),place H 1 (.pv (.rp [x,y] 0))=some (.pv (.rp [x,y] 1)):=fun H x y=>rfl
    rw[hmn] at hlen
    rw[hmn,hm] at hs
    generalize hlo:(if q.1 > p.1 then q.1 else p.1)=lo at *
    generalize hhi:(if q.2 < p.2 then q.2 else p.2)=hi at *
    clear hva hvb
    have hprs:Hd (out++[(lo,hi)])=Hd out++[pr (lo,hi)]:=by simp[Hd]
    generalize hQ:LQ _ _ _=Q
    by_cases c1:lo≤hi
    ·have d1:=Fa c1
     rw[if_pos c1] at hs
     by_cases c2:p.2 < q.2
     ·have d2:=Fa c2
      rw[if_pos c2] at hs
      simp -implicitDefEqProofs only[SP,WP,oa,sevalprocAttr,cg,la',lb',z1',z2',i1,i2,l0,l1,p0,p1,Mo,De,hlo,hhi,hap,d1,d2,sa,sb,fa,Aa,AV.cut,na,pa,xw]
      subst hQ
      exact⟨a'.length+b'.length+1,by rw[hmn];omega,_,vb,a',q::b',false,out++[(lo,hi)],by simp;omega,.inr rfl,hb,by rw[hprs];simp[xw],by simp;omega,by simp,by rw[hs,List.append_assoc]⟩
     ·have d2:=Ga c2
      rw[if_neg c2] at hs
      simp -implicitDefEqProofs only[SP,WP,oa,sevalprocAttr,cg,la',lb',z1',z2',i1,i2,l0,l1,p0,p1,Mo,De,hlo,hhi,hap,d1,d2,sa,sb,fa,Aa,AV.cut,na,pa,xw]
      subst hQ
      exact⟨a'.length+b'.length+1,by rw[hmn];omega,va,_,p::a',b',false,out++[(lo,hi)],by simp;omega,ha,.inr rfl,by rw[hprs];simp[xw],by simp;omega,by simp,by rw[hs,List.append_assoc]⟩
    ·have d1:=Ga c1
     rw[if_neg c1,List.nil_append] at hs
     by_cases c2:p.2 < q.2
     ·have d2:=Fa c2
      rw[if_pos c2] at hs
      simp -implicitDefEqProofs only[SP,WP,oa,sevalprocAttr,cg,la',lb',z1',z2',i1,i2,l0,l1,p0,p1,Mo,De,hlo,hhi,d1,d2,sa,sb,fa,Aa,AV.cut,na,pa,xw]
      subst hQ
      exact⟨a'.length+b'.length+1,by rw[hmn];omega,_,vb,a',q::b',nl,out,by simp;omega,.inr rfl,hb,rfl,by omega,hnl,hs⟩
     ·have d2:=Ga c2
      rw[if_neg c2] at hs
      simp -implicitDefEqProofs only[SP,WP,oa,sevalprocAttr,cg,la',lb',z1',z2',i1,i2,l0,l1,p0,p1,Mo,De,hlo,hhi,d1,d2,sa,sb,fa,Aa,AV.cut,na,pa,xw]
      subst hQ
      exact⟨a'.length+b'.length+1,by rw[hmn];omega,va,_,p::a',b',nl,out,by simp;omega,ha,.inr rfl,rfl,by omega,hnl,hs⟩
 obtain⟨r,h1,E,H,nl,rfl,hE,hnl⟩:=xc hloop
 simp only[xw,Hd,List.map_nil] at h1
 generalize Sf (a.length+b.length) a b=u at *
 have hz:(0 < 2)=True:=by simp
 cases nl with
 |true=>
  refine⟨.ma,?_,.inl ⟨rfl,by rw[hnl rfl];rfl⟩⟩
  simp -implicitDefEqProofs only[qm,SX,sevalprocAttr,Gr,xb,Be,hz,fa,Aa,AV.cut,na,pa,h1,hE]
 |false=>
  refine⟨.lit 2 (Hd u),?_,.inr rfl⟩
  simp -implicitDefEqProofs only[qm,SX,sevalprocAttr,Gr,xb,Be,hz,fa,Aa,AV.cut,na,pa,h1,hE]
end Go.AM.B1
namespace Go.AM.B1
open Go.AM Go.AM.So
theorem xE {top:Int}:∀ {l:List (Int×Int)} {last:Int},Qa top last l=true→∀ p∈l,last < p.1 - 1
 |q::l,last,h,p,hp=>by
  obtain⟨h1,h2,h3,h4,h5⟩:=ee h
  rcases List.mem_cons.1 hp with rfl | hp
  ·omega
  ·have:=xE h5 p hp;omega
theorem vo {top last x:Int} {l:List (Int×Int)} (h:Qa top last l=true) (hx:Lj x l):last+1 < x:=by
 obtain⟨p,hp,h1,h2⟩:=hx
 have:=xE h p hp;omega
theorem Kt {top:Int}:∀ (n:Nat) (a b:List (Int×Int)) (la lb:Int),Qa top la a=true→Qa top lb b=true→a.length+b.length≤n→
 (∀ x,Lj x (Sf n a b)↔Lj x a∧Lj x b)∧∀ p∈Sf n a b,p.1≤p.2
 |0,a,b,la,lb,_,_,hn=>by
  have:a=[]:=List.eq_nil_of_length_eq_zero (by omega)
  subst this
  exact⟨fun x=>by simp[Sf,Vm],by simp[Sf]⟩
 |n+1,[],b,la,lb,_,_,hn=>⟨fun x=>by simp[Sf,Vm],by simp[Sf]⟩
 |n+1,p::a,[],la,lb,_,_,hn=>⟨fun x=>by simp[Sf,Vm],by simp[Sf]⟩
 |n+1,p::a,q::b,la,lb,ha,hb,hn=>by
  obtain⟨a1,a2,a3,a4,a5⟩:=ee ha
  obtain⟨b1,b2,b3,b4,b5⟩:=ee hb
  rw[Sf]
  have hlo:p.1≤(if q.1 > p.1 then q.1 else p.1)∧q.1≤(if q.1 > p.1 then q.1 else p.1)∧((if q.1 > p.1 then q.1 else p.1)=p.1∨(if q.1 > p.1 then q.1 else p.1)=q.1):=by split <;> omega
  have hhi:(if q.2 < p.2 then q.2 else p.2)≤p.2∧(if q.2 < p.2 then q.2 else p.2)≤q.2∧((if q.2 < p.2 then q.2 else p.2)=p.2∨(if q.2 < p.2 then q.2 else p.2)=q.2):=by split <;> omega
  generalize (if q.1 > p.1 then q.1 else p.1)=lo at *
  generalize (if q.2 < p.2 then q.2 else p.2)=hi at *
  have hpc:∀ x,Lj x (if lo≤hi then [(lo,hi)] else [])↔(p.1≤x∧x≤p.2)∧(q.1≤x∧x≤q.2):=by
   intro x
   by_cases h:lo≤hi
   ·rw[if_pos h,Eo];simp only;omega
   ·rw[if_neg h]
    simp only[Vm,false_iff]
    omega
  have hpl:∀ r∈(if lo≤hi then [(lo,hi)] else []),r.1≤r.2:=by
   intro r hr
   by_cases h:lo≤hi
   ·rw[if_pos h] at hr;simp at hr;subst hr;exact h
   ·rw[if_neg h] at hr;simp at hr
  by_cases c:p.2 < q.2
  ·rw[if_pos c]
   have ih:=Kt n a (q::b) p.2 lb a5 hb (by simp at hn ⊢;omega)
   refine⟨fun x=> ?_,fun r hr=> ?_⟩
   ·rw[dt,hpc,ih.1,xm,xm]
    have hfar:Lj x b→q.2+1 < x:=vo b5
    constructor
    ·rintro (⟨h1,h2⟩ | ⟨h1,h2⟩)
     ·exact⟨.inl h1,.inl h2⟩
     ·exact⟨.inr h1,h2⟩
    ·rintro⟨h1 | h1,h2⟩
     ·rcases h2 with h2 | h2
      ·exact .inl ⟨h1,h2⟩
      ·have:=hfar h2;omega
     ·exact .inr ⟨h1,h2⟩
   ·rcases List.mem_append.1 hr with h | h
    ·exact hpl r h
    ·exact ih.2 r h
  ·rw[if_neg c]
   have ih:=Kt n (p::a) b la q.2 ha b5 (by simp at hn ⊢;omega)
   refine⟨fun x=> ?_,fun r hr=> ?_⟩
   ·rw[dt,hpc,ih.1,xm,xm]
    have hfar:Lj x a→p.2+1 < x:=vo a5
    constructor
    ·rintro (⟨h1,h2⟩ | ⟨h1,h2⟩)
     ·exact⟨.inl h1,.inl h2⟩
     ·exact⟨h1,.inr h2⟩
    ·rintro⟨h1,h2 | h2⟩
     ·rcases h1 with h1 | h1
      ·exact .inl ⟨h1,h2⟩
      ·have:=hfar h1;omega
     ·exact .inr ⟨h1,h2⟩
   ·rcases List.mem_append.1 hr with h | h
    ·exact hpl r h
    ·exact ih.2 r h
theorem sM {top:Int} {a b:List (Int×Int)} (ha:Qa top (-2) a=true) (hb:Qa top (-2) b=true):Sf (a.length+b.length) a b≠[]↔∃ x,Lj x a∧Lj x b:=by
 have h:=Kt (a.length+b.length) a b (-2) (-2) ha hb (Nat.le_refl _)
 constructor
 ·intro hne
  obtain⟨p,r,hpr⟩:=List.exists_cons_of_ne_nil hne
  have hp:p∈Sf (a.length+b.length) a b:=by rw[hpr];simp
  exact⟨p.1,(h.1 p.1).1 ⟨p,hp,Int.le_refl _,h.2 p hp⟩⟩
 ·rintro⟨x,hx⟩ he
  have:=(h.1 x).2 hx
  rw[he] at this
  exact Vm x this
theorem qx:∀ (n:Nat) (a b:List (Int×Int)),(Sf n a b).length≤n
 |0,a,b=>by simp[Sf]
 |n+1,[],b=>by simp[Sf]
 |n+1,p::a,[]=>by simp[Sf]
 |n+1,p::a,q::b=>by
  rw[Sf,List.length_append]
  generalize (if q.1 > p.1 then q.1 else p.1)=lo
  generalize (if q.2 < p.2 then q.2 else p.2)=hi
  have h1:(if lo≤hi then [(lo,hi)] else []).length≤1:=by
   by_cases h:lo≤hi
   ·rw[if_pos h];simp
   ·rw[if_neg h];simp
  by_cases c:p.2 < q.2
  ·rw[if_pos c];have:=qx n a (q::b);omega
  ·rw[if_neg c];have:=qx n (p::a) b;omega
theorem iB (A B:PV) (a b:List (Int×Int)) (hA:Vi 2 A (Hd a)) (hB:Vi 2 B (Hd b)) (hva:Qa My (-2) a=true) (hvb:Qa My (-2) b=true) (hw:(a.length+b.length) * 16≤140737488355328):
 Fm [A,B]=some (.lit 2 (Hd (Sf (a.length+b.length) a b))):=by
 have h1:=uv A a hA (by omega) hva
 have h2:=uv B b hB (by omega) hvb
 obtain⟨u,h3,h4⟩:=fL (.lit 2 (Hd a)) (.lit 2 (Hd b)) a b (.inr rfl) (.inr rfl) hw
 have h5:=rm u _ h4 (by have:=qx (a.length+b.length) a b;omega)
 rw[← CI] at h5
 have h6:cn [u]=some (.lit 2 (Hd (Sf (a.length+b.length) a b))):=by
  simp -implicitDefEqProofs only[cn,SP,SA,SQ,sevalprocAttr,xq,lg,Dc,h5]
 simp -implicitDefEqProofs only[Fm,SP,SA,SQ,sevalprocAttr,Yq,lg,Dc,h1,h2,h3,h6]
theorem As (v:PV) (l:List (Int×Int)) (hv:Vi 2 v (Hd l)) (hw:l.length * 16≤140737488355328) (hval:Qa 255 (-2) l=true):og [v]=some (.lit 2 (Hd l)):=by
 have h1:=rm v l hv hw
 have h2:=bu (.lit 2 (Hd l)) l (.inr rfl) (by unfold maxLen;omega) 255 (by decide)
 rw[hval] at h2
 simp -implicitDefEqProofs only[og,SP,SA,SQ,sevalprocAttr,xo,lg,Dc,h1,h2]
theorem uE (A B:PV) (a b:List (Int×Int)) (hA:Vi 2 A (Hd a)) (hB:Vi 2 B (Hd b)) (hva:Qa 255 (-2) a=true) (hvb:Qa 255 (-2) b=true) (hw:(a.length+b.length) * 16≤140737488355328):
 Wp [A,B]=some (.lit 2 (Hd (Sf (a.length+b.length) a b))):=by
 have h1:=As A a hA (by omega) hva
 have h2:=As B b hB (by omega) hvb
 obtain⟨u,h3,h4⟩:=fL (.lit 2 (Hd a)) (.lit 2 (Hd b)) a b (.inr rfl) (.inr rfl) hw
 have h5:=rm u _ h4 (by have:=qx (a.length+b.length) a b;omega)
 rw[← eK] at h5
 have h6:bq [u]=some (.lit 2 (Hd (Sf (a.length+b.length) a b))):=by
  simp -implicitDefEqProofs only[bq,SP,SA,SQ,sevalprocAttr,ru,lg,Dc,h5]
 simp -implicitDefEqProofs only[Wp,SP,SA,SQ,sevalprocAttr,Wu,lg,Dc,h1,h2,h3,h6]
theorem AA (n:Int) (l:List (Int×Int)):Ac n l=n+Ac 0 l:=by
 induction l generalizing n with
 |nil=>simp[Ac]
 |cons p l ih=>rw[Ac,Ac,ih,ih (0+(p.2 - p.1+1))];omega
theorem yo {top:Int}:∀ {l:List (Int×Int)} {last:Int},Qa top last l=true→0≤Ac 0 l∧(l≠[]→1≤Ac 0 l∧Ac 0 l≤top - last - 1∧Ac 0 l≤top+1)∧Ac 0 l≤max 0 (top+1)
 | [],last,_=>⟨by simp[Ac],fun h=>absurd rfl h,by simp[Ac];omega⟩
 |p::l,last,h=>by
  obtain⟨h1,h2,h3,h4,h5⟩:=ee h
  have ih:=yo h5
  rw[Ac,AA]
  have key:l≠[]∨l=[]:=by cases l <;> simp
  rcases key with hl | hl
  ·have:=ih.2.1 hl
   exact⟨by omega,fun _=>⟨by omega,by omega,by omega⟩,by omega⟩
  ·subst hl
   simp only[Ac]
   exact⟨by omega,fun _=>⟨by omega,by omega,by omega⟩,by omega⟩
theorem Pq {top:Int}:∀ {l:List (Int×Int)} {last:Int},Qa top last l=true→(l.length:Int)≤max 0 (top - last)
 | [],last,_=>by simp;omega
 |p::l,last,h=>by
  obtain⟨h1,h2,h3,h4,h5⟩:=ee h
  have:=Pq h5
  simp only[List.length_cons]
  omega
theorem jw (v:PV) (l:List (Int×Int)) (hv:Vi 2 v (Hd l)) (hw:l.length * 16≤140737488355328) (hval:Qa 255 (-2) l=true):Um [v]=some (i64 (Ac 0 l)):=by
 have h1:=As v l hv hw hval
 have h2:=TT (.lit 2 (Hd l)) l (.inr rfl) (by unfold maxLen;omega) (top:=255) (by decide) hval
 simp -implicitDefEqProofs only[Um,SP,SA,SQ,sevalprocAttr,Fu,lg,Dc,h1,h2]
end Go.AM.B1
