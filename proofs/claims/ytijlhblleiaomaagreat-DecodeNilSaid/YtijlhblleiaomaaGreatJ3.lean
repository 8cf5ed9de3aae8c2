/- The abstract machine: its functions compute what the model's functions do; a law's call; conditions. -/
import Derived.ScopeJumps
import Derived.Test.YtijlhblleiaomaaGreatJ2
import Derived.Scope
import Derived.LoopN
import Derived.ProofKit
import Derived.Carry
import Derived.SizedLaws
import Derived.OpenShut
import Derived.Handed
import Derived.Shelf.SlSortCmp.NoneTotal
set_option linter.unusedSimpArgs false
set_option linter.unusedVariables false
namespace Go.AM
open Go.RowKit
def qp (P:Program) (f:FuncId):Prop:=∃ fn c,P.funcs[f]? =some fn∧fn.body=some c∧(fn.name== "runtime.NumGoroutine")=false
def Ga (P:Program) (f:FuncId) (F:List PV→Option PV):Prop:=
 qp P f∧∀ (w:World) (R:Rd) (args:List PV) (vs:List Value) (r:PV),(∀ b o v,R b o=some v→w.cell? ⟨b,o,none⟩=some v)→xd R args vs→F args=some r→
  Calls P f ⟨vs⟩ w fun e w'=>∃ v R',e= .returned v∧Below w.heap.size w w'∧Ea R' r v∧(∀ b o,b < w.heap.size→R' b o=R b o)∧∀ b o v,R' b o=some v→w'.cell? ⟨b,o,none⟩=some v
def DQ (fo:Nat→FuncId) (B0:se) (w:World) (R:Rd) (φ:Pl) (H:List aa) (v:AV) (H':List aa) (e:Ending) (w':World):Prop:=
 ∃ u R' φ',e= .returned u∧Kb fo B0 w' R' φ' H'∧Yb fo (K R' φ' H') v u∧(∀ x u,K R φ H x u→K R' φ' H' x u)∧Ve B0 w w'
def cn (P:Program) (fo:Nat→FuncId) (B0:se) (call:Fa):Prop:=
 ∀ (ix:Nat) (args:List AV) (H:List aa) (v:AV) (H':List aa) (w:World) (R:Rd) (φ:Pl) (vs:List Value),Kb fo B0 w R φ H→La fo (K R φ H) args vs→call ix args H=some (v,H')→
  qp P (fo ix)∧Calls P (fo ix) ⟨vs⟩ w (DQ fo B0 w R φ H v H')
def Xy (P:Program) (fo:Nat→FuncId):Op→Ec→Bool
 | .call {callee:= .value (.func _),args,..},.Gj _ ys=>Hy fo args.toList ys
 | .call {callee:= .value (.func f),args,..},.Bd ix ys=>fo ix==f&&Hy fo args.toList ys
 | .call {callee:= .value (.func f),args,..},.vz ix ys=>fo ix==f&&Hy fo args.toList ys
 | .call {callee:= .value x,args,..},.Px y ys=>uj fo x y&&Hy fo args.toList ys
 |_,_=>false
def aJ:Op→Ec→List (FuncId×(List PV→Option PV))
 | .call {callee:= .value (.func f),..},.Gj F _=>[(f,F)]
 |_,_=>[]
section
variable {P:Program} {fo:Nat→FuncId} {B0:se} {call:Fa}
theorem bn {f:FuncId} (hf:qp P f) {caps args:Array Value} (w:World):(invoke (.fn (.func f) caps) args).run P w= .ok (.enter f (args++caps)) w:=by
 obtain⟨fn,c,h1,h2,h3⟩:=hf
 have h3':¬fn.name= "runtime.NumGoroutine" :=by simpa using h3
 simp[invoke,callFunc,h1,h2,h3']
theorem IL {o:Oper} {op:Op} {aop:Ec} (ho:o.op=op) (ta:Xy P fo op aop=true) (hd:∀ d∈aJ op aop,Ga P d.1 d.2) (hc:cn P fo B0 call)
 {w:World} {R:Rd} {φ:Pl} {e:Tr} {H H':List aa} {a:Act} {v:AV} (hS:Kb fo B0 w R φ H) (hE:og fo (K R φ H) e a) (hev:da call e H aop=some (v,H')):zv P fo B0 o a w R φ H v H':=by
 intro next Q hn
 unfold Xy at ta
 split at ta
 ·
  rename_i f args tys F ys
  have hpf:=hd (f,F) (by simp[aJ])
  obtain⟨hcal,hp⟩:=hpf
  simp only[da,Option.bind_eq_some_iff] at hev
  obtain⟨ps,h1,r,h2,h3⟩:=hev
  split at h3
  ·rename_i hfree
   simp only[Option.some.injEq,Prod.mk.injEq] at h3
   obtain⟨rfl,rfl⟩:=h3
   have hl:=zn (R:=R) (φ:=φ) (H:=H) hE ta
   have hrun:(execOp a.eval o).run P w= .ok (.enter f ⟨args.toList.map a.eval⟩) w:=by
    have:=bn (P:=P) hcal (caps:= #[]) (args:= #[]++args.map a.eval) w
    simp only[execOp,ho,resolve,Act.eval,Deferred.ofValue,Sem.run_bind,Sem.run_pure,Result.andThen_ok,this]
    congr 2
    apply Array.ext'
    simp
   unfold Oper.wp
   rw[hrun,Oper.upon_enter]
   have fin:∀ (R1:Rd),(∀ b o v,R1 b o=some v→w.cell? ⟨b,o,none⟩=some v)→xd R1 ps (args.toList.map a.eval)→(∀ {R':Rd} {v:Value},(∀ b o,b < w.heap.size→R' b o=R1 b o)→(∀ b o v,R' b o=some v→R1 b o=some v∨w.heap.size≤b)→Ea R' r v→Ea (fun b o=>if b < w.heap.size then R b o else R' b o) r v)→
    Calls P f ⟨args.toList.map a.eval⟩ w fun x w''=>match x,w'' with
     | .returned v,w''=>next (a.put o.dst v) w''
     | .panicked chain,w''=>Q (.panic chain) a w''
     | .outgrown,_=>LetsOut Q:=by
    intro R1 hR1 hl1 hres
    refine Calls.mono (hp w R1 ps _ r hR1 hl1 h2) ?_
    rintro e w' ⟨v,R',rfl,hb,hv,hsame,hcell⟩
    simp only
    have hsub:Sub R (fun b o=>if b < w.heap.size then R b o else R' b o):=by
     intro b o v h
     have:=Ri (hS.sub b o v h)
     simp[this,h]
    have hk:=fun x u h=>K.sub (R:=R) (φ:=φ) (H:=H) hsub x u h
    refine hn v w' (fun b o=>if b < w.heap.size then R b o else R' b o) φ ⟨Nat.le_trans hS.low hb.size,fun b o v h=> ?_,fun id ob hob=> ?_,hS.inj,fun b o hlt=> ?_,fun k hk=>Nat.lt_of_lt_of_le (hS.slt k hk) hb.size,hS.free⟩ (.atom _ _ (show Ea _ _ _ from ?_)) hk (.Lr hb hS.low hS.slt)
    ·try dsimp only at h
     split at h
     ·rename_i hlt
      rw[Ud (hb.block b hlt)];exact hS.sub b o v h
     ·exact hcell b o v h
    ·have hO:=hS.obj id ob hob
     exact hO.Wc (fun hl=>⟨hb.block _ (hO.lt hl),fun j hj=>by (try dsimp only);rw[if_pos (hO.lt hl)];exact hj⟩) rfl hk
    ·have:=hS.low
     try dsimp only
     rw[if_pos (by omega)];exact hS.ml b o hlt
    ·refine hres hsame (fun b o v h=> ?_) hv
     rcases Nat.lt_or_ge b w.heap.size with hlt | hge
     ·rw[hsame b o hlt] at h;exact .inl h
     ·exact .inr hge
   simp only[Bool.or_eq_true] at hfree
   rcases hfree with hfree | hflat
   ·refine fin R hS.sub (iI (w:=w) hfree hl h1) fun {R' v} hsame _ hv=>hv.mono fun b o u hu=> ?_
    try dsimp only
    split
    ·rename_i hlt;rw[← hsame b o hlt];exact hu
    ·exact hu
   ·exact fin (Rw w) (fun b o v h=>h) (lM hS hl h1) fun {R' v} _ _ hv=>FG hflat hv
  ·cases h3
 ·
  rename_i f args tys ix ys
  simp only[Bool.and_eq_true,beq_iff_eq] at ta
  obtain⟨rfl,ta⟩:=ta
  have hl:=zn (R:=R) (φ:=φ) (H:=H) hE ta
  simp only[da] at hev
  obtain⟨hcal,hcc⟩:=hc ix _ H v H' w R φ _ hS hl hev
  have hrun:(execOp a.eval o).run P w= .ok (.enter (fo ix) ⟨args.toList.map a.eval⟩) w:=by
   have:=bn (P:=P) hcal (caps:= #[]) (args:= #[]++args.map a.eval) w
   simp only[execOp,ho,resolve,Act.eval,Deferred.ofValue,Sem.run_bind,Sem.run_pure,Result.andThen_ok,this]
   congr 2
   apply Array.ext'
   simp
  unfold Oper.wp
  rw[hrun,Oper.upon_enter]
  refine Calls.mono hcc ?_
  rintro e w' ⟨u,R',φ',rfl,k1,k2,k3,k4⟩
  exact hn u w' R' φ' k1 k2 k3 k4
 ·
  rename_i f args tys ix ys
  simp only[Bool.and_eq_true,beq_iff_eq] at ta
  obtain⟨rfl,ta⟩:=ta
  have hl:=zn (R:=R) (φ:=φ) (H:=H) hE ta
  simp only[da,Option.bind_eq_some_iff] at hev
  obtain⟨r,hev,h3⟩:=hev
  split at h3
  case isFalse=>cases h3
  injection h3 with h3
  subst h3
  obtain⟨hcal,hcc⟩:=hc ix _ H v H' w R φ _ hS hl hev
  have hrun:(execOp a.eval o).run P w= .ok (.enter (fo ix) ⟨args.toList.map a.eval⟩) w:=by
   have:=bn (P:=P) hcal (caps:= #[]) (args:= #[]++args.map a.eval) w
   simp only[execOp,ho,resolve,Act.eval,Deferred.ofValue,Sem.run_bind,Sem.run_pure,Result.andThen_ok,this]
   congr 2
   apply Array.ext'
   simp
  unfold Oper.wp
  rw[hrun,Oper.upon_enter]
  refine Calls.mono hcc ?_
  rintro e w' ⟨u,R',φ',rfl,k1,k2,k3,k4⟩
  exact hn u w' R' φ' k1 k2 k3 k4
 ·
  rename_i x args tys y ys
  simp only[Bool.and_eq_true] at ta
  obtain⟨hx,ta⟩:=ta
  have hl:=zn (R:=R) (φ:=φ) (H:=H) hE ta
  have hxr:=pb (R:=R) (φ:=φ) (H:=H) hE hx
  simp only[da] at hev
  split at hev
  ·rename_i ix caps hy
   rw[hy] at hxr
   have hcr:∃ us:List Value,a.eval x= .func (.func (fo ix)) #[] ⟨us⟩∧La fo (K R φ H) caps us:=by
    generalize a.eval x=vx at hxr
    cases hxr with
    |atom _ _ h=>exact h.elim
    |mi _ _ us h=>exact⟨us,rfl,h⟩
   obtain⟨us,hu,hur⟩:=hcr
   obtain⟨hcal,hcc⟩:=hc ix _ H v H' w R φ _ hS (hl.append hur) hev
   have hrun:(execOp a.eval o).run P w= .ok (.enter (fo ix) ⟨args.toList.map a.eval++us⟩) w:=by
    have:=bn (P:=P) hcal (caps:=⟨us⟩) (args:= #[]++args.map a.eval) w
    simp only[execOp,ho,resolve,hu,Deferred.ofValue,Sem.run_bind,Sem.run_pure,Result.andThen_ok,this]
    congr 2
    apply Array.ext'
    simp
   unfold Oper.wp
   rw[hrun,Oper.upon_enter]
   refine Calls.mono hcc ?_
   rintro e w' ⟨u,R',φ',rfl,k1,k2,k3,k4⟩
   exact hn u w' R' φ' k1 k2 k3 k4
  ·cases hev
 ·cases ta
mutual
def dO:PV→Value
 | .int k n=> .int k n
 | .bool b=> .bool b
 | .str s=> .string s
 | .yd=> .pointer none
 | .qa=> .slice none 0 0
 | .pq=> .map none
 | .Vp=> .nilFunc
 | .Mv=> .nilIface
 | .agg cs=> .agg ⟨Pm cs⟩
 | .bc cs=> .tuple ⟨Pm cs⟩
 |_=>undef
def Pm:List PV→List Value
 | []=>[]
 |c::cs=>dO c::Pm cs
end
mutual
theorem yJ {R:Rd}:∀ {p:PV},bh p=true→Ea R p (dO p)
 | .int _ _,_=> .int _ _
 | .bool _,_=> .bool _
 | .str _,_=> .str _
 | .yd,_=> .yd
 | .qa,_=> .qa
 | .pq,_=> .pq
 | .Vp,_=> .Vp
 | .Mv,_=> .Mv
 | .agg cs,h=> .agg _ _ (VA (by simpa[bh] using h))
 | .bc cs,h=> .bc _ _ (VA (by simpa[bh] using h))
 | .rp _ _,h=>by simp[bh] at h
 | .lit _ _,h=>by simp[bh] at h
 | .iface _ _,h=>by simp[bh] at h
theorem VA {R:Rd}:∀ {ps:List PV},Mk ps=true→xd R ps (Pm ps)
 | [],_=> .nil
 |p::ps,h=>by
  simp only[Mk,Bool.and_eq_true] at h
  exact .cons _ _ _ _ (yJ h.1) (VA h.2)
end
structure Vl (P:Program) (f:FuncId) (F:List PV→Option (List (List PV))):Prop where
 call:qp P f
 go:∀ (caps:List PV) (vs:List Value) (xs:List (List PV)),F caps=some xs→(∀ x∈xs,Mk x=true)→∀ (R:Rd) (l:Nat) (J:Nat→(Nat→Prop)→World→Prop) (Jx:World→Prop) (W:World),xd R caps vs→(∀ b o v,R b o=some v→W.cell? ⟨b,o,none⟩=some v)→
  (∀ (i:Nat) (T:Nat→Prop) (A B:World) (T':Nat→Prop),J i T A→RowKit.Below A.heap.size A B→(∀ k,T' k→T k∨(A.heap.size≤k∧k < B.heap.size))→J i T' B)→(∀ A B,Jx A→RowKit.Below A.heap.size A B→Jx B)→
  (∀ i T A,J i T A→∃ R':Rd,(∀ b o v,R' b o=some v→A.cell? ⟨b,o,none⟩=some v)∧∀ p v,Ea R p v→Ea R' p v)→
  (∀ i x T A,xs[i]? =some x→J i T A→YieldAt Fence.wide 0 P l ⟨Pm x⟩ A fun e B=>(e= .returned (.bool true)∧J (i+1) T B∧∀ k,T k→B.heap[k]? =A.heap[k]?)∨(e= .returned (.bool false)∧Jx B))→
  J 0 (fun _=>False) W→Calls P f ⟨.func (.yield l) #[] #[]::vs⟩ W fun e B=>(∃ v,e= .returned v)∧((∃ T,J xs.length T B)∨Jx B)
def oS:Obj→Bool
 | .loop _=>true
 | .deferred _=>true
 |_=>false
theorem uw.apart {w:World} {R:Rd} {φ:Pl} {H:List aa} {id:Nat} {o:aa} (h:uw fo B0 w R φ H id o) (hl:vl o) {l:Nat} {ob:Obj} (hb:w.heap[l]? =some ob) (hk:oS ob=true):(φ id).1≠l:=by
 have cells:∀ arr,Xt w (φ id).1 arr→(φ id).1≠l:=by
  rintro arr ⟨ty,fz,h1,_⟩ e
  rw[e,hb] at h1;cases h1;cases hk
 cases o with
 |box c=>obtain⟨_,_,_,arr,h3,_⟩:=h;exact cells arr h3
 |seq sz ag c fl nl=>obtain⟨_,_,arr,h3,_⟩:=h.2.2.2.2 hl;exact cells arr h3
 |tok sz n nl=>obtain⟨_,_,arr,h3,_⟩:=h.2.2 hl;exact cells arr h3
 |map es=>
  obtain⟨_,_,ents,clk,h3,_⟩:=h
  intro e
  rw[e,hb] at h3;cases h3;cases hk
 |dead=>exact hl.elim
theorem Kb.later {A B:World} {R:Rd} {φ:Pl} {H:List aa} (h:Kb fo B0 A R φ H) (hb:RowKit.Below A.heap.size A B):Kb fo B0 B R φ H:=
 ⟨Nat.le_trans h.low hb.size,fun b o v hv=>by have:=h.sub b o v hv;rw[Ud (hb.block b (Ri this))];exact this,
  fun id o ho=>(h.obj id o ho).Wc (fun hl=>⟨hb.block _ ((h.obj id o ho).lt hl),fun _ hj=>hj⟩) rfl fun _ _ h=>h,h.inj,h.ml,fun k hk=>Nat.lt_of_lt_of_le (h.slt k hk) hb.size,h.free⟩
theorem Kb.UP {A:World} {R:Rd} {φ:Pl} {H:List aa} (h:Kb fo B0 A R φ H) {l:Nat} {ob:Obj} (hb:A.heap[l]? =some ob) (hk:oS ob=true) (o':Obj):Kb fo B0 (A.putObj l o') R φ H:=by
 have ne:∀ b o v,R b o=some v→b≠l:=by
  intro b o v hv e
  have:=h.sub b o v hv
  rw[e] at this
  simp only[World.cell?,hb] at this
  cases ob <;> first | (cases hk;done) | simp at this
 refine⟨by rw[World.putObj_size];exact h.low,fun b o v hv=>by have:=h.sub b o v hv;rw[Ud (World.putObj_heap_other (ne b o v hv))];exact this,
  fun id o ho=>(h.obj id o ho).Wc (fun hl=>⟨World.putObj_heap_other ((h.obj id o ho).apart hl hb hk),fun _ hj=>hj⟩) rfl fun _ _ h=>h,h.inj,h.ml,fun k hk=>by rw[World.putObj_size];exact h.slt k hk,h.free⟩
theorem Ve.put {w A:World} (h:Ve B0 w A) (h0:B0.n≤w.heap.size) (hs:∀ k,B0.S k→k < w.heap.size) {l:Nat} (hl:w.heap.size≤l) (o':Obj):Ve B0 w (A.putObj l o'):=
 ⟨⟨h.os,h.tape,h.output,by rw[World.putObj_size];exact h.size,fun k hk=>by rw[World.putObj_heap_other (by omega)];exact h.block k hk⟩,
  fun k o h1 h2=>by rw[World.putObj_heap_other (by have:=nj h1;omega)];exact h.Wc k o h1 h2,
  fun k hk=>by rw[World.putObj_heap_other (by have:=hs k hk;omega)];exact h.held k hk⟩
theorem Ve.later {w A B:World} (h:Ve B0 w A) (h0:B0.n≤w.heap.size) (hs:∀ k,B0.S k→k < w.heap.size) (hb:RowKit.Below A.heap.size A B):Ve B0 w B:=
 h.trans (.Lr hb (Nat.le_trans h0 h.size) fun k hk=>Nat.lt_of_lt_of_le (hs k hk) h.size)
def se.and (B:se) (T:Nat→Prop):se:=⟨B.n,B.R,fun k=>B.S k∨T k⟩
theorem Kb.weaken {T:Nat→Prop} {A:World} {R:Rd} {φ:Pl} {H:List aa} (h:Kb fo (B0.and T) A R φ H):Kb fo B0 A R φ H:=
 ⟨h.low,h.sub,fun id o ho=>by have:=h.obj id o ho;cases o <;> exact this,h.inj,h.ml,fun k hk=>h.slt k (.inl hk),fun i hi hs=>h.free i hi (.inl hs)⟩
theorem Kb.grow {T T':Nat→Prop} {A B:World} {R:Rd} {φ:Pl} {H:List aa} (h:Kb fo (B0.and T) A R φ H) (hb:RowKit.Below A.heap.size A B) (ht:∀ k,T' k→T k∨(A.heap.size≤k∧k < B.heap.size)):Kb fo (B0.and T') B R φ H:=by
 have h':=h.later hb
 refine⟨h'.low,h'.sub,fun id o ho=>by have:=h'.obj id o ho;cases o <;> exact this,h'.inj,h'.ml,fun k hk=> ?_,fun i hi hs=> ?_⟩
 ·rcases hk with hk | hk
  ·exact h'.slt k (.inl hk)
  ·rcases ht k hk with hk | hk
   ·exact h'.slt k (.inr hk)
   ·exact hk.2
 ·rcases hs with hs | hs
  ·exact h.free i hi (.inl hs)
  ·rcases ht _ hs with hs | hs
   ·exact h.free i hi (.inr hs)
   ·obtain⟨o,ho,hl⟩:=hi
    have:=(h.obj i o ho).lt hl
    omega
theorem Ve.weaken {T:Nat→Prop} {w A:World} (h:Ve (B0.and T) w A):Ve B0 w A:=⟨h.toBelow,h.Wc,fun k hk=>h.held k (.inl hk)⟩
theorem ay (f:List PV→List aa→Option (Ex×St)):∀ (pre post:List (List PV)) {H H1:List aa},Og f pre H=some (.norm,H1)→Og f (pre++post) H=Og f post H1:=by
 intro pre
 induction pre with
 |nil=>
  intro post H H1 h
  simp only[Og] at h
  injection h with h;injection h with _ h;subst h;rfl
 |cons x pre ih=>
  intro post H H1 h
  simp only[Og,List.cons_append] at h ⊢
  cases hf:f x H with
  |none=>rw[hf] at h;cases h
  |some r=>
   obtain⟨ex,s⟩:=r
   rw[hf] at h
   cases ex with
   |norm=>exact ih post h
   |exit id=>simp only[pn] at h;injection h with h;injection h with h _;cases h
   |ret=>simp only[pn] at h;injection h with h;injection h with h _;cases h
   |goto l=>simp only[pn] at h;cases h
theorem yL {g:List aa→Option (Ex×List aa)} {ex:Ex} {s:St} {r:Ex×List aa} (hx:ex≠ .norm) (h:pn g (some (ex,s))=some r):r=(ex,s.H):=by
 cases ex with
 |norm=>exact absurd rfl hx
 |exit id=>simp only[pn] at h;injection h with h;exact h.symm
 |ret=>simp only[pn] at h;injection h with h;exact h.symm
 |goto l=>simp only[pn] at h;cases h
def Yn (P:Program) (fo:Nat→FuncId) (nt:Nat) (ops:Array Oper):List Oper→List Oa→Bool
 | [],[]=>true
 |o::os,ao::aos=>Lu nt ops o ao&&(qO P fo o.op ao.op||Xy P fo o.op ao.op)&&(!ao.pr||decide (ao.op.cls≤1))&&Yn P fo nt ops os aos
 |_,_=>false
def Sq:List Oper→List Oa→List (FuncId×(List PV→Option PV))
 |o::os,ao::aos=>aJ o.op ao.op++Sq os aos
 |_,_=>[]
def Ia.plain:Ia→Bool
 | .scope _=>false
 | .jumps _ _ _=>false
 | .range _ _ _ _ _ _=>false
 | .Du _ _ _ _ _ _=>false
 | .seq a b=>a.plain&&b.plain
 | .cond _ a b=>a.plain&&b.plain
 | .block _ b=>b.plain
 | .loop _ b=>b.plain
 | .Ll _ b=>b.plain
 | .ghost _ b=>b.plain
 |_=>true
def Ia.zD:Ia→Bool
 | .goto _=>false
 | .seq a b=>a.zD&&b.zD
 | .cond _ a b=>a.zD&&b.zD
 | .block _ b=>b.zD
 | .loop _ b=>b.zD
 | .Ll _ b=>b.zD
 | .ghost _ b=>b.zD
 | .scope b=>b.zD
 |_=>true
def QN (nt:Nat):List Oper→List (Nat×Nat)→Bool
 | [],[]=>true
 |⟨some d,.assign (.tmp t),_,_,_,none⟩::os,(d',t')::r=>d==d'&&t==t'&&decide (d < nt)&&QN nt os r
 |_,_=>false
def cG (nt:Nat):Code→List (Nat×Nat)→Bool
 | .region _ ops false,r=>QN nt ops.toList r
 | .skip,[]=>true
 |_,_=>false
def bO (P:Program) (fo:Nat→FuncId) (nt:Nat):Code→List Oa→Bool
 | .region _ ops false,pre=>Yn P fo nt ops ops.toList pre
 |_,_=>false
def GJ:Code→List Oa→List (FuncId×(List PV→Option PV))
 | .region _ ops _,pre=>Sq ops.toList pre
 |_,_=>[]
def wc (P:Program) (fo:Nat→FuncId) (nt:Nat):Code→Ia→Bool
 |c,.ghost _ ac=>wc P fo nt c ac
 | .skip,.skip=>true
 | .label _,.skip=>true
 | .scope b,.scope b'=>b'.zD&&wc P fo nt b b'
 | .scope c,.jumps l a b=>wc P fo nt c a&&(match findLabel c l with | some r=>wc P fo nt r b | none=>false)
 | .goto l,.goto l'=>l==l'
 | .region _ ops draw,.region aops=>Yn P fo nt ops ops.toList aops&&(!draw||(P.follows .mixedOrders&&TI ops aops))
 | .seq a b,.seq a' b'=>wc P fo nt a a'&&wc P fo nt b b'
 | .cond c a b,.cond c' a' b'=>uj fo c c'&&wc P fo nt a a'&&wc P fo nt b b'
 | .block id b,.block id' b'=>id==id'&&wc P fo nt b b'
 | .loop b,.loop _ b'=>wc P fo nt b b'
 | .loop b,.Ll _ b'=>wc P fo nt b b'
 | .exit id,.exit id'=>id==id'
 | .ret,.ret=>true
 | .rangeFunc g ps assign body,.range _ _ g' ps' asg b=>uj fo g g'&&ps.toList==ps'&&ps'.all (fun t=>decide (t < nt))&&cG nt assign asg&&wc P fo nt body b&&b.plain
 | .rangeFunc g ps assign body,.Du _ _ g' ps' pre b=>uj fo g g'&&ps.toList==ps'&&ps'.all (fun t=>decide (t < nt))&&bO P fo nt assign pre&&wc P fo nt body b&&b.plain
 |_,_=>false
def fe:Code→Ia→List (FuncId×(List PV→Option PV))
 |c,.ghost _ ac=>fe c ac
 | .region _ ops _,.region aops=>Sq ops.toList aops
 | .seq a b,.seq a' b'=>fe a a'++fe b b'
 | .cond _ a b,.cond _ a' b'=>fe a a'++fe b b'
 | .block _ b,.block _ b'=>fe b b'
 | .scope b,.scope b'=>fe b b'
 | .scope c,.jumps l a b=>fe c a++(match findLabel c l with | some r=>fe r b | none=>[])
 | .loop b,.loop _ b'=>fe b b'
 | .loop b,.Ll _ b'=>fe b b'
 | .rangeFunc _ _ _ b,.range _ _ _ _ _ b'=>fe b b'
 | .rangeFunc _ _ c b,.Du _ _ _ _ pre b'=>GJ c pre++fe b b'
 |_,_=>[]
def Gc:Ia→List (Nat×(List PV→Option (List (List PV))))
 | .range ix F _ _ _ b=>(ix,F)::Gc b
 | .Du ix F _ _ _ b=>(ix,F)::Gc b
 | .seq a b=>Gc a++Gc b
 | .cond _ a b=>Gc a++Gc b
 | .block _ b=>Gc b
 | .scope b=>Gc b
 | .jumps _ a b=>Gc a++Gc b
 | .loop _ b=>Gc b
 | .Ll _ b=>Gc b
 | .ghost _ b=>Gc b
 |_=>[]
theorem YP {P:Program} {fo:Nat→FuncId} {op:Op} {aop:Ec} (h:qO P fo op aop=true):∀ c,op≠ .defer c:=by
 rintro c rfl
 cases aop <;> simp[qO] at h
theorem ZL {P:Program} {fo:Nat→FuncId} {op:Op} {aop:Ec} (h:Xy P fo op aop=true):∀ c,op≠ .defer c:=by
 rintro c rfl
 cases aop <;> simp[Xy] at h
theorem PF {nt:Nat} {ops:Array Oper} {aops:List Oa} (hc:cn P fo B0 call) (ta:Yn P fo nt ops ops.toList aops=true) (hd:∀ d∈Sq ops.toList aops,Ga P d.1 d.2):xF P fo B0 call nt ops aops:=by
 have key:∀ {os:List Oper} {aos:List Oa},Yn P fo nt ops os aos=true→(∀ d∈Sq os aos,Ga P d.1 d.2)→aos.length=os.length∧∀ (i:Nat) (o:Oper) (ao:Oa),os[i]? =some o→aos[i]? =some ao→Lu nt ops o ao=true∧pS P fo B0 call o ao∧∀ c,o.op≠ .defer c:=by
  intro os
  induction os with
  |nil=>
   intro aos h _
   cases aos with
   |nil=>exact⟨rfl,fun i o ao h=>by simp at h⟩
   |cons _ _=>simp[Yn] at h
  |cons o os ih=>
   intro aos h hd
   cases aos with
   |nil=>simp[Yn] at h
   |cons ao aos=>
    simp only[Yn,Bool.and_eq_true,Bool.or_eq_true,Bool.not_eq_true',decide_eq_true_eq] at h
    obtain⟨⟨⟨h1,h2⟩,hpr⟩,h3⟩:=h
    obtain⟨k1,k2⟩:=ih h3 fun d hd'=>hd d (by simp[Sq,hd'])
    refine⟨by simp[k1],fun i x y hx hy=> ?_⟩
    cases i with
    |zero=>
     simp at hx hy;subst hx;subst hy
     refine⟨h1,?_,h2.elim YP ZL⟩
     intro w R φ e H H' a v hS hE hev
     have hev:da call e H ao.op=some (v,H'):=by
      unfold zh at hev
      cases hp:ao.pr with
      |false=>simpa[hp] using hev
      |true=>
       simp only[hp,cond_true] at hev
       obtain⟨k,rfl⟩:=YF hev
       have hpr:ao.op.cls≤1:=hpr.resolve_left (by rw[hp];simp)
       have:ao.op.cls=0∨ao.op.cls=1:=by omega
       rcases this with h0 | h0
       ·exact (gT h0 k).2 H'
       ·exact (wP h0 k).2 H' (fun id o h=>by simp at h)
     rcases h2 with h2 | h2
     ·exact tI rfl h2 hS hE hev
     ·exact IL rfl h2 (fun d hd'=>hd d (by simp[Sq,hd'])) hc hS hE hev
    |succ i=>exact k2 i x y (by simpa using hx) (by simpa using hy)
 obtain⟨k1,k2⟩:=key ta hd
 exact⟨by simpa using k1,fun i o ao h1 h2=>(k2 i o ao (by simpa using h1) h2).1,fun i o ao h1 h2=>(k2 i o ao (by simpa using h1) h2).2.1,fun i o ao h1 h2=>(k2 i o ao (by simpa using h1) h2).2.2⟩
def Ex.to:Ex→Exit
 | .norm=> .normal
 | .exit id=> .exit id
 | .ret=> .ret
 | .goto l=> .goto l
theorem sg {f:St→Option (Ex×St)} {r:Option (Ex×St)} {x:Ex×St} (h:Tt f r=some x):(∃ s,r=some (.norm,s)∧f s=some x)∨(r=some x∧x.1≠ .norm):=by
 cases r with
 |none=>cases h
 |some y=>
  obtain⟨ex,s⟩:=y
  cases ex with
  |norm=>exact .inl ⟨s,rfl,h⟩
  |exit id=>simp only[Tt,Option.some.injEq] at h;subst h;exact .inr ⟨rfl,by simp⟩
  |ret=>simp only[Tt,Option.some.injEq] at h;subst h;exact .inr ⟨rfl,by simp⟩
  |goto l=>simp only[Tt,Option.some.injEq] at h;subst h;exact .inr ⟨rfl,by simp⟩
theorem Rn {f:St→Option (Ex×St)} {r:Option St} {x:Ex×St} (h:Jk f r=some x):∃ s,r=some s∧f s=some x:=by
 cases r with
 |none=>cases h
 |some s=>exact⟨s,rfl,h⟩
theorem Tx {k:AV→Value→Prop} {e:Tr} {a:Act} (hE:og fo k e a):∀ (l:List Nat),og fo k (Xb e l) a
 | []=>fun t=> .undef _
 |x::l=>fun t=>by
  simp only[Xb]
  rw[Tr.ba]
  split
  ·rename_i ht;subst ht;exact hE t
  ·exact Tx hE l t
theorem OB {w0 w:World} {R0 R:Rd} {φ0 φ:Pl} {H0:List aa} {a0 a:Act} {s:St} (l:List Nat) (g:Lj fo B0 w0 R0 φ0 H0 a0 w R φ s a):Lj fo B0 w0 R0 φ0 H0 a0 w R φ (tidy l s) a:=
 ⟨g.rel,Tx g.env l,g.mono,g.below,g.size,g.defers⟩
theorem mQ {ro:Option Nat} {n nt:Nat} {assign:Code} {asg:List (Nat×Nat)} (ta:cG nt assign asg=true) {k:AV→Value→Prop} {e:Tr} {a:Act} {w:World} (hE:og fo k e a) (hn:a.tmps.size=nt) {Q:Exit→Act→World→Prop}
 (hq:∀ a',og fo k (Gw asg e) a'→a'.tmps.size=nt→Q .normal a' w):assign.wpIn (QB ro) n P Q a w:=by
 have key:∀ (ops:Array Oper) (os:List Oper) (L:List Nat) (r:List (Nat×Nat)),L.map (ops[·]?)=os.map some→QN nt os r=true→∀ {e:Tr} {a:Act},og fo k e a→a.tmps.size=nt→
  (∀ a',og fo k (Gw r e) a'→a'.tmps.size=nt→Q .normal a' w)→wpOpsIn (QB ro) n P ops Q L a w:=by
  intro ops os
  induction os with
  |nil=>
   intro L r hL ta e a hE hn hq
   cases L with
   |cons _ _=>simp at hL
   |nil=>
    cases r with
    |nil=>exact hq a hE hn
    |cons _ _=>simp[QN] at ta
  |cons o os ih=>
   intro L r hL ta e a hE hn hq
   cases L with
   |nil=>simp at hL
   |cons i L=>
    simp only[List.map_cons,List.cons.injEq] at hL
    obtain⟨hi,hL⟩:=hL
    unfold QN at ta
    split at ta
    ·rename_i heq;simp at heq
    ·rename_i d t ty po af os' d' t' r' heq
     simp only[List.cons.injEq] at heq
     obtain⟨rfl,rfl⟩:=heq
     simp only[Bool.and_eq_true,beq_iff_eq,decide_eq_true_eq] at ta
     obtain⟨⟨⟨rfl,rfl⟩,hlt⟩,ta⟩:=ta
     rw[wpOpsIn_cons]
     unfold wpOpIn
     simp only[hi,Region.wanted,if_true]
     refine vA ro (by simp) ?_
     show Oper.upon _ _ _ _ _ _
     simp only[execOp,Sem.run_pure,Oper.upon]
     refine ih L r' hL ta (e:=e.set d (e.get t)) ?_ (by simp[Act.put,hn]) hq
     exact hE.put (some d) (fun t ht=>by injection ht with ht;subst ht;rw[hn];exact hlt) (hE t)
    ·cases ta
 cases assign with
 |region id ops draw=>
  cases draw with
  |true=>simp[cG] at ta
  |false=>
   refine wpIn_region (key ops ops.toList (List.range ops.size) _ ?_ ta hE hn hq)
   apply List.ext_getElem?
   intro i
   rcases Nat.lt_or_ge i ops.size with h | h
   ·simp[h]
   ·simp[h]
 |skip=>
  cases asg with
  |nil=>exact wpIn_skip (hq a hE hn)
  |cons _ _=>simp[cG] at ta
 |_=>simp[cG] at ta
theorem bM {k:AV→Value→Prop} (hk:∀ p v,(∀ R:Rd,Ea R p v)→k (.pv p) v) {nt:Nat}:∀ (ps:List Nat) (x:List PV) {e:Tr} {a:Act},og fo k e a→a.tmps.size=nt→ps.all (fun t=>decide (t < nt))=true→Mk x=true→
 og fo k (Ml ps x e) {tmps:=(ps.zip (Pm x)).foldl (fun t (p,v)=>t.setIfInBounds p v) a.tmps,defers:=a.defers}∧((ps.zip (Pm x)).foldl (fun (t:Array Value) (p,v)=>t.setIfInBounds p v) a.tmps).size=nt:=by
 intro ps
 induction ps with
 |nil=>intro x e a hE hn _ _;exact⟨by simpa[Ml] using hE,by simpa using hn⟩
 |cons p ps ih=>
  intro x e a hE hn hp hx
  cases x with
  |nil=>exact⟨by simpa[Ml,Pm] using hE,by simpa[Pm] using hn⟩
  |cons y ys=>
   simp only[List.all_cons,Bool.and_eq_true,decide_eq_true_eq] at hp
   simp only[Mk,Bool.and_eq_true] at hx
   have h1:=hE.put (some p) (fun t ht=>by injection ht with ht;subst ht;rw[hn];exact hp.1) (v:= .pv y) (u:=dO y) (.atom _ _ (hk _ _ fun R=>yJ hx.1))
   exact ih ys (e:=e.set p (.pv y)) (a:=a.put (some p) (dO y)) h1 (by simp[Act.put,hn]) hp.2 hx.2
def Ex.code:Ex→Code
 | .norm=> .skip
 | .exit id=> .exit id
 | .ret=> .ret
 | .goto l=> .goto l
theorem qC {nt:Nat} {ix:Nat} {F:List PV→Option (List (List PV))} {g:AO} {ps:List Nat} {pre:St→Option St} {b:Ia} {g1:Operand} {ps1:Array Tmp} {assign body:Code}
 (h1:uj fo g1 g=true) (h2:ps1.toList=ps) (h3:ps.all (fun t=>decide (t < nt))=true) (hit:Vl P (fo ix) F)
 (hasg:∀ (l:Nat) {B0:se} {w:World} {R:Rd} {φ:Pl} {s s1:St} {a:Act} {Q:Exit→Act→World→Prop},Kb fo B0 w R φ s.H→og fo (K R φ s.H) s.env a→a.tmps.size=nt→pre s=some s1→
  (∀ a' w' R' φ',Kb fo B0 w' R' φ' s1.H→og fo (K R' φ' s1.H) s1.env a'→(∀ x u,K R φ s.H x u→K R' φ' s1.H x u)→Ve B0 w w'→a'.tmps.size=nt→Q .normal a' w')→assign.wpIn (QB (some l)) 0 P Q a w)
 (hbody:∀ (l:Nat) {B0:se} {w:World} {R:Rd} {φ:Pl} {s s':St} {ex:Ex} {a:Act} {Q:Exit→Act→World→Prop},Kb fo B0 w R φ s.H→og fo (K R φ s.H) s.env a→a.tmps.size=nt→ga call b s=some (ex,s')→
  (∀ a' w' R' φ',Lj fo B0 w R φ s.H a w' R' φ' s' a'→Q ex.to a' w')→body.wpIn (QB (some l)) 0 P Q a w)
 {B0:se} {w:World} {R:Rd} {φ:Pl} {s s':St} {ex:Ex} {a:Act} {nn:Nat} {Q:Exit→Act→World→Prop} (hS:Kb fo B0 w R φ s.H) (hE:og fo (K R φ s.H) s.env a) (hn:a.tmps.size=nt)
 (h:Ms (fun e H=>Jk (ga call b) (pre ⟨e,H⟩)) ps [] s (dt ix F ps.length (g.ev s.env))=some (ex,s'))
 (hq:∀ a' w' R' φ',Lj fo B0 w R φ s.H a w' R' φ' s' a'→Q ex.to a' w'):(Code.rangeFunc g1 ps1 assign body).wpIn (QB none) nn P Q a w:=by
 obtain⟨xs,cs,us,hval,hLR,hF,hall,hres⟩:∃ xs cs us,a.eval g1= .func (.func (fo ix)) #[] ⟨us⟩∧xd R cs us∧F cs=some xs∧(∀ x∈xs,x.length=ps.length∧Mk x=true)∧
  xM s.env (Og (fun x H=>Jk (ga call b) (pre ⟨Ml ps x s.env,H⟩)) xs s.H)=some (ex,s'):=by
  have hg:=pb (R:=R) (φ:=φ) (H:=s.H) hE h1
  cases hv:dt ix F ps.length (g.ev s.env) with
  |none=>rw[hv] at h;cases h
  |some xs=>
   rw[hv] at h
   unfold dt at hv
   split at hv
   ·rename_i i caps he
    split at hv
    ·rename_i hi
     subst hi
     simp only[Option.bind_eq_some_iff] at hv
     obtain⟨cs,e1,ys,e2,e3⟩:=hv
     split at e3
     ·rename_i hall
      injection e3 with e3;subst e3
      rw[he] at hg
      generalize a.eval g1=vx at hg
      cases hg with
      |atom _ _ h=>exact h.elim
      |mi _ _ us hl=>
       refine⟨ys,cs,us,rfl,Kh e1 hl,e2,fun x hx=> ?_,h⟩
       have:=List.all_eq_true.1 hall x hx
       simpa[eN] using this
     ·cases e3
    ·cases hv
   ·cases hv
 obtain⟨f,hf⟩:∃ f,f=fun (x:List PV) (H:List aa)=>Jk (ga call b) (pre ⟨Ml ps x s.env,H⟩):=⟨_,rfl⟩
 rw[← hf] at hres
 obtain⟨H',hR,rfl⟩:∃ H',Og f xs s.H=some (ex,H')∧s'=⟨s.env,H'⟩:=by
  cases hr:Og f xs s.H with
  |none=>rw[hr] at hres;cases hres
  |some r=>
   rw[hr] at hres
   obtain⟨ex1,H1⟩:=r
   simp only[xM,Option.some.injEq,Prod.mk.injEq] at hres
   obtain⟨rfl,rfl⟩:=hres
   exact⟨H1,rfl,rfl⟩
 have hlow:=hS.low
 show (Code.rangeFunc g1 ps1 assign body).wpIn Fence.wide nn P Q a w
 refine wpIn_rangeFunc ?_
 intro fn _
 obtain⟨rec,hrec⟩:∃ rec:LoopState→Option Code→Loop,rec=fun st pe=>{state:=st,pending:=pe,fn,tmps:=a.tmps,params:=ps1,assign,body,defers:=w.heap.size}:=⟨_,rfl⟩
 obtain⟨W1,hW1⟩:∃ W1,(w.alloc (.deferred (some []))).alloc (.loop (rec .ready none))=W1:=⟨_,rfl⟩
 have hL1:W1.heap[w.heap.size+1]? =some (.loop (rec .ready none)):=by
  rw[← hW1];have:=World.alloc_heap_new (w.alloc (.deferred (some []))) (.loop (rec .ready none));rwa [World.size_alloc] at this
 have hK1:W1.heap[w.heap.size]? =some (.deferred (some [])):=by
  rw[← hW1];exact (RowKit.Below.heap_alloc _ _ _ (by simp)).trans (World.alloc_heap_new w _)
 have hb1:RowKit.Below w.heap.size w W1:=by
  rw[← hW1];exact (((RowKit.Below.refl _ w).alloc (Nat.le_refl _) _).alloc (by simp) _)
 have hseq:∀ v:Array Value,v= #[.func (.yield (w.heap.size+1)) #[] #[]]→v++(⟨us⟩:Array Value)=⟨.func (.yield (w.heap.size+1)) #[] #[]::us⟩:=by
  intro v hv;subst hv;apply Array.ext';simp
 refine⟨w.heap.size+1,[mark w.heap.size],W1,{target:= .fn (.func (fo ix)) ⟨us⟩,args:= #[.func (.yield (w.heap.size+1)) #[] #[]]},W1,fo ix,
  ⟨.func (.yield (w.heap.size+1)) #[] #[]::us⟩,W1,?_,?_,fun _ _=>trivial,?_,(fun h=>by cases h),callsIn_wide.2 ?_⟩
 ·rw[← hW1,hrec];exact run_enterLoop_outer _ _ _ _ _
 ·simp only[resolve,hval]
  simp[go_sem]
 ·rw[← hseq _ rfl];exact bn hit.call _
 ·
  have hslt:=hS.slt
  refine (hit.go cs us xs hF (fun x hx=>(hall x hx).2) R (w.heap.size+1)
   (fun i T A=>∃ H R' φ',Og f (xs.take i) s.H=some (.norm,H)∧Kb fo (B0.and T) A R' φ' H∧(∀ x u,K R φ s.H x u→K R' φ' H x u)∧Ve B0 w A∧A.heap[w.heap.size+1]? =some (.loop (rec .ready none))∧A.heap[w.heap.size]? =some (.deferred (some []))∧∀ k,T k→w.heap.size+2≤k)
   (fun A=>∃ R' φ',ex≠ .norm∧Kb fo B0 A R' φ' H'∧(∀ x u,K R φ s.H x u→K R' φ' H' x u)∧Ve B0 w A∧A.heap[w.heap.size+1]? =some (.loop (rec .done (some ex.code)))∧A.heap[w.heap.size]? =some (.deferred (some [])))
   W1 hLR (hS.later hb1).sub ?_ ?_ ?_ ?_ ?_).mono ?_
  ·rintro i T A B T' ⟨H,R',φ',j1,j2,j3,j4,j5,j6,j7⟩ hb ht
   refine⟨H,R',φ',j1,j2.grow hb ht,j3,j4.later hlow hslt hb,by rw[hb.block _ (nj j5)];exact j5,by rw[hb.block _ (nj j6)];exact j6,fun k hk=> ?_⟩
   rcases ht k hk with h | h
   ·exact j7 k h
   ·have:=nj j5
    omega
  ·rintro A B ⟨R',φ',j1,j2,j3,j4,j5,j6⟩ hb
   exact⟨R',φ',j1,j2.later hb,j3,j4.later hlow hslt hb,by rw[hb.block _ (nj j5)];exact j5,by rw[hb.block _ (nj j6)];exact j6⟩
  ·rintro i T A ⟨H,R',φ',j1,j2,j3,j4,j5,j6,j7⟩
   exact⟨R',j2.sub,fun p v h=>j3 (.pv p) v h⟩
  ·
   rintro i x T A hx ⟨H,R',φ',j1,j2,j3,j4,j5,j6,j7⟩
   obtain⟨hlen,hfl⟩:=hall x (List.mem_of_getElem? hx)
   have hspl:xs=xs.take i++x::xs.drop (i+1):=by
    have hlt:=getElem?_lt hx
    rw[List.getElem?_eq_getElem hlt] at hx
    injection hx with hx
    rw[← hx,←List.drop_eq_getElem_cons hlt,List.take_append_drop]
   have hgo:Og f (x::xs.drop (i+1)) H=some (ex,H'):=by
    rw[← ay f _ _ j1,←hspl];exact hR
   simp only[Og] at hgo
   have hsz:(Pm x).length=ps.length:=by
    rw[← hlen]
    clear hgo hspl hx hfl hlen
    induction x with
    |nil=>rfl
    |cons y ys ih=>simp[Pm,ih]
   have hp1:ps1.size=ps.length:=by rw[← h2];simp
   have hy:=run_yield (P:=P) (args:=⟨Pm x⟩) j5 (by rw[hrec];simp[hsz,hp1])
   rw[hrec] at hy
   refine⟨_,_,_,_,hy,roundIn_of_wpIn (F:=Fence.wide) trivial ?_⟩
   clear hy
   have hzip:(ps1.zip (⟨Pm x⟩:Array Value)).foldl (fun t (p,v)=>t.setIfInBounds p v) a.tmps=(ps.zip (Pm x)).foldl (fun t (p,v)=>t.setIfInBounds p v) a.tmps:=by
    rw[← Array.foldl_toList,Array.toList_zip,h2]
   have hE1:og fo (K R' φ' H) s.env {tmps:=a.tmps,defers:=[]}:=fun t=>(hE t).mono j3
   obtain⟨hE2,hn2⟩:=bM (fo:=fo) (k:=K R' φ' H) (fun p v hp=>hp R') ps x hE1 hn h3 hfl
   show Code.wpIn (QB (some (w.heap.size+1))) 0 P assign _ _ _
   dsimp only
   rw[hzip]
   obtain⟨s2,hpre⟩:∃ s2,pre ⟨Ml ps x s.env,H⟩=some s2:=by
    cases hp:pre ⟨Ml ps x s.env,H⟩ with
    |none=>rw[hf] at hgo;simp only[hp,Jk] at hgo;cases hgo
    |some s2=>exact⟨s2,rfl⟩
   refine hasg _ j2 hE2 hn2 hpre fun a1 A1 R1 φ1 i2 hE3 i3 i4 hn3=> ?_
   have i5:=i4.Wc _ _ j5 rfl
   have i6:=i4.Wc _ _ j6 rfl
   have i7:=j4.trans i4.weaken
   refine⟨_,run_beginRound i5 (by rw[hrec]),?_⟩
   have hlt:w.heap.size+1 < A1.heap.size:=nj i5
   have hl2:(A1.putObj (w.heap.size+1) (.loop {rec .ready none with state:= .busy})).heap[w.heap.size+1]? =some (.loop {rec .ready none with state:= .busy}):=World.putObj_heap_same hlt
   have hk2:(A1.putObj (w.heap.size+1) (.loop {rec .ready none with state:= .busy})).heap[w.heap.size]? =some (.deferred (some [])):=(World.putObj_heap_other (by omega)).trans i6
   have hS2:=(i2.UP i5 rfl (.loop {rec .ready none with state:= .busy}))
   have hb2:=i7.put hlow hslt (Nat.le_succ _) (.loop {rec .ready none with state:= .busy})
   have hT2:∀ k,T k→(A1.putObj (w.heap.size+1) (.loop {rec .ready none with state:= .busy})).heap[k]? =A.heap[k]? :=fun k hk=>(World.putObj_heap_other (by have:=j7 k hk;omega)).trans (i4.held k (.inr hk))
   generalize A1.putObj (w.heap.size+1) (.loop {rec .ready none with state:= .busy})=A2 at *
   cases hfx:f x H with
   |none=>rw[hfx] at hgo;cases hgo
   |some r=>
    obtain⟨ex1,s1⟩:=r
    rw[hfx] at hgo
    have hev:ga call b s2=some (ex1,s1):=by rw[hf] at hfx;simp only[hpre,Jk] at hfx;exact hfx
    refine hbody _ hS2 hE3 hn3 hev fun a3 W3 R3 φ3 gg=> ?_
    have hl3:=gg.below.Wc _ _ hl2 rfl
    have hk3:=gg.below.Wc _ _ hk2 rfl
    have hS4:=gg.rel
    have hb3:=hb2.trans gg.below.weaken
    have hlt3:=nj hl3
    have hT3:∀ k,T k→W3.heap[k]? =A.heap[k]? :=fun k hk=>(gg.below.held k (.inr hk)).trans (hT2 k hk)
    have hmono:∀ x u,K R φ s.H x u→K R3 φ3 s1.H x u:=fun x u hx=>gg.mono _ _ (i3 x u (j3 x u hx))
    have fin:∀ (jump:Option Code),(Instr.endRound (w.heap.size+1) jump).run P W3= .ok (.bool jump.isNone) (W3.putObj (w.heap.size+1) (.loop (rec (if jump.isNone then .ready else .done) jump)))∧
     Kb fo (B0.and T) (W3.putObj (w.heap.size+1) (.loop (rec (if jump.isNone then .ready else .done) jump))) R3 φ3 s1.H∧Ve B0 w (W3.putObj (w.heap.size+1) (.loop (rec (if jump.isNone then .ready else .done) jump)))∧
     (W3.putObj (w.heap.size+1) (.loop (rec (if jump.isNone then .ready else .done) jump))).heap[w.heap.size+1]? =some (.loop (rec (if jump.isNone then .ready else .done) jump))∧
     (W3.putObj (w.heap.size+1) (.loop (rec (if jump.isNone then .ready else .done) jump))).heap[w.heap.size]? =some (.deferred (some []))∧
     ∀ k,T k→(W3.putObj (w.heap.size+1) (.loop (rec (if jump.isNone then .ready else .done) jump))).heap[k]? =A.heap[k]? :=fun jump=>by
     have:=run_endRound (P:=P) jump hl3
     rw[hrec] at this
     refine⟨?_,hS4.UP hl3 rfl _,hb3.put hlow hslt (Nat.le_succ _) _,World.putObj_heap_same hlt3,(World.putObj_heap_other (by omega)).trans hk3,fun k hk=>(World.putObj_heap_other (by have:=j7 k hk;omega)).trans (hT3 k hk)⟩
     rw[hrec];exact this
    have jump:ex1≠ .norm→∃ v w',(Instr.endRound (w.heap.size+1) (some ex1.code)).run P W3= .ok v w'∧((Ending.returned v= .returned (.bool true)∧(∃ H R' φ',Og f (xs.take (i+1)) s.H=some (.norm,H)∧Kb fo (B0.and T) w' R' φ' H∧(∀ x u,K R φ s.H x u→K R' φ' H x u)∧Ve B0 w w'∧w'.heap[w.heap.size+1]? =some (.loop (rec .ready none))∧w'.heap[w.heap.size]? =some (.deferred (some []))∧∀ k,T k→w.heap.size+2≤k)∧∀ k,T k→w'.heap[k]? =A.heap[k]?)∨
     (Ending.returned v= .returned (.bool false)∧∃ R' φ',ex≠ .norm∧Kb fo B0 w' R' φ' H'∧(∀ x u,K R φ s.H x u→K R' φ' H' x u)∧Ve B0 w w'∧w'.heap[w.heap.size+1]? =some (.loop (rec .done (some ex.code)))∧w'.heap[w.heap.size]? =some (.deferred (some [])))):=by
     intro hne
     have hr:=yL hne hgo
     injection hr with hr1 hr2
     subst hr1 hr2
     obtain⟨q1,q2,q3,q4,q5,_⟩:=fin (some ex.code)
     exact⟨_,_,q1,.inr ⟨rfl,R3,φ3,hne,q2.weaken,hmono,q3,q4,q5⟩⟩
    cases ex1 with
    |norm=>
     obtain⟨q1,q2,q3,q4,q5,q6⟩:=fin none
     refine⟨_,_,q1,.inl ⟨rfl,⟨s1.H,R3,φ3,?_,q2,hmono,q3,q4,q5,j7⟩,q6⟩⟩
     have:xs.take (i+1)=xs.take i++[x]:=by rw[List.take_add_one,hx];rfl
     rw[this,ay f _ _ j1]
     simp only[Og,hfx,pn]
    |ret=>exact jump (by simp)
    |goto l=>exact jump (by simp)
    |exit id=>exact jump (by simp)
  ·refine⟨s.H,R,φ,rfl,?_,fun _ _ h=>h,.Lr hb1 hlow hslt,hL1,hK1,fun _ h=>h.elim⟩
   have:=hS.later hb1
   exact⟨this.low,this.sub,fun id o ho=>by have:=this.obj id o ho;cases o <;> exact this,this.inj,this.ml,fun k hk=>hk.elim (this.slt k) (fun h=>h.elim),fun i hi hs=>hs.elim (this.free i hi) (fun h=>h.elim)⟩
  ·
   have env:∀ {R':Rd} {φ':Pl} {A:World},(∀ x u,K R φ s.H x u→K R' φ' H' x u)→Kb fo B0 A R' φ' H'→Ve B0 w A→(∀ o':Obj,(A.putObj (w.heap.size+1) o').heap[w.heap.size]? =some (.deferred (some [])))→∀ (o:Obj) (_:A.heap[w.heap.size+1]? =some o) (_:oS o=true) (o':Obj),
    Lj fo B0 w R φ s.H a (A.putObj (w.heap.size+1) o') R' φ' ⟨s.env,H'⟩ {a with defers:=[mark w.heap.size]++a.defers}:=fun hm hs hb hd o ho hk o'=>
    ⟨hs.UP ho hk o',fun t=>(hE t).mono hm,hm,hb.put hlow hslt (Nat.le_succ _) o',rfl,[w.heap.size],rfl,by simp,fun D hD=>by rw[List.mem_singleton] at hD;subst hD;exact⟨Nat.le_refl _,hd o'⟩⟩
   rintro e B ⟨⟨v,rfl⟩,(⟨T,H,R',φ',j1,j2,j3,j4,j5,j6,_⟩ | ⟨R',φ',j1,j2,j3,j4,j5,j6⟩)⟩
   ·rw[List.take_length,hR] at j1
    injection j1 with j1
    injection j1 with j0 j1
    subst j0 j1
    refine⟨none,_,by have:=run_endLoop (P:=P) j5 (by rw[hrec];simp);rw[hrec] at this;exact this,?_⟩
    exact hq _ _ _ _ (env j3 j2.weaken j4 (fun o'=>(World.putObj_heap_other (by omega)).trans j6) _ j5 rfl _)
   ·refine⟨some ex.code,_,by have:=run_endLoop (P:=P) j5 (by rw[hrec];simp);rw[hrec] at this;exact this,?_⟩
    have hz:=fun o'=>hq _ _ _ _ (env j3 j2 j4 (fun o'=>(World.putObj_heap_other (by omega)).trans j6) _ j5 rfl o')
    cases ex with
    |norm=>exact absurd rfl j1
    |exit id=>exact wpIn_exit (hz _)
    |ret=>exact wpIn_ret (hz _)
    |goto l=>exact wpIn_goto (hz _)
theorem EA {f:Tr→List aa→Option (Ex×St)} {ps:List Nat} {asg:List (Nat×Nat)} {s s':St} {v:Option (List (List PV))} {ex:Ex} (h:Ms f ps asg s v=some (ex,s')) (l:Nat):ex≠ .goto l:=by
 cases v with
 |none=>simp[Ms] at h
 |some xs=>
  simp only[Ms] at h
  have key:∀ (xs:List (List PV)) (H:List aa) (r:Ex×List aa),Og (fun x H=>f (Gw asg (Ml ps x s.env)) H) xs H=some r→r.1≠ .goto l:=by
   intro xs
   induction xs with
   |nil=>intro H r hr;simp only[Og,Option.some.injEq] at hr;rw[← hr];simp
   |cons x xs ih=>
    intro H r hr
    simp only[Og] at hr
    cases hf:f (Gw asg (Ml ps x s.env)) H with
    |none=>simp[hf,pn] at hr
    |some q=>
     obtain⟨ex1,s1⟩:=q
     cases ex1 with
     |norm=>simp only[hf,pn] at hr;exact ih _ _ hr
     |goto k=>simp[hf,pn] at hr
     |exit k=>simp only[hf,pn,Option.some.injEq] at hr;rw[← hr];simp
     |ret=>simp only[hf,pn,Option.some.injEq] at hr;rw[← hr];simp
  cases hr:Og (fun x H=>f (Gw asg (Ml ps x s.env)) H) xs s.H with
  |none=>simp[hr,xM] at h
  |some r=>
   obtain⟨ex1,H1⟩:=r
   simp only[hr,xM,Option.some.injEq,Prod.mk.injEq] at h
   rw[← h.1]
   exact key _ _ _ hr
theorem Lo:∀ (ac:Ia),ac.zD=true→∀ {s s':St} {ex:Ex},ga call ac s=some (ex,s')→∀ l,ex≠ .goto l
 | .skip,_,s,s',ex,h,l=>by simp only[ga,Option.some.injEq,Prod.mk.injEq] at h;rw[← h.1];simp
 | .region ops,_,s,s',ex,h,l=>by
   simp only[ga] at h
   cases ho:Pd call ops s with
   |none=>simp[ho,Hj] at h
   |some s1=>simp only[ho,Hj,Option.some.injEq,Prod.mk.injEq] at h;rw[← h.1];simp
 | .seq a b,hj,s,s',ex,h,l=>by
   simp only[Ia.zD,Bool.and_eq_true] at hj
   simp only[ga] at h
   rcases sg h with⟨s1,h1,h2⟩ | ⟨h1,_⟩
   ·exact Lo b hj.2 h2 l
   ·exact Lo a hj.1 h1 l
 | .cond c a b,hj,s,s',ex,h,l=>by
   simp only[Ia.zD,Bool.and_eq_true] at hj
   simp only[ga] at h
   cases hc:asBool (c.ev s.env) with
   |none=>simp[hc,br] at h
   |some x=>
    cases x with
    |true=>simp only[hc,br] at h;exact Lo a hj.1 h l
    |false=>simp only[hc,br] at h;exact Lo b hj.2 h l
 | .block id b,hj,s,s',ex,h,l=>by
   simp only[Ia.zD] at hj
   simp only[ga] at h
   cases hb:ga call b s with
   |none=>simp[hb,vj] at h
   |some r=>
    obtain⟨ex1,s1⟩:=r
    have hi:=Lo b hj hb
    cases ex1 with
    |norm=>simp only[hb,vj,Option.some.injEq,Prod.mk.injEq] at h;rw[← h.1];simp
    |ret=>simp only[hb,vj,Option.some.injEq,Prod.mk.injEq] at h;rw[← h.1];simp
    |goto k=>exact absurd rfl (hi k)
    |exit k=>
     simp only[hb,vj] at h
     split at h <;> (simp only[Option.some.injEq,Prod.mk.injEq] at h;rw[← h.1];simp)
 | .scope b,hj,s,s',ex,h,l=>by
   simp only[Ia.zD] at hj
   exact Lo b hj (by simpa only[ga] using h) l
 | .loop live b,hj,s,s',ex,h,l=>by
   simp only[Ia.zD] at hj
   simp only[ga] at h
   obtain⟨s0,_,h⟩:=Rn h
   have key:∀ (n:Nat) (s1:St),Eb (fa (ga call b) (xa s.H.length live)) n s1=some (ex,s')→ex≠ .goto l:=by
    intro n
    induction n with
    |zero=>intro s1 hl;simp[Eb] at hl
    |succ n ihn=>
     intro s1 hl
     simp only[Eb] at hl
     rcases sg hl with⟨s2,k1,k2⟩ | ⟨k1,k2⟩
     ·exact ihn _ k2
     ·simp only[fa] at k1
      rcases sg k1 with⟨s3,j1,j2⟩ | ⟨j1,j2⟩
      ·cases hcl:xa s.H.length live s3 with
       |none=>simp[hcl,Hj] at j2
       |some s4=>simp only[hcl,Hj,Option.some.injEq,Prod.mk.injEq] at j2;rw[← j2.1];simp
      ·exact Lo b hj j1 l
   exact key _ _ h
 | .Ll live b,hj,s,s',ex,h,l=>by
   simp only[Ia.zD] at hj
   simp only[ga] at h
   have key:∀ (n:Nat) (s1:St),Eb (fa (ga call b) (fun s=>some (tidy live s))) n s1=some (ex,s')→ex≠ .goto l:=by
    intro n
    induction n with
    |zero=>intro s1 hl;simp[Eb] at hl
    |succ n ihn=>
     intro s1 hl
     simp only[Eb] at hl
     rcases sg hl with⟨s2,k1,k2⟩ | ⟨k1,k2⟩
     ·exact ihn _ k2
     ·simp only[fa] at k1
      rcases sg k1 with⟨s3,j1,j2⟩ | ⟨j1,j2⟩
      ·simp only[Hj,Option.some.injEq,Prod.mk.injEq] at j2;rw[← j2.1];simp
      ·exact Lo b hj j1 l
   exact key _ _ h
 | .exit id,_,s,s',ex,h,l=>by simp only[ga,Option.some.injEq,Prod.mk.injEq] at h;rw[← h.1];simp
 | .ret,_,s,s',ex,h,l=>by simp only[ga,Option.some.injEq,Prod.mk.injEq] at h;rw[← h.1];simp
 | .ghost g c,hj,s,s',ex,h,l=>by
   simp only[Ia.zD] at hj
   simp only[ga] at h
   obtain⟨s0,_,h⟩:=Rn h
   exact Lo c hj h l
 | .range ix F g ps asg b,_,s,s',ex,h,l=>by
   simp only[ga] at h
   exact EA h l
 | .Du ix F g ps pre b,_,s,s',ex,h,l=>by
   simp only[ga] at h
   exact EA h l
 | .goto l',hj,s,s',ex,h,l=>by simp[Ia.zD] at hj
 | .jumps l' a b,_,s,s',ex,h,l=>by
   simp only[ga] at h
   cases ha:ga call a s with
   |none=>simp[ha,Xo] at h
   |some r=>
    obtain⟨ex1,s1⟩:=r
    cases ex1 with
    |goto k=>
     simp only[ha,Xo] at h
     split at h
     ·cases hb:ga call b s1 with
      |none=>simp[hb,WA] at h
      |some r=>
       obtain⟨ex2,s2⟩:=r
       cases ex2 <;> simp only[hb,WA,Option.some.injEq,Prod.mk.injEq,reduceCtorEq] at h <;> (rw[← h.1];simp)
     ·cases h
    |norm=>simp only[ha,Xo,Option.some.injEq,Prod.mk.injEq] at h;rw[← h.1];simp
    |exit=>simp only[ha,Xo,Option.some.injEq,Prod.mk.injEq] at h;rw[← h.1];simp
    |ret=>simp only[ha,Xo,Option.some.injEq,Prod.mk.injEq] at h;rw[← h.1];simp
theorem RO {nt:Nat} (hc:∀ B0:se,cn P fo B0 call):∀ (ac:Ia) (c:Code),wc P fo nt c ac=true→(∀ d∈fe c ac,Ga P d.1 d.2)→(∀ d∈Gc ac,Vl P (fo d.1) d.2)→
 ∀ (ro:Option Nat) (nn:Nat),(ro=none∨ac.plain=true)→∀ {B0:se} {w:World} {R:Rd} {φ:Pl} {s s':St} {ex:Ex} {a:Act} {Q:Exit→Act→World→Prop},Kb fo B0 w R φ s.H→og fo (K R φ s.H) s.env a→a.tmps.size=nt→ga call ac s=some (ex,s')→
 (∀ a' w' R' φ',Lj fo B0 w R φ s.H a w' R' φ' s' a'→Q ex.to a' w')→c.wpIn (QB ro) nn P Q a w:=by
 intro ac
 induction ac with
 |skip=>
  intro c ta hd hI ro nn hpl B0 w R φ s s' ex a Q hS hE hn h hq
  cases c <;> simp[wc] at ta
  ·simp only[ga,Option.some.injEq,Prod.mk.injEq] at h
   obtain⟨rfl,rfl⟩:=h
   exact wpIn_skip (hq _ _ R φ (.refl hS hE))
  ·simp only[ga,Option.some.injEq,Prod.mk.injEq] at h
   obtain⟨rfl,rfl⟩:=h
   exact wpIn_label (hq _ _ R φ (.refl hS hE))
 |scope b ihb=>
  intro c ta hd hI ro nn hpl B0 w R φ s s' ex a Q hS hE hn h hq
  cases c with
  |scope c1=>
   simp only[wc] at ta
   simp only[ga] at h
   obtain rfl:=hpl.resolve_right (by simp[Ia.plain])
   rw[Bool.and_eq_true] at ta
   have hnj:=Lo b ta.1 h
   refine wpIn_wide.2 (wp_scope_straight (wpIn_wide.1 (ihb c1 ta.2 hd hI none nn (.inl rfl) hS hE hn h fun a' w' R' φ' g=> ?_)))
   have:=hq _ _ _ _ g
   cases ex with
   |goto l=>exact absurd rfl (hnj l)
   |_=>exact this
  |_=>simp[wc] at ta
 |region aops=>
  intro c ta hd hI ro nn hpl B0 w R φ s s' ex a Q hS hE hn h hq
  cases c with
  |region id ops draw=>
   simp only[wc,Bool.and_eq_true,Bool.or_eq_true,Bool.not_eq_true'] at ta
   have hs:=PF (hc B0) ta.1 hd
   simp only[ga] at h
   cases ho:Pd call aops s with
   |none=>simp[ho,Hj] at h
   |some s1=>
    simp only[ho,Hj,Option.some.injEq,Prod.mk.injEq] at h
    obtain⟨rfl,rfl⟩:=h
    cases draw with
    |false=>exact Fz ro hs hS hE hn ho hq
    |true=>
     rcases ta.2 with h | h
     ·cases h
     ·exact oG ro h.1 hs h.2 hS hE hn ho hq
  |_=>simp[wc] at ta
 |seq x y ihx ihy=>
  intro c ta hd hI ro nn hpl B0 w R φ s s' ex a Q hS hE hn h hq
  cases c with
  |seq a1 b1=>
   simp only[wc,Bool.and_eq_true] at ta
   simp only[ga] at h
   have hd1:∀ d∈fe a1 x,Ga P d.1 d.2:=fun d hd'=>hd d (by simp[fe,hd'])
   have hd2:∀ d∈fe b1 y,Ga P d.1 d.2:=fun d hd'=>hd d (by simp[fe,hd'])
   have hI1:∀ d∈Gc x,Vl P (fo d.1) d.2:=fun d hd'=>hI d (by simp[Gc,hd'])
   have hI2:∀ d∈Gc y,Vl P (fo d.1) d.2:=fun d hd'=>hI d (by simp[Gc,hd'])
   have hp1:ro=none∨x.plain=true:=hpl.imp id fun h=>by simp only[Ia.plain,Bool.and_eq_true] at h;exact h.1
   have Qi:ro=none∨y.plain=true:=hpl.imp id fun h=>by simp only[Ia.plain,Bool.and_eq_true] at h;exact h.2
   refine wpIn_seq ?_
   rcases sg h with⟨s1,h1,h2⟩ | ⟨h1,h2⟩
   ·refine ihx a1 ta.1 hd1 hI1 ro nn hp1 hS hE hn h1 fun a' w' R' φ' g=> ?_
    exact ihy b1 ta.2 hd2 hI2 ro nn Qi g.rel g.env (g.size.trans hn) h2 fun a'' w'' R'' φ'' g'=>hq _ _ _ _ (g.trans g')
   ·refine ihx a1 ta.1 hd1 hI1 ro nn hp1 hS hE hn h1 fun a' w' R' φ' g=> ?_
    cases ex with
    |norm=>exact absurd rfl h2
    |exit id=>exact hq _ _ _ _ g
    |ret=>exact hq _ _ _ _ g
    |goto l=>exact hq _ _ _ _ g
  |_=>simp[wc] at ta
 |cond co x y ihx ihy=>
  intro c ta hd hI ro nn hpl B0 w R φ s s' ex a Q hS hE hn h hq
  cases c with
  |cond co1 a1 b1=>
   simp only[wc,Bool.and_eq_true] at ta
   simp only[ga] at h
   have hd1:∀ d∈fe a1 x,Ga P d.1 d.2:=fun d hd'=>hd d (by simp[fe,hd'])
   have hd2:∀ d∈fe b1 y,Ga P d.1 d.2:=fun d hd'=>hd d (by simp[fe,hd'])
   have hI1:∀ d∈Gc x,Vl P (fo d.1) d.2:=fun d hd'=>hI d (by simp[Gc,hd'])
   have hI2:∀ d∈Gc y,Vl P (fo d.1) d.2:=fun d hd'=>hI d (by simp[Gc,hd'])
   have hp1:ro=none∨x.plain=true:=hpl.imp id fun h=>by simp only[Ia.plain,Bool.and_eq_true] at h;exact h.1
   have Qi:ro=none∨y.plain=true:=hpl.imp id fun h=>by simp only[Ia.plain,Bool.and_eq_true] at h;exact h.2
   cases hb:asBool (co.ev s.env) with
   |none=>simp[hb,br] at h
   |some b=>
    have hv:=Fu (pb (R:=R) (φ:=φ) (H:=s.H) hE ta.1.1) hb
    refine wpIn_cond hv ?_
    cases b with
    |true=>simp only[hb,br] at h;exact ihx a1 ta.1.2 hd1 hI1 ro nn hp1 hS hE hn h hq
    |false=>simp only[hb,br] at h;exact ihy b1 ta.2 hd2 hI2 ro nn Qi hS hE hn h hq
  |_=>simp[wc] at ta
 |block id b ih=>
  intro c ta hd hI ro nn hpl B0 w R φ s s' ex a Q hS hE hn h hq
  cases c with
  |block id1 b1=>
   simp only[wc,Bool.and_eq_true,beq_iff_eq] at ta
   obtain⟨rfl,ta⟩:=ta
   simp only[ga] at h
   refine wpIn_block ?_
   cases hb:ga call b s with
   |none=>simp[hb,vj] at h
   |some r=>
    obtain⟨ex1,s1⟩:=r
    refine ih b1 ta hd hI ro nn hpl hS hE hn hb fun a' w' R' φ' g=> ?_
    cases ex1 with
    |norm=>simp only[hb,vj,Option.some.injEq,Prod.mk.injEq] at h;obtain⟨rfl,rfl⟩:=h;exact hq _ _ _ _ g
    |ret=>simp only[hb,vj,Option.some.injEq,Prod.mk.injEq] at h;obtain⟨rfl,rfl⟩:=h;exact hq _ _ _ _ g
    |goto l=>simp only[hb,vj,Option.some.injEq,Prod.mk.injEq] at h;obtain⟨rfl,rfl⟩:=h;exact hq _ _ _ _ g
    |exit id2=>
     simp only[hb,vj] at h
     show Exit.inBlock id1 Q (.exit id2) a' w'
     simp only[Exit.inBlock]
     split at h
     ·rename_i e
      simp only[Option.some.injEq,Prod.mk.injEq] at h;obtain⟨rfl,rfl⟩:=h
      rw[if_pos e];exact hq _ _ _ _ g
     ·rename_i e
      simp only[Option.some.injEq,Prod.mk.injEq] at h;obtain⟨rfl,rfl⟩:=h
      rw[if_neg e];exact hq _ _ _ _ g
  |_=>simp[wc] at ta
 |loop live b ih=>
  intro c ta hd hI ro nn hpl B0 w R φ s s' ex a Q hS hE hn h hq
  cases c with
  |loop b1=>
   simp only[wc] at ta
   simp only[ga] at h
   obtain⟨s0,h0,h⟩:=Rn h
   have g0:=zz (Lj.refl hS hE) h0
   refine wpIn_loop_rounds wa ?_
   have key:∀ (n:Nat) {w1:World} {R1:Rd} {φ1:Pl} {s1:St} {a1:Act},Lj fo B0 w R φ s.H a w1 R1 φ1 s1 a1→Eb (fa (ga call b) (xa s.H.length live)) n s1=some (ex,s')→Code.roundsIn (QB ro) nn P b1 Q n a1 w1:=by
    intro n
    induction n with
    |zero=>intro w1 R1 φ1 s1 a1 g hl;simp[Eb] at hl
    |succ n ihn=>
     intro w1 R1 φ1 s1 a1 g hl
     simp only[Eb] at hl
     rw[roundsIn_succ]
     rcases sg hl with⟨s2,k1,k2⟩ | ⟨k1,k2⟩
     ·simp only[fa] at k1
      rcases sg k1 with⟨s3,j1,j2⟩ | ⟨j1,j2⟩
      ·refine ih b1 ta hd hI ro nn hpl g.rel g.env (g.size.trans hn) j1 fun a' w' R' φ' g'=> ?_
       cases hcl:xa s.H.length live s3 with
       |none=>simp[hcl,Hj] at j2
       |some s4=>
        simp only[hcl,Hj,Option.some.injEq,Prod.mk.injEq,true_and] at j2
        subst j2
        exact ihn (zz (g.trans g') hcl) k2
      ·exact absurd rfl j2
     ·simp only[fa] at k1
      rcases sg k1 with⟨s3,j1,j2⟩ | ⟨j1,j2⟩
      ·cases hcl:xa s.H.length live s3 with
       |none=>simp[hcl,Hj] at j2
       |some s4=>
        simp only[hcl,Hj,Option.some.injEq,Prod.mk.injEq] at j2
        exact absurd j2.1.symm k2
      ·refine ih b1 ta hd hI ro nn hpl g.rel g.env (g.size.trans hn) j1 fun a' w' R' φ' g'=> ?_
       cases ex with
       |norm=>exact absurd rfl j2
       |exit id=>exact hq _ _ _ _ (g.trans g')
       |ret=>exact hq _ _ _ _ (g.trans g')
       |goto l=>exact hq _ _ _ _ (g.trans g')
   exact key wa g0 h
  |_=>simp[wc] at ta
 |Ll live b ih=>
  intro c ta hd hI ro nn hpl B0 w R φ s s' ex a Q hS hE hn h hq
  cases c with
  |loop b1=>
   simp only[wc] at ta
   simp only[ga] at h
   have g0:=OB live (Lj.refl hS hE)
   refine wpIn_loop_rounds wa ?_
   have key:∀ (n:Nat) {w1:World} {R1:Rd} {φ1:Pl} {s1:St} {a1:Act},Lj fo B0 w R φ s.H a w1 R1 φ1 s1 a1→Eb (fa (ga call b) (fun s=>some (tidy live s))) n s1=some (ex,s')→Code.roundsIn (QB ro) nn P b1 Q n a1 w1:=by
    intro n
    induction n with
    |zero=>intro w1 R1 φ1 s1 a1 g hl;simp[Eb] at hl
    |succ n ihn=>
     intro w1 R1 φ1 s1 a1 g hl
     simp only[Eb] at hl
     rw[roundsIn_succ]
     rcases sg hl with⟨s2,k1,k2⟩ | ⟨k1,k2⟩
     ·simp only[fa] at k1
      rcases sg k1 with⟨s3,j1,j2⟩ | ⟨j1,j2⟩
      ·refine ih b1 ta hd hI ro nn hpl g.rel g.env (g.size.trans hn) j1 fun a' w' R' φ' g'=> ?_
       simp only[Hj,Option.some.injEq,Prod.mk.injEq,true_and] at j2
       subst j2
       exact ihn (OB live (g.trans g')) k2
      ·exact absurd rfl j2
     ·simp only[fa] at k1
      rcases sg k1 with⟨s3,j1,j2⟩ | ⟨j1,j2⟩
      ·simp only[Hj,Option.some.injEq,Prod.mk.injEq] at j2
       exact absurd j2.1.symm k2
      ·refine ih b1 ta hd hI ro nn hpl g.rel g.env (g.size.trans hn) j1 fun a' w' R' φ' g'=> ?_
       cases ex with
       |norm=>exact absurd rfl j2
       |exit id=>exact hq _ _ _ _ (g.trans g')
       |ret=>exact hq _ _ _ _ (g.trans g')
       |goto l=>exact hq _ _ _ _ (g.trans g')
   exact key wa g0 h
  |_=>simp[wc] at ta
 |goto l=>
  intro c ta hd hI ro nn hpl B0 w R φ s s' ex a Q hS hE hn h hq
  cases c with
  |goto l1=>
   simp only[wc,beq_iff_eq] at ta
   subst ta
   simp only[ga,Option.some.injEq,Prod.mk.injEq] at h
   obtain⟨rfl,rfl⟩:=h
   exact wpIn_goto (hq _ _ R φ (.refl hS hE))
  |_=>simp[wc] at ta
 |jumps l x y ihx ihy=>
  intro c ta hd hI ro nn hpl B0 w R φ s s' ex a Q hS hE hn h hq
  cases c with
  |scope c1=>
   simp only[wc,Bool.and_eq_true] at ta
   simp only[fe] at hd
   simp only[Gc] at hI
   obtain rfl:=hpl.resolve_right (by simp[Ia.plain])
   cases hfl:findLabel c1 l with
   |none=>rw[hfl] at ta;simp at ta
   |some rest=>
    rw[hfl] at ta hd
    simp only at ta hd
    have hd1:∀ d∈fe c1 x,Ga P d.1 d.2:=fun d h=>hd d (List.mem_append.2 (.inl h))
    have hd2:∀ d∈fe rest y,Ga P d.1 d.2:=fun d h=>hd d (List.mem_append.2 (.inr h))
    have hI1:∀ d∈Gc x,Vl P (fo d.1) d.2:=fun d h=>hI d (List.mem_append.2 (.inl h))
    have hI2:∀ d∈Gc y,Vl P (fo d.1) d.2:=fun d h=>hI d (List.mem_append.2 (.inr h))
    simp only[ga] at h
    cases hx:ga call x s with
    |none=>simp[hx,Xo] at h
    |some r=>
     obtain⟨ex1,s1⟩:=r
     have straight:(∀ k,ex1≠ .goto k)→ex1=ex→s1=s'→(Code.scope c1).wpIn (QB none) nn P Q a w:=by
      rintro hne rfl rfl
      refine wpIn_wide.2 (wp_scope_jumps l (fun _ _=>False) (fun _ _=>0) hfl (wpIn_wide.1 (ihx c1 ta.1 hd1 hI1 none nn (.inl rfl) hS hE hn hx fun a' w' R' φ' g=> ?_)) (fun _ _ h=>h.elim))
      have:=hq _ _ _ _ g
      cases ex1 with
      |goto k=>exact absurd rfl (hne k)
      |_=>exact this
     cases ex1 with
     |goto k=>
      simp only[hx,Xo] at h
      split at h
      ·rename_i hk
       subst hk
       cases hy:ga call y s1 with
       |none=>simp[hy,WA] at h
       |some r2=>
        obtain⟨ex2,s2⟩:=r2
        refine wpIn_wide.2 (wp_scope_jumps k (fun a1 w1=>∃ R1 φ1,Lj fo B0 w R φ s.H a w1 R1 φ1 s1 a1) (fun _ _=>0) hfl (wpIn_wide.1 (ihx c1 ta.1 hd1 hI1 none nn (.inl rfl) hS hE hn hx fun a' w' R' φ' g=>⟨rfl,R',φ',g⟩)) ?_)
        rintro a1 w1 ⟨R1,φ1,g⟩
        refine wpIn_wide.1 (ihy rest ta.2 hd2 hI2 none nn (.inl rfl) g.rel g.env (g.size.trans hn) hy fun a' w' R' φ' g'=> ?_)
        cases ex2 with
        |goto j=>simp[hy,WA] at h
        |norm=>simp only[hy,WA,Option.some.injEq,Prod.mk.injEq] at h;obtain⟨rfl,rfl⟩:=h;exact hq _ _ _ _ (g.trans g')
        |exit j=>simp only[hy,WA,Option.some.injEq,Prod.mk.injEq] at h;obtain⟨rfl,rfl⟩:=h;exact hq _ _ _ _ (g.trans g')
        |ret=>simp only[hy,WA,Option.some.injEq,Prod.mk.injEq] at h;obtain⟨rfl,rfl⟩:=h;exact hq _ _ _ _ (g.trans g')
      ·cases h
     |norm=>simp only[hx,Xo,Option.some.injEq,Prod.mk.injEq] at h;exact straight (by simp) h.1 h.2
     |exit j=>simp only[hx,Xo,Option.some.injEq,Prod.mk.injEq] at h;exact straight (by simp) h.1 h.2
     |ret=>simp only[hx,Xo,Option.some.injEq,Prod.mk.injEq] at h;exact straight (by simp) h.1 h.2
  |_=>simp[wc] at ta
 |exit id=>
  intro c ta hd hI ro nn hpl B0 w R φ s s' ex a Q hS hE hn h hq
  cases c with
  |exit id1=>
   simp only[wc,beq_iff_eq] at ta
   subst ta
   simp only[ga,Option.some.injEq,Prod.mk.injEq] at h
   obtain⟨rfl,rfl⟩:=h
   exact wpIn_exit (hq _ _ R φ (.refl hS hE))
  |_=>simp[wc] at ta
 |ret=>
  intro c ta hd hI ro nn hpl B0 w R φ s s' ex a Q hS hE hn h hq
  cases c with
  |ret=>
   simp only[ga,Option.some.injEq,Prod.mk.injEq] at h
   obtain⟨rfl,rfl⟩:=h
   exact wpIn_ret (hq _ _ R φ (.refl hS hE))
  |_=>simp[wc] at ta
 |ghost g b ih=>
  intro c ta hd hI ro nn hpl B0 w R φ s s' ex a Q hS hE hn h hq
  have hok':wc P fo nt c b=true:=by cases c <;> simpa[wc] using ta
  have hd':∀ d∈fe c b,Ga P d.1 d.2:=by cases c <;> simpa[fe] using hd
  simp only[ga] at h
  obtain⟨s0,h0,h⟩:=Rn h
  obtain⟨R',φ',g0⟩:=xL hS hE h0
  exact ih c hok' hd' hI ro nn hpl g0.rel g0.env hn h fun a' w' R'' φ'' g'=>hq _ _ _ _ (g0.trans g')
 |range ix F g ps asg b ih=>
  intro c ta hd hI ro nn hpl B0 w R φ s s' ex a Q hS hE hn h hq
  cases c with
  |rangeFunc g1 ps1 assign body=>
   obtain rfl:=hpl.resolve_right (by simp[Ia.plain])
   simp only[wc,Bool.and_eq_true,beq_iff_eq] at ta
   obtain⟨⟨⟨⟨⟨h1,h2⟩,h3⟩,h4⟩,h5⟩,h6⟩:=ta
   simp only[ga] at h
   refine qC (pre:=fun s=>some ⟨Gw asg s.env,s.H⟩) h1 h2 h3 (hI (ix,F) (by simp[Gc])) (fun l B0 w R φ s s1 a Q hS hE hn hp hq=> ?_) (fun l _ _ _ _ _ _ _ _ _ hS hE hn h hq=>ih body h5 hd (fun d hd'=>hI d (by simp[Gc,hd'])) (some l) 0 (.inr h6) hS hE hn h hq) hS hE hn h hq
   injection hp with hp
   subst hp
   exact mQ (fo:=fo) (k:=K R φ s.H) h4 hE hn fun a' hE' hn'=>hq a' w R φ hS hE' (fun _ _ h=>h) (Ve.refl _ _) hn'
  |_=>simp[wc] at ta
 |Du ix F g ps pre b ih=>
  intro c ta hd hI ro nn hpl B0 w R φ s s' ex a Q hS hE hn h hq
  cases c with
  |rangeFunc g1 ps1 assign body=>
   obtain rfl:=hpl.resolve_right (by simp[Ia.plain])
   simp only[wc,Bool.and_eq_true,beq_iff_eq] at ta
   obtain⟨⟨⟨⟨⟨h1,h2⟩,h3⟩,h4⟩,h5⟩,h6⟩:=ta
   simp only[ga] at h
   have hd2:∀ d∈fe body b,Ga P d.1 d.2:=fun d hd'=>hd d (by simp[fe,hd'])
   have hd1:∀ d∈GJ assign pre,Ga P d.1 d.2:=fun d hd'=>hd d (by simp[fe,hd'])
   refine qC (pre:=Pd call pre) h1 h2 h3 (hI (ix,F) (by simp[Gc])) (fun l B0 w R φ s s1 a Q hS hE hn hp hq=> ?_) (fun l _ _ _ _ _ _ _ _ _ hS hE hn h hq=>ih body h5 hd2 (fun d hd'=>hI d (by simp[Gc,hd'])) (some l) 0 (.inr h6) hS hE hn h hq) hS hE hn h hq
   cases assign with
   |region id ops draw=>
    cases draw with
    |true=>simp[bO] at h4
    |false=>exact Fz (some l) (PF (hc B0) h4 hd1) hS hE hn hp fun a' w' R' φ' g=>hq a' w' R' φ' g.rel g.env g.mono g.below (g.size.trans hn)
   |_=>simp[bO] at h4
  |_=>simp[wc] at ta
end
end Go.AM
set_option linter.unusedSimpArgs false
set_option linter.unusedVariables false
namespace Go.AM
open Go.RowKit
def As (P:Program):List ResultVar→List Gy→Bool
 | [],[]=>true
 | .tmp t::r,.tmp t'::r'=>t==t'&&As P r r'
 | .cell a ty::r,.cell t ag n::r'=>a==t&&Wi P ty==some ag&&(!ag||Oc P ty==some n)&&As P r r'
 |_,_=>false
def ZA (P:Program) (fo:Nat→FuncId) (g:Func) (af:re):Bool:=
 (match g.body with
 |some c=>wc P fo g.ntmps c af.body
 |none=>false)&&As P g.results.toList af.results&& !(g.name== "runtime.NumGoroutine")&&decide (af.np≤g.ntmps)
def Vy (g:Func) (af:re):List (FuncId×(List PV→Option PV)):=
 match g.body with
 |some c=>fe c af.body
 |none=>[]
def zc (P:Program) (fo:Nat→FuncId) (f:FuncId) (af:re):Prop:=
 ∃ g,P.funcs[f]? =some g∧ZA P fo g af=true∧(∀ d∈Vy g af,Ga P d.1 d.2)∧∀ d∈Gc af.body,Vl P (fo d.1) d.2
def Xh (P:Program) (fo:Nat→FuncId) (L:Nat→Option re):Prop:=∀ ix af,L ix=some af→zc P fo (fo ix) af
section
variable {P:Program} {fo:Nat→FuncId} {B0:se} {call:Fa}
theorem yI:∀ (args:List AV) (i t:Nat),(Hm i args).get t=(if i≤t then args[t - i]? else none).getD .undef:=by
 intro args
 induction args with
 |nil=>intro i t;simp[Hm,Tr.get]
 |cons v r ih=>
  intro i t
  simp only[Hm,Tr.ba,ih]
  by_cases h:t=i
  ·subst h;simp
  ·by_cases h2:i≤t
   ·rw[if_neg h,if_pos h2,if_pos (by omega)]
    have:t - i=(t - (i+1))+1:=by omega
    rw[this];simp
   ·rw[if_neg h,if_neg h2,if_neg (by omega)]
theorem UH {k:AV→Value→Prop} {args:List AV} {vs:List Value} (h:La fo k args vs) (n:Nat):og fo k (Hm 0 args) {tmps:=⟨vs⟩++Array.replicate n undef,defers:=[]}:=by
 intro t
 rw[yI]
 simp only[Nat.zero_le,if_true,Nat.sub_zero]
 cases ha:args[t]? with
 |none=>exact .undef _
 |some a=>
  obtain⟨v,hv,hr⟩:=h.get ha
  have hlt:=getElem?_lt hv
  rw[Array.getD_eq_getD_getElem?,Array.getElem?_append_left (by simpa using hlt)]
  simpa[hv] using hr
theorem bI {t:TypeId} {vx v:Value} {w w':World} (h:(Instr.loadAt t vx).run P w= .ok v w'):∃ a,vx= .pointer (some a):=by
 cases vx with
 |pointer a=>
  cases a with
  |none=>simp[Instr.loadAt,Instr.sureAddr] at h
  |some a=>exact⟨a,rfl⟩
 |_=>simp[Instr.loadAt,Instr.sureAddr] at h
def EK (tmps:Array Value):ResultVar→Sem Value
 | .tmp t=>pure (tmps.getD t undef)
 | .cell a t=>do loadVar t (← asAddr (tmps.getD a undef))
theorem VN (tmps:Array Value) (t:Tmp) (w:World):(EK tmps (.tmp t)).run P w= .ok (tmps.getD t undef) w:=by simp only[EK,Sem.run_pure]
theorem bR {w:World} {R:Rd} {φ:Pl} {s:St} {a:Act} (hS:Kb fo B0 w R φ s.H) (hE:og fo (K R φ s.H) s.env a):∀ {rs:List ResultVar} {ars:List Gy} {vs:List AV},As P rs ars=true→Va (Ey s) ars=some vs→
 ∃ us,(rs.mapM (EK a.tmps):Sem (List Value)).run P w= .ok us w∧La fo (K R φ s.H) vs us:=by
 intro rs
 induction rs with
 |nil=>
  intro ars vs ta h
  cases ars with
  |nil=>simp only[Va,Option.some.injEq] at h;subst h;exact⟨[],by simp,.nil⟩
  |cons _ _=>simp[As] at ta
 |cons r rs ih=>
  intro ars vs ta h
  cases ars with
  |nil=>cases r <;> simp[As] at ta
  |cons ar ars=>
   simp only[Va,Option.bind_eq_some_iff,Option.some.injEq] at h
   obtain⟨b,h1,bs,h2,rfl⟩:=h
   cases r with
   |tmp t=>
    cases ar with
    |tmp t'=>
     simp only[As,Bool.and_eq_true,beq_iff_eq] at ta
     obtain⟨rfl,ta⟩:=ta
     obtain⟨us,k1,k2⟩:=ih ta h2
     simp only[Ey,Option.some.injEq] at h1
     subst h1
     exact⟨_::us,by simp only[List.mapM_cons,Sem.run_bind,VN,Result.andThen_ok,k1,Sem.run_pure],.cons _ _ _ _ (hE t) k2⟩
    |cell _ _ _=>simp[As] at ta
   |cell x ty=>
    cases ar with
    |tmp t'=>simp[As] at ta
    |cell t ag n=>
     simp only[As,Bool.and_eq_true,beq_iff_eq,Bool.or_eq_true,Bool.not_eq_true'] at ta
     obtain⟨⟨⟨rfl,ha⟩,hn⟩,ta⟩:=ta
     obtain⟨us,k1,k2⟩:=ih ta h2
     simp only[Ey] at h1
     obtain⟨v,q1,q2⟩:=mG (P:=P) hS (hE x) ha (fun e=>by rcases hn with hn | hn;rw[e] at hn;cases hn;exact hn) h1
     obtain⟨ad,hv⟩:=bI q1
     rw[hv] at q1
     have q1':(loadVar ty ad).run P w= .ok v w:=by simpa[Instr.loadAt,Instr.sureAddr] using q1
     have q3:(EK a.tmps (.cell x ty)).run P w= .ok v w:=by simp only[EK,hv];simp[asAddr,q1']
     exact⟨v::us,by simp only[List.mapM_cons,Sem.run_bind,q3,Result.andThen_ok,k1,Sem.run_pure],.cons _ _ _ _ q2 k2⟩
theorem bG {g:Func} {f:re} {w:World} {R:Rd} {φ:Pl} {s:St} {a:Act} (hS:Kb fo B0 w R φ s.H) (hE:og fo (K R φ s.H) s.env a) (ta:As P g.results.toList f.results=true) {v:AV} (h:zH f s=some v):
 ∃ u,(results g a.tmps).run P w= .ok u w∧Yb fo (K R φ s.H) v u:=by
 simp only[zH,Option.map_eq_some_iff] at h
 obtain⟨vs,h1,rfl⟩:=h
 obtain⟨us,k1,k2⟩:=bR hS hE ta h1
 have hrun:(results g a.tmps).run P w= .ok (if h:us.length=1 then us[0] else .tuple ⟨us⟩) w:=by
  have:results g a.tmps=(do let vs ←g.results.mapM (EK a.tmps);pure (if h:vs.size=1 then vs[0] else .tuple vs)):=rfl
  rw[this,Array.mapM_eq_mapM_toList]
  simp only[Sem.run_bind,Sem.run_map,k1,Result.andThen_ok,Sem.run_pure]
  simp
 refine⟨_,hrun,?_⟩
 cases k2 with
 |nil=>exact YB .nil
 |cons x xs u us hx hxs=>
  cases hxs with
  |nil=>simpa[eB] using hx
  |cons y ys z zs hy hys=>
   have:eB (x::y::ys)=Ep (x::y::ys):=rfl
   rw[this]
   simpa using YB (.cons _ _ _ _ hx (.cons _ _ _ _ hy hys))
theorem zc.uA {f:FuncId} {af:re} (h:zc P fo f af):qp P f:=by
 obtain⟨g,h1,h2,_,_⟩:=h
 simp only[ZA,Bool.and_eq_true,Bool.not_eq_true'] at h2
 cases hb:g.body with
 |none=>simp[hb] at h2
 |some c=>exact⟨g,c,h1,hb,h2.1.2⟩
theorem CH {f:FuncId} {af:re} (hf:zc P fo f af) (hc:∀ B0:se,cn P fo B0 call) {args:List AV} {H H':List aa} {v:AV} {w:World} {R:Rd} {φ:Pl} {vs:List Value} (hS:Kb fo B0 w R φ H) (hl:La fo (K R φ H) args vs)
 (h:Hd call af args H=some (v,H')):Calls P f ⟨vs⟩ w (DQ fo B0 w R φ H v H'):=by
 obtain⟨g,h1,h2,h3,hI⟩:=hf
 simp only[ZA,Bool.and_eq_true,Bool.not_eq_true',decide_eq_true_eq] at h2
 obtain⟨⟨⟨h4,h5⟩,h6⟩,h7⟩:=h2
 cases hb:g.body with
 |none=>simp[hb] at h4
 |some c=>
  simp only[hb] at h4
  simp only[Vy,hb] at h3
  unfold Hd at h
  split at h
  ·rename_i hnp
   cases he:ga call af.body ⟨Hm 0 args,H⟩ with
   |none=>simp[he,lI] at h
   |some r=>
    obtain⟨ex,s⟩:=r
    refine (callsIn_wide (n:=0)).1 (callsIn_of_wp_marks h1 hb trivial ?_)
    have hlen:=hl.length
    refine RO hc af.body c h4 h3 hI none 0 (.inl rfl) (s:=⟨Hm 0 args,H⟩) hS (UH hl _) (by simp;omega) he fun a' w' R' φ' gg=> ?_
    have fin:∀ (v:AV),zH af s=some v→∀ (Ds:List Nat) (W:World),(∀ D∈Ds,w.heap.size≤D∧W.heap[D]? =some (.deferred (some [])))→Ds.Nodup→Kb fo B0 W R' φ' s.H→Ve B0 w W→
     LeavesInM Fence.wide 0 P g a'.tmps (DQ fo B0 w R φ H v s.H) (Ds.map mark) .returning W:=by
     intro v hv Ds
     induction Ds with
     |nil=>
      intro W _ _ hSW hBW
      obtain⟨u,k1,k2⟩:=bG hSW gg.env h5 hv
      exact⟨u,k1,u,R',φ',rfl,hSW,k2,gg.mono,hBW⟩
     |cons D Ds ih=>
      intro W hD hnd hSW hBW
      obtain⟨hge,hWD⟩:=hD D (by simp)
      have hnd':=List.nodup_cons.1 hnd
      refine⟨by simp,.inl ⟨D,_,rfl,run_takeDeferred hWD,ih _ (fun E hE=> ?_) hnd'.2 (hSW.UP hWD rfl _) (hBW.put hS.low hS.slt hge _)⟩⟩
      obtain⟨q1,q2⟩:=hD E (by simp[hE])
      exact⟨q1,(World.putObj_heap_other (show E≠D from fun e=>hnd'.1 (by rw[← e];exact hE))).trans q2⟩
    have done:(zH af s).map (fun v=>(v,s.H))=some (v,H')→LeavesInM Fence.wide 0 P g a'.tmps (DQ fo B0 w R φ H v H') a'.defers .returning w':=by
     intro hr
     simp only[Option.map_eq_some_iff,Prod.mk.injEq] at hr
     obtain⟨v1,hv1,rfl,rfl⟩:=hr
     obtain⟨Ds,e1,e2,e3⟩:=gg.defers
     rw[e1,show ∀ l:List Deferred,l++[]=l from List.append_nil]
     exact fin _ hv1 Ds w' e3 e2 gg.rel gg.below
    cases ex with
    |norm=>exact done (by simpa[he,lI] using h)
    |ret=>exact done (by simpa[he,lI] using h)
    |exit id=>simp[he,lI] at h
    |goto l=>simp[he,lI] at h
  ·cases h
theorem TO {L:Nat→Option re} (hL:Xh P fo L):∀ (d:Nat) (B0:se),cn P fo B0 (za L d):=by
 intro d
 induction d with
 |zero=>intro B0 ix args H v H' w R φ vs hS hl h;simp[za] at h
 |succ d ih=>
  intro B0 ix args H v H' w R φ vs hS hl h
  simp only[za,Option.bind_eq_some_iff] at h
  obtain⟨af,h1,h2⟩:=h
  have hf:=hL ix af h1
  exact⟨hf.uA,CH hf ih hS hl h2⟩
theorem IC {call:Fa} (hc:∀ B0:se,cn P fo B0 call) {f:FuncId} {af:re} (hf:zc P fo f af):Ga P f fun args=>(Hd call af (args.map .pv) []).bind fun r=>Ab r.2 deep r.1:=by
 refine⟨hf.uA,fun w R args vs r hR hl h=> ?_⟩
 simp only[Option.bind_eq_some_iff] at h
 obtain⟨⟨v,H'⟩,h1,h2⟩:=h
 have hS:Kb fo {n:=w.heap.size,R:=R} w R (fun _=>(0,0)) []:=
  ⟨Nat.le_refl _,hR,fun id o h=>by simp at h,fun i j hi=>by obtain⟨o,ho,_⟩:=hi;simp at ho,fun _ _ _=>rfl,fun _ h=>h.elim,fun _ _ h=>h⟩
 refine Calls.mono (CH hf hc hS (La.ey hl) h1) ?_
 rintro e w' ⟨u,R',φ',rfl,k1,k2,k3,k4⟩
 have hQ:Sub R' (fun b o=>if b < w.heap.size then R b o else w'.cell? ⟨b,o,none⟩):=by
  intro b o x hx
  (try dsimp only)
  split
  ·rename_i hlt;rw[← hx];exact (k1.ml b o hlt).symm
  ·exact k1.sub b o x hx
 have k5:=qG k1 hQ (fun b o x hb hx=>by
  have hb:w.heap.size≤b:=hb
  (try dsimp only)
  rw[if_neg (by omega)];exact hx) deep k2 h2
 refine⟨u,_,rfl,k4.toBelow,k5,fun b o hlt=>if_pos hlt,fun b o x hx=> ?_⟩
 split at hx
 ·rename_i hlt
  rw[Ud (k4.block b hlt)];exact hR b o x hx
 ·exact hx
theorem Na {L:Nat→Option re} (hL:Xh P fo L) {f:FuncId} {af:re} (hf:zc P fo f af):Ga P f (fc L af):=IC (TO hL 8) hf
end
theorem fM {P:Program} {fo:Nat→FuncId} {i:FuncId} {g:Func} {af:re} {l:List (FuncId×(List PV→Option PV))} (h:P.funcs[i]? =some g) (hp:∀ d∈l,Ga P d.1 d.2) (ok:ZA P fo g af=true:=by kernel_rfl) (du:Vy g af=l:=by kernel_rfl) (di:Gc af.body=[]:=by rfl):zc P fo i af:=
 ⟨g,h,ok,by rw[du];exact hp,by rw[di];exact fun _ h=>by cases h⟩
theorem gU {P:Program} {fo:Nat→FuncId} {i:FuncId} {g:Func} {af:re} {l:List (FuncId×(List PV→Option PV))} (h:P.funcs[i]? =some g) (hp:∀ d∈l,Ga P d.1 d.2) (hi:∀ d∈Gc af.body,Vl P (fo d.1) d.2) (ok:ZA P fo g af=true:=by kernel_rfl) (du:Vy g af=l:=by kernel_rfl):zc P fo i af:=
 ⟨g,h,ok,by rw[du];exact hp,hi⟩
theorem dN {P:Program}:∀ d∈([]:List (FuncId×(List PV→Option PV))),Ga P d.1 d.2:=fun _ h=>by cases h
theorem dC {P:Program} {a:FuncId} {F:List PV→Option PV} {l:List (FuncId×(List PV→Option PV))} (h:Ga P a F) (r:∀ d∈l,Ga P d.1 d.2):∀ d∈(a,F)::l,Ga P d.1 d.2:=List.forall_mem_cons.2 ⟨h,r⟩
abbrev Cv (d n:Nat):Oa:=⟨some d,.move (.t n),none,false⟩
abbrev Co (d:Nat) (op:Ec):Oa:=⟨some d,op,none,false⟩
abbrev Cp (d:Nat) (op:Ec):Oa:=⟨some d,op,none,true⟩
abbrev Cg (d t:Nat) (b:Bool) (op:Ec):Oa:=⟨some d,op,some (t,b),false⟩
abbrev Cq (d t:Nat) (b:Bool) (op:Ec):Oa:=⟨some d,op,some (t,b),true⟩
abbrev Ce (op:Ec):Oa:=⟨none,op,none,false⟩
abbrev Ec.kl (n x:Nat):Ec:= .load false n (.t x)
abbrev Ec.kL (n x:Nat):Ec:= .load true n (.t x)
abbrev Ec.kf (o x:Nat):Ec:= .az o (.t x)
abbrev Ec.ki (n x i:Nat):Ec:= .mg n (.t x) (.t i)
abbrev Ec.kj (n x:Nat) (i:Int):Ec:= .mg n (.t x) (.c (.int .i64 i))
abbrev Ec.kn (k x:Nat):Ec:= .len k (.t x)
abbrev Ec.kx (i x:Nat):Ec:= .ext i (.t x)
abbrev Ec.ks (n a v:Nat):Ec:= .store n (.t a) (.t v)
abbrev Ec.km (x:Nat):Ec:= .move (.t x)
abbrev Ec.kk (n:Int):Ec:= .move (.c (.int .i64 n))
abbrev Ec.kb (b:Bool):Ec:= .move (.c (.bool b))
abbrev Ec.kc (p:PV):Ec:= .move (.c p)
abbrev Ec.kB (o:BinOp) (x y:Nat):Ec:= .bin o (.t x) (.t y)
abbrev Ec.kK (o:BinOp) (x:Nat) (n:Int):Ec:= .bin o (.t x) (.c (.int .i64 n))
abbrev Ec.ko (x y:Nat):Ec:= .pick (.t x) (.c (.bool true)) (.t y)
abbrev Ec.ka (x y:Nat):Ec:= .pick (.t x) (.t y) (.c (.bool false))
abbrev Ec.kz (x:Nat):Ec:= .KA (.t x)
abbrev Ec.kt (x:Nat):Ec:= .un .not (.t x)
abbrev Ec.kR (n x:Nat):Ec:= .ZH n (.t x)
abbrev Ec.kp (F:List PV→Option PV) (x:Nat):Ec:= .Gj F [.t x]
abbrev Ec.kq (F:List PV→Option PV) (x y:Nat):Ec:= .Gj F [.t x,.t y]
abbrev Ec.kr (F:List PV→Option PV) (x y z:Nat):Ec:= .Gj F [.t x,.t y,.t z]
abbrev Ec.ku (n:Nat) (a:Bool) (b s x:Nat):Ec:= .append false .uq n a b (.t s) (.t x)
abbrev Ec.kA (m n x i:Nat):Ec:= .xu m n (.t x) (.t i)
abbrev Ec.kE (k:Nat) (b:Bool) (x:Nat):Ec:= .eq k b (.t x) (.c .yd)
abbrev jl (d:Nat) (n x:Nat):Oa:=Co d (.kl n x)
abbrev Jl (d:Nat) (n x:Nat):Oa:=Cp d (.kl n x)
abbrev jL (d:Nat) (n x:Nat):Oa:=Co d (.kL n x)
abbrev JL (d:Nat) (n x:Nat):Oa:=Cp d (.kL n x)
abbrev jf (d:Nat) (n x:Nat):Oa:=Co d (.kf n x)
abbrev Jf (d:Nat) (n x:Nat):Oa:=Cp d (.kf n x)
abbrev ji (d:Nat) (n x y:Nat):Oa:=Co d (.ki n x y)
abbrev Ji (d:Nat) (n x y:Nat):Oa:=Cp d (.ki n x y)
abbrev jn (d:Nat) (k x:Nat):Oa:=Co d (.kn k x)
abbrev jx (d:Nat) (i x:Nat):Oa:=Co d (.kx i x)
abbrev jk (d:Nat) (n:Int):Oa:=Co d (.kk n)
abbrev jb (d:Nat) (b:Bool):Oa:=Co d (.kb b)
abbrev jc (d:Nat) (p:PV):Oa:=Co d (.kc p)
abbrev jB (d:Nat) (o:BinOp) (x y:Nat):Oa:=Co d (.kB o x y)
abbrev jK (d:Nat) (o:BinOp) (x:Nat) (n:Int):Oa:=Co d (.kK o x n)
abbrev jo (d:Nat) (x y:Nat):Oa:=Co d (.ko x y)
abbrev ja (d:Nat) (x y:Nat):Oa:=Co d (.ka x y)
abbrev jz (d:Nat) (x:Nat):Oa:=Co d (.kz x)
abbrev jt (d:Nat) (x:Nat):Oa:=Co d (.kt x)
abbrev jR (d:Nat) (n x:Nat):Oa:=Co d (.kR n x)
abbrev jp (d:Nat) (F:List PV→Option PV) (x:Nat):Oa:=Co d (.kp F x)
abbrev jq (d:Nat) (F:List PV→Option PV) (x y:Nat):Oa:=Co d (.kq F x y)
abbrev jS (n a v:Nat):Oa:=Ce (.ks n a v)
abbrev jT (d t:Nat) (op:Ec):Oa:=Cg d t true op
abbrev jF (d t:Nat) (op:Ec):Oa:=Cg d t false op
abbrev JT (d t:Nat) (op:Ec):Oa:=Cq d t true op
abbrev JF (d t:Nat) (op:Ec):Oa:=Cq d t false op
abbrev jQ (l:List Oa) (c:Ia):Ia:= .seq (.region l) c
abbrev jr (l:List Oa):Ia:= .seq (.region l) .ret
abbrev jX (t k:Nat):Ia:= .cond (.t t) .skip (.exit k)
abbrev jC (t:Nat) (a b:Ia):Ia:= .cond (.t t) a b
end Go.AM
set_option linter.unusedSimpArgs false
set_option linter.unusedVariables false
namespace Go.AM
section
variable {call:Fa}
theorem uH (f:St→Option St) (s:St):On f (some s)=f s:=rfl
theorem IM (f:St→Option (Ex×St)) (s:St):Tt f (some (.norm,s))=f s:=rfl
theorem yN (f:St→Option (Ex×St)) (s:St):Tt f (some (.ret,s))=some (.ret,s):=rfl
theorem wK (f:St→Option (Ex×St)) (n:Nat) (s:St):Tt f (some (.exit n,s))=some (.exit n,s):=rfl
theorem eI (s:St):Hj (some s)=some (.norm,s):=rfl
theorem dR (f g:St→Option (Ex×St)) (s:St):br f g s (some true)=f s:=rfl
theorem NQ (f g:St→Option (Ex×St)) (s:St):br f g s (some false)=g s:=rfl
theorem UL (f:St→Option (Ex×St)) (s:St):Jk f (some s)=f s:=rfl
theorem GG (n:Nat) (s:St):vj n (some (.norm,s))=some (.norm,s):=rfl
theorem PI (n:Nat) (s:St):vj n (some (.ret,s))=some (.ret,s):=rfl
theorem TG (n m:Nat) (s:St):vj n (some (.exit m,s))=if m=n then some (.norm,s) else some (.exit m,s):=rfl
theorem gR (d:Nat) (e:Tr) (v:AV) (H:List aa):Yw (some d) e (some (v,H))=some ⟨e.set d v,H⟩:=rfl
theorem rP (e:Tr) (v:AV) (H:List aa):Yw none e (some (v,H))=some ⟨e,H⟩:=rfl
theorem eS (s:St):ga call .skip s=some (.norm,s):=rfl
theorem ON (ops:List Oa) (s:St):ga call (.region ops) s=Hj (Pd call ops s):=rfl
theorem iT (a b:Ia) (s:St):ga call (.seq a b) s=Tt (ga call b) (ga call a s):=rfl
theorem cS (c:AO) (a b:Ia) (s:St):ga call (.cond c a b) s=br (ga call a) (ga call b) s (asBool (c.ev s.env)):=rfl
theorem ZP (n:Nat) (b:Ia) (s:St):ga call (.block n b) s=vj n (ga call b s):=rfl
theorem JP (b:Ia) (s:St):ga call (.scope b) s=ga call b s:=rfl
theorem Tc (live:List Nat) (b:Ia) (s:St):ga call (.loop live b) s=Jk (Eb (fa (ga call b) (xa s.H.length live)) wa) (xa s.H.length live s):=rfl
theorem Gn (live:List Nat) (b:Ia) (s:St):ga call (.Ll live b) s=Eb (fa (ga call b) (fun s=>some (tidy live s))) wa (tidy live s):=rfl
theorem wS (n:Nat) (s:St):ga call (.exit n) s=some (.exit n,s):=rfl
theorem SS (s:St):ga call .ret s=some (.ret,s):=rfl
theorem Ry (g:gJ) (c:Ia) (s:St):ga call (.ghost g c) s=Jk (ga call c) (ff g s):=rfl
theorem kQ (ix:Nat) (F:List PV→Option (List (List PV))) (g:AO) (ps:List Nat) (asg:List (Nat×Nat)) (b:Ia) (s:St):ga call (.range ix F g ps asg b) s=Ms (fun e H=>ga call b ⟨e,H⟩) ps asg s (dt ix F ps.length (g.ev s.env)):=rfl
theorem cQ (s:St):Pd call [] s=some s:=rfl
theorem gN (o:Oa) (r:List Oa) (s:St):Pd call (o::r) s=On (Pd call r) (Nc call o s):=rfl
theorem CP (d:Option Nat) (op:Ec) (e:Tr) (H:List aa):Nc call ⟨d,op,none,false⟩ ⟨e,H⟩=Yw d e (da call e H op):=rfl
theorem eR (d:Option Nat) (op:Ec) (e:Tr) (H:List aa):Nc call ⟨d,op,none,true⟩ ⟨e,H⟩=Yw d e (AR H (da call e [] op)):=rfl
theorem LP (d:Option Nat) (op:Ec) (t:Nat) (b p:Bool) (e:Tr) (H:List aa):Nc call ⟨d,op,some (t,b),p⟩ ⟨e,H⟩=Uj (CI call ⟨d,op,some (t,b),p⟩) (zu ⟨d,op,some (t,b),p⟩) ⟨e,H⟩ (Se e (some (t,b))):=rfl
theorem iQ (f g:St→Option St) (s:St):Uj f g s (some true)=f s:=rfl
theorem oR (f g:St→Option St) (s:St):Uj f g s (some false)=g s:=rfl
theorem WS (d:Option Nat) (op:Ec) (g:Option (Nat×Bool)) (e:Tr) (H:List aa):CI call ⟨d,op,g,false⟩ ⟨e,H⟩=Yw d e (da call e H op):=rfl
theorem OS (d:Option Nat) (op:Ec) (g:Option (Nat×Bool)) (e:Tr) (H:List aa):CI call ⟨d,op,g,true⟩ ⟨e,H⟩=Yw d e (AR H (da call e [] op)):=rfl
theorem PQ (d:Nat) (op:Ec) (g:Option (Nat×Bool)) (p:Bool) (e:Tr) (H:List aa):zu ⟨some d,op,g,p⟩ ⟨e,H⟩=some ⟨e.set d (.pv (.bc [])),H⟩:=rfl
theorem oQ (op:Ec) (g:Option (Nat×Bool)) (p:Bool) (e:Tr) (H:List aa):zu ⟨none,op,g,p⟩ ⟨e,H⟩=some ⟨e,H⟩:=rfl
theorem zS (H:List aa) (v:AV):AR H (some (v,[]))=some (v,H):=rfl
end
def QP (rs:List Gy) (r:Option (Ex×St)):Option (AV×List aa):=lI ⟨0,rs,.skip⟩ r
theorem sx (rs:List Gy) (s:St):QP rs (some (.norm,s))=(Va (Ey s) rs).bind fun vs=>some (eB vs,s.H):=by
 show (zH _ s).map _=_
 simp only[zH]
 cases Va (Ey s) rs <;> rfl
theorem DF (rs:List Gy) (s:St):QP rs (some (.ret,s))=(Va (Ey s) rs).bind fun vs=>some (eB vs,s.H):=sx rs s
theorem tR {call:Fa} (np:Nat) (rs:List Gy) (body:Ia) (args:List AV) (H:List aa):Hd call ⟨np,rs,body⟩ args H=if args.length=np then QP rs (ga call body ⟨Hm 0 args,H⟩) else none:=rfl
theorem xT:(true==true)=true:=rfl
theorem wT:(true==false)=false:=rfl
theorem yT:(false==true)=false:=rfl
theorem NT:(false==false)=true:=rfl
theorem rI (L:Nat→Option re) (d ix:Nat) (args:List AV) (H:List aa):za L (d+1) ix args H=(L ix).bind fun f=>Hd (za L d) f args H:=rfl
theorem Wd (L:Nat→Option re) (d ix:Nat) (args:List AV) (H:List aa) {f:re} (h:L ix=some f):za L (d+1) ix args H=Hd (za L d) f args H:=by simp[za,h]
theorem tK (H:List aa):Mc H 0 (.pv .qa)=some 0:=rfl
theorem sN (H:List aa) (sz:Nat) (es:List PV):Mc H 0 (.pv (.lit sz es))=some es.length:=rfl
theorem cE (H:List aa) (id sz:Nat) (nl:Bool) (es:List PV):Mc H 0 (.uq id nl sz es)=some es.length:=rfl
theorem pN (H:List aa) (x:ByteArray):Mc H 1 (.pv (.str x))=some x.size:=rfl
theorem XK (H:List aa):Mc H 2 (.pv .pq)=some 0:=rfl
theorem uv (H:List aa) (id len:Nat):Mc H 0 (.own id len)=match H[id]? with
 |some (.seq sz _ cells fl _)=>(if (Dg sz len fl cells.length) then (some len) else none)
 |_=>none:=rfl
theorem BQ (H:List aa) (id:Nat):Mc H 2 (.mp id)=match H[id]? with
 |some (.map es)=>some es.length
 |_=>none:=rfl
end Go.AM
set_option linter.unusedSimpArgs false
set_option linter.unusedVariables false
namespace Go.AM
open Go.RowKit
theorem WK {P:Program} {f:FuncId} {F:List PV→Option PV} (h:Ga P f F) {w:World} {args:List PV} {vs:List Value} (hl:xd (Rw w) args vs) (hr:F args=some (.bool true)):
 Calls P f ⟨vs⟩ w fun e w'=>e= .returned (.bool true)∧Below w.heap.size w w':=by
 refine Calls.mono (h.2 w (Rw w) args vs _ (fun _ _ _ h=>h) hl hr) ?_
 rintro e w' ⟨v,R',rfl,hb,hv,_⟩
 cases hv
 exact⟨rfl,hb⟩
end Go.AM
set_option linter.unusedSimpArgs false
set_option linter.unusedVariables false
namespace Go.AM
open Go.RowKit
def mq (P:Program) (t:TypeId):Bool:=
 match P.underlying t with
 |some (.struct _) | some (.array _ _)=>true
 |_=>false
def Zt (P:Program) (e:TypeId) (row:List PV):PV:=if mq P e then .agg row else row.headD .yd
def rowOf (P:Program) {H:Type}:Nat→TypeId→DataW H→List PV
 |0,_,_=>[]
 |f+1,t,d=>
  match P.underlying t,d with
  |some .bool,.lit (.bool b)=>[.bool b]
  |some (.int k),.lit (.int _ n)=>[.int k n]
  |some .string,.lit (.string l)=>[.str ⟨l.toArray⟩]
  |some (.pointer _),.nil=>[.yd]
  |some (.pointer e),.ptr d=>[.rp (rowOf P f e d) 0]
  |some (.slice _),.nil=>[.qa]
  |some (.slice e),.slice es _=>[.lit (P.cellsOf e) (es.map fun d=>Zt P e (rowOf P f e d))]
  |some (.struct fs),.agg ds=>((fs.toList.zip ds).map fun p=>rowOf P f p.1.type p.2).flatten
  |some (.array _ e),.agg ds=>(ds.map (rowOf P f e)).flatten
  |_,_=>[]
def cF (P:Program):Nat→List Field→Option Nat
 |o,[]=>some o
 |o,f::r=>if f.offset=o then cF P (o+P.cellsOf f.type) r else none
def vI (P:Program):Nat→TypeId→Bool
 |0,_=>false
 |f+1,t=>
  match P.underlying t with
  |some .bool | some (.int _) | some .string=>P.cellsOf t==1
  |some (.pointer e) | some (.slice e)=>P.cellsOf t==1&&decide (0 < P.cellsOf e)&&vI P f e
  |some (.struct fs)=>cF P 0 fs.toList==some (P.cellsOf t)&&fs.toList.all fun fd=>vI P f fd.type
  |some (.array n e)=>P.cellsOf t==n * P.cellsOf e&&vI P f e
  |_=>false
section
variable {P:Program} {H:Type} {enc:TypeId×Value→H} {w:World} {base:Nat} {sp:Nat→Bool} {held:Bool}
structure pC (P:Program) (w:World) (t:TypeId) (row:List PV) (cs:List Value):Prop where
 rel:xd (Rw w) row cs
 one:∀ p∈row,tB p=true
 len:row.length=P.cellsOf t
theorem mapM_some {α β:Type} {f:α→Option β}:∀ {l:List α} {r:List β},l.mapM f=some r→r.length=l.length∧∀ (i:Nat) (x:α),l[i]? =some x→∃ y,r[i]? =some y∧f x=some y:=by
 intro l
 induction l with
 |nil=>intro r h;simp at h;subst h;exact⟨rfl,fun i x h=>by simp at h⟩
 |cons a l ih=>
  intro r h
  simp only[List.mapM_cons,Option.bind_eq_bind,Option.bind_eq_some_iff,Option.pure_def,Option.some.injEq] at h
  obtain⟨b,h1,bs,h2,rfl⟩:=h
  obtain⟨k1,k2⟩:=ih h2
  refine⟨by simp[k1],fun i x hx=> ?_⟩
  cases i with
  |zero=>simp at hx;subst hx;exact⟨b,rfl,h1⟩
  |succ i=>simpa using k2 i x (by simpa using hx)
theorem xd.app {R:Rd} {ps qs:List PV} {vs us:List Value} (h:xd R ps vs) (h':xd R qs us):xd R (ps++qs) (vs++us):=xd.append h h'
theorem zI {a:Addr} {n:Nat} {cs:List Value} (h:w.cells? base a n=some cs):cs.length=n∧∀ (i:Nat) (v:Value),cs[i]? =some v→w.cell? (a.add i)=some v:=by
 unfold World.cells? at h
 split at h
 ·obtain⟨h1,h2⟩:=mapM_some h
  rw[List.length_range] at h1
  refine⟨h1,fun i v hv=> ?_⟩
  have hlt:=getElem?_lt hv
  obtain⟨y,hy1,hy2⟩:=h2 i i (by rw[List.getElem?_range (by omega)])
  rw[hv] at hy1;injection hy1 with hy1;subst hy1;exact hy2
 ·cases h
theorem mC {a:Addr} {v:Value} (h:w.cell? a=some v):a.spot=none:=by
 unfold World.cell? at h
 split at h
 ·split at h
  ·cases h
  ·rename_i hs;cases ha:a.spot with
   |none=>rfl
   |some s=>simp[ha] at hs
 ·cases h
theorem MP {a:Addr} {i:Nat} {v:Value} (h:w.cell? (a.add i)=some v):w.cell? ⟨a.block,a.off+i,none⟩=some v:=by
 have hs:=mC h
 obtain⟨b,o,s⟩:=a
 unfold Addr.add at h hs
 split at h
 ·rename_i h0;subst h0
  rw[if_pos rfl] at hs
  simp only at hs
  subst hs
  simpa using h
 ·exact h
theorem we.flat {R:Rd} {b sz:Nat}:∀ {es:List PV} {o:Nat},(∀ e∈es,e.cells.length=sz)→(∀ (i:Nat) (e:PV),es[i]? =some e→we R e.cells b (o+i * sz))→we R (AM.flat es) b o:=by
 intro es
 induction es with
 |nil=>intro o _ _;exact .nil _ _
 |cons e es ih=>
  intro o hl h
  have h0:=h 0 e rfl
  simp only[Nat.zero_mul,Nat.add_zero] at h0
  refine we.append h0 ?_
  rw[hl e (by simp)]
  refine ih (fun x hx=>hl x (by simp[hx])) fun i x hx=> ?_
  have:=h (i+1) x (by simpa using hx)
  rw[Nat.add_mul,Nat.one_mul] at this
  rw[show o+sz+i * sz=o+(i * sz+sz) from by omega]
  exact this
theorem SO {e:TypeId} {row:List PV} {cs:List Value} (h:pC P w e row cs) (hs:mq P e=true∨P.cellsOf e=1):(Zt P e row).cells=row:=by
 unfold Zt
 split
 ·rfl
 ·rename_i hn
  have hc:=hs.resolve_left hn
  have hlen:=h.len
  rw[hc] at hlen
  match row,hlen with
  | [p],_=>exact bz (h.one p (by simp))
theorem QR {e:TypeId} {row:List PV} {cs:List Value} {a:Addr} (h:pC P w e row cs) (hc:∀ (i:Nat) (v:Value),cs[i]? =some v→w.cell? (a.add i)=some v):we (Rw w) row a.block a.off:=
 we.yk h.rel (fun v hv=>by
  obtain⟨i,hi⟩:=List.mem_iff_getElem?.1 hv
  have hlt:=getElem?_lt hi
  have hl:=h.rel.length
  have hp:row[i]? =some (row[i]'(by omega)):=List.getElem?_eq_getElem _
  obtain⟨u,hu,hr⟩:=h.rel.get hp
  rw[hi] at hu;injection hu with hu;subst hu
  exact hr.one (h.one _ (List.getElem_mem _))) fun i v hv=>MP (hc i v hv)
theorem pJ {g:Nat} {t:TypeId} (h:vI P g t=true):mq P t=true∨P.cellsOf t=1:=by
 cases g with
 |zero=>simp[vI] at h
 |succ g=>
  simp only[vI] at h
  unfold mq
  split at h <;> simp_all
theorem gM {R:Rd}:∀ (fs:List Field) (o:Nat) (cs:List Value) (rows:List (List PV)),cF P o fs=some cs.length→rows.length=fs.length→
 (∀ (i:Nat) (f:Field) (r:List PV),fs[i]? =some f→rows[i]? =some r→xd R r ((cs.drop f.offset).take (P.cellsOf f.type))∧r.length=P.cellsOf f.type)→xd R rows.flatten (cs.drop o):=by
 intro fs
 induction fs with
 |nil=>
  intro o cs rows h hl _
  simp only[cF,Option.some.injEq] at h
  subst h
  have:rows=[]:=List.eq_nil_of_length_eq_zero (by simpa using hl)
  subst this
  simpa using xd.nil
 |cons f fs ih=>
  intro o cs rows h hl hr
  cases rows with
  |nil=>simp at hl
  |cons r rows=>
   simp only[cF] at h
   split at h
   ·rename_i ho
    obtain⟨h1,h2⟩:=hr 0 f r rfl rfl
    rw[ho] at h1
    have h3:=ih (o+P.cellsOf f.type) cs rows h (by simpa using hl) fun i g q hg hq=>hr (i+1) g q (by simpa using hg) (by simpa using hq)
    have:cs.drop o=(cs.drop o).take (P.cellsOf f.type)++cs.drop (o+P.cellsOf f.type):=by
     rw[← List.drop_drop,List.take_append_drop]
    rw[this,List.flatten_cons]
    exact xd.app h1 h3
   ·cases h
theorem TN {R:Rd} {sz:Nat}:∀ (n:Nat) (cs:List Value) (rows:List (List PV)),cs.length=n * sz→rows.length=n→
 (∀ (i:Nat) (r:List PV),rows[i]? =some r→xd R r ((cs.drop (i * sz)).take sz))→xd R rows.flatten cs:=by
 intro n
 induction n with
 |zero=>
  intro cs rows h hl _
  have:rows=[]:=List.eq_nil_of_length_eq_zero hl
  subst this
  have:cs=[]:=List.eq_nil_of_length_eq_zero (by simpa using h)
  subst this
  exact .nil
 |succ n ih=>
  intro cs rows h hl hr
  cases rows with
  |nil=>simp at hl
  |cons r rows=>
   have h1:=hr 0 r rfl
   simp only[Nat.zero_mul,List.drop_zero] at h1
   have h3:=ih (cs.drop sz) rows (by rw[List.length_drop,h,Nat.add_mul];omega) (by simpa using hl) fun i q hq=>by
    have:=hr (i+1) q (by simpa using hq)
    rw[List.drop_drop]
    rw[Nat.add_mul,Nat.one_mul] at this
    rw[show sz+i * sz=i * sz+sz from by omega]
    exact this
   rw[← List.take_append_drop sz cs,List.flatten_cons]
   exact xd.app h1 h3
theorem zP:∀ (g:Nat) (t:TypeId) (fuel:Nat) (cs:List Value) (x:DataW H×List MemPlace),vI P g t=true→DataW.trod enc P w base (fun _=>true) held fuel t cs=some x→pC P w t (rowOf P g t x.1) cs:=by
 intro g
 induction g with
 |zero=>intro t fuel cs x h;simp[vI] at h
 |succ g ih=>
  intro t fuel cs x ta h
  simp only[vI] at ta
  have elem:∀ {e:TypeId} {n:Nat} {a:Addr} {y:DataW H×List MemPlace},vI P g e=true→(w.cells? base a (P.cellsOf e)).bind (DataW.trod enc P w base (fun _=>true) held n e)=some y→
   we (Rw w) (rowOf P g e y.1) a.block a.off∧(rowOf P g e y.1).length=P.cellsOf e∧(Zt P e (rowOf P g e y.1)).cells=rowOf P g e y.1∧(0 < P.cellsOf e→a.spot=none):=by
   intro e n a y he hy
   simp only[Option.bind_eq_some_iff] at hy
   obtain⟨ecs,h1,h2⟩:=hy
   obtain⟨k1,k2⟩:=zI h1
   have hr:=ih e n ecs y he h2
   refine⟨QR hr k2,hr.len,SO hr (pJ he),fun hpos=> ?_⟩
   have hv:ecs[0]? =some (ecs[0]'(by omega)):=List.getElem?_eq_getElem _
   have:=mC (k2 0 _ hv)
   simpa[Addr.add] using this
  have atom:∀ {p:PV} {v:Value},tB p=true→Ea (Rw w) p v→P.cellsOf t=1→pC P w t [p] [v]:=fun h1 h2 h3=>
   ⟨.cons _ _ _ _ h2 .nil,by simpa using h1,by simp[h3]⟩
  cases hu:P.underlying t with
  |none=>simp[hu] at ta
  |some td=>
   simp only[hu] at ta
   cases td with
   |bool=>
    obtain⟨b,rfl,rfl⟩:=DataW.trod_bool hu h
    simp only[rowOf,hu]
    exact atom rfl (.bool _) (by simpa using ta)
   |int k=>
    obtain⟨n,rfl,rfl,_⟩:=DataW.trod_int hu h
    simp only[rowOf,hu]
    exact atom rfl (.int _ _) (by simpa using ta)
   |string=>
    obtain⟨s,rfl,rfl,_⟩:=DataW.trod_string hu h
    simp only[rowOf,hu]
    obtain⟨⟨l⟩⟩:=s
    exact atom rfl (.str _) (by simpa using ta)
   |pointer e=>
    simp only[Bool.and_eq_true,beq_iff_eq,decide_eq_true_eq] at ta
    obtain⟨⟨hc,hpos⟩,he⟩:=ta
    rcases DataW.trod_pointer hu h with⟨rfl,rfl⟩ | ⟨a,ecs,y,n,rfl,rfl,rfl,h1,h2⟩
    ·simp only[rowOf,hu]
     exact atom rfl .yd hc
    ·simp only[rowOf,hu]
     obtain⟨k1,k2,k3,k4⟩:=elem he (n:=n) (a:=a) (y:=y) (by rw[h1];exact h2)
     have hs:=k4 hpos
     obtain⟨b,o,s⟩:=a
     simp only at hs
     subst hs
     refine atom rfl ?_ hc
     have:=Ea.rp (R:=Rw w) _ 0 b o k1
     simpa using this
   |slice e=>
    simp only[Bool.and_eq_true,beq_iff_eq,decide_eq_true_eq] at ta
    obtain⟨⟨hc,hpos⟩,he⟩:=ta
    rcases DataW.trod_slice hu h with⟨rfl,rfl⟩ | ⟨a,len,cap,els,rest,n,rfl,rfl,rfl,_,hlc,_,hlen,hel,hsp,_⟩
    ·simp only[rowOf,hu]
     exact atom rfl .qa hc
    ·simp only[rowOf,hu]
     refine atom rfl ?_ hc
     obtain⟨hr1,hr2⟩:=hsp rfl
     have each:∀ (i:Nat) (y:DataW H×List MemPlace),els[i]? =some y→(w.cells? base (a.add (i * P.cellsOf e)) (P.cellsOf e)).bind (DataW.trod enc P w base (fun _=>true) held n e)=some y:=by
      intro i y hy
      rw[hel i (by have:=getElem?_lt hy;omega),hy]
     by_cases hcap:cap=0
     ·have:len=0:=by omega
      subst this
      subst hcap
      have:els=[]:=List.eq_nil_of_length_eq_zero hlen
      subst this
      exact .Oy _ _
     ·have hs:a.spot=none:=by
       rcases Nat.eq_zero_or_pos len with h0 | h0
       ·have h1:0 < cap - len:=by omega
        have hv:rest[0]? =some (rest[0]'(by omega)):=List.getElem?_eq_getElem _
        have:=hr2 0 h1
        rw[hv] at this
        have:=(elem he this).2.2.2 hpos
        subst h0
        simpa[Addr.add] using this
       ·have hv:els[0]? =some (els[0]'(by omega)):=List.getElem?_eq_getElem _
        have:=(elem he (each 0 _ hv)).2.2.2 hpos
        simpa[Addr.add] using this
      obtain⟨b,o,s⟩:=a
      simp only at hs
      subst hs
      have hcl:∀ p∈(els.map (·.1)).map (fun d=>Zt P e (rowOf P g e d)),p.cells.length=P.cellsOf e:=by
       intro p hp
       simp only[List.map_map,List.mem_map] at hp
       obtain⟨y,hy,rfl⟩:=hp
       obtain⟨i,hi⟩:=List.mem_iff_getElem?.1 hy
       obtain⟨_,k2,k3,_⟩:=elem he (each i y hi)
       simp only[Function.comp]
       rw[k3,k2]
      have:=Ea.lit (R:=Rw w) (P.cellsOf e) ((els.map (·.1)).map (fun d=>Zt P e (rowOf P g e d))) b o cap (by simp;omega) hcl (we.flat hcl fun i p hp=>by
       simp only[List.map_map,List.getElem?_map,Option.map_eq_some_iff] at hp
       obtain⟨y,hy,rfl⟩:=hp
       obtain⟨k1,k2,k3,_⟩:=elem he (each i y hy)
       simp only[Function.comp]
       rw[k3]
       have hb:(Addr.add ⟨b,o,none⟩ (i * P.cellsOf e))=⟨b,o+i * P.cellsOf e,none⟩:=by rw[uk]
       rw[hb] at k1
       exact k1)
      simpa[hlen] using this
   |struct fs=>
    simp only[Bool.and_eq_true,beq_iff_eq] at ta
    obtain⟨hlay,hall⟩:=ta
    obtain⟨xs,n,rfl,rfl,hcs,hxs,hf⟩:=DataW.trod_struct hu h
    simp only[rowOf,hu]
    have each:∀ (i:Nat) (f:Field) (y:DataW H×List MemPlace),fs.toList[i]? =some f→xs[i]? =some y→pC P w f.type (rowOf P g f.type y.1) ((cs.drop f.offset).take (P.cellsOf f.type)):=by
     intro i f y hfi hy
     have:=hf i f (by simpa using hfi)
     rw[hy] at this
     exact ih _ n _ y (List.all_eq_true.1 hall f (List.mem_of_getElem? hfi)) this
    have get:∀ (i:Nat) (r:List PV),((fs.toList.zip (xs.map (·.1))).map fun p=>rowOf P g p.1.type p.2)[i]? =some r→∃ f y,fs.toList[i]? =some f∧xs[i]? =some y∧r=rowOf P g f.type y.1:=by
     intro i r hr
     simp only[List.getElem?_map,Option.map_eq_some_iff] at hr
     obtain⟨p,hp,rfl⟩:=hr
     rw[List.getElem?_zip_eq_some] at hp
     obtain⟨hp1,Qi⟩:=hp
     simp only[List.getElem?_map,Option.map_eq_some_iff] at Qi
     obtain⟨y,hy,hy2⟩:=Qi
     exact⟨p.1,y,hp1,hy,by rw[hy2]⟩
    have hrel:=gM (R:=Rw w) fs.toList 0 cs ((fs.toList.zip (xs.map (·.1))).map fun p=>rowOf P g p.1.type p.2) (by rw[hcs];exact hlay) (by simp[hxs]) fun i f r hfi hri=>by
     obtain⟨f',y,h1,h2,rfl⟩:=get i r hri
     rw[hfi] at h1;injection h1 with h1;subst h1
     have:=each i f y hfi h2
     exact⟨this.rel,this.len⟩
    rw[List.drop_zero] at hrel
    refine⟨hrel,fun p hp=> ?_,by rw[← hrel.length,hcs]⟩
    rw[List.mem_flatten] at hp
    obtain⟨r,hr,hp⟩:=hp
    obtain⟨i,hi⟩:=List.mem_iff_getElem?.1 hr
    obtain⟨f,y,h1,h2,rfl⟩:=get i r hi
    exact (each i f y h1 h2).one p hp
   |array n e=>
    simp only[Bool.and_eq_true,beq_iff_eq] at ta
    obtain⟨hlay,he⟩:=ta
    obtain⟨xs,m,rfl,rfl,hcs,hxs,hf⟩:=DataW.trod_array hu h
    simp only[rowOf,hu]
    have each:∀ (i:Nat) (y:DataW H×List MemPlace),xs[i]? =some y→pC P w e (rowOf P g e y.1) ((cs.drop (i * P.cellsOf e)).take (P.cellsOf e)):=by
     intro i y hy
     have:=hf i (by have:=getElem?_lt hy;omega)
     rw[hy] at this
     exact ih _ m _ y he this
    have get:∀ (i:Nat) (r:List PV),((xs.map (·.1)).map (rowOf P g e))[i]? =some r→∃ y,xs[i]? =some y∧r=rowOf P g e y.1:=by
     intro i r hr
     simp only[List.map_map,List.getElem?_map,Option.map_eq_some_iff] at hr
     obtain⟨y,hy,rfl⟩:=hr
     exact⟨y,hy,rfl⟩
    have hrel:=TN (R:=Rw w) n cs ((xs.map (·.1)).map (rowOf P g e)) (by rw[hcs,hlay]) (by simp[hxs]) fun i r hri=>by
     obtain⟨y,h2,rfl⟩:=get i r hri
     exact (each i y h2).rel
    refine⟨hrel,fun p hp=> ?_,by rw[← hrel.length,hcs]⟩
    rw[List.mem_flatten] at hp
    obtain⟨r,hr,hp⟩:=hp
    obtain⟨i,hi⟩:=List.mem_iff_getElem?.1 hr
    obtain⟨y,h2,rfl⟩:=get i r hi
    exact (each i y h2).one p hp
   |_=>simp at ta
def Sh (P:Program):Nat→TypeId→List PV→Prop
 |0,_,_=>False
 |g+1,t,row=>
  match P.underlying t with
  |some .bool=>∃ b,row=[.bool b]
  |some (.int k)=>∃ n,row=[.int k n]∧(Lit.int k n).wf=true
  |some .string=>∃ s:ByteArray,row=[.str s]∧s.size≤reachBytes
  |some (.pointer e)=>row=[.yd]∨∃ r,row=[.rp r 0]∧Sh P g e r
  |some (.slice e)=>row=[.qa]∨∃ es:List (List PV),row=[.lit (P.cellsOf e) (es.map (Zt P e))]∧es.length≤maxLen∧es.length * P.bytesOf e≤reachBytes∧∀ r∈es,Sh P g e r
  |some (.struct fs)=>∃ rows:List (List PV),rows.length=fs.size∧row=rows.flatten∧∀ (i:Nat) (f:Field) (r:List PV),fs.toList[i]? =some f→rows[i]? =some r→Sh P g f.type r
  |some (.array n e)=>∃ es:List (List PV),es.length=n∧row=es.flatten∧∀ r∈es,Sh P g e r
  |_=>False
theorem Gs {P:Program} {e:TypeId}:∀ {ds:List (DataW H)} {d:DataW H} {n:Nat},d∈ds→n∈d.weights P e→n∈DataW.weightsAll P e ds
 |c::ds,d,n,hd,hn=>by
  simp only[DataW.weightsAll,List.mem_append]
  rcases List.mem_cons.1 hd with rfl | hd
  ·exact .inl hn
  ·exact .inr (Gs hd hn)
theorem nS:∀ (g:Nat) (t:TypeId) (fuel:Nat) (cs:List Value) (x:DataW H×List MemPlace),vI P g t=true→DataW.trod enc P w base sp held fuel t cs=some x→(∀ n∈x.1.weights P t,n≤reachBytes)→Sh P g t (rowOf P g t x.1):=by
 intro g
 induction g with
 |zero=>intro t fuel cs x h;simp[vI] at h
 |succ g ih=>
  intro t fuel cs x ta h hwt
  simp only[vI] at ta
  cases hu:P.underlying t with
  |none=>simp[hu] at ta
  |some td=>
   simp only[hu] at ta
   cases td with
   |bool=>obtain⟨b,rfl,rfl⟩:=DataW.trod_bool hu h;simp only[Sh,rowOf,hu];exact⟨_,rfl⟩
   |int k=>obtain⟨n,rfl,rfl,hw⟩:=DataW.trod_int hu h;simp only[Sh,rowOf,hu];exact⟨_,rfl,hw⟩
   |string=>
    obtain⟨s,rfl,rfl,hs⟩:=DataW.trod_string hu h
    simp only[Sh,rowOf,hu]
    obtain⟨⟨l⟩⟩:=s
    refine⟨_,rfl,?_⟩
    have:=hwt l.length (by simp[DataW.weights])
    simpa[ByteArray.size] using this
   |pointer e=>
    simp only[Bool.and_eq_true,beq_iff_eq,decide_eq_true_eq] at ta
    rcases DataW.trod_pointer hu h with⟨rfl,rfl⟩ | ⟨a,ecs,y,n,rfl,rfl,rfl,h1,h2⟩
    ·simp only[Sh,rowOf,hu];exact .inl trivial
    ·simp only[Sh,rowOf,hu];exact .inr ⟨_,rfl,ih e n _ y ta.2 h2 (fun n hn=>hwt n (by simpa[DataW.weights,hu] using hn))⟩
   |slice e=>
    simp only[Bool.and_eq_true,beq_iff_eq,decide_eq_true_eq] at ta
    rcases DataW.trod_slice hu h with⟨rfl,rfl⟩ | ⟨a,len,cap,els,rest,n,rfl,rfl,rfl,_,hlc,hmax,hlen,hel,_,_⟩
    ·simp only[Sh,rowOf,hu];exact .inl trivial
    ·have hsz:=hwt _ (show _ by simp only[DataW.weights,hu];exact List.mem_cons_self ..)
     have hsz':els.length * P.bytesOf e≤reachBytes:=by
      refine Nat.le_trans (Nat.mul_le_mul_right _ ?_) hsz
      simp
     simp only[Sh,rowOf,hu]
     refine .inr ⟨els.map fun y=>rowOf P g e y.1,by simp[List.map_map,Function.comp_def],by simp;omega,by simpa using hsz',fun r hr=> ?_⟩
     obtain⟨y,hy,rfl⟩:=List.mem_map.1 hr
     obtain⟨i,hi⟩:=List.mem_iff_getElem?.1 hy
     have h1:=hel i (by have:=getElem?_lt hi;omega)
     rw[hi] at h1
     simp only[Option.bind_eq_some_iff] at h1
     obtain⟨ecs,_,h2⟩:=h1
     refine ih e n ecs y ta.2 h2 (fun k hk=>hwt k ?_)
     simp only[DataW.weights,hu,List.mem_cons,List.mem_append]
     exact .inr (.inl (Gs (List.mem_map.2 ⟨y,hy,rfl⟩) hk))
   |struct fs=>
    simp only[Bool.and_eq_true,beq_iff_eq] at ta
    obtain⟨xs,n,rfl,rfl,hcs,hxs,hf⟩:=DataW.trod_struct hu h
    simp only[Sh,rowOf,hu]
    refine⟨_,?_,rfl,fun i f r hfi hr=> ?_⟩
    ·simp[hxs]
    ·simp only[List.getElem?_map,Option.map_eq_some_iff] at hr
     obtain⟨p,hp,rfl⟩:=hr
     rw[List.getElem?_zip_eq_some] at hp
     obtain⟨hp1,Qi⟩:=hp
     have hp2':=Qi
     simp only[List.getElem?_map,Option.map_eq_some_iff] at Qi
     obtain⟨y,hy,hy2⟩:=Qi
     rw[hfi] at hp1;injection hp1 with hp1
     have:=hf i f (by simpa using hfi)
     rw[hy] at this
     rw[← hp1,←hy2]
     refine ih _ n _ y (List.all_eq_true.1 ta.2 f (List.mem_of_getElem? hfi)) this (fun k hk=>hwt k ?_)
     simp only[DataW.weights,hu]
     exact DataW.weights_mem_each (j:=i) (t:=f.type) (d:=y.1) (by simp[hfi]) (by rw[hy2];exact hp2') k hk
   |array n e=>
    simp only[Bool.and_eq_true,beq_iff_eq] at ta
    obtain⟨xs,m,rfl,rfl,hcs,hxs,hf⟩:=DataW.trod_array hu h
    simp only[Sh,rowOf,hu]
    refine⟨_,?_,rfl,fun r hr=> ?_⟩
    ·simp[hxs]
    ·simp only[List.map_map,List.mem_map] at hr
     obtain⟨y,hy,rfl⟩:=hr
     obtain⟨i,hi⟩:=List.mem_iff_getElem?.1 hy
     have:=hf i (by have:=getElem?_lt hi;omega)
     rw[hi] at this
     refine ih _ m _ y ta.2 this (fun k hk=>hwt k ?_)
     simp only[DataW.weights,hu]
     exact Gs (List.mem_map.2 ⟨y,hy,rfl⟩) hk
   |_=>simp at ta
theorem yP {r:Reach} {b0:Nat} {g:Nat} {t:TypeId} {v:Value} {d:DataW H} {ps:List MemPlace} (ta:vI P g t=true) (hval:Value.okWide P w r b0 t v) (hd:DataW.Trod enc P w base (fun _=>true) held t v d ps):
 Ea (Rw w) (Zt P t (rowOf P g t d)) v:=by
 obtain⟨fuel,hf⟩:=hd
 have hr:=zP g t fuel _ _ ta hf
 have h1:=pJ ta
 unfold Zt
 cases ha:mq P t with
 |true=>
  simp only[if_true]
  have:∃ cs,v= .agg cs:=by
   unfold mq at ha
   unfold Value.okWide at hval
   cases hu:P.underlying t with
   |none=>simp[hu] at ha
   |some td=>cases td <;> simp[hu] at ha hval <;> exact⟨_,hval.choose_spec.1⟩
  obtain⟨⟨cs⟩,rfl⟩:=this
  exact .agg _ _ (by simpa[Value.cells] using hr.rel)
 |false=>
  simp only[Bool.false_eq_true,if_false]
  have hc:=h1.resolve_left (by simp[ha])
  have hlen:=hr.len
  rw[hc] at hlen
  generalize rowOf P g t d=row at hr hlen ⊢
  have hrel:=hr.rel
  match row,hlen with
  | [p],_=>
    have:∃ u,v.cells.toList=[u]∧Ea (Rw w) p u:=by
     generalize v.cells.toList=l at hrel
     cases hrel with
     |cons _ _ u us h2 h3=>cases h3;exact⟨u,rfl,h2⟩
    obtain⟨u,hu,hp⟩:=this
    have:v=u:=by
     cases v <;> simp[Value.cells] at hu <;> first | exact hu | skip
     rename_i cs
     unfold Value.okWide at hval
     unfold mq at ha
     cases hut:P.underlying t with
     |none=>simp[hut,Cell.okWide,Cell.ok] at hval
     |some td=>cases td <;> simp[hut] at ha <;> simp[hut,Cell.okWide,Cell.ok] at hval
    rw[this]
    exact hp
end
end Go.AM
set_option linter.unusedSimpArgs false
set_option linter.unusedVariables false
namespace Go.AM
def aa.plain:aa→Bool
 | .box cells=>cells.all AV.free'
 | .tok _ _ _=>true
 | .dead=>true
 |_=>false
where AV.free':AV→Bool
 | .pv _=>true
 |_=>false
theorem Ha {n d:Nat} {p:PV}:AV.cut n d (.pv p)=some (.pv p):=by cases d <;> rfl
end Go.AM
set_option linter.unusedSimpArgs false
set_option linter.unusedVariables false
namespace Go.AM
def Ex.stop:Ex→Bool
 | .norm=>false
 |_=>true
def Zb (call:Fa) (live:List Nat) (b:Ia) (n:Nat) (s:St):Option (Ex×St):=fa (ga call b) (xa n live) s
theorem Gi {g:St→Option (Ex×St)} (I:Nat→St→Prop) (Q:Ex→St→Prop):∀ (k N i:Nat) (s:St),N < i+k→i≤N→I i s→
 (∀ i,i < N→∀ s,I i s→(∃ s',g s=some (.norm,s')∧I (i+1) s')∨(∃ ex s',g s=some (ex,s')∧ex.stop=true∧Q ex s'))→
 (∀ s,I N s→∃ ex s',g s=some (ex,s')∧ex.stop=true∧Q ex s')→
 ∃ ex s',Eb g k s=some (ex,s')∧ex.stop=true∧Q ex s':=by
 intro k
 induction k with
 |zero=>intro N i s h1 h2;omega
 |succ k ih=>
  intro N i s h1 h2 hI hs he
  have out:(∃ ex s',g s=some (ex,s')∧ex.stop=true∧Q ex s')→∃ ex s',Eb g (k+1) s=some (ex,s')∧ex.stop=true∧Q ex s':=by
   rintro⟨ex,s',h,hx,hq⟩
   refine⟨ex,s',?_,hx,hq⟩
   show Tt (Eb g k) (g s)=_
   rw[h]
   cases ex with
   |norm=>cases hx
   |exit=>rfl
   |ret=>rfl
   |goto=>rfl
  by_cases hi:i < N
  ·rcases hs i hi s hI with⟨s',h,hI'⟩ | h
   ·obtain⟨ex,s'',h2,hx,hq⟩:=ih N (i+1) s' (by omega) (by omega) hI' hs he
    refine⟨ex,s'',?_,hx,hq⟩
    show Tt (Eb g k) (g s)=_
    rw[h]
    exact h2
   ·exact out h
  ·have:i=N:=by omega
   subst this
   exact out (he s hI)
theorem Da {n:Int} (h: -9223372036854775808≤n∧n≤9223372036854775807):IntKind.i64.wrap n=n:=by
 rw[IntKind.wrap_i64]
 omega
theorem wrap_u8 {n:Int} (h:0≤n∧n≤255):IntKind.u8.wrap n=n:=by
 have e:IntKind.u8.wrap n=n % 256:=by
  simp[IntKind.signed,IntKind.wrap,IntKind.bits]
 rw[e]
 omega
end Go.AM
set_option linter.unusedSimpArgs false
set_option linter.unusedVariables false
namespace Go.AM
open Go.ChangeShapes Go.WideShapes Go.ChangeAt Go.RowKit
def ZS (P:Program) {H:Type} (g:Nat):List TypeId→List (DataW H)→List PV
 |t::ts,d::ds=>Zt P t (rowOf P g t d)::ZS P g ts ds
 |_,_=>[]
def dS (P:Program) {H:Type} (g:Nat):List TypeId→List (DataW H)→Prop
 |t::ts,d::ds=>Sh P g t (rowOf P g t d)∧dS P g ts ds
 | [],[]=>True
 |_,_=>False
def JB (P:Program) (g:Nat) (ts:List TypeId):Bool:=ts.all fun t=>vI P g t&&P.readableRec t&&decide (t < P.types.size)
section
variable {H:Type} {enc:TypeId×Value→H} {P:Program} {w:World} {base:Nat} {held:Bool}
theorem Ux:∀ {ts:List TypeId} {vs:List Value} {ds:List (DataW H)} {ps:List MemPlace} {sp:Nat→Bool},DataW.TrodAll enc P w base sp held ts vs ds ps→vs.length=ts.length∧ds.length=ts.length
 | [],[],[],_,_,_=>⟨rfl,rfl⟩
 |t::ts,v::vs,d::ds,_,_,⟨p,q,_,h,_⟩=>by have:=Ux h;simp[this.1,this.2]
 | [],_::_,_,_,_,h=>h.elim
 | [],[],_::_,_,_,h=>h.elim
 |_::_,[],_,_,_,h=>h.elim
 |_::_,_::_,[],_,_,h=>h.elim
theorem iy {r:Reach} {b0 g:Nat}:∀ {ts:List TypeId} {vs:List Value} {ds:List (DataW H)} {ps:List MemPlace},JB P g ts=true→
 (∀ (j:Nat) t v,ts[j]? =some t→vs[j]? =some v→Value.okWide P w r b0 t v)→
 DataW.TrodAll enc P w base (fun _=>true) held ts vs ds ps→xd (Rw w) (ZS P g ts ds) vs
 | [],[],[],_,_,_,_=> .nil
 |t::ts,v::vs,d::ds,_,ta,hval,⟨p,q,hd,h,_⟩=>by
  simp only[JB,List.all_cons,Bool.and_eq_true] at ta
  exact .cons _ _ _ _ (yP ta.1.1.1 (hval 0 t v rfl rfl) hd) (iy (by simp only[JB];exact ta.2) (fun j t v ht hv=>hval (j+1) t v ht hv) h)
 | [],_::_,_,_,_,_,h=>h.elim
 | [],[],_::_,_,_,_,h=>h.elim
 |_::_,[],_,_,_,_,h=>h.elim
 |_::_,_::_,[],_,_,_,h=>h.elim
theorem xz {g:Nat}:∀ {ts:List TypeId} {vs:List Value} {ds:List (DataW H)} {ps:List MemPlace},JB P g ts=true→
 (∀ n∈DataW.weightsEach P ts ds,n≤reachBytes)→
 DataW.TrodAll enc P w base (fun _=>true) held ts vs ds ps→dS P g ts ds
 | [],[],[],_,_,_,_=>trivial
 |t::ts,v::vs,d::ds,_,ta,hw,⟨p,q,⟨fuel,hd⟩,h,_⟩=>by
  simp only[JB,List.all_cons,Bool.and_eq_true] at ta
  simp only[DataW.weightsEach,List.mem_append] at hw
  exact⟨nS g t fuel _ (d,p) ta.1.1.1 hd (fun n hn=>hw n (.inl hn)),xz (by simp only[JB];exact ta.2) (fun n hn=>hw n (.inr hn)) h⟩
 | [],_::_,_,_,_,_,h=>h.elim
 | [],[],_::_,_,_,_,h=>h.elim
 |_::_,[],_,_,_,_,h=>h.elim
 |_::_,_::_,[],_,_,_,h=>h.elim
theorem ou {g:Nat} (hl:laidOutB P=true) {w':World} (hb:Below w.heap.size w w'):∀ {ts:List TypeId} {vs:List Value} {ds:List (DataW H)} {ps:List MemPlace},JB P g ts=true→
 (∀ x∈ps,x.block < w.heap.size)→
 DataW.TrodAll enc P w 0 (fun _=>true) true ts vs ds ps→DataW.TrodAll enc P w' 0 (fun b=>decide (b < w.heap.size)) true ts vs ds ps
 | [],[],[],_,_,_,h=>h
 |t::ts,v::vs,d::ds,_,ta,hlt,⟨p,q,hd,h,e⟩=>by
  subst e
  simp only[JB,List.all_cons,Bool.and_eq_true] at ta
  exact⟨p,q,Below.trod hl ta.1.1.2 (of_decide_eq_true ta.1.2) hd hb (fun x hx=>hlt x (List.mem_append.2 (.inl hx))),
   ou hl hb (by simp only[JB];exact ta.2) (fun x hx=>hlt x (List.mem_append.2 (.inr hx))) h,rfl⟩
 | [],_::_,_,_,_,_,h=>h.elim
 | [],[],_::_,_,_,_,h=>h.elim
 |_::_,[],_,_,_,_,h=>h.elim
 |_::_,_::_,[],_,_,_,h=>h.elim
end
theorem TA {H:Type} {enc:TypeId×Value→H} {C:Checked} {os:Os} {f:FuncId} {fn:Func} {F:List PV→Option PV} {s:ChangeSpec} {bt:TypeId} {ts:List TypeId} (g:Nat)
 (own:ownKnob C.prog.godebug=none) (laid:laidOutB C.prog=true) (started:os.Started) (noInit:C.prog.inits.idxOf? f=none) (hfn:C.prog.funcs[f]? =some fn)
 (witness:∃ (w:World) (tape:Tape) (i:Input),w.os=os∧(w.forCall tape i).Shaped C.prog∧i.vars=[]∧Input.okWide C.prog (w.forCall tape i) .any w.heap.size f i∧
  s.pre6 enc C.prog fn [] false (w.forCall tape i).memory i.args∧({}:Assume).holds C.prog (lone (Frame.enter C.prog f i.args .normal) [] (w.forCall tape i)))
 (hvars:s.vars=[]) (hplain:s.plain.varTypes C.prog=[]) (hts:fn.params=ts.toArray) (hres:fn.resultTypes= #[bt]) (hbt:C.prog.underlying bt=some .bool)
 (ta:JB C.prog g ts=true) (hpure:Ga C.prog f F)
 (hspec:∀ ds:List (DataW H),ds.length=ts.length→s.fn H (ds++[])={results:=[.lit (.bool true)],args:=ds})
 (run:∀ ds:List (DataW H),dS C.prog g ts ds→F (ZS C.prog g ts ds)=some (.bool true)):
 ReturnsInHanded {} C os f .any (s.pre6 enc C.prog fn [] false) (s.post enc C.prog fn false true false false):=by
 refine returnsInHanded_of_change_sized own started noInit hfn witness ?_
 intro W base args ds gs before hval0 hW _ hwt _
 have hval:∀ (j:Nat) t v,ts[j]? =some t→args.toList[j]? =some v→Value.okWide C.prog W .any base t v:=by
  intro j t v ht hv
  exact hval0 j t v (by rw[hts];simpa using ht) (by simpa using hv)
 have hW':=hW
 obtain⟨p,q,hA0,hV,rfl,_,_⟩:=hW
 rw[hvars] at hV
 obtain⟨rfl,rfl⟩:=trodVars_none hV
 have hA:DataW.TrodAll enc C.prog W 0 (fun _=>true) true ts args.toList ds p:=by rw[hts] at hA0;simpa using hA0
 have hlt:∀ x∈p,x.block < W.heap.size:=fun x hx=>by simpa using hW'.lt x (by simpa using hx)
 have hw':∀ n∈DataW.weightsEach C.prog ts ds,n≤reachBytes:=by
  intro n hn
  rw[hts,hplain] at hwt
  simp only[List.append_nil] at hwt
  have:=List.all_eq_true.1 hwt n (by simpa using hn)
  simpa using this
 have hrel:=iy ta hval hA
 have hr:=run ds (xz ta hw' hA)
 refine (WK hpure hrel hr).mono fun e W' ⟨he,hb⟩=> ?_
 subst he
 have hs:=hspec ds (Ux hA).2
 refine⟨_,rfl,ds,[],p++[],[],p,[],hW',?_,?_,?_,hb.frame _,fun h=>by cases h⟩
 ·rw[hs,hres]
  exact trodAll_mk1 (shut_bool hbt _)
 ·rw[hs,hts]
  exact ou laid hb ta hlt hA
 ·rw[hs,hvars]
  exact rfl
theorem kN {P:Program} {H:Type} {g:Nat} {t:TypeId} {ts:List TypeId} {ds:List (DataW H)} (h:dS P g (t::ts) ds):∃ d r,ds=d::r∧Sh P g t (rowOf P g t d)∧dS P g ts r:=by
 cases ds with
 |nil=>exact h.elim
 |cons d r=>exact⟨d,r,rfl,h.1,h.2⟩
theorem HJ {P:Program} {H:Type} {g:Nat} {ds:List (DataW H)} (h:dS P g [] ds):ds=[]:=by
 cases ds with
 |nil=>rfl
 |cons d r=>exact h.elim
theorem bQ {P:Program} {H:Type} {g:Nat} {t:TypeId} {ds:List (DataW H)} (h:dS P g [t] ds):∃ row,ZS P g [t] ds=[Zt P t row]∧Sh P g t row:=by
 obtain⟨d,r,rfl,h1,h2⟩:=kN h
 obtain rfl:=HJ h2
 exact⟨_,rfl,h1⟩
section
variable {P:Program} {g:Nat} {t e:TypeId} {row:List PV}
theorem pP {k:IntKind} (hu:P.underlying t=some (.int k)) (h:Sh P (g+1) t row):∃ n,row=[.int k n]∧(Lit.int k n).wf=true:=by
 simpa only[Sh,hu] using h
theorem ZM (hu:P.underlying t=some (.slice e)) (h:Sh P (g+1) t row):
 row=[.qa]∨∃ es:List (List PV),row=[.lit (P.cellsOf e) (es.map (Zt P e))]∧es.length≤maxLen∧es.length * P.bytesOf e≤reachBytes∧∀ r∈es,Sh P g e r:=by
 simpa only[Sh,hu] using h
theorem qS {k:IntKind} (hu:P.underlying t=some (.int k)) {n:Int}:Zt P t [.int k n]= .int k n:=by
 simp[Zt,mq,hu]
theorem AN (hu:P.underlying t=some (.slice e)) {v:PV}:Zt P t [v]=v:=by
 simp[Zt,mq,hu]
theorem RP {k:IntKind} (hu:P.underlying t=some (.slice e)) (hk:P.underlying e=some (.int k)) (h:Sh P (g+2) t row):
 row=[.qa]∨∃ l:List Int,row=[.lit (P.cellsOf e) (l.map (.int k))]∧l.length≤maxLen∧l.length * P.bytesOf e≤reachBytes∧∀ n∈l,(Lit.int k n).wf=true:=by
 rcases ZM hu h with h | ⟨es,rfl,h1,h2,h3⟩
 ·exact .inl h
 ·refine .inr ⟨es.map fun r=>match r with | [.int _ n]=>n | _=>0,?_,by simpa using h1,by simpa using h2,?_⟩
  ·congr 2
   rw[List.map_map]
   apply List.map_congr_left
   intro r hr
   obtain⟨n,rfl,_⟩:=pP hk (h3 r hr)
   simp[qS hk]
  ·intro n hn
   obtain⟨r,hr,rfl⟩:=List.mem_map.1 hn
   obtain⟨n,rfl,hw⟩:=pP hk (h3 r hr)
   exact hw
end
end Go.AM
set_option linter.unusedSimpArgs false
set_option linter.unusedVariables false
namespace Go.AM
def ke {α:Type} (Q:α→Prop):Option α→Prop
 |some a=>Q a
 |none=>False
theorem vd {α:Type} {Q:α→Prop} {o:Option α} (h:ke Q o):∃ a,o=some a∧Q a:=by
 cases o with
 |none=>exact h.elim
 |some a=>exact⟨a,rfl,h⟩
theorem vS {α:Type} {Q:α→Prop} {o:Option α} {a:α} (h:o=some a) (hq:Q a):ke Q o:=by subst h;exact hq
theorem Wa {α:Type} {Q R:α→Prop} {o:Option α} (h:ke Q o) (hq:∀ a,Q a→R a):ke R o:=by
 cases o with
 |none=>exact h.elim
 |some a=>exact hq a h
theorem lz {α:Type} {o:Option α} {a:α} (h:ke (fun x=>x=a) o):o=some a:=by
 cases o with
 |none=>exact h.elim
 |some b=>cases (show b=a from h);rfl
theorem ZQ {α:Type} {Q:α→Prop} {a:α}:ke Q (some a)=Q a:=rfl
theorem EJ {α:Type} {Q:α→Prop}:ke Q none=False:=rfl
theorem EN {α:Type} {Q:α→Prop} {c:Prop} [Decidable c] {a:Option α}:ke Q (if c then a else none)=(c∧ke Q a):=by
 by_cases h:c
 ·simp[h]
 ·simp[h,EJ]
theorem wp_map {α β:Type} {Q:β→Prop} {f:α→β} {o:Option α}:ke Q (o.map f)=ke (fun a=>Q (f a)) o:=by cases o <;> rfl
theorem wp_bind {α β:Type} {Q:β→Prop} {f:α→Option β} {o:Option α}:ke Q (o.bind f)=ke (fun a=>ke Q (f a)) o:=by cases o <;> rfl
def FP (f:St→Option (Ex×St)) (Q:Ex×St→Prop):Ex×St→Prop
 | (.norm,s)=>ke Q (f s)
 |r=>Q r
def Tz (id:Nat) (Q:Ex×St→Prop):Ex×St→Prop
 | (.exit id',s)=>if id'=id then Q (.norm,s) else Q (.exit id',s)
 |r=>Q r
theorem sL {f:St→Option (Ex×St)} {Q:Ex×St→Prop} {s:St}:FP f Q (.norm,s)=ke Q (f s):=rfl
theorem zN {f:St→Option (Ex×St)} {Q:Ex×St→Prop} {s:St}:FP f Q (.ret,s)=Q (.ret,s):=rfl
theorem CL {f:St→Option (Ex×St)} {Q:Ex×St→Prop} {s:St} {k:Nat}:FP f Q (.exit k,s)=Q (.exit k,s):=rfl
theorem UG {k:Nat} {Q:Ex×St→Prop} {s:St}:Tz k Q (.norm,s)=Q (.norm,s):=rfl
theorem pI {k:Nat} {Q:Ex×St→Prop} {s:St}:Tz k Q (.ret,s)=Q (.ret,s):=rfl
theorem EF {k j:Nat} {Q:Ex×St→Prop} {s:St}:Tz k Q (.exit j,s)=if j=k then Q (.norm,s) else Q (.exit j,s):=rfl
theorem fw {Q:Ex×St→Prop} {f:St→Option (Ex×St)} {r:Option (Ex×St)}:ke Q (Tt f r)=ke (FP f Q) r:=by
 rcases r with _ | ⟨ex,s⟩
 ·rfl
 ·cases ex <;> rfl
theorem UK {Q:Ex×St→Prop} {k:Nat} {r:Option (Ex×St)}:ke Q (vj k r)=ke (Tz k Q) r:=by
 rcases r with _ | ⟨ex,s⟩
 ·rfl
 ·cases ex with
  |exit j=>show ke Q (if j=k then _ else _)=_;by_cases h:j=k <;> simp[h,ke,Tz]
  |_=>rfl
theorem aN {Q:Ex×St→Prop} {r:Option St}:ke Q (Hj r)=ke (fun s=>Q (.norm,s)) r:=by cases r <;> rfl
theorem RL {Q:Ex×St→Prop} {f:St→Option (Ex×St)} {r:Option St}:ke Q (Jk f r)=ke (fun s=>ke Q (f s)) r:=by cases r <;> rfl
theorem tN {Q:Ex×St→Prop} {f g:St→Option (Ex×St)} {s:St} {b:Bool}:ke Q (br f g s (some b))=((b=true→ke Q (f s))∧(b=false→ke Q (g s))):=by
 cases b <;> simp[br]
theorem oO {Q:St→Prop} {f:St→Option St} {r:Option St}:ke Q (On f r)=ke (fun s=>ke Q (f s)) r:=by cases r <;> rfl
theorem qQ {Q:St→Prop} {d:Option Nat} {e:Tr} {r:Option (AV×List aa)}:ke Q (Yw d e r)=ke (fun p=>Q ⟨cm e d p.1,p.2⟩) r:=by
 rcases r with _ | ⟨v,H⟩ <;> rfl
theorem bS {Q:AV×List aa→Prop} {H:List aa} {r:Option (AV×List aa)}:ke Q (AR H r)=ke (fun p=>p.2=[]∧Q (p.1,H)) r:=by
 rcases r with _ | ⟨v,_ | ⟨o,H'⟩⟩ <;> simp[AR,ke]
def YR (rs:List Gy) (Q:AV×List aa→Prop):Ex×St→Prop
 | (.exit _,_)=>False
 | (.goto _,_)=>False
 | (_,s)=>ke (fun vs=>Q (eB vs,s.H)) (Va (Ey s) rs)
theorem xK {rs:List Gy} {Q:AV×List aa→Prop} {s:St}:YR rs Q (.norm,s)=ke (fun vs=>Q (eB vs,s.H)) (Va (Ey s) rs):=rfl
theorem bP {rs:List Gy} {Q:AV×List aa→Prop} {s:St}:YR rs Q (.ret,s)=ke (fun vs=>Q (eB vs,s.H)) (Va (Ey s) rs):=rfl
theorem AP {Q:AV×List aa→Prop} {rs:List Gy} {r:Option (Ex×St)}:ke Q (QP rs r)=ke (YR rs Q) r:=by
 rcases r with _ | ⟨ex,s⟩
 ·rfl
 ·cases ex with
  |exit=>rfl
  |goto=>rfl
  |norm=>rw[sx,wp_bind];rfl
  |ret=>rw[DF,wp_bind];rfl
theorem ML {Q:St→Prop} {f g:St→Option St} {s:St} {b:Bool}:ke Q (Uj f g s (some b))=((b=true→ke Q (f s))∧(b=false→ke Q (g s))):=by
 cases b <;> simp[Uj]
theorem gL (e:Tr) (d:Nat) (v:AV):cm e (some d) v=e.set d v:=rfl
theorem VL (e:Tr) (v:AV):cm e none v=e:=rfl
def LQ (I:Nat→St→Prop) (Q:Ex×St→Prop) (k:Nat):Ex×St→Prop
 | (.norm,s)=>∃ j,j < k∧I j s
 |r=>Q r
theorem aw {g:St→Option (Ex×St)} (I:Nat→St→Prop) {Q:Ex×St→Prop}:∀ (n k:Nat) (s:St),k < n→I k s→
 (∀ k t,I k t→ke (LQ I Q k) (g t))→ke (fun r=>r.1.stop=true∧Q r) (Eb g n s):=by
 intro n
 induction n with
 |zero=>intro k s h;omega
 |succ n ih=>
  intro k s h hI hs
  show ke _ (Tt (Eb g n) (g s))
  obtain⟨⟨ex,t⟩,h1,h2⟩:=vd (hs k s hI)
  rw[h1]
  cases ex with
  |norm=>
   obtain⟨j,hj,hJ⟩:=h2
   exact ih j t (by omega) hJ hs
  |exit=>exact⟨rfl,h2⟩
  |ret=>exact⟨rfl,h2⟩
  |goto=>exact⟨rfl,h2⟩
def LN (I:Nat→St→Prop) (Q:Ex×St→Prop) (i:Nat):Ex×St→Prop
 | (.norm,s)=>I (i+1) s
 |r=>Q r
theorem Te {g:St→Option (Ex×St)} (I:Nat→St→Prop) {Q:Ex×St→Prop} (N:Nat) (hN:N < wa) (s:St) (h0:I 0 s)
 (hs:∀ i t,i < N→I i t→ke (LN I Q i) (g t)) (he:∀ t,I N t→ke (fun r=>r.1.stop=true∧Q r) (g t)):
 ke (fun r=>r.1.stop=true∧Q r) (Eb g wa s):=by
 refine aw (fun k t=>∃ i,i+k=N∧I i t) wa N s hN ⟨0,by omega,h0⟩ ?_
 rintro k t ⟨i,hi,hI⟩
 rcases Nat.eq_zero_or_pos k with h | h
 ·obtain⟨⟨ex,u⟩,h1,h2,h3⟩:=vd (he t (by rw[show N=i by omega];exact hI))
  rw[h1]
  cases ex with
  |norm=>cases h2
  |exit=>exact h3
  |ret=>exact h3
  |goto=>exact h3
 ·obtain⟨⟨ex,u⟩,h1,h2⟩:=vd (hs i t (by omega) hI)
  rw[h1]
  cases ex with
  |norm=>exact⟨k - 1,by omega,i+1,by omega,h2⟩
  |exit=>exact h2
  |ret=>exact h2
  |goto=>exact h2
theorem TQ {i n:Nat}:Ca (i:Int) n=(i < n):=by unfold Ca;simp
theorem dJ {i n:Nat}:decide ((i:Int) < (n:Int))=decide (i < n):=by simp
theorem Gh {n:Nat} (h:n+1≤9223372036854775807):IntKind.i64.wrap ((n:Int)+1)=((n+1:Nat):Int):=Da (by omega)
theorem Sa:deep=5+1:=rfl
theorem yv (H:List aa) (d:Nat) (p:PV):Ab H d (.pv p)=some p:=by cases d <;> rfl
end Go.AM
set_option linter.unusedSimpArgs false
set_option linter.unusedVariables false
namespace Go.AM.So
open Go.AM
def zf (D:Array (List PV)):List AV:=D.toList.flatten.map .pv
def Xe (sz:Nat) (D:Array (List PV)) (fl:Nat) (nl:Bool):aa:= .seq sz true (zf D) fl nl
def LO (sz:Nat) (r:List PV):Prop:=r.length=sz∧∀ c∈r,(AV.pv c).one=true
theorem dp {α:Type} {sz:Nat}:∀ {l:List (List α)},(∀ r∈l,r.length=sz)→l.flatten.length=l.length * sz
 | [],_=>by simp
 |r::l,h=>by
  rw[List.flatten_cons,List.length_append,h r (by simp),dp fun x hx=>h x (by simp[hx]),List.length_cons,Nat.add_mul];omega
theorem Dp {α:Type} {sz:Nat}:∀ {l:List (List α)} {i:Nat} (hi:i < l.length),(∀ r∈l,r.length=sz)→(l.flatten.drop (i * sz)).take sz=l[i]
 |r::l,0,_,h=>by
  have:=h r (by simp)
  rw[Nat.zero_mul,List.drop_zero,List.flatten_cons,List.take_append_of_le_length (by omega),List.take_of_length_le (by omega)];rfl
 |r::l,i+1,hi,h=>by
  have h1:=h r (by simp)
  rw[List.flatten_cons,List.getElem_cons_succ,←Dp (sz:=sz) (l:=l) (i:=i) (by simpa using hi) fun x hx=>h x (by simp[hx])]
  have e:(i+1) * sz=r.length+i * sz:=by rw[h1,Nat.add_mul];omega
  rw[e,List.drop_append,List.drop_eq_nil_of_le (by omega),List.nil_append,Nat.add_sub_cancel_left]
theorem fg {α:Type}:∀ (vs cs:List α) (off p:Nat),(oa cs off vs)[p]? =if h:off≤p∧p < off+vs.length∧p < cs.length then vs[p - off]? else cs[p]?
 | [],cs,off,p=>by simp[oa];intro h1 h2;omega
 |v::vs,cs,off,p=>by
  rw[oa,fg vs]
  by_cases hp:p=off
  ·subst hp
   rw[dif_neg (by omega)]
   by_cases hc:p < cs.length
   ·rw[List.getElem?_set_self hc,dif_pos ⟨by omega,by simp,hc⟩];simp
   ·rw[dif_neg (by omega),List.getElem?_eq_none (by simp;omega),List.getElem?_eq_none (by omega)]
  ·rw[List.getElem?_set_ne (by omega)]
   by_cases h1:off+1≤p∧p < off+1+vs.length∧p < cs.length
   ·rw[dif_pos (by simpa using h1),dif_pos ⟨by omega,by simp;omega,by omega⟩]
    have:p - off=(p - (off+1))+1:=by omega
    rw[this,List.getElem?_cons_succ]
   ·rw[dif_neg (by simpa using h1),dif_neg]
    rintro⟨h2,h3,h4⟩
    simp at h3
    exact h1 ⟨by omega,by omega,h4⟩
theorem QO {α:Type} {sz:Nat} {l:List (List α)} {i:Nat} (hi:i < l.length) (h:∀ r∈l,r.length=sz) {r:List α} (hr:r.length=sz):
 oa l.flatten (i * sz) r=(l.set i r).flatten:=by
 induction l generalizing i with
 |nil=>simp at hi
 |cons a l ih=>
  have ha:=h a (by simp)
  cases i with
  |zero=>
   rw[Nat.zero_mul,List.set_cons_zero,List.flatten_cons,List.flatten_cons]
   apply List.ext_getElem?
   intro p
   rw[fg]
   by_cases hp:p < sz
   ·rw[dif_pos ⟨by omega,by omega,by rw[List.length_append];omega⟩,List.getElem?_append_left (by omega)];simp
   ·rw[dif_neg (by omega),List.getElem?_append_right (by omega),List.getElem?_append_right (by omega),ha,hr]
  |succ i=>
   have hi':i < l.length:=by simpa using hi
   rw[List.set_cons_succ,List.flatten_cons,List.flatten_cons,←ih hi' fun x hx=>h x (by simp[hx])]
   have e:(i+1) * sz=a.length+i * sz:=by rw[ha,Nat.add_mul];omega
   rw[e]
   apply List.ext_getElem?
   intro p
   rw[fg]
   by_cases hp:p < a.length
   ·rw[dif_neg (by omega),List.getElem?_append_left hp,List.getElem?_append_left hp]
   ·rw[List.getElem?_append_right (by omega),List.getElem?_append_right (by omega),fg]
    have e2:(a.length+i * sz≤p∧p < a.length+i * sz+r.length∧p < (a++l.flatten).length)=(i * sz≤p - a.length∧p - a.length < i * sz+r.length∧p - a.length < l.flatten.length):=by
     rw[List.length_append];apply propext;constructor <;> rintro⟨h1,h2,h3⟩ <;> exact⟨by omega,by omega,by omega⟩
    simp only[e2]
    have e3:p - (a.length+i * sz)=p - a.length - i * sz:=by omega
    rw[e3]
theorem nz {α β:Type} (f:α→β):∀ (vs cs:List α) (off:Nat),(oa cs off vs).map f=oa (cs.map f) off (vs.map f)
 | [],cs,off=>rfl
 |v::vs,cs,off=>by rw[oa,nz f vs,List.map_set];rfl
theorem Et {sz:Nat} {D:Array (List PV)} (h:∀ r∈D.toList,LO sz r):(zf D).length=D.size * sz:=by
 rw[zf,List.length_map,dp fun r hr=>(h r hr).1];rfl
theorem Jh (l:List PV):Bc (l.map .pv)=some l:=by
 induction l with
 |nil=>rfl
 |cons a l ih=>rw[List.map_cons,Bc,ih];rfl
def Kc (H:List aa):Prop:=∀ n,H.length≤n→∀ o∈H,pa n o=some o
theorem qj {α:Type} {f:α→Option α}:∀ {l:List α},(∀ a∈l,f a=some a)→Va f l=some l
 | [],_=>rfl
 |a::l,h=>by rw[Va,h a (by simp),qj fun x hx=>h x (by simp[hx])];rfl
theorem Ws (sz:Nat) (D:Array (List PV)) (fl:Nat) (nl:Bool) (n:Nat):pa n (Xe sz D fl nl)=some (Xe sz D fl nl):=by
 have:(zf D).all (AV.Wc n deep)=true:=by
  rw[List.all_eq_true]
  intro v hv
  obtain⟨p,_,rfl⟩:=List.mem_map.1 hv
  rfl
 simp[pa,Xe,this]
structure Hp (id sz:Nat) (P:List PV→Prop) (H0:List aa) (D:Array (List PV)) (H:List aa):Prop where
 le:H0.length≤H.length
 Wt:Kc H
 Wc:∀ k,k < H0.length→k≠id→H[k]? =H0[k]?
 get:∃ fl nl,fl≤D.size * sz∧H[id]? =some (Xe sz D fl nl)
 rows:∀ r∈D.toList,P r
 lt:id < H0.length
section
variable {id sz:Nat} {P:List PV→Prop} {H0 H:List aa} {D:Array (List PV)} (hP:∀ r,P r→LO sz r)
theorem Hp.refl {fl:Nat} {nl:Bool} (hg:Kc H) (hf:fl≤D.size * sz) (h:H[id]? =some (Xe sz D fl nl)) (hr:∀ r∈D.toList,P r):Hp id sz P H D H:=
 ⟨Nat.le_refl _,hg,fun _ _ _=>rfl,⟨fl,nl,hf,h⟩,hr,(List.getElem?_eq_some_iff.1 h).1⟩
theorem Hp.same (h:Hp id sz P H0 D H):Hp id sz P H D H:=⟨Nat.le_refl _,h.Wt,fun _ _ _=>rfl,h.get,h.rows,Nat.lt_of_lt_of_le h.lt h.le⟩
theorem Hp.trans {H':List aa} {D':Array (List PV)} (h:Hp id sz P H0 D H) (h':Hp id sz P H D' H'):Hp id sz P H0 D' H':=
 ⟨Nat.le_trans h.le h'.le,h'.Wt,fun k hk hne=>(h'.Wc k (Nat.lt_of_lt_of_le hk h.le) hne).trans (h.Wc k hk hne),h'.get,h'.rows,h.lt⟩
theorem PS {D:Array (List PV)} {i:Nat} (hi:i < D.size):D[i]! =D[i]:=getElem!_pos D i hi
include hP
theorem Hp.mg (h:Hp id sz P H0 D H) {n:Nat} (hn:n=D.size) {i:Int} {k:Nat} (hi:i=(k:Int)) (hk:k < D.size):ma H sz (.own id n) i=some (.ic id (n * sz) (k * sz)):=by
 obtain⟨fl,nl,hf,hg⟩:=h.get
 have hl:=Et fun r hr=>hP r (h.rows r hr)
 subst hn hi
 simp only[ma,hg,Xe]
 rw[if_pos (by refine⟨trivial,?_,?_⟩ <;> first | (unfold Ca;omega) | (unfold Dg;omega))]
 simp
theorem Hp.load (h:Hp id sz P H0 D H) {n:Nat} (hn:n=D.size) {k:Nat} (hk:k < D.size):na H true sz (.ic id (n * sz) (k * sz))=some (.pv (.agg D[k]!)):=by
 obtain⟨fl,nl,hf,hg⟩:=h.get
 have hl:=Et fun r hr=>hP r (h.rows r hr)
 subst hn
 have hle:k * sz+sz≤D.size * sz:=by
  have:(k+1) * sz≤D.size * sz:=Nat.mul_le_mul_right _ hk
  rw[Nat.add_mul] at this;omega
 simp only[na,hg,Xe,hl,ng,if_true]
 rw[if_pos hle]
 have e:((zf D).drop (k * sz)).take sz=D[k]!.map .pv:=by
  rw[zf,←List.map_drop,←List.map_take,Dp (l:=D.toList) (i:=k) (by simpa using hk) fun r hr=>(hP r (h.rows r hr)).1,PS hk]
  simp
 rw[e]
 simp[Wo,Jh]
theorem Hp.store (h:Hp id sz P H0 D H) {n:Nat} (hn:n=D.size) {k:Nat} (hk:k < D.size) {r:List PV} (hr:P r):
 ∃ H',Pa H sz (.ic id (n * sz) (k * sz)) (.pv (.agg r))=some H'∧Hp id sz P H0 (D.setIfInBounds k r) H'∧H'.length=H.length:=by
 obtain⟨fl,nl,hf,hg⟩:=h.get
 have hl:=Et fun r hr=>hP r (h.rows r hr)
 subst hn
 have hle:k * sz+sz≤D.size * sz:=by
  have:(k+1) * sz≤D.size * sz:=Nat.mul_le_mul_right _ hk
  rw[Nat.add_mul] at this;omega
 have hro:=hP r hr
 have hall:((AV.pv (.agg r)).cells.all AV.one)=true:=by
  rw[List.all_eq_true]
  intro v hv
  obtain⟨c,hc,rfl⟩:=List.mem_map.1 hv
  exact hro.2 c hc
 have hlt:id < H.length:=Nat.lt_of_lt_of_le h.lt h.le
 have he:oa (zf D) (k * sz) ((AV.pv (.agg r)).cells)=zf (D.setIfInBounds k r):=by
  show oa (D.toList.flatten.map AV.pv) (k * sz) (r.map AV.pv)=_
  rw[← nz,QO (by simpa using hk) (fun r hr=>(hP r (h.rows r hr)).1) hro.1,zf,Array.toList_setIfInBounds]
 refine⟨H.set id (Xe sz (D.setIfInBounds k r) (D.size * sz) nl),?_,⟨by simpa using h.le,?_,?_,⟨D.size * sz,nl,by simp,List.getElem?_set_self hlt⟩,?_,h.lt⟩,by simp⟩
 ·simp only[Pa,hg,Xe]
  have hcl:(AV.pv (.agg r)).cells.length=sz:=by show (r.map AV.pv).length=sz;rw[List.length_map];exact hro.1
  rw[if_pos ⟨hcl,hall⟩,if_pos ⟨hl,hle⟩,he]
 ·intro m hm o ho
  rcases List.mem_or_eq_of_mem_set ho with h1 | h1
  ·exact h.Wt m (by simpa using hm) o h1
  ·subst h1;exact Ws _ _ _ _ _
 ·intro k hk hne
  rw[List.getElem?_set_ne (Ne.symm hne)];exact h.Wc k hk hne
 ·intro x hx
  rw[Array.toList_setIfInBounds] at hx
  rcases List.mem_or_eq_of_mem_set hx with h1 | h1
  ·exact h.rows x h1
  ·subst h1;exact hr
omit hP in
theorem Hp.xa (h:Hp id sz P H0 D H) {n:Nat} (hn:n=H0.length) (g0:Kc H0):Va (pa n) (H.take n)=some (H.take n)∧Hp id sz P H0 D (H.take n)∧(H.take n).length=n:=by
 subst hn
 have hle:=h.le
 have hmem:∀ o∈H.take H0.length,∀ m,H0.length≤m→pa m o=some o:=by
  intro o ho m hm
  obtain⟨k,hk⟩:=List.getElem?_of_mem ho
  have hk2:k < H0.length:=by have:=(List.getElem?_eq_some_iff.1 hk).1;simp at this;omega
  rw[List.getElem?_take_of_lt hk2] at hk
  by_cases hid:k=id
  ·subst hid
   obtain⟨fl,nl,_,hg⟩:=h.get
   rw[hg] at hk;injection hk with hk;subst hk
   exact Ws _ _ _ _ _
  ·rw[h.Wc k hk2 hid] at hk
   exact g0 m hm o (List.mem_of_getElem? hk)
 have hlen:(H.take H0.length).length=H0.length:=by simp;omega
 refine⟨qj fun o ho=>hmem o ho _ (Nat.le_refl _),⟨by omega,fun m hm o ho=>hmem o ho m (by omega),?_,?_,h.rows,h.lt⟩,hlen⟩
 ·intro k hk hne
  rw[List.getElem?_take_of_lt hk];exact h.Wc k hk hne
 ·obtain⟨fl,nl,hf,hg⟩:=h.get
  exact⟨fl,nl,hf,by rw[List.getElem?_take_of_lt h.lt];exact hg⟩
end
end Go.AM.So
set_option linter.unusedVariables false
namespace Go.AM
theorem J {a b:Prop} (x:a) (y:b):a∧b:=⟨x,y⟩
def ZT:=PLift.up (J (J (J (J (J (J (J (J @fc.eq_1 @tR) (J @rI @eS)) (J (J @ON @iT) (J @cS @ZP))) (J (J (J @JP @wS) (J @SS @Ry)) (J (J @gN @cQ) (J @CP @eR)))) (J (J (J (J @LP @iQ) (J @oR @WS)) (J (J @OS @PQ) (J @oQ @zS))) (J (J (J @da.eq_1 @da.eq_2) (J @da.eq_3 @da.eq_4)) (J (J @da.eq_5 @da.eq_6) (J @da.eq_7 @da.eq_8))))) (J (J (J (J (J @da.eq_9 @da.eq_10) (J @da.eq_11 @da.eq_12)) (J (J @da.eq_13 @da.eq_14) (J @da.eq_15 @da.eq_16))) (J (J (J @da.eq_17 @da.eq_18) (J @da.eq_19 @da.eq_20)) (J (J @da.eq_21 @da.eq_22) (J @da.eq_23 @da.eq_24)))) (J (J (J (J @da.eq_25 @da.eq_26) (J @da.eq_27 @da.eq_28)) (J (J @da.eq_29 @da.eq_30) (J @da.eq_31 @da.eq_32))) (J (J (J @da.eq_33 @da.eq_34) (J @da.eq_35 @da.eq_36)) (J (J @da.eq_37 @da.eq_38) (J @da.eq_39 @da.eq_40)))))) (J (J (J (J (J (J (J @da.eq_41 @da.eq_42) @List.map.eq_1.{0,0}) (J @List.map.eq_2.{0,0} @List.length.eq_1.{0})) (J (J @List.length.eq_2.{0} @if_true.{0}) (J @Hm.eq_1 @Hm.eq_2))) (J (J (J @AO.ev.eq_1 @AO.ev.eq_2) (J @AO.ev.eq_3 @Tr.ba)) (J (J @Se.eq_1 @Se.eq_2) (J @gR @rP)))) (J (J (J (J @uH @IM) (J @yN @wK)) (J (J @eI @dR) (J @NQ @UL))) (J (J (J @GG @PI) (J @TG @AV.cells.eq_1)) (J (J @AV.cells.eq_2 @AV.cells.eq_3) (J @PV.cells.eq_1 @PV.cells.eq_2))))) (J (J (J (J (J @DF @sx) (J @Ey.eq_1 @Ey.eq_2)) (J (J @eB.eq_1 @eB.eq_2) (J @Va.eq_1 @Va.eq_2))) (J (J (J @Ab.eq_1 @Ab.eq_2) (J @Ab.eq_3 @Ab.eq_4)) (J (J @Ab.eq_5 @Ab.eq_6) (J @Ab.eq_7 @Ab.eq_8)))) (J (J (J (J @Option.bind_some.{0,0} @Option.map_some.{0,0}) (J @AV.one.eq_1 @AV.one.eq_2)) (J (J @AV.one.eq_3 @AV.one.eq_4) (J @AV.one.eq_5 @AV.one.eq_6))) (J (J (J @List.all.eq_1.{0} @List.all.eq_2.{0}) (J @Bool.and_self @true_and)) (J (J @and_self @and_true) (J @bh.eq_1 @bh.eq_2))))))) (J (J (J (J (J (J (J @bh.eq_3 @bh.eq_4) (J @bh.eq_5 @bh.eq_6)) (J (J @Bool.or_true @Bool.true_or) (J @ZR.eq_1 @ZR.eq_2))) (J (J (J @ZR.eq_3 @ZR.eq_4) (J @asBool.eq_1 @asBool.eq_2)) (J (J @asInt.eq_1 @asInt.eq_2) (J @Bool.not_true @Bool.not_false)))) (J (J (J (J @nm.eq_1 @nm.eq_2) (J @Wo.eq_1 @Ep.eq_1)) (J (J @Bc.eq_1 @Bc.eq_2) (J @Bc.eq_3 @tK))) (J (J (J @sN @cE) (J @pN @XK)) (J (J @uv @BQ) (J @nH.eq_1 @nH.eq_2))))) (J (J (J (J (J @nH.eq_3 @nH.eq_4) (J @nH.eq_5 @Nh.eq_1)) (J (J @Nh.eq_2 @Nh.eq_3) (J @Nh.eq_4 @Nh.eq_5))) (J (J (J @Nh.eq_6 @Nh.eq_7) (J @Nh.eq_8 @Nh.eq_9)) (J (J @Nh.eq_10 @Nh.eq_11) (J @Nh.eq_12 @Nh.eq_13)))) (J (J (J (J @Nh.eq_14 @Nh.eq_15) (J @sm.eq_1 @sm.eq_2)) (J (J @sm.eq_3 @sm.eq_4) (J @sm.eq_5 @sm.eq_6))) (J (J (J @sm.eq_7 @sm.eq_8) (J @sm.eq_9 @sm.eq_10)) (J (J @sm.eq_11 @sm.eq_12) (J @fresh.eq_1 @fresh.eq_2)))))) (J (J (J (J (J (J @fresh.eq_3 @chunk.eq_1) (J @chunk.eq_2 @List.append.eq_1.{0})) (J (J @List.append.eq_2.{0} @List.nil_append.{0}) (J @List.cons_append.{0} @List.getElem?_cons_zero.{0}))) (J (J (J @List.getElem?_cons_succ.{0} @List.getElem?_nil.{0}) (J @List.set_cons_zero.{0} @List.set_cons_succ.{0})) (J (J @List.length_cons.{0} @List.length_nil.{0}) (J @Nat.zero_add @Nat.add_zero)))) (J (J (J (J @List.drop.eq_1.{0} @List.drop.eq_2.{0}) (J @List.drop.eq_3.{0} @List.take.eq_1.{0})) (J (J @List.take.eq_2.{0} @List.take.eq_3.{0}) (J @flat.eq_1 @flat.eq_2))) (J (J (J @Oe.eq_1 @Oe.eq_2) (J @Oe.eq_3 @Oe.eq_4)) (J (J @Oe.eq_5 @bm.eq_1) (J @bm.eq_2 @bm.eq_3))))) (J (J (J (J (J @bm.eq_4 @Bool.false_eq_true) (J @beq_self_eq_true.{0} @bne_self_eq_false.{0})) (J (J @Bool.not_eq_true @decide_true) (J @decide_false @Nat.le_refl))) (J (J (J @Option.bind_none.{0,0} @Option.map_none.{0,0}) (J @xT @wT)) (J (J @yT @NT) (J @nK.eq_1 @Int.cast_ofNat_Int)))) (J (J (J (J @zi.eq_1 @zi.eq_2) (J @Bool.false_and @Bool.and_false)) (J (J @List.headD_cons.{0} @List.headD_nil.{0}) (J @Nat.lt_add_one @Nat.sub_zero))) (J (J (J @List.isEmpty_cons.{0} @List.isEmpty_nil.{0}) (J @AV.free.eq_1 @AV.free.eq_2)) (J (J @AV.free.eq_3 @Bool.or_false) (J @Bool.false_or @Nat.mul_one))))))))
theorem SP:type_of% ZT.down:=ZT.down
def cU:=PLift.up (J (J @Hc.eq_1 @Hc.eq_2) (J @Hc.eq_3 @Hc.eq_4))
theorem SA:type_of% cU.down:=cU.down
def RT:=PLift.up (J (J (J @Pa.eq_1 (J @Pa.eq_2 @Pa.eq_3)) (J (J @na.eq_1 @na.eq_2) (J @na.eq_3 @na.eq_4))) (J (J (J @ng.eq_1 @Gk.eq_1) (J @place.eq_1 @place.eq_2)) (J (J @place.eq_3 @place.eq_4) (J @oa.eq_1 @oa.eq_2))))
theorem SQ:type_of% RT.down:=RT.down
def YT:=PLift.up (J (J (J (J (J (J @ZQ @EJ) (J @EN @wp_map)) (J (J @wp_bind @fw) (J @UK (J @aN @RL)))) (J (J (J @tN @oO) (J @qQ @bS)) (J (J @ML @sL) (J @zN (J @CL @UG))))) (J (J (J (J @pI @EF) (J @gL @VL)) (J (J @TQ @dJ) (J @Int.toNat_natCast (J @xa.eq_1 @tidy.eq_1)))) (J (J (J @Xb.eq_1 @Xb.eq_2) (J @Qa.eq_1 (J @Qa.eq_2 @pa.eq_1))) (J (J @pa.eq_2 @pa.eq_3) (J @pa.eq_4 (J @pa.eq_5 @Ha)))))) (J (J (J (J (J @AV.cut.eq_1 @AV.cut.eq_2) (J @AV.cut.eq_3 @AV.cut.eq_4)) (J (J @AV.cut.eq_5 @AV.cut.eq_6) (J @AV.cut.eq_7 (J @AV.cut.eq_8 @AV.cut.eq_9)))) (J (J (J @AV.cut.eq_10 @AV.cut.eq_11) (J @Sa @yv)) (J (J @fj.eq_1 @AV.cI.eq_1) (J @AV.cI.eq_2 (J @AV.Hs.eq_1 @AV.Hs.eq_2))))) (J (J (J (J @Zb.eq_1 @fa.eq_1) (J @forall_const.{0} @true_implies)) (J (J @false_implies @imp_self) (J @not_true_eq_false (J @not_false_eq_true @Bool.true_eq_false)))) (J (J (J @false_and @and_false) (J @true_or (J @or_true @false_or))) (J (J @or_false @imp_false) (J @AP (J @xK @bP)))))))
theorem WP:type_of% YT.down:=YT.down
def eU:=PLift.up (J (J @ma.eq_1 @ma.eq_2) (J @ma.eq_3 @ma.eq_4))
theorem WQ:type_of% eU.down:=eU.down
def VT:=PLift.up (J SP (J SA WP))
theorem SX:type_of% VT.down:=VT.down
end Go.AM
set_option linter.unusedSimpArgs false
set_option linter.unusedVariables false
namespace Go.AM
open Go.RowKit
def Ef (S:Fa) (L:Nat→Option re):Nat→Fa
 |0=>S
 |d+1=>fun ix args H=>match L ix with
  |some f=>Hd (Ef S L d) f args H
  |none=>S ix args H
theorem JK {P:Program} {fo:Nat→FuncId} {S:Fa} {L:Nat→Option re} (hL:Xh P fo L) (hS:∀ B0:se,cn P fo B0 S):∀ (d:Nat) (B0:se),cn P fo B0 (Ef S L d):=by
 intro d
 induction d with
 |zero=>exact hS
 |succ d ih=>
  intro B0 ix args H v H' w R φ vs hR hl h
  simp only[Ef] at h
  split at h
  ·next f hf=>exact⟨(hL ix f hf).uA,CH (hL ix f hf) ih hR hl h⟩
  ·exact hS B0 ix args H v H' w R φ vs hR hl h
def eG (S:Fa) (L:Nat→Option re) (f:re) (args:List PV):Option PV:=(Hd (Ef S L 8) f (args.map .pv) []).bind fun r=>Ab r.2 deep r.1
theorem MF {P:Program} {fo:Nat→FuncId} {S:Fa} {L:Nat→Option re} (hL:Xh P fo L) (hS:∀ B0:se,cn P fo B0 S) {f:FuncId} {af:re} (hf:zc P fo f af):Ga P f (eG S L af):=IC (JK hL hS 8) hf
def Kr (k off:Nat) (r:List Int):Int:=if r.length=k then r.getD off 0 else 0
def encI (k:Nat) (r:List Int):List Value:=if r.length=k then r.map (.int .i64) else List.replicate k (.int .i64 0)
def ER (k off:Nat) (x y:List Int):Int:=Lib.compareInt (Kr k off x) (Kr k off y)
def Kl (k off:Nat) (D:Array (List Int)):Array (List Int):=Sort.pdq (Proofs.ltOf (ER k off)) D 0 D.size (Lib.bitLen D.size) true true
theorem qT (k off:Nat) (x y:List Int):Proofs.ltOf (ER k off) x y=decide (Kr k off x < Kr k off y):=by
 unfold Proofs.ltOf ER Lib.compareInt
 by_cases h1:Kr k off x < Kr k off y
 ·simp[h1]
 ·by_cases h2:Kr k off y < Kr k off x <;> simp[h1,h2]
theorem OR (k off:Nat):Sort.SWO (Proofs.ltOf (ER k off)) where
 irrefl x:=by rw[qT];simp
 trans x y z h1 h2:=by rw[qT] at *;simp at *;omega
 ntrans x y z h1 h2:=by rw[qT] at *;simp at *;omega
theorem Vu (k off:Nat) (D:Array (List Int)):(Kl k off D).size=D.size∧(Kl k off D).toList.Perm D.toList∧∀ i j,i < j→j < D.size→¬Kr k off (Kl k off D)[j]! < Kr k off (Kl k off D)[i]! :=by
 have h:=Sort.pdq_sorts _ (OR k off) D 0 D.size (Lib.bitLen D.size) true true (Nat.zero_le _) (Nat.le_refl _) (.inl rfl)
 obtain⟨⟨h1,_,h2⟩,h3⟩:=h
 refine⟨h1,?_,fun i j hij hj=> ?_⟩
 ·have e1:((Kl k off D).extract 0 D.size).toList=(Kl k off D).toList:=by
   have:(Kl k off D).size=D.size:=h1
   rw[← this];simp
  have e2:(D.extract 0 D.size).toList=D.toList:=by simp
  rw[← e1,←e2];exact h2
 ·have:=h3 i j (Nat.zero_le _) hij hj
  rw[qT,decide_eq_false_iff_not] at this
  exact this
structure bJ (P:Program) (f g:FuncId) (k off:Nat):Prop where
 call:qp P f
 many:∀ (blk ofs cap:Nat) (D:Array (List Int)) (w:World),Sort.HoldsK (encI k) k w blk ofs D→blk < w.heap.size→D.size < 4611686018427387904→
  Calls P f #[.slice (some ⟨blk,ofs,none⟩) D.size cap,.func (.func g) #[] #[]] w fun e w'=>e= .returned (.tuple #[])∧∃ n os,w'=Proofs.sortWorldK (encI k) k w blk ofs n (Kl k off D) os
 none:∀ (p:Option Addr) (cap:Nat) (w:World),Calls P f #[.slice p 0 cap,.func (.func g) #[] #[]] w fun e w'=>e= .returned (.tuple #[])∧w'=w
def Jz:List AV→Option (List Int)
 | []=>some []
 | .pv (.int .i64 n)::r=>(Jz r).map (n:: ·)
 |_=>none
abbrev ae (l:List Int):List AV:=l.map fun n=> .pv (.int .i64 n)
theorem Gz:∀ {c:List AV} {F:List Int},Jz c=some F→c=ae F
 | [],F,h=>by injection h with h;subst h;rfl
 | .pv (.int .i64 n)::r,F,h=>by
   simp only[Jz,Option.map_eq_some_iff] at h
   obtain⟨F',h1,rfl⟩:=h
   rw[Gz h1];rfl
theorem iq:∀ (F:List Int),Jz (ae F)=some F
 | []=>rfl
 |n::F=>by show (Jz (ae F)).map (n:: ·)=_;rw[iq F];rfl
def Df (k:Nat):Nat→List Int→List (List Int)
 |0,_=>[]
 |n+1,F=>F.take k::Df k n (F.drop k)
theorem Xx (k:Nat):∀ (n:Nat) (F:List Int),(Df k n F).length=n
 |0,_=>rfl
 |n+1,F=>by rw[Df,List.length_cons,Xx k n]
theorem Sx {k:Nat}:∀ {n:Nat} {F:List Int},F.length=n * k→∀ r∈Df k n F,r.length=k
 |n+1,F,h,r,hr=>by
  rw[Nat.add_mul] at h
  rcases List.mem_cons.1 hr with rfl | hr
  ·rw[List.length_take];omega
  ·exact Sx (F:=F.drop k) (by rw[List.length_drop];omega) r hr
theorem Uv {k:Nat}:∀ {n:Nat} {F:List Int},F.length=n * k→(Df k n F).flatten=F
 |0,F,h=>by
  have:F=[]:=List.eq_nil_of_length_eq_zero (by omega)
  subst this;rfl
 |n+1,F,h=>by
  rw[Nat.add_mul] at h
  rw[Df,List.flatten_cons,Uv (F:=F.drop k) (by rw[List.length_drop];omega),List.take_append_drop]
def Iv (k off g:Nat):List AV→List aa→Option (AV×List aa)
 | [.own id len,.mi c []],H=>match H[id]? with
   |some (.seq sz ag cells fl nl)=>if c=g∧sz=k∧len * k=cells.length∧len < 4611686018427387904 then (Jz cells).map fun F=>(.pv (.bc []),H.set id (.seq k ag (ae (Kl k off (Df k len F).toArray).toList.flatten) cells.length nl)) else none
   |_=>none
 |_,_=>none
theorem UQ {k:Nat} (hk:0 < k) {D:List (List Int)} (h:∀ r∈D,r.length=k) {t:Nat} (ht:t < D.length * k):∃ (h1:t / k < D.length),D.flatten[t]? =D[t / k][t % k]? :=by
 have h1:t / k < D.length:=Nat.div_lt_of_lt_mul (by rw[Nat.mul_comm];exact ht)
 refine⟨h1,?_⟩
 have h2:=So.Dp (sz:=k) h1 h
 rw[← h2,List.getElem?_take_of_lt (Nat.mod_lt _ hk),List.getElem?_drop]
 congr 1
 have:=Nat.div_add_mod t k
 rw[Nat.mul_comm] at this;exact this.symm
theorem RB {k:Nat} {D:Array (List Int)} (h:∀ r∈D.toList,r.length=k) {t:Nat} (ht:t < D.size * k):∃ n,D.toList.flatten[t]? =some n∧(Sort.flatK (encI k) k D)[t]! = .int .i64 n:=by
 have hk:0 < k:=by rcases Nat.eq_zero_or_pos k with e | e;rw[e] at ht;omega;exact e
 obtain⟨h1,h2⟩:=UQ hk h (t:=t) (by simpa using ht)
 have h1':t / k < D.size:=by simpa using h1
 have hr:=h _ (List.getElem_mem h1)
 have hm:t % k < (D.toList[t / k]).length:=by rw[hr];exact Nat.mod_lt _ hk
 refine⟨(D.toList[t / k])[t % k],by rw[h2,List.getElem?_eq_getElem hm],?_⟩
 rw[Sort.get_flatK _ _ _ _ ht,getElem!_pos D _ h1']
 have e:D[t / k]=D.toList[t / k]:=by simp
 rw[e,encI,if_pos hr,List.getElem!_eq_getElem?_getD,List.getElem?_map,List.getElem?_eq_getElem hm];rfl
theorem BE (d arr:Array Value) {t:Nat} (ht:t < d.size) (hl:d.size≤arr.size):(Sort.putCells id 0 d arr)[t]? =some d[t]! :=by
 unfold Sort.putCells
 rw[Array.getElem?_mapIdx,Array.getElem?_eq_getElem (by omega)]
 simp only[Option.map_some,Option.some.injEq]
 rw[if_pos ⟨Nat.zero_le _,by omega⟩,Nat.sub_zero];rfl
theorem SE (k:Nat) (w:World) {b:Nat} {arr:Array Value} {ty:TypeId} {fz:Nat×Nat} (hb:w.heap[b]? =some (.cells arr ty fz)) (m:Nat) (D:Array (List Int)) (os:Array Obj):
 (Proofs.sortWorldK (encI k) k w b 0 m D os).heap[b]? =some (.cells (Sort.putCells id 0 (Sort.flatK (encI k) k D) arr) ty fz)∧(∀ c,c < w.heap.size→c≠b→(Proofs.sortWorldK (encI k) k w b 0 m D os).heap[c]? =w.heap[c]?)∧w.heap.size≤(Proofs.sortWorldK (encI k) k w b 0 m D os).heap.size:=by
 have hlt:b < w.heap.size:=(Array.getElem?_eq_some_iff.1 hb).1
 have e:(Proofs.sortWorldK (encI k) k w b 0 m D os).heap=w.heap.modify b (Sort.onCells (Sort.putCells id 0 (Sort.flatK (encI k) k D)))++os:=rfl
 rw[e]
 refine⟨?_,fun c hc hne=> ?_,by simp⟩
 ·rw[Array.getElem?_append_left (by simpa using hlt),Array.getElem?_modify,if_pos rfl,hb];rfl
 ·rw[Array.getElem?_append_left (by simpa using hc),Array.getElem?_modify,if_neg (Ne.symm hne)]
theorem JE {fo:Nat→FuncId} {R:Rd} {φ:Pl} {H:List aa}:∀ {F:List Int} {vs:List Value},La fo (K R φ H) (ae F) vs→vs=F.map (.int .i64)
 | [],vs,h=>by cases h;rfl
 |n::F,vs,h=>by
  cases h with
  |cons _ _ v us h1 h2=>
   rw[JE h2]
   have:=h1.qb
   cases this;rfl
theorem HF {fo:Nat→FuncId} {R:Rd} {φ:Pl} {H:List aa}:∀ (F:List Int),La fo (K R φ H) (ae F) (F.map (.int .i64))
 | []=> .nil
 |n::F=> .cons _ _ _ _ (.atom _ _ (show Ea _ _ _ from .int _ _)) (HF F)
theorem kG {P:Program} {fo:Nat→FuncId} {s g k off:Nat} (hS:bJ P (fo s) (fo g) k off) (B0:se):cn P fo B0 fun ix args H=>if ix=s then Iv k off g args H else none:=by
 intro ix args H v H' w R φ vs hR hl h
 dsimp only at h
 split at h
 ·next he=>
  subst he
  refine⟨hS.call,?_⟩
  unfold Iv at h
  split at h
  ·next H1 oid len c=>
   split at h
   ·next sz ag cells fl nl hc=>
    split at h
    ·next hcd=>
     obtain⟨rfl,rfl,hlen,hbig⟩:=hcd
     rw[Option.map_eq_some_iff] at h
     obtain⟨F,hF,hv⟩:=h
     injection hv with hv1 hv2
     subst hv1 hv2
     have hcF:=Gz hF
     obtain⟨x,us,rfl,hx,hl2⟩:∃ x us,vs=x::us∧Yb fo (K R φ H) (.own oid len) x∧La fo (K R φ H) [.mi c []] us:=by
      cases hl with | cons _ _ x us h1 h2=>exact⟨x,us,rfl,h1,h2⟩
     obtain⟨rfl⟩:us=[.func (.func (fo c)) #[] #[]]:=by
      cases hl2 with
      |cons _ _ y zs h1 h2=>
       cases h2
       cases h1 with
       |atom _ _ h=>exact h.elim
       |mi _ _ _ h=>cases h;rfl
     have hk1:K R φ H (.own oid len) x:=by cases hx with | atom _ _ h=>exact h
     obtain⟨g0,g1,g2⟩:=hk1
     obtain⟨q1,q2⟩:=g2 _ _ _ _ _ hc
     obtain⟨o0,o1,o2,o3,o4⟩:=hR.obj oid _ hc
     obtain⟨q3,q4⟩:=q2 (by omega)
     have hFl:F.length=len * sz:=by rw[hcF,List.length_map] at hlen;exact hlen.symm
     have hDl:(Df sz len F).toArray.size=len:=by simp[Xx]
     have hDr:∀ r∈(Df sz len F).toArray.toList,r.length=sz:=fun r hr=>Sx hFl r (by simpa using hr)
     have hDf:(Df sz len F).toArray.toList.flatten=F:=by simpa using Uv hFl
     obtain⟨s1,s2,s3⟩:=Vu sz off (Df sz len F).toArray
     have hrow:∀ r∈(Kl sz off (Df sz len F).toArray).toList,r.length=sz:=fun r hr=>hDr r (s2.mem_iff.1 hr)
     have hfl:(Kl sz off (Df sz len F).toArray).toList.flatten.length=cells.length:=by
      rw[So.dp hrow,Array.length_toList,s1,hDl,hlen]
     generalize hDD:(Df sz len F).toArray=D at *
     generalize hEE:Kl sz off D=E at *
     have hk:=fun a v=>K.mK (R:=R) (φ:=φ) (ag':=ag) (c':=ae E.toList.flatten) hc o1 (by rw[List.length_map];exact hfl) a v
     cases nl with
     |true=>
      have hx0:=q3 rfl
      have hce:=o2 rfl
      subst hx0
      have hl0:len=0:=by
       rw[hce] at hlen
       rcases Nat.mul_eq_zero.1 hlen with h | h <;> omega
      subst hl0
      refine (hS.none none 0 w).mono ?_
      rintro e w' ⟨rfl,rfl⟩
      refine⟨_,R,wj φ oid (φ oid),rfl,?_,.atom _ _ (show Ea _ _ _ from .bc _ _ .nil),hk,Ve.refl _ _⟩
      refine hR.wj (w':=w') hc (Nat.le_refl _) (fun _ _ _=>rfl) (fun _ _ _ _=>rfl) hR.sub hk (fun h=>by cases h) ?_
      have h0:E.toList.flatten=[]:=List.eq_nil_of_length_eq_zero (by rw[hfl,hce];rfl)
      rw[h0]
      exact⟨o0,by rw[hce];exact Nat.le_refl _,fun _=>rfl,rfl,fun h=>by cases h⟩
     |false=>
      obtain⟨k1,k2,arr,⟨ty,fz,k3,hfz⟩,k4,k5,k6⟩:=o4 rfl
      rcases q4 rfl with⟨hl0,hne,_⟩ | ⟨b,o,cap,hxv,hbo,_⟩
      ·rw[hl0,Nat.zero_mul] at hlen
       exact absurd (List.eq_nil_of_length_eq_zero hlen.symm) hne
      ·obtain⟨rfl,rfl,rfl⟩:=hbo hlen
       subst hxv
       have hblk:(φ oid).1 < w.heap.size:=Xt.lt ⟨ty,fz,k3,hfz⟩
       have hrel:La fo (K R φ H) (ae F) (arr.toList.take cells.length):=by rw[← hcF];exact k6
       have hvals:=JE hrel
       have hholds:Sort.HoldsK (encI sz) sz w (φ oid).1 0 D:=by
        intro j hj
        rw[Sort.size_flatK,hDl] at hj
        obtain⟨n,e1,e2⟩:=RB hDr (t:=j) (by rw[hDl];exact hj)
        rw[Nat.zero_add,Xt.cell ⟨ty,fz,k3,hfz⟩,Xt.frozen ⟨ty,fz,k3,hfz⟩ (by omega),e2]
        rw[hDf] at e1
        have e3:(arr.toList.take cells.length)[j]? =some (.int .i64 n):=by rw[hvals,List.getElem?_map,e1];rfl
        rw[List.getElem?_take_of_lt (by omega)] at e3
        exact⟨by rw[← Array.getElem?_toList];exact e3,rfl⟩
       have hmany:=hS.many (φ oid).1 0 (φ oid).2 D w hholds hblk (by rw[hDl];exact hbig)
       rw[hDl] at hmany
       refine hmany.mono ?_
       rintro e w' ⟨rfl,m,os,rfl⟩
       rw[hEE]
       obtain⟨w1,w2,w3⟩:=SE sz w k3 m E os
       have hbel:Ve B0 w (Proofs.sortWorldK (encI sz) sz w (φ oid).1 0 m E os):= .bD k3 rfl rfl rfl rfl w3 k1 hR.slt (hR.free oid ⟨_,hc,rfl⟩) fun b hb hne=>w2 b hb hne
       generalize Proofs.sortWorldK (encI sz) sz w (φ oid).1 0 m E os=w' at *
       refine⟨_,R,wj φ oid (φ oid),rfl,?_,.atom _ _ (show Ea _ _ _ from .bc _ _ .nil),hk,?_⟩
       ·refine hR.wj (w':=w') hc w3 (fun b hb hne=>w2 b hb (hne rfl)) (fun _ _ _ _=>rfl) (fun b o v hv=> ?_) hk (fun _=> .inl ⟨rfl,rfl⟩) ?_
        ·have hne:b≠(φ oid).1:=fun e=>by subst e;rw[k2] at hv;cases hv
         have hs:=hR.sub b o v hv
         have hblt:b < w.heap.size:=by
          rcases Nat.lt_or_ge b w.heap.size with h | h
          ·exact h
          ·simp[World.cell?,Array.getElem?_eq_none h] at hs
         rw[Ud (w2 b hblt hne)];exact hs
        ·refine⟨o0,by rw[List.length_map,hfl];exact Nat.le_refl _,(fun h=>by cases h),?_,fun _=> ?_⟩
         ·rw[List.all_eq_true]
          intro a ha
          obtain⟨n,_,rfl⟩:=List.mem_map.1 ha
          rfl
         ·rw[Xa]
          have hsz:(Sort.putCells id 0 (Sort.flatK (encI sz) sz E) arr).size=arr.size:=by simp[Sort.putCells]
          have hfk:(Sort.flatK (encI sz) sz E).size=cells.length:=by rw[Sort.size_flatK,s1,hDl,hlen]
          refine⟨k1,k2,_,⟨ty,fz,w1,fun o ho=>hfz o (by rw[← hsz];exact ho)⟩,by rw[hsz];exact k4,by rw[hsz,List.length_map,hfl];exact k5,?_⟩
          have he:(Sort.putCells id 0 (Sort.flatK (encI sz) sz E) arr).toList.take (ae E.toList.flatten).length=E.toList.flatten.map (.int .i64):=by
           apply List.ext_getElem?
           intro t
           rw[List.length_map,hfl]
           rcases Nat.lt_or_ge t cells.length with ht | ht
           ·obtain⟨n,e1,e2⟩:=RB hrow (t:=t) (by rw[s1,hDl,hlen];exact ht)
            rw[List.getElem?_take_of_lt ht,Array.getElem?_toList,BE _ _ (by rw[hfk];exact ht) (by omega),e2,List.getElem?_map,e1];rfl
           ·rw[List.getElem?_eq_none (by rw[List.length_take];omega),List.getElem?_eq_none (by rw[List.length_map,hfl];exact ht)]
          rw[he]
          exact HF _
       ·exact hbel
    ·cases h
   ·cases h
  ·cases h
 ·cases h
end Go.AM
