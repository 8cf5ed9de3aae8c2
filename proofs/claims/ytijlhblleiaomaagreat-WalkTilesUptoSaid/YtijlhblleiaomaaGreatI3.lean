/- The abstract machine: its functions compute what the model's functions do; a law's call; conditions. -/
import Derived.Test.YtijlhblleiaomaaGreatI2
import Derived.Scope
import Derived.LoopN
import Derived.ProofKit
import Derived.Carry
import Derived.SizedLaws
import Derived.OpenShut
import Derived.Handed
import Derived.Shelf.SlSortCmp.NoneTotal
set_option linter.unusedSimpArgs false
set_option linter.unusedVariables false
namespace Go.AM
open Go.RowKit
def Ot (P:Program) (f:FuncId):Prop:=∃ fn c,P.funcs[f]? =some fn∧fn.body=some c∧(fn.name== "runtime.NumGoroutine")=false
def Na (P:Program) (f:FuncId) (F:List PV→Option PV):Prop:=
 Ot P f∧∀ (w:World) (R:Rd) (args:List PV) (vs:List Value) (r:PV),(∀ b o v,R b o=some v→w.cell? ⟨b,o,none⟩=some v)→Ae R args vs→F args=some r→
  Calls P f ⟨vs⟩ w fun e w'=>∃ v R',e= .returned v∧Below w.heap.size w w'∧Sa R' r v∧(∀ b o,b < w.heap.size→R' b o=R b o)∧∀ b o v,R' b o=some v→w'.cell? ⟨b,o,none⟩=some v
def wX (fo:Nat→FuncId) (B0:Of) (w:World) (R:Rd) (φ:Pl) (H:List ba) (v:AV) (H':List ba) (e:Ending) (w':World):Prop:=
 ∃ u R' φ',e= .returned u∧ic fo B0 w' R' φ' H'∧Kc fo (K R' φ' H') v u∧(∀ x u,K R φ H x u→K R' φ' H' x u)∧zg B0 w w'
def Bq (P:Program) (fo:Nat→FuncId) (B0:Of) (call:Wa):Prop:=
 ∀ (ix:Nat) (args:List AV) (H:List ba) (v:AV) (H':List ba) (w:World) (R:Rd) (φ:Pl) (vs:List Value),ic fo B0 w R φ H→fb fo (K R φ H) args vs→call ix args H=some (v,H')→
  Ot P (fo ix)∧Calls P (fo ix) ⟨vs⟩ w (wX fo B0 w R φ H v H')
def YE (P:Program) (fo:Nat→FuncId):Op→qd→Bool
 | .call {callee:= .value (.func _),args,..},.Bn _ ys=>PE fo args.toList ys
 | .call {callee:= .value (.func f),args,..},.tj ix ys=>fo ix==f&&PE fo args.toList ys
 | .call {callee:= .value x,args,..},.OB y ys=>Zl fo x y&&PE fo args.toList ys
 |_,_=>false
def mN:Op→qd→List (FuncId×(List PV→Option PV))
 | .call {callee:= .value (.func f),..},.Bn F _=>[(f,F)]
 |_,_=>[]
section
variable {P:Program} {fo:Nat→FuncId} {B0:Of} {call:Wa}
theorem cv {f:FuncId} (hf:Ot P f) {caps args:Array Value} (w:World):(invoke (.fn (.func f) caps) args).run P w= .ok (.enter f (args++caps)) w:=by
 obtain⟨fn,c,h1,h2,h3⟩:=hf
 have h3':¬fn.name= "runtime.NumGoroutine" :=by simpa using h3
 simp[invoke,callFunc,h1,h2,h3']
theorem PQ {o:Oper} {op:Op} {aop:qd} (ho:o.op=op) (Ba:YE P fo op aop=true) (hd:∀ d∈mN op aop,Na P d.1 d.2) (hc:Bq P fo B0 call)
 {w:World} {R:Rd} {φ:Pl} {e:Tr} {H H':List ba} {a:Act} {v:AV} (hS:ic fo B0 w R φ H) (hE:ri fo (K R φ H) e a) (hev:ya call e H aop=some (v,H')):xz P fo B0 o a w R φ H v H':=by
 intro next Q hn
 unfold YE at Ba
 split at Ba
 ·
  rename_i f args tys F ys
  have hpf:=hd (f,F) (by simp[mN])
  obtain⟨hcal,hp⟩:=hpf
  simp only[ya,Option.bind_eq_some_iff] at hev
  obtain⟨ps,h1,r,h2,h3⟩:=hev
  split at h3
  ·rename_i hfree
   simp only[Option.some.injEq,Prod.mk.injEq] at h3
   obtain⟨rfl,rfl⟩:=h3
   have hl:=Nu (R:=R) (φ:=φ) (H:=H) hE Ba
   have hrun:(execOp a.eval o).run P w= .ok (.enter f ⟨args.toList.map a.eval⟩) w:=by
    have:=cv (P:=P) hcal (caps:= #[]) (args:= #[]++args.map a.eval) w
    simp only[execOp,ho,resolve,Act.eval,Deferred.ofValue,Sem.run_bind,Sem.run_pure,Result.andThen_ok,this]
    congr 2
    apply Array.ext'
    simp
   unfold Oper.wp
   rw[hrun,Oper.upon_enter]
   have fin:∀ (R1:Rd),(∀ b o v,R1 b o=some v→w.cell? ⟨b,o,none⟩=some v)→Ae R1 ps (args.toList.map a.eval)→(∀ {R':Rd} {v:Value},(∀ b o,b < w.heap.size→R' b o=R1 b o)→(∀ b o v,R' b o=some v→R1 b o=some v∨w.heap.size≤b)→Sa R' r v→Sa (fun b o=>if b < w.heap.size then R b o else R' b o) r v)→
    Calls P f ⟨args.toList.map a.eval⟩ w fun x w''=>match x,w'' with
     | .returned v,w''=>next (a.put o.dst v) w''
     | .panicked chain,w''=>Q (.panic chain) a w''
     | .outgrown,_=>LetsOut Q:=by
    intro R1 hR1 hl1 hres
    refine Calls.mono (hp w R1 ps _ r hR1 hl1 h2) ?_
    rintro e w' ⟨v,R',rfl,hb,hv,hsame,hcell⟩
    simp only
    have hsub:Sub R (fun b o=>if b < w.heap.size then R b o else R' b o):=by
     intro b o v h
     have:=ql (hS.sub b o v h)
     simp[this,h]
    have hk:=fun x u h=>K.sub (R:=R) (φ:=φ) (H:=H) hsub x u h
    refine hn v w' (fun b o=>if b < w.heap.size then R b o else R' b o) φ ⟨Nat.le_trans hS.low hb.size,fun b o v h=> ?_,fun id ob hob=> ?_,hS.inj,fun b o hlt=> ?_,fun k hk=>Nat.lt_of_lt_of_le (hS.slt k hk) hb.size,hS.free⟩ (.atom _ _ (show Sa _ _ _ from ?_)) hk (.Sw hb hS.low hS.slt)
    ·try dsimp only at h
     split at h
     ·rename_i hlt
      rw[tf (hb.block b hlt)];exact hS.sub b o v h
     ·exact hcell b o v h
    ·have hO:=hS.obj id ob hob
     exact hO.Je (fun hl=>⟨hb.block _ (hO.lt hl),fun j hj=>by (try dsimp only);rw[if_pos (hO.lt hl)];exact hj⟩) rfl hk
    ·have:=hS.low
     try dsimp only
     rw[if_pos (by omega)];exact hS.Ko b o hlt
    ·refine hres hsame (fun b o v h=> ?_) hv
     rcases Nat.lt_or_ge b w.heap.size with hlt | hge
     ·rw[hsame b o hlt] at h;exact .inl h
     ·exact .inr hge
   simp only[Bool.or_eq_true] at hfree
   rcases hfree with hfree | hflat
   ·refine fin R hS.sub (sN (w:=w) hfree hl h1) fun {R' v} hsame _ hv=>hv.mono fun b o u hu=> ?_
    try dsimp only
    split
    ·rename_i hlt;rw[← hsame b o hlt];exact hu
    ·exact hu
   ·exact fin (Rw w) (fun b o v h=>h) (RR hS hl h1) fun {R' v} _ _ hv=>FL hflat hv
  ·cases h3
 ·
  rename_i f args tys ix ys
  simp only[Bool.and_eq_true,beq_iff_eq] at Ba
  obtain⟨rfl,Ba⟩:=Ba
  have hl:=Nu (R:=R) (φ:=φ) (H:=H) hE Ba
  simp only[ya] at hev
  obtain⟨hcal,hcc⟩:=hc ix _ H v H' w R φ _ hS hl hev
  have hrun:(execOp a.eval o).run P w= .ok (.enter (fo ix) ⟨args.toList.map a.eval⟩) w:=by
   have:=cv (P:=P) hcal (caps:= #[]) (args:= #[]++args.map a.eval) w
   simp only[execOp,ho,resolve,Act.eval,Deferred.ofValue,Sem.run_bind,Sem.run_pure,Result.andThen_ok,this]
   congr 2
   apply Array.ext'
   simp
  unfold Oper.wp
  rw[hrun,Oper.upon_enter]
  refine Calls.mono hcc ?_
  rintro e w' ⟨u,R',φ',rfl,k1,k2,k3,k4⟩
  exact hn u w' R' φ' k1 k2 k3 k4
 ·
  rename_i x args tys y ys
  simp only[Bool.and_eq_true] at Ba
  obtain⟨hx,Ba⟩:=Ba
  have hl:=Nu (R:=R) (φ:=φ) (H:=H) hE Ba
  have hxr:=Pb (R:=R) (φ:=φ) (H:=H) hE hx
  simp only[ya] at hev
  split at hev
  ·rename_i ix caps hy
   rw[hy] at hxr
   have hcr:∃ us:List Value,a.eval x= .func (.func (fo ix)) #[] ⟨us⟩∧fb fo (K R φ H) caps us:=by
    generalize a.eval x=vx at hxr
    cases hxr with
    |atom _ _ h=>exact h.elim
    |Fk _ _ us h=>exact⟨us,rfl,h⟩
   obtain⟨us,hu,hur⟩:=hcr
   obtain⟨hcal,hcc⟩:=hc ix _ H v H' w R φ _ hS (hl.append hur) hev
   have hrun:(execOp a.eval o).run P w= .ok (.enter (fo ix) ⟨args.toList.map a.eval++us⟩) w:=by
    have:=cv (P:=P) hcal (caps:=⟨us⟩) (args:= #[]++args.map a.eval) w
    simp only[execOp,ho,resolve,hu,Deferred.ofValue,Sem.run_bind,Sem.run_pure,Result.andThen_ok,this]
    congr 2
    apply Array.ext'
    simp
   unfold Oper.wp
   rw[hrun,Oper.upon_enter]
   refine Calls.mono hcc ?_
   rintro e w' ⟨u,R',φ',rfl,k1,k2,k3,k4⟩
   exact hn u w' R' φ' k1 k2 k3 k4
  ·cases hev
 ·cases Ba
mutual
def rQ:PV→Value
 | .int k n=> .int k n
 | .bool b=> .bool b
 | .str s=> .string s
 | .Sg=> .pointer none
 | .ma=> .slice none 0 0
 | .Lw=> .map none
 | .Ov=> .nilFunc
 | .qC=> .nilIface
 | .agg cs=> .agg ⟨Kp cs⟩
 | .mc cs=> .tuple ⟨Kp cs⟩
 |_=>undef
def Kp:List PV→List Value
 | []=>[]
 |c::cs=>rQ c::Kp cs
end
mutual
theorem OO {R:Rd}:∀ {p:PV},Il p=true→Sa R p (rQ p)
 | .int _ _,_=> .int _ _
 | .bool _,_=> .bool _
 | .str _,_=> .str _
 | .Sg,_=> .Sg
 | .ma,_=> .ma
 | .Lw,_=> .Lw
 | .Ov,_=> .Ov
 | .qC,_=> .qC
 | .agg cs,h=> .agg _ _ (nE (by simpa[Il] using h))
 | .mc cs,h=> .mc _ _ (nE (by simpa[Il] using h))
 | .rp _ _,h=>by simp[Il] at h
 | .lit _ _,h=>by simp[Il] at h
 | .iface _ _,h=>by simp[Il] at h
theorem nE {R:Rd}:∀ {ps:List PV},Fp ps=true→Ae R ps (Kp ps)
 | [],_=> .nil
 |p::ps,h=>by
  simp only[Fp,Bool.and_eq_true] at h
  exact .cons _ _ _ _ (OO h.1) (nE h.2)
end
structure bp (P:Program) (f:FuncId) (F:List PV→Option (List (List PV))):Prop where
 call:Ot P f
 go:∀ (caps:List PV) (vs:List Value) (xs:List (List PV)),F caps=some xs→(∀ x∈xs,Fp x=true)→∀ (R:Rd) (l:Nat) (J:Nat→(Nat→Prop)→World→Prop) (Jx:World→Prop) (W:World),Ae R caps vs→(∀ b o v,R b o=some v→W.cell? ⟨b,o,none⟩=some v)→
  (∀ (i:Nat) (T:Nat→Prop) (A B:World) (T':Nat→Prop),J i T A→RowKit.Below A.heap.size A B→(∀ k,T' k→T k∨(A.heap.size≤k∧k < B.heap.size))→J i T' B)→(∀ A B,Jx A→RowKit.Below A.heap.size A B→Jx B)→
  (∀ i T A,J i T A→∃ R':Rd,(∀ b o v,R' b o=some v→A.cell? ⟨b,o,none⟩=some v)∧∀ p v,Sa R p v→Sa R' p v)→
  (∀ i x T A,xs[i]? =some x→J i T A→YieldAt Fence.wide 0 P l ⟨Kp x⟩ A fun e B=>(e= .returned (.bool true)∧J (i+1) T B∧∀ k,T k→B.heap[k]? =A.heap[k]?)∨(e= .returned (.bool false)∧Jx B))→
  J 0 (fun _=>False) W→Calls P f ⟨.func (.yield l) #[] #[]::vs⟩ W fun e B=>(∃ v,e= .returned v)∧((∃ T,J xs.length T B)∨Jx B)
def eY:Obj→Bool
 | .loop _=>true
 | .deferred _=>true
 |_=>false
theorem VA.apart {w:World} {R:Rd} {φ:Pl} {H:List ba} {id:Nat} {o:ba} (h:VA fo B0 w R φ H id o) (hl:Ao o) {l:Nat} {ob:Obj} (hb:w.heap[l]? =some ob) (hk:eY ob=true):(φ id).1≠l:=by
 have cells:∀ arr,Mx w (φ id).1 arr→(φ id).1≠l:=by
  rintro arr ⟨ty,fz,h1,_⟩ e
  rw[e,hb] at h1;cases h1;cases hk
 cases o with
 |box c=>obtain⟨_,_,_,arr,h3,_⟩:=h;exact cells arr h3
 |seq sz ag c fl nl=>obtain⟨_,_,arr,h3,_⟩:=h.2.2.2.2 hl;exact cells arr h3
 |tok sz n nl=>obtain⟨_,_,arr,h3,_⟩:=h.2.2 hl;exact cells arr h3
 |map es=>
  obtain⟨_,_,ents,clk,h3,_⟩:=h
  intro e
  rw[e,hb] at h3;cases h3;cases hk
 |dead=>exact hl.elim
theorem ic.later {A B:World} {R:Rd} {φ:Pl} {H:List ba} (h:ic fo B0 A R φ H) (hb:RowKit.Below A.heap.size A B):ic fo B0 B R φ H:=
 ⟨Nat.le_trans h.low hb.size,fun b o v hv=>by have:=h.sub b o v hv;rw[tf (hb.block b (ql this))];exact this,
  fun id o ho=>(h.obj id o ho).Je (fun hl=>⟨hb.block _ ((h.obj id o ho).lt hl),fun _ hj=>hj⟩) rfl fun _ _ h=>h,h.inj,h.Ko,fun k hk=>Nat.lt_of_lt_of_le (h.slt k hk) hb.size,h.free⟩
theorem ic.xW {A:World} {R:Rd} {φ:Pl} {H:List ba} (h:ic fo B0 A R φ H) {l:Nat} {ob:Obj} (hb:A.heap[l]? =some ob) (hk:eY ob=true) (o':Obj):ic fo B0 (A.putObj l o') R φ H:=by
 have ne:∀ b o v,R b o=some v→b≠l:=by
  intro b o v hv e
  have:=h.sub b o v hv
  rw[e] at this
  simp only[World.cell?,hb] at this
  cases ob <;> first | (cases hk;done) | simp at this
 refine⟨by rw[World.putObj_size];exact h.low,fun b o v hv=>by have:=h.sub b o v hv;rw[tf (World.putObj_heap_other (ne b o v hv))];exact this,
  fun id o ho=>(h.obj id o ho).Je (fun hl=>⟨World.putObj_heap_other ((h.obj id o ho).apart hl hb hk),fun _ hj=>hj⟩) rfl fun _ _ h=>h,h.inj,h.Ko,fun k hk=>by rw[World.putObj_size];exact h.slt k hk,h.free⟩
theorem zg.put {w A:World} (h:zg B0 w A) (h0:B0.n≤w.heap.size) (hs:∀ k,B0.S k→k < w.heap.size) {l:Nat} (hl:w.heap.size≤l) (o':Obj):zg B0 w (A.putObj l o'):=
 ⟨⟨h.os,h.tape,h.output,by rw[World.putObj_size];exact h.size,fun k hk=>by rw[World.putObj_heap_other (by omega)];exact h.block k hk⟩,
  fun k o h1 h2=>by rw[World.putObj_heap_other (by have:=Wl h1;omega)];exact h.Je k o h1 h2,
  fun k hk=>by rw[World.putObj_heap_other (by have:=hs k hk;omega)];exact h.held k hk⟩
theorem zg.later {w A B:World} (h:zg B0 w A) (h0:B0.n≤w.heap.size) (hs:∀ k,B0.S k→k < w.heap.size) (hb:RowKit.Below A.heap.size A B):zg B0 w B:=
 h.trans (.Sw hb (Nat.le_trans h0 h.size) fun k hk=>Nat.lt_of_lt_of_le (hs k hk) h.size)
def Of.and (B:Of) (T:Nat→Prop):Of:=⟨B.n,B.R,fun k=>B.S k∨T k⟩
theorem ic.weaken {T:Nat→Prop} {A:World} {R:Rd} {φ:Pl} {H:List ba} (h:ic fo (B0.and T) A R φ H):ic fo B0 A R φ H:=
 ⟨h.low,h.sub,fun id o ho=>by have:=h.obj id o ho;cases o <;> exact this,h.inj,h.Ko,fun k hk=>h.slt k (.inl hk),fun i hi hs=>h.free i hi (.inl hs)⟩
theorem ic.grow {T T':Nat→Prop} {A B:World} {R:Rd} {φ:Pl} {H:List ba} (h:ic fo (B0.and T) A R φ H) (hb:RowKit.Below A.heap.size A B) (ht:∀ k,T' k→T k∨(A.heap.size≤k∧k < B.heap.size)):ic fo (B0.and T') B R φ H:=by
 have h':=h.later hb
 refine⟨h'.low,h'.sub,fun id o ho=>by have:=h'.obj id o ho;cases o <;> exact this,h'.inj,h'.Ko,fun k hk=> ?_,fun i hi hs=> ?_⟩
 ·rcases hk with hk | hk
  ·exact h'.slt k (.inl hk)
  ·rcases ht k hk with hk | hk
   ·exact h'.slt k (.inr hk)
   ·exact hk.2
 ·rcases hs with hs | hs
  ·exact h.free i hi (.inl hs)
  ·rcases ht _ hs with hs | hs
   ·exact h.free i hi (.inr hs)
   ·obtain⟨o,ho,hl⟩:=hi
    have:=(h.obj i o ho).lt hl
    omega
theorem zg.weaken {T:Nat→Prop} {w A:World} (h:zg (B0.and T) w A):zg B0 w A:=⟨h.toBelow,h.Je,fun k hk=>h.held k (.inl hk)⟩
theorem KB (f:List PV→List ba→Option (Ex×St)):∀ (pre post:List (List PV)) {H H1:List ba},ui f pre H=some (.norm,H1)→ui f (pre++post) H=ui f post H1:=by
 intro pre
 induction pre with
 |nil=>
  intro post H H1 h
  simp only[ui] at h
  injection h with h;injection h with _ h;subst h;rfl
 |cons x pre ih=>
  intro post H H1 h
  simp only[ui,List.cons_append] at h ⊢
  cases hf:f x H with
  |none=>rw[hf] at h;cases h
  |some r=>
   obtain⟨ex,s⟩:=r
   rw[hf] at h
   cases ex with
   |norm=>exact ih post h
   |exit id=>simp only[Pz] at h;injection h with h;injection h with h _;cases h
   |ret=>simp only[Pz] at h;injection h with h;injection h with h _;cases h
theorem iR {g:List ba→Option (Ex×List ba)} {ex:Ex} {s:St} {r:Ex×List ba} (hx:ex≠ .norm) (h:Pz g (some (ex,s))=some r):r=(ex,s.H):=by
 cases ex with
 |norm=>exact absurd rfl hx
 |exit id=>simp only[Pz] at h;injection h with h;exact h.symm
 |ret=>simp only[Pz] at h;injection h with h;exact h.symm
def Hr (P:Program) (fo:Nat→FuncId) (nt:Nat) (ops:Array Oper):List Oper→List gb→Bool
 | [],[]=>true
 |o::os,ao::aos=>By nt ops o ao&&(YU P fo o.op ao.op||YE P fo o.op ao.op)&&(!ao.pr||decide (ao.op.cls≤1))&&Hr P fo nt ops os aos
 |_,_=>false
def Zu:List Oper→List gb→List (FuncId×(List PV→Option PV))
 |o::os,ao::aos=>mN o.op ao.op++Zu os aos
 |_,_=>[]
def Pa.plain:Pa→Bool
 | .scope _=>false
 | .range _ _ _ _ _ _=>false
 | .kv _ _ _ _ _ _=>false
 | .seq a b=>a.plain&&b.plain
 | .cond _ a b=>a.plain&&b.plain
 | .block _ b=>b.plain
 | .loop _ b=>b.plain
 | .Lp _ b=>b.plain
 | .ghost _ b=>b.plain
 |_=>true
def aT (nt:Nat):List Oper→List (Nat×Nat)→Bool
 | [],[]=>true
 |⟨some d,.assign (.tmp t),_,_,_,none⟩::os,(d',t')::r=>d==d'&&t==t'&&decide (d < nt)&&aT nt os r
 |_,_=>false
def DK (nt:Nat):Code→List (Nat×Nat)→Bool
 | .region _ ops false,r=>aT nt ops.toList r
 | .skip,[]=>true
 |_,_=>false
def RS (P:Program) (fo:Nat→FuncId) (nt:Nat):Code→List gb→Bool
 | .region _ ops false,pre=>Hr P fo nt ops ops.toList pre
 |_,_=>false
def NO:Code→List gb→List (FuncId×(List PV→Option PV))
 | .region _ ops _,pre=>Zu ops.toList pre
 |_,_=>[]
def fe (P:Program) (fo:Nat→FuncId) (nt:Nat):Code→Pa→Bool
 |c,.ghost _ ac=>fe P fo nt c ac
 | .skip,.skip=>true
 | .label _,.skip=>true
 | .scope b,.scope b'=>fe P fo nt b b'
 | .region _ ops draw,.region aops=>Hr P fo nt ops ops.toList aops&&(!draw||(P.follows .mixedOrders&&FH ops aops))
 | .seq a b,.seq a' b'=>fe P fo nt a a'&&fe P fo nt b b'
 | .cond c a b,.cond c' a' b'=>Zl fo c c'&&fe P fo nt a a'&&fe P fo nt b b'
 | .block id b,.block id' b'=>id==id'&&fe P fo nt b b'
 | .loop b,.loop _ b'=>fe P fo nt b b'
 | .loop b,.Lp _ b'=>fe P fo nt b b'
 | .exit id,.exit id'=>id==id'
 | .ret,.ret=>true
 | .rangeFunc g ps assign body,.range _ _ g' ps' asg b=>Zl fo g g'&&ps.toList==ps'&&ps'.all (fun t=>decide (t < nt))&&DK nt assign asg&&fe P fo nt body b&&b.plain
 | .rangeFunc g ps assign body,.kv _ _ g' ps' pre b=>Zl fo g g'&&ps.toList==ps'&&ps'.all (fun t=>decide (t < nt))&&RS P fo nt assign pre&&fe P fo nt body b&&b.plain
 |_,_=>false
def Qg:Code→Pa→List (FuncId×(List PV→Option PV))
 |c,.ghost _ ac=>Qg c ac
 | .region _ ops _,.region aops=>Zu ops.toList aops
 | .seq a b,.seq a' b'=>Qg a a'++Qg b b'
 | .cond _ a b,.cond _ a' b'=>Qg a a'++Qg b b'
 | .block _ b,.block _ b'=>Qg b b'
 | .scope b,.scope b'=>Qg b b'
 | .loop b,.loop _ b'=>Qg b b'
 | .loop b,.Lp _ b'=>Qg b b'
 | .rangeFunc _ _ _ b,.range _ _ _ _ _ b'=>Qg b b'
 | .rangeFunc _ _ c b,.kv _ _ _ _ pre b'=>NO c pre++Qg b b'
 |_,_=>[]
def xe:Pa→List (Nat×(List PV→Option (List (List PV))))
 | .range ix F _ _ _ b=>(ix,F)::xe b
 | .kv ix F _ _ _ b=>(ix,F)::xe b
 | .seq a b=>xe a++xe b
 | .cond _ a b=>xe a++xe b
 | .block _ b=>xe b
 | .scope b=>xe b
 | .loop _ b=>xe b
 | .Lp _ b=>xe b
 | .ghost _ b=>xe b
 |_=>[]
theorem tW {P:Program} {fo:Nat→FuncId} {op:Op} {aop:qd} (h:YU P fo op aop=true):∀ c,op≠ .defer c:=by
 rintro c rfl
 cases aop <;> simp[YU] at h
theorem PR {P:Program} {fo:Nat→FuncId} {op:Op} {aop:qd} (h:YE P fo op aop=true):∀ c,op≠ .defer c:=by
 rintro c rfl
 cases aop <;> simp[YE] at h
theorem QE {nt:Nat} {ops:Array Oper} {aops:List gb} (hc:Bq P fo B0 call) (Ba:Hr P fo nt ops ops.toList aops=true) (hd:∀ d∈Zu ops.toList aops,Na P d.1 d.2):ZG P fo B0 call nt ops aops:=by
 have key:∀ {os:List Oper} {aos:List gb},Hr P fo nt ops os aos=true→(∀ d∈Zu os aos,Na P d.1 d.2)→aos.length=os.length∧∀ (i:Nat) (o:Oper) (ao:gb),os[i]? =some o→aos[i]? =some ao→By nt ops o ao=true∧AY P fo B0 call o ao∧∀ c,o.op≠ .defer c:=by
  intro os
  induction os with
  |nil=>
   intro aos h _
   cases aos with
   |nil=>exact⟨rfl,fun i o ao h=>by simp at h⟩
   |cons _ _=>simp[Hr] at h
  |cons o os ih=>
   intro aos h hd
   cases aos with
   |nil=>simp[Hr] at h
   |cons ao aos=>
    simp only[Hr,Bool.and_eq_true,Bool.or_eq_true,Bool.not_eq_true',decide_eq_true_eq] at h
    obtain⟨⟨⟨h1,h2⟩,hpr⟩,h3⟩:=h
    obtain⟨k1,k2⟩:=ih h3 fun d hd'=>hd d (by simp[Zu,hd'])
    refine⟨by simp[k1],fun i x y hx hy=> ?_⟩
    cases i with
    |zero=>
     simp at hx hy;subst hx;subst hy
     refine⟨h1,?_,h2.elim tW PR⟩
     intro w R φ e H H' a v hS hE hev
     have hev:ya call e H ao.op=some (v,H'):=by
      unfold Oj at hev
      cases hp:ao.pr with
      |false=>simpa[hp] using hev
      |true=>
       simp only[hp,cond_true] at hev
       obtain⟨k,rfl⟩:=oK hev
       have hpr:ao.op.cls≤1:=hpr.resolve_left (by rw[hp];simp)
       have:ao.op.cls=0∨ao.op.cls=1:=by omega
       rcases this with h0 | h0
       ·exact (cZ h0 k).2 H'
       ·exact (SV h0 k).2 H' (fun id o h=>by simp at h)
     rcases h2 with h2 | h2
     ·exact UL rfl h2 hS hE hev
     ·exact PQ rfl h2 (fun d hd'=>hd d (by simp[Zu,hd'])) hc hS hE hev
    |succ i=>exact k2 i x y (by simpa using hx) (by simpa using hy)
 obtain⟨k1,k2⟩:=key Ba hd
 exact⟨by simpa using k1,fun i o ao h1 h2=>(k2 i o ao (by simpa using h1) h2).1,fun i o ao h1 h2=>(k2 i o ao (by simpa using h1) h2).2.1,fun i o ao h1 h2=>(k2 i o ao (by simpa using h1) h2).2.2⟩
def Ex.to:Ex→Exit
 | .norm=> .normal
 | .exit id=> .exit id
 | .ret=> .ret
theorem Kn {f:St→Option (Ex×St)} {r:Option (Ex×St)} {x:Ex×St} (h:Ez f r=some x):(∃ s,r=some (.norm,s)∧f s=some x)∨(r=some x∧x.1≠ .norm):=by
 cases r with
 |none=>cases h
 |some y=>
  obtain⟨ex,s⟩:=y
  cases ex with
  |norm=>exact .inl ⟨s,rfl,h⟩
  |exit id=>simp only[Ez,Option.some.injEq] at h;subst h;exact .inr ⟨rfl,by simp⟩
  |ret=>simp only[Ez,Option.some.injEq] at h;subst h;exact .inr ⟨rfl,by simp⟩
theorem CB {f:St→Option (Ex×St)} {r:Option St} {x:Ex×St} (h:Nk f r=some x):∃ s,r=some s∧f s=some x:=by
 cases r with
 |none=>cases h
 |some s=>exact⟨s,rfl,h⟩
theorem AB {k:AV→Value→Prop} {e:Tr} {a:Act} (hE:ri fo k e a):∀ (l:List Nat),ri fo k (Bc e l) a
 | []=>fun t=> .undef _
 |x::l=>fun t=>by
  simp only[Bc]
  rw[Tr.aa]
  split
  ·rename_i ht;subst ht;exact hE t
  ·exact AB hE l t
theorem HG {w0 w:World} {R0 R:Rd} {φ0 φ:Pl} {H0:List ba} {a0 a:Act} {s:St} (l:List Nat) (g:fm fo B0 w0 R0 φ0 H0 a0 w R φ s a):fm fo B0 w0 R0 φ0 H0 a0 w R φ (tidy l s) a:=
 ⟨g.rel,AB g.env l,g.mono,g.below,g.size,g.defers⟩
theorem XV {ro:Option Nat} {n nt:Nat} {assign:Code} {asg:List (Nat×Nat)} (Ba:DK nt assign asg=true) {k:AV→Value→Prop} {e:Tr} {a:Act} {w:World} (hE:ri fo k e a) (hn:a.tmps.size=nt) {Q:Exit→Act→World→Prop}
 (hq:∀ a',ri fo k (xC asg e) a'→a'.tmps.size=nt→Q .normal a' w):assign.wpIn (RF ro) n P Q a w:=by
 have key:∀ (ops:Array Oper) (os:List Oper) (L:List Nat) (r:List (Nat×Nat)),L.map (ops[·]?)=os.map some→aT nt os r=true→∀ {e:Tr} {a:Act},ri fo k e a→a.tmps.size=nt→
  (∀ a',ri fo k (xC r e) a'→a'.tmps.size=nt→Q .normal a' w)→wpOpsIn (RF ro) n P ops Q L a w:=by
  intro ops os
  induction os with
  |nil=>
   intro L r hL Ba e a hE hn hq
   cases L with
   |cons _ _=>simp at hL
   |nil=>
    cases r with
    |nil=>exact hq a hE hn
    |cons _ _=>simp[aT] at Ba
  |cons o os ih=>
   intro L r hL Ba e a hE hn hq
   cases L with
   |nil=>simp at hL
   |cons i L=>
    simp only[List.map_cons,List.cons.injEq] at hL
    obtain⟨hi,hL⟩:=hL
    unfold aT at Ba
    split at Ba
    ·rename_i heq;simp at heq
    ·rename_i d t ty po af os' d' t' r' heq
     simp only[List.cons.injEq] at heq
     obtain⟨rfl,rfl⟩:=heq
     simp only[Bool.and_eq_true,beq_iff_eq,decide_eq_true_eq] at Ba
     obtain⟨⟨⟨rfl,rfl⟩,hlt⟩,Ba⟩:=Ba
     rw[wpOpsIn_cons]
     unfold wpOpIn
     simp only[hi,Region.wanted,if_true]
     refine OE ro (by simp) ?_
     show Oper.upon _ _ _ _ _ _
     simp only[execOp,Sem.run_pure,Oper.upon]
     refine ih L r' hL Ba (e:=e.set d (e.get t)) ?_ (by simp[Act.put,hn]) hq
     exact hE.put (some d) (fun t ht=>by injection ht with ht;subst ht;rw[hn];exact hlt) (hE t)
    ·cases Ba
 cases assign with
 |region id ops draw=>
  cases draw with
  |true=>simp[DK] at Ba
  |false=>
   refine wpIn_region (key ops ops.toList (List.range ops.size) _ ?_ Ba hE hn hq)
   apply List.ext_getElem?
   intro i
   rcases Nat.lt_or_ge i ops.size with h | h
   ·simp[h]
   ·simp[h]
 |skip=>
  cases asg with
  |nil=>exact wpIn_skip (hq a hE hn)
  |cons _ _=>simp[DK] at Ba
 |_=>simp[DK] at Ba
theorem zQ {k:AV→Value→Prop} (hk:∀ p v,(∀ R:Rd,Sa R p v)→k (.pv p) v) {nt:Nat}:∀ (ps:List Nat) (x:List PV) {e:Tr} {a:Act},ri fo k e a→a.tmps.size=nt→ps.all (fun t=>decide (t < nt))=true→Fp x=true→
 ri fo k (Jp ps x e) {tmps:=(ps.zip (Kp x)).foldl (fun t (p,v)=>t.setIfInBounds p v) a.tmps,defers:=a.defers}∧((ps.zip (Kp x)).foldl (fun (t:Array Value) (p,v)=>t.setIfInBounds p v) a.tmps).size=nt:=by
 intro ps
 induction ps with
 |nil=>intro x e a hE hn _ _;exact⟨by simpa[Jp] using hE,by simpa using hn⟩
 |cons p ps ih=>
  intro x e a hE hn hp hx
  cases x with
  |nil=>exact⟨by simpa[Jp,Kp] using hE,by simpa[Kp] using hn⟩
  |cons y ys=>
   simp only[List.all_cons,Bool.and_eq_true,decide_eq_true_eq] at hp
   simp only[Fp,Bool.and_eq_true] at hx
   have h1:=hE.put (some p) (fun t ht=>by injection ht with ht;subst ht;rw[hn];exact hp.1) (v:= .pv y) (u:=rQ y) (.atom _ _ (hk _ _ fun R=>OO hx.1))
   exact ih ys (e:=e.set p (.pv y)) (a:=a.put (some p) (rQ y)) h1 (by simp[Act.put,hn]) hp.2 hx.2
def Ex.code:Ex→Code
 | .norm=> .skip
 | .exit id=> .exit id
 | .ret=> .ret
theorem CG {nt:Nat} {ix:Nat} {F:List PV→Option (List (List PV))} {g:AO} {ps:List Nat} {pre:St→Option St} {b:Pa} {g1:Operand} {ps1:Array Tmp} {assign body:Code}
 (h1:Zl fo g1 g=true) (h2:ps1.toList=ps) (h3:ps.all (fun t=>decide (t < nt))=true) (hit:bp P (fo ix) F)
 (hasg:∀ (l:Nat) {B0:Of} {w:World} {R:Rd} {φ:Pl} {s s1:St} {a:Act} {Q:Exit→Act→World→Prop},ic fo B0 w R φ s.H→ri fo (K R φ s.H) s.env a→a.tmps.size=nt→pre s=some s1→
  (∀ a' w' R' φ',ic fo B0 w' R' φ' s1.H→ri fo (K R' φ' s1.H) s1.env a'→(∀ x u,K R φ s.H x u→K R' φ' s1.H x u)→zg B0 w w'→a'.tmps.size=nt→Q .normal a' w')→assign.wpIn (RF (some l)) 0 P Q a w)
 (hbody:∀ (l:Nat) {B0:Of} {w:World} {R:Rd} {φ:Pl} {s s':St} {ex:Ex} {a:Act} {Q:Exit→Act→World→Prop},ic fo B0 w R φ s.H→ri fo (K R φ s.H) s.env a→a.tmps.size=nt→ua call b s=some (ex,s')→
  (∀ a' w' R' φ',fm fo B0 w R φ s.H a w' R' φ' s' a'→Q ex.to a' w')→body.wpIn (RF (some l)) 0 P Q a w)
 {B0:Of} {w:World} {R:Rd} {φ:Pl} {s s':St} {ex:Ex} {a:Act} {nn:Nat} {Q:Exit→Act→World→Prop} (hS:ic fo B0 w R φ s.H) (hE:ri fo (K R φ s.H) s.env a) (hn:a.tmps.size=nt)
 (h:fA (fun e H=>Nk (ua call b) (pre ⟨e,H⟩)) ps [] s (fp ix F ps.length (g.ev s.env))=some (ex,s'))
 (hq:∀ a' w' R' φ',fm fo B0 w R φ s.H a w' R' φ' s' a'→Q ex.to a' w'):(Code.rangeFunc g1 ps1 assign body).wpIn (RF none) nn P Q a w:=by
 obtain⟨xs,cs,us,hval,hLR,hF,hall,hres⟩:∃ xs cs us,a.eval g1= .func (.func (fo ix)) #[] ⟨us⟩∧Ae R cs us∧F cs=some xs∧(∀ x∈xs,x.length=ps.length∧Fp x=true)∧
  NR s.env (ui (fun x H=>Nk (ua call b) (pre ⟨Jp ps x s.env,H⟩)) xs s.H)=some (ex,s'):=by
  have hg:=Pb (R:=R) (φ:=φ) (H:=s.H) hE h1
  cases hv:fp ix F ps.length (g.ev s.env) with
  |none=>rw[hv] at h;cases h
  |some xs=>
   rw[hv] at h
   unfold fp at hv
   split at hv
   ·rename_i i caps he
    split at hv
    ·rename_i hi
     subst hi
     simp only[Option.bind_eq_some_iff] at hv
     obtain⟨cs,e1,ys,e2,e3⟩:=hv
     split at e3
     ·rename_i hall
      injection e3 with e3;subst e3
      rw[he] at hg
      generalize a.eval g1=vx at hg
      cases hg with
      |atom _ _ h=>exact h.elim
      |Fk _ _ us hl=>
       refine⟨ys,cs,us,rfl,Tj e1 hl,e2,fun x hx=> ?_,h⟩
       have:=List.all_eq_true.1 hall x hx
       simpa[nO] using this
     ·cases e3
    ·cases hv
   ·cases hv
 obtain⟨f,hf⟩:∃ f,f=fun (x:List PV) (H:List ba)=>Nk (ua call b) (pre ⟨Jp ps x s.env,H⟩):=⟨_,rfl⟩
 rw[← hf] at hres
 obtain⟨H',hR,rfl⟩:∃ H',ui f xs s.H=some (ex,H')∧s'=⟨s.env,H'⟩:=by
  cases hr:ui f xs s.H with
  |none=>rw[hr] at hres;cases hres
  |some r=>
   rw[hr] at hres
   obtain⟨ex1,H1⟩:=r
   simp only[NR,Option.some.injEq,Prod.mk.injEq] at hres
   obtain⟨rfl,rfl⟩:=hres
   exact⟨H1,rfl,rfl⟩
 have hlow:=hS.low
 show (Code.rangeFunc g1 ps1 assign body).wpIn Fence.wide nn P Q a w
 refine wpIn_rangeFunc ?_
 intro fn _
 obtain⟨rec,hrec⟩:∃ rec:LoopState→Option Code→Loop,rec=fun st pe=>{state:=st,pending:=pe,fn,tmps:=a.tmps,params:=ps1,assign,body,defers:=w.heap.size}:=⟨_,rfl⟩
 obtain⟨W1,hW1⟩:∃ W1,(w.alloc (.deferred (some []))).alloc (.loop (rec .ready none))=W1:=⟨_,rfl⟩
 have hL1:W1.heap[w.heap.size+1]? =some (.loop (rec .ready none)):=by
  rw[← hW1];have:=World.alloc_heap_new (w.alloc (.deferred (some []))) (.loop (rec .ready none));rwa [World.size_alloc] at this
 have hK1:W1.heap[w.heap.size]? =some (.deferred (some [])):=by
  rw[← hW1];exact (RowKit.Below.heap_alloc _ _ _ (by simp)).trans (World.alloc_heap_new w _)
 have hb1:RowKit.Below w.heap.size w W1:=by
  rw[← hW1];exact (((RowKit.Below.refl _ w).alloc (Nat.le_refl _) _).alloc (by simp) _)
 have hseq:∀ v:Array Value,v= #[.func (.yield (w.heap.size+1)) #[] #[]]→v++(⟨us⟩:Array Value)=⟨.func (.yield (w.heap.size+1)) #[] #[]::us⟩:=by
  intro v hv;subst hv;apply Array.ext';simp
 refine⟨w.heap.size+1,[mark w.heap.size],W1,{target:= .fn (.func (fo ix)) ⟨us⟩,args:= #[.func (.yield (w.heap.size+1)) #[] #[]]},W1,fo ix,
  ⟨.func (.yield (w.heap.size+1)) #[] #[]::us⟩,W1,?_,?_,fun _ _=>trivial,?_,(fun h=>by cases h),callsIn_wide.2 ?_⟩
 ·rw[← hW1,hrec];exact run_enterLoop_outer _ _ _ _ _
 ·simp only[resolve,hval]
  simp[go_sem]
 ·rw[← hseq _ rfl];exact cv hit.call _
 ·
  have hslt:=hS.slt
  refine (hit.go cs us xs hF (fun x hx=>(hall x hx).2) R (w.heap.size+1)
   (fun i T A=>∃ H R' φ',ui f (xs.take i) s.H=some (.norm,H)∧ic fo (B0.and T) A R' φ' H∧(∀ x u,K R φ s.H x u→K R' φ' H x u)∧zg B0 w A∧A.heap[w.heap.size+1]? =some (.loop (rec .ready none))∧A.heap[w.heap.size]? =some (.deferred (some []))∧∀ k,T k→w.heap.size+2≤k)
   (fun A=>∃ R' φ',ex≠ .norm∧ic fo B0 A R' φ' H'∧(∀ x u,K R φ s.H x u→K R' φ' H' x u)∧zg B0 w A∧A.heap[w.heap.size+1]? =some (.loop (rec .done (some ex.code)))∧A.heap[w.heap.size]? =some (.deferred (some [])))
   W1 hLR (hS.later hb1).sub ?_ ?_ ?_ ?_ ?_).mono ?_
  ·rintro i T A B T' ⟨H,R',φ',j1,j2,j3,j4,j5,j6,j7⟩ hb ht
   refine⟨H,R',φ',j1,j2.grow hb ht,j3,j4.later hlow hslt hb,by rw[hb.block _ (Wl j5)];exact j5,by rw[hb.block _ (Wl j6)];exact j6,fun k hk=> ?_⟩
   rcases ht k hk with h | h
   ·exact j7 k h
   ·have:=Wl j5
    omega
  ·rintro A B ⟨R',φ',j1,j2,j3,j4,j5,j6⟩ hb
   exact⟨R',φ',j1,j2.later hb,j3,j4.later hlow hslt hb,by rw[hb.block _ (Wl j5)];exact j5,by rw[hb.block _ (Wl j6)];exact j6⟩
  ·rintro i T A ⟨H,R',φ',j1,j2,j3,j4,j5,j6,j7⟩
   exact⟨R',j2.sub,fun p v h=>j3 (.pv p) v h⟩
  ·
   rintro i x T A hx ⟨H,R',φ',j1,j2,j3,j4,j5,j6,j7⟩
   obtain⟨hlen,hfl⟩:=hall x (List.mem_of_getElem? hx)
   have hspl:xs=xs.take i++x::xs.drop (i+1):=by
    have hlt:=getElem?_lt hx
    rw[List.getElem?_eq_getElem hlt] at hx
    injection hx with hx
    rw[← hx,←List.drop_eq_getElem_cons hlt,List.take_append_drop]
   have hgo:ui f (x::xs.drop (i+1)) H=some (ex,H'):=by
    rw[← KB f _ _ j1,←hspl];exact hR
   simp only[ui] at hgo
   have hsz:(Kp x).length=ps.length:=by
    rw[← hlen]
    clear hgo hspl hx hfl hlen
    induction x with
    |nil=>rfl
    |cons y ys ih=>simp[Kp,ih]
   have hp1:ps1.size=ps.length:=by rw[← h2];simp
   have hy:=run_yield (P:=P) (args:=⟨Kp x⟩) j5 (by rw[hrec];simp[hsz,hp1])
   rw[hrec] at hy
   refine⟨_,_,_,_,hy,roundIn_of_wpIn (F:=Fence.wide) trivial ?_⟩
   clear hy
   have hzip:(ps1.zip (⟨Kp x⟩:Array Value)).foldl (fun t (p,v)=>t.setIfInBounds p v) a.tmps=(ps.zip (Kp x)).foldl (fun t (p,v)=>t.setIfInBounds p v) a.tmps:=by
    rw[← Array.foldl_toList,Array.toList_zip,h2]
   have hE1:ri fo (K R' φ' H) s.env {tmps:=a.tmps,defers:=[]}:=fun t=>(hE t).mono j3
   obtain⟨hE2,hn2⟩:=zQ (fo:=fo) (k:=K R' φ' H) (fun p v hp=>hp R') ps x hE1 hn h3 hfl
   show Code.wpIn (RF (some (w.heap.size+1))) 0 P assign _ _ _
   dsimp only
   rw[hzip]
   obtain⟨s2,hpre⟩:∃ s2,pre ⟨Jp ps x s.env,H⟩=some s2:=by
    cases hp:pre ⟨Jp ps x s.env,H⟩ with
    |none=>rw[hf] at hgo;simp only[hp,Nk] at hgo;cases hgo
    |some s2=>exact⟨s2,rfl⟩
   refine hasg _ j2 hE2 hn2 hpre fun a1 A1 R1 φ1 i2 hE3 i3 i4 hn3=> ?_
   have i5:=i4.Je _ _ j5 rfl
   have i6:=i4.Je _ _ j6 rfl
   have i7:=j4.trans i4.weaken
   refine⟨_,run_beginRound i5 (by rw[hrec]),?_⟩
   have hlt:w.heap.size+1 < A1.heap.size:=Wl i5
   have hl2:(A1.putObj (w.heap.size+1) (.loop {rec .ready none with state:= .busy})).heap[w.heap.size+1]? =some (.loop {rec .ready none with state:= .busy}):=World.putObj_heap_same hlt
   have hk2:(A1.putObj (w.heap.size+1) (.loop {rec .ready none with state:= .busy})).heap[w.heap.size]? =some (.deferred (some [])):=(World.putObj_heap_other (by omega)).trans i6
   have hS2:=(i2.xW i5 rfl (.loop {rec .ready none with state:= .busy}))
   have hb2:=i7.put hlow hslt (Nat.le_succ _) (.loop {rec .ready none with state:= .busy})
   have hT2:∀ k,T k→(A1.putObj (w.heap.size+1) (.loop {rec .ready none with state:= .busy})).heap[k]? =A.heap[k]? :=fun k hk=>(World.putObj_heap_other (by have:=j7 k hk;omega)).trans (i4.held k (.inr hk))
   generalize A1.putObj (w.heap.size+1) (.loop {rec .ready none with state:= .busy})=A2 at *
   cases hfx:f x H with
   |none=>rw[hfx] at hgo;cases hgo
   |some r=>
    obtain⟨ex1,s1⟩:=r
    rw[hfx] at hgo
    have hev:ua call b s2=some (ex1,s1):=by rw[hf] at hfx;simp only[hpre,Nk] at hfx;exact hfx
    refine hbody _ hS2 hE3 hn3 hev fun a3 W3 R3 φ3 gg=> ?_
    have hl3:=gg.below.Je _ _ hl2 rfl
    have hk3:=gg.below.Je _ _ hk2 rfl
    have hS4:=gg.rel
    have hb3:=hb2.trans gg.below.weaken
    have hlt3:=Wl hl3
    have hT3:∀ k,T k→W3.heap[k]? =A.heap[k]? :=fun k hk=>(gg.below.held k (.inr hk)).trans (hT2 k hk)
    have hmono:∀ x u,K R φ s.H x u→K R3 φ3 s1.H x u:=fun x u hx=>gg.mono _ _ (i3 x u (j3 x u hx))
    have fin:∀ (jump:Option Code),(Instr.endRound (w.heap.size+1) jump).run P W3= .ok (.bool jump.isNone) (W3.putObj (w.heap.size+1) (.loop (rec (if jump.isNone then .ready else .done) jump)))∧
     ic fo (B0.and T) (W3.putObj (w.heap.size+1) (.loop (rec (if jump.isNone then .ready else .done) jump))) R3 φ3 s1.H∧zg B0 w (W3.putObj (w.heap.size+1) (.loop (rec (if jump.isNone then .ready else .done) jump)))∧
     (W3.putObj (w.heap.size+1) (.loop (rec (if jump.isNone then .ready else .done) jump))).heap[w.heap.size+1]? =some (.loop (rec (if jump.isNone then .ready else .done) jump))∧
     (W3.putObj (w.heap.size+1) (.loop (rec (if jump.isNone then .ready else .done) jump))).heap[w.heap.size]? =some (.deferred (some []))∧
     ∀ k,T k→(W3.putObj (w.heap.size+1) (.loop (rec (if jump.isNone then .ready else .done) jump))).heap[k]? =A.heap[k]? :=fun jump=>by
     have:=run_endRound (P:=P) jump hl3
     rw[hrec] at this
     refine⟨?_,hS4.xW hl3 rfl _,hb3.put hlow hslt (Nat.le_succ _) _,World.putObj_heap_same hlt3,(World.putObj_heap_other (by omega)).trans hk3,fun k hk=>(World.putObj_heap_other (by have:=j7 k hk;omega)).trans (hT3 k hk)⟩
     rw[hrec];exact this
    have jump:ex1≠ .norm→∃ v w',(Instr.endRound (w.heap.size+1) (some ex1.code)).run P W3= .ok v w'∧((Ending.returned v= .returned (.bool true)∧(∃ H R' φ',ui f (xs.take (i+1)) s.H=some (.norm,H)∧ic fo (B0.and T) w' R' φ' H∧(∀ x u,K R φ s.H x u→K R' φ' H x u)∧zg B0 w w'∧w'.heap[w.heap.size+1]? =some (.loop (rec .ready none))∧w'.heap[w.heap.size]? =some (.deferred (some []))∧∀ k,T k→w.heap.size+2≤k)∧∀ k,T k→w'.heap[k]? =A.heap[k]?)∨
     (Ending.returned v= .returned (.bool false)∧∃ R' φ',ex≠ .norm∧ic fo B0 w' R' φ' H'∧(∀ x u,K R φ s.H x u→K R' φ' H' x u)∧zg B0 w w'∧w'.heap[w.heap.size+1]? =some (.loop (rec .done (some ex.code)))∧w'.heap[w.heap.size]? =some (.deferred (some [])))):=by
     intro hne
     have hr:=iR hne hgo
     injection hr with hr1 hr2
     subst hr1 hr2
     obtain⟨q1,q2,q3,q4,q5,_⟩:=fin (some ex.code)
     exact⟨_,_,q1,.inr ⟨rfl,R3,φ3,hne,q2.weaken,hmono,q3,q4,q5⟩⟩
    cases ex1 with
    |norm=>
     obtain⟨q1,q2,q3,q4,q5,q6⟩:=fin none
     refine⟨_,_,q1,.inl ⟨rfl,⟨s1.H,R3,φ3,?_,q2,hmono,q3,q4,q5,j7⟩,q6⟩⟩
     have:xs.take (i+1)=xs.take i++[x]:=by rw[List.take_add_one,hx];rfl
     rw[this,KB f _ _ j1]
     simp only[ui,hfx,Pz]
    |ret=>exact jump (by simp)
    |exit id=>exact jump (by simp)
  ·refine⟨s.H,R,φ,rfl,?_,fun _ _ h=>h,.Sw hb1 hlow hslt,hL1,hK1,fun _ h=>h.elim⟩
   have:=hS.later hb1
   exact⟨this.low,this.sub,fun id o ho=>by have:=this.obj id o ho;cases o <;> exact this,this.inj,this.Ko,fun k hk=>hk.elim (this.slt k) (fun h=>h.elim),fun i hi hs=>hs.elim (this.free i hi) (fun h=>h.elim)⟩
  ·
   have env:∀ {R':Rd} {φ':Pl} {A:World},(∀ x u,K R φ s.H x u→K R' φ' H' x u)→ic fo B0 A R' φ' H'→zg B0 w A→(∀ o':Obj,(A.putObj (w.heap.size+1) o').heap[w.heap.size]? =some (.deferred (some [])))→∀ (o:Obj) (_:A.heap[w.heap.size+1]? =some o) (_:eY o=true) (o':Obj),
    fm fo B0 w R φ s.H a (A.putObj (w.heap.size+1) o') R' φ' ⟨s.env,H'⟩ {a with defers:=[mark w.heap.size]++a.defers}:=fun hm hs hb hd o ho hk o'=>
    ⟨hs.xW ho hk o',fun t=>(hE t).mono hm,hm,hb.put hlow hslt (Nat.le_succ _) o',rfl,[w.heap.size],rfl,by simp,fun D hD=>by rw[List.mem_singleton] at hD;subst hD;exact⟨Nat.le_refl _,hd o'⟩⟩
   rintro e B ⟨⟨v,rfl⟩,(⟨T,H,R',φ',j1,j2,j3,j4,j5,j6,_⟩ | ⟨R',φ',j1,j2,j3,j4,j5,j6⟩)⟩
   ·rw[List.take_length,hR] at j1
    injection j1 with j1
    injection j1 with j0 j1
    subst j0 j1
    refine⟨none,_,by have:=run_endLoop (P:=P) j5 (by rw[hrec];simp);rw[hrec] at this;exact this,?_⟩
    exact hq _ _ _ _ (env j3 j2.weaken j4 (fun o'=>(World.putObj_heap_other (by omega)).trans j6) _ j5 rfl _)
   ·refine⟨some ex.code,_,by have:=run_endLoop (P:=P) j5 (by rw[hrec];simp);rw[hrec] at this;exact this,?_⟩
    have hz:=fun o'=>hq _ _ _ _ (env j3 j2 j4 (fun o'=>(World.putObj_heap_other (by omega)).trans j6) _ j5 rfl o')
    cases ex with
    |norm=>exact absurd rfl j1
    |exit id=>exact wpIn_exit (hz _)
    |ret=>exact wpIn_ret (hz _)
theorem dV {nt:Nat} (hc:∀ B0:Of,Bq P fo B0 call):∀ (ac:Pa) (c:Code),fe P fo nt c ac=true→(∀ d∈Qg c ac,Na P d.1 d.2)→(∀ d∈xe ac,bp P (fo d.1) d.2)→
 ∀ (ro:Option Nat) (nn:Nat),(ro=none∨ac.plain=true)→∀ {B0:Of} {w:World} {R:Rd} {φ:Pl} {s s':St} {ex:Ex} {a:Act} {Q:Exit→Act→World→Prop},ic fo B0 w R φ s.H→ri fo (K R φ s.H) s.env a→a.tmps.size=nt→ua call ac s=some (ex,s')→
 (∀ a' w' R' φ',fm fo B0 w R φ s.H a w' R' φ' s' a'→Q ex.to a' w')→c.wpIn (RF ro) nn P Q a w:=by
 intro ac
 induction ac with
 |skip=>
  intro c Ba hd hI ro nn hpl B0 w R φ s s' ex a Q hS hE hn h hq
  cases c <;> simp[fe] at Ba
  ·simp only[ua,Option.some.injEq,Prod.mk.injEq] at h
   obtain⟨rfl,rfl⟩:=h
   exact wpIn_skip (hq _ _ R φ (.refl hS hE))
  ·simp only[ua,Option.some.injEq,Prod.mk.injEq] at h
   obtain⟨rfl,rfl⟩:=h
   exact wpIn_label (hq _ _ R φ (.refl hS hE))
 |scope b ihb=>
  intro c Ba hd hI ro nn hpl B0 w R φ s s' ex a Q hS hE hn h hq
  cases c with
  |scope c1=>
   simp only[fe] at Ba
   simp only[ua] at h
   obtain rfl:=hpl.resolve_right (by simp[Pa.plain])
   refine wpIn_wide.2 (wp_scope_straight (wpIn_wide.1 (ihb c1 Ba hd hI none nn (.inl rfl) hS hE hn h fun a' w' R' φ' g=> ?_)))
   have:=hq _ _ _ _ g
   cases ex <;> exact this
  |_=>simp[fe] at Ba
 |region aops=>
  intro c Ba hd hI ro nn hpl B0 w R φ s s' ex a Q hS hE hn h hq
  cases c with
  |region id ops draw=>
   simp only[fe,Bool.and_eq_true,Bool.or_eq_true,Bool.not_eq_true'] at Ba
   have hs:=QE (hc B0) Ba.1 hd
   simp only[ua] at h
   cases ho:Cd call aops s with
   |none=>simp[ho,Wq] at h
   |some s1=>
    simp only[ho,Wq,Option.some.injEq,Prod.mk.injEq] at h
    obtain⟨rfl,rfl⟩:=h
    cases draw with
    |false=>exact WC ro hs hS hE hn ho hq
    |true=>
     rcases Ba.2 with h | h
     ·cases h
     ·exact xJ ro h.1 hs h.2 hS hE hn ho hq
  |_=>simp[fe] at Ba
 |seq x y ihx ihy=>
  intro c Ba hd hI ro nn hpl B0 w R φ s s' ex a Q hS hE hn h hq
  cases c with
  |seq a1 b1=>
   simp only[fe,Bool.and_eq_true] at Ba
   simp only[ua] at h
   have hd1:∀ d∈Qg a1 x,Na P d.1 d.2:=fun d hd'=>hd d (by simp[Qg,hd'])
   have hd2:∀ d∈Qg b1 y,Na P d.1 d.2:=fun d hd'=>hd d (by simp[Qg,hd'])
   have hI1:∀ d∈xe x,bp P (fo d.1) d.2:=fun d hd'=>hI d (by simp[xe,hd'])
   have hI2:∀ d∈xe y,bp P (fo d.1) d.2:=fun d hd'=>hI d (by simp[xe,hd'])
   have hp1:ro=none∨x.plain=true:=hpl.imp id fun h=>by simp only[Pa.plain,Bool.and_eq_true] at h;exact h.1
   have hp2:ro=none∨y.plain=true:=hpl.imp id fun h=>by simp only[Pa.plain,Bool.and_eq_true] at h;exact h.2
   refine wpIn_seq ?_
   rcases Kn h with⟨s1,h1,h2⟩ | ⟨h1,h2⟩
   ·refine ihx a1 Ba.1 hd1 hI1 ro nn hp1 hS hE hn h1 fun a' w' R' φ' g=> ?_
    exact ihy b1 Ba.2 hd2 hI2 ro nn hp2 g.rel g.env (g.size.trans hn) h2 fun a'' w'' R'' φ'' g'=>hq _ _ _ _ (g.trans g')
   ·refine ihx a1 Ba.1 hd1 hI1 ro nn hp1 hS hE hn h1 fun a' w' R' φ' g=> ?_
    cases ex with
    |norm=>exact absurd rfl h2
    |exit id=>exact hq _ _ _ _ g
    |ret=>exact hq _ _ _ _ g
  |_=>simp[fe] at Ba
 |cond co x y ihx ihy=>
  intro c Ba hd hI ro nn hpl B0 w R φ s s' ex a Q hS hE hn h hq
  cases c with
  |cond co1 a1 b1=>
   simp only[fe,Bool.and_eq_true] at Ba
   simp only[ua] at h
   have hd1:∀ d∈Qg a1 x,Na P d.1 d.2:=fun d hd'=>hd d (by simp[Qg,hd'])
   have hd2:∀ d∈Qg b1 y,Na P d.1 d.2:=fun d hd'=>hd d (by simp[Qg,hd'])
   have hI1:∀ d∈xe x,bp P (fo d.1) d.2:=fun d hd'=>hI d (by simp[xe,hd'])
   have hI2:∀ d∈xe y,bp P (fo d.1) d.2:=fun d hd'=>hI d (by simp[xe,hd'])
   have hp1:ro=none∨x.plain=true:=hpl.imp id fun h=>by simp only[Pa.plain,Bool.and_eq_true] at h;exact h.1
   have hp2:ro=none∨y.plain=true:=hpl.imp id fun h=>by simp only[Pa.plain,Bool.and_eq_true] at h;exact h.2
   cases hb:asBool (co.ev s.env) with
   |none=>simp[hb,Ty] at h
   |some b=>
    have hv:=xy (Pb (R:=R) (φ:=φ) (H:=s.H) hE Ba.1.1) hb
    refine wpIn_cond hv ?_
    cases b with
    |true=>simp only[hb,Ty] at h;exact ihx a1 Ba.1.2 hd1 hI1 ro nn hp1 hS hE hn h hq
    |false=>simp only[hb,Ty] at h;exact ihy b1 Ba.2 hd2 hI2 ro nn hp2 hS hE hn h hq
  |_=>simp[fe] at Ba
 |block id b ih=>
  intro c Ba hd hI ro nn hpl B0 w R φ s s' ex a Q hS hE hn h hq
  cases c with
  |block id1 b1=>
   simp only[fe,Bool.and_eq_true,beq_iff_eq] at Ba
   obtain⟨rfl,Ba⟩:=Ba
   simp only[ua] at h
   refine wpIn_block ?_
   cases hb:ua call b s with
   |none=>simp[hb,Ur] at h
   |some r=>
    obtain⟨ex1,s1⟩:=r
    refine ih b1 Ba hd hI ro nn hpl hS hE hn hb fun a' w' R' φ' g=> ?_
    cases ex1 with
    |norm=>simp only[hb,Ur,Option.some.injEq,Prod.mk.injEq] at h;obtain⟨rfl,rfl⟩:=h;exact hq _ _ _ _ g
    |ret=>simp only[hb,Ur,Option.some.injEq,Prod.mk.injEq] at h;obtain⟨rfl,rfl⟩:=h;exact hq _ _ _ _ g
    |exit id2=>
     simp only[hb,Ur] at h
     show Exit.inBlock id1 Q (.exit id2) a' w'
     simp only[Exit.inBlock]
     split at h
     ·rename_i e
      simp only[Option.some.injEq,Prod.mk.injEq] at h;obtain⟨rfl,rfl⟩:=h
      rw[if_pos e];exact hq _ _ _ _ g
     ·rename_i e
      simp only[Option.some.injEq,Prod.mk.injEq] at h;obtain⟨rfl,rfl⟩:=h
      rw[if_neg e];exact hq _ _ _ _ g
  |_=>simp[fe] at Ba
 |loop live b ih=>
  intro c Ba hd hI ro nn hpl B0 w R φ s s' ex a Q hS hE hn h hq
  cases c with
  |loop b1=>
   simp only[fe] at Ba
   simp only[ua] at h
   obtain⟨s0,h0,h⟩:=CB h
   have g0:=gF (fm.refl hS hE) h0
   refine wpIn_loop_rounds qa ?_
   have key:∀ (n:Nat) {w1:World} {R1:Rd} {φ1:Pl} {s1:St} {a1:Act},fm fo B0 w R φ s.H a w1 R1 φ1 s1 a1→ab (ga (ua call b) (fa s.H.length live)) n s1=some (ex,s')→Code.roundsIn (RF ro) nn P b1 Q n a1 w1:=by
    intro n
    induction n with
    |zero=>intro w1 R1 φ1 s1 a1 g hl;simp[ab] at hl
    |succ n ihn=>
     intro w1 R1 φ1 s1 a1 g hl
     simp only[ab] at hl
     rw[roundsIn_succ]
     rcases Kn hl with⟨s2,k1,k2⟩ | ⟨k1,k2⟩
     ·simp only[ga] at k1
      rcases Kn k1 with⟨s3,j1,j2⟩ | ⟨j1,j2⟩
      ·refine ih b1 Ba hd hI ro nn hpl g.rel g.env (g.size.trans hn) j1 fun a' w' R' φ' g'=> ?_
       cases hcl:fa s.H.length live s3 with
       |none=>simp[hcl,Wq] at j2
       |some s4=>
        simp only[hcl,Wq,Option.some.injEq,Prod.mk.injEq,true_and] at j2
        subst j2
        exact ihn (gF (g.trans g') hcl) k2
      ·exact absurd rfl j2
     ·simp only[ga] at k1
      rcases Kn k1 with⟨s3,j1,j2⟩ | ⟨j1,j2⟩
      ·cases hcl:fa s.H.length live s3 with
       |none=>simp[hcl,Wq] at j2
       |some s4=>
        simp only[hcl,Wq,Option.some.injEq,Prod.mk.injEq] at j2
        exact absurd j2.1.symm k2
      ·refine ih b1 Ba hd hI ro nn hpl g.rel g.env (g.size.trans hn) j1 fun a' w' R' φ' g'=> ?_
       cases ex with
       |norm=>exact absurd rfl j2
       |exit id=>exact hq _ _ _ _ (g.trans g')
       |ret=>exact hq _ _ _ _ (g.trans g')
   exact key qa g0 h
  |_=>simp[fe] at Ba
 |Lp live b ih=>
  intro c Ba hd hI ro nn hpl B0 w R φ s s' ex a Q hS hE hn h hq
  cases c with
  |loop b1=>
   simp only[fe] at Ba
   simp only[ua] at h
   have g0:=HG live (fm.refl hS hE)
   refine wpIn_loop_rounds qa ?_
   have key:∀ (n:Nat) {w1:World} {R1:Rd} {φ1:Pl} {s1:St} {a1:Act},fm fo B0 w R φ s.H a w1 R1 φ1 s1 a1→ab (ga (ua call b) (fun s=>some (tidy live s))) n s1=some (ex,s')→Code.roundsIn (RF ro) nn P b1 Q n a1 w1:=by
    intro n
    induction n with
    |zero=>intro w1 R1 φ1 s1 a1 g hl;simp[ab] at hl
    |succ n ihn=>
     intro w1 R1 φ1 s1 a1 g hl
     simp only[ab] at hl
     rw[roundsIn_succ]
     rcases Kn hl with⟨s2,k1,k2⟩ | ⟨k1,k2⟩
     ·simp only[ga] at k1
      rcases Kn k1 with⟨s3,j1,j2⟩ | ⟨j1,j2⟩
      ·refine ih b1 Ba hd hI ro nn hpl g.rel g.env (g.size.trans hn) j1 fun a' w' R' φ' g'=> ?_
       simp only[Wq,Option.some.injEq,Prod.mk.injEq,true_and] at j2
       subst j2
       exact ihn (HG live (g.trans g')) k2
      ·exact absurd rfl j2
     ·simp only[ga] at k1
      rcases Kn k1 with⟨s3,j1,j2⟩ | ⟨j1,j2⟩
      ·simp only[Wq,Option.some.injEq,Prod.mk.injEq] at j2
       exact absurd j2.1.symm k2
      ·refine ih b1 Ba hd hI ro nn hpl g.rel g.env (g.size.trans hn) j1 fun a' w' R' φ' g'=> ?_
       cases ex with
       |norm=>exact absurd rfl j2
       |exit id=>exact hq _ _ _ _ (g.trans g')
       |ret=>exact hq _ _ _ _ (g.trans g')
   exact key qa g0 h
  |_=>simp[fe] at Ba
 |exit id=>
  intro c Ba hd hI ro nn hpl B0 w R φ s s' ex a Q hS hE hn h hq
  cases c with
  |exit id1=>
   simp only[fe,beq_iff_eq] at Ba
   subst Ba
   simp only[ua,Option.some.injEq,Prod.mk.injEq] at h
   obtain⟨rfl,rfl⟩:=h
   exact wpIn_exit (hq _ _ R φ (.refl hS hE))
  |_=>simp[fe] at Ba
 |ret=>
  intro c Ba hd hI ro nn hpl B0 w R φ s s' ex a Q hS hE hn h hq
  cases c with
  |ret=>
   simp only[ua,Option.some.injEq,Prod.mk.injEq] at h
   obtain⟨rfl,rfl⟩:=h
   exact wpIn_ret (hq _ _ R φ (.refl hS hE))
  |_=>simp[fe] at Ba
 |ghost g b ih=>
  intro c Ba hd hI ro nn hpl B0 w R φ s s' ex a Q hS hE hn h hq
  have hok':fe P fo nt c b=true:=by cases c <;> simpa[fe] using Ba
  have hd':∀ d∈Qg c b,Na P d.1 d.2:=by cases c <;> simpa[Qg] using hd
  simp only[ua] at h
  obtain⟨s0,h0,h⟩:=CB h
  obtain⟨R',φ',g0⟩:=tQ hS hE h0
  exact ih c hok' hd' hI ro nn hpl g0.rel g0.env hn h fun a' w' R'' φ'' g'=>hq _ _ _ _ (g0.trans g')
 |range ix F g ps asg b ih=>
  intro c Ba hd hI ro nn hpl B0 w R φ s s' ex a Q hS hE hn h hq
  cases c with
  |rangeFunc g1 ps1 assign body=>
   obtain rfl:=hpl.resolve_right (by simp[Pa.plain])
   simp only[fe,Bool.and_eq_true,beq_iff_eq] at Ba
   obtain⟨⟨⟨⟨⟨h1,h2⟩,h3⟩,h4⟩,h5⟩,h6⟩:=Ba
   simp only[ua] at h
   refine CG (pre:=fun s=>some ⟨xC asg s.env,s.H⟩) h1 h2 h3 (hI (ix,F) (by simp[xe])) (fun l B0 w R φ s s1 a Q hS hE hn hp hq=> ?_) (fun l _ _ _ _ _ _ _ _ _ hS hE hn h hq=>ih body h5 hd (fun d hd'=>hI d (by simp[xe,hd'])) (some l) 0 (.inr h6) hS hE hn h hq) hS hE hn h hq
   injection hp with hp
   subst hp
   exact XV (fo:=fo) (k:=K R φ s.H) h4 hE hn fun a' hE' hn'=>hq a' w R φ hS hE' (fun _ _ h=>h) (zg.refl _ _) hn'
  |_=>simp[fe] at Ba
 |kv ix F g ps pre b ih=>
  intro c Ba hd hI ro nn hpl B0 w R φ s s' ex a Q hS hE hn h hq
  cases c with
  |rangeFunc g1 ps1 assign body=>
   obtain rfl:=hpl.resolve_right (by simp[Pa.plain])
   simp only[fe,Bool.and_eq_true,beq_iff_eq] at Ba
   obtain⟨⟨⟨⟨⟨h1,h2⟩,h3⟩,h4⟩,h5⟩,h6⟩:=Ba
   simp only[ua] at h
   have hd2:∀ d∈Qg body b,Na P d.1 d.2:=fun d hd'=>hd d (by simp[Qg,hd'])
   have hd1:∀ d∈NO assign pre,Na P d.1 d.2:=fun d hd'=>hd d (by simp[Qg,hd'])
   refine CG (pre:=Cd call pre) h1 h2 h3 (hI (ix,F) (by simp[xe])) (fun l B0 w R φ s s1 a Q hS hE hn hp hq=> ?_) (fun l _ _ _ _ _ _ _ _ _ hS hE hn h hq=>ih body h5 hd2 (fun d hd'=>hI d (by simp[xe,hd'])) (some l) 0 (.inr h6) hS hE hn h hq) hS hE hn h hq
   cases assign with
   |region id ops draw=>
    cases draw with
    |true=>simp[RS] at h4
    |false=>exact WC (some l) (QE (hc B0) h4 hd1) hS hE hn hp fun a' w' R' φ' g=>hq a' w' R' φ' g.rel g.env g.mono g.below (g.size.trans hn)
   |_=>simp[RS] at h4
  |_=>simp[fe] at Ba
end
end Go.AM
set_option linter.unusedSimpArgs false
set_option linter.unusedVariables false
namespace Go.AM
open Go.RowKit
def aw (P:Program):List ResultVar→List rC→Bool
 | [],[]=>true
 | .tmp t::r,.tmp t'::r'=>t==t'&&aw P r r'
 | .cell a ty::r,.cell t ag n::r'=>a==t&&Fl P ty==some ag&&(!ag||Ld P ty==some n)&&aw P r r'
 |_,_=>false
def TE (P:Program) (fo:Nat→FuncId) (g:Func) (af:gf):Bool:=
 (match g.body with
 |some c=>fe P fo g.ntmps c af.body
 |none=>false)&&aw P g.results.toList af.results&& !(g.name== "runtime.NumGoroutine")&&decide (af.np≤g.ntmps)
def BC (g:Func) (af:gf):List (FuncId×(List PV→Option PV)):=
 match g.body with
 |some c=>Qg c af.body
 |none=>[]
def wc (P:Program) (fo:Nat→FuncId) (f:FuncId) (af:gf):Prop:=
 ∃ g,P.funcs[f]? =some g∧TE P fo g af=true∧(∀ d∈BC g af,Na P d.1 d.2)∧∀ d∈xe af.body,bp P (fo d.1) d.2
def Sl (P:Program) (fo:Nat→FuncId) (L:Nat→Option gf):Prop:=∀ ix af,L ix=some af→wc P fo (fo ix) af
section
variable {P:Program} {fo:Nat→FuncId} {B0:Of} {call:Wa}
theorem MM:∀ (args:List AV) (i t:Nat),(mq i args).get t=(if i≤t then args[t - i]? else none).getD .undef:=by
 intro args
 induction args with
 |nil=>intro i t;simp[mq,Tr.get]
 |cons v r ih=>
  intro i t
  simp only[mq,Tr.aa,ih]
  by_cases h:t=i
  ·subst h;simp
  ·by_cases h2:i≤t
   ·rw[if_neg h,if_pos h2,if_pos (by omega)]
    have:t - i=(t - (i+1))+1:=by omega
    rw[this];simp
   ·rw[if_neg h,if_neg h2,if_neg (by omega)]
theorem pN {k:AV→Value→Prop} {args:List AV} {vs:List Value} (h:fb fo k args vs) (n:Nat):ri fo k (mq 0 args) {tmps:=⟨vs⟩++Array.replicate n undef,defers:=[]}:=by
 intro t
 rw[MM]
 simp only[Nat.zero_le,if_true,Nat.sub_zero]
 cases ha:args[t]? with
 |none=>exact .undef _
 |some a=>
  obtain⟨v,hv,hr⟩:=h.get ha
  have hlt:=getElem?_lt hv
  rw[Array.getD_eq_getD_getElem?,Array.getElem?_append_left (by simpa using hlt)]
  simpa[hv] using hr
theorem lM {t:TypeId} {vx v:Value} {w w':World} (h:(Instr.loadAt t vx).run P w= .ok v w'):∃ a,vx= .pointer (some a):=by
 cases vx with
 |pointer a=>
  cases a with
  |none=>simp[Instr.loadAt,Instr.sureAddr] at h
  |some a=>exact⟨a,rfl⟩
 |_=>simp[Instr.loadAt,Instr.sureAddr] at h
def uP (tmps:Array Value):ResultVar→Sem Value
 | .tmp t=>pure (tmps.getD t undef)
 | .cell a t=>do loadVar t (← asAddr (tmps.getD a undef))
theorem nT (tmps:Array Value) (t:Tmp) (w:World):(uP tmps (.tmp t)).run P w= .ok (tmps.getD t undef) w:=by simp only[uP,Sem.run_pure]
theorem nX {w:World} {R:Rd} {φ:Pl} {s:St} {a:Act} (hS:ic fo B0 w R φ s.H) (hE:ri fo (K R φ s.H) s.env a):∀ {rs:List ResultVar} {ars:List rC} {vs:List AV},aw P rs ars=true→Ra (pC s) ars=some vs→
 ∃ us,(rs.mapM (uP a.tmps):Sem (List Value)).run P w= .ok us w∧fb fo (K R φ s.H) vs us:=by
 intro rs
 induction rs with
 |nil=>
  intro ars vs Ba h
  cases ars with
  |nil=>simp only[Ra,Option.some.injEq] at h;subst h;exact⟨[],by simp,.nil⟩
  |cons _ _=>simp[aw] at Ba
 |cons r rs ih=>
  intro ars vs Ba h
  cases ars with
  |nil=>cases r <;> simp[aw] at Ba
  |cons ar ars=>
   simp only[Ra,Option.bind_eq_some_iff,Option.some.injEq] at h
   obtain⟨b,h1,bs,h2,rfl⟩:=h
   cases r with
   |tmp t=>
    cases ar with
    |tmp t'=>
     simp only[aw,Bool.and_eq_true,beq_iff_eq] at Ba
     obtain⟨rfl,Ba⟩:=Ba
     obtain⟨us,k1,k2⟩:=ih Ba h2
     simp only[pC,Option.some.injEq] at h1
     subst h1
     exact⟨_::us,by simp only[List.mapM_cons,Sem.run_bind,nT,Result.andThen_ok,k1,Sem.run_pure],.cons _ _ _ _ (hE t) k2⟩
    |cell _ _ _=>simp[aw] at Ba
   |cell x ty=>
    cases ar with
    |tmp t'=>simp[aw] at Ba
    |cell t ag n=>
     simp only[aw,Bool.and_eq_true,beq_iff_eq,Bool.or_eq_true,Bool.not_eq_true'] at Ba
     obtain⟨⟨⟨rfl,ha⟩,hn⟩,Ba⟩:=Ba
     obtain⟨us,k1,k2⟩:=ih Ba h2
     simp only[pC] at h1
     obtain⟨v,q1,q2⟩:=yJ (P:=P) hS (hE x) ha (fun e=>by rcases hn with hn | hn;rw[e] at hn;cases hn;exact hn) h1
     obtain⟨ad,hv⟩:=lM q1
     rw[hv] at q1
     have q1':(loadVar ty ad).run P w= .ok v w:=by simpa[Instr.loadAt,Instr.sureAddr] using q1
     have q3:(uP a.tmps (.cell x ty)).run P w= .ok v w:=by simp only[uP,hv];simp[asAddr,q1']
     exact⟨v::us,by simp only[List.mapM_cons,Sem.run_bind,q3,Result.andThen_ok,k1,Sem.run_pure],.cons _ _ _ _ q2 k2⟩
theorem uJ {g:Func} {f:gf} {w:World} {R:Rd} {φ:Pl} {s:St} {a:Act} (hS:ic fo B0 w R φ s.H) (hE:ri fo (K R φ s.H) s.env a) (Ba:aw P g.results.toList f.results=true) {v:AV} (h:uN f s=some v):
 ∃ u,(results g a.tmps).run P w= .ok u w∧Kc fo (K R φ s.H) v u:=by
 simp only[uN,Option.map_eq_some_iff] at h
 obtain⟨vs,h1,rfl⟩:=h
 obtain⟨us,k1,k2⟩:=nX hS hE Ba h1
 have hrun:(results g a.tmps).run P w= .ok (if h:us.length=1 then us[0] else .tuple ⟨us⟩) w:=by
  have:results g a.tmps=(do let vs ←g.results.mapM (uP a.tmps);pure (if h:vs.size=1 then vs[0] else .tuple vs)):=rfl
  rw[this,Array.mapM_eq_mapM_toList]
  simp only[Sem.run_bind,Sem.run_map,k1,Result.andThen_ok,Sem.run_pure]
  simp
 refine⟨_,hrun,?_⟩
 cases k2 with
 |nil=>exact gH .nil
 |cons x xs u us hx hxs=>
  cases hxs with
  |nil=>simpa[RE] using hx
  |cons y ys z zs hy hys=>
   have:RE (x::y::ys)=DH (x::y::ys):=rfl
   rw[this]
   simpa using gH (.cons _ _ _ _ hx (.cons _ _ _ _ hy hys))
theorem wc.UC {f:FuncId} {af:gf} (h:wc P fo f af):Ot P f:=by
 obtain⟨g,h1,h2,_,_⟩:=h
 simp only[TE,Bool.and_eq_true,Bool.not_eq_true'] at h2
 cases hb:g.body with
 |none=>simp[hb] at h2
 |some c=>exact⟨g,c,h1,hb,h2.1.2⟩
theorem eM {f:FuncId} {af:gf} (hf:wc P fo f af) (hc:∀ B0:Of,Bq P fo B0 call) {args:List AV} {H H':List ba} {v:AV} {w:World} {R:Rd} {φ:Pl} {vs:List Value} (hS:ic fo B0 w R φ H) (hl:fb fo (K R φ H) args vs)
 (h:Ri call af args H=some (v,H')):Calls P f ⟨vs⟩ w (wX fo B0 w R φ H v H'):=by
 obtain⟨g,h1,h2,h3,hI⟩:=hf
 simp only[TE,Bool.and_eq_true,Bool.not_eq_true',decide_eq_true_eq] at h2
 obtain⟨⟨⟨h4,h5⟩,h6⟩,h7⟩:=h2
 cases hb:g.body with
 |none=>simp[hb] at h4
 |some c=>
  simp only[hb] at h4
  simp only[BC,hb] at h3
  unfold Ri at h
  split at h
  ·rename_i hnp
   cases he:ua call af.body ⟨mq 0 args,H⟩ with
   |none=>simp[he,fS] at h
   |some r=>
    obtain⟨ex,s⟩:=r
    refine (callsIn_wide (n:=0)).1 (callsIn_of_wp_marks h1 hb trivial ?_)
    have hlen:=hl.length
    refine dV hc af.body c h4 h3 hI none 0 (.inl rfl) (s:=⟨mq 0 args,H⟩) hS (pN hl _) (by simp;omega) he fun a' w' R' φ' gg=> ?_
    have fin:∀ (v:AV),uN af s=some v→∀ (Ds:List Nat) (W:World),(∀ D∈Ds,w.heap.size≤D∧W.heap[D]? =some (.deferred (some [])))→Ds.Nodup→ic fo B0 W R' φ' s.H→zg B0 w W→
     LeavesInM Fence.wide 0 P g a'.tmps (wX fo B0 w R φ H v s.H) (Ds.map mark) .returning W:=by
     intro v hv Ds
     induction Ds with
     |nil=>
      intro W _ _ hSW hBW
      obtain⟨u,k1,k2⟩:=uJ hSW gg.env h5 hv
      exact⟨u,k1,u,R',φ',rfl,hSW,k2,gg.mono,hBW⟩
     |cons D Ds ih=>
      intro W hD hnd hSW hBW
      obtain⟨hge,hWD⟩:=hD D (by simp)
      have hnd':=List.nodup_cons.1 hnd
      refine⟨by simp,.inl ⟨D,_,rfl,run_takeDeferred hWD,ih _ (fun E hE=> ?_) hnd'.2 (hSW.xW hWD rfl _) (hBW.put hS.low hS.slt hge _)⟩⟩
      obtain⟨q1,q2⟩:=hD E (by simp[hE])
      exact⟨q1,(World.putObj_heap_other (show E≠D from fun e=>hnd'.1 (by rw[← e];exact hE))).trans q2⟩
    have done:(uN af s).map (fun v=>(v,s.H))=some (v,H')→LeavesInM Fence.wide 0 P g a'.tmps (wX fo B0 w R φ H v H') a'.defers .returning w':=by
     intro hr
     simp only[Option.map_eq_some_iff,Prod.mk.injEq] at hr
     obtain⟨v1,hv1,rfl,rfl⟩:=hr
     obtain⟨Ds,e1,e2,e3⟩:=gg.defers
     rw[e1,show ∀ l:List Deferred,l++[]=l from List.append_nil]
     exact fin _ hv1 Ds w' e3 e2 gg.rel gg.below
    cases ex with
    |norm=>exact done (by simpa[he,fS] using h)
    |ret=>exact done (by simpa[he,fS] using h)
    |exit id=>simp[he,fS] at h
  ·cases h
theorem PS {L:Nat→Option gf} (hL:Sl P fo L):∀ (d:Nat) (B0:Of),Bq P fo B0 (Ea L d):=by
 intro d
 induction d with
 |zero=>intro B0 ix args H v H' w R φ vs hS hl h;simp[Ea] at h
 |succ d ih=>
  intro B0 ix args H v H' w R φ vs hS hl h
  simp only[Ea,Option.bind_eq_some_iff] at h
  obtain⟨af,h1,h2⟩:=h
  have hf:=hL ix af h1
  exact⟨hf.UC,eM hf ih hS hl h2⟩
theorem tH {call:Wa} (hc:∀ B0:Of,Bq P fo B0 call) {f:FuncId} {af:gf} (hf:wc P fo f af):Na P f fun args=>(Ri call af (args.map .pv) []).bind fun r=>dc r.2 deep r.1:=by
 refine⟨hf.UC,fun w R args vs r hR hl h=> ?_⟩
 simp only[Option.bind_eq_some_iff] at h
 obtain⟨⟨v,H'⟩,h1,h2⟩:=h
 have hS:ic fo {n:=w.heap.size,R:=R} w R (fun _=>(0,0)) []:=
  ⟨Nat.le_refl _,hR,fun id o h=>by simp at h,fun i j hi=>by obtain⟨o,ho,_⟩:=hi;simp at ho,fun _ _ _=>rfl,fun _ h=>h.elim,fun _ _ h=>h⟩
 refine Calls.mono (eM hf hc hS (fb.GB hl) h1) ?_
 rintro e w' ⟨u,R',φ',rfl,k1,k2,k3,k4⟩
 have hQ:Sub R' (fun b o=>if b < w.heap.size then R b o else w'.cell? ⟨b,o,none⟩):=by
  intro b o x hx
  (try dsimp only)
  split
  ·rename_i hlt;rw[← hx];exact (k1.Ko b o hlt).symm
  ·exact k1.sub b o x hx
 have k5:=SJ k1 hQ (fun b o x hb hx=>by
  have hb:w.heap.size≤b:=hb
  (try dsimp only)
  rw[if_neg (by omega)];exact hx) deep k2 h2
 refine⟨u,_,rfl,k4.toBelow,k5,fun b o hlt=>if_pos hlt,fun b o x hx=> ?_⟩
 split at hx
 ·rename_i hlt
  rw[tf (k4.block b hlt)];exact hR b o x hx
 ·exact hx
theorem Ja {L:Nat→Option gf} (hL:Sl P fo L) {f:FuncId} {af:gf} (hf:wc P fo f af):Na P f (Ub L af):=tH (PS hL 8) hf
end
theorem fM {P:Program} {fo:Nat→FuncId} {i:FuncId} {g:Func} {af:gf} {l:List (FuncId×(List PV→Option PV))} (h:P.funcs[i]? =some g) (hp:∀ d∈l,Na P d.1 d.2) (ok:TE P fo g af=true:=by kernel_rfl) (du:BC g af=l:=by kernel_rfl) (di:xe af.body=[]:=by rfl):wc P fo i af:=
 ⟨g,h,ok,by rw[du];exact hp,by rw[di];exact fun _ h=>by cases h⟩
theorem LZ {P:Program} {fo:Nat→FuncId} {i:FuncId} {g:Func} {af:gf} {l:List (FuncId×(List PV→Option PV))} (h:P.funcs[i]? =some g) (hp:∀ d∈l,Na P d.1 d.2) (hi:∀ d∈xe af.body,bp P (fo d.1) d.2) (ok:TE P fo g af=true:=by kernel_rfl) (du:BC g af=l:=by kernel_rfl):wc P fo i af:=
 ⟨g,h,ok,by rw[du];exact hp,hi⟩
theorem dN {P:Program}:∀ d∈([]:List (FuncId×(List PV→Option PV))),Na P d.1 d.2:=fun _ h=>by cases h
theorem dC {P:Program} {a:FuncId} {F:List PV→Option PV} {l:List (FuncId×(List PV→Option PV))} (h:Na P a F) (r:∀ d∈l,Na P d.1 d.2):∀ d∈(a,F)::l,Na P d.1 d.2:=List.forall_mem_cons.2 ⟨h,r⟩
abbrev Cv (d n:Nat):gb:=⟨some d,.move (.t n),none,false⟩
abbrev Co (d:Nat) (op:qd):gb:=⟨some d,op,none,false⟩
abbrev Cp (d:Nat) (op:qd):gb:=⟨some d,op,none,true⟩
abbrev Cg (d t:Nat) (b:Bool) (op:qd):gb:=⟨some d,op,some (t,b),false⟩
abbrev Cq (d t:Nat) (b:Bool) (op:qd):gb:=⟨some d,op,some (t,b),true⟩
abbrev Ce (op:qd):gb:=⟨none,op,none,false⟩
abbrev qd.kl (n x:Nat):qd:= .load false n (.t x)
abbrev qd.kL (n x:Nat):qd:= .load true n (.t x)
abbrev qd.kf (o x:Nat):qd:= .PC o (.t x)
abbrev qd.ki (n x i:Nat):qd:= .sd n (.t x) (.t i)
abbrev qd.kj (n x:Nat) (i:Int):qd:= .sd n (.t x) (.c (.int .i64 i))
abbrev qd.kn (k x:Nat):qd:= .len k (.t x)
abbrev qd.kx (i x:Nat):qd:= .ext i (.t x)
abbrev qd.ks (n a v:Nat):qd:= .store n (.t a) (.t v)
abbrev qd.km (x:Nat):qd:= .move (.t x)
abbrev qd.kk (n:Int):qd:= .move (.c (.int .i64 n))
abbrev qd.kb (b:Bool):qd:= .move (.c (.bool b))
abbrev qd.kc (p:PV):qd:= .move (.c p)
abbrev qd.kB (o:BinOp) (x y:Nat):qd:= .bin o (.t x) (.t y)
abbrev qd.kK (o:BinOp) (x:Nat) (n:Int):qd:= .bin o (.t x) (.c (.int .i64 n))
abbrev qd.ko (x y:Nat):qd:= .pick (.t x) (.c (.bool true)) (.t y)
abbrev qd.ka (x y:Nat):qd:= .pick (.t x) (.t y) (.c (.bool false))
abbrev qd.kz (x:Nat):qd:= .bD (.t x)
abbrev qd.kt (x:Nat):qd:= .un .not (.t x)
abbrev qd.kR (n x:Nat):qd:= .bN n (.t x)
abbrev qd.kp (F:List PV→Option PV) (x:Nat):qd:= .Bn F [.t x]
abbrev qd.kq (F:List PV→Option PV) (x y:Nat):qd:= .Bn F [.t x,.t y]
abbrev qd.kr (F:List PV→Option PV) (x y z:Nat):qd:= .Bn F [.t x,.t y,.t z]
abbrev qd.ku (n:Nat) (a:Bool) (b s x:Nat):qd:= .append false .uq n a b (.t s) (.t x)
abbrev qd.kA (m n x i:Nat):qd:= .Yv m n (.t x) (.t i)
abbrev qd.ke (k x y:Nat):qd:= .eq k false (.t x) (.t y)
abbrev qd.kE (k:Nat) (b:Bool) (x:Nat):qd:= .eq k b (.t x) (.c .Sg)
abbrev jl (d:Nat) (n x:Nat):gb:=Co d (.kl n x)
abbrev Jl (d:Nat) (n x:Nat):gb:=Cp d (.kl n x)
abbrev jL (d:Nat) (n x:Nat):gb:=Co d (.kL n x)
abbrev JL (d:Nat) (n x:Nat):gb:=Cp d (.kL n x)
abbrev jf (d:Nat) (n x:Nat):gb:=Co d (.kf n x)
abbrev Jf (d:Nat) (n x:Nat):gb:=Cp d (.kf n x)
abbrev ji (d:Nat) (n x y:Nat):gb:=Co d (.ki n x y)
abbrev Ji (d:Nat) (n x y:Nat):gb:=Cp d (.ki n x y)
abbrev jn (d:Nat) (k x:Nat):gb:=Co d (.kn k x)
abbrev jx (d:Nat) (i x:Nat):gb:=Co d (.kx i x)
abbrev jk (d:Nat) (n:Int):gb:=Co d (.kk n)
abbrev jb (d:Nat) (b:Bool):gb:=Co d (.kb b)
abbrev jc (d:Nat) (p:PV):gb:=Co d (.kc p)
abbrev jB (d:Nat) (o:BinOp) (x y:Nat):gb:=Co d (.kB o x y)
abbrev jK (d:Nat) (o:BinOp) (x:Nat) (n:Int):gb:=Co d (.kK o x n)
abbrev jo (d:Nat) (x y:Nat):gb:=Co d (.ko x y)
abbrev ja (d:Nat) (x y:Nat):gb:=Co d (.ka x y)
abbrev jz (d:Nat) (x:Nat):gb:=Co d (.kz x)
abbrev jt (d:Nat) (x:Nat):gb:=Co d (.kt x)
abbrev jR (d:Nat) (n x:Nat):gb:=Co d (.kR n x)
abbrev jp (d:Nat) (F:List PV→Option PV) (x:Nat):gb:=Co d (.kp F x)
abbrev jq (d:Nat) (F:List PV→Option PV) (x y:Nat):gb:=Co d (.kq F x y)
abbrev jS (n a v:Nat):gb:=Ce (.ks n a v)
abbrev jT (d t:Nat) (op:qd):gb:=Cg d t true op
abbrev jF (d t:Nat) (op:qd):gb:=Cg d t false op
abbrev JT (d t:Nat) (op:qd):gb:=Cq d t true op
abbrev JF (d t:Nat) (op:qd):gb:=Cq d t false op
abbrev jQ (l:List gb) (c:Pa):Pa:= .seq (.region l) c
abbrev jr (l:List gb):Pa:= .seq (.region l) .ret
abbrev jX (t k:Nat):Pa:= .cond (.t t) .skip (.exit k)
abbrev jC (t:Nat) (a b:Pa):Pa:= .cond (.t t) a b
end Go.AM
set_option linter.unusedSimpArgs false
set_option linter.unusedVariables false
namespace Go.AM
section
variable {call:Wa}
theorem IM (f:St→Option St) (s:St):Br f (some s)=f s:=rfl
theorem eQ (f:St→Option (Ex×St)) (s:St):Ez f (some (.norm,s))=f s:=rfl
theorem NS (f:St→Option (Ex×St)) (s:St):Ez f (some (.ret,s))=some (.ret,s):=rfl
theorem bR (f:St→Option (Ex×St)) (n:Nat) (s:St):Ez f (some (.exit n,s))=some (.exit n,s):=rfl
theorem OM (s:St):Wq (some s)=some (.norm,s):=rfl
theorem FW (f g:St→Option (Ex×St)) (s:St):Ty f g s (some true)=f s:=rfl
theorem VW (f g:St→Option (Ex×St)) (s:St):Ty f g s (some false)=g s:=rfl
theorem FR (f:St→Option (Ex×St)) (s:St):Nk f (some s)=f s:=rfl
theorem gL (n:Nat) (s:St):Ur n (some (.norm,s))=some (.norm,s):=rfl
theorem CN (n:Nat) (s:St):Ur n (some (.ret,s))=some (.ret,s):=rfl
theorem dK (n m:Nat) (s:St):Ur n (some (.exit m,s))=if m=n then some (.norm,s) else some (.exit m,s):=rfl
theorem mW (d:Nat) (e:Tr) (v:AV) (H:List ba):mB (some d) e (some (v,H))=some ⟨e.set d v,H⟩:=rfl
theorem HV (e:Tr) (v:AV) (H:List ba):mB none e (some (v,H))=some ⟨e,H⟩:=rfl
theorem GY (s:St):ua call .skip s=some (.norm,s):=rfl
theorem oU (ops:List gb) (s:St):ua call (.region ops) s=Wq (Cd call ops s):=rfl
theorem iZ (a b:Pa) (s:St):ua call (.seq a b) s=Ez (ua call b) (ua call a s):=rfl
theorem dY (c:AO) (a b:Pa) (s:St):ua call (.cond c a b) s=Ty (ua call a) (ua call b) s (asBool (c.ev s.env)):=rfl
theorem qW (n:Nat) (b:Pa) (s:St):ua call (.block n b) s=Ur n (ua call b s):=rfl
theorem OV (b:Pa) (s:St):ua call (.scope b) s=ua call b s:=rfl
theorem xb (live:List Nat) (b:Pa) (s:St):ua call (.loop live b) s=Nk (ab (ga (ua call b) (fa s.H.length live)) qa) (fa s.H.length live s):=rfl
theorem Tp (live:List Nat) (b:Pa) (s:St):ua call (.Lp live b) s=ab (ga (ua call b) (fun s=>some (tidy live s))) qa (tidy live s):=rfl
theorem FY (n:Nat) (s:St):ua call (.exit n) s=some (.exit n,s):=rfl
theorem XY (s:St):ua call .ret s=some (.ret,s):=rfl
theorem qP (g:RO) (c:Pa) (s:St):ua call (.ghost g c) s=Nk (ua call c) (Be g s):=rfl
theorem xX (ix:Nat) (F:List PV→Option (List (List PV))) (g:AO) (ps:List Nat) (asg:List (Nat×Nat)) (b:Pa) (s:St):ua call (.range ix F g ps asg b) s=fA (fun e H=>ua call b ⟨e,H⟩) ps asg s (fp ix F ps.length (g.ev s.env)):=rfl
theorem JS (ix:Nat) (F:List PV→Option (List (List PV))) (g:AO) (ps:List Nat) (pre:List gb) (b:Pa) (s:St):ua call (.kv ix F g ps pre b) s=fA (fun e H=>Nk (ua call b) (Cd call pre ⟨e,H⟩)) ps [] s (fp ix F ps.length (g.ev s.env)):=rfl
theorem JV (s:St):Cd call [] s=some s:=rfl
theorem PU (o:gb) (r:List gb) (s:St):Cd call (o::r) s=Br (Cd call r) (Md call o s):=rfl
theorem bW (d:Option Nat) (op:qd) (e:Tr) (H:List ba):Md call ⟨d,op,none,false⟩ ⟨e,H⟩=mB d e (ya call e H op):=rfl
theorem lX (d:Option Nat) (op:qd) (e:Tr) (H:List ba):Md call ⟨d,op,none,true⟩ ⟨e,H⟩=mB d e (GX H (ya call e [] op)):=rfl
theorem iX (d:Option Nat) (op:qd) (t:Nat) (b p:Bool) (e:Tr) (H:List ba):Md call ⟨d,op,some (t,b),p⟩ ⟨e,H⟩=Sm (EN call ⟨d,op,some (t,b),p⟩) (Dy ⟨d,op,some (t,b),p⟩) ⟨e,H⟩ (ug e (some (t,b))):=rfl
theorem lW (f g:St→Option St) (s:St):Sm f g s (some true)=f s:=rfl
theorem PW (f g:St→Option St) (s:St):Sm f g s (some false)=g s:=rfl
theorem gZ (d:Option Nat) (op:qd) (g:Option (Nat×Bool)) (e:Tr) (H:List ba):EN call ⟨d,op,g,false⟩ ⟨e,H⟩=mB d e (ya call e H op):=rfl
theorem kZ (d:Option Nat) (op:qd) (g:Option (Nat×Bool)) (e:Tr) (H:List ba):EN call ⟨d,op,g,true⟩ ⟨e,H⟩=mB d e (GX H (ya call e [] op)):=rfl
theorem pX (d:Nat) (op:qd) (g:Option (Nat×Bool)) (p:Bool) (e:Tr) (H:List ba):Dy ⟨some d,op,g,p⟩ ⟨e,H⟩=some ⟨e.set d (.pv (.mc [])),H⟩:=rfl
theorem gX (op:qd) (g:Option (Nat×Bool)) (p:Bool) (e:Tr) (H:List ba):Dy ⟨none,op,g,p⟩ ⟨e,H⟩=some ⟨e,H⟩:=rfl
theorem xY (H:List ba) (v:AV):GX H (some (v,[]))=some (v,H):=rfl
end
def rW (rs:List rC) (r:Option (Ex×St)):Option (AV×List ba):=fS ⟨0,rs,.skip⟩ r
theorem zA (rs:List rC) (s:St):rW rs (some (.norm,s))=(Ra (pC s) rs).bind fun vs=>some (RE vs,s.H):=by
 show (uN _ s).map _=_
 simp only[uN]
 cases Ra (pC s) rs <;> rfl
theorem zK (rs:List rC) (s:St):rW rs (some (.ret,s))=(Ra (pC s) rs).bind fun vs=>some (RE vs,s.H):=zA rs s
theorem sW {call:Wa} (np:Nat) (rs:List rC) (body:Pa) (args:List AV) (H:List ba):Ri call ⟨np,rs,body⟩ args H=if args.length=np then rW rs (ua call body ⟨mq 0 args,H⟩) else none:=rfl
theorem BZ:(true==true)=true:=rfl
theorem DZ:(true==false)=false:=rfl
theorem xZ:(false==true)=false:=rfl
theorem qZ:(false==false)=true:=rfl
theorem xM (L:Nat→Option gf) (d ix:Nat) (args:List AV) (H:List ba):Ea L (d+1) ix args H=(L ix).bind fun f=>Ri (Ea L d) f args H:=rfl
theorem Qz (L:Nat→Option gf) (d ix:Nat) (args:List AV) (H:List ba) {f:gf} (h:L ix=some f):Ea L (d+1) ix args H=Ri (Ea L d) f args H:=by simp[Ea,h]
theorem OR (H:List ba):Vb H 0 (.pv .ma)=some 0:=rfl
theorem uV (H:List ba) (sz:Nat) (es:List PV):Vb H 0 (.pv (.lit sz es))=some es.length:=rfl
theorem vW (H:List ba) (id sz:Nat) (nl:Bool) (es:List PV):Vb H 0 (.uq id nl sz es)=some es.length:=rfl
theorem LU (H:List ba) (x:ByteArray):Vb H 1 (.pv (.str x))=some x.size:=rfl
theorem mQ (H:List ba):Vb H 2 (.pv .Lw)=some 0:=rfl
theorem Vz (H:List ba) (id len:Nat):Vb H 0 (.own id len)=match H[id]? with
 |some (.seq sz _ cells fl _)=>(if (Qh sz len fl cells.length) then (some len) else none)
 |_=>none:=rfl
theorem KW (H:List ba) (id:Nat):Vb H 2 (.mp id)=match H[id]? with
 |some (.map es)=>some es.length
 |_=>none:=rfl
end Go.AM
set_option linter.unusedSimpArgs false
set_option linter.unusedVariables false
namespace Go.AM
open Go.RowKit
theorem HR {P:Program} {f:FuncId} {F:List PV→Option PV} (h:Na P f F) {w:World} {args:List PV} {vs:List Value} (hl:Ae (Rw w) args vs) (hr:F args=some (.bool true)):
 Calls P f ⟨vs⟩ w fun e w'=>e= .returned (.bool true)∧Below w.heap.size w w':=by
 refine Calls.mono (h.2 w (Rw w) args vs _ (fun _ _ _ h=>h) hl hr) ?_
 rintro e w' ⟨v,R',rfl,hb,hv,_⟩
 cases hv
 exact⟨rfl,hb⟩
end Go.AM
set_option linter.unusedSimpArgs false
set_option linter.unusedVariables false
namespace Go.AM
open Go.RowKit
def Js (P:Program) (t:TypeId):Bool:=
 match P.underlying t with
 |some (.struct _) | some (.array _ _)=>true
 |_=>false
def Hn (P:Program) (e:TypeId) (row:List PV):PV:=if Js P e then .agg row else row.headD .Sg
def rowOf (P:Program) {H:Type}:Nat→TypeId→DataW H→List PV
 |0,_,_=>[]
 |f+1,t,d=>
  match P.underlying t,d with
  |some .bool,.lit (.bool b)=>[.bool b]
  |some (.int k),.lit (.int _ n)=>[.int k n]
  |some .string,.lit (.string l)=>[.str ⟨l.toArray⟩]
  |some (.pointer _),.nil=>[.Sg]
  |some (.pointer e),.ptr d=>[.rp (rowOf P f e d) 0]
  |some (.slice _),.nil=>[.ma]
  |some (.slice e),.slice es _=>[.lit (P.cellsOf e) (es.map fun d=>Hn P e (rowOf P f e d))]
  |some (.struct fs),.agg ds=>((fs.toList.zip ds).map fun p=>rowOf P f p.1.type p.2).flatten
  |some (.array _ e),.agg ds=>(ds.map (rowOf P f e)).flatten
  |_,_=>[]
def vK (P:Program):Nat→List Field→Option Nat
 |o,[]=>some o
 |o,f::r=>if f.offset=o then vK P (o+P.cellsOf f.type) r else none
def DM (P:Program):Nat→TypeId→Bool
 |0,_=>false
 |f+1,t=>
  match P.underlying t with
  |some .bool | some (.int _) | some .string=>P.cellsOf t==1
  |some (.pointer e) | some (.slice e)=>P.cellsOf t==1&&decide (0 < P.cellsOf e)&&DM P f e
  |some (.struct fs)=>vK P 0 fs.toList==some (P.cellsOf t)&&fs.toList.all fun fd=>DM P f fd.type
  |some (.array n e)=>P.cellsOf t==n * P.cellsOf e&&DM P f e
  |_=>false
section
variable {P:Program} {H:Type} {enc:TypeId×Value→H} {w:World} {base:Nat} {sp:Nat→Bool} {held:Bool}
structure uG (P:Program) (w:World) (t:TypeId) (row:List PV) (cs:List Value):Prop where
 rel:Ae (Rw w) row cs
 one:∀ p∈row,kG p=true
 len:row.length=P.cellsOf t
theorem mapM_some {α β:Type} {f:α→Option β}:∀ {l:List α} {r:List β},l.mapM f=some r→r.length=l.length∧∀ (i:Nat) (x:α),l[i]? =some x→∃ y,r[i]? =some y∧f x=some y:=by
 intro l
 induction l with
 |nil=>intro r h;simp at h;subst h;exact⟨rfl,fun i x h=>by simp at h⟩
 |cons a l ih=>
  intro r h
  simp only[List.mapM_cons,Option.bind_eq_bind,Option.bind_eq_some_iff,Option.pure_def,Option.some.injEq] at h
  obtain⟨b,h1,bs,h2,rfl⟩:=h
  obtain⟨k1,k2⟩:=ih h2
  refine⟨by simp[k1],fun i x hx=> ?_⟩
  cases i with
  |zero=>simp at hx;subst hx;exact⟨b,rfl,h1⟩
  |succ i=>simpa using k2 i x (by simpa using hx)
theorem Ae.app {R:Rd} {ps qs:List PV} {vs us:List Value} (h:Ae R ps vs) (h':Ae R qs us):Ae R (ps++qs) (vs++us):=Ae.append h h'
theorem NM {a:Addr} {n:Nat} {cs:List Value} (h:w.cells? base a n=some cs):cs.length=n∧∀ (i:Nat) (v:Value),cs[i]? =some v→w.cell? (a.add i)=some v:=by
 unfold World.cells? at h
 split at h
 ·obtain⟨h1,h2⟩:=mapM_some h
  rw[List.length_range] at h1
  refine⟨h1,fun i v hv=> ?_⟩
  have hlt:=getElem?_lt hv
  obtain⟨y,hy1,hy2⟩:=h2 i i (by rw[List.getElem?_range (by omega)])
  rw[hv] at hy1;injection hy1 with hy1;subst hy1;exact hy2
 ·cases h
theorem BH {a:Addr} {v:Value} (h:w.cell? a=some v):a.spot=none:=by
 unfold World.cell? at h
 split at h
 ·split at h
  ·cases h
  ·rename_i hs;cases ha:a.spot with
   |none=>rfl
   |some s=>simp[ha] at hs
 ·cases h
theorem DV {a:Addr} {i:Nat} {v:Value} (h:w.cell? (a.add i)=some v):w.cell? ⟨a.block,a.off+i,none⟩=some v:=by
 have hs:=BH h
 obtain⟨b,o,s⟩:=a
 unfold Addr.add at h hs
 split at h
 ·rename_i h0;subst h0
  rw[if_pos rfl] at hs
  simp only at hs
  subst hs
  simpa using h
 ·exact h
theorem bg.flat {R:Rd} {b sz:Nat}:∀ {es:List PV} {o:Nat},(∀ e∈es,e.cells.length=sz)→(∀ (i:Nat) (e:PV),es[i]? =some e→bg R e.cells b (o+i * sz))→bg R (AM.flat es) b o:=by
 intro es
 induction es with
 |nil=>intro o _ _;exact .nil _ _
 |cons e es ih=>
  intro o hl h
  have h0:=h 0 e rfl
  simp only[Nat.zero_mul,Nat.add_zero] at h0
  refine bg.append h0 ?_
  rw[hl e (by simp)]
  refine ih (fun x hx=>hl x (by simp[hx])) fun i x hx=> ?_
  have:=h (i+1) x (by simpa using hx)
  rw[Nat.add_mul,Nat.one_mul] at this
  rw[show o+sz+i * sz=o+(i * sz+sz) from by omega]
  exact this
theorem fU {e:TypeId} {row:List PV} {cs:List Value} (h:uG P w e row cs) (hs:Js P e=true∨P.cellsOf e=1):(Hn P e row).cells=row:=by
 unfold Hn
 split
 ·rfl
 ·rename_i hn
  have hc:=hs.resolve_left hn
  have hlen:=h.len
  rw[hc] at hlen
  match row,hlen with
  | [p],_=>exact wD (h.one p (by simp))
theorem fY {e:TypeId} {row:List PV} {cs:List Value} {a:Addr} (h:uG P w e row cs) (hc:∀ (i:Nat) (v:Value),cs[i]? =some v→w.cell? (a.add i)=some v):bg (Rw w) row a.block a.off:=
 bg.Em h.rel (fun v hv=>by
  obtain⟨i,hi⟩:=List.mem_iff_getElem?.1 hv
  have hlt:=getElem?_lt hi
  have hl:=h.rel.length
  have hp:row[i]? =some (row[i]'(by omega)):=List.getElem?_eq_getElem _
  obtain⟨u,hu,hr⟩:=h.rel.get hp
  rw[hi] at hu;injection hu with hu;subst hu
  exact hr.one (h.one _ (List.getElem_mem _))) fun i v hv=>DV (hc i v hv)
theorem cP {g:Nat} {t:TypeId} (h:DM P g t=true):Js P t=true∨P.cellsOf t=1:=by
 cases g with
 |zero=>simp[DM] at h
 |succ g=>
  simp only[DM] at h
  unfold Js
  split at h <;> simp_all
theorem vR {R:Rd}:∀ (fs:List Field) (o:Nat) (cs:List Value) (rows:List (List PV)),vK P o fs=some cs.length→rows.length=fs.length→
 (∀ (i:Nat) (f:Field) (r:List PV),fs[i]? =some f→rows[i]? =some r→Ae R r ((cs.drop f.offset).take (P.cellsOf f.type))∧r.length=P.cellsOf f.type)→Ae R rows.flatten (cs.drop o):=by
 intro fs
 induction fs with
 |nil=>
  intro o cs rows h hl _
  simp only[vK,Option.some.injEq] at h
  subst h
  have:rows=[]:=List.eq_nil_of_length_eq_zero (by simpa using hl)
  subst this
  simpa using Ae.nil
 |cons f fs ih=>
  intro o cs rows h hl hr
  cases rows with
  |nil=>simp at hl
  |cons r rows=>
   simp only[vK] at h
   split at h
   ·rename_i ho
    obtain⟨h1,h2⟩:=hr 0 f r rfl rfl
    rw[ho] at h1
    have h3:=ih (o+P.cellsOf f.type) cs rows h (by simpa using hl) fun i g q hg hq=>hr (i+1) g q (by simpa using hg) (by simpa using hq)
    have:cs.drop o=(cs.drop o).take (P.cellsOf f.type)++cs.drop (o+P.cellsOf f.type):=by
     rw[← List.drop_drop,List.take_append_drop]
    rw[this,List.flatten_cons]
    exact Ae.app h1 h3
   ·cases h
theorem cU {R:Rd} {sz:Nat}:∀ (n:Nat) (cs:List Value) (rows:List (List PV)),cs.length=n * sz→rows.length=n→
 (∀ (i:Nat) (r:List PV),rows[i]? =some r→Ae R r ((cs.drop (i * sz)).take sz))→Ae R rows.flatten cs:=by
 intro n
 induction n with
 |zero=>
  intro cs rows h hl _
  have:rows=[]:=List.eq_nil_of_length_eq_zero hl
  subst this
  have:cs=[]:=List.eq_nil_of_length_eq_zero (by simpa using h)
  subst this
  exact .nil
 |succ n ih=>
  intro cs rows h hl hr
  cases rows with
  |nil=>simp at hl
  |cons r rows=>
   have h1:=hr 0 r rfl
   simp only[Nat.zero_mul,List.drop_zero] at h1
   have h3:=ih (cs.drop sz) rows (by rw[List.length_drop,h,Nat.add_mul];omega) (by simpa using hl) fun i q hq=>by
    have:=hr (i+1) q (by simpa using hq)
    rw[List.drop_drop]
    rw[Nat.add_mul,Nat.one_mul] at this
    rw[show sz+i * sz=i * sz+sz from by omega]
    exact this
   rw[← List.take_append_drop sz cs,List.flatten_cons]
   exact Ae.app h1 h3
theorem YV:∀ (g:Nat) (t:TypeId) (fuel:Nat) (cs:List Value) (x:DataW H×List MemPlace),DM P g t=true→DataW.trod enc P w base (fun _=>true) held fuel t cs=some x→uG P w t (rowOf P g t x.1) cs:=by
 intro g
 induction g with
 |zero=>intro t fuel cs x h;simp[DM] at h
 |succ g ih=>
  intro t fuel cs x Ba h
  simp only[DM] at Ba
  have elem:∀ {e:TypeId} {n:Nat} {a:Addr} {y:DataW H×List MemPlace},DM P g e=true→(w.cells? base a (P.cellsOf e)).bind (DataW.trod enc P w base (fun _=>true) held n e)=some y→
   bg (Rw w) (rowOf P g e y.1) a.block a.off∧(rowOf P g e y.1).length=P.cellsOf e∧(Hn P e (rowOf P g e y.1)).cells=rowOf P g e y.1∧(0 < P.cellsOf e→a.spot=none):=by
   intro e n a y he hy
   simp only[Option.bind_eq_some_iff] at hy
   obtain⟨ecs,h1,h2⟩:=hy
   obtain⟨k1,k2⟩:=NM h1
   have hr:=ih e n ecs y he h2
   refine⟨fY hr k2,hr.len,fU hr (cP he),fun hpos=> ?_⟩
   have hv:ecs[0]? =some (ecs[0]'(by omega)):=List.getElem?_eq_getElem _
   have:=BH (k2 0 _ hv)
   simpa[Addr.add] using this
  have atom:∀ {p:PV} {v:Value},kG p=true→Sa (Rw w) p v→P.cellsOf t=1→uG P w t [p] [v]:=fun h1 h2 h3=>
   ⟨.cons _ _ _ _ h2 .nil,by simpa using h1,by simp[h3]⟩
  cases hu:P.underlying t with
  |none=>simp[hu] at Ba
  |some td=>
   simp only[hu] at Ba
   cases td with
   |bool=>
    obtain⟨b,rfl,rfl⟩:=DataW.trod_bool hu h
    simp only[rowOf,hu]
    exact atom rfl (.bool _) (by simpa using Ba)
   |int k=>
    obtain⟨n,rfl,rfl,_⟩:=DataW.trod_int hu h
    simp only[rowOf,hu]
    exact atom rfl (.int _ _) (by simpa using Ba)
   |string=>
    obtain⟨s,rfl,rfl,_⟩:=DataW.trod_string hu h
    simp only[rowOf,hu]
    obtain⟨⟨l⟩⟩:=s
    exact atom rfl (.str _) (by simpa using Ba)
   |pointer e=>
    simp only[Bool.and_eq_true,beq_iff_eq,decide_eq_true_eq] at Ba
    obtain⟨⟨hc,hpos⟩,he⟩:=Ba
    rcases DataW.trod_pointer hu h with⟨rfl,rfl⟩ | ⟨a,ecs,y,n,rfl,rfl,rfl,h1,h2⟩
    ·simp only[rowOf,hu]
     exact atom rfl .Sg hc
    ·simp only[rowOf,hu]
     obtain⟨k1,k2,k3,k4⟩:=elem he (n:=n) (a:=a) (y:=y) (by rw[h1];exact h2)
     have hs:=k4 hpos
     obtain⟨b,o,s⟩:=a
     simp only at hs
     subst hs
     refine atom rfl ?_ hc
     have:=Sa.rp (R:=Rw w) _ 0 b o k1
     simpa using this
   |slice e=>
    simp only[Bool.and_eq_true,beq_iff_eq,decide_eq_true_eq] at Ba
    obtain⟨⟨hc,hpos⟩,he⟩:=Ba
    rcases DataW.trod_slice hu h with⟨rfl,rfl⟩ | ⟨a,len,cap,els,rest,n,rfl,rfl,rfl,_,hlc,_,hlen,hel,hsp,_⟩
    ·simp only[rowOf,hu]
     exact atom rfl .ma hc
    ·simp only[rowOf,hu]
     refine atom rfl ?_ hc
     obtain⟨hr1,hr2⟩:=hsp rfl
     have each:∀ (i:Nat) (y:DataW H×List MemPlace),els[i]? =some y→(w.cells? base (a.add (i * P.cellsOf e)) (P.cellsOf e)).bind (DataW.trod enc P w base (fun _=>true) held n e)=some y:=by
      intro i y hy
      rw[hel i (by have:=getElem?_lt hy;omega),hy]
     by_cases hcap:cap=0
     ·have:len=0:=by omega
      subst this
      subst hcap
      have:els=[]:=List.eq_nil_of_length_eq_zero hlen
      subst this
      exact .Jz _ _
     ·have hs:a.spot=none:=by
       rcases Nat.eq_zero_or_pos len with h0 | h0
       ·have h1:0 < cap - len:=by omega
        have hv:rest[0]? =some (rest[0]'(by omega)):=List.getElem?_eq_getElem _
        have:=hr2 0 h1
        rw[hv] at this
        have:=(elem he this).2.2.2 hpos
        subst h0
        simpa[Addr.add] using this
       ·have hv:els[0]? =some (els[0]'(by omega)):=List.getElem?_eq_getElem _
        have:=(elem he (each 0 _ hv)).2.2.2 hpos
        simpa[Addr.add] using this
      obtain⟨b,o,s⟩:=a
      simp only at hs
      subst hs
      have hcl:∀ p∈(els.map (·.1)).map (fun d=>Hn P e (rowOf P g e d)),p.cells.length=P.cellsOf e:=by
       intro p hp
       simp only[List.map_map,List.mem_map] at hp
       obtain⟨y,hy,rfl⟩:=hp
       obtain⟨i,hi⟩:=List.mem_iff_getElem?.1 hy
       obtain⟨_,k2,k3,_⟩:=elem he (each i y hi)
       simp only[Function.comp]
       rw[k3,k2]
      have:=Sa.lit (R:=Rw w) (P.cellsOf e) ((els.map (·.1)).map (fun d=>Hn P e (rowOf P g e d))) b o cap (by simp;omega) hcl (bg.flat hcl fun i p hp=>by
       simp only[List.map_map,List.getElem?_map,Option.map_eq_some_iff] at hp
       obtain⟨y,hy,rfl⟩:=hp
       obtain⟨k1,k2,k3,_⟩:=elem he (each i y hy)
       simp only[Function.comp]
       rw[k3]
       have hb:(Addr.add ⟨b,o,none⟩ (i * P.cellsOf e))=⟨b,o+i * P.cellsOf e,none⟩:=by rw[Ym]
       rw[hb] at k1
       exact k1)
      simpa[hlen] using this
   |struct fs=>
    simp only[Bool.and_eq_true,beq_iff_eq] at Ba
    obtain⟨hlay,hall⟩:=Ba
    obtain⟨xs,n,rfl,rfl,hcs,hxs,hf⟩:=DataW.trod_struct hu h
    simp only[rowOf,hu]
    have each:∀ (i:Nat) (f:Field) (y:DataW H×List MemPlace),fs.toList[i]? =some f→xs[i]? =some y→uG P w f.type (rowOf P g f.type y.1) ((cs.drop f.offset).take (P.cellsOf f.type)):=by
     intro i f y hfi hy
     have:=hf i f (by simpa using hfi)
     rw[hy] at this
     exact ih _ n _ y (List.all_eq_true.1 hall f (List.mem_of_getElem? hfi)) this
    have get:∀ (i:Nat) (r:List PV),((fs.toList.zip (xs.map (·.1))).map fun p=>rowOf P g p.1.type p.2)[i]? =some r→∃ f y,fs.toList[i]? =some f∧xs[i]? =some y∧r=rowOf P g f.type y.1:=by
     intro i r hr
     simp only[List.getElem?_map,Option.map_eq_some_iff] at hr
     obtain⟨p,hp,rfl⟩:=hr
     rw[List.getElem?_zip_eq_some] at hp
     obtain⟨hp1,hp2⟩:=hp
     simp only[List.getElem?_map,Option.map_eq_some_iff] at hp2
     obtain⟨y,hy,hy2⟩:=hp2
     exact⟨p.1,y,hp1,hy,by rw[hy2]⟩
    have hrel:=vR (R:=Rw w) fs.toList 0 cs ((fs.toList.zip (xs.map (·.1))).map fun p=>rowOf P g p.1.type p.2) (by rw[hcs];exact hlay) (by simp[hxs]) fun i f r hfi hri=>by
     obtain⟨f',y,h1,h2,rfl⟩:=get i r hri
     rw[hfi] at h1;injection h1 with h1;subst h1
     have:=each i f y hfi h2
     exact⟨this.rel,this.len⟩
    rw[List.drop_zero] at hrel
    refine⟨hrel,fun p hp=> ?_,by rw[← hrel.length,hcs]⟩
    rw[List.mem_flatten] at hp
    obtain⟨r,hr,hp⟩:=hp
    obtain⟨i,hi⟩:=List.mem_iff_getElem?.1 hr
    obtain⟨f,y,h1,h2,rfl⟩:=get i r hi
    exact (each i f y h1 h2).one p hp
   |array n e=>
    simp only[Bool.and_eq_true,beq_iff_eq] at Ba
    obtain⟨hlay,he⟩:=Ba
    obtain⟨xs,m,rfl,rfl,hcs,hxs,hf⟩:=DataW.trod_array hu h
    simp only[rowOf,hu]
    have each:∀ (i:Nat) (y:DataW H×List MemPlace),xs[i]? =some y→uG P w e (rowOf P g e y.1) ((cs.drop (i * P.cellsOf e)).take (P.cellsOf e)):=by
     intro i y hy
     have:=hf i (by have:=getElem?_lt hy;omega)
     rw[hy] at this
     exact ih _ m _ y he this
    have get:∀ (i:Nat) (r:List PV),((xs.map (·.1)).map (rowOf P g e))[i]? =some r→∃ y,xs[i]? =some y∧r=rowOf P g e y.1:=by
     intro i r hr
     simp only[List.map_map,List.getElem?_map,Option.map_eq_some_iff] at hr
     obtain⟨y,hy,rfl⟩:=hr
     exact⟨y,hy,rfl⟩
    have hrel:=cU (R:=Rw w) n cs ((xs.map (·.1)).map (rowOf P g e)) (by rw[hcs,hlay]) (by simp[hxs]) fun i r hri=>by
     obtain⟨y,h2,rfl⟩:=get i r hri
     exact (each i y h2).rel
    refine⟨hrel,fun p hp=> ?_,by rw[← hrel.length,hcs]⟩
    rw[List.mem_flatten] at hp
    obtain⟨r,hr,hp⟩:=hp
    obtain⟨i,hi⟩:=List.mem_iff_getElem?.1 hr
    obtain⟨y,h2,rfl⟩:=get i r hi
    exact (each i y h2).one p hp
   |_=>simp at Ba
def Sh (P:Program):Nat→TypeId→List PV→Prop
 |0,_,_=>False
 |g+1,t,row=>
  match P.underlying t with
  |some .bool=>∃ b,row=[.bool b]
  |some (.int k)=>∃ n,row=[.int k n]∧(Lit.int k n).wf=true
  |some .string=>∃ s:ByteArray,row=[.str s]∧s.size≤reachBytes
  |some (.pointer e)=>row=[.Sg]∨∃ r,row=[.rp r 0]∧Sh P g e r
  |some (.slice e)=>row=[.ma]∨∃ es:List (List PV),row=[.lit (P.cellsOf e) (es.map (Hn P e))]∧es.length≤maxLen∧es.length * P.bytesOf e≤reachBytes∧∀ r∈es,Sh P g e r
  |some (.struct fs)=>∃ rows:List (List PV),rows.length=fs.size∧row=rows.flatten∧∀ (i:Nat) (f:Field) (r:List PV),fs.toList[i]? =some f→rows[i]? =some r→Sh P g f.type r
  |some (.array n e)=>∃ es:List (List PV),es.length=n∧row=es.flatten∧∀ r∈es,Sh P g e r
  |_=>False
theorem nw {P:Program} {e:TypeId}:∀ {ds:List (DataW H)} {d:DataW H} {n:Nat},d∈ds→n∈d.weights P e→n∈DataW.weightsAll P e ds
 |c::ds,d,n,hd,hn=>by
  simp only[DataW.weightsAll,List.mem_append]
  rcases List.mem_cons.1 hd with rfl | hd
  ·exact .inl hn
  ·exact .inr (nw hd hn)
theorem vY:∀ (g:Nat) (t:TypeId) (fuel:Nat) (cs:List Value) (x:DataW H×List MemPlace),DM P g t=true→DataW.trod enc P w base sp held fuel t cs=some x→(∀ n∈x.1.weights P t,n≤reachBytes)→Sh P g t (rowOf P g t x.1):=by
 intro g
 induction g with
 |zero=>intro t fuel cs x h;simp[DM] at h
 |succ g ih=>
  intro t fuel cs x Ba h hwt
  simp only[DM] at Ba
  cases hu:P.underlying t with
  |none=>simp[hu] at Ba
  |some td=>
   simp only[hu] at Ba
   cases td with
   |bool=>obtain⟨b,rfl,rfl⟩:=DataW.trod_bool hu h;simp only[Sh,rowOf,hu];exact⟨_,rfl⟩
   |int k=>obtain⟨n,rfl,rfl,hw⟩:=DataW.trod_int hu h;simp only[Sh,rowOf,hu];exact⟨_,rfl,hw⟩
   |string=>
    obtain⟨s,rfl,rfl,hs⟩:=DataW.trod_string hu h
    simp only[Sh,rowOf,hu]
    obtain⟨⟨l⟩⟩:=s
    refine⟨_,rfl,?_⟩
    have:=hwt l.length (by simp[DataW.weights])
    simpa[ByteArray.size] using this
   |pointer e=>
    simp only[Bool.and_eq_true,beq_iff_eq,decide_eq_true_eq] at Ba
    rcases DataW.trod_pointer hu h with⟨rfl,rfl⟩ | ⟨a,ecs,y,n,rfl,rfl,rfl,h1,h2⟩
    ·simp only[Sh,rowOf,hu];exact .inl trivial
    ·simp only[Sh,rowOf,hu];exact .inr ⟨_,rfl,ih e n _ y Ba.2 h2 (fun n hn=>hwt n (by simpa[DataW.weights,hu] using hn))⟩
   |slice e=>
    simp only[Bool.and_eq_true,beq_iff_eq,decide_eq_true_eq] at Ba
    rcases DataW.trod_slice hu h with⟨rfl,rfl⟩ | ⟨a,len,cap,els,rest,n,rfl,rfl,rfl,_,hlc,hmax,hlen,hel,_,_⟩
    ·simp only[Sh,rowOf,hu];exact .inl trivial
    ·have hsz:=hwt _ (show _ by simp only[DataW.weights,hu];exact List.mem_cons_self ..)
     have hsz':els.length * P.bytesOf e≤reachBytes:=by
      refine Nat.le_trans (Nat.mul_le_mul_right _ ?_) hsz
      simp
     simp only[Sh,rowOf,hu]
     refine .inr ⟨els.map fun y=>rowOf P g e y.1,by simp[List.map_map,Function.comp_def],by simp;omega,by simpa using hsz',fun r hr=> ?_⟩
     obtain⟨y,hy,rfl⟩:=List.mem_map.1 hr
     obtain⟨i,hi⟩:=List.mem_iff_getElem?.1 hy
     have h1:=hel i (by have:=getElem?_lt hi;omega)
     rw[hi] at h1
     simp only[Option.bind_eq_some_iff] at h1
     obtain⟨ecs,_,h2⟩:=h1
     refine ih e n ecs y Ba.2 h2 (fun k hk=>hwt k ?_)
     simp only[DataW.weights,hu,List.mem_cons,List.mem_append]
     exact .inr (.inl (nw (List.mem_map.2 ⟨y,hy,rfl⟩) hk))
   |struct fs=>
    simp only[Bool.and_eq_true,beq_iff_eq] at Ba
    obtain⟨xs,n,rfl,rfl,hcs,hxs,hf⟩:=DataW.trod_struct hu h
    simp only[Sh,rowOf,hu]
    refine⟨_,?_,rfl,fun i f r hfi hr=> ?_⟩
    ·simp[hxs]
    ·simp only[List.getElem?_map,Option.map_eq_some_iff] at hr
     obtain⟨p,hp,rfl⟩:=hr
     rw[List.getElem?_zip_eq_some] at hp
     obtain⟨hp1,hp2⟩:=hp
     have hp2':=hp2
     simp only[List.getElem?_map,Option.map_eq_some_iff] at hp2
     obtain⟨y,hy,hy2⟩:=hp2
     rw[hfi] at hp1;injection hp1 with hp1
     have:=hf i f (by simpa using hfi)
     rw[hy] at this
     rw[← hp1,←hy2]
     refine ih _ n _ y (List.all_eq_true.1 Ba.2 f (List.mem_of_getElem? hfi)) this (fun k hk=>hwt k ?_)
     simp only[DataW.weights,hu]
     exact DataW.weights_mem_each (j:=i) (t:=f.type) (d:=y.1) (by simp[hfi]) (by rw[hy2];exact hp2') k hk
   |array n e=>
    simp only[Bool.and_eq_true,beq_iff_eq] at Ba
    obtain⟨xs,m,rfl,rfl,hcs,hxs,hf⟩:=DataW.trod_array hu h
    simp only[Sh,rowOf,hu]
    refine⟨_,?_,rfl,fun r hr=> ?_⟩
    ·simp[hxs]
    ·simp only[List.map_map,List.mem_map] at hr
     obtain⟨y,hy,rfl⟩:=hr
     obtain⟨i,hi⟩:=List.mem_iff_getElem?.1 hy
     have:=hf i (by have:=getElem?_lt hi;omega)
     rw[hi] at this
     refine ih _ m _ y Ba.2 this (fun k hk=>hwt k ?_)
     simp only[DataW.weights,hu]
     exact nw (List.mem_map.2 ⟨y,hy,rfl⟩) hk
   |_=>simp at Ba
theorem cW {r:Reach} {b0:Nat} {g:Nat} {t:TypeId} {v:Value} {d:DataW H} {ps:List MemPlace} (Ba:DM P g t=true) (hval:Value.okWide P w r b0 t v) (hd:DataW.Trod enc P w base (fun _=>true) held t v d ps):
 Sa (Rw w) (Hn P t (rowOf P g t d)) v:=by
 obtain⟨fuel,hf⟩:=hd
 have hr:=YV g t fuel _ _ Ba hf
 have h1:=cP Ba
 unfold Hn
 cases ha:Js P t with
 |true=>
  simp only[if_true]
  have:∃ cs,v= .agg cs:=by
   unfold Js at ha
   unfold Value.okWide at hval
   cases hu:P.underlying t with
   |none=>simp[hu] at ha
   |some td=>cases td <;> simp[hu] at ha hval <;> exact⟨_,hval.choose_spec.1⟩
  obtain⟨⟨cs⟩,rfl⟩:=this
  exact .agg _ _ (by simpa[Value.cells] using hr.rel)
 |false=>
  simp only[Bool.false_eq_true,if_false]
  have hc:=h1.resolve_left (by simp[ha])
  have hlen:=hr.len
  rw[hc] at hlen
  generalize rowOf P g t d=row at hr hlen ⊢
  have hrel:=hr.rel
  match row,hlen with
  | [p],_=>
    have:∃ u,v.cells.toList=[u]∧Sa (Rw w) p u:=by
     generalize v.cells.toList=l at hrel
     cases hrel with
     |cons _ _ u us h2 h3=>cases h3;exact⟨u,rfl,h2⟩
    obtain⟨u,hu,hp⟩:=this
    have:v=u:=by
     cases v <;> simp[Value.cells] at hu <;> first | exact hu | skip
     rename_i cs
     unfold Value.okWide at hval
     unfold Js at ha
     cases hut:P.underlying t with
     |none=>simp[hut,Cell.okWide,Cell.ok] at hval
     |some td=>cases td <;> simp[hut] at ha <;> simp[hut,Cell.okWide,Cell.ok] at hval
    rw[this]
    exact hp
end
end Go.AM
set_option linter.unusedSimpArgs false
set_option linter.unusedVariables false
namespace Go.AM
def ba.plain:ba→Bool
 | .box cells=>cells.all AV.free'
 | .tok _ _ _=>true
 | .dead=>true
 |_=>false
where AV.free':AV→Bool
 | .pv _=>true
 |_=>false
theorem Ma {n d:Nat} {p:PV}:AV.cut n d (.pv p)=some (.pv p):=by cases d <;> rfl
end Go.AM
set_option linter.unusedSimpArgs false
set_option linter.unusedVariables false
namespace Go.AM
def Ex.stop:Ex→Bool
 | .norm=>false
 |_=>true
def Nc (call:Wa) (live:List Nat) (b:Pa) (n:Nat) (s:St):Option (Ex×St):=ga (ua call b) (fa n live) s
theorem al {g:St→Option (Ex×St)} (I:Nat→St→Prop) (Q:Ex→St→Prop):∀ (k N i:Nat) (s:St),N < i+k→i≤N→I i s→
 (∀ i,i < N→∀ s,I i s→(∃ s',g s=some (.norm,s')∧I (i+1) s')∨(∃ ex s',g s=some (ex,s')∧ex.stop=true∧Q ex s'))→
 (∀ s,I N s→∃ ex s',g s=some (ex,s')∧ex.stop=true∧Q ex s')→
 ∃ ex s',ab g k s=some (ex,s')∧ex.stop=true∧Q ex s':=by
 intro k
 induction k with
 |zero=>intro N i s h1 h2;omega
 |succ k ih=>
  intro N i s h1 h2 hI hs he
  have out:(∃ ex s',g s=some (ex,s')∧ex.stop=true∧Q ex s')→∃ ex s',ab g (k+1) s=some (ex,s')∧ex.stop=true∧Q ex s':=by
   rintro⟨ex,s',h,hx,hq⟩
   refine⟨ex,s',?_,hx,hq⟩
   show Ez (ab g k) (g s)=_
   rw[h]
   cases ex with
   |norm=>cases hx
   |exit=>rfl
   |ret=>rfl
  by_cases hi:i < N
  ·rcases hs i hi s hI with⟨s',h,hI'⟩ | h
   ·obtain⟨ex,s'',h2,hx,hq⟩:=ih N (i+1) s' (by omega) (by omega) hI' hs he
    refine⟨ex,s'',?_,hx,hq⟩
    show Ez (ab g k) (g s)=_
    rw[h]
    exact h2
   ·exact out h
  ·have:i=N:=by omega
   subst this
   exact out (he s hI)
theorem Ca {n:Int} (h: -9223372036854775808≤n∧n≤9223372036854775807):IntKind.i64.wrap n=n:=by
 rw[IntKind.wrap_i64]
 omega
theorem wrap_u8 {n:Int} (h:0≤n∧n≤255):IntKind.u8.wrap n=n:=by
 have e:IntKind.u8.wrap n=n % 256:=by
  simp[IntKind.signed,IntKind.wrap,IntKind.bits]
 rw[e]
 omega
end Go.AM
set_option linter.unusedSimpArgs false
set_option linter.unusedVariables false
namespace Go.AM
open Go.ChangeShapes Go.WideShapes Go.ChangeAt Go.RowKit
def vZ (P:Program) {H:Type} (g:Nat):List TypeId→List (DataW H)→List PV
 |t::ts,d::ds=>Hn P t (rowOf P g t d)::vZ P g ts ds
 |_,_=>[]
def OY (P:Program) {H:Type} (g:Nat):List TypeId→List (DataW H)→Prop
 |t::ts,d::ds=>Sh P g t (rowOf P g t d)∧OY P g ts ds
 | [],[]=>True
 |_,_=>False
def CF (P:Program) (g:Nat) (ts:List TypeId):Bool:=ts.all fun t=>DM P g t&&P.readableRec t&&decide (t < P.types.size)
section
variable {H:Type} {enc:TypeId×Value→H} {P:Program} {w:World} {base:Nat} {held:Bool}
theorem TB:∀ {ts:List TypeId} {vs:List Value} {ds:List (DataW H)} {ps:List MemPlace} {sp:Nat→Bool},DataW.TrodAll enc P w base sp held ts vs ds ps→vs.length=ts.length∧ds.length=ts.length
 | [],[],[],_,_,_=>⟨rfl,rfl⟩
 |t::ts,v::vs,d::ds,_,_,⟨p,q,_,h,_⟩=>by have:=TB h;simp[this.1,this.2]
 | [],_::_,_,_,_,h=>h.elim
 | [],[],_::_,_,_,h=>h.elim
 |_::_,[],_,_,_,h=>h.elim
 |_::_,_::_,[],_,_,h=>h.elim
theorem NB {r:Reach} {b0 g:Nat}:∀ {ts:List TypeId} {vs:List Value} {ds:List (DataW H)} {ps:List MemPlace},CF P g ts=true→
 (∀ (j:Nat) t v,ts[j]? =some t→vs[j]? =some v→Value.okWide P w r b0 t v)→
 DataW.TrodAll enc P w base (fun _=>true) held ts vs ds ps→Ae (Rw w) (vZ P g ts ds) vs
 | [],[],[],_,_,_,_=> .nil
 |t::ts,v::vs,d::ds,_,Ba,hval,⟨p,q,hd,h,_⟩=>by
  simp only[CF,List.all_cons,Bool.and_eq_true] at Ba
  exact .cons _ _ _ _ (cW Ba.1.1.1 (hval 0 t v rfl rfl) hd) (NB (by simp only[CF];exact Ba.2) (fun j t v ht hv=>hval (j+1) t v ht hv) h)
 | [],_::_,_,_,_,_,h=>h.elim
 | [],[],_::_,_,_,_,h=>h.elim
 |_::_,[],_,_,_,_,h=>h.elim
 |_::_,_::_,[],_,_,_,h=>h.elim
theorem XD {g:Nat}:∀ {ts:List TypeId} {vs:List Value} {ds:List (DataW H)} {ps:List MemPlace},CF P g ts=true→
 (∀ n∈DataW.weightsEach P ts ds,n≤reachBytes)→
 DataW.TrodAll enc P w base (fun _=>true) held ts vs ds ps→OY P g ts ds
 | [],[],[],_,_,_,_=>trivial
 |t::ts,v::vs,d::ds,_,Ba,hw,⟨p,q,⟨fuel,hd⟩,h,_⟩=>by
  simp only[CF,List.all_cons,Bool.and_eq_true] at Ba
  simp only[DataW.weightsEach,List.mem_append] at hw
  exact⟨vY g t fuel _ (d,p) Ba.1.1.1 hd (fun n hn=>hw n (.inl hn)),XD (by simp only[CF];exact Ba.2) (fun n hn=>hw n (.inr hn)) h⟩
 | [],_::_,_,_,_,_,h=>h.elim
 | [],[],_::_,_,_,_,h=>h.elim
 |_::_,[],_,_,_,_,h=>h.elim
 |_::_,_::_,[],_,_,_,h=>h.elim
theorem Sx {g:Nat} (hl:laidOutB P=true) {w':World} (hb:Below w.heap.size w w'):∀ {ts:List TypeId} {vs:List Value} {ds:List (DataW H)} {ps:List MemPlace},CF P g ts=true→
 (∀ x∈ps,x.block < w.heap.size)→
 DataW.TrodAll enc P w 0 (fun _=>true) true ts vs ds ps→DataW.TrodAll enc P w' 0 (fun b=>decide (b < w.heap.size)) true ts vs ds ps
 | [],[],[],_,_,_,h=>h
 |t::ts,v::vs,d::ds,_,Ba,hlt,⟨p,q,hd,h,e⟩=>by
  subst e
  simp only[CF,List.all_cons,Bool.and_eq_true] at Ba
  exact⟨p,q,Below.trod hl Ba.1.1.2 (of_decide_eq_true Ba.1.2) hd hb (fun x hx=>hlt x (List.mem_append.2 (.inl hx))),
   Sx hl hb (by simp only[CF];exact Ba.2) (fun x hx=>hlt x (List.mem_append.2 (.inr hx))) h,rfl⟩
 | [],_::_,_,_,_,_,h=>h.elim
 | [],[],_::_,_,_,_,h=>h.elim
 |_::_,[],_,_,_,_,h=>h.elim
 |_::_,_::_,[],_,_,_,h=>h.elim
end
theorem UE {P:Program} {H:Type} {g:Nat} {t:TypeId} {ts:List TypeId} {ds:List (DataW H)} (h:OY P g (t::ts) ds):∃ d r,ds=d::r∧Sh P g t (rowOf P g t d)∧OY P g ts r:=by
 cases ds with
 |nil=>exact h.elim
 |cons d r=>exact⟨d,r,rfl,h.1,h.2⟩
theorem vX {P:Program} {H:Type} {g:Nat} {ds:List (DataW H)} (h:OY P g [] ds):ds=[]:=by
 cases ds with
 |nil=>rfl
 |cons d r=>exact h.elim
section
variable {P:Program} {g:Nat} {t e:TypeId} {row:List PV}
theorem TA {k:IntKind} (hu:P.underlying t=some (.int k)) (h:Sh P (g+1) t row):∃ n,row=[.int k n]∧(Lit.int k n).wf=true:=by
 simpa only[Sh,hu] using h
theorem Cz (hu:P.underlying t=some (.slice e)) (h:Sh P (g+1) t row):
 row=[.ma]∨∃ es:List (List PV),row=[.lit (P.cellsOf e) (es.map (Hn P e))]∧es.length≤maxLen∧es.length * P.bytesOf e≤reachBytes∧∀ r∈es,Sh P g e r:=by
 simpa only[Sh,hu] using h
theorem cA {fs:Array Field} (hu:P.underlying t=some (.struct fs)) (h:Sh P (g+1) t row):
 ∃ rows:List (List PV),rows.length=fs.size∧row=rows.flatten∧∀ (i:Nat) (f:Field) (r:List PV),fs.toList[i]? =some f→rows[i]? =some r→Sh P g f.type r:=by
 simpa only[Sh,hu] using h
theorem BU {k:IntKind} (hu:P.underlying t=some (.int k)) {n:Int}:Hn P t [.int k n]= .int k n:=by
 simp[Hn,Js,hu]
theorem uL (hu:P.underlying t=some (.slice e)) {v:PV}:Hn P t [v]=v:=by
 simp[Hn,Js,hu]
theorem Yz {fs:Array Field} (hu:P.underlying t=some (.struct fs)):Hn P t row= .agg row:=by
 simp[Hn,Js,hu]
theorem eW {k:IntKind} (hu:P.underlying t=some (.slice e)) (hk:P.underlying e=some (.int k)) (h:Sh P (g+2) t row):
 row=[.ma]∨∃ l:List Int,row=[.lit (P.cellsOf e) (l.map (.int k))]∧l.length≤maxLen∧l.length * P.bytesOf e≤reachBytes∧∀ n∈l,(Lit.int k n).wf=true:=by
 rcases Cz hu h with h | ⟨es,rfl,h1,h2,h3⟩
 ·exact .inl h
 ·refine .inr ⟨es.map fun r=>match r with | [.int _ n]=>n | _=>0,?_,by simpa using h1,by simpa using h2,?_⟩
  ·congr 2
   rw[List.map_map]
   apply List.map_congr_left
   intro r hr
   obtain⟨n,rfl,_⟩:=TA hk (h3 r hr)
   simp[BU hk]
  ·intro n hn
   obtain⟨r,hr,rfl⟩:=List.mem_map.1 hn
   obtain⟨n,rfl,hw⟩:=TA hk (h3 r hr)
   exact hw
end
end Go.AM
set_option linter.unusedSimpArgs false
set_option linter.unusedVariables false
namespace Go.AM
def Gd {α:Type} (Q:α→Prop):Option α→Prop
 |some a=>Q a
 |none=>False
theorem xc {α:Type} {Q:α→Prop} {o:Option α} (h:Gd Q o):∃ a,o=some a∧Q a:=by
 cases o with
 |none=>exact h.elim
 |some a=>exact⟨a,rfl,h⟩
theorem XX {α:Type} {Q:α→Prop} {o:Option α} {a:α} (h:o=some a) (hq:Q a):Gd Q o:=by subst h;exact hq
theorem za {α:Type} {Q R:α→Prop} {o:Option α} (h:Gd Q o) (hq:∀ a,Q a→R a):Gd R o:=by
 cases o with
 |none=>exact h.elim
 |some a=>exact hq a h
theorem Yk {α:Type} {o:Option α} {a:α} (h:Gd (fun x=>x=a) o):o=some a:=by
 cases o with
 |none=>exact h.elim
 |some b=>cases (show b=a from h);rfl
theorem EV {α:Type} {Q:α→Prop} {a:α}:Gd Q (some a)=Q a:=rfl
theorem iP {α:Type} {Q:α→Prop}:Gd Q none=False:=rfl
theorem cV {α:Type} {Q:α→Prop} {c:Prop} [Decidable c] {a:Option α}:Gd Q (if c then a else none)=(c∧Gd Q a):=by
 by_cases h:c
 ·simp[h]
 ·simp[h,iP]
theorem wp_map {α β:Type} {Q:β→Prop} {f:α→β} {o:Option α}:Gd Q (o.map f)=Gd (fun a=>Q (f a)) o:=by cases o <;> rfl
theorem wp_bind {α β:Type} {Q:β→Prop} {f:α→Option β} {o:Option α}:Gd Q (o.bind f)=Gd (fun a=>Gd Q (f a)) o:=by cases o <;> rfl
def MV (f:St→Option (Ex×St)) (Q:Ex×St→Prop):Ex×St→Prop
 | (.norm,s)=>Gd Q (f s)
 |r=>Q r
def VC (id:Nat) (Q:Ex×St→Prop):Ex×St→Prop
 | (.exit id',s)=>if id'=id then Q (.norm,s) else Q (.exit id',s)
 |r=>Q r
theorem GP {f:St→Option (Ex×St)} {Q:Ex×St→Prop} {s:St}:MV f Q (.norm,s)=Gd Q (f s):=rfl
theorem YT {f:St→Option (Ex×St)} {Q:Ex×St→Prop} {s:St}:MV f Q (.ret,s)=Q (.ret,s):=rfl
theorem pQ {f:St→Option (Ex×St)} {Q:Ex×St→Prop} {s:St} {k:Nat}:MV f Q (.exit k,s)=Q (.exit k,s):=rfl
theorem SK {k:Nat} {Q:Ex×St→Prop} {s:St}:VC k Q (.norm,s)=Q (.norm,s):=rfl
theorem aM {k:Nat} {Q:Ex×St→Prop} {s:St}:VC k Q (.ret,s)=Q (.ret,s):=rfl
theorem yL {k j:Nat} {Q:Ex×St→Prop} {s:St}:VC k Q (.exit j,s)=if j=k then Q (.norm,s) else Q (.exit j,s):=rfl
theorem ez {Q:Ex×St→Prop} {f:St→Option (Ex×St)} {r:Option (Ex×St)}:Gd Q (Ez f r)=Gd (MV f Q) r:=by
 rcases r with _ | ⟨ex,s⟩
 ·rfl
 ·cases ex <;> rfl
theorem TP {Q:Ex×St→Prop} {k:Nat} {r:Option (Ex×St)}:Gd Q (Ur k r)=Gd (VC k Q) r:=by
 rcases r with _ | ⟨ex,s⟩
 ·rfl
 ·cases ex with
  |exit j=>show Gd Q (if j=k then _ else _)=_;by_cases h:j=k <;> simp[h,Gd,VC]
  |_=>rfl
theorem tT {Q:Ex×St→Prop} {r:Option St}:Gd Q (Wq r)=Gd (fun s=>Q (.norm,s)) r:=by cases r <;> rfl
theorem YQ {Q:Ex×St→Prop} {f:St→Option (Ex×St)} {r:Option St}:Gd Q (Nk f r)=Gd (fun s=>Gd Q (f s)) r:=by cases r <;> rfl
theorem sU {Q:Ex×St→Prop} {f g:St→Option (Ex×St)} {s:St} {b:Bool}:Gd Q (Ty f g s (some b))=((b=true→Gd Q (f s))∧(b=false→Gd Q (g s))):=by
 cases b <;> simp[Ty]
theorem bT {Q:St→Prop} {f:St→Option St} {r:Option St}:Gd Q (Br f r)=Gd (fun s=>Gd Q (f s)) r:=by cases r <;> rfl
theorem TW {Q:St→Prop} {d:Option Nat} {e:Tr} {r:Option (AV×List ba)}:Gd Q (mB d e r)=Gd (fun p=>Q ⟨gp e d p.1,p.2⟩) r:=by
 rcases r with _ | ⟨v,H⟩ <;> rfl
theorem iY {Q:AV×List ba→Prop} {H:List ba} {r:Option (AV×List ba)}:Gd Q (GX H r)=Gd (fun p=>p.2=[]∧Q (p.1,H)) r:=by
 rcases r with _ | ⟨v,_ | ⟨o,H'⟩⟩ <;> simp[GX,Gd]
def JY (rs:List rC) (Q:AV×List ba→Prop):Ex×St→Prop
 | (.exit _,_)=>False
 | (_,s)=>Gd (fun vs=>Q (RE vs,s.H)) (Ra (pC s) rs)
theorem BQ {rs:List rC} {Q:AV×List ba→Prop} {s:St}:JY rs Q (.norm,s)=Gd (fun vs=>Q (RE vs,s.H)) (Ra (pC s) rs):=rfl
theorem PT {rs:List rC} {Q:AV×List ba→Prop} {s:St}:JY rs Q (.ret,s)=Gd (fun vs=>Q (RE vs,s.H)) (Ra (pC s) rs):=rfl
theorem dW {Q:AV×List ba→Prop} {rs:List rC} {r:Option (Ex×St)}:Gd Q (rW rs r)=Gd (JY rs Q) r:=by
 rcases r with _ | ⟨ex,s⟩
 ·rfl
 ·cases ex with
  |exit=>rfl
  |norm=>rw[zA,wp_bind];rfl
  |ret=>rw[zK,wp_bind];rfl
theorem gQ {Q:St→Prop} {f g:St→Option St} {s:St} {b:Bool}:Gd Q (Sm f g s (some b))=((b=true→Gd Q (f s))∧(b=false→Gd Q (g s))):=by
 cases b <;> simp[Sm]
theorem tS (e:Tr) (d:Nat) (v:AV):gp e (some d) v=e.set d v:=rfl
theorem QP (e:Tr) (v:AV):gp e none v=e:=rfl
def LQ (I:Nat→St→Prop) (Q:Ex×St→Prop) (k:Nat):Ex×St→Prop
 | (.norm,s)=>∃ j,j < k∧I j s
 |r=>Q r
theorem Qq {g:St→Option (Ex×St)} (I:Nat→St→Prop) {Q:Ex×St→Prop}:∀ (n k:Nat) (s:St),k < n→I k s→
 (∀ k t,I k t→Gd (LQ I Q k) (g t))→Gd (fun r=>r.1.stop=true∧Q r) (ab g n s):=by
 intro n
 induction n with
 |zero=>intro k s h;omega
 |succ n ih=>
  intro k s h hI hs
  show Gd _ (Ez (ab g n) (g s))
  obtain⟨⟨ex,t⟩,h1,h2⟩:=xc (hs k s hI)
  rw[h1]
  cases ex with
  |norm=>
   obtain⟨j,hj,hJ⟩:=h2
   exact ih j t (by omega) hJ hs
  |exit=>exact⟨rfl,h2⟩
  |ret=>exact⟨rfl,h2⟩
def LN (I:Nat→St→Prop) (Q:Ex×St→Prop) (i:Nat):Ex×St→Prop
 | (.norm,s)=>I (i+1) s
 |r=>Q r
theorem wb {g:St→Option (Ex×St)} (I:Nat→St→Prop) {Q:Ex×St→Prop} (N:Nat) (hN:N < qa) (s:St) (h0:I 0 s)
 (hs:∀ i t,i < N→I i t→Gd (LN I Q i) (g t)) (he:∀ t,I N t→Gd (fun r=>r.1.stop=true∧Q r) (g t)):
 Gd (fun r=>r.1.stop=true∧Q r) (ab g qa s):=by
 refine Qq (fun k t=>∃ i,i+k=N∧I i t) qa N s hN ⟨0,by omega,h0⟩ ?_
 rintro k t ⟨i,hi,hI⟩
 rcases Nat.eq_zero_or_pos k with h | h
 ·obtain⟨⟨ex,u⟩,h1,h2,h3⟩:=xc (he t (by rw[show N=i by omega];exact hI))
  rw[h1]
  cases ex with
  |norm=>cases h2
  |exit=>exact h3
  |ret=>exact h3
 ·obtain⟨⟨ex,u⟩,h1,h2⟩:=xc (hs i t (by omega) hI)
  rw[h1]
  cases ex with
  |norm=>exact⟨k - 1,by omega,i+1,by omega,h2⟩
  |exit=>exact h2
  |ret=>exact h2
theorem OW {i n:Nat}:Ia (i:Int) n=(i < n):=by unfold Ia;simp
theorem cN {i n:Nat}:decide ((i:Int) < (n:Int))=decide (i < n):=by simp
theorem ym {n:Nat} (h:n+1≤9223372036854775807):IntKind.i64.wrap ((n:Int)+1)=((n+1:Nat):Int):=Ca (by omega)
theorem pa:deep=5+1:=rfl
theorem tF (H:List ba) (d:Nat) (p:PV):dc H d (.pv p)=some p:=by cases d <;> rfl
end Go.AM
set_option linter.unusedSimpArgs false
set_option linter.unusedVariables false
namespace Go.AM.So
open Go.AM
def mh (D:Array (List PV)):List AV:=D.toList.flatten.map .pv
def Lg (sz:Nat) (D:Array (List PV)) (fl:Nat) (nl:Bool):ba:= .seq sz true (mh D) fl nl
def pV (sz:Nat) (r:List PV):Prop:=r.length=sz∧∀ c∈r,(AV.pv c).one=true
theorem zt {α:Type} {sz:Nat}:∀ {l:List (List α)},(∀ r∈l,r.length=sz)→l.flatten.length=l.length * sz
 | [],_=>by simp
 |r::l,h=>by
  rw[List.flatten_cons,List.length_append,h r (by simp),zt fun x hx=>h x (by simp[hx]),List.length_cons,Nat.add_mul];omega
theorem pt {α:Type} {sz:Nat}:∀ {l:List (List α)} {i:Nat} (hi:i < l.length),(∀ r∈l,r.length=sz)→(l.flatten.drop (i * sz)).take sz=l[i]
 |r::l,0,_,h=>by
  have:=h r (by simp)
  rw[Nat.zero_mul,List.drop_zero,List.flatten_cons,List.take_append_of_le_length (by omega),List.take_of_length_le (by omega)];rfl
 |r::l,i+1,hi,h=>by
  have h1:=h r (by simp)
  rw[List.flatten_cons,List.getElem_cons_succ,←pt (sz:=sz) (l:=l) (i:=i) (by simpa using hi) fun x hx=>h x (by simp[hx])]
  have e:(i+1) * sz=r.length+i * sz:=by rw[h1,Nat.add_mul];omega
  rw[e,List.drop_append,List.drop_eq_nil_of_le (by omega),List.nil_append,Nat.add_sub_cancel_left]
theorem dh {α:Type}:∀ (vs cs:List α) (off p:Nat),(oa cs off vs)[p]? =if h:off≤p∧p < off+vs.length∧p < cs.length then vs[p - off]? else cs[p]?
 | [],cs,off,p=>by simp[oa];intro h1 h2;omega
 |v::vs,cs,off,p=>by
  rw[oa,dh vs]
  by_cases hp:p=off
  ·subst hp
   rw[dif_neg (by omega)]
   by_cases hc:p < cs.length
   ·rw[List.getElem?_set_self hc,dif_pos ⟨by omega,by simp,hc⟩];simp
   ·rw[dif_neg (by omega),List.getElem?_eq_none (by simp;omega),List.getElem?_eq_none (by omega)]
  ·rw[List.getElem?_set_ne (by omega)]
   by_cases h1:off+1≤p∧p < off+1+vs.length∧p < cs.length
   ·rw[dif_pos (by simpa using h1),dif_pos ⟨by omega,by simp;omega,by omega⟩]
    have:p - off=(p - (off+1))+1:=by omega
    rw[this,List.getElem?_cons_succ]
   ·rw[dif_neg (by simpa using h1),dif_neg]
    rintro⟨h2,h3,h4⟩
    simp at h3
    exact h1 ⟨by omega,by omega,h4⟩
theorem kU {α:Type} {sz:Nat} {l:List (List α)} {i:Nat} (hi:i < l.length) (h:∀ r∈l,r.length=sz) {r:List α} (hr:r.length=sz):
 oa l.flatten (i * sz) r=(l.set i r).flatten:=by
 induction l generalizing i with
 |nil=>simp at hi
 |cons a l ih=>
  have ha:=h a (by simp)
  cases i with
  |zero=>
   rw[Nat.zero_mul,List.set_cons_zero,List.flatten_cons,List.flatten_cons]
   apply List.ext_getElem?
   intro p
   rw[dh]
   by_cases hp:p < sz
   ·rw[dif_pos ⟨by omega,by omega,by rw[List.length_append];omega⟩,List.getElem?_append_left (by omega)];simp
   ·rw[dif_neg (by omega),List.getElem?_append_right (by omega),List.getElem?_append_right (by omega),ha,hr]
  |succ i=>
   have hi':i < l.length:=by simpa using hi
   rw[List.set_cons_succ,List.flatten_cons,List.flatten_cons,←ih hi' fun x hx=>h x (by simp[hx])]
   have e:(i+1) * sz=a.length+i * sz:=by rw[ha,Nat.add_mul];omega
   rw[e]
   apply List.ext_getElem?
   intro p
   rw[dh]
   by_cases hp:p < a.length
   ·rw[dif_neg (by omega),List.getElem?_append_left hp,List.getElem?_append_left hp]
   ·rw[List.getElem?_append_right (by omega),List.getElem?_append_right (by omega),dh]
    have e2:(a.length+i * sz≤p∧p < a.length+i * sz+r.length∧p < (a++l.flatten).length)=(i * sz≤p - a.length∧p - a.length < i * sz+r.length∧p - a.length < l.flatten.length):=by
     rw[List.length_append];apply propext;constructor <;> rintro⟨h1,h2,h3⟩ <;> exact⟨by omega,by omega,by omega⟩
    simp only[e2]
    have e3:p - (a.length+i * sz)=p - a.length - i * sz:=by omega
    rw[e3]
theorem MC {α β:Type} (f:α→β):∀ (vs cs:List α) (off:Nat),(oa cs off vs).map f=oa (cs.map f) off (vs.map f)
 | [],cs,off=>rfl
 |v::vs,cs,off=>by rw[oa,MC f vs,List.map_set];rfl
theorem ux {sz:Nat} {D:Array (List PV)} (h:∀ r∈D.toList,pV sz r):(mh D).length=D.size * sz:=by
 rw[mh,List.length_map,zt fun r hr=>(h r hr).1];rfl
theorem uf (l:List PV):ve (l.map .pv)=some l:=by
 induction l with
 |nil=>rfl
 |cons a l ih=>rw[List.map_cons,ve,ih];rfl
def Gg (H:List ba):Prop:=∀ n,H.length≤n→∀ o∈H,na n o=some o
theorem vl {α:Type} {f:α→Option α}:∀ {l:List α},(∀ a∈l,f a=some a)→Ra f l=some l
 | [],_=>rfl
 |a::l,h=>by rw[Ra,h a (by simp),vl fun x hx=>h x (by simp[hx])];rfl
theorem Wv (sz:Nat) (D:Array (List PV)) (fl:Nat) (nl:Bool) (n:Nat):na n (Lg sz D fl nl)=some (Lg sz D fl nl):=by
 have:(mh D).all (AV.Je n deep)=true:=by
  rw[List.all_eq_true]
  intro v hv
  obtain⟨p,_,rfl⟩:=List.mem_map.1 hv
  rfl
 simp[na,Lg,this]
structure Hp (id sz:Nat) (P:List PV→Prop) (H0:List ba) (D:Array (List PV)) (H:List ba):Prop where
 le:H0.length≤H.length
 SI:Gg H
 Je:∀ k,k < H0.length→k≠id→H[k]? =H0[k]?
 get:∃ fl nl,fl≤D.size * sz∧H[id]? =some (Lg sz D fl nl)
 rows:∀ r∈D.toList,P r
 lt:id < H0.length
section
variable {id sz:Nat} {P:List PV→Prop} {H0 H:List ba} {D:Array (List PV)} (hP:∀ r,P r→pV sz r)
theorem Hp.refl {fl:Nat} {nl:Bool} (hg:Gg H) (hf:fl≤D.size * sz) (h:H[id]? =some (Lg sz D fl nl)) (hr:∀ r∈D.toList,P r):Hp id sz P H D H:=
 ⟨Nat.le_refl _,hg,fun _ _ _=>rfl,⟨fl,nl,hf,h⟩,hr,(List.getElem?_eq_some_iff.1 h).1⟩
theorem Hp.same (h:Hp id sz P H0 D H):Hp id sz P H D H:=⟨Nat.le_refl _,h.SI,fun _ _ _=>rfl,h.get,h.rows,Nat.lt_of_lt_of_le h.lt h.le⟩
theorem Hp.trans {H':List ba} {D':Array (List PV)} (h:Hp id sz P H0 D H) (h':Hp id sz P H D' H'):Hp id sz P H0 D' H':=
 ⟨Nat.le_trans h.le h'.le,h'.SI,fun k hk hne=>(h'.Je k (Nat.lt_of_lt_of_le hk h.le) hne).trans (h.Je k hk hne),h'.get,h'.rows,h.lt⟩
theorem jZ {D:Array (List PV)} {i:Nat} (hi:i < D.size):D[i]! =D[i]:=getElem!_pos D i hi
include hP
theorem Hp.sd (h:Hp id sz P H0 D H) {n:Nat} (hn:n=D.size) {i:Int} {k:Nat} (hi:i=(k:Int)) (hk:k < D.size):wa H sz (.own id n) i=some (.Gc id (n * sz) (k * sz)):=by
 obtain⟨fl,nl,hf,hg⟩:=h.get
 have hl:=ux fun r hr=>hP r (h.rows r hr)
 subst hn hi
 simp only[wa,hg,Lg]
 rw[if_pos (by refine⟨trivial,?_,?_⟩ <;> first | (unfold Ia;omega) | (unfold Qh;omega))]
 simp
theorem Hp.load (h:Hp id sz P H0 D H) {n:Nat} (hn:n=D.size) {k:Nat} (hk:k < D.size):xa H true sz (.Gc id (n * sz) (k * sz))=some (.pv (.agg D[k]!)):=by
 obtain⟨fl,nl,hf,hg⟩:=h.get
 have hl:=ux fun r hr=>hP r (h.rows r hr)
 subst hn
 have hle:k * sz+sz≤D.size * sz:=by
  have:(k+1) * sz≤D.size * sz:=Nat.mul_le_mul_right _ hk
  rw[Nat.add_mul] at this;omega
 simp only[xa,hg,Lg,hl,bh,if_true]
 rw[if_pos hle]
 have e:((mh D).drop (k * sz)).take sz=D[k]!.map .pv:=by
  rw[mh,←List.map_drop,←List.map_take,pt (l:=D.toList) (i:=k) (by simpa using hk) fun r hr=>(hP r (h.rows r hr)).1,jZ hk]
  simp
 rw[e]
 simp[Ir,uf]
theorem Hp.store (h:Hp id sz P H0 D H) {n:Nat} (hn:n=D.size) {k:Nat} (hk:k < D.size) {r:List PV} (hr:P r):
 ∃ H',Oa H sz (.Gc id (n * sz) (k * sz)) (.pv (.agg r))=some H'∧Hp id sz P H0 (D.setIfInBounds k r) H'∧H'.length=H.length:=by
 obtain⟨fl,nl,hf,hg⟩:=h.get
 have hl:=ux fun r hr=>hP r (h.rows r hr)
 subst hn
 have hle:k * sz+sz≤D.size * sz:=by
  have:(k+1) * sz≤D.size * sz:=Nat.mul_le_mul_right _ hk
  rw[Nat.add_mul] at this;omega
 have hro:=hP r hr
 have hall:((AV.pv (.agg r)).cells.all AV.one)=true:=by
  rw[List.all_eq_true]
  intro v hv
  obtain⟨c,hc,rfl⟩:=List.mem_map.1 hv
  exact hro.2 c hc
 have hlt:id < H.length:=Nat.lt_of_lt_of_le h.lt h.le
 have he:oa (mh D) (k * sz) ((AV.pv (.agg r)).cells)=mh (D.setIfInBounds k r):=by
  show oa (D.toList.flatten.map AV.pv) (k * sz) (r.map AV.pv)=_
  rw[← MC,kU (by simpa using hk) (fun r hr=>(hP r (h.rows r hr)).1) hro.1,mh,Array.toList_setIfInBounds]
 refine⟨H.set id (Lg sz (D.setIfInBounds k r) (D.size * sz) nl),?_,⟨by simpa using h.le,?_,?_,⟨D.size * sz,nl,by simp,List.getElem?_set_self hlt⟩,?_,h.lt⟩,by simp⟩
 ·simp only[Oa,hg,Lg]
  have hcl:(AV.pv (.agg r)).cells.length=sz:=by show (r.map AV.pv).length=sz;rw[List.length_map];exact hro.1
  rw[if_pos ⟨hcl,hall⟩,if_pos ⟨hl,hle⟩,he]
 ·intro m hm o ho
  rcases List.mem_or_eq_of_mem_set ho with h1 | h1
  ·exact h.SI m (by simpa using hm) o h1
  ·subst h1;exact Wv _ _ _ _ _
 ·intro k hk hne
  rw[List.getElem?_set_ne (Ne.symm hne)];exact h.Je k hk hne
 ·intro x hx
  rw[Array.toList_setIfInBounds] at hx
  rcases List.mem_or_eq_of_mem_set hx with h1 | h1
  ·exact h.rows x h1
  ·subst h1;exact hr
omit hP in
theorem Hp.fa (h:Hp id sz P H0 D H) {n:Nat} (hn:n=H0.length) (g0:Gg H0):Ra (na n) (H.take n)=some (H.take n)∧Hp id sz P H0 D (H.take n)∧(H.take n).length=n:=by
 subst hn
 have hle:=h.le
 have hmem:∀ o∈H.take H0.length,∀ m,H0.length≤m→na m o=some o:=by
  intro o ho m hm
  obtain⟨k,hk⟩:=List.getElem?_of_mem ho
  have hk2:k < H0.length:=by have:=(List.getElem?_eq_some_iff.1 hk).1;simp at this;omega
  rw[List.getElem?_take_of_lt hk2] at hk
  by_cases hid:k=id
  ·subst hid
   obtain⟨fl,nl,_,hg⟩:=h.get
   rw[hg] at hk;injection hk with hk;subst hk
   exact Wv _ _ _ _ _
  ·rw[h.Je k hk2 hid] at hk
   exact g0 m hm o (List.mem_of_getElem? hk)
 have hlen:(H.take H0.length).length=H0.length:=by simp;omega
 refine⟨vl fun o ho=>hmem o ho _ (Nat.le_refl _),⟨by omega,fun m hm o ho=>hmem o ho m (by omega),?_,?_,h.rows,h.lt⟩,hlen⟩
 ·intro k hk hne
  rw[List.getElem?_take_of_lt hk];exact h.Je k hk hne
 ·obtain⟨fl,nl,hf,hg⟩:=h.get
  exact⟨fl,nl,hf,by rw[List.getElem?_take_of_lt h.lt];exact hg⟩
end
end Go.AM.So
set_option linter.unusedVariables false
namespace Go.AM
theorem J {a b:Prop} (x:a) (y:b):a∧b:=⟨x,y⟩
def EZ:=PLift.up (J (J (J (J (J (J (J (J @Ub.eq_1 @sW) (J @xM @GY)) (J (J @oU @iZ) (J @dY @qW))) (J (J (J @OV @FY) (J @XY @qP)) (J (J @PU @JV) (J @bW @lX)))) (J (J (J (J @iX @lW) (J @PW @gZ)) (J (J @kZ @pX) (J @gX @xY))) (J (J (J @ya.eq_1 @ya.eq_2) (J @ya.eq_3 @ya.eq_4)) (J (J @ya.eq_5 @ya.eq_6) (J @ya.eq_7 @ya.eq_8))))) (J (J (J (J (J @ya.eq_9 @ya.eq_10) (J @ya.eq_11 @ya.eq_12)) (J (J @ya.eq_13 @ya.eq_14) (J @ya.eq_15 @ya.eq_16))) (J (J (J @ya.eq_17 @ya.eq_18) (J @ya.eq_19 @ya.eq_20)) (J (J @ya.eq_21 @ya.eq_22) (J @ya.eq_23 @ya.eq_24)))) (J (J (J (J @ya.eq_25 @ya.eq_26) (J @ya.eq_27 @ya.eq_28)) (J (J @ya.eq_29 @ya.eq_30) (J @ya.eq_31 @ya.eq_32))) (J (J (J @ya.eq_33 @ya.eq_34) (J @ya.eq_35 @ya.eq_36)) (J (J @ya.eq_37 @ya.eq_38) (J @ya.eq_39 @ya.eq_40)))))) (J (J (J (J (J (J @ya.eq_41 @List.map.eq_1.{0,0}) (J @List.map.eq_2.{0,0} @List.length.eq_1.{0})) (J (J @List.length.eq_2.{0} @if_true.{0}) (J @mq.eq_1 @mq.eq_2))) (J (J (J @AO.ev.eq_1 @AO.ev.eq_2) (J @AO.ev.eq_3 @Tr.aa)) (J (J @ug.eq_1 @ug.eq_2) (J @mW @HV)))) (J (J (J (J @IM @eQ) (J @NS @bR)) (J (J @OM @FW) (J @VW @FR))) (J (J (J @gL @CN) (J @dK @AV.cells.eq_1)) (J (J @AV.cells.eq_2 @AV.cells.eq_3) (J @PV.cells.eq_1 @PV.cells.eq_2))))) (J (J (J (J (J @zK @zA) (J @pC.eq_1 @pC.eq_2)) (J (J @RE.eq_1 @RE.eq_2) (J @Ra.eq_1 @Ra.eq_2))) (J (J (J @dc.eq_1 @dc.eq_2) (J @dc.eq_3 @dc.eq_4)) (J (J @dc.eq_5 @dc.eq_6) (J @dc.eq_7 @dc.eq_8)))) (J (J (J (J @Option.bind_some.{0,0} @Option.map_some.{0,0}) (J @AV.one.eq_1 @AV.one.eq_2)) (J (J @AV.one.eq_3 @AV.one.eq_4) (J @AV.one.eq_5 @AV.one.eq_6))) (J (J (J @List.all.eq_1.{0} @List.all.eq_2.{0}) (J @Bool.and_self @true_and)) (J (J @and_self @and_true) (J @Il.eq_1 @Il.eq_2))))))) (J (J (J (J (J (J (J @Il.eq_3 @Il.eq_4) (J @Il.eq_5 @Il.eq_6)) (J (J @Bool.or_true @Bool.true_or) (J @kY.eq_1 @kY.eq_2))) (J (J (J @kY.eq_3 @kY.eq_4) (J @asBool.eq_1 @asBool.eq_2)) (J (J @asInt.eq_1 @asInt.eq_2) (J @Bool.not_true @Bool.not_false)))) (J (J (J (J @Np.eq_1 @Np.eq_2) (J @Ir.eq_1 @DH.eq_1)) (J (J @ve.eq_1 @ve.eq_2) (J @ve.eq_3 @OR))) (J (J (J @uV @vW) (J @LU @mQ)) (J (J @Vz @KW) (J @nK.eq_1 @nK.eq_2))))) (J (J (J (J (J @nK.eq_3 @nK.eq_4) (J @nK.eq_5 @Zj.eq_1)) (J (J @Zj.eq_2 @Zj.eq_3) (J @Zj.eq_4 @Zj.eq_5))) (J (J (J @Zj.eq_6 @Zj.eq_7) (J @Zj.eq_8 @Zj.eq_9)) (J (J @Zj.eq_10 @Zj.eq_11) (J @Zj.eq_12 @Zj.eq_13)))) (J (J (J (J @Zj.eq_14 @Zj.eq_15) (J @Vs.eq_1 @Vs.eq_2)) (J (J @Vs.eq_3 @Vs.eq_4) (J @Vs.eq_5 @Vs.eq_6))) (J (J (J @Vs.eq_7 @Vs.eq_8) (J @Vs.eq_9 @Vs.eq_10)) (J (J @Vs.eq_11 @Vs.eq_12) (J @fresh.eq_1 @fresh.eq_2)))))) (J (J (J (J (J (J @fresh.eq_3 @chunk.eq_1) (J @chunk.eq_2 @List.append.eq_1.{0})) (J (J @List.append.eq_2.{0} @List.nil_append.{0}) (J @List.cons_append.{0} @List.getElem?_cons_zero.{0}))) (J (J (J @List.getElem?_cons_succ.{0} @List.getElem?_nil.{0}) (J @List.set_cons_zero.{0} @List.set_cons_succ.{0})) (J (J @List.length_cons.{0} @List.length_nil.{0}) (J @Nat.zero_add @Nat.add_zero)))) (J (J (J (J @List.drop.eq_1.{0} @List.drop.eq_2.{0}) (J @List.drop.eq_3.{0} @List.take.eq_1.{0})) (J (J @List.take.eq_2.{0} @List.take.eq_3.{0}) (J @flat.eq_1 @flat.eq_2))) (J (J (J @Kf.eq_1 @Kf.eq_2) (J @Kf.eq_3 @Kf.eq_4)) (J (J @Kf.eq_5 @Yo.eq_1) (J @Yo.eq_2 @Yo.eq_3))))) (J (J (J (J (J @Yo.eq_4 @Bool.false_eq_true) (J @beq_self_eq_true.{0} @bne_self_eq_false.{0})) (J (J @Bool.not_eq_true @decide_true) (J @decide_false @Nat.le_refl))) (J (J (J @Option.bind_none.{0,0} @Option.map_none.{0,0}) (J @BZ @DZ)) (J (J @xZ @qZ) (J @XO.eq_1 @Int.cast_ofNat_Int)))) (J (J (J (J @Dk.eq_1 @Dk.eq_2) (J @Bool.false_and @Bool.and_false)) (J (J @List.headD_cons.{0} @List.headD_nil.{0}) (J @Nat.lt_add_one @Nat.sub_zero))) (J (J (J @List.isEmpty_cons.{0} @List.isEmpty_nil.{0}) (J @AV.free.eq_1 @AV.free.eq_2)) (J (J @AV.free.eq_3 @Bool.or_false) (J @Bool.false_or @Nat.mul_one))))))))
theorem SP:type_of% EZ.down:=EZ.down
def HZ:=PLift.up (J (J @Yb.eq_1 @Yb.eq_2) (J @Yb.eq_3 @Yb.eq_4))
theorem SA:type_of% HZ.down:=HZ.down
def OZ:=PLift.up (J (J (J @Oa.eq_1 (J @Oa.eq_2 @Oa.eq_3)) (J (J @xa.eq_1 @xa.eq_2) (J @xa.eq_3 @xa.eq_4))) (J (J (J @bh.eq_1 @Hl.eq_1) (J @place.eq_1 @place.eq_2)) (J (J @place.eq_3 @place.eq_4) (J @oa.eq_1 @oa.eq_2))))
theorem SQ:type_of% OZ.down:=OZ.down
def JZ:=PLift.up (J (J (J (J (J (J @EV @iP) (J @cV @wp_map)) (J (J @wp_bind @ez) (J @TP (J @tT @YQ)))) (J (J (J @sU @bT) (J @TW @iY)) (J (J @gQ @GP) (J @YT (J @pQ @SK))))) (J (J (J (J @aM @yL) (J @tS @QP)) (J (J @OW @cN) (J @Int.toNat_natCast (J @fa.eq_1 @tidy.eq_1)))) (J (J (J @Bc.eq_1 @Bc.eq_2) (J @Aa.eq_1 (J @Aa.eq_2 @na.eq_1))) (J (J @na.eq_2 @na.eq_3) (J @na.eq_4 (J @na.eq_5 @Ma)))))) (J (J (J (J (J @AV.cut.eq_1 @AV.cut.eq_2) (J @AV.cut.eq_3 @AV.cut.eq_4)) (J (J @AV.cut.eq_5 @AV.cut.eq_6) (J @AV.cut.eq_7 (J @AV.cut.eq_8 @AV.cut.eq_9)))) (J (J (J @AV.cut.eq_10 @AV.cut.eq_11) (J @pa @tF)) (J (J @si.eq_1 @AV.CC.eq_1) (J @AV.CC.eq_2 (J @AV.Ip.eq_1 @AV.Ip.eq_2))))) (J (J (J (J @Nc.eq_1 @ga.eq_1) (J @forall_const.{0} @true_implies)) (J (J @false_implies @imp_self) (J @not_true_eq_false (J @not_false_eq_true @Bool.true_eq_false)))) (J (J (J @false_and @and_false) (J @true_or (J @or_true @false_or))) (J (J @or_false @imp_false) (J @dW (J @BQ @PT)))))))
theorem WP:type_of% JZ.down:=JZ.down
def GZ:=PLift.up (J (J @wa.eq_1 @wa.eq_2) (J @wa.eq_3 @wa.eq_4))
theorem WQ:type_of% GZ.down:=GZ.down
def FZ:=PLift.up (J SP (J SA WP))
theorem SX:type_of% FZ.down:=FZ.down
end Go.AM
set_option linter.unusedSimpArgs false
set_option linter.unusedVariables false
namespace Go.AM
open Go.RowKit
def rh (S:Wa) (L:Nat→Option gf):Nat→Wa
 |0=>S
 |d+1=>fun ix args H=>match L ix with
  |some f=>Ri (rh S L d) f args H
  |none=>S ix args H
theorem RP {P:Program} {fo:Nat→FuncId} {S:Wa} {L:Nat→Option gf} (hL:Sl P fo L) (hS:∀ B0:Of,Bq P fo B0 S):∀ (d:Nat) (B0:Of),Bq P fo B0 (rh S L d):=by
 intro d
 induction d with
 |zero=>exact hS
 |succ d ih=>
  intro B0 ix args H v H' w R φ vs hR hl h
  simp only[rh] at h
  split at h
  ·next f hf=>exact⟨(hL ix f hf).UC,eM (hL ix f hf) ih hR hl h⟩
  ·exact hS B0 ix args H v H' w R φ vs hR hl h
def QB (S:Wa) (L:Nat→Option gf) (f:gf) (args:List PV):Option PV:=(Ri (rh S L 8) f (args.map .pv) []).bind fun r=>dc r.2 deep r.1
theorem fK {P:Program} {fo:Nat→FuncId} {S:Wa} {L:Nat→Option gf} (hL:Sl P fo L) (hS:∀ B0:Of,Bq P fo B0 S) {f:FuncId} {af:gf} (hf:wc P fo f af):Na P f (QB S L af):=tH (RP hL hS 8) hf
def uw (k off:Nat) (r:List Int):Int:=if r.length=k then r.getD off 0 else 0
def encI (k:Nat) (r:List Int):List Value:=if r.length=k then r.map (.int .i64) else List.replicate k (.int .i64 0)
def KX (k off:Nat) (x y:List Int):Int:=Lib.compareInt (uw k off x) (uw k off y)
def Ho (k off:Nat) (D:Array (List Int)):Array (List Int):=Sort.pdq (Proofs.ltOf (KX k off)) D 0 D.size (Lib.bitLen D.size) true true
theorem mZ (k off:Nat) (x y:List Int):Proofs.ltOf (KX k off) x y=decide (uw k off x < uw k off y):=by
 unfold Proofs.ltOf KX Lib.compareInt
 by_cases h1:uw k off x < uw k off y
 ·simp[h1]
 ·by_cases h2:uw k off y < uw k off x <;> simp[h1,h2]
theorem pY (k off:Nat):Sort.SWO (Proofs.ltOf (KX k off)) where
 irrefl x:=by rw[mZ];simp
 trans x y z h1 h2:=by rw[mZ] at *;simp at *;omega
 ntrans x y z h1 h2:=by rw[mZ] at *;simp at *;omega
theorem Xy (k off:Nat) (D:Array (List Int)):(Ho k off D).size=D.size∧(Ho k off D).toList.Perm D.toList∧∀ i j,i < j→j < D.size→¬uw k off (Ho k off D)[j]! < uw k off (Ho k off D)[i]! :=by
 have h:=Sort.pdq_sorts _ (pY k off) D 0 D.size (Lib.bitLen D.size) true true (Nat.zero_le _) (Nat.le_refl _) (.inl rfl)
 obtain⟨⟨h1,_,h2⟩,h3⟩:=h
 refine⟨h1,?_,fun i j hij hj=> ?_⟩
 ·have e1:((Ho k off D).extract 0 D.size).toList=(Ho k off D).toList:=by
   have:(Ho k off D).size=D.size:=h1
   rw[← this];simp
  have e2:(D.extract 0 D.size).toList=D.toList:=by simp
  rw[← e1,←e2];exact h2
 ·have:=h3 i j (Nat.zero_le _) hij hj
  rw[mZ,decide_eq_false_iff_not] at this
  exact this
structure jM (P:Program) (f g:FuncId) (k off:Nat):Prop where
 call:Ot P f
 many:∀ (blk ofs cap:Nat) (D:Array (List Int)) (w:World),Sort.HoldsK (encI k) k w blk ofs D→blk < w.heap.size→D.size < 4611686018427387904→
  Calls P f #[.slice (some ⟨blk,ofs,none⟩) D.size cap,.func (.func g) #[] #[]] w fun e w'=>e= .returned (.tuple #[])∧∃ n os,w'=Proofs.sortWorldK (encI k) k w blk ofs n (Ho k off D) os
 none:∀ (p:Option Addr) (cap:Nat) (w:World),Calls P f #[.slice p 0 cap,.func (.func g) #[] #[]] w fun e w'=>e= .returned (.tuple #[])∧w'=w
def uF:List AV→Option (List Int)
 | []=>some []
 | .pv (.int .i64 n)::r=>(uF r).map (n:: ·)
 |_=>none
abbrev Hf (l:List Int):List AV:=l.map fun n=> .pv (.int .i64 n)
theorem XE:∀ {c:List AV} {F:List Int},uF c=some F→c=Hf F
 | [],F,h=>by injection h with h;subst h;rfl
 | .pv (.int .i64 n)::r,F,h=>by
   simp only[uF,Option.map_eq_some_iff] at h
   obtain⟨F',h1,rfl⟩:=h
   rw[XE h1];rfl
theorem Ou:∀ (F:List Int),uF (Hf F)=some F
 | []=>rfl
 |n::F=>by show (uF (Hf F)).map (n:: ·)=_;rw[Ou F];rfl
def wh (k:Nat):Nat→List Int→List (List Int)
 |0,_=>[]
 |n+1,F=>F.take k::wh k n (F.drop k)
theorem IB (k:Nat):∀ (n:Nat) (F:List Int),(wh k n F).length=n
 |0,_=>rfl
 |n+1,F=>by rw[wh,List.length_cons,IB k n]
theorem tB {k:Nat}:∀ {n:Nat} {F:List Int},F.length=n * k→∀ r∈wh k n F,r.length=k
 |n+1,F,h,r,hr=>by
  rw[Nat.add_mul] at h
  rcases List.mem_cons.1 hr with rfl | hr
  ·rw[List.length_take];omega
  ·exact tB (F:=F.drop k) (by rw[List.length_drop];omega) r hr
theorem qz {k:Nat}:∀ {n:Nat} {F:List Int},F.length=n * k→(wh k n F).flatten=F
 |0,F,h=>by
  have:F=[]:=List.eq_nil_of_length_eq_zero (by omega)
  subst this;rfl
 |n+1,F,h=>by
  rw[Nat.add_mul] at h
  rw[wh,List.flatten_cons,qz (F:=F.drop k) (by rw[List.length_drop];omega),List.take_append_drop]
def Zy (k off g:Nat):List AV→List ba→Option (AV×List ba)
 | [.own id len,.Fk c []],H=>match H[id]? with
   |some (.seq sz ag cells fl nl)=>if c=g∧sz=k∧len * k=cells.length∧len < 4611686018427387904 then (uF cells).map fun F=>(.pv (.mc []),H.set id (.seq k ag (Hf (Ho k off (wh k len F).toArray).toList.flatten) cells.length nl)) else none
   |_=>none
 |_,_=>none
theorem BW {k:Nat} (hk:0 < k) {D:List (List Int)} (h:∀ r∈D,r.length=k) {t:Nat} (ht:t < D.length * k):∃ (h1:t / k < D.length),D.flatten[t]? =D[t / k][t % k]? :=by
 have h1:t / k < D.length:=Nat.div_lt_of_lt_mul (by rw[Nat.mul_comm];exact ht)
 refine⟨h1,?_⟩
 have h2:=So.pt (sz:=k) h1 h
 rw[← h2,List.getElem?_take_of_lt (Nat.mod_lt _ hk),List.getElem?_drop]
 congr 1
 have:=Nat.div_add_mod t k
 rw[Nat.mul_comm] at this;exact this.symm
theorem WG {k:Nat} {D:Array (List Int)} (h:∀ r∈D.toList,r.length=k) {t:Nat} (ht:t < D.size * k):∃ n,D.toList.flatten[t]? =some n∧(Sort.flatK (encI k) k D)[t]! = .int .i64 n:=by
 have hk:0 < k:=by rcases Nat.eq_zero_or_pos k with e | e;rw[e] at ht;omega;exact e
 obtain⟨h1,h2⟩:=BW hk h (t:=t) (by simpa using ht)
 have h1':t / k < D.size:=by simpa using h1
 have hr:=h _ (List.getElem_mem h1)
 have hm:t % k < (D.toList[t / k]).length:=by rw[hr];exact Nat.mod_lt _ hk
 refine⟨(D.toList[t / k])[t % k],by rw[h2,List.getElem?_eq_getElem hm],?_⟩
 rw[Sort.get_flatK _ _ _ _ ht,getElem!_pos D _ h1']
 have e:D[t / k]=D.toList[t / k]:=by simp
 rw[e,encI,if_pos hr,List.getElem!_eq_getElem?_getD,List.getElem?_map,List.getElem?_eq_getElem hm];rfl
theorem aI (d arr:Array Value) {t:Nat} (ht:t < d.size) (hl:d.size≤arr.size):(Sort.putCells id 0 d arr)[t]? =some d[t]! :=by
 unfold Sort.putCells
 rw[Array.getElem?_mapIdx,Array.getElem?_eq_getElem (by omega)]
 simp only[Option.map_some,Option.some.injEq]
 rw[if_pos ⟨Nat.zero_le _,by omega⟩,Nat.sub_zero];rfl
theorem RK (k:Nat) (w:World) {b:Nat} {arr:Array Value} {ty:TypeId} {fz:Nat×Nat} (hb:w.heap[b]? =some (.cells arr ty fz)) (m:Nat) (D:Array (List Int)) (os:Array Obj):
 (Proofs.sortWorldK (encI k) k w b 0 m D os).heap[b]? =some (.cells (Sort.putCells id 0 (Sort.flatK (encI k) k D) arr) ty fz)∧(∀ c,c < w.heap.size→c≠b→(Proofs.sortWorldK (encI k) k w b 0 m D os).heap[c]? =w.heap[c]?)∧w.heap.size≤(Proofs.sortWorldK (encI k) k w b 0 m D os).heap.size:=by
 have hlt:b < w.heap.size:=(Array.getElem?_eq_some_iff.1 hb).1
 have e:(Proofs.sortWorldK (encI k) k w b 0 m D os).heap=w.heap.modify b (Sort.onCells (Sort.putCells id 0 (Sort.flatK (encI k) k D)))++os:=rfl
 rw[e]
 refine⟨?_,fun c hc hne=> ?_,by simp⟩
 ·rw[Array.getElem?_append_left (by simpa using hlt),Array.getElem?_modify,if_pos rfl,hb];rfl
 ·rw[Array.getElem?_append_left (by simpa using hc),Array.getElem?_modify,if_neg (Ne.symm hne)]
theorem gK {fo:Nat→FuncId} {R:Rd} {φ:Pl} {H:List ba}:∀ {F:List Int} {vs:List Value},fb fo (K R φ H) (Hf F) vs→vs=F.map (.int .i64)
 | [],vs,h=>by cases h;rfl
 |n::F,vs,h=>by
  cases h with
  |cons _ _ v us h1 h2=>
   rw[gK h2]
   have:=h1.Qb
   cases this;rfl
theorem DL {fo:Nat→FuncId} {R:Rd} {φ:Pl} {H:List ba}:∀ (F:List Int),fb fo (K R φ H) (Hf F) (F.map (.int .i64))
 | []=> .nil
 |n::F=> .cons _ _ _ _ (.atom _ _ (show Sa _ _ _ from .int _ _)) (DL F)
theorem BK {P:Program} {fo:Nat→FuncId} {s g k off:Nat} (hS:jM P (fo s) (fo g) k off) (B0:Of):Bq P fo B0 fun ix args H=>if ix=s then Zy k off g args H else none:=by
 intro ix args H v H' w R φ vs hR hl h
 dsimp only at h
 split at h
 ·next he=>
  subst he
  refine⟨hS.call,?_⟩
  unfold Zy at h
  split at h
  ·next H1 oid len c=>
   split at h
   ·next sz ag cells fl nl hc=>
    split at h
    ·next hcd=>
     obtain⟨rfl,rfl,hlen,hbig⟩:=hcd
     rw[Option.map_eq_some_iff] at h
     obtain⟨F,hF,hv⟩:=h
     injection hv with hv1 hv2
     subst hv1 hv2
     have hcF:=XE hF
     obtain⟨x,us,rfl,hx,hl2⟩:∃ x us,vs=x::us∧Kc fo (K R φ H) (.own oid len) x∧fb fo (K R φ H) [.Fk c []] us:=by
      cases hl with | cons _ _ x us h1 h2=>exact⟨x,us,rfl,h1,h2⟩
     obtain⟨rfl⟩:us=[.func (.func (fo c)) #[] #[]]:=by
      cases hl2 with
      |cons _ _ y zs h1 h2=>
       cases h2
       cases h1 with
       |atom _ _ h=>exact h.elim
       |Fk _ _ _ h=>cases h;rfl
     have hk1:K R φ H (.own oid len) x:=by cases hx with | atom _ _ h=>exact h
     obtain⟨g0,g1,g2⟩:=hk1
     obtain⟨q1,q2⟩:=g2 _ _ _ _ _ hc
     obtain⟨o0,o1,o2,o3,o4⟩:=hR.obj oid _ hc
     obtain⟨q3,q4⟩:=q2 (by omega)
     have hFl:F.length=len * sz:=by rw[hcF,List.length_map] at hlen;exact hlen.symm
     have hDl:(wh sz len F).toArray.size=len:=by simp[IB]
     have hDr:∀ r∈(wh sz len F).toArray.toList,r.length=sz:=fun r hr=>tB hFl r (by simpa using hr)
     have hDf:(wh sz len F).toArray.toList.flatten=F:=by simpa using qz hFl
     obtain⟨s1,s2,s3⟩:=Xy sz off (wh sz len F).toArray
     have hrow:∀ r∈(Ho sz off (wh sz len F).toArray).toList,r.length=sz:=fun r hr=>hDr r (s2.mem_iff.1 hr)
     have hfl:(Ho sz off (wh sz len F).toArray).toList.flatten.length=cells.length:=by
      rw[So.zt hrow,Array.length_toList,s1,hDl,hlen]
     generalize hDD:(wh sz len F).toArray=D at *
     generalize hEE:Ho sz off D=E at *
     have hk:=fun a v=>K.VN (R:=R) (φ:=φ) (ag':=ag) (c':=Hf E.toList.flatten) hc o1 (by rw[List.length_map];exact hfl) a v
     cases nl with
     |true=>
      have hx0:=q3 rfl
      have hce:=o2 rfl
      subst hx0
      have hl0:len=0:=by
       rw[hce] at hlen
       rcases Nat.mul_eq_zero.1 hlen with h | h <;> omega
      subst hl0
      refine (hS.none none 0 w).mono ?_
      rintro e w' ⟨rfl,rfl⟩
      refine⟨_,R,bm φ oid (φ oid),rfl,?_,.atom _ _ (show Sa _ _ _ from .mc _ _ .nil),hk,zg.refl _ _⟩
      refine hR.bm (w':=w') hc (Nat.le_refl _) (fun _ _ _=>rfl) (fun _ _ _ _=>rfl) hR.sub hk (fun h=>by cases h) ?_
      have h0:E.toList.flatten=[]:=List.eq_nil_of_length_eq_zero (by rw[hfl,hce];rfl)
      rw[h0]
      exact⟨o0,by rw[hce];exact Nat.le_refl _,fun _=>rfl,rfl,fun h=>by cases h⟩
     |false=>
      obtain⟨k1,k2,arr,⟨ty,fz,k3,hfz⟩,k4,k5,k6⟩:=o4 rfl
      rcases q4 rfl with⟨hl0,hne,_⟩ | ⟨b,o,cap,hxv,hbo,_⟩
      ·rw[hl0,Nat.zero_mul] at hlen
       exact absurd (List.eq_nil_of_length_eq_zero hlen.symm) hne
      ·obtain⟨rfl,rfl,rfl⟩:=hbo hlen
       subst hxv
       have hblk:(φ oid).1 < w.heap.size:=Mx.lt ⟨ty,fz,k3,hfz⟩
       have hrel:fb fo (K R φ H) (Hf F) (arr.toList.take cells.length):=by rw[← hcF];exact k6
       have hvals:=gK hrel
       have hholds:Sort.HoldsK (encI sz) sz w (φ oid).1 0 D:=by
        intro j hj
        rw[Sort.size_flatK,hDl] at hj
        obtain⟨n,e1,e2⟩:=WG hDr (t:=j) (by rw[hDl];exact hj)
        rw[Nat.zero_add,Mx.cell ⟨ty,fz,k3,hfz⟩,Mx.frozen ⟨ty,fz,k3,hfz⟩ (by omega),e2]
        rw[hDf] at e1
        have e3:(arr.toList.take cells.length)[j]? =some (.int .i64 n):=by rw[hvals,List.getElem?_map,e1];rfl
        rw[List.getElem?_take_of_lt (by omega)] at e3
        exact⟨by rw[← Array.getElem?_toList];exact e3,rfl⟩
       have hmany:=hS.many (φ oid).1 0 (φ oid).2 D w hholds hblk (by rw[hDl];exact hbig)
       rw[hDl] at hmany
       refine hmany.mono ?_
       rintro e w' ⟨rfl,m,os,rfl⟩
       rw[hEE]
       obtain⟨w1,w2,w3⟩:=RK sz w k3 m E os
       have hbel:zg B0 w (Proofs.sortWorldK (encI sz) sz w (φ oid).1 0 m E os):= .pI k3 rfl rfl rfl rfl w3 k1 hR.slt (hR.free oid ⟨_,hc,rfl⟩) fun b hb hne=>w2 b hb hne
       generalize Proofs.sortWorldK (encI sz) sz w (φ oid).1 0 m E os=w' at *
       refine⟨_,R,bm φ oid (φ oid),rfl,?_,.atom _ _ (show Sa _ _ _ from .mc _ _ .nil),hk,?_⟩
       ·refine hR.bm (w':=w') hc w3 (fun b hb hne=>w2 b hb (hne rfl)) (fun _ _ _ _=>rfl) (fun b o v hv=> ?_) hk (fun _=> .inl ⟨rfl,rfl⟩) ?_
        ·have hne:b≠(φ oid).1:=fun e=>by subst e;rw[k2] at hv;cases hv
         have hs:=hR.sub b o v hv
         have hblt:b < w.heap.size:=by
          rcases Nat.lt_or_ge b w.heap.size with h | h
          ·exact h
          ·simp[World.cell?,Array.getElem?_eq_none h] at hs
         rw[tf (w2 b hblt hne)];exact hs
        ·refine⟨o0,by rw[List.length_map,hfl];exact Nat.le_refl _,(fun h=>by cases h),?_,fun _=> ?_⟩
         ·rw[List.all_eq_true]
          intro a ha
          obtain⟨n,_,rfl⟩:=List.mem_map.1 ha
          rfl
         ·rw[Cb]
          have hsz:(Sort.putCells id 0 (Sort.flatK (encI sz) sz E) arr).size=arr.size:=by simp[Sort.putCells]
          have hfk:(Sort.flatK (encI sz) sz E).size=cells.length:=by rw[Sort.size_flatK,s1,hDl,hlen]
          refine⟨k1,k2,_,⟨ty,fz,w1,fun o ho=>hfz o (by rw[← hsz];exact ho)⟩,by rw[hsz];exact k4,by rw[hsz,List.length_map,hfl];exact k5,?_⟩
          have he:(Sort.putCells id 0 (Sort.flatK (encI sz) sz E) arr).toList.take (Hf E.toList.flatten).length=E.toList.flatten.map (.int .i64):=by
           apply List.ext_getElem?
           intro t
           rw[List.length_map,hfl]
           rcases Nat.lt_or_ge t cells.length with ht | ht
           ·obtain⟨n,e1,e2⟩:=WG hrow (t:=t) (by rw[s1,hDl,hlen];exact ht)
            rw[List.getElem?_take_of_lt ht,Array.getElem?_toList,aI _ _ (by rw[hfk];exact ht) (by omega),e2,List.getElem?_map,e1];rfl
           ·rw[List.getElem?_eq_none (by rw[List.length_take];omega),List.getElem?_eq_none (by rw[List.length_map,hfl];exact ht)]
          rw[he]
          exact DL _
       ·exact hbel
    ·cases h
   ·cases h
  ·cases h
 ·cases h
end Go.AM
