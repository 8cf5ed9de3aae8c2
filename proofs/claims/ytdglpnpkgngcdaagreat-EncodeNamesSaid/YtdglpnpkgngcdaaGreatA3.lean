/- The abstract machine: its functions compute what the model's functions do; a law's call; conditions. -/
import Derived.Test.YtdglpnpkgngcdaaGreatA2
import Derived.Scope
import Derived.LoopN
import Derived.ProofKit
import Derived.Carry
import Derived.SizedLaws
import Derived.OpenShut
import Derived.Handed
import Derived.Shelf.SlSortCmp.NoneTotal
set_option linter.unusedSimpArgs false
set_option linter.unusedVariables false
namespace Go.AM
open Go.RowKit
def Callable (P:Program) (f:FuncId):Prop:=∃ fn c,P.funcs[f]? =some fn∧fn.body=some c∧(fn.name== "runtime.NumGoroutine")=false
def PureFn (P:Program) (f:FuncId) (F:List PV→Option PV):Prop:=
 Callable P f∧∀ (w:World) (R:Rd) (args:List PV) (vs:List Value) (r:PV),(∀ b o v,R b o=some v→w.cell? ⟨b,o,none⟩=some v)→LRel R args vs→F args=some r→
  Calls P f ⟨vs⟩ w fun e w'=>∃ v R',e= .returned v∧Below w.heap.size w w'∧PRel R' r v∧(∀ b o,b < w.heap.size→R' b o=R b o)∧∀ b o v,R' b o=some v→w'.cell? ⟨b,o,none⟩=some v
def Came (fo:Nat→FuncId) (B0:Base) (w:World) (R:Rd) (φ:Pl) (H:List AObj) (v:AV) (H':List AObj) (e:Ending) (w':World):Prop:=
 ∃ u R' φ',e= .returned u∧SRel fo B0 w' R' φ' H'∧ARel fo (K R' φ' H') v u∧(∀ x u,K R φ H x u→K R' φ' H' x u)∧Belo B0 w w'
def CallOk (P:Program) (fo:Nat→FuncId) (B0:Base) (call:CallF):Prop:=
 ∀ (ix:Nat) (args:List AV) (H:List AObj) (v:AV) (H':List AObj) (w:World) (R:Rd) (φ:Pl) (vs:List Value),SRel fo B0 w R φ H→ALRel fo (K R φ H) args vs→call ix args H=some (v,H')→
  Callable P (fo ix)∧Calls P (fo ix) ⟨vs⟩ w (Came fo B0 w R φ H v H')
def okCall (P:Program) (fo:Nat→FuncId):Op→AOp→Bool
 | .call {callee:= .value (.func _),args,..},.callP _ ys=>okOs fo args.toList ys
 | .call {callee:= .value (.func f),args,..},.callI ix ys=>fo ix==f&&okOs fo args.toList ys
 | .call {callee:= .value x,args,..},.callV y ys=>okO fo x y&&okOs fo args.toList ys
 |_,_=>false
def dutyOf:Op→AOp→List (FuncId×(List PV→Option PV))
 | .call {callee:= .value (.func f),..},.callP F _=>[(f,F)]
 |_,_=>[]
section
variable {P:Program} {fo:Nat→FuncId} {B0:Base} {call:CallF}
theorem run_invoke {f:FuncId} (hf:Callable P f) {caps args:Array Value} (w:World):(invoke (.fn (.func f) caps) args).run P w= .ok (.enter f (args++caps)) w:=by
 obtain⟨fn,c,h1,h2,h3⟩:=hf
 have h3':¬fn.name= "runtime.NumGoroutine" :=by simpa using h3
 simp[invoke,callFunc,h1,h2,h3']
theorem call_owes {o:Oper} {op:Op} {aop:AOp} (ho:o.op=op) (hok:okCall P fo op aop=true) (hd:∀ d∈dutyOf op aop,PureFn P d.1 d.2) (hc:CallOk P fo B0 call)
 {w:World} {R:Rd} {φ:Pl} {e:Tr} {H H':List AObj} {a:Act} {v:AV} (hS:SRel fo B0 w R φ H) (hE:ERel fo (K R φ H) e a) (hev:evalOp call e H aop=some (v,H')):Meets P fo B0 o a w R φ H v H':=by
 intro next Q hn
 unfold okCall at hok
 split at hok
 ·
  rename_i f args tys F ys
  have hpf:=hd (f,F) (by simp[dutyOf])
  obtain⟨hcal,hp⟩:=hpf
  simp only[evalOp,Option.bind_eq_some_iff] at hev
  obtain⟨ps,h1,r,h2,h3⟩:=hev
  split at h3
  ·rename_i hfree
   simp only[Option.some.injEq,Prod.mk.injEq] at h3
   obtain⟨rfl,rfl⟩:=h3
   have hl:=evs_rel (R:=R) (φ:=φ) (H:=H) hE hok
   have hrun:(execOp a.eval o).run P w= .ok (.enter f ⟨args.toList.map a.eval⟩) w:=by
    have:=run_invoke (P:=P) hcal (caps:= #[]) (args:= #[]++args.map a.eval) w
    simp only[execOp,ho,resolve,Act.eval,Deferred.ofValue,Sem.run_bind,Sem.run_pure,Result.andThen_ok,this]
    congr 2
    apply Array.ext'
    simp
   unfold Oper.wp
   rw[hrun,Oper.upon_enter]
   have fin:∀ (R1:Rd),(∀ b o v,R1 b o=some v→w.cell? ⟨b,o,none⟩=some v)→LRel R1 ps (args.toList.map a.eval)→(∀ {R':Rd} {v:Value},(∀ b o,b < w.heap.size→R' b o=R1 b o)→(∀ b o v,R' b o=some v→R1 b o=some v∨w.heap.size≤b)→PRel R' r v→PRel (fun b o=>if b < w.heap.size then R b o else R' b o) r v)→
    Calls P f ⟨args.toList.map a.eval⟩ w fun x w''=>match x,w'' with
     | .returned v,w''=>next (a.put o.dst v) w''
     | .panicked chain,w''=>Q (.panic chain) a w''
     | .outgrown,_=>LetsOut Q:=by
    intro R1 hR1 hl1 hres
    refine Calls.mono (hp w R1 ps _ r hR1 hl1 h2) ?_
    rintro e w' ⟨v,R',rfl,hb,hv,hsame,hcell⟩
    simp only
    have hsub:Sub R (fun b o=>if b < w.heap.size then R b o else R' b o):=by
     intro b o v h
     have:=cell_lt (hS.sub b o v h)
     simp[this,h]
    have hk:=fun x u h=>K.sub (R:=R) (φ:=φ) (H:=H) hsub x u h
    refine hn v w' (fun b o=>if b < w.heap.size then R b o else R' b o) φ ⟨Nat.le_trans hS.low hb.size,fun b o v h=> ?_,fun id ob hob=> ?_,hS.inj,fun b o hlt=> ?_,fun k hk=>Nat.lt_of_lt_of_le (hS.slt k hk) hb.size,hS.free⟩ (.atom _ _ (show PRel _ _ _ from ?_)) hk (.of_all hb hS.low hS.slt)
    ·try dsimp only at h
     split at h
     ·rename_i hlt
      rw[cell_heap (hb.block b hlt)];exact hS.sub b o v h
     ·exact hcell b o v h
    ·have hO:=hS.obj id ob hob
     exact hO.keep (fun hl=>⟨hb.block _ (hO.lt hl),fun j hj=>by (try dsimp only);rw[if_pos (hO.lt hl)];exact hj⟩) rfl hk
    ·have:=hS.low
     try dsimp only
     rw[if_pos (by omega)];exact hS.old b o hlt
    ·refine hres hsame (fun b o v h=> ?_) hv
     rcases Nat.lt_or_ge b w.heap.size with hlt | hge
     ·rw[hsame b o hlt] at h;exact .inl h
     ·exact .inr hge
   simp only[Bool.or_eq_true] at hfree
   rcases hfree with hfree | hflat
   ·refine fin R hS.sub (toPVs_free (w:=w) hfree hl h1) fun {R' v} hsame _ hv=>hv.mono fun b o u hu=> ?_
    try dsimp only
    split
    ·rename_i hlt;rw[← hsame b o hlt];exact hu
    ·exact hu
   ·exact fin (Rw w) (fun b o v h=>h) (toPVs_sim hS hl h1) fun {R' v} _ _ hv=>flat_rel hflat hv
  ·cases h3
 ·
  rename_i f args tys ix ys
  simp only[Bool.and_eq_true,beq_iff_eq] at hok
  obtain⟨rfl,hok⟩:=hok
  have hl:=evs_rel (R:=R) (φ:=φ) (H:=H) hE hok
  simp only[evalOp] at hev
  obtain⟨hcal,hcc⟩:=hc ix _ H v H' w R φ _ hS hl hev
  have hrun:(execOp a.eval o).run P w= .ok (.enter (fo ix) ⟨args.toList.map a.eval⟩) w:=by
   have:=run_invoke (P:=P) hcal (caps:= #[]) (args:= #[]++args.map a.eval) w
   simp only[execOp,ho,resolve,Act.eval,Deferred.ofValue,Sem.run_bind,Sem.run_pure,Result.andThen_ok,this]
   congr 2
   apply Array.ext'
   simp
  unfold Oper.wp
  rw[hrun,Oper.upon_enter]
  refine Calls.mono hcc ?_
  rintro e w' ⟨u,R',φ',rfl,k1,k2,k3,k4⟩
  exact hn u w' R' φ' k1 k2 k3 k4
 ·
  rename_i x args tys y ys
  simp only[Bool.and_eq_true] at hok
  obtain⟨hx,hok⟩:=hok
  have hl:=evs_rel (R:=R) (φ:=φ) (H:=H) hE hok
  have hxr:=ev_rel (R:=R) (φ:=φ) (H:=H) hE hx
  simp only[evalOp] at hev
  split at hev
  ·rename_i ix caps hy
   rw[hy] at hxr
   have hcr:∃ us:List Value,a.eval x= .func (.func (fo ix)) #[] ⟨us⟩∧ALRel fo (K R φ H) caps us:=by
    generalize a.eval x=vx at hxr
    cases hxr with
    |atom _ _ h=>exact h.elim
    |clo _ _ us h=>exact⟨us,rfl,h⟩
   obtain⟨us,hu,hur⟩:=hcr
   obtain⟨hcal,hcc⟩:=hc ix _ H v H' w R φ _ hS (hl.append hur) hev
   have hrun:(execOp a.eval o).run P w= .ok (.enter (fo ix) ⟨args.toList.map a.eval++us⟩) w:=by
    have:=run_invoke (P:=P) hcal (caps:=⟨us⟩) (args:= #[]++args.map a.eval) w
    simp only[execOp,ho,resolve,hu,Deferred.ofValue,Sem.run_bind,Sem.run_pure,Result.andThen_ok,this]
    congr 2
    apply Array.ext'
    simp
   unfold Oper.wp
   rw[hrun,Oper.upon_enter]
   refine Calls.mono hcc ?_
   rintro e w' ⟨u,R',φ',rfl,k1,k2,k3,k4⟩
   exact hn u w' R' φ' k1 k2 k3 k4
  ·cases hev
 ·cases hok
mutual
def encV:PV→Value
 | .int k n=> .int k n
 | .bool b=> .bool b
 | .str s=> .string s
 | .nilp=> .pointer none
 | .nils=> .slice none 0 0
 | .nilm=> .map none
 | .nilf=> .nilFunc
 | .nili=> .nilIface
 | .agg cs=> .agg ⟨encVs cs⟩
 | .tup cs=> .tuple ⟨encVs cs⟩
 |_=>undef
def encVs:List PV→List Value
 | []=>[]
 |c::cs=>encV c::encVs cs
end
mutual
theorem enc_rel {R:Rd}:∀ {p:PV},flatV p=true→PRel R p (encV p)
 | .int _ _,_=> .int _ _
 | .bool _,_=> .bool _
 | .str _,_=> .str _
 | .nilp,_=> .nilp
 | .nils,_=> .nils
 | .nilm,_=> .nilm
 | .nilf,_=> .nilf
 | .nili,_=> .nili
 | .agg cs,h=> .agg _ _ (enc_rels (by simpa[flatV] using h))
 | .tup cs,h=> .tup _ _ (enc_rels (by simpa[flatV] using h))
 | .rp _ _,h=>by simp[flatV] at h
 | .lit _ _,h=>by simp[flatV] at h
 | .iface _ _,h=>by simp[flatV] at h
theorem enc_rels {R:Rd}:∀ {ps:List PV},flatVs ps=true→LRel R ps (encVs ps)
 | [],_=> .nil
 |p::ps,h=>by
  simp only[flatVs,Bool.and_eq_true] at h
  exact .cons _ _ _ _ (enc_rel h.1) (enc_rels h.2)
end
structure IterFn (P:Program) (f:FuncId) (F:List PV→Option (List (List PV))):Prop where
 call:Callable P f
 go:∀ (caps:List PV) (vs:List Value) (xs:List (List PV)),F caps=some xs→(∀ x∈xs,flatVs x=true)→∀ (R:Rd) (l:Nat) (J:Nat→(Nat→Prop)→World→Prop) (Jx:World→Prop) (W:World),LRel R caps vs→(∀ b o v,R b o=some v→W.cell? ⟨b,o,none⟩=some v)→
  (∀ (i:Nat) (T:Nat→Prop) (A B:World) (T':Nat→Prop),J i T A→RowKit.Below A.heap.size A B→(∀ k,T' k→T k∨(A.heap.size≤k∧k < B.heap.size))→J i T' B)→(∀ A B,Jx A→RowKit.Below A.heap.size A B→Jx B)→
  (∀ i T A,J i T A→∃ R':Rd,(∀ b o v,R' b o=some v→A.cell? ⟨b,o,none⟩=some v)∧∀ p v,PRel R p v→PRel R' p v)→
  (∀ i x T A,xs[i]? =some x→J i T A→YieldAt Fence.wide 0 P l ⟨encVs x⟩ A fun e B=>(e= .returned (.bool true)∧J (i+1) T B∧∀ k,T k→B.heap[k]? =A.heap[k]?)∨(e= .returned (.bool false)∧Jx B))→
  J 0 (fun _=>False) W→Calls P f ⟨.func (.yield l) #[] #[]::vs⟩ W fun e B=>(∃ v,e= .returned v)∧((∃ T,J xs.length T B)∨Jx B)
def isLD:Obj→Bool
 | .loop _=>true
 | .deferred _=>true
 |_=>false
theorem ORel.apart {w:World} {R:Rd} {φ:Pl} {H:List AObj} {id:Nat} {o:AObj} (h:ORel fo B0 w R φ H id o) (hl:liveO o) {l:Nat} {ob:Obj} (hb:w.heap[l]? =some ob) (hk:isLD ob=true):(φ id).1≠l:=by
 have cells:∀ arr,Blk w (φ id).1 arr→(φ id).1≠l:=by
  rintro arr ⟨ty,fz,h1,_⟩ e
  rw[e,hb] at h1;cases h1;cases hk
 cases o with
 |box c=>obtain⟨_,_,_,arr,h3,_⟩:=h;exact cells arr h3
 |seq sz ag c fl nl=>obtain⟨_,_,arr,h3,_⟩:=h.2.2.2.2 hl;exact cells arr h3
 |tok sz n nl=>obtain⟨_,_,arr,h3,_⟩:=h.2.2 hl;exact cells arr h3
 |map es=>
  obtain⟨_,_,ents,clk,h3,_⟩:=h
  intro e
  rw[e,hb] at h3;cases h3;cases hk
 |dead=>exact hl.elim
theorem SRel.later {A B:World} {R:Rd} {φ:Pl} {H:List AObj} (h:SRel fo B0 A R φ H) (hb:RowKit.Below A.heap.size A B):SRel fo B0 B R φ H:=
 ⟨Nat.le_trans h.low hb.size,fun b o v hv=>by have:=h.sub b o v hv;rw[cell_heap (hb.block b (cell_lt this))];exact this,
  fun id o ho=>(h.obj id o ho).keep (fun hl=>⟨hb.block _ ((h.obj id o ho).lt hl),fun _ hj=>hj⟩) rfl fun _ _ h=>h,h.inj,h.old,fun k hk=>Nat.lt_of_lt_of_le (h.slt k hk) hb.size,h.free⟩
theorem SRel.putO {A:World} {R:Rd} {φ:Pl} {H:List AObj} (h:SRel fo B0 A R φ H) {l:Nat} {ob:Obj} (hb:A.heap[l]? =some ob) (hk:isLD ob=true) (o':Obj):SRel fo B0 (A.putObj l o') R φ H:=by
 have ne:∀ b o v,R b o=some v→b≠l:=by
  intro b o v hv e
  have:=h.sub b o v hv
  rw[e] at this
  simp only[World.cell?,hb] at this
  cases ob <;> first | (cases hk;done) | simp at this
 refine⟨by rw[World.putObj_size];exact h.low,fun b o v hv=>by have:=h.sub b o v hv;rw[cell_heap (World.putObj_heap_other (ne b o v hv))];exact this,
  fun id o ho=>(h.obj id o ho).keep (fun hl=>⟨World.putObj_heap_other ((h.obj id o ho).apart hl hb hk),fun _ hj=>hj⟩) rfl fun _ _ h=>h,h.inj,h.old,fun k hk=>by rw[World.putObj_size];exact h.slt k hk,h.free⟩
theorem Belo.put {w A:World} (h:Belo B0 w A) (h0:B0.n≤w.heap.size) (hs:∀ k,B0.S k→k < w.heap.size) {l:Nat} (hl:w.heap.size≤l) (o':Obj):Belo B0 w (A.putObj l o'):=
 ⟨⟨h.os,h.tape,h.output,by rw[World.putObj_size];exact h.size,fun k hk=>by rw[World.putObj_heap_other (by omega)];exact h.block k hk⟩,
  fun k o h1 h2=>by rw[World.putObj_heap_other (by have:=heap_lt h1;omega)];exact h.keep k o h1 h2,
  fun k hk=>by rw[World.putObj_heap_other (by have:=hs k hk;omega)];exact h.held k hk⟩
theorem Belo.later {w A B:World} (h:Belo B0 w A) (h0:B0.n≤w.heap.size) (hs:∀ k,B0.S k→k < w.heap.size) (hb:RowKit.Below A.heap.size A B):Belo B0 w B:=
 h.trans (.of_all hb (Nat.le_trans h0 h.size) fun k hk=>Nat.lt_of_lt_of_le (hs k hk) h.size)
def Base.and (B:Base) (T:Nat→Prop):Base:=⟨B.n,B.R,fun k=>B.S k∨T k⟩
theorem SRel.weaken {T:Nat→Prop} {A:World} {R:Rd} {φ:Pl} {H:List AObj} (h:SRel fo (B0.and T) A R φ H):SRel fo B0 A R φ H:=
 ⟨h.low,h.sub,fun id o ho=>by have:=h.obj id o ho;cases o <;> exact this,h.inj,h.old,fun k hk=>h.slt k (.inl hk),fun i hi hs=>h.free i hi (.inl hs)⟩
theorem SRel.grow {T T':Nat→Prop} {A B:World} {R:Rd} {φ:Pl} {H:List AObj} (h:SRel fo (B0.and T) A R φ H) (hb:RowKit.Below A.heap.size A B) (ht:∀ k,T' k→T k∨(A.heap.size≤k∧k < B.heap.size)):SRel fo (B0.and T') B R φ H:=by
 have h':=h.later hb
 refine⟨h'.low,h'.sub,fun id o ho=>by have:=h'.obj id o ho;cases o <;> exact this,h'.inj,h'.old,fun k hk=> ?_,fun i hi hs=> ?_⟩
 ·rcases hk with hk | hk
  ·exact h'.slt k (.inl hk)
  ·rcases ht k hk with hk | hk
   ·exact h'.slt k (.inr hk)
   ·exact hk.2
 ·rcases hs with hs | hs
  ·exact h.free i hi (.inl hs)
  ·rcases ht _ hs with hs | hs
   ·exact h.free i hi (.inr hs)
   ·obtain⟨o,ho,hl⟩:=hi
    have:=(h.obj i o ho).lt hl
    omega
theorem Belo.weaken {T:Nat→Prop} {w A:World} (h:Belo (B0.and T) w A):Belo B0 w A:=⟨h.toBelow,h.keep,fun k hk=>h.held k (.inl hk)⟩
theorem range_split (f:List PV→List AObj→Option (Ex×St)):∀ (pre post:List (List PV)) {H H1:List AObj},rangeA f pre H=some (.norm,H1)→rangeA f (pre++post) H=rangeA f post H1:=by
 intro pre
 induction pre with
 |nil=>
  intro post H H1 h
  simp only[rangeA] at h
  injection h with h;injection h with _ h;subst h;rfl
 |cons x pre ih=>
  intro post H H1 h
  simp only[rangeA,List.cons_append] at h ⊢
  cases hf:f x H with
  |none=>rw[hf] at h;cases h
  |some r=>
   obtain⟨ex,s⟩:=r
   rw[hf] at h
   cases ex with
   |norm=>exact ih post h
   |exit id=>simp only[stepR] at h;injection h with h;injection h with h _;cases h
   |ret=>simp only[stepR] at h;injection h with h;injection h with h _;cases h
theorem step_jump {g:List AObj→Option (Ex×List AObj)} {ex:Ex} {s:St} {r:Ex×List AObj} (hx:ex≠ .norm) (h:stepR g (some (ex,s))=some r):r=(ex,s.H):=by
 cases ex with
 |norm=>exact absurd rfl hx
 |exit id=>simp only[stepR] at h;injection h with h;exact h.symm
 |ret=>simp only[stepR] at h;injection h with h;exact h.symm
def okOpers (P:Program) (fo:Nat→FuncId) (nt:Nat) (ops:Array Oper):List Oper→List AOper→Bool
 | [],[]=>true
 |o::os,ao::aos=>okSlot nt ops o ao&&(okOp P fo o.op ao.op||okCall P fo o.op ao.op)&&(!ao.pr||decide (ao.op.cls≤1))&&okOpers P fo nt ops os aos
 |_,_=>false
def dutyOps:List Oper→List AOper→List (FuncId×(List PV→Option PV))
 |o::os,ao::aos=>dutyOf o.op ao.op++dutyOps os aos
 |_,_=>[]
def ACode.plain:ACode→Bool
 | .scope _=>false
 | .range _ _ _ _ _ _=>false
 | .seq a b=>a.plain&&b.plain
 | .cond _ a b=>a.plain&&b.plain
 | .block _ b=>b.plain
 | .loop _ b=>b.plain
 | .loopG _ b=>b.plain
 | .ghost _ b=>b.plain
 |_=>true
def okAs (nt:Nat):List Oper→List (Nat×Nat)→Bool
 | [],[]=>true
 |⟨some d,.assign (.tmp t),_,_,_,none⟩::os,(d',t')::r=>d==d'&&t==t'&&decide (d < nt)&&okAs nt os r
 |_,_=>false
def okAsg (nt:Nat):Code→List (Nat×Nat)→Bool
 | .region _ ops false,r=>okAs nt ops.toList r
 | .skip,[]=>true
 |_,_=>false
def okCode (P:Program) (fo:Nat→FuncId) (nt:Nat):Code→ACode→Bool
 |c,.ghost _ ac=>okCode P fo nt c ac
 | .skip,.skip=>true
 | .label _,.skip=>true
 | .scope b,.scope b'=>okCode P fo nt b b'
 | .region _ ops draw,.region aops=>okOpers P fo nt ops ops.toList aops&&(!draw||(P.follows .mixedOrders&&okDraw ops aops))
 | .seq a b,.seq a' b'=>okCode P fo nt a a'&&okCode P fo nt b b'
 | .cond c a b,.cond c' a' b'=>okO fo c c'&&okCode P fo nt a a'&&okCode P fo nt b b'
 | .block id b,.block id' b'=>id==id'&&okCode P fo nt b b'
 | .loop b,.loop _ b'=>okCode P fo nt b b'
 | .loop b,.loopG _ b'=>okCode P fo nt b b'
 | .exit id,.exit id'=>id==id'
 | .ret,.ret=>true
 | .rangeFunc g ps assign body,.range _ _ g' ps' asg b=>okO fo g g'&&ps.toList==ps'&&ps'.all (fun t=>decide (t < nt))&&okAsg nt assign asg&&okCode P fo nt body b&&b.plain
 |_,_=>false
def duties:Code→ACode→List (FuncId×(List PV→Option PV))
 |c,.ghost _ ac=>duties c ac
 | .region _ ops _,.region aops=>dutyOps ops.toList aops
 | .seq a b,.seq a' b'=>duties a a'++duties b b'
 | .cond _ a b,.cond _ a' b'=>duties a a'++duties b b'
 | .block _ b,.block _ b'=>duties b b'
 | .scope b,.scope b'=>duties b b'
 | .loop b,.loop _ b'=>duties b b'
 | .loop b,.loopG _ b'=>duties b b'
 | .rangeFunc _ _ _ b,.range _ _ _ _ _ b'=>duties b b'
 |_,_=>[]
def dutiesI:ACode→List (Nat×(List PV→Option (List (List PV))))
 | .range ix F _ _ _ b=>(ix,F)::dutiesI b
 | .seq a b=>dutiesI a++dutiesI b
 | .cond _ a b=>dutiesI a++dutiesI b
 | .block _ b=>dutiesI b
 | .scope b=>dutiesI b
 | .loop _ b=>dutiesI b
 | .loopG _ b=>dutiesI b
 | .ghost _ b=>dutiesI b
 |_=>[]
theorem okOp_nd {P:Program} {fo:Nat→FuncId} {op:Op} {aop:AOp} (h:okOp P fo op aop=true):∀ c,op≠ .defer c:=by
 rintro c rfl
 cases aop <;> simp[okOp] at h
theorem okCall_nd {P:Program} {fo:Nat→FuncId} {op:Op} {aop:AOp} (h:okCall P fo op aop=true):∀ c,op≠ .defer c:=by
 rintro c rfl
 cases aop <;> simp[okCall] at h
theorem slots_of {nt:Nat} {ops:Array Oper} {aops:List AOper} (hc:CallOk P fo B0 call) (hok:okOpers P fo nt ops ops.toList aops=true) (hd:∀ d∈dutyOps ops.toList aops,PureFn P d.1 d.2):Slots P fo B0 call nt ops aops:=by
 have key:∀ {os:List Oper} {aos:List AOper},okOpers P fo nt ops os aos=true→(∀ d∈dutyOps os aos,PureFn P d.1 d.2)→aos.length=os.length∧∀ (i:Nat) (o:Oper) (ao:AOper),os[i]? =some o→aos[i]? =some ao→okSlot nt ops o ao=true∧Owes P fo B0 call o ao∧∀ c,o.op≠ .defer c:=by
  intro os
  induction os with
  |nil=>
   intro aos h _
   cases aos with
   |nil=>exact⟨rfl,fun i o ao h=>by simp at h⟩
   |cons _ _=>simp[okOpers] at h
  |cons o os ih=>
   intro aos h hd
   cases aos with
   |nil=>simp[okOpers] at h
   |cons ao aos=>
    simp only[okOpers,Bool.and_eq_true,Bool.or_eq_true,Bool.not_eq_true',decide_eq_true_eq] at h
    obtain⟨⟨⟨h1,h2⟩,hpr⟩,h3⟩:=h
    obtain⟨k1,k2⟩:=ih h3 fun d hd'=>hd d (by simp[dutyOps,hd'])
    refine⟨by simp[k1],fun i x y hx hy=> ?_⟩
    cases i with
    |zero=>
     simp at hx hy;subst hx;subst hy
     refine⟨h1,?_,h2.elim okOp_nd okCall_nd⟩
     intro w R φ e H H' a v hS hE hev
     have hev:evalOp call e H ao.op=some (v,H'):=by
      unfold evalG at hev
      cases hp:ao.pr with
      |false=>simpa[hp] using hev
      |true=>
       simp only[hp,cond_true] at hev
       obtain⟨k,rfl⟩:=onH_some hev
       have hpr:ao.op.cls≤1:=hpr.resolve_left (by rw[hp];simp)
       have:ao.op.cls=0∨ao.op.cls=1:=by omega
       rcases this with h0 | h0
       ·exact (cls0 h0 k).2 H'
       ·exact (cls1 h0 k).2 H' (fun id o h=>by simp at h)
     rcases h2 with h2 | h2
     ·exact evalOp_sim rfl h2 hS hE hev
     ·exact call_owes rfl h2 (fun d hd'=>hd d (by simp[dutyOps,hd'])) hc hS hE hev
    |succ i=>exact k2 i x y (by simpa using hx) (by simpa using hy)
 obtain⟨k1,k2⟩:=key hok hd
 exact⟨by simpa using k1,fun i o ao h1 h2=>(k2 i o ao (by simpa using h1) h2).1,fun i o ao h1 h2=>(k2 i o ao (by simpa using h1) h2).2.1,fun i o ao h1 h2=>(k2 i o ao (by simpa using h1) h2).2.2⟩
def Ex.to:Ex→Exit
 | .norm=> .normal
 | .exit id=> .exit id
 | .ret=> .ret
theorem seqA_some {f:St→Option (Ex×St)} {r:Option (Ex×St)} {x:Ex×St} (h:seqA f r=some x):(∃ s,r=some (.norm,s)∧f s=some x)∨(r=some x∧x.1≠ .norm):=by
 cases r with
 |none=>cases h
 |some y=>
  obtain⟨ex,s⟩:=y
  cases ex with
  |norm=>exact .inl ⟨s,rfl,h⟩
  |exit id=>simp only[seqA,Option.some.injEq] at h;subst h;exact .inr ⟨rfl,by simp⟩
  |ret=>simp only[seqA,Option.some.injEq] at h;subst h;exact .inr ⟨rfl,by simp⟩
theorem startA_some {f:St→Option (Ex×St)} {r:Option St} {x:Ex×St} (h:startA f r=some x):∃ s,r=some s∧f s=some x:=by
 cases r with
 |none=>cases h
 |some s=>exact⟨s,rfl,h⟩
theorem keepEnv_rel {k:AV→Value→Prop} {e:Tr} {a:Act} (hE:ERel fo k e a):∀ (l:List Nat),ERel fo k (keepEnv e l) a
 | []=>fun t=> .undef _
 |x::l=>fun t=>by
  simp only[keepEnv]
  rw[Tr.get_set]
  split
  ·rename_i ht;subst ht;exact hE t
  ·exact keepEnv_rel hE l t
theorem tidy_goes {w0 w:World} {R0 R:Rd} {φ0 φ:Pl} {H0:List AObj} {a0 a:Act} {s:St} (l:List Nat) (g:Goes fo B0 w0 R0 φ0 H0 a0 w R φ s a):Goes fo B0 w0 R0 φ0 H0 a0 w R φ (tidy l s) a:=
 ⟨g.rel,keepEnv_rel g.env l,g.mono,g.below,g.size,g.defers⟩
theorem asg_sim {ro:Option Nat} {n nt:Nat} {assign:Code} {asg:List (Nat×Nat)} (hok:okAsg nt assign asg=true) {k:AV→Value→Prop} {e:Tr} {a:Act} {w:World} (hE:ERel fo k e a) (hn:a.tmps.size=nt) {Q:Exit→Act→World→Prop}
 (hq:∀ a',ERel fo k (asgT asg e) a'→a'.tmps.size=nt→Q .normal a' w):assign.wpIn (roF ro) n P Q a w:=by
 have key:∀ (ops:Array Oper) (os:List Oper) (L:List Nat) (r:List (Nat×Nat)),L.map (ops[·]?)=os.map some→okAs nt os r=true→∀ {e:Tr} {a:Act},ERel fo k e a→a.tmps.size=nt→
  (∀ a',ERel fo k (asgT r e) a'→a'.tmps.size=nt→Q .normal a' w)→wpOpsIn (roF ro) n P ops Q L a w:=by
  intro ops os
  induction os with
  |nil=>
   intro L r hL hok e a hE hn hq
   cases L with
   |cons _ _=>simp at hL
   |nil=>
    cases r with
    |nil=>exact hq a hE hn
    |cons _ _=>simp[okAs] at hok
  |cons o os ih=>
   intro L r hL hok e a hE hn hq
   cases L with
   |nil=>simp at hL
   |cons i L=>
    simp only[List.map_cons,List.cons.injEq] at hL
    obtain⟨hi,hL⟩:=hL
    unfold okAs at hok
    split at hok
    ·rename_i heq;simp at heq
    ·rename_i d t ty po af os' d' t' r' heq
     simp only[List.cons.injEq] at heq
     obtain⟨rfl,rfl⟩:=heq
     simp only[Bool.and_eq_true,beq_iff_eq,decide_eq_true_eq] at hok
     obtain⟨⟨⟨rfl,rfl⟩,hlt⟩,hok⟩:=hok
     rw[wpOpsIn_cons]
     unfold wpOpIn
     simp only[hi,Region.wanted,if_true]
     refine wpIn_of_wp ro (by simp) ?_
     show Oper.upon _ _ _ _ _ _
     simp only[execOp,Sem.run_pure,Oper.upon]
     refine ih L r' hL hok (e:=e.set d (e.get t)) ?_ (by simp[Act.put,hn]) hq
     exact hE.put (some d) (fun t ht=>by injection ht with ht;subst ht;rw[hn];exact hlt) (hE t)
    ·cases hok
 cases assign with
 |region id ops draw=>
  cases draw with
  |true=>simp[okAsg] at hok
  |false=>
   refine wpIn_region (key ops ops.toList (List.range ops.size) _ ?_ hok hE hn hq)
   apply List.ext_getElem?
   intro i
   rcases Nat.lt_or_ge i ops.size with h | h
   ·simp[h]
   ·simp[h]
 |skip=>
  cases asg with
  |nil=>exact wpIn_skip (hq a hE hn)
  |cons _ _=>simp[okAsg] at hok
 |_=>simp[okAsg] at hok
theorem setPs_rel {k:AV→Value→Prop} (hk:∀ p v,(∀ R:Rd,PRel R p v)→k (.pv p) v) {nt:Nat}:∀ (ps:List Nat) (x:List PV) {e:Tr} {a:Act},ERel fo k e a→a.tmps.size=nt→ps.all (fun t=>decide (t < nt))=true→flatVs x=true→
 ERel fo k (setPs ps x e) {tmps:=(ps.zip (encVs x)).foldl (fun t (p,v)=>t.setIfInBounds p v) a.tmps,defers:=a.defers}∧((ps.zip (encVs x)).foldl (fun (t:Array Value) (p,v)=>t.setIfInBounds p v) a.tmps).size=nt:=by
 intro ps
 induction ps with
 |nil=>intro x e a hE hn _ _;exact⟨by simpa[setPs] using hE,by simpa using hn⟩
 |cons p ps ih=>
  intro x e a hE hn hp hx
  cases x with
  |nil=>exact⟨by simpa[setPs,encVs] using hE,by simpa[encVs] using hn⟩
  |cons y ys=>
   simp only[List.all_cons,Bool.and_eq_true,decide_eq_true_eq] at hp
   simp only[flatVs,Bool.and_eq_true] at hx
   have h1:=hE.put (some p) (fun t ht=>by injection ht with ht;subst ht;rw[hn];exact hp.1) (v:= .pv y) (u:=encV y) (.atom _ _ (hk _ _ fun R=>enc_rel hx.1))
   exact ih ys (e:=e.set p (.pv y)) (a:=a.put (some p) (encV y)) h1 (by simp[Act.put,hn]) hp.2 hx.2
def Ex.code:Ex→Code
 | .norm=> .skip
 | .exit id=> .exit id
 | .ret=> .ret
theorem range_sim {nt:Nat} {ix:Nat} {F:List PV→Option (List (List PV))} {g:AO} {ps:List Nat} {asg:List (Nat×Nat)} {b:ACode} {g1:Operand} {ps1:Array Tmp} {assign body:Code}
 (h1:okO fo g1 g=true) (h2:ps1.toList=ps) (h3:ps.all (fun t=>decide (t < nt))=true) (h4:okAsg nt assign asg=true) (hit:IterFn P (fo ix) F)
 (hbody:∀ (l:Nat) {B0:Base} {w:World} {R:Rd} {φ:Pl} {s s':St} {ex:Ex} {a:Act} {Q:Exit→Act→World→Prop},SRel fo B0 w R φ s.H→ERel fo (K R φ s.H) s.env a→a.tmps.size=nt→evalC call b s=some (ex,s')→
  (∀ a' w' R' φ',Goes fo B0 w R φ s.H a w' R' φ' s' a'→Q ex.to a' w')→body.wpIn (roF (some l)) 0 P Q a w)
 {B0:Base} {w:World} {R:Rd} {φ:Pl} {s s':St} {ex:Ex} {a:Act} {nn:Nat} {Q:Exit→Act→World→Prop} (hS:SRel fo B0 w R φ s.H) (hE:ERel fo (K R φ s.H) s.env a) (hn:a.tmps.size=nt)
 (h:rangeB (fun e H=>evalC call b ⟨e,H⟩) ps asg s (rangeV ix F ps.length (g.ev s.env))=some (ex,s'))
 (hq:∀ a' w' R' φ',Goes fo B0 w R φ s.H a w' R' φ' s' a'→Q ex.to a' w'):(Code.rangeFunc g1 ps1 assign body).wpIn (roF none) nn P Q a w:=by
 obtain⟨xs,cs,us,hval,hLR,hF,hall,hres⟩:∃ xs cs us,a.eval g1= .func (.func (fo ix)) #[] ⟨us⟩∧LRel R cs us∧F cs=some xs∧(∀ x∈xs,x.length=ps.length∧flatVs x=true)∧
  endR s.env (rangeA (fun x H=>evalC call b ⟨asgT asg (setPs ps x s.env),H⟩) xs s.H)=some (ex,s'):=by
  have hg:=ev_rel (R:=R) (φ:=φ) (H:=s.H) hE h1
  cases hv:rangeV ix F ps.length (g.ev s.env) with
  |none=>rw[hv] at h;cases h
  |some xs=>
   rw[hv] at h
   unfold rangeV at hv
   split at hv
   ·rename_i i caps he
    split at hv
    ·rename_i hi
     subst hi
     simp only[Option.bind_eq_some_iff] at hv
     obtain⟨cs,e1,ys,e2,e3⟩:=hv
     split at e3
     ·rename_i hall
      injection e3 with e3;subst e3
      rw[he] at hg
      generalize a.eval g1=vx at hg
      cases hg with
      |atom _ _ h=>exact h.elim
      |clo _ _ us hl=>
       refine⟨ys,cs,us,rfl,allPV_rel e1 hl,e2,fun x hx=> ?_,h⟩
       have:=List.all_eq_true.1 hall x hx
       simpa[okRow] using this
     ·cases e3
    ·cases hv
   ·cases hv
 obtain⟨f,hf⟩:∃ f,f=fun (x:List PV) (H:List AObj)=>evalC call b ⟨asgT asg (setPs ps x s.env),H⟩:=⟨_,rfl⟩
 rw[← hf] at hres
 obtain⟨H',hR,rfl⟩:∃ H',rangeA f xs s.H=some (ex,H')∧s'=⟨s.env,H'⟩:=by
  cases hr:rangeA f xs s.H with
  |none=>rw[hr] at hres;cases hres
  |some r=>
   rw[hr] at hres
   obtain⟨ex1,H1⟩:=r
   simp only[endR,Option.some.injEq,Prod.mk.injEq] at hres
   obtain⟨rfl,rfl⟩:=hres
   exact⟨H1,rfl,rfl⟩
 have hlow:=hS.low
 show (Code.rangeFunc g1 ps1 assign body).wpIn Fence.wide nn P Q a w
 refine wpIn_rangeFunc ?_
 intro fn _
 obtain⟨rec,hrec⟩:∃ rec:LoopState→Option Code→Loop,rec=fun st pe=>{state:=st,pending:=pe,fn,tmps:=a.tmps,params:=ps1,assign,body,defers:=w.heap.size}:=⟨_,rfl⟩
 obtain⟨W1,hW1⟩:∃ W1,(w.alloc (.deferred (some []))).alloc (.loop (rec .ready none))=W1:=⟨_,rfl⟩
 have hL1:W1.heap[w.heap.size+1]? =some (.loop (rec .ready none)):=by
  rw[← hW1];have:=World.alloc_heap_new (w.alloc (.deferred (some []))) (.loop (rec .ready none));rwa [World.size_alloc] at this
 have hK1:W1.heap[w.heap.size]? =some (.deferred (some [])):=by
  rw[← hW1];exact (RowKit.Below.heap_alloc _ _ _ (by simp)).trans (World.alloc_heap_new w _)
 have hb1:RowKit.Below w.heap.size w W1:=by
  rw[← hW1];exact (((RowKit.Below.refl _ w).alloc (Nat.le_refl _) _).alloc (by simp) _)
 have hseq:∀ v:Array Value,v= #[.func (.yield (w.heap.size+1)) #[] #[]]→v++(⟨us⟩:Array Value)=⟨.func (.yield (w.heap.size+1)) #[] #[]::us⟩:=by
  intro v hv;subst hv;apply Array.ext';simp
 refine⟨w.heap.size+1,[mark w.heap.size],W1,{target:= .fn (.func (fo ix)) ⟨us⟩,args:= #[.func (.yield (w.heap.size+1)) #[] #[]]},W1,fo ix,
  ⟨.func (.yield (w.heap.size+1)) #[] #[]::us⟩,W1,?_,?_,fun _ _=>trivial,?_,(fun h=>by cases h),callsIn_wide.2 ?_⟩
 ·rw[← hW1,hrec];exact run_enterLoop_outer _ _ _ _ _
 ·simp only[resolve,hval]
  simp[go_sem]
 ·rw[← hseq _ rfl];exact run_invoke hit.call _
 ·
  have hslt:=hS.slt
  refine (hit.go cs us xs hF (fun x hx=>(hall x hx).2) R (w.heap.size+1)
   (fun i T A=>∃ H R' φ',rangeA f (xs.take i) s.H=some (.norm,H)∧SRel fo (B0.and T) A R' φ' H∧(∀ x u,K R φ s.H x u→K R' φ' H x u)∧Belo B0 w A∧A.heap[w.heap.size+1]? =some (.loop (rec .ready none))∧A.heap[w.heap.size]? =some (.deferred (some []))∧∀ k,T k→w.heap.size+2≤k)
   (fun A=>∃ R' φ',ex≠ .norm∧SRel fo B0 A R' φ' H'∧(∀ x u,K R φ s.H x u→K R' φ' H' x u)∧Belo B0 w A∧A.heap[w.heap.size+1]? =some (.loop (rec .done (some ex.code)))∧A.heap[w.heap.size]? =some (.deferred (some [])))
   W1 hLR (hS.later hb1).sub ?_ ?_ ?_ ?_ ?_).mono ?_
  ·rintro i T A B T' ⟨H,R',φ',j1,j2,j3,j4,j5,j6,j7⟩ hb ht
   refine⟨H,R',φ',j1,j2.grow hb ht,j3,j4.later hlow hslt hb,by rw[hb.block _ (heap_lt j5)];exact j5,by rw[hb.block _ (heap_lt j6)];exact j6,fun k hk=> ?_⟩
   rcases ht k hk with h | h
   ·exact j7 k h
   ·have:=heap_lt j5
    omega
  ·rintro A B ⟨R',φ',j1,j2,j3,j4,j5,j6⟩ hb
   exact⟨R',φ',j1,j2.later hb,j3,j4.later hlow hslt hb,by rw[hb.block _ (heap_lt j5)];exact j5,by rw[hb.block _ (heap_lt j6)];exact j6⟩
  ·rintro i T A ⟨H,R',φ',j1,j2,j3,j4,j5,j6,j7⟩
   exact⟨R',j2.sub,fun p v h=>j3 (.pv p) v h⟩
  ·
   rintro i x T A hx ⟨H,R',φ',j1,j2,j3,j4,j5,j6,j7⟩
   obtain⟨hlen,hfl⟩:=hall x (List.mem_of_getElem? hx)
   have hspl:xs=xs.take i++x::xs.drop (i+1):=by
    have hlt:=getElem?_lt hx
    rw[List.getElem?_eq_getElem hlt] at hx
    injection hx with hx
    rw[← hx,←List.drop_eq_getElem_cons hlt,List.take_append_drop]
   have hgo:rangeA f (x::xs.drop (i+1)) H=some (ex,H'):=by
    rw[← range_split f _ _ j1,←hspl];exact hR
   simp only[rangeA] at hgo
   have hsz:(encVs x).length=ps.length:=by
    rw[← hlen]
    clear hgo hspl hx hfl hlen
    induction x with
    |nil=>rfl
    |cons y ys ih=>simp[encVs,ih]
   have hp1:ps1.size=ps.length:=by rw[← h2];simp
   have hy:=run_yield (P:=P) (args:=⟨encVs x⟩) j5 (by rw[hrec];simp[hsz,hp1])
   rw[hrec] at hy
   refine⟨_,_,_,_,hy,roundIn_of_wpIn (F:=Fence.wide) trivial ?_⟩
   clear hy
   have hzip:(ps1.zip (⟨encVs x⟩:Array Value)).foldl (fun t (p,v)=>t.setIfInBounds p v) a.tmps=(ps.zip (encVs x)).foldl (fun t (p,v)=>t.setIfInBounds p v) a.tmps:=by
    rw[← Array.foldl_toList,Array.toList_zip,h2]
   have hE1:ERel fo (K R' φ' H) s.env {tmps:=a.tmps,defers:=[]}:=fun t=>(hE t).mono j3
   obtain⟨hE2,hn2⟩:=setPs_rel (fo:=fo) (k:=K R' φ' H) (fun p v hp=>hp R') ps x hE1 hn h3 hfl
   show Code.wpIn (roF (some (w.heap.size+1))) 0 P assign _ _ _
   dsimp only
   rw[hzip]
   refine asg_sim (fo:=fo) (k:=K R' φ' H) h4 hE2 hn2 fun a1 hE3 hn3=> ?_
   refine⟨_,run_beginRound j5 (by rw[hrec]),?_⟩
   have hlt:w.heap.size+1 < A.heap.size:=heap_lt j5
   have hl2:(A.putObj (w.heap.size+1) (.loop {rec .ready none with state:= .busy})).heap[w.heap.size+1]? =some (.loop {rec .ready none with state:= .busy}):=World.putObj_heap_same hlt
   have hk2:(A.putObj (w.heap.size+1) (.loop {rec .ready none with state:= .busy})).heap[w.heap.size]? =some (.deferred (some [])):=(World.putObj_heap_other (by omega)).trans j6
   have hS2:=(j2.putO j5 rfl (.loop {rec .ready none with state:= .busy}))
   have hb2:=j4.put hlow hslt (Nat.le_succ _) (.loop {rec .ready none with state:= .busy})
   have hT2:∀ k,T k→(A.putObj (w.heap.size+1) (.loop {rec .ready none with state:= .busy})).heap[k]? =A.heap[k]? :=fun k hk=>World.putObj_heap_other (by have:=j7 k hk;omega)
   generalize A.putObj (w.heap.size+1) (.loop {rec .ready none with state:= .busy})=A2 at *
   cases hfx:f x H with
   |none=>rw[hfx] at hgo;cases hgo
   |some r=>
    obtain⟨ex1,s1⟩:=r
    rw[hfx] at hgo
    have hev:evalC call b ⟨asgT asg (setPs ps x s.env),H⟩=some (ex1,s1):=by rw[hf] at hfx;exact hfx
    refine hbody _ hS2 hE3 hn3 hev fun a3 W3 R3 φ3 gg=> ?_
    have hl3:=gg.below.keep _ _ hl2 rfl
    have hk3:=gg.below.keep _ _ hk2 rfl
    have hS4:=gg.rel
    have hb3:=hb2.trans gg.below.weaken
    have hlt3:=heap_lt hl3
    have hT3:∀ k,T k→W3.heap[k]? =A.heap[k]? :=fun k hk=>(gg.below.held k (.inr hk)).trans (hT2 k hk)
    have hmono:∀ x u,K R φ s.H x u→K R3 φ3 s1.H x u:=fun x u hx=>gg.mono _ _ (j3 x u hx)
    have fin:∀ (jump:Option Code),(Instr.endRound (w.heap.size+1) jump).run P W3= .ok (.bool jump.isNone) (W3.putObj (w.heap.size+1) (.loop (rec (if jump.isNone then .ready else .done) jump)))∧
     SRel fo (B0.and T) (W3.putObj (w.heap.size+1) (.loop (rec (if jump.isNone then .ready else .done) jump))) R3 φ3 s1.H∧Belo B0 w (W3.putObj (w.heap.size+1) (.loop (rec (if jump.isNone then .ready else .done) jump)))∧
     (W3.putObj (w.heap.size+1) (.loop (rec (if jump.isNone then .ready else .done) jump))).heap[w.heap.size+1]? =some (.loop (rec (if jump.isNone then .ready else .done) jump))∧
     (W3.putObj (w.heap.size+1) (.loop (rec (if jump.isNone then .ready else .done) jump))).heap[w.heap.size]? =some (.deferred (some []))∧
     ∀ k,T k→(W3.putObj (w.heap.size+1) (.loop (rec (if jump.isNone then .ready else .done) jump))).heap[k]? =A.heap[k]? :=fun jump=>by
     have:=run_endRound (P:=P) jump hl3
     rw[hrec] at this
     refine⟨?_,hS4.putO hl3 rfl _,hb3.put hlow hslt (Nat.le_succ _) _,World.putObj_heap_same hlt3,(World.putObj_heap_other (by omega)).trans hk3,fun k hk=>(World.putObj_heap_other (by have:=j7 k hk;omega)).trans (hT3 k hk)⟩
     rw[hrec];exact this
    have jump:ex1≠ .norm→∃ v w',(Instr.endRound (w.heap.size+1) (some ex1.code)).run P W3= .ok v w'∧((Ending.returned v= .returned (.bool true)∧(∃ H R' φ',rangeA f (xs.take (i+1)) s.H=some (.norm,H)∧SRel fo (B0.and T) w' R' φ' H∧(∀ x u,K R φ s.H x u→K R' φ' H x u)∧Belo B0 w w'∧w'.heap[w.heap.size+1]? =some (.loop (rec .ready none))∧w'.heap[w.heap.size]? =some (.deferred (some []))∧∀ k,T k→w.heap.size+2≤k)∧∀ k,T k→w'.heap[k]? =A.heap[k]?)∨
     (Ending.returned v= .returned (.bool false)∧∃ R' φ',ex≠ .norm∧SRel fo B0 w' R' φ' H'∧(∀ x u,K R φ s.H x u→K R' φ' H' x u)∧Belo B0 w w'∧w'.heap[w.heap.size+1]? =some (.loop (rec .done (some ex.code)))∧w'.heap[w.heap.size]? =some (.deferred (some [])))):=by
     intro hne
     have hr:=step_jump hne hgo
     injection hr with hr1 hr2
     subst hr1 hr2
     obtain⟨q1,q2,q3,q4,q5,_⟩:=fin (some ex.code)
     exact⟨_,_,q1,.inr ⟨rfl,R3,φ3,hne,q2.weaken,hmono,q3,q4,q5⟩⟩
    cases ex1 with
    |norm=>
     obtain⟨q1,q2,q3,q4,q5,q6⟩:=fin none
     refine⟨_,_,q1,.inl ⟨rfl,⟨s1.H,R3,φ3,?_,q2,hmono,q3,q4,q5,j7⟩,q6⟩⟩
     have:xs.take (i+1)=xs.take i++[x]:=by rw[List.take_add_one,hx];rfl
     rw[this,range_split f _ _ j1]
     simp only[rangeA,hfx,stepR]
    |ret=>exact jump (by simp)
    |exit id=>exact jump (by simp)
  ·refine⟨s.H,R,φ,rfl,?_,fun _ _ h=>h,.of_all hb1 hlow hslt,hL1,hK1,fun _ h=>h.elim⟩
   have:=hS.later hb1
   exact⟨this.low,this.sub,fun id o ho=>by have:=this.obj id o ho;cases o <;> exact this,this.inj,this.old,fun k hk=>hk.elim (this.slt k) (fun h=>h.elim),fun i hi hs=>hs.elim (this.free i hi) (fun h=>h.elim)⟩
  ·
   have env:∀ {R':Rd} {φ':Pl} {A:World},(∀ x u,K R φ s.H x u→K R' φ' H' x u)→SRel fo B0 A R' φ' H'→Belo B0 w A→(∀ o':Obj,(A.putObj (w.heap.size+1) o').heap[w.heap.size]? =some (.deferred (some [])))→∀ (o:Obj) (_:A.heap[w.heap.size+1]? =some o) (_:isLD o=true) (o':Obj),
    Goes fo B0 w R φ s.H a (A.putObj (w.heap.size+1) o') R' φ' ⟨s.env,H'⟩ {a with defers:=[mark w.heap.size]++a.defers}:=fun hm hs hb hd o ho hk o'=>
    ⟨hs.putO ho hk o',fun t=>(hE t).mono hm,hm,hb.put hlow hslt (Nat.le_succ _) o',rfl,[w.heap.size],rfl,by simp,fun D hD=>by rw[List.mem_singleton] at hD;subst hD;exact⟨Nat.le_refl _,hd o'⟩⟩
   rintro e B ⟨⟨v,rfl⟩,(⟨T,H,R',φ',j1,j2,j3,j4,j5,j6,_⟩ | ⟨R',φ',j1,j2,j3,j4,j5,j6⟩)⟩
   ·rw[List.take_length,hR] at j1
    injection j1 with j1
    injection j1 with j0 j1
    subst j0 j1
    refine⟨none,_,by have:=run_endLoop (P:=P) j5 (by rw[hrec];simp);rw[hrec] at this;exact this,?_⟩
    exact hq _ _ _ _ (env j3 j2.weaken j4 (fun o'=>(World.putObj_heap_other (by omega)).trans j6) _ j5 rfl _)
   ·refine⟨some ex.code,_,by have:=run_endLoop (P:=P) j5 (by rw[hrec];simp);rw[hrec] at this;exact this,?_⟩
    have hz:=fun o'=>hq _ _ _ _ (env j3 j2 j4 (fun o'=>(World.putObj_heap_other (by omega)).trans j6) _ j5 rfl o')
    cases ex with
    |norm=>exact absurd rfl j1
    |exit id=>exact wpIn_exit (hz _)
    |ret=>exact wpIn_ret (hz _)
theorem code_sim {nt:Nat} (hc:∀ B0:Base,CallOk P fo B0 call):∀ (ac:ACode) (c:Code),okCode P fo nt c ac=true→(∀ d∈duties c ac,PureFn P d.1 d.2)→(∀ d∈dutiesI ac,IterFn P (fo d.1) d.2)→
 ∀ (ro:Option Nat) (nn:Nat),(ro=none∨ac.plain=true)→∀ {B0:Base} {w:World} {R:Rd} {φ:Pl} {s s':St} {ex:Ex} {a:Act} {Q:Exit→Act→World→Prop},SRel fo B0 w R φ s.H→ERel fo (K R φ s.H) s.env a→a.tmps.size=nt→evalC call ac s=some (ex,s')→
 (∀ a' w' R' φ',Goes fo B0 w R φ s.H a w' R' φ' s' a'→Q ex.to a' w')→c.wpIn (roF ro) nn P Q a w:=by
 intro ac
 induction ac with
 |skip=>
  intro c hok hd hI ro nn hpl B0 w R φ s s' ex a Q hS hE hn h hq
  cases c <;> simp[okCode] at hok
  ·simp only[evalC,Option.some.injEq,Prod.mk.injEq] at h
   obtain⟨rfl,rfl⟩:=h
   exact wpIn_skip (hq _ _ R φ (.refl hS hE))
  ·simp only[evalC,Option.some.injEq,Prod.mk.injEq] at h
   obtain⟨rfl,rfl⟩:=h
   exact wpIn_label (hq _ _ R φ (.refl hS hE))
 |scope b ihb=>
  intro c hok hd hI ro nn hpl B0 w R φ s s' ex a Q hS hE hn h hq
  cases c with
  |scope c1=>
   simp only[okCode] at hok
   simp only[evalC] at h
   obtain rfl:=hpl.resolve_right (by simp[ACode.plain])
   refine wpIn_wide.2 (wp_scope_straight (wpIn_wide.1 (ihb c1 hok hd hI none nn (.inl rfl) hS hE hn h fun a' w' R' φ' g=> ?_)))
   have:=hq _ _ _ _ g
   cases ex <;> exact this
  |_=>simp[okCode] at hok
 |region aops=>
  intro c hok hd hI ro nn hpl B0 w R φ s s' ex a Q hS hE hn h hq
  cases c with
  |region id ops draw=>
   simp only[okCode,Bool.and_eq_true,Bool.or_eq_true,Bool.not_eq_true'] at hok
   have hs:=slots_of (hc B0) hok.1 hd
   simp only[evalC] at h
   cases ho:evalOps call aops s with
   |none=>simp[ho,normA] at h
   |some s1=>
    simp only[ho,normA,Option.some.injEq,Prod.mk.injEq] at h
    obtain⟨rfl,rfl⟩:=h
    cases draw with
    |false=>exact region_sim ro hs hS hE hn ho hq
    |true=>
     rcases hok.2 with h | h
     ·cases h
     ·exact region_draw ro h.1 hs h.2 hS hE hn ho hq
  |_=>simp[okCode] at hok
 |seq x y ihx ihy=>
  intro c hok hd hI ro nn hpl B0 w R φ s s' ex a Q hS hE hn h hq
  cases c with
  |seq a1 b1=>
   simp only[okCode,Bool.and_eq_true] at hok
   simp only[evalC] at h
   have hd1:∀ d∈duties a1 x,PureFn P d.1 d.2:=fun d hd'=>hd d (by simp[duties,hd'])
   have hd2:∀ d∈duties b1 y,PureFn P d.1 d.2:=fun d hd'=>hd d (by simp[duties,hd'])
   have hI1:∀ d∈dutiesI x,IterFn P (fo d.1) d.2:=fun d hd'=>hI d (by simp[dutiesI,hd'])
   have hI2:∀ d∈dutiesI y,IterFn P (fo d.1) d.2:=fun d hd'=>hI d (by simp[dutiesI,hd'])
   have hp1:ro=none∨x.plain=true:=hpl.imp id fun h=>by simp only[ACode.plain,Bool.and_eq_true] at h;exact h.1
   have hp2:ro=none∨y.plain=true:=hpl.imp id fun h=>by simp only[ACode.plain,Bool.and_eq_true] at h;exact h.2
   refine wpIn_seq ?_
   rcases seqA_some h with⟨s1,h1,h2⟩ | ⟨h1,h2⟩
   ·refine ihx a1 hok.1 hd1 hI1 ro nn hp1 hS hE hn h1 fun a' w' R' φ' g=> ?_
    exact ihy b1 hok.2 hd2 hI2 ro nn hp2 g.rel g.env (g.size.trans hn) h2 fun a'' w'' R'' φ'' g'=>hq _ _ _ _ (g.trans g')
   ·refine ihx a1 hok.1 hd1 hI1 ro nn hp1 hS hE hn h1 fun a' w' R' φ' g=> ?_
    cases ex with
    |norm=>exact absurd rfl h2
    |exit id=>exact hq _ _ _ _ g
    |ret=>exact hq _ _ _ _ g
  |_=>simp[okCode] at hok
 |cond co x y ihx ihy=>
  intro c hok hd hI ro nn hpl B0 w R φ s s' ex a Q hS hE hn h hq
  cases c with
  |cond co1 a1 b1=>
   simp only[okCode,Bool.and_eq_true] at hok
   simp only[evalC] at h
   have hd1:∀ d∈duties a1 x,PureFn P d.1 d.2:=fun d hd'=>hd d (by simp[duties,hd'])
   have hd2:∀ d∈duties b1 y,PureFn P d.1 d.2:=fun d hd'=>hd d (by simp[duties,hd'])
   have hI1:∀ d∈dutiesI x,IterFn P (fo d.1) d.2:=fun d hd'=>hI d (by simp[dutiesI,hd'])
   have hI2:∀ d∈dutiesI y,IterFn P (fo d.1) d.2:=fun d hd'=>hI d (by simp[dutiesI,hd'])
   have hp1:ro=none∨x.plain=true:=hpl.imp id fun h=>by simp only[ACode.plain,Bool.and_eq_true] at h;exact h.1
   have hp2:ro=none∨y.plain=true:=hpl.imp id fun h=>by simp only[ACode.plain,Bool.and_eq_true] at h;exact h.2
   cases hb:asBool (co.ev s.env) with
   |none=>simp[hb,condA] at h
   |some b=>
    have hv:=asBool_rel (ev_rel (R:=R) (φ:=φ) (H:=s.H) hE hok.1.1) hb
    refine wpIn_cond hv ?_
    cases b with
    |true=>simp only[hb,condA] at h;exact ihx a1 hok.1.2 hd1 hI1 ro nn hp1 hS hE hn h hq
    |false=>simp only[hb,condA] at h;exact ihy b1 hok.2 hd2 hI2 ro nn hp2 hS hE hn h hq
  |_=>simp[okCode] at hok
 |block id b ih=>
  intro c hok hd hI ro nn hpl B0 w R φ s s' ex a Q hS hE hn h hq
  cases c with
  |block id1 b1=>
   simp only[okCode,Bool.and_eq_true,beq_iff_eq] at hok
   obtain⟨rfl,hok⟩:=hok
   simp only[evalC] at h
   refine wpIn_block ?_
   cases hb:evalC call b s with
   |none=>simp[hb,blockA] at h
   |some r=>
    obtain⟨ex1,s1⟩:=r
    refine ih b1 hok hd hI ro nn hpl hS hE hn hb fun a' w' R' φ' g=> ?_
    cases ex1 with
    |norm=>simp only[hb,blockA,Option.some.injEq,Prod.mk.injEq] at h;obtain⟨rfl,rfl⟩:=h;exact hq _ _ _ _ g
    |ret=>simp only[hb,blockA,Option.some.injEq,Prod.mk.injEq] at h;obtain⟨rfl,rfl⟩:=h;exact hq _ _ _ _ g
    |exit id2=>
     simp only[hb,blockA] at h
     show Exit.inBlock id1 Q (.exit id2) a' w'
     simp only[Exit.inBlock]
     split at h
     ·rename_i e
      simp only[Option.some.injEq,Prod.mk.injEq] at h;obtain⟨rfl,rfl⟩:=h
      rw[if_pos e];exact hq _ _ _ _ g
     ·rename_i e
      simp only[Option.some.injEq,Prod.mk.injEq] at h;obtain⟨rfl,rfl⟩:=h
      rw[if_neg e];exact hq _ _ _ _ g
  |_=>simp[okCode] at hok
 |loop live b ih=>
  intro c hok hd hI ro nn hpl B0 w R φ s s' ex a Q hS hE hn h hq
  cases c with
  |loop b1=>
   simp only[okCode] at hok
   simp only[evalC] at h
   obtain⟨s0,h0,h⟩:=startA_some h
   have g0:=clean_goes (Goes.refl hS hE) h0
   refine wpIn_loop_rounds rounds ?_
   have key:∀ (n:Nat) {w1:World} {R1:Rd} {φ1:Pl} {s1:St} {a1:Act},Goes fo B0 w R φ s.H a w1 R1 φ1 s1 a1→loopA (roundA (evalC call b) (clean s.H.length live)) n s1=some (ex,s')→Code.roundsIn (roF ro) nn P b1 Q n a1 w1:=by
    intro n
    induction n with
    |zero=>intro w1 R1 φ1 s1 a1 g hl;simp[loopA] at hl
    |succ n ihn=>
     intro w1 R1 φ1 s1 a1 g hl
     simp only[loopA] at hl
     rw[roundsIn_succ]
     rcases seqA_some hl with⟨s2,k1,k2⟩ | ⟨k1,k2⟩
     ·simp only[roundA] at k1
      rcases seqA_some k1 with⟨s3,j1,j2⟩ | ⟨j1,j2⟩
      ·refine ih b1 hok hd hI ro nn hpl g.rel g.env (g.size.trans hn) j1 fun a' w' R' φ' g'=> ?_
       cases hcl:clean s.H.length live s3 with
       |none=>simp[hcl,normA] at j2
       |some s4=>
        simp only[hcl,normA,Option.some.injEq,Prod.mk.injEq,true_and] at j2
        subst j2
        exact ihn (clean_goes (g.trans g') hcl) k2
      ·exact absurd rfl j2
     ·simp only[roundA] at k1
      rcases seqA_some k1 with⟨s3,j1,j2⟩ | ⟨j1,j2⟩
      ·cases hcl:clean s.H.length live s3 with
       |none=>simp[hcl,normA] at j2
       |some s4=>
        simp only[hcl,normA,Option.some.injEq,Prod.mk.injEq] at j2
        exact absurd j2.1.symm k2
      ·refine ih b1 hok hd hI ro nn hpl g.rel g.env (g.size.trans hn) j1 fun a' w' R' φ' g'=> ?_
       cases ex with
       |norm=>exact absurd rfl j2
       |exit id=>exact hq _ _ _ _ (g.trans g')
       |ret=>exact hq _ _ _ _ (g.trans g')
   exact key rounds g0 h
  |_=>simp[okCode] at hok
 |loopG live b ih=>
  intro c hok hd hI ro nn hpl B0 w R φ s s' ex a Q hS hE hn h hq
  cases c with
  |loop b1=>
   simp only[okCode] at hok
   simp only[evalC] at h
   have g0:=tidy_goes live (Goes.refl hS hE)
   refine wpIn_loop_rounds rounds ?_
   have key:∀ (n:Nat) {w1:World} {R1:Rd} {φ1:Pl} {s1:St} {a1:Act},Goes fo B0 w R φ s.H a w1 R1 φ1 s1 a1→loopA (roundA (evalC call b) (fun s=>some (tidy live s))) n s1=some (ex,s')→Code.roundsIn (roF ro) nn P b1 Q n a1 w1:=by
    intro n
    induction n with
    |zero=>intro w1 R1 φ1 s1 a1 g hl;simp[loopA] at hl
    |succ n ihn=>
     intro w1 R1 φ1 s1 a1 g hl
     simp only[loopA] at hl
     rw[roundsIn_succ]
     rcases seqA_some hl with⟨s2,k1,k2⟩ | ⟨k1,k2⟩
     ·simp only[roundA] at k1
      rcases seqA_some k1 with⟨s3,j1,j2⟩ | ⟨j1,j2⟩
      ·refine ih b1 hok hd hI ro nn hpl g.rel g.env (g.size.trans hn) j1 fun a' w' R' φ' g'=> ?_
       simp only[normA,Option.some.injEq,Prod.mk.injEq,true_and] at j2
       subst j2
       exact ihn (tidy_goes live (g.trans g')) k2
      ·exact absurd rfl j2
     ·simp only[roundA] at k1
      rcases seqA_some k1 with⟨s3,j1,j2⟩ | ⟨j1,j2⟩
      ·simp only[normA,Option.some.injEq,Prod.mk.injEq] at j2
       exact absurd j2.1.symm k2
      ·refine ih b1 hok hd hI ro nn hpl g.rel g.env (g.size.trans hn) j1 fun a' w' R' φ' g'=> ?_
       cases ex with
       |norm=>exact absurd rfl j2
       |exit id=>exact hq _ _ _ _ (g.trans g')
       |ret=>exact hq _ _ _ _ (g.trans g')
   exact key rounds g0 h
  |_=>simp[okCode] at hok
 |exit id=>
  intro c hok hd hI ro nn hpl B0 w R φ s s' ex a Q hS hE hn h hq
  cases c with
  |exit id1=>
   simp only[okCode,beq_iff_eq] at hok
   subst hok
   simp only[evalC,Option.some.injEq,Prod.mk.injEq] at h
   obtain⟨rfl,rfl⟩:=h
   exact wpIn_exit (hq _ _ R φ (.refl hS hE))
  |_=>simp[okCode] at hok
 |ret=>
  intro c hok hd hI ro nn hpl B0 w R φ s s' ex a Q hS hE hn h hq
  cases c with
  |ret=>
   simp only[evalC,Option.some.injEq,Prod.mk.injEq] at h
   obtain⟨rfl,rfl⟩:=h
   exact wpIn_ret (hq _ _ R φ (.refl hS hE))
  |_=>simp[okCode] at hok
 |ghost g b ih=>
  intro c hok hd hI ro nn hpl B0 w R φ s s' ex a Q hS hE hn h hq
  have hok':okCode P fo nt c b=true:=by cases c <;> simpa[okCode] using hok
  have hd':∀ d∈duties c b,PureFn P d.1 d.2:=by cases c <;> simpa[duties] using hd
  simp only[evalC] at h
  obtain⟨s0,h0,h⟩:=startA_some h
  obtain⟨R',φ',g0⟩:=ghost_sim hS hE h0
  exact ih c hok' hd' hI ro nn hpl g0.rel g0.env hn h fun a' w' R'' φ'' g'=>hq _ _ _ _ (g0.trans g')
 |range ix F g ps asg b ih=>
  intro c hok hd hI ro nn hpl B0 w R φ s s' ex a Q hS hE hn h hq
  cases c with
  |rangeFunc g1 ps1 assign body=>
   obtain rfl:=hpl.resolve_right (by simp[ACode.plain])
   simp only[okCode,Bool.and_eq_true,beq_iff_eq] at hok
   obtain⟨⟨⟨⟨⟨h1,h2⟩,h3⟩,h4⟩,h5⟩,h6⟩:=hok
   simp only[evalC] at h
   exact range_sim h1 h2 h3 h4 (hI (ix,F) (by simp[dutiesI])) (fun l _ _ _ _ _ _ _ _ _ hS hE hn h hq=>ih body h5 hd (fun d hd'=>hI d (by simp[dutiesI,hd'])) (some l) 0 (.inr h6) hS hE hn h hq) hS hE hn h hq
  |_=>simp[okCode] at hok
end
end Go.AM
set_option linter.unusedSimpArgs false
set_option linter.unusedVariables false
namespace Go.AM
open Go.RowKit
def okRes (P:Program):List ResultVar→List ARes→Bool
 | [],[]=>true
 | .tmp t::r,.tmp t'::r'=>t==t'&&okRes P r r'
 | .cell a ty::r,.cell t ag n::r'=>a==t&&aggP P ty==some ag&&(!ag||sizeP P ty==some n)&&okRes P r r'
 |_,_=>false
def okFunc (P:Program) (fo:Nat→FuncId) (g:Func) (af:AFn):Bool:=
 (match g.body with
 |some c=>okCode P fo g.ntmps c af.body
 |none=>false)&&okRes P g.results.toList af.results&& !(g.name== "runtime.NumGoroutine")&&decide (af.np≤g.ntmps)
def dutiesF (g:Func) (af:AFn):List (FuncId×(List PV→Option PV)):=
 match g.body with
 |some c=>duties c af.body
 |none=>[]
def FnOk (P:Program) (fo:Nat→FuncId) (f:FuncId) (af:AFn):Prop:=
 ∃ g,P.funcs[f]? =some g∧okFunc P fo g af=true∧(∀ d∈dutiesF g af,PureFn P d.1 d.2)∧∀ d∈dutiesI af.body,IterFn P (fo d.1) d.2
def TableOk (P:Program) (fo:Nat→FuncId) (L:Nat→Option AFn):Prop:=∀ ix af,L ix=some af→FnOk P fo (fo ix) af
section
variable {P:Program} {fo:Nat→FuncId} {B0:Base} {call:CallF}
theorem argEnv_get:∀ (args:List AV) (i t:Nat),(argEnv i args).get t=(if i≤t then args[t - i]? else none).getD .undef:=by
 intro args
 induction args with
 |nil=>intro i t;simp[argEnv,Tr.get]
 |cons v r ih=>
  intro i t
  simp only[argEnv,Tr.get_set,ih]
  by_cases h:t=i
  ·subst h;simp
  ·by_cases h2:i≤t
   ·rw[if_neg h,if_pos h2,if_pos (by omega)]
    have:t - i=(t - (i+1))+1:=by omega
    rw[this];simp
   ·rw[if_neg h,if_neg h2,if_neg (by omega)]
theorem argEnv_rel {k:AV→Value→Prop} {args:List AV} {vs:List Value} (h:ALRel fo k args vs) (n:Nat):ERel fo k (argEnv 0 args) {tmps:=⟨vs⟩++Array.replicate n undef,defers:=[]}:=by
 intro t
 rw[argEnv_get]
 simp only[Nat.zero_le,if_true,Nat.sub_zero]
 cases ha:args[t]? with
 |none=>exact .undef _
 |some a=>
  obtain⟨v,hv,hr⟩:=h.get ha
  have hlt:=getElem?_lt hv
  rw[Array.getD_eq_getD_getElem?,Array.getElem?_append_left (by simpa using hlt)]
  simpa[hv] using hr
theorem loadAt_inv {t:TypeId} {vx v:Value} {w w':World} (h:(Instr.loadAt t vx).run P w= .ok v w'):∃ a,vx= .pointer (some a):=by
 cases vx with
 |pointer a=>
  cases a with
  |none=>simp[Instr.loadAt,Instr.sureAddr] at h
  |some a=>exact⟨a,rfl⟩
 |_=>simp[Instr.loadAt,Instr.sureAddr] at h
def resM (tmps:Array Value):ResultVar→Sem Value
 | .tmp t=>pure (tmps.getD t undef)
 | .cell a t=>do loadVar t (← asAddr (tmps.getD a undef))
theorem resM_tmp (tmps:Array Value) (t:Tmp) (w:World):(resM tmps (.tmp t)).run P w= .ok (tmps.getD t undef) w:=by simp only[resM,Sem.run_pure]
theorem res_sim {w:World} {R:Rd} {φ:Pl} {s:St} {a:Act} (hS:SRel fo B0 w R φ s.H) (hE:ERel fo (K R φ s.H) s.env a):∀ {rs:List ResultVar} {ars:List ARes} {vs:List AV},okRes P rs ars=true→mapO (resA s) ars=some vs→
 ∃ us,(rs.mapM (resM a.tmps):Sem (List Value)).run P w= .ok us w∧ALRel fo (K R φ s.H) vs us:=by
 intro rs
 induction rs with
 |nil=>
  intro ars vs hok h
  cases ars with
  |nil=>simp only[mapO,Option.some.injEq] at h;subst h;exact⟨[],by simp,.nil⟩
  |cons _ _=>simp[okRes] at hok
 |cons r rs ih=>
  intro ars vs hok h
  cases ars with
  |nil=>cases r <;> simp[okRes] at hok
  |cons ar ars=>
   simp only[mapO,Option.bind_eq_some_iff,Option.some.injEq] at h
   obtain⟨b,h1,bs,h2,rfl⟩:=h
   cases r with
   |tmp t=>
    cases ar with
    |tmp t'=>
     simp only[okRes,Bool.and_eq_true,beq_iff_eq] at hok
     obtain⟨rfl,hok⟩:=hok
     obtain⟨us,k1,k2⟩:=ih hok h2
     simp only[resA,Option.some.injEq] at h1
     subst h1
     exact⟨_::us,by simp only[List.mapM_cons,Sem.run_bind,resM_tmp,Result.andThen_ok,k1,Sem.run_pure],.cons _ _ _ _ (hE t) k2⟩
    |cell _ _ _=>simp[okRes] at hok
   |cell x ty=>
    cases ar with
    |tmp t'=>simp[okRes] at hok
    |cell t ag n=>
     simp only[okRes,Bool.and_eq_true,beq_iff_eq,Bool.or_eq_true,Bool.not_eq_true'] at hok
     obtain⟨⟨⟨rfl,ha⟩,hn⟩,hok⟩:=hok
     obtain⟨us,k1,k2⟩:=ih hok h2
     simp only[resA] at h1
     obtain⟨v,q1,q2⟩:=load_sim (P:=P) hS (hE x) ha (fun e=>by rcases hn with hn | hn;rw[e] at hn;cases hn;exact hn) h1
     obtain⟨ad,hv⟩:=loadAt_inv q1
     rw[hv] at q1
     have q1':(loadVar ty ad).run P w= .ok v w:=by simpa[Instr.loadAt,Instr.sureAddr] using q1
     have q3:(resM a.tmps (.cell x ty)).run P w= .ok v w:=by simp only[resM,hv];simp[asAddr,q1']
     exact⟨v::us,by simp only[List.mapM_cons,Sem.run_bind,q3,Result.andThen_ok,k1,Sem.run_pure],.cons _ _ _ _ q2 k2⟩
theorem results_sim {g:Func} {f:AFn} {w:World} {R:Rd} {φ:Pl} {s:St} {a:Act} (hS:SRel fo B0 w R φ s.H) (hE:ERel fo (K R φ s.H) s.env a) (hok:okRes P g.results.toList f.results=true) {v:AV} (h:retA f s=some v):
 ∃ u,(results g a.tmps).run P w= .ok u w∧ARel fo (K R φ s.H) v u:=by
 simp only[retA,Option.map_eq_some_iff] at h
 obtain⟨vs,h1,rfl⟩:=h
 obtain⟨us,k1,k2⟩:=res_sim hS hE hok h1
 have hrun:(results g a.tmps).run P w= .ok (if h:us.length=1 then us[0] else .tuple ⟨us⟩) w:=by
  have:results g a.tmps=(do let vs ←g.results.mapM (resM a.tmps);pure (if h:vs.size=1 then vs[0] else .tuple vs)):=rfl
  rw[this,Array.mapM_eq_mapM_toList]
  simp only[Sem.run_bind,Sem.run_map,k1,Result.andThen_ok,Sem.run_pure]
  simp
 refine⟨_,hrun,?_⟩
 cases k2 with
 |nil=>exact mkTup_rel .nil
 |cons x xs u us hx hxs=>
  cases hxs with
  |nil=>simpa[one1] using hx
  |cons y ys z zs hy hys=>
   have:one1 (x::y::ys)=mkTup (x::y::ys):=rfl
   rw[this]
   simpa using mkTup_rel (.cons _ _ _ _ hx (.cons _ _ _ _ hy hys))
theorem FnOk.callable {f:FuncId} {af:AFn} (h:FnOk P fo f af):Callable P f:=by
 obtain⟨g,h1,h2,_,_⟩:=h
 simp only[okFunc,Bool.and_eq_true,Bool.not_eq_true'] at h2
 cases hb:g.body with
 |none=>simp[hb] at h2
 |some c=>exact⟨g,c,h1,hb,h2.1.2⟩
theorem fn_sim {f:FuncId} {af:AFn} (hf:FnOk P fo f af) (hc:∀ B0:Base,CallOk P fo B0 call) {args:List AV} {H H':List AObj} {v:AV} {w:World} {R:Rd} {φ:Pl} {vs:List Value} (hS:SRel fo B0 w R φ H) (hl:ALRel fo (K R φ H) args vs)
 (h:runF call af args H=some (v,H')):Calls P f ⟨vs⟩ w (Came fo B0 w R φ H v H'):=by
 obtain⟨g,h1,h2,h3,hI⟩:=hf
 simp only[okFunc,Bool.and_eq_true,Bool.not_eq_true',decide_eq_true_eq] at h2
 obtain⟨⟨⟨h4,h5⟩,h6⟩,h7⟩:=h2
 cases hb:g.body with
 |none=>simp[hb] at h4
 |some c=>
  simp only[hb] at h4
  simp only[dutiesF,hb] at h3
  unfold runF at h
  split at h
  ·rename_i hnp
   cases he:evalC call af.body ⟨argEnv 0 args,H⟩ with
   |none=>simp[he,outA] at h
   |some r=>
    obtain⟨ex,s⟩:=r
    refine (callsIn_wide (n:=0)).1 (callsIn_of_wp_marks h1 hb trivial ?_)
    have hlen:=hl.length
    refine code_sim hc af.body c h4 h3 hI none 0 (.inl rfl) (s:=⟨argEnv 0 args,H⟩) hS (argEnv_rel hl _) (by simp;omega) he fun a' w' R' φ' gg=> ?_
    have fin:∀ (v:AV),retA af s=some v→∀ (Ds:List Nat) (W:World),(∀ D∈Ds,w.heap.size≤D∧W.heap[D]? =some (.deferred (some [])))→Ds.Nodup→SRel fo B0 W R' φ' s.H→Belo B0 w W→
     LeavesInM Fence.wide 0 P g a'.tmps (Came fo B0 w R φ H v s.H) (Ds.map mark) .returning W:=by
     intro v hv Ds
     induction Ds with
     |nil=>
      intro W _ _ hSW hBW
      obtain⟨u,k1,k2⟩:=results_sim hSW gg.env h5 hv
      exact⟨u,k1,u,R',φ',rfl,hSW,k2,gg.mono,hBW⟩
     |cons D Ds ih=>
      intro W hD hnd hSW hBW
      obtain⟨hge,hWD⟩:=hD D (by simp)
      have hnd':=List.nodup_cons.1 hnd
      refine⟨by simp,.inl ⟨D,_,rfl,run_takeDeferred hWD,ih _ (fun E hE=> ?_) hnd'.2 (hSW.putO hWD rfl _) (hBW.put hS.low hS.slt hge _)⟩⟩
      obtain⟨q1,q2⟩:=hD E (by simp[hE])
      exact⟨q1,(World.putObj_heap_other (show E≠D from fun e=>hnd'.1 (by rw[← e];exact hE))).trans q2⟩
    have done:(retA af s).map (fun v=>(v,s.H))=some (v,H')→LeavesInM Fence.wide 0 P g a'.tmps (Came fo B0 w R φ H v H') a'.defers .returning w':=by
     intro hr
     simp only[Option.map_eq_some_iff,Prod.mk.injEq] at hr
     obtain⟨v1,hv1,rfl,rfl⟩:=hr
     obtain⟨Ds,e1,e2,e3⟩:=gg.defers
     rw[e1,show ∀ l:List Deferred,l++[]=l from List.append_nil]
     exact fin _ hv1 Ds w' e3 e2 gg.rel gg.below
    cases ex with
    |norm=>exact done (by simpa[he,outA] using h)
    |ret=>exact done (by simpa[he,outA] using h)
    |exit id=>simp[he,outA] at h
  ·cases h
theorem callL_ok {L:Nat→Option AFn} (hL:TableOk P fo L):∀ (d:Nat) (B0:Base),CallOk P fo B0 (callL L d):=by
 intro d
 induction d with
 |zero=>intro B0 ix args H v H' w R φ vs hS hl h;simp[callL] at h
 |succ d ih=>
  intro B0 ix args H v H' w R φ vs hS hl h
  simp only[callL,Option.bind_eq_some_iff] at h
  obtain⟨af,h1,h2⟩:=h
  have hf:=hL ix af h1
  exact⟨hf.callable,fn_sim hf ih hS hl h2⟩
theorem call_pure {call:CallF} (hc:∀ B0:Base,CallOk P fo B0 call) {f:FuncId} {af:AFn} (hf:FnOk P fo f af):PureFn P f fun args=>(runF call af (args.map .pv) []).bind fun r=>toPV r.2 deep r.1:=by
 refine⟨hf.callable,fun w R args vs r hR hl h=> ?_⟩
 simp only[Option.bind_eq_some_iff] at h
 obtain⟨⟨v,H'⟩,h1,h2⟩:=h
 have hS:SRel fo {n:=w.heap.size,R:=R} w R (fun _=>(0,0)) []:=
  ⟨Nat.le_refl _,hR,fun id o h=>by simp at h,fun i j hi=>by obtain⟨o,ho,_⟩:=hi;simp at ho,fun _ _ _=>rfl,fun _ h=>h.elim,fun _ _ h=>h⟩
 refine Calls.mono (fn_sim hf hc hS (ALRel.of_pv hl) h1) ?_
 rintro e w' ⟨u,R',φ',rfl,k1,k2,k3,k4⟩
 have hQ:Sub R' (fun b o=>if b < w.heap.size then R b o else w'.cell? ⟨b,o,none⟩):=by
  intro b o x hx
  (try dsimp only)
  split
  ·rename_i hlt;rw[← hx];exact (k1.old b o hlt).symm
  ·exact k1.sub b o x hx
 have k5:=toPV_sim k1 hQ (fun b o x hb hx=>by
  have hb:w.heap.size≤b:=hb
  (try dsimp only)
  rw[if_neg (by omega)];exact hx) deep k2 h2
 refine⟨u,_,rfl,k4.toBelow,k5,fun b o hlt=>if_pos hlt,fun b o x hx=> ?_⟩
 split at hx
 ·rename_i hlt
  rw[cell_heap (k4.block b hlt)];exact hR b o x hx
 ·exact hx
theorem pureF_ok {L:Nat→Option AFn} (hL:TableOk P fo L) {f:FuncId} {af:AFn} (hf:FnOk P fo f af):PureFn P f (pureF L af):=call_pure (callL_ok hL 8) hf
end
theorem fM {P:Program} {fo:Nat→FuncId} {i:FuncId} {g:Func} {af:AFn} {l:List (FuncId×(List PV→Option PV))} (h:P.funcs[i]? =some g) (hp:∀ d∈l,PureFn P d.1 d.2) (ok:okFunc P fo g af=true) (du:dutiesF g af=l) (di:dutiesI af.body=[]:=by rfl):FnOk P fo i af:=
 ⟨g,h,ok,by rw[du];exact hp,by rw[di];exact fun _ h=>by cases h⟩
theorem fMI {P:Program} {fo:Nat→FuncId} {i:FuncId} {g:Func} {af:AFn} {l:List (FuncId×(List PV→Option PV))} (h:P.funcs[i]? =some g) (hp:∀ d∈l,PureFn P d.1 d.2) (hi:∀ d∈dutiesI af.body,IterFn P (fo d.1) d.2) (ok:okFunc P fo g af=true) (du:dutiesF g af=l):FnOk P fo i af:=
 ⟨g,h,ok,by rw[du];exact hp,hi⟩
theorem dN {P:Program}:∀ d∈([]:List (FuncId×(List PV→Option PV))),PureFn P d.1 d.2:=fun _ h=>by cases h
theorem dC {P:Program} {a:FuncId} {F:List PV→Option PV} {l:List (FuncId×(List PV→Option PV))} (h:PureFn P a F) (r:∀ d∈l,PureFn P d.1 d.2):∀ d∈(a,F)::l,PureFn P d.1 d.2:=List.forall_mem_cons.2 ⟨h,r⟩
abbrev Cv (d n:Nat):AOper:=⟨some d,.move (.t n),none,false⟩
abbrev Co (d:Nat) (op:AOp):AOper:=⟨some d,op,none,false⟩
abbrev Cp (d:Nat) (op:AOp):AOper:=⟨some d,op,none,true⟩
abbrev Cg (d t:Nat) (b:Bool) (op:AOp):AOper:=⟨some d,op,some (t,b),false⟩
abbrev Cq (d t:Nat) (b:Bool) (op:AOp):AOper:=⟨some d,op,some (t,b),true⟩
abbrev Ce (op:AOp):AOper:=⟨none,op,none,false⟩
end Go.AM
set_option linter.unusedSimpArgs false
set_option linter.unusedVariables false
namespace Go.AM
section
variable {call:CallF}
theorem nextA_some (f:St→Option St) (s:St):nextA f (some s)=f s:=rfl
theorem seqA_norm (f:St→Option (Ex×St)) (s:St):seqA f (some (.norm,s))=f s:=rfl
theorem seqA_ret (f:St→Option (Ex×St)) (s:St):seqA f (some (.ret,s))=some (.ret,s):=rfl
theorem seqA_exit (f:St→Option (Ex×St)) (n:Nat) (s:St):seqA f (some (.exit n,s))=some (.exit n,s):=rfl
theorem normA_some (s:St):normA (some s)=some (.norm,s):=rfl
theorem condA_t (f g:St→Option (Ex×St)) (s:St):condA f g s (some true)=f s:=rfl
theorem condA_f (f g:St→Option (Ex×St)) (s:St):condA f g s (some false)=g s:=rfl
theorem startA_go (f:St→Option (Ex×St)) (s:St):startA f (some s)=f s:=rfl
theorem blockA_norm (n:Nat) (s:St):blockA n (some (.norm,s))=some (.norm,s):=rfl
theorem blockA_ret (n:Nat) (s:St):blockA n (some (.ret,s))=some (.ret,s):=rfl
theorem blockA_exit (n m:Nat) (s:St):blockA n (some (.exit m,s))=if m=n then some (.norm,s) else some (.exit m,s):=rfl
theorem putR_do (d:Nat) (e:Tr) (v:AV) (H:List AObj):putR (some d) e (some (v,H))=some ⟨e.set d v,H⟩:=rfl
theorem putR_no (e:Tr) (v:AV) (H:List AObj):putR none e (some (v,H))=some ⟨e,H⟩:=rfl
theorem C_skip (s:St):evalC call .skip s=some (.norm,s):=rfl
theorem C_region (ops:List AOper) (s:St):evalC call (.region ops) s=normA (evalOps call ops s):=rfl
theorem C_seq (a b:ACode) (s:St):evalC call (.seq a b) s=seqA (evalC call b) (evalC call a s):=rfl
theorem C_cond (c:AO) (a b:ACode) (s:St):evalC call (.cond c a b) s=condA (evalC call a) (evalC call b) s (asBool (c.ev s.env)):=rfl
theorem C_block (n:Nat) (b:ACode) (s:St):evalC call (.block n b) s=blockA n (evalC call b s):=rfl
theorem C_scope (b:ACode) (s:St):evalC call (.scope b) s=evalC call b s:=rfl
theorem C_loop (live:List Nat) (b:ACode) (s:St):evalC call (.loop live b) s=startA (loopA (roundA (evalC call b) (clean s.H.length live)) rounds) (clean s.H.length live s):=rfl
theorem C_loopG (live:List Nat) (b:ACode) (s:St):evalC call (.loopG live b) s=loopA (roundA (evalC call b) (fun s=>some (tidy live s))) rounds (tidy live s):=rfl
theorem C_exit (n:Nat) (s:St):evalC call (.exit n) s=some (.exit n,s):=rfl
theorem C_ret (s:St):evalC call .ret s=some (.ret,s):=rfl
theorem C_ghost (g:Ghost) (c:ACode) (s:St):evalC call (.ghost g c) s=startA (evalC call c) (ghostA g s):=rfl
theorem C_range (ix:Nat) (F:List PV→Option (List (List PV))) (g:AO) (ps:List Nat) (asg:List (Nat×Nat)) (b:ACode) (s:St):evalC call (.range ix F g ps asg b) s=rangeB (fun e H=>evalC call b ⟨e,H⟩) ps asg s (rangeV ix F ps.length (g.ev s.env)):=rfl
theorem ops_nil (s:St):evalOps call [] s=some s:=rfl
theorem ops_cons (o:AOper) (r:List AOper) (s:St):evalOps call (o::r) s=nextA (evalOps call r) (evalOper call o s):=rfl
theorem oper_go (d:Option Nat) (op:AOp) (e:Tr) (H:List AObj):evalOper call ⟨d,op,none,false⟩ ⟨e,H⟩=putR d e (evalOp call e H op):=rfl
theorem oper_pr (d:Option Nat) (op:AOp) (e:Tr) (H:List AObj):evalOper call ⟨d,op,none,true⟩ ⟨e,H⟩=putR d e (onH H (evalOp call e [] op)):=rfl
theorem oper_if (d:Option Nat) (op:AOp) (t:Nat) (b p:Bool) (e:Tr) (H:List AObj):evalOper call ⟨d,op,some (t,b),p⟩ ⟨e,H⟩=guardA (doOp call ⟨d,op,some (t,b),p⟩) (skipOp ⟨d,op,some (t,b),p⟩) ⟨e,H⟩ (wantedA e (some (t,b))):=rfl
theorem guard_t (f g:St→Option St) (s:St):guardA f g s (some true)=f s:=rfl
theorem guard_f (f g:St→Option St) (s:St):guardA f g s (some false)=g s:=rfl
theorem do_go (d:Option Nat) (op:AOp) (g:Option (Nat×Bool)) (e:Tr) (H:List AObj):doOp call ⟨d,op,g,false⟩ ⟨e,H⟩=putR d e (evalOp call e H op):=rfl
theorem do_pr (d:Option Nat) (op:AOp) (g:Option (Nat×Bool)) (e:Tr) (H:List AObj):doOp call ⟨d,op,g,true⟩ ⟨e,H⟩=putR d e (onH H (evalOp call e [] op)):=rfl
theorem skip_do (d:Nat) (op:AOp) (g:Option (Nat×Bool)) (p:Bool) (e:Tr) (H:List AObj):skipOp ⟨some d,op,g,p⟩ ⟨e,H⟩=some ⟨e.set d (.pv (.tup [])),H⟩:=rfl
theorem skip_no (op:AOp) (g:Option (Nat×Bool)) (p:Bool) (e:Tr) (H:List AObj):skipOp ⟨none,op,g,p⟩ ⟨e,H⟩=some ⟨e,H⟩:=rfl
theorem onH_go (H:List AObj) (v:AV):onH H (some (v,[]))=some (v,H):=rfl
theorem outA_norm (f:AFn) (s:St):outA f (some (.norm,s))=(retA f s).map fun v=>(v,s.H):=rfl
theorem outA_ret (f:AFn) (s:St):outA f (some (.ret,s))=(retA f s).map fun v=>(v,s.H):=rfl
theorem run_go (f:AFn) (args:List AV) (H:List AObj) (h:args.length=f.np):runF call f args H=outA f (evalC call f.body ⟨argEnv 0 args,H⟩):=if_pos h
end
def outR (rs:List ARes) (r:Option (Ex×St)):Option (AV×List AObj):=outA ⟨0,rs,.skip⟩ r
theorem outR_norm (rs:List ARes) (s:St):outR rs (some (.norm,s))=(mapO (resA s) rs).bind fun vs=>some (one1 vs,s.H):=by
 show (retA _ s).map _=_
 simp only[retA]
 cases mapO (resA s) rs <;> rfl
theorem outR_ret (rs:List ARes) (s:St):outR rs (some (.ret,s))=(mapO (resA s) rs).bind fun vs=>some (one1 vs,s.H):=outR_norm rs s
theorem runF_go {call:CallF} (np:Nat) (rs:List ARes) (body:ACode) (args:List AV) (H:List AObj):runF call ⟨np,rs,body⟩ args H=if args.length=np then outR rs (evalC call body ⟨argEnv 0 args,H⟩) else none:=rfl
theorem b_tt:(true==true)=true:=rfl
theorem b_tf:(true==false)=false:=rfl
theorem b_ft:(false==true)=false:=rfl
theorem b_ff:(false==false)=true:=rfl
theorem callL_succ (L:Nat→Option AFn) (d ix:Nat) (args:List AV) (H:List AObj):callL L (d+1) ix args H=(L ix).bind fun f=>runF (callL L d) f args H:=rfl
theorem callL_go (L:Nat→Option AFn) (d ix:Nat) (args:List AV) (H:List AObj) {f:AFn} (h:L ix=some f):callL L (d+1) ix args H=runF (callL L d) f args H:=by simp[callL,h]
theorem lenA_nils (H:List AObj):lenA H 0 (.pv .nils)=some 0:=rfl
theorem lenA_lit (H:List AObj) (sz:Nat) (es:List PV):lenA H 0 (.pv (.lit sz es))=some es.length:=rfl
theorem lenA_uq (H:List AObj) (id sz:Nat) (nl:Bool) (es:List PV):lenA H 0 (.uq id nl sz es)=some es.length:=rfl
theorem lenA_str (H:List AObj) (x:ByteArray):lenA H 1 (.pv (.str x))=some x.size:=rfl
theorem lenA_nilm (H:List AObj):lenA H 2 (.pv .nilm)=some 0:=rfl
theorem lenA_own (H:List AObj) (id len:Nat):lenA H 0 (.own id len)=match H[id]? with
 |some (.seq sz _ cells fl _)=>(if (winOk sz len fl cells.length) then (some len) else none)
 |_=>none:=rfl
theorem lenA_mp (H:List AObj) (id:Nat):lenA H 2 (.mp id)=match H[id]? with
 |some (.map es)=>some es.length
 |_=>none:=rfl
end Go.AM
set_option linter.unusedSimpArgs false
set_option linter.unusedVariables false
namespace Go.AM
open Go.RowKit
theorem cell_int {P:Program} {w:World} {r:Reach} {base:Nat} {t:TypeId} {v:Value} {k:IntKind} (hu:P.underlying t=some (.int k)) (h:Cell.okWide P w r base t v):∃ n,v= .int k n∧k.has n:=by
 unfold Cell.okWide at h
 rw[hu] at h
 cases v <;> simp[Cell.ok,hu] at h
 obtain⟨rfl,h⟩:=h
 exact⟨_,rfl,h⟩
theorem law_calls {P:Program} {f:FuncId} {F:List PV→Option PV} (h:PureFn P f F) {w:World} {args:List PV} {vs:List Value} (hl:LRel (Rw w) args vs) (hr:F args=some (.bool true)):
 Calls P f ⟨vs⟩ w fun e w'=>e= .returned (.bool true)∧Below w.heap.size w w':=by
 refine Calls.mono (h.2 w (Rw w) args vs _ (fun _ _ _ h=>h) hl hr) ?_
 rintro e w' ⟨v,R',rfl,hb,hv,_⟩
 cases hv
 exact⟨rfl,hb⟩
end Go.AM
set_option linter.unusedSimpArgs false
set_option linter.unusedVariables false
namespace Go.AM
open Go.RowKit
def isAggT (P:Program) (t:TypeId):Bool:=
 match P.underlying t with
 |some (.struct _) | some (.array _ _)=>true
 |_=>false
def elPV (P:Program) (e:TypeId) (row:List PV):PV:=if isAggT P e then .agg row else row.headD .nilp
def rowOf (P:Program) {H:Type}:Nat→TypeId→DataW H→List PV
 |0,_,_=>[]
 |f+1,t,d=>
  match P.underlying t,d with
  |some .bool,.lit (.bool b)=>[.bool b]
  |some (.int k),.lit (.int _ n)=>[.int k n]
  |some .string,.lit (.string l)=>[.str ⟨l.toArray⟩]
  |some (.pointer _),.nil=>[.nilp]
  |some (.pointer e),.ptr d=>[.rp (rowOf P f e d) 0]
  |some (.slice _),.nil=>[.nils]
  |some (.slice e),.slice es _=>[.lit (P.cellsOf e) (es.map fun d=>elPV P e (rowOf P f e d))]
  |some (.struct fs),.agg ds=>((fs.toList.zip ds).map fun p=>rowOf P f p.1.type p.2).flatten
  |some (.array _ e),.agg ds=>(ds.map (rowOf P f e)).flatten
  |_,_=>[]
def laidF (P:Program):Nat→List Field→Option Nat
 |o,[]=>some o
 |o,f::r=>if f.offset=o then laidF P (o+P.cellsOf f.type) r else none
def okT (P:Program):Nat→TypeId→Bool
 |0,_=>false
 |f+1,t=>
  match P.underlying t with
  |some .bool | some (.int _) | some .string=>P.cellsOf t==1
  |some (.pointer e) | some (.slice e)=>P.cellsOf t==1&&decide (0 < P.cellsOf e)&&okT P f e
  |some (.struct fs)=>laidF P 0 fs.toList==some (P.cellsOf t)&&fs.toList.all fun fd=>okT P f fd.type
  |some (.array n e)=>P.cellsOf t==n * P.cellsOf e&&okT P f e
  |_=>false
section
variable {P:Program} {H:Type} {enc:TypeId×Value→H} {w:World} {base:Nat} {sp:Nat→Bool} {held:Bool}
structure RowOk (P:Program) (w:World) (t:TypeId) (row:List PV) (cs:List Value):Prop where
 rel:LRel (Rw w) row cs
 one:∀ p∈row,pone p=true
 len:row.length=P.cellsOf t
theorem mapM_some {α β:Type} {f:α→Option β}:∀ {l:List α} {r:List β},l.mapM f=some r→r.length=l.length∧∀ (i:Nat) (x:α),l[i]? =some x→∃ y,r[i]? =some y∧f x=some y:=by
 intro l
 induction l with
 |nil=>intro r h;simp at h;subst h;exact⟨rfl,fun i x h=>by simp at h⟩
 |cons a l ih=>
  intro r h
  simp only[List.mapM_cons,Option.bind_eq_bind,Option.bind_eq_some_iff,Option.pure_def,Option.some.injEq] at h
  obtain⟨b,h1,bs,h2,rfl⟩:=h
  obtain⟨k1,k2⟩:=ih h2
  refine⟨by simp[k1],fun i x hx=> ?_⟩
  cases i with
  |zero=>simp at hx;subst hx;exact⟨b,rfl,h1⟩
  |succ i=>simpa using k2 i x (by simpa using hx)
theorem LRel.app {R:Rd} {ps qs:List PV} {vs us:List Value} (h:LRel R ps vs) (h':LRel R qs us):LRel R (ps++qs) (vs++us):=LRel.append h h'
theorem cells_spec {a:Addr} {n:Nat} {cs:List Value} (h:w.cells? base a n=some cs):cs.length=n∧∀ (i:Nat) (v:Value),cs[i]? =some v→w.cell? (a.add i)=some v:=by
 unfold World.cells? at h
 split at h
 ·obtain⟨h1,h2⟩:=mapM_some h
  rw[List.length_range] at h1
  refine⟨h1,fun i v hv=> ?_⟩
  have hlt:=getElem?_lt hv
  obtain⟨y,hy1,hy2⟩:=h2 i i (by rw[List.getElem?_range (by omega)])
  rw[hv] at hy1;injection hy1 with hy1;subst hy1;exact hy2
 ·cases h
theorem cell_spot {a:Addr} {v:Value} (h:w.cell? a=some v):a.spot=none:=by
 unfold World.cell? at h
 split at h
 ·split at h
  ·cases h
  ·rename_i hs;cases ha:a.spot with
   |none=>rfl
   |some s=>simp[ha] at hs
 ·cases h
theorem cell_at {a:Addr} {i:Nat} {v:Value} (h:w.cell? (a.add i)=some v):w.cell? ⟨a.block,a.off+i,none⟩=some v:=by
 have hs:=cell_spot h
 obtain⟨b,o,s⟩:=a
 unfold Addr.add at h hs
 split at h
 ·rename_i h0;subst h0
  rw[if_pos rfl] at hs
  simp only at hs
  subst hs
  simpa using h
 ·exact h
theorem RRel.flat {R:Rd} {b sz:Nat}:∀ {es:List PV} {o:Nat},(∀ e∈es,e.cells.length=sz)→(∀ (i:Nat) (e:PV),es[i]? =some e→RRel R e.cells b (o+i * sz))→RRel R (AM.flat es) b o:=by
 intro es
 induction es with
 |nil=>intro o _ _;exact .nil _ _
 |cons e es ih=>
  intro o hl h
  have h0:=h 0 e rfl
  simp only[Nat.zero_mul,Nat.add_zero] at h0
  refine RRel.append h0 ?_
  rw[hl e (by simp)]
  refine ih (fun x hx=>hl x (by simp[hx])) fun i x hx=> ?_
  have:=h (i+1) x (by simpa using hx)
  rw[Nat.add_mul,Nat.one_mul] at this
  rw[show o+sz+i * sz=o+(i * sz+sz) from by omega]
  exact this
theorem el_cells {e:TypeId} {row:List PV} {cs:List Value} (h:RowOk P w e row cs) (hs:isAggT P e=true∨P.cellsOf e=1):(elPV P e row).cells=row:=by
 unfold elPV
 split
 ·rfl
 ·rename_i hn
  have hc:=hs.resolve_left hn
  have hlen:=h.len
  rw[hc] at hlen
  match row,hlen with
  | [p],_=>exact pone_cells (h.one p (by simp))
theorem row_at {e:TypeId} {row:List PV} {cs:List Value} {a:Addr} (h:RowOk P w e row cs) (hc:∀ (i:Nat) (v:Value),cs[i]? =some v→w.cell? (a.add i)=some v):RRel (Rw w) row a.block a.off:=
 RRel.of_list h.rel (fun v hv=>by
  obtain⟨i,hi⟩:=List.mem_iff_getElem?.1 hv
  have hlt:=getElem?_lt hi
  have hl:=h.rel.length
  have hp:row[i]? =some (row[i]'(by omega)):=List.getElem?_eq_getElem _
  obtain⟨u,hu,hr⟩:=h.rel.get hp
  rw[hi] at hu;injection hu with hu;subst hu
  exact hr.one (h.one _ (List.getElem_mem _))) fun i v hv=>cell_at (hc i v hv)
theorem okT_one {g:Nat} {t:TypeId} (h:okT P g t=true):isAggT P t=true∨P.cellsOf t=1:=by
 cases g with
 |zero=>simp[okT] at h
 |succ g=>
  simp only[okT] at h
  unfold isAggT
  split at h <;> simp_all
theorem laid_rows {R:Rd}:∀ (fs:List Field) (o:Nat) (cs:List Value) (rows:List (List PV)),laidF P o fs=some cs.length→rows.length=fs.length→
 (∀ (i:Nat) (f:Field) (r:List PV),fs[i]? =some f→rows[i]? =some r→LRel R r ((cs.drop f.offset).take (P.cellsOf f.type))∧r.length=P.cellsOf f.type)→LRel R rows.flatten (cs.drop o):=by
 intro fs
 induction fs with
 |nil=>
  intro o cs rows h hl _
  simp only[laidF,Option.some.injEq] at h
  subst h
  have:rows=[]:=List.eq_nil_of_length_eq_zero (by simpa using hl)
  subst this
  simpa using LRel.nil
 |cons f fs ih=>
  intro o cs rows h hl hr
  cases rows with
  |nil=>simp at hl
  |cons r rows=>
   simp only[laidF] at h
   split at h
   ·rename_i ho
    obtain⟨h1,h2⟩:=hr 0 f r rfl rfl
    rw[ho] at h1
    have h3:=ih (o+P.cellsOf f.type) cs rows h (by simpa using hl) fun i g q hg hq=>hr (i+1) g q (by simpa using hg) (by simpa using hq)
    have:cs.drop o=(cs.drop o).take (P.cellsOf f.type)++cs.drop (o+P.cellsOf f.type):=by
     rw[← List.drop_drop,List.take_append_drop]
    rw[this,List.flatten_cons]
    exact LRel.app h1 h3
   ·cases h
theorem arr_rows {R:Rd} {sz:Nat}:∀ (n:Nat) (cs:List Value) (rows:List (List PV)),cs.length=n * sz→rows.length=n→
 (∀ (i:Nat) (r:List PV),rows[i]? =some r→LRel R r ((cs.drop (i * sz)).take sz))→LRel R rows.flatten cs:=by
 intro n
 induction n with
 |zero=>
  intro cs rows h hl _
  have:rows=[]:=List.eq_nil_of_length_eq_zero hl
  subst this
  have:cs=[]:=List.eq_nil_of_length_eq_zero (by simpa using h)
  subst this
  exact .nil
 |succ n ih=>
  intro cs rows h hl hr
  cases rows with
  |nil=>simp at hl
  |cons r rows=>
   have h1:=hr 0 r rfl
   simp only[Nat.zero_mul,List.drop_zero] at h1
   have h3:=ih (cs.drop sz) rows (by rw[List.length_drop,h,Nat.add_mul];omega) (by simpa using hl) fun i q hq=>by
    have:=hr (i+1) q (by simpa using hq)
    rw[List.drop_drop]
    rw[Nat.add_mul,Nat.one_mul] at this
    rw[show sz+i * sz=i * sz+sz from by omega]
    exact this
   rw[← List.take_append_drop sz cs,List.flatten_cons]
   exact LRel.app h1 h3
theorem row_rel:∀ (g:Nat) (t:TypeId) (fuel:Nat) (cs:List Value) (x:DataW H×List MemPlace),okT P g t=true→DataW.trod enc P w base (fun _=>true) held fuel t cs=some x→RowOk P w t (rowOf P g t x.1) cs:=by
 intro g
 induction g with
 |zero=>intro t fuel cs x h;simp[okT] at h
 |succ g ih=>
  intro t fuel cs x hok h
  simp only[okT] at hok
  have elem:∀ {e:TypeId} {n:Nat} {a:Addr} {y:DataW H×List MemPlace},okT P g e=true→(w.cells? base a (P.cellsOf e)).bind (DataW.trod enc P w base (fun _=>true) held n e)=some y→
   RRel (Rw w) (rowOf P g e y.1) a.block a.off∧(rowOf P g e y.1).length=P.cellsOf e∧(elPV P e (rowOf P g e y.1)).cells=rowOf P g e y.1∧(0 < P.cellsOf e→a.spot=none):=by
   intro e n a y he hy
   simp only[Option.bind_eq_some_iff] at hy
   obtain⟨ecs,h1,h2⟩:=hy
   obtain⟨k1,k2⟩:=cells_spec h1
   have hr:=ih e n ecs y he h2
   refine⟨row_at hr k2,hr.len,el_cells hr (okT_one he),fun hpos=> ?_⟩
   have hv:ecs[0]? =some (ecs[0]'(by omega)):=List.getElem?_eq_getElem _
   have:=cell_spot (k2 0 _ hv)
   simpa[Addr.add] using this
  have atom:∀ {p:PV} {v:Value},pone p=true→PRel (Rw w) p v→P.cellsOf t=1→RowOk P w t [p] [v]:=fun h1 h2 h3=>
   ⟨.cons _ _ _ _ h2 .nil,by simpa using h1,by simp[h3]⟩
  cases hu:P.underlying t with
  |none=>simp[hu] at hok
  |some td=>
   simp only[hu] at hok
   cases td with
   |bool=>
    obtain⟨b,rfl,rfl⟩:=DataW.trod_bool hu h
    simp only[rowOf,hu]
    exact atom rfl (.bool _) (by simpa using hok)
   |int k=>
    obtain⟨n,rfl,rfl,_⟩:=DataW.trod_int hu h
    simp only[rowOf,hu]
    exact atom rfl (.int _ _) (by simpa using hok)
   |string=>
    obtain⟨s,rfl,rfl,_⟩:=DataW.trod_string hu h
    simp only[rowOf,hu]
    obtain⟨⟨l⟩⟩:=s
    exact atom rfl (.str _) (by simpa using hok)
   |pointer e=>
    simp only[Bool.and_eq_true,beq_iff_eq,decide_eq_true_eq] at hok
    obtain⟨⟨hc,hpos⟩,he⟩:=hok
    rcases DataW.trod_pointer hu h with⟨rfl,rfl⟩ | ⟨a,ecs,y,n,rfl,rfl,rfl,h1,h2⟩
    ·simp only[rowOf,hu]
     exact atom rfl .nilp hc
    ·simp only[rowOf,hu]
     obtain⟨k1,k2,k3,k4⟩:=elem he (n:=n) (a:=a) (y:=y) (by rw[h1];exact h2)
     have hs:=k4 hpos
     obtain⟨b,o,s⟩:=a
     simp only at hs
     subst hs
     refine atom rfl ?_ hc
     have:=PRel.rp (R:=Rw w) _ 0 b o k1
     simpa using this
   |slice e=>
    simp only[Bool.and_eq_true,beq_iff_eq,decide_eq_true_eq] at hok
    obtain⟨⟨hc,hpos⟩,he⟩:=hok
    rcases DataW.trod_slice hu h with⟨rfl,rfl⟩ | ⟨a,len,cap,els,rest,n,rfl,rfl,rfl,_,hlc,_,hlen,hel,hsp,_⟩
    ·simp only[rowOf,hu]
     exact atom rfl .nils hc
    ·simp only[rowOf,hu]
     refine atom rfl ?_ hc
     obtain⟨hr1,hr2⟩:=hsp rfl
     have each:∀ (i:Nat) (y:DataW H×List MemPlace),els[i]? =some y→(w.cells? base (a.add (i * P.cellsOf e)) (P.cellsOf e)).bind (DataW.trod enc P w base (fun _=>true) held n e)=some y:=by
      intro i y hy
      rw[hel i (by have:=getElem?_lt hy;omega),hy]
     by_cases hcap:cap=0
     ·have:len=0:=by omega
      subst this
      subst hcap
      have:els=[]:=List.eq_nil_of_length_eq_zero hlen
      subst this
      exact .lit0 _ _
     ·have hs:a.spot=none:=by
       rcases Nat.eq_zero_or_pos len with h0 | h0
       ·have h1:0 < cap - len:=by omega
        have hv:rest[0]? =some (rest[0]'(by omega)):=List.getElem?_eq_getElem _
        have:=hr2 0 h1
        rw[hv] at this
        have:=(elem he this).2.2.2 hpos
        subst h0
        simpa[Addr.add] using this
       ·have hv:els[0]? =some (els[0]'(by omega)):=List.getElem?_eq_getElem _
        have:=(elem he (each 0 _ hv)).2.2.2 hpos
        simpa[Addr.add] using this
      obtain⟨b,o,s⟩:=a
      simp only at hs
      subst hs
      have hcl:∀ p∈(els.map (·.1)).map (fun d=>elPV P e (rowOf P g e d)),p.cells.length=P.cellsOf e:=by
       intro p hp
       simp only[List.map_map,List.mem_map] at hp
       obtain⟨y,hy,rfl⟩:=hp
       obtain⟨i,hi⟩:=List.mem_iff_getElem?.1 hy
       obtain⟨_,k2,k3,_⟩:=elem he (each i y hi)
       simp only[Function.comp]
       rw[k3,k2]
      have:=PRel.lit (R:=Rw w) (P.cellsOf e) ((els.map (·.1)).map (fun d=>elPV P e (rowOf P g e d))) b o cap (by simp;omega) hcl (RRel.flat hcl fun i p hp=>by
       simp only[List.map_map,List.getElem?_map,Option.map_eq_some_iff] at hp
       obtain⟨y,hy,rfl⟩:=hp
       obtain⟨k1,k2,k3,_⟩:=elem he (each i y hy)
       simp only[Function.comp]
       rw[k3]
       have hb:(Addr.add ⟨b,o,none⟩ (i * P.cellsOf e))=⟨b,o+i * P.cellsOf e,none⟩:=by rw[addr_add]
       rw[hb] at k1
       exact k1)
      simpa[hlen] using this
   |struct fs=>
    simp only[Bool.and_eq_true,beq_iff_eq] at hok
    obtain⟨hlay,hall⟩:=hok
    obtain⟨xs,n,rfl,rfl,hcs,hxs,hf⟩:=DataW.trod_struct hu h
    simp only[rowOf,hu]
    have each:∀ (i:Nat) (f:Field) (y:DataW H×List MemPlace),fs.toList[i]? =some f→xs[i]? =some y→RowOk P w f.type (rowOf P g f.type y.1) ((cs.drop f.offset).take (P.cellsOf f.type)):=by
     intro i f y hfi hy
     have:=hf i f (by simpa using hfi)
     rw[hy] at this
     exact ih _ n _ y (List.all_eq_true.1 hall f (List.mem_of_getElem? hfi)) this
    have get:∀ (i:Nat) (r:List PV),((fs.toList.zip (xs.map (·.1))).map fun p=>rowOf P g p.1.type p.2)[i]? =some r→∃ f y,fs.toList[i]? =some f∧xs[i]? =some y∧r=rowOf P g f.type y.1:=by
     intro i r hr
     simp only[List.getElem?_map,Option.map_eq_some_iff] at hr
     obtain⟨p,hp,rfl⟩:=hr
     rw[List.getElem?_zip_eq_some] at hp
     obtain⟨hp1,hp2⟩:=hp
     simp only[List.getElem?_map,Option.map_eq_some_iff] at hp2
     obtain⟨y,hy,hy2⟩:=hp2
     exact⟨p.1,y,hp1,hy,by rw[hy2]⟩
    have hrel:=laid_rows (R:=Rw w) fs.toList 0 cs ((fs.toList.zip (xs.map (·.1))).map fun p=>rowOf P g p.1.type p.2) (by rw[hcs];exact hlay) (by simp[hxs]) fun i f r hfi hri=>by
     obtain⟨f',y,h1,h2,rfl⟩:=get i r hri
     rw[hfi] at h1;injection h1 with h1;subst h1
     have:=each i f y hfi h2
     exact⟨this.rel,this.len⟩
    rw[List.drop_zero] at hrel
    refine⟨hrel,fun p hp=> ?_,by rw[← hrel.length,hcs]⟩
    rw[List.mem_flatten] at hp
    obtain⟨r,hr,hp⟩:=hp
    obtain⟨i,hi⟩:=List.mem_iff_getElem?.1 hr
    obtain⟨f,y,h1,h2,rfl⟩:=get i r hi
    exact (each i f y h1 h2).one p hp
   |array n e=>
    simp only[Bool.and_eq_true,beq_iff_eq] at hok
    obtain⟨hlay,he⟩:=hok
    obtain⟨xs,m,rfl,rfl,hcs,hxs,hf⟩:=DataW.trod_array hu h
    simp only[rowOf,hu]
    have each:∀ (i:Nat) (y:DataW H×List MemPlace),xs[i]? =some y→RowOk P w e (rowOf P g e y.1) ((cs.drop (i * P.cellsOf e)).take (P.cellsOf e)):=by
     intro i y hy
     have:=hf i (by have:=getElem?_lt hy;omega)
     rw[hy] at this
     exact ih _ m _ y he this
    have get:∀ (i:Nat) (r:List PV),((xs.map (·.1)).map (rowOf P g e))[i]? =some r→∃ y,xs[i]? =some y∧r=rowOf P g e y.1:=by
     intro i r hr
     simp only[List.map_map,List.getElem?_map,Option.map_eq_some_iff] at hr
     obtain⟨y,hy,rfl⟩:=hr
     exact⟨y,hy,rfl⟩
    have hrel:=arr_rows (R:=Rw w) n cs ((xs.map (·.1)).map (rowOf P g e)) (by rw[hcs,hlay]) (by simp[hxs]) fun i r hri=>by
     obtain⟨y,h2,rfl⟩:=get i r hri
     exact (each i y h2).rel
    refine⟨hrel,fun p hp=> ?_,by rw[← hrel.length,hcs]⟩
    rw[List.mem_flatten] at hp
    obtain⟨r,hr,hp⟩:=hp
    obtain⟨i,hi⟩:=List.mem_iff_getElem?.1 hr
    obtain⟨y,h2,rfl⟩:=get i r hi
    exact (each i y h2).one p hp
   |_=>simp at hok
def Sh (P:Program):Nat→TypeId→List PV→Prop
 |0,_,_=>False
 |g+1,t,row=>
  match P.underlying t with
  |some .bool=>∃ b,row=[.bool b]
  |some (.int k)=>∃ n,row=[.int k n]∧(Lit.int k n).wf=true
  |some .string=>∃ s:ByteArray,row=[.str s]∧s.size≤reachBytes
  |some (.pointer e)=>row=[.nilp]∨∃ r,row=[.rp r 0]∧Sh P g e r
  |some (.slice e)=>row=[.nils]∨∃ es:List (List PV),row=[.lit (P.cellsOf e) (es.map (elPV P e))]∧es.length≤maxLen∧es.length * P.bytesOf e≤reachBytes∧∀ r∈es,Sh P g e r
  |some (.struct fs)=>∃ rows:List (List PV),rows.length=fs.size∧row=rows.flatten∧∀ (i:Nat) (f:Field) (r:List PV),fs.toList[i]? =some f→rows[i]? =some r→Sh P g f.type r
  |some (.array n e)=>∃ es:List (List PV),es.length=n∧row=es.flatten∧∀ r∈es,Sh P g e r
  |_=>False
theorem weights_all {P:Program} {e:TypeId}:∀ {ds:List (DataW H)} {d:DataW H} {n:Nat},d∈ds→n∈d.weights P e→n∈DataW.weightsAll P e ds
 |c::ds,d,n,hd,hn=>by
  simp only[DataW.weightsAll,List.mem_append]
  rcases List.mem_cons.1 hd with rfl | hd
  ·exact .inl hn
  ·exact .inr (weights_all hd hn)
theorem row_sh:∀ (g:Nat) (t:TypeId) (fuel:Nat) (cs:List Value) (x:DataW H×List MemPlace),okT P g t=true→DataW.trod enc P w base sp held fuel t cs=some x→(∀ n∈x.1.weights P t,n≤reachBytes)→Sh P g t (rowOf P g t x.1):=by
 intro g
 induction g with
 |zero=>intro t fuel cs x h;simp[okT] at h
 |succ g ih=>
  intro t fuel cs x hok h hwt
  simp only[okT] at hok
  cases hu:P.underlying t with
  |none=>simp[hu] at hok
  |some td=>
   simp only[hu] at hok
   cases td with
   |bool=>obtain⟨b,rfl,rfl⟩:=DataW.trod_bool hu h;simp only[Sh,rowOf,hu];exact⟨_,rfl⟩
   |int k=>obtain⟨n,rfl,rfl,hw⟩:=DataW.trod_int hu h;simp only[Sh,rowOf,hu];exact⟨_,rfl,hw⟩
   |string=>
    obtain⟨s,rfl,rfl,hs⟩:=DataW.trod_string hu h
    simp only[Sh,rowOf,hu]
    obtain⟨⟨l⟩⟩:=s
    refine⟨_,rfl,?_⟩
    have:=hwt l.length (by simp[DataW.weights])
    simpa[ByteArray.size] using this
   |pointer e=>
    simp only[Bool.and_eq_true,beq_iff_eq,decide_eq_true_eq] at hok
    rcases DataW.trod_pointer hu h with⟨rfl,rfl⟩ | ⟨a,ecs,y,n,rfl,rfl,rfl,h1,h2⟩
    ·simp only[Sh,rowOf,hu];exact .inl trivial
    ·simp only[Sh,rowOf,hu];exact .inr ⟨_,rfl,ih e n _ y hok.2 h2 (fun n hn=>hwt n (by simpa[DataW.weights,hu] using hn))⟩
   |slice e=>
    simp only[Bool.and_eq_true,beq_iff_eq,decide_eq_true_eq] at hok
    rcases DataW.trod_slice hu h with⟨rfl,rfl⟩ | ⟨a,len,cap,els,rest,n,rfl,rfl,rfl,_,hlc,hmax,hlen,hel,_,_⟩
    ·simp only[Sh,rowOf,hu];exact .inl trivial
    ·have hsz:=hwt _ (show _ by simp only[DataW.weights,hu];exact List.mem_cons_self ..)
     have hsz':els.length * P.bytesOf e≤reachBytes:=by
      refine Nat.le_trans (Nat.mul_le_mul_right _ ?_) hsz
      simp
     simp only[Sh,rowOf,hu]
     refine .inr ⟨els.map fun y=>rowOf P g e y.1,by simp[List.map_map,Function.comp_def],by simp;omega,by simpa using hsz',fun r hr=> ?_⟩
     obtain⟨y,hy,rfl⟩:=List.mem_map.1 hr
     obtain⟨i,hi⟩:=List.mem_iff_getElem?.1 hy
     have h1:=hel i (by have:=getElem?_lt hi;omega)
     rw[hi] at h1
     simp only[Option.bind_eq_some_iff] at h1
     obtain⟨ecs,_,h2⟩:=h1
     refine ih e n ecs y hok.2 h2 (fun k hk=>hwt k ?_)
     simp only[DataW.weights,hu,List.mem_cons,List.mem_append]
     exact .inr (.inl (weights_all (List.mem_map.2 ⟨y,hy,rfl⟩) hk))
   |struct fs=>
    simp only[Bool.and_eq_true,beq_iff_eq] at hok
    obtain⟨xs,n,rfl,rfl,hcs,hxs,hf⟩:=DataW.trod_struct hu h
    simp only[Sh,rowOf,hu]
    refine⟨_,?_,rfl,fun i f r hfi hr=> ?_⟩
    ·simp[hxs]
    ·simp only[List.getElem?_map,Option.map_eq_some_iff] at hr
     obtain⟨p,hp,rfl⟩:=hr
     rw[List.getElem?_zip_eq_some] at hp
     obtain⟨hp1,hp2⟩:=hp
     have hp2':=hp2
     simp only[List.getElem?_map,Option.map_eq_some_iff] at hp2
     obtain⟨y,hy,hy2⟩:=hp2
     rw[hfi] at hp1;injection hp1 with hp1
     have:=hf i f (by simpa using hfi)
     rw[hy] at this
     rw[← hp1,←hy2]
     refine ih _ n _ y (List.all_eq_true.1 hok.2 f (List.mem_of_getElem? hfi)) this (fun k hk=>hwt k ?_)
     simp only[DataW.weights,hu]
     exact DataW.weights_mem_each (j:=i) (t:=f.type) (d:=y.1) (by simp[hfi]) (by rw[hy2];exact hp2') k hk
   |array n e=>
    simp only[Bool.and_eq_true,beq_iff_eq] at hok
    obtain⟨xs,m,rfl,rfl,hcs,hxs,hf⟩:=DataW.trod_array hu h
    simp only[Sh,rowOf,hu]
    refine⟨_,?_,rfl,fun r hr=> ?_⟩
    ·simp[hxs]
    ·simp only[List.map_map,List.mem_map] at hr
     obtain⟨y,hy,rfl⟩:=hr
     obtain⟨i,hi⟩:=List.mem_iff_getElem?.1 hy
     have:=hf i (by have:=getElem?_lt hi;omega)
     rw[hi] at this
     refine ih _ m _ y hok.2 this (fun k hk=>hwt k ?_)
     simp only[DataW.weights,hu]
     exact weights_all (List.mem_map.2 ⟨y,hy,rfl⟩) hk
   |_=>simp at hok
theorem arg_rel {r:Reach} {b0:Nat} {g:Nat} {t:TypeId} {v:Value} {d:DataW H} {ps:List MemPlace} (hok:okT P g t=true) (hval:Value.okWide P w r b0 t v) (hd:DataW.Trod enc P w base (fun _=>true) held t v d ps):
 PRel (Rw w) (elPV P t (rowOf P g t d)) v:=by
 obtain⟨fuel,hf⟩:=hd
 have hr:=row_rel g t fuel _ _ hok hf
 have h1:=okT_one hok
 unfold elPV
 cases ha:isAggT P t with
 |true=>
  simp only[if_true]
  have:∃ cs,v= .agg cs:=by
   unfold isAggT at ha
   unfold Value.okWide at hval
   cases hu:P.underlying t with
   |none=>simp[hu] at ha
   |some td=>cases td <;> simp[hu] at ha hval <;> exact⟨_,hval.choose_spec.1⟩
  obtain⟨⟨cs⟩,rfl⟩:=this
  exact .agg _ _ (by simpa[Value.cells] using hr.rel)
 |false=>
  simp only[Bool.false_eq_true,if_false]
  have hc:=h1.resolve_left (by simp[ha])
  have hlen:=hr.len
  rw[hc] at hlen
  generalize rowOf P g t d=row at hr hlen ⊢
  have hrel:=hr.rel
  match row,hlen with
  | [p],_=>
    have:∃ u,v.cells.toList=[u]∧PRel (Rw w) p u:=by
     generalize v.cells.toList=l at hrel
     cases hrel with
     |cons _ _ u us h2 h3=>cases h3;exact⟨u,rfl,h2⟩
    obtain⟨u,hu,hp⟩:=this
    have:v=u:=by
     cases v <;> simp[Value.cells] at hu <;> first | exact hu | skip
     rename_i cs
     unfold Value.okWide at hval
     unfold isAggT at ha
     cases hut:P.underlying t with
     |none=>simp[hut,Cell.okWide,Cell.ok] at hval
     |some td=>cases td <;> simp[hut] at ha <;> simp[hut,Cell.okWide,Cell.ok] at hval
    rw[this]
    exact hp
end
end Go.AM
set_option linter.unusedSimpArgs false
set_option linter.unusedVariables false
namespace Go.AM
def AObj.plain:AObj→Bool
 | .box cells=>cells.all AV.free'
 | .tok _ _ _=>true
 | .dead=>true
 |_=>false
where AV.free':AV→Bool
 | .pv _=>true
 |_=>false
theorem cut_pv {n d:Nat} {p:PV}:AV.cut n d (.pv p)=some (.pv p):=by cases d <;> rfl
theorem cutObj_plain {n:Nat} {o:AObj} (h:o.plain=true):cutObj n o=some o:=by
 cases o with
 |box cells=>
  simp only[AObj.plain] at h
  have:mapO (AV.cut n deep) cells=some cells:=by
   induction cells with
   |nil=>rfl
   |cons c cs ih=>
    simp only[List.all_cons,Bool.and_eq_true] at h
    cases c with
    |pv p=>simp[mapO,cut_pv,ih h.2]
    |_=>simp[AObj.plain.AV.free'] at h
  simp[cutObj,this]
 |tok=>rfl
 |dead=>rfl
 |seq=>simp[AObj.plain] at h
 |map=>simp[AObj.plain] at h
theorem cut_plain {n:Nat} {T:List AObj} (h:T.all AObj.plain=true):mapO (cutObj n) T=some T:=by
 induction T with
 |nil=>rfl
 |cons o T ih=>
  simp only[List.all_cons,Bool.and_eq_true] at h
  simp[mapO,cutObj_plain h.1,ih h.2]
end Go.AM
set_option linter.unusedSimpArgs false
set_option linter.unusedVariables false
namespace Go.AM
def Ex.stop:Ex→Bool
 | .norm=>false
 |_=>true
def roundL (call:CallF) (live:List Nat) (b:ACode) (n:Nat) (s:St):Option (Ex×St):=roundA (evalC call b) (clean n live) s
theorem loopA_go {g:St→Option (Ex×St)} (I:Nat→St→Prop) (Q:Ex→St→Prop):∀ (k N i:Nat) (s:St),N < i+k→i≤N→I i s→
 (∀ i,i < N→∀ s,I i s→(∃ s',g s=some (.norm,s')∧I (i+1) s')∨(∃ ex s',g s=some (ex,s')∧ex.stop=true∧Q ex s'))→
 (∀ s,I N s→∃ ex s',g s=some (ex,s')∧ex.stop=true∧Q ex s')→
 ∃ ex s',loopA g k s=some (ex,s')∧ex.stop=true∧Q ex s':=by
 intro k
 induction k with
 |zero=>intro N i s h1 h2;omega
 |succ k ih=>
  intro N i s h1 h2 hI hs he
  have out:(∃ ex s',g s=some (ex,s')∧ex.stop=true∧Q ex s')→∃ ex s',loopA g (k+1) s=some (ex,s')∧ex.stop=true∧Q ex s':=by
   rintro⟨ex,s',h,hx,hq⟩
   refine⟨ex,s',?_,hx,hq⟩
   show seqA (loopA g k) (g s)=_
   rw[h]
   cases ex with
   |norm=>cases hx
   |exit=>rfl
   |ret=>rfl
  by_cases hi:i < N
  ·rcases hs i hi s hI with⟨s',h,hI'⟩ | h
   ·obtain⟨ex,s'',h2,hx,hq⟩:=ih N (i+1) s' (by omega) (by omega) hI' hs he
    refine⟨ex,s'',?_,hx,hq⟩
    show seqA (loopA g k) (g s)=_
    rw[h]
    exact h2
   ·exact out h
  ·have:i=N:=by omega
   subst this
   exact out (he s hI)
theorem loop_go {call:CallF} {live:List Nat} {b:ACode} {s s0:St} (I:Nat→St→Prop) (Q:Ex→St→Prop) (N:Nat) (hN:N < rounds)
 (h0:clean s.H.length live s=some s0) (hI:I 0 s0)
 (hs:∀ i,i < N→∀ t,I i t→(∃ t',roundL call live b s.H.length t=some (.norm,t')∧I (i+1) t')∨(∃ ex t',roundL call live b s.H.length t=some (ex,t')∧ex.stop=true∧Q ex t'))
 (he:∀ t,I N t→∃ ex t',roundL call live b s.H.length t=some (ex,t')∧ex.stop=true∧Q ex t'):
 ∃ ex t,evalC call (.loop live b) s=some (ex,t)∧ex.stop=true∧Q ex t:=by
 rw[C_loop,h0]
 exact loopA_go I Q rounds N 0 s0 (by omega) (by omega) hI hs he
theorem seqA_of {f:St→Option (Ex×St)} {ex:Ex} {s:St} (h:ex.stop=true):seqA f (some (ex,s))=some (ex,s):=by
 cases ex with
 |norm=>cases h
 |exit=>rfl
 |ret=>rfl
theorem wrap_int {n:Int} (h: -9223372036854775808≤n∧n≤9223372036854775807):IntKind.i64.wrap n=n:=by
 rw[IntKind.wrap_i64]
 omega
theorem wrap_u8 {n:Int} (h:0≤n∧n≤255):IntKind.u8.wrap n=n:=by
 have e:IntKind.u8.wrap n=n % 256:=by
  simp[IntKind.signed,IntKind.wrap,IntKind.bits]
 rw[e]
 omega
end Go.AM
set_option linter.unusedSimpArgs false
set_option linter.unusedVariables false
namespace Go.AM
open Go.ChangeShapes Go.WideShapes Go.ChangeAt Go.RowKit
def pvs (P:Program) {H:Type} (g:Nat):List TypeId→List (DataW H)→List PV
 |t::ts,d::ds=>elPV P t (rowOf P g t d)::pvs P g ts ds
 |_,_=>[]
def Shs (P:Program) {H:Type} (g:Nat):List TypeId→List (DataW H)→Prop
 |t::ts,d::ds=>Sh P g t (rowOf P g t d)∧Shs P g ts ds
 | [],[]=>True
 |_,_=>False
def okTs (P:Program) (g:Nat) (ts:List TypeId):Bool:=ts.all fun t=>okT P g t&&P.readableRec t&&decide (t < P.types.size)
section
variable {H:Type} {enc:TypeId×Value→H} {P:Program} {w:World} {base:Nat} {held:Bool}
theorem trodAll_len:∀ {ts:List TypeId} {vs:List Value} {ds:List (DataW H)} {ps:List MemPlace} {sp:Nat→Bool},DataW.TrodAll enc P w base sp held ts vs ds ps→vs.length=ts.length∧ds.length=ts.length
 | [],[],[],_,_,_=>⟨rfl,rfl⟩
 |t::ts,v::vs,d::ds,_,_,⟨p,q,_,h,_⟩=>by have:=trodAll_len h;simp[this.1,this.2]
 | [],_::_,_,_,_,h=>h.elim
 | [],[],_::_,_,_,h=>h.elim
 |_::_,[],_,_,_,h=>h.elim
 |_::_,_::_,[],_,_,h=>h.elim
theorem trodAll_rel {r:Reach} {b0 g:Nat}:∀ {ts:List TypeId} {vs:List Value} {ds:List (DataW H)} {ps:List MemPlace},okTs P g ts=true→
 (∀ (j:Nat) t v,ts[j]? =some t→vs[j]? =some v→Value.okWide P w r b0 t v)→
 DataW.TrodAll enc P w base (fun _=>true) held ts vs ds ps→LRel (Rw w) (pvs P g ts ds) vs
 | [],[],[],_,_,_,_=> .nil
 |t::ts,v::vs,d::ds,_,hok,hval,⟨p,q,hd,h,_⟩=>by
  simp only[okTs,List.all_cons,Bool.and_eq_true] at hok
  exact .cons _ _ _ _ (arg_rel hok.1.1.1 (hval 0 t v rfl rfl) hd) (trodAll_rel (by simp only[okTs];exact hok.2) (fun j t v ht hv=>hval (j+1) t v ht hv) h)
 | [],_::_,_,_,_,_,h=>h.elim
 | [],[],_::_,_,_,_,h=>h.elim
 |_::_,[],_,_,_,_,h=>h.elim
 |_::_,_::_,[],_,_,_,h=>h.elim
theorem trodAll_sh {g:Nat}:∀ {ts:List TypeId} {vs:List Value} {ds:List (DataW H)} {ps:List MemPlace},okTs P g ts=true→
 (∀ n∈DataW.weightsEach P ts ds,n≤reachBytes)→
 DataW.TrodAll enc P w base (fun _=>true) held ts vs ds ps→Shs P g ts ds
 | [],[],[],_,_,_,_=>trivial
 |t::ts,v::vs,d::ds,_,hok,hw,⟨p,q,⟨fuel,hd⟩,h,_⟩=>by
  simp only[okTs,List.all_cons,Bool.and_eq_true] at hok
  simp only[DataW.weightsEach,List.mem_append] at hw
  exact⟨row_sh g t fuel _ (d,p) hok.1.1.1 hd (fun n hn=>hw n (.inl hn)),trodAll_sh (by simp only[okTs];exact hok.2) (fun n hn=>hw n (.inr hn)) h⟩
 | [],_::_,_,_,_,_,h=>h.elim
 | [],[],_::_,_,_,_,h=>h.elim
 |_::_,[],_,_,_,_,h=>h.elim
 |_::_,_::_,[],_,_,_,h=>h.elim
theorem trodAll_stays {g:Nat} (hl:laidOutB P=true) {w':World} (hb:Below w.heap.size w w'):∀ {ts:List TypeId} {vs:List Value} {ds:List (DataW H)} {ps:List MemPlace},okTs P g ts=true→
 (∀ x∈ps,x.block < w.heap.size)→
 DataW.TrodAll enc P w 0 (fun _=>true) true ts vs ds ps→DataW.TrodAll enc P w' 0 (fun b=>decide (b < w.heap.size)) true ts vs ds ps
 | [],[],[],_,_,_,h=>h
 |t::ts,v::vs,d::ds,_,hok,hlt,⟨p,q,hd,h,e⟩=>by
  subst e
  simp only[okTs,List.all_cons,Bool.and_eq_true] at hok
  exact⟨p,q,Below.trod hl hok.1.1.2 (of_decide_eq_true hok.1.2) hd hb (fun x hx=>hlt x (List.mem_append.2 (.inl hx))),
   trodAll_stays hl hb (by simp only[okTs];exact hok.2) (fun x hx=>hlt x (List.mem_append.2 (.inr hx))) h,rfl⟩
 | [],_::_,_,_,_,_,h=>h.elim
 | [],[],_::_,_,_,_,h=>h.elim
 |_::_,[],_,_,_,_,h=>h.elim
 |_::_,_::_,[],_,_,_,h=>h.elim
end
theorem law_lifted {H:Type} {enc:TypeId×Value→H} {C:Checked} {os:Os} {f:FuncId} {fn:Func} {F:List PV→Option PV} {s:ChangeSpec} {bt:TypeId} {ts:List TypeId} (g:Nat)
 (own:ownKnob C.prog.godebug=none) (laid:laidOutB C.prog=true) (started:os.Started) (noInit:C.prog.inits.idxOf? f=none) (hfn:C.prog.funcs[f]? =some fn)
 (witness:∃ (w:World) (tape:Tape) (i:Input),w.os=os∧(w.forCall tape i).Shaped C.prog∧i.vars=[]∧Input.okWide C.prog (w.forCall tape i) .any w.heap.size f i∧
  s.pre6 enc C.prog fn [] false (w.forCall tape i).memory i.args∧({}:Assume).holds C.prog (lone (Frame.enter C.prog f i.args .normal) [] (w.forCall tape i)))
 (hvars:s.vars=[]) (hplain:s.plain.varTypes C.prog=[]) (hts:fn.params=ts.toArray) (hres:fn.resultTypes= #[bt]) (hbt:C.prog.underlying bt=some .bool)
 (hok:okTs C.prog g ts=true) (hpure:PureFn C.prog f F)
 (hspec:∀ ds:List (DataW H),ds.length=ts.length→s.fn H (ds++[])={results:=[.lit (.bool true)],args:=ds})
 (run:∀ ds:List (DataW H),Shs C.prog g ts ds→F (pvs C.prog g ts ds)=some (.bool true)):
 ReturnsInHanded {} C os f .any (s.pre6 enc C.prog fn [] false) (s.post enc C.prog fn false true false false):=by
 refine returnsInHanded_of_change_sized own started noInit hfn witness ?_
 intro W base args ds gs before hval0 hW _ hwt _
 have hval:∀ (j:Nat) t v,ts[j]? =some t→args.toList[j]? =some v→Value.okWide C.prog W .any base t v:=by
  intro j t v ht hv
  exact hval0 j t v (by rw[hts];simpa using ht) (by simpa using hv)
 have hW':=hW
 obtain⟨p,q,hA0,hV,rfl,_,_⟩:=hW
 rw[hvars] at hV
 obtain⟨rfl,rfl⟩:=trodVars_none hV
 have hA:DataW.TrodAll enc C.prog W 0 (fun _=>true) true ts args.toList ds p:=by rw[hts] at hA0;simpa using hA0
 have hlt:∀ x∈p,x.block < W.heap.size:=fun x hx=>by simpa using hW'.lt x (by simpa using hx)
 have hw':∀ n∈DataW.weightsEach C.prog ts ds,n≤reachBytes:=by
  intro n hn
  rw[hts,hplain] at hwt
  simp only[List.append_nil] at hwt
  have:=List.all_eq_true.1 hwt n (by simpa using hn)
  simpa using this
 have hrel:=trodAll_rel hok hval hA
 have hr:=run ds (trodAll_sh hok hw' hA)
 refine (law_calls hpure hrel hr).mono fun e W' ⟨he,hb⟩=> ?_
 subst he
 have hs:=hspec ds (trodAll_len hA).2
 refine⟨_,rfl,ds,[],p++[],[],p,[],hW',?_,?_,?_,hb.frame _,fun h=>by cases h⟩
 ·rw[hs,hres]
  exact trodAll_mk1 (shut_bool hbt _)
 ·rw[hs,hts]
  exact trodAll_stays laid hb hok hlt hA
 ·rw[hs,hvars]
  exact rfl
theorem shs_cons {P:Program} {H:Type} {g:Nat} {t:TypeId} {ts:List TypeId} {ds:List (DataW H)} (h:Shs P g (t::ts) ds):∃ d r,ds=d::r∧Sh P g t (rowOf P g t d)∧Shs P g ts r:=by
 cases ds with
 |nil=>exact h.elim
 |cons d r=>exact⟨d,r,rfl,h.1,h.2⟩
theorem shs_nil {P:Program} {H:Type} {g:Nat} {ds:List (DataW H)} (h:Shs P g [] ds):ds=[]:=by
 cases ds with
 |nil=>rfl
 |cons d r=>exact h.elim
theorem shs_one {P:Program} {H:Type} {g:Nat} {t:TypeId} {ds:List (DataW H)} (h:Shs P g [t] ds):∃ row,pvs P g [t] ds=[elPV P t row]∧Sh P g t row:=by
 obtain⟨d,r,rfl,h1,h2⟩:=shs_cons h
 obtain rfl:=shs_nil h2
 exact⟨_,rfl,h1⟩
theorem shs_two {P:Program} {H:Type} {g:Nat} {t u:TypeId} {ds:List (DataW H)} (h:Shs P g [t,u] ds):∃ row row',pvs P g [t,u] ds=[elPV P t row,elPV P u row']∧Sh P g t row∧Sh P g u row':=by
 obtain⟨d,r,rfl,h1,h2⟩:=shs_cons h
 obtain⟨row,e,h3⟩:=shs_one h2
 exact⟨_,row,by rw[pvs,e],h1,h3⟩
theorem shs_three {P:Program} {H:Type} {g:Nat} {t u v:TypeId} {ds:List (DataW H)} (h:Shs P g [t,u,v] ds):∃ row row' row'',pvs P g [t,u,v] ds=[elPV P t row,elPV P u row',elPV P v row'']∧Sh P g t row∧Sh P g u row'∧Sh P g v row'':=by
 obtain⟨d,r,rfl,h1,h2⟩:=shs_cons h
 obtain⟨row,row',e,h3,h4⟩:=shs_two h2
 exact⟨_,row,row',by rw[pvs,e],h1,h3,h4⟩
section
variable {P:Program} {g:Nat} {t e:TypeId} {row:List PV}
theorem sh_int {k:IntKind} (hu:P.underlying t=some (.int k)) (h:Sh P (g+1) t row):∃ n,row=[.int k n]∧(Lit.int k n).wf=true:=by
 simpa only[Sh,hu] using h
theorem sh_string (hu:P.underlying t=some .string) (h:Sh P (g+1) t row):∃ s:ByteArray,row=[.str s]∧s.size≤reachBytes:=by
 simpa only[Sh,hu] using h
theorem sh_bool (hu:P.underlying t=some .bool) (h:Sh P (g+1) t row):∃ b,row=[.bool b]:=by
 simpa only[Sh,hu] using h
theorem sh_slice (hu:P.underlying t=some (.slice e)) (h:Sh P (g+1) t row):
 row=[.nils]∨∃ es:List (List PV),row=[.lit (P.cellsOf e) (es.map (elPV P e))]∧es.length≤maxLen∧es.length * P.bytesOf e≤reachBytes∧∀ r∈es,Sh P g e r:=by
 simpa only[Sh,hu] using h
theorem sh_ptr (hu:P.underlying t=some (.pointer e)) (h:Sh P (g+1) t row):row=[.nilp]∨∃ r,row=[.rp r 0]∧Sh P g e r:=by
 simpa only[Sh,hu] using h
theorem sh_struct {fs:Array Field} (hu:P.underlying t=some (.struct fs)) (h:Sh P (g+1) t row):
 ∃ rows:List (List PV),rows.length=fs.size∧row=rows.flatten∧∀ (i:Nat) (f:Field) (r:List PV),fs.toList[i]? =some f→rows[i]? =some r→Sh P g f.type r:=by
 simpa only[Sh,hu] using h
theorem sh_array {n:Nat} (hu:P.underlying t=some (.array n e)) (h:Sh P (g+1) t row):∃ es:List (List PV),es.length=n∧row=es.flatten∧∀ r∈es,Sh P g e r:=by
 simpa only[Sh,hu] using h
theorem el_int {k:IntKind} (hu:P.underlying t=some (.int k)) {n:Int}:elPV P t [.int k n]= .int k n:=by
 simp[elPV,isAggT,hu]
theorem el_slice (hu:P.underlying t=some (.slice e)) {v:PV}:elPV P t [v]=v:=by
 simp[elPV,isAggT,hu]
theorem el_ptr (hu:P.underlying t=some (.pointer e)) {v:PV}:elPV P t [v]=v:=by
 simp[elPV,isAggT,hu]
theorem el_string (hu:P.underlying t=some .string) {v:PV}:elPV P t [v]=v:=by
 simp[elPV,isAggT,hu]
theorem el_bool (hu:P.underlying t=some .bool) {v:PV}:elPV P t [v]=v:=by
 simp[elPV,isAggT,hu]
theorem el_struct {fs:Array Field} (hu:P.underlying t=some (.struct fs)):elPV P t row= .agg row:=by
 simp[elPV,isAggT,hu]
theorem el_array {n:Nat} (hu:P.underlying t=some (.array n e)):elPV P t row= .agg row:=by
 simp[elPV,isAggT,hu]
theorem sh_ints {k:IntKind} (hu:P.underlying t=some (.slice e)) (hk:P.underlying e=some (.int k)) (h:Sh P (g+2) t row):
 row=[.nils]∨∃ l:List Int,row=[.lit (P.cellsOf e) (l.map (.int k))]∧l.length≤maxLen∧l.length * P.bytesOf e≤reachBytes∧∀ n∈l,(Lit.int k n).wf=true:=by
 rcases sh_slice hu h with h | ⟨es,rfl,h1,h2,h3⟩
 ·exact .inl h
 ·refine .inr ⟨es.map fun r=>match r with | [.int _ n]=>n | _=>0,?_,by simpa using h1,by simpa using h2,?_⟩
  ·congr 2
   rw[List.map_map]
   apply List.map_congr_left
   intro r hr
   obtain⟨n,rfl,_⟩:=sh_int hk (h3 r hr)
   simp[el_int hk]
  ·intro n hn
   obtain⟨r,hr,rfl⟩:=List.mem_map.1 hn
   obtain⟨n,rfl,hw⟩:=sh_int hk (h3 r hr)
   exact hw
end
end Go.AM
set_option linter.unusedSimpArgs false
set_option linter.unusedVariables false
namespace Go.AM
def wpO {α:Type} (Q:α→Prop):Option α→Prop
 |some a=>Q a
 |none=>False
theorem wpO_spec {α:Type} {Q:α→Prop} {o:Option α} (h:wpO Q o):∃ a,o=some a∧Q a:=by
 cases o with
 |none=>exact h.elim
 |some a=>exact⟨a,rfl,h⟩
theorem wpO_of {α:Type} {Q:α→Prop} {o:Option α} {a:α} (h:o=some a) (hq:Q a):wpO Q o:=by subst h;exact hq
theorem wpO_mono {α:Type} {Q R:α→Prop} {o:Option α} (h:wpO Q o) (hq:∀ a,Q a→R a):wpO R o:=by
 cases o with
 |none=>exact h.elim
 |some a=>exact hq a h
theorem wpO_eq {α:Type} {o:Option α} {a:α} (h:wpO (fun x=>x=a) o):o=some a:=by
 cases o with
 |none=>exact h.elim
 |some b=>cases (show b=a from h);rfl
theorem wp_some {α:Type} {Q:α→Prop} {a:α}:wpO Q (some a)=Q a:=rfl
theorem wp_none {α:Type} {Q:α→Prop}:wpO Q none=False:=rfl
theorem wp_guard {α:Type} {Q:α→Prop} {c:Prop} [Decidable c] {a:Option α}:wpO Q (if c then a else none)=(c∧wpO Q a):=by
 by_cases h:c
 ·simp[h]
 ·simp[h,wp_none]
theorem wp_map {α β:Type} {Q:β→Prop} {f:α→β} {o:Option α}:wpO Q (o.map f)=wpO (fun a=>Q (f a)) o:=by cases o <;> rfl
theorem wp_bind {α β:Type} {Q:β→Prop} {f:α→Option β} {o:Option α}:wpO Q (o.bind f)=wpO (fun a=>wpO Q (f a)) o:=by cases o <;> rfl
theorem wp_ite {α:Type} {Q:α→Prop} {c:Prop} [Decidable c] {a b:Option α}:wpO Q (if c then a else b)=((c→wpO Q a)∧(¬ c→wpO Q b)):=by
 by_cases h:c <;> simp[h]
def seqQ (f:St→Option (Ex×St)) (Q:Ex×St→Prop):Ex×St→Prop
 | (.norm,s)=>wpO Q (f s)
 |r=>Q r
def blockQ (id:Nat) (Q:Ex×St→Prop):Ex×St→Prop
 | (.exit id',s)=>if id'=id then Q (.norm,s) else Q (.exit id',s)
 |r=>Q r
theorem seqQ_norm {f:St→Option (Ex×St)} {Q:Ex×St→Prop} {s:St}:seqQ f Q (.norm,s)=wpO Q (f s):=rfl
theorem seqQ_ret {f:St→Option (Ex×St)} {Q:Ex×St→Prop} {s:St}:seqQ f Q (.ret,s)=Q (.ret,s):=rfl
theorem seqQ_exit {f:St→Option (Ex×St)} {Q:Ex×St→Prop} {s:St} {k:Nat}:seqQ f Q (.exit k,s)=Q (.exit k,s):=rfl
theorem blockQ_norm {k:Nat} {Q:Ex×St→Prop} {s:St}:blockQ k Q (.norm,s)=Q (.norm,s):=rfl
theorem blockQ_ret {k:Nat} {Q:Ex×St→Prop} {s:St}:blockQ k Q (.ret,s)=Q (.ret,s):=rfl
theorem blockQ_exit {k j:Nat} {Q:Ex×St→Prop} {s:St}:blockQ k Q (.exit j,s)=if j=k then Q (.norm,s) else Q (.exit j,s):=rfl
theorem wp_seqA {Q:Ex×St→Prop} {f:St→Option (Ex×St)} {r:Option (Ex×St)}:wpO Q (seqA f r)=wpO (seqQ f Q) r:=by
 rcases r with _ | ⟨ex,s⟩
 ·rfl
 ·cases ex <;> rfl
theorem wp_blockA {Q:Ex×St→Prop} {k:Nat} {r:Option (Ex×St)}:wpO Q (blockA k r)=wpO (blockQ k Q) r:=by
 rcases r with _ | ⟨ex,s⟩
 ·rfl
 ·cases ex with
  |exit j=>show wpO Q (if j=k then _ else _)=_;by_cases h:j=k <;> simp[h,wpO,blockQ]
  |_=>rfl
theorem wp_normA {Q:Ex×St→Prop} {r:Option St}:wpO Q (normA r)=wpO (fun s=>Q (.norm,s)) r:=by cases r <;> rfl
theorem wp_startA {Q:Ex×St→Prop} {f:St→Option (Ex×St)} {r:Option St}:wpO Q (startA f r)=wpO (fun s=>wpO Q (f s)) r:=by cases r <;> rfl
theorem wp_condA {Q:Ex×St→Prop} {f g:St→Option (Ex×St)} {s:St} {b:Bool}:wpO Q (condA f g s (some b))=((b=true→wpO Q (f s))∧(b=false→wpO Q (g s))):=by
 cases b <;> simp[condA]
theorem wp_nextA {Q:St→Prop} {f:St→Option St} {r:Option St}:wpO Q (nextA f r)=wpO (fun s=>wpO Q (f s)) r:=by cases r <;> rfl
theorem wp_putR {Q:St→Prop} {d:Option Nat} {e:Tr} {r:Option (AV×List AObj)}:wpO Q (putR d e r)=wpO (fun p=>Q ⟨putA e d p.1,p.2⟩) r:=by
 rcases r with _ | ⟨v,H⟩ <;> rfl
theorem wp_onH {Q:AV×List AObj→Prop} {H:List AObj} {r:Option (AV×List AObj)}:wpO Q (onH H r)=wpO (fun p=>p.2=[]∧Q (p.1,H)) r:=by
 rcases r with _ | ⟨v,_ | ⟨o,H'⟩⟩ <;> simp[onH,wpO]
def outQ (rs:List ARes) (Q:AV×List AObj→Prop):Ex×St→Prop
 | (.exit _,_)=>False
 | (_,s)=>wpO (fun vs=>Q (one1 vs,s.H)) (mapO (resA s) rs)
theorem outQ_norm {rs:List ARes} {Q:AV×List AObj→Prop} {s:St}:outQ rs Q (.norm,s)=wpO (fun vs=>Q (one1 vs,s.H)) (mapO (resA s) rs):=rfl
theorem outQ_ret {rs:List ARes} {Q:AV×List AObj→Prop} {s:St}:outQ rs Q (.ret,s)=wpO (fun vs=>Q (one1 vs,s.H)) (mapO (resA s) rs):=rfl
theorem wp_outR {Q:AV×List AObj→Prop} {rs:List ARes} {r:Option (Ex×St)}:wpO Q (outR rs r)=wpO (outQ rs Q) r:=by
 rcases r with _ | ⟨ex,s⟩
 ·rfl
 ·cases ex with
  |exit=>rfl
  |norm=>rw[outR_norm,wp_bind];rfl
  |ret=>rw[outR_ret,wp_bind];rfl
theorem wp_guardA {Q:St→Prop} {f g:St→Option St} {s:St} {b:Bool}:wpO Q (guardA f g s (some b))=((b=true→wpO Q (f s))∧(b=false→wpO Q (g s))):=by
 cases b <;> simp[guardA]
theorem putA_some (e:Tr) (d:Nat) (v:AV):putA e (some d) v=e.set d v:=rfl
theorem putA_none (e:Tr) (v:AV):putA e none v=e:=rfl
def LQ (I:Nat→St→Prop) (Q:Ex×St→Prop) (k:Nat):Ex×St→Prop
 | (.norm,s)=>∃ j,j < k∧I j s
 |r=>Q r
theorem loopA_wp {g:St→Option (Ex×St)} (I:Nat→St→Prop) {Q:Ex×St→Prop}:∀ (n k:Nat) (s:St),k < n→I k s→
 (∀ k t,I k t→wpO (LQ I Q k) (g t))→wpO (fun r=>r.1.stop=true∧Q r) (loopA g n s):=by
 intro n
 induction n with
 |zero=>intro k s h;omega
 |succ n ih=>
  intro k s h hI hs
  show wpO _ (seqA (loopA g n) (g s))
  obtain⟨⟨ex,t⟩,h1,h2⟩:=wpO_spec (hs k s hI)
  rw[h1]
  cases ex with
  |norm=>
   obtain⟨j,hj,hJ⟩:=h2
   exact ih j t (by omega) hJ hs
  |exit=>exact⟨rfl,h2⟩
  |ret=>exact⟨rfl,h2⟩
def LN (I:Nat→St→Prop) (Q:Ex×St→Prop) (i:Nat):Ex×St→Prop
 | (.norm,s)=>I (i+1) s
 |r=>Q r
theorem loopN_wp {g:St→Option (Ex×St)} (I:Nat→St→Prop) {Q:Ex×St→Prop} (N:Nat) (hN:N < rounds) (s:St) (h0:I 0 s)
 (hs:∀ i t,i < N→I i t→wpO (LN I Q i) (g t)) (he:∀ t,I N t→wpO (fun r=>r.1.stop=true∧Q r) (g t)):
 wpO (fun r=>r.1.stop=true∧Q r) (loopA g rounds s):=by
 refine loopA_wp (fun k t=>∃ i,i+k=N∧I i t) rounds N s hN ⟨0,by omega,h0⟩ ?_
 rintro k t ⟨i,hi,hI⟩
 rcases Nat.eq_zero_or_pos k with h | h
 ·obtain⟨⟨ex,u⟩,h1,h2,h3⟩:=wpO_spec (he t (by rw[show N=i by omega];exact hI))
  rw[h1]
  cases ex with
  |norm=>cases h2
  |exit=>exact h3
  |ret=>exact h3
 ·obtain⟨⟨ex,u⟩,h1,h2⟩:=wpO_spec (hs i t (by omega) hI)
  rw[h1]
  cases ex with
  |norm=>exact⟨k - 1,by omega,i+1,by omega,h2⟩
  |exit=>exact h2
  |ret=>exact h2
theorem stop_cases {ex:Ex} {s:St} (h:ex.stop=true):(∃ k,ex= .exit k)∨ex= .ret:=by
 cases ex with
 |norm=>cases h
 |exit k=>exact .inl ⟨k,rfl⟩
 |ret=>exact .inr rfl
theorem idx_nat {i n:Nat}:idxOk (i:Int) n=(i < n):=by unfold idxOk;simp
theorem dec_nat_lt {i n:Nat}:decide ((i:Int) < (n:Int))=decide (i < n):=by simp
theorem wrap_nat {n:Nat} (h:n≤9223372036854775807):IntKind.i64.wrap (n:Int)=n:=wrap_int (by omega)
theorem wrap_nat1 {n:Nat} (h:n+1≤9223372036854775807):IntKind.i64.wrap ((n:Int)+1)=((n+1:Nat):Int):=wrap_int (by omega)
theorem deep_eq':deep=5+1:=rfl
theorem toPV_pv' (H:List AObj) (d:Nat) (p:PV):toPV H d (.pv p)=some p:=by cases d <;> rfl
end Go.AM
set_option linter.unusedSimpArgs false
set_option linter.unusedVariables false
namespace Go.AM.So
open Go.AM
def flatR (D:Array (List PV)):List AV:=D.toList.flatten.map .pv
def rowsObj (sz:Nat) (D:Array (List PV)) (fl:Nat) (nl:Bool):AObj:= .seq sz true (flatR D) fl nl
def RowSz (sz:Nat) (r:List PV):Prop:=r.length=sz∧∀ c∈r,(AV.pv c).one=true
theorem flat_len {α:Type} {sz:Nat}:∀ {l:List (List α)},(∀ r∈l,r.length=sz)→l.flatten.length=l.length * sz
 | [],_=>by simp
 |r::l,h=>by
  rw[List.flatten_cons,List.length_append,h r (by simp),flat_len fun x hx=>h x (by simp[hx]),List.length_cons,Nat.add_mul];omega
theorem flat_take {α:Type} {sz:Nat}:∀ {l:List (List α)} {i:Nat} (hi:i < l.length),(∀ r∈l,r.length=sz)→(l.flatten.drop (i * sz)).take sz=l[i]
 |r::l,0,_,h=>by
  have:=h r (by simp)
  rw[Nat.zero_mul,List.drop_zero,List.flatten_cons,List.take_append_of_le_length (by omega),List.take_of_length_le (by omega)];rfl
 |r::l,i+1,hi,h=>by
  have h1:=h r (by simp)
  rw[List.flatten_cons,List.getElem_cons_succ,←flat_take (sz:=sz) (l:=l) (i:=i) (by simpa using hi) fun x hx=>h x (by simp[hx])]
  have e:(i+1) * sz=r.length+i * sz:=by rw[h1,Nat.add_mul];omega
  rw[e,List.drop_append,List.drop_eq_nil_of_le (by omega),List.nil_append,Nat.add_sub_cancel_left]
theorem setRow_get {α:Type}:∀ (vs cs:List α) (off p:Nat),(setRow cs off vs)[p]? =if h:off≤p∧p < off+vs.length∧p < cs.length then vs[p - off]? else cs[p]?
 | [],cs,off,p=>by simp[setRow];intro h1 h2;omega
 |v::vs,cs,off,p=>by
  rw[setRow,setRow_get vs]
  by_cases hp:p=off
  ·subst hp
   rw[dif_neg (by omega)]
   by_cases hc:p < cs.length
   ·rw[List.getElem?_set_self hc,dif_pos ⟨by omega,by simp,hc⟩];simp
   ·rw[dif_neg (by omega),List.getElem?_eq_none (by simp;omega),List.getElem?_eq_none (by omega)]
  ·rw[List.getElem?_set_ne (by omega)]
   by_cases h1:off+1≤p∧p < off+1+vs.length∧p < cs.length
   ·rw[dif_pos (by simpa using h1),dif_pos ⟨by omega,by simp;omega,by omega⟩]
    have:p - off=(p - (off+1))+1:=by omega
    rw[this,List.getElem?_cons_succ]
   ·rw[dif_neg (by simpa using h1),dif_neg]
    rintro⟨h2,h3,h4⟩
    simp at h3
    exact h1 ⟨by omega,by omega,h4⟩
theorem flat_set {α:Type} {sz:Nat} {l:List (List α)} {i:Nat} (hi:i < l.length) (h:∀ r∈l,r.length=sz) {r:List α} (hr:r.length=sz):
 setRow l.flatten (i * sz) r=(l.set i r).flatten:=by
 induction l generalizing i with
 |nil=>simp at hi
 |cons a l ih=>
  have ha:=h a (by simp)
  cases i with
  |zero=>
   rw[Nat.zero_mul,List.set_cons_zero,List.flatten_cons,List.flatten_cons]
   apply List.ext_getElem?
   intro p
   rw[setRow_get]
   by_cases hp:p < sz
   ·rw[dif_pos ⟨by omega,by omega,by rw[List.length_append];omega⟩,List.getElem?_append_left (by omega)];simp
   ·rw[dif_neg (by omega),List.getElem?_append_right (by omega),List.getElem?_append_right (by omega),ha,hr]
  |succ i=>
   have hi':i < l.length:=by simpa using hi
   rw[List.set_cons_succ,List.flatten_cons,List.flatten_cons,←ih hi' fun x hx=>h x (by simp[hx])]
   have e:(i+1) * sz=a.length+i * sz:=by rw[ha,Nat.add_mul];omega
   rw[e]
   apply List.ext_getElem?
   intro p
   rw[setRow_get]
   by_cases hp:p < a.length
   ·rw[dif_neg (by omega),List.getElem?_append_left hp,List.getElem?_append_left hp]
   ·rw[List.getElem?_append_right (by omega),List.getElem?_append_right (by omega),setRow_get]
    have e2:(a.length+i * sz≤p∧p < a.length+i * sz+r.length∧p < (a++l.flatten).length)=(i * sz≤p - a.length∧p - a.length < i * sz+r.length∧p - a.length < l.flatten.length):=by
     rw[List.length_append];apply propext;constructor <;> rintro⟨h1,h2,h3⟩ <;> exact⟨by omega,by omega,by omega⟩
    simp only[e2]
    have e3:p - (a.length+i * sz)=p - a.length - i * sz:=by omega
    rw[e3]
theorem map_setRow {α β:Type} (f:α→β):∀ (vs cs:List α) (off:Nat),(setRow cs off vs).map f=setRow (cs.map f) off (vs.map f)
 | [],cs,off=>rfl
 |v::vs,cs,off=>by rw[setRow,map_setRow f vs,List.map_set];rfl
theorem flatR_len {sz:Nat} {D:Array (List PV)} (h:∀ r∈D.toList,RowSz sz r):(flatR D).length=D.size * sz:=by
 rw[flatR,List.length_map,flat_len fun r hr=>(h r hr).1];rfl
theorem allPV_map (l:List PV):allPV (l.map .pv)=some l:=by
 induction l with
 |nil=>rfl
 |cons a l ih=>rw[List.map_cons,allPV,ih];rfl
def HGood (H:List AObj):Prop:=∀ n,H.length≤n→∀ o∈H,cutObj n o=some o
theorem mapO_id {α:Type} {f:α→Option α}:∀ {l:List α},(∀ a∈l,f a=some a)→mapO f l=some l
 | [],_=>rfl
 |a::l,h=>by rw[mapO,h a (by simp),mapO_id fun x hx=>h x (by simp[hx])];rfl
theorem rowsObj_cut (sz:Nat) (D:Array (List PV)) (fl:Nat) (nl:Bool) (n:Nat):cutObj n (rowsObj sz D fl nl)=some (rowsObj sz D fl nl):=by
 have:(flatR D).all (AV.keep n deep)=true:=by
  rw[List.all_eq_true]
  intro v hv
  obtain⟨p,_,rfl⟩:=List.mem_map.1 hv
  rfl
 simp[cutObj,rowsObj,this]
structure Hp (id sz:Nat) (P:List PV→Prop) (H0:List AObj) (D:Array (List PV)) (H:List AObj):Prop where
 le:H0.length≤H.length
 good:HGood H
 keep:∀ k,k < H0.length→k≠id→H[k]? =H0[k]?
 get:∃ fl nl,fl≤D.size * sz∧H[id]? =some (rowsObj sz D fl nl)
 rows:∀ r∈D.toList,P r
 lt:id < H0.length
section
variable {id sz:Nat} {P:List PV→Prop} {H0 H:List AObj} {D:Array (List PV)} (hP:∀ r,P r→RowSz sz r)
theorem Hp.refl {fl:Nat} {nl:Bool} (hg:HGood H) (hf:fl≤D.size * sz) (h:H[id]? =some (rowsObj sz D fl nl)) (hr:∀ r∈D.toList,P r):Hp id sz P H D H:=
 ⟨Nat.le_refl _,hg,fun _ _ _=>rfl,⟨fl,nl,hf,h⟩,hr,(List.getElem?_eq_some_iff.1 h).1⟩
theorem Hp.same (h:Hp id sz P H0 D H):Hp id sz P H D H:=⟨Nat.le_refl _,h.good,fun _ _ _=>rfl,h.get,h.rows,Nat.lt_of_lt_of_le h.lt h.le⟩
theorem Hp.trans {H':List AObj} {D':Array (List PV)} (h:Hp id sz P H0 D H) (h':Hp id sz P H D' H'):Hp id sz P H0 D' H':=
 ⟨Nat.le_trans h.le h'.le,h'.good,fun k hk hne=>(h'.keep k (Nat.lt_of_lt_of_le hk h.le) hne).trans (h.keep k hk hne),h'.get,h'.rows,h.lt⟩
theorem getB {D:Array (List PV)} {i:Nat} (hi:i < D.size):D[i]! =D[i]:=getElem!_pos D i hi
theorem getB_mem {D:Array (List PV)} {i:Nat} (hi:i < D.size):D[i]! ∈D.toList:=by rw[getB hi];simp
include hP
theorem Hp.iaddr (h:Hp id sz P H0 D H) {n:Nat} (hn:n=D.size) {i:Int} {k:Nat} (hi:i=(k:Int)) (hk:k < D.size):iaddrA' H sz (.own id n) i=some (.eptr id (n * sz) (k * sz)):=by
 obtain⟨fl,nl,hf,hg⟩:=h.get
 have hl:=flatR_len fun r hr=>hP r (h.rows r hr)
 subst hn hi
 simp only[iaddrA',hg,rowsObj]
 rw[if_pos (by refine⟨trivial,?_,?_⟩ <;> first | (unfold idxOk;omega) | (unfold winOk;omega))]
 simp
theorem Hp.load (h:Hp id sz P H0 D H) {n:Nat} (hn:n=D.size) {k:Nat} (hk:k < D.size):loadA H true sz (.eptr id (n * sz) (k * sz))=some (.pv (.agg D[k]!)):=by
 obtain⟨fl,nl,hf,hg⟩:=h.get
 have hl:=flatR_len fun r hr=>hP r (h.rows r hr)
 subst hn
 have hle:k * sz+sz≤D.size * sz:=by
  have:(k+1) * sz≤D.size * sz:=Nat.mul_le_mul_right _ hk
  rw[Nat.add_mul] at this;omega
 simp only[loadA,hg,rowsObj,hl,partA,if_true]
 rw[if_pos hle]
 have e:((flatR D).drop (k * sz)).take sz=D[k]!.map .pv:=by
  rw[flatR,←List.map_drop,←List.map_take,flat_take (l:=D.toList) (i:=k) (by simpa using hk) fun r hr=>(hP r (h.rows r hr)).1,getB hk]
  simp
 rw[e]
 simp[mkAgg,allPV_map]
theorem Hp.store (h:Hp id sz P H0 D H) {n:Nat} (hn:n=D.size) {k:Nat} (hk:k < D.size) {r:List PV} (hr:P r):
 ∃ H',storeA H sz (.eptr id (n * sz) (k * sz)) (.pv (.agg r))=some H'∧Hp id sz P H0 (D.setIfInBounds k r) H'∧H'.length=H.length:=by
 obtain⟨fl,nl,hf,hg⟩:=h.get
 have hl:=flatR_len fun r hr=>hP r (h.rows r hr)
 subst hn
 have hle:k * sz+sz≤D.size * sz:=by
  have:(k+1) * sz≤D.size * sz:=Nat.mul_le_mul_right _ hk
  rw[Nat.add_mul] at this;omega
 have hro:=hP r hr
 have hall:((AV.pv (.agg r)).cells.all AV.one)=true:=by
  rw[List.all_eq_true]
  intro v hv
  obtain⟨c,hc,rfl⟩:=List.mem_map.1 hv
  exact hro.2 c hc
 have hlt:id < H.length:=Nat.lt_of_lt_of_le h.lt h.le
 have he:setRow (flatR D) (k * sz) ((AV.pv (.agg r)).cells)=flatR (D.setIfInBounds k r):=by
  show setRow (D.toList.flatten.map AV.pv) (k * sz) (r.map AV.pv)=_
  rw[← map_setRow,flat_set (by simpa using hk) (fun r hr=>(hP r (h.rows r hr)).1) hro.1,flatR,Array.toList_setIfInBounds]
 refine⟨H.set id (rowsObj sz (D.setIfInBounds k r) (D.size * sz) nl),?_,⟨by simpa using h.le,?_,?_,⟨D.size * sz,nl,by simp,List.getElem?_set_self hlt⟩,?_,h.lt⟩,by simp⟩
 ·simp only[storeA,hg,rowsObj]
  have hcl:(AV.pv (.agg r)).cells.length=sz:=by show (r.map AV.pv).length=sz;rw[List.length_map];exact hro.1
  rw[if_pos ⟨hcl,hall⟩,if_pos ⟨hl,hle⟩,he]
 ·intro m hm o ho
  rcases List.mem_or_eq_of_mem_set ho with h1 | h1
  ·exact h.good m (by simpa using hm) o h1
  ·subst h1;exact rowsObj_cut _ _ _ _ _
 ·intro k hk hne
  rw[List.getElem?_set_ne (Ne.symm hne)];exact h.keep k hk hne
 ·intro x hx
  rw[Array.toList_setIfInBounds] at hx
  rcases List.mem_or_eq_of_mem_set hx with h1 | h1
  ·exact h.rows x h1
  ·subst h1;exact hr
omit hP in
theorem Hp.clean (h:Hp id sz P H0 D H) {n:Nat} (hn:n=H0.length) (g0:HGood H0):mapO (cutObj n) (H.take n)=some (H.take n)∧Hp id sz P H0 D (H.take n)∧(H.take n).length=n:=by
 subst hn
 have hle:=h.le
 have hmem:∀ o∈H.take H0.length,∀ m,H0.length≤m→cutObj m o=some o:=by
  intro o ho m hm
  obtain⟨k,hk⟩:=List.getElem?_of_mem ho
  have hk2:k < H0.length:=by have:=(List.getElem?_eq_some_iff.1 hk).1;simp at this;omega
  rw[List.getElem?_take_of_lt hk2] at hk
  by_cases hid:k=id
  ·subst hid
   obtain⟨fl,nl,_,hg⟩:=h.get
   rw[hg] at hk;injection hk with hk;subst hk
   exact rowsObj_cut _ _ _ _ _
  ·rw[h.keep k hk2 hid] at hk
   exact g0 m hm o (List.mem_of_getElem? hk)
 have hlen:(H.take H0.length).length=H0.length:=by simp;omega
 refine⟨mapO_id fun o ho=>hmem o ho _ (Nat.le_refl _),⟨by omega,fun m hm o ho=>hmem o ho m (by omega),?_,?_,h.rows,h.lt⟩,hlen⟩
 ·intro k hk hne
  rw[List.getElem?_take_of_lt hk];exact h.keep k hk hne
 ·obtain⟨fl,nl,hf,hg⟩:=h.get
  exact⟨fl,nl,hf,by rw[List.getElem?_take_of_lt h.lt];exact hg⟩
end
end Go.AM.So
set_option linter.unusedVariables false
namespace Go.AM
theorem SP:type_of% (And.intro (And.intro (And.intro (And.intro (And.intro (And.intro (And.intro (And.intro @pureF.eq_1 @runF_go) (And.intro @callL_succ @C_skip)) (And.intro (And.intro @C_region @C_seq) (And.intro @C_cond @C_block))) (And.intro (And.intro (And.intro @C_scope @C_exit) (And.intro @C_ret @C_ghost)) (And.intro (And.intro @ops_cons @ops_nil) (And.intro @oper_go @oper_pr)))) (And.intro (And.intro (And.intro (And.intro @oper_if @guard_t) (And.intro @guard_f @do_go)) (And.intro (And.intro @do_pr @skip_do) (And.intro @skip_no @onH_go))) (And.intro (And.intro (And.intro @evalOp.eq_1 @evalOp.eq_2) (And.intro @evalOp.eq_3 @evalOp.eq_4)) (And.intro (And.intro @evalOp.eq_5 @evalOp.eq_6) (And.intro @evalOp.eq_7 @evalOp.eq_8))))) (And.intro (And.intro (And.intro (And.intro (And.intro @evalOp.eq_9 @evalOp.eq_10) (And.intro @evalOp.eq_11 @evalOp.eq_12)) (And.intro (And.intro @evalOp.eq_13 @evalOp.eq_14) (And.intro @evalOp.eq_15 @evalOp.eq_16))) (And.intro (And.intro (And.intro @evalOp.eq_17 @evalOp.eq_18) (And.intro @evalOp.eq_19 @evalOp.eq_20)) (And.intro (And.intro @evalOp.eq_21 @evalOp.eq_22) (And.intro @evalOp.eq_23 @evalOp.eq_24)))) (And.intro (And.intro (And.intro (And.intro @evalOp.eq_25 @evalOp.eq_26) (And.intro @evalOp.eq_27 @evalOp.eq_28)) (And.intro (And.intro @evalOp.eq_29 @evalOp.eq_30) (And.intro @evalOp.eq_31 @evalOp.eq_32))) (And.intro (And.intro (And.intro @evalOp.eq_33 @evalOp.eq_34) (And.intro @evalOp.eq_35 @evalOp.eq_36)) (And.intro (And.intro @evalOp.eq_37 @evalOp.eq_38) (And.intro @evalOp.eq_39 @evalOp.eq_40)))))) (And.intro (And.intro (And.intro (And.intro (And.intro (And.intro @evalOp.eq_41 @List.map.eq_1.{0,0}) (And.intro @List.map.eq_2.{0,0} @List.length.eq_1.{0})) (And.intro (And.intro @List.length.eq_2.{0} @if_true.{0}) (And.intro @argEnv.eq_1 @argEnv.eq_2))) (And.intro (And.intro (And.intro @AO.ev.eq_1 @AO.ev.eq_2) (And.intro @AO.ev.eq_3 @Tr.get_set)) (And.intro (And.intro @wantedA.eq_1 @wantedA.eq_2) (And.intro @putR_do @putR_no)))) (And.intro (And.intro (And.intro (And.intro @nextA_some @seqA_norm) (And.intro @seqA_ret @seqA_exit)) (And.intro (And.intro @normA_some @condA_t) (And.intro @condA_f @startA_go))) (And.intro (And.intro (And.intro @blockA_norm @blockA_ret) (And.intro @blockA_exit @AV.cells.eq_1)) (And.intro (And.intro @AV.cells.eq_2 @AV.cells.eq_3) (And.intro @PV.cells.eq_1 @PV.cells.eq_2))))) (And.intro (And.intro (And.intro (And.intro (And.intro @outR_ret @outR_norm) (And.intro @resA.eq_1 @resA.eq_2)) (And.intro (And.intro @one1.eq_1 @one1.eq_2) (And.intro @mapO.eq_1 @mapO.eq_2))) (And.intro (And.intro (And.intro @toPV.eq_1 @toPV.eq_2) (And.intro @toPV.eq_3 @toPV.eq_4)) (And.intro (And.intro @toPV.eq_5 @toPV.eq_6) (And.intro @toPV.eq_7 @toPV.eq_8)))) (And.intro (And.intro (And.intro (And.intro @Option.bind_some.{0,0} @Option.map_some.{0,0}) (And.intro @AV.one.eq_1 @AV.one.eq_2)) (And.intro (And.intro @AV.one.eq_3 @AV.one.eq_4) (And.intro @AV.one.eq_5 @AV.one.eq_6))) (And.intro (And.intro (And.intro @List.all.eq_1.{0} @List.all.eq_2.{0}) (And.intro @Bool.and_self @true_and)) (And.intro (And.intro @and_self @and_true) (And.intro @flatV.eq_1 @flatV.eq_2))))))) (And.intro (And.intro (And.intro (And.intro (And.intro (And.intro (And.intro @flatV.eq_3 @flatV.eq_4) (And.intro @flatV.eq_5 @flatV.eq_6)) (And.intro (And.intro @Bool.or_true @Bool.true_or) (And.intro @unA.eq_1 @unA.eq_2))) (And.intro (And.intro (And.intro @unA.eq_3 @unA.eq_4) (And.intro @asBool.eq_1 @asBool.eq_2)) (And.intro (And.intro @asInt.eq_1 @asInt.eq_2) (And.intro @Bool.not_true @Bool.not_false)))) (And.intro (And.intro (And.intro (And.intro @fillA.eq_1 @fillA.eq_2) (And.intro @mkAgg.eq_1 @mkTup.eq_1)) (And.intro (And.intro @allPV.eq_1 @allPV.eq_2) (And.intro @allPV.eq_3 @lenA_nils))) (And.intro (And.intro (And.intro @lenA_lit @lenA_uq) (And.intro @lenA_str @lenA_nilm)) (And.intro (And.intro @lenA_own @lenA_mp) (And.intro @binA.eq_1 @binA.eq_2))))) (And.intro (And.intro (And.intro (And.intro (And.intro @binA.eq_3 @binA.eq_4) (And.intro @binA.eq_5 @intBin.eq_1)) (And.intro (And.intro @intBin.eq_2 @intBin.eq_3) (And.intro @intBin.eq_4 @intBin.eq_5))) (And.intro (And.intro (And.intro @intBin.eq_6 @intBin.eq_7) (And.intro @intBin.eq_8 @intBin.eq_9)) (And.intro (And.intro @intBin.eq_10 @intBin.eq_11) (And.intro @intBin.eq_12 @intBin.eq_13)))) (And.intro (And.intro (And.intro (And.intro @intBin.eq_14 @intBin.eq_15) (And.intro @eqA.eq_1 @eqA.eq_2)) (And.intro (And.intro @eqA.eq_3 @eqA.eq_4) (And.intro @eqA.eq_5 @eqA.eq_6))) (And.intro (And.intro (And.intro @eqA.eq_7 @eqA.eq_8) (And.intro @eqA.eq_9 @eqA.eq_10)) (And.intro (And.intro @eqA.eq_11 @eqA.eq_12) (And.intro @fresh.eq_1 @fresh.eq_2)))))) (And.intro (And.intro (And.intro (And.intro (And.intro (And.intro @fresh.eq_3 @chunk.eq_1) (And.intro @chunk.eq_2 @List.append.eq_1.{0})) (And.intro (And.intro @List.append.eq_2.{0} @List.nil_append.{0}) (And.intro @List.cons_append.{0} @List.getElem?_cons_zero.{0}))) (And.intro (And.intro (And.intro @List.getElem?_cons_succ.{0} @List.getElem?_nil.{0}) (And.intro @List.set_cons_zero.{0} @List.set_cons_succ.{0})) (And.intro (And.intro @List.length_cons.{0} @List.length_nil.{0}) (And.intro @Nat.zero_add @Nat.add_zero)))) (And.intro (And.intro (And.intro (And.intro @List.drop.eq_1.{0} @List.drop.eq_2.{0}) (And.intro @List.drop.eq_3.{0} @List.take.eq_1.{0})) (And.intro (And.intro @List.take.eq_2.{0} @List.take.eq_3.{0}) (And.intro @flat.eq_1 @flat.eq_2))) (And.intro (And.intro (And.intro @elemsP.eq_1 @elemsP.eq_2) (And.intro @elemsP.eq_3 @elemsP.eq_4)) (And.intro (And.intro @elemsP.eq_5 @nilApp.eq_1) (And.intro @nilApp.eq_2 @nilApp.eq_3))))) (And.intro (And.intro (And.intro (And.intro (And.intro @nilApp.eq_4 @Bool.false_eq_true) (And.intro @beq_self_eq_true.{0} @bne_self_eq_false.{0})) (And.intro (And.intro @Bool.not_eq_true @decide_true) (And.intro @decide_false @Nat.le_refl))) (And.intro (And.intro (And.intro @Option.bind_none.{0,0} @Option.map_none.{0,0}) (And.intro @b_tt @b_tf)) (And.intro (And.intro @b_ft @b_ff) (And.intro @pvInt.eq_1 @Int.cast_ofNat_Int)))) (And.intro (And.intro (And.intro (And.intro @repZ.eq_1 @repZ.eq_2) (And.intro @Bool.false_and @Bool.and_false)) (And.intro (And.intro @List.headD_cons.{0} @List.headD_nil.{0}) (And.intro @Nat.lt_add_one @Nat.sub_zero))) (And.intro (And.intro (And.intro @List.isEmpty_cons.{0} @List.isEmpty_nil.{0}) (And.intro @AV.free.eq_1 @AV.free.eq_2)) (And.intro (And.intro @AV.free.eq_3 @Bool.or_false) (And.intro @Bool.false_or @Nat.mul_one)))))))):=
 (And.intro (And.intro (And.intro (And.intro (And.intro (And.intro (And.intro (And.intro @pureF.eq_1 @runF_go) (And.intro @callL_succ @C_skip)) (And.intro (And.intro @C_region @C_seq) (And.intro @C_cond @C_block))) (And.intro (And.intro (And.intro @C_scope @C_exit) (And.intro @C_ret @C_ghost)) (And.intro (And.intro @ops_cons @ops_nil) (And.intro @oper_go @oper_pr)))) (And.intro (And.intro (And.intro (And.intro @oper_if @guard_t) (And.intro @guard_f @do_go)) (And.intro (And.intro @do_pr @skip_do) (And.intro @skip_no @onH_go))) (And.intro (And.intro (And.intro @evalOp.eq_1 @evalOp.eq_2) (And.intro @evalOp.eq_3 @evalOp.eq_4)) (And.intro (And.intro @evalOp.eq_5 @evalOp.eq_6) (And.intro @evalOp.eq_7 @evalOp.eq_8))))) (And.intro (And.intro (And.intro (And.intro (And.intro @evalOp.eq_9 @evalOp.eq_10) (And.intro @evalOp.eq_11 @evalOp.eq_12)) (And.intro (And.intro @evalOp.eq_13 @evalOp.eq_14) (And.intro @evalOp.eq_15 @evalOp.eq_16))) (And.intro (And.intro (And.intro @evalOp.eq_17 @evalOp.eq_18) (And.intro @evalOp.eq_19 @evalOp.eq_20)) (And.intro (And.intro @evalOp.eq_21 @evalOp.eq_22) (And.intro @evalOp.eq_23 @evalOp.eq_24)))) (And.intro (And.intro (And.intro (And.intro @evalOp.eq_25 @evalOp.eq_26) (And.intro @evalOp.eq_27 @evalOp.eq_28)) (And.intro (And.intro @evalOp.eq_29 @evalOp.eq_30) (And.intro @evalOp.eq_31 @evalOp.eq_32))) (And.intro (And.intro (And.intro @evalOp.eq_33 @evalOp.eq_34) (And.intro @evalOp.eq_35 @evalOp.eq_36)) (And.intro (And.intro @evalOp.eq_37 @evalOp.eq_38) (And.intro @evalOp.eq_39 @evalOp.eq_40)))))) (And.intro (And.intro (And.intro (And.intro (And.intro (And.intro @evalOp.eq_41 @List.map.eq_1.{0,0}) (And.intro @List.map.eq_2.{0,0} @List.length.eq_1.{0})) (And.intro (And.intro @List.length.eq_2.{0} @if_true.{0}) (And.intro @argEnv.eq_1 @argEnv.eq_2))) (And.intro (And.intro (And.intro @AO.ev.eq_1 @AO.ev.eq_2) (And.intro @AO.ev.eq_3 @Tr.get_set)) (And.intro (And.intro @wantedA.eq_1 @wantedA.eq_2) (And.intro @putR_do @putR_no)))) (And.intro (And.intro (And.intro (And.intro @nextA_some @seqA_norm) (And.intro @seqA_ret @seqA_exit)) (And.intro (And.intro @normA_some @condA_t) (And.intro @condA_f @startA_go))) (And.intro (And.intro (And.intro @blockA_norm @blockA_ret) (And.intro @blockA_exit @AV.cells.eq_1)) (And.intro (And.intro @AV.cells.eq_2 @AV.cells.eq_3) (And.intro @PV.cells.eq_1 @PV.cells.eq_2))))) (And.intro (And.intro (And.intro (And.intro (And.intro @outR_ret @outR_norm) (And.intro @resA.eq_1 @resA.eq_2)) (And.intro (And.intro @one1.eq_1 @one1.eq_2) (And.intro @mapO.eq_1 @mapO.eq_2))) (And.intro (And.intro (And.intro @toPV.eq_1 @toPV.eq_2) (And.intro @toPV.eq_3 @toPV.eq_4)) (And.intro (And.intro @toPV.eq_5 @toPV.eq_6) (And.intro @toPV.eq_7 @toPV.eq_8)))) (And.intro (And.intro (And.intro (And.intro @Option.bind_some.{0,0} @Option.map_some.{0,0}) (And.intro @AV.one.eq_1 @AV.one.eq_2)) (And.intro (And.intro @AV.one.eq_3 @AV.one.eq_4) (And.intro @AV.one.eq_5 @AV.one.eq_6))) (And.intro (And.intro (And.intro @List.all.eq_1.{0} @List.all.eq_2.{0}) (And.intro @Bool.and_self @true_and)) (And.intro (And.intro @and_self @and_true) (And.intro @flatV.eq_1 @flatV.eq_2))))))) (And.intro (And.intro (And.intro (And.intro (And.intro (And.intro (And.intro @flatV.eq_3 @flatV.eq_4) (And.intro @flatV.eq_5 @flatV.eq_6)) (And.intro (And.intro @Bool.or_true @Bool.true_or) (And.intro @unA.eq_1 @unA.eq_2))) (And.intro (And.intro (And.intro @unA.eq_3 @unA.eq_4) (And.intro @asBool.eq_1 @asBool.eq_2)) (And.intro (And.intro @asInt.eq_1 @asInt.eq_2) (And.intro @Bool.not_true @Bool.not_false)))) (And.intro (And.intro (And.intro (And.intro @fillA.eq_1 @fillA.eq_2) (And.intro @mkAgg.eq_1 @mkTup.eq_1)) (And.intro (And.intro @allPV.eq_1 @allPV.eq_2) (And.intro @allPV.eq_3 @lenA_nils))) (And.intro (And.intro (And.intro @lenA_lit @lenA_uq) (And.intro @lenA_str @lenA_nilm)) (And.intro (And.intro @lenA_own @lenA_mp) (And.intro @binA.eq_1 @binA.eq_2))))) (And.intro (And.intro (And.intro (And.intro (And.intro @binA.eq_3 @binA.eq_4) (And.intro @binA.eq_5 @intBin.eq_1)) (And.intro (And.intro @intBin.eq_2 @intBin.eq_3) (And.intro @intBin.eq_4 @intBin.eq_5))) (And.intro (And.intro (And.intro @intBin.eq_6 @intBin.eq_7) (And.intro @intBin.eq_8 @intBin.eq_9)) (And.intro (And.intro @intBin.eq_10 @intBin.eq_11) (And.intro @intBin.eq_12 @intBin.eq_13)))) (And.intro (And.intro (And.intro (And.intro @intBin.eq_14 @intBin.eq_15) (And.intro @eqA.eq_1 @eqA.eq_2)) (And.intro (And.intro @eqA.eq_3 @eqA.eq_4) (And.intro @eqA.eq_5 @eqA.eq_6))) (And.intro (And.intro (And.intro @eqA.eq_7 @eqA.eq_8) (And.intro @eqA.eq_9 @eqA.eq_10)) (And.intro (And.intro @eqA.eq_11 @eqA.eq_12) (And.intro @fresh.eq_1 @fresh.eq_2)))))) (And.intro (And.intro (And.intro (And.intro (And.intro (And.intro @fresh.eq_3 @chunk.eq_1) (And.intro @chunk.eq_2 @List.append.eq_1.{0})) (And.intro (And.intro @List.append.eq_2.{0} @List.nil_append.{0}) (And.intro @List.cons_append.{0} @List.getElem?_cons_zero.{0}))) (And.intro (And.intro (And.intro @List.getElem?_cons_succ.{0} @List.getElem?_nil.{0}) (And.intro @List.set_cons_zero.{0} @List.set_cons_succ.{0})) (And.intro (And.intro @List.length_cons.{0} @List.length_nil.{0}) (And.intro @Nat.zero_add @Nat.add_zero)))) (And.intro (And.intro (And.intro (And.intro @List.drop.eq_1.{0} @List.drop.eq_2.{0}) (And.intro @List.drop.eq_3.{0} @List.take.eq_1.{0})) (And.intro (And.intro @List.take.eq_2.{0} @List.take.eq_3.{0}) (And.intro @flat.eq_1 @flat.eq_2))) (And.intro (And.intro (And.intro @elemsP.eq_1 @elemsP.eq_2) (And.intro @elemsP.eq_3 @elemsP.eq_4)) (And.intro (And.intro @elemsP.eq_5 @nilApp.eq_1) (And.intro @nilApp.eq_2 @nilApp.eq_3))))) (And.intro (And.intro (And.intro (And.intro (And.intro @nilApp.eq_4 @Bool.false_eq_true) (And.intro @beq_self_eq_true.{0} @bne_self_eq_false.{0})) (And.intro (And.intro @Bool.not_eq_true @decide_true) (And.intro @decide_false @Nat.le_refl))) (And.intro (And.intro (And.intro @Option.bind_none.{0,0} @Option.map_none.{0,0}) (And.intro @b_tt @b_tf)) (And.intro (And.intro @b_ft @b_ff) (And.intro @pvInt.eq_1 @Int.cast_ofNat_Int)))) (And.intro (And.intro (And.intro (And.intro @repZ.eq_1 @repZ.eq_2) (And.intro @Bool.false_and @Bool.and_false)) (And.intro (And.intro @List.headD_cons.{0} @List.headD_nil.{0}) (And.intro @Nat.lt_add_one @Nat.sub_zero))) (And.intro (And.intro (And.intro @List.isEmpty_cons.{0} @List.isEmpty_nil.{0}) (And.intro @AV.free.eq_1 @AV.free.eq_2)) (And.intro (And.intro @AV.free.eq_3 @Bool.or_false) (And.intro @Bool.false_or @Nat.mul_one))))))))
theorem SA:type_of% (And.intro (And.intro @appendA.eq_1 @appendA.eq_2) (And.intro @appendA.eq_3 @appendA.eq_4)):=
 (And.intro (And.intro @appendA.eq_1 @appendA.eq_2) (And.intro @appendA.eq_3 @appendA.eq_4))
theorem SQ:type_of% (And.intro (And.intro (And.intro @storeA.eq_1 (And.intro @storeA.eq_2 @storeA.eq_3)) (And.intro (And.intro @loadA.eq_1 @loadA.eq_2) (And.intro @loadA.eq_3 @loadA.eq_4))) (And.intro (And.intro (And.intro @partA.eq_1 @partP.eq_1) (And.intro @place.eq_1 @place.eq_2)) (And.intro (And.intro @place.eq_3 @place.eq_4) (And.intro @setRow.eq_1 @setRow.eq_2)))):=
 (And.intro (And.intro (And.intro @storeA.eq_1 (And.intro @storeA.eq_2 @storeA.eq_3)) (And.intro (And.intro @loadA.eq_1 @loadA.eq_2) (And.intro @loadA.eq_3 @loadA.eq_4))) (And.intro (And.intro (And.intro @partA.eq_1 @partP.eq_1) (And.intro @place.eq_1 @place.eq_2)) (And.intro (And.intro @place.eq_3 @place.eq_4) (And.intro @setRow.eq_1 @setRow.eq_2))))
theorem WP:type_of% (And.intro (And.intro (And.intro (And.intro (And.intro (And.intro @wp_some @wp_none) (And.intro @wp_guard @wp_map)) (And.intro (And.intro @wp_bind @wp_seqA) (And.intro @wp_blockA (And.intro @wp_normA @wp_startA)))) (And.intro (And.intro (And.intro @wp_condA @wp_nextA) (And.intro @wp_putR @wp_onH)) (And.intro (And.intro @wp_guardA @seqQ_norm) (And.intro @seqQ_ret (And.intro @seqQ_exit @blockQ_norm))))) (And.intro (And.intro (And.intro (And.intro @blockQ_ret @blockQ_exit) (And.intro @putA_some @putA_none)) (And.intro (And.intro @idx_nat @dec_nat_lt) (And.intro @Int.toNat_natCast (And.intro @clean.eq_1 @tidy.eq_1)))) (And.intro (And.intro (And.intro @keepEnv.eq_1 @keepEnv.eq_2) (And.intro @cutEnv.eq_1 (And.intro @cutEnv.eq_2 @cutObj.eq_1))) (And.intro (And.intro @cutObj.eq_2 @cutObj.eq_3) (And.intro @cutObj.eq_4 (And.intro @cutObj.eq_5 @cut_pv)))))) (And.intro (And.intro (And.intro (And.intro (And.intro @AV.cut.eq_1 @AV.cut.eq_2) (And.intro @AV.cut.eq_3 @AV.cut.eq_4)) (And.intro (And.intro @AV.cut.eq_5 @AV.cut.eq_6) (And.intro @AV.cut.eq_7 (And.intro @AV.cut.eq_8 @AV.cut.eq_9)))) (And.intro (And.intro (And.intro @AV.cut.eq_10 @AV.cut.eq_11) (And.intro @deep_eq' @toPV_pv')) (And.intro (And.intro @partE.eq_1 @AV.pvu.eq_1) (And.intro @AV.pvu.eq_2 (And.intro @AV.pvu1.eq_1 @AV.pvu1.eq_2))))) (And.intro (And.intro (And.intro (And.intro @roundL.eq_1 @roundA.eq_1) (And.intro @forall_const.{0} @true_implies)) (And.intro (And.intro @false_implies @imp_self) (And.intro @not_true_eq_false (And.intro @not_false_eq_true @Bool.true_eq_false)))) (And.intro (And.intro (And.intro @false_and @and_false) (And.intro @true_or (And.intro @or_true @false_or))) (And.intro (And.intro @or_false @imp_false) (And.intro @wp_outR (And.intro @outQ_norm @outQ_ret))))))):=
 (And.intro (And.intro (And.intro (And.intro (And.intro (And.intro @wp_some @wp_none) (And.intro @wp_guard @wp_map)) (And.intro (And.intro @wp_bind @wp_seqA) (And.intro @wp_blockA (And.intro @wp_normA @wp_startA)))) (And.intro (And.intro (And.intro @wp_condA @wp_nextA) (And.intro @wp_putR @wp_onH)) (And.intro (And.intro @wp_guardA @seqQ_norm) (And.intro @seqQ_ret (And.intro @seqQ_exit @blockQ_norm))))) (And.intro (And.intro (And.intro (And.intro @blockQ_ret @blockQ_exit) (And.intro @putA_some @putA_none)) (And.intro (And.intro @idx_nat @dec_nat_lt) (And.intro @Int.toNat_natCast (And.intro @clean.eq_1 @tidy.eq_1)))) (And.intro (And.intro (And.intro @keepEnv.eq_1 @keepEnv.eq_2) (And.intro @cutEnv.eq_1 (And.intro @cutEnv.eq_2 @cutObj.eq_1))) (And.intro (And.intro @cutObj.eq_2 @cutObj.eq_3) (And.intro @cutObj.eq_4 (And.intro @cutObj.eq_5 @cut_pv)))))) (And.intro (And.intro (And.intro (And.intro (And.intro @AV.cut.eq_1 @AV.cut.eq_2) (And.intro @AV.cut.eq_3 @AV.cut.eq_4)) (And.intro (And.intro @AV.cut.eq_5 @AV.cut.eq_6) (And.intro @AV.cut.eq_7 (And.intro @AV.cut.eq_8 @AV.cut.eq_9)))) (And.intro (And.intro (And.intro @AV.cut.eq_10 @AV.cut.eq_11) (And.intro @deep_eq' @toPV_pv')) (And.intro (And.intro @partE.eq_1 @AV.pvu.eq_1) (And.intro @AV.pvu.eq_2 (And.intro @AV.pvu1.eq_1 @AV.pvu1.eq_2))))) (And.intro (And.intro (And.intro (And.intro @roundL.eq_1 @roundA.eq_1) (And.intro @forall_const.{0} @true_implies)) (And.intro (And.intro @false_implies @imp_self) (And.intro @not_true_eq_false (And.intro @not_false_eq_true @Bool.true_eq_false)))) (And.intro (And.intro (And.intro @false_and @and_false) (And.intro @true_or (And.intro @or_true @false_or))) (And.intro (And.intro @or_false @imp_false) (And.intro @wp_outR (And.intro @outQ_norm @outQ_ret)))))))
theorem WQ:type_of% (And.intro (And.intro @iaddrA'.eq_1 @iaddrA'.eq_2) (And.intro @iaddrA'.eq_3 @iaddrA'.eq_4)):=
 (And.intro (And.intro @iaddrA'.eq_1 @iaddrA'.eq_2) (And.intro @iaddrA'.eq_3 @iaddrA'.eq_4))
end Go.AM
set_option linter.unusedSimpArgs false
set_option linter.unusedVariables false
namespace Go.AM
open Go.RowKit
def callLS (S:CallF) (L:Nat→Option AFn):Nat→CallF
 |0=>S
 |d+1=>fun ix args H=>match L ix with
  |some f=>runF (callLS S L d) f args H
  |none=>S ix args H
theorem callLS_ok {P:Program} {fo:Nat→FuncId} {S:CallF} {L:Nat→Option AFn} (hL:TableOk P fo L) (hS:∀ B0:Base,CallOk P fo B0 S):∀ (d:Nat) (B0:Base),CallOk P fo B0 (callLS S L d):=by
 intro d
 induction d with
 |zero=>exact hS
 |succ d ih=>
  intro B0 ix args H v H' w R φ vs hR hl h
  simp only[callLS] at h
  split at h
  ·next f hf=>exact⟨(hL ix f hf).callable,fn_sim (hL ix f hf) ih hR hl h⟩
  ·exact hS B0 ix args H v H' w R φ vs hR hl h
theorem callLS_succ (S:CallF) (L:Nat→Option AFn) (d ix:Nat) (args:List AV) (H:List AObj):callLS S L (d+1) ix args H=match L ix with
 |some f=>runF (callLS S L d) f args H
 |none=>S ix args H:=rfl
theorem callLS_go (S:CallF) (L:Nat→Option AFn) (d ix:Nat) (args:List AV) (H:List AObj) {f:AFn} (h:L ix=some f):callLS S L (d+1) ix args H=runF (callLS S L d) f args H:=by rw[callLS_succ,h]
def pureS (S:CallF) (L:Nat→Option AFn) (f:AFn) (args:List PV):Option PV:=(runF (callLS S L 8) f (args.map .pv) []).bind fun r=>toPV r.2 deep r.1
theorem pureS_ok {P:Program} {fo:Nat→FuncId} {S:CallF} {L:Nat→Option AFn} (hL:TableOk P fo L) (hS:∀ B0:Base,CallOk P fo B0 S) {f:FuncId} {af:AFn} (hf:FnOk P fo f af):PureFn P f (pureS S L af):=call_pure (callLS_ok hL hS 8) hf
def keyI (k off:Nat) (r:List Int):Int:=if r.length=k then r.getD off 0 else 0
def encI (k:Nat) (r:List Int):List Value:=if r.length=k then r.map (.int .i64) else List.replicate k (.int .i64 0)
def cfI (k off:Nat) (x y:List Int):Int:=Lib.compareInt (keyI k off x) (keyI k off y)
def sortI (k off:Nat) (D:Array (List Int)):Array (List Int):=Sort.pdq (Proofs.ltOf (cfI k off)) D 0 D.size (Lib.bitLen D.size) true true
theorem ltI (k off:Nat) (x y:List Int):Proofs.ltOf (cfI k off) x y=decide (keyI k off x < keyI k off y):=by
 unfold Proofs.ltOf cfI Lib.compareInt
 by_cases h1:keyI k off x < keyI k off y
 ·simp[h1]
 ·by_cases h2:keyI k off y < keyI k off x <;> simp[h1,h2]
theorem swoI (k off:Nat):Sort.SWO (Proofs.ltOf (cfI k off)) where
 irrefl x:=by rw[ltI];simp
 trans x y z h1 h2:=by rw[ltI] at *;simp at *;omega
 ntrans x y z h1 h2:=by rw[ltI] at *;simp at *;omega
theorem sortI_ok (k off:Nat) (D:Array (List Int)):(sortI k off D).size=D.size∧(sortI k off D).toList.Perm D.toList∧∀ i j,i < j→j < D.size→¬keyI k off (sortI k off D)[j]! < keyI k off (sortI k off D)[i]! :=by
 have h:=Sort.pdq_sorts _ (swoI k off) D 0 D.size (Lib.bitLen D.size) true true (Nat.zero_le _) (Nat.le_refl _) (.inl rfl)
 obtain⟨⟨h1,_,h2⟩,h3⟩:=h
 refine⟨h1,?_,fun i j hij hj=> ?_⟩
 ·have e1:((sortI k off D).extract 0 D.size).toList=(sortI k off D).toList:=by
   have:(sortI k off D).size=D.size:=h1
   rw[← this];simp
  have e2:(D.extract 0 D.size).toList=D.toList:=by simp
  rw[← e1,←e2];exact h2
 ·have:=h3 i j (Nat.zero_le _) hij hj
  rw[ltI,decide_eq_false_iff_not] at this
  exact this
structure SortFn (P:Program) (f g:FuncId) (k off:Nat):Prop where
 call:Callable P f
 many:∀ (blk ofs cap:Nat) (D:Array (List Int)) (w:World),Sort.HoldsK (encI k) k w blk ofs D→blk < w.heap.size→D.size < 4611686018427387904→
  Calls P f #[.slice (some ⟨blk,ofs,none⟩) D.size cap,.func (.func g) #[] #[]] w fun e w'=>e= .returned (.tuple #[])∧∃ n os,w'=Proofs.sortWorldK (encI k) k w blk ofs n (sortI k off D) os
 none:∀ (p:Option Addr) (cap:Nat) (w:World),Calls P f #[.slice p 0 cap,.func (.func g) #[] #[]] w fun e w'=>e= .returned (.tuple #[])∧w'=w
def intsA:List AV→Option (List Int)
 | []=>some []
 | .pv (.int .i64 n)::r=>(intsA r).map (n:: ·)
 |_=>none
abbrev cellI (l:List Int):List AV:=l.map fun n=> .pv (.int .i64 n)
theorem intsA_some:∀ {c:List AV} {F:List Int},intsA c=some F→c=cellI F
 | [],F,h=>by injection h with h;subst h;rfl
 | .pv (.int .i64 n)::r,F,h=>by
   simp only[intsA,Option.map_eq_some_iff] at h
   obtain⟨F',h1,rfl⟩:=h
   rw[intsA_some h1];rfl
theorem intsA_cell:∀ (F:List Int),intsA (cellI F)=some F
 | []=>rfl
 |n::F=>by show (intsA (cellI F)).map (n:: ·)=_;rw[intsA_cell F];rfl
def chunksI (k:Nat):Nat→List Int→List (List Int)
 |0,_=>[]
 |n+1,F=>F.take k::chunksI k n (F.drop k)
theorem chunksI_len (k:Nat):∀ (n:Nat) (F:List Int),(chunksI k n F).length=n
 |0,_=>rfl
 |n+1,F=>by rw[chunksI,List.length_cons,chunksI_len k n]
theorem chunksI_row {k:Nat}:∀ {n:Nat} {F:List Int},F.length=n * k→∀ r∈chunksI k n F,r.length=k
 |n+1,F,h,r,hr=>by
  rw[Nat.add_mul] at h
  rcases List.mem_cons.1 hr with rfl | hr
  ·rw[List.length_take];omega
  ·exact chunksI_row (F:=F.drop k) (by rw[List.length_drop];omega) r hr
theorem chunksI_flat {k:Nat}:∀ {n:Nat} {F:List Int},F.length=n * k→(chunksI k n F).flatten=F
 |0,F,h=>by
  have:F=[]:=List.eq_nil_of_length_eq_zero (by omega)
  subst this;rfl
 |n+1,F,h=>by
  rw[Nat.add_mul] at h
  rw[chunksI,List.flatten_cons,chunksI_flat (F:=F.drop k) (by rw[List.length_drop];omega),List.take_append_drop]
def sortA (k off g:Nat):List AV→List AObj→Option (AV×List AObj)
 | [.own id len,.clo c []],H=>match H[id]? with
   |some (.seq sz ag cells fl nl)=>if c=g∧sz=k∧len * k=cells.length∧len < 4611686018427387904 then (intsA cells).map fun F=>(.pv (.tup []),H.set id (.seq k ag (cellI (sortI k off (chunksI k len F).toArray).toList.flatten) cells.length nl)) else none
   |_=>none
 |_,_=>none
theorem flat_at {k:Nat} (hk:0 < k) {D:List (List Int)} (h:∀ r∈D,r.length=k) {t:Nat} (ht:t < D.length * k):∃ (h1:t / k < D.length),D.flatten[t]? =D[t / k][t % k]? :=by
 have h1:t / k < D.length:=Nat.div_lt_of_lt_mul (by rw[Nat.mul_comm];exact ht)
 refine⟨h1,?_⟩
 have h2:=So.flat_take (sz:=k) h1 h
 rw[← h2,List.getElem?_take_of_lt (Nat.mod_lt _ hk),List.getElem?_drop]
 congr 1
 have:=Nat.div_add_mod t k
 rw[Nat.mul_comm] at this;exact this.symm
theorem flatK_get {k:Nat} {D:Array (List Int)} (h:∀ r∈D.toList,r.length=k) {t:Nat} (ht:t < D.size * k):∃ n,D.toList.flatten[t]? =some n∧(Sort.flatK (encI k) k D)[t]! = .int .i64 n:=by
 have hk:0 < k:=by rcases Nat.eq_zero_or_pos k with e | e;rw[e] at ht;omega;exact e
 obtain⟨h1,h2⟩:=flat_at hk h (t:=t) (by simpa using ht)
 have h1':t / k < D.size:=by simpa using h1
 have hr:=h _ (List.getElem_mem h1)
 have hm:t % k < (D.toList[t / k]).length:=by rw[hr];exact Nat.mod_lt _ hk
 refine⟨(D.toList[t / k])[t % k],by rw[h2,List.getElem?_eq_getElem hm],?_⟩
 rw[Sort.get_flatK _ _ _ _ ht,getElem!_pos D _ h1']
 have e:D[t / k]=D.toList[t / k]:=by simp
 rw[e,encI,if_pos hr,List.getElem!_eq_getElem?_getD,List.getElem?_map,List.getElem?_eq_getElem hm];rfl
theorem putCells_get (d arr:Array Value) {t:Nat} (ht:t < d.size) (hl:d.size≤arr.size):(Sort.putCells id 0 d arr)[t]? =some d[t]! :=by
 unfold Sort.putCells
 rw[Array.getElem?_mapIdx,Array.getElem?_eq_getElem (by omega)]
 simp only[Option.map_some,Option.some.injEq]
 rw[if_pos ⟨Nat.zero_le _,by omega⟩,Nat.sub_zero];rfl
theorem sorted_heap (k:Nat) (w:World) {b:Nat} {arr:Array Value} {ty:TypeId} {fz:Nat×Nat} (hb:w.heap[b]? =some (.cells arr ty fz)) (m:Nat) (D:Array (List Int)) (os:Array Obj):
 (Proofs.sortWorldK (encI k) k w b 0 m D os).heap[b]? =some (.cells (Sort.putCells id 0 (Sort.flatK (encI k) k D) arr) ty fz)∧(∀ c,c < w.heap.size→c≠b→(Proofs.sortWorldK (encI k) k w b 0 m D os).heap[c]? =w.heap[c]?)∧w.heap.size≤(Proofs.sortWorldK (encI k) k w b 0 m D os).heap.size:=by
 have hlt:b < w.heap.size:=(Array.getElem?_eq_some_iff.1 hb).1
 have e:(Proofs.sortWorldK (encI k) k w b 0 m D os).heap=w.heap.modify b (Sort.onCells (Sort.putCells id 0 (Sort.flatK (encI k) k D)))++os:=rfl
 rw[e]
 refine⟨?_,fun c hc hne=> ?_,by simp⟩
 ·rw[Array.getElem?_append_left (by simpa using hlt),Array.getElem?_modify,if_pos rfl,hb];rfl
 ·rw[Array.getElem?_append_left (by simpa using hc),Array.getElem?_modify,if_neg (Ne.symm hne)]
theorem rel_ints {fo:Nat→FuncId} {R:Rd} {φ:Pl} {H:List AObj}:∀ {F:List Int} {vs:List Value},ALRel fo (K R φ H) (cellI F) vs→vs=F.map (.int .i64)
 | [],vs,h=>by cases h;rfl
 |n::F,vs,h=>by
  cases h with
  |cons _ _ v us h1 h2=>
   rw[rel_ints h2]
   have:=h1.pv_inv
   cases this;rfl
theorem ints_rel {fo:Nat→FuncId} {R:Rd} {φ:Pl} {H:List AObj}:∀ (F:List Int),ALRel fo (K R φ H) (cellI F) (F.map (.int .i64))
 | []=> .nil
 |n::F=> .cons _ _ _ _ (.atom _ _ (show PRel _ _ _ from .int _ _)) (ints_rel F)
theorem sortA_ok {P:Program} {fo:Nat→FuncId} {s g k off:Nat} (hS:SortFn P (fo s) (fo g) k off) (B0:Base):CallOk P fo B0 fun ix args H=>if ix=s then sortA k off g args H else none:=by
 intro ix args H v H' w R φ vs hR hl h
 dsimp only at h
 split at h
 ·next he=>
  subst he
  refine⟨hS.call,?_⟩
  unfold sortA at h
  split at h
  ·next H1 oid len c=>
   split at h
   ·next sz ag cells fl nl hc=>
    split at h
    ·next hcd=>
     obtain⟨rfl,rfl,hlen,hbig⟩:=hcd
     rw[Option.map_eq_some_iff] at h
     obtain⟨F,hF,hv⟩:=h
     injection hv with hv1 hv2
     subst hv1 hv2
     have hcF:=intsA_some hF
     obtain⟨x,us,rfl,hx,hl2⟩:∃ x us,vs=x::us∧ARel fo (K R φ H) (.own oid len) x∧ALRel fo (K R φ H) [.clo c []] us:=by
      cases hl with | cons _ _ x us h1 h2=>exact⟨x,us,rfl,h1,h2⟩
     obtain⟨rfl⟩:us=[.func (.func (fo c)) #[] #[]]:=by
      cases hl2 with
      |cons _ _ y zs h1 h2=>
       cases h2
       cases h1 with
       |atom _ _ h=>exact h.elim
       |clo _ _ _ h=>cases h;rfl
     have hk1:K R φ H (.own oid len) x:=by cases hx with | atom _ _ h=>exact h
     obtain⟨g0,g1,g2⟩:=hk1
     obtain⟨q1,q2⟩:=g2 _ _ _ _ _ hc
     obtain⟨o0,o1,o2,o3,o4⟩:=hR.obj oid _ hc
     obtain⟨q3,q4⟩:=q2 (by omega)
     have hFl:F.length=len * sz:=by rw[hcF,List.length_map] at hlen;exact hlen.symm
     have hDl:(chunksI sz len F).toArray.size=len:=by simp[chunksI_len]
     have hDr:∀ r∈(chunksI sz len F).toArray.toList,r.length=sz:=fun r hr=>chunksI_row hFl r (by simpa using hr)
     have hDf:(chunksI sz len F).toArray.toList.flatten=F:=by simpa using chunksI_flat hFl
     obtain⟨s1,s2,s3⟩:=sortI_ok sz off (chunksI sz len F).toArray
     have hrow:∀ r∈(sortI sz off (chunksI sz len F).toArray).toList,r.length=sz:=fun r hr=>hDr r (s2.mem_iff.1 hr)
     have hfl:(sortI sz off (chunksI sz len F).toArray).toList.flatten.length=cells.length:=by
      rw[So.flat_len hrow,Array.length_toList,s1,hDl,hlen]
     generalize hDD:(chunksI sz len F).toArray=D at *
     generalize hEE:sortI sz off D=E at *
     have hk:=fun a v=>K.seq_set (R:=R) (φ:=φ) (ag':=ag) (c':=cellI E.toList.flatten) hc o1 (by rw[List.length_map];exact hfl) a v
     cases nl with
     |true=>
      have hx0:=q3 rfl
      have hce:=o2 rfl
      subst hx0
      have hl0:len=0:=by
       rw[hce] at hlen
       rcases Nat.mul_eq_zero.1 hlen with h | h <;> omega
      subst hl0
      refine (hS.none none 0 w).mono ?_
      rintro e w' ⟨rfl,rfl⟩
      refine⟨_,R,upd φ oid (φ oid),rfl,?_,.atom _ _ (show PRel _ _ _ from .tup _ _ .nil),hk,Belo.refl _ _⟩
      refine hR.upd (w':=w') hc (Nat.le_refl _) (fun _ _ _=>rfl) (fun _ _ _ _=>rfl) hR.sub hk (fun h=>by cases h) ?_
      have h0:E.toList.flatten=[]:=List.eq_nil_of_length_eq_zero (by rw[hfl,hce];rfl)
      rw[h0]
      exact⟨o0,by rw[hce];exact Nat.le_refl _,fun _=>rfl,rfl,fun h=>by cases h⟩
     |false=>
      obtain⟨k1,k2,arr,⟨ty,fz,k3,hfz⟩,k4,k5,k6⟩:=o4 rfl
      rcases q4 rfl with⟨hl0,hne,_⟩ | ⟨b,o,cap,hxv,hbo,_⟩
      ·rw[hl0,Nat.zero_mul] at hlen
       exact absurd (List.eq_nil_of_length_eq_zero hlen.symm) hne
      ·obtain⟨rfl,rfl,rfl⟩:=hbo hlen
       subst hxv
       have hblk:(φ oid).1 < w.heap.size:=Blk.lt ⟨ty,fz,k3,hfz⟩
       have hrel:ALRel fo (K R φ H) (cellI F) (arr.toList.take cells.length):=by rw[← hcF];exact k6
       have hvals:=rel_ints hrel
       have hholds:Sort.HoldsK (encI sz) sz w (φ oid).1 0 D:=by
        intro j hj
        rw[Sort.size_flatK,hDl] at hj
        obtain⟨n,e1,e2⟩:=flatK_get hDr (t:=j) (by rw[hDl];exact hj)
        rw[Nat.zero_add,Blk.cell ⟨ty,fz,k3,hfz⟩,Blk.frozen ⟨ty,fz,k3,hfz⟩ (by omega),e2]
        rw[hDf] at e1
        have e3:(arr.toList.take cells.length)[j]? =some (.int .i64 n):=by rw[hvals,List.getElem?_map,e1];rfl
        rw[List.getElem?_take_of_lt (by omega)] at e3
        exact⟨by rw[← Array.getElem?_toList];exact e3,rfl⟩
       have hmany:=hS.many (φ oid).1 0 (φ oid).2 D w hholds hblk (by rw[hDl];exact hbig)
       rw[hDl] at hmany
       refine hmany.mono ?_
       rintro e w' ⟨rfl,m,os,rfl⟩
       rw[hEE]
       obtain⟨w1,w2,w3⟩:=sorted_heap sz w k3 m E os
       have hbel:Belo B0 w (Proofs.sortWorldK (encI sz) sz w (φ oid).1 0 m E os):= .of_one k3 rfl rfl rfl rfl w3 k1 hR.slt (hR.free oid ⟨_,hc,rfl⟩) fun b hb hne=>w2 b hb hne
       generalize Proofs.sortWorldK (encI sz) sz w (φ oid).1 0 m E os=w' at *
       refine⟨_,R,upd φ oid (φ oid),rfl,?_,.atom _ _ (show PRel _ _ _ from .tup _ _ .nil),hk,?_⟩
       ·refine hR.upd (w':=w') hc w3 (fun b hb hne=>w2 b hb (hne rfl)) (fun _ _ _ _=>rfl) (fun b o v hv=> ?_) hk (fun _=> .inl ⟨rfl,rfl⟩) ?_
        ·have hne:b≠(φ oid).1:=fun e=>by subst e;rw[k2] at hv;cases hv
         have hs:=hR.sub b o v hv
         have hblt:b < w.heap.size:=by
          rcases Nat.lt_or_ge b w.heap.size with h | h
          ·exact h
          ·simp[World.cell?,Array.getElem?_eq_none h] at hs
         rw[cell_heap (w2 b hblt hne)];exact hs
        ·refine⟨o0,by rw[List.length_map,hfl];exact Nat.le_refl _,(fun h=>by cases h),?_,fun _=> ?_⟩
         ·rw[List.all_eq_true]
          intro a ha
          obtain⟨n,_,rfl⟩:=List.mem_map.1 ha
          rfl
         ·rw[upd_same]
          have hsz:(Sort.putCells id 0 (Sort.flatK (encI sz) sz E) arr).size=arr.size:=by simp[Sort.putCells]
          have hfk:(Sort.flatK (encI sz) sz E).size=cells.length:=by rw[Sort.size_flatK,s1,hDl,hlen]
          refine⟨k1,k2,_,⟨ty,fz,w1,fun o ho=>hfz o (by rw[← hsz];exact ho)⟩,by rw[hsz];exact k4,by rw[hsz,List.length_map,hfl];exact k5,?_⟩
          have he:(Sort.putCells id 0 (Sort.flatK (encI sz) sz E) arr).toList.take (cellI E.toList.flatten).length=E.toList.flatten.map (.int .i64):=by
           apply List.ext_getElem?
           intro t
           rw[List.length_map,hfl]
           rcases Nat.lt_or_ge t cells.length with ht | ht
           ·obtain⟨n,e1,e2⟩:=flatK_get hrow (t:=t) (by rw[s1,hDl,hlen];exact ht)
            rw[List.getElem?_take_of_lt ht,Array.getElem?_toList,putCells_get _ _ (by rw[hfk];exact ht) (by omega),e2,List.getElem?_map,e1];rfl
           ·rw[List.getElem?_eq_none (by rw[List.length_take];omega),List.getElem?_eq_none (by rw[List.length_map,hfl];exact ht)]
          rw[he]
          exact ints_rel _
       ·exact hbel
    ·cases h
   ·cases h
  ·cases h
 ·cases h
end Go.AM
