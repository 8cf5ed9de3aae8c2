/- The abstract machine: its functions compute what the model's functions do; a law's call; conditions. -/
import Derived.Test.YtolkahifidfgeaaA2
import Derived.Scope
import Derived.LoopN
import Derived.ProofKit
import Derived.Carry
import Derived.SizedLaws
import Derived.OpenShut
import Derived.Handed
set_option linter.unusedSimpArgs false
set_option linter.unusedVariables false
namespace Go.AM
open Go.RowKit
def Callable (P:Program) (f:FuncId):Prop:=∃ fn c,P.funcs[f]? =some fn∧fn.body=some c∧(fn.name== "runtime.NumGoroutine")=false
def PureFn (P:Program) (f:FuncId) (F:List PV→Option PV):Prop:=
 Callable P f∧∀ (w:World) (R:Rd) (args:List PV) (vs:List Value) (r:PV),(∀ b o v,R b o=some v→w.cell? ⟨b,o,none⟩=some v)→LRel R args vs→F args=some r→
  Calls P f ⟨vs⟩ w fun e w'=>∃ v R',e= .returned v∧Below w.heap.size w w'∧PRel R' r v∧(∀ b o,b < w.heap.size→R' b o=R b o)∧∀ b o v,R' b o=some v→w'.cell? ⟨b,o,none⟩=some v
def Came (fo:Nat→FuncId) (B0:Base) (w:World) (R:Rd) (φ:Pl) (H:List AObj) (v:AV) (H':List AObj) (e:Ending) (w':World):Prop:=
 ∃ u R' φ',e= .returned u∧SRel fo B0 w' R' φ' H'∧ARel fo (K R' φ' H') v u∧(∀ x u,K R φ H x u→K R' φ' H' x u)∧Below B0 w w'
def CallOk (P:Program) (fo:Nat→FuncId) (B0:Base) (call:CallF):Prop:=
 ∀ (ix:Nat) (args:List AV) (H:List AObj) (v:AV) (H':List AObj) (w:World) (R:Rd) (φ:Pl) (vs:List Value),SRel fo B0 w R φ H→ALRel fo (K R φ H) args vs→call ix args H=some (v,H')→
  Callable P (fo ix)∧Calls P (fo ix) ⟨vs⟩ w (Came fo B0 w R φ H v H')
def okCall (P:Program) (fo:Nat→FuncId):Op→AOp→Bool
 | .call {callee:= .value (.func _),args,..},.callP _ ys=>okOs fo args.toList ys
 | .call {callee:= .value (.func f),args,..},.callI ix ys=>fo ix==f&&okOs fo args.toList ys
 | .call {callee:= .value x,args,..},.callV y ys=>okO fo x y&&okOs fo args.toList ys
 |_,_=>false
def dutyOf:Op→AOp→List (FuncId×(List PV→Option PV))
 | .call {callee:= .value (.func f),..},.callP F _=>[(f,F)]
 |_,_=>[]
section
variable {P:Program} {fo:Nat→FuncId} {B0:Base} {call:CallF}
theorem run_invoke {f:FuncId} (hf:Callable P f) {caps args:Array Value} (w:World):(invoke (.fn (.func f) caps) args).run P w= .ok (.enter f (args++caps)) w:=by
 obtain⟨fn,c,h1,h2,h3⟩:=hf
 have h3':¬fn.name= "runtime.NumGoroutine" :=by simpa using h3
 simp[invoke,callFunc,h1,h2,h3']
theorem call_owes {o:Oper} {op:Op} {aop:AOp} (ho:o.op=op) (hok:okCall P fo op aop=true) (hd:∀ d∈dutyOf op aop,PureFn P d.1 d.2) (hc:CallOk P fo B0 call)
 {w:World} {R:Rd} {φ:Pl} {e:Tr} {H H':List AObj} {a:Act} {v:AV} (hS:SRel fo B0 w R φ H) (hE:ERel fo (K R φ H) e a) (hev:evalOp call e H aop=some (v,H')):Meets P fo B0 o a w R φ H v H':=by
 intro next Q hn
 unfold okCall at hok
 split at hok
 ·
  rename_i f args tys F ys
  have hpf:=hd (f,F) (by simp[dutyOf])
  obtain⟨hcal,hp⟩:=hpf
  simp only[evalOp,Option.bind_eq_some_iff] at hev
  obtain⟨ps,h1,r,h2,h3⟩:=hev
  split at h3
  ·rename_i hfree
   simp only[Option.some.injEq,Prod.mk.injEq] at h3
   obtain⟨rfl,rfl⟩:=h3
   have hl:=evs_rel (R:=R) (φ:=φ) (H:=H) hE hok
   have hrun:(execOp a.eval o).run P w= .ok (.enter f ⟨args.toList.map a.eval⟩) w:=by
    have:=run_invoke (P:=P) hcal (caps:= #[]) (args:= #[]++args.map a.eval) w
    simp only[execOp,ho,resolve,Act.eval,Deferred.ofValue,Sem.run_bind,Sem.run_pure,Result.andThen_ok,this]
    congr 2
    apply Array.ext'
    simp
   unfold Oper.wp
   rw[hrun,Oper.upon_enter]
   have fin:∀ (R1:Rd),(∀ b o v,R1 b o=some v→w.cell? ⟨b,o,none⟩=some v)→LRel R1 ps (args.toList.map a.eval)→(∀ {R':Rd} {v:Value},(∀ b o,b < w.heap.size→R' b o=R1 b o)→(∀ b o v,R' b o=some v→R1 b o=some v∨w.heap.size≤b)→PRel R' r v→PRel (fun b o=>if b < w.heap.size then R b o else R' b o) r v)→
    Calls P f ⟨args.toList.map a.eval⟩ w fun x w''=>match x,w'' with
     | .returned v,w''=>next (a.put o.dst v) w''
     | .panicked chain,w''=>Q (.panic chain) a w''
     | .outgrown,_=>LetsOut Q:=by
    intro R1 hR1 hl1 hres
    refine Calls.mono (hp w R1 ps _ r hR1 hl1 h2) ?_
    rintro e w' ⟨v,R',rfl,hb,hv,hsame,hcell⟩
    simp only
    have hsub:Sub R (fun b o=>if b < w.heap.size then R b o else R' b o):=by
     intro b o v h
     have:=cell_lt (hS.sub b o v h)
     simp[this,h]
    have hk:=fun x u h=>K.sub (R:=R) (φ:=φ) (H:=H) hsub x u h
    refine hn v w' (fun b o=>if b < w.heap.size then R b o else R' b o) φ ⟨Nat.le_trans hS.low hb.size,fun b o v h=> ?_,fun id ob hob=> ?_,hS.inj,fun b o hlt=> ?_⟩ (.atom _ _ (show PRel _ _ _ from ?_)) hk (hb.mono hS.low)
    ·try dsimp only at h
     split at h
     ·rename_i hlt
      rw[cell_heap (hb.block b hlt)];exact hS.sub b o v h
     ·exact hcell b o v h
    ·have hO:=hS.obj id ob hob
     exact hO.keep (fun hl=>⟨hb.block _ (hO.lt hl),fun j hj=>by (try dsimp only);rw[if_pos (hO.lt hl)];exact hj⟩) rfl hk
    ·have:=hS.low
     try dsimp only
     rw[if_pos (by omega)];exact hS.old b o hlt
    ·refine hres hsame (fun b o v h=> ?_) hv
     rcases Nat.lt_or_ge b w.heap.size with hlt | hge
     ·rw[hsame b o hlt] at h;exact .inl h
     ·exact .inr hge
   simp only[Bool.or_eq_true] at hfree
   rcases hfree with hfree | hflat
   ·refine fin R hS.sub (toPVs_free (w:=w) hfree hl h1) fun {R' v} hsame _ hv=>hv.mono fun b o u hu=> ?_
    try dsimp only
    split
    ·rename_i hlt;rw[← hsame b o hlt];exact hu
    ·exact hu
   ·exact fin (Rw w) (fun b o v h=>h) (toPVs_sim hS hl h1) fun {R' v} _ _ hv=>flat_rel hflat hv
  ·cases h3
 ·
  rename_i f args tys ix ys
  simp only[Bool.and_eq_true,beq_iff_eq] at hok
  obtain⟨rfl,hok⟩:=hok
  have hl:=evs_rel (R:=R) (φ:=φ) (H:=H) hE hok
  simp only[evalOp] at hev
  obtain⟨hcal,hcc⟩:=hc ix _ H v H' w R φ _ hS hl hev
  have hrun:(execOp a.eval o).run P w= .ok (.enter (fo ix) ⟨args.toList.map a.eval⟩) w:=by
   have:=run_invoke (P:=P) hcal (caps:= #[]) (args:= #[]++args.map a.eval) w
   simp only[execOp,ho,resolve,Act.eval,Deferred.ofValue,Sem.run_bind,Sem.run_pure,Result.andThen_ok,this]
   congr 2
   apply Array.ext'
   simp
  unfold Oper.wp
  rw[hrun,Oper.upon_enter]
  refine Calls.mono hcc ?_
  rintro e w' ⟨u,R',φ',rfl,k1,k2,k3,k4⟩
  exact hn u w' R' φ' k1 k2 k3 k4
 ·
  rename_i x args tys y ys
  simp only[Bool.and_eq_true] at hok
  obtain⟨hx,hok⟩:=hok
  have hl:=evs_rel (R:=R) (φ:=φ) (H:=H) hE hok
  have hxr:=ev_rel (R:=R) (φ:=φ) (H:=H) hE hx
  simp only[evalOp] at hev
  split at hev
  ·rename_i ix caps hy
   rw[hy] at hxr
   have hcr:∃ us:List Value,a.eval x= .func (.func (fo ix)) #[] ⟨us⟩∧ALRel fo (K R φ H) caps us:=by
    generalize a.eval x=vx at hxr
    cases hxr with
    |atom _ _ h=>exact h.elim
    |clo _ _ us h=>exact⟨us,rfl,h⟩
   obtain⟨us,hu,hur⟩:=hcr
   obtain⟨hcal,hcc⟩:=hc ix _ H v H' w R φ _ hS (hl.append hur) hev
   have hrun:(execOp a.eval o).run P w= .ok (.enter (fo ix) ⟨args.toList.map a.eval++us⟩) w:=by
    have:=run_invoke (P:=P) hcal (caps:=⟨us⟩) (args:= #[]++args.map a.eval) w
    simp only[execOp,ho,resolve,hu,Deferred.ofValue,Sem.run_bind,Sem.run_pure,Result.andThen_ok,this]
    congr 2
    apply Array.ext'
    simp
   unfold Oper.wp
   rw[hrun,Oper.upon_enter]
   refine Calls.mono hcc ?_
   rintro e w' ⟨u,R',φ',rfl,k1,k2,k3,k4⟩
   exact hn u w' R' φ' k1 k2 k3 k4
  ·cases hev
 ·cases hok
def okOpers (P:Program) (fo:Nat→FuncId) (nt:Nat) (ops:Array Oper):List Oper→List AOper→Bool
 | [],[]=>true
 |o::os,ao::aos=>okSlot nt ops o ao&&(okOp P fo o.op ao.op||okCall P fo o.op ao.op)&&(!ao.pr||decide (ao.op.cls≤1))&&okOpers P fo nt ops os aos
 |_,_=>false
def dutyOps:List Oper→List AOper→List (FuncId×(List PV→Option PV))
 |o::os,ao::aos=>dutyOf o.op ao.op++dutyOps os aos
 |_,_=>[]
def okCode (P:Program) (fo:Nat→FuncId) (nt:Nat):Code→ACode→Bool
 |c,.ghost _ ac=>okCode P fo nt c ac
 | .skip,.skip=>true
 | .label _,.skip=>true
 | .scope b,.scope b'=>okCode P fo nt b b'
 | .region _ ops draw,.region aops=>okOpers P fo nt ops ops.toList aops&&(!draw||(P.follows .mixedOrders&&okDraw ops aops))
 | .seq a b,.seq a' b'=>okCode P fo nt a a'&&okCode P fo nt b b'
 | .cond c a b,.cond c' a' b'=>okO fo c c'&&okCode P fo nt a a'&&okCode P fo nt b b'
 | .block id b,.block id' b'=>id==id'&&okCode P fo nt b b'
 | .loop b,.loop _ b'=>okCode P fo nt b b'
 | .loop b,.loopG _ b'=>okCode P fo nt b b'
 | .exit id,.exit id'=>id==id'
 | .ret,.ret=>true
 |_,_=>false
def duties:Code→ACode→List (FuncId×(List PV→Option PV))
 |c,.ghost _ ac=>duties c ac
 | .region _ ops _,.region aops=>dutyOps ops.toList aops
 | .seq a b,.seq a' b'=>duties a a'++duties b b'
 | .cond _ a b,.cond _ a' b'=>duties a a'++duties b b'
 | .block _ b,.block _ b'=>duties b b'
 | .scope b,.scope b'=>duties b b'
 | .loop b,.loop _ b'=>duties b b'
 | .loop b,.loopG _ b'=>duties b b'
 |_,_=>[]
theorem slots_of {nt:Nat} {ops:Array Oper} {aops:List AOper} (hc:CallOk P fo B0 call) (hok:okOpers P fo nt ops ops.toList aops=true) (hd:∀ d∈dutyOps ops.toList aops,PureFn P d.1 d.2):Slots P fo B0 call nt ops aops:=by
 have key:∀ {os:List Oper} {aos:List AOper},okOpers P fo nt ops os aos=true→(∀ d∈dutyOps os aos,PureFn P d.1 d.2)→aos.length=os.length∧∀ (i:Nat) (o:Oper) (ao:AOper),os[i]? =some o→aos[i]? =some ao→okSlot nt ops o ao=true∧Owes P fo B0 call o ao:=by
  intro os
  induction os with
  |nil=>
   intro aos h _
   cases aos with
   |nil=>exact⟨rfl,fun i o ao h=>by simp at h⟩
   |cons _ _=>simp[okOpers] at h
  |cons o os ih=>
   intro aos h hd
   cases aos with
   |nil=>simp[okOpers] at h
   |cons ao aos=>
    simp only[okOpers,Bool.and_eq_true,Bool.or_eq_true,Bool.not_eq_true',decide_eq_true_eq] at h
    obtain⟨⟨⟨h1,h2⟩,hpr⟩,h3⟩:=h
    obtain⟨k1,k2⟩:=ih h3 fun d hd'=>hd d (by simp[dutyOps,hd'])
    refine⟨by simp[k1],fun i x y hx hy=> ?_⟩
    cases i with
    |zero=>
     simp at hx hy;subst hx;subst hy
     refine⟨h1,?_⟩
     intro w R φ e H H' a v hS hE hev
     have hev:evalOp call e H ao.op=some (v,H'):=by
      unfold evalG at hev
      cases hp:ao.pr with
      |false=>simpa[hp] using hev
      |true=>
       simp only[hp,cond_true] at hev
       obtain⟨k,rfl⟩:=onH_some hev
       have hpr:ao.op.cls≤1:=hpr.resolve_left (by rw[hp];simp)
       have:ao.op.cls=0∨ao.op.cls=1:=by omega
       rcases this with h0 | h0
       ·exact (cls0 h0 k).2 H'
       ·exact (cls1 h0 k).2 H' (fun id o h=>by simp at h)
     rcases h2 with h2 | h2
     ·exact evalOp_sim rfl h2 hS hE hev
     ·exact call_owes rfl h2 (fun d hd'=>hd d (by simp[dutyOps,hd'])) hc hS hE hev
    |succ i=>exact k2 i x y (by simpa using hx) (by simpa using hy)
 obtain⟨k1,k2⟩:=key hok hd
 exact⟨by simpa using k1,fun i o ao h1 h2=>(k2 i o ao (by simpa using h1) h2).1,fun i o ao h1 h2=>(k2 i o ao (by simpa using h1) h2).2⟩
def Ex.to:Ex→Exit
 | .norm=> .normal
 | .exit id=> .exit id
 | .ret=> .ret
theorem seqA_some {f:St→Option (Ex×St)} {r:Option (Ex×St)} {x:Ex×St} (h:seqA f r=some x):(∃ s,r=some (.norm,s)∧f s=some x)∨(r=some x∧x.1≠ .norm):=by
 cases r with
 |none=>cases h
 |some y=>
  obtain⟨ex,s⟩:=y
  cases ex with
  |norm=>exact .inl ⟨s,rfl,h⟩
  |exit id=>simp only[seqA,Option.some.injEq] at h;subst h;exact .inr ⟨rfl,by simp⟩
  |ret=>simp only[seqA,Option.some.injEq] at h;subst h;exact .inr ⟨rfl,by simp⟩
theorem startA_some {f:St→Option (Ex×St)} {r:Option St} {x:Ex×St} (h:startA f r=some x):∃ s,r=some s∧f s=some x:=by
 cases r with
 |none=>cases h
 |some s=>exact⟨s,rfl,h⟩
theorem keepEnv_rel {k:AV→Value→Prop} {e:Tr} {a:Act} (hE:ERel fo k e a):∀ (l:List Nat),ERel fo k (keepEnv e l) a
 | []=>fun t=> .undef _
 |x::l=>fun t=>by
  simp only[keepEnv]
  rw[Tr.get_set]
  split
  ·rename_i ht;subst ht;exact hE t
  ·exact keepEnv_rel hE l t
theorem tidy_goes {w0 w:World} {R0 R:Rd} {φ0 φ:Pl} {H0:List AObj} {a0 a:Act} {s:St} (l:List Nat) (g:Goes fo B0 w0 R0 φ0 H0 a0 w R φ s a):Goes fo B0 w0 R0 φ0 H0 a0 w R φ (tidy l s) a:=
 ⟨g.rel,keepEnv_rel g.env l,g.mono,g.below,g.size,g.defers⟩
theorem code_sim {nt:Nat} (hc:CallOk P fo B0 call):∀ (ac:ACode) (c:Code),okCode P fo nt c ac=true→(∀ d∈duties c ac,PureFn P d.1 d.2)→
 ∀ {w:World} {R:Rd} {φ:Pl} {s s':St} {ex:Ex} {a:Act} {Q:Exit→Act→World→Prop},SRel fo B0 w R φ s.H→ERel fo (K R φ s.H) s.env a→a.tmps.size=nt→evalC call ac s=some (ex,s')→
 (∀ a' w' R' φ',Goes fo B0 w R φ s.H a w' R' φ' s' a'→Q ex.to a' w')→c.wp P Q a w:=by
 intro ac
 induction ac with
 |skip=>
  intro c hok hd w R φ s s' ex a Q hS hE hn h hq
  cases c <;> simp[okCode] at hok
  ·simp only[evalC,Option.some.injEq,Prod.mk.injEq] at h
   obtain⟨rfl,rfl⟩:=h
   exact wp_skip (hq _ _ R φ (.refl hS hE))
  ·simp only[evalC,Option.some.injEq,Prod.mk.injEq] at h
   obtain⟨rfl,rfl⟩:=h
   exact wp_label (hq _ _ R φ (.refl hS hE))
 |scope b ihb=>
  intro c hok hd w R φ s s' ex a Q hS hE hn h hq
  cases c with
  |scope c1=>
   simp only[okCode] at hok
   simp only[evalC] at h
   refine wp_scope_straight (ihb c1 hok hd hS hE hn h fun a' w' R' φ' g=> ?_)
   have:=hq _ _ _ _ g
   cases ex <;> exact this
  |_=>simp[okCode] at hok
 |region aops=>
  intro c hok hd w R φ s s' ex a Q hS hE hn h hq
  cases c with
  |region id ops draw=>
   simp only[okCode,Bool.and_eq_true,Bool.or_eq_true,Bool.not_eq_true'] at hok
   have hs:=slots_of hc hok.1 hd
   simp only[evalC] at h
   cases ho:evalOps call aops s with
   |none=>simp[ho,normA] at h
   |some s1=>
    simp only[ho,normA,Option.some.injEq,Prod.mk.injEq] at h
    obtain⟨rfl,rfl⟩:=h
    cases draw with
    |false=>exact region_sim hs hS hE hn ho hq
    |true=>
     rcases hok.2 with h | h
     ·cases h
     ·exact region_draw h.1 hs h.2 hS hE hn ho hq
  |_=>simp[okCode] at hok
 |seq x y ihx ihy=>
  intro c hok hd w R φ s s' ex a Q hS hE hn h hq
  cases c with
  |seq a1 b1=>
   simp only[okCode,Bool.and_eq_true] at hok
   simp only[evalC] at h
   have hd1:∀ d∈duties a1 x,PureFn P d.1 d.2:=fun d hd'=>hd d (by simp[duties,hd'])
   have hd2:∀ d∈duties b1 y,PureFn P d.1 d.2:=fun d hd'=>hd d (by simp[duties,hd'])
   refine wp_seq ?_
   rcases seqA_some h with⟨s1,h1,h2⟩ | ⟨h1,h2⟩
   ·refine ihx a1 hok.1 hd1 hS hE hn h1 fun a' w' R' φ' g=> ?_
    exact ihy b1 hok.2 hd2 g.rel g.env (g.size.trans hn) h2 fun a'' w'' R'' φ'' g'=>hq _ _ _ _ (g.trans g')
   ·refine ihx a1 hok.1 hd1 hS hE hn h1 fun a' w' R' φ' g=> ?_
    cases ex with
    |norm=>exact absurd rfl h2
    |exit id=>exact hq _ _ _ _ g
    |ret=>exact hq _ _ _ _ g
  |_=>simp[okCode] at hok
 |cond co x y ihx ihy=>
  intro c hok hd w R φ s s' ex a Q hS hE hn h hq
  cases c with
  |cond co1 a1 b1=>
   simp only[okCode,Bool.and_eq_true] at hok
   simp only[evalC] at h
   have hd1:∀ d∈duties a1 x,PureFn P d.1 d.2:=fun d hd'=>hd d (by simp[duties,hd'])
   have hd2:∀ d∈duties b1 y,PureFn P d.1 d.2:=fun d hd'=>hd d (by simp[duties,hd'])
   cases hb:asBool (co.ev s.env) with
   |none=>simp[hb,condA] at h
   |some b=>
    have hv:=asBool_rel (ev_rel (R:=R) (φ:=φ) (H:=s.H) hE hok.1.1) hb
    refine wp_cond hv ?_
    cases b with
    |true=>simp only[hb,condA] at h;exact ihx a1 hok.1.2 hd1 hS hE hn h hq
    |false=>simp only[hb,condA] at h;exact ihy b1 hok.2 hd2 hS hE hn h hq
  |_=>simp[okCode] at hok
 |block id b ih=>
  intro c hok hd w R φ s s' ex a Q hS hE hn h hq
  cases c with
  |block id1 b1=>
   simp only[okCode,Bool.and_eq_true,beq_iff_eq] at hok
   obtain⟨rfl,hok⟩:=hok
   simp only[evalC] at h
   refine wp_block ?_
   cases hb:evalC call b s with
   |none=>simp[hb,blockA] at h
   |some r=>
    obtain⟨ex1,s1⟩:=r
    refine ih b1 hok hd hS hE hn hb fun a' w' R' φ' g=> ?_
    cases ex1 with
    |norm=>simp only[hb,blockA,Option.some.injEq,Prod.mk.injEq] at h;obtain⟨rfl,rfl⟩:=h;exact hq _ _ _ _ g
    |ret=>simp only[hb,blockA,Option.some.injEq,Prod.mk.injEq] at h;obtain⟨rfl,rfl⟩:=h;exact hq _ _ _ _ g
    |exit id2=>
     simp only[hb,blockA] at h
     show Exit.inBlock id1 Q (.exit id2) a' w'
     simp only[Exit.inBlock]
     split at h
     ·rename_i e
      simp only[Option.some.injEq,Prod.mk.injEq] at h;obtain⟨rfl,rfl⟩:=h
      rw[if_pos e];exact hq _ _ _ _ g
     ·rename_i e
      simp only[Option.some.injEq,Prod.mk.injEq] at h;obtain⟨rfl,rfl⟩:=h
      rw[if_neg e];exact hq _ _ _ _ g
  |_=>simp[okCode] at hok
 |loop live b ih=>
  intro c hok hd w R φ s s' ex a Q hS hE hn h hq
  cases c with
  |loop b1=>
   simp only[okCode] at hok
   simp only[evalC] at h
   obtain⟨s0,h0,h⟩:=startA_some h
   have g0:=clean_goes (Goes.refl hS hE) h0
   refine wp_loop_rounds rounds ?_
   have key:∀ (n:Nat) {w1:World} {R1:Rd} {φ1:Pl} {s1:St} {a1:Act},Goes fo B0 w R φ s.H a w1 R1 φ1 s1 a1→loopA (roundA (evalC call b) (clean s.H.length live)) n s1=some (ex,s')→Code.rounds P b1 Q n a1 w1:=by
    intro n
    induction n with
    |zero=>intro w1 R1 φ1 s1 a1 g hl;simp[loopA] at hl
    |succ n ihn=>
     intro w1 R1 φ1 s1 a1 g hl
     simp only[loopA] at hl
     rw[rounds_succ]
     rcases seqA_some hl with⟨s2,k1,k2⟩ | ⟨k1,k2⟩
     ·simp only[roundA] at k1
      rcases seqA_some k1 with⟨s3,j1,j2⟩ | ⟨j1,j2⟩
      ·refine ih b1 hok hd g.rel g.env (g.size.trans hn) j1 fun a' w' R' φ' g'=> ?_
       cases hcl:clean s.H.length live s3 with
       |none=>simp[hcl,normA] at j2
       |some s4=>
        simp only[hcl,normA,Option.some.injEq,Prod.mk.injEq,true_and] at j2
        subst j2
        exact ihn (clean_goes (g.trans g') hcl) k2
      ·exact absurd rfl j2
     ·simp only[roundA] at k1
      rcases seqA_some k1 with⟨s3,j1,j2⟩ | ⟨j1,j2⟩
      ·cases hcl:clean s.H.length live s3 with
       |none=>simp[hcl,normA] at j2
       |some s4=>
        simp only[hcl,normA,Option.some.injEq,Prod.mk.injEq] at j2
        exact absurd j2.1.symm k2
      ·refine ih b1 hok hd g.rel g.env (g.size.trans hn) j1 fun a' w' R' φ' g'=> ?_
       cases ex with
       |norm=>exact absurd rfl j2
       |exit id=>exact hq _ _ _ _ (g.trans g')
       |ret=>exact hq _ _ _ _ (g.trans g')
   exact key rounds g0 h
  |_=>simp[okCode] at hok
 |loopG live b ih=>
  intro c hok hd w R φ s s' ex a Q hS hE hn h hq
  cases c with
  |loop b1=>
   simp only[okCode] at hok
   simp only[evalC] at h
   have g0:=tidy_goes live (Goes.refl hS hE)
   refine wp_loop_rounds rounds ?_
   have key:∀ (n:Nat) {w1:World} {R1:Rd} {φ1:Pl} {s1:St} {a1:Act},Goes fo B0 w R φ s.H a w1 R1 φ1 s1 a1→loopA (roundA (evalC call b) (fun s=>some (tidy live s))) n s1=some (ex,s')→Code.rounds P b1 Q n a1 w1:=by
    intro n
    induction n with
    |zero=>intro w1 R1 φ1 s1 a1 g hl;simp[loopA] at hl
    |succ n ihn=>
     intro w1 R1 φ1 s1 a1 g hl
     simp only[loopA] at hl
     rw[rounds_succ]
     rcases seqA_some hl with⟨s2,k1,k2⟩ | ⟨k1,k2⟩
     ·simp only[roundA] at k1
      rcases seqA_some k1 with⟨s3,j1,j2⟩ | ⟨j1,j2⟩
      ·refine ih b1 hok hd g.rel g.env (g.size.trans hn) j1 fun a' w' R' φ' g'=> ?_
       simp only[normA,Option.some.injEq,Prod.mk.injEq,true_and] at j2
       subst j2
       exact ihn (tidy_goes live (g.trans g')) k2
      ·exact absurd rfl j2
     ·simp only[roundA] at k1
      rcases seqA_some k1 with⟨s3,j1,j2⟩ | ⟨j1,j2⟩
      ·simp only[normA,Option.some.injEq,Prod.mk.injEq] at j2
       exact absurd j2.1.symm k2
      ·refine ih b1 hok hd g.rel g.env (g.size.trans hn) j1 fun a' w' R' φ' g'=> ?_
       cases ex with
       |norm=>exact absurd rfl j2
       |exit id=>exact hq _ _ _ _ (g.trans g')
       |ret=>exact hq _ _ _ _ (g.trans g')
   exact key rounds g0 h
  |_=>simp[okCode] at hok
 |exit id=>
  intro c hok hd w R φ s s' ex a Q hS hE hn h hq
  cases c with
  |exit id1=>
   simp only[okCode,beq_iff_eq] at hok
   subst hok
   simp only[evalC,Option.some.injEq,Prod.mk.injEq] at h
   obtain⟨rfl,rfl⟩:=h
   exact wp_exit (hq _ _ R φ (.refl hS hE))
  |_=>simp[okCode] at hok
 |ret=>
  intro c hok hd w R φ s s' ex a Q hS hE hn h hq
  cases c with
  |ret=>
   simp only[evalC,Option.some.injEq,Prod.mk.injEq] at h
   obtain⟨rfl,rfl⟩:=h
   exact wp_ret (hq _ _ R φ (.refl hS hE))
  |_=>simp[okCode] at hok
 |ghost g b ih=>
  intro c hok hd w R φ s s' ex a Q hS hE hn h hq
  have hok':okCode P fo nt c b=true:=by cases c <;> simpa[okCode] using hok
  have hd':∀ d∈duties c b,PureFn P d.1 d.2:=by cases c <;> simpa[duties] using hd
  simp only[evalC] at h
  obtain⟨s0,h0,h⟩:=startA_some h
  obtain⟨R',φ',g0⟩:=ghost_sim hS hE h0
  exact ih c hok' hd' g0.rel g0.env hn h fun a' w' R'' φ'' g'=>hq _ _ _ _ (g0.trans g')
end
end Go.AM
namespace Go.AM
open Go.RowKit
def okRes (P:Program):List ResultVar→List ARes→Bool
 | [],[]=>true
 | .tmp t::r,.tmp t'::r'=>t==t'&&okRes P r r'
 | .cell a ty::r,.cell t ag n::r'=>a==t&&aggP P ty==some ag&&(!ag||sizeP P ty==some n)&&okRes P r r'
 |_,_=>false
def okFunc (P:Program) (fo:Nat→FuncId) (g:Func) (af:AFn):Bool:=
 (match g.body with
 |some c=>okCode P fo g.ntmps c af.body
 |none=>false)&&okRes P g.results.toList af.results&& !(g.name== "runtime.NumGoroutine")&&decide (af.np≤g.ntmps)
def dutiesF (g:Func) (af:AFn):List (FuncId×(List PV→Option PV)):=
 match g.body with
 |some c=>duties c af.body
 |none=>[]
def FnOk (P:Program) (fo:Nat→FuncId) (f:FuncId) (af:AFn):Prop:=
 ∃ g,P.funcs[f]? =some g∧okFunc P fo g af=true∧∀ d∈dutiesF g af,PureFn P d.1 d.2
def TableOk (P:Program) (fo:Nat→FuncId) (L:Nat→Option AFn):Prop:=∀ ix af,L ix=some af→FnOk P fo (fo ix) af
section
variable {P:Program} {fo:Nat→FuncId} {B0:Base} {call:CallF}
theorem argEnv_get:∀ (args:List AV) (i t:Nat),(argEnv i args).get t=(if i≤t then args[t - i]? else none).getD .undef:=by
 intro args
 induction args with
 |nil=>intro i t;simp[argEnv,Tr.get]
 |cons v r ih=>
  intro i t
  simp only[argEnv,Tr.get_set,ih]
  by_cases h:t=i
  ·subst h;simp
  ·by_cases h2:i≤t
   ·rw[if_neg h,if_pos h2,if_pos (by omega)]
    have:t - i=(t - (i+1))+1:=by omega
    rw[this];simp
   ·rw[if_neg h,if_neg h2,if_neg (by omega)]
theorem argEnv_rel {k:AV→Value→Prop} {args:List AV} {vs:List Value} (h:ALRel fo k args vs) (n:Nat):ERel fo k (argEnv 0 args) {tmps:=⟨vs⟩++Array.replicate n undef,defers:=[]}:=by
 intro t
 rw[argEnv_get]
 simp only[Nat.zero_le,if_true,Nat.sub_zero]
 cases ha:args[t]? with
 |none=>exact .undef _
 |some a=>
  obtain⟨v,hv,hr⟩:=h.get ha
  have hlt:=getElem?_lt hv
  rw[Array.getD_eq_getD_getElem?,Array.getElem?_append_left (by simpa using hlt)]
  simpa[hv] using hr
theorem loadAt_inv {t:TypeId} {vx v:Value} {w w':World} (h:(Instr.loadAt t vx).run P w= .ok v w'):∃ a,vx= .pointer (some a):=by
 cases vx with
 |pointer a=>
  cases a with
  |none=>simp[Instr.loadAt,Instr.sureAddr] at h
  |some a=>exact⟨a,rfl⟩
 |_=>simp[Instr.loadAt,Instr.sureAddr] at h
def resM (tmps:Array Value):ResultVar→Sem Value
 | .tmp t=>pure (tmps.getD t undef)
 | .cell a t=>do loadVar t (← asAddr (tmps.getD a undef))
theorem resM_tmp (tmps:Array Value) (t:Tmp) (w:World):(resM tmps (.tmp t)).run P w= .ok (tmps.getD t undef) w:=by simp only[resM,Sem.run_pure]
theorem res_sim {w:World} {R:Rd} {φ:Pl} {s:St} {a:Act} (hS:SRel fo B0 w R φ s.H) (hE:ERel fo (K R φ s.H) s.env a):∀ {rs:List ResultVar} {ars:List ARes} {vs:List AV},okRes P rs ars=true→mapO (resA s) ars=some vs→
 ∃ us,(rs.mapM (resM a.tmps):Sem (List Value)).run P w= .ok us w∧ALRel fo (K R φ s.H) vs us:=by
 intro rs
 induction rs with
 |nil=>
  intro ars vs hok h
  cases ars with
  |nil=>simp only[mapO,Option.some.injEq] at h;subst h;exact⟨[],by simp,.nil⟩
  |cons _ _=>simp[okRes] at hok
 |cons r rs ih=>
  intro ars vs hok h
  cases ars with
  |nil=>cases r <;> simp[okRes] at hok
  |cons ar ars=>
   simp only[mapO,Option.bind_eq_some_iff,Option.some.injEq] at h
   obtain⟨b,h1,bs,h2,rfl⟩:=h
   cases r with
   |tmp t=>
    cases ar with
    |tmp t'=>
     simp only[okRes,Bool.and_eq_true,beq_iff_eq] at hok
     obtain⟨rfl,hok⟩:=hok
     obtain⟨us,k1,k2⟩:=ih hok h2
     simp only[resA,Option.some.injEq] at h1
     subst h1
     exact⟨_::us,by simp only[List.mapM_cons,Sem.run_bind,resM_tmp,Result.andThen_ok,k1,Sem.run_pure],.cons _ _ _ _ (hE t) k2⟩
    |cell _ _ _=>simp[okRes] at hok
   |cell x ty=>
    cases ar with
    |tmp t'=>simp[okRes] at hok
    |cell t ag n=>
     simp only[okRes,Bool.and_eq_true,beq_iff_eq,Bool.or_eq_true,Bool.not_eq_true'] at hok
     obtain⟨⟨⟨rfl,ha⟩,hn⟩,hok⟩:=hok
     obtain⟨us,k1,k2⟩:=ih hok h2
     simp only[resA] at h1
     obtain⟨v,q1,q2⟩:=load_sim (P:=P) hS (hE x) ha (fun e=>by rcases hn with hn | hn;rw[e] at hn;cases hn;exact hn) h1
     obtain⟨ad,hv⟩:=loadAt_inv q1
     rw[hv] at q1
     have q1':(loadVar ty ad).run P w= .ok v w:=by simpa[Instr.loadAt,Instr.sureAddr] using q1
     have q3:(resM a.tmps (.cell x ty)).run P w= .ok v w:=by simp only[resM,hv];simp[asAddr,q1']
     exact⟨v::us,by simp only[List.mapM_cons,Sem.run_bind,q3,Result.andThen_ok,k1,Sem.run_pure],.cons _ _ _ _ q2 k2⟩
theorem results_sim {g:Func} {f:AFn} {w:World} {R:Rd} {φ:Pl} {s:St} {a:Act} (hS:SRel fo B0 w R φ s.H) (hE:ERel fo (K R φ s.H) s.env a) (hok:okRes P g.results.toList f.results=true) {v:AV} (h:retA f s=some v):
 ∃ u,(results g a.tmps).run P w= .ok u w∧ARel fo (K R φ s.H) v u:=by
 simp only[retA,Option.map_eq_some_iff] at h
 obtain⟨vs,h1,rfl⟩:=h
 obtain⟨us,k1,k2⟩:=res_sim hS hE hok h1
 have hrun:(results g a.tmps).run P w= .ok (if h:us.length=1 then us[0] else .tuple ⟨us⟩) w:=by
  have:results g a.tmps=(do let vs ←g.results.mapM (resM a.tmps);pure (if h:vs.size=1 then vs[0] else .tuple vs)):=rfl
  rw[this,Array.mapM_eq_mapM_toList]
  simp only[Sem.run_bind,Sem.run_map,k1,Result.andThen_ok,Sem.run_pure]
  simp
 refine⟨_,hrun,?_⟩
 cases k2 with
 |nil=>exact mkTup_rel .nil
 |cons x xs u us hx hxs=>
  cases hxs with
  |nil=>simpa[one1] using hx
  |cons y ys z zs hy hys=>
   have:one1 (x::y::ys)=mkTup (x::y::ys):=rfl
   rw[this]
   simpa using mkTup_rel (.cons _ _ _ _ hx (.cons _ _ _ _ hy hys))
theorem FnOk.callable {f:FuncId} {af:AFn} (h:FnOk P fo f af):Callable P f:=by
 obtain⟨g,h1,h2,_⟩:=h
 simp only[okFunc,Bool.and_eq_true,Bool.not_eq_true'] at h2
 cases hb:g.body with
 |none=>simp[hb] at h2
 |some c=>exact⟨g,c,h1,hb,h2.1.2⟩
theorem fn_sim {f:FuncId} {af:AFn} (hf:FnOk P fo f af) (hc:CallOk P fo B0 call) {args:List AV} {H H':List AObj} {v:AV} {w:World} {R:Rd} {φ:Pl} {vs:List Value} (hS:SRel fo B0 w R φ H) (hl:ALRel fo (K R φ H) args vs)
 (h:runF call af args H=some (v,H')):Calls P f ⟨vs⟩ w (Came fo B0 w R φ H v H'):=by
 obtain⟨g,h1,h2,h3⟩:=hf
 simp only[okFunc,Bool.and_eq_true,Bool.not_eq_true',decide_eq_true_eq] at h2
 obtain⟨⟨⟨h4,h5⟩,h6⟩,h7⟩:=h2
 cases hb:g.body with
 |none=>simp[hb] at h4
 |some c=>
  simp only[hb] at h4
  simp only[dutiesF,hb] at h3
  unfold runF at h
  split at h
  ·rename_i hnp
   cases he:evalC call af.body ⟨argEnv 0 args,H⟩ with
   |none=>simp[he,outA] at h
   |some r=>
    obtain⟨ex,s⟩:=r
    refine calls_of_wp h1 hb ?_
    have hlen:=hl.length
    refine code_sim hc af.body c h4 h3 (s:=⟨argEnv 0 args,H⟩) hS (argEnv_rel hl _) (by simp;omega) he fun a' w' R' φ' gg=> ?_
    have fin:∀ (v:AV),retA af s=some v→∃ u,(results g a'.tmps).run P w'= .ok u w'∧ARel fo (K R' φ' s.H) v u:=fun v hv=>results_sim gg.rel gg.env h5 hv
    have done:(retA af s).map (fun v=>(v,s.H))=some (v,H')→a'.defers=[]∧∃ u,(results g a'.tmps).run P w'= .ok u w'∧Came fo B0 w R φ H v H' (.returned u) w':=by
     intro hr
     simp only[Option.map_eq_some_iff,Prod.mk.injEq] at hr
     obtain⟨v1,hv1,rfl,rfl⟩:=hr
     obtain⟨u,k1,k2⟩:=fin _ hv1
     exact⟨gg.defers,u,k1,u,R',φ',rfl,gg.rel,k2,gg.mono,gg.below⟩
    cases ex with
    |norm=>exact done (by simpa[he,outA] using h)
    |ret=>exact done (by simpa[he,outA] using h)
    |exit id=>simp[he,outA] at h
  ·cases h
theorem callL_ok {L:Nat→Option AFn} (hL:TableOk P fo L):∀ d,CallOk P fo B0 (callL L d):=by
 intro d
 induction d with
 |zero=>intro ix args H v H' w R φ vs hS hl h;simp[callL] at h
 |succ d ih=>
  intro ix args H v H' w R φ vs hS hl h
  simp only[callL,Option.bind_eq_some_iff] at h
  obtain⟨af,h1,h2⟩:=h
  have hf:=hL ix af h1
  exact⟨hf.callable,fn_sim hf ih hS hl h2⟩
theorem pureF_ok {L:Nat→Option AFn} (hL:TableOk P fo L) {f:FuncId} {af:AFn} (hf:FnOk P fo f af):PureFn P f (pureF L af):=by
 refine⟨hf.callable,fun w R args vs r hR hl h=> ?_⟩
 simp only[pureF,Option.bind_eq_some_iff] at h
 obtain⟨⟨v,H'⟩,h1,h2⟩:=h
 have hS:SRel fo ⟨w.heap.size,R⟩ w R (fun _=>(0,0)) []:=
  ⟨Nat.le_refl _,hR,fun id o h=>by simp at h,fun i j hi=>by obtain⟨o,ho,_⟩:=hi;simp at ho,fun _ _ _=>rfl⟩
 refine Calls.mono (fn_sim hf (callL_ok hL 8) hS (ALRel.of_pv hl) h1) ?_
 rintro e w' ⟨u,R',φ',rfl,k1,k2,k3,k4⟩
 have hQ:Sub R' (fun b o=>if b < w.heap.size then R b o else w'.cell? ⟨b,o,none⟩):=by
  intro b o x hx
  (try dsimp only)
  split
  ·rename_i hlt;rw[← hx];exact (k1.old b o hlt).symm
  ·exact k1.sub b o x hx
 have k5:=toPV_sim k1 hQ (fun b o x hb hx=>by
  have hb:w.heap.size≤b:=hb
  (try dsimp only)
  rw[if_neg (by omega)];exact hx) deep k2 h2
 refine⟨u,_,rfl,k4,k5,fun b o hlt=>if_pos hlt,fun b o x hx=> ?_⟩
 split at hx
 ·rename_i hlt
  rw[cell_heap (k4.block b hlt)];exact hR b o x hx
 ·exact hx
end
theorem fM {P:Program} {fo:Nat→FuncId} {i:FuncId} {g:Func} {af:AFn} {l:List (FuncId×(List PV→Option PV))} (h:P.funcs[i]? =some g) (hp:∀ d∈l,PureFn P d.1 d.2) (ok:okFunc P fo g af=true) (du:dutiesF g af=l):FnOk P fo i af:=
 ⟨g,h,ok,by rw[du];exact hp⟩
theorem dN {P:Program}:∀ d∈([]:List (FuncId×(List PV→Option PV))),PureFn P d.1 d.2:=fun _ h=>by cases h
theorem dC {P:Program} {a:FuncId} {F:List PV→Option PV} {l:List (FuncId×(List PV→Option PV))} (h:PureFn P a F) (r:∀ d∈l,PureFn P d.1 d.2):∀ d∈(a,F)::l,PureFn P d.1 d.2:=List.forall_mem_cons.2 ⟨h,r⟩
abbrev Cv (d n:Nat):AOper:=⟨some d,.move (.t n),none,false⟩
abbrev Co (d:Nat) (op:AOp):AOper:=⟨some d,op,none,false⟩
abbrev Cp (d:Nat) (op:AOp):AOper:=⟨some d,op,none,true⟩
abbrev Cg (d t:Nat) (b:Bool) (op:AOp):AOper:=⟨some d,op,some (t,b),false⟩
abbrev Cq (d t:Nat) (b:Bool) (op:AOp):AOper:=⟨some d,op,some (t,b),true⟩
abbrev Ce (op:AOp):AOper:=⟨none,op,none,false⟩
end Go.AM
namespace Go.AM
section
variable {call:CallF}
theorem nextA_some (f:St→Option St) (s:St):nextA f (some s)=f s:=rfl
theorem seqA_norm (f:St→Option (Ex×St)) (s:St):seqA f (some (.norm,s))=f s:=rfl
theorem seqA_ret (f:St→Option (Ex×St)) (s:St):seqA f (some (.ret,s))=some (.ret,s):=rfl
theorem seqA_exit (f:St→Option (Ex×St)) (n:Nat) (s:St):seqA f (some (.exit n,s))=some (.exit n,s):=rfl
theorem normA_some (s:St):normA (some s)=some (.norm,s):=rfl
theorem condA_t (f g:St→Option (Ex×St)) (s:St):condA f g s (some true)=f s:=rfl
theorem condA_f (f g:St→Option (Ex×St)) (s:St):condA f g s (some false)=g s:=rfl
theorem startA_go (f:St→Option (Ex×St)) (s:St):startA f (some s)=f s:=rfl
theorem blockA_norm (n:Nat) (s:St):blockA n (some (.norm,s))=some (.norm,s):=rfl
theorem blockA_ret (n:Nat) (s:St):blockA n (some (.ret,s))=some (.ret,s):=rfl
theorem blockA_exit (n m:Nat) (s:St):blockA n (some (.exit m,s))=if m=n then some (.norm,s) else some (.exit m,s):=rfl
theorem putR_do (d:Nat) (e:Tr) (v:AV) (H:List AObj):putR (some d) e (some (v,H))=some ⟨e.set d v,H⟩:=rfl
theorem putR_no (e:Tr) (v:AV) (H:List AObj):putR none e (some (v,H))=some ⟨e,H⟩:=rfl
theorem C_skip (s:St):evalC call .skip s=some (.norm,s):=rfl
theorem C_region (ops:List AOper) (s:St):evalC call (.region ops) s=normA (evalOps call ops s):=rfl
theorem C_seq (a b:ACode) (s:St):evalC call (.seq a b) s=seqA (evalC call b) (evalC call a s):=rfl
theorem C_cond (c:AO) (a b:ACode) (s:St):evalC call (.cond c a b) s=condA (evalC call a) (evalC call b) s (asBool (c.ev s.env)):=rfl
theorem C_block (n:Nat) (b:ACode) (s:St):evalC call (.block n b) s=blockA n (evalC call b s):=rfl
theorem C_scope (b:ACode) (s:St):evalC call (.scope b) s=evalC call b s:=rfl
theorem C_loop (live:List Nat) (b:ACode) (s:St):evalC call (.loop live b) s=startA (loopA (roundA (evalC call b) (clean s.H.length live)) rounds) (clean s.H.length live s):=rfl
theorem C_loopG (live:List Nat) (b:ACode) (s:St):evalC call (.loopG live b) s=loopA (roundA (evalC call b) (fun s=>some (tidy live s))) rounds (tidy live s):=rfl
theorem C_exit (n:Nat) (s:St):evalC call (.exit n) s=some (.exit n,s):=rfl
theorem C_ret (s:St):evalC call .ret s=some (.ret,s):=rfl
theorem C_ghost (g:Ghost) (c:ACode) (s:St):evalC call (.ghost g c) s=startA (evalC call c) (ghostA g s):=rfl
theorem ops_nil (s:St):evalOps call [] s=some s:=rfl
theorem ops_cons (o:AOper) (r:List AOper) (s:St):evalOps call (o::r) s=nextA (evalOps call r) (evalOper call o s):=rfl
theorem oper_go (d:Option Nat) (op:AOp) (e:Tr) (H:List AObj):evalOper call ⟨d,op,none,false⟩ ⟨e,H⟩=putR d e (evalOp call e H op):=rfl
theorem oper_pr (d:Option Nat) (op:AOp) (e:Tr) (H:List AObj):evalOper call ⟨d,op,none,true⟩ ⟨e,H⟩=putR d e (onH H (evalOp call e [] op)):=rfl
theorem oper_if (d:Option Nat) (op:AOp) (t:Nat) (b p:Bool) (e:Tr) (H:List AObj):evalOper call ⟨d,op,some (t,b),p⟩ ⟨e,H⟩=guardA (doOp call ⟨d,op,some (t,b),p⟩) (skipOp ⟨d,op,some (t,b),p⟩) ⟨e,H⟩ (wantedA e (some (t,b))):=rfl
theorem guard_t (f g:St→Option St) (s:St):guardA f g s (some true)=f s:=rfl
theorem guard_f (f g:St→Option St) (s:St):guardA f g s (some false)=g s:=rfl
theorem do_go (d:Option Nat) (op:AOp) (g:Option (Nat×Bool)) (e:Tr) (H:List AObj):doOp call ⟨d,op,g,false⟩ ⟨e,H⟩=putR d e (evalOp call e H op):=rfl
theorem do_pr (d:Option Nat) (op:AOp) (g:Option (Nat×Bool)) (e:Tr) (H:List AObj):doOp call ⟨d,op,g,true⟩ ⟨e,H⟩=putR d e (onH H (evalOp call e [] op)):=rfl
theorem skip_do (d:Nat) (op:AOp) (g:Option (Nat×Bool)) (p:Bool) (e:Tr) (H:List AObj):skipOp ⟨some d,op,g,p⟩ ⟨e,H⟩=some ⟨e.set d (.pv (.tup [])),H⟩:=rfl
theorem skip_no (op:AOp) (g:Option (Nat×Bool)) (p:Bool) (e:Tr) (H:List AObj):skipOp ⟨none,op,g,p⟩ ⟨e,H⟩=some ⟨e,H⟩:=rfl
theorem onH_go (H:List AObj) (v:AV):onH H (some (v,[]))=some (v,H):=rfl
theorem outA_norm (f:AFn) (s:St):outA f (some (.norm,s))=(retA f s).map fun v=>(v,s.H):=rfl
theorem outA_ret (f:AFn) (s:St):outA f (some (.ret,s))=(retA f s).map fun v=>(v,s.H):=rfl
theorem run_go (f:AFn) (args:List AV) (H:List AObj) (h:args.length=f.np):runF call f args H=outA f (evalC call f.body ⟨argEnv 0 args,H⟩):=if_pos h
end
def outR (rs:List ARes) (r:Option (Ex×St)):Option (AV×List AObj):=outA ⟨0,rs,.skip⟩ r
theorem outR_norm (rs:List ARes) (s:St):outR rs (some (.norm,s))=(mapO (resA s) rs).bind fun vs=>some (one1 vs,s.H):=by
 show (retA _ s).map _=_
 simp only[retA]
 cases mapO (resA s) rs <;> rfl
theorem outR_ret (rs:List ARes) (s:St):outR rs (some (.ret,s))=(mapO (resA s) rs).bind fun vs=>some (one1 vs,s.H):=outR_norm rs s
theorem runF_go {call:CallF} (np:Nat) (rs:List ARes) (body:ACode) (args:List AV) (H:List AObj):runF call ⟨np,rs,body⟩ args H=if args.length=np then outR rs (evalC call body ⟨argEnv 0 args,H⟩) else none:=rfl
theorem b_tt:(true==true)=true:=rfl
theorem b_tf:(true==false)=false:=rfl
theorem b_ft:(false==true)=false:=rfl
theorem b_ff:(false==false)=true:=rfl
theorem callL_succ (L:Nat→Option AFn) (d ix:Nat) (args:List AV) (H:List AObj):callL L (d+1) ix args H=(L ix).bind fun f=>runF (callL L d) f args H:=rfl
theorem callL_go (L:Nat→Option AFn) (d ix:Nat) (args:List AV) (H:List AObj) {f:AFn} (h:L ix=some f):callL L (d+1) ix args H=runF (callL L d) f args H:=by simp[callL,h]
theorem lenA_nils (H:List AObj):lenA H 0 (.pv .nils)=some 0:=rfl
theorem lenA_lit (H:List AObj) (sz:Nat) (es:List PV):lenA H 0 (.pv (.lit sz es))=some es.length:=rfl
theorem lenA_uq (H:List AObj) (id sz:Nat) (nl:Bool) (es:List PV):lenA H 0 (.uq id nl sz es)=some es.length:=rfl
theorem lenA_str (H:List AObj) (x:ByteArray):lenA H 1 (.pv (.str x))=some x.size:=rfl
theorem lenA_nilm (H:List AObj):lenA H 2 (.pv .nilm)=some 0:=rfl
theorem lenA_own (H:List AObj) (id len:Nat):lenA H 0 (.own id len)=match H[id]? with
 |some (.seq sz _ cells fl _)=>(if (winOk sz len fl cells.length) then (some len) else none)
 |_=>none:=rfl
theorem lenA_mp (H:List AObj) (id:Nat):lenA H 2 (.mp id)=match H[id]? with
 |some (.map es)=>some es.length
 |_=>none:=rfl
end Go.AM
namespace Go.AM
open Go.RowKit
theorem cell_int {P:Program} {w:World} {r:Reach} {base:Nat} {t:TypeId} {v:Value} {k:IntKind} (hu:P.underlying t=some (.int k)) (h:Cell.okWide P w r base t v):∃ n,v= .int k n∧k.has n:=by
 unfold Cell.okWide at h
 rw[hu] at h
 cases v <;> simp[Cell.ok,hu] at h
 obtain⟨rfl,h⟩:=h
 exact⟨_,rfl,h⟩
theorem law_calls {P:Program} {f:FuncId} {F:List PV→Option PV} (h:PureFn P f F) {w:World} {args:List PV} {vs:List Value} (hl:LRel (Rw w) args vs) (hr:F args=some (.bool true)):
 Calls P f ⟨vs⟩ w fun e w'=>e= .returned (.bool true)∧Below w.heap.size w w':=by
 refine Calls.mono (h.2 w (Rw w) args vs _ (fun _ _ _ h=>h) hl hr) ?_
 rintro e w' ⟨v,R',rfl,hb,hv,_⟩
 cases hv
 exact⟨rfl,hb⟩
end Go.AM
namespace Go.AM
open Go.RowKit
def isAggT (P:Program) (t:TypeId):Bool:=
 match P.underlying t with
 |some (.struct _) | some (.array _ _)=>true
 |_=>false
def elPV (P:Program) (e:TypeId) (row:List PV):PV:=if isAggT P e then .agg row else row.headD .nilp
def rowOf (P:Program) {H:Type}:Nat→TypeId→DataW H→List PV
 |0,_,_=>[]
 |f+1,t,d=>
  match P.underlying t,d with
  |some .bool,.lit (.bool b)=>[.bool b]
  |some (.int k),.lit (.int _ n)=>[.int k n]
  |some .string,.lit (.string l)=>[.str ⟨l.toArray⟩]
  |some (.pointer _),.nil=>[.nilp]
  |some (.pointer e),.ptr d=>[.rp (rowOf P f e d) 0]
  |some (.slice _),.nil=>[.nils]
  |some (.slice e),.slice es _=>[.lit (P.cellsOf e) (es.map fun d=>elPV P e (rowOf P f e d))]
  |some (.struct fs),.agg ds=>((fs.toList.zip ds).map fun p=>rowOf P f p.1.type p.2).flatten
  |some (.array _ e),.agg ds=>(ds.map (rowOf P f e)).flatten
  |_,_=>[]
def laidF (P:Program):Nat→List Field→Option Nat
 |o,[]=>some o
 |o,f::r=>if f.offset=o then laidF P (o+P.cellsOf f.type) r else none
def okT (P:Program):Nat→TypeId→Bool
 |0,_=>false
 |f+1,t=>
  match P.underlying t with
  |some .bool | some (.int _) | some .string=>P.cellsOf t==1
  |some (.pointer e) | some (.slice e)=>P.cellsOf t==1&&decide (0 < P.cellsOf e)&&okT P f e
  |some (.struct fs)=>laidF P 0 fs.toList==some (P.cellsOf t)&&fs.toList.all fun fd=>okT P f fd.type
  |some (.array n e)=>P.cellsOf t==n * P.cellsOf e&&okT P f e
  |_=>false
section
variable {P:Program} {H:Type} {enc:TypeId×Value→H} {w:World} {base:Nat} {sp:Nat→Bool} {held:Bool}
structure RowOk (P:Program) (w:World) (t:TypeId) (row:List PV) (cs:List Value):Prop where
 rel:LRel (Rw w) row cs
 one:∀ p∈row,pone p=true
 len:row.length=P.cellsOf t
theorem mapM_some {α β:Type} {f:α→Option β}:∀ {l:List α} {r:List β},l.mapM f=some r→r.length=l.length∧∀ (i:Nat) (x:α),l[i]? =some x→∃ y,r[i]? =some y∧f x=some y:=by
 intro l
 induction l with
 |nil=>intro r h;simp at h;subst h;exact⟨rfl,fun i x h=>by simp at h⟩
 |cons a l ih=>
  intro r h
  simp only[List.mapM_cons,Option.bind_eq_bind,Option.bind_eq_some_iff,Option.pure_def,Option.some.injEq] at h
  obtain⟨b,h1,bs,h2,rfl⟩:=h
  obtain⟨k1,k2⟩:=ih h2
  refine⟨by simp[k1],fun i x hx=> ?_⟩
  cases i with
  |zero=>simp at hx;subst hx;exact⟨b,rfl,h1⟩
  |succ i=>simpa using k2 i x (by simpa using hx)
theorem LRel.app {R:Rd} {ps qs:List PV} {vs us:List Value} (h:LRel R ps vs) (h':LRel R qs us):LRel R (ps++qs) (vs++us):=LRel.append h h'
theorem cells_spec {a:Addr} {n:Nat} {cs:List Value} (h:w.cells? base a n=some cs):cs.length=n∧∀ (i:Nat) (v:Value),cs[i]? =some v→w.cell? (a.add i)=some v:=by
 unfold World.cells? at h
 split at h
 ·obtain⟨h1,h2⟩:=mapM_some h
  rw[List.length_range] at h1
  refine⟨h1,fun i v hv=> ?_⟩
  have hlt:=getElem?_lt hv
  obtain⟨y,hy1,hy2⟩:=h2 i i (by rw[List.getElem?_range (by omega)])
  rw[hv] at hy1;injection hy1 with hy1;subst hy1;exact hy2
 ·cases h
theorem cell_spot {a:Addr} {v:Value} (h:w.cell? a=some v):a.spot=none:=by
 unfold World.cell? at h
 split at h
 ·split at h
  ·cases h
  ·rename_i hs;cases ha:a.spot with
   |none=>rfl
   |some s=>simp[ha] at hs
 ·cases h
theorem cell_at {a:Addr} {i:Nat} {v:Value} (h:w.cell? (a.add i)=some v):w.cell? ⟨a.block,a.off+i,none⟩=some v:=by
 have hs:=cell_spot h
 obtain⟨b,o,s⟩:=a
 unfold Addr.add at h hs
 split at h
 ·rename_i h0;subst h0
  rw[if_pos rfl] at hs
  simp only at hs
  subst hs
  simpa using h
 ·exact h
theorem RRel.flat {R:Rd} {b sz:Nat}:∀ {es:List PV} {o:Nat},(∀ e∈es,e.cells.length=sz)→(∀ (i:Nat) (e:PV),es[i]? =some e→RRel R e.cells b (o+i * sz))→RRel R (AM.flat es) b o:=by
 intro es
 induction es with
 |nil=>intro o _ _;exact .nil _ _
 |cons e es ih=>
  intro o hl h
  have h0:=h 0 e rfl
  simp only[Nat.zero_mul,Nat.add_zero] at h0
  refine RRel.append h0 ?_
  rw[hl e (by simp)]
  refine ih (fun x hx=>hl x (by simp[hx])) fun i x hx=> ?_
  have:=h (i+1) x (by simpa using hx)
  rw[Nat.add_mul,Nat.one_mul] at this
  rw[show o+sz+i * sz=o+(i * sz+sz) from by omega]
  exact this
theorem el_cells {e:TypeId} {row:List PV} {cs:List Value} (h:RowOk P w e row cs) (hs:isAggT P e=true∨P.cellsOf e=1):(elPV P e row).cells=row:=by
 unfold elPV
 split
 ·rfl
 ·rename_i hn
  have hc:=hs.resolve_left hn
  have hlen:=h.len
  rw[hc] at hlen
  match row,hlen with
  | [p],_=>exact pone_cells (h.one p (by simp))
theorem row_at {e:TypeId} {row:List PV} {cs:List Value} {a:Addr} (h:RowOk P w e row cs) (hc:∀ (i:Nat) (v:Value),cs[i]? =some v→w.cell? (a.add i)=some v):RRel (Rw w) row a.block a.off:=
 RRel.of_list h.rel (fun v hv=>by
  obtain⟨i,hi⟩:=List.mem_iff_getElem?.1 hv
  have hlt:=getElem?_lt hi
  have hl:=h.rel.length
  have hp:row[i]? =some (row[i]'(by omega)):=List.getElem?_eq_getElem _
  obtain⟨u,hu,hr⟩:=h.rel.get hp
  rw[hi] at hu;injection hu with hu;subst hu
  exact hr.one (h.one _ (List.getElem_mem _))) fun i v hv=>cell_at (hc i v hv)
theorem okT_one {g:Nat} {t:TypeId} (h:okT P g t=true):isAggT P t=true∨P.cellsOf t=1:=by
 cases g with
 |zero=>simp[okT] at h
 |succ g=>
  simp only[okT] at h
  unfold isAggT
  split at h <;> simp_all
theorem laid_rows {R:Rd}:∀ (fs:List Field) (o:Nat) (cs:List Value) (rows:List (List PV)),laidF P o fs=some cs.length→rows.length=fs.length→
 (∀ (i:Nat) (f:Field) (r:List PV),fs[i]? =some f→rows[i]? =some r→LRel R r ((cs.drop f.offset).take (P.cellsOf f.type))∧r.length=P.cellsOf f.type)→LRel R rows.flatten (cs.drop o):=by
 intro fs
 induction fs with
 |nil=>
  intro o cs rows h hl _
  simp only[laidF,Option.some.injEq] at h
  subst h
  have:rows=[]:=List.eq_nil_of_length_eq_zero (by simpa using hl)
  subst this
  simpa using LRel.nil
 |cons f fs ih=>
  intro o cs rows h hl hr
  cases rows with
  |nil=>simp at hl
  |cons r rows=>
   simp only[laidF] at h
   split at h
   ·rename_i ho
    obtain⟨h1,h2⟩:=hr 0 f r rfl rfl
    rw[ho] at h1
    have h3:=ih (o+P.cellsOf f.type) cs rows h (by simpa using hl) fun i g q hg hq=>hr (i+1) g q (by simpa using hg) (by simpa using hq)
    have:cs.drop o=(cs.drop o).take (P.cellsOf f.type)++cs.drop (o+P.cellsOf f.type):=by
     rw[← List.drop_drop,List.take_append_drop]
    rw[this,List.flatten_cons]
    exact LRel.app h1 h3
   ·cases h
theorem arr_rows {R:Rd} {sz:Nat}:∀ (n:Nat) (cs:List Value) (rows:List (List PV)),cs.length=n * sz→rows.length=n→
 (∀ (i:Nat) (r:List PV),rows[i]? =some r→LRel R r ((cs.drop (i * sz)).take sz))→LRel R rows.flatten cs:=by
 intro n
 induction n with
 |zero=>
  intro cs rows h hl _
  have:rows=[]:=List.eq_nil_of_length_eq_zero hl
  subst this
  have:cs=[]:=List.eq_nil_of_length_eq_zero (by simpa using h)
  subst this
  exact .nil
 |succ n ih=>
  intro cs rows h hl hr
  cases rows with
  |nil=>simp at hl
  |cons r rows=>
   have h1:=hr 0 r rfl
   simp only[Nat.zero_mul,List.drop_zero] at h1
   have h3:=ih (cs.drop sz) rows (by rw[List.length_drop,h,Nat.add_mul];omega) (by simpa using hl) fun i q hq=>by
    have:=hr (i+1) q (by simpa using hq)
    rw[List.drop_drop]
    rw[Nat.add_mul,Nat.one_mul] at this
    rw[show sz+i * sz=i * sz+sz from by omega]
    exact this
   rw[← List.take_append_drop sz cs,List.flatten_cons]
   exact LRel.app h1 h3
theorem row_rel:∀ (g:Nat) (t:TypeId) (fuel:Nat) (cs:List Value) (x:DataW H×List MemPlace),okT P g t=true→DataW.trod enc P w base (fun _=>true) held fuel t cs=some x→RowOk P w t (rowOf P g t x.1) cs:=by
 intro g
 induction g with
 |zero=>intro t fuel cs x h;simp[okT] at h
 |succ g ih=>
  intro t fuel cs x hok h
  simp only[okT] at hok
  have elem:∀ {e:TypeId} {n:Nat} {a:Addr} {y:DataW H×List MemPlace},okT P g e=true→(w.cells? base a (P.cellsOf e)).bind (DataW.trod enc P w base (fun _=>true) held n e)=some y→
   RRel (Rw w) (rowOf P g e y.1) a.block a.off∧(rowOf P g e y.1).length=P.cellsOf e∧(elPV P e (rowOf P g e y.1)).cells=rowOf P g e y.1∧(0 < P.cellsOf e→a.spot=none):=by
   intro e n a y he hy
   simp only[Option.bind_eq_some_iff] at hy
   obtain⟨ecs,h1,h2⟩:=hy
   obtain⟨k1,k2⟩:=cells_spec h1
   have hr:=ih e n ecs y he h2
   refine⟨row_at hr k2,hr.len,el_cells hr (okT_one he),fun hpos=> ?_⟩
   have hv:ecs[0]? =some (ecs[0]'(by omega)):=List.getElem?_eq_getElem _
   have:=cell_spot (k2 0 _ hv)
   simpa[Addr.add] using this
  have atom:∀ {p:PV} {v:Value},pone p=true→PRel (Rw w) p v→P.cellsOf t=1→RowOk P w t [p] [v]:=fun h1 h2 h3=>
   ⟨.cons _ _ _ _ h2 .nil,by simpa using h1,by simp[h3]⟩
  cases hu:P.underlying t with
  |none=>simp[hu] at hok
  |some td=>
   simp only[hu] at hok
   cases td with
   |bool=>
    obtain⟨b,rfl,rfl⟩:=DataW.trod_bool hu h
    simp only[rowOf,hu]
    exact atom rfl (.bool _) (by simpa using hok)
   |int k=>
    obtain⟨n,rfl,rfl,_⟩:=DataW.trod_int hu h
    simp only[rowOf,hu]
    exact atom rfl (.int _ _) (by simpa using hok)
   |string=>
    obtain⟨s,rfl,rfl,_⟩:=DataW.trod_string hu h
    simp only[rowOf,hu]
    obtain⟨⟨l⟩⟩:=s
    exact atom rfl (.str _) (by simpa using hok)
   |pointer e=>
    simp only[Bool.and_eq_true,beq_iff_eq,decide_eq_true_eq] at hok
    obtain⟨⟨hc,hpos⟩,he⟩:=hok
    rcases DataW.trod_pointer hu h with⟨rfl,rfl⟩ | ⟨a,ecs,y,n,rfl,rfl,rfl,h1,h2⟩
    ·simp only[rowOf,hu]
     exact atom rfl .nilp hc
    ·simp only[rowOf,hu]
     obtain⟨k1,k2,k3,k4⟩:=elem he (n:=n) (a:=a) (y:=y) (by rw[h1];exact h2)
     have hs:=k4 hpos
     obtain⟨b,o,s⟩:=a
     simp only at hs
     subst hs
     refine atom rfl ?_ hc
     have:=PRel.rp (R:=Rw w) _ 0 b o k1
     simpa using this
   |slice e=>
    simp only[Bool.and_eq_true,beq_iff_eq,decide_eq_true_eq] at hok
    obtain⟨⟨hc,hpos⟩,he⟩:=hok
    rcases DataW.trod_slice hu h with⟨rfl,rfl⟩ | ⟨a,len,cap,els,rest,n,rfl,rfl,rfl,_,hlc,_,hlen,hel,hsp,_⟩
    ·simp only[rowOf,hu]
     exact atom rfl .nils hc
    ·simp only[rowOf,hu]
     refine atom rfl ?_ hc
     obtain⟨hr1,hr2⟩:=hsp rfl
     have each:∀ (i:Nat) (y:DataW H×List MemPlace),els[i]? =some y→(w.cells? base (a.add (i * P.cellsOf e)) (P.cellsOf e)).bind (DataW.trod enc P w base (fun _=>true) held n e)=some y:=by
      intro i y hy
      rw[hel i (by have:=getElem?_lt hy;omega),hy]
     by_cases hcap:cap=0
     ·have:len=0:=by omega
      subst this
      subst hcap
      have:els=[]:=List.eq_nil_of_length_eq_zero hlen
      subst this
      exact .lit0 _ _
     ·have hs:a.spot=none:=by
       rcases Nat.eq_zero_or_pos len with h0 | h0
       ·have h1:0 < cap - len:=by omega
        have hv:rest[0]? =some (rest[0]'(by omega)):=List.getElem?_eq_getElem _
        have:=hr2 0 h1
        rw[hv] at this
        have:=(elem he this).2.2.2 hpos
        subst h0
        simpa[Addr.add] using this
       ·have hv:els[0]? =some (els[0]'(by omega)):=List.getElem?_eq_getElem _
        have:=(elem he (each 0 _ hv)).2.2.2 hpos
        simpa[Addr.add] using this
      obtain⟨b,o,s⟩:=a
      simp only at hs
      subst hs
      have hcl:∀ p∈(els.map (·.1)).map (fun d=>elPV P e (rowOf P g e d)),p.cells.length=P.cellsOf e:=by
       intro p hp
       simp only[List.map_map,List.mem_map] at hp
       obtain⟨y,hy,rfl⟩:=hp
       obtain⟨i,hi⟩:=List.mem_iff_getElem?.1 hy
       obtain⟨_,k2,k3,_⟩:=elem he (each i y hi)
       simp only[Function.comp]
       rw[k3,k2]
      have:=PRel.lit (R:=Rw w) (P.cellsOf e) ((els.map (·.1)).map (fun d=>elPV P e (rowOf P g e d))) b o cap (by simp;omega) hcl (RRel.flat hcl fun i p hp=>by
       simp only[List.map_map,List.getElem?_map,Option.map_eq_some_iff] at hp
       obtain⟨y,hy,rfl⟩:=hp
       obtain⟨k1,k2,k3,_⟩:=elem he (each i y hy)
       simp only[Function.comp]
       rw[k3]
       have hb:(Addr.add ⟨b,o,none⟩ (i * P.cellsOf e))=⟨b,o+i * P.cellsOf e,none⟩:=by rw[addr_add]
       rw[hb] at k1
       exact k1)
      simpa[hlen] using this
   |struct fs=>
    simp only[Bool.and_eq_true,beq_iff_eq] at hok
    obtain⟨hlay,hall⟩:=hok
    obtain⟨xs,n,rfl,rfl,hcs,hxs,hf⟩:=DataW.trod_struct hu h
    simp only[rowOf,hu]
    have each:∀ (i:Nat) (f:Field) (y:DataW H×List MemPlace),fs.toList[i]? =some f→xs[i]? =some y→RowOk P w f.type (rowOf P g f.type y.1) ((cs.drop f.offset).take (P.cellsOf f.type)):=by
     intro i f y hfi hy
     have:=hf i f (by simpa using hfi)
     rw[hy] at this
     exact ih _ n _ y (List.all_eq_true.1 hall f (List.mem_of_getElem? hfi)) this
    have get:∀ (i:Nat) (r:List PV),((fs.toList.zip (xs.map (·.1))).map fun p=>rowOf P g p.1.type p.2)[i]? =some r→∃ f y,fs.toList[i]? =some f∧xs[i]? =some y∧r=rowOf P g f.type y.1:=by
     intro i r hr
     simp only[List.getElem?_map,Option.map_eq_some_iff] at hr
     obtain⟨p,hp,rfl⟩:=hr
     rw[List.getElem?_zip_eq_some] at hp
     obtain⟨hp1,hp2⟩:=hp
     simp only[List.getElem?_map,Option.map_eq_some_iff] at hp2
     obtain⟨y,hy,hy2⟩:=hp2
     exact⟨p.1,y,hp1,hy,by rw[hy2]⟩
    have hrel:=laid_rows (R:=Rw w) fs.toList 0 cs ((fs.toList.zip (xs.map (·.1))).map fun p=>rowOf P g p.1.type p.2) (by rw[hcs];exact hlay) (by simp[hxs]) fun i f r hfi hri=>by
     obtain⟨f',y,h1,h2,rfl⟩:=get i r hri
     rw[hfi] at h1;injection h1 with h1;subst h1
     have:=each i f y hfi h2
     exact⟨this.rel,this.len⟩
    rw[List.drop_zero] at hrel
    refine⟨hrel,fun p hp=> ?_,by rw[← hrel.length,hcs]⟩
    rw[List.mem_flatten] at hp
    obtain⟨r,hr,hp⟩:=hp
    obtain⟨i,hi⟩:=List.mem_iff_getElem?.1 hr
    obtain⟨f,y,h1,h2,rfl⟩:=get i r hi
    exact (each i f y h1 h2).one p hp
   |array n e=>
    simp only[Bool.and_eq_true,beq_iff_eq] at hok
    obtain⟨hlay,he⟩:=hok
    obtain⟨xs,m,rfl,rfl,hcs,hxs,hf⟩:=DataW.trod_array hu h
    simp only[rowOf,hu]
    have each:∀ (i:Nat) (y:DataW H×List MemPlace),xs[i]? =some y→RowOk P w e (rowOf P g e y.1) ((cs.drop (i * P.cellsOf e)).take (P.cellsOf e)):=by
     intro i y hy
     have:=hf i (by have:=getElem?_lt hy;omega)
     rw[hy] at this
     exact ih _ m _ y he this
    have get:∀ (i:Nat) (r:List PV),((xs.map (·.1)).map (rowOf P g e))[i]? =some r→∃ y,xs[i]? =some y∧r=rowOf P g e y.1:=by
     intro i r hr
     simp only[List.map_map,List.getElem?_map,Option.map_eq_some_iff] at hr
     obtain⟨y,hy,rfl⟩:=hr
     exact⟨y,hy,rfl⟩
    have hrel:=arr_rows (R:=Rw w) n cs ((xs.map (·.1)).map (rowOf P g e)) (by rw[hcs,hlay]) (by simp[hxs]) fun i r hri=>by
     obtain⟨y,h2,rfl⟩:=get i r hri
     exact (each i y h2).rel
    refine⟨hrel,fun p hp=> ?_,by rw[← hrel.length,hcs]⟩
    rw[List.mem_flatten] at hp
    obtain⟨r,hr,hp⟩:=hp
    obtain⟨i,hi⟩:=List.mem_iff_getElem?.1 hr
    obtain⟨y,h2,rfl⟩:=get i r hi
    exact (each i y h2).one p hp
   |_=>simp at hok
def Sh (P:Program):Nat→TypeId→List PV→Prop
 |0,_,_=>False
 |g+1,t,row=>
  match P.underlying t with
  |some .bool=>∃ b,row=[.bool b]
  |some (.int k)=>∃ n,row=[.int k n]∧(Lit.int k n).wf=true
  |some .string=>∃ s:ByteArray,row=[.str s]∧s.size≤reachBytes
  |some (.pointer e)=>row=[.nilp]∨∃ r,row=[.rp r 0]∧Sh P g e r
  |some (.slice e)=>row=[.nils]∨∃ es:List (List PV),row=[.lit (P.cellsOf e) (es.map (elPV P e))]∧es.length≤maxLen∧es.length * P.bytesOf e≤reachBytes∧∀ r∈es,Sh P g e r
  |some (.struct fs)=>∃ rows:List (List PV),rows.length=fs.size∧row=rows.flatten∧∀ (i:Nat) (f:Field) (r:List PV),fs.toList[i]? =some f→rows[i]? =some r→Sh P g f.type r
  |some (.array n e)=>∃ es:List (List PV),es.length=n∧row=es.flatten∧∀ r∈es,Sh P g e r
  |_=>False
theorem weights_all {P:Program} {e:TypeId}:∀ {ds:List (DataW H)} {d:DataW H} {n:Nat},d∈ds→n∈d.weights P e→n∈DataW.weightsAll P e ds
 |c::ds,d,n,hd,hn=>by
  simp only[DataW.weightsAll,List.mem_append]
  rcases List.mem_cons.1 hd with rfl | hd
  ·exact .inl hn
  ·exact .inr (weights_all hd hn)
theorem row_sh:∀ (g:Nat) (t:TypeId) (fuel:Nat) (cs:List Value) (x:DataW H×List MemPlace),okT P g t=true→DataW.trod enc P w base sp held fuel t cs=some x→(∀ n∈x.1.weights P t,n≤reachBytes)→Sh P g t (rowOf P g t x.1):=by
 intro g
 induction g with
 |zero=>intro t fuel cs x h;simp[okT] at h
 |succ g ih=>
  intro t fuel cs x hok h hwt
  simp only[okT] at hok
  cases hu:P.underlying t with
  |none=>simp[hu] at hok
  |some td=>
   simp only[hu] at hok
   cases td with
   |bool=>obtain⟨b,rfl,rfl⟩:=DataW.trod_bool hu h;simp only[Sh,rowOf,hu];exact⟨_,rfl⟩
   |int k=>obtain⟨n,rfl,rfl,hw⟩:=DataW.trod_int hu h;simp only[Sh,rowOf,hu];exact⟨_,rfl,hw⟩
   |string=>
    obtain⟨s,rfl,rfl,hs⟩:=DataW.trod_string hu h
    simp only[Sh,rowOf,hu]
    obtain⟨⟨l⟩⟩:=s
    refine⟨_,rfl,?_⟩
    have:=hwt l.length (by simp[DataW.weights])
    simpa[ByteArray.size] using this
   |pointer e=>
    simp only[Bool.and_eq_true,beq_iff_eq,decide_eq_true_eq] at hok
    rcases DataW.trod_pointer hu h with⟨rfl,rfl⟩ | ⟨a,ecs,y,n,rfl,rfl,rfl,h1,h2⟩
    ·simp only[Sh,rowOf,hu];exact .inl trivial
    ·simp only[Sh,rowOf,hu];exact .inr ⟨_,rfl,ih e n _ y hok.2 h2 (fun n hn=>hwt n (by simpa[DataW.weights,hu] using hn))⟩
   |slice e=>
    simp only[Bool.and_eq_true,beq_iff_eq,decide_eq_true_eq] at hok
    rcases DataW.trod_slice hu h with⟨rfl,rfl⟩ | ⟨a,len,cap,els,rest,n,rfl,rfl,rfl,_,hlc,hmax,hlen,hel,_,_⟩
    ·simp only[Sh,rowOf,hu];exact .inl trivial
    ·have hsz:=hwt _ (show _ by simp only[DataW.weights,hu];exact List.mem_cons_self ..)
     have hsz':els.length * P.bytesOf e≤reachBytes:=by
      refine Nat.le_trans (Nat.mul_le_mul_right _ ?_) hsz
      simp
     simp only[Sh,rowOf,hu]
     refine .inr ⟨els.map fun y=>rowOf P g e y.1,by simp[List.map_map,Function.comp_def],by simp;omega,by simpa using hsz',fun r hr=> ?_⟩
     obtain⟨y,hy,rfl⟩:=List.mem_map.1 hr
     obtain⟨i,hi⟩:=List.mem_iff_getElem?.1 hy
     have h1:=hel i (by have:=getElem?_lt hi;omega)
     rw[hi] at h1
     simp only[Option.bind_eq_some_iff] at h1
     obtain⟨ecs,_,h2⟩:=h1
     refine ih e n ecs y hok.2 h2 (fun k hk=>hwt k ?_)
     simp only[DataW.weights,hu,List.mem_cons,List.mem_append]
     exact .inr (.inl (weights_all (List.mem_map.2 ⟨y,hy,rfl⟩) hk))
   |struct fs=>
    simp only[Bool.and_eq_true,beq_iff_eq] at hok
    obtain⟨xs,n,rfl,rfl,hcs,hxs,hf⟩:=DataW.trod_struct hu h
    simp only[Sh,rowOf,hu]
    refine⟨_,?_,rfl,fun i f r hfi hr=> ?_⟩
    ·simp[hxs]
    ·simp only[List.getElem?_map,Option.map_eq_some_iff] at hr
     obtain⟨p,hp,rfl⟩:=hr
     rw[List.getElem?_zip_eq_some] at hp
     obtain⟨hp1,hp2⟩:=hp
     have hp2':=hp2
     simp only[List.getElem?_map,Option.map_eq_some_iff] at hp2
     obtain⟨y,hy,hy2⟩:=hp2
     rw[hfi] at hp1;injection hp1 with hp1
     have:=hf i f (by simpa using hfi)
     rw[hy] at this
     rw[← hp1,←hy2]
     refine ih _ n _ y (List.all_eq_true.1 hok.2 f (List.mem_of_getElem? hfi)) this (fun k hk=>hwt k ?_)
     simp only[DataW.weights,hu]
     exact DataW.weights_mem_each (j:=i) (t:=f.type) (d:=y.1) (by simp[hfi]) (by rw[hy2];exact hp2') k hk
   |array n e=>
    simp only[Bool.and_eq_true,beq_iff_eq] at hok
    obtain⟨xs,m,rfl,rfl,hcs,hxs,hf⟩:=DataW.trod_array hu h
    simp only[Sh,rowOf,hu]
    refine⟨_,?_,rfl,fun r hr=> ?_⟩
    ·simp[hxs]
    ·simp only[List.map_map,List.mem_map] at hr
     obtain⟨y,hy,rfl⟩:=hr
     obtain⟨i,hi⟩:=List.mem_iff_getElem?.1 hy
     have:=hf i (by have:=getElem?_lt hi;omega)
     rw[hi] at this
     refine ih _ m _ y hok.2 this (fun k hk=>hwt k ?_)
     simp only[DataW.weights,hu]
     exact weights_all (List.mem_map.2 ⟨y,hy,rfl⟩) hk
   |_=>simp at hok
theorem arg_rel {r:Reach} {b0:Nat} {g:Nat} {t:TypeId} {v:Value} {d:DataW H} {ps:List MemPlace} (hok:okT P g t=true) (hval:Value.okWide P w r b0 t v) (hd:DataW.Trod enc P w base (fun _=>true) held t v d ps):
 PRel (Rw w) (elPV P t (rowOf P g t d)) v:=by
 obtain⟨fuel,hf⟩:=hd
 have hr:=row_rel g t fuel _ _ hok hf
 have h1:=okT_one hok
 unfold elPV
 cases ha:isAggT P t with
 |true=>
  simp only[if_true]
  have:∃ cs,v= .agg cs:=by
   unfold isAggT at ha
   unfold Value.okWide at hval
   cases hu:P.underlying t with
   |none=>simp[hu] at ha
   |some td=>cases td <;> simp[hu] at ha hval <;> exact⟨_,hval.choose_spec.1⟩
  obtain⟨⟨cs⟩,rfl⟩:=this
  exact .agg _ _ (by simpa[Value.cells] using hr.rel)
 |false=>
  simp only[Bool.false_eq_true,if_false]
  have hc:=h1.resolve_left (by simp[ha])
  have hlen:=hr.len
  rw[hc] at hlen
  generalize rowOf P g t d=row at hr hlen ⊢
  have hrel:=hr.rel
  match row,hlen with
  | [p],_=>
    have:∃ u,v.cells.toList=[u]∧PRel (Rw w) p u:=by
     generalize v.cells.toList=l at hrel
     cases hrel with
     |cons _ _ u us h2 h3=>cases h3;exact⟨u,rfl,h2⟩
    obtain⟨u,hu,hp⟩:=this
    have:v=u:=by
     cases v <;> simp[Value.cells] at hu <;> first | exact hu | skip
     rename_i cs
     unfold Value.okWide at hval
     unfold isAggT at ha
     cases hut:P.underlying t with
     |none=>simp[hut,Cell.okWide,Cell.ok] at hval
     |some td=>cases td <;> simp[hut] at ha <;> simp[hut,Cell.okWide,Cell.ok] at hval
    rw[this]
    exact hp
end
end Go.AM
namespace Go.AM
def AObj.plain:AObj→Bool
 | .box cells=>cells.all AV.free'
 | .tok _ _ _=>true
 | .dead=>true
 |_=>false
where AV.free':AV→Bool
 | .pv _=>true
 |_=>false
theorem cut_pv {n d:Nat} {p:PV}:AV.cut n d (.pv p)=some (.pv p):=by cases d <;> rfl
theorem cutObj_plain {n:Nat} {o:AObj} (h:o.plain=true):cutObj n o=some o:=by
 cases o with
 |box cells=>
  simp only[AObj.plain] at h
  have:mapO (AV.cut n deep) cells=some cells:=by
   induction cells with
   |nil=>rfl
   |cons c cs ih=>
    simp only[List.all_cons,Bool.and_eq_true] at h
    cases c with
    |pv p=>simp[mapO,cut_pv,ih h.2]
    |_=>simp[AObj.plain.AV.free'] at h
  simp[cutObj,this]
 |tok=>rfl
 |dead=>rfl
 |seq=>simp[AObj.plain] at h
 |map=>simp[AObj.plain] at h
theorem cut_plain {n:Nat} {T:List AObj} (h:T.all AObj.plain=true):mapO (cutObj n) T=some T:=by
 induction T with
 |nil=>rfl
 |cons o T ih=>
  simp only[List.all_cons,Bool.and_eq_true] at h
  simp[mapO,cutObj_plain h.1,ih h.2]
end Go.AM
namespace Go.AM
def Ex.stop:Ex→Bool
 | .norm=>false
 |_=>true
def roundL (call:CallF) (live:List Nat) (b:ACode) (n:Nat) (s:St):Option (Ex×St):=roundA (evalC call b) (clean n live) s
theorem loopA_go {g:St→Option (Ex×St)} (I:Nat→St→Prop) (Q:Ex→St→Prop):∀ (k N i:Nat) (s:St),N < i+k→i≤N→I i s→
 (∀ i,i < N→∀ s,I i s→(∃ s',g s=some (.norm,s')∧I (i+1) s')∨(∃ ex s',g s=some (ex,s')∧ex.stop=true∧Q ex s'))→
 (∀ s,I N s→∃ ex s',g s=some (ex,s')∧ex.stop=true∧Q ex s')→
 ∃ ex s',loopA g k s=some (ex,s')∧ex.stop=true∧Q ex s':=by
 intro k
 induction k with
 |zero=>intro N i s h1 h2;omega
 |succ k ih=>
  intro N i s h1 h2 hI hs he
  have out:(∃ ex s',g s=some (ex,s')∧ex.stop=true∧Q ex s')→∃ ex s',loopA g (k+1) s=some (ex,s')∧ex.stop=true∧Q ex s':=by
   rintro⟨ex,s',h,hx,hq⟩
   refine⟨ex,s',?_,hx,hq⟩
   show seqA (loopA g k) (g s)=_
   rw[h]
   cases ex with
   |norm=>cases hx
   |exit=>rfl
   |ret=>rfl
  by_cases hi:i < N
  ·rcases hs i hi s hI with⟨s',h,hI'⟩ | h
   ·obtain⟨ex,s'',h2,hx,hq⟩:=ih N (i+1) s' (by omega) (by omega) hI' hs he
    refine⟨ex,s'',?_,hx,hq⟩
    show seqA (loopA g k) (g s)=_
    rw[h]
    exact h2
   ·exact out h
  ·have:i=N:=by omega
   subst this
   exact out (he s hI)
theorem loop_go {call:CallF} {live:List Nat} {b:ACode} {s s0:St} (I:Nat→St→Prop) (Q:Ex→St→Prop) (N:Nat) (hN:N < rounds)
 (h0:clean s.H.length live s=some s0) (hI:I 0 s0)
 (hs:∀ i,i < N→∀ t,I i t→(∃ t',roundL call live b s.H.length t=some (.norm,t')∧I (i+1) t')∨(∃ ex t',roundL call live b s.H.length t=some (ex,t')∧ex.stop=true∧Q ex t'))
 (he:∀ t,I N t→∃ ex t',roundL call live b s.H.length t=some (ex,t')∧ex.stop=true∧Q ex t'):
 ∃ ex t,evalC call (.loop live b) s=some (ex,t)∧ex.stop=true∧Q ex t:=by
 rw[C_loop,h0]
 exact loopA_go I Q rounds N 0 s0 (by omega) (by omega) hI hs he
theorem seqA_of {f:St→Option (Ex×St)} {ex:Ex} {s:St} (h:ex.stop=true):seqA f (some (ex,s))=some (ex,s):=by
 cases ex with
 |norm=>cases h
 |exit=>rfl
 |ret=>rfl
theorem wrap_int {n:Int} (h: -9223372036854775808≤n∧n≤9223372036854775807):IntKind.i64.wrap n=n:=by
 rw[IntKind.wrap_i64]
 omega
theorem wrap_u8 {n:Int} (h:0≤n∧n≤255):IntKind.u8.wrap n=n:=by
 have e:IntKind.u8.wrap n=n % 256:=by
  simp[IntKind.signed,IntKind.wrap,IntKind.bits]
 rw[e]
 omega
end Go.AM
namespace Go.AM
open Go.ChangeShapes Go.WideShapes Go.ChangeAt Go.RowKit
def pvs (P:Program) {H:Type} (g:Nat):List TypeId→List (DataW H)→List PV
 |t::ts,d::ds=>elPV P t (rowOf P g t d)::pvs P g ts ds
 |_,_=>[]
def Shs (P:Program) {H:Type} (g:Nat):List TypeId→List (DataW H)→Prop
 |t::ts,d::ds=>Sh P g t (rowOf P g t d)∧Shs P g ts ds
 | [],[]=>True
 |_,_=>False
def okTs (P:Program) (g:Nat) (ts:List TypeId):Bool:=ts.all fun t=>okT P g t&&P.readableRec t&&decide (t < P.types.size)
section
variable {H:Type} {enc:TypeId×Value→H} {P:Program} {w:World} {base:Nat} {held:Bool}
theorem trodAll_len:∀ {ts:List TypeId} {vs:List Value} {ds:List (DataW H)} {ps:List MemPlace} {sp:Nat→Bool},DataW.TrodAll enc P w base sp held ts vs ds ps→vs.length=ts.length∧ds.length=ts.length
 | [],[],[],_,_,_=>⟨rfl,rfl⟩
 |t::ts,v::vs,d::ds,_,_,⟨p,q,_,h,_⟩=>by have:=trodAll_len h;simp[this.1,this.2]
 | [],_::_,_,_,_,h=>h.elim
 | [],[],_::_,_,_,h=>h.elim
 |_::_,[],_,_,_,h=>h.elim
 |_::_,_::_,[],_,_,h=>h.elim
theorem trodAll_rel {r:Reach} {b0 g:Nat}:∀ {ts:List TypeId} {vs:List Value} {ds:List (DataW H)} {ps:List MemPlace},okTs P g ts=true→
 (∀ (j:Nat) t v,ts[j]? =some t→vs[j]? =some v→Value.okWide P w r b0 t v)→
 DataW.TrodAll enc P w base (fun _=>true) held ts vs ds ps→LRel (Rw w) (pvs P g ts ds) vs
 | [],[],[],_,_,_,_=> .nil
 |t::ts,v::vs,d::ds,_,hok,hval,⟨p,q,hd,h,_⟩=>by
  simp only[okTs,List.all_cons,Bool.and_eq_true] at hok
  exact .cons _ _ _ _ (arg_rel hok.1.1.1 (hval 0 t v rfl rfl) hd) (trodAll_rel (by simp only[okTs];exact hok.2) (fun j t v ht hv=>hval (j+1) t v ht hv) h)
 | [],_::_,_,_,_,_,h=>h.elim
 | [],[],_::_,_,_,_,h=>h.elim
 |_::_,[],_,_,_,_,h=>h.elim
 |_::_,_::_,[],_,_,_,h=>h.elim
theorem trodAll_sh {g:Nat}:∀ {ts:List TypeId} {vs:List Value} {ds:List (DataW H)} {ps:List MemPlace},okTs P g ts=true→
 (∀ n∈DataW.weightsEach P ts ds,n≤reachBytes)→
 DataW.TrodAll enc P w base (fun _=>true) held ts vs ds ps→Shs P g ts ds
 | [],[],[],_,_,_,_=>trivial
 |t::ts,v::vs,d::ds,_,hok,hw,⟨p,q,⟨fuel,hd⟩,h,_⟩=>by
  simp only[okTs,List.all_cons,Bool.and_eq_true] at hok
  simp only[DataW.weightsEach,List.mem_append] at hw
  exact⟨row_sh g t fuel _ (d,p) hok.1.1.1 hd (fun n hn=>hw n (.inl hn)),trodAll_sh (by simp only[okTs];exact hok.2) (fun n hn=>hw n (.inr hn)) h⟩
 | [],_::_,_,_,_,_,h=>h.elim
 | [],[],_::_,_,_,_,h=>h.elim
 |_::_,[],_,_,_,_,h=>h.elim
 |_::_,_::_,[],_,_,_,h=>h.elim
theorem trodAll_stays {g:Nat} (hl:laidOutB P=true) {w':World} (hb:Below w.heap.size w w'):∀ {ts:List TypeId} {vs:List Value} {ds:List (DataW H)} {ps:List MemPlace},okTs P g ts=true→
 (∀ x∈ps,x.block < w.heap.size)→
 DataW.TrodAll enc P w 0 (fun _=>true) true ts vs ds ps→DataW.TrodAll enc P w' 0 (fun b=>decide (b < w.heap.size)) true ts vs ds ps
 | [],[],[],_,_,_,h=>h
 |t::ts,v::vs,d::ds,_,hok,hlt,⟨p,q,hd,h,e⟩=>by
  subst e
  simp only[okTs,List.all_cons,Bool.and_eq_true] at hok
  exact⟨p,q,Below.trod hl hok.1.1.2 (of_decide_eq_true hok.1.2) hd hb (fun x hx=>hlt x (List.mem_append.2 (.inl hx))),
   trodAll_stays hl hb (by simp only[okTs];exact hok.2) (fun x hx=>hlt x (List.mem_append.2 (.inr hx))) h,rfl⟩
 | [],_::_,_,_,_,_,h=>h.elim
 | [],[],_::_,_,_,_,h=>h.elim
 |_::_,[],_,_,_,_,h=>h.elim
 |_::_,_::_,[],_,_,_,h=>h.elim
end
theorem law_lifted {H:Type} {enc:TypeId×Value→H} {C:Checked} {os:Os} {f:FuncId} {fn:Func} {F:List PV→Option PV} {s:ChangeSpec} {bt:TypeId} {ts:List TypeId} (g:Nat)
 (own:ownKnob C.prog.godebug=none) (laid:laidOutB C.prog=true) (started:os.Started) (noInit:C.prog.inits.idxOf? f=none) (hfn:C.prog.funcs[f]? =some fn)
 (witness:∃ (w:World) (tape:Tape) (i:Input),w.os=os∧(w.forCall tape i).Shaped C.prog∧i.vars=[]∧Input.okWide C.prog (w.forCall tape i) .any w.heap.size f i∧
  s.pre6 enc C.prog fn [] false (w.forCall tape i).memory i.args∧({}:Assume).holds C.prog (lone (Frame.enter C.prog f i.args .normal) [] (w.forCall tape i)))
 (hvars:s.vars=[]) (hplain:s.plain.varTypes C.prog=[]) (hts:fn.params=ts.toArray) (hres:fn.resultTypes= #[bt]) (hbt:C.prog.underlying bt=some .bool)
 (hok:okTs C.prog g ts=true) (hpure:PureFn C.prog f F)
 (hspec:∀ ds:List (DataW H),ds.length=ts.length→s.fn H (ds++[])={results:=[.lit (.bool true)],args:=ds})
 (run:∀ ds:List (DataW H),Shs C.prog g ts ds→F (pvs C.prog g ts ds)=some (.bool true)):
 ReturnsInHanded {} C os f .any (s.pre6 enc C.prog fn [] false) (s.post enc C.prog fn false true false false):=by
 refine returnsInHanded_of_change_sized own started noInit hfn witness ?_
 intro W base args ds gs before hval0 hW _ hwt _
 have hval:∀ (j:Nat) t v,ts[j]? =some t→args.toList[j]? =some v→Value.okWide C.prog W .any base t v:=by
  intro j t v ht hv
  exact hval0 j t v (by rw[hts];simpa using ht) (by simpa using hv)
 have hW':=hW
 obtain⟨p,q,hA0,hV,rfl,_,_⟩:=hW
 rw[hvars] at hV
 obtain⟨rfl,rfl⟩:=trodVars_none hV
 have hA:DataW.TrodAll enc C.prog W 0 (fun _=>true) true ts args.toList ds p:=by rw[hts] at hA0;simpa using hA0
 have hlt:∀ x∈p,x.block < W.heap.size:=fun x hx=>by simpa using hW'.lt x (by simpa using hx)
 have hw':∀ n∈DataW.weightsEach C.prog ts ds,n≤reachBytes:=by
  intro n hn
  rw[hts,hplain] at hwt
  simp only[List.append_nil] at hwt
  have:=List.all_eq_true.1 hwt n (by simpa using hn)
  simpa using this
 have hrel:=trodAll_rel hok hval hA
 have hr:=run ds (trodAll_sh hok hw' hA)
 refine (law_calls hpure hrel hr).mono fun e W' ⟨he,hb⟩=> ?_
 subst he
 have hs:=hspec ds (trodAll_len hA).2
 refine⟨_,rfl,ds,[],p++[],[],p,[],hW',?_,?_,?_,hb.frame _,fun h=>by cases h⟩
 ·rw[hs,hres]
  exact trodAll_mk1 (shut_bool hbt _)
 ·rw[hs,hts]
  exact trodAll_stays laid hb hok hlt hA
 ·rw[hs,hvars]
  exact rfl
theorem shs_cons {P:Program} {H:Type} {g:Nat} {t:TypeId} {ts:List TypeId} {ds:List (DataW H)} (h:Shs P g (t::ts) ds):∃ d r,ds=d::r∧Sh P g t (rowOf P g t d)∧Shs P g ts r:=by
 cases ds with
 |nil=>exact h.elim
 |cons d r=>exact⟨d,r,rfl,h.1,h.2⟩
theorem shs_nil {P:Program} {H:Type} {g:Nat} {ds:List (DataW H)} (h:Shs P g [] ds):ds=[]:=by
 cases ds with
 |nil=>rfl
 |cons d r=>exact h.elim
theorem shs_one {P:Program} {H:Type} {g:Nat} {t:TypeId} {ds:List (DataW H)} (h:Shs P g [t] ds):∃ row,pvs P g [t] ds=[elPV P t row]∧Sh P g t row:=by
 obtain⟨d,r,rfl,h1,h2⟩:=shs_cons h
 obtain rfl:=shs_nil h2
 exact⟨_,rfl,h1⟩
theorem shs_two {P:Program} {H:Type} {g:Nat} {t u:TypeId} {ds:List (DataW H)} (h:Shs P g [t,u] ds):∃ row row',pvs P g [t,u] ds=[elPV P t row,elPV P u row']∧Sh P g t row∧Sh P g u row':=by
 obtain⟨d,r,rfl,h1,h2⟩:=shs_cons h
 obtain⟨row,e,h3⟩:=shs_one h2
 exact⟨_,row,by rw[pvs,e],h1,h3⟩
theorem shs_three {P:Program} {H:Type} {g:Nat} {t u v:TypeId} {ds:List (DataW H)} (h:Shs P g [t,u,v] ds):∃ row row' row'',pvs P g [t,u,v] ds=[elPV P t row,elPV P u row',elPV P v row'']∧Sh P g t row∧Sh P g u row'∧Sh P g v row'':=by
 obtain⟨d,r,rfl,h1,h2⟩:=shs_cons h
 obtain⟨row,row',e,h3,h4⟩:=shs_two h2
 exact⟨_,row,row',by rw[pvs,e],h1,h3,h4⟩
section
variable {P:Program} {g:Nat} {t e:TypeId} {row:List PV}
theorem sh_int {k:IntKind} (hu:P.underlying t=some (.int k)) (h:Sh P (g+1) t row):∃ n,row=[.int k n]∧(Lit.int k n).wf=true:=by
 simpa only[Sh,hu] using h
theorem sh_string (hu:P.underlying t=some .string) (h:Sh P (g+1) t row):∃ s:ByteArray,row=[.str s]∧s.size≤reachBytes:=by
 simpa only[Sh,hu] using h
theorem sh_bool (hu:P.underlying t=some .bool) (h:Sh P (g+1) t row):∃ b,row=[.bool b]:=by
 simpa only[Sh,hu] using h
theorem sh_slice (hu:P.underlying t=some (.slice e)) (h:Sh P (g+1) t row):
 row=[.nils]∨∃ es:List (List PV),row=[.lit (P.cellsOf e) (es.map (elPV P e))]∧es.length≤maxLen∧es.length * P.bytesOf e≤reachBytes∧∀ r∈es,Sh P g e r:=by
 simpa only[Sh,hu] using h
theorem sh_ptr (hu:P.underlying t=some (.pointer e)) (h:Sh P (g+1) t row):row=[.nilp]∨∃ r,row=[.rp r 0]∧Sh P g e r:=by
 simpa only[Sh,hu] using h
theorem sh_struct {fs:Array Field} (hu:P.underlying t=some (.struct fs)) (h:Sh P (g+1) t row):
 ∃ rows:List (List PV),rows.length=fs.size∧row=rows.flatten∧∀ (i:Nat) (f:Field) (r:List PV),fs.toList[i]? =some f→rows[i]? =some r→Sh P g f.type r:=by
 simpa only[Sh,hu] using h
theorem sh_array {n:Nat} (hu:P.underlying t=some (.array n e)) (h:Sh P (g+1) t row):∃ es:List (List PV),es.length=n∧row=es.flatten∧∀ r∈es,Sh P g e r:=by
 simpa only[Sh,hu] using h
theorem el_int {k:IntKind} (hu:P.underlying t=some (.int k)) {n:Int}:elPV P t [.int k n]= .int k n:=by
 simp[elPV,isAggT,hu]
theorem el_slice (hu:P.underlying t=some (.slice e)) {v:PV}:elPV P t [v]=v:=by
 simp[elPV,isAggT,hu]
theorem el_ptr (hu:P.underlying t=some (.pointer e)) {v:PV}:elPV P t [v]=v:=by
 simp[elPV,isAggT,hu]
theorem el_string (hu:P.underlying t=some .string) {v:PV}:elPV P t [v]=v:=by
 simp[elPV,isAggT,hu]
theorem el_bool (hu:P.underlying t=some .bool) {v:PV}:elPV P t [v]=v:=by
 simp[elPV,isAggT,hu]
theorem el_struct {fs:Array Field} (hu:P.underlying t=some (.struct fs)):elPV P t row= .agg row:=by
 simp[elPV,isAggT,hu]
theorem el_array {n:Nat} (hu:P.underlying t=some (.array n e)):elPV P t row= .agg row:=by
 simp[elPV,isAggT,hu]
theorem sh_ints {k:IntKind} (hu:P.underlying t=some (.slice e)) (hk:P.underlying e=some (.int k)) (h:Sh P (g+2) t row):
 row=[.nils]∨∃ l:List Int,row=[.lit (P.cellsOf e) (l.map (.int k))]∧l.length≤maxLen∧l.length * P.bytesOf e≤reachBytes∧∀ n∈l,(Lit.int k n).wf=true:=by
 rcases sh_slice hu h with h | ⟨es,rfl,h1,h2,h3⟩
 ·exact .inl h
 ·refine .inr ⟨es.map fun r=>match r with | [.int _ n]=>n | _=>0,?_,by simpa using h1,by simpa using h2,?_⟩
  ·congr 2
   rw[List.map_map]
   apply List.map_congr_left
   intro r hr
   obtain⟨n,rfl,_⟩:=sh_int hk (h3 r hr)
   simp[el_int hk]
  ·intro n hn
   obtain⟨r,hr,rfl⟩:=List.mem_map.1 hn
   obtain⟨n,rfl,hw⟩:=sh_int hk (h3 r hr)
   exact hw
end
end Go.AM
namespace Go.AM
def wpO {α:Type} (Q:α→Prop):Option α→Prop
 |some a=>Q a
 |none=>False
theorem wpO_spec {α:Type} {Q:α→Prop} {o:Option α} (h:wpO Q o):∃ a,o=some a∧Q a:=by
 cases o with
 |none=>exact h.elim
 |some a=>exact⟨a,rfl,h⟩
theorem wpO_of {α:Type} {Q:α→Prop} {o:Option α} {a:α} (h:o=some a) (hq:Q a):wpO Q o:=by subst h;exact hq
theorem wpO_mono {α:Type} {Q R:α→Prop} {o:Option α} (h:wpO Q o) (hq:∀ a,Q a→R a):wpO R o:=by
 cases o with
 |none=>exact h.elim
 |some a=>exact hq a h
theorem wpO_eq {α:Type} {o:Option α} {a:α} (h:wpO (fun x=>x=a) o):o=some a:=by
 cases o with
 |none=>exact h.elim
 |some b=>cases (show b=a from h);rfl
theorem wp_some {α:Type} {Q:α→Prop} {a:α}:wpO Q (some a)=Q a:=rfl
theorem wp_none {α:Type} {Q:α→Prop}:wpO Q none=False:=rfl
theorem wp_guard {α:Type} {Q:α→Prop} {c:Prop} [Decidable c] {a:Option α}:wpO Q (if c then a else none)=(c∧wpO Q a):=by
 by_cases h:c
 ·simp[h]
 ·simp[h,wp_none]
theorem wp_map {α β:Type} {Q:β→Prop} {f:α→β} {o:Option α}:wpO Q (o.map f)=wpO (fun a=>Q (f a)) o:=by cases o <;> rfl
theorem wp_bind {α β:Type} {Q:β→Prop} {f:α→Option β} {o:Option α}:wpO Q (o.bind f)=wpO (fun a=>wpO Q (f a)) o:=by cases o <;> rfl
theorem wp_ite {α:Type} {Q:α→Prop} {c:Prop} [Decidable c] {a b:Option α}:wpO Q (if c then a else b)=((c→wpO Q a)∧(¬ c→wpO Q b)):=by
 by_cases h:c <;> simp[h]
def seqQ (f:St→Option (Ex×St)) (Q:Ex×St→Prop):Ex×St→Prop
 | (.norm,s)=>wpO Q (f s)
 |r=>Q r
def blockQ (id:Nat) (Q:Ex×St→Prop):Ex×St→Prop
 | (.exit id',s)=>if id'=id then Q (.norm,s) else Q (.exit id',s)
 |r=>Q r
theorem seqQ_norm {f:St→Option (Ex×St)} {Q:Ex×St→Prop} {s:St}:seqQ f Q (.norm,s)=wpO Q (f s):=rfl
theorem seqQ_ret {f:St→Option (Ex×St)} {Q:Ex×St→Prop} {s:St}:seqQ f Q (.ret,s)=Q (.ret,s):=rfl
theorem seqQ_exit {f:St→Option (Ex×St)} {Q:Ex×St→Prop} {s:St} {k:Nat}:seqQ f Q (.exit k,s)=Q (.exit k,s):=rfl
theorem blockQ_norm {k:Nat} {Q:Ex×St→Prop} {s:St}:blockQ k Q (.norm,s)=Q (.norm,s):=rfl
theorem blockQ_ret {k:Nat} {Q:Ex×St→Prop} {s:St}:blockQ k Q (.ret,s)=Q (.ret,s):=rfl
theorem blockQ_exit {k j:Nat} {Q:Ex×St→Prop} {s:St}:blockQ k Q (.exit j,s)=if j=k then Q (.norm,s) else Q (.exit j,s):=rfl
theorem wp_seqA {Q:Ex×St→Prop} {f:St→Option (Ex×St)} {r:Option (Ex×St)}:wpO Q (seqA f r)=wpO (seqQ f Q) r:=by
 rcases r with _ | ⟨ex,s⟩
 ·rfl
 ·cases ex <;> rfl
theorem wp_blockA {Q:Ex×St→Prop} {k:Nat} {r:Option (Ex×St)}:wpO Q (blockA k r)=wpO (blockQ k Q) r:=by
 rcases r with _ | ⟨ex,s⟩
 ·rfl
 ·cases ex with
  |exit j=>show wpO Q (if j=k then _ else _)=_;by_cases h:j=k <;> simp[h,wpO,blockQ]
  |_=>rfl
theorem wp_normA {Q:Ex×St→Prop} {r:Option St}:wpO Q (normA r)=wpO (fun s=>Q (.norm,s)) r:=by cases r <;> rfl
theorem wp_startA {Q:Ex×St→Prop} {f:St→Option (Ex×St)} {r:Option St}:wpO Q (startA f r)=wpO (fun s=>wpO Q (f s)) r:=by cases r <;> rfl
theorem wp_condA {Q:Ex×St→Prop} {f g:St→Option (Ex×St)} {s:St} {b:Bool}:wpO Q (condA f g s (some b))=((b=true→wpO Q (f s))∧(b=false→wpO Q (g s))):=by
 cases b <;> simp[condA]
theorem wp_nextA {Q:St→Prop} {f:St→Option St} {r:Option St}:wpO Q (nextA f r)=wpO (fun s=>wpO Q (f s)) r:=by cases r <;> rfl
theorem wp_putR {Q:St→Prop} {d:Option Nat} {e:Tr} {r:Option (AV×List AObj)}:wpO Q (putR d e r)=wpO (fun p=>Q ⟨putA e d p.1,p.2⟩) r:=by
 rcases r with _ | ⟨v,H⟩ <;> rfl
theorem wp_onH {Q:AV×List AObj→Prop} {H:List AObj} {r:Option (AV×List AObj)}:wpO Q (onH H r)=wpO (fun p=>p.2=[]∧Q (p.1,H)) r:=by
 rcases r with _ | ⟨v,_ | ⟨o,H'⟩⟩ <;> simp[onH,wpO]
def outQ (rs:List ARes) (Q:AV×List AObj→Prop):Ex×St→Prop
 | (.exit _,_)=>False
 | (_,s)=>wpO (fun vs=>Q (one1 vs,s.H)) (mapO (resA s) rs)
theorem outQ_norm {rs:List ARes} {Q:AV×List AObj→Prop} {s:St}:outQ rs Q (.norm,s)=wpO (fun vs=>Q (one1 vs,s.H)) (mapO (resA s) rs):=rfl
theorem outQ_ret {rs:List ARes} {Q:AV×List AObj→Prop} {s:St}:outQ rs Q (.ret,s)=wpO (fun vs=>Q (one1 vs,s.H)) (mapO (resA s) rs):=rfl
theorem wp_outR {Q:AV×List AObj→Prop} {rs:List ARes} {r:Option (Ex×St)}:wpO Q (outR rs r)=wpO (outQ rs Q) r:=by
 rcases r with _ | ⟨ex,s⟩
 ·rfl
 ·cases ex with
  |exit=>rfl
  |norm=>rw[outR_norm,wp_bind];rfl
  |ret=>rw[outR_ret,wp_bind];rfl
theorem wp_guardA {Q:St→Prop} {f g:St→Option St} {s:St} {b:Bool}:wpO Q (guardA f g s (some b))=((b=true→wpO Q (f s))∧(b=false→wpO Q (g s))):=by
 cases b <;> simp[guardA]
theorem putA_some (e:Tr) (d:Nat) (v:AV):putA e (some d) v=e.set d v:=rfl
theorem putA_none (e:Tr) (v:AV):putA e none v=e:=rfl
def LQ (I:Nat→St→Prop) (Q:Ex×St→Prop) (k:Nat):Ex×St→Prop
 | (.norm,s)=>∃ j,j < k∧I j s
 |r=>Q r
theorem loopA_wp {g:St→Option (Ex×St)} (I:Nat→St→Prop) {Q:Ex×St→Prop}:∀ (n k:Nat) (s:St),k < n→I k s→
 (∀ k t,I k t→wpO (LQ I Q k) (g t))→wpO (fun r=>r.1.stop=true∧Q r) (loopA g n s):=by
 intro n
 induction n with
 |zero=>intro k s h;omega
 |succ n ih=>
  intro k s h hI hs
  show wpO _ (seqA (loopA g n) (g s))
  obtain⟨⟨ex,t⟩,h1,h2⟩:=wpO_spec (hs k s hI)
  rw[h1]
  cases ex with
  |norm=>
   obtain⟨j,hj,hJ⟩:=h2
   exact ih j t (by omega) hJ hs
  |exit=>exact⟨rfl,h2⟩
  |ret=>exact⟨rfl,h2⟩
def LN (I:Nat→St→Prop) (Q:Ex×St→Prop) (i:Nat):Ex×St→Prop
 | (.norm,s)=>I (i+1) s
 |r=>Q r
theorem loopN_wp {g:St→Option (Ex×St)} (I:Nat→St→Prop) {Q:Ex×St→Prop} (N:Nat) (hN:N < rounds) (s:St) (h0:I 0 s)
 (hs:∀ i t,i < N→I i t→wpO (LN I Q i) (g t)) (he:∀ t,I N t→wpO (fun r=>r.1.stop=true∧Q r) (g t)):
 wpO (fun r=>r.1.stop=true∧Q r) (loopA g rounds s):=by
 refine loopA_wp (fun k t=>∃ i,i+k=N∧I i t) rounds N s hN ⟨0,by omega,h0⟩ ?_
 rintro k t ⟨i,hi,hI⟩
 rcases Nat.eq_zero_or_pos k with h | h
 ·obtain⟨⟨ex,u⟩,h1,h2,h3⟩:=wpO_spec (he t (by rw[show N=i by omega];exact hI))
  rw[h1]
  cases ex with
  |norm=>cases h2
  |exit=>exact h3
  |ret=>exact h3
 ·obtain⟨⟨ex,u⟩,h1,h2⟩:=wpO_spec (hs i t (by omega) hI)
  rw[h1]
  cases ex with
  |norm=>exact⟨k - 1,by omega,i+1,by omega,h2⟩
  |exit=>exact h2
  |ret=>exact h2
theorem stop_cases {ex:Ex} {s:St} (h:ex.stop=true):(∃ k,ex= .exit k)∨ex= .ret:=by
 cases ex with
 |norm=>cases h
 |exit k=>exact .inl ⟨k,rfl⟩
 |ret=>exact .inr rfl
theorem idx_nat {i n:Nat}:idxOk (i:Int) n=(i < n):=by unfold idxOk;simp
theorem dec_nat_lt {i n:Nat}:decide ((i:Int) < (n:Int))=decide (i < n):=by simp
theorem wrap_nat {n:Nat} (h:n≤9223372036854775807):IntKind.i64.wrap (n:Int)=n:=wrap_int (by omega)
theorem wrap_nat1 {n:Nat} (h:n+1≤9223372036854775807):IntKind.i64.wrap ((n:Int)+1)=((n+1:Nat):Int):=wrap_int (by omega)
theorem deep_eq':deep=5+1:=rfl
theorem toPV_pv' (H:List AObj) (d:Nat) (p:PV):toPV H d (.pv p)=some p:=by cases d <;> rfl
end Go.AM
namespace Go.AM.So
open Go.AM
def flatR (D:Array (List PV)):List AV:=D.toList.flatten.map .pv
def rowsObj (sz:Nat) (D:Array (List PV)) (fl:Nat) (nl:Bool):AObj:= .seq sz true (flatR D) fl nl
def RowSz (sz:Nat) (r:List PV):Prop:=r.length=sz∧∀ c∈r,(AV.pv c).one=true
theorem flat_len {α:Type} {sz:Nat}:∀ {l:List (List α)},(∀ r∈l,r.length=sz)→l.flatten.length=l.length * sz
 | [],_=>by simp
 |r::l,h=>by
  rw[List.flatten_cons,List.length_append,h r (by simp),flat_len fun x hx=>h x (by simp[hx]),List.length_cons,Nat.add_mul];omega
theorem flat_take {α:Type} {sz:Nat}:∀ {l:List (List α)} {i:Nat} (hi:i < l.length),(∀ r∈l,r.length=sz)→(l.flatten.drop (i * sz)).take sz=l[i]
 |r::l,0,_,h=>by
  have:=h r (by simp)
  rw[Nat.zero_mul,List.drop_zero,List.flatten_cons,List.take_append_of_le_length (by omega),List.take_of_length_le (by omega)];rfl
 |r::l,i+1,hi,h=>by
  have h1:=h r (by simp)
  rw[List.flatten_cons,List.getElem_cons_succ,←flat_take (sz:=sz) (l:=l) (i:=i) (by simpa using hi) fun x hx=>h x (by simp[hx])]
  have e:(i+1) * sz=r.length+i * sz:=by rw[h1,Nat.add_mul];omega
  rw[e,List.drop_append,List.drop_eq_nil_of_le (by omega),List.nil_append,Nat.add_sub_cancel_left]
theorem setRow_get {α:Type}:∀ (vs cs:List α) (off p:Nat),(setRow cs off vs)[p]? =if h:off≤p∧p < off+vs.length∧p < cs.length then vs[p - off]? else cs[p]?
 | [],cs,off,p=>by simp[setRow];intro h1 h2;omega
 |v::vs,cs,off,p=>by
  rw[setRow,setRow_get vs]
  by_cases hp:p=off
  ·subst hp
   rw[dif_neg (by omega)]
   by_cases hc:p < cs.length
   ·rw[List.getElem?_set_self hc,dif_pos ⟨by omega,by simp,hc⟩];simp
   ·rw[dif_neg (by omega),List.getElem?_eq_none (by simp;omega),List.getElem?_eq_none (by omega)]
  ·rw[List.getElem?_set_ne (by omega)]
   by_cases h1:off+1≤p∧p < off+1+vs.length∧p < cs.length
   ·rw[dif_pos (by simpa using h1),dif_pos ⟨by omega,by simp;omega,by omega⟩]
    have:p - off=(p - (off+1))+1:=by omega
    rw[this,List.getElem?_cons_succ]
   ·rw[dif_neg (by simpa using h1),dif_neg]
    rintro⟨h2,h3,h4⟩
    simp at h3
    exact h1 ⟨by omega,by omega,h4⟩
theorem flat_set {α:Type} {sz:Nat} {l:List (List α)} {i:Nat} (hi:i < l.length) (h:∀ r∈l,r.length=sz) {r:List α} (hr:r.length=sz):
 setRow l.flatten (i * sz) r=(l.set i r).flatten:=by
 induction l generalizing i with
 |nil=>simp at hi
 |cons a l ih=>
  have ha:=h a (by simp)
  cases i with
  |zero=>
   rw[Nat.zero_mul,List.set_cons_zero,List.flatten_cons,List.flatten_cons]
   apply List.ext_getElem?
   intro p
   rw[setRow_get]
   by_cases hp:p < sz
   ·rw[dif_pos ⟨by omega,by omega,by rw[List.length_append];omega⟩,List.getElem?_append_left (by omega)];simp
   ·rw[dif_neg (by omega),List.getElem?_append_right (by omega),List.getElem?_append_right (by omega),ha,hr]
  |succ i=>
   have hi':i < l.length:=by simpa using hi
   rw[List.set_cons_succ,List.flatten_cons,List.flatten_cons,←ih hi' fun x hx=>h x (by simp[hx])]
   have e:(i+1) * sz=a.length+i * sz:=by rw[ha,Nat.add_mul];omega
   rw[e]
   apply List.ext_getElem?
   intro p
   rw[setRow_get]
   by_cases hp:p < a.length
   ·rw[dif_neg (by omega),List.getElem?_append_left hp,List.getElem?_append_left hp]
   ·rw[List.getElem?_append_right (by omega),List.getElem?_append_right (by omega),setRow_get]
    have e2:(a.length+i * sz≤p∧p < a.length+i * sz+r.length∧p < (a++l.flatten).length)=(i * sz≤p - a.length∧p - a.length < i * sz+r.length∧p - a.length < l.flatten.length):=by
     rw[List.length_append];apply propext;constructor <;> rintro⟨h1,h2,h3⟩ <;> exact⟨by omega,by omega,by omega⟩
    simp only[e2]
    have e3:p - (a.length+i * sz)=p - a.length - i * sz:=by omega
    rw[e3]
theorem map_setRow {α β:Type} (f:α→β):∀ (vs cs:List α) (off:Nat),(setRow cs off vs).map f=setRow (cs.map f) off (vs.map f)
 | [],cs,off=>rfl
 |v::vs,cs,off=>by rw[setRow,map_setRow f vs,List.map_set];rfl
theorem flatR_len {sz:Nat} {D:Array (List PV)} (h:∀ r∈D.toList,RowSz sz r):(flatR D).length=D.size * sz:=by
 rw[flatR,List.length_map,flat_len fun r hr=>(h r hr).1];rfl
theorem allPV_map (l:List PV):allPV (l.map .pv)=some l:=by
 induction l with
 |nil=>rfl
 |cons a l ih=>rw[List.map_cons,allPV,ih];rfl
def HGood (H:List AObj):Prop:=∀ n,H.length≤n→∀ o∈H,cutObj n o=some o
theorem mapO_id {α:Type} {f:α→Option α}:∀ {l:List α},(∀ a∈l,f a=some a)→mapO f l=some l
 | [],_=>rfl
 |a::l,h=>by rw[mapO,h a (by simp),mapO_id fun x hx=>h x (by simp[hx])];rfl
theorem rowsObj_cut (sz:Nat) (D:Array (List PV)) (fl:Nat) (nl:Bool) (n:Nat):cutObj n (rowsObj sz D fl nl)=some (rowsObj sz D fl nl):=by
 have:(flatR D).all (AV.keep n deep)=true:=by
  rw[List.all_eq_true]
  intro v hv
  obtain⟨p,_,rfl⟩:=List.mem_map.1 hv
  rfl
 simp[cutObj,rowsObj,this]
structure Hp (id sz:Nat) (P:List PV→Prop) (H0:List AObj) (D:Array (List PV)) (H:List AObj):Prop where
 le:H0.length≤H.length
 good:HGood H
 keep:∀ k,k < H0.length→k≠id→H[k]? =H0[k]?
 get:∃ fl nl,fl≤D.size * sz∧H[id]? =some (rowsObj sz D fl nl)
 rows:∀ r∈D.toList,P r
 lt:id < H0.length
section
variable {id sz:Nat} {P:List PV→Prop} {H0 H:List AObj} {D:Array (List PV)} (hP:∀ r,P r→RowSz sz r)
theorem Hp.refl {fl:Nat} {nl:Bool} (hg:HGood H) (hf:fl≤D.size * sz) (h:H[id]? =some (rowsObj sz D fl nl)) (hr:∀ r∈D.toList,P r):Hp id sz P H D H:=
 ⟨Nat.le_refl _,hg,fun _ _ _=>rfl,⟨fl,nl,hf,h⟩,hr,(List.getElem?_eq_some_iff.1 h).1⟩
theorem Hp.same (h:Hp id sz P H0 D H):Hp id sz P H D H:=⟨Nat.le_refl _,h.good,fun _ _ _=>rfl,h.get,h.rows,Nat.lt_of_lt_of_le h.lt h.le⟩
theorem Hp.trans {H':List AObj} {D':Array (List PV)} (h:Hp id sz P H0 D H) (h':Hp id sz P H D' H'):Hp id sz P H0 D' H':=
 ⟨Nat.le_trans h.le h'.le,h'.good,fun k hk hne=>(h'.keep k (Nat.lt_of_lt_of_le hk h.le) hne).trans (h.keep k hk hne),h'.get,h'.rows,h.lt⟩
theorem getB {D:Array (List PV)} {i:Nat} (hi:i < D.size):D[i]! =D[i]:=getElem!_pos D i hi
theorem getB_mem {D:Array (List PV)} {i:Nat} (hi:i < D.size):D[i]! ∈D.toList:=by rw[getB hi];simp
include hP
theorem Hp.iaddr (h:Hp id sz P H0 D H) {n:Nat} (hn:n=D.size) {i:Int} {k:Nat} (hi:i=(k:Int)) (hk:k < D.size):iaddrA' H sz (.own id n) i=some (.eptr id (n * sz) (k * sz)):=by
 obtain⟨fl,nl,hf,hg⟩:=h.get
 have hl:=flatR_len fun r hr=>hP r (h.rows r hr)
 subst hn hi
 simp only[iaddrA',hg,rowsObj]
 rw[if_pos (by refine⟨trivial,?_,?_⟩ <;> first | (unfold idxOk;omega) | (unfold winOk;omega))]
 simp
theorem Hp.load (h:Hp id sz P H0 D H) {n:Nat} (hn:n=D.size) {k:Nat} (hk:k < D.size):loadA H true sz (.eptr id (n * sz) (k * sz))=some (.pv (.agg D[k]!)):=by
 obtain⟨fl,nl,hf,hg⟩:=h.get
 have hl:=flatR_len fun r hr=>hP r (h.rows r hr)
 subst hn
 have hle:k * sz+sz≤D.size * sz:=by
  have:(k+1) * sz≤D.size * sz:=Nat.mul_le_mul_right _ hk
  rw[Nat.add_mul] at this;omega
 simp only[loadA,hg,rowsObj,hl,partA,if_true]
 rw[if_pos hle]
 have e:((flatR D).drop (k * sz)).take sz=D[k]!.map .pv:=by
  rw[flatR,←List.map_drop,←List.map_take,flat_take (l:=D.toList) (i:=k) (by simpa using hk) fun r hr=>(hP r (h.rows r hr)).1,getB hk]
  simp
 rw[e]
 simp[mkAgg,allPV_map]
theorem Hp.store (h:Hp id sz P H0 D H) {n:Nat} (hn:n=D.size) {k:Nat} (hk:k < D.size) {r:List PV} (hr:P r):
 ∃ H',storeA H sz (.eptr id (n * sz) (k * sz)) (.pv (.agg r))=some H'∧Hp id sz P H0 (D.setIfInBounds k r) H'∧H'.length=H.length:=by
 obtain⟨fl,nl,hf,hg⟩:=h.get
 have hl:=flatR_len fun r hr=>hP r (h.rows r hr)
 subst hn
 have hle:k * sz+sz≤D.size * sz:=by
  have:(k+1) * sz≤D.size * sz:=Nat.mul_le_mul_right _ hk
  rw[Nat.add_mul] at this;omega
 have hro:=hP r hr
 have hall:((AV.pv (.agg r)).cells.all AV.one)=true:=by
  rw[List.all_eq_true]
  intro v hv
  obtain⟨c,hc,rfl⟩:=List.mem_map.1 hv
  exact hro.2 c hc
 have hlt:id < H.length:=Nat.lt_of_lt_of_le h.lt h.le
 have he:setRow (flatR D) (k * sz) ((AV.pv (.agg r)).cells)=flatR (D.setIfInBounds k r):=by
  show setRow (D.toList.flatten.map AV.pv) (k * sz) (r.map AV.pv)=_
  rw[← map_setRow,flat_set (by simpa using hk) (fun r hr=>(hP r (h.rows r hr)).1) hro.1,flatR,Array.toList_setIfInBounds]
 refine⟨H.set id (rowsObj sz (D.setIfInBounds k r) (D.size * sz) nl),?_,⟨by simpa using h.le,?_,?_,⟨D.size * sz,nl,by simp,List.getElem?_set_self hlt⟩,?_,h.lt⟩,by simp⟩
 ·simp only[storeA,hg,rowsObj]
  have hcl:(AV.pv (.agg r)).cells.length=sz:=by show (r.map AV.pv).length=sz;rw[List.length_map];exact hro.1
  rw[if_pos ⟨hcl,hall⟩,if_pos ⟨hl,hle⟩,he]
 ·intro m hm o ho
  rcases List.mem_or_eq_of_mem_set ho with h1 | h1
  ·exact h.good m (by simpa using hm) o h1
  ·subst h1;exact rowsObj_cut _ _ _ _ _
 ·intro k hk hne
  rw[List.getElem?_set_ne (Ne.symm hne)];exact h.keep k hk hne
 ·intro x hx
  rw[Array.toList_setIfInBounds] at hx
  rcases List.mem_or_eq_of_mem_set hx with h1 | h1
  ·exact h.rows x h1
  ·subst h1;exact hr
omit hP in
theorem Hp.clean (h:Hp id sz P H0 D H) {n:Nat} (hn:n=H0.length) (g0:HGood H0):mapO (cutObj n) (H.take n)=some (H.take n)∧Hp id sz P H0 D (H.take n)∧(H.take n).length=n:=by
 subst hn
 have hle:=h.le
 have hmem:∀ o∈H.take H0.length,∀ m,H0.length≤m→cutObj m o=some o:=by
  intro o ho m hm
  obtain⟨k,hk⟩:=List.getElem?_of_mem ho
  have hk2:k < H0.length:=by have:=(List.getElem?_eq_some_iff.1 hk).1;simp at this;omega
  rw[List.getElem?_take_of_lt hk2] at hk
  by_cases hid:k=id
  ·subst hid
   obtain⟨fl,nl,_,hg⟩:=h.get
   rw[hg] at hk;injection hk with hk;subst hk
   exact rowsObj_cut _ _ _ _ _
  ·rw[h.keep k hk2 hid] at hk
   exact g0 m hm o (List.mem_of_getElem? hk)
 have hlen:(H.take H0.length).length=H0.length:=by simp;omega
 refine⟨mapO_id fun o ho=>hmem o ho _ (Nat.le_refl _),⟨by omega,fun m hm o ho=>hmem o ho m (by omega),?_,?_,h.rows,h.lt⟩,hlen⟩
 ·intro k hk hne
  rw[List.getElem?_take_of_lt hk];exact h.keep k hk hne
 ·obtain⟨fl,nl,hf,hg⟩:=h.get
  exact⟨fl,nl,hf,by rw[List.getElem?_take_of_lt h.lt];exact hg⟩
end
end Go.AM.So
namespace Go.AM
theorem SP:type_of% (And.intro (And.intro (And.intro (And.intro (And.intro (And.intro (And.intro (And.intro @pureF.eq_1 @runF_go) (And.intro @callL_succ @C_skip)) (And.intro (And.intro @C_region @C_seq) (And.intro @C_cond @C_block))) (And.intro (And.intro (And.intro @C_scope @C_exit) (And.intro @C_ret @C_ghost)) (And.intro (And.intro @ops_cons @ops_nil) (And.intro @oper_go @oper_pr)))) (And.intro (And.intro (And.intro (And.intro @oper_if @guard_t) (And.intro @guard_f @do_go)) (And.intro (And.intro @do_pr @skip_do) (And.intro @skip_no @onH_go))) (And.intro (And.intro (And.intro @evalOp.eq_1 @evalOp.eq_2) (And.intro @evalOp.eq_3 @evalOp.eq_4)) (And.intro (And.intro @evalOp.eq_5 @evalOp.eq_6) (And.intro @evalOp.eq_7 @evalOp.eq_8))))) (And.intro (And.intro (And.intro (And.intro (And.intro @evalOp.eq_9 @evalOp.eq_10) (And.intro @evalOp.eq_11 @evalOp.eq_12)) (And.intro (And.intro @evalOp.eq_13 @evalOp.eq_14) (And.intro @evalOp.eq_15 @evalOp.eq_16))) (And.intro (And.intro (And.intro @evalOp.eq_17 @evalOp.eq_18) (And.intro @evalOp.eq_19 @evalOp.eq_20)) (And.intro (And.intro @evalOp.eq_21 @evalOp.eq_22) (And.intro @evalOp.eq_23 @evalOp.eq_24)))) (And.intro (And.intro (And.intro (And.intro @evalOp.eq_25 @evalOp.eq_26) (And.intro @evalOp.eq_27 @evalOp.eq_28)) (And.intro (And.intro @evalOp.eq_29 @evalOp.eq_30) (And.intro @evalOp.eq_31 @evalOp.eq_32))) (And.intro (And.intro (And.intro @evalOp.eq_33 @evalOp.eq_34) (And.intro @evalOp.eq_35 @evalOp.eq_36)) (And.intro (And.intro @evalOp.eq_37 @evalOp.eq_38) (And.intro @evalOp.eq_39 @evalOp.eq_40)))))) (And.intro (And.intro (And.intro (And.intro (And.intro (And.intro @evalOp.eq_41 @List.map.eq_1.{0,0}) (And.intro @List.map.eq_2.{0,0} @List.length.eq_1.{0})) (And.intro (And.intro @List.length.eq_2.{0} @if_true.{0}) (And.intro @argEnv.eq_1 @argEnv.eq_2))) (And.intro (And.intro (And.intro @AO.ev.eq_1 @AO.ev.eq_2) (And.intro @AO.ev.eq_3 @Tr.get_set)) (And.intro (And.intro @wantedA.eq_1 @wantedA.eq_2) (And.intro @putR_do @putR_no)))) (And.intro (And.intro (And.intro (And.intro @nextA_some @seqA_norm) (And.intro @seqA_ret @seqA_exit)) (And.intro (And.intro @normA_some @condA_t) (And.intro @condA_f @startA_go))) (And.intro (And.intro (And.intro @blockA_norm @blockA_ret) (And.intro @blockA_exit @AV.cells.eq_1)) (And.intro (And.intro @AV.cells.eq_2 @AV.cells.eq_3) (And.intro @PV.cells.eq_1 @PV.cells.eq_2))))) (And.intro (And.intro (And.intro (And.intro (And.intro @outR_ret @outR_norm) (And.intro @resA.eq_1 @resA.eq_2)) (And.intro (And.intro @one1.eq_1 @one1.eq_2) (And.intro @mapO.eq_1 @mapO.eq_2))) (And.intro (And.intro (And.intro @toPV.eq_1 @toPV.eq_2) (And.intro @toPV.eq_3 @toPV.eq_4)) (And.intro (And.intro @toPV.eq_5 @toPV.eq_6) (And.intro @toPV.eq_7 @toPV.eq_8)))) (And.intro (And.intro (And.intro (And.intro @Option.bind_some.{0,0} @Option.map_some.{0,0}) (And.intro @AV.one.eq_1 @AV.one.eq_2)) (And.intro (And.intro @AV.one.eq_3 @AV.one.eq_4) (And.intro @AV.one.eq_5 @AV.one.eq_6))) (And.intro (And.intro (And.intro @List.all.eq_1.{0} @List.all.eq_2.{0}) (And.intro @Bool.and_self @true_and)) (And.intro (And.intro @and_self @and_true) (And.intro @flatV.eq_1 @flatV.eq_2))))))) (And.intro (And.intro (And.intro (And.intro (And.intro (And.intro (And.intro @flatV.eq_3 @flatV.eq_4) (And.intro @flatV.eq_5 @flatV.eq_6)) (And.intro (And.intro @Bool.or_true @Bool.true_or) (And.intro @unA.eq_1 @unA.eq_2))) (And.intro (And.intro (And.intro @unA.eq_3 @unA.eq_4) (And.intro @asBool.eq_1 @asBool.eq_2)) (And.intro (And.intro @asInt.eq_1 @asInt.eq_2) (And.intro @Bool.not_true @Bool.not_false)))) (And.intro (And.intro (And.intro (And.intro @fillA.eq_1 @fillA.eq_2) (And.intro @mkAgg.eq_1 @mkTup.eq_1)) (And.intro (And.intro @allPV.eq_1 @allPV.eq_2) (And.intro @allPV.eq_3 @lenA_nils))) (And.intro (And.intro (And.intro @lenA_lit @lenA_uq) (And.intro @lenA_str @lenA_nilm)) (And.intro (And.intro @lenA_own @lenA_mp) (And.intro @binA.eq_1 @binA.eq_2))))) (And.intro (And.intro (And.intro (And.intro (And.intro @binA.eq_3 @binA.eq_4) (And.intro @binA.eq_5 @intBin.eq_1)) (And.intro (And.intro @intBin.eq_2 @intBin.eq_3) (And.intro @intBin.eq_4 @intBin.eq_5))) (And.intro (And.intro (And.intro @intBin.eq_6 @intBin.eq_7) (And.intro @intBin.eq_8 @intBin.eq_9)) (And.intro (And.intro @intBin.eq_10 @intBin.eq_11) (And.intro @intBin.eq_12 @intBin.eq_13)))) (And.intro (And.intro (And.intro (And.intro @intBin.eq_14 @intBin.eq_15) (And.intro @eqA.eq_1 @eqA.eq_2)) (And.intro (And.intro @eqA.eq_3 @eqA.eq_4) (And.intro @eqA.eq_5 @eqA.eq_6))) (And.intro (And.intro (And.intro @eqA.eq_7 @eqA.eq_8) (And.intro @eqA.eq_9 @eqA.eq_10)) (And.intro (And.intro @eqA.eq_11 @eqA.eq_12) (And.intro @fresh.eq_1 @fresh.eq_2)))))) (And.intro (And.intro (And.intro (And.intro (And.intro (And.intro @fresh.eq_3 @chunk.eq_1) (And.intro @chunk.eq_2 @List.append.eq_1.{0})) (And.intro (And.intro @List.append.eq_2.{0} @List.nil_append.{0}) (And.intro @List.cons_append.{0} @List.getElem?_cons_zero.{0}))) (And.intro (And.intro (And.intro @List.getElem?_cons_succ.{0} @List.getElem?_nil.{0}) (And.intro @List.set_cons_zero.{0} @List.set_cons_succ.{0})) (And.intro (And.intro @List.length_cons.{0} @List.length_nil.{0}) (And.intro @Nat.zero_add @Nat.add_zero)))) (And.intro (And.intro (And.intro (And.intro @List.drop.eq_1.{0} @List.drop.eq_2.{0}) (And.intro @List.drop.eq_3.{0} @List.take.eq_1.{0})) (And.intro (And.intro @List.take.eq_2.{0} @List.take.eq_3.{0}) (And.intro @flat.eq_1 @flat.eq_2))) (And.intro (And.intro (And.intro @elemsP.eq_1 @elemsP.eq_2) (And.intro @elemsP.eq_3 @elemsP.eq_4)) (And.intro (And.intro @elemsP.eq_5 @nilApp.eq_1) (And.intro @nilApp.eq_2 @nilApp.eq_3))))) (And.intro (And.intro (And.intro (And.intro (And.intro @nilApp.eq_4 @Bool.false_eq_true) (And.intro @beq_self_eq_true.{0} @bne_self_eq_false.{0})) (And.intro (And.intro @Bool.not_eq_true @decide_true) (And.intro @decide_false @Nat.le_refl))) (And.intro (And.intro (And.intro @Option.bind_none.{0,0} @Option.map_none.{0,0}) (And.intro @b_tt @b_tf)) (And.intro (And.intro @b_ft @b_ff) (And.intro @pvInt.eq_1 @Int.cast_ofNat_Int)))) (And.intro (And.intro (And.intro (And.intro @repZ.eq_1 @repZ.eq_2) (And.intro @Bool.false_and @Bool.and_false)) (And.intro (And.intro @List.headD_cons.{0} @List.headD_nil.{0}) (And.intro @Nat.lt_add_one @Nat.sub_zero))) (And.intro (And.intro (And.intro @List.isEmpty_cons.{0} @List.isEmpty_nil.{0}) (And.intro @AV.free.eq_1 @AV.free.eq_2)) (And.intro (And.intro @AV.free.eq_3 @Bool.or_false) (And.intro @Bool.false_or @Nat.mul_one)))))))):=
 (And.intro (And.intro (And.intro (And.intro (And.intro (And.intro (And.intro (And.intro @pureF.eq_1 @runF_go) (And.intro @callL_succ @C_skip)) (And.intro (And.intro @C_region @C_seq) (And.intro @C_cond @C_block))) (And.intro (And.intro (And.intro @C_scope @C_exit) (And.intro @C_ret @C_ghost)) (And.intro (And.intro @ops_cons @ops_nil) (And.intro @oper_go @oper_pr)))) (And.intro (And.intro (And.intro (And.intro @oper_if @guard_t) (And.intro @guard_f @do_go)) (And.intro (And.intro @do_pr @skip_do) (And.intro @skip_no @onH_go))) (And.intro (And.intro (And.intro @evalOp.eq_1 @evalOp.eq_2) (And.intro @evalOp.eq_3 @evalOp.eq_4)) (And.intro (And.intro @evalOp.eq_5 @evalOp.eq_6) (And.intro @evalOp.eq_7 @evalOp.eq_8))))) (And.intro (And.intro (And.intro (And.intro (And.intro @evalOp.eq_9 @evalOp.eq_10) (And.intro @evalOp.eq_11 @evalOp.eq_12)) (And.intro (And.intro @evalOp.eq_13 @evalOp.eq_14) (And.intro @evalOp.eq_15 @evalOp.eq_16))) (And.intro (And.intro (And.intro @evalOp.eq_17 @evalOp.eq_18) (And.intro @evalOp.eq_19 @evalOp.eq_20)) (And.intro (And.intro @evalOp.eq_21 @evalOp.eq_22) (And.intro @evalOp.eq_23 @evalOp.eq_24)))) (And.intro (And.intro (And.intro (And.intro @evalOp.eq_25 @evalOp.eq_26) (And.intro @evalOp.eq_27 @evalOp.eq_28)) (And.intro (And.intro @evalOp.eq_29 @evalOp.eq_30) (And.intro @evalOp.eq_31 @evalOp.eq_32))) (And.intro (And.intro (And.intro @evalOp.eq_33 @evalOp.eq_34) (And.intro @evalOp.eq_35 @evalOp.eq_36)) (And.intro (And.intro @evalOp.eq_37 @evalOp.eq_38) (And.intro @evalOp.eq_39 @evalOp.eq_40)))))) (And.intro (And.intro (And.intro (And.intro (And.intro (And.intro @evalOp.eq_41 @List.map.eq_1.{0,0}) (And.intro @List.map.eq_2.{0,0} @List.length.eq_1.{0})) (And.intro (And.intro @List.length.eq_2.{0} @if_true.{0}) (And.intro @argEnv.eq_1 @argEnv.eq_2))) (And.intro (And.intro (And.intro @AO.ev.eq_1 @AO.ev.eq_2) (And.intro @AO.ev.eq_3 @Tr.get_set)) (And.intro (And.intro @wantedA.eq_1 @wantedA.eq_2) (And.intro @putR_do @putR_no)))) (And.intro (And.intro (And.intro (And.intro @nextA_some @seqA_norm) (And.intro @seqA_ret @seqA_exit)) (And.intro (And.intro @normA_some @condA_t) (And.intro @condA_f @startA_go))) (And.intro (And.intro (And.intro @blockA_norm @blockA_ret) (And.intro @blockA_exit @AV.cells.eq_1)) (And.intro (And.intro @AV.cells.eq_2 @AV.cells.eq_3) (And.intro @PV.cells.eq_1 @PV.cells.eq_2))))) (And.intro (And.intro (And.intro (And.intro (And.intro @outR_ret @outR_norm) (And.intro @resA.eq_1 @resA.eq_2)) (And.intro (And.intro @one1.eq_1 @one1.eq_2) (And.intro @mapO.eq_1 @mapO.eq_2))) (And.intro (And.intro (And.intro @toPV.eq_1 @toPV.eq_2) (And.intro @toPV.eq_3 @toPV.eq_4)) (And.intro (And.intro @toPV.eq_5 @toPV.eq_6) (And.intro @toPV.eq_7 @toPV.eq_8)))) (And.intro (And.intro (And.intro (And.intro @Option.bind_some.{0,0} @Option.map_some.{0,0}) (And.intro @AV.one.eq_1 @AV.one.eq_2)) (And.intro (And.intro @AV.one.eq_3 @AV.one.eq_4) (And.intro @AV.one.eq_5 @AV.one.eq_6))) (And.intro (And.intro (And.intro @List.all.eq_1.{0} @List.all.eq_2.{0}) (And.intro @Bool.and_self @true_and)) (And.intro (And.intro @and_self @and_true) (And.intro @flatV.eq_1 @flatV.eq_2))))))) (And.intro (And.intro (And.intro (And.intro (And.intro (And.intro (And.intro @flatV.eq_3 @flatV.eq_4) (And.intro @flatV.eq_5 @flatV.eq_6)) (And.intro (And.intro @Bool.or_true @Bool.true_or) (And.intro @unA.eq_1 @unA.eq_2))) (And.intro (And.intro (And.intro @unA.eq_3 @unA.eq_4) (And.intro @asBool.eq_1 @asBool.eq_2)) (And.intro (And.intro @asInt.eq_1 @asInt.eq_2) (And.intro @Bool.not_true @Bool.not_false)))) (And.intro (And.intro (And.intro (And.intro @fillA.eq_1 @fillA.eq_2) (And.intro @mkAgg.eq_1 @mkTup.eq_1)) (And.intro (And.intro @allPV.eq_1 @allPV.eq_2) (And.intro @allPV.eq_3 @lenA_nils))) (And.intro (And.intro (And.intro @lenA_lit @lenA_uq) (And.intro @lenA_str @lenA_nilm)) (And.intro (And.intro @lenA_own @lenA_mp) (And.intro @binA.eq_1 @binA.eq_2))))) (And.intro (And.intro (And.intro (And.intro (And.intro @binA.eq_3 @binA.eq_4) (And.intro @binA.eq_5 @intBin.eq_1)) (And.intro (And.intro @intBin.eq_2 @intBin.eq_3) (And.intro @intBin.eq_4 @intBin.eq_5))) (And.intro (And.intro (And.intro @intBin.eq_6 @intBin.eq_7) (And.intro @intBin.eq_8 @intBin.eq_9)) (And.intro (And.intro @intBin.eq_10 @intBin.eq_11) (And.intro @intBin.eq_12 @intBin.eq_13)))) (And.intro (And.intro (And.intro (And.intro @intBin.eq_14 @intBin.eq_15) (And.intro @eqA.eq_1 @eqA.eq_2)) (And.intro (And.intro @eqA.eq_3 @eqA.eq_4) (And.intro @eqA.eq_5 @eqA.eq_6))) (And.intro (And.intro (And.intro @eqA.eq_7 @eqA.eq_8) (And.intro @eqA.eq_9 @eqA.eq_10)) (And.intro (And.intro @eqA.eq_11 @eqA.eq_12) (And.intro @fresh.eq_1 @fresh.eq_2)))))) (And.intro (And.intro (And.intro (And.intro (And.intro (And.intro @fresh.eq_3 @chunk.eq_1) (And.intro @chunk.eq_2 @List.append.eq_1.{0})) (And.intro (And.intro @List.append.eq_2.{0} @List.nil_append.{0}) (And.intro @List.cons_append.{0} @List.getElem?_cons_zero.{0}))) (And.intro (And.intro (And.intro @List.getElem?_cons_succ.{0} @List.getElem?_nil.{0}) (And.intro @List.set_cons_zero.{0} @List.set_cons_succ.{0})) (And.intro (And.intro @List.length_cons.{0} @List.length_nil.{0}) (And.intro @Nat.zero_add @Nat.add_zero)))) (And.intro (And.intro (And.intro (And.intro @List.drop.eq_1.{0} @List.drop.eq_2.{0}) (And.intro @List.drop.eq_3.{0} @List.take.eq_1.{0})) (And.intro (And.intro @List.take.eq_2.{0} @List.take.eq_3.{0}) (And.intro @flat.eq_1 @flat.eq_2))) (And.intro (And.intro (And.intro @elemsP.eq_1 @elemsP.eq_2) (And.intro @elemsP.eq_3 @elemsP.eq_4)) (And.intro (And.intro @elemsP.eq_5 @nilApp.eq_1) (And.intro @nilApp.eq_2 @nilApp.eq_3))))) (And.intro (And.intro (And.intro (And.intro (And.intro @nilApp.eq_4 @Bool.false_eq_true) (And.intro @beq_self_eq_true.{0} @bne_self_eq_false.{0})) (And.intro (And.intro @Bool.not_eq_true @decide_true) (And.intro @decide_false @Nat.le_refl))) (And.intro (And.intro (And.intro @Option.bind_none.{0,0} @Option.map_none.{0,0}) (And.intro @b_tt @b_tf)) (And.intro (And.intro @b_ft @b_ff) (And.intro @pvInt.eq_1 @Int.cast_ofNat_Int)))) (And.intro (And.intro (And.intro (And.intro @repZ.eq_1 @repZ.eq_2) (And.intro @Bool.false_and @Bool.and_false)) (And.intro (And.intro @List.headD_cons.{0} @List.headD_nil.{0}) (And.intro @Nat.lt_add_one @Nat.sub_zero))) (And.intro (And.intro (And.intro @List.isEmpty_cons.{0} @List.isEmpty_nil.{0}) (And.intro @AV.free.eq_1 @AV.free.eq_2)) (And.intro (And.intro @AV.free.eq_3 @Bool.or_false) (And.intro @Bool.false_or @Nat.mul_one))))))))
theorem SA:type_of% (And.intro (And.intro @appendA.eq_1 @appendA.eq_2) (And.intro @appendA.eq_3 @appendA.eq_4)):=
 (And.intro (And.intro @appendA.eq_1 @appendA.eq_2) (And.intro @appendA.eq_3 @appendA.eq_4))
theorem SQ:type_of% (And.intro (And.intro (And.intro @storeA.eq_1 (And.intro @storeA.eq_2 @storeA.eq_3)) (And.intro (And.intro @loadA.eq_1 @loadA.eq_2) (And.intro @loadA.eq_3 @loadA.eq_4))) (And.intro (And.intro (And.intro @partA.eq_1 @partP.eq_1) (And.intro @place.eq_1 @place.eq_2)) (And.intro (And.intro @place.eq_3 @place.eq_4) (And.intro @setRow.eq_1 @setRow.eq_2)))):=
 (And.intro (And.intro (And.intro @storeA.eq_1 (And.intro @storeA.eq_2 @storeA.eq_3)) (And.intro (And.intro @loadA.eq_1 @loadA.eq_2) (And.intro @loadA.eq_3 @loadA.eq_4))) (And.intro (And.intro (And.intro @partA.eq_1 @partP.eq_1) (And.intro @place.eq_1 @place.eq_2)) (And.intro (And.intro @place.eq_3 @place.eq_4) (And.intro @setRow.eq_1 @setRow.eq_2))))
theorem WP:type_of% (And.intro (And.intro (And.intro (And.intro (And.intro (And.intro @wp_some @wp_none) (And.intro @wp_guard @wp_map)) (And.intro (And.intro @wp_bind @wp_seqA) (And.intro @wp_blockA (And.intro @wp_normA @wp_startA)))) (And.intro (And.intro (And.intro @wp_condA @wp_nextA) (And.intro @wp_putR @wp_onH)) (And.intro (And.intro @wp_guardA @seqQ_norm) (And.intro @seqQ_ret (And.intro @seqQ_exit @blockQ_norm))))) (And.intro (And.intro (And.intro (And.intro @blockQ_ret @blockQ_exit) (And.intro @putA_some @putA_none)) (And.intro (And.intro @idx_nat @dec_nat_lt) (And.intro @Int.toNat_natCast (And.intro @clean.eq_1 @tidy.eq_1)))) (And.intro (And.intro (And.intro @keepEnv.eq_1 @keepEnv.eq_2) (And.intro @cutEnv.eq_1 (And.intro @cutEnv.eq_2 @cutObj.eq_1))) (And.intro (And.intro @cutObj.eq_2 @cutObj.eq_3) (And.intro @cutObj.eq_4 (And.intro @cutObj.eq_5 @cut_pv)))))) (And.intro (And.intro (And.intro (And.intro (And.intro @AV.cut.eq_1 @AV.cut.eq_2) (And.intro @AV.cut.eq_3 @AV.cut.eq_4)) (And.intro (And.intro @AV.cut.eq_5 @AV.cut.eq_6) (And.intro @AV.cut.eq_7 (And.intro @AV.cut.eq_8 @AV.cut.eq_9)))) (And.intro (And.intro (And.intro @AV.cut.eq_10 @AV.cut.eq_11) (And.intro @deep_eq' @toPV_pv')) (And.intro (And.intro @partE.eq_1 @AV.pvu.eq_1) (And.intro @AV.pvu.eq_2 (And.intro @AV.pvu1.eq_1 @AV.pvu1.eq_2))))) (And.intro (And.intro (And.intro (And.intro @roundL.eq_1 @roundA.eq_1) (And.intro @forall_const.{0} @true_implies)) (And.intro (And.intro @false_implies @imp_self) (And.intro @not_true_eq_false (And.intro @not_false_eq_true @Bool.true_eq_false)))) (And.intro (And.intro (And.intro @false_and @and_false) (And.intro @true_or (And.intro @or_true @false_or))) (And.intro (And.intro @or_false @imp_false) (And.intro @wp_outR (And.intro @outQ_norm @outQ_ret))))))):=
 (And.intro (And.intro (And.intro (And.intro (And.intro (And.intro @wp_some @wp_none) (And.intro @wp_guard @wp_map)) (And.intro (And.intro @wp_bind @wp_seqA) (And.intro @wp_blockA (And.intro @wp_normA @wp_startA)))) (And.intro (And.intro (And.intro @wp_condA @wp_nextA) (And.intro @wp_putR @wp_onH)) (And.intro (And.intro @wp_guardA @seqQ_norm) (And.intro @seqQ_ret (And.intro @seqQ_exit @blockQ_norm))))) (And.intro (And.intro (And.intro (And.intro @blockQ_ret @blockQ_exit) (And.intro @putA_some @putA_none)) (And.intro (And.intro @idx_nat @dec_nat_lt) (And.intro @Int.toNat_natCast (And.intro @clean.eq_1 @tidy.eq_1)))) (And.intro (And.intro (And.intro @keepEnv.eq_1 @keepEnv.eq_2) (And.intro @cutEnv.eq_1 (And.intro @cutEnv.eq_2 @cutObj.eq_1))) (And.intro (And.intro @cutObj.eq_2 @cutObj.eq_3) (And.intro @cutObj.eq_4 (And.intro @cutObj.eq_5 @cut_pv)))))) (And.intro (And.intro (And.intro (And.intro (And.intro @AV.cut.eq_1 @AV.cut.eq_2) (And.intro @AV.cut.eq_3 @AV.cut.eq_4)) (And.intro (And.intro @AV.cut.eq_5 @AV.cut.eq_6) (And.intro @AV.cut.eq_7 (And.intro @AV.cut.eq_8 @AV.cut.eq_9)))) (And.intro (And.intro (And.intro @AV.cut.eq_10 @AV.cut.eq_11) (And.intro @deep_eq' @toPV_pv')) (And.intro (And.intro @partE.eq_1 @AV.pvu.eq_1) (And.intro @AV.pvu.eq_2 (And.intro @AV.pvu1.eq_1 @AV.pvu1.eq_2))))) (And.intro (And.intro (And.intro (And.intro @roundL.eq_1 @roundA.eq_1) (And.intro @forall_const.{0} @true_implies)) (And.intro (And.intro @false_implies @imp_self) (And.intro @not_true_eq_false (And.intro @not_false_eq_true @Bool.true_eq_false)))) (And.intro (And.intro (And.intro @false_and @and_false) (And.intro @true_or (And.intro @or_true @false_or))) (And.intro (And.intro @or_false @imp_false) (And.intro @wp_outR (And.intro @outQ_norm @outQ_ret)))))))
theorem WQ:type_of% (And.intro (And.intro @iaddrA'.eq_1 @iaddrA'.eq_2) (And.intro @iaddrA'.eq_3 @iaddrA'.eq_4)):=
 (And.intro (And.intro @iaddrA'.eq_1 @iaddrA'.eq_2) (And.intro @iaddrA'.eq_3 @iaddrA'.eq_4))
end Go.AM
