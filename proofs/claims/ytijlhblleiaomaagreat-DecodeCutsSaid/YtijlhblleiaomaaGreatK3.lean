/- The abstract machine: its functions compute what the model's functions do; a law's call; conditions. -/
import Derived.ScopeJumps
import Derived.Test.YtijlhblleiaomaaGreatK2
import Derived.Scope
import Derived.LoopN
import Derived.ProofKit
import Derived.Carry
import Derived.SizedLaws
import Derived.OpenShut
import Derived.Handed
import Derived.Shelf.SlSortCmp.NoneTotal
set_option linter.unusedSimpArgs false
set_option linter.unusedVariables false
namespace Go.AM
open Go.RowKit
def zC(P:Program)(f:FuncId):Prop:=∃ fn c,P.funcs[f]? =some fn/\fn.body=some c/\(fn.name== "runtime.NumGoroutine")=false
def Nb(P:Program)(f:FuncId)(F:List PV->Option PV):Prop:=
 zC P f/\∀ (w:World)(R:Rd)(args:List PV)(vs:List Value)(r:PV),(∀ b o v,R b o=some v->w.cell? ⟨b,o,none⟩=some v)->Cc R args vs->F args=some r->
  Calls P f ⟨vs⟩ w fun e w'=>∃ v R',e= .returned v/\Below w.heap.size w w'/\Na R' r v/\(∀ b o,b < w.heap.size->R' b o=R b o)/\∀ b o v,R' b o=some v->w'.cell? ⟨b,o,none⟩=some v
def PJ(fo:Nat->FuncId)(B0:qd)(w:World)(R:Rd)(φ:Pl)(H:List fa)(v:AV)(H':List fa)(e:Ending)(w':World):Prop:=
 ∃ u R' φ',e= .returned u/\Lb fo B0 w' R' φ' H'/\Yb fo (K R' φ' H') v u/\(∀ x u,K R φ H x u->K R' φ' H' x u)/\Od B0 w w'
def Pr(P:Program)(fo:Nat->FuncId)(B0:qd)(call:Ab):Prop:=
 ∀ (ix:Nat)(args:List AV)(H:List fa)(v:AV)(H':List fa)(w:World)(R:Rd)(φ:Pl)(vs:List Value),Lb fo B0 w R φ H->Qb fo (K R φ H) args vs->call ix args H=some (v,H')->
  zC P (fo ix)/\Calls P (fo ix) ⟨vs⟩ w (PJ fo B0 w R φ H v H')
def TI(P:Program)(fo:Nat->FuncId):Op->Ka->Bool
 | .call {callee:= .value (.func _),args,..},.Sl _ ys=>Gr fo args.toList ys
 | .call {callee:= .value (.func f),args,..},.zf ix ys=>fo ix==f&&Gr fo args.toList ys
 | .call {callee:= .value (.func f),args,..},.EA ix ys=>fo ix==f&&Gr fo args.toList ys
 | .call {callee:= .value x,args,..},.Lx y ys=>Yc fo x y&&Gr fo args.toList ys
 |_,_=>false
def nR:Op->Ka->List (FuncId×(List PV->Option PV))
 | .call {callee:= .value (.func f),..},.Sl F _=>[(f,F)]
 |_,_=>[]
section
variable {P:Program}{fo:Nat->FuncId}{B0:qd}{call:Ab}
theorem oJ{f:FuncId}(hf:zC P f){caps args:Array Value}(w:World):(invoke (.fn (.func f) caps) args).run P w= .ok (.enter f (args++caps)) w:=by
 obtain⟨fn,c,h1,h2,h3⟩:=hf;have bS:¬fn.name= "runtime.NumGoroutine" :=by simpa using h3
 simp[invoke,callFunc,h1,h2,bS]
theorem hac{o:Oper}{op:Op}{Mq:Ka}(ho:o.op=op)(ga:TI P fo op Mq=true)(hd:∀ d∈nR op Mq,Nb P d.1 d.2)(hc:Pr P fo B0 call)
 {w:World} {R:Rd} {φ:Pl} {e:Tr} {H H':List fa} {a:Act} {v:AV} (hS:Lb fo B0 w R φ H) (hE:ye fo (K R φ H) e a) (Da:Ja call e H Mq=some (v,H')):nv P fo B0 o a w R φ H v H':=by
 intro next Q hn
 unfold TI at ga
 split at ga
 ·
  rename_i f args tys F ys;have hpf:=hd (f,F) (by simp[nR]);obtain⟨fB,hp⟩:=hpf;simp only[Ja,Hd] at Da;obtain⟨ps,h1,r,h2,h3⟩:=Da
  split at h3
  ·rename_i WM
   simp only[xb,Jb] at h3;obtain⟨rfl,rfl⟩:=h3;have hl:=Yx (R:=R) (φ:=φ) (H:=H) hE ga;have jd:(execOp a.eval o).run P w= .ok (.enter f ⟨args.toList.map a.eval⟩) w:=by
    have:=oJ (P:=P) fB (caps:= #[]) (args:= #[]++args.map a.eval) w;simp only[execOp,ho,resolve,Act.eval,Deferred.ofValue,Sem.run_bind,Sem.run_pure,Result.andThen_ok,this]
    congr 2
    apply Pk;simp
   unfold Oper.wp
   rw[jd,Oper.upon_enter];have fin:∀ (R1:Rd),(∀ b o v,R1 b o=some v->w.cell? ⟨b,o,none⟩=some v)->Cc R1 ps (args.toList.map a.eval)->(∀ {R':Rd}{v:Value},(∀ b o,b < w.heap.size->R' b o=R1 b o)->(∀ b o v,R' b o=some v->R1 b o=some v\/w.heap.size<=b)->Na R' r v->Na (fun b o=>if b < w.heap.size then R b o else R' b o) r v)->
    Calls P f ⟨args.toList.map a.eval⟩ w fun x Sn=>match x,Sn with
     | .returned v,Sn=>next (a.put o.dst v) Sn
     | .panicked chain,Sn=>Q (.panic chain) a Sn
     | .outgrown,_=>LetsOut Q:=by
    intro R1 hR1 Fi hres;refine Calls.mono (hp w R1 ps _ r hR1 Fi h2) ?_
    rintro e w' ⟨v,R',rfl,hb,hv,lN,hcell⟩;simp only;have hsub:Sub R (fun b o=>if b < w.heap.size then R b o else R' b o):=by intro b o v h;have:=dp (hS.sub b o v h);simp[this,h]
    have hk:=fun x u h=>K.sub (R:=R) (φ:=φ) (H:=H) hsub x u h
    refine hn v w' (fun b o=>if b < w.heap.size then R b o else R' b o) φ ⟨Lj hS.low hb.size,fun b o v h=> ?_,fun id ob hob=> ?_,hS.inj,fun b o hlt=> ?_,fun k hk=>Xn (hS.slt k hk) hb.size,hS.free⟩ (.atom _ _ (show Na _ _ _ from ?_)) hk (.Yy hb hS.low hS.slt)
    ·try dsimp only at h
     split at h
     ·rename_i hlt
      rw[Vk (hb.block b hlt)];exact hS.sub b o v h
     ·exact hcell b o v h
    ·have hO:=hS.obj id ob hob
     exact hO.qc (fun hl=>⟨hb.block _ (hO.lt hl),fun j hj=>by (try dsimp only);rw[if_pos (hO.lt hl)];exact hj⟩) rfl hk
    ·have:=hS.low
     try dsimp only
     rw[if_pos (by omega)];exact hS.Wd b o hlt
    ·refine hres lN (fun b o v h=> ?_) hv
     rcases yd b w.heap.size with hlt | hge
     ·rw[lN b o hlt] at h;exact .inl h
     ·exact .inr hge
   simp only[Nr] at WM;rcases WM with WM | vai
   ·refine fin R hS.sub (uar (w:=w) WM hl h1) fun {R' v} lN _ hv=>hv.mono fun b o u hu=> ?_
    try dsimp only
    split
    ·rename_i hlt;rw[<- lN b o hlt];exact hu
    ·exact hu
   ·exact fin (Rw w) (fun b o v h=>h) (xar hS hl h1) fun {R' v} _ _ hv=>qY vai hv
  ·cases h3
 ·
  rename_i f args tys ix ys;simp only[fb,beq_iff_eq] at ga;obtain⟨rfl,ga⟩:=ga;have hl:=Yx (R:=R) (φ:=φ) (H:=H) hE ga;simp only[Ja] at Da;obtain⟨fB,Di⟩:=hc ix _ H v H' w R φ _ hS hl Da;have jd:(execOp a.eval o).run P w= .ok (.enter (fo ix) ⟨args.toList.map a.eval⟩) w:=by
   have:=oJ (P:=P) fB (caps:= #[]) (args:= #[]++args.map a.eval) w;simp only[execOp,ho,resolve,Act.eval,Deferred.ofValue,Sem.run_bind,Sem.run_pure,Result.andThen_ok,this]
   congr 2
   apply Pk;simp
  unfold Oper.wp
  rw[jd,Oper.upon_enter];refine Calls.mono Di ?_
  rintro e w' ⟨u,R',φ',rfl,k1,k2,k3,k4⟩;exact hn u w' R' φ' k1 k2 k3 k4
 ·
  rename_i f args tys ix ys;simp only[fb,beq_iff_eq] at ga;obtain⟨rfl,ga⟩:=ga;have hl:=Yx (R:=R) (φ:=φ) (H:=H) hE ga;simp only[Ja,Hd] at Da;obtain⟨r,Da,h3⟩:=Da
  split at h3
  case isFalse=>cases h3
  injection h3 with h3
  subst h3;obtain⟨fB,Di⟩:=hc ix _ H v H' w R φ _ hS hl Da;have jd:(execOp a.eval o).run P w= .ok (.enter (fo ix) ⟨args.toList.map a.eval⟩) w:=by
   have:=oJ (P:=P) fB (caps:= #[]) (args:= #[]++args.map a.eval) w;simp only[execOp,ho,resolve,Act.eval,Deferred.ofValue,Sem.run_bind,Sem.run_pure,Result.andThen_ok,this]
   congr 2
   apply Pk;simp
  unfold Oper.wp
  rw[jd,Oper.upon_enter];refine Calls.mono Di ?_
  rintro e w' ⟨u,R',φ',rfl,k1,k2,k3,k4⟩;exact hn u w' R' φ' k1 k2 k3 k4
 ·
  rename_i x args tys y ys;simp only[fb] at ga;obtain⟨hx,ga⟩:=ga;have hl:=Yx (R:=R) (φ:=φ) (H:=H) hE ga;have ET:=ud (R:=R) (φ:=φ) (H:=H) hE hx;simp only[Ja] at Da
  split at Da
  ·rename_i ix caps hy
   rw[hy] at ET;have Xv:∃ us:List Value,a.eval x= .func (.func (fo ix)) #[] ⟨us⟩/\Qb fo (K R φ H) caps us:=by
    generalize a.eval x=vx at ET
    cases ET with
    |atom _ _ h=>exact h.elim
    |Ec _ _ us h=>exact⟨us,rfl,h⟩
   obtain⟨us,hu,hur⟩:=Xv;obtain⟨fB,Di⟩:=hc ix _ H v H' w R φ _ hS (hl.append hur) Da;have jd:(execOp a.eval o).run P w= .ok (.enter (fo ix) ⟨args.toList.map a.eval++us⟩) w:=by
    have:=oJ (P:=P) fB (caps:=⟨us⟩) (args:= #[]++args.map a.eval) w;simp only[execOp,ho,resolve,hu,Deferred.ofValue,Sem.run_bind,Sem.run_pure,Result.andThen_ok,this]
    congr 2
    apply Pk;simp
   unfold Oper.wp
   rw[jd,Oper.upon_enter];refine Calls.mono Di ?_
   rintro e w' ⟨u,R',φ',rfl,k1,k2,k3,k4⟩;exact hn u w' R' φ' k1 k2 k3 k4
  ·cases Da
 ·cases ga
mutual
def tH:PV->Value
 | .int k n=> .int k n
 | .bool b=> .bool b
 | .str s=> .string s
 | .Ic=> .pointer none
 | .oa=> .slice none 0 0
 | .Gk=> .map none
 | .Fk=> .nilFunc
 | .Eo=> .nilIface
 | .agg cs=> .agg ⟨an cs⟩
 | .Ba cs=> .tuple ⟨an cs⟩
 |_=>undef
def an:List PV->List Value
 | []=>[]
 |c::cs=>tH c::an cs
end
mutual
theorem LX{R:Rd}:∀ {p:PV},Eh p=true->Na R p (tH p)
 | .int _ _,_=> .int _ _
 | .bool _,_=> .bool _
 | .str _,_=> .str _
 | .Ic,_=> .Ic
 | .oa,_=> .oa
 | .Gk,_=> .Gk
 | .Fk,_=> .Fk
 | .Eo,_=> .Eo
 | .agg cs,h=> .agg _ _ (zR (by simpa[Eh] using h))
 | .Ba cs,h=> .Ba _ _ (zR (by simpa[Eh] using h))
 | .rp _ _,h=>by simp[Eh] at h
 | .lit _ _,h=>by simp[Eh] at h
 | .iface _ _,h=>by simp[Eh] at h
theorem zR{R:Rd}:∀ {ps:List PV},Gp ps=true->Cc R ps (an ps)
 | [],_=> .nil
 |p::ps,h=>by simp only[Gp,fb] at h;exact .cons _ _ _ _ (LX h.1) (zR h.2)
end
structure Dq(P:Program)(f:FuncId)(F:List PV->Option (List (List PV))):Prop where
 call:zC P f
 go:∀ (caps:List PV)(vs:List Value)(xs:List (List PV)),F caps=some xs->(∀ x∈xs,Gp x=true)->∀ (R:Rd)(l:Nat)(J:Nat->(Nat->Prop)->World->Prop)(Jx:World->Prop)(W:World),Cc R caps vs->(∀ b o v,R b o=some v->W.cell? ⟨b,o,none⟩=some v)->
  (∀ (i:Nat)(T:Nat->Prop)(A B:World)(T':Nat->Prop),J i T A->RowKit.Below A.heap.size A B->(∀ k,T' k->T k\/(A.heap.size<=k/\k < B.heap.size))->J i T' B)->(∀ A B,Jx A->RowKit.Below A.heap.size A B->Jx B)->
  (∀ i T A,J i T A->∃ R':Rd,(∀ b o v,R' b o=some v->A.cell? ⟨b,o,none⟩=some v)/\∀ p v,Na R p v->Na R' p v)->
  (∀ i x T A,xs[i]? =some x->J i T A->YieldAt Fence.wide 0 P l ⟨an x⟩ A fun e B=>(e= .returned (.bool true)/\J (i+1) T B/\∀ k,T k->B.heap[k]? =A.heap[k]?)\/(e= .returned (.bool false)/\Jx B))->
  J 0 (fun _=>False) W->Calls P f ⟨.func (.yield l) #[] #[]::vs⟩ W fun e B=>(∃ v,e= .returned v)/\((∃ T,J xs.length T B)\/Jx B)
def MT:Obj->Bool
 | .loop _=>true
 | .deferred _=>true
 |_=>false
theorem Uo.apart{w:World}{R:Rd}{φ:Pl}{H:List fa}{id:Nat}{o:fa}(h:Uo fo B0 w R φ H id o)(hl:im o){l:Nat}{ob:Obj}(hb:w.heap[l]? =some ob)(hk:MT ob=true):(φ id).1≠l:=by
 have cells:∀ arr,xg w (φ id).1 arr->(φ id).1≠l:=by rintro arr ⟨ty,fz,h1,_⟩ e;rw[e,hb] at h1;cases h1;cases hk
 cases o with
 |box c=>obtain⟨_,_,_,arr,h3,_⟩:=h;exact cells arr h3
 |seq sz ag c fl nl=>obtain⟨_,_,arr,h3,_⟩:=h.2.2.2.2 hl;exact cells arr h3
 |tok sz n nl=>obtain⟨_,_,arr,h3,_⟩:=h.2.2 hl;exact cells arr h3
 |map es=>obtain⟨_,_,te,clk,h3,_⟩:=h;intro e;rw[e,hb] at h3;cases h3;cases hk
 |dead=>exact hl.elim
theorem Lb.later{A B:World}{R:Rd}{φ:Pl}{H:List fa}(h:Lb fo B0 A R φ H)(hb:RowKit.Below A.heap.size A B):Lb fo B0 B R φ H:=
 ⟨Lj h.low hb.size,fun b o v hv=>by have:=h.sub b o v hv;rw[Vk (hb.block b (dp this))];exact this,
  fun id o ho=>(h.obj id o ho).qc (fun hl=>⟨hb.block _ ((h.obj id o ho).lt hl),fun _ hj=>hj⟩) rfl fun _ _ h=>h,h.inj,h.Wd,fun k hk=>Xn (h.slt k hk) hb.size,h.free⟩
theorem Lb.dO{A:World}{R:Rd}{φ:Pl}{H:List fa}(h:Lb fo B0 A R φ H){l:Nat}{ob:Obj}(hb:A.heap[l]? =some ob)(hk:MT ob=true)(o':Obj):Lb fo B0 (A.putObj l o') R φ H:=by
 have ne:∀ b o v,R b o=some v->b≠l:=by
  intro b o v hv e;have:=h.sub b o v hv
  rw[e] at this;simp only[World.cell?,hb] at this;cases ob <;> first | (cases hk;done) | simp at this
 refine⟨by rw[World.putObj_size];exact h.low,fun b o v hv=>by have:=h.sub b o v hv;rw[Vk (World.putObj_heap_other (ne b o v hv))];exact this,
  fun id o ho=>(h.obj id o ho).qc (fun hl=>⟨World.putObj_heap_other ((h.obj id o ho).apart hl hb hk),fun _ hj=>hj⟩) rfl fun _ _ h=>h,h.inj,h.Wd,fun k hk=>by rw[World.putObj_size];exact h.slt k hk,h.free⟩
theorem Od.put{w A:World}(h:Od B0 w A)(h0:B0.n<=w.heap.size)(hs:∀ k,B0.S k->k < w.heap.size){l:Nat}(hl:w.heap.size<=l)(o':Obj):Od B0 w (A.putObj l o'):=
 ⟨⟨h.os,h.tape,h.output,by rw[World.putObj_size];exact h.size,fun k hk=>by rw[World.putObj_heap_other (by omega)];exact h.block k hk⟩,
  fun k o h1 h2=>by rw[World.putObj_heap_other (by have:=er h1;omega)];exact h.qc k o h1 h2,
  fun k hk=>by rw[World.putObj_heap_other (by have:=hs k hk;omega)];exact h.held k hk⟩
theorem Od.later{w A B:World}(h:Od B0 w A)(h0:B0.n<=w.heap.size)(hs:∀ k,B0.S k->k < w.heap.size)(hb:RowKit.Below A.heap.size A B):Od B0 w B:=
 h.trans (.Yy hb (Lj h0 h.size) fun k hk=>Xn (hs k hk) h.size)
def qd.and(B:qd)(T:Nat->Prop):qd:=⟨B.n,B.R,fun k=>B.S k\/T k⟩
theorem Lb.weaken{T:Nat->Prop}{A:World}{R:Rd}{φ:Pl}{H:List fa}(h:Lb fo (B0.and T) A R φ H):Lb fo B0 A R φ H:=
 ⟨h.low,h.sub,fun id o ho=>by have:=h.obj id o ho;cases o <;> exact this,h.inj,h.Wd,fun k hk=>h.slt k (.inl hk),fun i hi hs=>h.free i hi (.inl hs)⟩
theorem Lb.grow{T T':Nat->Prop}{A B:World}{R:Rd}{φ:Pl}{H:List fa}(h:Lb fo (B0.and T) A R φ H)(hb:RowKit.Below A.heap.size A B)(ht:∀ k,T' k->T k\/(A.heap.size<=k/\k < B.heap.size)):Lb fo (B0.and T') B R φ H:=by
 have h':=h.later hb
 refine⟨h'.low,h'.sub,fun id o ho=>by have:=h'.obj id o ho;cases o <;> exact this,h'.inj,h'.Wd,fun k hk=> ?_,fun i hi hs=> ?_⟩
 ·rcases hk with hk | hk
  ·exact h'.slt k (.inl hk)
  ·rcases ht k hk with hk | hk
   ·exact h'.slt k (.inr hk)
   ·exact hk.2
 ·rcases hs with hs | hs
  ·exact h.free i hi (.inl hs)
  ·rcases ht _ hs with hs | hs
   ·exact h.free i hi (.inr hs)
   ·obtain⟨o,ho,hl⟩:=hi
    have:=(h.obj i o ho).lt hl
    omega
theorem Od.weaken{T:Nat->Prop}{w A:World}(h:Od (B0.and T) w A):Od B0 w A:=⟨h.toBelow,h.qc,fun k hk=>h.held k (.inl hk)⟩
theorem O6(f:List PV->List fa->Option (Ex×St)):∀ (pre post:List (List PV)){H H1:List fa},Fj f pre H=some (.norm,H1)->Fj f (pre++post) H=Fj f post H1:=by
 intro pre
 induction pre with
 |nil=>intro post H H1 h;simp only[Fj] at h;injection h with h;injection h with _ h;subst h;rfl
 |cons x pre ih=>
  intro post H H1 h;simp only[Fj,Sg] at h ⊢;cases hf:f x H with
  |none=>rw[hf] at h;cases h
  |some r=>
   obtain⟨ex,s⟩:=r;rw[hf] at h;cases ex with
   |norm=>exact ih post h
   |exit id=>simp only[Qn] at h;injection h with h;injection h with h _;cases h
   |ret=>simp only[Qn] at h;injection h with h;injection h with h _;cases h
   |goto l=>simp only[Qn] at h;cases h
theorem aar{g:List fa->Option (Ex×List fa)}{ex:Ex}{s:St}{r:Ex×List fa}(hx:ex≠ .norm)(h:Qn g (some (ex,s))=some r):r=(ex,s.H):=by
 cases ex with
 |norm=>exact absurd rfl hx
 |exit id=>simp only[Qn] at h;injection h with h;exact h.symm
 |ret=>simp only[Qn] at h;injection h with h;exact h.symm
 |goto l=>simp only[Qn] at h;cases h
def az(P:Program)(fo:Nat->FuncId)(nt:Nat)(ops:Array Oper):List Oper->List Vb->Bool
 | [],[]=>true
 |o::os,ao::Wo=>TB nt ops o ao&&(VI P fo o.op ao.op||TI P fo o.op ao.op)&&(!ao.pr||decide (ao.op.cls<=1))&&az P fo nt ops os Wo
 |_,_=>false
def LA:List Oper->List Vb->List (FuncId×(List PV->Option PV))
 |o::os,ao::Wo=>nR o.op ao.op++LA os Wo
 |_,_=>[]
def Ya.plain:Ya->Bool
 | .scope _=>false
 | .jumps _ _ _=>false
 | .range _ _ _ _ _ _=>false
 | .gC _ _ _ _ _ _=>false
 | .seq a b=>a.plain&&b.plain
 | .cond _ a b=>a.plain&&b.plain
 | .block _ b=>b.plain
 | .loop _ b=>b.plain
 | .ml _ b=>b.plain
 | .ghost _ b=>b.plain
 |_=>true
def Ya.Hk:Ya->Bool
 | .goto _=>false
 | .seq a b=>a.Hk&&b.Hk
 | .cond _ a b=>a.Hk&&b.Hk
 | .block _ b=>b.Hk
 | .loop _ b=>b.Hk
 | .ml _ b=>b.Hk
 | .ghost _ b=>b.Hk
 | .scope b=>b.Hk
 |_=>true
def RI(nt:Nat):List Oper->List (Nat×Nat)->Bool
 | [],[]=>true
 |⟨some d,.assign (.tmp t),_,_,_,none⟩::os,(d',t')::r=>d==d'&&t==t'&&decide (d < nt)&&RI nt os r
 |_,_=>false
def SI(nt:Nat):Code->List (Nat×Nat)->Bool
 | .region _ ops false,r=>RI nt ops.toList r
 | .skip,[]=>true
 |_,_=>false
def pU(P:Program)(fo:Nat->FuncId)(nt:Nat):Code->List Vb->Bool
 | .region _ ops false,pre=>az P fo nt ops ops.toList pre
 |_,_=>false
def zX:Code->List Vb->List (FuncId×(List PV->Option PV))
 | .region _ ops _,pre=>LA ops.toList pre
 |_,_=>[]
def Xe(P:Program)(fo:Nat->FuncId)(nt:Nat):Code->Ya->Bool
 |c,.ghost _ ac=>Xe P fo nt c ac
 | .skip,.skip=>true
 | .label _,.skip=>true
 | .scope b,.scope b'=>b'.Hk&&Xe P fo nt b b'
 | .scope c,.jumps l a b=>Xe P fo nt c a&&(match findLabel c l with | some r=>Xe P fo nt r b | none=>false)
 | .goto l,.goto l'=>l==l'
 | .region _ ops draw,.region aops=>az P fo nt ops ops.toList aops&&(!draw||(P.follows .mixedOrders&&oU ops aops))
 | .seq a b,.seq a' b'=>Xe P fo nt a a'&&Xe P fo nt b b'
 | .cond c a b,.cond c' a' b'=>Yc fo c c'&&Xe P fo nt a a'&&Xe P fo nt b b'
 | .block id b,.block id' b'=>id==id'&&Xe P fo nt b b'
 | .loop b,.loop _ b'=>Xe P fo nt b b'
 | .loop b,.ml _ b'=>Xe P fo nt b b'
 | .exit id,.exit id'=>id==id'
 | .ret,.ret=>true
 | .rangeFunc g ps assign body,.range _ _ g' qF asg b=>Yc fo g g'&&ps.toList==qF&&qF.all (fun t=>decide (t < nt))&&SI nt assign asg&&Xe P fo nt body b&&b.plain
 | .rangeFunc g ps assign body,.gC _ _ g' qF pre b=>Yc fo g g'&&ps.toList==qF&&qF.all (fun t=>decide (t < nt))&&pU P fo nt assign pre&&Xe P fo nt body b&&b.plain
 |_,_=>false
def Vg:Code->Ya->List (FuncId×(List PV->Option PV))
 |c,.ghost _ ac=>Vg c ac
 | .region _ ops _,.region aops=>LA ops.toList aops
 | .seq a b,.seq a' b'=>Vg a a'++Vg b b'
 | .cond _ a b,.cond _ a' b'=>Vg a a'++Vg b b'
 | .block _ b,.block _ b'=>Vg b b'
 | .scope b,.scope b'=>Vg b b'
 | .scope c,.jumps l a b=>Vg c a++(match findLabel c l with | some r=>Vg r b | none=>[])
 | .loop b,.loop _ b'=>Vg b b'
 | .loop b,.ml _ b'=>Vg b b'
 | .rangeFunc _ _ _ b,.range _ _ _ _ _ b'=>Vg b b'
 | .rangeFunc _ _ c b,.gC _ _ _ _ pre b'=>zX c pre++Vg b b'
 |_,_=>[]
def Ag:Ya->List (Nat×(List PV->Option (List (List PV))))
 | .range ix F _ _ _ b=>(ix,F)::Ag b
 | .gC ix F _ _ _ b=>(ix,F)::Ag b
 | .seq a b=>Ag a++Ag b
 | .cond _ a b=>Ag a++Ag b
 | .block _ b=>Ag b
 | .scope b=>Ag b
 | .jumps _ a b=>Ag a++Ag b
 | .loop _ b=>Ag b
 | .ml _ b=>Ag b
 | .ghost _ b=>Ag b
 |_=>[]
theorem Fam{P:Program}{fo:Nat->FuncId}{op:Op}{Mq:Ka}(h:VI P fo op Mq=true):∀ c,op≠ .defer c:=by
 rintro c rfl;cases Mq <;> simp[VI] at h
theorem Eam{P:Program}{fo:Nat->FuncId}{op:Op}{Mq:Ka}(h:TI P fo op Mq=true):∀ c,op≠ .defer c:=by
 rintro c rfl;cases Mq <;> simp[TI] at h
theorem I8{nt:Nat}{ops:Array Oper}{aops:List Vb}(hc:Pr P fo B0 call)(ga:az P fo nt ops ops.toList aops=true)(hd:∀ d∈LA ops.toList aops,Nb P d.1 d.2):lG P fo B0 call nt ops aops:=by
 have key:∀ {os:List Oper}{Wo:List Vb},az P fo nt ops os Wo=true->(∀ d∈LA os Wo,Nb P d.1 d.2)->Wo.length=os.length/\∀ (i:Nat)(o:Oper)(ao:Vb),os[i]? =some o->Wo[i]? =some ao->TB nt ops o ao=true/\vP P fo B0 call o ao/\∀ c,o.op≠ .defer c:=by
  intro os
  induction os with
  |nil=>
   intro Wo h _;cases Wo with
   |nil=>exact⟨rfl,fun i o ao h=>by simp at h⟩
   |cons _ _=>simp[az] at h
  |cons o os ih=>
   intro Wo h hd;cases Wo with
   |nil=>simp[az] at h
   |cons ao Wo=>
    simp only[az,fb,Nr,Lo,decide_eq_true_eq] at h;obtain⟨⟨⟨h1,h2⟩,Yl⟩,h3⟩:=h;obtain⟨k1,k2⟩:=ih h3 fun d Lg=>hd d (by simp[LA,Lg]);refine⟨by simp[k1],fun i x y hx hy=> ?_⟩;cases i with
    |zero=>
     simp at hx hy;subst hx;subst hy;refine⟨h1,?_,h2.elim Fam Eam⟩;intro w R φ e H H' a v hS hE Da;have Da:Ja call e H ao.op=some (v,H'):=by
      unfold oi at Da;cases hp:ao.pr with
      |false=>simpa[hp] using Da
      |true=>
       simp only[hp,cond_true] at Da;obtain⟨k,rfl⟩:=Z4 Da;have Yl:ao.op.cls<=1:=Yl.resolve_left (by rw[hp];simp)
       have:ao.op.cls=0\/ao.op.cls=1:=by omega
       rcases this with h0 | h0
       ·exact (XW h0 k).2 H'
       ·exact (HL h0 k).2 H' (fun id o h=>by simp at h)
     rcases h2 with h2 | h2
     ·exact lae rfl h2 hS hE Da
     ·exact hac rfl h2 (fun d Lg=>hd d (by simp[LA,Lg])) hc hS hE Da
    |succ i=>exact k2 i x y (by simpa using hx) (by simpa using hy)
 obtain⟨k1,k2⟩:=key ga hd;exact⟨by simpa using k1,fun i o ao h1 h2=>(k2 i o ao (by simpa using h1) h2).1,fun i o ao h1 h2=>(k2 i o ao (by simpa using h1) h2).2.1,fun i o ao h1 h2=>(k2 i o ao (by simpa using h1) h2).2.2⟩
def Ex.to:Ex->Exit
 | .norm=> .normal
 | .exit id=> .exit id
 | .ret=> .ret
 | .goto l=> .goto l
theorem Kr{f:St->Option (Ex×St)}{r:Option (Ex×St)}{x:Ex×St}(h:Pm f r=some x):(∃ s,r=some (.norm,s)/\f s=some x)\/(r=some x/\x.1≠ .norm):=by
 cases r with
 |none=>cases h
 |some y=>
  obtain⟨ex,s⟩:=y;cases ex with
  |norm=>exact .inl ⟨s,rfl,h⟩
  |exit id=>simp only[Pm,xb] at h;subst h;exact .inr ⟨rfl,by simp⟩
  |ret=>simp only[Pm,xb] at h;subst h;exact .inr ⟨rfl,by simp⟩
  |goto l=>simp only[Pm,xb] at h;subst h;exact .inr ⟨rfl,by simp⟩
theorem NO{f:St->Option (Ex×St)}{r:Option St}{x:Ex×St}(h:zq f r=some x):∃ s,r=some s/\f s=some x:=by
 cases r with
 |none=>cases h
 |some s=>exact⟨s,rfl,h⟩
theorem U1{k:AV->Value->Prop}{e:Tr}{a:Act}(hE:ye fo k e a):∀ (l:List Nat),ye fo k (Gf e l) a
 | []=>fun t=> .undef _
 |x::l=>fun t=>by
  simp only[Gf];rw[Tr.na]
  split
  ·rename_i ht;subst ht;exact hE t
  ·exact U1 hE l t
theorem e9{w0 w:World}{R0 R:Rd}{φ0 φ:Pl}{H0:List fa}{a0 a:Act}{s:St}(l:List Nat)(g:ch fo B0 w0 R0 φ0 H0 a0 w R φ s a):ch fo B0 w0 R0 φ0 H0 a0 w R φ (tidy l s) a:=
 ⟨g.rel,U1 g.env l,g.mono,g.below,g.size,g.defers⟩
theorem Jaa{ro:Option Nat}{n nt:Nat}{assign:Code}{asg:List (Nat×Nat)}(ga:SI nt assign asg=true){k:AV->Value->Prop}{e:Tr}{a:Act}{w:World}(hE:ye fo k e a)(hn:a.tmps.size=nt){Q:Exit->Act->World->Prop}
 (hq:∀ a',ye fo k (Xo asg e) a'->a'.tmps.size=nt->Q .normal a' w):assign.wpIn (ak ro) n P Q a w:=by
 have key:∀ (ops:Array Oper)(os:List Oper)(L:List Nat)(r:List (Nat×Nat)),L.map (ops[·]?)=os.map some->RI nt os r=true->∀ {e:Tr}{a:Act},ye fo k e a->a.tmps.size=nt->
  (∀ a',ye fo k (Xo r e) a'->a'.tmps.size=nt->Q .normal a' w)->wpOpsIn (ak ro) n P ops Q L a w:=by
  intro ops os
  induction os with
  |nil=>
   intro L r hL ga e a hE hn hq;cases L with
   |cons _ _=>simp at hL
   |nil=>
    cases r with
    |nil=>exact hq a hE hn
    |cons _ _=>simp[RI] at ga
  |cons o os ih=>
   intro L r hL ga e a hE hn hq;cases L with
   |nil=>simp at hL
   |cons i L=>
    simp only[Pf,bG] at hL;obtain⟨hi,hL⟩:=hL;unfold RI at ga
    split at ga
    ·rename_i heq;simp at heq
    ·rename_i d t ty po af eF d' t' r' heq
     simp only[bG] at heq;obtain⟨rfl,rfl⟩:=heq;simp only[fb,beq_iff_eq,decide_eq_true_eq] at ga;obtain⟨⟨⟨rfl,rfl⟩,hlt⟩,ga⟩:=ga;rw[wpOpsIn_cons];unfold wpOpIn;simp only[hi,Region.wanted,if_true];refine U9 ro (by simp) ?_;show Oper.upon _ _ _ _ _ _
     simp only[execOp,Sem.run_pure,Oper.upon];refine ih L r' hL ga (e:=e.set d (e.get t)) ?_ (by simp[Act.put,hn]) hq;exact hE.put (some d) (fun t ht=>by injection ht with ht;subst ht;rw[hn];exact hlt) (hE t)
    ·cases ga
 cases assign with
 |region id ops draw=>
  cases draw with
  |true=>simp[SI] at ga
  |false=>
   refine wpIn_region (key ops ops.toList (List.range ops.size) _ ?_ ga hE hn hq);apply Nl;intro i;rcases yd i ops.size with h | h
   ·simp[h]
   ·simp[h]
 |skip=>
  cases asg with
  |nil=>exact wpIn_skip (hq a hE hn)
  |cons _ _=>simp[SI] at ga
 |_=>simp[SI] at ga
theorem Xap{k:AV->Value->Prop}(hk:∀ p v,(∀ R:Rd,Na R p v)->k (.pv p) v){nt:Nat}:∀ (ps:List Nat)(x:List PV){e:Tr}{a:Act},ye fo k e a->a.tmps.size=nt->ps.all (fun t=>decide (t < nt))=true->Gp x=true->
 ye fo k (om ps x e) {tmps:=(ps.zip (an x)).foldl (fun t (p,v)=>t.setIfInBounds p v) a.tmps,defers:=a.defers}/\((ps.zip (an x)).foldl (fun (t:Array Value)(p,v)=>t.setIfInBounds p v) a.tmps).size=nt:=by
 intro ps
 induction ps with
 |nil=>intro x e a hE hn _ _;exact⟨by simpa[om] using hE,by simpa using hn⟩
 |cons p ps ih=>
  intro x e a hE hn hp hx;cases x with
  |nil=>exact⟨by simpa[om,an] using hE,by simpa[an] using hn⟩
  |cons y ys=>
   simp only[tm,fb,decide_eq_true_eq] at hp;simp only[Gp,fb] at hx;have h1:=hE.put (some p) (fun t ht=>by injection ht with ht;subst ht;rw[hn];exact hp.1) (v:= .pv y) (u:=tH y) (.atom _ _ (hk _ _ fun R=>LX hx.1))
   exact ih ys (e:=e.set p (.pv y)) (a:=a.put (some p) (tH y)) h1 (by simp[Act.put,hn]) hp.2 hx.2
def Ex.code:Ex->Code
 | .norm=> .skip
 | .exit id=> .exit id
 | .ret=> .ret
 | .goto l=> .goto l
theorem N6{nt:Nat}{ix:Nat}{F:List PV->Option (List (List PV))}{g:AO}{ps:List Nat}{pre:St->Option St}{b:Ya}{g1:Operand}{ps1:Array Tmp}{assign body:Code}
 (h1:Yc fo g1 g=true) (h2:ps1.toList=ps) (h3:ps.all (fun t=>decide (t < nt))=true) (hit:Dq P (fo ix) F)
 (hasg:∀ (l:Nat){B0:qd}{w:World}{R:Rd}{φ:Pl}{s s1:St}{a:Act}{Q:Exit->Act->World->Prop},Lb fo B0 w R φ s.H->ye fo (K R φ s.H) s.env a->a.tmps.size=nt->pre s=some s1->
  (∀ a' w' R' φ',Lb fo B0 w' R' φ' s1.H->ye fo (K R' φ' s1.H) s1.env a'->(∀ x u,K R φ s.H x u->K R' φ' s1.H x u)->Od B0 w w'->a'.tmps.size=nt->Q .normal a' w')->assign.wpIn (ak (some l)) 0 P Q a w)
 (hbody:∀ (l:Nat){B0:qd}{w:World}{R:Rd}{φ:Pl}{s s':St}{ex:Ex}{a:Act}{Q:Exit->Act->World->Prop},Lb fo B0 w R φ s.H->ye fo (K R φ s.H) s.env a->a.tmps.size=nt->ua call b s=some (ex,s')->
  (∀ a' w' R' φ',ch fo B0 w R φ s.H a w' R' φ' s' a'->Q ex.to a' w')->body.wpIn (ak (some l)) 0 P Q a w)
 {B0:qd} {w:World} {R:Rd} {φ:Pl} {s s':St} {ex:Ex} {a:Act} {nn:Nat} {Q:Exit->Act->World->Prop} (hS:Lb fo B0 w R φ s.H) (hE:ye fo (K R φ s.H) s.env a) (hn:a.tmps.size=nt)
 (h:iz (fun e H=>zq (ua call b) (pre ⟨e,H⟩)) ps [] s (lz ix F ps.length (g.ev s.env))=some (ex,s'))
 (hq:∀ a' w' R' φ',ch fo B0 w R φ s.H a w' R' φ' s' a'->Q ex.to a' w'):(Code.rangeFunc g1 ps1 assign body).wpIn (ak none) nn P Q a w:=by
 obtain⟨xs,cs,us,oe,hLR,hF,Rh,hres⟩:∃ xs cs us,a.eval g1= .func (.func (fo ix)) #[] ⟨us⟩/\Cc R cs us/\F cs=some xs/\(∀ x∈xs,x.length=ps.length/\Gp x=true)/\
  VD s.env (Fj (fun x H=>zq (ua call b) (pre ⟨om ps x s.env,H⟩)) xs s.H)=some (ex,s'):=by
  have hg:=ud (R:=R) (φ:=φ) (H:=s.H) hE h1;cases hv:lz ix F ps.length (g.ev s.env) with
  |none=>rw[hv] at h;cases h
  |some xs=>
   rw[hv] at h;unfold lz at hv
   split at hv
   ·rename_i i caps he
    split at hv
    ·rename_i hi
     subst hi;simp only[Hd] at hv;obtain⟨cs,e1,ys,e2,e3⟩:=hv
     split at e3
     ·rename_i Rh
      injection e3 with e3;subst e3
      rw[he] at hg;generalize a.eval g1=vx at hg
      cases hg with
      |atom _ _ h=>exact h.elim
      |Ec _ _ us hl=>
       refine⟨ys,cs,us,rfl,Tt e1 hl,e2,fun x hx=> ?_,h⟩;have:=Df.1 Rh x hx
       simpa[qU] using this
     ·cases e3
    ·cases hv
   ·cases hv
 obtain⟨f,hf⟩:∃ f,f=fun (x:List PV)(H:List fa)=>zq (ua call b) (pre ⟨om ps x s.env,H⟩):=⟨_,rfl⟩;rw[<- hf] at hres;obtain⟨H',hR,rfl⟩:∃ H',Fj f xs s.H=some (ex,H')/\s'=⟨s.env,H'⟩:=by
  cases hr:Fj f xs s.H with
  |none=>rw[hr] at hres;cases hres
  |some r=>rw[hr] at hres;obtain⟨ex1,H1⟩:=r;simp only[VD,xb,Jb] at hres;obtain⟨rfl,rfl⟩:=hres;exact⟨H1,rfl,rfl⟩
 have Si:=hS.low
 show (Code.rangeFunc g1 ps1 assign body).wpIn Fence.wide nn P Q a w
 refine wpIn_rangeFunc ?_;intro fn _;obtain⟨rec,Gu⟩:∃ rec:LoopState->Option Code->Loop,rec=fun st pe=>{state:=st,pending:=pe,fn,tmps:=a.tmps,params:=ps1,assign,body,defers:=w.heap.size}:=⟨_,rfl⟩;obtain⟨W1,KM⟩:∃ W1,(w.alloc (.deferred (some []))).alloc (.loop (rec .ready none))=W1:=⟨_,rfl⟩
 have NY:W1.heap[w.heap.size+1]? =some (.loop (rec .ready none)):=by rw[<- KM];have:=World.alloc_heap_new (w.alloc (.deferred (some []))) (.loop (rec .ready none));rwa [World.size_alloc] at this
 have hK1:W1.heap[w.heap.size]? =some (.deferred (some [])):=by rw[<- KM];exact (RowKit.Below.heap_alloc _ _ _ (by simp)).trans (World.alloc_heap_new w _)
 have ff:RowKit.Below w.heap.size w W1:=by rw[<- KM];exact (((RowKit.Below.refl _ w).alloc (gb _) _).alloc (by simp) _)
 have Paj:∀ v:Array Value,v= #[.func (.yield (w.heap.size+1)) #[] #[]]->v++(⟨us⟩:Array Value)=⟨.func (.yield (w.heap.size+1)) #[] #[]::us⟩:=by intro v hv;subst hv;apply Pk;simp
 refine⟨w.heap.size+1,[mark w.heap.size],W1,{target:= .fn (.func (fo ix)) ⟨us⟩,args:= #[.func (.yield (w.heap.size+1)) #[] #[]]},W1,fo ix,
  ⟨.func (.yield (w.heap.size+1)) #[] #[]::us⟩,W1,?_,?_,fun _ _=>trivial,?_,(fun h=>by cases h),callsIn_wide.2 ?_⟩
 ·rw[<- KM,Gu];exact run_enterLoop_outer _ _ _ _ _
 ·simp only[resolve,oe]
  simp[go_sem]
 ·rw[<- Paj _ rfl];exact oJ hit.call _
 ·
  have KE:=hS.slt
  refine (hit.go cs us xs hF (fun x hx=>(Rh x hx).2) R (w.heap.size+1)
   (fun i T A=>∃ H R' φ',Fj f (xs.take i) s.H=some (.norm,H)/\Lb fo (B0.and T) A R' φ' H/\(∀ x u,K R φ s.H x u->K R' φ' H x u)/\Od B0 w A/\A.heap[w.heap.size+1]? =some (.loop (rec .ready none))/\A.heap[w.heap.size]? =some (.deferred (some []))/\∀ k,T k->w.heap.size+2<=k)
   (fun A=>∃ R' φ',ex≠ .norm/\Lb fo B0 A R' φ' H'/\(∀ x u,K R φ s.H x u->K R' φ' H' x u)/\Od B0 w A/\A.heap[w.heap.size+1]? =some (.loop (rec .done (some ex.code)))/\A.heap[w.heap.size]? =some (.deferred (some [])))
   W1 hLR (hS.later ff).sub ?_ ?_ ?_ ?_ ?_).mono ?_
  ·rintro i T A B T' ⟨H,R',φ',j1,j2,j3,j4,j5,j6,j7⟩ hb ht
   refine⟨H,R',φ',j1,j2.grow hb ht,j3,j4.later Si KE hb,by rw[hb.block _ (er j5)];exact j5,by rw[hb.block _ (er j6)];exact j6,fun k hk=> ?_⟩;rcases ht k hk with h | h
   ·exact j7 k h
   ·have:=er j5
    omega
  ·rintro A B ⟨R',φ',j1,j2,j3,j4,j5,j6⟩ hb
   exact⟨R',φ',j1,j2.later hb,j3,j4.later Si KE hb,by rw[hb.block _ (er j5)];exact j5,by rw[hb.block _ (er j6)];exact j6⟩
  ·rintro i T A ⟨H,R',φ',j1,j2,j3,j4,j5,j6,j7⟩
   exact⟨R',j2.sub,fun p v h=>j3 (.pv p) v h⟩
  ·
   rintro i x T A hx ⟨H,R',φ',j1,j2,j3,j4,j5,j6,j7⟩;obtain⟨hlen,hfl⟩:=Rh x (vj hx);have XZ:xs=xs.take i++x::xs.drop (i+1):=by
    have hlt:=getElem?_lt hx;rw[Rb hlt] at hx;injection hx with hx
    rw[<- hx,<-Hh hlt,Wr]
   have lr:Fj f (x::xs.drop (i+1)) H=some (ex,H'):=by rw[<- O6 f _ _ j1,<-XZ];exact hR
   simp only[Fj] at lr;have ib:(an x).length=ps.length:=by
    rw[<- hlen];clear lr XZ hx hfl hlen
    induction x with
    |nil=>rfl
    |cons y ys ih=>simp[an,ih]
   have Ti:ps1.size=ps.length:=by rw[<- h2];simp
   have hy:=run_yield (P:=P) (args:=⟨an x⟩) j5 (by rw[Gu];simp[ib,Ti]);rw[Gu] at hy;refine⟨_,_,_,_,hy,roundIn_of_wpIn (F:=Fence.wide) trivial ?_⟩;clear hy;have zak:(ps1.zip (⟨an x⟩:Array Value)).foldl (fun t (p,v)=>t.setIfInBounds p v) a.tmps=(ps.zip (an x)).foldl (fun t (p,v)=>t.setIfInBounds p v) a.tmps:=by rw[<- Array.foldl_toList,Array.toList_zip,h2]
   have gS:ye fo (K R' φ' H) s.env {tmps:=a.tmps,defers:=[]}:=fun t=>(hE t).mono j3
   obtain⟨iS,yo⟩:=Xap (fo:=fo) (k:=K R' φ' H) (fun p v hp=>hp R') ps x gS hn h3 hfl;show Code.wpIn (ak (some (w.heap.size+1))) 0 P assign _ _ _
   dsimp only;rw[zak];obtain⟨s2,wc⟩:∃ s2,pre ⟨om ps x s.env,H⟩=some s2:=by
    cases hp:pre ⟨om ps x s.env,H⟩ with
    |none=>rw[hf] at lr;simp only[hp,zq] at lr;cases lr
    |some s2=>exact⟨s2,rfl⟩
   refine hasg _ j2 iS yo wc fun a1 A1 R1 φ1 i2 mE i3 i4 gT=> ?_;have i5:=i4.qc _ _ j5 rfl
   have i6:=i4.qc _ _ j6 rfl
   have i7:=j4.trans i4.weaken
   refine⟨_,run_beginRound i5 (by rw[Gu]),?_⟩;have hlt:w.heap.size+1 < A1.heap.size:=er i5
   have Mh:(A1.putObj (w.heap.size+1) (.loop {rec .ready none with state:= .busy})).heap[w.heap.size+1]? =some (.loop {rec .ready none with state:= .busy}):=World.putObj_heap_same hlt
   have Qe:(A1.putObj (w.heap.size+1) (.loop {rec .ready none with state:= .busy})).heap[w.heap.size]? =some (.deferred (some [])):=(World.putObj_heap_other (by omega)).trans i6
   have Vv:=(i2.dO i5 rfl (.loop {rec .ready none with state:= .busy}));have Vd:=i7.put Si KE (Nat.le_succ _) (.loop {rec .ready none with state:= .busy})
   have hT2:∀ k,T k->(A1.putObj (w.heap.size+1) (.loop {rec .ready none with state:= .busy})).heap[k]? =A.heap[k]? :=fun k hk=>(World.putObj_heap_other (by have:=j7 k hk;omega)).trans (i4.held k (.inr hk))
   generalize A1.putObj (w.heap.size+1) (.loop {rec .ready none with state:= .busy})=A2 at *
   cases uo:f x H with
   |none=>rw[uo] at lr;cases lr
   |some r=>
    obtain⟨ex1,s1⟩:=r;rw[uo] at lr;have Da:ua call b s2=some (ex1,s1):=by rw[hf] at uo;simp only[wc,zq] at uo;exact uo
    refine hbody _ Vv mE gT Da fun a3 W3 R3 φ3 gg=> ?_;have lI:=gg.below.qc _ _ Mh rfl
    have hk3:=gg.below.qc _ _ Qe rfl
    have hS4:=gg.rel
    have cB:=Vd.trans gg.below.weaken
    have Tai:=er lI;have hT3:∀ k,T k->W3.heap[k]? =A.heap[k]? :=fun k hk=>(gg.below.held k (.inr hk)).trans (hT2 k hk)
    have fT:∀ x u,K R φ s.H x u->K R3 φ3 s1.H x u:=fun x u hx=>gg.mono _ _ (i3 x u (j3 x u hx))
    have fin:∀ (jump:Option Code),(Instr.endRound (w.heap.size+1) jump).run P W3= .ok (.bool jump.isNone) (W3.putObj (w.heap.size+1) (.loop (rec (if jump.isNone then .ready else .done) jump)))/\
     Lb fo (B0.and T) (W3.putObj (w.heap.size+1) (.loop (rec (if jump.isNone then .ready else .done) jump))) R3 φ3 s1.H/\Od B0 w (W3.putObj (w.heap.size+1) (.loop (rec (if jump.isNone then .ready else .done) jump)))/\
     (W3.putObj (w.heap.size+1) (.loop (rec (if jump.isNone then .ready else .done) jump))).heap[w.heap.size+1]? =some (.loop (rec (if jump.isNone then .ready else .done) jump))/\
     (W3.putObj (w.heap.size+1) (.loop (rec (if jump.isNone then .ready else .done) jump))).heap[w.heap.size]? =some (.deferred (some []))/\
     ∀ k,T k->(W3.putObj (w.heap.size+1) (.loop (rec (if jump.isNone then .ready else .done) jump))).heap[k]? =A.heap[k]? :=fun jump=>by
     have:=run_endRound (P:=P) jump lI;rw[Gu] at this;refine⟨?_,hS4.dO lI rfl _,cB.put Si KE (Nat.le_succ _) _,World.putObj_heap_same Tai,(World.putObj_heap_other (by omega)).trans hk3,fun k hk=>(World.putObj_heap_other (by have:=j7 k hk;omega)).trans (hT3 k hk)⟩;rw[Gu];exact this
    have jump:ex1≠ .norm->∃ v w',(Instr.endRound (w.heap.size+1) (some ex1.code)).run P W3= .ok v w'/\((Ending.returned v= .returned (.bool true)/\(∃ H R' φ',Fj f (xs.take (i+1)) s.H=some (.norm,H)/\Lb fo (B0.and T) w' R' φ' H/\(∀ x u,K R φ s.H x u->K R' φ' H x u)/\Od B0 w w'/\w'.heap[w.heap.size+1]? =some (.loop (rec .ready none))/\w'.heap[w.heap.size]? =some (.deferred (some []))/\∀ k,T k->w.heap.size+2<=k)/\∀ k,T k->w'.heap[k]? =A.heap[k]?)\/
     (Ending.returned v= .returned (.bool false)/\∃ R' φ',ex≠ .norm/\Lb fo B0 w' R' φ' H'/\(∀ x u,K R φ s.H x u->K R' φ' H' x u)/\Od B0 w w'/\w'.heap[w.heap.size+1]? =some (.loop (rec .done (some ex.code)))/\w'.heap[w.heap.size]? =some (.deferred (some [])))):=by
     intro Va;have hr:=aar Va lr;injection hr with Zp zo
     subst Zp zo;obtain⟨q1,q2,q3,q4,q5,_⟩:=fin (some ex.code);exact⟨_,_,q1,.inr ⟨rfl,R3,φ3,Va,q2.weaken,fT,q3,q4,q5⟩⟩
    cases ex1 with
    |norm=>
     obtain⟨q1,q2,q3,q4,q5,q6⟩:=fin none;refine⟨_,_,q1,.inl ⟨rfl,⟨s1.H,R3,φ3,?_,q2,fT,q3,q4,q5,j7⟩,q6⟩⟩;have:xs.take (i+1)=xs.take i++[x]:=by rw[GK,hx];rfl
     rw[this,O6 f _ _ j1];simp only[Fj,uo,Qn]
    |ret=>exact jump (by simp)
    |goto l=>exact jump (by simp)
    |exit id=>exact jump (by simp)
  ·refine⟨s.H,R,φ,rfl,?_,fun _ _ h=>h,.Yy ff Si KE,NY,hK1,fun _ h=>h.elim⟩
   have:=hS.later ff
   exact⟨this.low,this.sub,fun id o ho=>by have:=this.obj id o ho;cases o <;> exact this,this.inj,this.Wd,fun k hk=>hk.elim (this.slt k) (fun h=>h.elim),fun i hi hs=>hs.elim (this.free i hi) (fun h=>h.elim)⟩
  ·
   have env:∀ {R':Rd}{φ':Pl}{A:World},(∀ x u,K R φ s.H x u->K R' φ' H' x u)->Lb fo B0 A R' φ' H'->Od B0 w A->(∀ o':Obj,(A.putObj (w.heap.size+1) o').heap[w.heap.size]? =some (.deferred (some [])))->∀ (o:Obj)(_:A.heap[w.heap.size+1]? =some o)(_:MT o=true)(o':Obj),
    ch fo B0 w R φ s.H a (A.putObj (w.heap.size+1) o') R' φ' ⟨s.env,H'⟩ {a with defers:=[mark w.heap.size]++a.defers}:=fun hm hs hb hd o ho hk o'=>
    ⟨hs.dO ho hk o',fun t=>(hE t).mono hm,hm,hb.put Si KE (Nat.le_succ _) o',rfl,[w.heap.size],rfl,by simp,fun D hD=>by rw[ym] at hD;subst hD;exact⟨gb _,hd o'⟩⟩
   rintro e B ⟨⟨v,rfl⟩,(⟨T,H,R',φ',j1,j2,j3,j4,j5,j6,_⟩ | ⟨R',φ',j1,j2,j3,j4,j5,j6⟩)⟩
   ·rw[ai,hR] at j1
    injection j1 with j1
    injection j1 with j0 j1
    subst j0 j1;refine⟨none,_,by have:=run_endLoop (P:=P) j5 (by rw[Gu];simp);rw[Gu] at this;exact this,?_⟩;exact hq _ _ _ _ (env j3 j2.weaken j4 (fun o'=>(World.putObj_heap_other (by omega)).trans j6) _ j5 rfl _)
   ·refine⟨some ex.code,_,by have:=run_endLoop (P:=P) j5 (by rw[Gu];simp);rw[Gu] at this;exact this,?_⟩
    have hz:=fun o'=>hq _ _ _ _ (env j3 j2 j4 (fun o'=>(World.putObj_heap_other (by omega)).trans j6) _ j5 rfl o');cases ex with
    |norm=>exact absurd rfl j1
    |exit id=>exact wpIn_exit (hz _)
    |ret=>exact wpIn_ret (hz _)
    |goto l=>exact wpIn_goto (hz _)
theorem L6{f:Tr->List fa->Option (Ex×St)}{ps:List Nat}{asg:List (Nat×Nat)}{s s':St}{v:Option (List (List PV))}{ex:Ex}(h:iz f ps asg s v=some (ex,s'))(l:Nat):ex≠ .goto l:=by
 cases v with
 |none=>simp[iz] at h
 |some xs=>
  simp only[iz] at h;have key:∀ (xs:List (List PV))(H:List fa)(r:Ex×List fa),Fj (fun x H=>f (Xo asg (om ps x s.env)) H) xs H=some r->r.1≠ .goto l:=by
   intro xs
   induction xs with
   |nil=>intro H r hr;simp only[Fj,xb] at hr;rw[<- hr];simp
   |cons x xs ih=>
    intro H r hr;simp only[Fj] at hr;cases hf:f (Xo asg (om ps x s.env)) H with
    |none=>simp[hf,Qn] at hr
    |some q=>
     obtain⟨ex1,s1⟩:=q;cases ex1 with
     |norm=>simp only[hf,Qn] at hr;exact ih _ _ hr
     |goto k=>simp[hf,Qn] at hr
     |exit k=>simp only[hf,Qn,xb] at hr;rw[<- hr];simp
     |ret=>simp only[hf,Qn,xb] at hr;rw[<- hr];simp
  cases hr:Fj (fun x H=>f (Xo asg (om ps x s.env)) H) xs s.H with
  |none=>simp[hr,VD] at h
  |some r=>obtain⟨ex1,H1⟩:=r;simp only[hr,VD,xb,Jb] at h;rw[<- h.1];exact key _ _ _ hr
theorem Mu:∀ (ac:Ya),ac.Hk=true->∀ {s s':St}{ex:Ex},ua call ac s=some (ex,s')->∀ l,ex≠ .goto l
 | .skip,_,s,s',ex,h,l=>by simp only[ua,xb,Jb] at h;rw[<- h.1];simp
 | .region ops,_,s,s',ex,h,l=>by
   simp only[ua] at h;cases ho:Qh call ops s with
   |none=>simp[ho,Zj] at h
   |some s1=>simp only[ho,Zj,xb,Jb] at h;rw[<- h.1];simp
 | .seq a b,hj,s,s',ex,h,l=>by
   simp only[Ya.Hk,fb] at hj;simp only[ua] at h;rcases Kr h with⟨s1,h1,h2⟩ | ⟨h1,_⟩
   ·exact Mu b hj.2 h2 l
   ·exact Mu a hj.1 h1 l
 | .cond c a b,hj,s,s',ex,h,l=>by
   simp only[Ya.Hk,fb] at hj;simp only[ua] at h;cases hc:asBool (c.ev s.env) with
   |none=>simp[hc,Sq] at h
   |some x=>
    cases x with
    |true=>simp only[hc,Sq] at h;exact Mu a hj.1 h l
    |false=>simp only[hc,Sq] at h;exact Mu b hj.2 h l
 | .block id b,hj,s,s',ex,h,l=>by
   simp only[Ya.Hk] at hj;simp only[ua] at h;cases hb:ua call b s with
   |none=>simp[hb,Ym] at h
   |some r=>
    obtain⟨ex1,s1⟩:=r;have hi:=Mu b hj hb;cases ex1 with
    |norm=>simp only[hb,Ym,xb,Jb] at h;rw[<- h.1];simp
    |ret=>simp only[hb,Ym,xb,Jb] at h;rw[<- h.1];simp
    |goto k=>exact absurd rfl (hi k)
    |exit k=>
     simp only[hb,Ym] at h
     split at h <;> (simp only[xb,Jb] at h;rw[<- h.1];simp)
 | .scope b,hj,s,s',ex,h,l=>by simp only[Ya.Hk] at hj;exact Mu b hj (by simpa only[ua] using h) l
 | .loop live b,hj,s,s',ex,h,l=>by
   simp only[Ya.Hk] at hj;simp only[ua] at h;obtain⟨s0,_,h⟩:=NO h;have key:∀ (n:Nat)(s1:St),Mb (Aa (ua call b) (ta s.H.length live)) n s1=some (ex,s')->ex≠ .goto l:=by
    intro n
    induction n with
    |zero=>intro s1 hl;simp[Mb] at hl
    |succ n GB=>
     intro s1 hl;simp only[Mb] at hl;rcases Kr hl with⟨s2,k1,k2⟩ | ⟨k1,k2⟩
     ·exact GB _ k2
     ·simp only[Aa] at k1
      rcases Kr k1 with⟨s3,j1,j2⟩ | ⟨j1,j2⟩
      ·cases fc:ta s.H.length live s3 with
       |none=>simp[fc,Zj] at j2
       |some s4=>simp only[fc,Zj,xb,Jb] at j2;rw[<- j2.1];simp
      ·exact Mu b hj j1 l
   exact key _ _ h
 | .ml live b,hj,s,s',ex,h,l=>by
   simp only[Ya.Hk] at hj;simp only[ua] at h;have key:∀ (n:Nat)(s1:St),Mb (Aa (ua call b) (fun s=>some (tidy live s))) n s1=some (ex,s')->ex≠ .goto l:=by
    intro n
    induction n with
    |zero=>intro s1 hl;simp[Mb] at hl
    |succ n GB=>
     intro s1 hl;simp only[Mb] at hl;rcases Kr hl with⟨s2,k1,k2⟩ | ⟨k1,k2⟩
     ·exact GB _ k2
     ·simp only[Aa] at k1
      rcases Kr k1 with⟨s3,j1,j2⟩ | ⟨j1,j2⟩
      ·simp only[Zj,xb,Jb] at j2;rw[<- j2.1];simp
      ·exact Mu b hj j1 l
   exact key _ _ h
 | .exit id,_,s,s',ex,h,l=>by simp only[ua,xb,Jb] at h;rw[<- h.1];simp
 | .ret,_,s,s',ex,h,l=>by simp only[ua,xb,Jb] at h;rw[<- h.1];simp
 | .ghost g c,hj,s,s',ex,h,l=>by simp only[Ya.Hk] at hj;simp only[ua] at h;obtain⟨s0,_,h⟩:=NO h;exact Mu c hj h l
 | .range ix F g ps asg b,_,s,s',ex,h,l=>by simp only[ua] at h;exact L6 h l
 | .gC ix F g ps pre b,_,s,s',ex,h,l=>by simp only[ua] at h;exact L6 h l
 | .goto l',hj,s,s',ex,h,l=>by simp[Ya.Hk] at hj
 | .jumps l' a b,_,s,s',ex,h,l=>by
   simp only[ua] at h;cases ha:ua call a s with
   |none=>simp[ha,cq] at h
   |some r=>
    obtain⟨ex1,s1⟩:=r;cases ex1 with
    |goto k=>
     simp only[ha,cq] at h
     split at h
     ·cases hb:ua call b s1 with
      |none=>simp[hb,zt] at h
      |some r=>obtain⟨LR,s2⟩:=r;cases LR <;> simp only[hb,zt,xb,Jb,reduceCtorEq] at h <;> (rw[<- h.1];simp)
     ·cases h
    |norm=>simp only[ha,cq,xb,Jb] at h;rw[<- h.1];simp
    |exit=>simp only[ha,cq,xb,Jb] at h;rw[<- h.1];simp
    |ret=>simp only[ha,cq,xb,Jb] at h;rw[<- h.1];simp
theorem Mac{nt:Nat}(hc:∀ B0:qd,Pr P fo B0 call):∀ (ac:Ya)(c:Code),Xe P fo nt c ac=true->(∀ d∈Vg c ac,Nb P d.1 d.2)->(∀ d∈Ag ac,Dq P (fo d.1) d.2)->
 ∀ (ro:Option Nat)(nn:Nat),(ro=none\/ac.plain=true)->∀ {B0:qd}{w:World}{R:Rd}{φ:Pl}{s s':St}{ex:Ex}{a:Act}{Q:Exit->Act->World->Prop},Lb fo B0 w R φ s.H->ye fo (K R φ s.H) s.env a->a.tmps.size=nt->ua call ac s=some (ex,s')->
 (∀ a' w' R' φ',ch fo B0 w R φ s.H a w' R' φ' s' a'->Q ex.to a' w')->c.wpIn (ak ro) nn P Q a w:=by
 intro ac
 induction ac with
 |skip=>
  intro c ga hd hI ro nn xc B0 w R φ s s' ex a Q hS hE hn h hq;cases c <;> simp[Xe] at ga
  ·simp only[ua,xb,Jb] at h
   obtain⟨rfl,rfl⟩:=h;exact wpIn_skip (hq _ _ R φ (.refl hS hE))
  ·simp only[ua,xb,Jb] at h
   obtain⟨rfl,rfl⟩:=h;exact wpIn_label (hq _ _ R φ (.refl hS hE))
 |scope b ihb=>
  intro c ga hd hI ro nn xc B0 w R φ s s' ex a Q hS hE hn h hq;cases c with
  |scope c1=>
   simp only[Xe] at ga;simp only[ua] at h;obtain rfl:=xc.resolve_right (by simp[Ya.plain])
   rw[fb] at ga;have hnj:=Mu b ga.1 h
   refine wpIn_wide.2 (wp_scope_straight (wpIn_wide.1 (ihb c1 ga.2 hd hI none nn (.inl rfl) hS hE hn h fun a' w' R' φ' g=> ?_)))
   have:=hq _ _ _ _ g;cases ex with
   |goto l=>exact absurd rfl (hnj l)
   |_=>exact this
  |_=>simp[Xe] at ga
 |region aops=>
  intro c ga hd hI ro nn xc B0 w R φ s s' ex a Q hS hE hn h hq;cases c with
  |region id ops draw=>
   simp only[Xe,fb,Nr,Lo] at ga;have hs:=I8 (hc B0) ga.1 hd
   simp only[ua] at h;cases ho:Qh call aops s with
   |none=>simp[ho,Zj] at h
   |some s1=>
    simp only[ho,Zj,xb,Jb] at h;obtain⟨rfl,rfl⟩:=h;cases draw with
    |false=>exact v7 ro hs hS hE hn ho hq
    |true=>
     rcases ga.2 with h | h
     ·cases h
     ·exact Oao ro h.1 hs h.2 hS hE hn ho hq
  |_=>simp[Xe] at ga
 |seq x y ihx ihy=>
  intro c ga hd hI ro nn xc B0 w R φ s s' ex a Q hS hE hn h hq;cases c with
  |seq a1 b1=>
   simp only[Xe,fb] at ga;simp only[ua] at h;have cr:∀ d∈Vg a1 x,Nb P d.1 d.2:=fun d Lg=>hd d (by simp[Vg,Lg])
   have oB:∀ d∈Vg b1 y,Nb P d.1 d.2:=fun d Lg=>hd d (by simp[Vg,Lg])
   have mu:∀ d∈Ag x,Dq P (fo d.1) d.2:=fun d Lg=>hI d (by simp[Ag,Lg])
   have Kp:∀ d∈Ag y,Dq P (fo d.1) d.2:=fun d Lg=>hI d (by simp[Ag,Lg])
   have Ti:ro=none\/x.plain=true:=xc.imp id fun h=>by simp only[Ya.plain,fb] at h;exact h.1
   have Hc:ro=none\/y.plain=true:=xc.imp id fun h=>by simp only[Ya.plain,fb] at h;exact h.2
   refine wpIn_seq ?_;rcases Kr h with⟨s1,h1,h2⟩ | ⟨h1,h2⟩
   ·refine ihx a1 ga.1 cr mu ro nn Ti hS hE hn h1 fun a' w' R' φ' g=> ?_
    exact ihy b1 ga.2 oB Kp ro nn Hc g.rel g.env (g.size.trans hn) h2 fun Fx Sn qv φ'' g'=>hq _ _ _ _ (g.trans g')
   ·refine ihx a1 ga.1 cr mu ro nn Ti hS hE hn h1 fun a' w' R' φ' g=> ?_
    cases ex with
    |norm=>exact absurd rfl h2
    |exit id=>exact hq _ _ _ _ g
    |ret=>exact hq _ _ _ _ g
    |goto l=>exact hq _ _ _ _ g
  |_=>simp[Xe] at ga
 |cond co x y ihx ihy=>
  intro c ga hd hI ro nn xc B0 w R φ s s' ex a Q hS hE hn h hq;cases c with
  |cond co1 a1 b1=>
   simp only[Xe,fb] at ga;simp only[ua] at h;have cr:∀ d∈Vg a1 x,Nb P d.1 d.2:=fun d Lg=>hd d (by simp[Vg,Lg])
   have oB:∀ d∈Vg b1 y,Nb P d.1 d.2:=fun d Lg=>hd d (by simp[Vg,Lg])
   have mu:∀ d∈Ag x,Dq P (fo d.1) d.2:=fun d Lg=>hI d (by simp[Ag,Lg])
   have Kp:∀ d∈Ag y,Dq P (fo d.1) d.2:=fun d Lg=>hI d (by simp[Ag,Lg])
   have Ti:ro=none\/x.plain=true:=xc.imp id fun h=>by simp only[Ya.plain,fb] at h;exact h.1
   have Hc:ro=none\/y.plain=true:=xc.imp id fun h=>by simp only[Ya.plain,fb] at h;exact h.2
   cases hb:asBool (co.ev s.env) with
   |none=>simp[hb,Sq] at h
   |some b=>
    have hv:=CP (ud (R:=R) (φ:=φ) (H:=s.H) hE ga.1.1) hb;refine wpIn_cond hv ?_;cases b with
    |true=>simp only[hb,Sq] at h;exact ihx a1 ga.1.2 cr mu ro nn Ti hS hE hn h hq
    |false=>simp only[hb,Sq] at h;exact ihy b1 ga.2 oB Kp ro nn Hc hS hE hn h hq
  |_=>simp[Xe] at ga
 |block id b ih=>
  intro c ga hd hI ro nn xc B0 w R φ s s' ex a Q hS hE hn h hq;cases c with
  |block id1 b1=>
   simp only[Xe,fb,beq_iff_eq] at ga;obtain⟨rfl,ga⟩:=ga;simp only[ua] at h;refine wpIn_block ?_;cases hb:ua call b s with
   |none=>simp[hb,Ym] at h
   |some r=>
    obtain⟨ex1,s1⟩:=r;refine ih b1 ga hd hI ro nn xc hS hE hn hb fun a' w' R' φ' g=> ?_;cases ex1 with
    |norm=>simp only[hb,Ym,xb,Jb] at h;obtain⟨rfl,rfl⟩:=h;exact hq _ _ _ _ g
    |ret=>simp only[hb,Ym,xb,Jb] at h;obtain⟨rfl,rfl⟩:=h;exact hq _ _ _ _ g
    |goto l=>simp only[hb,Ym,xb,Jb] at h;obtain⟨rfl,rfl⟩:=h;exact hq _ _ _ _ g
    |exit id2=>
     simp only[hb,Ym] at h;show Exit.inBlock id1 Q (.exit id2) a' w'
     simp only[Exit.inBlock]
     split at h
     ·rename_i e
      simp only[xb,Jb] at h;obtain⟨rfl,rfl⟩:=h;rw[if_pos e];exact hq _ _ _ _ g
     ·rename_i e
      simp only[xb,Jb] at h;obtain⟨rfl,rfl⟩:=h;rw[qa e];exact hq _ _ _ _ g
  |_=>simp[Xe] at ga
 |loop live b ih=>
  intro c ga hd hI ro nn xc B0 w R φ s s' ex a Q hS hE hn h hq;cases c with
  |loop b1=>
   simp only[Xe] at ga;simp only[ua] at h;obtain⟨s0,h0,h⟩:=NO h;have g0:=WW (ch.refl hS hE) h0;refine wpIn_loop_rounds Ga ?_;have key:∀ (n:Nat){w1:World}{R1:Rd}{φ1:Pl}{s1:St}{a1:Act},ch fo B0 w R φ s.H a w1 R1 φ1 s1 a1->Mb (Aa (ua call b) (ta s.H.length live)) n s1=some (ex,s')->Code.roundsIn (ak ro) nn P b1 Q n a1 w1:=by
    intro n
    induction n with
    |zero=>intro w1 R1 φ1 s1 a1 g hl;simp[Mb] at hl
    |succ n GB=>
     intro w1 R1 φ1 s1 a1 g hl;simp only[Mb] at hl;rw[roundsIn_succ];rcases Kr hl with⟨s2,k1,k2⟩ | ⟨k1,k2⟩
     ·simp only[Aa] at k1
      rcases Kr k1 with⟨s3,j1,j2⟩ | ⟨j1,j2⟩
      ·refine ih b1 ga hd hI ro nn xc g.rel g.env (g.size.trans hn) j1 fun a' w' R' φ' g'=> ?_
       cases fc:ta s.H.length live s3 with
       |none=>simp[fc,Zj] at j2
       |some s4=>simp only[fc,Zj,xb,Jb,true_and] at j2;subst j2;exact GB (WW (g.trans g') fc) k2
      ·exact absurd rfl j2
     ·simp only[Aa] at k1
      rcases Kr k1 with⟨s3,j1,j2⟩ | ⟨j1,j2⟩
      ·cases fc:ta s.H.length live s3 with
       |none=>simp[fc,Zj] at j2
       |some s4=>simp only[fc,Zj,xb,Jb] at j2;exact absurd j2.1.symm k2
      ·refine ih b1 ga hd hI ro nn xc g.rel g.env (g.size.trans hn) j1 fun a' w' R' φ' g'=> ?_
       cases ex with
       |norm=>exact absurd rfl j2
       |exit id=>exact hq _ _ _ _ (g.trans g')
       |ret=>exact hq _ _ _ _ (g.trans g')
       |goto l=>exact hq _ _ _ _ (g.trans g')
   exact key Ga g0 h
  |_=>simp[Xe] at ga
 |ml live b ih=>
  intro c ga hd hI ro nn xc B0 w R φ s s' ex a Q hS hE hn h hq;cases c with
  |loop b1=>
   simp only[Xe] at ga;simp only[ua] at h;have g0:=e9 live (ch.refl hS hE);refine wpIn_loop_rounds Ga ?_;have key:∀ (n:Nat){w1:World}{R1:Rd}{φ1:Pl}{s1:St}{a1:Act},ch fo B0 w R φ s.H a w1 R1 φ1 s1 a1->Mb (Aa (ua call b) (fun s=>some (tidy live s))) n s1=some (ex,s')->Code.roundsIn (ak ro) nn P b1 Q n a1 w1:=by
    intro n
    induction n with
    |zero=>intro w1 R1 φ1 s1 a1 g hl;simp[Mb] at hl
    |succ n GB=>
     intro w1 R1 φ1 s1 a1 g hl;simp only[Mb] at hl;rw[roundsIn_succ];rcases Kr hl with⟨s2,k1,k2⟩ | ⟨k1,k2⟩
     ·simp only[Aa] at k1
      rcases Kr k1 with⟨s3,j1,j2⟩ | ⟨j1,j2⟩
      ·refine ih b1 ga hd hI ro nn xc g.rel g.env (g.size.trans hn) j1 fun a' w' R' φ' g'=> ?_
       simp only[Zj,xb,Jb,true_and] at j2;subst j2;exact GB (e9 live (g.trans g')) k2
      ·exact absurd rfl j2
     ·simp only[Aa] at k1
      rcases Kr k1 with⟨s3,j1,j2⟩ | ⟨j1,j2⟩
      ·simp only[Zj,xb,Jb] at j2
       exact absurd j2.1.symm k2
      ·refine ih b1 ga hd hI ro nn xc g.rel g.env (g.size.trans hn) j1 fun a' w' R' φ' g'=> ?_
       cases ex with
       |norm=>exact absurd rfl j2
       |exit id=>exact hq _ _ _ _ (g.trans g')
       |ret=>exact hq _ _ _ _ (g.trans g')
       |goto l=>exact hq _ _ _ _ (g.trans g')
   exact key Ga g0 h
  |_=>simp[Xe] at ga
 |goto l=>
  intro c ga hd hI ro nn xc B0 w R φ s s' ex a Q hS hE hn h hq;cases c with
  |goto l1=>simp only[Xe,beq_iff_eq] at ga;subst ga;simp only[ua,xb,Jb] at h;obtain⟨rfl,rfl⟩:=h;exact wpIn_goto (hq _ _ R φ (.refl hS hE))
  |_=>simp[Xe] at ga
 |jumps l x y ihx ihy=>
  intro c ga hd hI ro nn xc B0 w R φ s s' ex a Q hS hE hn h hq;cases c with
  |scope c1=>
   simp only[Xe,fb] at ga;simp only[Vg] at hd;simp only[Ag] at hI;obtain rfl:=xc.resolve_right (by simp[Ya.plain])
   cases hfl:findLabel c1 l with
   |none=>rw[hfl] at ga;simp at ga
   |some rest=>
    rw[hfl] at ga hd;simp only at ga hd;have cr:∀ d∈Vg c1 x,Nb P d.1 d.2:=fun d h=>hd d (Bd.2 (.inl h))
    have oB:∀ d∈Vg rest y,Nb P d.1 d.2:=fun d h=>hd d (Bd.2 (.inr h))
    have mu:∀ d∈Ag x,Dq P (fo d.1) d.2:=fun d h=>hI d (Bd.2 (.inl h))
    have Kp:∀ d∈Ag y,Dq P (fo d.1) d.2:=fun d h=>hI d (Bd.2 (.inr h))
    simp only[ua] at h;cases hx:ua call x s with
    |none=>simp[hx,cq] at h
    |some r=>
     obtain⟨ex1,s1⟩:=r;have oV:(∀ k,ex1≠ .goto k)->ex1=ex->s1=s'->(Code.scope c1).wpIn (ak none) nn P Q a w:=by
      rintro Va rfl rfl;refine wpIn_wide.2 (wp_scope_jumps l (fun _ _=>False) (fun _ _=>0) hfl (wpIn_wide.1 (ihx c1 ga.1 cr mu none nn (.inl rfl) hS hE hn hx fun a' w' R' φ' g=> ?_)) (fun _ _ h=>h.elim))
      have:=hq _ _ _ _ g;cases ex1 with
      |goto k=>exact absurd rfl (Va k)
      |_=>exact this
     cases ex1 with
     |goto k=>
      simp only[hx,cq] at h
      split at h
      ·rename_i hk
       subst hk;cases hy:ua call y s1 with
       |none=>simp[hy,zt] at h
       |some r2=>
        obtain⟨LR,s2⟩:=r2;refine wpIn_wide.2 (wp_scope_jumps k (fun a1 w1=>∃ R1 φ1,ch fo B0 w R φ s.H a w1 R1 φ1 s1 a1) (fun _ _=>0) hfl (wpIn_wide.1 (ihx c1 ga.1 cr mu none nn (.inl rfl) hS hE hn hx fun a' w' R' φ' g=>⟨rfl,R',φ',g⟩)) ?_)
        rintro a1 w1 ⟨R1,φ1,g⟩;refine wpIn_wide.1 (ihy rest ga.2 oB Kp none nn (.inl rfl) g.rel g.env (g.size.trans hn) hy fun a' w' R' φ' g'=> ?_)
        cases LR with
        |goto j=>simp[hy,zt] at h
        |norm=>simp only[hy,zt,xb,Jb] at h;obtain⟨rfl,rfl⟩:=h;exact hq _ _ _ _ (g.trans g')
        |exit j=>simp only[hy,zt,xb,Jb] at h;obtain⟨rfl,rfl⟩:=h;exact hq _ _ _ _ (g.trans g')
        |ret=>simp only[hy,zt,xb,Jb] at h;obtain⟨rfl,rfl⟩:=h;exact hq _ _ _ _ (g.trans g')
      ·cases h
     |norm=>simp only[hx,cq,xb,Jb] at h;exact oV (by simp) h.1 h.2
     |exit j=>simp only[hx,cq,xb,Jb] at h;exact oV (by simp) h.1 h.2
     |ret=>simp only[hx,cq,xb,Jb] at h;exact oV (by simp) h.1 h.2
  |_=>simp[Xe] at ga
 |exit id=>
  intro c ga hd hI ro nn xc B0 w R φ s s' ex a Q hS hE hn h hq;cases c with
  |exit id1=>simp only[Xe,beq_iff_eq] at ga;subst ga;simp only[ua,xb,Jb] at h;obtain⟨rfl,rfl⟩:=h;exact wpIn_exit (hq _ _ R φ (.refl hS hE))
  |_=>simp[Xe] at ga
 |ret=>
  intro c ga hd hI ro nn xc B0 w R φ s s' ex a Q hS hE hn h hq;cases c with
  |ret=>simp only[ua,xb,Jb] at h;obtain⟨rfl,rfl⟩:=h;exact wpIn_ret (hq _ _ R φ (.refl hS hE))
  |_=>simp[Xe] at ga
 |ghost g b ih=>
  intro c ga hd hI ro nn xc B0 w R φ s s' ex a Q hS hE hn h hq;have Ck:Xe P fo nt c b=true:=by cases c <;> simpa[Xe] using ga
  have Lg:∀ d∈Vg c b,Nb P d.1 d.2:=by cases c <;> simpa[Vg] using hd
  simp only[ua] at h;obtain⟨s0,h0,h⟩:=NO h;obtain⟨R',φ',g0⟩:=Gag hS hE h0;exact ih c Ck Lg hI ro nn xc g0.rel g0.env hn h fun a' w' qv φ'' g'=>hq _ _ _ _ (g0.trans g')
 |range ix F g ps asg b ih=>
  intro c ga hd hI ro nn xc B0 w R φ s s' ex a Q hS hE hn h hq;cases c with
  |rangeFunc g1 ps1 assign body=>
   obtain rfl:=xc.resolve_right (by simp[Ya.plain])
   simp only[Xe,fb,beq_iff_eq] at ga;obtain⟨⟨⟨⟨⟨h1,h2⟩,h3⟩,h4⟩,h5⟩,h6⟩:=ga;simp only[ua] at h;refine N6 (pre:=fun s=>some ⟨Xo asg s.env,s.H⟩) h1 h2 h3 (hI (ix,F) (by simp[Ag])) (fun l B0 w R φ s s1 a Q hS hE hn hp hq=> ?_) (fun l _ _ _ _ _ _ _ _ _ hS hE hn h hq=>ih body h5 hd (fun d Lg=>hI d (by simp[Ag,Lg])) (some l) 0 (.inr h6) hS hE hn h hq) hS hE hn h hq;injection hp with hp
   subst hp;exact Jaa (fo:=fo) (k:=K R φ s.H) h4 hE hn fun a' hE' pI=>hq a' w R φ hS hE' (fun _ _ h=>h) (Od.refl _ _) pI
  |_=>simp[Xe] at ga
 |gC ix F g ps pre b ih=>
  intro c ga hd hI ro nn xc B0 w R φ s s' ex a Q hS hE hn h hq;cases c with
  |rangeFunc g1 ps1 assign body=>
   obtain rfl:=xc.resolve_right (by simp[Ya.plain])
   simp only[Xe,fb,beq_iff_eq] at ga;obtain⟨⟨⟨⟨⟨h1,h2⟩,h3⟩,h4⟩,h5⟩,h6⟩:=ga;simp only[ua] at h;have oB:∀ d∈Vg body b,Nb P d.1 d.2:=fun d Lg=>hd d (by simp[Vg,Lg])
   have cr:∀ d∈zX assign pre,Nb P d.1 d.2:=fun d Lg=>hd d (by simp[Vg,Lg])
   refine N6 (pre:=Qh call pre) h1 h2 h3 (hI (ix,F) (by simp[Ag])) (fun l B0 w R φ s s1 a Q hS hE hn hp hq=> ?_) (fun l _ _ _ _ _ _ _ _ _ hS hE hn h hq=>ih body h5 oB (fun d Lg=>hI d (by simp[Ag,Lg])) (some l) 0 (.inr h6) hS hE hn h hq) hS hE hn h hq;cases assign with
   |region id ops draw=>
    cases draw with
    |true=>simp[pU] at h4
    |false=>exact v7 (some l) (I8 (hc B0) h4 cr) hS hE hn hp fun a' w' R' φ' g=>hq a' w' R' φ' g.rel g.env g.mono g.below (g.size.trans hn)
   |_=>simp[pU] at h4
  |_=>simp[Xe] at ga
end
def Dt(P:Program):List ResultVar->List Bq->Bool
 | [],[]=>true
 | .tmp t::r,.tmp t'::r'=>t==t'&&Dt P r r'
 | .cell a ty::r,.cell t ag n::r'=>a==t&&zg P ty==some ag&&(!ag||Sd P ty==some n)&&Dt P r r'
 |_,_=>false
def UI(P:Program)(fo:Nat->FuncId)(g:Func)(af:Xa):Bool:=
 (match g.body with
 |some c=>Xe P fo g.ntmps c af.body
 |none=>false)&&Dt P g.results.toList af.results&& !(g.name== "runtime.NumGoroutine")&&decide (af.np<=g.ntmps)
def QL(g:Func)(af:Xa):List (FuncId×(List PV->Option PV)):=
 match g.body with
 |some c=>Vg c af.body
 |none=>[]
def Hb(P:Program)(fo:Nat->FuncId)(f:FuncId)(af:Xa):Prop:=
 ∃ g,P.funcs[f]? =some g/\UI P fo g af=true/\(∀ d∈QL g af,Nb P d.1 d.2)/\∀ d∈Ag af.body,Dq P (fo d.1) d.2
def Vo(P:Program)(fo:Nat->FuncId)(L:Nat->Option Xa):Prop:=∀ ix af,L ix=some af->Hb P fo (fo ix) af
section
variable {P:Program}{fo:Nat->FuncId}{B0:qd}{call:Ab}
theorem Caa:∀ (args:List AV)(i t:Nat),(Zr i args).get t=(if i<=t then args[t - i]? else none).getD .undef:=by
 intro args
 induction args with
 |nil=>intro i t;simp[Zr,Tr.get]
 |cons v r ih=>
  intro i t;simp only[Zr,Tr.na,ih]
  by_cases h:t=i
  ·subst h;simp
  ·by_cases h2:i<=t
   ·rw[qa h,if_pos h2,if_pos (by omega)]
    have:t - i=(t - (i+1))+1:=by omega
    rw[this];simp
   ·rw[qa h,qa h2,qa (by omega)]
theorem Daa{k:AV->Value->Prop}{args:List AV}{vs:List Value}(h:Qb fo k args vs)(n:Nat):ye fo k (Zr 0 args) {tmps:=⟨vs⟩++Array.replicate n undef,defers:=[]}:=by
 intro t;rw[Caa];simp only[Ql,if_true,Xz];cases ha:args[t]? with
 |none=>exact .undef _
 |some a=>
  obtain⟨v,hv,hr⟩:=h.get ha
  have hlt:=getElem?_lt hv;rw[Sm,Array.getElem?_append_left (by simpa using hlt)];simpa[hv] using hr
theorem Cal{t:TypeId}{vx v:Value}{w w':World}(h:(Instr.loadAt t vx).run P w= .ok v w'):∃ a,vx= .pointer (some a):=by
 cases vx with
 |pointer a=>
  cases a with
  |none=>simp[Instr.loadAt,Instr.sureAddr] at h
  |some a=>exact⟨a,rfl⟩
 |_=>simp[Instr.loadAt,Instr.sureAddr] at h
def tF(tmps:Array Value):ResultVar->Sem Value
 | .tmp t=>pure (tmps.getD t undef)
 | .cell a t=>do loadVar t (<- asAddr (tmps.getD a undef))
theorem Vao(tmps:Array Value)(t:Tmp)(w:World):(tF tmps (.tmp t)).run P w= .ok (tmps.getD t undef) w:=by simp only[tF,Sem.run_pure]
theorem Wao{w:World}{R:Rd}{φ:Pl}{s:St}{a:Act}(hS:Lb fo B0 w R φ s.H)(hE:ye fo (K R φ s.H) s.env a):∀ {rs:List ResultVar}{dA:List Bq}{vs:List AV},Dt P rs dA=true->Ha (Ir s) dA=some vs->
 ∃ us,(rs.mapM (tF a.tmps):Sem (List Value)).run P w= .ok us w/\Qb fo (K R φ s.H) vs us:=by
 intro rs
 induction rs with
 |nil=>
  intro dA vs ga h;cases dA with
  |nil=>simp only[Ha,xb] at h;subst h;exact⟨[],by simp,.nil⟩
  |cons _ _=>simp[Dt] at ga
 |cons r rs ih=>
  intro dA vs ga h;cases dA with
  |nil=>cases r <;> simp[Dt] at ga
  |cons ar dA=>
   simp only[Ha,Hd,xb] at h;obtain⟨b,h1,bs,h2,rfl⟩:=h;cases r with
   |tmp t=>
    cases ar with
    |tmp t'=>simp only[Dt,fb,beq_iff_eq] at ga;obtain⟨rfl,ga⟩:=ga;obtain⟨us,k1,k2⟩:=ih ga h2;simp only[Ir,xb] at h1;subst h1;exact⟨_::us,by simp only[List.mapM_cons,Sem.run_bind,Vao,Result.andThen_ok,k1,Sem.run_pure],.cons _ _ _ _ (hE t) k2⟩
    |cell _ _ _=>simp[Dt] at ga
   |cell x ty=>
    cases ar with
    |tmp t'=>simp[Dt] at ga
    |cell t ag n=>
     simp only[Dt,fb,beq_iff_eq,Nr,Lo] at ga;obtain⟨⟨⟨rfl,ha⟩,hn⟩,ga⟩:=ga;obtain⟨us,k1,k2⟩:=ih ga h2;simp only[Ir] at h1;obtain⟨v,q1,q2⟩:=R2 (P:=P) hS (hE x) ha (fun e=>by rcases hn with hn | hn;rw[e] at hn;cases hn;exact hn) h1;obtain⟨ad,hv⟩:=Cal q1;rw[hv] at q1;have q1':(loadVar ty ad).run P w= .ok v w:=by simpa[Instr.loadAt,Instr.sureAddr] using q1
     have q3:(tF a.tmps (.cell x ty)).run P w= .ok v w:=by simp only[tF,hv];simp[asAddr,q1']
     exact⟨v::us,by simp only[List.mapM_cons,Sem.run_bind,q3,Result.andThen_ok,k1,Sem.run_pure],.cons _ _ _ _ q2 k2⟩
theorem Xao{g:Func}{f:Xa}{w:World}{R:Rd}{φ:Pl}{s:St}{a:Act}(hS:Lb fo B0 w R φ s.H)(hE:ye fo (K R φ s.H) s.env a)(ga:Dt P g.results.toList f.results=true){v:AV}(h:iC f s=some v):
 ∃ u,(results g a.tmps).run P w= .ok u w/\Yb fo (K R φ s.H) v u:=by
 simp only[iC,dc] at h;obtain⟨vs,h1,rfl⟩:=h;obtain⟨us,k1,k2⟩:=Wao hS hE ga h1;have jd:(results g a.tmps).run P w= .ok (if h:us.length=1 then us[0] else .tuple ⟨us⟩) w:=by
  have:results g a.tmps=(do let vs <-g.results.mapM (tF a.tmps);pure (if h:vs.size=1 then vs[0] else .tuple vs)):=rfl
  rw[this,Array.mapM_eq_mapM_toList];simp only[Sem.run_bind,Sem.run_map,k1,Result.andThen_ok,Sem.run_pure];simp
 refine⟨_,jd,?_⟩;cases k2 with
 |nil=>exact X3 .nil
 |cons x xs u us hx hxs=>
  cases hxs with
  |nil=>simpa[Ft] using hx
  |cons y ys z zs hy IT=>have:Ft (x::y::ys)=xt (x::y::ys):=rfl;rw[this];simpa using X3 (.cons _ _ _ _ hx (.cons _ _ _ _ hy IT))
theorem Hb.UQ{f:FuncId}{af:Xa}(h:Hb P fo f af):zC P f:=by
 obtain⟨g,h1,h2,_,_⟩:=h;simp only[UI,fb,Lo] at h2;cases hb:g.body with
 |none=>simp[hb] at h2
 |some c=>exact⟨g,c,h1,hb,h2.1.2⟩
theorem RR{f:FuncId}{af:Xa}(hf:Hb P fo f af)(hc:∀ B0:qd,Pr P fo B0 call){args:List AV}{H H':List fa}{v:AV}{w:World}{R:Rd}{φ:Pl}{vs:List Value}(hS:Lb fo B0 w R φ H)(hl:Qb fo (K R φ H) args vs)
 (h:Gc call af args H=some (v,H')):Calls P f ⟨vs⟩ w (PJ fo B0 w R φ H v H'):=by
 obtain⟨g,h1,h2,h3,hI⟩:=hf;simp only[UI,fb,Lo,decide_eq_true_eq] at h2;obtain⟨⟨⟨h4,h5⟩,h6⟩,h7⟩:=h2;cases hb:g.body with
 |none=>simp[hb] at h4
 |some c=>
  simp only[hb] at h4;simp only[QL,hb] at h3;unfold Gc at h
  split at h
  ·rename_i hnp
   cases he:ua call af.body ⟨Zr 0 args,H⟩ with
   |none=>simp[he,UB] at h
   |some r=>
    obtain⟨ex,s⟩:=r;refine (callsIn_wide (n:=0)).1 (callsIn_of_wp_marks h1 hb trivial ?_)
    have hlen:=hl.length
    refine Mac hc af.body c h4 h3 hI none 0 (.inl rfl) (s:=⟨Zr 0 args,H⟩) hS (Daa hl _) (by simp;omega) he fun a' w' R' φ' gg=> ?_
    have fin:∀ (v:AV),iC af s=some v->∀ (Ds:List Nat)(W:World),(∀ D∈Ds,w.heap.size<=D/\W.heap[D]? =some (.deferred (some [])))->Ds.Nodup->Lb fo B0 W R' φ' s.H->Od B0 w W->
     LeavesInM Fence.wide 0 P g a'.tmps (PJ fo B0 w R φ H v s.H) (Ds.map mark) .returning W:=by
     intro v hv Ds
     induction Ds with
     |nil=>
      intro W _ _ hSW hBW;obtain⟨u,k1,k2⟩:=Xao hSW gg.env h5 hv
      exact⟨u,k1,u,R',φ',rfl,hSW,k2,gg.mono,hBW⟩
     |cons D Ds ih=>
      intro W hD Tp hSW hBW;obtain⟨hge,VY⟩:=hD D (by simp);have qI:=List.nodup_cons.1 Tp
      refine⟨by simp,.inl ⟨D,_,rfl,run_takeDeferred VY,ih _ (fun E hE=> ?_) qI.2 (hSW.dO VY rfl _) (hBW.put hS.low hS.slt hge _)⟩⟩;obtain⟨q1,q2⟩:=hD E (by simp[hE]);exact⟨q1,(World.putObj_heap_other (show E≠D from fun e=>qI.1 (by rw[<- e];exact hE))).trans q2⟩
    have done:(iC af s).map (fun v=>(v,s.H))=some (v,H')->LeavesInM Fence.wide 0 P g a'.tmps (PJ fo B0 w R φ H v H') a'.defers .returning w':=by
     intro hr;simp only[dc,Jb] at hr;obtain⟨v1,hv1,rfl,rfl⟩:=hr;obtain⟨Ds,e1,e2,e3⟩:=gg.defers
     rw[e1,show ∀ l:List Deferred,l++[]=l from yi];exact fin _ hv1 Ds w' e3 e2 gg.rel gg.below
    cases ex with
    |norm=>exact done (by simpa[he,UB] using h)
    |ret=>exact done (by simpa[he,UB] using h)
    |exit id=>simp[he,UB] at h
    |goto l=>simp[he,UB] at h
  ·cases h
theorem fac{L:Nat->Option Xa}(hL:Vo P fo L):∀ (d:Nat)(B0:qd),Pr P fo B0 (La L d):=by
 intro d
 induction d with
 |zero=>intro B0 ix args H v H' w R φ vs hS hl h;simp[La] at h
 |succ d ih=>intro B0 ix args H v H' w R φ vs hS hl h;simp only[La,Hd] at h;obtain⟨af,h1,h2⟩:=h;have hf:=hL ix af h1;exact⟨hf.UQ,RR hf ih hS hl h2⟩
theorem zW{call:Ab}(hc:∀ B0:qd,Pr P fo B0 call){f:FuncId}{af:Xa}(hf:Hb P fo f af):Nb P f fun args=>(Gc call af (args.map .pv) []).bind fun r=>qb r.2 deep r.1:=by
 refine⟨hf.UQ,fun w R args vs r hR hl h=> ?_⟩;simp only[Hd] at h;obtain⟨⟨v,H'⟩,h1,h2⟩:=h;have hS:Lb fo {n:=w.heap.size,R:=R} w R (fun _=>(0,0)) []:=
  ⟨gb _,hR,fun id o h=>by simp at h,fun i j hi=>by obtain⟨o,ho,_⟩:=hi;simp at ho,fun _ _ _=>rfl,fun _ h=>h.elim,fun _ _ h=>h⟩
 refine Calls.mono (RR hf hc hS (Qb.RB hl) h1) ?_
 rintro e w' ⟨u,R',φ',rfl,k1,k2,k3,k4⟩;have hQ:Sub R' (fun b o=>if b < w.heap.size then R b o else w'.cell? ⟨b,o,none⟩):=by
  intro b o x hx
  (try dsimp only)
  split
  ·rename_i hlt;rw[<- hx];exact (k1.Wd b o hlt).symm
  ·exact k1.sub b o x hx
 have k5:=n9 k1 hQ (fun b o x hb hx=>by
  have hb:w.heap.size<=b:=hb
  (try dsimp only)
  rw[qa (by omega)];exact hx) deep k2 h2
 refine⟨u,_,rfl,k4.toBelow,k5,fun b o hlt=>if_pos hlt,fun b o x hx=> ?_⟩
 split at hx
 ·rename_i hlt
  rw[Vk (k4.block b hlt)];exact hR b o x hx
 ·exact hx
theorem Jc{L:Nat->Option Xa}(hL:Vo P fo L){f:FuncId}{af:Xa}(hf:Hb P fo f af):Nb P f (oc L af):=zW (fac hL 8) hf
end
theorem fM{P:Program}{fo:Nat->FuncId}{i:FuncId}{g:Func}{af:Xa}{l:List (FuncId×(List PV->Option PV))}(h:P.funcs[i]? =some g)(hp:∀ d∈l,Nb P d.1 d.2)(ok:UI P fo g af=true:=by kernel_rfl)(du:QL g af=l:=by kernel_rfl)(di:Ag af.body=[]:=by rfl):Hb P fo i af:=
 ⟨g,h,ok,by rw[du];exact hp,by rw[di];exact fun _ h=>by cases h⟩
theorem fMI{P:Program}{fo:Nat->FuncId}{i:FuncId}{g:Func}{af:Xa}{l:List (FuncId×(List PV->Option PV))}(h:P.funcs[i]? =some g)(hp:∀ d∈l,Nb P d.1 d.2)(hi:∀ d∈Ag af.body,Dq P (fo d.1) d.2)(ok:UI P fo g af=true:=by kernel_rfl)(du:QL g af=l:=by kernel_rfl):Hb P fo i af:=
 ⟨g,h,ok,by rw[du];exact hp,hi⟩
theorem dN{P:Program}:∀ d∈([]:List (FuncId×(List PV->Option PV))),Nb P d.1 d.2:=fun _ h=>by cases h
theorem dC{P:Program}{a:FuncId}{F:List PV->Option PV}{l:List (FuncId×(List PV->Option PV))}(h:Nb P a F)(r:∀ d∈l,Nb P d.1 d.2):∀ d∈(a,F)::l,Nb P d.1 d.2:=List.forall_mem_cons.2 ⟨h,r⟩
abbrev Cv(d n:Nat):Vb:=⟨some d,.move (.t n),none,false⟩
abbrev Co(d:Nat)(op:Ka):Vb:=⟨some d,op,none,false⟩
abbrev Cp(d:Nat)(op:Ka):Vb:=⟨some d,op,none,true⟩
abbrev Cg(d t:Nat)(b:Bool)(op:Ka):Vb:=⟨some d,op,some (t,b),false⟩
abbrev Cq(d t:Nat)(b:Bool)(op:Ka):Vb:=⟨some d,op,some (t,b),true⟩
abbrev Ce(op:Ka):Vb:=⟨none,op,none,false⟩
abbrev Ka.kl(n x:Nat):Ka:= .load false n (.t x)
abbrev Ka.kL(n x:Nat):Ka:= .load true n (.t x)
abbrev Ka.kf(o x:Nat):Ka:= .QA o (.t x)
abbrev Ka.ki(n x i:Nat):Ka:= .Nd n (.t x) (.t i)
abbrev Ka.kj(n x:Nat)(i:Int):Ka:= .Nd n (.t x) (.c (.int .i64 i))
abbrev Ka.kn(k x:Nat):Ka:= .len k (.t x)
abbrev Ka.kx(i x:Nat):Ka:= .ext i (.t x)
abbrev Ka.ks(n a v:Nat):Ka:= .store n (.t a) (.t v)
abbrev Ka.km(x:Nat):Ka:= .move (.t x)
abbrev Ka.kk(n:Int):Ka:= .move (.c (.int .i64 n))
abbrev Ka.kb(b:Bool):Ka:= .move (.c (.bool b))
abbrev Ka.kc(p:PV):Ka:= .move (.c p)
abbrev Ka.kB(o:BinOp)(x y:Nat):Ka:= .bin o (.t x) (.t y)
abbrev Ka.kK(o:BinOp)(x:Nat)(n:Int):Ka:= .bin o (.t x) (.c (.int .i64 n))
abbrev Ka.ko(x y:Nat):Ka:= .pick (.t x) (.c (.bool true)) (.t y)
abbrev Ka.ka(x y:Nat):Ka:= .pick (.t x) (.t y) (.c (.bool false))
abbrev Ka.kz(x:Nat):Ka:= .OB (.t x)
abbrev Ka.kt(x:Nat):Ka:= .un .not (.t x)
abbrev Ka.kR(n x:Nat):Ka:= .DA n (.t x)
abbrev Ka.kp(F:List PV->Option PV)(x:Nat):Ka:= .Sl F [.t x]
abbrev Ka.kq(F:List PV->Option PV)(x y:Nat):Ka:= .Sl F [.t x,.t y]
abbrev Ka.kr(F:List PV->Option PV)(x y z:Nat):Ka:= .Sl F [.t x,.t y,.t z]
abbrev Ka.ku(n:Nat)(a:Bool)(b s x:Nat):Ka:= .append false .uq n a b (.t s) (.t x)
abbrev Ka.kA(m n x i:Nat):Ka:= .Ry m n (.t x) (.t i)
abbrev Ka.ke(k x y:Nat):Ka:= .eq k false (.t x) (.t y)
abbrev Ka.kE(k:Nat)(b:Bool)(x:Nat):Ka:= .eq k b (.t x) (.c .Ic)
abbrev jl(d:Nat)(n x:Nat):Vb:=Co d (.kl n x)
abbrev Jl(d:Nat)(n x:Nat):Vb:=Cp d (.kl n x)
abbrev jL(d:Nat)(n x:Nat):Vb:=Co d (.kL n x)
abbrev JL(d:Nat)(n x:Nat):Vb:=Cp d (.kL n x)
abbrev jf(d:Nat)(n x:Nat):Vb:=Co d (.kf n x)
abbrev Jf(d:Nat)(n x:Nat):Vb:=Cp d (.kf n x)
abbrev ji(d:Nat)(n x y:Nat):Vb:=Co d (.ki n x y)
abbrev Ji(d:Nat)(n x y:Nat):Vb:=Cp d (.ki n x y)
abbrev jn(d:Nat)(k x:Nat):Vb:=Co d (.kn k x)
abbrev jx(d:Nat)(i x:Nat):Vb:=Co d (.kx i x)
abbrev jk(d:Nat)(n:Int):Vb:=Co d (.kk n)
abbrev jb(d:Nat)(b:Bool):Vb:=Co d (.kb b)
abbrev jc(d:Nat)(p:PV):Vb:=Co d (.kc p)
abbrev jB(d:Nat)(o:BinOp)(x y:Nat):Vb:=Co d (.kB o x y)
abbrev jK(d:Nat)(o:BinOp)(x:Nat)(n:Int):Vb:=Co d (.kK o x n)
abbrev jo(d:Nat)(x y:Nat):Vb:=Co d (.ko x y)
abbrev ja(d:Nat)(x y:Nat):Vb:=Co d (.ka x y)
abbrev jz(d:Nat)(x:Nat):Vb:=Co d (.kz x)
abbrev jt(d:Nat)(x:Nat):Vb:=Co d (.kt x)
abbrev jR(d:Nat)(n x:Nat):Vb:=Co d (.kR n x)
abbrev jp(d:Nat)(F:List PV->Option PV)(x:Nat):Vb:=Co d (.kp F x)
abbrev jq(d:Nat)(F:List PV->Option PV)(x y:Nat):Vb:=Co d (.kq F x y)
abbrev jS(n a v:Nat):Vb:=Ce (.ks n a v)
abbrev jT(d t:Nat)(op:Ka):Vb:=Cg d t true op
abbrev jF(d t:Nat)(op:Ka):Vb:=Cg d t false op
abbrev JT(d t:Nat)(op:Ka):Vb:=Cq d t true op
abbrev JF(d t:Nat)(op:Ka):Vb:=Cq d t false op
abbrev jQ(l:List Vb)(c:Ya):Ya:= .seq (.region l) c
abbrev jr(l:List Vb):Ya:= .seq (.region l) .ret
abbrev jX(t k:Nat):Ya:= .cond (.t t) .skip (.exit k)
abbrev jC(t:Nat)(a b:Ya):Ya:= .cond (.t t) a b
section
variable {call:Ab}
theorem iam(f:St->Option St)(s:St):Bo f (some s)=f s:=rfl
theorem Qap(f:St->Option (Ex×St))(s:St):Pm f (some (.norm,s))=f s:=rfl
theorem Rap(f:St->Option (Ex×St))(s:St):Pm f (some (.ret,s))=some (.ret,s):=rfl
theorem Oap(f:St->Option (Ex×St))(n:Nat)(s:St):Pm f (some (.exit n,s))=some (.exit n,s):=rfl
theorem mam(s:St):Zj (some s)=some (.norm,s):=rfl
theorem Sac(f g:St->Option (Ex×St))(s:St):Sq f g s (some true)=f s:=rfl
theorem Rac(f g:St->Option (Ex×St))(s:St):Sq f g s (some false)=g s:=rfl
theorem Uaq(f:St->Option (Ex×St))(s:St):zq f (some s)=f s:=rfl
theorem kab(n:Nat)(s:St):Ym n (some (.norm,s))=some (.norm,s):=rfl
theorem lab(n:Nat)(s:St):Ym n (some (.ret,s))=some (.ret,s):=rfl
theorem jab(n m:Nat)(s:St):Ym n (some (.exit m,s))=if m=n then some (.norm,s) else some (.exit m,s):=rfl
theorem mao(d:Nat)(e:Tr)(v:AV)(H:List fa):qq (some d) e (some (v,H))=some ⟨e.set d v,H⟩:=rfl
theorem nao(e:Tr)(v:AV)(H:List fa):qq none e (some (v,H))=some ⟨e,H⟩:=rfl
theorem haa(s:St):ua call .skip s=some (.norm,s):=rfl
theorem daa(ops:List Vb)(s:St):ua call (.region ops) s=Zj (Qh call ops s):=rfl
theorem gaa(a b:Ya)(s:St):ua call (.seq a b) s=Pm (ua call b) (ua call a s):=rfl
theorem Y9(c:AO)(a b:Ya)(s:St):ua call (.cond c a b) s=Sq (ua call a) (ua call b) s (asBool (c.ev s.env)):=rfl
theorem X9(n:Nat)(b:Ya)(s:St):ua call (.block n b) s=Ym n (ua call b s):=rfl
theorem faa(b:Ya)(s:St):ua call (.scope b) s=ua call b s:=rfl
theorem Oc(live:List Nat)(b:Ya)(s:St):ua call (.loop live b) s=zq (Mb (Aa (ua call b) (ta s.H.length live)) Ga) (ta s.H.length live s):=rfl
theorem Wu(live:List Nat)(b:Ya)(s:St):ua call (.ml live b) s=Mb (Aa (ua call b) (fun s=>some (tidy live s))) Ga (tidy live s):=rfl
theorem Z9(n:Nat)(s:St):ua call (.exit n) s=some (.exit n,s):=rfl
theorem eaa(s:St):ua call .ret s=some (.ret,s):=rfl
theorem KF(g:uK)(c:Ya)(s:St):ua call (.ghost g c) s=zq (ua call c) (Af g s):=rfl
theorem caa(ix:Nat)(F:List PV->Option (List (List PV)))(g:AO)(ps:List Nat)(asg:List (Nat×Nat))(b:Ya)(s:St):ua call (.range ix F g ps asg b) s=iz (fun e H=>ua call b ⟨e,H⟩) ps asg s (lz ix F ps.length (g.ev s.env)):=rfl
theorem Oam(s:St):Qh call [] s=some s:=rfl
theorem Nam(o:Vb)(r:List Vb)(s:St):Qh call (o::r) s=Bo (Qh call r) (Ph call o s):=rfl
theorem Kam(d:Option Nat)(op:Ka)(e:Tr)(H:List fa):Ph call ⟨d,op,none,false⟩ ⟨e,H⟩=qq d e (Ja call e H op):=rfl
theorem Mam(d:Option Nat)(op:Ka)(e:Tr)(H:List fa):Ph call ⟨d,op,none,true⟩ ⟨e,H⟩=qq d e (cz H (Ja call e [] op)):=rfl
theorem Lam(d:Option Nat)(op:Ka)(t:Nat)(b p:Bool)(e:Tr)(H:List fa):Ph call ⟨d,op,some (t,b),p⟩ ⟨e,H⟩=mo (KA call ⟨d,op,some (t,b),p⟩) (qC ⟨d,op,some (t,b),p⟩) ⟨e,H⟩ (tj e (some (t,b))):=rfl
theorem Iag(f g:St->Option St)(s:St):mo f g s (some true)=f s:=rfl
theorem Hag(f g:St->Option St)(s:St):mo f g s (some false)=g s:=rfl
theorem Dad(d:Option Nat)(op:Ka)(g:Option (Nat×Bool))(e:Tr)(H:List fa):KA call ⟨d,op,g,false⟩ ⟨e,H⟩=qq d e (Ja call e H op):=rfl
theorem Ead(d:Option Nat)(op:Ka)(g:Option (Nat×Bool))(e:Tr)(H:List fa):KA call ⟨d,op,g,true⟩ ⟨e,H⟩=qq d e (cz H (Ja call e [] op)):=rfl
theorem Eaq(d:Nat)(op:Ka)(g:Option (Nat×Bool))(p:Bool)(e:Tr)(H:List fa):qC ⟨some d,op,g,p⟩ ⟨e,H⟩=some ⟨e.set d (.pv (.Ba [])),H⟩:=rfl
theorem Faq(op:Ka)(g:Option (Nat×Bool))(p:Bool)(e:Tr)(H:List fa):qC ⟨none,op,g,p⟩ ⟨e,H⟩=some ⟨e,H⟩:=rfl
theorem Iam(H:List fa)(v:AV):cz H (some (v,[]))=some (v,H):=rfl
end
def SN(rs:List Bq)(r:Option (Ex×St)):Option (AV×List fa):=UB ⟨0,rs,.skip⟩ r
theorem uU(rs:List Bq)(s:St):SN rs (some (.norm,s))=(Ha (Ir s) rs).bind fun vs=>some (Ft vs,s.H):=by
 show (iC _ s).map _=_
 simp only[iC];cases Ha (Ir s) rs <;> rfl
theorem B5(rs:List Bq)(s:St):SN rs (some (.ret,s))=(Ha (Ir s) rs).bind fun vs=>some (Ft vs,s.H):=uU rs s
theorem Bap{call:Ab}(np:Nat)(rs:List Bq)(body:Ya)(args:List AV)(H:List fa):Gc call ⟨np,rs,body⟩ args H=if args.length=np then SN rs (ua call body ⟨Zr 0 args,H⟩) else none:=rfl
theorem Zaa:(true==true)=true:=rfl
theorem Yaa:(true==false)=false:=rfl
theorem Uaa:(false==true)=false:=rfl
theorem Taa:(false==false)=true:=rfl
theorem gac(L:Nat->Option Xa)(d ix:Nat)(args:List AV)(H:List fa):La L (d+1) ix args H=(L ix).bind fun f=>Gc (La L d) f args H:=rfl
theorem Dm(L:Nat->Option Xa)(d ix:Nat)(args:List AV)(H:List fa){f:Xa}(h:L ix=some f):La L (d+1) ix args H=Gc (La L d) f args H:=by simp[La,h]
theorem tal(H:List fa):mb H 0 (.pv .oa)=some 0:=rfl
theorem qal(H:List fa)(sz:Nat)(es:List PV):mb H 0 (.pv (.lit sz es))=some es.length:=rfl
theorem AN(H:List fa)(id sz:Nat)(nl:Bool)(es:List PV):mb H 0 (.uq id nl sz es)=some es.length:=rfl
theorem ual(H:List fa)(x:ByteArray):mb H 1 (.pv (.str x))=some x.size:=rfl
theorem sal(H:List fa):mb H 2 (.pv .Gk)=some 0:=rfl
theorem zN(H:List fa)(id len:Nat):mb H 0 (.own id len)=match H[id]? with
 |some (.seq sz _ cells fl _)=>(if (bh sz len fl cells.length) then (some len) else none)
 |_=>none:=rfl
theorem ral(H:List fa)(id:Nat):mb H 2 (.mp id)=match H[id]? with
 |some (.map es)=>some es.length
 |_=>none:=rfl
theorem bal{P:Program}{f:FuncId}{F:List PV->Option PV}(h:Nb P f F){w:World}{args:List PV}{vs:List Value}(hl:Cc (Rw w) args vs)(hr:F args=some (.bool true)):
 Calls P f ⟨vs⟩ w fun e w'=>e= .returned (.bool true)/\Below w.heap.size w w':=by
 refine Calls.mono (h.2 w (Rw w) args vs _ (fun _ _ _ h=>h) hl hr) ?_
 rintro e w' ⟨v,R',rfl,hb,hv,_⟩;cases hv;exact⟨rfl,hb⟩
def Ku(P:Program)(t:TypeId):Bool:=
 match P.underlying t with
 |some (.struct _) | some (.array _ _)=>true
 |_=>false
def jh(P:Program)(e:TypeId)(row:List PV):PV:=if Ku P e then .agg row else row.headD .Ic
def rowOf(P:Program){H:Type}:Nat->TypeId->DataW H->List PV
 |0,_,_=>[]
 |f+1,t,d=>
  match P.underlying t,d with
  |some .bool,.lit (.bool b)=>[.bool b]
  |some (.int k),.lit (.int _ n)=>[.int k n]
  |some .string,.lit (.string l)=>[.str ⟨l.toArray⟩]
  |some (.pointer _),.nil=>[.Ic]
  |some (.pointer e),.ptr d=>[.rp (rowOf P f e d) 0]
  |some (.slice _),.nil=>[.oa]
  |some (.slice e),.slice es _=>[.lit (P.cellsOf e) (es.map fun d=>jh P e (rowOf P f e d))]
  |some (.struct fs),.agg ds=>((fs.toList.zip ds).map fun p=>rowOf P f p.1.type p.2).flatten
  |some (.array _ e),.agg ds=>(ds.map (rowOf P f e)).flatten
  |_,_=>[]
def JI(P:Program):Nat->List Field->Option Nat
 |o,[]=>some o
 |o,f::r=>if f.offset=o then JI P (o+P.cellsOf f.type) r else none
def Mn(P:Program):Nat->TypeId->Bool
 |0,_=>false
 |f+1,t=>
  match P.underlying t with
  |some .bool | some (.int _) | some .string=>P.cellsOf t==1
  |some (.pointer e) | some (.slice e)=>P.cellsOf t==1&&decide (0 < P.cellsOf e)&&Mn P f e
  |some (.struct fs)=>JI P 0 fs.toList==some (P.cellsOf t)&&fs.toList.all fun fd=>Mn P f fd.type
  |some (.array n e)=>P.cellsOf t==n * P.cellsOf e&&Mn P f e
  |_=>false
section
variable {P:Program}{H:Type}{enc:TypeId×Value->H}{w:World}{base:Nat}{sp:Nat->Bool}{held:Bool}
structure UC(P:Program)(w:World)(t:TypeId)(row:List PV)(cs:List Value):Prop where
 rel:Cc (Rw w) row cs
 one:∀ p∈row,Ru p=true
 len:row.length=P.cellsOf t
theorem mapM_some{α β:Type}{f:α->Option β}:∀ {l:List α}{r:List β},l.mapM f=some r->r.length=l.length/\∀ (i:Nat)(x:α),l[i]? =some x->∃ y,r[i]? =some y/\f x=some y:=by
 intro l
 induction l with
 |nil=>intro r h;simp at h;subst h;exact⟨rfl,fun i x h=>by simp at h⟩
 |cons a l ih=>
  intro r h;simp only[List.mapM_cons,Option.bind_eq_bind,Hd,Option.pure_def,xb] at h;obtain⟨b,h1,bs,h2,rfl⟩:=h;obtain⟨k1,k2⟩:=ih h2;refine⟨by simp[k1],fun i x hx=> ?_⟩;cases i with
  |zero=>simp at hx;subst hx;exact⟨b,rfl,h1⟩
  |succ i=>simpa using k2 i x (by simpa using hx)
theorem Cc.app{R:Rd}{ps qs:List PV}{vs us:List Value}(h:Cc R ps vs)(h':Cc R qs us):Cc R (ps++qs) (vs++us):=Cc.append h h'
theorem yac{a:Addr}{n:Nat}{cs:List Value}(h:w.cells? base a n=some cs):cs.length=n/\∀ (i:Nat)(v:Value),cs[i]? =some v->w.cell? (a.add i)=some v:=by
 unfold World.cells? at h
 split at h
 ·obtain⟨h1,h2⟩:=mapM_some h
  rw[Wn] at h1;refine⟨h1,fun i v hv=> ?_⟩;have hlt:=getElem?_lt hv;obtain⟨y,Mm,Ar⟩:=h2 i i (by rw[Pz (by omega)]);rw[hv] at Mm;injection Mm with Mm;subst Mm;exact Ar
 ·cases h
theorem GW{a:Addr}{v:Value}(h:w.cell? a=some v):a.spot=none:=by
 unfold World.cell? at h
 split at h
 ·split at h
  ·cases h
  ·rename_i hs;cases ha:a.spot with
   |none=>rfl
   |some s=>simp[ha] at hs
 ·cases h
theorem rac{a:Addr}{i:Nat}{v:Value}(h:w.cell? (a.add i)=some v):w.cell? ⟨a.block,a.off+i,none⟩=some v:=by
 have hs:=GW h;obtain⟨b,o,s⟩:=a;unfold Addr.add at h hs
 split at h
 ·rename_i h0;subst h0
  rw[if_pos rfl] at hs;simp only at hs;subst hs;simpa using h
 ·exact h
theorem Cd.flat{R:Rd}{b sz:Nat}:∀ {es:List PV}{o:Nat},(∀ e∈es,e.cells.length=sz)->(∀ (i:Nat)(e:PV),es[i]? =some e->Cd R e.cells b (o+i * sz))->Cd R (AM.flat es) b o:=by
 intro es
 induction es with
 |nil=>intro o _ _;exact .nil _ _
 |cons e es ih=>
  intro o hl h;have h0:=h 0 e rfl;simp only[TC,Vz] at h0;refine Cd.append h0 ?_
  rw[hl e (by simp)];refine ih (fun x hx=>hl x (by simp[hx])) fun i x hx=> ?_;have:=h (i+1) x (by simpa using hx);rw[Nat.add_mul,Nat.one_mul] at this;rw[show o+sz+i * sz=o+(i * sz+sz) from by omega];exact this
theorem Xad{e:TypeId}{row:List PV}{cs:List Value}(h:UC P w e row cs)(hs:Ku P e=true\/P.cellsOf e=1):(jh P e row).cells=row:=by
 unfold jh
 split
 ·rfl
 ·rename_i hn
  have hc:=hs.resolve_left hn
  have hlen:=h.len
  rw[hc] at hlen
  match row,hlen with
  | [p],_=>exact A6 (h.one p (by simp))
theorem lap{e:TypeId}{row:List PV}{cs:List Value}{a:Addr}(h:UC P w e row cs)(hc:∀ (i:Nat)(v:Value),cs[i]? =some v->w.cell? (a.add i)=some v):Cd (Rw w) row a.block a.off:=
 Cd.Ct h.rel (fun v hv=>by
  obtain⟨i,hi⟩:=Ax.1 hv
  have hlt:=getElem?_lt hi;have hl:=h.rel.length
  have hp:row[i]? =some (row[i]'(by omega)):=Rb _;obtain⟨u,hu,hr⟩:=h.rel.get hp
  rw[hi] at hu;injection hu with hu;subst hu
  exact hr.one (h.one _ (ic _))) fun i v hv=>rac (hc i v hv)
theorem V4{g:Nat}{t:TypeId}(h:Mn P g t=true):Ku P t=true\/P.cellsOf t=1:=by
 cases g with
 |zero=>simp[Mn] at h
 |succ g=>
  simp only[Mn] at h;unfold Ku
  split at h <;> simp_all
theorem Uak{R:Rd}:∀ (fs:List Field)(o:Nat)(cs:List Value)(rows:List (List PV)),JI P o fs=some cs.length->rows.length=fs.length->
 (∀ (i:Nat)(f:Field)(r:List PV),fs[i]? =some f->rows[i]? =some r->Cc R r ((cs.drop f.offset).take (P.cellsOf f.type))/\r.length=P.cellsOf f.type)->Cc R rows.flatten (cs.drop o):=by
 intro fs
 induction fs with
 |nil=>intro o cs rows h hl _;simp only[JI,xb] at h;subst h;have:rows=[]:=Ze (by simpa using hl);subst this;simpa using Cc.nil
 |cons f fs ih=>
  intro o cs rows h hl hr;cases rows with
  |nil=>simp at hl
  |cons r rows=>
   simp only[JI] at h
   split at h
   ·rename_i ho
    obtain⟨h1,h2⟩:=hr 0 f r rfl rfl;rw[ho] at h1;have h3:=ih (o+P.cellsOf f.type) cs rows h (by simpa using hl) fun i g q hg hq=>hr (i+1) g q (by simpa using hg) (by simpa using hq);have:cs.drop o=(cs.drop o).take (P.cellsOf f.type)++cs.drop (o+P.cellsOf f.type):=by rw[<- List.drop_drop,Wr]
    rw[this,um];exact Cc.app h1 h3
   ·cases h
theorem Haa{R:Rd}{sz:Nat}:∀ (n:Nat)(cs:List Value)(rows:List (List PV)),cs.length=n * sz->rows.length=n->
 (∀ (i:Nat)(r:List PV),rows[i]? =some r->Cc R r ((cs.drop (i * sz)).take sz))->Cc R rows.flatten cs:=by
 intro n
 induction n with
 |zero=>intro cs rows h hl _;have:rows=[]:=Ze hl;subst this;have:cs=[]:=Ze (by simpa using h);subst this;exact .nil
 |succ n ih=>
  intro cs rows h hl hr;cases rows with
  |nil=>simp at hl
  |cons r rows=>
   have h1:=hr 0 r rfl;simp only[TC,Un] at h1;have h3:=ih (cs.drop sz) rows (by rw[uk,h,Nat.add_mul];omega) (by simpa using hl) fun i q hq=>by have:=hr (i+1) q (by simpa using hq);rw[List.drop_drop];rw[Nat.add_mul,Nat.one_mul] at this;rw[show sz+i * sz=i * sz+sz from by omega];exact this
   rw[<- Wr sz cs,um];exact Cc.app h1 h3
theorem qap:∀ (g:Nat)(t:TypeId)(fuel:Nat)(cs:List Value)(x:DataW H×List MemPlace),Mn P g t=true->DataW.trod enc P w base (fun _=>true) held fuel t cs=some x->UC P w t (rowOf P g t x.1) cs:=by
 intro g
 induction g with
 |zero=>intro t fuel cs x h;simp[Mn] at h
 |succ g ih=>
  intro t fuel cs x ga h;simp only[Mn] at ga;have elem:∀ {e:TypeId}{n:Nat}{a:Addr}{y:DataW H×List MemPlace},Mn P g e=true->(w.cells? base a (P.cellsOf e)).bind (DataW.trod enc P w base (fun _=>true) held n e)=some y->
   Cd (Rw w) (rowOf P g e y.1) a.block a.off/\(rowOf P g e y.1).length=P.cellsOf e/\(jh P e (rowOf P g e y.1)).cells=rowOf P g e y.1/\(0 < P.cellsOf e->a.spot=none):=by
   intro e n a y he hy;simp only[Hd] at hy;obtain⟨ecs,h1,h2⟩:=hy;obtain⟨k1,k2⟩:=yac h1;have hr:=ih e n ecs y he h2;refine⟨lap hr k2,hr.len,Xad hr (V4 he),fun th=> ?_⟩;have hv:ecs[0]? =some (ecs[0]'(by omega)):=Rb _;have:=GW (k2 0 _ hv);simpa[Addr.add] using this
  have atom:∀ {p:PV}{v:Value},Ru p=true->Na (Rw w) p v->P.cellsOf t=1->UC P w t [p] [v]:=fun h1 h2 h3=>
   ⟨.cons _ _ _ _ h2 .nil,by simpa using h1,by simp[h3]⟩
  cases hu:P.underlying t with
  |none=>simp[hu] at ga
  |some td=>
   simp only[hu] at ga;cases td with
   |bool=>
    obtain⟨b,rfl,rfl⟩:=DataW.trod_bool hu h
    simp only[rowOf,hu];exact atom rfl (.bool _) (by simpa using ga)
   |int k=>
    obtain⟨n,rfl,rfl,_⟩:=DataW.trod_int hu h
    simp only[rowOf,hu];exact atom rfl (.int _ _) (by simpa using ga)
   |string=>
    obtain⟨s,rfl,rfl,_⟩:=DataW.trod_string hu h
    simp only[rowOf,hu];obtain⟨⟨l⟩⟩:=s;exact atom rfl (.str _) (by simpa using ga)
   |pointer e=>
    simp only[fb,beq_iff_eq,decide_eq_true_eq] at ga;obtain⟨⟨hc,th⟩,he⟩:=ga;rcases DataW.trod_pointer hu h with⟨rfl,rfl⟩ | ⟨a,ecs,y,n,rfl,rfl,rfl,h1,h2⟩
    ·simp only[rowOf,hu]
     exact atom rfl .Ic hc
    ·simp only[rowOf,hu]
     obtain⟨k1,k2,k3,k4⟩:=elem he (n:=n) (a:=a) (y:=y) (by rw[h1];exact h2);have hs:=k4 th;obtain⟨b,o,s⟩:=a;simp only at hs;subst hs;refine atom rfl ?_ hc;have:=Na.rp (R:=Rw w) _ 0 b o k1
     simpa using this
   |slice e=>
    simp only[fb,beq_iff_eq,decide_eq_true_eq] at ga;obtain⟨⟨hc,th⟩,he⟩:=ga;rcases DataW.trod_slice hu h with⟨rfl,rfl⟩ | ⟨a,len,cap,els,rest,n,rfl,rfl,rfl,_,ZS,_,hlen,gf,hsp,_⟩
    ·simp only[rowOf,hu]
     exact atom rfl .oa hc
    ·simp only[rowOf,hu]
     refine atom rfl ?_ hc;obtain⟨Zp,zo⟩:=hsp rfl;have each:∀ (i:Nat)(y:DataW H×List MemPlace),els[i]? =some y->(w.cells? base (a.add (i * P.cellsOf e)) (P.cellsOf e)).bind (DataW.trod enc P w base (fun _=>true) held n e)=some y:=by intro i y hy;rw[gf i (by have:=getElem?_lt hy;omega),hy]
     by_cases Sj:cap=0
     ·have:len=0:=by omega
      subst this;subst Sj;have:els=[]:=Ze hlen;subst this;exact .Br _ _
     ·have hs:a.spot=none:=by
       rcases Bx len with h0 | h0
       ·have h1:0 < cap - len:=by omega
        have hv:rest[0]? =some (rest[0]'(by omega)):=Rb _;have:=zo 0 h1;rw[hv] at this;have:=(elem he this).2.2.2 th
        subst h0;simpa[Addr.add] using this
       ·have hv:els[0]? =some (els[0]'(by omega)):=Rb _
        have:=(elem he (each 0 _ hv)).2.2.2 th
        simpa[Addr.add] using this
      obtain⟨b,o,s⟩:=a;simp only at hs;subst hs;have fc:∀ p∈(els.map (·.1)).map (fun d=>jh P e (rowOf P g e d)),p.cells.length=P.cellsOf e:=by
       intro p hp;simp only[Iq,Re] at hp;obtain⟨y,hy,rfl⟩:=hp;obtain⟨i,hi⟩:=Ax.1 hy
       obtain⟨_,k2,k3,_⟩:=elem he (each i y hi);simp only[Function.comp];rw[k3,k2]
      have:=Na.lit (R:=Rw w) (P.cellsOf e) ((els.map (·.1)).map (fun d=>jh P e (rowOf P g e d))) b o cap (by simp;omega) fc (Cd.flat fc fun i p hp=>by
       simp only[Iq,Gd,dc] at hp;obtain⟨y,hy,rfl⟩:=hp;obtain⟨k1,k2,k3,_⟩:=elem he (each i y hy);simp only[Function.comp];rw[k3];have hb:(Addr.add ⟨b,o,none⟩ (i * P.cellsOf e))=⟨b,o+i * P.cellsOf e,none⟩:=by rw[wv]
       rw[hb] at k1;exact k1)
      simpa[hlen] using this
   |struct fs=>
    simp only[fb,beq_iff_eq] at ga;obtain⟨YS,Rh⟩:=ga;obtain⟨xs,n,rfl,rfl,Kg,hxs,hf⟩:=DataW.trod_struct hu h
    simp only[rowOf,hu];have each:∀ (i:Nat)(f:Field)(y:DataW H×List MemPlace),fs.toList[i]? =some f->xs[i]? =some y->UC P w f.type (rowOf P g f.type y.1) ((cs.drop f.offset).take (P.cellsOf f.type)):=by intro i f y yu hy;have:=hf i f (by simpa using yu);rw[hy] at this;exact ih _ n _ y (Df.1 Rh f (vj yu)) this
    have get:∀ (i:Nat)(r:List PV),((fs.toList.zip (xs.map (·.1))).map fun p=>rowOf P g p.1.type p.2)[i]? =some r->∃ f y,fs.toList[i]? =some f/\xs[i]? =some y/\r=rowOf P g f.type y.1:=by intro i r hr;simp only[Gd,dc] at hr;obtain⟨p,hp,rfl⟩:=hr;rw[List.getElem?_zip_eq_some] at hp;obtain⟨Ti,Hc⟩:=hp;simp only[Gd,dc] at Hc;obtain⟨y,hy,Ar⟩:=Hc;exact⟨p.1,y,Ti,hy,by rw[Ar]⟩
    have hrel:=Uak (R:=Rw w) fs.toList 0 cs ((fs.toList.zip (xs.map (·.1))).map fun p=>rowOf P g p.1.type p.2) (by rw[Kg];exact YS) (by simp[hxs]) fun i f r yu wT=>by
     obtain⟨f',y,h1,h2,rfl⟩:=get i r wT;rw[yu] at h1;injection h1 with h1;subst h1
     have:=each i f y yu h2;exact⟨this.rel,this.len⟩
    rw[Un] at hrel;refine⟨hrel,fun p hp=> ?_,by rw[<- hrel.length,Kg]⟩;rw[EK] at hp;obtain⟨r,hr,hp⟩:=hp;obtain⟨i,hi⟩:=Ax.1 hr
    obtain⟨f,y,h1,h2,rfl⟩:=get i r hi;exact (each i f y h1 h2).one p hp
   |array n e=>
    simp only[fb,beq_iff_eq] at ga;obtain⟨YS,he⟩:=ga;obtain⟨xs,m,rfl,rfl,Kg,hxs,hf⟩:=DataW.trod_array hu h
    simp only[rowOf,hu];have each:∀ (i:Nat)(y:DataW H×List MemPlace),xs[i]? =some y->UC P w e (rowOf P g e y.1) ((cs.drop (i * P.cellsOf e)).take (P.cellsOf e)):=by intro i y hy;have:=hf i (by have:=getElem?_lt hy;omega);rw[hy] at this;exact ih _ m _ y he this
    have get:∀ (i:Nat)(r:List PV),((xs.map (·.1)).map (rowOf P g e))[i]? =some r->∃ y,xs[i]? =some y/\r=rowOf P g e y.1:=by intro i r hr;simp only[Iq,Gd,dc] at hr;obtain⟨y,hy,rfl⟩:=hr;exact⟨y,hy,rfl⟩
    have hrel:=Haa (R:=Rw w) n cs ((xs.map (·.1)).map (rowOf P g e)) (by rw[Kg,YS]) (by simp[hxs]) fun i r wT=>by obtain⟨y,h2,rfl⟩:=get i r wT;exact (each i y h2).rel
    refine⟨hrel,fun p hp=> ?_,by rw[<- hrel.length,Kg]⟩;rw[EK] at hp;obtain⟨r,hr,hp⟩:=hp;obtain⟨i,hi⟩:=Ax.1 hr
    obtain⟨y,h2,rfl⟩:=get i r hi;exact (each i y h2).one p hp
   |_=>simp at ga
def Sh(P:Program):Nat->TypeId->List PV->Prop
 |0,_,_=>False
 |g+1,t,row=>
  match P.underlying t with
  |some .bool=>∃ b,row=[.bool b]
  |some (.int k)=>∃ n,row=[.int k n]/\(Lit.int k n).wf=true
  |some .string=>∃ s:ByteArray,row=[.str s]/\s.size<=reachBytes
  |some (.pointer e)=>row=[.Ic]\/∃ r,row=[.rp r 0]/\Sh P g e r
  |some (.slice e)=>row=[.oa]\/∃ es:List (List PV),row=[.lit (P.cellsOf e) (es.map (jh P e))]/\es.length<=maxLen/\es.length * P.bytesOf e<=reachBytes/\∀ r∈es,Sh P g e r
  |some (.struct fs)=>∃ rows:List (List PV),rows.length=fs.size/\row=rows.flatten/\∀ (i:Nat)(f:Field)(r:List PV),fs.toList[i]? =some f->rows[i]? =some r->Sh P g f.type r
  |some (.array n e)=>∃ es:List (List PV),es.length=n/\row=es.flatten/\∀ r∈es,Sh P g e r
  |_=>False
theorem xV{P:Program}{e:TypeId}:∀ {ds:List (DataW H)}{d:DataW H}{n:Nat},d∈ds->n∈d.weights P e->n∈DataW.weightsAll P e ds
 |c::ds,d,n,hd,hn=>by
  simp only[DataW.weightsAll,Bd];rcases Ae.1 hd with rfl | hd
  ·exact .inl hn
  ·exact .inr (xV hd hn)
theorem rap:∀ (g:Nat)(t:TypeId)(fuel:Nat)(cs:List Value)(x:DataW H×List MemPlace),Mn P g t=true->DataW.trod enc P w base sp held fuel t cs=some x->(∀ n∈x.1.weights P t,n<=reachBytes)->Sh P g t (rowOf P g t x.1):=by
 intro g
 induction g with
 |zero=>intro t fuel cs x h;simp[Mn] at h
 |succ g ih=>
  intro t fuel cs x ga h Ju;simp only[Mn] at ga;cases hu:P.underlying t with
  |none=>simp[hu] at ga
  |some td=>
   simp only[hu] at ga;cases td with
   |bool=>obtain⟨b,rfl,rfl⟩:=DataW.trod_bool hu h;simp only[Sh,rowOf,hu];exact⟨_,rfl⟩
   |int k=>obtain⟨n,rfl,rfl,hw⟩:=DataW.trod_int hu h;simp only[Sh,rowOf,hu];exact⟨_,rfl,hw⟩
   |string=>
    obtain⟨s,rfl,rfl,hs⟩:=DataW.trod_string hu h
    simp only[Sh,rowOf,hu];obtain⟨⟨l⟩⟩:=s;refine⟨_,rfl,?_⟩;have:=Ju l.length (by simp[DataW.weights])
    simpa[ByteArray.size] using this
   |pointer e=>
    simp only[fb,beq_iff_eq,decide_eq_true_eq] at ga;rcases DataW.trod_pointer hu h with⟨rfl,rfl⟩ | ⟨a,ecs,y,n,rfl,rfl,rfl,h1,h2⟩
    ·simp only[Sh,rowOf,hu];exact .inl trivial
    ·simp only[Sh,rowOf,hu];exact .inr ⟨_,rfl,ih e n _ y ga.2 h2 (fun n hn=>Ju n (by simpa[DataW.weights,hu] using hn))⟩
   |slice e=>
    simp only[fb,beq_iff_eq,decide_eq_true_eq] at ga;rcases DataW.trod_slice hu h with⟨rfl,rfl⟩ | ⟨a,len,cap,els,rest,n,rfl,rfl,rfl,_,ZS,gN,hlen,gf,_,_⟩
    ·simp only[Sh,rowOf,hu];exact .inl trivial
    ·have ib:=Ju _ (show _ by simp only[DataW.weights,hu];exact List.mem_cons_self ..)
     have Saj:els.length * P.bytesOf e<=reachBytes:=by refine Lj (Rt _ ?_) ib;simp
     simp only[Sh,rowOf,hu];refine .inr ⟨els.map fun y=>rowOf P g e y.1,by simp[Iq,Function.comp_def],by simp;omega,by simpa using Saj,fun r hr=> ?_⟩
     obtain⟨y,hy,rfl⟩:=Re.1 hr
     obtain⟨i,hi⟩:=Ax.1 hy
     have h1:=gf i (by have:=getElem?_lt hi;omega);rw[hi] at h1;simp only[Hd] at h1;obtain⟨ecs,_,h2⟩:=h1;refine ih e n ecs y ga.2 h2 (fun k hk=>Ju k ?_)
     simp only[DataW.weights,hu,Ae,Bd];exact .inr (.inl (xV (Re.2 ⟨y,hy,rfl⟩) hk))
   |struct fs=>
    simp only[fb,beq_iff_eq] at ga;obtain⟨xs,n,rfl,rfl,Kg,hxs,hf⟩:=DataW.trod_struct hu h
    simp only[Sh,rowOf,hu];refine⟨_,?_,rfl,fun i f r yu hr=> ?_⟩
    ·simp[hxs]
    ·simp only[Gd,dc] at hr
     obtain⟨p,hp,rfl⟩:=hr;rw[List.getElem?_zip_eq_some] at hp;obtain⟨Ti,Hc⟩:=hp;have taj:=Hc;simp only[Gd,dc] at Hc;obtain⟨y,hy,Ar⟩:=Hc;rw[yu] at Ti;injection Ti with Ti
     have:=hf i f (by simpa using yu);rw[hy] at this;rw[<- Ti,<-Ar];refine ih _ n _ y (Df.1 ga.2 f (vj yu)) this (fun k hk=>Ju k ?_);simp only[DataW.weights,hu];exact DataW.weights_mem_each (j:=i) (t:=f.type) (d:=y.1) (by simp[yu]) (by rw[Ar];exact taj) k hk
   |array n e=>
    simp only[fb,beq_iff_eq] at ga;obtain⟨xs,m,rfl,rfl,Kg,hxs,hf⟩:=DataW.trod_array hu h
    simp only[Sh,rowOf,hu];refine⟨_,?_,rfl,fun r hr=> ?_⟩
    ·simp[hxs]
    ·simp only[Iq,Re] at hr
     obtain⟨y,hy,rfl⟩:=hr;obtain⟨i,hi⟩:=Ax.1 hy
     have:=hf i (by have:=getElem?_lt hi;omega);rw[hi] at this;refine ih _ m _ y ga.2 this (fun k hk=>Ju k ?_)
     simp only[DataW.weights,hu];exact xV (Re.2 ⟨y,hy,rfl⟩) hk
   |_=>simp at ga
theorem Eaa{r:Reach}{b0:Nat}{g:Nat}{t:TypeId}{v:Value}{d:DataW H}{ps:List MemPlace}(ga:Mn P g t=true)(oe:Value.okWide P w r b0 t v)(hd:DataW.Trod enc P w base (fun _=>true) held t v d ps):
 Na (Rw w) (jh P t (rowOf P g t d)) v:=by
 obtain⟨fuel,hf⟩:=hd;have hr:=qap g t fuel _ _ ga hf;have h1:=V4 ga;unfold jh;cases ha:Ku P t with
 |true=>
  simp only[if_true];have:∃ cs,v= .agg cs:=by
   unfold Ku at ha;unfold Value.okWide at oe
   cases hu:P.underlying t with
   |none=>simp[hu] at ha
   |some td=>cases td <;> simp[hu] at ha oe <;> exact⟨_,oe.choose_spec.1⟩
  obtain⟨⟨cs⟩,rfl⟩:=this;exact .agg _ _ (by simpa[Value.cells] using hr.rel)
 |false=>
  simp only[Sc,if_false];have hc:=h1.resolve_left (by simp[ha])
  have hlen:=hr.len
  rw[hc] at hlen;generalize rowOf P g t d=row at hr hlen ⊢;have hrel:=hr.rel
  match row,hlen with
  | [p],_=>
    have:∃ u,v.cells.toList=[u]/\Na (Rw w) p u:=by
     generalize v.cells.toList=l at hrel
     cases hrel with
     |cons _ _ u us h2 h3=>cases h3;exact⟨u,rfl,h2⟩
    obtain⟨u,hu,hp⟩:=this;have:v=u:=by
     cases v <;> simp[Value.cells] at hu <;> first | exact hu | skip
     rename_i cs;unfold Value.okWide at oe
     unfold Ku at ha;cases ct:P.underlying t with
     |none=>simp[ct,Cell.okWide,Cell.ok] at oe
     |some td=>cases td <;> simp[ct] at ha <;> simp[ct,Cell.okWide,Cell.ok] at oe
    rw[this];exact hp
end
def fa.plain:fa->Bool
 | .box cells=>cells.all AV.free'
 | .tok _ _ _=>true
 | .dead=>true
 |_=>false
where AV.free':AV->Bool
 | .pv _=>true
 |_=>false
theorem bc{n d:Nat}{p:PV}:AV.cut n d (.pv p)=some (.pv p):=by cases d <;> rfl
def Ex.stop:Ex->Bool
 | .norm=>false
 |_=>true
def Be(call:Ab)(live:List Nat)(b:Ya)(n:Nat)(s:St):Option (Ex×St):=Aa (ua call b) (ta n live) s
theorem vt{g:St->Option (Ex×St)}(I:Nat->St->Prop)(Q:Ex->St->Prop):∀ (k N i:Nat)(s:St),N < i+k->i<=N->I i s->
 (∀ i,i < N->∀ s,I i s->(∃ s',g s=some (.norm,s')/\I (i+1) s')\/(∃ ex s',g s=some (ex,s')/\ex.stop=true/\Q ex s'))->
 (∀ s,I N s->∃ ex s',g s=some (ex,s')/\ex.stop=true/\Q ex s')->
 ∃ ex s',Mb g k s=some (ex,s')/\ex.stop=true/\Q ex s':=by
 intro k
 induction k with
 |zero=>intro N i s h1 h2;omega
 |succ k ih=>
  intro N i s h1 h2 hI hs he;have out:(∃ ex s',g s=some (ex,s')/\ex.stop=true/\Q ex s')->∃ ex s',Mb g (k+1) s=some (ex,s')/\ex.stop=true/\Q ex s':=by
   rintro⟨ex,s',h,hx,hq⟩;refine⟨ex,s',?_,hx,hq⟩;show Pm (Mb g k) (g s)=_;rw[h];cases ex with
   |norm=>cases hx
   |exit=>rfl
   |ret=>rfl
   |goto=>rfl
  by_cases hi:i < N
  ·rcases hs i hi s hI with⟨s',h,Ns⟩ | h
   ·obtain⟨ex,s'',h2,hx,hq⟩:=ih N (i+1) s' (by omega) (by omega) Ns hs he
    refine⟨ex,s'',?_,hx,hq⟩;show Pm (Mb g k) (g s)=_;rw[h];exact h2
   ·exact out h
  ·have:i=N:=by omega
   subst this;exact out (he s hI)
theorem Gb{n:Int}(h: -9223372036854775808<=n/\n<=9223372036854775807):IntKind.i64.wrap n=n:=by
 rw[IntKind.wrap_i64];omega
theorem wrap_u8{n:Int}(h:0<=n/\n<=255):IntKind.u8.wrap n=n:=by
 have e:IntKind.u8.wrap n=n % 256:=by simp[IntKind.signed,IntKind.wrap,IntKind.bits]
 rw[e];omega
open Go.ChangeShapes Go.WideShapes Go.ChangeAt Go.RowKit
def Jw(P:Program){H:Type}(g:Nat):List TypeId->List (DataW H)->List PV
 |t::ts,d::ds=>jh P t (rowOf P g t d)::Jw P g ts ds
 |_,_=>[]
def tv(P:Program){H:Type}(g:Nat):List TypeId->List (DataW H)->Prop
 |t::ts,d::ds=>Sh P g t (rowOf P g t d)/\tv P g ts ds
 | [],[]=>True
 |_,_=>False
def Ou(P:Program)(g:Nat)(ts:List TypeId):Bool:=ts.all fun t=>Mn P g t&&P.readableRec t&&decide (t < P.types.size)
section
variable {H:Type}{enc:TypeId×Value->H}{P:Program}{w:World}{base:Nat}{held:Bool}
theorem A9:∀ {ts:List TypeId}{vs:List Value}{ds:List (DataW H)}{ps:List MemPlace}{sp:Nat->Bool},DataW.TrodAll enc P w base sp held ts vs ds ps->vs.length=ts.length/\ds.length=ts.length
 | [],[],[],_,_,_=>⟨rfl,rfl⟩
 |t::ts,v::vs,d::ds,_,_,⟨p,q,_,h,_⟩=>by have:=A9 h;simp[this.1,this.2]
 | [],_::_,_,_,_,h=>h.elim
 | [],[],_::_,_,_,h=>h.elim
 |_::_,[],_,_,_,h=>h.elim
 |_::_,_::_,[],_,_,h=>h.elim
theorem B9{r:Reach}{b0 g:Nat}:∀ {ts:List TypeId}{vs:List Value}{ds:List (DataW H)}{ps:List MemPlace},Ou P g ts=true->
 (∀ (j:Nat) t v,ts[j]? =some t->vs[j]? =some v->Value.okWide P w r b0 t v)->
 DataW.TrodAll enc P w base (fun _=>true) held ts vs ds ps->Cc (Rw w) (Jw P g ts ds) vs
 | [],[],[],_,_,_,_=> .nil
 |t::ts,v::vs,d::ds,_,ga,oe,⟨p,q,hd,h,_⟩=>by simp only[Ou,tm,fb] at ga;exact .cons _ _ _ _ (Eaa ga.1.1.1 (oe 0 t v rfl rfl) hd) (B9 (by simp only[Ou];exact ga.2) (fun j t v ht hv=>oe (j+1) t v ht hv) h)
 | [],_::_,_,_,_,_,h=>h.elim
 | [],[],_::_,_,_,_,h=>h.elim
 |_::_,[],_,_,_,_,h=>h.elim
 |_::_,_::_,[],_,_,_,h=>h.elim
theorem C9{g:Nat}:∀ {ts:List TypeId}{vs:List Value}{ds:List (DataW H)}{ps:List MemPlace},Ou P g ts=true->
 (∀ n∈DataW.weightsEach P ts ds,n<=reachBytes)->
 DataW.TrodAll enc P w base (fun _=>true) held ts vs ds ps->tv P g ts ds
 | [],[],[],_,_,_,_=>trivial
 |t::ts,v::vs,d::ds,_,ga,hw,⟨p,q,⟨fuel,hd⟩,h,_⟩=>by simp only[Ou,tm,fb] at ga;simp only[DataW.weightsEach,Bd] at hw;exact⟨rap g t fuel _ (d,p) ga.1.1.1 hd (fun n hn=>hw n (.inl hn)),C9 (by simp only[Ou];exact ga.2) (fun n hn=>hw n (.inr hn)) h⟩
 | [],_::_,_,_,_,_,h=>h.elim
 | [],[],_::_,_,_,_,h=>h.elim
 |_::_,[],_,_,_,_,h=>h.elim
 |_::_,_::_,[],_,_,_,h=>h.elim
theorem D9{g:Nat}(hl:laidOutB P=true){w':World}(hb:Below w.heap.size w w'):∀ {ts:List TypeId}{vs:List Value}{ds:List (DataW H)}{ps:List MemPlace},Ou P g ts=true->
 (∀ x∈ps,x.block < w.heap.size)->
 DataW.TrodAll enc P w 0 (fun _=>true) true ts vs ds ps->DataW.TrodAll enc P w' 0 (fun b=>decide (b < w.heap.size)) true ts vs ds ps
 | [],[],[],_,_,_,h=>h
 |t::ts,v::vs,d::ds,_,ga,hlt,⟨p,q,hd,h,e⟩=>by
  subst e;simp only[Ou,tm,fb] at ga;exact⟨p,q,Below.trod hl ga.1.1.2 (of_decide_eq_true ga.1.2) hd hb (fun x hx=>hlt x (Bd.2 (.inl hx))),
   D9 hl hb (by simp only[Ou];exact ga.2) (fun x hx=>hlt x (Bd.2 (.inr hx))) h,rfl⟩
 | [],_::_,_,_,_,_,h=>h.elim
 | [],[],_::_,_,_,_,h=>h.elim
 |_::_,[],_,_,_,_,h=>h.elim
 |_::_,_::_,[],_,_,_,h=>h.elim
end
theorem cal{H:Type}{enc:TypeId×Value->H}{C:Checked}{os:Os}{f:FuncId}{fn:Func}{F:List PV->Option PV}{s:ChangeSpec}{bt:TypeId}{ts:List TypeId}(g:Nat)
 (own:ownKnob C.prog.godebug=none) (laid:laidOutB C.prog=true) (started:os.Started) (noInit:C.prog.inits.idxOf? f=none) (hfn:C.prog.funcs[f]? =some fn)
 (witness:∃ (w:World)(tape:Tape)(i:Input),w.os=os/\(w.forCall tape i).Shaped C.prog/\i.vars=[]/\Input.okWide C.prog (w.forCall tape i) .any w.heap.size f i/\
  s.pre6 enc C.prog fn [] false (w.forCall tape i).memory i.args/\({}:Assume).holds C.prog (lone (Frame.enter C.prog f i.args .normal) [] (w.forCall tape i)))
 (hvars:s.vars=[]) (hplain:s.plain.varTypes C.prog=[]) (hts:fn.params=ts.toArray) (hres:fn.resultTypes= #[bt]) (Qs:C.prog.underlying bt=some .bool)
 (ga:Ou C.prog g ts=true) (hpure:Nb C.prog f F)
 (hspec:∀ ds:List (DataW H),ds.length=ts.length->s.fn H (ds++[])={results:=[.lit (.bool true)],args:=ds})
 (run:∀ ds:List (DataW H),tv C.prog g ts ds->F (Jw C.prog g ts ds)=some (.bool true)):
 ReturnsInHanded {} C os f .any (s.pre6 enc C.prog fn [] false) (s.post enc C.prog fn false true false false):=by
 refine returnsInHanded_of_change_sized own started noInit hfn witness ?_;intro W base args ds gs before nak hW _ Ju _;have oe:∀ (j:Nat) t v,ts[j]? =some t->args.toList[j]? =some v->Value.okWide C.prog W .any base t v:=by intro j t v ht hv;exact nak j t v (by rw[hts];simpa using ht) (by simpa using hv)
 have UY:=hW;obtain⟨p,q,ju,hV,rfl,_,_⟩:=hW;rw[hvars] at hV;obtain⟨rfl,rfl⟩:=trodVars_none hV;have hA:DataW.TrodAll enc C.prog W 0 (fun _=>true) true ts args.toList ds p:=by rw[hts] at ju;simpa using ju
 have hlt:∀ x∈p,x.block < W.heap.size:=fun x hx=>by simpa using UY.lt x (by simpa using hx)
 have hw':∀ n∈DataW.weightsEach C.prog ts ds,n<=reachBytes:=by
  intro n hn;rw[hts,hplain] at Ju;simp only[yi] at Ju;have:=Df.1 Ju n (by simpa using hn)
  simpa using this
 have hrel:=B9 ga oe hA;have hr:=run ds (C9 ga hw' hA);refine (bal hpure hrel hr).mono fun e W' ⟨he,hb⟩=> ?_
 subst he;have hs:=hspec ds (A9 hA).2
 refine⟨_,rfl,ds,[],p++[],[],p,[],UY,?_,?_,?_,hb.frame _,fun h=>by cases h⟩
 ·rw[hs,hres]
  exact trodAll_mk1 (shut_bool Qs _)
 ·rw[hs,hts]
  exact D9 laid hb ga hlt hA
 ·rw[hs,hvars]
  exact rfl
theorem eV{P:Program}{H:Type}{g:Nat}{t:TypeId}{ts:List TypeId}{ds:List (DataW H)}(h:tv P g (t::ts) ds):∃ d r,ds=d::r/\Sh P g t (rowOf P g t d)/\tv P g ts r:=by
 cases ds with
 |nil=>exact h.elim
 |cons d r=>exact⟨d,r,rfl,h.1,h.2⟩
theorem xaq{P:Program}{H:Type}{g:Nat}{ds:List (DataW H)}(h:tv P g [] ds):ds=[]:=by
 cases ds with
 |nil=>rfl
 |cons d r=>exact h.elim
theorem yaq{P:Program}{H:Type}{g:Nat}{t:TypeId}{ds:List (DataW H)}(h:tv P g [t] ds):∃ row,Jw P g [t] ds=[jh P t row]/\Sh P g t row:=by
 obtain⟨d,r,rfl,h1,h2⟩:=eV h;obtain rfl:=xaq h2;exact⟨_,rfl,h1⟩
theorem Aaq{P:Program}{H:Type}{g:Nat}{t u:TypeId}{ds:List (DataW H)}(h:tv P g [t,u] ds):∃ row row',Jw P g [t,u] ds=[jh P t row,jh P u row']/\Sh P g t row/\Sh P g u row':=by
 obtain⟨d,r,rfl,h1,h2⟩:=eV h;obtain⟨row,e,h3⟩:=yaq h2;exact⟨_,row,by rw[Jw,e],h1,h3⟩
theorem zaq{P:Program}{H:Type}{g:Nat}{t u v:TypeId}{ds:List (DataW H)}(h:tv P g [t,u,v] ds):∃ row row' D7,Jw P g [t,u,v] ds=[jh P t row,jh P u row',jh P v D7]/\Sh P g t row/\Sh P g u row'/\Sh P g v D7:=by
 obtain⟨d,r,rfl,h1,h2⟩:=eV h;obtain⟨row,row',e,h3,h4⟩:=Aaq h2;exact⟨_,row,row',by rw[Jw,e],h1,h3,h4⟩
section
variable {P:Program}{g:Nat}{t e:TypeId}{row:List PV}
theorem wJ{k:IntKind}(hu:P.underlying t=some (.int k))(h:Sh P (g+1) t row):∃ n,row=[.int k n]/\(Lit.int k n).wf=true:=by
 simpa only[Sh,hu] using h
theorem EO(hu:P.underlying t=some (.slice e))(h:Sh P (g+1) t row):
 row=[.oa]\/∃ es:List (List PV),row=[.lit (P.cellsOf e) (es.map (jh P e))]/\es.length<=maxLen/\es.length * P.bytesOf e<=reachBytes/\∀ r∈es,Sh P g e r:=by
 simpa only[Sh,hu] using h
theorem dV{fs:Array Field}(hu:P.underlying t=some (.struct fs))(h:Sh P (g+1) t row):
 ∃ rows:List (List PV),rows.length=fs.size/\row=rows.flatten/\∀ (i:Nat)(f:Field)(r:List PV),fs.toList[i]? =some f->rows[i]? =some r->Sh P g f.type r:=by
 simpa only[Sh,hu] using h
theorem Yad{k:IntKind}(hu:P.underlying t=some (.int k)){n:Int}:jh P t [.int k n]= .int k n:=by
 simp[jh,Ku,hu]
theorem vR(hu:P.underlying t=some (.slice e)){v:PV}:jh P t [v]=v:=by
 simp[jh,Ku,hu]
theorem wR{fs:Array Field}(hu:P.underlying t=some (.struct fs)):jh P t row= .agg row:=by
 simp[jh,Ku,hu]
theorem D8{k:IntKind}(hu:P.underlying t=some (.slice e))(hk:P.underlying e=some (.int k))(h:Sh P (g+2) t row):
 row=[.oa]\/∃ l:List Int,row=[.lit (P.cellsOf e) (l.map (.int k))]/\l.length<=maxLen/\l.length * P.bytesOf e<=reachBytes/\∀ n∈l,(Lit.int k n).wf=true:=by
 rcases EO hu h with h | ⟨es,rfl,h1,h2,h3⟩
 ·exact .inl h
 ·refine .inr ⟨es.map fun r=>match r with | [.int _ n]=>n | _=>0,?_,by simpa using h1,by simpa using h2,?_⟩
  ·congr 2
   rw[Iq];apply Hq;intro r hr;obtain⟨n,rfl,_⟩:=wJ hk (h3 r hr);simp[Yad hk]
  ·intro n hn
   obtain⟨r,hr,rfl⟩:=Re.1 hn
   obtain⟨n,rfl,hw⟩:=wJ hk (h3 r hr);exact hw
end
def Ia{α:Type}(Q:α->Prop):Option α->Prop
 |some a=>Q a
 |none=>False
theorem wg{α:Type}{Q:α->Prop}{o:Option α}(h:Ia Q o):∃ a,o=some a/\Q a:=by
 cases o with
 |none=>exact h.elim
 |some a=>exact⟨a,rfl,h⟩
theorem zas{α:Type}{Q:α->Prop}{o:Option α}{a:α}(h:o=some a)(hq:Q a):Ia Q o:=by subst h;exact hq
theorem Bb{α:Type}{Q R:α->Prop}{o:Option α}(h:Ia Q o)(hq:∀ a,Q a->R a):Ia R o:=by
 cases o with
 |none=>exact h.elim
 |some a=>exact hq a h
theorem Hl{α:Type}{o:Option α}{a:α}(h:Ia (fun x=>x=a) o):o=some a:=by
 cases o with
 |none=>exact h.elim
 |some b=>cases (show b=a from h);rfl
theorem Mas{α:Type}{Q:α->Prop}{a:α}:Ia Q (some a)=Q a:=rfl
theorem V9{α:Type}{Q:α->Prop}:Ia Q none=False:=rfl
theorem Cas{α:Type}{Q:α->Prop}{c:Prop}[Decidable c]{a:Option α}:Ia Q (if c then a else none)=(c/\Ia Q a):=by
 by_cases h:c
 ·simp[h]
 ·simp[h,V9]
theorem wp_map{α β:Type}{Q:β->Prop}{f:α->β}{o:Option α}:Ia Q (o.map f)=Ia (fun a=>Q (f a)) o:=by cases o <;> rfl
theorem wp_bind{α β:Type}{Q:β->Prop}{f:α->Option β}{o:Option α}:Ia Q (o.bind f)=Ia (fun a=>Ia Q (f a)) o:=by cases o <;> rfl
def BO(f:St->Option (Ex×St))(Q:Ex×St->Prop):Ex×St->Prop
 | (.norm,s)=>Ia Q (f s)
 |r=>Q r
def eH(id:Nat)(Q:Ex×St->Prop):Ex×St->Prop
 | (.exit id',s)=>if id'=id then Q (.norm,s) else Q (.exit id',s)
 |r=>Q r
theorem Tap{f:St->Option (Ex×St)}{Q:Ex×St->Prop}{s:St}:BO f Q (.norm,s)=Ia Q (f s):=rfl
theorem Uap{f:St->Option (Ex×St)}{Q:Ex×St->Prop}{s:St}:BO f Q (.ret,s)=Q (.ret,s):=rfl
theorem Sap{f:St->Option (Ex×St)}{Q:Ex×St->Prop}{s:St}{k:Nat}:BO f Q (.exit k,s)=Q (.exit k,s):=rfl
theorem nab{k:Nat}{Q:Ex×St->Prop}{s:St}:eH k Q (.norm,s)=Q (.norm,s):=rfl
theorem oab{k:Nat}{Q:Ex×St->Prop}{s:St}:eH k Q (.ret,s)=Q (.ret,s):=rfl
theorem mab{k j:Nat}{Q:Ex×St->Prop}{s:St}:eH k Q (.exit j,s)=if j=k then Q (.norm,s) else Q (.exit j,s):=rfl
theorem JJ{Q:Ex×St->Prop}{f:St->Option (Ex×St)}{r:Option (Ex×St)}:Ia Q (Pm f r)=Ia (BO f Q) r:=by
 rcases r with _ | ⟨ex,s⟩
 ·rfl
 ·cases ex <;> rfl
theorem Aas{Q:Ex×St->Prop}{k:Nat}{r:Option (Ex×St)}:Ia Q (Ym k r)=Ia (eH k Q) r:=by
 rcases r with _ | ⟨ex,s⟩
 ·rfl
 ·cases ex with
  |exit j=>show Ia Q (if j=k then _ else _)=_;by_cases h:j=k <;> simp[h,Ia,eH]
  |_=>rfl
theorem Ias{Q:Ex×St->Prop}{r:Option St}:Ia Q (Zj r)=Ia (fun s=>Q (.norm,s)) r:=by cases r <;> rfl
theorem Nas{Q:Ex×St->Prop}{f:St->Option (Ex×St)}{r:Option St}:Ia Q (zq f r)=Ia (fun s=>Ia Q (f s)) r:=by cases r <;> rfl
theorem Bas{Q:Ex×St->Prop}{f g:St->Option (Ex×St)}{s:St}{b:Bool}:Ia Q (Sq f g s (some b))=((b=true->Ia Q (f s))/\(b=false->Ia Q (g s))):=by
 cases b <;> simp[Sq]
theorem Fas{Q:St->Prop}{f:St->Option St}{r:Option St}:Ia Q (Bo f r)=Ia (fun s=>Ia Q (f s)) r:=by cases r <;> rfl
theorem Las{Q:St->Prop}{d:Option Nat}{e:Tr}{r:Option (AV×List fa)}:Ia Q (qq d e r)=Ia (fun p=>Q ⟨wi e d p.1,p.2⟩) r:=by
 rcases r with _ | ⟨v,H⟩ <;> rfl
theorem Jas{Q:AV×List fa->Prop}{H:List fa}{r:Option (AV×List fa)}:Ia Q (cz H r)=Ia (fun p=>p.2=[]/\Q (p.1,H)) r:=by
 rcases r with _ | ⟨v,_ | ⟨o,H'⟩⟩ <;> simp[cz,Ia]
def tU(rs:List Bq)(Q:AV×List fa->Prop):Ex×St->Prop
 | (.exit _,_)=>False
 | (.goto _,_)=>False
 | (_,s)=>Ia (fun vs=>Q (Ft vs,s.H)) (Ha (Ir s) rs)
theorem Sam{rs:List Bq}{Q:AV×List fa->Prop}{s:St}:tU rs Q (.norm,s)=Ia (fun vs=>Q (Ft vs,s.H)) (Ha (Ir s) rs):=rfl
theorem Tam{rs:List Bq}{Q:AV×List fa->Prop}{s:St}:tU rs Q (.ret,s)=Ia (fun vs=>Q (Ft vs,s.H)) (Ha (Ir s) rs):=rfl
theorem Kas{Q:AV×List fa->Prop}{rs:List Bq}{r:Option (Ex×St)}:Ia Q (SN rs r)=Ia (tU rs Q) r:=by
 rcases r with _ | ⟨ex,s⟩
 ·rfl
 ·cases ex with
  |exit=>rfl
  |goto=>rfl
  |norm=>rw[uU,wp_bind];rfl
  |ret=>rw[B5,wp_bind];rfl
theorem Das{Q:St->Prop}{f g:St->Option St}{s:St}{b:Bool}:Ia Q (mo f g s (some b))=((b=true->Ia Q (f s))/\(b=false->Ia Q (g s))):=by
 cases b <;> simp[mo]
theorem kao(e:Tr)(d:Nat)(v:AV):wi e (some d) v=e.set d v:=rfl
theorem jao(e:Tr)(v:AV):wi e none v=e:=rfl
def LQ(I:Nat->St->Prop)(Q:Ex×St->Prop)(k:Nat):Ex×St->Prop
 | (.norm,s)=>∃ j,j < k/\I j s
 |r=>Q r
theorem LB{g:St->Option (Ex×St)}(I:Nat->St->Prop){Q:Ex×St->Prop}:∀ (n k:Nat)(s:St),k < n->I k s->
 (∀ k t,I k t->Ia (LQ I Q k) (g t))->Ia (fun r=>r.1.stop=true/\Q r) (Mb g n s):=by
 intro n
 induction n with
 |zero=>intro k s h;omega
 |succ n ih=>
  intro k s h hI hs;show Ia _ (Pm (Mb g n) (g s));obtain⟨⟨ex,t⟩,h1,h2⟩:=wg (hs k s hI);rw[h1];cases ex with
  |norm=>obtain⟨j,hj,hJ⟩:=h2;exact ih j t (by omega) hJ hs
  |exit=>exact⟨rfl,h2⟩
  |ret=>exact⟨rfl,h2⟩
  |goto=>exact⟨rfl,h2⟩
def LN(I:Nat->St->Prop)(Q:Ex×St->Prop)(i:Nat):Ex×St->Prop
 | (.norm,s)=>I (i+1) s
 |r=>Q r
theorem We{g:St->Option (Ex×St)}(I:Nat->St->Prop){Q:Ex×St->Prop}(N:Nat)(hN:N < Ga)(s:St)(h0:I 0 s)
 (hs:∀ i t,i < N->I i t->Ia (LN I Q i) (g t)) (he:∀ t,I N t->Ia (fun r=>r.1.stop=true/\Q r) (g t)):
 Ia (fun r=>r.1.stop=true/\Q r) (Mb g Ga s):=by
 refine LB (fun k t=>∃ i,i+k=N/\I i t) Ga N s hN ⟨0,by omega,h0⟩ ?_;rintro k t ⟨i,hi,hI⟩;rcases Bx k with h | h
 ·obtain⟨⟨ex,u⟩,h1,h2,h3⟩:=wg (he t (by rw[show N=i by omega];exact hI))
  rw[h1];cases ex with
  |norm=>cases h2
  |exit=>exact h3
  |ret=>exact h3
  |goto=>exact h3
 ·obtain⟨⟨ex,u⟩,h1,h2⟩:=wg (hs i t (by omega) hI)
  rw[h1];cases ex with
  |norm=>exact⟨k - 1,by omega,i+1,by omega,h2⟩
  |exit=>exact h2
  |ret=>exact h2
  |goto=>exact h2
theorem Hak{i n:Nat}:Ta (i:Int) n=(i < n):=by unfold Ta;simp
theorem uad{i n:Nat}:decide ((i:Int) < (n:Int))=decide (i < n):=by simp
theorem sm{n:Nat}(h:n+1<=9223372036854775807):IntKind.i64.wrap ((n:Int)+1)=((n+1:Nat):Int):=Gb (by omega)
theorem Cb:deep=5+1:=rfl
theorem UO(H:List fa)(d:Nat)(p:PV):qb H d (.pv p)=some p:=by cases d <;> rfl
end Go.AM
namespace Go.AM.So
open Go.AM
def Dg(D:Array (List PV)):List AV:=D.toList.flatten.map .pv
def Gj(sz:Nat)(D:Array (List PV))(fl:Nat)(nl:Bool):fa:= .seq sz true (Dg D) fl nl
def yP(sz:Nat)(r:List PV):Prop:=r.length=sz/\∀ c∈r,(AV.pv c).one=true
theorem fE{α:Type}{sz:Nat}:∀ {l:List (List α)},(∀ r∈l,r.length=sz)->l.flatten.length=l.length * sz
 | [],_=>by simp
 |r::l,h=>by rw[um,Pc,h r (by simp),fE fun x hx=>h x (by simp[hx]),Td,Nat.add_mul];omega
theorem JH{α:Type}{sz:Nat}:∀ {l:List (List α)}{i:Nat}(hi:i < l.length),(∀ r∈l,r.length=sz)->(l.flatten.drop (i * sz)).take sz=l[i]
 |r::l,0,_,h=>by have:=h r (by simp);rw[TC,Un,um,gG (by omega),Ih (by omega)];rfl
 |r::l,i+1,hi,h=>by
  have h1:=h r (by simp);rw[um,List.getElem_cons_succ,<-JH (sz:=sz) (l:=l) (i:=i) (by simpa using hi) fun x hx=>h x (by simp[hx])];have e:(i+1) * sz=r.length+i * sz:=by rw[h1,Nat.add_mul];omega
  rw[e,yK,Vr (by omega),Kf,Uz]
theorem Lr{α:Type}:∀ (vs cs:List α)(off p:Nat),(za cs off vs)[p]? =if h:off<=p/\p < off+vs.length/\p < cs.length then vs[p - off]? else cs[p]?
 | [],cs,off,p=>by simp[za];intro h1 h2;omega
 |v::vs,cs,off,p=>by
  rw[za,Lr vs]
  by_cases hp:p=off
  ·subst hp
   rw[dif_neg (by omega)]
   by_cases hc:p < cs.length
   ·rw[Of hc,dif_pos ⟨by omega,by simp,hc⟩];simp
   ·rw[dif_neg (by omega),dh (by simp;omega),dh (by omega)]
  ·rw[ze (by omega)]
   by_cases h1:off+1<=p/\p < off+1+vs.length/\p < cs.length
   ·rw[dif_pos (by simpa using h1),dif_pos ⟨by omega,by simp;omega,by omega⟩]
    have:p - off=(p - (off+1))+1:=by omega
    rw[this,Jj]
   ·rw[dif_neg (by simpa using h1),dif_neg]
    rintro⟨h2,h3,h4⟩;simp at h3;exact h1 ⟨by omega,by omega,h4⟩
theorem Kae{α:Type}{sz:Nat}{l:List (List α)}{i:Nat}(hi:i < l.length)(h:∀ r∈l,r.length=sz){r:List α}(hr:r.length=sz):
 za l.flatten (i * sz) r=(l.set i r).flatten:=by
 induction l generalizing i with
 |nil=>simp at hi
 |cons a l ih=>
  have ha:=h a (by simp);cases i with
  |zero=>
   rw[TC,Qo,um,um];apply Nl;intro p;rw[Lr]
   by_cases hp:p < sz
   ·rw[dif_pos ⟨by omega,by omega,by rw[Pc];omega⟩,Kc (by omega)];simp
   ·rw[dif_neg (by omega),Tg (by omega),Tg (by omega),ha,hr]
  |succ i=>
   have hi':i < l.length:=by simpa using hi
   rw[mv,um,um,<-ih hi' fun x hx=>h x (by simp[hx])];have e:(i+1) * sz=a.length+i * sz:=by rw[ha,Nat.add_mul];omega
   rw[e];apply Nl;intro p;rw[Lr]
   by_cases hp:p < a.length
   ·rw[dif_neg (by omega),Kc hp,Kc hp]
   ·rw[Tg (by omega),Tg (by omega),Lr]
    have e2:(a.length+i * sz<=p/\p < a.length+i * sz+r.length/\p < (a++l.flatten).length)=(i * sz<=p - a.length/\p - a.length < i * sz+r.length/\p - a.length < l.flatten.length):=by rw[Pc];apply propext;constructor <;> rintro⟨h1,h2,h3⟩ <;> exact⟨by omega,by omega,by omega⟩
    simp only[e2];have e3:p - (a.length+i * sz)=p - a.length - i * sz:=by omega
    rw[e3]
theorem B3{α β:Type}(f:α->β):∀ (vs cs:List α)(off:Nat),(za cs off vs).map f=za (cs.map f) off (vs.map f)
 | [],cs,off=>rfl
 |v::vs,cs,off=>by rw[za,B3 f vs,Tz];rfl
theorem vM{sz:Nat}{D:Array (List PV)}(h:∀ r∈D.toList,yP sz r):(Dg D).length=D.size * sz:=by
 rw[Dg,wb,fE fun r hr=>(h r hr).1];rfl
theorem Sk(l:List PV):bd (l.map .pv)=some l:=by
 induction l with
 |nil=>rfl
 |cons a l ih=>rw[Pf,bd,ih];rfl
def Pd(H:List fa):Prop:=∀ n,H.length<=n->∀ o∈H,Fa n o=some o
theorem gq{α:Type}{f:α->Option α}:∀ {l:List α},(∀ a∈l,f a=some a)->Ha f l=some l
 | [],_=>rfl
 |a::l,h=>by rw[Ha,h a (by simp),gq fun x hx=>h x (by simp[hx])];rfl
theorem SU(sz:Nat)(D:Array (List PV))(fl:Nat)(nl:Bool)(n:Nat):Fa n (Gj sz D fl nl)=some (Gj sz D fl nl):=by
 have:(Dg D).all (AV.qc n deep)=true:=by
  rw[Df];intro v hv;obtain⟨p,_,rfl⟩:=Re.1 hv
  rfl
 simp[Fa,Gj,this]
structure Hp(id sz:Nat)(P:List PV->Prop)(H0:List fa)(D:Array (List PV))(H:List fa):Prop where
 le:H0.length<=H.length
 zk:Pd H
 qc:∀ k,k < H0.length->k≠id->H[k]? =H0[k]?
 get:∃ fl nl,fl<=D.size * sz/\H[id]? =some (Gj sz D fl nl)
 rows:∀ r∈D.toList,P r
 lt:id < H0.length
section
variable {id sz:Nat}{P:List PV->Prop}{H0 H:List fa}{D:Array (List PV)}(hP:∀ r,P r->yP sz r)
theorem Hp.refl{fl:Nat}{nl:Bool}(hg:Pd H)(hf:fl<=D.size * sz)(h:H[id]? =some (Gj sz D fl nl))(hr:∀ r∈D.toList,P r):Hp id sz P H D H:=
 ⟨gb _,hg,fun _ _ _=>rfl,⟨fl,nl,hf,h⟩,hr,(Ad.1 h).1⟩
theorem Hp.same(h:Hp id sz P H0 D H):Hp id sz P H D H:=⟨gb _,h.zk,fun _ _ _=>rfl,h.get,h.rows,Xn h.lt h.le⟩
theorem Hp.trans{H':List fa}{D':Array (List PV)}(h:Hp id sz P H0 D H)(h':Hp id sz P H D' H'):Hp id sz P H0 D' H':=
 ⟨Lj h.le h'.le,h'.zk,fun k hk Va=>(h'.qc k (Xn hk h.le) Va).trans (h.qc k hk Va),h'.get,h'.rows,h.lt⟩
theorem HY{D:Array (List PV)}{i:Nat}(hi:i < D.size):D[i]! =D[i]:=getElem!_pos D i hi
include hP
theorem Hp.Nd(h:Hp id sz P H0 D H){n:Nat}(hn:n=D.size){i:Int}{k:Nat}(hi:i=(k:Int))(hk:k < D.size):Ua H sz (.own id n) i=some (.Sb id (n * sz) (k * sz)):=by
 obtain⟨fl,nl,hf,hg⟩:=h.get
 have hl:=vM fun r hr=>hP r (h.rows r hr);subst hn hi;simp only[Ua,hg,Gj];rw[if_pos (by refine⟨trivial,?_,?_⟩ <;> first | (unfold Ta;omega) | (unfold bh;omega))];simp
theorem Hp.load(h:Hp id sz P H0 D H){n:Nat}(hn:n=D.size){k:Nat}(hk:k < D.size):wa H true sz (.Sb id (n * sz) (k * sz))=some (.pv (.agg D[k]!)):=by
 obtain⟨fl,nl,hf,hg⟩:=h.get
 have hl:=vM fun r hr=>hP r (h.rows r hr);subst hn;have hle:k * sz+sz<=D.size * sz:=by
  have:(k+1) * sz<=D.size * sz:=Rt _ hk
  rw[Nat.add_mul] at this;omega
 simp only[wa,hg,Gj,hl,tg,if_true];rw[if_pos hle];have e:((Dg D).drop (k * sz)).take sz=D[k]!.map .pv:=by rw[Dg,<-List.map_drop,<-List.map_take,JH (l:=D.toList) (i:=k) (by simpa using hk) fun r hr=>(hP r (h.rows r hr)).1,HY hk];simp
 rw[e];simp[mq,Sk]
theorem Hp.store(h:Hp id sz P H0 D H){n:Nat}(hn:n=D.size){k:Nat}(hk:k < D.size){r:List PV}(hr:P r):
 ∃ H',Db H sz (.Sb id (n * sz) (k * sz)) (.pv (.agg r))=some H'/\Hp id sz P H0 (D.setIfInBounds k r) H'/\H'.length=H.length:=by
 obtain⟨fl,nl,hf,hg⟩:=h.get
 have hl:=vM fun r hr=>hP r (h.rows r hr);subst hn;have hle:k * sz+sz<=D.size * sz:=by
  have:(k+1) * sz<=D.size * sz:=Rt _ hk
  rw[Nat.add_mul] at this;omega
 have CI:=hP r hr;have Rh:((AV.pv (.agg r)).cells.all AV.one)=true:=by
  rw[Df];intro v hv;obtain⟨c,hc,rfl⟩:=Re.1 hv
  exact CI.2 c hc
 have hlt:id < H.length:=Xn h.lt h.le
 have he:za (Dg D) (k * sz) ((AV.pv (.agg r)).cells)=Dg (D.setIfInBounds k r):=by show za (D.toList.flatten.map AV.pv) (k * sz) (r.map AV.pv)=_;rw[<- B3,Kae (by simpa using hk) (fun r hr=>(hP r (h.rows r hr)).1) CI.1,Dg,Array.toList_setIfInBounds]
 refine⟨H.set id (Gj sz (D.setIfInBounds k r) (D.size * sz) nl),?_,⟨by simpa using h.le,?_,?_,⟨D.size * sz,nl,by simp,Of hlt⟩,?_,h.lt⟩,by simp⟩
 ·simp only[Db,hg,Gj]
  have fc:(AV.pv (.agg r)).cells.length=sz:=by show (r.map AV.pv).length=sz;rw[wb];exact CI.1
  rw[if_pos ⟨fc,Rh⟩,if_pos ⟨hl,hle⟩,he]
 ·intro m hm o ho
  rcases Oo ho with h1 | h1
  ·exact h.zk m (by simpa using hm) o h1
  ·subst h1;exact SU _ _ _ _ _
 ·intro k hk Va
  rw[ze (tf Va)];exact h.qc k hk Va
 ·intro x hx
  rw[Array.toList_setIfInBounds] at hx;rcases Oo hx with h1 | h1
  ·exact h.rows x h1
  ·subst h1;exact hr
omit hP in
theorem Hp.ta(h:Hp id sz P H0 D H){n:Nat}(hn:n=H0.length)(g0:Pd H0):Ha (Fa n) (H.take n)=some (H.take n)/\Hp id sz P H0 D (H.take n)/\(H.take n).length=n:=by
 subst hn;have hle:=h.le
 have hmem:∀ o∈H.take H0.length,∀ m,H0.length<=m->Fa m o=some o:=by
  intro o ho m hm;obtain⟨k,hk⟩:=List.getElem?_of_mem ho
  have Qe:k < H0.length:=by have:=(Ad.1 hk).1;simp at this;omega
  rw[Qz Qe] at hk
  by_cases Ma:k=id
  ·subst Ma
   obtain⟨fl,nl,_,hg⟩:=h.get
   rw[hg] at hk;injection hk with hk;subst hk
   exact SU _ _ _ _ _
  ·rw[h.qc k Qe Ma] at hk
   exact g0 m hm o (vj hk)
 have hlen:(H.take H0.length).length=H0.length:=by simp;omega
 refine⟨gq fun o ho=>hmem o ho _ (gb _),⟨by omega,fun m hm o ho=>hmem o ho m (by omega),?_,?_,h.rows,h.lt⟩,hlen⟩
 ·intro k hk Va
  rw[Qz hk];exact h.qc k hk Va
 ·obtain⟨fl,nl,hf,hg⟩:=h.get
  exact⟨fl,nl,hf,by rw[Qz h.lt];exact hg⟩
end
end Go.AM.So
namespace Go.AM
theorem J{a b:Prop}(x:a)(y:b):a/\b:=⟨x,y⟩
def EV:=PLift.up (J (J (J (J (J (J (J (J @oc.eq_1 @Bap) (J @gac @haa)) (J (J @daa @gaa) (J @Y9 @X9))) (J (J (J @faa @Z9) (J @eaa @KF)) (J (J @Nam @Oam) (J @Kam @Mam)))) (J (J (J (J @Lam @Iag) (J @Hag @Dad)) (J (J @Ead @Eaq) (J @Faq @Iam))) (J (J (J @Ja.eq_1 @Ja.eq_2) (J @Ja.eq_3 @Ja.eq_4)) (J (J @Ja.eq_5 @Ja.eq_6) (J @Ja.eq_7 @Ja.eq_8))))) (J (J (J (J (J @Ja.eq_9 @Ja.eq_10) (J @Ja.eq_11 @Ja.eq_12)) (J (J @Ja.eq_13 @Ja.eq_14) (J @Ja.eq_15 @Ja.eq_16))) (J (J (J @Ja.eq_17 @Ja.eq_18) (J @Ja.eq_19 @Ja.eq_20)) (J (J @Ja.eq_21 @Ja.eq_22) (J @Ja.eq_23 @Ja.eq_24)))) (J (J (J (J @Ja.eq_25 @Ja.eq_26) (J @Ja.eq_27 @Ja.eq_28)) (J (J @Ja.eq_29 @Ja.eq_30) (J @Ja.eq_31 @Ja.eq_32))) (J (J (J @Ja.eq_33 @Ja.eq_34) (J @Ja.eq_35 @Ja.eq_36)) (J (J @Ja.eq_37 @Ja.eq_38) (J @Ja.eq_39 @Ja.eq_40)))))) (J (J (J (J (J (J (J @Ja.eq_41 @Ja.eq_42) @List.map.eq_1.{0,0}) (J @List.map.eq_2.{0,0} @List.length.eq_1.{0})) (J (J @List.length.eq_2.{0} @if_true.{0}) (J @Zr.eq_1 @Zr.eq_2))) (J (J (J @AO.ev.eq_1 @AO.ev.eq_2) (J @AO.ev.eq_3 @Tr.na)) (J (J @tj.eq_1 @tj.eq_2) (J @mao @nao)))) (J (J (J (J @iam @Qap) (J @Rap @Oap)) (J (J @mam @Sac) (J @Rac @Uaq))) (J (J (J @kab @lab) (J @jab @AV.cells.eq_1)) (J (J @AV.cells.eq_2 @AV.cells.eq_3) (J @PV.cells.eq_1 @PV.cells.eq_2))))) (J (J (J (J (J @B5 @uU) (J @Ir.eq_1 @Ir.eq_2)) (J (J @Ft.eq_1 @Ft.eq_2) (J @Ha.eq_1 @Ha.eq_2))) (J (J (J @qb.eq_1 @qb.eq_2) (J @qb.eq_3 @qb.eq_4)) (J (J @qb.eq_5 @qb.eq_6) (J @qb.eq_7 @qb.eq_8)))) (J (J (J (J @Lc.{0,0} @Vc.{0,0}) (J @AV.one.eq_1 @AV.one.eq_2)) (J (J @AV.one.eq_3 @AV.one.eq_4) (J @AV.one.eq_5 @AV.one.eq_6))) (J (J (J @List.all.eq_1.{0} @List.all.eq_2.{0}) (J @vz @true_and)) (J (J @and_self @and_true) (J @Eh.eq_1 @Eh.eq_2))))))) (J (J (J (J (J (J (J @Eh.eq_3 @Eh.eq_4) (J @Eh.eq_5 @Eh.eq_6)) (J (J @Bool.or_true @Bool.true_or) (J @tC.eq_1 @tC.eq_2))) (J (J (J @tC.eq_3 @tC.eq_4) (J @asBool.eq_1 @asBool.eq_2)) (J (J @asInt.eq_1 @asInt.eq_2) (J @Bool.not_true @Bool.not_false)))) (J (J (J (J @cn.eq_1 @cn.eq_2) (J @mq.eq_1 @xt.eq_1)) (J (J @bd.eq_1 @bd.eq_2) (J @bd.eq_3 @tal))) (J (J (J @qal @AN) (J @ual @sal)) (J (J @zN @ral) (J @Ix.eq_1 @Ix.eq_2))))) (J (J (J (J (J @Ix.eq_3 @Ix.eq_4) (J @Ix.eq_5 @ll.eq_1)) (J (J @ll.eq_2 @ll.eq_3) (J @ll.eq_4 @ll.eq_5))) (J (J (J @ll.eq_6 @ll.eq_7) (J @ll.eq_8 @ll.eq_9)) (J (J @ll.eq_10 @ll.eq_11) (J @ll.eq_12 @ll.eq_13)))) (J (J (J (J @ll.eq_14 @ll.eq_15) (J @Zd.eq_1 @Zd.eq_2)) (J (J @Zd.eq_3 @Zd.eq_4) (J @Zd.eq_5 @Zd.eq_6))) (J (J (J @Zd.eq_7 @Zd.eq_8) (J @Zd.eq_9 @Zd.eq_10)) (J (J @Zd.eq_11 @Zd.eq_12) (J @fresh.eq_1 @fresh.eq_2)))))) (J (J (J (J (J (J @fresh.eq_3 @chunk.eq_1) (J @chunk.eq_2 @List.append.eq_1.{0})) (J (J @List.append.eq_2.{0} @Kf.{0}) (J @Sg.{0} @Kj.{0}))) (J (J (J @Jj.{0} @List.getElem?_nil.{0}) (J @Qo.{0} @mv.{0})) (J (J @Td.{0} @Ch.{0}) (J @De @Vz)))) (J (J (J (J @List.drop.eq_1.{0} @List.drop.eq_2.{0}) (J @List.drop.eq_3.{0} @List.take.eq_1.{0})) (J (J @List.take.eq_2.{0} @List.take.eq_3.{0}) (J @flat.eq_1 @flat.eq_2))) (J (J (J @Bg.eq_1 @Bg.eq_2) (J @Bg.eq_3 @Bg.eq_4)) (J (J @Bg.eq_5 @Dr.eq_1) (J @Dr.eq_2 @Dr.eq_3))))) (J (J (J (J (J @Dr.eq_4 @Sc) (J @beq_self_eq_true.{0} @bne_self_eq_false.{0})) (J (J @Bool.not_eq_true @decide_true) (J @decide_false @gb))) (J (J (J @Option.bind_none.{0,0} @Option.map_none.{0,0}) (J @Zaa @Yaa)) (J (J @Uaa @Taa) (J @fO.eq_1 @Int.cast_ofNat_Int)))) (J (J (J (J @Yf.eq_1 @Yf.eq_2) (J @Ko @Bool.and_false)) (J (J @List.headD_cons.{0} @List.headD_nil.{0}) (J @Nat.lt_add_one @Xz))) (J (J (J @List.isEmpty_cons.{0} @List.isEmpty_nil.{0}) (J @AV.free.eq_1 @AV.free.eq_2)) (J (J @AV.free.eq_3 @xz) (J @Xw @Nat.mul_one))))))))
theorem SP:type_of% EV.down:=EV.down
def DV:=PLift.up (J (J @Ud.eq_1 @Ud.eq_2) (J @Ud.eq_3 @Ud.eq_4))
theorem SA:type_of% DV.down:=DV.down
def FV:=PLift.up (J (J (J @Db.eq_1 (J @Db.eq_2 @Db.eq_3)) (J (J @wa.eq_1 @wa.eq_2) (J @wa.eq_3 @wa.eq_4))) (J (J (J @tg.eq_1 @Dj.eq_1) (J @place.eq_1 @place.eq_2)) (J (J @place.eq_3 @place.eq_4) (J @za.eq_1 @za.eq_2))))
theorem SQ:type_of% FV.down:=FV.down
def HV:=PLift.up (J (J (J (J (J (J @Mas @V9) (J @Cas @wp_map)) (J (J @wp_bind @JJ) (J @Aas (J @Ias @Nas)))) (J (J (J @Bas @Fas) (J @Las @Jas)) (J (J @Das @Tap) (J @Uap (J @Sap @nab))))) (J (J (J (J @oab @mab) (J @kao @jao)) (J (J @Hak @uad) (J @Uc (J @ta.eq_1 @tidy.eq_1)))) (J (J (J @Gf.eq_1 @Gf.eq_2) (J @Za.eq_1 (J @Za.eq_2 @Fa.eq_1))) (J (J @Fa.eq_2 @Fa.eq_3) (J @Fa.eq_4 (J @Fa.eq_5 @bc)))))) (J (J (J (J (J @AV.cut.eq_1 @AV.cut.eq_2) (J @AV.cut.eq_3 @AV.cut.eq_4)) (J (J @AV.cut.eq_5 @AV.cut.eq_6) (J @AV.cut.eq_7 (J @AV.cut.eq_8 @AV.cut.eq_9)))) (J (J (J @AV.cut.eq_10 @AV.cut.eq_11) (J @Cb @UO)) (J (J @mh.eq_1 @AV.Mi.eq_1) (J @AV.Mi.eq_2 (J @AV.xi.eq_1 @AV.xi.eq_2))))) (J (J (J (J @Be.eq_1 @Aa.eq_1) (J @forall_const.{0} @true_implies)) (J (J @false_implies @imp_self) (J @not_true_eq_false (J @not_false_eq_true @Bool.true_eq_false)))) (J (J (J @false_and @and_false) (J @true_or (J @or_true @false_or))) (J (J @or_false @imp_false) (J @Kas (J @Sam @Tam)))))))
theorem WP:type_of% HV.down:=HV.down
def IV:=PLift.up (J (J @Ua.eq_1 @Ua.eq_2) (J @Ua.eq_3 @Ua.eq_4))
theorem WQ:type_of% IV.down:=IV.down
def GV:=PLift.up (J SP (J SA WP))
theorem SX:type_of% GV.down:=GV.down
open Go.RowKit
def Ai(S:Ab)(L:Nat->Option Xa):Nat->Ab
 |0=>S
 |d+1=>fun ix args H=>match L ix with
  |some f=>Gc (Ai S L d) f args H
  |none=>S ix args H
theorem eac{P:Program}{fo:Nat->FuncId}{S:Ab}{L:Nat->Option Xa}(hL:Vo P fo L)(hS:∀ B0:qd,Pr P fo B0 S):∀ (d:Nat)(B0:qd),Pr P fo B0 (Ai S L d):=by
 intro d
 induction d with
 |zero=>exact hS
 |succ d ih=>
  intro B0 ix args H v H' w R φ vs hR hl h;simp only[Ai] at h
  split at h
  ·next f hf=>exact⟨(hL ix f hf).UQ,RR (hL ix f hf) ih hR hl h⟩
  ·exact hS B0 ix args H v H' w R φ vs hR hl h
def ez(S:Ab)(L:Nat->Option Xa)(f:Xa)(args:List PV):Option PV:=(Gc (Ai S L 8) f (args.map .pv) []).bind fun r=>qb r.2 deep r.1
theorem D6{P:Program}{fo:Nat->FuncId}{S:Ab}{L:Nat->Option Xa}(hL:Vo P fo L)(hS:∀ B0:qd,Pr P fo B0 S){f:FuncId}{af:Xa}(hf:Hb P fo f af):Nb P f (ez S L af):=zW (eac hL hS 8) hf
def gm(k off:Nat)(r:List Int):Int:=if r.length=k then r.getD off 0 else 0
def encI(k:Nat)(r:List Int):List Value:=if r.length=k then r.map (.int .i64) else List.replicate k (.int .i64 0)
def Nx(k off:Nat)(x y:List Int):Int:=Lib.compareInt (gm k off x) (gm k off y)
def qm(k off:Nat)(D:Array (List Int)):Array (List Int):=Sort.pdq (Proofs.ltOf (Nx k off)) D 0 D.size (Lib.bitLen D.size) true true
theorem BN(k off:Nat)(x y:List Int):Proofs.ltOf (Nx k off) x y=decide (gm k off x < gm k off y):=by
 unfold Proofs.ltOf Nx Lib.compareInt
 by_cases h1:gm k off x < gm k off y
 ·simp[h1]
 ·by_cases h2:gm k off y < gm k off x <;> simp[h1,h2]
theorem pV(k off:Nat):Sort.SWO (Proofs.ltOf (Nx k off)) where
 irrefl x:=by rw[BN];simp
 trans x y z h1 h2:=by rw[BN] at *;simp at *;omega
 ntrans x y z h1 h2:=by rw[BN] at *;simp at *;omega
theorem LO(k off:Nat)(D:Array (List Int)):(qm k off D).size=D.size/\(qm k off D).toList.Perm D.toList/\∀ i j,i < j->j < D.size->¬gm k off (qm k off D)[j]! < gm k off (qm k off D)[i]! :=by
 have h:=Sort.pdq_sorts _ (pV k off) D 0 D.size (Lib.bitLen D.size) true true (Ql _) (gb _) (.inl rfl)
 obtain⟨⟨h1,_,h2⟩,h3⟩:=h;refine⟨h1,?_,fun i j hij hj=> ?_⟩
 ·have e1:((qm k off D).extract 0 D.size).toList=(qm k off D).toList:=by
   have:(qm k off D).size=D.size:=h1
   rw[<- this];simp
  have e2:(D.extract 0 D.size).toList=D.toList:=by simp
  rw[<- e1,<-e2];exact h2
 ·have:=h3 i j (Ql _) hij hj
  rw[BN,decide_eq_false_iff_not] at this;exact this
structure zP(P:Program)(f g:FuncId)(k off:Nat):Prop where
 call:zC P f
 many:∀ (Kx SB cap:Nat)(D:Array (List Int))(w:World),Sort.HoldsK (encI k) k w Kx SB D->Kx < w.heap.size->D.size < 4611686018427387904->
  Calls P f #[.slice (some ⟨Kx,SB,none⟩) D.size cap,.func (.func g) #[] #[]] w fun e w'=>e= .returned (.tuple #[])/\∃ n os,w'=Proofs.sortWorldK (encI k) k w Kx SB n (qm k off D) os
 none:∀ (p:Option Addr)(cap:Nat)(w:World),Calls P f #[.slice p 0 cap,.func (.func g) #[] #[]] w fun e w'=>e= .returned (.tuple #[])/\w'=w
def IB:List AV->Option (List Int)
 | []=>some []
 | .pv (.int .i64 n)::r=>(IB r).map (n:: ·)
 |_=>none
abbrev cf(l:List Int):List AV:=l.map fun n=> .pv (.int .i64 n)
theorem Z0:∀ {c:List AV}{F:List Int},IB c=some F->c=cf F
 | [],F,h=>by injection h with h;subst h;rfl
 | .pv (.int .i64 n)::r,F,h=>by simp only[IB,dc] at h;obtain⟨F',h1,rfl⟩:=h;rw[Z0 h1];rfl
theorem sN:∀ (F:List Int),IB (cf F)=some F
 | []=>rfl
 |n::F=>by show (IB (cf F)).map (n:: ·)=_;rw[sN F];rfl
def xk(k:Nat):Nat->List Int->List (List Int)
 |0,_=>[]
 |n+1,F=>F.take k::xk k n (F.drop k)
theorem PW(k:Nat):∀ (n:Nat)(F:List Int),(xk k n F).length=n
 |0,_=>rfl
 |n+1,F=>by rw[xk,Td,PW k n]
theorem QW{k:Nat}:∀ {n:Nat}{F:List Int},F.length=n * k->∀ r∈xk k n F,r.length=k
 |n+1,F,h,r,hr=>by
  rw[Nat.add_mul] at h;rcases Ae.1 hr with rfl | hr
  ·rw[ij];omega
  ·exact QW (F:=F.drop k) (by rw[uk];omega) r hr
theorem OW{k:Nat}:∀ {n:Nat}{F:List Int},F.length=n * k->(xk k n F).flatten=F
 |0,F,h=>by have:F=[]:=Ze (by omega);subst this;rfl
 |n+1,F,h=>by rw[Nat.add_mul] at h;rw[xk,um,OW (F:=F.drop k) (by rw[uk];omega),Wr]
def Pw(k off g:Nat):List AV->List fa->Option (AV×List fa)
 | [.own id len,.Ec c []],H=>match H[id]? with
   |some (.seq sz ag cells fl nl)=>if c=g/\sz=k/\len * k=cells.length/\len < 4611686018427387904 then (IB cells).map fun F=>(.pv (.Ba []),H.set id (.seq k ag (cf (qm k off (xk k len F).toArray).toList.flatten) cells.length nl)) else none
   |_=>none
 |_,_=>none
theorem Iae{k:Nat}(hk:0 < k){D:List (List Int)}(h:∀ r∈D,r.length=k){t:Nat}(ht:t < D.length * k):∃ (h1:t / k < D.length),D.flatten[t]? =D[t / k][t % k]? :=by
 have h1:t / k < D.length:=Nat.div_lt_of_lt_mul (by rw[Nat.mul_comm];exact ht)
 refine⟨h1,?_⟩;have h2:=So.JH (sz:=k) h1 h
 rw[<- h2,Qz (Cx _ hk),CK]
 congr 1
 have:=Nat.div_add_mod t k
 rw[Nat.mul_comm] at this;exact this.symm
theorem mY{k:Nat}{D:Array (List Int)}(h:∀ r∈D.toList,r.length=k){t:Nat}(ht:t < D.size * k):∃ n,D.toList.flatten[t]? =some n/\(Sort.flatK (encI k) k D)[t]! = .int .i64 n:=by
 have hk:0 < k:=by rcases Bx k with e | e;rw[e] at ht;omega;exact e
 obtain⟨h1,h2⟩:=Iae hk h (t:=t) (by simpa using ht);have Jg:t / k < D.size:=by simpa using h1
 have hr:=h _ (ic h1);have hm:t % k < (D.toList[t / k]).length:=by rw[hr];exact Cx _ hk
 refine⟨(D.toList[t / k])[t % k],by rw[h2,Rb hm],?_⟩;rw[Sort.get_flatK _ _ _ _ ht,getElem!_pos D _ Jg];have e:D[t / k]=D.toList[t / k]:=by simp
 rw[e,encI,if_pos hr,List.getElem!_eq_getElem?_getD,Gd,Rb hm];rfl
theorem lao(d arr:Array Value){t:Nat}(ht:t < d.size)(hl:d.size<=arr.size):(Sort.putCells id 0 d arr)[t]? =some d[t]! :=by
 unfold Sort.putCells
 rw[Array.getElem?_mapIdx,MJ (by omega)];simp only[Vc,xb];rw[if_pos ⟨Ql _,by omega⟩,Xz];rfl
theorem Laq(k:Nat)(w:World){b:Nat}{arr:Array Value}{ty:TypeId}{fz:Nat×Nat}(hb:w.heap[b]? =some (.cells arr ty fz))(m:Nat)(D:Array (List Int))(os:Array Obj):
 (Proofs.sortWorldK (encI k) k w b 0 m D os).heap[b]? =some (.cells (Sort.putCells id 0 (Sort.flatK (encI k) k D) arr) ty fz)/\(∀ c,c < w.heap.size->c≠b->(Proofs.sortWorldK (encI k) k w b 0 m D os).heap[c]? =w.heap[c]?)/\w.heap.size<=(Proofs.sortWorldK (encI k) k w b 0 m D os).heap.size:=by
 have hlt:b < w.heap.size:=(HF.1 hb).1
 have e:(Proofs.sortWorldK (encI k) k w b 0 m D os).heap=w.heap.modify b (Sort.onCells (Sort.putCells id 0 (Sort.flatK (encI k) k D)))++os:=rfl
 rw[e];refine⟨?_,fun c hc Va=> ?_,by simp⟩
 ·rw[Array.getElem?_append_left (by simpa using hlt),vC,if_pos rfl,hb];rfl
 ·rw[Array.getElem?_append_left (by simpa using hc),vC,qa (tf Va)]
theorem w7{fo:Nat->FuncId}{R:Rd}{φ:Pl}{H:List fa}:∀ {F:List Int}{vs:List Value},Qb fo (K R φ H) (cf F) vs->vs=F.map (.int .i64)
 | [],vs,h=>by cases h;rfl
 |n::F,vs,h=>by
  cases h with
  |cons _ _ v us h1 h2=>
   rw[w7 h2];have:=h1.xd
   cases this;rfl
theorem u1{fo:Nat->FuncId}{R:Rd}{φ:Pl}{H:List fa}:∀ (F:List Int),Qb fo (K R φ H) (cf F) (F.map (.int .i64))
 | []=> .nil
 |n::F=> .cons _ _ _ _ (.atom _ _ (show Na _ _ _ from .int _ _)) (u1 F)
theorem K8{P:Program}{fo:Nat->FuncId}{s g k off:Nat}(hS:zP P (fo s) (fo g) k off)(B0:qd):Pr P fo B0 fun ix args H=>if ix=s then Pw k off g args H else none:=by
 intro ix args H v H' w R φ vs hR hl h;dsimp only at h
 split at h
 ·next he=>
  subst he;refine⟨hS.call,?_⟩;unfold Pw at h
  split at h
  ·next H1 oid len c=>
   split at h
   ·next sz ag cells fl nl hc=>
    split at h
    ·next hcd=>
     obtain⟨rfl,rfl,hlen,QM⟩:=hcd;rw[dc] at h;obtain⟨F,hF,hv⟩:=h;injection hv with hv1 hv2
     subst hv1 hv2;have cZ:=Z0 hF;obtain⟨x,us,rfl,hx,Mh⟩:∃ x us,vs=x::us/\Yb fo (K R φ H) (.own oid len) x/\Qb fo (K R φ H) [.Ec c []] us:=by cases hl with | cons _ _ x us h1 h2=>exact⟨x,us,rfl,h1,h2⟩
     obtain⟨rfl⟩:us=[.func (.func (fo c)) #[] #[]]:=by
      cases Mh with
      |cons _ _ y zs h1 h2=>
       cases h2;cases h1 with
       |atom _ _ h=>exact h.elim
       |Ec _ _ _ h=>cases h;rfl
     have Cn:K R φ H (.own oid len) x:=by cases hx with | atom _ _ h=>exact h
     obtain⟨g0,g1,g2⟩:=Cn;obtain⟨q1,q2⟩:=g2 _ _ _ _ _ hc;obtain⟨o0,o1,o2,o3,o4⟩:=hR.obj oid _ hc
     obtain⟨q3,q4⟩:=q2 (by omega);have MY:F.length=len * sz:=by rw[cZ,wb] at hlen;exact hlen.symm
     have Xq:(xk sz len F).toArray.size=len:=by simp[PW]
     have dy:∀ r∈(xk sz len F).toArray.toList,r.length=sz:=fun r hr=>QW MY r (by simpa using hr)
     have hDf:(xk sz len F).toArray.toList.flatten=F:=by simpa using OW MY
     obtain⟨s1,s2,s3⟩:=LO sz off (xk sz len F).toArray
     have Xc:∀ r∈(qm sz off (xk sz len F).toArray).toList,r.length=sz:=fun r hr=>dy r (s2.mem_iff.1 hr)
     have hfl:(qm sz off (xk sz len F).toArray).toList.flatten.length=cells.length:=by rw[So.fE Xc,wC,s1,Xq,hlen]
     generalize hDD:(xk sz len F).toArray=D at *
     generalize vc:qm sz off D=E at *;have hk:=fun a v=>K.o8 (R:=R) (φ:=φ) (ag':=ag) (c':=cf E.toList.flatten) hc o1 (by rw[wb];exact hfl) a v
     cases nl with
     |true=>
      have QE:=q3 rfl;have su:=o2 rfl;subst QE;have Mg:len=0:=by rw[su] at hlen;rcases Wz.1 hlen with h | h <;> omega
      subst Mg;refine (hS.none none 0 w).mono ?_
      rintro e w' ⟨rfl,rfl⟩;refine⟨_,R,Zc φ oid (φ oid),rfl,?_,.atom _ _ (show Na _ _ _ from .Ba _ _ .nil),hk,Od.refl _ _⟩;refine hR.Zc (w':=w') hc (gb _) (fun _ _ _=>rfl) (fun _ _ _ _=>rfl) hR.sub hk (fun h=>by cases h) ?_
      have h0:E.toList.flatten=[]:=Ze (by rw[hfl,su];rfl)
      rw[h0];exact⟨o0,by rw[su];exact gb _,fun _=>rfl,rfl,fun h=>by cases h⟩
     |false=>
      obtain⟨k1,k2,arr,⟨ty,fz,k3,Lh⟩,k4,k5,k6⟩:=o4 rfl;rcases q4 rfl with⟨Mg,Va,_⟩ | ⟨b,o,cap,hxv,qE,_⟩
      ·rw[Mg,TC] at hlen
       exact absurd (Ze hlen.symm) Va
      ·obtain⟨rfl,rfl,rfl⟩:=qE hlen
       subst hxv;have hblk:(φ oid).1 < w.heap.size:=xg.lt ⟨ty,fz,k3,Lh⟩
       have hrel:Qb fo (K R φ H) (cf F) (arr.toList.take cells.length):=by rw[<- cZ];exact k6
       have oak:=w7 hrel;have Cai:Sort.HoldsK (encI sz) sz w (φ oid).1 0 D:=by
        intro j hj;rw[Sort.size_flatK,Xq] at hj;obtain⟨n,e1,e2⟩:=mY dy (t:=j) (by rw[Xq];exact hj);rw[De,xg.cell ⟨ty,fz,k3,Lh⟩,xg.frozen ⟨ty,fz,k3,Lh⟩ (by omega),e2];rw[hDf] at e1;have e3:(arr.toList.take cells.length)[j]? =some (.int .i64 n):=by rw[oak,Gd,e1];rfl
        rw[Qz (by omega)] at e3;exact⟨by rw[<- Array.getElem?_toList];exact e3,rfl⟩
       have xZ:=hS.many (φ oid).1 0 (φ oid).2 D w Cai hblk (by rw[Xq];exact QM)
       rw[Xq] at xZ;refine xZ.mono ?_
       rintro e w' ⟨rfl,m,os,rfl⟩;rw[vc];obtain⟨w1,w2,w3⟩:=Laq sz w k3 m E os;have Fah:Od B0 w (Proofs.sortWorldK (encI sz) sz w (φ oid).1 0 m E os):= .ON k3 rfl rfl rfl rfl w3 k1 hR.slt (hR.free oid ⟨_,hc,rfl⟩) fun b hb Va=>w2 b hb Va
       generalize Proofs.sortWorldK (encI sz) sz w (φ oid).1 0 m E os=w' at *
       refine⟨_,R,Zc φ oid (φ oid),rfl,?_,.atom _ _ (show Na _ _ _ from .Ba _ _ .nil),hk,?_⟩
       ·refine hR.Zc (w':=w') hc w3 (fun b hb Va=>w2 b hb (Va rfl)) (fun _ _ _ _=>rfl) (fun b o v hv=> ?_) hk (fun _=> .inl ⟨rfl,rfl⟩) ?_
        ·have Va:b≠(φ oid).1:=fun e=>by subst e;rw[k2] at hv;cases hv
         have hs:=hR.sub b o v hv
         have Np:b < w.heap.size:=by
          rcases yd b w.heap.size with h | h
          ·exact h
          ·simp[World.cell?,NJ h] at hs
         rw[Vk (w2 b Np Va)];exact hs
        ·refine⟨o0,by rw[wb,hfl];exact gb _,(fun h=>by cases h),?_,fun _=> ?_⟩
         ·rw[Df]
          intro a ha;obtain⟨n,_,rfl⟩:=Re.1 ha
          rfl
         ·rw[Ye]
          have ib:(Sort.putCells id 0 (Sort.flatK (encI sz) sz E) arr).size=arr.size:=by simp[Sort.putCells]
          have Qp:(Sort.flatK (encI sz) sz E).size=cells.length:=by rw[Sort.size_flatK,s1,Xq,hlen]
          refine⟨k1,k2,_,⟨ty,fz,w1,fun o ho=>Lh o (by rw[<- ib];exact ho)⟩,by rw[ib];exact k4,by rw[ib,wb,hfl];exact k5,?_⟩;have he:(Sort.putCells id 0 (Sort.flatK (encI sz) sz E) arr).toList.take (cf E.toList.flatten).length=E.toList.flatten.map (.int .i64):=by
           apply Nl;intro t;rw[wb,hfl];rcases yd t cells.length with ht | ht
           ·obtain⟨n,e1,e2⟩:=mY Xc (t:=t) (by rw[s1,Xq,hlen];exact ht)
            rw[Qz ht,Array.getElem?_toList,lao _ _ (by rw[Qp];exact ht) (by omega),e2,Gd,e1];rfl
           ·rw[dh (by rw[ij];omega),dh (by rw[wb,hfl];exact ht)]
          rw[he];exact u1 _
       ·exact Fah
    ·cases h
   ·cases h
  ·cases h
 ·cases h
end Go.AM
