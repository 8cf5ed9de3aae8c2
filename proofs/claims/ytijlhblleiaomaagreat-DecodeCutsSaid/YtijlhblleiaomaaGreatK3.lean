/- The abstract machine: its functions compute what the model's functions do; a law's call; conditions. -/
import Derived.ScopeJumps
import Derived.Test.YtijlhblleiaomaaGreatK2
import Derived.Scope
import Derived.LoopN
import Derived.ProofKit
import Derived.Carry
import Derived.SizedLaws
import Derived.OpenShut
import Derived.Handed
import Derived.Shelf.SlSortCmp.NoneTotal
set_option linter.unusedSimpArgs false
set_option linter.unusedVariables false
namespace Go.AM
open Go.RowKit
def Bu(P:Program)(f:FuncId):Prop:=∃ fn c,P.funcs[f]? =some fn/\fn.body=some c/\(fn.name== "runtime.NumGoroutine")=false
def Oa(P:Program)(f:FuncId)(F:List PV->Option PV):Prop:=
 Bu P f/\∀ (w:World)(R:Rd)(args:List PV)(vs:List Value)(r:PV),(∀ b o v,R b o=some v->w.cell? ⟨b,o,none⟩=some v)->Ve R args vs->F args=some r->
  Calls P f ⟨vs⟩ w fun e w'=>∃ v R',e= .returned v/\Below w.heap.size w w'/\Ta R' r v/\(∀ b o,b < w.heap.size->R' b o=R b o)/\∀ b o v,R' b o=some v->w'.cell? ⟨b,o,none⟩=some v
def pZ(fo:Nat->FuncId)(B0:wg)(w:World)(R:Rd)(φ:Pl)(H:List ba)(v:AV)(H':List ba)(e:Ending)(w':World):Prop:=
 ∃ u R' φ',e= .returned u/\vc fo B0 w' R' φ' H'/\Sc fo (K R' φ' H') v u/\(∀ x u,K R φ H x u->K R' φ' H' x u)/\oh B0 w w'
def Rr(P:Program)(fo:Nat->FuncId)(B0:wg)(call:Sa):Prop:=
 ∀ (ix:Nat)(args:List AV)(H:List ba)(v:AV)(H':List ba)(w:World)(R:Rd)(φ:Pl)(vs:List Value),vc fo B0 w R φ H->mb fo (K R φ H) args vs->call ix args H=some (v,H')->
  Bu P (fo ix)/\Calls P (fo ix) ⟨vs⟩ w (pZ fo B0 w R φ H v H')
def kH(P:Program)(fo:Nat->FuncId):Op->Od->Bool
 | .call {callee:= .value (.func _),args,..},.Hq _ ys=>JE fo args.toList ys
 | .call {callee:= .value (.func f),args,..},.zg ix ys=>fo ix==f&&JE fo args.toList ys
 | .call {callee:= .value (.func f),args,..},.pG ix ys=>fo ix==f&&JE fo args.toList ys
 | .call {callee:= .value x,args,..},.iE y ys=>Xm fo x y&&JE fo args.toList ys
 |_,_=>false
def ZP:Op->Od->List (FuncId×(List PV->Option PV))
 | .call {callee:= .value (.func f),..},.Hq F _=>[(f,F)]
 |_,_=>[]
section
variable {P:Program}{fo:Nat->FuncId}{B0:wg}{call:Sa}
theorem Nr{f:FuncId}(hf:Bu P f){caps args:Array Value}(w:World):(invoke (.fn (.func f) caps) args).run P w= .ok (.enter f (args++caps)) w:=by
 obtain⟨fn,c,h1,h2,h3⟩:=hf;have h3':¬fn.name= "runtime.NumGoroutine" :=by simpa using h3
 simp[invoke,callFunc,h1,h2,h3']
theorem LS{o:Oper}{op:Op}{aop:Od}(ho:o.op=op)(Ba:kH P fo op aop=true)(hd:∀ d∈ZP op aop,Oa P d.1 d.2)(hc:Rr P fo B0 call)
 {w:World} {R:Rd} {φ:Pl} {e:Tr} {H H':List ba} {a:Act} {v:AV} (hS:vc fo B0 w R φ H) (hE:ij fo (K R φ H) e a) (E7:xa call e H aop=some (v,H')):tC P fo B0 o a w R φ H v H':=by
 intro next Q hn
 unfold kH at Ba
 split at Ba
 ·
  rename_i f args tys F ys;have hpf:=hd (f,F) (by simp[ZP]);obtain⟨lab,hp⟩:=hpf;simp only[xa,uaa] at E7;obtain⟨ps,h1,r,h2,h3⟩:=E7
  split at h3
  ·rename_i Iab
   simp only[eaa,vaa] at h3;obtain⟨rfl,rfl⟩:=h3;have hl:=Mt (R:=R) (φ:=φ) (H:=H) hE Ba;have L7:(execOp a.eval o).run P w= .ok (.enter f ⟨args.toList.map a.eval⟩) w:=by
    have:=Nr (P:=P) lab (caps:= #[]) (args:= #[]++args.map a.eval) w;simp only[execOp,ho,resolve,Act.eval,Deferred.ofValue,Sem.run_bind,Sem.run_pure,Result.andThen_ok,this]
    congr 2
    apply Qac;simp
   unfold Oper.wp
   rw[L7,Oper.upon_enter];have fin:∀ (R1:Rd),(∀ b o v,R1 b o=some v->w.cell? ⟨b,o,none⟩=some v)->Ve R1 ps (args.toList.map a.eval)->(∀ {R':Rd}{v:Value},(∀ b o,b < w.heap.size->R' b o=R1 b o)->(∀ b o v,R' b o=some v->R1 b o=some v\/w.heap.size<=b)->Ta R' r v->Ta (fun b o=>if b < w.heap.size then R b o else R' b o) r v)->
    Calls P f ⟨args.toList.map a.eval⟩ w fun x w''=>match x,w'' with
     | .returned v,w''=>next (a.put o.dst v) w''
     | .panicked chain,w''=>Q (.panic chain) a w''
     | .outgrown,_=>LetsOut Q:=by
    intro R1 hR1 R9 hres;refine Calls.mono (hp w R1 ps _ r hR1 R9 h2) ?_
    rintro e w' ⟨v,R',rfl,hb,hv,Jab,hcell⟩;simp only;have hsub:Sub R (fun b o=>if b < w.heap.size then R b o else R' b o):=by intro b o v h;have:=Em (hS.sub b o v h);simp[this,h]
    have hk:=fun x u h=>K.sub (R:=R) (φ:=φ) (H:=H) hsub x u h
    refine hn v w' (fun b o=>if b < w.heap.size then R b o else R' b o) φ ⟨sac hS.low hb.size,fun b o v h=> ?_,fun id ob hob=> ?_,hS.inj,fun b o hlt=> ?_,fun k hk=>eac (hS.slt k hk) hb.size,hS.free⟩ (.atom _ _ (show Ta _ _ _ from ?_)) hk (.iy hb hS.low hS.slt)
    ·try dsimp only at h
     split at h
     ·rename_i hlt
      rw[Rf (hb.block b hlt)];exact hS.sub b o v h
     ·exact hcell b o v h
    ·have hO:=hS.obj id ob hob
     exact hO.ie (fun hl=>⟨hb.block _ (hO.lt hl),fun j hj=>by (try dsimp only);rw[if_pos (hO.lt hl)];exact hj⟩) rfl hk
    ·have:=hS.low
     try dsimp only
     rw[if_pos (by omega)];exact hS.Dq b o hlt
    ·refine hres Jab (fun b o v h=> ?_) hv
     rcases Xaa b w.heap.size with hlt | hge
     ·rw[Jab b o hlt] at h;exact .inl h
     ·exact .inr hge
   simp only[Oac] at Iab;rcases Iab with Iab | kah
   ·refine fin R hS.sub (sQ (w:=w) Iab hl h1) fun {R' v} Jab _ hv=>hv.mono fun b o u hu=> ?_
    try dsimp only
    split
    ·rename_i hlt;rw[<- Jab b o hlt];exact hu
    ·exact hu
   ·exact fin (Rw w) (fun b o v h=>h) (TU hS hl h1) fun {R' v} _ _ hv=>FN kah hv
  ·cases h3
 ·
  rename_i f args tys ix ys;simp only[daa,beq_iff_eq] at Ba;obtain⟨rfl,Ba⟩:=Ba;have hl:=Mt (R:=R) (φ:=φ) (H:=H) hE Ba;simp only[xa] at E7;obtain⟨lab,P9⟩:=hc ix _ H v H' w R φ _ hS hl E7;have L7:(execOp a.eval o).run P w= .ok (.enter (fo ix) ⟨args.toList.map a.eval⟩) w:=by
   have:=Nr (P:=P) lab (caps:= #[]) (args:= #[]++args.map a.eval) w;simp only[execOp,ho,resolve,Act.eval,Deferred.ofValue,Sem.run_bind,Sem.run_pure,Result.andThen_ok,this]
   congr 2
   apply Qac;simp
  unfold Oper.wp
  rw[L7,Oper.upon_enter];refine Calls.mono P9 ?_
  rintro e w' ⟨u,R',φ',rfl,k1,k2,k3,k4⟩;exact hn u w' R' φ' k1 k2 k3 k4
 ·
  rename_i f args tys ix ys;simp only[daa,beq_iff_eq] at Ba;obtain⟨rfl,Ba⟩:=Ba;have hl:=Mt (R:=R) (φ:=φ) (H:=H) hE Ba;simp only[xa,uaa] at E7;obtain⟨r,E7,h3⟩:=E7
  split at h3
  case isFalse=>cases h3
  injection h3 with h3
  subst h3;obtain⟨lab,P9⟩:=hc ix _ H v H' w R φ _ hS hl E7;have L7:(execOp a.eval o).run P w= .ok (.enter (fo ix) ⟨args.toList.map a.eval⟩) w:=by
   have:=Nr (P:=P) lab (caps:= #[]) (args:= #[]++args.map a.eval) w;simp only[execOp,ho,resolve,Act.eval,Deferred.ofValue,Sem.run_bind,Sem.run_pure,Result.andThen_ok,this]
   congr 2
   apply Qac;simp
  unfold Oper.wp
  rw[L7,Oper.upon_enter];refine Calls.mono P9 ?_
  rintro e w' ⟨u,R',φ',rfl,k1,k2,k3,k4⟩;exact hn u w' R' φ' k1 k2 k3 k4
 ·
  rename_i x args tys y ys;simp only[daa] at Ba;obtain⟨hx,Ba⟩:=Ba;have hl:=Mt (R:=R) (φ:=φ) (H:=H) hE Ba;have hxr:=Rb (R:=R) (φ:=φ) (H:=H) hE hx;simp only[xa] at E7
  split at E7
  ·rename_i ix caps hy
   rw[hy] at hxr;have hcr:∃ us:List Value,a.eval x= .func (.func (fo ix)) #[] ⟨us⟩/\mb fo (K R φ H) caps us:=by
    generalize a.eval x=vx at hxr
    cases hxr with
    |atom _ _ h=>exact h.elim
    |Ol _ _ us h=>exact⟨us,rfl,h⟩
   obtain⟨us,hu,hur⟩:=hcr;obtain⟨lab,P9⟩:=hc ix _ H v H' w R φ _ hS (hl.append hur) E7;have L7:(execOp a.eval o).run P w= .ok (.enter (fo ix) ⟨args.toList.map a.eval++us⟩) w:=by
    have:=Nr (P:=P) lab (caps:=⟨us⟩) (args:= #[]++args.map a.eval) w;simp only[execOp,ho,resolve,hu,Deferred.ofValue,Sem.run_bind,Sem.run_pure,Result.andThen_ok,this]
    congr 2
    apply Qac;simp
   unfold Oper.wp
   rw[L7,Oper.upon_enter];refine Calls.mono P9 ?_
   rintro e w' ⟨u,R',φ',rfl,k1,k2,k3,k4⟩;exact hn u w' R' φ' k1 k2 k3 k4
  ·cases E7
 ·cases Ba
mutual
def dX:PV->Value
 | .int k n=> .int k n
 | .bool b=> .bool b
 | .str s=> .string s
 | .qf=> .pointer none
 | .ga=> .slice none 0 0
 | .nw=> .map none
 | .Pw=> .nilFunc
 | .PB=> .nilIface
 | .agg cs=> .agg ⟨Ps cs⟩
 | .mc cs=> .tuple ⟨Ps cs⟩
 |_=>undef
def Ps:List PV->List Value
 | []=>[]
 |c::cs=>dX c::Ps cs
end
mutual
theorem ER{R:Rd}:∀ {p:PV},Nj p=true->Ta R p (dX p)
 | .int _ _,_=> .int _ _
 | .bool _,_=> .bool _
 | .str _,_=> .str _
 | .qf,_=> .qf
 | .ga,_=> .ga
 | .nw,_=> .nw
 | .Pw,_=> .Pw
 | .PB,_=> .PB
 | .agg cs,h=> .agg _ _ (nH (by simpa[Nj] using h))
 | .mc cs,h=> .mc _ _ (nH (by simpa[Nj] using h))
 | .rp _ _,h=>by simp[Nj] at h
 | .lit _ _,h=>by simp[Nj] at h
 | .iface _ _,h=>by simp[Nj] at h
theorem nH{R:Rd}:∀ {ps:List PV},Jp ps=true->Ve R ps (Ps ps)
 | [],_=> .nil
 |p::ps,h=>by simp only[Jp,daa] at h;exact .cons _ _ _ _ (ER h.1) (nH h.2)
end
structure Lq(P:Program)(f:FuncId)(F:List PV->Option (List (List PV))):Prop where
 call:Bu P f
 go:∀ (caps:List PV)(vs:List Value)(xs:List (List PV)),F caps=some xs->(∀ x∈xs,Jp x=true)->∀ (R:Rd)(l:Nat)(J:Nat->(Nat->Prop)->World->Prop)(Jx:World->Prop)(W:World),Ve R caps vs->(∀ b o v,R b o=some v->W.cell? ⟨b,o,none⟩=some v)->
  (∀ (i:Nat)(T:Nat->Prop)(A B:World)(T':Nat->Prop),J i T A->RowKit.Below A.heap.size A B->(∀ k,T' k->T k\/(A.heap.size<=k/\k < B.heap.size))->J i T' B)->(∀ A B,Jx A->RowKit.Below A.heap.size A B->Jx B)->
  (∀ i T A,J i T A->∃ R':Rd,(∀ b o v,R' b o=some v->A.cell? ⟨b,o,none⟩=some v)/\∀ p v,Ta R p v->Ta R' p v)->
  (∀ i x T A,xs[i]? =some x->J i T A->YieldAt Fence.wide 0 P l ⟨Ps x⟩ A fun e B=>(e= .returned (.bool true)/\J (i+1) T B/\∀ k,T k->B.heap[k]? =A.heap[k]?)\/(e= .returned (.bool false)/\Jx B))->
  J 0 (fun _=>False) W->Calls P f ⟨.func (.yield l) #[] #[]::vs⟩ W fun e B=>(∃ v,e= .returned v)/\((∃ T,J xs.length T B)\/Jx B)
def P4:Obj->Bool
 | .loop _=>true
 | .deferred _=>true
 |_=>false
theorem xC.apart{w:World}{R:Rd}{φ:Pl}{H:List ba}{id:Nat}{o:ba}(h:xC fo B0 w R φ H id o)(hl:sq o){l:Nat}{ob:Obj}(hb:w.heap[l]? =some ob)(hk:P4 ob=true):(φ id).1≠l:=by
 have cells:∀ arr,Nz w (φ id).1 arr->(φ id).1≠l:=by rintro arr ⟨ty,fz,h1,_⟩ e;rw[e,hb] at h1;cases h1;cases hk
 cases o with
 |box c=>obtain⟨_,_,_,arr,h3,_⟩:=h;exact cells arr h3
 |seq sz ag c fl nl=>obtain⟨_,_,arr,h3,_⟩:=h.2.2.2.2 hl;exact cells arr h3
 |tok sz n nl=>obtain⟨_,_,arr,h3,_⟩:=h.2.2 hl;exact cells arr h3
 |map es=>obtain⟨_,_,N7,clk,h3,_⟩:=h;intro e;rw[e,hb] at h3;cases h3;cases hk
 |dead=>exact hl.elim
theorem vc.later{A B:World}{R:Rd}{φ:Pl}{H:List ba}(h:vc fo B0 A R φ H)(hb:RowKit.Below A.heap.size A B):vc fo B0 B R φ H:=
 ⟨sac h.low hb.size,fun b o v hv=>by have:=h.sub b o v hv;rw[Rf (hb.block b (Em this))];exact this,
  fun id o ho=>(h.obj id o ho).ie (fun hl=>⟨hb.block _ ((h.obj id o ho).lt hl),fun _ hj=>hj⟩) rfl fun _ _ h=>h,h.inj,h.Dq,fun k hk=>eac (h.slt k hk) hb.size,h.free⟩
theorem vc.V1{A:World}{R:Rd}{φ:Pl}{H:List ba}(h:vc fo B0 A R φ H){l:Nat}{ob:Obj}(hb:A.heap[l]? =some ob)(hk:P4 ob=true)(o':Obj):vc fo B0 (A.putObj l o') R φ H:=by
 have ne:∀ b o v,R b o=some v->b≠l:=by
  intro b o v hv e;have:=h.sub b o v hv
  rw[e] at this;simp only[World.cell?,hb] at this;cases ob <;> first | (cases hk;done) | simp at this
 refine⟨by rw[World.putObj_size];exact h.low,fun b o v hv=>by have:=h.sub b o v hv;rw[Rf (World.putObj_heap_other (ne b o v hv))];exact this,
  fun id o ho=>(h.obj id o ho).ie (fun hl=>⟨World.putObj_heap_other ((h.obj id o ho).apart hl hb hk),fun _ hj=>hj⟩) rfl fun _ _ h=>h,h.inj,h.Dq,fun k hk=>by rw[World.putObj_size];exact h.slt k hk,h.free⟩
theorem oh.put{w A:World}(h:oh B0 w A)(h0:B0.n<=w.heap.size)(hs:∀ k,B0.S k->k < w.heap.size){l:Nat}(hl:w.heap.size<=l)(o':Obj):oh B0 w (A.putObj l o'):=
 ⟨⟨h.os,h.tape,h.output,by rw[World.putObj_size];exact h.size,fun k hk=>by rw[World.putObj_heap_other (by omega)];exact h.block k hk⟩,
  fun k o h1 h2=>by rw[World.putObj_heap_other (by have:=Mm h1;omega)];exact h.ie k o h1 h2,
  fun k hk=>by rw[World.putObj_heap_other (by have:=hs k hk;omega)];exact h.held k hk⟩
theorem oh.later{w A B:World}(h:oh B0 w A)(h0:B0.n<=w.heap.size)(hs:∀ k,B0.S k->k < w.heap.size)(hb:RowKit.Below A.heap.size A B):oh B0 w B:=
 h.trans (.iy hb (sac h0 h.size) fun k hk=>eac (hs k hk) h.size)
def wg.and(B:wg)(T:Nat->Prop):wg:=⟨B.n,B.R,fun k=>B.S k\/T k⟩
theorem vc.weaken{T:Nat->Prop}{A:World}{R:Rd}{φ:Pl}{H:List ba}(h:vc fo (B0.and T) A R φ H):vc fo B0 A R φ H:=
 ⟨h.low,h.sub,fun id o ho=>by have:=h.obj id o ho;cases o <;> exact this,h.inj,h.Dq,fun k hk=>h.slt k (.inl hk),fun i hi hs=>h.free i hi (.inl hs)⟩
theorem vc.grow{T T':Nat->Prop}{A B:World}{R:Rd}{φ:Pl}{H:List ba}(h:vc fo (B0.and T) A R φ H)(hb:RowKit.Below A.heap.size A B)(ht:∀ k,T' k->T k\/(A.heap.size<=k/\k < B.heap.size)):vc fo (B0.and T') B R φ H:=by
 have h':=h.later hb
 refine⟨h'.low,h'.sub,fun id o ho=>by have:=h'.obj id o ho;cases o <;> exact this,h'.inj,h'.Dq,fun k hk=> ?_,fun i hi hs=> ?_⟩
 ·rcases hk with hk | hk
  ·exact h'.slt k (.inl hk)
  ·rcases ht k hk with hk | hk
   ·exact h'.slt k (.inr hk)
   ·exact hk.2
 ·rcases hs with hs | hs
  ·exact h.free i hi (.inl hs)
  ·rcases ht _ hs with hs | hs
   ·exact h.free i hi (.inr hs)
   ·obtain⟨o,ho,hl⟩:=hi
    have:=(h.obj i o ho).lt hl
    omega
theorem oh.weaken{T:Nat->Prop}{w A:World}(h:oh (B0.and T) w A):oh B0 w A:=⟨h.toBelow,h.ie,fun k hk=>h.held k (.inl hk)⟩
theorem UD(f:List PV->List ba->Option (Ex×St)):∀ (pre post:List (List PV)){H H1:List ba},Lj f pre H=some (.norm,H1)->Lj f (pre++post) H=Lj f post H1:=by
 intro pre
 induction pre with
 |nil=>intro post H H1 h;simp only[Lj] at h;injection h with h;injection h with _ h;subst h;rfl
 |cons x pre ih=>
  intro post H H1 h;simp only[Lj,fab] at h ⊢;cases hf:f x H with
  |none=>rw[hf] at h;cases h
  |some r=>
   obtain⟨ex,s⟩:=r;rw[hf] at h;cases ex with
   |norm=>exact ih post h
   |exit id=>simp only[Xr] at h;injection h with h;injection h with h _;cases h
   |ret=>simp only[Xr] at h;injection h with h;injection h with h _;cases h
   |goto l=>simp only[Xr] at h;cases h
theorem vV{g:List ba->Option (Ex×List ba)}{ex:Ex}{s:St}{r:Ex×List ba}(hx:ex≠ .norm)(h:Xr g (some (ex,s))=some r):r=(ex,s.H):=by
 cases ex with
 |norm=>exact absurd rfl hx
 |exit id=>simp only[Xr] at h;injection h with h;exact h.symm
 |ret=>simp only[Xr] at h;injection h with h;exact h.symm
 |goto l=>simp only[Xr] at h;cases h
def Jt(P:Program)(fo:Nat->FuncId)(nt:Nat)(ops:Array Oper):List Oper->List wb->Bool
 | [],[]=>true
 |o::os,ao::aos=>BA nt ops o ao&&(MW P fo o.op ao.op||kH P fo o.op ao.op)&&(!ao.pr||decide (ao.op.cls<=1))&&Jt P fo nt ops os aos
 |_,_=>false
def Gw:List Oper->List wb->List (FuncId×(List PV->Option PV))
 |o::os,ao::aos=>ZP o.op ao.op++Gw os aos
 |_,_=>[]
def Ja.plain:Ja->Bool
 | .scope _=>false
 | .jumps _ _ _=>false
 | .range _ _ _ _ _ _=>false
 | .RA _ _ _ _ _ _=>false
 | .seq a b=>a.plain&&b.plain
 | .cond _ a b=>a.plain&&b.plain
 | .block _ b=>b.plain
 | .loop _ b=>b.plain
 | .bp _ b=>b.plain
 | .ghost _ b=>b.plain
 |_=>true
def Ja.DL:Ja->Bool
 | .goto _=>false
 | .seq a b=>a.DL&&b.DL
 | .cond _ a b=>a.DL&&b.DL
 | .block _ b=>b.DL
 | .loop _ b=>b.DL
 | .bp _ b=>b.DL
 | .ghost _ b=>b.DL
 | .scope b=>b.DL
 |_=>true
def OV(nt:Nat):List Oper->List (Nat×Nat)->Bool
 | [],[]=>true
 |⟨some d,.assign (.tmp t),_,_,_,none⟩::os,(d',t')::r=>d==d'&&t==t'&&decide (d < nt)&&OV nt os r
 |_,_=>false
def wO(nt:Nat):Code->List (Nat×Nat)->Bool
 | .region _ ops false,r=>OV nt ops.toList r
 | .skip,[]=>true
 |_,_=>false
def tY(P:Program)(fo:Nat->FuncId)(nt:Nat):Code->List wb->Bool
 | .region _ ops false,pre=>Jt P fo nt ops ops.toList pre
 |_,_=>false
def GR:Code->List wb->List (FuncId×(List PV->Option PV))
 | .region _ ops _,pre=>Gw ops.toList pre
 |_,_=>[]
def Ed(P:Program)(fo:Nat->FuncId)(nt:Nat):Code->Ja->Bool
 |c,.ghost _ ac=>Ed P fo nt c ac
 | .skip,.skip=>true
 | .label _,.skip=>true
 | .scope b,.scope b'=>b'.DL&&Ed P fo nt b b'
 | .scope c,.jumps l a b=>Ed P fo nt c a&&(match findLabel c l with | some r=>Ed P fo nt r b | none=>false)
 | .goto l,.goto l'=>l==l'
 | .region _ ops draw,.region aops=>Jt P fo nt ops ops.toList aops&&(!draw||(P.follows .mixedOrders&&SO ops aops))
 | .seq a b,.seq a' b'=>Ed P fo nt a a'&&Ed P fo nt b b'
 | .cond c a b,.cond c' a' b'=>Xm fo c c'&&Ed P fo nt a a'&&Ed P fo nt b b'
 | .block id b,.block id' b'=>id==id'&&Ed P fo nt b b'
 | .loop b,.loop _ b'=>Ed P fo nt b b'
 | .loop b,.bp _ b'=>Ed P fo nt b b'
 | .exit id,.exit id'=>id==id'
 | .ret,.ret=>true
 | .rangeFunc g ps assign body,.range _ _ g' ps' asg b=>Xm fo g g'&&ps.toList==ps'&&ps'.all (fun t=>decide (t < nt))&&wO nt assign asg&&Ed P fo nt body b&&b.plain
 | .rangeFunc g ps assign body,.RA _ _ g' ps' pre b=>Xm fo g g'&&ps.toList==ps'&&ps'.all (fun t=>decide (t < nt))&&tY P fo nt assign pre&&Ed P fo nt body b&&b.plain
 |_,_=>false
def lg:Code->Ja->List (FuncId×(List PV->Option PV))
 |c,.ghost _ ac=>lg c ac
 | .region _ ops _,.region aops=>Gw ops.toList aops
 | .seq a b,.seq a' b'=>lg a a'++lg b b'
 | .cond _ a b,.cond _ a' b'=>lg a a'++lg b b'
 | .block _ b,.block _ b'=>lg b b'
 | .scope b,.scope b'=>lg b b'
 | .scope c,.jumps l a b=>lg c a++(match findLabel c l with | some r=>lg r b | none=>[])
 | .loop b,.loop _ b'=>lg b b'
 | .loop b,.bp _ b'=>lg b b'
 | .rangeFunc _ _ _ b,.range _ _ _ _ _ b'=>lg b b'
 | .rangeFunc _ _ c b,.RA _ _ _ _ pre b'=>GR c pre++lg b b'
 |_,_=>[]
def Qd:Ja->List (Nat×(List PV->Option (List (List PV))))
 | .range ix F _ _ _ b=>(ix,F)::Qd b
 | .RA ix F _ _ _ b=>(ix,F)::Qd b
 | .seq a b=>Qd a++Qd b
 | .cond _ a b=>Qd a++Qd b
 | .block _ b=>Qd b
 | .scope b=>Qd b
 | .jumps _ a b=>Qd a++Qd b
 | .loop _ b=>Qd b
 | .bp _ b=>Qd b
 | .ghost _ b=>Qd b
 |_=>[]
theorem MY{P:Program}{fo:Nat->FuncId}{op:Op}{aop:Od}(h:MW P fo op aop=true):∀ c,op≠ .defer c:=by
 rintro c rfl;cases aop <;> simp[MW] at h
theorem NU{P:Program}{fo:Nat->FuncId}{op:Op}{aop:Od}(h:kH P fo op aop=true):∀ c,op≠ .defer c:=by
 rintro c rfl;cases aop <;> simp[kH] at h
theorem qO{nt:Nat}{ops:Array Oper}{aops:List wb}(hc:Rr P fo B0 call)(Ba:Jt P fo nt ops ops.toList aops=true)(hd:∀ d∈Gw ops.toList aops,Oa P d.1 d.2):tN P fo B0 call nt ops aops:=by
 have key:∀ {os:List Oper}{aos:List wb},Jt P fo nt ops os aos=true->(∀ d∈Gw os aos,Oa P d.1 d.2)->aos.length=os.length/\∀ (i:Nat)(o:Oper)(ao:wb),os[i]? =some o->aos[i]? =some ao->BA nt ops o ao=true/\B3 P fo B0 call o ao/\∀ c,o.op≠ .defer c:=by
  intro os
  induction os with
  |nil=>
   intro aos h _;cases aos with
   |nil=>exact⟨rfl,fun i o ao h=>by simp at h⟩
   |cons _ _=>simp[Jt] at h
  |cons o os ih=>
   intro aos h hd;cases aos with
   |nil=>simp[Jt] at h
   |cons ao aos=>
    simp only[Jt,daa,Oac,tac,decide_eq_true_eq] at h;obtain⟨⟨⟨h1,h2⟩,hpr⟩,h3⟩:=h;obtain⟨k1,k2⟩:=ih h3 fun d o9=>hd d (by simp[Gw,o9]);refine⟨by simp[k1],fun i x y hx hy=> ?_⟩;cases i with
    |zero=>
     simp at hx hy;subst hx;subst hy;refine⟨h1,?_,h2.elim MY NU⟩;intro w R φ e H H' a v hS hE E7;have E7:xa call e H ao.op=some (v,H'):=by
      unfold Ik at E7;cases hp:ao.pr with
      |false=>simpa[hp] using E7
      |true=>
       simp only[hp,cond_true] at E7;obtain⟨k,rfl⟩:=OM E7;have hpr:ao.op.cls<=1:=hpr.resolve_left (by rw[hp];simp)
       have:ao.op.cls=0\/ao.op.cls=1:=by omega
       rcases this with h0 | h0
       ·exact (K5 h0 k).2 H'
       ·exact (jZ h0 k).2 H' (fun id o h=>by simp at h)
     rcases h2 with h2 | h2
     ·exact MP rfl h2 hS hE E7
     ·exact LS rfl h2 (fun d o9=>hd d (by simp[Gw,o9])) hc hS hE E7
    |succ i=>exact k2 i x y (by simpa using hx) (by simpa using hy)
 obtain⟨k1,k2⟩:=key Ba hd;exact⟨by simpa using k1,fun i o ao h1 h2=>(k2 i o ao (by simpa using h1) h2).1,fun i o ao h1 h2=>(k2 i o ao (by simpa using h1) h2).2.1,fun i o ao h1 h2=>(k2 i o ao (by simpa using h1) h2).2.2⟩
def Ex.to:Ex->Exit
 | .norm=> .normal
 | .exit id=> .exit id
 | .ret=> .ret
 | .goto l=> .goto l
theorem oj{f:St->Option (Ex×St)}{r:Option (Ex×St)}{x:Ex×St}(h:Tz f r=some x):(∃ s,r=some (.norm,s)/\f s=some x)\/(r=some x/\x.1≠ .norm):=by
 cases r with
 |none=>cases h
 |some y=>
  obtain⟨ex,s⟩:=y;cases ex with
  |norm=>exact .inl ⟨s,rfl,h⟩
  |exit id=>simp only[Tz,eaa] at h;subst h;exact .inr ⟨rfl,by simp⟩
  |ret=>simp only[Tz,eaa] at h;subst h;exact .inr ⟨rfl,by simp⟩
  |goto l=>simp only[Tz,eaa] at h;subst h;exact .inr ⟨rfl,by simp⟩
theorem Qt{f:St->Option (Ex×St)}{r:Option St}{x:Ex×St}(h:Fp f r=some x):∃ s,r=some s/\f s=some x:=by
 cases r with
 |none=>cases h
 |some s=>exact⟨s,rfl,h⟩
theorem JD{k:AV->Value->Prop}{e:Tr}{a:Act}(hE:ij fo k e a):∀ (l:List Nat),ij fo k (Hc e l) a
 | []=>fun t=> .undef _
 |x::l=>fun t=>by
  simp only[Hc];rw[Tr.aa]
  split
  ·rename_i ht;subst ht;exact hE t
  ·exact JD hE l t
theorem XI{w0 w:World}{R0 R:Rd}{φ0 φ:Pl}{H0:List ba}{a0 a:Act}{s:St}(l:List Nat)(g:Hn fo B0 w0 R0 φ0 H0 a0 w R φ s a):Hn fo B0 w0 R0 φ0 H0 a0 w R φ (tidy l s) a:=
 ⟨g.rel,JD g.env l,g.mono,g.below,g.size,g.defers⟩
theorem TY{ro:Option Nat}{n nt:Nat}{assign:Code}{asg:List (Nat×Nat)}(Ba:wO nt assign asg=true){k:AV->Value->Prop}{e:Tr}{a:Act}{w:World}(hE:ij fo k e a)(hn:a.tmps.size=nt){Q:Exit->Act->World->Prop}
 (hq:∀ a',ij fo k (jD asg e) a'->a'.tmps.size=nt->Q .normal a' w):assign.wpIn (YI ro) n P Q a w:=by
 have key:∀ (ops:Array Oper)(os:List Oper)(L:List Nat)(r:List (Nat×Nat)),L.map (ops[·]?)=os.map some->OV nt os r=true->∀ {e:Tr}{a:Act},ij fo k e a->a.tmps.size=nt->
  (∀ a',ij fo k (jD r e) a'->a'.tmps.size=nt->Q .normal a' w)->wpOpsIn (YI ro) n P ops Q L a w:=by
  intro ops os
  induction os with
  |nil=>
   intro L r hL Ba e a hE hn hq;cases L with
   |cons _ _=>simp at hL
   |nil=>
    cases r with
    |nil=>exact hq a hE hn
    |cons _ _=>simp[OV] at Ba
  |cons o os ih=>
   intro L r hL Ba e a hE hn hq;cases L with
   |nil=>simp at hL
   |cons i L=>
    simp only[pab,Dae] at hL;obtain⟨hi,hL⟩:=hL;unfold OV at Ba
    split at Ba
    ·rename_i heq;simp at heq
    ·rename_i d t ty po af os' d' t' r' heq
     simp only[Dae] at heq;obtain⟨rfl,rfl⟩:=heq;simp only[daa,beq_iff_eq,decide_eq_true_eq] at Ba;obtain⟨⟨⟨rfl,rfl⟩,hlt⟩,Ba⟩:=Ba;rw[wpOpsIn_cons];unfold wpOpIn;simp only[hi,Region.wanted,if_true];refine TF ro (by simp) ?_;show Oper.upon _ _ _ _ _ _
     simp only[execOp,Sem.run_pure,Oper.upon];refine ih L r' hL Ba (e:=e.set d (e.get t)) ?_ (by simp[Act.put,hn]) hq;exact hE.put (some d) (fun t ht=>by injection ht with ht;subst ht;rw[hn];exact hlt) (hE t)
    ·cases Ba
 cases assign with
 |region id ops draw=>
  cases draw with
  |true=>simp[wO] at Ba
  |false=>
   refine wpIn_region (key ops ops.toList (List.range ops.size) _ ?_ Ba hE hn hq);apply Vab;intro i;rcases Xaa i ops.size with h | h
   ·simp[h]
   ·simp[h]
 |skip=>
  cases asg with
  |nil=>exact wpIn_skip (hq a hE hn)
  |cons _ _=>simp[wO] at Ba
 |_=>simp[wO] at Ba
theorem LU{k:AV->Value->Prop}(hk:∀ p v,(∀ R:Rd,Ta R p v)->k (.pv p) v){nt:Nat}:∀ (ps:List Nat)(x:List PV){e:Tr}{a:Act},ij fo k e a->a.tmps.size=nt->ps.all (fun t=>decide (t < nt))=true->Jp x=true->
 ij fo k (xq ps x e) {tmps:=(ps.zip (Ps x)).foldl (fun t (p,v)=>t.setIfInBounds p v) a.tmps,defers:=a.defers}/\((ps.zip (Ps x)).foldl (fun (t:Array Value)(p,v)=>t.setIfInBounds p v) a.tmps).size=nt:=by
 intro ps
 induction ps with
 |nil=>intro x e a hE hn _ _;exact⟨by simpa[xq] using hE,by simpa using hn⟩
 |cons p ps ih=>
  intro x e a hE hn hp hx;cases x with
  |nil=>exact⟨by simpa[xq,Ps] using hE,by simpa[Ps] using hn⟩
  |cons y ys=>
   simp only[zac,daa,decide_eq_true_eq] at hp;simp only[Jp,daa] at hx;have h1:=hE.put (some p) (fun t ht=>by injection ht with ht;subst ht;rw[hn];exact hp.1) (v:= .pv y) (u:=dX y) (.atom _ _ (hk _ _ fun R=>ER hx.1))
   exact ih ys (e:=e.set p (.pv y)) (a:=a.put (some p) (dX y)) h1 (by simp[Act.put,hn]) hp.2 hx.2
def Ex.code:Ex->Code
 | .norm=> .skip
 | .exit id=> .exit id
 | .ret=> .ret
 | .goto l=> .goto l
theorem PI{nt:Nat}{ix:Nat}{F:List PV->Option (List (List PV))}{g:AO}{ps:List Nat}{pre:St->Option St}{b:Ja}{g1:Operand}{ps1:Array Tmp}{assign body:Code}
 (h1:Xm fo g1 g=true) (h2:ps1.toList=ps) (h3:ps.all (fun t=>decide (t < nt))=true) (hit:Lq P (fo ix) F)
 (hasg:∀ (l:Nat){B0:wg}{w:World}{R:Rd}{φ:Pl}{s s1:St}{a:Act}{Q:Exit->Act->World->Prop},vc fo B0 w R φ s.H->ij fo (K R φ s.H) s.env a->a.tmps.size=nt->pre s=some s1->
  (∀ a' w' R' φ',vc fo B0 w' R' φ' s1.H->ij fo (K R' φ' s1.H) s1.env a'->(∀ x u,K R φ s.H x u->K R' φ' s1.H x u)->oh B0 w w'->a'.tmps.size=nt->Q .normal a' w')->assign.wpIn (YI (some l)) 0 P Q a w)
 (hbody:∀ (l:Nat){B0:wg}{w:World}{R:Rd}{φ:Pl}{s s':St}{ex:Ex}{a:Act}{Q:Exit->Act->World->Prop},vc fo B0 w R φ s.H->ij fo (K R φ s.H) s.env a->a.tmps.size=nt->oa call b s=some (ex,s')->
  (∀ a' w' R' φ',Hn fo B0 w R φ s.H a w' R' φ' s' a'->Q ex.to a' w')->body.wpIn (YI (some l)) 0 P Q a w)
 {B0:wg} {w:World} {R:Rd} {φ:Pl} {s s':St} {ex:Ex} {a:Act} {nn:Nat} {Q:Exit->Act->World->Prop} (hS:vc fo B0 w R φ s.H) (hE:ij fo (K R φ s.H) s.env a) (hn:a.tmps.size=nt)
 (h:yy (fun e H=>Fp (oa call b) (pre ⟨e,H⟩)) ps [] s (My ix F ps.length (g.ev s.env))=some (ex,s'))
 (hq:∀ a' w' R' φ',Hn fo B0 w R φ s.H a w' R' φ' s' a'->Q ex.to a' w'):(Code.rangeFunc g1 ps1 assign body).wpIn (YI none) nn P Q a w:=by
 obtain⟨xs,cs,us,M7,hLR,hF,v8,hres⟩:∃ xs cs us,a.eval g1= .func (.func (fo ix)) #[] ⟨us⟩/\Ve R cs us/\F cs=some xs/\(∀ x∈xs,x.length=ps.length/\Jp x=true)/\
  iU s.env (Lj (fun x H=>Fp (oa call b) (pre ⟨xq ps x s.env,H⟩)) xs s.H)=some (ex,s'):=by
  have hg:=Rb (R:=R) (φ:=φ) (H:=s.H) hE h1;cases hv:My ix F ps.length (g.ev s.env) with
  |none=>rw[hv] at h;cases h
  |some xs=>
   rw[hv] at h;unfold My at hv
   split at hv
   ·rename_i i caps he
    split at hv
    ·rename_i hi
     subst hi;simp only[uaa] at hv;obtain⟨cs,e1,ys,e2,e3⟩:=hv
     split at e3
     ·rename_i v8
      injection e3 with e3;subst e3
      rw[he] at hg;generalize a.eval g1=vx at hg
      cases hg with
      |atom _ _ h=>exact h.elim
      |Ol _ _ us hl=>
       refine⟨ys,cs,us,rfl,Rk e1 hl,e2,fun x hx=> ?_,h⟩;have:=aab.1 v8 x hx
       simpa[mX] using this
     ·cases e3
    ·cases hv
   ·cases hv
 obtain⟨f,hf⟩:∃ f,f=fun (x:List PV)(H:List ba)=>Fp (oa call b) (pre ⟨xq ps x s.env,H⟩):=⟨_,rfl⟩;rw[<- hf] at hres;obtain⟨H',hR,rfl⟩:∃ H',Lj f xs s.H=some (ex,H')/\s'=⟨s.env,H'⟩:=by
  cases hr:Lj f xs s.H with
  |none=>rw[hr] at hres;cases hres
  |some r=>rw[hr] at hres;obtain⟨ex1,H1⟩:=r;simp only[iU,eaa,vaa] at hres;obtain⟨rfl,rfl⟩:=hres;exact⟨H1,rfl,rfl⟩
 have B8:=hS.low
 show (Code.rangeFunc g1 ps1 assign body).wpIn Fence.wide nn P Q a w
 refine wpIn_rangeFunc ?_;intro fn _;obtain⟨rec,maa⟩:∃ rec:LoopState->Option Code->Loop,rec=fun st pe=>{state:=st,pending:=pe,fn,tmps:=a.tmps,params:=ps1,assign,body,defers:=w.heap.size}:=⟨_,rfl⟩;obtain⟨W1,hW1⟩:∃ W1,(w.alloc (.deferred (some []))).alloc (.loop (rec .ready none))=W1:=⟨_,rfl⟩
 have hL1:W1.heap[w.heap.size+1]? =some (.loop (rec .ready none)):=by rw[<- hW1];have:=World.alloc_heap_new (w.alloc (.deferred (some []))) (.loop (rec .ready none));rwa [World.size_alloc] at this
 have hK1:W1.heap[w.heap.size]? =some (.deferred (some [])):=by rw[<- hW1];exact (RowKit.Below.heap_alloc _ _ _ (by simp)).trans (World.alloc_heap_new w _)
 have H8:RowKit.Below w.heap.size w W1:=by rw[<- hW1];exact (((RowKit.Below.refl _ w).alloc (waa _) _).alloc (by simp) _)
 have Jaj:∀ v:Array Value,v= #[.func (.yield (w.heap.size+1)) #[] #[]]->v++(⟨us⟩:Array Value)=⟨.func (.yield (w.heap.size+1)) #[] #[]::us⟩:=by intro v hv;subst hv;apply Qac;simp
 refine⟨w.heap.size+1,[mark w.heap.size],W1,{target:= .fn (.func (fo ix)) ⟨us⟩,args:= #[.func (.yield (w.heap.size+1)) #[] #[]]},W1,fo ix,
  ⟨.func (.yield (w.heap.size+1)) #[] #[]::us⟩,W1,?_,?_,fun _ _=>trivial,?_,(fun h=>by cases h),callsIn_wide.2 ?_⟩
 ·rw[<- hW1,maa];exact run_enterLoop_outer _ _ _ _ _
 ·simp only[resolve,M7]
  simp[go_sem]
 ·rw[<- Jaj _ rfl];exact Nr hit.call _
 ·
  have Yab:=hS.slt
  refine (hit.go cs us xs hF (fun x hx=>(v8 x hx).2) R (w.heap.size+1)
   (fun i T A=>∃ H R' φ',Lj f (xs.take i) s.H=some (.norm,H)/\vc fo (B0.and T) A R' φ' H/\(∀ x u,K R φ s.H x u->K R' φ' H x u)/\oh B0 w A/\A.heap[w.heap.size+1]? =some (.loop (rec .ready none))/\A.heap[w.heap.size]? =some (.deferred (some []))/\∀ k,T k->w.heap.size+2<=k)
   (fun A=>∃ R' φ',ex≠ .norm/\vc fo B0 A R' φ' H'/\(∀ x u,K R φ s.H x u->K R' φ' H' x u)/\oh B0 w A/\A.heap[w.heap.size+1]? =some (.loop (rec .done (some ex.code)))/\A.heap[w.heap.size]? =some (.deferred (some [])))
   W1 hLR (hS.later H8).sub ?_ ?_ ?_ ?_ ?_).mono ?_
  ·rintro i T A B T' ⟨H,R',φ',j1,j2,j3,j4,j5,j6,j7⟩ hb ht
   refine⟨H,R',φ',j1,j2.grow hb ht,j3,j4.later B8 Yab hb,by rw[hb.block _ (Mm j5)];exact j5,by rw[hb.block _ (Mm j6)];exact j6,fun k hk=> ?_⟩;rcases ht k hk with h | h
   ·exact j7 k h
   ·have:=Mm j5
    omega
  ·rintro A B ⟨R',φ',j1,j2,j3,j4,j5,j6⟩ hb
   exact⟨R',φ',j1,j2.later hb,j3,j4.later B8 Yab hb,by rw[hb.block _ (Mm j5)];exact j5,by rw[hb.block _ (Mm j6)];exact j6⟩
  ·rintro i T A ⟨H,R',φ',j1,j2,j3,j4,j5,j6,j7⟩
   exact⟨R',j2.sub,fun p v h=>j3 (.pv p) v h⟩
  ·
   rintro i x T A hx ⟨H,R',φ',j1,j2,j3,j4,j5,j6,j7⟩;obtain⟨hlen,hfl⟩:=v8 x (sab hx);have lah:xs=xs.take i++x::xs.drop (i+1):=by
    have hlt:=getElem?_lt hx;rw[caa hlt] at hx;injection hx with hx
    rw[<- hx,<-Waa hlt,jac]
   have hgo:Lj f (x::xs.drop (i+1)) H=some (ex,H'):=by rw[<- UD f _ _ j1,<-lah];exact hR
   simp only[Lj] at hgo;have K7:(Ps x).length=ps.length:=by
    rw[<- hlen];clear hgo lah hx hfl hlen
    induction x with
    |nil=>rfl
    |cons y ys ih=>simp[Ps,ih]
   have S9:ps1.size=ps.length:=by rw[<- h2];simp
   have hy:=run_yield (P:=P) (args:=⟨Ps x⟩) j5 (by rw[maa];simp[K7,S9]);rw[maa] at hy;refine⟨_,_,_,_,hy,roundIn_of_wpIn (F:=Fence.wide) trivial ?_⟩;clear hy;have Kaj:(ps1.zip (⟨Ps x⟩:Array Value)).foldl (fun t (p,v)=>t.setIfInBounds p v) a.tmps=(ps.zip (Ps x)).foldl (fun t (p,v)=>t.setIfInBounds p v) a.tmps:=by rw[<- Array.foldl_toList,Array.toList_zip,h2]
   have hE1:ij fo (K R' φ' H) s.env {tmps:=a.tmps,defers:=[]}:=fun t=>(hE t).mono j3
   obtain⟨hE2,hn2⟩:=LU (fo:=fo) (k:=K R' φ' H) (fun p v hp=>hp R') ps x hE1 hn h3 hfl;show Code.wpIn (YI (some (w.heap.size+1))) 0 P assign _ _ _
   dsimp only;rw[Kaj];obtain⟨s2,H7⟩:∃ s2,pre ⟨xq ps x s.env,H⟩=some s2:=by
    cases hp:pre ⟨xq ps x s.env,H⟩ with
    |none=>rw[hf] at hgo;simp only[hp,Fp] at hgo;cases hgo
    |some s2=>exact⟨s2,rfl⟩
   refine hasg _ j2 hE2 hn2 H7 fun a1 A1 R1 φ1 i2 hE3 i3 i4 hn3=> ?_;have i5:=i4.ie _ _ j5 rfl
   have i6:=i4.ie _ _ j6 rfl
   have i7:=j4.trans i4.weaken
   refine⟨_,run_beginRound i5 (by rw[maa]),?_⟩;have hlt:w.heap.size+1 < A1.heap.size:=Mm i5
   have I9:(A1.putObj (w.heap.size+1) (.loop {rec .ready none with state:= .busy})).heap[w.heap.size+1]? =some (.loop {rec .ready none with state:= .busy}):=World.putObj_heap_same hlt
   have D8:(A1.putObj (w.heap.size+1) (.loop {rec .ready none with state:= .busy})).heap[w.heap.size]? =some (.deferred (some [])):=(World.putObj_heap_other (by omega)).trans i6
   have hS2:=(i2.V1 i5 rfl (.loop {rec .ready none with state:= .busy}));have s8:=i7.put B8 Yab (Nat.le_succ _) (.loop {rec .ready none with state:= .busy})
   have hT2:∀ k,T k->(A1.putObj (w.heap.size+1) (.loop {rec .ready none with state:= .busy})).heap[k]? =A.heap[k]? :=fun k hk=>(World.putObj_heap_other (by have:=j7 k hk;omega)).trans (i4.held k (.inr hk))
   generalize A1.putObj (w.heap.size+1) (.loop {rec .ready none with state:= .busy})=A2 at *
   cases hfx:f x H with
   |none=>rw[hfx] at hgo;cases hgo
   |some r=>
    obtain⟨ex1,s1⟩:=r;rw[hfx] at hgo;have E7:oa call b s2=some (ex1,s1):=by rw[hf] at hfx;simp only[H7,Fp] at hfx;exact hfx
    refine hbody _ hS2 hE3 hn3 E7 fun a3 W3 R3 φ3 gg=> ?_;have hl3:=gg.below.ie _ _ I9 rfl
    have hk3:=gg.below.ie _ _ D8 rfl
    have hS4:=gg.rel
    have hb3:=s8.trans gg.below.weaken
    have Naj:=Mm hl3;have hT3:∀ k,T k->W3.heap[k]? =A.heap[k]? :=fun k hk=>(gg.below.held k (.inr hk)).trans (hT2 k hk)
    have Wac:∀ x u,K R φ s.H x u->K R3 φ3 s1.H x u:=fun x u hx=>gg.mono _ _ (i3 x u (j3 x u hx))
    have fin:∀ (jump:Option Code),(Instr.endRound (w.heap.size+1) jump).run P W3= .ok (.bool jump.isNone) (W3.putObj (w.heap.size+1) (.loop (rec (if jump.isNone then .ready else .done) jump)))/\
     vc fo (B0.and T) (W3.putObj (w.heap.size+1) (.loop (rec (if jump.isNone then .ready else .done) jump))) R3 φ3 s1.H/\oh B0 w (W3.putObj (w.heap.size+1) (.loop (rec (if jump.isNone then .ready else .done) jump)))/\
     (W3.putObj (w.heap.size+1) (.loop (rec (if jump.isNone then .ready else .done) jump))).heap[w.heap.size+1]? =some (.loop (rec (if jump.isNone then .ready else .done) jump))/\
     (W3.putObj (w.heap.size+1) (.loop (rec (if jump.isNone then .ready else .done) jump))).heap[w.heap.size]? =some (.deferred (some []))/\
     ∀ k,T k->(W3.putObj (w.heap.size+1) (.loop (rec (if jump.isNone then .ready else .done) jump))).heap[k]? =A.heap[k]? :=fun jump=>by
     have:=run_endRound (P:=P) jump hl3;rw[maa] at this;refine⟨?_,hS4.V1 hl3 rfl _,hb3.put B8 Yab (Nat.le_succ _) _,World.putObj_heap_same Naj,(World.putObj_heap_other (by omega)).trans hk3,fun k hk=>(World.putObj_heap_other (by have:=j7 k hk;omega)).trans (hT3 k hk)⟩;rw[maa];exact this
    have jump:ex1≠ .norm->∃ v w',(Instr.endRound (w.heap.size+1) (some ex1.code)).run P W3= .ok v w'/\((Ending.returned v= .returned (.bool true)/\(∃ H R' φ',Lj f (xs.take (i+1)) s.H=some (.norm,H)/\vc fo (B0.and T) w' R' φ' H/\(∀ x u,K R φ s.H x u->K R' φ' H x u)/\oh B0 w w'/\w'.heap[w.heap.size+1]? =some (.loop (rec .ready none))/\w'.heap[w.heap.size]? =some (.deferred (some []))/\∀ k,T k->w.heap.size+2<=k)/\∀ k,T k->w'.heap[k]? =A.heap[k]?)\/
     (Ending.returned v= .returned (.bool false)/\∃ R' φ',ex≠ .norm/\vc fo B0 w' R' φ' H'/\(∀ x u,K R φ s.H x u->K R' φ' H' x u)/\oh B0 w w'/\w'.heap[w.heap.size+1]? =some (.loop (rec .done (some ex.code)))/\w'.heap[w.heap.size]? =some (.deferred (some [])))):=by
     intro I7;have hr:=vV I7 hgo;injection hr with hr1 hr2
     subst hr1 hr2;obtain⟨q1,q2,q3,q4,q5,_⟩:=fin (some ex.code);exact⟨_,_,q1,.inr ⟨rfl,R3,φ3,I7,q2.weaken,Wac,q3,q4,q5⟩⟩
    cases ex1 with
    |norm=>
     obtain⟨q1,q2,q3,q4,q5,q6⟩:=fin none;refine⟨_,_,q1,.inl ⟨rfl,⟨s1.H,R3,φ3,?_,q2,Wac,q3,q4,q5,j7⟩,q6⟩⟩;have:xs.take (i+1)=xs.take i++[x]:=by rw[Fae,hx];rfl
     rw[this,UD f _ _ j1];simp only[Lj,hfx,Xr]
    |ret=>exact jump (by simp)
    |goto l=>exact jump (by simp)
    |exit id=>exact jump (by simp)
  ·refine⟨s.H,R,φ,rfl,?_,fun _ _ h=>h,.iy H8 B8 Yab,hL1,hK1,fun _ h=>h.elim⟩
   have:=hS.later H8
   exact⟨this.low,this.sub,fun id o ho=>by have:=this.obj id o ho;cases o <;> exact this,this.inj,this.Dq,fun k hk=>hk.elim (this.slt k) (fun h=>h.elim),fun i hi hs=>hs.elim (this.free i hi) (fun h=>h.elim)⟩
  ·
   have env:∀ {R':Rd}{φ':Pl}{A:World},(∀ x u,K R φ s.H x u->K R' φ' H' x u)->vc fo B0 A R' φ' H'->oh B0 w A->(∀ o':Obj,(A.putObj (w.heap.size+1) o').heap[w.heap.size]? =some (.deferred (some [])))->∀ (o:Obj)(_:A.heap[w.heap.size+1]? =some o)(_:P4 o=true)(o':Obj),
    Hn fo B0 w R φ s.H a (A.putObj (w.heap.size+1) o') R' φ' ⟨s.env,H'⟩ {a with defers:=[mark w.heap.size]++a.defers}:=fun hm hs hb hd o ho hk o'=>
    ⟨hs.V1 ho hk o',fun t=>(hE t).mono hm,hm,hb.put B8 Yab (Nat.le_succ _) o',rfl,[w.heap.size],rfl,by simp,fun D hD=>by rw[Sab] at hD;subst hD;exact⟨waa _,hd o'⟩⟩
   rintro e B ⟨⟨v,rfl⟩,(⟨T,H,R',φ',j1,j2,j3,j4,j5,j6,_⟩ | ⟨R',φ',j1,j2,j3,j4,j5,j6⟩)⟩
   ·rw[Fab,hR] at j1
    injection j1 with j1
    injection j1 with j0 j1
    subst j0 j1;refine⟨none,_,by have:=run_endLoop (P:=P) j5 (by rw[maa];simp);rw[maa] at this;exact this,?_⟩;exact hq _ _ _ _ (env j3 j2.weaken j4 (fun o'=>(World.putObj_heap_other (by omega)).trans j6) _ j5 rfl _)
   ·refine⟨some ex.code,_,by have:=run_endLoop (P:=P) j5 (by rw[maa];simp);rw[maa] at this;exact this,?_⟩
    have hz:=fun o'=>hq _ _ _ _ (env j3 j2 j4 (fun o'=>(World.putObj_heap_other (by omega)).trans j6) _ j5 rfl o');cases ex with
    |norm=>exact absurd rfl j1
    |exit id=>exact wpIn_exit (hz _)
    |ret=>exact wpIn_ret (hz _)
    |goto l=>exact wpIn_goto (hz _)
theorem kG{f:Tr->List ba->Option (Ex×St)}{ps:List Nat}{asg:List (Nat×Nat)}{s s':St}{v:Option (List (List PV))}{ex:Ex}(h:yy f ps asg s v=some (ex,s'))(l:Nat):ex≠ .goto l:=by
 cases v with
 |none=>simp[yy] at h
 |some xs=>
  simp only[yy] at h;have key:∀ (xs:List (List PV))(H:List ba)(r:Ex×List ba),Lj (fun x H=>f (jD asg (xq ps x s.env)) H) xs H=some r->r.1≠ .goto l:=by
   intro xs
   induction xs with
   |nil=>intro H r hr;simp only[Lj,eaa] at hr;rw[<- hr];simp
   |cons x xs ih=>
    intro H r hr;simp only[Lj] at hr;cases hf:f (jD asg (xq ps x s.env)) H with
    |none=>simp[hf,Xr] at hr
    |some q=>
     obtain⟨ex1,s1⟩:=q;cases ex1 with
     |norm=>simp only[hf,Xr] at hr;exact ih _ _ hr
     |goto k=>simp[hf,Xr] at hr
     |exit k=>simp only[hf,Xr,eaa] at hr;rw[<- hr];simp
     |ret=>simp only[hf,Xr,eaa] at hr;rw[<- hr];simp
  cases hr:Lj (fun x H=>f (jD asg (xq ps x s.env)) H) xs s.H with
  |none=>simp[hr,iU] at h
  |some r=>obtain⟨ex1,H1⟩:=r;simp only[hr,iU,eaa,vaa] at h;rw[<- h.1];exact key _ _ _ hr
theorem fu:∀ (ac:Ja),ac.DL=true->∀ {s s':St}{ex:Ex},oa call ac s=some (ex,s')->∀ l,ex≠ .goto l
 | .skip,_,s,s',ex,h,l=>by simp only[oa,eaa,vaa] at h;rw[<- h.1];simp
 | .region ops,_,s,s',ex,h,l=>by
   simp only[oa] at h;cases ho:Nf call ops s with
   |none=>simp[ho,pn] at h
   |some s1=>simp only[ho,pn,eaa,vaa] at h;rw[<- h.1];simp
 | .seq a b,hj,s,s',ex,h,l=>by
   simp only[Ja.DL,daa] at hj;simp only[oa] at h;rcases oj h with⟨s1,h1,h2⟩ | ⟨h1,_⟩
   ·exact fu b hj.2 h2 l
   ·exact fu a hj.1 h1 l
 | .cond c a b,hj,s,s',ex,h,l=>by
   simp only[Ja.DL,daa] at hj;simp only[oa] at h;cases hc:asBool (c.ev s.env) with
   |none=>simp[hc,yx] at h
   |some x=>
    cases x with
    |true=>simp only[hc,yx] at h;exact fu a hj.1 h l
    |false=>simp only[hc,yx] at h;exact fu b hj.2 h l
 | .block id b,hj,s,s',ex,h,l=>by
   simp only[Ja.DL] at hj;simp only[oa] at h;cases hb:oa call b s with
   |none=>simp[hb,Vm] at h
   |some r=>
    obtain⟨ex1,s1⟩:=r;have hi:=fu b hj hb;cases ex1 with
    |norm=>simp only[hb,Vm,eaa,vaa] at h;rw[<- h.1];simp
    |ret=>simp only[hb,Vm,eaa,vaa] at h;rw[<- h.1];simp
    |goto k=>exact absurd rfl (hi k)
    |exit k=>
     simp only[hb,Vm] at h
     split at h <;> (simp only[eaa,vaa] at h;rw[<- h.1];simp)
 | .scope b,hj,s,s',ex,h,l=>by simp only[Ja.DL] at hj;exact fu b hj (by simpa only[oa] using h) l
 | .loop live b,hj,s,s',ex,h,l=>by
   simp only[Ja.DL] at hj;simp only[oa] at h;obtain⟨s0,_,h⟩:=Qt h;have key:∀ (n:Nat)(s1:St),ab (ma (oa call b) (na s.H.length live)) n s1=some (ex,s')->ex≠ .goto l:=by
    intro n
    induction n with
    |zero=>intro s1 hl;simp[ab] at hl
    |succ n ihn=>
     intro s1 hl;simp only[ab] at hl;rcases oj hl with⟨s2,k1,k2⟩ | ⟨k1,k2⟩
     ·exact ihn _ k2
     ·simp only[ma] at k1
      rcases oj k1 with⟨s3,j1,j2⟩ | ⟨j1,j2⟩
      ·cases O7:na s.H.length live s3 with
       |none=>simp[O7,pn] at j2
       |some s4=>simp only[O7,pn,eaa,vaa] at j2;rw[<- j2.1];simp
      ·exact fu b hj j1 l
   exact key _ _ h
 | .bp live b,hj,s,s',ex,h,l=>by
   simp only[Ja.DL] at hj;simp only[oa] at h;have key:∀ (n:Nat)(s1:St),ab (ma (oa call b) (fun s=>some (tidy live s))) n s1=some (ex,s')->ex≠ .goto l:=by
    intro n
    induction n with
    |zero=>intro s1 hl;simp[ab] at hl
    |succ n ihn=>
     intro s1 hl;simp only[ab] at hl;rcases oj hl with⟨s2,k1,k2⟩ | ⟨k1,k2⟩
     ·exact ihn _ k2
     ·simp only[ma] at k1
      rcases oj k1 with⟨s3,j1,j2⟩ | ⟨j1,j2⟩
      ·simp only[pn,eaa,vaa] at j2;rw[<- j2.1];simp
      ·exact fu b hj j1 l
   exact key _ _ h
 | .exit id,_,s,s',ex,h,l=>by simp only[oa,eaa,vaa] at h;rw[<- h.1];simp
 | .ret,_,s,s',ex,h,l=>by simp only[oa,eaa,vaa] at h;rw[<- h.1];simp
 | .ghost g c,hj,s,s',ex,h,l=>by simp only[Ja.DL] at hj;simp only[oa] at h;obtain⟨s0,_,h⟩:=Qt h;exact fu c hj h l
 | .range ix F g ps asg b,_,s,s',ex,h,l=>by simp only[oa] at h;exact kG h l
 | .RA ix F g ps pre b,_,s,s',ex,h,l=>by simp only[oa] at h;exact kG h l
 | .goto l',hj,s,s',ex,h,l=>by simp[Ja.DL] at hj
 | .jumps l' a b,_,s,s',ex,h,l=>by
   simp only[oa] at h;cases ha:oa call a s with
   |none=>simp[ha,yv] at h
   |some r=>
    obtain⟨ex1,s1⟩:=r;cases ex1 with
    |goto k=>
     simp only[ha,yv] at h
     split at h
     ·cases hb:oa call b s1 with
      |none=>simp[hb,iG] at h
      |some r=>obtain⟨ex2,s2⟩:=r;cases ex2 <;> simp only[hb,iG,eaa,vaa,reduceCtorEq] at h <;> (rw[<- h.1];simp)
     ·cases h
    |norm=>simp only[ha,yv,eaa,vaa] at h;rw[<- h.1];simp
    |exit=>simp only[ha,yv,eaa,vaa] at h;rw[<- h.1];simp
    |ret=>simp only[ha,yv,eaa,vaa] at h;rw[<- h.1];simp
theorem IV{nt:Nat}(hc:∀ B0:wg,Rr P fo B0 call):∀ (ac:Ja)(c:Code),Ed P fo nt c ac=true->(∀ d∈lg c ac,Oa P d.1 d.2)->(∀ d∈Qd ac,Lq P (fo d.1) d.2)->
 ∀ (ro:Option Nat)(nn:Nat),(ro=none\/ac.plain=true)->∀ {B0:wg}{w:World}{R:Rd}{φ:Pl}{s s':St}{ex:Ex}{a:Act}{Q:Exit->Act->World->Prop},vc fo B0 w R φ s.H->ij fo (K R φ s.H) s.env a->a.tmps.size=nt->oa call ac s=some (ex,s')->
 (∀ a' w' R' φ',Hn fo B0 w R φ s.H a w' R' φ' s' a'->Q ex.to a' w')->c.wpIn (YI ro) nn P Q a w:=by
 intro ac
 induction ac with
 |skip=>
  intro c Ba hd hI ro nn V7 B0 w R φ s s' ex a Q hS hE hn h hq;cases c <;> simp[Ed] at Ba
  ·simp only[oa,eaa,vaa] at h
   obtain⟨rfl,rfl⟩:=h;exact wpIn_skip (hq _ _ R φ (.refl hS hE))
  ·simp only[oa,eaa,vaa] at h
   obtain⟨rfl,rfl⟩:=h;exact wpIn_label (hq _ _ R φ (.refl hS hE))
 |scope b ihb=>
  intro c Ba hd hI ro nn V7 B0 w R φ s s' ex a Q hS hE hn h hq;cases c with
  |scope c1=>
   simp only[Ed] at Ba;simp only[oa] at h;obtain rfl:=V7.resolve_right (by simp[Ja.plain])
   rw[daa] at Ba;have hnj:=fu b Ba.1 h
   refine wpIn_wide.2 (wp_scope_straight (wpIn_wide.1 (ihb c1 Ba.2 hd hI none nn (.inl rfl) hS hE hn h fun a' w' R' φ' g=> ?_)))
   have:=hq _ _ _ _ g;cases ex with
   |goto l=>exact absurd rfl (hnj l)
   |_=>exact this
  |_=>simp[Ed] at Ba
 |region aops=>
  intro c Ba hd hI ro nn V7 B0 w R φ s s' ex a Q hS hE hn h hq;cases c with
  |region id ops draw=>
   simp only[Ed,daa,Oac,tac] at Ba;have hs:=qO (hc B0) Ba.1 hd
   simp only[oa] at h;cases ho:Nf call aops s with
   |none=>simp[ho,pn] at h
   |some s1=>
    simp only[ho,pn,eaa,vaa] at h;obtain⟨rfl,rfl⟩:=h;cases draw with
    |false=>exact zH ro hs hS hE hn ho hq
    |true=>
     rcases Ba.2 with h | h
     ·cases h
     ·exact XN ro h.1 hs h.2 hS hE hn ho hq
  |_=>simp[Ed] at Ba
 |seq x y ihx ihy=>
  intro c Ba hd hI ro nn V7 B0 w R φ s s' ex a Q hS hE hn h hq;cases c with
  |seq a1 b1=>
   simp only[Ed,daa] at Ba;simp only[oa] at h;have hd1:∀ d∈lg a1 x,Oa P d.1 d.2:=fun d o9=>hd d (by simp[lg,o9])
   have hd2:∀ d∈lg b1 y,Oa P d.1 d.2:=fun d o9=>hd d (by simp[lg,o9])
   have hI1:∀ d∈Qd x,Lq P (fo d.1) d.2:=fun d o9=>hI d (by simp[Qd,o9])
   have hI2:∀ d∈Qd y,Lq P (fo d.1) d.2:=fun d o9=>hI d (by simp[Qd,o9])
   have S9:ro=none\/x.plain=true:=V7.imp id fun h=>by simp only[Ja.plain,daa] at h;exact h.1
   have Sl:ro=none\/y.plain=true:=V7.imp id fun h=>by simp only[Ja.plain,daa] at h;exact h.2
   refine wpIn_seq ?_;rcases oj h with⟨s1,h1,h2⟩ | ⟨h1,h2⟩
   ·refine ihx a1 Ba.1 hd1 hI1 ro nn S9 hS hE hn h1 fun a' w' R' φ' g=> ?_
    exact ihy b1 Ba.2 hd2 hI2 ro nn Sl g.rel g.env (g.size.trans hn) h2 fun a'' w'' R'' φ'' g'=>hq _ _ _ _ (g.trans g')
   ·refine ihx a1 Ba.1 hd1 hI1 ro nn S9 hS hE hn h1 fun a' w' R' φ' g=> ?_
    cases ex with
    |norm=>exact absurd rfl h2
    |exit id=>exact hq _ _ _ _ g
    |ret=>exact hq _ _ _ _ g
    |goto l=>exact hq _ _ _ _ g
  |_=>simp[Ed] at Ba
 |cond co x y ihx ihy=>
  intro c Ba hd hI ro nn V7 B0 w R φ s s' ex a Q hS hE hn h hq;cases c with
  |cond co1 a1 b1=>
   simp only[Ed,daa] at Ba;simp only[oa] at h;have hd1:∀ d∈lg a1 x,Oa P d.1 d.2:=fun d o9=>hd d (by simp[lg,o9])
   have hd2:∀ d∈lg b1 y,Oa P d.1 d.2:=fun d o9=>hd d (by simp[lg,o9])
   have hI1:∀ d∈Qd x,Lq P (fo d.1) d.2:=fun d o9=>hI d (by simp[Qd,o9])
   have hI2:∀ d∈Qd y,Lq P (fo d.1) d.2:=fun d o9=>hI d (by simp[Qd,o9])
   have S9:ro=none\/x.plain=true:=V7.imp id fun h=>by simp only[Ja.plain,daa] at h;exact h.1
   have Sl:ro=none\/y.plain=true:=V7.imp id fun h=>by simp only[Ja.plain,daa] at h;exact h.2
   cases hb:asBool (co.ev s.env) with
   |none=>simp[hb,yx] at h
   |some b=>
    have hv:=YA (Rb (R:=R) (φ:=φ) (H:=s.H) hE Ba.1.1) hb;refine wpIn_cond hv ?_;cases b with
    |true=>simp only[hb,yx] at h;exact ihx a1 Ba.1.2 hd1 hI1 ro nn S9 hS hE hn h hq
    |false=>simp only[hb,yx] at h;exact ihy b1 Ba.2 hd2 hI2 ro nn Sl hS hE hn h hq
  |_=>simp[Ed] at Ba
 |block id b ih=>
  intro c Ba hd hI ro nn V7 B0 w R φ s s' ex a Q hS hE hn h hq;cases c with
  |block id1 b1=>
   simp only[Ed,daa,beq_iff_eq] at Ba;obtain⟨rfl,Ba⟩:=Ba;simp only[oa] at h;refine wpIn_block ?_;cases hb:oa call b s with
   |none=>simp[hb,Vm] at h
   |some r=>
    obtain⟨ex1,s1⟩:=r;refine ih b1 Ba hd hI ro nn V7 hS hE hn hb fun a' w' R' φ' g=> ?_;cases ex1 with
    |norm=>simp only[hb,Vm,eaa,vaa] at h;obtain⟨rfl,rfl⟩:=h;exact hq _ _ _ _ g
    |ret=>simp only[hb,Vm,eaa,vaa] at h;obtain⟨rfl,rfl⟩:=h;exact hq _ _ _ _ g
    |goto l=>simp only[hb,Vm,eaa,vaa] at h;obtain⟨rfl,rfl⟩:=h;exact hq _ _ _ _ g
    |exit id2=>
     simp only[hb,Vm] at h;show Exit.inBlock id1 Q (.exit id2) a' w'
     simp only[Exit.inBlock]
     split at h
     ·rename_i e
      simp only[eaa,vaa] at h;obtain⟨rfl,rfl⟩:=h;rw[if_pos e];exact hq _ _ _ _ g
     ·rename_i e
      simp only[eaa,vaa] at h;obtain⟨rfl,rfl⟩:=h;rw[taa e];exact hq _ _ _ _ g
  |_=>simp[Ed] at Ba
 |loop live b ih=>
  intro c Ba hd hI ro nn V7 B0 w R φ s s' ex a Q hS hE hn h hq;cases c with
  |loop b1=>
   simp only[Ed] at Ba;simp only[oa] at h;obtain⟨s0,h0,h⟩:=Qt h;have g0:=fH (Hn.refl hS hE) h0;refine wpIn_loop_rounds ua ?_;have key:∀ (n:Nat){w1:World}{R1:Rd}{φ1:Pl}{s1:St}{a1:Act},Hn fo B0 w R φ s.H a w1 R1 φ1 s1 a1->ab (ma (oa call b) (na s.H.length live)) n s1=some (ex,s')->Code.roundsIn (YI ro) nn P b1 Q n a1 w1:=by
    intro n
    induction n with
    |zero=>intro w1 R1 φ1 s1 a1 g hl;simp[ab] at hl
    |succ n ihn=>
     intro w1 R1 φ1 s1 a1 g hl;simp only[ab] at hl;rw[roundsIn_succ];rcases oj hl with⟨s2,k1,k2⟩ | ⟨k1,k2⟩
     ·simp only[ma] at k1
      rcases oj k1 with⟨s3,j1,j2⟩ | ⟨j1,j2⟩
      ·refine ih b1 Ba hd hI ro nn V7 g.rel g.env (g.size.trans hn) j1 fun a' w' R' φ' g'=> ?_
       cases O7:na s.H.length live s3 with
       |none=>simp[O7,pn] at j2
       |some s4=>simp only[O7,pn,eaa,vaa,true_and] at j2;subst j2;exact ihn (fH (g.trans g') O7) k2
      ·exact absurd rfl j2
     ·simp only[ma] at k1
      rcases oj k1 with⟨s3,j1,j2⟩ | ⟨j1,j2⟩
      ·cases O7:na s.H.length live s3 with
       |none=>simp[O7,pn] at j2
       |some s4=>simp only[O7,pn,eaa,vaa] at j2;exact absurd j2.1.symm k2
      ·refine ih b1 Ba hd hI ro nn V7 g.rel g.env (g.size.trans hn) j1 fun a' w' R' φ' g'=> ?_
       cases ex with
       |norm=>exact absurd rfl j2
       |exit id=>exact hq _ _ _ _ (g.trans g')
       |ret=>exact hq _ _ _ _ (g.trans g')
       |goto l=>exact hq _ _ _ _ (g.trans g')
   exact key ua g0 h
  |_=>simp[Ed] at Ba
 |bp live b ih=>
  intro c Ba hd hI ro nn V7 B0 w R φ s s' ex a Q hS hE hn h hq;cases c with
  |loop b1=>
   simp only[Ed] at Ba;simp only[oa] at h;have g0:=XI live (Hn.refl hS hE);refine wpIn_loop_rounds ua ?_;have key:∀ (n:Nat){w1:World}{R1:Rd}{φ1:Pl}{s1:St}{a1:Act},Hn fo B0 w R φ s.H a w1 R1 φ1 s1 a1->ab (ma (oa call b) (fun s=>some (tidy live s))) n s1=some (ex,s')->Code.roundsIn (YI ro) nn P b1 Q n a1 w1:=by
    intro n
    induction n with
    |zero=>intro w1 R1 φ1 s1 a1 g hl;simp[ab] at hl
    |succ n ihn=>
     intro w1 R1 φ1 s1 a1 g hl;simp only[ab] at hl;rw[roundsIn_succ];rcases oj hl with⟨s2,k1,k2⟩ | ⟨k1,k2⟩
     ·simp only[ma] at k1
      rcases oj k1 with⟨s3,j1,j2⟩ | ⟨j1,j2⟩
      ·refine ih b1 Ba hd hI ro nn V7 g.rel g.env (g.size.trans hn) j1 fun a' w' R' φ' g'=> ?_
       simp only[pn,eaa,vaa,true_and] at j2;subst j2;exact ihn (XI live (g.trans g')) k2
      ·exact absurd rfl j2
     ·simp only[ma] at k1
      rcases oj k1 with⟨s3,j1,j2⟩ | ⟨j1,j2⟩
      ·simp only[pn,eaa,vaa] at j2
       exact absurd j2.1.symm k2
      ·refine ih b1 Ba hd hI ro nn V7 g.rel g.env (g.size.trans hn) j1 fun a' w' R' φ' g'=> ?_
       cases ex with
       |norm=>exact absurd rfl j2
       |exit id=>exact hq _ _ _ _ (g.trans g')
       |ret=>exact hq _ _ _ _ (g.trans g')
       |goto l=>exact hq _ _ _ _ (g.trans g')
   exact key ua g0 h
  |_=>simp[Ed] at Ba
 |goto l=>
  intro c Ba hd hI ro nn V7 B0 w R φ s s' ex a Q hS hE hn h hq;cases c with
  |goto l1=>simp only[Ed,beq_iff_eq] at Ba;subst Ba;simp only[oa,eaa,vaa] at h;obtain⟨rfl,rfl⟩:=h;exact wpIn_goto (hq _ _ R φ (.refl hS hE))
  |_=>simp[Ed] at Ba
 |jumps l x y ihx ihy=>
  intro c Ba hd hI ro nn V7 B0 w R φ s s' ex a Q hS hE hn h hq;cases c with
  |scope c1=>
   simp only[Ed,daa] at Ba;simp only[lg] at hd;simp only[Qd] at hI;obtain rfl:=V7.resolve_right (by simp[Ja.plain])
   cases hfl:findLabel c1 l with
   |none=>rw[hfl] at Ba;simp at Ba
   |some rest=>
    rw[hfl] at Ba hd;simp only at Ba hd;have hd1:∀ d∈lg c1 x,Oa P d.1 d.2:=fun d h=>hd d (Naa.2 (.inl h))
    have hd2:∀ d∈lg rest y,Oa P d.1 d.2:=fun d h=>hd d (Naa.2 (.inr h))
    have hI1:∀ d∈Qd x,Lq P (fo d.1) d.2:=fun d h=>hI d (Naa.2 (.inl h))
    have hI2:∀ d∈Qd y,Lq P (fo d.1) d.2:=fun d h=>hI d (Naa.2 (.inr h))
    simp only[oa] at h;cases hx:oa call x s with
    |none=>simp[hx,yv] at h
    |some r=>
     obtain⟨ex1,s1⟩:=r;have U9:(∀ k,ex1≠ .goto k)->ex1=ex->s1=s'->(Code.scope c1).wpIn (YI none) nn P Q a w:=by
      rintro I7 rfl rfl;refine wpIn_wide.2 (wp_scope_jumps l (fun _ _=>False) (fun _ _=>0) hfl (wpIn_wide.1 (ihx c1 Ba.1 hd1 hI1 none nn (.inl rfl) hS hE hn hx fun a' w' R' φ' g=> ?_)) (fun _ _ h=>h.elim))
      have:=hq _ _ _ _ g;cases ex1 with
      |goto k=>exact absurd rfl (I7 k)
      |_=>exact this
     cases ex1 with
     |goto k=>
      simp only[hx,yv] at h
      split at h
      ·rename_i hk
       subst hk;cases hy:oa call y s1 with
       |none=>simp[hy,iG] at h
       |some r2=>
        obtain⟨ex2,s2⟩:=r2;refine wpIn_wide.2 (wp_scope_jumps k (fun a1 w1=>∃ R1 φ1,Hn fo B0 w R φ s.H a w1 R1 φ1 s1 a1) (fun _ _=>0) hfl (wpIn_wide.1 (ihx c1 Ba.1 hd1 hI1 none nn (.inl rfl) hS hE hn hx fun a' w' R' φ' g=>⟨rfl,R',φ',g⟩)) ?_)
        rintro a1 w1 ⟨R1,φ1,g⟩;refine wpIn_wide.1 (ihy rest Ba.2 hd2 hI2 none nn (.inl rfl) g.rel g.env (g.size.trans hn) hy fun a' w' R' φ' g'=> ?_)
        cases ex2 with
        |goto j=>simp[hy,iG] at h
        |norm=>simp only[hy,iG,eaa,vaa] at h;obtain⟨rfl,rfl⟩:=h;exact hq _ _ _ _ (g.trans g')
        |exit j=>simp only[hy,iG,eaa,vaa] at h;obtain⟨rfl,rfl⟩:=h;exact hq _ _ _ _ (g.trans g')
        |ret=>simp only[hy,iG,eaa,vaa] at h;obtain⟨rfl,rfl⟩:=h;exact hq _ _ _ _ (g.trans g')
      ·cases h
     |norm=>simp only[hx,yv,eaa,vaa] at h;exact U9 (by simp) h.1 h.2
     |exit j=>simp only[hx,yv,eaa,vaa] at h;exact U9 (by simp) h.1 h.2
     |ret=>simp only[hx,yv,eaa,vaa] at h;exact U9 (by simp) h.1 h.2
  |_=>simp[Ed] at Ba
 |exit id=>
  intro c Ba hd hI ro nn V7 B0 w R φ s s' ex a Q hS hE hn h hq;cases c with
  |exit id1=>simp only[Ed,beq_iff_eq] at Ba;subst Ba;simp only[oa,eaa,vaa] at h;obtain⟨rfl,rfl⟩:=h;exact wpIn_exit (hq _ _ R φ (.refl hS hE))
  |_=>simp[Ed] at Ba
 |ret=>
  intro c Ba hd hI ro nn V7 B0 w R φ s s' ex a Q hS hE hn h hq;cases c with
  |ret=>simp only[oa,eaa,vaa] at h;obtain⟨rfl,rfl⟩:=h;exact wpIn_ret (hq _ _ R φ (.refl hS hE))
  |_=>simp[Ed] at Ba
 |ghost g b ih=>
  intro c Ba hd hI ro nn V7 B0 w R φ s s' ex a Q hS hE hn h hq;have O8:Ed P fo nt c b=true:=by cases c <;> simpa[Ed] using Ba
  have o9:∀ d∈lg c b,Oa P d.1 d.2:=by cases c <;> simpa[lg] using hd
  simp only[oa] at h;obtain⟨s0,h0,h⟩:=Qt h;obtain⟨R',φ',g0⟩:=ZS hS hE h0;exact ih c O8 o9 hI ro nn V7 g0.rel g0.env hn h fun a' w' R'' φ'' g'=>hq _ _ _ _ (g0.trans g')
 |range ix F g ps asg b ih=>
  intro c Ba hd hI ro nn V7 B0 w R φ s s' ex a Q hS hE hn h hq;cases c with
  |rangeFunc g1 ps1 assign body=>
   obtain rfl:=V7.resolve_right (by simp[Ja.plain])
   simp only[Ed,daa,beq_iff_eq] at Ba;obtain⟨⟨⟨⟨⟨h1,h2⟩,h3⟩,h4⟩,h5⟩,h6⟩:=Ba;simp only[oa] at h;refine PI (pre:=fun s=>some ⟨jD asg s.env,s.H⟩) h1 h2 h3 (hI (ix,F) (by simp[Qd])) (fun l B0 w R φ s s1 a Q hS hE hn hp hq=> ?_) (fun l _ _ _ _ _ _ _ _ _ hS hE hn h hq=>ih body h5 hd (fun d o9=>hI d (by simp[Qd,o9])) (some l) 0 (.inr h6) hS hE hn h hq) hS hE hn h hq;injection hp with hp
   subst hp;exact TY (fo:=fo) (k:=K R φ s.H) h4 hE hn fun a' hE' hn'=>hq a' w R φ hS hE' (fun _ _ h=>h) (oh.refl _ _) hn'
  |_=>simp[Ed] at Ba
 |RA ix F g ps pre b ih=>
  intro c Ba hd hI ro nn V7 B0 w R φ s s' ex a Q hS hE hn h hq;cases c with
  |rangeFunc g1 ps1 assign body=>
   obtain rfl:=V7.resolve_right (by simp[Ja.plain])
   simp only[Ed,daa,beq_iff_eq] at Ba;obtain⟨⟨⟨⟨⟨h1,h2⟩,h3⟩,h4⟩,h5⟩,h6⟩:=Ba;simp only[oa] at h;have hd2:∀ d∈lg body b,Oa P d.1 d.2:=fun d o9=>hd d (by simp[lg,o9])
   have hd1:∀ d∈GR assign pre,Oa P d.1 d.2:=fun d o9=>hd d (by simp[lg,o9])
   refine PI (pre:=Nf call pre) h1 h2 h3 (hI (ix,F) (by simp[Qd])) (fun l B0 w R φ s s1 a Q hS hE hn hp hq=> ?_) (fun l _ _ _ _ _ _ _ _ _ hS hE hn h hq=>ih body h5 hd2 (fun d o9=>hI d (by simp[Qd,o9])) (some l) 0 (.inr h6) hS hE hn h hq) hS hE hn h hq;cases assign with
   |region id ops draw=>
    cases draw with
    |true=>simp[tY] at h4
    |false=>exact zH (some l) (qO (hc B0) h4 hd1) hS hE hn hp fun a' w' R' φ' g=>hq a' w' R' φ' g.rel g.env g.mono g.below (g.size.trans hn)
   |_=>simp[tY] at h4
  |_=>simp[Ed] at Ba
end
def Ky(P:Program):List ResultVar->List zE->Bool
 | [],[]=>true
 | .tmp t::r,.tmp t'::r'=>t==t'&&Ky P r r'
 | .cell a ty::r,.cell t ag n::r'=>a==t&&Hm P ty==some ag&&(!ag||Ud P ty==some n)&&Ky P r r'
 |_,_=>false
def JH(P:Program)(fo:Nat->FuncId)(g:Func)(af:Ue):Bool:=
 (match g.body with
 |some c=>Ed P fo g.ntmps c af.body
 |none=>false)&&Ky P g.results.toList af.results&& !(g.name== "runtime.NumGoroutine")&&decide (af.np<=g.ntmps)
def UE(g:Func)(af:Ue):List (FuncId×(List PV->Option PV)):=
 match g.body with
 |some c=>lg c af.body
 |none=>[]
def qc(P:Program)(fo:Nat->FuncId)(f:FuncId)(af:Ue):Prop:=
 ∃ g,P.funcs[f]? =some g/\JH P fo g af=true/\(∀ d∈UE g af,Oa P d.1 d.2)/\∀ d∈Qd af.body,Lq P (fo d.1) d.2
def wm(P:Program)(fo:Nat->FuncId)(L:Nat->Option Ue):Prop:=∀ ix af,L ix=some af->qc P fo (fo ix) af
section
variable {P:Program}{fo:Nat->FuncId}{B0:wg}{call:Sa}
theorem FQ:∀ (args:List AV)(i t:Nat),(Ts i args).get t=(if i<=t then args[t - i]? else none).getD .undef:=by
 intro args
 induction args with
 |nil=>intro i t;simp[Ts,Tr.get]
 |cons v r ih=>
  intro i t;simp only[Ts,Tr.aa,ih]
  by_cases h:t=i
  ·subst h;simp
  ·by_cases h2:i<=t
   ·rw[taa h,if_pos h2,if_pos (by omega)]
    have:t - i=(t - (i+1))+1:=by omega
    rw[this];simp
   ·rw[taa h,taa h2,taa (by omega)]
theorem FP{k:AV->Value->Prop}{args:List AV}{vs:List Value}(h:mb fo k args vs)(n:Nat):ij fo k (Ts 0 args) {tmps:=⟨vs⟩++Array.replicate n undef,defers:=[]}:=by
 intro t;rw[FQ];simp only[Iac,if_true,wae];cases ha:args[t]? with
 |none=>exact .undef _
 |some a=>
  obtain⟨v,hv,hr⟩:=h.get ha
  have hlt:=getElem?_lt hv;rw[qab,Array.getElem?_append_left (by simpa using hlt)];simpa[hv] using hr
theorem uP{t:TypeId}{vx v:Value}{w w':World}(h:(Instr.loadAt t vx).run P w= .ok v w'):∃ a,vx= .pointer (some a):=by
 cases vx with
 |pointer a=>
  cases a with
  |none=>simp[Instr.loadAt,Instr.sureAddr] at h
  |some a=>exact⟨a,rfl⟩
 |_=>simp[Instr.loadAt,Instr.sureAddr] at h
def cV(tmps:Array Value):ResultVar->Sem Value
 | .tmp t=>pure (tmps.getD t undef)
 | .cell a t=>do loadVar t (<- asAddr (tmps.getD a undef))
theorem JV(tmps:Array Value)(t:Tmp)(w:World):(cV tmps (.tmp t)).run P w= .ok (tmps.getD t undef) w:=by simp only[cV,Sem.run_pure]
theorem F0{w:World}{R:Rd}{φ:Pl}{s:St}{a:Act}(hS:vc fo B0 w R φ s.H)(hE:ij fo (K R φ s.H) s.env a):∀ {rs:List ResultVar}{ars:List zE}{vs:List AV},Ky P rs ars=true->Ra (ME s) ars=some vs->
 ∃ us,(rs.mapM (cV a.tmps):Sem (List Value)).run P w= .ok us w/\mb fo (K R φ s.H) vs us:=by
 intro rs
 induction rs with
 |nil=>
  intro ars vs Ba h;cases ars with
  |nil=>simp only[Ra,eaa] at h;subst h;exact⟨[],by simp,.nil⟩
  |cons _ _=>simp[Ky] at Ba
 |cons r rs ih=>
  intro ars vs Ba h;cases ars with
  |nil=>cases r <;> simp[Ky] at Ba
  |cons ar ars=>
   simp only[Ra,uaa,eaa] at h;obtain⟨b,h1,bs,h2,rfl⟩:=h;cases r with
   |tmp t=>
    cases ar with
    |tmp t'=>simp only[Ky,daa,beq_iff_eq] at Ba;obtain⟨rfl,Ba⟩:=Ba;obtain⟨us,k1,k2⟩:=ih Ba h2;simp only[ME,eaa] at h1;subst h1;exact⟨_::us,by simp only[List.mapM_cons,Sem.run_bind,JV,Result.andThen_ok,k1,Sem.run_pure],.cons _ _ _ _ (hE t) k2⟩
    |cell _ _ _=>simp[Ky] at Ba
   |cell x ty=>
    cases ar with
    |tmp t'=>simp[Ky] at Ba
    |cell t ag n=>
     simp only[Ky,daa,beq_iff_eq,Oac,tac] at Ba;obtain⟨⟨⟨rfl,ha⟩,hn⟩,Ba⟩:=Ba;obtain⟨us,k1,k2⟩:=ih Ba h2;simp only[ME] at h1;obtain⟨v,q1,q2⟩:=lN (P:=P) hS (hE x) ha (fun e=>by rcases hn with hn | hn;rw[e] at hn;cases hn;exact hn) h1;obtain⟨ad,hv⟩:=uP q1;rw[hv] at q1;have q1':(loadVar ty ad).run P w= .ok v w:=by simpa[Instr.loadAt,Instr.sureAddr] using q1
     have q3:(cV a.tmps (.cell x ty)).run P w= .ok v w:=by simp only[cV,hv];simp[asAddr,q1']
     exact⟨v::us,by simp only[List.mapM_cons,Sem.run_bind,q3,Result.andThen_ok,k1,Sem.run_pure],.cons _ _ _ _ q2 k2⟩
theorem qM{g:Func}{f:Ue}{w:World}{R:Rd}{φ:Pl}{s:St}{a:Act}(hS:vc fo B0 w R φ s.H)(hE:ij fo (K R φ s.H) s.env a)(Ba:Ky P g.results.toList f.results=true){v:AV}(h:cP f s=some v):
 ∃ u,(results g a.tmps).run P w= .ok u w/\Sc fo (K R φ s.H) v u:=by
 simp only[cP,faa] at h;obtain⟨vs,h1,rfl⟩:=h;obtain⟨us,k1,k2⟩:=F0 hS hE Ba h1;have L7:(results g a.tmps).run P w= .ok (if h:us.length=1 then us[0] else .tuple ⟨us⟩) w:=by
  have:results g a.tmps=(do let vs <-g.results.mapM (cV a.tmps);pure (if h:vs.size=1 then vs[0] else .tuple vs)):=rfl
  rw[this,Array.mapM_eq_mapM_toList];simp only[Sem.run_bind,Sem.run_map,k1,Result.andThen_ok,Sem.run_pure];simp
 refine⟨_,L7,?_⟩;cases k2 with
 |nil=>exact SJ .nil
 |cons x xs u us hx hxs=>
  cases hxs with
  |nil=>simpa[UF] using hx
  |cons y ys z zs hy hys=>have:UF (x::y::ys)=qy (x::y::ys):=rfl;rw[this];simpa using SJ (.cons _ _ _ _ hx (.cons _ _ _ _ hy hys))
theorem qc.XG{f:FuncId}{af:Ue}(h:qc P fo f af):Bu P f:=by
 obtain⟨g,h1,h2,_,_⟩:=h;simp only[JH,daa,tac] at h2;cases hb:g.body with
 |none=>simp[hb] at h2
 |some c=>exact⟨g,c,h1,hb,h2.1.2⟩
theorem GP{f:FuncId}{af:Ue}(hf:qc P fo f af)(hc:∀ B0:wg,Rr P fo B0 call){args:List AV}{H H':List ba}{v:AV}{w:World}{R:Rd}{φ:Pl}{vs:List Value}(hS:vc fo B0 w R φ H)(hl:mb fo (K R φ H) args vs)
 (h:ef call af args H=some (v,H')):Calls P f ⟨vs⟩ w (pZ fo B0 w R φ H v H'):=by
 obtain⟨g,h1,h2,h3,hI⟩:=hf;simp only[JH,daa,tac,decide_eq_true_eq] at h2;obtain⟨⟨⟨h4,h5⟩,h6⟩,h7⟩:=h2;cases hb:g.body with
 |none=>simp[hb] at h4
 |some c=>
  simp only[hb] at h4;simp only[UE,hb] at h3;unfold ef at h
  split at h
  ·rename_i hnp
   cases he:oa call af.body ⟨Ts 0 args,H⟩ with
   |none=>simp[he,IP] at h
   |some r=>
    obtain⟨ex,s⟩:=r;refine (callsIn_wide (n:=0)).1 (callsIn_of_wp_marks h1 hb trivial ?_)
    have hlen:=hl.length
    refine IV hc af.body c h4 h3 hI none 0 (.inl rfl) (s:=⟨Ts 0 args,H⟩) hS (FP hl _) (by simp;omega) he fun a' w' R' φ' gg=> ?_
    have fin:∀ (v:AV),cP af s=some v->∀ (Ds:List Nat)(W:World),(∀ D∈Ds,w.heap.size<=D/\W.heap[D]? =some (.deferred (some [])))->Ds.Nodup->vc fo B0 W R' φ' s.H->oh B0 w W->
     LeavesInM Fence.wide 0 P g a'.tmps (pZ fo B0 w R φ H v s.H) (Ds.map mark) .returning W:=by
     intro v hv Ds
     induction Ds with
     |nil=>
      intro W _ _ hSW hBW;obtain⟨u,k1,k2⟩:=qM hSW gg.env h5 hv
      exact⟨u,k1,u,R',φ',rfl,hSW,k2,gg.mono,hBW⟩
     |cons D Ds ih=>
      intro W hD hnd hSW hBW;obtain⟨hge,hWD⟩:=hD D (by simp);have Xac:=List.nodup_cons.1 hnd
      refine⟨by simp,.inl ⟨D,_,rfl,run_takeDeferred hWD,ih _ (fun E hE=> ?_) Xac.2 (hSW.V1 hWD rfl _) (hBW.put hS.low hS.slt hge _)⟩⟩;obtain⟨q1,q2⟩:=hD E (by simp[hE]);exact⟨q1,(World.putObj_heap_other (show E≠D from fun e=>Xac.1 (by rw[<- e];exact hE))).trans q2⟩
    have done:(cP af s).map (fun v=>(v,s.H))=some (v,H')->LeavesInM Fence.wide 0 P g a'.tmps (pZ fo B0 w R φ H v H') a'.defers .returning w':=by
     intro hr;simp only[faa,vaa] at hr;obtain⟨v1,hv1,rfl,rfl⟩:=hr;obtain⟨Ds,e1,e2,e3⟩:=gg.defers
     rw[e1,show ∀ l:List Deferred,l++[]=l from Kab];exact fin _ hv1 Ds w' e3 e2 gg.rel gg.below
    cases ex with
    |norm=>exact done (by simpa[he,IP] using h)
    |ret=>exact done (by simpa[he,IP] using h)
    |exit id=>simp[he,IP] at h
    |goto l=>simp[he,IP] at h
  ·cases h
theorem gY{L:Nat->Option Ue}(hL:wm P fo L):∀ (d:Nat)(B0:wg),Rr P fo B0 (Da L d):=by
 intro d
 induction d with
 |zero=>intro B0 ix args H v H' w R φ vs hS hl h;simp[Da] at h
 |succ d ih=>intro B0 ix args H v H' w R φ vs hS hl h;simp only[Da,uaa] at h;obtain⟨af,h1,h2⟩:=h;have hf:=hL ix af h1;exact⟨hf.XG,GP hf ih hS hl h2⟩
theorem AI{call:Sa}(hc:∀ B0:wg,Rr P fo B0 call){f:FuncId}{af:Ue}(hf:qc P fo f af):Oa P f fun args=>(ef call af (args.map .pv) []).bind fun r=>Ub r.2 deep r.1:=by
 refine⟨hf.XG,fun w R args vs r hR hl h=> ?_⟩;simp only[uaa] at h;obtain⟨⟨v,H'⟩,h1,h2⟩:=h;have hS:vc fo {n:=w.heap.size,R:=R} w R (fun _=>(0,0)) []:=
  ⟨waa _,hR,fun id o h=>by simp at h,fun i j hi=>by obtain⟨o,ho,_⟩:=hi;simp at ho,fun _ _ _=>rfl,fun _ h=>h.elim,fun _ _ h=>h⟩
 refine Calls.mono (GP hf hc hS (mb.RG hl) h1) ?_
 rintro e w' ⟨u,R',φ',rfl,k1,k2,k3,k4⟩;have hQ:Sub R' (fun b o=>if b < w.heap.size then R b o else w'.cell? ⟨b,o,none⟩):=by
  intro b o x hx
  (try dsimp only)
  split
  ·rename_i hlt;rw[<- hx];exact (k1.Dq b o hlt).symm
  ·exact k1.sub b o x hx
 have k5:=XM k1 hQ (fun b o x hb hx=>by
  have hb:w.heap.size<=b:=hb
  (try dsimp only)
  rw[taa (by omega)];exact hx) deep k2 h2
 refine⟨u,_,rfl,k4.toBelow,k5,fun b o hlt=>if_pos hlt,fun b o x hx=> ?_⟩
 split at hx
 ·rename_i hlt
  rw[Rf (k4.block b hlt)];exact hR b o x hx
 ·exact hx
theorem Ka{L:Nat->Option Ue}(hL:wm P fo L){f:FuncId}{af:Ue}(hf:qc P fo f af):Oa P f (Pb L af):=AI (gY hL 8) hf
end
theorem fM{P:Program}{fo:Nat->FuncId}{i:FuncId}{g:Func}{af:Ue}{l:List (FuncId×(List PV->Option PV))}(h:P.funcs[i]? =some g)(hp:∀ d∈l,Oa P d.1 d.2)(ok:JH P fo g af=true:=by kernel_rfl)(du:UE g af=l:=by kernel_rfl)(di:Qd af.body=[]:=by rfl):qc P fo i af:=
 ⟨g,h,ok,by rw[du];exact hp,by rw[di];exact fun _ h=>by cases h⟩
theorem w7{P:Program}{fo:Nat->FuncId}{i:FuncId}{g:Func}{af:Ue}{l:List (FuncId×(List PV->Option PV))}(h:P.funcs[i]? =some g)(hp:∀ d∈l,Oa P d.1 d.2)(hi:∀ d∈Qd af.body,Lq P (fo d.1) d.2)(ok:JH P fo g af=true:=by kernel_rfl)(du:UE g af=l:=by kernel_rfl):qc P fo i af:=
 ⟨g,h,ok,by rw[du];exact hp,hi⟩
theorem dN{P:Program}:∀ d∈([]:List (FuncId×(List PV->Option PV))),Oa P d.1 d.2:=fun _ h=>by cases h
theorem dC{P:Program}{a:FuncId}{F:List PV->Option PV}{l:List (FuncId×(List PV->Option PV))}(h:Oa P a F)(r:∀ d∈l,Oa P d.1 d.2):∀ d∈(a,F)::l,Oa P d.1 d.2:=List.forall_mem_cons.2 ⟨h,r⟩
abbrev Cv(d n:Nat):wb:=⟨some d,.move (.t n),none,false⟩
abbrev Co(d:Nat)(op:Od):wb:=⟨some d,op,none,false⟩
abbrev Cp(d:Nat)(op:Od):wb:=⟨some d,op,none,true⟩
abbrev Cg(d t:Nat)(b:Bool)(op:Od):wb:=⟨some d,op,some (t,b),false⟩
abbrev Cq(d t:Nat)(b:Bool)(op:Od):wb:=⟨some d,op,some (t,b),true⟩
abbrev Ce(op:Od):wb:=⟨none,op,none,false⟩
abbrev Od.kl(n x:Nat):Od:= .load false n (.t x)
abbrev Od.kL(n x:Nat):Od:= .load true n (.t x)
abbrev Od.kf(o x:Nat):Od:= .LH o (.t x)
abbrev Od.ki(n x i:Nat):Od:= .Pd n (.t x) (.t i)
abbrev Od.kj(n x:Nat)(i:Int):Od:= .Pd n (.t x) (.c (.int .i64 i))
abbrev Od.kn(k x:Nat):Od:= .len k (.t x)
abbrev Od.kx(i x:Nat):Od:= .ext i (.t x)
abbrev Od.ks(n a v:Nat):Od:= .store n (.t a) (.t v)
abbrev Od.km(x:Nat):Od:= .move (.t x)
abbrev Od.kk(n:Int):Od:= .move (.c (.int .i64 n))
abbrev Od.kb(b:Bool):Od:= .move (.c (.bool b))
abbrev Od.kc(p:PV):Od:= .move (.c p)
abbrev Od.kB(o:BinOp)(x y:Nat):Od:= .bin o (.t x) (.t y)
abbrev Od.kK(o:BinOp)(x:Nat)(n:Int):Od:= .bin o (.t x) (.c (.int .i64 n))
abbrev Od.ko(x y:Nat):Od:= .pick (.t x) (.c (.bool true)) (.t y)
abbrev Od.ka(x y:Nat):Od:= .pick (.t x) (.t y) (.c (.bool false))
abbrev Od.kz(x:Nat):Od:= .AF (.t x)
abbrev Od.kt(x:Nat):Od:= .un .not (.t x)
abbrev Od.kR(n x:Nat):Od:= .xQ n (.t x)
abbrev Od.kp(F:List PV->Option PV)(x:Nat):Od:= .Hq F [.t x]
abbrev Od.kq(F:List PV->Option PV)(x y:Nat):Od:= .Hq F [.t x,.t y]
abbrev Od.kr(F:List PV->Option PV)(x y z:Nat):Od:= .Hq F [.t x,.t y,.t z]
abbrev Od.ku(n:Nat)(a:Bool)(b s x:Nat):Od:= .append false .uq n a b (.t s) (.t x)
abbrev Od.kA(m n x i:Nat):Od:= .xy m n (.t x) (.t i)
abbrev Od.ke(k x y:Nat):Od:= .eq k false (.t x) (.t y)
abbrev Od.kE(k:Nat)(b:Bool)(x:Nat):Od:= .eq k b (.t x) (.c .qf)
abbrev jl(d:Nat)(n x:Nat):wb:=Co d (.kl n x)
abbrev Jl(d:Nat)(n x:Nat):wb:=Cp d (.kl n x)
abbrev jL(d:Nat)(n x:Nat):wb:=Co d (.kL n x)
abbrev JL(d:Nat)(n x:Nat):wb:=Cp d (.kL n x)
abbrev jf(d:Nat)(n x:Nat):wb:=Co d (.kf n x)
abbrev Jf(d:Nat)(n x:Nat):wb:=Cp d (.kf n x)
abbrev ji(d:Nat)(n x y:Nat):wb:=Co d (.ki n x y)
abbrev Ji(d:Nat)(n x y:Nat):wb:=Cp d (.ki n x y)
abbrev jn(d:Nat)(k x:Nat):wb:=Co d (.kn k x)
abbrev jx(d:Nat)(i x:Nat):wb:=Co d (.kx i x)
abbrev jk(d:Nat)(n:Int):wb:=Co d (.kk n)
abbrev jb(d:Nat)(b:Bool):wb:=Co d (.kb b)
abbrev jc(d:Nat)(p:PV):wb:=Co d (.kc p)
abbrev jB(d:Nat)(o:BinOp)(x y:Nat):wb:=Co d (.kB o x y)
abbrev jK(d:Nat)(o:BinOp)(x:Nat)(n:Int):wb:=Co d (.kK o x n)
abbrev jo(d:Nat)(x y:Nat):wb:=Co d (.ko x y)
abbrev ja(d:Nat)(x y:Nat):wb:=Co d (.ka x y)
abbrev jz(d:Nat)(x:Nat):wb:=Co d (.kz x)
abbrev jt(d:Nat)(x:Nat):wb:=Co d (.kt x)
abbrev jR(d:Nat)(n x:Nat):wb:=Co d (.kR n x)
abbrev jp(d:Nat)(F:List PV->Option PV)(x:Nat):wb:=Co d (.kp F x)
abbrev jq(d:Nat)(F:List PV->Option PV)(x y:Nat):wb:=Co d (.kq F x y)
abbrev jS(n a v:Nat):wb:=Ce (.ks n a v)
abbrev jT(d t:Nat)(op:Od):wb:=Cg d t true op
abbrev jF(d t:Nat)(op:Od):wb:=Cg d t false op
abbrev JT(d t:Nat)(op:Od):wb:=Cq d t true op
abbrev JF(d t:Nat)(op:Od):wb:=Cq d t false op
abbrev jQ(l:List wb)(c:Ja):Ja:= .seq (.region l) c
abbrev jr(l:List wb):Ja:= .seq (.region l) .ret
abbrev jX(t k:Nat):Ja:= .cond (.t t) .skip (.exit k)
abbrev jC(t:Nat)(a b:Ja):Ja:= .cond (.t t) a b
section
variable {call:Sa}
theorem aR(f:St->Option St)(s:St):Lt f (some s)=f s:=rfl
theorem IT(f:St->Option (Ex×St))(s:St):Tz f (some (.norm,s))=f s:=rfl
theorem oW(f:St->Option (Ex×St))(s:St):Tz f (some (.ret,s))=some (.ret,s):=rfl
theorem tT(f:St->Option (Ex×St))(n:Nat)(s:St):Tz f (some (.exit n,s))=some (.exit n,s):=rfl
theorem nP(s:St):pn (some s)=some (.norm,s):=rfl
theorem y0(f g:St->Option (Ex×St))(s:St):yx f g s (some true)=f s:=rfl
theorem C1(f g:St->Option (Ex×St))(s:St):yx f g s (some false)=g s:=rfl
theorem KS(f:St->Option (Ex×St))(s:St):Fp f (some s)=f s:=rfl
theorem XL(n:Nat)(s:St):Vm n (some (.norm,s))=some (.norm,s):=rfl
theorem RP(n:Nat)(s:St):Vm n (some (.ret,s))=some (.ret,s):=rfl
theorem DN(n m:Nat)(s:St):Vm n (some (.exit m,s))=if m=n then some (.norm,s) else some (.exit m,s):=rfl
theorem yZ(d:Nat)(e:Tr)(v:AV)(H:List ba):GD (some d) e (some (v,H))=some ⟨e.set d v,H⟩:=rfl
theorem WZ(e:Tr)(v:AV)(H:List ba):GD none e (some (v,H))=some ⟨e,H⟩:=rfl
theorem J4(s:St):oa call .skip s=some (.norm,s):=rfl
theorem gW(ops:List wb)(s:St):oa call (.region ops) s=pn (Nf call ops s):=rfl
theorem P5(a b:Ja)(s:St):oa call (.seq a b) s=Tz (oa call b) (oa call a s):=rfl
theorem C3(c:AO)(a b:Ja)(s:St):oa call (.cond c a b) s=yx (oa call a) (oa call b) s (asBool (c.ev s.env)):=rfl
theorem rZ(n:Nat)(b:Ja)(s:St):oa call (.block n b) s=Vm n (oa call b s):=rfl
theorem S1(b:Ja)(s:St):oa call (.scope b) s=oa call b s:=rfl
theorem Db(live:List Nat)(b:Ja)(s:St):oa call (.loop live b) s=Fp (ab (ma (oa call b) (na s.H.length live)) ua) (na s.H.length live s):=rfl
theorem yr(live:List Nat)(b:Ja)(s:St):oa call (.bp live b) s=ab (ma (oa call b) (fun s=>some (tidy live s))) ua (tidy live s):=rfl
theorem U3(n:Nat)(s:St):oa call (.exit n) s=some (.exit n,s):=rfl
theorem L5(s:St):oa call .ret s=some (.ret,s):=rfl
theorem DB(g:kS)(c:Ja)(s:St):oa call (.ghost g c) s=Fp (oa call c) (fe g s):=rfl
theorem L1(ix:Nat)(F:List PV->Option (List (List PV)))(g:AO)(ps:List Nat)(asg:List (Nat×Nat))(b:Ja)(s:St):oa call (.range ix F g ps asg b) s=yy (fun e H=>oa call b ⟨e,H⟩) ps asg s (My ix F ps.length (g.ev s.env)):=rfl
theorem CZ(s:St):Nf call [] s=some s:=rfl
theorem MV(o:wb)(r:List wb)(s:St):Nf call (o::r) s=Lt (Nf call r) (me call o s):=rfl
theorem KY(d:Option Nat)(op:Od)(e:Tr)(H:List ba):me call ⟨d,op,none,false⟩ ⟨e,H⟩=GD d e (xa call e H op):=rfl
theorem PY(d:Option Nat)(op:Od)(e:Tr)(H:List ba):me call ⟨d,op,none,true⟩ ⟨e,H⟩=GD d e (u2 H (xa call e [] op)):=rfl
theorem LZ(d:Option Nat)(op:Od)(t:Nat)(b p:Bool)(e:Tr)(H:List ba):me call ⟨d,op,some (t,b),p⟩ ⟨e,H⟩=bo (HQ call ⟨d,op,some (t,b),p⟩) (KA ⟨d,op,some (t,b),p⟩) ⟨e,H⟩ (ch e (some (t,b))):=rfl
theorem IY(f g:St->Option St)(s:St):bo f g s (some true)=f s:=rfl
theorem K0(f g:St->Option St)(s:St):bo f g s (some false)=g s:=rfl
theorem Y5(d:Option Nat)(op:Od)(g:Option (Nat×Bool))(e:Tr)(H:List ba):HQ call ⟨d,op,g,false⟩ ⟨e,H⟩=GD d e (xa call e H op):=rfl
theorem N5(d:Option Nat)(op:Od)(g:Option (Nat×Bool))(e:Tr)(H:List ba):HQ call ⟨d,op,g,true⟩ ⟨e,H⟩=GD d e (u2 H (xa call e [] op)):=rfl
theorem EZ(d:Nat)(op:Od)(g:Option (Nat×Bool))(p:Bool)(e:Tr)(H:List ba):KA ⟨some d,op,g,p⟩ ⟨e,H⟩=some ⟨e.set d (.pv (.mc [])),H⟩:=rfl
theorem lZ(op:Od)(g:Option (Nat×Bool))(p:Bool)(e:Tr)(H:List ba):KA ⟨none,op,g,p⟩ ⟨e,H⟩=some ⟨e,H⟩:=rfl
theorem V2(H:List ba)(v:AV):u2 H (some (v,[]))=some (v,H):=rfl
end
def tZ(rs:List zE)(r:Option (Ex×St)):Option (AV×List ba):=IP ⟨0,rs,.skip⟩ r
theorem aD(rs:List zE)(s:St):tZ rs (some (.norm,s))=(Ra (ME s) rs).bind fun vs=>some (UF vs,s.H):=by
 show (cP _ s).map _=_
 simp only[cP];cases Ra (ME s) rs <;> rfl
theorem pN(rs:List zE)(s:St):tZ rs (some (.ret,s))=(Ra (ME s) rs).bind fun vs=>some (UF vs,s.H):=aD rs s
theorem N1{call:Sa}(np:Nat)(rs:List zE)(body:Ja)(args:List AV)(H:List ba):ef call ⟨np,rs,body⟩ args H=if args.length=np then tZ rs (oa call body ⟨Ts 0 args,H⟩) else none:=rfl
theorem L6:(true==true)=true:=rfl
theorem B6:(true==false)=false:=rfl
theorem J6:(false==true)=false:=rfl
theorem K6:(false==false)=true:=rfl
theorem rP(L:Nat->Option Ue)(d ix:Nat)(args:List AV)(H:List ba):Da L (d+1) ix args H=(L ix).bind fun f=>ef (Da L d) f args H:=rfl
theorem ai(L:Nat->Option Ue)(d ix:Nat)(args:List AV)(H:List ba){f:Ue}(h:L ix=some f):Da L (d+1) ix args H=ef (Da L d) f args H:=by simp[Da,h]
theorem xV(H:List ba):Tb H 0 (.pv .ga)=some 0:=rfl
theorem KX(H:List ba)(sz:Nat)(es:List PV):Tb H 0 (.pv (.lit sz es))=some es.length:=rfl
theorem RE(H:List ba)(id sz:Nat)(nl:Bool)(es:List PV):Tb H 0 (.uq id nl sz es)=some es.length:=rfl
theorem QX(H:List ba)(x:ByteArray):Tb H 1 (.pv (.str x))=some x.size:=rfl
theorem AU(H:List ba):Tb H 2 (.pv .nw)=some 0:=rfl
theorem WB(H:List ba)(id len:Nat):Tb H 0 (.own id len)=match H[id]? with
 |some (.seq sz _ cells fl _)=>(if (Ui sz len fl cells.length) then (some len) else none)
 |_=>none:=rfl
theorem MZ(H:List ba)(id:Nat):Tb H 2 (.mp id)=match H[id]? with
 |some (.map es)=>some es.length
 |_=>none:=rfl
theorem nU{P:Program}{f:FuncId}{F:List PV->Option PV}(h:Oa P f F){w:World}{args:List PV}{vs:List Value}(hl:Ve (Rw w) args vs)(hr:F args=some (.bool true)):
 Calls P f ⟨vs⟩ w fun e w'=>e= .returned (.bool true)/\Below w.heap.size w w':=by
 refine Calls.mono (h.2 w (Rw w) args vs _ (fun _ _ _ h=>h) hl hr) ?_
 rintro e w' ⟨v,R',rfl,hb,hv,_⟩;cases hv;exact⟨rfl,hb⟩
def Yt(P:Program)(t:TypeId):Bool:=
 match P.underlying t with
 |some (.struct _) | some (.array _ _)=>true
 |_=>false
def Dn(P:Program)(e:TypeId)(row:List PV):PV:=if Yt P e then .agg row else row.headD .qf
def rowOf(P:Program){H:Type}:Nat->TypeId->DataW H->List PV
 |0,_,_=>[]
 |f+1,t,d=>
  match P.underlying t,d with
  |some .bool,.lit (.bool b)=>[.bool b]
  |some (.int k),.lit (.int _ n)=>[.int k n]
  |some .string,.lit (.string l)=>[.str ⟨l.toArray⟩]
  |some (.pointer _),.nil=>[.qf]
  |some (.pointer e),.ptr d=>[.rp (rowOf P f e d) 0]
  |some (.slice _),.nil=>[.ga]
  |some (.slice e),.slice es _=>[.lit (P.cellsOf e) (es.map fun d=>Dn P e (rowOf P f e d))]
  |some (.struct fs),.agg ds=>((fs.toList.zip ds).map fun p=>rowOf P f p.1.type p.2).flatten
  |some (.array _ e),.agg ds=>(ds.map (rowOf P f e)).flatten
  |_,_=>[]
def jM(P:Program):Nat->List Field->Option Nat
 |o,[]=>some o
 |o,f::r=>if f.offset=o then jM P (o+P.cellsOf f.type) r else none
def wP(P:Program):Nat->TypeId->Bool
 |0,_=>false
 |f+1,t=>
  match P.underlying t with
  |some .bool | some (.int _) | some .string=>P.cellsOf t==1
  |some (.pointer e) | some (.slice e)=>P.cellsOf t==1&&decide (0 < P.cellsOf e)&&wP P f e
  |some (.struct fs)=>jM P 0 fs.toList==some (P.cellsOf t)&&fs.toList.all fun fd=>wP P f fd.type
  |some (.array n e)=>P.cellsOf t==n * P.cellsOf e&&wP P f e
  |_=>false
section
variable {P:Program}{H:Type}{enc:TypeId×Value->H}{w:World}{base:Nat}{sp:Nat->Bool}{held:Bool}
structure cK(P:Program)(w:World)(t:TypeId)(row:List PV)(cs:List Value):Prop where
 rel:Ve (Rw w) row cs
 one:∀ p∈row,cI p=true
 len:row.length=P.cellsOf t
theorem mapM_some{α β:Type}{f:α->Option β}:∀ {l:List α}{r:List β},l.mapM f=some r->r.length=l.length/\∀ (i:Nat)(x:α),l[i]? =some x->∃ y,r[i]? =some y/\f x=some y:=by
 intro l
 induction l with
 |nil=>intro r h;simp at h;subst h;exact⟨rfl,fun i x h=>by simp at h⟩
 |cons a l ih=>
  intro r h;simp only[List.mapM_cons,Option.bind_eq_bind,uaa,Option.pure_def,eaa] at h;obtain⟨b,h1,bs,h2,rfl⟩:=h;obtain⟨k1,k2⟩:=ih h2;refine⟨by simp[k1],fun i x hx=> ?_⟩;cases i with
  |zero=>simp at hx;subst hx;exact⟨b,rfl,h1⟩
  |succ i=>simpa using k2 i x (by simpa using hx)
theorem Ve.app{R:Rd}{ps qs:List PV}{vs us:List Value}(h:Ve R ps vs)(h':Ve R qs us):Ve R (ps++qs) (vs++us):=Ve.append h h'
theorem AQ{a:Addr}{n:Nat}{cs:List Value}(h:w.cells? base a n=some cs):cs.length=n/\∀ (i:Nat)(v:Value),cs[i]? =some v->w.cell? (a.add i)=some v:=by
 unfold World.cells? at h
 split at h
 ·obtain⟨h1,h2⟩:=mapM_some h
  rw[mac] at h1;refine⟨h1,fun i v hv=> ?_⟩;have hlt:=getElem?_lt hv;obtain⟨y,hy1,hy2⟩:=h2 i i (by rw[lad (by omega)]);rw[hv] at hy1;injection hy1 with hy1;subst hy1;exact hy2
 ·cases h
theorem RJ{a:Addr}{v:Value}(h:w.cell? a=some v):a.spot=none:=by
 unfold World.cell? at h
 split at h
 ·split at h
  ·cases h
  ·rename_i hs;cases ha:a.spot with
   |none=>rfl
   |some s=>simp[ha] at hs
 ·cases h
theorem u0{a:Addr}{i:Nat}{v:Value}(h:w.cell? (a.add i)=some v):w.cell? ⟨a.block,a.off+i,none⟩=some v:=by
 have hs:=RJ h;obtain⟨b,o,s⟩:=a;unfold Addr.add at h hs
 split at h
 ·rename_i h0;subst h0
  rw[if_pos rfl] at hs;simp only at hs;subst hs;simpa using h
 ·exact h
theorem Rg.flat{R:Rd}{b sz:Nat}:∀ {es:List PV}{o:Nat},(∀ e∈es,e.cells.length=sz)->(∀ (i:Nat)(e:PV),es[i]? =some e->Rg R e.cells b (o+i * sz))->Rg R (AM.flat es) b o:=by
 intro es
 induction es with
 |nil=>intro o _ _;exact .nil _ _
 |cons e es ih=>
  intro o hl h;have h0:=h 0 e rfl;simp only[Kae,tae] at h0;refine Rg.append h0 ?_
  rw[hl e (by simp)];refine ih (fun x hx=>hl x (by simp[hx])) fun i x hx=> ?_;have:=h (i+1) x (by simpa using hx);rw[Nat.add_mul,Nat.one_mul] at this;rw[show o+sz+i * sz=o+(i * sz+sz) from by omega];exact this
theorem QW{e:TypeId}{row:List PV}{cs:List Value}(h:cK P w e row cs)(hs:Yt P e=true\/P.cellsOf e=1):(Dn P e row).cells=row:=by
 unfold Dn
 split
 ·rfl
 ·rename_i hn
  have hc:=hs.resolve_left hn
  have hlen:=h.len
  rw[hc] at hlen
  match row,hlen with
  | [p],_=>exact CF (h.one p (by simp))
theorem O4{e:TypeId}{row:List PV}{cs:List Value}{a:Addr}(h:cK P w e row cs)(hc:∀ (i:Nat)(v:Value),cs[i]? =some v->w.cell? (a.add i)=some v):Rg (Rw w) row a.block a.off:=
 Rg.Sn h.rel (fun v hv=>by
  obtain⟨i,hi⟩:=Dac.1 hv
  have hlt:=getElem?_lt hi;have hl:=h.rel.length
  have hp:row[i]? =some (row[i]'(by omega)):=caa _;obtain⟨u,hu,hr⟩:=h.rel.get hp
  rw[hi] at hu;injection hu with hu;subst hu
  exact hr.one (h.one _ (saa _))) fun i v hv=>u0 (hc i v hv)
theorem WR{g:Nat}{t:TypeId}(h:wP P g t=true):Yt P t=true\/P.cellsOf t=1:=by
 cases g with
 |zero=>simp[wP] at h
 |succ g=>
  simp only[wP] at h;unfold Yt
  split at h <;> simp_all
theorem WS{R:Rd}:∀ (fs:List Field)(o:Nat)(cs:List Value)(rows:List (List PV)),jM P o fs=some cs.length->rows.length=fs.length->
 (∀ (i:Nat)(f:Field)(r:List PV),fs[i]? =some f->rows[i]? =some r->Ve R r ((cs.drop f.offset).take (P.cellsOf f.type))/\r.length=P.cellsOf f.type)->Ve R rows.flatten (cs.drop o):=by
 intro fs
 induction fs with
 |nil=>intro o cs rows h hl _;simp only[jM,eaa] at h;subst h;have:rows=[]:=yaa (by simpa using hl);subst this;simpa using Ve.nil
 |cons f fs ih=>
  intro o cs rows h hl hr;cases rows with
  |nil=>simp at hl
  |cons r rows=>
   simp only[jM] at h
   split at h
   ·rename_i ho
    obtain⟨h1,h2⟩:=hr 0 f r rfl rfl;rw[ho] at h1;have h3:=ih (o+P.cellsOf f.type) cs rows h (by simpa using hl) fun i g q hg hq=>hr (i+1) g q (by simpa using hg) (by simpa using hq);have:cs.drop o=(cs.drop o).take (P.cellsOf f.type)++cs.drop (o+P.cellsOf f.type):=by rw[<- List.drop_drop,jac]
    rw[this,aac];exact Ve.app h1 h3
   ·cases h
theorem HV{R:Rd}{sz:Nat}:∀ (n:Nat)(cs:List Value)(rows:List (List PV)),cs.length=n * sz->rows.length=n->
 (∀ (i:Nat)(r:List PV),rows[i]? =some r->Ve R r ((cs.drop (i * sz)).take sz))->Ve R rows.flatten cs:=by
 intro n
 induction n with
 |zero=>intro cs rows h hl _;have:rows=[]:=yaa hl;subst this;have:cs=[]:=yaa (by simpa using h);subst this;exact .nil
 |succ n ih=>
  intro cs rows h hl hr;cases rows with
  |nil=>simp at hl
  |cons r rows=>
   have h1:=hr 0 r rfl;simp only[Kae,Aac] at h1;have h3:=ih (cs.drop sz) rows (by rw[Pab,h,Nat.add_mul];omega) (by simpa using hl) fun i q hq=>by have:=hr (i+1) q (by simpa using hq);rw[List.drop_drop];rw[Nat.add_mul,Nat.one_mul] at this;rw[show sz+i * sz=i * sz+sz from by omega];exact this
   rw[<- jac sz cs,aac];exact Ve.app h1 h3
theorem J0:∀ (g:Nat)(t:TypeId)(fuel:Nat)(cs:List Value)(x:DataW H×List MemPlace),wP P g t=true->DataW.trod enc P w base (fun _=>true) held fuel t cs=some x->cK P w t (rowOf P g t x.1) cs:=by
 intro g
 induction g with
 |zero=>intro t fuel cs x h;simp[wP] at h
 |succ g ih=>
  intro t fuel cs x Ba h;simp only[wP] at Ba;have elem:∀ {e:TypeId}{n:Nat}{a:Addr}{y:DataW H×List MemPlace},wP P g e=true->(w.cells? base a (P.cellsOf e)).bind (DataW.trod enc P w base (fun _=>true) held n e)=some y->
   Rg (Rw w) (rowOf P g e y.1) a.block a.off/\(rowOf P g e y.1).length=P.cellsOf e/\(Dn P e (rowOf P g e y.1)).cells=rowOf P g e y.1/\(0 < P.cellsOf e->a.spot=none):=by
   intro e n a y he hy;simp only[uaa] at hy;obtain⟨ecs,h1,h2⟩:=hy;obtain⟨k1,k2⟩:=AQ h1;have hr:=ih e n ecs y he h2;refine⟨O4 hr k2,hr.len,QW hr (WR he),fun j8=> ?_⟩;have hv:ecs[0]? =some (ecs[0]'(by omega)):=caa _;have:=RJ (k2 0 _ hv);simpa[Addr.add] using this
  have atom:∀ {p:PV}{v:Value},cI p=true->Ta (Rw w) p v->P.cellsOf t=1->cK P w t [p] [v]:=fun h1 h2 h3=>
   ⟨.cons _ _ _ _ h2 .nil,by simpa using h1,by simp[h3]⟩
  cases hu:P.underlying t with
  |none=>simp[hu] at Ba
  |some td=>
   simp only[hu] at Ba;cases td with
   |bool=>
    obtain⟨b,rfl,rfl⟩:=DataW.trod_bool hu h
    simp only[rowOf,hu];exact atom rfl (.bool _) (by simpa using Ba)
   |int k=>
    obtain⟨n,rfl,rfl,_⟩:=DataW.trod_int hu h
    simp only[rowOf,hu];exact atom rfl (.int _ _) (by simpa using Ba)
   |string=>
    obtain⟨s,rfl,rfl,_⟩:=DataW.trod_string hu h
    simp only[rowOf,hu];obtain⟨⟨l⟩⟩:=s;exact atom rfl (.str _) (by simpa using Ba)
   |pointer e=>
    simp only[daa,beq_iff_eq,decide_eq_true_eq] at Ba;obtain⟨⟨hc,j8⟩,he⟩:=Ba;rcases DataW.trod_pointer hu h with⟨rfl,rfl⟩ | ⟨a,ecs,y,n,rfl,rfl,rfl,h1,h2⟩
    ·simp only[rowOf,hu]
     exact atom rfl .qf hc
    ·simp only[rowOf,hu]
     obtain⟨k1,k2,k3,k4⟩:=elem he (n:=n) (a:=a) (y:=y) (by rw[h1];exact h2);have hs:=k4 j8;obtain⟨b,o,s⟩:=a;simp only at hs;subst hs;refine atom rfl ?_ hc;have:=Ta.rp (R:=Rw w) _ 0 b o k1
     simpa using this
   |slice e=>
    simp only[daa,beq_iff_eq,decide_eq_true_eq] at Ba;obtain⟨⟨hc,j8⟩,he⟩:=Ba;rcases DataW.trod_slice hu h with⟨rfl,rfl⟩ | ⟨a,len,cap,els,rest,n,rfl,rfl,rfl,_,hlc,_,hlen,I8,hsp,_⟩
    ·simp only[rowOf,hu]
     exact atom rfl .ga hc
    ·simp only[rowOf,hu]
     refine atom rfl ?_ hc;obtain⟨hr1,hr2⟩:=hsp rfl;have each:∀ (i:Nat)(y:DataW H×List MemPlace),els[i]? =some y->(w.cells? base (a.add (i * P.cellsOf e)) (P.cellsOf e)).bind (DataW.trod enc P w base (fun _=>true) held n e)=some y:=by intro i y hy;rw[I8 i (by have:=getElem?_lt hy;omega),hy]
     by_cases K8:cap=0
     ·have:len=0:=by omega
      subst this;subst K8;have:els=[]:=yaa hlen;subst this;exact .IE _ _
     ·have hs:a.spot=none:=by
       rcases Zac len with h0 | h0
       ·have h1:0 < cap - len:=by omega
        have hv:rest[0]? =some (rest[0]'(by omega)):=caa _;have:=hr2 0 h1;rw[hv] at this;have:=(elem he this).2.2.2 j8
        subst h0;simpa[Addr.add] using this
       ·have hv:els[0]? =some (els[0]'(by omega)):=caa _
        have:=(elem he (each 0 _ hv)).2.2.2 j8
        simpa[Addr.add] using this
      obtain⟨b,o,s⟩:=a;simp only at hs;subst hs;have O7:∀ p∈(els.map (·.1)).map (fun d=>Dn P e (rowOf P g e d)),p.cells.length=P.cellsOf e:=by
       intro p hp;simp only[wad,oab] at hp;obtain⟨y,hy,rfl⟩:=hp;obtain⟨i,hi⟩:=Dac.1 hy
       obtain⟨_,k2,k3,_⟩:=elem he (each i y hi);simp only[Function.comp];rw[k3,k2]
      have:=Ta.lit (R:=Rw w) (P.cellsOf e) ((els.map (·.1)).map (fun d=>Dn P e (rowOf P g e d))) b o cap (by simp;omega) O7 (Rg.flat O7 fun i p hp=>by
       simp only[wad,Faa,faa] at hp;obtain⟨y,hy,rfl⟩:=hp;obtain⟨k1,k2,k3,_⟩:=elem he (each i y hy);simp only[Function.comp];rw[k3];have hb:(Addr.add ⟨b,o,none⟩ (i * P.cellsOf e))=⟨b,o+i * P.cellsOf e,none⟩:=by rw[Pn]
       rw[hb] at k1;exact k1)
      simpa[hlen] using this
   |struct fs=>
    simp only[daa,beq_iff_eq] at Ba;obtain⟨xaf,v8⟩:=Ba;obtain⟨xs,n,rfl,rfl,n9,hxs,hf⟩:=DataW.trod_struct hu h
    simp only[rowOf,hu];have each:∀ (i:Nat)(f:Field)(y:DataW H×List MemPlace),fs.toList[i]? =some f->xs[i]? =some y->cK P w f.type (rowOf P g f.type y.1) ((cs.drop f.offset).take (P.cellsOf f.type)):=by intro i f y hfi hy;have:=hf i f (by simpa using hfi);rw[hy] at this;exact ih _ n _ y (aab.1 v8 f (sab hfi)) this
    have get:∀ (i:Nat)(r:List PV),((fs.toList.zip (xs.map (·.1))).map fun p=>rowOf P g p.1.type p.2)[i]? =some r->∃ f y,fs.toList[i]? =some f/\xs[i]? =some y/\r=rowOf P g f.type y.1:=by intro i r hr;simp only[Faa,faa] at hr;obtain⟨p,hp,rfl⟩:=hr;rw[List.getElem?_zip_eq_some] at hp;obtain⟨S9,Sl⟩:=hp;simp only[Faa,faa] at Sl;obtain⟨y,hy,hy2⟩:=Sl;exact⟨p.1,y,S9,hy,by rw[hy2]⟩
    have hrel:=WS (R:=Rw w) fs.toList 0 cs ((fs.toList.zip (xs.map (·.1))).map fun p=>rowOf P g p.1.type p.2) (by rw[n9];exact xaf) (by simp[hxs]) fun i f r hfi hri=>by
     obtain⟨f',y,h1,h2,rfl⟩:=get i r hri;rw[hfi] at h1;injection h1 with h1;subst h1
     have:=each i f y hfi h2;exact⟨this.rel,this.len⟩
    rw[Aac] at hrel;refine⟨hrel,fun p hp=> ?_,by rw[<- hrel.length,n9]⟩;rw[Lae] at hp;obtain⟨r,hr,hp⟩:=hp;obtain⟨i,hi⟩:=Dac.1 hr
    obtain⟨f,y,h1,h2,rfl⟩:=get i r hi;exact (each i f y h1 h2).one p hp
   |array n e=>
    simp only[daa,beq_iff_eq] at Ba;obtain⟨xaf,he⟩:=Ba;obtain⟨xs,m,rfl,rfl,n9,hxs,hf⟩:=DataW.trod_array hu h
    simp only[rowOf,hu];have each:∀ (i:Nat)(y:DataW H×List MemPlace),xs[i]? =some y->cK P w e (rowOf P g e y.1) ((cs.drop (i * P.cellsOf e)).take (P.cellsOf e)):=by intro i y hy;have:=hf i (by have:=getElem?_lt hy;omega);rw[hy] at this;exact ih _ m _ y he this
    have get:∀ (i:Nat)(r:List PV),((xs.map (·.1)).map (rowOf P g e))[i]? =some r->∃ y,xs[i]? =some y/\r=rowOf P g e y.1:=by intro i r hr;simp only[wad,Faa,faa] at hr;obtain⟨y,hy,rfl⟩:=hr;exact⟨y,hy,rfl⟩
    have hrel:=HV (R:=Rw w) n cs ((xs.map (·.1)).map (rowOf P g e)) (by rw[n9,xaf]) (by simp[hxs]) fun i r hri=>by obtain⟨y,h2,rfl⟩:=get i r hri;exact (each i y h2).rel
    refine⟨hrel,fun p hp=> ?_,by rw[<- hrel.length,n9]⟩;rw[Lae] at hp;obtain⟨r,hr,hp⟩:=hp;obtain⟨i,hi⟩:=Dac.1 hr
    obtain⟨y,h2,rfl⟩:=get i r hi;exact (each i y h2).one p hp
   |_=>simp at Ba
def Sh(P:Program):Nat->TypeId->List PV->Prop
 |0,_,_=>False
 |g+1,t,row=>
  match P.underlying t with
  |some .bool=>∃ b,row=[.bool b]
  |some (.int k)=>∃ n,row=[.int k n]/\(Lit.int k n).wf=true
  |some .string=>∃ s:ByteArray,row=[.str s]/\s.size<=reachBytes
  |some (.pointer e)=>row=[.qf]\/∃ r,row=[.rp r 0]/\Sh P g e r
  |some (.slice e)=>row=[.ga]\/∃ es:List (List PV),row=[.lit (P.cellsOf e) (es.map (Dn P e))]/\es.length<=maxLen/\es.length * P.bytesOf e<=reachBytes/\∀ r∈es,Sh P g e r
  |some (.struct fs)=>∃ rows:List (List PV),rows.length=fs.size/\row=rows.flatten/\∀ (i:Nat)(f:Field)(r:List PV),fs.toList[i]? =some f->rows[i]? =some r->Sh P g f.type r
  |some (.array n e)=>∃ es:List (List PV),es.length=n/\row=es.flatten/\∀ r∈es,Sh P g e r
  |_=>False
theorem Oy{P:Program}{e:TypeId}:∀ {ds:List (DataW H)}{d:DataW H}{n:Nat},d∈ds->n∈d.weights P e->n∈DataW.weightsAll P e ds
 |c::ds,d,n,hd,hn=>by
  simp only[DataW.weightsAll,Naa];rcases bab.1 hd with rfl | hd
  ·exact .inl hn
  ·exact .inr (Oy hd hn)
theorem F4:∀ (g:Nat)(t:TypeId)(fuel:Nat)(cs:List Value)(x:DataW H×List MemPlace),wP P g t=true->DataW.trod enc P w base sp held fuel t cs=some x->(∀ n∈x.1.weights P t,n<=reachBytes)->Sh P g t (rowOf P g t x.1):=by
 intro g
 induction g with
 |zero=>intro t fuel cs x h;simp[wP] at h
 |succ g ih=>
  intro t fuel cs x Ba h hwt;simp only[wP] at Ba;cases hu:P.underlying t with
  |none=>simp[hu] at Ba
  |some td=>
   simp only[hu] at Ba;cases td with
   |bool=>obtain⟨b,rfl,rfl⟩:=DataW.trod_bool hu h;simp only[Sh,rowOf,hu];exact⟨_,rfl⟩
   |int k=>obtain⟨n,rfl,rfl,hw⟩:=DataW.trod_int hu h;simp only[Sh,rowOf,hu];exact⟨_,rfl,hw⟩
   |string=>
    obtain⟨s,rfl,rfl,hs⟩:=DataW.trod_string hu h
    simp only[Sh,rowOf,hu];obtain⟨⟨l⟩⟩:=s;refine⟨_,rfl,?_⟩;have:=hwt l.length (by simp[DataW.weights])
    simpa[ByteArray.size] using this
   |pointer e=>
    simp only[daa,beq_iff_eq,decide_eq_true_eq] at Ba;rcases DataW.trod_pointer hu h with⟨rfl,rfl⟩ | ⟨a,ecs,y,n,rfl,rfl,rfl,h1,h2⟩
    ·simp only[Sh,rowOf,hu];exact .inl trivial
    ·simp only[Sh,rowOf,hu];exact .inr ⟨_,rfl,ih e n _ y Ba.2 h2 (fun n hn=>hwt n (by simpa[DataW.weights,hu] using hn))⟩
   |slice e=>
    simp only[daa,beq_iff_eq,decide_eq_true_eq] at Ba;rcases DataW.trod_slice hu h with⟨rfl,rfl⟩ | ⟨a,len,cap,els,rest,n,rfl,rfl,rfl,_,hlc,Gad,hlen,I8,_,_⟩
    ·simp only[Sh,rowOf,hu];exact .inl trivial
    ·have K7:=hwt _ (show _ by simp only[DataW.weights,hu];exact List.mem_cons_self ..)
     have Qaj:els.length * P.bytesOf e<=reachBytes:=by refine sac (wac _ ?_) K7;simp
     simp only[Sh,rowOf,hu];refine .inr ⟨els.map fun y=>rowOf P g e y.1,by simp[wad,Function.comp_def],by simp;omega,by simpa using Qaj,fun r hr=> ?_⟩
     obtain⟨y,hy,rfl⟩:=oab.1 hr
     obtain⟨i,hi⟩:=Dac.1 hy
     have h1:=I8 i (by have:=getElem?_lt hi;omega);rw[hi] at h1;simp only[uaa] at h1;obtain⟨ecs,_,h2⟩:=h1;refine ih e n ecs y Ba.2 h2 (fun k hk=>hwt k ?_)
     simp only[DataW.weights,hu,bab,Naa];exact .inr (.inl (Oy (oab.2 ⟨y,hy,rfl⟩) hk))
   |struct fs=>
    simp only[daa,beq_iff_eq] at Ba;obtain⟨xs,n,rfl,rfl,n9,hxs,hf⟩:=DataW.trod_struct hu h
    simp only[Sh,rowOf,hu];refine⟨_,?_,rfl,fun i f r hfi hr=> ?_⟩
    ·simp[hxs]
    ·simp only[Faa,faa] at hr
     obtain⟨p,hp,rfl⟩:=hr;rw[List.getElem?_zip_eq_some] at hp;obtain⟨S9,Sl⟩:=hp;have Raj:=Sl;simp only[Faa,faa] at Sl;obtain⟨y,hy,hy2⟩:=Sl;rw[hfi] at S9;injection S9 with S9
     have:=hf i f (by simpa using hfi);rw[hy] at this;rw[<- S9,<-hy2];refine ih _ n _ y (aab.1 Ba.2 f (sab hfi)) this (fun k hk=>hwt k ?_);simp only[DataW.weights,hu];exact DataW.weights_mem_each (j:=i) (t:=f.type) (d:=y.1) (by simp[hfi]) (by rw[hy2];exact Raj) k hk
   |array n e=>
    simp only[daa,beq_iff_eq] at Ba;obtain⟨xs,m,rfl,rfl,n9,hxs,hf⟩:=DataW.trod_array hu h
    simp only[Sh,rowOf,hu];refine⟨_,?_,rfl,fun r hr=> ?_⟩
    ·simp[hxs]
    ·simp only[wad,oab] at hr
     obtain⟨y,hy,rfl⟩:=hr;obtain⟨i,hi⟩:=Dac.1 hy
     have:=hf i (by have:=getElem?_lt hi;omega);rw[hi] at this;refine ih _ m _ y Ba.2 this (fun k hk=>hwt k ?_)
     simp only[DataW.weights,hu];exact Oy (oab.2 ⟨y,hy,rfl⟩) hk
   |_=>simp at Ba
theorem AZ{r:Reach}{b0:Nat}{g:Nat}{t:TypeId}{v:Value}{d:DataW H}{ps:List MemPlace}(Ba:wP P g t=true)(M7:Value.okWide P w r b0 t v)(hd:DataW.Trod enc P w base (fun _=>true) held t v d ps):
 Ta (Rw w) (Dn P t (rowOf P g t d)) v:=by
 obtain⟨fuel,hf⟩:=hd;have hr:=J0 g t fuel _ _ Ba hf;have h1:=WR Ba;unfold Dn;cases ha:Yt P t with
 |true=>
  simp only[if_true];have:∃ cs,v= .agg cs:=by
   unfold Yt at ha;unfold Value.okWide at M7
   cases hu:P.underlying t with
   |none=>simp[hu] at ha
   |some td=>cases td <;> simp[hu] at ha M7 <;> exact⟨_,M7.choose_spec.1⟩
  obtain⟨⟨cs⟩,rfl⟩:=this;exact .agg _ _ (by simpa[Value.cells] using hr.rel)
 |false=>
  simp only[Baa,if_false];have hc:=h1.resolve_left (by simp[ha])
  have hlen:=hr.len
  rw[hc] at hlen;generalize rowOf P g t d=row at hr hlen ⊢;have hrel:=hr.rel
  match row,hlen with
  | [p],_=>
    have:∃ u,v.cells.toList=[u]/\Ta (Rw w) p u:=by
     generalize v.cells.toList=l at hrel
     cases hrel with
     |cons _ _ u us h2 h3=>cases h3;exact⟨u,rfl,h2⟩
    obtain⟨u,hu,hp⟩:=this;have:v=u:=by
     cases v <;> simp[Value.cells] at hu <;> first | exact hu | skip
     rename_i cs;unfold Value.okWide at M7
     unfold Yt at ha;cases hut:P.underlying t with
     |none=>simp[hut,Cell.okWide,Cell.ok] at M7
     |some td=>cases td <;> simp[hut] at ha <;> simp[hut,Cell.okWide,Cell.ok] at M7
    rw[this];exact hp
end
def ba.plain:ba->Bool
 | .box cells=>cells.all AV.free'
 | .tok _ _ _=>true
 | .dead=>true
 |_=>false
where AV.free':AV->Bool
 | .pv _=>true
 |_=>false
theorem Qa{n d:Nat}{p:PV}:AV.cut n d (.pv p)=some (.pv p):=by cases d <;> rfl
def Ex.stop:Ex->Bool
 | .norm=>false
 |_=>true
def Wc(call:Sa)(live:List Nat)(b:Ja)(n:Nat)(s:St):Option (Ex×St):=ma (oa call b) (na n live) s
theorem Zl{g:St->Option (Ex×St)}(I:Nat->St->Prop)(Q:Ex->St->Prop):∀ (k N i:Nat)(s:St),N < i+k->i<=N->I i s->
 (∀ i,i < N->∀ s,I i s->(∃ s',g s=some (.norm,s')/\I (i+1) s')\/(∃ ex s',g s=some (ex,s')/\ex.stop=true/\Q ex s'))->
 (∀ s,I N s->∃ ex s',g s=some (ex,s')/\ex.stop=true/\Q ex s')->
 ∃ ex s',ab g k s=some (ex,s')/\ex.stop=true/\Q ex s':=by
 intro k
 induction k with
 |zero=>intro N i s h1 h2;omega
 |succ k ih=>
  intro N i s h1 h2 hI hs he;have out:(∃ ex s',g s=some (ex,s')/\ex.stop=true/\Q ex s')->∃ ex s',ab g (k+1) s=some (ex,s')/\ex.stop=true/\Q ex s':=by
   rintro⟨ex,s',h,hx,hq⟩;refine⟨ex,s',?_,hx,hq⟩;show Tz (ab g k) (g s)=_;rw[h];cases ex with
   |norm=>cases hx
   |exit=>rfl
   |ret=>rfl
   |goto=>rfl
  by_cases hi:i < N
  ·rcases hs i hi s hI with⟨s',h,hI'⟩ | h
   ·obtain⟨ex,s'',h2,hx,hq⟩:=ih N (i+1) s' (by omega) (by omega) hI' hs he
    refine⟨ex,s'',?_,hx,hq⟩;show Tz (ab g k) (g s)=_;rw[h];exact h2
   ·exact out h
  ·have:i=N:=by omega
   subst this;exact out (he s hI)
theorem Aa{n:Int}(h: -9223372036854775808<=n/\n<=9223372036854775807):IntKind.i64.wrap n=n:=by
 rw[IntKind.wrap_i64];omega
theorem wrap_u8{n:Int}(h:0<=n/\n<=255):IntKind.u8.wrap n=n:=by
 have e:IntKind.u8.wrap n=n % 256:=by simp[IntKind.signed,IntKind.wrap,IntKind.bits]
 rw[e];omega
open Go.ChangeShapes Go.WideShapes Go.ChangeAt Go.RowKit
def HZ(P:Program){H:Type}(g:Nat):List TypeId->List (DataW H)->List PV
 |t::ts,d::ds=>Dn P t (rowOf P g t d)::HZ P g ts ds
 |_,_=>[]
def Z1(P:Program){H:Type}(g:Nat):List TypeId->List (DataW H)->Prop
 |t::ts,d::ds=>Sh P g t (rowOf P g t d)/\Z1 P g ts ds
 | [],[]=>True
 |_,_=>False
def SH(P:Program)(g:Nat)(ts:List TypeId):Bool:=ts.all fun t=>wP P g t&&P.readableRec t&&decide (t < P.types.size)
section
variable {H:Type}{enc:TypeId×Value->H}{P:Program}{w:World}{base:Nat}{held:Bool}
theorem OD:∀ {ts:List TypeId}{vs:List Value}{ds:List (DataW H)}{ps:List MemPlace}{sp:Nat->Bool},DataW.TrodAll enc P w base sp held ts vs ds ps->vs.length=ts.length/\ds.length=ts.length
 | [],[],[],_,_,_=>⟨rfl,rfl⟩
 |t::ts,v::vs,d::ds,_,_,⟨p,q,_,h,_⟩=>by have:=OD h;simp[this.1,this.2]
 | [],_::_,_,_,_,h=>h.elim
 | [],[],_::_,_,_,h=>h.elim
 |_::_,[],_,_,_,h=>h.elim
 |_::_,_::_,[],_,_,h=>h.elim
theorem pE{r:Reach}{b0 g:Nat}:∀ {ts:List TypeId}{vs:List Value}{ds:List (DataW H)}{ps:List MemPlace},SH P g ts=true->
 (∀ (j:Nat) t v,ts[j]? =some t->vs[j]? =some v->Value.okWide P w r b0 t v)->
 DataW.TrodAll enc P w base (fun _=>true) held ts vs ds ps->Ve (Rw w) (HZ P g ts ds) vs
 | [],[],[],_,_,_,_=> .nil
 |t::ts,v::vs,d::ds,_,Ba,M7,⟨p,q,hd,h,_⟩=>by simp only[SH,zac,daa] at Ba;exact .cons _ _ _ _ (AZ Ba.1.1.1 (M7 0 t v rfl rfl) hd) (pE (by simp only[SH];exact Ba.2) (fun j t v ht hv=>M7 (j+1) t v ht hv) h)
 | [],_::_,_,_,_,_,h=>h.elim
 | [],[],_::_,_,_,_,h=>h.elim
 |_::_,[],_,_,_,_,h=>h.elim
 |_::_,_::_,[],_,_,_,h=>h.elim
theorem LG{g:Nat}:∀ {ts:List TypeId}{vs:List Value}{ds:List (DataW H)}{ps:List MemPlace},SH P g ts=true->
 (∀ n∈DataW.weightsEach P ts ds,n<=reachBytes)->
 DataW.TrodAll enc P w base (fun _=>true) held ts vs ds ps->Z1 P g ts ds
 | [],[],[],_,_,_,_=>trivial
 |t::ts,v::vs,d::ds,_,Ba,hw,⟨p,q,⟨fuel,hd⟩,h,_⟩=>by simp only[SH,zac,daa] at Ba;simp only[DataW.weightsEach,Naa] at hw;exact⟨F4 g t fuel _ (d,p) Ba.1.1.1 hd (fun n hn=>hw n (.inl hn)),LG (by simp only[SH];exact Ba.2) (fun n hn=>hw n (.inr hn)) h⟩
 | [],_::_,_,_,_,_,h=>h.elim
 | [],[],_::_,_,_,_,h=>h.elim
 |_::_,[],_,_,_,_,h=>h.elim
 |_::_,_::_,[],_,_,_,h=>h.elim
theorem bA{g:Nat}(hl:laidOutB P=true){w':World}(hb:Below w.heap.size w w'):∀ {ts:List TypeId}{vs:List Value}{ds:List (DataW H)}{ps:List MemPlace},SH P g ts=true->
 (∀ x∈ps,x.block < w.heap.size)->
 DataW.TrodAll enc P w 0 (fun _=>true) true ts vs ds ps->DataW.TrodAll enc P w' 0 (fun b=>decide (b < w.heap.size)) true ts vs ds ps
 | [],[],[],_,_,_,h=>h
 |t::ts,v::vs,d::ds,_,Ba,hlt,⟨p,q,hd,h,e⟩=>by
  subst e;simp only[SH,zac,daa] at Ba;exact⟨p,q,Below.trod hl Ba.1.1.2 (of_decide_eq_true Ba.1.2) hd hb (fun x hx=>hlt x (Naa.2 (.inl hx))),
   bA hl hb (by simp only[SH];exact Ba.2) (fun x hx=>hlt x (Naa.2 (.inr hx))) h,rfl⟩
 | [],_::_,_,_,_,_,h=>h.elim
 | [],[],_::_,_,_,_,h=>h.elim
 |_::_,[],_,_,_,_,h=>h.elim
 |_::_,_::_,[],_,_,_,h=>h.elim
end
theorem JQ{H:Type}{enc:TypeId×Value->H}{C:Checked}{os:Os}{f:FuncId}{fn:Func}{F:List PV->Option PV}{s:ChangeSpec}{bt:TypeId}{ts:List TypeId}(g:Nat)
 (own:ownKnob C.prog.godebug=none) (laid:laidOutB C.prog=true) (started:os.Started) (noInit:C.prog.inits.idxOf? f=none) (hfn:C.prog.funcs[f]? =some fn)
 (witness:∃ (w:World)(tape:Tape)(i:Input),w.os=os/\(w.forCall tape i).Shaped C.prog/\i.vars=[]/\Input.okWide C.prog (w.forCall tape i) .any w.heap.size f i/\
  s.pre6 enc C.prog fn [] false (w.forCall tape i).memory i.args/\({}:Assume).holds C.prog (lone (Frame.enter C.prog f i.args .normal) [] (w.forCall tape i)))
 (hvars:s.vars=[]) (hplain:s.plain.varTypes C.prog=[]) (hts:fn.params=ts.toArray) (hres:fn.resultTypes= #[bt]) (hbt:C.prog.underlying bt=some .bool)
 (Ba:SH C.prog g ts=true) (hpure:Oa C.prog f F)
 (hspec:∀ ds:List (DataW H),ds.length=ts.length->s.fn H (ds++[])={results:=[.lit (.bool true)],args:=ds})
 (run:∀ ds:List (DataW H),Z1 C.prog g ts ds->F (HZ C.prog g ts ds)=some (.bool true)):
 ReturnsInHanded {} C os f .any (s.pre6 enc C.prog fn [] false) (s.post enc C.prog fn false true false false):=by
 refine returnsInHanded_of_change_sized own started noInit hfn witness ?_;intro W base args ds gs before nah hW _ hwt _;have M7:∀ (j:Nat) t v,ts[j]? =some t->args.toList[j]? =some v->Value.okWide C.prog W .any base t v:=by intro j t v ht hv;exact nah j t v (by rw[hts];simpa using ht) (by simpa using hv)
 have hW':=hW;obtain⟨p,q,hA0,hV,rfl,_,_⟩:=hW;rw[hvars] at hV;obtain⟨rfl,rfl⟩:=trodVars_none hV;have hA:DataW.TrodAll enc C.prog W 0 (fun _=>true) true ts args.toList ds p:=by rw[hts] at hA0;simpa using hA0
 have hlt:∀ x∈p,x.block < W.heap.size:=fun x hx=>by simpa using hW'.lt x (by simpa using hx)
 have hw':∀ n∈DataW.weightsEach C.prog ts ds,n<=reachBytes:=by
  intro n hn;rw[hts,hplain] at hwt;simp only[Kab] at hwt;have:=aab.1 hwt n (by simpa using hn)
  simpa using this
 have hrel:=pE Ba M7 hA;have hr:=run ds (LG Ba hw' hA);refine (nU hpure hrel hr).mono fun e W' ⟨he,hb⟩=> ?_
 subst he;have hs:=hspec ds (OD hA).2
 refine⟨_,rfl,ds,[],p++[],[],p,[],hW',?_,?_,?_,hb.frame _,fun h=>by cases h⟩
 ·rw[hs,hres]
  exact trodAll_mk1 (shut_bool hbt _)
 ·rw[hs,hts]
  exact bA laid hb Ba hlt hA
 ·rw[hs,hvars]
  exact rfl
theorem AH{P:Program}{H:Type}{g:Nat}{t:TypeId}{ts:List TypeId}{ds:List (DataW H)}(h:Z1 P g (t::ts) ds):∃ d r,ds=d::r/\Sh P g t (rowOf P g t d)/\Z1 P g ts r:=by
 cases ds with
 |nil=>exact h.elim
 |cons d r=>exact⟨d,r,rfl,h.1,h.2⟩
theorem XZ{P:Program}{H:Type}{g:Nat}{ds:List (DataW H)}(h:Z1 P g [] ds):ds=[]:=by
 cases ds with
 |nil=>rfl
 |cons d r=>exact h.elim
theorem V0{P:Program}{H:Type}{g:Nat}{t:TypeId}{ds:List (DataW H)}(h:Z1 P g [t] ds):∃ row,HZ P g [t] ds=[Dn P t row]/\Sh P g t row:=by
 obtain⟨d,r,rfl,h1,h2⟩:=AH h;obtain rfl:=XZ h2;exact⟨_,rfl,h1⟩
theorem Y1{P:Program}{H:Type}{g:Nat}{t u:TypeId}{ds:List (DataW H)}(h:Z1 P g [t,u] ds):∃ row row',HZ P g [t,u] ds=[Dn P t row,Dn P u row']/\Sh P g t row/\Sh P g u row':=by
 obtain⟨d,r,rfl,h1,h2⟩:=AH h;obtain⟨row,e,h3⟩:=V0 h2;exact⟨_,row,by rw[HZ,e],h1,h3⟩
theorem SS{P:Program}{H:Type}{g:Nat}{t u v:TypeId}{ds:List (DataW H)}(h:Z1 P g [t,u,v] ds):∃ row row' Bae,HZ P g [t,u,v] ds=[Dn P t row,Dn P u row',Dn P v Bae]/\Sh P g t row/\Sh P g u row'/\Sh P g v Bae:=by
 obtain⟨d,r,rfl,h1,h2⟩:=AH h;obtain⟨row,row',e,h3,h4⟩:=Y1 h2;exact⟨_,row,row',by rw[HZ,e],h1,h3,h4⟩
section
variable {P:Program}{g:Nat}{t e:TypeId}{row:List PV}
theorem nF{k:IntKind}(hu:P.underlying t=some (.int k))(h:Sh P (g+1) t row):∃ n,row=[.int k n]/\(Lit.int k n).wf=true:=by
 simpa only[Sh,hu] using h
theorem cB(hu:P.underlying t=some (.slice e))(h:Sh P (g+1) t row):
 row=[.ga]\/∃ es:List (List PV),row=[.lit (P.cellsOf e) (es.map (Dn P e))]/\es.length<=maxLen/\es.length * P.bytesOf e<=reachBytes/\∀ r∈es,Sh P g e r:=by
 simpa only[Sh,hu] using h
theorem qD{fs:Array Field}(hu:P.underlying t=some (.struct fs))(h:Sh P (g+1) t row):
 ∃ rows:List (List PV),rows.length=fs.size/\row=rows.flatten/\∀ (i:Nat)(f:Field)(r:List PV),fs.toList[i]? =some f->rows[i]? =some r->Sh P g f.type r:=by
 simpa only[Sh,hu] using h
theorem L3{k:IntKind}(hu:P.underlying t=some (.int k)){n:Int}:Dn P t [.int k n]= .int k n:=by
 simp[Dn,Yt,hu]
theorem jG(hu:P.underlying t=some (.slice e)){v:PV}:Dn P t [v]=v:=by
 simp[Dn,Yt,hu]
theorem dD{fs:Array Field}(hu:P.underlying t=some (.struct fs)):Dn P t row= .agg row:=by
 simp[Dn,Yt,hu]
theorem JR{k:IntKind}(hu:P.underlying t=some (.slice e))(hk:P.underlying e=some (.int k))(h:Sh P (g+2) t row):
 row=[.ga]\/∃ l:List Int,row=[.lit (P.cellsOf e) (l.map (.int k))]/\l.length<=maxLen/\l.length * P.bytesOf e<=reachBytes/\∀ n∈l,(Lit.int k n).wf=true:=by
 rcases cB hu h with h | ⟨es,rfl,h1,h2,h3⟩
 ·exact .inl h
 ·refine .inr ⟨es.map fun r=>match r with | [.int _ n]=>n | _=>0,?_,by simpa using h1,by simpa using h2,?_⟩
  ·congr 2
   rw[wad];apply pac;intro r hr;obtain⟨n,rfl,_⟩:=nF hk (h3 r hr);simp[L3 hk]
  ·intro n hn
   obtain⟨r,hr,rfl⟩:=oab.1 hn
   obtain⟨n,rfl,hw⟩:=nF hk (h3 r hr);exact hw
end
def qd{α:Type}(Q:α->Prop):Option α->Prop
 |some a=>Q a
 |none=>False
theorem wc{α:Type}{Q:α->Prop}{o:Option α}(h:qd Q o):∃ a,o=some a/\Q a:=by
 cases o with
 |none=>exact h.elim
 |some a=>exact⟨a,rfl,h⟩
theorem C4{α:Type}{Q:α->Prop}{o:Option α}{a:α}(h:o=some a)(hq:Q a):qd Q o:=by subst h;exact hq
theorem wa{α:Type}{Q R:α->Prop}{o:Option α}(h:qd Q o)(hq:∀ a,Q a->R a):qd R o:=by
 cases o with
 |none=>exact h.elim
 |some a=>exact hq a h
theorem bl{α:Type}{o:Option α}{a:α}(h:qd (fun x=>x=a) o):o=some a:=by
 cases o with
 |none=>exact h.elim
 |some b=>cases (show b=a from h);rfl
theorem Q0{α:Type}{Q:α->Prop}{a:α}:qd Q (some a)=Q a:=rfl
theorem zS{α:Type}{Q:α->Prop}:qd Q none=False:=rfl
theorem ZX{α:Type}{Q:α->Prop}{c:Prop}[Decidable c]{a:Option α}:qd Q (if c then a else none)=(c/\qd Q a):=by
 by_cases h:c
 ·simp[h]
 ·simp[h,zS]
theorem wp_map{α β:Type}{Q:β->Prop}{f:α->β}{o:Option α}:qd Q (o.map f)=qd (fun a=>Q (f a)) o:=by cases o <;> rfl
theorem wp_bind{α β:Type}{Q:β->Prop}{f:α->Option β}{o:Option α}:qd Q (o.bind f)=qd (fun a=>qd Q (f a)) o:=by cases o <;> rfl
def bZ(f:St->Option (Ex×St))(Q:Ex×St->Prop):Ex×St->Prop
 | (.norm,s)=>qd Q (f s)
 |r=>Q r
def UG(id:Nat)(Q:Ex×St->Prop):Ex×St->Prop
 | (.exit id',s)=>if id'=id then Q (.norm,s) else Q (.exit id',s)
 |r=>Q r
theorem YT{f:St->Option (Ex×St)}{Q:Ex×St->Prop}{s:St}:bZ f Q (.norm,s)=qd Q (f s):=rfl
theorem eW{f:St->Option (Ex×St)}{Q:Ex×St->Prop}{s:St}:bZ f Q (.ret,s)=Q (.ret,s):=rfl
theorem dT{f:St->Option (Ex×St)}{Q:Ex×St->Prop}{s:St}{k:Nat}:bZ f Q (.exit k,s)=Q (.exit k,s):=rfl
theorem QN{k:Nat}{Q:Ex×St->Prop}{s:St}:UG k Q (.norm,s)=Q (.norm,s):=rfl
theorem QP{k:Nat}{Q:Ex×St->Prop}{s:St}:UG k Q (.ret,s)=Q (.ret,s):=rfl
theorem GM{k j:Nat}{Q:Ex×St->Prop}{s:St}:UG k Q (.exit j,s)=if j=k then Q (.norm,s) else Q (.exit j,s):=rfl
theorem RB{Q:Ex×St->Prop}{f:St->Option (Ex×St)}{r:Option (Ex×St)}:qd Q (Tz f r)=qd (bZ f Q) r:=by
 rcases r with _ | ⟨ex,s⟩
 ·rfl
 ·cases ex <;> rfl
theorem JU{Q:Ex×St->Prop}{k:Nat}{r:Option (Ex×St)}:qd Q (Vm k r)=qd (UG k Q) r:=by
 rcases r with _ | ⟨ex,s⟩
 ·rfl
 ·cases ex with
  |exit j=>show qd Q (if j=k then _ else _)=_;by_cases h:j=k <;> simp[h,qd,UG]
  |_=>rfl
theorem IX{Q:Ex×St->Prop}{r:Option St}:qd Q (pn r)=qd (fun s=>Q (.norm,s)) r:=by cases r <;> rfl
theorem mT{Q:Ex×St->Prop}{f:St->Option (Ex×St)}{r:Option St}:qd Q (Fp f r)=qd (fun s=>qd Q (f s)) r:=by cases r <;> rfl
theorem XW{Q:Ex×St->Prop}{f g:St->Option (Ex×St)}{s:St}{b:Bool}:qd Q (yx f g s (some b))=((b=true->qd Q (f s))/\(b=false->qd Q (g s))):=by
 cases b <;> simp[yx]
theorem BY{Q:St->Prop}{f:St->Option St}{r:Option St}:qd Q (Lt f r)=qd (fun s=>qd Q (f s)) r:=by cases r <;> rfl
theorem sZ{Q:St->Prop}{d:Option Nat}{e:Tr}{r:Option (AV×List ba)}:qd Q (GD d e r)=qd (fun p=>Q ⟨Qq e d p.1,p.2⟩) r:=by
 rcases r with _ | ⟨v,H⟩ <;> rfl
theorem N3{Q:AV×List ba->Prop}{H:List ba}{r:Option (AV×List ba)}:qd Q (u2 H r)=qd (fun p=>p.2=[]/\Q (p.1,H)) r:=by
 rcases r with _ | ⟨v,_ | ⟨o,H'⟩⟩ <;> simp[u2,qd]
def u3(rs:List zE)(Q:AV×List ba->Prop):Ex×St->Prop
 | (.exit _,_)=>False
 | (.goto _,_)=>False
 | (_,s)=>qd (fun vs=>Q (UF vs,s.H)) (Ra (ME s) rs)
theorem kT{rs:List zE}{Q:AV×List ba->Prop}{s:St}:u3 rs Q (.norm,s)=qd (fun vs=>Q (UF vs,s.H)) (Ra (ME s) rs):=rfl
theorem IW{rs:List zE}{Q:AV×List ba->Prop}{s:St}:u3 rs Q (.ret,s)=qd (fun vs=>Q (UF vs,s.H)) (Ra (ME s) rs):=rfl
theorem UZ{Q:AV×List ba->Prop}{rs:List zE}{r:Option (Ex×St)}:qd Q (tZ rs r)=qd (u3 rs Q) r:=by
 rcases r with _ | ⟨ex,s⟩
 ·rfl
 ·cases ex with
  |exit=>rfl
  |goto=>rfl
  |norm=>rw[aD,wp_bind];rfl
  |ret=>rw[pN,wp_bind];rfl
theorem cT{Q:St->Prop}{f g:St->Option St}{s:St}{b:Bool}:qd Q (bo f g s (some b))=((b=true->qd Q (f s))/\(b=false->qd Q (g s))):=by
 cases b <;> simp[bo]
theorem fT(e:Tr)(d:Nat)(v:AV):Qq e (some d) v=e.set d v:=rfl
theorem jU(e:Tr)(v:AV):Qq e none v=e:=rfl
def LQ(I:Nat->St->Prop)(Q:Ex×St->Prop)(k:Nat):Ex×St->Prop
 | (.norm,s)=>∃ j,j < k/\I j s
 |r=>Q r
theorem Es{g:St->Option (Ex×St)}(I:Nat->St->Prop){Q:Ex×St->Prop}:∀ (n k:Nat)(s:St),k < n->I k s->
 (∀ k t,I k t->qd (LQ I Q k) (g t))->qd (fun r=>r.1.stop=true/\Q r) (ab g n s):=by
 intro n
 induction n with
 |zero=>intro k s h;omega
 |succ n ih=>
  intro k s h hI hs;show qd _ (Tz (ab g n) (g s));obtain⟨⟨ex,t⟩,h1,h2⟩:=wc (hs k s hI);rw[h1];cases ex with
  |norm=>obtain⟨j,hj,hJ⟩:=h2;exact ih j t (by omega) hJ hs
  |exit=>exact⟨rfl,h2⟩
  |ret=>exact⟨rfl,h2⟩
  |goto=>exact⟨rfl,h2⟩
def LN(I:Nat->St->Prop)(Q:Ex×St->Prop)(i:Nat):Ex×St->Prop
 | (.norm,s)=>I (i+1) s
 |r=>Q r
theorem Gb{g:St->Option (Ex×St)}(I:Nat->St->Prop){Q:Ex×St->Prop}(N:Nat)(hN:N < ua)(s:St)(h0:I 0 s)
 (hs:∀ i t,i < N->I i t->qd (LN I Q i) (g t)) (he:∀ t,I N t->qd (fun r=>r.1.stop=true/\Q r) (g t)):
 qd (fun r=>r.1.stop=true/\Q r) (ab g ua s):=by
 refine Es (fun k t=>∃ i,i+k=N/\I i t) ua N s hN ⟨0,by omega,h0⟩ ?_;rintro k t ⟨i,hi,hI⟩;rcases Zac k with h | h
 ·obtain⟨⟨ex,u⟩,h1,h2,h3⟩:=wc (he t (by rw[show N=i by omega];exact hI))
  rw[h1];cases ex with
  |norm=>cases h2
  |exit=>exact h3
  |ret=>exact h3
  |goto=>exact h3
 ·obtain⟨⟨ex,u⟩,h1,h2⟩:=wc (hs i t (by omega) hI)
  rw[h1];cases ex with
  |norm=>exact⟨k - 1,by omega,i+1,by omega,h2⟩
  |exit=>exact h2
  |ret=>exact h2
  |goto=>exact h2
theorem wZ{i n:Nat}:Ia (i:Int) n=(i < n):=by unfold Ia;simp
theorem kQ{i n:Nat}:decide ((i:Int) < (n:Int))=decide (i < n):=by simp
theorem sg{n:Nat}(h:n+1<=9223372036854775807):IntKind.i64.wrap ((n:Int)+1)=((n+1:Nat):Int):=Aa (by omega)
theorem za:deep=5+1:=rfl
theorem oB(H:List ba)(d:Nat)(p:PV):Ub H d (.pv p)=some p:=by cases d <;> rfl
end Go.AM
namespace Go.AM.So
open Go.AM
def Yh(D:Array (List PV)):List AV:=D.toList.flatten.map .pv
def zh(sz:Nat)(D:Array (List PV))(fl:Nat)(nl:Bool):ba:= .seq sz true (Yh D) fl nl
def rX(sz:Nat)(r:List PV):Prop:=r.length=sz/\∀ c∈r,(AV.pv c).one=true
theorem tv{α:Type}{sz:Nat}:∀ {l:List (List α)},(∀ r∈l,r.length=sz)->l.flatten.length=l.length * sz
 | [],_=>by simp
 |r::l,h=>by rw[aac,Aaa,h r (by simp),tv fun x hx=>h x (by simp[hx]),Raa,Nat.add_mul];omega
theorem Mu{α:Type}{sz:Nat}:∀ {l:List (List α)}{i:Nat}(hi:i < l.length),(∀ r∈l,r.length=sz)->(l.flatten.drop (i * sz)).take sz=l[i]
 |r::l,0,_,h=>by have:=h r (by simp);rw[Kae,Aac,aac,Jac (by omega),Zaa (by omega)];rfl
 |r::l,i+1,hi,h=>by
  have h1:=h r (by simp);rw[aac,List.getElem_cons_succ,<-Mu (sz:=sz) (l:=l) (i:=i) (by simpa using hi) fun x hx=>h x (by simp[hx])];have e:(i+1) * sz=r.length+i * sz:=by rw[h1,Nat.add_mul];omega
  rw[e,Hae,dac (by omega),cab,Eac]
theorem Nh{α:Type}:∀ (vs cs:List α)(off p:Nat),(fa cs off vs)[p]? =if h:off<=p/\p < off+vs.length/\p < cs.length then vs[p - off]? else cs[p]?
 | [],cs,off,p=>by simp[fa];intro h1 h2;omega
 |v::vs,cs,off,p=>by
  rw[fa,Nh vs]
  by_cases hp:p=off
  ·subst hp
   rw[dif_neg (by omega)]
   by_cases hc:p < cs.length
   ·rw[Qaa hc,dif_pos ⟨by omega,by simp,hc⟩];simp
   ·rw[dif_neg (by omega),Yaa (by simp;omega),Yaa (by omega)]
  ·rw[Jaa (by omega)]
   by_cases h1:off+1<=p/\p < off+1+vs.length/\p < cs.length
   ·rw[dif_pos (by simpa using h1),dif_pos ⟨by omega,by simp;omega,by omega⟩]
    have:p - off=(p - (off+1))+1:=by omega
    rw[this,mab]
   ·rw[dif_neg (by simpa using h1),dif_neg]
    rintro⟨h2,h3,h4⟩;simp at h3;exact h1 ⟨by omega,by omega,h4⟩
theorem xW{α:Type}{sz:Nat}{l:List (List α)}{i:Nat}(hi:i < l.length)(h:∀ r∈l,r.length=sz){r:List α}(hr:r.length=sz):
 fa l.flatten (i * sz) r=(l.set i r).flatten:=by
 induction l generalizing i with
 |nil=>simp at hi
 |cons a l ih=>
  have ha:=h a (by simp);cases i with
  |zero=>
   rw[Kae,nac,aac,aac];apply Vab;intro p;rw[Nh]
   by_cases hp:p < sz
   ·rw[dif_pos ⟨by omega,by omega,by rw[Aaa];omega⟩,gaa (by omega)];simp
   ·rw[dif_neg (by omega),Paa (by omega),Paa (by omega),ha,hr]
  |succ i=>
   have hi':i < l.length:=by simpa using hi
   rw[Mac,aac,aac,<-ih hi' fun x hx=>h x (by simp[hx])];have e:(i+1) * sz=a.length+i * sz:=by rw[ha,Nat.add_mul];omega
   rw[e];apply Vab;intro p;rw[Nh]
   by_cases hp:p < a.length
   ·rw[dif_neg (by omega),gaa hp,gaa hp]
   ·rw[Paa (by omega),Paa (by omega),Nh]
    have e2:(a.length+i * sz<=p/\p < a.length+i * sz+r.length/\p < (a++l.flatten).length)=(i * sz<=p - a.length/\p - a.length < i * sz+r.length/\p - a.length < l.flatten.length):=by rw[Aaa];apply propext;constructor <;> rintro⟨h1,h2,h3⟩ <;> exact⟨by omega,by omega,by omega⟩
    simp only[e2];have e3:p - (a.length+i * sz)=p - a.length - i * sz:=by omega
    rw[e3]
theorem mG{α β:Type}(f:α->β):∀ (vs cs:List α)(off:Nat),(fa cs off vs).map f=fa (cs.map f) off (vs.map f)
 | [],cs,off=>rfl
 |v::vs,cs,off=>by rw[fa,mG f vs,xae];rfl
theorem pz{sz:Nat}{D:Array (List PV)}(h:∀ r∈D.toList,rX sz r):(Yh D).length=D.size * sz:=by
 rw[Yh,paa,tv fun r hr=>(h r hr).1];rfl
theorem Tf(l:List PV):Tc (l.map .pv)=some l:=by
 induction l with
 |nil=>rfl
 |cons a l ih=>rw[pab,Tc,ih];rfl
def Vd(H:List ba):Prop:=∀ n,H.length<=n->∀ o∈H,qa n o=some o
theorem Bm{α:Type}{f:α->Option α}:∀ {l:List α},(∀ a∈l,f a=some a)->Ra f l=some l
 | [],_=>rfl
 |a::l,h=>by rw[Ra,h a (by simp),Bm fun x hx=>h x (by simp[hx])];rfl
theorem gz(sz:Nat)(D:Array (List PV))(fl:Nat)(nl:Bool)(n:Nat):qa n (zh sz D fl nl)=some (zh sz D fl nl):=by
 have:(Yh D).all (AV.ie n deep)=true:=by
  rw[aab];intro v hv;obtain⟨p,_,rfl⟩:=oab.1 hv
  rfl
 simp[qa,zh,this]
structure Hp(id sz:Nat)(P:List PV->Prop)(H0:List ba)(D:Array (List PV))(H:List ba):Prop where
 le:H0.length<=H.length
 Qv:Vd H
 ie:∀ k,k < H0.length->k≠id->H[k]? =H0[k]?
 get:∃ fl nl,fl<=D.size * sz/\H[id]? =some (zh sz D fl nl)
 rows:∀ r∈D.toList,P r
 lt:id < H0.length
section
variable {id sz:Nat}{P:List PV->Prop}{H0 H:List ba}{D:Array (List PV)}(hP:∀ r,P r->rX sz r)
theorem Hp.refl{fl:Nat}{nl:Bool}(hg:Vd H)(hf:fl<=D.size * sz)(h:H[id]? =some (zh sz D fl nl))(hr:∀ r∈D.toList,P r):Hp id sz P H D H:=
 ⟨waa _,hg,fun _ _ _=>rfl,⟨fl,nl,hf,h⟩,hr,(qaa.1 h).1⟩
theorem Hp.same(h:Hp id sz P H0 D H):Hp id sz P H D H:=⟨waa _,h.Qv,fun _ _ _=>rfl,h.get,h.rows,eac h.lt h.le⟩
theorem Hp.trans{H':List ba}{D':Array (List PV)}(h:Hp id sz P H0 D H)(h':Hp id sz P H D' H'):Hp id sz P H0 D' H':=
 ⟨sac h.le h'.le,h'.Qv,fun k hk I7=>(h'.ie k (eac hk h.le) I7).trans (h.ie k hk I7),h'.get,h'.rows,h.lt⟩
theorem R5{D:Array (List PV)}{i:Nat}(hi:i < D.size):D[i]! =D[i]:=getElem!_pos D i hi
include hP
theorem Hp.Pd(h:Hp id sz P H0 D H){n:Nat}(hn:n=D.size){i:Int}{k:Nat}(hi:i=(k:Int))(hk:k < D.size):ta H sz (.own id n) i=some (.Ec id (n * sz) (k * sz)):=by
 obtain⟨fl,nl,hf,hg⟩:=h.get
 have hl:=pz fun r hr=>hP r (h.rows r hr);subst hn hi;simp only[ta,hg,zh];rw[if_pos (by refine⟨trivial,?_,?_⟩ <;> first | (unfold Ia;omega) | (unfold Ui;omega))];simp
theorem Hp.load(h:Hp id sz P H0 D H){n:Nat}(hn:n=D.size){k:Nat}(hk:k < D.size):pa H true sz (.Ec id (n * sz) (k * sz))=some (.pv (.agg D[k]!)):=by
 obtain⟨fl,nl,hf,hg⟩:=h.get
 have hl:=pz fun r hr=>hP r (h.rows r hr);subst hn;have hle:k * sz+sz<=D.size * sz:=by
  have:(k+1) * sz<=D.size * sz:=wac _ hk
  rw[Nat.add_mul] at this;omega
 simp only[pa,hg,zh,hl,Lh,if_true];rw[if_pos hle];have e:((Yh D).drop (k * sz)).take sz=D[k]!.map .pv:=by rw[Yh,<-List.map_drop,<-List.map_take,Mu (l:=D.toList) (i:=k) (by simpa using hk) fun r hr=>(hP r (h.rows r hr)).1,R5 hk];simp
 rw[e];simp[gv,Tf]
theorem Hp.store(h:Hp id sz P H0 D H){n:Nat}(hn:n=D.size){k:Nat}(hk:k < D.size){r:List PV}(hr:P r):
 ∃ H',Ha H sz (.Ec id (n * sz) (k * sz)) (.pv (.agg r))=some H'/\Hp id sz P H0 (D.setIfInBounds k r) H'/\H'.length=H.length:=by
 obtain⟨fl,nl,hf,hg⟩:=h.get
 have hl:=pz fun r hr=>hP r (h.rows r hr);subst hn;have hle:k * sz+sz<=D.size * sz:=by
  have:(k+1) * sz<=D.size * sz:=wac _ hk
  rw[Nat.add_mul] at this;omega
 have hro:=hP r hr;have v8:((AV.pv (.agg r)).cells.all AV.one)=true:=by
  rw[aab];intro v hv;obtain⟨c,hc,rfl⟩:=oab.1 hv
  exact hro.2 c hc
 have hlt:id < H.length:=eac h.lt h.le
 have he:fa (Yh D) (k * sz) ((AV.pv (.agg r)).cells)=Yh (D.setIfInBounds k r):=by show fa (D.toList.flatten.map AV.pv) (k * sz) (r.map AV.pv)=_;rw[<- mG,xW (by simpa using hk) (fun r hr=>(hP r (h.rows r hr)).1) hro.1,Yh,Array.toList_setIfInBounds]
 refine⟨H.set id (zh sz (D.setIfInBounds k r) (D.size * sz) nl),?_,⟨by simpa using h.le,?_,?_,⟨D.size * sz,nl,by simp,Qaa hlt⟩,?_,h.lt⟩,by simp⟩
 ·simp only[Ha,hg,zh]
  have O7:(AV.pv (.agg r)).cells.length=sz:=by show (r.map AV.pv).length=sz;rw[paa];exact hro.1
  rw[if_pos ⟨O7,v8⟩,if_pos ⟨hl,hle⟩,he]
 ·intro m hm o ho
  rcases Nab ho with h1 | h1
  ·exact h.Qv m (by simpa using hm) o h1
  ·subst h1;exact gz _ _ _ _ _
 ·intro k hk I7
  rw[Jaa (rac I7)];exact h.ie k hk I7
 ·intro x hx
  rw[Array.toList_setIfInBounds] at hx;rcases Nab hx with h1 | h1
  ·exact h.rows x h1
  ·subst h1;exact hr
omit hP in
theorem Hp.na(h:Hp id sz P H0 D H){n:Nat}(hn:n=H0.length)(g0:Vd H0):Ra (qa n) (H.take n)=some (H.take n)/\Hp id sz P H0 D (H.take n)/\(H.take n).length=n:=by
 subst hn;have hle:=h.le
 have hmem:∀ o∈H.take H0.length,∀ m,H0.length<=m->qa m o=some o:=by
  intro o ho m hm;obtain⟨k,hk⟩:=List.getElem?_of_mem ho
  have D8:k < H0.length:=by have:=(qaa.1 hk).1;simp at this;omega
  rw[Cac D8] at hk
  by_cases G7:k=id
  ·subst G7
   obtain⟨fl,nl,_,hg⟩:=h.get
   rw[hg] at hk;injection hk with hk;subst hk
   exact gz _ _ _ _ _
  ·rw[h.ie k D8 G7] at hk
   exact g0 m hm o (sab hk)
 have hlen:(H.take H0.length).length=H0.length:=by simp;omega
 refine⟨Bm fun o ho=>hmem o ho _ (waa _),⟨by omega,fun m hm o ho=>hmem o ho m (by omega),?_,?_,h.rows,h.lt⟩,hlen⟩
 ·intro k hk I7
  rw[Cac hk];exact h.ie k hk I7
 ·obtain⟨fl,nl,hf,hg⟩:=h.get
  exact⟨fl,nl,hf,by rw[Cac h.lt];exact hg⟩
end
end Go.AM.So
namespace Go.AM
theorem J{a b:Prop}(x:a)(y:b):a/\b:=⟨x,y⟩
def P6:=PLift.up (J (J (J (J (J (J (J (J @Pb.eq_1 @N1) (J @rP @J4)) (J (J @gW @P5) (J @C3 @rZ))) (J (J (J @S1 @U3) (J @L5 @DB)) (J (J @MV @CZ) (J @KY @PY)))) (J (J (J (J @LZ @IY) (J @K0 @Y5)) (J (J @N5 @EZ) (J @lZ @V2))) (J (J (J @xa.eq_1 @xa.eq_2) (J @xa.eq_3 @xa.eq_4)) (J (J @xa.eq_5 @xa.eq_6) (J @xa.eq_7 @xa.eq_8))))) (J (J (J (J (J @xa.eq_9 @xa.eq_10) (J @xa.eq_11 @xa.eq_12)) (J (J @xa.eq_13 @xa.eq_14) (J @xa.eq_15 @xa.eq_16))) (J (J (J @xa.eq_17 @xa.eq_18) (J @xa.eq_19 @xa.eq_20)) (J (J @xa.eq_21 @xa.eq_22) (J @xa.eq_23 @xa.eq_24)))) (J (J (J (J @xa.eq_25 @xa.eq_26) (J @xa.eq_27 @xa.eq_28)) (J (J @xa.eq_29 @xa.eq_30) (J @xa.eq_31 @xa.eq_32))) (J (J (J @xa.eq_33 @xa.eq_34) (J @xa.eq_35 @xa.eq_36)) (J (J @xa.eq_37 @xa.eq_38) (J @xa.eq_39 @xa.eq_40)))))) (J (J (J (J (J (J (J @xa.eq_41 @xa.eq_42) @List.map.eq_1.{0,0}) (J @List.map.eq_2.{0,0} @List.length.eq_1.{0})) (J (J @List.length.eq_2.{0} @if_true.{0}) (J @Ts.eq_1 @Ts.eq_2))) (J (J (J @AO.ev.eq_1 @AO.ev.eq_2) (J @AO.ev.eq_3 @Tr.aa)) (J (J @ch.eq_1 @ch.eq_2) (J @yZ @WZ)))) (J (J (J (J @aR @IT) (J @oW @tT)) (J (J @nP @y0) (J @C1 @KS))) (J (J (J @XL @RP) (J @DN @AV.cells.eq_1)) (J (J @AV.cells.eq_2 @AV.cells.eq_3) (J @PV.cells.eq_1 @PV.cells.eq_2))))) (J (J (J (J (J @pN @aD) (J @ME.eq_1 @ME.eq_2)) (J (J @UF.eq_1 @UF.eq_2) (J @Ra.eq_1 @Ra.eq_2))) (J (J (J @Ub.eq_1 @Ub.eq_2) (J @Ub.eq_3 @Ub.eq_4)) (J (J @Ub.eq_5 @Ub.eq_6) (J @Ub.eq_7 @Ub.eq_8)))) (J (J (J (J @Daa.{0,0} @Kaa.{0,0}) (J @AV.one.eq_1 @AV.one.eq_2)) (J (J @AV.one.eq_3 @AV.one.eq_4) (J @AV.one.eq_5 @AV.one.eq_6))) (J (J (J @List.all.eq_1.{0} @List.all.eq_2.{0}) (J @qae @true_and)) (J (J @and_self @and_true) (J @Nj.eq_1 @Nj.eq_2))))))) (J (J (J (J (J (J (J @Nj.eq_3 @Nj.eq_4) (J @Nj.eq_5 @Nj.eq_6)) (J (J @Bool.or_true @Bool.true_or) (J @D3.eq_1 @D3.eq_2))) (J (J (J @D3.eq_3 @D3.eq_4) (J @asBool.eq_1 @asBool.eq_2)) (J (J @asInt.eq_1 @asInt.eq_2) (J @Bool.not_true @Bool.not_false)))) (J (J (J (J @Yr.eq_1 @Yr.eq_2) (J @gv.eq_1 @qy.eq_1)) (J (J @Tc.eq_1 @Tc.eq_2) (J @Tc.eq_3 @xV))) (J (J (J @KX @RE) (J @QX @AU)) (J (J @WB @MZ) (J @xM.eq_1 @xM.eq_2))))) (J (J (J (J (J @xM.eq_3 @xM.eq_4) (J @xM.eq_5 @vl.eq_1)) (J (J @vl.eq_2 @vl.eq_3) (J @vl.eq_4 @vl.eq_5))) (J (J (J @vl.eq_6 @vl.eq_7) (J @vl.eq_8 @vl.eq_9)) (J (J @vl.eq_10 @vl.eq_11) (J @vl.eq_12 @vl.eq_13)))) (J (J (J (J @vl.eq_14 @vl.eq_15) (J @Kq.eq_1 @Kq.eq_2)) (J (J @Kq.eq_3 @Kq.eq_4) (J @Kq.eq_5 @Kq.eq_6))) (J (J (J @Kq.eq_7 @Kq.eq_8) (J @Kq.eq_9 @Kq.eq_10)) (J (J @Kq.eq_11 @Kq.eq_12) (J @fresh.eq_1 @fresh.eq_2)))))) (J (J (J (J (J (J @fresh.eq_3 @chunk.eq_1) (J @chunk.eq_2 @List.append.eq_1.{0})) (J (J @List.append.eq_2.{0} @cab.{0}) (J @fab.{0} @jab.{0}))) (J (J (J @mab.{0} @List.getElem?_nil.{0}) (J @nac.{0} @Mac.{0})) (J (J @Raa.{0} @Dab.{0}) (J @eab @tae)))) (J (J (J (J @List.drop.eq_1.{0} @List.drop.eq_2.{0}) (J @List.drop.eq_3.{0} @List.take.eq_1.{0})) (J (J @List.take.eq_2.{0} @List.take.eq_3.{0}) (J @flat.eq_1 @flat.eq_2))) (J (J (J @Kf.eq_1 @Kf.eq_2) (J @Kf.eq_3 @Kf.eq_4)) (J (J @Kf.eq_5 @Oq.eq_1) (J @Oq.eq_2 @Oq.eq_3))))) (J (J (J (J (J @Oq.eq_4 @Baa) (J @beq_self_eq_true.{0} @bne_self_eq_false.{0})) (J (J @Bool.not_eq_true @decide_true) (J @decide_false @waa))) (J (J (J @Option.bind_none.{0,0} @Option.map_none.{0,0}) (J @L6 @B6)) (J (J @J6 @K6) (J @UR.eq_1 @Int.cast_ofNat_Int)))) (J (J (J (J @Ml.eq_1 @Ml.eq_2) (J @Fac @Bool.and_false)) (J (J @List.headD_cons.{0} @List.headD_nil.{0}) (J @Nat.lt_add_one @wae))) (J (J (J @List.isEmpty_cons.{0} @List.isEmpty_nil.{0}) (J @AV.free.eq_1 @AV.free.eq_2)) (J (J @AV.free.eq_3 @nae) (J @Tad @Nat.mul_one))))))))
theorem SP:type_of% P6.down:=P6.down
def b7:=PLift.up (J (J @Cb.eq_1 @Cb.eq_2) (J @Cb.eq_3 @Cb.eq_4))
theorem SA:type_of% b7.down:=b7.down
def V6:=PLift.up (J (J (J @Ha.eq_1 (J @Ha.eq_2 @Ha.eq_3)) (J (J @pa.eq_1 @pa.eq_2) (J @pa.eq_3 @pa.eq_4))) (J (J (J @Lh.eq_1 @Im.eq_1) (J @place.eq_1 @place.eq_2)) (J (J @place.eq_3 @place.eq_4) (J @fa.eq_1 @fa.eq_2))))
theorem SQ:type_of% V6.down:=V6.down
def S6:=PLift.up (J (J (J (J (J (J @Q0 @zS) (J @ZX @wp_map)) (J (J @wp_bind @RB) (J @JU (J @IX @mT)))) (J (J (J @XW @BY) (J @sZ @N3)) (J (J @cT @YT) (J @eW (J @dT @QN))))) (J (J (J (J @QP @GM) (J @fT @jU)) (J (J @wZ @kQ) (J @Eaa (J @na.eq_1 @tidy.eq_1)))) (J (J (J @Hc.eq_1 @Hc.eq_2) (J @Ca.eq_1 (J @Ca.eq_2 @qa.eq_1))) (J (J @qa.eq_2 @qa.eq_3) (J @qa.eq_4 (J @qa.eq_5 @Qa)))))) (J (J (J (J (J @AV.cut.eq_1 @AV.cut.eq_2) (J @AV.cut.eq_3 @AV.cut.eq_4)) (J (J @AV.cut.eq_5 @AV.cut.eq_6) (J @AV.cut.eq_7 (J @AV.cut.eq_8 @AV.cut.eq_9)))) (J (J (J @AV.cut.eq_10 @AV.cut.eq_11) (J @za @oB)) (J (J @jj.eq_1 @AV.WE.eq_1) (J @AV.WE.eq_2 (J @AV.Tq.eq_1 @AV.Tq.eq_2))))) (J (J (J (J @Wc.eq_1 @ma.eq_1) (J @forall_const.{0} @true_implies)) (J (J @false_implies @imp_self) (J @not_true_eq_false (J @not_false_eq_true @Bool.true_eq_false)))) (J (J (J @false_and @and_false) (J @true_or (J @or_true @false_or))) (J (J @or_false @imp_false) (J @UZ (J @kT @IW)))))))
theorem WP:type_of% S6.down:=S6.down
def o7:=PLift.up (J (J @ta.eq_1 @ta.eq_2) (J @ta.eq_3 @ta.eq_4))
theorem WQ:type_of% o7.down:=o7.down
def X6:=PLift.up (J SP (J SA WP))
theorem SX:type_of% X6.down:=X6.down
open Go.RowKit
def wi(S:Sa)(L:Nat->Option Ue):Nat->Sa
 |0=>S
 |d+1=>fun ix args H=>match L ix with
  |some f=>ef (wi S L d) f args H
  |none=>S ix args H
theorem eV{P:Program}{fo:Nat->FuncId}{S:Sa}{L:Nat->Option Ue}(hL:wm P fo L)(hS:∀ B0:wg,Rr P fo B0 S):∀ (d:Nat)(B0:wg),Rr P fo B0 (wi S L d):=by
 intro d
 induction d with
 |zero=>exact hS
 |succ d ih=>
  intro B0 ix args H v H' w R φ vs hR hl h;simp only[wi] at h
  split at h
  ·next f hf=>exact⟨(hL ix f hf).XG,GP (hL ix f hf) ih hR hl h⟩
  ·exact hS B0 ix args H v H' w R φ vs hR hl h
def YD(S:Sa)(L:Nat->Option Ue)(f:Ue)(args:List PV):Option PV:=(ef (wi S L 8) f (args.map .pv) []).bind fun r=>Ub r.2 deep r.1
theorem wN{P:Program}{fo:Nat->FuncId}{S:Sa}{L:Nat->Option Ue}(hL:wm P fo L)(hS:∀ B0:wg,Rr P fo B0 S){f:FuncId}{af:Ue}(hf:qc P fo f af):Oa P f (YD S L af):=AI (eV hL hS 8) hf
def Zx(k off:Nat)(r:List Int):Int:=if r.length=k then r.getD off 0 else 0
def encI(k:Nat)(r:List Int):List Value:=if r.length=k then r.map (.int .i64) else List.replicate k (.int .i64 0)
def T2(k off:Nat)(x y:List Int):Int:=Lib.compareInt (Zx k off x) (Zx k off y)
def qq(k off:Nat)(D:Array (List Int)):Array (List Int):=Sort.pdq (Proofs.ltOf (T2 k off)) D 0 D.size (Lib.bitLen D.size) true true
theorem y6(k off:Nat)(x y:List Int):Proofs.ltOf (T2 k off) x y=decide (Zx k off x < Zx k off y):=by
 unfold Proofs.ltOf T2 Lib.compareInt
 by_cases h1:Zx k off x < Zx k off y
 ·simp[h1]
 ·by_cases h2:Zx k off y < Zx k off x <;> simp[h1,h2]
theorem O3(k off:Nat):Sort.SWO (Proofs.ltOf (T2 k off)) where
 irrefl x:=by rw[y6];simp
 trans x y z h1 h2:=by rw[y6] at *;simp at *;omega
 ntrans x y z h1 h2:=by rw[y6] at *;simp at *;omega
theorem SB(k off:Nat)(D:Array (List Int)):(qq k off D).size=D.size/\(qq k off D).toList.Perm D.toList/\∀ i j,i < j->j < D.size->¬Zx k off (qq k off D)[j]! < Zx k off (qq k off D)[i]! :=by
 have h:=Sort.pdq_sorts _ (O3 k off) D 0 D.size (Lib.bitLen D.size) true true (Iac _) (waa _) (.inl rfl)
 obtain⟨⟨h1,_,h2⟩,h3⟩:=h;refine⟨h1,?_,fun i j hij hj=> ?_⟩
 ·have e1:((qq k off D).extract 0 D.size).toList=(qq k off D).toList:=by
   have:(qq k off D).size=D.size:=h1
   rw[<- this];simp
  have e2:(D.extract 0 D.size).toList=D.toList:=by simp
  rw[<- e1,<-e2];exact h2
 ·have:=h3 i j (Iac _) hij hj
  rw[y6,decide_eq_false_iff_not] at this;exact this
structure KP(P:Program)(f g:FuncId)(k off:Nat):Prop where
 call:Bu P f
 many:∀ (blk ofs cap:Nat)(D:Array (List Int))(w:World),Sort.HoldsK (encI k) k w blk ofs D->blk < w.heap.size->D.size < 4611686018427387904->
  Calls P f #[.slice (some ⟨blk,ofs,none⟩) D.size cap,.func (.func g) #[] #[]] w fun e w'=>e= .returned (.tuple #[])/\∃ n os,w'=Proofs.sortWorldK (encI k) k w blk ofs n (qq k off D) os
 none:∀ (p:Option Addr)(cap:Nat)(w:World),Calls P f #[.slice p 0 cap,.func (.func g) #[] #[]] w fun e w'=>e= .returned (.tuple #[])/\w'=w
def CH:List AV->Option (List Int)
 | []=>some []
 | .pv (.int .i64 n)::r=>(CH r).map (n:: ·)
 |_=>none
abbrev jg(l:List Int):List AV:=l.map fun n=> .pv (.int .i64 n)
theorem OH:∀ {c:List AV}{F:List Int},CH c=some F->c=jg F
 | [],F,h=>by injection h with h;subst h;rfl
 | .pv (.int .i64 n)::r,F,h=>by simp only[CH,faa] at h;obtain⟨F',h1,rfl⟩:=h;rw[OH h1];rfl
theorem ew:∀ (F:List Int),CH (jg F)=some F
 | []=>rfl
 |n::F=>by show (CH (jg F)).map (n:: ·)=_;rw[ew F];rfl
def ri(k:Nat):Nat->List Int->List (List Int)
 |0,_=>[]
 |n+1,F=>F.take k::ri k n (F.drop k)
theorem PD(k:Nat):∀ (n:Nat)(F:List Int),(ri k n F).length=n
 |0,_=>rfl
 |n+1,F=>by rw[ri,Raa,PD k n]
theorem VD{k:Nat}:∀ {n:Nat}{F:List Int},F.length=n * k->∀ r∈ri k n F,r.length=k
 |n+1,F,h,r,hr=>by
  rw[Nat.add_mul] at h;rcases bab.1 hr with rfl | hr
  ·rw[Lab];omega
  ·exact VD (F:=F.drop k) (by rw[Pab];omega) r hr
theorem vC{k:Nat}:∀ {n:Nat}{F:List Int},F.length=n * k->(ri k n F).flatten=F
 |0,F,h=>by have:F=[]:=yaa (by omega);subst this;rfl
 |n+1,F,h=>by rw[Nat.add_mul] at h;rw[ri,aac,vC (F:=F.drop k) (by rw[Pab];omega),jac]
def yB(k off g:Nat):List AV->List ba->Option (AV×List ba)
 | [.own id len,.Ol c []],H=>match H[id]? with
   |some (.seq sz ag cells fl nl)=>if c=g/\sz=k/\len * k=cells.length/\len < 4611686018427387904 then (CH cells).map fun F=>(.pv (.mc []),H.set id (.seq k ag (jg (qq k off (ri k len F).toArray).toList.flatten) cells.length nl)) else none
   |_=>none
 |_,_=>none
theorem W0{k:Nat}(hk:0 < k){D:List (List Int)}(h:∀ r∈D,r.length=k){t:Nat}(ht:t < D.length * k):∃ (h1:t / k < D.length),D.flatten[t]? =D[t / k][t % k]? :=by
 have h1:t / k < D.length:=Nat.div_lt_of_lt_mul (by rw[Nat.mul_comm];exact ht)
 refine⟨h1,?_⟩;have h2:=So.Mu (sz:=k) h1 h
 rw[<- h2,Cac (Gae _ hk),uae]
 congr 1
 have:=Nat.div_add_mod t k
 rw[Nat.mul_comm] at this;exact this.symm
theorem RI{k:Nat}{D:Array (List Int)}(h:∀ r∈D.toList,r.length=k){t:Nat}(ht:t < D.size * k):∃ n,D.toList.flatten[t]? =some n/\(Sort.flatK (encI k) k D)[t]! = .int .i64 n:=by
 have hk:0 < k:=by rcases Zac k with e | e;rw[e] at ht;omega;exact e
 obtain⟨h1,h2⟩:=W0 hk h (t:=t) (by simpa using ht);have s9:t / k < D.size:=by simpa using h1
 have hr:=h _ (saa h1);have hm:t % k < (D.toList[t / k]).length:=by rw[hr];exact Gae _ hk
 refine⟨(D.toList[t / k])[t % k],by rw[h2,caa hm],?_⟩;rw[Sort.get_flatK _ _ _ _ ht,getElem!_pos D _ s9];have e:D[t / k]=D.toList[t / k]:=by simp
 rw[e,encI,if_pos hr,List.getElem!_eq_getElem?_getD,Faa,caa hm];rfl
theorem zK(d arr:Array Value){t:Nat}(ht:t < d.size)(hl:d.size<=arr.size):(Sort.putCells id 0 d arr)[t]? =some d[t]! :=by
 unfold Sort.putCells
 rw[Array.getElem?_mapIdx,Cad (by omega)];simp only[Kaa,eaa];rw[if_pos ⟨Iac _,by omega⟩,wae];rfl
theorem mM(k:Nat)(w:World){b:Nat}{arr:Array Value}{ty:TypeId}{fz:Nat×Nat}(hb:w.heap[b]? =some (.cells arr ty fz))(m:Nat)(D:Array (List Int))(os:Array Obj):
 (Proofs.sortWorldK (encI k) k w b 0 m D os).heap[b]? =some (.cells (Sort.putCells id 0 (Sort.flatK (encI k) k D) arr) ty fz)/\(∀ c,c < w.heap.size->c≠b->(Proofs.sortWorldK (encI k) k w b 0 m D os).heap[c]? =w.heap[c]?)/\w.heap.size<=(Proofs.sortWorldK (encI k) k w b 0 m D os).heap.size:=by
 have hlt:b < w.heap.size:=(Uac.1 hb).1
 have e:(Proofs.sortWorldK (encI k) k w b 0 m D os).heap=w.heap.modify b (Sort.onCells (Sort.putCells id 0 (Sort.flatK (encI k) k D)))++os:=rfl
 rw[e];refine⟨?_,fun c hc I7=> ?_,by simp⟩
 ·rw[Array.getElem?_append_left (by simpa using hlt),sad,if_pos rfl,hb];rfl
 ·rw[Array.getElem?_append_left (by simpa using hc),sad,taa (rac I7)]
theorem YL{fo:Nat->FuncId}{R:Rd}{φ:Pl}{H:List ba}:∀ {F:List Int}{vs:List Value},mb fo (K R φ H) (jg F) vs->vs=F.map (.int .i64)
 | [],vs,h=>by cases h;rfl
 |n::F,vs,h=>by
  cases h with
  |cons _ _ v us h1 h2=>
   rw[YL h2];have:=h1.Sb
   cases this;rfl
theorem yN{fo:Nat->FuncId}{R:Rd}{φ:Pl}{H:List ba}:∀ (F:List Int),mb fo (K R φ H) (jg F) (F.map (.int .i64))
 | []=> .nil
 |n::F=> .cons _ _ _ _ (.atom _ _ (show Ta _ _ _ from .int _ _)) (yN F)
theorem TN{P:Program}{fo:Nat->FuncId}{s g k off:Nat}(hS:KP P (fo s) (fo g) k off)(B0:wg):Rr P fo B0 fun ix args H=>if ix=s then yB k off g args H else none:=by
 intro ix args H v H' w R φ vs hR hl h;dsimp only at h
 split at h
 ·next he=>
  subst he;refine⟨hS.call,?_⟩;unfold yB at h
  split at h
  ·next H1 oid len c=>
   split at h
   ·next sz ag cells fl nl hc=>
    split at h
    ·next hcd=>
     obtain⟨rfl,rfl,hlen,Mad⟩:=hcd;rw[faa] at h;obtain⟨F,hF,hv⟩:=h;injection hv with hv1 hv2
     subst hv1 hv2;have hcF:=OH hF;obtain⟨x,us,rfl,hx,I9⟩:∃ x us,vs=x::us/\Sc fo (K R φ H) (.own oid len) x/\mb fo (K R φ H) [.Ol c []] us:=by cases hl with | cons _ _ x us h1 h2=>exact⟨x,us,rfl,h1,h2⟩
     obtain⟨rfl⟩:us=[.func (.func (fo c)) #[] #[]]:=by
      cases I9 with
      |cons _ _ y zs h1 h2=>
       cases h2;cases h1 with
       |atom _ _ h=>exact h.elim
       |Ol _ _ _ h=>cases h;rfl
     have hk1:K R φ H (.own oid len) x:=by cases hx with | atom _ _ h=>exact h
     obtain⟨g0,g1,g2⟩:=hk1;obtain⟨q1,q2⟩:=g2 _ _ _ _ _ hc;obtain⟨o0,o1,o2,o3,o4⟩:=hR.obj oid _ hc
     obtain⟨q3,q4⟩:=q2 (by omega);have hFl:F.length=len * sz:=by rw[hcF,paa] at hlen;exact hlen.symm
     have hDl:(ri sz len F).toArray.size=len:=by simp[PD]
     have hDr:∀ r∈(ri sz len F).toArray.toList,r.length=sz:=fun r hr=>VD hFl r (by simpa using hr)
     have hDf:(ri sz len F).toArray.toList.flatten=F:=by simpa using vC hFl
     obtain⟨s1,s2,s3⟩:=SB sz off (ri sz len F).toArray
     have J7:∀ r∈(qq sz off (ri sz len F).toArray).toList,r.length=sz:=fun r hr=>hDr r (s2.mem_iff.1 hr)
     have hfl:(qq sz off (ri sz len F).toArray).toList.flatten.length=cells.length:=by rw[So.tv J7,zad,s1,hDl,hlen]
     generalize hDD:(ri sz len F).toArray=D at *
     generalize U7:qq sz off D=E at *;have hk:=fun a v=>K.SR (R:=R) (φ:=φ) (ag':=ag) (c':=jg E.toList.flatten) hc o1 (by rw[paa];exact hfl) a v
     cases nl with
     |true=>
      have hx0:=q3 rfl;have hce:=o2 rfl;subst hx0;have e9:len=0:=by rw[hce] at hlen;rcases Pad.1 hlen with h | h <;> omega
      subst e9;refine (hS.none none 0 w).mono ?_
      rintro e w' ⟨rfl,rfl⟩;refine⟨_,R,Wm φ oid (φ oid),rfl,?_,.atom _ _ (show Ta _ _ _ from .mc _ _ .nil),hk,oh.refl _ _⟩;refine hR.Wm (w':=w') hc (waa _) (fun _ _ _=>rfl) (fun _ _ _ _=>rfl) hR.sub hk (fun h=>by cases h) ?_
      have h0:E.toList.flatten=[]:=yaa (by rw[hfl,hce];rfl)
      rw[h0];exact⟨o0,by rw[hce];exact waa _,fun _=>rfl,rfl,fun h=>by cases h⟩
     |false=>
      obtain⟨k1,k2,arr,⟨ty,fz,k3,G9⟩,k4,k5,k6⟩:=o4 rfl;rcases q4 rfl with⟨e9,I7,_⟩ | ⟨b,o,cap,hxv,hbo,_⟩
      ·rw[e9,Kae] at hlen
       exact absurd (yaa hlen.symm) I7
      ·obtain⟨rfl,rfl,rfl⟩:=hbo hlen
       subst hxv;have hblk:(φ oid).1 < w.heap.size:=Nz.lt ⟨ty,fz,k3,G9⟩
       have hrel:mb fo (K R φ H) (jg F) (arr.toList.take cells.length):=by rw[<- hcF];exact k6
       have pah:=YL hrel;have zaf:Sort.HoldsK (encI sz) sz w (φ oid).1 0 D:=by
        intro j hj;rw[Sort.size_flatK,hDl] at hj;obtain⟨n,e1,e2⟩:=RI hDr (t:=j) (by rw[hDl];exact hj);rw[eab,Nz.cell ⟨ty,fz,k3,G9⟩,Nz.frozen ⟨ty,fz,k3,G9⟩ (by omega),e2];rw[hDf] at e1;have e3:(arr.toList.take cells.length)[j]? =some (.int .i64 n):=by rw[pah,Faa,e1];rfl
        rw[Cac (by omega)] at e3;exact⟨by rw[<- Array.getElem?_toList];exact e3,rfl⟩
       have Eae:=hS.many (φ oid).1 0 (φ oid).2 D w zaf hblk (by rw[hDl];exact Mad)
       rw[hDl] at Eae;refine Eae.mono ?_
       rintro e w' ⟨rfl,m,os,rfl⟩;rw[U7];obtain⟨w1,w2,w3⟩:=mM sz w k3 m E os;have Saj:oh B0 w (Proofs.sortWorldK (encI sz) sz w (φ oid).1 0 m E os):= .oL k3 rfl rfl rfl rfl w3 k1 hR.slt (hR.free oid ⟨_,hc,rfl⟩) fun b hb I7=>w2 b hb I7
       generalize Proofs.sortWorldK (encI sz) sz w (φ oid).1 0 m E os=w' at *
       refine⟨_,R,Wm φ oid (φ oid),rfl,?_,.atom _ _ (show Ta _ _ _ from .mc _ _ .nil),hk,?_⟩
       ·refine hR.Wm (w':=w') hc w3 (fun b hb I7=>w2 b hb (I7 rfl)) (fun _ _ _ _=>rfl) (fun b o v hv=> ?_) hk (fun _=> .inl ⟨rfl,rfl⟩) ?_
        ·have I7:b≠(φ oid).1:=fun e=>by subst e;rw[k2] at hv;cases hv
         have hs:=hR.sub b o v hv
         have H9:b < w.heap.size:=by
          rcases Xaa b w.heap.size with h | h
          ·exact h
          ·simp[World.cell?,Qad h] at hs
         rw[Rf (w2 b H9 I7)];exact hs
        ·refine⟨o0,by rw[paa,hfl];exact waa _,(fun h=>by cases h),?_,fun _=> ?_⟩
         ·rw[aab]
          intro a ha;obtain⟨n,_,rfl⟩:=oab.1 ha
          rfl
         ·rw[Fb]
          have K7:(Sort.putCells id 0 (Sort.flatK (encI sz) sz E) arr).size=arr.size:=by simp[Sort.putCells]
          have hfk:(Sort.flatK (encI sz) sz E).size=cells.length:=by rw[Sort.size_flatK,s1,hDl,hlen]
          refine⟨k1,k2,_,⟨ty,fz,w1,fun o ho=>G9 o (by rw[<- K7];exact ho)⟩,by rw[K7];exact k4,by rw[K7,paa,hfl];exact k5,?_⟩;have he:(Sort.putCells id 0 (Sort.flatK (encI sz) sz E) arr).toList.take (jg E.toList.flatten).length=E.toList.flatten.map (.int .i64):=by
           apply Vab;intro t;rw[paa,hfl];rcases Xaa t cells.length with ht | ht
           ·obtain⟨n,e1,e2⟩:=RI J7 (t:=t) (by rw[s1,hDl,hlen];exact ht)
            rw[Cac ht,Array.getElem?_toList,zK _ _ (by rw[hfk];exact ht) (by omega),e2,Faa,e1];rfl
           ·rw[Yaa (by rw[Lab];omega),Yaa (by rw[paa,hfl];exact ht)]
          rw[he];exact yN _
       ·exact Saj
    ·cases h
   ·cases h
  ·cases h
 ·cases h
end Go.AM
