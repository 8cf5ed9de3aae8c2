/- What functions of the program compute. -/
import Derived.Test.YtijlhblleiaomaaGreatW10
import Derived.Test.YtijlhblleiaomaaGreatW9
import Derived.Test.YtijlhblleiaomaaGreatW7
import Derived.Test.YtijlhblleiaomaaGreatW8
set_option linter.unusedVariables false
set_option linter.unusedSimpArgs false
namespace Go.AM.B1
open Go.AM Go.AM.So
theorem DA (eb:List Int):∀ (xs:List Nat) (r:List Int×List Int),pd eb xs r=xs.foldl (fun r x=>Ai x (eb.getD x 0) r) r
 | [],r=>rfl
 |x::xs,r=>by rw[pd,DA eb xs,List.foldl_cons]
theorem mz (row:List Int):∀ (xs:List Nat) (l:List xe),je row xs l=xs.foldl (fun l (x:Nat)=>Bf x (row.getD x 0) l) l
 | [],l=>rfl
 |x::xs,l=>by rw[je,mz row xs,List.foldl_cons]
theorem foldl_congr {α β:Type} {f g:β→α→β}:∀ (l:List α) (b:β),(∀ b,∀ a∈l,f b a=g b a)→l.foldl f b=l.foldl g b
 | [],b,_=>rfl
 |a::l,b,h=>by
  rw[List.foldl_cons,List.foldl_cons,h b a (by simp)]
  exact foldl_congr l _ fun b a' ha=>h b a' (by simp[ha])
theorem cK {v:Int} {co:Nat→Int} {p:Nat→Bool}:∀ (O:List Nat) (k:Nat),(∀ o∈O,(v=co o↔p o=true))→
 Ts v (O.map co) k=if O.findIdx p < O.length then some (k+O.findIdx p) else none
 | [],k,_=>by simp[Ts]
 |o::O,k,h=>by
  rw[List.map_cons,Ts,List.findIdx_cons]
  have ho:=h o (by simp)
  by_cases hp:p o=true
  ·rw[if_pos (ho.2 hp),hp];simp
  ·have hp':p o=false:=by simpa using hp
   rw[if_neg fun e=>hp (ho.1 e),hp',cK O (k+1) fun o' ho'=>h o' (by simp[ho'])]
   simp only[cond_false,List.length_cons]
   by_cases hlt:O.findIdx p < O.length
   ·rw[if_pos hlt,if_pos (by omega)];congr 1;omega
   ·rw[if_neg hlt,if_neg (by omega)]
def co (C:List (List Int)) (o:Nat):Int:=if o=0 then 0 else cls C o
section
variable {ss:List Rb} {sets:List Al} {C:List (List Int)} (Ba:qc ss) (hpre:Fg ss) (W:Pk ss sets C) (hl:C.length=sets.length)
 {f:Nat→Nat→Bool} (hf:∀ a,f a a=false) (hK:∀ i j,i < C.length→j < C.length→(f i j=false↔cls C i=cls C j))
include Ba hpre W hl hf hK
omit hf hK in
theorem BN {t:Nat} (h0:0 < t) (ht:t < C.length):cls C t≠0:=by
 intro h
 have h1:=(W.sx hl).En ht
 have h2:(Ge C.length C.flatten).oc.getD t 0=0:=h
 rw[h2] at h1
 exact W.VA Ba hpre hl h0 ht (((W.sx hl).XJ (by omega) ht).2 h1.2.2)
omit Ba hpre hf hK in
theorem TH {o x:Nat} (ho:o < C.length) (hx:x < 256):(Ta (Ge C.length C.flatten).C (co C o).toNat).getD x 0=iq C o x:=by
 rw[← W.dP hl ho hx]
 unfold co
 by_cases h:o=0
 ·rw[if_pos h,h];rfl
 ·rw[if_neg h]
  have:=((W.sx hl).En ho).2.2
  unfold cls
  rw[this]
omit hf in
theorem GM {O:List Nat} (hO:Tv C.length O) {t:Nat} (h0:0 < t) (ht:t < C.length):Ts (cls C t) (O.map (co C)) 0=if O.findIdx (fun o=> !f o t) < O.length then some (O.findIdx (fun o=> !f o t)) else none:=by
 rw[cK (p:=fun o=> !f o t)]
 ·simp
 ·intro o ho
  have hoC:=hO.lt o ho
  unfold co
  by_cases hz:o=0
  ·subst hz
   rw[if_pos rfl]
   constructor
   ·intro h;exact absurd h (BN Ba hpre W hl h0 ht)
   ·intro h
    have:f 0 t=false:=by simpa using h
    exact absurd ((hK 0 t (by omega) ht).1 this) (W.VA Ba hpre hl h0 ht)
  ·rw[if_neg hz]
   have:=hK o t hoC ht
   constructor
   ·intro h;have:=this.2 h.symm;simp[this]
   ·intro h;exact (this.1 (by simpa using h)).symm
structure TV (C:List (List Int)) (o:Nat) (x:Nat) (rt:List Int×List Int) (rr:List Nat×List xe):Prop where
 ord:Tv C.length rr.1
 fst:rt.1=rr.1.map (co C)
 len:rt.2.length=256
 rest:∀ y,x≤y→y < 256→rt.2.getD y 0=iq C o y
 kW:rr.2=(List.range x).foldl (fun l (y:Nat)=>Bf y (rt.2.getD y 0) l) []
theorem pQ {o x:Nat} (ho:o < C.length) (hx:x < 256) {rt:List Int×List Int} {rr:List Nat×List xe} (h:TV C o x rt rr):TV C o (x+1) (Ai x (iq C o x) rt) (qm C f o rr x):=by
 have hbd:=W.bound hl ho hx
 have hcur:=h.rest x (Nat.le_refl _) hx
 have hkeep:∀ (row:List Int) (l:List xe),(∀ y,y≠x→row.getD y 0=rt.2.getD y 0)→l=Bf x (row.getD x 0) rr.2→l=(List.range (x+1)).foldl (fun l (y:Nat)=>Bf y (row.getD y 0) l) []:=by
  intro row l h1 h2
  rw[List.range_succ,List.foldl_append,h2,h.kW]
  show Bf x _ _=Bf x _ _
  congr 1
  refine foldl_congr _ _ fun b a ha=> ?_
  have:a < x:=by simpa using ha
  rw[h1 a (by omega)]
 by_cases hneg:jg C o x < 0
 ·have hn:iq C o x=jg C o x:=by unfold iq;rw[if_neg (by omega)]
  have ht:Ai x (iq C o x) rt=rt:=by unfold Ai;rw[if_pos (by omega)]
  rw[ht]
  have hr1:(qm C f o rr x).1=rr.1:=by
   unfold qm nf
   split
   ·rfl
   ·first | rfl | rw[if_pos hneg]
  have hr2:(qm C f o rr x).2=Bf x (rt.2.getD x 0) rr.2:=by
   rw[hcur,hn]
   unfold qm nf
   split
   ·next h2=>rw[h2,Bx]
   ·first | rfl | rw[if_pos hneg]
  exact⟨by rw[hr1];exact h.ord,by rw[hr1];exact h.fst,h.len,fun y h1 h2=>h.rest y (by omega) h2,hkeep _ _ (fun _ _=>rfl) hr2⟩
 ·obtain⟨t,ht⟩:∃ t:Nat,jg C o x=t:=⟨(jg C o x).toNat,by omega⟩
  have hdeep:=W.tz hl ho hx (by omega)
  have h0:0 < t:=by omega
  have htC:t < C.length:=by omega
  have hn:iq C o x=cls C t:=by unfold iq;rw[if_pos (by omega),ht,Int.toNat_natCast]
  have hnn:=W.WL hl htC
  have hsc:=GM Ba hpre W hl hK h.ord h0 htC
  have hrf:qm C f o rr x=(if rr.1.findIdx (fun o=> !f o t)=rr.1.length then rr.1++[t] else rr.1,Bf x (rr.1.findIdx (fun o=> !f o t):Int) rr.2):=by
   unfold qm nf
   rw[if_neg (by omega),if_neg hneg,ht,Int.toNat_natCast]
  have hoC:=(VC hf h.ord (to:=(t:Int)) (by omega)).1
  have hcl:(nf f rr.1 (t:Int)).1=if rr.1.findIdx (fun o=> !f o t)=rr.1.length then rr.1++[t] else rr.1:=by
   unfold nf
   rw[if_neg (by omega),Int.toNat_natCast]
  rw[hcl] at hoC
  have hle:rr.1.findIdx (fun o=> !f o t)≤rr.1.length:=List.findIdx_le_length
  rw[hrf]
  have hset:∀ v:Int,(∀ y,y≠x→(rt.2.set x v).getD y 0=rt.2.getD y 0)∧(rt.2.set x v).getD x 0=v:=by
   intro v
   refine⟨fun y hy=> ?_,?_⟩
   ·rw[List.getD_eq_getElem?_getD,List.getElem?_set_ne (Ne.symm hy),←List.getD_eq_getElem?_getD]
   ·rw[List.getD_eq_getElem?_getD,List.getElem?_set_self (by rw[h.len];exact hx)];rfl
  by_cases hlt:rr.1.findIdx (fun o=> !f o t) < rr.1.length
  ·rw[if_pos hlt] at hsc
   have htd:Ai x (iq C o x) rt=(rt.1,rt.2.set x (rr.1.findIdx (fun o=> !f o t):Int)):=by
    unfold Ai
    rw[hn,if_neg (by omega),h.fst,hsc]
   rw[htd,if_neg (by omega)]
   refine⟨h.ord,h.fst,by simp[h.len],fun y h1 h2=> ?_,?_⟩
   ·rw[(hset _).1 y (by omega)];exact h.rest y (by omega) h2
   ·exact hkeep _ _ (hset _).1 (by rw[(hset _).2])
  ·rw[if_neg hlt] at hsc
   have hfe:rr.1.findIdx (fun o=> !f o t)=rr.1.length:=by omega
   have htd:Ai x (iq C o x) rt=(rt.1++[cls C t],rt.2.set x (rt.1.length:Int)):=by
    unfold Ai
    rw[hn,if_neg (by omega),h.fst,hsc]
   rw[if_pos hfe] at hoC
   rw[htd,if_pos hfe]
   have hll:rt.1.length=rr.1.length:=by rw[h.fst,List.length_map]
   refine⟨hoC,?_,by simp[h.len],fun y h1 h2=> ?_,?_⟩
   ·simp only[List.map_append,List.map_cons,List.map_nil,h.fst]
    unfold co
    rw[if_neg (by omega:¬t=0)]
   ·rw[(hset _).1 y (by omega)];exact h.rest y (by omega) h2
   ·exact hkeep _ _ (hset _).1 (by rw[(hset _).2,hll,hfe])
theorem YT {o:Nat} (ho:o < C.length) {O:List Nat} (hO:Tv C.length O):Rf (Ge C.length C.flatten).C (co C o) (O.map (co C))=((Zf C f o O 256).1.map (co C),(Rf (Ge C.length C.flatten).C (co C o) (O.map (co C))).2)∧
 Ff (Rf (Ge C.length C.flatten).C (co C o) (O.map (co C))).2=(Zf C f o O 256).2∧Tv C.length (Zf C f o O 256).1:=by
 have hrl:(Ta (Ge C.length C.flatten).C (co C o).toNat).length=256:=by
  refine uh (W.sx hl).hC ?_
  unfold co
  split
  ·simp;omega
  ·have:=(W.sx hl).En ho
   unfold cls;omega
 have key:∀ x,x≤256→TV C o x ((List.range x).foldl (fun r x=>Ai x ((Ta (Ge C.length C.flatten).C (co C o).toNat).getD x 0) r) (O.map (co C),Ta (Ge C.length C.flatten).C (co C o).toNat)) (Zf C f o O x):=by
  intro x
  induction x with
  |zero=>
   intro _
   exact⟨hO,rfl,hrl,fun y _ hy=>TH W hl ho hy,rfl⟩
  |succ x ih=>
   intro hx
   have h1:=pQ Ba hpre W hl hf hK ho (show x < 256 by omega) (ih (by omega))
   rw[Ox,List.range_succ,List.foldl_append]
   have h2:(Ta (Ge C.length C.flatten).C (co C o).toNat).getD x 0=iq C o x:=TH W hl ho (by omega)
   show TV C o (x+1) (Ai x ((Ta (Ge C.length C.flatten).C (co C o).toNat).getD x 0) _) _
   rw[h2]
   exact h1
 have h:=key 256 (Nat.le_refl _)
 unfold Rf
 rw[DA]
 refine⟨?_,?_,h.ord⟩
 ·rw[← h.fst]
 ·rw[Ff,mz];exact h.kW.symm
theorem uN:∀ (k:Nat) (O:List Nat) (out:List (List xe)),Tv C.length O→aj (Ge C.length C.flatten).C k (O.map (co C),out)=((Jo C f k (O,out)).1.map (co C),(Jo C f k (O,out)).2)
 |0,O,out,_=>rfl
 |k+1,O,out,hO=>by
  cases ho:O[out.length]? with
  |none=>
   have h1:(O.map (co C))[out.length]? =none:=by rw[List.getElem?_map,ho];rfl
   rw[Bp h1,sF (r:=(O,out)) ho]
  |some o=>
   have h1:(O.map (co C))[out.length]? =some (co C o):=by rw[List.getElem?_map,ho];rfl
   have hoC:=hO.lt o (List.mem_of_getElem? ho)
   obtain⟨q1,q2,q3⟩:=YT Ba hpre W hl hf hK hoC hO
   rw[Nq (r:=(O.map (co C),out)) h1,uD (r:=(O,out)) ho,q2]
   have q4:(Rf (Ge C.length C.flatten).C (co C o) (O.map (co C))).1=(Zf C f o O 256).1.map (co C):=by rw[q1]
   simp only[q4]
   exact uN k _ _ q3
theorem sR (hn:0 < C.length):Pm (Ge C.length C.flatten).C=(Jo C f 64 ([0],[])).2:=by
 have h:=uN Ba hpre W hl hf hK 64 [0] [] ⟨by simp,by simp;exact hn⟩
 have h0:([0]:List Nat).map (co C)=[0]:=rfl
 unfold Pm
 rw[← h0,h]
end
end Go.AM.B1
namespace Go.AM.B1
open Go.AM Go.AM.So
attribute [local irreducible] Ld
section
variable (call:Ua) {C:List (List Int)} (hC:ZH C) (hge:∀ r∈C,∀ v∈r,-2≤v) {f:Nat→Nat→Bool} (hf:∀ a,f a a=false)
include hC hge hf
theorem fS (hn:0 < C.length) (o0:ba) (h0:∀ n,oa n o0=some o0):
 Ld (fun r=>∃ E O,r=(.exit 0,⟨E,[o0,.tok 1 O false,Xx (Jo C f 64 ([0],[])).2.isEmpty (KB (Jo C f 64 ([0],[])).2),.tok 1 (Jo C f 64 ([0],[])).2.length (Jo C f 64 ([0],[])).2.isEmpty]⟩)∧E.get 2= .ptr 0 0∧E.get 11= .ptr 2 0∧0 < (Jo C f 64 ([0],[])).2.length)
  (qb (fa (pa call Lc) (ga 4 [2,7,9,10,11,12])) qa ⟨mX (.lit 256 (C.map Qh)) (Aj C.length f) (ints [0]) 0,[o0,.tok 1 1 false,Xx true (KB []),.tok 1 0 true]⟩):=by
 have hsz:=hC.sz
 refine za (gq (g:=fa (pa call Lc) (ga 4 [2,7,9,10,11,12]))
  (fun k t=>∃ (O:List Nat) (out:List (List xe)),t=⟨mX (.lit 256 (C.map Qh)) (Aj C.length f) (ints O) out.length,[o0,.tok 1 O.length false,Xx out.isEmpty (KB out),.tok 1 out.length out.isEmpty]⟩∧k+out.length=64∧Tv C.length O∧0 < O.length∧out.length≤O.length∧Jo C f 64 ([0],[])=Jo C f k (O,out))
  qa 64 _ (by unfold qa;omega) ⟨[0],[],rfl,rfl,⟨by simp,by simp;exact hn⟩,by simp,by simp,rfl⟩ ?_) (fun r h=>h.2)
 rintro k t ⟨O,out,rfl,hk,hO,hpos,hle,hs⟩
 have hOl:=hO.len
 cases ho:O[out.length]? with
 |some o=>
  have hlt:=(List.getElem?_eq_some_iff.1 ho).1
  obtain⟨k',rfl⟩:∃ k',k=k'+1:=⟨k - 1,by omega⟩
  have hoC:=hO.lt o (List.mem_of_getElem? ho)
  obtain⟨q1,⟨t,q2⟩,_⟩:=Xz hC hf hoC hO 256 (Nat.le_refl _)
  refine za (kD call hC hge hf o0 h0 hO ho) ?_
  rintro r rfl
  have hie:(out++[(Zf C f o O 256).2]).isEmpty=false:=by cases out <;> rfl
  have hlo:(out++[(Zf C f o O 256).2]).length=out.length+1:=by simp
  refine⟨k',by omega,(Zf C f o O 256).1,out++[(Zf C f o O 256).2],by rw[hie,hlo],by rw[hlo];omega,q1,?_,?_,?_⟩
  ·rw[q2,List.length_append];omega
  ·rw[hlo,q2,List.length_append];omega
  ·rw[hs,uD (r:=(O,out)) ho]
 |none=>
  have hge2:O.length≤out.length:=by
   rcases Nat.lt_or_ge out.length O.length with h | h
   ·rw[List.getElem?_eq_getElem h] at ho;cases ho
   ·exact h
  rw[sF (r:=(O,out)) ho] at hs
  rw[hs]
  have e1:decide ((out.length:Int) < (O.length:Int))=false:=Ka (by omega)
  have hlO:(ints O).length=O.length:=by rw[List.length_map]
  have hgen:Ld (fun r=>∃ E,r=(.exit 0,⟨E,[o0,.tok 1 O.length false,Xx out.isEmpty (KB out),.tok 1 out.length out.isEmpty]⟩)∧E.get 2= .ptr 0 0∧E.get 11= .ptr 2 0)
   (fa (pa call Lc) (ga 4 [2,7,9,10,11,12]) ⟨mX (.lit 256 (C.map Qh)) (Aj C.length f) (ints O) out.length,[o0,.tok 1 O.length false,Xx out.isEmpty (KB out),.tok 1 out.length out.isEmpty]⟩):=by
   generalize hQ:(fun r:Ex×St=>_)=Q
   generalize (PV.lit 256 (C.map Qh))=L at *
   generalize Aj C.length f=M at *
   generalize hos:ints O=os at *
   generalize Xx out.isEmpty (KB out)=ob at *
   simp -implicitDefEqProofs only[SX,sevalprocAttr,-List.reduceReplicate,Lc,hlO,e1,mX]
   subst hQ
   exact⟨_,rfl,by simp[Tr.aa],by simp[Tr.aa]⟩
  refine za hgen ?_
  rintro r ⟨E,rfl,k2,k11⟩
  exact⟨E,O.length,rfl,k2,k11,by show 0 < out.length;omega⟩
end
theorem vn {S:PV} {ss:List Rb} {es:List PV} (hS:wb S ss es):
 (¬ qc ss→Xa [.agg [S]]=some (.uc [.agg [.ma],i64 84]))∧
 (qc ss→¬Fg ss→Xa [.agg [S]]=some (.uc [.agg [.ma],i64 110]))∧
 (qc ss→Fg ss→yg ss=none→Xa [.agg [S]]=some (.uc [.agg [.ma],i64 130]))∧
 (qc ss→Fg ss→∀ l,yg ss=some l→Xa [.agg [S]]=some (.uc [.agg [zj l],i64 0])):=by
 have hS1:(AV.pv S).one=true:=by rcases hS.is with⟨h,_⟩ | h <;> rw[h] <;> rfl
 have hp:=OB hS
 have st0:∀ (a:PV),Ma [.box [.pv .ma]] 1 (.ptr 0 0) (.pv (.agg [.ma]))=some [.box [.pv .ma]]:=fun a=>rfl
 have ld0:ya [.box [.pv .ma]] true 1 (.ptr 0 0)=some (.pv (.agg [.ma])):=rfl
 refine⟨?_,?_,?_,?_⟩
 ·intro h
  have h1:=hp.1 h
  have b1:((84:Int) != 0)=true:=by decide
  simp -implicitDefEqProofs only[Xa,SX,sevalprocAttr,-List.reduceReplicate,Le,hS1,Af,h1,b1,st0 .ma,ld0]
 ·intro Ba hpre
  obtain⟨b,h1,hb⟩:=hp.2 Ba
  have:b=false:=by cases b with | false=>rfl | true=>exact absurd (hb.1 rfl) hpre
  subst this
  have b1:((0:Int) != 0)=false:=by decide
  simp -implicitDefEqProofs only[Xa,SX,sevalprocAttr,-List.reduceReplicate,Le,hS1,Af,h1,b1,st0 .ma,ld0]
 ·intro Ba hpre hau
  obtain⟨b,h1,hb⟩:=hp.2 Ba
  have:=hb.2 hpre
  subst this
  have hn:vg ss 64 (ug ss,[])=none:=by unfold yg at hau;simpa using hau
  have h2:=(zK hS Ba).2 hn
  have b1:((0:Int) != 0)=false:=by decide
  simp -implicitDefEqProofs only[Xa,SX,sevalprocAttr,-List.reduceReplicate,Le,hS1,Af,h1,h2,b1,st0 .ma,ld0]
 ·intro Ba hpre l hau
  obtain⟨b,h1,hb⟩:=hp.2 Ba
  have:=hb.2 hpre
  subst this
  obtain⟨p,hn,hl⟩:∃ r,vg ss 64 (ug ss,[])=some r∧Pm (Ge r.2.length r.2.flatten).C=l:=by
   unfold yg at hau;simpa using hau
  obtain⟨h2,_⟩:=(zK hS Ba).1 p hn
  obtain⟨W,hlen⟩:=vF Ba.len Ba.ne hn
  have hpos:0 < p.2.length:=by
   have:=(List.getElem?_eq_some_iff.1 W.first).1
   omega
  obtain⟨f,hK,h3⟩:=JP (W.Gf hlen) hpos (W.zX hlen)
  have hff:∀ a,f a a=false:=fun a=>by
   cases h:f a a with
   |false=>rfl
   |true=>exact absurd rfl (hK.snd a a h)
  have hfk:=W.known hlen hK
  have htr:=sR Ba hpre W hlen hff hfk hpos
  have hl0:=fS (Ea (fun _=>none) 8) (W.Gf hlen) (W.ge hlen) hff hpos (.box [.pv .ma]) (fun n=>rfl)
  rw[htr] at hl
  rw[hl] at hl0
  have b1:((0:Int) != 0)=false:=by decide
  have hi0:ints [0]=[i64 0]:=rfl
  have ho0:KB []=[]:=rfl
  rw[hi0,ho0] at hl0
  have key:Ld (fun r=>r=PV.uc [.agg [zj l],i64 0]) (Xa [.agg [S]]):=by
   have hes:zj l= .lit 1 (KB l):=rfl
   have hne:0 < l.length→l.isEmpty=false:=fun h=>by cases l with | nil=>simp at h | cons=>rfl
   have g1:(0 < 1)=True:=by simp
   have st1:Ma [.box [.pv .ma],.tok 1 1 false,.box [.pv .ma]] 1 (.ptr 2 0) (.pv (.agg [.ma]))=some [.box [.pv .ma],.tok 1 1 false,.box [.pv .ma]]:=rfl
   have hc4:Sa (oa 4) [.box [.pv .ma],.tok 1 1 false,Xx true [],.tok 1 0 true]=some [.box [.pv .ma],.tok 1 1 false,Xx true [],.tok 1 0 true]:=rfl
   have htk:∀ a b c d:ba,([a,b,c,d]:List ba).take 4=[a,b,c,d]:=fun a b c d=>rfl
   have d40:(0 < 4)=True:=by simp
   have d41:(1 < 4)=True:=by simp
   have d42:(2 < 4)=True:=by simp
   generalize hQQ:(fun r:PV=>_)=QQ
   generalize (PV.lit 256 (p.2.map Qh))=L at *
   generalize hM:Aj p.2.length f=M at *
   have hMo:(AV.pv M).one=true:=by rw[← hM];rfl
   generalize p.1.map Me=se at *
   simp -implicitDefEqProofs only[Xa,SP,WP,na,sevalprocAttr,-List.reduceReplicate,Le,hS1,Af,h1,h2,h3,b1,st1,Ee,g1,Yh,AV.EB,AV.bo,Bb,hc4,htk,d40,d41,d42,ga,Aa,AV.cut,ua]
   refine za hl0 ?_
   rintro r ⟨E,O,rfl,k2,k11,hpos2⟩
   rw[hne hpos2]
   have ld1:∀ (out:List PV) (a b:ba),ya [.box [.pv .ma],a,Xx false out,b] true 1 (.ptr 2 0)=some (.agg [.uq 3 false 1 out]):=fun out a b=>rfl
   have st2:∀ (out:List PV) (a b c:ba),Ma [.box [.pv .ma],a,b,c] 1 (.ptr 0 0) (.agg [.uq 3 false 1 out])=some [Xx false out,a,b,c]:=fun out a b c=>rfl
   have ld2:∀ (out:List PV) (a b c:ba),ya [Xx false out,a,b,c] true 1 (.ptr 0 0)=some (.agg [.uq 3 false 1 out]):=fun out a b c=>rfl
   generalize KB l=out at *
   simp -implicitDefEqProofs only[SP,WP,na,sevalprocAttr,-List.reduceReplicate,k2,k11,ld1,st2,ld2]
   subst hQQ
   rw[hes]
  exact bl key
end Go.AM.B1
namespace Go.AM.B1
open Go.AM Go.AM.So
attribute [local irreducible] Ld
structure WB (ss:List Rb):Prop where
 len:ss.length * 32≤140737488355328
 parts:∀ s∈ss,s.parts.length * 24≤140737488355328
def Cz (ls:List (List (Int×Int))):List PV:=ls.map oe
def mW (ls:List (List (Int×Int))):PV:=if ls.isEmpty then .ma else .lit 1 (Cz ls)
def MJ (s:Rb):PV:= .agg [mW s.parts,i64 s.first]
def Ho (ss:List Rb):List PV:=ss.map MJ
def TX (ss:List Rb):PV:=if ss.isEmpty then .ma else .lit 2 (Ho ss)
abbrev pX (row:List PV) (i:Int):Tr:=(((Tr.lf.set 4 (.pv (i64 i))).set 3 (.ptr 1 0)).set 2 (.ptr 0 0)).set 1 (.pv (.rp row 0))
abbrev KE (nl:Bool) (out:List PV) (first:Int):ba:= .box [.uq 2 nl 1 out,.pv (i64 first)]
theorem cF {e:PV} {s:Rb} {P:PV} {ps:List PV} (h:sf e s P ps) (hsz:s.parts.length * 24≤140737488355328):Xf [e]=some (MJ s):=by
 obtain⟨rfl,hP⟩:=h
 have hP1:(AV.pv P).one=true:=by rcases hP.is with⟨h,_⟩ | h <;> rw[h] <;> rfl
 have ln:=hP.Sb
 have hc3:∀ nl out n,Sa (oa 3) [.box [.pv .ma,.pv (i64 0)],KE nl out s.first,.tok 1 n nl]=some [.box [.pv .ma,.pv (i64 0)],KE nl out s.first,.tok 1 n nl]:=fun nl out n=>rfl
 have htk3:∀ a b c d:ba,([a,b,c,d]:List ba).take 3=[a,b,c]:=fun a b c d=>rfl
 have htk3':∀ a b c:ba,([a,b,c]:List ba).take 3=[a,b,c]:=fun a b c=>rfl
 have d0:(0 < 3)=True:=by simp
 have d1:(1 < 3)=True:=by simp
 have hloop:Ld (fun r=>∃ E nl,r=(.exit 0,⟨E,[.box [.pv .ma,.pv (i64 0)],KE s.parts.isEmpty (Cz s.parts) s.first,.tok 1 s.parts.length nl]⟩)∧E.get 2= .ptr 0 0∧E.get 3= .ptr 1 0)
  (qb (fa (pa (Ea (fun _=>none) 8) Bd) (ga 3 [1,2,3,4])) qa ⟨pX [P,i64 s.first] 0,[.box [.pv .ma,.pv (i64 0)],KE true [] s.first,.tok 1 0 true]⟩):=by
  refine za (Eb (g:=fa (pa (Ea (fun _=>none) 8) Bd) (ga 3 [1,2,3,4]))
   (fun i t=>t=⟨pX [P,i64 s.first] i,[.box [.pv .ma,.pv (i64 0)],KE (s.parts.take i).isEmpty (Cz (s.parts.take i)) s.first,.tok 1 i (s.parts.take i).isEmpty]⟩)
   s.parts.length (by unfold qa;omega) _ rfl ?_ ?_) (fun r h=>h.2)
  ·rintro i t hi rfl
   obtain⟨v,hv,hpt,_⟩:=hP.Ad hi []
   have a1:=hP.Fx hv
   have hnext:s.parts.take (i+1)=s.parts.take i++[s.parts[i]]:=by simp
   have hie:(s.parts.take (i+1)).isEmpty=false:=by rw[hnext];cases s.parts.take i <;> rfl
   have hcl:Cz (s.parts.take (i+1))=Cz (s.parts.take i)++[oe s.parts[i]]:=by rw[hnext,Cz,List.map_append];rfl
   have hcn:(Cz (s.parts.take i)).length=i:=by rw[Cz,List.length_map,List.length_take];omega
   have hep:oe s.parts[i]= .lit 2 (Dd s.parts[i]):=rfl
   rw[hep] at hcl
   have hLN:∀ st:St,st=⟨pX [P,i64 s.first] (i+1:Nat),[.box [.pv .ma,.pv (i64 0)],KE false (Cz (s.parts.take (i+1))) s.first,.tok 1 (i+1) false]⟩→
    LN (fun i t=>t=⟨pX [P,i64 s.first] i,[.box [.pv .ma,.pv (i64 0)],KE (s.parts.take i).isEmpty (Cz (s.parts.take i)) s.first,.tok 1 i (s.parts.take i).isEmpty]⟩)
     (fun r=>∃ E nl,r=(.exit 0,⟨E,[.box [.pv .ma,.pv (i64 0)],KE s.parts.isEmpty (Cz s.parts) s.first,.tok 1 s.parts.length nl]⟩)∧E.get 2= .ptr 0 0∧E.get 3= .ptr 1 0) i (.norm,st):=by
    intro st h
    show st=_
    rw[h,hie]
   generalize LN _ _ i=QQ at hLN ⊢
   have hpz:=hpt.sz
   have hpi:=hpt.is
   have hpl:(Dd s.parts[i]).length=s.parts[i].length:=by simp[Dd]
   generalize s.parts[i]=l at *
   generalize (s.parts.take i).isEmpty=nl at *
   have hap1:Ub [.box [.pv .ma,.pv (i64 0)],KE nl (Cz (s.parts.take i)) s.first,.tok 1 i nl,.tok 2 0 false] false .uq 2 true 16 (.uq 3 false 2 []) (.pv v)=some (.uq 3 false 2 (Dd l),[.box [.pv .ma,.pv (i64 0)],KE nl (Cz (s.parts.take i)) s.first,.tok 1 i nl,.tok 2 l.length false]):=by
    rcases hpi with⟨h1,h2⟩ | h1
    ·have:l.length=0:=by rw[← hpl,h2];rfl
     rw[h1,h2,this];rfl
    ·rw[h1]
     simp only[Ub,Bool.false_eq_true,if_false,List.getElem?_cons_succ,List.getElem?_cons_zero,yf,if_true,Option.bind_some]
     rw[if_pos ⟨trivial,trivial,rfl,by rw[hpl];unfold mb;simp;exact hpz⟩]
     simp[hpl]
   have hap2:Ub [.box [.pv .ma,.pv (i64 0)],KE nl (Cz (s.parts.take i)) s.first,.tok 1 i nl,.tok 2 l.length false] false .uq 1 false 24 (.uq 2 nl 1 (Cz (s.parts.take i))) (.pv (.lit 1 [.lit 2 (Dd l)]))=some (.uq 2 false 1 (Cz (s.parts.take (i+1))),[.box [.pv .ma,.pv (i64 0)],KE nl (Cz (s.parts.take i)) s.first,.tok 1 (i+1) false,.tok 2 l.length false]):=by
    have:=Ah (A:=[.box [.pv .ma,.pv (i64 0)],KE nl (Cz (s.parts.take i)) s.first,.tok 1 i nl,.tok 2 l.length false]) (id:=2) (n:=i) (sz:=1) (h:= .uq) (nl:=nl) (ag:=false) (bytes:=24) (es:=Cz (s.parts.take i)) rfl hcn.symm (by unfold mb;omega) (.lit 2 (Dd l))
    rw[this,hcl];rfl
   have e1:decide ((i:Int) < (s.parts.length:Int))=true:=Fa (by omega)
   have t2:IntKind.i64.wrap ((i:Int)+1)=((i+1:Nat):Int):=Da (by omega)
   generalize Cz (s.parts.take i)=o at *
   generalize Cz (s.parts.take (i+1))=o' at *
   generalize Dd l=es at *
   have pl:∀ c d,place [.box [.pv .ma,.pv (i64 0)],KE nl o s.first,c,d] 0 (.ptr 1 0)=some (.ptr 1 0):=fun c d=>rfl
   have pl':∀ c,place [.box [.pv .ma,.pv (i64 0)],KE nl o s.first,c] 0 (.ptr 1 0)=some (.ptr 1 0):=fun c=>rfl
   have ld:∀ c,ya [.box [.pv .ma,.pv (i64 0)],KE nl o s.first,c] false 1 (.ptr 1 0)=some (.uq 2 nl 1 o):=fun c=>rfl
   have st:∀ c d,Ma [.box [.pv .ma,.pv (i64 0)],KE nl o s.first,c,d] 1 (.ptr 1 0) (.uq 2 false 1 o')=some [.box [.pv .ma,.pv (i64 0)],KE false o' s.first,c,d]:=fun c d=>rfl
   have hc3':=hc3 false o' (i+1)
   simp -implicitDefEqProofs only[SP,WP,na,sevalprocAttr,Bd,Ic,yd,ln,e1,t2,a1,Va,pl,pl',ld,st,hap1,hap2,hc3',htk3,d0,d1,Yh,AV.EB,AV.bo,ga,Aa,AV.cut,ua,pX]
   exact hLN _ rfl
  ·rintro t rfl
   rw[List.take_length]
   have e1:decide ((s.parts.length:Int) < (s.parts.length:Int))=false:=Ka (by omega)
   generalize Cz s.parts=o
   generalize s.parts.isEmpty=nl
   generalize hQ:(fun r:Ex×St=>r.1.stop=true∧_)=Q
   simp -implicitDefEqProofs only[SP,WP,na,sevalprocAttr,Bd,Ic,yd,ln,e1,pX]
   subst hQ
   exact⟨rfl,_,nl,rfl,by simp[Tr.aa],by simp[Tr.aa]⟩
 have st0:Ma [.box [.pv .ma,.pv (i64 0)],.box [.pv .ma,.pv (i64 0)]] 2 (.ptr 1 0) (.pv (.agg [.ma,i64 s.first]))=some [.box [.pv .ma,.pv (i64 0)],.box [.pv .ma,.pv (i64 s.first)]]:=rfl
 have g1:(0 < 1)=True:=by simp
 have hc30:=hc3 true [] 0
 have ld1:∀ nl out c,ya [.box [.pv .ma,.pv (i64 0)],KE nl out s.first,c] true 2 (.ptr 1 0)=some (.agg [.uq 2 nl 1 out,.pv (i64 s.first)]):=fun nl out c=>rfl
 have st1:∀ nl out b c,Ma [.box [.pv .ma,.pv (i64 0)],b,c] 2 (.ptr 0 0) (.agg [.uq 2 nl 1 out,.pv (i64 s.first)])=some [KE nl out s.first,b,c]:=fun nl out b c=>rfl
 have ld2:∀ nl out b c,ya [KE nl out s.first,b,c] true 2 (.ptr 0 0)=some (.agg [.uq 2 nl 1 out,.pv (i64 s.first)]):=fun nl out b c=>rfl
 apply bl
 unfold MJ mW
 generalize Cz s.parts=o at *
 generalize s.parts.isEmpty=em at *
 simp -implicitDefEqProofs only[Xf,SP,WP,na,sevalprocAttr,Oh,hP1,Ic,Gi,yd,Wi,st0,Ee,g1,Bb,hc30,htk3',d0,d1,ga,Aa,AV.cut,ua]
 refine za hloop ?_
 rintro r ⟨E,nl,rfl,k2,k3⟩
 cases em <;> simp -implicitDefEqProofs only[SP,WP,na,sevalprocAttr,k2,k3,ld1,st1,ld2]
abbrev vX (row:List PV) (i:Int):Tr:=(((Tr.lf.set 4 (.pv (i64 i))).set 3 (.ptr 1 0)).set 2 (.ptr 0 0)).set 1 (.pv (.rp row 0))
abbrev aI (nl:Bool) (out:List PV):ba:= .box [.uq 2 nl 2 out]
theorem xP {S:PV} {ss:List Rb} {es:List PV} (hS:wb S ss es) (hz:WB ss):Rh [.agg [S]]=some (.agg [TX ss]):=by
 have hS1:(AV.pv S).one=true:=by rcases hS.is with⟨h,_⟩ | h <;> rw[h] <;> rfl
 have ln:=hS.Sb
 have VR:=hz.len
 have hc3:∀ nl out n,Sa (oa 3) [.box [.pv .ma],aI nl out,.tok 2 n nl]=some [.box [.pv .ma],aI nl out,.tok 2 n nl]:=fun nl out n=>rfl
 have htk3:∀ a b c:ba,([a,b,c]:List ba).take 3=[a,b,c]:=fun a b c=>rfl
 have d0:(0 < 3)=True:=by simp
 have d1:(1 < 3)=True:=by simp
 have hloop:Ld (fun r=>∃ E nl,r=(.exit 0,⟨E,[.box [.pv .ma],aI ss.isEmpty (Ho ss),.tok 2 ss.length nl]⟩)∧E.get 2= .ptr 0 0∧E.get 3= .ptr 1 0)
  (qb (fa (pa (Ea (fun _=>none) 8) pf) (ga 3 [1,2,3,4])) qa ⟨vX [S] 0,[.box [.pv .ma],aI true [],.tok 2 0 true]⟩):=by
  refine za (Eb (g:=fa (pa (Ea (fun _=>none) 8) pf) (ga 3 [1,2,3,4]))
   (fun i t=>t=⟨vX [S] i,[.box [.pv .ma],aI (ss.take i).isEmpty (Ho (ss.take i)),.tok 2 i (ss.take i).isEmpty]⟩)
   ss.length (by unfold qa;omega) _ rfl ?_ ?_) (fun r h=>h.2)
  ·rintro i t hi rfl
   obtain⟨P,ps,hP,a1⟩:=hS.Ad hi
   have hcs:=cF hP (hz.parts _ (List.getElem_mem hi))
   have hnext:ss.take (i+1)=ss.take i++[ss[i]]:=by simp
   have hie:(ss.take (i+1)).isEmpty=false:=by rw[hnext];cases ss.take i <;> rfl
   have hcl:Ho (ss.take (i+1))=Ho (ss.take i)++[MJ ss[i]]:=by rw[hnext,Ho,List.map_append];rfl
   have hcn:(Ho (ss.take i)).length=i:=by rw[Ho,List.length_map,List.length_take];omega
   have hep:MJ ss[i]= .agg [mW ss[i].parts,i64 ss[i].first]:=rfl
   rw[hep] at hcl hcs
   have hLN:∀ st:St,st=⟨vX [S] (i+1:Nat),[.box [.pv .ma],aI false (Ho (ss.take (i+1))),.tok 2 (i+1) false]⟩→
    LN (fun i t=>t=⟨vX [S] i,[.box [.pv .ma],aI (ss.take i).isEmpty (Ho (ss.take i)),.tok 2 i (ss.take i).isEmpty]⟩)
     (fun r=>∃ E nl,r=(.exit 0,⟨E,[.box [.pv .ma],aI ss.isEmpty (Ho ss),.tok 2 ss.length nl]⟩)∧E.get 2= .ptr 0 0∧E.get 3= .ptr 1 0) i (.norm,st):=by
    intro st h
    show st=_
    rw[h,hie]
   generalize LN _ _ i=QQ at hLN ⊢
   have hpo:(AV.pv (mW ss[i].parts)).one=true:=by unfold mW;split <;> rfl
   generalize mW ss[i].parts=pv at *
   generalize ss[i].first=fi at *
   generalize (ss.take i).isEmpty=nl at *
   have hap2:Ub [.box [.pv .ma],aI nl (Ho (ss.take i)),.tok 2 i nl] false .uq 2 true 32 (.uq 2 nl 2 (Ho (ss.take i))) (.pv (.lit 2 [.agg [pv,i64 fi]]))=some (.uq 2 false 2 (Ho (ss.take (i+1))),[.box [.pv .ma],aI nl (Ho (ss.take i)),.tok 2 (i+1) false]):=by
    have:=Ah (A:=[.box [.pv .ma],aI nl (Ho (ss.take i)),.tok 2 i nl]) (id:=2) (n:=i) (sz:=2) (h:= .uq) (nl:=nl) (ag:=true) (bytes:=32) (es:=Ho (ss.take i)) rfl hcn.symm (by unfold mb;omega) (.agg [pv,i64 fi])
    rw[this,hcl];rfl
   have e1:decide ((i:Int) < (ss.length:Int))=true:=Fa (by omega)
   have t2:IntKind.i64.wrap ((i:Int)+1)=((i+1:Nat):Int):=Da (by omega)
   generalize Ho (ss.take i)=o at *
   generalize Ho (ss.take (i+1))=o' at *
   have pl:∀ c,place [.box [.pv .ma],aI nl o,c] 0 (.ptr 1 0)=some (.ptr 1 0):=fun c=>rfl
   have ld:∀ c,ya [.box [.pv .ma],aI nl o,c] false 1 (.ptr 1 0)=some (.uq 2 nl 2 o):=fun c=>rfl
   have st:∀ c,Ma [.box [.pv .ma],aI nl o,c] 1 (.ptr 1 0) (.uq 2 false 2 o')=some [.box [.pv .ma],aI false o',c]:=fun c=>rfl
   have hc3':=hc3 false o' (i+1)
   simp -implicitDefEqProofs only[SP,WP,na,sevalprocAttr,pf,Yb,Va,Df,ln,e1,t2,a1,hcs,pl,ld,st,hap2,hpo,hc3',htk3,d0,d1,Yh,AV.EB,AV.bo,ga,Aa,AV.cut,ua,vX]
   exact hLN _ rfl
  ·rintro t rfl
   rw[List.take_length]
   have e1:decide ((ss.length:Int) < (ss.length:Int))=false:=Ka (by omega)
   generalize Ho ss=o
   generalize ss.isEmpty=nl
   generalize hQ:(fun r:Ex×St=>r.1.stop=true∧_)=Q
   simp -implicitDefEqProofs only[SP,WP,na,sevalprocAttr,pf,Yb,Va,ln,e1,vX]
   subst hQ
   exact⟨rfl,_,nl,rfl,by simp[Tr.aa],by simp[Tr.aa]⟩
 have st0:Ma [.box [.pv .ma],.box [.pv .ma]] 1 (.ptr 1 0) (.pv (.agg [.ma]))=some [.box [.pv .ma],.box [.pv .ma]]:=rfl
 have g1:(0 < 2)=True:=by simp
 have hc30:=hc3 true [] 0
 have ld1:∀ nl out c,ya [.box [.pv .ma],aI nl out,c] true 1 (.ptr 1 0)=some (.agg [.uq 2 nl 2 out]):=fun nl out c=>rfl
 have st1:∀ nl out b c,Ma [.box [.pv .ma],b,c] 1 (.ptr 0 0) (.agg [.uq 2 nl 2 out])=some [aI nl out,b,c]:=fun nl out b c=>rfl
 have ld2:∀ nl out b c,ya [aI nl out,b,c] true 1 (.ptr 0 0)=some (.agg [.uq 2 nl 2 out]):=fun nl out b c=>rfl
 apply bl
 unfold TX
 generalize Ho ss=o at *
 generalize ss.isEmpty=em at *
 simp -implicitDefEqProofs only[Rh,SP,WP,na,sevalprocAttr,Uj,hS1,Yb,Va,st0,Ee,g1,Bb,hc30,htk3,d0,d1,ga,Aa,AV.cut,ua]
 refine za hloop ?_
 rintro r ⟨E,nl,rfl,k2,k3⟩
 cases em <;> simp -implicitDefEqProofs only[SP,WP,na,sevalprocAttr,k2,k3,ld1,st1,ld2]
theorem US {ls:List (List (Int×Int))} (hl:ls.length≤maxLen) (h:∀ l∈ls,l.length * 16≤140737488355328):Ze (mW ls) ls (Cz ls):=by
 refine⟨?_,by simp[Cz],?_,hl⟩
 ·cases ls with
  |nil=>exact .inl ⟨rfl,rfl⟩
  |cons a r=>exact .inr rfl
 ·intro k v l hv hl
  rw[Cz,List.getElem?_map,hl] at hv
  simp at hv;subst hv
  exact⟨.inr rfl,h l (List.mem_of_getElem? hl)⟩
theorem PK {S:PV} {ss:List Rb} {es:List PV} (hS:wb S ss es):wb (TX ss) ss (Ho ss):=by
 refine⟨?_,by simp[Ho],?_,hS.sz⟩
 ·cases ss with
  |nil=>exact .inl ⟨rfl,rfl⟩
  |cons a r=>exact .inr rfl
 ·intro k e s he hs
  rw[Ho,List.getElem?_map,hs] at he
  simp at he;subst he
  obtain⟨i,hi⟩:=List.getElem_of_mem (List.mem_of_getElem? hs)
  obtain⟨hk,hks⟩:=List.getElem?_eq_some_iff.1 hs
  obtain⟨e',P,ps,_,_,hP⟩:=hS.get hk
  rw[hks] at hP
  exact⟨mW s.parts,Cz s.parts,rfl,US hP.parts.sz (hS.WX s (List.mem_of_getElem? hs))⟩
end Go.AM.B1
namespace Go.AM.B1
open Go.AM Go.AM.So
attribute [local irreducible] Ld
end Go.AM.B1
namespace Go.AM.B1
open Go.AM
def Hh (l:List (List xe)):Nat→Int→List Int→Int×Int
 |i,_,[]=>(i,2)
 |i,st,b::r=>if (Yk l st b).2=false then ((i:Int),3) else if (Yk l st b).1= -1 then (((i+1:Nat):Int),1) else Hh l (i+1) (Yk l st b).1 r
section
variable (call:Ua) (A B:PV) (l:List (List xe)) (hA:Zm A l) (bs:List Int) (hB:ri 1 B (bs.map u8)) (hb:∀ b∈bs,0≤b∧b≤255) (hw:bs.length≤maxLen)
include hA hB hb hw
end
end Go.AM.B1
namespace Go.AM.B1
open Go.AM
section
variable (A:PV) (l:List (List xe)) (hA:Zm A l)
include hA
end
section
variable (call:Ua) (av bs:List PV) (i:Nat) (a b:List xe) (V W:PV) (hia:i < av.length) (hib:i < bs.length) (hV:av[i]? =some V) (hW:bs[i]? =some W) (hVL:ri 3 V (a.map FE)) (hWL:ri 3 W (b.map FE)) (hw:a.length≤maxLen)
include hia hV hVL
include hib hW hWL hw
end
end Go.AM.B1
namespace Go.AM.B1
open Go.AM
section
variable (A B:PV) (l m:List (List xe)) (hA:Zm A l) (hB:Zm B m)
include hA hB
end
end Go.AM.B1
namespace Go.AM.B1
open Go.AM Go.AM.So
theorem UA (row:List Int):∀ (xs:List Nat) (l:List xe),(je row xs l).length≤l.length+xs.length
 | [],l=>by simp[je]
 |x::xs,l=>by
  rw[je]
  have h1:=UA row xs (Bf x (row.getD x 0) l)
  have h2:=dG x (row.getD x 0) l
  simp only[List.length_cons];omega
theorem gM (row:List Int):(Ff row).length≤256:=by
 have:=UA row (List.range 256) []
 simpa[Ff] using this
theorem lE (C:List Int):∀ (k:Nat) (r:List Int×List (List xe)),(aj C k r).2.length≤r.2.length+k∧∀ e∈(aj C k r).2,e∈r.2∨e.length≤256
 |0,r=>⟨by simp[aj],fun e he=> .inl he⟩
 |k+1,r=>by
  cases ho:r.1[r.2.length]? with
  |none=>rw[Bp ho];exact⟨by omega,fun e he=> .inl he⟩
  |some o=>
   rw[Nq ho]
   obtain⟨h1,h2⟩:=lE C k ((Rf C o r.1).1,r.2++[Ff (Rf C o r.1).2])
   simp only[List.length_append,List.length_singleton] at h1
   refine⟨by omega,fun e he=> ?_⟩
   rcases h2 e he with h3 | h3
   ·simp only[List.mem_append,List.mem_singleton] at h3
    rcases h3 with h3 | h3
    ·exact .inl h3
    ·refine .inr ?_;rw[h3];exact gM _
   ·exact .inr h3
theorem yO (C:List Int) (k:Nat) (o:List Int):(aj C k (o,[])).2.length≤k∧∀ e∈(aj C k (o,[])).2,e.length≤256:=by
 have h:=lE C k (o,[])
 generalize aj C k (o,[])=r at h ⊢
 refine⟨by simpa using h.1,fun e he=> ?_⟩
 rcases h.2 e he with h | h
 ·cases h
 ·exact h
set_option maxRecDepth 8000 in
theorem ZO (C:List Int):(Pm C).length≤64∧∀ e∈Pm C,e.length≤256:=yO C 64 [0]
theorem Oz {ss:List Rb} {l:List (List xe)} (h:yg ss=some l):l.length≤64∧∀ e∈l,e.length≤256:=by
 unfold yg at h
 rw[Option.map_eq_some_iff] at h
 obtain⟨r,_,rfl⟩:=h
 exact ZO _
theorem BI (e:List xe):ri 3 (Od e) (e.map FE):=by
 unfold Od
 cases e with
 |nil=>exact .inl ⟨rfl,rfl⟩
 |cons a r=>exact .inr rfl
theorem GD {l:List (List xe)} (h1:l.length≤64) (h2:∀ e∈l,e.length≤256):Zm (zj l) l:=by
 refine⟨⟨l.map Od,.inr rfl,by simp,?_⟩,by omega,fun e he=>by have:=h2 e he;omega⟩
 intro i v e hv he
 rw[List.getElem?_map,he] at hv
 simp at hv;subst hv
 exact BI e
theorem yA:Zm .ma []:=⟨⟨[],.inl ⟨rfl,rfl⟩,rfl,by simp⟩,by simp,by simp⟩
theorem fL (ss:List Rb):∃ (V:PV) (l:List (List xe)) (n:Int),Zm V l∧(n=0↔∃ l',yg ss=some l'∧qc ss∧Fg ss∧V=zj l'∧l=l')∧(n≠0→V= .ma)∧
 (∀ (A:PV) (ea:List PV),wb A ss ea→wc [.agg [A]]=some (.uc [.agg [V],i64 n]))∧(∀ (A:PV) (ea:List PV),wb A ss ea→Xa [.agg [A]]=some (.uc [.agg [V],i64 n])):=by
 by_cases h1:qc ss
 ·by_cases h2:Fg ss
  ·cases h3:yg ss with
   |none=>exact⟨.ma,[],130,yA,⟨fun h=>(by cases h),fun ⟨_,h,_⟩=>(by cases h)⟩,fun _=>rfl,fun A ea h=>(ei h).2.2.1 h1 h2 h3,fun A ea h=>(vn h).2.2.1 h1 h2 h3⟩
   |some l=>
    obtain⟨k1,k2⟩:=Oz h3
    exact⟨zj l,l,0,GD k1 k2,⟨fun _=>⟨l,rfl,h1,h2,rfl,rfl⟩,fun _=>rfl⟩,fun h=>absurd rfl h,fun A ea h=>(ei h).2.2.2 h1 h2 l h3,fun A ea h=>(vn h).2.2.2 h1 h2 l h3⟩
  ·exact⟨.ma,[],110,yA,⟨fun h=>(by cases h),fun ⟨_,_,_,h,_⟩=>absurd h h2⟩,fun _=>rfl,fun A ea h=>(ei h).2.1 h1 h2,fun A ea h=>(vn h).2.1 h1 h2⟩
 ·exact⟨.ma,[],84,yA,⟨fun h=>(by cases h),fun ⟨_,_,h,_⟩=>absurd h h1⟩,fun _=>rfl,fun A ea h=>(ei h).1 h1,fun A ea h=>(vn h).1 h1⟩
end Go.AM.B1
namespace Go.AM.B1
open Go.AM Go.AM.So
def Tm (es:List xe):PV:= .agg ((List.range 256).map fun b=> .int .i8 (gk es b))
theorem RA {α:Type} {cs vs:List α} (h:vs.length=cs.length):na cs 0 vs=vs:=by
 apply List.ext_getElem?
 intro p
 rw[So.Yg]
 by_cases hp:p < cs.length
 ·rw[dif_pos ⟨by omega,by omega,hp⟩];simp
 ·rw[dif_neg (by omega),List.getElem?_eq_none (by omega),List.getElem?_eq_none (by omega)]
theorem setRow_self {α:Type} (cs:List α):na cs 0 cs=cs:=RA rfl
theorem UN:ba.box ((List.replicate 256 (PV.int .i8 0)).map .pv)=b8 fun _=>0:=by
 unfold b8 cellsOf
 rw[List.map_const',List.length_range,List.map_replicate]
theorem YV (n:Nat):(List.replicate n (AV.pv (.int .i8 0))).all AV.one=true:=by
 rw[List.all_eq_true];intro x hx;rw[List.eq_of_mem_replicate hx];rfl
def Xu (o0 o1 o4 o5:ba) (c0 c1 c3 c4 c5:AV) (nl:Bool) (es:List PV):List ba:=[o0,o1,.box [c0,c1,.uq 3 nl 256 es,c3,c4,c5],.tok 256 es.length nl,o4,o5]
section
variable {call:Ua} {o0 o1 o4 o5:ba} {c0 c1 c3 c4 c5:AV}
 (hg:∀ nl es,xg (Xu o0 o1 o4 o5 c0 c1 c3 c4 c5 nl es))
include hg
theorem bR {E:Tr} {V:PV} {l:List (List xe)} {i:Nat} {nl:Bool} {es:List PV} (hV:ri 1 V (l.map Od)) (hl:l.length≤64) (hle:∀ e∈l,e.length≤256) (Ba:∀ e∈l,ij e) (hi:i < l.length) (he:es.length=i)
 (h8:E.get 8= .ptr 2 0) (h101:E.get 101= .pv V) (h102:E.get 102= .pv (i64 l.length)) (h103:E.get 103= .pv (i64 i)):
 Ld (fun r=>∃ E',r=(.norm,⟨E',Xu o0 o1 o4 o5 c0 c1 c3 c4 c5 false (es++[Tm l[i]])++[b8 (gk l[i])]⟩)∧Nd [8,101,102] E E'∧E'.get 103= .pv (i64 (i+1:Nat)))
  (pa call Mh ⟨E,Xu o0 o1 o4 o5 c0 c1 c3 c4 c5 nl es⟩):=by
 have hV1:=hV.lit (i:=i) (by simpa using hi)
 have hml:=List.getElem_mem hi
 have hie:=Ba _ hml
 have hilen:=hle _ hml
 have hA:=hg nl es
 have hAl:(Xu o0 o1 o4 o5 c0 c1 c3 c4 c5 nl es).length=6:=rfl
 have e1:decide ((i:Int) < (l.length:Int))=true:=Fa (by omega)
 have t1:IntKind.i64.wrap ((i:Int)+1)=((i+1:Nat):Int):=Wk (by omega)
 have hvc:(Od l[i]).cells=[Od l[i]]:=by unfold Od;split <;> rfl
 have a1:wa (Xu o0 o1 o4 o5 c0 c1 c3 c4 c5 nl es) 1 (.pv V) (i:Int)=some (.pv (.rp [Od l[i]] 0)):=by
  rw[hV1]
  simp only[wa]
  rw[if_pos ⟨trivial,by unfold Ga;rw[List.length_map];omega⟩,Int.toNat_natCast,List.getElem?_map,List.getElem?_eq_getElem hi,Option.map_some,Option.map_some,hvc]
 have hL:=BI l[i]
 have lL:=hL.len
 rw[List.length_map] at lL
 have hclr:=fun (E2:Tr) (q8:E2.get 8= .ptr 2 0) (q12:E2.get 12= .pv (Od l[i])) (q13:E2.get 13= .ptr 6 0) (q101:E2.get 101= .pv V) (q102:E2.get 102= .pv (i64 l.length)) (q103:E2.get 103= .pv (i64 i)) (q108:E2.get 108= .pv (i64 0))=>
  uS (call:=call) hA (g0:=fun _=>0) (tb:=2) (by rw[hAl];omega) q8 q12 q13 q101 q102 q103 q108
 have hedg:=fun (E2:Tr) (q8:E2.get 8= .ptr 2 0) (q13:E2.get 13= .ptr 6 0) (q101:E2.get 101= .pv V) (q102:E2.get 102= .pv (i64 l.length)) (q103:E2.get 103= .pv (i64 i)) (q114:E2.get 114= .pv (Od l[i])) (q115:E2.get 115= .pv (i64 l[i].length)) (q116:E2.get 116= .pv (i64 0))=>
  aU (call:=call) hA (tb:=2) hie hL hilen (by rw[hAl];omega) q8 q13 q101 q102 q103 q114 q115 q116
 generalize l[i]=ed at *
 have s0:Ma (Xu o0 o1 o4 o5 c0 c1 c3 c4 c5 nl es++[b8 fun _=>0]) 256 (.ptr 6 0) (.pv (.agg (List.replicate 256 (PV.int .i8 0))))=some (Xu o0 o1 o4 o5 c0 c1 c3 c4 c5 nl es++[b8 fun _=>0]):=by
  have hq:=uj (Xu o0 o1 o4 o5 c0 c1 c3 c4 c5 nl es) (b8 fun _=>0)
  have hs:=gn (Xu o0 o1 o4 o5 c0 c1 c3 c4 c5 nl es) (b8 fun _=>0) (b8 fun _=>0)
  rw[hAl] at hq hs
  simp only[Ma,hq,AV.cells,PV.cells,List.length_map,List.length_replicate,List.map_replicate]
  rw[if_pos ⟨trivial,YV 256⟩]
  rw[← UN,List.map_replicate] at hs ⊢
  simp only[List.length_replicate]
  rw[if_pos (by omega),setRow_self,hs]
 generalize hA1:Xu o0 o1 o4 o5 c0 c1 c3 c4 c5 nl es++[b8 fun _=>0]=A1 at *
 have hbz:Xu o0 o1 o4 o5 c0 c1 c3 c4 c5 nl es++[ba.box ((List.replicate 256 (PV.int .i8 0)).map .pv)]=A1:=by rw[UN];exact hA1
 have hap:=So.cf (List.replicate 256 (PV.int .i8 0))
 rw[List.map_replicate] at hap hbz
 generalize hA0:Xu o0 o1 o4 o5 c0 c1 c3 c4 c5 nl es=A0 at *
 generalize hQ:(fun r:Ex×St=>∃ E',r=_∧_)=Q
 simp -implicitDefEqProofs only[SX,sevalprocAttr,-List.reduceReplicate,Mh,h8,h101,h102,h103,e1,a1,Va,hap,hAl,hbz,s0,List.map_replicate]
 generalize hEE:(Tr.set _ 108 _:Tr)=E2
 have k2:Nd [8,101,102,103] E E2:=by
  rw[← hEE]
  repeat refine Nd.set ?_ rfl
  exact Nd.refl _ _
 have q12:E2.get 12= .pv (Od ed):=by rw[← hEE];simp[Tr.aa,-List.reduceReplicate]
 have q13:E2.get 13= .ptr 6 0:=by rw[← hEE];simp[Tr.aa,-List.reduceReplicate]
 have q108:E2.get 108= .pv (i64 0):=by rw[← hEE];simp[Tr.aa,-List.reduceReplicate]
 refine za (hclr E2 ((k2 8 (by simp)).trans h8) q12 q13 ((k2 101 (by simp)).trans h101) ((k2 102 (by simp)).trans h102) ((k2 103 (by simp)).trans h103) q108) ?_
 rintro r ⟨_,E3,rfl,k3⟩
 have k3:Nd [8,12,13,101,102,103] E2 E3:=k3
 have z12:=(k3 12 (by simp)).trans q12
 simp -implicitDefEqProofs only[SX,sevalprocAttr,-List.reduceReplicate,z12,lL]
 generalize hEE4:(Tr.set _ 116 _:Tr)=E4
 have k4:Nd [8,101,102,103] E E4:=by
  rw[← hEE4]
  repeat refine Nd.set ?_ rfl
  exact k2.trans (Nd.sub k3 rfl)
 have q13:E4.get 13= .ptr 6 0:=by rw[← hEE4];simp[Tr.aa];exact (k3 13 (by simp)).trans q13
 have q114:E4.get 114= .pv (Od ed):=by rw[← hEE4];simp[Tr.aa]
 have q115:E4.get 115= .pv (i64 ed.length):=by rw[← hEE4];simp[Tr.aa]
 have q116:E4.get 116= .pv (i64 0):=by rw[← hEE4];simp[Tr.aa]
 refine za (hedg E4 ((k4 8 (by simp)).trans h8) q13 ((k4 101 (by simp)).trans h101) ((k4 102 (by simp)).trans h102) ((k4 103 (by simp)).trans h103) q114 q115 q116) ?_
 rintro r ⟨_,E5,rfl,k5⟩
 have k5:Nd [8,13,101,102,103] E4 E5:=k5
 have k5':Nd [8,101,102,103] E E5:=k4.trans (Nd.sub k5 rfl)
 have z8:=(k5' 8 (by simp)).trans h8
 have z103:=(k5' 103 (by simp)).trans h103
 have z13:=(k5 13 (by simp)).trans q13
 have p2:∀ d,place (A0++[b8 (gk ed)]) d (.ptr 2 0)=some (.ptr 2 (0+d)):=fun d=>cg (by rw[← hA0];rfl) d 0
 have l2:ya (A0++[b8 (gk ed)]) false 1 (.ptr 2 2)=some (.uq 3 nl 256 es):=by rw[← hA0];rfl
 have l13:ya (A0++[b8 (gk ed)]) true 256 (.ptr 6 0)=some (.pv (Tm ed)):=by
  have hgt:(A0++[b8 (gk ed)])[6]? =some (b8 (gk ed)):=by rw[← hA0];rfl
  have hl:(cellsOf 256 fun b=>AV.pv (.int .i8 (gk ed b))).length=256:=eg _ _
  have:cellsOf 256 (fun b=>AV.pv (.int .i8 (gk ed b)))=((List.range 256).map fun b=>PV.int .i8 (gk ed b)).map .pv:=by rw[cellsOf,List.map_map];rfl
  rw[ya,hgt]
  show Sg true 256 (cellsOf 256 fun b=>AV.pv (.int .i8 (gk ed b))) 0=_
  rw[Sg,if_pos rfl,if_pos (by rw[hl];exact Nat.le_refl _),List.drop_zero,List.take_of_length_le (by rw[hl];exact Nat.le_refl _),this,Kq,So.cf];rfl
 have hap2:Ub (A0++[b8 (gk ed)]) false .uq 256 true 256 (.uq 3 nl 256 es) (.pv (.lit 256 [Tm ed]))=some (.uq 3 false 256 (es++[Tm ed]),[o0,o1,.box [c0,c1,.uq 3 nl 256 es,c3,c4,c5],.tok 256 (es.length+1) false,o4,o5,b8 (gk ed)]):=by
  rw[← hA0]
  simp only[Ub,Xu,yf,List.cons_append,List.nil_append,List.getElem?_cons_succ,List.getElem?_cons_zero,if_true,Option.bind_some,List.length_cons,List.length_nil]
  rw[if_neg (by simp)]
  rw[if_pos ⟨trivial,trivial,trivial,by unfold mb;omega⟩]
  simp
 have p3:∀ d,place [o0,o1,.box [c0,c1,.uq 3 nl 256 es,c3,c4,c5],.tok 256 (es.length+1) false,o4,o5,b8 (gk ed)] d (.ptr 2 0)=some (.ptr 2 (0+d)):=fun d=>cg rfl d 0
 have s3:Ma [o0,o1,.box [c0,c1,.uq 3 nl 256 es,c3,c4,c5],.tok 256 (es.length+1) false,o4,o5,b8 (gk ed)] 1 (.ptr 2 2) (.uq 3 false 256 (es++[Tm ed]))=some (Xu o0 o1 o4 o5 c0 c1 c3 c4 c5 false (es++[Tm ed])++[b8 (gk ed)]):=by
  have:(es++[Tm ed]).length=es.length+1:=by simp
  unfold Xu
  rw[this];rfl
 obtain⟨N,hN⟩:∃ N,N=(List.range 256).map fun b=>PV.int .i8 (gk ed b):=⟨_,rfl⟩
 have hNl:N.length=256:=by rw[hN,List.length_map,List.length_range]
 have hNo:(N.map AV.pv).all AV.one=true:=by
  rw[hN,List.all_eq_true];intro x hx
  rw[List.mem_map] at hx;obtain⟨y,hy,rfl⟩:=hx
  rw[List.mem_map] at hy;obtain⟨z,_,rfl⟩:=hy
  rfl
 have hNP:Tm ed= .agg N:=by rw[hN];rfl
 rw[hNP] at l13 hap2 s3 hQ
 have m0:(PV.agg N).cells=N:=rfl
 have m1:na (List.map AV.pv (List.replicate 256 (PV.int .i8 0))++[]) 0 (N.map .pv)=N.map .pv:=RA (by rw[List.length_map,List.length_append,List.length_map,List.length_replicate,hNl];rfl)
 have m2:(N.map AV.pv).length=256:=by rw[List.length_map,hNl]
 have m3:=So.cf N
 have m5:(256≤(List.map AV.pv (List.replicate 256 (PV.int .i8 0))++[]).length)=True:=eq_true (by rw[List.length_append,List.length_map,List.length_replicate];exact Nat.le_add_right _ _)
 have m6:List.take 256 N=N:=List.take_of_length_le (by omega)
 clear hN hNP
 simp -implicitDefEqProofs only[SP,WP,na,sevalprocAttr,-List.reduceReplicate,z8,z103,z13,p2,l2,l13,hap2,p3,s3,t1,m0,m1,m2,m3,m5,m6,hNo]
 subst hQ
 refine⟨_,rfl,?_,by simp[Tr.aa]⟩
 repeat refine Nd.set ?_ rfl
 exact Nd.sub k5' rfl
end
end Go.AM.B1
namespace Go.AM.B1
open Go.AM Go.AM.So
theorem Ot {p:Int×Int} (h0:0≤p.1) (h1:p.1≤p.2):((uf 0 p).length:Int)=p.2 - p.1+1:=by
 rw[vJ h0 h1,List.length_map,List.length_range];omega
theorem Dy {p:Int×Int} (h0:0≤p.1) (h1:p.1≤p.2) {k:Nat} (hk:(k:Int) < p.2 - p.1+1):(uf 0 p)[k]? =some (p.1+k):=by
 rw[vJ h0 h1,List.getElem?_map,List.getElem?_range (by omega)];rfl
theorem Iy {top:Int}:∀ {l:List (Int×Int)} {last:Int} (n:Int),Oa top last l=true→Bc n l=n+(lk l).length
 | [],_,n,_=>by simp[Bc,lk]
 |p::l,last,n,h=>by
  obtain⟨h1,h2,h3,h4,h5⟩:=Wd h
  replace h1:0≤p.1:=by omega
  replace h2:p.1≤p.2:=by omega
  have hl:=Ot h1 h2
  rw[Bc,Iy _ h5,lk,List.length_append]
  omega
theorem Ir {top:Int}:∀ {l:List (Int×Int)} {last:Int} {n x:Int} {k:Nat},Oa top last l=true→(lk l)[k]? =some x→Cf x n l=(n+k,true)∧0≤x∧x≤top∧last+1 < x
 | [],_,n,x,k,_,hk=>by simp[lk] at hk
 |p::l,last,n,x,k,h,hk=>by
  obtain⟨h1,h2,h3,h4,h5⟩:=Wd h
  replace h1:0≤p.1:=by omega
  replace h2:p.1≤p.2:=by omega
  have hl:=Ot h1 h2
  rw[lk] at hk
  rcases Nat.lt_or_ge k (uf 0 p).length with hlt | hge
  ·rw[List.getElem?_append_left hlt,Dy h1 h2 (by omega)] at hk
   injection hk with hk
   subst hk
   rw[Cf,if_neg (by omega),if_pos (by omega)]
   exact⟨by rw[Prod.mk.injEq];exact⟨by omega,rfl⟩,by omega,by omega,by omega⟩
  ·rw[List.getElem?_append_right hge] at hk
   obtain⟨g1,g2,g3,g4⟩:=Ir (n:=n+(p.2 - p.1+1)) h5 hk
   rw[Cf,if_neg (by omega),if_neg (by omega),g1]
   exact⟨by rw[Prod.mk.injEq];exact⟨by omega,rfl⟩,g2,g3,by omega⟩
theorem Zt {top:Int}:∀ {l:List (Int×Int)} {last:Int} {n x:Int},Oa top last l=true→(Cf x n l).2=true→∃ k:Nat,(lk l)[k]? =some x∧(Cf x n l).1=n+k
 | [],_,n,x,_,hk=>by simp[Cf] at hk
 |p::l,last,n,x,h,hk=>by
  obtain⟨h1,h2,h3,h4,h5⟩:=Wd h
  replace h1:0≤p.1:=by omega
  replace h2:p.1≤p.2:=by omega
  have hl:=Ot h1 h2
  rw[Cf] at hk ⊢
  by_cases c1:x < p.1
  ·rw[if_pos c1] at hk;cases hk
  ·rw[if_neg c1] at hk ⊢
   by_cases c2:x≤p.2
   ·rw[if_pos c2]
    refine⟨(x - p.1).toNat,?_,by show n+x - p.1=_;omega⟩
    rw[lk,List.getElem?_append_left (by omega),Dy h1 h2 (by omega)]
    congr 1;omega
   ·rw[if_neg c2] at hk ⊢
    obtain⟨k,g1,g2⟩:=Zt h5 hk
    refine⟨(uf 0 p).length+k,?_,by rw[g2];omega⟩
    rw[lk,List.getElem?_append_right (by omega),Nat.add_sub_cancel_left];exact g1
end Go.AM.B1
namespace Go.AM.B1
open Go.AM Go.AM.So
theorem zF:∀ (l:List (Int×Int)),Sa rF (Dd l)=some l
 | []=>rfl
 |p::l=>by
  show (rF (pr p)).bind _=_
  have:rF (pr p)=some p:=rfl
  rw[this,Option.bind_some]
  show ((Sa rF (Dd l)).bind fun bs=>some (p::bs))=_
  rw[zF l];rfl
theorem jO {v:PV} {l:List (Int×Int)} (h:ri 2 v (Dd l)):NB v=some l:=by
 rcases h with⟨rfl,h⟩ | rfl
 ·cases l with
  |nil=>rfl
  |cons p l=>cases h
 ·exact zF l
theorem BD {v:PV} {l:List (Int×Int)} (h:ri 2 v (Dd l)) (hv:Oa 255 (-2) l=true) (hlen:l.length≤4611686018427387904):
 Jk [.rp [v] 0,.rp [i64 0] 0]=some ((lk l).map fun x=>[i64 x]):=by
 have hsm:l.all mH=true:=by
  have:∀ (l:List (Int×Int)) (last:Int),Oa 255 last l=true→l.all mH=true:=by
   intro l
   induction l with
   |nil=>intro _ _;rfl
   |cons p l ih=>
    intro last h
    obtain⟨h1,h2,h3,h4,h5⟩:=Wd h
    rw[List.all_cons,ih _ h5,Bool.and_true]
    exact decide_eq_true (by omega)
  exact this l _ hv
 simp only[Jk,jO h,Option.bind_some,hsm,Bool.true_and]
 rw[if_pos (decide_eq_true (by omega)),ZV]
theorem TE {v:PV} {l:List (Int×Int)} (hv:Pn v l) (hp:xd l):∃ u,ri 2 u (Dd l)∧∀ H,Ea Gg 8 39 [.pv v,.pv (i64 0)] H=some (.pk 35 [.pv (.rp [u] 0),.pv (.rp [i64 0] 0)],H):=by
 obtain⟨u,q1,q2⟩:=cx v l hv.is hv.sz
 rw[iN hp.2] at q2
 refine⟨u,q2,fun H=> ?_⟩
 have hu1:(AV.pv u).one=true:=by rcases q2 with⟨h,_⟩ | h <;> rw[h] <;> rfl
 have huc:(AV.pv u).cells=[.pv u]:=by rcases q2 with⟨h,_⟩ | h <;> rw[h] <;> rfl
 have c38:Gg 38=some zt:=rfl
 rw[az Gg 7 39 _ H (f:=Vl) rfl]
 simp -implicitDefEqProofs only[SX,sevalprocAttr,Vl,zt,q1,c38,hu1,huc]
end Go.AM.B1
namespace Go.AM.B1
open Go.AM Go.AM.So
def oX (v:AV) (H:List ba) (es:List PV):Prop:=(es=[]∧v= .pv .ma)∨(∃ tk,es≠[]∧v= .uq tk false 1 es∧H[tk]? =some (.tok 1 es.length false))
theorem xV {x:Int} (h0:0≤x) (h1:x≤255):IntKind.u8.wrap x=x:=by
 unfold IntKind.wrap
 simp[IntKind.signed,IntKind.bits]
 omega
theorem dR {x:Int} (h0:0≤x) (h1:x≤65535):IntKind.u16.wrap x=x:=by
 unfold IntKind.wrap
 simp[IntKind.signed,IntKind.bits]
 omega
theorem zS (call:Ua) {e:Tr} {H:List ba} {bx oid m off fl:Nat} {g:Nat→AV} {x:Int} {es:List PV} (h6:e.get 6= .ptr bx 0) (h7:e.get 7= .pv (i64 x)) (hb:H[bx]? =some (.box [.Ac oid m off])) (ho:H[oid]? =some (.seq 258 true (cellsOf m g) fl false))
 (hoff:off+258≤m) (hx0:0≤x) (hx1:x≤255) (hB:oX (g off) H es) (hlen:es.length≤255):
 ∃ s' fl' v,fl'≤m∧pa call Ek ⟨e,H⟩=some (.norm,s')∧s'.H[bx]? =some (.box [.Ac oid m off])∧
  s'.H[oid]? =some (.seq 258 true (cellsOf m (Su (Su g off v) (off+1+x.toNat) (.pv (.int .u16 (es.length+1))))) fl' false)∧oX v s'.H (es++[.int .u8 x])∧∀ (j:Nat) c,H[j]? =some (.box c)→s'.H[j]? =some (.box c):=by
 have hbo:bx≠oid:=by intro e;subst e;rw[hb] at ho;cases ho
 have wx:=xV hx0 hx1
 have l6:ya H false 1 (.ptr bx 0)=some (.Ac oid m off):=by simp[ya,hb,Sg]
 have lo:=SC (off:=off) ho rfl (by omega)
 have po:∀ d,place H d (.Ac oid m off)=some (.Ac oid m (off+d)):=fun d=>Ks ho rfl
 have app:∃ v H1,Ub H false .uq 1 false 1 (g off) (.pv (.lit 1 [.int .u8 x]))=some (v,H1)∧oX v H1 (es++[.int .u8 x])∧H1[bx]? =some (.box [.Ac oid m off])∧H1[oid]? =some (.seq 258 true (cellsOf m g) fl false)∧v.cells=[v]∧v.one=true∧(∀ K,Sb K 0 v=some (es.length+1))∧∀ (j:Nat) c,H[j]? =some (.box c)→H1[j]? =some (.box c):=by
  rcases hB with⟨rfl,hg⟩ | ⟨tk,hne,hg,htk⟩
  ·refine⟨.uq H.length false 1 [.int .u8 x],H++[.tok 1 1 false],by rw[hg];simp[Ub,yf,Yn],.inr ⟨H.length,by simp,rfl,by simp⟩,?_,?_,rfl,rfl,fun _=>rfl,fun j c hj=>by rw[getElem?_push (getElem?_lt hj)];exact hj⟩
   ·rw[getElem?_push (getElem?_lt hb)];exact hb
   ·rw[getElem?_push (getElem?_lt ho)];exact ho
  ·have h1:tk≠bx:=by intro e;subst e;rw[hb] at htk;cases htk
   have h2:tk≠oid:=by intro e;subst e;rw[ho] at htk;cases htk
   refine⟨.uq tk false 1 (es++[.int .u8 x]),H.set tk (.tok 1 (es.length+1) false),?_,.inr ⟨tk,by simp,rfl,by rw[List.getElem?_set_self (getElem?_lt htk)];simp⟩,?_,?_,rfl,rfl,fun _=>by simp[Sb],fun j c hj=>by rw[List.getElem?_set_ne (fun e=>by subst e;rw[htk] at hj;cases hj)];exact hj⟩
   ·rw[hg];simp[Ub,yf,htk];omega
   ·rw[List.getElem?_set_ne h1];exact hb
   ·rw[List.getElem?_set_ne h2];exact ho
 obtain⟨v,H1,ha,hB1,hb1,ho1,hv1,hv2,hv3,hbox⟩:=app
 have po1:∀ d,place H1 d (.Ac oid m off)=some (.Ac oid m (off+d)):=fun d=>Ks ho1 rfl
 have st1:=eA (off:=off) ho1 rfl (by omega) hv1 hv2
 generalize hH2:H1.set oid (.seq 258 true (cellsOf m (Su g off v)) m false)=H2 at st1
 have hb2:H2[bx]? =some (.box [.Ac oid m off]):=by rw[← hH2,List.getElem?_set_ne (Ne.symm hbo)];exact hb1
 have ho2:H2[oid]? =some (.seq 258 true (cellsOf m (Su g off v)) m false):=by rw[← hH2,List.getElem?_set_self (getElem?_lt ho1)]
 have l62:ya H2 false 1 (.ptr bx 0)=some (.Ac oid m off):=by simp[ya,hb2,Sg]
 have lo2:=SC (off:=off) ho2 rfl (by omega)
 rw[Bs] at lo2
 have po2:∀ d off',place H2 d (.Ac oid m off')=some (.Ac oid m (off'+d)):=fun d off'=>Ks ho2 rfl
 have w2:IntKind.u16.wrap ((es.length+1:Nat):Int)=(es.length:Int)+1:=by rw[dR (by omega) (by omega)];omega
 have st2:=eA (off:=off+1+x.toNat) (v:= .pv (.int .u16 ((es.length:Int)+1))) ho2 rfl (by omega) rfl rfl
 have hidx:(0≤x∧x < ((256:Nat):Int))=True:=eq_true (by omega)
 generalize hH3:H2.set oid (.seq 258 true (cellsOf m (Su (Su g off v) (off+1+x.toNat) (.pv (.int .u16 ((es.length:Int)+1))))) m false)=H3 at st2
 have key:Ld (fun r=>r.1= .norm∧r.2.H=H3) (pa call Ek ⟨e,H⟩):=by
  clear hB hB1 hb ho hb1 ho1 hb2 ho2 hH2 hH3
  have hsr:na [AV.pv (PV.int .u8 0)] 0 [AV.pv (PV.int .u8 x)]=[AV.pv (PV.int .u8 x)]:=rfl
  have hal:([AV.pv (PV.int .u8 x)].all AV.one=true)=True:=eq_true rfl
  have hfr:fresh H .lit 1 false 1 [AV.pv (PV.int .u8 x)]=some (.pv (.lit 1 [.int .u8 x]),H):=rfl
  generalize hQ:(fun r:Ex×St=>r.1=Ex.norm∧_)=Q
  simp -implicitDefEqProofs only[SX,sevalprocAttr,Ek,h6,h7,l6,lo,po,wx,ha,po1,st1,l62,lo2,po2,hv3,w2,hidx,st2,hsr,hal,hfr]
  subst hQ
  exact⟨rfl,rfl⟩
 obtain⟨⟨ex,s'⟩,h1,h2,h3⟩:=Gc key
 simp only at h2 h3
 subst h2
 refine⟨s',m,v,Nat.le_refl _,h1,?_,?_,?_,fun j c hj=> ?_⟩
 ·rw[h3,←hH3,List.getElem?_set_ne (Ne.symm hbo)];exact hb2
 ·rw[h3,←hH3];exact List.getElem?_set_self (getElem?_lt ho2)
 ·rcases hB1 with h | ⟨tk,q1,q2,q3⟩
  ·exact .inl h
  ·have h4:tk≠oid:=by intro e;subst e;rw[ho1] at q3;cases q3
   refine .inr ⟨tk,q1,q2,?_⟩
   rw[h3,←hH3,List.getElem?_set_ne (Ne.symm h4),←hH2,List.getElem?_set_ne (Ne.symm h4)];exact q3
 ·have hj1:=hbox j c hj
  have hne:oid≠j:=fun e=>by subst e;rw[ho1] at hj1;cases hj1
  rw[h3,←hH3,List.getElem?_set_ne hne,←hH2,List.getElem?_set_ne hne];exact hj1
end Go.AM.B1
namespace Go.AM.B1
open Go.AM Go.AM.So
def xX (x:Int):PV:= .int .u8 x
theorem of_inner (call:Ua) {e:Tr} {bx oid m off:Nat} (h6:e.get 6= .ptr bx 0) (hoff:off+258≤m):∀ (xs:List Int) {H:List ba} {fl:Nat} {g:Nat→AV} {es:List PV},H[bx]? =some (.box [.Ac oid m off])→H[oid]? =some (.seq 258 true (cellsOf m g) fl false)→
 (∀ x∈xs,0≤x∧x≤255)→xs.Nodup→oX (g off) H es→es.length+xs.length≤256→
 ∃ H' fl' g',(fl≤m→fl'≤m)∧ai (fun x H=>pa call Ek ⟨tB [(7,40)] (Mo [40] x e),H⟩) (xs.map fun x=>[i64 x]) H=some (.norm,H')∧H'[bx]? =some (.box [.Ac oid m off])∧H'[oid]? =some (.seq 258 true (cellsOf m g') fl' false)∧
  oX (g' off) H' (es++xs.map xX)∧(∀ j,j≠off→(∀ x∈xs,j≠off+1+x.toNat)→g' j=g j)∧(∀ (k:Nat) x,xs[k]? =some x→g' (off+1+x.toNat)= .pv (.int .u16 ((es.length+k:Nat)+1)))∧∀ (j:Nat) c,H[j]? =some (.box c)→H'[j]? =some (.box c):=by
 intro xs
 induction xs with
 |nil=>
  intro H fl g es hb ho _ _ hB _
  exact⟨H,fl,g,id,rfl,hb,ho,by simpa using hB,fun _ _ _=>rfl,fun k x h=>by simp at h,fun _ _ h=>h⟩
 |cons x xs ih=>
  intro H fl g es hb ho hx hnd hB hlen
  obtain⟨hx0,hx1⟩:=hx x (by simp)
  have hnd':=List.nodup_cons.1 hnd
  have e6:(tB [(7,40)] (Mo [40] [i64 x] e)).get 6= .ptr bx 0:=by simp[tB,Mo,Tr.aa,h6]
  have e7:(tB [(7,40)] (Mo [40] [i64 x] e)).get 7= .pv (i64 x):=by simp[tB,Mo,Tr.aa]
  obtain⟨s',fl',v,q0,q1,q2,q3,q4,q5⟩:=zS call e6 e7 hb ho hoff hx0 hx1 hB (by simp at hlen;omega)
  have hne:off≠off+1+x.toNat:=by omega
  obtain⟨H',fl2,g',r0,r1,r2,r3,r4,r5,r6,r7⟩:=ih (es:=es++[xX x]) q2 q3 (fun y hy=>hx y (by simp[hy])) hnd'.2 (by rw[vu _ _ hne,Bs];exact q4) (by simp at hlen ⊢;omega)
  refine⟨H',fl2,g',fun _=>r0 q0,?_,r2,r3,by simpa using r4,fun j h1 h2=> ?_,fun k y hk=> ?_,fun j c hj=>r7 j c (q5 j c hj)⟩
  ·simp only[List.map_cons,ai,q1,Ky];exact r1
  ·rw[r5 j h1 fun y hy=>h2 y (by simp[hy]),vu _ _ (h2 x (by simp)),vu _ _ h1]
  ·cases k with
   |zero=>
    simp at hk;subst hk
    rw[r5 _ (by omega) (fun y hy e=>by
     have:=(hx y (by simp[hy])).1
     have:y=x:=by omega
     subst this;exact hnd'.1 hy),Bs]
    simp
   |succ k=>
    have:=r6 k y (by simpa using hk)
    rw[this]
    congr 3
    simp;omega
end Go.AM.B1
