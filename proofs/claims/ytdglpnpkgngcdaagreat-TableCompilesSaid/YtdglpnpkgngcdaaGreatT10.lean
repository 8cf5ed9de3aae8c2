/- What functions of the program compute. -/
import Derived.Test.YtdglpnpkgngcdaaGreatT9
import Derived.Test.YtdglpnpkgngcdaaGreatT8
import Derived.Test.YtdglpnpkgngcdaaGreatT6
import Derived.Test.YtdglpnpkgngcdaaGreatT7
set_option linter.unusedVariables false
set_option linter.unusedSimpArgs false
namespace Go.AM.B1
open Go.AM Go.AM.So
theorem IB (mb:List Int):∀ (xs:List Nat) (r:List Int×List Int),Ed mb xs r=xs.foldl (fun r x=>Oi x (mb.getD x 0) r) r
 | [],r=>rfl
 |x::xs,r=>by rw[Ed,IB mb xs,List.foldl_cons]
theorem Qy (row:List Int):∀ (xs:List Nat) (l:List ve),qe row xs l=xs.foldl (fun l (x:Nat)=>Lf x (row.getD x 0) l) l
 | [],l=>rfl
 |x::xs,l=>by rw[qe,Qy row xs,List.foldl_cons]
theorem foldl_congr {α β:Type} {f g:β→α→β}:∀ (l:List α) (b:β),(∀ b,∀ a∈l,f b a=g b a)→l.foldl f b=l.foldl g b
 | [],b,_=>rfl
 |a::l,b,h=>by
  rw[List.foldl_cons,List.foldl_cons,h b a (by simp)]
  exact foldl_congr l _ fun b a' ha=>h b a' (by simp[ha])
theorem mJ {v:Int} {co:Nat→Int} {p:Nat→Bool}:∀ (O:List Nat) (k:Nat),(∀ o∈O,(v=co o↔p o=true))→
 Qs v (O.map co) k=if O.findIdx p < O.length then some (k+O.findIdx p) else none
 | [],k,_=>by simp[Qs]
 |o::O,k,h=>by
  rw[List.map_cons,Qs,List.findIdx_cons]
  have ho:=h o (by simp)
  by_cases hp:p o=true
  ·rw[if_pos (ho.2 hp),hp];simp
  ·have hp':p o=false:=by simpa using hp
   rw[if_neg fun e=>hp (ho.1 e),hp',mJ O (k+1) fun o' ho'=>h o' (by simp[ho'])]
   simp only[cond_false,List.length_cons]
   by_cases hlt:O.findIdx p < O.length
   ·rw[if_pos hlt,if_pos (by omega)];congr 1;omega
   ·rw[if_neg hlt,if_neg (by omega)]
def co (C:List (List Int)) (o:Nat):Int:=if o=0 then 0 else cls C o
section
variable {ss:List Yb} {sets:List Al} {C:List (List Int)} (Aa:wc ss) (hpre:ch ss) (W:xl ss sets C) (hl:C.length=sets.length)
 {f:Nat→Nat→Bool} (hf:∀ a,f a a=false) (hK:∀ i j,i < C.length→j < C.length→(f i j=false↔cls C i=cls C j))
include Aa hpre W hl hf hK
omit hf hK in
theorem pN {t:Nat} (h0:0 < t) (ht:t < C.length):cls C t≠0:=by
 intro h
 have h1:=(W.Cy hl).Xn ht
 have h2:(Ge C.length C.flatten).zc.getD t 0=0:=h
 rw[h2] at h1
 exact W.wB Aa hpre hl h0 ht (((W.Cy hl).WJ (by omega) ht).2 h1.2.2)
omit Aa hpre hf hK in
theorem FH {o x:Nat} (ho:o < C.length) (hx:x < 256):(Wa (Ge C.length C.flatten).C (co C o).toNat).getD x 0=gq C o x:=by
 rw[← W.nP hl ho hx]
 unfold co
 by_cases h:o=0
 ·rw[if_pos h,h];rfl
 ·rw[if_neg h]
  have:=((W.Cy hl).Xn ho).2.2
  unfold cls
  rw[this]
omit hf in
theorem ZL {O:List Nat} (hO:nw C.length O) {t:Nat} (h0:0 < t) (ht:t < C.length):Qs (cls C t) (O.map (co C)) 0=if O.findIdx (fun o=> !f o t) < O.length then some (O.findIdx (fun o=> !f o t)) else none:=by
 rw[mJ (p:=fun o=> !f o t)]
 ·simp
 ·intro o ho
  have hoC:=hO.lt o ho
  unfold co
  by_cases hz:o=0
  ·subst hz
   rw[if_pos rfl]
   constructor
   ·intro h;exact absurd h (pN Aa hpre W hl h0 ht)
   ·intro h
    have:f 0 t=false:=by simpa using h
    exact absurd ((hK 0 t (by omega) ht).1 this) (W.wB Aa hpre hl h0 ht)
  ·rw[if_neg hz]
   have:=hK o t hoC ht
   constructor
   ·intro h;have:=this.2 h.symm;simp[this]
   ·intro h;exact (this.1 (by simpa using h)).symm
structure KU (C:List (List Int)) (o:Nat) (x:Nat) (rt:List Int×List Int) (rr:List Nat×List ve):Prop where
 ord:nw C.length rr.1
 fst:rt.1=rr.1.map (co C)
 len:rt.2.length=256
 rest:∀ y,x≤y→y < 256→rt.2.getD y 0=gq C o y
 RV:rr.2=(List.range x).foldl (fun l (y:Nat)=>Lf y (rt.2.getD y 0) l) []
theorem sO {o x:Nat} (ho:o < C.length) (hx:x < 256) {rt:List Int×List Int} {rr:List Nat×List ve} (h:KU C o x rt rr):KU C o (x+1) (Oi x (gq C o x) rt) (zm C f o rr x):=by
 have hbd:=W.bound hl ho hx
 have hcur:=h.rest x (Nat.le_refl _) hx
 have hkeep:∀ (row:List Int) (l:List ve),(∀ y,y≠x→row.getD y 0=rt.2.getD y 0)→l=Lf x (row.getD x 0) rr.2→l=(List.range (x+1)).foldl (fun l (y:Nat)=>Lf y (row.getD y 0) l) []:=by
  intro row l h1 h2
  rw[List.range_succ,List.foldl_append,h2,h.RV]
  show Lf x _ _=Lf x _ _
  congr 1
  refine foldl_congr _ _ fun b a ha=> ?_
  have:a < x:=by simpa using ha
  rw[h1 a (by omega)]
 by_cases hneg:tg C o x < 0
 ·have hn:gq C o x=tg C o x:=by unfold gq;rw[if_neg (by omega)]
  have ht:Oi x (gq C o x) rt=rt:=by unfold Oi;rw[if_pos (by omega)]
  rw[ht]
  have hr1:(zm C f o rr x).1=rr.1:=by
   unfold zm zf
   split
   ·rfl
   ·first | rfl | rw[if_pos hneg]
  have hr2:(zm C f o rr x).2=Lf x (rt.2.getD x 0) rr.2:=by
   rw[hcur,hn]
   unfold zm zf
   split
   ·next h2=>rw[h2,zy]
   ·first | rfl | rw[if_pos hneg]
  exact⟨by rw[hr1];exact h.ord,by rw[hr1];exact h.fst,h.len,fun y h1 h2=>h.rest y (by omega) h2,hkeep _ _ (fun _ _=>rfl) hr2⟩
 ·obtain⟨t,ht⟩:∃ t:Nat,tg C o x=t:=⟨(tg C o x).toNat,by omega⟩
  have hdeep:=W.wA hl ho hx (by omega)
  have h0:0 < t:=by omega
  have htC:t < C.length:=by omega
  have hn:gq C o x=cls C t:=by unfold gq;rw[if_pos (by omega),ht,Int.toNat_natCast]
  have hnn:=W.SK hl htC
  have hsc:=ZL Aa hpre W hl hK h.ord h0 htC
  have hrf:zm C f o rr x=(if rr.1.findIdx (fun o=> !f o t)=rr.1.length then rr.1++[t] else rr.1,Lf x (rr.1.findIdx (fun o=> !f o t):Int) rr.2):=by
   unfold zm zf
   rw[if_neg (by omega),if_neg hneg,ht,Int.toNat_natCast]
  have hoC:=(PC hf h.ord (to:=(t:Int)) (by omega)).1
  have hcl:(zf f rr.1 (t:Int)).1=if rr.1.findIdx (fun o=> !f o t)=rr.1.length then rr.1++[t] else rr.1:=by
   unfold zf
   rw[if_neg (by omega),Int.toNat_natCast]
  rw[hcl] at hoC
  have hle:rr.1.findIdx (fun o=> !f o t)≤rr.1.length:=List.findIdx_le_length
  rw[hrf]
  have hset:∀ v:Int,(∀ y,y≠x→(rt.2.set x v).getD y 0=rt.2.getD y 0)∧(rt.2.set x v).getD x 0=v:=by
   intro v
   refine⟨fun y hy=> ?_,?_⟩
   ·rw[List.getD_eq_getElem?_getD,List.getElem?_set_ne (Ne.symm hy),←List.getD_eq_getElem?_getD]
   ·rw[List.getD_eq_getElem?_getD,List.getElem?_set_self (by rw[h.len];exact hx)];rfl
  by_cases hlt:rr.1.findIdx (fun o=> !f o t) < rr.1.length
  ·rw[if_pos hlt] at hsc
   have htd:Oi x (gq C o x) rt=(rt.1,rt.2.set x (rr.1.findIdx (fun o=> !f o t):Int)):=by
    unfold Oi
    rw[hn,if_neg (by omega),h.fst,hsc]
   rw[htd,if_neg (by omega)]
   refine⟨h.ord,h.fst,by simp[h.len],fun y h1 h2=> ?_,?_⟩
   ·rw[(hset _).1 y (by omega)];exact h.rest y (by omega) h2
   ·exact hkeep _ _ (hset _).1 (by rw[(hset _).2])
  ·rw[if_neg hlt] at hsc
   have hfe:rr.1.findIdx (fun o=> !f o t)=rr.1.length:=by omega
   have htd:Oi x (gq C o x) rt=(rt.1++[cls C t],rt.2.set x (rt.1.length:Int)):=by
    unfold Oi
    rw[hn,if_neg (by omega),h.fst,hsc]
   rw[if_pos hfe] at hoC
   rw[htd,if_pos hfe]
   have hll:rt.1.length=rr.1.length:=by rw[h.fst,List.length_map]
   refine⟨hoC,?_,by simp[h.len],fun y h1 h2=> ?_,?_⟩
   ·simp only[List.map_append,List.map_cons,List.map_nil,h.fst]
    unfold co
    rw[if_neg (by omega:¬t=0)]
   ·rw[(hset _).1 y (by omega)];exact h.rest y (by omega) h2
   ·exact hkeep _ _ (hset _).1 (by rw[(hset _).2,hll,hfe])
theorem PQ {o:Nat} (ho:o < C.length) {O:List Nat} (hO:nw C.length O):Vf (Ge C.length C.flatten).C (co C o) (O.map (co C))=((Tf C f o O 256).1.map (co C),(Vf (Ge C.length C.flatten).C (co C o) (O.map (co C))).2)∧
 Qf (Vf (Ge C.length C.flatten).C (co C o) (O.map (co C))).2=(Tf C f o O 256).2∧nw C.length (Tf C f o O 256).1:=by
 have hrl:(Wa (Ge C.length C.flatten).C (co C o).toNat).length=256:=by
  refine Jh (W.Cy hl).hC ?_
  unfold co
  split
  ·simp;omega
  ·have:=(W.Cy hl).Xn ho
   unfold cls;omega
 have key:∀ x,x≤256→KU C o x ((List.range x).foldl (fun r x=>Oi x ((Wa (Ge C.length C.flatten).C (co C o).toNat).getD x 0) r) (O.map (co C),Wa (Ge C.length C.flatten).C (co C o).toNat)) (Tf C f o O x):=by
  intro x
  induction x with
  |zero=>
   intro _
   exact⟨hO,rfl,hrl,fun y _ hy=>FH W hl ho hy,rfl⟩
  |succ x ih=>
   intro hx
   have h1:=sO Aa hpre W hl hf hK ho (show x < 256 by omega) (ih (by omega))
   rw[xy,List.range_succ,List.foldl_append]
   have h2:(Wa (Ge C.length C.flatten).C (co C o).toNat).getD x 0=gq C o x:=FH W hl ho (by omega)
   show KU C o (x+1) (Oi x ((Wa (Ge C.length C.flatten).C (co C o).toNat).getD x 0) _) _
   rw[h2]
   exact h1
 have h:=key 256 (Nat.le_refl _)
 unfold Vf
 rw[IB]
 refine⟨?_,?_,h.ord⟩
 ·rw[← h.fst]
 ·rw[Qf,Qy];exact h.RV.symm
theorem sN:∀ (k:Nat) (O:List Nat) (out:List (List ve)),nw C.length O→rj (Ge C.length C.flatten).C k (O.map (co C),out)=((dp C f k (O,out)).1.map (co C),(dp C f k (O,out)).2)
 |0,O,out,_=>rfl
 |k+1,O,out,hO=>by
  cases ho:O[out.length]? with
  |none=>
   have h1:(O.map (co C))[out.length]? =none:=by rw[List.getElem?_map,ho];rfl
   rw[Aq h1,BG (r:=(O,out)) ho]
  |some o=>
   have h1:(O.map (co C))[out.length]? =some (co C o):=by rw[List.getElem?_map,ho];rfl
   have hoC:=hO.lt o (List.mem_of_getElem? ho)
   obtain⟨q1,q2,q3⟩:=PQ Aa hpre W hl hf hK hoC hO
   rw[gr (r:=(O.map (co C),out)) h1,zC (r:=(O,out)) ho,q2]
   have q4:(Vf (Ge C.length C.flatten).C (co C o) (O.map (co C))).1=(Tf C f o O 256).1.map (co C):=by rw[q1]
   simp only[q4]
   exact sN k _ _ q3
theorem BT (hn:0 < C.length):gn (Ge C.length C.flatten).C=(dp C f 64 ([0],[])).2:=by
 have h:=sN Aa hpre W hl hf hK 64 [0] [] ⟨by simp,by simp;exact hn⟩
 have h0:([0]:List Nat).map (co C)=[0]:=rfl
 unfold gn
 rw[← h0,h]
end
end Go.AM.B1
namespace Go.AM.B1
open Go.AM Go.AM.So
attribute [local irreducible] Md
section
variable (call:ab) {C:List (List Int)} (hC:mI C) (hge:∀ r∈C,∀ v∈r,-2≤v) {f:Nat→Nat→Bool} (hf:∀ a,f a a=false)
include hC hge hf
theorem MR (hn:0 < C.length) (o0:ba) (h0:∀ n,pa n o0=some o0):
 Md (fun r=>∃ E O,r=(.exit 0,⟨E,[o0,.tok 1 O false,My (dp C f 64 ([0],[])).2.isEmpty (rC (dp C f 64 ([0],[])).2),.tok 1 (dp C f 64 ([0],[])).2.length (dp C f 64 ([0],[])).2.isEmpty]⟩)∧E.get 2= .ptr 0 0∧E.get 11= .ptr 2 0∧0 < (dp C f 64 ([0],[])).2.length)
  (gb (fa (ta call Tc) (ga 4 [2,7,9,10,11,12])) oa ⟨mW (.lit 256 (C.map vi)) (Lj C.length f) (ints [0]) 0,[o0,.tok 1 1 false,My true (rC []),.tok 1 0 true]⟩):=by
 have hsz:=hC.sz
 refine wa (Tp (g:=fa (ta call Tc) (ga 4 [2,7,9,10,11,12]))
  (fun k t=>∃ (O:List Nat) (out:List (List ve)),t=⟨mW (.lit 256 (C.map vi)) (Lj C.length f) (ints O) out.length,[o0,.tok 1 O.length false,My out.isEmpty (rC out),.tok 1 out.length out.isEmpty]⟩∧k+out.length=64∧nw C.length O∧0 < O.length∧out.length≤O.length∧dp C f 64 ([0],[])=dp C f k (O,out))
  oa 64 _ (by unfold oa;omega) ⟨[0],[],rfl,rfl,⟨by simp,by simp;exact hn⟩,by simp,by simp,rfl⟩ ?_) (fun r h=>h.2)
 rintro k t ⟨O,out,rfl,hk,hO,hpos,hle,hs⟩
 have hOl:=hO.len
 cases ho:O[out.length]? with
 |some o=>
  have hlt:=(List.getElem?_eq_some_iff.1 ho).1
  obtain⟨k',rfl⟩:∃ k',k=k'+1:=⟨k - 1,by omega⟩
  have hoC:=hO.lt o (List.mem_of_getElem? ho)
  obtain⟨q1,⟨t,q2⟩,_⟩:=mA hC hf hoC hO 256 (Nat.le_refl _)
  refine wa (iD call hC hge hf o0 h0 hO ho) ?_
  rintro r rfl
  have hie:(out++[(Tf C f o O 256).2]).isEmpty=false:=by cases out <;> rfl
  have hlo:(out++[(Tf C f o O 256).2]).length=out.length+1:=by simp
  refine⟨k',by omega,(Tf C f o O 256).1,out++[(Tf C f o O 256).2],by rw[hie,hlo],by rw[hlo];omega,q1,?_,?_,?_⟩
  ·rw[q2,List.length_append];omega
  ·rw[hlo,q2,List.length_append];omega
  ·rw[hs,zC (r:=(O,out)) ho]
 |none=>
  have hge2:O.length≤out.length:=by
   rcases Nat.lt_or_ge out.length O.length with h | h
   ·rw[List.getElem?_eq_getElem h] at ho;cases ho
   ·exact h
  rw[BG (r:=(O,out)) ho] at hs
  rw[hs]
  have e1:decide ((out.length:Int) < (O.length:Int))=false:=Ia (by omega)
  have hlO:(ints O).length=O.length:=by rw[List.length_map]
  have hgen:Md (fun r=>∃ E,r=(.exit 0,⟨E,[o0,.tok 1 O.length false,My out.isEmpty (rC out),.tok 1 out.length out.isEmpty]⟩)∧E.get 2= .ptr 0 0∧E.get 11= .ptr 2 0)
   (fa (ta call Tc) (ga 4 [2,7,9,10,11,12]) ⟨mW (.lit 256 (C.map vi)) (Lj C.length f) (ints O) out.length,[o0,.tok 1 O.length false,My out.isEmpty (rC out),.tok 1 out.length out.isEmpty]⟩):=by
   generalize hQ:(fun r:Ex×St=>_)=Q
   generalize (PV.lit 256 (C.map vi))=L at *
   generalize Lj C.length f=M at *
   generalize hos:ints O=os at *
   generalize My out.isEmpty (rC out)=ob at *
   simp -implicitDefEqProofs only[SX,sevalprocAttr,-List.reduceReplicate,Tc,hlO,e1,mW]
   subst hQ
   exact⟨_,rfl,by simp[Tr.aa],by simp[Tr.aa]⟩
  refine wa hgen ?_
  rintro r ⟨E,rfl,k2,k11⟩
  exact⟨E,O.length,rfl,k2,k11,by show 0 < out.length;omega⟩
end
theorem Tn {S:PV} {ss:List Yb} {es:List PV} (hS:Xa S ss es):
 (¬ wc ss→Za [.agg [S]]=some (.Jc [.agg [.ma],i64 84]))∧
 (wc ss→¬ch ss→Za [.agg [S]]=some (.Jc [.agg [.ma],i64 110]))∧
 (wc ss→ch ss→eh ss=none→Za [.agg [S]]=some (.Jc [.agg [.ma],i64 130]))∧
 (wc ss→ch ss→∀ l,eh ss=some l→Za [.agg [S]]=some (.Jc [.agg [pf l],i64 0])):=by
 have hS1:(AV.pv S).one=true:=by rcases hS.is with⟨h,_⟩ | h <;> rw[h] <;> rfl
 have hp:=IC hS
 have st0:∀ (a:PV),Ma [.box [.pv .ma]] 1 (.ptr 0 0) (.pv (.agg [.ma]))=some [.box [.pv .ma]]:=fun a=>rfl
 have ld0:ya [.box [.pv .ma]] true 1 (.ptr 0 0)=some (.pv (.agg [.ma])):=rfl
 refine⟨?_,?_,?_,?_⟩
 ·intro h
  have h1:=hp.1 h
  have b1:((84:Int) != 0)=true:=by decide
  simp -implicitDefEqProofs only[Za,SX,sevalprocAttr,-List.reduceReplicate,Qe,hS1,Mf,h1,b1,st0 .ma,ld0]
 ·intro Aa hpre
  obtain⟨b,h1,hb⟩:=hp.2 Aa
  have:b=false:=by cases b with | false=>rfl | true=>exact absurd (hb.1 rfl) hpre
  subst this
  have b1:((0:Int) != 0)=false:=by decide
  simp -implicitDefEqProofs only[Za,SX,sevalprocAttr,-List.reduceReplicate,Qe,hS1,Mf,h1,b1,st0 .ma,ld0]
 ·intro Aa hpre hau
  obtain⟨b,h1,hb⟩:=hp.2 Aa
  have:=hb.2 hpre
  subst this
  have hn:Ig ss 64 (Jg ss,[])=none:=by unfold eh at hau;simpa using hau
  have h2:=(PI hS Aa).2 hn
  have b1:((0:Int) != 0)=false:=by decide
  simp -implicitDefEqProofs only[Za,SX,sevalprocAttr,-List.reduceReplicate,Qe,hS1,Mf,h1,h2,b1,st0 .ma,ld0]
 ·intro Aa hpre l hau
  obtain⟨b,h1,hb⟩:=hp.2 Aa
  have:=hb.2 hpre
  subst this
  obtain⟨p,hn,hl⟩:∃ r,Ig ss 64 (Jg ss,[])=some r∧gn (Ge r.2.length r.2.flatten).C=l:=by
   unfold eh at hau;simpa using hau
  obtain⟨h2,_⟩:=(PI hS Aa).1 p hn
  obtain⟨W,hlen⟩:=XF Aa.len Aa.ne hn
  have hpos:0 < p.2.length:=by
   have:=(List.getElem?_eq_some_iff.1 W.first).1
   omega
  obtain⟨f,hK,h3⟩:=oP (W.Pf hlen) hpos (W.rX hlen)
  have hff:∀ a,f a a=false:=fun a=>by
   cases h:f a a with
   |false=>rfl
   |true=>exact absurd rfl (hK.snd a a h)
  have hfk:=W.known hlen hK
  have htr:=BT Aa hpre W hlen hff hfk hpos
  have hl0:=MR (Ca (fun _=>none) 8) (W.Pf hlen) (W.ge hlen) hff hpos (.box [.pv .ma]) (fun n=>rfl)
  rw[htr] at hl
  rw[hl] at hl0
  have b1:((0:Int) != 0)=false:=by decide
  have hi0:ints [0]=[i64 0]:=rfl
  have ho0:rC []=[]:=rfl
  rw[hi0,ho0] at hl0
  have key:Md (fun r=>r=PV.Jc [.agg [pf l],i64 0]) (Za [.agg [S]]):=by
   have hes:pf l= .lit 1 (rC l):=rfl
   have hne:0 < l.length→l.isEmpty=false:=fun h=>by cases l with | nil=>simp at h | cons=>rfl
   have g1:(0 < 1)=True:=by simp
   have st1:Ma [.box [.pv .ma],.tok 1 1 false,.box [.pv .ma]] 1 (.ptr 2 0) (.pv (.agg [.ma]))=some [.box [.pv .ma],.tok 1 1 false,.box [.pv .ma]]:=rfl
   have hc4:Ra (pa 4) [.box [.pv .ma],.tok 1 1 false,My true [],.tok 1 0 true]=some [.box [.pv .ma],.tok 1 1 false,My true [],.tok 1 0 true]:=rfl
   have htk:∀ a b c d:ba,([a,b,c,d]:List ba).take 4=[a,b,c,d]:=fun a b c d=>rfl
   have d40:(0 < 4)=True:=by simp
   have d41:(1 < 4)=True:=by simp
   have d42:(2 < 4)=True:=by simp
   generalize hQQ:(fun r:PV=>_)=QQ
   generalize (PV.lit 256 (p.2.map vi))=L at *
   generalize hM:Lj p.2.length f=M at *
   have hMo:(AV.pv M).one=true:=by rw[← hM];rfl
   generalize p.1.map Ie=se at *
   simp -implicitDefEqProofs only[Za,SP,WP,na,sevalprocAttr,-List.reduceReplicate,Qe,hS1,Mf,h1,h2,h3,b1,st1,Ke,g1,Ai,AV.uC,AV.Xo,qb,hc4,htk,d40,d41,d42,ga,za,AV.cut,qa]
   refine wa hl0 ?_
   rintro r ⟨E,O,rfl,k2,k11,hpos2⟩
   rw[hne hpos2]
   have ld1:∀ (out:List PV) (a b:ba),ya [.box [.pv .ma],a,My false out,b] true 1 (.ptr 2 0)=some (.agg [.uq 3 false 1 out]):=fun out a b=>rfl
   have st2:∀ (out:List PV) (a b c:ba),Ma [.box [.pv .ma],a,b,c] 1 (.ptr 0 0) (.agg [.uq 3 false 1 out])=some [My false out,a,b,c]:=fun out a b c=>rfl
   have ld2:∀ (out:List PV) (a b c:ba),ya [My false out,a,b,c] true 1 (.ptr 0 0)=some (.agg [.uq 3 false 1 out]):=fun out a b c=>rfl
   generalize rC l=out at *
   simp -implicitDefEqProofs only[SP,WP,na,sevalprocAttr,-List.reduceReplicate,k2,k11,ld1,st2,ld2]
   subst hQQ
   rw[hes]
  exact Xj key
end Go.AM.B1
namespace Go.AM.B1
open Go.AM Go.AM.So
attribute [local irreducible] Md
structure QG (ss:List Yb):Prop where
 len:ss.length * 32≤140737488355328
 parts:∀ s∈ss,s.parts.length * 24≤140737488355328
def jA (ls:List (List (Int×Int))):List PV:=ls.map Yd
def XV (ls:List (List (Int×Int))):PV:=if ls.isEmpty then .ma else .lit 1 (jA ls)
def vJ (s:Yb):PV:= .agg [XV s.parts,i64 s.first]
def Oo (ss:List Yb):List PV:=ss.map vJ
def UW (ss:List Yb):PV:=if ss.isEmpty then .ma else .lit 2 (Oo ss)
abbrev OW (row:List PV) (i:Int):Tr:=(((Tr.lf.set 4 (.pv (i64 i))).set 3 (.ptr 1 0)).set 2 (.ptr 0 0)).set 1 (.pv (.rp row 0))
abbrev uF (nl:Bool) (out:List PV) (first:Int):ba:= .box [.uq 2 nl 1 out,.pv (i64 first)]
theorem QE {e:PV} {s:Yb} {P:PV} {ps:List PV} (h:Me e s P ps) (hsz:s.parts.length * 24≤140737488355328):jg [e]=some (vJ s):=by
 obtain⟨rfl,hP⟩:=h
 have hP1:(AV.pv P).one=true:=by rcases hP.is with⟨h,_⟩ | h <;> rw[h] <;> rfl
 have ln:=hP.Sb
 have hc3:∀ nl out n,Ra (pa 3) [.box [.pv .ma,.pv (i64 0)],uF nl out s.first,.tok 1 n nl]=some [.box [.pv .ma,.pv (i64 0)],uF nl out s.first,.tok 1 n nl]:=fun nl out n=>rfl
 have htk3:∀ a b c d:ba,([a,b,c,d]:List ba).take 3=[a,b,c]:=fun a b c d=>rfl
 have htk3':∀ a b c:ba,([a,b,c]:List ba).take 3=[a,b,c]:=fun a b c=>rfl
 have d0:(0 < 3)=True:=by simp
 have d1:(1 < 3)=True:=by simp
 have hloop:Md (fun r=>∃ E nl,r=(.exit 0,⟨E,[.box [.pv .ma,.pv (i64 0)],uF s.parts.isEmpty (jA s.parts) s.first,.tok 1 s.parts.length nl]⟩)∧E.get 2= .ptr 0 0∧E.get 3= .ptr 1 0)
  (gb (fa (ta (Ca (fun _=>none) 8) Pd) (ga 3 [1,2,3,4])) oa ⟨OW [P,i64 s.first] 0,[.box [.pv .ma,.pv (i64 0)],uF true [] s.first,.tok 1 0 true]⟩):=by
  refine wa (yb (g:=fa (ta (Ca (fun _=>none) 8) Pd) (ga 3 [1,2,3,4]))
   (fun i t=>t=⟨OW [P,i64 s.first] i,[.box [.pv .ma,.pv (i64 0)],uF (s.parts.take i).isEmpty (jA (s.parts.take i)) s.first,.tok 1 i (s.parts.take i).isEmpty]⟩)
   s.parts.length (by unfold oa;omega) _ rfl ?_ ?_) (fun r h=>h.2)
  ·rintro i t hi rfl
   obtain⟨v,hv,hpt,_⟩:=hP.Uc hi []
   have a1:=hP.Su hv
   have hnext:s.parts.take (i+1)=s.parts.take i++[s.parts[i]]:=by simp
   have hie:(s.parts.take (i+1)).isEmpty=false:=by rw[hnext];cases s.parts.take i <;> rfl
   have hcl:jA (s.parts.take (i+1))=jA (s.parts.take i)++[Yd s.parts[i]]:=by rw[hnext,jA,List.map_append];rfl
   have hcn:(jA (s.parts.take i)).length=i:=by rw[jA,List.length_map,List.length_take];omega
   have hep:Yd s.parts[i]= .lit 2 (Ld s.parts[i]):=rfl
   rw[hep] at hcl
   have hLN:∀ st:St,st=⟨OW [P,i64 s.first] (i+1:Nat),[.box [.pv .ma,.pv (i64 0)],uF false (jA (s.parts.take (i+1))) s.first,.tok 1 (i+1) false]⟩→
    LN (fun i t=>t=⟨OW [P,i64 s.first] i,[.box [.pv .ma,.pv (i64 0)],uF (s.parts.take i).isEmpty (jA (s.parts.take i)) s.first,.tok 1 i (s.parts.take i).isEmpty]⟩)
     (fun r=>∃ E nl,r=(.exit 0,⟨E,[.box [.pv .ma,.pv (i64 0)],uF s.parts.isEmpty (jA s.parts) s.first,.tok 1 s.parts.length nl]⟩)∧E.get 2= .ptr 0 0∧E.get 3= .ptr 1 0) i (.norm,st):=by
    intro st h
    show st=_
    rw[h,hie]
   generalize LN _ _ i=QQ at hLN ⊢
   have hpz:=hpt.sz
   have hpi:=hpt.is
   have hpl:(Ld s.parts[i]).length=s.parts[i].length:=by simp[Ld]
   generalize s.parts[i]=l at *
   generalize (s.parts.take i).isEmpty=nl at *
   have hap1:Zb [.box [.pv .ma,.pv (i64 0)],uF nl (jA (s.parts.take i)) s.first,.tok 1 i nl,.tok 2 0 false] false .uq 2 true 16 (.uq 3 false 2 []) (.pv v)=some (.uq 3 false 2 (Ld l),[.box [.pv .ma,.pv (i64 0)],uF nl (jA (s.parts.take i)) s.first,.tok 1 i nl,.tok 2 l.length false]):=by
    rcases hpi with⟨h1,h2⟩ | h1
    ·have:l.length=0:=by rw[← hpl,h2];rfl
     rw[h1,h2,this];rfl
    ·rw[h1]
     simp only[Zb,Bool.false_eq_true,if_false,List.getElem?_cons_succ,List.getElem?_cons_zero,nf,if_true,Option.bind_some]
     rw[if_pos ⟨trivial,trivial,rfl,by rw[hpl];unfold xb;simp;exact hpz⟩]
     simp[hpl]
   have hap2:Zb [.box [.pv .ma,.pv (i64 0)],uF nl (jA (s.parts.take i)) s.first,.tok 1 i nl,.tok 2 l.length false] false .uq 1 false 24 (.uq 2 nl 1 (jA (s.parts.take i))) (.pv (.lit 1 [.lit 2 (Ld l)]))=some (.uq 2 false 1 (jA (s.parts.take (i+1))),[.box [.pv .ma,.pv (i64 0)],uF nl (jA (s.parts.take i)) s.first,.tok 1 (i+1) false,.tok 2 l.length false]):=by
    have:=Fg (A:=[.box [.pv .ma,.pv (i64 0)],uF nl (jA (s.parts.take i)) s.first,.tok 1 i nl,.tok 2 l.length false]) (id:=2) (n:=i) (sz:=1) (h:= .uq) (nl:=nl) (ag:=false) (bytes:=24) (es:=jA (s.parts.take i)) rfl hcn.symm (by unfold xb;omega) (.lit 2 (Ld l))
    rw[this,hcl];rfl
   have e1:decide ((i:Int) < (s.parts.length:Int))=true:=Ga (by omega)
   have t2:IntKind.i64.wrap ((i:Int)+1)=((i+1:Nat):Int):=Da (by omega)
   generalize jA (s.parts.take i)=o at *
   generalize jA (s.parts.take (i+1))=o' at *
   generalize Ld l=es at *
   have pl:∀ c d,place [.box [.pv .ma,.pv (i64 0)],uF nl o s.first,c,d] 0 (.ptr 1 0)=some (.ptr 1 0):=fun c d=>rfl
   have pl':∀ c,place [.box [.pv .ma,.pv (i64 0)],uF nl o s.first,c] 0 (.ptr 1 0)=some (.ptr 1 0):=fun c=>rfl
   have ld:∀ c,ya [.box [.pv .ma,.pv (i64 0)],uF nl o s.first,c] false 1 (.ptr 1 0)=some (.uq 2 nl 1 o):=fun c=>rfl
   have st:∀ c d,Ma [.box [.pv .ma,.pv (i64 0)],uF nl o s.first,c,d] 1 (.ptr 1 0) (.uq 2 false 1 o')=some [.box [.pv .ma,.pv (i64 0)],uF false o' s.first,c,d]:=fun c d=>rfl
   have hc3':=hc3 false o' (i+1)
   simp -implicitDefEqProofs only[SP,WP,na,sevalprocAttr,Pd,xc,Qc,ln,e1,t2,a1,Na,pl,pl',ld,st,hap1,hap2,hc3',htk3,d0,d1,Ai,AV.uC,AV.Xo,ga,za,AV.cut,qa,OW]
   exact hLN _ rfl
  ·rintro t rfl
   rw[List.take_length]
   have e1:decide ((s.parts.length:Int) < (s.parts.length:Int))=false:=Ia (by omega)
   generalize jA s.parts=o
   generalize s.parts.isEmpty=nl
   generalize hQ:(fun r:Ex×St=>r.1.stop=true∧_)=Q
   simp -implicitDefEqProofs only[SP,WP,na,sevalprocAttr,Pd,xc,Qc,ln,e1,OW]
   subst hQ
   exact⟨rfl,_,nl,rfl,by simp[Tr.aa],by simp[Tr.aa]⟩
 have st0:Ma [.box [.pv .ma,.pv (i64 0)],.box [.pv .ma,.pv (i64 0)]] 2 (.ptr 1 0) (.pv (.agg [.ma,i64 s.first]))=some [.box [.pv .ma,.pv (i64 0)],.box [.pv .ma,.pv (i64 s.first)]]:=rfl
 have g1:(0 < 1)=True:=by simp
 have hc30:=hc3 true [] 0
 have ld1:∀ nl out c,ya [.box [.pv .ma,.pv (i64 0)],uF nl out s.first,c] true 2 (.ptr 1 0)=some (.agg [.uq 2 nl 1 out,.pv (i64 s.first)]):=fun nl out c=>rfl
 have st1:∀ nl out b c,Ma [.box [.pv .ma,.pv (i64 0)],b,c] 2 (.ptr 0 0) (.agg [.uq 2 nl 1 out,.pv (i64 s.first)])=some [uF nl out s.first,b,c]:=fun nl out b c=>rfl
 have ld2:∀ nl out b c,ya [uF nl out s.first,b,c] true 2 (.ptr 0 0)=some (.agg [.uq 2 nl 1 out,.pv (i64 s.first)]):=fun nl out b c=>rfl
 apply Xj
 unfold vJ XV
 generalize jA s.parts=o at *
 generalize s.parts.isEmpty=em at *
 simp -implicitDefEqProofs only[jg,SP,WP,na,sevalprocAttr,qi,hP1,xc,Wh,Qc,Oh,st0,Ke,g1,qb,hc30,htk3',d0,d1,ga,za,AV.cut,qa]
 refine wa hloop ?_
 rintro r ⟨E,nl,rfl,k2,k3⟩
 cases em <;> simp -implicitDefEqProofs only[SP,WP,na,sevalprocAttr,k2,k3,ld1,st1,ld2]
abbrev WW (row:List PV) (i:Int):Tr:=(((Tr.lf.set 4 (.pv (i64 i))).set 3 (.ptr 1 0)).set 2 (.ptr 0 0)).set 1 (.pv (.rp row 0))
abbrev nI (nl:Bool) (out:List PV):ba:= .box [.uq 2 nl 2 out]
theorem ZO {S:PV} {ss:List Yb} {es:List PV} (hS:Xa S ss es) (hz:QG ss):zi [.agg [S]]=some (.agg [UW ss]):=by
 have hS1:(AV.pv S).one=true:=by rcases hS.is with⟨h,_⟩ | h <;> rw[h] <;> rfl
 have ln:=hS.Sb
 have uS:=hz.len
 have hc3:∀ nl out n,Ra (pa 3) [.box [.pv .ma],nI nl out,.tok 2 n nl]=some [.box [.pv .ma],nI nl out,.tok 2 n nl]:=fun nl out n=>rfl
 have htk3:∀ a b c:ba,([a,b,c]:List ba).take 3=[a,b,c]:=fun a b c=>rfl
 have d0:(0 < 3)=True:=by simp
 have d1:(1 < 3)=True:=by simp
 have hloop:Md (fun r=>∃ E nl,r=(.exit 0,⟨E,[.box [.pv .ma],nI ss.isEmpty (Oo ss),.tok 2 ss.length nl]⟩)∧E.get 2= .ptr 0 0∧E.get 3= .ptr 1 0)
  (gb (fa (ta (Ca (fun _=>none) 8) tf) (ga 3 [1,2,3,4])) oa ⟨WW [S] 0,[.box [.pv .ma],nI true [],.tok 2 0 true]⟩):=by
  refine wa (yb (g:=fa (ta (Ca (fun _=>none) 8) tf) (ga 3 [1,2,3,4]))
   (fun i t=>t=⟨WW [S] i,[.box [.pv .ma],nI (ss.take i).isEmpty (Oo (ss.take i)),.tok 2 i (ss.take i).isEmpty]⟩)
   ss.length (by unfold oa;omega) _ rfl ?_ ?_) (fun r h=>h.2)
  ·rintro i t hi rfl
   obtain⟨P,ps,hP,a1⟩:=hS.Uc hi
   have hcs:=QE hP (hz.parts _ (List.getElem_mem hi))
   have hnext:ss.take (i+1)=ss.take i++[ss[i]]:=by simp
   have hie:(ss.take (i+1)).isEmpty=false:=by rw[hnext];cases ss.take i <;> rfl
   have hcl:Oo (ss.take (i+1))=Oo (ss.take i)++[vJ ss[i]]:=by rw[hnext,Oo,List.map_append];rfl
   have hcn:(Oo (ss.take i)).length=i:=by rw[Oo,List.length_map,List.length_take];omega
   have hep:vJ ss[i]= .agg [XV ss[i].parts,i64 ss[i].first]:=rfl
   rw[hep] at hcl hcs
   have hLN:∀ st:St,st=⟨WW [S] (i+1:Nat),[.box [.pv .ma],nI false (Oo (ss.take (i+1))),.tok 2 (i+1) false]⟩→
    LN (fun i t=>t=⟨WW [S] i,[.box [.pv .ma],nI (ss.take i).isEmpty (Oo (ss.take i)),.tok 2 i (ss.take i).isEmpty]⟩)
     (fun r=>∃ E nl,r=(.exit 0,⟨E,[.box [.pv .ma],nI ss.isEmpty (Oo ss),.tok 2 ss.length nl]⟩)∧E.get 2= .ptr 0 0∧E.get 3= .ptr 1 0) i (.norm,st):=by
    intro st h
    show st=_
    rw[h,hie]
   generalize LN _ _ i=QQ at hLN ⊢
   have hpo:(AV.pv (XV ss[i].parts)).one=true:=by unfold XV;split <;> rfl
   generalize XV ss[i].parts=pv at *
   generalize ss[i].first=fi at *
   generalize (ss.take i).isEmpty=nl at *
   have hap2:Zb [.box [.pv .ma],nI nl (Oo (ss.take i)),.tok 2 i nl] false .uq 2 true 32 (.uq 2 nl 2 (Oo (ss.take i))) (.pv (.lit 2 [.agg [pv,i64 fi]]))=some (.uq 2 false 2 (Oo (ss.take (i+1))),[.box [.pv .ma],nI nl (Oo (ss.take i)),.tok 2 (i+1) false]):=by
    have:=Fg (A:=[.box [.pv .ma],nI nl (Oo (ss.take i)),.tok 2 i nl]) (id:=2) (n:=i) (sz:=2) (h:= .uq) (nl:=nl) (ag:=true) (bytes:=32) (es:=Oo (ss.take i)) rfl hcn.symm (by unfold xb;omega) (.agg [pv,i64 fi])
    rw[this,hcl];rfl
   have e1:decide ((i:Int) < (ss.length:Int))=true:=Ga (by omega)
   have t2:IntKind.i64.wrap ((i:Int)+1)=((i+1:Nat):Int):=Da (by omega)
   generalize Oo (ss.take i)=o at *
   generalize Oo (ss.take (i+1))=o' at *
   have pl:∀ c,place [.box [.pv .ma],nI nl o,c] 0 (.ptr 1 0)=some (.ptr 1 0):=fun c=>rfl
   have ld:∀ c,ya [.box [.pv .ma],nI nl o,c] false 1 (.ptr 1 0)=some (.uq 2 nl 2 o):=fun c=>rfl
   have st:∀ c,Ma [.box [.pv .ma],nI nl o,c] 1 (.ptr 1 0) (.uq 2 false 2 o')=some [.box [.pv .ma],nI false o',c]:=fun c=>rfl
   have hc3':=hc3 false o' (i+1)
   simp -implicitDefEqProofs only[SP,WP,na,sevalprocAttr,tf,Tb,Na,Oe,ln,e1,t2,a1,hcs,pl,ld,st,hap2,hpo,hc3',htk3,d0,d1,Ai,AV.uC,AV.Xo,ga,za,AV.cut,qa,WW]
   exact hLN _ rfl
  ·rintro t rfl
   rw[List.take_length]
   have e1:decide ((ss.length:Int) < (ss.length:Int))=false:=Ia (by omega)
   generalize Oo ss=o
   generalize ss.isEmpty=nl
   generalize hQ:(fun r:Ex×St=>r.1.stop=true∧_)=Q
   simp -implicitDefEqProofs only[SP,WP,na,sevalprocAttr,tf,Tb,Na,ln,e1,WW]
   subst hQ
   exact⟨rfl,_,nl,rfl,by simp[Tr.aa],by simp[Tr.aa]⟩
 have st0:Ma [.box [.pv .ma],.box [.pv .ma]] 1 (.ptr 1 0) (.pv (.agg [.ma]))=some [.box [.pv .ma],.box [.pv .ma]]:=rfl
 have g1:(0 < 2)=True:=by simp
 have hc30:=hc3 true [] 0
 have ld1:∀ nl out c,ya [.box [.pv .ma],nI nl out,c] true 1 (.ptr 1 0)=some (.agg [.uq 2 nl 2 out]):=fun nl out c=>rfl
 have st1:∀ nl out b c,Ma [.box [.pv .ma],b,c] 1 (.ptr 0 0) (.agg [.uq 2 nl 2 out])=some [nI nl out,b,c]:=fun nl out b c=>rfl
 have ld2:∀ nl out b c,ya [nI nl out,b,c] true 1 (.ptr 0 0)=some (.agg [.uq 2 nl 2 out]):=fun nl out b c=>rfl
 apply Xj
 unfold UW
 generalize Oo ss=o at *
 generalize ss.isEmpty=em at *
 simp -implicitDefEqProofs only[zi,SP,WP,na,sevalprocAttr,ik,hS1,Tb,Na,st0,Ke,g1,qb,hc30,htk3,d0,d1,ga,za,AV.cut,qa]
 refine wa hloop ?_
 rintro r ⟨E,nl,rfl,k2,k3⟩
 cases em <;> simp -implicitDefEqProofs only[SP,WP,na,sevalprocAttr,k2,k3,ld1,st1,ld2]
theorem KQ {ls:List (List (Int×Int))} (hl:ls.length≤maxLen) (h:∀ l∈ls,l.length * 16≤140737488355328):cf (XV ls) ls (jA ls):=by
 refine⟨?_,by simp[jA],?_,hl⟩
 ·cases ls with
  |nil=>exact .inl ⟨rfl,rfl⟩
  |cons a r=>exact .inr rfl
 ·intro k v l hv hl
  rw[jA,List.getElem?_map,hl] at hv
  simp at hv;subst hv
  exact⟨.inr rfl,h l (List.mem_of_getElem? hl)⟩
theorem eM {S:PV} {ss:List Yb} {es:List PV} (hS:Xa S ss es):Xa (UW ss) ss (Oo ss):=by
 refine⟨?_,by simp[Oo],?_,hS.sz⟩
 ·cases ss with
  |nil=>exact .inl ⟨rfl,rfl⟩
  |cons a r=>exact .inr rfl
 ·intro k e s he hs
  rw[Oo,List.getElem?_map,hs] at he
  simp at he;subst he
  obtain⟨i,hi⟩:=List.getElem_of_mem (List.mem_of_getElem? hs)
  obtain⟨hk,hks⟩:=List.getElem?_eq_some_iff.1 hs
  obtain⟨e',P,ps,_,_,hP⟩:=hS.get hk
  rw[hks] at hP
  exact⟨XV s.parts,jA s.parts,rfl,KQ hP.parts.sz (hS.zX s (List.mem_of_getElem? hs))⟩
end Go.AM.B1
namespace Go.AM.B1
open Go.AM Go.AM.So
attribute [local irreducible] Md
abbrev tX (a b:PV) (i:Int):Tr:=((Tr.lf.set 5 (.pv (i64 i))).set 1 (.pv b)).set 0 (.pv a)
theorem vU (p:Int×Int):Zi (.row [1,1]) (.agg [i64 p.1,i64 p.2]) (.agg [i64 p.1,i64 p.2])=some true:=by
 simp[Zi,dh,Jn]
theorem JP {v w:PV} {l:List (Int×Int)} (hv:Th 2 v (Ld l)) (hw:Th 2 w (Ld l)) (hz:l.length * 16≤140737488355328):yi [v,w]=some (.bool true):=by
 have lv:=hv.len
 have lw:=hw.len
 simp only[Ld,List.length_map] at lv lw
 have hloop:Md (fun r=>∃ E,r=(.exit 0,⟨E,[]⟩))
  (gb (fa (ta (Ca (fun _=>none) 8) yf) (ga 0 [0,1,5])) oa ⟨tX v w 0,[]⟩):=by
  refine wa (yb (g:=fa (ta (Ca (fun _=>none) 8) yf) (ga 0 [0,1,5]))
   (fun i t=>t=⟨tX v w i,[]⟩) l.length (by unfold oa;omega) _ rfl ?_ ?_) (fun r h=>h.2)
  ·rintro i t hi rfl
   have e1:decide ((i:Int) < (l.length:Int))=true:=Ga (by omega)
   have t2:=Ua hi (show l.length≤maxLen by unfold maxLen;omega)
   have a1:=fun H=>Sj H hi
   have h1:=hv.lit (i:=i) (by simpa using hi)
   have h2:=hw.lit (i:=i) (by simpa using hi)
   subst h1
   rw[h2] at lw ⊢
   have heq:=vU l[i]
   generalize Ld l=es at *
   generalize l[i]=p at *
   generalize hQ:LN _ _ i=Q
   simp -implicitDefEqProofs only[SX,sevalprocAttr,yf,lv,lw,e1,t2,a1,Oe,heq,ga,za,AV.cut,qa,tX]
   subst hQ
   rfl
  ·rintro t rfl
   have e1:decide ((l.length:Int) < (l.length:Int))=false:=Ia (by omega)
   generalize hQ:(fun r:Ex×St=>r.1.stop=true∧_)=Q
   simp -implicitDefEqProofs only[SX,sevalprocAttr,yf,lv,lw,e1,tX]
   subst hQ
   exact⟨rfl,_,rfl⟩
 have b1:((l.length:Int) != (l.length:Int))=false:=by simp
 apply Xj
 simp -implicitDefEqProofs only[yi,SX,sevalprocAttr,Wj,lv,lw,b1,qb,ga,za,AV.cut,qa]
 refine wa hloop ?_
 rintro r ⟨E,rfl⟩
 simp -implicitDefEqProofs only[SX,sevalprocAttr]
abbrev ZV (a b:List PV) (i:Int):Tr:=((Tr.lf.set 5 (.pv (i64 i))).set 3 (.pv (.rp b 0))).set 2 (.pv (.rp a 0))
theorem sF {a b:PV} {s:Yb} {P Q:PV} {ps qs:List PV} (ha:Me a s P ps) (hb:Me b s Q qs):cg [a,b]=some (.bool true):=by
 obtain⟨rfl,hP⟩:=ha
 obtain⟨rfl,hQ⟩:=hb
 have hP1:(AV.pv P).one=true:=by rcases hP.is with⟨h,_⟩ | h <;> rw[h] <;> rfl
 have hQ1:(AV.pv Q).one=true:=by rcases hQ.is with⟨h,_⟩ | h <;> rw[h] <;> rfl
 have lP:=hP.Sb
 have lQ:=hQ.Sb
 have hsz:=hP.sz
 have hloop:Md (fun r=>∃ E,r=(.exit 0,⟨E,[]⟩))
  (gb (fa (ta (Ca (fun _=>none) 8) Qd) (ga 0 [2,3,5])) oa ⟨ZV [P,i64 s.first] [Q,i64 s.first] 0,[]⟩):=by
  refine wa (yb (g:=fa (ta (Ca (fun _=>none) 8) Qd) (ga 0 [2,3,5]))
   (fun i t=>t=⟨ZV [P,i64 s.first] [Q,i64 s.first] i,[]⟩) s.parts.length (by unfold oa;unfold maxLen at hsz;omega) _ rfl ?_ ?_) (fun r h=>h.2)
  ·rintro i t hi rfl
   obtain⟨v,hv,hpv,_⟩:=hP.Uc hi []
   obtain⟨w,hw,hpw,_⟩:=hQ.Uc hi []
   have a1:=hP.Su hv
   have a2:=hQ.Su hw
   have hsm:=JP hpv.is hpw.is hpv.sz
   have e1:decide ((i:Int) < (s.parts.length:Int))=true:=Ga (by omega)
   have t2:=Ua hi hsz
   generalize hQ:LN _ _ i=QQ
   simp -implicitDefEqProofs only[SX,sevalprocAttr,Qd,xc,Qc,Na,lP,lQ,e1,t2,a1,a2,hsm,ga,za,AV.cut,qa,ZV]
   subst hQ
   rfl
  ·rintro t rfl
   have e1:decide ((s.parts.length:Int) < (s.parts.length:Int))=false:=Ia (by omega)
   generalize hQ:(fun r:Ex×St=>r.1.stop=true∧_)=QQ
   simp -implicitDefEqProofs only[SX,sevalprocAttr,Qd,xc,Qc,lP,lQ,e1,ZV]
   subst hQ
   exact⟨rfl,_,rfl⟩
 have b1:((s.parts.length:Int) != (s.parts.length:Int))=false:=by simp
 have b2:(s.first != s.first)=false:=by simp
 apply Xj
 simp -implicitDefEqProofs only[cg,SX,sevalprocAttr,Uh,hP1,hQ1,xc,Wh,Qc,Oh,lP,lQ,b1,b2,qb,ga,za,AV.cut,qa]
 refine wa hloop ?_
 rintro r ⟨E,rfl⟩
 simp -implicitDefEqProofs only[SX,sevalprocAttr]
theorem pG {A B:PV} {ss:List Yb} {ea eb:List PV} (hA:Xa A ss ea) (hB:Xa B ss eb):Dg [.agg [A],.agg [B]]=some (.bool true):=by
 have hA1:(AV.pv A).one=true:=by rcases hA.is with⟨h,_⟩ | h <;> rw[h] <;> rfl
 have hB1:(AV.pv B).one=true:=by rcases hB.is with⟨h,_⟩ | h <;> rw[h] <;> rfl
 have lA:=hA.Sb
 have lB:=hB.Sb
 have hsz:=hA.sz
 have hloop:Md (fun r=>∃ E,r=(.exit 0,⟨E,[]⟩))
  (gb (fa (ta (Ca (fun _=>none) 8) xf) (ga 0 [2,3,5])) oa ⟨ZV [A] [B] 0,[]⟩):=by
  refine wa (yb (g:=fa (ta (Ca (fun _=>none) 8) xf) (ga 0 [2,3,5]))
   (fun i t=>t=⟨ZV [A] [B] i,[]⟩) ss.length (by unfold oa;unfold maxLen at hsz;omega) _ rfl ?_ ?_) (fun r h=>h.2)
  ·rintro i t hi rfl
   obtain⟨P,ps,hP,a1⟩:=hA.Uc hi
   obtain⟨Q,qs,hQ,a2⟩:=hB.Uc hi
   have hsm:=sF hP hQ
   have e1:decide ((i:Int) < (ss.length:Int))=true:=Ga (by omega)
   have t2:=Ua hi hsz
   generalize hQ:LN _ _ i=QQ
   simp -implicitDefEqProofs only[SX,sevalprocAttr,xf,Tb,Na,Oe,lA,lB,e1,t2,a1,a2,hsm,ga,za,AV.cut,qa,ZV]
   subst hQ
   rfl
  ·rintro t rfl
   have e1:decide ((ss.length:Int) < (ss.length:Int))=false:=Ia (by omega)
   generalize hQ:(fun r:Ex×St=>r.1.stop=true∧_)=QQ
   simp -implicitDefEqProofs only[SX,sevalprocAttr,xf,Tb,Na,lA,lB,e1,ZV]
   subst hQ
   exact⟨rfl,_,rfl⟩
 have b1:((ss.length:Int) != (ss.length:Int))=false:=by simp
 apply Xj
 simp -implicitDefEqProofs only[Dg,SX,sevalprocAttr,qk,hA1,hB1,Tb,Na,lA,lB,b1,qb,ga,za,AV.cut,qa]
 refine wa hloop ?_
 rintro r ⟨E,rfl⟩
 simp -implicitDefEqProofs only[SX,sevalprocAttr]
end Go.AM.B1
namespace Go.AM.B1
open Go.AM
def mD (l:List (List ve)):Nat→Int→List Int→Int×Int
 |i,_,[]=>(i,2)
 |i,st,b::r=>if (iB l st b).2=false then ((i:Int),3) else if (iB l st b).1= -1 then (((i+1:Nat):Int),1) else mD l (i+1) (iB l st b).1 r
section
variable (call:ab) (A B:PV) (l:List (List ve)) (hA:gk A l) (bs:List Int) (hB:Th 1 B (bs.map u8)) (hb:∀ b∈bs,0≤b∧b≤255) (hw:bs.length≤maxLen)
include hA hB hb hw
end
end Go.AM.B1
namespace Go.AM.B1
open Go.AM
section
variable (A:PV) (l:List (List ve)) (hA:gk A l)
include hA
end
theorem MW (a b:ve):Zi (.row [1,1,1]) (.agg [i64 a.lo,i64 a.hi,i64 a.to]) (.agg [i64 b.lo,i64 b.hi,i64 b.to])=some (decide (a=b)):=by
 obtain⟨a1,a2,a3⟩:=a;obtain⟨b1,b2,b3⟩:=b
 simp only[Zi,dh,Jn,if_true,Option.bind_some,Option.map_some,Bool.and_true,ve.mk.injEq,Bool.decide_and]
 congr 1
def Iw:List ve→List ve→Bool
 |a::l,b::m=>decide (a=b)&&Iw l m
 |_,_=>true
theorem fJ:∀ (l m:List ve),l.length=m.length→Iw l m=decide (l=m)
 | [],[],_=>rfl
 |a::l,b::m,h=>by
  have:=fJ l m (by simpa using h)
  rw[Iw,this]
  simp only[List.cons.injEq,Bool.decide_and]
 | [],_::_,h=>by cases h
 |_::_,[],h=>by cases h
def IE:List (List ve)→List (List ve)→Bool
 |a::l,b::m=>decide (a.length=b.length)&&Iw a b&&IE l m
 |_,_=>true
theorem fK:∀ (l m:List (List ve)),l.length=m.length→IE l m=decide (l=m)
 | [],[],_=>rfl
 |a::l,b::m,h=>by
  have:=fK l m (by simpa using h)
  rw[IE,this]
  by_cases hl:a.length=b.length
  ·rw[fJ a b hl]
   simp only[hl,decide_true,Bool.true_and,List.cons.injEq,Bool.decide_and]
  ·have:a≠b:=fun e=>hl (by rw[e])
   simp[hl,this]
 | [],_::_,h=>by cases h
 |_::_,[],h=>by cases h
abbrev Ky (A B:PV) (i k:Int):Tr:=(((Tr.lf.set 6 (.pv (i64 k))).set 5 (.pv (i64 i))).set 3 (.pv (.rp [B] 0))).set 2 (.pv (.rp [A] 0))
abbrev Ol (A B:PV) (i:Int):Tr:=((Tr.lf.set 5 (.pv (i64 i))).set 3 (.pv (.rp [B] 0))).set 2 (.pv (.rp [A] 0))
section
variable (call:ab) (av bs:List PV) (i:Nat) (a b:List ve) (V W:PV) (hia:i < av.length) (hib:i < bs.length) (hV:av[i]? =some V) (hW:bs[i]? =some W) (hVL:Th 3 V (a.map Yt)) (hWL:Th 3 W (b.map Yt)) (hw:a.length≤maxLen)
include hia hV hVL
theorem OS:Pb call [2,3,5,6] pc 0 ⟨Ky (.lit 1 av) (.lit 1 bs) i a.length,[]⟩=
 some (.exit 2,⟨((((((((Ky (.lit 1 av) (.lit 1 bs) i a.length).set 34 (.pv (i64 a.length))).set 35 (.pv (.rp [.lit 1 av] 0))).set 36 (.pv (.lit 1 av))).set 37 (.pv (i64 i))).set 38 (.pv (.rp [V] 0))).set 39 (.pv V)).set 40 (.pv (i64 a.length))).set 41 (.pv (.bool false)),[]⟩):=by
 have e1:decide ((a.length:Int) < (a.length:Int))=false:=Ia (by omega)
 have hq:Fa (i:Int) av.length:=by unfold Fa;omega
 have t1:((i:Int)).toNat=i:=by simp
 have ls:=hVL.len []
 simp only[List.length_map] at ls
 rcases hVL.form with rfl | ⟨vs,rfl⟩ <;>
 simp -implicitDefEqProofs only[SP,SA,SQ,sevalprocAttr,Pb,fa,pc,e1,ls,eq_true hq,t1,hV,ua,Ky]
include hib hW hWL hw
theorem qU (k:Nat) (hk:k < a.length) (hkb:k < b.length):
 (a[k]=b[k]→Pb call [2,3,5,6] pc 0 ⟨Ky (.lit 1 av) (.lit 1 bs) i k,[]⟩=some (.norm,⟨Ky (.lit 1 av) (.lit 1 bs) i (k+1:Nat),[]⟩))∧
 (¬ a[k]=b[k]→gD 4 (.pv (.bool false)) (Pb call [2,3,5,6] pc 0 ⟨Ky (.lit 1 av) (.lit 1 bs) i k,[]⟩)):=by
 have hVl:=hVL.lit (i:=k) (by simpa using hk)
 have hWl:=hWL.lit (i:=k) (by simpa using hkb)
 subst hVl hWl
 have e1:decide ((k:Int) < (a.length:Int))=true:=Ga (by omega)
 have hq:Fa (i:Int) av.length:=by unfold Fa;omega
 have hq2:Fa (i:Int) bs.length:=by unfold Fa;omega
 have hq3:Fa (k:Int) a.length:=by unfold Fa;omega
 have hq4:Fa (k:Int) b.length:=by unfold Fa;omega
 have t1:((i:Int)).toNat=i:=by simp
 have t2:((k:Int)).toNat=k:=by simp
 have t3:=Ua hk hw
 have g1:(a.map Yt)[k]? =some (.agg [i64 a[k].lo,i64 a[k].hi,i64 a[k].to]):=KI hk
 have g2:(b.map Yt)[k]? =some (.agg [i64 b[k].lo,i64 b[k].hi,i64 b[k].to]):=KI hkb
 have l1:(a.map Yt).length=a.length:=by simp
 have l2:(b.map Yt).length=b.length:=by simp
 have he:=MW a[k] b[k]
 generalize a.map Yt=vs at *
 generalize b.map Yt=ws at *
 generalize a[k]=x at *
 generalize b[k]=y at *
 constructor
 ·intro h
  rw[Ga h] at he
  simp -implicitDefEqProofs only[SP,SA,SQ,sevalprocAttr,Pb,fa,pc,e1,eq_true hq,eq_true hq2,eq_true hq3,eq_true hq4,t1,t2,t3,g1,g2,l1,l2,hV,hW,he,ua,Ky,ga,za,Ba,AV.cut,Xb]
 ·intro h
  rw[Ia h] at he
  simp -implicitDefEqProofs only[SP,SA,SQ,sevalprocAttr,Pb,fa,pc,e1,eq_true hq,eq_true hq2,eq_true hq3,eq_true hq4,t1,t2,t3,g1,g2,l1,l2,hV,hW,he,ua,Ky,yn]
theorem HE (hab:a.length=b.length):∃ ex t,gb (fa (ta call pc) (ga 0 [2,3,5,6])) oa ⟨Ky (.lit 1 av) (.lit 1 bs) i 0,[]⟩=some (ex,t)∧ex.stop=true∧
 ((Iw a b=true∧ex= .exit 2∧t=⟨((((((((Ky (.lit 1 av) (.lit 1 bs) i a.length).set 34 (.pv (i64 a.length))).set 35 (.pv (.rp [.lit 1 av] 0))).set 36 (.pv (.lit 1 av))).set 37 (.pv (i64 i))).set 38 (.pv (.rp [V] 0))).set 39 (.pv V)).set 40 (.pv (i64 a.length))).set 41 (.pv (.bool false)),[]⟩)∨
  (Iw a b=false∧ex= .ret∧t.env.get 4= .pv (.bool false))):=by
 have key:=zK (g:=Pb call [2,3,5,6] pc 0)
  (fun k (_:Unit)=>⟨Ky (.lit 1 av) (.lit 1 bs) i k,[]⟩) (fun k _=>Iw (a.drop k) (b.drop k)) (fun _ _=>True)
  (fun r ex t=>(r=true∧ex= .exit 2∧t=⟨((((((((Ky (.lit 1 av) (.lit 1 bs) i a.length).set 34 (.pv (i64 a.length))).set 35 (.pv (.rp [.lit 1 av] 0))).set 36 (.pv (.lit 1 av))).set 37 (.pv (i64 i))).set 38 (.pv (.rp [V] 0))).set 39 (.pv V)).set 40 (.pv (i64 a.length))).set 41 (.pv (.bool false)),[]⟩)∨
   (r=false∧ex= .ret∧t.env.get 4= .pv (.bool false)))
  a.length (by unfold oa;unfold maxLen at hw;omega) () trivial ?_ ?_
 ·exact key
 ·rintro k hk _ _
  obtain⟨r1,r2⟩:=qU call av bs i a b V W hia hib hV hW hVL hWL hw k hk (by omega)
  have hd1:a.drop k=a[k]::a.drop (k+1):=List.drop_eq_getElem_cons hk
  have hd2:b.drop k=b[k]::b.drop (k+1):=List.drop_eq_getElem_cons (by omega)
  simp only[hd1,hd2,Iw]
  by_cases h:a[k]=b[k]
  ·rw[Ga h,Bool.true_and]
   exact .inl ⟨(),r1 h,rfl,trivial⟩
  ·obtain⟨t,k1,k2⟩:=Pu (r2 h)
   rw[Ia h,Bool.false_and]
   exact .inr ⟨.ret,t,k1,rfl,.inr ⟨rfl,rfl,k2⟩⟩
 ·rintro _ _
  rw[List.drop_length]
  refine⟨.exit 2,_,OS call av bs i a V hia hV hVL,rfl,.inl ⟨by cases b.drop a.length <;> rfl,rfl,rfl⟩⟩
end
end Go.AM.B1
namespace Go.AM.B1
open Go.AM
section
variable (A B:PV) (l m:List (List ve)) (hA:gk A l) (hB:gk B m)
include hA hB
theorem aL (call:ab) (i:Nat) (hi:i < l.length) (him:i < m.length):
 (l[i].length=m[i].length→Iw l[i] m[i]=true→Pb call [2,3,5] Ub 0 ⟨Ol A B i,[]⟩=some (.norm,⟨Ol A B (i+1:Nat),[]⟩))∧
 (l[i].length=m[i].length→Iw l[i] m[i]=false→gD 4 (.pv (.bool false)) (Pb call [2,3,5] Ub 0 ⟨Ol A B i,[]⟩))∧
 (¬ l[i].length=m[i].length→gD 4 (.pv (.bool false)) (Pb call [2,3,5] Ub 0 ⟨Ol A B i,[]⟩)):=by
 obtain⟨av,V,rfl,hel,hV,hVL⟩:=hA.get hi
 obtain⟨bv,W,rfl,hel2,hW,hWL⟩:=hB.get him
 have hll:=hA.len
 have hla:=hA.lens l[i] (List.getElem_mem hi)
 generalize l[i]=a at *
 generalize m[i]=b at *
 have e1:decide ((i:Int) < (l.length:Int))=true:=Ga (by omega)
 have hq:Fa (i:Int) l.length:=by unfold Fa;omega
 have hq2:Fa (i:Int) m.length:=by unfold Fa;omega
 have t1:((i:Int)).toNat=i:=by simp
 have t3:=Ua hi (by unfold maxLen;omega)
 have ls:=hVL.len
 have ls2:=hWL.len
 simp only[List.length_map] at ls ls2
 refine⟨?_,?_,?_⟩
 ·intro h1 h2
  have b1:((a.length:Int)==(b.length:Int))=true:=by simp[h1]
  obtain⟨ex,t,hl,_,hq5⟩:=HE call av bv i a b V W (by omega) (by omega) hV hW hVL hWL (by unfold maxLen;omega) h1
  simp only[Ky] at hl
  rcases hq5 with⟨_,rfl,rfl⟩ | ⟨h3,_,_⟩
  ·rcases hVL.form with rfl | ⟨vs,rfl⟩ <;> rcases hWL.form with rfl | ⟨ws,rfl⟩ <;>
   ·simp -implicitDefEqProofs only[SP,SA,SQ,sevalprocAttr,Pb,fa,Ub,e1,hel,hel2,eq_true hq,eq_true hq2,t1,hV,hW,ls,ls2,bne,b1,ua,qb,Ol,ga,za,Ba,AV.cut,Xb]
    rw[hl]
    simp -implicitDefEqProofs only[SP,SA,SQ,sevalprocAttr,t3,Ky,ga,za,Ba,AV.cut,Xb]
  ·rw[h2] at h3;cases h3
 ·intro h1 h2
  have b1:((a.length:Int)==(b.length:Int))=true:=by simp[h1]
  obtain⟨ex,t,hl,_,hq5⟩:=HE call av bv i a b V W (by omega) (by omega) hV hW hVL hWL (by unfold maxLen;omega) h1
  simp only[Ky] at hl
  rcases hq5 with⟨h3,_,_⟩ | ⟨_,rfl,h4⟩
  ·rw[h2] at h3;cases h3
  ·rcases hVL.form with rfl | ⟨vs,rfl⟩ <;> rcases hWL.form with rfl | ⟨ws,rfl⟩ <;>
   ·simp -implicitDefEqProofs only[SP,SA,SQ,sevalprocAttr,Pb,fa,Ub,e1,hel,hel2,eq_true hq,eq_true hq2,t1,hV,hW,ls,ls2,bne,b1,ua,qb,Ol,ga,za,Ba,AV.cut,Xb]
    rw[hl]
    simp -implicitDefEqProofs only[SP,SA,SQ,sevalprocAttr,yn,h4]
 ·intro h1
  have b1:((a.length:Int)==(b.length:Int))=false:=uh (by omega)
  have hne:¬(V= .ma∧W= .ma):=by
   rintro⟨rfl,rfl⟩
   have k1:=ls []
   have k2:=ls2 []
   simp only[fA,Option.some.injEq] at k1 k2
   omega
  rcases hVL.form with rfl | ⟨vs,rfl⟩ <;> rcases hWL.form with rfl | ⟨ws,rfl⟩ <;>
  first
  |exact absurd ⟨rfl,rfl⟩ hne
  |simp -implicitDefEqProofs only[SP,SA,SQ,sevalprocAttr,Pb,fa,Ub,e1,hel,hel2,eq_true hq,eq_true hq2,t1,hV,hW,ls,ls2,bne,b1,ua,Ol,yn]
theorem oL:gf [.agg [A],.agg [B]]=some (.bool (decide (l=m))):=by
 have hla:=hA.Sb
 have hlb:=hB.Sb
 have hll:=hA.len
 by_cases hlm:l.length=m.length
 ·rw[← fK l m hlm]
  have key:=zK (g:=Pb (Ca (fun _=>none) 8) [2,3,5] Ub 0)
   (fun i (_:Unit)=>⟨Ol A B i,[]⟩) (fun i _=>IE (l.drop i) (m.drop i)) (fun _ _=>True)
   (fun r ex t=>(r=true∧ex= .exit 0)∨(r=false∧ex= .ret∧t.env.get 4= .pv (.bool false)))
   l.length (by unfold oa;omega) () trivial ?_ ?_
  ·obtain⟨ex,⟨E,H⟩,h,_,hq⟩:=key
   have h':gb (fa (ta (Ca (fun _=>none) 8) Ub) (ga 0 [2,3,5])) oa ⟨Ol A B 0,[]⟩=some (ex,⟨E,H⟩):=h
   simp only[Ol] at h'
   rw[List.drop_zero,List.drop_zero] at hq
   generalize IE l m=r at *
   have b1:((l.length:Int)==(m.length:Int))=true:=by simp[hlm]
   rcases hq with⟨rfl,rfl⟩ | ⟨rfl,rfl,g⟩
   ·rcases hA.form with rfl | ⟨av,rfl⟩ <;> rcases hB.form with rfl | ⟨bv,rfl⟩ <;>
    ·simp -implicitDefEqProofs only[gf,SP,SA,SQ,sevalprocAttr,yg,hla,hlb,bne,b1,qb,ga,za,Ba,AV.cut,Xb]
     rw[h']
     simp -implicitDefEqProofs only[SP,SA,SQ,sevalprocAttr]
   ·simp only at g
    rcases hA.form with rfl | ⟨av,rfl⟩ <;> rcases hB.form with rfl | ⟨bv,rfl⟩ <;>
    ·simp -implicitDefEqProofs only[gf,SP,SA,SQ,sevalprocAttr,yg,hla,hlb,bne,b1,qb,ga,za,Ba,AV.cut,Xb]
     rw[h']
     simp -implicitDefEqProofs only[SP,SA,SQ,sevalprocAttr,g]
  ·rintro i hi _ _
   obtain⟨r1,r2,r3⟩:=aL A B l m hA hB (Ca (fun _=>none) 8) i hi (by omega)
   have hd1:l.drop i=l[i]::l.drop (i+1):=List.drop_eq_getElem_cons hi
   have hd2:m.drop i=m[i]::m.drop (i+1):=List.drop_eq_getElem_cons (by omega)
   simp only[hd1,hd2,IE]
   by_cases h1:l[i].length=m[i].length
   ·rw[Ga h1,Bool.true_and]
    cases h2:Iw l[i] m[i] with
    |true=>exact .inl ⟨(),r1 h1 h2,rfl,trivial⟩
    |false=>
     obtain⟨t,k1,k2⟩:=Pu (r2 h1 h2)
     exact .inr ⟨.ret,t,k1,rfl,.inr ⟨rfl,rfl,k2⟩⟩
   ·obtain⟨t,k1,k2⟩:=Pu (r3 h1)
    rw[Ia h1,Bool.false_and,Bool.false_and]
    exact .inr ⟨.ret,t,k1,rfl,.inr ⟨rfl,rfl,k2⟩⟩
  ·rintro _ _
   rw[List.drop_length]
   have e1:decide ((l.length:Int) < (l.length:Int))=false:=Ia (by omega)
   have e2:IE [] (m.drop l.length)=true:=by cases m.drop l.length <;> rfl
   refine⟨.exit 0,⟨(((((Ol A B l.length).set 14 (.pv (i64 l.length))).set 15 (.pv (.rp [A] 0))).set 16 (.pv A)).set 17 (.pv (i64 l.length))).set 18 (.pv (.bool false)),[]⟩,?_,rfl,.inl ⟨e2,rfl⟩⟩
   simp -implicitDefEqProofs only[SP,SA,SQ,sevalprocAttr,Pb,fa,Ub,e1,hla,Ol]
 ·have:l≠m:=fun e=>hlm (by rw[e])
  rw[Ia this]
  have b1:((l.length:Int)==(m.length:Int))=false:=uh (by omega)
  have hne:¬(A= .ma∧B= .ma):=by
   rintro⟨rfl,rfl⟩
   have k1:=hla []
   have k2:=hlb []
   simp only[fA,Option.some.injEq] at k1 k2
   omega
  rcases hA.form with rfl | ⟨av,rfl⟩ <;> rcases hB.form with rfl | ⟨bv,rfl⟩ <;>
  first
  |exact absurd ⟨rfl,rfl⟩ hne
  |simp -implicitDefEqProofs only[gf,SP,SA,SQ,sevalprocAttr,yg,hla,hlb,bne,b1,Xb]
end
end Go.AM.B1
namespace Go.AM.B1
open Go.AM Go.AM.So
theorem mB (row:List Int):∀ (xs:List Nat) (l:List ve),(qe row xs l).length≤l.length+xs.length
 | [],l=>by simp[qe]
 |x::xs,l=>by
  rw[qe]
  have h1:=mB row xs (Lf x (row.getD x 0) l)
  have h2:=xG x (row.getD x 0) l
  simp only[List.length_cons];omega
theorem UL (row:List Int):(Qf row).length≤256:=by
 have:=mB row (List.range 256) []
 simpa[Qf] using this
theorem nD (C:List Int):∀ (k:Nat) (r:List Int×List (List ve)),(rj C k r).2.length≤r.2.length+k∧∀ e∈(rj C k r).2,e∈r.2∨e.length≤256
 |0,r=>⟨by simp[rj],fun e he=> .inl he⟩
 |k+1,r=>by
  cases ho:r.1[r.2.length]? with
  |none=>rw[Aq ho];exact⟨by omega,fun e he=> .inl he⟩
  |some o=>
   rw[gr ho]
   obtain⟨h1,h2⟩:=nD C k ((Vf C o r.1).1,r.2++[Qf (Vf C o r.1).2])
   simp only[List.length_append,List.length_singleton] at h1
   refine⟨by omega,fun e he=> ?_⟩
   rcases h2 e he with h3 | h3
   ·simp only[List.mem_append,List.mem_singleton] at h3
    rcases h3 with h3 | h3
    ·exact .inl h3
    ·refine .inr ?_;rw[h3];exact UL _
   ·exact .inr h3
theorem WO (C:List Int) (k:Nat) (o:List Int):(rj C k (o,[])).2.length≤k∧∀ e∈(rj C k (o,[])).2,e.length≤256:=by
 have h:=nD C k (o,[])
 generalize rj C k (o,[])=r at h ⊢
 refine⟨by simpa using h.1,fun e he=> ?_⟩
 rcases h.2 e he with h | h
 ·cases h
 ·exact h
set_option maxRecDepth 8000 in
theorem yO (C:List Int):(gn C).length≤64∧∀ e∈gn C,e.length≤256:=WO C 64 [0]
theorem Zw {ss:List Yb} {l:List (List ve)} (h:eh ss=some l):l.length≤64∧∀ e∈l,e.length≤256:=by
 unfold eh at h
 rw[Option.map_eq_some_iff] at h
 obtain⟨r,_,rfl⟩:=h
 exact yO _
theorem KK (e:List ve):Th 3 (Vb e) (e.map Yt):=by
 unfold Vb
 cases e with
 |nil=>exact .inl ⟨rfl,rfl⟩
 |cons a r=>exact .inr rfl
theorem Mu {l:List (List ve)} (h1:l.length≤64) (h2:∀ e∈l,e.length≤256):gk (pf l) l:=by
 refine⟨⟨l.map Vb,.inr rfl,by simp,?_⟩,by omega,fun e he=>by have:=h2 e he;omega⟩
 intro i v e hv he
 rw[List.getElem?_map,he] at hv
 simp at hv;subst hv
 exact KK e
theorem NA:gk .ma []:=⟨⟨[],.inl ⟨rfl,rfl⟩,rfl,by simp⟩,by simp,by simp⟩
theorem WK (ss:List Yb):∃ (V:PV) (l:List (List ve)) (n:Int),gk V l∧(n=0↔∃ l',eh ss=some l'∧wc ss∧ch ss∧V=pf l'∧l=l')∧(n≠0→V= .ma)∧
 (∀ (A:PV) (ea:List PV),Xa A ss ea→Cc [.agg [A]]=some (.Jc [.agg [V],i64 n]))∧(∀ (A:PV) (ea:List PV),Xa A ss ea→Za [.agg [A]]=some (.Jc [.agg [V],i64 n])):=by
 by_cases h1:wc ss
 ·by_cases h2:ch ss
  ·cases h3:eh ss with
   |none=>exact⟨.ma,[],130,NA,⟨fun h=>(by cases h),fun ⟨_,h,_⟩=>(by cases h)⟩,fun _=>rfl,fun A ea h=>(Di h).2.2.1 h1 h2 h3,fun A ea h=>(Tn h).2.2.1 h1 h2 h3⟩
   |some l=>
    obtain⟨k1,k2⟩:=Zw h3
    exact⟨pf l,l,0,Mu k1 k2,⟨fun _=>⟨l,rfl,h1,h2,rfl,rfl⟩,fun _=>rfl⟩,fun h=>absurd rfl h,fun A ea h=>(Di h).2.2.2 h1 h2 l h3,fun A ea h=>(Tn h).2.2.2 h1 h2 l h3⟩
  ·exact⟨.ma,[],110,NA,⟨fun h=>(by cases h),fun ⟨_,_,_,h,_⟩=>absurd h h2⟩,fun _=>rfl,fun A ea h=>(Di h).2.1 h1 h2,fun A ea h=>(Tn h).2.1 h1 h2⟩
 ·exact⟨.ma,[],84,NA,⟨fun h=>(by cases h),fun ⟨_,_,h,_⟩=>absurd h h1⟩,fun _=>rfl,fun A ea h=>(Di h).1 h1,fun A ea h=>(Tn h).1 h1⟩
end Go.AM.B1
namespace Go.AM.B1
open Go.AM Go.AM.So
def wo (es:List ve):PV:= .agg ((List.range 256).map fun b=> .int .i8 (Fm es b))
theorem OB {α:Type} {cs vs:List α} (h:vs.length=cs.length):na cs 0 vs=vs:=by
 apply List.ext_getElem?
 intro p
 rw[So.fh]
 by_cases hp:p < cs.length
 ·rw[dif_pos ⟨by omega,by omega,hp⟩];simp
 ·rw[dif_neg (by omega),List.getElem?_eq_none (by omega),List.getElem?_eq_none (by omega)]
theorem setRow_self {α:Type} (cs:List α):na cs 0 cs=cs:=OB rfl
theorem DN:ba.box ((List.replicate 256 (PV.int .i8 0)).map .pv)=b8 fun _=>0:=by
 unfold b8 cellsOf
 rw[List.map_const',List.length_range,List.map_replicate]
theorem QT (n:Nat):(List.replicate n (AV.pv (.int .i8 0))).all AV.one=true:=by
 rw[List.all_eq_true];intro x hx;rw[List.eq_of_mem_replicate hx];rfl
def Kv (o0 o1 o4 o5:ba) (c0 c1 c3 c4 c5:AV) (nl:Bool) (es:List PV):List ba:=[o0,o1,.box [c0,c1,.uq 3 nl 256 es,c3,c4,c5],.tok 256 es.length nl,o4,o5]
section
variable {call:ab} {o0 o1 o4 o5:ba} {c0 c1 c3 c4 c5:AV}
 (hg:∀ nl es,Lg (Kv o0 o1 o4 o5 c0 c1 c3 c4 c5 nl es))
include hg
theorem aS {E:Tr} {V:PV} {l:List (List ve)} {i:Nat} {nl:Bool} {es:List PV} (hV:Th 1 V (l.map Vb)) (hl:l.length≤64) (hle:∀ e∈l,e.length≤256) (Aa:∀ e∈l,qp e) (hi:i < l.length) (he:es.length=i)
 (h8:E.get 8= .ptr 2 0) (h101:E.get 101= .pv V) (h102:E.get 102= .pv (i64 l.length)) (h103:E.get 103= .pv (i64 i)):
 Md (fun r=>∃ E',r=(.norm,⟨E',Kv o0 o1 o4 o5 c0 c1 c3 c4 c5 false (es++[wo l[i]])++[b8 (Fm l[i])]⟩)∧qc [8,101,102] E E'∧E'.get 103= .pv (i64 (i+1:Nat)))
  (ta call oi ⟨E,Kv o0 o1 o4 o5 c0 c1 c3 c4 c5 nl es⟩):=by
 have hV1:=hV.lit (i:=i) (by simpa using hi)
 have hml:=List.getElem_mem hi
 have hie:=Aa _ hml
 have hilen:=hle _ hml
 have hA:=hg nl es
 have hAl:(Kv o0 o1 o4 o5 c0 c1 c3 c4 c5 nl es).length=6:=rfl
 have e1:decide ((i:Int) < (l.length:Int))=true:=Ga (by omega)
 have t1:IntKind.i64.wrap ((i:Int)+1)=((i+1:Nat):Int):=sj (by omega)
 have hvc:(Vb l[i]).cells=[Vb l[i]]:=by unfold Vb;split <;> rfl
 have a1:ua (Kv o0 o1 o4 o5 c0 c1 c3 c4 c5 nl es) 1 (.pv V) (i:Int)=some (.pv (.rp [Vb l[i]] 0)):=by
  rw[hV1]
  simp only[ua]
  rw[if_pos ⟨trivial,by unfold Fa;rw[List.length_map];omega⟩,Int.toNat_natCast,List.getElem?_map,List.getElem?_eq_getElem hi,Option.map_some,Option.map_some,hvc]
 have hL:=KK l[i]
 have lL:=hL.len
 rw[List.length_map] at lL
 have hclr:=fun (E2:Tr) (q8:E2.get 8= .ptr 2 0) (q12:E2.get 12= .pv (Vb l[i])) (q13:E2.get 13= .ptr 6 0) (q101:E2.get 101= .pv V) (q102:E2.get 102= .pv (i64 l.length)) (q103:E2.get 103= .pv (i64 i)) (q108:E2.get 108= .pv (i64 0))=>
  YR (call:=call) hA (g0:=fun _=>0) (tb:=2) (by rw[hAl];omega) q8 q12 q13 q101 q102 q103 q108
 have hedg:=fun (E2:Tr) (q8:E2.get 8= .ptr 2 0) (q13:E2.get 13= .ptr 6 0) (q101:E2.get 101= .pv V) (q102:E2.get 102= .pv (i64 l.length)) (q103:E2.get 103= .pv (i64 i)) (q114:E2.get 114= .pv (Vb l[i])) (q115:E2.get 115= .pv (i64 l[i].length)) (q116:E2.get 116= .pv (i64 0))=>
  pT (call:=call) hA (tb:=2) hie hL hilen (by rw[hAl];omega) q8 q13 q101 q102 q103 q114 q115 q116
 generalize l[i]=ed at *
 have s0:Ma (Kv o0 o1 o4 o5 c0 c1 c3 c4 c5 nl es++[b8 fun _=>0]) 256 (.ptr 6 0) (.pv (.agg (List.replicate 256 (PV.int .i8 0))))=some (Kv o0 o1 o4 o5 c0 c1 c3 c4 c5 nl es++[b8 fun _=>0]):=by
  have hq:=Cj (Kv o0 o1 o4 o5 c0 c1 c3 c4 c5 nl es) (b8 fun _=>0)
  have hs:=Sn (Kv o0 o1 o4 o5 c0 c1 c3 c4 c5 nl es) (b8 fun _=>0) (b8 fun _=>0)
  rw[hAl] at hq hs
  simp only[Ma,hq,AV.cells,PV.cells,List.length_map,List.length_replicate,List.map_replicate]
  rw[if_pos ⟨trivial,QT 256⟩]
  rw[← DN,List.map_replicate] at hs ⊢
  simp only[List.length_replicate]
  rw[if_pos (by omega),setRow_self,hs]
 generalize hA1:Kv o0 o1 o4 o5 c0 c1 c3 c4 c5 nl es++[b8 fun _=>0]=A1 at *
 have hbz:Kv o0 o1 o4 o5 c0 c1 c3 c4 c5 nl es++[ba.box ((List.replicate 256 (PV.int .i8 0)).map .pv)]=A1:=by rw[DN];exact hA1
 have hap:=So.ff (List.replicate 256 (PV.int .i8 0))
 rw[List.map_replicate] at hap hbz
 generalize hA0:Kv o0 o1 o4 o5 c0 c1 c3 c4 c5 nl es=A0 at *
 generalize hQ:(fun r:Ex×St=>∃ E',r=_∧_)=Q
 simp -implicitDefEqProofs only[SX,sevalprocAttr,-List.reduceReplicate,oi,h8,h101,h102,h103,e1,a1,Na,hap,hAl,hbz,s0,List.map_replicate]
 generalize hEE:(Tr.set _ 108 _:Tr)=E2
 have k2:qc [8,101,102,103] E E2:=by
  rw[← hEE]
  repeat refine qc.set ?_ rfl
  exact qc.refl _ _
 have q12:E2.get 12= .pv (Vb ed):=by rw[← hEE];simp[Tr.aa,-List.reduceReplicate]
 have q13:E2.get 13= .ptr 6 0:=by rw[← hEE];simp[Tr.aa,-List.reduceReplicate]
 have q108:E2.get 108= .pv (i64 0):=by rw[← hEE];simp[Tr.aa,-List.reduceReplicate]
 refine wa (hclr E2 ((k2 8 (by simp)).trans h8) q12 q13 ((k2 101 (by simp)).trans h101) ((k2 102 (by simp)).trans h102) ((k2 103 (by simp)).trans h103) q108) ?_
 rintro r ⟨_,E3,rfl,k3⟩
 have k3:qc [8,12,13,101,102,103] E2 E3:=k3
 have z12:=(k3 12 (by simp)).trans q12
 simp -implicitDefEqProofs only[SX,sevalprocAttr,-List.reduceReplicate,z12,lL]
 generalize hEE4:(Tr.set _ 116 _:Tr)=E4
 have k4:qc [8,101,102,103] E E4:=by
  rw[← hEE4]
  repeat refine qc.set ?_ rfl
  exact k2.trans (qc.sub k3 rfl)
 have q13:E4.get 13= .ptr 6 0:=by rw[← hEE4];simp[Tr.aa];exact (k3 13 (by simp)).trans q13
 have q114:E4.get 114= .pv (Vb ed):=by rw[← hEE4];simp[Tr.aa]
 have q115:E4.get 115= .pv (i64 ed.length):=by rw[← hEE4];simp[Tr.aa]
 have q116:E4.get 116= .pv (i64 0):=by rw[← hEE4];simp[Tr.aa]
 refine wa (hedg E4 ((k4 8 (by simp)).trans h8) q13 ((k4 101 (by simp)).trans h101) ((k4 102 (by simp)).trans h102) ((k4 103 (by simp)).trans h103) q114 q115 q116) ?_
 rintro r ⟨_,E5,rfl,k5⟩
 have k5:qc [8,13,101,102,103] E4 E5:=k5
 have k5':qc [8,101,102,103] E E5:=k4.trans (qc.sub k5 rfl)
 have z8:=(k5' 8 (by simp)).trans h8
 have z103:=(k5' 103 (by simp)).trans h103
 have z13:=(k5 13 (by simp)).trans q13
 have p2:∀ d,place (A0++[b8 (Fm ed)]) d (.ptr 2 0)=some (.ptr 2 (0+d)):=fun d=>Gg (by rw[← hA0];rfl) d 0
 have l2:ya (A0++[b8 (Fm ed)]) false 1 (.ptr 2 2)=some (.uq 3 nl 256 es):=by rw[← hA0];rfl
 have l13:ya (A0++[b8 (Fm ed)]) true 256 (.ptr 6 0)=some (.pv (wo ed)):=by
  have hgt:(A0++[b8 (Fm ed)])[6]? =some (b8 (Fm ed)):=by rw[← hA0];rfl
  have hl:(cellsOf 256 fun b=>AV.pv (.int .i8 (Fm ed b))).length=256:=pg _ _
  have:cellsOf 256 (fun b=>AV.pv (.int .i8 (Fm ed b)))=((List.range 256).map fun b=>PV.int .i8 (Fm ed b)).map .pv:=by rw[cellsOf,List.map_map];rfl
  rw[ya,hgt]
  show oh true 256 (cellsOf 256 fun b=>AV.pv (.int .i8 (Fm ed b))) 0=_
  rw[oh,if_pos rfl,if_pos (by rw[hl];exact Nat.le_refl _),List.drop_zero,List.take_of_length_le (by rw[hl];exact Nat.le_refl _),this,Ar,So.ff];rfl
 have hap2:Zb (A0++[b8 (Fm ed)]) false .uq 256 true 256 (.uq 3 nl 256 es) (.pv (.lit 256 [wo ed]))=some (.uq 3 false 256 (es++[wo ed]),[o0,o1,.box [c0,c1,.uq 3 nl 256 es,c3,c4,c5],.tok 256 (es.length+1) false,o4,o5,b8 (Fm ed)]):=by
  rw[← hA0]
  simp only[Zb,Kv,nf,List.cons_append,List.nil_append,List.getElem?_cons_succ,List.getElem?_cons_zero,if_true,Option.bind_some,List.length_cons,List.length_nil]
  rw[if_neg (by simp)]
  rw[if_pos ⟨trivial,trivial,trivial,by unfold xb;omega⟩]
  simp
 have p3:∀ d,place [o0,o1,.box [c0,c1,.uq 3 nl 256 es,c3,c4,c5],.tok 256 (es.length+1) false,o4,o5,b8 (Fm ed)] d (.ptr 2 0)=some (.ptr 2 (0+d)):=fun d=>Gg rfl d 0
 have s3:Ma [o0,o1,.box [c0,c1,.uq 3 nl 256 es,c3,c4,c5],.tok 256 (es.length+1) false,o4,o5,b8 (Fm ed)] 1 (.ptr 2 2) (.uq 3 false 256 (es++[wo ed]))=some (Kv o0 o1 o4 o5 c0 c1 c3 c4 c5 false (es++[wo ed])++[b8 (Fm ed)]):=by
  have:(es++[wo ed]).length=es.length+1:=by simp
  unfold Kv
  rw[this];rfl
 obtain⟨N,hN⟩:∃ N,N=(List.range 256).map fun b=>PV.int .i8 (Fm ed b):=⟨_,rfl⟩
 have hNl:N.length=256:=by rw[hN,List.length_map,List.length_range]
 have hNo:(N.map AV.pv).all AV.one=true:=by
  rw[hN,List.all_eq_true];intro x hx
  rw[List.mem_map] at hx;obtain⟨y,hy,rfl⟩:=hx
  rw[List.mem_map] at hy;obtain⟨z,_,rfl⟩:=hy
  rfl
 have hNP:wo ed= .agg N:=by rw[hN];rfl
 rw[hNP] at l13 hap2 s3 hQ
 have m0:(PV.agg N).cells=N:=rfl
 have m1:na (List.map AV.pv (List.replicate 256 (PV.int .i8 0))++[]) 0 (N.map .pv)=N.map .pv:=OB (by rw[List.length_map,List.length_append,List.length_map,List.length_replicate,hNl];rfl)
 have m2:(N.map AV.pv).length=256:=by rw[List.length_map,hNl]
 have m3:=So.ff N
 have m5:(256≤(List.map AV.pv (List.replicate 256 (PV.int .i8 0))++[]).length)=True:=eq_true (by rw[List.length_append,List.length_map,List.length_replicate];exact Nat.le_add_right _ _)
 have m6:List.take 256 N=N:=List.take_of_length_le (by omega)
 clear hN hNP
 simp -implicitDefEqProofs only[SP,WP,na,sevalprocAttr,-List.reduceReplicate,z8,z103,z13,p2,l2,l13,hap2,p3,s3,t1,m0,m1,m2,m3,m5,m6,hNo]
 subst hQ
 refine⟨_,rfl,?_,by simp[Tr.aa]⟩
 repeat refine qc.set ?_ rfl
 exact qc.sub k5' rfl
end
end Go.AM.B1
namespace Go.AM.B1
open Go.AM Go.AM.So
theorem Gu {p:Int×Int} (h0:0≤p.1) (h1:p.1≤p.2):((Cf 0 p).length:Int)=p.2 - p.1+1:=by
 rw[yI h0 h1,List.length_map,List.length_range];omega
theorem Ty {p:Int×Int} (h0:0≤p.1) (h1:p.1≤p.2) {k:Nat} (hk:(k:Int) < p.2 - p.1+1):(Cf 0 p)[k]? =some (p.1+k):=by
 rw[yI h0 h1,List.getElem?_map,List.getElem?_range (by omega)];rfl
theorem iz {top:Int}:∀ {l:List (Int×Int)} {last:Int} (n:Int),Pa top last l=true→Ic n l=n+(Ek l).length
 | [],_,n,_=>by simp[Ic,Ek]
 |p::l,last,n,h=>by
  obtain⟨h1,h2,h3,h4,h5⟩:=ie h
  replace h1:0≤p.1:=by omega
  replace h2:p.1≤p.2:=by omega
  have hl:=Gu h1 h2
  rw[Ic,iz _ h5,Ek,List.length_append]
  omega
theorem Bs {top:Int}:∀ {l:List (Int×Int)} {last:Int} {n x:Int} {k:Nat},Pa top last l=true→(Ek l)[k]? =some x→Gf x n l=(n+k,true)∧0≤x∧x≤top∧last+1 < x
 | [],_,n,x,k,_,hk=>by simp[Ek] at hk
 |p::l,last,n,x,k,h,hk=>by
  obtain⟨h1,h2,h3,h4,h5⟩:=ie h
  replace h1:0≤p.1:=by omega
  replace h2:p.1≤p.2:=by omega
  have hl:=Gu h1 h2
  rw[Ek] at hk
  rcases Nat.lt_or_ge k (Cf 0 p).length with hlt | hge
  ·rw[List.getElem?_append_left hlt,Ty h1 h2 (by omega)] at hk
   injection hk with hk
   subst hk
   rw[Gf,if_neg (by omega),if_pos (by omega)]
   exact⟨by rw[Prod.mk.injEq];exact⟨by omega,rfl⟩,by omega,by omega,by omega⟩
  ·rw[List.getElem?_append_right hge] at hk
   obtain⟨g1,g2,g3,g4⟩:=Bs (n:=n+(p.2 - p.1+1)) h5 hk
   rw[Gf,if_neg (by omega),if_neg (by omega),g1]
   exact⟨by rw[Prod.mk.injEq];exact⟨by omega,rfl⟩,g2,g3,by omega⟩
theorem fu {top:Int}:∀ {l:List (Int×Int)} {last:Int} {n x:Int},Pa top last l=true→(Gf x n l).2=true→∃ k:Nat,(Ek l)[k]? =some x∧(Gf x n l).1=n+k
 | [],_,n,x,_,hk=>by simp[Gf] at hk
 |p::l,last,n,x,h,hk=>by
  obtain⟨h1,h2,h3,h4,h5⟩:=ie h
  replace h1:0≤p.1:=by omega
  replace h2:p.1≤p.2:=by omega
  have hl:=Gu h1 h2
  rw[Gf] at hk ⊢
  by_cases c1:x < p.1
  ·rw[if_pos c1] at hk;cases hk
  ·rw[if_neg c1] at hk ⊢
   by_cases c2:x≤p.2
   ·rw[if_pos c2]
    refine⟨(x - p.1).toNat,?_,by show n+x - p.1=_;omega⟩
    rw[Ek,List.getElem?_append_left (by omega),Ty h1 h2 (by omega)]
    congr 1;omega
   ·rw[if_neg c2] at hk ⊢
    obtain⟨k,g1,g2⟩:=fu h5 hk
    refine⟨(Cf 0 p).length+k,?_,by rw[g2];omega⟩
    rw[Ek,List.getElem?_append_right (by omega),Nat.add_sub_cancel_left];exact g1
end Go.AM.B1
namespace Go.AM.B1
open Go.AM Go.AM.So
theorem sG:∀ (l:List (Int×Int)),Ra AG (Ld l)=some l
 | []=>rfl
 |p::l=>by
  show (AG (pr p)).bind _=_
  have:AG (pr p)=some p:=rfl
  rw[this,Option.bind_some]
  show ((Ra AG (Ld l)).bind fun bs=>some (p::bs))=_
  rw[sG l];rfl
theorem HP {v:PV} {l:List (Int×Int)} (h:Th 2 v (Ld l)):bE v=some l:=by
 rcases h with⟨rfl,h⟩ | rfl
 ·cases l with
  |nil=>rfl
  |cons p l=>cases h
 ·exact sG l
theorem EE {v:PV} {l:List (Int×Int)} (h:Th 2 v (Ld l)) (hv:Pa 255 (-2) l=true) (hlen:l.length≤4611686018427387904):
 Gk [.rp [v] 0,.rp [i64 0] 0]=some ((Ek l).map fun x=>[i64 x]):=by
 have hsm:l.all RG=true:=by
  have:∀ (l:List (Int×Int)) (last:Int),Pa 255 last l=true→l.all RG=true:=by
   intro l
   induction l with
   |nil=>intro _ _;rfl
   |cons p l ih=>
    intro last h
    obtain⟨h1,h2,h3,h4,h5⟩:=ie h
    rw[List.all_cons,ih _ h5,Bool.and_true]
    exact decide_eq_true (by omega)
  exact this l _ hv
 simp only[Gk,HP h,Option.bind_some,hsm,Bool.true_and]
 rw[if_pos (decide_eq_true (by omega)),wU]
theorem yF {v:PV} {l:List (Int×Int)} (hv:um v l) (hp:Bd l):∃ u,Th 2 u (Ld l)∧∀ H,Ca Sg 8 39 [.pv v,.pv (i64 0)] H=some (.Wk 35 [.pv (.rp [u] 0),.pv (.rp [i64 0] 0)],H):=by
 obtain⟨u,q1,q2⟩:=Wx v l hv.is hv.sz
 rw[UM hp.2] at q2
 refine⟨u,q2,fun H=> ?_⟩
 have hu1:(AV.pv u).one=true:=by rcases q2 with⟨h,_⟩ | h <;> rw[h] <;> rfl
 have huc:(AV.pv u).cells=[.pv u]:=by rcases q2 with⟨h,_⟩ | h <;> rw[h] <;> rfl
 have c38:Sg 38=some su:=rfl
 rw[Mz Sg 7 39 _ H (f:=gm) rfl]
 simp -implicitDefEqProofs only[SX,sevalprocAttr,gm,su,q1,c38,hu1,huc]
end Go.AM.B1
namespace Go.AM.B1
open Go.AM Go.AM.So
def PW (v:AV) (H:List ba) (es:List PV):Prop:=(es=[]∧v= .pv .ma)∨(∃ tk,es≠[]∧v= .uq tk false 1 es∧H[tk]? =some (.tok 1 es.length false))
theorem uU {x:Int} (h0:0≤x) (h1:x≤255):IntKind.u8.wrap x=x:=by
 unfold IntKind.wrap
 simp[IntKind.signed,IntKind.bits]
 omega
theorem DT {x:Int} (h0:0≤x) (h1:x≤65535):IntKind.u16.wrap x=x:=by
 unfold IntKind.wrap
 simp[IntKind.signed,IntKind.bits]
 omega
theorem vR (call:ab) {e:Tr} {H:List ba} {bx oid m off fl:Nat} {g:Nat→AV} {x:Int} {es:List PV} (h6:e.get 6= .ptr bx 0) (h7:e.get 7= .pv (i64 x)) (hb:H[bx]? =some (.box [.Kc oid m off])) (ho:H[oid]? =some (.seq 258 true (cellsOf m g) fl false))
 (hoff:off+258≤m) (hx0:0≤x) (hx1:x≤255) (hB:PW (g off) H es) (hlen:es.length≤255):
 ∃ s' fl' v,fl'≤m∧ta call Tk ⟨e,H⟩=some (.norm,s')∧s'.H[bx]? =some (.box [.Kc oid m off])∧
  s'.H[oid]? =some (.seq 258 true (cellsOf m (qv (qv g off v) (off+1+x.toNat) (.pv (.int .u16 (es.length+1))))) fl' false)∧PW v s'.H (es++[.int .u8 x])∧∀ (j:Nat) c,H[j]? =some (.box c)→s'.H[j]? =some (.box c):=by
 have hbo:bx≠oid:=by intro e;subst e;rw[hb] at ho;cases ho
 have wx:=uU hx0 hx1
 have l6:ya H false 1 (.ptr bx 0)=some (.Kc oid m off):=by simp[ya,hb,oh]
 have lo:=RC (off:=off) ho rfl (by omega)
 have po:∀ d,place H d (.Kc oid m off)=some (.Kc oid m (off+d)):=fun d=>js ho rfl
 have app:∃ v H1,Zb H false .uq 1 false 1 (g off) (.pv (.lit 1 [.int .u8 x]))=some (v,H1)∧PW v H1 (es++[.int .u8 x])∧H1[bx]? =some (.box [.Kc oid m off])∧H1[oid]? =some (.seq 258 true (cellsOf m g) fl false)∧v.cells=[v]∧v.one=true∧(∀ K,Sb K 0 v=some (es.length+1))∧∀ (j:Nat) c,H[j]? =some (.box c)→H1[j]? =some (.box c):=by
  rcases hB with⟨rfl,hg⟩ | ⟨tk,hne,hg,htk⟩
  ·refine⟨.uq H.length false 1 [.int .u8 x],H++[.tok 1 1 false],by rw[hg];simp[Zb,nf,Jo],.inr ⟨H.length,by simp,rfl,by simp⟩,?_,?_,rfl,rfl,fun _=>rfl,fun j c hj=>by rw[getElem?_push (getElem?_lt hj)];exact hj⟩
   ·rw[getElem?_push (getElem?_lt hb)];exact hb
   ·rw[getElem?_push (getElem?_lt ho)];exact ho
  ·have h1:tk≠bx:=by intro e;subst e;rw[hb] at htk;cases htk
   have h2:tk≠oid:=by intro e;subst e;rw[ho] at htk;cases htk
   refine⟨.uq tk false 1 (es++[.int .u8 x]),H.set tk (.tok 1 (es.length+1) false),?_,.inr ⟨tk,by simp,rfl,by rw[List.getElem?_set_self (getElem?_lt htk)];simp⟩,?_,?_,rfl,rfl,fun _=>by simp[Sb],fun j c hj=>by rw[List.getElem?_set_ne (fun e=>by subst e;rw[htk] at hj;cases hj)];exact hj⟩
   ·rw[hg];simp[Zb,nf,htk];omega
   ·rw[List.getElem?_set_ne h1];exact hb
   ·rw[List.getElem?_set_ne h2];exact ho
 obtain⟨v,H1,ha,hB1,hb1,ho1,hv1,hv2,hv3,hbox⟩:=app
 have po1:∀ d,place H1 d (.Kc oid m off)=some (.Kc oid m (off+d)):=fun d=>js ho1 rfl
 have st1:=rA (off:=off) ho1 rfl (by omega) hv1 hv2
 generalize hH2:H1.set oid (.seq 258 true (cellsOf m (qv g off v)) m false)=H2 at st1
 have hb2:H2[bx]? =some (.box [.Kc oid m off]):=by rw[← hH2,List.getElem?_set_ne (Ne.symm hbo)];exact hb1
 have ho2:H2[oid]? =some (.seq 258 true (cellsOf m (qv g off v)) m false):=by rw[← hH2,List.getElem?_set_self (getElem?_lt ho1)]
 have l62:ya H2 false 1 (.ptr bx 0)=some (.Kc oid m off):=by simp[ya,hb2,oh]
 have lo2:=RC (off:=off) ho2 rfl (by omega)
 rw[Mt] at lo2
 have po2:∀ d off',place H2 d (.Kc oid m off')=some (.Kc oid m (off'+d)):=fun d off'=>js ho2 rfl
 have w2:IntKind.u16.wrap ((es.length+1:Nat):Int)=(es.length:Int)+1:=by rw[DT (by omega) (by omega)];omega
 have st2:=rA (off:=off+1+x.toNat) (v:= .pv (.int .u16 ((es.length:Int)+1))) ho2 rfl (by omega) rfl rfl
 have hidx:(0≤x∧x < ((256:Nat):Int))=True:=eq_true (by omega)
 generalize hH3:H2.set oid (.seq 258 true (cellsOf m (qv (qv g off v) (off+1+x.toNat) (.pv (.int .u16 ((es.length:Int)+1))))) m false)=H3 at st2
 have key:Md (fun r=>r.1= .norm∧r.2.H=H3) (ta call Tk ⟨e,H⟩):=by
  clear hB hB1 hb ho hb1 ho1 hb2 ho2 hH2 hH3
  have hsr:na [AV.pv (PV.int .u8 0)] 0 [AV.pv (PV.int .u8 x)]=[AV.pv (PV.int .u8 x)]:=rfl
  have hal:([AV.pv (PV.int .u8 x)].all AV.one=true)=True:=eq_true rfl
  have hfr:fresh H .lit 1 false 1 [AV.pv (PV.int .u8 x)]=some (.pv (.lit 1 [.int .u8 x]),H):=rfl
  generalize hQ:(fun r:Ex×St=>r.1=Ex.norm∧_)=Q
  simp -implicitDefEqProofs only[SX,sevalprocAttr,Tk,h6,h7,l6,lo,po,wx,ha,po1,st1,l62,lo2,po2,hv3,w2,hidx,st2,hsr,hal,hfr]
  subst hQ
  exact⟨rfl,rfl⟩
 obtain⟨⟨ex,s'⟩,h1,h2,h3⟩:=Fc key
 simp only at h2 h3
 subst h2
 refine⟨s',m,v,Nat.le_refl _,h1,?_,?_,?_,fun j c hj=> ?_⟩
 ·rw[h3,←hH3,List.getElem?_set_ne (Ne.symm hbo)];exact hb2
 ·rw[h3,←hH3];exact List.getElem?_set_self (getElem?_lt ho2)
 ·rcases hB1 with h | ⟨tk,q1,q2,q3⟩
  ·exact .inl h
  ·have h4:tk≠oid:=by intro e;subst e;rw[ho1] at q3;cases q3
   refine .inr ⟨tk,q1,q2,?_⟩
   rw[h3,←hH3,List.getElem?_set_ne (Ne.symm h4),←hH2,List.getElem?_set_ne (Ne.symm h4)];exact q3
 ·have hj1:=hbox j c hj
  have hne:oid≠j:=fun e=>by subst e;rw[ho1] at hj1;cases hj1
  rw[h3,←hH3,List.getElem?_set_ne hne,←hH2,List.getElem?_set_ne hne];exact hj1
end Go.AM.B1
namespace Go.AM.B1
open Go.AM Go.AM.So
def YW (x:Int):PV:= .int .u8 x
theorem of_inner (call:ab) {e:Tr} {bx oid m off:Nat} (h6:e.get 6= .ptr bx 0) (hoff:off+258≤m):∀ (xs:List Int) {H:List ba} {fl:Nat} {g:Nat→AV} {es:List PV},H[bx]? =some (.box [.Kc oid m off])→H[oid]? =some (.seq 258 true (cellsOf m g) fl false)→
 (∀ x∈xs,0≤x∧x≤255)→xs.Nodup→PW (g off) H es→es.length+xs.length≤256→
 ∃ H' fl' g',(fl≤m→fl'≤m)∧Lk (fun x H=>ta call Tk ⟨eC [(7,40)] (Ls [40] x e),H⟩) (xs.map fun x=>[i64 x]) H=some (.norm,H')∧H'[bx]? =some (.box [.Kc oid m off])∧H'[oid]? =some (.seq 258 true (cellsOf m g') fl' false)∧
  PW (g' off) H' (es++xs.map YW)∧(∀ j,j≠off→(∀ x∈xs,j≠off+1+x.toNat)→g' j=g j)∧(∀ (k:Nat) x,xs[k]? =some x→g' (off+1+x.toNat)= .pv (.int .u16 ((es.length+k:Nat)+1)))∧∀ (j:Nat) c,H[j]? =some (.box c)→H'[j]? =some (.box c):=by
 intro xs
 induction xs with
 |nil=>
  intro H fl g es hb ho _ _ hB _
  exact⟨H,fl,g,id,rfl,hb,ho,by simpa using hB,fun _ _ _=>rfl,fun k x h=>by simp at h,fun _ _ h=>h⟩
 |cons x xs ih=>
  intro H fl g es hb ho hx hnd hB hlen
  obtain⟨hx0,hx1⟩:=hx x (by simp)
  have hnd':=List.nodup_cons.1 hnd
  have e6:(eC [(7,40)] (Ls [40] [i64 x] e)).get 6= .ptr bx 0:=by simp[eC,Ls,Tr.aa,h6]
  have e7:(eC [(7,40)] (Ls [40] [i64 x] e)).get 7= .pv (i64 x):=by simp[eC,Ls,Tr.aa]
  obtain⟨s',fl',v,q0,q1,q2,q3,q4,q5⟩:=vR call e6 e7 hb ho hoff hx0 hx1 hB (by simp at hlen;omega)
  have hne:off≠off+1+x.toNat:=by omega
  obtain⟨H',fl2,g',r0,r1,r2,r3,r4,r5,r6,r7⟩:=ih (es:=es++[YW x]) q2 q3 (fun y hy=>hx y (by simp[hy])) hnd'.2 (by rw[Du _ _ hne,Mt];exact q4) (by simp at hlen ⊢;omega)
  refine⟨H',fl2,g',fun _=>r0 q0,?_,r2,r3,by simpa using r4,fun j h1 h2=> ?_,fun k y hk=> ?_,fun j c hj=>r7 j c (q5 j c hj)⟩
  ·simp only[List.map_cons,Lk,q1,xB];exact r1
  ·rw[r5 j h1 fun y hy=>h2 y (by simp[hy]),Du _ _ (h2 x (by simp)),Du _ _ h1]
  ·cases k with
   |zero=>
    simp at hk;subst hk
    rw[r5 _ (by omega) (fun y hy e=>by
     have:=(hx y (by simp[hy])).1
     have:y=x:=by omega
     subst this;exact hnd'.1 hy),Mt]
    simp
   |succ k=>
    have:=r6 k y (by simpa using hk)
    rw[this]
    congr 3
    simp;omega
end Go.AM.B1
