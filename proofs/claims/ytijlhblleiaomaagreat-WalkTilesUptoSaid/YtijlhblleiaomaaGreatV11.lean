/- What functions of the program compute. -/
import Derived.Test.YtijlhblleiaomaaGreatV10
import Derived.Test.YtijlhblleiaomaaGreatV9
import Derived.Test.YtijlhblleiaomaaGreatV7
import Derived.Test.YtijlhblleiaomaaGreatV8
set_option linter.unusedVariables false
set_option linter.unusedSimpArgs false
namespace Go.AM.B1
open Go.AM Go.AM.So
theorem EB (ib:List Int):∀ (xs:List Nat) (r:List Int×List Int),zd ib xs r=xs.foldl (fun r x=>Ai x (ib.getD x 0) r) r
 | [],r=>rfl
 |x::xs,r=>by rw[zd,EB ib xs,List.foldl_cons]
theorem Kz (row:List Int):∀ (xs:List Nat) (l:List ze),me row xs l=xs.foldl (fun l (x:Nat)=>Mf x (row.getD x 0) l) l
 | [],l=>rfl
 |x::xs,l=>by rw[me,Kz row xs,List.foldl_cons]
theorem foldl_congr {α β:Type} {f g:β→α→β}:∀ (l:List α) (b:β),(∀ b,∀ a∈l,f b a=g b a)→l.foldl f b=l.foldl g b
 | [],b,_=>rfl
 |a::l,b,h=>by
  rw[List.foldl_cons,List.foldl_cons,h b a (by simp)]
  exact foldl_congr l _ fun b a' ha=>h b a' (by simp[ha])
theorem AL {v:Int} {co:Nat→Int} {p:Nat→Bool}:∀ (O:List Nat) (k:Nat),(∀ o∈O,(v=co o↔p o=true))→
 Rt v (O.map co) k=if O.findIdx p < O.length then some (k+O.findIdx p) else none
 | [],k,_=>by simp[Rt]
 |o::O,k,h=>by
  rw[List.map_cons,Rt,List.findIdx_cons]
  have ho:=h o (by simp)
  by_cases hp:p o=true
  ·rw[if_pos (ho.2 hp),hp];simp
  ·have hp':p o=false:=by simpa using hp
   rw[if_neg fun e=>hp (ho.1 e),hp',AL O (k+1) fun o' ho'=>h o' (by simp[ho'])]
   simp only[cond_false,List.length_cons]
   by_cases hlt:O.findIdx p < O.length
   ·rw[if_pos hlt,if_pos (by omega)];congr 1;omega
   ·rw[if_neg hlt,if_neg (by omega)]
def co (C:List (List Int)) (o:Nat):Int:=if o=0 then 0 else cls C o
section
variable {ss:List Lb} {sets:List Al} {C:List (List Int)} (Ba:Tb ss) (hpre:xg ss) (W:ml ss sets C) (hl:C.length=sets.length)
 {f:Nat→Nat→Bool} (hf:∀ a,f a a=false) (hK:∀ i j,i < C.length→j < C.length→(f i j=false↔cls C i=cls C j))
include Ba hpre W hl hf hK
omit hf hK in
theorem PO {t:Nat} (h0:0 < t) (ht:t < C.length):cls C t≠0:=by
 intro h
 have h1:=(W.Iy hl).Vo ht
 have h2:(Re C.length C.flatten).uc.getD t 0=0:=h
 rw[h2] at h1
 exact W.MB Ba hpre hl h0 ht (((W.Iy hl).OK (by omega) ht).2 h1.2.2)
omit Ba hpre hf hK in
theorem bI {o x:Nat} (ho:o < C.length) (hx:x < 256):(Xa (Re C.length C.flatten).C (co C o).toNat).getD x 0=qq C o x:=by
 rw[← W.bQ hl ho hx]
 unfold co
 by_cases h:o=0
 ·rw[if_pos h,h];rfl
 ·rw[if_neg h]
  have:=((W.Iy hl).Vo ho).2.2
  unfold cls
  rw[this]
omit hf in
theorem QN {O:List Nat} (hO:Fw C.length O) {t:Nat} (h0:0 < t) (ht:t < C.length):Rt (cls C t) (O.map (co C)) 0=if O.findIdx (fun o=> !f o t) < O.length then some (O.findIdx (fun o=> !f o t)) else none:=by
 rw[AL (p:=fun o=> !f o t)]
 ·simp
 ·intro o ho
  have hoC:=hO.lt o ho
  unfold co
  by_cases hz:o=0
  ·subst hz
   rw[if_pos rfl]
   constructor
   ·intro h;exact absurd h (PO Ba hpre W hl h0 ht)
   ·intro h
    have:f 0 t=false:=by simpa using h
    exact absurd ((hK 0 t (by omega) ht).1 this) (W.MB Ba hpre hl h0 ht)
  ·rw[if_neg hz]
   have:=hK o t hoC ht
   constructor
   ·intro h;have:=this.2 h.symm;simp[this]
   ·intro h;exact (this.1 (by simpa using h)).symm
structure qX (C:List (List Int)) (o:Nat) (x:Nat) (rt:List Int×List Int) (rr:List Nat×List ze):Prop where
 ord:Fw C.length rr.1
 fst:rt.1=rr.1.map (co C)
 len:rt.2.length=256
 rest:∀ y,x≤y→y < 256→rt.2.getD y 0=qq C o y
 OX:rr.2=(List.range x).foldl (fun l (y:Nat)=>Mf y (rt.2.getD y 0) l) []
theorem cS {o x:Nat} (ho:o < C.length) (hx:x < 256) {rt:List Int×List Int} {rr:List Nat×List ze} (h:qX C o x rt rr):qX C o (x+1) (Ai x (qq C o x) rt) (Om C f o rr x):=by
 have hbd:=W.bound hl ho hx
 have hcur:=h.rest x (Nat.le_refl _) hx
 have hkeep:∀ (row:List Int) (l:List ze),(∀ y,y≠x→row.getD y 0=rt.2.getD y 0)→l=Mf x (row.getD x 0) rr.2→l=(List.range (x+1)).foldl (fun l (y:Nat)=>Mf y (row.getD y 0) l) []:=by
  intro row l h1 h2
  rw[List.range_succ,List.foldl_append,h2,h.OX]
  show Mf x _ _=Mf x _ _
  congr 1
  refine foldl_congr _ _ fun b a ha=> ?_
  have:a < x:=by simpa using ha
  rw[h1 a (by omega)]
 by_cases hneg:vg C o x < 0
 ·have hn:qq C o x=vg C o x:=by unfold qq;rw[if_neg (by omega)]
  have ht:Ai x (qq C o x) rt=rt:=by unfold Ai;rw[if_pos (by omega)]
  rw[ht]
  have hr1:(Om C f o rr x).1=rr.1:=by
   unfold Om Cf
   split
   ·rfl
   ·first | rfl | rw[if_pos hneg]
  have hr2:(Om C f o rr x).2=Mf x (rt.2.getD x 0) rr.2:=by
   rw[hcur,hn]
   unfold Om Cf
   split
   ·next h2=>rw[h2,Fy]
   ·first | rfl | rw[if_pos hneg]
  exact⟨by rw[hr1];exact h.ord,by rw[hr1];exact h.fst,h.len,fun y h1 h2=>h.rest y (by omega) h2,hkeep _ _ (fun _ _=>rfl) hr2⟩
 ·obtain⟨t,ht⟩:∃ t:Nat,vg C o x=t:=⟨(vg C o x).toNat,by omega⟩
  have hdeep:=W.RA hl ho hx (by omega)
  have h0:0 < t:=by omega
  have htC:t < C.length:=by omega
  have hn:qq C o x=cls C t:=by unfold qq;rw[if_pos (by omega),ht,Int.toNat_natCast]
  have hnn:=W.OL hl htC
  have hsc:=QN Ba hpre W hl hK h.ord h0 htC
  have hrf:Om C f o rr x=(if rr.1.findIdx (fun o=> !f o t)=rr.1.length then rr.1++[t] else rr.1,Mf x (rr.1.findIdx (fun o=> !f o t):Int) rr.2):=by
   unfold Om Cf
   rw[if_neg (by omega),if_neg hneg,ht,Int.toNat_natCast]
  have hoC:=(oD hf h.ord (to:=(t:Int)) (by omega)).1
  have hcl:(Cf f rr.1 (t:Int)).1=if rr.1.findIdx (fun o=> !f o t)=rr.1.length then rr.1++[t] else rr.1:=by
   unfold Cf
   rw[if_neg (by omega),Int.toNat_natCast]
  rw[hcl] at hoC
  have hle:rr.1.findIdx (fun o=> !f o t)≤rr.1.length:=List.findIdx_le_length
  rw[hrf]
  have hset:∀ v:Int,(∀ y,y≠x→(rt.2.set x v).getD y 0=rt.2.getD y 0)∧(rt.2.set x v).getD x 0=v:=by
   intro v
   refine⟨fun y hy=> ?_,?_⟩
   ·rw[List.getD_eq_getElem?_getD,List.getElem?_set_ne (Ne.symm hy),←List.getD_eq_getElem?_getD]
   ·rw[List.getD_eq_getElem?_getD,List.getElem?_set_self (by rw[h.len];exact hx)];rfl
  by_cases hlt:rr.1.findIdx (fun o=> !f o t) < rr.1.length
  ·rw[if_pos hlt] at hsc
   have htd:Ai x (qq C o x) rt=(rt.1,rt.2.set x (rr.1.findIdx (fun o=> !f o t):Int)):=by
    unfold Ai
    rw[hn,if_neg (by omega),h.fst,hsc]
   rw[htd,if_neg (by omega)]
   refine⟨h.ord,h.fst,by simp[h.len],fun y h1 h2=> ?_,?_⟩
   ·rw[(hset _).1 y (by omega)];exact h.rest y (by omega) h2
   ·exact hkeep _ _ (hset _).1 (by rw[(hset _).2])
  ·rw[if_neg hlt] at hsc
   have hfe:rr.1.findIdx (fun o=> !f o t)=rr.1.length:=by omega
   have htd:Ai x (qq C o x) rt=(rt.1++[cls C t],rt.2.set x (rt.1.length:Int)):=by
    unfold Ai
    rw[hn,if_neg (by omega),h.fst,hsc]
   rw[if_pos hfe] at hoC
   rw[htd,if_pos hfe]
   have hll:rt.1.length=rr.1.length:=by rw[h.fst,List.length_map]
   refine⟨hoC,?_,by simp[h.len],fun y h1 h2=> ?_,?_⟩
   ·simp only[List.map_append,List.map_cons,List.map_nil,h.fst]
    unfold co
    rw[if_neg (by omega:¬t=0)]
   ·rw[(hset _).1 y (by omega)];exact h.rest y (by omega) h2
   ·exact hkeep _ _ (hset _).1 (by rw[(hset _).2,hll,hfe])
theorem XU {o:Nat} (ho:o < C.length) {O:List Nat} (hO:Fw C.length O):dg (Re C.length C.flatten).C (co C o) (O.map (co C))=((kg C f o O 256).1.map (co C),(dg (Re C.length C.flatten).C (co C o) (O.map (co C))).2)∧
 Qf (dg (Re C.length C.flatten).C (co C o) (O.map (co C))).2=(kg C f o O 256).2∧Fw C.length (kg C f o O 256).1:=by
 have hrl:(Xa (Re C.length C.flatten).C (co C o).toNat).length=256:=by
  refine Ih (W.Iy hl).hC ?_
  unfold co
  split
  ·simp;omega
  ·have:=(W.Iy hl).Vo ho
   unfold cls;omega
 have key:∀ x,x≤256→qX C o x ((List.range x).foldl (fun r x=>Ai x ((Xa (Re C.length C.flatten).C (co C o).toNat).getD x 0) r) (O.map (co C),Xa (Re C.length C.flatten).C (co C o).toNat)) (kg C f o O x):=by
  intro x
  induction x with
  |zero=>
   intro _
   exact⟨hO,rfl,hrl,fun y _ hy=>bI W hl ho hy,rfl⟩
  |succ x ih=>
   intro hx
   have h1:=cS Ba hpre W hl hf hK ho (show x < 256 by omega) (ih (by omega))
   rw[Ay,List.range_succ,List.foldl_append]
   have h2:(Xa (Re C.length C.flatten).C (co C o).toNat).getD x 0=qq C o x:=bI W hl ho (by omega)
   show qX C o (x+1) (Ai x ((Xa (Re C.length C.flatten).C (co C o).toNat).getD x 0) _) _
   rw[h2]
   exact h1
 have h:=key 256 (Nat.le_refl _)
 unfold dg
 rw[EB]
 refine⟨?_,?_,h.ord⟩
 ·rw[← h.fst]
 ·rw[Qf,Kz];exact h.OX.symm
theorem YO:∀ (k:Nat) (O:List Nat) (out:List (List ze)),Fw C.length O→rj (Re C.length C.flatten).C k (O.map (co C),out)=((Pp C f k (O,out)).1.map (co C),(Pp C f k (O,out)).2)
 |0,O,out,_=>rfl
 |k+1,O,out,hO=>by
  cases ho:O[out.length]? with
  |none=>
   have h1:(O.map (co C))[out.length]? =none:=by rw[List.getElem?_map,ho];rfl
   rw[Uq h1,eH (r:=(O,out)) ho]
  |some o=>
   have h1:(O.map (co C))[out.length]? =some (co C o):=by rw[List.getElem?_map,ho];rfl
   have hoC:=hO.lt o (List.mem_of_getElem? ho)
   obtain⟨q1,q2,q3⟩:=XU Ba hpre W hl hf hK hoC hO
   rw[Mr (r:=(O.map (co C),out)) h1,fF (r:=(O,out)) ho,q2]
   have q4:(dg (Re C.length C.flatten).C (co C o) (O.map (co C))).1=(kg C f o O 256).1.map (co C):=by rw[q1]
   simp only[q4]
   exact YO k _ _ q3
theorem FT (hn:0 < C.length):Dn (Re C.length C.flatten).C=(Pp C f 64 ([0],[])).2:=by
 have h:=YO Ba hpre W hl hf hK 64 [0] [] ⟨by simp,by simp;exact hn⟩
 have h0:([0]:List Nat).map (co C)=[0]:=rfl
 unfold Dn
 rw[← h0,h]
end
end Go.AM.B1
namespace Go.AM.B1
open Go.AM Go.AM.So
attribute [local irreducible] Gd
section
variable (call:Wa) {C:List (List Int)} (hC:gJ C) (hge:∀ r∈C,∀ v∈r,-2≤v) {f:Nat→Nat→Bool} (hf:∀ a,f a a=false)
include hC hge hf
theorem fV (hn:0 < C.length) (o0:ba) (h0:∀ n,na n o0=some o0):
 Gd (fun r=>∃ E O,r=(.exit 0,⟨E,[o0,.tok 1 O false,Ny (Pp C f 64 ([0],[])).2.isEmpty (GC (Pp C f 64 ([0],[])).2),.tok 1 (Pp C f 64 ([0],[])).2.length (Pp C f 64 ([0],[])).2.isEmpty]⟩)∧E.get 2= .ptr 0 0∧E.get 11= .ptr 2 0∧0 < (Pp C f 64 ([0],[])).2.length)
  (ab (ga (ua call Pc) (fa 4 [2,7,9,10,11,12])) qa ⟨EY (.lit 256 (C.map ei)) (Nj C.length f) (ints [0]) 0,[o0,.tok 1 1 false,Ny true (GC []),.tok 1 0 true]⟩):=by
 have hsz:=hC.sz
 refine za (Qq (g:=ga (ua call Pc) (fa 4 [2,7,9,10,11,12]))
  (fun k t=>∃ (O:List Nat) (out:List (List ze)),t=⟨EY (.lit 256 (C.map ei)) (Nj C.length f) (ints O) out.length,[o0,.tok 1 O.length false,Ny out.isEmpty (GC out),.tok 1 out.length out.isEmpty]⟩∧k+out.length=64∧Fw C.length O∧0 < O.length∧out.length≤O.length∧Pp C f 64 ([0],[])=Pp C f k (O,out))
  qa 64 _ (by unfold qa;omega) ⟨[0],[],rfl,rfl,⟨by simp,by simp;exact hn⟩,by simp,by simp,rfl⟩ ?_) (fun r h=>h.2)
 rintro k t ⟨O,out,rfl,hk,hO,hpos,hle,hs⟩
 have hOl:=hO.len
 cases ho:O[out.length]? with
 |some o=>
  have hlt:=(List.getElem?_eq_some_iff.1 ho).1
  obtain⟨k',rfl⟩:∃ k',k=k'+1:=⟨k - 1,by omega⟩
  have hoC:=hO.lt o (List.mem_of_getElem? ho)
  obtain⟨q1,⟨t,q2⟩,_⟩:=wA hC hf hoC hO 256 (Nat.le_refl _)
  refine za (NC call hC hge hf o0 h0 hO ho) ?_
  rintro r rfl
  have hie:(out++[(kg C f o O 256).2]).isEmpty=false:=by cases out <;> rfl
  have hlo:(out++[(kg C f o O 256).2]).length=out.length+1:=by simp
  refine⟨k',by omega,(kg C f o O 256).1,out++[(kg C f o O 256).2],by rw[hie,hlo],by rw[hlo];omega,q1,?_,?_,?_⟩
  ·rw[q2,List.length_append];omega
  ·rw[hlo,q2,List.length_append];omega
  ·rw[hs,fF (r:=(O,out)) ho]
 |none=>
  have hge2:O.length≤out.length:=by
   rcases Nat.lt_or_ge out.length O.length with h | h
   ·rw[List.getElem?_eq_getElem h] at ho;cases ho
   ·exact h
  rw[eH (r:=(O,out)) ho] at hs
  rw[hs]
  have e1:decide ((out.length:Int) < (O.length:Int))=false:=Ga (by omega)
  have hlO:(ints O).length=O.length:=by rw[List.length_map]
  have hgen:Gd (fun r=>∃ E,r=(.exit 0,⟨E,[o0,.tok 1 O.length false,Ny out.isEmpty (GC out),.tok 1 out.length out.isEmpty]⟩)∧E.get 2= .ptr 0 0∧E.get 11= .ptr 2 0)
   (ga (ua call Pc) (fa 4 [2,7,9,10,11,12]) ⟨EY (.lit 256 (C.map ei)) (Nj C.length f) (ints O) out.length,[o0,.tok 1 O.length false,Ny out.isEmpty (GC out),.tok 1 out.length out.isEmpty]⟩):=by
   generalize hQ:(fun r:Ex×St=>_)=Q
   generalize (PV.lit 256 (C.map ei))=L at *
   generalize Nj C.length f=M at *
   generalize hos:ints O=os at *
   generalize Ny out.isEmpty (GC out)=ob at *
   simp -implicitDefEqProofs only[SX,sevalprocAttr,-List.reduceReplicate,Pc,hlO,e1,EY]
   subst hQ
   exact⟨_,rfl,by simp[Tr.aa],by simp[Tr.aa]⟩
  refine za hgen ?_
  rintro r ⟨E,rfl,k2,k11⟩
  exact⟨E,O.length,rfl,k2,k11,by show 0 < out.length;omega⟩
end
theorem Wn {S:PV} {ss:List Lb} {es:List PV} (hS:eb S ss es):
 (¬ Tb ss→Za [.agg [S]]=some (.mc [.agg [.ma],i64 84]))∧
 (Tb ss→¬xg ss→Za [.agg [S]]=some (.mc [.agg [.ma],i64 110]))∧
 (Tb ss→xg ss→sg ss=none→Za [.agg [S]]=some (.mc [.agg [.ma],i64 130]))∧
 (Tb ss→xg ss→∀ l,sg ss=some l→Za [.agg [S]]=some (.mc [.agg [qj l],i64 0])):=by
 have hS1:(AV.pv S).one=true:=by rcases hS.is with⟨h,_⟩ | h <;> rw[h] <;> rfl
 have hp:=ZC hS
 have st0:∀ (a:PV),Oa [.box [.pv .ma]] 1 (.ptr 0 0) (.pv (.agg [.ma]))=some [.box [.pv .ma]]:=fun a=>rfl
 have ld0:xa [.box [.pv .ma]] true 1 (.ptr 0 0)=some (.pv (.agg [.ma])):=rfl
 refine⟨?_,?_,?_,?_⟩
 ·intro h
  have h1:=hp.1 h
  have b1:((84:Int) != 0)=true:=by decide
  simp -implicitDefEqProofs only[Za,SX,sevalprocAttr,-List.reduceReplicate,We,hS1,zc,h1,b1,st0 .ma,ld0]
 ·intro Ba hpre
  obtain⟨b,h1,hb⟩:=hp.2 Ba
  have:b=false:=by cases b with | false=>rfl | true=>exact absurd (hb.1 rfl) hpre
  subst this
  have b1:((0:Int) != 0)=false:=by decide
  simp -implicitDefEqProofs only[Za,SX,sevalprocAttr,-List.reduceReplicate,We,hS1,zc,h1,b1,st0 .ma,ld0]
 ·intro Ba hpre hau
  obtain⟨b,h1,hb⟩:=hp.2 Ba
  have:=hb.2 hpre
  subst this
  have hn:Ig ss 64 (Jg ss,[])=none:=by unfold sg at hau;simpa using hau
  have h2:=(JJ hS Ba).2 hn
  have b1:((0:Int) != 0)=false:=by decide
  simp -implicitDefEqProofs only[Za,SX,sevalprocAttr,-List.reduceReplicate,We,hS1,zc,h1,h2,b1,st0 .ma,ld0]
 ·intro Ba hpre l hau
  obtain⟨b,h1,hb⟩:=hp.2 Ba
  have:=hb.2 hpre
  subst this
  obtain⟨p,hn,hl⟩:∃ r,Ig ss 64 (Jg ss,[])=some r∧Dn (Re r.2.length r.2.flatten).C=l:=by
   unfold sg at hau;simpa using hau
  obtain⟨h2,_⟩:=(JJ hS Ba).1 p hn
  obtain⟨W,hlen⟩:=tG Ba.len Ba.ne hn
  have hpos:0 < p.2.length:=by
   have:=(List.getElem?_eq_some_iff.1 W.first).1
   omega
  obtain⟨f,hK,h3⟩:=eS (W.Pf hlen) hpos (W.aZ hlen)
  have hff:∀ a,f a a=false:=fun a=>by
   cases h:f a a with
   |false=>rfl
   |true=>exact absurd rfl (hK.snd a a h)
  have hfk:=W.known hlen hK
  have htr:=FT Ba hpre W hlen hff hfk hpos
  have hl0:=fV (Ea (fun _=>none) 8) (W.Pf hlen) (W.ge hlen) hff hpos (.box [.pv .ma]) (fun n=>rfl)
  rw[htr] at hl
  rw[hl] at hl0
  have b1:((0:Int) != 0)=false:=by decide
  have hi0:ints [0]=[i64 0]:=rfl
  have ho0:GC []=[]:=rfl
  rw[hi0,ho0] at hl0
  have key:Gd (fun r=>r=PV.mc [.agg [qj l],i64 0]) (Za [.agg [S]]):=by
   have hes:qj l= .lit 1 (GC l):=rfl
   have hne:0 < l.length→l.isEmpty=false:=fun h=>by cases l with | nil=>simp at h | cons=>rfl
   have g1:(0 < 1)=True:=by simp
   have st1:Oa [.box [.pv .ma],.tok 1 1 false,.box [.pv .ma]] 1 (.ptr 2 0) (.pv (.agg [.ma]))=some [.box [.pv .ma],.tok 1 1 false,.box [.pv .ma]]:=rfl
   have hc4:Ra (na 4) [.box [.pv .ma],.tok 1 1 false,Ny true [],.tok 1 0 true]=some [.box [.pv .ma],.tok 1 1 false,Ny true [],.tok 1 0 true]:=rfl
   have htk:∀ a b c d:ba,([a,b,c,d]:List ba).take 4=[a,b,c,d]:=fun a b c d=>rfl
   have d40:(0 < 4)=True:=by simp
   have d41:(1 < 4)=True:=by simp
   have d42:(2 < 4)=True:=by simp
   generalize hQQ:(fun r:PV=>_)=QQ
   generalize (PV.lit 256 (p.2.map ei))=L at *
   generalize hM:Nj p.2.length f=M at *
   have hMo:(AV.pv M).one=true:=by rw[← hM];rfl
   generalize p.1.map Ue=se at *
   simp -implicitDefEqProofs only[Za,SP,WP,oa,sevalprocAttr,-List.reduceReplicate,We,hS1,zc,h1,h2,h3,b1,st1,Be,g1,si,AV.CC,AV.Ip,xb,hc4,htk,d40,d41,d42,fa,Aa,AV.cut,pa]
   refine za hl0 ?_
   rintro r ⟨E,O,rfl,k2,k11,hpos2⟩
   rw[hne hpos2]
   have ld1:∀ (out:List PV) (a b:ba),xa [.box [.pv .ma],a,Ny false out,b] true 1 (.ptr 2 0)=some (.agg [.uq 3 false 1 out]):=fun out a b=>rfl
   have st2:∀ (out:List PV) (a b c:ba),Oa [.box [.pv .ma],a,b,c] 1 (.ptr 0 0) (.agg [.uq 3 false 1 out])=some [Ny false out,a,b,c]:=fun out a b c=>rfl
   have ld2:∀ (out:List PV) (a b c:ba),xa [Ny false out,a,b,c] true 1 (.ptr 0 0)=some (.agg [.uq 3 false 1 out]):=fun out a b c=>rfl
   generalize GC l=out at *
   simp -implicitDefEqProofs only[SP,WP,oa,sevalprocAttr,-List.reduceReplicate,k2,k11,ld1,st2,ld2]
   subst hQQ
   rw[hes]
  exact Yk key
end Go.AM.B1
namespace Go.AM.B1
open Go.AM Go.AM.So
attribute [local irreducible] Gd
structure AE (ss:List Lb):Prop where
 len:ss.length * 32≤140737488355328
 parts:∀ s∈ss,s.parts.length * 24≤140737488355328
def MA (ls:List (List (Int×Int))):List PV:=ls.map oe
def JX (ls:List (List (Int×Int))):PV:=if ls.isEmpty then .ma else .lit 1 (MA ls)
def WJ (s:Lb):PV:= .agg [JX s.parts,i64 s.first]
def Zo (ss:List Lb):List PV:=ss.map WJ
def oZ (ss:List Lb):PV:=if ss.isEmpty then .ma else .lit 2 (Zo ss)
abbrev RY (row:List PV) (i:Int):Tr:=(((Tr.lf.set 4 (.pv (i64 i))).set 3 (.ptr 1 0)).set 2 (.ptr 0 0)).set 1 (.pv (.rp row 0))
abbrev gG (nl:Bool) (out:List PV) (first:Int):ba:= .box [.uq 2 nl 1 out,.pv (i64 first)]
theorem KF {e:PV} {s:Lb} {P:PV} {ps:List PV} (h:pf e s P ps) (hsz:s.parts.length * 24≤140737488355328):eg [e]=some (WJ s):=by
 obtain⟨rfl,hP⟩:=h
 have hP1:(AV.pv P).one=true:=by rcases hP.is with⟨h,_⟩ | h <;> rw[h] <;> rfl
 have ln:=hP.Vb
 have hc3:∀ nl out n,Ra (na 3) [.box [.pv .ma,.pv (i64 0)],gG nl out s.first,.tok 1 n nl]=some [.box [.pv .ma,.pv (i64 0)],gG nl out s.first,.tok 1 n nl]:=fun nl out n=>rfl
 have htk3:∀ a b c d:ba,([a,b,c,d]:List ba).take 3=[a,b,c]:=fun a b c d=>rfl
 have htk3':∀ a b c:ba,([a,b,c]:List ba).take 3=[a,b,c]:=fun a b c=>rfl
 have d0:(0 < 3)=True:=by simp
 have d1:(1 < 3)=True:=by simp
 have hloop:Gd (fun r=>∃ E nl,r=(.exit 0,⟨E,[.box [.pv .ma,.pv (i64 0)],gG s.parts.isEmpty (MA s.parts) s.first,.tok 1 s.parts.length nl]⟩)∧E.get 2= .ptr 0 0∧E.get 3= .ptr 1 0)
  (ab (ga (ua (Ea (fun _=>none) 8) Jd) (fa 3 [1,2,3,4])) qa ⟨RY [P,i64 s.first] 0,[.box [.pv .ma,.pv (i64 0)],gG true [] s.first,.tok 1 0 true]⟩):=by
  refine za (wb (g:=ga (ua (Ea (fun _=>none) 8) Jd) (fa 3 [1,2,3,4]))
   (fun i t=>t=⟨RY [P,i64 s.first] i,[.box [.pv .ma,.pv (i64 0)],gG (s.parts.take i).isEmpty (MA (s.parts.take i)) s.first,.tok 1 i (s.parts.take i).isEmpty]⟩)
   s.parts.length (by unfold qa;omega) _ rfl ?_ ?_) (fun r h=>h.2)
  ·rintro i t hi rfl
   obtain⟨v,hv,hpt,_⟩:=hP.sd hi []
   have a1:=hP.Dw hv
   have hnext:s.parts.take (i+1)=s.parts.take i++[s.parts[i]]:=by simp
   have hie:(s.parts.take (i+1)).isEmpty=false:=by rw[hnext];cases s.parts.take i <;> rfl
   have hcl:MA (s.parts.take (i+1))=MA (s.parts.take i)++[oe s.parts[i]]:=by rw[hnext,MA,List.map_append];rfl
   have hcn:(MA (s.parts.take i)).length=i:=by rw[MA,List.length_map,List.length_take];omega
   have hep:oe s.parts[i]= .lit 2 (Hd s.parts[i]):=rfl
   rw[hep] at hcl
   have hLN:∀ st:St,st=⟨RY [P,i64 s.first] (i+1:Nat),[.box [.pv .ma,.pv (i64 0)],gG false (MA (s.parts.take (i+1))) s.first,.tok 1 (i+1) false]⟩→
    LN (fun i t=>t=⟨RY [P,i64 s.first] i,[.box [.pv .ma,.pv (i64 0)],gG (s.parts.take i).isEmpty (MA (s.parts.take i)) s.first,.tok 1 i (s.parts.take i).isEmpty]⟩)
     (fun r=>∃ E nl,r=(.exit 0,⟨E,[.box [.pv .ma,.pv (i64 0)],gG s.parts.isEmpty (MA s.parts) s.first,.tok 1 s.parts.length nl]⟩)∧E.get 2= .ptr 0 0∧E.get 3= .ptr 1 0) i (.norm,st):=by
    intro st h
    show st=_
    rw[h,hie]
   generalize LN _ _ i=QQ at hLN ⊢
   have hpz:=hpt.sz
   have hpi:=hpt.is
   have hpl:(Hd s.parts[i]).length=s.parts[i].length:=by simp[Hd]
   generalize s.parts[i]=l at *
   generalize (s.parts.take i).isEmpty=nl at *
   have hap1:Yb [.box [.pv .ma,.pv (i64 0)],gG nl (MA (s.parts.take i)) s.first,.tok 1 i nl,.tok 2 0 false] false .uq 2 true 16 (.uq 3 false 2 []) (.pv v)=some (.uq 3 false 2 (Hd l),[.box [.pv .ma,.pv (i64 0)],gG nl (MA (s.parts.take i)) s.first,.tok 1 i nl,.tok 2 l.length false]):=by
    rcases hpi with⟨h1,h2⟩ | h1
    ·have:l.length=0:=by rw[← hpl,h2];rfl
     rw[h1,h2,this];rfl
    ·rw[h1]
     simp only[Yb,Bool.false_eq_true,if_false,List.getElem?_cons_succ,List.getElem?_cons_zero,Kf,if_true,Option.bind_some]
     rw[if_pos ⟨trivial,trivial,rfl,by rw[hpl];unfold qb;simp;exact hpz⟩]
     simp[hpl]
   have hap2:Yb [.box [.pv .ma,.pv (i64 0)],gG nl (MA (s.parts.take i)) s.first,.tok 1 i nl,.tok 2 l.length false] false .uq 1 false 24 (.uq 2 nl 1 (MA (s.parts.take i))) (.pv (.lit 1 [.lit 2 (Hd l)]))=some (.uq 2 false 1 (MA (s.parts.take (i+1))),[.box [.pv .ma,.pv (i64 0)],gG nl (MA (s.parts.take i)) s.first,.tok 1 (i+1) false,.tok 2 l.length false]):=by
    have:=Fh (A:=[.box [.pv .ma,.pv (i64 0)],gG nl (MA (s.parts.take i)) s.first,.tok 1 i nl,.tok 2 l.length false]) (id:=2) (n:=i) (sz:=1) (h:= .uq) (nl:=nl) (ag:=false) (bytes:=24) (es:=MA (s.parts.take i)) rfl hcn.symm (by unfold qb;omega) (.lit 2 (Hd l))
    rw[this,hcl];rfl
   have e1:decide ((i:Int) < (s.parts.length:Int))=true:=Fa (by omega)
   have t2:IntKind.i64.wrap ((i:Int)+1)=((i+1:Nat):Int):=Ca (by omega)
   generalize MA (s.parts.take i)=o at *
   generalize MA (s.parts.take (i+1))=o' at *
   generalize Hd l=es at *
   have pl:∀ c d,place [.box [.pv .ma,.pv (i64 0)],gG nl o s.first,c,d] 0 (.ptr 1 0)=some (.ptr 1 0):=fun c d=>rfl
   have pl':∀ c,place [.box [.pv .ma,.pv (i64 0)],gG nl o s.first,c] 0 (.ptr 1 0)=some (.ptr 1 0):=fun c=>rfl
   have ld:∀ c,xa [.box [.pv .ma,.pv (i64 0)],gG nl o s.first,c] false 1 (.ptr 1 0)=some (.uq 2 nl 1 o):=fun c=>rfl
   have st:∀ c d,Oa [.box [.pv .ma,.pv (i64 0)],gG nl o s.first,c,d] 1 (.ptr 1 0) (.uq 2 false 1 o')=some [.box [.pv .ma,.pv (i64 0)],gG false o' s.first,c,d]:=fun c d=>rfl
   have hc3':=hc3 false o' (i+1)
   simp -implicitDefEqProofs only[SP,WP,oa,sevalprocAttr,Jd,Fc,Bd,ln,e1,t2,a1,Ta,pl,pl',ld,st,hap1,hap2,hc3',htk3,d0,d1,si,AV.CC,AV.Ip,fa,Aa,AV.cut,pa,RY]
   exact hLN _ rfl
  ·rintro t rfl
   rw[List.take_length]
   have e1:decide ((s.parts.length:Int) < (s.parts.length:Int))=false:=Ga (by omega)
   generalize MA s.parts=o
   generalize s.parts.isEmpty=nl
   generalize hQ:(fun r:Ex×St=>r.1.stop=true∧_)=Q
   simp -implicitDefEqProofs only[SP,WP,oa,sevalprocAttr,Jd,Fc,Bd,ln,e1,RY]
   subst hQ
   exact⟨rfl,_,nl,rfl,by simp[Tr.aa],by simp[Tr.aa]⟩
 have st0:Oa [.box [.pv .ma,.pv (i64 0)],.box [.pv .ma,.pv (i64 0)]] 2 (.ptr 1 0) (.pv (.agg [.ma,i64 s.first]))=some [.box [.pv .ma,.pv (i64 0)],.box [.pv .ma,.pv (i64 s.first)]]:=rfl
 have g1:(0 < 1)=True:=by simp
 have hc30:=hc3 true [] 0
 have ld1:∀ nl out c,xa [.box [.pv .ma,.pv (i64 0)],gG nl out s.first,c] true 2 (.ptr 1 0)=some (.agg [.uq 2 nl 1 out,.pv (i64 s.first)]):=fun nl out c=>rfl
 have st1:∀ nl out b c,Oa [.box [.pv .ma,.pv (i64 0)],b,c] 2 (.ptr 0 0) (.agg [.uq 2 nl 1 out,.pv (i64 s.first)])=some [gG nl out s.first,b,c]:=fun nl out b c=>rfl
 have ld2:∀ nl out b c,xa [gG nl out s.first,b,c] true 2 (.ptr 0 0)=some (.agg [.uq 2 nl 1 out,.pv (i64 s.first)]):=fun nl out b c=>rfl
 apply Yk
 unfold WJ JX
 generalize MA s.parts=o at *
 generalize s.parts.isEmpty=em at *
 simp -implicitDefEqProofs only[eg,SP,WP,oa,sevalprocAttr,Vh,hP1,Fc,Ui,Bd,cj,st0,Be,g1,xb,hc30,htk3',d0,d1,fa,Aa,AV.cut,pa]
 refine za hloop ?_
 rintro r ⟨E,nl,rfl,k2,k3⟩
 cases em <;> simp -implicitDefEqProofs only[SP,WP,oa,sevalprocAttr,k2,k3,ld1,st1,ld2]
abbrev MY (row:List PV) (i:Int):Tr:=(((Tr.lf.set 4 (.pv (i64 i))).set 3 (.ptr 1 0)).set 2 (.ptr 0 0)).set 1 (.pv (.rp row 0))
abbrev iJ (nl:Bool) (out:List PV):ba:= .box [.uq 2 nl 2 out]
theorem yR {S:PV} {ss:List Lb} {es:List PV} (hS:eb S ss es) (hz:AE ss):qi [.agg [S]]=some (.agg [oZ ss]):=by
 have hS1:(AV.pv S).one=true:=by rcases hS.is with⟨h,_⟩ | h <;> rw[h] <;> rfl
 have ln:=hS.Vb
 have sT:=hz.len
 have hc3:∀ nl out n,Ra (na 3) [.box [.pv .ma],iJ nl out,.tok 2 n nl]=some [.box [.pv .ma],iJ nl out,.tok 2 n nl]:=fun nl out n=>rfl
 have htk3:∀ a b c:ba,([a,b,c]:List ba).take 3=[a,b,c]:=fun a b c=>rfl
 have d0:(0 < 3)=True:=by simp
 have d1:(1 < 3)=True:=by simp
 have hloop:Gd (fun r=>∃ E nl,r=(.exit 0,⟨E,[.box [.pv .ma],iJ ss.isEmpty (Zo ss),.tok 2 ss.length nl]⟩)∧E.get 2= .ptr 0 0∧E.get 3= .ptr 1 0)
  (ab (ga (ua (Ea (fun _=>none) 8) Df) (fa 3 [1,2,3,4])) qa ⟨MY [S] 0,[.box [.pv .ma],iJ true [],.tok 2 0 true]⟩):=by
  refine za (wb (g:=ga (ua (Ea (fun _=>none) 8) Df) (fa 3 [1,2,3,4]))
   (fun i t=>t=⟨MY [S] i,[.box [.pv .ma],iJ (ss.take i).isEmpty (Zo (ss.take i)),.tok 2 i (ss.take i).isEmpty]⟩)
   ss.length (by unfold qa;omega) _ rfl ?_ ?_) (fun r h=>h.2)
  ·rintro i t hi rfl
   obtain⟨P,ps,hP,a1⟩:=hS.sd hi
   have hcs:=KF hP (hz.parts _ (List.getElem_mem hi))
   have hnext:ss.take (i+1)=ss.take i++[ss[i]]:=by simp
   have hie:(ss.take (i+1)).isEmpty=false:=by rw[hnext];cases ss.take i <;> rfl
   have hcl:Zo (ss.take (i+1))=Zo (ss.take i)++[WJ ss[i]]:=by rw[hnext,Zo,List.map_append];rfl
   have hcn:(Zo (ss.take i)).length=i:=by rw[Zo,List.length_map,List.length_take];omega
   have hep:WJ ss[i]= .agg [JX ss[i].parts,i64 ss[i].first]:=rfl
   rw[hep] at hcl hcs
   have hLN:∀ st:St,st=⟨MY [S] (i+1:Nat),[.box [.pv .ma],iJ false (Zo (ss.take (i+1))),.tok 2 (i+1) false]⟩→
    LN (fun i t=>t=⟨MY [S] i,[.box [.pv .ma],iJ (ss.take i).isEmpty (Zo (ss.take i)),.tok 2 i (ss.take i).isEmpty]⟩)
     (fun r=>∃ E nl,r=(.exit 0,⟨E,[.box [.pv .ma],iJ ss.isEmpty (Zo ss),.tok 2 ss.length nl]⟩)∧E.get 2= .ptr 0 0∧E.get 3= .ptr 1 0) i (.norm,st):=by
    intro st h
    show st=_
    rw[h,hie]
   generalize LN _ _ i=QQ at hLN ⊢
   have hpo:(AV.pv (JX ss[i].parts)).one=true:=by unfold JX;split <;> rfl
   generalize JX ss[i].parts=pv at *
   generalize ss[i].first=fi at *
   generalize (ss.take i).isEmpty=nl at *
   have hap2:Yb [.box [.pv .ma],iJ nl (Zo (ss.take i)),.tok 2 i nl] false .uq 2 true 32 (.uq 2 nl 2 (Zo (ss.take i))) (.pv (.lit 2 [.agg [pv,i64 fi]]))=some (.uq 2 false 2 (Zo (ss.take (i+1))),[.box [.pv .ma],iJ nl (Zo (ss.take i)),.tok 2 (i+1) false]):=by
    have:=Fh (A:=[.box [.pv .ma],iJ nl (Zo (ss.take i)),.tok 2 i nl]) (id:=2) (n:=i) (sz:=2) (h:= .uq) (nl:=nl) (ag:=true) (bytes:=32) (es:=Zo (ss.take i)) rfl hcn.symm (by unfold qb;omega) (.agg [pv,i64 fi])
    rw[this,hcl];rfl
   have e1:decide ((i:Int) < (ss.length:Int))=true:=Fa (by omega)
   have t2:IntKind.i64.wrap ((i:Int)+1)=((i+1:Nat):Int):=Ca (by omega)
   generalize Zo (ss.take i)=o at *
   generalize Zo (ss.take (i+1))=o' at *
   have pl:∀ c,place [.box [.pv .ma],iJ nl o,c] 0 (.ptr 1 0)=some (.ptr 1 0):=fun c=>rfl
   have ld:∀ c,xa [.box [.pv .ma],iJ nl o,c] false 1 (.ptr 1 0)=some (.uq 2 nl 2 o):=fun c=>rfl
   have st:∀ c,Oa [.box [.pv .ma],iJ nl o,c] 1 (.ptr 1 0) (.uq 2 false 2 o')=some [.box [.pv .ma],iJ false o',c]:=fun c=>rfl
   have hc3':=hc3 false o' (i+1)
   simp -implicitDefEqProofs only[SP,WP,oa,sevalprocAttr,Df,Nb,Ta,oc,ln,e1,t2,a1,hcs,pl,ld,st,hap2,hpo,hc3',htk3,d0,d1,si,AV.CC,AV.Ip,fa,Aa,AV.cut,pa,MY]
   exact hLN _ rfl
  ·rintro t rfl
   rw[List.take_length]
   have e1:decide ((ss.length:Int) < (ss.length:Int))=false:=Ga (by omega)
   generalize Zo ss=o
   generalize ss.isEmpty=nl
   generalize hQ:(fun r:Ex×St=>r.1.stop=true∧_)=Q
   simp -implicitDefEqProofs only[SP,WP,oa,sevalprocAttr,Df,Nb,Ta,ln,e1,MY]
   subst hQ
   exact⟨rfl,_,nl,rfl,by simp[Tr.aa],by simp[Tr.aa]⟩
 have st0:Oa [.box [.pv .ma],.box [.pv .ma]] 1 (.ptr 1 0) (.pv (.agg [.ma]))=some [.box [.pv .ma],.box [.pv .ma]]:=rfl
 have g1:(0 < 2)=True:=by simp
 have hc30:=hc3 true [] 0
 have ld1:∀ nl out c,xa [.box [.pv .ma],iJ nl out,c] true 1 (.ptr 1 0)=some (.agg [.uq 2 nl 2 out]):=fun nl out c=>rfl
 have st1:∀ nl out b c,Oa [.box [.pv .ma],b,c] 1 (.ptr 0 0) (.agg [.uq 2 nl 2 out])=some [iJ nl out,b,c]:=fun nl out b c=>rfl
 have ld2:∀ nl out b c,xa [iJ nl out,b,c] true 1 (.ptr 0 0)=some (.agg [.uq 2 nl 2 out]):=fun nl out b c=>rfl
 apply Yk
 unfold oZ
 generalize Zo ss=o at *
 generalize ss.isEmpty=em at *
 simp -implicitDefEqProofs only[qi,SP,WP,oa,sevalprocAttr,pk,hS1,Nb,Ta,st0,Be,g1,xb,hc30,htk3,d0,d1,fa,Aa,AV.cut,pa]
 refine za hloop ?_
 rintro r ⟨E,nl,rfl,k2,k3⟩
 cases em <;> simp -implicitDefEqProofs only[SP,WP,oa,sevalprocAttr,k2,k3,ld1,st1,ld2]
theorem FU {ls:List (List (Int×Int))} (hl:ls.length≤maxLen) (h:∀ l∈ls,l.length * 16≤140737488355328):rf (JX ls) ls (MA ls):=by
 refine⟨?_,by simp[MA],?_,hl⟩
 ·cases ls with
  |nil=>exact .inl ⟨rfl,rfl⟩
  |cons a r=>exact .inr rfl
 ·intro k v l hv hl
  rw[MA,List.getElem?_map,hl] at hv
  simp at hv;subst hv
  exact⟨.inr rfl,h l (List.mem_of_getElem? hl)⟩
theorem iM {S:PV} {ss:List Lb} {es:List PV} (hS:eb S ss es):eb (oZ ss) ss (Zo ss):=by
 refine⟨?_,by simp[Zo],?_,hS.sz⟩
 ·cases ss with
  |nil=>exact .inl ⟨rfl,rfl⟩
  |cons a r=>exact .inr rfl
 ·intro k e s he hs
  rw[Zo,List.getElem?_map,hs] at he
  simp at he;subst he
  obtain⟨i,hi⟩:=List.getElem_of_mem (List.mem_of_getElem? hs)
  obtain⟨hk,hks⟩:=List.getElem?_eq_some_iff.1 hs
  obtain⟨e',P,ps,_,_,hP⟩:=hS.get hk
  rw[hks] at hP
  exact⟨JX s.parts,MA s.parts,rfl,FU hP.parts.sz (hS.CZ s (List.mem_of_getElem? hs))⟩
end Go.AM.B1
namespace Go.AM.B1
open Go.AM Go.AM.So
attribute [local irreducible] Gd
end Go.AM.B1
namespace Go.AM.B1
open Go.AM
def Og (l:List (List ze)):Nat→Int→List Int→Int×Int
 |i,_,[]=>(i,2)
 |i,st,b::r=>if (El l st b).2=false then ((i:Int),3) else if (El l st b).1= -1 then (((i+1:Nat):Int),1) else Og l (i+1) (El l st b).1 r
section
variable (call:Wa) (A B:PV) (l:List (List ze)) (hA:En A l) (bs:List Int) (hB:Vi 1 B (bs.map u8)) (hb:∀ b∈bs,0≤b∧b≤255) (hw:bs.length≤maxLen)
include hA hB hb hw
end
end Go.AM.B1
namespace Go.AM.B1
open Go.AM
section
variable (A:PV) (l:List (List ze)) (hA:En A l)
include hA
end
section
variable (call:Wa) (av bs:List PV) (i:Nat) (a b:List ze) (V W:PV) (hia:i < av.length) (hib:i < bs.length) (hV:av[i]? =some V) (hW:bs[i]? =some W) (hVL:Vi 3 V (a.map GF)) (hWL:Vi 3 W (b.map GF)) (hw:a.length≤maxLen)
include hia hV hVL
include hib hW hWL hw
end
end Go.AM.B1
namespace Go.AM.B1
open Go.AM
section
variable (A B:PV) (l m:List (List ze)) (hA:En A l) (hB:En B m)
include hA hB
end
end Go.AM.B1
namespace Go.AM.B1
open Go.AM Go.AM.So
theorem yB (row:List Int):∀ (xs:List Nat) (l:List ze),(me row xs l).length≤l.length+xs.length
 | [],l=>by simp[me]
 |x::xs,l=>by
  rw[me]
  have h1:=yB row xs (Mf x (row.getD x 0) l)
  have h2:=wH x (row.getD x 0) l
  simp only[List.length_cons];omega
theorem DN (row:List Int):(Qf row).length≤256:=by
 have:=yB row (List.range 256) []
 simpa[Qf] using this
theorem iF (C:List Int):∀ (k:Nat) (r:List Int×List (List ze)),(rj C k r).2.length≤r.2.length+k∧∀ e∈(rj C k r).2,e∈r.2∨e.length≤256
 |0,r=>⟨by simp[rj],fun e he=> .inl he⟩
 |k+1,r=>by
  cases ho:r.1[r.2.length]? with
  |none=>rw[Uq ho];exact⟨by omega,fun e he=> .inl he⟩
  |some o=>
   rw[Mr ho]
   obtain⟨h1,h2⟩:=iF C k ((dg C o r.1).1,r.2++[Qf (dg C o r.1).2])
   simp only[List.length_append,List.length_singleton] at h1
   refine⟨by omega,fun e he=> ?_⟩
   rcases h2 e he with h3 | h3
   ·simp only[List.mem_append,List.mem_singleton] at h3
    rcases h3 with h3 | h3
    ·exact .inl h3
    ·refine .inr ?_;rw[h3];exact DN _
   ·exact .inr h3
theorem qR (C:List Int) (k:Nat) (o:List Int):(rj C k (o,[])).2.length≤k∧∀ e∈(rj C k (o,[])).2,e.length≤256:=by
 have h:=iF C k (o,[])
 generalize rj C k (o,[])=r at h ⊢
 refine⟨by simpa using h.1,fun e he=> ?_⟩
 rcases h.2 e he with h | h
 ·cases h
 ·exact h
set_option maxRecDepth 8000 in
theorem WR (C:List Int):(Dn C).length≤64∧∀ e∈Dn C,e.length≤256:=qR C 64 [0]
theorem aB {ss:List Lb} {l:List (List ze)} (h:sg ss=some l):l.length≤64∧∀ e∈l,e.length≤256:=by
 unfold sg at h
 rw[Option.map_eq_some_iff] at h
 obtain⟨r,_,rfl⟩:=h
 exact WR _
theorem rJ (e:List ze):Vi 3 (Wd e) (e.map GF):=by
 unfold Wd
 cases e with
 |nil=>exact .inl ⟨rfl,rfl⟩
 |cons a r=>exact .inr rfl
theorem zD {l:List (List ze)} (h1:l.length≤64) (h2:∀ e∈l,e.length≤256):En (qj l) l:=by
 refine⟨⟨l.map Wd,.inr rfl,by simp,?_⟩,by omega,fun e he=>by have:=h2 e he;omega⟩
 intro i v e hv he
 rw[List.getElem?_map,he] at hv
 simp at hv;subst hv
 exact rJ e
theorem mA:En .ma []:=⟨⟨[],.inl ⟨rfl,rfl⟩,rfl,by simp⟩,by simp,by simp⟩
theorem ON (ss:List Lb):∃ (V:PV) (l:List (List ze)) (n:Int),En V l∧(n=0↔∃ l',sg ss=some l'∧Tb ss∧xg ss∧V=qj l'∧l=l')∧(n≠0→V= .ma)∧
 (∀ (A:PV) (ea:List PV),eb A ss ea→Cc [.agg [A]]=some (.mc [.agg [V],i64 n]))∧(∀ (A:PV) (ea:List PV),eb A ss ea→Za [.agg [A]]=some (.mc [.agg [V],i64 n])):=by
 by_cases h1:Tb ss
 ·by_cases h2:xg ss
  ·cases h3:sg ss with
   |none=>exact⟨.ma,[],130,mA,⟨fun h=>(by cases h),fun ⟨_,h,_⟩=>(by cases h)⟩,fun _=>rfl,fun A ea h=>(yi h).2.2.1 h1 h2 h3,fun A ea h=>(Wn h).2.2.1 h1 h2 h3⟩
   |some l=>
    obtain⟨k1,k2⟩:=aB h3
    exact⟨qj l,l,0,zD k1 k2,⟨fun _=>⟨l,rfl,h1,h2,rfl,rfl⟩,fun _=>rfl⟩,fun h=>absurd rfl h,fun A ea h=>(yi h).2.2.2 h1 h2 l h3,fun A ea h=>(Wn h).2.2.2 h1 h2 l h3⟩
  ·exact⟨.ma,[],110,mA,⟨fun h=>(by cases h),fun ⟨_,_,_,h,_⟩=>absurd h h2⟩,fun _=>rfl,fun A ea h=>(yi h).2.1 h1 h2,fun A ea h=>(Wn h).2.1 h1 h2⟩
 ·exact⟨.ma,[],84,mA,⟨fun h=>(by cases h),fun ⟨_,_,h,_⟩=>absurd h h1⟩,fun _=>rfl,fun A ea h=>(yi h).1 h1,fun A ea h=>(Wn h).1 h1⟩
end Go.AM.B1
namespace Go.AM.B1
open Go.AM Go.AM.So
def zn (es:List ze):PV:= .agg ((List.range 256).map fun b=> .int .i8 (Ak es b))
theorem aC {α:Type} {cs vs:List α} (h:vs.length=cs.length):oa cs 0 vs=vs:=by
 apply List.ext_getElem?
 intro p
 rw[So.dh]
 by_cases hp:p < cs.length
 ·rw[dif_pos ⟨by omega,by omega,hp⟩];simp
 ·rw[dif_neg (by omega),List.getElem?_eq_none (by omega),List.getElem?_eq_none (by omega)]
theorem setRow_self {α:Type} (cs:List α):oa cs 0 cs=cs:=aC rfl
theorem BO:ba.box ((List.replicate 256 (PV.int .i8 0)).map .pv)=b8 fun _=>0:=by
 unfold b8 cellsOf
 rw[List.map_const',List.length_range,List.map_replicate]
theorem mX (n:Nat):(List.replicate n (AV.pv (.int .i8 0))).all AV.one=true:=by
 rw[List.all_eq_true];intro x hx;rw[List.eq_of_mem_replicate hx];rfl
def Uv (o0 o1 o4 o5:ba) (c0 c1 c3 c4 c5:AV) (nl:Bool) (es:List PV):List ba:=[o0,o1,.box [c0,c1,.uq 3 nl 256 es,c3,c4,c5],.tok 256 es.length nl,o4,o5]
section
variable {call:Wa} {o0 o1 o4 o5:ba} {c0 c1 c3 c4 c5:AV}
 (hg:∀ nl es,Gg (Uv o0 o1 o4 o5 c0 c1 c3 c4 c5 nl es))
include hg
theorem iT {E:Tr} {V:PV} {l:List (List ze)} {i:Nat} {nl:Bool} {es:List PV} (hV:Vi 1 V (l.map Wd)) (hl:l.length≤64) (hle:∀ e∈l,e.length≤256) (Ba:∀ e∈l,Ej e) (hi:i < l.length) (he:es.length=i)
 (h8:E.get 8= .ptr 2 0) (h101:E.get 101= .pv V) (h102:E.get 102= .pv (i64 l.length)) (h103:E.get 103= .pv (i64 i)):
 Gd (fun r=>∃ E',r=(.norm,⟨E',Uv o0 o1 o4 o5 c0 c1 c3 c4 c5 false (es++[zn l[i]])++[b8 (Ak l[i])]⟩)∧Td [8,101,102] E E'∧E'.get 103= .pv (i64 (i+1:Nat)))
  (ua call Rh ⟨E,Uv o0 o1 o4 o5 c0 c1 c3 c4 c5 nl es⟩):=by
 have hV1:=hV.lit (i:=i) (by simpa using hi)
 have hml:=List.getElem_mem hi
 have hie:=Ba _ hml
 have hilen:=hle _ hml
 have hA:=hg nl es
 have hAl:(Uv o0 o1 o4 o5 c0 c1 c3 c4 c5 nl es).length=6:=rfl
 have e1:decide ((i:Int) < (l.length:Int))=true:=Fa (by omega)
 have t1:IntKind.i64.wrap ((i:Int)+1)=((i+1:Nat):Int):=ym (by omega)
 have hvc:(Wd l[i]).cells=[Wd l[i]]:=by unfold Wd;split <;> rfl
 have a1:wa (Uv o0 o1 o4 o5 c0 c1 c3 c4 c5 nl es) 1 (.pv V) (i:Int)=some (.pv (.rp [Wd l[i]] 0)):=by
  rw[hV1]
  simp only[wa]
  rw[if_pos ⟨trivial,by unfold Ia;rw[List.length_map];omega⟩,Int.toNat_natCast,List.getElem?_map,List.getElem?_eq_getElem hi,Option.map_some,Option.map_some,hvc]
 have hL:=rJ l[i]
 have lL:=hL.len
 rw[List.length_map] at lL
 have hclr:=fun (E2:Tr) (q8:E2.get 8= .ptr 2 0) (q12:E2.get 12= .pv (Wd l[i])) (q13:E2.get 13= .ptr 6 0) (q101:E2.get 101= .pv V) (q102:E2.get 102= .pv (i64 l.length)) (q103:E2.get 103= .pv (i64 i)) (q108:E2.get 108= .pv (i64 0))=>
  JU (call:=call) hA (g0:=fun _=>0) (tb:=2) (by rw[hAl];omega) q8 q12 q13 q101 q102 q103 q108
 have hedg:=fun (E2:Tr) (q8:E2.get 8= .ptr 2 0) (q13:E2.get 13= .ptr 6 0) (q101:E2.get 101= .pv V) (q102:E2.get 102= .pv (i64 l.length)) (q103:E2.get 103= .pv (i64 i)) (q114:E2.get 114= .pv (Wd l[i])) (q115:E2.get 115= .pv (i64 l[i].length)) (q116:E2.get 116= .pv (i64 0))=>
  yT (call:=call) hA (tb:=2) hie hL hilen (by rw[hAl];omega) q8 q13 q101 q102 q103 q114 q115 q116
 generalize l[i]=ed at *
 have s0:Oa (Uv o0 o1 o4 o5 c0 c1 c3 c4 c5 nl es++[b8 fun _=>0]) 256 (.ptr 6 0) (.pv (.agg (List.replicate 256 (PV.int .i8 0))))=some (Uv o0 o1 o4 o5 c0 c1 c3 c4 c5 nl es++[b8 fun _=>0]):=by
  have hq:=Dj (Uv o0 o1 o4 o5 c0 c1 c3 c4 c5 nl es) (b8 fun _=>0)
  have hs:=Un (Uv o0 o1 o4 o5 c0 c1 c3 c4 c5 nl es) (b8 fun _=>0) (b8 fun _=>0)
  rw[hAl] at hq hs
  simp only[Oa,hq,AV.cells,PV.cells,List.length_map,List.length_replicate,List.map_replicate]
  rw[if_pos ⟨trivial,mX 256⟩]
  rw[← BO,List.map_replicate] at hs ⊢
  simp only[List.length_replicate]
  rw[if_pos (by omega),setRow_self,hs]
 generalize hA1:Uv o0 o1 o4 o5 c0 c1 c3 c4 c5 nl es++[b8 fun _=>0]=A1 at *
 have hbz:Uv o0 o1 o4 o5 c0 c1 c3 c4 c5 nl es++[ba.box ((List.replicate 256 (PV.int .i8 0)).map .pv)]=A1:=by rw[BO];exact hA1
 have hap:=So.uf (List.replicate 256 (PV.int .i8 0))
 rw[List.map_replicate] at hap hbz
 generalize hA0:Uv o0 o1 o4 o5 c0 c1 c3 c4 c5 nl es=A0 at *
 generalize hQ:(fun r:Ex×St=>∃ E',r=_∧_)=Q
 simp -implicitDefEqProofs only[SX,sevalprocAttr,-List.reduceReplicate,Rh,h8,h101,h102,h103,e1,a1,Ta,hap,hAl,hbz,s0,List.map_replicate]
 generalize hEE:(Tr.set _ 108 _:Tr)=E2
 have k2:Td [8,101,102,103] E E2:=by
  rw[← hEE]
  repeat refine Td.set ?_ rfl
  exact Td.refl _ _
 have q12:E2.get 12= .pv (Wd ed):=by rw[← hEE];simp[Tr.aa,-List.reduceReplicate]
 have q13:E2.get 13= .ptr 6 0:=by rw[← hEE];simp[Tr.aa,-List.reduceReplicate]
 have q108:E2.get 108= .pv (i64 0):=by rw[← hEE];simp[Tr.aa,-List.reduceReplicate]
 refine za (hclr E2 ((k2 8 (by simp)).trans h8) q12 q13 ((k2 101 (by simp)).trans h101) ((k2 102 (by simp)).trans h102) ((k2 103 (by simp)).trans h103) q108) ?_
 rintro r ⟨_,E3,rfl,k3⟩
 have k3:Td [8,12,13,101,102,103] E2 E3:=k3
 have z12:=(k3 12 (by simp)).trans q12
 simp -implicitDefEqProofs only[SX,sevalprocAttr,-List.reduceReplicate,z12,lL]
 generalize hEE4:(Tr.set _ 116 _:Tr)=E4
 have k4:Td [8,101,102,103] E E4:=by
  rw[← hEE4]
  repeat refine Td.set ?_ rfl
  exact k2.trans (Td.sub k3 rfl)
 have q13:E4.get 13= .ptr 6 0:=by rw[← hEE4];simp[Tr.aa];exact (k3 13 (by simp)).trans q13
 have q114:E4.get 114= .pv (Wd ed):=by rw[← hEE4];simp[Tr.aa]
 have q115:E4.get 115= .pv (i64 ed.length):=by rw[← hEE4];simp[Tr.aa]
 have q116:E4.get 116= .pv (i64 0):=by rw[← hEE4];simp[Tr.aa]
 refine za (hedg E4 ((k4 8 (by simp)).trans h8) q13 ((k4 101 (by simp)).trans h101) ((k4 102 (by simp)).trans h102) ((k4 103 (by simp)).trans h103) q114 q115 q116) ?_
 rintro r ⟨_,E5,rfl,k5⟩
 have k5:Td [8,13,101,102,103] E4 E5:=k5
 have k5':Td [8,101,102,103] E E5:=k4.trans (Td.sub k5 rfl)
 have z8:=(k5' 8 (by simp)).trans h8
 have z103:=(k5' 103 (by simp)).trans h103
 have z13:=(k5 13 (by simp)).trans q13
 have p2:∀ d,place (A0++[b8 (Ak ed)]) d (.ptr 2 0)=some (.ptr 2 (0+d)):=fun d=>ng (by rw[← hA0];rfl) d 0
 have l2:xa (A0++[b8 (Ak ed)]) false 1 (.ptr 2 2)=some (.uq 3 nl 256 es):=by rw[← hA0];rfl
 have l13:xa (A0++[b8 (Ak ed)]) true 256 (.ptr 6 0)=some (.pv (zn ed)):=by
  have hgt:(A0++[b8 (Ak ed)])[6]? =some (b8 (Ak ed)):=by rw[← hA0];rfl
  have hl:(cellsOf 256 fun b=>AV.pv (.int .i8 (Ak ed b))).length=256:=pg _ _
  have:cellsOf 256 (fun b=>AV.pv (.int .i8 (Ak ed b)))=((List.range 256).map fun b=>PV.int .i8 (Ak ed b)).map .pv:=by rw[cellsOf,List.map_map];rfl
  rw[xa,hgt]
  show bh true 256 (cellsOf 256 fun b=>AV.pv (.int .i8 (Ak ed b))) 0=_
  rw[bh,if_pos rfl,if_pos (by rw[hl];exact Nat.le_refl _),List.drop_zero,List.take_of_length_le (by rw[hl];exact Nat.le_refl _),this,Ir,So.uf];rfl
 have hap2:Yb (A0++[b8 (Ak ed)]) false .uq 256 true 256 (.uq 3 nl 256 es) (.pv (.lit 256 [zn ed]))=some (.uq 3 false 256 (es++[zn ed]),[o0,o1,.box [c0,c1,.uq 3 nl 256 es,c3,c4,c5],.tok 256 (es.length+1) false,o4,o5,b8 (Ak ed)]):=by
  rw[← hA0]
  simp only[Yb,Uv,Kf,List.cons_append,List.nil_append,List.getElem?_cons_succ,List.getElem?_cons_zero,if_true,Option.bind_some,List.length_cons,List.length_nil]
  rw[if_neg (by simp)]
  rw[if_pos ⟨trivial,trivial,trivial,by unfold qb;omega⟩]
  simp
 have p3:∀ d,place [o0,o1,.box [c0,c1,.uq 3 nl 256 es,c3,c4,c5],.tok 256 (es.length+1) false,o4,o5,b8 (Ak ed)] d (.ptr 2 0)=some (.ptr 2 (0+d)):=fun d=>ng rfl d 0
 have s3:Oa [o0,o1,.box [c0,c1,.uq 3 nl 256 es,c3,c4,c5],.tok 256 (es.length+1) false,o4,o5,b8 (Ak ed)] 1 (.ptr 2 2) (.uq 3 false 256 (es++[zn ed]))=some (Uv o0 o1 o4 o5 c0 c1 c3 c4 c5 false (es++[zn ed])++[b8 (Ak ed)]):=by
  have:(es++[zn ed]).length=es.length+1:=by simp
  unfold Uv
  rw[this];rfl
 obtain⟨N,hN⟩:∃ N,N=(List.range 256).map fun b=>PV.int .i8 (Ak ed b):=⟨_,rfl⟩
 have hNl:N.length=256:=by rw[hN,List.length_map,List.length_range]
 have hNo:(N.map AV.pv).all AV.one=true:=by
  rw[hN,List.all_eq_true];intro x hx
  rw[List.mem_map] at hx;obtain⟨y,hy,rfl⟩:=hx
  rw[List.mem_map] at hy;obtain⟨z,_,rfl⟩:=hy
  rfl
 have hNP:zn ed= .agg N:=by rw[hN];rfl
 rw[hNP] at l13 hap2 s3 hQ
 have m0:(PV.agg N).cells=N:=rfl
 have m1:oa (List.map AV.pv (List.replicate 256 (PV.int .i8 0))++[]) 0 (N.map .pv)=N.map .pv:=aC (by rw[List.length_map,List.length_append,List.length_map,List.length_replicate,hNl];rfl)
 have m2:(N.map AV.pv).length=256:=by rw[List.length_map,hNl]
 have m3:=So.uf N
 have m5:(256≤(List.map AV.pv (List.replicate 256 (PV.int .i8 0))++[]).length)=True:=eq_true (by rw[List.length_append,List.length_map,List.length_replicate];exact Nat.le_add_right _ _)
 have m6:List.take 256 N=N:=List.take_of_length_le (by omega)
 clear hN hNP
 simp -implicitDefEqProofs only[SP,WP,oa,sevalprocAttr,-List.reduceReplicate,z8,z103,z13,p2,l2,l13,hap2,p3,s3,t1,m0,m1,m2,m3,m5,m6,hNo]
 subst hQ
 refine⟨_,rfl,?_,by simp[Tr.aa]⟩
 repeat refine Td.set ?_ rfl
 exact Td.sub k5' rfl
end
end Go.AM.B1
namespace Go.AM.B1
open Go.AM Go.AM.So
theorem qu {p:Int×Int} (h0:0≤p.1) (h1:p.1≤p.2):((Gf 0 p).length:Int)=p.2 - p.1+1:=by
 rw[ZJ h0 h1,List.length_map,List.length_range];omega
theorem mz {p:Int×Int} (h0:0≤p.1) (h1:p.1≤p.2) {k:Nat} (hk:(k:Int) < p.2 - p.1+1):(Gf 0 p)[k]? =some (p.1+k):=by
 rw[ZJ h0 h1,List.getElem?_map,List.getElem?_range (by omega)];rfl
theorem Ry {top:Int}:∀ {l:List (Int×Int)} {last:Int} (n:Int),Qa top last l=true→Ac n l=n+(Ek l).length
 | [],_,n,_=>by simp[Ac,Ek]
 |p::l,last,n,h=>by
  obtain⟨h1,h2,h3,h4,h5⟩:=ee h
  replace h1:0≤p.1:=by omega
  replace h2:p.1≤p.2:=by omega
  have hl:=qu h1 h2
  rw[Ac,Ry _ h5,Ek,List.length_append]
  omega
theorem au {top:Int}:∀ {l:List (Int×Int)} {last:Int} {n x:Int} {k:Nat},Qa top last l=true→(Ek l)[k]? =some x→xf x n l=(n+k,true)∧0≤x∧x≤top∧last+1 < x
 | [],_,n,x,k,_,hk=>by simp[Ek] at hk
 |p::l,last,n,x,k,h,hk=>by
  obtain⟨h1,h2,h3,h4,h5⟩:=ee h
  replace h1:0≤p.1:=by omega
  replace h2:p.1≤p.2:=by omega
  have hl:=qu h1 h2
  rw[Ek] at hk
  rcases Nat.lt_or_ge k (Gf 0 p).length with hlt | hge
  ·rw[List.getElem?_append_left hlt,mz h1 h2 (by omega)] at hk
   injection hk with hk
   subst hk
   rw[xf,if_neg (by omega),if_pos (by omega)]
   exact⟨by rw[Prod.mk.injEq];exact⟨by omega,rfl⟩,by omega,by omega,by omega⟩
  ·rw[List.getElem?_append_right hge] at hk
   obtain⟨g1,g2,g3,g4⟩:=au (n:=n+(p.2 - p.1+1)) h5 hk
   rw[xf,if_neg (by omega),if_neg (by omega),g1]
   exact⟨by rw[Prod.mk.injEq];exact⟨by omega,rfl⟩,g2,g3,by omega⟩
theorem bn {top:Int}:∀ {l:List (Int×Int)} {last:Int} {n x:Int},Qa top last l=true→(xf x n l).2=true→∃ k:Nat,(Ek l)[k]? =some x∧(xf x n l).1=n+k
 | [],_,n,x,_,hk=>by simp[xf] at hk
 |p::l,last,n,x,h,hk=>by
  obtain⟨h1,h2,h3,h4,h5⟩:=ee h
  replace h1:0≤p.1:=by omega
  replace h2:p.1≤p.2:=by omega
  have hl:=qu h1 h2
  rw[xf] at hk ⊢
  by_cases c1:x < p.1
  ·rw[if_pos c1] at hk;cases hk
  ·rw[if_neg c1] at hk ⊢
   by_cases c2:x≤p.2
   ·rw[if_pos c2]
    refine⟨(x - p.1).toNat,?_,by show n+x - p.1=_;omega⟩
    rw[Ek,List.getElem?_append_left (by omega),mz h1 h2 (by omega)]
    congr 1;omega
   ·rw[if_neg c2] at hk ⊢
    obtain⟨k,g1,g2⟩:=bn h5 hk
    refine⟨(Gf 0 p).length+k,?_,by rw[g2];omega⟩
    rw[Ek,List.getElem?_append_right (by omega),Nat.add_sub_cancel_left];exact g1
end Go.AM.B1
namespace Go.AM.B1
open Go.AM Go.AM.So
theorem iH:∀ (l:List (Int×Int)),Ra qG (Hd l)=some l
 | []=>rfl
 |p::l=>by
  show (qG (pr p)).bind _=_
  have:qG (pr p)=some p:=rfl
  rw[this,Option.bind_some]
  show ((Ra qG (Hd l)).bind fun bs=>some (p::bs))=_
  rw[iH l];rfl
theorem ZQ {v:PV} {l:List (Int×Int)} (h:Vi 2 v (Hd l)):cF v=some l:=by
 rcases h with⟨rfl,h⟩ | rfl
 ·cases l with
  |nil=>rfl
  |cons p l=>cases h
 ·exact iH l
theorem iD {v:PV} {l:List (Int×Int)} (h:Vi 2 v (Hd l)) (hv:Qa 255 (-2) l=true) (hlen:l.length≤4611686018427387904):
 Sk [.rp [v] 0,.rp [i64 0] 0]=some ((Ek l).map fun x=>[i64 x]):=by
 have hsm:l.all VI=true:=by
  have:∀ (l:List (Int×Int)) (last:Int),Qa 255 last l=true→l.all VI=true:=by
   intro l
   induction l with
   |nil=>intro _ _;rfl
   |cons p l ih=>
    intro last h
    obtain⟨h1,h2,h3,h4,h5⟩:=ee h
    rw[List.all_cons,ih _ h5,Bool.and_true]
    exact decide_eq_true (by omega)
  exact this l _ hv
 simp only[Sk,ZQ h,Option.bind_some,hsm,Bool.true_and]
 rw[if_pos (decide_eq_true (by omega)),AW]
theorem TF {v:PV} {l:List (Int×Int)} (hv:Gm v l) (hp:Xc l):∃ u,Vi 2 u (Hd l)∧∀ H,Ea Vg 8 39 [.pv v,.pv (i64 0)] H=some (.Fk 35 [.pv (.rp [u] 0),.pv (.rp [i64 0] 0)],H):=by
 obtain⟨u,q1,q2⟩:=Yr v l hv.is hv.sz
 rw[FC hp.2] at q2
 refine⟨u,q2,fun H=> ?_⟩
 have hu1:(AV.pv u).one=true:=by rcases q2 with⟨h,_⟩ | h <;> rw[h] <;> rfl
 have huc:(AV.pv u).cells=[.pv u]:=by rcases q2 with⟨h,_⟩ | h <;> rw[h] <;> rfl
 have c38:Vg 38=some Vu:=rfl
 rw[Qz Vg 7 39 _ H (f:=om) rfl]
 simp -implicitDefEqProofs only[SX,sevalprocAttr,om,Vu,q1,c38,hu1,huc]
end Go.AM.B1
namespace Go.AM.B1
open Go.AM Go.AM.So
def QY (v:AV) (H:List ba) (es:List PV):Prop:=(es=[]∧v= .pv .ma)∨(∃ tk,es≠[]∧v= .uq tk false 1 es∧H[tk]? =some (.tok 1 es.length false))
theorem kX {x:Int} (h0:0≤x) (h1:x≤255):IntKind.u8.wrap x=x:=by
 unfold IntKind.wrap
 simp[IntKind.signed,IntKind.bits]
 omega
theorem TU {x:Int} (h0:0≤x) (h1:x≤65535):IntKind.u16.wrap x=x:=by
 unfold IntKind.wrap
 simp[IntKind.signed,IntKind.bits]
 omega
theorem gU (call:Wa) {e:Tr} {H:List ba} {bx oid m off fl:Nat} {g:Nat→AV} {x:Int} {es:List PV} (h6:e.get 6= .ptr bx 0) (h7:e.get 7= .pv (i64 x)) (hb:H[bx]? =some (.box [.Gc oid m off])) (ho:H[oid]? =some (.seq 258 true (cellsOf m g) fl false))
 (hoff:off+258≤m) (hx0:0≤x) (hx1:x≤255) (hB:QY (g off) H es) (hlen:es.length≤255):
 ∃ s' fl' v,fl'≤m∧ua call Ik ⟨e,H⟩=some (.norm,s')∧s'.H[bx]? =some (.box [.Gc oid m off])∧
  s'.H[oid]? =some (.seq 258 true (cellsOf m (Mv (Mv g off v) (off+1+x.toNat) (.pv (.int .u16 (es.length+1))))) fl' false)∧QY v s'.H (es++[.int .u8 x])∧∀ (j:Nat) c,H[j]? =some (.box c)→s'.H[j]? =some (.box c):=by
 have hbo:bx≠oid:=by intro e;subst e;rw[hb] at ho;cases ho
 have wx:=kX hx0 hx1
 have l6:xa H false 1 (.ptr bx 0)=some (.Gc oid m off):=by simp[xa,hb,bh]
 have lo:=bE (off:=off) ho rfl (by omega)
 have po:∀ d,place H d (.Gc oid m off)=some (.Gc oid m (off+d)):=fun d=>It ho rfl
 have app:∃ v H1,Yb H false .uq 1 false 1 (g off) (.pv (.lit 1 [.int .u8 x]))=some (v,H1)∧QY v H1 (es++[.int .u8 x])∧H1[bx]? =some (.box [.Gc oid m off])∧H1[oid]? =some (.seq 258 true (cellsOf m g) fl false)∧v.cells=[v]∧v.one=true∧(∀ K,Vb K 0 v=some (es.length+1))∧∀ (j:Nat) c,H[j]? =some (.box c)→H1[j]? =some (.box c):=by
  rcases hB with⟨rfl,hg⟩ | ⟨tk,hne,hg,htk⟩
  ·refine⟨.uq H.length false 1 [.int .u8 x],H++[.tok 1 1 false],by rw[hg];simp[Yb,Kf,Yo],.inr ⟨H.length,by simp,rfl,by simp⟩,?_,?_,rfl,rfl,fun _=>rfl,fun j c hj=>by rw[getElem?_push (getElem?_lt hj)];exact hj⟩
   ·rw[getElem?_push (getElem?_lt hb)];exact hb
   ·rw[getElem?_push (getElem?_lt ho)];exact ho
  ·have h1:tk≠bx:=by intro e;subst e;rw[hb] at htk;cases htk
   have h2:tk≠oid:=by intro e;subst e;rw[ho] at htk;cases htk
   refine⟨.uq tk false 1 (es++[.int .u8 x]),H.set tk (.tok 1 (es.length+1) false),?_,.inr ⟨tk,by simp,rfl,by rw[List.getElem?_set_self (getElem?_lt htk)];simp⟩,?_,?_,rfl,rfl,fun _=>by simp[Vb],fun j c hj=>by rw[List.getElem?_set_ne (fun e=>by subst e;rw[htk] at hj;cases hj)];exact hj⟩
   ·rw[hg];simp[Yb,Kf,htk];omega
   ·rw[List.getElem?_set_ne h1];exact hb
   ·rw[List.getElem?_set_ne h2];exact ho
 obtain⟨v,H1,ha,hB1,hb1,ho1,hv1,hv2,hv3,hbox⟩:=app
 have po1:∀ d,place H1 d (.Gc oid m off)=some (.Gc oid m (off+d)):=fun d=>It ho1 rfl
 have st1:=dB (off:=off) ho1 rfl (by omega) hv1 hv2
 generalize hH2:H1.set oid (.seq 258 true (cellsOf m (Mv g off v)) m false)=H2 at st1
 have hb2:H2[bx]? =some (.box [.Gc oid m off]):=by rw[← hH2,List.getElem?_set_ne (Ne.symm hbo)];exact hb1
 have ho2:H2[oid]? =some (.seq 258 true (cellsOf m (Mv g off v)) m false):=by rw[← hH2,List.getElem?_set_self (getElem?_lt ho1)]
 have l62:xa H2 false 1 (.ptr bx 0)=some (.Gc oid m off):=by simp[xa,hb2,bh]
 have lo2:=bE (off:=off) ho2 rfl (by omega)
 rw[Xt] at lo2
 have po2:∀ d off',place H2 d (.Gc oid m off')=some (.Gc oid m (off'+d)):=fun d off'=>It ho2 rfl
 have w2:IntKind.u16.wrap ((es.length+1:Nat):Int)=(es.length:Int)+1:=by rw[TU (by omega) (by omega)];omega
 have st2:=dB (off:=off+1+x.toNat) (v:= .pv (.int .u16 ((es.length:Int)+1))) ho2 rfl (by omega) rfl rfl
 have hidx:(0≤x∧x < ((256:Nat):Int))=True:=eq_true (by omega)
 generalize hH3:H2.set oid (.seq 258 true (cellsOf m (Mv (Mv g off v) (off+1+x.toNat) (.pv (.int .u16 ((es.length:Int)+1))))) m false)=H3 at st2
 have key:Gd (fun r=>r.1= .norm∧r.2.H=H3) (ua call Ik ⟨e,H⟩):=by
  clear hB hB1 hb ho hb1 ho1 hb2 ho2 hH2 hH3
  have hsr:oa [AV.pv (PV.int .u8 0)] 0 [AV.pv (PV.int .u8 x)]=[AV.pv (PV.int .u8 x)]:=rfl
  have hal:([AV.pv (PV.int .u8 x)].all AV.one=true)=True:=eq_true rfl
  have hfr:fresh H .lit 1 false 1 [AV.pv (PV.int .u8 x)]=some (.pv (.lit 1 [.int .u8 x]),H):=rfl
  generalize hQ:(fun r:Ex×St=>r.1=Ex.norm∧_)=Q
  simp -implicitDefEqProofs only[SX,sevalprocAttr,Ik,h6,h7,l6,lo,po,wx,ha,po1,st1,l62,lo2,po2,hv3,w2,hidx,st2,hsr,hal,hfr]
  subst hQ
  exact⟨rfl,rfl⟩
 obtain⟨⟨ex,s'⟩,h1,h2,h3⟩:=xc key
 simp only at h2 h3
 subst h2
 refine⟨s',m,v,Nat.le_refl _,h1,?_,?_,?_,fun j c hj=> ?_⟩
 ·rw[h3,←hH3,List.getElem?_set_ne (Ne.symm hbo)];exact hb2
 ·rw[h3,←hH3];exact List.getElem?_set_self (getElem?_lt ho2)
 ·rcases hB1 with h | ⟨tk,q1,q2,q3⟩
  ·exact .inl h
  ·have h4:tk≠oid:=by intro e;subst e;rw[ho1] at q3;cases q3
   refine .inr ⟨tk,q1,q2,?_⟩
   rw[h3,←hH3,List.getElem?_set_ne (Ne.symm h4),←hH2,List.getElem?_set_ne (Ne.symm h4)];exact q3
 ·have hj1:=hbox j c hj
  have hne:oid≠j:=fun e=>by subst e;rw[ho1] at hj1;cases hj1
  rw[h3,←hH3,List.getElem?_set_ne hne,←hH2,List.getElem?_set_ne hne];exact hj1
end Go.AM.B1
namespace Go.AM.B1
open Go.AM Go.AM.So
def eZ (x:Int):PV:= .int .u8 x
theorem of_inner (call:Wa) {e:Tr} {bx oid m off:Nat} (h6:e.get 6= .ptr bx 0) (hoff:off+258≤m):∀ (xs:List Int) {H:List ba} {fl:Nat} {g:Nat→AV} {es:List PV},H[bx]? =some (.box [.Gc oid m off])→H[oid]? =some (.seq 258 true (cellsOf m g) fl false)→
 (∀ x∈xs,0≤x∧x≤255)→xs.Nodup→QY (g off) H es→es.length+xs.length≤256→
 ∃ H' fl' g',(fl≤m→fl'≤m)∧ui (fun x H=>ua call Ik ⟨xC [(7,40)] (Jp [40] x e),H⟩) (xs.map fun x=>[i64 x]) H=some (.norm,H')∧H'[bx]? =some (.box [.Gc oid m off])∧H'[oid]? =some (.seq 258 true (cellsOf m g') fl' false)∧
  QY (g' off) H' (es++xs.map eZ)∧(∀ j,j≠off→(∀ x∈xs,j≠off+1+x.toNat)→g' j=g j)∧(∀ (k:Nat) x,xs[k]? =some x→g' (off+1+x.toNat)= .pv (.int .u16 ((es.length+k:Nat)+1)))∧∀ (j:Nat) c,H[j]? =some (.box c)→H'[j]? =some (.box c):=by
 intro xs
 induction xs with
 |nil=>
  intro H fl g es hb ho _ _ hB _
  exact⟨H,fl,g,id,rfl,hb,ho,by simpa using hB,fun _ _ _=>rfl,fun k x h=>by simp at h,fun _ _ h=>h⟩
 |cons x xs ih=>
  intro H fl g es hb ho hx hnd hB hlen
  obtain⟨hx0,hx1⟩:=hx x (by simp)
  have hnd':=List.nodup_cons.1 hnd
  have e6:(xC [(7,40)] (Jp [40] [i64 x] e)).get 6= .ptr bx 0:=by simp[xC,Jp,Tr.aa,h6]
  have e7:(xC [(7,40)] (Jp [40] [i64 x] e)).get 7= .pv (i64 x):=by simp[xC,Jp,Tr.aa]
  obtain⟨s',fl',v,q0,q1,q2,q3,q4,q5⟩:=gU call e6 e7 hb ho hoff hx0 hx1 hB (by simp at hlen;omega)
  have hne:off≠off+1+x.toNat:=by omega
  obtain⟨H',fl2,g',r0,r1,r2,r3,r4,r5,r6,r7⟩:=ih (es:=es++[eZ x]) q2 q3 (fun y hy=>hx y (by simp[hy])) hnd'.2 (by rw[Mu _ _ hne,Xt];exact q4) (by simp at hlen ⊢;omega)
  refine⟨H',fl2,g',fun _=>r0 q0,?_,r2,r3,by simpa using r4,fun j h1 h2=> ?_,fun k y hk=> ?_,fun j c hj=>r7 j c (q5 j c hj)⟩
  ·simp only[List.map_cons,ui,q1,Pz];exact r1
  ·rw[r5 j h1 fun y hy=>h2 y (by simp[hy]),Mu _ _ (h2 x (by simp)),Mu _ _ h1]
  ·cases k with
   |zero=>
    simp at hk;subst hk
    rw[r5 _ (by omega) (fun y hy e=>by
     have:=(hx y (by simp[hy])).1
     have:y=x:=by omega
     subst this;exact hnd'.1 hy),Xt]
    simp
   |succ k=>
    have:=r6 k y (by simpa using hk)
    rw[this]
    congr 3
    simp;omega
end Go.AM.B1
