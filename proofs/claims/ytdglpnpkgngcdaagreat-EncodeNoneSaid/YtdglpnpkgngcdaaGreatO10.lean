/- What functions of the program compute. -/
import Derived.Test.YtdglpnpkgngcdaaGreatO9
import Derived.Test.YtdglpnpkgngcdaaGreatO8
import Derived.Test.YtdglpnpkgngcdaaGreatO6
import Derived.Test.YtdglpnpkgngcdaaGreatO7
set_option linter.unusedVariables false
set_option linter.unusedSimpArgs false
namespace Go.AM.B1
open Go.AM Go.AM.So
theorem uA (eb:List Int):∀ (xs:List Nat) (r:List Int×List Int),yd eb xs r=xs.foldl (fun r x=>ri x (eb.getD x 0) r) r
 | [],r=>rfl
 |x::xs,r=>by rw[yd,uA eb xs,List.foldl_cons]
theorem iy (row:List Int):∀ (xs:List Nat) (l:List Xe),fe row xs l=xs.foldl (fun l (x:Nat)=>zf x (row.getD x 0) l) l
 | [],l=>rfl
 |x::xs,l=>by rw[fe,iy row xs,List.foldl_cons]
theorem foldl_congr {α β:Type} {f g:β→α→β}:∀ (l:List α) (b:β),(∀ b,∀ a∈l,f b a=g b a)→l.foldl f b=l.foldl g b
 | [],b,_=>rfl
 |a::l,b,h=>by
  rw[List.foldl_cons,List.foldl_cons,h b a (by simp)]
  exact foldl_congr l _ fun b a' ha=>h b a' (by simp[ha])
theorem AH {v:Int} {co:Nat→Int} {p:Nat→Bool}:∀ (O:List Nat) (k:Nat),(∀ o∈O,(v=co o↔p o=true))→
 Jr v (O.map co) k=if O.findIdx p < O.length then some (k+O.findIdx p) else none
 | [],k,_=>by simp[Jr]
 |o::O,k,h=>by
  rw[List.map_cons,Jr,List.findIdx_cons]
  have ho:=h o (by simp)
  by_cases hp:p o=true
  ·rw[if_pos (ho.2 hp),hp];simp
  ·have hp':p o=false:=by simpa using hp
   rw[if_neg fun e=>hp (ho.1 e),hp',AH O (k+1) fun o' ho'=>h o' (by simp[ho'])]
   simp only[cond_false,List.length_cons]
   by_cases hlt:O.findIdx p < O.length
   ·rw[if_pos hlt,if_pos (by omega)];congr 1;omega
   ·rw[if_neg hlt,if_neg (by omega)]
def co (C:List (List Int)) (o:Nat):Int:=if o=0 then 0 else cls C o
section
variable {ss:List ic} {sets:List Al} {C:List (List Int)} (Aa:Lc ss) (hpre:Eg ss) (W:Dk ss sets C) (hl:C.length=sets.length)
 {f:Nat→Nat→Bool} (hf:∀ a,f a a=false) (hK:∀ i j,i < C.length→j < C.length→(f i j=false↔cls C i=cls C j))
include Aa hpre W hl hf hK
omit hf hK in
theorem kM {t:Nat} (h0:0 < t) (ht:t < C.length):cls C t≠0:=by
 intro h
 have h1:=(W.Ww hl).Ym ht
 have h2:(Ee C.length C.flatten).tc.getD t 0=0:=h
 rw[h2] at h1
 exact W.MA Aa hpre hl h0 ht (((W.Ww hl).eI (by omega) ht).2 h1.2.2)
omit Aa hpre hf hK in
theorem iH {o x:Nat} (ho:o < C.length) (hx:x < 256):(Ta (Ee C.length C.flatten).C (co C o).toNat).getD x 0=qp C o x:=by
 rw[← W.dO hl ho hx]
 unfold co
 by_cases h:o=0
 ·rw[if_pos h,h];rfl
 ·rw[if_neg h]
  have:=((W.Ww hl).Ym ho).2.2
  unfold cls
  rw[this]
omit hf in
theorem uK {O:List Nat} (hO:mv C.length O) {t:Nat} (h0:0 < t) (ht:t < C.length):Jr (cls C t) (O.map (co C)) 0=if O.findIdx (fun o=> !f o t) < O.length then some (O.findIdx (fun o=> !f o t)) else none:=by
 rw[AH (p:=fun o=> !f o t)]
 ·simp
 ·intro o ho
  have hoC:=hO.lt o ho
  unfold co
  by_cases hz:o=0
  ·subst hz
   rw[if_pos rfl]
   constructor
   ·intro h;exact absurd h (kM Aa hpre W hl h0 ht)
   ·intro h
    have:f 0 t=false:=by simpa using h
    exact absurd ((hK 0 t (by omega) ht).1 this) (W.MA Aa hpre hl h0 ht)
  ·rw[if_neg hz]
   have:=hK o t hoC ht
   constructor
   ·intro h;have:=this.2 h.symm;simp[this]
   ·intro h;exact (this.1 (by simpa using h)).symm
structure AU (C:List (List Int)) (o:Nat) (x:Nat) (rt:List Int×List Int) (rr:List Nat×List Xe):Prop where
 ord:mv C.length rr.1
 fst:rt.1=rr.1.map (co C)
 len:rt.2.length=256
 rest:∀ y,x≤y→y < 256→rt.2.getD y 0=qp C o y
 nV:rr.2=(List.range x).foldl (fun l (y:Nat)=>zf y (rt.2.getD y 0) l) []
theorem YO {o x:Nat} (ho:o < C.length) (hx:x < 256) {rt:List Int×List Int} {rr:List Nat×List Xe} (h:AU C o x rt rr):AU C o (x+1) (ri x (qp C o x) rt) (Yl C f o rr x):=by
 have hbd:=W.bound hl ho hx
 have hcur:=h.rest x (Nat.le_refl _) hx
 have hkeep:∀ (row:List Int) (l:List Xe),(∀ y,y≠x→row.getD y 0=rt.2.getD y 0)→l=zf x (row.getD x 0) rr.2→l=(List.range (x+1)).foldl (fun l (y:Nat)=>zf y (row.getD y 0) l) []:=by
  intro row l h1 h2
  rw[List.range_succ,List.foldl_append,h2,h.nV]
  show zf x _ _=zf x _ _
  congr 1
  refine foldl_congr _ _ fun b a ha=> ?_
  have:a < x:=by simpa using ha
  rw[h1 a (by omega)]
 by_cases hneg:eg C o x < 0
 ·have hn:qp C o x=eg C o x:=by unfold qp;rw[if_neg (by omega)]
  have ht:ri x (qp C o x) rt=rt:=by unfold ri;rw[if_pos (by omega)]
  rw[ht]
  have hr1:(Yl C f o rr x).1=rr.1:=by
   unfold Yl ef
   split
   ·rfl
   ·first | rfl | rw[if_pos hneg]
  have hr2:(Yl C f o rr x).2=zf x (rt.2.getD x 0) rr.2:=by
   rw[hcur,hn]
   unfold Yl ef
   split
   ·next h2=>rw[h2,Ix]
   ·first | rfl | rw[if_pos hneg]
  exact⟨by rw[hr1];exact h.ord,by rw[hr1];exact h.fst,h.len,fun y h1 h2=>h.rest y (by omega) h2,hkeep _ _ (fun _ _=>rfl) hr2⟩
 ·obtain⟨t,ht⟩:∃ t:Nat,eg C o x=t:=⟨(eg C o x).toNat,by omega⟩
  have hdeep:=W.mz hl ho hx (by omega)
  have h0:0 < t:=by omega
  have htC:t < C.length:=by omega
  have hn:qp C o x=cls C t:=by unfold qp;rw[if_pos (by omega),ht,Int.toNat_natCast]
  have hnn:=W.RJ hl htC
  have hsc:=uK Aa hpre W hl hK h.ord h0 htC
  have hrf:Yl C f o rr x=(if rr.1.findIdx (fun o=> !f o t)=rr.1.length then rr.1++[t] else rr.1,zf x (rr.1.findIdx (fun o=> !f o t):Int) rr.2):=by
   unfold Yl ef
   rw[if_neg (by omega),if_neg hneg,ht,Int.toNat_natCast]
  have hoC:=(uC hf h.ord (to:=(t:Int)) (by omega)).1
  have hcl:(ef f rr.1 (t:Int)).1=if rr.1.findIdx (fun o=> !f o t)=rr.1.length then rr.1++[t] else rr.1:=by
   unfold ef
   rw[if_neg (by omega),Int.toNat_natCast]
  rw[hcl] at hoC
  have hle:rr.1.findIdx (fun o=> !f o t)≤rr.1.length:=List.findIdx_le_length
  rw[hrf]
  have hset:∀ v:Int,(∀ y,y≠x→(rt.2.set x v).getD y 0=rt.2.getD y 0)∧(rt.2.set x v).getD x 0=v:=by
   intro v
   refine⟨fun y hy=> ?_,?_⟩
   ·rw[List.getD_eq_getElem?_getD,List.getElem?_set_ne (Ne.symm hy),←List.getD_eq_getElem?_getD]
   ·rw[List.getD_eq_getElem?_getD,List.getElem?_set_self (by rw[h.len];exact hx)];rfl
  by_cases hlt:rr.1.findIdx (fun o=> !f o t) < rr.1.length
  ·rw[if_pos hlt] at hsc
   have htd:ri x (qp C o x) rt=(rt.1,rt.2.set x (rr.1.findIdx (fun o=> !f o t):Int)):=by
    unfold ri
    rw[hn,if_neg (by omega),h.fst,hsc]
   rw[htd,if_neg (by omega)]
   refine⟨h.ord,h.fst,by simp[h.len],fun y h1 h2=> ?_,?_⟩
   ·rw[(hset _).1 y (by omega)];exact h.rest y (by omega) h2
   ·exact hkeep _ _ (hset _).1 (by rw[(hset _).2])
  ·rw[if_neg hlt] at hsc
   have hfe:rr.1.findIdx (fun o=> !f o t)=rr.1.length:=by omega
   have htd:ri x (qp C o x) rt=(rt.1++[cls C t],rt.2.set x (rt.1.length:Int)):=by
    unfold ri
    rw[hn,if_neg (by omega),h.fst,hsc]
   rw[if_pos hfe] at hoC
   rw[htd,if_pos hfe]
   have hll:rt.1.length=rr.1.length:=by rw[h.fst,List.length_map]
   refine⟨hoC,?_,by simp[h.len],fun y h1 h2=> ?_,?_⟩
   ·simp only[List.map_append,List.map_cons,List.map_nil,h.fst]
    unfold co
    rw[if_neg (by omega:¬t=0)]
   ·rw[(hset _).1 y (by omega)];exact h.rest y (by omega) h2
   ·exact hkeep _ _ (hset _).1 (by rw[(hset _).2,hll,hfe])
theorem FQ {o:Nat} (ho:o < C.length) {O:List Nat} (hO:mv C.length O):Qf (Ee C.length C.flatten).C (co C o) (O.map (co C))=((Vf C f o O 256).1.map (co C),(Qf (Ee C.length C.flatten).C (co C o) (O.map (co C))).2)∧
 Ef (Qf (Ee C.length C.flatten).C (co C o) (O.map (co C))).2=(Vf C f o O 256).2∧mv C.length (Vf C f o O 256).1:=by
 have hrl:(Ta (Ee C.length C.flatten).C (co C o).toNat).length=256:=by
  refine qh (W.Ww hl).hC ?_
  unfold co
  split
  ·simp;omega
  ·have:=(W.Ww hl).Ym ho
   unfold cls;omega
 have key:∀ x,x≤256→AU C o x ((List.range x).foldl (fun r x=>ri x ((Ta (Ee C.length C.flatten).C (co C o).toNat).getD x 0) r) (O.map (co C),Ta (Ee C.length C.flatten).C (co C o).toNat)) (Vf C f o O x):=by
  intro x
  induction x with
  |zero=>
   intro _
   exact⟨hO,rfl,hrl,fun y _ hy=>iH W hl ho hy,rfl⟩
  |succ x ih=>
   intro hx
   have h1:=YO Aa hpre W hl hf hK ho (show x < 256 by omega) (ih (by omega))
   rw[yx,List.range_succ,List.foldl_append]
   have h2:(Ta (Ee C.length C.flatten).C (co C o).toNat).getD x 0=qp C o x:=iH W hl ho (by omega)
   show AU C o (x+1) (ri x ((Ta (Ee C.length C.flatten).C (co C o).toNat).getD x 0) _) _
   rw[h2]
   exact h1
 have h:=key 256 (Nat.le_refl _)
 unfold Qf
 rw[uA]
 refine⟨?_,?_,h.ord⟩
 ·rw[← h.fst]
 ·rw[Ef,iy];exact h.nV.symm
theorem MM:∀ (k:Nat) (O:List Nat) (out:List (List Xe)),mv C.length O→Fi (Ee C.length C.flatten).C k (O.map (co C),out)=((mo C f k (O,out)).1.map (co C),(mo C f k (O,out)).2)
 |0,O,out,_=>rfl
 |k+1,O,out,hO=>by
  cases ho:O[out.length]? with
  |none=>
   have h1:(O.map (co C))[out.length]? =none:=by rw[List.getElem?_map,ho];rfl
   rw[dp h1,QF (r:=(O,out)) ho]
  |some o=>
   have h1:(O.map (co C))[out.length]? =some (co C o):=by rw[List.getElem?_map,ho];rfl
   have hoC:=hO.lt o (List.mem_of_getElem? ho)
   obtain⟨q1,q2,q3⟩:=FQ Aa hpre W hl hf hK hoC hO
   rw[Fq (r:=(O.map (co C),out)) h1,tC (r:=(O,out)) ho,q2]
   have q4:(Qf (Ee C.length C.flatten).C (co C o) (O.map (co C))).1=(Vf C f o O 256).1.map (co C):=by rw[q1]
   simp only[q4]
   exact MM k _ _ q3
theorem pS (hn:0 < C.length):ym (Ee C.length C.flatten).C=(mo C f 64 ([0],[])).2:=by
 have h:=MM Aa hpre W hl hf hK 64 [0] [] ⟨by simp,by simp;exact hn⟩
 have h0:([0]:List Nat).map (co C)=[0]:=rfl
 unfold ym
 rw[← h0,h]
end
end Go.AM.B1
namespace Go.AM.B1
open Go.AM Go.AM.So
attribute [local irreducible] Sd
section
variable (call:Wa) {C:List (List Int)} (hC:uH C) (hge:∀ r∈C,∀ v∈r,-2≤v) {f:Nat→Nat→Bool} (hf:∀ a,f a a=false)
include hC hge hf
theorem CS (hn:0 < C.length) (o0:ba) (h0:∀ n,oa n o0=some o0):
 Sd (fun r=>∃ E O,r=(.exit 0,⟨E,[o0,.tok 1 O false,Px (mo C f 64 ([0],[])).2.isEmpty (FB (mo C f 64 ([0],[])).2),.tok 1 (mo C f 64 ([0],[])).2.length (mo C f 64 ([0],[])).2.isEmpty]⟩)∧E.get 2= .ptr 0 0∧E.get 11= .ptr 2 0∧0 < (mo C f 64 ([0],[])).2.length)
  (mb (ga (pa call Qc) (na 4 [2,7,9,10,11,12])) qa ⟨TV (.lit 256 (C.map Kh)) (tj C.length f) (ints [0]) 0,[o0,.tok 1 1 false,Px true (FB []),.tok 1 0 true]⟩):=by
 have hsz:=hC.sz
 refine ya (Ip (g:=ga (pa call Qc) (na 4 [2,7,9,10,11,12]))
  (fun k t=>∃ (O:List Nat) (out:List (List Xe)),t=⟨TV (.lit 256 (C.map Kh)) (tj C.length f) (ints O) out.length,[o0,.tok 1 O.length false,Px out.isEmpty (FB out),.tok 1 out.length out.isEmpty]⟩∧k+out.length=64∧mv C.length O∧0 < O.length∧out.length≤O.length∧mo C f 64 ([0],[])=mo C f k (O,out))
  qa 64 _ (by unfold qa;omega) ⟨[0],[],rfl,rfl,⟨by simp,by simp;exact hn⟩,by simp,by simp,rfl⟩ ?_) (fun r h=>h.2)
 rintro k t ⟨O,out,rfl,hk,hO,hpos,hle,hs⟩
 have hOl:=hO.len
 cases ho:O[out.length]? with
 |some o=>
  have hlt:=(List.getElem?_eq_some_iff.1 ho).1
  obtain⟨k',rfl⟩:∃ k',k=k'+1:=⟨k - 1,by omega⟩
  have hoC:=hO.lt o (List.mem_of_getElem? ho)
  obtain⟨q1,⟨t,q2⟩,_⟩:=Cz hC hf hoC hO 256 (Nat.le_refl _)
  refine ya (aD call hC hge hf o0 h0 hO ho) ?_
  rintro r rfl
  have hie:(out++[(Vf C f o O 256).2]).isEmpty=false:=by cases out <;> rfl
  have hlo:(out++[(Vf C f o O 256).2]).length=out.length+1:=by simp
  refine⟨k',by omega,(Vf C f o O 256).1,out++[(Vf C f o O 256).2],by rw[hie,hlo],by rw[hlo];omega,q1,?_,?_,?_⟩
  ·rw[q2,List.length_append];omega
  ·rw[hlo,q2,List.length_append];omega
  ·rw[hs,tC (r:=(O,out)) ho]
 |none=>
  have hge2:O.length≤out.length:=by
   rcases Nat.lt_or_ge out.length O.length with h | h
   ·rw[List.getElem?_eq_getElem h] at ho;cases ho
   ·exact h
  rw[QF (r:=(O,out)) ho] at hs
  rw[hs]
  have e1:decide ((out.length:Int) < (O.length:Int))=false:=Ja (by omega)
  have hlO:(ints O).length=O.length:=by rw[List.length_map]
  have hgen:Sd (fun r=>∃ E,r=(.exit 0,⟨E,[o0,.tok 1 O.length false,Px out.isEmpty (FB out),.tok 1 out.length out.isEmpty]⟩)∧E.get 2= .ptr 0 0∧E.get 11= .ptr 2 0)
   (ga (pa call Qc) (na 4 [2,7,9,10,11,12]) ⟨TV (.lit 256 (C.map Kh)) (tj C.length f) (ints O) out.length,[o0,.tok 1 O.length false,Px out.isEmpty (FB out),.tok 1 out.length out.isEmpty]⟩):=by
   generalize hQ:(fun r:Ex×St=>_)=Q
   generalize (PV.lit 256 (C.map Kh))=L at *
   generalize tj C.length f=M at *
   generalize hos:ints O=os at *
   generalize Px out.isEmpty (FB out)=ob at *
   simp -implicitDefEqProofs only[SX,sevalprocAttr,-List.reduceReplicate,Qc,hlO,e1,TV]
   subst hQ
   exact⟨_,rfl,by simp[Tr.aa],by simp[Tr.aa]⟩
  refine ya hgen ?_
  rintro r ⟨E,rfl,k2,k11⟩
  exact⟨E,O.length,rfl,k2,k11,by show 0 < out.length;omega⟩
end
theorem Mm {S:PV} {ss:List ic} {es:List PV} (hS:pb S ss es):
 (¬ Lc ss→Va [.agg [S]]=some (.yc [.agg [.ma],i64 84]))∧
 (Lc ss→¬Eg ss→Va [.agg [S]]=some (.yc [.agg [.ma],i64 110]))∧
 (Lc ss→Eg ss→Kg ss=none→Va [.agg [S]]=some (.yc [.agg [.ma],i64 130]))∧
 (Lc ss→Eg ss→∀ l,Kg ss=some l→Va [.agg [S]]=some (.yc [.agg [Kk l],i64 0])):=by
 have hS1:(AV.pv S).one=true:=by rcases hS.is with⟨h,_⟩ | h <;> rw[h] <;> rfl
 have hp:=QC hS
 have st0:∀ (a:PV),Ka [.box [.pv .ma]] 1 (.ptr 0 0) (.pv (.agg [.ma]))=some [.box [.pv .ma]]:=fun a=>rfl
 have ld0:xa [.box [.pv .ma]] true 1 (.ptr 0 0)=some (.pv (.agg [.ma])):=rfl
 refine⟨?_,?_,?_,?_⟩
 ·intro h
  have h1:=hp.1 h
  have b1:((84:Int) != 0)=true:=by decide
  simp -implicitDefEqProofs only[Va,SX,sevalprocAttr,-List.reduceReplicate,Ke,hS1,Je,h1,b1,st0 .ma,ld0]
 ·intro Aa hpre
  obtain⟨b,h1,hb⟩:=hp.2 Aa
  have:b=false:=by cases b with | false=>rfl | true=>exact absurd (hb.1 rfl) hpre
  subst this
  have b1:((0:Int) != 0)=false:=by decide
  simp -implicitDefEqProofs only[Va,SX,sevalprocAttr,-List.reduceReplicate,Ke,hS1,Je,h1,b1,st0 .ma,ld0]
 ·intro Aa hpre hau
  obtain⟨b,h1,hb⟩:=hp.2 Aa
  have:=hb.2 hpre
  subst this
  have hn:og ss 64 (tg ss,[])=none:=by unfold Kg at hau;simpa using hau
  have h2:=(FH hS Aa).2 hn
  have b1:((0:Int) != 0)=false:=by decide
  simp -implicitDefEqProofs only[Va,SX,sevalprocAttr,-List.reduceReplicate,Ke,hS1,Je,h1,h2,b1,st0 .ma,ld0]
 ·intro Aa hpre l hau
  obtain⟨b,h1,hb⟩:=hp.2 Aa
  have:=hb.2 hpre
  subst this
  obtain⟨p,hn,hl⟩:∃ r,og ss 64 (tg ss,[])=some r∧ym (Ee r.2.length r.2.flatten).C=l:=by
   unfold Kg at hau;simpa using hau
  obtain⟨h2,_⟩:=(FH hS Aa).1 p hn
  obtain⟨W,hlen⟩:=gF Aa.len Aa.ne hn
  have hpos:0 < p.2.length:=by
   have:=(List.getElem?_eq_some_iff.1 W.first).1
   omega
  obtain⟨f,hK,h3⟩:=gO (W.Df hlen) hpos (W.DW hlen)
  have hff:∀ a,f a a=false:=fun a=>by
   cases h:f a a with
   |false=>rfl
   |true=>exact absurd rfl (hK.snd a a h)
  have hfk:=W.known hlen hK
  have htr:=pS Aa hpre W hlen hff hfk hpos
  have hl0:=CS (Ba (fun _=>none) 8) (W.Df hlen) (W.ge hlen) hff hpos (.box [.pv .ma]) (fun n=>rfl)
  rw[htr] at hl
  rw[hl] at hl0
  have b1:((0:Int) != 0)=false:=by decide
  have hi0:ints [0]=[i64 0]:=rfl
  have ho0:FB []=[]:=rfl
  rw[hi0,ho0] at hl0
  have key:Sd (fun r=>r=PV.yc [.agg [Kk l],i64 0]) (Va [.agg [S]]):=by
   have hes:Kk l= .lit 1 (FB l):=rfl
   have hne:0 < l.length→l.isEmpty=false:=fun h=>by cases l with | nil=>simp at h | cons=>rfl
   have g1:(0 < 1)=True:=by simp
   have st1:Ka [.box [.pv .ma],.tok 1 1 false,.box [.pv .ma]] 1 (.ptr 2 0) (.pv (.agg [.ma]))=some [.box [.pv .ma],.tok 1 1 false,.box [.pv .ma]]:=rfl
   have hc4:Oa (oa 4) [.box [.pv .ma],.tok 1 1 false,Px true [],.tok 1 0 true]=some [.box [.pv .ma],.tok 1 1 false,Px true [],.tok 1 0 true]:=rfl
   have htk:∀ a b c d:ba,([a,b,c,d]:List ba).take 4=[a,b,c,d]:=fun a b c d=>rfl
   have d40:(0 < 4)=True:=by simp
   have d41:(1 < 4)=True:=by simp
   have d42:(2 < 4)=True:=by simp
   generalize hQQ:(fun r:PV=>_)=QQ
   generalize (PV.lit 256 (p.2.map Kh))=L at *
   generalize hM:tj p.2.length f=M at *
   have hMo:(AV.pv M).one=true:=by rw[← hM];rfl
   generalize p.1.map He=se at *
   simp -implicitDefEqProofs only[Va,SP,WP,fa,sevalprocAttr,-List.reduceReplicate,Ke,hS1,Je,h1,h2,h3,b1,st1,Ve,g1,Nh,AV.CB,AV.Kn,Gb,hc4,htk,d40,d41,d42,na,za,AV.cut,ta]
   refine ya hl0 ?_
   rintro r ⟨E,O,rfl,k2,k11,hpos2⟩
   rw[hne hpos2]
   have ld1:∀ (out:List PV) (a b:ba),xa [.box [.pv .ma],a,Px false out,b] true 1 (.ptr 2 0)=some (.agg [.uq 3 false 1 out]):=fun out a b=>rfl
   have st2:∀ (out:List PV) (a b c:ba),Ka [.box [.pv .ma],a,b,c] 1 (.ptr 0 0) (.agg [.uq 3 false 1 out])=some [Px false out,a,b,c]:=fun out a b c=>rfl
   have ld2:∀ (out:List PV) (a b c:ba),xa [Px false out,a,b,c] true 1 (.ptr 0 0)=some (.agg [.uq 3 false 1 out]):=fun out a b c=>rfl
   generalize FB l=out at *
   simp -implicitDefEqProofs only[SP,WP,fa,sevalprocAttr,-List.reduceReplicate,k2,k11,ld1,st2,ld2]
   subst hQQ
   rw[hes]
  exact Xn key
end Go.AM.B1
namespace Go.AM.B1
open Go.AM Go.AM.So
attribute [local irreducible] Sd
structure lD (ss:List ic):Prop where
 len:ss.length * 32≤140737488355328
 parts:∀ s∈ss,s.parts.length * 24≤140737488355328
def yz (ls:List (List (Int×Int))):List PV:=ls.map ve
def iV (ls:List (List (Int×Int))):PV:=if ls.isEmpty then .ma else .lit 1 (yz ls)
def zI (s:ic):PV:= .agg [iV s.parts,i64 s.first]
def Mn (ss:List ic):List PV:=ss.map zI
def KW (ss:List ic):PV:=if ss.isEmpty then .ma else .lit 2 (Mn ss)
abbrev kW (row:List PV) (i:Int):Tr:=(((Tr.lf.set 4 (.pv (i64 i))).set 3 (.ptr 1 0)).set 2 (.ptr 0 0)).set 1 (.pv (.rp row 0))
abbrev BE (nl:Bool) (out:List PV) (first:Int):ba:= .box [.uq 2 nl 1 out,.pv (i64 first)]
theorem EE {e:PV} {s:ic} {P:PV} {ps:List PV} (h:qf e s P ps) (hsz:s.parts.length * 24≤140737488355328):Of [e]=some (zI s):=by
 obtain⟨rfl,hP⟩:=h
 have hP1:(AV.pv P).one=true:=by rcases hP.is with⟨h,_⟩ | h <;> rw[h] <;> rfl
 have ln:=hP.Qb
 have hc3:∀ nl out n,Oa (oa 3) [.box [.pv .ma,.pv (i64 0)],BE nl out s.first,.tok 1 n nl]=some [.box [.pv .ma,.pv (i64 0)],BE nl out s.first,.tok 1 n nl]:=fun nl out n=>rfl
 have htk3:∀ a b c d:ba,([a,b,c,d]:List ba).take 3=[a,b,c]:=fun a b c d=>rfl
 have htk3':∀ a b c:ba,([a,b,c]:List ba).take 3=[a,b,c]:=fun a b c=>rfl
 have d0:(0 < 3)=True:=by simp
 have d1:(1 < 3)=True:=by simp
 have hloop:Sd (fun r=>∃ E nl,r=(.exit 0,⟨E,[.box [.pv .ma,.pv (i64 0)],BE s.parts.isEmpty (yz s.parts) s.first,.tok 1 s.parts.length nl]⟩)∧E.get 2= .ptr 0 0∧E.get 3= .ptr 1 0)
  (mb (ga (pa (Ba (fun _=>none) 8) Hd) (na 3 [1,2,3,4])) qa ⟨kW [P,i64 s.first] 0,[.box [.pv .ma,.pv (i64 0)],BE true [] s.first,.tok 1 0 true]⟩):=by
  refine ya (Kb (g:=ga (pa (Ba (fun _=>none) 8) Hd) (na 3 [1,2,3,4]))
   (fun i t=>t=⟨kW [P,i64 s.first] i,[.box [.pv .ma,.pv (i64 0)],BE (s.parts.take i).isEmpty (yz (s.parts.take i)) s.first,.tok 1 i (s.parts.take i).isEmpty]⟩)
   s.parts.length (by unfold qa;omega) _ rfl ?_ ?_) (fun r h=>h.2)
  ·rintro i t hi rfl
   obtain⟨v,hv,hpt,_⟩:=hP.Td hi []
   have a1:=hP.Kx hv
   have hnext:s.parts.take (i+1)=s.parts.take i++[s.parts[i]]:=by simp
   have hie:(s.parts.take (i+1)).isEmpty=false:=by rw[hnext];cases s.parts.take i <;> rfl
   have hcl:yz (s.parts.take (i+1))=yz (s.parts.take i)++[ve s.parts[i]]:=by rw[hnext,yz,List.map_append];rfl
   have hcn:(yz (s.parts.take i)).length=i:=by rw[yz,List.length_map,List.length_take];omega
   have hep:ve s.parts[i]= .lit 2 (Md s.parts[i]):=rfl
   rw[hep] at hcl
   have hLN:∀ st:St,st=⟨kW [P,i64 s.first] (i+1:Nat),[.box [.pv .ma,.pv (i64 0)],BE false (yz (s.parts.take (i+1))) s.first,.tok 1 (i+1) false]⟩→
    LN (fun i t=>t=⟨kW [P,i64 s.first] i,[.box [.pv .ma,.pv (i64 0)],BE (s.parts.take i).isEmpty (yz (s.parts.take i)) s.first,.tok 1 i (s.parts.take i).isEmpty]⟩)
     (fun r=>∃ E nl,r=(.exit 0,⟨E,[.box [.pv .ma,.pv (i64 0)],BE s.parts.isEmpty (yz s.parts) s.first,.tok 1 s.parts.length nl]⟩)∧E.get 2= .ptr 0 0∧E.get 3= .ptr 1 0) i (.norm,st):=by
    intro st h
    show st=_
    rw[h,hie]
   generalize LN _ _ i=QQ at hLN ⊢
   have hpz:=hpt.sz
   have hpi:=hpt.is
   have hpl:(Md s.parts[i]).length=s.parts[i].length:=by simp[Md]
   generalize s.parts[i]=l at *
   generalize (s.parts.take i).isEmpty=nl at *
   have hap1:Ub [.box [.pv .ma,.pv (i64 0)],BE nl (yz (s.parts.take i)) s.first,.tok 1 i nl,.tok 2 0 false] false .uq 2 true 16 (.uq 3 false 2 []) (.pv v)=some (.uq 3 false 2 (Md l),[.box [.pv .ma,.pv (i64 0)],BE nl (yz (s.parts.take i)) s.first,.tok 1 i nl,.tok 2 l.length false]):=by
    rcases hpi with⟨h1,h2⟩ | h1
    ·have:l.length=0:=by rw[← hpl,h2];rfl
     rw[h1,h2,this];rfl
    ·rw[h1]
     simp only[Ub,Bool.false_eq_true,if_false,List.getElem?_cons_succ,List.getElem?_cons_zero,Te,if_true,Option.bind_some]
     rw[if_pos ⟨trivial,trivial,rfl,by rw[hpl];unfold qb;simp;exact hpz⟩]
     simp[hpl]
   have hap2:Ub [.box [.pv .ma,.pv (i64 0)],BE nl (yz (s.parts.take i)) s.first,.tok 1 i nl,.tok 2 l.length false] false .uq 1 false 24 (.uq 2 nl 1 (yz (s.parts.take i))) (.pv (.lit 1 [.lit 2 (Md l)]))=some (.uq 2 false 1 (yz (s.parts.take (i+1))),[.box [.pv .ma,.pv (i64 0)],BE nl (yz (s.parts.take i)) s.first,.tok 1 (i+1) false,.tok 2 l.length false]):=by
    have:=Lg (A:=[.box [.pv .ma,.pv (i64 0)],BE nl (yz (s.parts.take i)) s.first,.tok 1 i nl,.tok 2 l.length false]) (id:=2) (n:=i) (sz:=1) (h:= .uq) (nl:=nl) (ag:=false) (bytes:=24) (es:=yz (s.parts.take i)) rfl hcn.symm (by unfold qb;omega) (.lit 2 (Md l))
    rw[this,hcl];rfl
   have e1:decide ((i:Int) < (s.parts.length:Int))=true:=Fa (by omega)
   have t2:IntKind.i64.wrap ((i:Int)+1)=((i+1:Nat):Int):=Ca (by omega)
   generalize yz (s.parts.take i)=o at *
   generalize yz (s.parts.take (i+1))=o' at *
   generalize Md l=es at *
   have pl:∀ c d,place [.box [.pv .ma,.pv (i64 0)],BE nl o s.first,c,d] 0 (.ptr 1 0)=some (.ptr 1 0):=fun c d=>rfl
   have pl':∀ c,place [.box [.pv .ma,.pv (i64 0)],BE nl o s.first,c] 0 (.ptr 1 0)=some (.ptr 1 0):=fun c=>rfl
   have ld:∀ c,xa [.box [.pv .ma,.pv (i64 0)],BE nl o s.first,c] false 1 (.ptr 1 0)=some (.uq 2 nl 1 o):=fun c=>rfl
   have st:∀ c d,Ka [.box [.pv .ma,.pv (i64 0)],BE nl o s.first,c,d] 1 (.ptr 1 0) (.uq 2 false 1 o')=some [.box [.pv .ma,.pv (i64 0)],BE false o' s.first,c,d]:=fun c d=>rfl
   have hc3':=hc3 false o' (i+1)
   simp -implicitDefEqProofs only[SP,WP,fa,sevalprocAttr,Hd,Kc,wc,ln,e1,t2,a1,Xa,pl,pl',ld,st,hap1,hap2,hc3',htk3,d0,d1,Nh,AV.CB,AV.Kn,na,za,AV.cut,ta,kW]
   exact hLN _ rfl
  ·rintro t rfl
   rw[List.take_length]
   have e1:decide ((s.parts.length:Int) < (s.parts.length:Int))=false:=Ja (by omega)
   generalize yz s.parts=o
   generalize s.parts.isEmpty=nl
   generalize hQ:(fun r:Ex×St=>r.1.stop=true∧_)=Q
   simp -implicitDefEqProofs only[SP,WP,fa,sevalprocAttr,Hd,Kc,wc,ln,e1,kW]
   subst hQ
   exact⟨rfl,_,nl,rfl,by simp[Tr.aa],by simp[Tr.aa]⟩
 have st0:Ka [.box [.pv .ma,.pv (i64 0)],.box [.pv .ma,.pv (i64 0)]] 2 (.ptr 1 0) (.pv (.agg [.ma,i64 s.first]))=some [.box [.pv .ma,.pv (i64 0)],.box [.pv .ma,.pv (i64 s.first)]]:=rfl
 have g1:(0 < 1)=True:=by simp
 have hc30:=hc3 true [] 0
 have ld1:∀ nl out c,xa [.box [.pv .ma,.pv (i64 0)],BE nl out s.first,c] true 2 (.ptr 1 0)=some (.agg [.uq 2 nl 1 out,.pv (i64 s.first)]):=fun nl out c=>rfl
 have st1:∀ nl out b c,Ka [.box [.pv .ma,.pv (i64 0)],b,c] 2 (.ptr 0 0) (.agg [.uq 2 nl 1 out,.pv (i64 s.first)])=some [BE nl out s.first,b,c]:=fun nl out b c=>rfl
 have ld2:∀ nl out b c,xa [BE nl out s.first,b,c] true 2 (.ptr 0 0)=some (.agg [.uq 2 nl 1 out,.pv (i64 s.first)]):=fun nl out b c=>rfl
 apply Xn
 unfold zI iV
 generalize yz s.parts=o at *
 generalize s.parts.isEmpty=em at *
 simp -implicitDefEqProofs only[Of,SP,WP,fa,sevalprocAttr,zh,hP1,Kc,ui,wc,Ig,st0,Ve,g1,Gb,hc30,htk3',d0,d1,na,za,AV.cut,ta]
 refine ya hloop ?_
 rintro r ⟨E,nl,rfl,k2,k3⟩
 cases em <;> simp -implicitDefEqProofs only[SP,WP,fa,sevalprocAttr,k2,k3,ld1,st1,ld2]
abbrev mW (row:List PV) (i:Int):Tr:=(((Tr.lf.set 4 (.pv (i64 i))).set 3 (.ptr 1 0)).set 2 (.ptr 0 0)).set 1 (.pv (.rp row 0))
abbrev qH (nl:Bool) (out:List PV):ba:= .box [.uq 2 nl 2 out]
theorem vP {S:PV} {ss:List ic} {es:List PV} (hS:pb S ss es) (hz:lD ss):Lh [.agg [S]]=some (.agg [KW ss]):=by
 have hS1:(AV.pv S).one=true:=by rcases hS.is with⟨h,_⟩ | h <;> rw[h] <;> rfl
 have ln:=hS.Qb
 have nQ:=hz.len
 have hc3:∀ nl out n,Oa (oa 3) [.box [.pv .ma],qH nl out,.tok 2 n nl]=some [.box [.pv .ma],qH nl out,.tok 2 n nl]:=fun nl out n=>rfl
 have htk3:∀ a b c:ba,([a,b,c]:List ba).take 3=[a,b,c]:=fun a b c=>rfl
 have d0:(0 < 3)=True:=by simp
 have d1:(1 < 3)=True:=by simp
 have hloop:Sd (fun r=>∃ E nl,r=(.exit 0,⟨E,[.box [.pv .ma],qH ss.isEmpty (Mn ss),.tok 2 ss.length nl]⟩)∧E.get 2= .ptr 0 0∧E.get 3= .ptr 1 0)
  (mb (ga (pa (Ba (fun _=>none) 8) mf) (na 3 [1,2,3,4])) qa ⟨mW [S] 0,[.box [.pv .ma],qH true [],.tok 2 0 true]⟩):=by
  refine ya (Kb (g:=ga (pa (Ba (fun _=>none) 8) mf) (na 3 [1,2,3,4]))
   (fun i t=>t=⟨mW [S] i,[.box [.pv .ma],qH (ss.take i).isEmpty (Mn (ss.take i)),.tok 2 i (ss.take i).isEmpty]⟩)
   ss.length (by unfold qa;omega) _ rfl ?_ ?_) (fun r h=>h.2)
  ·rintro i t hi rfl
   obtain⟨P,ps,hP,a1⟩:=hS.Td hi
   have hcs:=EE hP (hz.parts _ (List.getElem_mem hi))
   have hnext:ss.take (i+1)=ss.take i++[ss[i]]:=by simp
   have hie:(ss.take (i+1)).isEmpty=false:=by rw[hnext];cases ss.take i <;> rfl
   have hcl:Mn (ss.take (i+1))=Mn (ss.take i)++[zI ss[i]]:=by rw[hnext,Mn,List.map_append];rfl
   have hcn:(Mn (ss.take i)).length=i:=by rw[Mn,List.length_map,List.length_take];omega
   have hep:zI ss[i]= .agg [iV ss[i].parts,i64 ss[i].first]:=rfl
   rw[hep] at hcl hcs
   have hLN:∀ st:St,st=⟨mW [S] (i+1:Nat),[.box [.pv .ma],qH false (Mn (ss.take (i+1))),.tok 2 (i+1) false]⟩→
    LN (fun i t=>t=⟨mW [S] i,[.box [.pv .ma],qH (ss.take i).isEmpty (Mn (ss.take i)),.tok 2 i (ss.take i).isEmpty]⟩)
     (fun r=>∃ E nl,r=(.exit 0,⟨E,[.box [.pv .ma],qH ss.isEmpty (Mn ss),.tok 2 ss.length nl]⟩)∧E.get 2= .ptr 0 0∧E.get 3= .ptr 1 0) i (.norm,st):=by
    intro st h
    show st=_
    rw[h,hie]
   generalize LN _ _ i=QQ at hLN ⊢
   have hpo:(AV.pv (iV ss[i].parts)).one=true:=by unfold iV;split <;> rfl
   generalize iV ss[i].parts=pv at *
   generalize ss[i].first=fi at *
   generalize (ss.take i).isEmpty=nl at *
   have hap2:Ub [.box [.pv .ma],qH nl (Mn (ss.take i)),.tok 2 i nl] false .uq 2 true 32 (.uq 2 nl 2 (Mn (ss.take i))) (.pv (.lit 2 [.agg [pv,i64 fi]]))=some (.uq 2 false 2 (Mn (ss.take (i+1))),[.box [.pv .ma],qH nl (Mn (ss.take i)),.tok 2 (i+1) false]):=by
    have:=Lg (A:=[.box [.pv .ma],qH nl (Mn (ss.take i)),.tok 2 i nl]) (id:=2) (n:=i) (sz:=2) (h:= .uq) (nl:=nl) (ag:=true) (bytes:=32) (es:=Mn (ss.take i)) rfl hcn.symm (by unfold qb;omega) (.agg [pv,i64 fi])
    rw[this,hcl];rfl
   have e1:decide ((i:Int) < (ss.length:Int))=true:=Fa (by omega)
   have t2:IntKind.i64.wrap ((i:Int)+1)=((i+1:Nat):Int):=Ca (by omega)
   generalize Mn (ss.take i)=o at *
   generalize Mn (ss.take (i+1))=o' at *
   have pl:∀ c,place [.box [.pv .ma],qH nl o,c] 0 (.ptr 1 0)=some (.ptr 1 0):=fun c=>rfl
   have ld:∀ c,xa [.box [.pv .ma],qH nl o,c] false 1 (.ptr 1 0)=some (.uq 2 nl 2 o):=fun c=>rfl
   have st:∀ c,Ka [.box [.pv .ma],qH nl o,c] 1 (.ptr 1 0) (.uq 2 false 2 o')=some [.box [.pv .ma],qH false o',c]:=fun c=>rfl
   have hc3':=hc3 false o' (i+1)
   simp -implicitDefEqProofs only[SP,WP,fa,sevalprocAttr,mf,Zb,Xa,Cf,ln,e1,t2,a1,hcs,pl,ld,st,hap2,hpo,hc3',htk3,d0,d1,Nh,AV.CB,AV.Kn,na,za,AV.cut,ta,mW]
   exact hLN _ rfl
  ·rintro t rfl
   rw[List.take_length]
   have e1:decide ((ss.length:Int) < (ss.length:Int))=false:=Ja (by omega)
   generalize Mn ss=o
   generalize ss.isEmpty=nl
   generalize hQ:(fun r:Ex×St=>r.1.stop=true∧_)=Q
   simp -implicitDefEqProofs only[SP,WP,fa,sevalprocAttr,mf,Zb,Xa,ln,e1,mW]
   subst hQ
   exact⟨rfl,_,nl,rfl,by simp[Tr.aa],by simp[Tr.aa]⟩
 have st0:Ka [.box [.pv .ma],.box [.pv .ma]] 1 (.ptr 1 0) (.pv (.agg [.ma]))=some [.box [.pv .ma],.box [.pv .ma]]:=rfl
 have g1:(0 < 2)=True:=by simp
 have hc30:=hc3 true [] 0
 have ld1:∀ nl out c,xa [.box [.pv .ma],qH nl out,c] true 1 (.ptr 1 0)=some (.agg [.uq 2 nl 2 out]):=fun nl out c=>rfl
 have st1:∀ nl out b c,Ka [.box [.pv .ma],b,c] 1 (.ptr 0 0) (.agg [.uq 2 nl 2 out])=some [qH nl out,b,c]:=fun nl out b c=>rfl
 have ld2:∀ nl out b c,xa [qH nl out,b,c] true 1 (.ptr 0 0)=some (.agg [.uq 2 nl 2 out]):=fun nl out b c=>rfl
 apply Xn
 unfold KW
 generalize Mn ss=o at *
 generalize ss.isEmpty=em at *
 simp -implicitDefEqProofs only[Lh,SP,WP,fa,sevalprocAttr,Bj,hS1,Zb,Xa,st0,Ve,g1,Gb,hc30,htk3,d0,d1,na,za,AV.cut,ta]
 refine ya hloop ?_
 rintro r ⟨E,nl,rfl,k2,k3⟩
 cases em <;> simp -implicitDefEqProofs only[SP,WP,fa,sevalprocAttr,k2,k3,ld1,st1,ld2]
theorem sS {ls:List (List (Int×Int))} (hl:ls.length≤maxLen) (h:∀ l∈ls,l.length * 16≤140737488355328):Ze (iV ls) ls (yz ls):=by
 refine⟨?_,by simp[yz],?_,hl⟩
 ·cases ls with
  |nil=>exact .inl ⟨rfl,rfl⟩
  |cons a r=>exact .inr rfl
 ·intro k v l hv hl
  rw[yz,List.getElem?_map,hl] at hv
  simp at hv;subst hv
  exact⟨.inr rfl,h l (List.mem_of_getElem? hl)⟩
theorem sL {S:PV} {ss:List ic} {es:List PV} (hS:pb S ss es):pb (KW ss) ss (Mn ss):=by
 refine⟨?_,by simp[Mn],?_,hS.sz⟩
 ·cases ss with
  |nil=>exact .inl ⟨rfl,rfl⟩
  |cons a r=>exact .inr rfl
 ·intro k e s he hs
  rw[Mn,List.getElem?_map,hs] at he
  simp at he;subst he
  obtain⟨i,hi⟩:=List.getElem_of_mem (List.mem_of_getElem? hs)
  obtain⟨hk,hks⟩:=List.getElem?_eq_some_iff.1 hs
  obtain⟨e',P,ps,_,_,hP⟩:=hS.get hk
  rw[hks] at hP
  exact⟨iV s.parts,yz s.parts,rfl,sS hP.parts.sz (hS.OW s (List.mem_of_getElem? hs))⟩
end Go.AM.B1
namespace Go.AM.B1
open Go.AM Go.AM.So
attribute [local irreducible] Sd
end Go.AM.B1
namespace Go.AM.B1
open Go.AM
def fC (l:List (List Xe)):Nat→Int→List Int→Int×Int
 |i,_,[]=>(i,2)
 |i,st,b::r=>if (xA l st b).2=false then ((i:Int),3) else if (xA l st b).1= -1 then (((i+1:Nat):Int),1) else fC l (i+1) (xA l st b).1 r
section
variable (call:Wa) (A B:PV) (l:List (List Xe)) (hA:Im A l) (bs:List Int) (hB:Ai 1 B (bs.map u8)) (hb:∀ b∈bs,0≤b∧b≤255) (hw:bs.length≤maxLen)
include hA hB hb hw
end
end Go.AM.B1
namespace Go.AM.B1
open Go.AM
section
variable (A:PV) (l:List (List Xe)) (hA:Im A l)
include hA
end
section
variable (call:Wa) (av bs:List PV) (i:Nat) (a b:List Xe) (V W:PV) (hia:i < av.length) (hib:i < bs.length) (hV:av[i]? =some V) (hW:bs[i]? =some W) (hVL:Ai 3 V (a.map xE)) (hWL:Ai 3 W (b.map xE)) (hw:a.length≤maxLen)
include hia hV hVL
include hib hW hWL hw
end
end Go.AM.B1
namespace Go.AM.B1
open Go.AM
section
variable (A B:PV) (l m:List (List Xe)) (hA:Im A l) (hB:Im B m)
include hA hB
end
end Go.AM.B1
namespace Go.AM.B1
open Go.AM Go.AM.So
theorem TA (row:List Int):∀ (xs:List Nat) (l:List Xe),(fe row xs l).length≤l.length+xs.length
 | [],l=>by simp[fe]
 |x::xs,l=>by
  rw[fe]
  have h1:=TA row xs (zf x (row.getD x 0) l)
  have h2:=GF x (row.getD x 0) l
  simp only[List.length_cons];omega
theorem EK (row:List Int):(Ef row).length≤256:=by
 have:=TA row (List.range 256) []
 simpa[Ef] using this
theorem IC (C:List Int):∀ (k:Nat) (r:List Int×List (List Xe)),(Fi C k r).2.length≤r.2.length+k∧∀ e∈(Fi C k r).2,e∈r.2∨e.length≤256
 |0,r=>⟨by simp[Fi],fun e he=> .inl he⟩
 |k+1,r=>by
  cases ho:r.1[r.2.length]? with
  |none=>rw[dp ho];exact⟨by omega,fun e he=> .inl he⟩
  |some o=>
   rw[Fq ho]
   obtain⟨h1,h2⟩:=IC C k ((Qf C o r.1).1,r.2++[Ef (Qf C o r.1).2])
   simp only[List.length_append,List.length_singleton] at h1
   refine⟨by omega,fun e he=> ?_⟩
   rcases h2 e he with h3 | h3
   ·simp only[List.mem_append,List.mem_singleton] at h3
    rcases h3 with h3 | h3
    ·exact .inl h3
    ·refine .inr ?_;rw[h3];exact EK _
   ·exact .inr h3
theorem QN (C:List Int) (k:Nat) (o:List Int):(Fi C k (o,[])).2.length≤k∧∀ e∈(Fi C k (o,[])).2,e.length≤256:=by
 have h:=IC C k (o,[])
 generalize Fi C k (o,[])=r at h ⊢
 refine⟨by simpa using h.1,fun e he=> ?_⟩
 rcases h.2 e he with h | h
 ·cases h
 ·exact h
set_option maxRecDepth 8000 in
theorem kN (C:List Int):(ym C).length≤64∧∀ e∈ym C,e.length≤256:=QN C 64 [0]
theorem zz {ss:List ic} {l:List (List Xe)} (h:Kg ss=some l):l.length≤64∧∀ e∈l,e.length≤256:=by
 unfold Kg at h
 rw[Option.map_eq_some_iff] at h
 obtain⟨r,_,rfl⟩:=h
 exact kN _
theorem FI (e:List Xe):Ai 3 (Ud e) (e.map xE):=by
 unfold Ud
 cases e with
 |nil=>exact .inl ⟨rfl,rfl⟩
 |cons a r=>exact .inr rfl
theorem vC {l:List (List Xe)} (h1:l.length≤64) (h2:∀ e∈l,e.length≤256):Im (Kk l) l:=by
 refine⟨⟨l.map Ud,.inr rfl,by simp,?_⟩,by omega,fun e he=>by have:=h2 e he;omega⟩
 intro i v e hv he
 rw[List.getElem?_map,he] at hv
 simp at hv;subst hv
 exact FI e
theorem pA:Im .ma []:=⟨⟨[],.inl ⟨rfl,rfl⟩,rfl,by simp⟩,by simp,by simp⟩
theorem zL (ss:List ic):∃ (V:PV) (l:List (List Xe)) (n:Int),Im V l∧(n=0↔∃ l',Kg ss=some l'∧Lc ss∧Eg ss∧V=Kk l'∧l=l')∧(n≠0→V= .ma)∧
 (∀ (A:PV) (ea:List PV),pb A ss ea→Cc [.agg [A]]=some (.yc [.agg [V],i64 n]))∧(∀ (A:PV) (ea:List PV),pb A ss ea→Va [.agg [A]]=some (.yc [.agg [V],i64 n])):=by
 by_cases h1:Lc ss
 ·by_cases h2:Eg ss
  ·cases h3:Kg ss with
   |none=>exact⟨.ma,[],130,pA,⟨fun h=>(by cases h),fun ⟨_,h,_⟩=>(by cases h)⟩,fun _=>rfl,fun A ea h=>(Th h).2.2.1 h1 h2 h3,fun A ea h=>(Mm h).2.2.1 h1 h2 h3⟩
   |some l=>
    obtain⟨k1,k2⟩:=zz h3
    exact⟨Kk l,l,0,vC k1 k2,⟨fun _=>⟨l,rfl,h1,h2,rfl,rfl⟩,fun _=>rfl⟩,fun h=>absurd rfl h,fun A ea h=>(Th h).2.2.2 h1 h2 l h3,fun A ea h=>(Mm h).2.2.2 h1 h2 l h3⟩
  ·exact⟨.ma,[],110,pA,⟨fun h=>(by cases h),fun ⟨_,_,_,h,_⟩=>absurd h h2⟩,fun _=>rfl,fun A ea h=>(Th h).2.1 h1 h2,fun A ea h=>(Mm h).2.1 h1 h2⟩
 ·exact⟨.ma,[],84,pA,⟨fun h=>(by cases h),fun ⟨_,_,h,_⟩=>absurd h h1⟩,fun _=>rfl,fun A ea h=>(Th h).1 h1,fun A ea h=>(Mm h).1 h1⟩
end Go.AM.B1
namespace Go.AM.B1
open Go.AM Go.AM.So
def rn (es:List Xe):PV:= .agg ((List.range 256).map fun b=> .int .i8 (Ml es b))
theorem yA {α:Type} {cs vs:List α} (h:vs.length=cs.length):fa cs 0 vs=vs:=by
 apply List.ext_getElem?
 intro p
 rw[So.Rg]
 by_cases hp:p < cs.length
 ·rw[dif_pos ⟨by omega,by omega,hp⟩];simp
 ·rw[dif_neg (by omega),List.getElem?_eq_none (by omega),List.getElem?_eq_none (by omega)]
theorem setRow_self {α:Type} (cs:List α):fa cs 0 cs=cs:=yA rfl
theorem wM:ba.box ((List.replicate 256 (PV.int .i8 0)).map .pv)=b8 fun _=>0:=by
 unfold b8 cellsOf
 rw[List.map_const',List.length_range,List.map_replicate]
theorem sT (n:Nat):(List.replicate n (AV.pv (.int .i8 0))).all AV.one=true:=by
 rw[List.all_eq_true];intro x hx;rw[List.eq_of_mem_replicate hx];rfl
def Lu (o0 o1 o4 o5:ba) (c0 c1 c3 c4 c5:AV) (nl:Bool) (es:List PV):List ba:=[o0,o1,.box [c0,c1,.uq 3 nl 256 es,c3,c4,c5],.tok 256 es.length nl,o4,o5]
section
variable {call:Wa} {o0 o1 o4 o5:ba} {c0 c1 c3 c4 c5:AV}
 (hg:∀ nl es,Fe (Lu o0 o1 o4 o5 c0 c1 c3 c4 c5 nl es))
include hg
theorem qQ {E:Tr} {V:PV} {l:List (List Xe)} {i:Nat} {nl:Bool} {es:List PV} (hV:Ai 1 V (l.map Ud)) (hl:l.length≤64) (hle:∀ e∈l,e.length≤256) (Aa:∀ e∈l,Qm e) (hi:i < l.length) (he:es.length=i)
 (h8:E.get 8= .ptr 2 0) (h101:E.get 101= .pv V) (h102:E.get 102= .pv (i64 l.length)) (h103:E.get 103= .pv (i64 i)):
 Sd (fun r=>∃ E',r=(.norm,⟨E',Lu o0 o1 o4 o5 c0 c1 c3 c4 c5 false (es++[rn l[i]])++[b8 (Ml l[i])]⟩)∧Mc [8,101,102] E E'∧E'.get 103= .pv (i64 (i+1:Nat)))
  (pa call wh ⟨E,Lu o0 o1 o4 o5 c0 c1 c3 c4 c5 nl es⟩):=by
 have hV1:=hV.lit (i:=i) (by simpa using hi)
 have hml:=List.getElem_mem hi
 have hie:=Aa _ hml
 have hilen:=hle _ hml
 have hA:=hg nl es
 have hAl:(Lu o0 o1 o4 o5 c0 c1 c3 c4 c5 nl es).length=6:=rfl
 have e1:decide ((i:Int) < (l.length:Int))=true:=Fa (by omega)
 have t1:IntKind.i64.wrap ((i:Int)+1)=((i+1:Nat):Int):=xk (by omega)
 have hvc:(Ud l[i]).cells=[Ud l[i]]:=by unfold Ud;split <;> rfl
 have a1:wa (Lu o0 o1 o4 o5 c0 c1 c3 c4 c5 nl es) 1 (.pv V) (i:Int)=some (.pv (.rp [Ud l[i]] 0)):=by
  rw[hV1]
  simp only[wa]
  rw[if_pos ⟨trivial,by unfold Ea;rw[List.length_map];omega⟩,Int.toNat_natCast,List.getElem?_map,List.getElem?_eq_getElem hi,Option.map_some,Option.map_some,hvc]
 have hL:=FI l[i]
 have lL:=hL.len
 rw[List.length_map] at lL
 have hclr:=fun (E2:Tr) (q8:E2.get 8= .ptr 2 0) (q12:E2.get 12= .pv (Ud l[i])) (q13:E2.get 13= .ptr 6 0) (q101:E2.get 101= .pv V) (q102:E2.get 102= .pv (i64 l.length)) (q103:E2.get 103= .pv (i64 i)) (q108:E2.get 108= .pv (i64 0))=>
  vQ (call:=call) hA (g0:=fun _=>0) (tb:=2) (by rw[hAl];omega) q8 q12 q13 q101 q102 q103 q108
 have hedg:=fun (E2:Tr) (q8:E2.get 8= .ptr 2 0) (q13:E2.get 13= .ptr 6 0) (q101:E2.get 101= .pv V) (q102:E2.get 102= .pv (i64 l.length)) (q103:E2.get 103= .pv (i64 i)) (q114:E2.get 114= .pv (Ud l[i])) (q115:E2.get 115= .pv (i64 l[i].length)) (q116:E2.get 116= .pv (i64 0))=>
  zS (call:=call) hA (tb:=2) hie hL hilen (by rw[hAl];omega) q8 q13 q101 q102 q103 q114 q115 q116
 generalize l[i]=ed at *
 have s0:Ka (Lu o0 o1 o4 o5 c0 c1 c3 c4 c5 nl es++[b8 fun _=>0]) 256 (.ptr 6 0) (.pv (.agg (List.replicate 256 (PV.int .i8 0))))=some (Lu o0 o1 o4 o5 c0 c1 c3 c4 c5 nl es++[b8 fun _=>0]):=by
  have hq:=aj (Lu o0 o1 o4 o5 c0 c1 c3 c4 c5 nl es) (b8 fun _=>0)
  have hs:=Pm (Lu o0 o1 o4 o5 c0 c1 c3 c4 c5 nl es) (b8 fun _=>0) (b8 fun _=>0)
  rw[hAl] at hq hs
  simp only[Ka,hq,AV.cells,PV.cells,List.length_map,List.length_replicate,List.map_replicate]
  rw[if_pos ⟨trivial,sT 256⟩]
  rw[← wM,List.map_replicate] at hs ⊢
  simp only[List.length_replicate]
  rw[if_pos (by omega),setRow_self,hs]
 generalize hA1:Lu o0 o1 o4 o5 c0 c1 c3 c4 c5 nl es++[b8 fun _=>0]=A1 at *
 have hbz:Lu o0 o1 o4 o5 c0 c1 c3 c4 c5 nl es++[ba.box ((List.replicate 256 (PV.int .i8 0)).map .pv)]=A1:=by rw[wM];exact hA1
 have hap:=So.bf (List.replicate 256 (PV.int .i8 0))
 rw[List.map_replicate] at hap hbz
 generalize hA0:Lu o0 o1 o4 o5 c0 c1 c3 c4 c5 nl es=A0 at *
 generalize hQ:(fun r:Ex×St=>∃ E',r=_∧_)=Q
 simp -implicitDefEqProofs only[SX,sevalprocAttr,-List.reduceReplicate,wh,h8,h101,h102,h103,e1,a1,Xa,hap,hAl,hbz,s0,List.map_replicate]
 generalize hEE:(Tr.set _ 108 _:Tr)=E2
 have k2:Mc [8,101,102,103] E E2:=by
  rw[← hEE]
  repeat refine Mc.set ?_ rfl
  exact Mc.refl _ _
 have q12:E2.get 12= .pv (Ud ed):=by rw[← hEE];simp[Tr.aa,-List.reduceReplicate]
 have q13:E2.get 13= .ptr 6 0:=by rw[← hEE];simp[Tr.aa,-List.reduceReplicate]
 have q108:E2.get 108= .pv (i64 0):=by rw[← hEE];simp[Tr.aa,-List.reduceReplicate]
 refine ya (hclr E2 ((k2 8 (by simp)).trans h8) q12 q13 ((k2 101 (by simp)).trans h101) ((k2 102 (by simp)).trans h102) ((k2 103 (by simp)).trans h103) q108) ?_
 rintro r ⟨_,E3,rfl,k3⟩
 have k3:Mc [8,12,13,101,102,103] E2 E3:=k3
 have z12:=(k3 12 (by simp)).trans q12
 simp -implicitDefEqProofs only[SX,sevalprocAttr,-List.reduceReplicate,z12,lL]
 generalize hEE4:(Tr.set _ 116 _:Tr)=E4
 have k4:Mc [8,101,102,103] E E4:=by
  rw[← hEE4]
  repeat refine Mc.set ?_ rfl
  exact k2.trans (Mc.sub k3 rfl)
 have q13:E4.get 13= .ptr 6 0:=by rw[← hEE4];simp[Tr.aa];exact (k3 13 (by simp)).trans q13
 have q114:E4.get 114= .pv (Ud ed):=by rw[← hEE4];simp[Tr.aa]
 have q115:E4.get 115= .pv (i64 ed.length):=by rw[← hEE4];simp[Tr.aa]
 have q116:E4.get 116= .pv (i64 0):=by rw[← hEE4];simp[Tr.aa]
 refine ya (hedg E4 ((k4 8 (by simp)).trans h8) q13 ((k4 101 (by simp)).trans h101) ((k4 102 (by simp)).trans h102) ((k4 103 (by simp)).trans h103) q114 q115 q116) ?_
 rintro r ⟨_,E5,rfl,k5⟩
 have k5:Mc [8,13,101,102,103] E4 E5:=k5
 have k5':Mc [8,101,102,103] E E5:=k4.trans (Mc.sub k5 rfl)
 have z8:=(k5' 8 (by simp)).trans h8
 have z103:=(k5' 103 (by simp)).trans h103
 have z13:=(k5 13 (by simp)).trans q13
 have p2:∀ d,place (A0++[b8 (Ml ed)]) d (.ptr 2 0)=some (.ptr 2 (0+d)):=fun d=>qe (by rw[← hA0];rfl) d 0
 have l2:xa (A0++[b8 (Ml ed)]) false 1 (.ptr 2 2)=some (.uq 3 nl 256 es):=by rw[← hA0];rfl
 have l13:xa (A0++[b8 (Ml ed)]) true 256 (.ptr 6 0)=some (.pv (rn ed)):=by
  have hgt:(A0++[b8 (Ml ed)])[6]? =some (b8 (Ml ed)):=by rw[← hA0];rfl
  have hl:(cellsOf 256 fun b=>AV.pv (.int .i8 (Ml ed b))).length=256:=bg _ _
  have:cellsOf 256 (fun b=>AV.pv (.int .i8 (Ml ed b)))=((List.range 256).map fun b=>PV.int .i8 (Ml ed b)).map .pv:=by rw[cellsOf,List.map_map];rfl
  rw[xa,hgt]
  show Ag true 256 (cellsOf 256 fun b=>AV.pv (.int .i8 (Ml ed b))) 0=_
  rw[Ag,if_pos rfl,if_pos (by rw[hl];exact Nat.le_refl _),List.drop_zero,List.take_of_length_le (by rw[hl];exact Nat.le_refl _),this,mq,So.bf];rfl
 have hap2:Ub (A0++[b8 (Ml ed)]) false .uq 256 true 256 (.uq 3 nl 256 es) (.pv (.lit 256 [rn ed]))=some (.uq 3 false 256 (es++[rn ed]),[o0,o1,.box [c0,c1,.uq 3 nl 256 es,c3,c4,c5],.tok 256 (es.length+1) false,o4,o5,b8 (Ml ed)]):=by
  rw[← hA0]
  simp only[Ub,Lu,Te,List.cons_append,List.nil_append,List.getElem?_cons_succ,List.getElem?_cons_zero,if_true,Option.bind_some,List.length_cons,List.length_nil]
  rw[if_neg (by simp)]
  rw[if_pos ⟨trivial,trivial,trivial,by unfold qb;omega⟩]
  simp
 have p3:∀ d,place [o0,o1,.box [c0,c1,.uq 3 nl 256 es,c3,c4,c5],.tok 256 (es.length+1) false,o4,o5,b8 (Ml ed)] d (.ptr 2 0)=some (.ptr 2 (0+d)):=fun d=>qe rfl d 0
 have s3:Ka [o0,o1,.box [c0,c1,.uq 3 nl 256 es,c3,c4,c5],.tok 256 (es.length+1) false,o4,o5,b8 (Ml ed)] 1 (.ptr 2 2) (.uq 3 false 256 (es++[rn ed]))=some (Lu o0 o1 o4 o5 c0 c1 c3 c4 c5 false (es++[rn ed])++[b8 (Ml ed)]):=by
  have:(es++[rn ed]).length=es.length+1:=by simp
  unfold Lu
  rw[this];rfl
 obtain⟨N,hN⟩:∃ N,N=(List.range 256).map fun b=>PV.int .i8 (Ml ed b):=⟨_,rfl⟩
 have hNl:N.length=256:=by rw[hN,List.length_map,List.length_range]
 have hNo:(N.map AV.pv).all AV.one=true:=by
  rw[hN,List.all_eq_true];intro x hx
  rw[List.mem_map] at hx;obtain⟨y,hy,rfl⟩:=hx
  rw[List.mem_map] at hy;obtain⟨z,_,rfl⟩:=hy
  rfl
 have hNP:rn ed= .agg N:=by rw[hN];rfl
 rw[hNP] at l13 hap2 s3 hQ
 have m0:(PV.agg N).cells=N:=rfl
 have m1:fa (List.map AV.pv (List.replicate 256 (PV.int .i8 0))++[]) 0 (N.map .pv)=N.map .pv:=yA (by rw[List.length_map,List.length_append,List.length_map,List.length_replicate,hNl];rfl)
 have m2:(N.map AV.pv).length=256:=by rw[List.length_map,hNl]
 have m3:=So.bf N
 have m5:(256≤(List.map AV.pv (List.replicate 256 (PV.int .i8 0))++[]).length)=True:=eq_true (by rw[List.length_append,List.length_map,List.length_replicate];exact Nat.le_add_right _ _)
 have m6:List.take 256 N=N:=List.take_of_length_le (by omega)
 clear hN hNP
 simp -implicitDefEqProofs only[SP,WP,fa,sevalprocAttr,-List.reduceReplicate,z8,z103,z13,p2,l2,l13,hap2,p3,s3,t1,m0,m1,m2,m3,m5,m6,hNo]
 subst hQ
 refine⟨_,rfl,?_,by simp[Tr.aa]⟩
 repeat refine Mc.set ?_ rfl
 exact Mc.sub k5' rfl
end
end Go.AM.B1
namespace Go.AM.B1
open Go.AM Go.AM.So
theorem Tt {p:Int×Int} (h0:0≤p.1) (h1:p.1≤p.2):((uf 0 p).length:Int)=p.2 - p.1+1:=by
 rw[cI h0 h1,List.length_map,List.length_range];omega
theorem Py {p:Int×Int} (h0:0≤p.1) (h1:p.1≤p.2) {k:Nat} (hk:(k:Int) < p.2 - p.1+1):(uf 0 p)[k]? =some (p.1+k):=by
 rw[cI h0 h1,List.getElem?_map,List.getElem?_range (by omega)];rfl
theorem Qy {top:Int}:∀ {l:List (Int×Int)} {last:Int} (n:Int),Ma top last l=true→Sc n l=n+(Sj l).length
 | [],_,n,_=>by simp[Sc,Sj]
 |p::l,last,n,h=>by
  obtain⟨h1,h2,h3,h4,h5⟩:=ae h
  replace h1:0≤p.1:=by omega
  replace h2:p.1≤p.2:=by omega
  have hl:=Tt h1 h2
  rw[Sc,Qy _ h5,Sj,List.length_append]
  omega
theorem Bs {top:Int}:∀ {l:List (Int×Int)} {last:Int} {n x:Int} {k:Nat},Ma top last l=true→(Sj l)[k]? =some x→pg x n l=(n+k,true)∧0≤x∧x≤top∧last+1 < x
 | [],_,n,x,k,_,hk=>by simp[Sj] at hk
 |p::l,last,n,x,k,h,hk=>by
  obtain⟨h1,h2,h3,h4,h5⟩:=ae h
  replace h1:0≤p.1:=by omega
  replace h2:p.1≤p.2:=by omega
  have hl:=Tt h1 h2
  rw[Sj] at hk
  rcases Nat.lt_or_ge k (uf 0 p).length with hlt | hge
  ·rw[List.getElem?_append_left hlt,Py h1 h2 (by omega)] at hk
   injection hk with hk
   subst hk
   rw[pg,if_neg (by omega),if_pos (by omega)]
   exact⟨by rw[Prod.mk.injEq];exact⟨by omega,rfl⟩,by omega,by omega,by omega⟩
  ·rw[List.getElem?_append_right hge] at hk
   obtain⟨g1,g2,g3,g4⟩:=Bs (n:=n+(p.2 - p.1+1)) h5 hk
   rw[pg,if_neg (by omega),if_neg (by omega),g1]
   exact⟨by rw[Prod.mk.injEq];exact⟨by omega,rfl⟩,g2,g3,by omega⟩
theorem Kt {top:Int}:∀ {l:List (Int×Int)} {last:Int} {n x:Int},Ma top last l=true→(pg x n l).2=true→∃ k:Nat,(Sj l)[k]? =some x∧(pg x n l).1=n+k
 | [],_,n,x,_,hk=>by simp[pg] at hk
 |p::l,last,n,x,h,hk=>by
  obtain⟨h1,h2,h3,h4,h5⟩:=ae h
  replace h1:0≤p.1:=by omega
  replace h2:p.1≤p.2:=by omega
  have hl:=Tt h1 h2
  rw[pg] at hk ⊢
  by_cases c1:x < p.1
  ·rw[if_pos c1] at hk;cases hk
  ·rw[if_neg c1] at hk ⊢
   by_cases c2:x≤p.2
   ·rw[if_pos c2]
    refine⟨(x - p.1).toNat,?_,by show n+x - p.1=_;omega⟩
    rw[Sj,List.getElem?_append_left (by omega),Py h1 h2 (by omega)]
    congr 1;omega
   ·rw[if_neg c2] at hk ⊢
    obtain⟨k,g1,g2⟩:=Kt h5 hk
    refine⟨(uf 0 p).length+k,?_,by rw[g2];omega⟩
    rw[Sj,List.getElem?_append_right (by omega),Nat.add_sub_cancel_left];exact g1
end Go.AM.B1
namespace Go.AM.B1
open Go.AM Go.AM.So
theorem FF:∀ (l:List (Int×Int)),Oa nF (Md l)=some l
 | []=>rfl
 |p::l=>by
  show (nF (pr p)).bind _=_
  have:nF (pr p)=some p:=rfl
  rw[this,Option.bind_some]
  show ((Oa nF (Md l)).bind fun bs=>some (p::bs))=_
  rw[FF l];rfl
theorem pO {v:PV} {l:List (Int×Int)} (h:Ai 2 v (Md l)):gD v=some l:=by
 rcases h with⟨rfl,h⟩ | rfl
 ·cases l with
  |nil=>rfl
  |cons p l=>cases h
 ·exact FF l
theorem WB {v:PV} {l:List (Int×Int)} (h:Ai 2 v (Md l)) (hv:Ma 255 (-2) l=true) (hlen:l.length≤4611686018427387904):
 Zj [.rp [v] 0,.rp [i64 0] 0]=some ((Sj l).map fun x=>[i64 x]):=by
 have hsm:l.all gH=true:=by
  have:∀ (l:List (Int×Int)) (last:Int),Ma 255 last l=true→l.all gH=true:=by
   intro l
   induction l with
   |nil=>intro _ _;rfl
   |cons p l ih=>
    intro last h
    obtain⟨h1,h2,h3,h4,h5⟩:=ae h
    rw[List.all_cons,ih _ h5,Bool.and_true]
    exact decide_eq_true (by omega)
  exact this l _ hv
 simp only[Zj,pO h,Option.bind_some,hsm,Bool.true_and]
 rw[if_pos (decide_eq_true (by omega)),uU]
theorem pE {v:PV} {l:List (Int×Int)} (hv:Bn v l) (hp:Pd l):∃ u,Ai 2 u (Md l)∧∀ H,Ba zg 8 39 [.pv v,.pv (i64 0)] H=some (.uk 35 [.pv (.rp [u] 0),.pv (.rp [i64 0] 0)],H):=by
 obtain⟨u,q1,q2⟩:=Cw v l hv.is hv.sz
 rw[WL hp.2] at q2
 refine⟨u,q2,fun H=> ?_⟩
 have hu1:(AV.pv u).one=true:=by rcases q2 with⟨h,_⟩ | h <;> rw[h] <;> rfl
 have huc:(AV.pv u).cells=[.pv u]:=by rcases q2 with⟨h,_⟩ | h <;> rw[h] <;> rfl
 have c38:zg 38=some Bt:=rfl
 rw[ey zg 7 39 _ H (f:=yl) rfl]
 simp -implicitDefEqProofs only[SX,sevalprocAttr,yl,Bt,q1,c38,hu1,huc]
end Go.AM.B1
namespace Go.AM.B1
open Go.AM Go.AM.So
def nW (v:AV) (H:List ba) (es:List PV):Prop:=(es=[]∧v= .pv .ma)∨(∃ tk,es≠[]∧v= .uq tk false 1 es∧H[tk]? =some (.tok 1 es.length false))
theorem FT {x:Int} (h0:0≤x) (h1:x≤255):IntKind.u8.wrap x=x:=by
 unfold IntKind.wrap
 simp[IntKind.signed,IntKind.bits]
 omega
theorem dQ {x:Int} (h0:0≤x) (h1:x≤65535):IntKind.u16.wrap x=x:=by
 unfold IntKind.wrap
 simp[IntKind.signed,IntKind.bits]
 omega
theorem bQ (call:Wa) {e:Tr} {H:List ba} {bx oid m off fl:Nat} {g:Nat→AV} {x:Int} {es:List PV} (h6:e.get 6= .ptr bx 0) (h7:e.get 7= .pv (i64 x)) (hb:H[bx]? =some (.box [.Fc oid m off])) (ho:H[oid]? =some (.seq 258 true (cellsOf m g) fl false))
 (hoff:off+258≤m) (hx0:0≤x) (hx1:x≤255) (hB:nW (g off) H es) (hlen:es.length≤255):
 ∃ s' fl' v,fl'≤m∧pa call Vj ⟨e,H⟩=some (.norm,s')∧s'.H[bx]? =some (.box [.Fc oid m off])∧
  s'.H[oid]? =some (.seq 258 true (cellsOf m (yu (yu g off v) (off+1+x.toNat) (.pv (.int .u16 (es.length+1))))) fl' false)∧nW v s'.H (es++[.int .u8 x])∧∀ (j:Nat) c,H[j]? =some (.box c)→s'.H[j]? =some (.box c):=by
 have hbo:bx≠oid:=by intro e;subst e;rw[hb] at ho;cases ho
 have wx:=FT hx0 hx1
 have l6:xa H false 1 (.ptr bx 0)=some (.Fc oid m off):=by simp[xa,hb,Ag]
 have lo:=DD (off:=off) ho rfl (by omega)
 have po:∀ d,place H d (.Fc oid m off)=some (.Fc oid m (off+d)):=fun d=>Es ho rfl
 have app:∃ v H1,Ub H false .uq 1 false 1 (g off) (.pv (.lit 1 [.int .u8 x]))=some (v,H1)∧nW v H1 (es++[.int .u8 x])∧H1[bx]? =some (.box [.Fc oid m off])∧H1[oid]? =some (.seq 258 true (cellsOf m g) fl false)∧v.cells=[v]∧v.one=true∧(∀ K,Qb K 0 v=some (es.length+1))∧∀ (j:Nat) c,H[j]? =some (.box c)→H1[j]? =some (.box c):=by
  rcases hB with⟨rfl,hg⟩ | ⟨tk,hne,hg,htk⟩
  ·refine⟨.uq H.length false 1 [.int .u8 x],H++[.tok 1 1 false],by rw[hg];simp[Ub,Te,Hn],.inr ⟨H.length,by simp,rfl,by simp⟩,?_,?_,rfl,rfl,fun _=>rfl,fun j c hj=>by rw[getElem?_push (getElem?_lt hj)];exact hj⟩
   ·rw[getElem?_push (getElem?_lt hb)];exact hb
   ·rw[getElem?_push (getElem?_lt ho)];exact ho
  ·have h1:tk≠bx:=by intro e;subst e;rw[hb] at htk;cases htk
   have h2:tk≠oid:=by intro e;subst e;rw[ho] at htk;cases htk
   refine⟨.uq tk false 1 (es++[.int .u8 x]),H.set tk (.tok 1 (es.length+1) false),?_,.inr ⟨tk,by simp,rfl,by rw[List.getElem?_set_self (getElem?_lt htk)];simp⟩,?_,?_,rfl,rfl,fun _=>by simp[Qb],fun j c hj=>by rw[List.getElem?_set_ne (fun e=>by subst e;rw[htk] at hj;cases hj)];exact hj⟩
   ·rw[hg];simp[Ub,Te,htk];omega
   ·rw[List.getElem?_set_ne h1];exact hb
   ·rw[List.getElem?_set_ne h2];exact ho
 obtain⟨v,H1,ha,hB1,hb1,ho1,hv1,hv2,hv3,hbox⟩:=app
 have po1:∀ d,place H1 d (.Fc oid m off)=some (.Fc oid m (off+d)):=fun d=>Es ho1 rfl
 have st1:=Sz (off:=off) ho1 rfl (by omega) hv1 hv2
 generalize hH2:H1.set oid (.seq 258 true (cellsOf m (yu g off v)) m false)=H2 at st1
 have hb2:H2[bx]? =some (.box [.Fc oid m off]):=by rw[← hH2,List.getElem?_set_ne (Ne.symm hbo)];exact hb1
 have ho2:H2[oid]? =some (.seq 258 true (cellsOf m (yu g off v)) m false):=by rw[← hH2,List.getElem?_set_self (getElem?_lt ho1)]
 have l62:xa H2 false 1 (.ptr bx 0)=some (.Fc oid m off):=by simp[xa,hb2,Ag]
 have lo2:=DD (off:=off) ho2 rfl (by omega)
 rw[Ps] at lo2
 have po2:∀ d off',place H2 d (.Fc oid m off')=some (.Fc oid m (off'+d)):=fun d off'=>Es ho2 rfl
 have w2:IntKind.u16.wrap ((es.length+1:Nat):Int)=(es.length:Int)+1:=by rw[dQ (by omega) (by omega)];omega
 have st2:=Sz (off:=off+1+x.toNat) (v:= .pv (.int .u16 ((es.length:Int)+1))) ho2 rfl (by omega) rfl rfl
 have hidx:(0≤x∧x < ((256:Nat):Int))=True:=eq_true (by omega)
 generalize hH3:H2.set oid (.seq 258 true (cellsOf m (yu (yu g off v) (off+1+x.toNat) (.pv (.int .u16 ((es.length:Int)+1))))) m false)=H3 at st2
 have key:Sd (fun r=>r.1= .norm∧r.2.H=H3) (pa call Vj ⟨e,H⟩):=by
  clear hB hB1 hb ho hb1 ho1 hb2 ho2 hH2 hH3
  have hsr:fa [AV.pv (PV.int .u8 0)] 0 [AV.pv (PV.int .u8 x)]=[AV.pv (PV.int .u8 x)]:=rfl
  have hal:([AV.pv (PV.int .u8 x)].all AV.one=true)=True:=eq_true rfl
  have hfr:fresh H .lit 1 false 1 [AV.pv (PV.int .u8 x)]=some (.pv (.lit 1 [.int .u8 x]),H):=rfl
  generalize hQ:(fun r:Ex×St=>r.1=Ex.norm∧_)=Q
  simp -implicitDefEqProofs only[SX,sevalprocAttr,Vj,h6,h7,l6,lo,po,wx,ha,po1,st1,l62,lo2,po2,hv3,w2,hidx,st2,hsr,hal,hfr]
  subst hQ
  exact⟨rfl,rfl⟩
 obtain⟨⟨ex,s'⟩,h1,h2,h3⟩:=uc key
 simp only at h2 h3
 subst h2
 refine⟨s',m,v,Nat.le_refl _,h1,?_,?_,?_,fun j c hj=> ?_⟩
 ·rw[h3,←hH3,List.getElem?_set_ne (Ne.symm hbo)];exact hb2
 ·rw[h3,←hH3];exact List.getElem?_set_self (getElem?_lt ho2)
 ·rcases hB1 with h | ⟨tk,q1,q2,q3⟩
  ·exact .inl h
  ·have h4:tk≠oid:=by intro e;subst e;rw[ho1] at q3;cases q3
   refine .inr ⟨tk,q1,q2,?_⟩
   rw[h3,←hH3,List.getElem?_set_ne (Ne.symm h4),←hH2,List.getElem?_set_ne (Ne.symm h4)];exact q3
 ·have hj1:=hbox j c hj
  have hne:oid≠j:=fun e=>by subst e;rw[ho1] at hj1;cases hj1
  rw[h3,←hH3,List.getElem?_set_ne hne,←hH2,List.getElem?_set_ne hne];exact hj1
end Go.AM.B1
namespace Go.AM.B1
open Go.AM Go.AM.So
def qW (x:Int):PV:= .int .u8 x
theorem of_inner (call:Wa) {e:Tr} {bx oid m off:Nat} (h6:e.get 6= .ptr bx 0) (hoff:off+258≤m):∀ (xs:List Int) {H:List ba} {fl:Nat} {g:Nat→AV} {es:List PV},H[bx]? =some (.box [.Fc oid m off])→H[oid]? =some (.seq 258 true (cellsOf m g) fl false)→
 (∀ x∈xs,0≤x∧x≤255)→xs.Nodup→nW (g off) H es→es.length+xs.length≤256→
 ∃ H' fl' g',(fl≤m→fl'≤m)∧ak (fun x H=>pa call Vj ⟨rB [(7,40)] (Nr [40] x e),H⟩) (xs.map fun x=>[i64 x]) H=some (.norm,H')∧H'[bx]? =some (.box [.Fc oid m off])∧H'[oid]? =some (.seq 258 true (cellsOf m g') fl' false)∧
  nW (g' off) H' (es++xs.map qW)∧(∀ j,j≠off→(∀ x∈xs,j≠off+1+x.toNat)→g' j=g j)∧(∀ (k:Nat) x,xs[k]? =some x→g' (off+1+x.toNat)= .pv (.int .u16 ((es.length+k:Nat)+1)))∧∀ (j:Nat) c,H[j]? =some (.box c)→H'[j]? =some (.box c):=by
 intro xs
 induction xs with
 |nil=>
  intro H fl g es hb ho _ _ hB _
  exact⟨H,fl,g,id,rfl,hb,ho,by simpa using hB,fun _ _ _=>rfl,fun k x h=>by simp at h,fun _ _ h=>h⟩
 |cons x xs ih=>
  intro H fl g es hb ho hx hnd hB hlen
  obtain⟨hx0,hx1⟩:=hx x (by simp)
  have hnd':=List.nodup_cons.1 hnd
  have e6:(rB [(7,40)] (Nr [40] [i64 x] e)).get 6= .ptr bx 0:=by simp[rB,Nr,Tr.aa,h6]
  have e7:(rB [(7,40)] (Nr [40] [i64 x] e)).get 7= .pv (i64 x):=by simp[rB,Nr,Tr.aa]
  obtain⟨s',fl',v,q0,q1,q2,q3,q4,q5⟩:=bQ call e6 e7 hb ho hoff hx0 hx1 hB (by simp at hlen;omega)
  have hne:off≠off+1+x.toNat:=by omega
  obtain⟨H',fl2,g',r0,r1,r2,r3,r4,r5,r6,r7⟩:=ih (es:=es++[qW x]) q2 q3 (fun y hy=>hx y (by simp[hy])) hnd'.2 (by rw[Nt _ _ hne,Ps];exact q4) (by simp at hlen ⊢;omega)
  refine⟨H',fl2,g',fun _=>r0 q0,?_,r2,r3,by simpa using r4,fun j h1 h2=> ?_,fun k y hk=> ?_,fun j c hj=>r7 j c (q5 j c hj)⟩
  ·simp only[List.map_cons,ak,q1,IA];exact r1
  ·rw[r5 j h1 fun y hy=>h2 y (by simp[hy]),Nt _ _ (h2 x (by simp)),Nt _ _ h1]
  ·cases k with
   |zero=>
    simp at hk;subst hk
    rw[r5 _ (by omega) (fun y hy e=>by
     have:=(hx y (by simp[hy])).1
     have:y=x:=by omega
     subst this;exact hnd'.1 hy),Ps]
    simp
   |succ k=>
    have:=r6 k y (by simpa using hk)
    rw[this]
    congr 3
    simp;omega
end Go.AM.B1
