/- Schemes as a law takes them. -/
import Derived.Test.YtolkahifidfgeaaU2
import Derived.Test.YtolkahifidfgeaaA3
import Derived.Test.YtolkahifidfgeaaRows
set_option linter.unusedVariables false
set_option maxRecDepth 100000
namespace Go.Proofs.Ytolkahifidfgeaa
open Go.ChangeShapes Go.WideShapes Go.ChangeAt Go.RowKit Go.AM
theorem cells97:Try.prog.cellsOf 97=2:=by kernel_rfl
theorem bytes97:Try.prog.bytesOf 97=16:=by kernel_rfl
theorem cells98:Try.prog.cellsOf 98=1:=by kernel_rfl
theorem bytes98:Try.prog.bytesOf 98=24:=by kernel_rfl
theorem cells71:Try.prog.cellsOf 71=2:=by kernel_rfl
theorem bytes71:Try.prog.bytesOf 71=32:=by kernel_rfl
theorem sh_span {g:Nat} {row:List PV} (h:Sh Try.prog (g+2) 97 row):∃ p:Int×Int,elPV Try.prog 97 row=B1.pr p:=by
 rw[el_struct Try.underlying97]
 obtain⟨rows,hl,rfl,hr⟩:=sh_struct Try.underlying97 h
 match rows,hl with
 | [x,y],_=>
   obtain⟨a,rfl,_⟩:=sh_int Try.underlying3 (hr 0 _ x rfl rfl)
   obtain⟨b,rfl,_⟩:=sh_int Try.underlying3 (hr 1 _ y rfl rfl)
   exact⟨(a,b),rfl⟩
theorem listOf {α β:Type} {f:α→β}:∀ {es:List β},(∀ e∈es,∃ a,e=f a)→∃ l:List α,es=l.map f
 | [],_=>⟨[],rfl⟩
 |e::es,h=>by
  obtain⟨a,ha⟩:=h e (by simp)
  obtain⟨l,hl⟩:=listOf (es:=es) fun e he=>h e (by simp[he])
  exact⟨a::l,by rw[ha,hl];rfl⟩
theorem sh_spans {g:Nat} {row:List PV} (h:Sh Try.prog (g+3) 98 row):∃ (V:PV) (l:List (Int×Int)),row=[V]∧B1.HeldPart V l:=by
 rcases sh_slice Try.underlying98 h with rfl | ⟨es,rfl,h1,h2,h3⟩
 ·exact⟨_,[],rfl,.inl ⟨rfl,rfl⟩,Nat.zero_le _⟩
 ·obtain⟨l,hl⟩:=listOf (f:=B1.pr) (es:=es.map (elPV Try.prog 97)) (by
   intro e he
   obtain⟨r,hr,rfl⟩:=List.mem_map.1 he
   exact sh_span (h3 r hr))
  have hlen:l.length=es.length:=by have:=congrArg List.length hl;simpa using this.symm
  refine⟨_,l,rfl,.inr (by rw[cells97,hl]),?_⟩
  rw[hlen]
  rw[bytes97] at h2
  exact Nat.le_trans h2 (by decide)
theorem sh_each {R A:Type} {f:R→PV} {Q:PV→A→Prop}:∀ (es:List R),(∀ r∈es,∃ a,Q (f r) a)→∃ l:List A,l.length=es.length∧∀ (k:Nat) v a,(es.map f)[k]? =some v→l[k]? =some a→Q v a
 | [],_=>⟨[],rfl,by simp⟩
 |r::es,h=>by
  obtain⟨a,ha⟩:=h r (by simp)
  obtain⟨l,h1,h2⟩:=sh_each es fun x hx=>h x (by simp[hx])
  refine⟨a::l,by simp[h1],?_⟩
  intro k v b hv hb
  match k with
  |0=>simp at hv hb;subst hv hb;exact ha
  |k+1=>exact h2 k v b (by simpa using hv) (by simpa using hb)
theorem sh_parts {g:Nat} {row:List PV} (h:Sh Try.prog (g+4) 69 row):∃ (P:PV) (ls:List (List (Int×Int))) (ps:List PV),row=[P]∧B1.HeldParts P ls ps∧ls.length * 24≤140737488355328:=by
 rcases sh_slice Try.underlying69 h with rfl | ⟨es,rfl,h1,h2,h3⟩
 ·exact⟨_,[],[],rfl,⟨.inl ⟨rfl,rfl⟩,rfl,by simp,by simp⟩,by simp⟩
 ·obtain⟨l,hl,hq⟩:=sh_each (f:=elPV Try.prog 98) (Q:=B1.HeldPart) es (by
   intro r hr
   obtain⟨V,l,rfl,hV⟩:=sh_spans (h3 r hr)
   rw[el_slice Try.underlying98]
   exact⟨l,hV⟩)
  have hz:l.length * 24≤140737488355328:=by rw[bytes98] at h2;rw[hl];exact Nat.le_trans h2 (by decide)
  exact⟨_,l,es.map (elPV Try.prog 98),rfl,⟨.inr (by rw[cells98]),by rw[List.length_map,hl],hq,by unfold maxLen;omega⟩,hz⟩
theorem sh_shape {g:Nat} {row:List PV} (h:Sh Try.prog (g+5) 71 row):∃ (s:B1.Shp),(∃ P ps,B1.HeldShp (elPV Try.prog 71 row) s P ps)∧s.parts.length * 24≤140737488355328:=by
 rw[el_struct Try.underlying71]
 obtain⟨rows,hl,rfl,hr⟩:=sh_struct Try.underlying71 h
 match rows,hl with
 | [x,y],_=>
   obtain⟨P,ls,ps,rfl,hP,hz⟩:=sh_parts (hr 0 _ x rfl rfl)
   obtain⟨b,rfl,_⟩:=sh_int Try.underlying3 (hr 1 _ y rfl rfl)
   exact⟨⟨ls,b⟩,⟨P,ps,rfl,hP⟩,hz⟩
theorem sh_shapes {g:Nat} {row:List PV} (h:Sh Try.prog (g+6) 22 row):∃ (S:PV) (ss:List B1.Shp) (es:List PV),row=[S]∧B1.HeldSch S ss es∧B1.HeldSz ss:=by
 rcases sh_slice Try.underlying22 h with rfl | ⟨es,rfl,h1,h2,h3⟩
 ·exact⟨_,[],[],rfl,⟨.inl ⟨rfl,rfl⟩,rfl,by simp,by simp⟩,⟨by simp,by simp⟩⟩
 ·obtain⟨l,hl,hq⟩:=sh_each (f:=elPV Try.prog 71) (Q:=fun e s=>(∃ P ps,B1.HeldShp e s P ps)∧s.parts.length * 24≤140737488355328) es (fun r hr=>sh_shape (h3 r hr))
  have hz:l.length * 32≤140737488355328:=by rw[bytes71] at h2;rw[hl];exact Nat.le_trans h2 (by decide)
  refine⟨_,l,es.map (elPV Try.prog 71),rfl,⟨.inr (by rw[cells71]),by rw[List.length_map,hl],fun k e s he hs=>(hq k e s he hs).1,by unfold maxLen;omega⟩,hz,?_⟩
  intro s hs
  obtain⟨k,hk,rfl⟩:=List.getElem_of_mem hs
  exact (hq k _ _ (List.getElem?_eq_getElem (by rw[List.length_map];omega)) (List.getElem?_eq_getElem hk)).2
theorem sh_scheme {g:Nat} {row:List PV} (h:Sh Try.prog (g+7) 24 row):∃ (S:PV) (ss:List B1.Shp) (es:List PV),row=[S]∧B1.HeldSch S ss es∧B1.HeldSz ss:=by
 obtain⟨rows,hl,rfl,hr⟩:=sh_struct Try.underlying24 h
 match rows,hl with
 | [x],_=>
   obtain⟨S,ss,es,rfl,h1,h2⟩:=sh_shapes (hr 0 _ x rfl rfl)
   exact⟨S,ss,es,rfl,h1,h2⟩
end Go.Proofs.Ytolkahifidfgeaa
namespace Go.Proofs.Ytolkahifidfgeaa
open Go.ChangeShapes Go.WideShapes Go.ChangeAt Go.RowKit Go.AM
theorem own:ownKnob Try.prog.godebug=none:=by kernel_rfl
theorem laidOut:laidOutB Try.prog=true:=by kernel_rfl
set_option maxHeartbeats 800000 in
set_option maxRecDepth 100000 in
theorem names_lifted (os:Os) (started:os.Started) (H:Type) (enc:TypeId×Value→H):
 ReturnsInHanded {} Try.checked os 6 .any (Rows.autoNamesSpec.pre6 enc Try.prog Try.f6 Rows.autoNamesRow.domain false) (Rows.autoNamesSpec.post enc Try.prog Try.f6 false true false false):=by
 refine law_lifted (C:=Try.checked) (ts:=[]) (bt:=4) 8 own laidOut started (by kernel_rfl) Try.func6
  (ChangeSpec.witness6 (enc:=enc) (C:=Try.checked) false ⟨#[],#[],[]⟩ 8 (by kernel_rfl) (by kernel_rfl) (by kernel_rfl) (by kernel_rfl))
  rfl rfl Try.params6 (by kernel_rfl) Try.underlying4 (by kernel_rfl) B1.p_leadtraillaw13_AutoNames ?_ ?_
 ·intro ds hd
  match ds,hd with
  | [],_=>rfl
 ·intro ds hs
  obtain rfl:=shs_nil hs
  exact B1.names_run
theorem autoNames_proved:Rows.AutoNamesSaid:=
 OpenClaim.holds_of_wide 6 Try.f6 rfl rfl rfl rfl rfl rfl rfl ⟨rfl,rfl,rfl,rfl,rfl⟩ rfl rfl rfl rfl rfl (by kernel_rfl) Try.func6 (by kernel_rfl)
  (of_decide_eq_true (by kernel_rfl)) (by unfold Func.isWrapper;first | (rw[if_pos (by decide +kernel)];kernel_rfl) | (rw[if_neg (by decide +kernel)];exact⟨rfl,rfl⟩))
  (fun os started H enc _=>names_lifted os started H enc)
#print axioms autoNames_proved
end Go.Proofs.Ytolkahifidfgeaa
