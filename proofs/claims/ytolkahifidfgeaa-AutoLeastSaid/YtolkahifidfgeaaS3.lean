/- What the functions of schemes, shapes and clashes compute; auto.Build of any scheme. -/
import Derived.Test.YtolkahifidfgeaaC3
import Derived.Test.YtolkahifidfgeaaS2
set_option linter.unusedVariables false
set_option linter.unusedSimpArgs false
namespace Go.AM.B1
open Go.AM Go.AM.So
structure HeldPart (v:PV) (l:List (Int×Int)):Prop where
 is:IsL 2 v (prs l)
 sz:l.length * 16≤140737488355328
structure HeldParts (P:PV) (ls:List (List (Int×Int))) (ps:List PV):Prop where
 is:IsL 1 P ps
 len:ps.length=ls.length
 all:∀ (k:Nat) v l,ps[k]? =some v→ls[k]? =some l→HeldPart v l
 sz:ls.length≤maxLen
structure HeldShp (e:PV) (s:Shp) (P:PV) (ps:List PV):Prop where
 eq:e= .agg [P,i64 s.first]
 parts:HeldParts P s.parts ps
structure HeldSch (S:PV) (ss:List Shp) (es:List PV):Prop where
 is:IsL 2 S es
 len:es.length=ss.length
 all:∀ (k:Nat) e s,es[k]? =some e→ss[k]? =some s→∃ P ps,HeldShp e s P ps
 sz:ss.length≤maxLen
theorem HeldParts.get {P:PV} {ls:List (List (Int×Int))} {ps:List PV} (h:HeldParts P ls ps) {i:Nat} (hi:i < ls.length):∃ v,ps[i]? =some v∧P= .lit 1 ps∧HeldPart v ls[i]:=by
 have h1:i < ps.length:=by rw[h.len];exact hi
 refine⟨ps[i],List.getElem?_eq_getElem h1,h.is.lit (i:=i) h1,h.all i _ _ (List.getElem?_eq_getElem h1) (List.getElem?_eq_getElem hi)⟩
theorem HeldSch.get {S:PV} {ss:List Shp} {es:List PV} (h:HeldSch S ss es) {i:Nat} (hi:i < ss.length):∃ e P ps,es[i]? =some e∧S= .lit 2 es∧HeldShp e ss[i] P ps:=by
 have h1:i < es.length:=by rw[h.len];exact hi
 obtain⟨P,ps,hp⟩:=h.all i _ _ (List.getElem?_eq_getElem h1) (List.getElem?_eq_getElem hi)
 exact⟨es[i],P,ps,List.getElem?_eq_getElem h1,h.is.lit (i:=i) h1,hp⟩
theorem HeldParts.lenA {P:PV} {ls:List (List (Int×Int))} {ps:List PV} (h:HeldParts P ls ps) (H:List AObj):lenA H 0 (.pv P)=some ls.length:=by
 rw[h.is.len,h.len]
theorem HeldSch.lenA {S:PV} {ss:List Shp} {es:List PV} (h:HeldSch S ss es) (H:List AObj):lenA H 0 (.pv S)=some ss.length:=by
 rw[h.is.len,h.len]
def PartOk (l:List (Int×Int)):Prop:=l≠[]∧validR 255 (-2) l=true
instance (l:List (Int×Int)):Decidable (PartOk l):=by unfold PartOk;infer_instance
def lastN:Int→List (List (Int×Int))→Int
 |n,[]=>n
 |n,l::r=>lastN (if 1073741825 < n * sizeR 0 l then 1073741825 else n * sizeR 0 l) r
def lastS (s:Shp):Int:=s.first+lastN 1 s.parts - 1
theorem partOk_size {l:List (Int×Int)} (h:PartOk l):1≤sizeR 0 l∧sizeR 0 l≤256:=by
 have:=(sizeR_bound h.2).2.1 h.1;omega
theorem mul_small {n s:Int} (h1:1≤n) (h2:n≤1073741825) (h3:1≤s) (h4:s≤256):1≤n * s∧n * s≤274877907200:=by
 constructor
 ·have:=Int.mul_le_mul h1 h3 (by omega) (by omega);omega
 ·have:=Int.mul_le_mul h2 h4 (by omega) (by omega);omega
theorem lastN_bound:∀ (ls:List (List (Int×Int))) (n:Int),(∀ l∈ls,PartOk l)→1≤n→n≤1073741825→1≤lastN n ls∧lastN n ls≤1073741825
 | [],n,_,h1,h2=>⟨h1,h2⟩
 |l::r,n,h,h1,h2=>by
  have hs:=partOk_size (h l (by simp))
  have hm:=mul_small h1 h2 hs.1 hs.2
  rw[lastN]
  refine lastN_bound r _ (fun x hx=>h x (by simp[hx])) ?_ ?_ <;> split <;> omega
abbrev envLs (row:List PV) (P:PV) (len i n:Int):Tr:=((((Tr.lf.set 9 (.pv (i64 i))).set 8 (.pv (i64 len))).set 7 (.pv P)).set 3 (.pv (i64 n))).set 1 (.pv (.rp row 0))
theorem last_run {e:PV} {s:Shp} {P:PV} {ps:List PV} (h:HeldShp e s P ps) (hok:∀ l∈s.parts,PartOk l) (hf:0≤s.first∧s.first≤1073741823):F_scheme_last [e]=some (i64 (lastS s)):=by
 obtain⟨rfl,hP⟩:=h
 have hb:=lastN_bound s.parts 1 hok (by omega) (by omega)
 have hsz:=hP.sz
 have hloop:wpO (fun r=>∃ E H,r=(.exit 0,⟨E,H⟩)∧E.get 3= .pv (i64 (lastN 1 s.parts))∧E.get 1= .pv (.rp [P,i64 s.first] 0))
  (loopA (roundA (evalC (callL (fun _=>none) 8) b_scheme_last_l0) (clean 0 [1,3,7,8,9])) rounds ⟨envLs [P,i64 s.first] P s.parts.length 0 1,[]⟩):=by
  refine wpO_mono (loopN_wp (g:=roundA (evalC (callL (fun _=>none) 8) b_scheme_last_l0) (clean 0 [1,3,7,8,9]))
   (fun i t=>∃ n,t=⟨envLs [P,i64 s.first] P s.parts.length i n,[]⟩∧1≤n∧n≤1073741825∧lastN 1 s.parts=lastN n (s.parts.drop i))
   s.parts.length (by unfold rounds;unfold maxLen at hsz;omega) _ ⟨1,rfl,by omega,by omega,rfl⟩ ?_ ?_) (fun r h=>h.2)
  ·rintro i t hi ⟨n,rfl,h1,h2,hs⟩
   obtain⟨v,hv,hPl,hpt⟩:=hP.get hi
   have hd:s.parts.drop i=s.parts[i]::s.parts.drop (i+1):=List.drop_eq_getElem_cons hi
   have hpo:=hok s.parts[i] (List.getElem_mem hi)
   have hss:=spans_size_run v s.parts[i] hpt.is hpt.sz hpo.2
   have hsb:=partOk_size hpo
   rw[hd,lastN] at hs
   generalize s.parts[i]=l at *
   have hm:=mul_small h1 h2 hsb.1 hsb.2
   have e1:decide ((i:Int) < (s.parts.length:Int))=true:=dec_t (by omega)
   have t2:=stepWrap hi hsz
   have t3:IntKind.i64.wrap (n * sizeR 0 l)=n * sizeR 0 l:=wrap_int (by omega)
   have hq:i < ps.length:=by rw[hP.len];exact hi
   have hcl:v.cells=[v]:=by rcases hpt.is with⟨h,_⟩ | h <;> rw[h] <;> rfl
   have a1:iaddrA' [] 1 (.pv P) (i:Int)=some (.pv (.rp [v] 0)):=by
    rw[hPl]
    simp only[iaddrA']
    rw[if_pos (by unfold idxOk;simp;omega),Int.toNat_natCast,hv]
    simp[hcl]
   have a2:loadA [] false 1 (.pv (.rp [v] 0))=some (.pv v):=rfl
   generalize hQ:LN _ _ i=Q
   simp (implicitDefEqProofs:=false) only[SP,SA,WP,sevalprocAttr,-List.reduceReplicate,b_scheme_last_l0,e1,t2,t3,a1,a2,hss,bestA,bestOf,clean,cutEnv,AV.cut,deep_eq',envLs]
   subst hQ
   exact⟨_,rfl,by split <;> omega,by split <;> omega,hs⟩
  ·rintro t ⟨n,rfl,h1,h2,hs⟩
   rw[List.drop_length,lastN] at hs
   have e1:decide ((s.parts.length:Int) < (s.parts.length:Int))=false:=dec_f (by omega)
   generalize hQ:(fun r:Ex×St=>r.1.stop=true∧_)=Q
   simp (implicitDefEqProofs:=false) only[SP,SA,WP,sevalprocAttr,-List.reduceReplicate,b_scheme_last_l0,e1,envLs]
   subst hQ
   exact⟨rfl,_,_,rfl,by simp[Tr.get_set,hs],by simp[Tr.get_set]⟩
 obtain⟨r,h1,E,H,rfl,hE,hE1⟩:=wpO_spec hloop
 have ls:=hP.lenA
 simp only[envLs] at h1
 have h1':loopA (roundA (evalC (callL (fun _=>none) 8) b_scheme_last_l0) (clean 0 [1,3,7,8,9])) rounds ⟨((((Tr.lf.set 9 (.pv (.int .i64 0))).set 8 (.pv (.int .i64 s.parts.length))).set 7 (.pv P)).set 3 (.pv (.int .i64 1))).set 1 (.pv (.rp [P,i64 s.first] 0)),[]⟩=some (.exit 0,⟨E,H⟩):=h1
 unfold lastS
 generalize lastN 1 s.parts=n at *
 have t1:IntKind.i64.wrap (s.first+n)=s.first+n:=wrap_int (by omega)
 have t2:IntKind.i64.wrap (s.first+n - 1)=s.first+n - 1:=wrap_int (by omega)
 have hPv:∃ sz es,P= .nils∨P= .lit sz es:=by rcases hP.is with⟨h,_⟩ | h;exact⟨0,[],.inl h⟩;exact⟨_,_,.inr h⟩
 obtain⟨sz,es,rfl | rfl⟩:=hPv <;>
 simp (implicitDefEqProofs:=false) only[F_scheme_last,SP,SA,SQ,WP,WQ,sevalprocAttr,-List.reduceReplicate,b_scheme_last,C_loop,ls,h1',hE,hE1,t1,t2]
theorem none_run (call:CallF) {v:PV} {l:List (Int×Int)} (h:HeldPart v l) (H:List AObj):runF call b_scheme_none [.pv v] H=some (.pv (.bool (!decide (PartOk l))),H):=by
 have ls:=h.is.len
 simp only[prs,List.length_map] at ls
 have hv:=spans_valid_run v l h.is h.sz
 by_cases h0:l=[]
 ·have e1:((l.length:Int)==0)=true:=by simp[h0]
  have e2:(!decide (PartOk l))=true:=by
   have:¬PartOk l:=fun hp=>hp.1 h0
   simp[this]
  rw[e2]
  simp (implicitDefEqProofs:=false) only[SP,SA,SQ,WP,WQ,sevalprocAttr,-List.reduceReplicate,b_scheme_none,ls,e1]
 ·have e1:((l.length:Int)==0)=false:=by
   have:l.length≠0:=fun e=>h0 (List.eq_nil_of_length_eq_zero e)
   exact beq_ne (by omega)
  have e2:(!decide (PartOk l))= !(validR 255 (-2) l):=by
   congr 1
   rw[Bool.eq_iff_iff];simp[PartOk,h0]
  rw[e2]
  simp (implicitDefEqProofs:=false) only[SP,SA,SQ,WP,WQ,sevalprocAttr,-List.reduceReplicate,b_scheme_none,ls,e1,hv]
def badIx (ls:List (List (Int×Int))) (i:Nat):Int:=
 match ls with
 | []=> -1
 |l::r=>if PartOk l then badIx r (i+1) else i
theorem badIx_neg:∀ (ls:List (List (Int×Int))) (i:Nat),decide (badIx ls i≥0)= !decide (∀ l∈ls,PartOk l)
 | [],i=>by simp[badIx]
 |l::r,i=>by
  rw[badIx]
  by_cases h:PartOk l
  ·rw[if_pos h,badIx_neg r];simp[h]
  ·rw[if_neg h];simp[h]
abbrev envIx (P:PV) (len i:Int):Tr:=(((Tr.lf.set 8 (.pv (i64 i))).set 7 (.pv (i64 len))).set 1 (.clo 7 [])).set 0 (.pv P)
theorem index_run {P:PV} {ls:List (List (Int×Int))} {ps:List PV} (hP:HeldParts P ls ps) (d:Nat) (H:List AObj) (hH:HGood H):
 runF (callL t_scheme_Valid (d+1)) b_slices_IndexFunc_api_Span_api_Span [.pv P,.clo 7 []] H=some (.pv (i64 (badIx ls 0)),H):=by
 have hsz:=hP.sz
 have lsn:=hP.lenA
 have hcut:=HGood.cut hH
 have h7:t_scheme_Valid 7=some b_scheme_none:=rfl
 apply wpO_eq
 have hloop:wpO (fun r=>∃ E,(r=(.exit 0,⟨E,H⟩)∧badIx ls 0= -1)∨(r=(.ret,⟨E,H⟩)∧E.get 4= .pv (i64 (badIx ls 0))))
  (loopA (roundA (evalC (callL t_scheme_Valid (d+1)) b_slices_IndexFunc_api_Span_api_Span_l0) (clean H.length [0,1,7,8])) rounds ⟨envIx P ls.length 0,H⟩):=by
  refine wpO_mono (loopN_wp (g:=roundA (evalC (callL t_scheme_Valid (d+1)) b_slices_IndexFunc_api_Span_api_Span_l0) (clean H.length [0,1,7,8]))
   (fun i t=>t=⟨envIx P ls.length i,H⟩∧badIx ls 0=badIx (ls.drop i) i)
   ls.length (by unfold rounds;unfold maxLen at hsz;omega) _ ⟨rfl,rfl⟩ ?_ ?_) (fun r h=>h.2)
  ·rintro i t hi ⟨rfl,hs⟩
   obtain⟨v,hv,hPl,hpt⟩:=hP.get hi
   have hd:ls.drop i=ls[i]::ls.drop (i+1):=List.drop_eq_getElem_cons hi
   rw[hd,badIx] at hs
   have hn:=none_run (callL t_scheme_Valid d) hpt H
   generalize ls[i]=l at *
   have e1:decide ((i:Int) < (ls.length:Int))=true:=dec_t (by omega)
   have t2:=stepWrap hi hsz
   have hq:i < ps.length:=by rw[hP.len];exact hi
   have hcl:v.cells=[v]:=by rcases hpt.is with⟨h,_⟩ | h <;> rw[h] <;> rfl
   have a1:iaddrA' H 1 (.pv P) (i:Int)=some (.pv (.rp [v] 0)):=by
    rw[hPl]
    simp only[iaddrA']
    rw[if_pos (by unfold idxOk;simp;omega),Int.toNat_natCast,hv]
    simp[hcl]
   have a2:loadA H false 1 (.pv (.rp [v] 0))=some (.pv v):=rfl
   generalize hQ:LN _ _ i=Q
   by_cases hok:PartOk l
   ·rw[if_pos hok] at hs
    rw[decide_eq_true hok] at hn
    simp (implicitDefEqProofs:=false) only[SP,SA,WP,sevalprocAttr,-List.reduceReplicate,b_slices_IndexFunc_api_Span_api_Span_l0,e1,t2,a1,a2,h7,hn,hcut,List.take_length,clean,cutEnv,AV.cut,deep_eq',envIx]
    subst hQ
    exact⟨rfl,hs⟩
   ·rw[if_neg hok] at hs
    rw[decide_eq_false hok] at hn
    simp (implicitDefEqProofs:=false) only[SP,SA,WP,sevalprocAttr,-List.reduceReplicate,b_slices_IndexFunc_api_Span_api_Span_l0,e1,t2,a1,a2,h7,hn,hcut,List.take_length,clean,cutEnv,AV.cut,deep_eq',envIx]
    subst hQ
    exact⟨_,.inr ⟨rfl,by simp[Tr.get_set,hs]⟩⟩
  ·rintro t ⟨rfl,hs⟩
   rw[List.drop_length,badIx] at hs
   have e1:decide ((ls.length:Int) < (ls.length:Int))=false:=dec_f (by omega)
   generalize hQ:(fun r:Ex×St=>r.1.stop=true∧_)=Q
   simp (implicitDefEqProofs:=false) only[SP,SA,WP,sevalprocAttr,-List.reduceReplicate,b_slices_IndexFunc_api_Span_api_Span_l0,e1,envIx]
   subst hQ
   exact⟨rfl,_,.inl ⟨rfl,hs⟩⟩
 simp (implicitDefEqProofs:=false) only[SP,SA,WP,sevalprocAttr,-List.reduceReplicate,b_slices_IndexFunc_api_Span_api_Span,C_loop,lsn,hcut,List.take_length,clean,cutEnv,AV.cut,deep_eq']
 refine wpO_mono hloop ?_
 rintro _ ⟨E,⟨rfl,hb⟩ | ⟨rfl,hE⟩⟩
 ·simp (implicitDefEqProofs:=false) only[SP,SA,WP,sevalprocAttr,-List.reduceReplicate,hb]
 ·simp (implicitDefEqProofs:=false) only[SP,SA,WP,sevalprocAttr,-List.reduceReplicate,hE]
theorem contains_run {P:PV} {ls:List (List (Int×Int))} {ps:List PV} (hP:HeldParts P ls ps) (d:Nat) (H:List AObj) (hH:HGood H):
 runF (callL t_scheme_Valid (d+2)) b_slices_ContainsFunc_api_Span_api_Span [.pv P,.clo 7 []] H=some (.pv (.bool (!decide (∀ l∈ls,PartOk l))),H):=by
 have h:=index_run hP d H hH
 have h5:t_scheme_Valid 5=some b_slices_IndexFunc_api_Span_api_Span:=rfl
 have hb:=badIx_neg ls 0
 simp (implicitDefEqProofs:=false) only[SP,SA,WP,sevalprocAttr,-List.reduceReplicate,b_slices_ContainsFunc_api_Span_api_Span,h5,h,hb]
end Go.AM.B1
namespace Go.AM.B1
open Go.AM Go.AM.So
structure ShpOk (s:Shp):Prop where
 lo:1≤s.parts.length
 hi:s.parts.length≤8
 f0:0≤s.first
 f1:s.first≤1073741823
 parts:∀ l∈s.parts,PartOk l
 last:lastS s≤1073741823
def Apart (s t:Shp):Prop:=∀ x,¬((s.first≤x∧x≤lastS s)∧(t.first≤x∧x≤lastS t))
structure SchOk (ss:List Shp):Prop where
 len:ss.length≤32
 shp:∀ s∈ss,ShpOk s
 apart:ss.Pairwise Apart
theorem ShpOk.rng {s:Shp} (h:ShpOk s):s.first≤lastS s:=by
 have:=(lastN_bound s.parts 1 h.parts (by omega) (by omega)).1
 unfold lastS;omega
structure VInv (ss:List Shp) (i:Nat) (v:PV) (u:List (Int×Int)):Prop where
 is:IsL 2 v (prs u)
 val:validR topM (-2) u=true
 len:u.length≤i
 mem:∀ x,memR x u↔∃ s∈ss.take i,s.first≤x∧x≤lastS s
 shp:∀ s∈ss.take i,ShpOk s
 apart:(ss.take i).Pairwise Apart
abbrev envVd (S v:PV) (len i:Int):Tr:=(((Tr.lf.set 14 (.pv (i64 i))).set 13 (.pv (i64 len))).set 12 (.pv S)).set 3 (.pv v)
theorem box2_store (x y u v:AV) (hu:u.one=true) (hv:v.one=true) (A:List AObj) (e:PV) (he:(AV.pv e).cells=[u,v]):storeA (A++[.box [x,y]]) 2 (.ptr A.length 0) (.pv e)=some (A++[.box [u,v]]):=by
 simp only[storeA,he,get_top,set_top,List.length_cons,List.length_nil,List.all,hu,hv]
 simp[setRow]
section
variable {S:PV} {ss:List Shp} {es:List PV} (hS:HeldSch S ss es) (hl:ss.length≤32)
include hS hl
omit hl in
theorem valid_round_bad {i:Nat} (hi:i < ss.length) (v:PV) (hbad:¬ShpOk ss[i]):
 ∃ E H,roundA (evalC (callL t_scheme_Valid 8) b_scheme_Valid_l0) (clean 0 [3,12,13,14]) ⟨envVd S v ss.length i,[]⟩=some (.ret,⟨E,H⟩)∧E.get 2= .pv (.bool false):=by
 obtain⟨e,P,ps,he,hSl,hsh⟩:=hS.get hi
 obtain⟨rfl,hP⟩:=hsh
 generalize hs:ss[i]=s at *
 have hq:i < es.length:=by rw[hS.len];exact hi
 have e1:decide ((i:Int) < (ss.length:Int))=true:=dec_t (by omega)
 have a1:iaddrA' [] 2 (.pv S) (i:Int)=some (.pv (.rp [P,i64 s.first] 0)):=by
  rw[hSl]
  simp only[iaddrA']
  rw[if_pos (by unfold idxOk;simp;omega),Int.toNat_natCast,he];rfl
 have a2:loadA [] true 2 (.pv (.rp [P,i64 s.first] 0))=some (.pv (.agg [P,i64 s.first])):=rfl
 have hP1:(AV.pv P).one=true:=by rcases hP.is with⟨h,_⟩ | h <;> rw[h] <;> rfl
 have s1:storeA [.box [.pv .nils,.pv (i64 0)]] 2 (.ptr 0 0) (.pv (.agg [P,i64 s.first]))=some [.box [.pv P,.pv (i64 s.first)]]:=box2_store _ _ _ _ hP1 rfl [] _ rfl
 have p0:place [.box [.pv P,.pv (i64 s.first)]] 0 (.ptr 0 0)=some (.ptr 0 0):=rfl
 have p1:place [.box [.pv P,.pv (i64 s.first)]] 1 (.ptr 0 0)=some (.ptr 0 1):=rfl
 have l0:loadA [.box [.pv P,.pv (i64 s.first)]] false 1 (.ptr 0 0)=some (.pv P):=rfl
 have l1:loadA [.box [.pv P,.pv (i64 s.first)]] false 1 (.ptr 0 1)=some (.pv (i64 s.first)):=rfl
 have l2:loadA [.box [.pv P,.pv (i64 s.first)]] true 2 (.ptr 0 0)=some (.pv (.agg [P,i64 s.first])):=rfl
 have hg:HGood [.box [.pv P,.pv (i64 s.first)]]:=by
  intro n _ o ho;simp at ho;subst ho;simp[cutObj,mapO,cut_pv]
 have hct:=contains_run hP 5 [.box [.pv P,.pv (i64 s.first)]] hg
 have h6:t_scheme_Valid 6=some b_slices_ContainsFunc_api_Span_api_Span:=rfl
 have lA:=hP.lenA
 have key:wpO (fun r=>∃ E H,r=(.ret,⟨E,H⟩)∧E.get 2= .pv (.bool false)) (roundA (evalC (callL t_scheme_Valid 8) b_scheme_Valid_l0) (clean 0 [3,12,13,14]) ⟨envVd S v ss.length i,[]⟩):=by
  generalize hQ:(fun r:Ex×St=>_)=Q
  by_cases c1:s.parts.length < 1
  ·have d1:decide ((s.parts.length:Int) < 1)=true:=dec_t (by omega)
   simp (implicitDefEqProofs:=false) only[SP,SA,WP,sevalprocAttr,-List.reduceReplicate,b_scheme_Valid_l0,e1,a1,a2,s1,p0,p1,l0,l1,lA,d1,envVd]
   subst hQ;exact⟨_,_,rfl,by simp[Tr.get_set]⟩
  have d1:decide ((s.parts.length:Int) < 1)=false:=dec_f (by omega)
  by_cases c2:s.parts.length > 8
  ·have d2:decide ((s.parts.length:Int) > 8)=true:=dec_t (by omega)
   simp (implicitDefEqProofs:=false) only[SP,SA,WP,sevalprocAttr,-List.reduceReplicate,b_scheme_Valid_l0,e1,a1,a2,s1,p0,p1,l0,l1,lA,d1,d2,envVd]
   subst hQ;exact⟨_,_,rfl,by simp[Tr.get_set]⟩
  have d2:decide ((s.parts.length:Int) > 8)=false:=dec_f (by omega)
  by_cases c3:s.first < 0
  ·have d3:decide (s.first < 0)=true:=dec_t c3
   simp (implicitDefEqProofs:=false) only[SP,SA,WP,sevalprocAttr,-List.reduceReplicate,b_scheme_Valid_l0,e1,a1,a2,s1,p0,p1,l0,l1,lA,d1,d2,d3,envVd]
   subst hQ;exact⟨_,_,rfl,by simp[Tr.get_set]⟩
  have d3:decide (s.first < 0)=false:=dec_f c3
  by_cases c4:s.first > 1073741823
  ·have d4:decide (s.first > 1073741823)=true:=dec_t c4
   simp (implicitDefEqProofs:=false) only[SP,SA,WP,sevalprocAttr,-List.reduceReplicate,b_scheme_Valid_l0,e1,a1,a2,s1,p0,p1,l0,l1,lA,d1,d2,d3,d4,envVd]
   subst hQ;exact⟨_,_,rfl,by simp[Tr.get_set]⟩
  have d4:decide (s.first > 1073741823)=false:=dec_f c4
  by_cases c5:∀ l∈s.parts,PartOk l
  ·have hlast:=last_run (e:= .agg [P,i64 s.first]) ⟨rfl,hP⟩ c5 (by omega)
   rw[decide_eq_true c5] at hct
   have c6:lastS s > 1073741823:=by
    rcases Int.lt_or_le 1073741823 (lastS s) with h | h
    ·exact h
    ·exact absurd (ShpOk.mk (by omega) (by omega) (by omega) (by omega) c5 h) hbad
   have d6:decide (lastS s > 1073741823)=true:=dec_t c6
   have i0:∀ H (x y:Int),iaddrA' H 2 (.pv (.lit 2 [.agg [i64 x,i64 y]])) 0=some (.pv (.rp [i64 x,i64 y] 0)):=fun H x y=>rfl
   have q1:∀ H (x y:PV),place H 1 (.pv (.rp [x,y] 0))=some (.pv (.rp [x,y] 1)):=fun H x y=>rfl
   have m1:∀ H (x y:PV),loadA H false 1 (.pv (.rp [x,y] 1))=some (.pv y):=fun H x y=>rfl
   simp (implicitDefEqProofs:=false) only[SP,SA,WP,sevalprocAttr,-List.reduceReplicate,setRow,b_scheme_Valid_l0,e1,a1,a2,s1,p0,p1,l0,l1,l2,lA,d1,d2,d3,d4,h6,hct,hlast,i0,q1,m1,d6,envVd]
   subst hQ;exact⟨_,_,rfl,by simp[Tr.get_set]⟩
  ·rw[decide_eq_false c5] at hct
   simp (implicitDefEqProofs:=false) only[SP,SA,WP,sevalprocAttr,-List.reduceReplicate,b_scheme_Valid_l0,e1,a1,a2,s1,p0,p1,l0,l1,lA,d1,d2,d3,d4,h6,hct,envVd]
   subst hQ;exact⟨_,_,rfl,by simp[Tr.get_set]⟩
 obtain⟨r,h1,E,H,rfl,h2⟩:=wpO_spec key
 exact⟨E,H,h1,h2⟩
theorem valid_round_ok {i:Nat} (hi:i < ss.length) {v:PV} {u:List (Int×Int)} (hv:VInv ss i v u) (hok:ShpOk ss[i]):
 wpO (fun r=>(∃ E H,r=(.ret,⟨E,H⟩)∧E.get 2= .pv (.bool false)∧∃ s∈ss.take i,¬Apart s ss[i])∨(∃ v' u',r=(.norm,⟨envVd S v' ss.length (i+1:Nat),[]⟩)∧VInv ss (i+1) v' u'))
  (roundA (evalC (callL t_scheme_Valid 8) b_scheme_Valid_l0) (clean 0 [3,12,13,14]) ⟨envVd S v ss.length i,[]⟩):=by
 obtain⟨e,P,ps,he,hSl,hsh⟩:=hS.get hi
 obtain⟨rfl,hP⟩:=hsh
 have htake:ss.take (i+1)=ss.take i++[ss[i]]:=List.take_succ_eq_append_getElem hi
 generalize hs:ss[i]=s at *
 have hq:i < es.length:=by rw[hS.len];exact hi
 have e1:decide ((i:Int) < (ss.length:Int))=true:=dec_t (by omega)
 have t2:=stepWrap hi hS.sz
 have a1:iaddrA' [] 2 (.pv S) (i:Int)=some (.pv (.rp [P,i64 s.first] 0)):=by
  rw[hSl]
  simp only[iaddrA']
  rw[if_pos (by unfold idxOk;simp;omega),Int.toNat_natCast,he];rfl
 have a2:loadA [] true 2 (.pv (.rp [P,i64 s.first] 0))=some (.pv (.agg [P,i64 s.first])):=rfl
 have hP1:(AV.pv P).one=true:=by rcases hP.is with⟨h,_⟩ | h <;> rw[h] <;> rfl
 have s1:storeA [.box [.pv .nils,.pv (i64 0)]] 2 (.ptr 0 0) (.pv (.agg [P,i64 s.first]))=some [.box [.pv P,.pv (i64 s.first)]]:=box2_store _ _ _ _ hP1 rfl [] _ rfl
 have p0:place [.box [.pv P,.pv (i64 s.first)]] 0 (.ptr 0 0)=some (.ptr 0 0):=rfl
 have p1:place [.box [.pv P,.pv (i64 s.first)]] 1 (.ptr 0 0)=some (.ptr 0 1):=rfl
 have l0:loadA [.box [.pv P,.pv (i64 s.first)]] false 1 (.ptr 0 0)=some (.pv P):=rfl
 have l1:loadA [.box [.pv P,.pv (i64 s.first)]] false 1 (.ptr 0 1)=some (.pv (i64 s.first)):=rfl
 have l2:loadA [.box [.pv P,.pv (i64 s.first)]] true 2 (.ptr 0 0)=some (.pv (.agg [P,i64 s.first])):=rfl
 have hg:HGood [.box [.pv P,.pv (i64 s.first)]]:=by
  intro n _ o ho;simp at ho;subst ho;simp[cutObj,mapO,cut_pv]
 have hct:=contains_run hP 5 [.box [.pv P,.pv (i64 s.first)]] hg
 rw[decide_eq_true hok.parts] at hct
 have h6:t_scheme_Valid 6=some b_slices_ContainsFunc_api_Span_api_Span:=rfl
 have lA:=hP.lenA
 have d1:decide ((s.parts.length:Int) < 1)=false:=dec_f (by have:=hok.lo;omega)
 have d2:decide ((s.parts.length:Int) > 8)=false:=dec_f (by have:=hok.hi;omega)
 have d3:decide (s.first < 0)=false:=dec_f (by have:=hok.f0;omega)
 have d4:decide (s.first > 1073741823)=false:=dec_f (by have:=hok.f1;omega)
 have hlast:=last_run (e:= .agg [P,i64 s.first]) ⟨rfl,hP⟩ hok.parts ⟨hok.f0,hok.f1⟩
 have d6:decide (lastS s > 1073741823)=false:=dec_f (by have:=hok.last;omega)
 have i0:∀ H (x y:Int),iaddrA' H 2 (.pv (.lit 2 [.agg [i64 x,i64 y]])) 0=some (.pv (.rp [i64 x,i64 y] 0)):=fun H x y=>rfl
 have q1:∀ H (x y:PV),place H 1 (.pv (.rp [x,y] 0))=some (.pv (.rp [x,y] 1)):=fun H x y=>rfl
 have m1:∀ H (x y:PV),loadA H false 1 (.pv (.rp [x,y] 1))=some (.pv y):=fun H x y=>rfl
 have hvr:validR topM (-2) [(s.first,lastS s)]=true:=by
  rw[validR_one];have:=hok.rng;have:=hok.f0;have:=hok.last;unfold topM;simp only;omega
 have hmt:=scalars_meet_run v (.lit 2 [.agg [i64 s.first,i64 (lastS s)]]) u [(s.first,lastS s)] hv.is (.inr rfl) hv.val hvr (by have:=hv.len;simp;omega)
 obtain⟨u',hun,hv1,hv2,hv3⟩:=union_run v (.lit 2 [.agg [i64 s.first,i64 (lastS s)]]) u [(s.first,lastS s)] hv.is (.inr rfl) hv.val hvr (by have:=hv.len;simp;omega)
 have hms:=meetR_some hv.val hvr
 have hml:∀ l:List (Int×Int),(prs l).length=l.length:=fun l=>by simp
 generalize meetR (u.length+[(s.first,lastS s)].length) u [(s.first,lastS s)]=mm at *
 have hvv:(AV.pv v).cells=[.pv v]:=by rcases hv.is with⟨h,_⟩ | h <;> rw[h] <;> rfl
 generalize hQ:(fun r:Ex×St=>_)=Q
 by_cases c7:mm=[]
 ·have d7:decide ((mm.length:Int) > 0)=false:=dec_f (by rw[c7];simp)
  have hno:¬∃ x,memR x u∧memR x [(s.first,lastS s)]:=fun h=>(hms.2 h) c7
  simp (implicitDefEqProofs:=false) only[SP,SA,WP,sevalprocAttr,-List.reduceReplicate,setRow,b_scheme_Valid_l0,e1,t2,a1,a2,s1,p0,p1,l0,l1,l2,lA,d1,d2,d3,d4,h6,hct,hlast,i0,q1,m1,d6,hmt,hml,d7,hun,clean,cutEnv,AV.cut,cutObj,List.take_zero,deep_eq',envVd]
  subst hQ
  refine .inr ⟨_,u',rfl,.inr rfl,hv1,by have:=hv.len;simp at hv3;omega,fun x=> ?_,?_,?_⟩
  ·rw[hv2,memR_one,hv.mem,htake]
   constructor
   ·rintro (⟨t,ht,hx⟩ | hx)
    ·exact⟨t,by simp[ht],hx⟩
    ·exact⟨s,by simp,hx⟩
   ·rintro⟨t,ht,hx⟩
    rcases List.mem_append.1 ht with h | h
    ·exact .inl ⟨t,h,hx⟩
    ·simp at h;subst h;exact .inr hx
  ·intro t ht
   rw[htake] at ht
   rcases List.mem_append.1 ht with h | h
   ·exact hv.shp t h
   ·simp at h;subst h;exact hok
  ·rw[htake,List.pairwise_append]
   refine⟨hv.apart,by simp,fun t ht w hw x hx=> ?_⟩
   simp at hw;subst hw
   exact hno ⟨x,(hv.mem x).2 ⟨t,ht,hx.1⟩,(memR_one _ _).2 hx.2⟩
 ·have d7:decide ((mm.length:Int) > 0)=true:=dec_t (by have:mm.length≠0:=fun e=>c7 (List.eq_nil_of_length_eq_zero e);omega)
  obtain⟨x,hx1,hx2⟩:=hms.1 c7
  simp (implicitDefEqProofs:=false) only[SP,SA,WP,sevalprocAttr,-List.reduceReplicate,setRow,b_scheme_Valid_l0,e1,a1,a2,s1,p0,p1,l0,l1,l2,lA,d1,d2,d3,d4,h6,hct,hlast,i0,q1,m1,d6,hmt,hml,d7,envVd]
  subst hQ
  obtain⟨t,ht,hx3⟩:=(hv.mem x).1 hx1
  exact .inl ⟨_,_,rfl,by simp[Tr.get_set],t,ht,fun h=>h x ⟨hx3,(memR_one _ _).1 hx2⟩⟩
end
theorem scheme_valid_run {S:PV} {ss:List Shp} {es:List PV} (hS:HeldSch S ss es):∃ b,F_scheme_Valid [.agg [S]]=some (.bool b)∧(b=true↔SchOk ss):=by
 have lA:=hS.lenA
 by_cases hl:ss.length≤32
 ·have e0:decide ((ss.length:Int) > 32)=false:=dec_f (by omega)
  have hloop:wpO (fun r=>∃ E H,(r=(.exit 0,⟨E,H⟩)∧SchOk ss)∨(r=(.ret,⟨E,H⟩)∧E.get 2= .pv (.bool false)∧¬SchOk ss))
   (loopA (roundA (evalC (callL t_scheme_Valid 8) b_scheme_Valid_l0) (clean 0 [3,12,13,14])) rounds ⟨envVd S .nils ss.length 0,[]⟩):=by
   refine wpO_mono (loopN_wp (g:=roundA (evalC (callL t_scheme_Valid 8) b_scheme_Valid_l0) (clean 0 [3,12,13,14]))
    (fun i t=>∃ v u,t=⟨envVd S v ss.length i,[]⟩∧VInv ss i v u)
    ss.length (by unfold rounds;omega) _ ⟨.nils,[],rfl,.inl ⟨rfl,rfl⟩,rfl,by simp,fun x=>by simp[memR_nil],by simp,by simp⟩ ?_ ?_) (fun r h=>h.2)
   ·rintro i t hi ⟨v,u,rfl,hv⟩
    by_cases hok:ShpOk ss[i]
    ·refine wpO_mono (valid_round_ok hS hl hi hv hok) ?_
     rintro r (⟨E,H,rfl,hE,s,hs,hna⟩ | ⟨v',u',rfl,hv'⟩)
     ·refine⟨E,H,.inr ⟨rfl,hE,fun h=>hna ?_⟩⟩
      obtain⟨j,hj,rfl⟩:=List.mem_take_iff_getElem.1 hs
      have:=List.pairwise_iff_getElem.1 h.apart j i (by omega) hi (by omega)
      exact this
     ·exact⟨v',u',rfl,hv'⟩
    ·obtain⟨E,H,h1,h2⟩:=valid_round_bad hS hi v hok
     exact wpO_of h1 ⟨E,H,.inr ⟨rfl,h2,fun h=>hok (h.shp _ (List.getElem_mem hi))⟩⟩
   ·rintro t ⟨v,u,rfl,hv⟩
    have e1:decide ((ss.length:Int) < (ss.length:Int))=false:=dec_f (by omega)
    have hfin:SchOk ss:=⟨hl,by have:=hv.shp;rwa [List.take_length] at this,by have:=hv.apart;rwa [List.take_length] at this⟩
    generalize hQ:(fun r:Ex×St=>r.1.stop=true∧_)=Q
    simp (implicitDefEqProofs:=false) only[SP,SA,WP,sevalprocAttr,-List.reduceReplicate,b_scheme_Valid_l0,e1,envVd]
    subst hQ
    exact⟨rfl,_,_,.inl ⟨rfl,hfin⟩⟩
  obtain⟨r,h1,E,H,h2⟩:=wpO_spec hloop
  have h1':loopA (roundA (evalC (callL t_scheme_Valid 8) b_scheme_Valid_l0) (clean 0 [3,12,13,14])) rounds ⟨(((Tr.lf.set 14 (.pv (.int .i64 0))).set 13 (.pv (.int .i64 ss.length))).set 12 (.pv S)).set 3 (.pv .nils),[]⟩=some r:=h1
  have hSv:∃ sz es,S= .nils∨S= .lit sz es:=by rcases hS.is with⟨h,_⟩ | h;exact⟨0,[],.inl h⟩;exact⟨_,_,.inr h⟩
  rcases h2 with⟨rfl,hok⟩ | ⟨rfl,hE,hno⟩
  ·refine⟨true,?_,by simp[hok]⟩
   obtain⟨sz,es,rfl | rfl⟩:=hSv <;>
   simp (implicitDefEqProofs:=false) only[F_scheme_Valid,SP,SA,SQ,WP,WQ,sevalprocAttr,-List.reduceReplicate,b_scheme_Valid,C_loop,lA,e0,h1']
  ·refine⟨false,?_,by simp[hno]⟩
   obtain⟨sz,es,rfl | rfl⟩:=hSv <;>
   simp (implicitDefEqProofs:=false) only[F_scheme_Valid,SP,SA,SQ,WP,WQ,sevalprocAttr,-List.reduceReplicate,b_scheme_Valid,C_loop,lA,e0,h1',hE]
 ·have e0:decide ((ss.length:Int) > 32)=true:=dec_t (by omega)
  refine⟨false,?_,by simp;exact fun h=>hl h.len⟩
  have hSv:∃ sz es,S= .nils∨S= .lit sz es:=by rcases hS.is with⟨h,_⟩ | h;exact⟨0,[],.inl h⟩;exact⟨_,_,.inr h⟩
  obtain⟨sz,es,rfl | rfl⟩:=hSv <;>
  simp (implicitDefEqProofs:=false) only[F_scheme_Valid,SP,SA,SQ,WP,WQ,sevalprocAttr,-List.reduceReplicate,b_scheme_Valid,C_loop,lA,e0]
end Go.AM.B1
namespace Go.AM.B1
open Go.AM Go.AM.So
theorem HeldShp.one {e:PV} {s:Shp} {P:PV} {ps:List PV} (h:HeldShp e s P ps):HeldSch (.lit 2 [e]) [s] [e]:=by
 refine⟨.inr rfl,rfl,?_,by simp[maxLen]⟩
 intro k e' s' h1 h2
 match k,h1,h2 with
 |0,h1,h2=>simp at h1 h2;subst h1 h2;exact⟨P,ps,h⟩
 |k+1,h1,h2=>simp at h1
theorem schOk_one {s:Shp}:SchOk [s]↔ShpOk s:=⟨fun h=>h.shp s (by simp),fun h=>⟨by simp,by simpa using h,by simp⟩⟩
theorem HeldShp.Pone {e:PV} {s:Shp} {P:PV} {ps:List PV} (h:HeldShp e s P ps):(AV.pv P).one=true∧P.cells=[P]:=by
 rcases h.parts.is with⟨h,_⟩ | h <;> rw[h] <;> exact⟨rfl,rfl⟩
theorem shape_valid_run {e:PV} {s:Shp} {P:PV} {ps:List PV} (h:HeldShp e s P ps):∃ b,F_shape_Valid [e]=some (.bool b)∧(b=true↔ShpOk s):=by
 obtain⟨b,h1,h2⟩:=scheme_valid_run h.one
 refine⟨b,?_,h2.trans schOk_one⟩
 obtain⟨hP1,hP2⟩:=h.Pone
 have heq:=h.eq
 subst heq
 rcases h.parts.is with⟨rfl,_⟩ | rfl <;>
 simp (implicitDefEqProofs:=false) only[F_shape_Valid,SP,SA,SQ,WP,WQ,sevalprocAttr,-List.reduceReplicate,b_shape_Valid,h1]
theorem HeldParts.iaddr {P:PV} {ls:List (List (Int×Int))} {ps:List PV} (hP:HeldParts P ls ps) {i:Nat} (hi:i < ls.length) (H:List AObj):∃ v,ps[i]? =some v∧HeldPart v ls[i]∧iaddrA' H 1 (.pv P) (i:Int)=some (.pv (.rp [v] 0)):=by
 obtain⟨v,hv,hPl,hpt⟩:=hP.get hi
 refine⟨v,hv,hpt,?_⟩
 have hq:i < ps.length:=by rw[hP.len];exact hi
 have hcl:v.cells=[v]:=by rcases hpt.is with⟨h,_⟩ | h <;> rw[h] <;> rfl
 rw[hPl]
 simp only[iaddrA']
 rw[if_pos (by unfold idxOk;simp;omega),Int.toNat_natCast,hv]
 simp[hcl]
theorem HeldParts.iaddrU {P:PV} {ls:List (List (Int×Int))} {ps:List PV} (hP:HeldParts P ls ps) {i:Nat} {v:PV} (hv:ps[i]? =some v) (H:List AObj):iaddrA' H 1 (.pv P) (i:Int)=some (.pv (.rp [v] 0)):=by
 have hi:i < ls.length:=by rw[← hP.len];exact (List.getElem?_eq_some_iff.1 hv).1
 obtain⟨w,hw,_,h⟩:=hP.iaddr hi H
 rw[hv] at hw;injection hw with hw;subst hw;exact h
def meetAt (p q:List (List (Int×Int))) (i:Nat):List (Int×Int):=match p[i]?,q[i]? with
 |some a,some b=>meetR (a.length+b.length) a b
 |_,_=>[]
def commonR (p q:List (List (Int×Int))):Nat→Nat→Option (List Int)
 |0,_=>some []
 |n+1,i=>match meetAt p q i with
  | []=>none
  |m::_=>(commonR p q n (i+1)).map (m.1:: ·)
abbrev envCm (rp rq:List PV) (n i:Int) (tk:Nat) (nl:Bool) (es:List PV):Tr:=((((Tr.lf.set 35 (.pv (i64 i))).set 34 (.pv (i64 n))).set 8 (.uq tk nl 1 es)).set 4 (.pv (.rp rq 0))).set 3 (.pv (.rp rp 0))
theorem byte_append {A:List AObj} {id n bytes:Nat} {nl:Bool} {h:Hold} {es:List PV} (hg:A[id]? =some (.tok 1 n nl)) (hn:n=es.length) (hr:roomOk (n+1) bytes) (e:PV):
 appendA A false h 1 false bytes (.uq id nl 1 es) (.pv (.lit 1 [e]))=some (.uq id false 1 (es++[e]),A.set id (.tok 1 (n+1) false)):=uq_append hg hn hr e
theorem common_run {e f:PV} {p q:Shp} {P Q:PV} {ps qs:List PV} (hp:HeldShp e p P ps) (hq:HeldShp f q Q qs) (op:ShpOk p) (oq:ShpOk q) {n:Nat} (hn:n≤p.parts.length) (hn2:n≤q.parts.length):
 (commonR p.parts q.parts n 0=none→F_shape_Common [e,f,i64 n]=some (.tup [.nils,.bool false]))∧
 (∀ bs,commonR p.parts q.parts n 0=some bs→∃ v,F_shape_Common [e,f,i64 n]=some (.tup [v,.bool true])∧IsL 1 v (bs.map (PV.int .u8))∧bs.length=n∧∀ b∈bs,0≤b∧b≤255):=by
 obtain⟨b1,hb1,hb1'⟩:=shape_valid_run hp
 obtain⟨b2,hb2,hb2'⟩:=shape_valid_run hq
 have:b1=true:=hb1'.2 op
 subst this
 have:b2=true:=hb2'.2 oq
 subst this
 obtain⟨hP1,hP2⟩:=hp.Pone
 obtain⟨hQ1,hQ2⟩:=hq.Pone
 have heq:=hp.eq
 have hfq:=hq.eq
 subst heq hfq
 have h8:=op.hi
 have lP:=hp.parts.lenA
 have lQ:=hq.parts.lenA
 have hloop:wpO (fun r=>∃ E H,(r=(.ret,⟨E,H⟩)∧E.get 6= .pv .nils∧E.get 7= .pv (.bool false)∧commonR p.parts q.parts n 0=none)∨(∃ nl bs,r=(.exit 0,⟨E,H⟩)∧E.get 8= .uq 0 nl 1 (bs.map (PV.int .u8))∧(nl=true→bs=[])∧commonR p.parts q.parts n 0=some bs∧bs.length=n∧∀ b∈bs,0≤b∧b≤255))
  (loopA (roundA (evalC (callL (fun _=>none) 8) b_shape_Common_l0) (clean 1 [3,4,8,34,35])) rounds ⟨envCm [P,i64 p.first] [Q,i64 q.first] n 0 0 true [],[.tok 1 0 true]⟩):=by
  refine wpO_mono (loopN_wp (g:=roundA (evalC (callL (fun _=>none) 8) b_shape_Common_l0) (clean 1 [3,4,8,34,35]))
   (fun i t=>∃ nl bs,t=⟨envCm [P,i64 p.first] [Q,i64 q.first] n i 0 nl (bs.map (PV.int .u8)),[.tok 1 i nl]⟩∧bs.length=i∧(nl=true→bs=[])∧(∀ b∈bs,0≤b∧b≤255)∧commonR p.parts q.parts n 0=(commonR p.parts q.parts (n - i) i).map (bs++ ·))
   n (by unfold rounds;omega) _ ⟨true,[],rfl,rfl,fun _=>rfl,by simp,by cases commonR p.parts q.parts n 0 <;> simp[*]⟩ ?_ ?_) (fun r h=>h.2)
  ·rintro i t hi ⟨nl,bs,rfl,hlen,hnl,hby,hs⟩
   obtain⟨v,hv,hpv,_⟩:=hp.parts.iaddr (i:=i) (by omega) []
   obtain⟨w,hw,hqw,_⟩:=hq.parts.iaddr (i:=i) (by omega) []
   have a1:=hp.parts.iaddrU hv
   have a2:=hq.parts.iaddrU hw
   have okv:=op.parts _ (List.getElem_mem (show i < p.parts.length by omega))
   have okw:=oq.parts _ (List.getElem_mem (show i < q.parts.length by omega))
   have hmt:=spans_meet_run v w _ _ hpv.is hqw.is okv.2 okw.2 (by
    have:=(sizeR_bound okv.2).2.1 okv.1
    have h1:=hpv.sz
    have h2:=hqw.sz
    have k1:=validR_len okv.2
    have k2:=validR_len okw.2
    omega)
   have hlaw:=meetR_law _ _ _ (-2) (-2) okv.2 okw.2 (Nat.le_refl _)
   have hmA:meetAt p.parts q.parts i=meetR (p.parts[i].length+q.parts[i].length) p.parts[i] q.parts[i]:=by
    unfold meetAt
    rw[List.getElem?_eq_getElem (show i < p.parts.length by omega),List.getElem?_eq_getElem (show i < q.parts.length by omega)]
   obtain⟨m,hm⟩:∃ m,n - i=m+1:=⟨n - i - 1,by omega⟩
   have hm':n - (i+1)=m:=by omega
   rw[hm,commonR,hmA] at hs
   have hme:=validR_all okv.2
   generalize p.parts[i]=lv at *
   generalize q.parts[i]=lw at *
   generalize meetR (lv.length+lw.length) lv lw=mm at *
   have e1:decide ((i:Int) < (n:Int))=true:=dec_t (by omega)
   have t2:=stepWrap (i:=i) (n:=n) hi (by unfold maxLen;omega)
   have lm:∀ H,lenA H 0 (.pv (.lit 2 (prs mm)))=some mm.length:=fun H=>by simp[lenA]
   have r0:∀ H (x y:PV),loadA H false 1 (.pv (.rp [x,y] 0))=some (.pv x):=fun H x y=>rfl
   have r1:∀ H (x:PV),loadA H false 1 (.pv (.rp [x] 0))=some (.pv x):=fun H x=>rfl
   have q0:∀ H (x y:PV),place H 0 (.pv (.rp [x,y] 0))=some (.pv (.rp [x,y] 0)):=fun H x y=>rfl
   generalize hQ:LN _ _ i=QQ
   cases mm with
   |nil=>
    have z1:(((0:Nat):Int)==0)=true:=by decide
    simp only[Option.map_none] at hs
    simp (implicitDefEqProofs:=false) only[SP,SA,WP,sevalprocAttr,-List.reduceReplicate,b_shape_Common_l0,e1,a1,a2,r0,r1,q0,hmt,lm,z1,envCm]
    subst hQ
    exact⟨_,_,.inl ⟨rfl,by simp[Tr.get_set],by simp[Tr.get_set],hs⟩⟩
   |cons m0 mm=>
    have z1:(((mm.length+1:Nat):Int)==0)=false:=beq_ne (by omega)
    have i0:∀ H,iaddrA' H 2 (.pv (.lit 2 (prs (m0::mm)))) 0=some (.pv (.rp [i64 m0.1,i64 m0.2] 0)):=fun H=>lit_iaddr H (i:=0) (l:=m0::mm) (by simp)
    have hb0:0≤m0.1∧m0.1≤255:=by
     have hmem:=(hlaw.1 m0.1).1 ⟨m0,by simp,Int.le_refl _,hlaw.2 m0 (by simp)⟩
     obtain⟨pp,hpp,h1,h2⟩:=hmem.1
     have:=hme pp hpp;omega
    have t3:IntKind.u8.wrap m0.1=m0.1:=wrap_u8 hb0
    have hap:=byte_append (A:=[.tok 1 i nl]) (id:=0) (n:=i) (h:= .uq) (nl:=nl) (bytes:=1) (es:=bs.map (PV.int .u8)) rfl (by simp[hlen]) (by unfold roomOk;omega) (.int .u8 m0.1)
    rw[List.set_cons_zero] at hap
    have lm':∀ H,lenA H 0 (.pv (.lit 2 (prs (m0::mm))))=some (mm.length+1):=lm
    have hbm:(bs++[m0.1]).map (PV.int .u8)=bs.map (PV.int .u8)++[.int .u8 m0.1]:=by simp
    generalize prs (m0::mm)=L at *
    simp (implicitDefEqProofs:=false) only[SP,WP,setRow,sevalprocAttr,-List.reduceReplicate,b_shape_Common_l0,e1,t2,t3,a1,a2,r0,r1,q0,hmt,lm',z1,i0,hap,clean,cutEnv,AV.cut,cutObj,deep_eq',envCm]
    subst hQ
    refine⟨false,bs++[m0.1],by rw[hbm],by simp[hlen],by simp,?_,?_⟩
    ·intro b hb
     rcases List.mem_append.1 hb with h | h
     ·exact hby b h
     ·simp at h;subst h;exact hb0
    ·rw[hs,hm']
     cases commonR p.parts q.parts m (i+1) <;> simp
  ·rintro t ⟨nl,bs,rfl,hlen,hnl,hby,hs⟩
   rw[Nat.sub_self,commonR] at hs
   have e1:decide ((n:Int) < (n:Int))=false:=dec_f (by omega)
   generalize hQ:(fun r:Ex×St=>r.1.stop=true∧_)=QQ
   simp (implicitDefEqProofs:=false) only[SP,SA,WP,sevalprocAttr,-List.reduceReplicate,b_shape_Common_l0,e1,envCm]
   subst hQ
   exact⟨rfl,_,_,.inr ⟨nl,bs,rfl,by simp[Tr.get_set],hnl,by rw[hs];simp,hlen,hby⟩⟩
 obtain⟨r,h1,E,H,h2⟩:=wpO_spec hloop
 have h1':loopA (roundA (evalC (callL (fun _=>none) 8) b_shape_Common_l0) (clean 1 [3,4,8,34,35])) rounds ⟨((((Tr.lf.set 35 (.pv (.int .i64 0))).set 34 (.pv (i64 n))).set 8 (.uq 0 true 1 [])).set 4 (.pv (.rp [Q,i64 q.first] 0))).set 3 (.pv (.rp [P,i64 p.first] 0)),[.tok 1 0 true]⟩=some r:=h1
 have d0:decide ((n:Int) < 0)=false:=dec_f (by omega)
 have d1:decide ((n:Int) > (if (q.parts.length:Int) < (p.parts.length:Int) then (q.parts.length:Int) else (p.parts.length:Int)))=false:=dec_f (by split <;> omega)
 have hz:(0 < 1)=True:=by simp
 have r2:∀ H (x y:PV),loadA H true 2 (.pv (.rp [x,y] 0))=some (.pv (.agg [x,y])):=fun H x y=>rfl
 have r0:∀ H (x y:PV),loadA H false 1 (.pv (.rp [x,y] 0))=some (.pv x):=fun H x y=>rfl
 have q0:∀ H (x y:PV),place H 0 (.pv (.rp [x,y] 0))=some (.pv (.rp [x,y] 0)):=fun H x y=>rfl
 rcases h2 with⟨rfl,h6,h7,hnone⟩ | ⟨nl,bs,rfl,h8',hnl,hsome,hlen,hby⟩
 ·refine⟨fun _=> ?_,fun bs hbs=>by rw[hnone] at hbs;cases hbs⟩
  simp (implicitDefEqProofs:=false) only[F_shape_Common,SP,SA,WP,sevalprocAttr,-List.reduceReplicate,b_shape_Common,C_loop,hP1,hQ1,r2,r0,q0,hb1,hb2,lP,lQ,bestA,bestOf,d0,d1,ghostA,hz,clean,cutEnv,AV.cut,cutObj,deep_eq',h1',h6,h7]
 ·refine⟨fun hn=>(by rw[hsome] at hn;cases hn),fun bs' hbs=> ?_⟩
  rw[hsome] at hbs;injection hbs with hbs;subst hbs
  cases nl with
  |true=>
   have:=hnl rfl;subst this
   refine⟨.nils,?_,.inl ⟨rfl,rfl⟩,hlen,hby⟩
   simp (implicitDefEqProofs:=false) only[F_shape_Common,SP,SA,WP,sevalprocAttr,-List.reduceReplicate,b_shape_Common,C_loop,hP1,hQ1,r2,r0,q0,hb1,hb2,lP,lQ,bestA,bestOf,d0,d1,ghostA,hz,clean,cutEnv,AV.cut,cutObj,deep_eq',h1',h8']
  |false=>
   refine⟨.lit 1 (bs.map (PV.int .u8)),?_,.inr rfl,hlen,hby⟩
   simp (implicitDefEqProofs:=false) only[F_shape_Common,SP,SA,WP,sevalprocAttr,-List.reduceReplicate,b_shape_Common,C_loop,hP1,hQ1,r2,r0,q0,hb1,hb2,lP,lQ,bestA,bestOf,d0,d1,ghostA,hz,clean,cutEnv,AV.cut,cutObj,deep_eq',h1',h8']
end Go.AM.B1
namespace Go.AM.B1
open Go.AM Go.AM.So
def prodS:List (List (Int×Int))→Int
 | []=>1
 |l::r=>prodS r * sizeR 0 l
theorem prodS_pos:∀ {ls:List (List (Int×Int))},(∀ l∈ls,PartOk l)→1≤prodS ls
 | [],_=>by simp[prodS]
 |l::r,h=>by
  have h1:=prodS_pos (ls:=r) fun x hx=>h x (by simp[hx])
  have h2:=(partOk_size (h l (by simp))).1
  rw[prodS]
  have:=Int.mul_le_mul h1 h2 (by omega) (by omega);omega
theorem lastN_prod:∀ (ls:List (List (Int×Int))) (n:Int),(∀ l∈ls,PartOk l)→1≤n→n≤1073741825→lastN n ls=if 1073741825 < n * prodS ls then 1073741825 else n * prodS ls
 | [],n,_,h1,h2=>by rw[lastN,prodS,Int.mul_one,if_neg (by omega)]
 |l::r,n,h,h1,h2=>by
  have hs:=partOk_size (h l (by simp))
  have hm:=mul_small h1 h2 hs.1 hs.2
  have hp:=prodS_pos (ls:=r) fun x hx=>h x (by simp[hx])
  have e:n * (prodS r * sizeR 0 l)=(n * sizeR 0 l) * prodS r:=by rw[Int.mul_comm (prodS r),Int.mul_assoc]
  rw[lastN,prodS,e]
  by_cases hc:1073741825 < n * sizeR 0 l
  ·rw[if_pos hc,lastN_prod r _ (fun x hx=>h x (by simp[hx])) (by omega) (by omega)]
   have h3:n * sizeR 0 l * 1≤n * sizeR 0 l * prodS r:=Int.mul_le_mul_of_nonneg_left hp (by omega)
   rw[if_pos (show 1073741825 < n * sizeR 0 l * prodS r by omega)]
   split
   ·rfl
   ·have h4:1073741825 * 1≤1073741825 * prodS r:=Int.mul_le_mul_of_nonneg_left hp (by omega)
    omega
  ·rw[if_neg hc,lastN_prod r _ (fun x hx=>h x (by simp[hx])) (by omega) (by omega)]
theorem ShpOk.prod {s:Shp} (h:ShpOk s):lastN 1 s.parts=prodS s.parts∧prodS s.parts≤1073741824:=by
 have h1:=lastN_prod s.parts 1 h.parts (by omega) (by omega)
 have h2:=h.last
 have h3:=h.f0
 unfold lastS at h2
 rw[Int.one_mul] at h1
 split at h1
 ·omega
 ·exact⟨h1,by omega⟩
theorem ShpOk.lastS {s:Shp} (h:ShpOk s):B1.lastS s=s.first+prodS s.parts - 1:=by
 unfold B1.lastS;rw[h.prod.1]
theorem prodS_drop {ls:List (List (Int×Int))} (h:∀ l∈ls,PartOk l) (i:Nat):prodS (ls.drop i)≤prodS ls:=by
 induction ls generalizing i with
 |nil=>simp
 |cons l r ih=>
  cases i with
  |zero=>simp
  |succ i=>
   rw[List.drop_succ_cons,prodS]
   have h1:=ih (fun x hx=>h x (by simp[hx])) i
   have h2:=(partOk_size (h l (by simp))).1
   have hp:=prodS_pos (ls:=r) fun x hx=>h x (by simp[hx])
   have:prodS r * 1≤prodS r * sizeR 0 l:=Int.mul_le_mul_of_nonneg_left h2 (by omega)
   omega
def iobj (l:List Int) (fl:Nat) (nl:Bool):AObj:= .seq 1 false (rowA l) fl nl
section
variable {A:List AObj} {id n fl:Nat} {nl:Bool} {l:List Int} (hg:A[id]? =some (iobj l fl nl)) (hn:n=l.length) (hf:fl≤n)
include hg hn
theorem iobj_iaddr (hf:fl≤n) {i:Int} {k:Nat} (hi:i=(k:Int)) (hk:k < n):iaddrA' A 1 (.own id n) i=some (.eptr id n k):=by
 have:=rowA_len l
 subst hi
 simp only[iaddrA',hg,iobj]
 rw[if_pos (by refine⟨trivial,?_,?_⟩ <;> first | (unfold idxOk;omega) | (unfold winOk;omega))]
 simp
theorem iobj_store {k:Nat} (hk:k < n) (v:Int):storeA A 1 (.eptr id n k) (.pv (i64 v))=some (A.set id (iobj (l.set k v) n nl)):=by
 have hl:=rowA_len l
 have hc:(AV.pv (i64 v)).cells=[.pv (i64 v)]:=rfl
 simp only[storeA,hg,iobj,hc]
 rw[if_pos ⟨rfl,rfl⟩,if_pos ⟨by omega,by omega⟩,setRow,setRow,rowA_set]
theorem iobj_toPV (d:Nat):toPV A (d+1) (.own id n)=some (if nl then .nils else .lit 1 (l.map i64)):=by
 have hl:=rowA_len l
 subst hn
 simp only[toPV,hg,iobj]
 have hm:mapO (toPV A d) (rowA l)=some (l.map i64):=by rw[rowA_map,mapO_pv]
 have hck:∀ l:List Int,chunk 1 false l.length (l.map i64)=l.map i64:=by
  intro l
  induction l with
  |nil=>rfl
  |cons a l ih=>simp only[List.map_cons,List.length_cons,chunk,Bool.false_eq_true,if_false,List.headD_cons,List.drop_succ_cons,List.drop_zero];rw[ih]
 rw[if_pos ⟨by omega,by rfl⟩,hm]
 cases nl with
 |true=>rfl
 |false=>simp only[Bool.false_eq_true,if_false,Option.map_some,hck]
end
theorem iobj_cut (l:List Int) (fl:Nat) (nl:Bool) (n:Nat):cutObj n (iobj l fl nl)=some (iobj l fl nl):=by
 have:(rowA l).all (AV.keep n deep)=true:=by
  rw[List.all_eq_true]
  intro v hv
  obtain⟨p,_,rfl⟩:=List.mem_map.1 hv
  rfl
 simp[cutObj,iobj,this]
def stepL (ls:List (List (Int×Int))) (i:Nat):List Int:=(List.range (ls.length+1)).map fun j=>if i < j then prodS (ls.drop j) else 0
theorem stepL_len (ls:List (List (Int×Int))) (i:Nat):(stepL ls i).length=ls.length+1:=by simp[stepL]
theorem stepL_set (ls:List (List (Int×Int))) (i:Nat) (hi:i < ls.length):(stepL ls (i+1)).set (i+1) (prodS (ls.drop (i+1)))=stepL ls i:=by
 apply List.ext_getElem
 ·simp[stepL]
 ·intro j h1 h2
  rw[List.getElem_set]
  simp only[stepL,List.getElem_map,List.getElem_range]
  by_cases hj:i+1=j
  ·subst hj;simp
  ·rw[if_neg hj]
   by_cases h:i+1 < j
   ·rw[if_pos h,if_pos (by omega)]
   ·rw[if_neg h,if_neg (by omega)]
def stepsR (ls:List (List (Int×Int))):List Int:=(List.range (ls.length+1)).map fun j=>prodS (ls.drop j)
theorem stepL_zero (ls:List (List (Int×Int))):(stepL ls 0).set 0 (prodS ls)=stepsR ls:=by
 apply List.ext_getElem
 ·simp[stepL,stepsR]
 ·intro j h1 h2
  rw[List.getElem_set]
  simp only[stepL,stepsR,List.getElem_map,List.getElem_range]
  by_cases hj:0=j
  ·subst hj;simp
  ·rw[if_neg hj,if_pos (by omega)]
abbrev envSt (row:List PV) (m:Nat) (n i:Int):Tr:=(((Tr.lf.set 5 (.pv (i64 i))).set 4 (.pv (i64 n))).set 3 (.own 0 m)).set 1 (.pv (.rp row 0))
theorem steps_run {e:PV} {s:Shp} {P:PV} {ps:List PV} (h:HeldShp e s P ps) (hok:ShpOk s):F_shape_steps [e]=some (.lit 1 ((stepsR s.parts).map i64)):=by
 obtain⟨hP1,hP2⟩:=h.Pone
 have heq:=h.eq
 subst heq
 have hP:=h.parts
 have lP:=hP.lenA
 have h8:=hok.hi
 have hpr:=hok.prod.2
 have hloop:wpO (fun r=>∃ E,r=(.exit 0,⟨E,[iobj (stepL s.parts 0) (s.parts.length+1) false]⟩)∧E.get 3= .own 0 (s.parts.length+1)∧E.get 4= .pv (i64 (prodS s.parts)))
  (loopA (roundA (evalC (callL (fun _=>none) 8) b_shape_steps_l0) (clean 1 [1,3,4,5])) rounds ⟨envSt [P,i64 s.first] (s.parts.length+1) 1 s.parts.length,[iobj (stepL s.parts s.parts.length) 0 false]⟩):=by
  refine wpO_mono (loopA_wp (g:=roundA (evalC (callL (fun _=>none) 8) b_shape_steps_l0) (clean 1 [1,3,4,5]))
   (fun i t=>∃ fl,i≤s.parts.length∧t=⟨envSt [P,i64 s.first] (s.parts.length+1) (prodS (s.parts.drop i)) i,[iobj (stepL s.parts i) fl false]⟩∧fl≤s.parts.length+1∧(i < s.parts.length∨s.parts.length=0→fl=s.parts.length+1∨s.parts.length=0))
   rounds s.parts.length _ (by unfold rounds;omega) ⟨0,Nat.le_refl _,by rw[List.drop_length];rfl,by omega,fun h=>by omega⟩ ?_) (fun r h=>h.2)
  rintro i t ⟨fl,hi,rfl,hfl,hfl2⟩
  cases i with
  |zero=>
   have h1:=hok.lo
   have:fl=s.parts.length+1:=by rcases hfl2 (.inl (by omega)) with h | h <;> omega
   subst this
   have e1:decide (((0:Nat):Int) > 0)=false:=by decide
   generalize hQ:LQ _ _ _=Q
   simp (implicitDefEqProofs:=false) only[SP,SA,WP,sevalprocAttr,-List.reduceReplicate,b_shape_steps_l0,e1,envSt]
   subst hQ
   exact⟨_,rfl,by simp[Tr.get_set],by simp[Tr.get_set]⟩
  |succ i=>
   have e1:decide (((i+1:Nat):Int) > 0)=true:=dec_t (by omega)
   have t1:IntKind.i64.wrap (((i+1:Nat):Int) - 1)=(i:Int):=by rw[wrap_int (by omega)];omega
   have hg:[iobj (stepL s.parts (i+1)) fl false][0]? =some (iobj (stepL s.parts (i+1)) fl false):=rfl
   have a1:=iobj_iaddr hg (n:=s.parts.length+1) (stepL_len _ _).symm hfl (i:=((i+1:Nat):Int)) rfl (by omega)
   have s1:=iobj_store hg (n:=s.parts.length+1) (stepL_len _ _).symm (k:=i+1) (by omega) (prodS (s.parts.drop (i+1)))
   rw[List.set_cons_zero,stepL_set s.parts i (by omega)] at s1
   obtain⟨v,hv,hpt,_⟩:=hP.iaddr (i:=i) (by omega) []
   have a2:=hP.iaddrU hv
   have hpo:=hok.parts s.parts[i] (List.getElem_mem (by omega))
   have hss:=spans_size_run v s.parts[i] hpt.is hpt.sz hpo.2
   have hd:s.parts.drop i=s.parts[i]::s.parts.drop (i+1):=List.drop_eq_getElem_cons (by omega)
   have hpd:prodS (s.parts.drop i)=prodS (s.parts.drop (i+1)) * sizeR 0 s.parts[i]:=by rw[hd,prodS]
   have hle:=prodS_drop hok.parts i
   have hpos:=prodS_pos (ls:=s.parts.drop i) fun x hx=>hok.parts x (List.mem_of_mem_drop hx)
   rw[hpd] at hle hpos
   generalize s.parts[i]=l at *
   have t3:IntKind.i64.wrap (prodS (s.parts.drop (i+1)) * sizeR 0 l)=prodS (s.parts.drop (i+1)) * sizeR 0 l:=wrap_int (by omega)
   have r0:∀ H (x y:PV),loadA H false 1 (.pv (.rp [x,y] 0))=some (.pv x):=fun H x y=>rfl
   have r1:∀ H (x:PV),loadA H false 1 (.pv (.rp [x] 0))=some (.pv x):=fun H x=>rfl
   have q0:∀ H (x y:PV),place H 0 (.pv (.rp [x,y] 0))=some (.pv (.rp [x,y] 0)):=fun H x y=>rfl
   have hcut:∀ l' fl',mapO (cutObj 1) [iobj l' fl' false]=some [iobj l' fl' false]:=fun l' fl'=>by simp[mapO,iobj_cut]
   have hz:(0 < 1)=True:=by simp
   have htk:∀ o:AObj,[o].take 1=[o]:=fun o=>rfl
   generalize hQ:LQ _ _ _=Q
   simp (implicitDefEqProofs:=false) only[SP,WP,setRow,sevalprocAttr,-List.reduceReplicate,b_shape_steps_l0,e1,t1,t3,a1,s1,a2,hss,r0,r1,q0,hcut,hz,htk,clean,cutEnv,AV.cut,deep_eq',envSt]
   subst hQ
   exact⟨i,by omega,s.parts.length+1,by omega,by rw[hpd],by omega,fun _=> .inl rfl⟩
 obtain⟨r,h1,E,rfl,hE3,hE4⟩:=wpO_spec hloop
 have h1':loopA (roundA (evalC (callL (fun _=>none) 8) b_shape_steps_l0) (clean 1 [1,3,4,5])) rounds ⟨(((Tr.lf.set 5 (.pv (i64 s.parts.length))).set 4 (.pv (.int .i64 1))).set 3 (.own 0 (s.parts.length+1))).set 1 (.pv (.rp [P,i64 s.first] 0)),[iobj (stepL s.parts s.parts.length) 0 false]⟩=_:=h1
 have hz0:AObj.seq 1 false (repZ [PV.int .i64 0] (s.parts.length+1)) 0 false=iobj (stepL s.parts s.parts.length) 0 false:=by
  rw[repZ_zero,iobj]
  congr 2
  apply List.ext_getElem
  ·simp[stepL]
  ·intro j hj1 hj2
   simp at hj1
   simp only[stepL,List.getElem_replicate,List.getElem_map,List.getElem_range]
   rw[if_neg (by omega)]
 have t1:IntKind.i64.wrap ((s.parts.length:Int)+1)=((s.parts.length+1:Nat):Int):=wrap_int (by omega)
 have e2:(0≤((s.parts.length+1:Nat):Int))=True:=by simp;omega
 have e3:(((s.parts.length+1:Nat):Int)≤((s.parts.length+1:Nat):Int))=True:=by simp
 have e4:roomOk (s.parts.length+1) 8:=by unfold roomOk;omega
 have hg:[iobj (stepL s.parts 0) (s.parts.length+1) false][0]? =some (iobj (stepL s.parts 0) (s.parts.length+1) false):=rfl
 have a1:=iobj_iaddr hg (n:=s.parts.length+1) (stepL_len _ _).symm (Nat.le_refl _) (i:=0) (k:=0) rfl (by omega)
 have s1:=iobj_store hg (n:=s.parts.length+1) (stepL_len _ _).symm (k:=0) (by omega) (prodS s.parts)
 rw[List.set_cons_zero,stepL_zero] at s1
 have hpv:=iobj_toPV (A:=[iobj (stepsR s.parts) (s.parts.length+1) false]) (id:=0) (n:=s.parts.length+1) rfl (by simp[stepsR]) 5
 rw[if_neg (by simp)] at hpv
 have r0:∀ H (x y:PV),loadA H false 1 (.pv (.rp [x,y] 0))=some (.pv x):=fun H x y=>rfl
 have q0:∀ H (x y:PV),place H 0 (.pv (.rp [x,y] 0))=some (.pv (.rp [x,y] 0)):=fun H x y=>rfl
 have hcut:∀ l' fl',mapO (cutObj 1) [iobj l' fl' false]=some [iobj l' fl' false]:=fun l' fl'=>by simp[mapO,iobj_cut]
 have hz:(0 < 1)=True:=by simp
 have htk:∀ o:AObj,[o].take 1=[o]:=fun o=>rfl
 generalize s.parts.length+1=m at *
 simp (implicitDefEqProofs:=false) only[F_shape_steps,SP,WP,setRow,sevalprocAttr,-List.reduceReplicate,b_shape_steps,C_loop,hP1,r0,q0,lP,t1,e2,e3,eq_true e4,hz0,hcut,hz,htk,clean,cutEnv,AV.cut,h1',hE3,hE4,a1,s1,hpv,deep_eq']
end Go.AM.B1
namespace Go.AM.B1
open Go.AM Go.AM.So
def rankGo:List (List (Int×Int))→List Int→Int→Option Int
 |l::r,x::b,k=>if (rankR x 0 l).2=true then rankGo r b (k+(rankR x 0 l).1 * prodS r) else none
 |_,_,k=>some k
def rankS (s:Shp) (b:List Int):Option Int:=if b.length=s.parts.length then rankGo s.parts b 0 else none
theorem rankR_bound {top x:Int}:∀ {l:List (Int×Int)} {last n:Int},validR top last l=true→(rankR x n l).2=true→n≤(rankR x n l).1∧(rankR x n l).1 < n+sizeR 0 l
 | [],last,n,_,h=>by simp[rankR] at h
 |p::l,last,n,hv,h=>by
  obtain⟨h1,h2,h3,h4,h5⟩:=validR_cons hv
  have hs:=(sizeR_bound h5).1
  rw[rankR] at h ⊢
  rw[sizeR,sizeR_acc]
  by_cases c1:x < p.1
  ·rw[if_pos c1] at h;cases h
  ·rw[if_neg c1] at h ⊢
   by_cases c2:x≤p.2
   ·rw[if_pos c2];simp only;omega
   ·rw[if_neg c2] at h ⊢
    have:=rankR_bound h5 h;omega
theorem setR_ok {l:List (Int×Int)} (h:validR 255 (-2) l=true):setR l=l:=by unfold setR;rw[if_pos h]
theorem lit_drop (H:List AObj) {sz k:Nat} {es:List PV} (hz:0 < sz) (hk:k≤es.length):sliceA H sz (.pv (.lit sz es)) (some (k:Int)) none=some (.pv (.lit sz (es.drop k))):=by
 simp only[sliceA,Option.getD_some,Option.getD_none]
 rw[if_pos ⟨hz,trivial,by omega,by omega,by omega⟩]
 simp
theorem rankGo_nil (b:List Int) (k:Int):rankGo [] b k=some k:=by cases b <;> rfl
abbrev envRk (row:List PV) (B S:PV) (n i k:Int):Tr:=(((((Tr.lf.set 26 (.pv (i64 i))).set 25 (.pv (i64 n))).set 24 (.pv S)).set 6 (.pv (i64 k))).set 2 (.pv (.rp row 0))).set 1 (.pv B)
structure HeldB (B:PV) (bs:List Int):Prop where
 is:IsL 1 B (bs.map (PV.int .u8))
 rng:∀ b∈bs,0≤b∧b≤255
theorem HeldB.lenA {B:PV} {bs:List Int} (h:HeldB B bs) (H:List AObj):Go.AM.lenA H 0 (.pv B)=some bs.length:=by
 rw[h.is.len];simp
theorem HeldB.one {B:PV} {bs:List Int} (h:HeldB B bs):(AV.pv B).one=true:=by
 rcases h.is with⟨h,_⟩ | h <;> rw[h] <;> rfl
theorem HeldB.iaddr {B:PV} {bs:List Int} (h:HeldB B bs) {i:Nat} (hi:i < bs.length) (H:List AObj):iaddrA' H 1 (.pv B) (i:Int)=some (.pv (.rp [.int .u8 bs[i]] 0)):=by
 have hl:=h.is.lit (i:=i) (by simpa using hi)
 rw[hl]
 simp only[iaddrA']
 rw[if_pos (by unfold idxOk;simp;omega),Int.toNat_natCast,List.getElem?_map,List.getElem?_eq_getElem hi];rfl
theorem shape_rank_run {e:PV} {s:Shp} {P:PV} {ps:List PV} (h:HeldShp e s P ps) {B:PV} {bs:List Int} (hB:HeldB B bs) (hok:ShpOk s):
 (∀ k,rankS s bs=some k→F_shape_Rank [e,B]=some (.tup [i64 k,.bool true]))∧(rankS s bs=none→F_shape_Rank [e,B]=some (.tup [i64 0,.bool false])):=by
 obtain⟨b1,hb1,hb1'⟩:=shape_valid_run h
 have:=hb1'.2 hok
 subst this
 have hst:=steps_run h hok
 obtain⟨hP1,hP2⟩:=h.Pone
 have heq:=h.eq
 subst heq
 have hP:=h.parts
 have lP:=hP.lenA
 have lB:=hB.lenA
 have hB1:=hB.one
 have h8:=hok.hi
 have hpr:=hok.prod.2
 have r2:∀ H (x y:PV),loadA H true 2 (.pv (.rp [x,y] 0))=some (.pv (.agg [x,y])):=fun H x y=>rfl
 have r0:∀ H (x y:PV),loadA H false 1 (.pv (.rp [x,y] 0))=some (.pv x):=fun H x y=>rfl
 have r1:∀ H (x:PV),loadA H false 1 (.pv (.rp [x] 0))=some (.pv x):=fun H x=>rfl
 have q0:∀ H (x y:PV),place H 0 (.pv (.rp [x,y] 0))=some (.pv (.rp [x,y] 0)):=fun H x y=>rfl
 by_cases hlen:bs.length=s.parts.length
 ·have hrk:rankS s bs=rankGo s.parts bs 0:=by unfold rankS;rw[if_pos hlen]
  have hsl:∀ H,sliceA H 1 (.pv (.lit 1 ((stepsR s.parts).map i64))) (some 1) none=some (.pv (.lit 1 (((stepsR s.parts).map i64).drop 1))):=fun H=>lit_drop H (k:=1) (by omega) (by simp[stepsR])
  have hdl:(((stepsR s.parts).map i64).drop 1).length=s.parts.length:=by simp[stepsR]
  have hde:∀ i,i < s.parts.length→(((stepsR s.parts).map i64).drop 1)[i]? =some (i64 (prodS (s.parts.drop (i+1)))):=by
   intro i hi
   rw[List.getElem?_drop,List.getElem?_map,stepsR,List.getElem?_map,List.getElem?_range (by omega),Nat.add_comm 1 i];rfl
  generalize ((stepsR s.parts).map i64).drop 1=S at *
  have hloop:wpO (fun r=>∃ E,(r=(.ret,⟨E,[]⟩)∧E.get 4= .pv (i64 0)∧E.get 5= .pv (.bool false)∧rankGo s.parts bs 0=none)∨(∃ k,r=(.exit 0,⟨E,[]⟩)∧E.get 6= .pv (i64 k)∧rankGo s.parts bs 0=some k))
   (loopA (roundA (evalC (callL (fun _=>none) 8) b_shape_Rank_l0) (clean 0 [1,2,6,24,25,26])) rounds ⟨envRk [P,i64 s.first] B (.lit 1 S) s.parts.length 0 0,[]⟩):=by
   refine wpO_mono (loopN_wp (g:=roundA (evalC (callL (fun _=>none) 8) b_shape_Rank_l0) (clean 0 [1,2,6,24,25,26]))
    (fun i t=>∃ k,t=⟨envRk [P,i64 s.first] B (.lit 1 S) s.parts.length i k,[]⟩∧0≤k∧k+prodS (s.parts.drop i)≤prodS s.parts∧rankGo s.parts bs 0=rankGo (s.parts.drop i) (bs.drop i) k)
    s.parts.length (by unfold rounds;omega) _ ⟨0,rfl,by omega,by simp,rfl⟩ ?_ ?_) (fun r h=>h.2)
   ·rintro i t hi ⟨k,rfl,hk0,hk1,hs⟩
    obtain⟨v,hv,hpt,_⟩:=hP.iaddr hi []
    have a2:=hP.iaddrU hv
    have hpo:=hok.parts s.parts[i] (List.getElem_mem hi)
    have hib:i < bs.length:=by omega
    have a3:=hB.iaddr hib
    have hbr:=hB.rng bs[i] (List.getElem_mem hib)
    have hd:s.parts.drop i=s.parts[i]::s.parts.drop (i+1):=List.drop_eq_getElem_cons hi
    have hdb:bs.drop i=bs[i]::bs.drop (i+1):=List.drop_eq_getElem_cons hib
    have hrr:=spans_rank_run v s.parts[i] hpt.is hpt.sz bs[i]
    rw[setR_ok hpo.2] at hrr
    have hrb:=rankR_bound (x:=bs[i]) (n:=0) hpo.2
    rw[hd,prodS] at hk1
    rw[hd,hdb,rankGo] at hs
    have hle:=prodS_drop hok.parts (i+1)
    have hpos:=prodS_pos (ls:=s.parts.drop (i+1)) fun x hx=>hok.parts x (List.mem_of_mem_drop hx)
    have hsz:=partOk_size hpo
    generalize s.parts[i]=l at *
    generalize bs[i]=x at *
    have e1:decide ((i:Int) < (s.parts.length:Int))=true:=dec_t (by omega)
    have t2:=stepWrap hi (by unfold maxLen;omega)
    have t3:IntKind.i64.wrap x=x:=wrap_int (by omega)
    have a1:∀ H,iaddrA' H 1 (.pv (.lit 1 S)) (i:Int)=some (.pv (.rp [i64 (prodS (s.parts.drop (i+1)))] 0)):=fun H=>by
     simp only[iaddrA']
     rw[if_pos (by unfold idxOk;simp;omega),Int.toNat_natCast,hde i hi];rfl
    obtain⟨⟨d,is⟩,hrk2⟩:∃ r,r=rankR x 0 l:=⟨_,rfl⟩
    rw[← hrk2] at hrr hs hrb
    generalize hQ:LN _ _ i=Q
    cases is with
    |false=>
     simp only[Bool.false_eq_true,if_false] at hs
     simp (implicitDefEqProofs:=false) only[SP,SA,WP,sevalprocAttr,-List.reduceReplicate,b_shape_Rank_l0,e1,a1,a2,a3,r0,r1,q0,t3,hrr,envRk]
     subst hQ
     exact⟨_,.inl ⟨rfl,by simp[Tr.get_set],by simp[Tr.get_set],hs⟩⟩
    |true=>
     simp only[if_true] at hs
     have hb2:=hrb rfl
     simp only at hb2
     have hmul:d * prodS (s.parts.drop (i+1))+prodS (s.parts.drop (i+1))≤prodS (s.parts.drop (i+1)) * sizeR 0 l:=by
      have h1:(d+1) * prodS (s.parts.drop (i+1))≤sizeR 0 l * prodS (s.parts.drop (i+1)):=Int.mul_le_mul_of_nonneg_right (by omega) (by omega)
      rw[Int.add_mul,Int.one_mul,Int.mul_comm (sizeR 0 l)] at h1
      exact h1
     have hm0:0≤d * prodS (s.parts.drop (i+1)):=Int.mul_nonneg (by omega) (by omega)
     have t4:IntKind.i64.wrap (d * prodS (s.parts.drop (i+1)))=d * prodS (s.parts.drop (i+1)):=wrap_int (by omega)
     have t5:IntKind.i64.wrap (k+d * prodS (s.parts.drop (i+1)))=k+d * prodS (s.parts.drop (i+1)):=wrap_int (by omega)
     simp (implicitDefEqProofs:=false) only[SP,SA,WP,sevalprocAttr,-List.reduceReplicate,b_shape_Rank_l0,e1,t2,t4,t5,a1,a2,a3,r0,r1,q0,t3,hrr,clean,cutEnv,AV.cut,deep_eq',envRk]
     subst hQ
     exact⟨_,rfl,by omega,by omega,hs⟩
   ·rintro t ⟨k,rfl,hk0,hk1,hs⟩
    rw[List.drop_length,rankGo_nil] at hs
    have e1:decide ((s.parts.length:Int) < (s.parts.length:Int))=false:=dec_f (by omega)
    generalize hQ:(fun r:Ex×St=>r.1.stop=true∧_)=Q
    simp (implicitDefEqProofs:=false) only[SP,SA,WP,sevalprocAttr,-List.reduceReplicate,b_shape_Rank_l0,e1,envRk]
    subst hQ
    exact⟨rfl,_,.inr ⟨k,rfl,by simp[Tr.get_set],hs⟩⟩
  obtain⟨r,h1,E,h2⟩:=wpO_spec hloop
  have h1':loopA (roundA (evalC (callL (fun _=>none) 8) b_shape_Rank_l0) (clean 0 [1,2,6,24,25,26])) rounds ⟨(((((Tr.lf.set 26 (.pv (.int .i64 0))).set 25 (.pv (i64 s.parts.length))).set 24 (.pv (.lit 1 S))).set 6 (.pv (.int .i64 0))).set 2 (.pv (.rp [P,i64 s.first] 0))).set 1 (.pv B),[]⟩=some r:=h1
  have d1:((bs.length:Int) != (s.parts.length:Int))=false:=by rw[hlen];simp
  rw[hrk]
  rcases h2 with⟨rfl,h4,h5,hn⟩ | ⟨k,rfl,h6,hk⟩
  ·refine⟨fun k hk=>by (rw[hn] at hk;cases hk),fun _=> ?_⟩
   simp (implicitDefEqProofs:=false) only[F_shape_Rank,SP,SA,WP,sevalprocAttr,-List.reduceReplicate,b_shape_Rank,C_loop,hP1,hB1,r2,r0,q0,hb1,lP,lB,d1,hst,hsl,hdl,clean,cutEnv,AV.cut,deep_eq',h1',h4,h5]
  ·refine⟨fun k' hk'=> ?_,fun hn=>by (rw[hk] at hn;cases hn)⟩
   obtain rfl:k=k':=Option.some.inj (hk.symm.trans hk')
   simp (implicitDefEqProofs:=false) only[F_shape_Rank,SP,SA,WP,sevalprocAttr,-List.reduceReplicate,b_shape_Rank,C_loop,hP1,hB1,r2,r0,q0,hb1,lP,lB,d1,hst,hsl,hdl,clean,cutEnv,AV.cut,deep_eq',h1',h6]
 ·have d1:((bs.length:Int) != (s.parts.length:Int))=true:=by
   have:(bs.length:Int)≠(s.parts.length:Int):=by omega
   simp[this]
  have hrk:rankS s bs=none:=by unfold rankS;rw[if_neg hlen]
  refine⟨fun k hk=>by (rw[hrk] at hk;cases hk),fun _=> ?_⟩
  simp (implicitDefEqProofs:=false) only[F_shape_Rank,SP,SA,WP,sevalprocAttr,-List.reduceReplicate,b_shape_Rank,C_loop,hP1,hB1,r2,r0,q0,hb1,lP,lB,d1]
end Go.AM.B1
namespace Go.AM.B1
open Go.AM Go.AM.So
abbrev u8s (bs:List Int):List PV:=bs.map (PV.int .u8)
abbrev envCf (row:List PV) (P:PV) (n i:Int) (tk:Nat) (es:List PV):Tr:=((((Tr.lf.set 19 (.pv (i64 i))).set 18 (.pv (i64 n))).set 17 (.pv P)).set 5 (.uq tk false 1 es)).set 2 (.pv (.rp row 0))
theorem first_run {e:PV} {s:Shp} {P:PV} {ps:List PV} (h:HeldShp e s P ps) {B:PV} {bs:List Int} (hB:HeldB B bs) (hok:ShpOk s) (hlen:bs.length≤s.parts.length):
 ∃ k,F_clash_first [e,B]=some (i64 k):=by
 have hh:=h
 obtain⟨hP1,hP2⟩:=h.Pone
 have heq:=h.eq
 subst heq
 have hP:=h.parts
 have lP:=hP.lenA
 have lB:=hB.lenA
 have hB1:=hB.one
 have h8:=hok.hi
 have hPl:P= .lit 1 ps:=hP.is.lit (i:=0) (by rw[hP.len];exact hok.lo)
 have r2:∀ H (x y:PV),loadA H true 2 (.pv (.rp [x,y] 0))=some (.pv (.agg [x,y])):=fun H x y=>rfl
 have r0:∀ H (x y:PV),loadA H false 1 (.pv (.rp [x,y] 0))=some (.pv x):=fun H x y=>rfl
 have r01:∀ H (x y:PV),loadA H false 1 (.pv (.rp [x,y] 1))=some (.pv y):=fun H x y=>rfl
 have r1:∀ H (x:PV),loadA H false 1 (.pv (.rp [x] 0))=some (.pv x):=fun H x=>rfl
 have q0:∀ H (x y:PV),place H 0 (.pv (.rp [x,y] 0))=some (.pv (.rp [x,y] 0)):=fun H x y=>rfl
 have q1:∀ H (x y:PV),place H 1 (.pv (.rp [x,y] 0))=some (.pv (.rp [x,y] 1)):=fun H x y=>rfl
 have hsl:∀ H,sliceA H 1 (.pv P) (some (bs.length:Int)) none=some (.pv (.lit 1 (ps.drop bs.length))):=fun H=>by rw[hPl];exact lit_drop H (by omega) (by rw[hP.len];exact hlen)
 have hdl:(ps.drop bs.length).length=s.parts.length - bs.length:=by rw[List.length_drop,hP.len]
 have hap0:appendA [.tok 1 0 false] false .uq 1 false 1 (.uq 0 false 1 []) (.pv B)=some (.uq 0 false 1 (u8s bs),[.tok 1 bs.length false]):=by
  have he:elemsP 1 (.pv B)=some (u8s bs):=by
   rcases hB.is with⟨rfl,hbs⟩ | rfl
   ·have:u8s bs=[]:=hbs
    rw[this];rfl
   ·simp[elemsP,u8s]
  simp only[appendA,Bool.false_eq_true,if_false,List.getElem?_cons_zero,he,Option.bind_some,List.length_nil,Nat.zero_add,List.nil_append]
  rw[if_pos ⟨trivial,trivial,trivial,by unfold roomOk;simp[u8s];omega⟩]
  simp[u8s]
 have hloop:wpO (fun r=>∃ E H bs',r=(.exit 0,⟨E,H⟩)∧E.get 5= .uq 0 false 1 (u8s bs')∧E.get 2= .pv (.rp [P,i64 s.first] 0)∧∀ b∈bs',0≤b∧b≤255)
  (loopA (roundA (evalC (callL (fun _=>none) 8) b_clash_first_l0) (clean 1 [2,5,17,18,19])) rounds ⟨envCf [P,i64 s.first] (.lit 1 (ps.drop bs.length)) ((s.parts.length - bs.length:Nat):Int) 0 0 (u8s bs),[.tok 1 bs.length false]⟩):=by
  refine wpO_mono (loopN_wp (g:=roundA (evalC (callL (fun _=>none) 8) b_clash_first_l0) (clean 1 [2,5,17,18,19]))
   (fun i t=>∃ bs',t=⟨envCf [P,i64 s.first] (.lit 1 (ps.drop bs.length)) ((s.parts.length - bs.length:Nat):Int) i 0 (u8s bs'),[.tok 1 bs'.length false]⟩∧bs'.length=bs.length+i∧∀ b∈bs',0≤b∧b≤255)
   (s.parts.length - bs.length) (by unfold rounds;omega) _ ⟨bs,rfl,rfl,hB.rng⟩ ?_ ?_) (fun r h=>h.2)
  ·rintro i t hi ⟨bs',rfl,hl',hr'⟩
   obtain⟨v,hv,hPl',hpt⟩:=hP.get (i:=bs.length+i) (by omega)
   have hpo:=hok.parts _ (List.getElem_mem (show bs.length+i < s.parts.length by omega))
   generalize s.parts[bs.length+i]=l at *
   obtain⟨p0,l',rfl⟩:=List.exists_cons_of_ne_nil hpo.1
   have hvl:v= .lit 2 (prs (p0::l')):=hpt.is.lit (i:=0) (by simp)
   have hcl:v.cells=[v]:=by rw[hvl];rfl
   have e1:decide ((i:Int) < ((s.parts.length - bs.length:Nat):Int))=true:=dec_t (by omega)
   have t2:=stepWrap hi (by unfold maxLen;omega)
   have a1:∀ H,iaddrA' H 1 (.pv (.lit 1 (ps.drop bs.length))) (i:Int)=some (.pv (.rp [v] 0)):=fun H=>by
    simp only[iaddrA']
    rw[if_pos (by have:=hP.len;unfold idxOk;simp;omega),Int.toNat_natCast,List.getElem?_drop,hv]
    simp[hcl]
   have i0:∀ H,iaddrA' H 2 (.pv v) 0=some (.pv (.rp [i64 p0.1,i64 p0.2] 0)):=fun H=>by
    rw[hvl];exact lit_iaddr H (i:=0) (l:=p0::l') (by simp)
   have hb0:=validR_all hpo.2 p0 (by simp)
   have t3:IntKind.u8.wrap p0.1=p0.1:=wrap_u8 (by omega)
   have hap:=byte_append (A:=[.tok 1 bs'.length false]) (id:=0) (n:=bs'.length) (h:= .uq) (nl:=false) (bytes:=1) (es:=u8s bs') rfl (by simp[u8s]) (by unfold roomOk;omega) (.int .u8 p0.1)
   rw[List.set_cons_zero] at hap
   have hbm:u8s (bs'++[p0.1])=u8s bs'++[.int .u8 p0.1]:=by simp[u8s]
   clear hvl
   generalize hQ:LN _ _ i=Q
   simp (implicitDefEqProofs:=false) only[SP,WP,setRow,sevalprocAttr,-List.reduceReplicate,b_clash_first_l0,e1,t2,t3,a1,i0,r0,r1,q0,hap,clean,cutEnv,AV.cut,cutObj,deep_eq',envCf]
   subst hQ
   refine⟨bs'++[p0.1],by rw[hbm];simp,by simp;omega,?_⟩
   intro b hb
   rcases List.mem_append.1 hb with h | h
   ·exact hr' b h
   ·simp at h;subst h;omega
  ·rintro t ⟨bs',rfl,hl',hr'⟩
   have e1:decide (((s.parts.length - bs.length:Nat):Int) < ((s.parts.length - bs.length:Nat):Int))=false:=dec_f (by omega)
   generalize hQ:(fun r:Ex×St=>r.1.stop=true∧_)=Q
   simp (implicitDefEqProofs:=false) only[SP,SA,WP,sevalprocAttr,-List.reduceReplicate,b_clash_first_l0,e1,envCf]
   subst hQ
   exact⟨rfl,_,_,bs',rfl,by simp[Tr.get_set],by simp[Tr.get_set],hr'⟩
 obtain⟨r,h1,E,H,bs',rfl,hE5,hE2,hr'⟩:=wpO_spec hloop
 have h1':loopA (roundA (evalC (callL (fun _=>none) 8) b_clash_first_l0) (clean 1 [2,5,17,18,19])) rounds ⟨((((Tr.lf.set 19 (.pv (.int .i64 0))).set 18 (.pv (i64 ((s.parts.length - bs.length:Nat):Int)))).set 17 (.pv (.lit 1 (ps.drop bs.length)))).set 5 (.uq 0 false 1 (u8s bs))).set 2 (.pv (.rp [P,i64 s.first] 0)),[.tok 1 bs.length false]⟩=_:=h1
 have hBl:HeldB (.lit 1 (u8s bs')) bs':=⟨.inr rfl,hr'⟩
 have hrk:=shape_rank_run hh hBl hok
 have hrk':∃ k b,F_shape_Rank [.agg [P,i64 s.first],.lit 1 (u8s bs')]=some (.tup [i64 k,.bool b]):=by
  cases hk:rankS s bs' with
  |some k=>exact⟨k,true,hrk.1 k hk⟩
  |none=>exact⟨0,false,hrk.2 hk⟩
 obtain⟨k,b,hk⟩:=hrk'
 refine⟨IntKind.i64.wrap (s.first+k),?_⟩
 clear hPl
 generalize u8s bs=ub at *
 generalize u8s bs'=ub' at *
 simp (implicitDefEqProofs:=false) only[F_clash_first,SP,WP,setRow,sevalprocAttr,-List.reduceReplicate,b_clash_first,C_loop,hP1,hB1,r2,r0,r01,q0,q1,lP,lB,hap0,hsl,hdl,clean,cutEnv,AV.cut,cutObj,deep_eq',h1',hE5,hE2,hk]
theorem HeldSch.iaddr {S:PV} {ss:List Shp} {es:List PV} (hS:HeldSch S ss es) {i:Nat} (hi:i < ss.length):∃ P ps,HeldShp (.agg [P,i64 ss[i].first]) ss[i] P ps∧∀ H,iaddrA' H 2 (.pv S) (i:Int)=some (.pv (.rp [P,i64 ss[i].first] 0)):=by
 obtain⟨e,P,ps,he,hSl,hsh⟩:=hS.get hi
 have heq:=hsh.eq
 subst heq
 refine⟨P,ps,hsh,fun H=> ?_⟩
 have hq:i < es.length:=by rw[hS.len];exact hi
 rw[hSl]
 simp only[iaddrA']
 rw[if_pos (by unfold idxOk;simp;omega),Int.toNat_natCast,he];rfl
def meetsB (p q:Shp):Bool:=(commonR p.parts q.parts p.parts.length 0).isSome
abbrev vbox (y:Bool) (a b:Int):AObj:= .box [.pv (.bool y),.pv (i64 a),.pv (i64 b)]
abbrev shbox (P:PV) (f:Int):AObj:= .box [.pv P,.pv (i64 f)]
abbrev envS1 (S:PV) (cix:Nat) (n i j:Int):Tr:=
 (((((((((((Tr.lf.set 29 (.pv (i64 j))).set 28 (.pv (i64 n))).set 27 (.pv S)).set 21 (.pv (i64 i))).set 20 (.pv (i64 n))).set 19 (.pv S)).set 8 (.ptr 4 0)).set 7 (.pv (i64 i))).set 6 (.ptr 3 0)).set 4 (.ptr 2 0)).set 2 (.pv (.rp [S] 0))).set 1 (.clo cix [.ptr 0 0])
abbrev envS0 (S:PV) (cix:Nat) (n i:Int):Tr:=
 ((((((Tr.lf.set 21 (.pv (i64 i))).set 20 (.pv (i64 n))).set 19 (.pv S)).set 6 (.ptr 3 0)).set 4 (.ptr 2 0)).set 2 (.pv (.rp [S] 0))).set 1 (.clo cix [.ptr 0 0])
structure Asks (call:CallF) (cix:Nat) (S:PV) (n:Nat) (ask:Nat→Nat→Bool):Prop where
 run:∀ (i j:Nat) (H:List AObj),i < n→j < n→H[0]? =some (.box [.pv S])→call cix [.pv (i64 i),.pv (i64 j),.ptr 0 0] H=some (.pv (.bool (ask i j)),H)
section
variable {call:CallF} {cix:Nat} {S:PV} {ss:List Shp} {es:List PV} {ask:Nat→Nat→Bool} (hS:HeldSch S ss es) (hok:SchOk ss) (hA:Asks call cix S ss.length ask)
 (hask:∀ i j,(hi:i < ss.length)→(hj:j < ss.length)→ask i j=true→ss[i].parts.length≤ss[j].parts.length)
include hS hok hA hask
theorem search_inner {i:Nat} (hi:i < ss.length) {P:PV} (hP:∃ ps,HeldShp (.agg [P,i64 ss[i].first]) ss[i] P ps) (X:AObj) (hX:∀ n,cutObj n X=some X):
 wpO (fun r=>(∃ E,r=(.exit 2,⟨E,[.box [.pv S],X,vbox false 0 0,vbox true 0 0,shbox P ss[i].first]⟩)∧E.get 1= .clo cix [.ptr 0 0]∧E.get 2= .pv (.rp [S] 0)∧E.get 4= .ptr 2 0∧E.get 6= .ptr 3 0∧E.get 19= .pv S∧E.get 20= .pv (i64 ss.length)∧E.get 21= .pv (i64 i)∧∀ j,(hj:j < ss.length)→ask i j=true→meetsB ss[i] ss[j]=false)∨
  (∃ E a b T,r=(.exit 0,⟨E,[.box [.pv S],X,vbox false 0 0,vbox false a b]++T⟩)∧E.get 4= .ptr 2 0∧E.get 6= .ptr 3 0∧∃ j,∃ hj:j < ss.length,ask i j=true∧meetsB ss[i] ss[j]=true))
  (loopA (roundA (evalC call b_clash_search_l1) (clean 5 [1,2,4,6,7,8,19,20,21,27,28,29])) rounds ⟨envS1 S cix ss.length i 0,[.box [.pv S],X,vbox false 0 0,vbox true 0 0,shbox P ss[i].first]⟩):=by
 obtain⟨ps,hPs⟩:=hP
 have h32:=hok.len
 have okp:=hok.shp _ (List.getElem_mem hi)
 have hSone:(AV.pv S).one=true:=by rcases hS.is with⟨h,_⟩ | h <;> rw[h] <;> rfl
 obtain⟨hP1,hP2⟩:=hPs.Pone
 have lP:=hPs.parts.lenA
 have hask':=fun j hj=>hask i j hi hj
 have hAi:=fun j H (hj:j < ss.length)=>hA.run i j H hi hj
 generalize hp:ss[i]=p at *
 refine wpO_mono (loopN_wp (g:=roundA (evalC call b_clash_search_l1) (clean 5 [1,2,4,6,7,8,19,20,21,27,28,29]))
  (fun j t=>t=⟨envS1 S cix ss.length i j,[.box [.pv S],X,vbox false 0 0,vbox true 0 0,shbox P p.first]⟩∧∀ j',j' < j→(hj:j' < ss.length)→ask i j'=true→meetsB p ss[j']=false)
  ss.length (by unfold rounds;omega) _ ⟨rfl,fun j' h=>by omega⟩ ?_ ?_) (fun r h=>h.2)
 ·rintro j t hj ⟨rfl,hno⟩
  obtain⟨Q,qs,hQs,a1⟩:=hS.iaddr hj
  have okq:=hok.shp _ (List.getElem_mem hj)
  have hcm:=common_run hPs hQs okp okq (n:=p.parts.length) (Nat.le_refl _)
  have hno':∀ (b:Bool),(ask i j=true→meetsB p ss[j]=false)→∀ j',j' < j+1→(hj:j' < ss.length)→ask i j'=true→meetsB p ss[j']=false:=by
   intro _ h j' hj' hjj ha
   rcases Nat.lt_or_ge j' j with h1 | h1
   ·exact hno j' h1 hjj ha
   ·have:j'=j:=by omega
    subst this;exact h ha
  have hle:=hask' j hj
  obtain⟨hQ1,hQ2⟩:=hQs.Pone
  have lQ:=hQs.parts.lenA
  have hmt:meetsB p ss[j]=(commonR p.parts ss[j].parts p.parts.length 0).isSome:=rfl
  rw[hmt] at hno'
  have hex:ask i j=true→(commonR p.parts ss[j].parts p.parts.length 0).isSome=true→∃ j,∃ hj:j < ss.length,ask i j=true∧meetsB p ss[j]=true:=fun h1 h2=>⟨j,hj,h1,h2⟩
  have hfirst:∀ {B:PV} {bs:List Int},HeldB B bs→bs.length≤ss[j].parts.length→∃ k,F_clash_first [.agg [Q,i64 ss[j].first],B]=some (i64 k):=fun h1 h2=>first_run hQs h1 okq h2
  generalize ss[j]=q at *
  have e1:decide ((j:Int) < (ss.length:Int))=true:=dec_t (by omega)
  have t2:=stepWrap hj (by unfold maxLen;omega)
  have a2:∀ H,loadA H true 2 (.pv (.rp [Q,i64 q.first] 0))=some (.pv (.agg [Q,i64 q.first])):=fun H=>rfl
  have s1:storeA [.box [.pv S],X,vbox false 0 0,vbox true 0 0,shbox P p.first,.box [.pv .nils,.pv (i64 0)]] 2 (.ptr 5 0) (.pv (.agg [Q,i64 q.first]))=some [.box [.pv S],X,vbox false 0 0,vbox true 0 0,shbox P p.first,shbox Q q.first]:=
   box2_store _ _ _ _ hQ1 rfl [.box [.pv S],X,vbox false 0 0,vbox true 0 0,shbox P p.first] _ rfl
  have hak:=hAi j [.box [.pv S],X,vbox false 0 0,vbox true 0 0,shbox P p.first,shbox Q q.first] hj rfl
  have l1:loadA [.box [.pv S],X,vbox false 0 0,vbox true 0 0,shbox P p.first,shbox Q q.first] true 2 (.ptr 4 0)=some (.pv (.agg [P,i64 p.first])):=rfl
  have l2:loadA [.box [.pv S],X,vbox false 0 0,vbox true 0 0,shbox P p.first,shbox Q q.first] true 2 (.ptr 5 0)=some (.pv (.agg [Q,i64 q.first])):=rfl
  have l3:loadA [.box [.pv S],X,vbox false 0 0,vbox true 0 0,shbox P p.first,shbox Q q.first] false 1 (.ptr 4 0)=some (.pv P):=rfl
  have p3:place [.box [.pv S],X,vbox false 0 0,vbox true 0 0,shbox P p.first,shbox Q q.first] 0 (.ptr 4 0)=some (.ptr 4 0):=rfl
  have s2:∀ a b:Int,storeA [.box [.pv S],X,vbox false 0 0,vbox true 0 0,shbox P p.first,shbox Q q.first] 3 (.ptr 3 0) (.pv (.agg [.bool false,i64 a,i64 b]))=some [.box [.pv S],X,vbox false 0 0,vbox false a b,shbox P p.first,shbox Q q.first]:=fun a b=>rfl
  have hcl5:mapO (cutObj 5) [.box [.pv S],X,vbox false 0 0,vbox true 0 0,shbox P p.first]=some [.box [.pv S],X,vbox false 0 0,vbox true 0 0,shbox P p.first]:=by
   refine mapO_id ?_
   intro o ho
   simp only[List.mem_cons,List.not_mem_nil,or_false] at ho
   rcases ho with rfl | rfl | rfl | rfl | rfl <;> first | exact hX _ | simp[cutObj,mapO,cut_pv]
  have htk:∀ o:AObj,[.box [.pv S],X,vbox false 0 0,vbox true 0 0,shbox P p.first,o].take 5=[.box [.pv S],X,vbox false 0 0,vbox true 0 0,shbox P p.first]:=fun o=>rfl
  have c3:(3 < 5)=True:=by simp
  have c2:(2 < 5)=True:=by simp
  have c4:(4 < 5)=True:=by simp
  have c0:(0 < 5)=True:=by simp
  have hd:deep=6:=rfl
  generalize hQQ:LN _ _ j=QQ
  cases hak':ask i j with
  |false=>
   rw[hak'] at hak
   simp (implicitDefEqProofs:=false) only[SP,WP,setRow,sevalprocAttr,-List.reduceReplicate,b_clash_search_l1,e1,t2,a1,a2,s1,hak,hcl5,htk,c0,c2,c3,c4,clean,cutEnv,AV.cut,deep_eq',envS1]
   subst hQQ
   exact⟨rfl,hno' true (fun h=>by rw[hak'] at h;cases h)⟩
  |true=>
   rw[hak'] at hak
   have hcm:=hcm (hle hak')
   cases hc:commonR p.parts q.parts p.parts.length 0 with
   |none=>
    have h1:=hcm.1 hc
    simp (implicitDefEqProofs:=false) only[SP,WP,setRow,sevalprocAttr,-List.reduceReplicate,b_clash_search_l1,e1,t2,a1,a2,s1,hak,l1,l2,l3,p3,lP,h1,hcl5,htk,c0,c2,c3,c4,clean,cutEnv,AV.cut,deep_eq',envS1]
    subst hQQ
    exact⟨rfl,hno' true (fun _=>by rw[hc];rfl)⟩
   |some bs=>
    obtain⟨v,h1,hv,hbl,hbr⟩:=hcm.2 bs hc
    have hB:HeldB v bs:=⟨hv,hbr⟩
    obtain⟨k1,hk1⟩:=first_run hPs hB okp (by omega)
    obtain⟨k2,hk2⟩:=hfirst hB (by have:=hle hak';omega)
    simp (implicitDefEqProofs:=false) only[SP,WP,setRow,sevalprocAttr,-List.reduceReplicate,b_clash_search_l1,e1,a1,a2,s1,hak,l1,l2,l3,p3,lP,h1,hk1,hk2,s2,envS1]
    subst hQQ
    exact .inr ⟨_,k1,k2,[shbox P p.first,shbox Q q.first],rfl,by simp[Tr.get_set],by simp[Tr.get_set],hex hak' (by rw[hc];rfl)⟩
 ·rintro t ⟨rfl,hno⟩
  have e1:decide ((ss.length:Int) < (ss.length:Int))=false:=dec_f (by omega)
  generalize hQ:(fun r:Ex×St=>r.1.stop=true∧_)=Q
  simp (implicitDefEqProofs:=false) only[SP,SA,WP,sevalprocAttr,-List.reduceReplicate,b_clash_search_l1,e1,envS1]
  subst hQ
  exact⟨rfl,.inl ⟨_,rfl,by simp[Tr.get_set],by simp[Tr.get_set],by simp[Tr.get_set],by simp[Tr.get_set],by simp[Tr.get_set],by simp[Tr.get_set],by simp[Tr.get_set],fun j hj ha=>hno j hj hj ha⟩⟩
theorem search_outer (X:AObj) (hX:∀ n,cutObj n X=some X):
 wpO (fun r=>(∃ E,r=(.exit 0,⟨E,[.box [.pv S],X,vbox false 0 0,vbox true 0 0]⟩)∧E.get 4= .ptr 2 0∧E.get 6= .ptr 3 0∧∀ i j,(hi:i < ss.length)→(hj:j < ss.length)→ask i j=true→meetsB ss[i] ss[j]=false)∨
  (∃ E a b T,r=(.exit 0,⟨E,[.box [.pv S],X,vbox false 0 0,vbox false a b]++T⟩)∧E.get 4= .ptr 2 0∧E.get 6= .ptr 3 0∧∃ i j,∃ hi:i < ss.length,∃ hj:j < ss.length,ask i j=true∧meetsB ss[i] ss[j]=true))
  (loopA (roundA (evalC call b_clash_search_l0) (clean 4 [1,2,4,6,19,20,21])) rounds ⟨envS0 S cix ss.length 0,[.box [.pv S],X,vbox false 0 0,vbox true 0 0]⟩):=by
 have h32:=hok.len
 have lS:=hS.lenA
 refine wpO_mono (loopN_wp (g:=roundA (evalC call b_clash_search_l0) (clean 4 [1,2,4,6,19,20,21]))
  (fun i t=>t=⟨envS0 S cix ss.length i,[.box [.pv S],X,vbox false 0 0,vbox true 0 0]⟩∧∀ i' j,i' < i→(hi:i' < ss.length)→(hj:j < ss.length)→ask i' j=true→meetsB ss[i'] ss[j]=false)
  ss.length (by unfold rounds;omega) _ ⟨rfl,fun i' j h=>by omega⟩ ?_ ?_) (fun r h=>h.2)
 ·rintro i t hi ⟨rfl,hno⟩
  obtain⟨P,ps,hPs,a1⟩:=hS.iaddr hi
  have hin:=search_inner hS hok hA hask hi ⟨ps,hPs⟩ X hX
  obtain⟨hP1,hP2⟩:=hPs.Pone
  have hno':(∀ j,(hj:j < ss.length)→ask i j=true→meetsB ss[i] ss[j]=false)→∀ i' j,i' < i+1→(hi:i' < ss.length)→(hj:j < ss.length)→ask i' j=true→meetsB ss[i'] ss[j]=false:=by
   intro h i' j hi' hii hj ha
   rcases Nat.lt_or_ge i' i with h1 | h1
   ·exact hno i' j h1 hii hj ha
   ·have:i'=i:=by omega
    subst this;exact h j hj ha
  have hex:(∃ j,∃ hj:j < ss.length,ask i j=true∧meetsB ss[i] ss[j]=true)→∃ i j,∃ hi:i < ss.length,∃ hj:j < ss.length,ask i j=true∧meetsB ss[i] ss[j]=true:=fun ⟨j,hj,h⟩=>⟨i,j,hi,hj,h⟩
  generalize ss[i]=p at *
  have e1:decide ((i:Int) < (ss.length:Int))=true:=dec_t (by omega)
  have t2:=stepWrap hi (by unfold maxLen;omega)
  have a2:∀ H,loadA H true 2 (.pv (.rp [P,i64 p.first] 0))=some (.pv (.agg [P,i64 p.first])):=fun H=>rfl
  have s1:storeA [.box [.pv S],X,vbox false 0 0,vbox true 0 0,.box [.pv .nils,.pv (i64 0)]] 2 (.ptr 4 0) (.pv (.agg [P,i64 p.first]))=some [.box [.pv S],X,vbox false 0 0,vbox true 0 0,shbox P p.first]:=
   box2_store _ _ _ _ hP1 rfl [.box [.pv S],X,vbox false 0 0,vbox true 0 0] _ rfl
  have hcl4:∀ T,mapO (cutObj 4) (([.box [.pv S],X,vbox false 0 0,vbox true 0 0]++T).take 4)=some [.box [.pv S],X,vbox false 0 0,vbox true 0 0]:=fun T=>by
   refine mapO_id ?_
   intro o ho
   simp only[List.cons_append,List.nil_append,List.take_succ_cons,List.take_zero,List.mem_cons,List.not_mem_nil,or_false] at ho
   rcases ho with rfl | rfl | rfl | rfl <;> first | exact hX _ | simp[cutObj,mapO,cut_pv]
  have hcl4':∀ o,mapO (cutObj 4) ([.box [.pv S],X,vbox false 0 0,vbox true 0 0,o].take 4)=some [.box [.pv S],X,vbox false 0 0,vbox true 0 0]:=fun o=>hcl4 [o]
  have hcl5:mapO (cutObj 5) [.box [.pv S],X,vbox false 0 0,vbox true 0 0,shbox P p.first]=some [.box [.pv S],X,vbox false 0 0,vbox true 0 0,shbox P p.first]:=by
   refine mapO_id ?_
   intro o ho
   simp only[List.mem_cons,List.not_mem_nil,or_false] at ho
   rcases ho with rfl | rfl | rfl | rfl | rfl <;> first | exact hX _ | simp[cutObj,mapO,cut_pv]
  have htk5:([.box [.pv S],X,vbox false 0 0,vbox true 0 0,shbox P p.first]:List AObj).take 5=[.box [.pv S],X,vbox false 0 0,vbox true 0 0,shbox P p.first]:=rfl
  have r0:∀ H (x:PV),loadA H false 1 (.pv (.rp [x] 0))=some (.pv x):=fun H x=>rfl
  have q0:∀ H (x:PV),place H 0 (.pv (.rp [x] 0))=some (.pv (.rp [x] 0)):=fun H x=>rfl
  have c3:(3 < 5)=True:=by simp
  have c2:(2 < 5)=True:=by simp
  have c4:(4 < 5)=True:=by simp
  have c0:(0 < 5)=True:=by simp
  have d3:(3 < 4)=True:=by simp
  have d2:(2 < 4)=True:=by simp
  have d0:(0 < 4)=True:=by simp
  generalize hQQ:LN _ _ i=QQ
  simp (implicitDefEqProofs:=false) only[SP,WP,setRow,sevalprocAttr,-List.reduceReplicate,b_clash_search_l0,C_loop,e1,a1,a2,s1,r0,q0,lS,hcl5,htk5,c0,c2,c3,c4,clean,cutEnv,AV.cut,deep_eq',envS0]
  refine wpO_mono hin ?_
  rintro r (⟨E,rfl,g1,g2,g4,g6,g19,g20,g21,hn⟩ | ⟨E,a,b,T,rfl,g4,g6,hy⟩)
  ·simp (implicitDefEqProofs:=false) only[SP,WP,setRow,sevalprocAttr,-List.reduceReplicate,g1,g2,g4,g6,g19,g20,g21,t2,hX 4,d0,d2,d3,clean,cutEnv,AV.cut,deep_eq']
   subst hQQ
   exact⟨rfl,hno' hn⟩
  ·simp (implicitDefEqProofs:=false) only[SP,WP,setRow,sevalprocAttr,-List.reduceReplicate]
   subst hQQ
   exact .inr ⟨E,a,b,T,rfl,g4,g6,hex hy⟩
 ·rintro t ⟨rfl,hno⟩
  have e1:decide ((ss.length:Int) < (ss.length:Int))=false:=dec_f (by omega)
  generalize hQ:(fun r:Ex×St=>r.1.stop=true∧_)=Q
  simp (implicitDefEqProofs:=false) only[SP,SA,WP,sevalprocAttr,-List.reduceReplicate,b_clash_search_l0,e1,envS0]
  subst hQ
  exact⟨rfl,.inl ⟨_,rfl,by simp[Tr.get_set],by simp[Tr.get_set],fun i j hi hj ha=>hno i j hi hi hj ha⟩⟩
theorem search_run (X:AObj) (hX:∀ n,cutObj n X=some X):
 ∃ y a b T,runF call b_clash_search [.pv (.agg [S]),.clo cix [.ptr 0 0]] [.box [.pv S],X]=some (.pv (.tup [.agg [.bool y,i64 a,i64 b],i64 0]),[.box [.pv S],X]++T)∧
  (y=true↔∀ i j,(hi:i < ss.length)→(hj:j < ss.length)→ask i j=true→meetsB ss[i] ss[j]=false):=by
 have lS:=hS.lenA
 have hSone:(AV.pv S).one=true:=by rcases hS.is with⟨h,_⟩ | h <;> rw[h] <;> rfl
 obtain⟨b,hv,hvb⟩:=scheme_valid_run hS
 have:=hvb.2 hok
 subst this
 have hout:=search_outer hS hok hA hask X hX
 have s1:storeA [.box [.pv S],X,vbox false 0 0,.box [.pv (.bool false),.pv (i64 0),.pv (i64 0)]] 3 (.ptr 3 0) (.pv (.agg [.bool true,i64 0,i64 0]))=some [.box [.pv S],X,vbox false 0 0,vbox true 0 0]:=rfl
 have hcl4:mapO (cutObj 4) [.box [.pv S],X,vbox false 0 0,vbox true 0 0]=some [.box [.pv S],X,vbox false 0 0,vbox true 0 0]:=by
  refine mapO_id ?_
  intro o ho
  simp only[List.mem_cons,List.not_mem_nil,or_false] at ho
  rcases ho with rfl | rfl | rfl | rfl <;> first | exact hX _ | simp[cutObj,mapO,cut_pv]
 have htk4:([.box [.pv S],X,vbox false 0 0,vbox true 0 0]:List AObj).take 4=[.box [.pv S],X,vbox false 0 0,vbox true 0 0]:=rfl
 have r1:∀ H (x:PV),loadA H true 1 (.pv (.rp [x] 0))=some (.pv (.agg [x])):=fun H x=>rfl
 have r0:∀ H (x:PV),loadA H false 1 (.pv (.rp [x] 0))=some (.pv x):=fun H x=>rfl
 have q0:∀ H (x:PV),place H 0 (.pv (.rp [x] 0))=some (.pv (.rp [x] 0)):=fun H x=>rfl
 have d3:(3 < 4)=True:=by simp
 have d2:(2 < 4)=True:=by simp
 have d0:(0 < 4)=True:=by simp
 have key:wpO (fun r=>∃ y a b T,r=(.pv (.tup [.agg [.bool y,i64 a,i64 b],i64 0]),[.box [.pv S],X]++T)∧(y=true↔∀ i j,(hi:i < ss.length)→(hj:j < ss.length)→ask i j=true→meetsB ss[i] ss[j]=false))
  (runF call b_clash_search [.pv (.agg [S]),.clo cix [.ptr 0 0]] [.box [.pv S],X]):=by
  generalize hQQ:(fun r:AV×List AObj=>_)=QQ
  simp (implicitDefEqProofs:=false) only[SP,WP,setRow,sevalprocAttr,-List.reduceReplicate,b_clash_search,C_loop,hSone,r1,r0,q0,hv,lS,s1,hcl4,htk4,d0,d2,d3,clean,cutEnv,AV.cut,deep_eq']
  refine wpO_mono hout ?_
  rintro r (⟨E,rfl,g4,g6,hn⟩ | ⟨E,a,b,T,rfl,g4,g6,i,j,hi,hj,h1,h2⟩)
  ·have l1:loadA [.box [.pv S],X,vbox false 0 0,vbox true 0 0] true 3 (.ptr 3 0)=some (.pv (.agg [.bool true,i64 0,i64 0])):=rfl
   have s2:storeA [.box [.pv S],X,vbox false 0 0,vbox true 0 0] 3 (.ptr 2 0) (.pv (.agg [.bool true,i64 0,i64 0]))=some [.box [.pv S],X,vbox true 0 0,vbox true 0 0]:=rfl
   have l2:loadA [.box [.pv S],X,vbox true 0 0,vbox true 0 0] true 3 (.ptr 2 0)=some (.pv (.agg [.bool true,i64 0,i64 0])):=rfl
   simp (implicitDefEqProofs:=false) only[SP,WP,setRow,sevalprocAttr,-List.reduceReplicate,g4,g6,l1,s2,l2]
   subst hQQ
   exact⟨true,0,0,_,rfl,by simpa using hn⟩
  ·have l1:loadA ([.box [.pv S],X,vbox false 0 0,vbox false a b]++T) true 3 (.ptr 3 0)=some (.pv (.agg [.bool false,i64 a,i64 b])):=rfl
   have s2:storeA ([.box [.pv S],X,vbox false 0 0,vbox false a b]++T) 3 (.ptr 2 0) (.pv (.agg [.bool false,i64 a,i64 b]))=some ([.box [.pv S],X,vbox false a b,vbox false a b]++T):=rfl
   have l2:loadA ([.box [.pv S],X,vbox false a b,vbox false a b]++T) true 3 (.ptr 2 0)=some (.pv (.agg [.bool false,i64 a,i64 b])):=rfl
   generalize hA1:[.box [.pv S],X,vbox false 0 0,vbox false a b]++T=A1 at *
   generalize hA2:[.box [.pv S],X,vbox false a b,vbox false a b]++T=A2 at *
   simp (implicitDefEqProofs:=false) only[SP,WP,setRow,sevalprocAttr,-List.reduceReplicate,g4,g6,l1,s2,l2]
   subst hQQ hA2
   refine⟨false,a,b,_,rfl,?_⟩
   simp only[Bool.false_eq_true,false_iff]
   intro h
   rw[h i j hi hj h1] at h2;cases h2
 obtain⟨r,h1,y,a,b,T,rfl,h2⟩:=wpO_spec key
 exact⟨y,a,b,T,h1,h2⟩
end
def PreOk (ss:List Shp):Prop:=∀ i j,(hi:i < ss.length)→(hj:j < ss.length)→ss[i].parts.length < ss[j].parts.length→meetsB ss[i] ss[j]=false
theorem prefix1_run (call:CallF) {S:PV} {ss:List Shp} {es:List PV} (hS:HeldSch S ss es) (i j:Nat) (H:List AObj) (hi:i < ss.length) (hj:j < ss.length) (hH:H[0]? =some (.box [.pv S])):
 runF call b_clash_Prefix_1 [.pv (i64 i),.pv (i64 j),.ptr 0 0] H=some (.pv (.bool (decide (ss[i].parts.length < ss[j].parts.length))),H):=by
 obtain⟨P,ps,hPs,a1⟩:=hS.iaddr hi
 obtain⟨Q,qs,hQs,a2⟩:=hS.iaddr hj
 have lP:=hPs.parts.lenA
 have lQ:=hQs.parts.lenA
 have p0:place H 0 (.ptr 0 0)=some (.ptr 0 0):=by simp[place,hH]
 have l0:loadA H false 1 (.ptr 0 0)=some (.pv S):=by simp[loadA,hH,partA]
 have r0:∀ H (x y:PV),loadA H false 1 (.pv (.rp [x,y] 0))=some (.pv x):=fun H x y=>rfl
 have q0:∀ H (x y:PV),place H 0 (.pv (.rp [x,y] 0))=some (.pv (.rp [x,y] 0)):=fun H x y=>rfl
 have e:decide ((ss[i].parts.length:Int) < (ss[j].parts.length:Int))=decide (ss[i].parts.length < ss[j].parts.length):=by simp
 generalize ss[i]=p at *
 generalize ss[j]=q at *
 by_cases hij:P=Q
 ·subst hij
  have:p.parts.length=q.parts.length:=by have h1:=lP [];have h2:=lQ [];rw[h1] at h2;exact Option.some.inj h2
  rw[this] at lP e ⊢
  simp (implicitDefEqProofs:=false) only[SP,WP,setRow,sevalprocAttr,-List.reduceReplicate,b_clash_Prefix_1,p0,l0,a1,a2,r0,q0,lP,e]
 ·simp (implicitDefEqProofs:=false) only[SP,WP,setRow,sevalprocAttr,-List.reduceReplicate,b_clash_Prefix_1,p0,l0,a1,a2,r0,q0,lP,lQ,e]
theorem prefix_run {S:PV} {ss:List Shp} {es:List PV} (hS:HeldSch S ss es):
 (¬ SchOk ss→F_clash_Prefix [.agg [S]]=some (.tup [.agg [.bool false,i64 0,i64 0],i64 84]))∧
 (SchOk ss→∃ y a b,F_clash_Prefix [.agg [S]]=some (.tup [.agg [.bool y,i64 a,i64 b],i64 0])∧(y=true↔PreOk ss)):=by
 have hSone:(AV.pv S).one=true:=by rcases hS.is with⟨h,_⟩ | h <;> rw[h] <;> rfl
 have c25:t_clash_Prefix 25=some b_clash_search:=rfl
 have s0:loadA [.box [.pv S],vbox false 0 0] true 1 (.ptr 0 0)=some (.pv (.agg [S])):=rfl
 constructor
 ·intro hno
  obtain⟨b,hv,hvb⟩:=scheme_valid_run hS
  have hb:b=false:=by cases b with | false=>rfl | true=>exact absurd (hvb.1 rfl) hno
  subst hb
  have r1:∀ H (x:PV),loadA H true 1 (.pv (.rp [x] 0))=some (.pv (.agg [x])):=fun H x=>rfl
  have s1:storeA [.box [.pv S],vbox false 0 0,.box [.pv (.bool false),.pv (i64 0),.pv (i64 0)]] 3 (.ptr 2 0) (.pv (.agg [.bool false,i64 0,i64 0]))=some [.box [.pv S],vbox false 0 0,vbox false 0 0]:=rfl
  have l2:loadA [.box [.pv S],vbox false 0 0,vbox false 0 0] true 3 (.ptr 2 0)=some (.pv (.agg [.bool false,i64 0,i64 0])):=rfl
  have s2:storeA [.box [.pv S],vbox false 0 0,vbox false 0 0] 3 (.ptr 1 0) (.pv (.agg [.bool false,i64 0,i64 0]))=some [.box [.pv S],vbox false 0 0,vbox false 0 0]:=rfl
  have l3:loadA [.box [.pv S],vbox false 0 0,vbox false 0 0] true 3 (.ptr 1 0)=some (.pv (.agg [.bool false,i64 0,i64 0])):=rfl
  simp (implicitDefEqProofs:=false) only[F_clash_Prefix,SP,WP,setRow,sevalprocAttr,-List.reduceReplicate,b_clash_Prefix,c25,b_clash_search,hSone,s0,r1,hv,s1,l2,s2,l3]
 ·intro hok
  have hA:Asks (callL t_clash_Prefix 7) 4 S ss.length (fun i j=>if h:i < ss.length∧j < ss.length then decide (ss[i].parts.length < ss[j].parts.length) else false):=by
   refine⟨fun i j H hi hj hH=> ?_⟩
   rw[callL_go t_clash_Prefix 6 4 _ H (f:=b_clash_Prefix_1) rfl,prefix1_run _ hS i j H hi hj hH,dif_pos ⟨hi,hj⟩]
  obtain⟨y,a,b,T,h1,h2⟩:=search_run hS hok hA (fun i j hi hj h=>by rw[dif_pos ⟨hi,hj⟩] at h;have:=of_decide_eq_true h;omega) (vbox false 0 0) (fun n=>by simp[cutObj,mapO,cut_pv])
  refine⟨y,a,b,?_,?_⟩
  ·have s2:storeA ([.box [.pv S],vbox false 0 0]++T) 3 (.ptr 1 0) (.pv (.agg [.bool y,i64 a,i64 b]))=some ([.box [.pv S],vbox y a b]++T):=rfl
   have l3:loadA ([.box [.pv S],vbox y a b]++T) true 3 (.ptr 1 0)=some (.pv (.agg [.bool y,i64 a,i64 b])):=rfl
   generalize hA1:[.box [.pv S],vbox false 0 0]++T=A1 at *
   generalize hA2:[.box [.pv S],vbox y a b]++T=A2 at *
   simp (implicitDefEqProofs:=false) only[F_clash_Prefix,SP,WP,setRow,sevalprocAttr,-List.reduceReplicate,b_clash_Prefix,c25,hSone,s0,h1,s2,l3]
  ·rw[h2]
   unfold PreOk
   constructor
   ·intro h i j hi hj hlt
    exact h i j hi hj (by rw[dif_pos ⟨hi,hj⟩];exact decide_eq_true hlt)
   ·intro h i j hi hj hlt
    rw[dif_pos ⟨hi,hj⟩] at hlt
    exact h i j hi hj (of_decide_eq_true hlt)
end Go.AM.B1
namespace Go.AM.B1
open Go.AM Go.AM.So
theorem clone_run {v:PV} {l:List (Int×Int)} (h:HeldPart v l):∃ w,F_slices_Clone_api_Span_api_Span [v]=some w∧IsL 2 w (prs l)∧(l≠[]→w= .lit 2 (prs l)):=by
 rcases h.is with⟨rfl,hl⟩ | rfl
 ·refine⟨.nils,?_,.inl ⟨rfl,hl⟩,fun hne=>absurd (by simpa[prs] using hl) hne⟩
  simp (implicitDefEqProofs:=false) only[F_slices_Clone_api_Span_api_Span,SP,SA,SQ,WP,WQ,sevalprocAttr,-List.reduceReplicate,b_slices_Clone_api_Span_api_Span]
 ·refine⟨.lit 2 (prs l),?_,.inr rfl,fun _=>rfl⟩
  have hr:roomOk (prs l).length 16:=by have:=h.sz;unfold roomOk;simp;omega
  generalize prs l=es at *
  simp (implicitDefEqProofs:=false) only[F_slices_Clone_api_Span_api_Span,SP,SA,SQ,WP,WQ,sevalprocAttr,-List.reduceReplicate,b_slices_Clone_api_Span_api_Span,eq_true hr]
abbrev envK1 (S P:PV) (n i m j:Int):Tr:=((((((((Tr.lf.set 22 (.pv (i64 j))).set 21 (.pv (i64 m))).set 20 (.pv P)).set 12 (.pv (i64 i))).set 11 (.pv (i64 n))).set 10 (.pv S)).set 6 (.ptr 4 0)).set 3 (.ptr 1 0)).set 2 (.ptr 0 0)
abbrev envK0 (S:PV) (n i:Int):Tr:=((((Tr.lf.set 12 (.pv (i64 i))).set 11 (.pv (i64 n))).set 10 (.pv S)).set 3 (.ptr 1 0)).set 2 (.ptr 0 0)
abbrev hpK (out:List PV) (nl:Bool):List AObj:=[.box [.pv .nils],.box [.uq 2 nl 2 out],.tok 2 out.length nl]
abbrev hpK1 (out:List PV) (nl:Bool) (P:PV) (f:Int) (ps:List PV) (nl1:Bool):List AObj:=[.box [.pv .nils],.box [.uq 2 nl 2 out],.tok 2 out.length nl,.box [.pv P,.pv (i64 f)],.box [.uq 5 nl1 1 ps,.pv (i64 f)],.tok 1 ps.length nl1]
theorem copy_inner {P S:PV} {ls:List (List (Int×Int))} {ps:List PV} (hP:HeldParts P ls ps) (hok:∀ l∈ls,l≠[]) (h8:ls.length≤8) (out:List PV) (nl:Bool) (f n i:Int):
 ∃ E nl1,loopA (roundA (evalC (callL (fun _=>none) 8) b_scheme_Copy_l1) (clean 6 [2,3,6,10,11,12,20,21,22])) rounds ⟨envK1 S P n i ls.length 0,hpK1 out nl P f [] true⟩=
  some (.exit 2,⟨E,hpK1 out nl P f (ls.map encPart) nl1⟩)∧(nl1=true→ls=[])∧E.get 2= .ptr 0 0∧E.get 3= .ptr 1 0∧E.get 6= .ptr 4 0∧E.get 10= .pv S∧E.get 11= .pv (i64 n)∧E.get 12= .pv (i64 i):=by
 have key:=loopN_wp (g:=roundA (evalC (callL (fun _=>none) 8) b_scheme_Copy_l1) (clean 6 [2,3,6,10,11,12,20,21,22]))
  (fun j t=>∃ nl1,t=⟨envK1 S P n i ls.length j,hpK1 out nl P f ((ls.take j).map encPart) nl1⟩∧(nl1=true→j=0))
  (Q:=fun r=>∃ E nl1,r=(.exit 2,⟨E,hpK1 out nl P f (ls.map encPart) nl1⟩)∧(nl1=true→ls=[])∧E.get 2= .ptr 0 0∧E.get 3= .ptr 1 0∧E.get 6= .ptr 4 0∧E.get 10= .pv S∧E.get 11= .pv (i64 n)∧E.get 12= .pv (i64 i))
  ls.length (by unfold rounds;omega) ⟨envK1 S P n i ls.length (0:Nat),hpK1 out nl P f [] true⟩ ⟨true,rfl,fun _=>rfl⟩ ?_ ?_
 ·obtain⟨r,h1,_,E,nl1,rfl,h2⟩:=wpO_spec key
  exact⟨E,nl1,h1,h2⟩
 ·rintro j t hj ⟨nl1,rfl,hnl⟩
  obtain⟨v,hv,hpt,_⟩:=hP.iaddr hj []
  have a1:=hP.iaddrU hv
  obtain⟨w,hcl,_,hw⟩:=clone_run hpt
  have hw:=hw (hok _ (List.getElem_mem hj))
  subst hw
  have htk:(ls.take (j+1)).map encPart=(ls.take j).map encPart++[.lit 2 (prs ls[j])]:=by
   rw[List.take_succ_eq_append_getElem hj,List.map_append];rfl
  have hpl:((ls.take j).map encPart).length=j:=by simp;omega
  generalize ls[j]=l at *
  have e1:decide ((j:Int) < (ls.length:Int))=true:=dec_t (by omega)
  have t2:=stepWrap hj (by unfold maxLen;omega)
  have r1:∀ H (x:PV),loadA H false 1 (.pv (.rp [x] 0))=some (.pv x):=fun H x=>rfl
  have hap:=uq_append (A:=hpK1 out nl P f ((ls.take j).map encPart) nl1) (id:=5) (n:=j) (h:= .uq) (ag:=false) (nl:=nl1) (sz:=1) (bytes:=24) (es:=(ls.take j).map encPart) (by show some (AObj.tok 1 ((ls.take j).map encPart).length nl1)=_;rw[hpl]) hpl.symm (by unfold roomOk;omega) (.lit 2 (prs l))
  have hlen1:((ls.take j).map encPart++[PV.lit 2 (prs l)]).length=j+1:=by rw[List.length_append,hpl];rfl
  have hap':appendA (hpK1 out nl P f ((ls.take j).map encPart) nl1) false .uq 1 false 24 (.uq 5 nl1 1 ((ls.take j).map encPart)) (.pv (.lit 1 [.lit 2 (prs l)]))=some (.uq 5 false 1 ((ls.take j).map encPart++[.lit 2 (prs l)]),[.box [.pv .nils],.box [.uq 2 nl 2 out],.tok 2 out.length nl,.box [.pv P,.pv (i64 f)],.box [.uq 5 nl1 1 ((ls.take j).map encPart),.pv (i64 f)],.tok 1 (j+1) false]):=hap
  unfold hpK1 at hap' ⊢
  rw[hpl] at hap' ⊢
  have p0:∀ (x:AV) (y z:AObj),place [.box [.pv .nils],.box [.uq 2 nl 2 out],y,.box [.pv P,.pv (i64 f)],.box [x,.pv (i64 f)],z] 0 (.ptr 4 0)=some (.ptr 4 0):=fun x y z=>rfl
  have l0:∀ (x:AV) (y z:AObj),loadA [.box [.pv .nils],.box [.uq 2 nl 2 out],y,.box [.pv P,.pv (i64 f)],.box [x,.pv (i64 f)],z] false 1 (.ptr 4 0)=some x:=fun x y z=>rfl
  have s0:∀ (x:AV) (y z:AObj) (es:List PV),storeA [.box [.pv .nils],.box [.uq 2 nl 2 out],y,.box [.pv P,.pv (i64 f)],.box [x,.pv (i64 f)],z] 1 (.ptr 4 0) (.uq 5 false 1 es)=some [.box [.pv .nils],.box [.uq 2 nl 2 out],y,.box [.pv P,.pv (i64 f)],.box [.uq 5 false 1 es,.pv (i64 f)],z]:=fun x y z es=>rfl
  generalize hp0:(ls.take j).map encPart=ps0 at *
  generalize hL:PV.lit 2 (prs l)=L at *
  have hL1:(AV.pv L).cells=[.pv L]∧(AV.pv L).one=true:=by rw[← hL];exact⟨rfl,rfl⟩
  have b5:(5 < 6)=True:=by simp
  have b4:(4 < 6)=True:=by simp
  have b2:(2 < 6)=True:=by simp
  have b1:(1 < 6)=True:=by simp
  have b0:(0 < 6)=True:=by simp
  have hLc:L.cells=[L]:=by rw[← hL];rfl
  generalize hQ:LN _ _ j=Q
  subst hL
  simp (implicitDefEqProofs:=false) only[SP,WP,setRow,sevalprocAttr,-List.reduceReplicate,b_scheme_Copy_l1,e1,t2,a1,r1,p0,l0,s0,hcl,hap',b0,b1,b2,b4,b5,clean,cutEnv,AV.cut,cutObj,mapO,deep_eq',envK1]
  subst hQ
  refine⟨false,?_,by simp⟩
  rw[htk,hlen1]
 ·rintro t ⟨nl1,rfl,hnl⟩
  rw[List.take_length]
  have e1:decide ((ls.length:Int) < (ls.length:Int))=false:=dec_f (by omega)
  generalize hQ:(fun r:Ex×St=>r.1.stop=true∧_)=Q
  simp (implicitDefEqProofs:=false) only[SP,SA,WP,sevalprocAttr,-List.reduceReplicate,b_scheme_Copy_l1,e1,envK1]
  subst hQ
  exact⟨rfl,_,nl1,rfl,fun h=>List.eq_nil_of_length_eq_zero (hnl h),by simp[Tr.get_set],by simp[Tr.get_set],by simp[Tr.get_set],by simp[Tr.get_set],by simp[Tr.get_set],by simp[Tr.get_set]⟩
theorem copy_run {S:PV} {ss:List Shp} {es:List PV} (hS:HeldSch S ss es) (hok:SchOk ss):∃ S',F_scheme_Copy [.agg [S]]=some (.agg [S'])∧IsL 2 S' (ss.map encShp):=by
 have lS:=hS.lenA
 have h32:=hok.len
 have hSone:(AV.pv S).one=true:=by rcases hS.is with⟨h,_⟩ | h <;> rw[h] <;> rfl
 have hloop:wpO (fun r=>∃ E nl,r=(.exit 0,⟨E,hpK (ss.map encShp) nl⟩)∧(nl=true→ss=[])∧E.get 2= .ptr 0 0∧E.get 3= .ptr 1 0)
  (loopA (roundA (evalC (callL (fun _=>none) 8) b_scheme_Copy_l0) (clean 3 [2,3,10,11,12])) rounds ⟨envK0 S ss.length 0,hpK [] true⟩):=by
  refine wpO_mono (loopN_wp (g:=roundA (evalC (callL (fun _=>none) 8) b_scheme_Copy_l0) (clean 3 [2,3,10,11,12]))
   (fun i t=>∃ nl,t=⟨envK0 S ss.length i,hpK ((ss.take i).map encShp) nl⟩∧(nl=true→i=0))
   (Q:=fun r=>∃ E nl,r=(.exit 0,⟨E,hpK (ss.map encShp) nl⟩)∧(nl=true→ss=[])∧E.get 2= .ptr 0 0∧E.get 3= .ptr 1 0)
   ss.length (by unfold rounds;omega) _ ⟨true,rfl,fun _=>rfl⟩ ?_ ?_) (fun r h=>h.2)
  ·rintro i t hi ⟨nl,rfl,hnl⟩
   obtain⟨P,ps,hPs,a1⟩:=hS.iaddr hi
   have ok:=hok.shp _ (List.getElem_mem hi)
   obtain⟨hP1,hP2⟩:=hPs.Pone
   have lP:=hPs.parts.lenA
   have htk:(ss.take (i+1)).map encShp=(ss.take i).map encShp++[encShp ss[i]]:=by
    rw[List.take_succ_eq_append_getElem hi,List.map_append];rfl
   have hpl:((ss.take i).map encShp).length=i:=by simp;omega
   obtain⟨E,nl1,hin,hnl1,g2,g3,g6,g10,g11,g12⟩:=copy_inner (S:=S) hPs.parts (fun l hl=>(ok.parts l hl).1) ok.hi ((ss.take i).map encShp) nl ss[i].first ss.length i
   have hnl1f:nl1=false:=by
    cases nl1 with
    |false=>rfl
    |true=>have:=hnl1 rfl;have h2:=ok.lo;rw[this] at h2;simp at h2
   subst hnl1f
   have hes:encShp ss[i]= .agg [.lit 1 (ss[i].parts.map encPart),i64 ss[i].first]:=rfl
   rw[hes] at htk
   generalize ss[i]=p at *
   have e1:decide ((i:Int) < (ss.length:Int))=true:=dec_t (by omega)
   have t2:=stepWrap hi (by unfold maxLen;omega)
   have a2:∀ H,loadA H true 2 (.pv (.rp [P,i64 p.first] 0))=some (.pv (.agg [P,i64 p.first])):=fun H=>rfl
   generalize (ss.take i).map encShp=out at *
   generalize p.parts.map encPart=pp at *
   subst hpl
   unfold hpK1 at hin
   unfold hpK
   have hlo:(out++[PV.agg [.lit 1 pp,i64 p.first]]).length=out.length+1:=by simp
   have hap:∀ (T:List AObj),appendA ([.box [.pv .nils],.box [.uq 2 nl 2 out],.tok 2 out.length nl]++T) false .uq 2 true 32 (.uq 2 nl 2 out) (.pv (.lit 2 [.agg [.lit 1 pp,i64 p.first]]))=some (.uq 2 false 2 (out++[.agg [.lit 1 pp,i64 p.first]]),[.box [.pv .nils],.box [.uq 2 nl 2 out],.tok 2 (out.length+1) false]++T):=fun T=>
    uq_append (A:=[.box [.pv .nils],.box [.uq 2 nl 2 out],.tok 2 out.length nl]++T) (id:=2) (n:=out.length) (h:= .uq) (ag:=true) (nl:=nl) (sz:=2) (bytes:=32) (es:=out) rfl rfl (by unfold roomOk;omega) _
   have hap1:=fun a b c=>hap [a,b,c]
   simp only[List.cons_append,List.nil_append] at hap1
   have s1:∀ T:List AObj,storeA ([.box [.pv .nils],.box [.uq 2 nl 2 out],.tok 2 out.length nl,.box [.pv .nils,.pv (i64 0)]]) 2 (.ptr 3 0) (.pv (.agg [P,i64 p.first]))=some [.box [.pv .nils],.box [.uq 2 nl 2 out],.tok 2 out.length nl,.box [.pv P,.pv (i64 p.first)]]:=fun T=>
    box2_store _ _ _ _ hP1 rfl [.box [.pv .nils],.box [.uq 2 nl 2 out],.tok 2 out.length nl] _ rfl
   have s1':=s1 []
   have b5:(5 < 6)=True:=by simp
   have b4:(4 < 6)=True:=by simp
   have b2:(2 < 6)=True:=by simp
   have b1:(1 < 6)=True:=by simp
   have b0:(0 < 6)=True:=by simp
   have c2:(2 < 3)=True:=by simp
   have c1:(1 < 3)=True:=by simp
   have c0:(0 < 3)=True:=by simp
   have hz:(0 < 1)=True:=by simp
   generalize hQ:LN _ _ out.length=Q
   have hin':loopA (roundA (evalC (callL (fun _=>none) 8) b_scheme_Copy_l1) (clean 6 [2,3,6,10,11,12,20,21,22])) rounds ⟨((((((((Tr.lf.set 22 (.pv (.int .i64 0))).set 21 (.pv (i64 p.parts.length))).set 20 (.pv P)).set 12 (.pv (i64 out.length))).set 11 (.pv (i64 ss.length))).set 10 (.pv S)).set 6 (.ptr 4 0)).set 3 (.ptr 1 0)).set 2 (.ptr 0 0),[.box [.pv .nils],.box [.uq 2 nl 2 out],.tok 2 out.length nl,.box [.pv P,.pv (i64 p.first)],.box [.uq 5 true 1 [],.pv (i64 p.first)],.tok 1 0 true]⟩=_:=hin
   simp (implicitDefEqProofs:=false) only[SP,SA,SQ,sevalprocAttr,-List.reduceReplicate,roundA,b_scheme_Copy_l0,C_loop,e1,a1,a2,s1',hP1,lP,ghostA,hz,b0,b1,b2,b4,b5,clean,cutEnv,AV.cut,cutObj,cut_pv,mapO,deep_eq',envK0]
   rw[hin']
   simp (implicitDefEqProofs:=false) only[SP,SQ,WP,WQ,↓reduceIte,reduceCtorEq,Nat.reduceAdd,Nat.reduceMul,Nat.reduceLeDiff,Nat.reduceEqDiff,Int.reduceLT,Int.reduceLE,Int.reduceBEq,Int.reduceEq,Nat.reduceBEq,Nat.reduceLT,Nat.reduceSub,g2,g3,g6,g10,g11,g12,hap1,t2,c0,c1,c2,clean,cutEnv,AV.cut,cutObj,mapO,deep_eq']
   subst hQ
   exact⟨false,by rw[htk,hlo],by simp⟩
  ·rintro t ⟨nl,rfl,hnl⟩
   rw[List.take_length]
   have e1:decide ((ss.length:Int) < (ss.length:Int))=false:=dec_f (by omega)
   generalize hQ:(fun r:Ex×St=>r.1.stop=true∧_)=Q
   simp (implicitDefEqProofs:=false) only[SP,SA,WP,sevalprocAttr,-List.reduceReplicate,b_scheme_Copy_l0,e1,envK0]
   subst hQ
   exact⟨rfl,_,nl,rfl,fun h=>List.eq_nil_of_length_eq_zero (hnl h),by simp[Tr.get_set],by simp[Tr.get_set]⟩
 obtain⟨r,h1,E,nl,rfl,hnl,g2,g3⟩:=wpO_spec hloop
 have h1':loopA (roundA (evalC (callL (fun _=>none) 8) b_scheme_Copy_l0) (clean 3 [2,3,10,11,12])) rounds ⟨((((Tr.lf.set 12 (.pv (.int .i64 0))).set 11 (.pv (i64 ss.length))).set 10 (.pv S)).set 3 (.ptr 1 0)).set 2 (.ptr 0 0),[.box [.pv .nils],.box [.uq 2 true 2 []],.tok 2 0 true]⟩=_:=h1
 have hz:(0 < 2)=True:=by simp
 have c2:(2 < 3)=True:=by simp
 have c1:(1 < 3)=True:=by simp
 have c0:(0 < 3)=True:=by simp
 have hout:nl=true→ss.map encShp=[]:=fun h=>by rw[hnl h];rfl
 generalize ss.map encShp=out at *
 cases nl with
 |true=>
  refine⟨.nils,?_,.inl ⟨rfl,?_⟩⟩
  ·simp (implicitDefEqProofs:=false) only[F_scheme_Copy,SP,SA,SQ,sevalprocAttr,-List.reduceReplicate,roundA,b_scheme_Copy,C_loop,hSone,toPV_pv',lS,ghostA,hz,c0,c1,c2,clean,cutEnv,AV.cut,cutObj,cut_pv,mapO,deep_eq',h1',g2,g3]
  ·exact hout rfl
 |false=>
  refine⟨.lit 2 out,?_,.inr rfl⟩
  simp (implicitDefEqProofs:=false) only[F_scheme_Copy,SP,SA,SQ,sevalprocAttr,-List.reduceReplicate,roundA,b_scheme_Copy,C_loop,hSone,toPV_pv',lS,ghostA,hz,c0,c1,c2,clean,cutEnv,AV.cut,cutObj,cut_pv,mapO,deep_eq',h1',g2,g3]
end Go.AM.B1
namespace Go.AM.B1
open Go.AM Go.AM.So
theorem SchOk.ne {ss:List Shp} (h:SchOk ss):∀ s∈ss,0 < s.parts.length:=fun s hs=>(h.shp s hs).lo
theorem HeldSch.psz {S:PV} {ss:List Shp} {es:List PV} (h:HeldSch S ss es):∀ s∈ss,∀ l∈s.parts,l.length * 16≤140737488355328:=by
 intro s hs l hl
 obtain⟨i,hi,rfl⟩:=List.getElem_of_mem hs
 obtain⟨e,P,ps,_,_,hp⟩:=h.get hi
 obtain⟨j,hj,rfl⟩:=List.getElem_of_mem hl
 obtain⟨v,_,_,hv⟩:=hp.parts.get hj
 exact hv.sz
theorem build_run {S:PV} {ss:List Shp} {es:List PV} (hS:HeldSch S ss es):
 (¬ SchOk ss→F_auto_Build [.agg [S]]=some (.tup [.agg [.nils],i64 84]))∧
 (SchOk ss→¬PreOk ss→F_auto_Build [.agg [S]]=some (.tup [.agg [.nils],i64 110]))∧
 (SchOk ss→PreOk ss→autoS ss=none→F_auto_Build [.agg [S]]=some (.tup [.agg [.nils],i64 130]))∧
 (SchOk ss→PreOk ss→∀ l,autoS ss=some l→F_auto_Build [.agg [S]]=some (.tup [.agg [encSt l],i64 0])):=by
 have hS0:S= .nils∨∃ l,S= .lit 2 l:=by
  rcases hS.is with⟨h,_⟩ | h
  ·exact .inl h
  ·exact .inr ⟨_,h⟩
 have hp:=prefix_run hS
 refine⟨?_,?_,?_,?_⟩
 ·intro h
  exact build_err S hS0 (by decide) (hp.1 h)
 ·intro h1 h2
  obtain⟨y,a,b,h3,h4⟩:=hp.2 h1
  have hy:y=false:=by cases y with | false=>rfl | true=>exact absurd (h4.1 rfl) h2
  subst hy
  exact build_no S hS0 h3
 ·intro h1 h2 h5
  obtain⟨y,a,b,h3,h4⟩:=hp.2 h1
  have hy:=h4.2 h2
  subst hy
  obtain⟨S',hc,hs⟩:=copy_run hS h1
  exact build_full S S' ss hS0 h3 hc hs h1.len hS.psz h1.ne h5
 ·intro h1 h2 l h5
  obtain⟨y,a,b,h3,h4⟩:=hp.2 h1
  have hy:=h4.2 h2
  subst hy
  obtain⟨S',hc,hs⟩:=copy_run hS h1
  exact build_ok S S' ss hS0 h3 hc hs h1.len hS.psz h1.ne h5
end Go.AM.B1
