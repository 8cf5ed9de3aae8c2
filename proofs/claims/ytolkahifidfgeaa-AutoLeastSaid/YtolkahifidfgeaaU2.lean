/- What the automaton's states and edges are, what Match tells; Decode and Begins; AutoTells: what the law computes. -/
import Derived.Test.YtolkahifidfgeaaU1
import Derived.Test.YtolkahifidfgeaaS2
import Derived.Test.YtolkahifidfgeaaS3
import Derived.Test.YtolkahifidfgeaaC4
set_option linter.unusedVariables false
set_option linter.unusedSimpArgs false
namespace Go.AM.B1
open Go.AM Go.AM.So
attribute [local irreducible] wpO
structure HeldSz (ss:List Shp):Prop where
 len:ss.length * 32≤140737488355328
 parts:∀ s∈ss,s.parts.length * 24≤140737488355328
end Go.AM.B1
namespace Go.AM.B1
open Go.AM Go.AM.So
attribute [local irreducible] wpO
end Go.AM.B1
namespace Go.AM.B1
open Go.AM
def docT:List (Int×Int):=[(128,191)]
def docS:List Shp:=[⟨[[(0,127)]],0⟩,⟨[[(194,223)],docT],128⟩,⟨[[(224,224)],[(160,191)],docT],2048⟩]
def docP:PV:= .agg [.lit 2 (docS.map encShp)]
def docA:List (List Edg):=[[⟨0,127,-1⟩,⟨194,223,1⟩,⟨224,224,2⟩],[⟨128,191,-1⟩],[⟨160,191,1⟩]]
theorem some_run:F_leadtraillaw13_some []=some docP:=by kernel_rfl
theorem docP_prefix:F_clash_Prefix [docP]=some (.tup [.agg [.bool true,i64 0,i64 0],i64 0]):=by kernel_rfl
theorem docP_copy:F_scheme_Copy [docP]=some docP:=by kernel_rfl
theorem docA_auto:autoS docS=some docA:=by kernel_rfl
theorem docP_build:F_auto_Build [docP]=some (.tup [.agg [encSt docA],i64 0]):=
 build_ok (.lit 2 (docS.map encShp)) (.lit 2 (docS.map encShp)) docS (.inr ⟨_,rfl⟩) docP_prefix docP_copy (.inr rfl) (by decide) (by decide) (by decide) docA_auto
theorem doc_same:F_leadtrailref13_Same [.agg [encSt docA],.agg [encSt docA]]=some (.bool true):=by kernel_rfl
theorem fixed_run:F_leadtraillaw13_fixed []=some (.bool true):=by
 have h1:=docP_build
 have h2:=doc_same
 have hd:encSt docA= .lit 1 [.lit 3 [.agg [.int .i64 0,.int .i64 127,.int .i64 (-1)],.agg [.int .i64 194,.int .i64 223,.int .i64 1],.agg [.int .i64 224,.int .i64 224,.int .i64 2]],.lit 3 [.agg [.int .i64 128,.int .i64 191,.int .i64 (-1)]],.lit 3 [.agg [.int .i64 160,.int .i64 191,.int .i64 1]]]:=rfl
 rw[hd] at h1 h2
 have h3:=some_run
 generalize docP=p at *
 simp (implicitDefEqProofs:=false) only[F_leadtraillaw13_fixed,SP,SA,SQ,sevalprocAttr,-List.reduceReplicate,b_leadtraillaw13_fixed,h1,h2,h3,toPV_pv,deep_eq,partE,AV.pvu,AV.pvu1]
end Go.AM.B1
namespace Go.AM.B1
open Go.AM
theorem m1_run:F_auto_Match [.agg [encSt docA],.lit 1 [.int .u8 224,.int .u8 160,.int .u8 65]]=some (.tup [i64 2,i64 3]):=by kernel_rfl
theorem m2_run:F_auto_Match [.agg [encSt docA],.lit 1 [.int .u8 195,.int .u8 169,.int .u8 169]]=some (.tup [i64 2,i64 1]):=by kernel_rfl
theorem m3_run:F_auto_Match [.agg [encSt docA],.lit 1 [.int .u8 224]]=some (.tup [i64 1,i64 2]):=by kernel_rfl
theorem names_run:pureF (fun _=>none) b_leadtraillaw13_AutoNames []=some (.bool true):=by
 have h1:=docP_build
 have h2:=some_run
 have h3:=fixed_run
 have k1:=m1_run
 have k2:=m2_run
 have k3:=m3_run
 obtain⟨l,hl⟩:∃ l,encSt docA= .lit 1 l:=⟨_,rfl⟩
 rw[hl] at h1 k1 k2 k3
 generalize docP=p at *
 simp (implicitDefEqProofs:=false) only[SP,SA,SQ,sevalprocAttr,-List.reduceReplicate,b_leadtraillaw13_AutoNames,h1,h2,h3,k1,k2,k3,toPV_pv,deep_eq,partE,AV.pvu,AV.pvu1]
end Go.AM.B1
namespace Go.AM.B1
open Go.AM
theorem loop_acc {α β:Type} {g:St→Option (Ex×St)} (st:Nat→β→St) (f:Nat→β→α) (I:Nat→β→Prop) (Q:α→Ex→St→Prop) (N:Nat) (hN:N < rounds) (a0:β) (h0:I 0 a0)
 (hs:∀ i,i < N→∀ a,I i a→(∃ a',g (st i a)=some (.norm,st (i+1) a')∧f i a=f (i+1) a'∧I (i+1) a')∨∃ ex t,g (st i a)=some (ex,t)∧ex.stop=true∧Q (f i a) ex t)
 (he:∀ a,I N a→∃ ex t,g (st N a)=some (ex,t)∧ex.stop=true∧Q (f N a) ex t):
 ∃ ex t,loopA g rounds (st 0 a0)=some (ex,t)∧ex.stop=true∧Q (f 0 a0) ex t:=by
 refine loopA_go (fun i t=>∃ a,t=st i a∧I i a∧f 0 a0=f i a) (fun ex t=>Q (f 0 a0) ex t) rounds N 0 (st 0 a0) (by omega) (by omega) ⟨a0,rfl,h0,rfl⟩ ?_ ?_
 ·rintro i hi t ⟨a,rfl,ha,hf⟩
  rw[hf]
  rcases hs i hi a ha with⟨a',h1,h2,h3⟩ | h
  ·exact .inl ⟨_,h1,a',rfl,h3,by rw[h2]⟩
  ·exact .inr h
 ·rintro t ⟨a,rfl,ha,hf⟩
  rw[hf]
  exact he a ha
inductive retIsE (k:Nat) (v:AV) (H:List AObj):Option (Ex×St)→Prop
 |mk (s:St):s.env.get k=v→s.H=H→retIsE k v H (some (.ret,s))
theorem retIsE_ret {k:Nat} {v:AV} {H:List AObj} {s:St}:retIsE k v H (some (.ret,s))=(s.env.get k=v∧s.H=H):=
 propext ⟨fun h=>by cases h with | mk _ h h'=>exact⟨h,h'⟩,fun h=> .mk s h.1 h.2⟩
theorem retIsE_spec {k:Nat} {v:AV} {H:List AObj} {r:Option (Ex×St)} (h:retIsE k v H r):∃ t,r=some (.ret,t)∧t.env.get k=v∧t.H=H:=by
 cases h with | mk s h h'=>exact⟨s,rfl,h,h'⟩
abbrev u8 (n:Int):PV:= .int .u8 n
structure HeldSt (A:PV) (l:List (List Edg)):Prop where
 held:∃ es,IsL 1 A es∧es.length=l.length∧∀ (i:Nat) v e,es[i]? =some v→l[i]? =some e→IsL 3 v (e.map encE)
 len:l.length * 24≤140737488355328
 lens:∀ e∈l,e.length * 24≤140737488355328
def stepI (b:Int):List Edg→Nat→Int
 | [],_=> -1
 |e::r,i=>if e.lo≤b∧b≤e.hi then (i:Int) else stepI b r (i+1)
def stepEd (b:Int):List Edg→Option Int
 | []=>none
 |e::r=>if e.lo≤b∧b≤e.hi then some e.to else stepEd b r
def stepS (l:List (List Edg)) (st b:Int):Int×Bool:=
 if st < 0 then (0,false) else match l[st.toNat]? with
  |some e=>match stepEd b e with
   |some t=>(t,true)
   |none=>(0,false)
  |none=>(0,false)
theorem stepI_L {b:Int}:∀ (r:List Edg) (i:Nat),(stepI b r i= -1∧stepEd b r=none)∨∃ k e,stepI b r i=((i+k:Nat):Int)∧r[k]? =some e∧stepEd b r=some e.to
 | [],i=> .inl ⟨rfl,rfl⟩
 |e::r,i=>by
  rw[stepI,stepEd]
  by_cases h:e.lo≤b∧b≤e.hi
  ·rw[if_pos h,if_pos h];exact .inr ⟨0,e,by simp,rfl,rfl⟩
  ·rw[if_neg h,if_neg h]
   rcases stepI_L (b:=b) r (i+1) with h | ⟨k,e',h1,h2,h3⟩
   ·exact .inl h
   ·exact .inr ⟨k+1,e',by rw[h1];congr 1;omega,h2,h3⟩
theorem encE_get {l:List Edg} {i:Nat} (hi:i < l.length):(l.map encE)[i]? =some (encE l[i]):=by simp[hi]
section
variable (b:Int) (hb:0≤b∧b≤255)
include hb
theorem cmp_run (call:CallF) (e:Edg):runF call b_auto_Step_1 [.pv (encE e),.ptr 0 0] [.box [.pv (u8 b)]]=some (.pv (.bool (decide (e.lo≤b∧b≤e.hi))),[.box [.pv (u8 b)]]):=by
 have t1:IntKind.i64.wrap b=b:=wrap_int (by omega)
 by_cases h1:e.lo≤b
 ·have d1:=dec_t h1
  by_cases h2:b≤e.hi
  ·have d2:=dec_t h2
   have d3:decide (e.lo≤b∧b≤e.hi)=true:=dec_t ⟨h1,h2⟩
   rw[d3]
   simp (implicitDefEqProofs:=false) only[SP,SA,SQ,sevalprocAttr,-List.reduceReplicate,b_auto_Step_1,encE,t1,d1,d2]
  ·have d2:=dec_f h2
   have d3:decide (e.lo≤b∧b≤e.hi)=false:=dec_f fun h=>h2 h.2
   rw[d3]
   simp (implicitDefEqProofs:=false) only[SP,SA,SQ,sevalprocAttr,-List.reduceReplicate,b_auto_Step_1,encE,t1,d1,d2]
 ·have d1:=dec_f h1
  have d3:decide (e.lo≤b∧b≤e.hi)=false:=dec_f fun h=>h1 h.1
  rw[d3]
  simp (implicitDefEqProofs:=false) only[SP,SA,SQ,sevalprocAttr,-List.reduceReplicate,b_auto_Step_1,encE,t1,d1]
abbrev envX (V:PV) (len i:Int):Tr:=(((Tr.lf.set 8 (.pv (i64 i))).set 7 (.pv (i64 len))).set 1 (.clo 32 [.ptr 0 0])).set 0 (.pv V)
variable (V:PV) (l:List Edg) (hV:IsL 3 V (l.map encE)) (hw:l.length≤maxLen)
include hV hw
theorem index_round (i:Nat) (hi:i < l.length):
 ((l[i].lo≤b∧b≤l[i].hi)→retIsE 4 (.pv (i64 i)) [.box [.pv (u8 b)]] (roundL (callL t_auto_Step 7) [0,1,7,8] b_slices_IndexFunc_api_Edge_api_Edge_l0 1 ⟨envX V l.length i,[.box [.pv (u8 b)]]⟩))∧
 (¬ (l[i].lo≤b∧b≤l[i].hi)→roundL (callL t_auto_Step 7) [0,1,7,8] b_slices_IndexFunc_api_Edge_api_Edge_l0 1 ⟨envX V l.length i,[.box [.pv (u8 b)]]⟩=some (.norm,⟨envX V l.length (i+1:Nat),[.box [.pv (u8 b)]]⟩)):=by
 have hV:=hV.lit (i:=i) (by simpa using hi)
 subst hV
 have e1:decide ((i:Int) < (l.length:Int))=true:=dec_t (by omega)
 have hq:idxOk (i:Int) (l.map encE).length:=by unfold idxOk;simp;omega
 have t1:((i:Int)).toNat=i:=by simp
 have t2:=stepWrap hi hw
 have hg:(l.map encE)[i]? =some (.agg [i64 l[i].lo,i64 l[i].hi,i64 l[i].to]):=encE_get hi
 have hc:=cmp_run b hb (callL t_auto_Step 6) l[i]
 simp only[encE] at hc
 generalize l.map encE=es at *
 constructor
 ·intro h
  have d:=dec_t h
  rw[d] at hc
  generalize l[i]=e at *
  simp (implicitDefEqProofs:=false) only[SP,SA,SQ,sevalprocAttr,-List.reduceReplicate,roundL,roundA,b_slices_IndexFunc_api_Edge_api_Edge_l0,t_auto_Step,e1,eq_true hq,t1,t2,hg,hc,iaddrA',envX,retIsE_ret]
 ·intro h
  have d:=dec_f h
  rw[d] at hc
  generalize l[i]=e at *
  simp (implicitDefEqProofs:=false) only[SP,SA,SQ,sevalprocAttr,-List.reduceReplicate,roundL,roundA,b_slices_IndexFunc_api_Edge_api_Edge_l0,t_auto_Step,e1,eq_true hq,t1,t2,hg,hc,iaddrA',envX,clean,cutEnv,cutO_box,cut_pv,AV.cut,deep_eq]
theorem stepIndex_run:runF (callL t_auto_Step 7) b_slices_IndexFunc_api_Edge_api_Edge [.pv V,.clo 32 [.ptr 0 0]] [.box [.pv (u8 b)]]=some (.pv (i64 (stepI b l 0)),[.box [.pv (u8 b)]]):=by
 have ls:=hV.len
 simp only[List.length_map] at ls
 have key:=loop_acc (g:=roundL (callL t_auto_Step 7) [0,1,7,8] b_slices_IndexFunc_api_Edge_api_Edge_l0 1)
  (fun i (_:Unit)=>⟨envX V l.length i,[.box [.pv (u8 b)]]⟩) (fun i _=>stepI b (l.drop i) i) (fun _ _=>True)
  (fun r ex t=>(ex= .exit 0∧r= -1∧t.H=[.box [.pv (u8 b)]])∨(ex= .ret∧t.env.get 4= .pv (i64 r)∧t.H=[.box [.pv (u8 b)]]))
  l.length (by unfold rounds;unfold maxLen at hw;omega) () trivial ?_ ?_
 ·obtain⟨ex,⟨e,H⟩,h,_,hq⟩:=key
  have h':loopA (roundA (evalC (callL t_auto_Step 7) b_slices_IndexFunc_api_Edge_api_Edge_l0) (clean 1 [0,1,7,8])) rounds ⟨envX V l.length 0,[.box [.pv (u8 b)]]⟩=some (ex,⟨e,H⟩):=h
  simp only[envX] at h'
  rw[List.drop_zero] at hq
  generalize stepI b l 0=r at *
  rcases hq with⟨rfl,rfl,g2⟩ | ⟨rfl,g1,g2⟩
  ·simp only at g2
   subst g2
   simp (implicitDefEqProofs:=false) only[SP,SA,SQ,sevalprocAttr,-List.reduceReplicate,b_slices_IndexFunc_api_Edge_api_Edge,ls,C_loop,clean,cutEnv,cutO_box,cut_pv,AV.cut,deep_eq]
   rw[h']
   simp (implicitDefEqProofs:=false) only[SP,SA,SQ,sevalprocAttr,-List.reduceReplicate]
  ·simp only at g1 g2
   subst g2
   simp (implicitDefEqProofs:=false) only[SP,SA,SQ,sevalprocAttr,-List.reduceReplicate,b_slices_IndexFunc_api_Edge_api_Edge,ls,C_loop,clean,cutEnv,cutO_box,cut_pv,AV.cut,deep_eq]
   rw[h']
   simp (implicitDefEqProofs:=false) only[SP,SA,SQ,sevalprocAttr,-List.reduceReplicate,g1]
 ·rintro i hi _ _
  have hr:=index_round b hb V l hV hw i hi
  have hd:l.drop i=l[i]::l.drop (i+1):=List.drop_eq_getElem_cons hi
  simp only[hd,stepI]
  by_cases h:l[i].lo≤b∧b≤l[i].hi
  ·obtain⟨t,k1,k2,k3⟩:=retIsE_spec (hr.1 h)
   rw[if_pos h]
   exact .inr ⟨.ret,t,k1,rfl,.inr ⟨rfl,k2,k3⟩⟩
  ·rw[if_neg h]
   exact .inl ⟨(),hr.2 h,rfl,trivial⟩
 ·rintro _ _
  rw[List.drop_length]
  have e1:decide ((l.length:Int) < (l.length:Int))=false:=dec_f (by omega)
  refine⟨.exit 0,⟨(envX V l.length l.length).set 9 (.pv (.bool false)),[.box [.pv (u8 b)]]⟩,?_,rfl,.inl ⟨rfl,rfl,rfl⟩⟩
  simp (implicitDefEqProofs:=false) only[SP,SA,SQ,sevalprocAttr,-List.reduceReplicate,roundL,roundA,b_slices_IndexFunc_api_Edge_api_Edge_l0,e1,envX]
end
theorem HeldSt.get {A:PV} {l:List (List Edg)} (h:HeldSt A l) {i:Nat} (hi:i < l.length):∃ es V,A= .lit 1 es∧es.length=l.length∧es[i]? =some V∧IsL 3 V (l[i].map encE):=by
 obtain⟨es,h1,h2,h3⟩:=h.held
 have hie:i < es.length:=by omega
 refine⟨es,es[i],h1.lit hie,h2,by simp[hie],h3 i _ _ (by simp[hie]) (by simp[hi])⟩
theorem HeldSt.lenA {A:PV} {l:List (List Edg)} (h:HeldSt A l) (H:List AObj):lenA H 0 (.pv A)=some l.length:=by
 obtain⟨es,h1,h2,h3⟩:=h.held
 rw[h1.len,h2]
theorem HeldSt.form {A:PV} {l:List (List Edg)} (h:HeldSt A l):A= .nils∨∃ es,A= .lit 1 es:=by
 obtain⟨es,h1,h2,h3⟩:=h.held
 rcases h1 with⟨rfl,_⟩ | rfl
 ·exact .inl rfl
 ·exact .inr ⟨_,rfl⟩
theorem IsL.form {sz:Nat} {v:PV} {es:List PV} (h:IsL sz v es):v= .nils∨∃ es,v= .lit sz es:=by
 rcases h with⟨rfl,_⟩ | rfl
 ·exact .inl rfl
 ·exact .inr ⟨_,rfl⟩
section
variable (A:PV) (l:List (List Edg)) (hA:HeldSt A l) (st b:Int) (hb:0≤b∧b≤255)
include hA hb
theorem step_run:F_auto_Step [.agg [A],i64 st,u8 b]=some (.tup [i64 (stepS l st b).1,.bool (stepS l st b).2]):=by
 have hla:=hA.lenA
 by_cases h0:st < 0
 ·have e:stepS l st b=(0,false):=by simp[stepS,h0]
  have d:=dec_t h0
  rw[e]
  rcases hA.form with rfl | ⟨es,rfl⟩ <;>
  simp (implicitDefEqProofs:=false) only[F_auto_Step,SP,SA,SQ,sevalprocAttr,-List.reduceReplicate,b_auto_Step,d,toPV_pv,deep_eq]
 have d0:=dec_f h0
 by_cases h1:st.toNat < l.length
 ·obtain⟨es,V,rfl,hel,hV,hVL⟩:=hA.get h1
  have d1:decide (st≥(l.length:Int))=false:=dec_f (by omega)
  have hq:idxOk st l.length:=by unfold idxOk;omega
  have hlen:=hA.lens l[st.toNat] (List.getElem_mem h1)
  have hix:=stepIndex_run b hb V l[st.toNat] hVL (by unfold maxLen;omega)
  have hget:l[st.toNat]? =some l[st.toNat]:=by simp[h1]
  simp only[stepS,if_neg h0,hget]
  generalize l[st.toNat]=e at *
  rcases stepI_L (b:=b) e 0 with⟨k1,k2⟩ | ⟨k,ed,k1,k2,k3⟩
  ·rw[k1] at hix
   simp only[k2]
   rcases hVL.form with rfl | ⟨vs,rfl⟩ <;>
   simp (implicitDefEqProofs:=false) only[F_auto_Step,SP,SA,SQ,sevalprocAttr,-List.reduceReplicate,b_auto_Step,d0,d1,hel,eq_true hq,hV,t_auto_Step,iaddrA',hix,toPV_pv,deep_eq]
  ·have hkl:=(List.getElem?_eq_some_iff.1 k2).1
   have hVl:=hVL.lit (i:=k) (by simpa using hkl)
   subst hVl
   have hge:(e.map encE)[k]? =some (.agg [i64 ed.lo,i64 ed.hi,i64 ed.to]):=by rw[List.getElem?_map,k2];rfl
   have hq2:idxOk (k:Int) (e.map encE).length:=by unfold idxOk;simp;omega
   have t1:((k:Int)).toNat=k:=by simp
   have d2:decide ((k:Int) < 0)=false:=dec_f (by omega)
   rw[Nat.zero_add] at k1
   rw[k1] at hix
   simp only[k3]
   generalize e.map encE=vs at *
   simp (implicitDefEqProofs:=false) only[F_auto_Step,SP,SA,SQ,sevalprocAttr,-List.reduceReplicate,b_auto_Step,d0,d1,d2,hel,eq_true hq,eq_true hq2,t1,hV,hge,t_auto_Step,iaddrA',hix,toPV_pv,deep_eq]
 ·have hn:l[st.toNat]? =none:=by simp;omega
  have e:stepS l st b=(0,false):=by simp[stepS,hn]
  have d1:decide (st≥(l.length:Int))=true:=dec_t (by omega)
  rw[e]
  rcases hA.form with rfl | ⟨es,rfl⟩
  ·have hl0:l.length=0:=by have:=hla [];simp[lenA] at this;omega
   have d1:decide (st≥0)=true:=dec_t (by omega)
   simp (implicitDefEqProofs:=false) only[F_auto_Step,SP,SA,SQ,sevalprocAttr,-List.reduceReplicate,b_auto_Step,d0,d1,toPV_pv,deep_eq]
  ·have hel:es.length=l.length:=by have:=hla [];simpa[lenA] using this
   simp (implicitDefEqProofs:=false) only[F_auto_Step,SP,SA,SQ,sevalprocAttr,-List.reduceReplicate,b_auto_Step,d0,d1,hel,toPV_pv,deep_eq]
end
section
variable (call:CallF) (es:List PV) (st b:Int) (hb:0≤b∧b≤255) (e:List Edg) (V:PV) (h0:0≤st∧st < es.length) (hV:es[st.toNat]? =some V) (hVL:IsL 3 V (e.map encE)) (hw:e.length≤maxLen)
include h0 hV hVL
include hb hw
end
section
variable (A:PV) (l:List (List Edg)) (hA:HeldSt A l) (st b:Int) (hb:0≤b∧b≤255)
include hA hb
end
end Go.AM.B1
namespace Go.AM.B1
open Go.AM
def matchS (l:List (List Edg)):Nat→Int→List Int→Int×Int
 |i,_,[]=>(i,2)
 |i,st,b::r=>if (stepS l st b).2=false then ((i:Int),3) else if (stepS l st b).1= -1 then (((i+1:Nat):Int),1) else matchS l (i+1) (stepS l st b).1 r
theorem u8_get {bs:List Int} {i:Nat} (hi:i < bs.length):(bs.map u8)[i]? =some (u8 bs[i]):=by simp[hi]
abbrev envM1 (A B:PV) (st len i:Int):Tr:=(((((Tr.lf.set 13 (.pv (i64 i))).set 12 (.pv (i64 len))).set 11 (.pv B)).set 6 (.pv (i64 st))).set 2 (.pv (.rp [A] 0))).set 1 (.pv B)
section
variable (call:CallF) (A B:PV) (l:List (List Edg)) (hA:HeldSt A l) (bs:List Int) (hB:IsL 1 B (bs.map u8)) (hb:∀ b∈bs,0≤b∧b≤255) (hw:bs.length≤maxLen)
include hA hB hb hw
theorem match_round (st:Int) (i:Nat) (hi:i < bs.length):
 ((stepS l st bs[i]).2=false→retIs2 4 (.pv (i64 i)) 5 (.pv (i64 3)) (roundL call [1,2,6,11,12,13] b_auto_Match_l0 0 ⟨envM1 A B st bs.length i,[]⟩))∧
 ((stepS l st bs[i]).2=true→(stepS l st bs[i]).1= -1→retIs2 4 (.pv (i64 (i+1:Nat))) 5 (.pv (i64 1)) (roundL call [1,2,6,11,12,13] b_auto_Match_l0 0 ⟨envM1 A B st bs.length i,[]⟩))∧
 ((stepS l st bs[i]).2=true→(stepS l st bs[i]).1≠ -1→roundL call [1,2,6,11,12,13] b_auto_Match_l0 0 ⟨envM1 A B st bs.length i,[]⟩=some (.norm,⟨envM1 A B (stepS l st bs[i]).1 bs.length (i+1:Nat),[]⟩)):=by
 have hBl:=hB.lit (i:=i) (by simpa using hi)
 subst hBl
 have e1:decide ((i:Int) < (bs.length:Int))=true:=dec_t (by omega)
 have hq:idxOk (i:Int) (bs.map u8).length:=by unfold idxOk;simp;omega
 have t1:((i:Int)).toNat=i:=by simp
 have t2:=stepWrap hi hw
 have hg:=u8_get hi
 have hs:=step_run A l hA st bs[i] (hb _ (List.getElem_mem hi))
 generalize stepS l st bs[i]=p at *
 generalize bs[i]=b at *
 obtain⟨to,ok⟩:=p
 generalize bs.map u8=es at *
 refine⟨?_,?_,?_⟩
 ·rintro rfl
  rcases hA.form with rfl | ⟨av,rfl⟩ <;>
  simp (implicitDefEqProofs:=false) only[SP,SA,SQ,sevalprocAttr,-List.reduceReplicate,roundL,roundA,b_auto_Match_l0,e1,eq_true hq,t1,t2,hg,hs,toPV_pv,deep_eq,iaddrA',envM1,retIs2_ret]
 ·rintro rfl rfl
  rcases hA.form with rfl | ⟨av,rfl⟩ <;>
  simp (implicitDefEqProofs:=false) only[SP,SA,SQ,sevalprocAttr,-List.reduceReplicate,roundL,roundA,b_auto_Match_l0,e1,eq_true hq,t1,t2,hg,hs,toPV_pv,deep_eq,iaddrA',envM1,retIs2_ret]
 ·rintro rfl h
  have d:=beq_ne h
  rcases hA.form with rfl | ⟨av,rfl⟩ <;>
  simp (implicitDefEqProofs:=false) only[SP,SA,SQ,sevalprocAttr,-List.reduceReplicate,roundL,roundA,b_auto_Match_l0,e1,eq_true hq,t1,t2,hg,hs,d,toPV_pv,iaddrA',envM1,clean,cutEnv,cut_pv,AV.cut,deep_eq]
theorem match_run:F_auto_Match [.agg [A],B]=some (.tup [i64 (matchS l 0 0 bs).1,i64 (matchS l 0 0 bs).2]):=by
 have ls:=hB.len
 simp only[List.length_map] at ls
 have key:=loop_acc (g:=roundL (callL (fun _=>none) 8) [1,2,6,11,12,13] b_auto_Match_l0 0)
  (fun i st=>⟨envM1 A B st bs.length i,[]⟩) (fun i st=>matchS l i st (bs.drop i)) (fun _ _=>True)
  (fun r ex t=>(ex= .exit 0∧r=((bs.length:Int),2)∧∃ st,t=⟨(envM1 A B st bs.length bs.length).set 14 (.pv (.bool false)),[]⟩)∨(ex= .ret∧t.env.get 4= .pv (i64 r.1)∧t.env.get 5= .pv (i64 r.2)))
  bs.length (by unfold rounds;unfold maxLen at hw;omega) 0 trivial ?_ ?_
 ·obtain⟨ex,⟨E,H⟩,h,_,hq⟩:=key
  have h':loopA (roundA (evalC (callL (fun _=>none) 8) b_auto_Match_l0) (clean 0 [1,2,6,11,12,13])) rounds ⟨envM1 A B 0 bs.length 0,[]⟩=some (ex,⟨E,H⟩):=h
  simp only[envM1] at h'
  rw[List.drop_zero] at hq
  generalize matchS l 0 0 bs=r at *
  have hBf:=hB.form
  rcases hq with⟨rfl,rfl,st,g⟩ | ⟨rfl,g1,g2⟩
  ·rw[g] at h'
   simp only[envM1] at h'
   rcases hA.form with rfl | ⟨av,rfl⟩ <;>
   ·simp (implicitDefEqProofs:=false) only[F_auto_Match,SP,SA,SQ,sevalprocAttr,-List.reduceReplicate,b_auto_Match,ls,C_loop,clean,cutEnv,cut_pv,AV.cut,deep_eq]
    rw[h']
    simp (implicitDefEqProofs:=false) only[SP,SA,SQ,sevalprocAttr,-List.reduceReplicate,ls]
  ·simp only at g1 g2
   rcases hA.form with rfl | ⟨av,rfl⟩ <;>
   ·simp (implicitDefEqProofs:=false) only[F_auto_Match,SP,SA,SQ,sevalprocAttr,-List.reduceReplicate,b_auto_Match,ls,C_loop,clean,cutEnv,cut_pv,AV.cut,deep_eq]
    rw[h']
    simp (implicitDefEqProofs:=false) only[SP,SA,SQ,sevalprocAttr,-List.reduceReplicate,g1,g2]
 ·rintro i hi st _
  obtain⟨r1,r2,r3⟩:=match_round (callL (fun _=>none) 8) A B l hA bs hB hb hw st i hi
  have hd:bs.drop i=bs[i]::bs.drop (i+1):=List.drop_eq_getElem_cons hi
  simp only[hd,matchS]
  cases h2:(stepS l st bs[i]).2 with
  |false=>
   obtain⟨t,k1,k2,k3⟩:=retIs2_spec (r1 h2)
   exact .inr ⟨.ret,t,k1,rfl,.inr ⟨rfl,k2,k3⟩⟩
  |true=>
   simp only[Bool.true_eq_false,if_false]
   by_cases h1:(stepS l st bs[i]).1= -1
   ·obtain⟨t,k1,k2,k3⟩:=retIs2_spec (r2 h2 h1)
    rw[if_pos h1]
    exact .inr ⟨.ret,t,k1,rfl,.inr ⟨rfl,k2,k3⟩⟩
   ·rw[if_neg h1]
    exact .inl ⟨_,r3 h2 h1,rfl,trivial⟩
 ·rintro st _
  rw[List.drop_length]
  have e1:decide ((bs.length:Int) < (bs.length:Int))=false:=dec_f (by omega)
  refine⟨.exit 0,⟨(envM1 A B st bs.length bs.length).set 14 (.pv (.bool false)),[]⟩,?_,rfl,.inl ⟨rfl,rfl,st,rfl⟩⟩
  simp (implicitDefEqProofs:=false) only[SP,SA,SQ,sevalprocAttr,-List.reduceReplicate,roundL,roundA,b_auto_Match_l0,e1,envM1]
end
end Go.AM.B1
namespace Go.AM.B1
open Go.AM
section
variable (A:PV) (l:List (List Edg)) (hA:HeldSt A l)
include hA
end
theorem eqKd_E (a b:Edg):eqKd (.row [1,1,1]) (.agg [i64 a.lo,i64 a.hi,i64 a.to]) (.agg [i64 b.lo,i64 b.hi,i64 b.to])=some (decide (a=b)):=by
 obtain⟨a1,a2,a3⟩:=a;obtain⟨b1,b2,b3⟩:=b
 simp only[eqKd,eqCells,eqCell,if_true,Option.bind_some,Option.map_some,Bool.and_true,Edg.mk.injEq,Bool.decide_and]
 congr 1
def same1:List Edg→List Edg→Bool
 |a::l,b::m=>decide (a=b)&&same1 l m
 |_,_=>true
theorem same1_eq:∀ (l m:List Edg),l.length=m.length→same1 l m=decide (l=m)
 | [],[],_=>rfl
 |a::l,b::m,h=>by
  have:=same1_eq l m (by simpa using h)
  rw[same1,this]
  simp only[List.cons.injEq,Bool.decide_and]
 | [],_::_,h=>by cases h
 |_::_,[],h=>by cases h
def same2:List (List Edg)→List (List Edg)→Bool
 |a::l,b::m=>decide (a.length=b.length)&&same1 a b&&same2 l m
 |_,_=>true
theorem same2_eq:∀ (l m:List (List Edg)),l.length=m.length→same2 l m=decide (l=m)
 | [],[],_=>rfl
 |a::l,b::m,h=>by
  have:=same2_eq l m (by simpa using h)
  rw[same2,this]
  by_cases hl:a.length=b.length
  ·rw[same1_eq a b hl]
   simp only[hl,decide_true,Bool.true_and,List.cons.injEq,Bool.decide_and]
  ·have:a≠b:=fun e=>hl (by rw[e])
   simp[hl,this]
 | [],_::_,h=>by cases h
 |_::_,[],h=>by cases h
abbrev envS (A B:PV) (i k:Int):Tr:=(((Tr.lf.set 6 (.pv (i64 k))).set 5 (.pv (i64 i))).set 3 (.pv (.rp [B] 0))).set 2 (.pv (.rp [A] 0))
abbrev envStp0 (A B:PV) (i:Int):Tr:=((Tr.lf.set 5 (.pv (i64 i))).set 3 (.pv (.rp [B] 0))).set 2 (.pv (.rp [A] 0))
section
variable (call:CallF) (av bs:List PV) (i:Nat) (a b:List Edg) (V W:PV) (hia:i < av.length) (hib:i < bs.length) (hV:av[i]? =some V) (hW:bs[i]? =some W) (hVL:IsL 3 V (a.map encE)) (hWL:IsL 3 W (b.map encE)) (hw:a.length≤maxLen)
include hia hV hVL
theorem same_end:roundL call [2,3,5,6] b_leadtrailref13_Same_l1 0 ⟨envS (.lit 1 av) (.lit 1 bs) i a.length,[]⟩=
 some (.exit 2,⟨((((((((envS (.lit 1 av) (.lit 1 bs) i a.length).set 34 (.pv (i64 a.length))).set 35 (.pv (.rp [.lit 1 av] 0))).set 36 (.pv (.lit 1 av))).set 37 (.pv (i64 i))).set 38 (.pv (.rp [V] 0))).set 39 (.pv V)).set 40 (.pv (i64 a.length))).set 41 (.pv (.bool false)),[]⟩):=by
 have e1:decide ((a.length:Int) < (a.length:Int))=false:=dec_f (by omega)
 have hq:idxOk (i:Int) av.length:=by unfold idxOk;omega
 have t1:((i:Int)).toNat=i:=by simp
 have ls:=hVL.len []
 simp only[List.length_map] at ls
 rcases hVL.form with rfl | ⟨vs,rfl⟩ <;>
 simp (implicitDefEqProofs:=false) only[SP,SA,SQ,sevalprocAttr,-List.reduceReplicate,roundL,roundA,b_leadtrailref13_Same_l1,e1,ls,eq_true hq,t1,hV,iaddrA',envS]
include hib hW hWL hw
theorem same_in (k:Nat) (hk:k < a.length) (hkb:k < b.length):
 (a[k]=b[k]→roundL call [2,3,5,6] b_leadtrailref13_Same_l1 0 ⟨envS (.lit 1 av) (.lit 1 bs) i k,[]⟩=some (.norm,⟨envS (.lit 1 av) (.lit 1 bs) i (k+1:Nat),[]⟩))∧
 (¬ a[k]=b[k]→retIs 4 (.pv (.bool false)) (roundL call [2,3,5,6] b_leadtrailref13_Same_l1 0 ⟨envS (.lit 1 av) (.lit 1 bs) i k,[]⟩)):=by
 have hVl:=hVL.lit (i:=k) (by simpa using hk)
 have hWl:=hWL.lit (i:=k) (by simpa using hkb)
 subst hVl hWl
 have e1:decide ((k:Int) < (a.length:Int))=true:=dec_t (by omega)
 have hq:idxOk (i:Int) av.length:=by unfold idxOk;omega
 have hq2:idxOk (i:Int) bs.length:=by unfold idxOk;omega
 have hq3:idxOk (k:Int) a.length:=by unfold idxOk;omega
 have hq4:idxOk (k:Int) b.length:=by unfold idxOk;omega
 have t1:((i:Int)).toNat=i:=by simp
 have t2:((k:Int)).toNat=k:=by simp
 have t3:=stepWrap hk hw
 have g1:(a.map encE)[k]? =some (.agg [i64 a[k].lo,i64 a[k].hi,i64 a[k].to]):=encE_get hk
 have g2:(b.map encE)[k]? =some (.agg [i64 b[k].lo,i64 b[k].hi,i64 b[k].to]):=encE_get hkb
 have l1:(a.map encE).length=a.length:=by simp
 have l2:(b.map encE).length=b.length:=by simp
 have he:=eqKd_E a[k] b[k]
 generalize a.map encE=vs at *
 generalize b.map encE=ws at *
 generalize a[k]=x at *
 generalize b[k]=y at *
 constructor
 ·intro h
  rw[dec_t h] at he
  simp (implicitDefEqProofs:=false) only[SP,SA,SQ,sevalprocAttr,-List.reduceReplicate,roundL,roundA,b_leadtrailref13_Same_l1,e1,eq_true hq,eq_true hq2,eq_true hq3,eq_true hq4,t1,t2,t3,g1,g2,l1,l2,hV,hW,he,iaddrA',envS,clean,cutEnv,cut_pv,AV.cut,deep_eq]
 ·intro h
  rw[dec_f h] at he
  simp (implicitDefEqProofs:=false) only[SP,SA,SQ,sevalprocAttr,-List.reduceReplicate,roundL,roundA,b_leadtrailref13_Same_l1,e1,eq_true hq,eq_true hq2,eq_true hq3,eq_true hq4,t1,t2,t3,g1,g2,l1,l2,hV,hW,he,iaddrA',envS,retIs_ret]
theorem same_inner (hab:a.length=b.length):∃ ex t,loopA (roundA (evalC call b_leadtrailref13_Same_l1) (clean 0 [2,3,5,6])) rounds ⟨envS (.lit 1 av) (.lit 1 bs) i 0,[]⟩=some (ex,t)∧ex.stop=true∧
 ((same1 a b=true∧ex= .exit 2∧t=⟨((((((((envS (.lit 1 av) (.lit 1 bs) i a.length).set 34 (.pv (i64 a.length))).set 35 (.pv (.rp [.lit 1 av] 0))).set 36 (.pv (.lit 1 av))).set 37 (.pv (i64 i))).set 38 (.pv (.rp [V] 0))).set 39 (.pv V)).set 40 (.pv (i64 a.length))).set 41 (.pv (.bool false)),[]⟩)∨
  (same1 a b=false∧ex= .ret∧t.env.get 4= .pv (.bool false))):=by
 have key:=loop_acc (g:=roundL call [2,3,5,6] b_leadtrailref13_Same_l1 0)
  (fun k (_:Unit)=>⟨envS (.lit 1 av) (.lit 1 bs) i k,[]⟩) (fun k _=>same1 (a.drop k) (b.drop k)) (fun _ _=>True)
  (fun r ex t=>(r=true∧ex= .exit 2∧t=⟨((((((((envS (.lit 1 av) (.lit 1 bs) i a.length).set 34 (.pv (i64 a.length))).set 35 (.pv (.rp [.lit 1 av] 0))).set 36 (.pv (.lit 1 av))).set 37 (.pv (i64 i))).set 38 (.pv (.rp [V] 0))).set 39 (.pv V)).set 40 (.pv (i64 a.length))).set 41 (.pv (.bool false)),[]⟩)∨
   (r=false∧ex= .ret∧t.env.get 4= .pv (.bool false)))
  a.length (by unfold rounds;unfold maxLen at hw;omega) () trivial ?_ ?_
 ·exact key
 ·rintro k hk _ _
  obtain⟨r1,r2⟩:=same_in call av bs i a b V W hia hib hV hW hVL hWL hw k hk (by omega)
  have hd1:a.drop k=a[k]::a.drop (k+1):=List.drop_eq_getElem_cons hk
  have hd2:b.drop k=b[k]::b.drop (k+1):=List.drop_eq_getElem_cons (by omega)
  simp only[hd1,hd2,same1]
  by_cases h:a[k]=b[k]
  ·rw[dec_t h,Bool.true_and]
   exact .inl ⟨(),r1 h,rfl,trivial⟩
  ·obtain⟨t,k1,k2⟩:=retIs_spec (r2 h)
   rw[dec_f h,Bool.false_and]
   exact .inr ⟨.ret,t,k1,rfl,.inr ⟨rfl,rfl,k2⟩⟩
 ·rintro _ _
  rw[List.drop_length]
  refine⟨.exit 2,_,same_end call av bs i a V hia hV hVL,rfl,.inl ⟨by cases b.drop a.length <;> rfl,rfl,rfl⟩⟩
end
end Go.AM.B1
namespace Go.AM.B1
open Go.AM
section
variable (A B:PV) (l m:List (List Edg)) (hA:HeldSt A l) (hB:HeldSt B m)
include hA hB
theorem same_round (call:CallF) (i:Nat) (hi:i < l.length) (him:i < m.length):
 (l[i].length=m[i].length→same1 l[i] m[i]=true→roundL call [2,3,5] b_leadtrailref13_Same_l0 0 ⟨envStp0 A B i,[]⟩=some (.norm,⟨envStp0 A B (i+1:Nat),[]⟩))∧
 (l[i].length=m[i].length→same1 l[i] m[i]=false→retIs 4 (.pv (.bool false)) (roundL call [2,3,5] b_leadtrailref13_Same_l0 0 ⟨envStp0 A B i,[]⟩))∧
 (¬ l[i].length=m[i].length→retIs 4 (.pv (.bool false)) (roundL call [2,3,5] b_leadtrailref13_Same_l0 0 ⟨envStp0 A B i,[]⟩)):=by
 obtain⟨av,V,rfl,hel,hV,hVL⟩:=hA.get hi
 obtain⟨bv,W,rfl,hel2,hW,hWL⟩:=hB.get him
 have hll:=hA.len
 have hla:=hA.lens l[i] (List.getElem_mem hi)
 generalize l[i]=a at *
 generalize m[i]=b at *
 have e1:decide ((i:Int) < (l.length:Int))=true:=dec_t (by omega)
 have hq:idxOk (i:Int) l.length:=by unfold idxOk;omega
 have hq2:idxOk (i:Int) m.length:=by unfold idxOk;omega
 have t1:((i:Int)).toNat=i:=by simp
 have t3:=stepWrap hi (by unfold maxLen;omega)
 have ls:=hVL.len
 have ls2:=hWL.len
 simp only[List.length_map] at ls ls2
 refine⟨?_,?_,?_⟩
 ·intro h1 h2
  have b1:((a.length:Int)==(b.length:Int))=true:=by simp[h1]
  obtain⟨ex,t,hl,_,hq5⟩:=same_inner call av bv i a b V W (by omega) (by omega) hV hW hVL hWL (by unfold maxLen;omega) h1
  simp only[envS] at hl
  rcases hq5 with⟨_,rfl,rfl⟩ | ⟨h3,_,_⟩
  ·rcases hVL.form with rfl | ⟨vs,rfl⟩ <;> rcases hWL.form with rfl | ⟨ws,rfl⟩ <;>
   ·simp (implicitDefEqProofs:=false) only[SP,SA,SQ,sevalprocAttr,-List.reduceReplicate,roundL,roundA,b_leadtrailref13_Same_l0,e1,hel,hel2,eq_true hq,eq_true hq2,t1,hV,hW,ls,ls2,bne,b1,iaddrA',C_loop,envStp0,clean,cutEnv,cut_pv,AV.cut,deep_eq]
    rw[hl]
    simp (implicitDefEqProofs:=false) only[SP,SA,SQ,sevalprocAttr,-List.reduceReplicate,t3,envS,clean,cutEnv,cut_pv,AV.cut,deep_eq]
  ·rw[h2] at h3;cases h3
 ·intro h1 h2
  have b1:((a.length:Int)==(b.length:Int))=true:=by simp[h1]
  obtain⟨ex,t,hl,_,hq5⟩:=same_inner call av bv i a b V W (by omega) (by omega) hV hW hVL hWL (by unfold maxLen;omega) h1
  simp only[envS] at hl
  rcases hq5 with⟨h3,_,_⟩ | ⟨_,rfl,h4⟩
  ·rw[h2] at h3;cases h3
  ·rcases hVL.form with rfl | ⟨vs,rfl⟩ <;> rcases hWL.form with rfl | ⟨ws,rfl⟩ <;>
   ·simp (implicitDefEqProofs:=false) only[SP,SA,SQ,sevalprocAttr,-List.reduceReplicate,roundL,roundA,b_leadtrailref13_Same_l0,e1,hel,hel2,eq_true hq,eq_true hq2,t1,hV,hW,ls,ls2,bne,b1,iaddrA',C_loop,envStp0,clean,cutEnv,cut_pv,AV.cut,deep_eq]
    rw[hl]
    simp (implicitDefEqProofs:=false) only[SP,SA,SQ,sevalprocAttr,-List.reduceReplicate,retIs_ret,h4]
 ·intro h1
  have b1:((a.length:Int)==(b.length:Int))=false:=beq_ne (by omega)
  have hne:¬(V= .nils∧W= .nils):=by
   rintro⟨rfl,rfl⟩
   have k1:=ls []
   have k2:=ls2 []
   simp only[lenA_nils,Option.some.injEq] at k1 k2
   omega
  rcases hVL.form with rfl | ⟨vs,rfl⟩ <;> rcases hWL.form with rfl | ⟨ws,rfl⟩ <;>
  first
  |exact absurd ⟨rfl,rfl⟩ hne
  |simp (implicitDefEqProofs:=false) only[SP,SA,SQ,sevalprocAttr,-List.reduceReplicate,roundL,roundA,b_leadtrailref13_Same_l0,e1,hel,hel2,eq_true hq,eq_true hq2,t1,hV,hW,ls,ls2,bne,b1,iaddrA',envStp0,retIs_ret]
theorem same13_run:F_leadtrailref13_Same [.agg [A],.agg [B]]=some (.bool (decide (l=m))):=by
 have hla:=hA.lenA
 have hlb:=hB.lenA
 have hll:=hA.len
 by_cases hlm:l.length=m.length
 ·rw[← same2_eq l m hlm]
  have key:=loop_acc (g:=roundL (callL (fun _=>none) 8) [2,3,5] b_leadtrailref13_Same_l0 0)
   (fun i (_:Unit)=>⟨envStp0 A B i,[]⟩) (fun i _=>same2 (l.drop i) (m.drop i)) (fun _ _=>True)
   (fun r ex t=>(r=true∧ex= .exit 0)∨(r=false∧ex= .ret∧t.env.get 4= .pv (.bool false)))
   l.length (by unfold rounds;omega) () trivial ?_ ?_
  ·obtain⟨ex,⟨E,H⟩,h,_,hq⟩:=key
   have h':loopA (roundA (evalC (callL (fun _=>none) 8) b_leadtrailref13_Same_l0) (clean 0 [2,3,5])) rounds ⟨envStp0 A B 0,[]⟩=some (ex,⟨E,H⟩):=h
   simp only[envStp0] at h'
   rw[List.drop_zero,List.drop_zero] at hq
   generalize same2 l m=r at *
   have b1:((l.length:Int)==(m.length:Int))=true:=by simp[hlm]
   rcases hq with⟨rfl,rfl⟩ | ⟨rfl,rfl,g⟩
   ·rcases hA.form with rfl | ⟨av,rfl⟩ <;> rcases hB.form with rfl | ⟨bv,rfl⟩ <;>
    ·simp (implicitDefEqProofs:=false) only[F_leadtrailref13_Same,SP,SA,SQ,sevalprocAttr,-List.reduceReplicate,b_leadtrailref13_Same,hla,hlb,bne,b1,C_loop,clean,cutEnv,cut_pv,AV.cut,deep_eq]
     rw[h']
     simp (implicitDefEqProofs:=false) only[SP,SA,SQ,sevalprocAttr,-List.reduceReplicate]
   ·simp only at g
    rcases hA.form with rfl | ⟨av,rfl⟩ <;> rcases hB.form with rfl | ⟨bv,rfl⟩ <;>
    ·simp (implicitDefEqProofs:=false) only[F_leadtrailref13_Same,SP,SA,SQ,sevalprocAttr,-List.reduceReplicate,b_leadtrailref13_Same,hla,hlb,bne,b1,C_loop,clean,cutEnv,cut_pv,AV.cut,deep_eq]
     rw[h']
     simp (implicitDefEqProofs:=false) only[SP,SA,SQ,sevalprocAttr,-List.reduceReplicate,g]
  ·rintro i hi _ _
   obtain⟨r1,r2,r3⟩:=same_round A B l m hA hB (callL (fun _=>none) 8) i hi (by omega)
   have hd1:l.drop i=l[i]::l.drop (i+1):=List.drop_eq_getElem_cons hi
   have hd2:m.drop i=m[i]::m.drop (i+1):=List.drop_eq_getElem_cons (by omega)
   simp only[hd1,hd2,same2]
   by_cases h1:l[i].length=m[i].length
   ·rw[dec_t h1,Bool.true_and]
    cases h2:same1 l[i] m[i] with
    |true=>exact .inl ⟨(),r1 h1 h2,rfl,trivial⟩
    |false=>
     obtain⟨t,k1,k2⟩:=retIs_spec (r2 h1 h2)
     exact .inr ⟨.ret,t,k1,rfl,.inr ⟨rfl,rfl,k2⟩⟩
   ·obtain⟨t,k1,k2⟩:=retIs_spec (r3 h1)
    rw[dec_f h1,Bool.false_and,Bool.false_and]
    exact .inr ⟨.ret,t,k1,rfl,.inr ⟨rfl,rfl,k2⟩⟩
  ·rintro _ _
   rw[List.drop_length]
   have e1:decide ((l.length:Int) < (l.length:Int))=false:=dec_f (by omega)
   have e2:same2 [] (m.drop l.length)=true:=by cases m.drop l.length <;> rfl
   refine⟨.exit 0,⟨(((((envStp0 A B l.length).set 14 (.pv (i64 l.length))).set 15 (.pv (.rp [A] 0))).set 16 (.pv A)).set 17 (.pv (i64 l.length))).set 18 (.pv (.bool false)),[]⟩,?_,rfl,.inl ⟨e2,rfl⟩⟩
   simp (implicitDefEqProofs:=false) only[SP,SA,SQ,sevalprocAttr,-List.reduceReplicate,roundL,roundA,b_leadtrailref13_Same_l0,e1,hla,envStp0]
 ·have:l≠m:=fun e=>hlm (by rw[e])
  rw[dec_f this]
  have b1:((l.length:Int)==(m.length:Int))=false:=beq_ne (by omega)
  have hne:¬(A= .nils∧B= .nils):=by
   rintro⟨rfl,rfl⟩
   have k1:=hla []
   have k2:=hlb []
   simp only[lenA_nils,Option.some.injEq] at k1 k2
   omega
  rcases hA.form with rfl | ⟨av,rfl⟩ <;> rcases hB.form with rfl | ⟨bv,rfl⟩ <;>
  first
  |exact absurd ⟨rfl,rfl⟩ hne
  |simp (implicitDefEqProofs:=false) only[F_leadtrailref13_Same,SP,SA,SQ,sevalprocAttr,-List.reduceReplicate,b_leadtrailref13_Same,hla,hlb,bne,b1,deep_eq]
end
end Go.AM.B1
namespace Go.AM.B1
open Go.AM Go.AM.So
theorem edgesGo_len (row:List Int):∀ (xs:List Nat) (l:List Edg),(edgesGo row xs l).length≤l.length+xs.length
 | [],l=>by simp[edgesGo]
 |x::xs,l=>by
  rw[edgesGo]
  have h1:=edgesGo_len row xs (edgeR x (row.getD x 0) l)
  have h2:=edgeR_len x (row.getD x 0) l
  simp only[List.length_cons];omega
theorem edgesS_len (row:List Int):(edgesS row).length≤256:=by
 have:=edgesGo_len row (List.range 256) []
 simpa[edgesS] using this
theorem toldGo_len (C:List Int):∀ (k:Nat) (r:List Int×List (List Edg)),(toldGo C k r).2.length≤r.2.length+k∧∀ e∈(toldGo C k r).2,e∈r.2∨e.length≤256
 |0,r=>⟨by simp[toldGo],fun e he=> .inl he⟩
 |k+1,r=>by
  cases ho:r.1[r.2.length]? with
  |none=>rw[toldGo_end ho];exact⟨by omega,fun e he=> .inl he⟩
  |some o=>
   rw[toldGo_some ho]
   obtain⟨h1,h2⟩:=toldGo_len C k ((toldOne C o r.1).1,r.2++[edgesS (toldOne C o r.1).2])
   simp only[List.length_append,List.length_singleton] at h1
   refine⟨by omega,fun e he=> ?_⟩
   rcases h2 e he with h3 | h3
   ·simp only[List.mem_append,List.mem_singleton] at h3
    rcases h3 with h3 | h3
    ·exact .inl h3
    ·refine .inr ?_;rw[h3];exact edgesS_len _
   ·exact .inr h3
theorem toldK_len (C:List Int) (k:Nat) (o:List Int):(toldGo C k (o,[])).2.length≤k∧∀ e∈(toldGo C k (o,[])).2,e.length≤256:=by
 have h:=toldGo_len C k (o,[])
 generalize toldGo C k (o,[])=r at h ⊢
 refine⟨by simpa using h.1,fun e he=> ?_⟩
 rcases h.2 e he with h | h
 ·cases h
 ·exact h
set_option maxRecDepth 8000 in
theorem toldS_len (C:List Int):(toldS C).length≤64∧∀ e∈toldS C,e.length≤256:=toldK_len C 64 [0]
theorem autoS_len {ss:List Shp} {l:List (List Edg)} (h:autoS ss=some l):l.length≤64∧∀ e∈l,e.length≤256:=by
 unfold autoS at h
 rw[Option.map_eq_some_iff] at h
 obtain⟨r,_,rfl⟩:=h
 exact toldS_len _
theorem encEs_is (e:List Edg):IsL 3 (encEs e) (e.map encE):=by
 unfold encEs
 cases e with
 |nil=>exact .inl ⟨rfl,rfl⟩
 |cons a r=>exact .inr rfl
theorem encSt_held {l:List (List Edg)} (h1:l.length≤64) (h2:∀ e∈l,e.length≤256):HeldSt (encSt l) l:=by
 refine⟨⟨l.map encEs,.inr rfl,by simp,?_⟩,by omega,fun e he=>by have:=h2 e he;omega⟩
 intro i v e hv he
 rw[List.getElem?_map,he] at hv
 simp at hv;subst hv
 exact encEs_is e
theorem nils_held:HeldSt .nils []:=⟨⟨[],.inl ⟨rfl,rfl⟩,rfl,by simp⟩,by simp,by simp⟩
theorem prog_build (ss:List Shp):∃ (V:PV) (l:List (List Edg)) (n:Int),HeldSt V l∧(n=0↔∃ l',autoS ss=some l'∧SchOk ss∧PreOk ss∧V=encSt l'∧l=l')∧(n≠0→V= .nils)∧
 (∀ (A:PV) (ea:List PV),HeldSch A ss ea→F_auto_Build [.agg [A]]=some (.tup [.agg [V],i64 n])):=by
 by_cases h1:SchOk ss
 ·by_cases h2:PreOk ss
  ·cases h3:autoS ss with
   |none=>exact⟨.nils,[],130,nils_held,⟨fun h=>(by cases h),fun ⟨_,h,_⟩=>(by cases h)⟩,fun _=>rfl,fun A ea h=>(build_run h).2.2.1 h1 h2 h3⟩
   |some l=>
    obtain⟨k1,k2⟩:=autoS_len h3
    exact⟨encSt l,l,0,encSt_held k1 k2,⟨fun _=>⟨l,rfl,h1,h2,rfl,rfl⟩,fun _=>rfl⟩,fun h=>absurd rfl h,fun A ea h=>(build_run h).2.2.2 h1 h2 l h3⟩
  ·exact⟨.nils,[],110,nils_held,⟨fun h=>(by cases h),fun ⟨_,_,_,h,_⟩=>absurd h h2⟩,fun _=>rfl,fun A ea h=>(build_run h).2.1 h1 h2⟩
 ·exact⟨.nils,[],84,nils_held,⟨fun h=>(by cases h),fun ⟨_,_,h,_⟩=>absurd h h1⟩,fun _=>rfl,fun A ea h=>(build_run h).1 h1⟩
end Go.AM.B1
namespace Go.AM.B1
open Go.AM
theorem stepEd_app (b:Int):∀ (l m:List Edg),stepEd b (l++m)=(stepEd b l).or (stepEd b m)
 | [],m=>by simp[stepEd]
 |e::l,m=>by
  rw[List.cons_append,stepEd,stepEd]
  split
  ·rfl
  ·exact stepEd_app b l m
theorem stepEd_none {b:Int}:∀ {l:List Edg},(∀ e∈l,e.hi < b)→stepEd b l=none
 | [],_=>rfl
 |e::l,h=>by
  have:=h e (by simp)
  rw[stepEd,if_neg (by omega)]
  exact stepEd_none fun x hx=>h x (by simp[hx])
theorem stepEd_mem {b:Int}:∀ {l:List Edg},l.Pairwise (fun a c=>a.hi < c.lo)→∀ e∈l,e.lo≤b→b≤e.hi→stepEd b l=some e.to
 |a::l,h,e,he,h1,h2=>by
  rw[List.pairwise_cons] at h
  rw[stepEd]
  rcases List.mem_cons.1 he with rfl | he
  ·rw[if_pos ⟨h1,h2⟩]
  ·have:=h.1 e he
   rw[if_neg (by omega)]
   exact stepEd_mem h.2 e he h1 h2
structure EInv (row:List Int) (n:Nat) (l:List Edg):Prop where
 rng:∀ e∈l,0≤e.lo∧e.lo≤e.hi∧e.hi < n∧e.to≠ -2
 ord:l.Pairwise (fun a b=>a.hi < b.lo)
 tight:∀ (k:Nat) a b,l[k]? =some a→l[k+1]? =some b→b.lo=a.hi+1→b.to≠a.to
 step:∀ x:Nat,x < n→stepEd x l=if row.getD x 0= -2 then none else some (row.getD x 0)
theorem last_snoc {l:List Edg} {e:Edg} (h:l.getLast? =some e):∃ m,l=m++[e]:=by
 have hne:l≠[]:=by rintro rfl;simp at h
 rw[List.getLast?_eq_some_getLast hne] at h
 exact⟨l.dropLast,by rw[← Option.some.inj h];exact (List.dropLast_concat_getLast hne).symm⟩
theorem snoc_get {α:Type} {m:List α} {e a b:α} {k:Nat} (h1:(m++[e])[k]? =some a) (h2:(m++[e])[k+1]? =some b):m[k]? =some a∧((m[k+1]? =some b)∨(k+1=m.length∧b=e)):=by
 have hk:k+1 < (m++[e]).length:=(List.getElem?_eq_some_iff.1 h2).1
 simp at hk
 rw[List.getElem?_append_left (by omega)] at h1
 refine⟨h1,?_⟩
 rcases Nat.lt_or_ge (k+1) m.length with h | h
 ·rw[List.getElem?_append_left h] at h2;exact .inl h2
 ·have:k+1=m.length:=by omega
  rw[List.getElem?_append_right h,this] at h2
  simp at h2
  exact .inr ⟨this,h2.symm⟩
theorem EInv.push {row:List Int} {n:Nat} {l:List Edg} (h:EInv row n l) {to:Int} (ht:row.getD n 0=to) (h2:to≠ -2) (hl:∀ e,l.getLast? =some e→¬(e.to=to∧e.hi=(n:Int) - 1)):EInv row (n+1) (l++[⟨n,n,to⟩]):=by
 refine⟨?_,?_,?_,?_⟩
 ·intro e he
  rcases List.mem_append.1 he with he | he
  ·have:=h.rng e he;exact⟨this.1,this.2.1,by omega,this.2.2.2⟩
  ·simp at he;subst he;simp;exact⟨by omega,h2⟩
 ·rw[List.pairwise_append]
  refine⟨h.ord,by simp,?_⟩
  intro a ha b hb
  simp at hb;subst hb
  have:=h.rng a ha;simp;omega
 ·intro k a b h1 h3 h4
  obtain⟨h5,h6 | ⟨h6,rfl⟩⟩:=snoc_get h1 h3
  ·exact h.tight k a b h5 h6 h4
  ·have hla:l.getLast? =some a:=by rw[List.getLast?_eq_getElem?,←h5];congr 1;omega
   intro h7
   simp only at h4 h7
   exact hl a hla ⟨h7.symm,by omega⟩
 ·intro x hx
  rw[stepEd_app]
  rcases Nat.lt_or_ge x n with hxn | hxn
  ·rw[h.step x hxn]
   split
   ·simp only[Option.none_or,stepEd];rw[if_neg (by omega)]
   ·rfl
  ·have:x=n:=by omega
   subst this
   rw[stepEd_none fun e he=>by have:=h.rng e he;omega,Option.none_or,stepEd,if_pos (by simp),ht,if_neg h2]
theorem EInv.next {row:List Int} {n:Nat} {l:List Edg} (h:EInv row n l):EInv row (n+1) (edgeR n (row.getD n 0) l):=by
 obtain⟨to,ht⟩:∃ to,row.getD n 0=to:=⟨_,rfl⟩
 rw[ht]
 unfold edgeR
 by_cases h2:to= -2
 ·rw[if_pos h2]
  refine⟨fun e he=>by have:=h.rng e he;exact⟨this.1,this.2.1,by omega,this.2.2.2⟩,h.ord,h.tight,?_⟩
  intro x hx
  rcases Nat.lt_or_ge x n with hxn | hxn
  ·exact h.step x hxn
  ·have:x=n:=by omega
   subst this
   rw[stepEd_none fun e he=>by have:=h.rng e he;omega,ht,if_pos h2]
 ·rw[if_neg h2]
  cases hl:l.getLast? with
  |none=>exact h.push ht h2 fun e he=>by rw[hl] at he;cases he
  |some e=>
   by_cases hc:e.to=to∧e.hi=(n:Int) - 1
   ·simp only[hc,and_self,if_true]
    obtain⟨m,rfl⟩:=last_snoc hl
    rw[List.dropLast_concat]
    have hr:=h.rng e (by simp)
    have ho:=List.pairwise_append.1 h.ord
    have hlt:∀ a∈m,a.hi < e.lo:=fun a ha=>ho.2.2 a ha e (by simp)
    refine⟨?_,?_,?_,?_⟩
    ·intro x hx
     rcases List.mem_append.1 hx with hx | hx
     ·have:=h.rng x (by simp[hx]);exact⟨this.1,this.2.1,by omega,this.2.2.2⟩
     ·simp at hx;subst hx;simp only;exact⟨hr.1,by omega,by omega,h2⟩
    ·rw[List.pairwise_append]
     refine⟨ho.1,by simp,?_⟩
     intro a ha b hb
     simp at hb;subst hb
     exact hlt a ha
    ·intro k a b h1 h3 h4
     obtain⟨h5,h6 | ⟨h6,rfl⟩⟩:=snoc_get h1 h3
     ·have hk1:=(List.getElem?_eq_some_iff.1 h6).1
      exact h.tight k a b (by rw[List.getElem?_append_left (by omega)];exact h5) (by rw[List.getElem?_append_left hk1];exact h6) h4
     ·have:=h.tight k a e (by rw[List.getElem?_append_left (by omega)];exact h5) (by rw[List.getElem?_append_right (by omega),h6];simp) h4
      rw[hc.1] at this;exact this
    ·intro x hx
     rw[stepEd_app]
     rcases Nat.lt_or_ge x n with hxn | hxn
     ·rw[← h.step x hxn,stepEd_app]
      congr 1
      simp only[stepEd,hc.1]
      by_cases h3:e.lo≤(x:Int)
      ·rw[if_pos ⟨h3,by omega⟩,if_pos ⟨h3,by omega⟩]
      ·rw[if_neg fun q=>h3 q.1,if_neg fun q=>h3 q.1]
     ·have:x=n:=by omega
      subst this
      rw[stepEd_none fun a ha=>by have:=hlt a ha;omega,Option.none_or,stepEd]
      simp only
      rw[if_pos ⟨by omega,Int.le_refl _⟩,ht,if_neg h2]
   ·simp only[hc,if_false]
    exact h.push ht h2 fun e' he'=>by rw[hl] at he';injection he' with he';subst he';exact hc
theorem edgesGo_app (row:List Int):∀ (xs ys:List Nat) (l:List Edg),edgesGo row (xs++ys) l=edgesGo row ys (edgesGo row xs l)
 | [],ys,l=>rfl
 |x::xs,ys,l=>by rw[List.cons_append,edgesGo,edgesGo,edgesGo_app row xs]
theorem edges_pre (row:List Int):∀ n:Nat,EInv row n (edgesGo row (List.range n) [])
 |0=>⟨by simp[edgesGo],by simp[edgesGo],by simp[edgesGo],by omega⟩
 |n+1=>by
  rw[List.range_succ,edgesGo_app]
  exact (edges_pre row n).next
theorem edges_inv (row:List Int):EInv row 256 (edgesS row):=edges_pre row 256
def metE (m:Int) (l:List Edg):Int:=l.foldl (fun m e=>if e.to=m then m+1 else m) m
theorem metE_snoc (m:Int) (l:List Edg) (e:Edg):metE m (l++[e])=if e.to=metE m l then metE m l+1 else metE m l:=by
 unfold metE;rw[List.foldl_append];rfl
def MetOk:Int→List Edg→Prop
 |_,[]=>True
 |m,e::l=>e.to≤m∧MetOk (if e.to=m then m+1 else m) l
theorem metOk_snoc:∀ {m:Int} {l:List Edg} {e:Edg},MetOk m (l++[e])↔MetOk m l∧e.to≤metE m l
 |m,[],e=>by simp[MetOk,metE]
 |m,a::l,e=>by
  show (a.to≤m∧MetOk _ (l++[e]))↔_
  rw[metOk_snoc];exact and_assoc.symm
theorem edges_met {row:List Int} {g:Nat→Int} (h0:∀ x,0≤g x):∀ n:Nat,(∀ x,x < n→row.getD x 0≤g x)→(∀ x,x < n→g (x+1)=if row.getD x 0=g x then g x+1 else g x)→
 metE (g 0) (edgesGo row (List.range n) [])=g n∧MetOk (g 0) (edgesGo row (List.range n) [])∧(∀ e∈edgesGo row (List.range n) [],e.to < g n)
 |0,_,_=>⟨rfl,trivial,by simp[edgesGo]⟩
 |n+1,h1,h2=>by
  obtain⟨i1,i2,i3⟩:=edges_met h0 n (fun x hx=>h1 x (by omega)) (fun x hx=>h2 x (by omega))
  have hn:=h1 n (by omega)
  have hg:=h2 n (by omega)
  rw[List.range_succ,edgesGo_app]
  generalize edgesGo row (List.range n) []=l at *
  show metE (g 0) (edgeR n (row.getD n 0) l)=_∧MetOk (g 0) (edgeR n (row.getD n 0) l)∧∀ e∈edgeR n (row.getD n 0) l,_
  generalize row.getD n 0=to at *
  have hpush:metE (g 0) (l++[⟨n,n,to⟩])=g (n+1)∧MetOk (g 0) (l++[⟨n,n,to⟩])∧(∀ e∈l++[⟨n,n,to⟩],e.to < g (n+1)):=by
   refine⟨by rw[metE_snoc,i1,hg],metOk_snoc.2 ⟨i2,by rw[i1];exact hn⟩,?_⟩
   intro e he
   rcases List.mem_append.1 he with he | he
   ·have:=i3 e he;rw[hg];split <;> omega
   ·simp at he;subst he;simp only;rw[hg];split <;> omega
  unfold edgeR
  by_cases h3:to= -2
  ·have:=h0 n
   rw[if_pos h3,hg,if_neg (by omega)]
   exact⟨i1,i2,i3⟩
  ·rw[if_neg h3]
   cases hl:l.getLast? with
   |none=>exact hpush
   |some e=>
    simp only
    split
    ·next hc=>
     obtain⟨m,rfl⟩:=last_snoc hl
     have h4:=i3 e (by simp)
     rw[List.dropLast_concat,hg,if_neg (by omega)]
     rw[metE_snoc] at i1
     rw[metOk_snoc] at i2
     refine⟨by rw[metE_snoc];exact i1,metOk_snoc.2 i2,?_⟩
     intro x hx
     rcases List.mem_append.1 hx with hx | hx
     ·exact i3 x (by simp[hx])
     ·simp at hx;subst hx;exact h4
    ·exact hpush
end Go.AM.B1
namespace Go.AM.B1
open Go.AM
theorem toldIn_app (row0:List Int):∀ (xs ys:List Nat) (r:List Int×List Int),toldIn row0 (xs++ys) r=toldIn row0 ys (toldIn row0 xs r)
 | [],ys,r=>rfl
 |x::xs,ys,r=>by rw[List.cons_append,toldIn,toldIn,toldIn_app row0 xs]
theorem idxO_some {a:Int}:∀ {l:List Int} {k i:Nat},idxO a l k=some i→k≤i∧l[i - k]? =some a
 | [],_,_,h=>by cases h
 |b::l,k,i,h=>by
  simp only[idxO] at h
  split at h
  ·next he=>injection h with h;subst h he;simp
  ·obtain⟨h1,h2⟩:=idxO_some h
   refine⟨by omega,?_⟩
   have:i - k=(i - (k+1))+1:=by omega
   rw[this,List.getElem?_cons_succ];exact h2
structure TIn (row0 O:List Int) (n:Nat) (r:List Int×List Int):Prop where
 len:r.2.length=row0.length
 hi:∀ x,n≤x→r.2.getD x 0=row0.getD x 0
 ext:∃ t,r.1=O++t∧∀ o∈t,0≤o∧∃ x,x < n∧row0.getD x 0=o
 nodup:r.1.Nodup
 val:∀ x,x < n→(row0.getD x 0 < 0→r.2.getD x 0=row0.getD x 0)∧(0≤row0.getD x 0→∃ k:Nat,r.2.getD x 0=(k:Int)∧r.1[k]? =some (row0.getD x 0))
theorem getD_set {l:List Int} {x y:Nat} {v:Int} (hx:x < l.length):(l.set x v).getD y 0=if y=x then v else l.getD y 0:=by
 rw[List.getD_eq_getElem?_getD,List.getD_eq_getElem?_getD]
 by_cases h:y=x
 ·subst h;rw[List.getElem?_set_self hx,if_pos rfl];rfl
 ·rw[List.getElem?_set_ne (Ne.symm h),if_neg h]
theorem TIn.next {row0 O:List Int} {n:Nat} {r:List Int×List Int} (h:TIn row0 O n r) (hn:n < row0.length):
 TIn row0 O (n+1) (toldX n (row0.getD n 0) r)∧(toldX n (row0.getD n 0) r).2.getD n 0≤r.1.length∧
 (((toldX n (row0.getD n 0) r).1.length:Int)=if (toldX n (row0.getD n 0) r).2.getD n 0=r.1.length then (r.1.length:Int)+1 else r.1.length)∧
 (∀ x,x < n→(toldX n (row0.getD n 0) r).2.getD x 0=r.2.getD x 0):=by
 obtain⟨t,ht,hts⟩:=h.ext
 have hl:n < r.2.length:=by rw[h.len];exact hn
 have hne:∀ x,x < n→x≠n:=fun x hx=>by omega
 unfold toldX
 by_cases h0:row0.getD n 0 < 0
 ·rw[if_pos h0]
  have hv:=h.hi n (Nat.le_refl _)
  refine⟨⟨h.len,fun x hx=>h.hi x (by omega),⟨t,ht,fun o ho=>⟨(hts o ho).1,by obtain⟨x,hx,e⟩:=(hts o ho).2;exact⟨x,by omega,e⟩⟩⟩,h.nodup,?_⟩,by rw[hv];omega,by rw[hv,if_neg (by omega)],fun x hx=>rfl⟩
  intro x hx
  rcases Nat.lt_or_ge x n with h1 | h1
  ·exact h.val x h1
  ·have:x=n:=by omega
   subst this;exact⟨fun _=>hv,fun h2=>by omega⟩
 ·rw[if_neg h0]
  cases hi:idxO (row0.getD n 0) r.1 0 with
  |some k=>
   have hk:=(idxO_some hi).2
   rw[Nat.sub_zero] at hk
   have hkl:=(List.getElem?_eq_some_iff.1 hk).1
   simp only
   refine⟨⟨by rw[List.length_set,h.len],?_,⟨t,ht,fun o ho=>⟨(hts o ho).1,by obtain⟨x,hx,e⟩:=(hts o ho).2;exact⟨x,by omega,e⟩⟩⟩,h.nodup,?_⟩,?_,?_,?_⟩
   ·intro x hx;rw[getD_set hl,if_neg (by omega)];exact h.hi x (by omega)
   ·intro x hx
    rcases Nat.lt_or_ge x n with h1 | h1
    ·rw[getD_set hl,if_neg (by omega)];exact h.val x h1
    ·have:x=n:=by omega
     subst this
     rw[getD_set hl,if_pos rfl]
     exact⟨fun h2=>absurd h2 h0,fun _=>⟨k,rfl,hk⟩⟩
   ·rw[getD_set hl,if_pos rfl];omega
   ·rw[getD_set hl,if_pos rfl,if_neg (by omega)]
   ·intro x hx;rw[getD_set hl,if_neg (by omega)]
  |none=>
   have hnm:=idxO_none hi
   simp only
   refine⟨⟨by rw[List.length_set,h.len],?_,⟨t++[row0.getD n 0],by rw[ht,List.append_assoc],?_⟩,?_,?_⟩,?_,?_,?_⟩
   ·intro x hx;rw[getD_set hl,if_neg (by omega)];exact h.hi x (by omega)
   ·intro o ho
    rcases List.mem_append.1 ho with h1 | h1
    ·exact⟨(hts o h1).1,by obtain⟨x,hx,e⟩:=(hts o h1).2;exact⟨x,by omega,e⟩⟩
    ·simp only[List.mem_singleton] at h1;subst h1;exact⟨by omega,n,by omega,rfl⟩
   ·rw[List.nodup_append]
    refine⟨h.nodup,by simp,fun a ha b hb=> ?_⟩
    simp only[List.mem_singleton] at hb;subst hb;intro e;subst e;exact hnm ha
   ·intro x hx
    rcases Nat.lt_or_ge x n with h1 | h1
    ·rw[getD_set hl,if_neg (by omega)]
     refine⟨(h.val x h1).1,fun h2=> ?_⟩
     obtain⟨k,e1,e2⟩:=(h.val x h1).2 h2
     exact⟨k,e1,by rw[List.getElem?_append_left (List.getElem?_eq_some_iff.1 e2).1];exact e2⟩
    ·have:x=n:=by omega
     subst this
     rw[getD_set hl,if_pos rfl]
     exact⟨fun h2=>absurd h2 h0,fun _=>⟨_,rfl,by simp⟩⟩
   ·rw[getD_set hl,if_pos rfl];omega
   ·rw[getD_set hl,if_pos rfl,if_pos rfl,List.length_append];simp
   ·intro x hx;rw[getD_set hl,if_neg (by omega)]
theorem tIn_go {row0 O:List Int} (hO:O.Nodup):∀ n:Nat,n≤row0.length→TIn row0 O n (toldIn row0 (List.range n) (O,row0))∧
 (∀ x,x < n→(toldIn row0 (List.range n) (O,row0)).2.getD x 0≤((toldIn row0 (List.range x) (O,row0)).1.length:Int)∧
  ((toldIn row0 (List.range (x+1)) (O,row0)).1.length:Int)=if (toldIn row0 (List.range n) (O,row0)).2.getD x 0=((toldIn row0 (List.range x) (O,row0)).1.length:Int) then ((toldIn row0 (List.range x) (O,row0)).1.length:Int)+1 else ((toldIn row0 (List.range x) (O,row0)).1.length:Int))
 |0,_=>⟨⟨rfl,fun x _=>rfl,⟨[],by simp[toldIn]⟩,hO,by omega⟩,by omega⟩
 |n+1,hn=>by
  obtain⟨h1,h2⟩:=tIn_go (row0:=row0) hO n (by omega)
  obtain⟨k1,k2,k3,k4⟩:=h1.next (by omega)
  have e:toldIn row0 (List.range (n+1)) (O,row0)=toldX n (row0.getD n 0) (toldIn row0 (List.range n) (O,row0)):=by rw[List.range_succ,toldIn_app];rfl
  refine⟨by rw[e];exact k1,fun x hx=> ?_⟩
  rcases Nat.lt_or_ge x n with h3 | h3
  ·rw[e,k4 x h3];exact h2 x h3
  ·have:x=n:=by omega
   subst this
   rw[e]
   exact⟨k2,k3⟩
structure RowIs (D:List Int) (O:List Int) (o:Int) (e:List Edg):Prop where
 ex:∃ row,e=edgesS row∧∀ x,x < 256→((rowAt D o.toNat).getD x 0 < 0→row.getD x 0=(rowAt D o.toNat).getD x 0)∧
  (0≤(rowAt D o.toNat).getD x 0→∃ k:Nat,row.getD x 0=(k:Int)∧O[k]? =some ((rowAt D o.toNat).getD x 0))
theorem RowIs.mono {D O:List Int} {o:Int} {e:List Edg} (h:RowIs D O o e) (t:List Int):RowIs D (O++t) o e:=by
 obtain⟨row,h1,h2⟩:=h.ex
 refine⟨row,h1,fun x hx=>⟨(h2 x hx).1,fun h0=> ?_⟩⟩
 obtain⟨k,h3,h4⟩:=(h2 x hx).2 h0
 exact⟨k,h3,by rw[List.getElem?_append_left (List.getElem?_eq_some_iff.1 h4).1];exact h4⟩
def MetsOk:Int→Int→List (List Edg)→Prop
 |_,_,[]=>True
 |m,i,e::l=>i < m∧MetOk m e∧MetsOk (metE m e) (i+1) l
def metS (m:Int) (l:List (List Edg)):Int:=l.foldl metE m
theorem metsOk_snoc:∀ {m i:Int} {l:List (List Edg)} {e:List Edg},MetsOk m i l→i+l.length < metS m l→MetOk (metS m l) e→MetsOk m i (l++[e])
 |m,i,[],e,_,h1,h2=>⟨by simpa[metS] using h1,h2,trivial⟩
 |m,i,a::l,e,h,h1,h2=>⟨h.1,h.2.1,metsOk_snoc h.2.2 (by simp only[List.length_cons] at h1;simp only[metS,List.foldl_cons] at h1;simp only[metS];omega) h2⟩
theorem metS_snoc (m:Int) (l:List (List Edg)) (e:List Edg):metS m (l++[e])=metE (metS m l) e:=by
 unfold metS;rw[List.foldl_append];rfl
structure ToldIs (D:List Int) (n:Nat) (J:Int→Prop) (O:List Int) (l:List (List Edg)):Prop where
 ord:OrdOk n O
 first:O[0]? =some 0
 le:l.length≤O.length
 rows:∀ (k:Nat) o e,O[k]? =some o→l[k]? =some e→RowIs D O o e
 met:metS 1 l=O.length
 mets:MetsOk 1 0 l
 all:∀ o∈O,J o
 tos:∀ e∈l,∀ x∈e,x.to < O.length
section
variable {D:List Int} {n:Nat} {J:Int→Prop} (hD:D.length=n * 256) (cD:∀ c∈D,c < n)
 (hJ:∀ o,J o→0≤o→o < n→∀ x,x < 256→0≤(rowAt D o.toNat).getD x 0→J ((rowAt D o.toNat).getD x 0))
include hD cD hJ
theorem ToldIs.next {O:List Int} {l:List (List Edg)} (h:ToldIs D n J O l) {o:Int} (ho:O[l.length]? =some o):
 ToldIs D n J (toldOne D o O).1 (l++[edgesS (toldOne D o O).2]):=by
 have hoO:=List.mem_of_getElem? ho
 have hb:=h.ord.2 o hoO
 have hlt:=(List.getElem?_eq_some_iff.1 ho).1
 have hrl:(rowAt D o.toNat).length=256:=rowAt_len hD (by omega)
 obtain⟨k1,k2⟩:=tIn_go (row0:=rowAt D o.toNat) h.ord.1 256 (by omega)
 obtain⟨t,ht,hts⟩:=k1.ext
 unfold toldOne
 have hm:=edges_met (row:=(toldIn (rowAt D o.toNat) (List.range 256) (O,rowAt D o.toNat)).2) (g:=fun x=>((toldIn (rowAt D o.toNat) (List.range x) (O,rowAt D o.toNat)).1.length:Int)) (fun x=>by omega) 256 (fun x hx=>(k2 x hx).1) (fun x hx=>(k2 x hx).2)
 generalize hr:toldIn (rowAt D o.toNat) (List.range 256) (O,rowAt D o.toNat)=r at *
 obtain⟨m1,m2,m3⟩:=hm
 have hg0:((toldIn (rowAt D o.toNat) (List.range 0) (O,rowAt D o.toNat)).1.length:Int)=O.length:=rfl
 simp only[hg0] at m1 m2
 have e1:edgesGo r.2 (List.range 256) []=edgesS r.2:=rfl
 rw[e1] at m1 m2 m3
 have hval:RowIs D r.1 o (edgesS r.2):=⟨r.2,rfl,fun x hx=>k1.val x hx⟩
 have hm':=h.met
 have hget:∀ x,x < 256→(rowAt D o.toNat).getD x 0 < n:=by
  intro x hx
  rw[List.getD_eq_getElem?_getD,List.getElem?_eq_getElem (by omega)]
  have:=List.getElem_mem (l:=rowAt D o.toNat) (n:=x) (by omega)
  exact cD _ (by unfold rowAt at this;exact List.mem_of_mem_drop (List.mem_of_mem_take this))
 refine⟨⟨k1.nodup,?_⟩,?_,?_,?_,?_,?_,?_,?_⟩
 ·intro o' ho'
  rw[ht] at ho'
  rcases List.mem_append.1 ho' with h1 | h1
  ·exact h.ord.2 o' h1
  ·obtain⟨h2,x,hx,rfl⟩:=hts o' h1;exact⟨h2,hget x hx⟩
 ·rw[ht,List.getElem?_append_left (by omega)];exact h.first
 ·rw[ht];simp;omega
 ·intro k o' e h1 h2
  rcases Nat.lt_or_ge k l.length with h3 | h3
  ·rw[List.getElem?_append_left h3] at h2
   rw[ht,List.getElem?_append_left (by omega)] at h1
   rw[ht];exact (h.rows k o' e h1 h2).mono t
  ·have h4:=(List.getElem?_eq_some_iff.1 h2).1
   have:k=l.length:=by simp at h4;omega
   subst this
   rw[List.getElem?_append_right (Nat.le_refl _)] at h2
   simp at h2;subst h2
   rw[ht,List.getElem?_append_left (by omega),ho] at h1
   injection h1 with h1;subst h1;exact hval
 ·rw[metS_snoc,hm',m1]
 ·exact metsOk_snoc h.mets (by rw[hm'];omega) (by rw[hm'];exact m2)
 ·intro o' ho'
  rw[ht] at ho'
  rcases List.mem_append.1 ho' with h1 | h1
  ·exact h.all o' h1
  ·obtain⟨h2,x,hx,rfl⟩:=hts o' h1;exact hJ o (h.all o hoO) hb.1 hb.2 x hx h2
 ·intro e he x hx
  rcases List.mem_append.1 he with h1 | h1
  ·have:=h.tos e h1 x hx;rw[ht,List.length_append];omega
  ·simp only[List.mem_singleton] at h1;subst h1;exact m3 x hx
theorem ToldIs.go:∀ (f:Nat) (O:List Int) (l:List (List Edg)),ToldIs D n J O l→n≤l.length+f→ToldIs D n J (toldGo D f (O,l)).1 (toldGo D f (O,l)).2∧(toldGo D f (O,l)).1.length=(toldGo D f (O,l)).2.length
 |0,O,l,h,hf=>⟨h,by have:=h.ord.len;have:=h.le;show O.length=l.length;omega⟩
 |f+1,O,l,h,hf=>by
  cases ho:O[l.length]? with
  |none=>
   rw[toldGo_end (r:=(O,l)) ho]
   have:=List.getElem?_eq_none_iff.1 ho
   exact⟨h,by have:=h.le;show O.length=l.length;omega⟩
  |some o=>
   rw[toldGo_some (r:=(O,l)) ho]
   exact ToldIs.go f _ _ (h.next hD cD hJ ho) (by simp;omega)
theorem told_is (hn:n≤64) (h0:0 < n) (hJ0:J 0):∃ O,ToldIs D n J O (toldS D)∧O.length=(toldS D).length:=by
 have h:ToldIs D n J [0] []:=⟨⟨by simp,by simp;omega⟩,rfl,by simp,by simp,rfl,trivial,by simpa using hJ0,by simp⟩
 have:=ToldIs.go hD cD hJ 64 [0] [] h (by simp;omega)
 exact⟨_,this.1,this.2⟩
end
end Go.AM.B1
namespace Go.AM.B1
open Go.AM Go.AM.So
structure LIs (ss:List Shp) (sets:List Al) (C:List (List Int)) (O:List Int) (l:List (List Edg)):Prop where
 ok:SchOk ss
 pre:PreOk ss
 W:WInv ss sets C
 hl:C.length=sets.length
 told:ToldIs (leastS C.length C.flatten).C C.length (fun o=>∃ j,j < C.length∧o=co C j) O l
 len:O.length=l.length
 pos:0 < C.length
 le:C.length≤64
theorem co_zero (C:List (List Int)):co C 0=0:=by unfold co;rw[if_pos rfl]
section
variable {ss:List Shp} {sets:List Al} {C:List (List Int)} (W:WInv ss sets C) (hl:C.length=sets.length)
include W hl
theorem nxtC_co {j x:Nat} (hj:j < C.length) (hx:x < 256):nxtC C j x=if 0≤nxt C j x then co C (nxt C j x).toNat else nxt C j x:=by
 unfold nxtC
 split
 ·next h=>
  have:=W.deeper hl hj hx h
  unfold co;rw[if_neg (by omega)]
 ·rfl
end
theorem auto_is {ss:List Shp} {l:List (List Edg)} (hok:SchOk ss) (hpre:PreOk ss) (h:autoS ss=some l):∃ sets C O,LIs ss sets C O l:=by
 unfold autoS at h
 rw[Option.map_eq_some_iff] at h
 obtain⟨⟨sets,C⟩,hw,rfl⟩:=h
 obtain⟨W,hl⟩:=walk0_sem hok.len (fun s hs=>(hok.shp s hs).lo) hw
 have W:WInv ss sets C:=W
 have hl:C.length=sets.length:=hl
 have hm:=W.minv hl
 have h0:0 < C.length:=by rw[hl];exact (List.getElem?_eq_some_iff.1 W.first).1
 have h64:C.length≤64:=by rw[hl];exact W.ok.1
 have hrow:∀ j x,j < C.length→x < 256→(rowAt (leastS C.length C.flatten).C (co C j).toNat).getD x 0=nxtC C j x:=fun j x hj hx=>co_row W hl hj hx
 obtain⟨O,h1,h2⟩:=told_is (n:=C.length) (J:=fun o=>∃ j,j < C.length∧o=co C j) (D:=(leastS C.length C.flatten).C) hm.hC (by
  intro c hc
  obtain⟨p,hp,rfl⟩:=List.getElem_of_mem hc
  have hpl:p < C.length * 256:=by rw[← hm.hC];exact hp
  have e1:(leastS C.length C.flatten).C[p]=(rowAt (leastS C.length C.flatten).C (p / 256)).getD (p % 256) 0:=by
   rw[List.getD_eq_getElem?_getD,rowAt_get (Nat.mod_lt _ (by omega))]
   have:p / 256 * 256+p % 256=p:=by omega
   rw[this,List.getElem?_eq_getElem hp];rfl
  rw[e1,W.crow hl (by omega) (Nat.mod_lt _ (by omega))]
  have hb:=W.bound hl (k:=p / 256) (x:=p % 256) (by omega) (Nat.mod_lt _ (by omega))
  unfold nxtC
  split
  ·exact (hm.like_rep (j:=(nxt C (p / 256) (p % 256)).toNat) (by omega)).2.1
  ·exact hb.2) (by
  rintro o ⟨j,hj,rfl⟩ _ _ x hx h3
  rw[hrow j x hj hx,nxtC_co W hl hj hx] at h3 ⊢
  have hb:=W.bound hl hj hx
  split at h3
  ·next h4=>rw[if_pos h4];exact⟨_,by omega,rfl⟩
  ·omega) h64 h0 ⟨0,h0,(co_zero C).symm⟩
 exact⟨sets,C,O,hok,hpre,W,hl,h1,h2,h0,h64⟩
section
variable {ss:List Shp} {sets:List Al} {C:List (List Int)} {O:List Int} {l:List (List Edg)}
theorem LIs.first (h:LIs ss sets C O l):O[0]? =some (co C 0):=by rw[co_zero];exact h.told.first
theorem LIs.row (h:LIs ss sets C O l) {k j:Nat} (hk:O[k]? =some (co C j)) (hj:j < C.length):∃ row,l[k]? =some (edgesS row)∧
 ∀ x,x < 256→(nxt C j x < 0→row.getD x 0=nxt C j x)∧(0≤nxt C j x→∃ k':Nat,row.getD x 0=(k':Int)∧0 < k'∧O[k']? =some (co C (nxt C j x).toNat)):=by
 have hkl:=(List.getElem?_eq_some_iff.1 hk).1
 have hle:=h.len
 have he:l[k]? =some l[k]:=List.getElem?_eq_getElem (by omega)
 obtain⟨row,h1,h2⟩:=(h.told.rows k _ _ hk he).ex
 refine⟨row,by rw[he,h1],fun x hx=> ?_⟩
 have h3:=h2 x hx
 rw[co_row h.W h.hl hj hx,nxtC_co h.W h.hl hj hx] at h3
 constructor
 ·intro h4
  rw[if_neg (by omega)] at h3
  exact h3.1 h4
 ·intro h4
  rw[if_pos h4] at h3
  have hd:=h.W.deeper h.hl hj hx h4
  have hb:=h.W.bound h.hl hj hx
  have hc:0≤co C (nxt C j x).toNat:=by
   unfold co;split
   ·omega
   ·exact ((h.W.minv h.hl).like_rep (by omega)).1
  obtain⟨k',e1,e2⟩:=h3.2 hc
  refine⟨k',e1,?_,e2⟩
  rcases Nat.eq_zero_or_pos k' with rfl | h5
  ·rw[h.first,co_zero] at e2
   injection e2 with e2
   unfold co at e2
   rw[if_neg (by omega)] at e2
   exact absurd e2.symm (cls_pos h.ok h.pre h.W h.hl (by omega) (by omega))
  ·exact h5
end
end Go.AM.B1
namespace Go.AM.B1
open Go.AM Go.AM.So
section
variable {ss:List Shp} {sets:List Al} {C:List (List Int)} {O:List Int} {l:List (List Edg)} (h:LIs ss sets C O l)
include h
theorem LIs.step {k j:Nat} (hk:O[k]? =some (co C j)) (hj:j < C.length) {x:Nat} (hx:x < 256):
 (nxt C j x= -2∧stepS l (k:Int) (x:Int)=(0,false))∨(nxt C j x= -1∧stepS l (k:Int) (x:Int)=(-1,true))∨
 (0≤nxt C j x∧nxt C j x < C.length∧∃ k':Nat,stepS l (k:Int) (x:Int)=((k':Int),true)∧0 < k'∧O[k']? =some (co C (nxt C j x).toNat)):=by
 obtain⟨row,h1,h2⟩:=h.row hk hj
 have h3:=(edges_inv row).step x hx
 obtain⟨h4,h5⟩:=h2 x hx
 have hb:=h.W.bound h.hl hj hx
 have hs:stepS l (k:Int) (x:Int)=match stepEd (x:Int) (edgesS row) with
  |some t=>(t,true)
  |none=>(0,false):=by
  unfold stepS
  rw[if_neg (by omega),Int.toNat_natCast,h1] <;> rfl
 rw[h3] at hs
 by_cases c0:0≤nxt C j x
 ·obtain⟨k',e1,e2,e3⟩:=h5 c0
  rw[e1,if_neg (by omega)] at hs
  exact .inr (.inr ⟨c0,hb.2,k',hs,e2,e3⟩)
 ·have h6:=h4 (by omega)
  rw[h6] at hs
  by_cases c1:nxt C j x= -2
  ·rw[if_pos c1] at hs;exact .inl ⟨c1,hs⟩
  ·have c2:nxt C j x= -1:=by omega
   rw[if_neg c1,c2] at hs;exact .inr (.inl ⟨c2,hs⟩)
theorem LIs.match:∀ (bs:List Nat) (i k j:Nat),Bytes bs→O[k]? =some (co C j)→j < C.length→
 ∃ m:Nat,m≤bs.length∧((matchS l i (k:Int) (bs.map fun (n:Nat)=>(n:Int))=(((i+m:Nat):Int),1)∧0 < m∧runT C j (bs.take m)= -1)∨
  (matchS l i (k:Int) (bs.map fun (n:Nat)=>(n:Int))=(((i+m:Nat):Int),2)∧m=bs.length∧0≤runT C j bs)∨
  (matchS l i (k:Int) (bs.map fun (n:Nat)=>(n:Int))=(((i+m:Nat):Int),3)∧m < bs.length∧0≤runT C j (bs.take m)∧runT C j (bs.take (m+1))= -2))
 | [],i,k,j,_,hk,hj=>⟨0,by simp,.inr (.inl ⟨rfl,rfl,Int.natCast_nonneg j⟩)⟩
 |x::bs,i,k,j,hb,hk,hj=>by
  have hx:x < 256:=hb x (by simp)
  have hbs:Bytes bs:=fun y hy=>hb y (by simp[hy])
  have hj0:¬((j:Int) < 0):=by omega
  rw[List.map_cons,matchS]
  rcases h.step hk hj hx with⟨h1,h2⟩ | ⟨h1,h2⟩ | ⟨h1,h1',k',h2,h3,h4⟩
  ·rw[h2]
   refine⟨0,by simp,.inr (.inr ⟨rfl,by simp,Int.natCast_nonneg j,?_⟩)⟩
   show runT C j [x]= -2
   rw[runT,if_neg hj0,Int.toNat_natCast,h1];rfl
  ·rw[h2]
   refine⟨1,by simp,.inl ⟨rfl,by omega,?_⟩⟩
   show runT C j [x]= -1
   rw[runT,if_neg hj0,Int.toNat_natCast,h1];rfl
  ·rw[h2]
   simp only[Bool.true_eq_false,if_false]
   rw[if_neg (by omega)]
   obtain⟨m,hm,hc⟩:=LIs.match bs (i+1) k' (nxt C j x).toNat hbs h4 (by omega)
   have hr:∀ w,runT C j (x::w)=runT C ((nxt C j x).toNat:Nat) w:=by
    intro w
    rw[runT,if_neg hj0,Int.toNat_natCast,Int.toNat_of_nonneg h1]
   have he:i+1+m=i+(m+1):=by omega
   rw[he] at hc
   refine⟨m+1,by simp;omega,?_⟩
   rcases hc with⟨c1,c2,c3⟩ | ⟨c1,c2,c3⟩ | ⟨c1,c2,c3,c4⟩
   ·exact .inl ⟨c1,by omega,by rw[List.take_succ_cons,hr];exact c3⟩
   ·exact .inr (.inl ⟨c1,by simp[c2],by rw[hr];exact c3⟩)
   ·exact .inr (.inr ⟨c1,by simp;omega,by rw[List.take_succ_cons,hr];exact c3,by rw[List.take_succ_cons,hr];exact c4⟩)
end
theorem match_sem {ss:List Shp} {l:List (List Edg)} (hok:SchOk ss) (hpre:PreOk ss) (ha:autoS ss=some l) (bs:List Nat) (hb:Bytes bs):
 ∃ m:Nat,m≤bs.length∧((matchS l 0 0 (bs.map fun (n:Nat)=>(n:Int))=((m:Int),1)∧∃ s∈ss,Full s (bs.take m))∨
  (matchS l 0 0 (bs.map fun (n:Nat)=>(n:Int))=((m:Int),2)∧m=bs.length∧(bs=[]∨∃ s∈ss,matS s bs)∧∀ s∈ss,¬Full s bs)∨
  (matchS l 0 0 (bs.map fun (n:Nat)=>(n:Int))=((m:Int),3)∧m < bs.length∧(bs.take m=[]∨∃ s∈ss,matS s (bs.take m))∧(∀ s∈ss,¬Full s (bs.take m))∧∀ s∈ss,¬matS s (bs.take (m+1)))):=by
 obtain⟨sets,C,O,h⟩:=auto_is hok hpre ha
 obtain⟨m,hm,hc⟩:=h.match bs 0 0 0 hb h.first h.pos
 have hbt:∀ m,Bytes (bs.take m):=fun m x hx=>hb x (List.mem_of_mem_take hx)
 have hsem:∀ w,Bytes w→RunIs ss sets w (runT C 0 w):=fun w hw=>run_sem hok hpre h.W h.hl _ w rfl hw
 rw[Nat.zero_add] at hc
 refine⟨m,hm,?_⟩
 rcases hc with⟨c1,c2,c3⟩ | ⟨c1,c2,c3⟩ | ⟨c1,c2,c3,c4⟩
 ·refine .inl ⟨c1,?_⟩
  rcases hsem _ (hbt m) with⟨_,q⟩ | ⟨q,_⟩ | ⟨q,_⟩
  ·exact q
  ·have:runT C ((0:Nat):Int) (bs.take m)= -1:=c3
   rw[show ((0:Nat):Int)=0 from rfl] at this;omega
  ·have:runT C ((0:Nat):Int) (bs.take m)= -1:=c3
   rw[show ((0:Nat):Int)=0 from rfl] at this;omega
 ·refine .inr (.inl ⟨c1,c2,?_⟩)
  rw[show ((0:Nat):Int)=0 from rfl] at c3
  rcases hsem _ hb with⟨q,_⟩ | ⟨_,_,q1,q2⟩ | ⟨q,_⟩
  ·omega
  ·refine⟨?_,q2⟩
   rcases q1 with q1 | ⟨s,h1,h2,_⟩
   ·exact .inl q1
   ·exact .inr ⟨s,h1,h2⟩
  ·omega
 ·rw[show ((0:Nat):Int)=0 from rfl] at c3 c4
  refine .inr (.inr ⟨c1,c2,?_⟩)
  have h4:∀ s∈ss,¬matS s (bs.take (m+1)):=by
   rcases hsem _ (hbt (m+1)) with⟨q,_⟩ | ⟨q,_⟩ | ⟨_,_,q⟩
   ·omega
   ·omega
   ·exact q
  rcases hsem _ (hbt m) with⟨q,_⟩ | ⟨_,_,q1,q2⟩ | ⟨q,_⟩
  ·omega
  ·refine⟨?_,q2,h4⟩
   rcases q1 with q1 | ⟨s,h1,h2,_⟩
   ·exact .inl q1
   ·exact .inr ⟨s,h1,h2⟩
  ·omega
end Go.AM.B1
namespace Go.AM.B1
open Go.AM Go.AM.So
abbrev nts (w:List Nat):List Int:=w.map fun (n:Nat)=>(n:Int)
theorem rankR_memB {l:List (Int×Int)} (hl:PartOk l) (x:Nat):(rankR (x:Int) 0 l).2=memB l x:=by
 rw[← hasR_memB];unfold hasR;rw[setR_ok hl.2]
theorem rankGo_iff:∀ (ls:List (List (Int×Int))) (w:List Nat) (k:Int),(∀ l∈ls,PartOk l)→w.length=ls.length→((rankGo ls (nts w) k).isSome↔∀ (j x:Nat) l,w[j]? =some x→ls[j]? =some l→memB l x=true)
 | [],w,k,_,hl=>by
   have:w=[]:=List.eq_nil_of_length_eq_zero hl
   subst this
   rw[rankGo_nil];simp
 |l::ls,[],k,_,hl=>by simp at hl
 |l::ls,y::w,k,h,hl=>by
  have hp:=h l (by simp)
  show (rankGo (l::ls) ((y:Int)::nts w) k).isSome↔_
  rw[rankGo,rankR_memB hp]
  split
  ·next hm=>
   rw[rankGo_iff ls w _ (fun x hx=>h x (by simp[hx])) (by simpa using hl)]
   constructor
   ·intro h1 j x l' hj hl'
    cases j with
    |zero=>simp at hj hl';subst hj hl';exact hm
    |succ j=>exact h1 j x l' (by simpa using hj) (by simpa using hl')
   ·intro h1 j x l' hj hl'
    exact h1 (j+1) x l' (by simpa using hj) (by simpa using hl')
  ·next hm=>
   constructor
   ·intro h1;cases h1
   ·intro h1;exact absurd (h1 0 y l rfl rfl) hm
theorem memAt_iff {s:Shp} {j x:Nat}:memAt s j x=true↔∃ l,s.parts[j]? =some l∧memB l x=true:=by
 unfold memAt
 cases s.parts[j]? <;> simp
theorem rankS_full {s:Shp} (h:ShpOk s) (w:List Nat):(rankS s (nts w)).isSome↔Full s w:=by
 unfold rankS Full
 by_cases hl:w.length=s.parts.length
 ·rw[if_pos (by rw[List.length_map];exact hl),rankGo_iff _ _ _ h.parts hl]
  unfold matS
  constructor
  ·intro h1
   refine⟨fun j x hj=> ?_,hl⟩
   have hjl:=(List.getElem?_eq_some_iff.1 hj).1
   have hl2:s.parts[j]? =some s.parts[j]:=List.getElem?_eq_getElem (by omega)
   exact memAt_iff.2 ⟨_,hl2,h1 j x _ hj hl2⟩
  ·rintro⟨h1,_⟩ j x l hj hl2
   obtain⟨l',h3,h4⟩:=memAt_iff.1 (h1 j x hj)
   rw[hl2] at h3;injection h3 with h3;subst h3;exact h4
 ·rw[if_neg (by rw[List.length_map];exact hl)]
  constructor
  ·intro h1;cases h1
  ·intro h1;exact absurd h1.2 hl
def decS (b:List Int):List Shp→Int→Int
 | [],m=>m
 |s::r,m=>match rankS s b with
  |some k=>if m < 0∨s.first+k < m then decS b r (s.first+k) else decS b r m
  |none=>decS b r m
theorem rankGo_bound:∀ (ls:List (List (Int×Int))) (b:List Int) (k k':Int),(∀ l∈ls,PartOk l)→rankGo ls b k=some k'→k≤k'∧k' < k+prodS ls
 | [],b,k,k',_,h=>by rw[rankGo_nil] at h;injection h with h;subst h;rw[prodS];omega
 |l::ls,[],k,k',hp,h=>by
  rw[rankGo] at h
  ·injection h with h;subst h
   have:=prodS_pos hp;omega
  ·intro _ _ _ _ h2 h3;cases h3
 |l::ls,y::b,k,k',hp,h=>by
  rw[rankGo] at h
  split at h
  ·next hc=>
   have h0:=hp l (by simp)
   have hb:=rankR_bound (x:=y) (n:=0) h0.2 hc
   obtain⟨h1,h2⟩:=rankGo_bound ls b _ _ (fun x hx=>hp x (by simp[hx])) h
   have h3:=prodS_pos (ls:=ls) fun x hx=>hp x (by simp[hx])
   have h4:0≤(rankR y 0 l).1 * prodS ls:=Int.mul_nonneg hb.1 (by omega)
   have h5:((rankR y 0 l).1+1) * prodS ls≤sizeR 0 l * prodS ls:=Int.mul_le_mul_of_nonneg_right (by omega) (by omega)
   rw[Int.add_mul,Int.one_mul] at h5
   rw[prodS,Int.mul_comm (prodS ls)]
   omega
  ·cases h
theorem rankS_bound {s:Shp} (h:ShpOk s) {b:List Int} {k:Int} (hk:rankS s b=some k):0≤k∧s.first+k≤1073741823:=by
 unfold rankS at hk
 split at hk
 ·obtain⟨h1,h2⟩:=rankGo_bound _ _ _ _ h.parts hk
  have h3:=h.last
  rw[h.lastS] at h3
  omega
 ·cases hk
theorem decS_bound {b:List Int}:∀ {ss:List Shp} {m:Int},(∀ s∈ss,ShpOk s)→ -1≤m→(-1≤decS b ss m∧(0≤m→0≤decS b ss m))∧(0≤decS b ss m↔0≤m∨∃ s∈ss,(rankS s b).isSome)
 | [],m,_,hm=>⟨⟨hm,id⟩,by simp[decS]⟩
 |s::r,m,h,hm=>by
  have hr:=fun x (hx:x∈r)=>h x (by simp[hx])
  rw[decS]
  cases hk:rankS s b with
  |none=>
   have:=decS_bound (b:=b) hr hm
   refine⟨this.1,this.2.trans ?_⟩
   simp[hk]
  |some k=>
   have hb:=rankS_bound (h s (by simp)) hk
   have hf:=(h s (by simp)).f0
   simp only
   split
   ·have:=decS_bound (b:=b) (m:=s.first+k) hr (by omega)
    refine⟨⟨this.1.1,fun _=>this.1.2 (by omega)⟩,this.2.trans ?_⟩
    simp[hk];omega
   ·next hc=>
    have:=decS_bound (b:=b) hr hm
    refine⟨this.1,this.2.trans ?_⟩
    simp[hk];omega
abbrev envDc (S B:PV) (n i m:Int):Tr:=((((Tr.lf.set 17 (.pv (i64 i))).set 16 (.pv (i64 n))).set 15 (.pv S)).set 6 (.pv (i64 m))).set 1 (.pv B)
theorem box_cut (n:Nat) (cs:List PV):cutObj n (.box (cs.map .pv))=some (.box (cs.map .pv)):=by
 rw[cutO_box]
 have:mapO (AV.cut n deep) (cs.map AV.pv)=some (cs.map AV.pv):=by
  induction cs with
  |nil=>rfl
  |cons c cs ih=>rw[List.map_cons,mapO,ih];rfl
 rw[this];rfl
theorem decode_run {S:PV} {ss:List Shp} {es:List PV} (hS:HeldSch S ss es) {B:PV} {bs:List Int} (hB:HeldB B bs):
 (¬ SchOk ss→F_code_Decode [.agg [S],B]=some (.tup [i64 0,i64 84]))∧
 (SchOk ss→F_code_Decode [.agg [S],B]=some (.tup (if decS bs ss (-1) < 0 then [i64 0,i64 100] else [i64 (decS bs ss (-1)),i64 0]))):=by
 obtain⟨b,hb,hb'⟩:=scheme_valid_run hS
 have hS1:(AV.pv S).one=true:=by rcases hS.is with⟨h,_⟩ | h <;> rw[h] <;> rfl
 have hB1:=hB.one
 have lA:=hS.lenA
 have hm:=hS.sz
 constructor
 ·intro hn
  have:b=false:=by cases b with | false=>rfl | true=>exact absurd (hb'.1 rfl) hn
  subst this
  simp (implicitDefEqProofs:=false) only[F_code_Decode,SP,SA,WP,sevalprocAttr,-List.reduceReplicate,b_code_Decode,hS1,hB1,rp1_place,rp1_load,rp1_loadA,hb,lA]
 ·intro hok
  have:b=true:=hb'.2 hok
  subst this
  have hloop:wpO (fun r=>∃ E H,r=(.exit 0,⟨E,H⟩)∧E.get 6= .pv (i64 (decS bs ss (-1))))
   (loopA (roundA (evalC (callL (fun _=>none) 8) b_code_Decode_l0) (clean 0 [1,6,15,16,17])) rounds ⟨envDc S B ss.length 0 (-1),[]⟩):=by
   refine wpO_mono (loopN_wp (fun i t=>∃ m,t=⟨envDc S B ss.length i m,[]⟩∧ -1≤m∧decS bs ss (-1)=decS bs (ss.drop i) m)
    ss.length (by unfold rounds;unfold maxLen at hm;omega) _ ⟨-1,rfl,by omega,rfl⟩ ?_ ?_) (fun r h=>h.2)
   ·rintro i t hi ⟨m,rfl,hm1,hd⟩
    obtain⟨P,ps,hP,a1⟩:=hS.iaddr hi
    have hsk:=hok.shp _ (List.getElem_mem hi)
    have hrk:=shape_rank_run hP hB hsk
    have hP1:=hP.Pone.1
    have e1:decide ((i:Int) < (ss.length:Int))=true:=dec_t (by omega)
    have t2:=stepWrap hi hm
    have hdr:ss.drop i=ss[i]::ss.drop (i+1):=List.drop_eq_getElem_cons hi
    rw[hdr,decS] at hd
    have hbd:=fun k=>rankS_bound (b:=bs) (k:=k) hsk
    have hf0:=hsk.f0
    generalize ss[i]=s at *
    have s1:storeA [.box [.pv .nils,.pv (i64 0)]] 2 (.ptr 0 0) (.pv (.agg [P,i64 s.first]))=some [.box [.pv P,.pv (i64 s.first)]]:=box2_store _ _ _ _ hP1 rfl [] _ rfl
    have p1:place [.box [.pv P,.pv (i64 s.first)]] 1 (.ptr 0 0)=some (.ptr 0 1):=rfl
    have l1:loadA [.box [.pv P,.pv (i64 s.first)]] false 1 (.ptr 0 1)=some (.pv (i64 s.first)):=rfl
    have l2:loadA [.box [.pv P,.pv (i64 s.first)]] true 2 (.ptr 0 0)=some (.pv (.agg [P,i64 s.first])):=rfl
    generalize hQ:LN _ _ i=QQ
    cases hk:rankS s bs with
    |none=>
     have hr:=hrk.2 hk
     rw[hk] at hd
     simp (implicitDefEqProofs:=false) only[SP,SA,WP,sevalprocAttr,-List.reduceReplicate,b_code_Decode_l0,e1,t2,a1,rp2_loadA,s1,l2,hr,clean,cutEnv,AV.cut,cutObj,List.take_zero,deep_eq',envDc]
     subst hQ
     exact⟨m,rfl,hm1,hd⟩
    |some k=>
     have hr:=hrk.1 k hk
     have hb2:=hbd k hk
     rw[hk] at hd
     simp only at hd
     have t3:IntKind.i64.wrap (s.first+k)=s.first+k:=wrap_int (by omega)
     by_cases c1:m < 0
     ·have d1:decide (m < 0)=true:=dec_t c1
      rw[if_pos (.inl c1)] at hd
      simp (implicitDefEqProofs:=false) only[SP,SA,WP,sevalprocAttr,-List.reduceReplicate,b_code_Decode_l0,e1,t2,t3,a1,rp2_loadA,s1,l2,p1,l1,d1,hr,clean,cutEnv,AV.cut,cutObj,List.take_zero,deep_eq',envDc]
      subst hQ
      exact⟨s.first+k,rfl,by omega,hd⟩
     ·have d1:decide (m < 0)=false:=dec_f c1
      by_cases c2:s.first+k < m
      ·have d2:decide (s.first+k < m)=true:=dec_t c2
       rw[if_pos (.inr c2)] at hd
       simp (implicitDefEqProofs:=false) only[SP,SA,WP,sevalprocAttr,-List.reduceReplicate,b_code_Decode_l0,e1,t2,t3,a1,rp2_loadA,s1,l2,p1,l1,d1,d2,hr,clean,cutEnv,AV.cut,cutObj,List.take_zero,deep_eq',envDc]
       subst hQ
       exact⟨s.first+k,rfl,by omega,hd⟩
      ·have d2:decide (s.first+k < m)=false:=dec_f c2
       rw[if_neg (by omega)] at hd
       simp (implicitDefEqProofs:=false) only[SP,SA,WP,sevalprocAttr,-List.reduceReplicate,b_code_Decode_l0,e1,t2,t3,a1,rp2_loadA,s1,l2,p1,l1,d1,d2,hr,clean,cutEnv,AV.cut,cutObj,List.take_zero,deep_eq',envDc]
       subst hQ
       exact⟨m,rfl,by omega,hd⟩
   ·rintro t ⟨m,rfl,hm1,hd⟩
    rw[List.drop_length,decS] at hd
    have e1:decide ((ss.length:Int) < (ss.length:Int))=false:=dec_f (by omega)
    generalize hQ:(fun r:Ex×St=>r.1.stop=true∧_)=Q
    simp (implicitDefEqProofs:=false) only[SP,SA,WP,sevalprocAttr,-List.reduceReplicate,b_code_Decode_l0,e1,envDc]
    subst hQ
    exact⟨rfl,_,_,rfl,by rw[hd];simp[Tr.get_set]⟩
  have hbd:=(decS_bound (b:=bs) (m:= -1) hok.shp (by omega)).1.1
  apply wpO_eq
  generalize decS bs ss (-1)=d at *
  by_cases c:d < 0
  ·rw[if_pos c]
   have d1:decide (d < 0)=true:=dec_t c
   simp (implicitDefEqProofs:=false) only[F_code_Decode,SP,SA,WP,sevalprocAttr,-List.reduceReplicate,b_code_Decode,hS1,hB1,rp1_place,rp1_load,rp1_loadA,hb,lA,C_loop,clean,cutEnv,AV.cut,cutObj,List.take_zero,deep_eq']
   refine wpO_mono hloop ?_
   rintro r ⟨E,H,rfl,k6⟩
   simp (implicitDefEqProofs:=false) only[SP,SA,WP,sevalprocAttr,-List.reduceReplicate,k6,d1]
  ·rw[if_neg c]
   have d1:decide (d < 0)=false:=dec_f c
   simp (implicitDefEqProofs:=false) only[F_code_Decode,SP,SA,WP,sevalprocAttr,-List.reduceReplicate,b_code_Decode,hS1,hB1,rp1_place,rp1_load,rp1_loadA,hb,lA,C_loop,clean,cutEnv,AV.cut,cutObj,List.take_zero,deep_eq']
   refine wpO_mono hloop ?_
   rintro r ⟨E,H,rfl,k6⟩
   simp (implicitDefEqProofs:=false) only[SP,SA,WP,sevalprocAttr,-List.reduceReplicate,k6,d1]
end Go.AM.B1
namespace Go.AM.B1
open Go.AM Go.AM.So
theorem nts_of {bs:List Int} (h:∀ b∈bs,0≤b∧b≤255):∃ w:List Nat,bs=nts w∧Bytes w:=by
 refine⟨bs.map Int.toNat,?_,?_⟩
 ·rw[nts,List.map_map]
  conv=>lhs;rw[← List.map_id bs]
  apply List.map_congr_left
  intro b hb
  show b=((b.toNat:Nat):Int)
  have:=h b hb;omega
 ·intro x hx
  obtain⟨b,hb,rfl⟩:=List.mem_map.1 hx
  have:=h b hb;omega
theorem HeldB.take {B:PV} {bs:List Int} (h:HeldB B bs) {n:Nat} (hn:n≤bs.length):∃ B',(∀ H,sliceA H 1 (.pv B) none (some (n:Int))=some (.pv B'))∧HeldB B' (bs.take n)∧(AV.pv B').one=true:=by
 rcases h.is with⟨rfl,hb⟩ | rfl
 ·have:bs=[]:=by simpa using hb
  subst this
  have:n=0:=by simpa using hn
  subst this
  exact⟨.nils,fun H=>rfl,⟨.inl ⟨rfl,rfl⟩,by simp⟩,rfl⟩
 ·refine⟨.lit 1 ((bs.take n).map (PV.int .u8)),fun H=> ?_,⟨.inr rfl,fun b hb=>h.rng b (List.mem_of_mem_take hb)⟩,rfl⟩
  simp only[sliceA,Option.getD_some,Option.getD_none]
  rw[if_pos ⟨by omega,trivial,by omega,by omega,by simp;omega⟩]
  simp[List.map_take]
theorem PartOk.form {v:PV} {l:List (Int×Int)} (h:PartOk l) (hv:HeldPart v l):v=encPart l:=by
 rcases hv.is with⟨_,h2⟩ | h2
 ·exact absurd (by simpa using h2) h.1
 ·exact h2
abbrev envBg (row:List PV) (B:PV) (n i:Int):Tr:=(((Tr.lf.set 20 (.pv (i64 i))).set 19 (.pv (i64 n))).set 18 (.pv B)).set 2 (.pv (.rp row 0))
theorem begins_run {e:PV} {s:Shp} {P:PV} {ps:List PV} (h:HeldShp e s P ps) {B:PV} {w:List Nat} (hB:HeldB B (nts w)) (hok:ShpOk s) (hlen:w.length≤maxLen):
 ∃ b,F_shape_Begins [e,B]=some (.bool b)∧(b=true↔matS s w):=by
 obtain⟨b1,hb1,hb1'⟩:=shape_valid_run h
 have:=hb1'.2 hok
 subst this
 have hP1:=h.Pone.1
 have heq:=h.eq
 subst heq
 have hP:=h.parts
 have lP:=hP.lenA
 have lB:=hB.lenA
 rw[List.length_map] at lB
 have hB1:=hB.one
 have h8:=hok.hi
 by_cases hl:s.parts.length < w.length
 ·refine⟨false,?_,by simp;intro hm;have:=matS_len hm;omega⟩
  have d1:decide ((w.length:Int) > (s.parts.length:Int))=true:=dec_t (by omega)
  simp (implicitDefEqProofs:=false) only[F_shape_Begins,SP,SA,WP,sevalprocAttr,-List.reduceReplicate,b_shape_Begins,hP1,hB1,rp2_loadA,rp2_load,rp2_place,hb1,lP,lB,d1]
 ·have d1:decide ((w.length:Int) > (s.parts.length:Int))=false:=dec_f (by omega)
  have hloop:wpO (fun r=>∃ E H,(r=(.exit 0,⟨E,H⟩)∧matS s w)∨(r=(.ret,⟨E,H⟩)∧E.get 4= .pv (.bool false)∧¬matS s w))
   (loopA (roundA (evalC (callL (fun _=>none) 8) b_shape_Begins_l0) (clean 0 [2,18,19,20])) rounds ⟨envBg [P,i64 s.first] B w.length 0,[]⟩):=by
   refine wpO_mono (loopN_wp (fun i t=>t=⟨envBg [P,i64 s.first] B w.length i,[]⟩∧matS s (w.take i))
    w.length (by unfold rounds;unfold maxLen at hlen;omega) _ ⟨rfl,by rw[List.take_zero];exact matS_nil s⟩ ?_ ?_) (fun r h=>h.2)
   ·rintro i t hi ⟨rfl,hm⟩
    obtain⟨v,hv,hpt,_⟩:=hP.iaddr (i:=i) (by omega) []
    have a2:=hP.iaddrU hv
    have a3:=hB.iaddr (i:=i) (by simpa using hi)
    have hpo:=hok.parts _ (List.getElem_mem (show i < s.parts.length by omega))
    have hve:=hpo.form hpt
    have hx:w[i] < 256:=by
     have:=hB.rng ((w[i]:Nat):Int) (List.mem_map.2 ⟨_,List.getElem_mem hi,rfl⟩);omega
    have hg:(nts w)[i]'(by simpa using hi)=((w[i]:Nat):Int):=by simp
    rw[hg] at a3
    have hc:=c_has_lit hpt.sz ((w[i]:Nat):Int)
    rw[← hve,hasR_memB] at hc
    have hnext:w.take (i+1)=w.take i++[w[i]]:=by simp
    have hat:memAt s i w[i]=memB s.parts[i] w[i]:=by
     unfold memAt;rw[List.getElem?_eq_getElem (show i < s.parts.length by omega)]
    have hst:matS s (w.take (i+1))↔memB s.parts[i] w[i]=true:=by
     rw[hnext,matS_snoc,List.length_take,Nat.min_eq_left (by omega),hat]
     exact⟨fun h=>h.2,fun h=>⟨hm,h⟩⟩
    have hall:matS s w→matS s (w.take (i+1)):=fun h=>matS_pre (u:=w.drop (i+1)) (by rw[List.take_append_drop];exact h)
    generalize memB s.parts[i] w[i]=mb at *
    generalize w[i]=x at *
    have e1:decide ((i:Int) < (w.length:Int))=true:=dec_t (by omega)
    have t2:=stepWrap hi hlen
    have t3:IntKind.i64.wrap (x:Int)=(x:Int):=wrap_int (by omega)
    have hv1:(AV.pv v).one=true:=by rw[hve];rfl
    generalize hQ:LN _ _ i=QQ
    cases mb with
    |false=>
     simp (implicitDefEqProofs:=false) only[SP,SA,WP,sevalprocAttr,-List.reduceReplicate,b_shape_Begins_l0,e1,a2,a3,rp2_place,rp2_load,rp1_load,t3,hc,envBg]
     subst hQ
     exact⟨_,_,.inr ⟨rfl,by simp[Tr.get_set],fun h=>by have:=hst.1 (hall h);cases this⟩⟩
    |true=>
     simp (implicitDefEqProofs:=false) only[SP,SA,WP,sevalprocAttr,-List.reduceReplicate,b_shape_Begins_l0,e1,t2,a2,a3,rp2_place,rp2_load,rp1_load,t3,hc,clean,cutEnv,AV.cut,deep_eq',envBg]
     subst hQ
     exact⟨rfl,hst.2 rfl⟩
   ·rintro t ⟨rfl,hm⟩
    rw[List.take_length] at hm
    have e1:decide ((w.length:Int) < (w.length:Int))=false:=dec_f (by omega)
    generalize hQ:(fun r:Ex×St=>r.1.stop=true∧_)=Q
    simp (implicitDefEqProofs:=false) only[SP,SA,WP,sevalprocAttr,-List.reduceReplicate,b_shape_Begins_l0,e1,envBg]
    subst hQ
    exact⟨rfl,_,_,.inl ⟨rfl,hm⟩⟩
  obtain⟨r,h1,E,H,h2⟩:=wpO_spec hloop
  have h1':loopA (roundA (evalC (callL (fun _=>none) 8) b_shape_Begins_l0) (clean 0 [2,18,19,20])) rounds ⟨(((Tr.lf.set 20 (.pv (.int .i64 0))).set 19 (.pv (i64 w.length))).set 18 (.pv B)).set 2 (.pv (.rp [P,i64 s.first] 0)),[]⟩=some r:=h1
  rcases h2 with⟨rfl,h3⟩ | ⟨rfl,h4,h3⟩
  ·refine⟨true,?_,by simpa using h3⟩
   simp (implicitDefEqProofs:=false) only[F_shape_Begins,SP,SA,WP,sevalprocAttr,-List.reduceReplicate,b_shape_Begins,hP1,hB1,rp2_loadA,rp2_load,rp2_place,hb1,lP,lB,d1,C_loop,clean,cutEnv,AV.cut,deep_eq',h1']
  ·refine⟨false,?_,by simpa using h3⟩
   simp (implicitDefEqProofs:=false) only[F_shape_Begins,SP,SA,WP,sevalprocAttr,-List.reduceReplicate,b_shape_Begins,hP1,hB1,rp2_loadA,rp2_load,rp2_place,hb1,lP,lB,d1,C_loop,clean,cutEnv,AV.cut,deep_eq',h1',h4]
abbrev envLb (B S:PV) (n i:Int):Tr:=(((Tr.lf.set 10 (.pv (i64 i))).set 9 (.pv (i64 n))).set 8 (.pv S)).set 1 (.pv B)
theorem lawbegins_run {S:PV} {ss:List Shp} {es:List PV} (hS:HeldSch S ss es) {B:PV} {w:List Nat} (hB:HeldB B (nts w)) (hok:SchOk ss) (hlen:w.length≤maxLen):
 ∃ b,F_leadtraillaw13_begins [.agg [S],B]=some (.bool b)∧(b=true↔(w=[]∨∃ s∈ss,matS s w)):=by
 have hS1:(AV.pv S).one=true:=by rcases hS.is with⟨h,_⟩ | h <;> rw[h] <;> rfl
 have hB1:=hB.one
 have lA:=hS.lenA
 have lB:=hB.lenA
 rw[List.length_map] at lB
 have hm:=hS.sz
 have hloop:wpO (fun r=>∃ E H,(r=(.exit 0,⟨E,H⟩)∧E.get 1= .pv B∧¬∃ s∈ss,matS s w)∨(r=(.ret,⟨E,H⟩)∧E.get 4= .pv (.bool true)∧∃ s∈ss,matS s w))
  (loopA (roundA (evalC (callL (fun _=>none) 8) b_leadtraillaw13_begins_l0) (clean 0 [1,8,9,10])) rounds ⟨envLb B S ss.length 0,[]⟩):=by
  refine wpO_mono (loopN_wp (fun i t=>t=⟨envLb B S ss.length i,[]⟩∧∀ s∈ss.take i,¬matS s w)
   ss.length (by unfold rounds;unfold maxLen at hm;omega) _ ⟨rfl,by simp⟩ ?_ ?_) (fun r h=>h.2)
  ·rintro i t hi ⟨rfl,hn⟩
   obtain⟨P,ps,hP,a1⟩:=hS.iaddr hi
   obtain⟨b,hb,hb'⟩:=begins_run hP hB (hok.shp _ (List.getElem_mem hi)) hlen
   have hP1:=hP.Pone.1
   have e1:decide ((i:Int) < (ss.length:Int))=true:=dec_t (by omega)
   have t2:=stepWrap hi hm
   have hmem:=List.getElem_mem hi
   have hnext:ss.take (i+1)=ss.take i++[ss[i]]:=by simp
   generalize ss[i]=s at *
   have s1:storeA [.box [.pv .nils,.pv (i64 0)]] 2 (.ptr 0 0) (.pv (.agg [P,i64 s.first]))=some [.box [.pv P,.pv (i64 s.first)]]:=box2_store _ _ _ _ hP1 rfl [] _ rfl
   have l2:loadA [.box [.pv P,.pv (i64 s.first)]] true 2 (.ptr 0 0)=some (.pv (.agg [P,i64 s.first])):=rfl
   generalize hQ:LN _ _ i=QQ
   cases b with
   |true=>
    simp (implicitDefEqProofs:=false) only[SP,SA,WP,sevalprocAttr,-List.reduceReplicate,b_leadtraillaw13_begins_l0,e1,a1,rp2_loadA,s1,l2,hb,envLb]
    subst hQ
    exact⟨_,_,.inr ⟨rfl,by simp[Tr.get_set],s,hmem,hb'.1 rfl⟩⟩
   |false=>
    simp (implicitDefEqProofs:=false) only[SP,SA,WP,sevalprocAttr,-List.reduceReplicate,b_leadtraillaw13_begins_l0,e1,t2,a1,rp2_loadA,s1,l2,hb,clean,cutEnv,AV.cut,cutObj,List.take_zero,deep_eq',envLb]
    subst hQ
    refine⟨rfl,fun q hq=> ?_⟩
    rw[hnext] at hq
    rcases List.mem_append.1 hq with hq | hq
    ·exact hn q hq
    ·simp at hq;subst hq;intro h;have:=hb'.2 h;cases this
  ·rintro t ⟨rfl,hn⟩
   rw[List.take_length] at hn
   have e1:decide ((ss.length:Int) < (ss.length:Int))=false:=dec_f (by omega)
   generalize hQ:(fun r:Ex×St=>r.1.stop=true∧_)=Q
   simp (implicitDefEqProofs:=false) only[SP,SA,WP,sevalprocAttr,-List.reduceReplicate,b_leadtraillaw13_begins_l0,e1,envLb]
   subst hQ
   exact⟨rfl,_,_,.inl ⟨rfl,by simp[Tr.get_set],fun ⟨s,h1,h2⟩=>hn s h1 h2⟩⟩
 obtain⟨r,h1,E,H,h2⟩:=wpO_spec hloop
 have h1':loopA (roundA (evalC (callL (fun _=>none) 8) b_leadtraillaw13_begins_l0) (clean 0 [1,8,9,10])) rounds ⟨(((Tr.lf.set 10 (.pv (.int .i64 0))).set 9 (.pv (i64 ss.length))).set 8 (.pv S)).set 1 (.pv B),[]⟩=some r:=h1
 rcases h2 with⟨rfl,h4,h3⟩ | ⟨rfl,h4,h3⟩
 ·by_cases hw:w=[]
  ·refine⟨true,?_,by simp[hw]⟩
   have d1:((w.length:Int)==0)=true:=by rw[hw];rfl
   simp (implicitDefEqProofs:=false) only[F_leadtraillaw13_begins,SP,SA,WP,sevalprocAttr,-List.reduceReplicate,b_leadtraillaw13_begins,hS1,hB1,rp1_place,rp1_load,lA,lB,d1,C_loop,clean,cutEnv,AV.cut,deep_eq',h1',h4]
  ·refine⟨false,?_,by simp only[Bool.false_eq_true,false_iff];rintro (h | h);exact hw h;exact h3 h⟩
   have d1:((w.length:Int)==0)=false:=beq_ne (by have:w.length≠0:=fun e=>hw (List.eq_nil_of_length_eq_zero e);omega)
   simp (implicitDefEqProofs:=false) only[F_leadtraillaw13_begins,SP,SA,WP,sevalprocAttr,-List.reduceReplicate,b_leadtraillaw13_begins,hS1,hB1,rp1_place,rp1_load,lA,lB,d1,C_loop,clean,cutEnv,AV.cut,deep_eq',h1',h4]
 ·refine⟨true,?_,by simp[h3]⟩
  simp (implicitDefEqProofs:=false) only[F_leadtraillaw13_begins,SP,SA,WP,sevalprocAttr,-List.reduceReplicate,b_leadtraillaw13_begins,hS1,hB1,rp1_place,rp1_load,lA,lB,C_loop,clean,cutEnv,AV.cut,deep_eq',h1',h4]
end Go.AM.B1
namespace Go.AM.B1
open Go.AM Go.AM.So
theorem tells_run {S:PV} {ss:List Shp} {es:List PV} (hS:HeldSch S ss es) {B:PV} {bs:List Int} (hB:HeldB B bs) (hw:bs.length≤maxLen):
 pureF (fun _=>none) b_leadtraillaw13_AutoTells [.agg [S],B]=some (.bool true):=by
 have hS1:(AV.pv S).one=true:=by rcases hS.is with⟨h,_⟩ | h <;> rw[h] <;> rfl
 have hfx:=fixed_run
 have hB1:=hB.one
 obtain⟨V,l,n,hV,hn0,hn1,hb⟩:=prog_build ss
 have hb:=hb _ _ hS
 by_cases hn:n=0
 ·obtain⟨l',ha,hok,hpre,rfl,rfl⟩:=hn0.1 hn
  subst hn
  obtain⟨w,rfl,hwb⟩:=nts_of hB.rng
  have hwl:w.length≤maxLen:=by simpa using hw
  have hmr:=match_run (encSt l) B l hV (nts w) hB.is hB.rng (by simpa using hwl)
  have lB:=hB.lenA
  rw[List.length_map] at lB
  have hV1:(AV.pv (encSt l)).one=true:=rfl
  have st0:∀ (V:PV),(AV.pv V).one=true→storeA [.box [.pv .nils]] 1 (.ptr 0 0) (.pv (.agg [V]))=some [.box [.pv V]]:=fun V h=>by
   simp[storeA,AV.cells,PV.cells,h,setRow]
  have st1:=st0 _ hV1
  have ld:∀ (V:PV),loadA [.box [.pv V]] true 1 (.ptr 0 0)=some (.pv (.agg [V])):=fun V=>rfl
  obtain⟨m,hm,hc⟩:=match_sem hok hpre ha w hwb
  have hm':m≤(nts w).length:=by simpa using hm
  have hdec:∀ k,k≤w.length→∃ B',(∀ H,sliceA H 1 (.pv B) none (some (k:Int))=some (.pv B'))∧HeldB B' (nts (w.take k))∧(AV.pv B').one=true:=by
   intro k hk
   obtain⟨B',h1,h2,h3⟩:=hB.take (n:=k) (by simpa using hk)
   exact⟨B',h1,by simpa[List.map_take] using h2,h3⟩
  obtain⟨B1,b1,b2,b3⟩:=hdec m hm
  have hdr:=(decode_run hS b2).2 hok
  have hbd:=(decS_bound (b:=nts (w.take m)) (m:= -1) hok.shp (by omega))
  have hex:(∃ s∈ss,(rankS s (nts (w.take m))).isSome)↔∃ s∈ss,Full s (w.take m):=by
   constructor <;> rintro⟨s,h1,h2⟩ <;> refine⟨s,h1,?_⟩
   ·exact (rankS_full (hok.shp s h1) _).1 h2
   ·exact (rankS_full (hok.shp s h1) _).2 h2
  rw[hex] at hbd
  generalize decS (nts (w.take m)) ss (-1)=d at *
  have hd0:=hbd.1.1
  have hbd:=hbd.2
  have c0:decide ((m:Int) < 0)=false:=dec_f (by omega)
  have c1:decide ((m:Int) > (w.length:Int))=false:=dec_f (by omega)
  have hbg:=fun {k:Nat} {B':PV} (hB':HeldB B' (nts (w.take k)))=>lawbegins_run hS hB' hok (by rw[List.length_take];omega)
  have hbg0:=lawbegins_run hS hB hok hwl
  have z11:((1:Int)==1)=true:=rfl
  have z21:((2:Int)==1)=false:=rfl
  have z22:((2:Int)==2)=true:=rfl
  have z31:((3:Int)==1)=false:=rfl
  have z32:((3:Int)==2)=false:=rfl
  have z33:((3:Int)==3)=true:=rfl
  have z100:((100:Int) != 0)=true:=rfl
  rcases hc with⟨h1,h2⟩ | ⟨h1,h2,h3,h4⟩ | ⟨h1,h2,h3,h4,h5⟩
  ·rw[h1] at hmr
   have hd:0≤d:=hbd.2 (.inr h2)
   rw[if_neg (by omega)] at hdr
   generalize encSt l=V at *
   simp (implicitDefEqProofs:=false) only[SP,SA,WP,sevalprocAttr,-List.reduceReplicate,b_leadtraillaw13_AutoTells,hfx,hS1,hB1,hV1,b3,rp1_place,rp1_loadA,hb,st1,ld,hmr,lB,c0,c1,b1,hdr,z11]
  ·rw[h1] at hmr
   have hd:d < 0:=by
    rcases Int.lt_or_le d 0 with h | h
    ·exact h
    ·rcases hbd.1 h with h5 | ⟨s,h5,h6⟩
     ·omega
     ·rw[h2,List.take_length] at h6;exact absurd h6 (h4 s h5)
   rw[if_pos hd] at hdr
   obtain⟨bb,g1,g2⟩:=hbg0
   have:bb=true:=g2.2 h3
   subst this
   have c2:((m:Int)==(w.length:Int))=true:=by rw[h2];simp
   generalize encSt l=V at *
   simp (implicitDefEqProofs:=false) only[SP,SA,WP,sevalprocAttr,-List.reduceReplicate,b_leadtraillaw13_AutoTells,hfx,hS1,hB1,hV1,b3,rp1_place,rp1_loadA,hb,st1,ld,hmr,lB,c0,c1,b1,hdr,z21,z22,z100,c2,g1]
  ·rw[h1] at hmr
   have hd:d < 0:=by
    rcases Int.lt_or_le d 0 with h | h
    ·exact h
    ·rcases hbd.1 h with h6 | ⟨s,h6,h7⟩
     ·omega
     ·exact absurd h7 (h4 s h6)
   rw[if_pos hd] at hdr
   obtain⟨B2,b4,b5,b6⟩:=hdec (m+1) (by omega)
   obtain⟨bb,g1,g2⟩:=hbg b2
   have:bb=true:=g2.2 h3
   subst this
   obtain⟨bc,g3,g4⟩:=hbg b5
   have:bc=false:=by
    cases bc with
    |false=>rfl
    |true=>
     rcases g4.1 rfl with h | ⟨s,h6,h7⟩
     ·have h8:(w.take (m+1)).length=0:=by rw[h];rfl
      rw[List.length_take] at h8;omega
     ·exact absurd h7 (h5 s h6)
   subst this
   have c2:decide ((m:Int) < (w.length:Int))=true:=dec_t (by omega)
   have t1:IntKind.i64.wrap ((m:Int)+1)=((m+1:Nat):Int):=wrap_nat1 (by unfold maxLen at hwl;omega)
   generalize encSt l=V at *
   simp (implicitDefEqProofs:=false) only[SP,SA,WP,sevalprocAttr,-List.reduceReplicate,b_leadtraillaw13_AutoTells,hfx,hS1,hB1,hV1,b3,b6,rp1_place,rp1_loadA,hb,st1,ld,hmr,lB,c0,c1,b1,hdr,z31,z32,z33,z100,c2,t1,b4,g1,g3]
 ·have hV1:(AV.pv V).one=true:=by rw[hn1 hn];rfl
  have d1:(n != 0)=true:=by simp[hn]
  have st1:storeA [.box [.pv .nils]] 1 (.ptr 0 0) (.pv (.agg [V]))=some [.box [.pv V]]:=by simp[storeA,AV.cells,PV.cells,hV1,setRow]
  simp (implicitDefEqProofs:=false) only[SP,SA,WP,sevalprocAttr,-List.reduceReplicate,b_leadtraillaw13_AutoTells,hfx,hS1,hB1,hV1,rp1_place,rp1_loadA,hb,st1,d1]
end Go.AM.B1
namespace Go.AM.B1
open Go.AM Go.AM.So
def selR:Int→List (Int×Int)→Option Int
 |_,[]=>none
 |k,p::r=>if k≤p.2 - p.1 then some (p.1+k) else selR (k - (p.2 - p.1+1)) r
theorem selR_some {top:Int}:∀ {l:List (Int×Int)} {last k:Int},validR top last l=true→0≤k→k < sizeR 0 l→∃ x,selR k l=some x∧0≤x∧x≤top∧last+1 < x∧∀ n,rankR x n l=(n+k,true)
 | [],last,k,_,h0,h1=>by simp[sizeR] at h1;omega
 |p::l,last,k,hv,h0,h1=>by
  obtain⟨v1,v2,v3,v4,v5⟩:=validR_cons hv
  rw[sizeR,sizeR_acc] at h1
  rw[selR]
  by_cases c:k≤p.2 - p.1
  ·rw[if_pos c]
   refine⟨_,rfl,by omega,by omega,by omega,fun n=> ?_⟩
   rw[rankR,if_neg (by omega),if_pos (by omega)]
   congr 1;omega
  ·rw[if_neg c]
   obtain⟨x,q1,q2,q3,q4,q5⟩:=selR_some (k:=k - (p.2 - p.1+1)) v5 (by omega) (by omega)
   refine⟨x,q1,q2,q3,by omega,fun n=> ?_⟩
   rw[rankR,if_neg (by omega),if_neg (by omega),q5]
   congr 1;omega
abbrev envSl (v:PV) (n i k:Int):Tr:=(((Tr.lf.set 12 (.pv (i64 i))).set 11 (.pv (i64 n))).set 10 (.pv v)).set 1 (.pv (i64 k))
theorem sets_select_run {v:PV} {l:List (Int×Int)} (hv:IsL 2 v (prs l)) (hw:l.length≤maxLen) (hval:validR 255 (-2) l=true) {k:Int} (h0:0≤k) (h1:k < sizeR 0 l):
 ∃ x,F_sets_Select [v,i64 k]=some (.tup [i64 x,.bool true])∧selR k l=some x:=by
 obtain⟨x,q1,_⟩:=selR_some hval h0 h1
 refine⟨x,?_,q1⟩
 have ls:=hv.len
 simp only[prs,List.length_map] at ls
 have hall:=validR_all hval
 have hloop:wpO (fun r=>∃ E H,r=(.ret,⟨E,H⟩)∧E.get 4= .pv (i64 x)∧E.get 5= .pv (.bool true))
  (loopA (roundA (evalC (callL (fun _=>none) 8) b_sets_Select_l0) (clean 0 [1,10,11,12])) rounds ⟨envSl v l.length 0 k,[]⟩):=by
  refine wpO_mono (loopN_wp (fun i t=>∃ j,t=⟨envSl v l.length i j,[]⟩∧0≤j∧j≤k∧selR j (l.drop i)=some x)
   l.length (by unfold rounds;unfold maxLen at hw;omega) _ ⟨k,rfl,h0,Int.le_refl _,q1⟩ ?_ ?_) (fun r h=>h.2)
  ·rintro i t hi ⟨j,rfl,hj0,hjk,hs⟩
   have hvl:=hv.lit (i:=i) (by simpa using hi)
   have hd:l.drop i=l[i]::l.drop (i+1):=List.drop_eq_getElem_cons hi
   have hp:=hall _ (List.getElem_mem hi)
   have hbig:k≤140737488355328 * 256:=by
    have:=(sizeR_bound hval).2;omega
   have a1:∀ H,iaddrA' H 2 (.pv v) (i:Int)=some (.pv (.rp [i64 l[i].1,i64 l[i].2] 0)):=fun H=>by
    rw[hvl];exact lit_iaddr H hi
   rw[hd,selR] at hs
   generalize l[i]=p at *
   have e1:decide ((i:Int) < (l.length:Int))=true:=dec_t (by omega)
   have t2:=stepWrap hi hw
   have t3:IntKind.i64.wrap (p.2 - p.1)=p.2 - p.1:=wrap_int (by omega)
   have s1:storeA [.box [.pv (i64 0),.pv (i64 0)]] 2 (.ptr 0 0) (.pv (.agg [i64 p.1,i64 p.2]))=some [.box [.pv (i64 p.1),.pv (i64 p.2)]]:=box2_store _ _ _ _ rfl rfl [] _ rfl
   have p0:∀ c,place [.box c] 0 (.ptr 0 0)=some (.ptr 0 0):=fun c=>by simp[place]
   have pp0:place [.box [.pv (i64 p.1),.pv (i64 p.2)]] 0 (.ptr 0 0)=some (.ptr 0 0):=rfl
   have pp1:place [.box [.pv (i64 p.1),.pv (i64 p.2)]] 1 (.ptr 0 0)=some (.ptr 0 1):=rfl
   have l0:loadA [.box [.pv (i64 p.1),.pv (i64 p.2)]] false 1 (.ptr 0 0)=some (.pv (i64 p.1)):=rfl
   have l1:loadA [.box [.pv (i64 p.1),.pv (i64 p.2)]] false 1 (.ptr 0 1)=some (.pv (i64 p.2)):=rfl
   generalize hQ:LN _ _ i=QQ
   by_cases c:j≤p.2 - p.1
   ·rw[if_pos c] at hs;injection hs with hs
    have d1:decide (j≤p.2 - p.1)=true:=dec_t c
    have t4:IntKind.i64.wrap (p.1+j)=p.1+j:=wrap_int (by omega)
    simp (implicitDefEqProofs:=false) only[SP,SA,WP,sevalprocAttr,-List.reduceReplicate,b_sets_Select_l0,e1,a1,rp2_loadA,s1,pp0,pp1,l0,l1,t3,t4,d1,envSl]
    subst hQ
    exact⟨_,_,rfl,by rw[← hs];simp[Tr.get_set],by simp[Tr.get_set]⟩
   ·rw[if_neg c] at hs
    have d1:decide (j≤p.2 - p.1)=false:=dec_f c
    have t4:IntKind.i64.wrap (p.2 - p.1+1)=p.2 - p.1+1:=wrap_int (by omega)
    have t5:IntKind.i64.wrap (j - (p.2 - p.1+1))=j - (p.2 - p.1+1):=wrap_int (by omega)
    simp (implicitDefEqProofs:=false) only[SP,SA,WP,sevalprocAttr,-List.reduceReplicate,b_sets_Select_l0,e1,t2,a1,rp2_loadA,s1,pp0,pp1,l0,l1,t3,t4,t5,d1,clean,cutEnv,AV.cut,cutObj,List.take_zero,deep_eq',envSl]
    subst hQ
    exact⟨_,rfl,by omega,by omega,hs⟩
  ·rintro t ⟨j,rfl,hj0,hjk,hs⟩
   rw[List.drop_length] at hs;cases hs
 obtain⟨r,g1,E,H,rfl,g4,g5⟩:=wpO_spec hloop
 have d0:decide (k < 0)=false:=dec_f (by omega)
 have g1':loopA (roundA (evalC (callL (fun _=>none) 8) b_sets_Select_l0) (clean 0 [1,10,11,12])) rounds ⟨(((Tr.lf.set 12 (.pv (.int .i64 0))).set 11 (.pv (i64 l.length))).set 10 (.pv v)).set 1 (.pv (i64 k)),[]⟩=some (.ret,⟨E,H⟩):=g1
 simp (implicitDefEqProofs:=false) only[F_sets_Select,SP,SA,WP,sevalprocAttr,-List.reduceReplicate,b_sets_Select,ls,C_loop,clean,cutEnv,AV.cut,deep_eq',d0,g1',g4,g5]
theorem spans_select_run {v:PV} {l:List (Int×Int)} (hv:HeldPart v l) (hp:PartOk l) {k:Int} (h0:0≤k) (h1:k < sizeR 0 l):
 ∃ x,F_spans_Select [v,i64 k]=some (.tup [i64 x,.bool true])∧selR k l=some x:=by
 obtain⟨u,q1,q2⟩:=spans_set_run v l hv.is hv.sz
 rw[setR_ok hp.2] at q2
 obtain⟨x,q3,q4⟩:=sets_select_run q2 (by have:=validR_len hp.2;unfold maxLen;omega) hp.2 h0 h1
 refine⟨x,?_,q4⟩
 have hv1:(AV.pv v).one=true:=by rcases hv.is with⟨h,_⟩ | h <;> rw[h] <;> rfl
 simp (implicitDefEqProofs:=false) only[F_spans_Select,SP,SA,WP,sevalprocAttr,-List.reduceReplicate,b_spans_Select,q1,q3]
theorem shape_count_run {e:PV} {s:Shp} {P:PV} {ps:List PV} (h:HeldShp e s P ps) (hok:ShpOk s):F_shape_Count [e]=some (i64 (prodS s.parts)):=by
 obtain⟨b1,hb1,hb1'⟩:=shape_valid_run h
 have:=hb1'.2 hok
 subst this
 have hst:=steps_run h hok
 have hP1:=h.Pone.1
 have heq:=h.eq
 subst heq
 have i0:∀ H,iaddrA' H 1 (.pv (.lit 1 ((stepsR s.parts).map i64))) 0=some (.pv (.rp [i64 (prodS s.parts)] 0)):=fun H=>by
  have:(stepsR s.parts).map i64=i64 (prodS s.parts)::((stepsR s.parts).map i64).tail:=by
   simp only[stepsR,List.range_succ_eq_map,List.map_cons,List.drop_zero,List.tail_cons]
  rw[this]
  simp only[iaddrA']
  rw[if_pos (by unfold idxOk;simp)];rfl
 simp (implicitDefEqProofs:=false) only[F_shape_Count,SP,SA,WP,sevalprocAttr,-List.reduceReplicate,b_shape_Count,hP1,rp2_loadA,hb1,hst,i0,rp1_load]
def unrankGo:List (List (Int×Int))→Int→List Int
 | [],_=>[]
 |l::r,k=>(selR (k.tdiv (prodS r)) l).getD 0::unrankGo r (k.tmod (prodS r))
theorem div_lt {k p q:Int} (h0:0≤k) (hp:1≤p) (h1:k < p * q):0≤k.tdiv p∧k.tdiv p < q∧0≤k.tmod p∧k.tmod p < p∧k.tdiv p * p+k.tmod p=k:=by
 rw[Int.tdiv_eq_ediv_of_nonneg h0,Int.tmod_eq_emod_of_nonneg h0]
 refine⟨Int.ediv_nonneg h0 (by omega),Int.ediv_lt_of_lt_mul (by omega) (by rw[Int.mul_comm];exact h1),Int.emod_nonneg _ (by omega),Int.emod_lt_of_pos _ (by omega),?_⟩
 rw[Int.mul_comm];exact Int.mul_ediv_add_emod k p
theorem unrank_rank:∀ (ls:List (List (Int×Int))) (k n:Int),(∀ l∈ls,PartOk l)→0≤k→k < prodS ls→rankGo ls (unrankGo ls k) n=some (n+k)∧(unrankGo ls k).length=ls.length∧∀ x∈unrankGo ls k,0≤x∧x≤255
 | [],k,n,_,h0,h1=>by
   have:k=0:=by rw[prodS] at h1;omega
   subst this
   exact⟨by rw[rankGo_nil,Int.add_zero],rfl,by simp[unrankGo]⟩
 |l::r,k,n,hp,h0,h1=>by
  have hpr:=prodS_pos (ls:=r) fun x hx=>hp x (by simp[hx])
  rw[prodS] at h1
  obtain⟨d1,d2,d3,d4,d5⟩:=div_lt h0 hpr h1
  obtain⟨x,q1,q2,q3,_,q5⟩:=selR_some (hp l (by simp)).2 d1 d2
  obtain⟨i1,i2,i3⟩:=unrank_rank r (k.tmod (prodS r)) (n+k.tdiv (prodS r) * prodS r) (fun x hx=>hp x (by simp[hx])) d3 d4
  rw[unrankGo,q1,Option.getD_some,rankGo,q5,if_pos rfl]
  simp only[Int.zero_add]
  rw[i1]
  refine⟨by congr 1;omega,by simp[i2],?_⟩
  intro y hy
  rcases List.mem_cons.1 hy with rfl | hy
  ·exact⟨q2,q3⟩
  ·exact i3 y hy
abbrev envUr (row:List PV) (S:PV) (n i k:Int) (nl:Bool) (es:List PV):Tr:=(((((Tr.lf.set 23 (.pv (i64 i))).set 22 (.pv (i64 n))).set 21 (.pv S)).set 6 (.uq 0 nl 1 es)).set 2 (.pv (.rp row 0))).set 1 (.pv (i64 k))
theorem unrank_run {e:PV} {s:Shp} {P:PV} {ps:List PV} (h:HeldShp e s P ps) (hok:ShpOk s) (k:Int):
 ((k < 0∨prodS s.parts≤k)→F_shape_Unrank [e,i64 k]=some (.tup [.nils,.bool false]))∧
 (0≤k→k < prodS s.parts→F_shape_Unrank [e,i64 k]=some (.tup [.lit 1 ((unrankGo s.parts k).map (PV.int .u8)),.bool true])):=by
 have hcn:=shape_count_run h hok
 have hst:=steps_run h hok
 have hP1:=h.Pone.1
 have heq:=h.eq
 subst heq
 have hP:=h.parts
 have h8:=hok.hi
 constructor
 ·rintro (h1 | h1)
  ·have d1:decide (k < 0)=true:=dec_t h1
   simp (implicitDefEqProofs:=false) only[F_shape_Unrank,SP,SA,WP,sevalprocAttr,-List.reduceReplicate,b_shape_Unrank,hP1,rp2_loadA,hcn,d1]
  ·have hp:=prodS_pos hok.parts
   have d1:decide (k < 0)=false:=dec_f (by omega)
   have d2:decide (k≥prodS s.parts)=true:=dec_t (by omega)
   simp (implicitDefEqProofs:=false) only[F_shape_Unrank,SP,SA,WP,sevalprocAttr,-List.reduceReplicate,b_shape_Unrank,hP1,rp2_loadA,hcn,d1,d2]
 ·intro h0 h1
  have hsl:∀ H,sliceA H 1 (.pv (.lit 1 ((stepsR s.parts).map i64))) (some 1) none=some (.pv (.lit 1 (((stepsR s.parts).map i64).drop 1))):=fun H=>lit_drop H (k:=1) (by omega) (by simp[stepsR])
  have hdl:(((stepsR s.parts).map i64).drop 1).length=s.parts.length:=by simp[stepsR]
  have hde:∀ i,i < s.parts.length→(((stepsR s.parts).map i64).drop 1)[i]? =some (i64 (prodS (s.parts.drop (i+1)))):=by
   intro i hi
   rw[List.getElem?_drop,List.getElem?_map,stepsR,List.getElem?_map,List.getElem?_range (by omega),Nat.add_comm 1 i];rfl
  generalize ((stepsR s.parts).map i64).drop 1=S at *
  have hpr:=hok.prod.2
  have hloop:wpO (fun r=>∃ E H,r=(.exit 0,⟨E,H⟩)∧E.get 6= .uq 0 false 1 ((unrankGo s.parts k).map (PV.int .u8)))
   (loopA (roundA (evalC (callL (fun _=>none) 8) b_shape_Unrank_l0) (clean 1 [1,2,6,21,22,23])) rounds ⟨envUr [P,i64 s.first] (.lit 1 S) s.parts.length 0 k true [],[.tok 1 0 true]⟩):=by
   refine wpO_mono (loopN_wp (fun i t=>∃ j nl es,t=⟨envUr [P,i64 s.first] (.lit 1 S) s.parts.length i j nl (es.map (PV.int .u8)),[.tok 1 i nl]⟩∧0≤j∧j < prodS (s.parts.drop i)∧(nl=decide (i=0))∧es.length=i∧unrankGo s.parts k=es++unrankGo (s.parts.drop i) j)
    s.parts.length (by unfold rounds;omega) _ ⟨k,true,[],rfl,h0,h1,rfl,rfl,rfl⟩ ?_ ?_) (fun r h=>h.2)
   ·rintro i t hi ⟨j,nl,es,rfl,hj0,hj1,hnl,hel,hs⟩
    obtain⟨v,hv,hpt,_⟩:=hP.iaddr hi []
    have a2:=hP.iaddrU hv
    have hpo:=hok.parts s.parts[i] (List.getElem_mem hi)
    have hd:s.parts.drop i=s.parts[i]::s.parts.drop (i+1):=List.drop_eq_getElem_cons hi
    rw[hd,prodS] at hj1
    rw[hd,unrankGo] at hs
    have hpos:=prodS_pos (ls:=s.parts.drop (i+1)) fun x hx=>hok.parts x (List.mem_of_mem_drop hx)
    have hle:=prodS_drop hok.parts (i+1)
    have hdv:=div_lt hj0 hpos hj1
    obtain⟨x,q1,q2⟩:=spans_select_run hpt hpo hdv.1 hdv.2.1
    obtain⟨_,q3,q4,q5,_⟩:=selR_some hpo.2 hdv.1 hdv.2.1
    rw[q2] at q3;injection q3 with q3;subst q3
    rw[q2,Option.getD_some] at hs
    have hle2:=prodS_drop hok.parts i
    rw[hd,prodS] at hle2
    have t3:IntKind.i64.wrap (j.tdiv (prodS (s.parts.drop (i+1))))=j.tdiv (prodS (s.parts.drop (i+1))):=wrap_int (by
     have:=hdv.2.2.2.2
     have h5:j.tdiv (prodS (s.parts.drop (i+1))) * 1≤j.tdiv (prodS (s.parts.drop (i+1))) * prodS (s.parts.drop (i+1)):=Int.mul_le_mul_of_nonneg_left hpos hdv.1
     omega)
    generalize s.parts[i]=l at *
    have a1:∀ H,iaddrA' H 1 (.pv (.lit 1 S)) (i:Int)=some (.pv (.rp [i64 (prodS (s.parts.drop (i+1)))] 0)):=fun H=>by
     simp only[iaddrA']
     rw[if_pos (by unfold idxOk;simp;omega),Int.toNat_natCast,hde i hi];rfl
    have e1:decide ((i:Int) < (s.parts.length:Int))=true:=dec_t (by omega)
    have t2:=stepWrap hi (by unfold maxLen;omega)
    have z0:(prodS (s.parts.drop (i+1))=0)=False:=by simp;omega
    have t4:IntKind.u8.wrap x=x:=wrap_u8 ⟨q4,q5⟩
    have hap:=byte_append (A:=[.tok 1 i nl]) (id:=0) (n:=i) (h:= .uq) (nl:=nl) (bytes:=1) (es:=es.map (PV.int .u8)) rfl (by simp[hel]) (by unfold roomOk;omega) (.int .u8 x)
    rw[List.set_cons_zero] at hap
    have hbm:(es++[x]).map (PV.int .u8)=es.map (PV.int .u8)++[.int .u8 x]:=by simp
    generalize hpq:prodS (s.parts.drop (i+1))=pr at *
    generalize hQ:LN _ _ i=QQ
    simp (implicitDefEqProofs:=false) only[SP,WP,setRow,sevalprocAttr,-List.reduceReplicate,b_shape_Unrank_l0,e1,t2,t3,t4,z0,a1,a2,rp1_load,rp2_place,rp2_load,q1,hap,clean,cutEnv,AV.cut,cutObj,deep_eq',envUr]
    subst hQ
    exact⟨_,false,es++[x],by rw[hbm],hdv.2.2.1,by rw[hpq];exact hdv.2.2.2.1,by simp,by simp[hel],by rw[hs];simp⟩
   ·rintro t ⟨j,nl,es,rfl,hj0,hj1,hnl,hel,hs⟩
    rw[List.drop_length,unrankGo,List.append_nil] at hs
    have hlo:=hok.lo
    have e1:decide ((s.parts.length:Int) < (s.parts.length:Int))=false:=dec_f (by omega)
    have:nl=false:=by rw[hnl,decide_eq_false_iff_not];omega
    subst this
    generalize hQ:(fun r:Ex×St=>r.1.stop=true∧_)=Q
    simp (implicitDefEqProofs:=false) only[SP,SA,WP,sevalprocAttr,-List.reduceReplicate,b_shape_Unrank_l0,e1,envUr]
    subst hQ
    exact⟨rfl,_,_,rfl,by rw[hs];simp[Tr.get_set]⟩
  obtain⟨r,g1,E,H,rfl,g6⟩:=wpO_spec hloop
  have g1':loopA (roundA (evalC (callL (fun _=>none) 8) b_shape_Unrank_l0) (clean 1 [1,2,6,21,22,23])) rounds ⟨(((((Tr.lf.set 23 (.pv (.int .i64 0))).set 22 (.pv (i64 s.parts.length))).set 21 (.pv (.lit 1 S))).set 6 (.uq 0 true 1 [])).set 2 (.pv (.rp [P,i64 s.first] 0))).set 1 (.pv (i64 k)),[.tok 1 0 true]⟩=some (.exit 0,⟨E,H⟩):=g1
  have d1:decide (k < 0)=false:=dec_f (by omega)
  have d2:decide (k≥prodS s.parts)=false:=dec_f (by omega)
  have hz:(0 < 1)=True:=by simp
  simp (implicitDefEqProofs:=false) only[F_shape_Unrank,SP,SA,WP,sevalprocAttr,-List.reduceReplicate,b_shape_Unrank,hP1,rp2_loadA,hcn,d1,d2,hst,hsl,hdl,ghostA,hz,C_loop,clean,cutEnv,AV.cut,cutObj,deep_eq',g1',g6]
end Go.AM.B1
namespace Go.AM.B1
open Go.AM Go.AM.So
def cdS (u:Int):List Shp→Option (List Int)
 | []=>none
 |s::r=>if s.first≤u∧u < s.first+prodS s.parts then some (unrankGo s.parts (u - s.first)) else cdS u r
theorem cdS_some {u:Int}:∀ {ss:List Shp} {b:List Int},(∀ s∈ss,ShpOk s)→cdS u ss=some b→∃ s∈ss,s.first≤u∧u < s.first+prodS s.parts∧b=unrankGo s.parts (u - s.first)∧rankS s b=some (u - s.first)∧(∀ x∈b,0≤x∧x≤255)∧b≠[]
 |s::r,b,h,he=>by
  rw[cdS] at he
  split at he
  ·next hc=>
   injection he with he;subst he
   have hs:=h s (by simp)
   obtain⟨h1,h2,h3⟩:=unrank_rank s.parts (u - s.first) 0 hs.parts (by omega) (by omega)
   refine⟨s,by simp,hc.1,hc.2,rfl,?_,h3,?_⟩
   ·unfold rankS;rw[if_pos h2,h1,Int.zero_add]
   ·intro h4;rw[h4] at h2;have:=hs.lo;simp at h2;omega
  ·obtain⟨s',h1,h2⟩:=cdS_some (fun x hx=>h x (by simp[hx])) he
   exact⟨s',by simp[h1],h2⟩
abbrev envEn (S:PV) (n i u:Int):Tr:=(((Tr.lf.set 12 (.pv (i64 i))).set 11 (.pv (i64 n))).set 10 (.pv S)).set 1 (.pv (i64 u))
def encP (o:Option (List Int)):PV:=match o with
 |some b=> .lit 1 (b.map (PV.int .u8))
 |none=> .nils
theorem encode_run {S:PV} {ss:List Shp} {es:List PV} (hS:HeldSch S ss es) (hok:SchOk ss) {u:Int} (hu:u≤9223372036854775807):F_code_encode [.agg [S],i64 u]=some (encP (cdS u ss)):=by
 have hS1:(AV.pv S).one=true:=by rcases hS.is with⟨h,_⟩ | h <;> rw[h] <;> rfl
 have lA:=hS.lenA
 have hm:=hS.sz
 have hloop:wpO (fun r=>∃ E H,(r=(.exit 0,⟨E,H⟩)∧cdS u ss=none)∨(r=(.ret,⟨E,H⟩)∧E.get 4= .pv (encP (cdS u ss))))
  (loopA (roundA (evalC (callL (fun _=>none) 8) b_code_encode_l0) (clean 0 [1,10,11,12])) rounds ⟨envEn S ss.length 0 u,[]⟩):=by
  refine wpO_mono (loopN_wp (fun i t=>t=⟨envEn S ss.length i u,[]⟩∧cdS u ss=cdS u (ss.drop i))
   ss.length (by unfold rounds;unfold maxLen at hm;omega) _ ⟨rfl,rfl⟩ ?_ ?_) (fun r h=>h.2)
  ·rintro i t hi ⟨rfl,hs⟩
   obtain⟨P,ps,hP,a1⟩:=hS.iaddr hi
   have hsk:=hok.shp _ (List.getElem_mem hi)
   have hur:=unrank_run hP hsk (u - ss[i].first)
   have hP1:=hP.Pone.1
   have e1:decide ((i:Int) < (ss.length:Int))=true:=dec_t (by omega)
   have t2:=stepWrap hi hm
   have hdr:ss.drop i=ss[i]::ss.drop (i+1):=List.drop_eq_getElem_cons hi
   rw[hdr,cdS] at hs
   have hf0:=hsk.f0
   generalize ss[i]=s at *
   have s1:storeA [.box [.pv .nils,.pv (i64 0)]] 2 (.ptr 0 0) (.pv (.agg [P,i64 s.first]))=some [.box [.pv P,.pv (i64 s.first)]]:=box2_store _ _ _ _ hP1 rfl [] _ rfl
   have p1:place [.box [.pv P,.pv (i64 s.first)]] 1 (.ptr 0 0)=some (.ptr 0 1):=rfl
   have l1:loadA [.box [.pv P,.pv (i64 s.first)]] false 1 (.ptr 0 1)=some (.pv (i64 s.first)):=rfl
   have l2:loadA [.box [.pv P,.pv (i64 s.first)]] true 2 (.ptr 0 0)=some (.pv (.agg [P,i64 s.first])):=rfl
   generalize hQ:LN _ _ i=QQ
   by_cases c1:u < s.first
   ·rw[if_neg (by omega)] at hs
    have d1:decide (u < s.first)=true:=dec_t c1
    simp (implicitDefEqProofs:=false) only[SP,SA,WP,sevalprocAttr,-List.reduceReplicate,b_code_encode_l0,e1,t2,a1,rp2_loadA,s1,l2,p1,l1,d1,clean,cutEnv,AV.cut,cutObj,List.take_zero,deep_eq',envEn]
    subst hQ
    exact⟨rfl,hs⟩
   ·have d1:decide (u < s.first)=false:=dec_f c1
    have t3:IntKind.i64.wrap (u - s.first)=u - s.first:=wrap_int (by omega)
    by_cases c2:u < s.first+prodS s.parts
    ·rw[if_pos ⟨by omega,c2⟩] at hs
     have hr:=hur.2 (by omega) (by omega)
     simp (implicitDefEqProofs:=false) only[SP,SA,WP,sevalprocAttr,-List.reduceReplicate,b_code_encode_l0,e1,t3,a1,rp2_loadA,s1,l2,p1,l1,d1,hr,envEn]
     subst hQ
     exact⟨_,_,.inr ⟨rfl,by rw[hs];simp[Tr.get_set,encP]⟩⟩
    ·rw[if_neg (by omega)] at hs
     have hr:=hur.1 (.inr (by omega))
     simp (implicitDefEqProofs:=false) only[SP,SA,WP,sevalprocAttr,-List.reduceReplicate,b_code_encode_l0,e1,t2,t3,a1,rp2_loadA,s1,l2,p1,l1,d1,hr,clean,cutEnv,AV.cut,cutObj,List.take_zero,deep_eq',envEn]
     subst hQ
     exact⟨rfl,hs⟩
  ·rintro t ⟨rfl,hs⟩
   rw[List.drop_length,cdS] at hs
   have e1:decide ((ss.length:Int) < (ss.length:Int))=false:=dec_f (by omega)
   generalize hQ:(fun r:Ex×St=>r.1.stop=true∧_)=Q
   simp (implicitDefEqProofs:=false) only[SP,SA,WP,sevalprocAttr,-List.reduceReplicate,b_code_encode_l0,e1,envEn]
   subst hQ
   exact⟨rfl,_,_,.inl ⟨rfl,hs⟩⟩
 apply wpO_eq
 have hen:(AV.pv (encP (cdS u ss))).one=true:=by unfold encP;cases cdS u ss <;> rfl
 simp (implicitDefEqProofs:=false) only[F_code_encode,SP,SA,WP,sevalprocAttr,-List.reduceReplicate,b_code_encode,hS1,rp1_place,rp1_load,lA,C_loop,clean,cutEnv,AV.cut,cutObj,List.take_zero,deep_eq']
 refine wpO_mono hloop ?_
 rintro r ⟨E,H,⟨rfl,hn⟩ | ⟨rfl,h4⟩⟩
 ·rw[hn]
  simp (implicitDefEqProofs:=false) only[SP,SA,WP,sevalprocAttr,-List.reduceReplicate,encP]
 ·generalize encP (cdS u ss)=v at *
  simp (implicitDefEqProofs:=false) only[SP,SA,WP,sevalprocAttr,-List.reduceReplicate,h4]
theorem encode_code_run {S:PV} {ss:List Shp} {es:List PV} (hS:HeldSch S ss es) {u:Int} (hu:u≤9223372036854775807):
 (¬ SchOk ss→F_code_Encode [.agg [S],i64 u]=some (.tup [.nils,i64 84]))∧
 (SchOk ss→cdS u ss=none→F_code_Encode [.agg [S],i64 u]=some (.tup [.nils,i64 100]))∧
 (SchOk ss→∀ b,cdS u ss=some b→F_code_Encode [.agg [S],i64 u]=some (.tup [.lit 1 (b.map (PV.int .u8)),i64 0])):=by
 obtain⟨b,hb,hb'⟩:=scheme_valid_run hS
 have hS1:(AV.pv S).one=true:=by rcases hS.is with⟨h,_⟩ | h <;> rw[h] <;> rfl
 refine⟨fun hn=> ?_,fun hok he=> ?_,fun hok c he=> ?_⟩
 ·have:b=false:=by cases b with | false=>rfl | true=>exact absurd (hb'.1 rfl) hn
  subst this
  simp (implicitDefEqProofs:=false) only[F_code_Encode,SP,SA,WP,sevalprocAttr,-List.reduceReplicate,b_code_Encode,hS1,rp1_loadA,hb]
 ·have:b=true:=hb'.2 hok
  subst this
  have hr:=encode_run hS hok hu
  rw[he] at hr
  simp (implicitDefEqProofs:=false) only[F_code_Encode,SP,SA,WP,sevalprocAttr,-List.reduceReplicate,b_code_Encode,hS1,rp1_loadA,hb,hr,encP,eqA]
 ·have:b=true:=hb'.2 hok
  subst this
  have hr:=encode_run hS hok hu
  rw[he] at hr
  simp (implicitDefEqProofs:=false) only[F_code_Encode,SP,SA,WP,sevalprocAttr,-List.reduceReplicate,b_code_Encode,hS1,rp1_loadA,hb,hr,encP,eqA]
end Go.AM.B1
namespace Go.AM.B1
open Go.AM Go.AM.So
theorem matS_take {s:Shp} {w:List Nat} (h:matS s w) (m:Nat):matS s (w.take m):=matS_pre (u:=w.drop m) (by rw[List.take_append_drop];exact h)
theorem knows_sem {ss:List Shp} {l:List (List Edg)} (hok:SchOk ss) (hpre:PreOk ss) (ha:autoS ss=some l) {w:List Nat} (hw:Bytes w) {s:Shp} (hs:s∈ss) (hf:Full s w):
 (∀ more,Bytes more→matchS l 0 0 (nts (w++more))=((w.length:Int),1))∧∀ i,i < w.length→matchS l 0 0 (nts (w.take i))=((i:Int),2):=by
 have hno:∀ q∈ss,∀ u,Bytes u→Full q u→∀ v,matS s (u++v)→¬u.length < w.length:=by
  intro q hq u hu h1 v h2 h3
  refine pre_no hok hpre hq hs hu h1 (matS_pre h2) ?_
  have:=hf.2;have:=h1.2;omega
 have hno2:∀ q∈ss,∀ v,matS q (w++v)→v≠[]→False:=by
  intro q hq v h2 h3
  refine pre_no hok hpre hs hq hw hf (matS_pre h2) ?_
  have h4:=matS_len h2
  rw[List.length_append] at h4
  have:=hf.2
  have:0 < v.length:=by cases v with | nil=>exact absurd rfl h3 | cons=>simp
  omega
 have hlo:=(hok.shp s hs).lo
 have hl:=hf.2
 constructor
 ·intro more hm
  have hb:Bytes (w++more):=fun x hx=>by rcases List.mem_append.1 hx with h | h;exact hw x h;exact hm x h
  obtain⟨m,hmle,hc⟩:=match_sem hok hpre ha _ hb
  have htk:∀ k,w.length < k→k≤(w++more).length→∃ v,(w++more).take k=w++v∧v≠[]:=by
   intro k h1 h2
   refine⟨more.take (k - w.length),by rw[List.take_append,List.take_of_length_le (by omega)],fun e=> ?_⟩
   have h3:(more.take (k - w.length)).length=0:=by rw[e];rfl
   rw[List.length_append] at h2
   rw[List.length_take] at h3;omega
  have htl:∀ k,k≤w.length→(w++more).take k=w.take k:=fun k hk=>by rw[List.take_append_of_le_length hk]
  rcases hc with⟨h1,q,h2,h3⟩ | ⟨h1,h2,h3,h4⟩ | ⟨h1,h2,h3,h4,h5⟩
  ·have:m=w.length:=by
    rcases Nat.lt_trichotomy m w.length with h6 | h6 | h6
    ·rw[htl m (by omega)] at h3
     exact absurd (by rw[List.length_take];omega) (hno q h2 (w.take m) (fun x hx=>hw x (List.mem_of_mem_take hx)) h3 (w.drop m) (by rw[List.take_append_drop];exact hf.1))
    ·exact h6
    ·obtain⟨v,e,hv⟩:=htk m h6 hmle
     rw[e] at h3;exact (hno2 q h2 v h3.1 hv).elim
   rw[← this];exact h1
  ·exfalso
   by_cases hm0:more=[]
   ·subst hm0;rw[List.append_nil] at h4;exact h4 s hs hf
   ·rcases h3 with h3 | ⟨q,h5,h6⟩
    ·have:=congrArg List.length h3;simp at this;exact hm0 this.2
    ·exact hno2 q h5 more h6 hm0
  ·exfalso
   have h6:w.length≤m:=by
    rcases Nat.lt_or_ge m w.length with h7 | h7
    ·exact absurd (by rw[htl _ (by omega)];exact matS_take hf.1 _) (h5 s hs)
    ·exact h7
   rcases Nat.lt_or_ge w.length m with h7 | h7
   ·obtain⟨v,e,hv⟩:=htk m h7 hmle
    rw[e] at h3
    rcases h3 with h3 | ⟨q,h8,h9⟩
    ·have:=congrArg List.length h3;simp at this;exact hv this.2
    ·exact hno2 q h8 v h9 hv
   ·have:m=w.length:=by omega
    subst this
    rw[htl _ (Nat.le_refl _),List.take_length] at h4
    exact h4 s hs hf
 ·intro i hi
  have hb:Bytes (w.take i):=fun x hx=>hw x (List.mem_of_mem_take hx)
  obtain⟨m,hmle,hc⟩:=match_sem hok hpre ha _ hb
  have hil:(w.take i).length=i:=by rw[List.length_take];omega
  have hm1:matS s (w.take i):=matS_take hf.1 i
  rcases hc with⟨h1,q,h2,h3⟩ | ⟨h1,h2,h3,h4⟩ | ⟨h1,h2,h3,h4,h5⟩
  ·exact absurd (by rw[List.length_take,hil];omega) (hno q h2 ((w.take i).take m) (fun x hx=>hb x (List.mem_of_mem_take hx)) h3 ((w.take i).drop m++w.drop i) (by rw[← List.append_assoc,List.take_append_drop,List.take_append_drop];exact hf.1))
  ·rw[h2,hil] at h1;exact h1
  ·exact absurd (matS_take hm1 _) (h5 s hs)
abbrev envKn (V:PV) (W:PV) (n i:Int):Tr:=(((Tr.lf.set 59 (.pv (i64 i))).set 58 (.pv (i64 n))).set 9 (.pv W)).set 7 (.ptr 0 0)
theorem knows_run {S:PV} {ss:List Shp} {es:List PV} (hS:HeldSch S ss es) {u:Int} (hu:u≤9223372036854775807) {B:PV} {bs:List Int} (hB:HeldB B bs) (hw:bs.length≤140737488355320):
 pureF (fun _=>none) b_leadtraillaw13_AutoKnows [.agg [S],i64 u,B]=some (.bool true):=by
 have hS1:(AV.pv S).one=true:=by rcases hS.is with⟨h,_⟩ | h <;> rw[h] <;> rfl
 have hfx:=fixed_run
 have hB1:=hB.one
 obtain⟨V,l,n,hV,hn0,hn1,hb⟩:=prog_build ss
 have hb:=hb _ _ hS
 have hV1:(AV.pv V).one=true:=by rcases hV.form with rfl | ⟨av,rfl⟩ <;> rfl
 have st1:storeA [.box [.pv .nils]] 1 (.ptr 0 0) (.pv (.agg [V]))=some [.box [.pv V]]:=by simp[storeA,AV.cells,PV.cells,hV1,setRow]
 have p0:∀ V c,place (.box [.pv V]::c) 0 (.ptr 0 0)=some (.ptr 0 0):=fun V c=>rfl
 have l0:∀ V c,loadA (.box [.pv V]::c) false 1 (.ptr 0 0)=some (.pv V):=fun V c=>rfl
 have l1:∀ V c,loadA (.box [.pv V]::c) true 1 (.ptr 0 0)=some (.pv (.agg [V])):=fun V c=>rfl
 obtain⟨en1,en2,en3⟩:=encode_code_run hS hu
 by_cases hn:n=0
 ·obtain⟨l',ha,hok,hpre,rfl,rfl⟩:=hn0.1 hn
  subst hn
  cases hc:cdS u ss with
  |none=>
   have he:=en2 hok hc
   have z1:((100:Int) != 0)=true:=rfl
   have z2:((100:Int)==100)=true:=rfl
   generalize encSt l=V at *
   simp (implicitDefEqProofs:=false) only[SP,SA,WP,sevalprocAttr,-List.reduceReplicate,b_leadtraillaw13_AutoKnows,hfx,hS1,hB1,hV1,rp1_loadA,hb,st1,he,z1,z2]
  |some c=>
   have he:=en3 hok c hc
   obtain⟨s,hs,_,_,_,hrk,hrg,hcne⟩:=cdS_some hok.shp hc
   obtain⟨w,rfl,hwb⟩:=nts_of (bs:=c) (fun b hb=>hrg b hb)
   obtain⟨v,rfl,hvb⟩:=nts_of hB.rng
   have hf:=(rankS_full (hok.shp s hs) w).1 (by rw[hrk];rfl)
   obtain⟨k1,k2⟩:=knows_sem hok hpre ha hwb hs hf
   have hwl:w.length≤8:=by have:=hf.2;have:=(hok.shp s hs).hi;omega
   have hHw:HeldB (.lit 1 ((nts w).map (PV.int .u8))) (nts w):=⟨.inr rfl,hrg⟩
   have lW:=hHw.lenA
   rw[List.length_map] at lW
   have hvl:v.length≤140737488355320:=by simpa using hw
   have hel:elemsP 1 (.pv B)=some ((nts v).map (PV.int .u8)):=by
    rcases hB.is with⟨rfl,h⟩ | rfl
    ·have:nts v=[]:=by simpa using h
     rw[this];rfl
    ·rfl
   have hbr:∀ x∈nts (w++v),0≤x∧x≤255:=by
    intro x hx
    rw[nts,List.map_append] at hx
    rcases List.mem_append.1 hx with h | h
    ·exact hrg x h
    ·exact hB.rng x h
   have hm1:=match_run (encSt l) (.lit 1 ((nts (w++v)).map (PV.int .u8))) l hV (nts (w++v)) (.inr rfl) hbr (by simp;unfold maxLen;omega)
   rw[k1 v hvb] at hm1
   have ap1:appendA [.box [.pv (encSt l)],.tok 1 0 false] false .uq 1 false 1 (.uq 1 false 1 []) (.pv (.lit 1 ((nts w).map (PV.int .u8))))=some (.uq 1 false 1 ((nts w).map (PV.int .u8)),[.box [.pv (encSt l)],.tok 1 w.length false]):=by
    simp only[appendA,Bool.false_eq_true,if_false,elemsP,if_true,List.getElem?_cons_succ,List.getElem?_cons_zero,Option.bind_some,List.length_nil,Nat.zero_add]
    rw[if_pos ⟨trivial,trivial,trivial,by unfold roomOk;simp;omega⟩]
    simp
   have ap2:appendA [.box [.pv (encSt l)],.tok 1 w.length false] false .uq 1 false 1 (.uq 1 false 1 ((nts w).map (PV.int .u8))) (.pv B)=some (.uq 1 false 1 ((nts (w++v)).map (PV.int .u8)),[.box [.pv (encSt l)],.tok 1 (w.length+v.length) false]):=by
    simp only[appendA,Bool.false_eq_true,if_false,hel,List.getElem?_cons_succ,List.getElem?_cons_zero,Option.bind_some]
    rw[if_pos ⟨trivial,trivial,by simp,by unfold roomOk;simp;omega⟩]
    simp
   have hloop:wpO (fun r=>∃ E H,r=(.exit 0,⟨E,H⟩))
    (loopA (roundA (evalC (callL (fun _=>none) 8) b_leadtraillaw13_AutoKnows_l0) (clean 2 [7,9,58,59])) rounds ⟨envKn (encSt l) (.lit 1 ((nts w).map (PV.int .u8))) w.length 0,[.box [.pv (encSt l)],.tok 1 (w.length+v.length) false]⟩):=by
    refine wpO_mono (loopN_wp (fun i t=>t=⟨envKn (encSt l) (.lit 1 ((nts w).map (PV.int .u8))) w.length i,[.box [.pv (encSt l)],.tok 1 (w.length+v.length) false]⟩)
     w.length (by unfold rounds;omega) _ rfl ?_ ?_) (fun r h=>h.2)
    ·rintro i t hi rfl
     obtain⟨B',q1,q2,q3⟩:=hHw.take (n:=i) (by simp;omega)
     have q2':HeldB B' (nts (w.take i)):=by simpa[List.map_take] using q2
     have hm2:=match_run (encSt l) B' l hV (nts (w.take i)) q2'.is q2'.rng (by simp;unfold maxLen;omega)
     rw[k2 i hi] at hm2
     have e1:decide ((i:Int) < (w.length:Int))=true:=dec_t (by omega)
     have t2:=stepWrap hi (by unfold maxLen;omega)
     have z1:((i:Int) != (i:Int))=false:=by simp
     have z2:((2:Int) != 2)=false:=rfl
     have htk:∀ a b:AObj,([a,b]:List AObj).take 2=[a,b]:=fun a b=>rfl
     have hct:∀ V n,mapO (cutObj 2) [.box [.pv V],.tok 1 n false]=some [.box [.pv V],.tok 1 n false]:=fun V n=>rfl
     have hz:(0 < 2)=True:=by simp
     generalize hQ:LN _ _ i=QQ
     generalize hVV:encSt l=V at *
     generalize (PV.lit 1 ((nts w).map (PV.int .u8)))=W at *
     simp (implicitDefEqProofs:=false) only[SP,SA,WP,sevalprocAttr,-List.reduceReplicate,b_leadtraillaw13_AutoKnows_l0,e1,t2,l1,q1,q3,hm2,z1,z2,clean,cutEnv,AV.cut,htk,hct,hz,deep_eq',envKn]
     subst hQ;rfl
    ·rintro t rfl
     have e1:decide ((w.length:Int) < (w.length:Int))=false:=dec_f (by omega)
     generalize hQ:(fun r:Ex×St=>r.1.stop=true∧_)=Q
     simp (implicitDefEqProofs:=false) only[SP,SA,WP,sevalprocAttr,-List.reduceReplicate,b_leadtraillaw13_AutoKnows_l0,e1,envKn]
     subst hQ
     exact⟨rfl,_,_,rfl⟩
   obtain⟨r,g1,E,H,rfl⟩:=wpO_spec hloop
   have g1':loopA (roundA (evalC (callL (fun _=>none) 8) b_leadtraillaw13_AutoKnows_l0) (clean 2 [7,9,58,59])) rounds ⟨(((Tr.lf.set 59 (.pv (.int .i64 0))).set 58 (.pv (i64 w.length))).set 9 (.pv (.lit 1 ((nts w).map (PV.int .u8))))).set 7 (.ptr 0 0),[.box [.pv (encSt l)],.tok 1 (w.length+v.length) false]⟩=some (.exit 0,⟨E,H⟩):=g1
   have z1:((w.length:Int) != (w.length:Int))=false:=by simp
   have z2:((1:Int) != 1)=false:=rfl
   have htk:∀ a b:AObj,([a,b]:List AObj).take 2=[a,b]:=fun a b=>rfl
   have hct:∀ V n,mapO (cutObj 2) [.box [.pv V],.tok 1 n false]=some [.box [.pv V],.tok 1 n false]:=fun V n=>rfl
   have hz:(0 < 2)=True:=by simp
   generalize encSt l=V at *
   generalize (nts (w++v)).map (PV.int .u8)=WV at *
   generalize (nts w).map (PV.int .u8)=W at *
   simp (implicitDefEqProofs:=false) only[SP,WP,setRow,sevalprocAttr,-List.reduceReplicate,b_leadtraillaw13_AutoKnows,hfx,hS1,hB1,hV1,rp1_loadA,hb,st1,he,l1,fresh,ap1,ap2,hm1,lW,z1,z2,C_loop,clean,cutEnv,AV.cut,htk,hct,hz,deep_eq',g1']
 ·have d1:(n != 0)=true:=by simp[hn]
  have z0:((0:Int)==0)=true:=rfl
  have hVn:=hn1 hn
  subst hVn
  have key:∀ X m,F_code_Encode [.agg [S],i64 u]=some (.tup [X,i64 m])→(AV.pv X).one=true→pureF (fun _=>none) b_leadtraillaw13_AutoKnows [.agg [S],i64 u,B]=some (.bool true):=by
   intro X m he hX
   simp (implicitDefEqProofs:=false) only[SP,SA,WP,sevalprocAttr,-List.reduceReplicate,b_leadtraillaw13_AutoKnows,hfx,hS1,hB1,hV1,rp1_loadA,hb,st1,he,d1,p0,l0,lenA_nils,z0]
  by_cases hok:SchOk ss
  ·cases hc:cdS u ss with
   |none=>exact key _ _ (en2 hok hc) rfl
   |some c=>exact key _ _ (en3 hok c hc) rfl
  ·exact key _ _ (en1 hok) rfl
end Go.AM.B1
namespace Go.AM.B1
open Go.AM Go.AM.So
theorem metE_mono:∀ (l:List Edg) (m:Int),m≤metE m l
 | [],m=>Int.le_refl m
 |e::l,m=>by
  have:=metE_mono l (if e.to=m then m+1 else m)
  show m≤metE (if e.to=m then m+1 else m) l
  split at this <;> split <;> omega
theorem metS_mono:∀ (l:List (List Edg)) (m:Int),m≤metS m l
 | [],m=>Int.le_refl m
 |e::l,m=>by
  have h1:=metE_mono e m
  have h2:=metS_mono l (metE m e)
  show m≤metS (metE m e) l
  omega
section
variable {ss:List Shp} {sets:List Al} {C:List (List Int)} {O:List Int} {l:List (List Edg)} (h:LIs ss sets C O l)
include h
theorem LIs.at {k:Nat} (hk:k < l.length):∃ j,j < C.length∧O[k]? =some (co C j):=by
 have hkO:k < O.length:=by rw[h.len];exact hk
 obtain⟨j,hj,e⟩:=h.told.all O[k] (List.getElem_mem hkO)
 exact⟨j,hj,by rw[List.getElem?_eq_getElem hkO,e]⟩
theorem LIs.edge {k:Nat} {e:List Edg} (hk:l[k]? =some e):∀ x∈e,0≤x.lo∧x.lo≤x.hi∧x.hi≤255∧(x.to= -1∨1≤x.to)∧x.to < l.length:=by
 intro x hx
 have hkl:=(List.getElem?_eq_some_iff.1 hk).1
 obtain⟨j,hj,hO⟩:=h.at hkl
 obtain⟨row,h1,h2⟩:=h.row hO hj
 rw[hk] at h1;injection h1 with h1;subst h1
 have hI:=edges_inv row
 obtain⟨r1,r2,r3,r4⟩:=hI.rng x hx
 have hst:=hI.step x.lo.toNat (by omega)
 have hlo:((x.lo.toNat:Nat):Int)=x.lo:=Int.toNat_of_nonneg r1
 rw[hlo,stepEd_mem hI.ord x hx (Int.le_refl _) r2] at hst
 have hto:x.to=row.getD x.lo.toNat 0:=by
  split at hst
  ·cases hst
  ·injection hst
 have h3:=h2 x.lo.toNat (by omega)
 have hb:=h.W.bound h.hl hj (x:=x.lo.toNat) (by omega)
 refine⟨r1,r2,by omega,?_,?_⟩
 ·by_cases c:nxt C j x.lo.toNat < 0
  ·have:=h3.1 c;omega
  ·obtain⟨k',e1,e2,_⟩:=h3.2 (by omega);right;omega
 ·have:=h.told.tos _ (List.mem_of_getElem? hk) x hx
  rw[h.len] at this;exact this
theorem LIs.tight {k:Nat} {e:List Edg} (hk:l[k]? =some e) {i:Nat} {a b:Edg} (ha:e[i]? =some a) (hb:e[i+1]? =some b):a.hi < b.lo∧a.hi≤255∧(b.lo=a.hi+1→b.to≠a.to):=by
 have hkl:=(List.getElem?_eq_some_iff.1 hk).1
 obtain⟨j,hj,hO⟩:=h.at hkl
 obtain⟨row,h1,h2⟩:=h.row hO hj
 rw[hk] at h1;injection h1 with h1;subst h1
 have hI:=edges_inv row
 have hi1:=(List.getElem?_eq_some_iff.1 ha).1
 have hi2:=(List.getElem?_eq_some_iff.1 hb).1
 have ha':(edgesS row)[i]=a:=(List.getElem?_eq_some_iff.1 ha).2
 have hb':(edgesS row)[i+1]=b:=(List.getElem?_eq_some_iff.1 hb).2
 have hp:=List.pairwise_iff_getElem.1 hI.ord i (i+1) hi1 hi2 (by omega)
 rw[ha',hb'] at hp
 have:=(hI.rng a (List.mem_of_getElem? ha)).2.2.1
 exact⟨hp,by omega,hI.tight i a b ha hb⟩
theorem LIs.apart {i k:Nat} (hik:i < k) {a b:List Edg} (ha:l[i]? =some a) (hb:l[k]? =some b):a≠b:=by
 intro hab
 have hkl:=(List.getElem?_eq_some_iff.1 hb).1
 obtain⟨p,hp,hOp⟩:=h.at (k:=i) (by omega)
 obtain⟨q,hq,hOq⟩:=h.at hkl
 obtain⟨r1,g1,g2⟩:=h.row hOp hp
 obtain⟨r2,g3,g4⟩:=h.row hOq hq
 rw[ha] at g1;rw[hb] at g3
 injection g1 with g1;injection g3 with g3
 have hx:∀ x,x < 256→nxtC C p x=nxtC C q x:=by
  intro x hx
  have s1:=(edges_inv r1).step x hx
  have s2:=(edges_inv r2).step x hx
  rw[← g1] at s1;rw[← g3,←hab,s1] at s2
  have hrow:r1.getD x 0=r2.getD x 0:=by
   split at s2 <;> split at s2
   ·omega
   ·cases s2
   ·cases s2
   ·exact Option.some.inj s2
  rw[nxtC_co h.W h.hl hp hx,nxtC_co h.W h.hl hq hx]
  have t1:=g2 x hx
  have t2:=g4 x hx
  by_cases c1:0≤nxt C p x
  ·obtain⟨k1,e1,_,e2⟩:=t1.2 c1
   by_cases c2:0≤nxt C q x
   ·obtain⟨k2,e3,_,e4⟩:=t2.2 c2
    rw[if_pos c1,if_pos c2]
    have:k1=k2:=by omega
    subst this
    rw[e2] at e4;exact Option.some.inj e4
   ·have:=t2.1 (by omega);omega
  ·have:=t1.1 (by omega)
   by_cases c2:0≤nxt C q x
   ·obtain⟨k2,e3,_,e4⟩:=t2.2 c2;omega
   ·have:=t2.1 (by omega)
    rw[if_neg c1,if_neg c2];omega
 have hc:=(h.W.cls_iff h.hl hp hq).2 hx
 have hco:co C p=co C q:=by
  unfold co
  by_cases p0:p=0
  ·by_cases q0:q=0
   ·rw[if_pos p0,if_pos q0]
   ·subst p0;exact absurd hc (h.W.first_alone h.ok h.pre h.hl (by omega) hq)
  ·by_cases q0:q=0
   ·subst q0;exact absurd hc.symm (h.W.first_alone h.ok h.pre h.hl (by omega) hp)
   ·rw[if_neg p0,if_neg q0];exact hc
 have hn:=h.told.ord.1
 have i1:=(List.getElem?_eq_some_iff.1 hOp)
 have i2:=(List.getElem?_eq_some_iff.1 hOq)
 obtain⟨u1,v1⟩:=i1
 obtain⟨u2,v2⟩:=i2
 exact (List.pairwise_iff_getElem.1 hn i k u1 u2 hik) (by rw[v1,v2,hco])
theorem LIs.some_edge {k:Nat} {e:List Edg} (hk:l[k]? =some e) (hne:ss≠[]):e≠[]:=by
 have hkl:=(List.getElem?_eq_some_iff.1 hk).1
 obtain⟨j,hj,hO⟩:=h.at hkl
 obtain⟨row,h1,h2⟩:=h.row hO hj
 rw[hk] at h1;injection h1 with h1
 obtain⟨w,hw,hr⟩:=h.W.path h.hl j j (Nat.le_refl _) hj
 have hex:∃ s∈ss,matS s w∧w.length < s.parts.length:=by
  rcases run_sem h.ok h.pre h.W h.hl _ w rfl hw with⟨q,_⟩ | ⟨_,_,q,_⟩ | ⟨q,_⟩
  ·omega
  ·rcases q with rfl | q
   ·obtain⟨s,hs⟩:=List.exists_mem_of_ne_nil _ hne
    exact⟨s,hs,matS_nil s,(h.ok.shp s hs).lo⟩
   ·exact q
  ·omega
 obtain⟨s,hs,hm,hlt⟩:=hex
 obtain⟨x,hx,hmx⟩:=mem_some ((h.ok.shp s hs).parts _ (List.getElem_mem hlt))
 have hm2:matS s (w++[x]):=matS_snoc.2 ⟨hm,by unfold memAt;rw[List.getElem?_eq_getElem hlt];exact hmx⟩
 have hbw:Bytes (w++[x]):=fun y hy=>by
  rcases List.mem_append.1 hy with q | q
  ·exact hw y q
  ·simp at q;subst q;exact hx
 have hn:nxt C j x≠ -2:=by
  rcases run_sem h.ok h.pre h.W h.hl _ (w++[x]) rfl hbw with⟨q,_⟩ | ⟨q,_⟩ | ⟨_,_,q⟩
  ·rw[runT_snoc,hr,if_neg (by omega),Int.toNat_natCast] at q;omega
  ·rw[runT_snoc,hr,if_neg (by omega),Int.toNat_natCast] at q;omega
  ·exact absurd hm2 (q s hs)
 have hb:=h.W.bound h.hl hj hx
 have h3:=h2 x hx
 have hrow:row.getD x 0≠ -2:=by
  by_cases c:nxt C j x < 0
  ·rw[h3.1 c];exact hn
  ·obtain⟨k',e1,_⟩:=h3.2 (by omega);omega
 have hst:=(edges_inv row).step x hx
 rw[if_neg hrow,←h1] at hst
 intro he
 rw[he] at hst;cases hst
def RQ (C:List (List Int)) (O:List Int) (r q:Nat):Prop:=∃ (w:List Nat) (j:Nat),w.length=r∧Bytes w∧runT C 0 w=(j:Int)∧j < C.length∧O[q]? =some (co C j)
theorem LIs.rq0:RQ C O 0 0:=⟨[],0,rfl,by simp[Bytes],rfl,h.pos,h.first⟩
theorem LIs.rq_next {r q:Nat} (hq:RQ C O r q) {e:List Edg} (he:l[q]? =some e) {x:Edg} (hx:x∈e) (ht:x.to≠ -1):RQ C O (r+1) x.to.toNat:=by
 obtain⟨w,j,hw,hb,hr,hj,hO⟩:=hq
 obtain⟨row,h1,h2⟩:=h.row hO hj
 rw[he] at h1;injection h1 with h1
 have hed:=h.edge he x hx
 subst h1
 have hI:=edges_inv row
 have hst:=hI.step x.lo.toNat (by omega)
 have hlo:((x.lo.toNat:Nat):Int)=x.lo:=Int.toNat_of_nonneg hed.1
 rw[hlo,stepEd_mem hI.ord x hx (Int.le_refl _) hed.2.1] at hst
 have hto:x.to=row.getD x.lo.toNat 0:=by
  split at hst
  ·cases hst
  ·injection hst
 have h3:=h2 x.lo.toNat (by omega)
 have hbd:=h.W.bound h.hl hj (x:=x.lo.toNat) (by omega)
 have c:¬nxt C j x.lo.toNat < 0:=by
  intro c;have:=h3.1 c;omega
 obtain⟨k',e1,_,e2⟩:=h3.2 (by omega)
 refine⟨w++[x.lo.toNat],(nxt C j x.lo.toNat).toNat,by simp[hw],?_,?_,by omega,?_⟩
 ·intro y hy
  rcases List.mem_append.1 hy with q | q
  ·exact hb y q
  ·simp at q;subst q;omega
 ·rw[runT_snoc,hr,if_neg (by omega),Int.toNat_natCast];omega
 ·have:x.to.toNat=k':=by omega
  rw[this];exact e2
theorem LIs.rq8 {q:Nat} (hq:RQ C O 8 q):False:=by
 obtain⟨w,j,hw,hb,hr,hj,hO⟩:=hq
 rcases run_sem h.ok h.pre h.W h.hl _ w rfl hb with⟨q,_⟩ | ⟨_,_,q,_⟩ | ⟨q,_⟩
 ·omega
 ·rcases q with rfl | ⟨s,hs,_,hlt⟩
  ·cases hw
  ·have:=(h.ok.shp s hs).hi;omega
 ·omega
end
end Go.AM.B1
namespace Go.AM.B1
open Go.AM Go.AM.So
abbrev eL1 (S V E:PV) (m i n len k:Int):Tr:=
 ((((((((((Tr.lf.set 52 (.pv (i64 k))).set 51 (.pv (i64 len))).set 50 (.pv E)).set 31 (.pv (i64 i))).set 30 (.pv (i64 n))).set 29 (.pv V)).set 7 (.pv E)).set 6 (.pv (i64 i))).set 5 (.pv (i64 m))).set 3 (.ptr 0 0)).set 1 (.pv (.rp [S] 0))
theorem encE_iaddr {l:List Edg} {i:Nat} (hi:i < l.length) (H:List AObj):iaddrA' H 3 (.pv (.lit 3 (l.map encE))) (i:Int)=some (.pv (.rp [i64 l[i].lo,i64 l[i].hi,i64 l[i].to] 0)):=by
 simp only[iaddrA']
 rw[if_pos (by unfold idxOk;simp;omega),Int.toNat_natCast,encE_get hi];rfl
theorem box3_store (a b c x y z:PV) (hx:(AV.pv x).one=true) (hy:(AV.pv y).one=true) (hz:(AV.pv z).one=true) (o:AObj):storeA [o,.box [.pv a,.pv b,.pv c]] 3 (.ptr 1 0) (.pv (.agg [x,y,z]))=some [o,.box [.pv x,.pv y,.pv z]]:=by
 simp[storeA,AV.cells,PV.cells,hx,hy,hz,setRow]
section
variable {call:CallF} {S V:PV} {vs:List PV} (hV:V= .lit 1 vs) {e:List Edg} {m i:Int} {k:Nat} (hk:k < e.length) (hel:e.length≤256)
 (h1:0≤e[k].lo) (h2:e[k].lo≤e[k].hi) (h3:e[k].hi≤255) (h4:e[k].to= -1∨1≤e[k].to) (h5:e[k].to < vs.length) (h6:e[k].to≤m) (hm:1≤m) (hm2:m≤64)
include hV hk hel h1 h2 h3 h4 h5 h6 hm hm2
theorem least1_round (hp:∀ j (hj:j < e.length),k=j+1→0≤e[j].hi∧e[j].hi < e[k].lo∧e[j].hi≤255∧(e[k].lo=e[j].hi+1→e[k].to≠e[j].to)):
 roundA (evalC call b_leadtraillaw13_AutoLeast_l1) (clean 1 [1,3,5,6,7,29,30,31,50,51,52]) ⟨eL1 S V (.lit 3 (e.map encE)) m i vs.length e.length k,[.box [.pv V]]⟩=
  some (.norm,⟨eL1 S V (.lit 3 (e.map encE)) (if e[k].to=m then m+1 else m) i vs.length e.length (k+1:Nat),[.box [.pv V]]⟩):=by
 have a1:=encE_iaddr hk
 have e1:decide ((k:Int) < (e.length:Int))=true:=dec_t (by omega)
 have t2:=stepWrap hk (by unfold maxLen;omega)
 have t3:IntKind.i64.wrap (m+1)=m+1:=wrap_int (by omega)
 have c1:decide (e[k].lo < 0)=false:=dec_f (by omega)
 have c2:decide (e[k].lo > e[k].hi)=false:=dec_f (by omega)
 have c3:decide (e[k].hi > 255)=false:=dec_f (by omega)
 have hprev:k=0∨∃ j,∃ hj:j < e.length,k=j+1:=by
  cases k with
  |zero=>exact .inl rfl
  |succ j=>exact .inr ⟨j,by omega,rfl⟩
 have hprev2:decide ((k:Int) > 0)=false∨∃ b:Edg,decide ((k:Int) > 0)=true∧(∀ H,iaddrA' H 3 (.pv (.lit 3 (e.map encE))) (IntKind.i64.wrap ((k:Int) - 1))=some (.pv (.rp [i64 b.lo,i64 b.hi,i64 b.to] 0)))∧0≤b.hi∧b.hi < e[k].lo∧b.hi≤255∧(e[k].lo=b.hi+1→e[k].to≠b.to):=by
  rcases hprev with h0 | ⟨j,hj,h0⟩
  ·exact .inl (dec_f (by omega))
  ·refine .inr ⟨e[j],dec_t (by omega),?_,hp j hj h0⟩
   have:IntKind.i64.wrap ((k:Int) - 1)=(j:Int):=by
    have:(k:Int) - 1=(j:Int):=by omega
    rw[this];exact wrap_nat (by omega)
   rw[this];exact encE_iaddr hj
 generalize hx:e[k]=x at *
 have s1:=box3_store (i64 0) (i64 0) (i64 0) (i64 x.lo) (i64 x.hi) (i64 x.to) rfl rfl rfl (.box [.pv V])
 have p0:place [.box [.pv V],.box [.pv (i64 x.lo),.pv (i64 x.hi),.pv (i64 x.to)]] 0 (.ptr 1 0)=some (.ptr 1 0):=rfl
 have p1:place [.box [.pv V],.box [.pv (i64 x.lo),.pv (i64 x.hi),.pv (i64 x.to)]] 1 (.ptr 1 0)=some (.ptr 1 1):=rfl
 have p2:place [.box [.pv V],.box [.pv (i64 x.lo),.pv (i64 x.hi),.pv (i64 x.to)]] 2 (.ptr 1 0)=some (.ptr 1 2):=rfl
 have l0:loadA [.box [.pv V],.box [.pv (i64 x.lo),.pv (i64 x.hi),.pv (i64 x.to)]] false 1 (.ptr 1 0)=some (.pv (i64 x.lo)):=rfl
 have l1:loadA [.box [.pv V],.box [.pv (i64 x.lo),.pv (i64 x.hi),.pv (i64 x.to)]] false 1 (.ptr 1 1)=some (.pv (i64 x.hi)):=rfl
 have l2:loadA [.box [.pv V],.box [.pv (i64 x.lo),.pv (i64 x.hi),.pv (i64 x.to)]] false 1 (.ptr 1 2)=some (.pv (i64 x.to)):=rfl
 have r3:∀ H (a b c:PV),loadA H true 3 (.pv (.rp [a,b,c] 0))=some (.pv (.agg [a,b,c])):=fun H a b c=>rfl
 have q1:∀ H (a b c:PV),place H 1 (.pv (.rp [a,b,c] 0))=some (.pv (.rp [a,b,c] 1)):=fun H a b c=>rfl
 have q2:∀ H (a b c:PV),place H 2 (.pv (.rp [a,b,c] 0))=some (.pv (.rp [a,b,c] 2)):=fun H a b c=>rfl
 have m1:∀ H (a b c:PV),loadA H false 1 (.pv (.rp [a,b,c] 1))=some (.pv b):=fun H a b c=>rfl
 have m2:∀ H (a b c:PV),loadA H false 1 (.pv (.rp [a,b,c] 2))=some (.pv c):=fun H a b c=>rfl
 have pv0:∀ c,place (.box [.pv V]::c) 0 (.ptr 0 0)=some (.ptr 0 0):=fun c=>rfl
 have lv0:∀ c,loadA (.box [.pv V]::c) false 1 (.ptr 0 0)=some (.pv V):=fun c=>rfl
 have lV:∀ H,lenA H 0 (.pv V)=some vs.length:=fun H=>by rw[hV];rfl
 have htk:∀ (a:AObj) c,(a::c).take 1=[a]:=fun a c=>rfl
 have hct:mapO (cutObj 1) [.box [.pv V]]=some [.box [.pv V]]:=rfl
 have hz:(0 < 1)=True:=by simp
 generalize PV.lit 3 (e.map encE)=E at *
 have g1:∀ v:Int,(x.to= -1∧v=m∧(x.to != -1)=false∧(x.to==m)=false)∨((x.to != -1)=true∧decide (x.to < 1)=false∧decide (x.to > m)=false∧decide (x.to≥(vs.length:Int))=false∧((x.to=m∧(x.to==m)=true)∨(x.to≠m∧(x.to==m)=false)))∨(x.to= -1∧v≠m):=by
  intro v
  rcases h4 with h4 | h4
  ·by_cases hv:v=m
   ·exact .inl ⟨h4,hv,by simp[h4],beq_ne (by omega)⟩
   ·exact .inr (.inr ⟨h4,hv⟩)
  ·refine .inr (.inl ⟨by simp;omega,dec_f (by omega),dec_f (by omega),dec_f (by omega),?_⟩)
   by_cases hv:x.to=m
   ·exact .inl ⟨hv,by simp[hv]⟩
   ·exact .inr ⟨hv,beq_ne hv⟩
 rcases hprev2 with c4 | ⟨b,c4,ib,b0,b1,b2,b3⟩
 ·rcases g1 m with⟨q,_,c5,c9⟩ | ⟨c5,c6,c7,c8,⟨q,c9⟩ | ⟨q,c9⟩⟩ | ⟨_,q⟩
  ·rw[if_neg (by omega)]
   simp (implicitDefEqProofs:=false) only[SP,SA,WP,sevalprocAttr,-List.reduceReplicate,b_leadtraillaw13_AutoLeast_l1,roundA,e1,t2,a1,r3,s1,p0,p1,p2,l0,l1,l2,c1,c2,c3,c4,c5,c9,clean,cutEnv,AV.cut,htk,hct,hz,deep_eq',eL1]
  ·rw[if_pos q]
   simp (implicitDefEqProofs:=false) only[SP,SA,WP,sevalprocAttr,-List.reduceReplicate,b_leadtraillaw13_AutoLeast_l1,roundA,e1,t2,t3,a1,r3,s1,p0,p1,p2,l0,l1,l2,c1,c2,c3,c4,c5,c6,c7,c8,c9,pv0,lv0,lV,clean,cutEnv,AV.cut,htk,hct,hz,deep_eq',eL1]
  ·rw[if_neg q]
   simp (implicitDefEqProofs:=false) only[SP,SA,WP,sevalprocAttr,-List.reduceReplicate,b_leadtraillaw13_AutoLeast_l1,roundA,e1,t2,t3,a1,r3,s1,p0,p1,p2,l0,l1,l2,c1,c2,c3,c4,c5,c6,c7,c8,c9,pv0,lv0,lV,clean,cutEnv,AV.cut,htk,hct,hz,deep_eq',eL1]
  ·exact absurd rfl q
 ·have c10:decide (x.lo≤b.hi)=false:=dec_f (by omega)
  have t4:IntKind.i64.wrap (b.hi+1)=b.hi+1:=wrap_int (by omega)
  have hjn:((x.lo==b.hi+1)=false)∨((x.lo==b.hi+1)=true∧(x.to==b.to)=false):=by
   by_cases hq:x.lo=b.hi+1
   ·exact .inr ⟨by simp[hq],beq_ne (b3 hq)⟩
   ·exact .inl (beq_ne hq)
  rcases hjn with c11 | ⟨c11,c12⟩ <;> rcases g1 m with⟨q,_,c5,c9⟩ | ⟨c5,c6,c7,c8,⟨q,c9⟩ | ⟨q,c9⟩⟩ | ⟨_,q⟩
  ·rw[if_neg (by omega)]
   simp (implicitDefEqProofs:=false) only[SP,SA,WP,sevalprocAttr,-List.reduceReplicate,b_leadtraillaw13_AutoLeast_l1,roundA,e1,t2,t4,a1,ib,q1,q2,m1,m2,r3,s1,p0,p1,p2,l0,l1,l2,c1,c2,c3,c4,c5,c9,c10,c11,clean,cutEnv,AV.cut,htk,hct,hz,deep_eq',eL1]
  ·rw[if_pos q]
   simp (implicitDefEqProofs:=false) only[SP,SA,WP,sevalprocAttr,-List.reduceReplicate,b_leadtraillaw13_AutoLeast_l1,roundA,e1,t2,t3,t4,a1,ib,q1,q2,m1,m2,r3,s1,p0,p1,p2,l0,l1,l2,c1,c2,c3,c4,c5,c6,c7,c8,c9,c10,c11,pv0,lv0,lV,clean,cutEnv,AV.cut,htk,hct,hz,deep_eq',eL1]
  ·rw[if_neg q]
   simp (implicitDefEqProofs:=false) only[SP,SA,WP,sevalprocAttr,-List.reduceReplicate,b_leadtraillaw13_AutoLeast_l1,roundA,e1,t2,t3,t4,a1,ib,q1,q2,m1,m2,r3,s1,p0,p1,p2,l0,l1,l2,c1,c2,c3,c4,c5,c6,c7,c8,c9,c10,c11,pv0,lv0,lV,clean,cutEnv,AV.cut,htk,hct,hz,deep_eq',eL1]
  ·exact absurd rfl q
  ·rw[if_neg (by omega)]
   simp (implicitDefEqProofs:=false) only[SP,SA,WP,sevalprocAttr,-List.reduceReplicate,b_leadtraillaw13_AutoLeast_l1,roundA,e1,t2,t4,a1,ib,q1,q2,m1,m2,r3,s1,p0,p1,p2,l0,l1,l2,c1,c2,c3,c4,c5,c9,c10,c11,c12,clean,cutEnv,AV.cut,htk,hct,hz,deep_eq',eL1]
  ·rw[if_pos q]
   simp (implicitDefEqProofs:=false) only[SP,SA,WP,sevalprocAttr,-List.reduceReplicate,b_leadtraillaw13_AutoLeast_l1,roundA,e1,t2,t3,t4,a1,ib,q1,q2,m1,m2,r3,s1,p0,p1,p2,l0,l1,l2,c1,c2,c3,c4,c5,c6,c7,c8,c9,c10,c11,c12,pv0,lv0,lV,clean,cutEnv,AV.cut,htk,hct,hz,deep_eq',eL1]
  ·rw[if_neg q]
   simp (implicitDefEqProofs:=false) only[SP,SA,WP,sevalprocAttr,-List.reduceReplicate,b_leadtraillaw13_AutoLeast_l1,roundA,e1,t2,t3,t4,a1,ib,q1,q2,m1,m2,r3,s1,p0,p1,p2,l0,l1,l2,c1,c2,c3,c4,c5,c6,c7,c8,c9,c10,c11,c12,pv0,lv0,lV,clean,cutEnv,AV.cut,htk,hct,hz,deep_eq',eL1]
  ·exact absurd rfl q
end
theorem encSt_lit (l:List (List Edg)):encSt l= .lit 1 (l.map encEs):=rfl
theorem encSt_iaddr {l:List (List Edg)} {i:Nat} (hi:i < l.length) (H:List AObj):iaddrA' H 1 (.pv (encSt l)) (i:Int)=some (.pv (.rp [encEs l[i]] 0)):=by
 have hg:(l.map encEs)[i]? =some (encEs l[i]):=by rw[List.getElem?_map,List.getElem?_eq_getElem hi];rfl
 have hc:(encEs l[i]).cells=[encEs l[i]]:=by unfold encEs;split <;> rfl
 simp only[encSt_lit,iaddrA']
 rw[if_pos (by unfold idxOk;simp;omega),Int.toNat_natCast,hg]
 simp[hc]
theorem encEs_len (e:List Edg) (H:List AObj):lenA H 0 (.pv (encEs e))=some e.length:=by
 have:=(encEs_is e).len H
 rw[this,List.length_map]
theorem encEs_one (e:List Edg):(AV.pv (encEs e)).one=true:=by unfold encEs;split <;> rfl
theorem encEs_cells (e:List Edg):(encEs e).cells=[encEs e]:=by unfold encEs;split <;> rfl
theorem encEs_some {e:List Edg} (h:e≠[]):encEs e= .lit 3 (e.map encE):=by
 unfold encEs;cases e with | nil=>exact absurd rfl h | cons=>rfl
section
variable {ss:List Shp} {sets:List Al} {C:List (List Int)} {O:List Int} {l:List (List Edg)} (h:LIs ss sets C O l) (call:CallF) (S:PV)
include h
theorem least1_loop (h256:∀ e∈l,e.length≤256) {i:Nat} {e:List Edg} (hi:l[i]? =some e) {m:Int} (hm:1≤m) (hok:MetOk m e) (hle:metE m e≤64):
 wpO (fun r=>∃ E,r=(.exit 2,⟨E,[.box [.pv (encSt l)]]⟩)∧E.get 1= .pv (.rp [S] 0)∧E.get 3= .ptr 0 0∧E.get 5= .pv (i64 (metE m e))∧E.get 6= .pv (i64 i)∧E.get 7= .pv (encEs e)∧E.get 29= .pv (encSt l)∧E.get 30= .pv (i64 l.length)∧E.get 31= .pv (i64 i))
  (loopA (roundA (evalC call b_leadtraillaw13_AutoLeast_l1) (clean 1 [1,3,5,6,7,29,30,31,50,51,52])) rounds ⟨eL1 S (encSt l) (encEs e) m i l.length e.length 0,[.box [.pv (encSt l)]]⟩):=by
 have hel:=h256 e (List.mem_of_getElem? hi)
 refine wpO_mono (loopN_wp (fun k t=>∃ m',t=⟨eL1 S (encSt l) (encEs e) m' i l.length e.length k,[.box [.pv (encSt l)]]⟩∧1≤m'∧metE m e=metE m' (e.drop k)∧MetOk m' (e.drop k))
  e.length (by unfold rounds;omega) _ ⟨m,rfl,hm,rfl,hok⟩ ?_ ?_) (fun r h=>h.2)
 ·rintro k t hk ⟨m',rfl,hm',hs,ho⟩
  have hd:e.drop k=e[k]::e.drop (k+1):=List.drop_eq_getElem_cons hk
  rw[hd] at hs ho
  have hmono:=metE_mono (e[k]::e.drop (k+1)) m'
  obtain⟨q1,q2,q3,q4,q5⟩:=h.edge hi e[k] (List.getElem_mem hk)
  have hne:e≠[]:=by rintro rfl;simp at hk
  have hr:=least1_round (call:=call) (S:=S) (V:=encSt l) (vs:=l.map encEs) (e:=e) (m:=m') (i:=i) (k:=k) rfl hk hel q1 q2 q3 q4 (by simpa using q5) ho.1 hm' (by omega) (by
   rintro j hj rfl
   have h2:=h.tight hi (List.getElem?_eq_getElem hj) (List.getElem?_eq_getElem hk)
   have h3:=h.edge hi e[j] (List.getElem_mem hj)
   exact⟨by omega,h2⟩)
  rw[List.length_map,←encEs_some hne] at hr
  rw[hr]
  refine⟨_,rfl,by split <;> omega,hs,ho.2⟩
 ·rintro t ⟨m',rfl,hm',hs,ho⟩
  rw[List.drop_length] at hs
  have hs:metE m e=m':=hs
  rw[hs]
  have e1:decide ((e.length:Int) < (e.length:Int))=false:=dec_f (by omega)
  generalize encSt l=V
  generalize encEs e=X
  generalize hQ:(fun r:Ex×St=>r.1.stop=true∧_)=Q
  simp (implicitDefEqProofs:=false) only[SP,SA,WP,sevalprocAttr,-List.reduceReplicate,b_leadtraillaw13_AutoLeast_l1,roundA,e1,eL1]
  subst hQ
  exact⟨rfl,_,rfl,by simp[Tr.get_set]⟩
abbrev eL2 (S V E:PV) (m i n j:Int):Tr:=
 ((((((((Tr.lf.set 31 (.pv (i64 i))).set 30 (.pv (i64 n))).set 29 (.pv V)).set 10 (.pv (i64 j))).set 7 (.pv E)).set 6 (.pv (i64 i))).set 5 (.pv (i64 m))).set 3 (.ptr 0 0)).set 1 (.pv (.rp [S] 0))
omit h in
theorem held_one (e:List Edg) (he:e.length≤256):HeldSt (.lit 1 [encEs e]) [e]:=encSt_held (l:=[e]) (by simp) (by simpa using he)
theorem least2_loop (h256:∀ e∈l,e.length≤256) (hl64:l.length≤64) {i:Nat} {e:List Edg} (hi:l[i]? =some e) {m:Int}:
 wpO (fun r=>∃ E,r=(.exit 4,⟨E,[.box [.pv (encSt l)]]⟩)∧E.get 1= .pv (.rp [S] 0)∧E.get 3= .ptr 0 0∧E.get 5= .pv (i64 m)∧E.get 29= .pv (encSt l)∧E.get 30= .pv (i64 l.length)∧E.get 31= .pv (i64 i))
  (loopA (roundA (evalC call b_leadtraillaw13_AutoLeast_l2) (clean 1 [1,3,5,6,7,10,29,30,31])) rounds ⟨eL2 S (encSt l) (encEs e) m i l.length 0,[.box [.pv (encSt l)]]⟩):=by
 have hil:=(List.getElem?_eq_some_iff.1 hi).1
 have hel:=h256 e (List.mem_of_getElem? hi)
 refine wpO_mono (loopN_wp (fun j t=>t=⟨eL2 S (encSt l) (encEs e) m i l.length j,[.box [.pv (encSt l)]]⟩)
  i (by unfold rounds;omega) _ rfl ?_ ?_) (fun r h=>h.2)
 ·rintro j t hj rfl
  have hjl:j < l.length:=by omega
  have hap:=h.apart hj (List.getElem?_eq_getElem hjl) hi
  have hj256:=h256 _ (List.getElem_mem hjl)
  have hs:=same13_run (.lit 1 [encEs e]) (.lit 1 [encEs l[j]]) [e] [l[j]] (held_one e hel) (held_one _ hj256)
  have hd:decide ([e]=[l[j]])=false:=dec_f (by simp;exact fun q=>hap q.symm)
  rw[hd] at hs
  have a1:=encSt_iaddr hjl
  have o1:=encEs_one e
  have o2:=encEs_one l[j]
  have k1:=encEs_cells e
  have k2:=encEs_cells l[j]
  generalize encEs l[j]=X at *
  generalize encEs e=E at *
  generalize encSt l=V at *
  have e1:decide ((j:Int) < (i:Int))=true:=dec_t (by omega)
  have t2:=stepWrap (i:=j) (n:=i) hj (by unfold maxLen;omega)
  have pv0:∀ c,place (.box [.pv V]::c) 0 (.ptr 0 0)=some (.ptr 0 0):=fun c=>rfl
  have lv0:∀ c,loadA (.box [.pv V]::c) false 1 (.ptr 0 0)=some (.pv V):=fun c=>rfl
  have htk:∀ (a:AObj) c,(a::c).take 1=[a]:=fun a c=>rfl
  have hct:mapO (cutObj 1) [.box [.pv V]]=some [.box [.pv V]]:=rfl
  have hz:(0 < 1)=True:=by simp
  have hsx:∀ x y,F_leadtrailref13_Same [x,y]=F_leadtrailref13_Same [x,y]:=fun x y=>rfl
  generalize hQ:LN _ _ j=QQ
  simp (implicitDefEqProofs:=false) only[SP,SA,WP,sevalprocAttr,-List.reduceReplicate,b_leadtraillaw13_AutoLeast_l2,roundA,e1,t2,pv0,lv0,a1,rp1_load,o1,o2,hs,k1,k2,setRow,allPV,partE,AV.pvu,AV.pvu1,clean,cutEnv,AV.cut,htk,hct,hz,deep_eq',eL2]
  subst hQ;rfl
 ·rintro t rfl
  have e1:decide ((i:Int) < (i:Int))=false:=dec_f (by omega)
  generalize encSt l=V
  generalize encEs e=X
  generalize hQ:(fun r:Ex×St=>r.1.stop=true∧_)=Q
  simp (implicitDefEqProofs:=false) only[SP,SA,WP,sevalprocAttr,-List.reduceReplicate,b_leadtraillaw13_AutoLeast_l2,roundA,e1,eL2]
  subst hQ
  exact⟨rfl,_,rfl,by simp[Tr.get_set]⟩
end
end Go.AM.B1
namespace Go.AM.B1
open Go.AM Go.AM.So
def rowB (l:List Bool):List AV:=l.map fun b=> .pv (.bool b)
def bob (l:List Bool) (fl:Nat) (nl:Bool):AObj:= .seq 1 false (rowB l) fl nl
theorem rowB_len (l:List Bool):(rowB l).length=l.length:=by simp[rowB]
theorem bob_cut (l:List Bool) (fl:Nat) (nl:Bool) (n:Nat):cutObj n (bob l fl nl)=some (bob l fl nl):=by
 have:(rowB l).all (AV.keep n deep)=true:=by
  rw[List.all_eq_true]
  intro v hv
  obtain⟨p,_,rfl⟩:=List.mem_map.1 hv
  rfl
 simp[cutObj,bob,this]
section
variable {A:List AObj} {id n fl:Nat} {nl:Bool} {l:List Bool} (hg:A[id]? =some (bob l fl nl)) (hn:n=l.length) (hf:fl≤n)
include hg hn
theorem bob_len (hf:fl≤n):lenA A 0 (.own id n)=some n:=by
 have:=rowB_len l
 rw[lenA_own,hg]
 simp only[bob]
 rw[if_pos];unfold winOk;omega
theorem bob_iaddr (hf:fl≤n) {i:Int} {k:Nat} (hi:i=(k:Int)) (hk:k < n):iaddrA' A 1 (.own id n) i=some (.eptr id n k):=by
 have:=rowB_len l
 subst hi
 simp only[iaddrA',hg,bob]
 rw[if_pos (by refine⟨trivial,?_,?_⟩ <;> first | (unfold idxOk;omega) | (unfold winOk;omega))]
 simp
theorem bob_load {k:Nat} (hk:k < n):loadA A false 1 (.eptr id n k)=some (.pv (.bool (l.getD k false))):=by
 have hl:=rowB_len l
 simp only[loadA,hg,bob]
 rw[if_pos (by omega)]
 simp only[partA,Bool.false_eq_true,if_false]
 rw[rowB,List.getElem?_map,List.getD_eq_getElem?_getD,List.getElem?_eq_getElem (by omega)];rfl
theorem bob_store {k:Nat} (hk:k < n) (v:Bool):storeA A 1 (.eptr id n k) (.pv (.bool v))=some (A.set id (bob (l.set k v) n nl)):=by
 have hl:=rowB_len l
 have hc:(AV.pv (.bool v)).cells=[.pv (.bool v)]:=rfl
 simp only[storeA,hg,bob,hc]
 rw[if_pos ⟨rfl,rfl⟩,if_pos ⟨by omega,by omega⟩,setRow,setRow]
 simp[rowB]
end
theorem repZ_bools (n:Nat):repZ [.bool false] n=rowB (List.replicate n false):=by
 induction n with
 |zero=>rfl
 |succ n ih=>rw[repZ,ih,List.replicate_succ];rfl
structure HB (V:PV) (A:List AObj):Prop where
 first:∃ T,A= .box [.pv V]::T
 good:∀ o∈A,∀ n,cutObj n o=some o
theorem HB.snoc {V:PV} {A:List AObj} (h:HB V A) {o:AObj} (ho:∀ n,cutObj n o=some o):HB V (A++[o]):=by
 obtain⟨T,hT⟩:=h.first
 refine⟨⟨T++[o],by rw[hT];rfl⟩,?_⟩
 intro x hx n
 rcases List.mem_append.1 hx with q | q
 ·exact h.good x q n
 ·simp at q;subst q;exact ho n
theorem HB.clean {V:PV} {A:List AObj} (h:HB V A) (n:Nat):mapO (cutObj n) A=some A:=mapO_id fun o ho=>h.good o ho n
theorem HB.pl {V:PV} {A:List AObj} (h:HB V A) (c:List AObj):place (A++c) 0 (.ptr 0 0)=some (.ptr 0 0):=by
 obtain⟨T,rfl⟩:=h.first;rfl
theorem HB.ld {V:PV} {A:List AObj} (h:HB V A) (c:List AObj):loadA (A++c) false 1 (.ptr 0 0)=some (.pv V):=by
 obtain⟨T,rfl⟩:=h.first;rfl
abbrev eL5 (V X:PV) (m:Int) (id jd n:Nat) (r i len k:Int):Tr:=
 ((((((((((Tr.lf.set 185 (.pv (i64 k))).set 184 (.pv (i64 len))).set 183 (.pv X)).set 176 (.pv (i64 i))).set 175 (.pv (i64 n))).set 14 (.pv (i64 i))).set 13 (.own jd n)).set 12 (.pv (i64 r))).set 11 (.own id n)).set 5 (.pv (i64 m))).set 3 (.ptr 0 0)
section
variable {ss:List Shp} {sets:List Al} {C:List (List Int)} {O:List Int} {l:List (List Edg)} (h:LIs ss sets C O l) (call:CallF)
 (h256:∀ e∈l,e.length≤256) (hl64:l.length≤64)
include h h256 hl64
def Marks (C:List (List Int)) (O:List Int) (r n:Nat) (b:List Bool):Prop:=b.length=n∧∀ q,b[q]? =some true→RQ C O r q
omit hl64 in
theorem least5_loop {A:List AObj} (hA:HB (encSt l) A) {id fl:Nat} {now:List Bool} (hid:A[id]? =some (bob now fl false)) (hfl:fl≤l.length) {r:Nat} (hnow:Marks C O r l.length now)
 {i:Nat} {e:List Edg} (hi:l[i]? =some e) {th:List Bool} {ft:Nat} (hft:ft≤l.length) (hth:Marks C O (r+1) l.length th) {m:Int}:
 wpO (fun x=>∃ E th' ft',x=(.exit 10,⟨E,A++[bob th' ft' false]⟩)∧ft'≤l.length∧Marks C O (r+1) l.length th'∧E.get 3= .ptr 0 0∧E.get 5= .pv (i64 m)∧E.get 11= .own id l.length∧E.get 12= .pv (i64 r)∧E.get 13= .own A.length l.length∧E.get 175= .pv (i64 l.length)∧E.get 176= .pv (i64 i))
  (loopA (roundA (evalC call b_leadtraillaw13_AutoLeast_l5) (clean (A.length+1) [3,5,11,12,13,14,175,176,183,184,185])) rounds ⟨eL5 (encSt l) (encEs e) m id A.length l.length r i e.length 0,A++[bob th ft false]⟩):=by
 have hil:=(List.getElem?_eq_some_iff.1 hi).1
 have hel:=h256 e (List.mem_of_getElem? hi)
 refine wpO_mono (loopN_wp (fun k t=>∃ th' ft',t=⟨eL5 (encSt l) (encEs e) m id A.length l.length r i e.length k,A++[bob th' ft' false]⟩∧ft'≤l.length∧Marks C O (r+1) l.length th')
  e.length (by unfold rounds;omega) _ ⟨th,ft,rfl,hft,hth⟩ ?_ ?_) (fun r h=>h.2)
 ·rintro k t hk ⟨th',ft',rfl,hf',hm'⟩
  have hne:e≠[]:=by rintro rfl;simp at hk
  have a1:=encE_iaddr hk
  rw[← encEs_some hne] at a1
  have e1:decide ((k:Int) < (e.length:Int))=true:=dec_t (by omega)
  have t2:=stepWrap hk (by unfold maxLen;omega)
  have hedge:=h.edge hi e[k] (List.getElem_mem hk)
  have hrq:now.getD i false=true→e[k].to≠ -1→RQ C O (r+1) e[k].to.toNat:=by
   intro q1 q2
   refine h.rq_next (hnow.2 i ?_) hi (List.getElem_mem hk) q2
   rw[List.getD_eq_getElem?_getD] at q1
   rw[List.getElem?_eq_getElem (by rw[hnow.1];exact hil)] at q1 ⊢
   simpa using q1
  have hidl:=(List.getElem?_eq_some_iff.1 hid).1
  generalize e[k]=x at *
  have hgo:(A++[bob th' ft' false])[A.length]? =some (bob th' ft' false):=by simp
  have hgi:(A++[bob th' ft' false]++[.box [.pv (i64 x.lo),.pv (i64 x.hi),.pv (i64 x.to)]])[id]? =some (bob now fl false):=by
   rw[List.append_assoc,List.getElem?_append_left hidl];exact hid
  have hgj:(A++[bob th' ft' false]++[.box [.pv (i64 x.lo),.pv (i64 x.hi),.pv (i64 x.to)]])[A.length]? =some (bob th' ft' false):=by simp
  have i1:=bob_iaddr hgi hnow.1.symm hfl (i:=(i:Int)) rfl hil
  have i2:=bob_load hgi hnow.1.symm hil
  have i3:1≤x.to→iaddrA' (A++[bob th' ft' false]++[.box [.pv (i64 x.lo),.pv (i64 x.hi),.pv (i64 x.to)]]) 1 (.own A.length l.length) x.to=some (.eptr A.length l.length x.to.toNat):=fun q=>bob_iaddr hgj hm'.1.symm hf' (by omega) (by omega)
  have i4:1≤x.to→storeA (A++[bob th' ft' false]++[.box [.pv (i64 x.lo),.pv (i64 x.hi),.pv (i64 x.to)]]) 1 (.eptr A.length l.length x.to.toNat) (.pv (.bool true))=some (A++[bob (th'.set x.to.toNat true) l.length false]++[.box [.pv (i64 x.lo),.pv (i64 x.hi),.pv (i64 x.to)]]):=fun q=>by
   rw[bob_store hgj hm'.1.symm (by omega)]
   congr 1
   rw[List.append_assoc,List.set_append_right _ _ (Nat.le_refl _),Nat.sub_self,List.append_assoc];rfl
  have s1:storeA (A++[bob th' ft' false]++[.box [.pv (i64 0),.pv (i64 0),.pv (i64 0)]]) 3 (.ptr (A++[bob th' ft' false]).length 0) (.pv (.agg [i64 x.lo,i64 x.hi,i64 x.to]))=some (A++[bob th' ft' false]++[.box [.pv (i64 x.lo),.pv (i64 x.hi),.pv (i64 x.to)]]):=by
   simp[storeA,AV.cells,PV.cells,AV.one,setRow]
  have p2:place (A++[bob th' ft' false]++[.box [.pv (i64 x.lo),.pv (i64 x.hi),.pv (i64 x.to)]]) 2 (.ptr (A++[bob th' ft' false]).length 0)=some (.ptr (A++[bob th' ft' false]).length 2):=by
   simp[place]
  have l2:loadA (A++[bob th' ft' false]++[.box [.pv (i64 x.lo),.pv (i64 x.hi),.pv (i64 x.to)]]) false 1 (.ptr (A++[bob th' ft' false]).length 2)=some (.pv (i64 x.to)):=by
   simp[loadA,partA]
  have r3:∀ H (a b c:PV),loadA H true 3 (.pv (.rp [a,b,c] 0))=some (.pv (.agg [a,b,c])):=fun H a b c=>rfl
  have htk:∀ th ft (c:AObj),(A++[bob th ft false]++[c]).take (A.length+1)=A++[bob th ft false]:=fun th ft c=>by
   rw[List.take_append_of_le_length (by simp),List.take_of_length_le (by simp)]
  have hct:∀ th ft,mapO (cutObj (A.length+1)) (A++[bob th ft false])=some (A++[bob th ft false]):=fun th ft=>(hA.snoc (bob_cut th ft false)).clean _
  have hz1:(0 < A.length+1)=True:=by simp
  have hz2:(id < A.length+1)=True:=eq_true (by omega)
  have hz3:(A.length < A.length+1)=True:=by simp
  generalize encEs e=X at *
  generalize hQ:LN _ _ k=QQ
  cases hb:now.getD i false with
  |false=>
   rw[hb] at i2
   have hct1:=hct th' ft'
   have htk1:=htk th' ft'
   generalize hBB:A++[bob th' ft' false]=BB at *
   simp (implicitDefEqProofs:=false) only[SP,SA,WP,sevalprocAttr,-List.reduceReplicate,b_leadtraillaw13_AutoLeast_l5,roundA,e1,t2,a1,r3,s1,i1,i2,clean,cutEnv,AV.cut,htk1,hct1,hz1,hz2,hz3,deep_eq',eL5]
   subst hQ;subst hBB
   exact⟨th',ft',rfl,hf',hm'⟩
  |true=>
   rw[hb] at i2
   by_cases hto:x.to= -1
   ·have c1:(x.to != -1)=false:=by simp[hto]
    have hct1:=hct th' ft'
    have htk1:=htk th' ft'
    generalize hBB:A++[bob th' ft' false]=BB at *
    simp (implicitDefEqProofs:=false) only[SP,SA,WP,sevalprocAttr,-List.reduceReplicate,b_leadtraillaw13_AutoLeast_l5,roundA,e1,t2,a1,r3,s1,p2,l2,i1,i2,c1,clean,cutEnv,AV.cut,htk1,hct1,hz1,hz2,hz3,deep_eq',eL5]
    subst hQ;subst hBB
    exact⟨th',ft',rfl,hf',hm'⟩
   ·have c1:(x.to != -1)=true:=by simp[hto]
    have hge:1≤x.to:=by omega
    have i3':=i3 hge
    have i4':=i4 hge
    have hct1:=hct (th'.set x.to.toNat true) l.length
    have htk1:=htk (th'.set x.to.toNat true) l.length
    have hnew:Marks C O (r+1) l.length (th'.set x.to.toNat true):=by
     refine⟨by rw[List.length_set];exact hm'.1,fun q hq=> ?_⟩
     by_cases hqx:q=x.to.toNat
     ·rw[hqx];exact hrq hb hto
     ·rw[List.getElem?_set_ne (Ne.symm hqx)] at hq;exact hm'.2 q hq
    generalize hBB:A++[bob th' ft' false]=BB at *
    generalize hBC:A++[bob (th'.set x.to.toNat true) l.length false]=BC at *
    simp (implicitDefEqProofs:=false) only[SP,SA,WP,sevalprocAttr,-List.reduceReplicate,b_leadtraillaw13_AutoLeast_l5,roundA,e1,t2,a1,r3,s1,p2,l2,i1,i2,i3',i4',c1,clean,cutEnv,AV.cut,htk1,hct1,hz1,hz2,hz3,deep_eq',eL5]
    subst hQ;subst hBC
    exact⟨_,l.length,rfl,Nat.le_refl _,hnew⟩
 ·rintro t ⟨th',ft',rfl,hf',hm'⟩
  have e1:decide ((e.length:Int) < (e.length:Int))=false:=dec_f (by omega)
  generalize encSt l=V
  generalize encEs e=X
  generalize hQ:(fun r:Ex×St=>r.1.stop=true∧_)=Q
  simp (implicitDefEqProofs:=false) only[SP,SA,WP,sevalprocAttr,-List.reduceReplicate,b_leadtraillaw13_AutoLeast_l5,roundA,e1,eL5]
  subst hQ
  exact⟨rfl,_,th',ft',rfl,hf',hm',by simp[Tr.get_set]⟩
abbrev eL4 (m:Int) (id jd n:Nat) (r i:Int):Tr:=
 ((((((Tr.lf.set 176 (.pv (i64 i))).set 175 (.pv (i64 n))).set 13 (.own jd n)).set 12 (.pv (i64 r))).set 11 (.own id n)).set 5 (.pv (i64 m))).set 3 (.ptr 0 0)
theorem least4_loop {A:List AObj} (hA:HB (encSt l) A) {id fl:Nat} {now:List Bool} (hid:A[id]? =some (bob now fl false)) (hfl:fl≤l.length) {r:Nat} (hnow:Marks C O r l.length now)
 {th:List Bool} {ft:Nat} (hft:ft≤l.length) (hth:Marks C O (r+1) l.length th) {m:Int}:
 wpO (fun x=>∃ E th' ft',x=(.exit 8,⟨E,A++[bob th' ft' false]⟩)∧ft'≤l.length∧Marks C O (r+1) l.length th'∧E.get 3= .ptr 0 0∧E.get 5= .pv (i64 m)∧E.get 12= .pv (i64 r)∧E.get 13= .own A.length l.length)
  (loopA (roundA (evalC call b_leadtraillaw13_AutoLeast_l4) (clean (A.length+1) [3,5,11,12,13,175,176])) rounds ⟨eL4 m id A.length l.length r 0,A++[bob th ft false]⟩):=by
 refine wpO_mono (loopN_wp (fun i t=>∃ th' ft',t=⟨eL4 m id A.length l.length r i,A++[bob th' ft' false]⟩∧ft'≤l.length∧Marks C O (r+1) l.length th')
  l.length (by unfold rounds;omega) _ ⟨th,ft,rfl,hft,hth⟩ ?_ ?_) (fun r h=>h.2)
 ·rintro i t hi ⟨th',ft',rfl,hf',hm'⟩
  have hl5:=least5_loop h call h256 hA hid hfl hnow (List.getElem?_eq_getElem hi) hf' hm' (m:=m)
  have a1:=encSt_iaddr hi
  have le:=encEs_len l[i]
  generalize hX:l[i]=e at *
  have e1:decide ((i:Int) < (l.length:Int))=true:=dec_t (by omega)
  have t2:=stepWrap hi (by unfold maxLen;omega)
  have hidl:=(List.getElem?_eq_some_iff.1 hid).1
  have hlen:(A++[bob th' ft' false]).length=A.length+1:=by simp
  have pv0:=hA.pl [bob th' ft' false]
  have lv0:=hA.ld [bob th' ft' false]
  have htk:∀ th ft,(A++[bob th ft false]).take (A.length+1)=A++[bob th ft false]:=fun th ft=>List.take_of_length_le (by simp)
  have hct:∀ th ft,mapO (cutObj (A.length+1)) (A++[bob th ft false])=some (A++[bob th ft false]):=fun th ft=>(hA.snoc (bob_cut th ft false)).clean _
  have hz1:(0 < A.length+1)=True:=by simp
  have hz2:(id < A.length+1)=True:=eq_true (by omega)
  have hz3:(A.length < A.length+1)=True:=by simp
  have htk1:=htk th' ft'
  have hct1:=hct th' ft'
  generalize encEs e=X at *
  generalize encSt l=V at *
  generalize hQ:LN _ _ i=QQ
  generalize hBB:A++[bob th' ft' false]=BB at *
  simp (implicitDefEqProofs:=false) only[SP,SA,WP,sevalprocAttr,-List.reduceReplicate,b_leadtraillaw13_AutoLeast_l4,roundA,e1,pv0,lv0,a1,rp1_load,le,C_loop,hlen,clean,cutEnv,AV.cut,htk1,hct1,hz1,hz2,hz3,deep_eq',eL4]
  refine wpO_mono hl5 ?_
  rintro x ⟨E,th2,ft2,rfl,q1,q2,g3,g5,g11,g12,g13,g175,g176⟩
  have htk2:=htk th2 ft2
  have hct2:=hct th2 ft2
  generalize hBC:A++[bob th2 ft2 false]=BC at *
  simp (implicitDefEqProofs:=false) only[SP,SA,WP,sevalprocAttr,-List.reduceReplicate,t2,g3,g5,g11,g12,g13,g175,g176,clean,cutEnv,AV.cut,htk2,hct2,hz1,hz2,hz3,deep_eq']
  subst hQ;subst hBC
  exact⟨th2,ft2,rfl,q1,q2⟩
 ·rintro t ⟨th',ft',rfl,hf',hm'⟩
  have e1:decide ((l.length:Int) < (l.length:Int))=false:=dec_f (by omega)
  generalize hQ:(fun r:Ex×St=>r.1.stop=true∧_)=Q
  simp (implicitDefEqProofs:=false) only[SP,SA,WP,sevalprocAttr,-List.reduceReplicate,b_leadtraillaw13_AutoLeast_l4,roundA,e1,eL4]
  subst hQ
  exact⟨rfl,_,th',ft',rfl,hf',hm',by simp[Tr.get_set]⟩
abbrev eL3 (m:Int) (id n:Nat) (r:Int):Tr:=(((Tr.lf.set 12 (.pv (i64 r))).set 11 (.own id n)).set 5 (.pv (i64 m))).set 3 (.ptr 0 0)
theorem least3_loop {A:List AObj} (hA:HB (encSt l) A) {id fl:Nat} {now:List Bool} (hid:A[id]? =some (bob now fl false)) (hfl:fl≤l.length) (hnow:Marks C O 0 l.length now) {m:Int}:
 wpO (fun x=>∃ E A' id' now' fl',x=(.exit 6,⟨E,A'⟩)∧HB (encSt l) A'∧A'[id']? =some (bob now' fl' false)∧fl'≤l.length∧Marks C O 8 l.length now'∧E.get 3= .ptr 0 0∧E.get 5= .pv (i64 m)∧E.get 11= .own id' l.length)
  (loopA (roundA (evalC call b_leadtraillaw13_AutoLeast_l3) (fun s=>some (tidy [3,5,11,12] s))) rounds ⟨eL3 m id l.length 0,A⟩):=by
 refine wpO_mono (loopN_wp (fun r t=>∃ A' id' now' fl',t=⟨eL3 m id' l.length r,A'⟩∧HB (encSt l) A'∧A'[id']? =some (bob now' fl' false)∧fl'≤l.length∧Marks C O r l.length now')
  8 (by unfold rounds;omega) _ ⟨A,id,now,fl,rfl,hA,hid,hfl,hnow⟩ ?_ ?_) (fun r h=>h.2)
 ·rintro r t hr ⟨A',id',now',fl',rfl,hA',hid',hfl',hnow'⟩
  have hz:Marks C O (r+1) l.length (List.replicate l.length false):=⟨by simp,fun q hq=>by
   have:=List.mem_of_getElem? hq
   simp at this⟩
  have hl4:=least4_loop h call h256 hl64 hA' hid' hfl' hnow' (Nat.zero_le _) hz (m:=m)
  have e1:decide ((r:Int) < 8)=true:=dec_t (by omega)
  have t2:=stepWrap (i:=r) (n:=8) hr (by unfold maxLen;omega)
  have ln:=bob_len hid' hnow'.1.symm hfl'
  have hidl:=(List.getElem?_eq_some_iff.1 hid').1
  have ln2:lenA (A'++[bob (List.replicate l.length false) 0 false]) 0 (.own id' l.length)=some l.length:=bob_len (by rw[List.getElem?_append_left hidl];exact hid') hnow'.1.symm hfl'
  have hfr:AObj.seq 1 false (repZ [.bool false] l.length) 0 false=bob (List.replicate l.length false) 0 false:=by rw[repZ_bools];rfl
  have hro:(0≤(l.length:Int)∧(l.length:Int)≤(l.length:Int)∧roomOk l.length 1)=True:=eq_true ⟨by omega,Int.le_refl _,by unfold roomOk;omega⟩
  have hlen:(A'++[bob (List.replicate l.length false) 0 false]).length=A'.length+1:=by simp
  have htk:∀ th ft,(A'++[bob th ft false]).take (A'.length+1)=A'++[bob th ft false]:=fun th ft=>List.take_of_length_le (by simp)
  have hct:∀ th ft,mapO (cutObj (A'.length+1)) (A'++[bob th ft false])=some (A'++[bob th ft false]):=fun th ft=>(hA'.snoc (bob_cut th ft false)).clean _
  have hz1:(0 < A'.length+1)=True:=by simp
  have hz2:(id' < A'.length+1)=True:=eq_true (by omega)
  have hz3:(A'.length < A'.length+1)=True:=by simp
  have htk1:=htk (List.replicate l.length false) 0
  have hct1:=hct (List.replicate l.length false) 0
  generalize hQ:LN _ _ r=QQ
  generalize hBB:A'++[bob (List.replicate l.length false) 0 false]=BB at *
  generalize hL:l.length=n at *
  simp (implicitDefEqProofs:=false) only[SP,SA,WP,sevalprocAttr,-List.reduceReplicate,b_leadtraillaw13_AutoLeast_l3,roundA,e1,ln,ln2,hro,hfr,hBB,C_loop,hlen,clean,cutEnv,AV.cut,htk1,hct1,hz1,hz2,hz3,deep_eq',eL3]
  refine wpO_mono hl4 ?_
  rintro x ⟨E,th2,ft2,rfl,q1,q2,g3,g5,g12,g13⟩
  simp (implicitDefEqProofs:=false) only[SP,SA,WP,sevalprocAttr,-List.reduceReplicate,t2,g3,g5,g12,g13,tidy,keepEnv]
  subst hQ
  exact⟨_,A'.length,th2,ft2,rfl,hA'.snoc (bob_cut _ _ _),by simp,q1,q2⟩
 ·rintro t ⟨A',id',now',fl',rfl,hA',hid',hfl',hnow'⟩
  generalize hQ:(fun r:Ex×St=>r.1.stop=true∧_)=Q
  simp (implicitDefEqProofs:=false) only[SP,SA,WP,sevalprocAttr,-List.reduceReplicate,b_leadtraillaw13_AutoLeast_l3,roundA,eL3]
  subst hQ
  exact⟨rfl,_,A',id',now',fl',rfl,hA',hid',hfl',hnow',by simp[Tr.get_set]⟩
end
end Go.AM.B1
namespace Go.AM.B1
open Go.AM Go.AM.So
abbrev eL0 (S V:PV) (m n i:Int):Tr:=(((((Tr.lf.set 31 (.pv (i64 i))).set 30 (.pv (i64 n))).set 29 (.pv V)).set 5 (.pv (i64 m))).set 3 (.ptr 0 0)).set 1 (.pv (.rp [S] 0))
abbrev eL6 (m:Int) (id n:Nat) (i:Int):Tr:=((((Tr.lf.set 207 (.pv (i64 i))).set 206 (.pv (i64 n))).set 205 (.own id n)).set 5 (.pv (i64 m))).set 3 (.ptr 0 0)
section
variable {ss:List Shp} {sets:List Al} {C:List (List Int)} {O:List Int} {l:List (List Edg)} (h:LIs ss sets C O l) (call:CallF)
 (h256:∀ e∈l,e.length≤256) (hl64:l.length≤64)
include h h256 hl64
theorem least0_loop {S:PV} {es:List PV} (hS:HeldSch S ss es):
 wpO (fun r=>∃ E,r=(.exit 0,⟨E,[.box [.pv (encSt l)]]⟩)∧E.get 3= .ptr 0 0∧E.get 5= .pv (i64 l.length))
  (loopA (roundA (evalC call b_leadtraillaw13_AutoLeast_l0) (clean 1 [1,3,5,29,30,31])) rounds ⟨eL0 S (encSt l) 1 l.length 0,[.box [.pv (encSt l)]]⟩):=by
 have lS:=hS.lenA
 refine wpO_mono (loopN_wp (fun i t=>∃ m,t=⟨eL0 S (encSt l) m l.length i,[.box [.pv (encSt l)]]⟩∧1≤m∧metS m (l.drop i)=l.length∧MetsOk m i (l.drop i))
  l.length (by unfold rounds;omega) _ ⟨1,rfl,by omega,by rw[List.drop_zero,h.told.met,h.len],h.told.mets⟩ ?_ ?_) (fun r h=>h.2)
 ·rintro i t hi ⟨m,rfl,hm,hs,ho⟩
  have hd:l.drop i=l[i]::l.drop (i+1):=List.drop_eq_getElem_cons hi
  rw[hd] at hs ho
  have hlk:l[i]? =some l[i]:=List.getElem?_eq_getElem hi
  obtain⟨o1,o2,o3⟩:=ho
  have hs':metS (metE m l[i]) (l.drop (i+1))=l.length:=hs
  have hme:=metS_mono (l.drop (i+1)) (metE m l[i])
  have hmm:=metE_mono l[i] m
  have hl1:=least1_loop h call S h256 hlk hm o2 (by omega)
  have hl2:=least2_loop h call S h256 hl64 hlk (m:=metE m l[i])
  have hse:=h.some_edge hlk
  have a1:=encSt_iaddr hi
  have le:=encEs_len l[i]
  generalize hX:l[i]=e at *
  have e1:decide ((i:Int) < (l.length:Int))=true:=dec_t (by omega)
  have e2:decide ((i:Int)≥m)=false:=dec_f (by omega)
  have t2:=stepWrap hi (by unfold maxLen;omega)
  have htk:∀ (a:AObj) c,(a::c).take 1=[a]:=fun a c=>rfl
  have hct:∀ V,mapO (cutObj 1) [.box [.pv V]]=some [.box [.pv V]]:=fun V=>rfl
  have hz:(0 < 1)=True:=by simp
  generalize hm':metE m e=m' at *
  have hm1:1≤m':=by omega
  generalize encEs e=X at *
  generalize hVV:encSt l=V at *
  generalize hQ:LN _ _ i=QQ
  have main:wpO QQ (roundA (evalC call b_leadtraillaw13_AutoLeast_l0) (clean 1 [1,3,5,29,30,31]) ⟨eL0 S V m l.length i,[.box [.pv V]]⟩):=by
   have fin:QQ (.norm,⟨eL0 S V m' l.length (i+1:Nat),[.box [.pv V]]⟩):=by
    subst hQ
    exact⟨m',rfl,hm1,hs',o3⟩
   by_cases hne:e=[]
   ·have hss:ss=[]:=by
     by_cases q:ss=[]
     ·exact q
     ·exact absurd hne (hse q)
    have e3:((e.length:Int)==0)=true:=by rw[hne];rfl
    have e4:decide ((ss.length:Int) > 0)=false:=dec_f (by rw[hss];simp)
    simp (implicitDefEqProofs:=false) only[SP,SA,WP,sevalprocAttr,-List.reduceReplicate,b_leadtraillaw13_AutoLeast_l0,roundA,e1,e2,e3,e4,a1,rp1_load,rp1_place,le,lS,C_loop,clean,cutEnv,AV.cut,htk,hct,hz,deep_eq',eL0]
    refine wpO_mono hl1 ?_
    rintro x ⟨E,rfl,g1,g3,g5,g6,g7,g29,g30,g31⟩
    simp (implicitDefEqProofs:=false) only[SP,SA,WP,sevalprocAttr,-List.reduceReplicate,g1,g3,g5,g6,g7,g29,g30,g31,C_loop,clean,cutEnv,AV.cut,htk,hct,hz,deep_eq']
    refine wpO_mono hl2 ?_
    rintro x ⟨E2,rfl,k1,k3,k5,k29,k30,k31⟩
    simp (implicitDefEqProofs:=false) only[SP,SA,WP,sevalprocAttr,-List.reduceReplicate,t2,k1,k3,k5,k29,k30,k31,clean,cutEnv,AV.cut,htk,hct,hz,deep_eq']
    exact fin
   ·have e3:((e.length:Int)==0)=false:=beq_ne (by have:e.length≠0:=fun q=>hne (List.eq_nil_of_length_eq_zero q);omega)
    simp (implicitDefEqProofs:=false) only[SP,SA,WP,sevalprocAttr,-List.reduceReplicate,b_leadtraillaw13_AutoLeast_l0,roundA,e1,e2,e3,a1,rp1_load,rp1_place,le,lS,C_loop,clean,cutEnv,AV.cut,htk,hct,hz,deep_eq',eL0]
    refine wpO_mono hl1 ?_
    rintro x ⟨E,rfl,g1,g3,g5,g6,g7,g29,g30,g31⟩
    simp (implicitDefEqProofs:=false) only[SP,SA,WP,sevalprocAttr,-List.reduceReplicate,g1,g3,g5,g6,g7,g29,g30,g31,C_loop,clean,cutEnv,AV.cut,htk,hct,hz,deep_eq']
    refine wpO_mono hl2 ?_
    rintro x ⟨E2,rfl,k1,k3,k5,k29,k30,k31⟩
    simp (implicitDefEqProofs:=false) only[SP,SA,WP,sevalprocAttr,-List.reduceReplicate,t2,k1,k3,k5,k29,k30,k31,clean,cutEnv,AV.cut,htk,hct,hz,deep_eq']
    exact fin
  exact main
 ·rintro t ⟨m,rfl,hm,hs,ho⟩
  rw[List.drop_length] at hs
  have hs:m=l.length:=hs
  subst hs
  have e1:decide ((l.length:Int) < (l.length:Int))=false:=dec_f (by omega)
  generalize encSt l=V
  generalize hQ:(fun r:Ex×St=>r.1.stop=true∧_)=Q
  simp (implicitDefEqProofs:=false) only[SP,SA,WP,sevalprocAttr,-List.reduceReplicate,b_leadtraillaw13_AutoLeast_l0,roundA,e1,eL0]
  subst hQ
  exact⟨rfl,_,rfl,by simp[Tr.get_set]⟩
omit h256 in
theorem least6_loop {A:List AObj} (hA:HB (encSt l) A) {id fl:Nat} {now:List Bool} (hid:A[id]? =some (bob now fl false)) (hfl:fl≤l.length) (hnow:Marks C O 8 l.length now) {m:Int}:
 wpO (fun r=>∃ E,r=(.exit 12,⟨E,A⟩)∧E.get 3= .ptr 0 0∧E.get 5= .pv (i64 m))
  (loopA (roundA (evalC call b_leadtraillaw13_AutoLeast_l6) (clean A.length [3,5,205,206,207])) rounds ⟨eL6 m id l.length 0,A⟩):=by
 have hidl:=(List.getElem?_eq_some_iff.1 hid).1
 refine wpO_mono (loopN_wp (fun i t=>t=⟨eL6 m id l.length i,A⟩)
  l.length (by unfold rounds;omega) _ rfl ?_ ?_) (fun r h=>h.2)
 ·rintro i t hi rfl
  have e1:decide ((i:Int) < (l.length:Int))=true:=dec_t (by omega)
  have t2:=stepWrap hi (by unfold maxLen;omega)
  have i1:=bob_iaddr hid hnow.1.symm hfl (i:=(i:Int)) rfl hi
  have i2:=bob_load hid hnow.1.symm hi
  have hb:now.getD i false=false:=by
   cases hb:now.getD i false with
   |false=>rfl
   |true=>
    refine (h.rq8 (hnow.2 i ?_)).elim
    rw[List.getD_eq_getElem?_getD] at hb
    rw[List.getElem?_eq_getElem (by rw[hnow.1];exact hi)] at hb ⊢
    simpa using hb
  rw[hb] at i2
  have htk:A.take A.length=A:=List.take_length
  have hct:=hA.clean A.length
  have hz:(0 < A.length)=True:=eq_true (by omega)
  have hz2:(id < A.length)=True:=eq_true hidl
  generalize hQ:LN _ _ i=QQ
  simp (implicitDefEqProofs:=false) only[SP,SA,WP,sevalprocAttr,-List.reduceReplicate,b_leadtraillaw13_AutoLeast_l6,roundA,e1,t2,i1,i2,clean,cutEnv,AV.cut,htk,hct,hz,hz2,deep_eq',eL6]
  subst hQ;rfl
 ·rintro t rfl
  have e1:decide ((l.length:Int) < (l.length:Int))=false:=dec_f (by omega)
  generalize hQ:(fun r:Ex×St=>r.1.stop=true∧_)=Q
  simp (implicitDefEqProofs:=false) only[SP,SA,WP,sevalprocAttr,-List.reduceReplicate,b_leadtraillaw13_AutoLeast_l6,roundA,e1,eL6]
  subst hQ
  exact⟨rfl,_,rfl,by simp[Tr.get_set]⟩
end
theorem least_law_run {S:PV} {ss:List Shp} {es:List PV} (hS:HeldSch S ss es):pureF (fun _=>none) b_leadtraillaw13_AutoLeast [.agg [S]]=some (.bool true):=by
 have hS1:(AV.pv S).one=true:=by rcases hS.is with⟨h,_⟩ | h <;> rw[h] <;> rfl
 have hfx:=fixed_run
 obtain⟨V,l,n,hV,hn0,hn1,hb⟩:=prog_build ss
 have hb:=hb _ _ hS
 have hV1:(AV.pv V).one=true:=by rcases hV.form with rfl | ⟨av,rfl⟩ <;> rfl
 have st1:storeA [.box [.pv .nils]] 1 (.ptr 0 0) (.pv (.agg [V]))=some [.box [.pv V]]:=by simp[storeA,AV.cells,PV.cells,hV1,setRow]
 by_cases hn:n=0
 ·obtain⟨l',ha,hok,hpre,rfl,rfl⟩:=hn0.1 hn
  subst hn
  obtain⟨hl64,h256⟩:=autoS_len ha
  obtain⟨sets,C,O,h⟩:=auto_is hok hpre ha
  have hl0:=least0_loop h (callL (fun _=>none) 8) h256 hl64 hS
  have hpos:0 < l.length:=by
   have:=(List.getElem?_eq_some_iff.1 h.first).1
   rw[h.len] at this;exact this
  have lV:=hV.lenA
  have pv0:∀ V c,place (.box [.pv V]::c) 0 (.ptr 0 0)=some (.ptr 0 0):=fun V c=>rfl
  have lv0:∀ V c,loadA (.box [.pv V]::c) false 1 (.ptr 0 0)=some (.pv V):=fun V c=>rfl
  have htk:∀ (a:AObj) c,(a::c).take 1=[a]:=fun a c=>rfl
  have hct:∀ V,mapO (cutObj 1) [.box [.pv V]]=some [.box [.pv V]]:=fun V=>rfl
  have hz:(0 < 1)=True:=by simp
  have hfr:AObj.seq 1 false (repZ [.bool false] l.length) 0 false=bob (List.replicate l.length false) 0 false:=by rw[repZ_bools];rfl
  have hro:(0≤(l.length:Int)∧(l.length:Int)≤(l.length:Int)∧roomOk l.length 1)=True:=eq_true ⟨by omega,Int.le_refl _,by unfold roomOk;omega⟩
  have hHB:HB (encSt l) [.box [.pv (encSt l)]]:=⟨⟨[],rfl⟩,fun o ho n=>by simp at ho;subst ho;exact box_cut n [encSt l]⟩
  have hA:HB (encSt l) [.box [.pv (encSt l)],bob ((List.replicate l.length false).set 0 true) l.length false]:=hHB.snoc (bob_cut _ _ _)
  have hg0:([.box [.pv (encSt l)],bob (List.replicate l.length false) 0 false]:List AObj)[1]? =some (bob (List.replicate l.length false) 0 false):=rfl
  have ln0:lenA [.box [.pv (encSt l)],bob (List.replicate l.length false) 0 false] 0 (.own 1 l.length)=some l.length:=bob_len hg0 (by simp) (Nat.zero_le _)
  have i1:iaddrA' [.box [.pv (encSt l)],bob (List.replicate l.length false) 0 false] 1 (.own 1 l.length) 0=some (.eptr 1 l.length 0):=bob_iaddr hg0 (by simp) (Nat.zero_le _) (i:=0) (k:=0) rfl hpos
  have i2:storeA [.box [.pv (encSt l)],bob (List.replicate l.length false) 0 false] 1 (.eptr 1 l.length 0) (.pv (.bool true))=some [.box [.pv (encSt l)],bob ((List.replicate l.length false).set 0 true) l.length false]:=bob_store hg0 (by simp) hpos true
  have d0:((l.length:Int)==0)=false:=beq_ne (by omega)
  have hm0:Marks C O 0 l.length ((List.replicate l.length false).set 0 true):=⟨by simp,fun q hq=>by
   rcases Nat.eq_zero_or_pos q with rfl | hq0
   ·exact h.rq0
   ·rw[List.getElem?_set_ne (by omega)] at hq
    have:=List.mem_of_getElem? hq
    simp at this⟩
  have hl3:=least3_loop h (callL (fun _=>none) 8) h256 hl64 hA (id:=1) (fl:=l.length) rfl (Nat.le_refl _) hm0 (m:=(l.length:Int))
  have d1:((l.length:Int)==(l.length:Int))=true:=by simp
  have d2:decide ((l.length:Int)≤64)=true:=dec_t (by omega)
  have hl6:=fun {A:List AObj} (hA:HB (encSt l) A) {id fl:Nat} {now:List Bool} (hid:A[id]? =some (bob now fl false)) (hfl:fl≤l.length) (hnow:Marks C O 8 l.length now)=>least6_loop h (callL (fun _=>none) 8) hl64 hA hid hfl hnow (m:=(l.length:Int))
  apply wpO_eq
  generalize encSt l=V at *
  generalize (List.replicate l.length false).set 0 true=mk at *
  generalize List.replicate l.length false=mk0 at *
  simp (implicitDefEqProofs:=false) only[SP,SA,WP,sevalprocAttr,-List.reduceReplicate,b_leadtraillaw13_AutoLeast,hfx,hS1,hV1,rp1_place,rp1_loadA,hb,st1,pv0,lv0,lV,C_loop,clean,cutEnv,AV.cut,htk,hct,hz,deep_eq']
  refine wpO_mono hl0 ?_
  rintro x ⟨E,rfl,g3,g5⟩
  simp (implicitDefEqProofs:=false) only[SP,SA,WP,sevalprocAttr,-List.reduceReplicate,g3,g5,pv0,lv0,lV,hro,hfr,ln0,d0,i1,i2,C_loopG,tidy,keepEnv]
  refine wpO_mono hl3 ?_
  rintro x ⟨E2,A2,id2,now2,fl2,rfl,q1,q2,q3,q4,k3,k5,k11⟩
  have ln2:=bob_len q2 q4.1.symm q3
  have h6:=hl6 q1 q2 q3 q4
  have hidl:=(List.getElem?_eq_some_iff.1 q2).1
  have htk2:A2.take A2.length=A2:=List.take_length
  have hct2:=q1.clean A2.length
  have hz1:(0 < A2.length)=True:=eq_true (by omega)
  have hz2:(id2 < A2.length)=True:=eq_true hidl
  have pv2:=q1.pl []
  have lv2:=q1.ld []
  rw[List.append_nil] at pv2 lv2
  simp (implicitDefEqProofs:=false) only[SP,SA,WP,sevalprocAttr,-List.reduceReplicate,k3,k5,k11,ln2,C_loop,clean,cutEnv,AV.cut,htk2,hct2,hz1,hz2,deep_eq']
  refine wpO_mono h6 ?_
  rintro x ⟨E3,rfl,j3,j5⟩
  simp (implicitDefEqProofs:=false) only[SP,SA,WP,sevalprocAttr,-List.reduceReplicate,j3,j5,pv2,lv2,lV,d1,d2]
 ·have d1:(n != 0)=true:=by simp[hn]
  simp (implicitDefEqProofs:=false) only[SP,SA,WP,sevalprocAttr,-List.reduceReplicate,b_leadtraillaw13_AutoLeast,hfx,hS1,hV1,rp1_place,rp1_loadA,hb,st1,d1]
end Go.AM.B1
