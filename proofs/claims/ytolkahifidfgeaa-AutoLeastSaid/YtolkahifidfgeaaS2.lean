/- What auto.Build computes of a scheme that is sound. -/
import Derived.Test.YtolkahifidfgeaaS1
set_option linter.unusedVariables false
set_option linter.unusedSimpArgs false
namespace Go.AM.B1
open Go.AM
structure Edg where
 lo:Int
 hi:Int
 to:Int
deriving DecidableEq
def encE (e:Edg):PV:= .agg [i64 e.lo,i64 e.hi,i64 e.to]
def flatE (l:List Edg):List Int:=l.flatMap fun e=>[e.lo,e.hi,e.to]
theorem flatE_len (l:List Edg):(flatE l).length=l.length * 3:=by
 induction l with
 |nil=>rfl
 |cons e l ih=>simp only[flatE,List.flatMap_cons,List.length_append,List.length_cons,List.length_nil] at ih ⊢;omega
theorem flatE_push (l:List Edg) (e:Edg):flatE (l++[e])=flatE l++[e.lo,e.hi,e.to]:=by simp[flatE]
def edgeR (x to:Int) (l:List Edg):List Edg:=
 if to= -2 then l else match l.getLast? with
  |some e=>if e.to=to∧e.hi=x - 1 then l.dropLast++[⟨e.lo,x,e.to⟩] else l++[⟨x,x,to⟩]
  |none=>l++[⟨x,x,to⟩]
theorem rowA3 (a b c:Int):rowA [a,b,c]=[.pv (i64 a),.pv (i64 b),.pv (i64 c)]:=rfl
theorem rowA_app (a b:List Int):rowA (a++b)=rowA a++rowA b:=by simp[rowA]
abbrev envE (row:List Int) (n:Nat) (x:Int):Tr:=((Tr.lf.set 8 (.pv (i64 x))).set 7 (.pv (agR row))).set 3 (.own 0 n)
theorem seq_at (l:List Int) (e:Edg) (k:Nat) (hk:k < 3):(rowA (l++[e.lo,e.hi,e.to]))[l.length+k]? =some (.pv (i64 (if k=0 then e.lo else if k=1 then e.hi else e.to))):=by
 rw[rowA,List.getElem?_map,List.getElem?_append_right (by omega),Nat.add_sub_cancel_left]
 match k,hk with
 |0,_=>rfl
 |1,_=>rfl
 |2,_=>rfl
section
variable (call:CallF) (row:List Int) (x:Nat) (to:Int) (fl:Nat)
 (hx:x < 256) (hto:row[x]? =some to)
include hx hto
theorem edge_none (l:List Edg) (nl:Bool) (h:to= -2):roundA (evalC call b_auto_edges_l0) (fun s=>some (tidy [3,7,8] s)) ⟨envE row l.length x,[.seq 3 true (rowA (flatE l)) fl nl]⟩=
 some (.norm,⟨envE row l.length (x+1:Nat),[.seq 3 true (rowA (flatE l)) fl nl]⟩):=by
 have e1:decide ((x:Int) < 256)=true:=dec_t (by omega)
 have e2:(to== -2)=true:=by simp[h]
 have hq:idxOk (x:Int) 256:=by unfold idxOk;omega
 have t1:((x:Int)).toNat=x:=by simp
 have t2:=stepWrap (i:=x) (n:=256) hx (by unfold maxLen;omega)
 have ht:(row.map i64)[x]? =some (i64 to):=by rw[List.getElem?_map,hto];rfl
 simp (implicitDefEqProofs:=false) only[SP,SA,SQ,sevalprocAttr,-List.reduceReplicate,roundA,b_auto_edges_l0,e1,e2,eq_true hq,t1,t2,ht,iaddrA',tidy,keepEnv,envE]
theorem edge_first (nl:Bool) (h:to≠ -2):roundA (evalC call b_auto_edges_l0) (fun s=>some (tidy [3,7,8] s)) ⟨envE row 0 x,[.seq 3 true [] 0 nl]⟩=
 some (.norm,⟨envE row 1 (x+1:Nat),[.seq 3 true (rowA [(x:Int),x,to]) 0 false]⟩):=by
 have e1:decide ((x:Int) < 256)=true:=dec_t (by omega)
 have e2:(to== -2)=false:=beq_ne h
 have hq:idxOk (x:Int) 256:=by unfold idxOk;omega
 have t1:((x:Int)).toNat=x:=by simp
 have t2:=stepWrap (i:=x) (n:=256) hx (by unfold maxLen;omega)
 have ht:(row.map i64)[x]? =some (i64 to):=by rw[List.getElem?_map,hto];rfl
 have q1:roomOk 1 24:=by unfold roomOk;omega
 simp (implicitDefEqProofs:=false) only[SP,SA,SQ,sevalprocAttr,-List.reduceReplicate,roundA,b_auto_edges_l0,e1,e2,eq_true hq,t1,t2,ht,eq_true q1,iaddrA',tidy,keepEnv,envE,elemsA,partE,AV.pvu,AV.pvu1,rowA]
variable (l:List Edg) (e:Edg) (hl:l.length < 256) (hfl:fl≤(l.length+1) * 3)
include hl hfl
theorem edge_join (h:to≠ -2) (h1:e.to=to) (h2:e.hi=(x:Int) - 1):roundA (evalC call b_auto_edges_l0) (fun s=>some (tidy [3,7,8] s)) ⟨envE row (l.length+1) x,[.seq 3 true (rowA (flatE l++[e.lo,e.hi,e.to])) fl false]⟩=
 some (.norm,⟨envE row (l.length+1) (x+1:Nat),[.seq 3 true (rowA (flatE l++[e.lo,(x:Int),e.to])) ((l.length+1) * 3) false]⟩):=by
 have e1:decide ((x:Int) < 256)=true:=dec_t (by omega)
 have e2:(to== -2)=false:=beq_ne h
 have hq:idxOk (x:Int) 256:=by unfold idxOk;omega
 have t1:((x:Int)).toNat=x:=by simp
 have t2:=stepWrap (i:=x) (n:=256) hx (by unfold maxLen;omega)
 have ht:(row.map i64)[x]? =some (i64 to):=by rw[List.getElem?_map,hto];rfl
 have e3:decide (((l.length+1:Nat):Int) > 0)=true:=dec_t (by omega)
 have t3:IntKind.i64.wrap (((l.length+1:Nat):Int) - 1)=(l.length:Int):=by rw[wrap_int (by omega)];omega
 have t4:((l.length:Int)).toNat=l.length:=by simp
 have t5:IntKind.i64.wrap ((x:Int) - 1)=(x:Int) - 1:=wrap_int (by omega)
 have hq2:idxOk (l.length:Int) (l.length+1):=by unfold idxOk;omega
 have hlen:(rowA (flatE l++[e.lo,e.hi,e.to])).length=(l.length+1) * 3:=by rw[rowA_len,List.length_append,flatE_len];simp;omega
 have w1:winOk 3 (l.length+1) fl (rowA (flatE l++[e.lo,e.hi,e.to])).length:=by rw[hlen];unfold winOk;omega
 have w2:((rowA (flatE l++[e.lo,e.hi,e.to])).length=(l.length+1) * 3)=True:=eq_true hlen
 have g2:=seq_at (flatE l) e 2 (by omega)
 have g1:=seq_at (flatE l) e 1 (by omega)
 rw[flatE_len] at g1 g2
 simp only[h1,h2] at g1 g2
 have b1:(to==to)=true:=by simp
 have b2:((x:Int) - 1==(x:Int) - 1)=true:=by simp
 have w3:(l.length * 3+1+1≤(l.length+1) * 3)=True:=eq_true (by omega)
 have hset:(rowA (flatE l++[e.lo,(x:Int) - 1,to])).set (l.length * 3+1) (.pv (i64 x))=rowA (flatE l++[e.lo,(x:Int),to]):=by
  rw[rowA_set,←flatE_len,List.set_append_right _ _ (by omega),Nat.add_sub_cancel_left];rfl
 rw[h1,h2] at *
 generalize flatE l++[e.lo,(x:Int) - 1,to]=cs at *
 simp (implicitDefEqProofs:=false) only[SP,SA,SQ,sevalprocAttr,-List.reduceReplicate,roundA,b_auto_edges_l0,e1,e2,e3,eq_true hq,eq_true hq2,t1,t2,t3,t4,t5,ht,g1,g2,eq_true w1,w2,w3,b1,b2,hset,iaddrA',tidy,keepEnv,envE]
theorem edge_push (h:to≠ -2) (h1:¬(e.to=to∧e.hi=(x:Int) - 1)):roundA (evalC call b_auto_edges_l0) (fun s=>some (tidy [3,7,8] s)) ⟨envE row (l.length+1) x,[.seq 3 true (rowA (flatE l++[e.lo,e.hi,e.to])) fl false]⟩=
 some (.norm,⟨envE row (l.length+1+1) (x+1:Nat),[.seq 3 true (rowA (flatE l++[e.lo,e.hi,e.to])++rowA [(x:Int),x,to]) fl false]⟩):=by
 have e1:decide ((x:Int) < 256)=true:=dec_t (by omega)
 have e2:(to== -2)=false:=beq_ne h
 have hq:idxOk (x:Int) 256:=by unfold idxOk;omega
 have t1:((x:Int)).toNat=x:=by simp
 have t2:=stepWrap (i:=x) (n:=256) hx (by unfold maxLen;omega)
 have ht:(row.map i64)[x]? =some (i64 to):=by rw[List.getElem?_map,hto];rfl
 have e3:decide (((l.length+1:Nat):Int) > 0)=true:=dec_t (by omega)
 have t3:IntKind.i64.wrap (((l.length+1:Nat):Int) - 1)=(l.length:Int):=by rw[wrap_int (by omega)];omega
 have t4:((l.length:Int)).toNat=l.length:=by simp
 have t5:IntKind.i64.wrap ((x:Int) - 1)=(x:Int) - 1:=wrap_int (by omega)
 have hq2:idxOk (l.length:Int) (l.length+1):=by unfold idxOk;omega
 have hlen:(rowA (flatE l++[e.lo,e.hi,e.to])).length=(l.length+1) * 3:=by rw[rowA_len,List.length_append,flatE_len];simp;omega
 have w1:winOk 3 (l.length+1) fl (rowA (flatE l++[e.lo,e.hi,e.to])).length:=by rw[hlen];unfold winOk;omega
 have w2:((rowA (flatE l++[e.lo,e.hi,e.to])).length=(l.length+1) * 3)=True:=eq_true hlen
 have w2':((l.length+1) * 3=(rowA (flatE l++[e.lo,e.hi,e.to])).length)=True:=eq_true hlen.symm
 have g2:(rowA (flatE l++[e.lo,e.hi,e.to]))[(flatE l).length+2]? =some (.pv (i64 e.to)):=seq_at (flatE l) e 2 (by omega)
 have g1:(rowA (flatE l++[e.lo,e.hi,e.to]))[(flatE l).length+1]? =some (.pv (i64 e.hi)):=seq_at (flatE l) e 1 (by omega)
 rw[flatE_len] at g1 g2
 have q1:roomOk (l.length+1+1) 24:=by unfold roomOk;omega
 generalize flatE l++[e.lo,e.hi,e.to]=cs at *
 by_cases hb1:e.to=to
 ·have b1:(e.to==to)=true:=by simp[hb1]
  have b2:(e.hi==(x:Int) - 1)=false:=beq_ne fun hh=>h1 ⟨hb1,hh⟩
  simp (implicitDefEqProofs:=false) only[SP,SA,SQ,sevalprocAttr,-List.reduceReplicate,roundA,b_auto_edges_l0,e1,e2,e3,eq_true hq,eq_true hq2,t1,t2,t3,t4,t5,ht,g1,g2,eq_true w1,w2,w2',eq_true q1,b1,b2,iaddrA',tidy,keepEnv,envE,elemsA,partE,AV.pvu,AV.pvu1,rowA3]
 ·have b1:(e.to==to)=false:=beq_ne hb1
  simp (implicitDefEqProofs:=false) only[SP,SA,SQ,sevalprocAttr,-List.reduceReplicate,roundA,b_auto_edges_l0,e1,e2,e3,eq_true hq,eq_true hq2,t1,t2,t3,t4,t5,ht,g1,g2,eq_true w1,w2,w2',eq_true q1,b1,iaddrA',tidy,keepEnv,envE,elemsA,partE,AV.pvu,AV.pvu1,rowA3]
end
end Go.AM.B1
namespace Go.AM.B1
open Go.AM
def edgesGo (row:List Int):List Nat→List Edg→List Edg
 | [],l=>l
 |x::xs,l=>edgesGo row xs (edgeR x (row.getD x 0) l)
def edgesS (row:List Int):List Edg:=edgesGo row (List.range 256) []
def encEs (l:List Edg):PV:=if l.isEmpty then .nils else .lit 3 (l.map encE)
theorem edgeR_none (x:Int) (l:List Edg):edgeR x (-2) l=l:=by simp[edgeR]
theorem edgeR_first {x to:Int} (h:to≠ -2):edgeR x to []=[⟨x,x,to⟩]:=by simp[edgeR,h]
theorem edgeR_join {x:Int} {l:List Edg} {e:Edg} (h:e.to≠ -2) (h2:e.hi=x - 1):edgeR x e.to (l++[e])=l++[⟨e.lo,x,e.to⟩]:=by simp[edgeR,h,h2]
theorem edgeR_push {x to:Int} {l:List Edg} {e:Edg} (h:to≠ -2) (h2:¬(e.to=to∧e.hi=x - 1)):edgeR x to (l++[e])=l++[e]++[⟨x,x,to⟩]:=by
 simp only[edgeR,if_neg h,List.getLast?_append,List.getLast?_singleton,Option.some_or,if_neg h2]
theorem mapO_rowA (H:List AObj) (d:Nat) (l:List Int):mapO (toPV H d) (rowA l)=some (l.map i64):=by
 induction l with
 |nil=>rfl
 |cons a l ih=>simp only[rowA,List.map_cons,mapO,toPV_pv,Option.bind_some] at ih ⊢;rw[ih];rfl
theorem chunkE:∀ (l:List Edg),chunk 3 true l.length ((flatE l).map i64)=l.map encE
 | []=>rfl
 |e::l=>by
  have:=chunkE l
  rw[List.length_cons,chunk]
  simp only[flatE,List.flatMap_cons,List.cons_append,List.nil_append,List.map_cons,List.take,List.drop,if_true] at this ⊢
  rw[this];rfl
theorem toPV_edges (H:List AObj) (id:Nat) (l:List Edg) (fl:Nat) (h:H[id]? =some (.seq 3 true (rowA (flatE l)) fl l.isEmpty)):toPV H deep (.own id l.length)=some (encEs l):=by
 have hl:(l.length * 3=(rowA (flatE l)).length)=True:=by rw[rowA_len,flatE_len];exact eq_self _
 rw[deep_eq]
 simp only[toPV,h,hl,Bool.true_or,and_self,if_true]
 unfold encEs
 cases hn:l.isEmpty with
 |true=>rfl
 |false=>simp only[Bool.false_eq_true,if_false,mapO_rowA,Option.map_some,chunkE]
section
variable (row:List Int) (hrow:row.length=256)
include hrow
theorem edges_loop (call:CallF):∃ fl,loopA (roundA (evalC call b_auto_edges_l0) (fun s=>some (tidy [3,7,8] s))) rounds ⟨envE row 0 0,[.seq 3 true [] 0 true]⟩=
 some (.exit 0,⟨(envE row (edgesS row).length 256).set 9 (.pv (.bool false)),[.seq 3 true (rowA (flatE (edgesS row))) fl (edgesS row).isEmpty]⟩):=by
 unfold edgesS
 generalize hxs:List.range 256=xs
 have key:=loopA_go (g:=roundA (evalC call b_auto_edges_l0) (fun s=>some (tidy [3,7,8] s)))
  (fun x t=>∃ fl l,fl≤l.length * 3∧l.length≤x∧t=⟨envE row l.length x,[.seq 3 true (rowA (flatE l)) fl l.isEmpty]⟩∧edgesGo row xs []=edgesGo row (xs.drop x) l)
  (fun ex t=>∃ fl,ex= .exit 0∧t=⟨(envE row (edgesGo row xs []).length 256).set 9 (.pv (.bool false)),[.seq 3 true (rowA (flatE (edgesGo row xs []))) fl (edgesGo row xs []).isEmpty]⟩)
  rounds 256 0 ⟨envE row 0 (0:Nat),[.seq 3 true [] 0 true]⟩ (by unfold rounds;omega) (by omega) ⟨0,[],by simp,by simp,rfl,rfl⟩ ?_ ?_
 ·obtain⟨ex,t,h,_,fl,rfl,rfl⟩:=key
  exact⟨fl,h⟩
 ·rintro x hx t ⟨fl,l,hf,hlx,rfl,hl⟩
  have hd:=range_drop hx
  rw[hxs] at hd
  obtain⟨to,ht⟩:∃ to,row[x]? =some to:=⟨row[x],by simp[hrow,hx]⟩
  have hgd:row.getD x 0=to:=by simp[List.getD_eq_getElem?_getD,ht]
  rw[hd,edgesGo,hgd] at hl
  by_cases h2:to= -2
  ·rw[h2,edgeR_none] at hl
   exact .inl ⟨_,edge_none call row x to fl hx ht l _ h2,fl,l,hf,by omega,rfl,hl⟩
  rcases List.eq_nil_or_concat l with rfl | ⟨l',e,rfl⟩
  ·rw[edgeR_first h2] at hl
   have hf0:fl=0:=by simpa using hf
   subst hf0
   exact .inl ⟨_,edge_first call row x to hx ht true h2,0,[⟨x,x,to⟩],by simp,by simp,rfl,hl⟩
  ·simp only[List.concat_eq_append] at *
   have hem:(l'++[e]).isEmpty=false:=by simp
   have hlen:(l'++[e]).length=l'.length+1:=by simp
   rw[hlen] at hf hlx
   rw[hem,hlen,flatE_push]
   by_cases h3:e.to=to∧e.hi=(x:Int) - 1
   ·obtain⟨h3,h4⟩:=h3
    rw[← h3,edgeR_join (by rw[h3];exact h2) h4] at hl
    refine .inl ⟨_,edge_join call row x to fl hx ht l' e (by omega) hf h2 h3 h4,(l'.length+1) * 3,l'++[⟨e.lo,x,e.to⟩],by simp,by simp;omega,?_,hl⟩
    rw[flatE_push];simp
   ·rw[edgeR_push h2 h3] at hl
    refine .inl ⟨_,edge_push call row x to fl hx ht l' e (by omega) hf h2 h3,fl,_,?_,?_,?_,hl⟩
    ·simp;omega
    ·simp;omega
    ·rw[flatE_push,flatE_push,rowA_app];simp[rowA]
 ·rintro t ⟨fl,l,hf,hlx,rfl,hl⟩
  rw[List.drop_eq_nil_of_le (by rw[← hxs,List.length_range];exact Nat.le_refl _)] at hl
  refine⟨.exit 0,_,?_,rfl,fl,rfl,rfl⟩
  rw[hl]
  have e1:decide (((256:Nat):Int) < 256)=false:=by decide
  simp (implicitDefEqProofs:=false) only[SP,SA,SQ,sevalprocAttr,-List.reduceReplicate,roundA,b_auto_edges_l0,e1,envE,edgesGo]
theorem edges_run:F_auto_edges [agR row]=some (encEs (edgesS row)):=by
 obtain⟨fl,hl⟩:=edges_loop row hrow (callL (fun _=>none) 8)
 have ht:=toPV_edges [.seq 3 true (rowA (flatE (edgesS row))) fl (edgesS row).isEmpty] 0 (edgesS row) fl rfl
 have h9:(row.map i64).map AV.pv=rowA row:=(rowA_map row).symm
 have p0:((rowA row).length=256)=True:=by rw[rowA_len,hrow];exact eq_self _
 have p1:(256≤(rowA row).length)=True:=by rw[rowA_len,hrow];exact eq_true (Nat.le_refl _)
 have p2:List.take 256 (rowA row)=rowA row:=List.take_of_length_le (by rw[rowA_len,hrow];exact Nat.le_refl _)
 have p3:=allPV_row row
 have p5:=rowA_one row
 have p6:=mapO_rowA [] 0 row
 have p8:List.take 256 (row.map i64)=row.map i64:=List.take_of_length_le (by rw[List.length_map,hrow];exact Nat.le_refl _)
 have p7:(256≤(row.map i64).length)=True:=by rw[List.length_map,hrow];exact eq_true (Nat.le_refl _)
 have p4:((row.map i64).length=256)=True:=by rw[List.length_map,hrow];exact eq_self _
 generalize edgesS row=es at *
 simp only[tidy,keepEnv,envE] at hl
 simp (implicitDefEqProofs:=false) only[F_auto_edges,SP,SA,SQ,sevalprocAttr,-List.reduceReplicate,b_auto_edges,h9,p0,p1,p2,p3,p4,p5,p6,p7,p8,ghostA,C_loopG,tidy,keepEnv]
 rw[hl]
 simp (implicitDefEqProofs:=false) only[SP,SA,SQ,sevalprocAttr,-List.reduceReplicate,ht]
end
end Go.AM.B1
namespace Go.AM.B1
open Go.AM
def idxO (a:Int):List Int→Nat→Option Nat
 | [],_=>none
 |b::l,k=>if a=b then some k else idxO a l (k+1)
def encN (l:List Int) (k:Nat):List (PV×PV):=(l.zipIdx k).map fun p=>(i64 p.1,i64 p.2)
theorem encN_cons (a:Int) (l:List Int) (k:Nat):encN (a::l) k=(i64 a,i64 k)::encN l (k+1):=rfl
theorem encN_push (a:Int):∀ (l:List Int) (k:Nat),encN (l++[a]) k=encN l k++[(i64 a,i64 (k+l.length:Nat))]
 | [],k=>by simp[encN]
 |b::l,k=>by rw[List.cons_append,encN_cons,encN_push a l (k+1),encN_cons];simp;omega
theorem idxO_ge {a:Int}:∀ {l:List Int} {k i:Nat},idxO a l k=some i→k≤i
 |b::l,k,i,h=>by
  simp only[idxO] at h
  split at h
  ·injection h with h;omega
  ·have:=idxO_ge h;omega
theorem find_int (a:Int):∀ (l:List Int) (k j:Nat),findM (.one 1) (i64 a) (encN l k) j=some ((idxO a l k).map fun i=>(j+(i - k),i64 i)):=by
 intro l
 induction l with
 |nil=>intro k j;rfl
 |cons b l ih=>
  intro k j
  have he:eqKd (.one 1) (i64 a) (i64 b)=some (decide (a=b)):=by
   show (if IntKind.i64=IntKind.i64 then some (a==b) else none)=_
   rw[if_pos rfl]
   congr 1
  rw[encN_cons,findM,he]
  simp only[Option.bind_some,idxO]
  by_cases h:a=b
  ·simp[h]
  ·rw[if_neg h,ih]
   simp only[h,decide_false,Bool.false_eq_true,if_false,Option.some.injEq]
   cases hi:idxO a l (k+1) with
   |none=>rfl
   |some i=>
    have:=idxO_ge hi
    simp only[Option.map_some,Option.some.injEq,Prod.mk.injEq,and_true]
    omega
theorem int_isSome (a:Int):(eqKd (.one 1) (i64 a) (i64 a)).isSome=true:=rfl
abbrev bldT (R0 R1:AObj) (S:PV) (nl nr:Bool) (fr:Nat) (sets:List Al) (C:List Int) (n:Nat) (L M:AObj) (O:List Int) (out:List PV) (no:Bool) (T:List AObj):List AObj:=
 bldF R0 R1 S nl nr fr sets C n (L::M:: .box [.pv .nils]:: .map (encN O 0):: .tok 1 O.length false:: .box [.uq 12 no 1 out]:: .tok 1 out.length no::T)
abbrev envT (q:Nat) (k:Int) (O:List Int) (row0:List Int) (x:Int):Tr:=
 (((((((((Tr.lf.set 32 (.pv (i64 x))).set 31 (.pv (agR row0))).set 7 (.ptr q 0)).set 6 (.pv (i64 k))).set 5 (.ptr 11 0)).set 4 (.uq 10 false 1 (O.map i64))).set 3 (.mp 9)).set 2 (.ptr 8 0)).set 0 (.ptr 3 0))
def toldX (x:Nat) (to:Int) (r:List Int×List Int):List Int×List Int:=
 if to < 0 then r else match idxO to r.1 0 with
  |some k=>(r.1,r.2.set x k)
  |none=>(r.1++[to],r.2.set x r.1.length)
section
variable (call:CallF) (R0 R1:AObj) (S:PV) (nl nr:Bool) (fr:Nat) (sets:List Al) (C:List Int) (n:Nat) (L M:AObj) (O:List Int) (out:List PV) (no:Bool) (J:List AObj)
 (k:Int) (row0 row:List Int) (x:Nat) (to:Int) (q:Nat) (hx:x < 256) (hto:row0[x]? =some to)
include hx hto
theorem told_skip (h:to < 0):
 roundA (evalC call b_auto_builder_told_l1) (fun s=>some (tidy [0,2,3,4,5,6,7,31,32] s)) ⟨envT q k O row0 x,bldT R0 R1 S nl nr fr sets C n L M O out no (J++[.box (rowA row)])⟩=
  some (.norm,⟨envT q k O row0 (x+1:Nat),bldT R0 R1 S nl nr fr sets C n L M O out no (J++[.box (rowA row)])⟩):=by
 have e1:decide ((x:Int) < 256)=true:=dec_t (by omega)
 have e2:decide (to < 0)=true:=dec_t (by omega)
 have hq:idxOk (x:Int) 256:=by unfold idxOk;omega
 have t1:((x:Int)).toNat=x:=by simp
 have t2:=stepWrap (i:=x) (n:=256) hx (by unfold maxLen;omega)
 have ht:(row0.map i64)[x]? =some (i64 to):=by rw[List.getElem?_map,hto];rfl
 simp (implicitDefEqProofs:=false) only[SP,SA,SQ,sevalprocAttr,-List.reduceReplicate,roundA,b_auto_builder_told_l1,e1,e2,eq_true hq,t1,t2,ht,iaddrA',tidy,keepEnv,envT,bldT,bldF]
theorem told_old (hq13:q=J.length+1+1+1+1+1+1+1+1+1+1+1+1+1) (hrow:row.length=256) (h:¬to < 0) {j:Nat} (hj:idxO to O 0=some j):
 roundA (evalC call b_auto_builder_told_l1) (fun s=>some (tidy [0,2,3,4,5,6,7,31,32] s)) ⟨envT q k O row0 x,bldT R0 R1 S nl nr fr sets C n L M O out no (J++[.box (rowA row)])⟩=
  some (.norm,⟨envT q k O row0 (x+1:Nat),bldT R0 R1 S nl nr fr sets C n L M O out no (J++[.box (rowA (row.set x j))])⟩):=by
 have e1:decide ((x:Int) < 256)=true:=dec_t (by omega)
 have e2:decide (to < 0)=false:=dec_f (by omega)
 have hq:idxOk (x:Int) 256:=by unfold idxOk;omega
 have t1:((x:Int)).toNat=x:=by simp
 have t2:=stepWrap (i:=x) (n:=256) hx (by unfold maxLen;omega)
 have ht:(row0.map i64)[x]? =some (i64 to):=by rw[List.getElem?_map,hto];rfl
 have hf:=find_int to O 0 0
 rw[hj] at hf
 simp only[Option.map_some] at hf
 have his:=int_isSome to
 have hle:(x+1≤(rowA row).length)=True:=by rw[rowA_len];exact eq_true (by omega)
 subst hq13
 simp (implicitDefEqProofs:=false) only[SP,SA,SQ,sevalprocAttr,-List.reduceReplicate,roundA,b_auto_builder_told_l1,e1,e2,eq_true hq,t1,t2,ht,hf,eq_true his,hle,rowA_set,get_last,set_last,iaddrA',tidy,keepEnv,envT,bldT,bldF]
theorem told_new (hq13:q=J.length+1+1+1+1+1+1+1+1+1+1+1+1+1) (hrow:row.length=256) (h:¬to < 0) (hj:idxO to O 0=none) (hO:O.length < 100):
 roundA (evalC call b_auto_builder_told_l1) (fun s=>some (tidy [0,2,3,4,5,6,7,31,32] s)) ⟨envT q k O row0 x,bldT R0 R1 S nl nr fr sets C n L M O out no (J++[.box (rowA row)])⟩=
  some (.norm,⟨envT q k (O++[to]) row0 (x+1:Nat),bldT R0 R1 S nl nr fr sets C n L M (O++[to]) out no (J++[.box (rowA (row.set x O.length))])⟩):=by
 have e1:decide ((x:Int) < 256)=true:=dec_t (by omega)
 have e2:decide (to < 0)=false:=dec_f (by omega)
 have hq:idxOk (x:Int) 256:=by unfold idxOk;omega
 have t1:((x:Int)).toNat=x:=by simp
 have t2:=stepWrap (i:=x) (n:=256) hx (by unfold maxLen;omega)
 have ht:(row0.map i64)[x]? =some (i64 to):=by rw[List.getElem?_map,hto];rfl
 have hf:=find_int to O 0 0
 rw[hj] at hf
 simp only[Option.map_none] at hf
 have his:=int_isSome to
 have hle:(x+1≤(rowA row).length)=True:=by rw[rowA_len];exact eq_true (by omega)
 have hlen:(O.map i64).length=O.length:=by simp
 have q1:roomOk (O.length+1) 8:=by unfold roomOk;omega
 have hp:=encN_push to O 0
 rw[Nat.zero_add] at hp
 have hlen2:(O++[to]).length=O.length+1:=by simp
 have hmap:(O++[to]).map i64=O.map i64++[i64 to]:=by simp
 subst hq13
 unfold envT bldT
 rw[hp,hlen2,hmap]
 simp (implicitDefEqProofs:=false) only[SP,SA,SQ,sevalprocAttr,-List.reduceReplicate,roundA,b_auto_builder_told_l1,e1,e2,eq_true hq,t1,t2,ht,hf,eq_true his,hle,hlen,eq_true q1,rowA_set,get_last,set_last,iaddrA',tidy,keepEnv,bldF,partE,AV.pvu,AV.pvu1]
end
end Go.AM.B1
namespace Go.AM.B1
open Go.AM
def OrdOk (n:Nat) (O:List Int):Prop:=O.Nodup∧∀ o∈O,0≤o∧o < (n:Int)
theorem nodup_len:∀ (n:Nat) (O:List Int),O.Nodup→(∀ o∈O,0≤o∧o < (n:Int))→O.length≤n
 |0,O,_,h=>by
  cases O with
  |nil=>simp
  |cons a O=>have:=h a (by simp);omega
 |n+1,O,hd,h=>by
  have ih:=nodup_len n (O.erase n) (hd.erase _) (fun o ho=>by
   have h1:=h o (List.mem_of_mem_erase ho)
   have h2:o≠n:=(hd.mem_erase_iff.1 ho).1
   omega)
  rw[List.length_erase] at ih
  split at ih <;> omega
theorem OrdOk.len {n:Nat} {O:List Int} (h:OrdOk n O):O.length≤n:=nodup_len n O h.1 h.2
theorem idxO_none {a:Int}:∀ {l:List Int} {k:Nat},idxO a l k=none→a ∉ l
 | [],_,_=>by simp
 |b::l,k,h=>by
  simp only[idxO] at h
  split at h
  ·cases h
  ·next hne=>simp only[List.mem_cons,not_or];exact⟨hne,idxO_none h⟩
def toldIn (row0:List Int):List Nat→List Int×List Int→List Int×List Int
 | [],r=>r
 |x::xs,r=>toldIn row0 xs (toldX x (row0.getD x 0) r)
theorem toldX_ok {n:Nat} {x:Nat} {to:Int} {r:List Int×List Int} (hto:to < n) (h:OrdOk n r.1):OrdOk n (toldX x to r).1∧(toldX x to r).2.length=r.2.length∧∃ t,(toldX x to r).1=r.1++t:=by
 unfold toldX
 by_cases h0:to < 0
 ·rw[if_pos h0];exact⟨h,rfl,[],by simp⟩
 ·rw[if_neg h0]
  cases hi:idxO to r.1 0 with
  |some k=>exact⟨h,by simp,[],by simp⟩
  |none=>
   have hn:=idxO_none hi
   refine⟨⟨?_,?_⟩,by simp,[to],rfl⟩
   ·simp only[List.nodup_append,h.1,true_and]
    refine⟨by simp,?_⟩
    intro a ha b hb
    simp at hb;subst hb
    intro e;subst e;exact hn ha
   ·intro o ho
    rcases List.mem_append.1 ho with h1 | h1
    ·exact h.2 o h1
    ·simp at h1;subst h1;omega
section
variable (call:CallF) (R0 R1:AObj) (S:PV) (nl nr:Bool) (fr:Nat) (sets:List Al) (C:List Int) (n:Nat) (L M:AObj)
theorem told_inner (O:List Int) (out:List PV) (no:Bool) (J:List AObj) (k:Int) (row0:List Int) (q:Nat) (hq13:q=J.length+1+1+1+1+1+1+1+1+1+1+1+1+1)
 (hO:OrdOk n O) (hn:n≤64) (hrow:row0.length=256) (hto:∀ to∈row0,to < n):
 loopA (roundA (evalC call b_auto_builder_told_l1) (fun s=>some (tidy [0,2,3,4,5,6,7,31,32] s))) rounds ⟨envT q k O row0 0,bldT R0 R1 S nl nr fr sets C n L M O out no (J++[.box (rowA row0)])⟩=
  some (.exit 2,⟨(envT q k (toldIn row0 (List.range 256) (O,row0)).1 row0 256).set 33 (.pv (.bool false)),
   bldT R0 R1 S nl nr fr sets C n L M (toldIn row0 (List.range 256) (O,row0)).1 out no (J++[.box (rowA (toldIn row0 (List.range 256) (O,row0)).2)])⟩)∧
  OrdOk n (toldIn row0 (List.range 256) (O,row0)).1∧(toldIn row0 (List.range 256) (O,row0)).2.length=256∧∃ t,(toldIn row0 (List.range 256) (O,row0)).1=O++t:=by
 generalize hxs:List.range 256=xs
 have key:=loopA_go (g:=roundA (evalC call b_auto_builder_told_l1) (fun s=>some (tidy [0,2,3,4,5,6,7,31,32] s)))
  (fun x t=>∃ r,OrdOk n r.1∧r.2.length=256∧(∃ t,r.1=O++t)∧t=⟨envT q k r.1 row0 x,bldT R0 R1 S nl nr fr sets C n L M r.1 out no (J++[.box (rowA r.2)])⟩∧toldIn row0 xs (O,row0)=toldIn row0 (xs.drop x) r)
  (fun ex t=>ex= .exit 2∧t=⟨(envT q k (toldIn row0 xs (O,row0)).1 row0 256).set 33 (.pv (.bool false)),bldT R0 R1 S nl nr fr sets C n L M (toldIn row0 xs (O,row0)).1 out no (J++[.box (rowA (toldIn row0 xs (O,row0)).2)])⟩∧
   OrdOk n (toldIn row0 xs (O,row0)).1∧(toldIn row0 xs (O,row0)).2.length=256∧∃ t,(toldIn row0 xs (O,row0)).1=O++t)
  rounds 256 0 ⟨envT q k O row0 (0:Nat),bldT R0 R1 S nl nr fr sets C n L M O out no (J++[.box (rowA row0)])⟩ (by unfold rounds;omega) (by omega) ⟨(O,row0),hO,hrow,⟨[],by simp⟩,rfl,rfl⟩ ?_ ?_
 ·obtain⟨ex,t,h,_,rfl,rfl,q1,q2⟩:=key
  exact⟨h,q1,q2⟩
 ·rintro x hx t ⟨⟨O',row⟩,hO',hr',⟨tl,htl⟩,rfl,hl⟩
  have hd:=range_drop hx
  rw[hxs] at hd
  obtain⟨to,ht⟩:∃ to,row0[x]? =some to:=⟨row0[x],by simp[hrow,hx]⟩
  have hgd:row0.getD x 0=to:=by simp[List.getD_eq_getElem?_getD,ht]
  have hlt:=hto to (List.mem_of_getElem? ht)
  rw[hd,toldIn,hgd] at hl
  have hok:=toldX_ok (x:=x) (r:=(O',row)) hlt hO'
  refine .inl ⟨_,?_,toldX x to (O',row),hok.1,by rw[hok.2.1];exact hr',?_,rfl,hl⟩
  ·by_cases h0:to < 0
   ·have e:toldX x to (O',row)=(O',row):=by simp[toldX,h0]
    rw[e]
    exact told_skip call R0 R1 S nl nr fr sets C n L M O' out no J k row0 row x to q hx ht h0
   ·have hlen:=hO'.len
    cases hi:idxO to O' 0 with
    |some j=>
     have e:toldX x to (O',row)=(O',row.set x j):=by simp[toldX,h0,hi]
     rw[e]
     exact told_old call R0 R1 S nl nr fr sets C n L M O' out no J k row0 row x to q hx ht hq13 hr' h0 hi
    |none=>
     have e:toldX x to (O',row)=(O'++[to],row.set x O'.length):=by simp[toldX,h0,hi]
     rw[e]
     exact told_new call R0 R1 S nl nr fr sets C n L M O' out no J k row0 row x to q hx ht hq13 hr' h0 hi (by simp only at hlen;omega)
  ·obtain⟨t2,h2⟩:=hok.2.2
   exact⟨tl++t2,by rw[h2,←List.append_assoc,←htl]⟩
 ·rintro t ⟨⟨O',row⟩,hO',hr',htl,rfl,hl⟩
  rw[List.drop_eq_nil_of_le (by rw[← hxs,List.length_range];exact Nat.le_refl _),toldIn] at hl
  rw[hl]
  refine⟨.exit 2,_,?_,rfl,rfl,rfl,hO',hr',htl⟩
  have e1:decide (((256:Nat):Int) < 256)=false:=by decide
  simp (implicitDefEqProofs:=false) only[SP,SA,SQ,sevalprocAttr,-List.reduceReplicate,roundA,b_auto_builder_told_l1,e1,envT]
abbrev envU (k:Int) (O:List Int):Tr:=
 ((((((Tr.lf.set 6 (.pv (i64 k))).set 5 (.ptr 11 0)).set 4 (.uq 10 false 1 (O.map i64))).set 3 (.mp 9)).set 2 (.ptr 8 0)).set 0 (.ptr 3 0))
def toldOne (C:List Int) (o:Int) (O:List Int):List Int×List Int:=toldIn (rowAt C o.toNat) (List.range 256) (O,rowAt C o.toNat)
theorem told_round (O:List Int) (out:List PV) (no:Bool) (J:List AObj) (k:Nat) (o:Int)
 (hC:C.length=n * 256) (cC:∀ c∈C,c < n) (hfr:fr≤n * 256) (hO:OrdOk n O) (hn:n≤64) (hk:O[k]? =some o) (hout:out.length=k):
 roundA (evalC call b_auto_builder_told_l0) (fun s=>some (tidy [0,2,3,4,5,6] s)) ⟨envU k O,bldT R0 R1 S nl nr fr sets C n L M O out no J⟩=
  some (.norm,⟨envU (k+1:Nat) (toldOne C o O).1,bldT R0 R1 S nl nr fr sets C n L M (toldOne C o O).1 (out++[encEs (edgesS (toldOne C o O).2)]) false (J++[.box (rowA (toldOne C o O).2)])⟩)∧
  OrdOk n (toldOne C o O).1∧∃ t,(toldOne C o O).1=O++t:=by
 have hom:=hO.2 o (List.mem_of_getElem? hk)
 have hkl:=(List.getElem?_eq_some_iff.1 hk).1
 have hOl:=hO.len
 have hoi:o.toNat < n:=by omega
 have hr0:=rowAt_len hC hoi
 obtain⟨hin,g1,g2,g3⟩:=told_inner call R0 R1 S nl nr fr sets C n L M O out no J k (rowAt C o.toNat) _ rfl hO hn hr0 (fun to h=>cC to (List.mem_of_mem_drop (List.mem_of_mem_take h)))
 refine⟨?_,g1,g3⟩
 unfold toldOne
 generalize toldIn (rowAt C o.toNat) (List.range 256) (O,rowAt C o.toNat)=r at *
 obtain⟨O',row'⟩:=r
 simp only at g1 g2 g3 hin
 have hed:=edges_run row' g2
 have hlen:(O.map i64).length=O.length:=by simp
 have e1:decide ((k:Int) < (O.length:Int))=true:=dec_t (by omega)
 have t1:((k:Int)).toNat=k:=by simp
 have hq1:idxOk (k:Int) O.length:=by unfold idxOk;omega
 have hg:(O.map i64)[k]? =some (i64 o):=by rw[List.getElem?_map,hk];rfl
 have hq3:idxOk o n:=by unfold idxOk;omega
 have w2:winOk 256 n fr (rowA C).length:=by rw[rowA_len];unfold winOk;omega
 have w4:((rowA C).length=n * 256)=True:=by rw[rowA_len];exact eq_true hC
 have w6:(o.toNat * 256+256≤(rowA C).length)=True:=by rw[rowA_len];exact eq_true (by omega)
 have p1:=rowAt_pv C o.toNat
 have t2:=stepWrap (i:=k) (n:=64) (by omega) (by unfold maxLen;omega)
 have h9:((rowAt C o.toNat).map i64).map AV.pv=rowA (rowAt C o.toNat):=(rowA_map _).symm
 have hz:=rowZ
 have p5:(256≤(rowA (List.replicate 256 0)).length)=True:=by rw[rowA_len,List.length_replicate];exact eq_true (Nat.le_refl _)
 have p6:setRow (rowA (List.replicate 256 0)) 0 (rowA (rowAt C o.toNat))=rowA (rowAt C o.toNat):=by
  have:=setRow_all (rowA (rowAt C o.toNat)) (rowA (List.replicate 256 0)) [] (by rw[rowA_len,rowA_len,hr0,List.length_replicate])
  rw[List.nil_append,List.nil_append] at this;exact this
 generalize hzs:List.replicate 256 (0:Int)=zs at *
 generalize rowAt C o.toNat=row0 at *
 have r0:((rowA row0).length=256)=True:=by rw[rowA_len,hr0];exact eq_self _
 have r1:(256≤(rowA row0).length)=True:=by rw[rowA_len,hr0];exact eq_true (Nat.le_refl _)
 have r2:List.take 256 (rowA row0)=rowA row0:=List.take_of_length_le (by rw[rowA_len,hr0];exact Nat.le_refl _)
 have r3:=allPV_row row0
 have r5:=rowA_one row0
 have s1:(256≤(rowA row').length)=True:=by rw[rowA_len,g2];exact eq_true (Nat.le_refl _)
 have s2:List.take 256 (rowA row')=rowA row':=List.take_of_length_le (by rw[rowA_len,g2];exact Nat.le_refl _)
 have s3:=allPV_row row'
 have q1:roomOk (out.length+1) 24:=by unfold roomOk;omega
 have hlen2:(out++[encEs (edgesS row')]).length=out.length+1:=by simp
 unfold bldT
 rw[hlen2]
 have hcs:(∃ l,encEs (edgesS row')= .lit 3 l)∨encEs (edgesS row')= .nils:=by unfold encEs;split;exact .inr rfl;exact .inl ⟨_,rfl⟩
 generalize encEs (edgesS row')=ed at *
 simp only[envT,bldT,bldF,tidy,keepEnv] at hin
 simp (implicitDefEqProofs:=false) only[SP,SA,SQ,sevalprocAttr,-List.reduceReplicate,roundA,b_auto_builder_told_l0,hlen,e1,eq_true hq1,eq_true hq3,t1,hg,eq_true w2,w4,w6,p1,h9,hz,p5,p6,r0,r1,r2,r3,r5,get_last,set_last,iaddrA',C_loopG,tidy,keepEnv,envU,bldF]
 rw[hin]
 rcases hcs with⟨l,rfl⟩ | rfl <;>
 simp (implicitDefEqProofs:=false) only[SP,SA,SQ,sevalprocAttr,-List.reduceReplicate,t2,s1,s2,s3,hed,toPV_pv,deep_eq,eq_true q1,get_last,set_last,iaddrA',tidy,keepEnv,envU,bldF,partE,AV.pvu,AV.pvu1]
def toldGo (C:List Int):Nat→List Int×List (List Edg)→List Int×List (List Edg)
 |0,r=>r
 |f+1,r=>match r.1[r.2.length]? with
  |none=>r
  |some o=>toldGo C f ((toldOne C o r.1).1,r.2++[edgesS (toldOne C o r.1).2])
theorem toldGo_end {C:List Int} {f:Nat} {r:List Int×List (List Edg)} (h:r.1[r.2.length]? =none):toldGo C f r=r:=by
 cases f with
 |zero=>rfl
 |succ f=>rw[toldGo,h]
theorem toldGo_some {C:List Int} {f:Nat} {r:List Int×List (List Edg)} {o:Int} (h:r.1[r.2.length]? =some o):toldGo C (f+1) r=toldGo C f ((toldOne C o r.1).1,r.2++[edgesS (toldOne C o r.1).2]):=by
 rw[toldGo,h]
def toldS (C:List Int):List (List Edg):=(toldGo C 64 ([0],[])).2
def encSt (l:List (List Edg)):PV:= .lit 1 (l.map encEs)
theorem told_exit (O:List Int) (out:List PV) (no:Bool) (J:List AObj) (k:Nat) (hk:k=O.length):
 roundA (evalC call b_auto_builder_told_l0) (fun s=>some (tidy [0,2,3,4,5,6] s)) ⟨envU k O,bldT R0 R1 S nl nr fr sets C n L M O out no J⟩=
  some (.exit 0,⟨((((envU k O).set 15 (.pv (i64 k))).set 16 (.uq 10 false 1 (O.map i64))).set 17 (.pv (i64 O.length))).set 18 (.pv (.bool false)),bldT R0 R1 S nl nr fr sets C n L M O out no J⟩):=by
 have hlen:(O.map i64).length=O.length:=by simp
 have e1:decide ((k:Int) < (O.length:Int))=false:=dec_f (by omega)
 simp (implicitDefEqProofs:=false) only[SP,SA,SQ,sevalprocAttr,-List.reduceReplicate,roundA,b_auto_builder_told_l0,hlen,e1,envU,bldT,bldF]
theorem told_loop (hC:C.length=n * 256) (cC:∀ c∈C,c < n) (hfr:fr≤n * 256) (hn:n≤64) (h0:0 < n):
 ∃ O J k,loopA (roundA (evalC call b_auto_builder_told_l0) (fun s=>some (tidy [0,2,3,4,5,6] s))) rounds ⟨envU 0 [0],bldT R0 R1 S nl nr fr sets C n L M [0] [] true []⟩=
  some (.exit 0,⟨((((envU k O).set 15 (.pv (i64 k))).set 16 (.uq 10 false 1 (O.map i64))).set 17 (.pv (i64 O.length))).set 18 (.pv (.bool false)),bldT R0 R1 S nl nr fr sets C n L M O ((toldS C).map encEs) false J⟩):=by
 have key:=loopA_go (g:=roundA (evalC call b_auto_builder_told_l0) (fun s=>some (tidy [0,2,3,4,5,6] s)))
  (fun k t=>∃ (O:List Int) (out:List (List Edg)) (J:List AObj),OrdOk n O∧out.length=k∧k≤O.length∧0 < O.length∧t=⟨envU k O,bldT R0 R1 S nl nr fr sets C n L M O (out.map encEs) (k==0) J⟩∧toldGo C 64 ([0],[])=toldGo C (64 - k) (O,out))
  (fun ex t=>∃ (O:List Int) (J:List AObj) (k:Nat),ex= .exit 0∧t=⟨((((envU k O).set 15 (.pv (i64 k))).set 16 (.uq 10 false 1 (O.map i64))).set 17 (.pv (i64 O.length))).set 18 (.pv (.bool false)),bldT R0 R1 S nl nr fr sets C n L M O ((toldS C).map encEs) false J⟩)
  rounds 64 0 ⟨envU (0:Nat) [0],bldT R0 R1 S nl nr fr sets C n L M [0] [] true []⟩ (by unfold rounds;omega) (by omega)
   ⟨[0],[],[],⟨by simp,by intro o ho;simp at ho;omega⟩,rfl,by simp,by simp,rfl,rfl⟩ ?_ ?_
 ·obtain⟨ex,t,h,_,O,J,k,rfl,rfl⟩:=key
  exact⟨O,J,k,h⟩
 ·rintro k hk t ⟨O,out,J,hO,hout,hkO,hO0,rfl,hl⟩
  by_cases hlt:k < O.length
  ·obtain⟨o,ho⟩:∃ o,O[k]? =some o:=⟨O[k],by simp[hlt]⟩
   obtain⟨g1,g2,t,g3⟩:=told_round call R0 R1 S nl nr fr sets C n L M O (out.map encEs) (k==0) J k o hC cC hfr hO hn ho (by simpa using hout)
   rw[show 64 - k=(64 - (k+1))+1 by omega,toldGo_some (r:=(O,out)) (o:=o) (by show O[out.length]? =_;rw[hout];exact ho)] at hl
   refine .inl ⟨_,g1,_,out++[edgesS (toldOne C o O).2],J++[.box (rowA (toldOne C o O).2)],g2,by simp[hout],?_,?_,?_,hl⟩
   ·rw[g3];simp;omega
   ·rw[g3];simp;omega
   ·have:(k+1==0)=false:=rfl
    rw[this];simp
  ·have hke:k=O.length:=by omega
   rw[toldGo_end (r:=(O,out)) (by show O[out.length]? =none;rw[hout,hke];simp)] at hl
   refine .inr ⟨.exit 0,_,told_exit call R0 R1 S nl nr fr sets C n L M O _ _ J k hke,rfl,O,J,k,rfl,?_⟩
   have:(k==0)=false:=by simp;omega
   rw[this,toldS,hl]
 ·rintro t ⟨O,out,J,hO,hout,hkO,hO0,rfl,hl⟩
  have hke:64=O.length:=by have:=hO.len;omega
  rw[toldGo_end (r:=(O,out)) (by show O[out.length]? =none;rw[hout,hke];simp)] at hl
  refine⟨.exit 0,_,told_exit call R0 R1 S nl nr fr sets C n L M O _ _ J 64 hke,rfl,O,J,64,rfl,?_⟩
  have:((64:Nat)==0)=false:=rfl
  rw[this,toldS,hl]
theorem told_run (hC:C.length=n * 256) (cC:∀ c∈C,c < n) (hfr:fr≤n * 256) (hn:n≤64) (h0:0 < n):
 ∃ O J,runF call b_auto_builder_told [.ptr 3 0] (bldF R0 R1 S nl nr fr sets C n [L,M])=
  some (.agg [.uq 12 false 1 ((toldS C).map encEs)],bldF R0 R1 S nl nr fr sets C n (L::M:: .box [.uq 12 false 1 ((toldS C).map encEs)]:: .map (encN O 0):: .tok 1 O.length false:: .box [.uq 12 false 1 ((toldS C).map encEs)]:: .tok 1 ((toldS C).map encEs).length false::J)):=by
 obtain⟨O,J,k,hl⟩:=told_loop call R0 R1 S nl nr fr sets C n L M hC cC hfr hn h0
 refine⟨O,J,?_⟩
 generalize (toldS C).map encEs=out at *
 have hl':loopA (roundA (evalC call b_auto_builder_told_l0) (fun s=>some ⟨((((((Tr.lf.set 6 (s.env.get 6)).set 5 (s.env.get 5)).set 4 (s.env.get 4)).set 3 (s.env.get 3)).set 2 (s.env.get 2)).set 0 (s.env.get 0)),s.H⟩)) rounds
  ⟨((((((Tr.lf.set 6 (.pv (.int .i64 0))).set 5 (.ptr 11 0)).set 4 (.uq 10 false 1 [.int .i64 0])).set 3 (.mp 9)).set 2 (.ptr 8 0)).set 0 (.ptr 3 0)),[R0,R1,.map (encM sets 0),.box [.pv S,.mp 2,.uq 4 nl 2 (sets.map encA),.own 5 n],.tok 2 sets.length nl,.seq 256 true (rowA C) fr nr,L,M,.box [.pv .nils],.map [(.int .i64 0,.int .i64 0)],.tok 1 1 false,.box [.uq 12 true 1 []],.tok 1 0 true]⟩=_:=hl
 simp only[envU,bldT,bldF] at hl'
 simp (implicitDefEqProofs:=false) only[SP,SA,SQ,sevalprocAttr,-List.reduceReplicate,b_auto_builder_told,ghostA,C_loopG,tidy,keepEnv,findM,eqKd,eqCell,Option.isSome_some,partE,AV.pvu,AV.pvu1,bldF]
 rw[hl']
 simp (implicitDefEqProofs:=false) only[SP,SA,SQ,sevalprocAttr,-List.reduceReplicate,bldF]
end
end Go.AM.B1
namespace Go.AM.B1
open Go.AM
def bits0 (n:Nat):Int:=IntKind.u32.wrap (IntKind.u32.wrap (1 * 2 ^ min n IntKind.u32.bits) - 1)
theorem bits0_fold (n:Nat):IntKind.u32.wrap (IntKind.u32.wrap (1 * 2 ^ min n IntKind.u32.bits) - 1)=bits0 n:=rfl
theorem bits0_eq {n:Nat} (h:n≤32):bits0 n=((2 ^ n - 1:Nat):Int):=by
 have:∀ n:Fin 33,bits0 n.1=((2 ^ n.1 - 1:Nat):Int):=by decide
 exact this ⟨n,by omega⟩
theorem idxR_lt {a:Al}:∀ {l:List Al} {k i:Nat},idxR a l k=some i→i < k+l.length
 |b::l,k,i,h=>by
  simp only[idxR] at h
  split at h
  ·injection h with h;simp;omega
  ·have:=idxR_lt h;simp;omega
theorem stepX_lt {ss:List Shp} {a:Al} {x:Int} {sets:List Al} {r:List Al×Int} (h:stepX ss a x sets=some r):r.2 < r.1.length:=by
 unfold stepX at h
 split at h
 ·injection h with h;subst h;simp;omega
 ·split at h
  ·injection h with h;subst h;simp;omega
  ·split at h
   ·next k hk=>injection h with h;subst h;have:=idxR_lt hk;simp at this;simp;omega
   ·split at h
    ·injection h with h;subst h;simp;omega
    ·cases h
theorem rowS_lt {ss:List Shp} {a:Al}:∀ (xs:List Nat) (r r':List Al×List Int),r.1.length≤64→(∀ v∈r.2,v < r.1.length)→rowS ss a xs r=some r'→∀ v∈r'.2,v < r'.1.length
 | [],r,r',_,h,e=>by injection e with e;subst e;exact h
 |x::xs,r,r',hl,h,e=>by
  cases hst:stepX ss a x r.1 with
  |none=>rw[rowS_none hst] at e;cases e
  |some p=>
   rw[rowS_some hst] at e
   have hg:=stepX_grows hst hl
   refine rowS_lt xs (p.1,r.2.set x p.2) r' hg.1 ?_ e
   intro v hv
   obtain⟨t,ht⟩:=hg.2
   rcases List.mem_or_eq_of_mem_set hv with h1 | h1
   ·have h2:=h v h1
    have:r.1.length≤p.1.length:=by rw[ht];simp
    simp only;omega
   ·rw[h1];exact stepX_lt hst
theorem walkS_lt {ss:List Shp} (hw:ss.length≤32):∀ (k:Nat) (r r':List Al×List (List Int)),AllOk ss r.1→(∀ l∈r.2,∀ v∈l,v < r.1.length)→walkS ss k r=some r'→(∀ l∈r'.2,∀ v∈l,v < r'.1.length)∧∃ t,r'.1=r.1++t
 |0,r,r',_,h,e=>by injection e with e;subst e;exact⟨h,[],by simp⟩
 |k+1,r,r',hok,h,e=>by
  cases ha:r.1[r.2.length]? with
  |none=>rw[walkS_end ha] at e;injection e with e;subst e;exact⟨h,[],by simp⟩
  |some a=>
   cases hr:rowS ss a (List.range 256) (r.1,row0) with
   |none=>rw[walkS_none ha hr] at e;cases e
   |some p=>
    rw[walkS_some ha hr] at e
    obtain⟨g1,⟨t,g2⟩,g3⟩:=rowS_ok hw (List.range 256) (r.1,row0) p hok ha hr
    have hpos:0 < r.1.length:=by have:=(List.getElem?_eq_some_iff.1 ha).1;omega
    have g4:=rowS_lt (List.range 256) (r.1,row0) p hok.1 (by
     intro v hv
     have:v=0:=List.eq_of_mem_replicate hv
     simp only;omega) hr
    obtain⟨k1,t2,k2⟩:=walkS_lt hw k (p.1,r.2++[p.2]) r' g1 (by
     intro l hl v hv
     rcases List.mem_append.1 hl with h1 | h1
     ·have:=h l h1 v hv
      simp only[g2,List.length_append] at this ⊢;omega
     ·simp at h1;subst h1;exact g4 v hv) e
    exact⟨k1,t++t2,by rw[k2,g2,List.append_assoc]⟩
theorem rowA_flat:∀ (rs:List (List Int)),rowA rs.flatten=rs.flatMap rowA
 | []=>rfl
 |r::rs=>by
  have:=rowA_flat rs
  rw[List.flatten_cons,rowA_app,List.flatMap_cons,this]
def sets0 (ss:List Shp):List Al:=[(0,bits0 ss.length)]
theorem sets0_ok {ss:List Shp} (hw:ss.length≤32) (hne:∀ s∈ss,0 < s.parts.length):AllOk ss (sets0 ss):=by
 refine⟨by simp[sets0],?_⟩
 intro k a ha
 match k,ha with
 |0,ha=>
  simp only[sets0,List.getElem?_cons_zero,Option.some.injEq] at ha
  subst ha
  refine⟨by simp,2 ^ ss.length - 1,bits0_eq hw,?_,?_⟩
  ·have:2 ^ ss.length≤2 ^ 32:=Nat.pow_le_pow_right (by decide) hw
   omega
  ·intro i s hs _
   exact hne s (List.mem_of_getElem? hs)
 |k+1,ha=>simp[sets0] at ha
section
variable (R0 R1:AObj) (S:PV) (ss:List Shp)
 (h0:cutObj 7 R0=some R0) (h1:cutObj 7 R1=some R1) (g0:cutObj 6 R0=some R0) (g1:cutObj 6 R1=some R1)
 (hS:IsL 2 S (ss.map encShp)) (hw:ss.length≤32) (hsz:∀ s∈ss,∀ l∈s.parts,l.length * 16≤140737488355328) (hne:∀ s∈ss,0 < s.parts.length)
include h0 h1 g0 g1 hS hw hsz hne
theorem walk_run:
 (∀ r,walkS ss 64 (sets0 ss,[])=some r→∃ nl',runF (callL t_auto_Build 7) b_auto_builder_walk [.ptr 3 0] (bld R0 R1 S true [] (rowsO []) 0 [])=some (.pv (.bool true),bld R0 R1 S nl' r.1 (rowsO r.2) r.2.length [])∧AllOk ss r.1∧r.2.length=r.1.length∧∀ r'∈r.2,r'.length=256)∧
 (walkS ss 64 (sets0 ss,[])=none→∃ H,runF (callL t_auto_Build 7) b_auto_builder_walk [.ptr 3 0] (bld R0 R1 S true [] (rowsO []) 0 [])=some (.pv (.bool false),H)∧H[0]? =some R0):=by
 have hloop:=walk_loop R0 R1 S false (sets0 ss) ss h0 h1 g0 g1 hS hw hsz (sets0_ok hw hne) (by simp[sets0])
 have ls:=hS.len
 simp only[List.length_map] at ls
 have hmet:runF (callL t_auto_Build 6) b_auto_builder_met [.ptr 3 0,.pv (.agg [.int .i64 0,.int .u32 (bits0 ss.length)])] [R0,R1,.map (encM [] 0),.box [.pv S,.mp 2,.uq 4 true 2 [],.own 5 0],.tok 2 0 true,.seq 256 true [] 0 true]=some (.pv (.tup [.int .i64 0,.bool true]),bld R0 R1 S false [(0,bits0 ss.length)] (rowsO []) 0 []):=
  met_new (callL t_auto_Build 6) R0 R1 S true [] (rowsO []) 0 [] (0,bits0 ss.length) rfl (by simp)
 have n0:¬((ss.length:Int) < 0):=by omega
 have t1:((ss.length:Int)).toNat=ss.length:=by simp
 have e1:((ss.length:Int) < 0)=False:=eq_false n0
 have q5:=cut_rows 6 6 []
 simp only[List.flatMap_nil] at q5
 simp only[bld,rowsO,List.flatMap_nil,List.isEmpty_nil] at hmet
 unfold bld rowsO
 constructor
 ·intro r hr
  obtain⟨E,nl',hl,k1,k2,k3⟩:=hloop.1 r hr
  refine⟨nl',?_,k1,k2,k3⟩
  simp (implicitDefEqProofs:=false) only[SP,SA,SQ,sevalprocAttr,-List.reduceReplicate,b_auto_builder_walk,ls,e1,t1,bits0_fold,t_auto_Build,List.flatMap_nil,hmet,C_loop,clean,cutEnv,cutO_box,cutO_map,cutO_tok,cutO_seq,cut_pv,AV.cut,deep_eq,h0,h1,g0,g1,q5,bld]
  have hl':loopA (roundA (evalC (callL t_auto_Build 7) b_auto_builder_walk_l0) (clean 6 [0,3])) rounds ⟨(Tr.lf.set 3 (.pv (.int .i64 0))).set 0 (.ptr 3 0),[R0,R1,.map (encM [(0,bits0 ss.length)] 0),.box [.pv S,.mp 2,.uq 4 false 2 [encA (0,bits0 ss.length)],.own 5 0],.tok 2 1 false,.seq 256 true [] 0 true]⟩=_:=hl
  rw[hl']
  simp (implicitDefEqProofs:=false) only[SP,SA,SQ,sevalprocAttr,-List.reduceReplicate,bld,rowsO]
 ·intro hr
  obtain⟨t,hl,k2,k3⟩:=retIsH_spec (hloop.2 hr)
  refine⟨t.H,?_,k3⟩
  simp (implicitDefEqProofs:=false) only[SP,SA,SQ,sevalprocAttr,-List.reduceReplicate,b_auto_builder_walk,ls,e1,t1,bits0_fold,t_auto_Build,List.flatMap_nil,hmet,C_loop,clean,cutEnv,cutO_box,cutO_map,cutO_tok,cutO_seq,cut_pv,AV.cut,deep_eq,h0,h1,g0,g1,q5,bld]
  have hl':loopA (roundA (evalC (callL t_auto_Build 7) b_auto_builder_walk_l0) (clean 6 [0,3])) rounds ⟨(Tr.lf.set 3 (.pv (.int .i64 0))).set 0 (.ptr 3 0),[R0,R1,.map (encM [(0,bits0 ss.length)] 0),.box [.pv S,.mp 2,.uq 4 false 2 [encA (0,bits0 ss.length)],.own 5 0],.tok 2 1 false,.seq 256 true [] 0 true]⟩=_:=hl
  rw[hl']
  simp (implicitDefEqProofs:=false) only[SP,SA,SQ,sevalprocAttr,-List.reduceReplicate,k2]
end
def autoS (ss:List Shp):Option (List (List Edg)):=
 (walkS ss 64 (sets0 ss,[])).map fun r=>toldS (leastS r.2.length r.2.flatten).C
section
variable (S0 S:PV) (ss:List Shp) (hS0:S0= .nils∨∃ l,S0= .lit 2 l) {y:Bool} {a b e:Int}
include hS0
theorem build_err (he:e≠0) (hp:F_clash_Prefix [.agg [S0]]=some (.tup [.agg [.bool y,i64 a,i64 b],i64 e])):
 F_auto_Build [.agg [S0]]=some (.tup [.agg [.nils],i64 e]):=by
 have e1:=beq_ne he
 rcases hS0 with rfl | ⟨l,rfl⟩ <;>
 simp (implicitDefEqProofs:=false) only[F_auto_Build,SP,SA,SQ,sevalprocAttr,-List.reduceReplicate,b_auto_Build,hp,e1,bne,toPV_pv,deep_eq]
theorem build_no (hp:F_clash_Prefix [.agg [S0]]=some (.tup [.agg [.bool false,i64 a,i64 b],i64 0])):
 F_auto_Build [.agg [S0]]=some (.tup [.agg [.nils],i64 110]):=by
 rcases hS0 with rfl | ⟨l,rfl⟩ <;>
 simp (implicitDefEqProofs:=false) only[F_auto_Build,SP,SA,SQ,sevalprocAttr,-List.reduceReplicate,b_auto_Build,hp,bne,toPV_pv,deep_eq]
variable (hp:F_clash_Prefix [.agg [S0]]=some (.tup [.agg [.bool true,i64 a,i64 b],i64 0])) (hc:F_scheme_Copy [.agg [S0]]=some (.agg [S]))
 (hS:IsL 2 S (ss.map encShp)) (hw:ss.length≤32) (hsz:∀ s∈ss,∀ l∈s.parts,l.length * 16≤140737488355328) (hne:∀ s∈ss,0 < s.parts.length)
include hp hc hS hw hsz hne
theorem build_full (h:autoS ss=none):F_auto_Build [.agg [S0]]=some (.tup [.agg [.nils],i64 130]):=by
 have hn:walkS ss 64 (sets0 ss,[])=none:=by unfold autoS at h;simpa using h
 obtain⟨H,hwk,hH⟩:=(walk_run (.box [.pv .nils]) (.box [.pv (.bool true),.pv (i64 a),.pv (i64 b)]) S ss rfl rfl rfl rfl hS hw hsz hne).2 hn
 have hb0:bld (.box [.pv .nils]) (.box [.pv (.bool true),.pv (i64 a),.pv (i64 b)]) S true [] (rowsO []) 0 []=[.box [.pv .nils],.box [.pv (.bool true),.pv (i64 a),.pv (i64 b)],.map [],.box [.pv S,.mp 2,.uq 4 true 2 [],.own 5 0],.tok 2 0 true,.seq 256 true [] 0 true]:=rfl
 rw[hb0] at hwk
 have hS2:S= .nils∨∃ l,S= .lit 2 l:=by rcases hS with⟨h,_⟩ | h;exact .inl h;exact .inr ⟨_,h⟩
 have hH2:∀ o,(H.set 0 o)[0]? =some o:=by
  intro o
  cases H with
  |nil=>cases hH
  |cons x H=>rfl
 rcases hS0 with rfl | ⟨l,rfl⟩ <;> rcases hS2 with rfl | ⟨l2,rfl⟩ <;>
 simp (implicitDefEqProofs:=false) only[F_auto_Build,SP,SA,SQ,sevalprocAttr,-List.reduceReplicate,b_auto_Build,hp,hc,hwk,hH,hH2,t_auto_Build,ghostA,partE,AV.pvu,AV.pvu1,bne,toPV_pv,deep_eq]
theorem build_ok {l:List (List Edg)} (h:autoS ss=some l):F_auto_Build [.agg [S0]]=some (.tup [.agg [encSt l],i64 0]):=by
 obtain⟨r,hn,hl⟩:∃ r,walkS ss 64 (sets0 ss,[])=some r∧toldS (leastS r.2.length r.2.flatten).C=l:=by
  unfold autoS at h;simpa using h
 obtain⟨nl,hwk,k1,k2,k3⟩:=(walk_run (.box [.pv .nils]) (.box [.pv (.bool true),.pv (i64 a),.pv (i64 b)]) S ss rfl rfl rfl rfl hS hw hsz hne).1 r hn
 have hb0:bld (.box [.pv .nils]) (.box [.pv (.bool true),.pv (i64 a),.pv (i64 b)]) S true [] (rowsO []) 0 []=[.box [.pv .nils],.box [.pv (.bool true),.pv (i64 a),.pv (i64 b)],.map [],.box [.pv S,.mp 2,.uq 4 true 2 [],.own 5 0],.tok 2 0 true,.seq 256 true [] 0 true]:=rfl
 have hb1:bld (.box [.pv .nils]) (.box [.pv (.bool true),.pv (i64 a),.pv (i64 b)]) S nl r.1 (rowsO r.2) r.2.length []=bldF (.box [.pv .nils]) (.box [.pv (.bool true),.pv (i64 a),.pv (i64 b)]) S nl r.2.isEmpty 0 r.1 r.2.flatten r.2.length []:=by
  unfold bld bldF rowsO;rw[rowA_flat]
 rw[hb0,hb1] at hwk
 have hlt:=walkS_lt hw 64 (sets0 ss,[]) r (sets0_ok hw hne) (by simp) hn
 have hpos:0 < r.1.length:=by obtain⟨t,ht⟩:=hlt.2;rw[ht];simp[sets0]
 have hC:r.2.flatten.length=r.2.length * 256:=by
  have:=rows_len k3
  rw[← rowA_flat,rowA_len] at this;exact this
 have cC:∀ c∈r.2.flatten,c < (r.2.length:Int):=by
  intro c hc
  obtain⟨l,h1,h2⟩:=List.mem_flatten.1 hc
  rw[k2];exact hlt.1 l h1 c h2
 have h64:r.2.length≤64:=by rw[k2];exact k1.1
 have h0:0 < r.2.length:=by omega
 obtain⟨fr,fk,v,hf,hls⟩:=least_run (callL t_auto_Build 7) (.box [.pv .nils]) (.box [.pv (.bool true),.pv (i64 a),.pv (i64 b)]) S nl r.2.isEmpty r.1 r.2.flatten r.2.length h64 h0 k2.symm hC cC
 have hok:LOk r.2.length (leastS r.2.length r.2.flatten):=leastGo_ok _ _ (Nat.le_refl _) ⟨hC,by simp,cC,by intro c hc;rw[List.eq_of_mem_replicate hc];omega,by simp⟩
 obtain⟨O,J,htd⟩:=told_run (callL t_auto_Build 7) (.box [.pv .nils]) (.box [.pv (.bool true),.pv (i64 a),.pv (i64 b)]) S nl r.2.isEmpty fr r.1 (leastS r.2.length r.2.flatten).C r.2.length (.seq 1 false (rowA (leastS r.2.length r.2.flatten).like) fk false) (.map (encR (leastS r.2.length r.2.flatten).M)) hok.hC hok.cC (by omega) h64 h0
 rw[hl] at htd
 unfold encSt
 generalize l.map encEs=out at *
 generalize leastS r.2.length r.2.flatten=g at *
 simp only[bldF] at hwk hls htd
 have hS2:S= .nils∨∃ l,S= .lit 2 l:=by rcases hS with⟨h,_⟩ | h;exact .inl h;exact .inr ⟨_,h⟩
 rcases hS0 with rfl | ⟨l,rfl⟩ <;> rcases hS2 with rfl | ⟨l2,rfl⟩ <;>
 simp (implicitDefEqProofs:=false) only[F_auto_Build,SP,SA,SQ,sevalprocAttr,-List.reduceReplicate,b_auto_Build,hp,hc,hwk,hls,htd,t_auto_Build,ghostA,partE,AV.pvu,AV.pvu1,bne,toPV_pv,deep_eq]
end
end Go.AM.B1
namespace Go.AM.B1
open Go.AM
def mapTo (like:List Int) (to:Int):Int:=if 0≤to then like.getD to.toNat 0 else to
theorem leastIn_get {like row:List Int} {i:Nat}:∀ (xs:List Nat) (C:List Int) (p:Nat),p < C.length→
 (leastIn like row i xs C)[p]? =if h:i * 256≤p∧p - i * 256∈xs∧p - i * 256 < row.length then (if 0≤row.getD (p - i * 256) 0 then some (mapTo like (row.getD (p - i * 256) 0)) else C[p]?) else C[p]?
 | [],C,p,hp=>by simp[leastIn]
 |x::xs,C,p,hp=>by
  rw[leastIn]
  have key:∀ C',C'.length=C.length→(p≠i * 256+x→C'[p]? =C[p]?)→(p=i * 256+x→C'[p]? =if x < row.length then (if 0≤row.getD x 0 then some (mapTo like (row.getD x 0)) else C[p]?) else C[p]?)→
   (leastIn like row i xs C')[p]? =if h:i * 256≤p∧p - i * 256∈x::xs∧p - i * 256 < row.length then (if 0≤row.getD (p - i * 256) 0 then some (mapTo like (row.getD (p - i * 256) 0)) else C[p]?) else C[p]? :=by
   intro C' hl h1 h2
   rw[leastIn_get xs C' p (by omega)]
   by_cases hx:p=i * 256+x
   ·have e:p - i * 256=x:=by omega
    have h3:=h2 hx
    rw[e,h3]
    have hle:i * 256≤p:=by omega
    by_cases hr:x < row.length
    ·simp only[hle,hr,and_true,true_and,List.mem_cons,true_or,dite_true,if_true]
     by_cases h0:0≤row.getD x 0
     ·simp only[h0,if_true,ite_self,dite_eq_ite]
     ·simp only[h0,if_false,ite_self,dite_eq_ite]
    ·simp[hr]
   ·rw[h1 hx]
    have:(i * 256≤p∧p - i * 256∈xs∧p - i * 256 < row.length)=(i * 256≤p∧p - i * 256∈x::xs∧p - i * 256 < row.length):=by
     refine propext ⟨fun h=>⟨h.1,by simp[h.2.1],h.2.2⟩,fun h=>⟨h.1,?_,h.2.2⟩⟩
     rcases List.mem_cons.1 h.2.1 with h4 | h4
     ·omega
     ·exact h4
    simp only[this]
  cases hr:row[x]? with
  |none=>
   refine key _ rfl (fun _=>rfl) (fun hx=> ?_)
   have:¬x < row.length:=by
    intro h;rw[List.getElem?_eq_getElem h] at hr;cases hr
   rw[if_neg this]
  |some to=>
   have hx2:x < row.length:=(List.getElem?_eq_some_iff.1 hr).1
   have hto:row.getD x 0=to:=by rw[List.getD_eq_getElem?_getD,hr];rfl
   simp only
   by_cases h0:0≤to
   ·rw[if_pos h0]
    refine key _ (by simp) (fun hx=>by rw[List.getElem?_set_ne (by omega)]) (fun hx=> ?_)
    rw[if_pos hx2,hto,if_pos h0,hx,List.getElem?_set_self (by omega),mapTo,if_pos h0]
   ·rw[if_neg h0]
    refine key _ rfl (fun _=>rfl) (fun hx=> ?_)
    rw[if_pos hx2,hto,if_neg h0]
theorem rowAt_get {C:List Int} {i x:Nat} (hx:x < 256):(rowAt C i)[x]? =C[i * 256+x]? :=by
 unfold rowAt
 rw[List.getElem?_take_of_lt hx,List.getElem?_drop]
theorem leastIn_row {n:Nat} {like C:List Int} {i:Nat} (hC:C.length=n * 256) (hi:i < n):
 rowAt (leastIn like (rowAt C i) i (List.range 256) C) i=(rowAt C i).map (mapTo like):=by
 apply List.ext_getElem?
 intro x
 by_cases hx:x < 256
 ·rw[rowAt_get hx,leastIn_get _ _ _ (by omega),List.getElem?_map]
  have e:i * 256+x - i * 256=x:=by omega
  have hl:=rowAt_len hC hi
  rw[e,dif_pos ⟨by omega,by simpa using hx,by omega⟩]
  have hg:(rowAt C i)[x]? =some ((rowAt C i).getD x 0):=by
   rw[List.getD_eq_getElem?_getD,List.getElem?_eq_getElem (by omega)];rfl
  have hg2:=hg
  rw[rowAt_get hx] at hg2
  rw[hg2,hg]
  by_cases h0:0≤(rowAt C i).getD x 0
  ·rw[if_pos h0];rfl
  ·rw[if_neg h0,Option.map_some,mapTo,if_neg h0]
 ·rw[List.getElem?_eq_none,List.getElem?_eq_none]
  ·rw[List.length_map,rowAt_len hC hi];omega
  ·rw[rowAt_len (n:=n) (by rw[leastIn_len,hC]) hi];omega
theorem leastIn_other {n:Nat} {like row C:List Int} {i j:Nat} (hC:C.length=n * 256) (hj:j < n) (hij:j≠i) (hr:row.length=256):
 rowAt (leastIn like row i (List.range 256) C) j=rowAt C j:=by
 apply List.ext_getElem?
 intro x
 by_cases hx:x < 256
 ·rw[rowAt_get hx,rowAt_get hx,leastIn_get _ _ _ (by omega)]
  rw[dif_neg]
  rintro⟨h1,h2,h3⟩
  omega
 ·rw[List.getElem?_eq_none,List.getElem?_eq_none]
  ·rw[rowAt_len hC hj];omega
  ·rw[rowAt_len (n:=n) (by rw[leastIn_len,hC]) hj];omega
structure MInv (n:Nat) (C0:List Int) (i:Nat) (s:LSt):Prop where
 hC:s.C.length=n * 256
 hk:s.like.length=n
 hi:∀ j,i≤j→j < n→rowAt s.C j=(rowAt C0 j).map (mapTo s.like)
 lo:∀ j,j < i→rowAt s.C j=rowAt C0 j
 look:∀ j,i≤j→j < n→lookR (rowAt s.C j) s.M=some (s.like.getD j 0)
 inj:∀ p∈s.M,∀ q∈s.M,p.2=q.2→p.1=q.1
 rep:∀ p∈s.M,(i:Int)≤p.2∧p.2 < n∧rowAt s.C p.2.toNat=p.1
def Later (n:Nat) (C0:List Int):Prop:=∀ j,j < n→∀ to∈rowAt C0 j,0≤to→(j:Int) < to∧to < n
theorem mapTo_set {like:List Int} {i:Nat} {v to:Int} (h:0≤to→to.toNat≠i):mapTo (like.set i v) to=mapTo like to:=by
 unfold mapTo
 split
 ·next h0=>rw[List.getD_eq_getElem?_getD,List.getD_eq_getElem?_getD,List.getElem?_set_ne (Ne.symm (h h0))]
 ·rfl
theorem lookR_app {a:List Int} {M N:List (List Int×Int)}:lookR a (M++N)=(lookR a M).or (lookR a N):=by
 induction M with
 |nil=>simp[lookR]
 |cons p M ih=>
  rw[List.cons_append,lookR,lookR]
  split
  ·rfl
  ·exact ih
theorem MInv.step {n:Nat} {C0:List Int} (hlat:Later n C0) {i:Nat} {s:LSt} (hin:i < n) (h:MInv n C0 (i+1) s):MInv n C0 i (leastOne i s):=by
 have hrow:rowAt s.C i=rowAt C0 i:=h.lo i (by omega)
 have hrl:(rowAt C0 i).length=256:=by rw[← hrow];exact rowAt_len h.hC hin
 have hC2:(leastIn s.like (rowAt s.C i) i (List.range 256) s.C).length=n * 256:=by rw[leastIn_len,h.hC]
 have hr1:=leastIn_row (like:=s.like) h.hC hin
 have hr2:∀ j,j < n→j≠i→rowAt (leastIn s.like (rowAt s.C i) i (List.range 256) s.C) j=rowAt s.C j:=fun j hj hji=>leastIn_other h.hC hj hji (by rw[hrow];exact hrl)
 have hl1:=@leastOne_some i s
 have hl2:=@leastOne_none i s
 generalize leastIn s.like (rowAt s.C i) i (List.range 256) s.C=C2 at *
 have hms:∀ v j,i≤j→j < n→(rowAt C0 j).map (mapTo (s.like.set i v))=(rowAt C0 j).map (mapTo s.like):=by
  intro v j hij hj
  apply List.map_congr_left
  intro to hto
  apply mapTo_set
  intro h0
  have:=hlat j hj to hto h0
  omega
 have main:∀ v M',lookR (rowAt C2 i) M'=some v→(∀ j,i+1≤j→j < n→lookR (rowAt C2 j) M'=lookR (rowAt s.C j) s.M)→
  (∀ p∈M',∀ q∈M',p.2=q.2→p.1=q.1)→(∀ p∈M',(i:Int)≤p.2∧p.2 < n∧rowAt C2 p.2.toNat=p.1)→MInv n C0 i ⟨C2,s.like.set i v,M'⟩:=by
  intro v M' h1 h2 h3 h4
  refine⟨hC2,by simp[h.hk],?_,?_,?_,h3,h4⟩
  ·intro j hij hj
   show rowAt C2 j=(rowAt C0 j).map (mapTo (s.like.set i v))
   rw[hms v j hij hj]
   by_cases hji:j=i
   ·subst hji;rw[hr1,hrow]
   ·rw[hr2 j hj hji,h.hi j (by omega) hj]
  ·intro j hj
   show rowAt C2 j=_
   rw[hr2 j (by omega) (by omega),h.lo j (by omega)]
  ·intro j hij hj
   show lookR (rowAt C2 j) M'=some ((s.like.set i v).getD j 0)
   by_cases hji:j=i
   ·subst hji
    rw[h1,List.getD_eq_getElem?_getD,List.getElem?_set_self (by rw[h.hk];exact hj)];rfl
   ·rw[h2 j (by omega) hj,h.look j (by omega) hj,List.getD_eq_getElem?_getD,List.getD_eq_getElem?_getD,List.getElem?_set_ne (Ne.symm hji)]
 cases hlk:lookR (rowAt C2 i) s.M with
 |some v=>
  rw[hl1 hlk]
  refine main v s.M hlk (fun j h1 h2=>by rw[hr2 j h2 (by omega)]) h.inj ?_
  intro p hp
  obtain⟨h1,h2,h3⟩:=h.rep p hp
  exact⟨by omega,h2,by rw[hr2 _ (by omega) (by omega),h3]⟩
 |none=>
  rw[hl2 hlk]
  refine main i _ (by rw[lookR_app,hlk];simp[lookR]) (fun j h1 h2=> ?_) ?_ ?_
  ·rw[hr2 j h2 (by omega),lookR_app,h.look j h1 h2];rfl
  ·intro p hp q hq hpq
   rcases List.mem_append.1 hp with hp | hp <;> rcases List.mem_append.1 hq with hq | hq
   ·exact h.inj p hp q hq hpq
   ·simp at hq;subst hq
    have:=(h.rep p hp).1
    simp only at hpq;omega
   ·simp at hp;subst hp
    have:=(h.rep q hq).1
    simp only at hpq;omega
   ·simp at hp hq;subst hp hq;rfl
  ·intro p hp
   rcases List.mem_append.1 hp with hp | hp
   ·obtain⟨h1,h2,h3⟩:=h.rep p hp
    exact⟨by omega,h2,by rw[hr2 _ (by omega) (by omega),h3]⟩
   ·simp at hp;subst hp
    exact⟨by simp,by simp;omega,by simp⟩
theorem MInv.go {n:Nat} {C0:List Int} (hlat:Later n C0):∀ (k:Nat) (s:LSt),k≤n→MInv n C0 k s→MInv n C0 0 (leastGo k s)
 |0,s,_,h=>h
 |k+1,s,hk,h=>MInv.go hlat k _ (by omega) (h.step hlat (by omega))
theorem least_inv {n:Nat} {C0:List Int} (hlat:Later n C0) (hC:C0.length=n * 256):MInv n C0 0 (leastS n C0):=by
 refine MInv.go hlat n _ (Nat.le_refl _) ⟨hC,by simp,fun j h1 h2=>by omega,fun j hj=>rfl,fun j h1 h2=>by omega,by simp,by simp⟩
theorem MInv.like_iff {n:Nat} {C0:List Int} {s:LSt} (h:MInv n C0 0 s) {j k:Nat} (hj:j < n) (hk:k < n):s.like.getD j 0=s.like.getD k 0↔rowAt s.C j=rowAt s.C k:=by
 have h1:=h.look j (by omega) hj
 have h2:=h.look k (by omega) hk
 constructor
 ·intro e
  obtain⟨p,hp,e1,e2⟩:=lookR_mem h1
  obtain⟨q,hq,e3,e4⟩:=lookR_mem h2
  rw[← e1,←e3]
  exact h.inj p hp q hq (by rw[e2,e4,e])
 ·intro e
  rw[e,h2] at h1
  exact (Option.some.inj h1).symm
theorem MInv.like_rep {n:Nat} {C0:List Int} {s:LSt} (h:MInv n C0 0 s) {j:Nat} (hj:j < n):0≤s.like.getD j 0∧s.like.getD j 0 < n∧rowAt s.C (s.like.getD j 0).toNat=rowAt s.C j:=by
 obtain⟨p,hp,e1,e2⟩:=lookR_mem (h.look j (by omega) hj)
 obtain⟨h1,h2,h3⟩:=h.rep p hp
 rw[← e2,←e1]
 exact⟨by omega,h2,h3⟩
end Go.AM.B1
