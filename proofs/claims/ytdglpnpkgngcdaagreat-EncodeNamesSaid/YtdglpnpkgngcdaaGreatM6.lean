/- What functions of the program compute. -/
import Derived.Test.YtdglpnpkgngcdaaGreatM5
set_option linter.unusedVariables false
set_option linter.unusedSimpArgs false
namespace Go.AM.B1
open Go.AM
structure Edg where
 lo:Int
 hi:Int
 to:Int
deriving DecidableEq
def encE (e:Edg):PV:= .agg [i64 e.lo,i64 e.hi,i64 e.to]
def flatE (l:List Edg):List Int:=l.flatMap fun e=>[e.lo,e.hi,e.to]
theorem flatE_len (l:List Edg):(flatE l).length=l.length * 3:=by
 induction l with
 |nil=>rfl
 |cons e l ih=>simp only[flatE,List.flatMap_cons,List.length_append,List.length_cons,List.length_nil] at ih ⊢;omega
theorem flatE_push (l:List Edg) (e:Edg):flatE (l++[e])=flatE l++[e.lo,e.hi,e.to]:=by simp[flatE]
def edgeR (x to:Int) (l:List Edg):List Edg:=
 if to= -2 then l else match l.getLast? with
  |some e=>if e.to=to∧e.hi=x - 1 then l.dropLast++[⟨e.lo,x,e.to⟩] else l++[⟨x,x,to⟩]
  |none=>l++[⟨x,x,to⟩]
theorem rowA3 (a b c:Int):rowA [a,b,c]=[.pv (i64 a),.pv (i64 b),.pv (i64 c)]:=rfl
theorem rowA_app (a b:List Int):rowA (a++b)=rowA a++rowA b:=by simp[rowA]
abbrev envE (row:List Int) (n:Nat) (x:Int):Tr:=((Tr.lf.set 8 (.pv (i64 x))).set 7 (.pv (agR row))).set 3 (.own 0 n)
theorem seq_at (l:List Int) (e:Edg) (k:Nat) (hk:k < 3):(rowA (l++[e.lo,e.hi,e.to]))[l.length+k]? =some (.pv (i64 (if k=0 then e.lo else if k=1 then e.hi else e.to))):=by
 rw[rowA,List.getElem?_map,List.getElem?_append_right (by omega),Nat.add_sub_cancel_left]
 match k,hk with
 |0,_=>rfl
 |1,_=>rfl
 |2,_=>rfl
section
variable (call:CallF) (row:List Int) (x:Nat) (to:Int) (fl:Nat)
 (hx:x < 256) (hto:row[x]? =some to)
include hx hto
theorem edge_none (l:List Edg) (nl:Bool) (h:to= -2):roundA (evalC call b_auto_edges_l0) (fun s=>some (tidy [3,7,8] s)) ⟨envE row l.length x,[.seq 3 true (rowA (flatE l)) fl nl]⟩=
 some (.norm,⟨envE row l.length (x+1:Nat),[.seq 3 true (rowA (flatE l)) fl nl]⟩):=by
 have e1:decide ((x:Int) < 256)=true:=dec_t (by omega)
 have e2:(to== -2)=true:=by simp[h]
 have hq:idxOk (x:Int) 256:=by unfold idxOk;omega
 have t1:((x:Int)).toNat=x:=by simp
 have t2:=stepWrap (i:=x) (n:=256) hx (by unfold maxLen;omega)
 have ht:(row.map i64)[x]? =some (i64 to):=by rw[List.getElem?_map,hto];rfl
 simp (implicitDefEqProofs:=false) only[SP,SA,SQ,sevalprocAttr,-List.reduceReplicate,roundA,b_auto_edges_l0,e1,e2,eq_true hq,t1,t2,ht,iaddrA',tidy,keepEnv,envE]
theorem edge_first (nl:Bool) (h:to≠ -2):roundA (evalC call b_auto_edges_l0) (fun s=>some (tidy [3,7,8] s)) ⟨envE row 0 x,[.seq 3 true [] 0 nl]⟩=
 some (.norm,⟨envE row 1 (x+1:Nat),[.seq 3 true (rowA [(x:Int),x,to]) 0 false]⟩):=by
 have e1:decide ((x:Int) < 256)=true:=dec_t (by omega)
 have e2:(to== -2)=false:=beq_ne h
 have hq:idxOk (x:Int) 256:=by unfold idxOk;omega
 have t1:((x:Int)).toNat=x:=by simp
 have t2:=stepWrap (i:=x) (n:=256) hx (by unfold maxLen;omega)
 have ht:(row.map i64)[x]? =some (i64 to):=by rw[List.getElem?_map,hto];rfl
 have q1:roomOk 1 24:=by unfold roomOk;omega
 simp (implicitDefEqProofs:=false) only[SP,SA,SQ,sevalprocAttr,-List.reduceReplicate,roundA,b_auto_edges_l0,e1,e2,eq_true hq,t1,t2,ht,eq_true q1,iaddrA',tidy,keepEnv,envE,elemsA,partE,AV.pvu,AV.pvu1,rowA]
variable (l:List Edg) (e:Edg) (hl:l.length < 256) (hfl:fl≤(l.length+1) * 3)
include hl hfl
theorem edge_join (h:to≠ -2) (h1:e.to=to) (h2:e.hi=(x:Int) - 1):roundA (evalC call b_auto_edges_l0) (fun s=>some (tidy [3,7,8] s)) ⟨envE row (l.length+1) x,[.seq 3 true (rowA (flatE l++[e.lo,e.hi,e.to])) fl false]⟩=
 some (.norm,⟨envE row (l.length+1) (x+1:Nat),[.seq 3 true (rowA (flatE l++[e.lo,(x:Int),e.to])) ((l.length+1) * 3) false]⟩):=by
 have e1:decide ((x:Int) < 256)=true:=dec_t (by omega)
 have e2:(to== -2)=false:=beq_ne h
 have hq:idxOk (x:Int) 256:=by unfold idxOk;omega
 have t1:((x:Int)).toNat=x:=by simp
 have t2:=stepWrap (i:=x) (n:=256) hx (by unfold maxLen;omega)
 have ht:(row.map i64)[x]? =some (i64 to):=by rw[List.getElem?_map,hto];rfl
 have e3:decide (((l.length+1:Nat):Int) > 0)=true:=dec_t (by omega)
 have t3:IntKind.i64.wrap (((l.length+1:Nat):Int) - 1)=(l.length:Int):=by rw[wrap_int (by omega)];omega
 have t4:((l.length:Int)).toNat=l.length:=by simp
 have t5:IntKind.i64.wrap ((x:Int) - 1)=(x:Int) - 1:=wrap_int (by omega)
 have hq2:idxOk (l.length:Int) (l.length+1):=by unfold idxOk;omega
 have hlen:(rowA (flatE l++[e.lo,e.hi,e.to])).length=(l.length+1) * 3:=by rw[rowA_len,List.length_append,flatE_len];simp;omega
 have w1:winOk 3 (l.length+1) fl (rowA (flatE l++[e.lo,e.hi,e.to])).length:=by rw[hlen];unfold winOk;omega
 have w2:((rowA (flatE l++[e.lo,e.hi,e.to])).length=(l.length+1) * 3)=True:=eq_true hlen
 have g2:=seq_at (flatE l) e 2 (by omega)
 have g1:=seq_at (flatE l) e 1 (by omega)
 rw[flatE_len] at g1 g2
 simp only[h1,h2] at g1 g2
 have b1:(to==to)=true:=by simp
 have b2:((x:Int) - 1==(x:Int) - 1)=true:=by simp
 have w3:(l.length * 3+1+1≤(l.length+1) * 3)=True:=eq_true (by omega)
 have hset:(rowA (flatE l++[e.lo,(x:Int) - 1,to])).set (l.length * 3+1) (.pv (i64 x))=rowA (flatE l++[e.lo,(x:Int),to]):=by
  rw[rowA_set,←flatE_len,List.set_append_right _ _ (by omega),Nat.add_sub_cancel_left];rfl
 rw[h1,h2] at *
 generalize flatE l++[e.lo,(x:Int) - 1,to]=cs at *
 simp (implicitDefEqProofs:=false) only[SP,SA,SQ,sevalprocAttr,-List.reduceReplicate,roundA,b_auto_edges_l0,e1,e2,e3,eq_true hq,eq_true hq2,t1,t2,t3,t4,t5,ht,g1,g2,eq_true w1,w2,w3,b1,b2,hset,iaddrA',tidy,keepEnv,envE]
theorem edge_push (h:to≠ -2) (h1:¬(e.to=to∧e.hi=(x:Int) - 1)):roundA (evalC call b_auto_edges_l0) (fun s=>some (tidy [3,7,8] s)) ⟨envE row (l.length+1) x,[.seq 3 true (rowA (flatE l++[e.lo,e.hi,e.to])) fl false]⟩=
 some (.norm,⟨envE row (l.length+1+1) (x+1:Nat),[.seq 3 true (rowA (flatE l++[e.lo,e.hi,e.to])++rowA [(x:Int),x,to]) fl false]⟩):=by
 have e1:decide ((x:Int) < 256)=true:=dec_t (by omega)
 have e2:(to== -2)=false:=beq_ne h
 have hq:idxOk (x:Int) 256:=by unfold idxOk;omega
 have t1:((x:Int)).toNat=x:=by simp
 have t2:=stepWrap (i:=x) (n:=256) hx (by unfold maxLen;omega)
 have ht:(row.map i64)[x]? =some (i64 to):=by rw[List.getElem?_map,hto];rfl
 have e3:decide (((l.length+1:Nat):Int) > 0)=true:=dec_t (by omega)
 have t3:IntKind.i64.wrap (((l.length+1:Nat):Int) - 1)=(l.length:Int):=by rw[wrap_int (by omega)];omega
 have t4:((l.length:Int)).toNat=l.length:=by simp
 have t5:IntKind.i64.wrap ((x:Int) - 1)=(x:Int) - 1:=wrap_int (by omega)
 have hq2:idxOk (l.length:Int) (l.length+1):=by unfold idxOk;omega
 have hlen:(rowA (flatE l++[e.lo,e.hi,e.to])).length=(l.length+1) * 3:=by rw[rowA_len,List.length_append,flatE_len];simp;omega
 have w1:winOk 3 (l.length+1) fl (rowA (flatE l++[e.lo,e.hi,e.to])).length:=by rw[hlen];unfold winOk;omega
 have w2:((rowA (flatE l++[e.lo,e.hi,e.to])).length=(l.length+1) * 3)=True:=eq_true hlen
 have w2':((l.length+1) * 3=(rowA (flatE l++[e.lo,e.hi,e.to])).length)=True:=eq_true hlen.symm
 have g2:(rowA (flatE l++[e.lo,e.hi,e.to]))[(flatE l).length+2]? =some (.pv (i64 e.to)):=seq_at (flatE l) e 2 (by omega)
 have g1:(rowA (flatE l++[e.lo,e.hi,e.to]))[(flatE l).length+1]? =some (.pv (i64 e.hi)):=seq_at (flatE l) e 1 (by omega)
 rw[flatE_len] at g1 g2
 have q1:roomOk (l.length+1+1) 24:=by unfold roomOk;omega
 generalize flatE l++[e.lo,e.hi,e.to]=cs at *
 by_cases hb1:e.to=to
 ·have b1:(e.to==to)=true:=by simp[hb1]
  have b2:(e.hi==(x:Int) - 1)=false:=beq_ne fun hh=>h1 ⟨hb1,hh⟩
  simp (implicitDefEqProofs:=false) only[SP,SA,SQ,sevalprocAttr,-List.reduceReplicate,roundA,b_auto_edges_l0,e1,e2,e3,eq_true hq,eq_true hq2,t1,t2,t3,t4,t5,ht,g1,g2,eq_true w1,w2,w2',eq_true q1,b1,b2,iaddrA',tidy,keepEnv,envE,elemsA,partE,AV.pvu,AV.pvu1,rowA3]
 ·have b1:(e.to==to)=false:=beq_ne hb1
  simp (implicitDefEqProofs:=false) only[SP,SA,SQ,sevalprocAttr,-List.reduceReplicate,roundA,b_auto_edges_l0,e1,e2,e3,eq_true hq,eq_true hq2,t1,t2,t3,t4,t5,ht,g1,g2,eq_true w1,w2,w2',eq_true q1,b1,iaddrA',tidy,keepEnv,envE,elemsA,partE,AV.pvu,AV.pvu1,rowA3]
end
end Go.AM.B1
namespace Go.AM.B1
open Go.AM
def edgesGo (row:List Int):List Nat→List Edg→List Edg
 | [],l=>l
 |x::xs,l=>edgesGo row xs (edgeR x (row.getD x 0) l)
def edgesS (row:List Int):List Edg:=edgesGo row (List.range 256) []
def encEs (l:List Edg):PV:=if l.isEmpty then .nils else .lit 3 (l.map encE)
theorem edgeR_none (x:Int) (l:List Edg):edgeR x (-2) l=l:=by simp[edgeR]
theorem edgeR_first {x to:Int} (h:to≠ -2):edgeR x to []=[⟨x,x,to⟩]:=by simp[edgeR,h]
theorem edgeR_join {x:Int} {l:List Edg} {e:Edg} (h:e.to≠ -2) (h2:e.hi=x - 1):edgeR x e.to (l++[e])=l++[⟨e.lo,x,e.to⟩]:=by simp[edgeR,h,h2]
theorem edgeR_push {x to:Int} {l:List Edg} {e:Edg} (h:to≠ -2) (h2:¬(e.to=to∧e.hi=x - 1)):edgeR x to (l++[e])=l++[e]++[⟨x,x,to⟩]:=by
 simp only[edgeR,if_neg h,List.getLast?_append,List.getLast?_singleton,Option.some_or,if_neg h2]
theorem mapO_rowA (H:List AObj) (d:Nat) (l:List Int):mapO (toPV H d) (rowA l)=some (l.map i64):=by
 induction l with
 |nil=>rfl
 |cons a l ih=>simp only[rowA,List.map_cons,mapO,toPV_pv,Option.bind_some] at ih ⊢;rw[ih];rfl
theorem chunkE:∀ (l:List Edg),chunk 3 true l.length ((flatE l).map i64)=l.map encE
 | []=>rfl
 |e::l=>by
  have:=chunkE l
  rw[List.length_cons,chunk]
  simp only[flatE,List.flatMap_cons,List.cons_append,List.nil_append,List.map_cons,List.take,List.drop,if_true] at this ⊢
  rw[this];rfl
theorem toPV_edges (H:List AObj) (id:Nat) (l:List Edg) (fl:Nat) (h:H[id]? =some (.seq 3 true (rowA (flatE l)) fl l.isEmpty)):toPV H deep (.own id l.length)=some (encEs l):=by
 have hl:(l.length * 3=(rowA (flatE l)).length)=True:=by rw[rowA_len,flatE_len];exact eq_self _
 rw[deep_eq]
 simp only[toPV,h,hl,Bool.true_or,and_self,if_true]
 unfold encEs
 cases hn:l.isEmpty with
 |true=>rfl
 |false=>simp only[Bool.false_eq_true,if_false,mapO_rowA,Option.map_some,chunkE]
section
variable (row:List Int) (hrow:row.length=256)
include hrow
theorem edges_loop (call:CallF):∃ fl,loopA (roundA (evalC call b_auto_edges_l0) (fun s=>some (tidy [3,7,8] s))) rounds ⟨envE row 0 0,[.seq 3 true [] 0 true]⟩=
 some (.exit 0,⟨(envE row (edgesS row).length 256).set 9 (.pv (.bool false)),[.seq 3 true (rowA (flatE (edgesS row))) fl (edgesS row).isEmpty]⟩):=by
 unfold edgesS
 generalize hxs:List.range 256=xs
 have key:=loopA_go (g:=roundA (evalC call b_auto_edges_l0) (fun s=>some (tidy [3,7,8] s)))
  (fun x t=>∃ fl l,fl≤l.length * 3∧l.length≤x∧t=⟨envE row l.length x,[.seq 3 true (rowA (flatE l)) fl l.isEmpty]⟩∧edgesGo row xs []=edgesGo row (xs.drop x) l)
  (fun ex t=>∃ fl,ex= .exit 0∧t=⟨(envE row (edgesGo row xs []).length 256).set 9 (.pv (.bool false)),[.seq 3 true (rowA (flatE (edgesGo row xs []))) fl (edgesGo row xs []).isEmpty]⟩)
  rounds 256 0 ⟨envE row 0 (0:Nat),[.seq 3 true [] 0 true]⟩ (by unfold rounds;omega) (by omega) ⟨0,[],by simp,by simp,rfl,rfl⟩ ?_ ?_
 ·obtain⟨ex,t,h,_,fl,rfl,rfl⟩:=key
  exact⟨fl,h⟩
 ·rintro x hx t ⟨fl,l,hf,hlx,rfl,hl⟩
  have hd:=range_drop hx
  rw[hxs] at hd
  obtain⟨to,ht⟩:∃ to,row[x]? =some to:=⟨row[x],by simp[hrow,hx]⟩
  have hgd:row.getD x 0=to:=by simp[List.getD_eq_getElem?_getD,ht]
  rw[hd,edgesGo,hgd] at hl
  by_cases h2:to= -2
  ·rw[h2,edgeR_none] at hl
   exact .inl ⟨_,edge_none call row x to fl hx ht l _ h2,fl,l,hf,by omega,rfl,hl⟩
  rcases List.eq_nil_or_concat l with rfl | ⟨l',e,rfl⟩
  ·rw[edgeR_first h2] at hl
   have hf0:fl=0:=by simpa using hf
   subst hf0
   exact .inl ⟨_,edge_first call row x to hx ht true h2,0,[⟨x,x,to⟩],by simp,by simp,rfl,hl⟩
  ·simp only[List.concat_eq_append] at *
   have hem:(l'++[e]).isEmpty=false:=by simp
   have hlen:(l'++[e]).length=l'.length+1:=by simp
   rw[hlen] at hf hlx
   rw[hem,hlen,flatE_push]
   by_cases h3:e.to=to∧e.hi=(x:Int) - 1
   ·obtain⟨h3,h4⟩:=h3
    rw[← h3,edgeR_join (by rw[h3];exact h2) h4] at hl
    refine .inl ⟨_,edge_join call row x to fl hx ht l' e (by omega) hf h2 h3 h4,(l'.length+1) * 3,l'++[⟨e.lo,x,e.to⟩],by simp,by simp;omega,?_,hl⟩
    rw[flatE_push];simp
   ·rw[edgeR_push h2 h3] at hl
    refine .inl ⟨_,edge_push call row x to fl hx ht l' e (by omega) hf h2 h3,fl,_,?_,?_,?_,hl⟩
    ·simp;omega
    ·simp;omega
    ·rw[flatE_push,flatE_push,rowA_app];simp[rowA]
 ·rintro t ⟨fl,l,hf,hlx,rfl,hl⟩
  rw[List.drop_eq_nil_of_le (by rw[← hxs,List.length_range];exact Nat.le_refl _)] at hl
  refine⟨.exit 0,_,?_,rfl,fl,rfl,rfl⟩
  rw[hl]
  have e1:decide (((256:Nat):Int) < 256)=false:=by decide
  simp (implicitDefEqProofs:=false) only[SP,SA,SQ,sevalprocAttr,-List.reduceReplicate,roundA,b_auto_edges_l0,e1,envE,edgesGo]
theorem edges_run:F_auto_edges [agR row]=some (encEs (edgesS row)):=by
 obtain⟨fl,hl⟩:=edges_loop row hrow (callL (fun _=>none) 8)
 have ht:=toPV_edges [.seq 3 true (rowA (flatE (edgesS row))) fl (edgesS row).isEmpty] 0 (edgesS row) fl rfl
 have h9:(row.map i64).map AV.pv=rowA row:=(rowA_map row).symm
 have p0:((rowA row).length=256)=True:=by rw[rowA_len,hrow];exact eq_self _
 have p1:(256≤(rowA row).length)=True:=by rw[rowA_len,hrow];exact eq_true (Nat.le_refl _)
 have p2:List.take 256 (rowA row)=rowA row:=List.take_of_length_le (by rw[rowA_len,hrow];exact Nat.le_refl _)
 have p3:=allPV_row row
 have p5:=rowA_one row
 have p6:=mapO_rowA [] 0 row
 have p8:List.take 256 (row.map i64)=row.map i64:=List.take_of_length_le (by rw[List.length_map,hrow];exact Nat.le_refl _)
 have p7:(256≤(row.map i64).length)=True:=by rw[List.length_map,hrow];exact eq_true (Nat.le_refl _)
 have p4:((row.map i64).length=256)=True:=by rw[List.length_map,hrow];exact eq_self _
 generalize edgesS row=es at *
 simp only[tidy,keepEnv,envE] at hl
 simp (implicitDefEqProofs:=false) only[F_auto_edges,SP,SA,SQ,sevalprocAttr,-List.reduceReplicate,b_auto_edges,h9,p0,p1,p2,p3,p4,p5,p6,p7,p8,ghostA,C_loopG,tidy,keepEnv]
 rw[hl]
 simp (implicitDefEqProofs:=false) only[SP,SA,SQ,sevalprocAttr,-List.reduceReplicate,ht]
end
end Go.AM.B1
namespace Go.AM.B1
open Go.AM
def idxO (a:Int):List Int→Nat→Option Nat
 | [],_=>none
 |b::l,k=>if a=b then some k else idxO a l (k+1)
def encN (l:List Int) (k:Nat):List (PV×PV):=(l.zipIdx k).map fun p=>(i64 p.1,i64 p.2)
theorem encN_cons (a:Int) (l:List Int) (k:Nat):encN (a::l) k=(i64 a,i64 k)::encN l (k+1):=rfl
theorem encN_push (a:Int):∀ (l:List Int) (k:Nat),encN (l++[a]) k=encN l k++[(i64 a,i64 (k+l.length:Nat))]
 | [],k=>by simp[encN]
 |b::l,k=>by rw[List.cons_append,encN_cons,encN_push a l (k+1),encN_cons];simp;omega
theorem idxO_ge {a:Int}:∀ {l:List Int} {k i:Nat},idxO a l k=some i→k≤i
 |b::l,k,i,h=>by
  simp only[idxO] at h
  split at h
  ·injection h with h;omega
  ·have:=idxO_ge h;omega
theorem find_int (a:Int):∀ (l:List Int) (k j:Nat),findM (.one 1) (i64 a) (encN l k) j=some ((idxO a l k).map fun i=>(j+(i - k),i64 i)):=by
 intro l
 induction l with
 |nil=>intro k j;rfl
 |cons b l ih=>
  intro k j
  have he:eqKd (.one 1) (i64 a) (i64 b)=some (decide (a=b)):=by
   show (if IntKind.i64=IntKind.i64 then some (a==b) else none)=_
   rw[if_pos rfl]
   congr 1
  rw[encN_cons,findM,he]
  simp only[Option.bind_some,idxO]
  by_cases h:a=b
  ·simp[h]
  ·rw[if_neg h,ih]
   simp only[h,decide_false,Bool.false_eq_true,if_false,Option.some.injEq]
   cases hi:idxO a l (k+1) with
   |none=>rfl
   |some i=>
    have:=idxO_ge hi
    simp only[Option.map_some,Option.some.injEq,Prod.mk.injEq,and_true]
    omega
theorem int_isSome (a:Int):(eqKd (.one 1) (i64 a) (i64 a)).isSome=true:=rfl
abbrev bldT (R0 R1:AObj) (S:PV) (nl nr:Bool) (fr:Nat) (sets:List Al) (C:List Int) (n:Nat) (L M:AObj) (O:List Int) (out:List PV) (no:Bool) (T:List AObj):List AObj:=
 bldF R0 R1 S nl nr fr sets C n (L::M:: .box [.pv .nils]:: .map (encN O 0):: .tok 1 O.length false:: .box [.uq 12 no 1 out]:: .tok 1 out.length no::T)
abbrev envT (q:Nat) (k:Int) (O:List Int) (row0:List Int) (x:Int):Tr:=
 (((((((((Tr.lf.set 32 (.pv (i64 x))).set 31 (.pv (agR row0))).set 7 (.ptr q 0)).set 6 (.pv (i64 k))).set 5 (.ptr 11 0)).set 4 (.uq 10 false 1 (O.map i64))).set 3 (.mp 9)).set 2 (.ptr 8 0)).set 0 (.ptr 3 0))
def toldX (x:Nat) (to:Int) (r:List Int×List Int):List Int×List Int:=
 if to < 0 then r else match idxO to r.1 0 with
  |some k=>(r.1,r.2.set x k)
  |none=>(r.1++[to],r.2.set x r.1.length)
section
variable (call:CallF) (R0 R1:AObj) (S:PV) (nl nr:Bool) (fr:Nat) (sets:List Al) (C:List Int) (n:Nat) (L M:AObj) (O:List Int) (out:List PV) (no:Bool) (J:List AObj)
 (k:Int) (row0 row:List Int) (x:Nat) (to:Int) (q:Nat) (hx:x < 256) (hto:row0[x]? =some to)
include hx hto
theorem told_skip (h:to < 0):
 roundA (evalC call b_auto_builder_told_l1) (fun s=>some (tidy [0,2,3,4,5,6,7,31,32] s)) ⟨envT q k O row0 x,bldT R0 R1 S nl nr fr sets C n L M O out no (J++[.box (rowA row)])⟩=
  some (.norm,⟨envT q k O row0 (x+1:Nat),bldT R0 R1 S nl nr fr sets C n L M O out no (J++[.box (rowA row)])⟩):=by
 have e1:decide ((x:Int) < 256)=true:=dec_t (by omega)
 have e2:decide (to < 0)=true:=dec_t (by omega)
 have hq:idxOk (x:Int) 256:=by unfold idxOk;omega
 have t1:((x:Int)).toNat=x:=by simp
 have t2:=stepWrap (i:=x) (n:=256) hx (by unfold maxLen;omega)
 have ht:(row0.map i64)[x]? =some (i64 to):=by rw[List.getElem?_map,hto];rfl
 simp (implicitDefEqProofs:=false) only[SP,SA,SQ,sevalprocAttr,-List.reduceReplicate,roundA,b_auto_builder_told_l1,e1,e2,eq_true hq,t1,t2,ht,iaddrA',tidy,keepEnv,envT,bldT,bldF]
theorem told_old (hq13:q=J.length+1+1+1+1+1+1+1+1+1+1+1+1+1) (hrow:row.length=256) (h:¬to < 0) {j:Nat} (hj:idxO to O 0=some j):
 roundA (evalC call b_auto_builder_told_l1) (fun s=>some (tidy [0,2,3,4,5,6,7,31,32] s)) ⟨envT q k O row0 x,bldT R0 R1 S nl nr fr sets C n L M O out no (J++[.box (rowA row)])⟩=
  some (.norm,⟨envT q k O row0 (x+1:Nat),bldT R0 R1 S nl nr fr sets C n L M O out no (J++[.box (rowA (row.set x j))])⟩):=by
 have e1:decide ((x:Int) < 256)=true:=dec_t (by omega)
 have e2:decide (to < 0)=false:=dec_f (by omega)
 have hq:idxOk (x:Int) 256:=by unfold idxOk;omega
 have t1:((x:Int)).toNat=x:=by simp
 have t2:=stepWrap (i:=x) (n:=256) hx (by unfold maxLen;omega)
 have ht:(row0.map i64)[x]? =some (i64 to):=by rw[List.getElem?_map,hto];rfl
 have hf:=find_int to O 0 0
 rw[hj] at hf
 simp only[Option.map_some] at hf
 have his:=int_isSome to
 have hle:(x+1≤(rowA row).length)=True:=by rw[rowA_len];exact eq_true (by omega)
 subst hq13
 simp (implicitDefEqProofs:=false) only[SP,SA,SQ,sevalprocAttr,-List.reduceReplicate,roundA,b_auto_builder_told_l1,e1,e2,eq_true hq,t1,t2,ht,hf,eq_true his,hle,rowA_set,get_last,set_last,iaddrA',tidy,keepEnv,envT,bldT,bldF]
theorem told_new (hq13:q=J.length+1+1+1+1+1+1+1+1+1+1+1+1+1) (hrow:row.length=256) (h:¬to < 0) (hj:idxO to O 0=none) (hO:O.length < 100):
 roundA (evalC call b_auto_builder_told_l1) (fun s=>some (tidy [0,2,3,4,5,6,7,31,32] s)) ⟨envT q k O row0 x,bldT R0 R1 S nl nr fr sets C n L M O out no (J++[.box (rowA row)])⟩=
  some (.norm,⟨envT q k (O++[to]) row0 (x+1:Nat),bldT R0 R1 S nl nr fr sets C n L M (O++[to]) out no (J++[.box (rowA (row.set x O.length))])⟩):=by
 have e1:decide ((x:Int) < 256)=true:=dec_t (by omega)
 have e2:decide (to < 0)=false:=dec_f (by omega)
 have hq:idxOk (x:Int) 256:=by unfold idxOk;omega
 have t1:((x:Int)).toNat=x:=by simp
 have t2:=stepWrap (i:=x) (n:=256) hx (by unfold maxLen;omega)
 have ht:(row0.map i64)[x]? =some (i64 to):=by rw[List.getElem?_map,hto];rfl
 have hf:=find_int to O 0 0
 rw[hj] at hf
 simp only[Option.map_none] at hf
 have his:=int_isSome to
 have hle:(x+1≤(rowA row).length)=True:=by rw[rowA_len];exact eq_true (by omega)
 have hlen:(O.map i64).length=O.length:=by simp
 have q1:roomOk (O.length+1) 8:=by unfold roomOk;omega
 have hp:=encN_push to O 0
 rw[Nat.zero_add] at hp
 have hlen2:(O++[to]).length=O.length+1:=by simp
 have hmap:(O++[to]).map i64=O.map i64++[i64 to]:=by simp
 subst hq13
 unfold envT bldT
 rw[hp,hlen2,hmap]
 simp (implicitDefEqProofs:=false) only[SP,SA,SQ,sevalprocAttr,-List.reduceReplicate,roundA,b_auto_builder_told_l1,e1,e2,eq_true hq,t1,t2,ht,hf,eq_true his,hle,hlen,eq_true q1,rowA_set,get_last,set_last,iaddrA',tidy,keepEnv,bldF,partE,AV.pvu,AV.pvu1]
end
end Go.AM.B1
namespace Go.AM.B1
open Go.AM
def OrdOk (n:Nat) (O:List Int):Prop:=O.Nodup∧∀ o∈O,0≤o∧o < (n:Int)
theorem nodup_len:∀ (n:Nat) (O:List Int),O.Nodup→(∀ o∈O,0≤o∧o < (n:Int))→O.length≤n
 |0,O,_,h=>by
  cases O with
  |nil=>simp
  |cons a O=>have:=h a (by simp);omega
 |n+1,O,hd,h=>by
  have ih:=nodup_len n (O.erase n) (hd.erase _) (fun o ho=>by
   have h1:=h o (List.mem_of_mem_erase ho)
   have h2:o≠n:=(hd.mem_erase_iff.1 ho).1
   omega)
  rw[List.length_erase] at ih
  split at ih <;> omega
theorem OrdOk.len {n:Nat} {O:List Int} (h:OrdOk n O):O.length≤n:=nodup_len n O h.1 h.2
theorem idxO_none {a:Int}:∀ {l:List Int} {k:Nat},idxO a l k=none→a ∉ l
 | [],_,_=>by simp
 |b::l,k,h=>by
  simp only[idxO] at h
  split at h
  ·cases h
  ·next hne=>simp only[List.mem_cons,not_or];exact⟨hne,idxO_none h⟩
def toldIn (row0:List Int):List Nat→List Int×List Int→List Int×List Int
 | [],r=>r
 |x::xs,r=>toldIn row0 xs (toldX x (row0.getD x 0) r)
theorem toldX_ok {n:Nat} {x:Nat} {to:Int} {r:List Int×List Int} (hto:to < n) (h:OrdOk n r.1):OrdOk n (toldX x to r).1∧(toldX x to r).2.length=r.2.length∧∃ t,(toldX x to r).1=r.1++t:=by
 unfold toldX
 by_cases h0:to < 0
 ·rw[if_pos h0];exact⟨h,rfl,[],by simp⟩
 ·rw[if_neg h0]
  cases hi:idxO to r.1 0 with
  |some k=>exact⟨h,by simp,[],by simp⟩
  |none=>
   have hn:=idxO_none hi
   refine⟨⟨?_,?_⟩,by simp,[to],rfl⟩
   ·simp only[List.nodup_append,h.1,true_and]
    refine⟨by simp,?_⟩
    intro a ha b hb
    simp at hb;subst hb
    intro e;subst e;exact hn ha
   ·intro o ho
    rcases List.mem_append.1 ho with h1 | h1
    ·exact h.2 o h1
    ·simp at h1;subst h1;omega
section
variable (call:CallF) (R0 R1:AObj) (S:PV) (nl nr:Bool) (fr:Nat) (sets:List Al) (C:List Int) (n:Nat) (L M:AObj)
theorem told_inner (O:List Int) (out:List PV) (no:Bool) (J:List AObj) (k:Int) (row0:List Int) (q:Nat) (hq13:q=J.length+1+1+1+1+1+1+1+1+1+1+1+1+1)
 (hO:OrdOk n O) (hn:n≤64) (hrow:row0.length=256) (hto:∀ to∈row0,to < n):
 loopA (roundA (evalC call b_auto_builder_told_l1) (fun s=>some (tidy [0,2,3,4,5,6,7,31,32] s))) rounds ⟨envT q k O row0 0,bldT R0 R1 S nl nr fr sets C n L M O out no (J++[.box (rowA row0)])⟩=
  some (.exit 2,⟨(envT q k (toldIn row0 (List.range 256) (O,row0)).1 row0 256).set 33 (.pv (.bool false)),
   bldT R0 R1 S nl nr fr sets C n L M (toldIn row0 (List.range 256) (O,row0)).1 out no (J++[.box (rowA (toldIn row0 (List.range 256) (O,row0)).2)])⟩)∧
  OrdOk n (toldIn row0 (List.range 256) (O,row0)).1∧(toldIn row0 (List.range 256) (O,row0)).2.length=256∧∃ t,(toldIn row0 (List.range 256) (O,row0)).1=O++t:=by
 generalize hxs:List.range 256=xs
 have key:=loopA_go (g:=roundA (evalC call b_auto_builder_told_l1) (fun s=>some (tidy [0,2,3,4,5,6,7,31,32] s)))
  (fun x t=>∃ r,OrdOk n r.1∧r.2.length=256∧(∃ t,r.1=O++t)∧t=⟨envT q k r.1 row0 x,bldT R0 R1 S nl nr fr sets C n L M r.1 out no (J++[.box (rowA r.2)])⟩∧toldIn row0 xs (O,row0)=toldIn row0 (xs.drop x) r)
  (fun ex t=>ex= .exit 2∧t=⟨(envT q k (toldIn row0 xs (O,row0)).1 row0 256).set 33 (.pv (.bool false)),bldT R0 R1 S nl nr fr sets C n L M (toldIn row0 xs (O,row0)).1 out no (J++[.box (rowA (toldIn row0 xs (O,row0)).2)])⟩∧
   OrdOk n (toldIn row0 xs (O,row0)).1∧(toldIn row0 xs (O,row0)).2.length=256∧∃ t,(toldIn row0 xs (O,row0)).1=O++t)
  rounds 256 0 ⟨envT q k O row0 (0:Nat),bldT R0 R1 S nl nr fr sets C n L M O out no (J++[.box (rowA row0)])⟩ (by unfold rounds;omega) (by omega) ⟨(O,row0),hO,hrow,⟨[],by simp⟩,rfl,rfl⟩ ?_ ?_
 ·obtain⟨ex,t,h,_,rfl,rfl,q1,q2⟩:=key
  exact⟨h,q1,q2⟩
 ·rintro x hx t ⟨⟨O',row⟩,hO',hr',⟨tl,htl⟩,rfl,hl⟩
  have hd:=range_drop hx
  rw[hxs] at hd
  obtain⟨to,ht⟩:∃ to,row0[x]? =some to:=⟨row0[x],by simp[hrow,hx]⟩
  have hgd:row0.getD x 0=to:=by simp[List.getD_eq_getElem?_getD,ht]
  have hlt:=hto to (List.mem_of_getElem? ht)
  rw[hd,toldIn,hgd] at hl
  have hok:=toldX_ok (x:=x) (r:=(O',row)) hlt hO'
  refine .inl ⟨_,?_,toldX x to (O',row),hok.1,by rw[hok.2.1];exact hr',?_,rfl,hl⟩
  ·by_cases h0:to < 0
   ·have e:toldX x to (O',row)=(O',row):=by simp[toldX,h0]
    rw[e]
    exact told_skip call R0 R1 S nl nr fr sets C n L M O' out no J k row0 row x to q hx ht h0
   ·have hlen:=hO'.len
    cases hi:idxO to O' 0 with
    |some j=>
     have e:toldX x to (O',row)=(O',row.set x j):=by simp[toldX,h0,hi]
     rw[e]
     exact told_old call R0 R1 S nl nr fr sets C n L M O' out no J k row0 row x to q hx ht hq13 hr' h0 hi
    |none=>
     have e:toldX x to (O',row)=(O'++[to],row.set x O'.length):=by simp[toldX,h0,hi]
     rw[e]
     exact told_new call R0 R1 S nl nr fr sets C n L M O' out no J k row0 row x to q hx ht hq13 hr' h0 hi (by simp only at hlen;omega)
  ·obtain⟨t2,h2⟩:=hok.2.2
   exact⟨tl++t2,by rw[h2,←List.append_assoc,←htl]⟩
 ·rintro t ⟨⟨O',row⟩,hO',hr',htl,rfl,hl⟩
  rw[List.drop_eq_nil_of_le (by rw[← hxs,List.length_range];exact Nat.le_refl _),toldIn] at hl
  rw[hl]
  refine⟨.exit 2,_,?_,rfl,rfl,rfl,hO',hr',htl⟩
  have e1:decide (((256:Nat):Int) < 256)=false:=by decide
  simp (implicitDefEqProofs:=false) only[SP,SA,SQ,sevalprocAttr,-List.reduceReplicate,roundA,b_auto_builder_told_l1,e1,envT]
abbrev envU (k:Int) (O:List Int):Tr:=
 ((((((Tr.lf.set 6 (.pv (i64 k))).set 5 (.ptr 11 0)).set 4 (.uq 10 false 1 (O.map i64))).set 3 (.mp 9)).set 2 (.ptr 8 0)).set 0 (.ptr 3 0))
def toldOne (C:List Int) (o:Int) (O:List Int):List Int×List Int:=toldIn (rowAt C o.toNat) (List.range 256) (O,rowAt C o.toNat)
theorem told_round (O:List Int) (out:List PV) (no:Bool) (J:List AObj) (k:Nat) (o:Int)
 (hC:C.length=n * 256) (cC:∀ c∈C,c < n) (hfr:fr≤n * 256) (hO:OrdOk n O) (hn:n≤64) (hk:O[k]? =some o) (hout:out.length=k):
 roundA (evalC call b_auto_builder_told_l0) (fun s=>some (tidy [0,2,3,4,5,6] s)) ⟨envU k O,bldT R0 R1 S nl nr fr sets C n L M O out no J⟩=
  some (.norm,⟨envU (k+1:Nat) (toldOne C o O).1,bldT R0 R1 S nl nr fr sets C n L M (toldOne C o O).1 (out++[encEs (edgesS (toldOne C o O).2)]) false (J++[.box (rowA (toldOne C o O).2)])⟩)∧
  OrdOk n (toldOne C o O).1∧∃ t,(toldOne C o O).1=O++t:=by
 have hom:=hO.2 o (List.mem_of_getElem? hk)
 have hkl:=(List.getElem?_eq_some_iff.1 hk).1
 have hOl:=hO.len
 have hoi:o.toNat < n:=by omega
 have hr0:=rowAt_len hC hoi
 obtain⟨hin,g1,g2,g3⟩:=told_inner call R0 R1 S nl nr fr sets C n L M O out no J k (rowAt C o.toNat) _ rfl hO hn hr0 (fun to h=>cC to (List.mem_of_mem_drop (List.mem_of_mem_take h)))
 refine⟨?_,g1,g3⟩
 unfold toldOne
 generalize toldIn (rowAt C o.toNat) (List.range 256) (O,rowAt C o.toNat)=r at *
 obtain⟨O',row'⟩:=r
 simp only at g1 g2 g3 hin
 have hed:=edges_run row' g2
 have hlen:(O.map i64).length=O.length:=by simp
 have e1:decide ((k:Int) < (O.length:Int))=true:=dec_t (by omega)
 have t1:((k:Int)).toNat=k:=by simp
 have hq1:idxOk (k:Int) O.length:=by unfold idxOk;omega
 have hg:(O.map i64)[k]? =some (i64 o):=by rw[List.getElem?_map,hk];rfl
 have hq3:idxOk o n:=by unfold idxOk;omega
 have w2:winOk 256 n fr (rowA C).length:=by rw[rowA_len];unfold winOk;omega
 have w4:((rowA C).length=n * 256)=True:=by rw[rowA_len];exact eq_true hC
 have w6:(o.toNat * 256+256≤(rowA C).length)=True:=by rw[rowA_len];exact eq_true (by omega)
 have p1:=rowAt_pv C o.toNat
 have t2:=stepWrap (i:=k) (n:=64) (by omega) (by unfold maxLen;omega)
 have h9:((rowAt C o.toNat).map i64).map AV.pv=rowA (rowAt C o.toNat):=(rowA_map _).symm
 have hz:=rowZ
 have p5:(256≤(rowA (List.replicate 256 0)).length)=True:=by rw[rowA_len,List.length_replicate];exact eq_true (Nat.le_refl _)
 have p6:setRow (rowA (List.replicate 256 0)) 0 (rowA (rowAt C o.toNat))=rowA (rowAt C o.toNat):=by
  have:=setRow_all (rowA (rowAt C o.toNat)) (rowA (List.replicate 256 0)) [] (by rw[rowA_len,rowA_len,hr0,List.length_replicate])
  rw[List.nil_append,List.nil_append] at this;exact this
 generalize hzs:List.replicate 256 (0:Int)=zs at *
 generalize rowAt C o.toNat=row0 at *
 have r0:((rowA row0).length=256)=True:=by rw[rowA_len,hr0];exact eq_self _
 have r1:(256≤(rowA row0).length)=True:=by rw[rowA_len,hr0];exact eq_true (Nat.le_refl _)
 have r2:List.take 256 (rowA row0)=rowA row0:=List.take_of_length_le (by rw[rowA_len,hr0];exact Nat.le_refl _)
 have r3:=allPV_row row0
 have r5:=rowA_one row0
 have s1:(256≤(rowA row').length)=True:=by rw[rowA_len,g2];exact eq_true (Nat.le_refl _)
 have s2:List.take 256 (rowA row')=rowA row':=List.take_of_length_le (by rw[rowA_len,g2];exact Nat.le_refl _)
 have s3:=allPV_row row'
 have q1:roomOk (out.length+1) 24:=by unfold roomOk;omega
 have hlen2:(out++[encEs (edgesS row')]).length=out.length+1:=by simp
 unfold bldT
 rw[hlen2]
 have hcs:(∃ l,encEs (edgesS row')= .lit 3 l)∨encEs (edgesS row')= .nils:=by unfold encEs;split;exact .inr rfl;exact .inl ⟨_,rfl⟩
 generalize encEs (edgesS row')=ed at *
 simp only[envT,bldT,bldF,tidy,keepEnv] at hin
 simp (implicitDefEqProofs:=false) only[SP,SA,SQ,sevalprocAttr,-List.reduceReplicate,roundA,b_auto_builder_told_l0,hlen,e1,eq_true hq1,eq_true hq3,t1,hg,eq_true w2,w4,w6,p1,h9,hz,p5,p6,r0,r1,r2,r3,r5,get_last,set_last,iaddrA',C_loopG,tidy,keepEnv,envU,bldF]
 rw[hin]
 rcases hcs with⟨l,rfl⟩ | rfl <;>
 simp (implicitDefEqProofs:=false) only[SP,SA,SQ,sevalprocAttr,-List.reduceReplicate,t2,s1,s2,s3,hed,toPV_pv,deep_eq,eq_true q1,get_last,set_last,iaddrA',tidy,keepEnv,envU,bldF,partE,AV.pvu,AV.pvu1]
def toldGo (C:List Int):Nat→List Int×List (List Edg)→List Int×List (List Edg)
 |0,r=>r
 |f+1,r=>match r.1[r.2.length]? with
  |none=>r
  |some o=>toldGo C f ((toldOne C o r.1).1,r.2++[edgesS (toldOne C o r.1).2])
theorem toldGo_end {C:List Int} {f:Nat} {r:List Int×List (List Edg)} (h:r.1[r.2.length]? =none):toldGo C f r=r:=by
 cases f with
 |zero=>rfl
 |succ f=>rw[toldGo,h]
theorem toldGo_some {C:List Int} {f:Nat} {r:List Int×List (List Edg)} {o:Int} (h:r.1[r.2.length]? =some o):toldGo C (f+1) r=toldGo C f ((toldOne C o r.1).1,r.2++[edgesS (toldOne C o r.1).2]):=by
 rw[toldGo,h]
def toldS (C:List Int):List (List Edg):=(toldGo C 64 ([0],[])).2
def encSt (l:List (List Edg)):PV:= .lit 1 (l.map encEs)
theorem told_exit (O:List Int) (out:List PV) (no:Bool) (J:List AObj) (k:Nat) (hk:k=O.length):
 roundA (evalC call b_auto_builder_told_l0) (fun s=>some (tidy [0,2,3,4,5,6] s)) ⟨envU k O,bldT R0 R1 S nl nr fr sets C n L M O out no J⟩=
  some (.exit 0,⟨((((envU k O).set 15 (.pv (i64 k))).set 16 (.uq 10 false 1 (O.map i64))).set 17 (.pv (i64 O.length))).set 18 (.pv (.bool false)),bldT R0 R1 S nl nr fr sets C n L M O out no J⟩):=by
 have hlen:(O.map i64).length=O.length:=by simp
 have e1:decide ((k:Int) < (O.length:Int))=false:=dec_f (by omega)
 simp (implicitDefEqProofs:=false) only[SP,SA,SQ,sevalprocAttr,-List.reduceReplicate,roundA,b_auto_builder_told_l0,hlen,e1,envU,bldT,bldF]
theorem told_loop (hC:C.length=n * 256) (cC:∀ c∈C,c < n) (hfr:fr≤n * 256) (hn:n≤64) (h0:0 < n):
 ∃ O J k,loopA (roundA (evalC call b_auto_builder_told_l0) (fun s=>some (tidy [0,2,3,4,5,6] s))) rounds ⟨envU 0 [0],bldT R0 R1 S nl nr fr sets C n L M [0] [] true []⟩=
  some (.exit 0,⟨((((envU k O).set 15 (.pv (i64 k))).set 16 (.uq 10 false 1 (O.map i64))).set 17 (.pv (i64 O.length))).set 18 (.pv (.bool false)),bldT R0 R1 S nl nr fr sets C n L M O ((toldS C).map encEs) false J⟩):=by
 have key:=loopA_go (g:=roundA (evalC call b_auto_builder_told_l0) (fun s=>some (tidy [0,2,3,4,5,6] s)))
  (fun k t=>∃ (O:List Int) (out:List (List Edg)) (J:List AObj),OrdOk n O∧out.length=k∧k≤O.length∧0 < O.length∧t=⟨envU k O,bldT R0 R1 S nl nr fr sets C n L M O (out.map encEs) (k==0) J⟩∧toldGo C 64 ([0],[])=toldGo C (64 - k) (O,out))
  (fun ex t=>∃ (O:List Int) (J:List AObj) (k:Nat),ex= .exit 0∧t=⟨((((envU k O).set 15 (.pv (i64 k))).set 16 (.uq 10 false 1 (O.map i64))).set 17 (.pv (i64 O.length))).set 18 (.pv (.bool false)),bldT R0 R1 S nl nr fr sets C n L M O ((toldS C).map encEs) false J⟩)
  rounds 64 0 ⟨envU (0:Nat) [0],bldT R0 R1 S nl nr fr sets C n L M [0] [] true []⟩ (by unfold rounds;omega) (by omega)
   ⟨[0],[],[],⟨by simp,by intro o ho;simp at ho;omega⟩,rfl,by simp,by simp,rfl,rfl⟩ ?_ ?_
 ·obtain⟨ex,t,h,_,O,J,k,rfl,rfl⟩:=key
  exact⟨O,J,k,h⟩
 ·rintro k hk t ⟨O,out,J,hO,hout,hkO,hO0,rfl,hl⟩
  by_cases hlt:k < O.length
  ·obtain⟨o,ho⟩:∃ o,O[k]? =some o:=⟨O[k],by simp[hlt]⟩
   obtain⟨g1,g2,t,g3⟩:=told_round call R0 R1 S nl nr fr sets C n L M O (out.map encEs) (k==0) J k o hC cC hfr hO hn ho (by simpa using hout)
   rw[show 64 - k=(64 - (k+1))+1 by omega,toldGo_some (r:=(O,out)) (o:=o) (by show O[out.length]? =_;rw[hout];exact ho)] at hl
   refine .inl ⟨_,g1,_,out++[edgesS (toldOne C o O).2],J++[.box (rowA (toldOne C o O).2)],g2,by simp[hout],?_,?_,?_,hl⟩
   ·rw[g3];simp;omega
   ·rw[g3];simp;omega
   ·have:(k+1==0)=false:=rfl
    rw[this];simp
  ·have hke:k=O.length:=by omega
   rw[toldGo_end (r:=(O,out)) (by show O[out.length]? =none;rw[hout,hke];simp)] at hl
   refine .inr ⟨.exit 0,_,told_exit call R0 R1 S nl nr fr sets C n L M O _ _ J k hke,rfl,O,J,k,rfl,?_⟩
   have:(k==0)=false:=by simp;omega
   rw[this,toldS,hl]
 ·rintro t ⟨O,out,J,hO,hout,hkO,hO0,rfl,hl⟩
  have hke:64=O.length:=by have:=hO.len;omega
  rw[toldGo_end (r:=(O,out)) (by show O[out.length]? =none;rw[hout,hke];simp)] at hl
  refine⟨.exit 0,_,told_exit call R0 R1 S nl nr fr sets C n L M O _ _ J 64 hke,rfl,O,J,64,rfl,?_⟩
  have:((64:Nat)==0)=false:=rfl
  rw[this,toldS,hl]
theorem told_run (hC:C.length=n * 256) (cC:∀ c∈C,c < n) (hfr:fr≤n * 256) (hn:n≤64) (h0:0 < n):
 ∃ O J,runF call b_auto_builder_told [.ptr 3 0] (bldF R0 R1 S nl nr fr sets C n [L,M])=
  some (.agg [.uq 12 false 1 ((toldS C).map encEs)],bldF R0 R1 S nl nr fr sets C n (L::M:: .box [.uq 12 false 1 ((toldS C).map encEs)]:: .map (encN O 0):: .tok 1 O.length false:: .box [.uq 12 false 1 ((toldS C).map encEs)]:: .tok 1 ((toldS C).map encEs).length false::J)):=by
 obtain⟨O,J,k,hl⟩:=told_loop call R0 R1 S nl nr fr sets C n L M hC cC hfr hn h0
 refine⟨O,J,?_⟩
 generalize (toldS C).map encEs=out at *
 have hl':loopA (roundA (evalC call b_auto_builder_told_l0) (fun s=>some ⟨((((((Tr.lf.set 6 (s.env.get 6)).set 5 (s.env.get 5)).set 4 (s.env.get 4)).set 3 (s.env.get 3)).set 2 (s.env.get 2)).set 0 (s.env.get 0)),s.H⟩)) rounds
  ⟨((((((Tr.lf.set 6 (.pv (.int .i64 0))).set 5 (.ptr 11 0)).set 4 (.uq 10 false 1 [.int .i64 0])).set 3 (.mp 9)).set 2 (.ptr 8 0)).set 0 (.ptr 3 0)),[R0,R1,.map (encM sets 0),.box [.pv S,.mp 2,.uq 4 nl 2 (sets.map encA),.own 5 n],.tok 2 sets.length nl,.seq 256 true (rowA C) fr nr,L,M,.box [.pv .nils],.map [(.int .i64 0,.int .i64 0)],.tok 1 1 false,.box [.uq 12 true 1 []],.tok 1 0 true]⟩=_:=hl
 simp only[envU,bldT,bldF] at hl'
 simp (implicitDefEqProofs:=false) only[SP,SA,SQ,sevalprocAttr,-List.reduceReplicate,b_auto_builder_told,ghostA,C_loopG,tidy,keepEnv,findM,eqKd,eqCell,Option.isSome_some,partE,AV.pvu,AV.pvu1,bldF]
 rw[hl']
 simp (implicitDefEqProofs:=false) only[SP,SA,SQ,sevalprocAttr,-List.reduceReplicate,bldF]
end
end Go.AM.B1
namespace Go.AM.B1
open Go.AM
def bits0 (n:Nat):Int:=IntKind.u32.wrap (IntKind.u32.wrap (1 * 2 ^ min n IntKind.u32.bits) - 1)
theorem bits0_fold (n:Nat):IntKind.u32.wrap (IntKind.u32.wrap (1 * 2 ^ min n IntKind.u32.bits) - 1)=bits0 n:=rfl
theorem bits0_eq {n:Nat} (h:n≤32):bits0 n=((2 ^ n - 1:Nat):Int):=by
 have:∀ n:Fin 33,bits0 n.1=((2 ^ n.1 - 1:Nat):Int):=by decide
 exact this ⟨n,by omega⟩
theorem idxR_lt {a:Al}:∀ {l:List Al} {k i:Nat},idxR a l k=some i→i < k+l.length
 |b::l,k,i,h=>by
  simp only[idxR] at h
  split at h
  ·injection h with h;simp;omega
  ·have:=idxR_lt h;simp;omega
theorem stepX_lt {ss:List Shp} {a:Al} {x:Int} {sets:List Al} {r:List Al×Int} (h:stepX ss a x sets=some r):r.2 < r.1.length:=by
 unfold stepX at h
 split at h
 ·injection h with h;subst h;simp;omega
 ·split at h
  ·injection h with h;subst h;simp;omega
  ·split at h
   ·next k hk=>injection h with h;subst h;have:=idxR_lt hk;simp at this;simp;omega
   ·split at h
    ·injection h with h;subst h;simp;omega
    ·cases h
theorem rowS_lt {ss:List Shp} {a:Al}:∀ (xs:List Nat) (r r':List Al×List Int),r.1.length≤64→(∀ v∈r.2,v < r.1.length)→rowS ss a xs r=some r'→∀ v∈r'.2,v < r'.1.length
 | [],r,r',_,h,e=>by injection e with e;subst e;exact h
 |x::xs,r,r',hl,h,e=>by
  cases hst:stepX ss a x r.1 with
  |none=>rw[rowS_none hst] at e;cases e
  |some p=>
   rw[rowS_some hst] at e
   have hg:=stepX_grows hst hl
   refine rowS_lt xs (p.1,r.2.set x p.2) r' hg.1 ?_ e
   intro v hv
   obtain⟨t,ht⟩:=hg.2
   rcases List.mem_or_eq_of_mem_set hv with h1 | h1
   ·have h2:=h v h1
    have:r.1.length≤p.1.length:=by rw[ht];simp
    simp only;omega
   ·rw[h1];exact stepX_lt hst
theorem walkS_lt {ss:List Shp} (hw:ss.length≤32):∀ (k:Nat) (r r':List Al×List (List Int)),AllOk ss r.1→(∀ l∈r.2,∀ v∈l,v < r.1.length)→walkS ss k r=some r'→(∀ l∈r'.2,∀ v∈l,v < r'.1.length)∧∃ t,r'.1=r.1++t
 |0,r,r',_,h,e=>by injection e with e;subst e;exact⟨h,[],by simp⟩
 |k+1,r,r',hok,h,e=>by
  cases ha:r.1[r.2.length]? with
  |none=>rw[walkS_end ha] at e;injection e with e;subst e;exact⟨h,[],by simp⟩
  |some a=>
   cases hr:rowS ss a (List.range 256) (r.1,row0) with
   |none=>rw[walkS_none ha hr] at e;cases e
   |some p=>
    rw[walkS_some ha hr] at e
    obtain⟨g1,⟨t,g2⟩,g3⟩:=rowS_ok hw (List.range 256) (r.1,row0) p hok ha hr
    have hpos:0 < r.1.length:=by have:=(List.getElem?_eq_some_iff.1 ha).1;omega
    have g4:=rowS_lt (List.range 256) (r.1,row0) p hok.1 (by
     intro v hv
     have:v=0:=List.eq_of_mem_replicate hv
     simp only;omega) hr
    obtain⟨k1,t2,k2⟩:=walkS_lt hw k (p.1,r.2++[p.2]) r' g1 (by
     intro l hl v hv
     rcases List.mem_append.1 hl with h1 | h1
     ·have:=h l h1 v hv
      simp only[g2,List.length_append] at this ⊢;omega
     ·simp at h1;subst h1;exact g4 v hv) e
    exact⟨k1,t++t2,by rw[k2,g2,List.append_assoc]⟩
theorem rowA_flat:∀ (rs:List (List Int)),rowA rs.flatten=rs.flatMap rowA
 | []=>rfl
 |r::rs=>by
  have:=rowA_flat rs
  rw[List.flatten_cons,rowA_app,List.flatMap_cons,this]
def sets0 (ss:List Shp):List Al:=[(0,bits0 ss.length)]
theorem sets0_ok {ss:List Shp} (hw:ss.length≤32) (hne:∀ s∈ss,0 < s.parts.length):AllOk ss (sets0 ss):=by
 refine⟨by simp[sets0],?_⟩
 intro k a ha
 match k,ha with
 |0,ha=>
  simp only[sets0,List.getElem?_cons_zero,Option.some.injEq] at ha
  subst ha
  refine⟨by simp,2 ^ ss.length - 1,bits0_eq hw,?_,?_⟩
  ·have:2 ^ ss.length≤2 ^ 32:=Nat.pow_le_pow_right (by decide) hw
   omega
  ·intro i s hs _
   exact hne s (List.mem_of_getElem? hs)
 |k+1,ha=>simp[sets0] at ha
section
variable (R0 R1:AObj) (S:PV) (ss:List Shp)
 (h0:cutObj 7 R0=some R0) (h1:cutObj 7 R1=some R1) (g0:cutObj 6 R0=some R0) (g1:cutObj 6 R1=some R1)
 (hS:IsL 2 S (ss.map encShp)) (hw:ss.length≤32) (hsz:∀ s∈ss,∀ l∈s.parts,l.length * 16≤140737488355328) (hne:∀ s∈ss,0 < s.parts.length)
include h0 h1 g0 g1 hS hw hsz hne
theorem walk_run:
 (∀ r,walkS ss 64 (sets0 ss,[])=some r→∃ nl',runF (callL t_auto_Build 7) b_auto_builder_walk [.ptr 3 0] (bld R0 R1 S true [] (rowsO []) 0 [])=some (.pv (.bool true),bld R0 R1 S nl' r.1 (rowsO r.2) r.2.length [])∧AllOk ss r.1∧r.2.length=r.1.length∧∀ r'∈r.2,r'.length=256)∧
 (walkS ss 64 (sets0 ss,[])=none→∃ H,runF (callL t_auto_Build 7) b_auto_builder_walk [.ptr 3 0] (bld R0 R1 S true [] (rowsO []) 0 [])=some (.pv (.bool false),H)∧H[0]? =some R0):=by
 have hloop:=walk_loop R0 R1 S false (sets0 ss) ss h0 h1 g0 g1 hS hw hsz (sets0_ok hw hne) (by simp[sets0])
 have ls:=hS.len
 simp only[List.length_map] at ls
 have hmet:runF (callL t_auto_Build 6) b_auto_builder_met [.ptr 3 0,.pv (.agg [.int .i64 0,.int .u32 (bits0 ss.length)])] [R0,R1,.map (encM [] 0),.box [.pv S,.mp 2,.uq 4 true 2 [],.own 5 0],.tok 2 0 true,.seq 256 true [] 0 true]=some (.pv (.tup [.int .i64 0,.bool true]),bld R0 R1 S false [(0,bits0 ss.length)] (rowsO []) 0 []):=
  met_new (callL t_auto_Build 6) R0 R1 S true [] (rowsO []) 0 [] (0,bits0 ss.length) rfl (by simp)
 have n0:¬((ss.length:Int) < 0):=by omega
 have t1:((ss.length:Int)).toNat=ss.length:=by simp
 have e1:((ss.length:Int) < 0)=False:=eq_false n0
 have q5:=cut_rows 6 6 []
 simp only[List.flatMap_nil] at q5
 simp only[bld,rowsO,List.flatMap_nil,List.isEmpty_nil] at hmet
 unfold bld rowsO
 constructor
 ·intro r hr
  obtain⟨E,nl',hl,k1,k2,k3⟩:=hloop.1 r hr
  refine⟨nl',?_,k1,k2,k3⟩
  simp (implicitDefEqProofs:=false) only[SP,SA,SQ,sevalprocAttr,-List.reduceReplicate,b_auto_builder_walk,ls,e1,t1,bits0_fold,t_auto_Build,List.flatMap_nil,hmet,C_loop,clean,cutEnv,cutO_box,cutO_map,cutO_tok,cutO_seq,cut_pv,AV.cut,deep_eq,h0,h1,g0,g1,q5,bld]
  have hl':loopA (roundA (evalC (callL t_auto_Build 7) b_auto_builder_walk_l0) (clean 6 [0,3])) rounds ⟨(Tr.lf.set 3 (.pv (.int .i64 0))).set 0 (.ptr 3 0),[R0,R1,.map (encM [(0,bits0 ss.length)] 0),.box [.pv S,.mp 2,.uq 4 false 2 [encA (0,bits0 ss.length)],.own 5 0],.tok 2 1 false,.seq 256 true [] 0 true]⟩=_:=hl
  rw[hl']
  simp (implicitDefEqProofs:=false) only[SP,SA,SQ,sevalprocAttr,-List.reduceReplicate,bld,rowsO]
 ·intro hr
  obtain⟨t,hl,k2,k3⟩:=retIsH_spec (hloop.2 hr)
  refine⟨t.H,?_,k3⟩
  simp (implicitDefEqProofs:=false) only[SP,SA,SQ,sevalprocAttr,-List.reduceReplicate,b_auto_builder_walk,ls,e1,t1,bits0_fold,t_auto_Build,List.flatMap_nil,hmet,C_loop,clean,cutEnv,cutO_box,cutO_map,cutO_tok,cutO_seq,cut_pv,AV.cut,deep_eq,h0,h1,g0,g1,q5,bld]
  have hl':loopA (roundA (evalC (callL t_auto_Build 7) b_auto_builder_walk_l0) (clean 6 [0,3])) rounds ⟨(Tr.lf.set 3 (.pv (.int .i64 0))).set 0 (.ptr 3 0),[R0,R1,.map (encM [(0,bits0 ss.length)] 0),.box [.pv S,.mp 2,.uq 4 false 2 [encA (0,bits0 ss.length)],.own 5 0],.tok 2 1 false,.seq 256 true [] 0 true]⟩=_:=hl
  rw[hl']
  simp (implicitDefEqProofs:=false) only[SP,SA,SQ,sevalprocAttr,-List.reduceReplicate,k2]
end
def autoS (ss:List Shp):Option (List (List Edg)):=
 (walkS ss 64 (sets0 ss,[])).map fun r=>toldS (leastS r.2.length r.2.flatten).C
section
variable (S0 S:PV) (ss:List Shp) (hS0:S0= .nils∨∃ l,S0= .lit 2 l) {y:Bool} {a b e:Int}
include hS0
theorem build_err (he:e≠0) (hp:F_clash_Prefix [.agg [S0]]=some (.tup [.agg [.bool y,i64 a,i64 b],i64 e])):
 F_auto_Build [.agg [S0]]=some (.tup [.agg [.nils],i64 e]):=by
 have e1:=beq_ne he
 rcases hS0 with rfl | ⟨l,rfl⟩ <;>
 simp (implicitDefEqProofs:=false) only[F_auto_Build,SP,SA,SQ,sevalprocAttr,-List.reduceReplicate,b_auto_Build,hp,e1,bne,toPV_pv,deep_eq]
theorem build_no (hp:F_clash_Prefix [.agg [S0]]=some (.tup [.agg [.bool false,i64 a,i64 b],i64 0])):
 F_auto_Build [.agg [S0]]=some (.tup [.agg [.nils],i64 110]):=by
 rcases hS0 with rfl | ⟨l,rfl⟩ <;>
 simp (implicitDefEqProofs:=false) only[F_auto_Build,SP,SA,SQ,sevalprocAttr,-List.reduceReplicate,b_auto_Build,hp,bne,toPV_pv,deep_eq]
variable (hp:F_clash_Prefix [.agg [S0]]=some (.tup [.agg [.bool true,i64 a,i64 b],i64 0])) (hc:F_scheme_Copy [.agg [S0]]=some (.agg [S]))
 (hS:IsL 2 S (ss.map encShp)) (hw:ss.length≤32) (hsz:∀ s∈ss,∀ l∈s.parts,l.length * 16≤140737488355328) (hne:∀ s∈ss,0 < s.parts.length)
include hp hc hS hw hsz hne
theorem build_full (h:autoS ss=none):F_auto_Build [.agg [S0]]=some (.tup [.agg [.nils],i64 130]):=by
 have hn:walkS ss 64 (sets0 ss,[])=none:=by unfold autoS at h;simpa using h
 obtain⟨H,hwk,hH⟩:=(walk_run (.box [.pv .nils]) (.box [.pv (.bool true),.pv (i64 a),.pv (i64 b)]) S ss rfl rfl rfl rfl hS hw hsz hne).2 hn
 have hb0:bld (.box [.pv .nils]) (.box [.pv (.bool true),.pv (i64 a),.pv (i64 b)]) S true [] (rowsO []) 0 []=[.box [.pv .nils],.box [.pv (.bool true),.pv (i64 a),.pv (i64 b)],.map [],.box [.pv S,.mp 2,.uq 4 true 2 [],.own 5 0],.tok 2 0 true,.seq 256 true [] 0 true]:=rfl
 rw[hb0] at hwk
 have hS2:S= .nils∨∃ l,S= .lit 2 l:=by rcases hS with⟨h,_⟩ | h;exact .inl h;exact .inr ⟨_,h⟩
 have hH2:∀ o,(H.set 0 o)[0]? =some o:=by
  intro o
  cases H with
  |nil=>cases hH
  |cons x H=>rfl
 rcases hS0 with rfl | ⟨l,rfl⟩ <;> rcases hS2 with rfl | ⟨l2,rfl⟩ <;>
 simp (implicitDefEqProofs:=false) only[F_auto_Build,SP,SA,SQ,sevalprocAttr,-List.reduceReplicate,b_auto_Build,hp,hc,hwk,hH,hH2,t_auto_Build,ghostA,partE,AV.pvu,AV.pvu1,bne,toPV_pv,deep_eq]
theorem build_ok {l:List (List Edg)} (h:autoS ss=some l):F_auto_Build [.agg [S0]]=some (.tup [.agg [encSt l],i64 0]):=by
 obtain⟨r,hn,hl⟩:∃ r,walkS ss 64 (sets0 ss,[])=some r∧toldS (leastS r.2.length r.2.flatten).C=l:=by
  unfold autoS at h;simpa using h
 obtain⟨nl,hwk,k1,k2,k3⟩:=(walk_run (.box [.pv .nils]) (.box [.pv (.bool true),.pv (i64 a),.pv (i64 b)]) S ss rfl rfl rfl rfl hS hw hsz hne).1 r hn
 have hb0:bld (.box [.pv .nils]) (.box [.pv (.bool true),.pv (i64 a),.pv (i64 b)]) S true [] (rowsO []) 0 []=[.box [.pv .nils],.box [.pv (.bool true),.pv (i64 a),.pv (i64 b)],.map [],.box [.pv S,.mp 2,.uq 4 true 2 [],.own 5 0],.tok 2 0 true,.seq 256 true [] 0 true]:=rfl
 have hb1:bld (.box [.pv .nils]) (.box [.pv (.bool true),.pv (i64 a),.pv (i64 b)]) S nl r.1 (rowsO r.2) r.2.length []=bldF (.box [.pv .nils]) (.box [.pv (.bool true),.pv (i64 a),.pv (i64 b)]) S nl r.2.isEmpty 0 r.1 r.2.flatten r.2.length []:=by
  unfold bld bldF rowsO;rw[rowA_flat]
 rw[hb0,hb1] at hwk
 have hlt:=walkS_lt hw 64 (sets0 ss,[]) r (sets0_ok hw hne) (by simp) hn
 have hpos:0 < r.1.length:=by obtain⟨t,ht⟩:=hlt.2;rw[ht];simp[sets0]
 have hC:r.2.flatten.length=r.2.length * 256:=by
  have:=rows_len k3
  rw[← rowA_flat,rowA_len] at this;exact this
 have cC:∀ c∈r.2.flatten,c < (r.2.length:Int):=by
  intro c hc
  obtain⟨l,h1,h2⟩:=List.mem_flatten.1 hc
  rw[k2];exact hlt.1 l h1 c h2
 have h64:r.2.length≤64:=by rw[k2];exact k1.1
 have h0:0 < r.2.length:=by omega
 obtain⟨fr,fk,v,hf,hls⟩:=least_run (callL t_auto_Build 7) (.box [.pv .nils]) (.box [.pv (.bool true),.pv (i64 a),.pv (i64 b)]) S nl r.2.isEmpty r.1 r.2.flatten r.2.length h64 h0 k2.symm hC cC
 have hok:LOk r.2.length (leastS r.2.length r.2.flatten):=leastGo_ok _ _ (Nat.le_refl _) ⟨hC,by simp,cC,by intro c hc;rw[List.eq_of_mem_replicate hc];omega,by simp⟩
 obtain⟨O,J,htd⟩:=told_run (callL t_auto_Build 7) (.box [.pv .nils]) (.box [.pv (.bool true),.pv (i64 a),.pv (i64 b)]) S nl r.2.isEmpty fr r.1 (leastS r.2.length r.2.flatten).C r.2.length (.seq 1 false (rowA (leastS r.2.length r.2.flatten).like) fk false) (.map (encR (leastS r.2.length r.2.flatten).M)) hok.hC hok.cC (by omega) h64 h0
 rw[hl] at htd
 unfold encSt
 generalize l.map encEs=out at *
 generalize leastS r.2.length r.2.flatten=g at *
 simp only[bldF] at hwk hls htd
 have hS2:S= .nils∨∃ l,S= .lit 2 l:=by rcases hS with⟨h,_⟩ | h;exact .inl h;exact .inr ⟨_,h⟩
 rcases hS0 with rfl | ⟨l,rfl⟩ <;> rcases hS2 with rfl | ⟨l2,rfl⟩ <;>
 simp (implicitDefEqProofs:=false) only[F_auto_Build,SP,SA,SQ,sevalprocAttr,-List.reduceReplicate,b_auto_Build,hp,hc,hwk,hls,htd,t_auto_Build,ghostA,partE,AV.pvu,AV.pvu1,bne,toPV_pv,deep_eq]
end
end Go.AM.B1
namespace Go.AM.B1
open Go.AM Go.AM.So
structure HeldPart (v:PV) (l:List (Int×Int)):Prop where
 is:IsL 2 v (prs l)
 sz:l.length * 16≤140737488355328
structure HeldParts (P:PV) (ls:List (List (Int×Int))) (ps:List PV):Prop where
 is:IsL 1 P ps
 len:ps.length=ls.length
 all:∀ (k:Nat) v l,ps[k]? =some v→ls[k]? =some l→HeldPart v l
 sz:ls.length≤maxLen
structure HeldShp (e:PV) (s:Shp) (P:PV) (ps:List PV):Prop where
 eq:e= .agg [P,i64 s.first]
 parts:HeldParts P s.parts ps
structure HeldSch (S:PV) (ss:List Shp) (es:List PV):Prop where
 is:IsL 2 S es
 len:es.length=ss.length
 all:∀ (k:Nat) e s,es[k]? =some e→ss[k]? =some s→∃ P ps,HeldShp e s P ps
 sz:ss.length≤maxLen
theorem HeldParts.get {P:PV} {ls:List (List (Int×Int))} {ps:List PV} (h:HeldParts P ls ps) {i:Nat} (hi:i < ls.length):∃ v,ps[i]? =some v∧P= .lit 1 ps∧HeldPart v ls[i]:=by
 have h1:i < ps.length:=by rw[h.len];exact hi
 refine⟨ps[i],List.getElem?_eq_getElem h1,h.is.lit (i:=i) h1,h.all i _ _ (List.getElem?_eq_getElem h1) (List.getElem?_eq_getElem hi)⟩
theorem HeldSch.get {S:PV} {ss:List Shp} {es:List PV} (h:HeldSch S ss es) {i:Nat} (hi:i < ss.length):∃ e P ps,es[i]? =some e∧S= .lit 2 es∧HeldShp e ss[i] P ps:=by
 have h1:i < es.length:=by rw[h.len];exact hi
 obtain⟨P,ps,hp⟩:=h.all i _ _ (List.getElem?_eq_getElem h1) (List.getElem?_eq_getElem hi)
 exact⟨es[i],P,ps,List.getElem?_eq_getElem h1,h.is.lit (i:=i) h1,hp⟩
theorem HeldParts.lenA {P:PV} {ls:List (List (Int×Int))} {ps:List PV} (h:HeldParts P ls ps) (H:List AObj):lenA H 0 (.pv P)=some ls.length:=by
 rw[h.is.len,h.len]
theorem HeldSch.lenA {S:PV} {ss:List Shp} {es:List PV} (h:HeldSch S ss es) (H:List AObj):lenA H 0 (.pv S)=some ss.length:=by
 rw[h.is.len,h.len]
def PartOk (l:List (Int×Int)):Prop:=l≠[]∧validR 255 (-2) l=true
instance (l:List (Int×Int)):Decidable (PartOk l):=by unfold PartOk;infer_instance
def lastN:Int→List (List (Int×Int))→Int
 |n,[]=>n
 |n,l::r=>lastN (if 1073741825 < n * sizeR 0 l then 1073741825 else n * sizeR 0 l) r
def lastS (s:Shp):Int:=s.first+lastN 1 s.parts - 1
theorem partOk_size {l:List (Int×Int)} (h:PartOk l):1≤sizeR 0 l∧sizeR 0 l≤256:=by
 have:=(sizeR_bound h.2).2.1 h.1;omega
theorem mul_small {n s:Int} (h1:1≤n) (h2:n≤1073741825) (h3:1≤s) (h4:s≤256):1≤n * s∧n * s≤274877907200:=by
 constructor
 ·have:=Int.mul_le_mul h1 h3 (by omega) (by omega);omega
 ·have:=Int.mul_le_mul h2 h4 (by omega) (by omega);omega
theorem lastN_bound:∀ (ls:List (List (Int×Int))) (n:Int),(∀ l∈ls,PartOk l)→1≤n→n≤1073741825→1≤lastN n ls∧lastN n ls≤1073741825
 | [],n,_,h1,h2=>⟨h1,h2⟩
 |l::r,n,h,h1,h2=>by
  have hs:=partOk_size (h l (by simp))
  have hm:=mul_small h1 h2 hs.1 hs.2
  rw[lastN]
  refine lastN_bound r _ (fun x hx=>h x (by simp[hx])) ?_ ?_ <;> split <;> omega
abbrev envLs (row:List PV) (P:PV) (len i n:Int):Tr:=((((Tr.lf.set 9 (.pv (i64 i))).set 8 (.pv (i64 len))).set 7 (.pv P)).set 3 (.pv (i64 n))).set 1 (.pv (.rp row 0))
theorem last_run {e:PV} {s:Shp} {P:PV} {ps:List PV} (h:HeldShp e s P ps) (hok:∀ l∈s.parts,PartOk l) (hf:0≤s.first∧s.first≤1073741823):F_scheme_last [e]=some (i64 (lastS s)):=by
 obtain⟨rfl,hP⟩:=h
 have hb:=lastN_bound s.parts 1 hok (by omega) (by omega)
 have hsz:=hP.sz
 have hloop:wpO (fun r=>∃ E H,r=(.exit 0,⟨E,H⟩)∧E.get 3= .pv (i64 (lastN 1 s.parts))∧E.get 1= .pv (.rp [P,i64 s.first] 0))
  (loopA (roundA (evalC (callL (fun _=>none) 8) b_scheme_last_l0) (clean 0 [1,3,7,8,9])) rounds ⟨envLs [P,i64 s.first] P s.parts.length 0 1,[]⟩):=by
  refine wpO_mono (loopN_wp (g:=roundA (evalC (callL (fun _=>none) 8) b_scheme_last_l0) (clean 0 [1,3,7,8,9]))
   (fun i t=>∃ n,t=⟨envLs [P,i64 s.first] P s.parts.length i n,[]⟩∧1≤n∧n≤1073741825∧lastN 1 s.parts=lastN n (s.parts.drop i))
   s.parts.length (by unfold rounds;unfold maxLen at hsz;omega) _ ⟨1,rfl,by omega,by omega,rfl⟩ ?_ ?_) (fun r h=>h.2)
  ·rintro i t hi ⟨n,rfl,h1,h2,hs⟩
   obtain⟨v,hv,hPl,hpt⟩:=hP.get hi
   have hd:s.parts.drop i=s.parts[i]::s.parts.drop (i+1):=List.drop_eq_getElem_cons hi
   have hpo:=hok s.parts[i] (List.getElem_mem hi)
   have hss:=spans_size_run v s.parts[i] hpt.is hpt.sz hpo.2
   have hsb:=partOk_size hpo
   rw[hd,lastN] at hs
   generalize s.parts[i]=l at *
   have hm:=mul_small h1 h2 hsb.1 hsb.2
   have e1:decide ((i:Int) < (s.parts.length:Int))=true:=dec_t (by omega)
   have t2:=stepWrap hi hsz
   have t3:IntKind.i64.wrap (n * sizeR 0 l)=n * sizeR 0 l:=wrap_int (by omega)
   have hq:i < ps.length:=by rw[hP.len];exact hi
   have hcl:v.cells=[v]:=by rcases hpt.is with⟨h,_⟩ | h <;> rw[h] <;> rfl
   have a1:iaddrA' [] 1 (.pv P) (i:Int)=some (.pv (.rp [v] 0)):=by
    rw[hPl]
    simp only[iaddrA']
    rw[if_pos (by unfold idxOk;simp;omega),Int.toNat_natCast,hv]
    simp[hcl]
   have a2:loadA [] false 1 (.pv (.rp [v] 0))=some (.pv v):=rfl
   generalize hQ:LN _ _ i=Q
   simp (implicitDefEqProofs:=false) only[SP,SA,WP,sevalprocAttr,-List.reduceReplicate,b_scheme_last_l0,e1,t2,t3,a1,a2,hss,bestA,bestOf,clean,cutEnv,AV.cut,deep_eq',envLs]
   subst hQ
   exact⟨_,rfl,by split <;> omega,by split <;> omega,hs⟩
  ·rintro t ⟨n,rfl,h1,h2,hs⟩
   rw[List.drop_length,lastN] at hs
   have e1:decide ((s.parts.length:Int) < (s.parts.length:Int))=false:=dec_f (by omega)
   generalize hQ:(fun r:Ex×St=>r.1.stop=true∧_)=Q
   simp (implicitDefEqProofs:=false) only[SP,SA,WP,sevalprocAttr,-List.reduceReplicate,b_scheme_last_l0,e1,envLs]
   subst hQ
   exact⟨rfl,_,_,rfl,by simp[Tr.get_set,hs],by simp[Tr.get_set]⟩
 obtain⟨r,h1,E,H,rfl,hE,hE1⟩:=wpO_spec hloop
 have ls:=hP.lenA
 simp only[envLs] at h1
 have h1':loopA (roundA (evalC (callL (fun _=>none) 8) b_scheme_last_l0) (clean 0 [1,3,7,8,9])) rounds ⟨((((Tr.lf.set 9 (.pv (.int .i64 0))).set 8 (.pv (.int .i64 s.parts.length))).set 7 (.pv P)).set 3 (.pv (.int .i64 1))).set 1 (.pv (.rp [P,i64 s.first] 0)),[]⟩=some (.exit 0,⟨E,H⟩):=h1
 unfold lastS
 generalize lastN 1 s.parts=n at *
 have t1:IntKind.i64.wrap (s.first+n)=s.first+n:=wrap_int (by omega)
 have t2:IntKind.i64.wrap (s.first+n - 1)=s.first+n - 1:=wrap_int (by omega)
 have hPv:∃ sz es,P= .nils∨P= .lit sz es:=by rcases hP.is with⟨h,_⟩ | h;exact⟨0,[],.inl h⟩;exact⟨_,_,.inr h⟩
 obtain⟨sz,es,rfl | rfl⟩:=hPv <;>
 simp (implicitDefEqProofs:=false) only[F_scheme_last,SP,SA,SQ,WP,WQ,sevalprocAttr,-List.reduceReplicate,b_scheme_last,C_loop,ls,h1',hE,hE1,t1,t2]
theorem none_run (call:CallF) {v:PV} {l:List (Int×Int)} (h:HeldPart v l) (H:List AObj):runF call b_scheme_none [.pv v] H=some (.pv (.bool (!decide (PartOk l))),H):=by
 have ls:=h.is.len
 simp only[prs,List.length_map] at ls
 have hv:=spans_valid_run v l h.is h.sz
 by_cases h0:l=[]
 ·have e1:((l.length:Int)==0)=true:=by simp[h0]
  have e2:(!decide (PartOk l))=true:=by
   have:¬PartOk l:=fun hp=>hp.1 h0
   simp[this]
  rw[e2]
  simp (implicitDefEqProofs:=false) only[SP,SA,SQ,WP,WQ,sevalprocAttr,-List.reduceReplicate,b_scheme_none,ls,e1]
 ·have e1:((l.length:Int)==0)=false:=by
   have:l.length≠0:=fun e=>h0 (List.eq_nil_of_length_eq_zero e)
   exact beq_ne (by omega)
  have e2:(!decide (PartOk l))= !(validR 255 (-2) l):=by
   congr 1
   rw[Bool.eq_iff_iff];simp[PartOk,h0]
  rw[e2]
  simp (implicitDefEqProofs:=false) only[SP,SA,SQ,WP,WQ,sevalprocAttr,-List.reduceReplicate,b_scheme_none,ls,e1,hv]
def badIx (ls:List (List (Int×Int))) (i:Nat):Int:=
 match ls with
 | []=> -1
 |l::r=>if PartOk l then badIx r (i+1) else i
theorem badIx_neg:∀ (ls:List (List (Int×Int))) (i:Nat),decide (badIx ls i≥0)= !decide (∀ l∈ls,PartOk l)
 | [],i=>by simp[badIx]
 |l::r,i=>by
  rw[badIx]
  by_cases h:PartOk l
  ·rw[if_pos h,badIx_neg r];simp[h]
  ·rw[if_neg h];simp[h]
abbrev envIx (P:PV) (len i:Int):Tr:=(((Tr.lf.set 8 (.pv (i64 i))).set 7 (.pv (i64 len))).set 1 (.clo 7 [])).set 0 (.pv P)
theorem index_run {P:PV} {ls:List (List (Int×Int))} {ps:List PV} (hP:HeldParts P ls ps) (d:Nat) (H:List AObj) (hH:HGood H):
 runF (callL t_scheme_Valid (d+1)) b_slices_IndexFunc_api_Span_api_Span [.pv P,.clo 7 []] H=some (.pv (i64 (badIx ls 0)),H):=by
 have hsz:=hP.sz
 have lsn:=hP.lenA
 have hcut:=HGood.cut hH
 have h7:t_scheme_Valid 7=some b_scheme_none:=rfl
 apply wpO_eq
 have hloop:wpO (fun r=>∃ E,(r=(.exit 0,⟨E,H⟩)∧badIx ls 0= -1)∨(r=(.ret,⟨E,H⟩)∧E.get 4= .pv (i64 (badIx ls 0))))
  (loopA (roundA (evalC (callL t_scheme_Valid (d+1)) b_slices_IndexFunc_api_Span_api_Span_l0) (clean H.length [0,1,7,8])) rounds ⟨envIx P ls.length 0,H⟩):=by
  refine wpO_mono (loopN_wp (g:=roundA (evalC (callL t_scheme_Valid (d+1)) b_slices_IndexFunc_api_Span_api_Span_l0) (clean H.length [0,1,7,8]))
   (fun i t=>t=⟨envIx P ls.length i,H⟩∧badIx ls 0=badIx (ls.drop i) i)
   ls.length (by unfold rounds;unfold maxLen at hsz;omega) _ ⟨rfl,rfl⟩ ?_ ?_) (fun r h=>h.2)
  ·rintro i t hi ⟨rfl,hs⟩
   obtain⟨v,hv,hPl,hpt⟩:=hP.get hi
   have hd:ls.drop i=ls[i]::ls.drop (i+1):=List.drop_eq_getElem_cons hi
   rw[hd,badIx] at hs
   have hn:=none_run (callL t_scheme_Valid d) hpt H
   generalize ls[i]=l at *
   have e1:decide ((i:Int) < (ls.length:Int))=true:=dec_t (by omega)
   have t2:=stepWrap hi hsz
   have hq:i < ps.length:=by rw[hP.len];exact hi
   have hcl:v.cells=[v]:=by rcases hpt.is with⟨h,_⟩ | h <;> rw[h] <;> rfl
   have a1:iaddrA' H 1 (.pv P) (i:Int)=some (.pv (.rp [v] 0)):=by
    rw[hPl]
    simp only[iaddrA']
    rw[if_pos (by unfold idxOk;simp;omega),Int.toNat_natCast,hv]
    simp[hcl]
   have a2:loadA H false 1 (.pv (.rp [v] 0))=some (.pv v):=rfl
   generalize hQ:LN _ _ i=Q
   by_cases hok:PartOk l
   ·rw[if_pos hok] at hs
    rw[decide_eq_true hok] at hn
    simp (implicitDefEqProofs:=false) only[SP,SA,WP,sevalprocAttr,-List.reduceReplicate,b_slices_IndexFunc_api_Span_api_Span_l0,e1,t2,a1,a2,h7,hn,hcut,List.take_length,clean,cutEnv,AV.cut,deep_eq',envIx]
    subst hQ
    exact⟨rfl,hs⟩
   ·rw[if_neg hok] at hs
    rw[decide_eq_false hok] at hn
    simp (implicitDefEqProofs:=false) only[SP,SA,WP,sevalprocAttr,-List.reduceReplicate,b_slices_IndexFunc_api_Span_api_Span_l0,e1,t2,a1,a2,h7,hn,hcut,List.take_length,clean,cutEnv,AV.cut,deep_eq',envIx]
    subst hQ
    exact⟨_,.inr ⟨rfl,by simp[Tr.get_set,hs]⟩⟩
  ·rintro t ⟨rfl,hs⟩
   rw[List.drop_length,badIx] at hs
   have e1:decide ((ls.length:Int) < (ls.length:Int))=false:=dec_f (by omega)
   generalize hQ:(fun r:Ex×St=>r.1.stop=true∧_)=Q
   simp (implicitDefEqProofs:=false) only[SP,SA,WP,sevalprocAttr,-List.reduceReplicate,b_slices_IndexFunc_api_Span_api_Span_l0,e1,envIx]
   subst hQ
   exact⟨rfl,_,.inl ⟨rfl,hs⟩⟩
 simp (implicitDefEqProofs:=false) only[SP,SA,WP,sevalprocAttr,-List.reduceReplicate,b_slices_IndexFunc_api_Span_api_Span,C_loop,lsn,hcut,List.take_length,clean,cutEnv,AV.cut,deep_eq']
 refine wpO_mono hloop ?_
 rintro _ ⟨E,⟨rfl,hb⟩ | ⟨rfl,hE⟩⟩
 ·simp (implicitDefEqProofs:=false) only[SP,SA,WP,sevalprocAttr,-List.reduceReplicate,hb]
 ·simp (implicitDefEqProofs:=false) only[SP,SA,WP,sevalprocAttr,-List.reduceReplicate,hE]
theorem contains_run {P:PV} {ls:List (List (Int×Int))} {ps:List PV} (hP:HeldParts P ls ps) (d:Nat) (H:List AObj) (hH:HGood H):
 runF (callL t_scheme_Valid (d+2)) b_slices_ContainsFunc_api_Span_api_Span [.pv P,.clo 7 []] H=some (.pv (.bool (!decide (∀ l∈ls,PartOk l))),H):=by
 have h:=index_run hP d H hH
 have h5:t_scheme_Valid 5=some b_slices_IndexFunc_api_Span_api_Span:=rfl
 have hb:=badIx_neg ls 0
 simp (implicitDefEqProofs:=false) only[SP,SA,WP,sevalprocAttr,-List.reduceReplicate,b_slices_ContainsFunc_api_Span_api_Span,h5,h,hb]
end Go.AM.B1
namespace Go.AM.B1
open Go.AM Go.AM.So
structure ShpOk (s:Shp):Prop where
 lo:1≤s.parts.length
 hi:s.parts.length≤8
 f0:0≤s.first
 f1:s.first≤1073741823
 parts:∀ l∈s.parts,PartOk l
 last:lastS s≤1073741823
def Apart (s t:Shp):Prop:=∀ x,¬((s.first≤x∧x≤lastS s)∧(t.first≤x∧x≤lastS t))
structure SchOk (ss:List Shp):Prop where
 len:ss.length≤32
 shp:∀ s∈ss,ShpOk s
 apart:ss.Pairwise Apart
theorem ShpOk.rng {s:Shp} (h:ShpOk s):s.first≤lastS s:=by
 have:=(lastN_bound s.parts 1 h.parts (by omega) (by omega)).1
 unfold lastS;omega
structure VInv (ss:List Shp) (i:Nat) (v:PV) (u:List (Int×Int)):Prop where
 is:IsL 2 v (prs u)
 val:validR topM (-2) u=true
 len:u.length≤i
 mem:∀ x,memR x u↔∃ s∈ss.take i,s.first≤x∧x≤lastS s
 shp:∀ s∈ss.take i,ShpOk s
 apart:(ss.take i).Pairwise Apart
abbrev envVd (S v:PV) (len i:Int):Tr:=(((Tr.lf.set 14 (.pv (i64 i))).set 13 (.pv (i64 len))).set 12 (.pv S)).set 3 (.pv v)
theorem box2_store (x y u v:AV) (hu:u.one=true) (hv:v.one=true) (A:List AObj) (e:PV) (he:(AV.pv e).cells=[u,v]):storeA (A++[.box [x,y]]) 2 (.ptr A.length 0) (.pv e)=some (A++[.box [u,v]]):=by
 simp only[storeA,he,get_top,set_top,List.length_cons,List.length_nil,List.all,hu,hv]
 simp[setRow]
section
variable {S:PV} {ss:List Shp} {es:List PV} (hS:HeldSch S ss es) (hl:ss.length≤32)
include hS hl
omit hl in
theorem valid_round_bad {i:Nat} (hi:i < ss.length) (v:PV) (hbad:¬ShpOk ss[i]):
 ∃ E H,roundA (evalC (callL t_scheme_Valid 8) b_scheme_Valid_l0) (clean 0 [3,12,13,14]) ⟨envVd S v ss.length i,[]⟩=some (.ret,⟨E,H⟩)∧E.get 2= .pv (.bool false):=by
 obtain⟨e,P,ps,he,hSl,hsh⟩:=hS.get hi
 obtain⟨rfl,hP⟩:=hsh
 generalize hs:ss[i]=s at *
 have hq:i < es.length:=by rw[hS.len];exact hi
 have e1:decide ((i:Int) < (ss.length:Int))=true:=dec_t (by omega)
 have a1:iaddrA' [] 2 (.pv S) (i:Int)=some (.pv (.rp [P,i64 s.first] 0)):=by
  rw[hSl]
  simp only[iaddrA']
  rw[if_pos (by unfold idxOk;simp;omega),Int.toNat_natCast,he];rfl
 have a2:loadA [] true 2 (.pv (.rp [P,i64 s.first] 0))=some (.pv (.agg [P,i64 s.first])):=rfl
 have hP1:(AV.pv P).one=true:=by rcases hP.is with⟨h,_⟩ | h <;> rw[h] <;> rfl
 have s1:storeA [.box [.pv .nils,.pv (i64 0)]] 2 (.ptr 0 0) (.pv (.agg [P,i64 s.first]))=some [.box [.pv P,.pv (i64 s.first)]]:=box2_store _ _ _ _ hP1 rfl [] _ rfl
 have p0:place [.box [.pv P,.pv (i64 s.first)]] 0 (.ptr 0 0)=some (.ptr 0 0):=rfl
 have p1:place [.box [.pv P,.pv (i64 s.first)]] 1 (.ptr 0 0)=some (.ptr 0 1):=rfl
 have l0:loadA [.box [.pv P,.pv (i64 s.first)]] false 1 (.ptr 0 0)=some (.pv P):=rfl
 have l1:loadA [.box [.pv P,.pv (i64 s.first)]] false 1 (.ptr 0 1)=some (.pv (i64 s.first)):=rfl
 have l2:loadA [.box [.pv P,.pv (i64 s.first)]] true 2 (.ptr 0 0)=some (.pv (.agg [P,i64 s.first])):=rfl
 have hg:HGood [.box [.pv P,.pv (i64 s.first)]]:=by
  intro n _ o ho;simp at ho;subst ho;simp[cutObj,mapO,cut_pv]
 have hct:=contains_run hP 5 [.box [.pv P,.pv (i64 s.first)]] hg
 have h6:t_scheme_Valid 6=some b_slices_ContainsFunc_api_Span_api_Span:=rfl
 have lA:=hP.lenA
 have key:wpO (fun r=>∃ E H,r=(.ret,⟨E,H⟩)∧E.get 2= .pv (.bool false)) (roundA (evalC (callL t_scheme_Valid 8) b_scheme_Valid_l0) (clean 0 [3,12,13,14]) ⟨envVd S v ss.length i,[]⟩):=by
  generalize hQ:(fun r:Ex×St=>_)=Q
  by_cases c1:s.parts.length < 1
  ·have d1:decide ((s.parts.length:Int) < 1)=true:=dec_t (by omega)
   simp (implicitDefEqProofs:=false) only[SP,SA,WP,sevalprocAttr,-List.reduceReplicate,b_scheme_Valid_l0,e1,a1,a2,s1,p0,p1,l0,l1,lA,d1,envVd]
   subst hQ;exact⟨_,_,rfl,by simp[Tr.get_set]⟩
  have d1:decide ((s.parts.length:Int) < 1)=false:=dec_f (by omega)
  by_cases c2:s.parts.length > 8
  ·have d2:decide ((s.parts.length:Int) > 8)=true:=dec_t (by omega)
   simp (implicitDefEqProofs:=false) only[SP,SA,WP,sevalprocAttr,-List.reduceReplicate,b_scheme_Valid_l0,e1,a1,a2,s1,p0,p1,l0,l1,lA,d1,d2,envVd]
   subst hQ;exact⟨_,_,rfl,by simp[Tr.get_set]⟩
  have d2:decide ((s.parts.length:Int) > 8)=false:=dec_f (by omega)
  by_cases c3:s.first < 0
  ·have d3:decide (s.first < 0)=true:=dec_t c3
   simp (implicitDefEqProofs:=false) only[SP,SA,WP,sevalprocAttr,-List.reduceReplicate,b_scheme_Valid_l0,e1,a1,a2,s1,p0,p1,l0,l1,lA,d1,d2,d3,envVd]
   subst hQ;exact⟨_,_,rfl,by simp[Tr.get_set]⟩
  have d3:decide (s.first < 0)=false:=dec_f c3
  by_cases c4:s.first > 1073741823
  ·have d4:decide (s.first > 1073741823)=true:=dec_t c4
   simp (implicitDefEqProofs:=false) only[SP,SA,WP,sevalprocAttr,-List.reduceReplicate,b_scheme_Valid_l0,e1,a1,a2,s1,p0,p1,l0,l1,lA,d1,d2,d3,d4,envVd]
   subst hQ;exact⟨_,_,rfl,by simp[Tr.get_set]⟩
  have d4:decide (s.first > 1073741823)=false:=dec_f c4
  by_cases c5:∀ l∈s.parts,PartOk l
  ·have hlast:=last_run (e:= .agg [P,i64 s.first]) ⟨rfl,hP⟩ c5 (by omega)
   rw[decide_eq_true c5] at hct
   have c6:lastS s > 1073741823:=by
    rcases Int.lt_or_le 1073741823 (lastS s) with h | h
    ·exact h
    ·exact absurd (ShpOk.mk (by omega) (by omega) (by omega) (by omega) c5 h) hbad
   have d6:decide (lastS s > 1073741823)=true:=dec_t c6
   have i0:∀ H (x y:Int),iaddrA' H 2 (.pv (.lit 2 [.agg [i64 x,i64 y]])) 0=some (.pv (.rp [i64 x,i64 y] 0)):=fun H x y=>rfl
   have q1:∀ H (x y:PV),place H 1 (.pv (.rp [x,y] 0))=some (.pv (.rp [x,y] 1)):=fun H x y=>rfl
   have m1:∀ H (x y:PV),loadA H false 1 (.pv (.rp [x,y] 1))=some (.pv y):=fun H x y=>rfl
   simp (implicitDefEqProofs:=false) only[SP,SA,WP,sevalprocAttr,-List.reduceReplicate,setRow,b_scheme_Valid_l0,e1,a1,a2,s1,p0,p1,l0,l1,l2,lA,d1,d2,d3,d4,h6,hct,hlast,i0,q1,m1,d6,envVd]
   subst hQ;exact⟨_,_,rfl,by simp[Tr.get_set]⟩
  ·rw[decide_eq_false c5] at hct
   simp (implicitDefEqProofs:=false) only[SP,SA,WP,sevalprocAttr,-List.reduceReplicate,b_scheme_Valid_l0,e1,a1,a2,s1,p0,p1,l0,l1,lA,d1,d2,d3,d4,h6,hct,envVd]
   subst hQ;exact⟨_,_,rfl,by simp[Tr.get_set]⟩
 obtain⟨r,h1,E,H,rfl,h2⟩:=wpO_spec key
 exact⟨E,H,h1,h2⟩
theorem valid_round_ok {i:Nat} (hi:i < ss.length) {v:PV} {u:List (Int×Int)} (hv:VInv ss i v u) (hok:ShpOk ss[i]):
 wpO (fun r=>(∃ E H,r=(.ret,⟨E,H⟩)∧E.get 2= .pv (.bool false)∧∃ s∈ss.take i,¬Apart s ss[i])∨(∃ v' u',r=(.norm,⟨envVd S v' ss.length (i+1:Nat),[]⟩)∧VInv ss (i+1) v' u'))
  (roundA (evalC (callL t_scheme_Valid 8) b_scheme_Valid_l0) (clean 0 [3,12,13,14]) ⟨envVd S v ss.length i,[]⟩):=by
 obtain⟨e,P,ps,he,hSl,hsh⟩:=hS.get hi
 obtain⟨rfl,hP⟩:=hsh
 have htake:ss.take (i+1)=ss.take i++[ss[i]]:=List.take_succ_eq_append_getElem hi
 generalize hs:ss[i]=s at *
 have hq:i < es.length:=by rw[hS.len];exact hi
 have e1:decide ((i:Int) < (ss.length:Int))=true:=dec_t (by omega)
 have t2:=stepWrap hi hS.sz
 have a1:iaddrA' [] 2 (.pv S) (i:Int)=some (.pv (.rp [P,i64 s.first] 0)):=by
  rw[hSl]
  simp only[iaddrA']
  rw[if_pos (by unfold idxOk;simp;omega),Int.toNat_natCast,he];rfl
 have a2:loadA [] true 2 (.pv (.rp [P,i64 s.first] 0))=some (.pv (.agg [P,i64 s.first])):=rfl
 have hP1:(AV.pv P).one=true:=by rcases hP.is with⟨h,_⟩ | h <;> rw[h] <;> rfl
 have s1:storeA [.box [.pv .nils,.pv (i64 0)]] 2 (.ptr 0 0) (.pv (.agg [P,i64 s.first]))=some [.box [.pv P,.pv (i64 s.first)]]:=box2_store _ _ _ _ hP1 rfl [] _ rfl
 have p0:place [.box [.pv P,.pv (i64 s.first)]] 0 (.ptr 0 0)=some (.ptr 0 0):=rfl
 have p1:place [.box [.pv P,.pv (i64 s.first)]] 1 (.ptr 0 0)=some (.ptr 0 1):=rfl
 have l0:loadA [.box [.pv P,.pv (i64 s.first)]] false 1 (.ptr 0 0)=some (.pv P):=rfl
 have l1:loadA [.box [.pv P,.pv (i64 s.first)]] false 1 (.ptr 0 1)=some (.pv (i64 s.first)):=rfl
 have l2:loadA [.box [.pv P,.pv (i64 s.first)]] true 2 (.ptr 0 0)=some (.pv (.agg [P,i64 s.first])):=rfl
 have hg:HGood [.box [.pv P,.pv (i64 s.first)]]:=by
  intro n _ o ho;simp at ho;subst ho;simp[cutObj,mapO,cut_pv]
 have hct:=contains_run hP 5 [.box [.pv P,.pv (i64 s.first)]] hg
 rw[decide_eq_true hok.parts] at hct
 have h6:t_scheme_Valid 6=some b_slices_ContainsFunc_api_Span_api_Span:=rfl
 have lA:=hP.lenA
 have d1:decide ((s.parts.length:Int) < 1)=false:=dec_f (by have:=hok.lo;omega)
 have d2:decide ((s.parts.length:Int) > 8)=false:=dec_f (by have:=hok.hi;omega)
 have d3:decide (s.first < 0)=false:=dec_f (by have:=hok.f0;omega)
 have d4:decide (s.first > 1073741823)=false:=dec_f (by have:=hok.f1;omega)
 have hlast:=last_run (e:= .agg [P,i64 s.first]) ⟨rfl,hP⟩ hok.parts ⟨hok.f0,hok.f1⟩
 have d6:decide (lastS s > 1073741823)=false:=dec_f (by have:=hok.last;omega)
 have i0:∀ H (x y:Int),iaddrA' H 2 (.pv (.lit 2 [.agg [i64 x,i64 y]])) 0=some (.pv (.rp [i64 x,i64 y] 0)):=fun H x y=>rfl
 have q1:∀ H (x y:PV),place H 1 (.pv (.rp [x,y] 0))=some (.pv (.rp [x,y] 1)):=fun H x y=>rfl
 have m1:∀ H (x y:PV),loadA H false 1 (.pv (.rp [x,y] 1))=some (.pv y):=fun H x y=>rfl
 have hvr:validR topM (-2) [(s.first,lastS s)]=true:=by
  rw[validR_one];have:=hok.rng;have:=hok.f0;have:=hok.last;unfold topM;simp only;omega
 have hmt:=scalars_meet_run v (.lit 2 [.agg [i64 s.first,i64 (lastS s)]]) u [(s.first,lastS s)] hv.is (.inr rfl) hv.val hvr (by have:=hv.len;simp;omega)
 obtain⟨u',hun,hv1,hv2,hv3⟩:=union_run v (.lit 2 [.agg [i64 s.first,i64 (lastS s)]]) u [(s.first,lastS s)] hv.is (.inr rfl) hv.val hvr (by have:=hv.len;simp;omega)
 have hms:=meetR_some hv.val hvr
 have hml:∀ l:List (Int×Int),(prs l).length=l.length:=fun l=>by simp
 generalize meetR (u.length+[(s.first,lastS s)].length) u [(s.first,lastS s)]=mm at *
 have hvv:(AV.pv v).cells=[.pv v]:=by rcases hv.is with⟨h,_⟩ | h <;> rw[h] <;> rfl
 generalize hQ:(fun r:Ex×St=>_)=Q
 by_cases c7:mm=[]
 ·have d7:decide ((mm.length:Int) > 0)=false:=dec_f (by rw[c7];simp)
  have hno:¬∃ x,memR x u∧memR x [(s.first,lastS s)]:=fun h=>(hms.2 h) c7
  simp (implicitDefEqProofs:=false) only[SP,SA,WP,sevalprocAttr,-List.reduceReplicate,setRow,b_scheme_Valid_l0,e1,t2,a1,a2,s1,p0,p1,l0,l1,l2,lA,d1,d2,d3,d4,h6,hct,hlast,i0,q1,m1,d6,hmt,hml,d7,hun,clean,cutEnv,AV.cut,cutObj,List.take_zero,deep_eq',envVd]
  subst hQ
  refine .inr ⟨_,u',rfl,.inr rfl,hv1,by have:=hv.len;simp at hv3;omega,fun x=> ?_,?_,?_⟩
  ·rw[hv2,memR_one,hv.mem,htake]
   constructor
   ·rintro (⟨t,ht,hx⟩ | hx)
    ·exact⟨t,by simp[ht],hx⟩
    ·exact⟨s,by simp,hx⟩
   ·rintro⟨t,ht,hx⟩
    rcases List.mem_append.1 ht with h | h
    ·exact .inl ⟨t,h,hx⟩
    ·simp at h;subst h;exact .inr hx
  ·intro t ht
   rw[htake] at ht
   rcases List.mem_append.1 ht with h | h
   ·exact hv.shp t h
   ·simp at h;subst h;exact hok
  ·rw[htake,List.pairwise_append]
   refine⟨hv.apart,by simp,fun t ht w hw x hx=> ?_⟩
   simp at hw;subst hw
   exact hno ⟨x,(hv.mem x).2 ⟨t,ht,hx.1⟩,(memR_one _ _).2 hx.2⟩
 ·have d7:decide ((mm.length:Int) > 0)=true:=dec_t (by have:mm.length≠0:=fun e=>c7 (List.eq_nil_of_length_eq_zero e);omega)
  obtain⟨x,hx1,hx2⟩:=hms.1 c7
  simp (implicitDefEqProofs:=false) only[SP,SA,WP,sevalprocAttr,-List.reduceReplicate,setRow,b_scheme_Valid_l0,e1,a1,a2,s1,p0,p1,l0,l1,l2,lA,d1,d2,d3,d4,h6,hct,hlast,i0,q1,m1,d6,hmt,hml,d7,envVd]
  subst hQ
  obtain⟨t,ht,hx3⟩:=(hv.mem x).1 hx1
  exact .inl ⟨_,_,rfl,by simp[Tr.get_set],t,ht,fun h=>h x ⟨hx3,(memR_one _ _).1 hx2⟩⟩
end
theorem scheme_valid_run {S:PV} {ss:List Shp} {es:List PV} (hS:HeldSch S ss es):∃ b,F_scheme_Valid [.agg [S]]=some (.bool b)∧(b=true↔SchOk ss):=by
 have lA:=hS.lenA
 by_cases hl:ss.length≤32
 ·have e0:decide ((ss.length:Int) > 32)=false:=dec_f (by omega)
  have hloop:wpO (fun r=>∃ E H,(r=(.exit 0,⟨E,H⟩)∧SchOk ss)∨(r=(.ret,⟨E,H⟩)∧E.get 2= .pv (.bool false)∧¬SchOk ss))
   (loopA (roundA (evalC (callL t_scheme_Valid 8) b_scheme_Valid_l0) (clean 0 [3,12,13,14])) rounds ⟨envVd S .nils ss.length 0,[]⟩):=by
   refine wpO_mono (loopN_wp (g:=roundA (evalC (callL t_scheme_Valid 8) b_scheme_Valid_l0) (clean 0 [3,12,13,14]))
    (fun i t=>∃ v u,t=⟨envVd S v ss.length i,[]⟩∧VInv ss i v u)
    ss.length (by unfold rounds;omega) _ ⟨.nils,[],rfl,.inl ⟨rfl,rfl⟩,rfl,by simp,fun x=>by simp[memR_nil],by simp,by simp⟩ ?_ ?_) (fun r h=>h.2)
   ·rintro i t hi ⟨v,u,rfl,hv⟩
    by_cases hok:ShpOk ss[i]
    ·refine wpO_mono (valid_round_ok hS hl hi hv hok) ?_
     rintro r (⟨E,H,rfl,hE,s,hs,hna⟩ | ⟨v',u',rfl,hv'⟩)
     ·refine⟨E,H,.inr ⟨rfl,hE,fun h=>hna ?_⟩⟩
      obtain⟨j,hj,rfl⟩:=List.mem_take_iff_getElem.1 hs
      have:=List.pairwise_iff_getElem.1 h.apart j i (by omega) hi (by omega)
      exact this
     ·exact⟨v',u',rfl,hv'⟩
    ·obtain⟨E,H,h1,h2⟩:=valid_round_bad hS hi v hok
     exact wpO_of h1 ⟨E,H,.inr ⟨rfl,h2,fun h=>hok (h.shp _ (List.getElem_mem hi))⟩⟩
   ·rintro t ⟨v,u,rfl,hv⟩
    have e1:decide ((ss.length:Int) < (ss.length:Int))=false:=dec_f (by omega)
    have hfin:SchOk ss:=⟨hl,by have:=hv.shp;rwa [List.take_length] at this,by have:=hv.apart;rwa [List.take_length] at this⟩
    generalize hQ:(fun r:Ex×St=>r.1.stop=true∧_)=Q
    simp (implicitDefEqProofs:=false) only[SP,SA,WP,sevalprocAttr,-List.reduceReplicate,b_scheme_Valid_l0,e1,envVd]
    subst hQ
    exact⟨rfl,_,_,.inl ⟨rfl,hfin⟩⟩
  obtain⟨r,h1,E,H,h2⟩:=wpO_spec hloop
  have h1':loopA (roundA (evalC (callL t_scheme_Valid 8) b_scheme_Valid_l0) (clean 0 [3,12,13,14])) rounds ⟨(((Tr.lf.set 14 (.pv (.int .i64 0))).set 13 (.pv (.int .i64 ss.length))).set 12 (.pv S)).set 3 (.pv .nils),[]⟩=some r:=h1
  have hSv:∃ sz es,S= .nils∨S= .lit sz es:=by rcases hS.is with⟨h,_⟩ | h;exact⟨0,[],.inl h⟩;exact⟨_,_,.inr h⟩
  rcases h2 with⟨rfl,hok⟩ | ⟨rfl,hE,hno⟩
  ·refine⟨true,?_,by simp[hok]⟩
   obtain⟨sz,es,rfl | rfl⟩:=hSv <;>
   simp (implicitDefEqProofs:=false) only[F_scheme_Valid,SP,SA,SQ,WP,WQ,sevalprocAttr,-List.reduceReplicate,b_scheme_Valid,C_loop,lA,e0,h1']
  ·refine⟨false,?_,by simp[hno]⟩
   obtain⟨sz,es,rfl | rfl⟩:=hSv <;>
   simp (implicitDefEqProofs:=false) only[F_scheme_Valid,SP,SA,SQ,WP,WQ,sevalprocAttr,-List.reduceReplicate,b_scheme_Valid,C_loop,lA,e0,h1',hE]
 ·have e0:decide ((ss.length:Int) > 32)=true:=dec_t (by omega)
  refine⟨false,?_,by simp;exact fun h=>hl h.len⟩
  have hSv:∃ sz es,S= .nils∨S= .lit sz es:=by rcases hS.is with⟨h,_⟩ | h;exact⟨0,[],.inl h⟩;exact⟨_,_,.inr h⟩
  obtain⟨sz,es,rfl | rfl⟩:=hSv <;>
  simp (implicitDefEqProofs:=false) only[F_scheme_Valid,SP,SA,SQ,WP,WQ,sevalprocAttr,-List.reduceReplicate,b_scheme_Valid,C_loop,lA,e0]
end Go.AM.B1
namespace Go.AM.B1
open Go.AM Go.AM.So
theorem HeldShp.one {e:PV} {s:Shp} {P:PV} {ps:List PV} (h:HeldShp e s P ps):HeldSch (.lit 2 [e]) [s] [e]:=by
 refine⟨.inr rfl,rfl,?_,by simp[maxLen]⟩
 intro k e' s' h1 h2
 match k,h1,h2 with
 |0,h1,h2=>simp at h1 h2;subst h1 h2;exact⟨P,ps,h⟩
 |k+1,h1,h2=>simp at h1
theorem schOk_one {s:Shp}:SchOk [s]↔ShpOk s:=⟨fun h=>h.shp s (by simp),fun h=>⟨by simp,by simpa using h,by simp⟩⟩
theorem HeldShp.Pone {e:PV} {s:Shp} {P:PV} {ps:List PV} (h:HeldShp e s P ps):(AV.pv P).one=true∧P.cells=[P]:=by
 rcases h.parts.is with⟨h,_⟩ | h <;> rw[h] <;> exact⟨rfl,rfl⟩
theorem shape_valid_run {e:PV} {s:Shp} {P:PV} {ps:List PV} (h:HeldShp e s P ps):∃ b,F_shape_Valid [e]=some (.bool b)∧(b=true↔ShpOk s):=by
 obtain⟨b,h1,h2⟩:=scheme_valid_run h.one
 refine⟨b,?_,h2.trans schOk_one⟩
 obtain⟨hP1,hP2⟩:=h.Pone
 have heq:=h.eq
 subst heq
 rcases h.parts.is with⟨rfl,_⟩ | rfl <;>
 simp (implicitDefEqProofs:=false) only[F_shape_Valid,SP,SA,SQ,WP,WQ,sevalprocAttr,-List.reduceReplicate,b_shape_Valid,h1]
theorem HeldParts.iaddr {P:PV} {ls:List (List (Int×Int))} {ps:List PV} (hP:HeldParts P ls ps) {i:Nat} (hi:i < ls.length) (H:List AObj):∃ v,ps[i]? =some v∧HeldPart v ls[i]∧iaddrA' H 1 (.pv P) (i:Int)=some (.pv (.rp [v] 0)):=by
 obtain⟨v,hv,hPl,hpt⟩:=hP.get hi
 refine⟨v,hv,hpt,?_⟩
 have hq:i < ps.length:=by rw[hP.len];exact hi
 have hcl:v.cells=[v]:=by rcases hpt.is with⟨h,_⟩ | h <;> rw[h] <;> rfl
 rw[hPl]
 simp only[iaddrA']
 rw[if_pos (by unfold idxOk;simp;omega),Int.toNat_natCast,hv]
 simp[hcl]
theorem HeldParts.iaddrU {P:PV} {ls:List (List (Int×Int))} {ps:List PV} (hP:HeldParts P ls ps) {i:Nat} {v:PV} (hv:ps[i]? =some v) (H:List AObj):iaddrA' H 1 (.pv P) (i:Int)=some (.pv (.rp [v] 0)):=by
 have hi:i < ls.length:=by rw[← hP.len];exact (List.getElem?_eq_some_iff.1 hv).1
 obtain⟨w,hw,_,h⟩:=hP.iaddr hi H
 rw[hv] at hw;injection hw with hw;subst hw;exact h
def meetAt (p q:List (List (Int×Int))) (i:Nat):List (Int×Int):=match p[i]?,q[i]? with
 |some a,some b=>meetR (a.length+b.length) a b
 |_,_=>[]
def commonR (p q:List (List (Int×Int))):Nat→Nat→Option (List Int)
 |0,_=>some []
 |n+1,i=>match meetAt p q i with
  | []=>none
  |m::_=>(commonR p q n (i+1)).map (m.1:: ·)
abbrev envCm (rp rq:List PV) (n i:Int) (tk:Nat) (nl:Bool) (es:List PV):Tr:=((((Tr.lf.set 35 (.pv (i64 i))).set 34 (.pv (i64 n))).set 8 (.uq tk nl 1 es)).set 4 (.pv (.rp rq 0))).set 3 (.pv (.rp rp 0))
theorem byte_append {A:List AObj} {id n bytes:Nat} {nl:Bool} {h:Hold} {es:List PV} (hg:A[id]? =some (.tok 1 n nl)) (hn:n=es.length) (hr:roomOk (n+1) bytes) (e:PV):
 appendA A false h 1 false bytes (.uq id nl 1 es) (.pv (.lit 1 [e]))=some (.uq id false 1 (es++[e]),A.set id (.tok 1 (n+1) false)):=uq_append hg hn hr e
theorem common_run {e f:PV} {p q:Shp} {P Q:PV} {ps qs:List PV} (hp:HeldShp e p P ps) (hq:HeldShp f q Q qs) (op:ShpOk p) (oq:ShpOk q) {n:Nat} (hn:n≤p.parts.length) (hn2:n≤q.parts.length):
 (commonR p.parts q.parts n 0=none→F_shape_Common [e,f,i64 n]=some (.tup [.nils,.bool false]))∧
 (∀ bs,commonR p.parts q.parts n 0=some bs→∃ v,F_shape_Common [e,f,i64 n]=some (.tup [v,.bool true])∧IsL 1 v (bs.map (PV.int .u8))∧bs.length=n∧∀ b∈bs,0≤b∧b≤255):=by
 obtain⟨b1,hb1,hb1'⟩:=shape_valid_run hp
 obtain⟨b2,hb2,hb2'⟩:=shape_valid_run hq
 have:b1=true:=hb1'.2 op
 subst this
 have:b2=true:=hb2'.2 oq
 subst this
 obtain⟨hP1,hP2⟩:=hp.Pone
 obtain⟨hQ1,hQ2⟩:=hq.Pone
 have heq:=hp.eq
 have hfq:=hq.eq
 subst heq hfq
 have h8:=op.hi
 have lP:=hp.parts.lenA
 have lQ:=hq.parts.lenA
 have hloop:wpO (fun r=>∃ E H,(r=(.ret,⟨E,H⟩)∧E.get 6= .pv .nils∧E.get 7= .pv (.bool false)∧commonR p.parts q.parts n 0=none)∨(∃ nl bs,r=(.exit 0,⟨E,H⟩)∧E.get 8= .uq 0 nl 1 (bs.map (PV.int .u8))∧(nl=true→bs=[])∧commonR p.parts q.parts n 0=some bs∧bs.length=n∧∀ b∈bs,0≤b∧b≤255))
  (loopA (roundA (evalC (callL (fun _=>none) 8) b_shape_Common_l0) (clean 1 [3,4,8,34,35])) rounds ⟨envCm [P,i64 p.first] [Q,i64 q.first] n 0 0 true [],[.tok 1 0 true]⟩):=by
  refine wpO_mono (loopN_wp (g:=roundA (evalC (callL (fun _=>none) 8) b_shape_Common_l0) (clean 1 [3,4,8,34,35]))
   (fun i t=>∃ nl bs,t=⟨envCm [P,i64 p.first] [Q,i64 q.first] n i 0 nl (bs.map (PV.int .u8)),[.tok 1 i nl]⟩∧bs.length=i∧(nl=true→bs=[])∧(∀ b∈bs,0≤b∧b≤255)∧commonR p.parts q.parts n 0=(commonR p.parts q.parts (n - i) i).map (bs++ ·))
   n (by unfold rounds;omega) _ ⟨true,[],rfl,rfl,fun _=>rfl,by simp,by cases commonR p.parts q.parts n 0 <;> simp[*]⟩ ?_ ?_) (fun r h=>h.2)
  ·rintro i t hi ⟨nl,bs,rfl,hlen,hnl,hby,hs⟩
   obtain⟨v,hv,hpv,_⟩:=hp.parts.iaddr (i:=i) (by omega) []
   obtain⟨w,hw,hqw,_⟩:=hq.parts.iaddr (i:=i) (by omega) []
   have a1:=hp.parts.iaddrU hv
   have a2:=hq.parts.iaddrU hw
   have okv:=op.parts _ (List.getElem_mem (show i < p.parts.length by omega))
   have okw:=oq.parts _ (List.getElem_mem (show i < q.parts.length by omega))
   have hmt:=spans_meet_run v w _ _ hpv.is hqw.is okv.2 okw.2 (by
    have:=(sizeR_bound okv.2).2.1 okv.1
    have h1:=hpv.sz
    have h2:=hqw.sz
    have k1:=validR_len okv.2
    have k2:=validR_len okw.2
    omega)
   have hlaw:=meetR_law _ _ _ (-2) (-2) okv.2 okw.2 (Nat.le_refl _)
   have hmA:meetAt p.parts q.parts i=meetR (p.parts[i].length+q.parts[i].length) p.parts[i] q.parts[i]:=by
    unfold meetAt
    rw[List.getElem?_eq_getElem (show i < p.parts.length by omega),List.getElem?_eq_getElem (show i < q.parts.length by omega)]
   obtain⟨m,hm⟩:∃ m,n - i=m+1:=⟨n - i - 1,by omega⟩
   have hm':n - (i+1)=m:=by omega
   rw[hm,commonR,hmA] at hs
   have hme:=validR_all okv.2
   generalize p.parts[i]=lv at *
   generalize q.parts[i]=lw at *
   generalize meetR (lv.length+lw.length) lv lw=mm at *
   have e1:decide ((i:Int) < (n:Int))=true:=dec_t (by omega)
   have t2:=stepWrap (i:=i) (n:=n) hi (by unfold maxLen;omega)
   have lm:∀ H,lenA H 0 (.pv (.lit 2 (prs mm)))=some mm.length:=fun H=>by simp[lenA]
   have r0:∀ H (x y:PV),loadA H false 1 (.pv (.rp [x,y] 0))=some (.pv x):=fun H x y=>rfl
   have r1:∀ H (x:PV),loadA H false 1 (.pv (.rp [x] 0))=some (.pv x):=fun H x=>rfl
   have q0:∀ H (x y:PV),place H 0 (.pv (.rp [x,y] 0))=some (.pv (.rp [x,y] 0)):=fun H x y=>rfl
   generalize hQ:LN _ _ i=QQ
   cases mm with
   |nil=>
    have z1:(((0:Nat):Int)==0)=true:=by decide
    simp only[Option.map_none] at hs
    simp (implicitDefEqProofs:=false) only[SP,SA,WP,sevalprocAttr,-List.reduceReplicate,b_shape_Common_l0,e1,a1,a2,r0,r1,q0,hmt,lm,z1,envCm]
    subst hQ
    exact⟨_,_,.inl ⟨rfl,by simp[Tr.get_set],by simp[Tr.get_set],hs⟩⟩
   |cons m0 mm=>
    have z1:(((mm.length+1:Nat):Int)==0)=false:=beq_ne (by omega)
    have i0:∀ H,iaddrA' H 2 (.pv (.lit 2 (prs (m0::mm)))) 0=some (.pv (.rp [i64 m0.1,i64 m0.2] 0)):=fun H=>lit_iaddr H (i:=0) (l:=m0::mm) (by simp)
    have hb0:0≤m0.1∧m0.1≤255:=by
     have hmem:=(hlaw.1 m0.1).1 ⟨m0,by simp,Int.le_refl _,hlaw.2 m0 (by simp)⟩
     obtain⟨pp,hpp,h1,h2⟩:=hmem.1
     have:=hme pp hpp;omega
    have t3:IntKind.u8.wrap m0.1=m0.1:=wrap_u8 hb0
    have hap:=byte_append (A:=[.tok 1 i nl]) (id:=0) (n:=i) (h:= .uq) (nl:=nl) (bytes:=1) (es:=bs.map (PV.int .u8)) rfl (by simp[hlen]) (by unfold roomOk;omega) (.int .u8 m0.1)
    rw[List.set_cons_zero] at hap
    have lm':∀ H,lenA H 0 (.pv (.lit 2 (prs (m0::mm))))=some (mm.length+1):=lm
    have hbm:(bs++[m0.1]).map (PV.int .u8)=bs.map (PV.int .u8)++[.int .u8 m0.1]:=by simp
    generalize prs (m0::mm)=L at *
    simp (implicitDefEqProofs:=false) only[SP,WP,setRow,sevalprocAttr,-List.reduceReplicate,b_shape_Common_l0,e1,t2,t3,a1,a2,r0,r1,q0,hmt,lm',z1,i0,hap,clean,cutEnv,AV.cut,cutObj,deep_eq',envCm]
    subst hQ
    refine⟨false,bs++[m0.1],by rw[hbm],by simp[hlen],by simp,?_,?_⟩
    ·intro b hb
     rcases List.mem_append.1 hb with h | h
     ·exact hby b h
     ·simp at h;subst h;exact hb0
    ·rw[hs,hm']
     cases commonR p.parts q.parts m (i+1) <;> simp
  ·rintro t ⟨nl,bs,rfl,hlen,hnl,hby,hs⟩
   rw[Nat.sub_self,commonR] at hs
   have e1:decide ((n:Int) < (n:Int))=false:=dec_f (by omega)
   generalize hQ:(fun r:Ex×St=>r.1.stop=true∧_)=QQ
   simp (implicitDefEqProofs:=false) only[SP,SA,WP,sevalprocAttr,-List.reduceReplicate,b_shape_Common_l0,e1,envCm]
   subst hQ
   exact⟨rfl,_,_,.inr ⟨nl,bs,rfl,by simp[Tr.get_set],hnl,by rw[hs];simp,hlen,hby⟩⟩
 obtain⟨r,h1,E,H,h2⟩:=wpO_spec hloop
 have h1':loopA (roundA (evalC (callL (fun _=>none) 8) b_shape_Common_l0) (clean 1 [3,4,8,34,35])) rounds ⟨((((Tr.lf.set 35 (.pv (.int .i64 0))).set 34 (.pv (i64 n))).set 8 (.uq 0 true 1 [])).set 4 (.pv (.rp [Q,i64 q.first] 0))).set 3 (.pv (.rp [P,i64 p.first] 0)),[.tok 1 0 true]⟩=some r:=h1
 have d0:decide ((n:Int) < 0)=false:=dec_f (by omega)
 have d1:decide ((n:Int) > (if (q.parts.length:Int) < (p.parts.length:Int) then (q.parts.length:Int) else (p.parts.length:Int)))=false:=dec_f (by split <;> omega)
 have hz:(0 < 1)=True:=by simp
 have r2:∀ H (x y:PV),loadA H true 2 (.pv (.rp [x,y] 0))=some (.pv (.agg [x,y])):=fun H x y=>rfl
 have r0:∀ H (x y:PV),loadA H false 1 (.pv (.rp [x,y] 0))=some (.pv x):=fun H x y=>rfl
 have q0:∀ H (x y:PV),place H 0 (.pv (.rp [x,y] 0))=some (.pv (.rp [x,y] 0)):=fun H x y=>rfl
 rcases h2 with⟨rfl,h6,h7,hnone⟩ | ⟨nl,bs,rfl,h8',hnl,hsome,hlen,hby⟩
 ·refine⟨fun _=> ?_,fun bs hbs=>by rw[hnone] at hbs;cases hbs⟩
  simp (implicitDefEqProofs:=false) only[F_shape_Common,SP,SA,WP,sevalprocAttr,-List.reduceReplicate,b_shape_Common,C_loop,hP1,hQ1,r2,r0,q0,hb1,hb2,lP,lQ,bestA,bestOf,d0,d1,ghostA,hz,clean,cutEnv,AV.cut,cutObj,deep_eq',h1',h6,h7]
 ·refine⟨fun hn=>(by rw[hsome] at hn;cases hn),fun bs' hbs=> ?_⟩
  rw[hsome] at hbs;injection hbs with hbs;subst hbs
  cases nl with
  |true=>
   have:=hnl rfl;subst this
   refine⟨.nils,?_,.inl ⟨rfl,rfl⟩,hlen,hby⟩
   simp (implicitDefEqProofs:=false) only[F_shape_Common,SP,SA,WP,sevalprocAttr,-List.reduceReplicate,b_shape_Common,C_loop,hP1,hQ1,r2,r0,q0,hb1,hb2,lP,lQ,bestA,bestOf,d0,d1,ghostA,hz,clean,cutEnv,AV.cut,cutObj,deep_eq',h1',h8']
  |false=>
   refine⟨.lit 1 (bs.map (PV.int .u8)),?_,.inr rfl,hlen,hby⟩
   simp (implicitDefEqProofs:=false) only[F_shape_Common,SP,SA,WP,sevalprocAttr,-List.reduceReplicate,b_shape_Common,C_loop,hP1,hQ1,r2,r0,q0,hb1,hb2,lP,lQ,bestA,bestOf,d0,d1,ghostA,hz,clean,cutEnv,AV.cut,cutObj,deep_eq',h1',h8']
end Go.AM.B1
namespace Go.AM.B1
open Go.AM Go.AM.So
def prodS:List (List (Int×Int))→Int
 | []=>1
 |l::r=>prodS r * sizeR 0 l
theorem prodS_pos:∀ {ls:List (List (Int×Int))},(∀ l∈ls,PartOk l)→1≤prodS ls
 | [],_=>by simp[prodS]
 |l::r,h=>by
  have h1:=prodS_pos (ls:=r) fun x hx=>h x (by simp[hx])
  have h2:=(partOk_size (h l (by simp))).1
  rw[prodS]
  have:=Int.mul_le_mul h1 h2 (by omega) (by omega);omega
theorem lastN_prod:∀ (ls:List (List (Int×Int))) (n:Int),(∀ l∈ls,PartOk l)→1≤n→n≤1073741825→lastN n ls=if 1073741825 < n * prodS ls then 1073741825 else n * prodS ls
 | [],n,_,h1,h2=>by rw[lastN,prodS,Int.mul_one,if_neg (by omega)]
 |l::r,n,h,h1,h2=>by
  have hs:=partOk_size (h l (by simp))
  have hm:=mul_small h1 h2 hs.1 hs.2
  have hp:=prodS_pos (ls:=r) fun x hx=>h x (by simp[hx])
  have e:n * (prodS r * sizeR 0 l)=(n * sizeR 0 l) * prodS r:=by rw[Int.mul_comm (prodS r),Int.mul_assoc]
  rw[lastN,prodS,e]
  by_cases hc:1073741825 < n * sizeR 0 l
  ·rw[if_pos hc,lastN_prod r _ (fun x hx=>h x (by simp[hx])) (by omega) (by omega)]
   have h3:n * sizeR 0 l * 1≤n * sizeR 0 l * prodS r:=Int.mul_le_mul_of_nonneg_left hp (by omega)
   rw[if_pos (show 1073741825 < n * sizeR 0 l * prodS r by omega)]
   split
   ·rfl
   ·have h4:1073741825 * 1≤1073741825 * prodS r:=Int.mul_le_mul_of_nonneg_left hp (by omega)
    omega
  ·rw[if_neg hc,lastN_prod r _ (fun x hx=>h x (by simp[hx])) (by omega) (by omega)]
theorem ShpOk.prod {s:Shp} (h:ShpOk s):lastN 1 s.parts=prodS s.parts∧prodS s.parts≤1073741824:=by
 have h1:=lastN_prod s.parts 1 h.parts (by omega) (by omega)
 have h2:=h.last
 have h3:=h.f0
 unfold lastS at h2
 rw[Int.one_mul] at h1
 split at h1
 ·omega
 ·exact⟨h1,by omega⟩
theorem ShpOk.lastS {s:Shp} (h:ShpOk s):B1.lastS s=s.first+prodS s.parts - 1:=by
 unfold B1.lastS;rw[h.prod.1]
theorem prodS_drop {ls:List (List (Int×Int))} (h:∀ l∈ls,PartOk l) (i:Nat):prodS (ls.drop i)≤prodS ls:=by
 induction ls generalizing i with
 |nil=>simp
 |cons l r ih=>
  cases i with
  |zero=>simp
  |succ i=>
   rw[List.drop_succ_cons,prodS]
   have h1:=ih (fun x hx=>h x (by simp[hx])) i
   have h2:=(partOk_size (h l (by simp))).1
   have hp:=prodS_pos (ls:=r) fun x hx=>h x (by simp[hx])
   have:prodS r * 1≤prodS r * sizeR 0 l:=Int.mul_le_mul_of_nonneg_left h2 (by omega)
   omega
def iobj (l:List Int) (fl:Nat) (nl:Bool):AObj:= .seq 1 false (rowA l) fl nl
section
variable {A:List AObj} {id n fl:Nat} {nl:Bool} {l:List Int} (hg:A[id]? =some (iobj l fl nl)) (hn:n=l.length) (hf:fl≤n)
include hg hn
theorem iobj_iaddr (hf:fl≤n) {i:Int} {k:Nat} (hi:i=(k:Int)) (hk:k < n):iaddrA' A 1 (.own id n) i=some (.eptr id n k):=by
 have:=rowA_len l
 subst hi
 simp only[iaddrA',hg,iobj]
 rw[if_pos (by refine⟨trivial,?_,?_⟩ <;> first | (unfold idxOk;omega) | (unfold winOk;omega))]
 simp
theorem iobj_store {k:Nat} (hk:k < n) (v:Int):storeA A 1 (.eptr id n k) (.pv (i64 v))=some (A.set id (iobj (l.set k v) n nl)):=by
 have hl:=rowA_len l
 have hc:(AV.pv (i64 v)).cells=[.pv (i64 v)]:=rfl
 simp only[storeA,hg,iobj,hc]
 rw[if_pos ⟨rfl,rfl⟩,if_pos ⟨by omega,by omega⟩,setRow,setRow,rowA_set]
theorem iobj_toPV (d:Nat):toPV A (d+1) (.own id n)=some (if nl then .nils else .lit 1 (l.map i64)):=by
 have hl:=rowA_len l
 subst hn
 simp only[toPV,hg,iobj]
 have hm:mapO (toPV A d) (rowA l)=some (l.map i64):=by rw[rowA_map,mapO_pv]
 have hck:∀ l:List Int,chunk 1 false l.length (l.map i64)=l.map i64:=by
  intro l
  induction l with
  |nil=>rfl
  |cons a l ih=>simp only[List.map_cons,List.length_cons,chunk,Bool.false_eq_true,if_false,List.headD_cons,List.drop_succ_cons,List.drop_zero];rw[ih]
 rw[if_pos ⟨by omega,by rfl⟩,hm]
 cases nl with
 |true=>rfl
 |false=>simp only[Bool.false_eq_true,if_false,Option.map_some,hck]
end
theorem iobj_cut (l:List Int) (fl:Nat) (nl:Bool) (n:Nat):cutObj n (iobj l fl nl)=some (iobj l fl nl):=by
 have:(rowA l).all (AV.keep n deep)=true:=by
  rw[List.all_eq_true]
  intro v hv
  obtain⟨p,_,rfl⟩:=List.mem_map.1 hv
  rfl
 simp[cutObj,iobj,this]
def stepL (ls:List (List (Int×Int))) (i:Nat):List Int:=(List.range (ls.length+1)).map fun j=>if i < j then prodS (ls.drop j) else 0
theorem stepL_len (ls:List (List (Int×Int))) (i:Nat):(stepL ls i).length=ls.length+1:=by simp[stepL]
theorem stepL_set (ls:List (List (Int×Int))) (i:Nat) (hi:i < ls.length):(stepL ls (i+1)).set (i+1) (prodS (ls.drop (i+1)))=stepL ls i:=by
 apply List.ext_getElem
 ·simp[stepL]
 ·intro j h1 h2
  rw[List.getElem_set]
  simp only[stepL,List.getElem_map,List.getElem_range]
  by_cases hj:i+1=j
  ·subst hj;simp
  ·rw[if_neg hj]
   by_cases h:i+1 < j
   ·rw[if_pos h,if_pos (by omega)]
   ·rw[if_neg h,if_neg (by omega)]
def stepsR (ls:List (List (Int×Int))):List Int:=(List.range (ls.length+1)).map fun j=>prodS (ls.drop j)
theorem stepL_zero (ls:List (List (Int×Int))):(stepL ls 0).set 0 (prodS ls)=stepsR ls:=by
 apply List.ext_getElem
 ·simp[stepL,stepsR]
 ·intro j h1 h2
  rw[List.getElem_set]
  simp only[stepL,stepsR,List.getElem_map,List.getElem_range]
  by_cases hj:0=j
  ·subst hj;simp
  ·rw[if_neg hj,if_pos (by omega)]
abbrev envSt (row:List PV) (m:Nat) (n i:Int):Tr:=(((Tr.lf.set 5 (.pv (i64 i))).set 4 (.pv (i64 n))).set 3 (.own 0 m)).set 1 (.pv (.rp row 0))
theorem steps_run {e:PV} {s:Shp} {P:PV} {ps:List PV} (h:HeldShp e s P ps) (hok:ShpOk s):F_shape_steps [e]=some (.lit 1 ((stepsR s.parts).map i64)):=by
 obtain⟨hP1,hP2⟩:=h.Pone
 have heq:=h.eq
 subst heq
 have hP:=h.parts
 have lP:=hP.lenA
 have h8:=hok.hi
 have hpr:=hok.prod.2
 have hloop:wpO (fun r=>∃ E,r=(.exit 0,⟨E,[iobj (stepL s.parts 0) (s.parts.length+1) false]⟩)∧E.get 3= .own 0 (s.parts.length+1)∧E.get 4= .pv (i64 (prodS s.parts)))
  (loopA (roundA (evalC (callL (fun _=>none) 8) b_shape_steps_l0) (clean 1 [1,3,4,5])) rounds ⟨envSt [P,i64 s.first] (s.parts.length+1) 1 s.parts.length,[iobj (stepL s.parts s.parts.length) 0 false]⟩):=by
  refine wpO_mono (loopA_wp (g:=roundA (evalC (callL (fun _=>none) 8) b_shape_steps_l0) (clean 1 [1,3,4,5]))
   (fun i t=>∃ fl,i≤s.parts.length∧t=⟨envSt [P,i64 s.first] (s.parts.length+1) (prodS (s.parts.drop i)) i,[iobj (stepL s.parts i) fl false]⟩∧fl≤s.parts.length+1∧(i < s.parts.length∨s.parts.length=0→fl=s.parts.length+1∨s.parts.length=0))
   rounds s.parts.length _ (by unfold rounds;omega) ⟨0,Nat.le_refl _,by rw[List.drop_length];rfl,by omega,fun h=>by omega⟩ ?_) (fun r h=>h.2)
  rintro i t ⟨fl,hi,rfl,hfl,hfl2⟩
  cases i with
  |zero=>
   have h1:=hok.lo
   have:fl=s.parts.length+1:=by rcases hfl2 (.inl (by omega)) with h | h <;> omega
   subst this
   have e1:decide (((0:Nat):Int) > 0)=false:=by decide
   generalize hQ:LQ _ _ _=Q
   simp (implicitDefEqProofs:=false) only[SP,SA,WP,sevalprocAttr,-List.reduceReplicate,b_shape_steps_l0,e1,envSt]
   subst hQ
   exact⟨_,rfl,by simp[Tr.get_set],by simp[Tr.get_set]⟩
  |succ i=>
   have e1:decide (((i+1:Nat):Int) > 0)=true:=dec_t (by omega)
   have t1:IntKind.i64.wrap (((i+1:Nat):Int) - 1)=(i:Int):=by rw[wrap_int (by omega)];omega
   have hg:[iobj (stepL s.parts (i+1)) fl false][0]? =some (iobj (stepL s.parts (i+1)) fl false):=rfl
   have a1:=iobj_iaddr hg (n:=s.parts.length+1) (stepL_len _ _).symm hfl (i:=((i+1:Nat):Int)) rfl (by omega)
   have s1:=iobj_store hg (n:=s.parts.length+1) (stepL_len _ _).symm (k:=i+1) (by omega) (prodS (s.parts.drop (i+1)))
   rw[List.set_cons_zero,stepL_set s.parts i (by omega)] at s1
   obtain⟨v,hv,hpt,_⟩:=hP.iaddr (i:=i) (by omega) []
   have a2:=hP.iaddrU hv
   have hpo:=hok.parts s.parts[i] (List.getElem_mem (by omega))
   have hss:=spans_size_run v s.parts[i] hpt.is hpt.sz hpo.2
   have hd:s.parts.drop i=s.parts[i]::s.parts.drop (i+1):=List.drop_eq_getElem_cons (by omega)
   have hpd:prodS (s.parts.drop i)=prodS (s.parts.drop (i+1)) * sizeR 0 s.parts[i]:=by rw[hd,prodS]
   have hle:=prodS_drop hok.parts i
   have hpos:=prodS_pos (ls:=s.parts.drop i) fun x hx=>hok.parts x (List.mem_of_mem_drop hx)
   rw[hpd] at hle hpos
   generalize s.parts[i]=l at *
   have t3:IntKind.i64.wrap (prodS (s.parts.drop (i+1)) * sizeR 0 l)=prodS (s.parts.drop (i+1)) * sizeR 0 l:=wrap_int (by omega)
   have r0:∀ H (x y:PV),loadA H false 1 (.pv (.rp [x,y] 0))=some (.pv x):=fun H x y=>rfl
   have r1:∀ H (x:PV),loadA H false 1 (.pv (.rp [x] 0))=some (.pv x):=fun H x=>rfl
   have q0:∀ H (x y:PV),place H 0 (.pv (.rp [x,y] 0))=some (.pv (.rp [x,y] 0)):=fun H x y=>rfl
   have hcut:∀ l' fl',mapO (cutObj 1) [iobj l' fl' false]=some [iobj l' fl' false]:=fun l' fl'=>by simp[mapO,iobj_cut]
   have hz:(0 < 1)=True:=by simp
   have htk:∀ o:AObj,[o].take 1=[o]:=fun o=>rfl
   generalize hQ:LQ _ _ _=Q
   simp (implicitDefEqProofs:=false) only[SP,WP,setRow,sevalprocAttr,-List.reduceReplicate,b_shape_steps_l0,e1,t1,t3,a1,s1,a2,hss,r0,r1,q0,hcut,hz,htk,clean,cutEnv,AV.cut,deep_eq',envSt]
   subst hQ
   exact⟨i,by omega,s.parts.length+1,by omega,by rw[hpd],by omega,fun _=> .inl rfl⟩
 obtain⟨r,h1,E,rfl,hE3,hE4⟩:=wpO_spec hloop
 have h1':loopA (roundA (evalC (callL (fun _=>none) 8) b_shape_steps_l0) (clean 1 [1,3,4,5])) rounds ⟨(((Tr.lf.set 5 (.pv (i64 s.parts.length))).set 4 (.pv (.int .i64 1))).set 3 (.own 0 (s.parts.length+1))).set 1 (.pv (.rp [P,i64 s.first] 0)),[iobj (stepL s.parts s.parts.length) 0 false]⟩=_:=h1
 have hz0:AObj.seq 1 false (repZ [PV.int .i64 0] (s.parts.length+1)) 0 false=iobj (stepL s.parts s.parts.length) 0 false:=by
  rw[repZ_zero,iobj]
  congr 2
  apply List.ext_getElem
  ·simp[stepL]
  ·intro j hj1 hj2
   simp at hj1
   simp only[stepL,List.getElem_replicate,List.getElem_map,List.getElem_range]
   rw[if_neg (by omega)]
 have t1:IntKind.i64.wrap ((s.parts.length:Int)+1)=((s.parts.length+1:Nat):Int):=wrap_int (by omega)
 have e2:(0≤((s.parts.length+1:Nat):Int))=True:=by simp;omega
 have e3:(((s.parts.length+1:Nat):Int)≤((s.parts.length+1:Nat):Int))=True:=by simp
 have e4:roomOk (s.parts.length+1) 8:=by unfold roomOk;omega
 have hg:[iobj (stepL s.parts 0) (s.parts.length+1) false][0]? =some (iobj (stepL s.parts 0) (s.parts.length+1) false):=rfl
 have a1:=iobj_iaddr hg (n:=s.parts.length+1) (stepL_len _ _).symm (Nat.le_refl _) (i:=0) (k:=0) rfl (by omega)
 have s1:=iobj_store hg (n:=s.parts.length+1) (stepL_len _ _).symm (k:=0) (by omega) (prodS s.parts)
 rw[List.set_cons_zero,stepL_zero] at s1
 have hpv:=iobj_toPV (A:=[iobj (stepsR s.parts) (s.parts.length+1) false]) (id:=0) (n:=s.parts.length+1) rfl (by simp[stepsR]) 5
 rw[if_neg (by simp)] at hpv
 have r0:∀ H (x y:PV),loadA H false 1 (.pv (.rp [x,y] 0))=some (.pv x):=fun H x y=>rfl
 have q0:∀ H (x y:PV),place H 0 (.pv (.rp [x,y] 0))=some (.pv (.rp [x,y] 0)):=fun H x y=>rfl
 have hcut:∀ l' fl',mapO (cutObj 1) [iobj l' fl' false]=some [iobj l' fl' false]:=fun l' fl'=>by simp[mapO,iobj_cut]
 have hz:(0 < 1)=True:=by simp
 have htk:∀ o:AObj,[o].take 1=[o]:=fun o=>rfl
 generalize s.parts.length+1=m at *
 simp (implicitDefEqProofs:=false) only[F_shape_steps,SP,WP,setRow,sevalprocAttr,-List.reduceReplicate,b_shape_steps,C_loop,hP1,r0,q0,lP,t1,e2,e3,eq_true e4,hz0,hcut,hz,htk,clean,cutEnv,AV.cut,h1',hE3,hE4,a1,s1,hpv,deep_eq']
end Go.AM.B1
