/- Copies and comparisons; AutoBuilds: what the law computes. -/
import Derived.Test.YtolkahifidfgeaaU1
import Derived.Test.YtolkahifidfgeaaS2
import Derived.Test.YtolkahifidfgeaaS3
set_option linter.unusedVariables false
set_option linter.unusedSimpArgs false
namespace Go.AM.B1
open Go.AM Go.AM.So
attribute [local irreducible] wpO
structure HeldSz (ss:List Shp):Prop where
 len:ss.length * 32≤140737488355328
 parts:∀ s∈ss,s.parts.length * 24≤140737488355328
def cpL (ls:List (List (Int×Int))):List PV:=ls.map encPart
def cpP (ls:List (List (Int×Int))):PV:=if ls.isEmpty then .nils else .lit 1 (cpL ls)
def cpShp (s:Shp):PV:= .agg [cpP s.parts,i64 s.first]
def cpSs (ss:List Shp):List PV:=ss.map cpShp
def cpS (ss:List Shp):PV:=if ss.isEmpty then .nils else .lit 2 (cpSs ss)
abbrev eC1 (row:List PV) (i:Int):Tr:=(((Tr.lf.set 4 (.pv (i64 i))).set 3 (.ptr 1 0)).set 2 (.ptr 0 0)).set 1 (.pv (.rp row 0))
abbrev cbx (nl:Bool) (out:List PV) (first:Int):AObj:= .box [.uq 2 nl 1 out,.pv (i64 first)]
theorem copyshape_run {e:PV} {s:Shp} {P:PV} {ps:List PV} (h:HeldShp e s P ps) (hsz:s.parts.length * 24≤140737488355328):F_leadtrailref08_CopyShape [e]=some (cpShp s):=by
 obtain⟨rfl,hP⟩:=h
 have hP1:(AV.pv P).one=true:=by rcases hP.is with⟨h,_⟩ | h <;> rw[h] <;> rfl
 have ln:=hP.lenA
 have hc3:∀ nl out n,mapO (cutObj 3) [.box [.pv .nils,.pv (i64 0)],cbx nl out s.first,.tok 1 n nl]=some [.box [.pv .nils,.pv (i64 0)],cbx nl out s.first,.tok 1 n nl]:=fun nl out n=>rfl
 have htk3:∀ a b c d:AObj,([a,b,c,d]:List AObj).take 3=[a,b,c]:=fun a b c d=>rfl
 have htk3':∀ a b c:AObj,([a,b,c]:List AObj).take 3=[a,b,c]:=fun a b c=>rfl
 have d0:(0 < 3)=True:=by simp
 have d1:(1 < 3)=True:=by simp
 have hloop:wpO (fun r=>∃ E nl,r=(.exit 0,⟨E,[.box [.pv .nils,.pv (i64 0)],cbx s.parts.isEmpty (cpL s.parts) s.first,.tok 1 s.parts.length nl]⟩)∧E.get 2= .ptr 0 0∧E.get 3= .ptr 1 0)
  (loopA (roundA (evalC (callL (fun _=>none) 8) b_leadtrailref08_CopyShape_l0) (clean 3 [1,2,3,4])) rounds ⟨eC1 [P,i64 s.first] 0,[.box [.pv .nils,.pv (i64 0)],cbx true [] s.first,.tok 1 0 true]⟩):=by
  refine wpO_mono (loopN_wp (g:=roundA (evalC (callL (fun _=>none) 8) b_leadtrailref08_CopyShape_l0) (clean 3 [1,2,3,4]))
   (fun i t=>t=⟨eC1 [P,i64 s.first] i,[.box [.pv .nils,.pv (i64 0)],cbx (s.parts.take i).isEmpty (cpL (s.parts.take i)) s.first,.tok 1 i (s.parts.take i).isEmpty]⟩)
   s.parts.length (by unfold rounds;omega) _ rfl ?_ ?_) (fun r h=>h.2)
  ·rintro i t hi rfl
   obtain⟨v,hv,hpt,_⟩:=hP.iaddr hi []
   have a1:=hP.iaddrU hv
   have hnext:s.parts.take (i+1)=s.parts.take i++[s.parts[i]]:=by simp
   have hie:(s.parts.take (i+1)).isEmpty=false:=by rw[hnext];cases s.parts.take i <;> rfl
   have hcl:cpL (s.parts.take (i+1))=cpL (s.parts.take i)++[encPart s.parts[i]]:=by rw[hnext,cpL,List.map_append];rfl
   have hcn:(cpL (s.parts.take i)).length=i:=by rw[cpL,List.length_map,List.length_take];omega
   have hep:encPart s.parts[i]= .lit 2 (prs s.parts[i]):=rfl
   rw[hep] at hcl
   have hLN:∀ st:St,st=⟨eC1 [P,i64 s.first] (i+1:Nat),[.box [.pv .nils,.pv (i64 0)],cbx false (cpL (s.parts.take (i+1))) s.first,.tok 1 (i+1) false]⟩→
    LN (fun i t=>t=⟨eC1 [P,i64 s.first] i,[.box [.pv .nils,.pv (i64 0)],cbx (s.parts.take i).isEmpty (cpL (s.parts.take i)) s.first,.tok 1 i (s.parts.take i).isEmpty]⟩)
     (fun r=>∃ E nl,r=(.exit 0,⟨E,[.box [.pv .nils,.pv (i64 0)],cbx s.parts.isEmpty (cpL s.parts) s.first,.tok 1 s.parts.length nl]⟩)∧E.get 2= .ptr 0 0∧E.get 3= .ptr 1 0) i (.norm,st):=by
    intro st h
    show st=_
    rw[h,hie]
   generalize LN _ _ i=QQ at hLN ⊢
   have hpz:=hpt.sz
   have hpi:=hpt.is
   have hpl:(prs s.parts[i]).length=s.parts[i].length:=by simp[prs]
   generalize s.parts[i]=l at *
   generalize (s.parts.take i).isEmpty=nl at *
   have hap1:appendA [.box [.pv .nils,.pv (i64 0)],cbx nl (cpL (s.parts.take i)) s.first,.tok 1 i nl,.tok 2 0 false] false .uq 2 true 16 (.uq 3 false 2 []) (.pv v)=some (.uq 3 false 2 (prs l),[.box [.pv .nils,.pv (i64 0)],cbx nl (cpL (s.parts.take i)) s.first,.tok 1 i nl,.tok 2 l.length false]):=by
    rcases hpi with⟨h1,h2⟩ | h1
    ·have:l.length=0:=by rw[← hpl,h2];rfl
     rw[h1,h2,this];rfl
    ·rw[h1]
     simp only[appendA,Bool.false_eq_true,if_false,List.getElem?_cons_succ,List.getElem?_cons_zero,elemsP,if_true,Option.bind_some]
     rw[if_pos ⟨trivial,trivial,rfl,by rw[hpl];unfold roomOk;simp;exact hpz⟩]
     simp[hpl]
   have hap2:appendA [.box [.pv .nils,.pv (i64 0)],cbx nl (cpL (s.parts.take i)) s.first,.tok 1 i nl,.tok 2 l.length false] false .uq 1 false 24 (.uq 2 nl 1 (cpL (s.parts.take i))) (.pv (.lit 1 [.lit 2 (prs l)]))=some (.uq 2 false 1 (cpL (s.parts.take (i+1))),[.box [.pv .nils,.pv (i64 0)],cbx nl (cpL (s.parts.take i)) s.first,.tok 1 (i+1) false,.tok 2 l.length false]):=by
    have:=uq_append (A:=[.box [.pv .nils,.pv (i64 0)],cbx nl (cpL (s.parts.take i)) s.first,.tok 1 i nl,.tok 2 l.length false]) (id:=2) (n:=i) (sz:=1) (h:= .uq) (nl:=nl) (ag:=false) (bytes:=24) (es:=cpL (s.parts.take i)) rfl hcn.symm (by unfold roomOk;omega) (.lit 2 (prs l))
    rw[this,hcl];rfl
   have e1:decide ((i:Int) < (s.parts.length:Int))=true:=dec_t (by omega)
   have t2:IntKind.i64.wrap ((i:Int)+1)=((i+1:Nat):Int):=wrap_int (by omega)
   generalize cpL (s.parts.take i)=o at *
   generalize cpL (s.parts.take (i+1))=o' at *
   generalize prs l=es at *
   have pl:∀ c d,place [.box [.pv .nils,.pv (i64 0)],cbx nl o s.first,c,d] 0 (.ptr 1 0)=some (.ptr 1 0):=fun c d=>rfl
   have pl':∀ c,place [.box [.pv .nils,.pv (i64 0)],cbx nl o s.first,c] 0 (.ptr 1 0)=some (.ptr 1 0):=fun c=>rfl
   have ld:∀ c,loadA [.box [.pv .nils,.pv (i64 0)],cbx nl o s.first,c] false 1 (.ptr 1 0)=some (.uq 2 nl 1 o):=fun c=>rfl
   have st:∀ c d,storeA [.box [.pv .nils,.pv (i64 0)],cbx nl o s.first,c,d] 1 (.ptr 1 0) (.uq 2 false 1 o')=some [.box [.pv .nils,.pv (i64 0)],cbx false o' s.first,c,d]:=fun c d=>rfl
   have hc3':=hc3 false o' (i+1)
   simp (implicitDefEqProofs:=false) only[SP,WP,setRow,sevalprocAttr,-List.reduceReplicate,b_leadtrailref08_CopyShape_l0,rp2_place,rp2_load,ln,e1,t2,a1,rp1_load,pl,pl',ld,st,hap1,hap2,hc3',htk3,d0,d1,partE,AV.pvu,AV.pvu1,clean,cutEnv,AV.cut,deep_eq',eC1]
   exact hLN _ rfl
  ·rintro t rfl
   rw[List.take_length]
   have e1:decide ((s.parts.length:Int) < (s.parts.length:Int))=false:=dec_f (by omega)
   generalize cpL s.parts=o
   generalize s.parts.isEmpty=nl
   generalize hQ:(fun r:Ex×St=>r.1.stop=true∧_)=Q
   simp (implicitDefEqProofs:=false) only[SP,WP,setRow,sevalprocAttr,-List.reduceReplicate,b_leadtrailref08_CopyShape_l0,rp2_place,rp2_load,ln,e1,eC1]
   subst hQ
   exact⟨rfl,_,nl,rfl,by simp[Tr.get_set],by simp[Tr.get_set]⟩
 have st0:storeA [.box [.pv .nils,.pv (i64 0)],.box [.pv .nils,.pv (i64 0)]] 2 (.ptr 1 0) (.pv (.agg [.nils,i64 s.first]))=some [.box [.pv .nils,.pv (i64 0)],.box [.pv .nils,.pv (i64 s.first)]]:=rfl
 have g1:(0 < 1)=True:=by simp
 have hc30:=hc3 true [] 0
 have ld1:∀ nl out c,loadA [.box [.pv .nils,.pv (i64 0)],cbx nl out s.first,c] true 2 (.ptr 1 0)=some (.agg [.uq 2 nl 1 out,.pv (i64 s.first)]):=fun nl out c=>rfl
 have st1:∀ nl out b c,storeA [.box [.pv .nils,.pv (i64 0)],b,c] 2 (.ptr 0 0) (.agg [.uq 2 nl 1 out,.pv (i64 s.first)])=some [cbx nl out s.first,b,c]:=fun nl out b c=>rfl
 have ld2:∀ nl out b c,loadA [cbx nl out s.first,b,c] true 2 (.ptr 0 0)=some (.agg [.uq 2 nl 1 out,.pv (i64 s.first)]):=fun nl out b c=>rfl
 apply wpO_eq
 unfold cpShp cpP
 generalize cpL s.parts=o at *
 generalize s.parts.isEmpty=em at *
 simp (implicitDefEqProofs:=false) only[F_leadtrailref08_CopyShape,SP,WP,setRow,sevalprocAttr,-List.reduceReplicate,b_leadtrailref08_CopyShape,hP1,rp2_place,rp2_place1,rp2_load,rp2_load1,st0,ghostA,g1,C_loop,hc30,htk3',d0,d1,clean,cutEnv,AV.cut,deep_eq']
 refine wpO_mono hloop ?_
 rintro r ⟨E,nl,rfl,k2,k3⟩
 cases em <;> simp (implicitDefEqProofs:=false) only[SP,WP,setRow,sevalprocAttr,-List.reduceReplicate,k2,k3,ld1,st1,ld2]
abbrev eC2 (row:List PV) (i:Int):Tr:=(((Tr.lf.set 4 (.pv (i64 i))).set 3 (.ptr 1 0)).set 2 (.ptr 0 0)).set 1 (.pv (.rp row 0))
abbrev cbs (nl:Bool) (out:List PV):AObj:= .box [.uq 2 nl 2 out]
theorem copy8_run {S:PV} {ss:List Shp} {es:List PV} (hS:HeldSch S ss es) (hz:HeldSz ss):F_leadtrailref08_Copy [.agg [S]]=some (.agg [cpS ss]):=by
 have hS1:(AV.pv S).one=true:=by rcases hS.is with⟨h,_⟩ | h <;> rw[h] <;> rfl
 have ln:=hS.lenA
 have hzl:=hz.len
 have hc3:∀ nl out n,mapO (cutObj 3) [.box [.pv .nils],cbs nl out,.tok 2 n nl]=some [.box [.pv .nils],cbs nl out,.tok 2 n nl]:=fun nl out n=>rfl
 have htk3:∀ a b c:AObj,([a,b,c]:List AObj).take 3=[a,b,c]:=fun a b c=>rfl
 have d0:(0 < 3)=True:=by simp
 have d1:(1 < 3)=True:=by simp
 have hloop:wpO (fun r=>∃ E nl,r=(.exit 0,⟨E,[.box [.pv .nils],cbs ss.isEmpty (cpSs ss),.tok 2 ss.length nl]⟩)∧E.get 2= .ptr 0 0∧E.get 3= .ptr 1 0)
  (loopA (roundA (evalC (callL (fun _=>none) 8) b_leadtrailref08_Copy_l0) (clean 3 [1,2,3,4])) rounds ⟨eC2 [S] 0,[.box [.pv .nils],cbs true [],.tok 2 0 true]⟩):=by
  refine wpO_mono (loopN_wp (g:=roundA (evalC (callL (fun _=>none) 8) b_leadtrailref08_Copy_l0) (clean 3 [1,2,3,4]))
   (fun i t=>t=⟨eC2 [S] i,[.box [.pv .nils],cbs (ss.take i).isEmpty (cpSs (ss.take i)),.tok 2 i (ss.take i).isEmpty]⟩)
   ss.length (by unfold rounds;omega) _ rfl ?_ ?_) (fun r h=>h.2)
  ·rintro i t hi rfl
   obtain⟨P,ps,hP,a1⟩:=hS.iaddr hi
   have hcs:=copyshape_run hP (hz.parts _ (List.getElem_mem hi))
   have hnext:ss.take (i+1)=ss.take i++[ss[i]]:=by simp
   have hie:(ss.take (i+1)).isEmpty=false:=by rw[hnext];cases ss.take i <;> rfl
   have hcl:cpSs (ss.take (i+1))=cpSs (ss.take i)++[cpShp ss[i]]:=by rw[hnext,cpSs,List.map_append];rfl
   have hcn:(cpSs (ss.take i)).length=i:=by rw[cpSs,List.length_map,List.length_take];omega
   have hep:cpShp ss[i]= .agg [cpP ss[i].parts,i64 ss[i].first]:=rfl
   rw[hep] at hcl hcs
   have hLN:∀ st:St,st=⟨eC2 [S] (i+1:Nat),[.box [.pv .nils],cbs false (cpSs (ss.take (i+1))),.tok 2 (i+1) false]⟩→
    LN (fun i t=>t=⟨eC2 [S] i,[.box [.pv .nils],cbs (ss.take i).isEmpty (cpSs (ss.take i)),.tok 2 i (ss.take i).isEmpty]⟩)
     (fun r=>∃ E nl,r=(.exit 0,⟨E,[.box [.pv .nils],cbs ss.isEmpty (cpSs ss),.tok 2 ss.length nl]⟩)∧E.get 2= .ptr 0 0∧E.get 3= .ptr 1 0) i (.norm,st):=by
    intro st h
    show st=_
    rw[h,hie]
   generalize LN _ _ i=QQ at hLN ⊢
   have hpo:(AV.pv (cpP ss[i].parts)).one=true:=by unfold cpP;split <;> rfl
   generalize cpP ss[i].parts=pv at *
   generalize ss[i].first=fi at *
   generalize (ss.take i).isEmpty=nl at *
   have hap2:appendA [.box [.pv .nils],cbs nl (cpSs (ss.take i)),.tok 2 i nl] false .uq 2 true 32 (.uq 2 nl 2 (cpSs (ss.take i))) (.pv (.lit 2 [.agg [pv,i64 fi]]))=some (.uq 2 false 2 (cpSs (ss.take (i+1))),[.box [.pv .nils],cbs nl (cpSs (ss.take i)),.tok 2 (i+1) false]):=by
    have:=uq_append (A:=[.box [.pv .nils],cbs nl (cpSs (ss.take i)),.tok 2 i nl]) (id:=2) (n:=i) (sz:=2) (h:= .uq) (nl:=nl) (ag:=true) (bytes:=32) (es:=cpSs (ss.take i)) rfl hcn.symm (by unfold roomOk;omega) (.agg [pv,i64 fi])
    rw[this,hcl];rfl
   have e1:decide ((i:Int) < (ss.length:Int))=true:=dec_t (by omega)
   have t2:IntKind.i64.wrap ((i:Int)+1)=((i+1:Nat):Int):=wrap_int (by omega)
   generalize cpSs (ss.take i)=o at *
   generalize cpSs (ss.take (i+1))=o' at *
   have pl:∀ c,place [.box [.pv .nils],cbs nl o,c] 0 (.ptr 1 0)=some (.ptr 1 0):=fun c=>rfl
   have ld:∀ c,loadA [.box [.pv .nils],cbs nl o,c] false 1 (.ptr 1 0)=some (.uq 2 nl 2 o):=fun c=>rfl
   have st:∀ c,storeA [.box [.pv .nils],cbs nl o,c] 1 (.ptr 1 0) (.uq 2 false 2 o')=some [.box [.pv .nils],cbs false o',c]:=fun c=>rfl
   have hc3':=hc3 false o' (i+1)
   simp (implicitDefEqProofs:=false) only[SP,WP,setRow,sevalprocAttr,-List.reduceReplicate,b_leadtrailref08_Copy_l0,rp1_place,rp1_load,rp2_loadA,ln,e1,t2,a1,hcs,pl,ld,st,hap2,hpo,hc3',htk3,d0,d1,partE,AV.pvu,AV.pvu1,clean,cutEnv,AV.cut,deep_eq',eC2]
   exact hLN _ rfl
  ·rintro t rfl
   rw[List.take_length]
   have e1:decide ((ss.length:Int) < (ss.length:Int))=false:=dec_f (by omega)
   generalize cpSs ss=o
   generalize ss.isEmpty=nl
   generalize hQ:(fun r:Ex×St=>r.1.stop=true∧_)=Q
   simp (implicitDefEqProofs:=false) only[SP,WP,setRow,sevalprocAttr,-List.reduceReplicate,b_leadtrailref08_Copy_l0,rp1_place,rp1_load,ln,e1,eC2]
   subst hQ
   exact⟨rfl,_,nl,rfl,by simp[Tr.get_set],by simp[Tr.get_set]⟩
 have st0:storeA [.box [.pv .nils],.box [.pv .nils]] 1 (.ptr 1 0) (.pv (.agg [.nils]))=some [.box [.pv .nils],.box [.pv .nils]]:=rfl
 have g1:(0 < 2)=True:=by simp
 have hc30:=hc3 true [] 0
 have ld1:∀ nl out c,loadA [.box [.pv .nils],cbs nl out,c] true 1 (.ptr 1 0)=some (.agg [.uq 2 nl 2 out]):=fun nl out c=>rfl
 have st1:∀ nl out b c,storeA [.box [.pv .nils],b,c] 1 (.ptr 0 0) (.agg [.uq 2 nl 2 out])=some [cbs nl out,b,c]:=fun nl out b c=>rfl
 have ld2:∀ nl out b c,loadA [cbs nl out,b,c] true 1 (.ptr 0 0)=some (.agg [.uq 2 nl 2 out]):=fun nl out b c=>rfl
 apply wpO_eq
 unfold cpS
 generalize cpSs ss=o at *
 generalize ss.isEmpty=em at *
 simp (implicitDefEqProofs:=false) only[F_leadtrailref08_Copy,SP,WP,setRow,sevalprocAttr,-List.reduceReplicate,b_leadtrailref08_Copy,hS1,rp1_place,rp1_load,st0,ghostA,g1,C_loop,hc30,htk3,d0,d1,clean,cutEnv,AV.cut,deep_eq']
 refine wpO_mono hloop ?_
 rintro r ⟨E,nl,rfl,k2,k3⟩
 cases em <;> simp (implicitDefEqProofs:=false) only[SP,WP,setRow,sevalprocAttr,-List.reduceReplicate,k2,k3,ld1,st1,ld2]
theorem cpP_held {ls:List (List (Int×Int))} (hl:ls.length≤maxLen) (h:∀ l∈ls,l.length * 16≤140737488355328):HeldParts (cpP ls) ls (cpL ls):=by
 refine⟨?_,by simp[cpL],?_,hl⟩
 ·cases ls with
  |nil=>exact .inl ⟨rfl,rfl⟩
  |cons a r=>exact .inr rfl
 ·intro k v l hv hl
  rw[cpL,List.getElem?_map,hl] at hv
  simp at hv;subst hv
  exact⟨.inr rfl,h l (List.mem_of_getElem? hl)⟩
theorem copy8_held {S:PV} {ss:List Shp} {es:List PV} (hS:HeldSch S ss es):HeldSch (cpS ss) ss (cpSs ss):=by
 refine⟨?_,by simp[cpSs],?_,hS.sz⟩
 ·cases ss with
  |nil=>exact .inl ⟨rfl,rfl⟩
  |cons a r=>exact .inr rfl
 ·intro k e s he hs
  rw[cpSs,List.getElem?_map,hs] at he
  simp at he;subst he
  obtain⟨i,hi⟩:=List.getElem_of_mem (List.mem_of_getElem? hs)
  obtain⟨hk,hks⟩:=List.getElem?_eq_some_iff.1 hs
  obtain⟨e',P,ps,_,_,hP⟩:=hS.get hk
  rw[hks] at hP
  exact⟨cpP s.parts,cpL s.parts,rfl,cpP_held hP.parts.sz (hS.psz s (List.mem_of_getElem? hs))⟩
end Go.AM.B1
namespace Go.AM.B1
open Go.AM Go.AM.So
attribute [local irreducible] wpO
abbrev eS3 (a b:PV) (i:Int):Tr:=((Tr.lf.set 5 (.pv (i64 i))).set 1 (.pv b)).set 0 (.pv a)
theorem eqKd_pr (p:Int×Int):eqKd (.row [1,1]) (.agg [i64 p.1,i64 p.2]) (.agg [i64 p.1,i64 p.2])=some true:=by
 simp[eqKd,eqCells,eqCell]
theorem same3_run {v w:PV} {l:List (Int×Int)} (hv:IsL 2 v (prs l)) (hw:IsL 2 w (prs l)) (hz:l.length * 16≤140737488355328):F_leadtrailref03_Same [v,w]=some (.bool true):=by
 have lv:=hv.len
 have lw:=hw.len
 simp only[prs,List.length_map] at lv lw
 have hloop:wpO (fun r=>∃ E,r=(.exit 0,⟨E,[]⟩))
  (loopA (roundA (evalC (callL (fun _=>none) 8) b_leadtrailref03_Same_l0) (clean 0 [0,1,5])) rounds ⟨eS3 v w 0,[]⟩):=by
  refine wpO_mono (loopN_wp (g:=roundA (evalC (callL (fun _=>none) 8) b_leadtrailref03_Same_l0) (clean 0 [0,1,5]))
   (fun i t=>t=⟨eS3 v w i,[]⟩) l.length (by unfold rounds;omega) _ rfl ?_ ?_) (fun r h=>h.2)
  ·rintro i t hi rfl
   have e1:decide ((i:Int) < (l.length:Int))=true:=dec_t (by omega)
   have t2:=stepWrap hi (show l.length≤maxLen by unfold maxLen;omega)
   have a1:=fun H=>lit_iaddr H hi
   have h1:=hv.lit (i:=i) (by simpa using hi)
   have h2:=hw.lit (i:=i) (by simpa using hi)
   subst h1
   rw[h2] at lw ⊢
   have heq:=eqKd_pr l[i]
   generalize prs l=es at *
   generalize l[i]=p at *
   generalize hQ:LN _ _ i=Q
   simp (implicitDefEqProofs:=false) only[SP,SA,WP,sevalprocAttr,-List.reduceReplicate,b_leadtrailref03_Same_l0,lv,lw,e1,t2,a1,rp2_loadA,heq,clean,cutEnv,AV.cut,deep_eq',eS3]
   subst hQ
   rfl
  ·rintro t rfl
   have e1:decide ((l.length:Int) < (l.length:Int))=false:=dec_f (by omega)
   generalize hQ:(fun r:Ex×St=>r.1.stop=true∧_)=Q
   simp (implicitDefEqProofs:=false) only[SP,SA,WP,sevalprocAttr,-List.reduceReplicate,b_leadtrailref03_Same_l0,lv,lw,e1,eS3]
   subst hQ
   exact⟨rfl,_,rfl⟩
 have b1:((l.length:Int) != (l.length:Int))=false:=by simp
 apply wpO_eq
 simp (implicitDefEqProofs:=false) only[F_leadtrailref03_Same,SP,SA,WP,sevalprocAttr,-List.reduceReplicate,b_leadtrailref03_Same,lv,lw,b1,C_loop,clean,cutEnv,AV.cut,deep_eq']
 refine wpO_mono hloop ?_
 rintro r ⟨E,rfl⟩
 simp (implicitDefEqProofs:=false) only[SP,SA,WP,sevalprocAttr,-List.reduceReplicate]
abbrev eS8 (a b:List PV) (i:Int):Tr:=((Tr.lf.set 5 (.pv (i64 i))).set 3 (.pv (.rp b 0))).set 2 (.pv (.rp a 0))
theorem sameshape_run {a b:PV} {s:Shp} {P Q:PV} {ps qs:List PV} (ha:HeldShp a s P ps) (hb:HeldShp b s Q qs):F_leadtrailref08_SameShape [a,b]=some (.bool true):=by
 obtain⟨rfl,hP⟩:=ha
 obtain⟨rfl,hQ⟩:=hb
 have hP1:(AV.pv P).one=true:=by rcases hP.is with⟨h,_⟩ | h <;> rw[h] <;> rfl
 have hQ1:(AV.pv Q).one=true:=by rcases hQ.is with⟨h,_⟩ | h <;> rw[h] <;> rfl
 have lP:=hP.lenA
 have lQ:=hQ.lenA
 have hsz:=hP.sz
 have hloop:wpO (fun r=>∃ E,r=(.exit 0,⟨E,[]⟩))
  (loopA (roundA (evalC (callL (fun _=>none) 8) b_leadtrailref08_SameShape_l0) (clean 0 [2,3,5])) rounds ⟨eS8 [P,i64 s.first] [Q,i64 s.first] 0,[]⟩):=by
  refine wpO_mono (loopN_wp (g:=roundA (evalC (callL (fun _=>none) 8) b_leadtrailref08_SameShape_l0) (clean 0 [2,3,5]))
   (fun i t=>t=⟨eS8 [P,i64 s.first] [Q,i64 s.first] i,[]⟩) s.parts.length (by unfold rounds;unfold maxLen at hsz;omega) _ rfl ?_ ?_) (fun r h=>h.2)
  ·rintro i t hi rfl
   obtain⟨v,hv,hpv,_⟩:=hP.iaddr hi []
   obtain⟨w,hw,hpw,_⟩:=hQ.iaddr hi []
   have a1:=hP.iaddrU hv
   have a2:=hQ.iaddrU hw
   have hsm:=same3_run hpv.is hpw.is hpv.sz
   have e1:decide ((i:Int) < (s.parts.length:Int))=true:=dec_t (by omega)
   have t2:=stepWrap hi hsz
   generalize hQ:LN _ _ i=QQ
   simp (implicitDefEqProofs:=false) only[SP,SA,WP,sevalprocAttr,-List.reduceReplicate,b_leadtrailref08_SameShape_l0,rp2_place,rp2_load,rp1_load,lP,lQ,e1,t2,a1,a2,hsm,clean,cutEnv,AV.cut,deep_eq',eS8]
   subst hQ
   rfl
  ·rintro t rfl
   have e1:decide ((s.parts.length:Int) < (s.parts.length:Int))=false:=dec_f (by omega)
   generalize hQ:(fun r:Ex×St=>r.1.stop=true∧_)=QQ
   simp (implicitDefEqProofs:=false) only[SP,SA,WP,sevalprocAttr,-List.reduceReplicate,b_leadtrailref08_SameShape_l0,rp2_place,rp2_load,lP,lQ,e1,eS8]
   subst hQ
   exact⟨rfl,_,rfl⟩
 have b1:((s.parts.length:Int) != (s.parts.length:Int))=false:=by simp
 have b2:(s.first != s.first)=false:=by simp
 apply wpO_eq
 simp (implicitDefEqProofs:=false) only[F_leadtrailref08_SameShape,SP,SA,WP,sevalprocAttr,-List.reduceReplicate,b_leadtrailref08_SameShape,hP1,hQ1,rp2_place,rp2_place1,rp2_load,rp2_load1,lP,lQ,b1,b2,C_loop,clean,cutEnv,AV.cut,deep_eq']
 refine wpO_mono hloop ?_
 rintro r ⟨E,rfl⟩
 simp (implicitDefEqProofs:=false) only[SP,SA,WP,sevalprocAttr,-List.reduceReplicate]
theorem same8_run {A B:PV} {ss:List Shp} {ea eb:List PV} (hA:HeldSch A ss ea) (hB:HeldSch B ss eb):F_leadtrailref08_Same [.agg [A],.agg [B]]=some (.bool true):=by
 have hA1:(AV.pv A).one=true:=by rcases hA.is with⟨h,_⟩ | h <;> rw[h] <;> rfl
 have hB1:(AV.pv B).one=true:=by rcases hB.is with⟨h,_⟩ | h <;> rw[h] <;> rfl
 have lA:=hA.lenA
 have lB:=hB.lenA
 have hsz:=hA.sz
 have hloop:wpO (fun r=>∃ E,r=(.exit 0,⟨E,[]⟩))
  (loopA (roundA (evalC (callL (fun _=>none) 8) b_leadtrailref08_Same_l0) (clean 0 [2,3,5])) rounds ⟨eS8 [A] [B] 0,[]⟩):=by
  refine wpO_mono (loopN_wp (g:=roundA (evalC (callL (fun _=>none) 8) b_leadtrailref08_Same_l0) (clean 0 [2,3,5]))
   (fun i t=>t=⟨eS8 [A] [B] i,[]⟩) ss.length (by unfold rounds;unfold maxLen at hsz;omega) _ rfl ?_ ?_) (fun r h=>h.2)
  ·rintro i t hi rfl
   obtain⟨P,ps,hP,a1⟩:=hA.iaddr hi
   obtain⟨Q,qs,hQ,a2⟩:=hB.iaddr hi
   have hsm:=sameshape_run hP hQ
   have e1:decide ((i:Int) < (ss.length:Int))=true:=dec_t (by omega)
   have t2:=stepWrap hi hsz
   generalize hQ:LN _ _ i=QQ
   simp (implicitDefEqProofs:=false) only[SP,SA,WP,sevalprocAttr,-List.reduceReplicate,b_leadtrailref08_Same_l0,rp1_place,rp1_load,rp2_loadA,lA,lB,e1,t2,a1,a2,hsm,clean,cutEnv,AV.cut,deep_eq',eS8]
   subst hQ
   rfl
  ·rintro t rfl
   have e1:decide ((ss.length:Int) < (ss.length:Int))=false:=dec_f (by omega)
   generalize hQ:(fun r:Ex×St=>r.1.stop=true∧_)=QQ
   simp (implicitDefEqProofs:=false) only[SP,SA,WP,sevalprocAttr,-List.reduceReplicate,b_leadtrailref08_Same_l0,rp1_place,rp1_load,lA,lB,e1,eS8]
   subst hQ
   exact⟨rfl,_,rfl⟩
 have b1:((ss.length:Int) != (ss.length:Int))=false:=by simp
 apply wpO_eq
 simp (implicitDefEqProofs:=false) only[F_leadtrailref08_Same,SP,SA,WP,sevalprocAttr,-List.reduceReplicate,b_leadtrailref08_Same,hA1,hB1,rp1_place,rp1_load,lA,lB,b1,C_loop,clean,cutEnv,AV.cut,deep_eq']
 refine wpO_mono hloop ?_
 rintro r ⟨E,rfl⟩
 simp (implicitDefEqProofs:=false) only[SP,SA,WP,sevalprocAttr,-List.reduceReplicate]
end Go.AM.B1
namespace Go.AM.B1
open Go.AM
def docT:List (Int×Int):=[(128,191)]
def docS:List Shp:=[⟨[[(0,127)]],0⟩,⟨[[(194,223)],docT],128⟩,⟨[[(224,224)],[(160,191)],docT],2048⟩]
def docP:PV:= .agg [.lit 2 (docS.map encShp)]
def docA:List (List Edg):=[[⟨0,127,-1⟩,⟨194,223,1⟩,⟨224,224,2⟩],[⟨128,191,-1⟩],[⟨160,191,1⟩]]
theorem some_run:F_leadtraillaw13_some []=some docP:=by kernel_rfl
theorem docP_prefix:F_clash_Prefix [docP]=some (.tup [.agg [.bool true,i64 0,i64 0],i64 0]):=by kernel_rfl
theorem docP_copy:F_scheme_Copy [docP]=some docP:=by kernel_rfl
theorem docA_auto:autoS docS=some docA:=by kernel_rfl
theorem docP_build:F_auto_Build [docP]=some (.tup [.agg [encSt docA],i64 0]):=
 build_ok (.lit 2 (docS.map encShp)) (.lit 2 (docS.map encShp)) docS (.inr ⟨_,rfl⟩) docP_prefix docP_copy (.inr rfl) (by decide) (by decide) (by decide) docA_auto
theorem doc_same:F_leadtrailref13_Same [.agg [encSt docA],.agg [encSt docA]]=some (.bool true):=by kernel_rfl
theorem fixed_run:F_leadtraillaw13_fixed []=some (.bool true):=by
 have h1:=docP_build
 have h2:=doc_same
 have hd:encSt docA= .lit 1 [.lit 3 [.agg [.int .i64 0,.int .i64 127,.int .i64 (-1)],.agg [.int .i64 194,.int .i64 223,.int .i64 1],.agg [.int .i64 224,.int .i64 224,.int .i64 2]],.lit 3 [.agg [.int .i64 128,.int .i64 191,.int .i64 (-1)]],.lit 3 [.agg [.int .i64 160,.int .i64 191,.int .i64 1]]]:=rfl
 rw[hd] at h1 h2
 have h3:=some_run
 generalize docP=p at *
 simp (implicitDefEqProofs:=false) only[F_leadtraillaw13_fixed,SP,SA,SQ,sevalprocAttr,-List.reduceReplicate,b_leadtraillaw13_fixed,h1,h2,h3,toPV_pv,deep_eq,partE,AV.pvu,AV.pvu1]
end Go.AM.B1
namespace Go.AM.B1
open Go.AM
theorem m1_run:F_auto_Match [.agg [encSt docA],.lit 1 [.int .u8 224,.int .u8 160,.int .u8 65]]=some (.tup [i64 2,i64 3]):=by kernel_rfl
theorem m2_run:F_auto_Match [.agg [encSt docA],.lit 1 [.int .u8 195,.int .u8 169,.int .u8 169]]=some (.tup [i64 2,i64 1]):=by kernel_rfl
theorem m3_run:F_auto_Match [.agg [encSt docA],.lit 1 [.int .u8 224]]=some (.tup [i64 1,i64 2]):=by kernel_rfl
theorem names_run:pureF (fun _=>none) b_leadtraillaw13_AutoNames []=some (.bool true):=by
 have h1:=docP_build
 have h2:=some_run
 have h3:=fixed_run
 have k1:=m1_run
 have k2:=m2_run
 have k3:=m3_run
 obtain⟨l,hl⟩:∃ l,encSt docA= .lit 1 l:=⟨_,rfl⟩
 rw[hl] at h1 k1 k2 k3
 generalize docP=p at *
 simp (implicitDefEqProofs:=false) only[SP,SA,SQ,sevalprocAttr,-List.reduceReplicate,b_leadtraillaw13_AutoNames,h1,h2,h3,k1,k2,k3,toPV_pv,deep_eq,partE,AV.pvu,AV.pvu1]
end Go.AM.B1
namespace Go.AM.B1
open Go.AM
theorem loop_acc {α β:Type} {g:St→Option (Ex×St)} (st:Nat→β→St) (f:Nat→β→α) (I:Nat→β→Prop) (Q:α→Ex→St→Prop) (N:Nat) (hN:N < rounds) (a0:β) (h0:I 0 a0)
 (hs:∀ i,i < N→∀ a,I i a→(∃ a',g (st i a)=some (.norm,st (i+1) a')∧f i a=f (i+1) a'∧I (i+1) a')∨∃ ex t,g (st i a)=some (ex,t)∧ex.stop=true∧Q (f i a) ex t)
 (he:∀ a,I N a→∃ ex t,g (st N a)=some (ex,t)∧ex.stop=true∧Q (f N a) ex t):
 ∃ ex t,loopA g rounds (st 0 a0)=some (ex,t)∧ex.stop=true∧Q (f 0 a0) ex t:=by
 refine loopA_go (fun i t=>∃ a,t=st i a∧I i a∧f 0 a0=f i a) (fun ex t=>Q (f 0 a0) ex t) rounds N 0 (st 0 a0) (by omega) (by omega) ⟨a0,rfl,h0,rfl⟩ ?_ ?_
 ·rintro i hi t ⟨a,rfl,ha,hf⟩
  rw[hf]
  rcases hs i hi a ha with⟨a',h1,h2,h3⟩ | h
  ·exact .inl ⟨_,h1,a',rfl,h3,by rw[h2]⟩
  ·exact .inr h
 ·rintro t ⟨a,rfl,ha,hf⟩
  rw[hf]
  exact he a ha
abbrev u8 (n:Int):PV:= .int .u8 n
structure HeldSt (A:PV) (l:List (List Edg)):Prop where
 held:∃ es,IsL 1 A es∧es.length=l.length∧∀ (i:Nat) v e,es[i]? =some v→l[i]? =some e→IsL 3 v (e.map encE)
 len:l.length * 24≤140737488355328
 lens:∀ e∈l,e.length * 24≤140737488355328
theorem encE_get {l:List Edg} {i:Nat} (hi:i < l.length):(l.map encE)[i]? =some (encE l[i]):=by simp[hi]
section
variable (b:Int) (hb:0≤b∧b≤255)
include hb
variable (V:PV) (l:List Edg) (hV:IsL 3 V (l.map encE)) (hw:l.length≤maxLen)
include hV hw
end
theorem HeldSt.get {A:PV} {l:List (List Edg)} (h:HeldSt A l) {i:Nat} (hi:i < l.length):∃ es V,A= .lit 1 es∧es.length=l.length∧es[i]? =some V∧IsL 3 V (l[i].map encE):=by
 obtain⟨es,h1,h2,h3⟩:=h.held
 have hie:i < es.length:=by omega
 refine⟨es,es[i],h1.lit hie,h2,by simp[hie],h3 i _ _ (by simp[hie]) (by simp[hi])⟩
theorem HeldSt.lenA {A:PV} {l:List (List Edg)} (h:HeldSt A l) (H:List AObj):lenA H 0 (.pv A)=some l.length:=by
 obtain⟨es,h1,h2,h3⟩:=h.held
 rw[h1.len,h2]
theorem HeldSt.form {A:PV} {l:List (List Edg)} (h:HeldSt A l):A= .nils∨∃ es,A= .lit 1 es:=by
 obtain⟨es,h1,h2,h3⟩:=h.held
 rcases h1 with⟨rfl,_⟩ | rfl
 ·exact .inl rfl
 ·exact .inr ⟨_,rfl⟩
theorem IsL.form {sz:Nat} {v:PV} {es:List PV} (h:IsL sz v es):v= .nils∨∃ es,v= .lit sz es:=by
 rcases h with⟨rfl,_⟩ | rfl
 ·exact .inl rfl
 ·exact .inr ⟨_,rfl⟩
section
variable (A:PV) (l:List (List Edg)) (hA:HeldSt A l) (st b:Int) (hb:0≤b∧b≤255)
include hA hb
end
section
variable (call:CallF) (es:List PV) (st b:Int) (hb:0≤b∧b≤255) (e:List Edg) (V:PV) (h0:0≤st∧st < es.length) (hV:es[st.toNat]? =some V) (hVL:IsL 3 V (e.map encE)) (hw:e.length≤maxLen)
include h0 hV hVL
include hb hw
end
section
variable (A:PV) (l:List (List Edg)) (hA:HeldSt A l) (st b:Int) (hb:0≤b∧b≤255)
include hA hb
end
end Go.AM.B1
namespace Go.AM.B1
open Go.AM
section
variable (call:CallF) (A B:PV) (l:List (List Edg)) (hA:HeldSt A l) (bs:List Int) (hB:IsL 1 B (bs.map u8)) (hb:∀ b∈bs,0≤b∧b≤255) (hw:bs.length≤maxLen)
include hA hB hb hw
end
end Go.AM.B1
namespace Go.AM.B1
open Go.AM
section
variable (A:PV) (l:List (List Edg)) (hA:HeldSt A l)
include hA
end
theorem eqKd_E (a b:Edg):eqKd (.row [1,1,1]) (.agg [i64 a.lo,i64 a.hi,i64 a.to]) (.agg [i64 b.lo,i64 b.hi,i64 b.to])=some (decide (a=b)):=by
 obtain⟨a1,a2,a3⟩:=a;obtain⟨b1,b2,b3⟩:=b
 simp only[eqKd,eqCells,eqCell,if_true,Option.bind_some,Option.map_some,Bool.and_true,Edg.mk.injEq,Bool.decide_and]
 congr 1
def same1:List Edg→List Edg→Bool
 |a::l,b::m=>decide (a=b)&&same1 l m
 |_,_=>true
theorem same1_eq:∀ (l m:List Edg),l.length=m.length→same1 l m=decide (l=m)
 | [],[],_=>rfl
 |a::l,b::m,h=>by
  have:=same1_eq l m (by simpa using h)
  rw[same1,this]
  simp only[List.cons.injEq,Bool.decide_and]
 | [],_::_,h=>by cases h
 |_::_,[],h=>by cases h
def same2:List (List Edg)→List (List Edg)→Bool
 |a::l,b::m=>decide (a.length=b.length)&&same1 a b&&same2 l m
 |_,_=>true
theorem same2_eq:∀ (l m:List (List Edg)),l.length=m.length→same2 l m=decide (l=m)
 | [],[],_=>rfl
 |a::l,b::m,h=>by
  have:=same2_eq l m (by simpa using h)
  rw[same2,this]
  by_cases hl:a.length=b.length
  ·rw[same1_eq a b hl]
   simp only[hl,decide_true,Bool.true_and,List.cons.injEq,Bool.decide_and]
  ·have:a≠b:=fun e=>hl (by rw[e])
   simp[hl,this]
 | [],_::_,h=>by cases h
 |_::_,[],h=>by cases h
abbrev envS (A B:PV) (i k:Int):Tr:=(((Tr.lf.set 6 (.pv (i64 k))).set 5 (.pv (i64 i))).set 3 (.pv (.rp [B] 0))).set 2 (.pv (.rp [A] 0))
abbrev envStp0 (A B:PV) (i:Int):Tr:=((Tr.lf.set 5 (.pv (i64 i))).set 3 (.pv (.rp [B] 0))).set 2 (.pv (.rp [A] 0))
section
variable (call:CallF) (av bs:List PV) (i:Nat) (a b:List Edg) (V W:PV) (hia:i < av.length) (hib:i < bs.length) (hV:av[i]? =some V) (hW:bs[i]? =some W) (hVL:IsL 3 V (a.map encE)) (hWL:IsL 3 W (b.map encE)) (hw:a.length≤maxLen)
include hia hV hVL
theorem same_end:roundL call [2,3,5,6] b_leadtrailref13_Same_l1 0 ⟨envS (.lit 1 av) (.lit 1 bs) i a.length,[]⟩=
 some (.exit 2,⟨((((((((envS (.lit 1 av) (.lit 1 bs) i a.length).set 34 (.pv (i64 a.length))).set 35 (.pv (.rp [.lit 1 av] 0))).set 36 (.pv (.lit 1 av))).set 37 (.pv (i64 i))).set 38 (.pv (.rp [V] 0))).set 39 (.pv V)).set 40 (.pv (i64 a.length))).set 41 (.pv (.bool false)),[]⟩):=by
 have e1:decide ((a.length:Int) < (a.length:Int))=false:=dec_f (by omega)
 have hq:idxOk (i:Int) av.length:=by unfold idxOk;omega
 have t1:((i:Int)).toNat=i:=by simp
 have ls:=hVL.len []
 simp only[List.length_map] at ls
 rcases hVL.form with rfl | ⟨vs,rfl⟩ <;>
 simp (implicitDefEqProofs:=false) only[SP,SA,SQ,sevalprocAttr,-List.reduceReplicate,roundL,roundA,b_leadtrailref13_Same_l1,e1,ls,eq_true hq,t1,hV,iaddrA',envS]
include hib hW hWL hw
theorem same_in (k:Nat) (hk:k < a.length) (hkb:k < b.length):
 (a[k]=b[k]→roundL call [2,3,5,6] b_leadtrailref13_Same_l1 0 ⟨envS (.lit 1 av) (.lit 1 bs) i k,[]⟩=some (.norm,⟨envS (.lit 1 av) (.lit 1 bs) i (k+1:Nat),[]⟩))∧
 (¬ a[k]=b[k]→retIs 4 (.pv (.bool false)) (roundL call [2,3,5,6] b_leadtrailref13_Same_l1 0 ⟨envS (.lit 1 av) (.lit 1 bs) i k,[]⟩)):=by
 have hVl:=hVL.lit (i:=k) (by simpa using hk)
 have hWl:=hWL.lit (i:=k) (by simpa using hkb)
 subst hVl hWl
 have e1:decide ((k:Int) < (a.length:Int))=true:=dec_t (by omega)
 have hq:idxOk (i:Int) av.length:=by unfold idxOk;omega
 have hq2:idxOk (i:Int) bs.length:=by unfold idxOk;omega
 have hq3:idxOk (k:Int) a.length:=by unfold idxOk;omega
 have hq4:idxOk (k:Int) b.length:=by unfold idxOk;omega
 have t1:((i:Int)).toNat=i:=by simp
 have t2:((k:Int)).toNat=k:=by simp
 have t3:=stepWrap hk hw
 have g1:(a.map encE)[k]? =some (.agg [i64 a[k].lo,i64 a[k].hi,i64 a[k].to]):=encE_get hk
 have g2:(b.map encE)[k]? =some (.agg [i64 b[k].lo,i64 b[k].hi,i64 b[k].to]):=encE_get hkb
 have l1:(a.map encE).length=a.length:=by simp
 have l2:(b.map encE).length=b.length:=by simp
 have he:=eqKd_E a[k] b[k]
 generalize a.map encE=vs at *
 generalize b.map encE=ws at *
 generalize a[k]=x at *
 generalize b[k]=y at *
 constructor
 ·intro h
  rw[dec_t h] at he
  simp (implicitDefEqProofs:=false) only[SP,SA,SQ,sevalprocAttr,-List.reduceReplicate,roundL,roundA,b_leadtrailref13_Same_l1,e1,eq_true hq,eq_true hq2,eq_true hq3,eq_true hq4,t1,t2,t3,g1,g2,l1,l2,hV,hW,he,iaddrA',envS,clean,cutEnv,cut_pv,AV.cut,deep_eq]
 ·intro h
  rw[dec_f h] at he
  simp (implicitDefEqProofs:=false) only[SP,SA,SQ,sevalprocAttr,-List.reduceReplicate,roundL,roundA,b_leadtrailref13_Same_l1,e1,eq_true hq,eq_true hq2,eq_true hq3,eq_true hq4,t1,t2,t3,g1,g2,l1,l2,hV,hW,he,iaddrA',envS,retIs_ret]
theorem same_inner (hab:a.length=b.length):∃ ex t,loopA (roundA (evalC call b_leadtrailref13_Same_l1) (clean 0 [2,3,5,6])) rounds ⟨envS (.lit 1 av) (.lit 1 bs) i 0,[]⟩=some (ex,t)∧ex.stop=true∧
 ((same1 a b=true∧ex= .exit 2∧t=⟨((((((((envS (.lit 1 av) (.lit 1 bs) i a.length).set 34 (.pv (i64 a.length))).set 35 (.pv (.rp [.lit 1 av] 0))).set 36 (.pv (.lit 1 av))).set 37 (.pv (i64 i))).set 38 (.pv (.rp [V] 0))).set 39 (.pv V)).set 40 (.pv (i64 a.length))).set 41 (.pv (.bool false)),[]⟩)∨
  (same1 a b=false∧ex= .ret∧t.env.get 4= .pv (.bool false))):=by
 have key:=loop_acc (g:=roundL call [2,3,5,6] b_leadtrailref13_Same_l1 0)
  (fun k (_:Unit)=>⟨envS (.lit 1 av) (.lit 1 bs) i k,[]⟩) (fun k _=>same1 (a.drop k) (b.drop k)) (fun _ _=>True)
  (fun r ex t=>(r=true∧ex= .exit 2∧t=⟨((((((((envS (.lit 1 av) (.lit 1 bs) i a.length).set 34 (.pv (i64 a.length))).set 35 (.pv (.rp [.lit 1 av] 0))).set 36 (.pv (.lit 1 av))).set 37 (.pv (i64 i))).set 38 (.pv (.rp [V] 0))).set 39 (.pv V)).set 40 (.pv (i64 a.length))).set 41 (.pv (.bool false)),[]⟩)∨
   (r=false∧ex= .ret∧t.env.get 4= .pv (.bool false)))
  a.length (by unfold rounds;unfold maxLen at hw;omega) () trivial ?_ ?_
 ·exact key
 ·rintro k hk _ _
  obtain⟨r1,r2⟩:=same_in call av bs i a b V W hia hib hV hW hVL hWL hw k hk (by omega)
  have hd1:a.drop k=a[k]::a.drop (k+1):=List.drop_eq_getElem_cons hk
  have hd2:b.drop k=b[k]::b.drop (k+1):=List.drop_eq_getElem_cons (by omega)
  simp only[hd1,hd2,same1]
  by_cases h:a[k]=b[k]
  ·rw[dec_t h,Bool.true_and]
   exact .inl ⟨(),r1 h,rfl,trivial⟩
  ·obtain⟨t,k1,k2⟩:=retIs_spec (r2 h)
   rw[dec_f h,Bool.false_and]
   exact .inr ⟨.ret,t,k1,rfl,.inr ⟨rfl,rfl,k2⟩⟩
 ·rintro _ _
  rw[List.drop_length]
  refine⟨.exit 2,_,same_end call av bs i a V hia hV hVL,rfl,.inl ⟨by cases b.drop a.length <;> rfl,rfl,rfl⟩⟩
end
end Go.AM.B1
namespace Go.AM.B1
open Go.AM
section
variable (A B:PV) (l m:List (List Edg)) (hA:HeldSt A l) (hB:HeldSt B m)
include hA hB
theorem same_round (call:CallF) (i:Nat) (hi:i < l.length) (him:i < m.length):
 (l[i].length=m[i].length→same1 l[i] m[i]=true→roundL call [2,3,5] b_leadtrailref13_Same_l0 0 ⟨envStp0 A B i,[]⟩=some (.norm,⟨envStp0 A B (i+1:Nat),[]⟩))∧
 (l[i].length=m[i].length→same1 l[i] m[i]=false→retIs 4 (.pv (.bool false)) (roundL call [2,3,5] b_leadtrailref13_Same_l0 0 ⟨envStp0 A B i,[]⟩))∧
 (¬ l[i].length=m[i].length→retIs 4 (.pv (.bool false)) (roundL call [2,3,5] b_leadtrailref13_Same_l0 0 ⟨envStp0 A B i,[]⟩)):=by
 obtain⟨av,V,rfl,hel,hV,hVL⟩:=hA.get hi
 obtain⟨bv,W,rfl,hel2,hW,hWL⟩:=hB.get him
 have hll:=hA.len
 have hla:=hA.lens l[i] (List.getElem_mem hi)
 generalize l[i]=a at *
 generalize m[i]=b at *
 have e1:decide ((i:Int) < (l.length:Int))=true:=dec_t (by omega)
 have hq:idxOk (i:Int) l.length:=by unfold idxOk;omega
 have hq2:idxOk (i:Int) m.length:=by unfold idxOk;omega
 have t1:((i:Int)).toNat=i:=by simp
 have t3:=stepWrap hi (by unfold maxLen;omega)
 have ls:=hVL.len
 have ls2:=hWL.len
 simp only[List.length_map] at ls ls2
 refine⟨?_,?_,?_⟩
 ·intro h1 h2
  have b1:((a.length:Int)==(b.length:Int))=true:=by simp[h1]
  obtain⟨ex,t,hl,_,hq5⟩:=same_inner call av bv i a b V W (by omega) (by omega) hV hW hVL hWL (by unfold maxLen;omega) h1
  simp only[envS] at hl
  rcases hq5 with⟨_,rfl,rfl⟩ | ⟨h3,_,_⟩
  ·rcases hVL.form with rfl | ⟨vs,rfl⟩ <;> rcases hWL.form with rfl | ⟨ws,rfl⟩ <;>
   ·simp (implicitDefEqProofs:=false) only[SP,SA,SQ,sevalprocAttr,-List.reduceReplicate,roundL,roundA,b_leadtrailref13_Same_l0,e1,hel,hel2,eq_true hq,eq_true hq2,t1,hV,hW,ls,ls2,bne,b1,iaddrA',C_loop,envStp0,clean,cutEnv,cut_pv,AV.cut,deep_eq]
    rw[hl]
    simp (implicitDefEqProofs:=false) only[SP,SA,SQ,sevalprocAttr,-List.reduceReplicate,t3,envS,clean,cutEnv,cut_pv,AV.cut,deep_eq]
  ·rw[h2] at h3;cases h3
 ·intro h1 h2
  have b1:((a.length:Int)==(b.length:Int))=true:=by simp[h1]
  obtain⟨ex,t,hl,_,hq5⟩:=same_inner call av bv i a b V W (by omega) (by omega) hV hW hVL hWL (by unfold maxLen;omega) h1
  simp only[envS] at hl
  rcases hq5 with⟨h3,_,_⟩ | ⟨_,rfl,h4⟩
  ·rw[h2] at h3;cases h3
  ·rcases hVL.form with rfl | ⟨vs,rfl⟩ <;> rcases hWL.form with rfl | ⟨ws,rfl⟩ <;>
   ·simp (implicitDefEqProofs:=false) only[SP,SA,SQ,sevalprocAttr,-List.reduceReplicate,roundL,roundA,b_leadtrailref13_Same_l0,e1,hel,hel2,eq_true hq,eq_true hq2,t1,hV,hW,ls,ls2,bne,b1,iaddrA',C_loop,envStp0,clean,cutEnv,cut_pv,AV.cut,deep_eq]
    rw[hl]
    simp (implicitDefEqProofs:=false) only[SP,SA,SQ,sevalprocAttr,-List.reduceReplicate,retIs_ret,h4]
 ·intro h1
  have b1:((a.length:Int)==(b.length:Int))=false:=beq_ne (by omega)
  have hne:¬(V= .nils∧W= .nils):=by
   rintro⟨rfl,rfl⟩
   have k1:=ls []
   have k2:=ls2 []
   simp only[lenA_nils,Option.some.injEq] at k1 k2
   omega
  rcases hVL.form with rfl | ⟨vs,rfl⟩ <;> rcases hWL.form with rfl | ⟨ws,rfl⟩ <;>
  first
  |exact absurd ⟨rfl,rfl⟩ hne
  |simp (implicitDefEqProofs:=false) only[SP,SA,SQ,sevalprocAttr,-List.reduceReplicate,roundL,roundA,b_leadtrailref13_Same_l0,e1,hel,hel2,eq_true hq,eq_true hq2,t1,hV,hW,ls,ls2,bne,b1,iaddrA',envStp0,retIs_ret]
theorem same13_run:F_leadtrailref13_Same [.agg [A],.agg [B]]=some (.bool (decide (l=m))):=by
 have hla:=hA.lenA
 have hlb:=hB.lenA
 have hll:=hA.len
 by_cases hlm:l.length=m.length
 ·rw[← same2_eq l m hlm]
  have key:=loop_acc (g:=roundL (callL (fun _=>none) 8) [2,3,5] b_leadtrailref13_Same_l0 0)
   (fun i (_:Unit)=>⟨envStp0 A B i,[]⟩) (fun i _=>same2 (l.drop i) (m.drop i)) (fun _ _=>True)
   (fun r ex t=>(r=true∧ex= .exit 0)∨(r=false∧ex= .ret∧t.env.get 4= .pv (.bool false)))
   l.length (by unfold rounds;omega) () trivial ?_ ?_
  ·obtain⟨ex,⟨E,H⟩,h,_,hq⟩:=key
   have h':loopA (roundA (evalC (callL (fun _=>none) 8) b_leadtrailref13_Same_l0) (clean 0 [2,3,5])) rounds ⟨envStp0 A B 0,[]⟩=some (ex,⟨E,H⟩):=h
   simp only[envStp0] at h'
   rw[List.drop_zero,List.drop_zero] at hq
   generalize same2 l m=r at *
   have b1:((l.length:Int)==(m.length:Int))=true:=by simp[hlm]
   rcases hq with⟨rfl,rfl⟩ | ⟨rfl,rfl,g⟩
   ·rcases hA.form with rfl | ⟨av,rfl⟩ <;> rcases hB.form with rfl | ⟨bv,rfl⟩ <;>
    ·simp (implicitDefEqProofs:=false) only[F_leadtrailref13_Same,SP,SA,SQ,sevalprocAttr,-List.reduceReplicate,b_leadtrailref13_Same,hla,hlb,bne,b1,C_loop,clean,cutEnv,cut_pv,AV.cut,deep_eq]
     rw[h']
     simp (implicitDefEqProofs:=false) only[SP,SA,SQ,sevalprocAttr,-List.reduceReplicate]
   ·simp only at g
    rcases hA.form with rfl | ⟨av,rfl⟩ <;> rcases hB.form with rfl | ⟨bv,rfl⟩ <;>
    ·simp (implicitDefEqProofs:=false) only[F_leadtrailref13_Same,SP,SA,SQ,sevalprocAttr,-List.reduceReplicate,b_leadtrailref13_Same,hla,hlb,bne,b1,C_loop,clean,cutEnv,cut_pv,AV.cut,deep_eq]
     rw[h']
     simp (implicitDefEqProofs:=false) only[SP,SA,SQ,sevalprocAttr,-List.reduceReplicate,g]
  ·rintro i hi _ _
   obtain⟨r1,r2,r3⟩:=same_round A B l m hA hB (callL (fun _=>none) 8) i hi (by omega)
   have hd1:l.drop i=l[i]::l.drop (i+1):=List.drop_eq_getElem_cons hi
   have hd2:m.drop i=m[i]::m.drop (i+1):=List.drop_eq_getElem_cons (by omega)
   simp only[hd1,hd2,same2]
   by_cases h1:l[i].length=m[i].length
   ·rw[dec_t h1,Bool.true_and]
    cases h2:same1 l[i] m[i] with
    |true=>exact .inl ⟨(),r1 h1 h2,rfl,trivial⟩
    |false=>
     obtain⟨t,k1,k2⟩:=retIs_spec (r2 h1 h2)
     exact .inr ⟨.ret,t,k1,rfl,.inr ⟨rfl,rfl,k2⟩⟩
   ·obtain⟨t,k1,k2⟩:=retIs_spec (r3 h1)
    rw[dec_f h1,Bool.false_and,Bool.false_and]
    exact .inr ⟨.ret,t,k1,rfl,.inr ⟨rfl,rfl,k2⟩⟩
  ·rintro _ _
   rw[List.drop_length]
   have e1:decide ((l.length:Int) < (l.length:Int))=false:=dec_f (by omega)
   have e2:same2 [] (m.drop l.length)=true:=by cases m.drop l.length <;> rfl
   refine⟨.exit 0,⟨(((((envStp0 A B l.length).set 14 (.pv (i64 l.length))).set 15 (.pv (.rp [A] 0))).set 16 (.pv A)).set 17 (.pv (i64 l.length))).set 18 (.pv (.bool false)),[]⟩,?_,rfl,.inl ⟨e2,rfl⟩⟩
   simp (implicitDefEqProofs:=false) only[SP,SA,SQ,sevalprocAttr,-List.reduceReplicate,roundL,roundA,b_leadtrailref13_Same_l0,e1,hla,envStp0]
 ·have:l≠m:=fun e=>hlm (by rw[e])
  rw[dec_f this]
  have b1:((l.length:Int)==(m.length:Int))=false:=beq_ne (by omega)
  have hne:¬(A= .nils∧B= .nils):=by
   rintro⟨rfl,rfl⟩
   have k1:=hla []
   have k2:=hlb []
   simp only[lenA_nils,Option.some.injEq] at k1 k2
   omega
  rcases hA.form with rfl | ⟨av,rfl⟩ <;> rcases hB.form with rfl | ⟨bv,rfl⟩ <;>
  first
  |exact absurd ⟨rfl,rfl⟩ hne
  |simp (implicitDefEqProofs:=false) only[F_leadtrailref13_Same,SP,SA,SQ,sevalprocAttr,-List.reduceReplicate,b_leadtrailref13_Same,hla,hlb,bne,b1,deep_eq]
end
end Go.AM.B1
namespace Go.AM.B1
open Go.AM Go.AM.So
theorem edgesGo_len (row:List Int):∀ (xs:List Nat) (l:List Edg),(edgesGo row xs l).length≤l.length+xs.length
 | [],l=>by simp[edgesGo]
 |x::xs,l=>by
  rw[edgesGo]
  have h1:=edgesGo_len row xs (edgeR x (row.getD x 0) l)
  have h2:=edgeR_len x (row.getD x 0) l
  simp only[List.length_cons];omega
theorem edgesS_len (row:List Int):(edgesS row).length≤256:=by
 have:=edgesGo_len row (List.range 256) []
 simpa[edgesS] using this
theorem toldGo_len (C:List Int):∀ (k:Nat) (r:List Int×List (List Edg)),(toldGo C k r).2.length≤r.2.length+k∧∀ e∈(toldGo C k r).2,e∈r.2∨e.length≤256
 |0,r=>⟨by simp[toldGo],fun e he=> .inl he⟩
 |k+1,r=>by
  cases ho:r.1[r.2.length]? with
  |none=>rw[toldGo_end ho];exact⟨by omega,fun e he=> .inl he⟩
  |some o=>
   rw[toldGo_some ho]
   obtain⟨h1,h2⟩:=toldGo_len C k ((toldOne C o r.1).1,r.2++[edgesS (toldOne C o r.1).2])
   simp only[List.length_append,List.length_singleton] at h1
   refine⟨by omega,fun e he=> ?_⟩
   rcases h2 e he with h3 | h3
   ·simp only[List.mem_append,List.mem_singleton] at h3
    rcases h3 with h3 | h3
    ·exact .inl h3
    ·refine .inr ?_;rw[h3];exact edgesS_len _
   ·exact .inr h3
theorem toldK_len (C:List Int) (k:Nat) (o:List Int):(toldGo C k (o,[])).2.length≤k∧∀ e∈(toldGo C k (o,[])).2,e.length≤256:=by
 have h:=toldGo_len C k (o,[])
 generalize toldGo C k (o,[])=r at h ⊢
 refine⟨by simpa using h.1,fun e he=> ?_⟩
 rcases h.2 e he with h | h
 ·cases h
 ·exact h
set_option maxRecDepth 8000 in
theorem toldS_len (C:List Int):(toldS C).length≤64∧∀ e∈toldS C,e.length≤256:=toldK_len C 64 [0]
theorem autoS_len {ss:List Shp} {l:List (List Edg)} (h:autoS ss=some l):l.length≤64∧∀ e∈l,e.length≤256:=by
 unfold autoS at h
 rw[Option.map_eq_some_iff] at h
 obtain⟨r,_,rfl⟩:=h
 exact toldS_len _
theorem encEs_is (e:List Edg):IsL 3 (encEs e) (e.map encE):=by
 unfold encEs
 cases e with
 |nil=>exact .inl ⟨rfl,rfl⟩
 |cons a r=>exact .inr rfl
theorem encSt_held {l:List (List Edg)} (h1:l.length≤64) (h2:∀ e∈l,e.length≤256):HeldSt (encSt l) l:=by
 refine⟨⟨l.map encEs,.inr rfl,by simp,?_⟩,by omega,fun e he=>by have:=h2 e he;omega⟩
 intro i v e hv he
 rw[List.getElem?_map,he] at hv
 simp at hv;subst hv
 exact encEs_is e
theorem nils_held:HeldSt .nils []:=⟨⟨[],.inl ⟨rfl,rfl⟩,rfl,by simp⟩,by simp,by simp⟩
theorem both_build (ss:List Shp):∃ (V:PV) (l:List (List Edg)) (n:Int),HeldSt V l∧(n=0↔∃ l',autoS ss=some l'∧SchOk ss∧PreOk ss∧V=encSt l'∧l=l')∧(n≠0→V= .nils)∧
 (∀ (A:PV) (ea:List PV),HeldSch A ss ea→F_auto_Build [.agg [A]]=some (.tup [.agg [V],i64 n]))∧(∀ (A:PV) (ea:List PV),HeldSch A ss ea→F_leadtrailref13_Build [.agg [A]]=some (.tup [.agg [V],i64 n])):=by
 by_cases h1:SchOk ss
 ·by_cases h2:PreOk ss
  ·cases h3:autoS ss with
   |none=>exact⟨.nils,[],130,nils_held,⟨fun h=>(by cases h),fun ⟨_,h,_⟩=>(by cases h)⟩,fun _=>rfl,fun A ea h=>(build_run h).2.2.1 h1 h2 h3,fun A ea h=>(ref_build_run h).2.2.1 h1 h2 h3⟩
   |some l=>
    obtain⟨k1,k2⟩:=autoS_len h3
    exact⟨encSt l,l,0,encSt_held k1 k2,⟨fun _=>⟨l,rfl,h1,h2,rfl,rfl⟩,fun _=>rfl⟩,fun h=>absurd rfl h,fun A ea h=>(build_run h).2.2.2 h1 h2 l h3,fun A ea h=>(ref_build_run h).2.2.2 h1 h2 l h3⟩
  ·exact⟨.nils,[],110,nils_held,⟨fun h=>(by cases h),fun ⟨_,_,_,h,_⟩=>absurd h h2⟩,fun _=>rfl,fun A ea h=>(build_run h).2.1 h1 h2,fun A ea h=>(ref_build_run h).2.1 h1 h2⟩
 ·exact⟨.nils,[],84,nils_held,⟨fun h=>(by cases h),fun ⟨_,_,h,_⟩=>absurd h h1⟩,fun _=>rfl,fun A ea h=>(build_run h).1 h1,fun A ea h=>(ref_build_run h).1 h1⟩
theorem builds_run {S:PV} {ss:List Shp} {es:List PV} (hS:HeldSch S ss es) (hz:HeldSz ss):pureF (fun _=>none) b_leadtraillaw13_AutoBuilds [.agg [S]]=some (.bool true):=by
 have hS1:(AV.pv S).one=true:=by rcases hS.is with⟨h,_⟩ | h <;> rw[h] <;> rfl
 have hc:=copy8_run hS hz
 have hch:=copy8_held hS
 have hsm:=same8_run hch hS
 obtain⟨V,l,n,hV,_,_,hb,hr⟩:=both_build ss
 have hb':=hb _ _ hch
 have hr':=hr _ _ hS
 have hs:=same13_run V V l l hV hV
 rw[dec_t rfl] at hs
 have hV1:(AV.pv V).one=true:=by rcases hV.form with rfl | ⟨av,rfl⟩ <;> rfl
 have hC1:(AV.pv (cpS ss)).one=true:=by unfold cpS;split <;> rfl
 have hfx:=fixed_run
 have b1:(n==n)=true:=by simp
 generalize cpS ss=A at *
 simp (implicitDefEqProofs:=false) only[SP,SA,SQ,sevalprocAttr,-List.reduceReplicate,b_leadtraillaw13_AutoBuilds,hfx,hS1,hC1,hV1,hc,hb',hr',hs,hsm,b1,toPV_pv,deep_eq]
end Go.AM.B1
