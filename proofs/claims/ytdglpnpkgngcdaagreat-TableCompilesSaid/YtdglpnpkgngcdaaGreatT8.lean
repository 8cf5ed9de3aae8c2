/- What functions of the program compute. -/
import Derived.Test.YtdglpnpkgngcdaaGreatT7
set_option linter.unusedVariables false
set_option linter.unusedSimpArgs false
namespace Go.AM.B1
open Go.AM Go.AM.So
theorem fh {α:Type}:∀ (vs cs:List α) (off j:Nat),off+vs.length≤cs.length→(na cs off vs)[j]? =if off≤j∧j < off+vs.length then vs[j - off]? else cs[j]?
 | [],cs,off,j,h=>by
   rw[if_neg (by simp only[List.length_nil];omega)];rfl
 |v::vs,cs,off,j,h=>by
  simp only[List.length_cons] at h
  rw[na,fh vs _ (off+1) j (by simp;omega)]
  by_cases h1:off+1≤j∧j < off+1+vs.length
  ·rw[if_pos h1,if_pos (by simp only[List.length_cons];omega),show j - off=(j - (off+1))+1 by omega,List.getElem?_cons_succ]
  ·rw[if_neg h1]
   by_cases h2:off=j
   ·subst h2
    rw[List.getElem?_set_self (by omega),if_pos (by simp only[List.length_cons];omega),Nat.sub_self,List.getElem?_cons_zero]
   ·rw[List.getElem?_set_ne h2,if_neg (by simp only[List.length_cons];omega)]
def Af (n:Nat) (f:Nat→Bool):List PV:=(List.range n).map fun x=> .bool (f x)
theorem Eg (n:Nat) (f:Nat→Bool):(Af n f).length=n:=by rw[Af,List.length_map,List.length_range]
theorem pC (n:Nat) (f:Nat→Bool) {i:Nat} (h:i < (Af n f).length):(Af n f)[i]= .bool (f i):=by
 simp only[Af,List.getElem_map,List.getElem_range]
theorem rz {n:Nat} (f:Nat→Bool) {i:Nat} (h:i < n):(Af n f)[i]? =some (.bool (f i)):=by
 rw[List.getElem?_eq_getElem (by rw[Eg];exact h),pC]
theorem tabN_get? (n:Nat) (f:Nat→Bool) (i:Nat):(Af n f)[i]? =if i < n then some (.bool (f i)) else none:=by
 by_cases h:i < n
 ·rw[if_pos h,rz f h]
 ·rw[if_neg h,List.getElem?_eq_none (by rw[Eg];omega)]
theorem uD {n:Nat} {f g:Nat→Bool} (h:∀ x,x < n→f x=g x):Af n f=Af n g:=by
 unfold Af
 apply List.map_congr_left
 intro x hx
 rw[h x (by simpa using hx)]
theorem bJ (n:Nat) (f:Nat→Bool):∀ e∈Af n f,(AV.pv e).one=true:=by
 intro e he
 obtain⟨x,_,rfl⟩:=List.mem_map.1 he
 rfl
theorem AD (n:Nat):List.replicate n (PV.bool false)=Af n fun _=>false:=by
 apply List.ext_getElem
 ·rw[List.length_replicate,Eg]
 ·intro j h1 h2;rw[List.getElem_replicate,pC]
theorem yS (f:Nat→Bool):Pf f=Af 256 f:=rfl
theorem GR {n:Nat} (f g:Nat→Bool) {m off:Nat} (h:off+m≤n):na (Af n f) off (Af m g)=Af n fun j=>if off≤j∧j < off+m then g (j - off) else f j:=by
 apply List.ext_getElem?
 intro j
 rw[fh _ _ _ _ (by rw[Eg,Eg];exact h),Eg,tabN_get?,tabN_get?,tabN_get?]
 by_cases h1:off≤j∧j < off+m
 ·rw[if_pos h1,if_pos (show j - off < m by omega),if_pos (by omega)]
  simp only[if_pos h1]
 ·rw[if_neg h1]
  simp only[if_neg h1]
theorem JC {α β:Type} (f:α→β):∀ (vs cs:List α) (off:Nat),na (cs.map f) off (vs.map f)=(na cs off vs).map f
 | [],cs,off=>rfl
 |v::vs,cs,off=>by
  rw[List.map_cons,na,na,←JC f vs,List.map_set]
theorem WT {A:List ba} {id n off m:Nat} {f g:Nat→Bool} (hg:A[id]? =some (Fb (Af n f))) (h:off+m≤n):
 Ma A m (.ptr id off) (.pv (.agg (Af m g)))=some (A.set id (Fb (Af n fun j=>if off≤j∧j < off+m then g (j - off) else f j))):=by
 have hc':(AV.pv (.agg (Af m g))).cells=(Af m g).map .pv:=rfl
 simp only[Ma,hg,hc']
 rw[if_pos ⟨by rw[List.length_map,Eg],by rw[List.all_eq_true];intro v hv;obtain⟨e,he,rfl⟩:=List.mem_map.1 hv;exact bJ _ _ e he⟩,
  if_pos (by rw[List.length_map,Eg];exact h),JC,GR f g h]
def Wp (s:Yb) (k x:Nat):Bool:=match s.parts[k]? with
 |some l=>aj l x
 |none=>false
def Zm (s:Yb) (k j:Nat):Bool:=decide (j / 256 < k)&&Wp s (j / 256) (j % 256)
def jy (s:Yb):List PV:=Af 2048 (Zm s 8)
theorem TP (s:Yb) {k:Nat} (hk:k < s.parts.length):(fun j=>if k * 256≤j∧j < k * 256+256 then aj s.parts[k] (j - k * 256) else Zm s k j)=Zm s (k+1):=by
 funext j
 by_cases h:k * 256≤j∧j < k * 256+256
 ·have h1:j / 256=k:=by omega
  have h2:j % 256=j - k * 256:=by omega
  rw[if_pos h,Zm,h1,h2,Wp,List.getElem?_eq_getElem hk]
  simp
 ·rw[if_neg h,Zm,Zm]
  congr 1
  rw[decide_eq_decide];omega
theorem MQ (s:Yb) (h8:s.parts.length≤8):Af 2048 (Zm s s.parts.length)=jy s:=by
 refine uD fun j hj=> ?_
 unfold Zm
 have h2:decide (j / 256 < 8)=true:=decide_eq_true (by omega)
 rw[h2,Bool.true_and]
 by_cases h:j / 256 < s.parts.length
 ·rw[decide_eq_true h,Bool.true_and]
 ·rw[decide_eq_false h,Bool.false_and,Wp,List.getElem?_eq_none (by omega)]
abbrev Bc (i:Nat):List PV:=mc 0 fun j=>decide (j < i)
abbrev Tw (S:PV) (nl:Bool) (es:List PV) (i k:Int):Tr:=(((((Tr.lf.set 9 (.pv (i64 k))).set 8 (.ptr 2 0)).set 7 (.pv (i64 i))).set 6 (.ptr 1 0)).set 5 (.uq 0 nl 2048 es)).set 1 (.pv (.rp [S] 0))
abbrev Ow (S:PV) (nl:Bool) (es:List PV) (i:Int):Tr:=(((Tr.lf.set 7 (.pv (i64 i))).set 6 (.ptr 1 0)).set 5 (.uq 0 nl 2048 es)).set 1 (.pv (.rp [S] 0))
theorem EP (call:ab) {S:PV} {ss:List Yb} {es:List PV} (hS:Xa S ss es) {i:Nat} (hi:i < ss.length) (h8:ss[i].parts.length≤8) (nl:Bool) (os:List PV) (m:Nat) (F:List PV):
 Md (fun r=>∃ E,r=(.exit 2,⟨E,[.tok 2048 m nl,Fb F,Fb (jy ss[i])]⟩)∧E.get 1= .pv (.rp [S] 0)∧E.get 5= .uq 0 nl 2048 os∧E.get 6= .ptr 1 0∧E.get 7= .pv (i64 i)∧E.get 8= .ptr 2 0)
  (gb (fa (ta call qf) (ga 3 [1,5,6,7,8,9])) oa ⟨Tw S nl os i 0,[.tok 2048 m nl,Fb F,Fb (Af 2048 fun _=>false)]⟩):=by
 obtain⟨P,ps,hP,a0⟩:=hS.Uc hi
 rw[← MQ _ h8]
 have ln:=hP.parts.Sb
 have hz:(Af 2048 fun _=>false)=Af 2048 (Zm ss[i] 0):=uD fun j _=>by rw[Zm];simp
 rw[hz]
 generalize ss[i]=s at *
 refine wa (yb (g:=fa (ta call qf) (ga 3 [1,5,6,7,8,9]))
  (fun k t=>t=⟨Tw S nl os i k,[.tok 2048 m nl,Fb F,Fb (Af 2048 (Zm s k))]⟩)
  s.parts.length (by unfold oa;omega) _ rfl ?_ ?_) (fun r h=>h.2)
 ·rintro k t hk rfl
  obtain⟨v,hv,hpt,_⟩:=hP.parts.Uc hk []
  have a1:=hP.parts.Su hv
  have hm:=Uv hpt.is hpt.sz
  have hnx:=TP s hk
  have e1:decide ((k:Int) < (s.parts.length:Int))=true:=Ga (by omega)
  have t2:IntKind.i64.wrap ((k:Int)+1)=((k+1:Nat):Int):=Da (by omega)
  have hq:Fa (k:Int) 8:=by unfold Fa;omega
  have t1:((k:Int)).toNat=k:=by simp
  have pl:=jj (A:=[.tok 2048 m nl,Fb F,Fb (Af 2048 (Zm s k))]) (id:=2) (es:=Af 2048 (Zm s k)) rfl 0 (k * 256)
  rw[Nat.zero_add] at pl
  have st:=WT (A:=[.tok 2048 m nl,Fb F,Fb (Af 2048 (Zm s k))]) (id:=2) (n:=2048) (off:=k * 256) (m:=256) (f:=Zm s k) (g:=aj s.parts[k]) rfl (by omega)
  rw[hnx,←yS] at st
  have st2:([.tok 2048 m nl,Fb F,Fb (Af 2048 (Zm s k))]:List ba).set 2 (Fb (Af 2048 (Zm s (k+1))))=[.tok 2048 m nl,Fb F,Fb (Af 2048 (Zm s (k+1)))]:=rfl
  rw[st2] at st
  have c1:=Mg F 3
  have c2:=Mg (Af 2048 (Zm s (k+1))) 3
  have c0:pa 3 (.tok 2048 m nl)=some (.tok 2048 m nl):=rfl
  have hLN:∀ st:St,st=⟨Tw S nl os i (k+1:Nat),[.tok 2048 m nl,Fb F,Fb (Af 2048 (Zm s (k+1)))]⟩→LN (fun k t=>t=⟨Tw S nl os i k,[.tok 2048 m nl,Fb F,Fb (Af 2048 (Zm s k))]⟩)
   (fun r=>∃ E,r=(.exit 2,⟨E,[.tok 2048 m nl,Fb F,Fb (Af 2048 (Zm s s.parts.length))]⟩)∧E.get 1= .pv (.rp [S] 0)∧E.get 5= .uq 0 nl 2048 os∧E.get 6= .ptr 1 0∧E.get 7= .pv (i64 i)∧E.get 8= .ptr 2 0) k (.norm,st):=fun st h=>h
  generalize LN _ _ k=QQ at hLN ⊢
  generalize Fb F=oF at *
  generalize Fb (Af 2048 (Zm s k))=oT at *
  generalize Fb (Af 2048 (Zm s (k+1)))=oT' at *
  generalize Pf (aj s.parts[k])=T at *
  have hcl:Ra (pa 3) [.tok 2048 m nl,oF,oT']=some [.tok 2048 m nl,oF,oT']:=by simp only[Ra,c0,c1,c2,Option.bind_some,Option.map_some]
  have htk:∀ a b c:ba,([a,b,c]:List ba).take 3=[a,b,c]:=fun a b c=>rfl
  have d0:(0 < 3)=True:=by simp
  have d1:(1 < 3)=True:=by simp
  have d2:(2 < 3)=True:=by simp
  simp -implicitDefEqProofs only[SX,sevalprocAttr,-List.reduceReplicate,qf,Tb,Na,xc,Qc,a0,a1,ln,e1,hm,eq_true hq,t1,t2,pl,st,hcl,htk,d0,d1,d2,ga,za,AV.cut,qa,Tw]
  exact hLN _ rfl
 ·rintro t rfl
  have e1:decide ((s.parts.length:Int) < (s.parts.length:Int))=false:=Ia (by omega)
  generalize Fb (Af 2048 (Zm s s.parts.length))=oT
  generalize Fb F=oF
  generalize hQ:(fun r:Ex×St=>r.1.stop=true∧_)=Q
  simp -implicitDefEqProofs only[SX,sevalprocAttr,-List.reduceReplicate,qf,Tb,Na,xc,Qc,a0,ln,e1,Tw]
  subst hQ
  exact⟨rfl,_,rfl,by simp[Tr.aa],by simp[Tr.aa],by simp[Tr.aa],by simp[Tr.aa],by simp[Tr.aa]⟩
end Go.AM.B1
namespace Go.AM.B1
open Go.AM Go.AM.So
theorem RK {i:Nat} (hi:i < 32):(Bc i).set (1+i) (.bool true)=Bc (i+1):=by
 rw[Nat.add_comm 1 i]
 unfold Bc mc
 rw[List.set_cons_succ,RM _ hi]
 congr 1
 refine Vs fun x hx=> ?_
 by_cases h:x=i
 ·subst h;simp
 ·rw[if_neg h,decide_eq_decide];omega
def We (ss:List Yb):List PV:=ss.map fun s=> .agg (jy s)
theorem bO (call:ab) {S:PV} {ss:List Yb} {es:List PV} (hS:Xa S ss es) (hw:ss.length≤32) (h8:∀ s∈ss,s.parts.length≤8):
 Md (fun r=>∃ E nl,r=(.exit 0,⟨E,[.tok 2048 ss.length nl,Fb (Bc ss.length)]⟩)∧E.get 1= .pv (.rp [S] 0)∧E.get 5= .uq 0 nl 2048 (We ss)∧E.get 6= .ptr 1 0)
  (gb (fa (ta call vf) (ga 2 [1,5,6,7])) oa ⟨Ow S true [] 0,[.tok 2048 0 true,Fb (Bc 0)]⟩):=by
 have ln:=hS.Sb
 refine wa (yb (g:=fa (ta call vf) (ga 2 [1,5,6,7]))
  (fun i t=>∃ nl,t=⟨Ow S nl (We (ss.take i)) i,[.tok 2048 i nl,Fb (Bc i)]⟩)
  ss.length (by unfold oa;omega) _ ⟨true,rfl⟩ ?_ ?_) (fun r h=>h.2)
 ·rintro i t hi ⟨nl,rfl⟩
  have hin:=EP call hS hi (h8 _ (List.getElem_mem hi)) nl (We (ss.take i)) i (Bc (i+1))
  have hnext:We (ss.take (i+1))=We (ss.take i)++[.agg (jy ss[i])]:=by
   have:ss.take (i+1)=ss.take i++[ss[i]]:=by simp
   rw[this,We,List.map_append];rfl
  have hel:(We (ss.take i)).length=i:=by rw[We,List.length_map,List.length_take];omega
  have e1:decide ((i:Int) < (ss.length:Int))=true:=Ga (by omega)
  have t2:=Ua hi (show ss.length≤maxLen by unfold maxLen;omega)
  have hq:Fa (i:Int) 32:=by unfold Fa;omega
  have t1:((i:Int)).toNat=i:=by simp
  have m1:i * 1=i:=by omega
  have p1:=jj (A:=[.tok 2048 i nl,Fb (Bc i)]) (id:=1) (es:=Bc i) rfl 0 1
  have p2:=jj (A:=[.tok 2048 i nl,Fb (Bc i)]) (id:=1) (es:=Bc i) rfl 1 i
  rw[Nat.zero_add] at p1
  have st:=Nw (A:=[.tok 2048 i nl,Fb (Bc i)]) (id:=1) (es:=Bc i) rfl (k:=1+i) (by rw[Bc,xg];omega) (e:= .bool true) rfl rfl
  rw[RK (by omega)] at st
  have st2:([.tok 2048 i nl,Fb (Bc i)]:List ba).set 1 (Fb (Bc (i+1)))=[.tok 2048 i nl,Fb (Bc (i+1))]:=rfl
  rw[st2] at st
  have hz1:ba.box (List.map AV.pv (List.replicate 2048 (PV.bool false)))=Fb (Af 2048 fun _=>false):=by rw[AD]
  have hcz:(List.replicate 2048 (PV.bool false)).length=2048:=List.length_replicate
  have hld:ya [.tok 2048 i nl,Fb (Bc (i+1)),Fb (jy ss[i])] true 2048 (.ptr 2 0)=some (.pv (.agg (jy ss[i]))):=fm (id:=2) rfl (Eg _ _)
  have hap:=Fg (A:=[.tok 2048 i nl,Fb (Bc (i+1)),Fb (jy ss[i])]) (id:=0) (n:=i) (sz:=2048) (h:= .uq) (nl:=nl) (ag:=true) (bytes:=2048) (es:=We (ss.take i)) rfl hel.symm (by unfold xb;omega) (.agg (jy ss[i]))
  rw[← hnext,List.set_cons_zero] at hap
  have c1:=Mg (Bc i) 3
  have c1':=Mg (Bc (i+1)) 3
  have c2:=Mg (Bc (i+1)) 2
  have c3:=Mg (Af 2048 fun _=>false) 3
  have c0:∀ k n nl,pa k (.tok 2048 n nl)=some (.tok 2048 n nl):=fun k n nl=>rfl
  have hon:=bJ 2048 (Zm ss[i] 8)
  have hol:=Eg 2048 (Zm ss[i] 8)
  have hLN:∀ st:St,st=⟨Ow S false (We (ss.take (i+1))) (i+1:Nat),[.tok 2048 (i+1) false,Fb (Bc (i+1))]⟩→LN (fun i t=>∃ nl,t=⟨Ow S nl (We (ss.take i)) i,[.tok 2048 i nl,Fb (Bc i)]⟩)
   (fun r=>∃ E nl,r=(.exit 0,⟨E,[.tok 2048 ss.length nl,Fb (Bc ss.length)]⟩)∧E.get 1= .pv (.rp [S] 0)∧E.get 5= .uq 0 nl 2048 (We ss)∧E.get 6= .ptr 1 0) i (.norm,st):=fun st h=>⟨false,h⟩
  generalize LN _ _ i=QQ at hLN ⊢
  have hcl3:Ra (pa 3) [.tok 2048 i nl,Fb (Bc (i+1)),Fb (Af 2048 fun _=>false)]=some [.tok 2048 i nl,Fb (Bc (i+1)),Fb (Af 2048 fun _=>false)]:=by simp only[Ra,c0,c1',c3,Option.bind_some,Option.map_some]
  have hcl2:Ra (pa 2) [.tok 2048 (i+1) false,Fb (Bc (i+1))]=some [.tok 2048 (i+1) false,Fb (Bc (i+1))]:=by simp only[Ra,c0,c2,Option.bind_some,Option.map_some]
  change ∀ e∈jy ss[i],_ at hon
  change (jy ss[i]).length=2048 at hol
  generalize jy ss[i]=T at *
  generalize We (ss.take i)=os at *
  generalize We (ss.take (i+1))=os' at *
  generalize hzs:List.replicate 2048 (PV.bool false)=zs at *
  have hall:((T.map AV.pv).all AV.one)=true:=by
   rw[List.all_eq_true];intro v hv
   obtain⟨e,he,rfl⟩:=List.mem_map.1 hv
   exact hon e he
  have hsr:na (zs.map AV.pv++[]) 0 (T.map AV.pv)=T.map AV.pv:=by
   have:=Ku (T.map AV.pv) (zs.map AV.pv) [] (by simp;omega)
   rw[List.append_nil]
   simpa using this
  have hTl:(T.map AV.pv).length=2048:=by rw[List.length_map,hol]
  have hap2:=ff T
  have htT:T.take 2048=T:=List.take_of_length_le (by omega)
  have hle:(2048≤(zs.map AV.pv++[]).length)=True:=eq_true (by rw[List.append_nil,List.length_map,hcz];exact Nat.le_refl _)
  generalize hoz:Fb (Af 2048 fun _=>false)=oz at *
  generalize Fb (Bc i)=o1 at *
  generalize Fb (Bc (i+1))=o1' at *
  generalize hoT:Fb T=oT at *
  have htk:∀ a b c:ba,([a,b,c]:List ba).take 3=[a,b,c]:=fun a b c=>rfl
  have htk2:∀ a b c:ba,([a,b,c]:List ba).take 2=[a,b]:=fun a b c=>rfl
  have d0:(0 < 3)=True:=by simp
  have d1:(1 < 3)=True:=by simp
  have d2:(2 < 3)=True:=by simp
  have d02:(0 < 2)=True:=by simp
  have d12:(1 < 2)=True:=by simp
  simp -implicitDefEqProofs only[SP,WP,na,sevalprocAttr,-List.reduceReplicate,vf,qb,Tb,Na,ln,e1,eq_true hq,t1,m1,p1,p2,st,hzs,hz1,hcl3,htk,d0,d1,d2,ga,za,AV.cut,qa,Ow]
  refine wa hin ?_
  rintro r ⟨E,rfl,g1,g5,g6,g7,g8⟩
  simp -implicitDefEqProofs only[SP,WP,na,sevalprocAttr,-List.reduceReplicate,g1,g5,g6,g7,g8,hld,hzs,hTl,hall,hsr,hap,hap2,htT,hle,t2,hcl2,htk2,d02,d12,ga,za,AV.cut,qa]
  exact hLN _ rfl
 ·rintro t ⟨nl,rfl⟩
  rw[List.take_length]
  have e1:decide ((ss.length:Int) < (ss.length:Int))=false:=Ia (by omega)
  generalize Fb (Bc ss.length)=oF
  generalize We ss=os
  generalize hQ:(fun r:Ex×St=>r.1.stop=true∧_)=Q
  simp -implicitDefEqProofs only[SX,sevalprocAttr,-List.reduceReplicate,vf,Tb,Na,ln,e1,Ow]
  subst hQ
  exact⟨rfl,_,nl,rfl,by simp[Tr.aa],by simp[Tr.aa],by simp[Tr.aa]⟩
end Go.AM.B1
namespace Go.AM.B1
open Go.AM Go.AM.So
def Rf (f:Nat→Bool):Nat→Bool
 |0=>false
 |n+1=>Rf f n||f n
def yl (ss:List Yb) (a:Al) (x j:Nat):Bool:=a.2.toNat.testBit j&&(match ss[j]? with | some s=>Wp s a.1 x | none=>false)
def tp (ss:List Yb) (a:Al) (x j:Nat):Bool:=yl ss a x j&&(match ss[j]? with | some s=>((s.parts.length:Int)==(a.1:Int)+1) | none=>false)
abbrev oJ (S:PV) (nl nl3:Bool) (os es rs:List PV) (n x i:Int) (so en:Bool):Tr:=
 ((((((((((Tr.lf.set 18 (.pv (i64 i))).set 17 (.pv (.bool en))).set 16 (.pv (.bool so))).set 15 (.ptr 5 0)).set 14 (.pv (i64 x))).set 13 (.ptr 4 0)).set 12 (.pv (i64 n))).set 11 (.uq 3 nl3 256 rs)).set 10 (.uq 2 false 33 es)).set 5 (.uq 0 nl 2048 os)).set 1 (.pv (.rp [S] 0))
theorem WI (d:Int) (f:Nat→Bool) {i:Nat} (h:i < 32):(mc d f)[1+i]? =some (.bool (f i)):=by
 rw[Nat.add_comm,mc,List.getElem?_cons_succ,OH f h]
theorem qE (H:List ba) (id:Nat) (nl:Bool) {l:List Al} {i:Nat} {a:Al} (ha:l[i]? =some a):ua H 33 (.uq id nl 33 (l.map Ie)) (i:Int)=some (.pv (.rp (mc a.1 a.2.toNat.testBit) 0)):=by
 have hi:=(List.getElem?_eq_some_iff.1 ha).1
 simp only[ua]
 rw[if_pos (by refine⟨trivial,?_⟩;unfold Fa;simp;omega)]
 simp[ha,Ie,PV.cells]
theorem aO (H:List ba) (id:Nat) (nl:Bool) {ss:List Yb} {i:Nat} (hi:i < ss.length):ua H 2048 (.uq id nl 2048 (We ss)) (i:Int)=some (.pv (.rp (jy ss[i]) 0)):=by
 simp only[ua]
 rw[if_pos (by refine⟨trivial,?_⟩;unfold Fa We;simp;omega)]
 simp[hi,We,PV.cells]
theorem lj (H:List ba) (row:List PV) (o d:Nat):place H d (.pv (.rp row o))=some (.pv (.rp row (o+d))):=rfl
theorem wz {row:List PV} {k:Nat} {e:PV} (h:row[k]? =some e) (H:List ba):ya H false 1 (.pv (.rp row k))=some (.pv e):=by
 simp only[ya,jm,Bool.false_eq_true,if_false,h,Option.map_some]
theorem WU (call:ab) {S:PV} {ss:List Yb} {es:List PV} (hS:Xa S ss es) (hw:ss.length≤32) (h8:∀ s∈ss,s.parts.length≤8) {sets:List Al} {n x:Nat} {a:Al} (ha:sets[n]? =some a) (hx:x < 256)
 (Aa:∀ i s,ss[i]? =some s→a.2.toNat.testBit i=true→a.1 < s.parts.length) (hd:a.1≤64)
 (nl nl3:Bool) (rs:List PV) (o0 o1 o2 o3 o4:ba) (hc:Ra (pa 6) [o0,o1,o2,o3,o4]=some [o0,o1,o2,o3,o4]):
 Md (fun r=>∃ E,r=(.exit 8,⟨E,[o0,o1,o2,o3,o4,Fb (mc ((a.1:Int)+1) fun j=>decide (j < ss.length)&&yl ss a x j)]⟩)∧E.get 1= .pv (.rp [S] 0)∧E.get 5= .uq 0 nl 2048 (We ss)∧E.get 10= .uq 2 false 33 (sets.map Ie)∧E.get 11= .uq 3 nl3 256 rs∧E.get 12= .pv (i64 n)∧E.get 13= .ptr 4 0∧E.get 14= .pv (i64 x)∧E.get 15= .ptr 5 0∧
  E.get 16= .pv (.bool (Rf (yl ss a x) ss.length))∧E.get 17= .pv (.bool (Rf (tp ss a x) ss.length)))
  (gb (fa (ta call pd) (ga 6 [1,5,10,11,12,13,14,15,16,17,18])) oa ⟨oJ S nl nl3 (We ss) (sets.map Ie) rs n x 0 false false,[o0,o1,o2,o3,o4,Fb (mc ((a.1:Int)+1) fun _=>false)]⟩):=by
 have ln:=hS.Sb
 have a0:(mc ((a.1:Int)+1) fun _=>false)=mc ((a.1:Int)+1) fun j=>decide (j < 0)&&yl ss a x j:=by simp
 rw[a0]
 refine wa (yb (g:=fa (ta call pd) (ga 6 [1,5,10,11,12,13,14,15,16,17,18]))
  (fun i t=>t=⟨oJ S nl nl3 (We ss) (sets.map Ie) rs n x i (Rf (yl ss a x) i) (Rf (tp ss a x) i),[o0,o1,o2,o3,o4,Fb (mc ((a.1:Int)+1) fun j=>decide (j < i)&&yl ss a x j)]⟩)
  ss.length (by unfold oa;omega) _ rfl ?_ ?_) (fun r h=>h.2)
 ·rintro i t hi rfl
  obtain⟨P,ps,hP,b0⟩:=hS.Uc hi
  have lP:=hP.parts.Sb
  have hsi:ss[i]? =some ss[i]:=List.getElem?_eq_getElem hi
  have hdep:=Aa i _ hsi
  have h8i:=h8 _ (List.getElem_mem hi)
  have i1:=fun H=>qE H 2 false ha
  have i2:=fun H=>aO H 0 nl hi
  have l1:=wz (WI (a.1:Int) a.2.toNat.testBit (i:=i) (by omega))
  have l0:=wz (show (mc (a.1:Int) a.2.toNat.testBit)[0]? =some (i64 a.1) from rfl)
  have l2:a.1 < ss[i].parts.length→∀ H,ya H false 1 (.pv (.rp (jy ss[i]) (a.1 * 256+x)))=some (.pv (.bool (Wp ss[i] a.1 x))):=by
   intro hlt
   refine wz ?_
   rw[jy,rz _ (by omega),Zm,show (a.1 * 256+x) / 256=a.1 by omega,show (a.1 * 256+x) % 256=x by omega,decide_eq_true (show a.1 < 8 by omega),Bool.true_and]
  have onE:yl ss a x i=(a.2.toNat.testBit i&&Wp ss[i] a.1 x):=by rw[yl,hsi]
  have enE:tp ss a x i=(yl ss a x i&&((ss[i].parts.length:Int)==(a.1:Int)+1)):=by rw[tp,hsi]
  have p1:=jj (A:=[o0,o1,o2,o3,o4,Fb (mc ((a.1:Int)+1) fun j=>decide (j < i)&&yl ss a x j)]) (id:=5) (es:=mc ((a.1:Int)+1) fun j=>decide (j < i)&&yl ss a x j) rfl 0 1
  have p2:=jj (A:=[o0,o1,o2,o3,o4,Fb (mc ((a.1:Int)+1) fun j=>decide (j < i)&&yl ss a x j)]) (id:=5) (es:=mc ((a.1:Int)+1) fun j=>decide (j < i)&&yl ss a x j) rfl 1 i
  rw[Nat.zero_add] at p1
  have st:=Nw (A:=[o0,o1,o2,o3,o4,Fb (mc ((a.1:Int)+1) fun j=>decide (j < i)&&yl ss a x j)]) (id:=5) (es:=mc ((a.1:Int)+1) fun j=>decide (j < i)&&yl ss a x j) rfl (k:=1+i) (by rw[xg];omega) (e:= .bool (yl ss a x i)) rfl rfl
  have hnew:(mc ((a.1:Int)+1) fun j=>decide (j < i)&&yl ss a x j).set (1+i) (.bool (yl ss a x i))=mc ((a.1:Int)+1) fun j=>decide (j < i+1)&&yl ss a x j:=by
   rw[Nat.add_comm 1 i]
   unfold mc
   rw[List.set_cons_succ,RM _ (by omega)]
   congr 1
   refine Vs fun j hj=> ?_
   by_cases h:j=i
   ·subst h;simp
   ·rw[if_neg h]
    congr 1
    rw[decide_eq_decide];omega
  rw[hnew] at st
  have st2:([o0,o1,o2,o3,o4,Fb (mc ((a.1:Int)+1) fun j=>decide (j < i)&&yl ss a x j)]:List ba).set 5 (Fb (mc ((a.1:Int)+1) fun j=>decide (j < i+1)&&yl ss a x j))=[o0,o1,o2,o3,o4,Fb (mc ((a.1:Int)+1) fun j=>decide (j < i+1)&&yl ss a x j)]:=rfl
  rw[st2] at st
  have q1:=jj (A:=[o0,o1,o2,o3,o4,Fb (mc ((a.1:Int)+1) fun j=>decide (j < i+1)&&yl ss a x j)]) (id:=5) (es:=mc ((a.1:Int)+1) fun j=>decide (j < i+1)&&yl ss a x j) rfl 0 1
  have q0:=jj (A:=[o0,o1,o2,o3,o4,Fb (mc ((a.1:Int)+1) fun j=>decide (j < i+1)&&yl ss a x j)]) (id:=5) (es:=mc ((a.1:Int)+1) fun j=>decide (j < i+1)&&yl ss a x j) rfl 0 0
  have q2:=jj (A:=[o0,o1,o2,o3,o4,Fb (mc ((a.1:Int)+1) fun j=>decide (j < i+1)&&yl ss a x j)]) (id:=5) (es:=mc ((a.1:Int)+1) fun j=>decide (j < i+1)&&yl ss a x j) rfl 1 i
  rw[Nat.zero_add] at q1 q0
  have k1:=KD (A:=[o0,o1,o2,o3,o4,Fb (mc ((a.1:Int)+1) fun j=>decide (j < i+1)&&yl ss a x j)]) (id:=5) (es:=mc ((a.1:Int)+1) fun j=>decide (j < i+1)&&yl ss a x j) rfl (WI _ _ (i:=i) (by omega))
  have k0:=KD (A:=[o0,o1,o2,o3,o4,Fb (mc ((a.1:Int)+1) fun j=>decide (j < i+1)&&yl ss a x j)]) (id:=5) (es:=mc ((a.1:Int)+1) fun j=>decide (j < i+1)&&yl ss a x j) rfl (k:=0) (e:=i64 ((a.1:Int)+1)) rfl
  rw[decide_eq_true (Nat.lt_succ_self i),Bool.true_and] at k1
  have c5:=Mg (mc ((a.1:Int)+1) fun j=>decide (j < i+1)&&yl ss a x j) 6
  have e1:decide ((i:Int) < (ss.length:Int))=true:=Ga (by omega)
  have t2:=Ua hi (show ss.length≤maxLen by unfold maxLen;omega)
  have hq:Fa (i:Int) 32:=by unfold Fa;omega
  have hqx:Fa (x:Int) 256:=by unfold Fa;omega
  have t1:∀ i:Nat,((i:Int)).toNat=i:=fun i=>by simp
  have m1:∀ i:Nat,i * 1=i:=fun i=>by omega
  have z1:∀ i:Nat,0+i=i:=fun i=>by omega
  have hLN:∀ st:St,st=⟨oJ S nl nl3 (We ss) (sets.map Ie) rs n x (i+1:Nat) (Rf (yl ss a x) i||yl ss a x i) (Rf (tp ss a x) i||tp ss a x i),[o0,o1,o2,o3,o4,Fb (mc ((a.1:Int)+1) fun j=>decide (j < i+1)&&yl ss a x j)]⟩→
   LN (fun i t=>t=⟨oJ S nl nl3 (We ss) (sets.map Ie) rs n x i (Rf (yl ss a x) i) (Rf (tp ss a x) i),[o0,o1,o2,o3,o4,Fb (mc ((a.1:Int)+1) fun j=>decide (j < i)&&yl ss a x j)]⟩)
   (fun r=>∃ E,r=(.exit 8,⟨E,[o0,o1,o2,o3,o4,Fb (mc ((a.1:Int)+1) fun j=>decide (j < ss.length)&&yl ss a x j)]⟩)∧E.get 1= .pv (.rp [S] 0)∧E.get 5= .uq 0 nl 2048 (We ss)∧E.get 10= .uq 2 false 33 (sets.map Ie)∧E.get 11= .uq 3 nl3 256 rs∧E.get 12= .pv (i64 n)∧E.get 13= .ptr 4 0∧E.get 14= .pv (i64 x)∧E.get 15= .ptr 5 0∧
    E.get 16= .pv (.bool (Rf (yl ss a x) ss.length))∧E.get 17= .pv (.bool (Rf (tp ss a x) ss.length))) i (.norm,st):=fun st h=>h
  generalize LN _ _ i=QQ at hLN ⊢
  generalize (mc ((a.1:Int)+1) fun j=>decide (j < i)&&yl ss a x j)=Y at *
  generalize (mc ((a.1:Int)+1) fun j=>decide (j < i+1)&&yl ss a x j)=Y' at *
  generalize mc (a.1:Int) a.2.toNat.testBit=row at *
  generalize Fb Y=oY at *
  generalize Fb Y'=oY' at *
  have hcl:Ra (pa 6) [o0,o1,o2,o3,o4,oY']=some [o0,o1,o2,o3,o4,oY']:=by
   simp only[Ra,Option.bind_eq_some_iff,Option.map_eq_some_iff] at hc
   simp only[Ra]
   obtain⟨_,h0,_,⟨_,h1,_,⟨_,h2,_,⟨_,h3,_,⟨_,h4,_⟩,_⟩,_⟩,_⟩,hh⟩:=hc
   simp_all
  have htk:∀ a b c d e f:ba,([a,b,c,d,e,f]:List ba).take 6=[a,b,c,d,e,f]:=fun a b c d e f=>rfl
  have d0:(0 < 6)=True:=by simp
  have d2:(2 < 6)=True:=by simp
  have d3:(3 < 6)=True:=by simp
  have d4:(4 < 6)=True:=by simp
  have d5:(5 < 6)=True:=by simp
  generalize jy ss[i]=hrow at *
  generalize ss[i]=s at *
  generalize We ss=os at *
  generalize sets.map Ie=se at *
  generalize Rf (yl ss a x) i=so at *
  generalize Rf (tp ss a x) i=en at *
  generalize hle:((s.parts.length:Int)==(a.1:Int)+1)=le at *
  rw[enE] at hLN
  rw[onE] at st k1 hLN
  generalize hbb:a.2.toNat.testBit i=bb at *
  generalize Wp s a.1 x=mm at *
  have hm6:(10≤20)=True:=by simp
  cases bb with
  |false=>
   simp only[Bool.false_and,Bool.or_false] at st k1 hLN
   cases so <;> cases en <;>
   ·simp -implicitDefEqProofs only[SX,sevalprocAttr,pd,Tb,Na,lj,ln,e1,t2,i1,i2,l0,l1,eq_true hq,eq_true hqx,t1,m1,z1,p1,p2,st,q0,q1,q2,k0,k1,hcl,htk,d0,d2,d3,d4,d5,ga,za,AV.cut,qa,oJ]
    exact hLN _ rfl
  |true=>
   have l2':=l2 (hdep rfl)
   have hqd:Fa (a.1:Int) 8:=by have:=hdep rfl;unfold Fa;omega
   simp only[Bool.true_and] at st k1 hLN
   cases mm with
   |false=>
    simp only[Bool.false_and,Bool.or_false] at hLN
    cases so <;> cases en <;>
    ·simp -implicitDefEqProofs only[SX,sevalprocAttr,pd,Tb,Na,lj,ln,e1,t2,i1,i2,l0,l1,l2',eq_true hq,eq_true hqx,eq_true hqd,t1,m1,z1,p1,p2,st,q0,q1,q2,k0,k1,hcl,htk,d0,d2,d3,d4,d5,ga,za,AV.cut,qa,oJ]
     exact hLN _ rfl
   |true=>
    simp only[Bool.true_and,Bool.or_true] at hLN
    cases so <;> cases en <;>
    ·simp -implicitDefEqProofs only[SX,sevalprocAttr,pd,Tb,Na,xc,Qc,lj,ln,lP,b0,e1,t2,i1,i2,l0,l1,l2',eq_true hq,eq_true hqx,eq_true hqd,t1,m1,z1,p1,p2,st,q0,q1,q2,k0,k1,hle,hcl,htk,d0,d2,d3,d4,d5,ga,za,AV.cut,qa,oJ]
     exact hLN _ rfl
 ·rintro t rfl
  have e1:decide ((ss.length:Int) < (ss.length:Int))=false:=Ia (by omega)
  generalize Fb (mc ((a.1:Int)+1) fun j=>decide (j < ss.length)&&yl ss a x j)=oF
  generalize We ss=os
  generalize sets.map Ie=se
  generalize Rf (yl ss a x) ss.length=so
  generalize Rf (tp ss a x) ss.length=en
  generalize hQ:(fun r:Ex×St=>r.1.stop=true∧_)=Q
  simp -implicitDefEqProofs only[SX,sevalprocAttr,pd,Tb,Na,ln,e1,oJ]
  subst hQ
  exact⟨rfl,_,rfl,by simp[Tr.aa],by simp[Tr.aa],by simp[Tr.aa],by simp[Tr.aa],by simp[Tr.aa],by simp[Tr.aa],by simp[Tr.aa],by simp[Tr.aa],by simp[Tr.aa],by simp[Tr.aa]⟩
end Go.AM.B1
namespace Go.AM.B1
open Go.AM Go.AM.So
theorem jG {x:Int}:∀ {l:List (Int×Int)} {last n:Int},Pa 255 last l=true→((Gf x n l).2=true↔Nj x l)
 | [],last,n,h=>by simp[Gf,Om]
 |p::l,last,n,h=>by
  have hp:=Gm h p (by simp)
  have h2:=h
  simp only[Pa,Bool.and_eq_true] at h2
  rw[Gf,Yl]
  by_cases h1:x < p.1
  ·rw[if_pos h1]
   simp only[Bool.false_eq_true,false_iff]
   rintro (h3 | h3)
   ·omega
   ·have:=Qn h2.2 h3;omega
  ·rw[if_neg h1]
   by_cases h3:x≤p.2
   ·rw[if_pos h3];simp;omega
   ·rw[if_neg h3,jG h2.2]
    constructor
    ·exact .inr
    ·rintro (h4 | h4)
     ·omega
     ·exact h4
theorem fQ (l:List (Int×Int)) (x:Nat):fP l x=aj l x:=by
 unfold fP sy aj
 by_cases h:Pa 255 (-2) l=true
 ·rw[if_pos h,h,Bool.true_and,Bool.eq_iff_iff,jG h,Wu]
 ·rw[if_neg h]
  have:Pa 255 (-2) l=false:=by simpa using h
  rw[this];rfl
theorem Tv (s:Yb) (d x:Nat):Ys s d x=Wp s d x:=by
 unfold Ys Wp
 cases s.parts[d]? with
 |none=>rfl
 |some l=>exact fQ l x
theorem Zs (f:Nat→Bool):∀ n,Rf f n=true↔∃ j,j < n∧f j=true
 |0=>by simp[Rf]
 |n+1=>by
  rw[Rf,Bool.or_eq_true,Zs f n]
  constructor
  ·rintro (⟨j,h1,h2⟩ | h)
   ·exact⟨j,by omega,h2⟩
   ·exact⟨n,by omega,h⟩
  ·rintro⟨j,h1,h2⟩
   by_cases h:j=n
   ·subst h;exact .inr h2
   ·exact .inl ⟨j,by omega,h2⟩
theorem FN {ss:List Yb} {a:Al} {x j:Nat} (h:ss.length≤j):yl ss a x j=false:=by
 rw[yl,List.getElem?_eq_none h,Bool.and_false]
structure MB (ss:List Yb) (a:Al) (x:Nat) (m:Nat):Prop where
 fst:(rh x a.2 a.1 0 ss (0,false)).1=(m:Int)
 lt:m < 4294967296
 bit:∀ j,m.testBit j=yl ss a x j
 ends:(rh x a.2 a.1 0 ss (0,false)).2=Rf (tp ss a x) ss.length
 ex:m≠0↔Rf (yl ss a x) ss.length=true
theorem zR {ss:List Yb} {a:Al} (hb:NS a) (hw:ss.length≤32) (x:Nat):∃ m,MB ss a x m:=by
 obtain⟨d,_⟩:=a
 obtain⟨b,rfl,hb⟩:=hb
 have hN:rh x (b:Int) d 0 ss (0,false)=(((Bt x b d 0 ss (0,false)).1:Int),(Bt x b d 0 ss (0,false)).2):=kM (x:=x) (d:=d) hb ss 0 (0,false) (by omega) (by decide)
 have hbit:∀ j,(Bt x b d 0 ss (0,false)).1.testBit j=yl ss (d,(b:Int)) x j:=by
  intro j
  rw[Xz]
  simp only[Nat.zero_testBit,Nat.zero_le,decide_true,Bool.true_and,Bool.false_or,Nat.sub_zero,yl,Int.toNat_natCast]
  cases ss[j]? with
  |none=>simp
  |some s=>simp only[Tv]
 refine⟨(Bt x b d 0 ss (0,false)).1,?_,UG ss 0 (0,false) (by omega) (by decide),hbit,?_,?_⟩
 ·show (rh x (b:Int) d 0 ss (0,false)).1=_
  rw[hN]
 ·show (rh x (b:Int) d 0 ss (0,false)).2=_
  rw[hN]
  show (Bt x b d 0 ss (0,false)).2=_
  rw[DA,Bool.false_or,Bool.eq_iff_iff,List.any_eq_true,Zs]
  constructor
  ·rintro⟨⟨s,j⟩,h1,h2⟩
   rw[List.mk_mem_zipIdx_iff_getElem?] at h1
   have hj:=(List.getElem?_eq_some_iff.1 h1).1
   refine⟨j,hj,?_⟩
   simp only[Tv,Bool.and_eq_true,beq_iff_eq] at h2
   rw[tp,yl,h1]
   simp only[Int.toNat_natCast,Bool.and_eq_true,beq_iff_eq]
   exact⟨h2.1,by omega⟩
  ·rintro⟨j,hj,h2⟩
   have h1:ss[j]? =some ss[j]:=List.getElem?_eq_getElem hj
   rw[tp,yl,h1] at h2
   simp only[Int.toNat_natCast,Bool.and_eq_true,beq_iff_eq] at h2
   refine⟨(ss[j],j),by rw[List.mk_mem_zipIdx_iff_getElem?];exact h1,?_⟩
   simp only[Tv,Bool.and_eq_true,beq_iff_eq]
   exact⟨h2.1,by omega⟩
 ·rw[Zs]
  constructor
  ·intro h
   apply Decidable.byContradiction
   intro hn
   apply h
   apply Nat.eq_of_testBit_eq
   intro j
   rw[hbit,Nat.zero_testBit]
   by_cases hj:j < ss.length
   ·cases hc:yl ss (d,(b:Int)) x j with
    |false=>rfl
    |true=>exact absurd ⟨j,hj,hc⟩ hn
   ·exact FN (by omega)
  ·rintro⟨j,hj,h⟩ h0
   rw[← hbit,h0,Nat.zero_testBit] at h
   cases h
theorem MB.enc {ss:List Yb} {a:Al} {x m:Nat} (h:MB ss a x m):mc ((a.1:Int)+1) (fun j=>decide (j < ss.length)&&yl ss a x j)=mc ((a.1+1:Nat):Int) m.testBit:=by
 have:((a.1+1:Nat):Int)=(a.1:Int)+1:=by omega
 rw[this]
 unfold mc
 congr 1
 refine Vs fun j hj=> ?_
 rw[h.bit]
 by_cases hj:j < ss.length
 ·rw[decide_eq_true hj,Bool.true_and]
 ·rw[decide_eq_false hj,Bool.false_and,FN (by omega)]
theorem MB.BX {ss:List Yb} {a:Al} {x m:Nat} (h:MB ss a x m):NS (a.1+1,(m:Int)):=⟨m,rfl,h.lt⟩
theorem MB.step {ss:List Yb} {a:Al} {x m:Nat} (h:MB ss a x m) (sets:List Al):
 Kg ss a x sets=if Rf (yl ss a x) ss.length=false then some (sets,-2)
  else if Rf (tp ss a x) ss.length=true then some (sets,-1)
  else match Ul (a.1+1,(m:Int)) sets 0 with
   |some k=>some (sets,(k:Int))
   |none=>if sets.length < 64 then some (sets++[(a.1+1,(m:Int))],(sets.length:Int)) else none:=by
 unfold Kg
 rw[h.ends,h.fst]
 have:((m:Int)=0)=(Rf (yl ss a x) ss.length=false):=by
  apply propext
  have:=h.ex
  cases hc:Rf (yl ss a x) ss.length with
  |true=>rw[hc] at this;simp;have:=this.2 rfl;omega
  |false=>
   rw[hc] at this
   simp
   exact Decidable.byContradiction fun hn=>by have:=this.1 hn;cases this
 by_cases h1:Rf (yl ss a x) ss.length=false
 ·rw[if_pos h1,if_pos (this.mpr h1)]
 ·rw[if_neg h1,if_neg (fun h=>h1 (this.mp h))]
  by_cases h2:Rf (tp ss a x) ss.length=true
  ·rw[if_pos h2,if_pos h2]
  ·rw[if_neg h2,if_neg h2]
   cases Ul (a.1+1,(m:Int)) sets 0 <;> rfl
end Go.AM.B1
namespace Go.AM.B1
open Go.AM Go.AM.So
abbrev XH (S:PV) (nl nl3:Bool) (os es rs:List PV) (n x:Int):Tr:=
 ((((((Tr.lf.set 14 (.pv (i64 x))).set 13 (.ptr 4 0)).set 12 (.pv (i64 n))).set 11 (.uq 3 nl3 256 rs)).set 10 (.uq 2 false 33 es)).set 5 (.uq 0 nl 2048 os)).set 1 (.pv (.rp [S] 0))
theorem gT:([PV.int .i64 0,PV.bool false,PV.bool false,PV.bool false,PV.bool false,PV.bool false,PV.bool false,PV.bool false,PV.bool false,PV.bool false,PV.bool false,PV.bool false,PV.bool false,PV.bool false,PV.bool false,PV.bool false,PV.bool false,PV.bool false,PV.bool false,PV.bool false,PV.bool false,PV.bool false,PV.bool false,PV.bool false,PV.bool false,PV.bool false,PV.bool false,PV.bool false,PV.bool false,PV.bool false,PV.bool false,PV.bool false,PV.bool false]:List PV)=mc 0 fun _=>false:=rfl
theorem fS (d e:Int) (f:Nat→Bool):((mc d f).map AV.pv).set 0 (.pv (i64 e))=(mc e f).map AV.pv:=rfl
theorem VH {es:List PV} (h:∀ e∈es,(AV.pv e).one=true):(es.map AV.pv).all AV.one=true:=by
 rw[List.all_eq_true];intro v hv
 obtain⟨e,he,rfl⟩:=List.mem_map.1 hv
 exact h e he
theorem wu {es zs:List PV} (h:es.length=zs.length):na (zs.map AV.pv++[]) 0 (es.map AV.pv)=es.map AV.pv:=by
 have:=Ku (es.map AV.pv) (zs.map AV.pv) [] (by simp;omega)
 rw[List.append_nil]
 simpa using this
section
variable (call:ab) {S:PV} {ss:List Yb} {es:List PV} (hS:Xa S ss es) (hw:ss.length≤32) (h8:∀ s∈ss,s.parts.length≤8) {sets:List Al} {n x:Nat} {a:Al} (ha:sets[n]? =some a) (hx:x < 256)
 (Aa:Sm ss sets) (hd:a.1≤64)
 (nl nl3:Bool) (rs:List PV) (o0 o1 o3:ba) (h0:∀ n,pa n o0=some o0) (h1:∀ n,pa n o1=some o1) (h3:∀ n,pa n o3=some o3) {row:List Int} (hrow:row.length=256)
include hS hw h8 ha hx Aa hd h0 h1 h3 hrow
set_option maxRecDepth 8000 in
theorem XE:
 Md (fun r=>(∃ p,Kg ss a x sets=some p∧r=(.norm,⟨XH S nl nl3 (We ss) (p.1.map Ie) rs n (x+1:Nat),[o0,o1,.tok 33 p.1.length false,o3,Fb ((row.set x p.2).map i64)]⟩))∨
  (Kg ss a x sets=none∧∃ E H,r=(.ret,⟨E,H⟩)∧E.get 2= .pv .ma∧E.get 3= .pv .ma∧E.get 4= .pv (.bool false)))
  (fa (ta call de) (ga 5 [1,5,10,11,12,13,14]) ⟨XH S nl nl3 (We ss) (sets.map Ie) rs n x,[o0,o1,.tok 33 sets.length false,o3,Fb (row.map i64)]⟩):=by
 obtain⟨_,b,hb,hblt,hbok⟩:=Aa.2 n a ha
 have hba:NS a:=⟨b,hb,hblt⟩
 have hall:∀ c∈sets,NS c:=by
  intro c hc
  obtain⟨k,hk,rfl⟩:=List.getElem_of_mem hc
  obtain⟨_,b,hb,hblt,_⟩:=Aa.2 k _ (List.getElem?_eq_getElem hk)
  exact⟨b,hb,hblt⟩
 have hl64:=Aa.1
 obtain⟨m,hm⟩:=zR (x:=x) hba hw
 have hstep:=hm.step sets
 have hcR:∀ n (r:List Int),pa n (Fb (r.map i64))=some (Fb (r.map i64)):=fun n r=>Mg _ n
 have c2:∀ k n,pa k (.tok 33 n false)=some (.tok 33 n false):=fun k n=>rfl
 have hc6:Ra (pa 6) [o0,o1,.tok 33 sets.length false,o3,Fb (row.map i64)]=some [o0,o1,.tok 33 sets.length false,o3,Fb (row.map i64)]:=by
  simp only[Ra,h0,h1,h3,c2,hcR,Option.bind_some,Option.map_some]
 have hl4:=WU call hS hw h8 ha hx (fun i s hs ht=>hbok i s hs (by rw[hb] at ht;simpa using ht)) hd nl nl3 rs o0 o1 (.tok 33 sets.length false) o3 (Fb (row.map i64)) hc6
 rw[hm.enc] at hl4
 have i1:=fun H=>qE H 2 false ha
 have l0:=wz (show (mc (a.1:Int) a.2.toNat.testBit)[0]? =some (i64 a.1) from rfl)
 have e1:decide ((x:Int) < 256)=true:=Ga (by omega)
 have t2:IntKind.i64.wrap ((x:Int)+1)=((x+1:Nat):Int):=Da (by omega)
 have t3:IntKind.i64.wrap ((a.1:Int)+1)=(a.1:Int)+1:=Da (by omega)
 have hq:Fa (x:Int) 256:=by unfold Fa;omega
 have t1:∀ i:Nat,((i:Int)).toNat=i:=fun i=>by simp
 have m1:∀ i:Nat,i * 1=i:=fun i=>by omega
 have z1:∀ i:Nat,0+i=i:=fun i=>by omega
 have zl:=xg 0 fun _=>false
 have f1:(0+1≤((mc 0 fun _=>false).map AV.pv).length)=True:=eq_true (by rw[List.length_map,zl];omega)
 have f1':(1≤((mc 0 fun _=>false).map AV.pv).length)=True:=eq_true (by rw[List.length_map,zl];omega)
 have f2:=fS 0 ((a.1:Int)+1) fun _=>false
 have f3:=ff (mc ((a.1:Int)+1) fun _=>false)
 have st0:Ma [o0,o1,.tok 33 sets.length false,o3,Fb (row.map i64),Fb (mc 0 fun _=>false)] 33 (.ptr 5 0) (.pv (.agg (mc ((a.1:Int)+1) fun _=>false)))=some [o0,o1,.tok 33 sets.length false,o3,Fb (row.map i64),Fb (mc ((a.1:Int)+1) fun _=>false)]:=
  Ap (id:=5) rfl zl (xg _ _) (Nv _ _)
 have hcl6:∀ Y:List PV,Ra (pa 6) [o0,o1,.tok 33 sets.length false,o3,Fb (row.map i64),Fb Y]=some [o0,o1,.tok 33 sets.length false,o3,Fb (row.map i64),Fb Y]:=by
  intro Y
  simp only[Ra,h0,h1,h3,c2,hcR,Mg Y 6,Option.bind_some,Option.map_some]
 have hcl60:=hcl6 (mc ((a.1:Int)+1) fun _=>false)
 have hcl5:∀ (k:Nat) (r:List Int),Ra (pa 5) [o0,o1,.tok 33 k false,o3,Fb (r.map i64)]=some [o0,o1,.tok 33 k false,o3,Fb (r.map i64)]:=by
  intro k r
  simp only[Ra,h0,h1,h3,c2,hcR,Option.bind_some,Option.map_some]
 have htk6:∀ a b c d e f:ba,([a,b,c,d,e,f]:List ba).take 6=[a,b,c,d,e,f]:=fun a b c d e f=>rfl
 have htk5:∀ a b c d e f:ba,([a,b,c,d,e,f]:List ba).take 5=[a,b,c,d,e]:=fun a b c d e f=>rfl
 have d6:∀ k:Fin 6,((k:Nat) < 6)=True:=by intro k;simp
 have d60:(0 < 6)=True:=by simp
 have d62:(2 < 6)=True:=by simp
 have d63:(3 < 6)=True:=by simp
 have d64:(4 < 6)=True:=by simp
 have d65:(5 < 6)=True:=by simp
 have d50:(0 < 5)=True:=by simp
 have d52:(2 < 5)=True:=by simp
 have d53:(3 < 5)=True:=by simp
 have d54:(4 < 5)=True:=by simp
 have pl:∀ (k:Nat) (r:List Int) (Y:List PV),place [o0,o1,.tok 33 k false,o3,Fb (r.map i64),Fb Y] x (.ptr 4 0)=some (.ptr 4 x):=by
  intro k r Y
  have:=jj (A:=[o0,o1,.tok 33 k false,o3,Fb (r.map i64),Fb Y]) (id:=4) (es:=r.map i64) rfl 0 x
  rw[this,Nat.zero_add]
 have st:∀ (k:Nat) (r:List Int) (Y:List PV) (v:Int),r.length=256→Ma [o0,o1,.tok 33 k false,o3,Fb (r.map i64),Fb Y] 1 (.ptr 4 x) (.pv (i64 v))=some [o0,o1,.tok 33 k false,o3,Fb ((r.set x v).map i64),Fb Y]:=by
  intro k r Y v hr
  have:=Nw (A:=[o0,o1,.tok 33 k false,o3,Fb (r.map i64),Fb Y]) (id:=4) (es:=r.map i64) rfl (k:=x) (by rw[List.length_map];omega) (e:=i64 v) rfl rfl
  rw[this,List.map_set];rfl
 have hset:∀ v,((row.set x (-2)).set x v)=row.set x v:=fun v=>by rw[List.set_set]
 have st1:=st sets.length row (mc ((a.1+1:Nat):Int) m.testBit) (-2) hrow
 have st2:=fun (k:Nat) v=>st k (row.set x (-2)) (mc ((a.1+1:Nat):Int) m.testBit) v (by simp[hrow])
 simp only[hset] at st2
 have pl1:=pl sets.length row (mc ((a.1+1:Nat):Int) m.testBit)
 have pl2:=fun k=>pl k (row.set x (-2)) (mc ((a.1+1:Nat):Int) m.testBit)
 have hfd:=iT hl64 hm.BX hall
 have hldY:∀ (k:Nat) (r:List Int),ya [o0,o1,.tok 33 k false,o3,Fb (r.map i64),Fb (mc ((a.1+1:Nat):Int) m.testBit)] true 33 (.ptr 5 0)=some (.pv (.agg (mc ((a.1+1:Nat):Int) m.testBit))):=fun k r=>fm (id:=5) rfl (xg _ _)
 have hYl:((mc ((a.1+1:Nat):Int) m.testBit).map AV.pv).length=33:=by rw[List.length_map,xg]
 have hYl':=xg ((a.1+1:Nat):Int) m.testBit
 have hYr:na ((mc 0 fun _=>false).map AV.pv++[]) 0 ((mc ((a.1+1:Nat):Int) m.testBit).map AV.pv)=(mc ((a.1+1:Nat):Int) m.testBit).map AV.pv:=wu (by rw[xg,xg])
 have hYa:=VH (Nv ((a.1+1:Nat):Int) m.testBit)
 have hYp:=ff (mc ((a.1+1:Nat):Int) m.testBit)
 have hYt:(mc ((a.1+1:Nat):Int) m.testBit).take 33=mc ((a.1+1:Nat):Int) m.testBit:=List.take_of_length_le (by rw[xg];exact Nat.le_refl _)
 have f4:(33≤((mc 0 fun _=>false).map AV.pv++[]).length)=True:=eq_true (by rw[List.append_nil,List.length_map,zl];exact Nat.le_refl _)
 have hap:sets.length < 64→Zb [o0,o1,.tok 33 sets.length false,o3,Fb ((row.set x (-2)).map i64),Fb (mc ((a.1+1:Nat):Int) m.testBit)] false .uq 33 true 40 (.uq 2 false 33 (sets.map Ie)) (.pv (.lit 33 [.agg (mc ((a.1+1:Nat):Int) m.testBit)]))=
  some (.uq 2 false 33 ((sets++[(a.1+1,(m:Int))]).map Ie),[o0,o1,.tok 33 (sets.length+1) false,o3,Fb ((row.set x (-2)).map i64),Fb (mc ((a.1+1:Nat):Int) m.testBit)]):=by
  intro hlt
  have:=Fg (A:=[o0,o1,.tok 33 sets.length false,o3,Fb ((row.set x (-2)).map i64),Fb (mc ((a.1+1:Nat):Int) m.testBit)]) (id:=2) (n:=sets.length) (sz:=33) (h:= .uq) (nl:=false) (ag:=true) (bytes:=40) (es:=sets.map Ie) rfl (by rw[List.length_map]) (by unfold xb;omega) (.agg (mc ((a.1+1:Nat):Int) m.testBit))
  rw[this,List.map_append];rfl
 have hen:Ie (a.1+1,(m:Int))= .agg (mc ((a.1+1:Nat):Int) m.testBit):=by simp[Ie]
 rw[hen] at hfd
 have lsn:Sb [] 0 (.uq 2 false 33 (sets.map Ie))=some sets.length:=by simp[Sb]
 have hslen:(sets.map Ie).length=sets.length:=List.length_map _
 have hR1:∀ p,Kg ss a x sets=some p→∀ st:St,st=⟨XH S nl nl3 (We ss) (p.1.map Ie) rs n (x+1:Nat),[o0,o1,.tok 33 p.1.length false,o3,Fb ((row.set x p.2).map i64)]⟩→(∃ p,Kg ss a x sets=some p∧(Ex.norm,st)=(Ex.norm,⟨XH S nl nl3 (We ss) (p.1.map Ie) rs n (x+1:Nat),[o0,o1,.tok 33 p.1.length false,o3,Fb ((row.set x p.2).map i64)]⟩))∨
  (Kg ss a x sets=none∧∃ E H,(Ex.norm,st)=(.ret,⟨E,H⟩)∧E.get 2= .pv .ma∧E.get 3= .pv .ma∧E.get 4= .pv (.bool false)):=fun p hp st h=> .inl ⟨p,hp,by rw[h]⟩
 have hR2:Kg ss a x sets=none→∀ E H,E.get 2= .pv .ma→E.get 3= .pv .ma→E.get 4= .pv (.bool false)→(∃ p,Kg ss a x sets=some p∧(Ex.ret,(⟨E,H⟩:St))=(Ex.norm,⟨XH S nl nl3 (We ss) (p.1.map Ie) rs n (x+1:Nat),[o0,o1,.tok 33 p.1.length false,o3,Fb ((row.set x p.2).map i64)]⟩))∨
  (Kg ss a x sets=none∧∃ E' H',(Ex.ret,(⟨E,H⟩:St))=(.ret,⟨E',H'⟩)∧E'.get 2= .pv .ma∧E'.get 3= .pv .ma∧E'.get 4= .pv (.bool false)):=fun hp E H g2 g3 g4=> .inr ⟨hp,E,H,rfl,g2,g3,g4⟩
 generalize hQQ:(fun r:Ex×St=>_)=QQ
 have hz:=gT
 generalize hzs:(mc 0 fun _=>false)=zs at *
 generalize hys:(mc ((a.1:Int)+1) fun _=>false)=ys at *
 generalize hYY:mc ((a.1+1:Nat):Int) m.testBit=Y at *
 generalize mc (a.1:Int) a.2.toNat.testBit=arow at *
 generalize hRR:Fb (row.map i64)=R at *
 simp -implicitDefEqProofs only[SP,WP,na,sevalprocAttr,de,qb,lj,e1,t3,i1,l0,hz,f1,f1',f2,f3,st0,hcl60,htk6,d60,d62,d63,d64,d65,ga,za,AV.cut,qa,XH]
 refine wa hl4 ?_
 rintro r ⟨E,rfl,g1,g5,g10,g11,g12,g13,g14,g15,g16,g17⟩
 cases hso:Rf (yl ss a x) ss.length with
 |false=>
  rw[hso] at g16
  rw[if_pos hso] at hstep
  cases hen2:Rf (tp ss a x) ss.length <;>
  ·rw[hen2] at g17
   simp -implicitDefEqProofs only[SP,WP,na,sevalprocAttr,g1,g5,g10,g11,g12,g13,g14,g15,g16,g17,eq_true hq,t1,m1,t2,pl1,st1,hcl5,htk5,d50,d52,d53,d54,ga,za,AV.cut,qa]
   subst hQQ
   exact hR1 _ hstep _ rfl
 |true=>
  rw[hso] at g16
  rw[if_neg (by rw[hso];simp)] at hstep
  cases hen2:Rf (tp ss a x) ss.length with
  |true=>
   rw[hen2] at g17
   rw[if_pos hen2] at hstep
   simp -implicitDefEqProofs only[SP,WP,na,sevalprocAttr,g1,g5,g10,g11,g12,g13,g14,g15,g16,g17,eq_true hq,t1,m1,t2,pl1,pl2,st1,st2,hcl5,htk5,d50,d52,d53,d54,ga,za,AV.cut,qa]
   subst hQQ
   exact hR1 _ hstep _ rfl
  |false=>
   rw[hen2] at g17
   rw[if_neg (by rw[hen2];simp)] at hstep
   cases hix:Ul (a.1+1,(m:Int)) sets 0 with
   |some k=>
    rw[hix] at hstep hfd
    simp only at hstep hfd
    have dk:decide ((k:Int) < 0)=false:=Ia (by omega)
    simp -implicitDefEqProofs only[SP,WP,na,sevalprocAttr,g1,g5,g10,g11,g12,g13,g14,g15,g16,g17,eq_true hq,t1,m1,t2,pl1,pl2,st1,st2,hldY,hfd,dk,hcl5,htk5,d50,d52,d53,d54,ga,za,AV.cut,qa]
    subst hQQ
    exact hR1 _ hstep _ rfl
   |none=>
    rw[hix] at hstep hfd
    simp only at hstep hfd
    have dk:decide ((-1:Int) < 0)=true:=by decide
    by_cases hlt:sets.length < 64
    ·have hap':=hap hlt
     rw[if_pos hlt] at hstep
     have e64:((sets.length:Int)==64)=false:=uh (by omega)
     have hl1:(sets++[(a.1+1,(m:Int))]).length=sets.length+1:=by simp
     simp -implicitDefEqProofs only[SP,WP,na,sevalprocAttr,g1,g5,g10,g11,g12,g13,g14,g15,g16,g17,eq_true hq,t1,m1,t2,pl1,pl2,st1,st2,hldY,hfd,dk,hslen,e64,hap',hz,hYl,hYr,hYa,hYp,hYt,f4,hcl5,htk5,d50,d52,d53,d54,ga,za,AV.cut,qa]
     subst hQQ
     exact hR1 _ hstep _ (by rw[hl1])
    ·rw[if_neg hlt] at hstep
     have e64:((sets.length:Int)==64)=true:=by simp;omega
     simp -implicitDefEqProofs only[SP,WP,na,sevalprocAttr,g1,g5,g10,g11,g12,g13,g14,g15,g16,g17,eq_true hq,t1,m1,t2,pl1,pl2,st1,st2,hldY,hfd,dk,hslen,e64]
     subst hQQ
     exact hR2 hstep _ _ (by simp[Tr.aa]) (by simp[Tr.aa]) (by simp[Tr.aa])
end
end Go.AM.B1
namespace Go.AM.B1
open Go.AM Go.AM.So
section
variable (call:ab) {S:PV} {ss:List Yb} {es:List PV} (hS:Xa S ss es) (hw:ss.length≤32) (h8:∀ s∈ss,s.parts.length≤8) {n:Nat} {a:Al}
 (hd:a.1≤64)
 (nl nl3:Bool) (rs:List PV) (o0 o1 o3:ba) (h0:∀ n,pa n o0=some o0) (h1:∀ n,pa n o1=some o1) (h3:∀ n,pa n o3=some o3)
include hS hw h8 hd h0 h1 h3
set_option maxRecDepth 8000 in
theorem XT {sets:List Al} {row:List Int} (ha:sets[n]? =some a) (Aa:Sm ss sets) (hrow:row.length=256):
 Md (fun r=>(∃ p E,Qk ss a (List.range 256) (sets,row)=some p∧r=(.exit 6,⟨E,[o0,o1,.tok 33 p.1.length false,o3,Fb (p.2.map i64)]⟩)∧E.get 1= .pv (.rp [S] 0)∧E.get 5= .uq 0 nl 2048 (We ss)∧E.get 10= .uq 2 false 33 (p.1.map Ie)∧E.get 11= .uq 3 nl3 256 rs∧E.get 12= .pv (i64 n)∧E.get 13= .ptr 4 0)∨
  (Qk ss a (List.range 256) (sets,row)=none∧∃ E H,r=(.ret,⟨E,H⟩)∧E.get 2= .pv .ma∧E.get 3= .pv .ma∧E.get 4= .pv (.bool false)))
  (gb (fa (ta call de) (ga 5 [1,5,10,11,12,13,14])) oa ⟨XH S nl nl3 (We ss) (sets.map Ie) rs n 0,[o0,o1,.tok 33 sets.length false,o3,Fb (row.map i64)]⟩):=by
 refine wa (yb (g:=fa (ta call de) (ga 5 [1,5,10,11,12,13,14]))
  (fun x t=>∃ sets' row',t=⟨XH S nl nl3 (We ss) (sets'.map Ie) rs n x,[o0,o1,.tok 33 sets'.length false,o3,Fb (row'.map i64)]⟩∧Qk ss a (List.range 256) (sets,row)=Qk ss a ((List.range 256).drop x) (sets',row')∧Sm ss sets'∧sets'[n]? =some a∧row'.length=256)
  256 (by unfold oa;omega) _ ⟨sets,row,rfl,by rw[List.drop_zero],Aa,ha,hrow⟩ ?_ ?_) (fun r h=>h.2)
 ·rintro x t hx ⟨sets',row',rfl,hrs,hok',ha',hrow'⟩
  rw[dq hx] at hrs
  refine wa (XE call hS hw h8 ha' hx hok' hd nl nl3 rs o0 o1 o3 h0 h1 h3 hrow') ?_
  rintro r (⟨p,hst,rfl⟩ | ⟨hst,E,H,rfl,g2,g3,g4⟩)
  ·rw[vt hst] at hrs
   obtain⟨k1,t,k2⟩:=eD hok' ha' hw hst
   refine⟨p.1,row'.set x p.2,rfl,hrs,k1,?_,by simp[hrow']⟩
   rw[k2,List.getElem?_append_left (List.getElem?_eq_some_iff.1 ha').1];exact ha'
  ·rw[ct hst] at hrs
   exact .inr ⟨hrs,E,H,rfl,g2,g3,g4⟩
 ·rintro t ⟨sets',row',rfl,hrs,hok',ha',hrow'⟩
  have hdr:(List.range 256).drop 256=[]:=List.drop_of_length_le (by rw[List.length_range];exact Nat.le_refl _)
  rw[hdr,Qk] at hrs
  have e1:decide (((256:Nat):Int) < 256)=false:=Ia (by omega)
  have hfin:∀ E,E.get 1= .pv (.rp [S] 0)→E.get 5= .uq 0 nl 2048 (We ss)→E.get 10= .uq 2 false 33 (sets'.map Ie)→E.get 11= .uq 3 nl3 256 rs→E.get 12= .pv (i64 n)→E.get 13= .ptr 4 0→
   ((Ex.exit 6,(⟨E,[o0,o1,.tok 33 sets'.length false,o3,Fb (row'.map i64)]⟩:St)).1.stop=true∧((∃ p E',Qk ss a (List.range 256) (sets,row)=some p∧(Ex.exit 6,(⟨E,[o0,o1,.tok 33 sets'.length false,o3,Fb (row'.map i64)]⟩:St))=(.exit 6,⟨E',[o0,o1,.tok 33 p.1.length false,o3,Fb (p.2.map i64)]⟩)∧E'.get 1= .pv (.rp [S] 0)∧E'.get 5= .uq 0 nl 2048 (We ss)∧E'.get 10= .uq 2 false 33 (p.1.map Ie)∧E'.get 11= .uq 3 nl3 256 rs∧E'.get 12= .pv (i64 n)∧E'.get 13= .ptr 4 0)∨
    (Qk ss a (List.range 256) (sets,row)=none∧∃ E' H,(Ex.exit 6,(⟨E,[o0,o1,.tok 33 sets'.length false,o3,Fb (row'.map i64)]⟩:St))=(.ret,⟨E',H⟩)∧E'.get 2= .pv .ma∧E'.get 3= .pv .ma∧E'.get 4= .pv (.bool false)))):=
   fun E k1 k5 k10 k11 k12 k13=>⟨rfl,.inl ⟨(sets',row'),E,hrs,rfl,k1,k5,k10,k11,k12,k13⟩⟩
  generalize hQ:(fun r:Ex×St=>r.1.stop=true∧_)=Q
  generalize Fb (row'.map i64)=R at *
  generalize sets'.map Ie=se at *
  generalize We ss=os at *
  simp -implicitDefEqProofs only[SX,sevalprocAttr,-List.reduceReplicate,de,e1,XH]
  subst hQ
  exact hfin _ (by simp[Tr.aa]) (by simp[Tr.aa]) (by simp[Tr.aa]) (by simp[Tr.aa]) (by simp[Tr.aa]) (by simp[Tr.aa])
end
abbrev YG (S:PV) (nl nl3:Bool) (os es rs:List PV) (n:Int):Tr:=
 ((((Tr.lf.set 12 (.pv (i64 n))).set 11 (.uq 3 nl3 256 rs)).set 10 (.uq 2 false 33 es)).set 5 (.uq 0 nl 2048 os)).set 1 (.pv (.rp [S] 0))
section
variable (call:ab) {S:PV} {ss:List Yb} {es:List PV} (hS:Xa S ss es) (hw:ss.length≤32) (h8:∀ s∈ss,s.parts.length≤8)
 (nl:Bool) (k0:Nat) (F:List PV)
include hS hw h8
set_option maxRecDepth 8000 in
theorem WE {sets:List Al} {rs:List (List Int)} {a:Al} (ha:sets[rs.length]? =some a) (Aa:Sm ss sets):
 Md (fun r=>(∃ p,Qk ss a (List.range 256) (sets,mb)=some p∧r=(.norm,⟨YG S nl false (We ss) (p.1.map Ie) ((rs++[p.2]).map vi) (rs.length+1:Nat),[.tok 2048 k0 nl,Fb F,.tok 33 p.1.length false,.tok 256 (rs.length+1) false]⟩))∨
  (Qk ss a (List.range 256) (sets,mb)=none∧∃ E H,r=(.ret,⟨E,H⟩)∧E.get 2= .pv .ma∧E.get 3= .pv .ma∧E.get 4= .pv (.bool false)))
  (fa (ta call ee) (ga 4 [1,5,10,11,12]) ⟨YG S nl rs.isEmpty (We ss) (sets.map Ie) (rs.map vi) rs.length,[.tok 2048 k0 nl,Fb F,.tok 33 sets.length false,.tok 256 rs.length rs.isEmpty]⟩):=by
 have hn:=(List.getElem?_eq_some_iff.1 ha).1
 have hl64:=Aa.1
 have hd:a.1≤64:=by have:=(Aa.2 _ a ha).1;omega
 have hl3:=XT call hS hw h8 hd nl rs.isEmpty (rs.map vi) (.tok 2048 k0 nl) (Fb F) (.tok 256 rs.length rs.isEmpty) (fun n=>rfl) (fun n=>Mg F n) (fun n=>rfl) ha Aa xt
 have hrl:∀ p,Qk ss a (List.range 256) (sets,mb)=some p→p.2.length=256:=fun p hp=>by rw[(Tu hw (List.range 256) (sets,mb) p Aa ha hp).2.2];exact xt
 have e1:decide ((rs.length:Int) < (sets.length:Int))=true:=Ga (by omega)
 have t2:IntKind.i64.wrap ((rs.length:Int)+1)=((rs.length+1:Nat):Int):=Da (by omega)
 have hse:(sets.map Ie).length=sets.length:=List.length_map _
 have hzz:List.replicate 256 (PV.int .i64 0)=mb.map i64:=by rw[mb,List.map_replicate]
 have hz0:ba.box (List.map AV.pv (List.replicate 256 (PV.int .i64 0)))=Fb (mb.map i64):=by rw[hzz]
 have hc5:∀ (k:Nat) (R:List PV),Ra (pa 5) [.tok 2048 k0 nl,Fb F,.tok 33 k false,.tok 256 rs.length rs.isEmpty,Fb R]=some [.tok 2048 k0 nl,Fb F,.tok 33 k false,.tok 256 rs.length rs.isEmpty,Fb R]:=by
  intro k R
  have c0:∀ k n nl,pa 5 (.tok k n nl)=some (.tok k n nl):=fun k n nl=>rfl
  simp only[Ra,c0,Mg,Option.bind_some,Option.map_some]
 have hc4:∀ (k:Nat),Ra (pa 4) [.tok 2048 k0 nl,Fb F,.tok 33 k false,.tok 256 (rs.length+1) false]=some [.tok 2048 k0 nl,Fb F,.tok 33 k false,.tok 256 (rs.length+1) false]:=by
  intro k
  have c0:∀ k n nl,pa 4 (.tok k n nl)=some (.tok k n nl):=fun k n nl=>rfl
  simp only[Ra,c0,Mg,Option.bind_some,Option.map_some]
 have htk5:∀ a b c d e:ba,([a,b,c,d,e]:List ba).take 5=[a,b,c,d,e]:=fun a b c d e=>rfl
 have htk4:∀ a b c d e:ba,([a,b,c,d,e]:List ba).take 4=[a,b,c,d]:=fun a b c d e=>rfl
 have d50:(0 < 5)=True:=by simp
 have d52:(2 < 5)=True:=by simp
 have d53:(3 < 5)=True:=by simp
 have d54:(4 < 5)=True:=by simp
 have d40:(0 < 4)=True:=by simp
 have d42:(2 < 4)=True:=by simp
 have d43:(3 < 4)=True:=by simp
 have hld:∀ (k:Nat) (r:List Int),r.length=256→ya [.tok 2048 k0 nl,Fb F,.tok 33 k false,.tok 256 rs.length rs.isEmpty,Fb (r.map i64)] true 256 (.ptr 4 0)=some (.pv (.agg (r.map i64))):=fun k r hr=>fm (id:=4) rfl (by rw[List.length_map,hr])
 have hone:∀ r:List Int,∀ e∈r.map i64,(AV.pv e).one=true:=by
  intro r e he
  obtain⟨v,_,rfl⟩:=List.mem_map.1 he
  rfl
 have hap:∀ (k:Nat) (r:List Int),Zb [.tok 2048 k0 nl,Fb F,.tok 33 k false,.tok 256 rs.length rs.isEmpty,Fb (r.map i64)] false .uq 256 true 2048 (.uq 3 rs.isEmpty 256 (rs.map vi)) (.pv (.lit 256 [.agg (r.map i64)]))=
  some (.uq 3 false 256 ((rs++[r]).map vi),[.tok 2048 k0 nl,Fb F,.tok 33 k false,.tok 256 (rs.length+1) false,Fb (r.map i64)]):=by
  intro k r
  have:=Fg (A:=[.tok 2048 k0 nl,Fb F,.tok 33 k false,.tok 256 rs.length rs.isEmpty,Fb (r.map i64)]) (id:=3) (n:=rs.length) (sz:=256) (h:= .uq) (nl:=rs.isEmpty) (ag:=true) (bytes:=2048) (es:=rs.map vi) rfl (by rw[List.length_map]) (by unfold xb;omega) (.agg (r.map i64))
  rw[this,List.map_append];rfl
 have uS:(mb.map i64).length=256:=by rw[List.length_map,xt]
 have f4:(256≤((mb.map i64).map AV.pv++[]).length)=True:=eq_true (by rw[List.append_nil,List.length_map,uS];exact Nat.le_refl _)
 have hYr:∀ r:List Int,r.length=256→na ((mb.map i64).map AV.pv++[]) 0 ((r.map i64).map AV.pv)=(r.map i64).map AV.pv:=fun r hr=>wu (by rw[uS,List.length_map,hr])
 have hYa:∀ r:List Int,((r.map i64).map AV.pv).all AV.one=true:=fun r=>VH (hone r)
 have hYp:∀ r:List Int,He ((r.map i64).map AV.pv)=some (r.map i64):=fun r=>ff _
 have hYt:∀ r:List Int,r.length=256→(r.map i64).take 256=r.map i64:=fun r hr=>List.take_of_length_le (by rw[List.length_map,hr];exact Nat.le_refl _)
 have hYl:∀ r:List Int,r.length=256→((r.map i64).map AV.pv).length=256:=fun r hr=>by rw[List.length_map,List.length_map,hr]
 have hR1:∀ p,Qk ss a (List.range 256) (sets,mb)=some p→∀ st:St,st=⟨YG S nl false (We ss) (p.1.map Ie) ((rs++[p.2]).map vi) (rs.length+1:Nat),[.tok 2048 k0 nl,Fb F,.tok 33 p.1.length false,.tok 256 (rs.length+1) false]⟩→
  (∃ p,Qk ss a (List.range 256) (sets,mb)=some p∧(Ex.norm,st)=(.norm,⟨YG S nl false (We ss) (p.1.map Ie) ((rs++[p.2]).map vi) (rs.length+1:Nat),[.tok 2048 k0 nl,Fb F,.tok 33 p.1.length false,.tok 256 (rs.length+1) false]⟩))∨
   (Qk ss a (List.range 256) (sets,mb)=none∧∃ E H,(Ex.norm,st)=(.ret,⟨E,H⟩)∧E.get 2= .pv .ma∧E.get 3= .pv .ma∧E.get 4= .pv (.bool false)):=fun p hp st h=> .inl ⟨p,hp,by rw[h]⟩
 generalize hQQ:(fun r:Ex×St=>_)=QQ
 generalize hzs:mb.map i64=zs at *
 have hc5z:=hc5 sets.length zs
 generalize hRz:Fb zs=Rz at *
 generalize hoF:Fb F=oF at *
 simp -implicitDefEqProofs only[SP,WP,na,sevalprocAttr,-List.reduceReplicate,ee,qb,e1,hse,hzz,hRz,hc5z,htk5,d50,d52,d53,d54,ga,za,AV.cut,qa,YG]
 refine wa hl3 ?_
 rintro r (⟨p,E,hp,rfl,g1,g5,g10,g11,g12,g13⟩ | ⟨hp,E,H,rfl,g2,g3,g4⟩)
 ·have hpl:=hrl p hp
  have hld':=hld p.1.length p.2 hpl
  have hYr':=hYr p.2 hpl
  have hYt':=hYt p.2 hpl
  have hYl':=hYl p.2 hpl
  have hYa':=hYa p.2
  have hYp':=hYp p.2
  have hap':=hap p.1.length p.2
  generalize p.2.map i64=zp at *
  simp -implicitDefEqProofs only[SP,WP,na,sevalprocAttr,-List.reduceReplicate,g1,g5,g10,g11,g12,g13,t2,hzz,hld',hYr',hYt',hYl',hYa',hYp',hap',f4,hc4,htk4,d40,d42,d43,ga,za,AV.cut,qa]
  subst hQQ
  exact hR1 p hp _ rfl
 ·simp -implicitDefEqProofs only[SP,WP,na,sevalprocAttr,-List.reduceReplicate]
  subst hQQ
  exact .inr ⟨hp,E,H,rfl,g2,g3,g4⟩
end
end Go.AM.B1
namespace Go.AM.B1
open Go.AM Go.AM.So
attribute [local irreducible] Md
theorem CL {n:Nat} (h:n≤32) (i:Nat):(aq n).toNat.testBit i=decide (i < n):=by
 rw[sD h,Int.toNat_natCast,Nat.testBit_two_pow_sub_one]
theorem RL {n:Nat} (h:n≤32):Ie (0,aq n)= .agg (Bc n):=by
 unfold Ie Bc mc
 congr 2
 exact Vs fun i _=>CL h i
set_option maxRecDepth 8000 in
theorem fV (call:ab) {S:PV} {ss:List Yb} {es:List PV} (hS:Xa S ss es) (hw:ss.length≤32) (h8:∀ s∈ss,s.parts.length≤8) (hne:∀ s∈ss,0 < s.parts.length) (nl:Bool) (k0:Nat) (F:List PV):
 Md (fun r=>(∃ p E,Ig ss 64 (Jg ss,[])=some p∧p.2.length=p.1.length∧0 < p.2.length∧r=(.exit 4,⟨E,[.tok 2048 k0 nl,Fb F,.tok 33 p.1.length false,.tok 256 p.2.length p.2.isEmpty]⟩)∧E.get 10= .uq 2 false 33 (p.1.map Ie)∧E.get 11= .uq 3 p.2.isEmpty 256 (p.2.map vi))∨
  (Ig ss 64 (Jg ss,[])=none∧∃ E H,r=(.ret,⟨E,H⟩)∧E.get 2= .pv .ma∧E.get 3= .pv .ma∧E.get 4= .pv (.bool false)))
  (gb (fa (ta call ee) (ga 4 [1,5,10,11,12])) oa ⟨YG S nl true (We ss) ((Jg ss).map Ie) [] 0,[.tok 2048 k0 nl,Fb F,.tok 33 1 false,.tok 256 0 true]⟩):=by
 refine wa (Tp (g:=fa (ta call ee) (ga 4 [1,5,10,11,12]))
  (fun k t=>∃ (sets:List Al) (rs:List (List Int)),t=⟨YG S nl rs.isEmpty (We ss) (sets.map Ie) (rs.map vi) rs.length,[.tok 2048 k0 nl,Fb F,.tok 33 sets.length false,.tok 256 rs.length rs.isEmpty]⟩∧k+rs.length=64∧Sm ss sets∧rs.length≤sets.length∧0 < sets.length∧Ig ss 64 (Jg ss,[])=Ig ss k (sets,rs))
  oa 64 _ (by unfold oa;omega) ⟨Jg ss,[],rfl,rfl,lz hw hne,by simp,by simp[Jg],rfl⟩ ?_) (fun r h=>h.2)
 rintro k t ⟨sets,rs,rfl,hk,Aa,hle,hpos,hs⟩
 cases ha:sets[rs.length]? with
 |some a=>
  have hlt:=(List.getElem?_eq_some_iff.1 ha).1
  have hl64:=Aa.1
  obtain⟨k',rfl⟩:∃ k',k=k'+1:=⟨k - 1,by omega⟩
  refine wa (WE call hS hw h8 nl k0 F ha Aa) ?_
  rintro r (⟨p,hp,rfl⟩ | ⟨hp,E,H,rfl,g2,g3,g4⟩)
  ·obtain⟨q1,⟨t,q2⟩,q3⟩:=Tu hw (List.range 256) (sets,mb) p Aa ha hp
   simp only at q2
   have hse:(rs++[p.2]).isEmpty=false:=by cases rs <;> rfl
   have hle2:(rs++[p.2]).length=rs.length+1:=by simp
   refine⟨k',by omega,p.1,rs++[p.2],?_,by rw[hle2];omega,q1,?_,?_,?_⟩
   ·rw[hse,hle2]
   ·rw[hle2,q2,List.length_append];omega
   ·rw[q2,List.length_append];omega
   ·rw[hs,Nt ha hp]
  ·exact .inr ⟨by rw[hs,Vu ha hp],E,H,rfl,g2,g3,g4⟩
 |none=>
  have hge:sets.length≤rs.length:=by
   rcases Nat.lt_or_ge rs.length sets.length with h | h
   ·rw[List.getElem?_eq_getElem h] at ha;cases ha
   ·exact h
  rw[Ws (r:=(sets,rs)) ha] at hs
  have e1:decide ((rs.length:Int) < (sets.length:Int))=false:=Ia (by omega)
  have hse:(sets.map Ie).length=sets.length:=List.length_map _
  have hfin:∀ E,E.get 10= .uq 2 false 33 (sets.map Ie)→E.get 11= .uq 3 rs.isEmpty 256 (rs.map vi)→
   LQ (fun k t=>∃ (sets:List Al) (rs:List (List Int)),t=⟨YG S nl rs.isEmpty (We ss) (sets.map Ie) (rs.map vi) rs.length,[.tok 2048 k0 nl,Fb F,.tok 33 sets.length false,.tok 256 rs.length rs.isEmpty]⟩∧k+rs.length=64∧Sm ss sets∧rs.length≤sets.length∧0 < sets.length∧Ig ss 64 (Jg ss,[])=Ig ss k (sets,rs))
    (fun r=>(∃ p E,Ig ss 64 (Jg ss,[])=some p∧p.2.length=p.1.length∧0 < p.2.length∧r=(.exit 4,⟨E,[.tok 2048 k0 nl,Fb F,.tok 33 p.1.length false,.tok 256 p.2.length p.2.isEmpty]⟩)∧E.get 10= .uq 2 false 33 (p.1.map Ie)∧E.get 11= .uq 3 p.2.isEmpty 256 (p.2.map vi))∨
    (Ig ss 64 (Jg ss,[])=none∧∃ E H,r=(.ret,⟨E,H⟩)∧E.get 2= .pv .ma∧E.get 3= .pv .ma∧E.get 4= .pv (.bool false))) k
    (.exit 4,⟨E,[.tok 2048 k0 nl,Fb F,.tok 33 sets.length false,.tok 256 rs.length rs.isEmpty]⟩):=fun E g10 g11=> .inl ⟨(sets,rs),E,hs,by simp only;omega,by simp only;omega,rfl,g10,g11⟩
  generalize LQ _ _ k=QQ at hfin ⊢
  generalize Fb F=oF at *
  generalize sets.map Ie=se at *
  generalize rs.map vi=re at *
  generalize We ss=os at *
  simp -implicitDefEqProofs only[SX,sevalprocAttr,-List.reduceReplicate,ee,e1,hse,YG]
  exact hfin _ (by simp[Tr.aa]) (by simp[Tr.aa])
set_option maxRecDepth 8000 in
theorem PI {S:PV} {ss:List Yb} {es:List PV} (hS:Xa S ss es) (Aa:wc ss):
 (∀ p,Ig ss 64 (Jg ss,[])=some p→ef [.agg [S]]=some (.Jc [.lit 33 (p.1.map Ie),.lit 256 (p.2.map vi),.bool true])∧p.2.length=p.1.length)∧
 (Ig ss 64 (Jg ss,[])=none→ef [.agg [S]]=some (.Jc [.ma,.ma,.bool false])):=by
 have hw:=Aa.len
 have h8:∀ s∈ss,s.parts.length≤8:=fun s hs=>(Aa.jv s hs).hi
 have ln:=hS.Sb
 have hS1:(AV.pv S).one=true:=by rcases hS.is with⟨h,_⟩ | h <;> rw[h] <;> rfl
 have hl0:=bO (Ca (fun _=>none) 8) hS hw h8
 have hl2:=fun nl=>fV (Ca (fun _=>none) 8) hS hw h8 Aa.ne nl ss.length (Bc ss.length)
 have hs0:(Jg ss).map Ie=[.agg (Bc ss.length)]:=by rw[Jg,List.map_singleton,RL hw]
 rw[hs0] at hl2
 have hz:=gT
 have zl:=xg 0 fun _=>false
 have hf0:Bc 0=mc 0 fun _=>false:=by unfold Bc;congr 1
 have st0:Ma [.tok 2048 0 true,Fb (mc 0 fun _=>false)] 33 (.ptr 1 0) (.pv (.agg (mc 0 fun _=>false)))=some [.tok 2048 0 true,Fb (mc 0 fun _=>false)]:=Ap (id:=1) rfl zl zl (Nv _ _)
 have hcl2:Ra (pa 2) [.tok 2048 0 true,Fb (mc 0 fun _=>false)]=some [.tok 2048 0 true,Fb (mc 0 fun _=>false)]:=by
  have c0:∀ k n nl,pa 2 (.tok k n nl)=some (.tok k n nl):=fun k n nl=>rfl
  simp only[Ra,c0,Mg,Option.bind_some,Option.map_some]
 have htk2:∀ a b:ba,([a,b]:List ba).take 2=[a,b]:=fun a b=>rfl
 have htk4:∀ a b c d:ba,([a,b,c,d]:List ba).take 4=[a,b,c,d]:=fun a b c d=>rfl
 have hcl4:∀ nl,Ra (pa 4) [.tok 2048 ss.length nl,Fb (Bc ss.length),.tok 33 1 false,.tok 256 0 true]=some [.tok 2048 ss.length nl,Fb (Bc ss.length),.tok 33 1 false,.tok 256 0 true]:=by
  intro nl
  have c0:∀ k n nl,pa 4 (.tok k n nl)=some (.tok k n nl):=fun k n nl=>rfl
  simp only[Ra,c0,Mg,Option.bind_some,Option.map_some]
 have hld:∀ nl,ya [.tok 2048 ss.length nl,Fb (Bc ss.length)] true 33 (.ptr 1 0)=some (.pv (.agg (Bc ss.length))):=fun nl=>fm (id:=1) rfl (xg _ _)
 have fz:=ff (mc 0 fun _=>false)
 have hYl:((Bc ss.length).map AV.pv).length=33:=by rw[List.length_map,xg]
 have hYr:na ((mc 0 fun _=>false).map AV.pv++[]) 0 ((Bc ss.length).map AV.pv)=(Bc ss.length).map AV.pv:=wu (by rw[xg,xg])
 have hYa:=VH (Nv 0 fun j=>decide (j < ss.length))
 have hYp:=ff (Bc ss.length)
 have hYt:(Bc ss.length).take 33=Bc ss.length:=List.take_of_length_le (by rw[xg];exact Nat.le_refl _)
 have f4:(33≤((mc 0 fun _=>false).map AV.pv++[]).length)=True:=eq_true (by rw[List.append_nil,List.length_map,zl];exact Nat.le_refl _)
 have d20:(0 < 2)=True:=by simp
 have d21:(1 < 2)=True:=by simp
 have d40:(0 < 4)=True:=by simp
 have d42:(2 < 4)=True:=by simp
 have d43:(3 < 4)=True:=by simp
 have g1:(0 < 2048)=True:=by simp
 have g2:(0 < 256)=True:=by simp
 rw[hf0] at hl0
 have key:Md (fun r=>(∃ p,Ig ss 64 (Jg ss,[])=some p∧r=PV.Jc [.lit 33 (p.1.map Ie),.lit 256 (p.2.map vi),.bool true]∧p.2.length=p.1.length)∨(Ig ss 64 (Jg ss,[])=none∧r=PV.Jc [.ma,.ma,.bool false])) (ef [.agg [S]]):=by
  generalize hQQ:(fun r:PV=>_)=QQ
  change (((Bc ss.length).map AV.pv).all AV.one)=true at hYa
  generalize hzs:(mc 0 fun _=>false)=zs at *
  generalize hfs:Bc ss.length=fs at *
  generalize hozs:Fb zs=oz at *
  generalize hofs:Fb fs=of at *
  simp -implicitDefEqProofs only[ef,SP,WP,na,sevalprocAttr,-List.reduceReplicate,bk,hS1,hz,hozs,fz,st0,Ke,g1,g2,hcl2,htk2,d20,d21,qb,ga,za,AV.cut,qa]
  refine wa hl0 ?_
  rintro r ⟨E,nl,rfl,k1,k5,k6⟩
  have hl2':=hl2 nl
  have hcl4':=hcl4 nl
  have hld':=hld nl
  simp -implicitDefEqProofs only[SP,WP,na,sevalprocAttr,-List.reduceReplicate,k1,k5,k6,hld',hz,hYl,hYr,hYa,hYp,hYt,f4,Ke,g1,g2,hcl4',htk4,d40,d42,d43,qb,ga,za,AV.cut,qa]
  refine wa hl2' ?_
  rintro r (⟨p,E,hp,hpl,hpp,rfl,k10,k11⟩ | ⟨hp,E,H,rfl,k2,k3,k4⟩)
  ·have hie:p.2.isEmpty=false:=by
    cases hh:p.2 with
    |nil=>rw[hh] at hpp;simp at hpp
    |cons a l=>rfl
   rw[hie] at k11
   simp -implicitDefEqProofs only[SP,WP,na,sevalprocAttr,-List.reduceReplicate,k10,k11]
   subst hQQ
   exact .inl ⟨p,hp,rfl,hpl⟩
  ·simp -implicitDefEqProofs only[SP,WP,na,sevalprocAttr,-List.reduceReplicate,k2,k3,k4]
   subst hQQ
   exact .inr ⟨hp,rfl⟩
 obtain⟨r,h1,h2⟩:=Fc key
 constructor
 ·intro p hp
  rcases h2 with⟨p',hp',rfl,hl⟩ | ⟨hn,_⟩
  ·rw[hp] at hp';injection hp' with hp';subst hp';exact⟨h1,hl⟩
  ·rw[hp] at hn;cases hn
 ·intro hn
  rcases h2 with⟨p',hp',_,_⟩ | ⟨_,rfl⟩
  ·rw[hn] at hp';cases hp'
  ·exact h1
end Go.AM.B1
namespace Go.AM.B1
open Go.AM Go.AM.So
attribute [local irreducible] Md
def owns (n:Nat):List AV:=(List.range n).map fun k=> .own (2 * k+1) n
def BA (n:Nat) (f:Nat→Bool) (fl:Nat):ba:= .seq 1 false ((Af n f).map .pv) fl false
structure Zq (H:List ba) (n:Nat) (f:Nat→Nat→Bool):Prop where
 len:H.length=2 * n+1
 hd:∃ nl,nl=false∧H[0]? =some (.seq 1 false (owns n) 0 nl)
 row:∀ k,k < n→∃ fl,fl≤n∧H[2 * k+1]? =some (BA n (f k) fl)
 MH:Lg H
theorem UD (n:Nat):(owns n).length=n:=by rw[owns,List.length_map,List.length_range]
theorem IQ {n k:Nat} (h:k < n):(owns n)[k]? =some (.own (2 * k+1) n):=by
 rw[owns,List.getElem?_map,List.getElem?_range h];rfl
theorem qK (n:Nat) (f:Nat→Bool) (fl m:Nat):pa m (BA n f fl)=some (BA n f fl):=by
 have:((Af n f).map AV.pv).all (AV.Ze m deep)=true:=by
  rw[List.all_eq_true]
  intro v hv
  obtain⟨p,_,rfl⟩:=List.mem_map.1 hv
  rfl
 simp[pa,BA,this]
theorem MM (m:Nat) (g:Nat→Bool) {j:Nat} (hj:j < m) (b:Bool):(Af m g).set j (.bool b)=Af m fun x=>if x=j then b else g x:=by
 apply List.ext_getElem
 ·rw[List.length_set,Eg,Eg]
 ·intro k h1 h2
  rw[List.getElem_set,pC,pC]
  by_cases hk:j=k
  ·subst hk;rw[if_pos rfl,if_pos rfl]
  ·rw[if_neg hk,if_neg (Ne.symm hk)]
section
variable {H:List ba} {n:Nat} {f:Nat→Nat→Bool} (h:Zq H n f)
include h
theorem Zq.cut:Ra (pa (2 * n+1)) (H.take (2 * n+1))=some H:=by
 rw[← h.len,List.take_length];exact Lg.cut h.MH
theorem Zq.i0 {i:Nat} (hi:i < n):ua H 1 (.own 0 n) (i:Int)=some (.Kc 0 n i):=by
 obtain⟨nl,_,h0⟩:=h.hd
 simp only[ua,h0]
 rw[if_pos (by refine⟨trivial,?_,?_⟩ <;> first | (unfold Fa;omega) | (unfold mi;rw[UD];omega))]
 simp
theorem Zq.l0 {i:Nat} (hi:i < n):ya H false 1 (.Kc 0 n i)=some (.own (2 * i+1) n):=by
 obtain⟨nl,_,h0⟩:=h.hd
 simp only[ya,h0]
 rw[if_pos (UD n)]
 simp only[oh,Bool.false_eq_true,if_false]
 exact IQ hi
theorem Zq.i1 {i j:Nat} (hi:i < n) (hj:j < n):ua H 1 (.own (2 * i+1) n) (j:Int)=some (.Kc (2 * i+1) n j):=by
 obtain⟨fl,hf,h0⟩:=h.row i hi
 simp only[ua,h0,BA]
 rw[if_pos (by refine⟨trivial,?_,?_⟩ <;> first | (unfold Fa;omega) | (unfold mi;rw[List.length_map,Eg];omega))]
 simp
theorem Zq.l1 {i j:Nat} (hi:i < n) (hj:j < n):ya H false 1 (.Kc (2 * i+1) n j)=some (.pv (.bool (f i j))):=by
 obtain⟨fl,hf,h0⟩:=h.row i hi
 simp only[ya,h0,BA]
 rw[if_pos (by rw[List.length_map,Eg])]
 simp only[oh,Bool.false_eq_true,if_false,List.getElem?_map,rz _ hj,Option.map_some]
end
theorem Zq.store {H:List ba} {n:Nat} {f:Nat→Nat→Bool} (h:Zq H n f) {i j:Nat} (hi:i < n) (hj:j < n):
 ∃ H',Ma H 1 (.Kc (2 * i+1) n j) (.pv (.bool true))=some H'∧Zq H' n (fun a b=>if a=i∧b=j then true else f a b):=by
 obtain⟨fl,hf,h0⟩:=h.row i hi
 have hc:(AV.pv (.bool true)).cells=[.pv (.bool true)]:=rfl
 refine⟨H.set (2 * i+1) (BA n (fun b=>if b=j then true else f i b) n),?_,?_⟩
 ·simp only[Ma,h0,BA,hc]
  rw[if_pos ⟨rfl,rfl⟩,if_pos ⟨by rw[List.length_map,Eg],by show j+1≤n;omega⟩,na,na,←List.map_set,MM n _ hj]
 ·refine⟨by rw[List.length_set,h.len],?_,?_,?_⟩
  ·obtain⟨nl,hnl,h1⟩:=h.hd
   exact⟨nl,hnl,by rw[List.getElem?_set_ne (by omega)];exact h1⟩
  ·intro k hk
   by_cases hki:k=i
   ·subst hki
    refine⟨n,Nat.le_refl _,?_⟩
    rw[List.getElem?_set_self (by rw[h.len];omega)]
    have:(fun b=>if k=k∧b=j then true else f k b)=fun b=>if b=j then true else f k b:=by funext b;simp only[true_and]
    show _=some (BA n (fun b=>if k=k∧b=j then true else f k b) n)
    rw[this]
   ·obtain⟨fl',hf',h1⟩:=h.row k hk
    refine⟨fl',hf',?_⟩
    have:(fun b=>if k=i∧b=j then true else f k b)=f k:=by funext b;rw[if_neg (fun h=>hki h.1)]
    rw[List.getElem?_set_ne (by omega),h1]
    show _=some (BA n (fun b=>if k=i∧b=j then true else f k b) fl')
    rw[this]
  ·intro m hm o ho
   rw[List.length_set] at hm
   rcases List.mem_or_eq_of_mem_set ho with h1 | h1
   ·exact h.MH m hm o h1
   ·subst h1;exact qK _ _ _ _
def By (f:Nat→Nat→Bool) (i j a b:Nat):Bool:=if (a=i∧b=j)∨(a=j∧b=i) then true else f a b
theorem LU (f:Nat→Nat→Bool) (i j:Nat):(fun a b=>if a=j∧b=i then true else (if a=i∧b=j then true else f a b))=By f i j:=by
 funext a b
 unfold By
 by_cases h1:a=i∧b=j
 ·by_cases h2:a=j∧b=i
  ·rw[if_pos h2,if_pos (.inl h1)]
  ·rw[if_neg h2,if_pos h1,if_pos (.inl h1)]
 ·by_cases h2:a=j∧b=i
  ·rw[if_pos h2,if_pos (.inr h2)]
  ·rw[if_neg h2,if_neg h1,if_neg (by intro h;rcases h with h | h <;> contradiction)]
def tg (C:List (List Int)) (i x:Nat):Int:=(C.getD i []).getD x 0
def Ak (C:List (List Int)) (f:Nat→Nat→Bool) (i j x:Nat):Bool:=
 ((tg C i x != tg C j x)&&(decide (tg C i x < 0)||decide (tg C j x < 0)))||(decide (tg C i x≥0)&&decide (tg C j x≥0)&&f (tg C i x).toNat (tg C j x).toNat)
structure mI (C:List (List Int)):Prop where
 row:∀ r∈C,r.length=256
 lt:∀ r∈C,∀ v∈r,v < (C.length:Int)
 sz:C.length≤64
theorem mI.get {C:List (List Int)} (h:mI C) {i x:Nat} (hi:i < C.length) (hx:x < 256):C[i][x]? =some (tg C i x)∧tg C i x < (C.length:Int):=by
 have hm:=List.getElem_mem hi
 have hl:=h.row _ hm
 have hg:C.getD i []=C[i]:=by rw[List.getD_eq_getElem?_getD,List.getElem?_eq_getElem hi];rfl
 have h1:C[i][x]? =some (tg C i x):=by
  unfold tg
  rw[hg,List.getD_eq_getElem?_getD,List.getElem?_eq_getElem (by omega)];rfl
 exact⟨h1,h.lt _ hm _ (List.mem_of_getElem? h1)⟩
theorem mI.Uc {C:List (List Int)} (h:mI C) {i:Nat} (hi:i < C.length) (H:List ba):ua H 256 (.pv (.lit 256 (C.map vi))) (i:Int)=some (.pv (.rp (C[i].map i64) 0)):=by
 simp only[ua]
 rw[if_pos (by refine⟨trivial,?_⟩;unfold Fa;simp;omega)]
 simp[hi,vi,PV.cells]
theorem mI.load {C:List (List Int)} (h:mI C) {i x:Nat} (hi:i < C.length) (hx:x < 256) (H:List ba):ya H false 1 (.pv (.rp (C[i].map i64) x))=some (.pv (i64 (tg C i x))):=
 wz (by rw[List.getElem?_map,(h.get hi hx).1];rfl) H
abbrev Ny (v:PV) (n i j x:Int) (g:Bool):Tr:=((((((Tr.lf.set 9 (.pv (i64 x))).set 8 (.pv (i64 j))).set 7 (.pv (i64 i))).set 6 (.pv (.bool g))).set 4 (.own 0 n.toNat)).set 3 (.pv (i64 n))).set 0 (.pv v)
section
variable (call:ab) {C:List (List Int)} (hC:mI C) {i j:Nat} (hi:i < C.length) (hj:j < C.length)
include hC hi hj
theorem PE {H:List ba} {f:Nat→Nat→Bool} (hM:Zq H C.length f) (g:Bool) {x:Nat} (hx:x < 256):
 Md (fun r=>(f i j=true∧∃ E,r=(.exit 8,⟨E,H⟩)∧E.get 0= .pv (.lit 256 (C.map vi))∧E.get 3= .pv (i64 C.length)∧E.get 4= .own 0 C.length∧E.get 6= .pv (.bool g)∧E.get 7= .pv (i64 i)∧E.get 8= .pv (i64 j))∨
  (f i j=false∧Ak C f i j x=false∧r=(.norm,⟨Ny (.lit 256 (C.map vi)) C.length i j (x+1:Nat) g,H⟩))∨
  (f i j=false∧Ak C f i j x=true∧∃ H',Zq H' C.length (By f i j)∧r=(.norm,⟨Ny (.lit 256 (C.map vi)) C.length i j (x+1:Nat) true,H'⟩)))
  (fa (ta call Ya) (ga (2 * C.length+1) [0,3,4,6,7,8,9]) ⟨Ny (.lit 256 (C.map vi)) C.length i j x g,H⟩):=by
 have hcut:=hM.cut
 have a0:=hM.i0 hi
 have a1:=hM.l0 hi
 have b0:=hM.i0 hj
 have b1:=hM.l0 hj
 have a2:=hM.i1 hi hj
 have a3:=hM.l1 hi hj
 obtain⟨H1,s1,hM1⟩:=hM.store hi hj
 obtain⟨H2,s2,hM2⟩:=hM1.store hj hi
 rw[LU] at hM2
 have b2:=hM1.i1 hj hi
 have hcut2:=hM2.cut
 have c0:=fun H=>hC.Uc hi H
 have c1:=fun H=>hC.load hi hx H
 have d0:=fun H=>hC.Uc hj H
 have d1:=fun H=>hC.load hj hx H
 have hva:=(hC.get hi hx).2
 have hvb:=(hC.get hj hx).2
 have hsz:=hC.sz
 have e1:decide ((x:Int) < 256)=true:=Ga (by omega)
 have hq:Fa (x:Int) 256:=by unfold Fa;omega
 have t1:((x:Int)).toNat=x:=by simp
 have m1:x * 1=x:=by omega
 have z1:0+x=x:=by omega
 have t2:IntKind.i64.wrap ((x:Int)+1)=((x+1:Nat):Int):=Da (by omega)
 have tn:((C.length:Int)).toNat=C.length:=by simp
 have hz:(0 < 2 * C.length+1)=True:=by simp
 have htl:Ak C f i j x=(((tg C i x != tg C j x)&&(decide (tg C i x < 0)||decide (tg C j x < 0)))||(decide (tg C i x≥0)&&decide (tg C j x≥0)&&f (tg C i x).toNat (tg C j x).toNat)):=rfl
 have hun:0≤tg C i x→0≤tg C j x→ua H 1 (.own 0 C.length) (tg C i x)=some (.Kc 0 C.length (tg C i x).toNat)∧ya H false 1 (.Kc 0 C.length (tg C i x).toNat)=some (.own (2 * (tg C i x).toNat+1) C.length)∧
  ua H 1 (.own (2 * (tg C i x).toNat+1) C.length) (tg C j x)=some (.Kc (2 * (tg C i x).toNat+1) C.length (tg C j x).toNat)∧ya H false 1 (.Kc (2 * (tg C i x).toNat+1) C.length (tg C j x).toNat)=some (.pv (.bool (f (tg C i x).toNat (tg C j x).toNat))):=by
  intro h1 h2
  have k1:=hM.i0 (i:=(tg C i x).toNat) (by omega)
  have k2:=hM.l0 (i:=(tg C i x).toNat) (by omega)
  have k3:=hM.i1 (i:=(tg C i x).toNat) (j:=(tg C j x).toNat) (by omega) (by omega)
  have k4:=hM.l1 (i:=(tg C i x).toNat) (j:=(tg C j x).toNat) (by omega) (by omega)
  rw[Int.toNat_of_nonneg h1] at k1
  rw[Int.toNat_of_nonneg h2] at k3
  exact⟨k1,k2,k3,k4⟩
 generalize tg C i x=a at *
 generalize tg C j x=b at *
 generalize hl:(PV.lit 256 (C.map vi))=L at *
 have hR0:f i j=true→∀ E,E.get 0= .pv L→E.get 3= .pv (i64 C.length)→E.get 4= .own 0 C.length→E.get 6= .pv (.bool g)→E.get 7= .pv (i64 i)→E.get 8= .pv (i64 j)→
  ((f i j=true∧∃ E',(Ex.exit 8,(⟨E,H⟩:St))=(.exit 8,⟨E',H⟩)∧E'.get 0= .pv L∧E'.get 3= .pv (i64 C.length)∧E'.get 4= .own 0 C.length∧E'.get 6= .pv (.bool g)∧E'.get 7= .pv (i64 i)∧E'.get 8= .pv (i64 j))∨
   (f i j=false∧Ak C f i j x=false∧(Ex.exit 8,(⟨E,H⟩:St))=(.norm,⟨Ny L C.length i j (x+1:Nat) g,H⟩))∨
   (f i j=false∧Ak C f i j x=true∧∃ H',Zq H' C.length (By f i j)∧(Ex.exit 8,(⟨E,H⟩:St))=(.norm,⟨Ny L C.length i j (x+1:Nat) true,H'⟩))):=
  fun h E k0 k3 k4 k6 k7 k8=> .inl ⟨h,E,rfl,k0,k3,k4,k6,k7,k8⟩
 have hR1:f i j=false→Ak C f i j x=false→∀ s,s=(⟨Ny L C.length i j (x+1:Nat) g,H⟩:St)→
  ((f i j=true∧∃ E',(Ex.norm,s)=(.exit 8,⟨E',H⟩)∧E'.get 0= .pv L∧E'.get 3= .pv (i64 C.length)∧E'.get 4= .own 0 C.length∧E'.get 6= .pv (.bool g)∧E'.get 7= .pv (i64 i)∧E'.get 8= .pv (i64 j))∨
   (f i j=false∧Ak C f i j x=false∧(Ex.norm,s)=(.norm,⟨Ny L C.length i j (x+1:Nat) g,H⟩))∨
   (f i j=false∧Ak C f i j x=true∧∃ H',Zq H' C.length (By f i j)∧(Ex.norm,s)=(.norm,⟨Ny L C.length i j (x+1:Nat) true,H'⟩))):=
  fun h1 h2 s h3=> .inr (.inl ⟨h1,h2,by rw[h3]⟩)
 have hR2:f i j=false→Ak C f i j x=true→∀ s,s=(⟨Ny L C.length i j (x+1:Nat) true,H2⟩:St)→
  ((f i j=true∧∃ E',(Ex.norm,s)=(.exit 8,⟨E',H⟩)∧E'.get 0= .pv L∧E'.get 3= .pv (i64 C.length)∧E'.get 4= .own 0 C.length∧E'.get 6= .pv (.bool g)∧E'.get 7= .pv (i64 i)∧E'.get 8= .pv (i64 j))∨
   (f i j=false∧Ak C f i j x=false∧(Ex.norm,s)=(.norm,⟨Ny L C.length i j (x+1:Nat) g,H⟩))∨
   (f i j=false∧Ak C f i j x=true∧∃ H',Zq H' C.length (By f i j)∧(Ex.norm,s)=(.norm,⟨Ny L C.length i j (x+1:Nat) true,H'⟩))):=
  fun h1 h2 s h3=> .inr (.inr ⟨h1,h2,H2,hM2,by rw[h3]⟩)
 generalize hQQ:(fun r:Ex×St=>_)=QQ
 generalize hu:f i j=u at *
 cases u with
 |true=>
  simp -implicitDefEqProofs only[SX,sevalprocAttr,Ya,e1,tn,a0,a1,a2,a3,Ny]
  subst hQQ
  exact hR0 rfl _ (by simp[Tr.aa]) (by simp[Tr.aa]) (by simp[Tr.aa]) (by simp[Tr.aa]) (by simp[Tr.aa]) (by simp[Tr.aa])
 |false=>
  by_cases hab:a=b
  ·have ne1:(a != b)=false:=by simp[hab]
   subst hab
   by_cases ha:a≥0
   ·have da:=Ga ha
    have da':decide (a < 0)=false:=Ia (by omega)
    obtain⟨k1,k2,k3,k4⟩:=hun ha ha
    rw[ne1,da,Bool.false_and,Bool.false_or,Bool.true_and,Bool.true_and] at htl
    generalize hw:f a.toNat a.toNat=w at *
    cases w with
    |true=>
     simp -implicitDefEqProofs only[SX,sevalprocAttr,Ya,e1,tn,a0,a1,a2,a3,b0,b1,b2,c0,c1,d0,d1,eq_true hq,t1,m1,z1,lj,ne1,da,k1,k2,k3,k4,s1,s2,t2,hcut2,hz,ga,za,AV.cut,qa,Ny]
     subst hQQ
     exact hR2 rfl htl _ (by simp only[Ny,tn])
    |false=>
     simp -implicitDefEqProofs only[SX,sevalprocAttr,Ya,e1,tn,a0,a1,a2,a3,b0,b1,b2,c0,c1,d0,d1,eq_true hq,t1,m1,z1,lj,ne1,da,k1,k2,k3,k4,t2,hcut,hz,ga,za,AV.cut,qa,Ny]
     subst hQQ
     exact hR1 rfl htl _ (by simp only[Ny,tn])
   ·have da:=Ia ha
    rw[ne1,da,Bool.false_and,Bool.false_or,Bool.false_and,Bool.false_and] at htl
    simp -implicitDefEqProofs only[SX,sevalprocAttr,Ya,e1,tn,a0,a1,a2,a3,b0,b1,b2,c0,c1,d0,d1,eq_true hq,t1,m1,z1,lj,ne1,da,t2,hcut,hz,ga,za,AV.cut,qa,Ny]
    subst hQQ
    exact hR1 rfl htl _ (by simp only[Ny,tn])
  ·have ne1:(a != b)=true:=by simp[hab]
   by_cases ha:a < 0
   ·have da:=Ga ha
    rw[ne1,da] at htl
    simp only[Bool.true_and,Bool.true_or] at htl
    simp -implicitDefEqProofs only[SX,sevalprocAttr,Ya,e1,tn,a0,a1,a2,a3,b0,b1,b2,c0,c1,d0,d1,eq_true hq,t1,m1,z1,lj,ne1,da,s1,s2,t2,hcut2,hz,ga,za,AV.cut,qa,Ny]
    subst hQQ
    exact hR2 rfl htl _ (by simp only[Ny,tn])
   ·have da:=Ia ha
    have da':decide (a≥0)=true:=Ga (by omega)
    by_cases hb:b < 0
    ·have db:=Ga hb
     rw[ne1,da,db] at htl
     simp only[Bool.true_and,Bool.false_or,Bool.true_or] at htl
     simp -implicitDefEqProofs only[SX,sevalprocAttr,Ya,e1,tn,a0,a1,a2,a3,b0,b1,b2,c0,c1,d0,d1,eq_true hq,t1,m1,z1,lj,ne1,da,db,s1,s2,t2,hcut2,hz,ga,za,AV.cut,qa,Ny]
     subst hQQ
     exact hR2 rfl htl _ (by simp only[Ny,tn])
    ·have db:=Ia hb
     have db':decide (b≥0)=true:=Ga (by omega)
     obtain⟨k1,k2,k3,k4⟩:=hun (by omega) (by omega)
     rw[ne1,da,db,da',db'] at htl
     simp only[Bool.true_and,Bool.false_or] at htl
     generalize hw:f a.toNat b.toNat=w at *
     cases w with
     |true=>
      simp -implicitDefEqProofs only[SX,sevalprocAttr,Ya,e1,tn,a0,a1,a2,a3,b0,b1,b2,c0,c1,d0,d1,eq_true hq,t1,m1,z1,lj,ne1,da,db,da',db',k1,k2,k3,k4,s1,s2,t2,hcut2,hz,ga,za,AV.cut,qa,Ny]
      subst hQQ
      exact hR2 rfl htl _ (by simp only[Ny,tn])
     |false=>
      simp -implicitDefEqProofs only[SX,sevalprocAttr,Ya,e1,tn,a0,a1,a2,a3,b0,b1,b2,c0,c1,d0,d1,eq_true hq,t1,m1,z1,lj,ne1,da,db,da',db',k1,k2,k3,k4,t2,hcut,hz,ga,za,AV.cut,qa,Ny]
      subst hQQ
      exact hR1 rfl htl _ (by simp only[Ny,tn])
end
end Go.AM.B1
namespace Go.AM.B1
open Go.AM Go.AM.So
def iy (ss:List Yb) (sets:List Al) (a:Al) (x:Nat) (v:Int):Prop:=
 (Rf (yl ss a x) ss.length=false∧v= -2)∨
 (Rf (yl ss a x) ss.length=true∧Rf (tp ss a x) ss.length=true∧v= -1)∨
 (Rf (yl ss a x) ss.length=true∧Rf (tp ss a x) ss.length=false∧∃ k m:Nat,v=(k:Int)∧MB ss a x m∧sets[k]? =some (a.1+1,(m:Int)))
theorem iy.mono {ss:List Yb} {sets t:List Al} {a:Al} {x:Nat} {v:Int} (h:iy ss sets a x v):iy ss (sets++t) a x v:=by
 rcases h with h | h | ⟨h1,h2,k,m,h3,h4,h5⟩
 ·exact .inl h
 ·exact .inr (.inl h)
 ·refine .inr (.inr ⟨h1,h2,k,m,h3,h4,?_⟩)
  rw[List.getElem?_append_left (List.getElem?_eq_some_iff.1 h5).1];exact h5
theorem pI {a:Al}:∀ {l:List Al} {k i:Nat},Ul a l k=some i→k≤i∧l[i - k]? =some a
 |b::l,k,i,h=>by
  simp only[Ul] at h
  split at h
  ·next he=>injection h with h;subst h;subst he;exact⟨Nat.le_refl _,by simp⟩
  ·obtain⟨h1,h2⟩:=pI h
   refine⟨by omega,?_⟩
   rw[show i - k=(i - (k+1))+1 by omega,List.getElem?_cons_succ];exact h2
structure ZK (sets:List Al) (d:Nat):Prop where
 up:∀ (p q:Nat) a b,p≤q→sets[p]? =some a→sets[q]? =some b→a.1≤b.1
 top:∀ (q:Nat) b,sets[q]? =some b→b.1≤d+1
theorem ZK.push {sets:List Al} {d:Nat} (h:ZK sets d) (e:Int):ZK (sets++[(d+1,e)]) d:=by
 have hg:∀ (q:Nat) b,(sets++[(d+1,e)])[q]? =some b→(q < sets.length∧sets[q]? =some b)∨(q=sets.length∧b=(d+1,e)):=by
  intro q b hb
  rcases Nat.lt_or_ge q sets.length with h1 | h1
  ·rw[List.getElem?_append_left h1] at hb;exact .inl ⟨h1,hb⟩
  ·rw[List.getElem?_append_right h1] at hb
   cases hq:q - sets.length with
   |zero=>rw[hq] at hb;simp at hb;exact .inr ⟨by omega,hb.symm⟩
   |succ n=>rw[hq] at hb;simp at hb
 refine⟨?_,?_⟩
 ·intro p q a b hpq ha hb
  rcases hg p a ha with⟨h1,h2⟩ | ⟨h1,h2⟩ <;> rcases hg q b hb with⟨h3,h4⟩ | ⟨h3,h4⟩
  ·exact h.up p q a b hpq h2 h4
  ·rw[h4];exact h.top p a h2
  ·omega
  ·rw[h2,h4];exact Nat.le_refl _
 ·intro q b hb
  rcases hg q b hb with⟨h3,h4⟩ | ⟨h3,h4⟩
  ·exact h.top q b h4
  ·rw[h4];exact Nat.le_refl _
theorem fO {ss:List Yb} (hw:ss.length≤32) {sets:List Al} {a:Al} (hba:NS a) {x:Nat} {p:List Al×Int} (h:Kg ss a x sets=some p) (hR:ZK sets a.1):
 iy ss p.1 a x p.2∧ZK p.1 a.1∧((p.1=sets)∨(p.1.length=sets.length+1∧p.2=(sets.length:Int))):=by
 obtain⟨m,hm⟩:=zR (x:=x) hba hw
 rw[hm.step sets] at h
 by_cases h1:Rf (yl ss a x) ss.length=false
 ·rw[if_pos h1] at h
  injection h with h;subst h
  exact⟨.inl ⟨h1,rfl⟩,hR,.inl rfl⟩
 ·rw[if_neg h1] at h
  have h1':Rf (yl ss a x) ss.length=true:=by simpa using h1
  by_cases h2:Rf (tp ss a x) ss.length=true
  ·rw[if_pos h2] at h
   injection h with h;subst h
   exact⟨.inr (.inl ⟨h1',h2,rfl⟩),hR,.inl rfl⟩
  ·rw[if_neg h2] at h
   have h2':Rf (tp ss a x) ss.length=false:=by simpa using h2
   cases hi:Ul (a.1+1,(m:Int)) sets 0 with
   |some k=>
    rw[hi] at h
    injection h with h;subst h
    exact⟨.inr (.inr ⟨h1',h2',k,m,rfl,hm,(pI hi).2⟩),hR,.inl rfl⟩
   |none=>
    rw[hi] at h
    simp only at h
    split at h
    ·injection h with h;subst h
     refine⟨.inr (.inr ⟨h1',h2',sets.length,m,rfl,hm,by simp⟩),hR.push _,.inr ⟨by simp,rfl⟩⟩
    ·cases h
theorem JI {ss:List Yb} (hw:ss.length≤32) {a:Al} (hba:NS a) {i:Nat}:∀ (xs:List Nat) (r r':List Al×List Int),xs.Nodup→(∀ x∈xs,x < r.2.length)→Sm ss r.1→r.1[i]? =some a→ZK r.1 a.1→Qk ss a xs r=some r'→
 (∀ x∈xs,iy ss r'.1 a x (r'.2.getD x 0))∧(∀ y,y ∉ xs→r'.2.getD y 0=r.2.getD y 0)∧(∀ k,r.1.length≤k→k < r'.1.length→∃ x∈xs,r'.2.getD x 0=(k:Int))∧ZK r'.1 a.1
 | [],r,r',_,_,_,_,hR,e=>by
   injection e with e;subst e
   exact⟨by simp,fun _ _=>rfl,fun k h1 h2=>by omega,hR⟩
 |x::xs,r,r',hnd,hlt,Aa,ha,hR,e=>by
  cases hst:Kg ss a x r.1 with
  |none=>rw[ct hst] at e;cases e
  |some p=>
   rw[vt hst] at e
   obtain⟨s1,s2,s3⟩:=fO hw hba hst hR
   obtain⟨g1,t,g2⟩:=eD Aa ha hw hst
   rw[List.nodup_cons] at hnd
   have hi:=(List.getElem?_eq_some_iff.1 ha).1
   have hxl:=hlt x (by simp)
   obtain⟨k1,k2,k3,k4⟩:=JI hw hba xs (p.1,r.2.set x p.2) r' hnd.2 (fun y hy=>by rw[List.length_set];exact hlt y (by simp[hy])) g1 (by rw[g2,List.getElem?_append_left hi];exact ha) s2 e
   obtain⟨_,⟨t',q2⟩,_⟩:=Tu hw xs (p.1,r.2.set x p.2) r' g1 (by rw[g2,List.getElem?_append_left hi];exact ha) e
   simp only at q2
   have hx:r'.2.getD x 0=p.2:=by
    rw[k2 x hnd.1,List.getD_eq_getElem?_getD,List.getElem?_set_self hxl];rfl
   refine⟨?_,?_,?_,k4⟩
   ·intro y hy
    rcases List.mem_cons.1 hy with rfl | hy
    ·rw[hx,q2];exact s1.mono
    ·exact k1 y hy
   ·intro y hy
    rw[List.mem_cons,not_or] at hy
    rw[k2 y hy.2,List.getD_eq_getElem?_getD,List.getElem?_set_ne (Ne.symm hy.1),←List.getD_eq_getElem?_getD]
   ·intro k h1 h2
    rcases s3 with s3 | ⟨s3,s4⟩
    ·obtain⟨y,hy,h3⟩:=k3 k (by rw[s3];exact h1) h2
     exact⟨y,by simp[hy],h3⟩
    ·by_cases hk:k=r.1.length
     ·exact⟨x,by simp,by rw[hx,s4,hk]⟩
     ·obtain⟨y,hy,h3⟩:=k3 k (by simp only;omega) h2
      exact⟨y,by simp[hy],h3⟩
structure xl (ss:List Yb) (sets:List Al) (C:List (List Int)):Prop where
 ok:Sm ss sets
 le:C.length≤sets.length
 first:sets[0]? =some (0,aq ss.length)
 row:∀ r∈C,r.length=256
 step:∀ (k:Nat) a,k < C.length→sets[k]? =some a→∀ x,x < 256→iy ss sets a x (tg C k x)
 up:∀ (p q:Nat) a b,p≤q→sets[p]? =some a→sets[q]? =some b→a.1≤b.1
 top:∀ (k q:Nat) a b,k=C.length→sets[k]? =some a→sets[q]? =some b→b.1≤a.1+1
 reach:∀ k,0 < k→k < sets.length→∃ j x,j < k∧j < C.length∧x < 256∧tg C j x=(k:Int)
theorem nN {C:List (List Int)} {r:List Int} {k x:Nat} (hk:k < C.length):tg (C++[r]) k x=tg C k x:=by
 have:(C++[r]).getD k []=C.getD k []:=by
  rw[List.getD_eq_getElem?_getD,List.getElem?_append_left hk,←List.getD_eq_getElem?_getD]
 unfold tg
 rw[this]
theorem rN {C:List (List Int)} {r:List Int} {x:Nat}:tg (C++[r]) C.length x=r.getD x 0:=by
 unfold tg
 have:(C++[r]).getD C.length []=r:=by
  rw[List.getD_eq_getElem?_getD,List.getElem?_append_right (Nat.le_refl _),Nat.sub_self];rfl
 rw[this]
theorem xl.next {ss:List Yb} (hw:ss.length≤32) {sets:List Al} {C:List (List Int)} (h:xl ss sets C) {a:Al} (ha:sets[C.length]? =some a) {p:List Al×List Int} (hp:Qk ss a (List.range 256) (sets,mb)=some p):xl ss p.1 (C++[p.2]):=by
 have hlt:=(List.getElem?_eq_some_iff.1 ha).1
 obtain⟨_,b,hb,hblt,_⟩:=h.ok.2 _ a ha
 have hba:NS a:=⟨b,hb,hblt⟩
 obtain⟨k1,k2,k3,k4⟩:=JI hw hba (i:=C.length) (List.range 256) (sets,mb) p List.nodup_range (fun x hx=>by simp only[xt];simpa using hx) h.ok ha ⟨h.up,fun q b hb=>h.top C.length q a b rfl ha hb⟩ hp
 obtain⟨g1,⟨t,g2⟩,g3⟩:=Tu hw (List.range 256) (sets,mb) p h.ok ha hp
 simp only at g2 g3
 rw[xt] at g3
 have hold:∀ (k:Nat) c,k < sets.length→(p.1[k]? =some c↔sets[k]? =some c):=fun k c hk=>by rw[g2,List.getElem?_append_left hk]
 refine⟨g1,?_,?_,?_,?_,k4.up,?_,?_⟩
 ·rw[g2];simp;omega
 ·rw[hold 0 _ (by omega)];exact h.first
 ·intro r hr
  rcases List.mem_append.1 hr with h1 | h1
  ·exact h.row r h1
  ·rw[List.mem_singleton] at h1;subst h1;exact g3
 ·intro k c hk hc x hx
  rw[List.length_append,List.length_singleton] at hk
  rcases Nat.lt_or_ge k C.length with h1 | h1
  ·rw[nN h1,g2]
   exact (h.step k c h1 ((hold k c (by omega)).1 hc) x hx).mono
  ·have:k=C.length:=by omega
   subst this
   have hca:c=a:=by
    have:=(hold C.length c hlt).1 hc
    rw[ha] at this;injection this with this;exact this.symm
   subst hca
   rw[rN]
   exact k1 x (by simpa using hx)
 ·intro k q c d hk hc hd
  rw[List.length_append,List.length_singleton] at hk
  have h1:=k4.top q d hd
  have h2:=k4.up C.length k a c (by omega) ((hold _ a hlt).2 ha) hc
  omega
 ·intro k h0 hk
  rcases Nat.lt_or_ge k sets.length with h1 | h1
  ·obtain⟨j,x,h2,h3,h4,h5⟩:=h.reach k h0 h1
   exact⟨j,x,h2,by rw[List.length_append];omega,h4,by rw[nN h3];exact h5⟩
  ·obtain⟨x,hx,h2⟩:=k3 k h1 hk
   exact⟨C.length,x,by omega,by simp,by simpa using hx,by rw[rN];exact h2⟩
theorem NF {ss:List Yb} (hw:ss.length≤32):∀ (k:Nat) (r r':List Al×List (List Int)),r.2.length+k=64→xl ss r.1 r.2→Ig ss k r=some r'→xl ss r'.1 r'.2∧r'.2.length=r'.1.length
 |0,r,r',hk,h,e=>by
  injection e with e;subst e
  have:=h.ok.1
  have:=h.le
  exact⟨h,by omega⟩
 |k+1,r,r',hk,h,e=>by
  cases ha:r.1[r.2.length]? with
  |none=>
   rw[Ws ha] at e;injection e with e;subst e
   refine⟨h,?_⟩
   have:=h.le
   rcases Nat.lt_or_ge r.2.length r.1.length with h1 | h1
   ·rw[List.getElem?_eq_getElem h1] at ha;cases ha
   ·omega
  |some a=>
   cases hr:Qk ss a (List.range 256) (r.1,mb) with
   |none=>rw[Vu ha hr] at e;cases e
   |some p=>
    rw[Nt ha hr] at e
    exact NF hw k (p.1,r.2++[p.2]) r' (by simp;omega) (h.next hw ha hr) e
theorem XF {ss:List Yb} (hw:ss.length≤32) (hne:∀ s∈ss,0 < s.parts.length) {p:List Al×List (List Int)} (h:Ig ss 64 (Jg ss,[])=some p):xl ss p.1 p.2∧p.2.length=p.1.length:=by
 refine NF hw 64 (Jg ss,[]) p rfl ⟨lz hw hne,by simp,rfl,by simp,fun k a hk=>by simp at hk,?_,?_,?_⟩ h
 ·intro p q a b hpq ha hb
  have:p=0∧q=0:=by
   have h1:=(List.getElem?_eq_some_iff.1 ha).1
   have h2:=(List.getElem?_eq_some_iff.1 hb).1
   simp[Jg] at h1 h2;omega
  obtain⟨rfl,rfl⟩:=this
  rw[ha] at hb;injection hb with hb;subst hb;exact Nat.le_refl _
 ·intro k q a b hk ha hb
  have h2:=(List.getElem?_eq_some_iff.1 hb).1
  simp[Jg] at h2;subst h2
  simp[Jg] at hb;subst hb;simp
 ·intro k h0 hk
  simp[Jg] at hk;omega
end Go.AM.B1
