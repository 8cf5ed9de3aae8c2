/- What functions of the program compute. -/
import Derived.Test.YtdglpnpkgngcdaaGreatX7
set_option linter.unusedVariables false
set_option linter.unusedSimpArgs false
namespace Go.AM.B1
open Go.AM Go.AM.So
theorem Qg {α:Type}:∀ (vs cs:List α) (off j:Nat),off+vs.length≤cs.length→(na cs off vs)[j]? =if off≤j∧j < off+vs.length then vs[j - off]? else cs[j]?
 | [],cs,off,j,h=>by
   rw[if_neg (by simp only[List.length_nil];omega)];rfl
 |v::vs,cs,off,j,h=>by
  simp only[List.length_cons] at h
  rw[na,Qg vs _ (off+1) j (by simp;omega)]
  by_cases h1:off+1≤j∧j < off+1+vs.length
  ·rw[if_pos h1,if_pos (by simp only[List.length_cons];omega),show j - off=(j - (off+1))+1 by omega,List.getElem?_cons_succ]
  ·rw[if_neg h1]
   by_cases h2:off=j
   ·subst h2
    rw[List.getElem?_set_self (by omega),if_pos (by simp only[List.length_cons];omega),Nat.sub_self,List.getElem?_cons_zero]
   ·rw[List.getElem?_set_ne h2,if_neg (by simp only[List.length_cons];omega)]
def yf (n:Nat) (f:Nat→Bool):List PV:=(List.range n).map fun x=> .bool (f x)
theorem mg (n:Nat) (f:Nat→Bool):(yf n f).length=n:=by rw[yf,List.length_map,List.length_range]
theorem fC (n:Nat) (f:Nat→Bool) {i:Nat} (h:i < (yf n f).length):(yf n f)[i]= .bool (f i):=by
 simp only[yf,List.getElem_map,List.getElem_range]
theorem Fy {n:Nat} (f:Nat→Bool) {i:Nat} (h:i < n):(yf n f)[i]? =some (.bool (f i)):=by
 rw[List.getElem?_eq_getElem (by rw[mg];exact h),fC]
theorem tabN_get? (n:Nat) (f:Nat→Bool) (i:Nat):(yf n f)[i]? =if i < n then some (.bool (f i)) else none:=by
 by_cases h:i < n
 ·rw[if_pos h,Fy f h]
 ·rw[if_neg h,List.getElem?_eq_none (by rw[mg];omega)]
theorem rC {n:Nat} {f g:Nat→Bool} (h:∀ x,x < n→f x=g x):yf n f=yf n g:=by
 unfold yf
 apply List.map_congr_left
 intro x hx
 rw[h x (by simpa using hx)]
theorem KI (n:Nat) (f:Nat→Bool):∀ e∈yf n f,(AV.pv e).one=true:=by
 intro e he
 obtain⟨x,_,rfl⟩:=List.mem_map.1 he
 rfl
theorem ID (n:Nat):List.replicate n (PV.bool false)=yf n fun _=>false:=by
 apply List.ext_getElem
 ·rw[List.length_replicate,mg]
 ·intro j h1 h2;rw[List.getElem_replicate,fC]
theorem FR (f:Nat→Bool):Df f=yf 256 f:=rfl
theorem qS {n:Nat} (f g:Nat→Bool) {m off:Nat} (h:off+m≤n):na (yf n f) off (yf m g)=yf n fun j=>if off≤j∧j < off+m then g (j - off) else f j:=by
 apply List.ext_getElem?
 intro j
 rw[Qg _ _ _ _ (by rw[mg,mg];exact h),mg,tabN_get?,tabN_get?,tabN_get?]
 by_cases h1:off≤j∧j < off+m
 ·rw[if_pos h1,if_pos (show j - off < m by omega),if_pos (by omega)]
  simp only[if_pos h1]
 ·rw[if_neg h1]
  simp only[if_neg h1]
theorem MD {α β:Type} (f:α→β):∀ (vs cs:List α) (off:Nat),na (cs.map f) off (vs.map f)=(na cs off vs).map f
 | [],cs,off=>rfl
 |v::vs,cs,off=>by
  rw[List.map_cons,na,na,←MD f vs,List.map_set]
theorem QV {A:List ba} {id n off m:Nat} {f g:Nat→Bool} (hg:A[id]? =some (Jb (yf n f))) (h:off+m≤n):
 La A m (.ptr id off) (.pv (.agg (yf m g)))=some (A.set id (Jb (yf n fun j=>if off≤j∧j < off+m then g (j - off) else f j))):=by
 have hc':(AV.pv (.agg (yf m g))).cells=(yf m g).map .pv:=rfl
 simp only[La,hg,hc']
 rw[if_pos ⟨by rw[List.length_map,mg],by rw[List.all_eq_true];intro v hv;obtain⟨e,he,rfl⟩:=List.mem_map.1 hv;exact KI _ _ e he⟩,
  if_pos (by rw[List.length_map,mg];exact h),MD,qS f g h]
def mq (s:mc) (k x:Nat):Bool:=match s.parts[k]? with
 |some l=>Fi l x
 |none=>false
def Mm (s:mc) (k j:Nat):Bool:=decide (j / 256 < k)&&mq s (j / 256) (j % 256)
def Lx (s:mc):List PV:=yf 2048 (Mm s 8)
theorem dO (s:mc) {k:Nat} (hk:k < s.parts.length):(fun j=>if k * 256≤j∧j < k * 256+256 then Fi s.parts[k] (j - k * 256) else Mm s k j)=Mm s (k+1):=by
 funext j
 by_cases h:k * 256≤j∧j < k * 256+256
 ·have h1:j / 256=k:=by omega
  have h2:j % 256=j - k * 256:=by omega
  rw[if_pos h,Mm,h1,h2,mq,List.getElem?_eq_getElem hk]
  simp
 ·rw[if_neg h,Mm,Mm]
  congr 1
  rw[decide_eq_decide];omega
theorem aS (s:mc) (h8:s.parts.length≤8):yf 2048 (Mm s s.parts.length)=Lx s:=by
 refine rC fun j hj=> ?_
 unfold Mm
 have h2:decide (j / 256 < 8)=true:=decide_eq_true (by omega)
 rw[h2,Bool.true_and]
 by_cases h:j / 256 < s.parts.length
 ·rw[decide_eq_true h,Bool.true_and]
 ·rw[decide_eq_false h,Bool.false_and,mq,List.getElem?_eq_none (by omega)]
abbrev wc (i:Nat):List PV:=fc 0 fun j=>decide (j < i)
abbrev Ow (S:PV) (nl:Bool) (es:List PV) (i k:Int):Tr:=(((((Tr.lf.set 9 (.pv (i64 k))).set 8 (.ptr 2 0)).set 7 (.pv (i64 i))).set 6 (.ptr 1 0)).set 5 (.uq 0 nl 2048 es)).set 1 (.pv (.rp [S] 0))
abbrev Iw (S:PV) (nl:Bool) (es:List PV) (i:Int):Tr:=(((Tr.lf.set 7 (.pv (i64 i))).set 6 (.ptr 1 0)).set 5 (.uq 0 nl 2048 es)).set 1 (.pv (.rp [S] 0))
theorem JP (call:Xa) {S:PV} {ss:List mc} {es:List PV} (hS:pb S ss es) {i:Nat} (hi:i < ss.length) (h8:ss[i].parts.length≤8) (nl:Bool) (os:List PV) (m:Nat) (F:List PV):
 Ld (fun r=>∃ E,r=(.exit 2,⟨E,[.tok 2048 m nl,Jb F,Jb (Lx ss[i])]⟩)∧E.get 1= .pv (.rp [S] 0)∧E.get 5= .uq 0 nl 2048 os∧E.get 6= .ptr 1 0∧E.get 7= .pv (i64 i)∧E.get 8= .ptr 2 0)
  (fb (ma (ta call tf) (ga 3 [1,5,6,7,8,9])) qa ⟨Ow S nl os i 0,[.tok 2048 m nl,Jb F,Jb (yf 2048 fun _=>false)]⟩):=by
 obtain⟨P,ps,hP,a0⟩:=hS.Pd hi
 rw[← aS _ h8]
 have ln:=hP.parts.Tb
 have hz:(yf 2048 fun _=>false)=yf 2048 (Mm ss[i] 0):=rC fun j _=>by rw[Mm];simp
 rw[hz]
 generalize ss[i]=s at *
 refine xa (yb (g:=ma (ta call tf) (ga 3 [1,5,6,7,8,9]))
  (fun k t=>t=⟨Ow S nl os i k,[.tok 2048 m nl,Jb F,Jb (yf 2048 (Mm s k))]⟩)
  s.parts.length (by unfold qa;omega) _ rfl ?_ ?_) (fun r h=>h.2)
 ·rintro k t hk rfl
  obtain⟨v,hv,hpt,_⟩:=hP.parts.Pd hk []
  have a1:=hP.parts.Xv hv
  have hm:=Yv hpt.is hpt.sz
  have hnx:=dO s hk
  have e1:decide ((k:Int) < (s.parts.length:Int))=true:=Ea (by omega)
  have t2:IntKind.i64.wrap ((k:Int)+1)=((k+1:Nat):Int):=Ba (by omega)
  have hq:Ga (k:Int) 8:=by unfold Ga;omega
  have t1:((k:Int)).toNat=k:=by simp
  have pl:=Ki (A:=[.tok 2048 m nl,Jb F,Jb (yf 2048 (Mm s k))]) (id:=2) (es:=yf 2048 (Mm s k)) rfl 0 (k * 256)
  rw[Nat.zero_add] at pl
  have st:=QV (A:=[.tok 2048 m nl,Jb F,Jb (yf 2048 (Mm s k))]) (id:=2) (n:=2048) (off:=k * 256) (m:=256) (f:=Mm s k) (g:=Fi s.parts[k]) rfl (by omega)
  rw[hnx,←FR] at st
  have st2:([.tok 2048 m nl,Jb F,Jb (yf 2048 (Mm s k))]:List ba).set 2 (Jb (yf 2048 (Mm s (k+1))))=[.tok 2048 m nl,Jb F,Jb (yf 2048 (Mm s (k+1)))]:=rfl
  rw[st2] at st
  have c1:=xg F 3
  have c2:=xg (yf 2048 (Mm s (k+1))) 3
  have c0:oa 3 (.tok 2048 m nl)=some (.tok 2048 m nl):=rfl
  have hLN:∀ st:St,st=⟨Ow S nl os i (k+1:Nat),[.tok 2048 m nl,Jb F,Jb (yf 2048 (Mm s (k+1)))]⟩→LN (fun k t=>t=⟨Ow S nl os i k,[.tok 2048 m nl,Jb F,Jb (yf 2048 (Mm s k))]⟩)
   (fun r=>∃ E,r=(.exit 2,⟨E,[.tok 2048 m nl,Jb F,Jb (yf 2048 (Mm s s.parts.length))]⟩)∧E.get 1= .pv (.rp [S] 0)∧E.get 5= .uq 0 nl 2048 os∧E.get 6= .ptr 1 0∧E.get 7= .pv (i64 i)∧E.get 8= .ptr 2 0) k (.norm,st):=fun st h=>h
  generalize LN _ _ k=QQ at hLN ⊢
  generalize Jb F=oF at *
  generalize Jb (yf 2048 (Mm s k))=oT at *
  generalize Jb (yf 2048 (Mm s (k+1)))=oT' at *
  generalize Df (Fi s.parts[k])=T at *
  have hcl:Pa (oa 3) [.tok 2048 m nl,oF,oT']=some [.tok 2048 m nl,oF,oT']:=by simp only[Pa,c0,c1,c2,Option.bind_some,Option.map_some]
  have htk:∀ a b c:ba,([a,b,c]:List ba).take 3=[a,b,c]:=fun a b c=>rfl
  have d0:(0 < 3)=True:=by simp
  have d1:(1 < 3)=True:=by simp
  have d2:(2 < 3)=True:=by simp
  simp -implicitDefEqProofs only[SX,sevalprocAttr,-List.reduceReplicate,tf,Wb,ab,Dc,xd,a0,a1,ln,e1,hm,eq_true hq,t1,t2,pl,st,hcl,htk,d0,d1,d2,ga,za,AV.cut,pa,Ow]
  exact hLN _ rfl
 ·rintro t rfl
  have e1:decide ((s.parts.length:Int) < (s.parts.length:Int))=false:=Fa (by omega)
  generalize Jb (yf 2048 (Mm s s.parts.length))=oT
  generalize Jb F=oF
  generalize hQ:(fun r:Ex×St=>r.1.stop=true∧_)=Q
  simp -implicitDefEqProofs only[SX,sevalprocAttr,-List.reduceReplicate,tf,Wb,ab,Dc,xd,a0,ln,e1,Ow]
  subst hQ
  exact⟨rfl,_,rfl,by simp[Tr.aa],by simp[Tr.aa],by simp[Tr.aa],by simp[Tr.aa],by simp[Tr.aa]⟩
end Go.AM.B1
namespace Go.AM.B1
open Go.AM Go.AM.So
theorem kM {i:Nat} (hi:i < 32):(wc i).set (1+i) (.bool true)=wc (i+1):=by
 rw[Nat.add_comm 1 i]
 unfold wc fc
 rw[List.set_cons_succ,DN _ hi]
 congr 1
 refine Zs fun x hx=> ?_
 by_cases h:x=i
 ·subst h;simp
 ·rw[if_neg h,decide_eq_decide];omega
def Qe (ss:List mc):List PV:=ss.map fun s=> .agg (Lx s)
theorem BP (call:Xa) {S:PV} {ss:List mc} {es:List PV} (hS:pb S ss es) (hw:ss.length≤32) (h8:∀ s∈ss,s.parts.length≤8):
 Ld (fun r=>∃ E nl,r=(.exit 0,⟨E,[.tok 2048 ss.length nl,Jb (wc ss.length)]⟩)∧E.get 1= .pv (.rp [S] 0)∧E.get 5= .uq 0 nl 2048 (Qe ss)∧E.get 6= .ptr 1 0)
  (fb (ma (ta call vf) (ga 2 [1,5,6,7])) qa ⟨Iw S true [] 0,[.tok 2048 0 true,Jb (wc 0)]⟩):=by
 have ln:=hS.Tb
 refine xa (yb (g:=ma (ta call vf) (ga 2 [1,5,6,7]))
  (fun i t=>∃ nl,t=⟨Iw S nl (Qe (ss.take i)) i,[.tok 2048 i nl,Jb (wc i)]⟩)
  ss.length (by unfold qa;omega) _ ⟨true,rfl⟩ ?_ ?_) (fun r h=>h.2)
 ·rintro i t hi ⟨nl,rfl⟩
  have hin:=JP call hS hi (h8 _ (List.getElem_mem hi)) nl (Qe (ss.take i)) i (wc (i+1))
  have hnext:Qe (ss.take (i+1))=Qe (ss.take i)++[.agg (Lx ss[i])]:=by
   have:ss.take (i+1)=ss.take i++[ss[i]]:=by simp
   rw[this,Qe,List.map_append];rfl
  have hel:(Qe (ss.take i)).length=i:=by rw[Qe,List.length_map,List.length_take];omega
  have e1:decide ((i:Int) < (ss.length:Int))=true:=Ea (by omega)
  have t2:=Va hi (show ss.length≤maxLen by unfold maxLen;omega)
  have hq:Ga (i:Int) 32:=by unfold Ga;omega
  have t1:((i:Int)).toNat=i:=by simp
  have m1:i * 1=i:=by omega
  have p1:=Ki (A:=[.tok 2048 i nl,Jb (wc i)]) (id:=1) (es:=wc i) rfl 0 1
  have p2:=Ki (A:=[.tok 2048 i nl,Jb (wc i)]) (id:=1) (es:=wc i) rfl 1 i
  rw[Nat.zero_add] at p1
  have st:=Gw (A:=[.tok 2048 i nl,Jb (wc i)]) (id:=1) (es:=wc i) rfl (k:=1+i) (by rw[wc,ng];omega) (e:= .bool true) rfl rfl
  rw[kM (by omega)] at st
  have st2:([.tok 2048 i nl,Jb (wc i)]:List ba).set 1 (Jb (wc (i+1)))=[.tok 2048 i nl,Jb (wc (i+1))]:=rfl
  rw[st2] at st
  have hz1:ba.box (List.map AV.pv (List.replicate 2048 (PV.bool false)))=Jb (yf 2048 fun _=>false):=by rw[ID]
  have hcz:(List.replicate 2048 (PV.bool false)).length=2048:=List.length_replicate
  have hld:ya [.tok 2048 i nl,Jb (wc (i+1)),Jb (Lx ss[i])] true 2048 (.ptr 2 0)=some (.pv (.agg (Lx ss[i]))):=Kl (id:=2) rfl (mg _ _)
  have hap:=Kg (A:=[.tok 2048 i nl,Jb (wc (i+1)),Jb (Lx ss[i])]) (id:=0) (n:=i) (sz:=2048) (h:= .uq) (nl:=nl) (ag:=true) (bytes:=2048) (es:=Qe (ss.take i)) rfl hel.symm (by unfold mb;omega) (.agg (Lx ss[i]))
  rw[← hnext,List.set_cons_zero] at hap
  have c1:=xg (wc i) 3
  have c1':=xg (wc (i+1)) 3
  have c2:=xg (wc (i+1)) 2
  have c3:=xg (yf 2048 fun _=>false) 3
  have c0:∀ k n nl,oa k (.tok 2048 n nl)=some (.tok 2048 n nl):=fun k n nl=>rfl
  have hon:=KI 2048 (Mm ss[i] 8)
  have hol:=mg 2048 (Mm ss[i] 8)
  have hLN:∀ st:St,st=⟨Iw S false (Qe (ss.take (i+1))) (i+1:Nat),[.tok 2048 (i+1) false,Jb (wc (i+1))]⟩→LN (fun i t=>∃ nl,t=⟨Iw S nl (Qe (ss.take i)) i,[.tok 2048 i nl,Jb (wc i)]⟩)
   (fun r=>∃ E nl,r=(.exit 0,⟨E,[.tok 2048 ss.length nl,Jb (wc ss.length)]⟩)∧E.get 1= .pv (.rp [S] 0)∧E.get 5= .uq 0 nl 2048 (Qe ss)∧E.get 6= .ptr 1 0) i (.norm,st):=fun st h=>⟨false,h⟩
  generalize LN _ _ i=QQ at hLN ⊢
  have hcl3:Pa (oa 3) [.tok 2048 i nl,Jb (wc (i+1)),Jb (yf 2048 fun _=>false)]=some [.tok 2048 i nl,Jb (wc (i+1)),Jb (yf 2048 fun _=>false)]:=by simp only[Pa,c0,c1',c3,Option.bind_some,Option.map_some]
  have hcl2:Pa (oa 2) [.tok 2048 (i+1) false,Jb (wc (i+1))]=some [.tok 2048 (i+1) false,Jb (wc (i+1))]:=by simp only[Pa,c0,c2,Option.bind_some,Option.map_some]
  change ∀ e∈Lx ss[i],_ at hon
  change (Lx ss[i]).length=2048 at hol
  generalize Lx ss[i]=T at *
  generalize Qe (ss.take i)=os at *
  generalize Qe (ss.take (i+1))=os' at *
  generalize hzs:List.replicate 2048 (PV.bool false)=zs at *
  have hall:((T.map AV.pv).all AV.one)=true:=by
   rw[List.all_eq_true];intro v hv
   obtain⟨e,he,rfl⟩:=List.mem_map.1 hv
   exact hon e he
  have hsr:na (zs.map AV.pv++[]) 0 (T.map AV.pv)=T.map AV.pv:=by
   have:=Ht (T.map AV.pv) (zs.map AV.pv) [] (by simp;omega)
   rw[List.append_nil]
   simpa using this
  have hTl:(T.map AV.pv).length=2048:=by rw[List.length_map,hol]
  have hap2:=ff T
  have htT:T.take 2048=T:=List.take_of_length_le (by omega)
  have hle:(2048≤(zs.map AV.pv++[]).length)=True:=eq_true (by rw[List.append_nil,List.length_map,hcz];exact Nat.le_refl _)
  generalize hoz:Jb (yf 2048 fun _=>false)=oz at *
  generalize Jb (wc i)=o1 at *
  generalize Jb (wc (i+1))=o1' at *
  generalize hoT:Jb T=oT at *
  have htk:∀ a b c:ba,([a,b,c]:List ba).take 3=[a,b,c]:=fun a b c=>rfl
  have htk2:∀ a b c:ba,([a,b,c]:List ba).take 2=[a,b]:=fun a b c=>rfl
  have d0:(0 < 3)=True:=by simp
  have d1:(1 < 3)=True:=by simp
  have d2:(2 < 3)=True:=by simp
  have d02:(0 < 2)=True:=by simp
  have d12:(1 < 2)=True:=by simp
  simp -implicitDefEqProofs only[SP,WP,na,sevalprocAttr,-List.reduceReplicate,vf,Cb,Wb,ab,ln,e1,eq_true hq,t1,m1,p1,p2,st,hzs,hz1,hcl3,htk,d0,d1,d2,ga,za,AV.cut,pa,Iw]
  refine xa hin ?_
  rintro r ⟨E,rfl,g1,g5,g6,g7,g8⟩
  simp -implicitDefEqProofs only[SP,WP,na,sevalprocAttr,-List.reduceReplicate,g1,g5,g6,g7,g8,hld,hzs,hTl,hall,hsr,hap,hap2,htT,hle,t2,hcl2,htk2,d02,d12,ga,za,AV.cut,pa]
  exact hLN _ rfl
 ·rintro t ⟨nl,rfl⟩
  rw[List.take_length]
  have e1:decide ((ss.length:Int) < (ss.length:Int))=false:=Fa (by omega)
  generalize Jb (wc ss.length)=oF
  generalize Qe ss=os
  generalize hQ:(fun r:Ex×St=>r.1.stop=true∧_)=Q
  simp -implicitDefEqProofs only[SX,sevalprocAttr,-List.reduceReplicate,vf,Wb,ab,ln,e1,Iw]
  subst hQ
  exact⟨rfl,_,nl,rfl,by simp[Tr.aa],by simp[Tr.aa],by simp[Tr.aa]⟩
end Go.AM.B1
namespace Go.AM.B1
open Go.AM Go.AM.So
def Ff (f:Nat→Bool):Nat→Bool
 |0=>false
 |n+1=>Ff f n||f n
def Sk (ss:List mc) (a:Al) (x j:Nat):Bool:=a.2.toNat.testBit j&&(match ss[j]? with | some s=>mq s a.1 x | none=>false)
def ep (ss:List mc) (a:Al) (x j:Nat):Bool:=Sk ss a x j&&(match ss[j]? with | some s=>((s.parts.length:Int)==(a.1:Int)+1) | none=>false)
abbrev nI (S:PV) (nl nl3:Bool) (os es rs:List PV) (n x i:Int) (so en:Bool):Tr:=
 ((((((((((Tr.lf.set 18 (.pv (i64 i))).set 17 (.pv (.bool en))).set 16 (.pv (.bool so))).set 15 (.ptr 5 0)).set 14 (.pv (i64 x))).set 13 (.ptr 4 0)).set 12 (.pv (i64 n))).set 11 (.uq 3 nl3 256 rs)).set 10 (.uq 2 false 33 es)).set 5 (.uq 0 nl 2048 os)).set 1 (.pv (.rp [S] 0))
theorem pI (d:Int) (f:Nat→Bool) {i:Nat} (h:i < 32):(fc d f)[1+i]? =some (.bool (f i)):=by
 rw[Nat.add_comm,fc,List.getElem?_cons_succ,lH f h]
theorem mC (H:List ba) (id:Nat) (nl:Bool) {l:List Al} {i:Nat} {a:Al} (ha:l[i]? =some a):wa H 33 (.uq id nl 33 (l.map Ie)) (i:Int)=some (.pv (.rp (fc a.1 a.2.toNat.testBit) 0)):=by
 have hi:=(List.getElem?_eq_some_iff.1 ha).1
 simp only[wa]
 rw[if_pos (by refine⟨trivial,?_⟩;unfold Ga;simp;omega)]
 simp[ha,Ie,PV.cells]
theorem KP (H:List ba) (id:Nat) (nl:Bool) {ss:List mc} {i:Nat} (hi:i < ss.length):wa H 2048 (.uq id nl 2048 (Qe ss)) (i:Int)=some (.pv (.rp (Lx ss[i]) 0)):=by
 simp only[wa]
 rw[if_pos (by refine⟨trivial,?_⟩;unfold Ga Qe;simp;omega)]
 simp[hi,Qe,PV.cells]
theorem Ni (H:List ba) (row:List PV) (o d:Nat):place H d (.pv (.rp row o))=some (.pv (.rp row (o+d))):=rfl
theorem dz {row:List PV} {k:Nat} {e:PV} (h:row[k]? =some e) (H:List ba):ya H false 1 (.pv (.rp row k))=some (.pv e):=by
 simp only[ya,xl,Bool.false_eq_true,if_false,h,Option.map_some]
theorem kV (call:Xa) {S:PV} {ss:List mc} {es:List PV} (hS:pb S ss es) (hw:ss.length≤32) (h8:∀ s∈ss,s.parts.length≤8) {sets:List Al} {n x:Nat} {a:Al} (ha:sets[n]? =some a) (hx:x < 256)
 (Aa:∀ i s,ss[i]? =some s→a.2.toNat.testBit i=true→a.1 < s.parts.length) (hd:a.1≤64)
 (nl nl3:Bool) (rs:List PV) (o0 o1 o2 o3 o4:ba) (hc:Pa (oa 6) [o0,o1,o2,o3,o4]=some [o0,o1,o2,o3,o4]):
 Ld (fun r=>∃ E,r=(.exit 8,⟨E,[o0,o1,o2,o3,o4,Jb (fc ((a.1:Int)+1) fun j=>decide (j < ss.length)&&Sk ss a x j)]⟩)∧E.get 1= .pv (.rp [S] 0)∧E.get 5= .uq 0 nl 2048 (Qe ss)∧E.get 10= .uq 2 false 33 (sets.map Ie)∧E.get 11= .uq 3 nl3 256 rs∧E.get 12= .pv (i64 n)∧E.get 13= .ptr 4 0∧E.get 14= .pv (i64 x)∧E.get 15= .ptr 5 0∧
  E.get 16= .pv (.bool (Ff (Sk ss a x) ss.length))∧E.get 17= .pv (.bool (Ff (ep ss a x) ss.length)))
  (fb (ma (ta call gd) (ga 6 [1,5,10,11,12,13,14,15,16,17,18])) qa ⟨nI S nl nl3 (Qe ss) (sets.map Ie) rs n x 0 false false,[o0,o1,o2,o3,o4,Jb (fc ((a.1:Int)+1) fun _=>false)]⟩):=by
 have ln:=hS.Tb
 have a0:(fc ((a.1:Int)+1) fun _=>false)=fc ((a.1:Int)+1) fun j=>decide (j < 0)&&Sk ss a x j:=by simp
 rw[a0]
 refine xa (yb (g:=ma (ta call gd) (ga 6 [1,5,10,11,12,13,14,15,16,17,18]))
  (fun i t=>t=⟨nI S nl nl3 (Qe ss) (sets.map Ie) rs n x i (Ff (Sk ss a x) i) (Ff (ep ss a x) i),[o0,o1,o2,o3,o4,Jb (fc ((a.1:Int)+1) fun j=>decide (j < i)&&Sk ss a x j)]⟩)
  ss.length (by unfold qa;omega) _ rfl ?_ ?_) (fun r h=>h.2)
 ·rintro i t hi rfl
  obtain⟨P,ps,hP,b0⟩:=hS.Pd hi
  have lP:=hP.parts.Tb
  have hsi:ss[i]? =some ss[i]:=List.getElem?_eq_getElem hi
  have hdep:=Aa i _ hsi
  have h8i:=h8 _ (List.getElem_mem hi)
  have i1:=fun H=>mC H 2 false ha
  have i2:=fun H=>KP H 0 nl hi
  have l1:=dz (pI (a.1:Int) a.2.toNat.testBit (i:=i) (by omega))
  have l0:=dz (show (fc (a.1:Int) a.2.toNat.testBit)[0]? =some (i64 a.1) from rfl)
  have l2:a.1 < ss[i].parts.length→∀ H,ya H false 1 (.pv (.rp (Lx ss[i]) (a.1 * 256+x)))=some (.pv (.bool (mq ss[i] a.1 x))):=by
   intro hlt
   refine dz ?_
   rw[Lx,Fy _ (by omega),Mm,show (a.1 * 256+x) / 256=a.1 by omega,show (a.1 * 256+x) % 256=x by omega,decide_eq_true (show a.1 < 8 by omega),Bool.true_and]
  have onE:Sk ss a x i=(a.2.toNat.testBit i&&mq ss[i] a.1 x):=by rw[Sk,hsi]
  have enE:ep ss a x i=(Sk ss a x i&&((ss[i].parts.length:Int)==(a.1:Int)+1)):=by rw[ep,hsi]
  have p1:=Ki (A:=[o0,o1,o2,o3,o4,Jb (fc ((a.1:Int)+1) fun j=>decide (j < i)&&Sk ss a x j)]) (id:=5) (es:=fc ((a.1:Int)+1) fun j=>decide (j < i)&&Sk ss a x j) rfl 0 1
  have p2:=Ki (A:=[o0,o1,o2,o3,o4,Jb (fc ((a.1:Int)+1) fun j=>decide (j < i)&&Sk ss a x j)]) (id:=5) (es:=fc ((a.1:Int)+1) fun j=>decide (j < i)&&Sk ss a x j) rfl 1 i
  rw[Nat.zero_add] at p1
  have st:=Gw (A:=[o0,o1,o2,o3,o4,Jb (fc ((a.1:Int)+1) fun j=>decide (j < i)&&Sk ss a x j)]) (id:=5) (es:=fc ((a.1:Int)+1) fun j=>decide (j < i)&&Sk ss a x j) rfl (k:=1+i) (by rw[ng];omega) (e:= .bool (Sk ss a x i)) rfl rfl
  have hnew:(fc ((a.1:Int)+1) fun j=>decide (j < i)&&Sk ss a x j).set (1+i) (.bool (Sk ss a x i))=fc ((a.1:Int)+1) fun j=>decide (j < i+1)&&Sk ss a x j:=by
   rw[Nat.add_comm 1 i]
   unfold fc
   rw[List.set_cons_succ,DN _ (by omega)]
   congr 1
   refine Zs fun j hj=> ?_
   by_cases h:j=i
   ·subst h;simp
   ·rw[if_neg h]
    congr 1
    rw[decide_eq_decide];omega
  rw[hnew] at st
  have st2:([o0,o1,o2,o3,o4,Jb (fc ((a.1:Int)+1) fun j=>decide (j < i)&&Sk ss a x j)]:List ba).set 5 (Jb (fc ((a.1:Int)+1) fun j=>decide (j < i+1)&&Sk ss a x j))=[o0,o1,o2,o3,o4,Jb (fc ((a.1:Int)+1) fun j=>decide (j < i+1)&&Sk ss a x j)]:=rfl
  rw[st2] at st
  have q1:=Ki (A:=[o0,o1,o2,o3,o4,Jb (fc ((a.1:Int)+1) fun j=>decide (j < i+1)&&Sk ss a x j)]) (id:=5) (es:=fc ((a.1:Int)+1) fun j=>decide (j < i+1)&&Sk ss a x j) rfl 0 1
  have q0:=Ki (A:=[o0,o1,o2,o3,o4,Jb (fc ((a.1:Int)+1) fun j=>decide (j < i+1)&&Sk ss a x j)]) (id:=5) (es:=fc ((a.1:Int)+1) fun j=>decide (j < i+1)&&Sk ss a x j) rfl 0 0
  have q2:=Ki (A:=[o0,o1,o2,o3,o4,Jb (fc ((a.1:Int)+1) fun j=>decide (j < i+1)&&Sk ss a x j)]) (id:=5) (es:=fc ((a.1:Int)+1) fun j=>decide (j < i+1)&&Sk ss a x j) rfl 1 i
  rw[Nat.zero_add] at q1 q0
  have k1:=EE (A:=[o0,o1,o2,o3,o4,Jb (fc ((a.1:Int)+1) fun j=>decide (j < i+1)&&Sk ss a x j)]) (id:=5) (es:=fc ((a.1:Int)+1) fun j=>decide (j < i+1)&&Sk ss a x j) rfl (pI _ _ (i:=i) (by omega))
  have k0:=EE (A:=[o0,o1,o2,o3,o4,Jb (fc ((a.1:Int)+1) fun j=>decide (j < i+1)&&Sk ss a x j)]) (id:=5) (es:=fc ((a.1:Int)+1) fun j=>decide (j < i+1)&&Sk ss a x j) rfl (k:=0) (e:=i64 ((a.1:Int)+1)) rfl
  rw[decide_eq_true (Nat.lt_succ_self i),Bool.true_and] at k1
  have c5:=xg (fc ((a.1:Int)+1) fun j=>decide (j < i+1)&&Sk ss a x j) 6
  have e1:decide ((i:Int) < (ss.length:Int))=true:=Ea (by omega)
  have t2:=Va hi (show ss.length≤maxLen by unfold maxLen;omega)
  have hq:Ga (i:Int) 32:=by unfold Ga;omega
  have hqx:Ga (x:Int) 256:=by unfold Ga;omega
  have t1:∀ i:Nat,((i:Int)).toNat=i:=fun i=>by simp
  have m1:∀ i:Nat,i * 1=i:=fun i=>by omega
  have z1:∀ i:Nat,0+i=i:=fun i=>by omega
  have hLN:∀ st:St,st=⟨nI S nl nl3 (Qe ss) (sets.map Ie) rs n x (i+1:Nat) (Ff (Sk ss a x) i||Sk ss a x i) (Ff (ep ss a x) i||ep ss a x i),[o0,o1,o2,o3,o4,Jb (fc ((a.1:Int)+1) fun j=>decide (j < i+1)&&Sk ss a x j)]⟩→
   LN (fun i t=>t=⟨nI S nl nl3 (Qe ss) (sets.map Ie) rs n x i (Ff (Sk ss a x) i) (Ff (ep ss a x) i),[o0,o1,o2,o3,o4,Jb (fc ((a.1:Int)+1) fun j=>decide (j < i)&&Sk ss a x j)]⟩)
   (fun r=>∃ E,r=(.exit 8,⟨E,[o0,o1,o2,o3,o4,Jb (fc ((a.1:Int)+1) fun j=>decide (j < ss.length)&&Sk ss a x j)]⟩)∧E.get 1= .pv (.rp [S] 0)∧E.get 5= .uq 0 nl 2048 (Qe ss)∧E.get 10= .uq 2 false 33 (sets.map Ie)∧E.get 11= .uq 3 nl3 256 rs∧E.get 12= .pv (i64 n)∧E.get 13= .ptr 4 0∧E.get 14= .pv (i64 x)∧E.get 15= .ptr 5 0∧
    E.get 16= .pv (.bool (Ff (Sk ss a x) ss.length))∧E.get 17= .pv (.bool (Ff (ep ss a x) ss.length))) i (.norm,st):=fun st h=>h
  generalize LN _ _ i=QQ at hLN ⊢
  generalize (fc ((a.1:Int)+1) fun j=>decide (j < i)&&Sk ss a x j)=Y at *
  generalize (fc ((a.1:Int)+1) fun j=>decide (j < i+1)&&Sk ss a x j)=Y' at *
  generalize fc (a.1:Int) a.2.toNat.testBit=row at *
  generalize Jb Y=oY at *
  generalize Jb Y'=oY' at *
  have hcl:Pa (oa 6) [o0,o1,o2,o3,o4,oY']=some [o0,o1,o2,o3,o4,oY']:=by
   simp only[Pa,Option.bind_eq_some_iff,Option.map_eq_some_iff] at hc
   simp only[Pa]
   obtain⟨_,h0,_,⟨_,h1,_,⟨_,h2,_,⟨_,h3,_,⟨_,h4,_⟩,_⟩,_⟩,_⟩,hh⟩:=hc
   simp_all
  have htk:∀ a b c d e f:ba,([a,b,c,d,e,f]:List ba).take 6=[a,b,c,d,e,f]:=fun a b c d e f=>rfl
  have d0:(0 < 6)=True:=by simp
  have d2:(2 < 6)=True:=by simp
  have d3:(3 < 6)=True:=by simp
  have d4:(4 < 6)=True:=by simp
  have d5:(5 < 6)=True:=by simp
  generalize Lx ss[i]=hrow at *
  generalize ss[i]=s at *
  generalize Qe ss=os at *
  generalize sets.map Ie=se at *
  generalize Ff (Sk ss a x) i=so at *
  generalize Ff (ep ss a x) i=en at *
  generalize hle:((s.parts.length:Int)==(a.1:Int)+1)=le at *
  rw[enE] at hLN
  rw[onE] at st k1 hLN
  generalize hbb:a.2.toNat.testBit i=bb at *
  generalize mq s a.1 x=mm at *
  have hm6:(10≤20)=True:=by simp
  cases bb with
  |false=>
   simp only[Bool.false_and,Bool.or_false] at st k1 hLN
   cases so <;> cases en <;>
   ·simp -implicitDefEqProofs only[SX,sevalprocAttr,gd,Wb,ab,Ni,ln,e1,t2,i1,i2,l0,l1,eq_true hq,eq_true hqx,t1,m1,z1,p1,p2,st,q0,q1,q2,k0,k1,hcl,htk,d0,d2,d3,d4,d5,ga,za,AV.cut,pa,nI]
    exact hLN _ rfl
  |true=>
   have l2':=l2 (hdep rfl)
   have hqd:Ga (a.1:Int) 8:=by have:=hdep rfl;unfold Ga;omega
   simp only[Bool.true_and] at st k1 hLN
   cases mm with
   |false=>
    simp only[Bool.false_and,Bool.or_false] at hLN
    cases so <;> cases en <;>
    ·simp -implicitDefEqProofs only[SX,sevalprocAttr,gd,Wb,ab,Ni,ln,e1,t2,i1,i2,l0,l1,l2',eq_true hq,eq_true hqx,eq_true hqd,t1,m1,z1,p1,p2,st,q0,q1,q2,k0,k1,hcl,htk,d0,d2,d3,d4,d5,ga,za,AV.cut,pa,nI]
     exact hLN _ rfl
   |true=>
    simp only[Bool.true_and,Bool.or_true] at hLN
    cases so <;> cases en <;>
    ·simp -implicitDefEqProofs only[SX,sevalprocAttr,gd,Wb,ab,Dc,xd,Ni,ln,lP,b0,e1,t2,i1,i2,l0,l1,l2',eq_true hq,eq_true hqx,eq_true hqd,t1,m1,z1,p1,p2,st,q0,q1,q2,k0,k1,hle,hcl,htk,d0,d2,d3,d4,d5,ga,za,AV.cut,pa,nI]
     exact hLN _ rfl
 ·rintro t rfl
  have e1:decide ((ss.length:Int) < (ss.length:Int))=false:=Fa (by omega)
  generalize Jb (fc ((a.1:Int)+1) fun j=>decide (j < ss.length)&&Sk ss a x j)=oF
  generalize Qe ss=os
  generalize sets.map Ie=se
  generalize Ff (Sk ss a x) ss.length=so
  generalize Ff (ep ss a x) ss.length=en
  generalize hQ:(fun r:Ex×St=>r.1.stop=true∧_)=Q
  simp -implicitDefEqProofs only[SX,sevalprocAttr,gd,Wb,ab,ln,e1,nI]
  subst hQ
  exact⟨rfl,_,rfl,by simp[Tr.aa],by simp[Tr.aa],by simp[Tr.aa],by simp[Tr.aa],by simp[Tr.aa],by simp[Tr.aa],by simp[Tr.aa],by simp[Tr.aa],by simp[Tr.aa],by simp[Tr.aa]⟩
end Go.AM.B1
namespace Go.AM.B1
open Go.AM Go.AM.So
theorem YF {x:Int}:∀ {l:List (Int×Int)} {last n:Int},Na 255 last l=true→((sg x n l).2=true↔uj x l)
 | [],last,n,h=>by simp[sg,wm]
 |p::l,last,n,h=>by
  have hp:=Vl h p (by simp)
  have h2:=h
  simp only[Na,Bool.and_eq_true] at h2
  rw[sg,El]
  by_cases h1:x < p.1
  ·rw[if_pos h1]
   simp only[Bool.false_eq_true,false_iff]
   rintro (h3 | h3)
   ·omega
   ·have:=cn h2.2 h3;omega
  ·rw[if_neg h1]
   by_cases h3:x≤p.2
   ·rw[if_pos h3];simp;omega
   ·rw[if_neg h3,YF h2.2]
    constructor
    ·exact .inr
    ·rintro (h4 | h4)
     ·omega
     ·exact h4
theorem dP (l:List (Int×Int)) (x:Nat):VN l x=Fi l x:=by
 unfold VN Dx Fi
 by_cases h:Na 255 (-2) l=true
 ·rw[if_pos h,h,Bool.true_and,Bool.eq_iff_iff,YF h,Cu]
 ·rw[if_neg h]
  have:Na 255 (-2) l=false:=by simpa using h
  rw[this];rfl
theorem Sv (s:mc) (d x:Nat):Vs s d x=mq s d x:=by
 unfold Vs mq
 cases s.parts[d]? with
 |none=>rfl
 |some l=>exact dP l x
theorem Ms (f:Nat→Bool):∀ n,Ff f n=true↔∃ j,j < n∧f j=true
 |0=>by simp[Ff]
 |n+1=>by
  rw[Ff,Bool.or_eq_true,Ms f n]
  constructor
  ·rintro (⟨j,h1,h2⟩ | h)
   ·exact⟨j,by omega,h2⟩
   ·exact⟨n,by omega,h⟩
  ·rintro⟨j,h1,h2⟩
   by_cases h:j=n
   ·subst h;exact .inr h2
   ·exact .inl ⟨j,by omega,h2⟩
theorem RM {ss:List mc} {a:Al} {x j:Nat} (h:ss.length≤j):Sk ss a x j=false:=by
 rw[Sk,List.getElem?_eq_none h,Bool.and_false]
structure cB (ss:List mc) (a:Al) (x:Nat) (m:Nat):Prop where
 fst:(Xg x a.2 a.1 0 ss (0,false)).1=(m:Int)
 lt:m < 4294967296
 bit:∀ j,m.testBit j=Sk ss a x j
 ends:(Xg x a.2 a.1 0 ss (0,false)).2=Ff (ep ss a x) ss.length
 ex:m≠0↔Ff (Sk ss a x) ss.length=true
theorem dS {ss:List mc} {a:Al} (hb:kT a) (hw:ss.length≤32) (x:Nat):∃ m,cB ss a x m:=by
 obtain⟨d,_⟩:=a
 obtain⟨b,rfl,hb⟩:=hb
 have hN:Xg x (b:Int) d 0 ss (0,false)=(((tt x b d 0 ss (0,false)).1:Int),(tt x b d 0 ss (0,false)).2):=rM (x:=x) (d:=d) hb ss 0 (0,false) (by omega) (by decide)
 have hbit:∀ j,(tt x b d 0 ss (0,false)).1.testBit j=Sk ss (d,(b:Int)) x j:=by
  intro j
  rw[Iz]
  simp only[Nat.zero_testBit,Nat.zero_le,decide_true,Bool.true_and,Bool.false_or,Nat.sub_zero,Sk,Int.toNat_natCast]
  cases ss[j]? with
  |none=>simp
  |some s=>simp only[Sv]
 refine⟨(tt x b d 0 ss (0,false)).1,?_,BH ss 0 (0,false) (by omega) (by decide),hbit,?_,?_⟩
 ·show (Xg x (b:Int) d 0 ss (0,false)).1=_
  rw[hN]
 ·show (Xg x (b:Int) d 0 ss (0,false)).2=_
  rw[hN]
  show (tt x b d 0 ss (0,false)).2=_
  rw[EA,Bool.false_or,Bool.eq_iff_iff,List.any_eq_true,Ms]
  constructor
  ·rintro⟨⟨s,j⟩,h1,h2⟩
   rw[List.mk_mem_zipIdx_iff_getElem?] at h1
   have hj:=(List.getElem?_eq_some_iff.1 h1).1
   refine⟨j,hj,?_⟩
   simp only[Sv,Bool.and_eq_true,beq_iff_eq] at h2
   rw[ep,Sk,h1]
   simp only[Int.toNat_natCast,Bool.and_eq_true,beq_iff_eq]
   exact⟨h2.1,by omega⟩
  ·rintro⟨j,hj,h2⟩
   have h1:ss[j]? =some ss[j]:=List.getElem?_eq_getElem hj
   rw[ep,Sk,h1] at h2
   simp only[Int.toNat_natCast,Bool.and_eq_true,beq_iff_eq] at h2
   refine⟨(ss[j],j),by rw[List.mk_mem_zipIdx_iff_getElem?];exact h1,?_⟩
   simp only[Sv,Bool.and_eq_true,beq_iff_eq]
   exact⟨h2.1,by omega⟩
 ·rw[Ms]
  constructor
  ·intro h
   apply Decidable.byContradiction
   intro hn
   apply h
   apply Nat.eq_of_testBit_eq
   intro j
   rw[hbit,Nat.zero_testBit]
   by_cases hj:j < ss.length
   ·cases hc:Sk ss (d,(b:Int)) x j with
    |false=>rfl
    |true=>exact absurd ⟨j,hj,hc⟩ hn
   ·exact RM (by omega)
  ·rintro⟨j,hj,h⟩ h0
   rw[← hbit,h0,Nat.zero_testBit] at h
   cases h
theorem cB.enc {ss:List mc} {a:Al} {x m:Nat} (h:cB ss a x m):fc ((a.1:Int)+1) (fun j=>decide (j < ss.length)&&Sk ss a x j)=fc ((a.1+1:Nat):Int) m.testBit:=by
 have:((a.1+1:Nat):Int)=(a.1:Int)+1:=by omega
 rw[this]
 unfold fc
 congr 1
 refine Zs fun j hj=> ?_
 rw[h.bit]
 by_cases hj:j < ss.length
 ·rw[decide_eq_true hj,Bool.true_and]
 ·rw[decide_eq_false hj,Bool.false_and,RM (by omega)]
theorem cB.IX {ss:List mc} {a:Al} {x m:Nat} (h:cB ss a x m):kT (a.1+1,(m:Int)):=⟨m,rfl,h.lt⟩
theorem cB.step {ss:List mc} {a:Al} {x m:Nat} (h:cB ss a x m) (sets:List Al):
 vg ss a x sets=if Ff (Sk ss a x) ss.length=false then some (sets,-2)
  else if Ff (ep ss a x) ss.length=true then some (sets,-1)
  else match ql (a.1+1,(m:Int)) sets 0 with
   |some k=>some (sets,(k:Int))
   |none=>if sets.length < 64 then some (sets++[(a.1+1,(m:Int))],(sets.length:Int)) else none:=by
 unfold vg
 rw[h.ends,h.fst]
 have:((m:Int)=0)=(Ff (Sk ss a x) ss.length=false):=by
  apply propext
  have:=h.ex
  cases hc:Ff (Sk ss a x) ss.length with
  |true=>rw[hc] at this;simp;have:=this.2 rfl;omega
  |false=>
   rw[hc] at this
   simp
   exact Decidable.byContradiction fun hn=>by have:=this.1 hn;cases this
 by_cases h1:Ff (Sk ss a x) ss.length=false
 ·rw[if_pos h1,if_pos (this.mpr h1)]
 ·rw[if_neg h1,if_neg (fun h=>h1 (this.mp h))]
  by_cases h2:Ff (ep ss a x) ss.length=true
  ·rw[if_pos h2,if_pos h2]
  ·rw[if_neg h2,if_neg h2]
   cases ql (a.1+1,(m:Int)) sets 0 <;> rfl
end Go.AM.B1
namespace Go.AM.B1
open Go.AM Go.AM.So
abbrev OG (S:PV) (nl nl3:Bool) (os es rs:List PV) (n x:Int):Tr:=
 ((((((Tr.lf.set 14 (.pv (i64 x))).set 13 (.ptr 4 0)).set 12 (.pv (i64 n))).set 11 (.uq 3 nl3 256 rs)).set 10 (.uq 2 false 33 es)).set 5 (.uq 0 nl 2048 os)).set 1 (.pv (.rp [S] 0))
theorem wR:([PV.int .i64 0,PV.bool false,PV.bool false,PV.bool false,PV.bool false,PV.bool false,PV.bool false,PV.bool false,PV.bool false,PV.bool false,PV.bool false,PV.bool false,PV.bool false,PV.bool false,PV.bool false,PV.bool false,PV.bool false,PV.bool false,PV.bool false,PV.bool false,PV.bool false,PV.bool false,PV.bool false,PV.bool false,PV.bool false,PV.bool false,PV.bool false,PV.bool false,PV.bool false,PV.bool false,PV.bool false,PV.bool false,PV.bool false]:List PV)=fc 0 fun _=>false:=rfl
theorem rT (d e:Int) (f:Nat→Bool):((fc d f).map AV.pv).set 0 (.pv (i64 e))=(fc e f).map AV.pv:=rfl
theorem QG {es:List PV} (h:∀ e∈es,(AV.pv e).one=true):(es.map AV.pv).all AV.one=true:=by
 rw[List.all_eq_true];intro v hv
 obtain⟨e,he,rfl⟩:=List.mem_map.1 hv
 exact h e he
theorem Dt {es zs:List PV} (h:es.length=zs.length):na (zs.map AV.pv++[]) 0 (es.map AV.pv)=es.map AV.pv:=by
 have:=Ht (es.map AV.pv) (zs.map AV.pv) [] (by simp;omega)
 rw[List.append_nil]
 simpa using this
section
variable (call:Xa) {S:PV} {ss:List mc} {es:List PV} (hS:pb S ss es) (hw:ss.length≤32) (h8:∀ s∈ss,s.parts.length≤8) {sets:List Al} {n x:Nat} {a:Al} (ha:sets[n]? =some a) (hx:x < 256)
 (Aa:Wl ss sets) (hd:a.1≤64)
 (nl nl3:Bool) (rs:List PV) (o0 o1 o3:ba) (h0:∀ n,oa n o0=some o0) (h1:∀ n,oa n o1=some o1) (h3:∀ n,oa n o3=some o3) {row:List Int} (hrow:row.length=256)
include hS hw h8 ha hx Aa hd h0 h1 h3 hrow
set_option maxRecDepth 8000 in
theorem ME:
 Ld (fun r=>(∃ p,vg ss a x sets=some p∧r=(.norm,⟨OG S nl nl3 (Qe ss) (p.1.map Ie) rs n (x+1:Nat),[o0,o1,.tok 33 p.1.length false,o3,Jb ((row.set x p.2).map i64)]⟩))∨
  (vg ss a x sets=none∧∃ E H,r=(.ret,⟨E,H⟩)∧E.get 2= .pv .fa∧E.get 3= .pv .fa∧E.get 4= .pv (.bool false)))
  (ma (ta call Xd) (ga 5 [1,5,10,11,12,13,14]) ⟨OG S nl nl3 (Qe ss) (sets.map Ie) rs n x,[o0,o1,.tok 33 sets.length false,o3,Jb (row.map i64)]⟩):=by
 obtain⟨_,b,hb,hblt,hbok⟩:=Aa.2 n a ha
 have hba:kT a:=⟨b,hb,hblt⟩
 have hall:∀ c∈sets,kT c:=by
  intro c hc
  obtain⟨k,hk,rfl⟩:=List.getElem_of_mem hc
  obtain⟨_,b,hb,hblt,_⟩:=Aa.2 k _ (List.getElem?_eq_getElem hk)
  exact⟨b,hb,hblt⟩
 have hl64:=Aa.1
 obtain⟨m,hm⟩:=dS (x:=x) hba hw
 have hstep:=hm.step sets
 have hcR:∀ n (r:List Int),oa n (Jb (r.map i64))=some (Jb (r.map i64)):=fun n r=>xg _ n
 have c2:∀ k n,oa k (.tok 33 n false)=some (.tok 33 n false):=fun k n=>rfl
 have hc6:Pa (oa 6) [o0,o1,.tok 33 sets.length false,o3,Jb (row.map i64)]=some [o0,o1,.tok 33 sets.length false,o3,Jb (row.map i64)]:=by
  simp only[Pa,h0,h1,h3,c2,hcR,Option.bind_some,Option.map_some]
 have hl4:=kV call hS hw h8 ha hx (fun i s hs ht=>hbok i s hs (by rw[hb] at ht;simpa using ht)) hd nl nl3 rs o0 o1 (.tok 33 sets.length false) o3 (Jb (row.map i64)) hc6
 rw[hm.enc] at hl4
 have i1:=fun H=>mC H 2 false ha
 have l0:=dz (show (fc (a.1:Int) a.2.toNat.testBit)[0]? =some (i64 a.1) from rfl)
 have e1:decide ((x:Int) < 256)=true:=Ea (by omega)
 have t2:IntKind.i64.wrap ((x:Int)+1)=((x+1:Nat):Int):=Ba (by omega)
 have t3:IntKind.i64.wrap ((a.1:Int)+1)=(a.1:Int)+1:=Ba (by omega)
 have hq:Ga (x:Int) 256:=by unfold Ga;omega
 have t1:∀ i:Nat,((i:Int)).toNat=i:=fun i=>by simp
 have m1:∀ i:Nat,i * 1=i:=fun i=>by omega
 have z1:∀ i:Nat,0+i=i:=fun i=>by omega
 have zl:=ng 0 fun _=>false
 have f1:(0+1≤((fc 0 fun _=>false).map AV.pv).length)=True:=eq_true (by rw[List.length_map,zl];omega)
 have f1':(1≤((fc 0 fun _=>false).map AV.pv).length)=True:=eq_true (by rw[List.length_map,zl];omega)
 have f2:=rT 0 ((a.1:Int)+1) fun _=>false
 have f3:=ff (fc ((a.1:Int)+1) fun _=>false)
 have st0:La [o0,o1,.tok 33 sets.length false,o3,Jb (row.map i64),Jb (fc 0 fun _=>false)] 33 (.ptr 5 0) (.pv (.agg (fc ((a.1:Int)+1) fun _=>false)))=some [o0,o1,.tok 33 sets.length false,o3,Jb (row.map i64),Jb (fc ((a.1:Int)+1) fun _=>false)]:=
  Ro (id:=5) rfl zl (ng _ _) (bw _ _)
 have hcl6:∀ Y:List PV,Pa (oa 6) [o0,o1,.tok 33 sets.length false,o3,Jb (row.map i64),Jb Y]=some [o0,o1,.tok 33 sets.length false,o3,Jb (row.map i64),Jb Y]:=by
  intro Y
  simp only[Pa,h0,h1,h3,c2,hcR,xg Y 6,Option.bind_some,Option.map_some]
 have hcl60:=hcl6 (fc ((a.1:Int)+1) fun _=>false)
 have hcl5:∀ (k:Nat) (r:List Int),Pa (oa 5) [o0,o1,.tok 33 k false,o3,Jb (r.map i64)]=some [o0,o1,.tok 33 k false,o3,Jb (r.map i64)]:=by
  intro k r
  simp only[Pa,h0,h1,h3,c2,hcR,Option.bind_some,Option.map_some]
 have htk6:∀ a b c d e f:ba,([a,b,c,d,e,f]:List ba).take 6=[a,b,c,d,e,f]:=fun a b c d e f=>rfl
 have htk5:∀ a b c d e f:ba,([a,b,c,d,e,f]:List ba).take 5=[a,b,c,d,e]:=fun a b c d e f=>rfl
 have d6:∀ k:Fin 6,((k:Nat) < 6)=True:=by intro k;simp
 have d60:(0 < 6)=True:=by simp
 have d62:(2 < 6)=True:=by simp
 have d63:(3 < 6)=True:=by simp
 have d64:(4 < 6)=True:=by simp
 have d65:(5 < 6)=True:=by simp
 have d50:(0 < 5)=True:=by simp
 have d52:(2 < 5)=True:=by simp
 have d53:(3 < 5)=True:=by simp
 have d54:(4 < 5)=True:=by simp
 have pl:∀ (k:Nat) (r:List Int) (Y:List PV),place [o0,o1,.tok 33 k false,o3,Jb (r.map i64),Jb Y] x (.ptr 4 0)=some (.ptr 4 x):=by
  intro k r Y
  have:=Ki (A:=[o0,o1,.tok 33 k false,o3,Jb (r.map i64),Jb Y]) (id:=4) (es:=r.map i64) rfl 0 x
  rw[this,Nat.zero_add]
 have st:∀ (k:Nat) (r:List Int) (Y:List PV) (v:Int),r.length=256→La [o0,o1,.tok 33 k false,o3,Jb (r.map i64),Jb Y] 1 (.ptr 4 x) (.pv (i64 v))=some [o0,o1,.tok 33 k false,o3,Jb ((r.set x v).map i64),Jb Y]:=by
  intro k r Y v hr
  have:=Gw (A:=[o0,o1,.tok 33 k false,o3,Jb (r.map i64),Jb Y]) (id:=4) (es:=r.map i64) rfl (k:=x) (by rw[List.length_map];omega) (e:=i64 v) rfl rfl
  rw[this,List.map_set];rfl
 have hset:∀ v,((row.set x (-2)).set x v)=row.set x v:=fun v=>by rw[List.set_set]
 have st1:=st sets.length row (fc ((a.1+1:Nat):Int) m.testBit) (-2) hrow
 have st2:=fun (k:Nat) v=>st k (row.set x (-2)) (fc ((a.1+1:Nat):Int) m.testBit) v (by simp[hrow])
 simp only[hset] at st2
 have pl1:=pl sets.length row (fc ((a.1+1:Nat):Int) m.testBit)
 have pl2:=fun k=>pl k (row.set x (-2)) (fc ((a.1+1:Nat):Int) m.testBit)
 have hfd:=vS hl64 hm.IX hall
 have hldY:∀ (k:Nat) (r:List Int),ya [o0,o1,.tok 33 k false,o3,Jb (r.map i64),Jb (fc ((a.1+1:Nat):Int) m.testBit)] true 33 (.ptr 5 0)=some (.pv (.agg (fc ((a.1+1:Nat):Int) m.testBit))):=fun k r=>Kl (id:=5) rfl (ng _ _)
 have hYl:((fc ((a.1+1:Nat):Int) m.testBit).map AV.pv).length=33:=by rw[List.length_map,ng]
 have hYl':=ng ((a.1+1:Nat):Int) m.testBit
 have hYr:na ((fc 0 fun _=>false).map AV.pv++[]) 0 ((fc ((a.1+1:Nat):Int) m.testBit).map AV.pv)=(fc ((a.1+1:Nat):Int) m.testBit).map AV.pv:=Dt (by rw[ng,ng])
 have hYa:=QG (bw ((a.1+1:Nat):Int) m.testBit)
 have hYp:=ff (fc ((a.1+1:Nat):Int) m.testBit)
 have hYt:(fc ((a.1+1:Nat):Int) m.testBit).take 33=fc ((a.1+1:Nat):Int) m.testBit:=List.take_of_length_le (by rw[ng];exact Nat.le_refl _)
 have f4:(33≤((fc 0 fun _=>false).map AV.pv++[]).length)=True:=eq_true (by rw[List.append_nil,List.length_map,zl];exact Nat.le_refl _)
 have hap:sets.length < 64→Ob [o0,o1,.tok 33 sets.length false,o3,Jb ((row.set x (-2)).map i64),Jb (fc ((a.1+1:Nat):Int) m.testBit)] false .uq 33 true 40 (.uq 2 false 33 (sets.map Ie)) (.pv (.lit 33 [.agg (fc ((a.1+1:Nat):Int) m.testBit)]))=
  some (.uq 2 false 33 ((sets++[(a.1+1,(m:Int))]).map Ie),[o0,o1,.tok 33 (sets.length+1) false,o3,Jb ((row.set x (-2)).map i64),Jb (fc ((a.1+1:Nat):Int) m.testBit)]):=by
  intro hlt
  have:=Kg (A:=[o0,o1,.tok 33 sets.length false,o3,Jb ((row.set x (-2)).map i64),Jb (fc ((a.1+1:Nat):Int) m.testBit)]) (id:=2) (n:=sets.length) (sz:=33) (h:= .uq) (nl:=false) (ag:=true) (bytes:=40) (es:=sets.map Ie) rfl (by rw[List.length_map]) (by unfold mb;omega) (.agg (fc ((a.1+1:Nat):Int) m.testBit))
  rw[this,List.map_append];rfl
 have hen:Ie (a.1+1,(m:Int))= .agg (fc ((a.1+1:Nat):Int) m.testBit):=by simp[Ie]
 rw[hen] at hfd
 have lsn:Tb [] 0 (.uq 2 false 33 (sets.map Ie))=some sets.length:=by simp[Tb]
 have hslen:(sets.map Ie).length=sets.length:=List.length_map _
 have hR1:∀ p,vg ss a x sets=some p→∀ st:St,st=⟨OG S nl nl3 (Qe ss) (p.1.map Ie) rs n (x+1:Nat),[o0,o1,.tok 33 p.1.length false,o3,Jb ((row.set x p.2).map i64)]⟩→(∃ p,vg ss a x sets=some p∧(Ex.norm,st)=(Ex.norm,⟨OG S nl nl3 (Qe ss) (p.1.map Ie) rs n (x+1:Nat),[o0,o1,.tok 33 p.1.length false,o3,Jb ((row.set x p.2).map i64)]⟩))∨
  (vg ss a x sets=none∧∃ E H,(Ex.norm,st)=(.ret,⟨E,H⟩)∧E.get 2= .pv .fa∧E.get 3= .pv .fa∧E.get 4= .pv (.bool false)):=fun p hp st h=> .inl ⟨p,hp,by rw[h]⟩
 have hR2:vg ss a x sets=none→∀ E H,E.get 2= .pv .fa→E.get 3= .pv .fa→E.get 4= .pv (.bool false)→(∃ p,vg ss a x sets=some p∧(Ex.ret,(⟨E,H⟩:St))=(Ex.norm,⟨OG S nl nl3 (Qe ss) (p.1.map Ie) rs n (x+1:Nat),[o0,o1,.tok 33 p.1.length false,o3,Jb ((row.set x p.2).map i64)]⟩))∨
  (vg ss a x sets=none∧∃ E' H',(Ex.ret,(⟨E,H⟩:St))=(.ret,⟨E',H'⟩)∧E'.get 2= .pv .fa∧E'.get 3= .pv .fa∧E'.get 4= .pv (.bool false)):=fun hp E H g2 g3 g4=> .inr ⟨hp,E,H,rfl,g2,g3,g4⟩
 generalize hQQ:(fun r:Ex×St=>_)=QQ
 have hz:=wR
 generalize hzs:(fc 0 fun _=>false)=zs at *
 generalize hys:(fc ((a.1:Int)+1) fun _=>false)=ys at *
 generalize hYY:fc ((a.1+1:Nat):Int) m.testBit=Y at *
 generalize fc (a.1:Int) a.2.toNat.testBit=arow at *
 generalize hRR:Jb (row.map i64)=R at *
 simp -implicitDefEqProofs only[SP,WP,na,sevalprocAttr,Xd,Cb,Ni,e1,t3,i1,l0,hz,f1,f1',f2,f3,st0,hcl60,htk6,d60,d62,d63,d64,d65,ga,za,AV.cut,pa,OG]
 refine xa hl4 ?_
 rintro r ⟨E,rfl,g1,g5,g10,g11,g12,g13,g14,g15,g16,g17⟩
 cases hso:Ff (Sk ss a x) ss.length with
 |false=>
  rw[hso] at g16
  rw[if_pos hso] at hstep
  cases hen2:Ff (ep ss a x) ss.length <;>
  ·rw[hen2] at g17
   simp -implicitDefEqProofs only[SP,WP,na,sevalprocAttr,g1,g5,g10,g11,g12,g13,g14,g15,g16,g17,eq_true hq,t1,m1,t2,pl1,st1,hcl5,htk5,d50,d52,d53,d54,ga,za,AV.cut,pa]
   subst hQQ
   exact hR1 _ hstep _ rfl
 |true=>
  rw[hso] at g16
  rw[if_neg (by rw[hso];simp)] at hstep
  cases hen2:Ff (ep ss a x) ss.length with
  |true=>
   rw[hen2] at g17
   rw[if_pos hen2] at hstep
   simp -implicitDefEqProofs only[SP,WP,na,sevalprocAttr,g1,g5,g10,g11,g12,g13,g14,g15,g16,g17,eq_true hq,t1,m1,t2,pl1,pl2,st1,st2,hcl5,htk5,d50,d52,d53,d54,ga,za,AV.cut,pa]
   subst hQQ
   exact hR1 _ hstep _ rfl
  |false=>
   rw[hen2] at g17
   rw[if_neg (by rw[hen2];simp)] at hstep
   cases hix:ql (a.1+1,(m:Int)) sets 0 with
   |some k=>
    rw[hix] at hstep hfd
    simp only at hstep hfd
    have dk:decide ((k:Int) < 0)=false:=Fa (by omega)
    simp -implicitDefEqProofs only[SP,WP,na,sevalprocAttr,g1,g5,g10,g11,g12,g13,g14,g15,g16,g17,eq_true hq,t1,m1,t2,pl1,pl2,st1,st2,hldY,hfd,dk,hcl5,htk5,d50,d52,d53,d54,ga,za,AV.cut,pa]
    subst hQQ
    exact hR1 _ hstep _ rfl
   |none=>
    rw[hix] at hstep hfd
    simp only at hstep hfd
    have dk:decide ((-1:Int) < 0)=true:=by decide
    by_cases hlt:sets.length < 64
    ·have hap':=hap hlt
     rw[if_pos hlt] at hstep
     have e64:((sets.length:Int)==64)=false:=Rh (by omega)
     have hl1:(sets++[(a.1+1,(m:Int))]).length=sets.length+1:=by simp
     simp -implicitDefEqProofs only[SP,WP,na,sevalprocAttr,g1,g5,g10,g11,g12,g13,g14,g15,g16,g17,eq_true hq,t1,m1,t2,pl1,pl2,st1,st2,hldY,hfd,dk,hslen,e64,hap',hz,hYl,hYr,hYa,hYp,hYt,f4,hcl5,htk5,d50,d52,d53,d54,ga,za,AV.cut,pa]
     subst hQQ
     exact hR1 _ hstep _ (by rw[hl1])
    ·rw[if_neg hlt] at hstep
     have e64:((sets.length:Int)==64)=true:=by simp;omega
     simp -implicitDefEqProofs only[SP,WP,na,sevalprocAttr,g1,g5,g10,g11,g12,g13,g14,g15,g16,g17,eq_true hq,t1,m1,t2,pl1,pl2,st1,st2,hldY,hfd,dk,hslen,e64]
     subst hQQ
     exact hR2 hstep _ _ (by simp[Tr.aa]) (by simp[Tr.aa]) (by simp[Tr.aa])
end
end Go.AM.B1
namespace Go.AM.B1
open Go.AM Go.AM.So
section
variable (call:Xa) {S:PV} {ss:List mc} {es:List PV} (hS:pb S ss es) (hw:ss.length≤32) (h8:∀ s∈ss,s.parts.length≤8) {n:Nat} {a:Al}
 (hd:a.1≤64)
 (nl nl3:Bool) (rs:List PV) (o0 o1 o3:ba) (h0:∀ n,oa n o0=some o0) (h1:∀ n,oa n o1=some o1) (h3:∀ n,oa n o3=some o3)
include hS hw h8 hd h0 h1 h3
set_option maxRecDepth 8000 in
theorem jV {sets:List Al} {row:List Int} (ha:sets[n]? =some a) (Aa:Wl ss sets) (hrow:row.length=256):
 Ld (fun r=>(∃ p E,rk ss a (List.range 256) (sets,row)=some p∧r=(.exit 6,⟨E,[o0,o1,.tok 33 p.1.length false,o3,Jb (p.2.map i64)]⟩)∧E.get 1= .pv (.rp [S] 0)∧E.get 5= .uq 0 nl 2048 (Qe ss)∧E.get 10= .uq 2 false 33 (p.1.map Ie)∧E.get 11= .uq 3 nl3 256 rs∧E.get 12= .pv (i64 n)∧E.get 13= .ptr 4 0)∨
  (rk ss a (List.range 256) (sets,row)=none∧∃ E H,r=(.ret,⟨E,H⟩)∧E.get 2= .pv .fa∧E.get 3= .pv .fa∧E.get 4= .pv (.bool false)))
  (fb (ma (ta call Xd) (ga 5 [1,5,10,11,12,13,14])) qa ⟨OG S nl nl3 (Qe ss) (sets.map Ie) rs n 0,[o0,o1,.tok 33 sets.length false,o3,Jb (row.map i64)]⟩):=by
 refine xa (yb (g:=ma (ta call Xd) (ga 5 [1,5,10,11,12,13,14]))
  (fun x t=>∃ sets' row',t=⟨OG S nl nl3 (Qe ss) (sets'.map Ie) rs n x,[o0,o1,.tok 33 sets'.length false,o3,Jb (row'.map i64)]⟩∧rk ss a (List.range 256) (sets,row)=rk ss a ((List.range 256).drop x) (sets',row')∧Wl ss sets'∧sets'[n]? =some a∧row'.length=256)
  256 (by unfold qa;omega) _ ⟨sets,row,rfl,by rw[List.drop_zero],Aa,ha,hrow⟩ ?_ ?_) (fun r h=>h.2)
 ·rintro x t hx ⟨sets',row',rfl,hrs,hok',ha',hrow'⟩
  rw[bq hx] at hrs
  refine xa (ME call hS hw h8 ha' hx hok' hd nl nl3 rs o0 o1 o3 h0 h1 h3 hrow') ?_
  rintro r (⟨p,hst,rfl⟩ | ⟨hst,E,H,rfl,g2,g3,g4⟩)
  ·rw[Ys hst] at hrs
   obtain⟨k1,t,k2⟩:=zC hok' ha' hw hst
   refine⟨p.1,row'.set x p.2,rfl,hrs,k1,?_,by simp[hrow']⟩
   rw[k2,List.getElem?_append_left (List.getElem?_eq_some_iff.1 ha').1];exact ha'
  ·rw[Wr hst] at hrs
   exact .inr ⟨hrs,E,H,rfl,g2,g3,g4⟩
 ·rintro t ⟨sets',row',rfl,hrs,hok',ha',hrow'⟩
  have hdr:(List.range 256).drop 256=[]:=List.drop_of_length_le (by rw[List.length_range];exact Nat.le_refl _)
  rw[hdr,rk] at hrs
  have e1:decide (((256:Nat):Int) < 256)=false:=Fa (by omega)
  have hfin:∀ E,E.get 1= .pv (.rp [S] 0)→E.get 5= .uq 0 nl 2048 (Qe ss)→E.get 10= .uq 2 false 33 (sets'.map Ie)→E.get 11= .uq 3 nl3 256 rs→E.get 12= .pv (i64 n)→E.get 13= .ptr 4 0→
   ((Ex.exit 6,(⟨E,[o0,o1,.tok 33 sets'.length false,o3,Jb (row'.map i64)]⟩:St)).1.stop=true∧((∃ p E',rk ss a (List.range 256) (sets,row)=some p∧(Ex.exit 6,(⟨E,[o0,o1,.tok 33 sets'.length false,o3,Jb (row'.map i64)]⟩:St))=(.exit 6,⟨E',[o0,o1,.tok 33 p.1.length false,o3,Jb (p.2.map i64)]⟩)∧E'.get 1= .pv (.rp [S] 0)∧E'.get 5= .uq 0 nl 2048 (Qe ss)∧E'.get 10= .uq 2 false 33 (p.1.map Ie)∧E'.get 11= .uq 3 nl3 256 rs∧E'.get 12= .pv (i64 n)∧E'.get 13= .ptr 4 0)∨
    (rk ss a (List.range 256) (sets,row)=none∧∃ E' H,(Ex.exit 6,(⟨E,[o0,o1,.tok 33 sets'.length false,o3,Jb (row'.map i64)]⟩:St))=(.ret,⟨E',H⟩)∧E'.get 2= .pv .fa∧E'.get 3= .pv .fa∧E'.get 4= .pv (.bool false)))):=
   fun E k1 k5 k10 k11 k12 k13=>⟨rfl,.inl ⟨(sets',row'),E,hrs,rfl,k1,k5,k10,k11,k12,k13⟩⟩
  generalize hQ:(fun r:Ex×St=>r.1.stop=true∧_)=Q
  generalize Jb (row'.map i64)=R at *
  generalize sets'.map Ie=se at *
  generalize Qe ss=os at *
  simp -implicitDefEqProofs only[SX,sevalprocAttr,-List.reduceReplicate,Xd,e1,OG]
  subst hQ
  exact hfin _ (by simp[Tr.aa]) (by simp[Tr.aa]) (by simp[Tr.aa]) (by simp[Tr.aa]) (by simp[Tr.aa]) (by simp[Tr.aa])
end
abbrev zH (S:PV) (nl nl3:Bool) (os es rs:List PV) (n:Int):Tr:=
 ((((Tr.lf.set 12 (.pv (i64 n))).set 11 (.uq 3 nl3 256 rs)).set 10 (.uq 2 false 33 es)).set 5 (.uq 0 nl 2048 os)).set 1 (.pv (.rp [S] 0))
section
variable (call:Xa) {S:PV} {ss:List mc} {es:List PV} (hS:pb S ss es) (hw:ss.length≤32) (h8:∀ s∈ss,s.parts.length≤8)
 (nl:Bool) (k0:Nat) (F:List PV)
include hS hw h8
set_option maxRecDepth 8000 in
theorem tF {sets:List Al} {rs:List (List Int)} {a:Al} (ha:sets[rs.length]? =some a) (Aa:Wl ss sets):
 Ld (fun r=>(∃ p,rk ss a (List.range 256) (sets,gb)=some p∧r=(.norm,⟨zH S nl false (Qe ss) (p.1.map Ie) ((rs++[p.2]).map Mh) (rs.length+1:Nat),[.tok 2048 k0 nl,Jb F,.tok 33 p.1.length false,.tok 256 (rs.length+1) false]⟩))∨
  (rk ss a (List.range 256) (sets,gb)=none∧∃ E H,r=(.ret,⟨E,H⟩)∧E.get 2= .pv .fa∧E.get 3= .pv .fa∧E.get 4= .pv (.bool false)))
  (ma (ta call ae) (ga 4 [1,5,10,11,12]) ⟨zH S nl rs.isEmpty (Qe ss) (sets.map Ie) (rs.map Mh) rs.length,[.tok 2048 k0 nl,Jb F,.tok 33 sets.length false,.tok 256 rs.length rs.isEmpty]⟩):=by
 have hn:=(List.getElem?_eq_some_iff.1 ha).1
 have hl64:=Aa.1
 have hd:a.1≤64:=by have:=(Aa.2 _ a ha).1;omega
 have hl3:=jV call hS hw h8 hd nl rs.isEmpty (rs.map Mh) (.tok 2048 k0 nl) (Jb F) (.tok 256 rs.length rs.isEmpty) (fun n=>rfl) (fun n=>xg F n) (fun n=>rfl) ha Aa Ur
 have hrl:∀ p,rk ss a (List.range 256) (sets,gb)=some p→p.2.length=256:=fun p hp=>by rw[(cu hw (List.range 256) (sets,gb) p Aa ha hp).2.2];exact Ur
 have e1:decide ((rs.length:Int) < (sets.length:Int))=true:=Ea (by omega)
 have t2:IntKind.i64.wrap ((rs.length:Int)+1)=((rs.length+1:Nat):Int):=Ba (by omega)
 have hse:(sets.map Ie).length=sets.length:=List.length_map _
 have hzz:List.replicate 256 (PV.int .i64 0)=gb.map i64:=by rw[gb,List.map_replicate]
 have hz0:ba.box (List.map AV.pv (List.replicate 256 (PV.int .i64 0)))=Jb (gb.map i64):=by rw[hzz]
 have hc5:∀ (k:Nat) (R:List PV),Pa (oa 5) [.tok 2048 k0 nl,Jb F,.tok 33 k false,.tok 256 rs.length rs.isEmpty,Jb R]=some [.tok 2048 k0 nl,Jb F,.tok 33 k false,.tok 256 rs.length rs.isEmpty,Jb R]:=by
  intro k R
  have c0:∀ k n nl,oa 5 (.tok k n nl)=some (.tok k n nl):=fun k n nl=>rfl
  simp only[Pa,c0,xg,Option.bind_some,Option.map_some]
 have hc4:∀ (k:Nat),Pa (oa 4) [.tok 2048 k0 nl,Jb F,.tok 33 k false,.tok 256 (rs.length+1) false]=some [.tok 2048 k0 nl,Jb F,.tok 33 k false,.tok 256 (rs.length+1) false]:=by
  intro k
  have c0:∀ k n nl,oa 4 (.tok k n nl)=some (.tok k n nl):=fun k n nl=>rfl
  simp only[Pa,c0,xg,Option.bind_some,Option.map_some]
 have htk5:∀ a b c d e:ba,([a,b,c,d,e]:List ba).take 5=[a,b,c,d,e]:=fun a b c d e=>rfl
 have htk4:∀ a b c d e:ba,([a,b,c,d,e]:List ba).take 4=[a,b,c,d]:=fun a b c d e=>rfl
 have d50:(0 < 5)=True:=by simp
 have d52:(2 < 5)=True:=by simp
 have d53:(3 < 5)=True:=by simp
 have d54:(4 < 5)=True:=by simp
 have d40:(0 < 4)=True:=by simp
 have d42:(2 < 4)=True:=by simp
 have d43:(3 < 4)=True:=by simp
 have hld:∀ (k:Nat) (r:List Int),r.length=256→ya [.tok 2048 k0 nl,Jb F,.tok 33 k false,.tok 256 rs.length rs.isEmpty,Jb (r.map i64)] true 256 (.ptr 4 0)=some (.pv (.agg (r.map i64))):=fun k r hr=>Kl (id:=4) rfl (by rw[List.length_map,hr])
 have hone:∀ r:List Int,∀ e∈r.map i64,(AV.pv e).one=true:=by
  intro r e he
  obtain⟨v,_,rfl⟩:=List.mem_map.1 he
  rfl
 have hap:∀ (k:Nat) (r:List Int),Ob [.tok 2048 k0 nl,Jb F,.tok 33 k false,.tok 256 rs.length rs.isEmpty,Jb (r.map i64)] false .uq 256 true 2048 (.uq 3 rs.isEmpty 256 (rs.map Mh)) (.pv (.lit 256 [.agg (r.map i64)]))=
  some (.uq 3 false 256 ((rs++[r]).map Mh),[.tok 2048 k0 nl,Jb F,.tok 33 k false,.tok 256 (rs.length+1) false,Jb (r.map i64)]):=by
  intro k r
  have:=Kg (A:=[.tok 2048 k0 nl,Jb F,.tok 33 k false,.tok 256 rs.length rs.isEmpty,Jb (r.map i64)]) (id:=3) (n:=rs.length) (sz:=256) (h:= .uq) (nl:=rs.isEmpty) (ag:=true) (bytes:=2048) (es:=rs.map Mh) rfl (by rw[List.length_map]) (by unfold mb;omega) (.agg (r.map i64))
  rw[this,List.map_append];rfl
 have mT:(gb.map i64).length=256:=by rw[List.length_map,Ur]
 have f4:(256≤((gb.map i64).map AV.pv++[]).length)=True:=eq_true (by rw[List.append_nil,List.length_map,mT];exact Nat.le_refl _)
 have hYr:∀ r:List Int,r.length=256→na ((gb.map i64).map AV.pv++[]) 0 ((r.map i64).map AV.pv)=(r.map i64).map AV.pv:=fun r hr=>Dt (by rw[mT,List.length_map,hr])
 have hYa:∀ r:List Int,((r.map i64).map AV.pv).all AV.one=true:=fun r=>QG (hone r)
 have hYp:∀ r:List Int,Vd ((r.map i64).map AV.pv)=some (r.map i64):=fun r=>ff _
 have hYt:∀ r:List Int,r.length=256→(r.map i64).take 256=r.map i64:=fun r hr=>List.take_of_length_le (by rw[List.length_map,hr];exact Nat.le_refl _)
 have hYl:∀ r:List Int,r.length=256→((r.map i64).map AV.pv).length=256:=fun r hr=>by rw[List.length_map,List.length_map,hr]
 have hR1:∀ p,rk ss a (List.range 256) (sets,gb)=some p→∀ st:St,st=⟨zH S nl false (Qe ss) (p.1.map Ie) ((rs++[p.2]).map Mh) (rs.length+1:Nat),[.tok 2048 k0 nl,Jb F,.tok 33 p.1.length false,.tok 256 (rs.length+1) false]⟩→
  (∃ p,rk ss a (List.range 256) (sets,gb)=some p∧(Ex.norm,st)=(.norm,⟨zH S nl false (Qe ss) (p.1.map Ie) ((rs++[p.2]).map Mh) (rs.length+1:Nat),[.tok 2048 k0 nl,Jb F,.tok 33 p.1.length false,.tok 256 (rs.length+1) false]⟩))∨
   (rk ss a (List.range 256) (sets,gb)=none∧∃ E H,(Ex.norm,st)=(.ret,⟨E,H⟩)∧E.get 2= .pv .fa∧E.get 3= .pv .fa∧E.get 4= .pv (.bool false)):=fun p hp st h=> .inl ⟨p,hp,by rw[h]⟩
 generalize hQQ:(fun r:Ex×St=>_)=QQ
 generalize hzs:gb.map i64=zs at *
 have hc5z:=hc5 sets.length zs
 generalize hRz:Jb zs=Rz at *
 generalize hoF:Jb F=oF at *
 simp -implicitDefEqProofs only[SP,WP,na,sevalprocAttr,-List.reduceReplicate,ae,Cb,e1,hse,hzz,hRz,hc5z,htk5,d50,d52,d53,d54,ga,za,AV.cut,pa,zH]
 refine xa hl3 ?_
 rintro r (⟨p,E,hp,rfl,g1,g5,g10,g11,g12,g13⟩ | ⟨hp,E,H,rfl,g2,g3,g4⟩)
 ·have hpl:=hrl p hp
  have hld':=hld p.1.length p.2 hpl
  have hYr':=hYr p.2 hpl
  have hYt':=hYt p.2 hpl
  have hYl':=hYl p.2 hpl
  have hYa':=hYa p.2
  have hYp':=hYp p.2
  have hap':=hap p.1.length p.2
  generalize p.2.map i64=zp at *
  simp -implicitDefEqProofs only[SP,WP,na,sevalprocAttr,-List.reduceReplicate,g1,g5,g10,g11,g12,g13,t2,hzz,hld',hYr',hYt',hYl',hYa',hYp',hap',f4,hc4,htk4,d40,d42,d43,ga,za,AV.cut,pa]
  subst hQQ
  exact hR1 p hp _ rfl
 ·simp -implicitDefEqProofs only[SP,WP,na,sevalprocAttr,-List.reduceReplicate]
  subst hQQ
  exact .inr ⟨hp,E,H,rfl,g2,g3,g4⟩
end
end Go.AM.B1
namespace Go.AM.B1
open Go.AM Go.AM.So
attribute [local irreducible] Ld
theorem rL {n:Nat} (h:n≤32) (i:Nat):(aq n).toNat.testBit i=decide (i < n):=by
 rw[HC h,Int.toNat_natCast,Nat.testBit_two_pow_sub_one]
theorem EK {n:Nat} (h:n≤32):Ie (0,aq n)= .agg (wc n):=by
 unfold Ie wc fc
 congr 2
 exact Zs fun i _=>rL h i
set_option maxRecDepth 8000 in
theorem gU (call:Xa) {S:PV} {ss:List mc} {es:List PV} (hS:pb S ss es) (hw:ss.length≤32) (h8:∀ s∈ss,s.parts.length≤8) (hne:∀ s∈ss,0 < s.parts.length) (nl:Bool) (k0:Nat) (F:List PV):
 Ld (fun r=>(∃ p E,ug ss 64 (tg ss,[])=some p∧p.2.length=p.1.length∧0 < p.2.length∧r=(.exit 4,⟨E,[.tok 2048 k0 nl,Jb F,.tok 33 p.1.length false,.tok 256 p.2.length p.2.isEmpty]⟩)∧E.get 10= .uq 2 false 33 (p.1.map Ie)∧E.get 11= .uq 3 p.2.isEmpty 256 (p.2.map Mh))∨
  (ug ss 64 (tg ss,[])=none∧∃ E H,r=(.ret,⟨E,H⟩)∧E.get 2= .pv .fa∧E.get 3= .pv .fa∧E.get 4= .pv (.bool false)))
  (fb (ma (ta call ae) (ga 4 [1,5,10,11,12])) qa ⟨zH S nl true (Qe ss) ((tg ss).map Ie) [] 0,[.tok 2048 k0 nl,Jb F,.tok 33 1 false,.tok 256 0 true]⟩):=by
 refine xa (Np (g:=ma (ta call ae) (ga 4 [1,5,10,11,12]))
  (fun k t=>∃ (sets:List Al) (rs:List (List Int)),t=⟨zH S nl rs.isEmpty (Qe ss) (sets.map Ie) (rs.map Mh) rs.length,[.tok 2048 k0 nl,Jb F,.tok 33 sets.length false,.tok 256 rs.length rs.isEmpty]⟩∧k+rs.length=64∧Wl ss sets∧rs.length≤sets.length∧0 < sets.length∧ug ss 64 (tg ss,[])=ug ss k (sets,rs))
  qa 64 _ (by unfold qa;omega) ⟨tg ss,[],rfl,rfl,Ry hw hne,by simp,by simp[tg],rfl⟩ ?_) (fun r h=>h.2)
 rintro k t ⟨sets,rs,rfl,hk,Aa,hle,hpos,hs⟩
 cases ha:sets[rs.length]? with
 |some a=>
  have hlt:=(List.getElem?_eq_some_iff.1 ha).1
  have hl64:=Aa.1
  obtain⟨k',rfl⟩:∃ k',k=k'+1:=⟨k - 1,by omega⟩
  refine xa (tF call hS hw h8 nl k0 F ha Aa) ?_
  rintro r (⟨p,hp,rfl⟩ | ⟨hp,E,H,rfl,g2,g3,g4⟩)
  ·obtain⟨q1,⟨t,q2⟩,q3⟩:=cu hw (List.range 256) (sets,gb) p Aa ha hp
   simp only at q2
   have hse:(rs++[p.2]).isEmpty=false:=by cases rs <;> rfl
   have hle2:(rs++[p.2]).length=rs.length+1:=by simp
   refine⟨k',by omega,p.1,rs++[p.2],?_,by rw[hle2];omega,q1,?_,?_,?_⟩
   ·rw[hse,hle2]
   ·rw[hle2,q2,List.length_append];omega
   ·rw[q2,List.length_append];omega
   ·rw[hs,Gt ha hp]
  ·exact .inr ⟨by rw[hs,ru ha hp],E,H,rfl,g2,g3,g4⟩
 |none=>
  have hge:sets.length≤rs.length:=by
   rcases Nat.lt_or_ge rs.length sets.length with h | h
   ·rw[List.getElem?_eq_getElem h] at ha;cases ha
   ·exact h
  rw[Yr (r:=(sets,rs)) ha] at hs
  have e1:decide ((rs.length:Int) < (sets.length:Int))=false:=Fa (by omega)
  have hse:(sets.map Ie).length=sets.length:=List.length_map _
  have hfin:∀ E,E.get 10= .uq 2 false 33 (sets.map Ie)→E.get 11= .uq 3 rs.isEmpty 256 (rs.map Mh)→
   LQ (fun k t=>∃ (sets:List Al) (rs:List (List Int)),t=⟨zH S nl rs.isEmpty (Qe ss) (sets.map Ie) (rs.map Mh) rs.length,[.tok 2048 k0 nl,Jb F,.tok 33 sets.length false,.tok 256 rs.length rs.isEmpty]⟩∧k+rs.length=64∧Wl ss sets∧rs.length≤sets.length∧0 < sets.length∧ug ss 64 (tg ss,[])=ug ss k (sets,rs))
    (fun r=>(∃ p E,ug ss 64 (tg ss,[])=some p∧p.2.length=p.1.length∧0 < p.2.length∧r=(.exit 4,⟨E,[.tok 2048 k0 nl,Jb F,.tok 33 p.1.length false,.tok 256 p.2.length p.2.isEmpty]⟩)∧E.get 10= .uq 2 false 33 (p.1.map Ie)∧E.get 11= .uq 3 p.2.isEmpty 256 (p.2.map Mh))∨
    (ug ss 64 (tg ss,[])=none∧∃ E H,r=(.ret,⟨E,H⟩)∧E.get 2= .pv .fa∧E.get 3= .pv .fa∧E.get 4= .pv (.bool false))) k
    (.exit 4,⟨E,[.tok 2048 k0 nl,Jb F,.tok 33 sets.length false,.tok 256 rs.length rs.isEmpty]⟩):=fun E g10 g11=> .inl ⟨(sets,rs),E,hs,by simp only;omega,by simp only;omega,rfl,g10,g11⟩
  generalize LQ _ _ k=QQ at hfin ⊢
  generalize Jb F=oF at *
  generalize sets.map Ie=se at *
  generalize rs.map Mh=re at *
  generalize Qe ss=os at *
  simp -implicitDefEqProofs only[SX,sevalprocAttr,-List.reduceReplicate,ae,e1,hse,zH]
  exact hfin _ (by simp[Tr.aa]) (by simp[Tr.aa])
set_option maxRecDepth 8000 in
theorem QI {S:PV} {ss:List mc} {es:List PV} (hS:pb S ss es) (Aa:Ec ss):
 (∀ p,ug ss 64 (tg ss,[])=some p→pf [.agg [S]]=some (.oc [.lit 33 (p.1.map Ie),.lit 256 (p.2.map Mh),.bool true])∧p.2.length=p.1.length)∧
 (ug ss 64 (tg ss,[])=none→pf [.agg [S]]=some (.oc [.fa,.fa,.bool false])):=by
 have hw:=Aa.len
 have h8:∀ s∈ss,s.parts.length≤8:=fun s hs=>(Aa.Vu s hs).hi
 have ln:=hS.Tb
 have hS1:(AV.pv S).one=true:=by rcases hS.is with⟨h,_⟩ | h <;> rw[h] <;> rfl
 have hl0:=BP (Ca (fun _=>none) 8) hS hw h8
 have hl2:=fun nl=>gU (Ca (fun _=>none) 8) hS hw h8 Aa.ne nl ss.length (wc ss.length)
 have hs0:(tg ss).map Ie=[.agg (wc ss.length)]:=by rw[tg,List.map_singleton,EK hw]
 rw[hs0] at hl2
 have hz:=wR
 have zl:=ng 0 fun _=>false
 have hf0:wc 0=fc 0 fun _=>false:=by unfold wc;congr 1
 have st0:La [.tok 2048 0 true,Jb (fc 0 fun _=>false)] 33 (.ptr 1 0) (.pv (.agg (fc 0 fun _=>false)))=some [.tok 2048 0 true,Jb (fc 0 fun _=>false)]:=Ro (id:=1) rfl zl zl (bw _ _)
 have hcl2:Pa (oa 2) [.tok 2048 0 true,Jb (fc 0 fun _=>false)]=some [.tok 2048 0 true,Jb (fc 0 fun _=>false)]:=by
  have c0:∀ k n nl,oa 2 (.tok k n nl)=some (.tok k n nl):=fun k n nl=>rfl
  simp only[Pa,c0,xg,Option.bind_some,Option.map_some]
 have htk2:∀ a b:ba,([a,b]:List ba).take 2=[a,b]:=fun a b=>rfl
 have htk4:∀ a b c d:ba,([a,b,c,d]:List ba).take 4=[a,b,c,d]:=fun a b c d=>rfl
 have hcl4:∀ nl,Pa (oa 4) [.tok 2048 ss.length nl,Jb (wc ss.length),.tok 33 1 false,.tok 256 0 true]=some [.tok 2048 ss.length nl,Jb (wc ss.length),.tok 33 1 false,.tok 256 0 true]:=by
  intro nl
  have c0:∀ k n nl,oa 4 (.tok k n nl)=some (.tok k n nl):=fun k n nl=>rfl
  simp only[Pa,c0,xg,Option.bind_some,Option.map_some]
 have hld:∀ nl,ya [.tok 2048 ss.length nl,Jb (wc ss.length)] true 33 (.ptr 1 0)=some (.pv (.agg (wc ss.length))):=fun nl=>Kl (id:=1) rfl (ng _ _)
 have fz:=ff (fc 0 fun _=>false)
 have hYl:((wc ss.length).map AV.pv).length=33:=by rw[List.length_map,ng]
 have hYr:na ((fc 0 fun _=>false).map AV.pv++[]) 0 ((wc ss.length).map AV.pv)=(wc ss.length).map AV.pv:=Dt (by rw[ng,ng])
 have hYa:=QG (bw 0 fun j=>decide (j < ss.length))
 have hYp:=ff (wc ss.length)
 have hYt:(wc ss.length).take 33=wc ss.length:=List.take_of_length_le (by rw[ng];exact Nat.le_refl _)
 have f4:(33≤((fc 0 fun _=>false).map AV.pv++[]).length)=True:=eq_true (by rw[List.append_nil,List.length_map,zl];exact Nat.le_refl _)
 have d20:(0 < 2)=True:=by simp
 have d21:(1 < 2)=True:=by simp
 have d40:(0 < 4)=True:=by simp
 have d42:(2 < 4)=True:=by simp
 have d43:(3 < 4)=True:=by simp
 have g1:(0 < 2048)=True:=by simp
 have g2:(0 < 256)=True:=by simp
 rw[hf0] at hl0
 have key:Ld (fun r=>(∃ p,ug ss 64 (tg ss,[])=some p∧r=PV.oc [.lit 33 (p.1.map Ie),.lit 256 (p.2.map Mh),.bool true]∧p.2.length=p.1.length)∨(ug ss 64 (tg ss,[])=none∧r=PV.oc [.fa,.fa,.bool false])) (pf [.agg [S]]):=by
  generalize hQQ:(fun r:PV=>_)=QQ
  change (((wc ss.length).map AV.pv).all AV.one)=true at hYa
  generalize hzs:(fc 0 fun _=>false)=zs at *
  generalize hfs:wc ss.length=fs at *
  generalize hozs:Jb zs=oz at *
  generalize hofs:Jb fs=of at *
  simp -implicitDefEqProofs only[pf,SP,WP,na,sevalprocAttr,-List.reduceReplicate,Sj,hS1,hz,hozs,fz,st0,qe,g1,g2,hcl2,htk2,d20,d21,Cb,ga,za,AV.cut,pa]
  refine xa hl0 ?_
  rintro r ⟨E,nl,rfl,k1,k5,k6⟩
  have hl2':=hl2 nl
  have hcl4':=hcl4 nl
  have hld':=hld nl
  simp -implicitDefEqProofs only[SP,WP,na,sevalprocAttr,-List.reduceReplicate,k1,k5,k6,hld',hz,hYl,hYr,hYa,hYp,hYt,f4,qe,g1,g2,hcl4',htk4,d40,d42,d43,Cb,ga,za,AV.cut,pa]
  refine xa hl2' ?_
  rintro r (⟨p,E,hp,hpl,hpp,rfl,k10,k11⟩ | ⟨hp,E,H,rfl,k2,k3,k4⟩)
  ·have hie:p.2.isEmpty=false:=by
    cases hh:p.2 with
    |nil=>rw[hh] at hpp;simp at hpp
    |cons a l=>rfl
   rw[hie] at k11
   simp -implicitDefEqProofs only[SP,WP,na,sevalprocAttr,-List.reduceReplicate,k10,k11]
   subst hQQ
   exact .inl ⟨p,hp,rfl,hpl⟩
  ·simp -implicitDefEqProofs only[SP,WP,na,sevalprocAttr,-List.reduceReplicate,k2,k3,k4]
   subst hQQ
   exact .inr ⟨hp,rfl⟩
 obtain⟨r,h1,h2⟩:=ec key
 constructor
 ·intro p hp
  rcases h2 with⟨p',hp',rfl,hl⟩ | ⟨hn,_⟩
  ·rw[hp] at hp';injection hp' with hp';subst hp';exact⟨h1,hl⟩
  ·rw[hp] at hn;cases hn
 ·intro hn
  rcases h2 with⟨p',hp',_,_⟩ | ⟨_,rfl⟩
  ·rw[hn] at hp';cases hp'
  ·exact h1
end Go.AM.B1
namespace Go.AM.B1
open Go.AM Go.AM.So
attribute [local irreducible] Ld
def owns (n:Nat):List AV:=(List.range n).map fun k=> .own (2 * k+1) n
def Bz (n:Nat) (f:Nat→Bool) (fl:Nat):ba:= .seq 1 false ((yf n f).map .pv) fl false
structure Dq (H:List ba) (n:Nat) (f:Nat→Nat→Bool):Prop where
 len:H.length=2 * n+1
 hd:∃ nl,nl=false∧H[0]? =some (.seq 1 false (owns n) 0 nl)
 row:∀ k,k < n→∃ fl,fl≤n∧H[2 * k+1]? =some (Bz n (f k) fl)
 QH:cf H
theorem FE (n:Nat):(owns n).length=n:=by rw[owns,List.length_map,List.length_range]
theorem WR {n k:Nat} (h:k < n):(owns n)[k]? =some (.own (2 * k+1) n):=by
 rw[owns,List.getElem?_map,List.getElem?_range h];rfl
theorem iK (n:Nat) (f:Nat→Bool) (fl m:Nat):oa m (Bz n f fl)=some (Bz n f fl):=by
 have:((yf n f).map AV.pv).all (AV.Te m deep)=true:=by
  rw[List.all_eq_true]
  intro v hv
  obtain⟨p,_,rfl⟩:=List.mem_map.1 hv
  rfl
 simp[oa,Bz,this]
theorem sL (m:Nat) (g:Nat→Bool) {j:Nat} (hj:j < m) (b:Bool):(yf m g).set j (.bool b)=yf m fun x=>if x=j then b else g x:=by
 apply List.ext_getElem
 ·rw[List.length_set,mg,mg]
 ·intro k h1 h2
  rw[List.getElem_set,fC,fC]
  by_cases hk:j=k
  ·subst hk;rw[if_pos rfl,if_pos rfl]
  ·rw[if_neg hk,if_neg (Ne.symm hk)]
section
variable {H:List ba} {n:Nat} {f:Nat→Nat→Bool} (h:Dq H n f)
include h
theorem Dq.cut:Pa (oa (2 * n+1)) (H.take (2 * n+1))=some H:=by
 rw[← h.len,List.take_length];exact cf.cut h.QH
theorem Dq.i0 {i:Nat} (hi:i < n):wa H 1 (.own 0 n) (i:Int)=some (.Fc 0 n i):=by
 obtain⟨nl,_,h0⟩:=h.hd
 simp only[wa,h0]
 rw[if_pos (by refine⟨trivial,?_,?_⟩ <;> first | (unfold Ga;omega) | (unfold Ih;rw[FE];omega))]
 simp
theorem Dq.l0 {i:Nat} (hi:i < n):ya H false 1 (.Fc 0 n i)=some (.own (2 * i+1) n):=by
 obtain⟨nl,_,h0⟩:=h.hd
 simp only[ya,h0]
 rw[if_pos (FE n)]
 simp only[Dg,Bool.false_eq_true,if_false]
 exact WR hi
theorem Dq.i1 {i j:Nat} (hi:i < n) (hj:j < n):wa H 1 (.own (2 * i+1) n) (j:Int)=some (.Fc (2 * i+1) n j):=by
 obtain⟨fl,hf,h0⟩:=h.row i hi
 simp only[wa,h0,Bz]
 rw[if_pos (by refine⟨trivial,?_,?_⟩ <;> first | (unfold Ga;omega) | (unfold Ih;rw[List.length_map,mg];omega))]
 simp
theorem Dq.l1 {i j:Nat} (hi:i < n) (hj:j < n):ya H false 1 (.Fc (2 * i+1) n j)=some (.pv (.bool (f i j))):=by
 obtain⟨fl,hf,h0⟩:=h.row i hi
 simp only[ya,h0,Bz]
 rw[if_pos (by rw[List.length_map,mg])]
 simp only[Dg,Bool.false_eq_true,if_false,List.getElem?_map,Fy _ hj,Option.map_some]
end
theorem Dq.store {H:List ba} {n:Nat} {f:Nat→Nat→Bool} (h:Dq H n f) {i j:Nat} (hi:i < n) (hj:j < n):
 ∃ H',La H 1 (.Fc (2 * i+1) n j) (.pv (.bool true))=some H'∧Dq H' n (fun a b=>if a=i∧b=j then true else f a b):=by
 obtain⟨fl,hf,h0⟩:=h.row i hi
 have hc:(AV.pv (.bool true)).cells=[.pv (.bool true)]:=rfl
 refine⟨H.set (2 * i+1) (Bz n (fun b=>if b=j then true else f i b) n),?_,?_⟩
 ·simp only[La,h0,Bz,hc]
  rw[if_pos ⟨rfl,rfl⟩,if_pos ⟨by rw[List.length_map,mg],by show j+1≤n;omega⟩,na,na,←List.map_set,sL n _ hj]
 ·refine⟨by rw[List.length_set,h.len],?_,?_,?_⟩
  ·obtain⟨nl,hnl,h1⟩:=h.hd
   exact⟨nl,hnl,by rw[List.getElem?_set_ne (by omega)];exact h1⟩
  ·intro k hk
   by_cases hki:k=i
   ·subst hki
    refine⟨n,Nat.le_refl _,?_⟩
    rw[List.getElem?_set_self (by rw[h.len];omega)]
    have:(fun b=>if k=k∧b=j then true else f k b)=fun b=>if b=j then true else f k b:=by funext b;simp only[true_and]
    show _=some (Bz n (fun b=>if k=k∧b=j then true else f k b) n)
    rw[this]
   ·obtain⟨fl',hf',h1⟩:=h.row k hk
    refine⟨fl',hf',?_⟩
    have:(fun b=>if k=i∧b=j then true else f k b)=f k:=by funext b;rw[if_neg (fun h=>hki h.1)]
    rw[List.getElem?_set_ne (by omega),h1]
    show _=some (Bz n (fun b=>if k=i∧b=j then true else f k b) fl')
    rw[this]
  ·intro m hm o ho
   rw[List.length_set] at hm
   rcases List.mem_or_eq_of_mem_set ho with h1 | h1
   ·exact h.QH m hm o h1
   ·subst h1;exact iK _ _ _ _
def dy (f:Nat→Nat→Bool) (i j a b:Nat):Bool:=if (a=i∧b=j)∨(a=j∧b=i) then true else f a b
theorem mV (f:Nat→Nat→Bool) (i j:Nat):(fun a b=>if a=j∧b=i then true else (if a=i∧b=j then true else f a b))=dy f i j:=by
 funext a b
 unfold dy
 by_cases h1:a=i∧b=j
 ·by_cases h2:a=j∧b=i
  ·rw[if_pos h2,if_pos (.inl h1)]
  ·rw[if_neg h2,if_pos h1,if_pos (.inl h1)]
 ·by_cases h2:a=j∧b=i
  ·rw[if_pos h2,if_pos (.inr h2)]
  ·rw[if_neg h2,if_neg h1,if_neg (by intro h;rcases h with h | h <;> contradiction)]
def fg (C:List (List Int)) (i x:Nat):Int:=(C.getD i []).getD x 0
def Xj (C:List (List Int)) (f:Nat→Nat→Bool) (i j x:Nat):Bool:=
 ((fg C i x != fg C j x)&&(decide (fg C i x < 0)||decide (fg C j x < 0)))||(decide (fg C i x≥0)&&decide (fg C j x≥0)&&f (fg C i x).toNat (fg C j x).toNat)
structure jI (C:List (List Int)):Prop where
 row:∀ r∈C,r.length=256
 lt:∀ r∈C,∀ v∈r,v < (C.length:Int)
 sz:C.length≤64
theorem jI.get {C:List (List Int)} (h:jI C) {i x:Nat} (hi:i < C.length) (hx:x < 256):C[i][x]? =some (fg C i x)∧fg C i x < (C.length:Int):=by
 have hm:=List.getElem_mem hi
 have hl:=h.row _ hm
 have hg:C.getD i []=C[i]:=by rw[List.getD_eq_getElem?_getD,List.getElem?_eq_getElem hi];rfl
 have h1:C[i][x]? =some (fg C i x):=by
  unfold fg
  rw[hg,List.getD_eq_getElem?_getD,List.getElem?_eq_getElem (by omega)];rfl
 exact⟨h1,h.lt _ hm _ (List.mem_of_getElem? h1)⟩
theorem jI.Pd {C:List (List Int)} (h:jI C) {i:Nat} (hi:i < C.length) (H:List ba):wa H 256 (.pv (.lit 256 (C.map Mh))) (i:Int)=some (.pv (.rp (C[i].map i64) 0)):=by
 simp only[wa]
 rw[if_pos (by refine⟨trivial,?_⟩;unfold Ga;simp;omega)]
 simp[hi,Mh,PV.cells]
theorem jI.load {C:List (List Int)} (h:jI C) {i x:Nat} (hi:i < C.length) (hx:x < 256) (H:List ba):ya H false 1 (.pv (.rp (C[i].map i64) x))=some (.pv (i64 (fg C i x))):=
 dz (by rw[List.getElem?_map,(h.get hi hx).1];rfl) H
abbrev jy (v:PV) (n i j x:Int) (g:Bool):Tr:=((((((Tr.lf.set 9 (.pv (i64 x))).set 8 (.pv (i64 j))).set 7 (.pv (i64 i))).set 6 (.pv (.bool g))).set 4 (.own 0 n.toNat)).set 3 (.pv (i64 n))).set 0 (.pv v)
section
variable (call:Xa) {C:List (List Int)} (hC:jI C) {i j:Nat} (hi:i < C.length) (hj:j < C.length)
include hC hi hj
theorem LC {H:List ba} {f:Nat→Nat→Bool} (hM:Dq H C.length f) (g:Bool) {x:Nat} (hx:x < 256):
 Ld (fun r=>(f i j=true∧∃ E,r=(.exit 8,⟨E,H⟩)∧E.get 0= .pv (.lit 256 (C.map Mh))∧E.get 3= .pv (i64 C.length)∧E.get 4= .own 0 C.length∧E.get 6= .pv (.bool g)∧E.get 7= .pv (i64 i)∧E.get 8= .pv (i64 j))∨
  (f i j=false∧Xj C f i j x=false∧r=(.norm,⟨jy (.lit 256 (C.map Mh)) C.length i j (x+1:Nat) g,H⟩))∨
  (f i j=false∧Xj C f i j x=true∧∃ H',Dq H' C.length (dy f i j)∧r=(.norm,⟨jy (.lit 256 (C.map Mh)) C.length i j (x+1:Nat) true,H'⟩)))
  (ma (ta call Wa) (ga (2 * C.length+1) [0,3,4,6,7,8,9]) ⟨jy (.lit 256 (C.map Mh)) C.length i j x g,H⟩):=by
 have hcut:=hM.cut
 have a0:=hM.i0 hi
 have a1:=hM.l0 hi
 have b0:=hM.i0 hj
 have b1:=hM.l0 hj
 have a2:=hM.i1 hi hj
 have a3:=hM.l1 hi hj
 obtain⟨H1,s1,hM1⟩:=hM.store hi hj
 obtain⟨H2,s2,hM2⟩:=hM1.store hj hi
 rw[mV] at hM2
 have b2:=hM1.i1 hj hi
 have hcut2:=hM2.cut
 have c0:=fun H=>hC.Pd hi H
 have c1:=fun H=>hC.load hi hx H
 have d0:=fun H=>hC.Pd hj H
 have d1:=fun H=>hC.load hj hx H
 have hva:=(hC.get hi hx).2
 have hvb:=(hC.get hj hx).2
 have hsz:=hC.sz
 have e1:decide ((x:Int) < 256)=true:=Ea (by omega)
 have hq:Ga (x:Int) 256:=by unfold Ga;omega
 have t1:((x:Int)).toNat=x:=by simp
 have m1:x * 1=x:=by omega
 have z1:0+x=x:=by omega
 have t2:IntKind.i64.wrap ((x:Int)+1)=((x+1:Nat):Int):=Ba (by omega)
 have tn:((C.length:Int)).toNat=C.length:=by simp
 have hz:(0 < 2 * C.length+1)=True:=by simp
 have htl:Xj C f i j x=(((fg C i x != fg C j x)&&(decide (fg C i x < 0)||decide (fg C j x < 0)))||(decide (fg C i x≥0)&&decide (fg C j x≥0)&&f (fg C i x).toNat (fg C j x).toNat)):=rfl
 have hun:0≤fg C i x→0≤fg C j x→wa H 1 (.own 0 C.length) (fg C i x)=some (.Fc 0 C.length (fg C i x).toNat)∧ya H false 1 (.Fc 0 C.length (fg C i x).toNat)=some (.own (2 * (fg C i x).toNat+1) C.length)∧
  wa H 1 (.own (2 * (fg C i x).toNat+1) C.length) (fg C j x)=some (.Fc (2 * (fg C i x).toNat+1) C.length (fg C j x).toNat)∧ya H false 1 (.Fc (2 * (fg C i x).toNat+1) C.length (fg C j x).toNat)=some (.pv (.bool (f (fg C i x).toNat (fg C j x).toNat))):=by
  intro h1 h2
  have k1:=hM.i0 (i:=(fg C i x).toNat) (by omega)
  have k2:=hM.l0 (i:=(fg C i x).toNat) (by omega)
  have k3:=hM.i1 (i:=(fg C i x).toNat) (j:=(fg C j x).toNat) (by omega) (by omega)
  have k4:=hM.l1 (i:=(fg C i x).toNat) (j:=(fg C j x).toNat) (by omega) (by omega)
  rw[Int.toNat_of_nonneg h1] at k1
  rw[Int.toNat_of_nonneg h2] at k3
  exact⟨k1,k2,k3,k4⟩
 generalize fg C i x=a at *
 generalize fg C j x=b at *
 generalize hl:(PV.lit 256 (C.map Mh))=L at *
 have hR0:f i j=true→∀ E,E.get 0= .pv L→E.get 3= .pv (i64 C.length)→E.get 4= .own 0 C.length→E.get 6= .pv (.bool g)→E.get 7= .pv (i64 i)→E.get 8= .pv (i64 j)→
  ((f i j=true∧∃ E',(Ex.exit 8,(⟨E,H⟩:St))=(.exit 8,⟨E',H⟩)∧E'.get 0= .pv L∧E'.get 3= .pv (i64 C.length)∧E'.get 4= .own 0 C.length∧E'.get 6= .pv (.bool g)∧E'.get 7= .pv (i64 i)∧E'.get 8= .pv (i64 j))∨
   (f i j=false∧Xj C f i j x=false∧(Ex.exit 8,(⟨E,H⟩:St))=(.norm,⟨jy L C.length i j (x+1:Nat) g,H⟩))∨
   (f i j=false∧Xj C f i j x=true∧∃ H',Dq H' C.length (dy f i j)∧(Ex.exit 8,(⟨E,H⟩:St))=(.norm,⟨jy L C.length i j (x+1:Nat) true,H'⟩))):=
  fun h E k0 k3 k4 k6 k7 k8=> .inl ⟨h,E,rfl,k0,k3,k4,k6,k7,k8⟩
 have hR1:f i j=false→Xj C f i j x=false→∀ s,s=(⟨jy L C.length i j (x+1:Nat) g,H⟩:St)→
  ((f i j=true∧∃ E',(Ex.norm,s)=(.exit 8,⟨E',H⟩)∧E'.get 0= .pv L∧E'.get 3= .pv (i64 C.length)∧E'.get 4= .own 0 C.length∧E'.get 6= .pv (.bool g)∧E'.get 7= .pv (i64 i)∧E'.get 8= .pv (i64 j))∨
   (f i j=false∧Xj C f i j x=false∧(Ex.norm,s)=(.norm,⟨jy L C.length i j (x+1:Nat) g,H⟩))∨
   (f i j=false∧Xj C f i j x=true∧∃ H',Dq H' C.length (dy f i j)∧(Ex.norm,s)=(.norm,⟨jy L C.length i j (x+1:Nat) true,H'⟩))):=
  fun h1 h2 s h3=> .inr (.inl ⟨h1,h2,by rw[h3]⟩)
 have hR2:f i j=false→Xj C f i j x=true→∀ s,s=(⟨jy L C.length i j (x+1:Nat) true,H2⟩:St)→
  ((f i j=true∧∃ E',(Ex.norm,s)=(.exit 8,⟨E',H⟩)∧E'.get 0= .pv L∧E'.get 3= .pv (i64 C.length)∧E'.get 4= .own 0 C.length∧E'.get 6= .pv (.bool g)∧E'.get 7= .pv (i64 i)∧E'.get 8= .pv (i64 j))∨
   (f i j=false∧Xj C f i j x=false∧(Ex.norm,s)=(.norm,⟨jy L C.length i j (x+1:Nat) g,H⟩))∨
   (f i j=false∧Xj C f i j x=true∧∃ H',Dq H' C.length (dy f i j)∧(Ex.norm,s)=(.norm,⟨jy L C.length i j (x+1:Nat) true,H'⟩))):=
  fun h1 h2 s h3=> .inr (.inr ⟨h1,h2,H2,hM2,by rw[h3]⟩)
 generalize hQQ:(fun r:Ex×St=>_)=QQ
 generalize hu:f i j=u at *
 cases u with
 |true=>
  simp -implicitDefEqProofs only[SX,sevalprocAttr,Wa,e1,tn,a0,a1,a2,a3,jy]
  subst hQQ
  exact hR0 rfl _ (by simp[Tr.aa]) (by simp[Tr.aa]) (by simp[Tr.aa]) (by simp[Tr.aa]) (by simp[Tr.aa]) (by simp[Tr.aa])
 |false=>
  by_cases hab:a=b
  ·have ne1:(a != b)=false:=by simp[hab]
   subst hab
   by_cases ha:a≥0
   ·have da:=Ea ha
    have da':decide (a < 0)=false:=Fa (by omega)
    obtain⟨k1,k2,k3,k4⟩:=hun ha ha
    rw[ne1,da,Bool.false_and,Bool.false_or,Bool.true_and,Bool.true_and] at htl
    generalize hw:f a.toNat a.toNat=w at *
    cases w with
    |true=>
     simp -implicitDefEqProofs only[SX,sevalprocAttr,Wa,e1,tn,a0,a1,a2,a3,b0,b1,b2,c0,c1,d0,d1,eq_true hq,t1,m1,z1,Ni,ne1,da,k1,k2,k3,k4,s1,s2,t2,hcut2,hz,ga,za,AV.cut,pa,jy]
     subst hQQ
     exact hR2 rfl htl _ (by simp only[jy,tn])
    |false=>
     simp -implicitDefEqProofs only[SX,sevalprocAttr,Wa,e1,tn,a0,a1,a2,a3,b0,b1,b2,c0,c1,d0,d1,eq_true hq,t1,m1,z1,Ni,ne1,da,k1,k2,k3,k4,t2,hcut,hz,ga,za,AV.cut,pa,jy]
     subst hQQ
     exact hR1 rfl htl _ (by simp only[jy,tn])
   ·have da:=Fa ha
    rw[ne1,da,Bool.false_and,Bool.false_or,Bool.false_and,Bool.false_and] at htl
    simp -implicitDefEqProofs only[SX,sevalprocAttr,Wa,e1,tn,a0,a1,a2,a3,b0,b1,b2,c0,c1,d0,d1,eq_true hq,t1,m1,z1,Ni,ne1,da,t2,hcut,hz,ga,za,AV.cut,pa,jy]
    subst hQQ
    exact hR1 rfl htl _ (by simp only[jy,tn])
  ·have ne1:(a != b)=true:=by simp[hab]
   by_cases ha:a < 0
   ·have da:=Ea ha
    rw[ne1,da] at htl
    simp only[Bool.true_and,Bool.true_or] at htl
    simp -implicitDefEqProofs only[SX,sevalprocAttr,Wa,e1,tn,a0,a1,a2,a3,b0,b1,b2,c0,c1,d0,d1,eq_true hq,t1,m1,z1,Ni,ne1,da,s1,s2,t2,hcut2,hz,ga,za,AV.cut,pa,jy]
    subst hQQ
    exact hR2 rfl htl _ (by simp only[jy,tn])
   ·have da:=Fa ha
    have da':decide (a≥0)=true:=Ea (by omega)
    by_cases hb:b < 0
    ·have db:=Ea hb
     rw[ne1,da,db] at htl
     simp only[Bool.true_and,Bool.false_or,Bool.true_or] at htl
     simp -implicitDefEqProofs only[SX,sevalprocAttr,Wa,e1,tn,a0,a1,a2,a3,b0,b1,b2,c0,c1,d0,d1,eq_true hq,t1,m1,z1,Ni,ne1,da,db,s1,s2,t2,hcut2,hz,ga,za,AV.cut,pa,jy]
     subst hQQ
     exact hR2 rfl htl _ (by simp only[jy,tn])
    ·have db:=Fa hb
     have db':decide (b≥0)=true:=Ea (by omega)
     obtain⟨k1,k2,k3,k4⟩:=hun (by omega) (by omega)
     rw[ne1,da,db,da',db'] at htl
     simp only[Bool.true_and,Bool.false_or] at htl
     generalize hw:f a.toNat b.toNat=w at *
     cases w with
     |true=>
      simp -implicitDefEqProofs only[SX,sevalprocAttr,Wa,e1,tn,a0,a1,a2,a3,b0,b1,b2,c0,c1,d0,d1,eq_true hq,t1,m1,z1,Ni,ne1,da,db,da',db',k1,k2,k3,k4,s1,s2,t2,hcut2,hz,ga,za,AV.cut,pa,jy]
      subst hQQ
      exact hR2 rfl htl _ (by simp only[jy,tn])
     |false=>
      simp -implicitDefEqProofs only[SX,sevalprocAttr,Wa,e1,tn,a0,a1,a2,a3,b0,b1,b2,c0,c1,d0,d1,eq_true hq,t1,m1,z1,Ni,ne1,da,db,da',db',k1,k2,k3,k4,t2,hcut,hz,ga,za,AV.cut,pa,jy]
      subst hQQ
      exact hR1 rfl htl _ (by simp only[jy,tn])
end
end Go.AM.B1
namespace Go.AM.B1
open Go.AM Go.AM.So
def Wx (ss:List mc) (sets:List Al) (a:Al) (x:Nat) (v:Int):Prop:=
 (Ff (Sk ss a x) ss.length=false∧v= -2)∨
 (Ff (Sk ss a x) ss.length=true∧Ff (ep ss a x) ss.length=true∧v= -1)∨
 (Ff (Sk ss a x) ss.length=true∧Ff (ep ss a x) ss.length=false∧∃ k m:Nat,v=(k:Int)∧cB ss a x m∧sets[k]? =some (a.1+1,(m:Int)))
theorem Wx.mono {ss:List mc} {sets t:List Al} {a:Al} {x:Nat} {v:Int} (h:Wx ss sets a x v):Wx ss (sets++t) a x v:=by
 rcases h with h | h | ⟨h1,h2,k,m,h3,h4,h5⟩
 ·exact .inl h
 ·exact .inr (.inl h)
 ·refine .inr (.inr ⟨h1,h2,k,m,h3,h4,?_⟩)
  rw[List.getElem?_append_left (List.getElem?_eq_some_iff.1 h5).1];exact h5
theorem bK {a:Al}:∀ {l:List Al} {k i:Nat},ql a l k=some i→k≤i∧l[i - k]? =some a
 |b::l,k,i,h=>by
  simp only[ql] at h
  split at h
  ·next he=>injection h with h;subst h;subst he;exact⟨Nat.le_refl _,by simp⟩
  ·obtain⟨h1,h2⟩:=bK h
   refine⟨by omega,?_⟩
   rw[show i - k=(i - (k+1))+1 by omega,List.getElem?_cons_succ];exact h2
structure mM (sets:List Al) (d:Nat):Prop where
 up:∀ (p q:Nat) a b,p≤q→sets[p]? =some a→sets[q]? =some b→a.1≤b.1
 top:∀ (q:Nat) b,sets[q]? =some b→b.1≤d+1
theorem mM.push {sets:List Al} {d:Nat} (h:mM sets d) (e:Int):mM (sets++[(d+1,e)]) d:=by
 have hg:∀ (q:Nat) b,(sets++[(d+1,e)])[q]? =some b→(q < sets.length∧sets[q]? =some b)∨(q=sets.length∧b=(d+1,e)):=by
  intro q b hb
  rcases Nat.lt_or_ge q sets.length with h1 | h1
  ·rw[List.getElem?_append_left h1] at hb;exact .inl ⟨h1,hb⟩
  ·rw[List.getElem?_append_right h1] at hb
   cases hq:q - sets.length with
   |zero=>rw[hq] at hb;simp at hb;exact .inr ⟨by omega,hb.symm⟩
   |succ n=>rw[hq] at hb;simp at hb
 refine⟨?_,?_⟩
 ·intro p q a b hpq ha hb
  rcases hg p a ha with⟨h1,h2⟩ | ⟨h1,h2⟩ <;> rcases hg q b hb with⟨h3,h4⟩ | ⟨h3,h4⟩
  ·exact h.up p q a b hpq h2 h4
  ·rw[h4];exact h.top p a h2
  ·omega
  ·rw[h2,h4];exact Nat.le_refl _
 ·intro q b hb
  rcases hg q b hb with⟨h3,h4⟩ | ⟨h3,h4⟩
  ·exact h.top q b h4
  ·rw[h4];exact Nat.le_refl _
theorem wQ {ss:List mc} (hw:ss.length≤32) {sets:List Al} {a:Al} (hba:kT a) {x:Nat} {p:List Al×Int} (h:vg ss a x sets=some p) (hR:mM sets a.1):
 Wx ss p.1 a x p.2∧mM p.1 a.1∧((p.1=sets)∨(p.1.length=sets.length+1∧p.2=(sets.length:Int))):=by
 obtain⟨m,hm⟩:=dS (x:=x) hba hw
 rw[hm.step sets] at h
 by_cases h1:Ff (Sk ss a x) ss.length=false
 ·rw[if_pos h1] at h
  injection h with h;subst h
  exact⟨.inl ⟨h1,rfl⟩,hR,.inl rfl⟩
 ·rw[if_neg h1] at h
  have h1':Ff (Sk ss a x) ss.length=true:=by simpa using h1
  by_cases h2:Ff (ep ss a x) ss.length=true
  ·rw[if_pos h2] at h
   injection h with h;subst h
   exact⟨.inr (.inl ⟨h1',h2,rfl⟩),hR,.inl rfl⟩
  ·rw[if_neg h2] at h
   have h2':Ff (ep ss a x) ss.length=false:=by simpa using h2
   cases hi:ql (a.1+1,(m:Int)) sets 0 with
   |some k=>
    rw[hi] at h
    injection h with h;subst h
    exact⟨.inr (.inr ⟨h1',h2',k,m,rfl,hm,(bK hi).2⟩),hR,.inl rfl⟩
   |none=>
    rw[hi] at h
    simp only at h
    split at h
    ·injection h with h;subst h
     refine⟨.inr (.inr ⟨h1',h2',sets.length,m,rfl,hm,by simp⟩),hR.push _,.inr ⟨by simp,rfl⟩⟩
    ·cases h
theorem mJ {ss:List mc} (hw:ss.length≤32) {a:Al} (hba:kT a) {i:Nat}:∀ (xs:List Nat) (r r':List Al×List Int),xs.Nodup→(∀ x∈xs,x < r.2.length)→Wl ss r.1→r.1[i]? =some a→mM r.1 a.1→rk ss a xs r=some r'→
 (∀ x∈xs,Wx ss r'.1 a x (r'.2.getD x 0))∧(∀ y,y ∉ xs→r'.2.getD y 0=r.2.getD y 0)∧(∀ k,r.1.length≤k→k < r'.1.length→∃ x∈xs,r'.2.getD x 0=(k:Int))∧mM r'.1 a.1
 | [],r,r',_,_,_,_,hR,e=>by
   injection e with e;subst e
   exact⟨by simp,fun _ _=>rfl,fun k h1 h2=>by omega,hR⟩
 |x::xs,r,r',hnd,hlt,Aa,ha,hR,e=>by
  cases hst:vg ss a x r.1 with
  |none=>rw[Wr hst] at e;cases e
  |some p=>
   rw[Ys hst] at e
   obtain⟨s1,s2,s3⟩:=wQ hw hba hst hR
   obtain⟨g1,t,g2⟩:=zC Aa ha hw hst
   rw[List.nodup_cons] at hnd
   have hi:=(List.getElem?_eq_some_iff.1 ha).1
   have hxl:=hlt x (by simp)
   obtain⟨k1,k2,k3,k4⟩:=mJ hw hba xs (p.1,r.2.set x p.2) r' hnd.2 (fun y hy=>by rw[List.length_set];exact hlt y (by simp[hy])) g1 (by rw[g2,List.getElem?_append_left hi];exact ha) s2 e
   obtain⟨_,⟨t',q2⟩,_⟩:=cu hw xs (p.1,r.2.set x p.2) r' g1 (by rw[g2,List.getElem?_append_left hi];exact ha) e
   simp only at q2
   have hx:r'.2.getD x 0=p.2:=by
    rw[k2 x hnd.1,List.getD_eq_getElem?_getD,List.getElem?_set_self hxl];rfl
   refine⟨?_,?_,?_,k4⟩
   ·intro y hy
    rcases List.mem_cons.1 hy with rfl | hy
    ·rw[hx,q2];exact s1.mono
    ·exact k1 y hy
   ·intro y hy
    rw[List.mem_cons,not_or] at hy
    rw[k2 y hy.2,List.getD_eq_getElem?_getD,List.getElem?_set_ne (Ne.symm hy.1),←List.getD_eq_getElem?_getD]
   ·intro k h1 h2
    rcases s3 with s3 | ⟨s3,s4⟩
    ·obtain⟨y,hy,h3⟩:=k3 k (by rw[s3];exact h1) h2
     exact⟨y,by simp[hy],h3⟩
    ·by_cases hk:k=r.1.length
     ·exact⟨x,by simp,by rw[hx,s4,hk]⟩
     ·obtain⟨y,hy,h3⟩:=k3 k (by simp only;omega) h2
      exact⟨y,by simp[hy],h3⟩
structure Jk (ss:List mc) (sets:List Al) (C:List (List Int)):Prop where
 ok:Wl ss sets
 le:C.length≤sets.length
 first:sets[0]? =some (0,aq ss.length)
 row:∀ r∈C,r.length=256
 step:∀ (k:Nat) a,k < C.length→sets[k]? =some a→∀ x,x < 256→Wx ss sets a x (fg C k x)
 up:∀ (p q:Nat) a b,p≤q→sets[p]? =some a→sets[q]? =some b→a.1≤b.1
 top:∀ (k q:Nat) a b,k=C.length→sets[k]? =some a→sets[q]? =some b→b.1≤a.1+1
 reach:∀ k,0 < k→k < sets.length→∃ j x,j < k∧j < C.length∧x < 256∧fg C j x=(k:Int)
theorem JN {C:List (List Int)} {r:List Int} {k x:Nat} (hk:k < C.length):fg (C++[r]) k x=fg C k x:=by
 have:(C++[r]).getD k []=C.getD k []:=by
  rw[List.getD_eq_getElem?_getD,List.getElem?_append_left hk,←List.getD_eq_getElem?_getD]
 unfold fg
 rw[this]
theorem vN {C:List (List Int)} {r:List Int} {x:Nat}:fg (C++[r]) C.length x=r.getD x 0:=by
 unfold fg
 have:(C++[r]).getD C.length []=r:=by
  rw[List.getD_eq_getElem?_getD,List.getElem?_append_right (Nat.le_refl _),Nat.sub_self];rfl
 rw[this]
theorem Jk.next {ss:List mc} (hw:ss.length≤32) {sets:List Al} {C:List (List Int)} (h:Jk ss sets C) {a:Al} (ha:sets[C.length]? =some a) {p:List Al×List Int} (hp:rk ss a (List.range 256) (sets,gb)=some p):Jk ss p.1 (C++[p.2]):=by
 have hlt:=(List.getElem?_eq_some_iff.1 ha).1
 obtain⟨_,b,hb,hblt,_⟩:=h.ok.2 _ a ha
 have hba:kT a:=⟨b,hb,hblt⟩
 obtain⟨k1,k2,k3,k4⟩:=mJ hw hba (i:=C.length) (List.range 256) (sets,gb) p List.nodup_range (fun x hx=>by simp only[Ur];simpa using hx) h.ok ha ⟨h.up,fun q b hb=>h.top C.length q a b rfl ha hb⟩ hp
 obtain⟨g1,⟨t,g2⟩,g3⟩:=cu hw (List.range 256) (sets,gb) p h.ok ha hp
 simp only at g2 g3
 rw[Ur] at g3
 have hold:∀ (k:Nat) c,k < sets.length→(p.1[k]? =some c↔sets[k]? =some c):=fun k c hk=>by rw[g2,List.getElem?_append_left hk]
 refine⟨g1,?_,?_,?_,?_,k4.up,?_,?_⟩
 ·rw[g2];simp;omega
 ·rw[hold 0 _ (by omega)];exact h.first
 ·intro r hr
  rcases List.mem_append.1 hr with h1 | h1
  ·exact h.row r h1
  ·rw[List.mem_singleton] at h1;subst h1;exact g3
 ·intro k c hk hc x hx
  rw[List.length_append,List.length_singleton] at hk
  rcases Nat.lt_or_ge k C.length with h1 | h1
  ·rw[JN h1,g2]
   exact (h.step k c h1 ((hold k c (by omega)).1 hc) x hx).mono
  ·have:k=C.length:=by omega
   subst this
   have hca:c=a:=by
    have:=(hold C.length c hlt).1 hc
    rw[ha] at this;injection this with this;exact this.symm
   subst hca
   rw[vN]
   exact k1 x (by simpa using hx)
 ·intro k q c d hk hc hd
  rw[List.length_append,List.length_singleton] at hk
  have h1:=k4.top q d hd
  have h2:=k4.up C.length k a c (by omega) ((hold _ a hlt).2 ha) hc
  omega
 ·intro k h0 hk
  rcases Nat.lt_or_ge k sets.length with h1 | h1
  ·obtain⟨j,x,h2,h3,h4,h5⟩:=h.reach k h0 h1
   exact⟨j,x,h2,by rw[List.length_append];omega,h4,by rw[JN h3];exact h5⟩
  ·obtain⟨x,hx,h2⟩:=k3 k h1 hk
   exact⟨C.length,x,by omega,by simp,by simpa using hx,by rw[vN];exact h2⟩
theorem GG {ss:List mc} (hw:ss.length≤32):∀ (k:Nat) (r r':List Al×List (List Int)),r.2.length+k=64→Jk ss r.1 r.2→ug ss k r=some r'→Jk ss r'.1 r'.2∧r'.2.length=r'.1.length
 |0,r,r',hk,h,e=>by
  injection e with e;subst e
  have:=h.ok.1
  have:=h.le
  exact⟨h,by omega⟩
 |k+1,r,r',hk,h,e=>by
  cases ha:r.1[r.2.length]? with
  |none=>
   rw[Yr ha] at e;injection e with e;subst e
   refine⟨h,?_⟩
   have:=h.le
   rcases Nat.lt_or_ge r.2.length r.1.length with h1 | h1
   ·rw[List.getElem?_eq_getElem h1] at ha;cases ha
   ·omega
  |some a=>
   cases hr:rk ss a (List.range 256) (r.1,gb) with
   |none=>rw[ru ha hr] at e;cases e
   |some p=>
    rw[Gt ha hr] at e
    exact GG hw k (p.1,r.2++[p.2]) r' (by simp;omega) (h.next hw ha hr) e
theorem HG {ss:List mc} (hw:ss.length≤32) (hne:∀ s∈ss,0 < s.parts.length) {p:List Al×List (List Int)} (h:ug ss 64 (tg ss,[])=some p):Jk ss p.1 p.2∧p.2.length=p.1.length:=by
 refine GG hw 64 (tg ss,[]) p rfl ⟨Ry hw hne,by simp,rfl,by simp,fun k a hk=>by simp at hk,?_,?_,?_⟩ h
 ·intro p q a b hpq ha hb
  have:p=0∧q=0:=by
   have h1:=(List.getElem?_eq_some_iff.1 ha).1
   have h2:=(List.getElem?_eq_some_iff.1 hb).1
   simp[tg] at h1 h2;omega
  obtain⟨rfl,rfl⟩:=this
  rw[ha] at hb;injection hb with hb;subst hb;exact Nat.le_refl _
 ·intro k q a b hk ha hb
  have h2:=(List.getElem?_eq_some_iff.1 hb).1
  simp[tg] at h2;subst h2
  simp[tg] at hb;subst hb;simp
 ·intro k h0 hk
  simp[tg] at hk;omega
end Go.AM.B1
