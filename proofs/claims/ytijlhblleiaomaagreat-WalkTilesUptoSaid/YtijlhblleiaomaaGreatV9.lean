/- What functions of the program compute. -/
import Derived.Test.YtijlhblleiaomaaGreatV8
set_option linter.unusedVariables false
set_option linter.unusedSimpArgs false
namespace Go.AM.B1
open Go.AM Go.AM.So
theorem dh {α:Type}:∀ (vs cs:List α) (off j:Nat),off+vs.length≤cs.length→(oa cs off vs)[j]? =if off≤j∧j < off+vs.length then vs[j - off]? else cs[j]?
 | [],cs,off,j,h=>by
   rw[if_neg (by simp only[List.length_nil];omega)];rfl
 |v::vs,cs,off,j,h=>by
  simp only[List.length_cons] at h
  rw[oa,dh vs _ (off+1) j (by simp;omega)]
  by_cases h1:off+1≤j∧j < off+1+vs.length
  ·rw[if_pos h1,if_pos (by simp only[List.length_cons];omega),show j - off=(j - (off+1))+1 by omega,List.getElem?_cons_succ]
  ·rw[if_neg h1]
   by_cases h2:off=j
   ·subst h2
    rw[List.getElem?_set_self (by omega),if_pos (by simp only[List.length_cons];omega),Nat.sub_self,List.getElem?_cons_zero]
   ·rw[List.getElem?_set_ne h2,if_neg (by simp only[List.length_cons];omega)]
def Ff (n:Nat) (f:Nat→Bool):List PV:=(List.range n).map fun x=> .bool (f x)
theorem yg (n:Nat) (f:Nat→Bool):(Ff n f).length=n:=by rw[Ff,List.length_map,List.length_range]
theorem zC (n:Nat) (f:Nat→Bool) {i:Nat} (h:i < (Ff n f).length):(Ff n f)[i]= .bool (f i):=by
 simp only[Ff,List.getElem_map,List.getElem_range]
theorem Dz {n:Nat} (f:Nat→Bool) {i:Nat} (h:i < n):(Ff n f)[i]? =some (.bool (f i)):=by
 rw[List.getElem?_eq_getElem (by rw[yg];exact h),zC]
theorem tabN_get? (n:Nat) (f:Nat→Bool) (i:Nat):(Ff n f)[i]? =if i < n then some (.bool (f i)) else none:=by
 by_cases h:i < n
 ·rw[if_pos h,Dz f h]
 ·rw[if_neg h,List.getElem?_eq_none (by rw[yg];omega)]
theorem kD {n:Nat} {f g:Nat→Bool} (h:∀ x,x < n→f x=g x):Ff n f=Ff n g:=by
 unfold Ff
 apply List.map_congr_left
 intro x hx
 rw[h x (by simpa using hx)]
theorem tK (n:Nat) (f:Nat→Bool):∀ e∈Ff n f,(AV.pv e).one=true:=by
 intro e he
 obtain⟨x,_,rfl⟩:=List.mem_map.1 he
 rfl
theorem QD (n:Nat):List.replicate n (PV.bool false)=Ff n fun _=>false:=by
 apply List.ext_getElem
 ·rw[List.length_replicate,yg]
 ·intro j h1 h2;rw[List.getElem_replicate,zC]
theorem tU (f:Nat→Bool):Pf f=Ff 256 f:=rfl
theorem IU {n:Nat} (f g:Nat→Bool) {m off:Nat} (h:off+m≤n):oa (Ff n f) off (Ff m g)=Ff n fun j=>if off≤j∧j < off+m then g (j - off) else f j:=by
 apply List.ext_getElem?
 intro j
 rw[dh _ _ _ _ (by rw[yg,yg];exact h),yg,tabN_get?,tabN_get?,tabN_get?]
 by_cases h1:off≤j∧j < off+m
 ·rw[if_pos h1,if_pos (show j - off < m by omega),if_pos (by omega)]
  simp only[if_pos h1]
 ·rw[if_neg h1]
  simp only[if_neg h1]
theorem BD {α β:Type} (f:α→β):∀ (vs cs:List α) (off:Nat),oa (cs.map f) off (vs.map f)=(oa cs off vs).map f
 | [],cs,off=>rfl
 |v::vs,cs,off=>by
  rw[List.map_cons,oa,oa,←BD f vs,List.map_set]
theorem GW {A:List ba} {id n off m:Nat} {f g:Nat→Bool} (hg:A[id]? =some (Eb (Ff n f))) (h:off+m≤n):
 Oa A m (.ptr id off) (.pv (.agg (Ff m g)))=some (A.set id (Eb (Ff n fun j=>if off≤j∧j < off+m then g (j - off) else f j))):=by
 have hc':(AV.pv (.agg (Ff m g))).cells=(Ff m g).map .pv:=rfl
 simp only[Oa,hg,hc']
 rw[if_pos ⟨by rw[List.length_map,yg],by rw[List.all_eq_true];intro v hv;obtain⟨e,he,rfl⟩:=List.mem_map.1 hv;exact tK _ _ e he⟩,
  if_pos (by rw[List.length_map,yg];exact h),BD,IU f g h]
def Ro (s:Lb) (k x:Nat):Bool:=match s.parts[k]? with
 |some l=>wi l x
 |none=>false
def sn (s:Lb) (k j:Nat):Bool:=decide (j / 256 < k)&&Ro s (j / 256) (j % 256)
def Ky (s:Lb):List PV:=Ff 2048 (sn s 8)
theorem IP (s:Lb) {k:Nat} (hk:k < s.parts.length):(fun j=>if k * 256≤j∧j < k * 256+256 then wi s.parts[k] (j - k * 256) else sn s k j)=sn s (k+1):=by
 funext j
 by_cases h:k * 256≤j∧j < k * 256+256
 ·have h1:j / 256=k:=by omega
  have h2:j % 256=j - k * 256:=by omega
  rw[if_pos h,sn,h1,h2,Ro,List.getElem?_eq_getElem hk]
  simp
 ·rw[if_neg h,sn,sn]
  congr 1
  rw[decide_eq_decide];omega
theorem AT (s:Lb) (h8:s.parts.length≤8):Ff 2048 (sn s s.parts.length)=Ky s:=by
 refine kD fun j hj=> ?_
 unfold sn
 have h2:decide (j / 256 < 8)=true:=decide_eq_true (by omega)
 rw[h2,Bool.true_and]
 by_cases h:j / 256 < s.parts.length
 ·rw[decide_eq_true h,Bool.true_and]
 ·rw[decide_eq_false h,Bool.false_and,Ro,List.getElem?_eq_none (by omega)]
abbrev vc (i:Nat):List PV:=ec 0 fun j=>decide (j < i)
abbrev sx (S:PV) (nl:Bool) (es:List PV) (i k:Int):Tr:=(((((Tr.lf.set 9 (.pv (i64 k))).set 8 (.ptr 2 0)).set 7 (.pv (i64 i))).set 6 (.ptr 1 0)).set 5 (.uq 0 nl 2048 es)).set 1 (.pv (.rp [S] 0))
abbrev fx (S:PV) (nl:Bool) (es:List PV) (i:Int):Tr:=(((Tr.lf.set 7 (.pv (i64 i))).set 6 (.ptr 1 0)).set 5 (.uq 0 nl 2048 es)).set 1 (.pv (.rp [S] 0))
theorem cR (call:Wa) {S:PV} {ss:List Lb} {es:List PV} (hS:eb S ss es) {i:Nat} (hi:i < ss.length) (h8:ss[i].parts.length≤8) (nl:Bool) (os:List PV) (m:Nat) (F:List PV):
 Gd (fun r=>∃ E,r=(.exit 2,⟨E,[.tok 2048 m nl,Eb F,Eb (Ky ss[i])]⟩)∧E.get 1= .pv (.rp [S] 0)∧E.get 5= .uq 0 nl 2048 os∧E.get 6= .ptr 1 0∧E.get 7= .pv (i64 i)∧E.get 8= .ptr 2 0)
  (ab (ga (ua call yf) (fa 3 [1,5,6,7,8,9])) qa ⟨sx S nl os i 0,[.tok 2048 m nl,Eb F,Eb (Ff 2048 fun _=>false)]⟩):=by
 obtain⟨P,ps,hP,a0⟩:=hS.sd hi
 rw[← AT _ h8]
 have ln:=hP.parts.Vb
 have hz:(Ff 2048 fun _=>false)=Ff 2048 (sn ss[i] 0):=kD fun j _=>by rw[sn];simp
 rw[hz]
 generalize ss[i]=s at *
 refine za (wb (g:=ga (ua call yf) (fa 3 [1,5,6,7,8,9]))
  (fun k t=>t=⟨sx S nl os i k,[.tok 2048 m nl,Eb F,Eb (Ff 2048 (sn s k))]⟩)
  s.parts.length (by unfold qa;omega) _ rfl ?_ ?_) (fun r h=>h.2)
 ·rintro k t hk rfl
  obtain⟨v,hv,hpt,_⟩:=hP.parts.sd hk []
  have a1:=hP.parts.Dw hv
  have hm:=gw hpt.is hpt.sz
  have hnx:=IP s hk
  have e1:decide ((k:Int) < (s.parts.length:Int))=true:=Fa (by omega)
  have t2:IntKind.i64.wrap ((k:Int)+1)=((k+1:Nat):Int):=Ca (by omega)
  have hq:Ia (k:Int) 8:=by unfold Ia;omega
  have t1:((k:Int)).toNat=k:=by simp
  have pl:=ej (A:=[.tok 2048 m nl,Eb F,Eb (Ff 2048 (sn s k))]) (id:=2) (es:=Ff 2048 (sn s k)) rfl 0 (k * 256)
  rw[Nat.zero_add] at pl
  have st:=GW (A:=[.tok 2048 m nl,Eb F,Eb (Ff 2048 (sn s k))]) (id:=2) (n:=2048) (off:=k * 256) (m:=256) (f:=sn s k) (g:=wi s.parts[k]) rfl (by omega)
  rw[hnx,←tU] at st
  have st2:([.tok 2048 m nl,Eb F,Eb (Ff 2048 (sn s k))]:List ba).set 2 (Eb (Ff 2048 (sn s (k+1))))=[.tok 2048 m nl,Eb F,Eb (Ff 2048 (sn s (k+1)))]:=rfl
  rw[st2] at st
  have c1:=Mg F 3
  have c2:=Mg (Ff 2048 (sn s (k+1))) 3
  have c0:na 3 (.tok 2048 m nl)=some (.tok 2048 m nl):=rfl
  have hLN:∀ st:St,st=⟨sx S nl os i (k+1:Nat),[.tok 2048 m nl,Eb F,Eb (Ff 2048 (sn s (k+1)))]⟩→LN (fun k t=>t=⟨sx S nl os i k,[.tok 2048 m nl,Eb F,Eb (Ff 2048 (sn s k))]⟩)
   (fun r=>∃ E,r=(.exit 2,⟨E,[.tok 2048 m nl,Eb F,Eb (Ff 2048 (sn s s.parts.length))]⟩)∧E.get 1= .pv (.rp [S] 0)∧E.get 5= .uq 0 nl 2048 os∧E.get 6= .ptr 1 0∧E.get 7= .pv (i64 i)∧E.get 8= .ptr 2 0) k (.norm,st):=fun st h=>h
  generalize LN _ _ k=QQ at hLN ⊢
  generalize Eb F=oF at *
  generalize Eb (Ff 2048 (sn s k))=oT at *
  generalize Eb (Ff 2048 (sn s (k+1)))=oT' at *
  generalize Pf (wi s.parts[k])=T at *
  have hcl:Ra (na 3) [.tok 2048 m nl,oF,oT']=some [.tok 2048 m nl,oF,oT']:=by simp only[Ra,c0,c1,c2,Option.bind_some,Option.map_some]
  have htk:∀ a b c:ba,([a,b,c]:List ba).take 3=[a,b,c]:=fun a b c=>rfl
  have d0:(0 < 3)=True:=by simp
  have d1:(1 < 3)=True:=by simp
  have d2:(2 < 3)=True:=by simp
  simp -implicitDefEqProofs only[SX,sevalprocAttr,-List.reduceReplicate,yf,Nb,Ta,Fc,Bd,a0,a1,ln,e1,hm,eq_true hq,t1,t2,pl,st,hcl,htk,d0,d1,d2,fa,Aa,AV.cut,pa,sx]
  exact hLN _ rfl
 ·rintro t rfl
  have e1:decide ((s.parts.length:Int) < (s.parts.length:Int))=false:=Ga (by omega)
  generalize Eb (Ff 2048 (sn s s.parts.length))=oT
  generalize Eb F=oF
  generalize hQ:(fun r:Ex×St=>r.1.stop=true∧_)=Q
  simp -implicitDefEqProofs only[SX,sevalprocAttr,-List.reduceReplicate,yf,Nb,Ta,Fc,Bd,a0,ln,e1,sx]
  subst hQ
  exact⟨rfl,_,rfl,by simp[Tr.aa],by simp[Tr.aa],by simp[Tr.aa],by simp[Tr.aa],by simp[Tr.aa]⟩
end Go.AM.B1
namespace Go.AM.B1
open Go.AM Go.AM.So
theorem oM {i:Nat} (hi:i < 32):(vc i).set (1+i) (.bool true)=vc (i+1):=by
 rw[Nat.add_comm 1 i]
 unfold vc ec
 rw[List.set_cons_succ,QO _ hi]
 congr 1
 refine Wt fun x hx=> ?_
 by_cases h:x=i
 ·subst h;simp
 ·rw[if_neg h,decide_eq_decide];omega
def Ze (ss:List Lb):List PV:=ss.map fun s=> .agg (Ky s)
theorem uR (call:Wa) {S:PV} {ss:List Lb} {es:List PV} (hS:eb S ss es) (hw:ss.length≤32) (h8:∀ s∈ss,s.parts.length≤8):
 Gd (fun r=>∃ E nl,r=(.exit 0,⟨E,[.tok 2048 ss.length nl,Eb (vc ss.length)]⟩)∧E.get 1= .pv (.rp [S] 0)∧E.get 5= .uq 0 nl 2048 (Ze ss)∧E.get 6= .ptr 1 0)
  (ab (ga (ua call zf) (fa 2 [1,5,6,7])) qa ⟨fx S true [] 0,[.tok 2048 0 true,Eb (vc 0)]⟩):=by
 have ln:=hS.Vb
 refine za (wb (g:=ga (ua call zf) (fa 2 [1,5,6,7]))
  (fun i t=>∃ nl,t=⟨fx S nl (Ze (ss.take i)) i,[.tok 2048 i nl,Eb (vc i)]⟩)
  ss.length (by unfold qa;omega) _ ⟨true,rfl⟩ ?_ ?_) (fun r h=>h.2)
 ·rintro i t hi ⟨nl,rfl⟩
  have hin:=cR call hS hi (h8 _ (List.getElem_mem hi)) nl (Ze (ss.take i)) i (vc (i+1))
  have hnext:Ze (ss.take (i+1))=Ze (ss.take i)++[.agg (Ky ss[i])]:=by
   have:ss.take (i+1)=ss.take i++[ss[i]]:=by simp
   rw[this,Ze,List.map_append];rfl
  have hel:(Ze (ss.take i)).length=i:=by rw[Ze,List.length_map,List.length_take];omega
  have e1:decide ((i:Int) < (ss.length:Int))=true:=Fa (by omega)
  have t2:=Ua hi (show ss.length≤maxLen by unfold maxLen;omega)
  have hq:Ia (i:Int) 32:=by unfold Ia;omega
  have t1:((i:Int)).toNat=i:=by simp
  have m1:i * 1=i:=by omega
  have p1:=ej (A:=[.tok 2048 i nl,Eb (vc i)]) (id:=1) (es:=vc i) rfl 0 1
  have p2:=ej (A:=[.tok 2048 i nl,Eb (vc i)]) (id:=1) (es:=vc i) rfl 1 i
  rw[Nat.zero_add] at p1
  have st:=cx (A:=[.tok 2048 i nl,Eb (vc i)]) (id:=1) (es:=vc i) rfl (k:=1+i) (by rw[vc,Ag];omega) (e:= .bool true) rfl rfl
  rw[oM (by omega)] at st
  have st2:([.tok 2048 i nl,Eb (vc i)]:List ba).set 1 (Eb (vc (i+1)))=[.tok 2048 i nl,Eb (vc (i+1))]:=rfl
  rw[st2] at st
  have hz1:ba.box (List.map AV.pv (List.replicate 2048 (PV.bool false)))=Eb (Ff 2048 fun _=>false):=by rw[QD]
  have hcz:(List.replicate 2048 (PV.bool false)).length=2048:=List.length_replicate
  have hld:xa [.tok 2048 i nl,Eb (vc (i+1)),Eb (Ky ss[i])] true 2048 (.ptr 2 0)=some (.pv (.agg (Ky ss[i]))):=gm (id:=2) rfl (yg _ _)
  have hap:=Fh (A:=[.tok 2048 i nl,Eb (vc (i+1)),Eb (Ky ss[i])]) (id:=0) (n:=i) (sz:=2048) (h:= .uq) (nl:=nl) (ag:=true) (bytes:=2048) (es:=Ze (ss.take i)) rfl hel.symm (by unfold qb;omega) (.agg (Ky ss[i]))
  rw[← hnext,List.set_cons_zero] at hap
  have c1:=Mg (vc i) 3
  have c1':=Mg (vc (i+1)) 3
  have c2:=Mg (vc (i+1)) 2
  have c3:=Mg (Ff 2048 fun _=>false) 3
  have c0:∀ k n nl,na k (.tok 2048 n nl)=some (.tok 2048 n nl):=fun k n nl=>rfl
  have hon:=tK 2048 (sn ss[i] 8)
  have hol:=yg 2048 (sn ss[i] 8)
  have hLN:∀ st:St,st=⟨fx S false (Ze (ss.take (i+1))) (i+1:Nat),[.tok 2048 (i+1) false,Eb (vc (i+1))]⟩→LN (fun i t=>∃ nl,t=⟨fx S nl (Ze (ss.take i)) i,[.tok 2048 i nl,Eb (vc i)]⟩)
   (fun r=>∃ E nl,r=(.exit 0,⟨E,[.tok 2048 ss.length nl,Eb (vc ss.length)]⟩)∧E.get 1= .pv (.rp [S] 0)∧E.get 5= .uq 0 nl 2048 (Ze ss)∧E.get 6= .ptr 1 0) i (.norm,st):=fun st h=>⟨false,h⟩
  generalize LN _ _ i=QQ at hLN ⊢
  have hcl3:Ra (na 3) [.tok 2048 i nl,Eb (vc (i+1)),Eb (Ff 2048 fun _=>false)]=some [.tok 2048 i nl,Eb (vc (i+1)),Eb (Ff 2048 fun _=>false)]:=by simp only[Ra,c0,c1',c3,Option.bind_some,Option.map_some]
  have hcl2:Ra (na 2) [.tok 2048 (i+1) false,Eb (vc (i+1))]=some [.tok 2048 (i+1) false,Eb (vc (i+1))]:=by simp only[Ra,c0,c2,Option.bind_some,Option.map_some]
  change ∀ e∈Ky ss[i],_ at hon
  change (Ky ss[i]).length=2048 at hol
  generalize Ky ss[i]=T at *
  generalize Ze (ss.take i)=os at *
  generalize Ze (ss.take (i+1))=os' at *
  generalize hzs:List.replicate 2048 (PV.bool false)=zs at *
  have hall:((T.map AV.pv).all AV.one)=true:=by
   rw[List.all_eq_true];intro v hv
   obtain⟨e,he,rfl⟩:=List.mem_map.1 hv
   exact hon e he
  have hsr:oa (zs.map AV.pv++[]) 0 (T.map AV.pv)=T.map AV.pv:=by
   have:=Qu (T.map AV.pv) (zs.map AV.pv) [] (by simp;omega)
   rw[List.append_nil]
   simpa using this
  have hTl:(T.map AV.pv).length=2048:=by rw[List.length_map,hol]
  have hap2:=uf T
  have htT:T.take 2048=T:=List.take_of_length_le (by omega)
  have hle:(2048≤(zs.map AV.pv++[]).length)=True:=eq_true (by rw[List.append_nil,List.length_map,hcz];exact Nat.le_refl _)
  generalize hoz:Eb (Ff 2048 fun _=>false)=oz at *
  generalize Eb (vc i)=o1 at *
  generalize Eb (vc (i+1))=o1' at *
  generalize hoT:Eb T=oT at *
  have htk:∀ a b c:ba,([a,b,c]:List ba).take 3=[a,b,c]:=fun a b c=>rfl
  have htk2:∀ a b c:ba,([a,b,c]:List ba).take 2=[a,b]:=fun a b c=>rfl
  have d0:(0 < 3)=True:=by simp
  have d1:(1 < 3)=True:=by simp
  have d2:(2 < 3)=True:=by simp
  have d02:(0 < 2)=True:=by simp
  have d12:(1 < 2)=True:=by simp
  simp -implicitDefEqProofs only[SP,WP,oa,sevalprocAttr,-List.reduceReplicate,zf,xb,Nb,Ta,ln,e1,eq_true hq,t1,m1,p1,p2,st,hzs,hz1,hcl3,htk,d0,d1,d2,fa,Aa,AV.cut,pa,fx]
  refine za hin ?_
  rintro r ⟨E,rfl,g1,g5,g6,g7,g8⟩
  simp -implicitDefEqProofs only[SP,WP,oa,sevalprocAttr,-List.reduceReplicate,g1,g5,g6,g7,g8,hld,hzs,hTl,hall,hsr,hap,hap2,htT,hle,t2,hcl2,htk2,d02,d12,fa,Aa,AV.cut,pa]
  exact hLN _ rfl
 ·rintro t ⟨nl,rfl⟩
  rw[List.take_length]
  have e1:decide ((ss.length:Int) < (ss.length:Int))=false:=Ga (by omega)
  generalize Eb (vc ss.length)=oF
  generalize Ze ss=os
  generalize hQ:(fun r:Ex×St=>r.1.stop=true∧_)=Q
  simp -implicitDefEqProofs only[SX,sevalprocAttr,-List.reduceReplicate,zf,Nb,Ta,ln,e1,fx]
  subst hQ
  exact⟨rfl,_,nl,rfl,by simp[Tr.aa],by simp[Tr.aa],by simp[Tr.aa]⟩
end Go.AM.B1
namespace Go.AM.B1
open Go.AM Go.AM.So
def Rf (f:Nat→Bool):Nat→Bool
 |0=>false
 |n+1=>Rf f n||f n
def Dl (ss:List Lb) (a:Al) (x j:Nat):Bool:=a.2.toNat.testBit j&&(match ss[j]? with | some s=>Ro s a.1 x | none=>false)
def cq (ss:List Lb) (a:Al) (x j:Nat):Bool:=Dl ss a x j&&(match ss[j]? with | some s=>((s.parts.length:Int)==(a.1:Int)+1) | none=>false)
abbrev qJ (S:PV) (nl nl3:Bool) (os es rs:List PV) (n x i:Int) (so en:Bool):Tr:=
 ((((((((((Tr.lf.set 18 (.pv (i64 i))).set 17 (.pv (.bool en))).set 16 (.pv (.bool so))).set 15 (.ptr 5 0)).set 14 (.pv (i64 x))).set 13 (.ptr 4 0)).set 12 (.pv (i64 n))).set 11 (.uq 3 nl3 256 rs)).set 10 (.uq 2 false 33 es)).set 5 (.uq 0 nl 2048 os)).set 1 (.pv (.rp [S] 0))
theorem wL (d:Int) (f:Nat→Bool) {i:Nat} (h:i < 32):(ec d f)[1+i]? =some (.bool (f i)):=by
 rw[Nat.add_comm,ec,List.getElem?_cons_succ,oI f h]
theorem aD (H:List ba) (id:Nat) (nl:Bool) {l:List Al} {i:Nat} {a:Al} (ha:l[i]? =some a):wa H 33 (.uq id nl 33 (l.map Ue)) (i:Int)=some (.pv (.rp (ec a.1 a.2.toNat.testBit) 0)):=by
 have hi:=(List.getElem?_eq_some_iff.1 ha).1
 simp only[wa]
 rw[if_pos (by refine⟨trivial,?_⟩;unfold Ia;simp;omega)]
 simp[ha,Ue,PV.cells]
theorem wQ (H:List ba) (id:Nat) (nl:Bool) {ss:List Lb} {i:Nat} (hi:i < ss.length):wa H 2048 (.uq id nl 2048 (Ze ss)) (i:Int)=some (.pv (.rp (Ky ss[i]) 0)):=by
 simp only[wa]
 rw[if_pos (by refine⟨trivial,?_⟩;unfold Ia Ze;simp;omega)]
 simp[hi,Ze,PV.cells]
theorem lj (H:List ba) (row:List PV) (o d:Nat):place H d (.pv (.rp row o))=some (.pv (.rp row (o+d))):=rfl
theorem Wy {row:List PV} {k:Nat} {e:PV} (h:row[k]? =some e) (H:List ba):xa H false 1 (.pv (.rp row k))=some (.pv e):=by
 simp only[xa,Hl,Bool.false_eq_true,if_false,h,Option.map_some]
theorem dX (call:Wa) {S:PV} {ss:List Lb} {es:List PV} (hS:eb S ss es) (hw:ss.length≤32) (h8:∀ s∈ss,s.parts.length≤8) {sets:List Al} {n x:Nat} {a:Al} (ha:sets[n]? =some a) (hx:x < 256)
 (Ba:∀ i s,ss[i]? =some s→a.2.toNat.testBit i=true→a.1 < s.parts.length) (hd:a.1≤64)
 (nl nl3:Bool) (rs:List PV) (o0 o1 o2 o3 o4:ba) (hc:Ra (na 6) [o0,o1,o2,o3,o4]=some [o0,o1,o2,o3,o4]):
 Gd (fun r=>∃ E,r=(.exit 8,⟨E,[o0,o1,o2,o3,o4,Eb (ec ((a.1:Int)+1) fun j=>decide (j < ss.length)&&Dl ss a x j)]⟩)∧E.get 1= .pv (.rp [S] 0)∧E.get 5= .uq 0 nl 2048 (Ze ss)∧E.get 10= .uq 2 false 33 (sets.map Ue)∧E.get 11= .uq 3 nl3 256 rs∧E.get 12= .pv (i64 n)∧E.get 13= .ptr 4 0∧E.get 14= .pv (i64 x)∧E.get 15= .ptr 5 0∧
  E.get 16= .pv (.bool (Rf (Dl ss a x) ss.length))∧E.get 17= .pv (.bool (Rf (cq ss a x) ss.length)))
  (ab (ga (ua call bd) (fa 6 [1,5,10,11,12,13,14,15,16,17,18])) qa ⟨qJ S nl nl3 (Ze ss) (sets.map Ue) rs n x 0 false false,[o0,o1,o2,o3,o4,Eb (ec ((a.1:Int)+1) fun _=>false)]⟩):=by
 have ln:=hS.Vb
 have a0:(ec ((a.1:Int)+1) fun _=>false)=ec ((a.1:Int)+1) fun j=>decide (j < 0)&&Dl ss a x j:=by simp
 rw[a0]
 refine za (wb (g:=ga (ua call bd) (fa 6 [1,5,10,11,12,13,14,15,16,17,18]))
  (fun i t=>t=⟨qJ S nl nl3 (Ze ss) (sets.map Ue) rs n x i (Rf (Dl ss a x) i) (Rf (cq ss a x) i),[o0,o1,o2,o3,o4,Eb (ec ((a.1:Int)+1) fun j=>decide (j < i)&&Dl ss a x j)]⟩)
  ss.length (by unfold qa;omega) _ rfl ?_ ?_) (fun r h=>h.2)
 ·rintro i t hi rfl
  obtain⟨P,ps,hP,b0⟩:=hS.sd hi
  have lP:=hP.parts.Vb
  have hsi:ss[i]? =some ss[i]:=List.getElem?_eq_getElem hi
  have hdep:=Ba i _ hsi
  have h8i:=h8 _ (List.getElem_mem hi)
  have i1:=fun H=>aD H 2 false ha
  have i2:=fun H=>wQ H 0 nl hi
  have l1:=Wy (wL (a.1:Int) a.2.toNat.testBit (i:=i) (by omega))
  have l0:=Wy (show (ec (a.1:Int) a.2.toNat.testBit)[0]? =some (i64 a.1) from rfl)
  have l2:a.1 < ss[i].parts.length→∀ H,xa H false 1 (.pv (.rp (Ky ss[i]) (a.1 * 256+x)))=some (.pv (.bool (Ro ss[i] a.1 x))):=by
   intro hlt
   refine Wy ?_
   rw[Ky,Dz _ (by omega),sn,show (a.1 * 256+x) / 256=a.1 by omega,show (a.1 * 256+x) % 256=x by omega,decide_eq_true (show a.1 < 8 by omega),Bool.true_and]
  have onE:Dl ss a x i=(a.2.toNat.testBit i&&Ro ss[i] a.1 x):=by rw[Dl,hsi]
  have enE:cq ss a x i=(Dl ss a x i&&((ss[i].parts.length:Int)==(a.1:Int)+1)):=by rw[cq,hsi]
  have p1:=ej (A:=[o0,o1,o2,o3,o4,Eb (ec ((a.1:Int)+1) fun j=>decide (j < i)&&Dl ss a x j)]) (id:=5) (es:=ec ((a.1:Int)+1) fun j=>decide (j < i)&&Dl ss a x j) rfl 0 1
  have p2:=ej (A:=[o0,o1,o2,o3,o4,Eb (ec ((a.1:Int)+1) fun j=>decide (j < i)&&Dl ss a x j)]) (id:=5) (es:=ec ((a.1:Int)+1) fun j=>decide (j < i)&&Dl ss a x j) rfl 1 i
  rw[Nat.zero_add] at p1
  have st:=cx (A:=[o0,o1,o2,o3,o4,Eb (ec ((a.1:Int)+1) fun j=>decide (j < i)&&Dl ss a x j)]) (id:=5) (es:=ec ((a.1:Int)+1) fun j=>decide (j < i)&&Dl ss a x j) rfl (k:=1+i) (by rw[Ag];omega) (e:= .bool (Dl ss a x i)) rfl rfl
  have hnew:(ec ((a.1:Int)+1) fun j=>decide (j < i)&&Dl ss a x j).set (1+i) (.bool (Dl ss a x i))=ec ((a.1:Int)+1) fun j=>decide (j < i+1)&&Dl ss a x j:=by
   rw[Nat.add_comm 1 i]
   unfold ec
   rw[List.set_cons_succ,QO _ (by omega)]
   congr 1
   refine Wt fun j hj=> ?_
   by_cases h:j=i
   ·subst h;simp
   ·rw[if_neg h]
    congr 1
    rw[decide_eq_decide];omega
  rw[hnew] at st
  have st2:([o0,o1,o2,o3,o4,Eb (ec ((a.1:Int)+1) fun j=>decide (j < i)&&Dl ss a x j)]:List ba).set 5 (Eb (ec ((a.1:Int)+1) fun j=>decide (j < i+1)&&Dl ss a x j))=[o0,o1,o2,o3,o4,Eb (ec ((a.1:Int)+1) fun j=>decide (j < i+1)&&Dl ss a x j)]:=rfl
  rw[st2] at st
  have q1:=ej (A:=[o0,o1,o2,o3,o4,Eb (ec ((a.1:Int)+1) fun j=>decide (j < i+1)&&Dl ss a x j)]) (id:=5) (es:=ec ((a.1:Int)+1) fun j=>decide (j < i+1)&&Dl ss a x j) rfl 0 1
  have q0:=ej (A:=[o0,o1,o2,o3,o4,Eb (ec ((a.1:Int)+1) fun j=>decide (j < i+1)&&Dl ss a x j)]) (id:=5) (es:=ec ((a.1:Int)+1) fun j=>decide (j < i+1)&&Dl ss a x j) rfl 0 0
  have q2:=ej (A:=[o0,o1,o2,o3,o4,Eb (ec ((a.1:Int)+1) fun j=>decide (j < i+1)&&Dl ss a x j)]) (id:=5) (es:=ec ((a.1:Int)+1) fun j=>decide (j < i+1)&&Dl ss a x j) rfl 1 i
  rw[Nat.zero_add] at q1 q0
  have k1:=eE (A:=[o0,o1,o2,o3,o4,Eb (ec ((a.1:Int)+1) fun j=>decide (j < i+1)&&Dl ss a x j)]) (id:=5) (es:=ec ((a.1:Int)+1) fun j=>decide (j < i+1)&&Dl ss a x j) rfl (wL _ _ (i:=i) (by omega))
  have k0:=eE (A:=[o0,o1,o2,o3,o4,Eb (ec ((a.1:Int)+1) fun j=>decide (j < i+1)&&Dl ss a x j)]) (id:=5) (es:=ec ((a.1:Int)+1) fun j=>decide (j < i+1)&&Dl ss a x j) rfl (k:=0) (e:=i64 ((a.1:Int)+1)) rfl
  rw[decide_eq_true (Nat.lt_succ_self i),Bool.true_and] at k1
  have c5:=Mg (ec ((a.1:Int)+1) fun j=>decide (j < i+1)&&Dl ss a x j) 6
  have e1:decide ((i:Int) < (ss.length:Int))=true:=Fa (by omega)
  have t2:=Ua hi (show ss.length≤maxLen by unfold maxLen;omega)
  have hq:Ia (i:Int) 32:=by unfold Ia;omega
  have hqx:Ia (x:Int) 256:=by unfold Ia;omega
  have t1:∀ i:Nat,((i:Int)).toNat=i:=fun i=>by simp
  have m1:∀ i:Nat,i * 1=i:=fun i=>by omega
  have z1:∀ i:Nat,0+i=i:=fun i=>by omega
  have hLN:∀ st:St,st=⟨qJ S nl nl3 (Ze ss) (sets.map Ue) rs n x (i+1:Nat) (Rf (Dl ss a x) i||Dl ss a x i) (Rf (cq ss a x) i||cq ss a x i),[o0,o1,o2,o3,o4,Eb (ec ((a.1:Int)+1) fun j=>decide (j < i+1)&&Dl ss a x j)]⟩→
   LN (fun i t=>t=⟨qJ S nl nl3 (Ze ss) (sets.map Ue) rs n x i (Rf (Dl ss a x) i) (Rf (cq ss a x) i),[o0,o1,o2,o3,o4,Eb (ec ((a.1:Int)+1) fun j=>decide (j < i)&&Dl ss a x j)]⟩)
   (fun r=>∃ E,r=(.exit 8,⟨E,[o0,o1,o2,o3,o4,Eb (ec ((a.1:Int)+1) fun j=>decide (j < ss.length)&&Dl ss a x j)]⟩)∧E.get 1= .pv (.rp [S] 0)∧E.get 5= .uq 0 nl 2048 (Ze ss)∧E.get 10= .uq 2 false 33 (sets.map Ue)∧E.get 11= .uq 3 nl3 256 rs∧E.get 12= .pv (i64 n)∧E.get 13= .ptr 4 0∧E.get 14= .pv (i64 x)∧E.get 15= .ptr 5 0∧
    E.get 16= .pv (.bool (Rf (Dl ss a x) ss.length))∧E.get 17= .pv (.bool (Rf (cq ss a x) ss.length))) i (.norm,st):=fun st h=>h
  generalize LN _ _ i=QQ at hLN ⊢
  generalize (ec ((a.1:Int)+1) fun j=>decide (j < i)&&Dl ss a x j)=Y at *
  generalize (ec ((a.1:Int)+1) fun j=>decide (j < i+1)&&Dl ss a x j)=Y' at *
  generalize ec (a.1:Int) a.2.toNat.testBit=row at *
  generalize Eb Y=oY at *
  generalize Eb Y'=oY' at *
  have hcl:Ra (na 6) [o0,o1,o2,o3,o4,oY']=some [o0,o1,o2,o3,o4,oY']:=by
   simp only[Ra,Option.bind_eq_some_iff,Option.map_eq_some_iff] at hc
   simp only[Ra]
   obtain⟨_,h0,_,⟨_,h1,_,⟨_,h2,_,⟨_,h3,_,⟨_,h4,_⟩,_⟩,_⟩,_⟩,hh⟩:=hc
   simp_all
  have htk:∀ a b c d e f:ba,([a,b,c,d,e,f]:List ba).take 6=[a,b,c,d,e,f]:=fun a b c d e f=>rfl
  have d0:(0 < 6)=True:=by simp
  have d2:(2 < 6)=True:=by simp
  have d3:(3 < 6)=True:=by simp
  have d4:(4 < 6)=True:=by simp
  have d5:(5 < 6)=True:=by simp
  generalize Ky ss[i]=hrow at *
  generalize ss[i]=s at *
  generalize Ze ss=os at *
  generalize sets.map Ue=se at *
  generalize Rf (Dl ss a x) i=so at *
  generalize Rf (cq ss a x) i=en at *
  generalize hle:((s.parts.length:Int)==(a.1:Int)+1)=le at *
  rw[enE] at hLN
  rw[onE] at st k1 hLN
  generalize hbb:a.2.toNat.testBit i=bb at *
  generalize Ro s a.1 x=mm at *
  have hm6:(10≤20)=True:=by simp
  cases bb with
  |false=>
   simp only[Bool.false_and,Bool.or_false] at st k1 hLN
   cases so <;> cases en <;>
   ·simp -implicitDefEqProofs only[SX,sevalprocAttr,bd,Nb,Ta,lj,ln,e1,t2,i1,i2,l0,l1,eq_true hq,eq_true hqx,t1,m1,z1,p1,p2,st,q0,q1,q2,k0,k1,hcl,htk,d0,d2,d3,d4,d5,fa,Aa,AV.cut,pa,qJ]
    exact hLN _ rfl
  |true=>
   have l2':=l2 (hdep rfl)
   have hqd:Ia (a.1:Int) 8:=by have:=hdep rfl;unfold Ia;omega
   simp only[Bool.true_and] at st k1 hLN
   cases mm with
   |false=>
    simp only[Bool.false_and,Bool.or_false] at hLN
    cases so <;> cases en <;>
    ·simp -implicitDefEqProofs only[SX,sevalprocAttr,bd,Nb,Ta,lj,ln,e1,t2,i1,i2,l0,l1,l2',eq_true hq,eq_true hqx,eq_true hqd,t1,m1,z1,p1,p2,st,q0,q1,q2,k0,k1,hcl,htk,d0,d2,d3,d4,d5,fa,Aa,AV.cut,pa,qJ]
     exact hLN _ rfl
   |true=>
    simp only[Bool.true_and,Bool.or_true] at hLN
    cases so <;> cases en <;>
    ·simp -implicitDefEqProofs only[SX,sevalprocAttr,bd,Nb,Ta,Fc,Bd,lj,ln,lP,b0,e1,t2,i1,i2,l0,l1,l2',eq_true hq,eq_true hqx,eq_true hqd,t1,m1,z1,p1,p2,st,q0,q1,q2,k0,k1,hle,hcl,htk,d0,d2,d3,d4,d5,fa,Aa,AV.cut,pa,qJ]
     exact hLN _ rfl
 ·rintro t rfl
  have e1:decide ((ss.length:Int) < (ss.length:Int))=false:=Ga (by omega)
  generalize Eb (ec ((a.1:Int)+1) fun j=>decide (j < ss.length)&&Dl ss a x j)=oF
  generalize Ze ss=os
  generalize sets.map Ue=se
  generalize Rf (Dl ss a x) ss.length=so
  generalize Rf (cq ss a x) ss.length=en
  generalize hQ:(fun r:Ex×St=>r.1.stop=true∧_)=Q
  simp -implicitDefEqProofs only[SX,sevalprocAttr,bd,Nb,Ta,ln,e1,qJ]
  subst hQ
  exact⟨rfl,_,rfl,by simp[Tr.aa],by simp[Tr.aa],by simp[Tr.aa],by simp[Tr.aa],by simp[Tr.aa],by simp[Tr.aa],by simp[Tr.aa],by simp[Tr.aa],by simp[Tr.aa],by simp[Tr.aa]⟩
end Go.AM.B1
namespace Go.AM.B1
open Go.AM Go.AM.So
theorem jH {x:Int}:∀ {l:List (Int×Int)} {last n:Int},Qa 255 last l=true→((xf x n l).2=true↔Lj x l)
 | [],last,n,h=>by simp[xf,Vm]
 |p::l,last,n,h=>by
  have hp:=Wm h p (by simp)
  have h2:=h
  simp only[Qa,Bool.and_eq_true] at h2
  rw[xf,xm]
  by_cases h1:x < p.1
  ·rw[if_pos h1]
   simp only[Bool.false_eq_true,false_iff]
   rintro (h3 | h3)
   ·omega
   ·have:=vo h2.2 h3;omega
  ·rw[if_neg h1]
   by_cases h3:x≤p.2
   ·rw[if_pos h3];simp;omega
   ·rw[if_neg h3,jH h2.2]
    constructor
    ·exact .inr
    ·rintro (h4 | h4)
     ·omega
     ·exact h4
theorem EG (l:List (Int×Int)) (x:Nat):vM l x=wi l x:=by
 unfold vM ny wi
 by_cases h:Qa 255 (-2) l=true
 ·rw[if_pos h,h,Bool.true_and,Bool.eq_iff_iff,jH h,Pu]
 ·rw[if_neg h]
  have:Qa 255 (-2) l=false:=by simpa using h
  rw[this];rfl
theorem yw (s:Lb) (d x:Nat):vt s d x=Ro s d x:=by
 unfold vt Ro
 cases s.parts[d]? with
 |none=>rfl
 |some l=>exact EG l x
theorem Ht (f:Nat→Bool):∀ n,Rf f n=true↔∃ j,j < n∧f j=true
 |0=>by simp[Rf]
 |n+1=>by
  rw[Rf,Bool.or_eq_true,Ht f n]
  constructor
  ·rintro (⟨j,h1,h2⟩ | h)
   ·exact⟨j,by omega,h2⟩
   ·exact⟨n,by omega,h⟩
  ·rintro⟨j,h1,h2⟩
   by_cases h:j=n
   ·subst h;exact .inr h2
   ·exact .inl ⟨j,by omega,h2⟩
theorem kP {ss:List Lb} {a:Al} {x j:Nat} (h:ss.length≤j):Dl ss a x j=false:=by
 rw[Dl,List.getElem?_eq_none h,Bool.and_false]
structure zB (ss:List Lb) (a:Al) (x:Nat) (m:Nat):Prop where
 fst:(nh x a.2 a.1 0 ss (0,false)).1=(m:Int)
 lt:m < 4294967296
 bit:∀ j,m.testBit j=Dl ss a x j
 ends:(nh x a.2 a.1 0 ss (0,false)).2=Rf (cq ss a x) ss.length
 ex:m≠0↔Rf (Dl ss a x) ss.length=true
theorem MT {ss:List Lb} {a:Al} (hb:SU a) (hw:ss.length≤32) (x:Nat):∃ m,zB ss a x m:=by
 obtain⟨d,_⟩:=a
 obtain⟨b,rfl,hb⟩:=hb
 have hN:nh x (b:Int) d 0 ss (0,false)=(((Yt x b d 0 ss (0,false)).1:Int),(Yt x b d 0 ss (0,false)).2):=HN (x:=x) (d:=d) hb ss 0 (0,false) (by omega) (by decide)
 have hbit:∀ j,(Yt x b d 0 ss (0,false)).1.testBit j=Dl ss (d,(b:Int)) x j:=by
  intro j
  rw[HA]
  simp only[Nat.zero_testBit,Nat.zero_le,decide_true,Bool.true_and,Bool.false_or,Nat.sub_zero,Dl,Int.toNat_natCast]
  cases ss[j]? with
  |none=>simp
  |some s=>simp only[yw]
 refine⟨(Yt x b d 0 ss (0,false)).1,?_,UI ss 0 (0,false) (by omega) (by decide),hbit,?_,?_⟩
 ·show (nh x (b:Int) d 0 ss (0,false)).1=_
  rw[hN]
 ·show (nh x (b:Int) d 0 ss (0,false)).2=_
  rw[hN]
  show (Yt x b d 0 ss (0,false)).2=_
  rw[gB,Bool.false_or,Bool.eq_iff_iff,List.any_eq_true,Ht]
  constructor
  ·rintro⟨⟨s,j⟩,h1,h2⟩
   rw[List.mk_mem_zipIdx_iff_getElem?] at h1
   have hj:=(List.getElem?_eq_some_iff.1 h1).1
   refine⟨j,hj,?_⟩
   simp only[yw,Bool.and_eq_true,beq_iff_eq] at h2
   rw[cq,Dl,h1]
   simp only[Int.toNat_natCast,Bool.and_eq_true,beq_iff_eq]
   exact⟨h2.1,by omega⟩
  ·rintro⟨j,hj,h2⟩
   have h1:ss[j]? =some ss[j]:=List.getElem?_eq_getElem hj
   rw[cq,Dl,h1] at h2
   simp only[Int.toNat_natCast,Bool.and_eq_true,beq_iff_eq] at h2
   refine⟨(ss[j],j),by rw[List.mk_mem_zipIdx_iff_getElem?];exact h1,?_⟩
   simp only[yw,Bool.and_eq_true,beq_iff_eq]
   exact⟨h2.1,by omega⟩
 ·rw[Ht]
  constructor
  ·intro h
   apply Decidable.byContradiction
   intro hn
   apply h
   apply Nat.eq_of_testBit_eq
   intro j
   rw[hbit,Nat.zero_testBit]
   by_cases hj:j < ss.length
   ·cases hc:Dl ss (d,(b:Int)) x j with
    |false=>rfl
    |true=>exact absurd ⟨j,hj,hc⟩ hn
   ·exact kP (by omega)
  ·rintro⟨j,hj,h⟩ h0
   rw[← hbit,h0,Nat.zero_testBit] at h
   cases h
theorem zB.enc {ss:List Lb} {a:Al} {x m:Nat} (h:zB ss a x m):ec ((a.1:Int)+1) (fun j=>decide (j < ss.length)&&Dl ss a x j)=ec ((a.1+1:Nat):Int) m.testBit:=by
 have:((a.1+1:Nat):Int)=(a.1:Int)+1:=by omega
 rw[this]
 unfold ec
 congr 1
 refine Wt fun j hj=> ?_
 rw[h.bit]
 by_cases hj:j < ss.length
 ·rw[decide_eq_true hj,Bool.true_and]
 ·rw[decide_eq_false hj,Bool.false_and,kP (by omega)]
theorem zB.AZ {ss:List Lb} {a:Al} {x m:Nat} (h:zB ss a x m):SU (a.1+1,(m:Int)):=⟨m,rfl,h.lt⟩
theorem zB.step {ss:List Lb} {a:Al} {x m:Nat} (h:zB ss a x m) (sets:List Al):
 Hg ss a x sets=if Rf (Dl ss a x) ss.length=false then some (sets,-2)
  else if Rf (cq ss a x) ss.length=true then some (sets,-1)
  else match cm (a.1+1,(m:Int)) sets 0 with
   |some k=>some (sets,(k:Int))
   |none=>if sets.length < 64 then some (sets++[(a.1+1,(m:Int))],(sets.length:Int)) else none:=by
 unfold Hg
 rw[h.ends,h.fst]
 have:((m:Int)=0)=(Rf (Dl ss a x) ss.length=false):=by
  apply propext
  have:=h.ex
  cases hc:Rf (Dl ss a x) ss.length with
  |true=>rw[hc] at this;simp;have:=this.2 rfl;omega
  |false=>
   rw[hc] at this
   simp
   exact Decidable.byContradiction fun hn=>by have:=this.1 hn;cases this
 by_cases h1:Rf (Dl ss a x) ss.length=false
 ·rw[if_pos h1,if_pos (this.mpr h1)]
 ·rw[if_neg h1,if_neg (fun h=>h1 (this.mp h))]
  by_cases h2:Rf (cq ss a x) ss.length=true
  ·rw[if_pos h2,if_pos h2]
  ·rw[if_neg h2,if_neg h2]
   cases cm (a.1+1,(m:Int)) sets 0 <;> rfl
end Go.AM.B1
namespace Go.AM.B1
open Go.AM Go.AM.So
abbrev JH (S:PV) (nl nl3:Bool) (os es rs:List PV) (n x:Int):Tr:=
 ((((((Tr.lf.set 14 (.pv (i64 x))).set 13 (.ptr 4 0)).set 12 (.pv (i64 n))).set 11 (.uq 3 nl3 256 rs)).set 10 (.uq 2 false 33 es)).set 5 (.uq 0 nl 2048 os)).set 1 (.pv (.rp [S] 0))
theorem kV:([PV.int .i64 0,PV.bool false,PV.bool false,PV.bool false,PV.bool false,PV.bool false,PV.bool false,PV.bool false,PV.bool false,PV.bool false,PV.bool false,PV.bool false,PV.bool false,PV.bool false,PV.bool false,PV.bool false,PV.bool false,PV.bool false,PV.bool false,PV.bool false,PV.bool false,PV.bool false,PV.bool false,PV.bool false,PV.bool false,PV.bool false,PV.bool false,PV.bool false,PV.bool false,PV.bool false,PV.bool false,PV.bool false,PV.bool false]:List PV)=ec 0 fun _=>false:=rfl
theorem WS (d e:Int) (f:Nat→Bool):((ec d f).map AV.pv).set 0 (.pv (i64 e))=(ec e f).map AV.pv:=rfl
theorem PI {es:List PV} (h:∀ e∈es,(AV.pv e).one=true):(es.map AV.pv).all AV.one=true:=by
 rw[List.all_eq_true];intro v hv
 obtain⟨e,he,rfl⟩:=List.mem_map.1 hv
 exact h e he
theorem ju {es zs:List PV} (h:es.length=zs.length):oa (zs.map AV.pv++[]) 0 (es.map AV.pv)=es.map AV.pv:=by
 have:=Qu (es.map AV.pv) (zs.map AV.pv) [] (by simp;omega)
 rw[List.append_nil]
 simpa using this
section
variable (call:Wa) {S:PV} {ss:List Lb} {es:List PV} (hS:eb S ss es) (hw:ss.length≤32) (h8:∀ s∈ss,s.parts.length≤8) {sets:List Al} {n x:Nat} {a:Al} (ha:sets[n]? =some a) (hx:x < 256)
 (Ba:pn ss sets) (hd:a.1≤64)
 (nl nl3:Bool) (rs:List PV) (o0 o1 o3:ba) (h0:∀ n,na n o0=some o0) (h1:∀ n,na n o1=some o1) (h3:∀ n,na n o3=some o3) {row:List Int} (hrow:row.length=256)
include hS hw h8 ha hx Ba hd h0 h1 h3 hrow
set_option maxRecDepth 8000 in
theorem AF:
 Gd (fun r=>(∃ p,Hg ss a x sets=some p∧r=(.norm,⟨JH S nl nl3 (Ze ss) (p.1.map Ue) rs n (x+1:Nat),[o0,o1,.tok 33 p.1.length false,o3,Eb ((row.set x p.2).map i64)]⟩))∨
  (Hg ss a x sets=none∧∃ E H,r=(.ret,⟨E,H⟩)∧E.get 2= .pv .ma∧E.get 3= .pv .ma∧E.get 4= .pv (.bool false)))
  (ga (ua call ae) (fa 5 [1,5,10,11,12,13,14]) ⟨JH S nl nl3 (Ze ss) (sets.map Ue) rs n x,[o0,o1,.tok 33 sets.length false,o3,Eb (row.map i64)]⟩):=by
 obtain⟨_,b,hb,hblt,hbok⟩:=Ba.2 n a ha
 have hba:SU a:=⟨b,hb,hblt⟩
 have hall:∀ c∈sets,SU c:=by
  intro c hc
  obtain⟨k,hk,rfl⟩:=List.getElem_of_mem hc
  obtain⟨_,b,hb,hblt,_⟩:=Ba.2 k _ (List.getElem?_eq_getElem hk)
  exact⟨b,hb,hblt⟩
 have hl64:=Ba.1
 obtain⟨m,hm⟩:=MT (x:=x) hba hw
 have hstep:=hm.step sets
 have hcR:∀ n (r:List Int),na n (Eb (r.map i64))=some (Eb (r.map i64)):=fun n r=>Mg _ n
 have c2:∀ k n,na k (.tok 33 n false)=some (.tok 33 n false):=fun k n=>rfl
 have hc6:Ra (na 6) [o0,o1,.tok 33 sets.length false,o3,Eb (row.map i64)]=some [o0,o1,.tok 33 sets.length false,o3,Eb (row.map i64)]:=by
  simp only[Ra,h0,h1,h3,c2,hcR,Option.bind_some,Option.map_some]
 have hl4:=dX call hS hw h8 ha hx (fun i s hs ht=>hbok i s hs (by rw[hb] at ht;simpa using ht)) hd nl nl3 rs o0 o1 (.tok 33 sets.length false) o3 (Eb (row.map i64)) hc6
 rw[hm.enc] at hl4
 have i1:=fun H=>aD H 2 false ha
 have l0:=Wy (show (ec (a.1:Int) a.2.toNat.testBit)[0]? =some (i64 a.1) from rfl)
 have e1:decide ((x:Int) < 256)=true:=Fa (by omega)
 have t2:IntKind.i64.wrap ((x:Int)+1)=((x+1:Nat):Int):=Ca (by omega)
 have t3:IntKind.i64.wrap ((a.1:Int)+1)=(a.1:Int)+1:=Ca (by omega)
 have hq:Ia (x:Int) 256:=by unfold Ia;omega
 have t1:∀ i:Nat,((i:Int)).toNat=i:=fun i=>by simp
 have m1:∀ i:Nat,i * 1=i:=fun i=>by omega
 have z1:∀ i:Nat,0+i=i:=fun i=>by omega
 have zl:=Ag 0 fun _=>false
 have f1:(0+1≤((ec 0 fun _=>false).map AV.pv).length)=True:=eq_true (by rw[List.length_map,zl];omega)
 have f1':(1≤((ec 0 fun _=>false).map AV.pv).length)=True:=eq_true (by rw[List.length_map,zl];omega)
 have f2:=WS 0 ((a.1:Int)+1) fun _=>false
 have f3:=uf (ec ((a.1:Int)+1) fun _=>false)
 have st0:Oa [o0,o1,.tok 33 sets.length false,o3,Eb (row.map i64),Eb (ec 0 fun _=>false)] 33 (.ptr 5 0) (.pv (.agg (ec ((a.1:Int)+1) fun _=>false)))=some [o0,o1,.tok 33 sets.length false,o3,Eb (row.map i64),Eb (ec ((a.1:Int)+1) fun _=>false)]:=
  Qp (id:=5) rfl zl (Ag _ _) (Vv _ _)
 have hcl6:∀ Y:List PV,Ra (na 6) [o0,o1,.tok 33 sets.length false,o3,Eb (row.map i64),Eb Y]=some [o0,o1,.tok 33 sets.length false,o3,Eb (row.map i64),Eb Y]:=by
  intro Y
  simp only[Ra,h0,h1,h3,c2,hcR,Mg Y 6,Option.bind_some,Option.map_some]
 have hcl60:=hcl6 (ec ((a.1:Int)+1) fun _=>false)
 have hcl5:∀ (k:Nat) (r:List Int),Ra (na 5) [o0,o1,.tok 33 k false,o3,Eb (r.map i64)]=some [o0,o1,.tok 33 k false,o3,Eb (r.map i64)]:=by
  intro k r
  simp only[Ra,h0,h1,h3,c2,hcR,Option.bind_some,Option.map_some]
 have htk6:∀ a b c d e f:ba,([a,b,c,d,e,f]:List ba).take 6=[a,b,c,d,e,f]:=fun a b c d e f=>rfl
 have htk5:∀ a b c d e f:ba,([a,b,c,d,e,f]:List ba).take 5=[a,b,c,d,e]:=fun a b c d e f=>rfl
 have d6:∀ k:Fin 6,((k:Nat) < 6)=True:=by intro k;simp
 have d60:(0 < 6)=True:=by simp
 have d62:(2 < 6)=True:=by simp
 have d63:(3 < 6)=True:=by simp
 have d64:(4 < 6)=True:=by simp
 have d65:(5 < 6)=True:=by simp
 have d50:(0 < 5)=True:=by simp
 have d52:(2 < 5)=True:=by simp
 have d53:(3 < 5)=True:=by simp
 have d54:(4 < 5)=True:=by simp
 have pl:∀ (k:Nat) (r:List Int) (Y:List PV),place [o0,o1,.tok 33 k false,o3,Eb (r.map i64),Eb Y] x (.ptr 4 0)=some (.ptr 4 x):=by
  intro k r Y
  have:=ej (A:=[o0,o1,.tok 33 k false,o3,Eb (r.map i64),Eb Y]) (id:=4) (es:=r.map i64) rfl 0 x
  rw[this,Nat.zero_add]
 have st:∀ (k:Nat) (r:List Int) (Y:List PV) (v:Int),r.length=256→Oa [o0,o1,.tok 33 k false,o3,Eb (r.map i64),Eb Y] 1 (.ptr 4 x) (.pv (i64 v))=some [o0,o1,.tok 33 k false,o3,Eb ((r.set x v).map i64),Eb Y]:=by
  intro k r Y v hr
  have:=cx (A:=[o0,o1,.tok 33 k false,o3,Eb (r.map i64),Eb Y]) (id:=4) (es:=r.map i64) rfl (k:=x) (by rw[List.length_map];omega) (e:=i64 v) rfl rfl
  rw[this,List.map_set];rfl
 have hset:∀ v,((row.set x (-2)).set x v)=row.set x v:=fun v=>by rw[List.set_set]
 have st1:=st sets.length row (ec ((a.1+1:Nat):Int) m.testBit) (-2) hrow
 have st2:=fun (k:Nat) v=>st k (row.set x (-2)) (ec ((a.1+1:Nat):Int) m.testBit) v (by simp[hrow])
 simp only[hset] at st2
 have pl1:=pl sets.length row (ec ((a.1+1:Nat):Int) m.testBit)
 have pl2:=fun k=>pl k (row.set x (-2)) (ec ((a.1+1:Nat):Int) m.testBit)
 have hfd:=UU hl64 hm.AZ hall
 have hldY:∀ (k:Nat) (r:List Int),xa [o0,o1,.tok 33 k false,o3,Eb (r.map i64),Eb (ec ((a.1+1:Nat):Int) m.testBit)] true 33 (.ptr 5 0)=some (.pv (.agg (ec ((a.1+1:Nat):Int) m.testBit))):=fun k r=>gm (id:=5) rfl (Ag _ _)
 have hYl:((ec ((a.1+1:Nat):Int) m.testBit).map AV.pv).length=33:=by rw[List.length_map,Ag]
 have hYl':=Ag ((a.1+1:Nat):Int) m.testBit
 have hYr:oa ((ec 0 fun _=>false).map AV.pv++[]) 0 ((ec ((a.1+1:Nat):Int) m.testBit).map AV.pv)=(ec ((a.1+1:Nat):Int) m.testBit).map AV.pv:=ju (by rw[Ag,Ag])
 have hYa:=PI (Vv ((a.1+1:Nat):Int) m.testBit)
 have hYp:=uf (ec ((a.1+1:Nat):Int) m.testBit)
 have hYt:(ec ((a.1+1:Nat):Int) m.testBit).take 33=ec ((a.1+1:Nat):Int) m.testBit:=List.take_of_length_le (by rw[Ag];exact Nat.le_refl _)
 have f4:(33≤((ec 0 fun _=>false).map AV.pv++[]).length)=True:=eq_true (by rw[List.append_nil,List.length_map,zl];exact Nat.le_refl _)
 have hap:sets.length < 64→Yb [o0,o1,.tok 33 sets.length false,o3,Eb ((row.set x (-2)).map i64),Eb (ec ((a.1+1:Nat):Int) m.testBit)] false .uq 33 true 40 (.uq 2 false 33 (sets.map Ue)) (.pv (.lit 33 [.agg (ec ((a.1+1:Nat):Int) m.testBit)]))=
  some (.uq 2 false 33 ((sets++[(a.1+1,(m:Int))]).map Ue),[o0,o1,.tok 33 (sets.length+1) false,o3,Eb ((row.set x (-2)).map i64),Eb (ec ((a.1+1:Nat):Int) m.testBit)]):=by
  intro hlt
  have:=Fh (A:=[o0,o1,.tok 33 sets.length false,o3,Eb ((row.set x (-2)).map i64),Eb (ec ((a.1+1:Nat):Int) m.testBit)]) (id:=2) (n:=sets.length) (sz:=33) (h:= .uq) (nl:=false) (ag:=true) (bytes:=40) (es:=sets.map Ue) rfl (by rw[List.length_map]) (by unfold qb;omega) (.agg (ec ((a.1+1:Nat):Int) m.testBit))
  rw[this,List.map_append];rfl
 have hen:Ue (a.1+1,(m:Int))= .agg (ec ((a.1+1:Nat):Int) m.testBit):=by simp[Ue]
 rw[hen] at hfd
 have lsn:Vb [] 0 (.uq 2 false 33 (sets.map Ue))=some sets.length:=by simp[Vb]
 have hslen:(sets.map Ue).length=sets.length:=List.length_map _
 have hR1:∀ p,Hg ss a x sets=some p→∀ st:St,st=⟨JH S nl nl3 (Ze ss) (p.1.map Ue) rs n (x+1:Nat),[o0,o1,.tok 33 p.1.length false,o3,Eb ((row.set x p.2).map i64)]⟩→(∃ p,Hg ss a x sets=some p∧(Ex.norm,st)=(Ex.norm,⟨JH S nl nl3 (Ze ss) (p.1.map Ue) rs n (x+1:Nat),[o0,o1,.tok 33 p.1.length false,o3,Eb ((row.set x p.2).map i64)]⟩))∨
  (Hg ss a x sets=none∧∃ E H,(Ex.norm,st)=(.ret,⟨E,H⟩)∧E.get 2= .pv .ma∧E.get 3= .pv .ma∧E.get 4= .pv (.bool false)):=fun p hp st h=> .inl ⟨p,hp,by rw[h]⟩
 have hR2:Hg ss a x sets=none→∀ E H,E.get 2= .pv .ma→E.get 3= .pv .ma→E.get 4= .pv (.bool false)→(∃ p,Hg ss a x sets=some p∧(Ex.ret,(⟨E,H⟩:St))=(Ex.norm,⟨JH S nl nl3 (Ze ss) (p.1.map Ue) rs n (x+1:Nat),[o0,o1,.tok 33 p.1.length false,o3,Eb ((row.set x p.2).map i64)]⟩))∨
  (Hg ss a x sets=none∧∃ E' H',(Ex.ret,(⟨E,H⟩:St))=(.ret,⟨E',H'⟩)∧E'.get 2= .pv .ma∧E'.get 3= .pv .ma∧E'.get 4= .pv (.bool false)):=fun hp E H g2 g3 g4=> .inr ⟨hp,E,H,rfl,g2,g3,g4⟩
 generalize hQQ:(fun r:Ex×St=>_)=QQ
 have hz:=kV
 generalize hzs:(ec 0 fun _=>false)=zs at *
 generalize hys:(ec ((a.1:Int)+1) fun _=>false)=ys at *
 generalize hYY:ec ((a.1+1:Nat):Int) m.testBit=Y at *
 generalize ec (a.1:Int) a.2.toNat.testBit=arow at *
 generalize hRR:Eb (row.map i64)=R at *
 simp -implicitDefEqProofs only[SP,WP,oa,sevalprocAttr,ae,xb,lj,e1,t3,i1,l0,hz,f1,f1',f2,f3,st0,hcl60,htk6,d60,d62,d63,d64,d65,fa,Aa,AV.cut,pa,JH]
 refine za hl4 ?_
 rintro r ⟨E,rfl,g1,g5,g10,g11,g12,g13,g14,g15,g16,g17⟩
 cases hso:Rf (Dl ss a x) ss.length with
 |false=>
  rw[hso] at g16
  rw[if_pos hso] at hstep
  cases hen2:Rf (cq ss a x) ss.length <;>
  ·rw[hen2] at g17
   simp -implicitDefEqProofs only[SP,WP,oa,sevalprocAttr,g1,g5,g10,g11,g12,g13,g14,g15,g16,g17,eq_true hq,t1,m1,t2,pl1,st1,hcl5,htk5,d50,d52,d53,d54,fa,Aa,AV.cut,pa]
   subst hQQ
   exact hR1 _ hstep _ rfl
 |true=>
  rw[hso] at g16
  rw[if_neg (by rw[hso];simp)] at hstep
  cases hen2:Rf (cq ss a x) ss.length with
  |true=>
   rw[hen2] at g17
   rw[if_pos hen2] at hstep
   simp -implicitDefEqProofs only[SP,WP,oa,sevalprocAttr,g1,g5,g10,g11,g12,g13,g14,g15,g16,g17,eq_true hq,t1,m1,t2,pl1,pl2,st1,st2,hcl5,htk5,d50,d52,d53,d54,fa,Aa,AV.cut,pa]
   subst hQQ
   exact hR1 _ hstep _ rfl
  |false=>
   rw[hen2] at g17
   rw[if_neg (by rw[hen2];simp)] at hstep
   cases hix:cm (a.1+1,(m:Int)) sets 0 with
   |some k=>
    rw[hix] at hstep hfd
    simp only at hstep hfd
    have dk:decide ((k:Int) < 0)=false:=Ga (by omega)
    simp -implicitDefEqProofs only[SP,WP,oa,sevalprocAttr,g1,g5,g10,g11,g12,g13,g14,g15,g16,g17,eq_true hq,t1,m1,t2,pl1,pl2,st1,st2,hldY,hfd,dk,hcl5,htk5,d50,d52,d53,d54,fa,Aa,AV.cut,pa]
    subst hQQ
    exact hR1 _ hstep _ rfl
   |none=>
    rw[hix] at hstep hfd
    simp only at hstep hfd
    have dk:decide ((-1:Int) < 0)=true:=by decide
    by_cases hlt:sets.length < 64
    ·have hap':=hap hlt
     rw[if_pos hlt] at hstep
     have e64:((sets.length:Int)==64)=false:=vi (by omega)
     have hl1:(sets++[(a.1+1,(m:Int))]).length=sets.length+1:=by simp
     simp -implicitDefEqProofs only[SP,WP,oa,sevalprocAttr,g1,g5,g10,g11,g12,g13,g14,g15,g16,g17,eq_true hq,t1,m1,t2,pl1,pl2,st1,st2,hldY,hfd,dk,hslen,e64,hap',hz,hYl,hYr,hYa,hYp,hYt,f4,hcl5,htk5,d50,d52,d53,d54,fa,Aa,AV.cut,pa]
     subst hQQ
     exact hR1 _ hstep _ (by rw[hl1])
    ·rw[if_neg hlt] at hstep
     have e64:((sets.length:Int)==64)=true:=by simp;omega
     simp -implicitDefEqProofs only[SP,WP,oa,sevalprocAttr,g1,g5,g10,g11,g12,g13,g14,g15,g16,g17,eq_true hq,t1,m1,t2,pl1,pl2,st1,st2,hldY,hfd,dk,hslen,e64]
     subst hQQ
     exact hR2 hstep _ _ (by simp[Tr.aa]) (by simp[Tr.aa]) (by simp[Tr.aa])
end
end Go.AM.B1
namespace Go.AM.B1
open Go.AM Go.AM.So
section
variable (call:Wa) {S:PV} {ss:List Lb} {es:List PV} (hS:eb S ss es) (hw:ss.length≤32) (h8:∀ s∈ss,s.parts.length≤8) {n:Nat} {a:Al}
 (hd:a.1≤64)
 (nl nl3:Bool) (rs:List PV) (o0 o1 o3:ba) (h0:∀ n,na n o0=some o0) (h1:∀ n,na n o1=some o1) (h3:∀ n,na n o3=some o3)
include hS hw h8 hd h0 h1 h3
set_option maxRecDepth 8000 in
theorem WV {sets:List Al} {row:List Int} (ha:sets[n]? =some a) (Ba:pn ss sets) (hrow:row.length=256):
 Gd (fun r=>(∃ p E,Pk ss a (List.range 256) (sets,row)=some p∧r=(.exit 6,⟨E,[o0,o1,.tok 33 p.1.length false,o3,Eb (p.2.map i64)]⟩)∧E.get 1= .pv (.rp [S] 0)∧E.get 5= .uq 0 nl 2048 (Ze ss)∧E.get 10= .uq 2 false 33 (p.1.map Ue)∧E.get 11= .uq 3 nl3 256 rs∧E.get 12= .pv (i64 n)∧E.get 13= .ptr 4 0)∨
  (Pk ss a (List.range 256) (sets,row)=none∧∃ E H,r=(.ret,⟨E,H⟩)∧E.get 2= .pv .ma∧E.get 3= .pv .ma∧E.get 4= .pv (.bool false)))
  (ab (ga (ua call ae) (fa 5 [1,5,10,11,12,13,14])) qa ⟨JH S nl nl3 (Ze ss) (sets.map Ue) rs n 0,[o0,o1,.tok 33 sets.length false,o3,Eb (row.map i64)]⟩):=by
 refine za (wb (g:=ga (ua call ae) (fa 5 [1,5,10,11,12,13,14]))
  (fun x t=>∃ sets' row',t=⟨JH S nl nl3 (Ze ss) (sets'.map Ue) rs n x,[o0,o1,.tok 33 sets'.length false,o3,Eb (row'.map i64)]⟩∧Pk ss a (List.range 256) (sets,row)=Pk ss a ((List.range 256).drop x) (sets',row')∧pn ss sets'∧sets'[n]? =some a∧row'.length=256)
  256 (by unfold qa;omega) _ ⟨sets,row,rfl,by rw[List.drop_zero],Ba,ha,hrow⟩ ?_ ?_) (fun r h=>h.2)
 ·rintro x t hx ⟨sets',row',rfl,hrs,hok',ha',hrow'⟩
  rw[Jq hx] at hrs
  refine za (AF call hS hw h8 ha' hx hok' hd nl nl3 rs o0 o1 o3 h0 h1 h3 hrow') ?_
  rintro r (⟨p,hst,rfl⟩ | ⟨hst,E,H,rfl,g2,g3,g4⟩)
  ·rw[ft hst] at hrs
   obtain⟨k1,t,k2⟩:=gE hok' ha' hw hst
   refine⟨p.1,row'.set x p.2,rfl,hrs,k1,?_,by simp[hrow']⟩
   rw[k2,List.getElem?_append_left (List.getElem?_eq_some_iff.1 ha').1];exact ha'
  ·rw[Tt hst] at hrs
   exact .inr ⟨hrs,E,H,rfl,g2,g3,g4⟩
 ·rintro t ⟨sets',row',rfl,hrs,hok',ha',hrow'⟩
  have hdr:(List.range 256).drop 256=[]:=List.drop_of_length_le (by rw[List.length_range];exact Nat.le_refl _)
  rw[hdr,Pk] at hrs
  have e1:decide (((256:Nat):Int) < 256)=false:=Ga (by omega)
  have hfin:∀ E,E.get 1= .pv (.rp [S] 0)→E.get 5= .uq 0 nl 2048 (Ze ss)→E.get 10= .uq 2 false 33 (sets'.map Ue)→E.get 11= .uq 3 nl3 256 rs→E.get 12= .pv (i64 n)→E.get 13= .ptr 4 0→
   ((Ex.exit 6,(⟨E,[o0,o1,.tok 33 sets'.length false,o3,Eb (row'.map i64)]⟩:St)).1.stop=true∧((∃ p E',Pk ss a (List.range 256) (sets,row)=some p∧(Ex.exit 6,(⟨E,[o0,o1,.tok 33 sets'.length false,o3,Eb (row'.map i64)]⟩:St))=(.exit 6,⟨E',[o0,o1,.tok 33 p.1.length false,o3,Eb (p.2.map i64)]⟩)∧E'.get 1= .pv (.rp [S] 0)∧E'.get 5= .uq 0 nl 2048 (Ze ss)∧E'.get 10= .uq 2 false 33 (p.1.map Ue)∧E'.get 11= .uq 3 nl3 256 rs∧E'.get 12= .pv (i64 n)∧E'.get 13= .ptr 4 0)∨
    (Pk ss a (List.range 256) (sets,row)=none∧∃ E' H,(Ex.exit 6,(⟨E,[o0,o1,.tok 33 sets'.length false,o3,Eb (row'.map i64)]⟩:St))=(.ret,⟨E',H⟩)∧E'.get 2= .pv .ma∧E'.get 3= .pv .ma∧E'.get 4= .pv (.bool false)))):=
   fun E k1 k5 k10 k11 k12 k13=>⟨rfl,.inl ⟨(sets',row'),E,hrs,rfl,k1,k5,k10,k11,k12,k13⟩⟩
  generalize hQ:(fun r:Ex×St=>r.1.stop=true∧_)=Q
  generalize Eb (row'.map i64)=R at *
  generalize sets'.map Ue=se at *
  generalize Ze ss=os at *
  simp -implicitDefEqProofs only[SX,sevalprocAttr,-List.reduceReplicate,ae,e1,JH]
  subst hQ
  exact hfin _ (by simp[Tr.aa]) (by simp[Tr.aa]) (by simp[Tr.aa]) (by simp[Tr.aa]) (by simp[Tr.aa]) (by simp[Tr.aa])
end
abbrev VH (S:PV) (nl nl3:Bool) (os es rs:List PV) (n:Int):Tr:=
 ((((Tr.lf.set 12 (.pv (i64 n))).set 11 (.uq 3 nl3 256 rs)).set 10 (.uq 2 false 33 es)).set 5 (.uq 0 nl 2048 os)).set 1 (.pv (.rp [S] 0))
section
variable (call:Wa) {S:PV} {ss:List Lb} {es:List PV} (hS:eb S ss es) (hw:ss.length≤32) (h8:∀ s∈ss,s.parts.length≤8)
 (nl:Bool) (k0:Nat) (F:List PV)
include hS hw h8
set_option maxRecDepth 8000 in
theorem LF {sets:List Al} {rs:List (List Int)} {a:Al} (ha:sets[rs.length]? =some a) (Ba:pn ss sets):
 Gd (fun r=>(∃ p,Pk ss a (List.range 256) (sets,ib)=some p∧r=(.norm,⟨VH S nl false (Ze ss) (p.1.map Ue) ((rs++[p.2]).map ei) (rs.length+1:Nat),[.tok 2048 k0 nl,Eb F,.tok 33 p.1.length false,.tok 256 (rs.length+1) false]⟩))∨
  (Pk ss a (List.range 256) (sets,ib)=none∧∃ E H,r=(.ret,⟨E,H⟩)∧E.get 2= .pv .ma∧E.get 3= .pv .ma∧E.get 4= .pv (.bool false)))
  (ga (ua call de) (fa 4 [1,5,10,11,12]) ⟨VH S nl rs.isEmpty (Ze ss) (sets.map Ue) (rs.map ei) rs.length,[.tok 2048 k0 nl,Eb F,.tok 33 sets.length false,.tok 256 rs.length rs.isEmpty]⟩):=by
 have hn:=(List.getElem?_eq_some_iff.1 ha).1
 have hl64:=Ba.1
 have hd:a.1≤64:=by have:=(Ba.2 _ a ha).1;omega
 have hl3:=WV call hS hw h8 hd nl rs.isEmpty (rs.map ei) (.tok 2048 k0 nl) (Eb F) (.tok 256 rs.length rs.isEmpty) (fun n=>rfl) (fun n=>Mg F n) (fun n=>rfl) ha Ba Qt
 have hrl:∀ p,Pk ss a (List.range 256) (sets,ib)=some p→p.2.length=256:=fun p hp=>by rw[(Cu hw (List.range 256) (sets,ib) p Ba ha hp).2.2];exact Qt
 have e1:decide ((rs.length:Int) < (sets.length:Int))=true:=Fa (by omega)
 have t2:IntKind.i64.wrap ((rs.length:Int)+1)=((rs.length+1:Nat):Int):=Ca (by omega)
 have hse:(sets.map Ue).length=sets.length:=List.length_map _
 have hzz:List.replicate 256 (PV.int .i64 0)=ib.map i64:=by rw[ib,List.map_replicate]
 have hz0:ba.box (List.map AV.pv (List.replicate 256 (PV.int .i64 0)))=Eb (ib.map i64):=by rw[hzz]
 have hc5:∀ (k:Nat) (R:List PV),Ra (na 5) [.tok 2048 k0 nl,Eb F,.tok 33 k false,.tok 256 rs.length rs.isEmpty,Eb R]=some [.tok 2048 k0 nl,Eb F,.tok 33 k false,.tok 256 rs.length rs.isEmpty,Eb R]:=by
  intro k R
  have c0:∀ k n nl,na 5 (.tok k n nl)=some (.tok k n nl):=fun k n nl=>rfl
  simp only[Ra,c0,Mg,Option.bind_some,Option.map_some]
 have hc4:∀ (k:Nat),Ra (na 4) [.tok 2048 k0 nl,Eb F,.tok 33 k false,.tok 256 (rs.length+1) false]=some [.tok 2048 k0 nl,Eb F,.tok 33 k false,.tok 256 (rs.length+1) false]:=by
  intro k
  have c0:∀ k n nl,na 4 (.tok k n nl)=some (.tok k n nl):=fun k n nl=>rfl
  simp only[Ra,c0,Mg,Option.bind_some,Option.map_some]
 have htk5:∀ a b c d e:ba,([a,b,c,d,e]:List ba).take 5=[a,b,c,d,e]:=fun a b c d e=>rfl
 have htk4:∀ a b c d e:ba,([a,b,c,d,e]:List ba).take 4=[a,b,c,d]:=fun a b c d e=>rfl
 have d50:(0 < 5)=True:=by simp
 have d52:(2 < 5)=True:=by simp
 have d53:(3 < 5)=True:=by simp
 have d54:(4 < 5)=True:=by simp
 have d40:(0 < 4)=True:=by simp
 have d42:(2 < 4)=True:=by simp
 have d43:(3 < 4)=True:=by simp
 have hld:∀ (k:Nat) (r:List Int),r.length=256→xa [.tok 2048 k0 nl,Eb F,.tok 33 k false,.tok 256 rs.length rs.isEmpty,Eb (r.map i64)] true 256 (.ptr 4 0)=some (.pv (.agg (r.map i64))):=fun k r hr=>gm (id:=4) rfl (by rw[List.length_map,hr])
 have hone:∀ r:List Int,∀ e∈r.map i64,(AV.pv e).one=true:=by
  intro r e he
  obtain⟨v,_,rfl⟩:=List.mem_map.1 he
  rfl
 have hap:∀ (k:Nat) (r:List Int),Yb [.tok 2048 k0 nl,Eb F,.tok 33 k false,.tok 256 rs.length rs.isEmpty,Eb (r.map i64)] false .uq 256 true 2048 (.uq 3 rs.isEmpty 256 (rs.map ei)) (.pv (.lit 256 [.agg (r.map i64)]))=
  some (.uq 3 false 256 ((rs++[r]).map ei),[.tok 2048 k0 nl,Eb F,.tok 33 k false,.tok 256 (rs.length+1) false,Eb (r.map i64)]):=by
  intro k r
  have:=Fh (A:=[.tok 2048 k0 nl,Eb F,.tok 33 k false,.tok 256 rs.length rs.isEmpty,Eb (r.map i64)]) (id:=3) (n:=rs.length) (sz:=256) (h:= .uq) (nl:=rs.isEmpty) (ag:=true) (bytes:=2048) (es:=rs.map ei) rfl (by rw[List.length_map]) (by unfold qb;omega) (.agg (r.map i64))
  rw[this,List.map_append];rfl
 have sT:(ib.map i64).length=256:=by rw[List.length_map,Qt]
 have f4:(256≤((ib.map i64).map AV.pv++[]).length)=True:=eq_true (by rw[List.append_nil,List.length_map,sT];exact Nat.le_refl _)
 have hYr:∀ r:List Int,r.length=256→oa ((ib.map i64).map AV.pv++[]) 0 ((r.map i64).map AV.pv)=(r.map i64).map AV.pv:=fun r hr=>ju (by rw[sT,List.length_map,hr])
 have hYa:∀ r:List Int,((r.map i64).map AV.pv).all AV.one=true:=fun r=>PI (hone r)
 have hYp:∀ r:List Int,ve ((r.map i64).map AV.pv)=some (r.map i64):=fun r=>uf _
 have hYt:∀ r:List Int,r.length=256→(r.map i64).take 256=r.map i64:=fun r hr=>List.take_of_length_le (by rw[List.length_map,hr];exact Nat.le_refl _)
 have hYl:∀ r:List Int,r.length=256→((r.map i64).map AV.pv).length=256:=fun r hr=>by rw[List.length_map,List.length_map,hr]
 have hR1:∀ p,Pk ss a (List.range 256) (sets,ib)=some p→∀ st:St,st=⟨VH S nl false (Ze ss) (p.1.map Ue) ((rs++[p.2]).map ei) (rs.length+1:Nat),[.tok 2048 k0 nl,Eb F,.tok 33 p.1.length false,.tok 256 (rs.length+1) false]⟩→
  (∃ p,Pk ss a (List.range 256) (sets,ib)=some p∧(Ex.norm,st)=(.norm,⟨VH S nl false (Ze ss) (p.1.map Ue) ((rs++[p.2]).map ei) (rs.length+1:Nat),[.tok 2048 k0 nl,Eb F,.tok 33 p.1.length false,.tok 256 (rs.length+1) false]⟩))∨
   (Pk ss a (List.range 256) (sets,ib)=none∧∃ E H,(Ex.norm,st)=(.ret,⟨E,H⟩)∧E.get 2= .pv .ma∧E.get 3= .pv .ma∧E.get 4= .pv (.bool false)):=fun p hp st h=> .inl ⟨p,hp,by rw[h]⟩
 generalize hQQ:(fun r:Ex×St=>_)=QQ
 generalize hzs:ib.map i64=zs at *
 have hc5z:=hc5 sets.length zs
 generalize hRz:Eb zs=Rz at *
 generalize hoF:Eb F=oF at *
 simp -implicitDefEqProofs only[SP,WP,oa,sevalprocAttr,-List.reduceReplicate,de,xb,e1,hse,hzz,hRz,hc5z,htk5,d50,d52,d53,d54,fa,Aa,AV.cut,pa,VH]
 refine za hl3 ?_
 rintro r (⟨p,E,hp,rfl,g1,g5,g10,g11,g12,g13⟩ | ⟨hp,E,H,rfl,g2,g3,g4⟩)
 ·have hpl:=hrl p hp
  have hld':=hld p.1.length p.2 hpl
  have hYr':=hYr p.2 hpl
  have hYt':=hYt p.2 hpl
  have hYl':=hYl p.2 hpl
  have hYa':=hYa p.2
  have hYp':=hYp p.2
  have hap':=hap p.1.length p.2
  generalize p.2.map i64=zp at *
  simp -implicitDefEqProofs only[SP,WP,oa,sevalprocAttr,-List.reduceReplicate,g1,g5,g10,g11,g12,g13,t2,hzz,hld',hYr',hYt',hYl',hYa',hYp',hap',f4,hc4,htk4,d40,d42,d43,fa,Aa,AV.cut,pa]
  subst hQQ
  exact hR1 p hp _ rfl
 ·simp -implicitDefEqProofs only[SP,WP,oa,sevalprocAttr,-List.reduceReplicate]
  subst hQQ
  exact .inr ⟨hp,E,H,rfl,g2,g3,g4⟩
end
end Go.AM.B1
namespace Go.AM.B1
open Go.AM Go.AM.So
attribute [local irreducible] Gd
theorem ZL {n:Nat} (h:n≤32) (i:Nat):(Kq n).toNat.testBit i=decide (i < n):=by
 rw[DE h,Int.toNat_natCast,Nat.testBit_two_pow_sub_one]
theorem dM {n:Nat} (h:n≤32):Ue (0,Kq n)= .agg (vc n):=by
 unfold Ue vc ec
 congr 2
 exact Wt fun i _=>ZL h i
set_option maxRecDepth 8000 in
theorem WW (call:Wa) {S:PV} {ss:List Lb} {es:List PV} (hS:eb S ss es) (hw:ss.length≤32) (h8:∀ s∈ss,s.parts.length≤8) (hne:∀ s∈ss,0 < s.parts.length) (nl:Bool) (k0:Nat) (F:List PV):
 Gd (fun r=>(∃ p E,Ig ss 64 (Jg ss,[])=some p∧p.2.length=p.1.length∧0 < p.2.length∧r=(.exit 4,⟨E,[.tok 2048 k0 nl,Eb F,.tok 33 p.1.length false,.tok 256 p.2.length p.2.isEmpty]⟩)∧E.get 10= .uq 2 false 33 (p.1.map Ue)∧E.get 11= .uq 3 p.2.isEmpty 256 (p.2.map ei))∨
  (Ig ss 64 (Jg ss,[])=none∧∃ E H,r=(.ret,⟨E,H⟩)∧E.get 2= .pv .ma∧E.get 3= .pv .ma∧E.get 4= .pv (.bool false)))
  (ab (ga (ua call de) (fa 4 [1,5,10,11,12])) qa ⟨VH S nl true (Ze ss) ((Jg ss).map Ue) [] 0,[.tok 2048 k0 nl,Eb F,.tok 33 1 false,.tok 256 0 true]⟩):=by
 refine za (Qq (g:=ga (ua call de) (fa 4 [1,5,10,11,12]))
  (fun k t=>∃ (sets:List Al) (rs:List (List Int)),t=⟨VH S nl rs.isEmpty (Ze ss) (sets.map Ue) (rs.map ei) rs.length,[.tok 2048 k0 nl,Eb F,.tok 33 sets.length false,.tok 256 rs.length rs.isEmpty]⟩∧k+rs.length=64∧pn ss sets∧rs.length≤sets.length∧0 < sets.length∧Ig ss 64 (Jg ss,[])=Ig ss k (sets,rs))
  qa 64 _ (by unfold qa;omega) ⟨Jg ss,[],rfl,rfl,Nz hw hne,by simp,by simp[Jg],rfl⟩ ?_) (fun r h=>h.2)
 rintro k t ⟨sets,rs,rfl,hk,Ba,hle,hpos,hs⟩
 cases ha:sets[rs.length]? with
 |some a=>
  have hlt:=(List.getElem?_eq_some_iff.1 ha).1
  have hl64:=Ba.1
  obtain⟨k',rfl⟩:∃ k',k=k'+1:=⟨k - 1,by omega⟩
  refine za (LF call hS hw h8 nl k0 F ha Ba) ?_
  rintro r (⟨p,hp,rfl⟩ | ⟨hp,E,H,rfl,g2,g3,g4⟩)
  ·obtain⟨q1,⟨t,q2⟩,q3⟩:=Cu hw (List.range 256) (sets,ib) p Ba ha hp
   simp only at q2
   have hse:(rs++[p.2]).isEmpty=false:=by cases rs <;> rfl
   have hle2:(rs++[p.2]).length=rs.length+1:=by simp
   refine⟨k',by omega,p.1,rs++[p.2],?_,by rw[hle2];omega,q1,?_,?_,?_⟩
   ·rw[hse,hle2]
   ·rw[hle2,q2,List.length_append];omega
   ·rw[q2,List.length_append];omega
   ·rw[hs,lu ha hp]
  ·exact .inr ⟨by rw[hs,Hu ha hp],E,H,rfl,g2,g3,g4⟩
 |none=>
  have hge:sets.length≤rs.length:=by
   rcases Nat.lt_or_ge rs.length sets.length with h | h
   ·rw[List.getElem?_eq_getElem h] at ha;cases ha
   ·exact h
  rw[fu (r:=(sets,rs)) ha] at hs
  have e1:decide ((rs.length:Int) < (sets.length:Int))=false:=Ga (by omega)
  have hse:(sets.map Ue).length=sets.length:=List.length_map _
  have hfin:∀ E,E.get 10= .uq 2 false 33 (sets.map Ue)→E.get 11= .uq 3 rs.isEmpty 256 (rs.map ei)→
   LQ (fun k t=>∃ (sets:List Al) (rs:List (List Int)),t=⟨VH S nl rs.isEmpty (Ze ss) (sets.map Ue) (rs.map ei) rs.length,[.tok 2048 k0 nl,Eb F,.tok 33 sets.length false,.tok 256 rs.length rs.isEmpty]⟩∧k+rs.length=64∧pn ss sets∧rs.length≤sets.length∧0 < sets.length∧Ig ss 64 (Jg ss,[])=Ig ss k (sets,rs))
    (fun r=>(∃ p E,Ig ss 64 (Jg ss,[])=some p∧p.2.length=p.1.length∧0 < p.2.length∧r=(.exit 4,⟨E,[.tok 2048 k0 nl,Eb F,.tok 33 p.1.length false,.tok 256 p.2.length p.2.isEmpty]⟩)∧E.get 10= .uq 2 false 33 (p.1.map Ue)∧E.get 11= .uq 3 p.2.isEmpty 256 (p.2.map ei))∨
    (Ig ss 64 (Jg ss,[])=none∧∃ E H,r=(.ret,⟨E,H⟩)∧E.get 2= .pv .ma∧E.get 3= .pv .ma∧E.get 4= .pv (.bool false))) k
    (.exit 4,⟨E,[.tok 2048 k0 nl,Eb F,.tok 33 sets.length false,.tok 256 rs.length rs.isEmpty]⟩):=fun E g10 g11=> .inl ⟨(sets,rs),E,hs,by simp only;omega,by simp only;omega,rfl,g10,g11⟩
  generalize LQ _ _ k=QQ at hfin ⊢
  generalize Eb F=oF at *
  generalize sets.map Ue=se at *
  generalize rs.map ei=re at *
  generalize Ze ss=os at *
  simp -implicitDefEqProofs only[SX,sevalprocAttr,-List.reduceReplicate,de,e1,hse,VH]
  exact hfin _ (by simp[Tr.aa]) (by simp[Tr.aa])
set_option maxRecDepth 8000 in
theorem JJ {S:PV} {ss:List Lb} {es:List PV} (hS:eb S ss es) (Ba:Tb ss):
 (∀ p,Ig ss 64 (Jg ss,[])=some p→qf [.agg [S]]=some (.mc [.lit 33 (p.1.map Ue),.lit 256 (p.2.map ei),.bool true])∧p.2.length=p.1.length)∧
 (Ig ss 64 (Jg ss,[])=none→qf [.agg [S]]=some (.mc [.ma,.ma,.bool false])):=by
 have hw:=Ba.len
 have h8:∀ s∈ss,s.parts.length≤8:=fun s hs=>(Ba.Xo s hs).hi
 have ln:=hS.Vb
 have hS1:(AV.pv S).one=true:=by rcases hS.is with⟨h,_⟩ | h <;> rw[h] <;> rfl
 have hl0:=uR (Ea (fun _=>none) 8) hS hw h8
 have hl2:=fun nl=>WW (Ea (fun _=>none) 8) hS hw h8 Ba.ne nl ss.length (vc ss.length)
 have hs0:(Jg ss).map Ue=[.agg (vc ss.length)]:=by rw[Jg,List.map_singleton,dM hw]
 rw[hs0] at hl2
 have hz:=kV
 have zl:=Ag 0 fun _=>false
 have hf0:vc 0=ec 0 fun _=>false:=by unfold vc;congr 1
 have st0:Oa [.tok 2048 0 true,Eb (ec 0 fun _=>false)] 33 (.ptr 1 0) (.pv (.agg (ec 0 fun _=>false)))=some [.tok 2048 0 true,Eb (ec 0 fun _=>false)]:=Qp (id:=1) rfl zl zl (Vv _ _)
 have hcl2:Ra (na 2) [.tok 2048 0 true,Eb (ec 0 fun _=>false)]=some [.tok 2048 0 true,Eb (ec 0 fun _=>false)]:=by
  have c0:∀ k n nl,na 2 (.tok k n nl)=some (.tok k n nl):=fun k n nl=>rfl
  simp only[Ra,c0,Mg,Option.bind_some,Option.map_some]
 have htk2:∀ a b:ba,([a,b]:List ba).take 2=[a,b]:=fun a b=>rfl
 have htk4:∀ a b c d:ba,([a,b,c,d]:List ba).take 4=[a,b,c,d]:=fun a b c d=>rfl
 have hcl4:∀ nl,Ra (na 4) [.tok 2048 ss.length nl,Eb (vc ss.length),.tok 33 1 false,.tok 256 0 true]=some [.tok 2048 ss.length nl,Eb (vc ss.length),.tok 33 1 false,.tok 256 0 true]:=by
  intro nl
  have c0:∀ k n nl,na 4 (.tok k n nl)=some (.tok k n nl):=fun k n nl=>rfl
  simp only[Ra,c0,Mg,Option.bind_some,Option.map_some]
 have hld:∀ nl,xa [.tok 2048 ss.length nl,Eb (vc ss.length)] true 33 (.ptr 1 0)=some (.pv (.agg (vc ss.length))):=fun nl=>gm (id:=1) rfl (Ag _ _)
 have fz:=uf (ec 0 fun _=>false)
 have hYl:((vc ss.length).map AV.pv).length=33:=by rw[List.length_map,Ag]
 have hYr:oa ((ec 0 fun _=>false).map AV.pv++[]) 0 ((vc ss.length).map AV.pv)=(vc ss.length).map AV.pv:=ju (by rw[Ag,Ag])
 have hYa:=PI (Vv 0 fun j=>decide (j < ss.length))
 have hYp:=uf (vc ss.length)
 have hYt:(vc ss.length).take 33=vc ss.length:=List.take_of_length_le (by rw[Ag];exact Nat.le_refl _)
 have f4:(33≤((ec 0 fun _=>false).map AV.pv++[]).length)=True:=eq_true (by rw[List.append_nil,List.length_map,zl];exact Nat.le_refl _)
 have d20:(0 < 2)=True:=by simp
 have d21:(1 < 2)=True:=by simp
 have d40:(0 < 4)=True:=by simp
 have d42:(2 < 4)=True:=by simp
 have d43:(3 < 4)=True:=by simp
 have g1:(0 < 2048)=True:=by simp
 have g2:(0 < 256)=True:=by simp
 rw[hf0] at hl0
 have key:Gd (fun r=>(∃ p,Ig ss 64 (Jg ss,[])=some p∧r=PV.mc [.lit 33 (p.1.map Ue),.lit 256 (p.2.map ei),.bool true]∧p.2.length=p.1.length)∨(Ig ss 64 (Jg ss,[])=none∧r=PV.mc [.ma,.ma,.bool false])) (qf [.agg [S]]):=by
  generalize hQQ:(fun r:PV=>_)=QQ
  change (((vc ss.length).map AV.pv).all AV.one)=true at hYa
  generalize hzs:(ec 0 fun _=>false)=zs at *
  generalize hfs:vc ss.length=fs at *
  generalize hozs:Eb zs=oz at *
  generalize hofs:Eb fs=of at *
  simp -implicitDefEqProofs only[qf,SP,WP,oa,sevalprocAttr,-List.reduceReplicate,gk,hS1,hz,hozs,fz,st0,Be,g1,g2,hcl2,htk2,d20,d21,xb,fa,Aa,AV.cut,pa]
  refine za hl0 ?_
  rintro r ⟨E,nl,rfl,k1,k5,k6⟩
  have hl2':=hl2 nl
  have hcl4':=hcl4 nl
  have hld':=hld nl
  simp -implicitDefEqProofs only[SP,WP,oa,sevalprocAttr,-List.reduceReplicate,k1,k5,k6,hld',hz,hYl,hYr,hYa,hYp,hYt,f4,Be,g1,g2,hcl4',htk4,d40,d42,d43,xb,fa,Aa,AV.cut,pa]
  refine za hl2' ?_
  rintro r (⟨p,E,hp,hpl,hpp,rfl,k10,k11⟩ | ⟨hp,E,H,rfl,k2,k3,k4⟩)
  ·have hie:p.2.isEmpty=false:=by
    cases hh:p.2 with
    |nil=>rw[hh] at hpp;simp at hpp
    |cons a l=>rfl
   rw[hie] at k11
   simp -implicitDefEqProofs only[SP,WP,oa,sevalprocAttr,-List.reduceReplicate,k10,k11]
   subst hQQ
   exact .inl ⟨p,hp,rfl,hpl⟩
  ·simp -implicitDefEqProofs only[SP,WP,oa,sevalprocAttr,-List.reduceReplicate,k2,k3,k4]
   subst hQQ
   exact .inr ⟨hp,rfl⟩
 obtain⟨r,h1,h2⟩:=xc key
 constructor
 ·intro p hp
  rcases h2 with⟨p',hp',rfl,hl⟩ | ⟨hn,_⟩
  ·rw[hp] at hp';injection hp' with hp';subst hp';exact⟨h1,hl⟩
  ·rw[hp] at hn;cases hn
 ·intro hn
  rcases h2 with⟨p',hp',_,_⟩ | ⟨_,rfl⟩
  ·rw[hn] at hp';cases hp'
  ·exact h1
end Go.AM.B1
namespace Go.AM.B1
open Go.AM Go.AM.So
attribute [local irreducible] Gd
def owns (n:Nat):List AV:=(List.range n).map fun k=> .own (2 * k+1) n
def ZA (n:Nat) (f:Nat→Bool) (fl:Nat):ba:= .seq 1 false ((Ff n f).map .pv) fl false
structure Er (H:List ba) (n:Nat) (f:Nat→Nat→Bool):Prop where
 len:H.length=2 * n+1
 hd:∃ nl,nl=false∧H[0]? =some (.seq 1 false (owns n) 0 nl)
 row:∀ k,k < n→∃ fl,fl≤n∧H[2 * k+1]? =some (ZA n (f k) fl)
 SI:Gg H
theorem rF (n:Nat):(owns n).length=n:=by rw[owns,List.length_map,List.length_range]
theorem DT {n k:Nat} (h:k < n):(owns n)[k]? =some (.own (2 * k+1) n):=by
 rw[owns,List.getElem?_map,List.getElem?_range h];rfl
theorem ZK (n:Nat) (f:Nat→Bool) (fl m:Nat):na m (ZA n f fl)=some (ZA n f fl):=by
 have:((Ff n f).map AV.pv).all (AV.Je m deep)=true:=by
  rw[List.all_eq_true]
  intro v hv
  obtain⟨p,_,rfl⟩:=List.mem_map.1 hv
  rfl
 simp[na,ZA,this]
theorem MN (m:Nat) (g:Nat→Bool) {j:Nat} (hj:j < m) (b:Bool):(Ff m g).set j (.bool b)=Ff m fun x=>if x=j then b else g x:=by
 apply List.ext_getElem
 ·rw[List.length_set,yg,yg]
 ·intro k h1 h2
  rw[List.getElem_set,zC,zC]
  by_cases hk:j=k
  ·subst hk;rw[if_pos rfl,if_pos rfl]
  ·rw[if_neg hk,if_neg (Ne.symm hk)]
section
variable {H:List ba} {n:Nat} {f:Nat→Nat→Bool} (h:Er H n f)
include h
theorem Er.cut:Ra (na (2 * n+1)) (H.take (2 * n+1))=some H:=by
 rw[← h.len,List.take_length];exact Gg.cut h.SI
theorem Er.i0 {i:Nat} (hi:i < n):wa H 1 (.own 0 n) (i:Int)=some (.Gc 0 n i):=by
 obtain⟨nl,_,h0⟩:=h.hd
 simp only[wa,h0]
 rw[if_pos (by refine⟨trivial,?_,?_⟩ <;> first | (unfold Ia;omega) | (unfold Qh;rw[rF];omega))]
 simp
theorem Er.l0 {i:Nat} (hi:i < n):xa H false 1 (.Gc 0 n i)=some (.own (2 * i+1) n):=by
 obtain⟨nl,_,h0⟩:=h.hd
 simp only[xa,h0]
 rw[if_pos (rF n)]
 simp only[bh,Bool.false_eq_true,if_false]
 exact DT hi
theorem Er.i1 {i j:Nat} (hi:i < n) (hj:j < n):wa H 1 (.own (2 * i+1) n) (j:Int)=some (.Gc (2 * i+1) n j):=by
 obtain⟨fl,hf,h0⟩:=h.row i hi
 simp only[wa,h0,ZA]
 rw[if_pos (by refine⟨trivial,?_,?_⟩ <;> first | (unfold Ia;omega) | (unfold Qh;rw[List.length_map,yg];omega))]
 simp
theorem Er.l1 {i j:Nat} (hi:i < n) (hj:j < n):xa H false 1 (.Gc (2 * i+1) n j)=some (.pv (.bool (f i j))):=by
 obtain⟨fl,hf,h0⟩:=h.row i hi
 simp only[xa,h0,ZA]
 rw[if_pos (by rw[List.length_map,yg])]
 simp only[bh,Bool.false_eq_true,if_false,List.getElem?_map,Dz _ hj,Option.map_some]
end
theorem Er.store {H:List ba} {n:Nat} {f:Nat→Nat→Bool} (h:Er H n f) {i j:Nat} (hi:i < n) (hj:j < n):
 ∃ H',Oa H 1 (.Gc (2 * i+1) n j) (.pv (.bool true))=some H'∧Er H' n (fun a b=>if a=i∧b=j then true else f a b):=by
 obtain⟨fl,hf,h0⟩:=h.row i hi
 have hc:(AV.pv (.bool true)).cells=[.pv (.bool true)]:=rfl
 refine⟨H.set (2 * i+1) (ZA n (fun b=>if b=j then true else f i b) n),?_,?_⟩
 ·simp only[Oa,h0,ZA,hc]
  rw[if_pos ⟨rfl,rfl⟩,if_pos ⟨by rw[List.length_map,yg],by show j+1≤n;omega⟩,oa,oa,←List.map_set,MN n _ hj]
 ·refine⟨by rw[List.length_set,h.len],?_,?_,?_⟩
  ·obtain⟨nl,hnl,h1⟩:=h.hd
   exact⟨nl,hnl,by rw[List.getElem?_set_ne (by omega)];exact h1⟩
  ·intro k hk
   by_cases hki:k=i
   ·subst hki
    refine⟨n,Nat.le_refl _,?_⟩
    rw[List.getElem?_set_self (by rw[h.len];omega)]
    have:(fun b=>if k=k∧b=j then true else f k b)=fun b=>if b=j then true else f k b:=by funext b;simp only[true_and]
    show _=some (ZA n (fun b=>if k=k∧b=j then true else f k b) n)
    rw[this]
   ·obtain⟨fl',hf',h1⟩:=h.row k hk
    refine⟨fl',hf',?_⟩
    have:(fun b=>if k=i∧b=j then true else f k b)=f k:=by funext b;rw[if_neg (fun h=>hki h.1)]
    rw[List.getElem?_set_ne (by omega),h1]
    show _=some (ZA n (fun b=>if k=i∧b=j then true else f k b) fl')
    rw[this]
  ·intro m hm o ho
   rw[List.length_set] at hm
   rcases List.mem_or_eq_of_mem_set ho with h1 | h1
   ·exact h.SI m hm o h1
   ·subst h1;exact ZK _ _ _ _
def Cy (f:Nat→Nat→Bool) (i j a b:Nat):Bool:=if (a=i∧b=j)∨(a=j∧b=i) then true else f a b
theorem gW (f:Nat→Nat→Bool) (i j:Nat):(fun a b=>if a=j∧b=i then true else (if a=i∧b=j then true else f a b))=Cy f i j:=by
 funext a b
 unfold Cy
 by_cases h1:a=i∧b=j
 ·by_cases h2:a=j∧b=i
  ·rw[if_pos h2,if_pos (.inl h1)]
  ·rw[if_neg h2,if_pos h1,if_pos (.inl h1)]
 ·by_cases h2:a=j∧b=i
  ·rw[if_pos h2,if_pos (.inr h2)]
  ·rw[if_neg h2,if_neg h1,if_neg (by intro h;rcases h with h | h <;> contradiction)]
def vg (C:List (List Int)) (i x:Nat):Int:=(C.getD i []).getD x 0
def Bk (C:List (List Int)) (f:Nat→Nat→Bool) (i j x:Nat):Bool:=
 ((vg C i x != vg C j x)&&(decide (vg C i x < 0)||decide (vg C j x < 0)))||(decide (vg C i x≥0)&&decide (vg C j x≥0)&&f (vg C i x).toNat (vg C j x).toNat)
structure gJ (C:List (List Int)):Prop where
 row:∀ r∈C,r.length=256
 lt:∀ r∈C,∀ v∈r,v < (C.length:Int)
 sz:C.length≤64
theorem gJ.get {C:List (List Int)} (h:gJ C) {i x:Nat} (hi:i < C.length) (hx:x < 256):C[i][x]? =some (vg C i x)∧vg C i x < (C.length:Int):=by
 have hm:=List.getElem_mem hi
 have hl:=h.row _ hm
 have hg:C.getD i []=C[i]:=by rw[List.getD_eq_getElem?_getD,List.getElem?_eq_getElem hi];rfl
 have h1:C[i][x]? =some (vg C i x):=by
  unfold vg
  rw[hg,List.getD_eq_getElem?_getD,List.getElem?_eq_getElem (by omega)];rfl
 exact⟨h1,h.lt _ hm _ (List.mem_of_getElem? h1)⟩
theorem gJ.sd {C:List (List Int)} (h:gJ C) {i:Nat} (hi:i < C.length) (H:List ba):wa H 256 (.pv (.lit 256 (C.map ei))) (i:Int)=some (.pv (.rp (C[i].map i64) 0)):=by
 simp only[wa]
 rw[if_pos (by refine⟨trivial,?_⟩;unfold Ia;simp;omega)]
 simp[hi,ei,PV.cells]
theorem gJ.load {C:List (List Int)} (h:gJ C) {i x:Nat} (hi:i < C.length) (hx:x < 256) (H:List ba):xa H false 1 (.pv (.rp (C[i].map i64) x))=some (.pv (i64 (vg C i x))):=
 Wy (by rw[List.getElem?_map,(h.get hi hx).1];rfl) H
abbrev Oy (v:PV) (n i j x:Int) (g:Bool):Tr:=((((((Tr.lf.set 9 (.pv (i64 x))).set 8 (.pv (i64 j))).set 7 (.pv (i64 i))).set 6 (.pv (.bool g))).set 4 (.own 0 n.toNat)).set 3 (.pv (i64 n))).set 0 (.pv v)
section
variable (call:Wa) {C:List (List Int)} (hC:gJ C) {i j:Nat} (hi:i < C.length) (hj:j < C.length)
include hC hi hj
theorem aF {H:List ba} {f:Nat→Nat→Bool} (hM:Er H C.length f) (g:Bool) {x:Nat} (hx:x < 256):
 Gd (fun r=>(f i j=true∧∃ E,r=(.exit 8,⟨E,H⟩)∧E.get 0= .pv (.lit 256 (C.map ei))∧E.get 3= .pv (i64 C.length)∧E.get 4= .own 0 C.length∧E.get 6= .pv (.bool g)∧E.get 7= .pv (i64 i)∧E.get 8= .pv (i64 j))∨
  (f i j=false∧Bk C f i j x=false∧r=(.norm,⟨Oy (.lit 256 (C.map ei)) C.length i j (x+1:Nat) g,H⟩))∨
  (f i j=false∧Bk C f i j x=true∧∃ H',Er H' C.length (Cy f i j)∧r=(.norm,⟨Oy (.lit 256 (C.map ei)) C.length i j (x+1:Nat) true,H'⟩)))
  (ga (ua call Ya) (fa (2 * C.length+1) [0,3,4,6,7,8,9]) ⟨Oy (.lit 256 (C.map ei)) C.length i j x g,H⟩):=by
 have hcut:=hM.cut
 have a0:=hM.i0 hi
 have a1:=hM.l0 hi
 have b0:=hM.i0 hj
 have b1:=hM.l0 hj
 have a2:=hM.i1 hi hj
 have a3:=hM.l1 hi hj
 obtain⟨H1,s1,hM1⟩:=hM.store hi hj
 obtain⟨H2,s2,hM2⟩:=hM1.store hj hi
 rw[gW] at hM2
 have b2:=hM1.i1 hj hi
 have hcut2:=hM2.cut
 have c0:=fun H=>hC.sd hi H
 have c1:=fun H=>hC.load hi hx H
 have d0:=fun H=>hC.sd hj H
 have d1:=fun H=>hC.load hj hx H
 have hva:=(hC.get hi hx).2
 have hvb:=(hC.get hj hx).2
 have hsz:=hC.sz
 have e1:decide ((x:Int) < 256)=true:=Fa (by omega)
 have hq:Ia (x:Int) 256:=by unfold Ia;omega
 have t1:((x:Int)).toNat=x:=by simp
 have m1:x * 1=x:=by omega
 have z1:0+x=x:=by omega
 have t2:IntKind.i64.wrap ((x:Int)+1)=((x+1:Nat):Int):=Ca (by omega)
 have tn:((C.length:Int)).toNat=C.length:=by simp
 have hz:(0 < 2 * C.length+1)=True:=by simp
 have htl:Bk C f i j x=(((vg C i x != vg C j x)&&(decide (vg C i x < 0)||decide (vg C j x < 0)))||(decide (vg C i x≥0)&&decide (vg C j x≥0)&&f (vg C i x).toNat (vg C j x).toNat)):=rfl
 have hun:0≤vg C i x→0≤vg C j x→wa H 1 (.own 0 C.length) (vg C i x)=some (.Gc 0 C.length (vg C i x).toNat)∧xa H false 1 (.Gc 0 C.length (vg C i x).toNat)=some (.own (2 * (vg C i x).toNat+1) C.length)∧
  wa H 1 (.own (2 * (vg C i x).toNat+1) C.length) (vg C j x)=some (.Gc (2 * (vg C i x).toNat+1) C.length (vg C j x).toNat)∧xa H false 1 (.Gc (2 * (vg C i x).toNat+1) C.length (vg C j x).toNat)=some (.pv (.bool (f (vg C i x).toNat (vg C j x).toNat))):=by
  intro h1 h2
  have k1:=hM.i0 (i:=(vg C i x).toNat) (by omega)
  have k2:=hM.l0 (i:=(vg C i x).toNat) (by omega)
  have k3:=hM.i1 (i:=(vg C i x).toNat) (j:=(vg C j x).toNat) (by omega) (by omega)
  have k4:=hM.l1 (i:=(vg C i x).toNat) (j:=(vg C j x).toNat) (by omega) (by omega)
  rw[Int.toNat_of_nonneg h1] at k1
  rw[Int.toNat_of_nonneg h2] at k3
  exact⟨k1,k2,k3,k4⟩
 generalize vg C i x=a at *
 generalize vg C j x=b at *
 generalize hl:(PV.lit 256 (C.map ei))=L at *
 have hR0:f i j=true→∀ E,E.get 0= .pv L→E.get 3= .pv (i64 C.length)→E.get 4= .own 0 C.length→E.get 6= .pv (.bool g)→E.get 7= .pv (i64 i)→E.get 8= .pv (i64 j)→
  ((f i j=true∧∃ E',(Ex.exit 8,(⟨E,H⟩:St))=(.exit 8,⟨E',H⟩)∧E'.get 0= .pv L∧E'.get 3= .pv (i64 C.length)∧E'.get 4= .own 0 C.length∧E'.get 6= .pv (.bool g)∧E'.get 7= .pv (i64 i)∧E'.get 8= .pv (i64 j))∨
   (f i j=false∧Bk C f i j x=false∧(Ex.exit 8,(⟨E,H⟩:St))=(.norm,⟨Oy L C.length i j (x+1:Nat) g,H⟩))∨
   (f i j=false∧Bk C f i j x=true∧∃ H',Er H' C.length (Cy f i j)∧(Ex.exit 8,(⟨E,H⟩:St))=(.norm,⟨Oy L C.length i j (x+1:Nat) true,H'⟩))):=
  fun h E k0 k3 k4 k6 k7 k8=> .inl ⟨h,E,rfl,k0,k3,k4,k6,k7,k8⟩
 have hR1:f i j=false→Bk C f i j x=false→∀ s,s=(⟨Oy L C.length i j (x+1:Nat) g,H⟩:St)→
  ((f i j=true∧∃ E',(Ex.norm,s)=(.exit 8,⟨E',H⟩)∧E'.get 0= .pv L∧E'.get 3= .pv (i64 C.length)∧E'.get 4= .own 0 C.length∧E'.get 6= .pv (.bool g)∧E'.get 7= .pv (i64 i)∧E'.get 8= .pv (i64 j))∨
   (f i j=false∧Bk C f i j x=false∧(Ex.norm,s)=(.norm,⟨Oy L C.length i j (x+1:Nat) g,H⟩))∨
   (f i j=false∧Bk C f i j x=true∧∃ H',Er H' C.length (Cy f i j)∧(Ex.norm,s)=(.norm,⟨Oy L C.length i j (x+1:Nat) true,H'⟩))):=
  fun h1 h2 s h3=> .inr (.inl ⟨h1,h2,by rw[h3]⟩)
 have hR2:f i j=false→Bk C f i j x=true→∀ s,s=(⟨Oy L C.length i j (x+1:Nat) true,H2⟩:St)→
  ((f i j=true∧∃ E',(Ex.norm,s)=(.exit 8,⟨E',H⟩)∧E'.get 0= .pv L∧E'.get 3= .pv (i64 C.length)∧E'.get 4= .own 0 C.length∧E'.get 6= .pv (.bool g)∧E'.get 7= .pv (i64 i)∧E'.get 8= .pv (i64 j))∨
   (f i j=false∧Bk C f i j x=false∧(Ex.norm,s)=(.norm,⟨Oy L C.length i j (x+1:Nat) g,H⟩))∨
   (f i j=false∧Bk C f i j x=true∧∃ H',Er H' C.length (Cy f i j)∧(Ex.norm,s)=(.norm,⟨Oy L C.length i j (x+1:Nat) true,H'⟩))):=
  fun h1 h2 s h3=> .inr (.inr ⟨h1,h2,H2,hM2,by rw[h3]⟩)
 generalize hQQ:(fun r:Ex×St=>_)=QQ
 generalize hu:f i j=u at *
 cases u with
 |true=>
  simp -implicitDefEqProofs only[SX,sevalprocAttr,Ya,e1,tn,a0,a1,a2,a3,Oy]
  subst hQQ
  exact hR0 rfl _ (by simp[Tr.aa]) (by simp[Tr.aa]) (by simp[Tr.aa]) (by simp[Tr.aa]) (by simp[Tr.aa]) (by simp[Tr.aa])
 |false=>
  by_cases hab:a=b
  ·have ne1:(a != b)=false:=by simp[hab]
   subst hab
   by_cases ha:a≥0
   ·have da:=Fa ha
    have da':decide (a < 0)=false:=Ga (by omega)
    obtain⟨k1,k2,k3,k4⟩:=hun ha ha
    rw[ne1,da,Bool.false_and,Bool.false_or,Bool.true_and,Bool.true_and] at htl
    generalize hw:f a.toNat a.toNat=w at *
    cases w with
    |true=>
     simp -implicitDefEqProofs only[SX,sevalprocAttr,Ya,e1,tn,a0,a1,a2,a3,b0,b1,b2,c0,c1,d0,d1,eq_true hq,t1,m1,z1,lj,ne1,da,k1,k2,k3,k4,s1,s2,t2,hcut2,hz,fa,Aa,AV.cut,pa,Oy]
     subst hQQ
     exact hR2 rfl htl _ (by simp only[Oy,tn])
    |false=>
     simp -implicitDefEqProofs only[SX,sevalprocAttr,Ya,e1,tn,a0,a1,a2,a3,b0,b1,b2,c0,c1,d0,d1,eq_true hq,t1,m1,z1,lj,ne1,da,k1,k2,k3,k4,t2,hcut,hz,fa,Aa,AV.cut,pa,Oy]
     subst hQQ
     exact hR1 rfl htl _ (by simp only[Oy,tn])
   ·have da:=Ga ha
    rw[ne1,da,Bool.false_and,Bool.false_or,Bool.false_and,Bool.false_and] at htl
    simp -implicitDefEqProofs only[SX,sevalprocAttr,Ya,e1,tn,a0,a1,a2,a3,b0,b1,b2,c0,c1,d0,d1,eq_true hq,t1,m1,z1,lj,ne1,da,t2,hcut,hz,fa,Aa,AV.cut,pa,Oy]
    subst hQQ
    exact hR1 rfl htl _ (by simp only[Oy,tn])
  ·have ne1:(a != b)=true:=by simp[hab]
   by_cases ha:a < 0
   ·have da:=Fa ha
    rw[ne1,da] at htl
    simp only[Bool.true_and,Bool.true_or] at htl
    simp -implicitDefEqProofs only[SX,sevalprocAttr,Ya,e1,tn,a0,a1,a2,a3,b0,b1,b2,c0,c1,d0,d1,eq_true hq,t1,m1,z1,lj,ne1,da,s1,s2,t2,hcut2,hz,fa,Aa,AV.cut,pa,Oy]
    subst hQQ
    exact hR2 rfl htl _ (by simp only[Oy,tn])
   ·have da:=Ga ha
    have da':decide (a≥0)=true:=Fa (by omega)
    by_cases hb:b < 0
    ·have db:=Fa hb
     rw[ne1,da,db] at htl
     simp only[Bool.true_and,Bool.false_or,Bool.true_or] at htl
     simp -implicitDefEqProofs only[SX,sevalprocAttr,Ya,e1,tn,a0,a1,a2,a3,b0,b1,b2,c0,c1,d0,d1,eq_true hq,t1,m1,z1,lj,ne1,da,db,s1,s2,t2,hcut2,hz,fa,Aa,AV.cut,pa,Oy]
     subst hQQ
     exact hR2 rfl htl _ (by simp only[Oy,tn])
    ·have db:=Ga hb
     have db':decide (b≥0)=true:=Fa (by omega)
     obtain⟨k1,k2,k3,k4⟩:=hun (by omega) (by omega)
     rw[ne1,da,db,da',db'] at htl
     simp only[Bool.true_and,Bool.false_or] at htl
     generalize hw:f a.toNat b.toNat=w at *
     cases w with
     |true=>
      simp -implicitDefEqProofs only[SX,sevalprocAttr,Ya,e1,tn,a0,a1,a2,a3,b0,b1,b2,c0,c1,d0,d1,eq_true hq,t1,m1,z1,lj,ne1,da,db,da',db',k1,k2,k3,k4,s1,s2,t2,hcut2,hz,fa,Aa,AV.cut,pa,Oy]
      subst hQQ
      exact hR2 rfl htl _ (by simp only[Oy,tn])
     |false=>
      simp -implicitDefEqProofs only[SX,sevalprocAttr,Ya,e1,tn,a0,a1,a2,a3,b0,b1,b2,c0,c1,d0,d1,eq_true hq,t1,m1,z1,lj,ne1,da,db,da',db',k1,k2,k3,k4,t2,hcut,hz,fa,Aa,AV.cut,pa,Oy]
      subst hQQ
      exact hR1 rfl htl _ (by simp only[Oy,tn])
end
end Go.AM.B1
namespace Go.AM.B1
open Go.AM Go.AM.So
def zy (ss:List Lb) (sets:List Al) (a:Al) (x:Nat) (v:Int):Prop:=
 (Rf (Dl ss a x) ss.length=false∧v= -2)∨
 (Rf (Dl ss a x) ss.length=true∧Rf (cq ss a x) ss.length=true∧v= -1)∨
 (Rf (Dl ss a x) ss.length=true∧Rf (cq ss a x) ss.length=false∧∃ k m:Nat,v=(k:Int)∧zB ss a x m∧sets[k]? =some (a.1+1,(m:Int)))
theorem zy.mono {ss:List Lb} {sets t:List Al} {a:Al} {x:Nat} {v:Int} (h:zy ss sets a x v):zy ss (sets++t) a x v:=by
 rcases h with h | h | ⟨h1,h2,k,m,h3,h4,h5⟩
 ·exact .inl h
 ·exact .inr (.inl h)
 ·refine .inr (.inr ⟨h1,h2,k,m,h3,h4,?_⟩)
  rw[List.getElem?_append_left (List.getElem?_eq_some_iff.1 h5).1];exact h5
theorem mL {a:Al}:∀ {l:List Al} {k i:Nat},cm a l k=some i→k≤i∧l[i - k]? =some a
 |b::l,k,i,h=>by
  simp only[cm] at h
  split at h
  ·next he=>injection h with h;subst h;subst he;exact⟨Nat.le_refl _,by simp⟩
  ·obtain⟨h1,h2⟩:=mL h
   refine⟨by omega,?_⟩
   rw[show i - k=(i - (k+1))+1 by omega,List.getElem?_cons_succ];exact h2
structure gM (sets:List Al) (d:Nat):Prop where
 up:∀ (p q:Nat) a b,p≤q→sets[p]? =some a→sets[q]? =some b→a.1≤b.1
 top:∀ (q:Nat) b,sets[q]? =some b→b.1≤d+1
theorem gM.push {sets:List Al} {d:Nat} (h:gM sets d) (e:Int):gM (sets++[(d+1,e)]) d:=by
 have hg:∀ (q:Nat) b,(sets++[(d+1,e)])[q]? =some b→(q < sets.length∧sets[q]? =some b)∨(q=sets.length∧b=(d+1,e)):=by
  intro q b hb
  rcases Nat.lt_or_ge q sets.length with h1 | h1
  ·rw[List.getElem?_append_left h1] at hb;exact .inl ⟨h1,hb⟩
  ·rw[List.getElem?_append_right h1] at hb
   cases hq:q - sets.length with
   |zero=>rw[hq] at hb;simp at hb;exact .inr ⟨by omega,hb.symm⟩
   |succ n=>rw[hq] at hb;simp at hb
 refine⟨?_,?_⟩
 ·intro p q a b hpq ha hb
  rcases hg p a ha with⟨h1,h2⟩ | ⟨h1,h2⟩ <;> rcases hg q b hb with⟨h3,h4⟩ | ⟨h3,h4⟩
  ·exact h.up p q a b hpq h2 h4
  ·rw[h4];exact h.top p a h2
  ·omega
  ·rw[h2,h4];exact Nat.le_refl _
 ·intro q b hb
  rcases hg q b hb with⟨h3,h4⟩ | ⟨h3,h4⟩
  ·exact h.top q b h4
  ·rw[h4];exact Nat.le_refl _
theorem dR {ss:List Lb} (hw:ss.length≤32) {sets:List Al} {a:Al} (hba:SU a) {x:Nat} {p:List Al×Int} (h:Hg ss a x sets=some p) (hR:gM sets a.1):
 zy ss p.1 a x p.2∧gM p.1 a.1∧((p.1=sets)∨(p.1.length=sets.length+1∧p.2=(sets.length:Int))):=by
 obtain⟨m,hm⟩:=MT (x:=x) hba hw
 rw[hm.step sets] at h
 by_cases h1:Rf (Dl ss a x) ss.length=false
 ·rw[if_pos h1] at h
  injection h with h;subst h
  exact⟨.inl ⟨h1,rfl⟩,hR,.inl rfl⟩
 ·rw[if_neg h1] at h
  have h1':Rf (Dl ss a x) ss.length=true:=by simpa using h1
  by_cases h2:Rf (cq ss a x) ss.length=true
  ·rw[if_pos h2] at h
   injection h with h;subst h
   exact⟨.inr (.inl ⟨h1',h2,rfl⟩),hR,.inl rfl⟩
  ·rw[if_neg h2] at h
   have h2':Rf (cq ss a x) ss.length=false:=by simpa using h2
   cases hi:cm (a.1+1,(m:Int)) sets 0 with
   |some k=>
    rw[hi] at h
    injection h with h;subst h
    exact⟨.inr (.inr ⟨h1',h2',k,m,rfl,hm,(mL hi).2⟩),hR,.inl rfl⟩
   |none=>
    rw[hi] at h
    simp only at h
    split at h
    ·injection h with h;subst h
     refine⟨.inr (.inr ⟨h1',h2',sets.length,m,rfl,hm,by simp⟩),hR.push _,.inr ⟨by simp,rfl⟩⟩
    ·cases h
theorem FK {ss:List Lb} (hw:ss.length≤32) {a:Al} (hba:SU a) {i:Nat}:∀ (xs:List Nat) (r r':List Al×List Int),xs.Nodup→(∀ x∈xs,x < r.2.length)→pn ss r.1→r.1[i]? =some a→gM r.1 a.1→Pk ss a xs r=some r'→
 (∀ x∈xs,zy ss r'.1 a x (r'.2.getD x 0))∧(∀ y,y ∉ xs→r'.2.getD y 0=r.2.getD y 0)∧(∀ k,r.1.length≤k→k < r'.1.length→∃ x∈xs,r'.2.getD x 0=(k:Int))∧gM r'.1 a.1
 | [],r,r',_,_,_,_,hR,e=>by
   injection e with e;subst e
   exact⟨by simp,fun _ _=>rfl,fun k h1 h2=>by omega,hR⟩
 |x::xs,r,r',hnd,hlt,Ba,ha,hR,e=>by
  cases hst:Hg ss a x r.1 with
  |none=>rw[Tt hst] at e;cases e
  |some p=>
   rw[ft hst] at e
   obtain⟨s1,s2,s3⟩:=dR hw hba hst hR
   obtain⟨g1,t,g2⟩:=gE Ba ha hw hst
   rw[List.nodup_cons] at hnd
   have hi:=(List.getElem?_eq_some_iff.1 ha).1
   have hxl:=hlt x (by simp)
   obtain⟨k1,k2,k3,k4⟩:=FK hw hba xs (p.1,r.2.set x p.2) r' hnd.2 (fun y hy=>by rw[List.length_set];exact hlt y (by simp[hy])) g1 (by rw[g2,List.getElem?_append_left hi];exact ha) s2 e
   obtain⟨_,⟨t',q2⟩,_⟩:=Cu hw xs (p.1,r.2.set x p.2) r' g1 (by rw[g2,List.getElem?_append_left hi];exact ha) e
   simp only at q2
   have hx:r'.2.getD x 0=p.2:=by
    rw[k2 x hnd.1,List.getD_eq_getElem?_getD,List.getElem?_set_self hxl];rfl
   refine⟨?_,?_,?_,k4⟩
   ·intro y hy
    rcases List.mem_cons.1 hy with rfl | hy
    ·rw[hx,q2];exact s1.mono
    ·exact k1 y hy
   ·intro y hy
    rw[List.mem_cons,not_or] at hy
    rw[k2 y hy.2,List.getD_eq_getElem?_getD,List.getElem?_set_ne (Ne.symm hy.1),←List.getD_eq_getElem?_getD]
   ·intro k h1 h2
    rcases s3 with s3 | ⟨s3,s4⟩
    ·obtain⟨y,hy,h3⟩:=k3 k (by rw[s3];exact h1) h2
     exact⟨y,by simp[hy],h3⟩
    ·by_cases hk:k=r.1.length
     ·exact⟨x,by simp,by rw[hx,s4,hk]⟩
     ·obtain⟨y,hy,h3⟩:=k3 k (by simp only;omega) h2
      exact⟨y,by simp[hy],h3⟩
structure ml (ss:List Lb) (sets:List Al) (C:List (List Int)):Prop where
 ok:pn ss sets
 le:C.length≤sets.length
 first:sets[0]? =some (0,Kq ss.length)
 row:∀ r∈C,r.length=256
 step:∀ (k:Nat) a,k < C.length→sets[k]? =some a→∀ x,x < 256→zy ss sets a x (vg C k x)
 up:∀ (p q:Nat) a b,p≤q→sets[p]? =some a→sets[q]? =some b→a.1≤b.1
 top:∀ (k q:Nat) a b,k=C.length→sets[k]? =some a→sets[q]? =some b→b.1≤a.1+1
 reach:∀ k,0 < k→k < sets.length→∃ j x,j < k∧j < C.length∧x < 256∧vg C j x=(k:Int)
theorem bO {C:List (List Int)} {r:List Int} {k x:Nat} (hk:k < C.length):vg (C++[r]) k x=vg C k x:=by
 have:(C++[r]).getD k []=C.getD k []:=by
  rw[List.getD_eq_getElem?_getD,List.getElem?_append_left hk,←List.getD_eq_getElem?_getD]
 unfold vg
 rw[this]
theorem WO {C:List (List Int)} {r:List Int} {x:Nat}:vg (C++[r]) C.length x=r.getD x 0:=by
 unfold vg
 have:(C++[r]).getD C.length []=r:=by
  rw[List.getD_eq_getElem?_getD,List.getElem?_append_right (Nat.le_refl _),Nat.sub_self];rfl
 rw[this]
theorem ml.next {ss:List Lb} (hw:ss.length≤32) {sets:List Al} {C:List (List Int)} (h:ml ss sets C) {a:Al} (ha:sets[C.length]? =some a) {p:List Al×List Int} (hp:Pk ss a (List.range 256) (sets,ib)=some p):ml ss p.1 (C++[p.2]):=by
 have hlt:=(List.getElem?_eq_some_iff.1 ha).1
 obtain⟨_,b,hb,hblt,_⟩:=h.ok.2 _ a ha
 have hba:SU a:=⟨b,hb,hblt⟩
 obtain⟨k1,k2,k3,k4⟩:=FK hw hba (i:=C.length) (List.range 256) (sets,ib) p List.nodup_range (fun x hx=>by simp only[Qt];simpa using hx) h.ok ha ⟨h.up,fun q b hb=>h.top C.length q a b rfl ha hb⟩ hp
 obtain⟨g1,⟨t,g2⟩,g3⟩:=Cu hw (List.range 256) (sets,ib) p h.ok ha hp
 simp only at g2 g3
 rw[Qt] at g3
 have hold:∀ (k:Nat) c,k < sets.length→(p.1[k]? =some c↔sets[k]? =some c):=fun k c hk=>by rw[g2,List.getElem?_append_left hk]
 refine⟨g1,?_,?_,?_,?_,k4.up,?_,?_⟩
 ·rw[g2];simp;omega
 ·rw[hold 0 _ (by omega)];exact h.first
 ·intro r hr
  rcases List.mem_append.1 hr with h1 | h1
  ·exact h.row r h1
  ·rw[List.mem_singleton] at h1;subst h1;exact g3
 ·intro k c hk hc x hx
  rw[List.length_append,List.length_singleton] at hk
  rcases Nat.lt_or_ge k C.length with h1 | h1
  ·rw[bO h1,g2]
   exact (h.step k c h1 ((hold k c (by omega)).1 hc) x hx).mono
  ·have:k=C.length:=by omega
   subst this
   have hca:c=a:=by
    have:=(hold C.length c hlt).1 hc
    rw[ha] at this;injection this with this;exact this.symm
   subst hca
   rw[WO]
   exact k1 x (by simpa using hx)
 ·intro k q c d hk hc hd
  rw[List.length_append,List.length_singleton] at hk
  have h1:=k4.top q d hd
  have h2:=k4.up C.length k a c (by omega) ((hold _ a hlt).2 ha) hc
  omega
 ·intro k h0 hk
  rcases Nat.lt_or_ge k sets.length with h1 | h1
  ·obtain⟨j,x,h2,h3,h4,h5⟩:=h.reach k h0 h1
   exact⟨j,x,h2,by rw[List.length_append];omega,h4,by rw[bO h3];exact h5⟩
  ·obtain⟨x,hx,h2⟩:=k3 k h1 hk
   exact⟨C.length,x,by omega,by simp,by simpa using hx,by rw[WO];exact h2⟩
theorem sG {ss:List Lb} (hw:ss.length≤32):∀ (k:Nat) (r r':List Al×List (List Int)),r.2.length+k=64→ml ss r.1 r.2→Ig ss k r=some r'→ml ss r'.1 r'.2∧r'.2.length=r'.1.length
 |0,r,r',hk,h,e=>by
  injection e with e;subst e
  have:=h.ok.1
  have:=h.le
  exact⟨h,by omega⟩
 |k+1,r,r',hk,h,e=>by
  cases ha:r.1[r.2.length]? with
  |none=>
   rw[fu ha] at e;injection e with e;subst e
   refine⟨h,?_⟩
   have:=h.le
   rcases Nat.lt_or_ge r.2.length r.1.length with h1 | h1
   ·rw[List.getElem?_eq_getElem h1] at ha;cases ha
   ·omega
  |some a=>
   cases hr:Pk ss a (List.range 256) (r.1,ib) with
   |none=>rw[Hu ha hr] at e;cases e
   |some p=>
    rw[lu ha hr] at e
    exact sG hw k (p.1,r.2++[p.2]) r' (by simp;omega) (h.next hw ha hr) e
theorem tG {ss:List Lb} (hw:ss.length≤32) (hne:∀ s∈ss,0 < s.parts.length) {p:List Al×List (List Int)} (h:Ig ss 64 (Jg ss,[])=some p):ml ss p.1 p.2∧p.2.length=p.1.length:=by
 refine sG hw 64 (Jg ss,[]) p rfl ⟨Nz hw hne,by simp,rfl,by simp,fun k a hk=>by simp at hk,?_,?_,?_⟩ h
 ·intro p q a b hpq ha hb
  have:p=0∧q=0:=by
   have h1:=(List.getElem?_eq_some_iff.1 ha).1
   have h2:=(List.getElem?_eq_some_iff.1 hb).1
   simp[Jg] at h1 h2;omega
  obtain⟨rfl,rfl⟩:=this
  rw[ha] at hb;injection hb with hb;subst hb;exact Nat.le_refl _
 ·intro k q a b hk ha hb
  have h2:=(List.getElem?_eq_some_iff.1 hb).1
  simp[Jg] at h2;subst h2
  simp[Jg] at hb;subst hb;simp
 ·intro k h0 hk
  simp[Jg] at hk;omega
end Go.AM.B1
