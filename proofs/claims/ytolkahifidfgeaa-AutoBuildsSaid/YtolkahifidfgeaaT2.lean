/- What the reference computes: the prefix sets. -/
import Derived.Test.YtolkahifidfgeaaT1
set_option linter.unusedVariables false
set_option linter.unusedSimpArgs false
namespace Go.AM.B1
open Go.AM Go.AM.So
def onC (f:Nat→Bool):List PV:=(List.range 32).map fun i=> .bool (f i)
def setC (d:Int) (f:Nat→Bool):List PV:=i64 d::onC f
def encS (a:Al):PV:= .agg (setC a.1 a.2.toNat.testBit)
theorem onC_len (f:Nat→Bool):(onC f).length=32:=by simp[onC]
theorem setC_len (d:Int) (f:Nat→Bool):(setC d f).length=33:=by rw[setC,List.length_cons,onC_len]
theorem onC_at (f:Nat→Bool) {i:Nat} (h:i < (onC f).length):(onC f)[i]= .bool (f i):=by
 simp only[onC,List.getElem_map,List.getElem_range]
theorem onC_get (f:Nat→Bool) {i:Nat} (h:i < 32):(onC f)[i]? =some (.bool (f i)):=by
 rw[List.getElem?_eq_getElem (by rw[onC_len];exact h),onC_at]
theorem onC_set (f:Nat→Bool) {i:Nat} (h:i < 32) (b:Bool):(onC f).set i (.bool b)=onC fun j=>if j=i then b else f j:=by
 apply List.ext_getElem
 ·rw[List.length_set,onC_len,onC_len]
 ·intro j h1 h2
  rw[List.getElem_set,onC_at,onC_at]
  by_cases hj:i=j
  ·subst hj;rw[if_pos rfl,if_pos rfl]
  ·rw[if_neg hj,if_neg (Ne.symm hj)]
theorem onC_congr {f g:Nat→Bool} (h:∀ x,x < 32→f x=g x):onC f=onC g:=by
 unfold onC
 apply List.map_congr_left
 intro x hx
 rw[h x (by simpa using hx)]
theorem onC_inj {f g:Nat→Bool} (h:onC f=onC g) {i:Nat} (hi:i < 32):f i=g i:=by
 have h1:=onC_get f hi
 rw[h,onC_get g hi] at h1
 injection h1 with h1;injection h1 with h1;exact h1.symm
theorem setC_one (d:Int) (f:Nat→Bool):∀ e∈setC d f,(AV.pv e).one=true:=by
 intro e he
 rcases List.mem_cons.1 he with rfl | he
 ·rfl
 ·obtain⟨x,_,rfl⟩:=List.mem_map.1 he
  rfl
def Bit (a:Al):Prop:=∃ b:Nat,a.2=(b:Int)∧b < 4294967296
theorem encS_inj {a b:Al} (ha:Bit a) (hb:Bit b) (h:encS a=encS b):a=b:=by
 obtain⟨d,_⟩:=a;obtain⟨e,_⟩:=b
 obtain⟨m,rfl,hm⟩:=ha
 obtain⟨n,rfl,hn⟩:=hb
 simp only[encS,setC,PV.agg.injEq,List.cons.injEq,PV.int.injEq,true_and,Int.toNat_natCast] at h
 have:m=n:=by
  apply Nat.eq_of_testBit_eq
  intro i
  by_cases hi:i < 32
  ·exact onC_inj h.2 hi
  ·rw[Nat.testBit_lt_two_pow (Nat.lt_of_lt_of_le hm (Nat.pow_le_pow_right (n:=2) (by decide) (by omega:32≤i))),Nat.testBit_lt_two_pow (Nat.lt_of_lt_of_le hn (Nat.pow_le_pow_right (n:=2) (by decide) (by omega:32≤i)))]
 subst this
 have h1:d=e:=by have:=h.1;omega
 rw[h1]
theorem eqCells_bools:∀ (l:List Nat) (f g:Nat→Bool),eqCells (l.map fun _=>0) (l.map fun i=> .bool (f i)) (l.map fun i=> .bool (g i))=some (l.all fun i=>f i==g i)
 | [],f,g=>rfl
 |i::l,f,g=>by
  simp only[List.map_cons,eqCells,eqCell,Option.bind_some,eqCells_bools l f g,Option.map_some,List.all_cons]
abbrev kdS:Kd:= .row [1,0,0,0,0,0,0,0,0,0,0,0,0,0,0,0,0,0,0,0,0,0,0,0,0,0,0,0,0,0,0,0,0]
theorem eqKd_set (a b:Al):∃ c,eqKd kdS (encS a) (encS b)=some c∧(c=true↔encS a=encS b):=by
 have h:=eqCells_bools (List.range 32) a.2.toNat.testBit b.2.toNat.testBit
 have h0:(List.range 32).map (fun _=>0)=[0,0,0,0,0,0,0,0,0,0,0,0,0,0,0,0,0,0,0,0,0,0,0,0,0,0,0,0,0,0,0,0]:=by decide
 rw[h0] at h
 refine⟨((a.1:Int)==b.1)&&(List.range 32).all fun i=>a.2.toNat.testBit i==b.2.toNat.testBit i,?_,?_⟩
 ·show eqCells (1::[0,0,0,0,0,0,0,0,0,0,0,0,0,0,0,0,0,0,0,0,0,0,0,0,0,0,0,0,0,0,0,0]) (i64 a.1::onC _) (i64 b.1::onC _)=_
  unfold eqCells
  rw[show onC a.2.toNat.testBit=(List.range 32).map fun i=> .bool (a.2.toNat.testBit i) from rfl,show onC b.2.toNat.testBit=(List.range 32).map fun i=> .bool (b.2.toNat.testBit i) from rfl,h]
  simp only[eqCell,if_true,Option.bind_some,Option.map_some]
 ·simp only[Bool.and_eq_true,beq_iff_eq,List.all_eq_true,List.mem_range]
  constructor
  ·rintro⟨h1,h2⟩
   rw[encS,encS,h1]
   unfold setC
   rw[onC_congr h2]
  ·intro h
   simp only[encS,setC,PV.agg.injEq,List.cons.injEq,PV.int.injEq,true_and] at h
   exact⟨h.1,fun i hi=>onC_inj h.2 hi⟩
theorem lit33_iaddr (H:List AObj) {l:List Al} {i:Nat} (hi:i < l.length):iaddrA' H 33 (.pv (.lit 33 (l.map encS))) (i:Int)=some (.pv (.rp (setC l[i].1 l[i].2.toNat.testBit) 0)):=by
 simp only[iaddrA']
 rw[if_pos (by refine⟨trivial,?_⟩;unfold idxOk;simp;omega)]
 simp[hi,encS,PV.cells]
theorem rpS_load (H:List AObj) (d:Int) (f:Nat→Bool):loadA H true 33 (.pv (.rp (setC d f) 0))=some (.pv (.agg (setC d f))):=by
 have h:=setC_len d f
 simp only[loadA,partP,if_true]
 rw[if_pos (by omega),List.drop_zero,List.take_of_length_le (by omega)]
 rfl
theorem idxR_drop {a:Al} {l:List Al} {i k:Nat} (hi:i < l.length):idxR a (l.drop i) k=if a=l[i] then some k else idxR a (l.drop (i+1)) (k+1):=by
 rw[List.drop_eq_getElem_cons hi,idxR]
abbrev envFd (v:PV) (row:List PV) (i:Int):Tr:=((Tr.lf.set 5 (.pv (i64 i))).set 3 (.pv (.rp row 0))).set 0 (.pv v)
theorem find_run {l:List Al} {a:Al} (hl:l.length≤64) (ha:Bit a) (hb:∀ b∈l,Bit b):F_leadtrailref13_find [.lit 33 (l.map encS),encS a]=some (i64 (match idxR a l 0 with | some k=>(k:Int) | none=> -1)):=by
 have hloop:wpO (fun r=>∃ E,(r=(.exit 0,⟨E,[]⟩)∧idxR a l 0=none)∨(∃ k,r=(.ret,⟨E,[]⟩)∧idxR a l 0=some k∧E.get 4= .pv (i64 (k:Nat))))
  (loopA (roundA (evalC (callL (fun _=>none) 8) b_leadtrailref13_find_l0) (clean 0 [0,3,5])) rounds ⟨envFd (.lit 33 (l.map encS)) (setC a.1 a.2.toNat.testBit) 0,[]⟩):=by
  refine wpO_mono (loopN_wp (g:=roundA (evalC (callL (fun _=>none) 8) b_leadtrailref13_find_l0) (clean 0 [0,3,5]))
   (fun i t=>t=⟨envFd (.lit 33 (l.map encS)) (setC a.1 a.2.toNat.testBit) i,[]⟩∧idxR a l 0=idxR a (l.drop i) i)
   l.length (by unfold rounds;omega) _ ⟨rfl,rfl⟩ ?_ ?_) (fun r h=>h.2)
  ·rintro i t hi ⟨rfl,hs⟩
   rw[idxR_drop hi] at hs
   have a1:=lit33_iaddr [] hi
   have a2:=rpS_load [] l[i].1 l[i].2.toNat.testBit
   have a3:=rpS_load [] a.1 a.2.toNat.testBit
   obtain⟨c,heq,hce⟩:=eqKd_set l[i] a
   have heq:eqKd kdS (.agg (setC l[i].1 l[i].2.toNat.testBit)) (.agg (setC a.1 a.2.toNat.testBit))=some c:=heq
   have e1:decide ((i:Int) < (l.length:Int))=true:=dec_t (by omega)
   have t2:=stepWrap hi (show l.length≤maxLen by unfold maxLen;omega)
   have ln:lenA [] 0 (.pv (.lit 33 (l.map encS)))=some l.length:=by simp[lenA]
   have hbi:=hb _ (List.getElem_mem hi)
   generalize setC a.1 a.2.toNat.testBit=row at *
   generalize setC l[i].1 l[i].2.toNat.testBit=row2 at *
   generalize l.map encS=es at *
   generalize hQ:LN _ _ i=Q
   by_cases h:a=l[i]
   ·rw[hce.2 (by rw[h])] at heq
    rw[if_pos h] at hs
    simp (implicitDefEqProofs:=false) only[SP,SA,WP,sevalprocAttr,-List.reduceReplicate,b_leadtrailref13_find_l0,e1,ln,a1,a2,a3,heq,envFd]
    subst hQ
    exact⟨_,.inr ⟨i,rfl,hs,by simp[Tr.get_set]⟩⟩
   ·have:c=false:=by cases c with | false=>rfl | true=>exact absurd (encS_inj hbi ha (hce.1 rfl)).symm h
    rw[this] at heq
    rw[if_neg h] at hs
    simp (implicitDefEqProofs:=false) only[SP,SA,WP,sevalprocAttr,-List.reduceReplicate,b_leadtrailref13_find_l0,e1,t2,ln,a1,a2,a3,heq,clean,cutEnv,AV.cut,deep_eq',envFd]
    subst hQ
    exact⟨rfl,hs⟩
  ·rintro t ⟨rfl,hs⟩
   rw[List.drop_length,idxR] at hs
   have e1:decide ((l.length:Int) < (l.length:Int))=false:=dec_f (by omega)
   have ln:lenA [] 0 (.pv (.lit 33 (l.map encS)))=some l.length:=by simp[lenA]
   generalize l.map encS=es at *
   generalize hQ:(fun r:Ex×St=>r.1.stop=true∧_)=Q
   simp (implicitDefEqProofs:=false) only[SP,SA,WP,sevalprocAttr,-List.reduceReplicate,b_leadtrailref13_find_l0,e1,ln,envFd]
   subst hQ
   exact⟨rfl,_,.inl ⟨rfl,hs⟩⟩
 have hln:=setC_len (a.1:Int) a.2.toNat.testBit
 have hall:∀ e∈setC (a.1:Int) a.2.toNat.testBit,(AV.pv e).one=true:=setC_one _ _
 have he:encS a= .agg (setC a.1 a.2.toNat.testBit):=rfl
 rw[he]
 generalize setC (a.1:Int) a.2.toNat.testBit=row at *
 have hbx:((row.map AV.pv).length=33∧(row.map AV.pv).all AV.one=true)=True:=by
  refine eq_true ⟨by rw[List.length_map,hln],?_⟩
  rw[List.all_eq_true];intro v hv
  obtain⟨e,he,rfl⟩:=List.mem_map.1 hv
  exact hall e he
 have hmp:mapO (toPV [] 0) (row.map AV.pv)=some row:=mapO_pv _ _ _
 generalize l.map encS=es at *
 apply wpO_eq
 simp (implicitDefEqProofs:=false) only[F_leadtrailref13_find,SP,SA,WP,sevalprocAttr,-List.reduceReplicate,b_leadtrailref13_find,hbx,hmp,C_loop,clean,cutEnv,AV.cut,deep_eq']
 refine wpO_mono hloop ?_
 rintro _ ⟨E,⟨rfl,hn⟩ | ⟨k,rfl,hk,g⟩⟩
 ·simp (implicitDefEqProofs:=false) only[SP,SA,WP,sevalprocAttr,-List.reduceReplicate,hn]
 ·simp (implicitDefEqProofs:=false) only[SP,SA,WP,sevalprocAttr,-List.reduceReplicate,g,hk]
end Go.AM.B1
namespace Go.AM.B1
open Go.AM Go.AM.So
theorem setRow_get {α:Type}:∀ (vs cs:List α) (off j:Nat),off+vs.length≤cs.length→(setRow cs off vs)[j]? =if off≤j∧j < off+vs.length then vs[j - off]? else cs[j]?
 | [],cs,off,j,h=>by
   rw[if_neg (by simp only[List.length_nil];omega)];rfl
 |v::vs,cs,off,j,h=>by
  simp only[List.length_cons] at h
  rw[setRow,setRow_get vs _ (off+1) j (by simp;omega)]
  by_cases h1:off+1≤j∧j < off+1+vs.length
  ·rw[if_pos h1,if_pos (by simp only[List.length_cons];omega),show j - off=(j - (off+1))+1 by omega,List.getElem?_cons_succ]
  ·rw[if_neg h1]
   by_cases h2:off=j
   ·subst h2
    rw[List.getElem?_set_self (by omega),if_pos (by simp only[List.length_cons];omega),Nat.sub_self,List.getElem?_cons_zero]
   ·rw[List.getElem?_set_ne h2,if_neg (by simp only[List.length_cons];omega)]
def tabN (n:Nat) (f:Nat→Bool):List PV:=(List.range n).map fun x=> .bool (f x)
theorem tabN_len (n:Nat) (f:Nat→Bool):(tabN n f).length=n:=by rw[tabN,List.length_map,List.length_range]
theorem tabN_at (n:Nat) (f:Nat→Bool) {i:Nat} (h:i < (tabN n f).length):(tabN n f)[i]= .bool (f i):=by
 simp only[tabN,List.getElem_map,List.getElem_range]
theorem tabN_get {n:Nat} (f:Nat→Bool) {i:Nat} (h:i < n):(tabN n f)[i]? =some (.bool (f i)):=by
 rw[List.getElem?_eq_getElem (by rw[tabN_len];exact h),tabN_at]
theorem tabN_get? (n:Nat) (f:Nat→Bool) (i:Nat):(tabN n f)[i]? =if i < n then some (.bool (f i)) else none:=by
 by_cases h:i < n
 ·rw[if_pos h,tabN_get f h]
 ·rw[if_neg h,List.getElem?_eq_none (by rw[tabN_len];omega)]
theorem tabN_congr {n:Nat} {f g:Nat→Bool} (h:∀ x,x < n→f x=g x):tabN n f=tabN n g:=by
 unfold tabN
 apply List.map_congr_left
 intro x hx
 rw[h x (by simpa using hx)]
theorem tabN_one (n:Nat) (f:Nat→Bool):∀ e∈tabN n f,(AV.pv e).one=true:=by
 intro e he
 obtain⟨x,_,rfl⟩:=List.mem_map.1 he
 rfl
theorem tabN_false (n:Nat):List.replicate n (PV.bool false)=tabN n fun _=>false:=by
 apply List.ext_getElem
 ·rw[List.length_replicate,tabN_len]
 ·intro j h1 h2;rw[List.getElem_replicate,tabN_at]
theorem tab_tabN (f:Nat→Bool):tab f=tabN 256 f:=rfl
theorem tabN_put {n:Nat} (f g:Nat→Bool) {m off:Nat} (h:off+m≤n):setRow (tabN n f) off (tabN m g)=tabN n fun j=>if off≤j∧j < off+m then g (j - off) else f j:=by
 apply List.ext_getElem?
 intro j
 rw[setRow_get _ _ _ _ (by rw[tabN_len,tabN_len];exact h),tabN_len,tabN_get?,tabN_get?,tabN_get?]
 by_cases h1:off≤j∧j < off+m
 ·rw[if_pos h1,if_pos (show j - off < m by omega),if_pos (by omega)]
  simp only[if_pos h1]
 ·rw[if_neg h1]
  simp only[if_neg h1]
theorem setRow_map {α β:Type} (f:α→β):∀ (vs cs:List α) (off:Nat),setRow (cs.map f) off (vs.map f)=(setRow cs off vs).map f
 | [],cs,off=>rfl
 |v::vs,cs,off=>by
  rw[List.map_cons,setRow,setRow,←setRow_map f vs,List.map_set]
theorem pbx_put {A:List AObj} {id n off m:Nat} {f g:Nat→Bool} (hg:A[id]? =some (pbx (tabN n f))) (h:off+m≤n):
 storeA A m (.ptr id off) (.pv (.agg (tabN m g)))=some (A.set id (pbx (tabN n fun j=>if off≤j∧j < off+m then g (j - off) else f j))):=by
 have hc':(AV.pv (.agg (tabN m g))).cells=(tabN m g).map .pv:=rfl
 simp only[storeA,hg,hc']
 rw[if_pos ⟨by rw[List.length_map,tabN_len],by rw[List.all_eq_true];intro v hv;obtain⟨e,he,rfl⟩:=List.mem_map.1 hv;exact tabN_one _ _ e he⟩,
  if_pos (by rw[List.length_map,tabN_len];exact h),setRow_map,tabN_put f g h]
def memAt (s:Shp) (k x:Nat):Bool:=match s.parts[k]? with
 |some l=>memB l x
 |none=>false
def hasF (s:Shp) (k j:Nat):Bool:=decide (j / 256 < k)&&memAt s (j / 256) (j % 256)
def hasC (s:Shp):List PV:=tabN 2048 (hasF s 8)
theorem hasF_next (s:Shp) {k:Nat} (hk:k < s.parts.length):(fun j=>if k * 256≤j∧j < k * 256+256 then memB s.parts[k] (j - k * 256) else hasF s k j)=hasF s (k+1):=by
 funext j
 by_cases h:k * 256≤j∧j < k * 256+256
 ·have h1:j / 256=k:=by omega
  have h2:j % 256=j - k * 256:=by omega
  rw[if_pos h,hasF,h1,h2,memAt,List.getElem?_eq_getElem hk]
  simp
 ·rw[if_neg h,hasF,hasF]
  congr 1
  rw[decide_eq_decide];omega
theorem hasF_all (s:Shp) (h8:s.parts.length≤8):tabN 2048 (hasF s s.parts.length)=hasC s:=by
 refine tabN_congr fun j hj=> ?_
 unfold hasF
 have h2:decide (j / 256 < 8)=true:=decide_eq_true (by omega)
 rw[h2,Bool.true_and]
 by_cases h:j / 256 < s.parts.length
 ·rw[decide_eq_true h,Bool.true_and]
 ·rw[decide_eq_false h,Bool.false_and,memAt,List.getElem?_eq_none (by omega)]
abbrev firstC (i:Nat):List PV:=setC 0 fun j=>decide (j < i)
abbrev eR_has1 (S:PV) (nl:Bool) (es:List PV) (i k:Int):Tr:=(((((Tr.lf.set 9 (.pv (i64 k))).set 8 (.ptr 2 0)).set 7 (.pv (i64 i))).set 6 (.ptr 1 0)).set 5 (.uq 0 nl 2048 es)).set 1 (.pv (.rp [S] 0))
abbrev eR_has0 (S:PV) (nl:Bool) (es:List PV) (i:Int):Tr:=(((Tr.lf.set 7 (.pv (i64 i))).set 6 (.ptr 1 0)).set 5 (.uq 0 nl 2048 es)).set 1 (.pv (.rp [S] 0))
theorem has_inner (call:CallF) {S:PV} {ss:List Shp} {es:List PV} (hS:HeldSch S ss es) {i:Nat} (hi:i < ss.length) (h8:ss[i].parts.length≤8) (nl:Bool) (os:List PV) (m:Nat) (F:List PV):
 wpO (fun r=>∃ E,r=(.exit 2,⟨E,[.tok 2048 m nl,pbx F,pbx (hasC ss[i])]⟩)∧E.get 1= .pv (.rp [S] 0)∧E.get 5= .uq 0 nl 2048 os∧E.get 6= .ptr 1 0∧E.get 7= .pv (i64 i)∧E.get 8= .ptr 2 0)
  (loopA (roundA (evalC call b_leadtrailref13_Sets_l1) (clean 3 [1,5,6,7,8,9])) rounds ⟨eR_has1 S nl os i 0,[.tok 2048 m nl,pbx F,pbx (tabN 2048 fun _=>false)]⟩):=by
 obtain⟨P,ps,hP,a0⟩:=hS.iaddr hi
 rw[← hasF_all _ h8]
 have ln:=hP.parts.lenA
 have hz:(tabN 2048 fun _=>false)=tabN 2048 (hasF ss[i] 0):=tabN_congr fun j _=>by rw[hasF];simp
 rw[hz]
 generalize ss[i]=s at *
 refine wpO_mono (loopN_wp (g:=roundA (evalC call b_leadtrailref13_Sets_l1) (clean 3 [1,5,6,7,8,9]))
  (fun k t=>t=⟨eR_has1 S nl os i k,[.tok 2048 m nl,pbx F,pbx (tabN 2048 (hasF s k))]⟩)
  s.parts.length (by unfold rounds;omega) _ rfl ?_ ?_) (fun r h=>h.2)
 ·rintro k t hk rfl
  obtain⟨v,hv,hpt,_⟩:=hP.parts.iaddr hk []
  have a1:=hP.parts.iaddrU hv
  have hm:=members_run hpt.is hpt.sz
  have hnx:=hasF_next s hk
  have e1:decide ((k:Int) < (s.parts.length:Int))=true:=dec_t (by omega)
  have t2:IntKind.i64.wrap ((k:Int)+1)=((k+1:Nat):Int):=wrap_int (by omega)
  have hq:idxOk (k:Int) 8:=by unfold idxOk;omega
  have t1:((k:Int)).toNat=k:=by simp
  have pl:=pbx_place (A:=[.tok 2048 m nl,pbx F,pbx (tabN 2048 (hasF s k))]) (id:=2) (es:=tabN 2048 (hasF s k)) rfl 0 (k * 256)
  rw[Nat.zero_add] at pl
  have st:=pbx_put (A:=[.tok 2048 m nl,pbx F,pbx (tabN 2048 (hasF s k))]) (id:=2) (n:=2048) (off:=k * 256) (m:=256) (f:=hasF s k) (g:=memB s.parts[k]) rfl (by omega)
  rw[hnx,←tab_tabN] at st
  have st2:([.tok 2048 m nl,pbx F,pbx (tabN 2048 (hasF s k))]:List AObj).set 2 (pbx (tabN 2048 (hasF s (k+1))))=[.tok 2048 m nl,pbx F,pbx (tabN 2048 (hasF s (k+1)))]:=rfl
  rw[st2] at st
  have c1:=pbx_cut F 3
  have c2:=pbx_cut (tabN 2048 (hasF s (k+1))) 3
  have c0:cutObj 3 (.tok 2048 m nl)=some (.tok 2048 m nl):=rfl
  have hLN:∀ st:St,st=⟨eR_has1 S nl os i (k+1:Nat),[.tok 2048 m nl,pbx F,pbx (tabN 2048 (hasF s (k+1)))]⟩→LN (fun k t=>t=⟨eR_has1 S nl os i k,[.tok 2048 m nl,pbx F,pbx (tabN 2048 (hasF s k))]⟩)
   (fun r=>∃ E,r=(.exit 2,⟨E,[.tok 2048 m nl,pbx F,pbx (tabN 2048 (hasF s s.parts.length))]⟩)∧E.get 1= .pv (.rp [S] 0)∧E.get 5= .uq 0 nl 2048 os∧E.get 6= .ptr 1 0∧E.get 7= .pv (i64 i)∧E.get 8= .ptr 2 0) k (.norm,st):=fun st h=>h
  generalize LN _ _ k=QQ at hLN ⊢
  generalize pbx F=oF at *
  generalize pbx (tabN 2048 (hasF s k))=oT at *
  generalize pbx (tabN 2048 (hasF s (k+1)))=oT' at *
  generalize tab (memB s.parts[k])=T at *
  have hcl:mapO (cutObj 3) [.tok 2048 m nl,oF,oT']=some [.tok 2048 m nl,oF,oT']:=by simp only[mapO,c0,c1,c2,Option.bind_some,Option.map_some]
  have htk:∀ a b c:AObj,([a,b,c]:List AObj).take 3=[a,b,c]:=fun a b c=>rfl
  have d0:(0 < 3)=True:=by simp
  have d1:(1 < 3)=True:=by simp
  have d2:(2 < 3)=True:=by simp
  simp (implicitDefEqProofs:=false) only[SP,SA,WP,sevalprocAttr,-List.reduceReplicate,b_leadtrailref13_Sets_l1,rp1_place,rp1_load,rp2_place,rp2_load,a0,a1,ln,e1,hm,eq_true hq,t1,t2,pl,st,hcl,htk,d0,d1,d2,clean,cutEnv,AV.cut,deep_eq',eR_has1]
  exact hLN _ rfl
 ·rintro t rfl
  have e1:decide ((s.parts.length:Int) < (s.parts.length:Int))=false:=dec_f (by omega)
  generalize pbx (tabN 2048 (hasF s s.parts.length))=oT
  generalize pbx F=oF
  generalize hQ:(fun r:Ex×St=>r.1.stop=true∧_)=Q
  simp (implicitDefEqProofs:=false) only[SP,SA,WP,sevalprocAttr,-List.reduceReplicate,b_leadtrailref13_Sets_l1,rp1_place,rp1_load,rp2_place,rp2_load,a0,ln,e1,eR_has1]
  subst hQ
  exact⟨rfl,_,rfl,by simp[Tr.get_set],by simp[Tr.get_set],by simp[Tr.get_set],by simp[Tr.get_set],by simp[Tr.get_set]⟩
end Go.AM.B1
namespace Go.AM.B1
open Go.AM Go.AM.So
theorem firstC_set {i:Nat} (hi:i < 32):(firstC i).set (1+i) (.bool true)=firstC (i+1):=by
 rw[Nat.add_comm 1 i]
 unfold firstC setC
 rw[List.set_cons_succ,onC_set _ hi]
 congr 1
 refine onC_congr fun x hx=> ?_
 by_cases h:x=i
 ·subst h;simp
 ·rw[if_neg h,decide_eq_decide];omega
def hasEs (ss:List Shp):List PV:=ss.map fun s=> .agg (hasC s)
theorem has_outer (call:CallF) {S:PV} {ss:List Shp} {es:List PV} (hS:HeldSch S ss es) (hw:ss.length≤32) (h8:∀ s∈ss,s.parts.length≤8):
 wpO (fun r=>∃ E nl,r=(.exit 0,⟨E,[.tok 2048 ss.length nl,pbx (firstC ss.length)]⟩)∧E.get 1= .pv (.rp [S] 0)∧E.get 5= .uq 0 nl 2048 (hasEs ss)∧E.get 6= .ptr 1 0)
  (loopA (roundA (evalC call b_leadtrailref13_Sets_l0) (clean 2 [1,5,6,7])) rounds ⟨eR_has0 S true [] 0,[.tok 2048 0 true,pbx (firstC 0)]⟩):=by
 have ln:=hS.lenA
 refine wpO_mono (loopN_wp (g:=roundA (evalC call b_leadtrailref13_Sets_l0) (clean 2 [1,5,6,7]))
  (fun i t=>∃ nl,t=⟨eR_has0 S nl (hasEs (ss.take i)) i,[.tok 2048 i nl,pbx (firstC i)]⟩)
  ss.length (by unfold rounds;omega) _ ⟨true,rfl⟩ ?_ ?_) (fun r h=>h.2)
 ·rintro i t hi ⟨nl,rfl⟩
  have hin:=has_inner call hS hi (h8 _ (List.getElem_mem hi)) nl (hasEs (ss.take i)) i (firstC (i+1))
  have hnext:hasEs (ss.take (i+1))=hasEs (ss.take i)++[.agg (hasC ss[i])]:=by
   have:ss.take (i+1)=ss.take i++[ss[i]]:=by simp
   rw[this,hasEs,List.map_append];rfl
  have hel:(hasEs (ss.take i)).length=i:=by rw[hasEs,List.length_map,List.length_take];omega
  have e1:decide ((i:Int) < (ss.length:Int))=true:=dec_t (by omega)
  have t2:=stepWrap hi (show ss.length≤maxLen by unfold maxLen;omega)
  have hq:idxOk (i:Int) 32:=by unfold idxOk;omega
  have t1:((i:Int)).toNat=i:=by simp
  have m1:i * 1=i:=by omega
  have p1:=pbx_place (A:=[.tok 2048 i nl,pbx (firstC i)]) (id:=1) (es:=firstC i) rfl 0 1
  have p2:=pbx_place (A:=[.tok 2048 i nl,pbx (firstC i)]) (id:=1) (es:=firstC i) rfl 1 i
  rw[Nat.zero_add] at p1
  have st:=pbx_store (A:=[.tok 2048 i nl,pbx (firstC i)]) (id:=1) (es:=firstC i) rfl (k:=1+i) (by rw[firstC,setC_len];omega) (e:= .bool true) rfl rfl
  rw[firstC_set (by omega)] at st
  have st2:([.tok 2048 i nl,pbx (firstC i)]:List AObj).set 1 (pbx (firstC (i+1)))=[.tok 2048 i nl,pbx (firstC (i+1))]:=rfl
  rw[st2] at st
  have hz1:AObj.box (List.map AV.pv (List.replicate 2048 (PV.bool false)))=pbx (tabN 2048 fun _=>false):=by rw[tabN_false]
  have hcz:(List.replicate 2048 (PV.bool false)).length=2048:=List.length_replicate
  have hld:loadA [.tok 2048 i nl,pbx (firstC (i+1)),pbx (hasC ss[i])] true 2048 (.ptr 2 0)=some (.pv (.agg (hasC ss[i]))):=pbx_loadAll (id:=2) rfl (tabN_len _ _)
  have hap:=uq_append (A:=[.tok 2048 i nl,pbx (firstC (i+1)),pbx (hasC ss[i])]) (id:=0) (n:=i) (sz:=2048) (h:= .uq) (nl:=nl) (ag:=true) (bytes:=2048) (es:=hasEs (ss.take i)) rfl hel.symm (by unfold roomOk;omega) (.agg (hasC ss[i]))
  rw[← hnext,List.set_cons_zero] at hap
  have c1:=pbx_cut (firstC i) 3
  have c1':=pbx_cut (firstC (i+1)) 3
  have c2:=pbx_cut (firstC (i+1)) 2
  have c3:=pbx_cut (tabN 2048 fun _=>false) 3
  have c0:∀ k n nl,cutObj k (.tok 2048 n nl)=some (.tok 2048 n nl):=fun k n nl=>rfl
  have hon:=tabN_one 2048 (hasF ss[i] 8)
  have hol:=tabN_len 2048 (hasF ss[i] 8)
  have hLN:∀ st:St,st=⟨eR_has0 S false (hasEs (ss.take (i+1))) (i+1:Nat),[.tok 2048 (i+1) false,pbx (firstC (i+1))]⟩→LN (fun i t=>∃ nl,t=⟨eR_has0 S nl (hasEs (ss.take i)) i,[.tok 2048 i nl,pbx (firstC i)]⟩)
   (fun r=>∃ E nl,r=(.exit 0,⟨E,[.tok 2048 ss.length nl,pbx (firstC ss.length)]⟩)∧E.get 1= .pv (.rp [S] 0)∧E.get 5= .uq 0 nl 2048 (hasEs ss)∧E.get 6= .ptr 1 0) i (.norm,st):=fun st h=>⟨false,h⟩
  generalize LN _ _ i=QQ at hLN ⊢
  have hcl3:mapO (cutObj 3) [.tok 2048 i nl,pbx (firstC (i+1)),pbx (tabN 2048 fun _=>false)]=some [.tok 2048 i nl,pbx (firstC (i+1)),pbx (tabN 2048 fun _=>false)]:=by simp only[mapO,c0,c1',c3,Option.bind_some,Option.map_some]
  have hcl2:mapO (cutObj 2) [.tok 2048 (i+1) false,pbx (firstC (i+1))]=some [.tok 2048 (i+1) false,pbx (firstC (i+1))]:=by simp only[mapO,c0,c2,Option.bind_some,Option.map_some]
  change ∀ e∈hasC ss[i],_ at hon
  change (hasC ss[i]).length=2048 at hol
  generalize hasC ss[i]=T at *
  generalize hasEs (ss.take i)=os at *
  generalize hasEs (ss.take (i+1))=os' at *
  generalize hzs:List.replicate 2048 (PV.bool false)=zs at *
  have hall:((T.map AV.pv).all AV.one)=true:=by
   rw[List.all_eq_true];intro v hv
   obtain⟨e,he,rfl⟩:=List.mem_map.1 hv
   exact hon e he
  have hsr:setRow (zs.map AV.pv++[]) 0 (T.map AV.pv)=T.map AV.pv:=by
   have:=setRow_pre (T.map AV.pv) (zs.map AV.pv) [] (by simp;omega)
   rw[List.append_nil]
   simpa using this
  have hTl:(T.map AV.pv).length=2048:=by rw[List.length_map,hol]
  have hap2:=allPV_map T
  have htT:T.take 2048=T:=List.take_of_length_le (by omega)
  have hle:(2048≤(zs.map AV.pv++[]).length)=True:=eq_true (by rw[List.append_nil,List.length_map,hcz];exact Nat.le_refl _)
  generalize hoz:pbx (tabN 2048 fun _=>false)=oz at *
  generalize pbx (firstC i)=o1 at *
  generalize pbx (firstC (i+1))=o1' at *
  generalize hoT:pbx T=oT at *
  have htk:∀ a b c:AObj,([a,b,c]:List AObj).take 3=[a,b,c]:=fun a b c=>rfl
  have htk2:∀ a b c:AObj,([a,b,c]:List AObj).take 2=[a,b]:=fun a b c=>rfl
  have d0:(0 < 3)=True:=by simp
  have d1:(1 < 3)=True:=by simp
  have d2:(2 < 3)=True:=by simp
  have d02:(0 < 2)=True:=by simp
  have d12:(1 < 2)=True:=by simp
  simp (implicitDefEqProofs:=false) only[SP,WP,setRow,sevalprocAttr,-List.reduceReplicate,b_leadtrailref13_Sets_l0,C_loop,rp1_place,rp1_load,ln,e1,eq_true hq,t1,m1,p1,p2,st,hzs,hz1,hcl3,htk,d0,d1,d2,clean,cutEnv,AV.cut,deep_eq',eR_has0]
  refine wpO_mono hin ?_
  rintro r ⟨E,rfl,g1,g5,g6,g7,g8⟩
  simp (implicitDefEqProofs:=false) only[SP,WP,setRow,sevalprocAttr,-List.reduceReplicate,g1,g5,g6,g7,g8,hld,hzs,hTl,hall,hsr,hap,hap2,htT,hle,t2,hcl2,htk2,d02,d12,clean,cutEnv,AV.cut,deep_eq']
  exact hLN _ rfl
 ·rintro t ⟨nl,rfl⟩
  rw[List.take_length]
  have e1:decide ((ss.length:Int) < (ss.length:Int))=false:=dec_f (by omega)
  generalize pbx (firstC ss.length)=oF
  generalize hasEs ss=os
  generalize hQ:(fun r:Ex×St=>r.1.stop=true∧_)=Q
  simp (implicitDefEqProofs:=false) only[SP,SA,WP,sevalprocAttr,-List.reduceReplicate,b_leadtrailref13_Sets_l0,rp1_place,rp1_load,ln,e1,eR_has0]
  subst hQ
  exact⟨rfl,_,nl,rfl,by simp[Tr.get_set],by simp[Tr.get_set],by simp[Tr.get_set]⟩
end Go.AM.B1
namespace Go.AM.B1
open Go.AM Go.AM.So
def anyTo (f:Nat→Bool):Nat→Bool
 |0=>false
 |n+1=>anyTo f n||f n
def onB (ss:List Shp) (a:Al) (x j:Nat):Bool:=a.2.toNat.testBit j&&(match ss[j]? with | some s=>memAt s a.1 x | none=>false)
def endB (ss:List Shp) (a:Al) (x j:Nat):Bool:=onB ss a x j&&(match ss[j]? with | some s=>((s.parts.length:Int)==(a.1:Int)+1) | none=>false)
abbrev eR_y (S:PV) (nl nl3:Bool) (os es rs:List PV) (n x i:Int) (so en:Bool):Tr:=
 ((((((((((Tr.lf.set 18 (.pv (i64 i))).set 17 (.pv (.bool en))).set 16 (.pv (.bool so))).set 15 (.ptr 5 0)).set 14 (.pv (i64 x))).set 13 (.ptr 4 0)).set 12 (.pv (i64 n))).set 11 (.uq 3 nl3 256 rs)).set 10 (.uq 2 false 33 es)).set 5 (.uq 0 nl 2048 os)).set 1 (.pv (.rp [S] 0))
theorem setC_get (d:Int) (f:Nat→Bool) {i:Nat} (h:i < 32):(setC d f)[1+i]? =some (.bool (f i)):=by
 rw[Nat.add_comm,setC,List.getElem?_cons_succ,onC_get f h]
theorem uq33_iaddr (H:List AObj) (id:Nat) (nl:Bool) {l:List Al} {i:Nat} {a:Al} (ha:l[i]? =some a):iaddrA' H 33 (.uq id nl 33 (l.map encS)) (i:Int)=some (.pv (.rp (setC a.1 a.2.toNat.testBit) 0)):=by
 have hi:=(List.getElem?_eq_some_iff.1 ha).1
 simp only[iaddrA']
 rw[if_pos (by refine⟨trivial,?_⟩;unfold idxOk;simp;omega)]
 simp[ha,encS,PV.cells]
theorem uqH_iaddr (H:List AObj) (id:Nat) (nl:Bool) {ss:List Shp} {i:Nat} (hi:i < ss.length):iaddrA' H 2048 (.uq id nl 2048 (hasEs ss)) (i:Int)=some (.pv (.rp (hasC ss[i]) 0)):=by
 simp only[iaddrA']
 rw[if_pos (by refine⟨trivial,?_⟩;unfold idxOk hasEs;simp;omega)]
 simp[hi,hasEs,PV.cells]
theorem rp_place (H:List AObj) (row:List PV) (o d:Nat):place H d (.pv (.rp row o))=some (.pv (.rp row (o+d))):=rfl
theorem rp_load {row:List PV} {k:Nat} {e:PV} (h:row[k]? =some e) (H:List AObj):loadA H false 1 (.pv (.rp row k))=some (.pv e):=by
 simp only[loadA,partP,Bool.false_eq_true,if_false,h,Option.map_some]
theorem sets_l4 (call:CallF) {S:PV} {ss:List Shp} {es:List PV} (hS:HeldSch S ss es) (hw:ss.length≤32) (h8:∀ s∈ss,s.parts.length≤8) {sets:List Al} {n x:Nat} {a:Al} (ha:sets[n]? =some a) (hx:x < 256)
 (hok:∀ i s,ss[i]? =some s→a.2.toNat.testBit i=true→a.1 < s.parts.length) (hd:a.1≤64)
 (nl nl3:Bool) (rs:List PV) (o0 o1 o2 o3 o4:AObj) (hc:mapO (cutObj 6) [o0,o1,o2,o3,o4]=some [o0,o1,o2,o3,o4]):
 wpO (fun r=>∃ E,r=(.exit 8,⟨E,[o0,o1,o2,o3,o4,pbx (setC ((a.1:Int)+1) fun j=>decide (j < ss.length)&&onB ss a x j)]⟩)∧E.get 1= .pv (.rp [S] 0)∧E.get 5= .uq 0 nl 2048 (hasEs ss)∧E.get 10= .uq 2 false 33 (sets.map encS)∧E.get 11= .uq 3 nl3 256 rs∧E.get 12= .pv (i64 n)∧E.get 13= .ptr 4 0∧E.get 14= .pv (i64 x)∧E.get 15= .ptr 5 0∧
  E.get 16= .pv (.bool (anyTo (onB ss a x) ss.length))∧E.get 17= .pv (.bool (anyTo (endB ss a x) ss.length)))
  (loopA (roundA (evalC call b_leadtrailref13_Sets_l4) (clean 6 [1,5,10,11,12,13,14,15,16,17,18])) rounds ⟨eR_y S nl nl3 (hasEs ss) (sets.map encS) rs n x 0 false false,[o0,o1,o2,o3,o4,pbx (setC ((a.1:Int)+1) fun _=>false)]⟩):=by
 have ln:=hS.lenA
 have a0:(setC ((a.1:Int)+1) fun _=>false)=setC ((a.1:Int)+1) fun j=>decide (j < 0)&&onB ss a x j:=by simp
 rw[a0]
 refine wpO_mono (loopN_wp (g:=roundA (evalC call b_leadtrailref13_Sets_l4) (clean 6 [1,5,10,11,12,13,14,15,16,17,18]))
  (fun i t=>t=⟨eR_y S nl nl3 (hasEs ss) (sets.map encS) rs n x i (anyTo (onB ss a x) i) (anyTo (endB ss a x) i),[o0,o1,o2,o3,o4,pbx (setC ((a.1:Int)+1) fun j=>decide (j < i)&&onB ss a x j)]⟩)
  ss.length (by unfold rounds;omega) _ rfl ?_ ?_) (fun r h=>h.2)
 ·rintro i t hi rfl
  obtain⟨P,ps,hP,b0⟩:=hS.iaddr hi
  have lP:=hP.parts.lenA
  have hsi:ss[i]? =some ss[i]:=List.getElem?_eq_getElem hi
  have hdep:=hok i _ hsi
  have h8i:=h8 _ (List.getElem_mem hi)
  have i1:=fun H=>uq33_iaddr H 2 false ha
  have i2:=fun H=>uqH_iaddr H 0 nl hi
  have l1:=rp_load (setC_get (a.1:Int) a.2.toNat.testBit (i:=i) (by omega))
  have l0:=rp_load (show (setC (a.1:Int) a.2.toNat.testBit)[0]? =some (i64 a.1) from rfl)
  have l2:a.1 < ss[i].parts.length→∀ H,loadA H false 1 (.pv (.rp (hasC ss[i]) (a.1 * 256+x)))=some (.pv (.bool (memAt ss[i] a.1 x))):=by
   intro hlt
   refine rp_load ?_
   rw[hasC,tabN_get _ (by omega),hasF,show (a.1 * 256+x) / 256=a.1 by omega,show (a.1 * 256+x) % 256=x by omega,decide_eq_true (show a.1 < 8 by omega),Bool.true_and]
  have onE:onB ss a x i=(a.2.toNat.testBit i&&memAt ss[i] a.1 x):=by rw[onB,hsi]
  have enE:endB ss a x i=(onB ss a x i&&((ss[i].parts.length:Int)==(a.1:Int)+1)):=by rw[endB,hsi]
  have p1:=pbx_place (A:=[o0,o1,o2,o3,o4,pbx (setC ((a.1:Int)+1) fun j=>decide (j < i)&&onB ss a x j)]) (id:=5) (es:=setC ((a.1:Int)+1) fun j=>decide (j < i)&&onB ss a x j) rfl 0 1
  have p2:=pbx_place (A:=[o0,o1,o2,o3,o4,pbx (setC ((a.1:Int)+1) fun j=>decide (j < i)&&onB ss a x j)]) (id:=5) (es:=setC ((a.1:Int)+1) fun j=>decide (j < i)&&onB ss a x j) rfl 1 i
  rw[Nat.zero_add] at p1
  have st:=pbx_store (A:=[o0,o1,o2,o3,o4,pbx (setC ((a.1:Int)+1) fun j=>decide (j < i)&&onB ss a x j)]) (id:=5) (es:=setC ((a.1:Int)+1) fun j=>decide (j < i)&&onB ss a x j) rfl (k:=1+i) (by rw[setC_len];omega) (e:= .bool (onB ss a x i)) rfl rfl
  have hnew:(setC ((a.1:Int)+1) fun j=>decide (j < i)&&onB ss a x j).set (1+i) (.bool (onB ss a x i))=setC ((a.1:Int)+1) fun j=>decide (j < i+1)&&onB ss a x j:=by
   rw[Nat.add_comm 1 i]
   unfold setC
   rw[List.set_cons_succ,onC_set _ (by omega)]
   congr 1
   refine onC_congr fun j hj=> ?_
   by_cases h:j=i
   ·subst h;simp
   ·rw[if_neg h]
    congr 1
    rw[decide_eq_decide];omega
  rw[hnew] at st
  have st2:([o0,o1,o2,o3,o4,pbx (setC ((a.1:Int)+1) fun j=>decide (j < i)&&onB ss a x j)]:List AObj).set 5 (pbx (setC ((a.1:Int)+1) fun j=>decide (j < i+1)&&onB ss a x j))=[o0,o1,o2,o3,o4,pbx (setC ((a.1:Int)+1) fun j=>decide (j < i+1)&&onB ss a x j)]:=rfl
  rw[st2] at st
  have q1:=pbx_place (A:=[o0,o1,o2,o3,o4,pbx (setC ((a.1:Int)+1) fun j=>decide (j < i+1)&&onB ss a x j)]) (id:=5) (es:=setC ((a.1:Int)+1) fun j=>decide (j < i+1)&&onB ss a x j) rfl 0 1
  have q0:=pbx_place (A:=[o0,o1,o2,o3,o4,pbx (setC ((a.1:Int)+1) fun j=>decide (j < i+1)&&onB ss a x j)]) (id:=5) (es:=setC ((a.1:Int)+1) fun j=>decide (j < i+1)&&onB ss a x j) rfl 0 0
  have q2:=pbx_place (A:=[o0,o1,o2,o3,o4,pbx (setC ((a.1:Int)+1) fun j=>decide (j < i+1)&&onB ss a x j)]) (id:=5) (es:=setC ((a.1:Int)+1) fun j=>decide (j < i+1)&&onB ss a x j) rfl 1 i
  rw[Nat.zero_add] at q1 q0
  have k1:=pbx_load (A:=[o0,o1,o2,o3,o4,pbx (setC ((a.1:Int)+1) fun j=>decide (j < i+1)&&onB ss a x j)]) (id:=5) (es:=setC ((a.1:Int)+1) fun j=>decide (j < i+1)&&onB ss a x j) rfl (setC_get _ _ (i:=i) (by omega))
  have k0:=pbx_load (A:=[o0,o1,o2,o3,o4,pbx (setC ((a.1:Int)+1) fun j=>decide (j < i+1)&&onB ss a x j)]) (id:=5) (es:=setC ((a.1:Int)+1) fun j=>decide (j < i+1)&&onB ss a x j) rfl (k:=0) (e:=i64 ((a.1:Int)+1)) rfl
  rw[decide_eq_true (Nat.lt_succ_self i),Bool.true_and] at k1
  have c5:=pbx_cut (setC ((a.1:Int)+1) fun j=>decide (j < i+1)&&onB ss a x j) 6
  have e1:decide ((i:Int) < (ss.length:Int))=true:=dec_t (by omega)
  have t2:=stepWrap hi (show ss.length≤maxLen by unfold maxLen;omega)
  have hq:idxOk (i:Int) 32:=by unfold idxOk;omega
  have hqx:idxOk (x:Int) 256:=by unfold idxOk;omega
  have t1:∀ i:Nat,((i:Int)).toNat=i:=fun i=>by simp
  have m1:∀ i:Nat,i * 1=i:=fun i=>by omega
  have z1:∀ i:Nat,0+i=i:=fun i=>by omega
  have hLN:∀ st:St,st=⟨eR_y S nl nl3 (hasEs ss) (sets.map encS) rs n x (i+1:Nat) (anyTo (onB ss a x) i||onB ss a x i) (anyTo (endB ss a x) i||endB ss a x i),[o0,o1,o2,o3,o4,pbx (setC ((a.1:Int)+1) fun j=>decide (j < i+1)&&onB ss a x j)]⟩→
   LN (fun i t=>t=⟨eR_y S nl nl3 (hasEs ss) (sets.map encS) rs n x i (anyTo (onB ss a x) i) (anyTo (endB ss a x) i),[o0,o1,o2,o3,o4,pbx (setC ((a.1:Int)+1) fun j=>decide (j < i)&&onB ss a x j)]⟩)
   (fun r=>∃ E,r=(.exit 8,⟨E,[o0,o1,o2,o3,o4,pbx (setC ((a.1:Int)+1) fun j=>decide (j < ss.length)&&onB ss a x j)]⟩)∧E.get 1= .pv (.rp [S] 0)∧E.get 5= .uq 0 nl 2048 (hasEs ss)∧E.get 10= .uq 2 false 33 (sets.map encS)∧E.get 11= .uq 3 nl3 256 rs∧E.get 12= .pv (i64 n)∧E.get 13= .ptr 4 0∧E.get 14= .pv (i64 x)∧E.get 15= .ptr 5 0∧
    E.get 16= .pv (.bool (anyTo (onB ss a x) ss.length))∧E.get 17= .pv (.bool (anyTo (endB ss a x) ss.length))) i (.norm,st):=fun st h=>h
  generalize LN _ _ i=QQ at hLN ⊢
  generalize (setC ((a.1:Int)+1) fun j=>decide (j < i)&&onB ss a x j)=Y at *
  generalize (setC ((a.1:Int)+1) fun j=>decide (j < i+1)&&onB ss a x j)=Y' at *
  generalize setC (a.1:Int) a.2.toNat.testBit=row at *
  generalize pbx Y=oY at *
  generalize pbx Y'=oY' at *
  have hcl:mapO (cutObj 6) [o0,o1,o2,o3,o4,oY']=some [o0,o1,o2,o3,o4,oY']:=by
   simp only[mapO,Option.bind_eq_some_iff,Option.map_eq_some_iff] at hc
   simp only[mapO]
   obtain⟨_,h0,_,⟨_,h1,_,⟨_,h2,_,⟨_,h3,_,⟨_,h4,_⟩,_⟩,_⟩,_⟩,hh⟩:=hc
   simp_all
  have htk:∀ a b c d e f:AObj,([a,b,c,d,e,f]:List AObj).take 6=[a,b,c,d,e,f]:=fun a b c d e f=>rfl
  have d0:(0 < 6)=True:=by simp
  have d2:(2 < 6)=True:=by simp
  have d3:(3 < 6)=True:=by simp
  have d4:(4 < 6)=True:=by simp
  have d5:(5 < 6)=True:=by simp
  generalize hasC ss[i]=hrow at *
  generalize ss[i]=s at *
  generalize hasEs ss=os at *
  generalize sets.map encS=se at *
  generalize anyTo (onB ss a x) i=so at *
  generalize anyTo (endB ss a x) i=en at *
  generalize hle:((s.parts.length:Int)==(a.1:Int)+1)=le at *
  rw[enE] at hLN
  rw[onE] at st k1 hLN
  generalize hbb:a.2.toNat.testBit i=bb at *
  generalize memAt s a.1 x=mm at *
  have hm6:(10≤20)=True:=by simp
  cases bb with
  |false=>
   simp only[Bool.false_and,Bool.or_false] at st k1 hLN
   cases so <;> cases en <;>
   ·simp (implicitDefEqProofs:=false) only[SP,SA,WP,sevalprocAttr,-List.reduceReplicate,b_leadtrailref13_Sets_l4,rp1_place,rp1_load,rp_place,ln,e1,t2,i1,i2,l0,l1,eq_true hq,eq_true hqx,t1,m1,z1,p1,p2,st,q0,q1,q2,k0,k1,hcl,htk,d0,d2,d3,d4,d5,clean,cutEnv,AV.cut,deep_eq',eR_y]
    exact hLN _ rfl
  |true=>
   have l2':=l2 (hdep rfl)
   have hqd:idxOk (a.1:Int) 8:=by have:=hdep rfl;unfold idxOk;omega
   simp only[Bool.true_and] at st k1 hLN
   cases mm with
   |false=>
    simp only[Bool.false_and,Bool.or_false] at hLN
    cases so <;> cases en <;>
    ·simp (implicitDefEqProofs:=false) only[SP,SA,WP,sevalprocAttr,-List.reduceReplicate,b_leadtrailref13_Sets_l4,rp1_place,rp1_load,rp_place,ln,e1,t2,i1,i2,l0,l1,l2',eq_true hq,eq_true hqx,eq_true hqd,t1,m1,z1,p1,p2,st,q0,q1,q2,k0,k1,hcl,htk,d0,d2,d3,d4,d5,clean,cutEnv,AV.cut,deep_eq',eR_y]
     exact hLN _ rfl
   |true=>
    simp only[Bool.true_and,Bool.or_true] at hLN
    cases so <;> cases en <;>
    ·simp (implicitDefEqProofs:=false) only[SP,SA,WP,sevalprocAttr,-List.reduceReplicate,b_leadtrailref13_Sets_l4,rp1_place,rp1_load,rp2_place,rp2_load,rp_place,ln,lP,b0,e1,t2,i1,i2,l0,l1,l2',eq_true hq,eq_true hqx,eq_true hqd,t1,m1,z1,p1,p2,st,q0,q1,q2,k0,k1,hle,hcl,htk,d0,d2,d3,d4,d5,clean,cutEnv,AV.cut,deep_eq',eR_y]
     exact hLN _ rfl
 ·rintro t rfl
  have e1:decide ((ss.length:Int) < (ss.length:Int))=false:=dec_f (by omega)
  generalize pbx (setC ((a.1:Int)+1) fun j=>decide (j < ss.length)&&onB ss a x j)=oF
  generalize hasEs ss=os
  generalize sets.map encS=se
  generalize anyTo (onB ss a x) ss.length=so
  generalize anyTo (endB ss a x) ss.length=en
  generalize hQ:(fun r:Ex×St=>r.1.stop=true∧_)=Q
  simp (implicitDefEqProofs:=false) only[SP,SA,WP,sevalprocAttr,-List.reduceReplicate,b_leadtrailref13_Sets_l4,rp1_place,rp1_load,ln,e1,eR_y]
  subst hQ
  exact⟨rfl,_,rfl,by simp[Tr.get_set],by simp[Tr.get_set],by simp[Tr.get_set],by simp[Tr.get_set],by simp[Tr.get_set],by simp[Tr.get_set],by simp[Tr.get_set],by simp[Tr.get_set],by simp[Tr.get_set],by simp[Tr.get_set]⟩
end Go.AM.B1
namespace Go.AM.B1
open Go.AM Go.AM.So
theorem rankR_mem {x:Int}:∀ {l:List (Int×Int)} {last n:Int},validR 255 last l=true→((rankR x n l).2=true↔memR x l)
 | [],last,n,h=>by simp[rankR,memR_nil]
 |p::l,last,n,h=>by
  have hp:=validR_piece h p (by simp)
  have h2:=h
  simp only[validR,Bool.and_eq_true] at h2
  rw[rankR,memR_cons]
  by_cases h1:x < p.1
  ·rw[if_pos h1]
   simp only[Bool.false_eq_true,false_iff]
   rintro (h3 | h3)
   ·omega
   ·have:=validR_memlow h2.2 h3;omega
  ·rw[if_neg h1]
   by_cases h3:x≤p.2
   ·rw[if_pos h3];simp;omega
   ·rw[if_neg h3,rankR_mem h2.2]
    constructor
    ·exact .inr
    ·rintro (h4 | h4)
     ·omega
     ·exact h4
theorem hasR_memB (l:List (Int×Int)) (x:Nat):hasR l x=memB l x:=by
 unfold hasR setR memB
 by_cases h:validR 255 (-2) l=true
 ·rw[if_pos h,h,Bool.true_and,Bool.eq_iff_iff,rankR_mem h,inR_mem]
 ·rw[if_neg h]
  have:validR 255 (-2) l=false:=by simpa using h
  rw[this];rfl
theorem hasAt_memAt (s:Shp) (d x:Nat):hasAt s d x=memAt s d x:=by
 unfold hasAt memAt
 cases s.parts[d]? with
 |none=>rfl
 |some l=>exact hasR_memB l x
theorem anyTo_iff (f:Nat→Bool):∀ n,anyTo f n=true↔∃ j,j < n∧f j=true
 |0=>by simp[anyTo]
 |n+1=>by
  rw[anyTo,Bool.or_eq_true,anyTo_iff f n]
  constructor
  ·rintro (⟨j,h1,h2⟩ | h)
   ·exact⟨j,by omega,h2⟩
   ·exact⟨n,by omega,h⟩
  ·rintro⟨j,h1,h2⟩
   by_cases h:j=n
   ·subst h;exact .inr h2
   ·exact .inl ⟨j,by omega,h2⟩
theorem onB_off {ss:List Shp} {a:Al} {x j:Nat} (h:ss.length≤j):onB ss a x j=false:=by
 rw[onB,List.getElem?_eq_none h,Bool.and_false]
structure BehIs (ss:List Shp) (a:Al) (x:Nat) (m:Nat):Prop where
 fst:(behS x a.2 a.1 0 ss (0,false)).1=(m:Int)
 lt:m < 4294967296
 bit:∀ j,m.testBit j=onB ss a x j
 ends:(behS x a.2 a.1 0 ss (0,false)).2=anyTo (endB ss a x) ss.length
 ex:m≠0↔anyTo (onB ss a x) ss.length=true
theorem beh_is {ss:List Shp} {a:Al} (hb:Bit a) (hw:ss.length≤32) (x:Nat):∃ m,BehIs ss a x m:=by
 obtain⟨d,_⟩:=a
 obtain⟨b,rfl,hb⟩:=hb
 have hN:behS x (b:Int) d 0 ss (0,false)=(((behN x b d 0 ss (0,false)).1:Int),(behN x b d 0 ss (0,false)).2):=behS_N (x:=x) (d:=d) hb ss 0 (0,false) (by omega) (by decide)
 have hbit:∀ j,(behN x b d 0 ss (0,false)).1.testBit j=onB ss (d,(b:Int)) x j:=by
  intro j
  rw[behN_spec]
  simp only[Nat.zero_testBit,Nat.zero_le,decide_true,Bool.true_and,Bool.false_or,Nat.sub_zero,onB,Int.toNat_natCast]
  cases ss[j]? with
  |none=>simp
  |some s=>simp only[hasAt_memAt]
 refine⟨(behN x b d 0 ss (0,false)).1,?_,behN_lt ss 0 (0,false) (by omega) (by decide),hbit,?_,?_⟩
 ·show (behS x (b:Int) d 0 ss (0,false)).1=_
  rw[hN]
 ·show (behS x (b:Int) d 0 ss (0,false)).2=_
  rw[hN]
  show (behN x b d 0 ss (0,false)).2=_
  rw[behN_ends,Bool.false_or,Bool.eq_iff_iff,List.any_eq_true,anyTo_iff]
  constructor
  ·rintro⟨⟨s,j⟩,h1,h2⟩
   rw[List.mk_mem_zipIdx_iff_getElem?] at h1
   have hj:=(List.getElem?_eq_some_iff.1 h1).1
   refine⟨j,hj,?_⟩
   simp only[hasAt_memAt,Bool.and_eq_true,beq_iff_eq] at h2
   rw[endB,onB,h1]
   simp only[Int.toNat_natCast,Bool.and_eq_true,beq_iff_eq]
   exact⟨h2.1,by omega⟩
  ·rintro⟨j,hj,h2⟩
   have h1:ss[j]? =some ss[j]:=List.getElem?_eq_getElem hj
   rw[endB,onB,h1] at h2
   simp only[Int.toNat_natCast,Bool.and_eq_true,beq_iff_eq] at h2
   refine⟨(ss[j],j),by rw[List.mk_mem_zipIdx_iff_getElem?];exact h1,?_⟩
   simp only[hasAt_memAt,Bool.and_eq_true,beq_iff_eq]
   exact⟨h2.1,by omega⟩
 ·rw[anyTo_iff]
  constructor
  ·intro h
   apply Decidable.byContradiction
   intro hn
   apply h
   apply Nat.eq_of_testBit_eq
   intro j
   rw[hbit,Nat.zero_testBit]
   by_cases hj:j < ss.length
   ·cases hc:onB ss (d,(b:Int)) x j with
    |false=>rfl
    |true=>exact absurd ⟨j,hj,hc⟩ hn
   ·exact onB_off (by omega)
  ·rintro⟨j,hj,h⟩ h0
   rw[← hbit,h0,Nat.zero_testBit] at h
   cases h
theorem BehIs.enc {ss:List Shp} {a:Al} {x m:Nat} (h:BehIs ss a x m):setC ((a.1:Int)+1) (fun j=>decide (j < ss.length)&&onB ss a x j)=setC ((a.1+1:Nat):Int) m.testBit:=by
 have:((a.1+1:Nat):Int)=(a.1:Int)+1:=by omega
 rw[this]
 unfold setC
 congr 1
 refine onC_congr fun j hj=> ?_
 rw[h.bit]
 by_cases hj:j < ss.length
 ·rw[decide_eq_true hj,Bool.true_and]
 ·rw[decide_eq_false hj,Bool.false_and,onB_off (by omega)]
theorem BehIs.bitA {ss:List Shp} {a:Al} {x m:Nat} (h:BehIs ss a x m):Bit (a.1+1,(m:Int)):=⟨m,rfl,h.lt⟩
theorem BehIs.step {ss:List Shp} {a:Al} {x m:Nat} (h:BehIs ss a x m) (sets:List Al):
 stepX ss a x sets=if anyTo (onB ss a x) ss.length=false then some (sets,-2)
  else if anyTo (endB ss a x) ss.length=true then some (sets,-1)
  else match idxR (a.1+1,(m:Int)) sets 0 with
   |some k=>some (sets,(k:Int))
   |none=>if sets.length < 64 then some (sets++[(a.1+1,(m:Int))],(sets.length:Int)) else none:=by
 unfold stepX
 rw[h.ends,h.fst]
 have:((m:Int)=0)=(anyTo (onB ss a x) ss.length=false):=by
  apply propext
  have:=h.ex
  cases hc:anyTo (onB ss a x) ss.length with
  |true=>rw[hc] at this;simp;have:=this.2 rfl;omega
  |false=>
   rw[hc] at this
   simp
   exact Decidable.byContradiction fun hn=>by have:=this.1 hn;cases this
 by_cases h1:anyTo (onB ss a x) ss.length=false
 ·rw[if_pos h1,if_pos (this.mpr h1)]
 ·rw[if_neg h1,if_neg (fun h=>h1 (this.mp h))]
  by_cases h2:anyTo (endB ss a x) ss.length=true
  ·rw[if_pos h2,if_pos h2]
  ·rw[if_neg h2,if_neg h2]
   cases idxR (a.1+1,(m:Int)) sets 0 <;> rfl
end Go.AM.B1
namespace Go.AM.B1
open Go.AM Go.AM.So
abbrev eR_x (S:PV) (nl nl3:Bool) (os es rs:List PV) (n x:Int):Tr:=
 ((((((Tr.lf.set 14 (.pv (i64 x))).set 13 (.ptr 4 0)).set 12 (.pv (i64 n))).set 11 (.uq 3 nl3 256 rs)).set 10 (.uq 2 false 33 es)).set 5 (.uq 0 nl 2048 os)).set 1 (.pv (.rp [S] 0))
theorem z33_eq:([PV.int .i64 0,PV.bool false,PV.bool false,PV.bool false,PV.bool false,PV.bool false,PV.bool false,PV.bool false,PV.bool false,PV.bool false,PV.bool false,PV.bool false,PV.bool false,PV.bool false,PV.bool false,PV.bool false,PV.bool false,PV.bool false,PV.bool false,PV.bool false,PV.bool false,PV.bool false,PV.bool false,PV.bool false,PV.bool false,PV.bool false,PV.bool false,PV.bool false,PV.bool false,PV.bool false,PV.bool false,PV.bool false,PV.bool false]:List PV)=setC 0 fun _=>false:=rfl
theorem setC_put (d e:Int) (f:Nat→Bool):((setC d f).map AV.pv).set 0 (.pv (i64 e))=(setC e f).map AV.pv:=rfl
theorem all_one {es:List PV} (h:∀ e∈es,(AV.pv e).one=true):(es.map AV.pv).all AV.one=true:=by
 rw[List.all_eq_true];intro v hv
 obtain⟨e,he,rfl⟩:=List.mem_map.1 hv
 exact h e he
theorem setRow_whole {es zs:List PV} (h:es.length=zs.length):setRow (zs.map AV.pv++[]) 0 (es.map AV.pv)=es.map AV.pv:=by
 have:=setRow_pre (es.map AV.pv) (zs.map AV.pv) [] (by simp;omega)
 rw[List.append_nil]
 simpa using this
section
variable (call:CallF) {S:PV} {ss:List Shp} {es:List PV} (hS:HeldSch S ss es) (hw:ss.length≤32) (h8:∀ s∈ss,s.parts.length≤8) {sets:List Al} {n x:Nat} {a:Al} (ha:sets[n]? =some a) (hx:x < 256)
 (hok:AllOk ss sets) (hd:a.1≤64)
 (nl nl3:Bool) (rs:List PV) (o0 o1 o3:AObj) (h0:∀ n,cutObj n o0=some o0) (h1:∀ n,cutObj n o1=some o1) (h3:∀ n,cutObj n o3=some o3) {row:List Int} (hrow:row.length=256)
include hS hw h8 ha hx hok hd h0 h1 h3 hrow
set_option maxRecDepth 8000 in
theorem sets_l3_round:
 wpO (fun r=>(∃ p,stepX ss a x sets=some p∧r=(.norm,⟨eR_x S nl nl3 (hasEs ss) (p.1.map encS) rs n (x+1:Nat),[o0,o1,.tok 33 p.1.length false,o3,pbx ((row.set x p.2).map i64)]⟩))∨
  (stepX ss a x sets=none∧∃ E H,r=(.ret,⟨E,H⟩)∧E.get 2= .pv .nils∧E.get 3= .pv .nils∧E.get 4= .pv (.bool false)))
  (roundA (evalC call b_leadtrailref13_Sets_l3) (clean 5 [1,5,10,11,12,13,14]) ⟨eR_x S nl nl3 (hasEs ss) (sets.map encS) rs n x,[o0,o1,.tok 33 sets.length false,o3,pbx (row.map i64)]⟩):=by
 obtain⟨_,b,hb,hblt,hbok⟩:=hok.2 n a ha
 have hba:Bit a:=⟨b,hb,hblt⟩
 have hall:∀ c∈sets,Bit c:=by
  intro c hc
  obtain⟨k,hk,rfl⟩:=List.getElem_of_mem hc
  obtain⟨_,b,hb,hblt,_⟩:=hok.2 k _ (List.getElem?_eq_getElem hk)
  exact⟨b,hb,hblt⟩
 have hl64:=hok.1
 obtain⟨m,hm⟩:=beh_is (x:=x) hba hw
 have hstep:=hm.step sets
 have hcR:∀ n (r:List Int),cutObj n (pbx (r.map i64))=some (pbx (r.map i64)):=fun n r=>pbx_cut _ n
 have c2:∀ k n,cutObj k (.tok 33 n false)=some (.tok 33 n false):=fun k n=>rfl
 have hc6:mapO (cutObj 6) [o0,o1,.tok 33 sets.length false,o3,pbx (row.map i64)]=some [o0,o1,.tok 33 sets.length false,o3,pbx (row.map i64)]:=by
  simp only[mapO,h0,h1,h3,c2,hcR,Option.bind_some,Option.map_some]
 have hl4:=sets_l4 call hS hw h8 ha hx (fun i s hs ht=>hbok i s hs (by rw[hb] at ht;simpa using ht)) hd nl nl3 rs o0 o1 (.tok 33 sets.length false) o3 (pbx (row.map i64)) hc6
 rw[hm.enc] at hl4
 have i1:=fun H=>uq33_iaddr H 2 false ha
 have l0:=rp_load (show (setC (a.1:Int) a.2.toNat.testBit)[0]? =some (i64 a.1) from rfl)
 have e1:decide ((x:Int) < 256)=true:=dec_t (by omega)
 have t2:IntKind.i64.wrap ((x:Int)+1)=((x+1:Nat):Int):=wrap_int (by omega)
 have t3:IntKind.i64.wrap ((a.1:Int)+1)=(a.1:Int)+1:=wrap_int (by omega)
 have hq:idxOk (x:Int) 256:=by unfold idxOk;omega
 have t1:∀ i:Nat,((i:Int)).toNat=i:=fun i=>by simp
 have m1:∀ i:Nat,i * 1=i:=fun i=>by omega
 have z1:∀ i:Nat,0+i=i:=fun i=>by omega
 have zl:=setC_len 0 fun _=>false
 have f1:(0+1≤((setC 0 fun _=>false).map AV.pv).length)=True:=eq_true (by rw[List.length_map,zl];omega)
 have f1':(1≤((setC 0 fun _=>false).map AV.pv).length)=True:=eq_true (by rw[List.length_map,zl];omega)
 have f2:=setC_put 0 ((a.1:Int)+1) fun _=>false
 have f3:=allPV_map (setC ((a.1:Int)+1) fun _=>false)
 have st0:storeA [o0,o1,.tok 33 sets.length false,o3,pbx (row.map i64),pbx (setC 0 fun _=>false)] 33 (.ptr 5 0) (.pv (.agg (setC ((a.1:Int)+1) fun _=>false)))=some [o0,o1,.tok 33 sets.length false,o3,pbx (row.map i64),pbx (setC ((a.1:Int)+1) fun _=>false)]:=
  pbx_storeAll (id:=5) rfl zl (setC_len _ _) (setC_one _ _)
 have hcl6:∀ Y:List PV,mapO (cutObj 6) [o0,o1,.tok 33 sets.length false,o3,pbx (row.map i64),pbx Y]=some [o0,o1,.tok 33 sets.length false,o3,pbx (row.map i64),pbx Y]:=by
  intro Y
  simp only[mapO,h0,h1,h3,c2,hcR,pbx_cut Y 6,Option.bind_some,Option.map_some]
 have hcl60:=hcl6 (setC ((a.1:Int)+1) fun _=>false)
 have hcl5:∀ (k:Nat) (r:List Int),mapO (cutObj 5) [o0,o1,.tok 33 k false,o3,pbx (r.map i64)]=some [o0,o1,.tok 33 k false,o3,pbx (r.map i64)]:=by
  intro k r
  simp only[mapO,h0,h1,h3,c2,hcR,Option.bind_some,Option.map_some]
 have htk6:∀ a b c d e f:AObj,([a,b,c,d,e,f]:List AObj).take 6=[a,b,c,d,e,f]:=fun a b c d e f=>rfl
 have htk5:∀ a b c d e f:AObj,([a,b,c,d,e,f]:List AObj).take 5=[a,b,c,d,e]:=fun a b c d e f=>rfl
 have d6:∀ k:Fin 6,((k:Nat) < 6)=True:=by intro k;simp
 have d60:(0 < 6)=True:=by simp
 have d62:(2 < 6)=True:=by simp
 have d63:(3 < 6)=True:=by simp
 have d64:(4 < 6)=True:=by simp
 have d65:(5 < 6)=True:=by simp
 have d50:(0 < 5)=True:=by simp
 have d52:(2 < 5)=True:=by simp
 have d53:(3 < 5)=True:=by simp
 have d54:(4 < 5)=True:=by simp
 have pl:∀ (k:Nat) (r:List Int) (Y:List PV),place [o0,o1,.tok 33 k false,o3,pbx (r.map i64),pbx Y] x (.ptr 4 0)=some (.ptr 4 x):=by
  intro k r Y
  have:=pbx_place (A:=[o0,o1,.tok 33 k false,o3,pbx (r.map i64),pbx Y]) (id:=4) (es:=r.map i64) rfl 0 x
  rw[this,Nat.zero_add]
 have st:∀ (k:Nat) (r:List Int) (Y:List PV) (v:Int),r.length=256→storeA [o0,o1,.tok 33 k false,o3,pbx (r.map i64),pbx Y] 1 (.ptr 4 x) (.pv (i64 v))=some [o0,o1,.tok 33 k false,o3,pbx ((r.set x v).map i64),pbx Y]:=by
  intro k r Y v hr
  have:=pbx_store (A:=[o0,o1,.tok 33 k false,o3,pbx (r.map i64),pbx Y]) (id:=4) (es:=r.map i64) rfl (k:=x) (by rw[List.length_map];omega) (e:=i64 v) rfl rfl
  rw[this,List.map_set];rfl
 have hset:∀ v,((row.set x (-2)).set x v)=row.set x v:=fun v=>by rw[List.set_set]
 have st1:=st sets.length row (setC ((a.1+1:Nat):Int) m.testBit) (-2) hrow
 have st2:=fun (k:Nat) v=>st k (row.set x (-2)) (setC ((a.1+1:Nat):Int) m.testBit) v (by simp[hrow])
 simp only[hset] at st2
 have pl1:=pl sets.length row (setC ((a.1+1:Nat):Int) m.testBit)
 have pl2:=fun k=>pl k (row.set x (-2)) (setC ((a.1+1:Nat):Int) m.testBit)
 have hfd:=find_run hl64 hm.bitA hall
 have hldY:∀ (k:Nat) (r:List Int),loadA [o0,o1,.tok 33 k false,o3,pbx (r.map i64),pbx (setC ((a.1+1:Nat):Int) m.testBit)] true 33 (.ptr 5 0)=some (.pv (.agg (setC ((a.1+1:Nat):Int) m.testBit))):=fun k r=>pbx_loadAll (id:=5) rfl (setC_len _ _)
 have hYl:((setC ((a.1+1:Nat):Int) m.testBit).map AV.pv).length=33:=by rw[List.length_map,setC_len]
 have hYl':=setC_len ((a.1+1:Nat):Int) m.testBit
 have hYr:setRow ((setC 0 fun _=>false).map AV.pv++[]) 0 ((setC ((a.1+1:Nat):Int) m.testBit).map AV.pv)=(setC ((a.1+1:Nat):Int) m.testBit).map AV.pv:=setRow_whole (by rw[setC_len,setC_len])
 have hYa:=all_one (setC_one ((a.1+1:Nat):Int) m.testBit)
 have hYp:=allPV_map (setC ((a.1+1:Nat):Int) m.testBit)
 have hYt:(setC ((a.1+1:Nat):Int) m.testBit).take 33=setC ((a.1+1:Nat):Int) m.testBit:=List.take_of_length_le (by rw[setC_len];exact Nat.le_refl _)
 have f4:(33≤((setC 0 fun _=>false).map AV.pv++[]).length)=True:=eq_true (by rw[List.append_nil,List.length_map,zl];exact Nat.le_refl _)
 have hap:sets.length < 64→appendA [o0,o1,.tok 33 sets.length false,o3,pbx ((row.set x (-2)).map i64),pbx (setC ((a.1+1:Nat):Int) m.testBit)] false .uq 33 true 40 (.uq 2 false 33 (sets.map encS)) (.pv (.lit 33 [.agg (setC ((a.1+1:Nat):Int) m.testBit)]))=
  some (.uq 2 false 33 ((sets++[(a.1+1,(m:Int))]).map encS),[o0,o1,.tok 33 (sets.length+1) false,o3,pbx ((row.set x (-2)).map i64),pbx (setC ((a.1+1:Nat):Int) m.testBit)]):=by
  intro hlt
  have:=uq_append (A:=[o0,o1,.tok 33 sets.length false,o3,pbx ((row.set x (-2)).map i64),pbx (setC ((a.1+1:Nat):Int) m.testBit)]) (id:=2) (n:=sets.length) (sz:=33) (h:= .uq) (nl:=false) (ag:=true) (bytes:=40) (es:=sets.map encS) rfl (by rw[List.length_map]) (by unfold roomOk;omega) (.agg (setC ((a.1+1:Nat):Int) m.testBit))
  rw[this,List.map_append];rfl
 have hen:encS (a.1+1,(m:Int))= .agg (setC ((a.1+1:Nat):Int) m.testBit):=by simp[encS]
 rw[hen] at hfd
 have lsn:lenA [] 0 (.uq 2 false 33 (sets.map encS))=some sets.length:=by simp[lenA]
 have hslen:(sets.map encS).length=sets.length:=List.length_map _
 have hR1:∀ p,stepX ss a x sets=some p→∀ st:St,st=⟨eR_x S nl nl3 (hasEs ss) (p.1.map encS) rs n (x+1:Nat),[o0,o1,.tok 33 p.1.length false,o3,pbx ((row.set x p.2).map i64)]⟩→(∃ p,stepX ss a x sets=some p∧(Ex.norm,st)=(Ex.norm,⟨eR_x S nl nl3 (hasEs ss) (p.1.map encS) rs n (x+1:Nat),[o0,o1,.tok 33 p.1.length false,o3,pbx ((row.set x p.2).map i64)]⟩))∨
  (stepX ss a x sets=none∧∃ E H,(Ex.norm,st)=(.ret,⟨E,H⟩)∧E.get 2= .pv .nils∧E.get 3= .pv .nils∧E.get 4= .pv (.bool false)):=fun p hp st h=> .inl ⟨p,hp,by rw[h]⟩
 have hR2:stepX ss a x sets=none→∀ E H,E.get 2= .pv .nils→E.get 3= .pv .nils→E.get 4= .pv (.bool false)→(∃ p,stepX ss a x sets=some p∧(Ex.ret,(⟨E,H⟩:St))=(Ex.norm,⟨eR_x S nl nl3 (hasEs ss) (p.1.map encS) rs n (x+1:Nat),[o0,o1,.tok 33 p.1.length false,o3,pbx ((row.set x p.2).map i64)]⟩))∨
  (stepX ss a x sets=none∧∃ E' H',(Ex.ret,(⟨E,H⟩:St))=(.ret,⟨E',H'⟩)∧E'.get 2= .pv .nils∧E'.get 3= .pv .nils∧E'.get 4= .pv (.bool false)):=fun hp E H g2 g3 g4=> .inr ⟨hp,E,H,rfl,g2,g3,g4⟩
 generalize hQQ:(fun r:Ex×St=>_)=QQ
 have hz:=z33_eq
 generalize hzs:(setC 0 fun _=>false)=zs at *
 generalize hys:(setC ((a.1:Int)+1) fun _=>false)=ys at *
 generalize hYY:setC ((a.1+1:Nat):Int) m.testBit=Y at *
 generalize setC (a.1:Int) a.2.toNat.testBit=arow at *
 generalize hRR:pbx (row.map i64)=R at *
 simp (implicitDefEqProofs:=false) only[SP,WP,setRow,sevalprocAttr,-List.reduceReplicate,b_leadtrailref13_Sets_l3,C_loop,rp_place,e1,t3,i1,l0,hz,f1,f1',f2,f3,st0,hcl60,htk6,d60,d62,d63,d64,d65,clean,cutEnv,AV.cut,deep_eq',eR_x]
 refine wpO_mono hl4 ?_
 rintro r ⟨E,rfl,g1,g5,g10,g11,g12,g13,g14,g15,g16,g17⟩
 cases hso:anyTo (onB ss a x) ss.length with
 |false=>
  rw[hso] at g16
  rw[if_pos hso] at hstep
  cases hen2:anyTo (endB ss a x) ss.length <;>
  ·rw[hen2] at g17
   simp (implicitDefEqProofs:=false) only[SP,WP,setRow,sevalprocAttr,-List.reduceReplicate,g1,g5,g10,g11,g12,g13,g14,g15,g16,g17,eq_true hq,t1,m1,t2,pl1,st1,hcl5,htk5,d50,d52,d53,d54,clean,cutEnv,AV.cut,deep_eq']
   subst hQQ
   exact hR1 _ hstep _ rfl
 |true=>
  rw[hso] at g16
  rw[if_neg (by rw[hso];simp)] at hstep
  cases hen2:anyTo (endB ss a x) ss.length with
  |true=>
   rw[hen2] at g17
   rw[if_pos hen2] at hstep
   simp (implicitDefEqProofs:=false) only[SP,WP,setRow,sevalprocAttr,-List.reduceReplicate,g1,g5,g10,g11,g12,g13,g14,g15,g16,g17,eq_true hq,t1,m1,t2,pl1,pl2,st1,st2,hcl5,htk5,d50,d52,d53,d54,clean,cutEnv,AV.cut,deep_eq']
   subst hQQ
   exact hR1 _ hstep _ rfl
  |false=>
   rw[hen2] at g17
   rw[if_neg (by rw[hen2];simp)] at hstep
   cases hix:idxR (a.1+1,(m:Int)) sets 0 with
   |some k=>
    rw[hix] at hstep hfd
    simp only at hstep hfd
    have dk:decide ((k:Int) < 0)=false:=dec_f (by omega)
    simp (implicitDefEqProofs:=false) only[SP,WP,setRow,sevalprocAttr,-List.reduceReplicate,g1,g5,g10,g11,g12,g13,g14,g15,g16,g17,eq_true hq,t1,m1,t2,pl1,pl2,st1,st2,hldY,hfd,dk,hcl5,htk5,d50,d52,d53,d54,clean,cutEnv,AV.cut,deep_eq']
    subst hQQ
    exact hR1 _ hstep _ rfl
   |none=>
    rw[hix] at hstep hfd
    simp only at hstep hfd
    have dk:decide ((-1:Int) < 0)=true:=by decide
    by_cases hlt:sets.length < 64
    ·have hap':=hap hlt
     rw[if_pos hlt] at hstep
     have e64:((sets.length:Int)==64)=false:=beq_ne (by omega)
     have hl1:(sets++[(a.1+1,(m:Int))]).length=sets.length+1:=by simp
     simp (implicitDefEqProofs:=false) only[SP,WP,setRow,sevalprocAttr,-List.reduceReplicate,g1,g5,g10,g11,g12,g13,g14,g15,g16,g17,eq_true hq,t1,m1,t2,pl1,pl2,st1,st2,hldY,hfd,dk,hslen,e64,hap',hz,hYl,hYr,hYa,hYp,hYt,f4,hcl5,htk5,d50,d52,d53,d54,clean,cutEnv,AV.cut,deep_eq']
     subst hQQ
     exact hR1 _ hstep _ (by rw[hl1])
    ·rw[if_neg hlt] at hstep
     have e64:((sets.length:Int)==64)=true:=by simp;omega
     simp (implicitDefEqProofs:=false) only[SP,WP,setRow,sevalprocAttr,-List.reduceReplicate,g1,g5,g10,g11,g12,g13,g14,g15,g16,g17,eq_true hq,t1,m1,t2,pl1,pl2,st1,st2,hldY,hfd,dk,hslen,e64]
     subst hQQ
     exact hR2 hstep _ _ (by simp[Tr.get_set]) (by simp[Tr.get_set]) (by simp[Tr.get_set])
end
end Go.AM.B1
namespace Go.AM.B1
open Go.AM Go.AM.So
section
variable (call:CallF) {S:PV} {ss:List Shp} {es:List PV} (hS:HeldSch S ss es) (hw:ss.length≤32) (h8:∀ s∈ss,s.parts.length≤8) {n:Nat} {a:Al}
 (hd:a.1≤64)
 (nl nl3:Bool) (rs:List PV) (o0 o1 o3:AObj) (h0:∀ n,cutObj n o0=some o0) (h1:∀ n,cutObj n o1=some o1) (h3:∀ n,cutObj n o3=some o3)
include hS hw h8 hd h0 h1 h3
set_option maxRecDepth 8000 in
theorem sets_l3 {sets:List Al} {row:List Int} (ha:sets[n]? =some a) (hok:AllOk ss sets) (hrow:row.length=256):
 wpO (fun r=>(∃ p E,rowS ss a (List.range 256) (sets,row)=some p∧r=(.exit 6,⟨E,[o0,o1,.tok 33 p.1.length false,o3,pbx (p.2.map i64)]⟩)∧E.get 1= .pv (.rp [S] 0)∧E.get 5= .uq 0 nl 2048 (hasEs ss)∧E.get 10= .uq 2 false 33 (p.1.map encS)∧E.get 11= .uq 3 nl3 256 rs∧E.get 12= .pv (i64 n)∧E.get 13= .ptr 4 0)∨
  (rowS ss a (List.range 256) (sets,row)=none∧∃ E H,r=(.ret,⟨E,H⟩)∧E.get 2= .pv .nils∧E.get 3= .pv .nils∧E.get 4= .pv (.bool false)))
  (loopA (roundA (evalC call b_leadtrailref13_Sets_l3) (clean 5 [1,5,10,11,12,13,14])) rounds ⟨eR_x S nl nl3 (hasEs ss) (sets.map encS) rs n 0,[o0,o1,.tok 33 sets.length false,o3,pbx (row.map i64)]⟩):=by
 refine wpO_mono (loopN_wp (g:=roundA (evalC call b_leadtrailref13_Sets_l3) (clean 5 [1,5,10,11,12,13,14]))
  (fun x t=>∃ sets' row',t=⟨eR_x S nl nl3 (hasEs ss) (sets'.map encS) rs n x,[o0,o1,.tok 33 sets'.length false,o3,pbx (row'.map i64)]⟩∧rowS ss a (List.range 256) (sets,row)=rowS ss a ((List.range 256).drop x) (sets',row')∧AllOk ss sets'∧sets'[n]? =some a∧row'.length=256)
  256 (by unfold rounds;omega) _ ⟨sets,row,rfl,by rw[List.drop_zero],hok,ha,hrow⟩ ?_ ?_) (fun r h=>h.2)
 ·rintro x t hx ⟨sets',row',rfl,hrs,hok',ha',hrow'⟩
  rw[range_drop hx] at hrs
  refine wpO_mono (sets_l3_round call hS hw h8 ha' hx hok' hd nl nl3 rs o0 o1 o3 h0 h1 h3 hrow') ?_
  rintro r (⟨p,hst,rfl⟩ | ⟨hst,E,H,rfl,g2,g3,g4⟩)
  ·rw[rowS_some hst] at hrs
   obtain⟨k1,t,k2⟩:=stepX_ok hok' ha' hw hst
   refine⟨p.1,row'.set x p.2,rfl,hrs,k1,?_,by simp[hrow']⟩
   rw[k2,List.getElem?_append_left (List.getElem?_eq_some_iff.1 ha').1];exact ha'
  ·rw[rowS_none hst] at hrs
   exact .inr ⟨hrs,E,H,rfl,g2,g3,g4⟩
 ·rintro t ⟨sets',row',rfl,hrs,hok',ha',hrow'⟩
  have hdr:(List.range 256).drop 256=[]:=List.drop_of_length_le (by rw[List.length_range];exact Nat.le_refl _)
  rw[hdr,rowS] at hrs
  have e1:decide (((256:Nat):Int) < 256)=false:=dec_f (by omega)
  have hfin:∀ E,E.get 1= .pv (.rp [S] 0)→E.get 5= .uq 0 nl 2048 (hasEs ss)→E.get 10= .uq 2 false 33 (sets'.map encS)→E.get 11= .uq 3 nl3 256 rs→E.get 12= .pv (i64 n)→E.get 13= .ptr 4 0→
   ((Ex.exit 6,(⟨E,[o0,o1,.tok 33 sets'.length false,o3,pbx (row'.map i64)]⟩:St)).1.stop=true∧((∃ p E',rowS ss a (List.range 256) (sets,row)=some p∧(Ex.exit 6,(⟨E,[o0,o1,.tok 33 sets'.length false,o3,pbx (row'.map i64)]⟩:St))=(.exit 6,⟨E',[o0,o1,.tok 33 p.1.length false,o3,pbx (p.2.map i64)]⟩)∧E'.get 1= .pv (.rp [S] 0)∧E'.get 5= .uq 0 nl 2048 (hasEs ss)∧E'.get 10= .uq 2 false 33 (p.1.map encS)∧E'.get 11= .uq 3 nl3 256 rs∧E'.get 12= .pv (i64 n)∧E'.get 13= .ptr 4 0)∨
    (rowS ss a (List.range 256) (sets,row)=none∧∃ E' H,(Ex.exit 6,(⟨E,[o0,o1,.tok 33 sets'.length false,o3,pbx (row'.map i64)]⟩:St))=(.ret,⟨E',H⟩)∧E'.get 2= .pv .nils∧E'.get 3= .pv .nils∧E'.get 4= .pv (.bool false)))):=
   fun E k1 k5 k10 k11 k12 k13=>⟨rfl,.inl ⟨(sets',row'),E,hrs,rfl,k1,k5,k10,k11,k12,k13⟩⟩
  generalize hQ:(fun r:Ex×St=>r.1.stop=true∧_)=Q
  generalize pbx (row'.map i64)=R at *
  generalize sets'.map encS=se at *
  generalize hasEs ss=os at *
  simp (implicitDefEqProofs:=false) only[SP,SA,WP,sevalprocAttr,-List.reduceReplicate,b_leadtrailref13_Sets_l3,e1,eR_x]
  subst hQ
  exact hfin _ (by simp[Tr.get_set]) (by simp[Tr.get_set]) (by simp[Tr.get_set]) (by simp[Tr.get_set]) (by simp[Tr.get_set]) (by simp[Tr.get_set])
end
abbrev eR_n (S:PV) (nl nl3:Bool) (os es rs:List PV) (n:Int):Tr:=
 ((((Tr.lf.set 12 (.pv (i64 n))).set 11 (.uq 3 nl3 256 rs)).set 10 (.uq 2 false 33 es)).set 5 (.uq 0 nl 2048 os)).set 1 (.pv (.rp [S] 0))
section
variable (call:CallF) {S:PV} {ss:List Shp} {es:List PV} (hS:HeldSch S ss es) (hw:ss.length≤32) (h8:∀ s∈ss,s.parts.length≤8)
 (nl:Bool) (k0:Nat) (F:List PV)
include hS hw h8
set_option maxRecDepth 8000 in
theorem sets_l2_round {sets:List Al} {rs:List (List Int)} {a:Al} (ha:sets[rs.length]? =some a) (hok:AllOk ss sets):
 wpO (fun r=>(∃ p,rowS ss a (List.range 256) (sets,row0)=some p∧r=(.norm,⟨eR_n S nl false (hasEs ss) (p.1.map encS) ((rs++[p.2]).map agR) (rs.length+1:Nat),[.tok 2048 k0 nl,pbx F,.tok 33 p.1.length false,.tok 256 (rs.length+1) false]⟩))∨
  (rowS ss a (List.range 256) (sets,row0)=none∧∃ E H,r=(.ret,⟨E,H⟩)∧E.get 2= .pv .nils∧E.get 3= .pv .nils∧E.get 4= .pv (.bool false)))
  (roundA (evalC call b_leadtrailref13_Sets_l2) (clean 4 [1,5,10,11,12]) ⟨eR_n S nl rs.isEmpty (hasEs ss) (sets.map encS) (rs.map agR) rs.length,[.tok 2048 k0 nl,pbx F,.tok 33 sets.length false,.tok 256 rs.length rs.isEmpty]⟩):=by
 have hn:=(List.getElem?_eq_some_iff.1 ha).1
 have hl64:=hok.1
 have hd:a.1≤64:=by have:=(hok.2 _ a ha).1;omega
 have hl3:=sets_l3 call hS hw h8 hd nl rs.isEmpty (rs.map agR) (.tok 2048 k0 nl) (pbx F) (.tok 256 rs.length rs.isEmpty) (fun n=>rfl) (fun n=>pbx_cut F n) (fun n=>rfl) ha hok row0_len
 have hrl:∀ p,rowS ss a (List.range 256) (sets,row0)=some p→p.2.length=256:=fun p hp=>by rw[(rowS_ok hw (List.range 256) (sets,row0) p hok ha hp).2.2];exact row0_len
 have e1:decide ((rs.length:Int) < (sets.length:Int))=true:=dec_t (by omega)
 have t2:IntKind.i64.wrap ((rs.length:Int)+1)=((rs.length+1:Nat):Int):=wrap_int (by omega)
 have hse:(sets.map encS).length=sets.length:=List.length_map _
 have hzz:List.replicate 256 (PV.int .i64 0)=row0.map i64:=by rw[row0,List.map_replicate]
 have hz0:AObj.box (List.map AV.pv (List.replicate 256 (PV.int .i64 0)))=pbx (row0.map i64):=by rw[hzz]
 have hc5:∀ (k:Nat) (R:List PV),mapO (cutObj 5) [.tok 2048 k0 nl,pbx F,.tok 33 k false,.tok 256 rs.length rs.isEmpty,pbx R]=some [.tok 2048 k0 nl,pbx F,.tok 33 k false,.tok 256 rs.length rs.isEmpty,pbx R]:=by
  intro k R
  have c0:∀ k n nl,cutObj 5 (.tok k n nl)=some (.tok k n nl):=fun k n nl=>rfl
  simp only[mapO,c0,pbx_cut,Option.bind_some,Option.map_some]
 have hc4:∀ (k:Nat),mapO (cutObj 4) [.tok 2048 k0 nl,pbx F,.tok 33 k false,.tok 256 (rs.length+1) false]=some [.tok 2048 k0 nl,pbx F,.tok 33 k false,.tok 256 (rs.length+1) false]:=by
  intro k
  have c0:∀ k n nl,cutObj 4 (.tok k n nl)=some (.tok k n nl):=fun k n nl=>rfl
  simp only[mapO,c0,pbx_cut,Option.bind_some,Option.map_some]
 have htk5:∀ a b c d e:AObj,([a,b,c,d,e]:List AObj).take 5=[a,b,c,d,e]:=fun a b c d e=>rfl
 have htk4:∀ a b c d e:AObj,([a,b,c,d,e]:List AObj).take 4=[a,b,c,d]:=fun a b c d e=>rfl
 have d50:(0 < 5)=True:=by simp
 have d52:(2 < 5)=True:=by simp
 have d53:(3 < 5)=True:=by simp
 have d54:(4 < 5)=True:=by simp
 have d40:(0 < 4)=True:=by simp
 have d42:(2 < 4)=True:=by simp
 have d43:(3 < 4)=True:=by simp
 have hld:∀ (k:Nat) (r:List Int),r.length=256→loadA [.tok 2048 k0 nl,pbx F,.tok 33 k false,.tok 256 rs.length rs.isEmpty,pbx (r.map i64)] true 256 (.ptr 4 0)=some (.pv (.agg (r.map i64))):=fun k r hr=>pbx_loadAll (id:=4) rfl (by rw[List.length_map,hr])
 have hone:∀ r:List Int,∀ e∈r.map i64,(AV.pv e).one=true:=by
  intro r e he
  obtain⟨v,_,rfl⟩:=List.mem_map.1 he
  rfl
 have hap:∀ (k:Nat) (r:List Int),appendA [.tok 2048 k0 nl,pbx F,.tok 33 k false,.tok 256 rs.length rs.isEmpty,pbx (r.map i64)] false .uq 256 true 2048 (.uq 3 rs.isEmpty 256 (rs.map agR)) (.pv (.lit 256 [.agg (r.map i64)]))=
  some (.uq 3 false 256 ((rs++[r]).map agR),[.tok 2048 k0 nl,pbx F,.tok 33 k false,.tok 256 (rs.length+1) false,pbx (r.map i64)]):=by
  intro k r
  have:=uq_append (A:=[.tok 2048 k0 nl,pbx F,.tok 33 k false,.tok 256 rs.length rs.isEmpty,pbx (r.map i64)]) (id:=3) (n:=rs.length) (sz:=256) (h:= .uq) (nl:=rs.isEmpty) (ag:=true) (bytes:=2048) (es:=rs.map agR) rfl (by rw[List.length_map]) (by unfold roomOk;omega) (.agg (r.map i64))
  rw[this,List.map_append];rfl
 have hzl:(row0.map i64).length=256:=by rw[List.length_map,row0_len]
 have f4:(256≤((row0.map i64).map AV.pv++[]).length)=True:=eq_true (by rw[List.append_nil,List.length_map,hzl];exact Nat.le_refl _)
 have hYr:∀ r:List Int,r.length=256→setRow ((row0.map i64).map AV.pv++[]) 0 ((r.map i64).map AV.pv)=(r.map i64).map AV.pv:=fun r hr=>setRow_whole (by rw[hzl,List.length_map,hr])
 have hYa:∀ r:List Int,((r.map i64).map AV.pv).all AV.one=true:=fun r=>all_one (hone r)
 have hYp:∀ r:List Int,allPV ((r.map i64).map AV.pv)=some (r.map i64):=fun r=>allPV_map _
 have hYt:∀ r:List Int,r.length=256→(r.map i64).take 256=r.map i64:=fun r hr=>List.take_of_length_le (by rw[List.length_map,hr];exact Nat.le_refl _)
 have hYl:∀ r:List Int,r.length=256→((r.map i64).map AV.pv).length=256:=fun r hr=>by rw[List.length_map,List.length_map,hr]
 have hR1:∀ p,rowS ss a (List.range 256) (sets,row0)=some p→∀ st:St,st=⟨eR_n S nl false (hasEs ss) (p.1.map encS) ((rs++[p.2]).map agR) (rs.length+1:Nat),[.tok 2048 k0 nl,pbx F,.tok 33 p.1.length false,.tok 256 (rs.length+1) false]⟩→
  (∃ p,rowS ss a (List.range 256) (sets,row0)=some p∧(Ex.norm,st)=(.norm,⟨eR_n S nl false (hasEs ss) (p.1.map encS) ((rs++[p.2]).map agR) (rs.length+1:Nat),[.tok 2048 k0 nl,pbx F,.tok 33 p.1.length false,.tok 256 (rs.length+1) false]⟩))∨
   (rowS ss a (List.range 256) (sets,row0)=none∧∃ E H,(Ex.norm,st)=(.ret,⟨E,H⟩)∧E.get 2= .pv .nils∧E.get 3= .pv .nils∧E.get 4= .pv (.bool false)):=fun p hp st h=> .inl ⟨p,hp,by rw[h]⟩
 generalize hQQ:(fun r:Ex×St=>_)=QQ
 generalize hzs:row0.map i64=zs at *
 have hc5z:=hc5 sets.length zs
 generalize hRz:pbx zs=Rz at *
 generalize hoF:pbx F=oF at *
 simp (implicitDefEqProofs:=false) only[SP,WP,setRow,sevalprocAttr,-List.reduceReplicate,b_leadtrailref13_Sets_l2,C_loop,e1,hse,hzz,hRz,hc5z,htk5,d50,d52,d53,d54,clean,cutEnv,AV.cut,deep_eq',eR_n]
 refine wpO_mono hl3 ?_
 rintro r (⟨p,E,hp,rfl,g1,g5,g10,g11,g12,g13⟩ | ⟨hp,E,H,rfl,g2,g3,g4⟩)
 ·have hpl:=hrl p hp
  have hld':=hld p.1.length p.2 hpl
  have hYr':=hYr p.2 hpl
  have hYt':=hYt p.2 hpl
  have hYl':=hYl p.2 hpl
  have hYa':=hYa p.2
  have hYp':=hYp p.2
  have hap':=hap p.1.length p.2
  generalize p.2.map i64=zp at *
  simp (implicitDefEqProofs:=false) only[SP,WP,setRow,sevalprocAttr,-List.reduceReplicate,g1,g5,g10,g11,g12,g13,t2,hzz,hld',hYr',hYt',hYl',hYa',hYp',hap',f4,hc4,htk4,d40,d42,d43,clean,cutEnv,AV.cut,deep_eq']
  subst hQQ
  exact hR1 p hp _ rfl
 ·simp (implicitDefEqProofs:=false) only[SP,WP,setRow,sevalprocAttr,-List.reduceReplicate]
  subst hQQ
  exact .inr ⟨hp,E,H,rfl,g2,g3,g4⟩
end
end Go.AM.B1
namespace Go.AM.B1
open Go.AM Go.AM.So
attribute [local irreducible] wpO
theorem bits0_test {n:Nat} (h:n≤32) (i:Nat):(bits0 n).toNat.testBit i=decide (i < n):=by
 rw[bits0_eq h,Int.toNat_natCast,Nat.testBit_two_pow_sub_one]
theorem encS_first {n:Nat} (h:n≤32):encS (0,bits0 n)= .agg (firstC n):=by
 unfold encS firstC setC
 congr 2
 exact onC_congr fun i _=>bits0_test h i
set_option maxRecDepth 8000 in
theorem sets_l2 (call:CallF) {S:PV} {ss:List Shp} {es:List PV} (hS:HeldSch S ss es) (hw:ss.length≤32) (h8:∀ s∈ss,s.parts.length≤8) (hne:∀ s∈ss,0 < s.parts.length) (nl:Bool) (k0:Nat) (F:List PV):
 wpO (fun r=>(∃ p E,walkS ss 64 (sets0 ss,[])=some p∧p.2.length=p.1.length∧0 < p.2.length∧r=(.exit 4,⟨E,[.tok 2048 k0 nl,pbx F,.tok 33 p.1.length false,.tok 256 p.2.length p.2.isEmpty]⟩)∧E.get 10= .uq 2 false 33 (p.1.map encS)∧E.get 11= .uq 3 p.2.isEmpty 256 (p.2.map agR))∨
  (walkS ss 64 (sets0 ss,[])=none∧∃ E H,r=(.ret,⟨E,H⟩)∧E.get 2= .pv .nils∧E.get 3= .pv .nils∧E.get 4= .pv (.bool false)))
  (loopA (roundA (evalC call b_leadtrailref13_Sets_l2) (clean 4 [1,5,10,11,12])) rounds ⟨eR_n S nl true (hasEs ss) ((sets0 ss).map encS) [] 0,[.tok 2048 k0 nl,pbx F,.tok 33 1 false,.tok 256 0 true]⟩):=by
 refine wpO_mono (loopA_wp (g:=roundA (evalC call b_leadtrailref13_Sets_l2) (clean 4 [1,5,10,11,12]))
  (fun k t=>∃ (sets:List Al) (rs:List (List Int)),t=⟨eR_n S nl rs.isEmpty (hasEs ss) (sets.map encS) (rs.map agR) rs.length,[.tok 2048 k0 nl,pbx F,.tok 33 sets.length false,.tok 256 rs.length rs.isEmpty]⟩∧k+rs.length=64∧AllOk ss sets∧rs.length≤sets.length∧0 < sets.length∧walkS ss 64 (sets0 ss,[])=walkS ss k (sets,rs))
  rounds 64 _ (by unfold rounds;omega) ⟨sets0 ss,[],rfl,rfl,sets0_ok hw hne,by simp,by simp[sets0],rfl⟩ ?_) (fun r h=>h.2)
 rintro k t ⟨sets,rs,rfl,hk,hok,hle,hpos,hs⟩
 cases ha:sets[rs.length]? with
 |some a=>
  have hlt:=(List.getElem?_eq_some_iff.1 ha).1
  have hl64:=hok.1
  obtain⟨k',rfl⟩:∃ k',k=k'+1:=⟨k - 1,by omega⟩
  refine wpO_mono (sets_l2_round call hS hw h8 nl k0 F ha hok) ?_
  rintro r (⟨p,hp,rfl⟩ | ⟨hp,E,H,rfl,g2,g3,g4⟩)
  ·obtain⟨q1,⟨t,q2⟩,q3⟩:=rowS_ok hw (List.range 256) (sets,row0) p hok ha hp
   simp only at q2
   have hse:(rs++[p.2]).isEmpty=false:=by cases rs <;> rfl
   have hle2:(rs++[p.2]).length=rs.length+1:=by simp
   refine⟨k',by omega,p.1,rs++[p.2],?_,by rw[hle2];omega,q1,?_,?_,?_⟩
   ·rw[hse,hle2]
   ·rw[hle2,q2,List.length_append];omega
   ·rw[q2,List.length_append];omega
   ·rw[hs,walkS_some ha hp]
  ·exact .inr ⟨by rw[hs,walkS_none ha hp],E,H,rfl,g2,g3,g4⟩
 |none=>
  have hge:sets.length≤rs.length:=by
   rcases Nat.lt_or_ge rs.length sets.length with h | h
   ·rw[List.getElem?_eq_getElem h] at ha;cases ha
   ·exact h
  rw[walkS_end (r:=(sets,rs)) ha] at hs
  have e1:decide ((rs.length:Int) < (sets.length:Int))=false:=dec_f (by omega)
  have hse:(sets.map encS).length=sets.length:=List.length_map _
  have hfin:∀ E,E.get 10= .uq 2 false 33 (sets.map encS)→E.get 11= .uq 3 rs.isEmpty 256 (rs.map agR)→
   LQ (fun k t=>∃ (sets:List Al) (rs:List (List Int)),t=⟨eR_n S nl rs.isEmpty (hasEs ss) (sets.map encS) (rs.map agR) rs.length,[.tok 2048 k0 nl,pbx F,.tok 33 sets.length false,.tok 256 rs.length rs.isEmpty]⟩∧k+rs.length=64∧AllOk ss sets∧rs.length≤sets.length∧0 < sets.length∧walkS ss 64 (sets0 ss,[])=walkS ss k (sets,rs))
    (fun r=>(∃ p E,walkS ss 64 (sets0 ss,[])=some p∧p.2.length=p.1.length∧0 < p.2.length∧r=(.exit 4,⟨E,[.tok 2048 k0 nl,pbx F,.tok 33 p.1.length false,.tok 256 p.2.length p.2.isEmpty]⟩)∧E.get 10= .uq 2 false 33 (p.1.map encS)∧E.get 11= .uq 3 p.2.isEmpty 256 (p.2.map agR))∨
    (walkS ss 64 (sets0 ss,[])=none∧∃ E H,r=(.ret,⟨E,H⟩)∧E.get 2= .pv .nils∧E.get 3= .pv .nils∧E.get 4= .pv (.bool false))) k
    (.exit 4,⟨E,[.tok 2048 k0 nl,pbx F,.tok 33 sets.length false,.tok 256 rs.length rs.isEmpty]⟩):=fun E g10 g11=> .inl ⟨(sets,rs),E,hs,by simp only;omega,by simp only;omega,rfl,g10,g11⟩
  generalize LQ _ _ k=QQ at hfin ⊢
  generalize pbx F=oF at *
  generalize sets.map encS=se at *
  generalize rs.map agR=re at *
  generalize hasEs ss=os at *
  simp (implicitDefEqProofs:=false) only[SP,SA,WP,sevalprocAttr,-List.reduceReplicate,b_leadtrailref13_Sets_l2,e1,hse,eR_n]
  exact hfin _ (by simp[Tr.get_set]) (by simp[Tr.get_set])
set_option maxRecDepth 8000 in
theorem sets_run {S:PV} {ss:List Shp} {es:List PV} (hS:HeldSch S ss es) (hok:SchOk ss):
 (∀ p,walkS ss 64 (sets0 ss,[])=some p→F_leadtrailref13_Sets [.agg [S]]=some (.tup [.lit 33 (p.1.map encS),.lit 256 (p.2.map agR),.bool true])∧p.2.length=p.1.length)∧
 (walkS ss 64 (sets0 ss,[])=none→F_leadtrailref13_Sets [.agg [S]]=some (.tup [.nils,.nils,.bool false])):=by
 have hw:=hok.len
 have h8:∀ s∈ss,s.parts.length≤8:=fun s hs=>(hok.shp s hs).hi
 have ln:=hS.lenA
 have hS1:(AV.pv S).one=true:=by rcases hS.is with⟨h,_⟩ | h <;> rw[h] <;> rfl
 have hl0:=has_outer (callL (fun _=>none) 8) hS hw h8
 have hl2:=fun nl=>sets_l2 (callL (fun _=>none) 8) hS hw h8 hok.ne nl ss.length (firstC ss.length)
 have hs0:(sets0 ss).map encS=[.agg (firstC ss.length)]:=by rw[sets0,List.map_singleton,encS_first hw]
 rw[hs0] at hl2
 have hz:=z33_eq
 have zl:=setC_len 0 fun _=>false
 have hf0:firstC 0=setC 0 fun _=>false:=by unfold firstC;congr 1
 have st0:storeA [.tok 2048 0 true,pbx (setC 0 fun _=>false)] 33 (.ptr 1 0) (.pv (.agg (setC 0 fun _=>false)))=some [.tok 2048 0 true,pbx (setC 0 fun _=>false)]:=pbx_storeAll (id:=1) rfl zl zl (setC_one _ _)
 have hcl2:mapO (cutObj 2) [.tok 2048 0 true,pbx (setC 0 fun _=>false)]=some [.tok 2048 0 true,pbx (setC 0 fun _=>false)]:=by
  have c0:∀ k n nl,cutObj 2 (.tok k n nl)=some (.tok k n nl):=fun k n nl=>rfl
  simp only[mapO,c0,pbx_cut,Option.bind_some,Option.map_some]
 have htk2:∀ a b:AObj,([a,b]:List AObj).take 2=[a,b]:=fun a b=>rfl
 have htk4:∀ a b c d:AObj,([a,b,c,d]:List AObj).take 4=[a,b,c,d]:=fun a b c d=>rfl
 have hcl4:∀ nl,mapO (cutObj 4) [.tok 2048 ss.length nl,pbx (firstC ss.length),.tok 33 1 false,.tok 256 0 true]=some [.tok 2048 ss.length nl,pbx (firstC ss.length),.tok 33 1 false,.tok 256 0 true]:=by
  intro nl
  have c0:∀ k n nl,cutObj 4 (.tok k n nl)=some (.tok k n nl):=fun k n nl=>rfl
  simp only[mapO,c0,pbx_cut,Option.bind_some,Option.map_some]
 have hld:∀ nl,loadA [.tok 2048 ss.length nl,pbx (firstC ss.length)] true 33 (.ptr 1 0)=some (.pv (.agg (firstC ss.length))):=fun nl=>pbx_loadAll (id:=1) rfl (setC_len _ _)
 have fz:=allPV_map (setC 0 fun _=>false)
 have hYl:((firstC ss.length).map AV.pv).length=33:=by rw[List.length_map,setC_len]
 have hYr:setRow ((setC 0 fun _=>false).map AV.pv++[]) 0 ((firstC ss.length).map AV.pv)=(firstC ss.length).map AV.pv:=setRow_whole (by rw[setC_len,setC_len])
 have hYa:=all_one (setC_one 0 fun j=>decide (j < ss.length))
 have hYp:=allPV_map (firstC ss.length)
 have hYt:(firstC ss.length).take 33=firstC ss.length:=List.take_of_length_le (by rw[setC_len];exact Nat.le_refl _)
 have f4:(33≤((setC 0 fun _=>false).map AV.pv++[]).length)=True:=eq_true (by rw[List.append_nil,List.length_map,zl];exact Nat.le_refl _)
 have d20:(0 < 2)=True:=by simp
 have d21:(1 < 2)=True:=by simp
 have d40:(0 < 4)=True:=by simp
 have d42:(2 < 4)=True:=by simp
 have d43:(3 < 4)=True:=by simp
 have g1:(0 < 2048)=True:=by simp
 have g2:(0 < 256)=True:=by simp
 rw[hf0] at hl0
 have key:wpO (fun r=>(∃ p,walkS ss 64 (sets0 ss,[])=some p∧r=PV.tup [.lit 33 (p.1.map encS),.lit 256 (p.2.map agR),.bool true]∧p.2.length=p.1.length)∨(walkS ss 64 (sets0 ss,[])=none∧r=PV.tup [.nils,.nils,.bool false])) (F_leadtrailref13_Sets [.agg [S]]):=by
  generalize hQQ:(fun r:PV=>_)=QQ
  change (((firstC ss.length).map AV.pv).all AV.one)=true at hYa
  generalize hzs:(setC 0 fun _=>false)=zs at *
  generalize hfs:firstC ss.length=fs at *
  generalize hozs:pbx zs=oz at *
  generalize hofs:pbx fs=of at *
  simp (implicitDefEqProofs:=false) only[F_leadtrailref13_Sets,SP,WP,setRow,sevalprocAttr,-List.reduceReplicate,b_leadtrailref13_Sets,hS1,hz,hozs,fz,st0,ghostA,g1,g2,hcl2,htk2,d20,d21,C_loop,clean,cutEnv,AV.cut,deep_eq']
  refine wpO_mono hl0 ?_
  rintro r ⟨E,nl,rfl,k1,k5,k6⟩
  have hl2':=hl2 nl
  have hcl4':=hcl4 nl
  have hld':=hld nl
  simp (implicitDefEqProofs:=false) only[SP,WP,setRow,sevalprocAttr,-List.reduceReplicate,k1,k5,k6,hld',hz,hYl,hYr,hYa,hYp,hYt,f4,ghostA,g1,g2,hcl4',htk4,d40,d42,d43,C_loop,clean,cutEnv,AV.cut,deep_eq']
  refine wpO_mono hl2' ?_
  rintro r (⟨p,E,hp,hpl,hpp,rfl,k10,k11⟩ | ⟨hp,E,H,rfl,k2,k3,k4⟩)
  ·have hie:p.2.isEmpty=false:=by
    cases hh:p.2 with
    |nil=>rw[hh] at hpp;simp at hpp
    |cons a l=>rfl
   rw[hie] at k11
   simp (implicitDefEqProofs:=false) only[SP,WP,setRow,sevalprocAttr,-List.reduceReplicate,k10,k11]
   subst hQQ
   exact .inl ⟨p,hp,rfl,hpl⟩
  ·simp (implicitDefEqProofs:=false) only[SP,WP,setRow,sevalprocAttr,-List.reduceReplicate,k2,k3,k4]
   subst hQQ
   exact .inr ⟨hp,rfl⟩
 obtain⟨r,h1,h2⟩:=wpO_spec key
 constructor
 ·intro p hp
  rcases h2 with⟨p',hp',rfl,hl⟩ | ⟨hn,_⟩
  ·rw[hp] at hp';injection hp' with hp';subst hp';exact⟨h1,hl⟩
  ·rw[hp] at hn;cases hn
 ·intro hn
  rcases h2 with⟨p',hp',_,_⟩ | ⟨_,rfl⟩
  ·rw[hn] at hp';cases hp'
  ·exact h1
end Go.AM.B1
