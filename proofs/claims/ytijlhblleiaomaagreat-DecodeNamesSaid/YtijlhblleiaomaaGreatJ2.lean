/- The abstract machine: equality, maps, steps that may change places, cleaning. -/
import Derived.Test.YtijlhblleiaomaaGreatJ1
import Derived.DeepKeys3
import Derived.OrdersIn
import Derived.LoopNIn
import Derived.RangeFuncRecord
import Derived.RangeFuncSeq
set_option linter.unusedSimpArgs false
set_option linter.unusedVariables false
namespace Go.AM
open Go.RowKit
def Ao:Nat→Value→Value→Option Bool
 |0,.bool a,.bool b=>some (a==b)
 |1,.int k a,.int k' b=>if k=k' then some (a==b) else none
 |2,.string a,.string b=>some (a==b)
 |_,_,_=>none
def sf:List Nat→List Value→List Value→Option Bool
 | [],[],[]=>some true
 |k::ks,x::xs,y::ys=>(Ao k x y).bind fun b=>(sf ks xs ys).map fun c=>b&&c
 |_,_,_=>none
theorem ez {k:Nat} {p q:PV} {b:Bool} (h:Ls k p q=some b):
 (k=0∧∃ c d,p= .bool c∧q= .bool d∧b=(c==d))∨(k=1∧∃ i c d,p= .int i c∧q= .int i d∧b=(c==d))∨(k=2∧∃ c d,p= .str c∧q= .str d∧b=(c==d)):=by
 unfold Ls at h
 split at h
 ·injection h with h;exact .inl ⟨rfl,_,_,rfl,rfl,h.symm⟩
 ·split at h
  ·rename_i hk;subst hk;injection h with h;exact .inr (.inl ⟨rfl,_,_,_,rfl,rfl,h.symm⟩)
  ·cases h
 ·injection h with h;exact .inr (.inr ⟨rfl,_,_,rfl,rfl,h.symm⟩)
 ·cases h
theorem yi {k:Nat} {p q:Value} {b:Bool} (h:Ao k p q=some b):
 (k=0∧∃ c d,p= .bool c∧q= .bool d∧b=(c==d))∨(k=1∧∃ i c d,p= .int i c∧q= .int i d∧b=(c==d))∨(k=2∧∃ c d,p= .string c∧q= .string d∧b=(c==d)):=by
 unfold Ao at h
 split at h
 ·injection h with h;exact .inl ⟨rfl,_,_,rfl,rfl,h.symm⟩
 ·split at h
  ·rename_i hk;subst hk;injection h with h;exact .inr (.inl ⟨rfl,_,_,_,rfl,rfl,h.symm⟩)
  ·cases h
 ·injection h with h;exact .inr (.inr ⟨rfl,_,_,rfl,rfl,h.symm⟩)
 ·cases h
theorem Qo {R:Rd} {k:Nat} {p q:PV} {v u:Value} (hp:Ea R p v) (hq:Ea R q u) {b:Bool} (h:Ls k p q=some b):Ao k v u=some b:=by
 rcases ez h with⟨rfl,c,d,rfl,rfl,rfl⟩ | ⟨rfl,i,c,d,rfl,rfl,rfl⟩ | ⟨rfl,c,d,rfl,rfl,rfl⟩ <;> cases hp <;> cases hq <;> simp[Ao]
theorem Qv {R:Rd}:∀ {ks:List Nat} {ps qs:List PV} {vs us:List Value} {b:Bool},xd R ps vs→xd R qs us→oj ks ps qs=some b→sf ks vs us=some b
 | [],[],[],_,_,_,.nil,.nil,h=>h
 |k::ks,p::ps,q::qs,_,_,b,.cons _ _ v vs h1 h2,.cons _ _ u us g1 g2,h=>by
  simp only[oj,Option.bind_eq_some_iff,Option.map_eq_some_iff] at h
  obtain⟨x,e1,y,e2,rfl⟩:=h
  simp only[sf,Qo h1 g1 e1,Qv h2 g2 e2,Option.bind_some,Option.map_some]
 | [],[],_::_,_,_,_,_,_,h=>by simp[oj] at h
 | [],_::_,_,_,_,_,_,_,h=>by simp[oj] at h
 |_::_,[],_,_,_,_,_,_,h=>by simp[oj] at h
 |_::_,_::_,[],_,_,_,_,_,h=>by simp[oj] at h
theorem Oj:∀ {ks ks':List Nat} {xs ys xs' ys':List Value} {b:Bool},ks.length=xs.length→xs.length=ys.length→sf (ks++ks') (xs++xs') (ys++ys')=some b→∃ c d,sf ks xs ys=some c∧sf ks' xs' ys'=some d∧b=(c&&d)
 | [],_,[],[],_,_,b,_,_,h=>⟨true,b,rfl,h,by simp⟩
 |k::ks,_,x::xs,y::ys,xs',ys',b,hk,hl,h=>by
  simp only[List.cons_append,sf,Option.bind_eq_some_iff,Option.map_eq_some_iff] at h
  obtain⟨e,h1,f,h2,rfl⟩:=h
  obtain⟨c,d,h3,h4,rfl⟩:=Oj (by simpa using hk) (by simpa using hl) h2
  exact⟨e&&c,d,by simp[sf,h1,h3],h4,by simp[Bool.and_assoc]⟩
 | [],_,_::_,_,_,_,_,hk,_,_=>by simp at hk
 |_::_,_,[],_,_,_,_,hk,_,_=>by simp at hk
 |_,_,[],_::_,_,_,_,_,hl,_=>by simp at hl
 |_,_,_::_,[],_,_,_,_,hl,_=>by simp at hl
def valOf (P:Program) (t:TypeId) (cs:List Value):Value:=if Wi P t=some true then .agg ⟨cs⟩ else cs.headD undef
def Kv (P:Program):Nat→List Field→Option Nat
 |o,[]=>some o
 |o,f::r=>if f.offset=o then Kv P (o+P.cellsOf f.type) r else none
def cq (g:TypeId→Option (List Nat)):List Field→Option (List Nat)
 | []=>some []
 |f::r=>if f.name != "_" then (g f.type).bind fun a=>(cq g r).map (a++ ·) else none
def yD:Nat→List Nat→List Nat
 |0,_=>[]
 |n+1,ks=>ks++yD n ks
def Hf (P:Program):Nat→TypeId→Option (List Nat)
 |0,_=>none
 |m+1,t=>
  match P.underlying t with
  |some .bool=>if P.cellsOf t=1 then some [0] else none
  |some (.int _)=>if P.cellsOf t=1 then some [1] else none
  |some .string=>if P.cellsOf t=1 then some [2] else none
  |some (.struct fs)=>if Kv P 0 fs.toList=some (P.cellsOf t)∧P.stoodInHeld t=false then cq (Hf P m) fs.toList else none
  |some (.array n e)=>if P.cellsOf t=n * P.cellsOf e then (Hf P m e).map (yD n) else none
  |_=>none
section
variable {P:Program}
theorem tz {m:Nat} {t:TypeId} {ks:List Nat} (h:Hf P m t=some ks):∃ i,P.info? t=some i:=by
 cases m with
 |zero=>simp[Hf] at h
 |succ m=>
  unfold Hf at h
  cases hu:P.underlying t with
  |none=>simp[hu] at h
  |some d=>exact info_of_underlying hu
theorem Ou {m:Nat} {t:TypeId} {ks:List Nat} (h:Hf P m t=some ks):Oc P t=some (P.cellsOf t):=by
 obtain⟨i,hi⟩:=tz h
 simp[Oc,Program.cellsOf,hi]
theorem Wq {g:TypeId→Option (List Nat)} (hg:∀ t ks,g t=some ks→ks.length=P.cellsOf t):∀ {fs:List Field} {o n:Nat} {ks:List Nat},cq g fs=some ks→Kv P o fs=some n→o+ks.length=n
 | [],o,n,ks,h,hl=>by
   simp only[cq,Option.some.injEq] at h;subst h
   simp only[Kv,Option.some.injEq] at hl;simpa using hl
 |f::fs,o,n,ks,h,hl=>by
  simp only[cq] at h
  split at h
  ·simp only[Option.bind_eq_some_iff,Option.map_eq_some_iff] at h
   obtain⟨a,h1,b,h2,rfl⟩:=h
   simp only[Kv] at hl
   split at hl
   ·have:=Wq hg h2 hl
    have:=hg _ _ h1
    simp;omega
   ·cases hl
  ·cases h
theorem cP (n:Nat) (ks:List Nat):(yD n ks).length=n * ks.length:=by
 induction n with
 |zero=>simp[yD]
 |succ n ih=>simp[yD,ih,Nat.succ_mul];omega
theorem Tf:∀ {m:Nat} {t:TypeId} {ks:List Nat},Hf P m t=some ks→ks.length=P.cellsOf t
 |0,_,_,h=>by simp[Hf] at h
 |m+1,t,ks,h=>by
  unfold Hf at h
  split at h
  ·split at h
   ·rename_i e;injection h with h;subst h;simp[e]
   ·cases h
  ·split at h
   ·rename_i e;injection h with h;subst h;simp[e]
   ·cases h
  ·split at h
   ·rename_i e;injection h with h;subst h;simp[e]
   ·cases h
  ·split at h
   ·rename_i e
    have:=Wq (P:=P) (fun t ks h=>Tf (m:=m) h) h e.1
    omega
   ·cases h
  ·split at h
   ·rename_i e
    simp only[Option.map_eq_some_iff] at h
    obtain⟨a,h1,rfl⟩:=h
    rw[cP,Tf h1,e]
   ·cases h
  ·cases h
theorem vt {m:Nat} {t:TypeId} {ks:List Nat} (h:Hf P m t=some ks):(Wi P t=some true)∨(Wi P t=some false∧P.cellsOf t=1∧
 ((P.underlying t=some .bool∧ks=[0])∨((∃ k,P.underlying t=some (.int k))∧ks=[1])∨(P.underlying t=some .string∧ks=[2]))):=by
 cases m with
 |zero=>simp[Hf] at h
 |succ m=>
  unfold Hf at h
  unfold Wi
  split at h
  ·rename_i hu
   split at h
   ·rename_i e;injection h with h;exact .inr ⟨by simp[hu],e,.inl ⟨hu,h.symm⟩⟩
   ·cases h
  ·rename_i k hu
   split at h
   ·rename_i e;injection h with h;exact .inr ⟨by simp[hu],e,.inr (.inl ⟨⟨k,hu⟩,h.symm⟩)⟩
   ·cases h
  ·rename_i hu
   split at h
   ·rename_i e;injection h with h;exact .inr ⟨by simp[hu],e,.inr (.inr ⟨hu,h.symm⟩)⟩
   ·cases h
  ·rename_i hu;exact .inl (by simp[hu])
  ·rename_i hu;exact .inl (by simp[hu])
  ·cases h
variable {w:World}
theorem Gp {m:Nat} {e:TypeId} {ks:List Nat} (he:Hf P m e=some ks) {xs:List Value} {off:Nat} (hl:off+P.cellsOf e≤xs.length):
 (part e ⟨xs⟩ off).run P w= .ok (valOf P e ((xs.drop off).take (P.cellsOf e))) w:=by
 rcases vt he with ha | ⟨ha,h1,_⟩
 ·rw[Jp (n:=P.cellsOf e) ha (fun _=>Ou he) (fun hb=>by cases hb)]
  congr 1
  unfold valOf
  simp only[if_true,ha]
  congr 1
  apply Array.ext'
  simp[List.extract_eq_take_drop]
 ·rw[Jp (n:=P.cellsOf e) ha (fun _=>Ou he) (fun _=>⟨xs[off]'(by omega),by simp[show off < xs.length by omega]⟩)]
  congr 1
  unfold valOf
  simp only[ha,Bool.false_eq_true,if_false,Option.some.injEq]
  rw[h1]
  have hlt:off < xs.length:=by omega
  rw[List.take_one,List.head?_drop]
  simp[Array.getD_eq_getD_getElem?,hlt]
def zT (P:Program) (dd:Nat) (e:TypeId) (ks:List Nat):Prop:=
 ∀ (w:World) (xs ys:List Value) (b:Bool),xs.length=P.cellsOf e→ys.length=P.cellsOf e→sf ks xs ys=some b→(Op.equalIn dd e (valOf P e xs) (valOf P e ys)).run P w= .ok b w
theorem Zx (dd m:Nat) (xs ys:List Value) (hE:∀ t ks,Hf P m t=some ks→zT P dd t ks):∀ (fs:List Field) (ks:List Nat) (o n:Nat) (b:Bool),cq (Hf P m) fs=some ks→Kv P o fs=some n→n=xs.length→n=ys.length→
 sf ks (xs.drop o) (ys.drop o)=some b→(Op.eqFields dd ⟨xs⟩ ⟨ys⟩ fs).run P w= .ok b w
 | [],ks,o,n,b,hk,hl,h1,h2,h=>by
   simp only[cq,Option.some.injEq] at hk
   subst hk
   simp only[Kv,Option.some.injEq] at hl
   subst hl
   rw[List.drop_eq_nil_of_le (by omega),List.drop_eq_nil_of_le (by omega)] at h
   simp only[sf,Option.some.injEq] at h
   subst h
   simp[Op.eqFields]
 |f::fs,ks,o,n,b,hk,hl,h1,h2,h=>by
  simp only[cq] at hk
  split at hk
  ·rename_i hn
   simp only[bne_iff_ne,ne_eq] at hn
   simp only[Option.bind_eq_some_iff,Option.map_eq_some_iff] at hk
   obtain⟨k1,e1,k2,e2,rfl⟩:=hk
   simp only[Kv] at hl
   split at hl
   ·rename_i ho
    subst ho
    have hle:=Wq (P:=P) (fun t ks h=>Tf (m:=m) h) e2 hl
    have hlen:=Tf e1
    have px:=Gp (w:=w) e1 (xs:=xs) (off:=f.offset) (by omega)
    have py:=Gp (w:=w) e1 (xs:=ys) (off:=f.offset) (by omega)
    rw[← List.take_append_drop (P.cellsOf f.type) (xs.drop f.offset),←List.take_append_drop (P.cellsOf f.type) (ys.drop f.offset)] at h
    obtain⟨c,d,h3,h4,rfl⟩:=Oj (by simp;omega) (by simp;omega) h
    rw[List.drop_drop,List.drop_drop] at h4
    have he:=hE _ _ e1 w _ _ c (by simp;omega) (by simp;omega) h3
    have ih:=Zx dd m xs ys hE fs k2 (f.offset+P.cellsOf f.type) n d e2 hl h1 h2 h4
    simp only[Op.eqFields,hn,ne_eq,not_false_eq_true,if_true,Sem.run_bind,px,py,he,Result.andThen_ok]
    cases c
    ·simp
    ·simpa using ih
   ·cases hl
  ·cases hk
theorem Wy (dd m:Nat) {e:TypeId} {ks:List Nat} (he:Hf P m e=some ks) (hE:zT P dd e ks) (xs ys:List Value):∀ (k i:Nat) (b:Bool),xs.length=(i+k) * P.cellsOf e→ys.length=(i+k) * P.cellsOf e→
 sf (yD k ks) (xs.drop (i * P.cellsOf e)) (ys.drop (i * P.cellsOf e))=some b→(Op.eqItems dd e (P.cellsOf e) ⟨xs⟩ ⟨ys⟩ (List.range' i k)).run P w= .ok b w
 |0,i,b,h1,h2,h=>by
  rw[List.drop_eq_nil_of_le (by simp at h1;omega),List.drop_eq_nil_of_le (by simp at h2;omega)] at h
  simp only[yD,sf,Option.some.injEq] at h
  subst h
  simp[Op.eqItems]
 |k+1,i,b,h1,h2,h=>by
  have hlen:=Tf he
  have hx:i * P.cellsOf e+P.cellsOf e≤xs.length:=by
   rw[h1,←Nat.succ_mul];exact Nat.mul_le_mul_right _ (by omega)
  have hy:i * P.cellsOf e+P.cellsOf e≤ys.length:=by
   rw[h2,←Nat.succ_mul];exact Nat.mul_le_mul_right _ (by omega)
  have px:=Gp (w:=w) he (xs:=xs) (off:=i * P.cellsOf e) hx
  have py:=Gp (w:=w) he (xs:=ys) (off:=i * P.cellsOf e) hy
  rw[← List.take_append_drop (P.cellsOf e) (xs.drop _),←List.take_append_drop (P.cellsOf e) (ys.drop _)] at h
  obtain⟨c,d,h3,h4,rfl⟩:=Oj (by simp;omega) (by simp;omega) h
  rw[List.drop_drop,List.drop_drop,←Nat.succ_mul] at h4
  have hq:=hE w _ _ c (by simp;omega) (by simp;omega) h3
  have ih:=Wy dd m he hE xs ys k (i+1) d (by rw[h1];congr 1;omega) (by rw[h2];congr 1;omega) h4
  rw[List.range'_succ]
  simp only[Op.eqItems,Sem.run_bind,px,py,hq,Result.andThen_ok]
  cases c
  ·simp
  ·simpa using ih
theorem TD (d:Nat):∀ (m:Nat) (t:TypeId) (ks:List Nat),Hf P m t=some ks→zT P (d+m) t ks
 |0,_,_,h=>by simp[Hf] at h
 |m+1,t,ks,hk=>by
  intro w xs ys b hx hy h
  rw[show d+(m+1)=(d+m)+1 from rfl]
  rcases vt hk with ha | ⟨ha,h1,hc⟩
  ·have vx:valOf P t xs= .agg ⟨xs⟩:=by simp[valOf,ha]
   have vy:valOf P t ys= .agg ⟨ys⟩:=by simp[valOf,ha]
   rw[vx,vy]
   unfold Hf at hk
   split at hk
   ·rename_i hu;simp[Wi,hu] at ha
   ·rename_i hu;simp[Wi,hu] at ha
   ·rename_i hu;simp[Wi,hu] at ha
   ·rename_i fs hu
    split at hk
    ·rename_i e
     have hfs:P.fieldsOf t=fs:=by simp[Program.fieldsOf,hu]
     rw[run_equalIn_struct w (d+m) t ⟨xs⟩ ⟨ys⟩ (by rw[hfs];exact hu) e.2,hfs]
     exact Zx (d+m) m xs ys (fun t ks h=>TD d m t ks h) fs.toList ks 0 (P.cellsOf t) b hk e.1 hx.symm hy.symm (by simpa using h)
    ·cases hk
   ·rename_i n e hu
    split at hk
    ·rename_i hsz
     simp only[Option.map_eq_some_iff] at hk
     obtain⟨a,h3,rfl⟩:=hk
     obtain⟨i,hi⟩:=tz h3
     rw[run_equalIn_array w (d+m) ⟨xs⟩ ⟨ys⟩ hu hi,List.range_eq_range']
     exact Wy (d+m) m h3 (TD d m e a h3) xs ys n 0 b (by rw[hx,hsz,Nat.zero_add]) (by rw[hy,hsz,Nat.zero_add]) (by simpa using h)
    ·cases hk
   ·cases hk
  ·rw[h1] at hx hy
   match xs,ys,hx,hy with
   | [x],[y],_,_=>
     have vx:valOf P t [x]=x:=by simp[valOf,ha]
     have vy:valOf P t [y]=y:=by simp[valOf,ha]
     rw[vx,vy]
     have one:∀ k,ks=[k]→Ao k x y=some b:=by
      rintro k rfl
      simpa[sf] using h
     rcases hc with⟨hu,rfl⟩ | ⟨⟨kk,hu⟩,rfl⟩ | ⟨hu,rfl⟩
     ·rcases yi (one _ rfl) with⟨_,c,e,rfl,rfl,rfl⟩ | ⟨h,_⟩ | ⟨h,_⟩
      ·simp[Op.equalIn,run_underlying hu]
      ·cases h
      ·cases h
     ·rcases yi (one _ rfl) with⟨h,_⟩ | ⟨_,i,c,e,rfl,rfl,rfl⟩ | ⟨h,_⟩
      ·cases h
      ·simp[Op.equalIn,run_underlying hu]
      ·cases h
     ·rcases yi (one _ rfl) with⟨h,_⟩ | ⟨h,_⟩ | ⟨_,c,e,rfl,rfl,rfl⟩
      ·cases h
      ·cases h
      ·simp[Op.equalIn,run_underlying hu]
def Zv (P:Program) (t:TypeId):Kd→Bool
 | .one c=>Hf P 8 t==some [c]&&Wi P t==some false
 | .row ks=>Hf P 8 t==some ks&&Wi P t==some true
theorem Oz {R:Rd} {t:TypeId} {kd:Kd} (hk:Zv P t kd=true) {p q:PV} {v u:Value} (hp:Ea R p v) (hq:Ea R q u) {b:Bool} (h:Yi kd p q=some b):(Op.equal t v u).run P w= .ok b w:=by
 show (Op.equalIn (9992+8) t v u).run P w=_
 cases kd with
 |one c=>
  simp only[Zv,Bool.and_eq_true,beq_iff_eq] at hk
  have:=TD 9992 8 t [c] hk.1 w [v] [u] b (by have:=Tf hk.1;simpa using this) (by have:=Tf hk.1;simpa using this) (by
   simp only[Yi] at h
   simp[sf,Qo hp hq h])
  simpa[valOf,hk.2] using this
 |row ks=>
  simp only[Zv,Bool.and_eq_true,beq_iff_eq] at hk
  unfold Yi at h
  split at h
  ·cases ‹Kd.row ks=_›
  ·rename_i ks' xs ys e
   injection e with e;subst e
   cases hp with
   |agg _ vs h1=>
    cases hq with
    |agg _ us h2=>
     have hr:=Qv h1 h2 h
     have lens:∀ {ks:List Nat} {xs ys:List Value} {b:Bool},sf ks xs ys=some b→xs.length=ks.length∧ys.length=ks.length:=by
      intro ks
      induction ks with
      |nil=>intro xs ys b h;cases xs <;> cases ys <;> simp_all [sf]
      |cons k ks ih=>
       intro xs ys b h
       cases xs <;> cases ys <;> simp only[sf,Option.bind_eq_some_iff,Option.map_eq_some_iff] at h
       ·cases h
       ·cases h
       ·cases h
       ·obtain⟨_,_,_,h2,_⟩:=h
        have:=ih h2
        simp[this.1,this.2]
     have hl:=lens hr
     have hn:=Tf hk.1
     have:=TD 9992 8 t ks hk.1 w vs us b (by omega) (by omega) hr
     simpa[valOf,hk.2] using this
  ·cases h
end
end Go.AM
namespace Go.AM
open Go.RowKit
def IT (P:Program) (t:TypeId) (f:TypeDesc→Bool):Bool:=
 match P.underlying t with
 |some d=>f d
 |none=>false
def QS (P:Program) (t:TypeId):Option Nat:=
 match P.underlying t with
 |some .bool=>some 0
 |some (.pointer _)=>some 1
 |some (.slice _)=>some 2
 |some (.func _ _ _)=>some 3
 |_=>none
def sS (P:Program) (t:TypeId):Bool:=
 match P.underlying t with
 |some (.int .u8)=>true
 |_=>false
def KS (P:Program) (t:TypeId):Bool:=
 match P.underlying t with
 |some .string=>true
 |_=>false
def TT (P:Program) (t:TypeId) (k:IntKind):Bool:=
 match P.underlying t with
 |some (.int k')=>decide (k'=k)
 |_=>false
def vr (P:Program) (t:TypeId):Option TypeId:=
 match P.underlying t with
 |some (.slice e)=>some e
 |_=>none
def aQ (P:Program) (el:TypeId) (sz:Nat) (ag:Bool) (zero:List PV):Bool:=
 Oc P el==some sz&&decide (0 < sz)&&(ag||sz==1)&&Jm P el zero&&zero.length==sz&&Wi P el==some ag
def tO (P:Program) (t tx e:TypeId) (sz bytes:Nat):Bool:=
 vr P t==some e&&(IT P tx fun d=>match d with | .slice e'=>e'==e | .string=>true | _=>false)&&Oc P e==some sz&&Sl P e==some bytes&&decide (0 < bytes)&&decide (0 < sz)&&JJ P e sz
def It (fo:Nat→FuncId):List (Nat×Operand)→List (Nat×AO)→Bool
 | [],[]=>true
 | (i,x)::xs,(j,y)::ys=>i==j&&uj fo x y&&It fo xs ys
 |_,_=>false
def AJ (fo:Nat→FuncId):Option Operand→Option AO→Bool
 |none,none=>true
 |some x,some y=>uj fo x y
 |_,_=>false
def BR (P:Program) (t:TypeId) (f:Nat):Option Field:=
 match P.underlying t with
 |some (.struct fs)=>fs[f]?
 |_=>none
def Em (P:Program) (fo:Nat→FuncId) (fs:Array Field):List (Nat×Operand)→List (Nat×Nat×AO)→Bool
 | [],[]=>true
 | (i,x)::xs,(off,sz,y)::ys=>
   (match fs[i]? with | some f=>f.offset==off&&Oc P f.type==some sz | none=>false)&&uj fo x y&&Em P fo fs xs ys
 |_,_=>false
def XI (P:Program) (t:TypeId) (kd:Kd):Bool:=
 match P.underlying t with
 |some (.map k _)=>Zv P k kd
 |_=>false
def sP (P:Program) (t:TypeId) (zero:PV):Bool:=
 match P.underlying t with
 |some (.map _ e)=>
  (match P.info? e with
  |some i=>(match i.zero,zero with
   |some (.agg cs),.agg ps=>Km cs.toList ps
   |some z,p=>wv z p
   |none,_=>false)
  |none=>false)
 |_=>false
def qO (P:Program) (fo:Nat→FuncId):Op→Ec→Bool
 | .move x,.move y=>uj fo x y
 | .assign x,.move y=>uj fo x y
 | .pick c a b,.pick c' a' b'=>uj fo c c'&&uj fo a a'&&uj fo b b'
 | .alloc t,.alloc zero=>Jm P t zero
 | .box _ x,.box _ y=>uj fo x y
 | .build t parts,.build zero aparts=>
   (match P.underlying t with
   |some (.struct fs)=>Em P fo fs parts.toList aparts&&fs.all fun f=>(Oc P f.type).isSome
   |some (.array _ el)=>parts.toList.isEmpty&&aparts.isEmpty&&(Oc P el).isSome
   |_=>false)&&Jm P t zero
 | .buildSlice t len parts,.Hb _ sz ag len' zero aparts=>
   (match vr P t with
   |some el=>aQ P el sz ag zero
   |none=>false)&&len==len'&&decide (len * sz≤2 ^ 24)&&It fo parts.toList aparts
 | .load t x,.load ag n y=>Wi P t==some ag&&(!ag||Oc P t==some n)&&uj fo x y
 | .store t p x,.store n q y=>Oc P t==some n&&uj fo p q&&uj fo x y
 | .nilCheck x,.KA y=>uj fo x y
 | .binOp op _ x y _,.bin op' x' y'=>decide (op=op')&&uj fo x x'&&uj fo y y'
 | .binOp .eql t x y _,.eq k false x' y'=>QS P t==some k&&uj fo x x'&&uj fo y y'
 | .binOp .neq t x y _,.eq k true x' y'=>QS P t==some k&&uj fo x x'&&uj fo y y'
 | .unOp op _ x,.un op' y=>decide (op=op')&&uj fo x y
 | .convert s d x,.conv k y=>(P.underlying s).isSome&&TT P d k&&uj fo x y
 | .convert s d x,.GS y=>(match vr P s with | some el=>sS P el | none=>false)&&KS P d&&uj fo x y
 | .convert s d x,.gQ _ y=>(P.underlying s).isSome&&(match vr P d with | some el=>sS P el | none=>false)&&uj fo x y
 | .makeFunc (.func f) first caps,.pD ix ys=>first.size==0&&fo ix==f&&Hy fo caps.toList ys
 | .makeSlice t l c,.ye _ sz ag zero bytes l' c'=>
   (match vr P t with
   |some el=>aQ P el sz ag zero&&Sl P el==some bytes
   |none=>false)&&decide (0 < bytes)&&uj fo l l'&&uj fo c c'
 | .slice t x lo hi none,.slice sz y lo' hi'=>
   (match P.underlying t with
   |some (.slice el)=>sz != 0&&Oc P el==some sz
   |some .string=>sz==0
   |_=>false)&&uj fo x y&&AJ fo lo lo'&&AJ fo hi hi'
 | .fieldAddr t x f,.az off y=>
   (match BR P t f with
   |some fd=>fd.offset==off&&(match Oc P fd.type with | some n=>n != 0 | none=>false)
   |none=>false)&&uj fo x y
 | .field t x f,.IS off ag n y=>
   (match BR P t f with
   |some fd=>fd.offset==off&&Wi P fd.type==some ag&&(!ag||Oc P fd.type==some n)
   |none=>false)&&uj fo x y
 | .indexAddr t x i,.mg sz y j=>(match vr P t with | some el=>Oc P el==some sz | none=>false)&&uj fo x y&&uj fo i j
 | .indexAddr t x i,.xu n sz y j=>
   (match P.underlying t with
   |some (.array n' el)=>n'==n&&Oc P el==some sz
   |_=>false)&&uj fo x y&&uj fo i j
 | .index t x i,.fR n sz ag y j=>
   (match P.underlying t with
   |some (.array n' el)=>n'==n&&Oc P el==some sz&&Wi P el==some ag
   |_=>false)&&uj fo x y&&uj fo i j
 | .index t x i,.MS y j=>KS P t&&uj fo x y&&uj fo i j
 | .extract x i,.ext i' y=>i==i'&&uj fo x y
 | .call {callee:= .builtin .len,args,argTypes},.len k y=>
   (match args.toList,argTypes.toList with
   | [x],[t]=>uj fo x y&&(match P.underlying t with | some (.slice _)=>k==0 | some .string=>k==1 | _=>false)
   |_,_=>false)
 | .call {callee:= .builtin .max,args,..},.mx ys=>Hy fo args.toList ys
 | .call {callee:= .builtin .min,args,..},.mn ys=>Hy fo args.toList ys
 | .call {callee:= .builtin .append,args,argTypes},.append _ _ sz ag bytes s y=>
   (match args.toList,argTypes.toList with
   | [x,z],[t,tx]=>uj fo x s&&uj fo z y&&(match vr P t with | some el=>tO P t tx el sz bytes&&Wi P el==some ag | none=>false)
   |_,_=>false)
 | .box _ x,.ZH _ y=>uj fo x y
 | .binOp .eql t x y _,.GR (.row ks) false x' y'=>Zv P t (.row ks)&& !P.eqGuardType P.depth t&&uj fo x x'&&uj fo y y'
 | .binOp .neq t x y _,.GR (.row ks) true x' y'=>Zv P t (.row ks)&& !P.eqGuardType P.depth t&&uj fo x x'&&uj fo y y'
 | .makeMap _ none,.AA=>true
 | .lookup t x k ok,.lookup kd zero ok' x' k'=>XI P t kd&&sP P t zero&&ok==ok'&&uj fo x x'&&uj fo k k'
 | .mapUpdate t m k v,.Jq kd m' k' v'=>XI P t kd&&uj fo m m'&&uj fo k k'&&uj fo v v'
 | .insert t m k v,.Jq kd m' k' v'=>XI P t kd&&uj fo m m'&&uj fo k k'&&uj fo v v'
 | .convert s d x,.ES y=>s==d&&(match vr P d with | some el=>sS P el | none=>false)&&uj fo x y
 |_,_=>false
def zv (P:Program) (fo:Nat→FuncId) (B0:se) (o:Oper) (a:Act) (w:World) (R:Rd) (φ:Pl) (H:List aa) (v:AV) (H':List aa):Prop:=
 ∀ (next:Act→World→Prop) (Q:Exit→Act→World→Prop),
  (∀ v' w' R' φ',Kb fo B0 w' R' φ' H'→Yb fo (K R' φ' H') v v'→(∀ a u,K R φ H a u→K R' φ' H' a u)→Ve B0 w w'→next (a.put o.dst v') w')→o.wp P a w next Q
section ops
variable {P:Program} {fo:Nat→FuncId} {B0:se} {w:World} {R:Rd} {φ:Pl} {H H':List aa} {e:Tr} {a:Act}
theorem zv.qc {o:Oper} {v:AV} {s:Sem Value} (h:execOp a.eval o=(do pure (.value (← s)))) (hr:jj fo B0 w R φ H P s v H'):zv P fo B0 o a w R φ H v H':=by
 intro next Q hn
 obtain⟨v',w',R',φ',h1,h2,h3,h4,h5⟩:=hr
 unfold Oper.wp
 rw[h,Sem.run_bind,h1]
 exact hn v' w' R' φ' h2 h3 h4 h5
theorem zv.Ho {o:Oper} {v:AV} {v':Value} (hS:Kb fo B0 w R φ H) (h:(execOp a.eval o).run P w= .ok (.value v') w) (hv:Yb fo (K R φ H) v v'):zv P fo B0 o a w R φ H v H:=by
 intro next Q hn
 unfold Oper.wp
 rw[h]
 exact hn v' w R φ hS hv (fun _ _ h=>h) (Ve.refl _ _)
theorem lC {el:TypeId} {sz:Nat} {ag:Bool} {zero:List PV} (h:aQ P el sz ag zero=true):JO P el sz ag zero:=by
 simp only[aQ,Bool.and_eq_true,beq_iff_eq,decide_eq_true_eq,Bool.or_eq_true] at h
 obtain⟨⟨⟨⟨⟨h1,h2⟩,h3⟩,h4⟩,h5⟩,h6⟩:=h
 exact⟨h1,h2,fun e=>by rcases h3 with h | h;simp[e] at h;exact h,h4,h5⟩
theorem Tk {t el:TypeId} (h:vr P t=some el):P.underlying t=some (.slice el):=by
 unfold vr at h
 split at h
 ·rename_i e he;injection h with h;subst h;exact he
 ·cases h
theorem xN {t:TypeId} {f:TypeDesc→Bool} (h:IT P t f=true):∃ d,P.underlying t=some d∧f d=true:=by
 unfold IT at h
 split at h
 ·rename_i d hd;exact⟨d,hd,h⟩
 ·cases h
theorem VH {t tx el:TypeId} {sz bytes:Nat} (h:tO P t tx el sz bytes=true):nJ P t tx el sz bytes:=by
 simp only[tO,Bool.and_eq_true,beq_iff_eq,decide_eq_true_eq] at h
 obtain⟨⟨⟨⟨⟨⟨h1,h2⟩,h3⟩,h4⟩,h5⟩,h6⟩,h7⟩:=h
 obtain⟨d,hd,hf⟩:=xN h2
 refine⟨Tk h1,⟨d,hd,?_⟩,h3,h4,h5,h6,h7⟩
 cases d <;> simp at hf
 ·exact .inr rfl
 ·exact .inl (by rw[hf])
theorem ti {t:TypeId} {k:Nat} (h:QS P t=some k):(k=0∧P.underlying t=some .bool)∨(k=1∧∃ e,P.underlying t=some (.pointer e))∨(k=2∧∃ e,P.underlying t=some (.slice e))∨(k=3∧∃ p r v,P.underlying t=some (.func p r v)):=by
 unfold QS at h
 split at h <;> first
  |cases h;done
  | (injection h with h;subst h;simp_all)
theorem Yb.Sy {K:AV→Value→Prop} {id off:Nat} {v:Value} (h:Yb fo K (.ptr id off) v):K (.ptr id off) v:=by cases h with | atom _ _ h=>exact h
theorem Yb.Rv {K:AV→Value→Prop} {id off:Nat} {v:Value} (h:Yb fo K (.own id off) v):K (.own id off) v:=by cases h with | atom _ _ h=>exact h
theorem Yb.Dq {K:AV→Value→Prop} {id sz:Nat} {nl:Bool} {es:List PV} {v:Value} (h:Yb fo K (.uq id nl sz es) v):K (.uq id nl sz es) v:=by cases h with | atom _ _ h=>exact h
theorem Yg {t:TypeId} (hu:P.underlying t=some .bool) (d:Nat) (a b:Bool):(Op.equalIn (d+1) t (.bool a) (.bool b)).run P w= .ok (a==b) w:=by
 simp[Op.equalIn,run_underlying hu]
theorem Si {t el:TypeId} (hu:P.underlying t=some (.pointer el)) (d:Nat) (a:Option Addr):(Op.equalIn (d+1) t (.pointer a) (.pointer none)).run P w= .ok a.isNone w:=by
 cases a <;> simp[Op.equalIn,run_underlying hu]
theorem Zg {t el:TypeId} (hu:P.underlying t=some (.pointer el)) (d:Nat) (a:Option Addr):(Op.equalIn (d+1) t (.pointer none) (.pointer a)).run P w= .ok a.isNone w:=by
 cases a <;> simp[Op.equalIn,run_underlying hu]
theorem Rf {t el:TypeId} (hu:P.underlying t=some (.slice el)) (d:Nat) (a:Option Addr) (n c m k:Nat):(Op.equalIn (d+1) t (.slice a n c) (.slice none m k)).run P w= .ok a.isNone w:=by
 cases a <;> simp[Op.equalIn,run_underlying hu]
theorem Xg {t:TypeId} {p r:Array TypeId} {v:Bool} (hu:P.underlying t=some (.func p r v)) (d:Nat) (f:Fn) (x y:Array Value):(Op.equalIn (d+1) t (.func f x y) .nilFunc).run P w= .ok false w:=by
 simp[Op.equalIn,run_underlying hu]
theorem Pf {t:TypeId} {p r:Array TypeId} {v:Bool} (hu:P.underlying t=some (.func p r v)) (d:Nat):(Op.equalIn (d+1) t .nilFunc .nilFunc).run P w= .ok true w:=by
 simp[Op.equalIn,run_underlying hu]
theorem nN {t:TypeId} {k:Nat} (ht:QS P t=some k) (hS:Kb fo B0 w R φ H) {x y:AV} {vx vy:Value} (hx:Yb fo (K R φ H) x vx) (hy:Yb fo (K R φ H) y vy) {b:Bool} (h:sm H k x y=some b):
 (∀ op:BinOp,op= .eql∨op= .neq→∀ (ox oy:Operand),(do eqGuard op t ox oy vx vy;binOp op t vx vy:Sem Value).run P w= .ok (.bool (if op= .neq then !b else b)) w):=by
 have key:(Op.equal t vx vy).run P w= .ok b w→(∀ (op:BinOp) (ox oy:Operand),(eqGuard op t ox oy vx vy)=pure ())→(∀ op:BinOp,(op= .eql→binOp op t vx vy=(do pure (.bool (← Op.equal t vx vy))))∧(op= .neq→binOp op t vx vy=(do pure (.bool (!(← Op.equal t vx vy))))))→
  (∀ op:BinOp,op= .eql∨op= .neq→∀ (ox oy:Operand),(do eqGuard op t ox oy vx vy;binOp op t vx vy:Sem Value).run P w= .ok (.bool (if op= .neq then !b else b)) w):=by
  intro h1 h2 h3 op hop ox oy
  rcases hop with rfl | rfl
  ·simp[h2,(h3 .eql).1 rfl,h1]
  ·simp[h2,(h3 .neq).2 rfl,h1]
 have one:∀ (x y:Value),(Op.equal t x y).run P w=(Op.equalIn (9999+1) t x y).run P w:=fun _ _=>rfl
 unfold sm at h
 split at h
 ·
  have h1:=hx.qb;have h2:=hy.qb
  cases h1;cases h2
  injection h with h;subst h
  have hu:=ti ht
  simp at hu
  refine key ?_ (fun op ox oy=>by cases op <;> rfl) (fun op=>⟨fun e=>by subst e;rfl,fun e=>by subst e;rfl⟩)
  rw[one]
  first | exact Yg hu 9999 _ _ | exact Si hu 9999 _ | exact Zg hu 9999 _ | exact Rf hu 9999 _ _ _ _ _ | exact Xg hu 9999 _ _ _ | exact Pf hu 9999
 ·have h1:=hx.qb;have h2:=hy.qb
  cases h1;cases h2
  injection h with h;subst h
  have hu:=ti ht
  simp at hu
  obtain⟨e,hu⟩:=hu
  refine key ?_ (fun op ox oy=>by cases op <;> rfl) (fun op=>⟨fun e=>by subst e;rfl,fun e=>by subst e;rfl⟩)
  rw[one]
  first | exact Yg hu 9999 _ _ | exact Si hu 9999 _ | exact Zg hu 9999 _ | exact Rf hu 9999 _ _ _ _ _ | exact Xg hu 9999 _ _ _ | exact Pf hu 9999
 ·have h1:=hx.qb;have h2:=hy.qb
  cases h1;cases h2
  injection h with h;subst h
  have hu:=ti ht
  simp at hu
  obtain⟨e,hu⟩:=hu
  refine key ?_ (fun op ox oy=>by cases op <;> rfl) (fun op=>⟨fun e=>by subst e;rfl,fun e=>by subst e;rfl⟩)
  rw[one]
  first | exact Yg hu 9999 _ _ | exact Si hu 9999 _ | exact Zg hu 9999 _ | exact Rf hu 9999 _ _ _ _ _ | exact Xg hu 9999 _ _ _ | exact Pf hu 9999
 ·have h1:=hx.qb;have h2:=hy.qb
  cases h1;cases h2
  injection h with h;subst h
  have hu:=ti ht
  simp at hu
  obtain⟨e,hu⟩:=hu
  refine key ?_ (fun op ox oy=>by cases op <;> rfl) (fun op=>⟨fun e=>by subst e;rfl,fun e=>by subst e;rfl⟩)
  rw[one]
  first | exact Yg hu 9999 _ _ | exact Si hu 9999 _ | exact Zg hu 9999 _ | exact Rf hu 9999 _ _ _ _ _ | exact Xg hu 9999 _ _ _ | exact Pf hu 9999
 ·
  split at h
  ·rename_i hc
   have h2:=hy.qb
   cases h2
   injection h with h;subst h
   have h1:=hx.Sy
   rw[h1.2.2 _ hc]
   have hu:=ti ht
   simp at hu
   obtain⟨e,hu⟩:=hu
   rw[h1.2.2 _ hc] at key
   refine key ?_ (fun op ox oy=>by cases op <;> rfl) (fun op=>⟨fun e=>by subst e;rfl,fun e=>by subst e;rfl⟩)
   rw[one]
   first | exact Yg hu 9999 _ _ | exact Si hu 9999 _ | exact Zg hu 9999 _ | exact Rf hu 9999 _ _ _ _ _ | exact Xg hu 9999 _ _ _ | exact Pf hu 9999
  ·cases h
 ·have h1:=hx.qb;have h2:=hy.qb
  cases h1;cases h2
  injection h with h;subst h
  have hu:=ti ht
  simp at hu
  obtain⟨e,hu⟩:=hu
  refine key ?_ (fun op ox oy=>by cases op <;> rfl) (fun op=>⟨fun e=>by subst e;rfl,fun e=>by subst e;rfl⟩)
  rw[one]
  first | exact Yg hu 9999 _ _ | exact Si hu 9999 _ | exact Zg hu 9999 _ | exact Rf hu 9999 _ _ _ _ _ | exact Xg hu 9999 _ _ _ | exact Pf hu 9999
 ·have h1:=hx.qb;have h2:=hy.qb
  cases h2
  obtain⟨a7,n7,c7,rfl⟩:∃ a n c,vx= .slice (some a) n c:=by cases h1 <;> exact⟨_,_,_,rfl⟩
  injection h with h;subst h
  have hu:=ti ht
  simp at hu
  obtain⟨e,hu⟩:=hu
  refine key ?_ (fun op ox oy=>by cases op <;> rfl) (fun op=>⟨fun e=>by subst e;rfl,fun e=>by subst e;rfl⟩)
  rw[one]
  first | exact Yg hu 9999 _ _ | exact Si hu 9999 _ | exact Zg hu 9999 _ | exact Rf hu 9999 _ _ _ _ _ | exact Xg hu 9999 _ _ _ | exact Pf hu 9999
 ·
  rename_i nl sz es
  have h2:=hy.qb
  cases h2
  injection h with h;subst h
  have h1:=hx.Dq
  have hu:=ti ht
  simp at hu
  obtain⟨e,hu⟩:=hu
  cases nl with
  |true=>
   rw[(h1.2.1 rfl).1] at key ⊢
   refine key ?_ (fun op ox oy=>by cases op <;> rfl) (fun op=>⟨fun e=>by subst e;rfl,fun e=>by subst e;rfl⟩)
   rw[one]
   first | exact Yg hu 9999 _ _ | exact Si hu 9999 _ | exact Zg hu 9999 _ | exact Rf hu 9999 _ _ _ _ _ | exact Xg hu 9999 _ _ _ | exact Pf hu 9999
  |false=>
   have h3:=h1.2.2.1 rfl
   obtain⟨a8,n8,c8,rfl⟩:∃ a n c,vx= .slice (some a) n c:=by cases h3 <;> exact⟨_,_,_,rfl⟩
   refine key ?_ (fun op ox oy=>by cases op <;> rfl) (fun op=>⟨fun e=>by subst e;rfl,fun e=>by subst e;rfl⟩)
   rw[one]
   first | exact Yg hu 9999 _ _ | exact Si hu 9999 _ | exact Zg hu 9999 _ | exact Rf hu 9999 _ _ _ _ _ | exact Xg hu 9999 _ _ _ | exact Pf hu 9999
 ·
  split at h
  ·rename_i sz ag c fl nl hc
   split at h
   ·rename_i hcur
    injection h with h;subst h
    have h2:=hy.qb
    cases h2
    have h1:=hx.Rv
    obtain⟨k0,k⟩:=h1.2.2 _ _ _ _ _ hc
    obtain⟨o0,o1,o2,_⟩:=hS.obj _ _ hc
    obtain⟨k1,k2⟩:=k (by omega)
    have hu:=ti ht
    simp at hu
    obtain⟨e,hu⟩:=hu
    cases nl with
    |true=>
     rw[k1 rfl] at key ⊢
     refine key ?_ (fun op ox oy=>by cases op <;> rfl) (fun op=>⟨fun e=>by subst e;rfl,fun e=>by subst e;rfl⟩)
     rw[one]
     first | exact Yg hu 9999 _ _ | exact Si hu 9999 _ | exact Zg hu 9999 _ | exact Rf hu 9999 _ _ _ _ _ | exact Xg hu 9999 _ _ _ | exact Pf hu 9999
    |false=>
     rcases k2 rfl with⟨q1,q2,_⟩ | ⟨b,o,cap,q1,_,_⟩
     ·subst q1;exact absurd (List.eq_nil_of_length_eq_zero (by omega)) q2
     ·rw[q1] at key ⊢
      refine key ?_ (fun op ox oy=>by cases op <;> rfl) (fun op=>⟨fun e=>by subst e;rfl,fun e=>by subst e;rfl⟩)
      rw[one]
      first | exact Yg hu 9999 _ _ | exact Si hu 9999 _ | exact Zg hu 9999 _ | exact Rf hu 9999 _ _ _ _ _ | exact Xg hu 9999 _ _ _ | exact Pf hu 9999
   ·cases h
  ·cases h
 ·have h2:=hy.qb
  cases h2
  injection h with h;subst h
  cases hx with
  |atom _ _ h=>exact h.elim
  |mi ix cs vs hc=>
   have hu:=ti ht
   replace hu:=((hu.resolve_left (by simp)).resolve_left (by simp)).resolve_left (by simp)
   obtain⟨_,p,r,v,hu⟩:=hu
   refine key ?_ (fun op ox oy=>by cases op <;> rfl) (fun op=>⟨fun e=>by subst e;rfl,fun e=>by subst e;rfl⟩)
   rw[one]
   first | exact Yg hu 9999 _ _ | exact Si hu 9999 _ | exact Zg hu 9999 _ | exact Rf hu 9999 _ _ _ _ _ | exact Xg hu 9999 _ _ _ | exact Pf hu 9999
 ·have h1:=hx.qb;have h2:=hy.qb
  cases h1;cases h2
  injection h with h;subst h
  have hu:=ti ht
  replace hu:=((hu.resolve_left (by simp)).resolve_left (by simp)).resolve_left (by simp)
  obtain⟨_,p,r,v,hu⟩:=hu
  refine key ?_ (fun op ox oy=>by cases op <;> rfl) (fun op=>⟨fun e=>by subst e;rfl,fun e=>by subst e;rfl⟩)
  rw[one]
  first | exact Yg hu 9999 _ _ | exact Si hu 9999 _ | exact Zg hu 9999 _ | exact Rf hu 9999 _ _ _ _ _ | exact Xg hu 9999 _ _ _ | exact Pf hu 9999
 ·cases h
end ops
end Go.AM
namespace Go.AM
open Go.RowKit
section
variable {P:Program} {fo:Nat→FuncId} {B0:se} {w:World} {R:Rd} {φ:Pl} {H H':List aa}
def LR (P:Program) (em:Bool) (dd:Nat) (e:TypeId) (ks:List Nat):Prop:=
 ∀ (w:World) (xs:List Value) (b:Bool),xs.length=P.cellsOf e→sf ks xs xs=some b→(Instr.checkKey em dd e (valOf P e xs)).run P w= .ok () w
theorem Ft (em:Bool) (d:Nat):∀ (m:Nat) (t:TypeId) (ks:List Nat),Hf P m t=some ks→LR P em (d+m) t ks
 |0,_,_,h=>by simp[Hf] at h
 |m+1,t,ks,hk=>by
  intro w xs b hx h
  rw[show d+(m+1)=(d+m)+1 from rfl]
  rcases vt hk with ha | ⟨ha,h1,hc⟩
  ·have vx:valOf P t xs= .agg ⟨xs⟩:=by simp[valOf,ha]
   rw[vx]
   unfold Hf at hk
   split at hk
   ·rename_i hu;simp[Wi,hu] at ha
   ·rename_i hu;simp[Wi,hu] at ha
   ·rename_i hu;simp[Wi,hu] at ha
   ·rename_i fs hu
    split at hk
    ·rename_i e
     rw[Instr.checkKey]
     simp only[Sem.run_bind,run_underlying hu,Result.andThen_ok]
     rw[← Array.forIn_toList]
     have hE:=fun t ks h=>Ft em d m t ks h
     have hl:=e.1
     have h':sf ks (xs.drop 0) (xs.drop 0)=some b:=by simpa using h
     clear h e hu vx ha
     generalize P.cellsOf t=n at hl hx
     generalize 0=o at hl h'
     generalize fs.toList=L at hk hl
     induction L generalizing ks o b with
     |nil=>simp
     |cons f L ih=>
      simp only[cq] at hk
      split at hk
      ·rename_i hn
       simp only[bne_iff_ne,ne_eq] at hn
       simp only[Option.bind_eq_some_iff,Option.map_eq_some_iff] at hk
       obtain⟨k1,e1,k2,e2,rfl⟩:=hk
       simp only[Kv] at hl
       split at hl
       ·rename_i ho
        subst ho
        have hle:=Wq (P:=P) (fun t ks h=>Tf (m:=m) h) e2 hl
        have hlen:=Tf e1
        have px:=Gp (w:=w) e1 (xs:=xs) (off:=f.offset) (by omega)
        rw[← List.take_append_drop (P.cellsOf f.type) (xs.drop f.offset)] at h'
        obtain⟨c,g,h3,h4,rfl⟩:=Oj (by simp;omega) rfl h'
        rw[List.drop_drop] at h4
        have he:=hE _ _ e1 w _ c (by simp;omega) h3
        simp only[List.forIn_cons,Sem.run_bind,hn,ne_eq,not_false_eq_true,if_true,Result.andThen_ok,px,he,Sem.run_pure]
        exact ih _ _ _ h4 e2 hl
       ·cases hl
      ·cases hk
    ·cases hk
   ·rename_i n e hu
    split at hk
    ·rename_i hsz
     simp only[Option.map_eq_some_iff] at hk
     obtain⟨a,h3,rfl⟩:=hk
     rw[Instr.checkKey]
     simp only[Sem.run_bind,run_underlying hu,Result.andThen_ok]
     simp only[Std.Legacy.Range.forIn_eq_forIn_range',Std.Legacy.Range.size,Nat.sub_zero,Nat.add_one_sub_one,Nat.div_one]
     have hE:=Ft em d m e a h3
     have hlen:=Tf h3
     have hx':xs.length=(0+n) * P.cellsOf e:=by rw[hx,hsz,Nat.zero_add]
     have h':sf (yD n a) (xs.drop (0 * P.cellsOf e)) (xs.drop (0 * P.cellsOf e))=some b:=by simpa using h
     clear hx h hsz hu vx ha
     generalize 0=i at hx' h'
     induction n generalizing i b with
     |zero=>simp
     |succ k ih=>
      have hxl:i * P.cellsOf e+P.cellsOf e≤xs.length:=by
       rw[hx',←Nat.succ_mul];exact Nat.mul_le_mul_right _ (by omega)
      have px:=Gp (w:=w) h3 (xs:=xs) (off:=i * P.cellsOf e) hxl
      rw[yD,←List.take_append_drop (P.cellsOf e) (xs.drop _)] at h'
      obtain⟨c,g,h5,h4,rfl⟩:=Oj (by simp;omega) rfl h'
      rw[List.drop_drop,←Nat.succ_mul] at h4
      have hq:=hE w _ c (by simp;omega) h5
      rw[List.range'_succ]
      simp only[List.forIn_cons,Sem.run_bind,Ob (Ou h3),Result.andThen_ok,px,hq,Sem.run_pure]
      exact ih _ _ (by rw[hx'];congr 1;omega) h4
    ·cases hk
   ·cases hk
  ·rw[h1] at hx
   match xs,hx with
   | [x],_=>
     have vx:valOf P t [x]=x:=by simp[valOf,ha]
     rw[vx]
     have one:∀ k,ks=[k]→Ao k x x=some b:=by
      rintro k rfl
      simpa[sf] using h
     rw[Instr.checkKey]
     rcases hc with⟨hu,rfl⟩ | ⟨⟨kk,hu⟩,rfl⟩ | ⟨hu,rfl⟩
     ·simp[run_underlying hu]
     ·simp[run_underlying hu]
     ·simp[run_underlying hu]
theorem EH:∀ {ks:List Nat} {xs ys:List Value} {b:Bool},sf ks xs ys=some b→xs.length=ks.length∧ys.length=ks.length:=by
 intro ks
 induction ks with
 |nil=>intro xs ys b h;cases xs <;> cases ys <;> simp_all [sf]
 |cons k ks ih=>
  intro xs ys b h
  cases xs <;> cases ys <;> simp only[sf,Option.bind_eq_some_iff,Option.map_eq_some_iff] at h
  ·cases h
  ·cases h
  ·cases h
  ·obtain⟨_,_,_,h2,_⟩:=h
   have:=ih h2
   simp[this.1,this.2]
theorem Fv {t:TypeId} {kd:Kd} (hk:Zv P t kd=true) {p:PV} {v:Value} (hp:Ea R p v) {b:Bool} (h:Yi kd p p=some b) (em:Bool):(Instr.checkKey em 10000 t v).run P w= .ok () w:=by
 show (Instr.checkKey em (9992+8) t v).run P w=_
 cases kd with
 |one c=>
  simp only[Zv,Bool.and_eq_true,beq_iff_eq] at hk
  have:=Ft em 9992 8 t [c] hk.1 w [v] b (by have:=Tf hk.1;simpa using this) (by
   simp only[Yi] at h
   simp[sf,Qo hp hp h])
  simpa[valOf,hk.2] using this
 |row ks=>
  simp only[Zv,Bool.and_eq_true,beq_iff_eq] at hk
  have hs:∃ xs,p= .agg xs:=by cases p <;> simp[Yi] at h;exact⟨_,rfl⟩
  obtain⟨xs,rfl⟩:=hs
  simp only[Yi] at h
  cases hp with
  |agg _ vs h1=>
   have hr:=Qv h1 h1 h
   have hl:=EH hr
   have hn:=Tf hk.1
   have:=Ft em 9992 8 t ks hk.1 w vs b (by omega) hr
   simpa[valOf,hk.2] using this
theorem Qx {k:Nat} {x y:Value} (h:Ao k x y=some true):x=y:=by
 rcases yi h with⟨_,c,d,rfl,rfl,e⟩ | ⟨_,i,c,d,rfl,rfl,e⟩ | ⟨_,c,d,rfl,rfl,e⟩
 ·have:=eq_of_beq e.symm;rw[this]
 ·have:=eq_of_beq e.symm;rw[this]
 ·have:c=d:=by
   have e:=e.symm
   obtain⟨⟨c⟩⟩:=c;obtain⟨⟨d⟩⟩:=d
   have h2:((⟨c⟩:Array UInt8)==⟨d⟩)=true:=e
   have:=eq_of_beq h2
   simp at this
   rw[this]
  rw[this]
theorem gA:∀ {ks:List Nat} {xs ys:List Value},sf ks xs ys=some true→xs=ys
 | [],[],[],_=>rfl
 |k::ks,x::xs,y::ys,h=>by
  simp only[sf,Option.bind_eq_some_iff,Option.map_eq_some_iff] at h
  obtain⟨b,h1,c,h2,h3⟩:=h
  simp only[Bool.and_eq_true] at h3
  obtain⟨rfl,rfl⟩:=h3
  rw[Qx h1,gA h2]
 | [],[],_::_,h=>by simp[sf] at h
 | [],_::_,_,h=>by simp[sf] at h
 |_::_,[],_,h=>by simp[sf] at h
 |_::_,_::_,[],h=>by simp[sf] at h
theorem MM {kd:Kd} {p q:PV} {v u:Value} (hp:Ea R p v) (hq:Ea R q u) (h:Yi kd p q=some true):v=u∧∀ n,Instr.sameBits (n+2) u u=true:=by
 have atom:∀ {c:Nat} {x y:Value} {b:Bool},Ao c x y=some b→∀ n,Instr.sameBits n x x=true:=by
  intro c x y b hc n
  rcases yi hc with⟨_,c,d,rfl,rfl,_⟩ | ⟨_,i,c,d,rfl,rfl,_⟩ | ⟨_,c,d,rfl,rfl,_⟩
  ·cases n <;> simp[Instr.sameBits]
  ·cases n <;> simp[Instr.sameBits]
  ·cases n <;> (simp only[Instr.sameBits];obtain⟨⟨c⟩⟩:=c;show ((⟨c⟩:Array UInt8)==⟨c⟩)=true;simp)
 unfold Yi at h
 split at h
 ·have h1:=Qo hp hq h
  have e:=Qx h1
  subst e
  exact⟨rfl,fun n=>atom h1 _⟩
 ·cases hp with
  |agg _ vs h1=>
   cases hq with
   |agg _ us h2=>
    have hr:=Qv h1 h2 h
    have e:=gA hr
    subst e
    refine⟨rfl,fun n=> ?_⟩
    simp only[Instr.sameBits,beq_self_eq_true,Bool.true_and]
    clear h1 h2 h
    rw[List.all_eq_true]
    rintro⟨x,y⟩ hm
    rename_i ks _ _
    induction ks generalizing vs with
    |nil=>cases vs with
     |nil=>simp at hm
     |cons=>simp[sf] at hr
    |cons k ks ih=>
     cases vs with
     |nil=>simp at hm
     |cons z zs=>
      simp only[sf,Option.bind_eq_some_iff,Option.map_eq_some_iff] at hr
      obtain⟨b,q1,c,q2,q3⟩:=hr
      simp only[Bool.and_eq_true] at q3
      obtain⟨rfl,rfl⟩:=q3
      simp only[List.zip_cons_cons,List.mem_cons,Prod.mk.injEq] at hm
      rcases hm with⟨rfl,rfl⟩ | hm
      ·exact atom q1 _
      ·exact ih zs q2 hm
 ·cases h
def wL (R:Rd) (kd:Kd) (k:PV) (es:List (PV×PV)) (ents:List MapEntry) (i:Nat):Option (Nat×PV)→Option (Nat×Value)→Prop
 |none,none=>True
 |some (a,p),some (b,u)=>a=b∧∃ j e x,a=i+j∧es[j]? =some e∧ents[j]? =some x∧e.2=p∧x.val=u∧Ea R p u∧Ea R e.1 x.key∧Yi kd k e.1=some true
 |_,_=>False
theorem wL.succ {kd:Kd} {k:PV} {es:List (PV×PV)} {ents:List MapEntry} {i:Nat} {e:PV×PV} {x:MapEntry} {r:Option (Nat×PV)} {r':Option (Nat×Value)} (h:wL R kd k es ents (i+1) r r'):wL R kd k (e::es) (x::ents) i r r':=by
 cases r with
 |none=>cases r' with
  |none=>trivial
  |some=>exact h.elim
 |some r=>cases r' with
  |none=>exact h.elim
  |some r'=>
   obtain⟨h1,j,e',x',h2,h3⟩:=h
   exact⟨h1,j+1,e',x',by omega,h3⟩
theorem nu {t:TypeId} {kd:Kd} (hk:Zv P t kd=true) {k:PV} {v:Value} (hv:Ea R k v):∀ {es:List (PV×PV)} {ents:List MapEntry} {i:Nat} {r:Option (Nat×PV)},Ks R es ents→Dj kd k es i=some r→
 ∃ r',(Instr.findAsking t v ents i).run P w= .ok r' w∧wL R kd k es ents i r r'
 | [],[],i,r,_,h=>by
   simp only[Dj,Option.some.injEq] at h;subst h
   exact⟨none,by simp[Instr.findAsking],trivial⟩
 |e::es,x::ents,i,r,⟨m1,m2,m3⟩,h=>by
  simp only[Dj,Option.bind_eq_some_iff] at h
  obtain⟨b,h1,h2⟩:=h
  have hr:=Oz (w:=w) hk hv m1 h1
  cases b with
  |true=>
   simp only[if_true,Option.some.injEq] at h2;subst h2
   exact⟨some (i,x.val),by simp[Instr.findAsking,hr],rfl,0,e,x,rfl,rfl,rfl,rfl,rfl,m2,m1,h1⟩
  |false=>
   simp only[Bool.false_eq_true,if_false] at h2
   obtain⟨r',h3,h4⟩:=nu hk hv m3 h2
   exact⟨r',by simp[Instr.findAsking,hr,h3],h4.succ⟩
 | [],_::_,_,_,h,_=>h.elim
 |_::_,[],_,_,h,_=>h.elim
theorem vH {d:TypeDesc} {c:Nat} {x y:Value} {b:Bool} (hd:(d= .bool∧c=0)∨((∃ k,d= .int k)∧c=1)∨(d= .string∧c=2)) (h:Ao c x y=some b):Instr.sameNow d x y=some b:=by
 rcases hd with⟨rfl,rfl⟩ | ⟨⟨k,rfl⟩,rfl⟩ | ⟨rfl,rfl⟩
 ·rcases yi h with⟨_,c,d,rfl,rfl,rfl⟩ | ⟨h,_⟩ | ⟨h,_⟩
  ·rfl
  ·cases h
  ·cases h
 ·rcases yi h with⟨h,_⟩ | ⟨_,i,c,d,rfl,rfl,rfl⟩ | ⟨h,_⟩
  ·cases h
  ·simp[Instr.sameNow]
  ·cases h
 ·rcases yi h with⟨h,_⟩ | ⟨h,_⟩ | ⟨_,c,d,rfl,rfl,rfl⟩
  ·cases h
  ·cases h
  ·rfl
theorem dz {d:TypeDesc} {c:Nat} (hd:(d= .bool∧c=0)∨((∃ k,d= .int k)∧c=1)∨(d= .string∧c=2)) {k:PV} {v:Value} (hv:Ea R k v):∀ {es:List (PV×PV)} {ents:List MapEntry} {i:Nat} {r:Option (Nat×PV)},Ks R es ents→Dj (.one c) k es i=some r→
 ∃ r',Instr.findNow d v ents i=some r'∧wL R (.one c) k es ents i r r'
 | [],[],i,r,_,h=>by
   simp only[Dj,Option.some.injEq] at h;subst h
   exact⟨none,rfl,trivial⟩
 |e::es,x::ents,i,r,⟨m1,m2,m3⟩,h=>by
  simp only[Dj,Option.bind_eq_some_iff] at h
  obtain⟨b,h1,h2⟩:=h
  have hr:=vH hd (Qo hv m1 h1)
  cases b with
  |true=>
   simp only[if_true,Option.some.injEq] at h2;subst h2
   exact⟨some (i,x.val),by simp[Instr.findNow,hr],rfl,0,e,x,rfl,rfl,rfl,rfl,rfl,m2,m1,h1⟩
  |false=>
   simp only[Bool.false_eq_true,if_false] at h2
   obtain⟨r',h3,h4⟩:=dz hd hv m3 h2
   exact⟨r',by simp[Instr.findNow,hr,h3],h4.succ⟩
 | [],_::_,_,_,h,_=>h.elim
 |_::_,[],_,_,h,_=>h.elim
theorem Rz {t:TypeId} {kd:Kd} (hk:Zv P t kd=true) {k:PV} {v:Value} (hv:Ea R k v) {es:List (PV×PV)} {ents:List MapEntry} {r:Option (Nat×PV)} (hm:Ks R es ents) (h:Dj kd k es 0=some r):
 ∃ r',(Instr.findKey t v ents).run P w= .ok r' w∧wL R kd k es ents 0 r r':=by
 cases kd with
 |one c=>
  have hk2:=hk
  simp only[Zv,Bool.and_eq_true,beq_iff_eq] at hk2
  have hd:∃ d,P.underlying t=some d∧((d= .bool∧c=0)∨((∃ k,d= .int k)∧c=1)∨(d= .string∧c=2)):=by
   rcases vt hk2.1 with ha | ⟨_,_,hc⟩
   ·rw[hk2.2] at ha;cases ha
   ·rcases hc with⟨hu,e⟩ | ⟨⟨kk,hu⟩,e⟩ | ⟨hu,e⟩
    ·exact⟨_,hu,.inl ⟨rfl,by simpa using e⟩⟩
    ·exact⟨_,hu,.inr (.inl ⟨⟨kk,rfl⟩,by simpa using e⟩)⟩
    ·exact⟨_,hu,.inr (.inr ⟨rfl,by simpa using e⟩)⟩
  obtain⟨d,hu,hd⟩:=hd
  obtain⟨r',h1,h2⟩:=dz hd hv hm h
  exact⟨r',by simp[Instr.findKey,run_underlying hu,h1],h2⟩
 |row ks=>
  have hk2:=hk
  simp only[Zv,Bool.and_eq_true,beq_iff_eq] at hk2
  obtain⟨r',h1,h2⟩:=nu (w:=w) hk hv hm h
  have hu:∃ d,P.underlying t=some d∧∀ x y,Instr.sameNow d x y=none:=by
   have ha:=hk2.2
   unfold Wi at ha
   split at ha
   ·rename_i fs hu;exact⟨_,hu,fun x y=>by cases x <;> rfl⟩
   ·rename_i n e hu;exact⟨_,hu,fun x y=>by cases x <;> rfl⟩
   ·cases ha
   ·cases ha
  obtain⟨d,hu,hs⟩:=hu
  cases ents with
  |nil=>
   refine⟨r',?_,h2⟩
   simp only[Instr.findAsking,Sem.run_pure] at h1
   simp only[Instr.findKey,Sem.run_bind,run_underlying hu,Result.andThen_ok,Instr.findNow,Sem.run_pure]
   exact h1
  |cons x xs=>exact⟨r',by simp[Instr.findKey,run_underlying hu,Instr.findNow,hs,h1],h2⟩
theorem K.map_set {id:Nat} {c c':List (PV×PV)} (hc:H[id]? =some (.map c)) (a:AV) (v:Value) (h:K R φ H a v):K R (wj φ id (φ id)) (H.set id (.map c')) a v:=by
 have hφ:wj φ id (φ id)=φ:=by
  funext i
  unfold wj
  split
  ·rename_i e;rw[e]
  ·rfl
 rw[hφ]
 have hid:=getElem?_lt hc
 have ml:∀ {i:Nat} {x:aa},(H.set id (.map c'))[i]? =some x→(i≠id∧H[i]? =some x)∨(i=id∧x= .map c'):=by
  intro i x hx
  by_cases h:i=id
  ·subst h;rw[List.getElem?_set_self hid] at hx;injection hx with hx;exact .inr ⟨rfl,hx.symm⟩
  ·rw[List.getElem?_set_ne (Ne.symm h)] at hx;exact .inl ⟨h,hx⟩
 cases a with
 |pv p=>exact h
 |ptr i off=>
  refine⟨by simpa using h.1,h.2.1,fun c1 h1=> ?_⟩
  rcases ml h1 with⟨_,h2⟩ | ⟨rfl,h2⟩
  ·exact h.2.2 _ h2
  ·cases h2
 |ic i n off=>
  refine⟨by simpa using h.1,h.2.1,fun sz ag c1 fl nl h1=> ?_⟩
  rcases ml h1 with⟨_,h2⟩ | ⟨rfl,h2⟩
  ·exact h.2.2 _ _ _ _ _ h2
  ·cases h2
 |uq i nl sz es=>
  refine⟨by simpa using h.1,h.2.1,h.2.2.1,fun sz' n nl' h1=> ?_⟩
  rcases ml h1 with⟨_,h2⟩ | ⟨rfl,h2⟩
  ·exact h.2.2.2 _ _ _ h2
  ·cases h2
 |own i len=>
  refine⟨by simpa using h.1,h.2.1,fun sz ag c1 fl nl h1=> ?_⟩
  rcases ml h1 with⟨_,h2⟩ | ⟨rfl,h2⟩
  ·exact h.2.2 _ _ _ _ _ h2
  ·cases h2
 |mp i=>
  refine⟨by simpa using h.1,h.2.1,fun es h1=> ?_⟩
  rcases ml h1 with⟨_,h2⟩ | ⟨rfl,_⟩
  ·exact h.2.2 _ h2
  ·exact h.2.2 _ hc
 |mi ix cs=>exact h.elim
 |agg cs=>exact h.elim
 |bc cs=>exact h.elim
 |undef=>exact h.elim
theorem MC {t:TypeId} {kd:Kd} (h:XI P t kd=true):∃ k e,P.underlying t=some (.map k e)∧Zv P k kd=true:=by
 unfold XI at h
 split at h
 ·rename_i k e hu;exact⟨k,e,hu,h⟩
 ·cases h
theorem zM {t k e:TypeId} {zero:PV} (hu:P.underlying t=some (.map k e)) (h:sP P t zero=true):∃ z,(∀ w,(zeroValue e).run P w= .ok z w)∧∀ R,Ea R zero z:=by
 unfold sP at h
 simp only[hu] at h
 cases hi:P.info? e with
 |none=>simp[hi] at h
 |some i=>
  simp only[hi] at h
  cases hz:i.zero with
  |none=>simp[hz] at h
  |some z=>
   simp only[hz] at h
   refine⟨z,fun w=>by simp[zeroValue,run_typeInfo w hi,hz],fun R=> ?_⟩
   split at h
   ·rename_i cs ps e1
    injection e1 with e1
    subst e1
    exact .agg _ _ (Ii (R:=R) h).1
   ·rename_i z' p e1 e2
    injection e1 with e1
    subst e1
    exact Cs h
   ·cases h
theorem zK (hS:Kb fo B0 w R φ H) (t:TypeId):jj fo B0 w R φ H P (Instr.makeMap t none) (.mp H.length) (H++[.map []]):=by
 have hk:=fun a v=>K.push (R:=R) (φ:=φ) (H:=H) (.map []) (w.heap.size,0) a v
 refine⟨.map (some w.heap.size),{w with heap:=w.heap.push (.map #[] 0)},R,AM.wj φ H.length (w.heap.size,0),?_,?_,?_,hk,Cu hS.low hS.slt _⟩
 ·simp[Instr.makeMap,run_newObj]
 ·refine hS.push (by simp) (fun b hb=>Of hb) (fun _ _ _=>rfl) (fun b o v h=> ?_) hk (fun _=>Nat.le_refl _) ?_
  ·have:=hS.sub b o v h
   rw[zC (Ri this)];exact this
  ·refine⟨by rw[Xa];exact hS.low,by rw[Xa];exact hS.Tv (Nat.le_refl _),#[],0,?_,trivial⟩
   rw[Xa];simp
 ·exact .atom _ _ ⟨by simp,rfl,fun c _=>by rw[Xa]⟩
theorem Yb.qN {K:AV→Value→Prop} {id:Nat} {v:Value} (h:Yb fo K (.mp id) v):K (.mp id) v:=by cases h with | atom _ _ h=>exact h
def FR (zero:PV) (ok:Bool):Option (Nat×PV)→AV
 |some (_,x)=>(if ok then .pv (.bc [x,.bool true]) else .pv x)
 |none=>(if ok then .pv (.bc [zero,.bool false]) else .pv zero)
theorem XA (hS:Kb fo B0 w R φ H) {t:TypeId} {kd:Kd} {zero:PV} (h1:XI P t kd=true) (h2:sP P t zero=true) {m:AV} {k:PV} {vm vk:Value} (hm:Yb fo (K R φ H) m vm) (hk:Ea R k vk) (ok:Bool) {es:List (PV×PV)}
 (hes:m= .pv .pq∧es=[]∨∃ id,m= .mp id∧H[id]? =some (.map es)) (hkk:(Yi kd k k).isSome=true) {r:Option (Nat×PV)} (hf:Dj kd k es 0=some r):
 ∃ u,(Instr.lookup t vm vk ok).run P w= .ok u w∧Yb fo (K R φ H) (FR zero ok r) u:=by
 obtain⟨kt,e,hu,hkd⟩:=MC h1
 obtain⟨z,hz,hzr⟩:=zM hu h2
 obtain⟨b,hb⟩:=Option.isSome_iff_exists.1 hkk
 have go:∀ (ents:Array MapEntry),Ks R es ents.toList→∃ u,(do
  Instr.checkKey ents.isEmpty 10000 kt vk
  let (v,okk) ←match ←Instr.findKey kt vk ents.toList with
   |some (_,v)=>pure (v,true)
   |none=>pure (← zeroValue e,false)
  pure (if ok then .tuple #[v,.bool okk] else v):Sem Value).run P w= .ok u w∧Yb fo (K R φ H) (FR zero ok r) u:=by
  intro ents hE
  have hc:=Fv (w:=w) hkd hk hb ents.isEmpty
  obtain⟨r',h3,h4⟩:=Rz (w:=w) hkd hk hE hf
  cases r with
  |none=>
   cases r' with
   |some=>exact h4.elim
   |none=>
    cases ok with
    |true=>exact⟨.tuple #[z,.bool false],by simp[hc,h3,hz w],.atom _ _ (show Ea R _ _ from .bc _ _ (.cons _ _ _ _ (hzr R) (.cons _ _ _ _ (.bool _) .nil)))⟩
    |false=>exact⟨z,by simp[hc,h3,hz w],.atom _ _ (show Ea R _ _ from hzr R)⟩
  |some r=>
   cases r' with
   |none=>exact h4.elim
   |some r'=>
    obtain⟨a,p⟩:=r;obtain⟨b,u⟩:=r'
    obtain⟨_,j,e',x',_,_,_,_,_,hpu,_⟩:=h4
    cases ok with
    |true=>exact⟨.tuple #[u,.bool true],by simp[hc,h3],.atom _ _ (show Ea R _ _ from .bc _ _ (.cons _ _ _ _ hpu (.cons _ _ _ _ (.bool _) .nil)))⟩
    |false=>exact⟨u,by simp[hc,h3],.atom _ _ (show Ea R _ _ from hpu)⟩
 rcases hes with⟨rfl,rfl⟩ | ⟨id,rfl,hid⟩
 ·have:=hm.qb
  cases this
  obtain⟨u,h5,h6⟩:=go #[] trivial
  refine⟨u,?_,h6⟩
  rw[← h5]
  simp only[Instr.lookup,Sem.run_bind,run_underlying hu,Result.andThen_ok,Sem.run_pure]
  rfl
 ·have hk2:=hm.qN
  rw[hk2.2.2 _ hid]
  obtain⟨_,_,ents,clk,h7,h8⟩:=hS.obj _ _ hid
  obtain⟨u,h5,h6⟩:=go ents h8
  refine⟨u,?_,h6⟩
  rw[← h5]
  have hg:(getObj (φ id).1).run P w= .ok (.map ents clk) w:=by simp[getObj,Sem.run,h7]
  simp only[Instr.lookup,Sem.run_bind,run_underlying hu,Result.andThen_ok,hg,Sem.run_pure]
  rfl
theorem Ks.push {es:List (PV×PV)} {xs:List MapEntry} {e:PV×PV} {x:MapEntry} (h:Ks R es xs) (h1:Ea R e.1 x.key) (h2:Ea R e.2 x.val):Ks R (es++[e]) (xs++[x]):=by
 induction es generalizing xs with
 |nil=>cases xs with
  |nil=>exact⟨h1,h2,trivial⟩
  |cons=>exact h.elim
 |cons a as ih=>cases xs with
  |nil=>exact h.elim
  |cons y ys=>exact⟨h.1,h.2.1,ih h.2.2⟩
theorem Ks.set {es:List (PV×PV)} {xs:List MapEntry} {e:PV×PV} {x:MapEntry} (h:Ks R es xs) (h1:Ea R e.1 x.key) (h2:Ea R e.2 x.val):∀ i,Ks R (es.set i e) (xs.set i x):=by
 induction es generalizing xs with
 |nil=>intro i;cases xs with
  |nil=>trivial
  |cons=>exact h.elim
 |cons a as ih=>intro i;cases xs with
  |nil=>exact h.elim
  |cons y ys=>cases i with
   |zero=>exact⟨h1,h2,h.2.2⟩
   |succ i=>exact⟨h.1,h.2.1,ih h.2.2 i⟩
def jI (w:World) (b:Nat) (ents:Array MapEntry) (clk:Nat):World:={w with heap:=w.heap.setIfInBounds b (.map ents clk)}
theorem pA (hS:Kb fo B0 w R φ H) {t:TypeId} {kd:Kd} (h1:XI P t kd=true) {id:Nat} {k x:PV} {vm vk vx:Value} (hm:Yb fo (K R φ H) (.mp id) vm) (hk:Ea R k vk) (hx:Ea R x vx) {es:List (PV×PV)}
 (hid:H[id]? =some (.map es)) (hkk:(Yi kd k k).isSome=true) {r:Option (Nat×PV)} (hf:Dj kd k es 0=some r):
 ∃ w' φ',(Instr.mapUpdate t vm vk vx).run P w= .ok () w'∧Kb fo B0 w' R φ' (H.set id (.map (match r with | some (i,_)=>es.set i (k,x) | none=>es++[(k,x)])))∧
  (∀ a u,K R φ H a u→K R φ' (H.set id (.map (match r with | some (i,_)=>es.set i (k,x) | none=>es++[(k,x)]))) a u)∧Ve B0 w w':=by
 obtain⟨kt,e,hu,hkd⟩:=MC h1
 obtain⟨b,hb⟩:=Option.isSome_iff_exists.1 hkk
 have hk2:=hm.qN
 rw[hk2.2.2 _ hid]
 obtain⟨o1,o2,ents,clk,h7,h8⟩:=hS.obj _ _ hid
 have hc:=Fv (w:=w) hkd hk hb false
 obtain⟨r',h3,h4⟩:=Rz (w:=w) hkd hk h8 hf
 have hlt:(φ id).1 < w.heap.size:=by
  rcases Nat.lt_or_ge (φ id).1 w.heap.size with hlt | hge
  ·exact hlt
  ·rw[Array.getElem?_eq_none hge] at h7;cases h7
 have hg:(getObj (φ id).1).run P w= .ok (.map ents clk) w:=by simp[getObj,Sem.run,h7]
 have hset:∀ o,(setObj (φ id).1 o).run P w= .ok () {w with heap:=w.heap.setIfInBounds (φ id).1 o}:=fun o=>by simp[setObj,Sem.run,h7]
 have heap:∀ {ents':Array MapEntry} {clk' j:Nat},j≠(φ id).1→(jI w (φ id).1 ents' clk').heap[j]? =w.heap[j]? :=by
  intro ents' clk' j hj
  simp only[jI]
  rw[Array.getElem?_setIfInBounds_ne (Ne.symm hj)]
 have fin:∀ (ents':Array MapEntry) (clk':Nat) (es':List (PV×PV)),Ks R es' ents'.toList→(Instr.mapUpdate t (.map (some (φ id).1)) vk vx).run P w= .ok () (jI w (φ id).1 ents' clk')→
  ∃ w' φ',(Instr.mapUpdate t (.map (some (φ id).1)) vk vx).run P w= .ok () w'∧Kb fo B0 w' R φ' (H.set id (.map es'))∧(∀ a u,K R φ H a u→K R φ' (H.set id (.map es')) a u)∧Ve B0 w w':=by
  intro ents' clk' es' hM hrun
  have hkk:=fun a v=>K.map_set (R:=R) (φ:=φ) (c':=es') hid a v
  refine⟨_,wj φ id (φ id),hrun,?_,hkk,.bD h7 rfl rfl rfl rfl (by simp[jI]) o1 hS.slt (hS.free id ⟨_,hid,trivial⟩) fun k _ hne=>heap hne⟩
  refine hS.wj (w':=jI w (φ id).1 ents' clk') hid (by simp[jI]) (fun b hb hne=>heap (hne trivial)) (fun _ _ _ _=>rfl) (fun b o v hv=> ?_) hkk (fun _=> .inl ⟨trivial,rfl⟩) ?_
  ·rw[Ud (heap (fun e=>by subst e;rw[o2] at hv;cases hv))];exact hS.sub b o v hv
  ·refine⟨by rw[Xa];exact o1,by rw[Xa];exact o2,ents',clk',?_,hM⟩
   rw[Xa]
   simp[jI,hlt]
 cases r with
 |none=>
  cases r' with
  |some=>exact h4.elim
  |none=>
   refine fin (ents.push {key:=vk,val:=vx,born:=clk}) (clk+1) (es++[(k,x)]) ?_ ?_
   ·simpa using h8.push (e:=(k,x)) (x:={key:=vk,val:=vx,born:=clk}) hk hx
   ·simp only[Instr.mapUpdate,Sem.run_bind,run_underlying hu,Result.andThen_ok,hg,hc,h3]
    rw[hset]
    rfl
 |some r=>
  cases r' with
  |none=>exact h4.elim
  |some r'=>
   obtain⟨a,p⟩:=r;obtain⟨i,u⟩:=r'
   obtain⟨rfl,j,e',x',hj,he',hx',_,_,_,hke,heq⟩:=h4
   have hj':a=j:=by omega
   subst hj'
   obtain⟨hveq,hsb⟩:=MM hk hke heq
   have hge:ents[a]? =some x':=by simpa using hx'
   refine fin (ents.modify a fun e=>{e with key:=vk,val:=vx}) clk (es.set a (k,x)) ?_ ?_
   ·have hmod:(ents.modify a fun e=>{e with key:=vk,val:=vx}).toList=ents.toList.set a {x' with key:=vk,val:=vx}:=by
     apply List.ext_getElem?
     intro q
     rw[Array.getElem?_toList,Array.getElem?_modify,List.getElem?_set]
     by_cases hq:a=q
     ·subst hq
      have hlt2:a < ents.size:=by simpa using getElem?_lt hx'
      have hga:ents[a]=x':=by rw[Array.getElem?_eq_getElem hlt2] at hge;injection hge
      simp[hge,hlt2,hga]
     ·simp[hq]
    rw[hmod]
    exact h8.set (e:=(k,x)) (x:={x' with key:=vk,val:=vx}) hk hx a
   ·have hks:(Instr.keyThatStays x'.key vk).run P w= .ok vk w:=by
     have:=hsb 9998
     rw[← hveq] at this ⊢
     simp only[Instr.keyThatStays]
     rw[if_pos this]
     simp
    simp only[Instr.mapUpdate,Sem.run_bind,run_underlying hu,Result.andThen_ok,hg,hc,h3,hge,Option.map_some,Option.getD_some,hks]
    rw[hset]
    rfl
theorem Lv {t:TypeId} (hg:P.eqGuardType P.depth t=false) (op:BinOp) (ox oy:Operand) {p q:PV} {v u:Value} {kd:Kd} (hp:Ea R p v) (hq:Ea R q u) {b:Bool} (h:Yi kd p q=some b):(eqGuard op t ox oy v u).run P w= .ok () w:=by
 have OO:∀ xs ys,(eqGuard op t ox oy (.agg xs) (.agg ys)).run P w= .ok () w:=by
  intro xs ys
  cases op <;> simp[eqGuard,hg,Go.program,Sem.run]
 unfold Yi at h
 split at h
 ·rcases ez h with⟨_,c,d,rfl,rfl,_⟩ | ⟨_,i,c,d,rfl,rfl,_⟩ | ⟨_,c,d,rfl,rfl,_⟩ <;> cases hp <;> cases hq <;> cases op <;> rfl
 ·cases hp;cases hq;exact OO _ _
 ·cases h
theorem K.kill {id:Nat} {o:aa} (hid:H[id]? =some o) (a:AV) (v:Value) (hk:K R φ H a v):K R (wj φ id (φ id)) (H.set id .dead) a v:=by
 have hl:(H.set id .dead).length=H.length:=by simp
 have inv:∀ {i:Nat} {x:aa},(H.set id .dead)[i]? =some x→x≠ .dead→i≠id∧H[i]? =some x:=by
  intro i x hx hd
  by_cases e:i=id
  ·subst e;rw[List.getElem?_set_self (getElem?_lt hid)] at hx;injection hx with hx;exact absurd hx.symm hd
  ·rw[List.getElem?_set_ne (Ne.symm e)] at hx;exact⟨e,hx⟩
 cases a with
 |pv p=>exact hk
 |ptr i off=>exact⟨by rw[hl];exact hk.1,hk.2.1,fun c hc=>by obtain⟨q1,q2⟩:=inv hc (by simp);rw[Uc _ _ q1];exact hk.2.2 c q2⟩
 |ic i n off=>exact⟨by rw[hl];exact hk.1,hk.2.1,fun sz ag c fl nl hc=>by obtain⟨q1,q2⟩:=inv hc (by simp);rw[Uc _ _ q1];exact hk.2.2 _ _ _ _ _ q2⟩
 |uq i nl sz es=>exact⟨by rw[hl];exact hk.1,hk.2.1,hk.2.2.1,fun sz n nl hc=>by obtain⟨q1,q2⟩:=inv hc (by simp);rw[Uc _ _ q1];exact hk.2.2.2 _ _ _ q2⟩
 |own i n=>exact⟨by rw[hl];exact hk.1,hk.2.1,fun sz ag c fl nl hc=>by obtain⟨q1,q2⟩:=inv hc (by simp);rw[Uc _ _ q1];exact hk.2.2 _ _ _ _ _ q2⟩
 |mp i=>exact⟨by rw[hl];exact hk.1,hk.2.1,fun es hc=>by obtain⟨q1,q2⟩:=inv hc (by simp);rw[Uc _ _ q1];exact hk.2.2 _ q2⟩
 |mi=>exact hk.elim
 |agg=>exact hk.elim
 |bc=>exact hk.elim
 |undef=>exact hk.elim
theorem kM {o:Oper} {a:Act} {s:TypeId} {x:Operand} (ho:o.op= .convert s s x) (hS:Kb fo B0 w R φ H) {id n:Nat} {es:List PV} (hr:Yb fo (K R φ H) (.uq id false 1 es) (a.eval x)) (hid:H[id]? =some (.tok 1 n false)) (hn:n=es.length)
 (hsl:(match vr P s with | some el=>sS P el | none=>false)=true):zv P fo B0 o a w R φ H (.pv (.lit 1 es)) (H.set id .dead):=by
 cases hel:vr P s with
 |none=>simp[hel] at hsl
 |some el=>
  simp only[hel] at hsl
  have hu:=Tk hel
  have he:P.underlying el=some (.int .u8):=by
   unfold sS at hsl
   split at hsl
   ·assumption
   ·cases hsl
  have hk:=hr.Dq
  obtain⟨_,hk4⟩:=hk.2.2.2 _ _ _ hid
  obtain⟨_,_,hv⟩:=hk4 hn
  have hv:=hv rfl
  have hp:=hk.2.2.1 rfl
  obtain⟨h0,_,h3⟩:=hS.obj _ _ hid
  obtain⟨o1,o2,arr,⟨ty,fz,hb,hf⟩,o4,o5⟩:=h3 rfl
  have hlt:(φ id).1 < w.heap.size:=Xt.lt ⟨ty,fz,hb,hf⟩
  have hmark:(convert s s (a.eval x)).run P w= .ok (a.eval x) (w.freeze ⟨(φ id).1,arr.size,none⟩ 1):=by
   rw[hv]
   simp[convert,run_underlying hu,run_underlying he,markStringish,World.shape?,hb]
  intro next Q hn'
  unfold Oper.wp
  have:(execOp a.eval o).run P w= .ok (.value (a.eval x)) (w.freeze ⟨(φ id).1,arr.size,none⟩ 1):=by simp[execOp,ho,hmark]
  rw[this]
  have heap:∀ {j:Nat},j≠(φ id).1→(w.freeze ⟨(φ id).1,arr.size,none⟩ 1).heap[j]? =w.heap[j]? :=by
   intro j hj
   simp only[World.freeze]
   rw[if_neg (by omega)]
   simp[Array.getElem?_modify,Ne.symm hj]
  have self:∃ fz',(w.freeze ⟨(φ id).1,arr.size,none⟩ 1).heap[(φ id).1]? =some (.cells arr ty fz'):=by
   simp only[World.freeze]
   rw[if_neg (by omega)]
   rw[Array.getElem?_modify,if_pos rfl,hb]
   exact⟨_,rfl⟩
  obtain⟨fz',self⟩:=self
  have cell:∀ b o,(w.freeze ⟨(φ id).1,arr.size,none⟩ 1).cell? ⟨b,o,none⟩=w.cell? ⟨b,o,none⟩:=by
   intro b o
   by_cases e:b=(φ id).1
   ·subst e;simp[World.cell?,self,hb]
   ·exact Ud (heap e)
  have hsz:(w.freeze ⟨(φ id).1,arr.size,none⟩ 1).heap.size=w.heap.size:=by
   simp only[World.freeze];rw[if_neg (by omega)];simp
  have hkk:=fun a v=>K.kill (R:=R) (φ:=φ) hid a v
  refine hn' _ _ R (wj φ id (φ id)) ?_ (.atom _ _ (show Ea R _ _ from hp)) hkk ?_
  ·exact hS.wj (w':=w.freeze ⟨(φ id).1,arr.size,none⟩ 1) hid (by rw[hsz];exact Nat.le_refl _) (fun b hb hne=>heap (hne rfl)) (fun _ _ _ _=>rfl) (fun b o v h=>by rw[cell];exact hS.sub b o v h) hkk (fun h=>h.elim) trivial
  ·refine .bD hb rfl ?_ ?_ ?_ (by rw[hsz];exact Nat.le_refl _) o1 hS.slt (hS.free id ⟨_,hid,rfl⟩) (fun k _ hne=>heap hne) <;> (simp only[World.freeze];rw[if_neg (by omega)])
end
end Go.AM
namespace Go.AM
open Go.RowKit
section ops
variable {P:Program} {fo:Nat→FuncId} {B0:se} {w:World} {R:Rd} {φ:Pl} {H H':List aa} {e:Tr} {a:Act} {call:Fa}
theorem wF {v:AV} {u:Value} (h:Yb fo (K R φ H) v u):Yb fo (K R φ H) v.Hs u:=by
 cases v with
 |uq id nl sz es=>
  have hk:=h.Dq
  cases nl with
  |true=>rw[(hk.2.1 rfl).1];exact .atom _ _ (show Ea R _ _ from .qa)
  |false=>exact .atom _ _ (show Ea R _ _ from hk.2.2.1 rfl)
 |_=>exact h
theorem zG:∀ {cs:List AV} {vs:List Value},La fo (K R φ H) cs vs→La fo (K R φ H) (cs.map AV.Hs) vs
 | [],_,.nil=> .nil
 |_::_,_,.cons _ _ _ _ h1 h2=> .cons _ _ _ _ (wF h1) (zG h2)
theorem cR {v:AV} {u:Value} (h:Yb fo (K R φ H) v u):Yb fo (K R φ H) v.cI u:=by
 cases v with
 |agg cs=>
  cases h with
  |atom _ _ h=>exact h.elim
  |agg _ vs h=>exact Ro (zG h)
 |uq id nl sz es=>exact wF h
 |_=>exact h
theorem Ov (hE:og fo (K R φ H) e a) {sz:Nat}:∀ {parts:List (Nat×Operand)} {aparts:List (Nat×AO)},It fo parts aparts=true→
 (parts.map fun p=>(p.1,a.eval p.2)).length=(aparts.map fun p=>(p.1 * sz,sz,fj e p.2)).length∧
 ∀ (j:Nat) (i:Nat) (v:Value) (off s:Nat) (x:AV),(parts.map fun p=>(p.1,a.eval p.2))[j]? =some (i,v)→(aparts.map fun p=>(p.1 * sz,sz,fj e p.2))[j]? =some (off,s,x)→off=i * sz∧s=sz∧Yb fo (K R φ H) x v
 | [],[],_=>⟨rfl,fun j i v off s x h=>by simp at h⟩
 | (i,x)::xs,(j,y)::ys,h=>by
   simp only[It,Bool.and_eq_true,beq_iff_eq] at h
   obtain⟨⟨rfl,h1⟩,h2⟩:=h
   obtain⟨q1,q2⟩:=Ov hE (sz:=sz) h2
   refine⟨by simpa using q1,fun k i' v off s z e1 e2=> ?_⟩
   cases k with
   |zero=>
    simp at e1 e2
    obtain⟨rfl,rfl⟩:=e1
    obtain⟨rfl,rfl,rfl⟩:=e2
    exact⟨rfl,rfl,cR (pb hE h1)⟩
   |succ k=>exact q2 k i' v off s z (by simpa using e1) (by simpa using e2)
 | [],_::_,h=>by simp[It] at h
 |_::_,[],h=>by simp[It] at h
theorem CJ (hE:og fo (K R φ H) e a) {x:Option Operand} {y:Option AO} (h:AJ fo x y=true):(x=none∧y=none)∨∃ x' y',x=some x'∧y=some y'∧uj fo x' y'=true:=by
 cases x <;> cases y <;> simp[AJ] at h
 ·exact .inl ⟨rfl,rfl⟩
 ·exact .inr ⟨_,_,rfl,rfl,h⟩
theorem US {ag:Bool} {x:Bool} (h:(!ag||x)=true):ag=true→x=true:=by
 intro e;subst e;simpa using h
theorem vG (hS:Kb fo B0 w R φ H) {x:AV} {vx:Value} (hx:Yb fo (K R φ H) x vx) {s:ByteArray} (h:iB H x=some s):(∃ sa sl sc,vx= .slice sa sl sc)∧(Conv.bytesToString vx).run P w= .ok (.string s) w:=by
 have lits:∀ {es:List PV} {l:List UInt8},Ea R (.lit 1 es) vx→bytesOf es=some l→s=⟨l.toArray⟩→(∃ sa sl sc,vx= .slice sa sl sc)∧(Conv.bytesToString vx).run P w= .ok (.string s) w:=by
  intro es l hp hb hs
  subst hs
  refine⟨?_,OJ hS hp hb⟩
  cases hp <;> exact⟨_,_,_,rfl⟩
 have qa:vx= .slice none 0 0→s=ByteArray.empty→(∃ sa sl sc,vx= .slice sa sl sc)∧(Conv.bytesToString vx).run P w= .ok (.string s) w:=by
  rintro rfl rfl
  exact⟨⟨_,_,_,rfl⟩,by simp[Conv.bytesToString]⟩
 unfold iB at h
 split at h
 ·injection h with h
  have:=hx.qb
  cases this
  exact qa rfl h.symm
 ·simp only[Option.map_eq_some_iff] at h
  obtain⟨l,h1,h2⟩:=h
  exact lits hx.qb h1 h2.symm
 ·rename_i id nl es
  simp only[Option.map_eq_some_iff] at h
  obtain⟨l,h1,h2⟩:=h
  have hk:=hx.Dq
  cases nl with
  |true=>
   obtain⟨rfl,rfl⟩:=hk.2.1 rfl
   simp[bytesOf] at h1
   subst h1
   exact qa rfl h2.symm
  |false=>exact lits (hk.2.2.1 rfl) h1 h2.symm
 ·rename_i id len
  have hk:=hx.Rv
  split at h
  ·rename_i sz ag c fl nl hc
   split at h
   ·rename_i hcond
    obtain⟨rfl,hcur⟩:=hcond
    obtain⟨k0,k⟩:=hk.2.2 _ _ _ _ _ hc
    obtain⟨o0,o1,o2,o3,o4⟩:=hS.obj _ _ hc
    obtain⟨k1,k2⟩:=k (by omega)
    cases nl with
    |true=>
     simp only[if_true,Option.some.injEq] at h
     exact qa (k1 rfl) h.symm
    |false=>
     simp only[Bool.false_eq_true,if_false,Option.map_eq_some_iff,Option.bind_eq_some_iff] at h
     obtain⟨l,⟨ps,hps,hl⟩,rfl⟩:=h
     rcases k2 rfl with⟨q1,q2,_⟩ | ⟨b,o,cap,q1,q2,_⟩
     ·subst q1;exact absurd (List.eq_nil_of_length_eq_zero (by omega)) q2
     ·obtain⟨rfl,rfl,rfl⟩:=q2 hcur
      subst q1
      obtain⟨_,_,arr,p3,p4,p5,p6⟩:=o4 rfl
      have h7:=Kh hps p6
      obtain⟨ns,e1,rfl⟩:=VC hl h7
      refine⟨⟨_,_,_,rfl⟩,?_⟩
      have hlen:(ns.map (Value.int .u8)).length=len:=by rw[← e1,List.length_take];simp;omega
      have:=run_bytesToString (P:=P) w ⟨(φ id).1,0,none⟩ len (φ id).2 ns (by
       have:=oi (P:=P) (w:=w) (b:=(φ id).1) (o:=0) (vs:=ns.map (Value.int .u8)) (fun j v hj=>by
        rw[Nat.zero_add,p3.cell]
        rw[← e1,List.getElem?_take] at hj
        split at hj
        ·simpa using hj
        ·cases hj) hlen
       simpa using this)
      rw[this]
      congr 2
      have h4:=foldl_push ns ByteArray.empty
      generalize ns.foldl (fun r n=>r.push (UInt8.ofNat n.toNat)) ByteArray.empty=z at h4
      obtain⟨⟨z⟩⟩:=z
      simp at h4
      subst h4
      rfl
   ·cases h
  ·cases h
 ·cases h
theorem XL (hS:Kb fo B0 w R φ H) {x:AV} {vx:Value} (hx:Yb fo (K R φ H) x vx) {s:ByteArray} (h:iB H x=some s):∃ sa sl sc,vx= .slice sa sl sc:=(vG (P:=default) hS hx h).1
theorem EP (hS:Kb fo B0 w R φ H) {x:AV} {vx:Value} (hx:Yb fo (K R φ H) x vx) {s:ByteArray} (h:iB H x=some s):(Conv.bytesToString vx).run P w= .ok (.string s) w:=(vG hS hx h).2
theorem iL (hS:Kb fo B0 w R φ H) (hE:og fo (K R φ H) e a) {t:TypeId} {fs:Array Field} {parts:Array (Nat×Operand)} {aparts:List (Nat×Nat×AO)} {zero:List PV} (hu:P.underlying t=some (.struct fs))
 (hb:Em P fo fs parts.toList aparts=true) (hall:(fs.all fun f=>(Oc P f.type).isSome)=true) (hz:Jm P t zero=true) {cs:List AV} (hf:nm (zero.map .pv) (aparts.map fun p=>(p.1,p.2.1,p.2.2.ev e))=some cs):
 jj fo B0 w R φ H P (Instr.build t (parts.map fun (i,x)=>(i,a.eval x))) (Wo cs) H:=by
 unfold Jm at hz
 cases hi:P.info? t with
 |none=>simp[hi] at hz
 |some i=>
  simp only[hi] at hz
  cases hzz:i.zero with
  |none=>simp[hzz] at hz
  |some z=>
   simp only[hzz] at hz
   obtain⟨h1,h2⟩:=Ii (R:=R) hz
   have hpl:∀ (l:List Field),(∀ f∈l,(Oc P f.type).isSome=true)→(l.mapM fun f=>(do pure (f.offset,←sizeOf f.type):Sem (Nat×Nat))).run P w= .ok (l.map fun f=>(f.offset,(Oc P f.type).getD 0)) w:=by
    intro l
    induction l with
    |nil=>intro _;simp
    |cons f l ih=>
     intro hl
     obtain⟨n,hn⟩:=Option.isSome_iff_exists.1 (hl f (by simp))
     rw[List.mapM_cons]
     simp only[Sem.run_bind,Ob hn,Result.andThen_ok,Sem.run_pure,ih (fun g hg=>hl g (by simp[hg]))]
     simp[hn]
   have hplaces:(fs.mapM fun f=>(do pure (f.offset,←sizeOf f.type):Sem (Nat×Nat))).run P w= .ok (fs.map fun f=>(f.offset,(Oc P f.type).getD 0)) w:=by
    have:=hpl fs.toList (fun f hf=>by
     rw[Array.all_eq_true] at hall
     obtain⟨i,hi,rfl⟩:=List.mem_iff_getElem.1 hf
     simpa using hall i (by simpa using hi))
    rw[Array.mapM_eq_mapM_toList]
    simp only[Sem.run_map,this,Result.andThen_ok]
    exact congrArg (fun x=>Result.ok x w) (by apply Array.ext';simp)
   have spec:∀ {xs:List (Nat×Operand)} {ys:List (Nat×Nat×AO)},Em P fo fs xs ys=true→(xs.map fun p=>(p.1,a.eval p.2)).length=(ys.map fun p=>(p.1,p.2.1,p.2.2.ev e)).length∧
    ∀ (j:Nat) (i:Nat) (v:Value) (off s:Nat) (x:AV),(xs.map fun p=>(p.1,a.eval p.2))[j]? =some (i,v)→(ys.map fun p=>(p.1,p.2.1,p.2.2.ev e))[j]? =some (off,s,x)→
     (fs.map fun f=>(f.offset,(Oc P f.type).getD 0))[i]? =some (off,s)∧Yb fo (K R φ H) x v:=by
    intro xs
    induction xs with
    |nil=>
     intro ys h
     cases ys with
     |nil=>exact⟨rfl,fun j i v off s x h=>by simp at h⟩
     |cons y ys=>simp[Em] at h
    |cons x xs ih=>
     intro ys h
     cases ys with
     |nil=>simp[Em] at h
     |cons y ys=>
      obtain⟨i,x⟩:=x
      obtain⟨off,sz,y⟩:=y
      simp only[Em,Bool.and_eq_true] at h
      obtain⟨⟨g1,g2⟩,g3⟩:=h
      obtain⟨q1,q2⟩:=ih g3
      refine⟨by simpa using q1,fun k i' v off' s z e1 e2=> ?_⟩
      cases k with
      |zero=>
       simp at e1 e2
       obtain⟨rfl,rfl⟩:=e1
       obtain⟨rfl,rfl,rfl⟩:=e2
       refine⟨?_,pb hE g2⟩
       cases hfi:fs[i]? with
       |none=>simp[hfi] at g1
       |some f=>
        simp only[hfi,Bool.and_eq_true,beq_iff_eq] at g1
        simp[hfi,g1.1,g1.2]
      |succ k=>exact q2 k i' v off' s z (by simpa using e1) (by simpa using e2)
   obtain⟨s1,s2⟩:=spec hb
   obtain⟨cs',r1,r2⟩:=sA (fo:=fo) (R:=R) (φ:=φ) (H:=H) (fun i=>(fs.map fun f=>(f.offset,(Oc P f.type).getD 0))[i]?) (cs:=z.cells) s1 s2 (La.ey h1) hf
   have hparts:(parts.map fun (i,x)=>(i,a.eval x)).toList=parts.toList.map fun p=>(p.1,a.eval p.2):=by simp
   refine vn.same (.agg cs') hS ?_ ?_
   ·simp only[Instr.build,Sem.run_bind,zeroValue,run_typeInfo w hi,Result.andThen_ok,hzz,Sem.run_pure,run_underlying hu,hplaces,hparts,r1]
   ·have:=Ro r2
    simpa using this
theorem PK (hS:Kb fo B0 w R φ H) {t el:TypeId} {n:Nat} {parts:Array (Nat×Operand)} {zero:List PV} (hu:P.underlying t=some (.array n el)) (hp:parts.toList=[]) (hs:(Oc P el).isSome=true) (hz:Jm P t zero=true):
 jj fo B0 w R φ H P (Instr.build t (parts.map fun (i,x)=>(i,a.eval x))) (Wo (zero.map .pv)) H:=by
 obtain⟨k,hk⟩:=Option.isSome_iff_exists.1 hs
 obtain rfl:parts= #[]:=by apply Array.ext';simpa using hp
 unfold Jm at hz
 cases hi:P.info? t with
 |none=>simp[hi] at hz
 |some i=>
  simp only[hi] at hz
  cases hzz:i.zero with
  |none=>simp[hzz] at hz
  |some z=>
   simp only[hzz] at hz
   obtain⟨h1,h2⟩:=Ii (R:=R) hz
   refine vn.same (.agg z.cells) hS ?_ ?_
   ·simp only[Instr.build,Sem.run_bind,zeroValue,run_typeInfo w hi,Result.andThen_ok,hzz,Sem.run_pure,run_underlying hu,Ob hk]
    simp[Instr.fill]
   ·have:=Ro (La.ey (fo:=fo) (φ:=φ) (H:=H) h1)
    simpa using this
theorem JN {t:TypeId} {f off:Nat} (h:(match BR P t f with | some fd=>fd.offset==off&&(match Oc P fd.type with | some n=>n != 0 | none=>false) | none=>false)=true):
 ∃ fs fd n,P.underlying t=some (.struct fs)∧fs[f]? =some fd∧fd.offset=off∧Oc P fd.type=some n∧n≠0:=by
 cases hs:BR P t f with
 |none=>simp[hs] at h
 |some fd=>
  simp only[hs,Bool.and_eq_true,beq_iff_eq] at h
  obtain⟨h1,h2⟩:=h
  unfold BR at hs
  split at hs
  ·rename_i fs hu
   cases hn:Oc P fd.type with
   |none=>simp[hn] at h2
   |some n=>simp[hn] at h2;exact⟨fs,fd,n,hu,hs,h1,hn,h2⟩
  ·cases hs
theorem DO {t:TypeId} {f off n:Nat} {ag:Bool} (h:(match BR P t f with | some fd=>fd.offset==off&&Wi P fd.type==some ag&&(!ag||Oc P fd.type==some n) | none=>false)=true):
 ∃ fs fd,P.underlying t=some (.struct fs)∧fs[f]? =some fd∧fd.offset=off∧Wi P fd.type=some ag∧(ag=true→Oc P fd.type=some n):=by
 cases hs:BR P t f with
 |none=>simp[hs] at h
 |some fd=>
  simp only[hs,Bool.and_eq_true,beq_iff_eq] at h
  obtain⟨⟨h1,h2⟩,h3⟩:=h
  unfold BR at hs
  split at hs
  ·rename_i fs hu
   exact⟨fs,fd,hu,hs,h1,h2,fun e=>by simpa using US h3 e⟩
  ·cases hs
theorem fP {t:TypeId} {n sz:Nat} (h:(match P.underlying t with | some (.array n' el)=>n'==n&&Oc P el==some sz | _=>false)=true):∃ el,P.underlying t=some (.array n el)∧Oc P el=some sz:=by
 split at h
 ·rename_i n' el hu
  simp at h
  obtain⟨rfl,h⟩:=h
  exact⟨el,hu,h⟩
 ·cases h
theorem KL {t:TypeId} {n sz:Nat} {ag:Bool} (h:(match P.underlying t with | some (.array n' el)=>n'==n&&Oc P el==some sz&&Wi P el==some ag | _=>false)=true):∃ el,P.underlying t=some (.array n el)∧Oc P el=some sz∧Wi P el=some ag:=by
 split at h
 ·rename_i n' el hu
  simp at h
  obtain⟨⟨rfl,h⟩,h2⟩:=h
  exact⟨el,hu,h,h2⟩
 ·cases h
theorem XB (mx:Bool) {xs:List AV} {vs:List Value} {p:PV} (hl:La fo (K R φ H) xs vs) (hb:Un mx xs=some p):
 ∃ v0 rest v,vs=v0::rest∧(rest.foldlM (if mx then Builtin.max2 else Builtin.min2) v0).run P w= .ok v w∧Ea R p v:=by
 unfold Un at hb
 split at hb
 ·rename_i k x r
  cases hl with
  |cons _ _ v vs h1 h2=>
   rw[Vc h1 rfl]
   obtain⟨u,q1,q2⟩:=LF (P:=P) (w:=w) mx h2 hb
   exact⟨_,_,u,rfl,q1,q2⟩
 ·cases hb
theorem dM (s:ByteArray) (i:Nat):s[i]? =s.data.toList[i]? :=by
 by_cases h:i < s.size
 ·rw[getElem?_pos s i h]
  have h2:i < s.data.toList.length:=by rw[Array.length_toList];exact h
  rw[List.getElem?_eq_getElem h2]
  rfl
 ·rw[getElem?_neg s i h]
  have h2:¬i < s.data.toList.length:=by rw[Array.length_toList];exact h
  rw[List.getElem?_eq_none (by omega)]
set_option maxHeartbeats 1000000 in
theorem tI {o:Oper} {op:Op} {aop:Ec} {v:AV} (ho:o.op=op) (ta:qO P fo op aop=true) (hS:Kb fo B0 w R φ H) (hE:og fo (K R φ H) e a) (hev:da call e H aop=some (v,H')):
 zv P fo B0 o a w R φ H v H':=by
 unfold qO at ta
 split at ta
 case h_1 x y=>
  simp[da] at hev
  obtain⟨rfl,rfl⟩:=hev
  exact .Ho hS (by simp[execOp,ho]) (pb hE ta)
 case h_2 x y=>
  simp[da] at hev
  obtain⟨rfl,rfl⟩:=hev
  exact .Ho hS (by simp[execOp,ho]) (pb hE ta)
 case h_3 c x y c' x' y'=>
  simp only[Bool.and_eq_true] at ta
  simp only[da,Option.bind_eq_some_iff] at hev
  obtain⟨t,h1,h2⟩:=hev
  simp at h2
  obtain⟨rfl,rfl⟩:=h2
  have hc:=Fu (pb hE ta.1.1) h1
  refine .Ho (v':=if t then a.eval x else a.eval y) hS (by simp[execOp,ho,hc,Go.asBool]) ?_
  cases t
  ·exact pb hE ta.2
  ·exact pb hE ta.1.2
 case h_4 t zero=>
  simp[da] at hev
  obtain⟨rfl,rfl⟩:=hev
  exact .qc (by simp[execOp,ho]) (pL hS ta)
 case h_5 t x n y=>
  simp only[da] at hev
  split at hev
  ·rename_i hc
   simp at hev
   obtain⟨rfl,rfl⟩:=hev
   exact .qc (by simp[execOp,ho]) (sR (t:=t) hS (pb hE ta) hc.2)
  ·cases hev
 case h_6 t parts zero aparts=>
  simp only[Bool.and_eq_true] at ta
  obtain⟨h1,h2⟩:=ta
  simp only[da,Option.map_eq_some_iff,Prod.mk.injEq] at hev
  obtain⟨cs,hf,rfl,rfl⟩:=hev
  cases hu:P.underlying t with
  |none=>simp[hu] at h1
  |some d=>
   cases d with
   |struct fs=>
    simp only[hu,Bool.and_eq_true] at h1
    exact .qc (s:=Instr.build t (parts.map fun (i,x)=>(i,a.eval x))) (by simp[execOp,ho]) (iL hS hE hu h1.1 h1.2 h2 hf)
   |array n el=>
    simp only[hu,Bool.and_eq_true,List.isEmpty_iff] at h1
    rw[h1.1.2] at hf
    simp only[List.map_nil,nm,Option.some.injEq] at hf
    subst hf
    exact .qc (s:=Instr.build t (parts.map fun (i,x)=>(i,a.eval x))) (by simp[execOp,ho]) (PK hS hu h1.1.1 h1.2 h2)
   |_=>simp[hu] at h1
 case h_7 t len parts hh sz ag len' zero aparts=>
  simp only[Bool.and_eq_true,beq_iff_eq,decide_eq_true_eq] at ta
  obtain⟨⟨⟨h1,rfl⟩,h2⟩,h3⟩:=ta
  cases hel:vr P t with
  |none=>simp[hel] at h1
  |some el=>
   simp only[hel] at h1
   simp only[da,Option.bind_eq_some_iff] at hev
   obtain⟨cs,hf,hfr⟩:=hev
   split at hfr
   ·rename_i hone
    obtain⟨q1,q2⟩:=Ov hE (sz:=sz) h3
    have:=MH (fo:=fo) (B0:=B0) hS (Tk hel) (lC h1) h2 q1 q2 hf hone hfr
    refine .qc (s:=Instr.buildSlice t len (parts.map fun (i,x)=>(i,a.eval x))) (by simp[execOp,ho]) ?_
    have hp:(parts.map fun (i,x)=>(i,a.eval x))=(parts.toList.map fun p=>(p.1,a.eval p.2)).toArray:=by
     apply Array.ext';simp
    rw[hp]
    exact this
   ·cases hfr
 case h_8 t x ag n y=>
  simp only[Bool.and_eq_true,beq_iff_eq] at ta
  simp only[da,Option.map_eq_some_iff,Prod.mk.injEq] at hev
  obtain⟨u,hl,rfl,rfl⟩:=hev
  obtain⟨vv,h1,h2⟩:=mG (P:=P) hS (pb hE ta.2) ta.1.1 (fun e=>by simpa using US ta.1.2 e) hl
  exact .qc (s:=Instr.loadAt t (a.eval x)) (by simp[execOp,ho]) (vn.same vv hS h1 h2)
 case h_9 t p x n q y=>
  simp only[Bool.and_eq_true,beq_iff_eq] at ta
  simp only[da,Option.map_eq_some_iff,Prod.mk.injEq] at hev
  obtain⟨H1,hl,rfl,rfl⟩:=hev
  obtain⟨w',φ',h1,h2,h3,h4⟩:=DM (P:=P) hS (pb hE ta.1.2) (pb hE ta.2) ta.1.1 hl
  intro next Q hn
  unfold Oper.wp
  have:(execOp a.eval o).run P w= .ok .skip w':=by simp[execOp,ho,h1]
  rw[this]
  exact hn undef w' R φ' h2 (.atom _ _ (show Ea R _ _ from .bc [] [] .nil)) h3 h4
 case h_10 x y=>
  simp only[da] at hev
  have hx:=pb (R:=R) (φ:=φ) (H:=H) hE ta
  generalize AO.ev e y=z at hev hx
  obtain⟨vx,hvx⟩:∃ vx,a.eval x=vx:=⟨_,rfl⟩
  rw[hvx] at hx
  split at hev
  ·rename_i ix caps
   simp at hev
   obtain⟨rfl,rfl⟩:=hev
   have hx2:=hx
   cases hx2 with
   |atom _ _ h=>exact h.elim
   |mi _ _ vs h=>
    refine .Ho hS ?_ hx
    simp[execOp,ho,hvx]
  ·simp only[Option.map_eq_some_iff,Prod.mk.injEq] at hev
   obtain⟨u,hp,rfl,rfl⟩:=hev
   obtain⟨b,o',h1,h2⟩:=Lw hS hx hp
   have:=cJ hp
   subst this
   refine .Ho hS ?_ hx
   simp[execOp,ho,hvx,h1]
 case h_11 op' t x y t' op x' y'=>
  simp only[Bool.and_eq_true,decide_eq_true_eq] at ta
  obtain⟨⟨rfl,h1⟩,h2⟩:=ta
  simp only[da,Option.map_eq_some_iff,Prod.mk.injEq] at hev
  obtain⟨p,hp,rfl,rfl⟩:=hev
  obtain⟨u,q1,q2⟩:=OQ (P:=P) (w:=w) (pb hE h1) (pb hE h2) hp t x y
  exact .qc (s:=do eqGuard op' t x y (a.eval x) (a.eval y);binOp op' t (a.eval x) (a.eval y)) (by simp[execOp,ho]) (vn.same u hS q1 (.atom _ _ q2))
 case h_12 t x y t' k x' y'=>
  simp only[Bool.and_eq_true,beq_iff_eq] at ta
  simp only[da,Option.map_eq_some_iff,Prod.mk.injEq] at hev
  obtain⟨b,hb,rfl,rfl⟩:=hev
  have:=nN ta.1.1 hS (pb hE ta.1.2) (pb hE ta.2) hb .eql (.inl rfl) x y
  exact .qc (s:=do eqGuard .eql t x y (a.eval x) (a.eval y);binOp .eql t (a.eval x) (a.eval y)) (by simp[execOp,ho]) (vn.same _ hS this (.atom _ _ (by simpa[K] using Ea.bool (R:=R) b)))
 case h_13 t x y t' k x' y'=>
  simp only[Bool.and_eq_true,beq_iff_eq] at ta
  simp only[da,Option.map_eq_some_iff,Prod.mk.injEq] at hev
  obtain⟨b,hb,rfl,rfl⟩:=hev
  have:=nN ta.1.1 hS (pb hE ta.1.2) (pb hE ta.2) hb .neq (.inr rfl) x y
  exact .qc (s:=do eqGuard .neq t x y (a.eval x) (a.eval y);binOp .neq t (a.eval x) (a.eval y)) (by simp[execOp,ho]) (vn.same _ hS this (.atom _ _ (by simpa[K] using Ea.bool (R:=R) (!b))))
 case h_14 op' t x op y=>
  simp only[Bool.and_eq_true,decide_eq_true_eq] at ta
  obtain⟨rfl,h1⟩:=ta
  simp only[da,Option.map_eq_some_iff,Prod.mk.injEq] at hev
  obtain⟨p,hp,rfl,rfl⟩:=hev
  obtain⟨u,q1,q2⟩:=kS (P:=P) (w:=w) (pb hE h1) hp
  exact .qc (s:=Op.unary op' (a.eval x)) (by simp[execOp,ho]) (vn.same u hS q1 (.atom _ _ q2))
 case h_15 s d x k y=>
  simp only[Bool.and_eq_true] at ta
  simp only[da,Option.map_eq_some_iff,Prod.mk.injEq] at hev
  obtain⟨⟨k',n⟩,hp,rfl,rfl⟩:=hev
  have hx:=Vc (pb hE ta.2) hp
  obtain⟨ds,hds⟩:=Option.isSome_iff_exists.1 ta.1.1
  have hd:P.underlying d=some (.int k):=by
   have:=ta.1.2
   unfold TT at this
   split at this
   ·rename_i k2 h;simp at this;subst this;exact h
   ·cases this
  refine .qc (s:=convert s d (a.eval x)) (by simp[execOp,ho]) (vn.same _ hS ?_ (.atom _ _ (show Ea R _ _ from .int _ _)))
  rw[hx];exact aO hds hd
 case h_16 s d x y=>
  simp only[Bool.and_eq_true] at ta
  obtain⟨⟨h1,h2⟩,h3⟩:=ta
  simp only[da,Option.map_eq_some_iff,Prod.mk.injEq] at hev
  obtain⟨str,hp,rfl,rfl⟩:=hev
  have hx:=pb (R:=R) (φ:=φ) (H:=H) hE h3
  cases hel:vr P s with
  |none=>simp[hel] at h1
  |some el=>
   simp only[hel] at h1
   have hs:=Tk hel
   have hb:P.underlying el=some (.int .u8):=by
    unfold sS at h1
    split at h1
    ·rename_i h;exact h
    ·cases h1
   have hd:P.underlying d=some .string:=by
    unfold KS at h2
    split at h2
    ·rename_i h;exact h
    ·cases h2
   have hr:=EP (P:=P) hS hx hp
   refine .qc (s:=convert s d (a.eval x)) (by simp[execOp,ho]) (vn.same (.string str) hS ?_ (.atom _ _ (show Ea R _ _ from .str _)))
   obtain⟨sa,sl,sc,hv⟩:=XL hS hx hp
   rw[hv] at hr ⊢
   rw[run_convert_bytes_string w s d el sa sl sc hs hb hd]
   exact hr
 case h_17 s d x hh y=>
  simp only[Bool.and_eq_true] at ta
  obtain⟨⟨h1,h2⟩,h3⟩:=ta
  obtain⟨ds,hds⟩:=Option.isSome_iff_exists.1 h1
  simp only[da] at hev
  have hx:=pb (R:=R) (φ:=φ) (H:=H) hE h3
  split at hev
  ·rename_i b hy
   rw[hy] at hx
   obtain⟨vx,hvx⟩:∃ vx,a.eval x=vx:=⟨_,rfl⟩
   rw[hvx] at hx
   have hp:=hx.qb
   cases hp
   cases hel:vr P d with
   |none=>simp[hel] at h2
   |some el=>
    simp only[hel] at h2
    have hb:P.underlying el=some (.int .u8):=by
     unfold sS at h2
     split at h2
     ·rename_i h;exact h
     ·cases h2
    exact .qc (s:=convert s d (.string b)) (by simp[execOp,ho,hvx]) (HQ hS hds (Tk hel) hb hev)
  ·cases hev
 case h_18 f first caps ix ys=>
  simp only[Bool.and_eq_true,beq_iff_eq] at ta
  obtain⟨⟨h1,rfl⟩,h2⟩:=ta
  simp[da] at hev
  obtain⟨rfl,rfl⟩:=hev
  have hf:first= #[]:=by simpa using h1
  have:=zn (R:=R) (φ:=φ) (H:=H) hE h2
  refine .qc (s:=Instr.makeFunc (.func (fo ix)) (first.map a.eval) (caps.map a.eval)) (by simp[execOp,ho]) (vn.same (.func (.func (fo ix)) #[] (caps.map a.eval)) hS (by simp[Instr.makeFunc,hf]) ?_)
  have hcaps:caps.map a.eval=⟨caps.toList.map a.eval⟩:=by apply Array.ext';simp
  rw[hcaps]
  exact .mi _ _ _ this
 case h_19 t l c hh sz ag zero bytes l' c'=>
  simp only[Bool.and_eq_true,decide_eq_true_eq] at ta
  obtain⟨⟨⟨h1,h2⟩,h3⟩,h4⟩:=ta
  cases hel:vr P t with
  |none=>simp[hel] at h1
  |some el=>
   simp only[hel,Bool.and_eq_true,beq_iff_eq] at h1
   simp only[da,Option.bind_eq_some_iff] at hev
   obtain⟨⟨kl,nl⟩,hl,⟨kc,nc⟩,hc,hif⟩:=hev
   split at hif
   ·rename_i hcond
    have e1:=Vc (pb hE h3) hl
    have e2:=Vc (pb hE h4) hc
    refine .qc (s:=Instr.makeSlice t (a.eval l) (a.eval c)) (by simp[execOp,ho]) ?_
    rw[e1,e2]
    exact ZE hS (Tk hel) (lC h1.1) h1.2 h2 hcond.1 hcond.2.1 hcond.2.2 hif
   ·cases hif
 case h_20 t x lo hi sz y lo' hi'=>
  simp only[Bool.and_eq_true] at ta
  obtain⟨⟨⟨h1,h2⟩,h3⟩,h4⟩:=ta
  have hx:=pb (R:=R) (φ:=φ) (H:=H) hE h2
  have hu:(sz≠0∧∃ el,P.underlying t=some (.slice el)∧Oc P el=some sz)∨(sz=0∧P.underlying t=some .string):=by
   cases hu:P.underlying t with
   |none=>simp[hu] at h1
   |some d=>
    cases d <;> simp[hu] at h1
    ·exact .inr ⟨h1,rfl⟩
    ·exact .inl ⟨h1.1,_,rfl,h1.2⟩
  have fin:∀ {l h:Option Int},((lo.map a.eval=none∧l=none)∨∃ k n,lo.map a.eval=some (.int k n)∧l=some n)→((hi.map a.eval=none∧h=none)∨∃ k n,hi.map a.eval=some (.int k n)∧h=some n)→
   (Ad H sz (AO.ev e y) l h).map (fun v=>(v,H))=some (v,H')→zv P fo B0 o a w R φ H v H':=by
   intro l h hl hh hsl
   simp only[Option.map_eq_some_iff,Prod.mk.injEq] at hsl
   obtain⟨u,hu2,rfl,rfl⟩:=hsl
   exact .qc (s:=Instr.sliceAt t (a.eval x) (lo.map a.eval) (hi.map a.eval) none) (by simp[execOp,ho]) (TK hS hx hu hl hh hu2)
  rcases CJ hE h3 with⟨rfl,rfl⟩ | ⟨x1,y1,rfl,rfl,g1⟩ <;> rcases CJ hE h4 with⟨rfl,rfl⟩ | ⟨x2,y2,rfl,rfl,g2⟩
  ·simp only[da] at hev
   exact fin (.inl ⟨rfl,rfl⟩) (.inl ⟨rfl,rfl⟩) hev
  ·simp only[da,Option.bind_eq_some_iff] at hev
   obtain⟨⟨k,n⟩,h5,h6⟩:=hev
   exact fin (.inl ⟨rfl,rfl⟩) (.inr ⟨k,n,by simp[Vc (pb hE g2) h5],rfl⟩) h6
  ·simp only[da,Option.bind_eq_some_iff] at hev
   obtain⟨⟨k,n⟩,h5,h6⟩:=hev
   exact fin (.inr ⟨k,n,by simp[Vc (pb hE g1) h5],rfl⟩) (.inl ⟨rfl,rfl⟩) h6
  ·simp only[da,Option.bind_eq_some_iff] at hev
   obtain⟨⟨k,n⟩,h5,⟨k2,n2⟩,h7,h6⟩:=hev
   exact fin (.inr ⟨k,n,by simp[Vc (pb hE g1) h5],rfl⟩) (.inr ⟨k2,n2,by simp[Vc (pb hE g2) h7],rfl⟩) h6
 case h_21 t x f off y=>
  simp only[Bool.and_eq_true] at ta
  obtain⟨h1,h2⟩:=ta
  simp only[da,Option.map_eq_some_iff,Prod.mk.injEq] at hev
  obtain⟨u,hp,rfl,rfl⟩:=hev
  obtain⟨fs,fd,n,hu,hf,rfl,hn,hn0⟩:=JN h1
  exact .qc (s:=Instr.fieldAt t (a.eval x) f) (by simp[execOp,ho]) (EL hS (pb hE h2) hu hf hn hn0 hp)
 case h_22 t x f off ag n y=>
  simp only[Bool.and_eq_true] at ta
  obtain⟨h1,h2⟩:=ta
  have hx:=pb (R:=R) (φ:=φ) (H:=H) hE h2
  obtain⟨fs,fd,hu,hf,rfl,ha,hn⟩:=DO h1
  simp only[da] at hev
  refine .qc (s:=Instr.field t (a.eval x) f) (by simp[execOp,ho]) ?_
  have hrun:∀ vs:Array Value,(Instr.field t (.agg vs) f).run P w=(part fd.type vs fd.offset).run P w:=by
   intro vs;simp[Instr.field,run_underlying hu,hf,asAgg]
  obtain⟨i1,i2⟩:=kJ hx
  split at hev
  ·rename_i cs hy
   obtain⟨vs,e1,e2⟩:=i1 cs hy
   simp only[Option.map_eq_some_iff,Prod.mk.injEq] at hev
   obtain⟨p,hp,rfl,rfl⟩:=hev
   rw[jj,e1,hrun]
   exact BF hS ha hn e2 hp
  ·rename_i cs hy
   obtain⟨vs,e1,e2⟩:=i2 cs hy
   simp only[Option.map_eq_some_iff,Prod.mk.injEq] at hev
   obtain⟨p,hp,rfl,rfl⟩:=hev
   rw[jj,e1,hrun]
   exact KG hS ha hn e2 hp
  ·cases hev
 case h_23 t x i sz y j=>
  simp only[Bool.and_eq_true] at ta
  obtain⟨⟨h1,h2⟩,h3⟩:=ta
  simp only[da,Option.bind_eq_some_iff,Option.map_eq_some_iff,Prod.mk.injEq] at hev
  obtain⟨⟨k,n⟩,hi,u,hp,rfl,rfl⟩:=hev
  have e1:=Vc (pb hE h3) hi
  cases hel:vr P t with
  |none=>simp[hel] at h1
  |some el=>
   simp only[hel,beq_iff_eq] at h1
   refine .qc (s:=Instr.indexAt t (a.eval x) (a.eval i)) (by simp[execOp,ho]) ?_
   rw[e1]
   exact DL hS (pb hE h2) (Tk hel) h1 hp
 case h_24 t x i n sz y j=>
  simp only[Bool.and_eq_true] at ta
  obtain⟨⟨h1,h2⟩,h3⟩:=ta
  simp only[da,Option.bind_eq_some_iff] at hev
  obtain⟨⟨k,m⟩,hi,hif⟩:=hev
  split at hif
  ·rename_i hix
   simp only[Option.map_eq_some_iff,Prod.mk.injEq] at hif
   obtain⟨u,hp,rfl,rfl⟩:=hif
   have e1:=Vc (pb hE h3) hi
   obtain⟨el,hu,hsz⟩:=fP h1
   refine .qc (s:=Instr.indexAt t (a.eval x) (a.eval i)) (by simp[execOp,ho]) ?_
   rw[e1]
   exact TH hS (pb hE h2) hu hsz hix hp
  ·cases hif
 case h_25 t x i n sz ag y j=>
  simp only[Bool.and_eq_true] at ta
  obtain⟨⟨h1,h2⟩,h3⟩:=ta
  have hx:=pb (R:=R) (φ:=φ) (H:=H) hE h2
  simp only[da,Option.bind_eq_some_iff] at hev
  obtain⟨⟨k,m⟩,hi,hif⟩:=hev
  split at hif
  ·rename_i hix
   have e1:=Vc (pb hE h3) hi
   obtain⟨el,hu,hsz,ha⟩:=KL h1
   refine .qc (s:=Instr.index t (a.eval x) (a.eval i)) (by simp[execOp,ho]) ?_
   obtain⟨g1,g2⟩:=hix
   have hrun:∀ vs:Array Value,(Instr.index t (.agg vs) (.int k m)).run P w=(part el vs (m.toNat * sz)).run P w:=by
    intro vs;simp only[] at g1 g2;simp[Instr.index,asIntOf,run_underlying hu,g1,g2,Ob hsz]
   obtain⟨i1,i2⟩:=kJ hx
   split at hif
   ·rename_i cs hy
    obtain⟨vs,e2,e3⟩:=i1 cs hy
    simp only[Option.map_eq_some_iff,Prod.mk.injEq] at hif
    obtain⟨p,hp,rfl,rfl⟩:=hif
    rw[jj,e1,e2,hrun]
    exact BF hS ha (fun _=>hsz) e3 hp
   ·rename_i cs hy
    obtain⟨vs,e2,e3⟩:=i2 cs hy
    simp only[Option.map_eq_some_iff,Prod.mk.injEq] at hif
    obtain⟨p,hp,rfl,rfl⟩:=hif
    rw[jj,e1,e2,hrun]
    exact KG hS ha (fun _=>hsz) e3 hp
   ·cases hif
  ·cases hif
 case h_26 t x i y j=>
  simp only[Bool.and_eq_true] at ta
  obtain⟨⟨h1,h2⟩,h3⟩:=ta
  have hx:=pb (R:=R) (φ:=φ) (H:=H) hE h2
  have hd:P.underlying t=some .string:=by
   unfold KS at h1
   split at h1
   ·rename_i h;exact h
   ·cases h1
  simp only[da,Option.bind_eq_some_iff] at hev
  obtain⟨⟨k,m⟩,hi,hif⟩:=hev
  have e1:=Vc (pb hE h3) hi
  split at hif
  ·rename_i str hy
   split at hif
   ·rename_i hm
    simp only[Option.map_eq_some_iff,Prod.mk.injEq] at hif
    obtain⟨b,hb,rfl,rfl⟩:=hif
    rw[hy] at hx
    obtain⟨vx,hvx⟩:∃ vx,a.eval x=vx:=⟨_,rfl⟩
    rw[hvx] at hx
    have hp:=hx.qb
    cases hp
    have hb':str[m.toNat]? =some b:=by rw[← hb];exact dM _ _
    refine .qc (s:=Instr.index t (a.eval x) (a.eval i)) (by simp[execOp,ho]) (vn.same (.int .u8 b.toNat) hS ?_ (.atom _ _ (show Ea R _ _ from .int _ _)))
    rw[hvx,e1]
    simp only[] at hm
    simp[Instr.index,asIntOf,run_underlying hd,hm,hb']
   ·cases hif
  ·cases hif
 case h_27 x i i' y=>
  simp only[Bool.and_eq_true,beq_iff_eq] at ta
  obtain⟨rfl,h1⟩:=ta
  have hx:=pb (R:=R) (φ:=φ) (H:=H) hE h1
  simp only[da] at hev
  obtain⟨i1,i2⟩:=OP hx
  refine .qc (s:=Instr.extract (a.eval x) i) (by simp[execOp,ho]) ?_
  split at hev
  ·rename_i cs hy
   obtain⟨vs,e1,e2⟩:=i1 cs hy
   simp only[Option.map_eq_some_iff,Prod.mk.injEq] at hev
   obtain⟨p,hp,rfl,rfl⟩:=hev
   obtain⟨u,hu,hr⟩:=e2.get hp
   rw[e1]
   exact vn.same u hS (by simp[Instr.extract,hu]) (.atom _ _ hr)
  ·rename_i cs hy
   obtain⟨vs,e1,e2⟩:=i2 cs hy
   simp only[Option.map_eq_some_iff,Prod.mk.injEq] at hev
   obtain⟨p,hp,rfl,rfl⟩:=hev
   obtain⟨u,hu,hr⟩:=e2.get hp
   rw[e1]
   exact vn.same u hS (by simp[Instr.extract,hu]) hr
  ·cases hev
 case h_28 args argTypes k y=>
  simp only[da,Option.map_eq_some_iff,Prod.mk.injEq] at hev
  obtain⟨n,hn,rfl,rfl⟩:=hev
  split at ta
  ·rename_i x t hargs htys
   simp only[Bool.and_eq_true] at ta
   have ha:args= #[x]:=by apply Array.ext';simpa using hargs
   have ht:argTypes= #[t]:=by apply Array.ext';simpa using htys
   subst ha ht
   have hu:(k=0∧∃ e,P.underlying t=some (.slice e))∨(k=1∧P.underlying t=some .string):=by
    have:=ta.2
    cases hu:P.underlying t with
    |none=>simp[hu] at this
    |some d=>cases d <;> simp[hu] at this <;> simp_all
   exact .qc (s:=Builtin.len_ #[t] o.type #[a.eval x]) (by simp[execOp,ho,resolve,invoke,builtin]) (vP hS (pb hE ta.1) hu hn)
  ·cases ta
 case h_29 args tys ys=>
  simp only[da,Option.map_eq_some_iff,Prod.mk.injEq] at hev
  obtain⟨p,hp,rfl,rfl⟩:=hev
  have hl:=zn (R:=R) (φ:=φ) (H:=H) hE ta
  obtain⟨v0,rest,u,q0,q1,q2⟩:=XB (P:=P) (w:=w) true hl hp
  exact .qc (s:=Builtin.max_ tys o.type (args.map a.eval)) (by simp[execOp,ho,resolve,invoke,builtin]) (vn.same u hS (by simp only[Builtin.max_,Array.toList_map,q0];simpa using q1) (.atom _ _ q2))
 case h_30 args tys ys=>
  simp only[da,Option.map_eq_some_iff,Prod.mk.injEq] at hev
  obtain⟨p,hp,rfl,rfl⟩:=hev
  have hl:=zn (R:=R) (φ:=φ) (H:=H) hE ta
  obtain⟨v0,rest,u,q0,q1,q2⟩:=XB (P:=P) (w:=w) false hl hp
  exact .qc (s:=Builtin.min_ tys o.type (args.map a.eval)) (by simp[execOp,ho,resolve,invoke,builtin]) (vn.same u hS (by simp only[Builtin.min_,Array.toList_map,q0];simpa using q1) (.atom _ _ q2))
 case h_31 args argTypes own hh sz ag bytes s y=>
  simp only[da] at hev
  split at ta
  ·rename_i x z t tx hargs htys
   simp only[Bool.and_eq_true] at ta
   have ha:args= #[x,z]:=by apply Array.ext';simpa using hargs
   have ht:argTypes= #[t,tx]:=by apply Array.ext';simpa using htys
   subst ha ht
   obtain⟨⟨h1,h2⟩,h3⟩:=ta
   cases hel:vr P t with
   |none=>simp[hel] at h3
   |some el=>
    simp only[hel,Bool.and_eq_true] at h3
    have hA:=VH h3.1
    refine .qc (s:=Builtin.append_ #[t,tx] o.type #[a.eval x,a.eval z]) (by simp[execOp,ho,resolve,invoke,builtin]) ?_
    have hs:=pb (R:=R) (φ:=φ) (H:=H) hE h1
    have hx:=pb (R:=R) (φ:=φ) (H:=H) hE h2
    generalize AO.ev e s=sv at hev hs
    generalize AO.ev e y=xv at hev hx
    unfold Hc at hev
    split at hev
    ·split at hev
     ·split at hev
      ·rename_i id len sz' ag' cells fl nl hid
       simp only[Option.bind_eq_some_iff] at hev
       obtain⟨⟨m,cs⟩,hy,hif⟩:=hev
       split at hif
       ·rename_i hc
        obtain⟨rfl,hc1,hc2,hc3⟩:=hc
        simp only[Option.some.injEq,Prod.mk.injEq] at hif
        obtain⟨rfl,rfl⟩:=hif
        exact nI hS hA hs hx hid hc1 hy hc3 hc2
       ·cases hif
      ·cases hev
     ·cases hev
    ·split at hev
     ·split at hev
      ·rename_i id nl sz' es sz2 n nl2 hid
       simp only[Option.bind_eq_some_iff] at hev
       obtain⟨ys,hy,hif⟩:=hev
       split at hif
       ·rename_i hc
        obtain⟨rfl,rfl,hc1,hc2⟩:=hc
        simp only[Option.some.injEq,Prod.mk.injEq] at hif
        obtain⟨rfl,rfl⟩:=hif
        exact KM hS hA hs hx hid hc1 hy hc2
       ·cases hif
      ·cases hev
     ·simp only[Option.bind_eq_some_iff] at hev
      obtain⟨ys,hy,hif⟩:=hev
      split at hif
      ·rename_i hc
       have hp:=hs.qb
       obtain⟨vs,hvs⟩:∃ vs,a.eval x=vs:=⟨_,rfl⟩
       rw[hvs] at hp ⊢
       cases hp
       exact nF hS hA hx hy hc hif
      ·cases hif
     ·cases hev
  ·cases ta
 case h_32 t x n y=>
  simp only[da] at hev
  split at hev
  ·rename_i hc
   simp only[Option.map_eq_some_iff,Prod.mk.injEq] at hev
   obtain⟨ps,hps,rfl,rfl⟩:=hev
   exact .qc (by simp[execOp,ho]) (lO (t:=t) hS (pb hE ta) hc.2 hps)
  ·cases hev
 case h_33 t x y _ ks x' y'=>
  simp only[Bool.and_eq_true,Bool.not_eq_true'] at ta
  simp only[da] at hev
  split at hev
  ·rename_i p q hp hq
   simp only[Option.map_eq_some_iff,Prod.mk.injEq] at hev
   obtain⟨b,hb,rfl,rfl⟩:=hev
   have h1:=pb (R:=R) (φ:=φ) (H:=H) hE ta.1.2
   have h2:=pb (R:=R) (φ:=φ) (H:=H) hE ta.2
   rw[hp] at h1
   rw[hq] at h2
   have hg:=Lv (w:=w) ta.1.1.2 .eql x y h1.qb h2.qb hb
   have hr:=Oz (w:=w) ta.1.1.1 h1.qb h2.qb hb
   have hbin:(binOp .eql t (a.eval x) (a.eval y)).run P w= .ok (.bool b) w:=by
    have e:=h1.qb
    have e2:=h2.qb
    revert hr
    generalize a.eval x=vx at e
    generalize a.eval y=vy at e2
    intro hr
    have Qi:∃ xs,p= .agg xs:=by cases p <;> simp[Yi] at hb;exact⟨_,rfl⟩
    obtain⟨xs,rfl⟩:=Qi
    have hq2:∃ ys,q= .agg ys:=by cases q <;> simp[Yi] at hb;exact⟨_,rfl⟩
    obtain⟨ys,rfl⟩:=hq2
    cases e;cases e2;simp[binOp,hr]
   exact .Ho (v':= .bool b) hS (by simp[execOp,ho,hg,hbin]) (.atom _ _ (show Ea R _ _ from .bool _))
  ·cases hev
 case h_34 t x y _ ks x' y'=>
  simp only[Bool.and_eq_true,Bool.not_eq_true'] at ta
  simp only[da] at hev
  split at hev
  ·rename_i p q hp hq
   simp only[Option.map_eq_some_iff,Prod.mk.injEq] at hev
   obtain⟨b,hb,rfl,rfl⟩:=hev
   have h1:=pb (R:=R) (φ:=φ) (H:=H) hE ta.1.2
   have h2:=pb (R:=R) (φ:=φ) (H:=H) hE ta.2
   rw[hp] at h1
   rw[hq] at h2
   have hg:=Lv (w:=w) ta.1.1.2 .neq x y h1.qb h2.qb hb
   have hr:=Oz (w:=w) ta.1.1.1 h1.qb h2.qb hb
   have hbin:(binOp .neq t (a.eval x) (a.eval y)).run P w= .ok (.bool (!b)) w:=by
    have e:=h1.qb
    have e2:=h2.qb
    revert hr
    generalize a.eval x=vx at e
    generalize a.eval y=vy at e2
    intro hr
    have Qi:∃ xs,p= .agg xs:=by cases p <;> simp[Yi] at hb;exact⟨_,rfl⟩
    obtain⟨xs,rfl⟩:=Qi
    have hq2:∃ ys,q= .agg ys:=by cases q <;> simp[Yi] at hb;exact⟨_,rfl⟩
    obtain⟨ys,rfl⟩:=hq2
    cases e;cases e2;simp[binOp,hr]
   exact .Ho (v':= .bool (!b)) hS (by simp[execOp,ho,hg,hbin]) (.atom _ _ (show Ea R _ _ from .bool _))
  ·cases hev
 case h_35 t=>
  simp only[da,Option.some.injEq,Prod.mk.injEq] at hev
  obtain⟨rfl,rfl⟩:=hev
  exact .qc (s:=Instr.makeMap t none) (by simp[execOp,ho]) (zK hS _)
 case h_36 t x k ok kd zero ok' x' k'=>
  simp only[Bool.and_eq_true,beq_iff_eq] at ta
  obtain⟨⟨⟨⟨h1,h2⟩,rfl⟩,h3⟩,h4⟩:=ta
  have hm:=pb (R:=R) (φ:=φ) (H:=H) hE h3
  have hk:=pb (R:=R) (φ:=φ) (H:=H) hE h4
  simp only[da] at hev
  split at hev
  ·rename_i kp em ek
   rw[em] at hm;rw[ek] at hk
   split at hev
   ·rename_i hkk
    simp only[Option.some.injEq,Prod.mk.injEq] at hev
    obtain⟨rfl,rfl⟩:=hev
    obtain⟨u,h5,h6⟩:=XA (P:=P) hS h1 h2 hm hk.qb ok (.inl ⟨rfl,rfl⟩) hkk (r:=none) rfl
    exact .Ho hS (by simp[execOp,ho,h5]) h6
   ·cases hev
  ·rename_i id kp em ek
   rw[em] at hm;rw[ek] at hk
   split at hev
   ·rename_i es hid
    split at hev
    ·rename_i hkk
     simp only[Option.map_eq_some_iff] at hev
     obtain⟨r,hf,hr⟩:=hev
     obtain⟨u,h5,h6⟩:=XA (P:=P) hS h1 h2 hm hk.qb ok (.inr ⟨id,rfl,hid⟩) hkk hf
     cases r with
     |none=>
      simp only[Prod.mk.injEq] at hr
      obtain⟨rfl,rfl⟩:=hr
      exact .Ho hS (by simp[execOp,ho,h5]) h6
     |some r=>
      simp only[Prod.mk.injEq] at hr
      obtain⟨rfl,rfl⟩:=hr
      exact .Ho hS (by simp[execOp,ho,h5]) h6
    ·cases hev
   ·cases hev
  ·cases hev
 case h_37 t m k x kd m' k' x'=>
  simp only[Bool.and_eq_true] at ta
  obtain⟨⟨⟨h1,h2⟩,h3⟩,h4⟩:=ta
  have hm:=pb (R:=R) (φ:=φ) (H:=H) hE h2
  have hk:=pb (R:=R) (φ:=φ) (H:=H) hE h3
  have hx:=pb (R:=R) (φ:=φ) (H:=H) hE h4
  simp only[da] at hev
  split at hev
  ·rename_i id kp xp em ek ex
   rw[em] at hm;rw[ek] at hk;rw[ex] at hx
   split at hev
   ·rename_i es hid
    split at hev
    ·rename_i hkk
     simp only[Option.map_eq_some_iff] at hev
     obtain⟨r,hf,hr⟩:=hev
     obtain⟨w',φ',h5,h6,h7,h8⟩:=pA (P:=P) hS h1 hm hk.qb hx.qb hid hkk hf
     intro next Q hn
     unfold Oper.wp
     have:(execOp a.eval o).run P w= .ok .skip w':=by simp[execOp,ho,h5]
     rw[this]
     cases r with
     |none=>
      simp only[Prod.mk.injEq] at hr
      obtain⟨rfl,rfl⟩:=hr
      exact hn undef w' R φ' h6 (.atom _ _ (show Ea R _ _ from .bc [] [] .nil)) h7 h8
     |some r=>
      simp only[Prod.mk.injEq] at hr
      obtain⟨rfl,rfl⟩:=hr
      exact hn undef w' R φ' h6 (.atom _ _ (show Ea R _ _ from .bc [] [] .nil)) h7 h8
    ·cases hev
   ·cases hev
  ·cases hev
 case h_38 t m k x kd m' k' x'=>
  simp only[Bool.and_eq_true] at ta
  obtain⟨⟨⟨h1,h2⟩,h3⟩,h4⟩:=ta
  have hm:=pb (R:=R) (φ:=φ) (H:=H) hE h2
  have hk:=pb (R:=R) (φ:=φ) (H:=H) hE h3
  have hx:=pb (R:=R) (φ:=φ) (H:=H) hE h4
  simp only[da] at hev
  split at hev
  ·rename_i id kp xp em ek ex
   rw[em] at hm;rw[ek] at hk;rw[ex] at hx
   split at hev
   ·rename_i es hid
    split at hev
    ·rename_i hkk
     simp only[Option.map_eq_some_iff] at hev
     obtain⟨r,hf,hr⟩:=hev
     obtain⟨w',φ',h5,h6,h7,h8⟩:=pA (P:=P) hS h1 hm hk.qb hx.qb hid hkk hf
     intro next Q hn
     unfold Oper.wp
     have:(execOp a.eval o).run P w= .ok .skip w':=by simp[execOp,ho,h5]
     rw[this]
     cases r with
     |none=>
      simp only[Prod.mk.injEq] at hr
      obtain⟨rfl,rfl⟩:=hr
      exact hn undef w' R φ' h6 (.atom _ _ (show Ea R _ _ from .bc [] [] .nil)) h7 h8
     |some r=>
      simp only[Prod.mk.injEq] at hr
      obtain⟨rfl,rfl⟩:=hr
      exact hn undef w' R φ' h6 (.atom _ _ (show Ea R _ _ from .bc [] [] .nil)) h7 h8
    ·cases hev
   ·cases hev
  ·cases hev
 case h_39 s d x y=>
  simp only[da] at hev
  split at hev
  ·rename_i id es hx
   split at hev
   ·rename_i n hid
    split at hev
    ·rename_i hn2
     simp only[Option.some.injEq,Prod.mk.injEq] at hev
     obtain⟨rfl,rfl⟩:=hev
     simp only[Bool.and_eq_true,beq_iff_eq] at ta
     obtain⟨⟨rfl,hsl⟩,h3⟩:=ta
     have hr:=pb (R:=R) (φ:=φ) (H:=H) hE h3
     rw[hx] at hr
     exact kM ho hS hr hid hn2 hsl
    ·cases hev
   ·cases hev
  ·cases hev
 case h_40=>cases ta
end ops
end Go.AM
namespace Go.AM
def AO.look (n:Nat):AO→Bool
 | .t m=>n==m
 |_=>false
def Ec.look (n:Nat):Ec→Bool
 | .move x | .box _ x | .ZH _ x | .load _ _ x | .KA x | .un _ x | .conv _ x | .GS x | .ES x | .gQ _ x | .az _ x | .IS _ _ _ x | .ext _ x | .len _ x=>x.look n
 | .alloc _=>false
 | .pick c a b=>c.look n||a.look n||b.look n
 | .build _ ps=>ps.any fun p=>p.2.2.look n
 | .Hb _ _ _ _ _ ps=>ps.any fun p=>p.2.look n
 | .store _ a v=>a.look n||v.look n
 | .bin _ x y | .eq _ _ x y=>x.look n||y.look n
 | .pD _ xs | .mx xs | .mn xs | .Gj _ xs | .Bd _ xs | .vz _ xs=>xs.any (·.look n)
 | .ye _ _ _ _ _ l c=>l.look n||c.look n
 | .slice _ x lo hi=>x.look n||(lo.any (·.look n))||(hi.any (·.look n))
 | .mg _ x i | .xu _ _ x i | .fR _ _ _ x i | .MS x i=>x.look n||i.look n
 | .append _ _ _ _ _ s x=>s.look n||x.look n
 | .GR _ _ x y=>x.look n||y.look n
 | .AA=>false
 | .lookup _ _ _ m k=>m.look n||k.look n
 | .Jq _ m k v=>m.look n||k.look n||v.look n
 | .Px f xs=>f.look n||xs.any (·.look n)
def nT (p:Nat→Bool) (e e':Tr):Prop:=∀ n,p n=true→e.get n=e'.get n
theorem AO.bF {e e':Tr} {x:AO} (h:∀ n,x.look n=true→e.get n=e'.get n):x.ev e=x.ev e':=by
 cases x with
 |t n=>exact h n (by simp[AO.look])
 |c p=>rfl
 |f ix=>rfl
theorem HL {e e':Tr} {xs:List AO} (h:∀ n,xs.any (·.look n)=true→e.get n=e'.get n):xs.map (·.ev e)=xs.map (·.ev e'):=
 List.map_congr_left fun x hx=>AO.bF fun n hn=>h n (List.any_eq_true.2 ⟨x,hx,hn⟩)
theorem mv {call:Fa} {e e':Tr} {H:List aa} {op:Ec} (h:nT (fun n=>op.look n) e e'):da call e H op=da call e' H op:=by
 have one:∀ x:AO,(∀ n,x.look n=true→op.look n=true)→x.ev e=x.ev e':=fun x hx=>AO.bF fun n hn=>h n (hx n hn)
 have many:∀ xs:List AO,(∀ n,xs.any (·.look n)=true→op.look n=true)→xs.map (·.ev e)=xs.map (·.ev e'):=fun xs hx=>HL fun n hn=>h n (hx n hn)
 cases op with
 |move x=>simp only[da];rw[one x (fun n h=>by simpa[Ec.look] using h)]
 |pick c a b=>
  simp only[da]
  rw[one c (fun n h=>by simp[Ec.look,h]),one a (fun n h=>by simp[Ec.look,h]),one b (fun n h=>by simp[Ec.look,h])]
 |alloc z=>rfl
 |box n x=>simp only[da];rw[one x (fun n h=>by simpa[Ec.look] using h)]
 |ZH n x=>simp only[da];rw[one x (fun n h=>by simpa[Ec.look] using h)]
 |build z ps=>
  simp only[da]
  rw[List.map_congr_left (f:=fun p:Nat×Nat×AO=>(p.1,p.2.1,p.2.2.ev e)) (g:=fun p=>(p.1,p.2.1,p.2.2.ev e')) fun p hp=>by
   rw[one p.2.2 (fun n h=>by simp only[Ec.look];exact List.any_eq_true.2 ⟨p,hp,h⟩)]]
 |Hb hh sz ag len z ps=>
  simp only[da]
  rw[List.map_congr_left (f:=fun p:Nat×AO=>(p.1 * sz,sz,fj e p.2)) (g:=fun p=>(p.1 * sz,sz,fj e' p.2)) fun p hp=>by
   unfold fj
   rw[one p.2 (fun n h=>by simp only[Ec.look];exact List.any_eq_true.2 ⟨p,hp,h⟩)]]
 |load ag n x=>simp only[da];rw[one x (fun n h=>by simpa[Ec.look] using h)]
 |store n a v=>simp only[da];rw[one a (fun n h=>by simp[Ec.look,h]),one v (fun n h=>by simp[Ec.look,h])]
 |KA x=>simp only[da];rw[one x (fun n h=>by simpa[Ec.look] using h)]
 |bin op x y=>simp only[da];rw[one x (fun n h=>by simp[Ec.look,h]),one y (fun n h=>by simp[Ec.look,h])]
 |eq k ne x y=>simp only[da];rw[one x (fun n h=>by simp[Ec.look,h]),one y (fun n h=>by simp[Ec.look,h])]
 |un op x=>simp only[da];rw[one x (fun n h=>by simpa[Ec.look] using h)]
 |conv k x=>simp only[da];rw[one x (fun n h=>by simpa[Ec.look] using h)]
 |GS x=>simp only[da];rw[one x (fun n h=>by simpa[Ec.look] using h)]
 |gQ hh x=>simp only[da];rw[one x (fun n h=>by simpa[Ec.look] using h)]
 |ES x=>simp only[da];rw[one x (fun n h=>by simpa[Ec.look] using h)]
 |pD ix xs=>simp only[da];rw[many xs (fun n h=>by simpa[Ec.look] using h)]
 |ye hh sz ag z b l c=>simp only[da];rw[one l (fun n h=>by simp[Ec.look,h]),one c (fun n h=>by simp[Ec.look,h])]
 |slice sz x lo hi=>
  have hx:=one x (fun n h=>by simp[Ec.look,h])
  cases lo with
  |none=>
   cases hi with
   |none=>simp only[da];rw[hx]
   |some hi=>simp only[da];rw[hx,one hi (fun n h=>by simp[Ec.look,h])]
  |some lo=>
   cases hi with
   |none=>simp only[da];rw[hx,one lo (fun n h=>by simp[Ec.look,h])]
   |some hi=>simp only[da];rw[hx,one lo (fun n h=>by simp[Ec.look,h]),one hi (fun n h=>by simp[Ec.look,h])]
 |az off x=>simp only[da];rw[one x (fun n h=>by simpa[Ec.look] using h)]
 |IS off ag n x=>simp only[da];rw[one x (fun n h=>by simpa[Ec.look] using h)]
 |mg sz x i=>simp only[da];rw[one x (fun n h=>by simp[Ec.look,h]),one i (fun n h=>by simp[Ec.look,h])]
 |xu n sz x i=>simp only[da];rw[one x (fun n h=>by simp[Ec.look,h]),one i (fun n h=>by simp[Ec.look,h])]
 |fR n sz ag x i=>simp only[da];rw[one x (fun n h=>by simp[Ec.look,h]),one i (fun n h=>by simp[Ec.look,h])]
 |MS x i=>simp only[da];rw[one x (fun n h=>by simp[Ec.look,h]),one i (fun n h=>by simp[Ec.look,h])]
 |ext i x=>simp only[da];rw[one x (fun n h=>by simpa[Ec.look] using h)]
 |len k x=>simp only[da];rw[one x (fun n h=>by simpa[Ec.look] using h)]
 |mx xs=>simp only[da];rw[many xs (fun n h=>by simpa[Ec.look] using h)]
 |mn xs=>simp only[da];rw[many xs (fun n h=>by simpa[Ec.look] using h)]
 |append o hh sz ag b s x=>simp only[da];rw[one s (fun n h=>by simp[Ec.look,h]),one x (fun n h=>by simp[Ec.look,h])]
 |GR kd ne x y=>simp only[da];rw[one x (fun n h=>by simp[Ec.look,h]),one y (fun n h=>by simp[Ec.look,h])]
 |AA=>rfl
 |lookup kd z ok m k=>simp only[da];rw[one m (fun n h=>by simp[Ec.look,h]),one k (fun n h=>by simp[Ec.look,h])]
 |Jq kd m k v=>simp only[da];rw[one m (fun n h=>by simp[Ec.look,h]),one k (fun n h=>by simp[Ec.look,h]),one v (fun n h=>by simp[Ec.look,h])]
 |Gj F xs=>simp only[da];rw[many xs (fun n h=>by simpa[Ec.look] using h)]
 |Bd ix xs=>simp only[da];rw[many xs (fun n h=>by simpa[Ec.look] using h)]
 |vz ix xs=>simp only[da];rw[many xs (fun n h=>by simpa[Ec.look] using h)]
 |Px f xs=>simp only[da];rw[one f (fun n h=>by simp[Ec.look,h]),many xs (fun n h=>by simp only[Ec.look,h,Bool.or_true])]
def aa.uC:aa→Bool
 | .tok _ _ _=>true
 |_=>false
mutual
theorem PV.fq:∀ {a b:PV},a.same b=true→a=b:=by
 intro a b h
 cases a <;> cases b <;> simp only[PV.same,Bool.and_eq_true,decide_eq_true_eq,beq_iff_eq,Bool.false_eq_true] at h
 ·rw[h.1,h.2]
 ·rw[h]
 ·rw[h]
 all_goals first | rfl | skip
 ·rw[Dl h.1,h.2]
 ·rw[h.1,Dl h.2]
 ·rw[Dl h]
 ·rw[Dl h]
 ·rw[h.1,PV.fq h.2]
theorem Dl:∀ {a b:List PV},dr a b=true→a=b:=by
 intro a b h
 cases a <;> cases b <;> simp only[dr,Bool.and_eq_true,Bool.false_eq_true] at h
 ·rfl
 ·rw[PV.fq h.1,Dl h.2]
end
mutual
theorem PV.Pk:∀ (a:PV),a.same a=true:=by
 intro a
 cases a <;> simp only[PV.same,decide_true,Bool.and_self,beq_self_eq_true,Bool.and_true,Bool.true_and]
 ·exact sj _
 ·exact sj _
 ·exact sj _
 ·exact sj _
 ·exact PV.Pk _
theorem sj:∀ (a:List PV),dr a a=true:=by
 intro a
 cases a with
 |nil=>rfl
 |cons x r=>simp only[dr,PV.Pk x,sj r,Bool.and_self]
end
mutual
theorem AV.fq:∀ {a b:AV},a.same b=true→a=b:=by
 intro a b h
 cases a <;> cases b <;> simp only[AV.same,Bool.and_eq_true,decide_eq_true_eq,Prod.mk.injEq,Bool.false_eq_true] at h
 ·rw[PV.fq h]
 ·rw[h.1,h.2]
 ·rw[h.1,h.2.1,h.2.2]
 ·rw[h.1.1,h.1.2.1,h.1.2.2,Dl h.2]
 ·rw[h.1,h.2]
 ·rw[h.1,No h.2]
 ·rw[h]
 ·rw[No h]
 ·rw[No h]
 ·rfl
theorem No:∀ {a b:List AV},eu a b=true→a=b:=by
 intro a b h
 cases a <;> cases b <;> simp only[eu,Bool.and_eq_true,Bool.false_eq_true] at h
 ·rfl
 ·rw[AV.fq h.1,No h.2]
end
mutual
theorem AV.Pk:∀ (a:AV),a.same a=true:=by
 intro a
 cases a <;> simp only[AV.same,decide_true,Bool.true_and,PV.Pk,sj]
 ·exact Wm _
 ·exact Wm _
 ·exact Wm _
theorem Wm:∀ (a:List AV),eu a a=true:=by
 intro a
 cases a with
 |nil=>rfl
 |cons x r=>simp only[eu,AV.Pk x,Wm r,Bool.and_self]
end
theorem XG {α β:Type}:∀ {a b:List (α×β)},a.map (·.1)=b.map (·.1)→a.map (·.2)=b.map (·.2)→a=b
 | [],[],_,_=>rfl
 | [],_::_,h,_=>by cases h
 |_::_,[],h,_=>by cases h
 | (x,y)::a,(x',y')::b,h,k=>by
   simp only[List.map_cons,List.cons.injEq] at h k
   rw[h.1,k.1,XG h.2 k.2]
theorem aa.Pk (o:aa):o.same o=true:=by
 cases o <;> simp only[aa.same,decide_true,Bool.true_and,Wm,sj,Bool.and_self]
theorem yC:∀ (H X:List aa),Uz H (H++X)=true
 | [],_=>rfl
 |o::r,X=>by rw[List.cons_append,Uz,aa.Pk,yC r X];rfl
theorem aa.fq {x y:aa} (h:x.same y=true) (ht:x.uC=false):x=y:=by
 cases x with
 |tok=>cases ht
 |box a=>
  cases y <;> simp only[aa.same,Bool.false_eq_true] at h
  rw[No h]
 |seq s g a f n=>
  cases y <;> simp only[aa.same,Bool.and_eq_true,decide_eq_true_eq,Prod.mk.injEq,Bool.false_eq_true] at h
  obtain⟨⟨rfl,rfl,rfl,rfl⟩,h⟩:=h
  rw[No h]
 |map a=>
  cases y <;> simp only[aa.same,Bool.and_eq_true,Bool.false_eq_true] at h
  rw[XG (Dl h.1) (Dl h.2)]
 |dead=>cases y <;> simp only[aa.same,Bool.false_eq_true] at h;rfl
theorem YC:∀ {H H':List aa},Uz H H'=true→∀ (id:Nat) (o:aa),H[id]? =some o→o.uC=false→H'[id]? =some o
 | [],_,_,id,o,h,_=>by simp at h
 |x::r,[],h,_,_,_,_=>by cases h
 |x::r,y::r',h,0,o,ho,ht=>by
  simp only[Uz,Bool.and_eq_true] at h
  simp only[List.getElem?_cons_zero,Option.some.injEq] at ho ⊢
  subst ho
  exact (aa.fq h.1 ht).symm
 |x::r,y::r',h,id+1,o,ho,ht=>by
  simp only[Uz,Bool.and_eq_true] at h
  simp only[List.getElem?_cons_succ] at ho ⊢
  exact YC h.2 id o ho ht
def bp (H H':List aa):Prop:=∀ (id:Nat) (o:aa),H[id]? =some o→o.uC=false→H'[id]? =some o
theorem bp.refl (H:List aa):bp H H:=fun _ _ h _=>h
theorem bp.push (H:List aa) (o:aa):bp H (H++[o]):=fun id o' h _=>by
 have hl:id < H.length:=(List.getElem?_eq_some_iff.1 h).1
 rw[List.getElem?_append_left hl];exact h
theorem bp.rG (H:List aa) (a b:Nat) (c:Bool):bp (H++[.tok a b c]) H:=fun id o h ht=>by
 by_cases hl:id < H.length
 ·rw[List.getElem?_append_left hl] at h;exact h
 ·rw[List.getElem?_append_right (by omega)] at h
  by_cases h0:id - H.length=0
  ·rw[h0] at h;simp at h;subst h;simp[aa.uC] at ht
  ·rw[List.getElem?_eq_none (by simp;omega)] at h;cases h
theorem bp.IP {H:List aa} {id:Nat} {a b:Nat} {c:Bool} (h:H[id]? =some (.tok a b c)) (a' b':Nat) (c':Bool):
 bp H (H.set id (.tok a' b' c'))∧bp (H.set id (.tok a' b' c')) H:=by
 constructor
 ·intro i o hi ht
  by_cases e:id=i
  ·subst e;rw[h] at hi;injection hi with hi;subst hi;simp[aa.uC] at ht
  ·rw[List.getElem?_set_ne e];exact hi
 ·intro i o hi ht
  by_cases e:id=i
  ·subst e
   have hl:id < H.length:=(List.getElem?_eq_some_iff.1 h).1
   rw[List.getElem?_set_self hl] at hi;injection hi with hi;subst hi;simp[aa.uC] at ht
  ·rw[List.getElem?_set_ne e] at hi;exact hi
def Yd.isLit:Yd→Bool
 | .lit=>true
 |_=>false
def Yd.yh:Yd→Bool
 | .own=>true
 |_=>false
def Ec.cls:Ec→Nat
 | .move _ | .pick _ _ _ | .build _ _ | .bin _ _ _ | .un _ _ | .conv _ _ | .pD _ _ | .IS _ _ _ _ | .fR _ _ _ _ _ | .MS _ _ | .ext _ _ | .mx _ | .mn _ | .ZH _ _ | .GR _ _ _ _=>0
 | .load _ _ _ | .KA _ | .az _ _ | .mg _ _ _ | .xu _ _ _ _ | .len _ _ | .eq _ _ _ _ | .slice _ _ _ _ | .GS _ | .Gj _ _ | .lookup _ _ _ _ _=>1
 | .Hb h _ _ _ _ _ | .gQ h _ | .ye h _ _ _ _ _ _=>(if h.isLit then 0 else if h.yh then 3 else 2)
 | .append own h _ _ _ _ _=>(if own then 4 else if h.yh then 4 else 2)
 | .alloc _ | .box _ _ | .vz _ _=>3
 |_=>4
theorem YO {H H':List aa} (h:bp H H'):∀ (d:Nat) (v:AV) (p:PV),Ab H d v=some p→Ab H' d v=some p:=by
 intro d
 induction d with
 |zero=>intro v p hp;cases v <;> simp_all [Ab]
 |succ d ih=>
  have many:∀ (cs:List AV) (ps:List PV),Va (Ab H d) cs=some ps→Va (Ab H' d) cs=some ps:=by
   intro cs
   induction cs with
   |nil=>intro ps h;simpa[Va] using h
   |cons c cs ihc=>
    intro ps h
    simp only[Va,Option.bind_eq_some_iff] at h ⊢
    obtain⟨b,h1,bs,h2,h3⟩:=h
    exact⟨b,ih _ _ h1,bs,ihc _ h2,h3⟩
  intro v p hp
  cases v with
  |pv q=>simpa[Ab] using hp
  |uq=>simpa[Ab] using hp
  |own id len=>
   simp only[Ab] at hp ⊢
   split at hp
   ·rename_i sz ag cells fl nl hid
    rw[h _ _ hid rfl]
    split at hp
    ·rename_i hc
     simp only[if_pos hc]
     cases nl with
     |true=>simpa using hp
     |false=>
      simp only[Bool.false_eq_true,if_false,Option.map_eq_some_iff] at hp ⊢
      obtain⟨ps,h1,h2⟩:=hp
      exact⟨ps,many _ _ h1,h2⟩
    ·cases hp
   ·cases hp
  |ptr id off=>
   simp only[Ab] at hp ⊢
   split at hp
   ·rename_i cells hid
    rw[h _ _ hid rfl]
    simp only[Option.map_eq_some_iff] at hp ⊢
    obtain⟨ps,h1,h2⟩:=hp
    exact⟨ps,many _ _ h1,h2⟩
   ·cases hp
  |agg cs=>
   simp only[Ab,Option.map_eq_some_iff] at hp ⊢
   obtain⟨ps,h1,h2⟩:=hp
   exact⟨ps,many _ _ h1,h2⟩
  |bc cs=>
   simp only[Ab,Option.map_eq_some_iff] at hp ⊢
   obtain⟨ps,h1,h2⟩:=hp
   exact⟨ps,many _ _ h1,h2⟩
  |ic=>simp[Ab] at hp
  |mi=>simp[Ab] at hp
  |mp=>simp[Ab] at hp
  |undef=>simp[Ab] at hp
theorem oL {H H':List aa} (h:bp H H') {d:Nat}:∀ {cs:List AV} {ps:List PV},Va (Ab H d) cs=some ps→Va (Ab H' d) cs=some ps:=by
 intro cs
 induction cs with
 |nil=>intro ps h;simpa[Va] using h
 |cons c cs ihc=>
  intro ps hp
  simp only[Va,Option.bind_eq_some_iff] at hp ⊢
  obtain⟨b,h1,bs,h2,h3⟩:=hp
  exact⟨b,YO h _ _ _ h1,bs,ihc h2,h3⟩
theorem qx {H H':List aa} (h:bp H H') {d:Nat} {x v:AV} (hp:place H d x=some v):place H' d x=some v:=by
 unfold place at hp ⊢
 split at hp
 ·exact hp
 ·split at hp
  ·rename_i hid;rw[h _ _ hid rfl];exact hp
  ·cases hp
 ·split at hp
  ·rename_i hid;rw[h _ _ hid rfl];exact hp
  ·cases hp
 ·cases hp
theorem RM {H H':List aa} (h:bp H H') {ag:Bool} {n:Nat} {x v:AV} (hp:na H ag n x=some v):na H' ag n x=some v:=by
 unfold na at hp ⊢
 split at hp
 ·exact hp
 ·split at hp
  ·rename_i hid;rw[h _ _ hid rfl];exact hp
  ·cases hp
 ·split at hp
  ·rename_i hid;rw[h _ _ hid rfl];exact hp
  ·cases hp
 ·cases hp
theorem qM {H H':List aa} (h:bp H H') {sz:Nat} {x v:AV} {i:Int} (hp:ma H sz x i=some v):ma H' sz x i=some v:=by
 unfold ma at hp ⊢
 split at hp
 ·exact hp
 ·exact hp
 ·split at hp
  ·rename_i hid;rw[h _ _ hid rfl];exact hp
  ·cases hp
 ·cases hp
theorem kP {H H':List aa} (h:bp H H') {k:Nat} {x:AV} {n:Nat} (hp:Mc H k x=some n):Mc H' k x=some n:=by
 unfold Mc at hp ⊢
 split at hp
 ·exact hp
 ·exact hp
 ·exact hp
 ·exact hp
 ·split at hp
  ·rename_i hid;rw[h _ _ hid rfl];exact hp
  ·cases hp
 ·exact hp
 ·split at hp
  ·rename_i hid;rw[h _ _ hid rfl];exact hp
  ·cases hp
 ·cases hp
theorem VQ {H H':List aa} (h:bp H H') {k:Nat} {x y:AV} {b:Bool} (hp:sm H k x y=some b):sm H' k x y=some b:=by
 unfold sm at hp ⊢
 split at hp <;> first
  |exact hp
  | (split at hp
     ·rename_i hid;simp only[h _ _ hid rfl];exact hp
     ·cases hp)
  |cases hp
theorem rN {H H':List aa} (h:bp H H') {x:AV} {b:ByteArray} (hp:iB H x=some b):iB H' x=some b:=by
 unfold iB at hp ⊢
 split at hp <;> first
  |exact hp
  | (split at hp
     ·rename_i hid;rw[h _ _ hid rfl];exact hp
     ·cases hp)
  |cases hp
theorem Lq {H H':List aa} (h:bp H H') {sz:Nat} {x v:AV} {lo hi:Option Int} (hp:Ad H sz x lo hi=some v):Ad H' sz x lo hi=some v:=by
 unfold Ad at hp ⊢
 split at hp <;> first
  |exact hp
  | (split at hp
     ·rename_i hid;rw[h _ _ hid rfl];exact hp
     ·cases hp)
  |cases hp
theorem Vw {H:List aa} {sz:Nat} {ag:Bool} {n:Nat} {cs:List AV} {v:AV} {H':List aa} (h:fresh H .lit sz ag n cs=some (v,H')):
 H'=H∧∀ H2,fresh H2 .lit sz ag n cs=some (v,H2):=by
 simp only[fresh,Option.map_eq_some_iff,Prod.mk.injEq] at h ⊢
 obtain⟨ps,h1,rfl,rfl⟩:=h
 exact⟨rfl,fun H2=>⟨ps,h1,rfl,trivial⟩⟩
theorem wA {H:List aa} {sz:Nat} {ag:Bool} {n:Nat} {cs:List AV} {v:AV} {H':List aa} (h:fresh H .uq sz ag n cs=some (v,H')):
 bp H H'∧bp H' H:=by
 simp only[fresh,Option.map_eq_some_iff,Prod.mk.injEq] at h
 obtain⟨ps,h1,rfl,rfl⟩:=h
 exact⟨bp.push _ _,bp.rG _ _ _ _⟩
theorem Ew {H:List aa} {sz:Nat} {ag:Bool} {n:Nat} {cs:List AV} {v:AV} {H':List aa} (h:fresh H .own sz ag n cs=some (v,H')):
 bp H H':=by
 simp only[fresh,Option.some.injEq,Prod.mk.injEq] at h
 obtain⟨rfl,rfl⟩:=h
 exact bp.push _ _
theorem gT {call:Fa} {e:Tr} {H H':List aa} {op:Ec} {v:AV} (hc:op.cls=0) (h:da call e H op=some (v,H')):
 H'=H∧∀ H2,da call e H2 op=some (v,H2):=by
 have ob:∀ {α:Type} {x:Option α} {f:α→AV},(x.map fun v=>(f v,H))=some (v,H')→H'=H∧∀ H2:List aa,(x.map fun v=>(f v,H2))=some (v,H2):=by
  intro α x f h
  cases x with
  |none=>simp at h
  |some x=>simp at h;exact⟨h.2.symm,fun H2=>by simp[h.1]⟩
 cases op with
 |move x=>simp only[da,Option.some.injEq,Prod.mk.injEq] at h ⊢;exact⟨h.2.symm,fun H2=>⟨h.1,trivial⟩⟩
 |pick c a b=>
  simp only[da,Option.bind_eq_some_iff,Option.some.injEq,Prod.mk.injEq] at h ⊢
  obtain⟨t,h1,h2,h3⟩:=h
  exact⟨h3.symm,fun H2=>⟨t,h1,h2,trivial⟩⟩
 |ZH n x=>
  simp only[da] at h ⊢
  split at h
  ·rename_i h0;simp only[if_pos h0];exact ob h
  ·cases h
 |build z ps=>exact ob h
 |bin o x y=>exact ob h
 |GR kd ne x y=>simp only[da] at h ⊢;split at h <;> first | exact ob h | cases h
 |un o x=>exact ob h
 |conv k x=>exact ob h
 |mx xs=>exact ob h
 |mn xs=>exact ob h
 |pD ix xs=>simp only[da,Option.some.injEq,Prod.mk.injEq] at h ⊢;exact⟨h.2.symm,fun H2=>⟨h.1,trivial⟩⟩
 |IS off ag n x=>simp only[da] at h ⊢;split at h <;> first | exact ob h | cases h
 |ext i x=>simp only[da] at h ⊢;split at h <;> first | exact ob h | cases h
 |fR n sz ag x i=>
  simp only[da] at h ⊢
  cases hi:asInt (i.ev e) with
  |none=>simp[hi] at h
  |some k=>
   simp only[hi,Option.bind_some] at h ⊢
   split at h
   ·rename_i hx;simp only[if_pos hx];split at h <;> first | exact ob h | cases h
   ·cases h
 |MS x i=>
  simp only[da] at h ⊢
  cases hi:asInt (i.ev e) with
  |none=>simp[hi] at h
  |some k=>
   simp only[hi,Option.bind_some] at h ⊢
   split at h
   ·split at h
    ·rename_i h0;simp only[if_pos h0];exact ob h
    ·cases h
   ·cases h
 |Hb hh sz ag len z ps=>
  cases hh with
  |lit=>
   simp only[da] at h ⊢
   cases hf:nm (zi z len) (ps.map fun p=>(p.1 * sz,sz,fj e p.2)) with
   |none=>simp[hf] at h
   |some cs=>
    simp only[hf,Option.bind_some] at h ⊢
    split at h
    ·rename_i h0;simp only[if_pos h0];exact Vw h
    ·cases h
  |uq=>simp[Ec.cls,Yd.isLit,Yd.yh] at hc
  |own=>simp[Ec.cls,Yd.isLit,Yd.yh] at hc
 |gQ hh x=>
  cases hh with
  |lit=>
   simp only[da] at h ⊢
   split at h
   ·exact Vw h
   ·cases h
  |uq=>simp[Ec.cls,Yd.isLit,Yd.yh] at hc
  |own=>simp[Ec.cls,Yd.isLit,Yd.yh] at hc
 |ye hh sz ag z b l c=>
  cases hh with
  |lit=>
   simp only[da] at h ⊢
   cases hl:asInt (l.ev e) with
   |none=>simp[hl] at h
   |some l=>
    cases hcc:asInt (c.ev e) with
    |none=>simp[hl,hcc] at h
    |some c=>
     simp only[hl,hcc,Option.bind_some] at h ⊢
     split at h
     ·rename_i h0;simp only[if_pos h0];exact Vw h
     ·cases h
  |uq=>simp[Ec.cls,Yd.isLit,Yd.yh] at hc
  |own=>simp[Ec.cls,Yd.isLit,Yd.yh] at hc
 |append o hh _ _ _ _ _=>exfalso;simp only[Ec.cls] at hc;split at hc <;> first | cases hc | (split at hc <;> cases hc)
 |_=>simp[Ec.cls] at hc
theorem wP {call:Fa} {e:Tr} {H H':List aa} {op:Ec} {v:AV} (hc:op.cls=1) (h:da call e H op=some (v,H')):
 H'=H∧∀ H2,bp H H2→da call e H2 op=some (v,H2):=by
 have ob:∀ {α:Type} {g:List aa→Option α} {f:α→AV},((g H).map fun v=>(f v,H))=some (v,H')→(∀ H2 a,bp H H2→g H=some a→g H2=some a)→
  H'=H∧∀ H2:List aa,bp H H2→((g H2).map fun v=>(f v,H2))=some (v,H2):=by
  intro α g f h hg
  cases hx:g H with
  |none=>simp[hx] at h
  |some x=>simp[hx] at h;exact⟨h.2.symm,fun H2 ha=>by simp[hg H2 x ha hx,h.1]⟩
 cases op with
 |load ag n x=>exact ob (g:=fun H=>na H ag n (x.ev e)) h fun H2 a ha hp=>RM ha hp
 |az off x=>exact ob (g:=fun H=>place H off (x.ev e)) h fun H2 a ha hp=>qx ha hp
 |len k x=>exact ob (g:=fun H=>Mc H k (x.ev e)) h fun H2 a ha hp=>kP ha hp
 |GS x=>exact ob (g:=fun H=>iB H (x.ev e)) h fun H2 a ha hp=>rN ha hp
 |eq k ne x y=>exact ob (g:=fun H=>sm H k (x.ev e) (y.ev e)) h fun H2 a ha hp=>VQ ha hp
 |KA x=>
  simp only[da] at h ⊢
  split at h
  ·simp only[Option.some.injEq,Prod.mk.injEq] at h ⊢;exact⟨h.2.symm,fun H2 _=>⟨h.1,trivial⟩⟩
  ·exact ob (g:=fun H=>place H 0 (x.ev e)) h fun H2 a ha hp=>qx ha hp
 |mg sz x i=>
  simp only[da] at h ⊢
  cases hi:asInt (i.ev e) with
  |none=>simp[hi] at h
  |some k=>
   simp only[hi,Option.bind_some] at h ⊢
   exact ob (g:=fun H=>ma H sz (x.ev e) k.2) h fun H2 a ha hp=>qM ha hp
 |xu n sz x i=>
  simp only[da] at h ⊢
  cases hi:asInt (i.ev e) with
  |none=>simp[hi] at h
  |some k=>
   simp only[hi,Option.bind_some] at h ⊢
   split at h
   ·rename_i h0
    simp only[if_pos h0]
    exact ob (g:=fun H=>place H (k.2.toNat * sz) (x.ev e)) h fun H2 a ha hp=>qx ha hp
   ·cases h
 |slice sz x lo hi=>
  cases lo with
  |none=>
   cases hi with
   |none=>exact ob (g:=fun H=>Ad H sz (x.ev e) none none) h fun H2 a ha hp=>Lq ha hp
   |some hi=>
    simp only[da] at h ⊢
    cases hh:asInt (hi.ev e) with
    |none=>simp[hh] at h
    |some k=>
     simp only[hh,Option.bind_some] at h ⊢
     exact ob (g:=fun H=>Ad H sz (x.ev e) none (some k.2)) h fun H2 a ha hp=>Lq ha hp
  |some lo=>
   cases hi with
   |none=>
    simp only[da] at h ⊢
    cases hh:asInt (lo.ev e) with
    |none=>simp[hh] at h
    |some k=>
     simp only[hh,Option.bind_some] at h ⊢
     exact ob (g:=fun H=>Ad H sz (x.ev e) (some k.2) none) h fun H2 a ha hp=>Lq ha hp
   |some hi=>
    simp only[da] at h ⊢
    cases hl:asInt (lo.ev e) with
    |none=>simp[hl] at h
    |some l=>
     cases hh:asInt (hi.ev e) with
     |none=>simp[hl,hh] at h
     |some k=>
      simp only[hl,hh,Option.bind_some] at h ⊢
      exact ob (g:=fun H=>Ad H sz (x.ev e) (some l.2) (some k.2)) h fun H2 a ha hp=>Lq ha hp
 |lookup kd z ok m k=>
  simp only[da] at h ⊢
  split at h
  ·split at h
   ·rename_i h0
    simp only[Option.some.injEq,Prod.mk.injEq] at h
    exact⟨h.2.symm,fun H2 _=>by rw[if_pos h0,h.1]⟩
   ·cases h
  ·rename_i id k' _ _
   split at h
   ·rename_i es hid
    split at h
    ·rename_i h0
     simp only[Option.map_eq_some_iff] at h
     obtain⟨r,h1,h2⟩:=h
     cases r with
     |none=>
      simp only[Prod.mk.injEq] at h2
      exact⟨h2.2.symm,fun H2 ha=>by rw[ha _ _ hid rfl];simp only[if_pos h0,h1,Option.map_some,h2.1]⟩
     |some r=>
      simp only[Prod.mk.injEq] at h2
      exact⟨h2.2.symm,fun H2 ha=>by rw[ha _ _ hid rfl];simp only[if_pos h0,h1,Option.map_some,h2.1]⟩
    ·cases h
   ·cases h
  ·cases h
 |Gj F xs=>
  simp only[da,Option.bind_eq_some_iff] at h ⊢
  obtain⟨ps,h1,r,h2,h3⟩:=h
  split at h3
  ·rename_i h5
   simp only[Option.some.injEq,Prod.mk.injEq] at h3
   obtain⟨h3,h4⟩:=h3
   exact⟨h4.symm,fun H2 ha=>⟨ps,oL ha h1,r,h2,by rw[if_pos h5,h3]⟩⟩
  ·cases h3
 |Hb hh _ _ _ _ _=>cases hh <;> simp[Ec.cls,Yd.isLit,Yd.yh] at hc
 |gQ hh _=>cases hh <;> simp[Ec.cls,Yd.isLit,Yd.yh] at hc
 |ye hh _ _ _ _ _ _=>cases hh <;> simp[Ec.cls,Yd.isLit,Yd.yh] at hc
 |append o hh _ _ _ _ _=>cases o <;> cases hh <;> simp[Ec.cls,Yd.yh] at hc
 |_=>simp[Ec.cls] at hc
theorem bT {call:Fa} {e:Tr} {H H':List aa} {op:Ec} {v:AV} (hc:op.cls=2) (h:da call e H op=some (v,H')):bp H H'∧bp H' H:=by
 cases op with
 |Hb hh sz ag len z ps=>
  cases hh with
  |uq=>
   simp only[da] at h
   cases hf:nm (zi z len) (ps.map fun p=>(p.1 * sz,sz,fj e p.2)) with
   |none=>simp[hf] at h
   |some cs=>
    simp only[hf,Option.bind_some] at h
    split at h
    ·exact wA h
    ·cases h
  |lit=>simp[Ec.cls,Yd.isLit,Yd.yh] at hc
  |own=>simp[Ec.cls,Yd.isLit,Yd.yh] at hc
 |gQ hh x=>
  cases hh with
  |uq=>
   simp only[da] at h
   split at h
   ·exact wA h
   ·cases h
  |lit=>simp[Ec.cls,Yd.isLit,Yd.yh] at hc
  |own=>simp[Ec.cls,Yd.isLit,Yd.yh] at hc
 |ye hh sz ag z b l c=>
  cases hh with
  |uq=>
   simp only[da] at h
   cases hl:asInt (l.ev e) with
   |none=>simp[hl] at h
   |some l=>
    cases hcc:asInt (c.ev e) with
    |none=>simp[hl,hcc] at h
    |some c=>
     simp only[hl,hcc,Option.bind_some] at h
     split at h
     ·exact wA h
     ·cases h
  |lit=>simp[Ec.cls,Yd.isLit,Yd.yh] at hc
  |own=>simp[Ec.cls,Yd.isLit,Yd.yh] at hc
 |append o hh sz ag b s x=>
  cases o with
  |true=>simp[Ec.cls] at hc
  |false=>
   simp only[da,Hc,Bool.false_eq_true,if_false] at h
   split at h
   ·split at h
    ·rename_i hid
     simp only[Option.bind_eq_some_iff] at h
     obtain⟨ys,h1,h2⟩:=h
     split at h2
     ·simp only[Option.some.injEq,Prod.mk.injEq] at h2
      obtain⟨_,rfl⟩:=h2
      exact bp.IP hid _ _ _
     ·cases h2
    ·cases h
   ·simp only[Option.bind_eq_some_iff] at h
    obtain⟨ys,h1,h2⟩:=h
    split at h2
    ·unfold bm at h2
     split at h2
     ·simp only[Option.some.injEq,Prod.mk.injEq] at h2
      obtain⟨_,rfl⟩:=h2
      exact⟨bp.refl _,bp.refl _⟩
     ·split at h2
      ·simp only[Option.some.injEq,Prod.mk.injEq] at h2
       obtain⟨_,rfl⟩:=h2
       exact⟨bp.refl _,bp.refl _⟩
      ·simp only[Option.some.injEq,Prod.mk.injEq] at h2
       obtain⟨_,rfl⟩:=h2
       exact⟨bp.push _ _,bp.rG _ _ _ _⟩
      ·cases h2
    ·cases h2
   ·cases h
 |_=>simp[Ec.cls] at hc
theorem FT {call:Fa} {e:Tr} {H H':List aa} {op:Ec} {v:AV} (hc:op.cls=3) (h:da call e H op=some (v,H')):bp H H':=by
 cases op with
 |alloc z=>simp only[da,Option.some.injEq,Prod.mk.injEq] at h;obtain⟨_,rfl⟩:=h;exact bp.push _ _
 |box n x=>
  simp only[da] at h
  split at h
  ·simp only[Option.some.injEq,Prod.mk.injEq] at h;obtain⟨_,rfl⟩:=h;exact bp.push _ _
  ·cases h
 |Hb hh sz ag len z ps=>
  cases hh with
  |own=>
   simp only[da] at h
   cases hf:nm (zi z len) (ps.map fun p=>(p.1 * sz,sz,fj e p.2)) with
   |none=>simp[hf] at h
   |some cs=>
    simp only[hf,Option.bind_some] at h
    split at h
    ·exact Ew h
    ·cases h
  |lit=>simp[Ec.cls,Yd.isLit,Yd.yh] at hc
  |uq=>simp[Ec.cls,Yd.isLit,Yd.yh] at hc
 |gQ hh x=>
  cases hh with
  |own=>
   simp only[da] at h
   split at h
   ·exact Ew h
   ·cases h
  |lit=>simp[Ec.cls,Yd.isLit,Yd.yh] at hc
  |uq=>simp[Ec.cls,Yd.isLit,Yd.yh] at hc
 |ye hh sz ag z b l c=>
  cases hh with
  |own=>
   simp only[da] at h
   cases hl:asInt (l.ev e) with
   |none=>simp[hl] at h
   |some l=>
    cases hcc:asInt (c.ev e) with
    |none=>simp[hl,hcc] at h
    |some c=>
     simp only[hl,hcc,Option.bind_some] at h
     split at h
     ·exact Ew h
     ·cases h
  |lit=>simp[Ec.cls,Yd.isLit,Yd.yh] at hc
  |uq=>simp[Ec.cls,Yd.isLit,Yd.yh] at hc
 |append o hh _ _ _ _ _=>cases o <;> cases hh <;> simp[Ec.cls,Yd.yh] at hc
 |vz ix xs=>
  simp only[da,Option.bind_eq_some_iff] at h
  obtain⟨r,_,h⟩:=h
  split at h
  ·next hs=>
   injection h with h
   subst h
   exact YC hs
  ·cases h
 |_=>simp[Ec.cls] at hc
def NO (x y:Nat):Bool:=x==0||y==0||(x==1&&decide (y≤3))||(x==2&&y==1)
def Oa.cls (o:Oa):Nat:=if o.pr then 0 else o.op.cls
theorem Ir {call:Fa} {e e':Tr} {H:List aa} {o:Oa} (h:nT (fun n=>o.op.look n) e e'):zh call e H o=zh call e' H o:=by
 unfold zh
 rw[mv h,mv (H:=H) h]
theorem YF {H:List aa} {r:Option (AV×List aa)} {v:AV} {H':List aa} (h:AR H r=some (v,H')):r=some (v,[])∧H'=H:=by
 unfold AR at h
 split at h
 ·simp only[Option.some.injEq,Prod.mk.injEq] at h
  obtain⟨rfl,rfl⟩:=h
  exact⟨rfl,rfl⟩
 ·cases h
theorem cO {call:Fa} {e:Tr} {H H':List aa} {o:Oa} {v:AV} (hc:o.cls=0) (h:zh call e H o=some (v,H')):H'=H∧∀ H2,zh call e H2 o=some (v,H2):=by
 unfold zh Oa.cls at *
 cases hp:o.pr with
 |true=>
  simp only[hp,cond_true] at h ⊢
  obtain⟨h1,rfl⟩:=YF h
  exact⟨rfl,fun H2=>by rw[h1];rfl⟩
 |false=>simp only[hp,cond_false,Bool.false_eq_true,if_false] at h hc ⊢;exact gT hc h
theorem xQ {call:Fa} {e:Tr} {H:List aa} {o:Oa} (hc:o.cls≠0):zh call e H o=da call e H o.op∧o.cls=o.op.cls:=by
 unfold zh Oa.cls at *
 cases hp:o.pr with
 |true=>simp[hp] at hc
 |false=>simp
theorem mN {call:Fa} {e:Tr} {H H1 H2:List aa} {x y:Oa} {v1 v2:AV} (hc:NO x.cls y.cls=true)
 (h1:zh call e H x=some (v1,H1)) (h2:zh call e H1 y=some (v2,H2)):
 ∃ H3,zh call e H y=some (v2,H3)∧zh call e H3 x=some (v1,H2):=by
 simp only[NO,Bool.or_eq_true,beq_iff_eq,Bool.and_eq_true,decide_eq_true_eq] at hc
 rcases hc with ((hx | hy) | ⟨hx,hy⟩) | ⟨hx,hy⟩
 ·obtain⟨rfl,h⟩:=cO hx h1
  exact⟨H2,h2,h H2⟩
 ·obtain⟨rfl,h⟩:=cO hy h2
  exact⟨H,h H,h1⟩
 ·have kx:=fun H=>xQ (call:=call) (e:=e) (H:=H) (o:=x) (by omega)
  rw[(kx H).1] at h1
  rw[(kx H).2] at hx
  obtain⟨rfl,h⟩:=wP hx h1
  refine⟨H2,h2,?_⟩
  rw[(kx H2).1]
  refine h H2 ?_
  by_cases hy0:y.cls=0
  ·rw[(cO hy0 h2).1];exact bp.refl _
  ·have ky:=xQ (call:=call) (e:=e) (H:=H1) hy0
   rw[ky.1] at h2
   rw[ky.2] at hy hy0
   have:y.op.cls=1∨y.op.cls=2∨y.op.cls=3:=by omega
   rcases this with hy | hy | hy
   ·rw[(wP hy h2).1];exact bp.refl _
   ·exact (bT hy h2).1
   ·exact FT hy h2
 ·have kx:=fun H=>xQ (call:=call) (e:=e) (H:=H) (o:=x) (by omega)
  have ky:=fun H=>xQ (call:=call) (e:=e) (H:=H) (o:=y) (by omega)
  rw[(kx H).1] at h1
  rw[(kx H).2] at hx
  rw[(ky H1).1] at h2
  rw[(ky H).2] at hy
  obtain⟨rfl,h⟩:=wP hy h2
  exact⟨H,by rw[(ky H).1];exact h H (bT hx h1).2,by rw[(kx H).1];exact h1⟩
end Go.AM
set_option linter.unusedSimpArgs false
set_option linter.unusedVariables false
namespace Go.AM
open Go.RowKit
def gC (s s':St):Prop:=s.H=s'.H∧∀ t,s.env.get t=s'.env.get t
theorem gC.refl (s:St):gC s s:=⟨rfl,fun _=>rfl⟩
theorem gC.symm {s s':St} (h:gC s s'):gC s' s:=⟨h.1.symm,fun t=>(h.2 t).symm⟩
theorem gC.trans {s s' s'':St} (h:gC s s') (k:gC s' s''):gC s s'':=⟨h.1.trans k.1,fun t=>(h.2 t).trans (k.2 t)⟩
def Oa.look (n:Nat) (o:Oa):Bool:=o.op.look n||(match o.guard with | some (t,_)=>n==t | none=>false)
def nw (d:Option Nat) (p:Nat→Bool):Bool:=
 match d with
 |some d=>p d
 |none=>false
def WB (x y:Oa):Bool:=
 !nw x.dst (fun d=>y.look d)&& !nw y.dst (fun d=>x.look d)&& !nw x.dst (fun d=>y.dst==some d)&&NO x.cls y.cls
theorem xo {e e':Tr} {g:Option (Nat×Bool)} (h:∀ t b,g=some (t,b)→e.get t=e'.get t):Se e g=Se e' g:=by
 cases g with
 |none=>rfl
 |some g=>obtain⟨t,b⟩:=g;simp only[Se,h t b rfl]
theorem Ur (e:Tr) (d:Option Nat) (v:AV) (t:Nat):(cm e d v).get t=if d=some t then v else e.get t:=by
 cases d with
 |none=>simp[cm]
 |some d=>
  simp only[cm,Tr.ba,Option.some.injEq]
  by_cases h:t=d
  ·subst h;simp
  ·simp[h,Ne.symm h]
theorem eA {call:Fa} {o:Oa} {e e':Tr} {H:List aa} (h:∀ n,o.look n=true→e.get n=e'.get n) {s1:St} (h1:Nc call o ⟨e,H⟩=some s1):
 ∃ v,s1.env=cm e o.dst v∧Nc call o ⟨e',H⟩=some ⟨cm e' o.dst v,s1.H⟩:=by
 have hw:Se e o.guard=Se e' o.guard:=xo fun t b hg=>h t (by simp[Oa.look,hg])
 have ho:zh call e H o=zh call e' H o:=Ir fun n hn=>h n (by simp[Oa.look,hn])
 unfold Nc at h1 ⊢
 simp only at h1 ⊢
 rw[← hw]
 cases hc:Se e o.guard with
 |none=>simp[hc,Uj] at h1
 |some b=>
  cases b with
  |true=>
   simp only[hc,Uj,CI] at h1 ⊢
   rw[← ho]
   cases hv:zh call e H o with
   |none=>simp[hv,Yw] at h1
   |some r=>
    obtain⟨v,H'⟩:=r
    simp only[hv,Yw,Option.some.injEq] at h1 ⊢
    subst h1
    exact⟨v,rfl,rfl⟩
  |false=>
   simp only[hc,Uj,zu,Option.some.injEq] at h1 ⊢
   subst h1
   exact⟨_,rfl,rfl⟩
theorem pE {call:Fa} {o:Oa} {s s' s1:St} (he:gC s s') (h:Nc call o s=some s1):∃ s1',Nc call o s'=some s1'∧gC s1 s1':=by
 obtain⟨e,H⟩:=s
 obtain⟨e',H'⟩:=s'
 obtain⟨h1,h2⟩:=he
 simp only at h1 h2
 subst h1
 obtain⟨v,hv,hh⟩:=eA (e':=e') (fun n _=>h2 n) h
 refine⟨_,hh,rfl,fun t=> ?_⟩
 simp only[hv,Ur,h2]
theorem TE {call:Fa} {os:List Oa}:∀ {s s' s1:St},gC s s'→Pd call os s=some s1→∃ s1',Pd call os s'=some s1'∧gC s1 s1':=by
 induction os with
 |nil=>intro s s' s1 he h;simp only[Pd,Option.some.injEq] at h ⊢;subst h;exact⟨s',rfl,he⟩
 |cons o os ih=>
  intro s s' s1 he h
  simp only[Pd] at h ⊢
  cases ho:Nc call o s with
  |none=>simp[ho,On] at h
  |some s2=>
   simp only[ho,On] at h
   obtain⟨s2',h2,e2⟩:=pE he ho
   obtain⟨s1',h3,e3⟩:=ih e2 h
   exact⟨s1',by simp[h2,On,h3],e3⟩
theorem wm {call:Fa} {o:Oa} {e:Tr} {H:List aa} {s1:St} (h:Nc call o ⟨e,H⟩=some s1):
 (Se e o.guard=some true∧∃ v,zh call e H o=some (v,s1.H)∧s1.env=cm e o.dst v)∨
 (Se e o.guard=some false∧s1=⟨cm e o.dst (.pv (.bc [])),H⟩):=by
 unfold Nc at h
 simp only at h
 cases hc:Se e o.guard with
 |none=>simp[hc,Uj] at h
 |some b=>
  cases b with
  |true=>
   simp only[hc,Uj,CI] at h
   cases hv:zh call e H o with
   |none=>simp[hv,Yw] at h
   |some r=>
    obtain⟨v,H'⟩:=r
    simp only[hv,Yw,Option.some.injEq] at h
    subst h
    exact .inl ⟨rfl,v,by simp,rfl⟩
  |false=>
   simp only[hc,Uj,zu,Option.some.injEq] at h
   exact .inr ⟨rfl,h.symm⟩
theorem Vn {call:Fa} {o:Oa} {e:Tr} {H H':List aa} {v:AV} (h:Se e o.guard=some true) (hv:zh call e H o=some (v,H')):
 Nc call o ⟨e,H⟩=some ⟨cm e o.dst v,H'⟩:=by
 simp[Nc,h,Uj,CI,hv,Yw]
theorem Yk {call:Fa} {o:Oa} {e:Tr} {H:List aa} (h:Se e o.guard=some false):
 Nc call o ⟨e,H⟩=some ⟨cm e o.dst (.pv (.bc [])),H⟩:=by
 simp[Nc,h,Uj,zu]
theorem Jv {e:Tr} {x y:Option Nat} {v u:AV} (h:∀ d,x=some d→y≠some d) (t:Nat):(cm (cm e x v) y u).get t=(cm (cm e y u) x v).get t:=by
 simp only[Ur]
 by_cases hx:x=some t
 ·have:=h t hx
  simp[hx,this]
 ·simp[hx]
theorem tL {call:Fa} {x y:Oa} {s s1 s2:St} (hc:WB x y=true) (h1:Nc call x s=some s1) (h2:Nc call y s1=some s2):
 ∃ s3 s4,Nc call y s=some s3∧Nc call x s3=some s4∧gC s2 s4:=by
 obtain⟨e,H⟩:=s
 simp only[WB,Bool.and_eq_true,Bool.not_eq_true'] at hc
 obtain⟨⟨⟨ca,cb⟩,cc⟩,cd⟩:=hc
 have ha:∀ d,x.dst=some d→y.look d=false:=fun d hd=>by simpa[nw,hd] using ca
 have hb:∀ d,y.dst=some d→x.look d=false:=fun d hd=>by simpa[nw,hd] using cb
 have hcc:∀ d,x.dst=some d→y.dst≠some d:=fun d hd he=>by simp[nw,hd,he] at cc
 have lx:∀ (e:Tr) (u:AV) n,x.look n=true→(cm e y.dst u).get n=e.get n:=fun e u n hn=>by
  rw[Ur]
  by_cases hd:y.dst=some n
  ·rw[hb n hd] at hn;cases hn
  ·simp[hd]
 have ly:∀ (e:Tr) (u:AV) n,y.look n=true→(cm e x.dst u).get n=e.get n:=fun e u n hn=>by
  rw[Ur]
  by_cases hd:x.dst=some n
  ·rw[ha n hd] at hn;cases hn
  ·simp[hd]
 have wx:∀ (e:Tr) u,Se (cm e y.dst u) x.guard=Se e x.guard:=fun e u=>xo fun t b hg=>lx e u t (by simp[Oa.look,hg])
 have wy:∀ (e:Tr) u,Se (cm e x.dst u) y.guard=Se e y.guard:=fun e u=>xo fun t b hg=>ly e u t (by simp[Oa.look,hg])
 have ox:∀ (e:Tr) u H,zh call (cm e y.dst u) H x=zh call e H x:=fun e u H=>Ir fun n hn=>lx e u n (by simp[Oa.look,hn])
 have oy:∀ (e:Tr) u H,zh call (cm e x.dst u) H y=zh call e H y:=fun e u H=>Ir fun n hn=>ly e u n (by simp[Oa.look,hn])
 obtain⟨e1,H1⟩:=s1
 obtain⟨e2,H2⟩:=s2
 rcases wm h1 with⟨g1,v1,q1,r1⟩ | ⟨g1,r1⟩
 ·simp only at q1 r1
  subst r1
  rcases wm h2 with⟨g2,v2,q2,r2⟩ | ⟨g2,r2⟩
  ·simp only at q2 r2
   subst r2
   rw[wy] at g2
   rw[oy] at q2
   obtain⟨H3,k1,k2⟩:=mN cd q1 q2
   exact⟨_,_,Vn g2 k1,Vn (by rw[wx];exact g1) (by rw[ox];exact k2),rfl,fun t=>Jv hcc t⟩
  ·injection r2 with r2 r3
   subst r2 r3
   rw[wy] at g2
   exact⟨_,_,Yk g2,Vn (by rw[wx];exact g1) (by rw[ox];exact q1),rfl,fun t=>Jv hcc t⟩
 ·injection r1 with r1 r3
  subst r1 r3
  rcases wm h2 with⟨g2,v2,q2,r2⟩ | ⟨g2,r2⟩
  ·simp only at q2 r2
   subst r2
   rw[wy] at g2
   rw[oy] at q2
   exact⟨_,_,Vn g2 q2,Yk (by rw[wx];exact g1),rfl,fun t=>Jv hcc t⟩
  ·injection r2 with r2 r3
   subst r2 r3
   rw[wy] at g2
   exact⟨_,_,Yk g2,Yk (by rw[wx];exact g1),rfl,fun t=>Jv hcc t⟩
theorem UR {call:Fa} {y:Oa} {rest:List Oa}:∀ {pre:List Oa} {s s':St},(∀ x∈pre,WB x y=true)→Pd call (pre++y::rest) s=some s'→
 ∃ s1 s'',Nc call y s=some s1∧Pd call (pre++rest) s1=some s''∧gC s' s'':=by
 intro pre
 induction pre with
 |nil=>
  intro s s' _ h
  simp only[List.nil_append,Pd] at h ⊢
  cases ho:Nc call y s with
  |none=>simp[ho,On] at h
  |some s1=>simp only[ho,On] at h;exact⟨s1,s',rfl,h,gC.refl _⟩
 |cons x pre ih=>
  intro s s' hc h
  simp only[List.cons_append,Pd] at h ⊢
  cases ho:Nc call x s with
  |none=>simp[ho,On] at h
  |some s1=>
   simp only[ho,On] at h
   obtain⟨s2,s'',k1,k2,k3⟩:=ih (fun z hz=>hc z (by simp[hz])) h
   obtain⟨s3,s4,j1,j2,j3⟩:=tL (hc x (by simp)) ho k1
   obtain⟨s5,i1,i2⟩:=TE j3 k2
   exact⟨s3,s5,j1,by simp[j2,On,i1],k3.trans i2⟩
def mark (D:Nat):Deferred:={target:= .collected D,args:= #[]}
def Marks (w w':World) (a a':Act):Prop:=∃ Ds:List Nat,a'.defers=Ds.map mark++a.defers∧Ds.Nodup∧∀ D∈Ds,w.heap.size≤D∧w'.heap[D]? =some (.deferred (some []))
theorem Marks.same {w w':World} {a a':Act} (h:a'.defers=a.defers):Marks w w' a a':=⟨[],h,.nil,fun _ h=>by cases h⟩
theorem Marks.trans {B0:se} {w w' w'':World} {a a' a'':Act} (h:Marks w w' a a') (k:Marks w' w'' a' a'') (hb:Ve B0 w' w'') (hs:w.heap.size≤w'.heap.size):Marks w w'' a a'':=by
 obtain⟨D1,e1,n1,k1⟩:=h
 obtain⟨D2,e2,n2,k2⟩:=k
 refine⟨D2++D1,by rw[e2,e1];simp,List.nodup_append.2 ⟨n2,n1,fun x hx y hy e=> ?_⟩,fun D hD=> ?_⟩
 ·subst e
  have:=nj (k1 x hy).2
  have:=(k2 x hx).1
  omega
 ·rcases List.mem_append.1 hD with h | h
  ·exact⟨Nat.le_trans hs (k2 D h).1,(k2 D h).2⟩
  ·exact⟨(k1 D h).1,hb.Wc _ _ (k1 D h).2 rfl⟩
def QB:Option Nat→Fence
 |none=>Fence.wide
 |some l=>Fence.wide.inRound l
theorem eO (ro:Option Nat) (f:FuncId):(QB ro).fn f:=by cases ro <;> trivial
theorem MB (ro:Option Nat):(QB ro).depth=none:=by cases ro <;> rfl
theorem tH {P:Program} {n:Nat} {f:FuncId} {args:Array Value} {w:World} {R:Ending→World→Prop} (ro:Option Nat) (h:Calls P f args w R):CallsIn (QB ro) n P f args w R:=by
 cases ro with
 |none=>exact callsIn_wide.2 h
 |some l=>exact (callsIn_wide (n:=n)).2 h
theorem GM {P:Program} {n:Nat} {row:String} {args:Array Value} {w:World} {R:Value→World→Prop} (ro:Option Nat) (h:Rows P row args w R):RowsIn (QB ro) n P row args w R:=by
 have:RowsIn Fence.wide n P row args w R:=fun c cs _=>let ⟨v,w',r,s⟩:=h c cs;⟨v,w',r,stepsIn_wide.2 s⟩
 cases ro with
 |none=>exact this
 |some l=>exact this
theorem vA {P:Program} {n:Nat} {o:Oper} {a:Act} {w:World} {next:Act→World→Prop} {Q:Exit→Act→World→Prop} (ro:Option Nat) (hd:∀ c,o.op≠ .defer c) (h:o.wp P a w next Q):o.wpIn (QB ro) n P a w next Q:=by
 refine⟨fun f _=>eO ro f,?_⟩
 rw[Oper.semAt_eq _ _ _ hd]
 unfold Oper.wp at h
 generalize (execOp a.eval o).run P w=r at h ⊢
 cases r with
 |ok x w'=>
  cases x <;> simp only[Oper.upon,Oper.uponIn] at h ⊢ <;> first
   |exact h
   |exact⟨fun hx=>by (rw[MB] at hx;cases hx),tH ro h⟩
   |exact⟨fun hx=>by (rw[MB] at hx;cases hx),GM ro h⟩
   |exact h.elim
 |halt x w'=>cases x <;> simp only[Oper.upon,Oper.uponIn] at h ⊢ <;> exact h
structure Lj (fo:Nat→FuncId) (B0:se) (w:World) (R:Rd) (φ:Pl) (H:List aa) (a:Act) (w':World) (R':Rd) (φ':Pl) (s':St) (a':Act):Prop where
 rel:Kb fo B0 w' R' φ' s'.H
 env:og fo (K R' φ' s'.H) s'.env a'
 mono:∀ x u,K R φ H x u→K R' φ' s'.H x u
 below:Ve B0 w w'
 size:a'.tmps.size=a.tmps.size
 defers:Marks w w' a a'
section
variable {P:Program} {fo:Nat→FuncId} {B0:se} {call:Fa}
theorem Lj.refl {w:World} {R:Rd} {φ:Pl} {s:St} {a:Act} (hS:Kb fo B0 w R φ s.H) (hE:og fo (K R φ s.H) s.env a):Lj fo B0 w R φ s.H a w R φ s a:=
 ⟨hS,hE,fun _ _ h=>h,Ve.refl _ _,rfl,.same rfl⟩
theorem Lj.trans {w w' w'':World} {R R' R'':Rd} {φ φ' φ'':Pl} {H:List aa} {s' s'':St} {a a' a'':Act}
 (h:Lj fo B0 w R φ H a w' R' φ' s' a') (k:Lj fo B0 w' R' φ' s'.H a' w'' R'' φ'' s'' a''):Lj fo B0 w R φ H a w'' R'' φ'' s'' a'':=
 ⟨k.rel,k.env,fun x u hx=>k.mono _ _ (h.mono _ _ hx),h.below.trans k.below,k.size.trans h.size,h.defers.trans k.defers k.below h.below.size⟩
theorem Lj.eqv {w w':World} {R R':Rd} {φ φ':Pl} {H:List aa} {s' s'':St} {a a':Act} (h:Lj fo B0 w R φ H a w' R' φ' s' a') (he:gC s' s''):Lj fo B0 w R φ H a w' R' φ' s'' a':=by
 obtain⟨e1,e2⟩:=he
 exact⟨e1 ▸ h.rel,fun t=>by rw[← e2,←e1];exact h.env t,e1 ▸ h.mono,h.below,h.size,h.defers⟩
theorem Kb.drew {w w':World} {R:Rd} {φ:Pl} {H:List aa} (h:Kb fo B0 w R φ H) (hw:w'.heap=w.heap):Kb fo B0 w' R φ H:=by
 have hb:∀ b arr,Xt w b arr→Xt w' b arr:=fun b arr hb=>hb.Wc (by rw[hw])
 refine⟨by rw[hw];exact h.low,fun b o v hv=>by rw[← h.sub b o v hv];simp[World.cell?,hw],fun id o ho=> ?_,h.inj,h.ml,fun k hk=>by rw[hw];exact h.slt k hk,h.free⟩
 have:=h.obj id o ho
 cases o with
 |box cells=>exact⟨this.1,this.2.1,this.2.2.1,this.2.2.2.imp fun arr q=>⟨hb _ _ q.1,q.2⟩⟩
 |seq sz ag cells fl nl=>exact⟨this.1,this.2.1,this.2.2.1,this.2.2.2.1,fun e=>⟨(this.2.2.2.2 e).1,(this.2.2.2.2 e).2.1,(this.2.2.2.2 e).2.2.imp fun arr q=>⟨hb _ _ q.1,q.2⟩⟩⟩
 |tok sz n nl=>exact⟨this.1,this.2.1,fun e=>⟨(this.2.2 e).1,(this.2.2 e).2.1,(this.2.2 e).2.2.imp fun arr q=>⟨hb _ _ q.1,q.2⟩⟩⟩
 |map es=>
  obtain⟨h1,h2,ents,clk,h3,h4⟩:=this
  exact⟨h1,h2,ents,clk,by rw[hw];exact h3,h4⟩
 |dead=>trivial
theorem og.put {k:AV→Value→Prop} {e:Tr} {a:Act} (h:og fo k e a) (d:Option Nat) (hd:∀ t,d=some t→t < a.tmps.size) {v:AV} {u:Value} (hv:Yb fo k v u):
 og fo k (cm e d v) (a.put d u):=by
 intro t
 rw[Ur]
 cases d with
 |none=>simp only[reduceCtorEq,if_false];exact h t
 |some d=>
  by_cases ht:d=t
  ·subst ht
   simp only[if_true,Act.put]
   rw[Array.getD_eq_getD_getElem?,Array.getElem?_setIfInBounds_self_of_lt (hd d rfl)]
   exact hv
  ·simp only[Option.some.injEq,ht,if_false,Act.put]
   rw[Array.getD_eq_getD_getElem?,Array.getElem?_setIfInBounds_ne ht,←Array.getD_eq_getD_getElem?]
   exact h t
def Lu (nt:Nat) (ops:Array Oper) (o:Oper) (ao:Oa):Bool:=
 o.dst==ao.dst&&(match o.dst with | some d=>decide (d < nt) | none=>true)&&
 (match o.guard,ao.guard with
 |none,none=>true
 |some (g,want),some (t,want')=>want==want'&&((ops[g]?).bind (·.dst))==some t
 |_,_=>false)
def pS (P:Program) (fo:Nat→FuncId) (B0:se) (call:Fa) (o:Oper) (ao:Oa):Prop:=
 ∀ (w:World) (R:Rd) (φ:Pl) (e:Tr) (H H':List aa) (a:Act) (v:AV),Kb fo B0 w R φ H→og fo (K R φ H) e a→zh call e H ao=some (v,H')→zv P fo B0 o a w R φ H v H'
theorem RC {nt:Nat} {ops:Array Oper} {o:Oper} {ao:Oa} (hk:Lu nt ops o ao=true) {k:AV→Value→Prop} {R:Rd} {φ:Pl} {H:List aa} {e:Tr} {a:Act} (hE:og fo (K R φ H) e a) {b:Bool}
 (h:Se e ao.guard=some b):Region.wanted o (yielded ops a.tmps)=b:=by
 simp only[Lu,Bool.and_eq_true] at hk
 obtain⟨_,hg⟩:=hk
 unfold Region.wanted
 cases h1:o.guard with
 |none=>
  cases h2:ao.guard with
  |none=>simp[h2,Se] at h;simp[h]
  |some g=>simp[h1,h2] at hg
 |some g=>
  obtain⟨g,want⟩:=g
  cases h2:ao.guard with
  |none=>simp[h1,h2] at hg
  |some g'=>
   obtain⟨t,want'⟩:=g'
   simp only[h1,h2,Bool.and_eq_true,beq_iff_eq] at hg
   obtain⟨rfl,hg⟩:=hg
   have ht:=hE t
   simp only[h2,Se] at h
   simp only[yielded,hg,Option.bind_some]
   split at h
   ·rename_i b' hb
    rw[hb] at ht
    have:=ht.qb
    injection h with h
    cases hv:a.tmps[t]? with
    |none=>rw[Array.getD_eq_getD_getElem?,hv] at this;cases this
    |some v=>
     rw[Array.getD_eq_getD_getElem?,hv] at this
     simp only[Option.getD_some] at this
     cases this
     simp only[← h]
     cases b' <;> cases want <;> rfl
   ·rename_i hb
    rw[hb] at ht
    have:=ht.qb
    injection h with h
    subst h
    cases hv:a.tmps[t]? with
    |none=>simp
    |some v=>
     rw[Array.getD_eq_getD_getElem?,hv] at this
     simp only[Option.getD_some] at this
     cases this
     simp
   ·cases h
theorem xG {nt:Nat} {ops:Array Oper} {i:Nat} {o:Oper} {ao:Oa} (hi:ops[i]? =some o) (hk:Lu nt ops o ao=true) (ho:pS P fo B0 call o ao) (hnd:∀ c,o.op≠ .defer c) (ro:Option Nat) {n:Nat}
 {w:World} {R:Rd} {φ:Pl} {s s1:St} {a:Act} (hS:Kb fo B0 w R φ s.H) (hE:og fo (K R φ s.H) s.env a) (hn:a.tmps.size=nt) (h:Nc call ao s=some s1)
 {Q:Exit→Act→World→Prop} {next:Act→World→Prop} (hq:∀ a' w' R' φ',Lj fo B0 w R φ s.H a w' R' φ' s1 a'→next a' w'):wpOpIn (QB ro) n P ops Q i next a w:=by
 have hk':=hk
 simp only[Lu,Bool.and_eq_true,beq_iff_eq] at hk'
 obtain⟨⟨hd,hlt⟩,_⟩:=hk'
 have hd':∀ t,ao.dst=some t→t < a.tmps.size:=fun t ht=>by rw[hd,ht] at hlt;rw[hn];simpa using hlt
 have sz:∀ (a:Act) (d:Option Nat) (u:Value),(a.put d u).tmps.size=a.tmps.size:=fun a d u=>by cases d <;> simp[Act.put]
 have df:∀ (a:Act) (d:Option Nat) (u:Value),(a.put d u).defers=a.defers:=fun a d u=>by cases d <;> rfl
 obtain⟨e,H⟩:=s
 unfold wpOpIn
 simp only[hi]
 rcases wm h with⟨g,v,q,r⟩ | ⟨g,r⟩
 ·rw[RC (k:=fun _ _=>True) hk hE g]
  simp only[if_true]
  refine vA ro hnd (ho w R φ e H s1.H a v hS hE q next Q fun v' w' R' φ' h1 h2 h3 h4=>hq _ _ R' φ' ⟨h1,?_,h3,h4,sz _ _ _,.same (df _ _ _)⟩)
  rw[r,hd]
  exact (hE.mono h3).put ao.dst hd' h2
 ·rw[RC (k:=fun _ _=>True) hk hE g]
  simp only[Bool.false_eq_true,if_false]
  subst r
  refine⟨fun f _=>eO ro f,hq _ _ R φ ⟨hS,?_,fun _ _ h=>h,Ve.refl _ _,sz _ _ _,.same (df _ _ _)⟩⟩
  rw[hd]
  exact hE.put ao.dst hd' (.atom _ _ (show Ea R _ _ from .bc _ _ .nil))
def EE (aops:List Oa) (L:List Nat):List Oa:=L.filterMap (aops[·]?)
theorem oF {aops:List Oa} {i:Nat} {ao:Oa} (h:aops[i]? =some ao) (L:List Nat):EE aops (i::L)=ao::EE aops L:=by simp[EE,h]
theorem Nu (aops:List Oa) (L M:List Nat):EE aops (L++M)=EE aops L++EE aops M:=by simp[EE]
theorem nC (aops:List Oa):EE aops (List.range aops.length)=aops:=by
 suffices ∀ n,n≤aops.length→EE aops (List.range n)=aops.take n by simpa using this aops.length (Nat.le_refl _)
 intro n
 induction n with
 |zero=>intro _;simp[EE]
 |succ n ih=>
  intro h
  rw[List.range_succ,Nu,ih (by omega),List.take_add_one]
  simp[EE,List.getElem?_eq_getElem (show n < aops.length by omega)]
structure xF (P:Program) (fo:Nat→FuncId) (B0:se) (call:Fa) (nt:Nat) (ops:Array Oper) (aops:List Oa):Prop where
 len:aops.length=ops.size
 slot:∀ (i:Nat) (o:Oper) (ao:Oa),ops[i]? =some o→aops[i]? =some ao→Lu nt ops o ao=true
 fT:∀ (i:Nat) (o:Oper) (ao:Oa),ops[i]? =some o→aops[i]? =some ao→pS P fo B0 call o ao
 nd:∀ (i:Nat) (o:Oper) (ao:Oa),ops[i]? =some o→aops[i]? =some ao→∀ c,o.op≠ .defer c
theorem rR (ro:Option Nat) {n:Nat} {nt:Nat} {ops:Array Oper} {aops:List Oa} (hs:xF P fo B0 call nt ops aops) {Q:Exit→Act→World→Prop}:∀ (L:List Nat),(∀ i∈L,i < ops.size)→∀ {w:World} {R:Rd} {φ:Pl} {s s':St} {a:Act},
 Kb fo B0 w R φ s.H→og fo (K R φ s.H) s.env a→a.tmps.size=nt→Pd call (EE aops L) s=some s'→
 (∀ a' w' R' φ',Lj fo B0 w R φ s.H a w' R' φ' s' a'→Q .normal a' w')→wpOpsIn (QB ro) n P ops Q L a w:=by
 intro L
 induction L with
 |nil=>
  intro _ w R φ s s' a hS hE hn h hq
  simp only[EE,List.filterMap_nil,Pd,Option.some.injEq] at h
  subst h
  exact hq _ _ R φ (.refl hS hE)
 |cons i L ih=>
  intro hL w R φ s s' a hS hE hn h hq
  have hi:i < ops.size:=hL i (by simp)
  have h1:ops[i]? =some ops[i]:=Array.getElem?_eq_getElem hi
  have h2:aops[i]? =some (aops[i]'(by rw[hs.len];exact hi)):=List.getElem?_eq_getElem _
  rw[oF h2,Pd] at h
  cases ho:Nc call (aops[i]'(by rw[hs.len];exact hi)) s with
  |none=>simp[ho,On] at h
  |some s1=>
   simp only[ho,On] at h
   rw[wpOpsIn_cons]
   refine xG h1 (hs.slot _ _ _ h1 h2) (hs.fT _ _ _ h1 h2) (hs.nd _ _ _ h1 h2) ro hS hE hn ho fun a' w' R' φ' g=> ?_
   exact ih (fun j hj=>hL j (by simp[hj])) g.rel g.env (g.size.trans hn) h fun a'' w'' R'' φ'' g'=>hq _ _ _ _ (g.trans g')
theorem Fz (ro:Option Nat) {n:Nat} {nt:Nat} {id:Nat} {ops:Array Oper} {aops:List Oa} (hs:xF P fo B0 call nt ops aops) {Q:Exit→Act→World→Prop} {w:World} {R:Rd} {φ:Pl} {s s':St} {a:Act}
 (hS:Kb fo B0 w R φ s.H) (hE:og fo (K R φ s.H) s.env a) (hn:a.tmps.size=nt) (h:Pd call aops s=some s')
 (hq:∀ a' w' R' φ',Lj fo B0 w R φ s.H a w' R' φ' s' a'→Q .normal a' w'):(Code.region id ops false).wpIn (QB ro) n P Q a w:=
 wpIn_region (rR ro hs _ (fun i hi=>List.mem_range.1 hi) hS hE hn (by rw[← hs.len,nC];exact h) hq)
def KI (ops:Array Oper):Nat→Nat→Nat→Bool
 |0,_,_=>false
 |f+1,j,i=>
  match ops[i]? with
  |some o=>o.after.toList.any fun e=>Region.binds .any e&&(e.on==j||(decide (j < e.on)&&KI ops f j e.on))
  |none=>false
def TI (ops:Array Oper) (aops:List Oa):Bool:=
 (List.range ops.size).all fun i=>
  (match ops[i]? with | some o=>o.after.toList.all fun e=> !Region.binds .any e||decide (e.on < i) | none=>true)&&
  (List.range i).all fun j=>
   (match aops[j]?,aops[i]? with
   |some x,some y=>WB x y
   |_,_=>false)||KI ops 8 j i
def Vq (ops:Array Oper) (listed:Array Bool):List Nat:=(List.range ops.size).filter fun i=> !listed.getD i true
def mS (ops:Array Oper) (listed:Array Bool):Prop:=∀ f j k,KI ops f j k=true→listed.getD k true=true→k < ops.size→listed.getD j true=true
theorem Cw {listed:Array Bool} {i:Nat} (h:i < listed.size):listed.getD i true=listed.getD i false:=by
 simp[Array.getD_eq_getD_getElem?,h]
theorem yQ (ro:Option Nat) {nn:Nat} {nt:Nat} {ops:Array Oper} {aops:List Oa} (hs:xF P fo B0 call nt ops aops) (hd:TI ops aops=true) {Q:Exit→Act→World→Prop}:∀ (n:Nat) (listed:Array Bool) {w:World} {R:Rd} {φ:Pl} {s s' s'':St} {a:Act},
 (Vq ops listed).length≤n→listed.size=ops.size→mS ops listed→Kb fo B0 w R φ s.H→og fo (K R φ s.H) s.env a→a.tmps.size=nt→
 Pd call (EE aops (Vq ops listed)) s=some s''→gC s' s''→
 (∀ a' w' R' φ',Lj fo B0 w R φ s.H a w' R' φ' s' a'→Q .normal a' w')→wpAnyIn (QB ro) nn P .any ops Q n listed a w:=by
 have hdd:∀ i,i < ops.size→(∀ o,ops[i]? =some o→∀ e∈o.after,Region.binds .any e=true→e.on < i)∧∀ j,j < i→(∀ x y,aops[j]? =some x→aops[i]? =some y→WB x y=true)∨KI ops 8 j i=true:=by
  intro i hi
  have:=List.all_eq_true.1 hd i (List.mem_range.2 hi)
  simp only[Bool.and_eq_true] at this
  refine⟨fun o ho e he hb=> ?_,fun j hj=> ?_⟩
  ·have h1:=this.1
   simp only[ho] at h1
   have:=List.all_eq_true.1 h1 e (by simpa using he)
   simpa[hb] using this
  ·have h2:=List.all_eq_true.1 this.2 j (List.mem_range.2 hj)
   simp only[Bool.or_eq_true] at h2
   rcases h2 with h2 | h2
   ·left;intro x y hx hy;simpa[hx,hy] using h2
   ·exact .inr h2
 have empty:∀ (listed:Array Bool),listed.size=ops.size→Region.ready .any ops listed=[]→Vq ops listed=[]:=by
  intro listed hsz hr
  cases hrem:Vq ops listed with
  |nil=>rfl
  |cons i rest=>
   exfalso
   have hsorted:(Vq ops listed).Pairwise (· < ·):=List.Pairwise.filter _ List.pairwise_lt_range
   have hmem:i∈Vq ops listed:=by rw[hrem];simp
   have him:=List.mem_filter.1 hmem
   have hi:=List.mem_range.1 him.1
   have h1:ops[i]? =some ops[i]:=Array.getElem?_eq_getElem hi
   have:i∈Region.ready .any ops listed:=by
    rw[mem_ready]
    refine⟨by simpa using him.2,_,h1,fun e he hb=> ?_⟩
    have hlt:=(hdd i hi).1 _ h1 e he hb
    rw[← Cw (by omega)]
    cases hg:listed.getD e.on true with
    |true=>rfl
    |false=>
     exfalso
     have:e.on∈Vq ops listed:=List.mem_filter.2 ⟨List.mem_range.2 (by omega),by simp[hg]⟩
     rw[hrem] at this hsorted
     rcases List.mem_cons.1 this with he' | he'
     ·omega
     ·have:=(List.pairwise_cons.1 hsorted).1 _ he';omega
   rw[hr] at this
   cases this
 have done:∀ (listed:Array Bool) {w:World} {R:Rd} {φ:Pl} {s s' s'':St} {a:Act},listed.size=ops.size→Kb fo B0 w R φ s.H→og fo (K R φ s.H) s.env a→
  Pd call (EE aops (Vq ops listed)) s=some s''→gC s' s''→(∀ a' w' R' φ',Lj fo B0 w R φ s.H a w' R' φ' s' a'→Q .normal a' w')→Region.ready .any ops listed=[]→Q .normal a w:=by
  intro listed w R φ s s' s'' a hsz hS hE hev he hq hr
  rw[empty listed hsz hr] at hev
  simp only[EE,List.filterMap_nil,Pd,Option.some.injEq] at hev
  subst hev
  exact hq _ _ R φ ((Lj.refl hS hE).eqv he.symm)
 intro n
 induction n with
 |zero=>
  intro listed w R φ s s' s'' a hlen hsz hcl hS hE hn hev he hq
  have hnil:Vq ops listed=[]:=List.eq_nil_of_length_eq_zero (by omega)
  have hr:Region.ready .any ops listed=[]:=by
   cases hr:Region.ready .any ops listed with
   |nil=>rfl
   |cons i rest=>
    exfalso
    have hi:i∈Region.ready .any ops listed:=by rw[hr];simp
    obtain⟨h0,o,ho,_⟩:=mem_ready.1 hi
    have:i∈Vq ops listed:=List.mem_filter.2 ⟨List.mem_range.2 (Array.getElem?_eq_some_iff.1 ho).1,by simp[h0]⟩
    rw[hnil] at this;cases this
  exact⟨hr,done listed hsz hS hE hev he hq hr⟩
 |succ n ih=>
  intro listed w R φ s s' s'' a hlen hsz hcl hS hE hn hev he hq
  refine⟨done listed hsz hS hE hev he hq,fun i hi=> ?_⟩
  obtain⟨h0,o,ho,haft⟩:=mem_ready.1 hi
  have hilt:i < ops.size:=(Array.getElem?_eq_some_iff.1 ho).1
  have hao:aops[i]? =some (aops[i]'(by rw[hs.len];exact hilt)):=List.getElem?_eq_getElem _
  generalize aops[i]'(by rw[hs.len];exact hilt)=ao at hao
  have hmem:i∈Vq ops listed:=List.mem_filter.2 ⟨List.mem_range.2 hilt,by simp[h0]⟩
  have hsorted:(Vq ops listed).Pairwise (· < ·):=List.Pairwise.filter _ List.pairwise_lt_range
  obtain⟨pre,post,hsplit⟩:=List.append_of_mem hmem
  rw[hsplit] at hsorted
  rw[List.pairwise_append] at hsorted
  obtain⟨_,hs2,hs3⟩:=hsorted
  have hrem':Vq ops (listed.setIfInBounds i true)=pre++post:=by
   have:Vq ops (listed.setIfInBounds i true)=(Vq ops listed).filter (fun j=>decide (j≠i)):=by
    unfold Vq
    rw[List.filter_filter]
    apply List.filter_congr
    intro j hj
    by_cases hji:j=i
    ·subst hji
     have:(listed.setIfInBounds j true).getD j true=true:=by
      rw[Array.getD_eq_getD_getElem?,Array.getElem?_setIfInBounds_self_of_lt (by omega)];rfl
     simp[this]
    ·rw[getD_set_ne true (Ne.symm hji)];simp[hji]
   rw[this,hsplit,List.filter_append,List.filter_cons]
   simp only[ne_eq,not_true_eq_false,decide_false,Bool.false_eq_true,if_false]
   rw[List.filter_eq_self.2 fun j hj=>by have:=hs3 j hj i (by simp);simp;omega,
    List.filter_eq_self.2 fun j hj=>by have:=(List.pairwise_cons.1 hs2).1 j hj;simp;omega]
  have hcalm:∀ x∈EE aops pre,WB x ao=true:=by
   intro x hx
   simp only[EE,List.mem_filterMap] at hx
   obtain⟨j,hj,hxj⟩:=hx
   have hji:j < i:=hs3 j hj i (by simp)
   rcases (hdd i hilt).2 j hji with h | h
   ·exact h x ao hxj hao
   ·exfalso
    have hjmem:j∈Vq ops listed:=by rw[hsplit];simp[hj]
    have hj0:listed.getD j true=false:=by simpa using (List.mem_filter.1 hjmem).2
    rw[show (8:Nat)=7+1 from rfl] at h
    simp only[KI,ho] at h
    obtain⟨ed,hed,hb⟩:=List.any_eq_true.1 h
    simp only[Bool.and_eq_true,Bool.or_eq_true,beq_iff_eq,decide_eq_true_eq] at hb
    obtain⟨hb1,hb2⟩:=hb
    have hl:=haft ed (by simpa using hed) hb1
    have hlt:=(hdd i hilt).1 o ho ed (by simpa using hed) hb1
    have hl':listed.getD ed.on true=true:=by rw[Cw (by omega)];exact hl
    rcases hb2 with rfl | ⟨_,hb2⟩
    ·rw[hl'] at hj0;cases hj0
    ·rw[hcl 7 j ed.on hb2 hl' (by omega)] at hj0;cases hj0
  rw[hsplit,Nu,oF hao] at hev
  obtain⟨s1,s2,k1,k2,k3⟩:=UR hcalm hev
  refine xG ho (hs.slot _ _ _ ho hao) (hs.fT _ _ _ ho hao) (hs.nd _ _ _ ho hao) ro hS hE hn k1 fun a' w' R' φ' g=> ?_
  refine ih (listed.setIfInBounds i true) (s':=s') (s'':=s2) ?_ (by simp[hsz]) ?_ g.rel g.env (g.size.trans hn) (by rw[hrem',Nu];exact k2) (he.trans k3) fun a'' w'' R'' φ'' g'=>hq _ _ _ _ (g.trans g')
  ·rw[hrem'];rw[hsplit] at hlen;simp at hlen ⊢;omega
  ·intro f j k hanc hk hklt
   by_cases hji:j=i
   ·subst hji
    rw[Array.getD_eq_getD_getElem?,Array.getElem?_setIfInBounds_self_of_lt (by omega)];rfl
   rw[getD_set_ne true (Ne.symm hji)]
   by_cases hki:k=i
   ·subst hki
    cases f with
    |zero=>simp[KI] at hanc
    |succ f=>
     simp only[KI,ho] at hanc
     obtain⟨ed,hed,hb⟩:=List.any_eq_true.1 hanc
     simp only[Bool.and_eq_true,Bool.or_eq_true,beq_iff_eq,decide_eq_true_eq] at hb
     obtain⟨hb1,hb2⟩:=hb
     have hl:=haft ed (by simpa using hed) hb1
     have hlt:=(hdd k hilt).1 o ho ed (by simpa using hed) hb1
     have hl':listed.getD ed.on true=true:=by rw[Cw (by omega)];exact hl
     rcases hb2 with rfl | ⟨_,hb2⟩
     ·exact hl'
     ·exact hcl f j ed.on hb2 hl' (by omega)
   ·rw[getD_set_ne true (Ne.symm hki)] at hk
    exact hcl f j k hanc hk hklt
theorem oG (ro:Option Nat) {n:Nat} {nt:Nat} {id:Nat} {ops:Array Oper} {aops:List Oa} (hm:P.follows .mixedOrders=true) (hs:xF P fo B0 call nt ops aops) (hd:TI ops aops=true) {Q:Exit→Act→World→Prop} {w:World} {R:Rd} {φ:Pl} {s s':St} {a:Act}
 (hS:Kb fo B0 w R φ s.H) (hE:og fo (K R φ s.H) s.env a) (hn:a.tmps.size=nt) (h:Pd call aops s=some s')
 (hq:∀ a' w' R' φ',Lj fo B0 w R φ s.H a w' R' φ' s' a'→Q .normal a' w'):(Code.region id ops true).wpIn (QB ro) n P Q a w:=by
 have hrem:Vq ops (Array.replicate ops.size false)=List.range ops.size:=by
  unfold Vq
  apply List.filter_eq_self.2
  intro i hi
  rw[List.mem_range] at hi
  simp[Array.getD_eq_getD_getElem?,hi]
 refine wpIn_region_any hm (yQ ro hs hd ops.size _ (s':=s') (s'':=s') (s:=s) (R:=R) (φ:=φ) (by rw[hrem];simp) (by simp) ?_ (hS.drew rfl) hE hn ?_ (gC.refl _) ?_)
 ·intro f j k _ hk hlt
  simp[Array.getD_eq_getD_getElem?,hlt] at hk
 ·rw[hrem,←hs.len,nC];exact h
 ·intro a' w' R' φ' g
  exact hq _ _ _ _ ⟨g.rel,g.env,g.mono,Ve.trans ⟨(RowKit.Below.refl _ w).drew,fun _ _ h _=>h,fun _ _=>rfl⟩ g.below,g.size,g.defers⟩
end
end Go.AM
set_option linter.unusedSimpArgs false
set_option linter.unusedVariables false
namespace Go.AM
open Go.RowKit
section
variable {P:Program} {fo:Nat→FuncId} {B0:se}
def Rw (w:World):Rd:=fun b o=>w.cell? ⟨b,o,none⟩
theorem ux {α β:Type} {f:α→Option β}:∀ {l:List α} {r:List β},Va f l=some r→r.length=l.length∧∀ (i:Nat) (x:α),l[i]? =some x→∃ y,r[i]? =some y∧f x=some y:=by
 intro l
 induction l with
 |nil=>intro r h;simp[Va] at h;subst h;exact⟨rfl,fun i x h=>by simp at h⟩
 |cons a l ih=>
  intro r h
  simp only[Va,Option.bind_eq_some_iff,Option.some.injEq] at h
  obtain⟨b,h1,bs,h2,rfl⟩:=h
  obtain⟨k1,k2⟩:=ih h2
  refine⟨by simp[k1],fun i x hx=> ?_⟩
  cases i with
  |zero=>simp at hx;subst hx;exact⟨b,rfl,h1⟩
  |succ i=>simpa using k2 i x (by simpa using hx)
theorem vO {H:List aa} {d:Nat} {v:AV} {p:PV} (h1:v.one=true) (h:Ab H d v=some p):tB p=true:=by
 cases v with
 |pv q=>simp[Ab] at h;subst h;exact h1
 |uq id nl sz es=>simp[Ab] at h;subst h;cases nl <;> rfl
 |ptr id off=>
  cases d with
  |zero=>simp[Ab] at h
  |succ d=>
   simp only[Ab] at h
   split at h
   ·simp only[Option.map_eq_some_iff] at h;obtain⟨ps,_,rfl⟩:=h;rfl
   ·cases h
 |own id len=>
  cases d with
  |zero=>simp[Ab] at h
  |succ d=>
   simp only[Ab] at h
   split at h
   ·split at h
    ·rename_i nl _ _
     cases nl with
     |true=>simp at h;subst h;rfl
     |false=>simp only[Bool.false_eq_true,if_false,Option.map_eq_some_iff] at h;obtain⟨ps,_,rfl⟩:=h;rfl
    ·cases h
   ·cases h
 |ic=>cases d <;> simp[Ab] at h
 |mi=>cases d <;> simp[Ab] at h
 |mp=>cases d <;> simp[Ab] at h
 |undef=>cases d <;> simp[Ab] at h
 |agg=>simp[AV.one] at h1
 |bc=>simp[AV.one] at h1
theorem jM {H:List aa} {d:Nat} {cs:List AV} {ps:List PV} (h1:cs.all AV.one=true) (h:Va (Ab H d) cs=some ps):∀ p∈ps,tB p=true:=by
 obtain⟨k1,k2⟩:=ux h
 intro p hp
 obtain⟨i,hi⟩:=List.mem_iff_getElem?.1 hp
 have hlt:=getElem?_lt hi
 have hx:cs[i]? =some (cs[i]'(by omega)):=List.getElem?_eq_getElem _
 obtain⟨y,hy1,hy2⟩:=k2 i _ hx
 rw[hi] at hy1;injection hy1 with hy1;subst hy1
 exact vO (List.all_eq_true.1 h1 _ (List.getElem_mem _)) hy2
theorem qG {w:World} {R Q:Rd} {φ:Pl} {H:List aa} (hS:Kb fo B0 w R φ H) (hsub:Sub R Q) (hQ:∀ b o v,B0.n≤b→w.cell? ⟨b,o,none⟩=some v→Q b o=some v):∀ (d:Nat) {v:AV} {u:Value} {p:PV},Yb fo (K R φ H) v u→Ab H d v=some p→Ea Q p u:=by
 intro d
 induction d with
 |zero=>
  intro v u p hv h
  cases v with
  |pv q=>simp[Ab] at h;subst h;exact hv.qb.mono hsub
  |uq id nl sz es=>
   simp[Ab] at h
   have h1:=hv.Dq
   cases nl with
   |true=>simp at h;subst h;rw[(h1.2.1 rfl).1];exact .qa
   |false=>simp at h;subst h;exact (h1.2.2.1 rfl).mono hsub
  |_=>simp[Ab] at h
 |succ d ih=>
  have many:∀ {cs:List AV} {ps:List PV} {vs:List Value},La fo (K R φ H) cs vs→Va (Ab H d) cs=some ps→xd Q ps vs:=by
   intro cs
   induction cs with
   |nil=>intro ps vs hl h;simp[Va] at h;subst h;cases hl;exact .nil
   |cons c cs ihc=>
    intro ps vs hl h
    simp only[Va,Option.bind_eq_some_iff,Option.some.injEq] at h
    obtain⟨b,h1,bs,h2,rfl⟩:=h
    cases hl with
    |cons _ _ v vs hc hcs=>exact .cons _ _ _ _ (ih hc h1) (ihc hcs h2)
  intro v u p hv h
  cases v with
  |pv q=>simp[Ab] at h;subst h;exact hv.qb.mono hsub
  |uq id nl sz es=>
   simp[Ab] at h
   have h1:=hv.Dq
   cases nl with
   |true=>simp at h;subst h;rw[(h1.2.1 rfl).1];exact .qa
   |false=>simp at h;subst h;exact (h1.2.2.1 rfl).mono hsub
  |own id len=>
   simp only[Ab] at h
   split at h
   ·rename_i sz ag cells fl nl hid
    split at h
    ·rename_i hc
     obtain⟨hlen,OO⟩:=hc
     have h1:=hv.Rv
     obtain⟨k0,k⟩:=h1.2.2 _ _ _ _ _ hid
     obtain⟨o0,o1,o2,oone,o3⟩:=hS.obj _ _ hid
     obtain⟨k1,k2⟩:=k (by omega)
     cases nl with
     |true=>simp at h;subst h;rw[k1 rfl];exact .qa
     |false=>
      simp only[Bool.false_eq_true,if_false,Option.map_eq_some_iff] at h
      obtain⟨ps,hps,rfl⟩:=h
      obtain⟨hbase,_,arr,hB,hsz,hle,hrel⟩:=o3 rfl
      rcases k2 rfl with⟨q1,q2,_⟩ | ⟨b,o,cap,rfl,q2,_⟩
      ·subst q1;exact absurd (List.eq_nil_of_length_eq_zero (by omega)) q2
      ·obtain⟨rfl,rfl,rfl⟩:=q2 hlen
       have hl:=many hrel hps
       have hone:=jM oone hps
       have hplen:ps.length=len * sz:=by rw[(ux hps).1,hlen]
       obtain⟨c1,c2,c3⟩:=Nq sz ag (fun e=>by subst e;simpa using OO) len ps hplen hone
       have:=Ea.lit (R:=Q) sz (chunk sz ag len ps) (φ id).1 0 (φ id).2 (by
        rw[c3]
        have:len * sz≤(φ id).2 * sz:=by rw[← hsz];omega
        exact Nat.le_of_mul_le_mul_right this o0) c2 (by
        rw[c1]
        refine we.yk hl (gl hrel oone) fun i v hv=> ?_
        have hlt:=getElem?_lt hv
        rw[List.getElem?_take] at hv
        split at hv
        ·refine hQ _ _ _ hbase ?_
         rw[hB.cell,Nat.zero_add];simpa using hv
        ·cases hv)
       rw[c3] at this
       exact this
    ·cases h
   ·cases h
  |ptr id off=>
   simp only[Ab] at h
   split at h
   ·rename_i cells hid
    simp only[Option.map_eq_some_iff] at h
    obtain⟨ps,hps,rfl⟩:=h
    obtain⟨hbase,_,oone,arr,hB,hrel⟩:=hS.obj _ _ hid
    rw[hv.Sy.2.2 _ hid]
    have:=Ea.rp (R:=Q) ps off (φ id).1 0 (we.yk (many hrel hps) (gl hrel oone) fun i v hv=>by
     refine hQ _ _ _ hbase ?_
     rw[hB.cell,Nat.zero_add];simpa using hv)
    rw[Nat.zero_add] at this
    exact this
   ·cases h
  |agg cs=>
   simp only[Ab,Option.map_eq_some_iff] at h
   obtain⟨ps,hps,rfl⟩:=h
   cases hv with
   |atom _ _ h=>exact h.elim
   |agg _ vs hl=>exact .agg _ _ (many hl hps)
  |bc cs=>
   simp only[Ab,Option.map_eq_some_iff] at h
   obtain⟨ps,hps,rfl⟩:=h
   cases hv with
   |atom _ _ h=>exact h.elim
   |bc _ vs hl=>exact .bc _ _ (many hl hps)
  |ic=>simp[Ab] at h
  |mi=>simp[Ab] at h
  |mp=>simp[Ab] at h
  |undef=>simp[Ab] at h
theorem eM {w:World} {R:Rd} {φ:Pl} {H:List aa} {d:Nat} {v:AV} {u:Value} {p:PV} (hf:v.free=true) (hv:Yb fo (K R φ H) v u) (h:Ab H d v=some p):Ea R p u:=by
 cases v with
 |pv q=>simp[Ab] at h;subst h;exact hv.qb
 |uq id nl sz es=>
  simp[Ab] at h
  have h1:=hv.Dq
  cases nl with
  |true=>simp at h;subst h;rw[(h1.2.1 rfl).1];exact .qa
  |false=>simp at h;subst h;exact h1.2.2.1 rfl
 |_=>simp[AV.free] at hf
theorem lM {w:World} {R:Rd} {φ:Pl} {H:List aa} (hS:Kb fo B0 w R φ H) {d:Nat}:∀ {vs:List AV} {us:List Value} {ps:List PV},La fo (K R φ H) vs us→Va (Ab H d) vs=some ps→xd (Rw w) ps us:=by
 intro vs
 induction vs with
 |nil=>intro us ps hl h;simp[Va] at h;subst h;cases hl;exact .nil
 |cons c cs ihc=>
  intro us ps hl h
  simp only[Va,Option.bind_eq_some_iff,Option.some.injEq] at h
  obtain⟨b,h1,bs,h2,rfl⟩:=h
  cases hl with
  |cons _ _ v vs hc hcs=>exact .cons _ _ _ _ (qG hS (fun b o v h=>hS.sub b o v h) (fun _ _ _ _ h=>h) d hc h1) (ihc hcs h2)
theorem iI {w:World} {R:Rd} {φ:Pl} {H:List aa} {d:Nat}:∀ {vs:List AV} {us:List Value} {ps:List PV},vs.all AV.free=true→La fo (K R φ H) vs us→Va (Ab H d) vs=some ps→xd R ps us:=by
 intro vs
 induction vs with
 |nil=>intro us ps _ hl h;simp[Va] at h;subst h;cases hl;exact .nil
 |cons c cs ihc=>
  intro us ps hf hl h
  simp only[Va,Option.bind_eq_some_iff,Option.some.injEq] at h
  obtain⟨b,h1,bs,h2,rfl⟩:=h
  simp only[List.all_cons,Bool.and_eq_true] at hf
  cases hl with
  |cons _ _ v vs hc hcs=>exact .cons _ _ _ _ (eM (w:=w) hf.1 hc h1) (ihc hf.2 hcs h2)
mutual
theorem FG {R R':Rd}:∀ {p:PV} {v:Value},bh p=true→Ea R p v→Ea R' p v
 |_,_,_,.int _ _=> .int _ _
 |_,_,_,.bool _=> .bool _
 |_,_,_,.str _=> .str _
 |_,_,_,.yd=> .yd
 |_,_,_,.qa=> .qa
 |_,_,_,.pq=> .pq
 |_,_,_,.Vp=> .Vp
 |_,_,_,.Mv=> .Mv
 |_,_,hf,.rp _ _ _ _ h=>by simp[bh] at hf
 |_,_,hf,.lit _ _ _ _ _ h1 h2 h3=>by simp[bh] at hf
 |_,_,hf,.Oy _ _=>by simp[bh] at hf
 |_,_,hf,.agg _ _ h=> .agg _ _ (tw (by simpa[bh] using hf) h)
 |_,_,hf,.bc _ _ h=> .bc _ _ (tw (by simpa[bh] using hf) h)
 |_,_,hf,.iface _ _ _ h=>by simp[bh] at hf
theorem tw {R R':Rd}:∀ {p:List PV} {v:List Value},Mk p=true→xd R p v→xd R' p v
 |_,_,_,.nil=> .nil
 |_,_,hf,.cons _ _ _ _ h1 h2=>by
  simp only[Mk,Bool.and_eq_true] at hf
  exact .cons _ _ _ _ (FG hf.1 h1) (tw hf.2 h2)
end
structure xt (n:Nat) (H H2:List aa):Prop where
 obj:∀ (id:Nat) (o2:aa),H2[id]? =some o2→id < n∧∃ o,H[id]? =some o∧pa n o=some o2
 len:∀ id,id < n→id < H.length→id < H2.length
theorem JI {n:Nat} {H H2:List aa} (h:Va (pa n) (H.take n)=some H2):xt n H H2:=by
 obtain⟨h1,h2⟩:=ux h
 rw[List.length_take] at h1
 refine⟨fun id o2 ho=> ?_,fun id hn hl=>by rw[h1];omega⟩
 have hlt:=getElem?_lt ho
 have hid:id < n∧id < H.length:=by rw[h1] at hlt;omega
 have hx:(H.take n)[id]? =some (H[id]'hid.2):=by rw[List.getElem?_take,if_pos hid.1];exact List.getElem?_eq_getElem _
 obtain⟨y,hy1,hy2⟩:=h2 id _ hx
 rw[ho] at hy1;injection hy1 with hy1;subst hy1
 exact⟨hid.1,_,List.getElem?_eq_getElem _,hy2⟩
def AV.DT:AV→Option Nat
 | .ptr id _ | .ic id _ _ | .uq id _ _ _ | .own id _ | .mp id=>some id
 |_=>none
theorem K.xa {n:Nat} {R:Rd} {φ:Pl} {H H2:List aa} (hc:xt n H H2) {x:AV} {u:Value} (hx:∀ id,x.DT=some id→id < n) (h:K R φ H x u):K R φ H2 x u:=by
 have box:∀ {id:Nat} {c:List AV},H2[id]? =some (.box c)→∃ c',H[id]? =some (.box c'):=by
  intro id c hb
  obtain⟨_,o,ho,hcut⟩:=hc.obj _ _ hb
  cases o with
  |box c'=>exact⟨c',ho⟩
  |seq=>simp only[pa] at hcut;split at hcut <;> cases hcut
  |tok=>cases hcut
  |map es=>simp[pa] at hcut
  |dead=>cases hcut
 have seq:∀ {id:Nat} {sz:Nat} {ag:Bool} {c:List AV} {fl:Nat} {nl:Bool},H2[id]? =some (.seq sz ag c fl nl)→H[id]? =some (.seq sz ag c fl nl):=by
  intro id sz ag c fl nl hb
  obtain⟨_,o,ho,hcut⟩:=hc.obj _ _ hb
  cases o with
  |box c'=>simp[pa] at hcut
  |seq=>
   simp only[pa] at hcut
   split at hcut
   ·injection hcut with hcut;rw[ho,hcut]
   ·cases hcut
  |tok=>cases hcut
  |map es=>simp[pa] at hcut
  |dead=>cases hcut
 have tok:∀ {id:Nat} {sz m:Nat} {nl:Bool},H2[id]? =some (.tok sz m nl)→H[id]? =some (.tok sz m nl):=by
  intro id sz m nl hb
  obtain⟨_,o,ho,hcut⟩:=hc.obj _ _ hb
  cases o with
  |box c'=>simp[pa] at hcut
  |seq=>
   simp only[pa] at hcut
   split at hcut
   ·cases hcut
   ·cases hcut
  |tok=>injection hcut with hcut;rw[ho,hcut]
  |map es=>simp[pa] at hcut
  |dead=>cases hcut
 have map:∀ {id:Nat} {es:List (PV×PV)},H2[id]? =some (.map es)→∃ es',H[id]? =some (.map es'):=by
  intro id c hb
  obtain⟨_,o,ho,hcut⟩:=hc.obj _ _ hb
  cases o with
  |box c'=>simp[pa] at hcut
  |seq=>simp only[pa] at hcut;split at hcut <;> cases hcut
  |tok=>cases hcut
  |map es=>exact⟨es,ho⟩
  |dead=>cases hcut
 cases x with
 |pv p=>exact h
 |ptr id off=>exact⟨hc.len _ (hx _ rfl) h.1,h.2.1,fun c hb=>by obtain⟨c',hb'⟩:=box hb;exact h.2.2 _ hb'⟩
 |ic id m off=>exact⟨hc.len _ (hx _ rfl) h.1,h.2.1,fun sz ag c fl nl hb=>h.2.2 sz ag c fl nl (seq hb)⟩
 |uq id nl sz es=>exact⟨hc.len _ (hx _ rfl) h.1,h.2.1,h.2.2.1,fun sz' m nl' hb=>h.2.2.2 sz' m nl' (tok hb)⟩
 |own id len=>exact⟨hc.len _ (hx _ rfl) h.1,h.2.1,fun sz ag c fl nl hb=>h.2.2 sz ag c fl nl (seq hb)⟩
 |mp id=>exact⟨hc.len _ (hx _ rfl) h.1,h.2.1,fun es hb=>by obtain⟨c',hb'⟩:=map hb;exact h.2.2 _ hb'⟩
 |mi ix cs=>exact h.elim
 |agg cs=>exact h.elim
 |bc cs=>exact h.elim
 |undef=>exact h.elim
theorem ZJ {n:Nat} {R:Rd} {φ:Pl} {H H2:List aa} (hc:xt n H H2):∀ (d:Nat) {v v':AV} {u:Value},AV.cut n d v=some v'→Yb fo (K R φ H) v u→Yb fo (K R φ H2) v' u:=by
 have base:∀ {d:Nat} {v v':AV} {u:Value},(∀ ix cs,v≠ .mi ix cs)→(∀ cs,v≠ .agg cs)→(∀ cs,v≠ .bc cs)→AV.cut n d v=some v'→Yb fo (K R φ H) v u→Yb fo (K R φ H2) v' u:=by
  intro d v v' u n1 n2 n3 h hv
  cases v with
  |pv p=>simp only[AV.cut,Option.some.injEq] at h;subst h;exact .atom _ _ hv.qb
  |ptr id off=>
   simp only[AV.cut] at h
   split at h
   ·rename_i hlt;injection h with h;subst h;exact .atom _ _ (K.xa hc (fun _ e=>by injection e with e;omega) hv.Sy)
   ·cases h
  |ic id m off=>
   simp only[AV.cut] at h
   split at h
   ·rename_i hlt;injection h with h;subst h
    cases hv with | atom _ _ hv=>exact .atom _ _ (K.xa hc (fun _ e=>by injection e with e;omega) hv)
   ·cases h
  |uq id nl sz es=>
   simp only[AV.cut] at h
   split at h
   ·rename_i hlt;injection h with h;subst h;exact .atom _ _ (K.xa hc (fun _ e=>by injection e with e;omega) hv.Dq)
   ·injection h with h
    subst h
    have h1:=hv.Dq
    cases nl with
    |true=>simp only[if_true];rw[(h1.2.1 rfl).1];exact .atom _ _ (show Ea R _ _ from .qa)
    |false=>exact .atom _ _ (show Ea R _ _ from h1.2.2.1 rfl)
  |own id len=>
   simp only[AV.cut] at h
   split at h
   ·rename_i hlt;injection h with h;subst h;exact .atom _ _ (K.xa hc (fun _ e=>by injection e with e;omega) hv.Rv)
   ·cases h
  |mp id=>
   simp only[AV.cut] at h
   split at h
   ·rename_i hlt;injection h with h;subst h
    cases hv with | atom _ _ hv=>exact .atom _ _ (K.xa hc (fun _ e=>by injection e with e;omega) hv)
   ·cases h
  |undef=>simp only[AV.cut,Option.some.injEq] at h;subst h;exact .undef _
  |mi ix cs=>exact absurd rfl (n1 ix cs)
  |agg cs=>exact absurd rfl (n2 cs)
  |bc cs=>exact absurd rfl (n3 cs)
 intro d
 induction d with
 |zero=>
  intro v v' u h hv
  cases v with
  |mi ix cs=>simp[AV.cut] at h
  |agg cs=>simp[AV.cut] at h
  |bc cs=>simp[AV.cut] at h
  |_=>exact base (by intros;simp) (by intros;simp) (by intros;simp) h hv
 |succ d ih=>
  have many:∀ {cs cs':List AV} {vs:List Value},La fo (K R φ H) cs vs→Va (AV.cut n d) cs=some cs'→La fo (K R φ H2) cs' vs:=by
   intro cs
   induction cs with
   |nil=>intro ps vs hl h;simp[Va] at h;subst h;cases hl;exact .nil
   |cons c cs ihc=>
    intro ps vs hl h
    simp only[Va,Option.bind_eq_some_iff,Option.some.injEq] at h
    obtain⟨b,h1,bs,h2,rfl⟩:=h
    cases hl with
    |cons _ _ v vs hc hcs=>exact .cons _ _ _ _ (ih h1 hc) (ihc hcs h2)
  intro v v' u h hv
  cases v with
  |mi ix cs=>
   simp only[AV.cut,Option.map_eq_some_iff] at h
   obtain⟨cs',h1,rfl⟩:=h
   cases hv with
   |atom _ _ h=>exact h.elim
   |mi _ _ vs hl=>exact .mi _ _ _ (many hl h1)
  |agg cs=>
   simp only[AV.cut,Option.map_eq_some_iff] at h
   obtain⟨cs',h1,rfl⟩:=h
   cases hv with
   |atom _ _ h=>exact h.elim
   |agg _ vs hl=>exact .agg _ _ (many hl h1)
  |bc cs=>
   simp only[AV.cut,Option.map_eq_some_iff] at h
   obtain⟨cs',h1,rfl⟩:=h
   cases hv with
   |atom _ _ h=>exact h.elim
   |bc _ vs hl=>exact .bc _ _ (many hl h1)
  |_=>exact base (by intros;simp) (by intros;simp) (by intros;simp) h hv
theorem OE {n:Nat} {R:Rd} {φ:Pl} {H H2:List aa} (hc:xt n H H2) {d:Nat} {cs cs':List AV} {vs:List Value} (hl:La fo (K R φ H) cs vs) (h:Va (AV.cut n d) cs=some cs'):La fo (K R φ H2) cs' vs:=by
 induction cs generalizing cs' vs with
 |nil=>simp[Va] at h;subst h;cases hl;exact .nil
 |cons c cs ihc=>
  simp only[Va,Option.bind_eq_some_iff,Option.some.injEq] at h
  obtain⟨b,h1,bs,h2,rfl⟩:=h
  cases hl with
  |cons _ _ v vs hcc hcs=>exact .cons _ _ _ _ (ZJ hc d h1 hcc) (ihc hcs h2)
theorem MG {n:Nat}:∀ (d:Nat) {v:AV},AV.Wc n d v=true→AV.cut n d v=some v:=by
 intro d
 induction d with
 |zero=>intro v h;cases v <;> simp_all [AV.Wc,AV.cut]
 |succ d ih=>
  have many:∀ {cs:List AV},cs.all (AV.Wc n d)=true→Va (AV.cut n d) cs=some cs:=by
   intro cs
   induction cs with
   |nil=>intro _;rfl
   |cons c cs ihc=>intro h;simp only[List.all_cons,Bool.and_eq_true] at h;simp[Va,ih h.1,ihc h.2]
  intro v h
  cases v with
  |mi ix cs=>simp only[AV.Wc] at h;simp[AV.cut,many h]
  |agg cs=>simp only[AV.Wc] at h;simp[AV.cut,many h]
  |bc cs=>simp only[AV.Wc] at h;simp[AV.cut,many h]
  |_=>simp_all [AV.Wc,AV.cut]
theorem FC {n d:Nat} {cs:List AV} (h:cs.all (AV.Wc n d)=true):Va (AV.cut n d) cs=some cs:=by
 induction cs with
 |nil=>rfl
 |cons c cs ihc=>simp only[List.all_cons,Bool.and_eq_true] at h;simp[Va,MG d h.1,ihc h.2]
theorem XP {n d:Nat} {v v':AV} (h:AV.cut n d v=some v') (h1:v.one=true):v'.one=true:=by
 cases v with
 |uq id nl sz es=>
  simp only[AV.cut] at h
  split at h
  ·injection h with h;subst h;rfl
  ·injection h with h;subst h;cases nl <;> rfl
 |mi ix cs=>
  cases d with
  |zero=>simp[AV.cut] at h
  |succ d=>simp only[AV.cut,Option.map_eq_some_iff] at h;obtain⟨_,_,rfl⟩:=h;rfl
 |agg=>simp[AV.one] at h1
 |bc=>simp[AV.one] at h1
 |undef=>simp[AV.one] at h1
 |pv p=>simp only[AV.cut,Option.some.injEq] at h;subst h;exact h1
 |_=>
  simp only[AV.cut] at h
  split at h
  ·injection h with h;subst h;exact h1
  ·cases h
theorem nO {n d:Nat} {cs cs':List AV} (h:Va (AV.cut n d) cs=some cs') (h1:cs.all AV.one=true):cs'.all AV.one=true:=by
 induction cs generalizing cs' with
 |nil=>simp[Va] at h;subst h;rfl
 |cons c cs ihc=>
  simp only[Va,Option.bind_eq_some_iff,Option.some.injEq] at h
  obtain⟨b,h2,bs,h3,rfl⟩:=h
  simp only[List.all_cons,Bool.and_eq_true] at h1 ⊢
  exact⟨XP h2 h1.1,ihc h3 h1.2⟩
theorem Kb.xa {n:Nat} {w:World} {R:Rd} {φ:Pl} {H H2:List aa} (hc:xt n H H2) (hS:Kb fo B0 w R φ H):Kb fo B0 w R φ H2:=by
 have lv:∀ {i},live H2 i→live H i:=by
  intro i ⟨o2,ho2,hl⟩
  obtain⟨_,o,ho,hcut⟩:=hc.obj _ _ ho2
  refine⟨o,ho,?_⟩
  cases o with
  |box c=>trivial
  |seq sz ag c fl nl=>
   simp only[pa] at hcut
   split at hcut
   ·injection hcut with hcut;subst hcut;exact hl
   ·cases hcut
  |tok sz m nl=>injection hcut with hcut;subst hcut;exact hl
  |map es=>trivial
  |dead=>injection hcut with hcut;subst hcut;exact hl
 refine⟨hS.low,hS.sub,fun id o2 ho2=> ?_,fun i j hi hj=>hS.inj i j (lv hi) (lv hj),hS.ml,hS.slt,fun i hi=>hS.free i (lv hi)⟩
 obtain⟨_,o,ho,hcut⟩:=hc.obj _ _ ho2
 have hO:=hS.obj _ _ ho
 cases o with
 |box c=>
  simp only[pa,Option.map_eq_some_iff] at hcut
  obtain⟨c',h1,rfl⟩:=hcut
  obtain⟨h2,h3,h4,arr,h5,h6⟩:=hO
  exact⟨h2,h3,nO h1 h4,arr,h5,OE hc h6 h1⟩
 |seq sz ag c fl nl=>
  simp only[pa] at hcut
  split at hcut
  ·rename_i hk
   injection hcut with hcut;subst hcut
   obtain⟨h1,h2,h3,h4,h5⟩:=hO
   refine⟨h1,h2,h3,h4,fun e=> ?_⟩
   obtain⟨k1,k2,arr,k3,k4,k5,k6⟩:=h5 e
   exact⟨k1,k2,arr,k3,k4,k5,OE hc k6 (FC hk)⟩
  ·cases hcut
 |tok sz m nl=>injection hcut with hcut;subst hcut;exact hO
 |map es=>injection hcut with hcut;subst hcut;exact hO
 |dead=>injection hcut with hcut;subst hcut;trivial
theorem rH {n:Nat} {R:Rd} {φ:Pl} {H H2:List aa} (hc:xt n H H2) {e e':Tr} {a:Act} (hE:og fo (K R φ H) e a):∀ {l:List Nat},Qa n e l=some e'→og fo (K R φ H2) e' a:=by
 intro l
 induction l generalizing e' with
 |nil=>intro h;simp only[Qa,Option.some.injEq] at h;subst h;intro t;exact .undef _
 |cons x l ih=>
  intro h
  simp only[Qa,Option.bind_eq_some_iff,Option.map_eq_some_iff] at h
  obtain⟨v,h1,e1,h2,rfl⟩:=h
  intro t
  rw[Tr.ba]
  split
  ·rename_i ht;subst ht;exact ZJ hc deep h1 (hE t)
  ·exact ih h2 t
theorem zz {w0 w:World} {R0 R:Rd} {φ0 φ:Pl} {H0:List aa} {a0 a:Act} {s s2:St} {l:List Nat} (g:Lj fo B0 w0 R0 φ0 H0 a0 w R φ s a) (h:xa H0.length l s=some s2):Lj fo B0 w0 R0 φ0 H0 a0 w R φ s2 a:=by
 simp only[xa,Option.bind_eq_some_iff,Option.map_eq_some_iff] at h
 obtain⟨e,h1,H2,h2,rfl⟩:=h
 have hc:=JI h2
 refine⟨g.rel.xa hc,rH hc g.env h1,fun x u hx=>K.xa hc (fun id hid=> ?_) (g.mono x u hx),g.below,g.size,g.defers⟩
 cases x with
 |ptr=>injection hid with hid;subst hid;exact hx.1
 |ic=>injection hid with hid;subst hid;exact hx.1
 |uq=>injection hid with hid;subst hid;exact hx.1
 |own=>injection hid with hid;subst hid;exact hx.1
 |mp=>injection hid with hid;subst hid;exact hx.1
 |_=>cases hid
end
end Go.AM
set_option linter.unusedSimpArgs false
set_option linter.unusedVariables false
namespace Go.AM
open Go.RowKit
section
variable {P:Program} {fo:Nat→FuncId} {B0:se}
theorem ov {k:AV→Value→Prop} {e:Tr} {a:Act} (h:og fo k e a) {t:Nat} {v:AV} (hv:Yb fo k v (a.tmps.getD t undef)):og fo k (e.set t v) a:=by
 intro j
 rw[Tr.ba]
 split
 ·rename_i e;subst e;exact hv
 ·exact h j
theorem push_empty {w:World} {R:Rd} {φ:Pl} {H:List aa} (hS:Kb fo B0 w R φ H) {o:aa} (hl:¬vl o) (hO:∀ φ' H',uw fo B0 w R φ' H' H.length o):Kb fo B0 w R (wj φ H.length (0,0)) (H++[o]):=
 hS.push (Nat.le_refl _) (fun _ _=>rfl) (fun _ _ _=>rfl) hS.sub (fun a v=>K.push o (0,0) a v) (fun h=>absurd h hl) (hO _ _)
theorem DN {w:World} {R:Rd} {φ:Pl} {H:List aa} {sz:Nat}:K R φ (H++[.tok sz 0 true]) (.uq H.length true sz []) (.slice none 0 0):=by
 refine⟨by simp,fun _=>⟨rfl,rfl⟩,(fun e=>by cases e),fun sz' n nl' h=> ?_⟩
 simp at h
 obtain⟨rfl,rfl,rfl⟩:=h
 exact⟨by simp,fun _=>⟨rfl,rfl,fun e=>by cases e⟩⟩
theorem XJ {w:World} {R:Rd} {φ:Pl} {H:List aa} {sz:Nat} {ag:Bool}:K R φ (H++[.seq sz ag [] 0 true]) (.own H.length 0) (.slice none 0 0):=by
 refine⟨by simp,rfl,fun sz' ag' c fl nl h=> ?_⟩
 simp at h
 obtain⟨rfl,rfl,rfl,rfl,rfl⟩:=h
 exact⟨by simp,fun _=>⟨fun _=>rfl,fun e=>by cases e⟩⟩
theorem jJ {w:World} {R:Rd} {φ:Pl} {H:List aa} (hS:Kb fo B0 w R φ H) {id:Nat} {cells:List AV} (hid:H[id]? =some (.box cells)) {i:Nat} (hi:cells[i]? =some (.pv .qa)) {x:AV} (hx:K R φ H x (.slice none 0 0)) (h1:x.one=true):
 Kb fo B0 w R (wj φ id (φ id)) (H.set id (.box (cells.set i x)))∧∀ a u,K R φ H a u→K R (wj φ id (φ id)) (H.set id (.box (cells.set i x))) a u:=by
 have hk:=fun a v=>K.vJ (R:=R) (φ:=φ) (H:=H) (c':=cells.set i x) hid a v
 refine⟨hS.wj hid (Nat.le_refl _) (fun _ _ _=>rfl) (fun _ _ _ _=>rfl) hS.sub hk (fun _=> .inl ⟨trivial,rfl⟩) ?_,hk⟩
 obtain⟨o1,o2,o3,arr,o4,o5⟩:=hS.obj _ _ hid
 refine⟨by rw[Xa];exact o1,by rw[Xa];exact o2,?_,arr,by rw[Xa];exact o4,?_⟩
 ·rw[List.all_eq_true] at o3 ⊢
  intro y hy
  rcases List.mem_or_eq_of_mem_set hy with hy | rfl
  ·exact o3 y hy
  ·exact h1
 ·obtain⟨u,hu,hr⟩:=o5.get hi
  have hr:=hr.qb
  cases hr
  have:arr.toList=arr.toList.set i (.slice none 0 0):=by
   apply List.ext_getElem?
   intro j
   by_cases e:i=j
   ·subst e
    rw[List.getElem?_set_self (getElem?_lt hu)];exact hu
   ·rw[List.getElem?_set_ne e]
  rw[this]
  exact (o5.mono hk).set i (.atom _ _ (hk _ _ hx))
theorem xL {g:gJ} {w:World} {R:Rd} {φ:Pl} {s s':St} {a:Act} (hS:Kb fo B0 w R φ s.H) (hE:og fo (K R φ s.H) s.env a) (h:ff g s=some s'):∃ R' φ',Lj fo B0 w R φ s.H a w R' φ' s' a:=by
 obtain⟨e,H⟩:=s
 cases g with
 |NF t sz=>
  simp only[ff] at h
  split at h
  ·rename_i ht
   split at h
   ·rename_i h0
    injection h with h;subst h
    have hk:=fun a v=>K.push (R:=R) (φ:=φ) (H:=H) (.tok sz 0 true) (0,0) a v
    have hv:=hE t
    simp only[ht] at hv
    have hv:=hv.qb
    refine⟨R,_,push_empty hS (by simp[vl]) (fun φ' H'=>⟨h0,fun _=>rfl,fun e=>by cases e⟩),ov (hE.mono hk) ?_,hk,Ve.refl _ _,rfl,.same rfl⟩
    generalize a.tmps.getD t undef=v at hv
    cases hv
    exact .atom _ _ (DN (w:=w))
   ·cases h
  ·cases h
 |gK t sz ag=>
  simp only[ff] at h
  split at h
  ·rename_i ht
   split at h
   ·rename_i h0
    injection h with h;subst h
    have hk:=fun a v=>K.push (R:=R) (φ:=φ) (H:=H) (.seq sz ag [] 0 true) (0,0) a v
    have hv:=hE t
    simp only[ht] at hv
    have hv:=hv.qb
    refine⟨R,_,push_empty hS (by simp[vl]) (fun φ' H'=>⟨h0,Nat.le_refl _,fun _=>rfl,rfl,fun e=>by cases e⟩),ov (hE.mono hk) ?_,hk,Ve.refl _ _,rfl,.same rfl⟩
    generalize a.tmps.getD t undef=v at hv
    cases hv
    exact .atom _ _ (XJ (w:=w))
   ·cases h
  ·cases h
 |sy t off sz=>
  simp only[ff] at h
  split at h
  ·rename_i id o ht
   split at h
   ·rename_i cells hid
    split at h
    ·rename_i hc
     split at h
     ·rename_i h0
      injection h with h;subst h
      have hlt:=getElem?_lt hid
      have hk:=fun a v=>K.push (R:=R) (φ:=φ) (H:=H) (.tok sz 0 true) (0,0) a v
      have hS1:=push_empty hS (o:= .tok sz 0 true) (by simp[vl]) (fun φ' H'=>⟨h0,fun _=>rfl,fun e=>by cases e⟩)
      obtain⟨hS2,hk2⟩:=jJ hS1 (by rw[getElem?_push hlt];exact hid) hc (DN (w:=w)) rfl
      have e:H.set id (.box (cells.set (o+off) (.uq H.length true sz [])))++[aa.tok sz 0 true]=(H++[aa.tok sz 0 true]).set id (.box (cells.set (o+off) (.uq H.length true sz []))):=by
       rw[List.set_append_left _ _ hlt]
      simp only[e]
      exact⟨R,_,hS2,hE.mono fun a v h=>hk2 a v (hk a v h),fun x u h=>hk2 x u (hk x u h),Ve.refl _ _,rfl,.same rfl⟩
     ·cases h
    ·cases h
   ·cases h
  ·cases h
 |XD t off sz ag=>
  simp only[ff] at h
  split at h
  ·rename_i id o ht
   split at h
   ·rename_i cells hid
    split at h
    ·rename_i hc
     split at h
     ·rename_i h0
      injection h with h;subst h
      have hlt:=getElem?_lt hid
      have hk:=fun a v=>K.push (R:=R) (φ:=φ) (H:=H) (.seq sz ag [] 0 true) (0,0) a v
      have hS1:=push_empty hS (o:= .seq sz ag [] 0 true) (by simp[vl]) (fun φ' H'=>⟨h0,Nat.le_refl _,fun _=>rfl,rfl,fun e=>by cases e⟩)
      obtain⟨hS2,hk2⟩:=jJ hS1 (by rw[getElem?_push hlt];exact hid) hc (XJ (w:=w)) rfl
      have e:H.set id (.box (cells.set (o+off) (.own H.length 0)))++[aa.seq sz ag [] 0 true]=(H++[aa.seq sz ag [] 0 true]).set id (.box (cells.set (o+off) (.own H.length 0))):=by
       rw[List.set_append_left _ _ hlt]
      simp only[e]
      exact⟨R,_,hS2,hE.mono fun a v h=>hk2 a v (hk a v h),fun x u h=>hk2 x u (hk x u h),Ve.refl _ _,rfl,.same rfl⟩
     ·cases h
    ·cases h
   ·cases h
  ·cases h
 |freeze t=>
  simp only[ff] at h
  split at h
  ·rename_i id len ht
   split at h
   ·rename_i sz ag cells fl nl hid
    split at h
    ·rename_i hc
     obtain⟨hlen,OO⟩:=hc
     have hid0:=hid
     have hv:=hE t
     simp only[ht] at hv
     have h1:=hv.Rv
     obtain⟨k0,k⟩:=h1.2.2 _ _ _ _ _ hid
     obtain⟨o0,o1,o2,oone,o3⟩:=hS.obj _ _ hid
     obtain⟨k1,k2⟩:=k (by omega)
     have hkd:∀ (R':Rd) (p:Nat×Nat),Sub R R'→∀ a v,K R φ H a v→K R' (wj φ id p) (H.set id .dead) a v:=by
      intro R' p hs a v hk
      have hk:=K.sub hs a v hk
      have hl:(H.set id .dead).length=H.length:=by simp
      have inv:∀ {i:Nat} {x:aa},(H.set id .dead)[i]? =some x→x≠ .dead→i≠id∧H[i]? =some x:=by
       intro i x hx hd
       by_cases e:i=id
       ·subst e;rw[List.getElem?_set_self (getElem?_lt hid)] at hx;injection hx with hx;exact absurd hx.symm hd
       ·rw[List.getElem?_set_ne (Ne.symm e)] at hx;exact⟨e,hx⟩
      cases a with
      |pv p=>exact hk
      |ptr i off=>exact⟨by rw[hl];exact hk.1,hk.2.1,fun c hc=>by obtain⟨q1,q2⟩:=inv hc (by simp);rw[Uc _ _ q1];exact hk.2.2 c q2⟩
      |ic i n off=>exact⟨by rw[hl];exact hk.1,hk.2.1,fun sz ag c fl nl hc=>by obtain⟨q1,q2⟩:=inv hc (by simp);rw[Uc _ _ q1];exact hk.2.2 _ _ _ _ _ q2⟩
      |uq i nl sz es=>exact⟨by rw[hl];exact hk.1,hk.2.1,hk.2.2.1,fun sz n nl hc=>by obtain⟨q1,q2⟩:=inv hc (by simp);rw[Uc _ _ q1];exact hk.2.2.2 _ _ _ q2⟩
      |own i n=>exact⟨by rw[hl];exact hk.1,hk.2.1,fun sz ag c fl nl hc=>by obtain⟨q1,q2⟩:=inv hc (by simp);rw[Uc _ _ q1];exact hk.2.2 _ _ _ _ _ q2⟩
      |mp i=>exact⟨by rw[hl];exact hk.1,hk.2.1,fun es hc=>by obtain⟨q1,q2⟩:=inv hc (by simp);rw[Uc _ _ q1];exact hk.2.2 _ q2⟩
      |mi=>exact hk.elim
      |agg=>exact hk.elim
      |bc=>exact hk.elim
      |undef=>exact hk.elim
     cases nl with
     |true=>
      simp only[if_true,Option.some.injEq] at h
      subst h
      have hk:=hkd R (φ id) (Sub.refl R)
      refine⟨R,wj φ id (φ id),hS.wj hid (Nat.le_refl _) (fun _ _ _=>rfl) (fun _ _ _ _=>rfl) hS.sub hk (fun h=>h.elim) trivial,ov (hE.mono hk) ?_,hk,Ve.refl _ _,rfl,.same rfl⟩
      rw[k1 rfl]
      exact .atom _ _ (show Ea R _ _ from .qa)
     |false=>
      simp only[Bool.false_eq_true,if_false,Option.map_eq_some_iff] at h
      obtain⟨ps,hps,rfl⟩:=h
      obtain⟨b0,hnone,arr,hB,hsz,hle,hrel⟩:=o3 rfl
      have hsub:Sub R (fun b o=>if b=(φ id).1 then w.cell? ⟨b,o,none⟩ else R b o):=by
       intro b o v h
       dsimp only
       split
       ·exact hS.sub b o v h
       ·exact h
      have hk:=hkd _ (φ id) hsub
      refine⟨_,wj φ id (φ id),hS.wj (R':=fun b o=>if b=(φ id).1 then w.cell? ⟨b,o,none⟩ else R b o) hid (Nat.le_refl _) (fun _ _ _=>rfl) (fun b j _ hne=>if_neg (hne rfl)) (fun b o v h=> ?_) hk (fun h=>h.elim) trivial,ov (hE.mono hk) ?_,hk,Ve.refl _ _,rfl,.same rfl⟩
      ·split at h
       ·exact h
       ·exact hS.sub b o v h
      ·rcases k2 rfl with⟨q1,q2,_⟩ | ⟨b,o,cap,q1,q2,_⟩
       ·subst q1;exact absurd (List.eq_nil_of_length_eq_zero (by omega)) q2
       ·rw[q1]
        obtain⟨rfl,rfl,rfl⟩:=q2 hlen
        have hl:=Kh hps hrel
        have hmap:=Jh hps
        have hone:∀ p∈ps,tB p=true:=by
         intro p hp
         rw[hmap] at oone
         exact List.all_eq_true.1 oone _ (List.mem_map_of_mem hp)
        have hplen:ps.length=len * sz:=by rw[hlen,hmap];simp
        obtain⟨c1,c2,c3⟩:=Nq sz ag (fun e=>by subst e;simpa using OO) len ps hplen hone
        refine .atom _ _ (show Ea _ _ _ from ?_)
        have:=Ea.lit (R:=fun b o=>if b=(φ id).1 then w.cell? ⟨b,o,none⟩ else R b o) sz (chunk sz ag len ps) (φ id).1 0 (φ id).2 (by
         rw[c3]
         have:len * sz≤(φ id).2 * sz:=by rw[← hsz];omega
         exact Nat.le_of_mul_le_mul_right this o0) c2 (by
         rw[c1]
         refine we.yk (hl.mono hsub) (gl hrel oone) fun i v hv=> ?_
         have hlt:=getElem?_lt hv
         rw[List.getElem?_take] at hv
         split at hv
         ·rw[if_pos rfl,hB.cell,Nat.zero_add];simpa using hv
         ·cases hv)
        rw[c3] at this
        exact this
    ·cases h
   ·cases h
  ·rename_i id o ht
   split at h
   ·rename_i cells hid
    have hid0:=hid
    have hv:=hE t
    simp only[ht] at hv
    have h1:=hv.Sy
    have k:=h1.2.2 _ hid
    obtain⟨o0,o1,oone,arr,hB,hrel⟩:=hS.obj _ _ hid
    have hkd:∀ (R':Rd) (p:Nat×Nat),Sub R R'→∀ a v,K R φ H a v→K R' (wj φ id p) (H.set id .dead) a v:=by
     intro R' p hs a v hk
     have hk:=K.sub hs a v hk
     have hl:(H.set id .dead).length=H.length:=by simp
     have inv:∀ {i:Nat} {x:aa},(H.set id .dead)[i]? =some x→x≠ .dead→i≠id∧H[i]? =some x:=by
      intro i x hx hd
      by_cases e:i=id
      ·subst e;rw[List.getElem?_set_self (getElem?_lt hid)] at hx;injection hx with hx;exact absurd hx.symm hd
      ·rw[List.getElem?_set_ne (Ne.symm e)] at hx;exact⟨e,hx⟩
     cases a with
     |pv p=>exact hk
     |ptr i off=>exact⟨by rw[hl];exact hk.1,hk.2.1,fun c hc=>by obtain⟨q1,q2⟩:=inv hc (by simp);rw[Uc _ _ q1];exact hk.2.2 c q2⟩
     |ic i n off=>exact⟨by rw[hl];exact hk.1,hk.2.1,fun sz ag c fl nl hc=>by obtain⟨q1,q2⟩:=inv hc (by simp);rw[Uc _ _ q1];exact hk.2.2 _ _ _ _ _ q2⟩
     |uq i nl sz es=>exact⟨by rw[hl];exact hk.1,hk.2.1,hk.2.2.1,fun sz n nl hc=>by obtain⟨q1,q2⟩:=inv hc (by simp);rw[Uc _ _ q1];exact hk.2.2.2 _ _ _ q2⟩
     |own i n=>exact⟨by rw[hl];exact hk.1,hk.2.1,fun sz ag c fl nl hc=>by obtain⟨q1,q2⟩:=inv hc (by simp);rw[Uc _ _ q1];exact hk.2.2 _ _ _ _ _ q2⟩
     |mp i=>exact⟨by rw[hl];exact hk.1,hk.2.1,fun es hc=>by obtain⟨q1,q2⟩:=inv hc (by simp);rw[Uc _ _ q1];exact hk.2.2 _ q2⟩
     |mi=>exact hk.elim
     |agg=>exact hk.elim
     |bc=>exact hk.elim
     |undef=>exact hk.elim
    simp only[Option.map_eq_some_iff] at h
    obtain⟨ps,hps,rfl⟩:=h
    have hsub:Sub R (fun b o=>if b=(φ id).1 then w.cell? ⟨b,o,none⟩ else R b o):=by
     intro b o v h
     dsimp only
     split
     ·exact hS.sub b o v h
     ·exact h
    have hk:=hkd _ (φ id) hsub
    refine⟨_,wj φ id (φ id),hS.wj (R':=fun b o=>if b=(φ id).1 then w.cell? ⟨b,o,none⟩ else R b o) hid (Nat.le_refl _) (fun _ _ _=>rfl) (fun b j _ hne=>if_neg (hne trivial)) (fun b o v h=> ?_) hk (fun h=>h.elim) trivial,ov (hE.mono hk) ?_,hk,Ve.refl _ _,rfl,.same rfl⟩
    ·split at h
     ·exact h
     ·exact hS.sub b o v h
    ·rw[k]
     have hl:=Kh hps hrel
     refine .atom _ _ (show Ea _ _ _ from ?_)
     have:=Ea.rp (R:=fun b o=>if b=(φ id).1 then w.cell? ⟨b,o,none⟩ else R b o) ps o (φ id).1 0 (we.yk (hl.mono hsub) (gl hrel oone) fun i v hv=>by
      rw[if_pos rfl,hB.cell,Nat.zero_add];simpa using hv)
     rw[Nat.zero_add] at this
     exact this
   ·cases h
  ·cases h
end
end Go.AM
