/- The abstract machine: equality, maps, steps that may change places, cleaning. -/
import Derived.Test.YtijlhblleiaomaaGreatJ1
import Derived.DeepKeys3
import Derived.OrdersIn
import Derived.LoopNIn
import Derived.RangeFuncRecord
import Derived.RangeFuncSeq
set_option linter.unusedSimpArgs false
set_option linter.unusedVariables false
namespace Go.AM
open Go.RowKit
def zo:Nat→Value→Value→Option Bool
 |0,.bool a,.bool b=>some (a==b)
 |1,.int k a,.int k' b=>if k=k' then some (a==b) else none
 |2,.string a,.string b=>some (a==b)
 |_,_,_=>none
def tf:List Nat→List Value→List Value→Option Bool
 | [],[],[]=>some true
 |k::ks,x::xs,y::ys=>(zo k x y).bind fun b=>(tf ks xs ys).map fun c=>b&&c
 |_,_,_=>none
theorem Gz {k:Nat} {p q:PV} {b:Bool} (h:Qs k p q=some b):
 (k=0∧∃ c d,p= .bool c∧q= .bool d∧b=(c==d))∨(k=1∧∃ i c d,p= .int i c∧q= .int i d∧b=(c==d))∨(k=2∧∃ c d,p= .str c∧q= .str d∧b=(c==d)):=by
 unfold Qs at h
 split at h
 ·injection h with h;exact .inl ⟨rfl,_,_,rfl,rfl,h.symm⟩
 ·split at h
  ·rename_i hk;subst hk;injection h with h;exact .inr (.inl ⟨rfl,_,_,_,rfl,rfl,h.symm⟩)
  ·cases h
 ·injection h with h;exact .inr (.inr ⟨rfl,_,_,rfl,rfl,h.symm⟩)
 ·cases h
theorem Di {k:Nat} {p q:Value} {b:Bool} (h:zo k p q=some b):
 (k=0∧∃ c d,p= .bool c∧q= .bool d∧b=(c==d))∨(k=1∧∃ i c d,p= .int i c∧q= .int i d∧b=(c==d))∨(k=2∧∃ c d,p= .string c∧q= .string d∧b=(c==d)):=by
 unfold zo at h
 split at h
 ·injection h with h;exact .inl ⟨rfl,_,_,rfl,rfl,h.symm⟩
 ·split at h
  ·rename_i hk;subst hk;injection h with h;exact .inr (.inl ⟨rfl,_,_,_,rfl,rfl,h.symm⟩)
  ·cases h
 ·injection h with h;exact .inr (.inr ⟨rfl,_,_,rfl,rfl,h.symm⟩)
 ·cases h
theorem dp {R:Rd} {k:Nat} {p q:PV} {v u:Value} (hp:Ea R p v) (hq:Ea R q u) {b:Bool} (h:Qs k p q=some b):zo k v u=some b:=by
 rcases Gz h with⟨rfl,c,d,rfl,rfl,rfl⟩ | ⟨rfl,i,c,d,rfl,rfl,rfl⟩ | ⟨rfl,c,d,rfl,rfl,rfl⟩ <;> cases hp <;> cases hq <;> simp[zo]
theorem Yu {R:Rd}:∀ {ks:List Nat} {ps qs:List PV} {vs us:List Value} {b:Bool},yd R ps vs→yd R qs us→oj ks ps qs=some b→tf ks vs us=some b
 | [],[],[],_,_,_,.nil,.nil,h=>h
 |k::ks,p::ps,q::qs,_,_,b,.cons _ _ v vs h1 h2,.cons _ _ u us g1 g2,h=>by
  simp only[oj,Option.bind_eq_some_iff,Option.map_eq_some_iff] at h
  obtain⟨x,e1,y,e2,rfl⟩:=h
  simp only[tf,dp h1 g1 e1,Yu h2 g2 e2,Option.bind_some,Option.map_some]
 | [],[],_::_,_,_,_,_,_,h=>by simp[oj] at h
 | [],_::_,_,_,_,_,_,_,h=>by simp[oj] at h
 |_::_,[],_,_,_,_,_,_,h=>by simp[oj] at h
 |_::_,_::_,[],_,_,_,_,_,h=>by simp[oj] at h
theorem pk:∀ {ks ks':List Nat} {xs ys xs' ys':List Value} {b:Bool},ks.length=xs.length→xs.length=ys.length→tf (ks++ks') (xs++xs') (ys++ys')=some b→∃ c d,tf ks xs ys=some c∧tf ks' xs' ys'=some d∧b=(c&&d)
 | [],_,[],[],_,_,b,_,_,h=>⟨true,b,rfl,h,by simp⟩
 |k::ks,_,x::xs,y::ys,xs',ys',b,hk,hl,h=>by
  simp only[List.cons_append,tf,Option.bind_eq_some_iff,Option.map_eq_some_iff] at h
  obtain⟨e,h1,f,h2,rfl⟩:=h
  obtain⟨c,d,h3,h4,rfl⟩:=pk (by simpa using hk) (by simpa using hl) h2
  exact⟨e&&c,d,by simp[tf,h1,h3],h4,by simp[Bool.and_assoc]⟩
 | [],_,_::_,_,_,_,_,hk,_,_=>by simp at hk
 |_::_,_,[],_,_,_,_,hk,_,_=>by simp at hk
 |_,_,[],_::_,_,_,_,_,hl,_=>by simp at hl
 |_,_,_::_,[],_,_,_,_,hl,_=>by simp at hl
def valOf (P:Program) (t:TypeId) (cs:List Value):Value:=if Yi P t=some true then .agg ⟨cs⟩ else cs.headD undef
def Xv (P:Program):Nat→List Field→Option Nat
 |o,[]=>some o
 |o,f::r=>if f.offset=o then Xv P (o+P.cellsOf f.type) r else none
def gq (g:TypeId→Option (List Nat)):List Field→Option (List Nat)
 | []=>some []
 |f::r=>if f.name != "_" then (g f.type).bind fun a=>(gq g r).map (a++ ·) else none
def mD:Nat→List Nat→List Nat
 |0,_=>[]
 |n+1,ks=>ks++mD n ks
def Hf (P:Program):Nat→TypeId→Option (List Nat)
 |0,_=>none
 |m+1,t=>
  match P.underlying t with
  |some .bool=>if P.cellsOf t=1 then some [0] else none
  |some (.int _)=>if P.cellsOf t=1 then some [1] else none
  |some .string=>if P.cellsOf t=1 then some [2] else none
  |some (.struct fs)=>if Xv P 0 fs.toList=some (P.cellsOf t)∧P.stoodInHeld t=false then gq (Hf P m) fs.toList else none
  |some (.array n e)=>if P.cellsOf t=n * P.cellsOf e then (Hf P m e).map (mD n) else none
  |_=>none
section
variable {P:Program}
theorem mA {m:Nat} {t:TypeId} {ks:List Nat} (h:Hf P m t=some ks):∃ i,P.info? t=some i:=by
 cases m with
 |zero=>simp[Hf] at h
 |succ m=>
  unfold Hf at h
  cases hu:P.underlying t with
  |none=>simp[hu] at h
  |some d=>exact info_of_underlying hu
theorem Lu {m:Nat} {t:TypeId} {ks:List Nat} (h:Hf P m t=some ks):Oc P t=some (P.cellsOf t):=by
 obtain⟨i,hi⟩:=mA h
 simp[Oc,Program.cellsOf,hi]
theorem Oq {g:TypeId→Option (List Nat)} (hg:∀ t ks,g t=some ks→ks.length=P.cellsOf t):∀ {fs:List Field} {o n:Nat} {ks:List Nat},gq g fs=some ks→Xv P o fs=some n→o+ks.length=n
 | [],o,n,ks,h,hl=>by
   simp only[gq,Option.some.injEq] at h;subst h
   simp only[Xv,Option.some.injEq] at hl;simpa using hl
 |f::fs,o,n,ks,h,hl=>by
  simp only[gq] at h
  split at h
  ·simp only[Option.bind_eq_some_iff,Option.map_eq_some_iff] at h
   obtain⟨a,h1,b,h2,rfl⟩:=h
   simp only[Xv] at hl
   split at hl
   ·have:=Oq hg h2 hl
    have:=hg _ _ h1
    simp;omega
   ·cases hl
  ·cases h
theorem dP (n:Nat) (ks:List Nat):(mD n ks).length=n * ks.length:=by
 induction n with
 |zero=>simp[mD]
 |succ n ih=>simp[mD,ih,Nat.succ_mul];omega
theorem Nf:∀ {m:Nat} {t:TypeId} {ks:List Nat},Hf P m t=some ks→ks.length=P.cellsOf t
 |0,_,_,h=>by simp[Hf] at h
 |m+1,t,ks,h=>by
  unfold Hf at h
  split at h
  ·split at h
   ·rename_i e;injection h with h;subst h;simp[e]
   ·cases h
  ·split at h
   ·rename_i e;injection h with h;subst h;simp[e]
   ·cases h
  ·split at h
   ·rename_i e;injection h with h;subst h;simp[e]
   ·cases h
  ·split at h
   ·rename_i e
    have:=Oq (P:=P) (fun t ks h=>Nf (m:=m) h) h e.1
    omega
   ·cases h
  ·split at h
   ·rename_i e
    simp only[Option.map_eq_some_iff] at h
    obtain⟨a,h1,rfl⟩:=h
    rw[dP,Nf h1,e]
   ·cases h
  ·cases h
theorem Lt {m:Nat} {t:TypeId} {ks:List Nat} (h:Hf P m t=some ks):(Yi P t=some true)∨(Yi P t=some false∧P.cellsOf t=1∧
 ((P.underlying t=some .bool∧ks=[0])∨((∃ k,P.underlying t=some (.int k))∧ks=[1])∨(P.underlying t=some .string∧ks=[2]))):=by
 cases m with
 |zero=>simp[Hf] at h
 |succ m=>
  unfold Hf at h
  unfold Yi
  split at h
  ·rename_i hu
   split at h
   ·rename_i e;injection h with h;exact .inr ⟨by simp[hu],e,.inl ⟨hu,h.symm⟩⟩
   ·cases h
  ·rename_i k hu
   split at h
   ·rename_i e;injection h with h;exact .inr ⟨by simp[hu],e,.inr (.inl ⟨⟨k,hu⟩,h.symm⟩)⟩
   ·cases h
  ·rename_i hu
   split at h
   ·rename_i e;injection h with h;exact .inr ⟨by simp[hu],e,.inr (.inr ⟨hu,h.symm⟩)⟩
   ·cases h
  ·rename_i hu;exact .inl (by simp[hu])
  ·rename_i hu;exact .inl (by simp[hu])
  ·cases h
variable {w:World}
theorem Qp {m:Nat} {e:TypeId} {ks:List Nat} (he:Hf P m e=some ks) {xs:List Value} {off:Nat} (hl:off+P.cellsOf e≤xs.length):
 (part e ⟨xs⟩ off).run P w= .ok (valOf P e ((xs.drop off).take (P.cellsOf e))) w:=by
 rcases Lt he with ha | ⟨ha,h1,_⟩
 ·rw[Ip (n:=P.cellsOf e) ha (fun _=>Lu he) (fun hb=>by cases hb)]
  congr 1
  unfold valOf
  simp only[if_true,ha]
  congr 1
  apply Array.ext'
  simp[List.extract_eq_take_drop]
 ·rw[Ip (n:=P.cellsOf e) ha (fun _=>Lu he) (fun _=>⟨xs[off]'(by omega),by simp[show off < xs.length by omega]⟩)]
  congr 1
  unfold valOf
  simp only[ha,Bool.false_eq_true,if_false,Option.some.injEq]
  rw[h1]
  have hlt:off < xs.length:=by omega
  rw[List.take_one,List.head?_drop]
  simp[Array.getD_eq_getD_getElem?,hlt]
def CT (P:Program) (dd:Nat) (e:TypeId) (ks:List Nat):Prop:=
 ∀ (w:World) (xs ys:List Value) (b:Bool),xs.length=P.cellsOf e→ys.length=P.cellsOf e→tf ks xs ys=some b→(Op.equalIn dd e (valOf P e xs) (valOf P e ys)).run P w= .ok b w
theorem Lx (dd m:Nat) (xs ys:List Value) (hE:∀ t ks,Hf P m t=some ks→CT P dd t ks):∀ (fs:List Field) (ks:List Nat) (o n:Nat) (b:Bool),gq (Hf P m) fs=some ks→Xv P o fs=some n→n=xs.length→n=ys.length→
 tf ks (xs.drop o) (ys.drop o)=some b→(Op.eqFields dd ⟨xs⟩ ⟨ys⟩ fs).run P w= .ok b w
 | [],ks,o,n,b,hk,hl,h1,h2,h=>by
   simp only[gq,Option.some.injEq] at hk
   subst hk
   simp only[Xv,Option.some.injEq] at hl
   subst hl
   rw[List.drop_eq_nil_of_le (by omega),List.drop_eq_nil_of_le (by omega)] at h
   simp only[tf,Option.some.injEq] at h
   subst h
   simp[Op.eqFields]
 |f::fs,ks,o,n,b,hk,hl,h1,h2,h=>by
  simp only[gq] at hk
  split at hk
  ·rename_i hn
   simp only[bne_iff_ne,ne_eq] at hn
   simp only[Option.bind_eq_some_iff,Option.map_eq_some_iff] at hk
   obtain⟨k1,e1,k2,e2,rfl⟩:=hk
   simp only[Xv] at hl
   split at hl
   ·rename_i ho
    subst ho
    have hle:=Oq (P:=P) (fun t ks h=>Nf (m:=m) h) e2 hl
    have hlen:=Nf e1
    have px:=Qp (w:=w) e1 (xs:=xs) (off:=f.offset) (by omega)
    have py:=Qp (w:=w) e1 (xs:=ys) (off:=f.offset) (by omega)
    rw[← List.take_append_drop (P.cellsOf f.type) (xs.drop f.offset),←List.take_append_drop (P.cellsOf f.type) (ys.drop f.offset)] at h
    obtain⟨c,d,h3,h4,rfl⟩:=pk (by simp;omega) (by simp;omega) h
    rw[List.drop_drop,List.drop_drop] at h4
    have he:=hE _ _ e1 w _ _ c (by simp;omega) (by simp;omega) h3
    have ih:=Lx dd m xs ys hE fs k2 (f.offset+P.cellsOf f.type) n d e2 hl h1 h2 h4
    simp only[Op.eqFields,hn,ne_eq,not_false_eq_true,if_true,Sem.run_bind,px,py,he,Result.andThen_ok]
    cases c
    ·simp
    ·simpa using ih
   ·cases hl
  ·cases hk
theorem cz (dd m:Nat) {e:TypeId} {ks:List Nat} (he:Hf P m e=some ks) (hE:CT P dd e ks) (xs ys:List Value):∀ (k i:Nat) (b:Bool),xs.length=(i+k) * P.cellsOf e→ys.length=(i+k) * P.cellsOf e→
 tf (mD k ks) (xs.drop (i * P.cellsOf e)) (ys.drop (i * P.cellsOf e))=some b→(Op.eqItems dd e (P.cellsOf e) ⟨xs⟩ ⟨ys⟩ (List.range' i k)).run P w= .ok b w
 |0,i,b,h1,h2,h=>by
  rw[List.drop_eq_nil_of_le (by simp at h1;omega),List.drop_eq_nil_of_le (by simp at h2;omega)] at h
  simp only[mD,tf,Option.some.injEq] at h
  subst h
  simp[Op.eqItems]
 |k+1,i,b,h1,h2,h=>by
  have hlen:=Nf he
  have hx:i * P.cellsOf e+P.cellsOf e≤xs.length:=by
   rw[h1,←Nat.succ_mul];exact Nat.mul_le_mul_right _ (by omega)
  have hy:i * P.cellsOf e+P.cellsOf e≤ys.length:=by
   rw[h2,←Nat.succ_mul];exact Nat.mul_le_mul_right _ (by omega)
  have px:=Qp (w:=w) he (xs:=xs) (off:=i * P.cellsOf e) hx
  have py:=Qp (w:=w) he (xs:=ys) (off:=i * P.cellsOf e) hy
  rw[← List.take_append_drop (P.cellsOf e) (xs.drop _),←List.take_append_drop (P.cellsOf e) (ys.drop _)] at h
  obtain⟨c,d,h3,h4,rfl⟩:=pk (by simp;omega) (by simp;omega) h
  rw[List.drop_drop,List.drop_drop,←Nat.succ_mul] at h4
  have hq:=hE w _ _ c (by simp;omega) (by simp;omega) h3
  have ih:=cz dd m he hE xs ys k (i+1) d (by rw[h1];congr 1;omega) (by rw[h2];congr 1;omega) h4
  rw[List.range'_succ]
  simp only[Op.eqItems,Sem.run_bind,px,py,hq,Result.andThen_ok]
  cases c
  ·simp
  ·simpa using ih
theorem pD (d:Nat):∀ (m:Nat) (t:TypeId) (ks:List Nat),Hf P m t=some ks→CT P (d+m) t ks
 |0,_,_,h=>by simp[Hf] at h
 |m+1,t,ks,hk=>by
  intro w xs ys b hx hy h
  rw[show d+(m+1)=(d+m)+1 from rfl]
  rcases Lt hk with ha | ⟨ha,h1,hc⟩
  ·have vx:valOf P t xs= .agg ⟨xs⟩:=by simp[valOf,ha]
   have vy:valOf P t ys= .agg ⟨ys⟩:=by simp[valOf,ha]
   rw[vx,vy]
   unfold Hf at hk
   split at hk
   ·rename_i hu;simp[Yi,hu] at ha
   ·rename_i hu;simp[Yi,hu] at ha
   ·rename_i hu;simp[Yi,hu] at ha
   ·rename_i fs hu
    split at hk
    ·rename_i e
     have hfs:P.fieldsOf t=fs:=by simp[Program.fieldsOf,hu]
     rw[run_equalIn_struct w (d+m) t ⟨xs⟩ ⟨ys⟩ (by rw[hfs];exact hu) e.2,hfs]
     exact Lx (d+m) m xs ys (fun t ks h=>pD d m t ks h) fs.toList ks 0 (P.cellsOf t) b hk e.1 hx.symm hy.symm (by simpa using h)
    ·cases hk
   ·rename_i n e hu
    split at hk
    ·rename_i hsz
     simp only[Option.map_eq_some_iff] at hk
     obtain⟨a,h3,rfl⟩:=hk
     obtain⟨i,hi⟩:=mA h3
     rw[run_equalIn_array w (d+m) ⟨xs⟩ ⟨ys⟩ hu hi,List.range_eq_range']
     exact cz (d+m) m h3 (pD d m e a h3) xs ys n 0 b (by rw[hx,hsz,Nat.zero_add]) (by rw[hy,hsz,Nat.zero_add]) (by simpa using h)
    ·cases hk
   ·cases hk
  ·rw[h1] at hx hy
   match xs,ys,hx,hy with
   | [x],[y],_,_=>
     have vx:valOf P t [x]=x:=by simp[valOf,ha]
     have vy:valOf P t [y]=y:=by simp[valOf,ha]
     rw[vx,vy]
     have one:∀ k,ks=[k]→zo k x y=some b:=by
      rintro k rfl
      simpa[tf] using h
     rcases hc with⟨hu,rfl⟩ | ⟨⟨kk,hu⟩,rfl⟩ | ⟨hu,rfl⟩
     ·rcases Di (one _ rfl) with⟨_,c,e,rfl,rfl,rfl⟩ | ⟨h,_⟩ | ⟨h,_⟩
      ·simp[Op.equalIn,run_underlying hu]
      ·cases h
      ·cases h
     ·rcases Di (one _ rfl) with⟨h,_⟩ | ⟨_,i,c,e,rfl,rfl,rfl⟩ | ⟨h,_⟩
      ·cases h
      ·simp[Op.equalIn,run_underlying hu]
      ·cases h
     ·rcases Di (one _ rfl) with⟨h,_⟩ | ⟨h,_⟩ | ⟨_,c,e,rfl,rfl,rfl⟩
      ·cases h
      ·cases h
      ·simp[Op.equalIn,run_underlying hu]
def dw (P:Program) (t:TypeId):Kd→Bool
 | .one c=>Hf P 8 t==some [c]&&Yi P t==some false
 | .row ks=>Hf P 8 t==some ks&&Yi P t==some true
theorem uA {R:Rd} {t:TypeId} {kd:Kd} (hk:dw P t kd=true) {p q:PV} {v u:Value} (hp:Ea R p v) (hq:Ea R q u) {b:Bool} (h:Zi kd p q=some b):(Op.equal t v u).run P w= .ok b w:=by
 show (Op.equalIn (9992+8) t v u).run P w=_
 cases kd with
 |one c=>
  simp only[dw,Bool.and_eq_true,beq_iff_eq] at hk
  have:=pD 9992 8 t [c] hk.1 w [v] [u] b (by have:=Nf hk.1;simpa using this) (by have:=Nf hk.1;simpa using this) (by
   simp only[Zi] at h
   simp[tf,dp hp hq h])
  simpa[valOf,hk.2] using this
 |row ks=>
  simp only[dw,Bool.and_eq_true,beq_iff_eq] at hk
  unfold Zi at h
  split at h
  ·cases ‹Kd.row ks=_›
  ·rename_i ks' xs ys e
   injection e with e;subst e
   cases hp with
   |agg _ vs h1=>
    cases hq with
    |agg _ us h2=>
     have hr:=Yu h1 h2 h
     have lens:∀ {ks:List Nat} {xs ys:List Value} {b:Bool},tf ks xs ys=some b→xs.length=ks.length∧ys.length=ks.length:=by
      intro ks
      induction ks with
      |nil=>intro xs ys b h;cases xs <;> cases ys <;> simp_all [tf]
      |cons k ks ih=>
       intro xs ys b h
       cases xs <;> cases ys <;> simp only[tf,Option.bind_eq_some_iff,Option.map_eq_some_iff] at h
       ·cases h
       ·cases h
       ·cases h
       ·obtain⟨_,_,_,h2,_⟩:=h
        have:=ih h2
        simp[this.1,this.2]
     have hl:=lens hr
     have hn:=Nf hk.1
     have:=pD 9992 8 t ks hk.1 w vs us b (by omega) (by omega) hr
     simpa[valOf,hk.2] using this
  ·cases h
end
end Go.AM
namespace Go.AM
open Go.RowKit
def ET (P:Program) (t:TypeId) (f:TypeDesc→Bool):Bool:=
 match P.underlying t with
 |some d=>f d
 |none=>false
def OS (P:Program) (t:TypeId):Option Nat:=
 match P.underlying t with
 |some .bool=>some 0
 |some (.pointer _)=>some 1
 |some (.slice _)=>some 2
 |some (.func _ _ _)=>some 3
 |_=>none
def AS (P:Program) (t:TypeId):Bool:=
 match P.underlying t with
 |some (.int .u8)=>true
 |_=>false
def KS (P:Program) (t:TypeId):Bool:=
 match P.underlying t with
 |some .string=>true
 |_=>false
def WT (P:Program) (t:TypeId) (k:IntKind):Bool:=
 match P.underlying t with
 |some (.int k')=>decide (k'=k)
 |_=>false
def Br (P:Program) (t:TypeId):Option TypeId:=
 match P.underlying t with
 |some (.slice e)=>some e
 |_=>none
def XQ (P:Program) (el:TypeId) (sz:Nat) (ag:Bool) (zero:List PV):Bool:=
 Oc P el==some sz&&decide (0 < sz)&&(ag||sz==1)&&Fm P el zero&&zero.length==sz&&Yi P el==some ag
def UN (P:Program) (t tx e:TypeId) (sz bytes:Nat):Bool:=
 Br P t==some e&&(ET P tx fun d=>match d with | .slice e'=>e'==e | .string=>true | _=>false)&&Oc P e==some sz&&fm P e==some bytes&&decide (0 < bytes)&&decide (0 < sz)&&ZJ P e sz
def ot (fo:Nat→FuncId):List (Nat×Operand)→List (Nat×AO)→Bool
 | [],[]=>true
 | (i,x)::xs,(j,y)::ys=>i==j&&uj fo x y&&ot fo xs ys
 |_,_=>false
def FJ (fo:Nat→FuncId):Option Operand→Option AO→Bool
 |none,none=>true
 |some x,some y=>uj fo x y
 |_,_=>false
def DR (P:Program) (t:TypeId) (f:Nat):Option Field:=
 match P.underlying t with
 |some (.struct fs)=>fs[f]?
 |_=>none
def Im (P:Program) (fo:Nat→FuncId) (fs:Array Field):List (Nat×Operand)→List (Nat×Nat×AO)→Bool
 | [],[]=>true
 | (i,x)::xs,(off,sz,y)::ys=>
   (match fs[i]? with | some f=>f.offset==off&&Oc P f.type==some sz | none=>false)&&uj fo x y&&Im P fo fs xs ys
 |_,_=>false
def PH (P:Program) (t:TypeId) (kd:Kd):Bool:=
 match P.underlying t with
 |some (.map k _)=>dw P k kd
 |_=>false
def GQ (P:Program) (t:TypeId) (zero:PV):Bool:=
 match P.underlying t with
 |some (.map _ e)=>
  (match P.info? e with
  |some i=>(match i.zero,zero with
   |some (.agg cs),.agg ps=>Zm cs.toList ps
   |some z,p=>Wu z p
   |none,_=>false)
  |none=>false)
 |_=>false
def uO (P:Program) (fo:Nat→FuncId):Op→Cc→Bool
 | .move x,.move y=>uj fo x y
 | .assign x,.move y=>uj fo x y
 | .pick c a b,.pick c' a' b'=>uj fo c c'&&uj fo a a'&&uj fo b b'
 | .alloc t,.alloc zero=>Fm P t zero
 | .box _ x,.box _ y=>uj fo x y
 | .build t parts,.build zero aparts=>
   (match P.underlying t with
   |some (.struct fs)=>Im P fo fs parts.toList aparts&&fs.all fun f=>(Oc P f.type).isSome
   |some (.array _ el)=>parts.toList.isEmpty&&aparts.isEmpty&&(Oc P el).isSome
   |_=>false)&&Fm P t zero
 | .buildSlice t len parts,.Hb _ sz ag len' zero aparts=>
   (match Br P t with
   |some el=>XQ P el sz ag zero
   |none=>false)&&len==len'&&decide (len * sz≤2 ^ 24)&&ot fo parts.toList aparts
 | .load t x,.load ag n y=>Yi P t==some ag&&(!ag||Oc P t==some n)&&uj fo x y
 | .store t p x,.store n q y=>Oc P t==some n&&uj fo p q&&uj fo x y
 | .nilCheck x,.dz y=>uj fo x y
 | .binOp op _ x y _,.bin op' x' y'=>decide (op=op')&&uj fo x x'&&uj fo y y'
 | .binOp .eql t x y _,.eq k false x' y'=>OS P t==some k&&uj fo x x'&&uj fo y y'
 | .binOp .neq t x y _,.eq k true x' y'=>OS P t==some k&&uj fo x x'&&uj fo y y'
 | .unOp op _ x,.un op' y=>decide (op=op')&&uj fo x y
 | .convert s d x,.conv k y=>(P.underlying s).isSome&&WT P d k&&uj fo x y
 | .convert s d x,.IS y=>(match Br P s with | some el=>AS P el | none=>false)&&KS P d&&uj fo x y
 | .convert s d x,.OP _ y=>(P.underlying s).isSome&&(match Br P d with | some el=>AS P el | none=>false)&&uj fo x y
 | .makeFunc (.func f) first caps,.BD ix ys=>first.size==0&&fo ix==f&&Jy fo caps.toList ys
 | .makeSlice t l c,.Je _ sz ag zero bytes l' c'=>
   (match Br P t with
   |some el=>XQ P el sz ag zero&&fm P el==some bytes
   |none=>false)&&decide (0 < bytes)&&uj fo l l'&&uj fo c c'
 | .slice t x lo hi none,.slice sz y lo' hi'=>
   (match P.underlying t with
   |some (.slice el)=>sz != 0&&Oc P el==some sz
   |some .string=>sz==0
   |_=>false)&&uj fo x y&&FJ fo lo lo'&&FJ fo hi hi'
 | .fieldAddr t x f,.tA off y=>
   (match DR P t f with
   |some fd=>fd.offset==off&&(match Oc P fd.type with | some n=>n != 0 | none=>false)
   |none=>false)&&uj fo x y
 | .field t x f,.LS off ag n y=>
   (match DR P t f with
   |some fd=>fd.offset==off&&Yi P fd.type==some ag&&(!ag||Oc P fd.type==some n)
   |none=>false)&&uj fo x y
 | .indexAddr t x i,.mg sz y j=>(match Br P t with | some el=>Oc P el==some sz | none=>false)&&uj fo x y&&uj fo i j
 | .indexAddr t x i,.Hu n sz y j=>
   (match P.underlying t with
   |some (.array n' el)=>n'==n&&Oc P el==some sz
   |_=>false)&&uj fo x y&&uj fo i j
 | .index t x i,.mR n sz ag y j=>
   (match P.underlying t with
   |some (.array n' el)=>n'==n&&Oc P el==some sz&&Yi P el==some ag
   |_=>false)&&uj fo x y&&uj fo i j
 | .index t x i,.GS y j=>KS P t&&uj fo x y&&uj fo i j
 | .extract x i,.ext i' y=>i==i'&&uj fo x y
 | .call {callee:= .builtin .len,args,argTypes},.len k y=>
   (match args.toList,argTypes.toList with
   | [x],[t]=>uj fo x y&&(match P.underlying t with | some (.slice _)=>k==0 | some .string=>k==1 | _=>false)
   |_,_=>false)
 | .call {callee:= .builtin .max,args,..},.mx ys=>Jy fo args.toList ys
 | .call {callee:= .builtin .min,args,..},.mn ys=>Jy fo args.toList ys
 | .call {callee:= .builtin .append,args,argTypes},.append _ _ sz ag bytes s y=>
   (match args.toList,argTypes.toList with
   | [x,z],[t,tx]=>uj fo x s&&uj fo z y&&(match Br P t with | some el=>UN P t tx el sz bytes&&Yi P el==some ag | none=>false)
   |_,_=>false)
 | .box _ x,.bI _ y=>uj fo x y
 | .binOp .eql t x y _,.wR (.row ks) false x' y'=>dw P t (.row ks)&& !P.eqGuardType P.depth t&&uj fo x x'&&uj fo y y'
 | .binOp .neq t x y _,.wR (.row ks) true x' y'=>dw P t (.row ks)&& !P.eqGuardType P.depth t&&uj fo x x'&&uj fo y y'
 | .makeMap _ none,.sA=>true
 | .lookup t x k ok,.lookup kd zero ok' x' k'=>PH P t kd&&GQ P t zero&&ok==ok'&&uj fo x x'&&uj fo k k'
 | .mapUpdate t m k v,.zq kd m' k' v'=>PH P t kd&&uj fo m m'&&uj fo k k'&&uj fo v v'
 | .insert t m k v,.zq kd m' k' v'=>PH P t kd&&uj fo m m'&&uj fo k k'&&uj fo v v'
 | .convert s d x,.ES y=>s==d&&(match Br P d with | some el=>AS P el | none=>false)&&uj fo x y
 |_,_=>false
def cv (P:Program) (fo:Nat→FuncId) (B0:te) (o:Oper) (a:Act) (w:World) (R:Rd) (φ:Pl) (H:List aa) (v:AV) (H':List aa):Prop:=
 ∀ (next:Act→World→Prop) (Q:Exit→Act→World→Prop),
  (∀ v' w' R' φ',Kb fo B0 w' R' φ' H'→Xb fo (K R' φ' H') v v'→(∀ a u,K R φ H a u→K R' φ' H' a u)→Xe B0 w w'→next (a.put o.dst v') w')→o.wp P a w next Q
section ops
variable {P:Program} {fo:Nat→FuncId} {B0:te} {w:World} {R:Rd} {φ:Pl} {H H':List aa} {e:Tr} {a:Act}
theorem cv.uc {o:Oper} {v:AV} {s:Sem Value} (h:execOp a.eval o=(do pure (.value (← s)))) (hr:ij fo B0 w R φ H P s v H'):cv P fo B0 o a w R φ H v H':=by
 intro next Q hn
 obtain⟨v',w',R',φ',h1,h2,h3,h4,h5⟩:=hr
 unfold Oper.wp
 rw[h,Sem.run_bind,h1]
 exact hn v' w' R' φ' h2 h3 h4 h5
theorem cv.Ao {o:Oper} {v:AV} {v':Value} (hS:Kb fo B0 w R φ H) (h:(execOp a.eval o).run P w= .ok (.value v') w) (hv:Xb fo (K R φ H) v v'):cv P fo B0 o a w R φ H v H:=by
 intro next Q hn
 unfold Oper.wp
 rw[h]
 exact hn v' w R φ hS hv (fun _ _ h=>h) (Xe.refl _ _)
theorem fC {el:TypeId} {sz:Nat} {ag:Bool} {zero:List PV} (h:XQ P el sz ag zero=true):eO P el sz ag zero:=by
 simp only[XQ,Bool.and_eq_true,beq_iff_eq,decide_eq_true_eq,Bool.or_eq_true] at h
 obtain⟨⟨⟨⟨⟨h1,h2⟩,h3⟩,h4⟩,h5⟩,h6⟩:=h
 exact⟨h1,h2,fun e=>by rcases h3 with h | h;simp[e] at h;exact h,h4,h5⟩
theorem Pk {t el:TypeId} (h:Br P t=some el):P.underlying t=some (.slice el):=by
 unfold Br at h
 split at h
 ·rename_i e he;injection h with h;subst h;exact he
 ·cases h
theorem FN {t:TypeId} {f:TypeDesc→Bool} (h:ET P t f=true):∃ d,P.underlying t=some d∧f d=true:=by
 unfold ET at h
 split at h
 ·rename_i d hd;exact⟨d,hd,h⟩
 ·cases h
theorem vH {t tx el:TypeId} {sz bytes:Nat} (h:UN P t tx el sz bytes=true):lJ P t tx el sz bytes:=by
 simp only[UN,Bool.and_eq_true,beq_iff_eq,decide_eq_true_eq] at h
 obtain⟨⟨⟨⟨⟨⟨h1,h2⟩,h3⟩,h4⟩,h5⟩,h6⟩,h7⟩:=h
 obtain⟨d,hd,hf⟩:=FN h2
 refine⟨Pk h1,⟨d,hd,?_⟩,h3,h4,h5,h6,h7⟩
 cases d <;> simp at hf
 ·exact .inr rfl
 ·exact .inl (by rw[hf])
theorem Ci {t:TypeId} {k:Nat} (h:OS P t=some k):(k=0∧P.underlying t=some .bool)∨(k=1∧∃ e,P.underlying t=some (.pointer e))∨(k=2∧∃ e,P.underlying t=some (.slice e))∨(k=3∧∃ p r v,P.underlying t=some (.func p r v)):=by
 unfold OS at h
 split at h <;> first
  |cases h;done
  | (injection h with h;subst h;simp_all)
theorem Xb.Sy {K:AV→Value→Prop} {id off:Nat} {v:Value} (h:Xb fo K (.ptr id off) v):K (.ptr id off) v:=by cases h with | atom _ _ h=>exact h
theorem Xb.Ov {K:AV→Value→Prop} {id off:Nat} {v:Value} (h:Xb fo K (.own id off) v):K (.own id off) v:=by cases h with | atom _ _ h=>exact h
theorem Xb.Xp {K:AV→Value→Prop} {id sz:Nat} {nl:Bool} {es:List PV} {v:Value} (h:Xb fo K (.uq id nl sz es) v):K (.uq id nl sz es) v:=by cases h with | atom _ _ h=>exact h
theorem bh {t:TypeId} (hu:P.underlying t=some .bool) (d:Nat) (a b:Bool):(Op.equalIn (d+1) t (.bool a) (.bool b)).run P w= .ok (a==b) w:=by
 simp[Op.equalIn,run_underlying hu]
theorem Ti {t el:TypeId} (hu:P.underlying t=some (.pointer el)) (d:Nat) (a:Option Addr):(Op.equalIn (d+1) t (.pointer a) (.pointer none)).run P w= .ok a.isNone w:=by
 cases a <;> simp[Op.equalIn,run_underlying hu]
theorem ah {t el:TypeId} (hu:P.underlying t=some (.pointer el)) (d:Nat) (a:Option Addr):(Op.equalIn (d+1) t (.pointer none) (.pointer a)).run P w= .ok a.isNone w:=by
 cases a <;> simp[Op.equalIn,run_underlying hu]
theorem Qf {t el:TypeId} (hu:P.underlying t=some (.slice el)) (d:Nat) (a:Option Addr) (n c m k:Nat):(Op.equalIn (d+1) t (.slice a n c) (.slice none m k)).run P w= .ok a.isNone w:=by
 cases a <;> simp[Op.equalIn,run_underlying hu]
theorem Yg {t:TypeId} {p r:Array TypeId} {v:Bool} (hu:P.underlying t=some (.func p r v)) (d:Nat) (f:Fn) (x y:Array Value):(Op.equalIn (d+1) t (.func f x y) .nilFunc).run P w= .ok false w:=by
 simp[Op.equalIn,run_underlying hu]
theorem Rf {t:TypeId} {p r:Array TypeId} {v:Bool} (hu:P.underlying t=some (.func p r v)) (d:Nat):(Op.equalIn (d+1) t .nilFunc .nilFunc).run P w= .ok true w:=by
 simp[Op.equalIn,run_underlying hu]
theorem aN {t:TypeId} {k:Nat} (ht:OS P t=some k) (hS:Kb fo B0 w R φ H) {x y:AV} {vx vy:Value} (hx:Xb fo (K R φ H) x vx) (hy:Xb fo (K R φ H) y vy) {b:Bool} (h:rm H k x y=some b):
 (∀ op:BinOp,op= .eql∨op= .neq→∀ (ox oy:Operand),(do eqGuard op t ox oy vx vy;binOp op t vx vy:Sem Value).run P w= .ok (.bool (if op= .neq then !b else b)) w):=by
 have key:(Op.equal t vx vy).run P w= .ok b w→(∀ (op:BinOp) (ox oy:Operand),(eqGuard op t ox oy vx vy)=pure ())→(∀ op:BinOp,(op= .eql→binOp op t vx vy=(do pure (.bool (← Op.equal t vx vy))))∧(op= .neq→binOp op t vx vy=(do pure (.bool (!(← Op.equal t vx vy))))))→
  (∀ op:BinOp,op= .eql∨op= .neq→∀ (ox oy:Operand),(do eqGuard op t ox oy vx vy;binOp op t vx vy:Sem Value).run P w= .ok (.bool (if op= .neq then !b else b)) w):=by
  intro h1 h2 h3 op hop ox oy
  rcases hop with rfl | rfl
  ·simp[h2,(h3 .eql).1 rfl,h1]
  ·simp[h2,(h3 .neq).2 rfl,h1]
 have one:∀ (x y:Value),(Op.equal t x y).run P w=(Op.equalIn (9999+1) t x y).run P w:=fun _ _=>rfl
 unfold rm at h
 split at h
 ·
  have h1:=hx.qb;have h2:=hy.qb
  cases h1;cases h2
  injection h with h;subst h
  have hu:=Ci ht
  simp at hu
  refine key ?_ (fun op ox oy=>by cases op <;> rfl) (fun op=>⟨fun e=>by subst e;rfl,fun e=>by subst e;rfl⟩)
  rw[one]
  first | exact bh hu 9999 _ _ | exact Ti hu 9999 _ | exact ah hu 9999 _ | exact Qf hu 9999 _ _ _ _ _ | exact Yg hu 9999 _ _ _ | exact Rf hu 9999
 ·have h1:=hx.qb;have h2:=hy.qb
  cases h1;cases h2
  injection h with h;subst h
  have hu:=Ci ht
  simp at hu
  obtain⟨e,hu⟩:=hu
  refine key ?_ (fun op ox oy=>by cases op <;> rfl) (fun op=>⟨fun e=>by subst e;rfl,fun e=>by subst e;rfl⟩)
  rw[one]
  first | exact bh hu 9999 _ _ | exact Ti hu 9999 _ | exact ah hu 9999 _ | exact Qf hu 9999 _ _ _ _ _ | exact Yg hu 9999 _ _ _ | exact Rf hu 9999
 ·have h1:=hx.qb;have h2:=hy.qb
  cases h1;cases h2
  injection h with h;subst h
  have hu:=Ci ht
  simp at hu
  obtain⟨e,hu⟩:=hu
  refine key ?_ (fun op ox oy=>by cases op <;> rfl) (fun op=>⟨fun e=>by subst e;rfl,fun e=>by subst e;rfl⟩)
  rw[one]
  first | exact bh hu 9999 _ _ | exact Ti hu 9999 _ | exact ah hu 9999 _ | exact Qf hu 9999 _ _ _ _ _ | exact Yg hu 9999 _ _ _ | exact Rf hu 9999
 ·have h1:=hx.qb;have h2:=hy.qb
  cases h1;cases h2
  injection h with h;subst h
  have hu:=Ci ht
  simp at hu
  obtain⟨e,hu⟩:=hu
  refine key ?_ (fun op ox oy=>by cases op <;> rfl) (fun op=>⟨fun e=>by subst e;rfl,fun e=>by subst e;rfl⟩)
  rw[one]
  first | exact bh hu 9999 _ _ | exact Ti hu 9999 _ | exact ah hu 9999 _ | exact Qf hu 9999 _ _ _ _ _ | exact Yg hu 9999 _ _ _ | exact Rf hu 9999
 ·
  split at h
  ·rename_i hc
   have h2:=hy.qb
   cases h2
   injection h with h;subst h
   have h1:=hx.Sy
   rw[h1.2.2 _ hc]
   have hu:=Ci ht
   simp at hu
   obtain⟨e,hu⟩:=hu
   rw[h1.2.2 _ hc] at key
   refine key ?_ (fun op ox oy=>by cases op <;> rfl) (fun op=>⟨fun e=>by subst e;rfl,fun e=>by subst e;rfl⟩)
   rw[one]
   first | exact bh hu 9999 _ _ | exact Ti hu 9999 _ | exact ah hu 9999 _ | exact Qf hu 9999 _ _ _ _ _ | exact Yg hu 9999 _ _ _ | exact Rf hu 9999
  ·cases h
 ·have h1:=hx.qb;have h2:=hy.qb
  cases h1;cases h2
  injection h with h;subst h
  have hu:=Ci ht
  simp at hu
  obtain⟨e,hu⟩:=hu
  refine key ?_ (fun op ox oy=>by cases op <;> rfl) (fun op=>⟨fun e=>by subst e;rfl,fun e=>by subst e;rfl⟩)
  rw[one]
  first | exact bh hu 9999 _ _ | exact Ti hu 9999 _ | exact ah hu 9999 _ | exact Qf hu 9999 _ _ _ _ _ | exact Yg hu 9999 _ _ _ | exact Rf hu 9999
 ·have h1:=hx.qb;have h2:=hy.qb
  cases h2
  obtain⟨a7,n7,c7,rfl⟩:∃ a n c,vx= .slice (some a) n c:=by cases h1 <;> exact⟨_,_,_,rfl⟩
  injection h with h;subst h
  have hu:=Ci ht
  simp at hu
  obtain⟨e,hu⟩:=hu
  refine key ?_ (fun op ox oy=>by cases op <;> rfl) (fun op=>⟨fun e=>by subst e;rfl,fun e=>by subst e;rfl⟩)
  rw[one]
  first | exact bh hu 9999 _ _ | exact Ti hu 9999 _ | exact ah hu 9999 _ | exact Qf hu 9999 _ _ _ _ _ | exact Yg hu 9999 _ _ _ | exact Rf hu 9999
 ·
  rename_i nl sz es
  have h2:=hy.qb
  cases h2
  injection h with h;subst h
  have h1:=hx.Xp
  have hu:=Ci ht
  simp at hu
  obtain⟨e,hu⟩:=hu
  cases nl with
  |true=>
   rw[(h1.2.1 rfl).1] at key ⊢
   refine key ?_ (fun op ox oy=>by cases op <;> rfl) (fun op=>⟨fun e=>by subst e;rfl,fun e=>by subst e;rfl⟩)
   rw[one]
   first | exact bh hu 9999 _ _ | exact Ti hu 9999 _ | exact ah hu 9999 _ | exact Qf hu 9999 _ _ _ _ _ | exact Yg hu 9999 _ _ _ | exact Rf hu 9999
  |false=>
   have h3:=h1.2.2.1 rfl
   obtain⟨a8,n8,c8,rfl⟩:∃ a n c,vx= .slice (some a) n c:=by cases h3 <;> exact⟨_,_,_,rfl⟩
   refine key ?_ (fun op ox oy=>by cases op <;> rfl) (fun op=>⟨fun e=>by subst e;rfl,fun e=>by subst e;rfl⟩)
   rw[one]
   first | exact bh hu 9999 _ _ | exact Ti hu 9999 _ | exact ah hu 9999 _ | exact Qf hu 9999 _ _ _ _ _ | exact Yg hu 9999 _ _ _ | exact Rf hu 9999
 ·
  split at h
  ·rename_i sz ag c fl nl hc
   split at h
   ·rename_i hcur
    injection h with h;subst h
    have h2:=hy.qb
    cases h2
    have h1:=hx.Ov
    obtain⟨k0,k⟩:=h1.2.2 _ _ _ _ _ hc
    obtain⟨o0,o1,o2,_⟩:=hS.obj _ _ hc
    obtain⟨k1,k2⟩:=k (by omega)
    have hu:=Ci ht
    simp at hu
    obtain⟨e,hu⟩:=hu
    cases nl with
    |true=>
     rw[k1 rfl] at key ⊢
     refine key ?_ (fun op ox oy=>by cases op <;> rfl) (fun op=>⟨fun e=>by subst e;rfl,fun e=>by subst e;rfl⟩)
     rw[one]
     first | exact bh hu 9999 _ _ | exact Ti hu 9999 _ | exact ah hu 9999 _ | exact Qf hu 9999 _ _ _ _ _ | exact Yg hu 9999 _ _ _ | exact Rf hu 9999
    |false=>
     rcases k2 rfl with⟨q1,q2,_⟩ | ⟨b,o,cap,q1,_,_⟩
     ·subst q1;exact absurd (List.eq_nil_of_length_eq_zero (by omega)) q2
     ·rw[q1] at key ⊢
      refine key ?_ (fun op ox oy=>by cases op <;> rfl) (fun op=>⟨fun e=>by subst e;rfl,fun e=>by subst e;rfl⟩)
      rw[one]
      first | exact bh hu 9999 _ _ | exact Ti hu 9999 _ | exact ah hu 9999 _ | exact Qf hu 9999 _ _ _ _ _ | exact Yg hu 9999 _ _ _ | exact Rf hu 9999
   ·cases h
  ·cases h
 ·have h2:=hy.qb
  cases h2
  injection h with h;subst h
  cases hx with
  |atom _ _ h=>exact h.elim
  |mi ix cs vs hc=>
   have hu:=Ci ht
   replace hu:=((hu.resolve_left (by simp)).resolve_left (by simp)).resolve_left (by simp)
   obtain⟨_,p,r,v,hu⟩:=hu
   refine key ?_ (fun op ox oy=>by cases op <;> rfl) (fun op=>⟨fun e=>by subst e;rfl,fun e=>by subst e;rfl⟩)
   rw[one]
   first | exact bh hu 9999 _ _ | exact Ti hu 9999 _ | exact ah hu 9999 _ | exact Qf hu 9999 _ _ _ _ _ | exact Yg hu 9999 _ _ _ | exact Rf hu 9999
 ·have h1:=hx.qb;have h2:=hy.qb
  cases h1;cases h2
  injection h with h;subst h
  have hu:=Ci ht
  replace hu:=((hu.resolve_left (by simp)).resolve_left (by simp)).resolve_left (by simp)
  obtain⟨_,p,r,v,hu⟩:=hu
  refine key ?_ (fun op ox oy=>by cases op <;> rfl) (fun op=>⟨fun e=>by subst e;rfl,fun e=>by subst e;rfl⟩)
  rw[one]
  first | exact bh hu 9999 _ _ | exact Ti hu 9999 _ | exact ah hu 9999 _ | exact Qf hu 9999 _ _ _ _ _ | exact Yg hu 9999 _ _ _ | exact Rf hu 9999
 ·cases h
end ops
end Go.AM
namespace Go.AM
open Go.RowKit
section
variable {P:Program} {fo:Nat→FuncId} {B0:te} {w:World} {R:Rd} {φ:Pl} {H H':List aa}
def TR (P:Program) (em:Bool) (dd:Nat) (e:TypeId) (ks:List Nat):Prop:=
 ∀ (w:World) (xs:List Value) (b:Bool),xs.length=P.cellsOf e→tf ks xs xs=some b→(Instr.checkKey em dd e (valOf P e xs)).run P w= .ok () w
theorem tt (em:Bool) (d:Nat):∀ (m:Nat) (t:TypeId) (ks:List Nat),Hf P m t=some ks→TR P em (d+m) t ks
 |0,_,_,h=>by simp[Hf] at h
 |m+1,t,ks,hk=>by
  intro w xs b hx h
  rw[show d+(m+1)=(d+m)+1 from rfl]
  rcases Lt hk with ha | ⟨ha,h1,hc⟩
  ·have vx:valOf P t xs= .agg ⟨xs⟩:=by simp[valOf,ha]
   rw[vx]
   unfold Hf at hk
   split at hk
   ·rename_i hu;simp[Yi,hu] at ha
   ·rename_i hu;simp[Yi,hu] at ha
   ·rename_i hu;simp[Yi,hu] at ha
   ·rename_i fs hu
    split at hk
    ·rename_i e
     rw[Instr.checkKey]
     simp only[Sem.run_bind,run_underlying hu,Result.andThen_ok]
     rw[← Array.forIn_toList]
     have hE:=fun t ks h=>tt em d m t ks h
     have hl:=e.1
     have h':tf ks (xs.drop 0) (xs.drop 0)=some b:=by simpa using h
     clear h e hu vx ha
     generalize P.cellsOf t=n at hl hx
     generalize 0=o at hl h'
     generalize fs.toList=L at hk hl
     induction L generalizing ks o b with
     |nil=>simp
     |cons f L ih=>
      simp only[gq] at hk
      split at hk
      ·rename_i hn
       simp only[bne_iff_ne,ne_eq] at hn
       simp only[Option.bind_eq_some_iff,Option.map_eq_some_iff] at hk
       obtain⟨k1,e1,k2,e2,rfl⟩:=hk
       simp only[Xv] at hl
       split at hl
       ·rename_i ho
        subst ho
        have hle:=Oq (P:=P) (fun t ks h=>Nf (m:=m) h) e2 hl
        have hlen:=Nf e1
        have px:=Qp (w:=w) e1 (xs:=xs) (off:=f.offset) (by omega)
        rw[← List.take_append_drop (P.cellsOf f.type) (xs.drop f.offset)] at h'
        obtain⟨c,g,h3,h4,rfl⟩:=pk (by simp;omega) rfl h'
        rw[List.drop_drop] at h4
        have he:=hE _ _ e1 w _ c (by simp;omega) h3
        simp only[List.forIn_cons,Sem.run_bind,hn,ne_eq,not_false_eq_true,if_true,Result.andThen_ok,px,he,Sem.run_pure]
        exact ih _ _ _ h4 e2 hl
       ·cases hl
      ·cases hk
    ·cases hk
   ·rename_i n e hu
    split at hk
    ·rename_i hsz
     simp only[Option.map_eq_some_iff] at hk
     obtain⟨a,h3,rfl⟩:=hk
     rw[Instr.checkKey]
     simp only[Sem.run_bind,run_underlying hu,Result.andThen_ok]
     simp only[Std.Legacy.Range.forIn_eq_forIn_range',Std.Legacy.Range.size,Nat.sub_zero,Nat.add_one_sub_one,Nat.div_one]
     have hE:=tt em d m e a h3
     have hlen:=Nf h3
     have hx':xs.length=(0+n) * P.cellsOf e:=by rw[hx,hsz,Nat.zero_add]
     have h':tf (mD n a) (xs.drop (0 * P.cellsOf e)) (xs.drop (0 * P.cellsOf e))=some b:=by simpa using h
     clear hx h hsz hu vx ha
     generalize 0=i at hx' h'
     induction n generalizing i b with
     |zero=>simp
     |succ k ih=>
      have hxl:i * P.cellsOf e+P.cellsOf e≤xs.length:=by
       rw[hx',←Nat.succ_mul];exact Nat.mul_le_mul_right _ (by omega)
      have px:=Qp (w:=w) h3 (xs:=xs) (off:=i * P.cellsOf e) hxl
      rw[mD,←List.take_append_drop (P.cellsOf e) (xs.drop _)] at h'
      obtain⟨c,g,h5,h4,rfl⟩:=pk (by simp;omega) rfl h'
      rw[List.drop_drop,←Nat.succ_mul] at h4
      have hq:=hE w _ c (by simp;omega) h5
      rw[List.range'_succ]
      simp only[List.forIn_cons,Sem.run_bind,Ob (Lu h3),Result.andThen_ok,px,hq,Sem.run_pure]
      exact ih _ _ (by rw[hx'];congr 1;omega) h4
    ·cases hk
   ·cases hk
  ·rw[h1] at hx
   match xs,hx with
   | [x],_=>
     have vx:valOf P t [x]=x:=by simp[valOf,ha]
     rw[vx]
     have one:∀ k,ks=[k]→zo k x x=some b:=by
      rintro k rfl
      simpa[tf] using h
     rw[Instr.checkKey]
     rcases hc with⟨hu,rfl⟩ | ⟨⟨kk,hu⟩,rfl⟩ | ⟨hu,rfl⟩
     ·simp[run_underlying hu]
     ·simp[run_underlying hu]
     ·simp[run_underlying hu]
theorem tH:∀ {ks:List Nat} {xs ys:List Value} {b:Bool},tf ks xs ys=some b→xs.length=ks.length∧ys.length=ks.length:=by
 intro ks
 induction ks with
 |nil=>intro xs ys b h;cases xs <;> cases ys <;> simp_all [tf]
 |cons k ks ih=>
  intro xs ys b h
  cases xs <;> cases ys <;> simp only[tf,Option.bind_eq_some_iff,Option.map_eq_some_iff] at h
  ·cases h
  ·cases h
  ·cases h
  ·obtain⟨_,_,_,h2,_⟩:=h
   have:=ih h2
   simp[this.1,this.2]
theorem zv {t:TypeId} {kd:Kd} (hk:dw P t kd=true) {p:PV} {v:Value} (hp:Ea R p v) {b:Bool} (h:Zi kd p p=some b) (em:Bool):(Instr.checkKey em 10000 t v).run P w= .ok () w:=by
 show (Instr.checkKey em (9992+8) t v).run P w=_
 cases kd with
 |one c=>
  simp only[dw,Bool.and_eq_true,beq_iff_eq] at hk
  have:=tt em 9992 8 t [c] hk.1 w [v] b (by have:=Nf hk.1;simpa using this) (by
   simp only[Zi] at h
   simp[tf,dp hp hp h])
  simpa[valOf,hk.2] using this
 |row ks=>
  simp only[dw,Bool.and_eq_true,beq_iff_eq] at hk
  have hs:∃ xs,p= .agg xs:=by cases p <;> simp[Zi] at h;exact⟨_,rfl⟩
  obtain⟨xs,rfl⟩:=hs
  simp only[Zi] at h
  cases hp with
  |agg _ vs h1=>
   have hr:=Yu h1 h1 h
   have hl:=tH hr
   have hn:=Nf hk.1
   have:=tt em 9992 8 t ks hk.1 w vs b (by omega) hr
   simpa[valOf,hk.2] using this
theorem Zx {k:Nat} {x y:Value} (h:zo k x y=some true):x=y:=by
 rcases Di h with⟨_,c,d,rfl,rfl,e⟩ | ⟨_,i,c,d,rfl,rfl,e⟩ | ⟨_,c,d,rfl,rfl,e⟩
 ·have:=eq_of_beq e.symm;rw[this]
 ·have:=eq_of_beq e.symm;rw[this]
 ·have:c=d:=by
   have e:=e.symm
   obtain⟨⟨c⟩⟩:=c;obtain⟨⟨d⟩⟩:=d
   have h2:((⟨c⟩:Array UInt8)==⟨d⟩)=true:=e
   have:=eq_of_beq h2
   simp at this
   rw[this]
  rw[this]
theorem jA:∀ {ks:List Nat} {xs ys:List Value},tf ks xs ys=some true→xs=ys
 | [],[],[],_=>rfl
 |k::ks,x::xs,y::ys,h=>by
  simp only[tf,Option.bind_eq_some_iff,Option.map_eq_some_iff] at h
  obtain⟨b,h1,c,h2,h3⟩:=h
  simp only[Bool.and_eq_true] at h3
  obtain⟨rfl,rfl⟩:=h3
  rw[Zx h1,jA h2]
 | [],[],_::_,h=>by simp[tf] at h
 | [],_::_,_,h=>by simp[tf] at h
 |_::_,[],_,h=>by simp[tf] at h
 |_::_,_::_,[],h=>by simp[tf] at h
theorem xL {kd:Kd} {p q:PV} {v u:Value} (hp:Ea R p v) (hq:Ea R q u) (h:Zi kd p q=some true):v=u∧∀ n,Instr.sameBits (n+2) u u=true:=by
 have atom:∀ {c:Nat} {x y:Value} {b:Bool},zo c x y=some b→∀ n,Instr.sameBits n x x=true:=by
  intro c x y b hc n
  rcases Di hc with⟨_,c,d,rfl,rfl,_⟩ | ⟨_,i,c,d,rfl,rfl,_⟩ | ⟨_,c,d,rfl,rfl,_⟩
  ·cases n <;> simp[Instr.sameBits]
  ·cases n <;> simp[Instr.sameBits]
  ·cases n <;> (simp only[Instr.sameBits];obtain⟨⟨c⟩⟩:=c;show ((⟨c⟩:Array UInt8)==⟨c⟩)=true;simp)
 unfold Zi at h
 split at h
 ·have h1:=dp hp hq h
  have e:=Zx h1
  subst e
  exact⟨rfl,fun n=>atom h1 _⟩
 ·cases hp with
  |agg _ vs h1=>
   cases hq with
   |agg _ us h2=>
    have hr:=Yu h1 h2 h
    have e:=jA hr
    subst e
    refine⟨rfl,fun n=> ?_⟩
    simp only[Instr.sameBits,beq_self_eq_true,Bool.true_and]
    clear h1 h2 h
    rw[List.all_eq_true]
    rintro⟨x,y⟩ hm
    rename_i ks _ _
    induction ks generalizing vs with
    |nil=>cases vs with
     |nil=>simp at hm
     |cons=>simp[tf] at hr
    |cons k ks ih=>
     cases vs with
     |nil=>simp at hm
     |cons z zs=>
      simp only[tf,Option.bind_eq_some_iff,Option.map_eq_some_iff] at hr
      obtain⟨b,q1,c,q2,q3⟩:=hr
      simp only[Bool.and_eq_true] at q3
      obtain⟨rfl,rfl⟩:=q3
      simp only[List.zip_cons_cons,List.mem_cons,Prod.mk.injEq] at hm
      rcases hm with⟨rfl,rfl⟩ | hm
      ·exact atom q1 _
      ·exact ih zs q2 hm
 ·cases h
def WK (R:Rd) (kd:Kd) (k:PV) (es:List (PV×PV)) (ents:List MapEntry) (i:Nat):Option (Nat×PV)→Option (Nat×Value)→Prop
 |none,none=>True
 |some (a,p),some (b,u)=>a=b∧∃ j e x,a=i+j∧es[j]? =some e∧ents[j]? =some x∧e.2=p∧x.val=u∧Ea R p u∧Ea R e.1 x.key∧Zi kd k e.1=some true
 |_,_=>False
theorem WK.succ {kd:Kd} {k:PV} {es:List (PV×PV)} {ents:List MapEntry} {i:Nat} {e:PV×PV} {x:MapEntry} {r:Option (Nat×PV)} {r':Option (Nat×Value)} (h:WK R kd k es ents (i+1) r r'):WK R kd k (e::es) (x::ents) i r r':=by
 cases r with
 |none=>cases r' with
  |none=>trivial
  |some=>exact h.elim
 |some r=>cases r' with
  |none=>exact h.elim
  |some r'=>
   obtain⟨h1,j,e',x',h2,h3⟩:=h
   exact⟨h1,j+1,e',x',by omega,h3⟩
theorem fu {t:TypeId} {kd:Kd} (hk:dw P t kd=true) {k:PV} {v:Value} (hv:Ea R k v):∀ {es:List (PV×PV)} {ents:List MapEntry} {i:Nat} {r:Option (Nat×PV)},Ys R es ents→Dj kd k es i=some r→
 ∃ r',(Instr.findAsking t v ents i).run P w= .ok r' w∧WK R kd k es ents i r r'
 | [],[],i,r,_,h=>by
   simp only[Dj,Option.some.injEq] at h;subst h
   exact⟨none,by simp[Instr.findAsking],trivial⟩
 |e::es,x::ents,i,r,⟨m1,m2,m3⟩,h=>by
  simp only[Dj,Option.bind_eq_some_iff] at h
  obtain⟨b,h1,h2⟩:=h
  have hr:=uA (w:=w) hk hv m1 h1
  cases b with
  |true=>
   simp only[if_true,Option.some.injEq] at h2;subst h2
   exact⟨some (i,x.val),by simp[Instr.findAsking,hr],rfl,0,e,x,rfl,rfl,rfl,rfl,rfl,m2,m1,h1⟩
  |false=>
   simp only[Bool.false_eq_true,if_false] at h2
   obtain⟨r',h3,h4⟩:=fu hk hv m3 h2
   exact⟨r',by simp[Instr.findAsking,hr,h3],h4.succ⟩
 | [],_::_,_,_,h,_=>h.elim
 |_::_,[],_,_,h,_=>h.elim
theorem ZH {d:TypeDesc} {c:Nat} {x y:Value} {b:Bool} (hd:(d= .bool∧c=0)∨((∃ k,d= .int k)∧c=1)∨(d= .string∧c=2)) (h:zo c x y=some b):Instr.sameNow d x y=some b:=by
 rcases hd with⟨rfl,rfl⟩ | ⟨⟨k,rfl⟩,rfl⟩ | ⟨rfl,rfl⟩
 ·rcases Di h with⟨_,c,d,rfl,rfl,rfl⟩ | ⟨h,_⟩ | ⟨h,_⟩
  ·rfl
  ·cases h
  ·cases h
 ·rcases Di h with⟨h,_⟩ | ⟨_,i,c,d,rfl,rfl,rfl⟩ | ⟨h,_⟩
  ·cases h
  ·simp[Instr.sameNow]
  ·cases h
 ·rcases Di h with⟨h,_⟩ | ⟨h,_⟩ | ⟨_,c,d,rfl,rfl,rfl⟩
  ·cases h
  ·cases h
  ·rfl
theorem Zz {d:TypeDesc} {c:Nat} (hd:(d= .bool∧c=0)∨((∃ k,d= .int k)∧c=1)∨(d= .string∧c=2)) {k:PV} {v:Value} (hv:Ea R k v):∀ {es:List (PV×PV)} {ents:List MapEntry} {i:Nat} {r:Option (Nat×PV)},Ys R es ents→Dj (.one c) k es i=some r→
 ∃ r',Instr.findNow d v ents i=some r'∧WK R (.one c) k es ents i r r'
 | [],[],i,r,_,h=>by
   simp only[Dj,Option.some.injEq] at h;subst h
   exact⟨none,rfl,trivial⟩
 |e::es,x::ents,i,r,⟨m1,m2,m3⟩,h=>by
  simp only[Dj,Option.bind_eq_some_iff] at h
  obtain⟨b,h1,h2⟩:=h
  have hr:=ZH hd (dp hv m1 h1)
  cases b with
  |true=>
   simp only[if_true,Option.some.injEq] at h2;subst h2
   exact⟨some (i,x.val),by simp[Instr.findNow,hr],rfl,0,e,x,rfl,rfl,rfl,rfl,rfl,m2,m1,h1⟩
  |false=>
   simp only[Bool.false_eq_true,if_false] at h2
   obtain⟨r',h3,h4⟩:=Zz hd hv m3 h2
   exact⟨r',by simp[Instr.findNow,hr,h3],h4.succ⟩
 | [],_::_,_,_,h,_=>h.elim
 |_::_,[],_,_,h,_=>h.elim
theorem Zy {t:TypeId} {kd:Kd} (hk:dw P t kd=true) {k:PV} {v:Value} (hv:Ea R k v) {es:List (PV×PV)} {ents:List MapEntry} {r:Option (Nat×PV)} (hm:Ys R es ents) (h:Dj kd k es 0=some r):
 ∃ r',(Instr.findKey t v ents).run P w= .ok r' w∧WK R kd k es ents 0 r r':=by
 cases kd with
 |one c=>
  have hk2:=hk
  simp only[dw,Bool.and_eq_true,beq_iff_eq] at hk2
  have hd:∃ d,P.underlying t=some d∧((d= .bool∧c=0)∨((∃ k,d= .int k)∧c=1)∨(d= .string∧c=2)):=by
   rcases Lt hk2.1 with ha | ⟨_,_,hc⟩
   ·rw[hk2.2] at ha;cases ha
   ·rcases hc with⟨hu,e⟩ | ⟨⟨kk,hu⟩,e⟩ | ⟨hu,e⟩
    ·exact⟨_,hu,.inl ⟨rfl,by simpa using e⟩⟩
    ·exact⟨_,hu,.inr (.inl ⟨⟨kk,rfl⟩,by simpa using e⟩)⟩
    ·exact⟨_,hu,.inr (.inr ⟨rfl,by simpa using e⟩)⟩
  obtain⟨d,hu,hd⟩:=hd
  obtain⟨r',h1,h2⟩:=Zz hd hv hm h
  exact⟨r',by simp[Instr.findKey,run_underlying hu,h1],h2⟩
 |row ks=>
  have hk2:=hk
  simp only[dw,Bool.and_eq_true,beq_iff_eq] at hk2
  obtain⟨r',h1,h2⟩:=fu (w:=w) hk hv hm h
  have hu:∃ d,P.underlying t=some d∧∀ x y,Instr.sameNow d x y=none:=by
   have ha:=hk2.2
   unfold Yi at ha
   split at ha
   ·rename_i fs hu;exact⟨_,hu,fun x y=>by cases x <;> rfl⟩
   ·rename_i n e hu;exact⟨_,hu,fun x y=>by cases x <;> rfl⟩
   ·cases ha
   ·cases ha
  obtain⟨d,hu,hs⟩:=hu
  cases ents with
  |nil=>
   refine⟨r',?_,h2⟩
   simp only[Instr.findAsking,Sem.run_pure] at h1
   simp only[Instr.findKey,Sem.run_bind,run_underlying hu,Result.andThen_ok,Instr.findNow,Sem.run_pure]
   exact h1
  |cons x xs=>exact⟨r',by simp[Instr.findKey,run_underlying hu,Instr.findNow,hs,h1],h2⟩
theorem K.map_set {id:Nat} {c c':List (PV×PV)} (hc:H[id]? =some (.map c)) (a:AV) (v:Value) (h:K R φ H a v):K R (tj φ id (φ id)) (H.set id (.map c')) a v:=by
 have hφ:tj φ id (φ id)=φ:=by
  funext i
  unfold tj
  split
  ·rename_i e;rw[e]
  ·rfl
 rw[hφ]
 have hid:=getElem?_lt hc
 have Bl:∀ {i:Nat} {x:aa},(H.set id (.map c'))[i]? =some x→(i≠id∧H[i]? =some x)∨(i=id∧x= .map c'):=by
  intro i x hx
  by_cases h:i=id
  ·subst h;rw[List.getElem?_set_self hid] at hx;injection hx with hx;exact .inr ⟨rfl,hx.symm⟩
  ·rw[List.getElem?_set_ne (Ne.symm h)] at hx;exact .inl ⟨h,hx⟩
 cases a with
 |pv p=>exact h
 |ptr i off=>
  refine⟨by simpa using h.1,h.2.1,fun c1 h1=> ?_⟩
  rcases Bl h1 with⟨_,h2⟩ | ⟨rfl,h2⟩
  ·exact h.2.2 _ h2
  ·cases h2
 |ic i n off=>
  refine⟨by simpa using h.1,h.2.1,fun sz ag c1 fl nl h1=> ?_⟩
  rcases Bl h1 with⟨_,h2⟩ | ⟨rfl,h2⟩
  ·exact h.2.2 _ _ _ _ _ h2
  ·cases h2
 |uq i nl sz es=>
  refine⟨by simpa using h.1,h.2.1,h.2.2.1,fun sz' n nl' h1=> ?_⟩
  rcases Bl h1 with⟨_,h2⟩ | ⟨rfl,h2⟩
  ·exact h.2.2.2 _ _ _ h2
  ·cases h2
 |own i len=>
  refine⟨by simpa using h.1,h.2.1,fun sz ag c1 fl nl h1=> ?_⟩
  rcases Bl h1 with⟨_,h2⟩ | ⟨rfl,h2⟩
  ·exact h.2.2 _ _ _ _ _ h2
  ·cases h2
 |mp i=>
  refine⟨by simpa using h.1,h.2.1,fun es h1=> ?_⟩
  rcases Bl h1 with⟨_,h2⟩ | ⟨rfl,_⟩
  ·exact h.2.2 _ h2
  ·exact h.2.2 _ hc
 |mi ix cs=>exact h.elim
 |agg cs=>exact h.elim
 |dc cs=>exact h.elim
 |undef=>exact h.elim
theorem UC {t:TypeId} {kd:Kd} (h:PH P t kd=true):∃ k e,P.underlying t=some (.map k e)∧dw P k kd=true:=by
 unfold PH at h
 split at h
 ·rename_i k e hu;exact⟨k,e,hu,h⟩
 ·cases h
theorem jM {t k e:TypeId} {zero:PV} (hu:P.underlying t=some (.map k e)) (h:GQ P t zero=true):∃ z,(∀ w,(zeroValue e).run P w= .ok z w)∧∀ R,Ea R zero z:=by
 unfold GQ at h
 simp only[hu] at h
 cases hi:P.info? e with
 |none=>simp[hi] at h
 |some i=>
  simp only[hi] at h
  cases hz:i.zero with
  |none=>simp[hz] at h
  |some z=>
   simp only[hz] at h
   refine⟨z,fun w=>by simp[zeroValue,run_typeInfo w hi,hz],fun R=> ?_⟩
   split at h
   ·rename_i cs ps e1
    injection e1 with e1
    subst e1
    exact .agg _ _ (Ki (R:=R) h).1
   ·rename_i z' p e1 e2
    injection e1 with e1
    subst e1
    exact Vr h
   ·cases h
theorem uK (hS:Kb fo B0 w R φ H) (t:TypeId):ij fo B0 w R φ H P (Instr.makeMap t none) (.mp H.length) (H++[.map []]):=by
 have hk:=fun a v=>K.push (R:=R) (φ:=φ) (H:=H) (.map []) (w.heap.size,0) a v
 refine⟨.map (some w.heap.size),{w with heap:=w.heap.push (.map #[] 0)},R,AM.tj φ H.length (w.heap.size,0),?_,?_,?_,hk,Ou hS.low hS.slt _⟩
 ·simp[Instr.makeMap,run_newObj]
 ·refine hS.push (by simp) (fun b hb=>Tf hb) (fun _ _ _=>rfl) (fun b o v h=> ?_) hk (fun _=>Nat.le_refl _) ?_
  ·have:=hS.sub b o v h
   rw[aD (Ri this)];exact this
  ·refine⟨by rw[ab];exact hS.low,by rw[ab];exact hS.Mv (Nat.le_refl _),#[],0,?_,trivial⟩
   rw[ab];simp
 ·exact .atom _ _ ⟨by simp,rfl,fun c _=>by rw[ab]⟩
theorem Xb.oP {K:AV→Value→Prop} {id:Nat} {v:Value} (h:Xb fo K (.mp id) v):K (.mp id) v:=by cases h with | atom _ _ h=>exact h
def xR (zero:PV) (ok:Bool):Option (Nat×PV)→AV
 |some (_,x)=>(if ok then .pv (.dc [x,.bool true]) else .pv x)
 |none=>(if ok then .pv (.dc [zero,.bool false]) else .pv zero)
theorem zz (hS:Kb fo B0 w R φ H) {t:TypeId} {kd:Kd} {zero:PV} (h1:PH P t kd=true) (h2:GQ P t zero=true) {m:AV} {k:PV} {vm vk:Value} (hm:Xb fo (K R φ H) m vm) (hk:Ea R k vk) (ok:Bool) {es:List (PV×PV)}
 (hes:m= .pv .Vp∧es=[]∨∃ id,m= .mp id∧H[id]? =some (.map es)) (hkk:(Zi kd k k).isSome=true) {r:Option (Nat×PV)} (hf:Dj kd k es 0=some r):
 ∃ u,(Instr.lookup t vm vk ok).run P w= .ok u w∧Xb fo (K R φ H) (xR zero ok r) u:=by
 obtain⟨kt,e,hu,hkd⟩:=UC h1
 obtain⟨z,hz,hzr⟩:=jM hu h2
 obtain⟨b,hb⟩:=Option.isSome_iff_exists.1 hkk
 have go:∀ (ents:Array MapEntry),Ys R es ents.toList→∃ u,(do
  Instr.checkKey ents.isEmpty 10000 kt vk
  let (v,okk) ←match ←Instr.findKey kt vk ents.toList with
   |some (_,v)=>pure (v,true)
   |none=>pure (← zeroValue e,false)
  pure (if ok then .tuple #[v,.bool okk] else v):Sem Value).run P w= .ok u w∧Xb fo (K R φ H) (xR zero ok r) u:=by
  intro ents hE
  have hc:=zv (w:=w) hkd hk hb ents.isEmpty
  obtain⟨r',h3,h4⟩:=Zy (w:=w) hkd hk hE hf
  cases r with
  |none=>
   cases r' with
   |some=>exact h4.elim
   |none=>
    cases ok with
    |true=>exact⟨.tuple #[z,.bool false],by simp[hc,h3,hz w],.atom _ _ (show Ea R _ _ from .dc _ _ (.cons _ _ _ _ (hzr R) (.cons _ _ _ _ (.bool _) .nil)))⟩
    |false=>exact⟨z,by simp[hc,h3,hz w],.atom _ _ (show Ea R _ _ from hzr R)⟩
  |some r=>
   cases r' with
   |none=>exact h4.elim
   |some r'=>
    obtain⟨a,p⟩:=r;obtain⟨b,u⟩:=r'
    obtain⟨_,j,e',x',_,_,_,_,_,hpu,_⟩:=h4
    cases ok with
    |true=>exact⟨.tuple #[u,.bool true],by simp[hc,h3],.atom _ _ (show Ea R _ _ from .dc _ _ (.cons _ _ _ _ hpu (.cons _ _ _ _ (.bool _) .nil)))⟩
    |false=>exact⟨u,by simp[hc,h3],.atom _ _ (show Ea R _ _ from hpu)⟩
 rcases hes with⟨rfl,rfl⟩ | ⟨id,rfl,hid⟩
 ·have:=hm.qb
  cases this
  obtain⟨u,h5,h6⟩:=go #[] trivial
  refine⟨u,?_,h6⟩
  rw[← h5]
  simp only[Instr.lookup,Sem.run_bind,run_underlying hu,Result.andThen_ok,Sem.run_pure]
  rfl
 ·have hk2:=hm.oP
  rw[hk2.2.2 _ hid]
  obtain⟨_,_,ents,clk,h7,h8⟩:=hS.obj _ _ hid
  obtain⟨u,h5,h6⟩:=go ents h8
  refine⟨u,?_,h6⟩
  rw[← h5]
  have hg:(getObj (φ id).1).run P w= .ok (.map ents clk) w:=by simp[getObj,Sem.run,h7]
  simp only[Instr.lookup,Sem.run_bind,run_underlying hu,Result.andThen_ok,hg,Sem.run_pure]
  rfl
theorem Ys.push {es:List (PV×PV)} {xs:List MapEntry} {e:PV×PV} {x:MapEntry} (h:Ys R es xs) (h1:Ea R e.1 x.key) (h2:Ea R e.2 x.val):Ys R (es++[e]) (xs++[x]):=by
 induction es generalizing xs with
 |nil=>cases xs with
  |nil=>exact⟨h1,h2,trivial⟩
  |cons=>exact h.elim
 |cons a as ih=>cases xs with
  |nil=>exact h.elim
  |cons y ys=>exact⟨h.1,h.2.1,ih h.2.2⟩
theorem Ys.set {es:List (PV×PV)} {xs:List MapEntry} {e:PV×PV} {x:MapEntry} (h:Ys R es xs) (h1:Ea R e.1 x.key) (h2:Ea R e.2 x.val):∀ i,Ys R (es.set i e) (xs.set i x):=by
 induction es generalizing xs with
 |nil=>intro i;cases xs with
  |nil=>trivial
  |cons=>exact h.elim
 |cons a as ih=>intro i;cases xs with
  |nil=>exact h.elim
  |cons y ys=>cases i with
   |zero=>exact⟨h1,h2,h.2.2⟩
   |succ i=>exact⟨h.1,h.2.1,ih h.2.2 i⟩
def YI (w:World) (b:Nat) (ents:Array MapEntry) (clk:Nat):World:={w with heap:=w.heap.setIfInBounds b (.map ents clk)}
theorem Wz (hS:Kb fo B0 w R φ H) {t:TypeId} {kd:Kd} (h1:PH P t kd=true) {id:Nat} {k x:PV} {vm vk vx:Value} (hm:Xb fo (K R φ H) (.mp id) vm) (hk:Ea R k vk) (hx:Ea R x vx) {es:List (PV×PV)}
 (hid:H[id]? =some (.map es)) (hkk:(Zi kd k k).isSome=true) {r:Option (Nat×PV)} (hf:Dj kd k es 0=some r):
 ∃ w' φ',(Instr.mapUpdate t vm vk vx).run P w= .ok () w'∧Kb fo B0 w' R φ' (H.set id (.map (match r with | some (i,_)=>es.set i (k,x) | none=>es++[(k,x)])))∧
  (∀ a u,K R φ H a u→K R φ' (H.set id (.map (match r with | some (i,_)=>es.set i (k,x) | none=>es++[(k,x)]))) a u)∧Xe B0 w w':=by
 obtain⟨kt,e,hu,hkd⟩:=UC h1
 obtain⟨b,hb⟩:=Option.isSome_iff_exists.1 hkk
 have hk2:=hm.oP
 rw[hk2.2.2 _ hid]
 obtain⟨o1,o2,ents,clk,h7,h8⟩:=hS.obj _ _ hid
 have hc:=zv (w:=w) hkd hk hb false
 obtain⟨r',h3,h4⟩:=Zy (w:=w) hkd hk h8 hf
 have hlt:(φ id).1 < w.heap.size:=by
  rcases Nat.lt_or_ge (φ id).1 w.heap.size with hlt | hge
  ·exact hlt
  ·rw[Array.getElem?_eq_none hge] at h7;cases h7
 have hg:(getObj (φ id).1).run P w= .ok (.map ents clk) w:=by simp[getObj,Sem.run,h7]
 have hset:∀ o,(setObj (φ id).1 o).run P w= .ok () {w with heap:=w.heap.setIfInBounds (φ id).1 o}:=fun o=>by simp[setObj,Sem.run,h7]
 have heap:∀ {ents':Array MapEntry} {clk' j:Nat},j≠(φ id).1→(YI w (φ id).1 ents' clk').heap[j]? =w.heap[j]? :=by
  intro ents' clk' j hj
  simp only[YI]
  rw[Array.getElem?_setIfInBounds_ne (Ne.symm hj)]
 have fin:∀ (ents':Array MapEntry) (clk':Nat) (es':List (PV×PV)),Ys R es' ents'.toList→(Instr.mapUpdate t (.map (some (φ id).1)) vk vx).run P w= .ok () (YI w (φ id).1 ents' clk')→
  ∃ w' φ',(Instr.mapUpdate t (.map (some (φ id).1)) vk vx).run P w= .ok () w'∧Kb fo B0 w' R φ' (H.set id (.map es'))∧(∀ a u,K R φ H a u→K R φ' (H.set id (.map es')) a u)∧Xe B0 w w':=by
  intro ents' clk' es' hM hrun
  have hkk:=fun a v=>K.map_set (R:=R) (φ:=φ) (c':=es') hid a v
  refine⟨_,tj φ id (φ id),hrun,?_,hkk,.OD h7 rfl rfl rfl rfl (by simp[YI]) o1 hS.slt (hS.free id ⟨_,hid,trivial⟩) fun k _ hne=>heap hne⟩
  refine hS.tj (w':=YI w (φ id).1 ents' clk') hid (by simp[YI]) (fun b hb hne=>heap (hne trivial)) (fun _ _ _ _=>rfl) (fun b o v hv=> ?_) hkk (fun _=> .inl ⟨trivial,rfl⟩) ?_
  ·rw[Ud (heap (fun e=>by subst e;rw[o2] at hv;cases hv))];exact hS.sub b o v hv
  ·refine⟨by rw[ab];exact o1,by rw[ab];exact o2,ents',clk',?_,hM⟩
   rw[ab]
   simp[YI,hlt]
 cases r with
 |none=>
  cases r' with
  |some=>exact h4.elim
  |none=>
   refine fin (ents.push {key:=vk,val:=vx,born:=clk}) (clk+1) (es++[(k,x)]) ?_ ?_
   ·simpa using h8.push (e:=(k,x)) (x:={key:=vk,val:=vx,born:=clk}) hk hx
   ·simp only[Instr.mapUpdate,Sem.run_bind,run_underlying hu,Result.andThen_ok,hg,hc,h3]
    rw[hset]
    rfl
 |some r=>
  cases r' with
  |none=>exact h4.elim
  |some r'=>
   obtain⟨a,p⟩:=r;obtain⟨i,u⟩:=r'
   obtain⟨rfl,j,e',x',hj,he',hx',_,_,_,hke,heq⟩:=h4
   have hj':a=j:=by omega
   subst hj'
   obtain⟨hveq,hsb⟩:=xL hk hke heq
   have hge:ents[a]? =some x':=by simpa using hx'
   refine fin (ents.modify a fun e=>{e with key:=vk,val:=vx}) clk (es.set a (k,x)) ?_ ?_
   ·have hmod:(ents.modify a fun e=>{e with key:=vk,val:=vx}).toList=ents.toList.set a {x' with key:=vk,val:=vx}:=by
     apply List.ext_getElem?
     intro q
     rw[Array.getElem?_toList,Array.getElem?_modify,List.getElem?_set]
     by_cases hq:a=q
     ·subst hq
      have hlt2:a < ents.size:=by simpa using getElem?_lt hx'
      have hga:ents[a]=x':=by rw[Array.getElem?_eq_getElem hlt2] at hge;injection hge
      simp[hge,hlt2,hga]
     ·simp[hq]
    rw[hmod]
    exact h8.set (e:=(k,x)) (x:={x' with key:=vk,val:=vx}) hk hx a
   ·have hks:(Instr.keyThatStays x'.key vk).run P w= .ok vk w:=by
     have:=hsb 9998
     rw[← hveq] at this ⊢
     simp only[Instr.keyThatStays]
     rw[if_pos this]
     simp
    simp only[Instr.mapUpdate,Sem.run_bind,run_underlying hu,Result.andThen_ok,hg,hc,h3,hge,Option.map_some,Option.getD_some,hks]
    rw[hset]
    rfl
theorem Xu {t:TypeId} (hg:P.eqGuardType P.depth t=false) (op:BinOp) (ox oy:Operand) {p q:PV} {v u:Value} {kd:Kd} (hp:Ea R p v) (hq:Ea R q u) {b:Bool} (h:Zi kd p q=some b):(eqGuard op t ox oy v u).run P w= .ok () w:=by
 have VO:∀ xs ys,(eqGuard op t ox oy (.agg xs) (.agg ys)).run P w= .ok () w:=by
  intro xs ys
  cases op <;> simp[eqGuard,hg,Go.program,Sem.run]
 unfold Zi at h
 split at h
 ·rcases Gz h with⟨_,c,d,rfl,rfl,_⟩ | ⟨_,i,c,d,rfl,rfl,_⟩ | ⟨_,c,d,rfl,rfl,_⟩ <;> cases hp <;> cases hq <;> cases op <;> rfl
 ·cases hp;cases hq;exact VO _ _
 ·cases h
theorem K.kill {id:Nat} {o:aa} (hid:H[id]? =some o) (a:AV) (v:Value) (hk:K R φ H a v):K R (tj φ id (φ id)) (H.set id .dead) a v:=by
 have hl:(H.set id .dead).length=H.length:=by simp
 have inv:∀ {i:Nat} {x:aa},(H.set id .dead)[i]? =some x→x≠ .dead→i≠id∧H[i]? =some x:=by
  intro i x hx hd
  by_cases e:i=id
  ·subst e;rw[List.getElem?_set_self (getElem?_lt hid)] at hx;injection hx with hx;exact absurd hx.symm hd
  ·rw[List.getElem?_set_ne (Ne.symm e)] at hx;exact⟨e,hx⟩
 cases a with
 |pv p=>exact hk
 |ptr i off=>exact⟨by rw[hl];exact hk.1,hk.2.1,fun c hc=>by obtain⟨q1,q2⟩:=inv hc (by simp);rw[Uc _ _ q1];exact hk.2.2 c q2⟩
 |ic i n off=>exact⟨by rw[hl];exact hk.1,hk.2.1,fun sz ag c fl nl hc=>by obtain⟨q1,q2⟩:=inv hc (by simp);rw[Uc _ _ q1];exact hk.2.2 _ _ _ _ _ q2⟩
 |uq i nl sz es=>exact⟨by rw[hl];exact hk.1,hk.2.1,hk.2.2.1,fun sz n nl hc=>by obtain⟨q1,q2⟩:=inv hc (by simp);rw[Uc _ _ q1];exact hk.2.2.2 _ _ _ q2⟩
 |own i n=>exact⟨by rw[hl];exact hk.1,hk.2.1,fun sz ag c fl nl hc=>by obtain⟨q1,q2⟩:=inv hc (by simp);rw[Uc _ _ q1];exact hk.2.2 _ _ _ _ _ q2⟩
 |mp i=>exact⟨by rw[hl];exact hk.1,hk.2.1,fun es hc=>by obtain⟨q1,q2⟩:=inv hc (by simp);rw[Uc _ _ q1];exact hk.2.2 _ q2⟩
 |mi=>exact hk.elim
 |agg=>exact hk.elim
 |dc=>exact hk.elim
 |undef=>exact hk.elim
theorem SM {o:Oper} {a:Act} {s:TypeId} {x:Operand} (ho:o.op= .convert s s x) (hS:Kb fo B0 w R φ H) {id n:Nat} {es:List PV} (hr:Xb fo (K R φ H) (.uq id false 1 es) (a.eval x)) (hid:H[id]? =some (.tok 1 n false)) (hn:n=es.length)
 (hsl:(match Br P s with | some el=>AS P el | none=>false)=true):cv P fo B0 o a w R φ H (.pv (.lit 1 es)) (H.set id .dead):=by
 cases hel:Br P s with
 |none=>simp[hel] at hsl
 |some el=>
  simp only[hel] at hsl
  have hu:=Pk hel
  have he:P.underlying el=some (.int .u8):=by
   unfold AS at hsl
   split at hsl
   ·assumption
   ·cases hsl
  have hk:=hr.Xp
  obtain⟨_,hk4⟩:=hk.2.2.2 _ _ _ hid
  obtain⟨_,_,hv⟩:=hk4 hn
  have hv:=hv rfl
  have hp:=hk.2.2.1 rfl
  obtain⟨h0,_,h3⟩:=hS.obj _ _ hid
  obtain⟨o1,o2,arr,⟨ty,fz,hb,hf⟩,o4,o5⟩:=h3 rfl
  have hlt:(φ id).1 < w.heap.size:=au.lt ⟨ty,fz,hb,hf⟩
  have hmark:(convert s s (a.eval x)).run P w= .ok (a.eval x) (w.freeze ⟨(φ id).1,arr.size,none⟩ 1):=by
   rw[hv]
   simp[convert,run_underlying hu,run_underlying he,markStringish,World.shape?,hb]
  intro next Q hn'
  unfold Oper.wp
  have:(execOp a.eval o).run P w= .ok (.value (a.eval x)) (w.freeze ⟨(φ id).1,arr.size,none⟩ 1):=by simp[execOp,ho,hmark]
  rw[this]
  have heap:∀ {j:Nat},j≠(φ id).1→(w.freeze ⟨(φ id).1,arr.size,none⟩ 1).heap[j]? =w.heap[j]? :=by
   intro j hj
   simp only[World.freeze]
   rw[if_neg (by omega)]
   simp[Array.getElem?_modify,Ne.symm hj]
  have self:∃ fz',(w.freeze ⟨(φ id).1,arr.size,none⟩ 1).heap[(φ id).1]? =some (.cells arr ty fz'):=by
   simp only[World.freeze]
   rw[if_neg (by omega)]
   rw[Array.getElem?_modify,if_pos rfl,hb]
   exact⟨_,rfl⟩
  obtain⟨fz',self⟩:=self
  have cell:∀ b o,(w.freeze ⟨(φ id).1,arr.size,none⟩ 1).cell? ⟨b,o,none⟩=w.cell? ⟨b,o,none⟩:=by
   intro b o
   by_cases e:b=(φ id).1
   ·subst e;simp[World.cell?,self,hb]
   ·exact Ud (heap e)
  have hsz:(w.freeze ⟨(φ id).1,arr.size,none⟩ 1).heap.size=w.heap.size:=by
   simp only[World.freeze];rw[if_neg (by omega)];simp
  have hkk:=fun a v=>K.kill (R:=R) (φ:=φ) hid a v
  refine hn' _ _ R (tj φ id (φ id)) ?_ (.atom _ _ (show Ea R _ _ from hp)) hkk ?_
  ·exact hS.tj (w':=w.freeze ⟨(φ id).1,arr.size,none⟩ 1) hid (by rw[hsz];exact Nat.le_refl _) (fun b hb hne=>heap (hne rfl)) (fun _ _ _ _=>rfl) (fun b o v h=>by rw[cell];exact hS.sub b o v h) hkk (fun h=>h.elim) trivial
  ·refine .OD hb rfl ?_ ?_ ?_ (by rw[hsz];exact Nat.le_refl _) o1 hS.slt (hS.free id ⟨_,hid,rfl⟩) (fun k _ hne=>heap hne) <;> (simp only[World.freeze];rw[if_neg (by omega)])
end
end Go.AM
namespace Go.AM
open Go.RowKit
section ops
variable {P:Program} {fo:Nat→FuncId} {B0:te} {w:World} {R:Rd} {φ:Pl} {H H':List aa} {e:Tr} {a:Act} {call:Fa}
theorem fH {v:AV} {u:Value} (h:Xb fo (K R φ H) v u):Xb fo (K R φ H) v.Hr u:=by
 cases v with
 |uq id nl sz es=>
  have hk:=h.Xp
  cases nl with
  |true=>rw[(hk.2.1 rfl).1];exact .atom _ _ (show Ea R _ _ from .qa)
  |false=>exact .atom _ _ (show Ea R _ _ from hk.2.2.1 rfl)
 |_=>exact h
theorem cF:∀ {cs:List AV} {vs:List Value},La fo (K R φ H) cs vs→La fo (K R φ H) (cs.map AV.Hr) vs
 | [],_,.nil=> .nil
 |_::_,_,.cons _ _ _ _ h1 h2=> .cons _ _ _ _ (fH h1) (cF h2)
theorem yP {v:AV} {u:Value} (h:Xb fo (K R φ H) v u):Xb fo (K R φ H) v.GH u:=by
 cases v with
 |agg cs=>
  cases h with
  |atom _ _ h=>exact h.elim
  |agg _ vs h=>exact bp (cF h)
 |uq id nl sz es=>exact fH h
 |_=>exact h
theorem ov (hE:og fo (K R φ H) e a) {sz:Nat}:∀ {parts:List (Nat×Operand)} {aparts:List (Nat×AO)},ot fo parts aparts=true→
 (parts.map fun p=>(p.1,a.eval p.2)).length=(aparts.map fun p=>(p.1 * sz,sz,fj e p.2)).length∧
 ∀ (j:Nat) (i:Nat) (v:Value) (off s:Nat) (x:AV),(parts.map fun p=>(p.1,a.eval p.2))[j]? =some (i,v)→(aparts.map fun p=>(p.1 * sz,sz,fj e p.2))[j]? =some (off,s,x)→off=i * sz∧s=sz∧Xb fo (K R φ H) x v
 | [],[],_=>⟨rfl,fun j i v off s x h=>by simp at h⟩
 | (i,x)::xs,(j,y)::ys,h=>by
   simp only[ot,Bool.and_eq_true,beq_iff_eq] at h
   obtain⟨⟨rfl,h1⟩,h2⟩:=h
   obtain⟨q1,q2⟩:=ov hE (sz:=sz) h2
   refine⟨by simpa using q1,fun k i' v off s z e1 e2=> ?_⟩
   cases k with
   |zero=>
    simp at e1 e2
    obtain⟨rfl,rfl⟩:=e1
    obtain⟨rfl,rfl,rfl⟩:=e2
    exact⟨rfl,rfl,yP (pb hE h1)⟩
   |succ k=>exact q2 k i' v off s z (by simpa using e1) (by simpa using e2)
 | [],_::_,h=>by simp[ot] at h
 |_::_,[],h=>by simp[ot] at h
theorem XJ (hE:og fo (K R φ H) e a) {x:Option Operand} {y:Option AO} (h:FJ fo x y=true):(x=none∧y=none)∨∃ x' y',x=some x'∧y=some y'∧uj fo x' y'=true:=by
 cases x <;> cases y <;> simp[FJ] at h
 ·exact .inl ⟨rfl,rfl⟩
 ·exact .inr ⟨_,_,rfl,rfl,h⟩
theorem SS {ag:Bool} {x:Bool} (h:(!ag||x)=true):ag=true→x=true:=by
 intro e;subst e;simpa using h
theorem PE (hS:Kb fo B0 w R φ H) {x:AV} {vx:Value} (hx:Xb fo (K R φ H) x vx) {s:ByteArray} (h:oB H x=some s):(∃ sa sl sc,vx= .slice sa sl sc)∧(Conv.bytesToString vx).run P w= .ok (.string s) w:=by
 have lits:∀ {es:List PV} {l:List UInt8},Ea R (.lit 1 es) vx→bytesOf es=some l→s=⟨l.toArray⟩→(∃ sa sl sc,vx= .slice sa sl sc)∧(Conv.bytesToString vx).run P w= .ok (.string s) w:=by
  intro es l hp hb hs
  subst hs
  refine⟨?_,MJ hS hp hb⟩
  cases hp <;> exact⟨_,_,_,rfl⟩
 have qa:vx= .slice none 0 0→s=ByteArray.empty→(∃ sa sl sc,vx= .slice sa sl sc)∧(Conv.bytesToString vx).run P w= .ok (.string s) w:=by
  rintro rfl rfl
  exact⟨⟨_,_,_,rfl⟩,by simp[Conv.bytesToString]⟩
 unfold oB at h
 split at h
 ·injection h with h
  have:=hx.qb
  cases this
  exact qa rfl h.symm
 ·simp only[Option.map_eq_some_iff] at h
  obtain⟨l,h1,h2⟩:=h
  exact lits hx.qb h1 h2.symm
 ·rename_i id nl es
  simp only[Option.map_eq_some_iff] at h
  obtain⟨l,h1,h2⟩:=h
  have hk:=hx.Xp
  cases nl with
  |true=>
   obtain⟨rfl,rfl⟩:=hk.2.1 rfl
   simp[bytesOf] at h1
   subst h1
   exact qa rfl h2.symm
  |false=>exact lits (hk.2.2.1 rfl) h1 h2.symm
 ·rename_i id len
  have hk:=hx.Ov
  split at h
  ·rename_i sz ag c fl nl hc
   split at h
   ·rename_i hcond
    obtain⟨rfl,hcur⟩:=hcond
    obtain⟨k0,k⟩:=hk.2.2 _ _ _ _ _ hc
    obtain⟨o0,o1,o2,o3,o4⟩:=hS.obj _ _ hc
    obtain⟨k1,k2⟩:=k (by omega)
    cases nl with
    |true=>
     simp only[if_true,Option.some.injEq] at h
     exact qa (k1 rfl) h.symm
    |false=>
     simp only[Bool.false_eq_true,if_false,Option.map_eq_some_iff,Option.bind_eq_some_iff] at h
     obtain⟨l,⟨ps,hps,hl⟩,rfl⟩:=h
     rcases k2 rfl with⟨q1,q2,_⟩ | ⟨b,o,cap,q1,q2,_⟩
     ·subst q1;exact absurd (List.eq_nil_of_length_eq_zero (by omega)) q2
     ·obtain⟨rfl,rfl,rfl⟩:=q2 hcur
      subst q1
      obtain⟨_,_,arr,p3,p4,p5,p6⟩:=o4 rfl
      have h7:=Gh hps p6
      obtain⟨ns,e1,rfl⟩:=RB hl h7
      refine⟨⟨_,_,_,rfl⟩,?_⟩
      have hlen:(ns.map (Value.int .u8)).length=len:=by rw[← e1,List.length_take];simp;omega
      have:=run_bytesToString (P:=P) w ⟨(φ id).1,0,none⟩ len (φ id).2 ns (by
       have:=ti (P:=P) (w:=w) (b:=(φ id).1) (o:=0) (vs:=ns.map (Value.int .u8)) (fun j v hj=>by
        rw[Nat.zero_add,p3.cell]
        rw[← e1,List.getElem?_take] at hj
        split at hj
        ·simpa using hj
        ·cases hj) hlen
       simpa using this)
      rw[this]
      congr 2
      have h4:=foldl_push ns ByteArray.empty
      generalize ns.foldl (fun r n=>r.push (UInt8.ofNat n.toNat)) ByteArray.empty=z at h4
      obtain⟨⟨z⟩⟩:=z
      simp at h4
      subst h4
      rfl
   ·cases h
  ·cases h
 ·cases h
theorem YK (hS:Kb fo B0 w R φ H) {x:AV} {vx:Value} (hx:Xb fo (K R φ H) x vx) {s:ByteArray} (h:oB H x=some s):∃ sa sl sc,vx= .slice sa sl sc:=(PE (P:=default) hS hx h).1
theorem ZP (hS:Kb fo B0 w R φ H) {x:AV} {vx:Value} (hx:Xb fo (K R φ H) x vx) {s:ByteArray} (h:oB H x=some s):(Conv.bytesToString vx).run P w= .ok (.string s) w:=(PE hS hx h).2
theorem rM (hS:Kb fo B0 w R φ H) (hE:og fo (K R φ H) e a) {t:TypeId} {fs:Array Field} {parts:Array (Nat×Operand)} {aparts:List (Nat×Nat×AO)} {zero:List PV} (hu:P.underlying t=some (.struct fs))
 (hb:Im P fo fs parts.toList aparts=true) (hall:(fs.all fun f=>(Oc P f.type).isSome)=true) (hz:Fm P t zero=true) {cs:List AV} (hf:nm (zero.map .pv) (aparts.map fun p=>(p.1,p.2.1,p.2.2.ev e))=some cs):
 ij fo B0 w R φ H P (Instr.build t (parts.map fun (i,x)=>(i,a.eval x))) (Uo cs) H:=by
 unfold Fm at hz
 cases hi:P.info? t with
 |none=>simp[hi] at hz
 |some i=>
  simp only[hi] at hz
  cases hzz:i.zero with
  |none=>simp[hzz] at hz
  |some z=>
   simp only[hzz] at hz
   obtain⟨h1,h2⟩:=Ki (R:=R) hz
   have hpl:∀ (l:List Field),(∀ f∈l,(Oc P f.type).isSome=true)→(l.mapM fun f=>(do pure (f.offset,←sizeOf f.type):Sem (Nat×Nat))).run P w= .ok (l.map fun f=>(f.offset,(Oc P f.type).getD 0)) w:=by
    intro l
    induction l with
    |nil=>intro _;simp
    |cons f l ih=>
     intro hl
     obtain⟨n,hn⟩:=Option.isSome_iff_exists.1 (hl f (by simp))
     rw[List.mapM_cons]
     simp only[Sem.run_bind,Ob hn,Result.andThen_ok,Sem.run_pure,ih (fun g hg=>hl g (by simp[hg]))]
     simp[hn]
   have hplaces:(fs.mapM fun f=>(do pure (f.offset,←sizeOf f.type):Sem (Nat×Nat))).run P w= .ok (fs.map fun f=>(f.offset,(Oc P f.type).getD 0)) w:=by
    have:=hpl fs.toList (fun f hf=>by
     rw[Array.all_eq_true] at hall
     obtain⟨i,hi,rfl⟩:=List.mem_iff_getElem.1 hf
     simpa using hall i (by simpa using hi))
    rw[Array.mapM_eq_mapM_toList]
    simp only[Sem.run_map,this,Result.andThen_ok]
    exact congrArg (fun x=>Result.ok x w) (by apply Array.ext';simp)
   have spec:∀ {xs:List (Nat×Operand)} {ys:List (Nat×Nat×AO)},Im P fo fs xs ys=true→(xs.map fun p=>(p.1,a.eval p.2)).length=(ys.map fun p=>(p.1,p.2.1,p.2.2.ev e)).length∧
    ∀ (j:Nat) (i:Nat) (v:Value) (off s:Nat) (x:AV),(xs.map fun p=>(p.1,a.eval p.2))[j]? =some (i,v)→(ys.map fun p=>(p.1,p.2.1,p.2.2.ev e))[j]? =some (off,s,x)→
     (fs.map fun f=>(f.offset,(Oc P f.type).getD 0))[i]? =some (off,s)∧Xb fo (K R φ H) x v:=by
    intro xs
    induction xs with
    |nil=>
     intro ys h
     cases ys with
     |nil=>exact⟨rfl,fun j i v off s x h=>by simp at h⟩
     |cons y ys=>simp[Im] at h
    |cons x xs ih=>
     intro ys h
     cases ys with
     |nil=>simp[Im] at h
     |cons y ys=>
      obtain⟨i,x⟩:=x
      obtain⟨off,sz,y⟩:=y
      simp only[Im,Bool.and_eq_true] at h
      obtain⟨⟨g1,g2⟩,g3⟩:=h
      obtain⟨q1,q2⟩:=ih g3
      refine⟨by simpa using q1,fun k i' v off' s z e1 e2=> ?_⟩
      cases k with
      |zero=>
       simp at e1 e2
       obtain⟨rfl,rfl⟩:=e1
       obtain⟨rfl,rfl,rfl⟩:=e2
       refine⟨?_,pb hE g2⟩
       cases hfi:fs[i]? with
       |none=>simp[hfi] at g1
       |some f=>
        simp only[hfi,Bool.and_eq_true,beq_iff_eq] at g1
        simp[hfi,g1.1,g1.2]
      |succ k=>exact q2 k i' v off' s z (by simpa using e1) (by simpa using e2)
   obtain⟨s1,s2⟩:=spec hb
   obtain⟨cs',r1,r2⟩:=iz (fo:=fo) (R:=R) (φ:=φ) (H:=H) (fun i=>(fs.map fun f=>(f.offset,(Oc P f.type).getD 0))[i]?) (cs:=z.cells) s1 s2 (La.Gx h1) hf
   have hparts:(parts.map fun (i,x)=>(i,a.eval x)).toList=parts.toList.map fun p=>(p.1,a.eval p.2):=by simp
   refine vn.same (.agg cs') hS ?_ ?_
   ·simp only[Instr.build,Sem.run_bind,zeroValue,run_typeInfo w hi,Result.andThen_ok,hzz,Sem.run_pure,run_underlying hu,hplaces,hparts,r1]
   ·have:=bp r2
    simpa using this
theorem sK (hS:Kb fo B0 w R φ H) {t el:TypeId} {n:Nat} {parts:Array (Nat×Operand)} {zero:List PV} (hu:P.underlying t=some (.array n el)) (hp:parts.toList=[]) (hs:(Oc P el).isSome=true) (hz:Fm P t zero=true):
 ij fo B0 w R φ H P (Instr.build t (parts.map fun (i,x)=>(i,a.eval x))) (Uo (zero.map .pv)) H:=by
 obtain⟨k,hk⟩:=Option.isSome_iff_exists.1 hs
 obtain rfl:parts= #[]:=by apply Array.ext';simpa using hp
 unfold Fm at hz
 cases hi:P.info? t with
 |none=>simp[hi] at hz
 |some i=>
  simp only[hi] at hz
  cases hzz:i.zero with
  |none=>simp[hzz] at hz
  |some z=>
   simp only[hzz] at hz
   obtain⟨h1,h2⟩:=Ki (R:=R) hz
   refine vn.same (.agg z.cells) hS ?_ ?_
   ·simp only[Instr.build,Sem.run_bind,zeroValue,run_typeInfo w hi,Result.andThen_ok,hzz,Sem.run_pure,run_underlying hu,Ob hk]
    simp[Instr.fill]
   ·have:=bp (La.Gx (fo:=fo) (φ:=φ) (H:=H) h1)
    simpa using this
theorem fN {t:TypeId} {f off:Nat} (h:(match DR P t f with | some fd=>fd.offset==off&&(match Oc P fd.type with | some n=>n != 0 | none=>false) | none=>false)=true):
 ∃ fs fd n,P.underlying t=some (.struct fs)∧fs[f]? =some fd∧fd.offset=off∧Oc P fd.type=some n∧n≠0:=by
 cases hs:DR P t f with
 |none=>simp[hs] at h
 |some fd=>
  simp only[hs,Bool.and_eq_true,beq_iff_eq] at h
  obtain⟨h1,h2⟩:=h
  unfold DR at hs
  split at hs
  ·rename_i fs hu
   cases hn:Oc P fd.type with
   |none=>simp[hn] at h2
   |some n=>simp[hn] at h2;exact⟨fs,fd,n,hu,hs,h1,hn,h2⟩
  ·cases hs
theorem bN {t:TypeId} {f off n:Nat} {ag:Bool} (h:(match DR P t f with | some fd=>fd.offset==off&&Yi P fd.type==some ag&&(!ag||Oc P fd.type==some n) | none=>false)=true):
 ∃ fs fd,P.underlying t=some (.struct fs)∧fs[f]? =some fd∧fd.offset=off∧Yi P fd.type=some ag∧(ag=true→Oc P fd.type=some n):=by
 cases hs:DR P t f with
 |none=>simp[hs] at h
 |some fd=>
  simp only[hs,Bool.and_eq_true,beq_iff_eq] at h
  obtain⟨⟨h1,h2⟩,h3⟩:=h
  unfold DR at hs
  split at hs
  ·rename_i fs hu
   exact⟨fs,fd,hu,hs,h1,h2,fun e=>by simpa using SS h3 e⟩
  ·cases hs
theorem AN {t:TypeId} {n sz:Nat} (h:(match P.underlying t with | some (.array n' el)=>n'==n&&Oc P el==some sz | _=>false)=true):∃ el,P.underlying t=some (.array n el)∧Oc P el=some sz:=by
 split at h
 ·rename_i n' el hu
  simp at h
  obtain⟨rfl,h⟩:=h
  exact⟨el,hu,h⟩
 ·cases h
theorem uM {t:TypeId} {n sz:Nat} {ag:Bool} (h:(match P.underlying t with | some (.array n' el)=>n'==n&&Oc P el==some sz&&Yi P el==some ag | _=>false)=true):∃ el,P.underlying t=some (.array n el)∧Oc P el=some sz∧Yi P el=some ag:=by
 split at h
 ·rename_i n' el hu
  simp at h
  obtain⟨⟨rfl,h⟩,h2⟩:=h
  exact⟨el,hu,h,h2⟩
 ·cases h
theorem yC (mx:Bool) {xs:List AV} {vs:List Value} {p:PV} (hl:La fo (K R φ H) xs vs) (hb:Wn mx xs=some p):
 ∃ v0 rest v,vs=v0::rest∧(rest.foldlM (if mx then Builtin.max2 else Builtin.min2) v0).run P w= .ok v w∧Ea R p v:=by
 unfold Wn at hb
 split at hb
 ·rename_i k x r
  cases hl with
  |cons _ _ v vs h1 h2=>
   rw[Vc h1 rfl]
   obtain⟨u,q1,q2⟩:=XE (P:=P) (w:=w) mx h2 hb
   exact⟨_,_,u,rfl,q1,q2⟩
 ·cases hb
theorem RL (s:ByteArray) (i:Nat):s[i]? =s.data.toList[i]? :=by
 by_cases h:i < s.size
 ·rw[getElem?_pos s i h]
  have h2:i < s.data.toList.length:=by rw[Array.length_toList];exact h
  rw[List.getElem?_eq_getElem h2]
  rfl
 ·rw[getElem?_neg s i h]
  have h2:¬i < s.data.toList.length:=by rw[Array.length_toList];exact h
  rw[List.getElem?_eq_none (by omega)]
set_option maxHeartbeats 1000000 in
theorem tI {o:Oper} {op:Op} {aop:Cc} {v:AV} (ho:o.op=op) (ta:uO P fo op aop=true) (hS:Kb fo B0 w R φ H) (hE:og fo (K R φ H) e a) (hev:da call e H aop=some (v,H')):
 cv P fo B0 o a w R φ H v H':=by
 unfold uO at ta
 split at ta
 case h_1 x y=>
  simp[da] at hev
  obtain⟨rfl,rfl⟩:=hev
  exact .Ao hS (by simp[execOp,ho]) (pb hE ta)
 case h_2 x y=>
  simp[da] at hev
  obtain⟨rfl,rfl⟩:=hev
  exact .Ao hS (by simp[execOp,ho]) (pb hE ta)
 case h_3 c x y c' x' y'=>
  simp only[Bool.and_eq_true] at ta
  simp only[da,Option.bind_eq_some_iff] at hev
  obtain⟨t,h1,h2⟩:=hev
  simp at h2
  obtain⟨rfl,rfl⟩:=h2
  have hc:=Ru (pb hE ta.1.1) h1
  refine .Ao (v':=if t then a.eval x else a.eval y) hS (by simp[execOp,ho,hc,Go.asBool]) ?_
  cases t
  ·exact pb hE ta.2
  ·exact pb hE ta.1.2
 case h_4 t zero=>
  simp[da] at hev
  obtain⟨rfl,rfl⟩:=hev
  exact .uc (by simp[execOp,ho]) (PM hS ta)
 case h_5 t x n y=>
  simp only[da] at hev
  split at hev
  ·rename_i hc
   simp at hev
   obtain⟨rfl,rfl⟩:=hev
   exact .uc (by simp[execOp,ho]) (gQ (t:=t) hS (pb hE ta) hc.2)
  ·cases hev
 case h_6 t parts zero aparts=>
  simp only[Bool.and_eq_true] at ta
  obtain⟨h1,h2⟩:=ta
  simp only[da,Option.map_eq_some_iff,Prod.mk.injEq] at hev
  obtain⟨cs,hf,rfl,rfl⟩:=hev
  cases hu:P.underlying t with
  |none=>simp[hu] at h1
  |some d=>
   cases d with
   |struct fs=>
    simp only[hu,Bool.and_eq_true] at h1
    exact .uc (s:=Instr.build t (parts.map fun (i,x)=>(i,a.eval x))) (by simp[execOp,ho]) (rM hS hE hu h1.1 h1.2 h2 hf)
   |array n el=>
    simp only[hu,Bool.and_eq_true,List.isEmpty_iff] at h1
    rw[h1.1.2] at hf
    simp only[List.map_nil,nm,Option.some.injEq] at hf
    subst hf
    exact .uc (s:=Instr.build t (parts.map fun (i,x)=>(i,a.eval x))) (by simp[execOp,ho]) (sK hS hu h1.1.1 h1.2 h2)
   |_=>simp[hu] at h1
 case h_7 t len parts hh sz ag len' zero aparts=>
  simp only[Bool.and_eq_true,beq_iff_eq,decide_eq_true_eq] at ta
  obtain⟨⟨⟨h1,rfl⟩,h2⟩,h3⟩:=ta
  cases hel:Br P t with
  |none=>simp[hel] at h1
  |some el=>
   simp only[hel] at h1
   simp only[da,Option.bind_eq_some_iff] at hev
   obtain⟨cs,hf,hfr⟩:=hev
   split at hfr
   ·rename_i hone
    obtain⟨q1,q2⟩:=ov hE (sz:=sz) h3
    have:=NI (fo:=fo) (B0:=B0) hS (Pk hel) (fC h1) h2 q1 q2 hf hone hfr
    refine .uc (s:=Instr.buildSlice t len (parts.map fun (i,x)=>(i,a.eval x))) (by simp[execOp,ho]) ?_
    have hp:(parts.map fun (i,x)=>(i,a.eval x))=(parts.toList.map fun p=>(p.1,a.eval p.2)).toArray:=by
     apply Array.ext';simp
    rw[hp]
    exact this
   ·cases hfr
 case h_8 t x ag n y=>
  simp only[Bool.and_eq_true,beq_iff_eq] at ta
  simp only[da,Option.map_eq_some_iff,Prod.mk.injEq] at hev
  obtain⟨u,hl,rfl,rfl⟩:=hev
  obtain⟨vv,h1,h2⟩:=dH (P:=P) hS (pb hE ta.2) ta.1.1 (fun e=>by simpa using SS ta.1.2 e) hl
  exact .uc (s:=Instr.loadAt t (a.eval x)) (by simp[execOp,ho]) (vn.same vv hS h1 h2)
 case h_9 t p x n q y=>
  simp only[Bool.and_eq_true,beq_iff_eq] at ta
  simp only[da,Option.map_eq_some_iff,Prod.mk.injEq] at hev
  obtain⟨H1,hl,rfl,rfl⟩:=hev
  obtain⟨w',φ',h1,h2,h3,h4⟩:=BM (P:=P) hS (pb hE ta.1.2) (pb hE ta.2) ta.1.1 hl
  intro next Q hn
  unfold Oper.wp
  have:(execOp a.eval o).run P w= .ok .skip w':=by simp[execOp,ho,h1]
  rw[this]
  exact hn undef w' R φ' h2 (.atom _ _ (show Ea R _ _ from .dc [] [] .nil)) h3 h4
 case h_10 x y=>
  simp only[da] at hev
  have hx:=pb (R:=R) (φ:=φ) (H:=H) hE ta
  generalize AO.ev e y=z at hev hx
  obtain⟨vx,hvx⟩:∃ vx,a.eval x=vx:=⟨_,rfl⟩
  rw[hvx] at hx
  split at hev
  ·rename_i ix caps
   simp at hev
   obtain⟨rfl,rfl⟩:=hev
   have hx2:=hx
   cases hx2 with
   |atom _ _ h=>exact h.elim
   |mi _ _ vs h=>
    refine .Ao hS ?_ hx
    simp[execOp,ho,hvx]
  ·simp only[Option.map_eq_some_iff,Prod.mk.injEq] at hev
   obtain⟨u,hp,rfl,rfl⟩:=hev
   obtain⟨b,o',h1,h2⟩:=Uw hS hx hp
   have:=sI hp
   subst this
   refine .Ao hS ?_ hx
   simp[execOp,ho,hvx,h1]
 case h_11 op' t x y t' op x' y'=>
  simp only[Bool.and_eq_true,decide_eq_true_eq] at ta
  obtain⟨⟨rfl,h1⟩,h2⟩:=ta
  simp only[da,Option.map_eq_some_iff,Prod.mk.injEq] at hev
  obtain⟨p,hp,rfl,rfl⟩:=hev
  obtain⟨u,q1,q2⟩:=tQ (P:=P) (w:=w) (pb hE h1) (pb hE h2) hp t x y
  exact .uc (s:=do eqGuard op' t x y (a.eval x) (a.eval y);binOp op' t (a.eval x) (a.eval y)) (by simp[execOp,ho]) (vn.same u hS q1 (.atom _ _ q2))
 case h_12 t x y t' k x' y'=>
  simp only[Bool.and_eq_true,beq_iff_eq] at ta
  simp only[da,Option.map_eq_some_iff,Prod.mk.injEq] at hev
  obtain⟨b,hb,rfl,rfl⟩:=hev
  have:=aN ta.1.1 hS (pb hE ta.1.2) (pb hE ta.2) hb .eql (.inl rfl) x y
  exact .uc (s:=do eqGuard .eql t x y (a.eval x) (a.eval y);binOp .eql t (a.eval x) (a.eval y)) (by simp[execOp,ho]) (vn.same _ hS this (.atom _ _ (by simpa[K] using Ea.bool (R:=R) b)))
 case h_13 t x y t' k x' y'=>
  simp only[Bool.and_eq_true,beq_iff_eq] at ta
  simp only[da,Option.map_eq_some_iff,Prod.mk.injEq] at hev
  obtain⟨b,hb,rfl,rfl⟩:=hev
  have:=aN ta.1.1 hS (pb hE ta.1.2) (pb hE ta.2) hb .neq (.inr rfl) x y
  exact .uc (s:=do eqGuard .neq t x y (a.eval x) (a.eval y);binOp .neq t (a.eval x) (a.eval y)) (by simp[execOp,ho]) (vn.same _ hS this (.atom _ _ (by simpa[K] using Ea.bool (R:=R) (!b))))
 case h_14 op' t x op y=>
  simp only[Bool.and_eq_true,decide_eq_true_eq] at ta
  obtain⟨rfl,h1⟩:=ta
  simp only[da,Option.map_eq_some_iff,Prod.mk.injEq] at hev
  obtain⟨p,hp,rfl,rfl⟩:=hev
  obtain⟨u,q1,q2⟩:=PR (P:=P) (w:=w) (pb hE h1) hp
  exact .uc (s:=Op.unary op' (a.eval x)) (by simp[execOp,ho]) (vn.same u hS q1 (.atom _ _ q2))
 case h_15 s d x k y=>
  simp only[Bool.and_eq_true] at ta
  simp only[da,Option.map_eq_some_iff,Prod.mk.injEq] at hev
  obtain⟨⟨k',n⟩,hp,rfl,rfl⟩:=hev
  have hx:=Vc (pb hE ta.2) hp
  obtain⟨ds,hds⟩:=Option.isSome_iff_exists.1 ta.1.1
  have hd:P.underlying d=some (.int k):=by
   have:=ta.1.2
   unfold WT at this
   split at this
   ·rename_i k2 h;simp at this;subst this;exact h
   ·cases this
  refine .uc (s:=convert s d (a.eval x)) (by simp[execOp,ho]) (vn.same _ hS ?_ (.atom _ _ (show Ea R _ _ from .int _ _)))
  rw[hx];exact IN hds hd
 case h_16 s d x y=>
  simp only[Bool.and_eq_true] at ta
  obtain⟨⟨h1,h2⟩,h3⟩:=ta
  simp only[da,Option.map_eq_some_iff,Prod.mk.injEq] at hev
  obtain⟨str,hp,rfl,rfl⟩:=hev
  have hx:=pb (R:=R) (φ:=φ) (H:=H) hE h3
  cases hel:Br P s with
  |none=>simp[hel] at h1
  |some el=>
   simp only[hel] at h1
   have hs:=Pk hel
   have hb:P.underlying el=some (.int .u8):=by
    unfold AS at h1
    split at h1
    ·rename_i h;exact h
    ·cases h1
   have hd:P.underlying d=some .string:=by
    unfold KS at h2
    split at h2
    ·rename_i h;exact h
    ·cases h2
   have hr:=ZP (P:=P) hS hx hp
   refine .uc (s:=convert s d (a.eval x)) (by simp[execOp,ho]) (vn.same (.string str) hS ?_ (.atom _ _ (show Ea R _ _ from .str _)))
   obtain⟨sa,sl,sc,hv⟩:=YK hS hx hp
   rw[hv] at hr ⊢
   rw[run_convert_bytes_string w s d el sa sl sc hs hb hd]
   exact hr
 case h_17 s d x hh y=>
  simp only[Bool.and_eq_true] at ta
  obtain⟨⟨h1,h2⟩,h3⟩:=ta
  obtain⟨ds,hds⟩:=Option.isSome_iff_exists.1 h1
  simp only[da] at hev
  have hx:=pb (R:=R) (φ:=φ) (H:=H) hE h3
  split at hev
  ·rename_i b hy
   rw[hy] at hx
   obtain⟨vx,hvx⟩:∃ vx,a.eval x=vx:=⟨_,rfl⟩
   rw[hvx] at hx
   have hp:=hx.qb
   cases hp
   cases hel:Br P d with
   |none=>simp[hel] at h2
   |some el=>
    simp only[hel] at h2
    have hb:P.underlying el=some (.int .u8):=by
     unfold AS at h2
     split at h2
     ·rename_i h;exact h
     ·cases h2
    exact .uc (s:=convert s d (.string b)) (by simp[execOp,ho,hvx]) (MQ hS hds (Pk hel) hb hev)
  ·cases hev
 case h_18 f first caps ix ys=>
  simp only[Bool.and_eq_true,beq_iff_eq] at ta
  obtain⟨⟨h1,rfl⟩,h2⟩:=ta
  simp[da] at hev
  obtain⟨rfl,rfl⟩:=hev
  have hf:first= #[]:=by simpa using h1
  have:=Pn (R:=R) (φ:=φ) (H:=H) hE h2
  refine .uc (s:=Instr.makeFunc (.func (fo ix)) (first.map a.eval) (caps.map a.eval)) (by simp[execOp,ho]) (vn.same (.func (.func (fo ix)) #[] (caps.map a.eval)) hS (by simp[Instr.makeFunc,hf]) ?_)
  have hcaps:caps.map a.eval=⟨caps.toList.map a.eval⟩:=by apply Array.ext';simp
  rw[hcaps]
  exact .mi _ _ _ this
 case h_19 t l c hh sz ag zero bytes l' c'=>
  simp only[Bool.and_eq_true,decide_eq_true_eq] at ta
  obtain⟨⟨⟨h1,h2⟩,h3⟩,h4⟩:=ta
  cases hel:Br P t with
  |none=>simp[hel] at h1
  |some el=>
   simp only[hel,Bool.and_eq_true,beq_iff_eq] at h1
   simp only[da,Option.bind_eq_some_iff] at hev
   obtain⟨⟨kl,nl⟩,hl,⟨kc,nc⟩,hc,hif⟩:=hev
   split at hif
   ·rename_i hcond
    have e1:=Vc (pb hE h3) hl
    have e2:=Vc (pb hE h4) hc
    refine .uc (s:=Instr.makeSlice t (a.eval l) (a.eval c)) (by simp[execOp,ho]) ?_
    rw[e1,e2]
    exact IG hS (Pk hel) (fC h1.1) h1.2 h2 hcond.1 hcond.2.1 hcond.2.2 hif
   ·cases hif
 case h_20 t x lo hi sz y lo' hi'=>
  simp only[Bool.and_eq_true] at ta
  obtain⟨⟨⟨h1,h2⟩,h3⟩,h4⟩:=ta
  have hx:=pb (R:=R) (φ:=φ) (H:=H) hE h2
  have hu:(sz≠0∧∃ el,P.underlying t=some (.slice el)∧Oc P el=some sz)∨(sz=0∧P.underlying t=some .string):=by
   cases hu:P.underlying t with
   |none=>simp[hu] at h1
   |some d=>
    cases d <;> simp[hu] at h1
    ·exact .inr ⟨h1,rfl⟩
    ·exact .inl ⟨h1.1,_,rfl,h1.2⟩
  have fin:∀ {l h:Option Int},((lo.map a.eval=none∧l=none)∨∃ k n,lo.map a.eval=some (.int k n)∧l=some n)→((hi.map a.eval=none∧h=none)∨∃ k n,hi.map a.eval=some (.int k n)∧h=some n)→
   (Ed H sz (AO.ev e y) l h).map (fun v=>(v,H))=some (v,H')→cv P fo B0 o a w R φ H v H':=by
   intro l h hl hh hsl
   simp only[Option.map_eq_some_iff,Prod.mk.injEq] at hsl
   obtain⟨u,hu2,rfl,rfl⟩:=hsl
   exact .uc (s:=Instr.sliceAt t (a.eval x) (lo.map a.eval) (hi.map a.eval) none) (by simp[execOp,ho]) (JM hS hx hu hl hh hu2)
  rcases XJ hE h3 with⟨rfl,rfl⟩ | ⟨x1,y1,rfl,rfl,g1⟩ <;> rcases XJ hE h4 with⟨rfl,rfl⟩ | ⟨x2,y2,rfl,rfl,g2⟩
  ·simp only[da] at hev
   exact fin (.inl ⟨rfl,rfl⟩) (.inl ⟨rfl,rfl⟩) hev
  ·simp only[da,Option.bind_eq_some_iff] at hev
   obtain⟨⟨k,n⟩,h5,h6⟩:=hev
   exact fin (.inl ⟨rfl,rfl⟩) (.inr ⟨k,n,by simp[Vc (pb hE g2) h5],rfl⟩) h6
  ·simp only[da,Option.bind_eq_some_iff] at hev
   obtain⟨⟨k,n⟩,h5,h6⟩:=hev
   exact fin (.inr ⟨k,n,by simp[Vc (pb hE g1) h5],rfl⟩) (.inl ⟨rfl,rfl⟩) h6
  ·simp only[da,Option.bind_eq_some_iff] at hev
   obtain⟨⟨k,n⟩,h5,⟨k2,n2⟩,h7,h6⟩:=hev
   exact fin (.inr ⟨k,n,by simp[Vc (pb hE g1) h5],rfl⟩) (.inr ⟨k2,n2,by simp[Vc (pb hE g2) h7],rfl⟩) h6
 case h_21 t x f off y=>
  simp only[Bool.and_eq_true] at ta
  obtain⟨h1,h2⟩:=ta
  simp only[da,Option.map_eq_some_iff,Prod.mk.injEq] at hev
  obtain⟨u,hp,rfl,rfl⟩:=hev
  obtain⟨fs,fd,n,hu,hf,rfl,hn,hn0⟩:=fN h1
  exact .uc (s:=Instr.fieldAt t (a.eval x) f) (by simp[execOp,ho]) (OM hS (pb hE h2) hu hf hn hn0 hp)
 case h_22 t x f off ag n y=>
  simp only[Bool.and_eq_true] at ta
  obtain⟨h1,h2⟩:=ta
  have hx:=pb (R:=R) (φ:=φ) (H:=H) hE h2
  obtain⟨fs,fd,hu,hf,rfl,ha,hn⟩:=bN h1
  simp only[da] at hev
  refine .uc (s:=Instr.field t (a.eval x) f) (by simp[execOp,ho]) ?_
  have hrun:∀ vs:Array Value,(Instr.field t (.agg vs) f).run P w=(part fd.type vs fd.offset).run P w:=by
   intro vs;simp[Instr.field,run_underlying hu,hf,asAgg]
  obtain⟨i1,i2⟩:=fK hx
  split at hev
  ·rename_i cs hy
   obtain⟨vs,e1,e2⟩:=i1 cs hy
   simp only[Option.map_eq_some_iff,Prod.mk.injEq] at hev
   obtain⟨p,hp,rfl,rfl⟩:=hev
   rw[ij,e1,hrun]
   exact YG hS ha hn e2 hp
  ·rename_i cs hy
   obtain⟨vs,e1,e2⟩:=i2 cs hy
   simp only[Option.map_eq_some_iff,Prod.mk.injEq] at hev
   obtain⟨p,hp,rfl,rfl⟩:=hev
   rw[ij,e1,hrun]
   exact UE hS ha hn e2 hp
  ·cases hev
 case h_23 t x i sz y j=>
  simp only[Bool.and_eq_true] at ta
  obtain⟨⟨h1,h2⟩,h3⟩:=ta
  simp only[da,Option.bind_eq_some_iff,Option.map_eq_some_iff,Prod.mk.injEq] at hev
  obtain⟨⟨k,n⟩,hi,u,hp,rfl,rfl⟩:=hev
  have e1:=Vc (pb hE h3) hi
  cases hel:Br P t with
  |none=>simp[hel] at h1
  |some el=>
   simp only[hel,beq_iff_eq] at h1
   refine .uc (s:=Instr.indexAt t (a.eval x) (a.eval i)) (by simp[execOp,ho]) ?_
   rw[e1]
   exact MK hS (pb hE h2) (Pk hel) h1 hp
 case h_24 t x i n sz y j=>
  simp only[Bool.and_eq_true] at ta
  obtain⟨⟨h1,h2⟩,h3⟩:=ta
  simp only[da,Option.bind_eq_some_iff] at hev
  obtain⟨⟨k,m⟩,hi,hif⟩:=hev
  split at hif
  ·rename_i hix
   simp only[Option.map_eq_some_iff,Prod.mk.injEq] at hif
   obtain⟨u,hp,rfl,rfl⟩:=hif
   have e1:=Vc (pb hE h3) hi
   obtain⟨el,hu,hsz⟩:=AN h1
   refine .uc (s:=Instr.indexAt t (a.eval x) (a.eval i)) (by simp[execOp,ho]) ?_
   rw[e1]
   exact BH hS (pb hE h2) hu hsz hix hp
  ·cases hif
 case h_25 t x i n sz ag y j=>
  simp only[Bool.and_eq_true] at ta
  obtain⟨⟨h1,h2⟩,h3⟩:=ta
  have hx:=pb (R:=R) (φ:=φ) (H:=H) hE h2
  simp only[da,Option.bind_eq_some_iff] at hev
  obtain⟨⟨k,m⟩,hi,hif⟩:=hev
  split at hif
  ·rename_i hix
   have e1:=Vc (pb hE h3) hi
   obtain⟨el,hu,hsz,ha⟩:=uM h1
   refine .uc (s:=Instr.index t (a.eval x) (a.eval i)) (by simp[execOp,ho]) ?_
   obtain⟨g1,g2⟩:=hix
   have hrun:∀ vs:Array Value,(Instr.index t (.agg vs) (.int k m)).run P w=(part el vs (m.toNat * sz)).run P w:=by
    intro vs;simp only[] at g1 g2;simp[Instr.index,asIntOf,run_underlying hu,g1,g2,Ob hsz]
   obtain⟨i1,i2⟩:=fK hx
   split at hif
   ·rename_i cs hy
    obtain⟨vs,e2,e3⟩:=i1 cs hy
    simp only[Option.map_eq_some_iff,Prod.mk.injEq] at hif
    obtain⟨p,hp,rfl,rfl⟩:=hif
    rw[ij,e1,e2,hrun]
    exact YG hS ha (fun _=>hsz) e3 hp
   ·rename_i cs hy
    obtain⟨vs,e2,e3⟩:=i2 cs hy
    simp only[Option.map_eq_some_iff,Prod.mk.injEq] at hif
    obtain⟨p,hp,rfl,rfl⟩:=hif
    rw[ij,e1,e2,hrun]
    exact UE hS ha (fun _=>hsz) e3 hp
   ·cases hif
  ·cases hif
 case h_26 t x i y j=>
  simp only[Bool.and_eq_true] at ta
  obtain⟨⟨h1,h2⟩,h3⟩:=ta
  have hx:=pb (R:=R) (φ:=φ) (H:=H) hE h2
  have hd:P.underlying t=some .string:=by
   unfold KS at h1
   split at h1
   ·rename_i h;exact h
   ·cases h1
  simp only[da,Option.bind_eq_some_iff] at hev
  obtain⟨⟨k,m⟩,hi,hif⟩:=hev
  have e1:=Vc (pb hE h3) hi
  split at hif
  ·rename_i str hy
   split at hif
   ·rename_i hm
    simp only[Option.map_eq_some_iff,Prod.mk.injEq] at hif
    obtain⟨b,hb,rfl,rfl⟩:=hif
    rw[hy] at hx
    obtain⟨vx,hvx⟩:∃ vx,a.eval x=vx:=⟨_,rfl⟩
    rw[hvx] at hx
    have hp:=hx.qb
    cases hp
    have hb':str[m.toNat]? =some b:=by rw[← hb];exact RL _ _
    refine .uc (s:=Instr.index t (a.eval x) (a.eval i)) (by simp[execOp,ho]) (vn.same (.int .u8 b.toNat) hS ?_ (.atom _ _ (show Ea R _ _ from .int _ _)))
    rw[hvx,e1]
    simp only[] at hm
    simp[Instr.index,asIntOf,run_underlying hd,hm,hb']
   ·cases hif
  ·cases hif
 case h_27 x i i' y=>
  simp only[Bool.and_eq_true,beq_iff_eq] at ta
  obtain⟨rfl,h1⟩:=ta
  have hx:=pb (R:=R) (φ:=φ) (H:=H) hE h1
  simp only[da] at hev
  obtain⟨i1,i2⟩:=nQ hx
  refine .uc (s:=Instr.extract (a.eval x) i) (by simp[execOp,ho]) ?_
  split at hev
  ·rename_i cs hy
   obtain⟨vs,e1,e2⟩:=i1 cs hy
   simp only[Option.map_eq_some_iff,Prod.mk.injEq] at hev
   obtain⟨p,hp,rfl,rfl⟩:=hev
   obtain⟨u,hu,hr⟩:=e2.get hp
   rw[e1]
   exact vn.same u hS (by simp[Instr.extract,hu]) (.atom _ _ hr)
  ·rename_i cs hy
   obtain⟨vs,e1,e2⟩:=i2 cs hy
   simp only[Option.map_eq_some_iff,Prod.mk.injEq] at hev
   obtain⟨p,hp,rfl,rfl⟩:=hev
   obtain⟨u,hu,hr⟩:=e2.get hp
   rw[e1]
   exact vn.same u hS (by simp[Instr.extract,hu]) hr
  ·cases hev
 case h_28 args argTypes k y=>
  simp only[da,Option.map_eq_some_iff,Prod.mk.injEq] at hev
  obtain⟨n,hn,rfl,rfl⟩:=hev
  split at ta
  ·rename_i x t hargs htys
   simp only[Bool.and_eq_true] at ta
   have ha:args= #[x]:=by apply Array.ext';simpa using hargs
   have ht:argTypes= #[t]:=by apply Array.ext';simpa using htys
   subst ha ht
   have hu:(k=0∧∃ e,P.underlying t=some (.slice e))∨(k=1∧P.underlying t=some .string):=by
    have:=ta.2
    cases hu:P.underlying t with
    |none=>simp[hu] at this
    |some d=>cases d <;> simp[hu] at this <;> simp_all
   exact .uc (s:=Builtin.len_ #[t] o.type #[a.eval x]) (by simp[execOp,ho,resolve,invoke,builtin]) (DP hS (pb hE ta.1) hu hn)
  ·cases ta
 case h_29 args tys ys=>
  simp only[da,Option.map_eq_some_iff,Prod.mk.injEq] at hev
  obtain⟨p,hp,rfl,rfl⟩:=hev
  have hl:=Pn (R:=R) (φ:=φ) (H:=H) hE ta
  obtain⟨v0,rest,u,q0,q1,q2⟩:=yC (P:=P) (w:=w) true hl hp
  exact .uc (s:=Builtin.max_ tys o.type (args.map a.eval)) (by simp[execOp,ho,resolve,invoke,builtin]) (vn.same u hS (by simp only[Builtin.max_,Array.toList_map,q0];simpa using q1) (.atom _ _ q2))
 case h_30 args tys ys=>
  simp only[da,Option.map_eq_some_iff,Prod.mk.injEq] at hev
  obtain⟨p,hp,rfl,rfl⟩:=hev
  have hl:=Pn (R:=R) (φ:=φ) (H:=H) hE ta
  obtain⟨v0,rest,u,q0,q1,q2⟩:=yC (P:=P) (w:=w) false hl hp
  exact .uc (s:=Builtin.min_ tys o.type (args.map a.eval)) (by simp[execOp,ho,resolve,invoke,builtin]) (vn.same u hS (by simp only[Builtin.min_,Array.toList_map,q0];simpa using q1) (.atom _ _ q2))
 case h_31 args argTypes own hh sz ag bytes s y=>
  simp only[da] at hev
  split at ta
  ·rename_i x z t tx hargs htys
   simp only[Bool.and_eq_true] at ta
   have ha:args= #[x,z]:=by apply Array.ext';simpa using hargs
   have ht:argTypes= #[t,tx]:=by apply Array.ext';simpa using htys
   subst ha ht
   obtain⟨⟨h1,h2⟩,h3⟩:=ta
   cases hel:Br P t with
   |none=>simp[hel] at h3
   |some el=>
    simp only[hel,Bool.and_eq_true] at h3
    have hA:=vH h3.1
    refine .uc (s:=Builtin.append_ #[t,tx] o.type #[a.eval x,a.eval z]) (by simp[execOp,ho,resolve,invoke,builtin]) ?_
    have hs:=pb (R:=R) (φ:=φ) (H:=H) hE h1
    have hx:=pb (R:=R) (φ:=φ) (H:=H) hE h2
    generalize AO.ev e s=sv at hev hs
    generalize AO.ev e y=xv at hev hx
    unfold Hc at hev
    split at hev
    ·split at hev
     ·split at hev
      ·rename_i id len sz' ag' cells fl nl hid
       simp only[Option.bind_eq_some_iff] at hev
       obtain⟨⟨m,cs⟩,hy,hif⟩:=hev
       split at hif
       ·rename_i hc
        obtain⟨rfl,hc1,hc2,hc3⟩:=hc
        simp only[Option.some.injEq,Prod.mk.injEq] at hif
        obtain⟨rfl,rfl⟩:=hif
        exact dI hS hA hs hx hid hc1 hy hc3 hc2
       ·cases hif
      ·cases hev
     ·cases hev
    ·split at hev
     ·split at hev
      ·rename_i id nl sz' es sz2 n nl2 hid
       simp only[Option.bind_eq_some_iff] at hev
       obtain⟨ys,hy,hif⟩:=hev
       split at hif
       ·rename_i hc
        obtain⟨rfl,rfl,hc1,hc2⟩:=hc
        simp only[Option.some.injEq,Prod.mk.injEq] at hif
        obtain⟨rfl,rfl⟩:=hif
        exact nL hS hA hs hx hid hc1 hy hc2
       ·cases hif
      ·cases hev
     ·simp only[Option.bind_eq_some_iff] at hev
      obtain⟨ys,hy,hif⟩:=hev
      split at hif
      ·rename_i hc
       have hp:=hs.qb
       obtain⟨vs,hvs⟩:∃ vs,a.eval x=vs:=⟨_,rfl⟩
       rw[hvs] at hp ⊢
       cases hp
       exact qG hS hA hx hy hc hif
      ·cases hif
     ·cases hev
  ·cases ta
 case h_32 t x n y=>
  simp only[da] at hev
  split at hev
  ·rename_i hc
   simp only[Option.map_eq_some_iff,Prod.mk.injEq] at hev
   obtain⟨ps,hps,rfl,rfl⟩:=hev
   exact .uc (by simp[execOp,ho]) (nP (t:=t) hS (pb hE ta) hc.2 hps)
  ·cases hev
 case h_33 t x y _ ks x' y'=>
  simp only[Bool.and_eq_true,Bool.not_eq_true'] at ta
  simp only[da] at hev
  split at hev
  ·rename_i p q hp hq
   simp only[Option.map_eq_some_iff,Prod.mk.injEq] at hev
   obtain⟨b,hb,rfl,rfl⟩:=hev
   have h1:=pb (R:=R) (φ:=φ) (H:=H) hE ta.1.2
   have h2:=pb (R:=R) (φ:=φ) (H:=H) hE ta.2
   rw[hp] at h1
   rw[hq] at h2
   have hg:=Xu (w:=w) ta.1.1.2 .eql x y h1.qb h2.qb hb
   have hr:=uA (w:=w) ta.1.1.1 h1.qb h2.qb hb
   have hbin:(binOp .eql t (a.eval x) (a.eval y)).run P w= .ok (.bool b) w:=by
    have e:=h1.qb
    have e2:=h2.qb
    revert hr
    generalize a.eval x=vx at e
    generalize a.eval y=vy at e2
    intro hr
    have Li:∃ xs,p= .agg xs:=by cases p <;> simp[Zi] at hb;exact⟨_,rfl⟩
    obtain⟨xs,rfl⟩:=Li
    have hq2:∃ ys,q= .agg ys:=by cases q <;> simp[Zi] at hb;exact⟨_,rfl⟩
    obtain⟨ys,rfl⟩:=hq2
    cases e;cases e2;simp[binOp,hr]
   exact .Ao (v':= .bool b) hS (by simp[execOp,ho,hg,hbin]) (.atom _ _ (show Ea R _ _ from .bool _))
  ·cases hev
 case h_34 t x y _ ks x' y'=>
  simp only[Bool.and_eq_true,Bool.not_eq_true'] at ta
  simp only[da] at hev
  split at hev
  ·rename_i p q hp hq
   simp only[Option.map_eq_some_iff,Prod.mk.injEq] at hev
   obtain⟨b,hb,rfl,rfl⟩:=hev
   have h1:=pb (R:=R) (φ:=φ) (H:=H) hE ta.1.2
   have h2:=pb (R:=R) (φ:=φ) (H:=H) hE ta.2
   rw[hp] at h1
   rw[hq] at h2
   have hg:=Xu (w:=w) ta.1.1.2 .neq x y h1.qb h2.qb hb
   have hr:=uA (w:=w) ta.1.1.1 h1.qb h2.qb hb
   have hbin:(binOp .neq t (a.eval x) (a.eval y)).run P w= .ok (.bool (!b)) w:=by
    have e:=h1.qb
    have e2:=h2.qb
    revert hr
    generalize a.eval x=vx at e
    generalize a.eval y=vy at e2
    intro hr
    have Li:∃ xs,p= .agg xs:=by cases p <;> simp[Zi] at hb;exact⟨_,rfl⟩
    obtain⟨xs,rfl⟩:=Li
    have hq2:∃ ys,q= .agg ys:=by cases q <;> simp[Zi] at hb;exact⟨_,rfl⟩
    obtain⟨ys,rfl⟩:=hq2
    cases e;cases e2;simp[binOp,hr]
   exact .Ao (v':= .bool (!b)) hS (by simp[execOp,ho,hg,hbin]) (.atom _ _ (show Ea R _ _ from .bool _))
  ·cases hev
 case h_35 t=>
  simp only[da,Option.some.injEq,Prod.mk.injEq] at hev
  obtain⟨rfl,rfl⟩:=hev
  exact .uc (s:=Instr.makeMap t none) (by simp[execOp,ho]) (uK hS _)
 case h_36 t x k ok kd zero ok' x' k'=>
  simp only[Bool.and_eq_true,beq_iff_eq] at ta
  obtain⟨⟨⟨⟨h1,h2⟩,rfl⟩,h3⟩,h4⟩:=ta
  have hm:=pb (R:=R) (φ:=φ) (H:=H) hE h3
  have hk:=pb (R:=R) (φ:=φ) (H:=H) hE h4
  simp only[da] at hev
  split at hev
  ·rename_i kp em ek
   rw[em] at hm;rw[ek] at hk
   split at hev
   ·rename_i hkk
    simp only[Option.some.injEq,Prod.mk.injEq] at hev
    obtain⟨rfl,rfl⟩:=hev
    obtain⟨u,h5,h6⟩:=zz (P:=P) hS h1 h2 hm hk.qb ok (.inl ⟨rfl,rfl⟩) hkk (r:=none) rfl
    exact .Ao hS (by simp[execOp,ho,h5]) h6
   ·cases hev
  ·rename_i id kp em ek
   rw[em] at hm;rw[ek] at hk
   split at hev
   ·rename_i es hid
    split at hev
    ·rename_i hkk
     simp only[Option.map_eq_some_iff] at hev
     obtain⟨r,hf,hr⟩:=hev
     obtain⟨u,h5,h6⟩:=zz (P:=P) hS h1 h2 hm hk.qb ok (.inr ⟨id,rfl,hid⟩) hkk hf
     cases r with
     |none=>
      simp only[Prod.mk.injEq] at hr
      obtain⟨rfl,rfl⟩:=hr
      exact .Ao hS (by simp[execOp,ho,h5]) h6
     |some r=>
      simp only[Prod.mk.injEq] at hr
      obtain⟨rfl,rfl⟩:=hr
      exact .Ao hS (by simp[execOp,ho,h5]) h6
    ·cases hev
   ·cases hev
  ·cases hev
 case h_37 t m k x kd m' k' x'=>
  simp only[Bool.and_eq_true] at ta
  obtain⟨⟨⟨h1,h2⟩,h3⟩,h4⟩:=ta
  have hm:=pb (R:=R) (φ:=φ) (H:=H) hE h2
  have hk:=pb (R:=R) (φ:=φ) (H:=H) hE h3
  have hx:=pb (R:=R) (φ:=φ) (H:=H) hE h4
  simp only[da] at hev
  split at hev
  ·rename_i id kp xp em ek ex
   rw[em] at hm;rw[ek] at hk;rw[ex] at hx
   split at hev
   ·rename_i es hid
    split at hev
    ·rename_i hkk
     simp only[Option.map_eq_some_iff] at hev
     obtain⟨r,hf,hr⟩:=hev
     obtain⟨w',φ',h5,h6,h7,h8⟩:=Wz (P:=P) hS h1 hm hk.qb hx.qb hid hkk hf
     intro next Q hn
     unfold Oper.wp
     have:(execOp a.eval o).run P w= .ok .skip w':=by simp[execOp,ho,h5]
     rw[this]
     cases r with
     |none=>
      simp only[Prod.mk.injEq] at hr
      obtain⟨rfl,rfl⟩:=hr
      exact hn undef w' R φ' h6 (.atom _ _ (show Ea R _ _ from .dc [] [] .nil)) h7 h8
     |some r=>
      simp only[Prod.mk.injEq] at hr
      obtain⟨rfl,rfl⟩:=hr
      exact hn undef w' R φ' h6 (.atom _ _ (show Ea R _ _ from .dc [] [] .nil)) h7 h8
    ·cases hev
   ·cases hev
  ·cases hev
 case h_38 t m k x kd m' k' x'=>
  simp only[Bool.and_eq_true] at ta
  obtain⟨⟨⟨h1,h2⟩,h3⟩,h4⟩:=ta
  have hm:=pb (R:=R) (φ:=φ) (H:=H) hE h2
  have hk:=pb (R:=R) (φ:=φ) (H:=H) hE h3
  have hx:=pb (R:=R) (φ:=φ) (H:=H) hE h4
  simp only[da] at hev
  split at hev
  ·rename_i id kp xp em ek ex
   rw[em] at hm;rw[ek] at hk;rw[ex] at hx
   split at hev
   ·rename_i es hid
    split at hev
    ·rename_i hkk
     simp only[Option.map_eq_some_iff] at hev
     obtain⟨r,hf,hr⟩:=hev
     obtain⟨w',φ',h5,h6,h7,h8⟩:=Wz (P:=P) hS h1 hm hk.qb hx.qb hid hkk hf
     intro next Q hn
     unfold Oper.wp
     have:(execOp a.eval o).run P w= .ok .skip w':=by simp[execOp,ho,h5]
     rw[this]
     cases r with
     |none=>
      simp only[Prod.mk.injEq] at hr
      obtain⟨rfl,rfl⟩:=hr
      exact hn undef w' R φ' h6 (.atom _ _ (show Ea R _ _ from .dc [] [] .nil)) h7 h8
     |some r=>
      simp only[Prod.mk.injEq] at hr
      obtain⟨rfl,rfl⟩:=hr
      exact hn undef w' R φ' h6 (.atom _ _ (show Ea R _ _ from .dc [] [] .nil)) h7 h8
    ·cases hev
   ·cases hev
  ·cases hev
 case h_39 s d x y=>
  simp only[da] at hev
  split at hev
  ·rename_i id es hx
   split at hev
   ·rename_i n hid
    split at hev
    ·rename_i hn2
     simp only[Option.some.injEq,Prod.mk.injEq] at hev
     obtain⟨rfl,rfl⟩:=hev
     simp only[Bool.and_eq_true,beq_iff_eq] at ta
     obtain⟨⟨rfl,hsl⟩,h3⟩:=ta
     have hr:=pb (R:=R) (φ:=φ) (H:=H) hE h3
     rw[hx] at hr
     exact SM ho hS hr hid hn2 hsl
    ·cases hev
   ·cases hev
  ·cases hev
 case h_40=>cases ta
end ops
end Go.AM
namespace Go.AM
def AO.look (n:Nat):AO→Bool
 | .t m=>n==m
 |_=>false
def Cc.look (n:Nat):Cc→Bool
 | .move x | .box _ x | .bI _ x | .load _ _ x | .dz x | .un _ x | .conv _ x | .IS x | .ES x | .OP _ x | .tA _ x | .LS _ _ _ x | .ext _ x | .len _ x=>x.look n
 | .alloc _=>false
 | .pick c a b=>c.look n||a.look n||b.look n
 | .build _ ps=>ps.any fun p=>p.2.2.look n
 | .Hb _ _ _ _ _ ps=>ps.any fun p=>p.2.look n
 | .store _ a v=>a.look n||v.look n
 | .bin _ x y | .eq _ _ x y=>x.look n||y.look n
 | .BD _ xs | .mx xs | .mn xs | .Ej _ xs | .Bd _ xs | .TA _ xs=>xs.any (·.look n)
 | .Je _ _ _ _ _ l c=>l.look n||c.look n
 | .slice _ x lo hi=>x.look n||(lo.any (·.look n))||(hi.any (·.look n))
 | .mg _ x i | .Hu _ _ x i | .mR _ _ _ x i | .GS x i=>x.look n||i.look n
 | .append _ _ _ _ _ s x=>s.look n||x.look n
 | .wR _ _ x y=>x.look n||y.look n
 | .sA=>false
 | .lookup _ _ _ m k=>m.look n||k.look n
 | .zq _ m k v=>m.look n||k.look n||v.look n
 | .Nx f xs=>f.look n||xs.any (·.look n)
def PS (p:Nat→Bool) (e e':Tr):Prop:=∀ n,p n=true→e.get n=e'.get n
theorem AO.iG {e e':Tr} {x:AO} (h:∀ n,x.look n=true→e.get n=e'.get n):x.ev e=x.ev e':=by
 cases x with
 |t n=>exact h n (by simp[AO.look])
 |c p=>rfl
 |f ix=>rfl
theorem wK {e e':Tr} {xs:List AO} (h:∀ n,xs.any (·.look n)=true→e.get n=e'.get n):xs.map (·.ev e)=xs.map (·.ev e'):=
 List.map_congr_left fun x hx=>AO.iG fun n hn=>h n (List.any_eq_true.2 ⟨x,hx,hn⟩)
theorem fw {call:Fa} {e e':Tr} {H:List aa} {op:Cc} (h:PS (fun n=>op.look n) e e'):da call e H op=da call e' H op:=by
 have one:∀ x:AO,(∀ n,x.look n=true→op.look n=true)→x.ev e=x.ev e':=fun x hx=>AO.iG fun n hn=>h n (hx n hn)
 have many:∀ xs:List AO,(∀ n,xs.any (·.look n)=true→op.look n=true)→xs.map (·.ev e)=xs.map (·.ev e'):=fun xs hx=>wK fun n hn=>h n (hx n hn)
 cases op with
 |move x=>simp only[da];rw[one x (fun n h=>by simpa[Cc.look] using h)]
 |pick c a b=>
  simp only[da]
  rw[one c (fun n h=>by simp[Cc.look,h]),one a (fun n h=>by simp[Cc.look,h]),one b (fun n h=>by simp[Cc.look,h])]
 |alloc z=>rfl
 |box n x=>simp only[da];rw[one x (fun n h=>by simpa[Cc.look] using h)]
 |bI n x=>simp only[da];rw[one x (fun n h=>by simpa[Cc.look] using h)]
 |build z ps=>
  simp only[da]
  rw[List.map_congr_left (f:=fun p:Nat×Nat×AO=>(p.1,p.2.1,p.2.2.ev e)) (g:=fun p=>(p.1,p.2.1,p.2.2.ev e')) fun p hp=>by
   rw[one p.2.2 (fun n h=>by simp only[Cc.look];exact List.any_eq_true.2 ⟨p,hp,h⟩)]]
 |Hb hh sz ag len z ps=>
  simp only[da]
  rw[List.map_congr_left (f:=fun p:Nat×AO=>(p.1 * sz,sz,fj e p.2)) (g:=fun p=>(p.1 * sz,sz,fj e' p.2)) fun p hp=>by
   unfold fj
   rw[one p.2 (fun n h=>by simp only[Cc.look];exact List.any_eq_true.2 ⟨p,hp,h⟩)]]
 |load ag n x=>simp only[da];rw[one x (fun n h=>by simpa[Cc.look] using h)]
 |store n a v=>simp only[da];rw[one a (fun n h=>by simp[Cc.look,h]),one v (fun n h=>by simp[Cc.look,h])]
 |dz x=>simp only[da];rw[one x (fun n h=>by simpa[Cc.look] using h)]
 |bin op x y=>simp only[da];rw[one x (fun n h=>by simp[Cc.look,h]),one y (fun n h=>by simp[Cc.look,h])]
 |eq k ne x y=>simp only[da];rw[one x (fun n h=>by simp[Cc.look,h]),one y (fun n h=>by simp[Cc.look,h])]
 |un op x=>simp only[da];rw[one x (fun n h=>by simpa[Cc.look] using h)]
 |conv k x=>simp only[da];rw[one x (fun n h=>by simpa[Cc.look] using h)]
 |IS x=>simp only[da];rw[one x (fun n h=>by simpa[Cc.look] using h)]
 |OP hh x=>simp only[da];rw[one x (fun n h=>by simpa[Cc.look] using h)]
 |ES x=>simp only[da];rw[one x (fun n h=>by simpa[Cc.look] using h)]
 |BD ix xs=>simp only[da];rw[many xs (fun n h=>by simpa[Cc.look] using h)]
 |Je hh sz ag z b l c=>simp only[da];rw[one l (fun n h=>by simp[Cc.look,h]),one c (fun n h=>by simp[Cc.look,h])]
 |slice sz x lo hi=>
  have hx:=one x (fun n h=>by simp[Cc.look,h])
  cases lo with
  |none=>
   cases hi with
   |none=>simp only[da];rw[hx]
   |some hi=>simp only[da];rw[hx,one hi (fun n h=>by simp[Cc.look,h])]
  |some lo=>
   cases hi with
   |none=>simp only[da];rw[hx,one lo (fun n h=>by simp[Cc.look,h])]
   |some hi=>simp only[da];rw[hx,one lo (fun n h=>by simp[Cc.look,h]),one hi (fun n h=>by simp[Cc.look,h])]
 |tA off x=>simp only[da];rw[one x (fun n h=>by simpa[Cc.look] using h)]
 |LS off ag n x=>simp only[da];rw[one x (fun n h=>by simpa[Cc.look] using h)]
 |mg sz x i=>simp only[da];rw[one x (fun n h=>by simp[Cc.look,h]),one i (fun n h=>by simp[Cc.look,h])]
 |Hu n sz x i=>simp only[da];rw[one x (fun n h=>by simp[Cc.look,h]),one i (fun n h=>by simp[Cc.look,h])]
 |mR n sz ag x i=>simp only[da];rw[one x (fun n h=>by simp[Cc.look,h]),one i (fun n h=>by simp[Cc.look,h])]
 |GS x i=>simp only[da];rw[one x (fun n h=>by simp[Cc.look,h]),one i (fun n h=>by simp[Cc.look,h])]
 |ext i x=>simp only[da];rw[one x (fun n h=>by simpa[Cc.look] using h)]
 |len k x=>simp only[da];rw[one x (fun n h=>by simpa[Cc.look] using h)]
 |mx xs=>simp only[da];rw[many xs (fun n h=>by simpa[Cc.look] using h)]
 |mn xs=>simp only[da];rw[many xs (fun n h=>by simpa[Cc.look] using h)]
 |append o hh sz ag b s x=>simp only[da];rw[one s (fun n h=>by simp[Cc.look,h]),one x (fun n h=>by simp[Cc.look,h])]
 |wR kd ne x y=>simp only[da];rw[one x (fun n h=>by simp[Cc.look,h]),one y (fun n h=>by simp[Cc.look,h])]
 |sA=>rfl
 |lookup kd z ok m k=>simp only[da];rw[one m (fun n h=>by simp[Cc.look,h]),one k (fun n h=>by simp[Cc.look,h])]
 |zq kd m k v=>simp only[da];rw[one m (fun n h=>by simp[Cc.look,h]),one k (fun n h=>by simp[Cc.look,h]),one v (fun n h=>by simp[Cc.look,h])]
 |Ej F xs=>simp only[da];rw[many xs (fun n h=>by simpa[Cc.look] using h)]
 |Bd ix xs=>simp only[da];rw[many xs (fun n h=>by simpa[Cc.look] using h)]
 |TA ix xs=>simp only[da];rw[many xs (fun n h=>by simpa[Cc.look] using h)]
 |Nx f xs=>simp only[da];rw[one f (fun n h=>by simp[Cc.look,h]),many xs (fun n h=>by simp only[Cc.look,h,Bool.or_true])]
def aa.QB:aa→Bool
 | .tok _ _ _=>true
 |_=>false
mutual
theorem PV.Tq:∀ {a b:PV},a.same b=true→a=b:=by
 intro a b h
 cases a <;> cases b <;> simp only[PV.same,Bool.and_eq_true,decide_eq_true_eq,beq_iff_eq,Bool.false_eq_true] at h
 ·rw[h.1,h.2]
 ·rw[h]
 ·rw[h]
 all_goals first | rfl | skip
 ·rw[ql h.1,h.2]
 ·rw[h.1,ql h.2]
 ·rw[ql h]
 ·rw[ql h]
 ·rw[h.1,PV.Tq h.2]
theorem ql:∀ {a b:List PV},mr a b=true→a=b:=by
 intro a b h
 cases a <;> cases b <;> simp only[mr,Bool.and_eq_true,Bool.false_eq_true] at h
 ·rfl
 ·rw[PV.Tq h.1,ql h.2]
end
mutual
theorem PV.Sk:∀ (a:PV),a.same a=true:=by
 intro a
 cases a <;> simp only[PV.same,decide_true,Bool.and_self,beq_self_eq_true,Bool.and_true,Bool.true_and]
 ·exact wj _
 ·exact wj _
 ·exact wj _
 ·exact wj _
 ·exact PV.Sk _
theorem wj:∀ (a:List PV),mr a a=true:=by
 intro a
 cases a with
 |nil=>rfl
 |cons x r=>simp only[mr,PV.Sk x,wj r,Bool.and_self]
end
mutual
theorem AV.Tq:∀ {a b:AV},a.same b=true→a=b:=by
 intro a b h
 cases a <;> cases b <;> simp only[AV.same,Bool.and_eq_true,decide_eq_true_eq,Prod.mk.injEq,Bool.false_eq_true] at h
 ·rw[PV.Tq h]
 ·rw[h.1,h.2]
 ·rw[h.1,h.2.1,h.2.2]
 ·rw[h.1.1,h.1.2.1,h.1.2.2,ql h.2]
 ·rw[h.1,h.2]
 ·rw[h.1,Ep h.2]
 ·rw[h]
 ·rw[Ep h]
 ·rw[Ep h]
 ·rfl
theorem Ep:∀ {a b:List AV},su a b=true→a=b:=by
 intro a b h
 cases a <;> cases b <;> simp only[su,Bool.and_eq_true,Bool.false_eq_true] at h
 ·rfl
 ·rw[AV.Tq h.1,Ep h.2]
end
mutual
theorem AV.Sk:∀ (a:AV),a.same a=true:=by
 intro a
 cases a <;> simp only[AV.same,decide_true,Bool.true_and,PV.Sk,wj]
 ·exact Xm _
 ·exact Xm _
 ·exact Xm _
theorem Xm:∀ (a:List AV),su a a=true:=by
 intro a
 cases a with
 |nil=>rfl
 |cons x r=>simp only[su,AV.Sk x,Xm r,Bool.and_self]
end
theorem QF {α β:Type}:∀ {a b:List (α×β)},a.map (·.1)=b.map (·.1)→a.map (·.2)=b.map (·.2)→a=b
 | [],[],_,_=>rfl
 | [],_::_,h,_=>by cases h
 |_::_,[],h,_=>by cases h
 | (x,y)::a,(x',y')::b,h,k=>by
   simp only[List.map_cons,List.cons.injEq] at h k
   rw[h.1,k.1,QF h.2 k.2]
theorem aa.Sk (o:aa):o.same o=true:=by
 cases o <;> simp only[aa.same,decide_true,Bool.true_and,Xm,wj,Bool.and_self]
theorem TC:∀ (H X:List aa),Qz H (H++X)=true
 | [],_=>rfl
 |o::r,X=>by rw[List.cons_append,Qz,aa.Sk,TC r X];rfl
theorem aa.Tq {x y:aa} (h:x.same y=true) (ht:x.QB=false):x=y:=by
 cases x with
 |tok=>cases ht
 |box a=>
  cases y <;> simp only[aa.same,Bool.false_eq_true] at h
  rw[Ep h]
 |seq s g a f n=>
  cases y <;> simp only[aa.same,Bool.and_eq_true,decide_eq_true_eq,Prod.mk.injEq,Bool.false_eq_true] at h
  obtain⟨⟨rfl,rfl,rfl,rfl⟩,h⟩:=h
  rw[Ep h]
 |map a=>
  cases y <;> simp only[aa.same,Bool.and_eq_true,Bool.false_eq_true] at h
  rw[QF (ql h.1) (ql h.2)]
 |dead=>cases y <;> simp only[aa.same,Bool.false_eq_true] at h;rfl
theorem aC:∀ {H H':List aa},Qz H H'=true→∀ (id:Nat) (o:aa),H[id]? =some o→o.QB=false→H'[id]? =some o
 | [],_,_,id,o,h,_=>by simp at h
 |x::r,[],h,_,_,_,_=>by cases h
 |x::r,y::r',h,0,o,ho,ht=>by
  simp only[Qz,Bool.and_eq_true] at h
  simp only[List.getElem?_cons_zero,Option.some.injEq] at ho ⊢
  subst ho
  exact (aa.Tq h.1 ht).symm
 |x::r,y::r',h,id+1,o,ho,ht=>by
  simp only[Qz,Bool.and_eq_true] at h
  simp only[List.getElem?_cons_succ] at ho ⊢
  exact aC h.2 id o ho ht
def No (H H':List aa):Prop:=∀ (id:Nat) (o:aa),H[id]? =some o→o.QB=false→H'[id]? =some o
theorem No.refl (H:List aa):No H H:=fun _ _ h _=>h
theorem No.push (H:List aa) (o:aa):No H (H++[o]):=fun id o' h _=>by
 have hl:id < H.length:=(List.getElem?_eq_some_iff.1 h).1
 rw[List.getElem?_append_left hl];exact h
theorem No.YE (H:List aa) (a b:Nat) (c:Bool):No (H++[.tok a b c]) H:=fun id o h ht=>by
 by_cases hl:id < H.length
 ·rw[List.getElem?_append_left hl] at h;exact h
 ·rw[List.getElem?_append_right (by omega)] at h
  by_cases h0:id - H.length=0
  ·rw[h0] at h;simp at h;subst h;simp[aa.QB] at ht
  ·rw[List.getElem?_eq_none (by simp;omega)] at h;cases h
theorem No.FQ {H:List aa} {id:Nat} {a b:Nat} {c:Bool} (h:H[id]? =some (.tok a b c)) (a' b':Nat) (c':Bool):
 No H (H.set id (.tok a' b' c'))∧No (H.set id (.tok a' b' c')) H:=by
 constructor
 ·intro i o hi ht
  by_cases e:id=i
  ·subst e;rw[h] at hi;injection hi with hi;subst hi;simp[aa.QB] at ht
  ·rw[List.getElem?_set_ne e];exact hi
 ·intro i o hi ht
  by_cases e:id=i
  ·subst e
   have hl:id < H.length:=(List.getElem?_eq_some_iff.1 h).1
   rw[List.getElem?_set_self hl] at hi;injection hi with hi;subst hi;simp[aa.QB] at ht
  ·rw[List.getElem?_set_ne e] at hi;exact hi
def Xd.isLit:Xd→Bool
 | .lit=>true
 |_=>false
def Xd.Fh:Xd→Bool
 | .own=>true
 |_=>false
def Cc.cls:Cc→Nat
 | .move _ | .pick _ _ _ | .build _ _ | .bin _ _ _ | .un _ _ | .conv _ _ | .BD _ _ | .LS _ _ _ _ | .mR _ _ _ _ _ | .GS _ _ | .ext _ _ | .mx _ | .mn _ | .bI _ _ | .wR _ _ _ _=>0
 | .load _ _ _ | .dz _ | .tA _ _ | .mg _ _ _ | .Hu _ _ _ _ | .len _ _ | .eq _ _ _ _ | .slice _ _ _ _ | .IS _ | .Ej _ _ | .lookup _ _ _ _ _=>1
 | .Hb h _ _ _ _ _ | .OP h _ | .Je h _ _ _ _ _ _=>(if h.isLit then 0 else if h.Fh then 3 else 2)
 | .append own h _ _ _ _ _=>(if own then 4 else if h.Fh then 4 else 2)
 | .alloc _ | .box _ _ | .TA _ _=>3
 |_=>4
theorem FO {H H':List aa} (h:No H H'):∀ (d:Nat) (v:AV) (p:PV),Bb H d v=some p→Bb H' d v=some p:=by
 intro d
 induction d with
 |zero=>intro v p hp;cases v <;> simp_all [Bb]
 |succ d ih=>
  have many:∀ (cs:List AV) (ps:List PV),Wa (Bb H d) cs=some ps→Wa (Bb H' d) cs=some ps:=by
   intro cs
   induction cs with
   |nil=>intro ps h;simpa[Wa] using h
   |cons c cs ihc=>
    intro ps h
    simp only[Wa,Option.bind_eq_some_iff] at h ⊢
    obtain⟨b,h1,bs,h2,h3⟩:=h
    exact⟨b,ih _ _ h1,bs,ihc _ h2,h3⟩
  intro v p hp
  cases v with
  |pv q=>simpa[Bb] using hp
  |uq=>simpa[Bb] using hp
  |own id len=>
   simp only[Bb] at hp ⊢
   split at hp
   ·rename_i sz ag cells fl nl hid
    rw[h _ _ hid rfl]
    split at hp
    ·rename_i hc
     simp only[if_pos hc]
     cases nl with
     |true=>simpa using hp
     |false=>
      simp only[Bool.false_eq_true,if_false,Option.map_eq_some_iff] at hp ⊢
      obtain⟨ps,h1,h2⟩:=hp
      exact⟨ps,many _ _ h1,h2⟩
    ·cases hp
   ·cases hp
  |ptr id off=>
   simp only[Bb] at hp ⊢
   split at hp
   ·rename_i cells hid
    rw[h _ _ hid rfl]
    simp only[Option.map_eq_some_iff] at hp ⊢
    obtain⟨ps,h1,h2⟩:=hp
    exact⟨ps,many _ _ h1,h2⟩
   ·cases hp
  |agg cs=>
   simp only[Bb,Option.map_eq_some_iff] at hp ⊢
   obtain⟨ps,h1,h2⟩:=hp
   exact⟨ps,many _ _ h1,h2⟩
  |dc cs=>
   simp only[Bb,Option.map_eq_some_iff] at hp ⊢
   obtain⟨ps,h1,h2⟩:=hp
   exact⟨ps,many _ _ h1,h2⟩
  |ic=>simp[Bb] at hp
  |mi=>simp[Bb] at hp
  |mp=>simp[Bb] at hp
  |undef=>simp[Bb] at hp
theorem CK {H H':List aa} (h:No H H') {d:Nat}:∀ {cs:List AV} {ps:List PV},Wa (Bb H d) cs=some ps→Wa (Bb H' d) cs=some ps:=by
 intro cs
 induction cs with
 |nil=>intro ps h;simpa[Wa] using h
 |cons c cs ihc=>
  intro ps hp
  simp only[Wa,Option.bind_eq_some_iff] at hp ⊢
  obtain⟨b,h1,bs,h2,h3⟩:=hp
  exact⟨b,FO h _ _ _ h1,bs,ihc h2,h3⟩
theorem Nw {H H':List aa} (h:No H H') {d:Nat} {x v:AV} (hp:place H d x=some v):place H' d x=some v:=by
 unfold place at hp ⊢
 split at hp
 ·exact hp
 ·split at hp
  ·rename_i hid;rw[h _ _ hid rfl];exact hp
  ·cases hp
 ·split at hp
  ·rename_i hid;rw[h _ _ hid rfl];exact hp
  ·cases hp
 ·cases hp
theorem PK {H H':List aa} (h:No H H') {ag:Bool} {n:Nat} {x v:AV} (hp:na H ag n x=some v):na H' ag n x=some v:=by
 unfold na at hp ⊢
 split at hp
 ·exact hp
 ·split at hp
  ·rename_i hid;rw[h _ _ hid rfl];exact hp
  ·cases hp
 ·split at hp
  ·rename_i hid;rw[h _ _ hid rfl];exact hp
  ·cases hp
 ·cases hp
theorem SK {H H':List aa} (h:No H H') {sz:Nat} {x v:AV} {i:Int} (hp:ma H sz x i=some v):ma H' sz x i=some v:=by
 unfold ma at hp ⊢
 split at hp
 ·exact hp
 ·exact hp
 ·split at hp
  ·rename_i hid;rw[h _ _ hid rfl];exact hp
  ·cases hp
 ·cases hp
theorem iO {H H':List aa} (h:No H H') {k:Nat} {x:AV} {n:Nat} (hp:Mc H k x=some n):Mc H' k x=some n:=by
 unfold Mc at hp ⊢
 split at hp
 ·exact hp
 ·exact hp
 ·exact hp
 ·exact hp
 ·split at hp
  ·rename_i hid;rw[h _ _ hid rfl];exact hp
  ·cases hp
 ·exact hp
 ·split at hp
  ·rename_i hid;rw[h _ _ hid rfl];exact hp
  ·cases hp
 ·cases hp
theorem UQ {H H':List aa} (h:No H H') {k:Nat} {x y:AV} {b:Bool} (hp:rm H k x y=some b):rm H' k x y=some b:=by
 unfold rm at hp ⊢
 split at hp <;> first
  |exact hp
  | (split at hp
     ·rename_i hid;simp only[h _ _ hid rfl];exact hp
     ·cases hp)
  |cases hp
theorem CN {H H':List aa} (h:No H H') {x:AV} {b:ByteArray} (hp:oB H x=some b):oB H' x=some b:=by
 unfold oB at hp ⊢
 split at hp <;> first
  |exact hp
  | (split at hp
     ·rename_i hid;rw[h _ _ hid rfl];exact hp
     ·cases hp)
  |cases hp
theorem Wq {H H':List aa} (h:No H H') {sz:Nat} {x v:AV} {lo hi:Option Int} (hp:Ed H sz x lo hi=some v):Ed H' sz x lo hi=some v:=by
 unfold Ed at hp ⊢
 split at hp <;> first
  |exact hp
  | (split at hp
     ·rename_i hid;rw[h _ _ hid rfl];exact hp
     ·cases hp)
  |cases hp
theorem Bx {H:List aa} {sz:Nat} {ag:Bool} {n:Nat} {cs:List AV} {v:AV} {H':List aa} (h:fresh H .lit sz ag n cs=some (v,H')):
 H'=H∧∀ H2,fresh H2 .lit sz ag n cs=some (v,H2):=by
 simp only[fresh,Option.map_eq_some_iff,Prod.mk.injEq] at h ⊢
 obtain⟨ps,h1,rfl,rfl⟩:=h
 exact⟨rfl,fun H2=>⟨ps,h1,rfl,trivial⟩⟩
theorem LA {H:List aa} {sz:Nat} {ag:Bool} {n:Nat} {cs:List AV} {v:AV} {H':List aa} (h:fresh H .uq sz ag n cs=some (v,H')):
 No H H'∧No H' H:=by
 simp only[fresh,Option.map_eq_some_iff,Prod.mk.injEq] at h
 obtain⟨ps,h1,rfl,rfl⟩:=h
 exact⟨No.push _ _,No.YE _ _ _ _⟩
theorem yx {H:List aa} {sz:Nat} {ag:Bool} {n:Nat} {cs:List AV} {v:AV} {H':List aa} (h:fresh H .own sz ag n cs=some (v,H')):
 No H H':=by
 simp only[fresh,Option.some.injEq,Prod.mk.injEq] at h
 obtain⟨rfl,rfl⟩:=h
 exact No.push _ _
theorem dT {call:Fa} {e:Tr} {H H':List aa} {op:Cc} {v:AV} (hc:op.cls=0) (h:da call e H op=some (v,H')):
 H'=H∧∀ H2,da call e H2 op=some (v,H2):=by
 have ob:∀ {α:Type} {x:Option α} {f:α→AV},(x.map fun v=>(f v,H))=some (v,H')→H'=H∧∀ H2:List aa,(x.map fun v=>(f v,H2))=some (v,H2):=by
  intro α x f h
  cases x with
  |none=>simp at h
  |some x=>simp at h;exact⟨h.2.symm,fun H2=>by simp[h.1]⟩
 cases op with
 |move x=>simp only[da,Option.some.injEq,Prod.mk.injEq] at h ⊢;exact⟨h.2.symm,fun H2=>⟨h.1,trivial⟩⟩
 |pick c a b=>
  simp only[da,Option.bind_eq_some_iff,Option.some.injEq,Prod.mk.injEq] at h ⊢
  obtain⟨t,h1,h2,h3⟩:=h
  exact⟨h3.symm,fun H2=>⟨t,h1,h2,trivial⟩⟩
 |bI n x=>
  simp only[da] at h ⊢
  split at h
  ·rename_i h0;simp only[if_pos h0];exact ob h
  ·cases h
 |build z ps=>exact ob h
 |bin o x y=>exact ob h
 |wR kd ne x y=>simp only[da] at h ⊢;split at h <;> first | exact ob h | cases h
 |un o x=>exact ob h
 |conv k x=>exact ob h
 |mx xs=>exact ob h
 |mn xs=>exact ob h
 |BD ix xs=>simp only[da,Option.some.injEq,Prod.mk.injEq] at h ⊢;exact⟨h.2.symm,fun H2=>⟨h.1,trivial⟩⟩
 |LS off ag n x=>simp only[da] at h ⊢;split at h <;> first | exact ob h | cases h
 |ext i x=>simp only[da] at h ⊢;split at h <;> first | exact ob h | cases h
 |mR n sz ag x i=>
  simp only[da] at h ⊢
  cases hi:asInt (i.ev e) with
  |none=>simp[hi] at h
  |some k=>
   simp only[hi,Option.bind_some] at h ⊢
   split at h
   ·rename_i hx;simp only[if_pos hx];split at h <;> first | exact ob h | cases h
   ·cases h
 |GS x i=>
  simp only[da] at h ⊢
  cases hi:asInt (i.ev e) with
  |none=>simp[hi] at h
  |some k=>
   simp only[hi,Option.bind_some] at h ⊢
   split at h
   ·split at h
    ·rename_i h0;simp only[if_pos h0];exact ob h
    ·cases h
   ·cases h
 |Hb hh sz ag len z ps=>
  cases hh with
  |lit=>
   simp only[da] at h ⊢
   cases hf:nm (qi z len) (ps.map fun p=>(p.1 * sz,sz,fj e p.2)) with
   |none=>simp[hf] at h
   |some cs=>
    simp only[hf,Option.bind_some] at h ⊢
    split at h
    ·rename_i h0;simp only[if_pos h0];exact Bx h
    ·cases h
  |uq=>simp[Cc.cls,Xd.isLit,Xd.Fh] at hc
  |own=>simp[Cc.cls,Xd.isLit,Xd.Fh] at hc
 |OP hh x=>
  cases hh with
  |lit=>
   simp only[da] at h ⊢
   split at h
   ·exact Bx h
   ·cases h
  |uq=>simp[Cc.cls,Xd.isLit,Xd.Fh] at hc
  |own=>simp[Cc.cls,Xd.isLit,Xd.Fh] at hc
 |Je hh sz ag z b l c=>
  cases hh with
  |lit=>
   simp only[da] at h ⊢
   cases hl:asInt (l.ev e) with
   |none=>simp[hl] at h
   |some l=>
    cases hcc:asInt (c.ev e) with
    |none=>simp[hl,hcc] at h
    |some c=>
     simp only[hl,hcc,Option.bind_some] at h ⊢
     split at h
     ·rename_i h0;simp only[if_pos h0];exact Bx h
     ·cases h
  |uq=>simp[Cc.cls,Xd.isLit,Xd.Fh] at hc
  |own=>simp[Cc.cls,Xd.isLit,Xd.Fh] at hc
 |append o hh _ _ _ _ _=>exfalso;simp only[Cc.cls] at hc;split at hc <;> first | cases hc | (split at hc <;> cases hc)
 |_=>simp[Cc.cls] at hc
theorem TP {call:Fa} {e:Tr} {H H':List aa} {op:Cc} {v:AV} (hc:op.cls=1) (h:da call e H op=some (v,H')):
 H'=H∧∀ H2,No H H2→da call e H2 op=some (v,H2):=by
 have ob:∀ {α:Type} {g:List aa→Option α} {f:α→AV},((g H).map fun v=>(f v,H))=some (v,H')→(∀ H2 a,No H H2→g H=some a→g H2=some a)→
  H'=H∧∀ H2:List aa,No H H2→((g H2).map fun v=>(f v,H2))=some (v,H2):=by
  intro α g f h hg
  cases hx:g H with
  |none=>simp[hx] at h
  |some x=>simp[hx] at h;exact⟨h.2.symm,fun H2 ha=>by simp[hg H2 x ha hx,h.1]⟩
 cases op with
 |load ag n x=>exact ob (g:=fun H=>na H ag n (x.ev e)) h fun H2 a ha hp=>PK ha hp
 |tA off x=>exact ob (g:=fun H=>place H off (x.ev e)) h fun H2 a ha hp=>Nw ha hp
 |len k x=>exact ob (g:=fun H=>Mc H k (x.ev e)) h fun H2 a ha hp=>iO ha hp
 |IS x=>exact ob (g:=fun H=>oB H (x.ev e)) h fun H2 a ha hp=>CN ha hp
 |eq k ne x y=>exact ob (g:=fun H=>rm H k (x.ev e) (y.ev e)) h fun H2 a ha hp=>UQ ha hp
 |dz x=>
  simp only[da] at h ⊢
  split at h
  ·simp only[Option.some.injEq,Prod.mk.injEq] at h ⊢;exact⟨h.2.symm,fun H2 _=>⟨h.1,trivial⟩⟩
  ·exact ob (g:=fun H=>place H 0 (x.ev e)) h fun H2 a ha hp=>Nw ha hp
 |mg sz x i=>
  simp only[da] at h ⊢
  cases hi:asInt (i.ev e) with
  |none=>simp[hi] at h
  |some k=>
   simp only[hi,Option.bind_some] at h ⊢
   exact ob (g:=fun H=>ma H sz (x.ev e) k.2) h fun H2 a ha hp=>SK ha hp
 |Hu n sz x i=>
  simp only[da] at h ⊢
  cases hi:asInt (i.ev e) with
  |none=>simp[hi] at h
  |some k=>
   simp only[hi,Option.bind_some] at h ⊢
   split at h
   ·rename_i h0
    simp only[if_pos h0]
    exact ob (g:=fun H=>place H (k.2.toNat * sz) (x.ev e)) h fun H2 a ha hp=>Nw ha hp
   ·cases h
 |slice sz x lo hi=>
  cases lo with
  |none=>
   cases hi with
   |none=>exact ob (g:=fun H=>Ed H sz (x.ev e) none none) h fun H2 a ha hp=>Wq ha hp
   |some hi=>
    simp only[da] at h ⊢
    cases hh:asInt (hi.ev e) with
    |none=>simp[hh] at h
    |some k=>
     simp only[hh,Option.bind_some] at h ⊢
     exact ob (g:=fun H=>Ed H sz (x.ev e) none (some k.2)) h fun H2 a ha hp=>Wq ha hp
  |some lo=>
   cases hi with
   |none=>
    simp only[da] at h ⊢
    cases hh:asInt (lo.ev e) with
    |none=>simp[hh] at h
    |some k=>
     simp only[hh,Option.bind_some] at h ⊢
     exact ob (g:=fun H=>Ed H sz (x.ev e) (some k.2) none) h fun H2 a ha hp=>Wq ha hp
   |some hi=>
    simp only[da] at h ⊢
    cases hl:asInt (lo.ev e) with
    |none=>simp[hl] at h
    |some l=>
     cases hh:asInt (hi.ev e) with
     |none=>simp[hl,hh] at h
     |some k=>
      simp only[hl,hh,Option.bind_some] at h ⊢
      exact ob (g:=fun H=>Ed H sz (x.ev e) (some l.2) (some k.2)) h fun H2 a ha hp=>Wq ha hp
 |lookup kd z ok m k=>
  simp only[da] at h ⊢
  split at h
  ·split at h
   ·rename_i h0
    simp only[Option.some.injEq,Prod.mk.injEq] at h
    exact⟨h.2.symm,fun H2 _=>by rw[if_pos h0,h.1]⟩
   ·cases h
  ·rename_i id k' _ _
   split at h
   ·rename_i es hid
    split at h
    ·rename_i h0
     simp only[Option.map_eq_some_iff] at h
     obtain⟨r,h1,h2⟩:=h
     cases r with
     |none=>
      simp only[Prod.mk.injEq] at h2
      exact⟨h2.2.symm,fun H2 ha=>by rw[ha _ _ hid rfl];simp only[if_pos h0,h1,Option.map_some,h2.1]⟩
     |some r=>
      simp only[Prod.mk.injEq] at h2
      exact⟨h2.2.symm,fun H2 ha=>by rw[ha _ _ hid rfl];simp only[if_pos h0,h1,Option.map_some,h2.1]⟩
    ·cases h
   ·cases h
  ·cases h
 |Ej F xs=>
  simp only[da,Option.bind_eq_some_iff] at h ⊢
  obtain⟨ps,h1,r,h2,h3⟩:=h
  split at h3
  ·rename_i h5
   simp only[Option.some.injEq,Prod.mk.injEq] at h3
   obtain⟨h3,h4⟩:=h3
   exact⟨h4.symm,fun H2 ha=>⟨ps,CK ha h1,r,h2,by rw[if_pos h5,h3]⟩⟩
  ·cases h3
 |Hb hh _ _ _ _ _=>cases hh <;> simp[Cc.cls,Xd.isLit,Xd.Fh] at hc
 |OP hh _=>cases hh <;> simp[Cc.cls,Xd.isLit,Xd.Fh] at hc
 |Je hh _ _ _ _ _ _=>cases hh <;> simp[Cc.cls,Xd.isLit,Xd.Fh] at hc
 |append o hh _ _ _ _ _=>cases o <;> cases hh <;> simp[Cc.cls,Xd.Fh] at hc
 |_=>simp[Cc.cls] at hc
theorem TS {call:Fa} {e:Tr} {H H':List aa} {op:Cc} {v:AV} (hc:op.cls=2) (h:da call e H op=some (v,H')):No H H'∧No H' H:=by
 cases op with
 |Hb hh sz ag len z ps=>
  cases hh with
  |uq=>
   simp only[da] at h
   cases hf:nm (qi z len) (ps.map fun p=>(p.1 * sz,sz,fj e p.2)) with
   |none=>simp[hf] at h
   |some cs=>
    simp only[hf,Option.bind_some] at h
    split at h
    ·exact LA h
    ·cases h
  |lit=>simp[Cc.cls,Xd.isLit,Xd.Fh] at hc
  |own=>simp[Cc.cls,Xd.isLit,Xd.Fh] at hc
 |OP hh x=>
  cases hh with
  |uq=>
   simp only[da] at h
   split at h
   ·exact LA h
   ·cases h
  |lit=>simp[Cc.cls,Xd.isLit,Xd.Fh] at hc
  |own=>simp[Cc.cls,Xd.isLit,Xd.Fh] at hc
 |Je hh sz ag z b l c=>
  cases hh with
  |uq=>
   simp only[da] at h
   cases hl:asInt (l.ev e) with
   |none=>simp[hl] at h
   |some l=>
    cases hcc:asInt (c.ev e) with
    |none=>simp[hl,hcc] at h
    |some c=>
     simp only[hl,hcc,Option.bind_some] at h
     split at h
     ·exact LA h
     ·cases h
  |lit=>simp[Cc.cls,Xd.isLit,Xd.Fh] at hc
  |own=>simp[Cc.cls,Xd.isLit,Xd.Fh] at hc
 |append o hh sz ag b s x=>
  cases o with
  |true=>simp[Cc.cls] at hc
  |false=>
   simp only[da,Hc,Bool.false_eq_true,if_false] at h
   split at h
   ·split at h
    ·rename_i hid
     simp only[Option.bind_eq_some_iff] at h
     obtain⟨ys,h1,h2⟩:=h
     split at h2
     ·simp only[Option.some.injEq,Prod.mk.injEq] at h2
      obtain⟨_,rfl⟩:=h2
      exact No.FQ hid _ _ _
     ·cases h2
    ·cases h
   ·simp only[Option.bind_eq_some_iff] at h
    obtain⟨ys,h1,h2⟩:=h
    split at h2
    ·unfold Zl at h2
     split at h2
     ·simp only[Option.some.injEq,Prod.mk.injEq] at h2
      obtain⟨_,rfl⟩:=h2
      exact⟨No.refl _,No.refl _⟩
     ·split at h2
      ·simp only[Option.some.injEq,Prod.mk.injEq] at h2
       obtain⟨_,rfl⟩:=h2
       exact⟨No.refl _,No.refl _⟩
      ·simp only[Option.some.injEq,Prod.mk.injEq] at h2
       obtain⟨_,rfl⟩:=h2
       exact⟨No.push _ _,No.YE _ _ _ _⟩
      ·cases h2
    ·cases h2
   ·cases h
 |_=>simp[Cc.cls] at hc
theorem FT {call:Fa} {e:Tr} {H H':List aa} {op:Cc} {v:AV} (hc:op.cls=3) (h:da call e H op=some (v,H')):No H H':=by
 cases op with
 |alloc z=>simp only[da,Option.some.injEq,Prod.mk.injEq] at h;obtain⟨_,rfl⟩:=h;exact No.push _ _
 |box n x=>
  simp only[da] at h
  split at h
  ·simp only[Option.some.injEq,Prod.mk.injEq] at h;obtain⟨_,rfl⟩:=h;exact No.push _ _
  ·cases h
 |Hb hh sz ag len z ps=>
  cases hh with
  |own=>
   simp only[da] at h
   cases hf:nm (qi z len) (ps.map fun p=>(p.1 * sz,sz,fj e p.2)) with
   |none=>simp[hf] at h
   |some cs=>
    simp only[hf,Option.bind_some] at h
    split at h
    ·exact yx h
    ·cases h
  |lit=>simp[Cc.cls,Xd.isLit,Xd.Fh] at hc
  |uq=>simp[Cc.cls,Xd.isLit,Xd.Fh] at hc
 |OP hh x=>
  cases hh with
  |own=>
   simp only[da] at h
   split at h
   ·exact yx h
   ·cases h
  |lit=>simp[Cc.cls,Xd.isLit,Xd.Fh] at hc
  |uq=>simp[Cc.cls,Xd.isLit,Xd.Fh] at hc
 |Je hh sz ag z b l c=>
  cases hh with
  |own=>
   simp only[da] at h
   cases hl:asInt (l.ev e) with
   |none=>simp[hl] at h
   |some l=>
    cases hcc:asInt (c.ev e) with
    |none=>simp[hl,hcc] at h
    |some c=>
     simp only[hl,hcc,Option.bind_some] at h
     split at h
     ·exact yx h
     ·cases h
  |lit=>simp[Cc.cls,Xd.isLit,Xd.Fh] at hc
  |uq=>simp[Cc.cls,Xd.isLit,Xd.Fh] at hc
 |append o hh _ _ _ _ _=>cases o <;> cases hh <;> simp[Cc.cls,Xd.Fh] at hc
 |TA ix xs=>
  simp only[da,Option.bind_eq_some_iff] at h
  obtain⟨r,_,h⟩:=h
  split at h
  ·next hs=>
   injection h with h
   subst h
   exact aC hs
  ·cases h
 |_=>simp[Cc.cls] at hc
def zN (x y:Nat):Bool:=x==0||y==0||(x==1&&decide (y≤3))||(x==2&&y==1)
def Oa.cls (o:Oa):Nat:=if o.pr then 0 else o.op.cls
theorem Us {call:Fa} {e e':Tr} {H:List aa} {o:Oa} (h:PS (fun n=>o.op.look n) e e'):Ch call e H o=Ch call e' H o:=by
 unfold Ch
 rw[fw h,fw (H:=H) h]
theorem qF {H:List aa} {r:Option (AV×List aa)} {v:AV} {H':List aa} (h:BR H r=some (v,H')):r=some (v,[])∧H'=H:=by
 unfold BR at h
 split at h
 ·simp only[Option.some.injEq,Prod.mk.injEq] at h
  obtain⟨rfl,rfl⟩:=h
  exact⟨rfl,rfl⟩
 ·cases h
theorem DO {call:Fa} {e:Tr} {H H':List aa} {o:Oa} {v:AV} (hc:o.cls=0) (h:Ch call e H o=some (v,H')):H'=H∧∀ H2,Ch call e H2 o=some (v,H2):=by
 unfold Ch Oa.cls at *
 cases hp:o.pr with
 |true=>
  simp only[hp,cond_true] at h ⊢
  obtain⟨h1,rfl⟩:=qF h
  exact⟨rfl,fun H2=>by rw[h1];rfl⟩
 |false=>simp only[hp,cond_false,Bool.false_eq_true,if_false] at h hc ⊢;exact dT hc h
theorem AP {call:Fa} {e:Tr} {H:List aa} {o:Oa} (hc:o.cls≠0):Ch call e H o=da call e H o.op∧o.cls=o.op.cls:=by
 unfold Ch Oa.cls at *
 cases hp:o.pr with
 |true=>simp[hp] at hc
 |false=>simp
theorem kP {call:Fa} {e:Tr} {H H1 H2:List aa} {x y:Oa} {v1 v2:AV} (hc:zN x.cls y.cls=true)
 (h1:Ch call e H x=some (v1,H1)) (h2:Ch call e H1 y=some (v2,H2)):
 ∃ H3,Ch call e H y=some (v2,H3)∧Ch call e H3 x=some (v1,H2):=by
 simp only[zN,Bool.or_eq_true,beq_iff_eq,Bool.and_eq_true,decide_eq_true_eq] at hc
 rcases hc with ((hx | hy) | ⟨hx,hy⟩) | ⟨hx,hy⟩
 ·obtain⟨rfl,h⟩:=DO hx h1
  exact⟨H2,h2,h H2⟩
 ·obtain⟨rfl,h⟩:=DO hy h2
  exact⟨H,h H,h1⟩
 ·have kx:=fun H=>AP (call:=call) (e:=e) (H:=H) (o:=x) (by omega)
  rw[(kx H).1] at h1
  rw[(kx H).2] at hx
  obtain⟨rfl,h⟩:=TP hx h1
  refine⟨H2,h2,?_⟩
  rw[(kx H2).1]
  refine h H2 ?_
  by_cases hy0:y.cls=0
  ·rw[(DO hy0 h2).1];exact No.refl _
  ·have ky:=AP (call:=call) (e:=e) (H:=H1) hy0
   rw[ky.1] at h2
   rw[ky.2] at hy hy0
   have:y.op.cls=1∨y.op.cls=2∨y.op.cls=3:=by omega
   rcases this with hy | hy | hy
   ·rw[(TP hy h2).1];exact No.refl _
   ·exact (TS hy h2).1
   ·exact FT hy h2
 ·have kx:=fun H=>AP (call:=call) (e:=e) (H:=H) (o:=x) (by omega)
  have ky:=fun H=>AP (call:=call) (e:=e) (H:=H) (o:=y) (by omega)
  rw[(kx H).1] at h1
  rw[(kx H).2] at hx
  rw[(ky H1).1] at h2
  rw[(ky H).2] at hy
  obtain⟨rfl,h⟩:=TP hy h2
  exact⟨H,by rw[(ky H).1];exact h H (TS hx h1).2,by rw[(kx H).1];exact h1⟩
end Go.AM
set_option linter.unusedSimpArgs false
set_option linter.unusedVariables false
namespace Go.AM
open Go.RowKit
def PC (s s':St):Prop:=s.H=s'.H∧∀ t,s.env.get t=s'.env.get t
theorem PC.refl (s:St):PC s s:=⟨rfl,fun _=>rfl⟩
theorem PC.symm {s s':St} (h:PC s s'):PC s' s:=⟨h.1.symm,fun t=>(h.2 t).symm⟩
theorem PC.trans {s s' s'':St} (h:PC s s') (k:PC s' s''):PC s s'':=⟨h.1.trans k.1,fun t=>(h.2 t).trans (k.2 t)⟩
def Oa.look (n:Nat) (o:Oa):Bool:=o.op.look n||(match o.guard with | some (t,_)=>n==t | none=>false)
def Sw (d:Option Nat) (p:Nat→Bool):Bool:=
 match d with
 |some d=>p d
 |none=>false
def MB (x y:Oa):Bool:=
 !Sw x.dst (fun d=>y.look d)&& !Sw y.dst (fun d=>x.look d)&& !Sw x.dst (fun d=>y.dst==some d)&&zN x.cls y.cls
theorem uo {e e':Tr} {g:Option (Nat×Bool)} (h:∀ t b,g=some (t,b)→e.get t=e'.get t):Te e g=Te e' g:=by
 cases g with
 |none=>rfl
 |some g=>obtain⟨t,b⟩:=g;simp only[Te,h t b rfl]
theorem Pr (e:Tr) (d:Option Nat) (v:AV) (t:Nat):(Ul e d v).get t=if d=some t then v else e.get t:=by
 cases d with
 |none=>simp[Ul]
 |some d=>
  simp only[Ul,Tr.ba,Option.some.injEq]
  by_cases h:t=d
  ·subst h;simp
  ·simp[h,Ne.symm h]
theorem IA {call:Fa} {o:Oa} {e e':Tr} {H:List aa} (h:∀ n,o.look n=true→e.get n=e'.get n) {s1:St} (h1:Nc call o ⟨e,H⟩=some s1):
 ∃ v,s1.env=Ul e o.dst v∧Nc call o ⟨e',H⟩=some ⟨Ul e' o.dst v,s1.H⟩:=by
 have hw:Te e o.guard=Te e' o.guard:=uo fun t b hg=>h t (by simp[Oa.look,hg])
 have ho:Ch call e H o=Ch call e' H o:=Us fun n hn=>h n (by simp[Oa.look,hn])
 unfold Nc at h1 ⊢
 simp only at h1 ⊢
 rw[← hw]
 cases hc:Te e o.guard with
 |none=>simp[hc,qk] at h1
 |some b=>
  cases b with
  |true=>
   simp only[hc,qk,WI] at h1 ⊢
   rw[← ho]
   cases hv:Ch call e H o with
   |none=>simp[hv,sw] at h1
   |some r=>
    obtain⟨v,H'⟩:=r
    simp only[hv,sw,Option.some.injEq] at h1 ⊢
    subst h1
    exact⟨v,rfl,rfl⟩
  |false=>
   simp only[hc,qk,Eu,Option.some.injEq] at h1 ⊢
   subst h1
   exact⟨_,rfl,rfl⟩
theorem qE {call:Fa} {o:Oa} {s s' s1:St} (he:PC s s') (h:Nc call o s=some s1):∃ s1',Nc call o s'=some s1'∧PC s1 s1':=by
 obtain⟨e,H⟩:=s
 obtain⟨e',H'⟩:=s'
 obtain⟨h1,h2⟩:=he
 simp only at h1 h2
 subst h1
 obtain⟨v,hv,hh⟩:=IA (e':=e') (fun n _=>h2 n) h
 refine⟨_,hh,rfl,fun t=> ?_⟩
 simp only[hv,Pr,h2]
theorem EF {call:Fa} {os:List Oa}:∀ {s s' s1:St},PC s s'→Qd call os s=some s1→∃ s1',Qd call os s'=some s1'∧PC s1 s1':=by
 induction os with
 |nil=>intro s s' s1 he h;simp only[Qd,Option.some.injEq] at h ⊢;subst h;exact⟨s',rfl,he⟩
 |cons o os ih=>
  intro s s' s1 he h
  simp only[Qd] at h ⊢
  cases ho:Nc call o s with
  |none=>simp[ho,Yn] at h
  |some s2=>
   simp only[ho,Yn] at h
   obtain⟨s2',h2,e2⟩:=qE he ho
   obtain⟨s1',h3,e3⟩:=ih e2 h
   exact⟨s1',by simp[h2,Yn,h3],e3⟩
theorem tm {call:Fa} {o:Oa} {e:Tr} {H:List aa} {s1:St} (h:Nc call o ⟨e,H⟩=some s1):
 (Te e o.guard=some true∧∃ v,Ch call e H o=some (v,s1.H)∧s1.env=Ul e o.dst v)∨
 (Te e o.guard=some false∧s1=⟨Ul e o.dst (.pv (.dc [])),H⟩):=by
 unfold Nc at h
 simp only at h
 cases hc:Te e o.guard with
 |none=>simp[hc,qk] at h
 |some b=>
  cases b with
  |true=>
   simp only[hc,qk,WI] at h
   cases hv:Ch call e H o with
   |none=>simp[hv,sw] at h
   |some r=>
    obtain⟨v,H'⟩:=r
    simp only[hv,sw,Option.some.injEq] at h
    subst h
    exact .inl ⟨rfl,v,by simp,rfl⟩
  |false=>
   simp only[hc,qk,Eu,Option.some.injEq] at h
   exact .inr ⟨rfl,h.symm⟩
theorem Mn {call:Fa} {o:Oa} {e:Tr} {H H':List aa} {v:AV} (h:Te e o.guard=some true) (hv:Ch call e H o=some (v,H')):
 Nc call o ⟨e,H⟩=some ⟨Ul e o.dst v,H'⟩:=by
 simp[Nc,h,qk,WI,hv,sw]
theorem bl {call:Fa} {o:Oa} {e:Tr} {H:List aa} (h:Te e o.guard=some false):
 Nc call o ⟨e,H⟩=some ⟨Ul e o.dst (.pv (.dc [])),H⟩:=by
 simp[Nc,h,qk,Eu]
theorem Ev {e:Tr} {x y:Option Nat} {v u:AV} (h:∀ d,x=some d→y≠some d) (t:Nat):(Ul (Ul e x v) y u).get t=(Ul (Ul e y u) x v).get t:=by
 simp only[Pr]
 by_cases hx:x=some t
 ·have:=h t hx
  simp[hx,this]
 ·simp[hx]
theorem QK {call:Fa} {x y:Oa} {s s1 s2:St} (hc:MB x y=true) (h1:Nc call x s=some s1) (h2:Nc call y s1=some s2):
 ∃ s3 s4,Nc call y s=some s3∧Nc call x s3=some s4∧PC s2 s4:=by
 obtain⟨e,H⟩:=s
 simp only[MB,Bool.and_eq_true,Bool.not_eq_true'] at hc
 obtain⟨⟨⟨ca,cb⟩,cc⟩,cd⟩:=hc
 have ha:∀ d,x.dst=some d→y.look d=false:=fun d hd=>by simpa[Sw,hd] using ca
 have hb:∀ d,y.dst=some d→x.look d=false:=fun d hd=>by simpa[Sw,hd] using cb
 have hcc:∀ d,x.dst=some d→y.dst≠some d:=fun d hd he=>by simp[Sw,hd,he] at cc
 have lx:∀ (e:Tr) (u:AV) n,x.look n=true→(Ul e y.dst u).get n=e.get n:=fun e u n hn=>by
  rw[Pr]
  by_cases hd:y.dst=some n
  ·rw[hb n hd] at hn;cases hn
  ·simp[hd]
 have ly:∀ (e:Tr) (u:AV) n,y.look n=true→(Ul e x.dst u).get n=e.get n:=fun e u n hn=>by
  rw[Pr]
  by_cases hd:x.dst=some n
  ·rw[ha n hd] at hn;cases hn
  ·simp[hd]
 have wx:∀ (e:Tr) u,Te (Ul e y.dst u) x.guard=Te e x.guard:=fun e u=>uo fun t b hg=>lx e u t (by simp[Oa.look,hg])
 have wy:∀ (e:Tr) u,Te (Ul e x.dst u) y.guard=Te e y.guard:=fun e u=>uo fun t b hg=>ly e u t (by simp[Oa.look,hg])
 have ox:∀ (e:Tr) u H,Ch call (Ul e y.dst u) H x=Ch call e H x:=fun e u H=>Us fun n hn=>lx e u n (by simp[Oa.look,hn])
 have oy:∀ (e:Tr) u H,Ch call (Ul e x.dst u) H y=Ch call e H y:=fun e u H=>Us fun n hn=>ly e u n (by simp[Oa.look,hn])
 obtain⟨e1,H1⟩:=s1
 obtain⟨e2,H2⟩:=s2
 rcases tm h1 with⟨g1,v1,q1,r1⟩ | ⟨g1,r1⟩
 ·simp only at q1 r1
  subst r1
  rcases tm h2 with⟨g2,v2,q2,r2⟩ | ⟨g2,r2⟩
  ·simp only at q2 r2
   subst r2
   rw[wy] at g2
   rw[oy] at q2
   obtain⟨H3,k1,k2⟩:=kP cd q1 q2
   exact⟨_,_,Mn g2 k1,Mn (by rw[wx];exact g1) (by rw[ox];exact k2),rfl,fun t=>Ev hcc t⟩
  ·injection r2 with r2 r3
   subst r2 r3
   rw[wy] at g2
   exact⟨_,_,bl g2,Mn (by rw[wx];exact g1) (by rw[ox];exact q1),rfl,fun t=>Ev hcc t⟩
 ·injection r1 with r1 r3
  subst r1 r3
  rcases tm h2 with⟨g2,v2,q2,r2⟩ | ⟨g2,r2⟩
  ·simp only at q2 r2
   subst r2
   rw[wy] at g2
   rw[oy] at q2
   exact⟨_,_,Mn g2 q2,bl (by rw[wx];exact g1),rfl,fun t=>Ev hcc t⟩
  ·injection r2 with r2 r3
   subst r2 r3
   rw[wy] at g2
   exact⟨_,_,bl g2,bl (by rw[wx];exact g1),rfl,fun t=>Ev hcc t⟩
theorem bS {call:Fa} {y:Oa} {rest:List Oa}:∀ {pre:List Oa} {s s':St},(∀ x∈pre,MB x y=true)→Qd call (pre++y::rest) s=some s'→
 ∃ s1 s'',Nc call y s=some s1∧Qd call (pre++rest) s1=some s''∧PC s' s'':=by
 intro pre
 induction pre with
 |nil=>
  intro s s' _ h
  simp only[List.nil_append,Qd] at h ⊢
  cases ho:Nc call y s with
  |none=>simp[ho,Yn] at h
  |some s1=>simp only[ho,Yn] at h;exact⟨s1,s',rfl,h,PC.refl _⟩
 |cons x pre ih=>
  intro s s' hc h
  simp only[List.cons_append,Qd] at h ⊢
  cases ho:Nc call x s with
  |none=>simp[ho,Yn] at h
  |some s1=>
   simp only[ho,Yn] at h
   obtain⟨s2,s'',k1,k2,k3⟩:=ih (fun z hz=>hc z (by simp[hz])) h
   obtain⟨s3,s4,j1,j2,j3⟩:=QK (hc x (by simp)) ho k1
   obtain⟨s5,i1,i2⟩:=EF j3 k2
   exact⟨s3,s5,j1,by simp[j2,Yn,i1],k3.trans i2⟩
def mark (D:Nat):Deferred:={target:= .collected D,args:= #[]}
def Marks (w w':World) (a a':Act):Prop:=∃ Ds:List Nat,a'.defers=Ds.map mark++a.defers∧Ds.Nodup∧∀ D∈Ds,w.heap.size≤D∧w'.heap[D]? =some (.deferred (some []))
theorem Marks.same {w w':World} {a a':Act} (h:a'.defers=a.defers):Marks w w' a a':=⟨[],h,.nil,fun _ h=>by cases h⟩
theorem Marks.trans {B0:te} {w w' w'':World} {a a' a'':Act} (h:Marks w w' a a') (k:Marks w' w'' a' a'') (hb:Xe B0 w' w'') (hs:w.heap.size≤w'.heap.size):Marks w w'' a a'':=by
 obtain⟨D1,e1,n1,k1⟩:=h
 obtain⟨D2,e2,n2,k2⟩:=k
 refine⟨D2++D1,by rw[e2,e1];simp,List.nodup_append.2 ⟨n2,n1,fun x hx y hy e=> ?_⟩,fun D hD=> ?_⟩
 ·subst e
  have:=pj (k1 x hy).2
  have:=(k2 x hx).1
  omega
 ·rcases List.mem_append.1 hD with h | h
  ·exact⟨Nat.le_trans hs (k2 D h).1,(k2 D h).2⟩
  ·exact⟨(k1 D h).1,hb.Wc _ _ (k1 D h).2 rfl⟩
def oC:Option Nat→Fence
 |none=>Fence.wide
 |some l=>Fence.wide.inRound l
theorem PN (ro:Option Nat) (f:FuncId):(oC ro).fn f:=by cases ro <;> trivial
theorem uC (ro:Option Nat):(oC ro).depth=none:=by cases ro <;> rfl
theorem qH {P:Program} {n:Nat} {f:FuncId} {args:Array Value} {w:World} {R:Ending→World→Prop} (ro:Option Nat) (h:Calls P f args w R):CallsIn (oC ro) n P f args w R:=by
 cases ro with
 |none=>exact callsIn_wide.2 h
 |some l=>exact (callsIn_wide (n:=n)).2 h
theorem FL {P:Program} {n:Nat} {row:String} {args:Array Value} {w:World} {R:Value→World→Prop} (ro:Option Nat) (h:Rows P row args w R):RowsIn (oC ro) n P row args w R:=by
 have:RowsIn Fence.wide n P row args w R:=fun c cs _=>let ⟨v,w',r,s⟩:=h c cs;⟨v,w',r,stepsIn_wide.2 s⟩
 cases ro with
 |none=>exact this
 |some l=>exact this
theorem bA {P:Program} {n:Nat} {o:Oper} {a:Act} {w:World} {next:Act→World→Prop} {Q:Exit→Act→World→Prop} (ro:Option Nat) (hd:∀ c,o.op≠ .defer c) (h:o.wp P a w next Q):o.wpIn (oC ro) n P a w next Q:=by
 refine⟨fun f _=>PN ro f,?_⟩
 rw[Oper.semAt_eq _ _ _ hd]
 unfold Oper.wp at h
 generalize (execOp a.eval o).run P w=r at h ⊢
 cases r with
 |ok x w'=>
  cases x <;> simp only[Oper.upon,Oper.uponIn] at h ⊢ <;> first
   |exact h
   |exact⟨fun hx=>by (rw[uC] at hx;cases hx),qH ro h⟩
   |exact⟨fun hx=>by (rw[uC] at hx;cases hx),FL ro h⟩
   |exact h.elim
 |halt x w'=>cases x <;> simp only[Oper.upon,Oper.uponIn] at h ⊢ <;> exact h
structure Ij (fo:Nat→FuncId) (B0:te) (w:World) (R:Rd) (φ:Pl) (H:List aa) (a:Act) (w':World) (R':Rd) (φ':Pl) (s':St) (a':Act):Prop where
 rel:Kb fo B0 w' R' φ' s'.H
 env:og fo (K R' φ' s'.H) s'.env a'
 mono:∀ x u,K R φ H x u→K R' φ' s'.H x u
 below:Xe B0 w w'
 size:a'.tmps.size=a.tmps.size
 defers:Marks w w' a a'
section
variable {P:Program} {fo:Nat→FuncId} {B0:te} {call:Fa}
theorem Ij.refl {w:World} {R:Rd} {φ:Pl} {s:St} {a:Act} (hS:Kb fo B0 w R φ s.H) (hE:og fo (K R φ s.H) s.env a):Ij fo B0 w R φ s.H a w R φ s a:=
 ⟨hS,hE,fun _ _ h=>h,Xe.refl _ _,rfl,.same rfl⟩
theorem Ij.trans {w w' w'':World} {R R' R'':Rd} {φ φ' φ'':Pl} {H:List aa} {s' s'':St} {a a' a'':Act}
 (h:Ij fo B0 w R φ H a w' R' φ' s' a') (k:Ij fo B0 w' R' φ' s'.H a' w'' R'' φ'' s'' a''):Ij fo B0 w R φ H a w'' R'' φ'' s'' a'':=
 ⟨k.rel,k.env,fun x u hx=>k.mono _ _ (h.mono _ _ hx),h.below.trans k.below,k.size.trans h.size,h.defers.trans k.defers k.below h.below.size⟩
theorem Ij.eqv {w w':World} {R R':Rd} {φ φ':Pl} {H:List aa} {s' s'':St} {a a':Act} (h:Ij fo B0 w R φ H a w' R' φ' s' a') (he:PC s' s''):Ij fo B0 w R φ H a w' R' φ' s'' a':=by
 obtain⟨e1,e2⟩:=he
 exact⟨e1 ▸ h.rel,fun t=>by rw[← e2,←e1];exact h.env t,e1 ▸ h.mono,h.below,h.size,h.defers⟩
theorem Kb.drew {w w':World} {R:Rd} {φ:Pl} {H:List aa} (h:Kb fo B0 w R φ H) (hw:w'.heap=w.heap):Kb fo B0 w' R φ H:=by
 have hb:∀ b arr,au w b arr→au w' b arr:=fun b arr hb=>hb.Wc (by rw[hw])
 refine⟨by rw[hw];exact h.low,fun b o v hv=>by rw[← h.sub b o v hv];simp[World.cell?,hw],fun id o ho=> ?_,h.inj,h.Bl,fun k hk=>by rw[hw];exact h.slt k hk,h.free⟩
 have:=h.obj id o ho
 cases o with
 |box cells=>exact⟨this.1,this.2.1,this.2.2.1,this.2.2.2.imp fun arr q=>⟨hb _ _ q.1,q.2⟩⟩
 |seq sz ag cells fl nl=>exact⟨this.1,this.2.1,this.2.2.1,this.2.2.2.1,fun e=>⟨(this.2.2.2.2 e).1,(this.2.2.2.2 e).2.1,(this.2.2.2.2 e).2.2.imp fun arr q=>⟨hb _ _ q.1,q.2⟩⟩⟩
 |tok sz n nl=>exact⟨this.1,this.2.1,fun e=>⟨(this.2.2 e).1,(this.2.2 e).2.1,(this.2.2 e).2.2.imp fun arr q=>⟨hb _ _ q.1,q.2⟩⟩⟩
 |map es=>
  obtain⟨h1,h2,ents,clk,h3,h4⟩:=this
  exact⟨h1,h2,ents,clk,by rw[hw];exact h3,h4⟩
 |dead=>trivial
theorem og.put {k:AV→Value→Prop} {e:Tr} {a:Act} (h:og fo k e a) (d:Option Nat) (hd:∀ t,d=some t→t < a.tmps.size) {v:AV} {u:Value} (hv:Xb fo k v u):
 og fo k (Ul e d v) (a.put d u):=by
 intro t
 rw[Pr]
 cases d with
 |none=>simp only[reduceCtorEq,if_false];exact h t
 |some d=>
  by_cases ht:d=t
  ·subst ht
   simp only[if_true,Act.put]
   rw[Array.getD_eq_getD_getElem?,Array.getElem?_setIfInBounds_self_of_lt (hd d rfl)]
   exact hv
  ·simp only[Option.some.injEq,ht,if_false,Act.put]
   rw[Array.getD_eq_getD_getElem?,Array.getElem?_setIfInBounds_ne ht,←Array.getD_eq_getD_getElem?]
   exact h t
def Ku (nt:Nat) (ops:Array Oper) (o:Oper) (ao:Oa):Bool:=
 o.dst==ao.dst&&(match o.dst with | some d=>decide (d < nt) | none=>true)&&
 (match o.guard,ao.guard with
 |none,none=>true
 |some (g,want),some (t,want')=>want==want'&&((ops[g]?).bind (·.dst))==some t
 |_,_=>false)
def yS (P:Program) (fo:Nat→FuncId) (B0:te) (call:Fa) (o:Oper) (ao:Oa):Prop:=
 ∀ (w:World) (R:Rd) (φ:Pl) (e:Tr) (H H':List aa) (a:Act) (v:AV),Kb fo B0 w R φ H→og fo (K R φ H) e a→Ch call e H ao=some (v,H')→cv P fo B0 o a w R φ H v H'
theorem nC {nt:Nat} {ops:Array Oper} {o:Oper} {ao:Oa} (hk:Ku nt ops o ao=true) {k:AV→Value→Prop} {R:Rd} {φ:Pl} {H:List aa} {e:Tr} {a:Act} (hE:og fo (K R φ H) e a) {b:Bool}
 (h:Te e ao.guard=some b):Region.wanted o (yielded ops a.tmps)=b:=by
 simp only[Ku,Bool.and_eq_true] at hk
 obtain⟨_,hg⟩:=hk
 unfold Region.wanted
 cases h1:o.guard with
 |none=>
  cases h2:ao.guard with
  |none=>simp[h2,Te] at h;simp[h]
  |some g=>simp[h1,h2] at hg
 |some g=>
  obtain⟨g,want⟩:=g
  cases h2:ao.guard with
  |none=>simp[h1,h2] at hg
  |some g'=>
   obtain⟨t,want'⟩:=g'
   simp only[h1,h2,Bool.and_eq_true,beq_iff_eq] at hg
   obtain⟨rfl,hg⟩:=hg
   have ht:=hE t
   simp only[h2,Te] at h
   simp only[yielded,hg,Option.bind_some]
   split at h
   ·rename_i b' hb
    rw[hb] at ht
    have:=ht.qb
    injection h with h
    cases hv:a.tmps[t]? with
    |none=>rw[Array.getD_eq_getD_getElem?,hv] at this;cases this
    |some v=>
     rw[Array.getD_eq_getD_getElem?,hv] at this
     simp only[Option.getD_some] at this
     cases this
     simp only[← h]
     cases b' <;> cases want <;> rfl
   ·rename_i hb
    rw[hb] at ht
    have:=ht.qb
    injection h with h
    subst h
    cases hv:a.tmps[t]? with
    |none=>simp
    |some v=>
     rw[Array.getD_eq_getD_getElem?,hv] at this
     simp only[Option.getD_some] at this
     cases this
     simp
   ·cases h
theorem DF {nt:Nat} {ops:Array Oper} {i:Nat} {o:Oper} {ao:Oa} (hi:ops[i]? =some o) (hk:Ku nt ops o ao=true) (ho:yS P fo B0 call o ao) (hnd:∀ c,o.op≠ .defer c) (ro:Option Nat) {n:Nat}
 {w:World} {R:Rd} {φ:Pl} {s s1:St} {a:Act} (hS:Kb fo B0 w R φ s.H) (hE:og fo (K R φ s.H) s.env a) (hn:a.tmps.size=nt) (h:Nc call ao s=some s1)
 {Q:Exit→Act→World→Prop} {next:Act→World→Prop} (hq:∀ a' w' R' φ',Ij fo B0 w R φ s.H a w' R' φ' s1 a'→next a' w'):wpOpIn (oC ro) n P ops Q i next a w:=by
 have hk':=hk
 simp only[Ku,Bool.and_eq_true,beq_iff_eq] at hk'
 obtain⟨⟨hd,hlt⟩,_⟩:=hk'
 have hd':∀ t,ao.dst=some t→t < a.tmps.size:=fun t ht=>by rw[hd,ht] at hlt;rw[hn];simpa using hlt
 have sz:∀ (a:Act) (d:Option Nat) (u:Value),(a.put d u).tmps.size=a.tmps.size:=fun a d u=>by cases d <;> simp[Act.put]
 have df:∀ (a:Act) (d:Option Nat) (u:Value),(a.put d u).defers=a.defers:=fun a d u=>by cases d <;> rfl
 obtain⟨e,H⟩:=s
 unfold wpOpIn
 simp only[hi]
 rcases tm h with⟨g,v,q,r⟩ | ⟨g,r⟩
 ·rw[nC (k:=fun _ _=>True) hk hE g]
  simp only[if_true]
  refine bA ro hnd (ho w R φ e H s1.H a v hS hE q next Q fun v' w' R' φ' h1 h2 h3 h4=>hq _ _ R' φ' ⟨h1,?_,h3,h4,sz _ _ _,.same (df _ _ _)⟩)
  rw[r,hd]
  exact (hE.mono h3).put ao.dst hd' h2
 ·rw[nC (k:=fun _ _=>True) hk hE g]
  simp only[Bool.false_eq_true,if_false]
  subst r
  refine⟨fun f _=>PN ro f,hq _ _ R φ ⟨hS,?_,fun _ _ h=>h,Xe.refl _ _,sz _ _ _,.same (df _ _ _)⟩⟩
  rw[hd]
  exact hE.put ao.dst hd' (.atom _ _ (show Ea R _ _ from .dc _ _ .nil))
def EE (aops:List Oa) (L:List Nat):List Oa:=L.filterMap (aops[·]?)
theorem uF {aops:List Oa} {i:Nat} {ao:Oa} (h:aops[i]? =some ao) (L:List Nat):EE aops (i::L)=ao::EE aops L:=by simp[EE,h]
theorem Du (aops:List Oa) (L M:List Nat):EE aops (L++M)=EE aops L++EE aops M:=by simp[EE]
theorem iC (aops:List Oa):EE aops (List.range aops.length)=aops:=by
 suffices ∀ n,n≤aops.length→EE aops (List.range n)=aops.take n by simpa using this aops.length (Nat.le_refl _)
 intro n
 induction n with
 |zero=>intro _;simp[EE]
 |succ n ih=>
  intro h
  rw[List.range_succ,Du,ih (by omega),List.take_add_one]
  simp[EE,List.getElem?_eq_getElem (show n < aops.length by omega)]
structure ME (P:Program) (fo:Nat→FuncId) (B0:te) (call:Fa) (nt:Nat) (ops:Array Oper) (aops:List Oa):Prop where
 len:aops.length=ops.size
 slot:∀ (i:Nat) (o:Oper) (ao:Oa),ops[i]? =some o→aops[i]? =some ao→Ku nt ops o ao=true
 mT:∀ (i:Nat) (o:Oper) (ao:Oa),ops[i]? =some o→aops[i]? =some ao→yS P fo B0 call o ao
 nd:∀ (i:Nat) (o:Oper) (ao:Oa),ops[i]? =some o→aops[i]? =some ao→∀ c,o.op≠ .defer c
theorem XP (ro:Option Nat) {n:Nat} {nt:Nat} {ops:Array Oper} {aops:List Oa} (hs:ME P fo B0 call nt ops aops) {Q:Exit→Act→World→Prop}:∀ (L:List Nat),(∀ i∈L,i < ops.size)→∀ {w:World} {R:Rd} {φ:Pl} {s s':St} {a:Act},
 Kb fo B0 w R φ s.H→og fo (K R φ s.H) s.env a→a.tmps.size=nt→Qd call (EE aops L) s=some s'→
 (∀ a' w' R' φ',Ij fo B0 w R φ s.H a w' R' φ' s' a'→Q .normal a' w')→wpOpsIn (oC ro) n P ops Q L a w:=by
 intro L
 induction L with
 |nil=>
  intro _ w R φ s s' a hS hE hn h hq
  simp only[EE,List.filterMap_nil,Qd,Option.some.injEq] at h
  subst h
  exact hq _ _ R φ (.refl hS hE)
 |cons i L ih=>
  intro hL w R φ s s' a hS hE hn h hq
  have hi:i < ops.size:=hL i (by simp)
  have h1:ops[i]? =some ops[i]:=Array.getElem?_eq_getElem hi
  have h2:aops[i]? =some (aops[i]'(by rw[hs.len];exact hi)):=List.getElem?_eq_getElem _
  rw[uF h2,Qd] at h
  cases ho:Nc call (aops[i]'(by rw[hs.len];exact hi)) s with
  |none=>simp[ho,Yn] at h
  |some s1=>
   simp only[ho,Yn] at h
   rw[wpOpsIn_cons]
   refine DF h1 (hs.slot _ _ _ h1 h2) (hs.mT _ _ _ h1 h2) (hs.nd _ _ _ h1 h2) ro hS hE hn ho fun a' w' R' φ' g=> ?_
   exact ih (fun j hj=>hL j (by simp[hj])) g.rel g.env (g.size.trans hn) h fun a'' w'' R'' φ'' g'=>hq _ _ _ _ (g.trans g')
theorem Hz (ro:Option Nat) {n:Nat} {nt:Nat} {id:Nat} {ops:Array Oper} {aops:List Oa} (hs:ME P fo B0 call nt ops aops) {Q:Exit→Act→World→Prop} {w:World} {R:Rd} {φ:Pl} {s s':St} {a:Act}
 (hS:Kb fo B0 w R φ s.H) (hE:og fo (K R φ s.H) s.env a) (hn:a.tmps.size=nt) (h:Qd call aops s=some s')
 (hq:∀ a' w' R' φ',Ij fo B0 w R φ s.H a w' R' φ' s' a'→Q .normal a' w'):(Code.region id ops false).wpIn (oC ro) n P Q a w:=
 wpIn_region (XP ro hs _ (fun i hi=>List.mem_range.1 hi) hS hE hn (by rw[← hs.len,iC];exact h) hq)
def KH (ops:Array Oper):Nat→Nat→Nat→Bool
 |0,_,_=>false
 |f+1,j,i=>
  match ops[i]? with
  |some o=>o.after.toList.any fun e=>Region.binds .any e&&(e.on==j||(decide (j < e.on)&&KH ops f j e.on))
  |none=>false
def vI (ops:Array Oper) (aops:List Oa):Bool:=
 (List.range ops.size).all fun i=>
  (match ops[i]? with | some o=>o.after.toList.all fun e=> !Region.binds .any e||decide (e.on < i) | none=>true)&&
  (List.range i).all fun j=>
   (match aops[j]?,aops[i]? with
   |some x,some y=>MB x y
   |_,_=>false)||KH ops 8 j i
def lq (ops:Array Oper) (listed:Array Bool):List Nat:=(List.range ops.size).filter fun i=> !listed.getD i true
def eS (ops:Array Oper) (listed:Array Bool):Prop:=∀ f j k,KH ops f j k=true→listed.getD k true=true→k < ops.size→listed.getD j true=true
theorem Xw {listed:Array Bool} {i:Nat} (h:i < listed.size):listed.getD i true=listed.getD i false:=by
 simp[Array.getD_eq_getD_getElem?,h]
theorem VP (ro:Option Nat) {nn:Nat} {nt:Nat} {ops:Array Oper} {aops:List Oa} (hs:ME P fo B0 call nt ops aops) (hd:vI ops aops=true) {Q:Exit→Act→World→Prop}:∀ (n:Nat) (listed:Array Bool) {w:World} {R:Rd} {φ:Pl} {s s' s'':St} {a:Act},
 (lq ops listed).length≤n→listed.size=ops.size→eS ops listed→Kb fo B0 w R φ s.H→og fo (K R φ s.H) s.env a→a.tmps.size=nt→
 Qd call (EE aops (lq ops listed)) s=some s''→PC s' s''→
 (∀ a' w' R' φ',Ij fo B0 w R φ s.H a w' R' φ' s' a'→Q .normal a' w')→wpAnyIn (oC ro) nn P .any ops Q n listed a w:=by
 have hdd:∀ i,i < ops.size→(∀ o,ops[i]? =some o→∀ e∈o.after,Region.binds .any e=true→e.on < i)∧∀ j,j < i→(∀ x y,aops[j]? =some x→aops[i]? =some y→MB x y=true)∨KH ops 8 j i=true:=by
  intro i hi
  have:=List.all_eq_true.1 hd i (List.mem_range.2 hi)
  simp only[Bool.and_eq_true] at this
  refine⟨fun o ho e he hb=> ?_,fun j hj=> ?_⟩
  ·have h1:=this.1
   simp only[ho] at h1
   have:=List.all_eq_true.1 h1 e (by simpa using he)
   simpa[hb] using this
  ·have h2:=List.all_eq_true.1 this.2 j (List.mem_range.2 hj)
   simp only[Bool.or_eq_true] at h2
   rcases h2 with h2 | h2
   ·left;intro x y hx hy;simpa[hx,hy] using h2
   ·exact .inr h2
 have empty:∀ (listed:Array Bool),listed.size=ops.size→Region.ready .any ops listed=[]→lq ops listed=[]:=by
  intro listed hsz hr
  cases hrem:lq ops listed with
  |nil=>rfl
  |cons i rest=>
   exfalso
   have hsorted:(lq ops listed).Pairwise (· < ·):=List.Pairwise.filter _ List.pairwise_lt_range
   have hmem:i∈lq ops listed:=by rw[hrem];simp
   have him:=List.mem_filter.1 hmem
   have hi:=List.mem_range.1 him.1
   have h1:ops[i]? =some ops[i]:=Array.getElem?_eq_getElem hi
   have:i∈Region.ready .any ops listed:=by
    rw[mem_ready]
    refine⟨by simpa using him.2,_,h1,fun e he hb=> ?_⟩
    have hlt:=(hdd i hi).1 _ h1 e he hb
    rw[← Xw (by omega)]
    cases hg:listed.getD e.on true with
    |true=>rfl
    |false=>
     exfalso
     have:e.on∈lq ops listed:=List.mem_filter.2 ⟨List.mem_range.2 (by omega),by simp[hg]⟩
     rw[hrem] at this hsorted
     rcases List.mem_cons.1 this with he' | he'
     ·omega
     ·have:=(List.pairwise_cons.1 hsorted).1 _ he';omega
   rw[hr] at this
   cases this
 have done:∀ (listed:Array Bool) {w:World} {R:Rd} {φ:Pl} {s s' s'':St} {a:Act},listed.size=ops.size→Kb fo B0 w R φ s.H→og fo (K R φ s.H) s.env a→
  Qd call (EE aops (lq ops listed)) s=some s''→PC s' s''→(∀ a' w' R' φ',Ij fo B0 w R φ s.H a w' R' φ' s' a'→Q .normal a' w')→Region.ready .any ops listed=[]→Q .normal a w:=by
  intro listed w R φ s s' s'' a hsz hS hE hev he hq hr
  rw[empty listed hsz hr] at hev
  simp only[EE,List.filterMap_nil,Qd,Option.some.injEq] at hev
  subst hev
  exact hq _ _ R φ ((Ij.refl hS hE).eqv he.symm)
 intro n
 induction n with
 |zero=>
  intro listed w R φ s s' s'' a hlen hsz hcl hS hE hn hev he hq
  have hnil:lq ops listed=[]:=List.eq_nil_of_length_eq_zero (by omega)
  have hr:Region.ready .any ops listed=[]:=by
   cases hr:Region.ready .any ops listed with
   |nil=>rfl
   |cons i rest=>
    exfalso
    have hi:i∈Region.ready .any ops listed:=by rw[hr];simp
    obtain⟨h0,o,ho,_⟩:=mem_ready.1 hi
    have:i∈lq ops listed:=List.mem_filter.2 ⟨List.mem_range.2 (Array.getElem?_eq_some_iff.1 ho).1,by simp[h0]⟩
    rw[hnil] at this;cases this
  exact⟨hr,done listed hsz hS hE hev he hq hr⟩
 |succ n ih=>
  intro listed w R φ s s' s'' a hlen hsz hcl hS hE hn hev he hq
  refine⟨done listed hsz hS hE hev he hq,fun i hi=> ?_⟩
  obtain⟨h0,o,ho,haft⟩:=mem_ready.1 hi
  have hilt:i < ops.size:=(Array.getElem?_eq_some_iff.1 ho).1
  have hao:aops[i]? =some (aops[i]'(by rw[hs.len];exact hilt)):=List.getElem?_eq_getElem _
  generalize aops[i]'(by rw[hs.len];exact hilt)=ao at hao
  have hmem:i∈lq ops listed:=List.mem_filter.2 ⟨List.mem_range.2 hilt,by simp[h0]⟩
  have hsorted:(lq ops listed).Pairwise (· < ·):=List.Pairwise.filter _ List.pairwise_lt_range
  obtain⟨pre,post,hsplit⟩:=List.append_of_mem hmem
  rw[hsplit] at hsorted
  rw[List.pairwise_append] at hsorted
  obtain⟨_,hs2,hs3⟩:=hsorted
  have hrem':lq ops (listed.setIfInBounds i true)=pre++post:=by
   have:lq ops (listed.setIfInBounds i true)=(lq ops listed).filter (fun j=>decide (j≠i)):=by
    unfold lq
    rw[List.filter_filter]
    apply List.filter_congr
    intro j hj
    by_cases hji:j=i
    ·subst hji
     have:(listed.setIfInBounds j true).getD j true=true:=by
      rw[Array.getD_eq_getD_getElem?,Array.getElem?_setIfInBounds_self_of_lt (by omega)];rfl
     simp[this]
    ·rw[getD_set_ne true (Ne.symm hji)];simp[hji]
   rw[this,hsplit,List.filter_append,List.filter_cons]
   simp only[ne_eq,not_true_eq_false,decide_false,Bool.false_eq_true,if_false]
   rw[List.filter_eq_self.2 fun j hj=>by have:=hs3 j hj i (by simp);simp;omega,
    List.filter_eq_self.2 fun j hj=>by have:=(List.pairwise_cons.1 hs2).1 j hj;simp;omega]
  have hcalm:∀ x∈EE aops pre,MB x ao=true:=by
   intro x hx
   simp only[EE,List.mem_filterMap] at hx
   obtain⟨j,hj,hxj⟩:=hx
   have hji:j < i:=hs3 j hj i (by simp)
   rcases (hdd i hilt).2 j hji with h | h
   ·exact h x ao hxj hao
   ·exfalso
    have hjmem:j∈lq ops listed:=by rw[hsplit];simp[hj]
    have hj0:listed.getD j true=false:=by simpa using (List.mem_filter.1 hjmem).2
    rw[show (8:Nat)=7+1 from rfl] at h
    simp only[KH,ho] at h
    obtain⟨ed,hed,hb⟩:=List.any_eq_true.1 h
    simp only[Bool.and_eq_true,Bool.or_eq_true,beq_iff_eq,decide_eq_true_eq] at hb
    obtain⟨hb1,hb2⟩:=hb
    have hl:=haft ed (by simpa using hed) hb1
    have hlt:=(hdd i hilt).1 o ho ed (by simpa using hed) hb1
    have hl':listed.getD ed.on true=true:=by rw[Xw (by omega)];exact hl
    rcases hb2 with rfl | ⟨_,hb2⟩
    ·rw[hl'] at hj0;cases hj0
    ·rw[hcl 7 j ed.on hb2 hl' (by omega)] at hj0;cases hj0
  rw[hsplit,Du,uF hao] at hev
  obtain⟨s1,s2,k1,k2,k3⟩:=bS hcalm hev
  refine DF ho (hs.slot _ _ _ ho hao) (hs.mT _ _ _ ho hao) (hs.nd _ _ _ ho hao) ro hS hE hn k1 fun a' w' R' φ' g=> ?_
  refine ih (listed.setIfInBounds i true) (s':=s') (s'':=s2) ?_ (by simp[hsz]) ?_ g.rel g.env (g.size.trans hn) (by rw[hrem',Du];exact k2) (he.trans k3) fun a'' w'' R'' φ'' g'=>hq _ _ _ _ (g.trans g')
  ·rw[hrem'];rw[hsplit] at hlen;simp at hlen ⊢;omega
  ·intro f j k hanc hk hklt
   by_cases hji:j=i
   ·subst hji
    rw[Array.getD_eq_getD_getElem?,Array.getElem?_setIfInBounds_self_of_lt (by omega)];rfl
   rw[getD_set_ne true (Ne.symm hji)]
   by_cases hki:k=i
   ·subst hki
    cases f with
    |zero=>simp[KH] at hanc
    |succ f=>
     simp only[KH,ho] at hanc
     obtain⟨ed,hed,hb⟩:=List.any_eq_true.1 hanc
     simp only[Bool.and_eq_true,Bool.or_eq_true,beq_iff_eq,decide_eq_true_eq] at hb
     obtain⟨hb1,hb2⟩:=hb
     have hl:=haft ed (by simpa using hed) hb1
     have hlt:=(hdd k hilt).1 o ho ed (by simpa using hed) hb1
     have hl':listed.getD ed.on true=true:=by rw[Xw (by omega)];exact hl
     rcases hb2 with rfl | ⟨_,hb2⟩
     ·exact hl'
     ·exact hcl f j ed.on hb2 hl' (by omega)
   ·rw[getD_set_ne true (Ne.symm hki)] at hk
    exact hcl f j k hanc hk hklt
theorem KE (ro:Option Nat) {n:Nat} {nt:Nat} {id:Nat} {ops:Array Oper} {aops:List Oa} (hm:P.follows .mixedOrders=true) (hs:ME P fo B0 call nt ops aops) (hd:vI ops aops=true) {Q:Exit→Act→World→Prop} {w:World} {R:Rd} {φ:Pl} {s s':St} {a:Act}
 (hS:Kb fo B0 w R φ s.H) (hE:og fo (K R φ s.H) s.env a) (hn:a.tmps.size=nt) (h:Qd call aops s=some s')
 (hq:∀ a' w' R' φ',Ij fo B0 w R φ s.H a w' R' φ' s' a'→Q .normal a' w'):(Code.region id ops true).wpIn (oC ro) n P Q a w:=by
 have hrem:lq ops (Array.replicate ops.size false)=List.range ops.size:=by
  unfold lq
  apply List.filter_eq_self.2
  intro i hi
  rw[List.mem_range] at hi
  simp[Array.getD_eq_getD_getElem?,hi]
 refine wpIn_region_any hm (VP ro hs hd ops.size _ (s':=s') (s'':=s') (s:=s) (R:=R) (φ:=φ) (by rw[hrem];simp) (by simp) ?_ (hS.drew rfl) hE hn ?_ (PC.refl _) ?_)
 ·intro f j k _ hk hlt
  simp[Array.getD_eq_getD_getElem?,hlt] at hk
 ·rw[hrem,←hs.len,iC];exact h
 ·intro a' w' R' φ' g
  exact hq _ _ _ _ ⟨g.rel,g.env,g.mono,Xe.trans ⟨(RowKit.Below.refl _ w).drew,fun _ _ h _=>h,fun _ _=>rfl⟩ g.below,g.size,g.defers⟩
end
end Go.AM
set_option linter.unusedSimpArgs false
set_option linter.unusedVariables false
namespace Go.AM
open Go.RowKit
section
variable {P:Program} {fo:Nat→FuncId} {B0:te}
def Rw (w:World):Rd:=fun b o=>w.cell? ⟨b,o,none⟩
theorem yw {α β:Type} {f:α→Option β}:∀ {l:List α} {r:List β},Wa f l=some r→r.length=l.length∧∀ (i:Nat) (x:α),l[i]? =some x→∃ y,r[i]? =some y∧f x=some y:=by
 intro l
 induction l with
 |nil=>intro r h;simp[Wa] at h;subst h;exact⟨rfl,fun i x h=>by simp at h⟩
 |cons a l ih=>
  intro r h
  simp only[Wa,Option.bind_eq_some_iff,Option.some.injEq] at h
  obtain⟨b,h1,bs,h2,rfl⟩:=h
  obtain⟨k1,k2⟩:=ih h2
  refine⟨by simp[k1],fun i x hx=> ?_⟩
  cases i with
  |zero=>simp at hx;subst hx;exact⟨b,rfl,h1⟩
  |succ i=>simpa using k2 i x (by simpa using hx)
theorem kN {H:List aa} {d:Nat} {v:AV} {p:PV} (h1:v.one=true) (h:Bb H d v=some p):DB p=true:=by
 cases v with
 |pv q=>simp[Bb] at h;subst h;exact h1
 |uq id nl sz es=>simp[Bb] at h;subst h;cases nl <;> rfl
 |ptr id off=>
  cases d with
  |zero=>simp[Bb] at h
  |succ d=>
   simp only[Bb] at h
   split at h
   ·simp only[Option.map_eq_some_iff] at h;obtain⟨ps,_,rfl⟩:=h;rfl
   ·cases h
 |own id len=>
  cases d with
  |zero=>simp[Bb] at h
  |succ d=>
   simp only[Bb] at h
   split at h
   ·split at h
    ·rename_i nl _ _
     cases nl with
     |true=>simp at h;subst h;rfl
     |false=>simp only[Bool.false_eq_true,if_false,Option.map_eq_some_iff] at h;obtain⟨ps,_,rfl⟩:=h;rfl
    ·cases h
   ·cases h
 |ic=>cases d <;> simp[Bb] at h
 |mi=>cases d <;> simp[Bb] at h
 |mp=>cases d <;> simp[Bb] at h
 |undef=>cases d <;> simp[Bb] at h
 |agg=>simp[AV.one] at h1
 |dc=>simp[AV.one] at h1
theorem NK {H:List aa} {d:Nat} {cs:List AV} {ps:List PV} (h1:cs.all AV.one=true) (h:Wa (Bb H d) cs=some ps):∀ p∈ps,DB p=true:=by
 obtain⟨k1,k2⟩:=yw h
 intro p hp
 obtain⟨i,hi⟩:=List.mem_iff_getElem?.1 hp
 have hlt:=getElem?_lt hi
 have hx:cs[i]? =some (cs[i]'(by omega)):=List.getElem?_eq_getElem _
 obtain⟨y,hy1,hy2⟩:=k2 i _ hx
 rw[hi] at hy1;injection hy1 with hy1;subst hy1
 exact kN (List.all_eq_true.1 h1 _ (List.getElem_mem _)) hy2
theorem pF {w:World} {R Q:Rd} {φ:Pl} {H:List aa} (hS:Kb fo B0 w R φ H) (hsub:Sub R Q) (hQ:∀ b o v,B0.n≤b→w.cell? ⟨b,o,none⟩=some v→Q b o=some v):∀ (d:Nat) {v:AV} {u:Value} {p:PV},Xb fo (K R φ H) v u→Bb H d v=some p→Ea Q p u:=by
 intro d
 induction d with
 |zero=>
  intro v u p hv h
  cases v with
  |pv q=>simp[Bb] at h;subst h;exact hv.qb.mono hsub
  |uq id nl sz es=>
   simp[Bb] at h
   have h1:=hv.Xp
   cases nl with
   |true=>simp at h;subst h;rw[(h1.2.1 rfl).1];exact .qa
   |false=>simp at h;subst h;exact (h1.2.2.1 rfl).mono hsub
  |_=>simp[Bb] at h
 |succ d ih=>
  have many:∀ {cs:List AV} {ps:List PV} {vs:List Value},La fo (K R φ H) cs vs→Wa (Bb H d) cs=some ps→yd Q ps vs:=by
   intro cs
   induction cs with
   |nil=>intro ps vs hl h;simp[Wa] at h;subst h;cases hl;exact .nil
   |cons c cs ihc=>
    intro ps vs hl h
    simp only[Wa,Option.bind_eq_some_iff,Option.some.injEq] at h
    obtain⟨b,h1,bs,h2,rfl⟩:=h
    cases hl with
    |cons _ _ v vs hc hcs=>exact .cons _ _ _ _ (ih hc h1) (ihc hcs h2)
  intro v u p hv h
  cases v with
  |pv q=>simp[Bb] at h;subst h;exact hv.qb.mono hsub
  |uq id nl sz es=>
   simp[Bb] at h
   have h1:=hv.Xp
   cases nl with
   |true=>simp at h;subst h;rw[(h1.2.1 rfl).1];exact .qa
   |false=>simp at h;subst h;exact (h1.2.2.1 rfl).mono hsub
  |own id len=>
   simp only[Bb] at h
   split at h
   ·rename_i sz ag cells fl nl hid
    split at h
    ·rename_i hc
     obtain⟨hlen,VO⟩:=hc
     have h1:=hv.Ov
     obtain⟨k0,k⟩:=h1.2.2 _ _ _ _ _ hid
     obtain⟨o0,o1,o2,oone,o3⟩:=hS.obj _ _ hid
     obtain⟨k1,k2⟩:=k (by omega)
     cases nl with
     |true=>simp at h;subst h;rw[k1 rfl];exact .qa
     |false=>
      simp only[Bool.false_eq_true,if_false,Option.map_eq_some_iff] at h
      obtain⟨ps,hps,rfl⟩:=h
      obtain⟨hbase,_,arr,hB,hsz,hle,hrel⟩:=o3 rfl
      rcases k2 rfl with⟨q1,q2,_⟩ | ⟨b,o,cap,rfl,q2,_⟩
      ·subst q1;exact absurd (List.eq_nil_of_length_eq_zero (by omega)) q2
      ·obtain⟨rfl,rfl,rfl⟩:=q2 hlen
       have hl:=many hrel hps
       have hone:=NK oone hps
       have hplen:ps.length=len * sz:=by rw[(yw hps).1,hlen]
       obtain⟨c1,c2,c3⟩:=Sq sz ag (fun e=>by subst e;simpa using VO) len ps hplen hone
       have:=Ea.lit (R:=Q) sz (chunk sz ag len ps) (φ id).1 0 (φ id).2 (by
        rw[c3]
        have:len * sz≤(φ id).2 * sz:=by rw[← hsz];omega
        exact Nat.le_of_mul_le_mul_right this o0) c2 (by
        rw[c1]
        refine He.rk hl (Xk hrel oone) fun i v hv=> ?_
        have hlt:=getElem?_lt hv
        rw[List.getElem?_take] at hv
        split at hv
        ·refine hQ _ _ _ hbase ?_
         rw[hB.cell,Nat.zero_add];simpa using hv
        ·cases hv)
       rw[c3] at this
       exact this
    ·cases h
   ·cases h
  |ptr id off=>
   simp only[Bb] at h
   split at h
   ·rename_i cells hid
    simp only[Option.map_eq_some_iff] at h
    obtain⟨ps,hps,rfl⟩:=h
    obtain⟨hbase,_,oone,arr,hB,hrel⟩:=hS.obj _ _ hid
    rw[hv.Sy.2.2 _ hid]
    have:=Ea.rp (R:=Q) ps off (φ id).1 0 (He.rk (many hrel hps) (Xk hrel oone) fun i v hv=>by
     refine hQ _ _ _ hbase ?_
     rw[hB.cell,Nat.zero_add];simpa using hv)
    rw[Nat.zero_add] at this
    exact this
   ·cases h
  |agg cs=>
   simp only[Bb,Option.map_eq_some_iff] at h
   obtain⟨ps,hps,rfl⟩:=h
   cases hv with
   |atom _ _ h=>exact h.elim
   |agg _ vs hl=>exact .agg _ _ (many hl hps)
  |dc cs=>
   simp only[Bb,Option.map_eq_some_iff] at h
   obtain⟨ps,hps,rfl⟩:=h
   cases hv with
   |atom _ _ h=>exact h.elim
   |dc _ vs hl=>exact .dc _ _ (many hl hps)
  |ic=>simp[Bb] at h
  |mi=>simp[Bb] at h
  |mp=>simp[Bb] at h
  |undef=>simp[Bb] at h
theorem tM {w:World} {R:Rd} {φ:Pl} {H:List aa} {d:Nat} {v:AV} {u:Value} {p:PV} (hf:v.free=true) (hv:Xb fo (K R φ H) v u) (h:Bb H d v=some p):Ea R p u:=by
 cases v with
 |pv q=>simp[Bb] at h;subst h;exact hv.qb
 |uq id nl sz es=>
  simp[Bb] at h
  have h1:=hv.Xp
  cases nl with
  |true=>simp at h;subst h;rw[(h1.2.1 rfl).1];exact .qa
  |false=>simp at h;subst h;exact h1.2.2.1 rfl
 |_=>simp[AV.free] at hf
theorem FM {w:World} {R:Rd} {φ:Pl} {H:List aa} (hS:Kb fo B0 w R φ H) {d:Nat}:∀ {vs:List AV} {us:List Value} {ps:List PV},La fo (K R φ H) vs us→Wa (Bb H d) vs=some ps→yd (Rw w) ps us:=by
 intro vs
 induction vs with
 |nil=>intro us ps hl h;simp[Wa] at h;subst h;cases hl;exact .nil
 |cons c cs ihc=>
  intro us ps hl h
  simp only[Wa,Option.bind_eq_some_iff,Option.some.injEq] at h
  obtain⟨b,h1,bs,h2,rfl⟩:=h
  cases hl with
  |cons _ _ v vs hc hcs=>exact .cons _ _ _ _ (pF hS (fun b o v h=>hS.sub b o v h) (fun _ _ _ _ h=>h) d hc h1) (ihc hcs h2)
theorem qI {w:World} {R:Rd} {φ:Pl} {H:List aa} {d:Nat}:∀ {vs:List AV} {us:List Value} {ps:List PV},vs.all AV.free=true→La fo (K R φ H) vs us→Wa (Bb H d) vs=some ps→yd R ps us:=by
 intro vs
 induction vs with
 |nil=>intro us ps _ hl h;simp[Wa] at h;subst h;cases hl;exact .nil
 |cons c cs ihc=>
  intro us ps hf hl h
  simp only[Wa,Option.bind_eq_some_iff,Option.some.injEq] at h
  obtain⟨b,h1,bs,h2,rfl⟩:=h
  simp only[List.all_cons,Bool.and_eq_true] at hf
  cases hl with
  |cons _ _ v vs hc hcs=>exact .cons _ _ _ _ (tM (w:=w) hf.1 hc h1) (ihc hf.2 hcs h2)
mutual
theorem tG {R R':Rd}:∀ {p:PV} {v:Value},Zg p=true→Ea R p v→Ea R' p v
 |_,_,_,.int _ _=> .int _ _
 |_,_,_,.bool _=> .bool _
 |_,_,_,.str _=> .str _
 |_,_,_,.xd=> .xd
 |_,_,_,.qa=> .qa
 |_,_,_,.Vp=> .Vp
 |_,_,_,.Tp=> .Tp
 |_,_,_,.Av=> .Av
 |_,_,hf,.rp _ _ _ _ h=>by simp[Zg] at hf
 |_,_,hf,.lit _ _ _ _ _ h1 h2 h3=>by simp[Zg] at hf
 |_,_,hf,.Ny _ _=>by simp[Zg] at hf
 |_,_,hf,.agg _ _ h=> .agg _ _ (jw (by simpa[Zg] using hf) h)
 |_,_,hf,.dc _ _ h=> .dc _ _ (jw (by simpa[Zg] using hf) h)
 |_,_,hf,.iface _ _ _ h=>by simp[Zg] at hf
theorem jw {R R':Rd}:∀ {p:List PV} {v:List Value},Uk p=true→yd R p v→yd R' p v
 |_,_,_,.nil=> .nil
 |_,_,hf,.cons _ _ _ _ h1 h2=>by
  simp only[Uk,Bool.and_eq_true] at hf
  exact .cons _ _ _ _ (tG hf.1 h1) (jw hf.2 h2)
end
structure Gt (n:Nat) (H H2:List aa):Prop where
 obj:∀ (id:Nat) (o2:aa),H2[id]? =some o2→id < n∧∃ o,H[id]? =some o∧pa n o=some o2
 len:∀ id,id < n→id < H.length→id < H2.length
theorem LI {n:Nat} {H H2:List aa} (h:Wa (pa n) (H.take n)=some H2):Gt n H H2:=by
 obtain⟨h1,h2⟩:=yw h
 rw[List.length_take] at h1
 refine⟨fun id o2 ho=> ?_,fun id hn hl=>by rw[h1];omega⟩
 have hlt:=getElem?_lt ho
 have hid:id < n∧id < H.length:=by rw[h1] at hlt;omega
 have hx:(H.take n)[id]? =some (H[id]'hid.2):=by rw[List.getElem?_take,if_pos hid.1];exact List.getElem?_eq_getElem _
 obtain⟨y,hy1,hy2⟩:=h2 id _ hx
 rw[ho] at hy1;injection hy1 with hy1;subst hy1
 exact⟨hid.1,_,List.getElem?_eq_getElem _,hy2⟩
def AV.DT:AV→Option Nat
 | .ptr id _ | .ic id _ _ | .uq id _ _ _ | .own id _ | .mp id=>some id
 |_=>none
theorem K.xa {n:Nat} {R:Rd} {φ:Pl} {H H2:List aa} (hc:Gt n H H2) {x:AV} {u:Value} (hx:∀ id,x.DT=some id→id < n) (h:K R φ H x u):K R φ H2 x u:=by
 have box:∀ {id:Nat} {c:List AV},H2[id]? =some (.box c)→∃ c',H[id]? =some (.box c'):=by
  intro id c hb
  obtain⟨_,o,ho,hcut⟩:=hc.obj _ _ hb
  cases o with
  |box c'=>exact⟨c',ho⟩
  |seq=>simp only[pa] at hcut;split at hcut <;> cases hcut
  |tok=>cases hcut
  |map es=>simp[pa] at hcut
  |dead=>cases hcut
 have seq:∀ {id:Nat} {sz:Nat} {ag:Bool} {c:List AV} {fl:Nat} {nl:Bool},H2[id]? =some (.seq sz ag c fl nl)→H[id]? =some (.seq sz ag c fl nl):=by
  intro id sz ag c fl nl hb
  obtain⟨_,o,ho,hcut⟩:=hc.obj _ _ hb
  cases o with
  |box c'=>simp[pa] at hcut
  |seq=>
   simp only[pa] at hcut
   split at hcut
   ·injection hcut with hcut;rw[ho,hcut]
   ·cases hcut
  |tok=>cases hcut
  |map es=>simp[pa] at hcut
  |dead=>cases hcut
 have tok:∀ {id:Nat} {sz m:Nat} {nl:Bool},H2[id]? =some (.tok sz m nl)→H[id]? =some (.tok sz m nl):=by
  intro id sz m nl hb
  obtain⟨_,o,ho,hcut⟩:=hc.obj _ _ hb
  cases o with
  |box c'=>simp[pa] at hcut
  |seq=>
   simp only[pa] at hcut
   split at hcut
   ·cases hcut
   ·cases hcut
  |tok=>injection hcut with hcut;rw[ho,hcut]
  |map es=>simp[pa] at hcut
  |dead=>cases hcut
 have map:∀ {id:Nat} {es:List (PV×PV)},H2[id]? =some (.map es)→∃ es',H[id]? =some (.map es'):=by
  intro id c hb
  obtain⟨_,o,ho,hcut⟩:=hc.obj _ _ hb
  cases o with
  |box c'=>simp[pa] at hcut
  |seq=>simp only[pa] at hcut;split at hcut <;> cases hcut
  |tok=>cases hcut
  |map es=>exact⟨es,ho⟩
  |dead=>cases hcut
 cases x with
 |pv p=>exact h
 |ptr id off=>exact⟨hc.len _ (hx _ rfl) h.1,h.2.1,fun c hb=>by obtain⟨c',hb'⟩:=box hb;exact h.2.2 _ hb'⟩
 |ic id m off=>exact⟨hc.len _ (hx _ rfl) h.1,h.2.1,fun sz ag c fl nl hb=>h.2.2 sz ag c fl nl (seq hb)⟩
 |uq id nl sz es=>exact⟨hc.len _ (hx _ rfl) h.1,h.2.1,h.2.2.1,fun sz' m nl' hb=>h.2.2.2 sz' m nl' (tok hb)⟩
 |own id len=>exact⟨hc.len _ (hx _ rfl) h.1,h.2.1,fun sz ag c fl nl hb=>h.2.2 sz ag c fl nl (seq hb)⟩
 |mp id=>exact⟨hc.len _ (hx _ rfl) h.1,h.2.1,fun es hb=>by obtain⟨c',hb'⟩:=map hb;exact h.2.2 _ hb'⟩
 |mi ix cs=>exact h.elim
 |agg cs=>exact h.elim
 |dc cs=>exact h.elim
 |undef=>exact h.elim
theorem vJ {n:Nat} {R:Rd} {φ:Pl} {H H2:List aa} (hc:Gt n H H2):∀ (d:Nat) {v v':AV} {u:Value},AV.cut n d v=some v'→Xb fo (K R φ H) v u→Xb fo (K R φ H2) v' u:=by
 have base:∀ {d:Nat} {v v':AV} {u:Value},(∀ ix cs,v≠ .mi ix cs)→(∀ cs,v≠ .agg cs)→(∀ cs,v≠ .dc cs)→AV.cut n d v=some v'→Xb fo (K R φ H) v u→Xb fo (K R φ H2) v' u:=by
  intro d v v' u n1 n2 n3 h hv
  cases v with
  |pv p=>simp only[AV.cut,Option.some.injEq] at h;subst h;exact .atom _ _ hv.qb
  |ptr id off=>
   simp only[AV.cut] at h
   split at h
   ·rename_i hlt;injection h with h;subst h;exact .atom _ _ (K.xa hc (fun _ e=>by injection e with e;omega) hv.Sy)
   ·cases h
  |ic id m off=>
   simp only[AV.cut] at h
   split at h
   ·rename_i hlt;injection h with h;subst h
    cases hv with | atom _ _ hv=>exact .atom _ _ (K.xa hc (fun _ e=>by injection e with e;omega) hv)
   ·cases h
  |uq id nl sz es=>
   simp only[AV.cut] at h
   split at h
   ·rename_i hlt;injection h with h;subst h;exact .atom _ _ (K.xa hc (fun _ e=>by injection e with e;omega) hv.Xp)
   ·injection h with h
    subst h
    have h1:=hv.Xp
    cases nl with
    |true=>simp only[if_true];rw[(h1.2.1 rfl).1];exact .atom _ _ (show Ea R _ _ from .qa)
    |false=>exact .atom _ _ (show Ea R _ _ from h1.2.2.1 rfl)
  |own id len=>
   simp only[AV.cut] at h
   split at h
   ·rename_i hlt;injection h with h;subst h;exact .atom _ _ (K.xa hc (fun _ e=>by injection e with e;omega) hv.Ov)
   ·cases h
  |mp id=>
   simp only[AV.cut] at h
   split at h
   ·rename_i hlt;injection h with h;subst h
    cases hv with | atom _ _ hv=>exact .atom _ _ (K.xa hc (fun _ e=>by injection e with e;omega) hv)
   ·cases h
  |undef=>simp only[AV.cut,Option.some.injEq] at h;subst h;exact .undef _
  |mi ix cs=>exact absurd rfl (n1 ix cs)
  |agg cs=>exact absurd rfl (n2 cs)
  |dc cs=>exact absurd rfl (n3 cs)
 intro d
 induction d with
 |zero=>
  intro v v' u h hv
  cases v with
  |mi ix cs=>simp[AV.cut] at h
  |agg cs=>simp[AV.cut] at h
  |dc cs=>simp[AV.cut] at h
  |_=>exact base (by intros;simp) (by intros;simp) (by intros;simp) h hv
 |succ d ih=>
  have many:∀ {cs cs':List AV} {vs:List Value},La fo (K R φ H) cs vs→Wa (AV.cut n d) cs=some cs'→La fo (K R φ H2) cs' vs:=by
   intro cs
   induction cs with
   |nil=>intro ps vs hl h;simp[Wa] at h;subst h;cases hl;exact .nil
   |cons c cs ihc=>
    intro ps vs hl h
    simp only[Wa,Option.bind_eq_some_iff,Option.some.injEq] at h
    obtain⟨b,h1,bs,h2,rfl⟩:=h
    cases hl with
    |cons _ _ v vs hc hcs=>exact .cons _ _ _ _ (ih h1 hc) (ihc hcs h2)
  intro v v' u h hv
  cases v with
  |mi ix cs=>
   simp only[AV.cut,Option.map_eq_some_iff] at h
   obtain⟨cs',h1,rfl⟩:=h
   cases hv with
   |atom _ _ h=>exact h.elim
   |mi _ _ vs hl=>exact .mi _ _ _ (many hl h1)
  |agg cs=>
   simp only[AV.cut,Option.map_eq_some_iff] at h
   obtain⟨cs',h1,rfl⟩:=h
   cases hv with
   |atom _ _ h=>exact h.elim
   |agg _ vs hl=>exact .agg _ _ (many hl h1)
  |dc cs=>
   simp only[AV.cut,Option.map_eq_some_iff] at h
   obtain⟨cs',h1,rfl⟩:=h
   cases hv with
   |atom _ _ h=>exact h.elim
   |dc _ vs hl=>exact .dc _ _ (many hl h1)
  |_=>exact base (by intros;simp) (by intros;simp) (by intros;simp) h hv
theorem gH {n:Nat} {R:Rd} {φ:Pl} {H H2:List aa} (hc:Gt n H H2) {d:Nat} {cs cs':List AV} {vs:List Value} (hl:La fo (K R φ H) cs vs) (h:Wa (AV.cut n d) cs=some cs'):La fo (K R φ H2) cs' vs:=by
 induction cs generalizing cs' vs with
 |nil=>simp[Wa] at h;subst h;cases hl;exact .nil
 |cons c cs ihc=>
  simp only[Wa,Option.bind_eq_some_iff,Option.some.injEq] at h
  obtain⟨b,h1,bs,h2,rfl⟩:=h
  cases hl with
  |cons _ _ v vs hcc hcs=>exact .cons _ _ _ _ (vJ hc d h1 hcc) (ihc hcs h2)
theorem RG {n:Nat}:∀ (d:Nat) {v:AV},AV.Wc n d v=true→AV.cut n d v=some v:=by
 intro d
 induction d with
 |zero=>intro v h;cases v <;> simp_all [AV.Wc,AV.cut]
 |succ d ih=>
  have many:∀ {cs:List AV},cs.all (AV.Wc n d)=true→Wa (AV.cut n d) cs=some cs:=by
   intro cs
   induction cs with
   |nil=>intro _;rfl
   |cons c cs ihc=>intro h;simp only[List.all_cons,Bool.and_eq_true] at h;simp[Wa,ih h.1,ihc h.2]
  intro v h
  cases v with
  |mi ix cs=>simp only[AV.Wc] at h;simp[AV.cut,many h]
  |agg cs=>simp only[AV.Wc] at h;simp[AV.cut,many h]
  |dc cs=>simp only[AV.Wc] at h;simp[AV.cut,many h]
  |_=>simp_all [AV.Wc,AV.cut]
theorem JC {n d:Nat} {cs:List AV} (h:cs.all (AV.Wc n d)=true):Wa (AV.cut n d) cs=some cs:=by
 induction cs with
 |nil=>rfl
 |cons c cs ihc=>simp only[List.all_cons,Bool.and_eq_true] at h;simp[Wa,RG d h.1,ihc h.2]
theorem CP {n d:Nat} {v v':AV} (h:AV.cut n d v=some v') (h1:v.one=true):v'.one=true:=by
 cases v with
 |uq id nl sz es=>
  simp only[AV.cut] at h
  split at h
  ·injection h with h;subst h;rfl
  ·injection h with h;subst h;cases nl <;> rfl
 |mi ix cs=>
  cases d with
  |zero=>simp[AV.cut] at h
  |succ d=>simp only[AV.cut,Option.map_eq_some_iff] at h;obtain⟨_,_,rfl⟩:=h;rfl
 |agg=>simp[AV.one] at h1
 |dc=>simp[AV.one] at h1
 |undef=>simp[AV.one] at h1
 |pv p=>simp only[AV.cut,Option.some.injEq] at h;subst h;exact h1
 |_=>
  simp only[AV.cut] at h
  split at h
  ·injection h with h;subst h;exact h1
  ·cases h
theorem SN {n d:Nat} {cs cs':List AV} (h:Wa (AV.cut n d) cs=some cs') (h1:cs.all AV.one=true):cs'.all AV.one=true:=by
 induction cs generalizing cs' with
 |nil=>simp[Wa] at h;subst h;rfl
 |cons c cs ihc=>
  simp only[Wa,Option.bind_eq_some_iff,Option.some.injEq] at h
  obtain⟨b,h2,bs,h3,rfl⟩:=h
  simp only[List.all_cons,Bool.and_eq_true] at h1 ⊢
  exact⟨CP h2 h1.1,ihc h3 h1.2⟩
theorem Kb.xa {n:Nat} {w:World} {R:Rd} {φ:Pl} {H H2:List aa} (hc:Gt n H H2) (hS:Kb fo B0 w R φ H):Kb fo B0 w R φ H2:=by
 have lv:∀ {i},live H2 i→live H i:=by
  intro i ⟨o2,ho2,hl⟩
  obtain⟨_,o,ho,hcut⟩:=hc.obj _ _ ho2
  refine⟨o,ho,?_⟩
  cases o with
  |box c=>trivial
  |seq sz ag c fl nl=>
   simp only[pa] at hcut
   split at hcut
   ·injection hcut with hcut;subst hcut;exact hl
   ·cases hcut
  |tok sz m nl=>injection hcut with hcut;subst hcut;exact hl
  |map es=>trivial
  |dead=>injection hcut with hcut;subst hcut;exact hl
 refine⟨hS.low,hS.sub,fun id o2 ho2=> ?_,fun i j hi hj=>hS.inj i j (lv hi) (lv hj),hS.Bl,hS.slt,fun i hi=>hS.free i (lv hi)⟩
 obtain⟨_,o,ho,hcut⟩:=hc.obj _ _ ho2
 have hO:=hS.obj _ _ ho
 cases o with
 |box c=>
  simp only[pa,Option.map_eq_some_iff] at hcut
  obtain⟨c',h1,rfl⟩:=hcut
  obtain⟨h2,h3,h4,arr,h5,h6⟩:=hO
  exact⟨h2,h3,SN h1 h4,arr,h5,gH hc h6 h1⟩
 |seq sz ag c fl nl=>
  simp only[pa] at hcut
  split at hcut
  ·rename_i hk
   injection hcut with hcut;subst hcut
   obtain⟨h1,h2,h3,h4,h5⟩:=hO
   refine⟨h1,h2,h3,h4,fun e=> ?_⟩
   obtain⟨k1,k2,arr,k3,k4,k5,k6⟩:=h5 e
   exact⟨k1,k2,arr,k3,k4,k5,gH hc k6 (JC hk)⟩
  ·cases hcut
 |tok sz m nl=>injection hcut with hcut;subst hcut;exact hO
 |map es=>injection hcut with hcut;subst hcut;exact hO
 |dead=>injection hcut with hcut;subst hcut;trivial
theorem wI {n:Nat} {R:Rd} {φ:Pl} {H H2:List aa} (hc:Gt n H H2) {e e':Tr} {a:Act} (hE:og fo (K R φ H) e a):∀ {l:List Nat},Ra n e l=some e'→og fo (K R φ H2) e' a:=by
 intro l
 induction l generalizing e' with
 |nil=>intro h;simp only[Ra,Option.some.injEq] at h;subst h;intro t;exact .undef _
 |cons x l ih=>
  intro h
  simp only[Ra,Option.bind_eq_some_iff,Option.map_eq_some_iff] at h
  obtain⟨v,h1,e1,h2,rfl⟩:=h
  intro t
  rw[Tr.ba]
  split
  ·rename_i ht;subst ht;exact vJ hc deep h1 (hE t)
  ·exact ih h2 t
theorem Ez {w0 w:World} {R0 R:Rd} {φ0 φ:Pl} {H0:List aa} {a0 a:Act} {s s2:St} {l:List Nat} (g:Ij fo B0 w0 R0 φ0 H0 a0 w R φ s a) (h:xa H0.length l s=some s2):Ij fo B0 w0 R0 φ0 H0 a0 w R φ s2 a:=by
 simp only[xa,Option.bind_eq_some_iff,Option.map_eq_some_iff] at h
 obtain⟨e,h1,H2,h2,rfl⟩:=h
 have hc:=LI h2
 refine⟨g.rel.xa hc,wI hc g.env h1,fun x u hx=>K.xa hc (fun id hid=> ?_) (g.mono x u hx),g.below,g.size,g.defers⟩
 cases x with
 |ptr=>injection hid with hid;subst hid;exact hx.1
 |ic=>injection hid with hid;subst hid;exact hx.1
 |uq=>injection hid with hid;subst hid;exact hx.1
 |own=>injection hid with hid;subst hid;exact hx.1
 |mp=>injection hid with hid;subst hid;exact hx.1
 |_=>cases hid
end
end Go.AM
set_option linter.unusedSimpArgs false
set_option linter.unusedVariables false
namespace Go.AM
open Go.RowKit
section
variable {P:Program} {fo:Nat→FuncId} {B0:te}
theorem Pv {k:AV→Value→Prop} {e:Tr} {a:Act} (h:og fo k e a) {t:Nat} {v:AV} (hv:Xb fo k v (a.tmps.getD t undef)):og fo k (e.set t v) a:=by
 intro j
 rw[Tr.ba]
 split
 ·rename_i e;subst e;exact hv
 ·exact h j
theorem push_empty {w:World} {R:Rd} {φ:Pl} {H:List aa} (hS:Kb fo B0 w R φ H) {o:aa} (hl:¬zl o) (hO:∀ φ' H',Ax fo B0 w R φ' H' H.length o):Kb fo B0 w R (tj φ H.length (0,0)) (H++[o]):=
 hS.push (Nat.le_refl _) (fun _ _=>rfl) (fun _ _ _=>rfl) hS.sub (fun a v=>K.push o (0,0) a v) (fun h=>absurd h hl) (hO _ _)
theorem TO {w:World} {R:Rd} {φ:Pl} {H:List aa} {sz:Nat}:K R φ (H++[.tok sz 0 true]) (.uq H.length true sz []) (.slice none 0 0):=by
 refine⟨by simp,fun _=>⟨rfl,rfl⟩,(fun e=>by cases e),fun sz' n nl' h=> ?_⟩
 simp at h
 obtain⟨rfl,rfl,rfl⟩:=h
 exact⟨by simp,fun _=>⟨rfl,rfl,fun e=>by cases e⟩⟩
theorem gK {w:World} {R:Rd} {φ:Pl} {H:List aa} {sz:Nat} {ag:Bool}:K R φ (H++[.seq sz ag [] 0 true]) (.own H.length 0) (.slice none 0 0):=by
 refine⟨by simp,rfl,fun sz' ag' c fl nl h=> ?_⟩
 simp at h
 obtain⟨rfl,rfl,rfl,rfl,rfl⟩:=h
 exact⟨by simp,fun _=>⟨fun _=>rfl,fun e=>by cases e⟩⟩
theorem iJ {w:World} {R:Rd} {φ:Pl} {H:List aa} (hS:Kb fo B0 w R φ H) {id:Nat} {cells:List AV} (hid:H[id]? =some (.box cells)) {i:Nat} (hi:cells[i]? =some (.pv .qa)) {x:AV} (hx:K R φ H x (.slice none 0 0)) (h1:x.one=true):
 Kb fo B0 w R (tj φ id (φ id)) (H.set id (.box (cells.set i x)))∧∀ a u,K R φ H a u→K R (tj φ id (φ id)) (H.set id (.box (cells.set i x))) a u:=by
 have hk:=fun a v=>K.DJ (R:=R) (φ:=φ) (H:=H) (c':=cells.set i x) hid a v
 refine⟨hS.tj hid (Nat.le_refl _) (fun _ _ _=>rfl) (fun _ _ _ _=>rfl) hS.sub hk (fun _=> .inl ⟨trivial,rfl⟩) ?_,hk⟩
 obtain⟨o1,o2,o3,arr,o4,o5⟩:=hS.obj _ _ hid
 refine⟨by rw[ab];exact o1,by rw[ab];exact o2,?_,arr,by rw[ab];exact o4,?_⟩
 ·rw[List.all_eq_true] at o3 ⊢
  intro y hy
  rcases List.mem_or_eq_of_mem_set hy with hy | rfl
  ·exact o3 y hy
  ·exact h1
 ·obtain⟨u,hu,hr⟩:=o5.get hi
  have hr:=hr.qb
  cases hr
  have:arr.toList=arr.toList.set i (.slice none 0 0):=by
   apply List.ext_getElem?
   intro j
   by_cases e:i=j
   ·subst e
    rw[List.getElem?_set_self (getElem?_lt hu)];exact hu
   ·rw[List.getElem?_set_ne e]
  rw[this]
  exact (o5.mono hk).set i (.atom _ _ (hk _ _ hx))
theorem gM {g:mJ} {w:World} {R:Rd} {φ:Pl} {s s':St} {a:Act} (hS:Kb fo B0 w R φ s.H) (hE:og fo (K R φ s.H) s.env a) (h:gf g s=some s'):∃ R' φ',Ij fo B0 w R φ s.H a w R' φ' s' a:=by
 obtain⟨e,H⟩:=s
 cases g with
 |fF t sz=>
  simp only[gf] at h
  split at h
  ·rename_i ht
   split at h
   ·rename_i h0
    injection h with h;subst h
    have hk:=fun a v=>K.push (R:=R) (φ:=φ) (H:=H) (.tok sz 0 true) (0,0) a v
    have hv:=hE t
    simp only[ht] at hv
    have hv:=hv.qb
    refine⟨R,_,push_empty hS (by simp[zl]) (fun φ' H'=>⟨h0,fun _=>rfl,fun e=>by cases e⟩),Pv (hE.mono hk) ?_,hk,Xe.refl _ _,rfl,.same rfl⟩
    generalize a.tmps.getD t undef=v at hv
    cases hv
    exact .atom _ _ (TO (w:=w))
   ·cases h
  ·cases h
 |PJ t sz ag=>
  simp only[gf] at h
  split at h
  ·rename_i ht
   split at h
   ·rename_i h0
    injection h with h;subst h
    have hk:=fun a v=>K.push (R:=R) (φ:=φ) (H:=H) (.seq sz ag [] 0 true) (0,0) a v
    have hv:=hE t
    simp only[ht] at hv
    have hv:=hv.qb
    refine⟨R,_,push_empty hS (by simp[zl]) (fun φ' H'=>⟨h0,Nat.le_refl _,fun _=>rfl,rfl,fun e=>by cases e⟩),Pv (hE.mono hk) ?_,hk,Xe.refl _ _,rfl,.same rfl⟩
    generalize a.tmps.getD t undef=v at hv
    cases hv
    exact .atom _ _ (gK (w:=w))
   ·cases h
  ·cases h
 |iy t off sz=>
  simp only[gf] at h
  split at h
  ·rename_i id o ht
   split at h
   ·rename_i cells hid
    split at h
    ·rename_i hc
     split at h
     ·rename_i h0
      injection h with h;subst h
      have hlt:=getElem?_lt hid
      have hk:=fun a v=>K.push (R:=R) (φ:=φ) (H:=H) (.tok sz 0 true) (0,0) a v
      have hS1:=push_empty hS (o:= .tok sz 0 true) (by simp[zl]) (fun φ' H'=>⟨h0,fun _=>rfl,fun e=>by cases e⟩)
      obtain⟨hS2,hk2⟩:=iJ hS1 (by rw[getElem?_push hlt];exact hid) hc (TO (w:=w)) rfl
      have e:H.set id (.box (cells.set (o+off) (.uq H.length true sz [])))++[aa.tok sz 0 true]=(H++[aa.tok sz 0 true]).set id (.box (cells.set (o+off) (.uq H.length true sz []))):=by
       rw[List.set_append_left _ _ hlt]
      simp only[e]
      exact⟨R,_,hS2,hE.mono fun a v h=>hk2 a v (hk a v h),fun x u h=>hk2 x u (hk x u h),Xe.refl _ _,rfl,.same rfl⟩
     ·cases h
    ·cases h
   ·cases h
  ·cases h
 |cE t off sz ag=>
  simp only[gf] at h
  split at h
  ·rename_i id o ht
   split at h
   ·rename_i cells hid
    split at h
    ·rename_i hc
     split at h
     ·rename_i h0
      injection h with h;subst h
      have hlt:=getElem?_lt hid
      have hk:=fun a v=>K.push (R:=R) (φ:=φ) (H:=H) (.seq sz ag [] 0 true) (0,0) a v
      have hS1:=push_empty hS (o:= .seq sz ag [] 0 true) (by simp[zl]) (fun φ' H'=>⟨h0,Nat.le_refl _,fun _=>rfl,rfl,fun e=>by cases e⟩)
      obtain⟨hS2,hk2⟩:=iJ hS1 (by rw[getElem?_push hlt];exact hid) hc (gK (w:=w)) rfl
      have e:H.set id (.box (cells.set (o+off) (.own H.length 0)))++[aa.seq sz ag [] 0 true]=(H++[aa.seq sz ag [] 0 true]).set id (.box (cells.set (o+off) (.own H.length 0))):=by
       rw[List.set_append_left _ _ hlt]
      simp only[e]
      exact⟨R,_,hS2,hE.mono fun a v h=>hk2 a v (hk a v h),fun x u h=>hk2 x u (hk x u h),Xe.refl _ _,rfl,.same rfl⟩
     ·cases h
    ·cases h
   ·cases h
  ·cases h
 |freeze t=>
  simp only[gf] at h
  split at h
  ·rename_i id len ht
   split at h
   ·rename_i sz ag cells fl nl hid
    split at h
    ·rename_i hc
     obtain⟨hlen,VO⟩:=hc
     have hid0:=hid
     have hv:=hE t
     simp only[ht] at hv
     have h1:=hv.Ov
     obtain⟨k0,k⟩:=h1.2.2 _ _ _ _ _ hid
     obtain⟨o0,o1,o2,oone,o3⟩:=hS.obj _ _ hid
     obtain⟨k1,k2⟩:=k (by omega)
     have hkd:∀ (R':Rd) (p:Nat×Nat),Sub R R'→∀ a v,K R φ H a v→K R' (tj φ id p) (H.set id .dead) a v:=by
      intro R' p hs a v hk
      have hk:=K.sub hs a v hk
      have hl:(H.set id .dead).length=H.length:=by simp
      have inv:∀ {i:Nat} {x:aa},(H.set id .dead)[i]? =some x→x≠ .dead→i≠id∧H[i]? =some x:=by
       intro i x hx hd
       by_cases e:i=id
       ·subst e;rw[List.getElem?_set_self (getElem?_lt hid)] at hx;injection hx with hx;exact absurd hx.symm hd
       ·rw[List.getElem?_set_ne (Ne.symm e)] at hx;exact⟨e,hx⟩
      cases a with
      |pv p=>exact hk
      |ptr i off=>exact⟨by rw[hl];exact hk.1,hk.2.1,fun c hc=>by obtain⟨q1,q2⟩:=inv hc (by simp);rw[Uc _ _ q1];exact hk.2.2 c q2⟩
      |ic i n off=>exact⟨by rw[hl];exact hk.1,hk.2.1,fun sz ag c fl nl hc=>by obtain⟨q1,q2⟩:=inv hc (by simp);rw[Uc _ _ q1];exact hk.2.2 _ _ _ _ _ q2⟩
      |uq i nl sz es=>exact⟨by rw[hl];exact hk.1,hk.2.1,hk.2.2.1,fun sz n nl hc=>by obtain⟨q1,q2⟩:=inv hc (by simp);rw[Uc _ _ q1];exact hk.2.2.2 _ _ _ q2⟩
      |own i n=>exact⟨by rw[hl];exact hk.1,hk.2.1,fun sz ag c fl nl hc=>by obtain⟨q1,q2⟩:=inv hc (by simp);rw[Uc _ _ q1];exact hk.2.2 _ _ _ _ _ q2⟩
      |mp i=>exact⟨by rw[hl];exact hk.1,hk.2.1,fun es hc=>by obtain⟨q1,q2⟩:=inv hc (by simp);rw[Uc _ _ q1];exact hk.2.2 _ q2⟩
      |mi=>exact hk.elim
      |agg=>exact hk.elim
      |dc=>exact hk.elim
      |undef=>exact hk.elim
     cases nl with
     |true=>
      simp only[if_true,Option.some.injEq] at h
      subst h
      have hk:=hkd R (φ id) (Sub.refl R)
      refine⟨R,tj φ id (φ id),hS.tj hid (Nat.le_refl _) (fun _ _ _=>rfl) (fun _ _ _ _=>rfl) hS.sub hk (fun h=>h.elim) trivial,Pv (hE.mono hk) ?_,hk,Xe.refl _ _,rfl,.same rfl⟩
      rw[k1 rfl]
      exact .atom _ _ (show Ea R _ _ from .qa)
     |false=>
      simp only[Bool.false_eq_true,if_false,Option.map_eq_some_iff] at h
      obtain⟨ps,hps,rfl⟩:=h
      obtain⟨b0,hnone,arr,hB,hsz,hle,hrel⟩:=o3 rfl
      have hsub:Sub R (fun b o=>if b=(φ id).1 then w.cell? ⟨b,o,none⟩ else R b o):=by
       intro b o v h
       dsimp only
       split
       ·exact hS.sub b o v h
       ·exact h
      have hk:=hkd _ (φ id) hsub
      refine⟨_,tj φ id (φ id),hS.tj (R':=fun b o=>if b=(φ id).1 then w.cell? ⟨b,o,none⟩ else R b o) hid (Nat.le_refl _) (fun _ _ _=>rfl) (fun b j _ hne=>if_neg (hne rfl)) (fun b o v h=> ?_) hk (fun h=>h.elim) trivial,Pv (hE.mono hk) ?_,hk,Xe.refl _ _,rfl,.same rfl⟩
      ·split at h
       ·exact h
       ·exact hS.sub b o v h
      ·rcases k2 rfl with⟨q1,q2,_⟩ | ⟨b,o,cap,q1,q2,_⟩
       ·subst q1;exact absurd (List.eq_nil_of_length_eq_zero (by omega)) q2
       ·rw[q1]
        obtain⟨rfl,rfl,rfl⟩:=q2 hlen
        have hl:=Gh hps hrel
        have hmap:=Kh hps
        have hone:∀ p∈ps,DB p=true:=by
         intro p hp
         rw[hmap] at oone
         exact List.all_eq_true.1 oone _ (List.mem_map_of_mem hp)
        have hplen:ps.length=len * sz:=by rw[hlen,hmap];simp
        obtain⟨c1,c2,c3⟩:=Sq sz ag (fun e=>by subst e;simpa using VO) len ps hplen hone
        refine .atom _ _ (show Ea _ _ _ from ?_)
        have:=Ea.lit (R:=fun b o=>if b=(φ id).1 then w.cell? ⟨b,o,none⟩ else R b o) sz (chunk sz ag len ps) (φ id).1 0 (φ id).2 (by
         rw[c3]
         have:len * sz≤(φ id).2 * sz:=by rw[← hsz];omega
         exact Nat.le_of_mul_le_mul_right this o0) c2 (by
         rw[c1]
         refine He.rk (hl.mono hsub) (Xk hrel oone) fun i v hv=> ?_
         have hlt:=getElem?_lt hv
         rw[List.getElem?_take] at hv
         split at hv
         ·rw[if_pos rfl,hB.cell,Nat.zero_add];simpa using hv
         ·cases hv)
        rw[c3] at this
        exact this
    ·cases h
   ·cases h
  ·rename_i id o ht
   split at h
   ·rename_i cells hid
    have hid0:=hid
    have hv:=hE t
    simp only[ht] at hv
    have h1:=hv.Sy
    have k:=h1.2.2 _ hid
    obtain⟨o0,o1,oone,arr,hB,hrel⟩:=hS.obj _ _ hid
    have hkd:∀ (R':Rd) (p:Nat×Nat),Sub R R'→∀ a v,K R φ H a v→K R' (tj φ id p) (H.set id .dead) a v:=by
     intro R' p hs a v hk
     have hk:=K.sub hs a v hk
     have hl:(H.set id .dead).length=H.length:=by simp
     have inv:∀ {i:Nat} {x:aa},(H.set id .dead)[i]? =some x→x≠ .dead→i≠id∧H[i]? =some x:=by
      intro i x hx hd
      by_cases e:i=id
      ·subst e;rw[List.getElem?_set_self (getElem?_lt hid)] at hx;injection hx with hx;exact absurd hx.symm hd
      ·rw[List.getElem?_set_ne (Ne.symm e)] at hx;exact⟨e,hx⟩
     cases a with
     |pv p=>exact hk
     |ptr i off=>exact⟨by rw[hl];exact hk.1,hk.2.1,fun c hc=>by obtain⟨q1,q2⟩:=inv hc (by simp);rw[Uc _ _ q1];exact hk.2.2 c q2⟩
     |ic i n off=>exact⟨by rw[hl];exact hk.1,hk.2.1,fun sz ag c fl nl hc=>by obtain⟨q1,q2⟩:=inv hc (by simp);rw[Uc _ _ q1];exact hk.2.2 _ _ _ _ _ q2⟩
     |uq i nl sz es=>exact⟨by rw[hl];exact hk.1,hk.2.1,hk.2.2.1,fun sz n nl hc=>by obtain⟨q1,q2⟩:=inv hc (by simp);rw[Uc _ _ q1];exact hk.2.2.2 _ _ _ q2⟩
     |own i n=>exact⟨by rw[hl];exact hk.1,hk.2.1,fun sz ag c fl nl hc=>by obtain⟨q1,q2⟩:=inv hc (by simp);rw[Uc _ _ q1];exact hk.2.2 _ _ _ _ _ q2⟩
     |mp i=>exact⟨by rw[hl];exact hk.1,hk.2.1,fun es hc=>by obtain⟨q1,q2⟩:=inv hc (by simp);rw[Uc _ _ q1];exact hk.2.2 _ q2⟩
     |mi=>exact hk.elim
     |agg=>exact hk.elim
     |dc=>exact hk.elim
     |undef=>exact hk.elim
    simp only[Option.map_eq_some_iff] at h
    obtain⟨ps,hps,rfl⟩:=h
    have hsub:Sub R (fun b o=>if b=(φ id).1 then w.cell? ⟨b,o,none⟩ else R b o):=by
     intro b o v h
     dsimp only
     split
     ·exact hS.sub b o v h
     ·exact h
    have hk:=hkd _ (φ id) hsub
    refine⟨_,tj φ id (φ id),hS.tj (R':=fun b o=>if b=(φ id).1 then w.cell? ⟨b,o,none⟩ else R b o) hid (Nat.le_refl _) (fun _ _ _=>rfl) (fun b j _ hne=>if_neg (hne trivial)) (fun b o v h=> ?_) hk (fun h=>h.elim) trivial,Pv (hE.mono hk) ?_,hk,Xe.refl _ _,rfl,.same rfl⟩
    ·split at h
     ·exact h
     ·exact hS.sub b o v h
    ·rw[k]
     have hl:=Gh hps hrel
     refine .atom _ _ (show Ea _ _ _ from ?_)
     have:=Ea.rp (R:=fun b o=>if b=(φ id).1 then w.cell? ⟨b,o,none⟩ else R b o) ps o (φ id).1 0 (He.rk (hl.mono hsub) (Xk hrel oone) fun i v hv=>by
      rw[if_pos rfl,hB.cell,Nat.zero_add];simpa using hv)
     rw[Nat.zero_add] at this
     exact this
   ·cases h
  ·cases h
end
end Go.AM
