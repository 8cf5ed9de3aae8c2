/- The abstract machine: equality, maps, steps that may change places, cleaning. -/
import Derived.Test.YtdglpnpkgngcdaaGreatG1
import Derived.DeepKeys3
import Derived.OrdersIn
import Derived.LoopNIn
import Derived.RangeFuncRecord
import Derived.RangeFuncSeq
set_option linter.unusedSimpArgs false
set_option linter.unusedVariables false
namespace Go.AM
open Go.RowKit
def Rr:Nat→Value→Value→Option Bool
 |0,.bool a,.bool b=>some (a==b)
 |1,.int k a,.int k' b=>if k=k' then some (a==b) else none
 |2,.string a,.string b=>some (a==b)
 |_,_,_=>none
def kh:List Nat→List Value→List Value→Option Bool
 | [],[],[]=>some true
 |k::ks,x::xs,y::ys=>(Rr k x y).bind fun b=>(kh ks xs ys).map fun c=>b&&c
 |_,_,_=>none
theorem UD {k:Nat} {p q:PV} {b:Bool} (h:Kr k p q=some b):
 (k=0∧∃ c d,p= .bool c∧q= .bool d∧b=(c==d))∨(k=1∧∃ i c d,p= .int i c∧q= .int i d∧b=(c==d))∨(k=2∧∃ c d,p= .str c∧q= .str d∧b=(c==d)):=by
 unfold Kr at h
 split at h
 ·injection h with h;exact .inl ⟨rfl,_,_,rfl,rfl,h.symm⟩
 ·split at h
  ·rename_i hk;subst hk;injection h with h;exact .inr (.inl ⟨rfl,_,_,_,rfl,rfl,h.symm⟩)
  ·cases h
 ·injection h with h;exact .inr (.inr ⟨rfl,_,_,rfl,rfl,h.symm⟩)
 ·cases h
theorem Vk {k:Nat} {p q:Value} {b:Bool} (h:Rr k p q=some b):
 (k=0∧∃ c d,p= .bool c∧q= .bool d∧b=(c==d))∨(k=1∧∃ i c d,p= .int i c∧q= .int i d∧b=(c==d))∨(k=2∧∃ c d,p= .string c∧q= .string d∧b=(c==d)):=by
 unfold Rr at h
 split at h
 ·injection h with h;exact .inl ⟨rfl,_,_,rfl,rfl,h.symm⟩
 ·split at h
  ·rename_i hk;subst hk;injection h with h;exact .inr (.inl ⟨rfl,_,_,_,rfl,rfl,h.symm⟩)
  ·cases h
 ·injection h with h;exact .inr (.inr ⟨rfl,_,_,rfl,rfl,h.symm⟩)
 ·cases h
theorem Js {R:Rd} {k:Nat} {p q:PV} {v u:Value} (hp:Va R p v) (hq:Va R q u) {b:Bool} (h:Kr k p q=some b):Rr k v u=some b:=by
 rcases UD h with⟨rfl,c,d,rfl,rfl,rfl⟩ | ⟨rfl,i,c,d,rfl,rfl,rfl⟩ | ⟨rfl,c,d,rfl,rfl,rfl⟩ <;> cases hp <;> cases hq <;> simp[Rr]
theorem Iz {R:Rd}:∀ {ks:List Nat} {ps qs:List PV} {vs us:List Value} {b:Bool},ze R ps vs→ze R qs us→ej ks ps qs=some b→kh ks vs us=some b
 | [],[],[],_,_,_,.nil,.nil,h=>h
 |k::ks,p::ps,q::qs,_,_,b,.cons _ _ v vs h1 h2,.cons _ _ u us g1 g2,h=>by
  simp only[ej,Option.bind_eq_some_iff,Option.map_eq_some_iff] at h
  obtain⟨x,e1,y,e2,rfl⟩:=h
  simp only[kh,Js h1 g1 e1,Iz h2 g2 e2,Option.bind_some,Option.map_some]
 | [],[],_::_,_,_,_,_,_,h=>by simp[ej] at h
 | [],_::_,_,_,_,_,_,_,h=>by simp[ej] at h
 |_::_,[],_,_,_,_,_,_,h=>by simp[ej] at h
 |_::_,_::_,[],_,_,_,_,_,h=>by simp[ej] at h
theorem Im:∀ {ks ks':List Nat} {xs ys xs' ys':List Value} {b:Bool},ks.length=xs.length→xs.length=ys.length→kh (ks++ks') (xs++xs') (ys++ys')=some b→∃ c d,kh ks xs ys=some c∧kh ks' xs' ys'=some d∧b=(c&&d)
 | [],_,[],[],_,_,b,_,_,h=>⟨true,b,rfl,h,by simp⟩
 |k::ks,_,x::xs,y::ys,xs',ys',b,hk,hl,h=>by
  simp only[List.cons_append,kh,Option.bind_eq_some_iff,Option.map_eq_some_iff] at h
  obtain⟨e,h1,f,h2,rfl⟩:=h
  obtain⟨c,d,h3,h4,rfl⟩:=Im (by simpa using hk) (by simpa using hl) h2
  exact⟨e&&c,d,by simp[kh,h1,h3],h4,by simp[Bool.and_assoc]⟩
 | [],_,_::_,_,_,_,_,hk,_,_=>by simp at hk
 |_::_,_,[],_,_,_,_,hk,_,_=>by simp at hk
 |_,_,[],_::_,_,_,_,_,hl,_=>by simp at hl
 |_,_,_::_,[],_,_,_,_,hl,_=>by simp at hl
def valOf (P:Program) (t:TypeId) (cs:List Value):Value:=if Il P t=some true then .agg ⟨cs⟩ else cs.headD undef
def Ez (P:Program):Nat→List Field→Option Nat
 |o,[]=>some o
 |o,f::r=>if f.offset=o then Ez P (o+P.cellsOf f.type) r else none
def Vu (g:TypeId→Option (List Nat)):List Field→Option (List Nat)
 | []=>some []
 |f::r=>if f.name != "_" then (g f.type).bind fun a=>(Vu g r).map (a++ ·) else none
def DH:Nat→List Nat→List Nat
 |0,_=>[]
 |n+1,ks=>ks++DH n ks
def Eh (P:Program):Nat→TypeId→Option (List Nat)
 |0,_=>none
 |m+1,t=>
  match P.underlying t with
  |some .bool=>if P.cellsOf t=1 then some [0] else none
  |some (.int _)=>if P.cellsOf t=1 then some [1] else none
  |some .string=>if P.cellsOf t=1 then some [2] else none
  |some (.struct fs)=>if Ez P 0 fs.toList=some (P.cellsOf t)∧P.stoodInHeld t=false then Vu (Eh P m) fs.toList else none
  |some (.array n e)=>if P.cellsOf t=n * P.cellsOf e then (Eh P m e).map (DH n) else none
  |_=>none
section
variable {P:Program}
theorem WC {m:Nat} {t:TypeId} {ks:List Nat} (h:Eh P m t=some ks):∃ i,P.info? t=some i:=by
 cases m with
 |zero=>simp[Eh] at h
 |succ m=>
  unfold Eh at h
  cases hu:P.underlying t with
  |none=>simp[hu] at h
  |some d=>exact info_of_underlying hu
theorem zy {m:Nat} {t:TypeId} {ks:List Nat} (h:Eh P m t=some ks):Od P t=some (P.cellsOf t):=by
 obtain⟨i,hi⟩:=WC h
 simp[Od,Program.cellsOf,hi]
theorem Ou {g:TypeId→Option (List Nat)} (hg:∀ t ks,g t=some ks→ks.length=P.cellsOf t):∀ {fs:List Field} {o n:Nat} {ks:List Nat},Vu g fs=some ks→Ez P o fs=some n→o+ks.length=n
 | [],o,n,ks,h,hl=>by
   simp only[Vu,Option.some.injEq] at h;subst h
   simp only[Ez,Option.some.injEq] at hl;simpa using hl
 |f::fs,o,n,ks,h,hl=>by
  simp only[Vu] at h
  split at h
  ·simp only[Option.bind_eq_some_iff,Option.map_eq_some_iff] at h
   obtain⟨a,h1,b,h2,rfl⟩:=h
   simp only[Ez] at hl
   split at hl
   ·have:=Ou hg h2 hl
    have:=hg _ _ h1
    simp;omega
   ·cases hl
  ·cases h
theorem aU (n:Nat) (ks:List Nat):(DH n ks).length=n * ks.length:=by
 induction n with
 |zero=>simp[DH]
 |succ n ih=>simp[DH,ih,Nat.succ_mul];omega
theorem Th:∀ {m:Nat} {t:TypeId} {ks:List Nat},Eh P m t=some ks→ks.length=P.cellsOf t
 |0,_,_,h=>by simp[Eh] at h
 |m+1,t,ks,h=>by
  unfold Eh at h
  split at h
  ·split at h
   ·rename_i e;injection h with h;subst h;simp[e]
   ·cases h
  ·split at h
   ·rename_i e;injection h with h;subst h;simp[e]
   ·cases h
  ·split at h
   ·rename_i e;injection h with h;subst h;simp[e]
   ·cases h
  ·split at h
   ·rename_i e
    have:=Ou (P:=P) (fun t ks h=>Th (m:=m) h) h e.1
    omega
   ·cases h
  ·split at h
   ·rename_i e
    simp only[Option.map_eq_some_iff] at h
    obtain⟨a,h1,rfl⟩:=h
    rw[aU,Th h1,e]
   ·cases h
  ·cases h
theorem Nw {m:Nat} {t:TypeId} {ks:List Nat} (h:Eh P m t=some ks):(Il P t=some true)∨(Il P t=some false∧P.cellsOf t=1∧
 ((P.underlying t=some .bool∧ks=[0])∨((∃ k,P.underlying t=some (.int k))∧ks=[1])∨(P.underlying t=some .string∧ks=[2]))):=by
 cases m with
 |zero=>simp[Eh] at h
 |succ m=>
  unfold Eh at h
  unfold Il
  split at h
  ·rename_i hu
   split at h
   ·rename_i e;injection h with h;exact .inr ⟨by simp[hu],e,.inl ⟨hu,h.symm⟩⟩
   ·cases h
  ·rename_i k hu
   split at h
   ·rename_i e;injection h with h;exact .inr ⟨by simp[hu],e,.inr (.inl ⟨⟨k,hu⟩,h.symm⟩)⟩
   ·cases h
  ·rename_i hu
   split at h
   ·rename_i e;injection h with h;exact .inr ⟨by simp[hu],e,.inr (.inr ⟨hu,h.symm⟩)⟩
   ·cases h
  ·rename_i hu;exact .inl (by simp[hu])
  ·rename_i hu;exact .inl (by simp[hu])
  ·cases h
variable {w:World}
theorem Ws {m:Nat} {e:TypeId} {ks:List Nat} (he:Eh P m e=some ks) {xs:List Value} {off:Nat} (hl:off+P.cellsOf e≤xs.length):
 (part e ⟨xs⟩ off).run P w= .ok (valOf P e ((xs.drop off).take (P.cellsOf e))) w:=by
 rcases Nw he with ha | ⟨ha,h1,_⟩
 ·rw[zt (n:=P.cellsOf e) ha (fun _=>zy he) (fun hb=>by cases hb)]
  congr 1
  unfold valOf
  simp only[if_true,ha]
  congr 1
  apply Array.ext'
  simp[List.extract_eq_take_drop]
 ·rw[zt (n:=P.cellsOf e) ha (fun _=>zy he) (fun _=>⟨xs[off]'(by omega),by simp[show off < xs.length by omega]⟩)]
  congr 1
  unfold valOf
  simp only[ha,Bool.false_eq_true,if_false,Option.some.injEq]
  rw[h1]
  have hlt:off < xs.length:=by omega
  rw[List.take_one,List.head?_drop]
  simp[Array.getD_eq_getD_getElem?,hlt]
def iY (P:Program) (dd:Nat) (e:TypeId) (ks:List Nat):Prop:=
 ∀ (w:World) (xs ys:List Value) (b:Bool),xs.length=P.cellsOf e→ys.length=P.cellsOf e→kh ks xs ys=some b→(Op.equalIn dd e (valOf P e xs) (valOf P e ys)).run P w= .ok b w
theorem yB (dd m:Nat) (xs ys:List Value) (hE:∀ t ks,Eh P m t=some ks→iY P dd t ks):∀ (fs:List Field) (ks:List Nat) (o n:Nat) (b:Bool),Vu (Eh P m) fs=some ks→Ez P o fs=some n→n=xs.length→n=ys.length→
 kh ks (xs.drop o) (ys.drop o)=some b→(Op.eqFields dd ⟨xs⟩ ⟨ys⟩ fs).run P w= .ok b w
 | [],ks,o,n,b,hk,hl,h1,h2,h=>by
   simp only[Vu,Option.some.injEq] at hk
   subst hk
   simp only[Ez,Option.some.injEq] at hl
   subst hl
   rw[List.drop_eq_nil_of_le (by omega),List.drop_eq_nil_of_le (by omega)] at h
   simp only[kh,Option.some.injEq] at h
   subst h
   simp[Op.eqFields]
 |f::fs,ks,o,n,b,hk,hl,h1,h2,h=>by
  simp only[Vu] at hk
  split at hk
  ·rename_i hn
   simp only[bne_iff_ne,ne_eq] at hn
   simp only[Option.bind_eq_some_iff,Option.map_eq_some_iff] at hk
   obtain⟨k1,e1,k2,e2,rfl⟩:=hk
   simp only[Ez] at hl
   split at hl
   ·rename_i ho
    subst ho
    have hle:=Ou (P:=P) (fun t ks h=>Th (m:=m) h) e2 hl
    have hlen:=Th e1
    have px:=Ws (w:=w) e1 (xs:=xs) (off:=f.offset) (by omega)
    have py:=Ws (w:=w) e1 (xs:=ys) (off:=f.offset) (by omega)
    rw[← List.take_append_drop (P.cellsOf f.type) (xs.drop f.offset),←List.take_append_drop (P.cellsOf f.type) (ys.drop f.offset)] at h
    obtain⟨c,d,h3,h4,rfl⟩:=Im (by simp;omega) (by simp;omega) h
    rw[List.drop_drop,List.drop_drop] at h4
    have he:=hE _ _ e1 w _ _ c (by simp;omega) (by simp;omega) h3
    have ih:=yB dd m xs ys hE fs k2 (f.offset+P.cellsOf f.type) n d e2 hl h1 h2 h4
    simp only[Op.eqFields,hn,ne_eq,not_false_eq_true,if_true,Sem.run_bind,px,py,he,Result.andThen_ok]
    cases c
    ·simp
    ·simpa using ih
   ·cases hl
  ·cases hk
theorem fE (dd m:Nat) {e:TypeId} {ks:List Nat} (he:Eh P m e=some ks) (hE:iY P dd e ks) (xs ys:List Value):∀ (k i:Nat) (b:Bool),xs.length=(i+k) * P.cellsOf e→ys.length=(i+k) * P.cellsOf e→
 kh (DH k ks) (xs.drop (i * P.cellsOf e)) (ys.drop (i * P.cellsOf e))=some b→(Op.eqItems dd e (P.cellsOf e) ⟨xs⟩ ⟨ys⟩ (List.range' i k)).run P w= .ok b w
 |0,i,b,h1,h2,h=>by
  rw[List.drop_eq_nil_of_le (by simp at h1;omega),List.drop_eq_nil_of_le (by simp at h2;omega)] at h
  simp only[DH,kh,Option.some.injEq] at h
  subst h
  simp[Op.eqItems]
 |k+1,i,b,h1,h2,h=>by
  have hlen:=Th he
  have hx:i * P.cellsOf e+P.cellsOf e≤xs.length:=by
   rw[h1,←Nat.succ_mul];exact Nat.mul_le_mul_right _ (by omega)
  have hy:i * P.cellsOf e+P.cellsOf e≤ys.length:=by
   rw[h2,←Nat.succ_mul];exact Nat.mul_le_mul_right _ (by omega)
  have px:=Ws (w:=w) he (xs:=xs) (off:=i * P.cellsOf e) hx
  have py:=Ws (w:=w) he (xs:=ys) (off:=i * P.cellsOf e) hy
  rw[← List.take_append_drop (P.cellsOf e) (xs.drop _),←List.take_append_drop (P.cellsOf e) (ys.drop _)] at h
  obtain⟨c,d,h3,h4,rfl⟩:=Im (by simp;omega) (by simp;omega) h
  rw[List.drop_drop,List.drop_drop,←Nat.succ_mul] at h4
  have hq:=hE w _ _ c (by simp;omega) (by simp;omega) h3
  have ih:=fE dd m he hE xs ys k (i+1) d (by rw[h1];congr 1;omega) (by rw[h2];congr 1;omega) h4
  rw[List.range'_succ]
  simp only[Op.eqItems,Sem.run_bind,px,py,hq,Result.andThen_ok]
  cases c
  ·simp
  ·simpa using ih
theorem KH (d:Nat):∀ (m:Nat) (t:TypeId) (ks:List Nat),Eh P m t=some ks→iY P (d+m) t ks
 |0,_,_,h=>by simp[Eh] at h
 |m+1,t,ks,hk=>by
  intro w xs ys b hx hy h
  rw[show d+(m+1)=(d+m)+1 from rfl]
  rcases Nw hk with ha | ⟨ha,h1,hc⟩
  ·have vx:valOf P t xs= .agg ⟨xs⟩:=by simp[valOf,ha]
   have vy:valOf P t ys= .agg ⟨ys⟩:=by simp[valOf,ha]
   rw[vx,vy]
   unfold Eh at hk
   split at hk
   ·rename_i hu;simp[Il,hu] at ha
   ·rename_i hu;simp[Il,hu] at ha
   ·rename_i hu;simp[Il,hu] at ha
   ·rename_i fs hu
    split at hk
    ·rename_i e
     have hfs:P.fieldsOf t=fs:=by simp[Program.fieldsOf,hu]
     rw[run_equalIn_struct w (d+m) t ⟨xs⟩ ⟨ys⟩ (by rw[hfs];exact hu) e.2,hfs]
     exact yB (d+m) m xs ys (fun t ks h=>KH d m t ks h) fs.toList ks 0 (P.cellsOf t) b hk e.1 hx.symm hy.symm (by simpa using h)
    ·cases hk
   ·rename_i n e hu
    split at hk
    ·rename_i hsz
     simp only[Option.map_eq_some_iff] at hk
     obtain⟨a,h3,rfl⟩:=hk
     obtain⟨i,hi⟩:=WC h3
     rw[run_equalIn_array w (d+m) ⟨xs⟩ ⟨ys⟩ hu hi,List.range_eq_range']
     exact fE (d+m) m h3 (KH d m e a h3) xs ys n 0 b (by rw[hx,hsz,Nat.zero_add]) (by rw[hy,hsz,Nat.zero_add]) (by simpa using h)
    ·cases hk
   ·cases hk
  ·rw[h1] at hx hy
   match xs,ys,hx,hy with
   | [x],[y],_,_=>
     have vx:valOf P t [x]=x:=by simp[valOf,ha]
     have vy:valOf P t [y]=y:=by simp[valOf,ha]
     rw[vx,vy]
     have one:∀ k,ks=[k]→Rr k x y=some b:=by
      rintro k rfl
      simpa[kh] using h
     rcases hc with⟨hu,rfl⟩ | ⟨⟨kk,hu⟩,rfl⟩ | ⟨hu,rfl⟩
     ·rcases Vk (one _ rfl) with⟨_,c,e,rfl,rfl,rfl⟩ | ⟨h,_⟩ | ⟨h,_⟩
      ·simp[Op.equalIn,run_underlying hu]
      ·cases h
      ·cases h
     ·rcases Vk (one _ rfl) with⟨h,_⟩ | ⟨_,i,c,e,rfl,rfl,rfl⟩ | ⟨h,_⟩
      ·cases h
      ·simp[Op.equalIn,run_underlying hu]
      ·cases h
     ·rcases Vk (one _ rfl) with⟨h,_⟩ | ⟨h,_⟩ | ⟨_,c,e,rfl,rfl,rfl⟩
      ·cases h
      ·cases h
      ·simp[Op.equalIn,run_underlying hu]
def Mz (P:Program) (t:TypeId):Kd→Bool
 | .one c=>Eh P 8 t==some [c]&&Il P t==some false
 | .row ks=>Eh P 8 t==some ks&&Il P t==some true
theorem RC {R:Rd} {t:TypeId} {kd:Kd} (hk:Mz P t kd=true) {p q:PV} {v u:Value} (hp:Va R p v) (hq:Va R q u) {b:Bool} (h:gk kd p q=some b):(Op.equal t v u).run P w= .ok b w:=by
 show (Op.equalIn (9992+8) t v u).run P w=_
 cases kd with
 |one c=>
  simp only[Mz,Bool.and_eq_true,beq_iff_eq] at hk
  have:=KH 9992 8 t [c] hk.1 w [v] [u] b (by have:=Th hk.1;simpa using this) (by have:=Th hk.1;simpa using this) (by
   simp only[gk] at h
   simp[kh,Js hp hq h])
  simpa[valOf,hk.2] using this
 |row ks=>
  simp only[Mz,Bool.and_eq_true,beq_iff_eq] at hk
  unfold gk at h
  split at h
  ·cases ‹Kd.row ks=_›
  ·rename_i ks' xs ys e
   injection e with e;subst e
   cases hp with
   |agg _ vs h1=>
    cases hq with
    |agg _ us h2=>
     have hr:=Iz h1 h2 h
     have lens:∀ {ks:List Nat} {xs ys:List Value} {b:Bool},kh ks xs ys=some b→xs.length=ks.length∧ys.length=ks.length:=by
      intro ks
      induction ks with
      |nil=>intro xs ys b h;cases xs <;> cases ys <;> simp_all [kh]
      |cons k ks ih=>
       intro xs ys b h
       cases xs <;> cases ys <;> simp only[kh,Option.bind_eq_some_iff,Option.map_eq_some_iff] at h
       ·cases h
       ·cases h
       ·cases h
       ·obtain⟨_,_,_,h2,_⟩:=h
        have:=ih h2
        simp[this.1,this.2]
     have hl:=lens hr
     have hn:=Th hk.1
     have:=KH 9992 8 t ks hk.1 w vs us b (by omega) (by omega) hr
     simpa[valOf,hk.2] using this
  ·cases h
end
end Go.AM
namespace Go.AM
open Go.RowKit
def lY (P:Program) (t:TypeId) (f:TypeDesc→Bool):Bool:=
 match P.underlying t with
 |some d=>f d
 |none=>false
def DX (P:Program) (t:TypeId):Option Nat:=
 match P.underlying t with
 |some .bool=>some 0
 |some (.pointer _)=>some 1
 |some (.slice _)=>some 2
 |some (.func _ _ _)=>some 3
 |_=>none
def OW (P:Program) (t:TypeId):Bool:=
 match P.underlying t with
 |some (.int .u8)=>true
 |_=>false
def AX (P:Program) (t:TypeId):Bool:=
 match P.underlying t with
 |some .string=>true
 |_=>false
def sY (P:Program) (t:TypeId) (k:IntKind):Bool:=
 match P.underlying t with
 |some (.int k')=>decide (k'=k)
 |_=>false
def Ev (P:Program) (t:TypeId):Option TypeId:=
 match P.underlying t with
 |some (.slice e)=>some e
 |_=>none
def RU (P:Program) (el:TypeId) (sz:Nat) (ag:Bool) (zero:List PV):Bool:=
 Od P el==some sz&&decide (0 < sz)&&(ag||sz==1)&&zq P el zero&&zero.length==sz&&Il P el==some ag
def wT (P:Program) (t tx e:TypeId) (sz bytes:Nat):Bool:=
 Ev P t==some e&&(lY P tx fun d=>match d with | .slice e'=>e'==e | .string=>true | _=>false)&&Od P e==some sz&&Xo P e==some bytes&&decide (0 < bytes)&&decide (0 < sz)&&FN P e sz
def ux (fo:Nat→FuncId):List (Nat×Operand)→List (Nat×AO)→Bool
 | [],[]=>true
 | (i,x)::xs,(j,y)::ys=>i==j&&nm fo x y&&ux fo xs ys
 |_,_=>false
def aO (fo:Nat→FuncId):Option Operand→Option AO→Bool
 |none,none=>true
 |some x,some y=>nm fo x y
 |_,_=>false
def DW (P:Program) (t:TypeId) (f:Nat):Option Field:=
 match P.underlying t with
 |some (.struct fs)=>fs[f]?
 |_=>none
def iq (P:Program) (fo:Nat→FuncId) (fs:Array Field):List (Nat×Operand)→List (Nat×Nat×AO)→Bool
 | [],[]=>true
 | (i,x)::xs,(off,sz,y)::ys=>
   (match fs[i]? with | some f=>f.offset==off&&Od P f.type==some sz | none=>false)&&nm fo x y&&iq P fo fs xs ys
 |_,_=>false
def pL (P:Program) (t:TypeId) (kd:Kd):Bool:=
 match P.underlying t with
 |some (.map k _)=>Mz P k kd
 |_=>false
def bV (P:Program) (t:TypeId) (zero:PV):Bool:=
 match P.underlying t with
 |some (.map _ e)=>
  (match P.info? e with
  |some i=>(match i.zero,zero with
   |some (.agg cs),.agg ps=>Hq cs.toList ps
   |some z,p=>dz z p
   |none,_=>false)
  |none=>false)
 |_=>false
def gU (P:Program) (fo:Nat→FuncId):Op→yd→Bool
 | .move x,.move y=>nm fo x y
 | .assign x,.move y=>nm fo x y
 | .pick c a b,.pick c' a' b'=>nm fo c c'&&nm fo a a'&&nm fo b b'
 | .alloc t,.alloc zero=>zq P t zero
 | .box _ x,.box _ y=>nm fo x y
 | .build t parts,.build zero aparts=>
   (match P.underlying t with
   |some (.struct fs)=>iq P fo fs parts.toList aparts&&fs.all fun f=>(Od P f.type).isSome
   |some (.array _ el)=>parts.toList.isEmpty&&aparts.isEmpty&&(Od P el).isSome
   |_=>false)&&zq P t zero
 | .buildSlice t len parts,.Yb _ sz ag len' zero aparts=>
   (match Ev P t with
   |some el=>RU P el sz ag zero
   |none=>false)&&len==len'&&decide (len * sz≤2 ^ 24)&&ux fo parts.toList aparts
 | .load t x,.load ag n y=>Il P t==some ag&&(!ag||Od P t==some n)&&nm fo x y
 | .store t p x,.store n q y=>Od P t==some n&&nm fo p q&&nm fo x y
 | .nilCheck x,.ZC y=>nm fo x y
 | .binOp op _ x y _,.bin op' x' y'=>decide (op=op')&&nm fo x x'&&nm fo y y'
 | .binOp .eql t x y _,.eq k false x' y'=>DX P t==some k&&nm fo x x'&&nm fo y y'
 | .binOp .neq t x y _,.eq k true x' y'=>DX P t==some k&&nm fo x x'&&nm fo y y'
 | .unOp op _ x,.un op' y=>decide (op=op')&&nm fo x y
 | .convert s d x,.conv k y=>(P.underlying s).isSome&&sY P d k&&nm fo x y
 | .convert s d x,.dV y=>(match Ev P s with | some el=>OW P el | none=>false)&&AX P d&&nm fo x y
 | .convert s d x,.cV _ y=>(P.underlying s).isSome&&(match Ev P d with | some el=>OW P el | none=>false)&&nm fo x y
 | .makeFunc (.func f) first caps,.zH ix ys=>first.size==0&&fo ix==f&&sE fo caps.toList ys
 | .makeSlice t l c,.Tg _ sz ag zero bytes l' c'=>
   (match Ev P t with
   |some el=>RU P el sz ag zero&&Xo P el==some bytes
   |none=>false)&&decide (0 < bytes)&&nm fo l l'&&nm fo c c'
 | .slice t x lo hi none,.slice sz y lo' hi'=>
   (match P.underlying t with
   |some (.slice el)=>sz != 0&&Od P el==some sz
   |some .string=>sz==0
   |_=>false)&&nm fo x y&&aO fo lo lo'&&aO fo hi hi'
 | .fieldAddr t x f,.GC off y=>
   (match DW P t f with
   |some fd=>fd.offset==off&&(match Od P fd.type with | some n=>n != 0 | none=>false)
   |none=>false)&&nm fo x y
 | .field t x f,.xX off ag n y=>
   (match DW P t f with
   |some fd=>fd.offset==off&&Il P fd.type==some ag&&(!ag||Od P fd.type==some n)
   |none=>false)&&nm fo x y
 | .indexAddr t x i,.pd sz y j=>(match Ev P t with | some el=>Od P el==some sz | none=>false)&&nm fo x y&&nm fo i j
 | .indexAddr t x i,.Tv n sz y j=>
   (match P.underlying t with
   |some (.array n' el)=>n'==n&&Od P el==some sz
   |_=>false)&&nm fo x y&&nm fo i j
 | .index t x i,.kU n sz ag y j=>
   (match P.underlying t with
   |some (.array n' el)=>n'==n&&Od P el==some sz&&Il P el==some ag
   |_=>false)&&nm fo x y&&nm fo i j
 | .index t x i,.zX y j=>AX P t&&nm fo x y&&nm fo i j
 | .extract x i,.ext i' y=>i==i'&&nm fo x y
 | .call {callee:= .builtin .len,args,argTypes},.len k y=>
   (match args.toList,argTypes.toList with
   | [x],[t]=>nm fo x y&&(match P.underlying t with | some (.slice _)=>k==0 | some .string=>k==1 | _=>false)
   |_,_=>false)
 | .call {callee:= .builtin .max,args,..},.mx ys=>sE fo args.toList ys
 | .call {callee:= .builtin .min,args,..},.mn ys=>sE fo args.toList ys
 | .call {callee:= .builtin .append,args,argTypes},.append _ _ sz ag bytes s y=>
   (match args.toList,argTypes.toList with
   | [x,z],[t,tx]=>nm fo x s&&nm fo z y&&(match Ev P t with | some el=>wT P t tx el sz bytes&&Il P el==some ag | none=>false)
   |_,_=>false)
 | .box _ x,.DM _ y=>nm fo x y
 | .binOp .eql t x y _,.nU (.row ks) false x' y'=>Mz P t (.row ks)&& !P.eqGuardType P.depth t&&nm fo x x'&&nm fo y y'
 | .binOp .neq t x y _,.nU (.row ks) true x' y'=>Mz P t (.row ks)&& !P.eqGuardType P.depth t&&nm fo x x'&&nm fo y y'
 | .makeMap _ none,.qE=>true
 | .lookup t x k ok,.lookup kd zero ok' x' k'=>pL P t kd&&bV P t zero&&ok==ok'&&nm fo x x'&&nm fo k k'
 | .mapUpdate t m k v,.uu kd m' k' v'=>pL P t kd&&nm fo m m'&&nm fo k k'&&nm fo v v'
 | .insert t m k v,.uu kd m' k' v'=>pL P t kd&&nm fo m m'&&nm fo k k'&&nm fo v v'
 | .convert s d x,.TX y=>s==d&&(match Ev P d with | some el=>OW P el | none=>false)&&nm fo x y
 |_,_=>false
def Nz (P:Program) (fo:Nat→FuncId) (B0:lg) (o:Oper) (a:Act) (w:World) (R:Rd) (φ:Pl) (H:List ba) (v:AV) (H':List ba):Prop:=
 ∀ (next:Act→World→Prop) (Q:Exit→Act→World→Prop),
  (∀ v' w' R' φ',uc fo B0 w' R' φ' H'→Oc fo (K R' φ' H') v v'→(∀ a u,K R φ H a u→K R' φ' H' a u)→eh B0 w w'→next (a.put o.dst v') w')→o.wp P a w next Q
section ops
variable {P:Program} {fo:Nat→FuncId} {B0:lg} {w:World} {R:Rd} {φ:Pl} {H H':List ba} {e:Tr} {a:Act}
theorem Nz.gd {o:Oper} {v:AV} {s:Sem Value} (h:execOp a.eval o=(do pure (.value (← s)))) (hr:Ml fo B0 w R φ H P s v H'):Nz P fo B0 o a w R φ H v H':=by
 intro next Q hn
 obtain⟨v',w',R',φ',h1,h2,h3,h4,h5⟩:=hr
 unfold Oper.wp
 rw[h,Sem.run_bind,h1]
 exact hn v' w' R' φ' h2 h3 h4 h5
theorem Nz.Ir {o:Oper} {v:AV} {v':Value} (hS:uc fo B0 w R φ H) (h:(execOp a.eval o).run P w= .ok (.value v') w) (hv:Oc fo (K R φ H) v v'):Nz P fo B0 o a w R φ H v H:=by
 intro next Q hn
 unfold Oper.wp
 rw[h]
 exact hn v' w R φ hS hv (fun _ _ h=>h) (eh.refl _ _)
theorem fG {el:TypeId} {sz:Nat} {ag:Bool} {zero:List PV} (h:RU P el sz ag zero=true):DT P el sz ag zero:=by
 simp only[RU,Bool.and_eq_true,beq_iff_eq,decide_eq_true_eq,Bool.or_eq_true] at h
 obtain⟨⟨⟨⟨⟨h1,h2⟩,h3⟩,h4⟩,h5⟩,h6⟩:=h
 exact⟨h1,h2,fun e=>by rcases h3 with h | h;simp[e] at h;exact h,h4,h5⟩
theorem En {t el:TypeId} (h:Ev P t=some el):P.underlying t=some (.slice el):=by
 unfold Ev at h
 split at h
 ·rename_i e he;injection h with h;subst h;exact he
 ·cases h
theorem BT {t:TypeId} {f:TypeDesc→Bool} (h:lY P t f=true):∃ d,P.underlying t=some d∧f d=true:=by
 unfold lY at h
 split at h
 ·rename_i d hd;exact⟨d,hd,h⟩
 ·cases h
theorem ZM {t tx el:TypeId} {sz bytes:Nat} (h:wT P t tx el sz bytes=true):CN P t tx el sz bytes:=by
 simp only[wT,Bool.and_eq_true,beq_iff_eq,decide_eq_true_eq] at h
 obtain⟨⟨⟨⟨⟨⟨h1,h2⟩,h3⟩,h4⟩,h5⟩,h6⟩,h7⟩:=h
 obtain⟨d,hd,hf⟩:=BT h2
 refine⟨En h1,⟨d,hd,?_⟩,h3,h4,h5,h6,h7⟩
 cases d <;> simp at hf
 ·exact .inr rfl
 ·exact .inl (by rw[hf])
theorem Yk {t:TypeId} {k:Nat} (h:DX P t=some k):(k=0∧P.underlying t=some .bool)∨(k=1∧∃ e,P.underlying t=some (.pointer e))∨(k=2∧∃ e,P.underlying t=some (.slice e))∨(k=3∧∃ p r v,P.underlying t=some (.func p r v)):=by
 unfold DX at h
 split at h <;> first
  |cases h;done
  | (injection h with h;subst h;simp_all)
theorem Oc.mI {K:AV→Value→Prop} {id off:Nat} {v:Value} (h:Oc fo K (.ptr id off) v):K (.ptr id off) v:=by cases h with | atom _ _ h=>exact h
theorem Oc.qz {K:AV→Value→Prop} {id off:Nat} {v:Value} (h:Oc fo K (.own id off) v):K (.own id off) v:=by cases h with | atom _ _ h=>exact h
theorem Oc.Xt {K:AV→Value→Prop} {id sz:Nat} {nl:Bool} {es:List PV} {v:Value} (h:Oc fo K (.uq id nl sz es) v):K (.uq id nl sz es) v:=by cases h with | atom _ _ h=>exact h
theorem nj {t:TypeId} (hu:P.underlying t=some .bool) (d:Nat) (a b:Bool):(Op.equalIn (d+1) t (.bool a) (.bool b)).run P w= .ok (a==b) w:=by
 simp[Op.equalIn,run_underlying hu]
theorem ql {t el:TypeId} (hu:P.underlying t=some (.pointer el)) (d:Nat) (a:Option Addr):(Op.equalIn (d+1) t (.pointer a) (.pointer none)).run P w= .ok a.isNone w:=by
 cases a <;> simp[Op.equalIn,run_underlying hu]
theorem tj {t el:TypeId} (hu:P.underlying t=some (.pointer el)) (d:Nat) (a:Option Addr):(Op.equalIn (d+1) t (.pointer none) (.pointer a)).run P w= .ok a.isNone w:=by
 cases a <;> simp[Op.equalIn,run_underlying hu]
theorem Qh {t el:TypeId} (hu:P.underlying t=some (.slice el)) (d:Nat) (a:Option Addr) (n c m k:Nat):(Op.equalIn (d+1) t (.slice a n c) (.slice none m k)).run P w= .ok a.isNone w:=by
 cases a <;> simp[Op.equalIn,run_underlying hu]
theorem lj {t:TypeId} {p r:Array TypeId} {v:Bool} (hu:P.underlying t=some (.func p r v)) (d:Nat) (f:Fn) (x y:Array Value):(Op.equalIn (d+1) t (.func f x y) .nilFunc).run P w= .ok false w:=by
 simp[Op.equalIn,run_underlying hu]
theorem Wh {t:TypeId} {p r:Array TypeId} {v:Bool} (hu:P.underlying t=some (.func p r v)) (d:Nat):(Op.equalIn (d+1) t .nilFunc .nilFunc).run P w= .ok true w:=by
 simp[Op.equalIn,run_underlying hu]
theorem KS {t:TypeId} {k:Nat} (ht:DX P t=some k) (hS:uc fo B0 w R φ H) {x y:AV} {vx vy:Value} (hx:Oc fo (K R φ H) x vx) (hy:Oc fo (K R φ H) y vy) {b:Bool} (h:Bs H k x y=some b):
 (∀ op:BinOp,op= .eql∨op= .neq→∀ (ox oy:Operand),(do eqGuard op t ox oy vx vy;binOp op t vx vy:Sem Value).run P w= .ok (.bool (if op= .neq then !b else b)) w):=by
 have key:(Op.equal t vx vy).run P w= .ok b w→(∀ (op:BinOp) (ox oy:Operand),(eqGuard op t ox oy vx vy)=pure ())→(∀ op:BinOp,(op= .eql→binOp op t vx vy=(do pure (.bool (← Op.equal t vx vy))))∧(op= .neq→binOp op t vx vy=(do pure (.bool (!(← Op.equal t vx vy))))))→
  (∀ op:BinOp,op= .eql∨op= .neq→∀ (ox oy:Operand),(do eqGuard op t ox oy vx vy;binOp op t vx vy:Sem Value).run P w= .ok (.bool (if op= .neq then !b else b)) w):=by
  intro h1 h2 h3 op hop ox oy
  rcases hop with rfl | rfl
  ·simp[h2,(h3 .eql).1 rfl,h1]
  ·simp[h2,(h3 .neq).2 rfl,h1]
 have one:∀ (x y:Value),(Op.equal t x y).run P w=(Op.equalIn (9999+1) t x y).run P w:=fun _ _=>rfl
 unfold Bs at h
 split at h
 ·
  have h1:=hx.Qb;have h2:=hy.Qb
  cases h1;cases h2
  injection h with h;subst h
  have hu:=Yk ht
  simp at hu
  refine key ?_ (fun op ox oy=>by cases op <;> rfl) (fun op=>⟨fun e=>by subst e;rfl,fun e=>by subst e;rfl⟩)
  rw[one]
  first | exact nj hu 9999 _ _ | exact ql hu 9999 _ | exact tj hu 9999 _ | exact Qh hu 9999 _ _ _ _ _ | exact lj hu 9999 _ _ _ | exact Wh hu 9999
 ·have h1:=hx.Qb;have h2:=hy.Qb
  cases h1;cases h2
  injection h with h;subst h
  have hu:=Yk ht
  simp at hu
  obtain⟨e,hu⟩:=hu
  refine key ?_ (fun op ox oy=>by cases op <;> rfl) (fun op=>⟨fun e=>by subst e;rfl,fun e=>by subst e;rfl⟩)
  rw[one]
  first | exact nj hu 9999 _ _ | exact ql hu 9999 _ | exact tj hu 9999 _ | exact Qh hu 9999 _ _ _ _ _ | exact lj hu 9999 _ _ _ | exact Wh hu 9999
 ·have h1:=hx.Qb;have h2:=hy.Qb
  cases h1;cases h2
  injection h with h;subst h
  have hu:=Yk ht
  simp at hu
  obtain⟨e,hu⟩:=hu
  refine key ?_ (fun op ox oy=>by cases op <;> rfl) (fun op=>⟨fun e=>by subst e;rfl,fun e=>by subst e;rfl⟩)
  rw[one]
  first | exact nj hu 9999 _ _ | exact ql hu 9999 _ | exact tj hu 9999 _ | exact Qh hu 9999 _ _ _ _ _ | exact lj hu 9999 _ _ _ | exact Wh hu 9999
 ·have h1:=hx.Qb;have h2:=hy.Qb
  cases h1;cases h2
  injection h with h;subst h
  have hu:=Yk ht
  simp at hu
  obtain⟨e,hu⟩:=hu
  refine key ?_ (fun op ox oy=>by cases op <;> rfl) (fun op=>⟨fun e=>by subst e;rfl,fun e=>by subst e;rfl⟩)
  rw[one]
  first | exact nj hu 9999 _ _ | exact ql hu 9999 _ | exact tj hu 9999 _ | exact Qh hu 9999 _ _ _ _ _ | exact lj hu 9999 _ _ _ | exact Wh hu 9999
 ·
  split at h
  ·rename_i hc
   have h2:=hy.Qb
   cases h2
   injection h with h;subst h
   have h1:=hx.mI
   rw[h1.2.2 _ hc]
   have hu:=Yk ht
   simp at hu
   obtain⟨e,hu⟩:=hu
   rw[h1.2.2 _ hc] at key
   refine key ?_ (fun op ox oy=>by cases op <;> rfl) (fun op=>⟨fun e=>by subst e;rfl,fun e=>by subst e;rfl⟩)
   rw[one]
   first | exact nj hu 9999 _ _ | exact ql hu 9999 _ | exact tj hu 9999 _ | exact Qh hu 9999 _ _ _ _ _ | exact lj hu 9999 _ _ _ | exact Wh hu 9999
  ·cases h
 ·have h1:=hx.Qb;have h2:=hy.Qb
  cases h1;cases h2
  injection h with h;subst h
  have hu:=Yk ht
  simp at hu
  obtain⟨e,hu⟩:=hu
  refine key ?_ (fun op ox oy=>by cases op <;> rfl) (fun op=>⟨fun e=>by subst e;rfl,fun e=>by subst e;rfl⟩)
  rw[one]
  first | exact nj hu 9999 _ _ | exact ql hu 9999 _ | exact tj hu 9999 _ | exact Qh hu 9999 _ _ _ _ _ | exact lj hu 9999 _ _ _ | exact Wh hu 9999
 ·have h1:=hx.Qb;have h2:=hy.Qb
  cases h2
  obtain⟨a7,n7,c7,rfl⟩:∃ a n c,vx= .slice (some a) n c:=by cases h1 <;> exact⟨_,_,_,rfl⟩
  injection h with h;subst h
  have hu:=Yk ht
  simp at hu
  obtain⟨e,hu⟩:=hu
  refine key ?_ (fun op ox oy=>by cases op <;> rfl) (fun op=>⟨fun e=>by subst e;rfl,fun e=>by subst e;rfl⟩)
  rw[one]
  first | exact nj hu 9999 _ _ | exact ql hu 9999 _ | exact tj hu 9999 _ | exact Qh hu 9999 _ _ _ _ _ | exact lj hu 9999 _ _ _ | exact Wh hu 9999
 ·
  rename_i nl sz es
  have h2:=hy.Qb
  cases h2
  injection h with h;subst h
  have h1:=hx.Xt
  have hu:=Yk ht
  simp at hu
  obtain⟨e,hu⟩:=hu
  cases nl with
  |true=>
   rw[(h1.2.1 rfl).1] at key ⊢
   refine key ?_ (fun op ox oy=>by cases op <;> rfl) (fun op=>⟨fun e=>by subst e;rfl,fun e=>by subst e;rfl⟩)
   rw[one]
   first | exact nj hu 9999 _ _ | exact ql hu 9999 _ | exact tj hu 9999 _ | exact Qh hu 9999 _ _ _ _ _ | exact lj hu 9999 _ _ _ | exact Wh hu 9999
  |false=>
   have h3:=h1.2.2.1 rfl
   obtain⟨a8,n8,c8,rfl⟩:∃ a n c,vx= .slice (some a) n c:=by cases h3 <;> exact⟨_,_,_,rfl⟩
   refine key ?_ (fun op ox oy=>by cases op <;> rfl) (fun op=>⟨fun e=>by subst e;rfl,fun e=>by subst e;rfl⟩)
   rw[one]
   first | exact nj hu 9999 _ _ | exact ql hu 9999 _ | exact tj hu 9999 _ | exact Qh hu 9999 _ _ _ _ _ | exact lj hu 9999 _ _ _ | exact Wh hu 9999
 ·
  split at h
  ·rename_i sz ag c fl nl hc
   split at h
   ·rename_i hcur
    injection h with h;subst h
    have h2:=hy.Qb
    cases h2
    have h1:=hx.qz
    obtain⟨k0,k⟩:=h1.2.2 _ _ _ _ _ hc
    obtain⟨o0,o1,o2,_⟩:=hS.obj _ _ hc
    obtain⟨k1,k2⟩:=k (by omega)
    have hu:=Yk ht
    simp at hu
    obtain⟨e,hu⟩:=hu
    cases nl with
    |true=>
     rw[k1 rfl] at key ⊢
     refine key ?_ (fun op ox oy=>by cases op <;> rfl) (fun op=>⟨fun e=>by subst e;rfl,fun e=>by subst e;rfl⟩)
     rw[one]
     first | exact nj hu 9999 _ _ | exact ql hu 9999 _ | exact tj hu 9999 _ | exact Qh hu 9999 _ _ _ _ _ | exact lj hu 9999 _ _ _ | exact Wh hu 9999
    |false=>
     rcases k2 rfl with⟨q1,q2,_⟩ | ⟨b,o,cap,q1,_,_⟩
     ·subst q1;exact absurd (List.eq_nil_of_length_eq_zero (by omega)) q2
     ·rw[q1] at key ⊢
      refine key ?_ (fun op ox oy=>by cases op <;> rfl) (fun op=>⟨fun e=>by subst e;rfl,fun e=>by subst e;rfl⟩)
      rw[one]
      first | exact nj hu 9999 _ _ | exact ql hu 9999 _ | exact tj hu 9999 _ | exact Qh hu 9999 _ _ _ _ _ | exact lj hu 9999 _ _ _ | exact Wh hu 9999
   ·cases h
  ·cases h
 ·have h2:=hy.Qb
  cases h2
  injection h with h;subst h
  cases hx with
  |atom _ _ h=>exact h.elim
  |gl ix cs vs hc=>
   have hu:=Yk ht
   replace hu:=((hu.resolve_left (by simp)).resolve_left (by simp)).resolve_left (by simp)
   obtain⟨_,p,r,v,hu⟩:=hu
   refine key ?_ (fun op ox oy=>by cases op <;> rfl) (fun op=>⟨fun e=>by subst e;rfl,fun e=>by subst e;rfl⟩)
   rw[one]
   first | exact nj hu 9999 _ _ | exact ql hu 9999 _ | exact tj hu 9999 _ | exact Qh hu 9999 _ _ _ _ _ | exact lj hu 9999 _ _ _ | exact Wh hu 9999
 ·have h1:=hx.Qb;have h2:=hy.Qb
  cases h1;cases h2
  injection h with h;subst h
  have hu:=Yk ht
  replace hu:=((hu.resolve_left (by simp)).resolve_left (by simp)).resolve_left (by simp)
  obtain⟨_,p,r,v,hu⟩:=hu
  refine key ?_ (fun op ox oy=>by cases op <;> rfl) (fun op=>⟨fun e=>by subst e;rfl,fun e=>by subst e;rfl⟩)
  rw[one]
  first | exact nj hu 9999 _ _ | exact ql hu 9999 _ | exact tj hu 9999 _ | exact Qh hu 9999 _ _ _ _ _ | exact lj hu 9999 _ _ _ | exact Wh hu 9999
 ·cases h
end ops
end Go.AM
namespace Go.AM
open Go.RowKit
section
variable {P:Program} {fo:Nat→FuncId} {B0:lg} {w:World} {R:Rd} {φ:Pl} {H H':List ba}
def VW (P:Program) (em:Bool) (dd:Nat) (e:TypeId) (ks:List Nat):Prop:=
 ∀ (w:World) (xs:List Value) (b:Bool),xs.length=P.cellsOf e→kh ks xs xs=some b→(Instr.checkKey em dd e (valOf P e xs)).run P w= .ok () w
theorem cx (em:Bool) (d:Nat):∀ (m:Nat) (t:TypeId) (ks:List Nat),Eh P m t=some ks→VW P em (d+m) t ks
 |0,_,_,h=>by simp[Eh] at h
 |m+1,t,ks,hk=>by
  intro w xs b hx h
  rw[show d+(m+1)=(d+m)+1 from rfl]
  rcases Nw hk with ha | ⟨ha,h1,hc⟩
  ·have vx:valOf P t xs= .agg ⟨xs⟩:=by simp[valOf,ha]
   rw[vx]
   unfold Eh at hk
   split at hk
   ·rename_i hu;simp[Il,hu] at ha
   ·rename_i hu;simp[Il,hu] at ha
   ·rename_i hu;simp[Il,hu] at ha
   ·rename_i fs hu
    split at hk
    ·rename_i e
     rw[Instr.checkKey]
     simp only[Sem.run_bind,run_underlying hu,Result.andThen_ok]
     rw[← Array.forIn_toList]
     have hE:=fun t ks h=>cx em d m t ks h
     have hl:=e.1
     have h':kh ks (xs.drop 0) (xs.drop 0)=some b:=by simpa using h
     clear h e hu vx ha
     generalize P.cellsOf t=n at hl hx
     generalize 0=o at hl h'
     generalize fs.toList=L at hk hl
     induction L generalizing ks o b with
     |nil=>simp
     |cons f L ih=>
      simp only[Vu] at hk
      split at hk
      ·rename_i hn
       simp only[bne_iff_ne,ne_eq] at hn
       simp only[Option.bind_eq_some_iff,Option.map_eq_some_iff] at hk
       obtain⟨k1,e1,k2,e2,rfl⟩:=hk
       simp only[Ez] at hl
       split at hl
       ·rename_i ho
        subst ho
        have hle:=Ou (P:=P) (fun t ks h=>Th (m:=m) h) e2 hl
        have hlen:=Th e1
        have px:=Ws (w:=w) e1 (xs:=xs) (off:=f.offset) (by omega)
        rw[← List.take_append_drop (P.cellsOf f.type) (xs.drop f.offset)] at h'
        obtain⟨c,g,h3,h4,rfl⟩:=Im (by simp;omega) rfl h'
        rw[List.drop_drop] at h4
        have he:=hE _ _ e1 w _ c (by simp;omega) h3
        simp only[List.forIn_cons,Sem.run_bind,hn,ne_eq,not_false_eq_true,if_true,Result.andThen_ok,px,he,Sem.run_pure]
        exact ih _ _ _ h4 e2 hl
       ·cases hl
      ·cases hk
    ·cases hk
   ·rename_i n e hu
    split at hk
    ·rename_i hsz
     simp only[Option.map_eq_some_iff] at hk
     obtain⟨a,h3,rfl⟩:=hk
     rw[Instr.checkKey]
     simp only[Sem.run_bind,run_underlying hu,Result.andThen_ok]
     simp only[Std.Legacy.Range.forIn_eq_forIn_range',Std.Legacy.Range.size,Nat.sub_zero,Nat.add_one_sub_one,Nat.div_one]
     have hE:=cx em d m e a h3
     have hlen:=Th h3
     have hx':xs.length=(0+n) * P.cellsOf e:=by rw[hx,hsz,Nat.zero_add]
     have h':kh (DH n a) (xs.drop (0 * P.cellsOf e)) (xs.drop (0 * P.cellsOf e))=some b:=by simpa using h
     clear hx h hsz hu vx ha
     generalize 0=i at hx' h'
     induction n generalizing i b with
     |zero=>simp
     |succ k ih=>
      have hxl:i * P.cellsOf e+P.cellsOf e≤xs.length:=by
       rw[hx',←Nat.succ_mul];exact Nat.mul_le_mul_right _ (by omega)
      have px:=Ws (w:=w) h3 (xs:=xs) (off:=i * P.cellsOf e) hxl
      rw[DH,←List.take_append_drop (P.cellsOf e) (xs.drop _)] at h'
      obtain⟨c,g,h5,h4,rfl⟩:=Im (by simp;omega) rfl h'
      rw[List.drop_drop,←Nat.succ_mul] at h4
      have hq:=hE w _ c (by simp;omega) h5
      rw[List.range'_succ]
      simp only[List.forIn_cons,Sem.run_bind,xc (zy h3),Result.andThen_ok,px,hq,Sem.run_pure]
      exact ih _ _ (by rw[hx'];congr 1;omega) h4
    ·cases hk
   ·cases hk
  ·rw[h1] at hx
   match xs,hx with
   | [x],_=>
     have vx:valOf P t [x]=x:=by simp[valOf,ha]
     rw[vx]
     have one:∀ k,ks=[k]→Rr k x x=some b:=by
      rintro k rfl
      simpa[kh] using h
     rw[Instr.checkKey]
     rcases hc with⟨hu,rfl⟩ | ⟨⟨kk,hu⟩,rfl⟩ | ⟨hu,rfl⟩
     ·simp[run_underlying hu]
     ·simp[run_underlying hu]
     ·simp[run_underlying hu]
theorem YL:∀ {ks:List Nat} {xs ys:List Value} {b:Bool},kh ks xs ys=some b→xs.length=ks.length∧ys.length=ks.length:=by
 intro ks
 induction ks with
 |nil=>intro xs ys b h;cases xs <;> cases ys <;> simp_all [kh]
 |cons k ks ih=>
  intro xs ys b h
  cases xs <;> cases ys <;> simp only[kh,Option.bind_eq_some_iff,Option.map_eq_some_iff] at h
  ·cases h
  ·cases h
  ·cases h
  ·obtain⟨_,_,_,h2,_⟩:=h
   have:=ih h2
   simp[this.1,this.2]
theorem Sz {t:TypeId} {kd:Kd} (hk:Mz P t kd=true) {p:PV} {v:Value} (hp:Va R p v) {b:Bool} (h:gk kd p p=some b) (em:Bool):(Instr.checkKey em 10000 t v).run P w= .ok () w:=by
 show (Instr.checkKey em (9992+8) t v).run P w=_
 cases kd with
 |one c=>
  simp only[Mz,Bool.and_eq_true,beq_iff_eq] at hk
  have:=cx em 9992 8 t [c] hk.1 w [v] b (by have:=Th hk.1;simpa using this) (by
   simp only[gk] at h
   simp[kh,Js hp hp h])
  simpa[valOf,hk.2] using this
 |row ks=>
  simp only[Mz,Bool.and_eq_true,beq_iff_eq] at hk
  have hs:∃ xs,p= .agg xs:=by cases p <;> simp[gk] at h;exact⟨_,rfl⟩
  obtain⟨xs,rfl⟩:=hs
  simp only[gk] at h
  cases hp with
  |agg _ vs h1=>
   have hr:=Iz h1 h1 h
   have hl:=YL hr
   have hn:=Th hk.1
   have:=cx em 9992 8 t ks hk.1 w vs b (by omega) hr
   simpa[valOf,hk.2] using this
theorem QB {k:Nat} {x y:Value} (h:Rr k x y=some true):x=y:=by
 rcases Vk h with⟨_,c,d,rfl,rfl,e⟩ | ⟨_,i,c,d,rfl,rfl,e⟩ | ⟨_,c,d,rfl,rfl,e⟩
 ·have:=eq_of_beq e.symm;rw[this]
 ·have:=eq_of_beq e.symm;rw[this]
 ·have:c=d:=by
   have e:=e.symm
   obtain⟨⟨c⟩⟩:=c;obtain⟨⟨d⟩⟩:=d
   have h2:((⟨c⟩:Array UInt8)==⟨d⟩)=true:=e
   have:=eq_of_beq h2
   simp at this
   rw[this]
  rw[this]
theorem QD:∀ {ks:List Nat} {xs ys:List Value},kh ks xs ys=some true→xs=ys
 | [],[],[],_=>rfl
 |k::ks,x::xs,y::ys,h=>by
  simp only[kh,Option.bind_eq_some_iff,Option.map_eq_some_iff] at h
  obtain⟨b,h1,c,h2,h3⟩:=h
  simp only[Bool.and_eq_true] at h3
  obtain⟨rfl,rfl⟩:=h3
  rw[QB h1,QD h2]
 | [],[],_::_,h=>by simp[kh] at h
 | [],_::_,_,h=>by simp[kh] at h
 |_::_,[],_,h=>by simp[kh] at h
 |_::_,_::_,[],h=>by simp[kh] at h
theorem YP {kd:Kd} {p q:PV} {v u:Value} (hp:Va R p v) (hq:Va R q u) (h:gk kd p q=some true):v=u∧∀ n,Instr.sameBits (n+2) u u=true:=by
 have atom:∀ {c:Nat} {x y:Value} {b:Bool},Rr c x y=some b→∀ n,Instr.sameBits n x x=true:=by
  intro c x y b hc n
  rcases Vk hc with⟨_,c,d,rfl,rfl,_⟩ | ⟨_,i,c,d,rfl,rfl,_⟩ | ⟨_,c,d,rfl,rfl,_⟩
  ·cases n <;> simp[Instr.sameBits]
  ·cases n <;> simp[Instr.sameBits]
  ·cases n <;> (simp only[Instr.sameBits];obtain⟨⟨c⟩⟩:=c;show ((⟨c⟩:Array UInt8)==⟨c⟩)=true;simp)
 unfold gk at h
 split at h
 ·have h1:=Js hp hq h
  have e:=QB h1
  subst e
  exact⟨rfl,fun n=>atom h1 _⟩
 ·cases hp with
  |agg _ vs h1=>
   cases hq with
   |agg _ us h2=>
    have hr:=Iz h1 h2 h
    have e:=QD hr
    subst e
    refine⟨rfl,fun n=> ?_⟩
    simp only[Instr.sameBits,beq_self_eq_true,Bool.true_and]
    clear h1 h2 h
    rw[List.all_eq_true]
    rintro⟨x,y⟩ hm
    rename_i ks _ _
    induction ks generalizing vs with
    |nil=>cases vs with
     |nil=>simp at hm
     |cons=>simp[kh] at hr
    |cons k ks ih=>
     cases vs with
     |nil=>simp at hm
     |cons z zs=>
      simp only[kh,Option.bind_eq_some_iff,Option.map_eq_some_iff] at hr
      obtain⟨b,q1,c,q2,q3⟩:=hr
      simp only[Bool.and_eq_true] at q3
      obtain⟨rfl,rfl⟩:=q3
      simp only[List.zip_cons_cons,List.mem_cons,Prod.mk.injEq] at hm
      rcases hm with⟨rfl,rfl⟩ | hm
      ·exact atom q1 _
      ·exact ih zs q2 hm
 ·cases h
def qQ (R:Rd) (kd:Kd) (k:PV) (es:List (PV×PV)) (ents:List MapEntry) (i:Nat):Option (Nat×PV)→Option (Nat×Value)→Prop
 |none,none=>True
 |some (a,p),some (b,u)=>a=b∧∃ j e x,a=i+j∧es[j]? =some e∧ents[j]? =some x∧e.2=p∧x.val=u∧Va R p u∧Va R e.1 x.key∧gk kd k e.1=some true
 |_,_=>False
theorem qQ.succ {kd:Kd} {k:PV} {es:List (PV×PV)} {ents:List MapEntry} {i:Nat} {e:PV×PV} {x:MapEntry} {r:Option (Nat×PV)} {r':Option (Nat×Value)} (h:qQ R kd k es ents (i+1) r r'):qQ R kd k (e::es) (x::ents) i r r':=by
 cases r with
 |none=>cases r' with
  |none=>trivial
  |some=>exact h.elim
 |some r=>cases r' with
  |none=>exact h.elim
  |some r'=>
   obtain⟨h1,j,e',x',h2,h3⟩:=h
   exact⟨h1,j+1,e',x',by omega,h3⟩
theorem Ox {t:TypeId} {kd:Kd} (hk:Mz P t kd=true) {k:PV} {v:Value} (hv:Va R k v):∀ {es:List (PV×PV)} {ents:List MapEntry} {i:Nat} {r:Option (Nat×PV)},Cw R es ents→tm kd k es i=some r→
 ∃ r',(Instr.findAsking t v ents i).run P w= .ok r' w∧qQ R kd k es ents i r r'
 | [],[],i,r,_,h=>by
   simp only[tm,Option.some.injEq] at h;subst h
   exact⟨none,by simp[Instr.findAsking],trivial⟩
 |e::es,x::ents,i,r,⟨m1,m2,m3⟩,h=>by
  simp only[tm,Option.bind_eq_some_iff] at h
  obtain⟨b,h1,h2⟩:=h
  have hr:=RC (w:=w) hk hv m1 h1
  cases b with
  |true=>
   simp only[if_true,Option.some.injEq] at h2;subst h2
   exact⟨some (i,x.val),by simp[Instr.findAsking,hr],rfl,0,e,x,rfl,rfl,rfl,rfl,rfl,m2,m1,h1⟩
  |false=>
   simp only[Bool.false_eq_true,if_false] at h2
   obtain⟨r',h3,h4⟩:=Ox hk hv m3 h2
   exact⟨r',by simp[Instr.findAsking,hr,h3],h4.succ⟩
 | [],_::_,_,_,h,_=>h.elim
 |_::_,[],_,_,h,_=>h.elim
theorem WM {d:TypeDesc} {c:Nat} {x y:Value} {b:Bool} (hd:(d= .bool∧c=0)∨((∃ k,d= .int k)∧c=1)∨(d= .string∧c=2)) (h:Rr c x y=some b):Instr.sameNow d x y=some b:=by
 rcases hd with⟨rfl,rfl⟩ | ⟨⟨k,rfl⟩,rfl⟩ | ⟨rfl,rfl⟩
 ·rcases Vk h with⟨_,c,d,rfl,rfl,rfl⟩ | ⟨h,_⟩ | ⟨h,_⟩
  ·rfl
  ·cases h
  ·cases h
 ·rcases Vk h with⟨h,_⟩ | ⟨_,i,c,d,rfl,rfl,rfl⟩ | ⟨h,_⟩
  ·cases h
  ·simp[Instr.sameNow]
  ·cases h
 ·rcases Vk h with⟨h,_⟩ | ⟨h,_⟩ | ⟨_,c,d,rfl,rfl,rfl⟩
  ·cases h
  ·cases h
  ·rfl
theorem JC {d:TypeDesc} {c:Nat} (hd:(d= .bool∧c=0)∨((∃ k,d= .int k)∧c=1)∨(d= .string∧c=2)) {k:PV} {v:Value} (hv:Va R k v):∀ {es:List (PV×PV)} {ents:List MapEntry} {i:Nat} {r:Option (Nat×PV)},Cw R es ents→tm (.one c) k es i=some r→
 ∃ r',Instr.findNow d v ents i=some r'∧qQ R (.one c) k es ents i r r'
 | [],[],i,r,_,h=>by
   simp only[tm,Option.some.injEq] at h;subst h
   exact⟨none,rfl,trivial⟩
 |e::es,x::ents,i,r,⟨m1,m2,m3⟩,h=>by
  simp only[tm,Option.bind_eq_some_iff] at h
  obtain⟨b,h1,h2⟩:=h
  have hr:=WM hd (Js hv m1 h1)
  cases b with
  |true=>
   simp only[if_true,Option.some.injEq] at h2;subst h2
   exact⟨some (i,x.val),by simp[Instr.findNow,hr],rfl,0,e,x,rfl,rfl,rfl,rfl,rfl,m2,m1,h1⟩
  |false=>
   simp only[Bool.false_eq_true,if_false] at h2
   obtain⟨r',h3,h4⟩:=JC hd hv m3 h2
   exact⟨r',by simp[Instr.findNow,hr,h3],h4.succ⟩
 | [],_::_,_,_,h,_=>h.elim
 |_::_,[],_,_,h,_=>h.elim
theorem PD {t:TypeId} {kd:Kd} (hk:Mz P t kd=true) {k:PV} {v:Value} (hv:Va R k v) {es:List (PV×PV)} {ents:List MapEntry} {r:Option (Nat×PV)} (hm:Cw R es ents) (h:tm kd k es 0=some r):
 ∃ r',(Instr.findKey t v ents).run P w= .ok r' w∧qQ R kd k es ents 0 r r':=by
 cases kd with
 |one c=>
  have hk2:=hk
  simp only[Mz,Bool.and_eq_true,beq_iff_eq] at hk2
  have hd:∃ d,P.underlying t=some d∧((d= .bool∧c=0)∨((∃ k,d= .int k)∧c=1)∨(d= .string∧c=2)):=by
   rcases Nw hk2.1 with ha | ⟨_,_,hc⟩
   ·rw[hk2.2] at ha;cases ha
   ·rcases hc with⟨hu,e⟩ | ⟨⟨kk,hu⟩,e⟩ | ⟨hu,e⟩
    ·exact⟨_,hu,.inl ⟨rfl,by simpa using e⟩⟩
    ·exact⟨_,hu,.inr (.inl ⟨⟨kk,rfl⟩,by simpa using e⟩)⟩
    ·exact⟨_,hu,.inr (.inr ⟨rfl,by simpa using e⟩)⟩
  obtain⟨d,hu,hd⟩:=hd
  obtain⟨r',h1,h2⟩:=JC hd hv hm h
  exact⟨r',by simp[Instr.findKey,run_underlying hu,h1],h2⟩
 |row ks=>
  have hk2:=hk
  simp only[Mz,Bool.and_eq_true,beq_iff_eq] at hk2
  obtain⟨r',h1,h2⟩:=Ox (w:=w) hk hv hm h
  have hu:∃ d,P.underlying t=some d∧∀ x y,Instr.sameNow d x y=none:=by
   have ha:=hk2.2
   unfold Il at ha
   split at ha
   ·rename_i fs hu;exact⟨_,hu,fun x y=>by cases x <;> rfl⟩
   ·rename_i n e hu;exact⟨_,hu,fun x y=>by cases x <;> rfl⟩
   ·cases ha
   ·cases ha
  obtain⟨d,hu,hs⟩:=hu
  cases ents with
  |nil=>
   refine⟨r',?_,h2⟩
   simp only[Instr.findAsking,Sem.run_pure] at h1
   simp only[Instr.findKey,Sem.run_bind,run_underlying hu,Result.andThen_ok,Instr.findNow,Sem.run_pure]
   exact h1
  |cons x xs=>exact⟨r',by simp[Instr.findKey,run_underlying hu,Instr.findNow,hs,h1],h2⟩
theorem K.map_set {id:Nat} {c c':List (PV×PV)} (hc:H[id]? =some (.map c)) (a:AV) (v:Value) (h:K R φ H a v):K R (Bm φ id (φ id)) (H.set id (.map c')) a v:=by
 have hφ:Bm φ id (φ id)=φ:=by
  funext i
  unfold Bm
  split
  ·rename_i e;rw[e]
  ·rfl
 rw[hφ]
 have hid:=getElem?_lt hc
 have xo:∀ {i:Nat} {x:ba},(H.set id (.map c'))[i]? =some x→(i≠id∧H[i]? =some x)∨(i=id∧x= .map c'):=by
  intro i x hx
  by_cases h:i=id
  ·subst h;rw[List.getElem?_set_self hid] at hx;injection hx with hx;exact .inr ⟨rfl,hx.symm⟩
  ·rw[List.getElem?_set_ne (Ne.symm h)] at hx;exact .inl ⟨h,hx⟩
 cases a with
 |pv p=>exact h
 |ptr i off=>
  refine⟨by simpa using h.1,h.2.1,fun c1 h1=> ?_⟩
  rcases xo h1 with⟨_,h2⟩ | ⟨rfl,h2⟩
  ·exact h.2.2 _ h2
  ·cases h2
 |Gc i n off=>
  refine⟨by simpa using h.1,h.2.1,fun sz ag c1 fl nl h1=> ?_⟩
  rcases xo h1 with⟨_,h2⟩ | ⟨rfl,h2⟩
  ·exact h.2.2 _ _ _ _ _ h2
  ·cases h2
 |uq i nl sz es=>
  refine⟨by simpa using h.1,h.2.1,h.2.2.1,fun sz' n nl' h1=> ?_⟩
  rcases xo h1 with⟨_,h2⟩ | ⟨rfl,h2⟩
  ·exact h.2.2.2 _ _ _ h2
  ·cases h2
 |own i len=>
  refine⟨by simpa using h.1,h.2.1,fun sz ag c1 fl nl h1=> ?_⟩
  rcases xo h1 with⟨_,h2⟩ | ⟨rfl,h2⟩
  ·exact h.2.2 _ _ _ _ _ h2
  ·cases h2
 |mp i=>
  refine⟨by simpa using h.1,h.2.1,fun es h1=> ?_⟩
  rcases xo h1 with⟨_,h2⟩ | ⟨rfl,_⟩
  ·exact h.2.2 _ h2
  ·exact h.2.2 _ hc
 |gl ix cs=>exact h.elim
 |agg cs=>exact h.elim
 |Zb cs=>exact h.elim
 |undef=>exact h.elim
theorem zG {t:TypeId} {kd:Kd} (h:pL P t kd=true):∃ k e,P.underlying t=some (.map k e)∧Mz P k kd=true:=by
 unfold pL at h
 split at h
 ·rename_i k e hu;exact⟨k,e,hu,h⟩
 ·cases h
theorem PO {t k e:TypeId} {zero:PV} (hu:P.underlying t=some (.map k e)) (h:bV P t zero=true):∃ z,(∀ w,(zeroValue e).run P w= .ok z w)∧∀ R,Va R zero z:=by
 unfold bV at h
 simp only[hu] at h
 cases hi:P.info? e with
 |none=>simp[hi] at h
 |some i=>
  simp only[hi] at h
  cases hz:i.zero with
  |none=>simp[hz] at h
  |some z=>
   simp only[hz] at h
   refine⟨z,fun w=>by simp[zeroValue,run_typeInfo w hi,hz],fun R=> ?_⟩
   split at h
   ·rename_i cs ps e1
    injection e1 with e1
    subst e1
    exact .agg _ _ (Cl (R:=R) h).1
   ·rename_i z' p e1 e2
    injection e1 with e1
    subst e1
    exact yw h
   ·cases h
theorem HQ (hS:uc fo B0 w R φ H) (t:TypeId):Ml fo B0 w R φ H P (Instr.makeMap t none) (.mp H.length) (H++[.map []]):=by
 have hk:=fun a v=>K.push (R:=R) (φ:=φ) (H:=H) (.map []) (w.heap.size,0) a v
 refine⟨.map (some w.heap.size),{w with heap:=w.heap.push (.map #[] 0)},R,AM.Bm φ H.length (w.heap.size,0),?_,?_,?_,hk,Ey hS.low hS.slt _⟩
 ·simp[Instr.makeMap,run_newObj]
 ·refine hS.push (by simp) (fun b hb=>Ph hb) (fun _ _ _=>rfl) (fun b o v h=> ?_) hk (fun _=>Nat.le_refl _) ?_
  ·have:=hS.sub b o v h
   rw[iG (Bl this)];exact this
  ·refine⟨by rw[Cb];exact hS.low,by rw[Cb];exact hS.mz (Nat.le_refl _),#[],0,?_,trivial⟩
   rw[Cb];simp
 ·exact .atom _ _ ⟨by simp,rfl,fun c _=>by rw[Cb]⟩
theorem Oc.TS {K:AV→Value→Prop} {id:Nat} {v:Value} (h:Oc fo K (.mp id) v):K (.mp id) v:=by cases h with | atom _ _ h=>exact h
def vW (zero:PV) (ok:Bool):Option (Nat×PV)→AV
 |some (_,x)=>(if ok then .pv (.Zb [x,.bool true]) else .pv x)
 |none=>(if ok then .pv (.Zb [zero,.bool false]) else .pv zero)
theorem YE (hS:uc fo B0 w R φ H) {t:TypeId} {kd:Kd} {zero:PV} (h1:pL P t kd=true) (h2:bV P t zero=true) {m:AV} {k:PV} {vm vk:Value} (hm:Oc fo (K R φ H) m vm) (hk:Va R k vk) (ok:Bool) {es:List (PV×PV)}
 (hes:m= .pv .Iw∧es=[]∨∃ id,m= .mp id∧H[id]? =some (.map es)) (hkk:(gk kd k k).isSome=true) {r:Option (Nat×PV)} (hf:tm kd k es 0=some r):
 ∃ u,(Instr.lookup t vm vk ok).run P w= .ok u w∧Oc fo (K R φ H) (vW zero ok r) u:=by
 obtain⟨kt,e,hu,hkd⟩:=zG h1
 obtain⟨z,hz,hzr⟩:=PO hu h2
 obtain⟨b,hb⟩:=Option.isSome_iff_exists.1 hkk
 have go:∀ (ents:Array MapEntry),Cw R es ents.toList→∃ u,(do
  Instr.checkKey ents.isEmpty 10000 kt vk
  let (v,okk) ←match ←Instr.findKey kt vk ents.toList with
   |some (_,v)=>pure (v,true)
   |none=>pure (← zeroValue e,false)
  pure (if ok then .tuple #[v,.bool okk] else v):Sem Value).run P w= .ok u w∧Oc fo (K R φ H) (vW zero ok r) u:=by
  intro ents hE
  have hc:=Sz (w:=w) hkd hk hb ents.isEmpty
  obtain⟨r',h3,h4⟩:=PD (w:=w) hkd hk hE hf
  cases r with
  |none=>
   cases r' with
   |some=>exact h4.elim
   |none=>
    cases ok with
    |true=>exact⟨.tuple #[z,.bool false],by simp[hc,h3,hz w],.atom _ _ (show Va R _ _ from .Zb _ _ (.cons _ _ _ _ (hzr R) (.cons _ _ _ _ (.bool _) .nil)))⟩
    |false=>exact⟨z,by simp[hc,h3,hz w],.atom _ _ (show Va R _ _ from hzr R)⟩
  |some r=>
   cases r' with
   |none=>exact h4.elim
   |some r'=>
    obtain⟨a,p⟩:=r;obtain⟨b,u⟩:=r'
    obtain⟨_,j,e',x',_,_,_,_,_,hpu,_⟩:=h4
    cases ok with
    |true=>exact⟨.tuple #[u,.bool true],by simp[hc,h3],.atom _ _ (show Va R _ _ from .Zb _ _ (.cons _ _ _ _ hpu (.cons _ _ _ _ (.bool _) .nil)))⟩
    |false=>exact⟨u,by simp[hc,h3],.atom _ _ (show Va R _ _ from hpu)⟩
 rcases hes with⟨rfl,rfl⟩ | ⟨id,rfl,hid⟩
 ·have:=hm.Qb
  cases this
  obtain⟨u,h5,h6⟩:=go #[] trivial
  refine⟨u,?_,h6⟩
  rw[← h5]
  simp only[Instr.lookup,Sem.run_bind,run_underlying hu,Result.andThen_ok,Sem.run_pure]
  rfl
 ·have hk2:=hm.TS
  rw[hk2.2.2 _ hid]
  obtain⟨_,_,ents,clk,h7,h8⟩:=hS.obj _ _ hid
  obtain⟨u,h5,h6⟩:=go ents h8
  refine⟨u,?_,h6⟩
  rw[← h5]
  have hg:(getObj (φ id).1).run P w= .ok (.map ents clk) w:=by simp[getObj,Sem.run,h7]
  simp only[Instr.lookup,Sem.run_bind,run_underlying hu,Result.andThen_ok,hg,Sem.run_pure]
  rfl
theorem Cw.push {es:List (PV×PV)} {xs:List MapEntry} {e:PV×PV} {x:MapEntry} (h:Cw R es xs) (h1:Va R e.1 x.key) (h2:Va R e.2 x.val):Cw R (es++[e]) (xs++[x]):=by
 induction es generalizing xs with
 |nil=>cases xs with
  |nil=>exact⟨h1,h2,trivial⟩
  |cons=>exact h.elim
 |cons a as ih=>cases xs with
  |nil=>exact h.elim
  |cons y ys=>exact⟨h.1,h.2.1,ih h.2.2⟩
theorem Cw.set {es:List (PV×PV)} {xs:List MapEntry} {e:PV×PV} {x:MapEntry} (h:Cw R es xs) (h1:Va R e.1 x.key) (h2:Va R e.2 x.val):∀ i,Cw R (es.set i e) (xs.set i x):=by
 induction es generalizing xs with
 |nil=>intro i;cases xs with
  |nil=>trivial
  |cons=>exact h.elim
 |cons a as ih=>intro i;cases xs with
  |nil=>exact h.elim
  |cons y ys=>cases i with
   |zero=>exact⟨h1,h2,h.2.2⟩
   |succ i=>exact⟨h.1,h.2.1,ih h.2.2 i⟩
def bN (w:World) (b:Nat) (ents:Array MapEntry) (clk:Nat):World:={w with heap:=w.heap.setIfInBounds b (.map ents clk)}
theorem YD (hS:uc fo B0 w R φ H) {t:TypeId} {kd:Kd} (h1:pL P t kd=true) {id:Nat} {k x:PV} {vm vk vx:Value} (hm:Oc fo (K R φ H) (.mp id) vm) (hk:Va R k vk) (hx:Va R x vx) {es:List (PV×PV)}
 (hid:H[id]? =some (.map es)) (hkk:(gk kd k k).isSome=true) {r:Option (Nat×PV)} (hf:tm kd k es 0=some r):
 ∃ w' φ',(Instr.mapUpdate t vm vk vx).run P w= .ok () w'∧uc fo B0 w' R φ' (H.set id (.map (match r with | some (i,_)=>es.set i (k,x) | none=>es++[(k,x)])))∧
  (∀ a u,K R φ H a u→K R φ' (H.set id (.map (match r with | some (i,_)=>es.set i (k,x) | none=>es++[(k,x)]))) a u)∧eh B0 w w':=by
 obtain⟨kt,e,hu,hkd⟩:=zG h1
 obtain⟨b,hb⟩:=Option.isSome_iff_exists.1 hkk
 have hk2:=hm.TS
 rw[hk2.2.2 _ hid]
 obtain⟨o1,o2,ents,clk,h7,h8⟩:=hS.obj _ _ hid
 have hc:=Sz (w:=w) hkd hk hb false
 obtain⟨r',h3,h4⟩:=PD (w:=w) hkd hk h8 hf
 have hlt:(φ id).1 < w.heap.size:=by
  rcases Nat.lt_or_ge (φ id).1 w.heap.size with hlt | hge
  ·exact hlt
  ·rw[Array.getElem?_eq_none hge] at h7;cases h7
 have hg:(getObj (φ id).1).run P w= .ok (.map ents clk) w:=by simp[getObj,Sem.run,h7]
 have hset:∀ o,(setObj (φ id).1 o).run P w= .ok () {w with heap:=w.heap.setIfInBounds (φ id).1 o}:=fun o=>by simp[setObj,Sem.run,h7]
 have heap:∀ {ents':Array MapEntry} {clk' j:Nat},j≠(φ id).1→(bN w (φ id).1 ents' clk').heap[j]? =w.heap[j]? :=by
  intro ents' clk' j hj
  simp only[bN]
  rw[Array.getElem?_setIfInBounds_ne (Ne.symm hj)]
 have fin:∀ (ents':Array MapEntry) (clk':Nat) (es':List (PV×PV)),Cw R es' ents'.toList→(Instr.mapUpdate t (.map (some (φ id).1)) vk vx).run P w= .ok () (bN w (φ id).1 ents' clk')→
  ∃ w' φ',(Instr.mapUpdate t (.map (some (φ id).1)) vk vx).run P w= .ok () w'∧uc fo B0 w' R φ' (H.set id (.map es'))∧(∀ a u,K R φ H a u→K R φ' (H.set id (.map es')) a u)∧eh B0 w w':=by
  intro ents' clk' es' hM hrun
  have hkk:=fun a v=>K.map_set (R:=R) (φ:=φ) (c':=es') hid a v
  refine⟨_,Bm φ id (φ id),hrun,?_,hkk,.PH h7 rfl rfl rfl rfl (by simp[bN]) o1 hS.slt (hS.free id ⟨_,hid,trivial⟩) fun k _ hne=>heap hne⟩
  refine hS.Bm (w':=bN w (φ id).1 ents' clk') hid (by simp[bN]) (fun b hb hne=>heap (hne trivial)) (fun _ _ _ _=>rfl) (fun b o v hv=> ?_) hkk (fun _=> .inl ⟨trivial,rfl⟩) ?_
  ·rw[rf (heap (fun e=>by subst e;rw[o2] at hv;cases hv))];exact hS.sub b o v hv
  ·refine⟨by rw[Cb];exact o1,by rw[Cb];exact o2,ents',clk',?_,hM⟩
   rw[Cb]
   simp[bN,hlt]
 cases r with
 |none=>
  cases r' with
  |some=>exact h4.elim
  |none=>
   refine fin (ents.push {key:=vk,val:=vx,born:=clk}) (clk+1) (es++[(k,x)]) ?_ ?_
   ·simpa using h8.push (e:=(k,x)) (x:={key:=vk,val:=vx,born:=clk}) hk hx
   ·simp only[Instr.mapUpdate,Sem.run_bind,run_underlying hu,Result.andThen_ok,hg,hc,h3]
    rw[hset]
    rfl
 |some r=>
  cases r' with
  |none=>exact h4.elim
  |some r'=>
   obtain⟨a,p⟩:=r;obtain⟨i,u⟩:=r'
   obtain⟨rfl,j,e',x',hj,he',hx',_,_,_,hke,heq⟩:=h4
   have hj':a=j:=by omega
   subst hj'
   obtain⟨hveq,hsb⟩:=YP hk hke heq
   have hge:ents[a]? =some x':=by simpa using hx'
   refine fin (ents.modify a fun e=>{e with key:=vk,val:=vx}) clk (es.set a (k,x)) ?_ ?_
   ·have hmod:(ents.modify a fun e=>{e with key:=vk,val:=vx}).toList=ents.toList.set a {x' with key:=vk,val:=vx}:=by
     apply List.ext_getElem?
     intro q
     rw[Array.getElem?_toList,Array.getElem?_modify,List.getElem?_set]
     by_cases hq:a=q
     ·subst hq
      have hlt2:a < ents.size:=by simpa using getElem?_lt hx'
      have hga:ents[a]=x':=by rw[Array.getElem?_eq_getElem hlt2] at hge;injection hge
      simp[hge,hlt2,hga]
     ·simp[hq]
    rw[hmod]
    exact h8.set (e:=(k,x)) (x:={x' with key:=vk,val:=vx}) hk hx a
   ·have hks:(Instr.keyThatStays x'.key vk).run P w= .ok vk w:=by
     have:=hsb 9998
     rw[← hveq] at this ⊢
     simp only[Instr.keyThatStays]
     rw[if_pos this]
     simp
    simp only[Instr.mapUpdate,Sem.run_bind,run_underlying hu,Result.andThen_ok,hg,hc,h3,hge,Option.map_some,Option.getD_some,hks]
    rw[hset]
    rfl
theorem pz {t:TypeId} (hg:P.eqGuardType P.depth t=false) (op:BinOp) (ox oy:Operand) {p q:PV} {v u:Value} {kd:Kd} (hp:Va R p v) (hq:Va R q u) {b:Bool} (h:gk kd p q=some b):(eqGuard op t ox oy v u).run P w= .ok () w:=by
 have vS:∀ xs ys,(eqGuard op t ox oy (.agg xs) (.agg ys)).run P w= .ok () w:=by
  intro xs ys
  cases op <;> simp[eqGuard,hg,Go.program,Sem.run]
 unfold gk at h
 split at h
 ·rcases UD h with⟨_,c,d,rfl,rfl,_⟩ | ⟨_,i,c,d,rfl,rfl,_⟩ | ⟨_,c,d,rfl,rfl,_⟩ <;> cases hp <;> cases hq <;> cases op <;> rfl
 ·cases hp;cases hq;exact vS _ _
 ·cases h
theorem K.kill {id:Nat} {o:ba} (hid:H[id]? =some o) (a:AV) (v:Value) (hk:K R φ H a v):K R (Bm φ id (φ id)) (H.set id .dead) a v:=by
 have hl:(H.set id .dead).length=H.length:=by simp
 have inv:∀ {i:Nat} {x:ba},(H.set id .dead)[i]? =some x→x≠ .dead→i≠id∧H[i]? =some x:=by
  intro i x hx hd
  by_cases e:i=id
  ·subst e;rw[List.getElem?_set_self (getElem?_lt hid)] at hx;injection hx with hx;exact absurd hx.symm hd
  ·rw[List.getElem?_set_ne (Ne.symm e)] at hx;exact⟨e,hx⟩
 cases a with
 |pv p=>exact hk
 |ptr i off=>exact⟨by rw[hl];exact hk.1,hk.2.1,fun c hc=>by obtain⟨q1,q2⟩:=inv hc (by simp);rw[mf _ _ q1];exact hk.2.2 c q2⟩
 |Gc i n off=>exact⟨by rw[hl];exact hk.1,hk.2.1,fun sz ag c fl nl hc=>by obtain⟨q1,q2⟩:=inv hc (by simp);rw[mf _ _ q1];exact hk.2.2 _ _ _ _ _ q2⟩
 |uq i nl sz es=>exact⟨by rw[hl];exact hk.1,hk.2.1,hk.2.2.1,fun sz n nl hc=>by obtain⟨q1,q2⟩:=inv hc (by simp);rw[mf _ _ q1];exact hk.2.2.2 _ _ _ q2⟩
 |own i n=>exact⟨by rw[hl];exact hk.1,hk.2.1,fun sz ag c fl nl hc=>by obtain⟨q1,q2⟩:=inv hc (by simp);rw[mf _ _ q1];exact hk.2.2 _ _ _ _ _ q2⟩
 |mp i=>exact⟨by rw[hl];exact hk.1,hk.2.1,fun es hc=>by obtain⟨q1,q2⟩:=inv hc (by simp);rw[mf _ _ q1];exact hk.2.2 _ q2⟩
 |gl=>exact hk.elim
 |agg=>exact hk.elim
 |Zb=>exact hk.elim
 |undef=>exact hk.elim
theorem nR {o:Oper} {a:Act} {s:TypeId} {x:Operand} (ho:o.op= .convert s s x) (hS:uc fo B0 w R φ H) {id n:Nat} {es:List PV} (hr:Oc fo (K R φ H) (.uq id false 1 es) (a.eval x)) (hid:H[id]? =some (.tok 1 n false)) (hn:n=es.length)
 (hsl:(match Ev P s with | some el=>OW P el | none=>false)=true):Nz P fo B0 o a w R φ H (.pv (.lit 1 es)) (H.set id .dead):=by
 cases hel:Ev P s with
 |none=>simp[hel] at hsl
 |some el=>
  simp only[hel] at hsl
  have hu:=En hel
  have he:P.underlying el=some (.int .u8):=by
   unfold OW at hsl
   split at hsl
   ·assumption
   ·cases hsl
  have hk:=hr.Xt
  obtain⟨_,hk4⟩:=hk.2.2.2 _ _ _ hid
  obtain⟨_,_,hv⟩:=hk4 hn
  have hv:=hv rfl
  have hp:=hk.2.2.1 rfl
  obtain⟨h0,_,h3⟩:=hS.obj _ _ hid
  obtain⟨o1,o2,arr,⟨ty,fz,hb,hf⟩,o4,o5⟩:=h3 rfl
  have hlt:(φ id).1 < w.heap.size:=yx.lt ⟨ty,fz,hb,hf⟩
  have hmark:(convert s s (a.eval x)).run P w= .ok (a.eval x) (w.freeze ⟨(φ id).1,arr.size,none⟩ 1):=by
   rw[hv]
   simp[convert,run_underlying hu,run_underlying he,markStringish,World.shape?,hb]
  intro next Q hn'
  unfold Oper.wp
  have:(execOp a.eval o).run P w= .ok (.value (a.eval x)) (w.freeze ⟨(φ id).1,arr.size,none⟩ 1):=by simp[execOp,ho,hmark]
  rw[this]
  have heap:∀ {j:Nat},j≠(φ id).1→(w.freeze ⟨(φ id).1,arr.size,none⟩ 1).heap[j]? =w.heap[j]? :=by
   intro j hj
   simp only[World.freeze]
   rw[if_neg (by omega)]
   simp[Array.getElem?_modify,Ne.symm hj]
  have self:∃ fz',(w.freeze ⟨(φ id).1,arr.size,none⟩ 1).heap[(φ id).1]? =some (.cells arr ty fz'):=by
   simp only[World.freeze]
   rw[if_neg (by omega)]
   rw[Array.getElem?_modify,if_pos rfl,hb]
   exact⟨_,rfl⟩
  obtain⟨fz',self⟩:=self
  have cell:∀ b o,(w.freeze ⟨(φ id).1,arr.size,none⟩ 1).cell? ⟨b,o,none⟩=w.cell? ⟨b,o,none⟩:=by
   intro b o
   by_cases e:b=(φ id).1
   ·subst e;simp[World.cell?,self,hb]
   ·exact rf (heap e)
  have hsz:(w.freeze ⟨(φ id).1,arr.size,none⟩ 1).heap.size=w.heap.size:=by
   simp only[World.freeze];rw[if_neg (by omega)];simp
  have hkk:=fun a v=>K.kill (R:=R) (φ:=φ) hid a v
  refine hn' _ _ R (Bm φ id (φ id)) ?_ (.atom _ _ (show Va R _ _ from hp)) hkk ?_
  ·exact hS.Bm (w':=w.freeze ⟨(φ id).1,arr.size,none⟩ 1) hid (by rw[hsz];exact Nat.le_refl _) (fun b hb hne=>heap (hne rfl)) (fun _ _ _ _=>rfl) (fun b o v h=>by rw[cell];exact hS.sub b o v h) hkk (fun h=>h.elim) trivial
  ·refine .PH hb rfl ?_ ?_ ?_ (by rw[hsz];exact Nat.le_refl _) o1 hS.slt (hS.free id ⟨_,hid,rfl⟩) (fun k _ hne=>heap hne) <;> (simp only[World.freeze];rw[if_neg (by omega)])
end
end Go.AM
namespace Go.AM
open Go.RowKit
section ops
variable {P:Program} {fo:Nat→FuncId} {B0:lg} {w:World} {R:Rd} {φ:Pl} {H H':List ba} {e:Tr} {a:Act} {call:Za}
theorem NI {v:AV} {u:Value} (h:Oc fo (K R φ H) v u):Oc fo (K R φ H) v.Up u:=by
 cases v with
 |uq id nl sz es=>
  have hk:=h.Xt
  cases nl with
  |true=>rw[(hk.2.1 rfl).1];exact .atom _ _ (show Va R _ _ from .pa)
  |false=>exact .atom _ _ (show Va R _ _ from hk.2.2.1 rfl)
 |_=>exact h
theorem WK:∀ {cs:List AV} {vs:List Value},ab fo (K R φ H) cs vs→ab fo (K R φ H) (cs.map AV.Up) vs
 | [],_,.nil=> .nil
 |_::_,_,.cons _ _ _ _ h1 h2=> .cons _ _ _ _ (NI h1) (WK h2)
theorem uU {v:AV} {u:Value} (h:Oc fo (K R φ H) v u):Oc fo (K R φ H) v.cF u:=by
 cases v with
 |agg cs=>
  cases h with
  |atom _ _ h=>exact h.elim
  |agg _ vs h=>exact xt (WK h)
 |uq id nl sz es=>exact NI h
 |_=>exact h
theorem Tz (hE:Xi fo (K R φ H) e a) {sz:Nat}:∀ {parts:List (Nat×Operand)} {aparts:List (Nat×AO)},ux fo parts aparts=true→
 (parts.map fun p=>(p.1,a.eval p.2)).length=(aparts.map fun p=>(p.1 * sz,sz,Zi e p.2)).length∧
 ∀ (j:Nat) (i:Nat) (v:Value) (off s:Nat) (x:AV),(parts.map fun p=>(p.1,a.eval p.2))[j]? =some (i,v)→(aparts.map fun p=>(p.1 * sz,sz,Zi e p.2))[j]? =some (off,s,x)→off=i * sz∧s=sz∧Oc fo (K R φ H) x v
 | [],[],_=>⟨rfl,fun j i v off s x h=>by simp at h⟩
 | (i,x)::xs,(j,y)::ys,h=>by
   simp only[ux,Bool.and_eq_true,beq_iff_eq] at h
   obtain⟨⟨rfl,h1⟩,h2⟩:=h
   obtain⟨q1,q2⟩:=Tz hE (sz:=sz) h2
   refine⟨by simpa using q1,fun k i' v off s z e1 e2=> ?_⟩
   cases k with
   |zero=>
    simp at e1 e2
    obtain⟨rfl,rfl⟩:=e1
    obtain⟨rfl,rfl,rfl⟩:=e2
    exact⟨rfl,rfl,uU (Pb hE h1)⟩
   |succ k=>exact q2 k i' v off s z (by simpa using e1) (by simpa using e2)
 | [],_::_,h=>by simp[ux] at h
 |_::_,[],h=>by simp[ux] at h
theorem kN (hE:Xi fo (K R φ H) e a) {x:Option Operand} {y:Option AO} (h:aO fo x y=true):(x=none∧y=none)∨∃ x' y',x=some x'∧y=some y'∧nm fo x' y'=true:=by
 cases x <;> cases y <;> simp[aO] at h
 ·exact .inl ⟨rfl,rfl⟩
 ·exact .inr ⟨_,_,rfl,rfl,h⟩
theorem IX {ag:Bool} {x:Bool} (h:(!ag||x)=true):ag=true→x=true:=by
 intro e;subst e;simpa using h
theorem PK (hS:uc fo B0 w R φ H) {x:AV} {vx:Value} (hx:Oc fo (K R φ H) x vx) {s:ByteArray} (h:aA H x=some s):(∃ sa sl sc,vx= .slice sa sl sc)∧(Conv.bytesToString vx).run P w= .ok (.string s) w:=by
 have lits:∀ {es:List PV} {l:List UInt8},Va R (.lit 1 es) vx→bytesOf es=some l→s=⟨l.toArray⟩→(∃ sa sl sc,vx= .slice sa sl sc)∧(Conv.bytesToString vx).run P w= .ok (.string s) w:=by
  intro es l hp hb hs
  subst hs
  refine⟨?_,rI hS hp hb⟩
  cases hp <;> exact⟨_,_,_,rfl⟩
 have pa:vx= .slice none 0 0→s=ByteArray.empty→(∃ sa sl sc,vx= .slice sa sl sc)∧(Conv.bytesToString vx).run P w= .ok (.string s) w:=by
  rintro rfl rfl
  exact⟨⟨_,_,_,rfl⟩,by simp[Conv.bytesToString]⟩
 unfold aA at h
 split at h
 ·injection h with h
  have:=hx.Qb
  cases this
  exact pa rfl h.symm
 ·simp only[Option.map_eq_some_iff] at h
  obtain⟨l,h1,h2⟩:=h
  exact lits hx.Qb h1 h2.symm
 ·rename_i id nl es
  simp only[Option.map_eq_some_iff] at h
  obtain⟨l,h1,h2⟩:=h
  have hk:=hx.Xt
  cases nl with
  |true=>
   obtain⟨rfl,rfl⟩:=hk.2.1 rfl
   simp[bytesOf] at h1
   subst h1
   exact pa rfl h2.symm
  |false=>exact lits (hk.2.2.1 rfl) h1 h2.symm
 ·rename_i id len
  have hk:=hx.qz
  split at h
  ·rename_i sz ag c fl nl hc
   split at h
   ·rename_i hcond
    obtain⟨rfl,hcur⟩:=hcond
    obtain⟨k0,k⟩:=hk.2.2 _ _ _ _ _ hc
    obtain⟨o0,o1,o2,o3,o4⟩:=hS.obj _ _ hc
    obtain⟨k1,k2⟩:=k (by omega)
    cases nl with
    |true=>
     simp only[if_true,Option.some.injEq] at h
     exact pa (k1 rfl) h.symm
    |false=>
     simp only[Bool.false_eq_true,if_false,Option.map_eq_some_iff,Option.bind_eq_some_iff] at h
     obtain⟨l,⟨ps,hps,hl⟩,rfl⟩:=h
     rcases k2 rfl with⟨q1,q2,_⟩ | ⟨b,o,cap,q1,q2,_⟩
     ·subst q1;exact absurd (List.eq_nil_of_length_eq_zero (by omega)) q2
     ·obtain⟨rfl,rfl,rfl⟩:=q2 hcur
      subst q1
      obtain⟨_,_,arr,p3,p4,p5,p6⟩:=o4 rfl
      have h7:=El hps p6
      obtain⟨ns,e1,rfl⟩:=VF hl h7
      refine⟨⟨_,_,_,rfl⟩,?_⟩
      have hlen:(ns.map (Value.int .u8)).length=len:=by rw[← e1,List.length_take];simp;omega
      have:=run_bytesToString (P:=P) w ⟨(φ id).1,0,none⟩ len (φ id).2 ns (by
       have:=Wk (P:=P) (w:=w) (b:=(φ id).1) (o:=0) (vs:=ns.map (Value.int .u8)) (fun j v hj=>by
        rw[Nat.zero_add,p3.cell]
        rw[← e1,List.getElem?_take] at hj
        split at hj
        ·simpa using hj
        ·cases hj) hlen
       simpa using this)
      rw[this]
      congr 2
      have h4:=foldl_push ns ByteArray.empty
      generalize ns.foldl (fun r n=>r.push (UInt8.ofNat n.toNat)) ByteArray.empty=z at h4
      obtain⟨⟨z⟩⟩:=z
      simp at h4
      subst h4
      rfl
   ·cases h
  ·cases h
 ·cases h
theorem FO (hS:uc fo B0 w R φ H) {x:AV} {vx:Value} (hx:Oc fo (K R φ H) x vx) {s:ByteArray} (h:aA H x=some s):∃ sa sl sc,vx= .slice sa sl sc:=(PK (P:=default) hS hx h).1
theorem NV (hS:uc fo B0 w R φ H) {x:AV} {vx:Value} (hx:Oc fo (K R φ H) x vx) {s:ByteArray} (h:aA H x=some s):(Conv.bytesToString vx).run P w= .ok (.string s) w:=(PK hS hx h).2
theorem CP (hS:uc fo B0 w R φ H) (hE:Xi fo (K R φ H) e a) {t:TypeId} {fs:Array Field} {parts:Array (Nat×Operand)} {aparts:List (Nat×Nat×AO)} {zero:List PV} (hu:P.underlying t=some (.struct fs))
 (hb:iq P fo fs parts.toList aparts=true) (hall:(fs.all fun f=>(Od P f.type).isSome)=true) (hz:zq P t zero=true) {cs:List AV} (hf:Io (zero.map .pv) (aparts.map fun p=>(p.1,p.2.1,p.2.2.ev e))=some cs):
 Ml fo B0 w R φ H P (Instr.build t (parts.map fun (i,x)=>(i,a.eval x))) (Xq cs) H:=by
 unfold zq at hz
 cases hi:P.info? t with
 |none=>simp[hi] at hz
 |some i=>
  simp only[hi] at hz
  cases hzz:i.zero with
  |none=>simp[hzz] at hz
  |some z=>
   simp only[hzz] at hz
   obtain⟨h1,h2⟩:=Cl (R:=R) hz
   have hpl:∀ (l:List Field),(∀ f∈l,(Od P f.type).isSome=true)→(l.mapM fun f=>(do pure (f.offset,←sizeOf f.type):Sem (Nat×Nat))).run P w= .ok (l.map fun f=>(f.offset,(Od P f.type).getD 0)) w:=by
    intro l
    induction l with
    |nil=>intro _;simp
    |cons f l ih=>
     intro hl
     obtain⟨n,hn⟩:=Option.isSome_iff_exists.1 (hl f (by simp))
     rw[List.mapM_cons]
     simp only[Sem.run_bind,xc hn,Result.andThen_ok,Sem.run_pure,ih (fun g hg=>hl g (by simp[hg]))]
     simp[hn]
   have hplaces:(fs.mapM fun f=>(do pure (f.offset,←sizeOf f.type):Sem (Nat×Nat))).run P w= .ok (fs.map fun f=>(f.offset,(Od P f.type).getD 0)) w:=by
    have:=hpl fs.toList (fun f hf=>by
     rw[Array.all_eq_true] at hall
     obtain⟨i,hi,rfl⟩:=List.mem_iff_getElem.1 hf
     simpa using hall i (by simpa using hi))
    rw[Array.mapM_eq_mapM_toList]
    simp only[Sem.run_map,this,Result.andThen_ok]
    exact congrArg (fun x=>Result.ok x w) (by apply Array.ext';simp)
   have spec:∀ {xs:List (Nat×Operand)} {ys:List (Nat×Nat×AO)},iq P fo fs xs ys=true→(xs.map fun p=>(p.1,a.eval p.2)).length=(ys.map fun p=>(p.1,p.2.1,p.2.2.ev e)).length∧
    ∀ (j:Nat) (i:Nat) (v:Value) (off s:Nat) (x:AV),(xs.map fun p=>(p.1,a.eval p.2))[j]? =some (i,v)→(ys.map fun p=>(p.1,p.2.1,p.2.2.ev e))[j]? =some (off,s,x)→
     (fs.map fun f=>(f.offset,(Od P f.type).getD 0))[i]? =some (off,s)∧Oc fo (K R φ H) x v:=by
    intro xs
    induction xs with
    |nil=>
     intro ys h
     cases ys with
     |nil=>exact⟨rfl,fun j i v off s x h=>by simp at h⟩
     |cons y ys=>simp[iq] at h
    |cons x xs ih=>
     intro ys h
     cases ys with
     |nil=>simp[iq] at h
     |cons y ys=>
      obtain⟨i,x⟩:=x
      obtain⟨off,sz,y⟩:=y
      simp only[iq,Bool.and_eq_true] at h
      obtain⟨⟨g1,g2⟩,g3⟩:=h
      obtain⟨q1,q2⟩:=ih g3
      refine⟨by simpa using q1,fun k i' v off' s z e1 e2=> ?_⟩
      cases k with
      |zero=>
       simp at e1 e2
       obtain⟨rfl,rfl⟩:=e1
       obtain⟨rfl,rfl,rfl⟩:=e2
       refine⟨?_,Pb hE g2⟩
       cases hfi:fs[i]? with
       |none=>simp[hfi] at g1
       |some f=>
        simp only[hfi,Bool.and_eq_true,beq_iff_eq] at g1
        simp[hfi,g1.1,g1.2]
      |succ k=>exact q2 k i' v off' s z (by simpa using e1) (by simpa using e2)
   obtain⟨s1,s2⟩:=spec hb
   obtain⟨cs',r1,r2⟩:=FC (fo:=fo) (R:=R) (φ:=φ) (H:=H) (fun i=>(fs.map fun f=>(f.offset,(Od P f.type).getD 0))[i]?) (cs:=z.cells) s1 s2 (ab.OB h1) hf
   have hparts:(parts.map fun (i,x)=>(i,a.eval x)).toList=parts.toList.map fun p=>(p.1,a.eval p.2):=by simp
   refine Oq.same (.agg cs') hS ?_ ?_
   ·simp only[Instr.build,Sem.run_bind,zeroValue,run_typeInfo w hi,Result.andThen_ok,hzz,Sem.run_pure,run_underlying hu,hplaces,hparts,r1]
   ·have:=xt r2
    simpa using this
theorem ZP (hS:uc fo B0 w R φ H) {t el:TypeId} {n:Nat} {parts:Array (Nat×Operand)} {zero:List PV} (hu:P.underlying t=some (.array n el)) (hp:parts.toList=[]) (hs:(Od P el).isSome=true) (hz:zq P t zero=true):
 Ml fo B0 w R φ H P (Instr.build t (parts.map fun (i,x)=>(i,a.eval x))) (Xq (zero.map .pv)) H:=by
 obtain⟨k,hk⟩:=Option.isSome_iff_exists.1 hs
 obtain rfl:parts= #[]:=by apply Array.ext';simpa using hp
 unfold zq at hz
 cases hi:P.info? t with
 |none=>simp[hi] at hz
 |some i=>
  simp only[hi] at hz
  cases hzz:i.zero with
  |none=>simp[hzz] at hz
  |some z=>
   simp only[hzz] at hz
   obtain⟨h1,h2⟩:=Cl (R:=R) hz
   refine Oq.same (.agg z.cells) hS ?_ ?_
   ·simp only[Instr.build,Sem.run_bind,zeroValue,run_typeInfo w hi,Result.andThen_ok,hzz,Sem.run_pure,run_underlying hu,xc hk]
    simp[Instr.fill]
   ·have:=xt (ab.OB (fo:=fo) (φ:=φ) (H:=H) h1)
    simpa using this
theorem HR {t:TypeId} {f off:Nat} (h:(match DW P t f with | some fd=>fd.offset==off&&(match Od P fd.type with | some n=>n != 0 | none=>false) | none=>false)=true):
 ∃ fs fd n,P.underlying t=some (.struct fs)∧fs[f]? =some fd∧fd.offset=off∧Od P fd.type=some n∧n≠0:=by
 cases hs:DW P t f with
 |none=>simp[hs] at h
 |some fd=>
  simp only[hs,Bool.and_eq_true,beq_iff_eq] at h
  obtain⟨h1,h2⟩:=h
  unfold DW at hs
  split at hs
  ·rename_i fs hu
   cases hn:Od P fd.type with
   |none=>simp[hn] at h2
   |some n=>simp[hn] at h2;exact⟨fs,fd,n,hu,hs,h1,hn,h2⟩
  ·cases hs
theorem ZR {t:TypeId} {f off n:Nat} {ag:Bool} (h:(match DW P t f with | some fd=>fd.offset==off&&Il P fd.type==some ag&&(!ag||Od P fd.type==some n) | none=>false)=true):
 ∃ fs fd,P.underlying t=some (.struct fs)∧fs[f]? =some fd∧fd.offset=off∧Il P fd.type=some ag∧(ag=true→Od P fd.type=some n):=by
 cases hs:DW P t f with
 |none=>simp[hs] at h
 |some fd=>
  simp only[hs,Bool.and_eq_true,beq_iff_eq] at h
  obtain⟨⟨h1,h2⟩,h3⟩:=h
  unfold DW at hs
  split at hs
  ·rename_i fs hu
   exact⟨fs,fd,hu,hs,h1,h2,fun e=>by simpa using IX h3 e⟩
  ·cases hs
theorem pT {t:TypeId} {n sz:Nat} (h:(match P.underlying t with | some (.array n' el)=>n'==n&&Od P el==some sz | _=>false)=true):∃ el,P.underlying t=some (.array n el)∧Od P el=some sz:=by
 split at h
 ·rename_i n' el hu
  simp at h
  obtain⟨rfl,h⟩:=h
  exact⟨el,hu,h⟩
 ·cases h
theorem fQ {t:TypeId} {n sz:Nat} {ag:Bool} (h:(match P.underlying t with | some (.array n' el)=>n'==n&&Od P el==some sz&&Il P el==some ag | _=>false)=true):∃ el,P.underlying t=some (.array n el)∧Od P el=some sz∧Il P el=some ag:=by
 split at h
 ·rename_i n' el hu
  simp at h
  obtain⟨⟨rfl,h⟩,h2⟩:=h
  exact⟨el,hu,h,h2⟩
 ·cases h
theorem SF (mx:Bool) {xs:List AV} {vs:List Value} {p:PV} (hl:ab fo (K R φ H) xs vs) (hb:gr mx xs=some p):
 ∃ v0 rest v,vs=v0::rest∧(rest.foldlM (if mx then Builtin.max2 else Builtin.min2) v0).run P w= .ok v w∧Va R p v:=by
 unfold gr at hb
 split at hb
 ·rename_i k x r
  cases hl with
  |cons _ _ v vs h1 h2=>
   rw[je h1 rfl]
   obtain⟨u,q1,q2⟩:=fJ (P:=P) (w:=w) mx h2 hb
   exact⟨_,_,u,rfl,q1,q2⟩
 ·cases hb
theorem OP (s:ByteArray) (i:Nat):s[i]? =s.data.toList[i]? :=by
 by_cases h:i < s.size
 ·rw[getElem?_pos s i h]
  have h2:i < s.data.toList.length:=by rw[Array.length_toList];exact h
  rw[List.getElem?_eq_getElem h2]
  rfl
 ·rw[getElem?_neg s i h]
  have h2:¬i < s.data.toList.length:=by rw[Array.length_toList];exact h
  rw[List.getElem?_eq_none (by omega)]
set_option maxHeartbeats 1000000 in
theorem IM {o:Oper} {op:Op} {aop:yd} {v:AV} (ho:o.op=op) (Aa:gU P fo op aop=true) (hS:uc fo B0 w R φ H) (hE:Xi fo (K R φ H) e a) (hev:ua call e H aop=some (v,H')):
 Nz P fo B0 o a w R φ H v H':=by
 unfold gU at Aa
 split at Aa
 case h_1 x y=>
  simp[ua] at hev
  obtain⟨rfl,rfl⟩:=hev
  exact .Ir hS (by simp[execOp,ho]) (Pb hE Aa)
 case h_2 x y=>
  simp[ua] at hev
  obtain⟨rfl,rfl⟩:=hev
  exact .Ir hS (by simp[execOp,ho]) (Pb hE Aa)
 case h_3 c x y c' x' y'=>
  simp only[Bool.and_eq_true] at Aa
  simp only[ua,Option.bind_eq_some_iff] at hev
  obtain⟨t,h1,h2⟩:=hev
  simp at h2
  obtain⟨rfl,rfl⟩:=h2
  have hc:=ny (Pb hE Aa.1.1) h1
  refine .Ir (v':=if t then a.eval x else a.eval y) hS (by simp[execOp,ho,hc,Go.asBool]) ?_
  cases t
  ·exact Pb hE Aa.2
  ·exact Pb hE Aa.1.2
 case h_4 t zero=>
  simp[ua] at hev
  obtain⟨rfl,rfl⟩:=hev
  exact .gd (by simp[execOp,ho]) (FQ hS Aa)
 case h_5 t x n y=>
  simp only[ua] at hev
  split at hev
  ·rename_i hc
   simp at hev
   obtain⟨rfl,rfl⟩:=hev
   exact .gd (by simp[execOp,ho]) (cW (t:=t) hS (Pb hE Aa) hc.2)
  ·cases hev
 case h_6 t parts zero aparts=>
  simp only[Bool.and_eq_true] at Aa
  obtain⟨h1,h2⟩:=Aa
  simp only[ua,Option.map_eq_some_iff,Prod.mk.injEq] at hev
  obtain⟨cs,hf,rfl,rfl⟩:=hev
  cases hu:P.underlying t with
  |none=>simp[hu] at h1
  |some d=>
   cases d with
   |struct fs=>
    simp only[hu,Bool.and_eq_true] at h1
    exact .gd (s:=Instr.build t (parts.map fun (i,x)=>(i,a.eval x))) (by simp[execOp,ho]) (CP hS hE hu h1.1 h1.2 h2 hf)
   |array n el=>
    simp only[hu,Bool.and_eq_true,List.isEmpty_iff] at h1
    rw[h1.1.2] at hf
    simp only[List.map_nil,Io,Option.some.injEq] at hf
    subst hf
    exact .gd (s:=Instr.build t (parts.map fun (i,x)=>(i,a.eval x))) (by simp[execOp,ho]) (ZP hS hu h1.1.1 h1.2 h2)
   |_=>simp[hu] at h1
 case h_7 t len parts hh sz ag len' zero aparts=>
  simp only[Bool.and_eq_true,beq_iff_eq,decide_eq_true_eq] at Aa
  obtain⟨⟨⟨h1,rfl⟩,h2⟩,h3⟩:=Aa
  cases hel:Ev P t with
  |none=>simp[hel] at h1
  |some el=>
   simp only[hel] at h1
   simp only[ua,Option.bind_eq_some_iff] at hev
   obtain⟨cs,hf,hfr⟩:=hev
   split at hfr
   ·rename_i hone
    obtain⟨q1,q2⟩:=Tz hE (sz:=sz) h3
    have:=CL (fo:=fo) (B0:=B0) hS (En hel) (fG h1) h2 q1 q2 hf hone hfr
    refine .gd (s:=Instr.buildSlice t len (parts.map fun (i,x)=>(i,a.eval x))) (by simp[execOp,ho]) ?_
    have hp:(parts.map fun (i,x)=>(i,a.eval x))=(parts.toList.map fun p=>(p.1,a.eval p.2)).toArray:=by
     apply Array.ext';simp
    rw[hp]
    exact this
   ·cases hfr
 case h_8 t x ag n y=>
  simp only[Bool.and_eq_true,beq_iff_eq] at Aa
  simp only[ua,Option.map_eq_some_iff,Prod.mk.injEq] at hev
  obtain⟨u,hl,rfl,rfl⟩:=hev
  obtain⟨vv,h1,h2⟩:=LK (P:=P) hS (Pb hE Aa.2) Aa.1.1 (fun e=>by simpa using IX Aa.1.2 e) hl
  exact .gd (s:=Instr.loadAt t (a.eval x)) (by simp[execOp,ho]) (Oq.same vv hS h1 h2)
 case h_9 t p x n q y=>
  simp only[Bool.and_eq_true,beq_iff_eq] at Aa
  simp only[ua,Option.map_eq_some_iff,Prod.mk.injEq] at hev
  obtain⟨H1,hl,rfl,rfl⟩:=hev
  obtain⟨w',φ',h1,h2,h3,h4⟩:=eP (P:=P) hS (Pb hE Aa.1.2) (Pb hE Aa.2) Aa.1.1 hl
  intro next Q hn
  unfold Oper.wp
  have:(execOp a.eval o).run P w= .ok .skip w':=by simp[execOp,ho,h1]
  rw[this]
  exact hn undef w' R φ' h2 (.atom _ _ (show Va R _ _ from .Zb [] [] .nil)) h3 h4
 case h_10 x y=>
  simp only[ua] at hev
  have hx:=Pb (R:=R) (φ:=φ) (H:=H) hE Aa
  generalize AO.ev e y=z at hev hx
  obtain⟨vx,hvx⟩:∃ vx,a.eval x=vx:=⟨_,rfl⟩
  rw[hvx] at hx
  split at hev
  ·rename_i ix caps
   simp at hev
   obtain⟨rfl,rfl⟩:=hev
   have hx2:=hx
   cases hx2 with
   |atom _ _ h=>exact h.elim
   |gl _ _ vs h=>
    refine .Ir hS ?_ hx
    simp[execOp,ho,hvx]
  ·simp only[Option.map_eq_some_iff,Prod.mk.injEq] at hev
   obtain⟨u,hp,rfl,rfl⟩:=hev
   obtain⟨b,o',h1,h2⟩:=CA hS hx hp
   have:=ZL hp
   subst this
   refine .Ir hS ?_ hx
   simp[execOp,ho,hvx,h1]
 case h_11 op' t x y t' op x' y'=>
  simp only[Bool.and_eq_true,decide_eq_true_eq] at Aa
  obtain⟨⟨rfl,h1⟩,h2⟩:=Aa
  simp only[ua,Option.map_eq_some_iff,Prod.mk.injEq] at hev
  obtain⟨p,hp,rfl,rfl⟩:=hev
  obtain⟨u,q1,q2⟩:=XV (P:=P) (w:=w) (Pb hE h1) (Pb hE h2) hp t x y
  exact .gd (s:=do eqGuard op' t x y (a.eval x) (a.eval y);binOp op' t (a.eval x) (a.eval y)) (by simp[execOp,ho]) (Oq.same u hS q1 (.atom _ _ q2))
 case h_12 t x y t' k x' y'=>
  simp only[Bool.and_eq_true,beq_iff_eq] at Aa
  simp only[ua,Option.map_eq_some_iff,Prod.mk.injEq] at hev
  obtain⟨b,hb,rfl,rfl⟩:=hev
  have:=KS Aa.1.1 hS (Pb hE Aa.1.2) (Pb hE Aa.2) hb .eql (.inl rfl) x y
  exact .gd (s:=do eqGuard .eql t x y (a.eval x) (a.eval y);binOp .eql t (a.eval x) (a.eval y)) (by simp[execOp,ho]) (Oq.same _ hS this (.atom _ _ (by simpa[K] using Va.bool (R:=R) b)))
 case h_13 t x y t' k x' y'=>
  simp only[Bool.and_eq_true,beq_iff_eq] at Aa
  simp only[ua,Option.map_eq_some_iff,Prod.mk.injEq] at hev
  obtain⟨b,hb,rfl,rfl⟩:=hev
  have:=KS Aa.1.1 hS (Pb hE Aa.1.2) (Pb hE Aa.2) hb .neq (.inr rfl) x y
  exact .gd (s:=do eqGuard .neq t x y (a.eval x) (a.eval y);binOp .neq t (a.eval x) (a.eval y)) (by simp[execOp,ho]) (Oq.same _ hS this (.atom _ _ (by simpa[K] using Va.bool (R:=R) (!b))))
 case h_14 op' t x op y=>
  simp only[Bool.and_eq_true,decide_eq_true_eq] at Aa
  obtain⟨rfl,h1⟩:=Aa
  simp only[ua,Option.map_eq_some_iff,Prod.mk.injEq] at hev
  obtain⟨p,hp,rfl,rfl⟩:=hev
  obtain⟨u,q1,q2⟩:=JW (P:=P) (w:=w) (Pb hE h1) hp
  exact .gd (s:=Op.unary op' (a.eval x)) (by simp[execOp,ho]) (Oq.same u hS q1 (.atom _ _ q2))
 case h_15 s d x k y=>
  simp only[Bool.and_eq_true] at Aa
  simp only[ua,Option.map_eq_some_iff,Prod.mk.injEq] at hev
  obtain⟨⟨k',n⟩,hp,rfl,rfl⟩:=hev
  have hx:=je (Pb hE Aa.2) hp
  obtain⟨ds,hds⟩:=Option.isSome_iff_exists.1 Aa.1.1
  have hd:P.underlying d=some (.int k):=by
   have:=Aa.1.2
   unfold sY at this
   split at this
   ·rename_i k2 h;simp at this;subst this;exact h
   ·cases this
  refine .gd (s:=convert s d (a.eval x)) (by simp[execOp,ho]) (Oq.same _ hS ?_ (.atom _ _ (show Va R _ _ from .int _ _)))
  rw[hx];exact FT hds hd
 case h_16 s d x y=>
  simp only[Bool.and_eq_true] at Aa
  obtain⟨⟨h1,h2⟩,h3⟩:=Aa
  simp only[ua,Option.map_eq_some_iff,Prod.mk.injEq] at hev
  obtain⟨str,hp,rfl,rfl⟩:=hev
  have hx:=Pb (R:=R) (φ:=φ) (H:=H) hE h3
  cases hel:Ev P s with
  |none=>simp[hel] at h1
  |some el=>
   simp only[hel] at h1
   have hs:=En hel
   have hb:P.underlying el=some (.int .u8):=by
    unfold OW at h1
    split at h1
    ·rename_i h;exact h
    ·cases h1
   have hd:P.underlying d=some .string:=by
    unfold AX at h2
    split at h2
    ·rename_i h;exact h
    ·cases h2
   have hr:=NV (P:=P) hS hx hp
   refine .gd (s:=convert s d (a.eval x)) (by simp[execOp,ho]) (Oq.same (.string str) hS ?_ (.atom _ _ (show Va R _ _ from .str _)))
   obtain⟨sa,sl,sc,hv⟩:=FO hS hx hp
   rw[hv] at hr ⊢
   rw[run_convert_bytes_string w s d el sa sl sc hs hb hd]
   exact hr
 case h_17 s d x hh y=>
  simp only[Bool.and_eq_true] at Aa
  obtain⟨⟨h1,h2⟩,h3⟩:=Aa
  obtain⟨ds,hds⟩:=Option.isSome_iff_exists.1 h1
  simp only[ua] at hev
  have hx:=Pb (R:=R) (φ:=φ) (H:=H) hE h3
  split at hev
  ·rename_i b hy
   rw[hy] at hx
   obtain⟨vx,hvx⟩:∃ vx,a.eval x=vx:=⟨_,rfl⟩
   rw[hvx] at hx
   have hp:=hx.Qb
   cases hp
   cases hel:Ev P d with
   |none=>simp[hel] at h2
   |some el=>
    simp only[hel] at h2
    have hb:P.underlying el=some (.int .u8):=by
     unfold OW at h2
     split at h2
     ·rename_i h;exact h
     ·cases h2
    exact .gd (s:=convert s d (.string b)) (by simp[execOp,ho,hvx]) (wU hS hds (En hel) hb hev)
  ·cases hev
 case h_18 f first caps ix ys=>
  simp only[Bool.and_eq_true,beq_iff_eq] at Aa
  obtain⟨⟨h1,rfl⟩,h2⟩:=Aa
  simp[ua] at hev
  obtain⟨rfl,rfl⟩:=hev
  have hf:first= #[]:=by simpa using h1
  have:=Au (R:=R) (φ:=φ) (H:=H) hE h2
  refine .gd (s:=Instr.makeFunc (.func (fo ix)) (first.map a.eval) (caps.map a.eval)) (by simp[execOp,ho]) (Oq.same (.func (.func (fo ix)) #[] (caps.map a.eval)) hS (by simp[Instr.makeFunc,hf]) ?_)
  have hcaps:caps.map a.eval=⟨caps.toList.map a.eval⟩:=by apply Array.ext';simp
  rw[hcaps]
  exact .gl _ _ _ this
 case h_19 t l c hh sz ag zero bytes l' c'=>
  simp only[Bool.and_eq_true,decide_eq_true_eq] at Aa
  obtain⟨⟨⟨h1,h2⟩,h3⟩,h4⟩:=Aa
  cases hel:Ev P t with
  |none=>simp[hel] at h1
  |some el=>
   simp only[hel,Bool.and_eq_true,beq_iff_eq] at h1
   simp only[ua,Option.bind_eq_some_iff] at hev
   obtain⟨⟨kl,nl⟩,hl,⟨kc,nc⟩,hc,hif⟩:=hev
   split at hif
   ·rename_i hcond
    have e1:=je (Pb hE h3) hl
    have e2:=je (Pb hE h4) hc
    refine .gd (s:=Instr.makeSlice t (a.eval l) (a.eval c)) (by simp[execOp,ho]) ?_
    rw[e1,e2]
    exact SJ hS (En hel) (fG h1.1) h1.2 h2 hcond.1 hcond.2.1 hcond.2.2 hif
   ·cases hif
 case h_20 t x lo hi sz y lo' hi'=>
  simp only[Bool.and_eq_true] at Aa
  obtain⟨⟨⟨h1,h2⟩,h3⟩,h4⟩:=Aa
  have hx:=Pb (R:=R) (φ:=φ) (H:=H) hE h2
  have hu:(sz≠0∧∃ el,P.underlying t=some (.slice el)∧Od P el=some sz)∨(sz=0∧P.underlying t=some .string):=by
   cases hu:P.underlying t with
   |none=>simp[hu] at h1
   |some d=>
    cases d <;> simp[hu] at h1
    ·exact .inr ⟨h1,rfl⟩
    ·exact .inl ⟨h1.1,_,rfl,h1.2⟩
  have fin:∀ {l h:Option Int},((lo.map a.eval=none∧l=none)∨∃ k n,lo.map a.eval=some (.int k n)∧l=some n)→((hi.map a.eval=none∧h=none)∨∃ k n,hi.map a.eval=some (.int k n)∧h=some n)→
   (Bg H sz (AO.ev e y) l h).map (fun v=>(v,H))=some (v,H')→Nz P fo B0 o a w R φ H v H':=by
   intro l h hl hh hsl
   simp only[Option.map_eq_some_iff,Prod.mk.injEq] at hsl
   obtain⟨u,hu2,rfl,rfl⟩:=hsl
   exact .gd (s:=Instr.sliceAt t (a.eval x) (lo.map a.eval) (hi.map a.eval) none) (by simp[execOp,ho]) (JO hS hx hu hl hh hu2)
  rcases kN hE h3 with⟨rfl,rfl⟩ | ⟨x1,y1,rfl,rfl,g1⟩ <;> rcases kN hE h4 with⟨rfl,rfl⟩ | ⟨x2,y2,rfl,rfl,g2⟩
  ·simp only[ua] at hev
   exact fin (.inl ⟨rfl,rfl⟩) (.inl ⟨rfl,rfl⟩) hev
  ·simp only[ua,Option.bind_eq_some_iff] at hev
   obtain⟨⟨k,n⟩,h5,h6⟩:=hev
   exact fin (.inl ⟨rfl,rfl⟩) (.inr ⟨k,n,by simp[je (Pb hE g2) h5],rfl⟩) h6
  ·simp only[ua,Option.bind_eq_some_iff] at hev
   obtain⟨⟨k,n⟩,h5,h6⟩:=hev
   exact fin (.inr ⟨k,n,by simp[je (Pb hE g1) h5],rfl⟩) (.inl ⟨rfl,rfl⟩) h6
  ·simp only[ua,Option.bind_eq_some_iff] at hev
   obtain⟨⟨k,n⟩,h5,⟨k2,n2⟩,h7,h6⟩:=hev
   exact fin (.inr ⟨k,n,by simp[je (Pb hE g1) h5],rfl⟩) (.inr ⟨k2,n2,by simp[je (Pb hE g2) h7],rfl⟩) h6
 case h_21 t x f off y=>
  simp only[Bool.and_eq_true] at Aa
  obtain⟨h1,h2⟩:=Aa
  simp only[ua,Option.map_eq_some_iff,Prod.mk.injEq] at hev
  obtain⟨u,hp,rfl,rfl⟩:=hev
  obtain⟨fs,fd,n,hu,hf,rfl,hn,hn0⟩:=HR h1
  exact .gd (s:=Instr.fieldAt t (a.eval x) f) (by simp[execOp,ho]) (aQ hS (Pb hE h2) hu hf hn hn0 hp)
 case h_22 t x f off ag n y=>
  simp only[Bool.and_eq_true] at Aa
  obtain⟨h1,h2⟩:=Aa
  have hx:=Pb (R:=R) (φ:=φ) (H:=H) hE h2
  obtain⟨fs,fd,hu,hf,rfl,ha,hn⟩:=ZR h1
  simp only[ua] at hev
  refine .gd (s:=Instr.field t (a.eval x) f) (by simp[execOp,ho]) ?_
  have hrun:∀ vs:Array Value,(Instr.field t (.agg vs) f).run P w=(part fd.type vs fd.offset).run P w:=by
   intro vs;simp[Instr.field,run_underlying hu,hf,asAgg]
  obtain⟨i1,i2⟩:=sO hx
  split at hev
  ·rename_i cs hy
   obtain⟨vs,e1,e2⟩:=i1 cs hy
   simp only[Option.map_eq_some_iff,Prod.mk.injEq] at hev
   obtain⟨p,hp,rfl,rfl⟩:=hev
   rw[Ml,e1,hrun]
   exact ZK hS ha hn e2 hp
  ·rename_i cs hy
   obtain⟨vs,e1,e2⟩:=i2 cs hy
   simp only[Option.map_eq_some_iff,Prod.mk.injEq] at hev
   obtain⟨p,hp,rfl,rfl⟩:=hev
   rw[Ml,e1,hrun]
   exact oJ hS ha hn e2 hp
  ·cases hev
 case h_23 t x i sz y j=>
  simp only[Bool.and_eq_true] at Aa
  obtain⟨⟨h1,h2⟩,h3⟩:=Aa
  simp only[ua,Option.bind_eq_some_iff,Option.map_eq_some_iff,Prod.mk.injEq] at hev
  obtain⟨⟨k,n⟩,hi,u,hp,rfl,rfl⟩:=hev
  have e1:=je (Pb hE h3) hi
  cases hel:Ev P t with
  |none=>simp[hel] at h1
  |some el=>
   simp only[hel,beq_iff_eq] at h1
   refine .gd (s:=Instr.indexAt t (a.eval x) (a.eval i)) (by simp[execOp,ho]) ?_
   rw[e1]
   exact TP hS (Pb hE h2) (En hel) h1 hp
 case h_24 t x i n sz y j=>
  simp only[Bool.and_eq_true] at Aa
  obtain⟨⟨h1,h2⟩,h3⟩:=Aa
  simp only[ua,Option.bind_eq_some_iff] at hev
  obtain⟨⟨k,m⟩,hi,hif⟩:=hev
  split at hif
  ·rename_i hix
   simp only[Option.map_eq_some_iff,Prod.mk.injEq] at hif
   obtain⟨u,hp,rfl,rfl⟩:=hif
   have e1:=je (Pb hE h3) hi
   obtain⟨el,hu,hsz⟩:=pT h1
   refine .gd (s:=Instr.indexAt t (a.eval x) (a.eval i)) (by simp[execOp,ho]) ?_
   rw[e1]
   exact KM hS (Pb hE h2) hu hsz hix hp
  ·cases hif
 case h_25 t x i n sz ag y j=>
  simp only[Bool.and_eq_true] at Aa
  obtain⟨⟨h1,h2⟩,h3⟩:=Aa
  have hx:=Pb (R:=R) (φ:=φ) (H:=H) hE h2
  simp only[ua,Option.bind_eq_some_iff] at hev
  obtain⟨⟨k,m⟩,hi,hif⟩:=hev
  split at hif
  ·rename_i hix
   have e1:=je (Pb hE h3) hi
   obtain⟨el,hu,hsz,ha⟩:=fQ h1
   refine .gd (s:=Instr.index t (a.eval x) (a.eval i)) (by simp[execOp,ho]) ?_
   obtain⟨g1,g2⟩:=hix
   have hrun:∀ vs:Array Value,(Instr.index t (.agg vs) (.int k m)).run P w=(part el vs (m.toNat * sz)).run P w:=by
    intro vs;simp only[] at g1 g2;simp[Instr.index,asIntOf,run_underlying hu,g1,g2,xc hsz]
   obtain⟨i1,i2⟩:=sO hx
   split at hif
   ·rename_i cs hy
    obtain⟨vs,e2,e3⟩:=i1 cs hy
    simp only[Option.map_eq_some_iff,Prod.mk.injEq] at hif
    obtain⟨p,hp,rfl,rfl⟩:=hif
    rw[Ml,e1,e2,hrun]
    exact ZK hS ha (fun _=>hsz) e3 hp
   ·rename_i cs hy
    obtain⟨vs,e2,e3⟩:=i2 cs hy
    simp only[Option.map_eq_some_iff,Prod.mk.injEq] at hif
    obtain⟨p,hp,rfl,rfl⟩:=hif
    rw[Ml,e1,e2,hrun]
    exact oJ hS ha (fun _=>hsz) e3 hp
   ·cases hif
  ·cases hif
 case h_26 t x i y j=>
  simp only[Bool.and_eq_true] at Aa
  obtain⟨⟨h1,h2⟩,h3⟩:=Aa
  have hx:=Pb (R:=R) (φ:=φ) (H:=H) hE h2
  have hd:P.underlying t=some .string:=by
   unfold AX at h1
   split at h1
   ·rename_i h;exact h
   ·cases h1
  simp only[ua,Option.bind_eq_some_iff] at hev
  obtain⟨⟨k,m⟩,hi,hif⟩:=hev
  have e1:=je (Pb hE h3) hi
  split at hif
  ·rename_i str hy
   split at hif
   ·rename_i hm
    simp only[Option.map_eq_some_iff,Prod.mk.injEq] at hif
    obtain⟨b,hb,rfl,rfl⟩:=hif
    rw[hy] at hx
    obtain⟨vx,hvx⟩:∃ vx,a.eval x=vx:=⟨_,rfl⟩
    rw[hvx] at hx
    have hp:=hx.Qb
    cases hp
    have hb':str[m.toNat]? =some b:=by rw[← hb];exact OP _ _
    refine .gd (s:=Instr.index t (a.eval x) (a.eval i)) (by simp[execOp,ho]) (Oq.same (.int .u8 b.toNat) hS ?_ (.atom _ _ (show Va R _ _ from .int _ _)))
    rw[hvx,e1]
    simp only[] at hm
    simp[Instr.index,asIntOf,run_underlying hd,hm,hb']
   ·cases hif
  ·cases hif
 case h_27 x i i' y=>
  simp only[Bool.and_eq_true,beq_iff_eq] at Aa
  obtain⟨rfl,h1⟩:=Aa
  have hx:=Pb (R:=R) (φ:=φ) (H:=H) hE h1
  simp only[ua] at hev
  obtain⟨i1,i2⟩:=sW hx
  refine .gd (s:=Instr.extract (a.eval x) i) (by simp[execOp,ho]) ?_
  split at hev
  ·rename_i cs hy
   obtain⟨vs,e1,e2⟩:=i1 cs hy
   simp only[Option.map_eq_some_iff,Prod.mk.injEq] at hev
   obtain⟨p,hp,rfl,rfl⟩:=hev
   obtain⟨u,hu,hr⟩:=e2.get hp
   rw[e1]
   exact Oq.same u hS (by simp[Instr.extract,hu]) (.atom _ _ hr)
  ·rename_i cs hy
   obtain⟨vs,e1,e2⟩:=i2 cs hy
   simp only[Option.map_eq_some_iff,Prod.mk.injEq] at hev
   obtain⟨p,hp,rfl,rfl⟩:=hev
   obtain⟨u,hu,hr⟩:=e2.get hp
   rw[e1]
   exact Oq.same u hS (by simp[Instr.extract,hu]) hr
  ·cases hev
 case h_28 args argTypes k y=>
  simp only[ua,Option.map_eq_some_iff,Prod.mk.injEq] at hev
  obtain⟨n,hn,rfl,rfl⟩:=hev
  split at Aa
  ·rename_i x t hargs htys
   simp only[Bool.and_eq_true] at Aa
   have ha:args= #[x]:=by apply Array.ext';simpa using hargs
   have ht:argTypes= #[t]:=by apply Array.ext';simpa using htys
   subst ha ht
   have hu:(k=0∧∃ e,P.underlying t=some (.slice e))∨(k=1∧P.underlying t=some .string):=by
    have:=Aa.2
    cases hu:P.underlying t with
    |none=>simp[hu] at this
    |some d=>cases d <;> simp[hu] at this <;> simp_all
   exact .gd (s:=Builtin.len_ #[t] o.type #[a.eval x]) (by simp[execOp,ho,resolve,invoke,builtin]) (qW hS (Pb hE Aa.1) hu hn)
  ·cases Aa
 case h_29 args tys ys=>
  simp only[ua,Option.map_eq_some_iff,Prod.mk.injEq] at hev
  obtain⟨p,hp,rfl,rfl⟩:=hev
  have hl:=Au (R:=R) (φ:=φ) (H:=H) hE Aa
  obtain⟨v0,rest,u,q0,q1,q2⟩:=SF (P:=P) (w:=w) true hl hp
  exact .gd (s:=Builtin.max_ tys o.type (args.map a.eval)) (by simp[execOp,ho,resolve,invoke,builtin]) (Oq.same u hS (by simp only[Builtin.max_,Array.toList_map,q0];simpa using q1) (.atom _ _ q2))
 case h_30 args tys ys=>
  simp only[ua,Option.map_eq_some_iff,Prod.mk.injEq] at hev
  obtain⟨p,hp,rfl,rfl⟩:=hev
  have hl:=Au (R:=R) (φ:=φ) (H:=H) hE Aa
  obtain⟨v0,rest,u,q0,q1,q2⟩:=SF (P:=P) (w:=w) false hl hp
  exact .gd (s:=Builtin.min_ tys o.type (args.map a.eval)) (by simp[execOp,ho,resolve,invoke,builtin]) (Oq.same u hS (by simp only[Builtin.min_,Array.toList_map,q0];simpa using q1) (.atom _ _ q2))
 case h_31 args argTypes own hh sz ag bytes s y=>
  simp only[ua] at hev
  split at Aa
  ·rename_i x z t tx hargs htys
   simp only[Bool.and_eq_true] at Aa
   have ha:args= #[x,z]:=by apply Array.ext';simpa using hargs
   have ht:argTypes= #[t,tx]:=by apply Array.ext';simpa using htys
   subst ha ht
   obtain⟨⟨h1,h2⟩,h3⟩:=Aa
   cases hel:Ev P t with
   |none=>simp[hel] at h3
   |some el=>
    simp only[hel,Bool.and_eq_true] at h3
    have hA:=ZM h3.1
    refine .gd (s:=Builtin.append_ #[t,tx] o.type #[a.eval x,a.eval z]) (by simp[execOp,ho,resolve,invoke,builtin]) ?_
    have hs:=Pb (R:=R) (φ:=φ) (H:=H) hE h1
    have hx:=Pb (R:=R) (φ:=φ) (H:=H) hE h2
    generalize AO.ev e s=sv at hev hs
    generalize AO.ev e y=xv at hev hx
    unfold ic at hev
    split at hev
    ·split at hev
     ·split at hev
      ·rename_i id len sz' ag' cells fl nl hid
       simp only[Option.bind_eq_some_iff] at hev
       obtain⟨⟨m,cs⟩,hy,hif⟩:=hev
       split at hif
       ·rename_i hc
        obtain⟨rfl,hc1,hc2,hc3⟩:=hc
        simp only[Option.some.injEq,Prod.mk.injEq] at hif
        obtain⟨rfl,rfl⟩:=hif
        exact LL hS hA hs hx hid hc1 hy hc3 hc2
       ·cases hif
      ·cases hev
     ·cases hev
    ·split at hev
     ·split at hev
      ·rename_i id nl sz' es sz2 n nl2 hid
       simp only[Option.bind_eq_some_iff] at hev
       obtain⟨ys,hy,hif⟩:=hev
       split at hif
       ·rename_i hc
        obtain⟨rfl,rfl,hc1,hc2⟩:=hc
        simp only[Option.some.injEq,Prod.mk.injEq] at hif
        obtain⟨rfl,rfl⟩:=hif
        exact RO hS hA hs hx hid hc1 hy hc2
       ·cases hif
      ·cases hev
     ·simp only[Option.bind_eq_some_iff] at hev
      obtain⟨ys,hy,hif⟩:=hev
      split at hif
      ·rename_i hc
       have hp:=hs.Qb
       obtain⟨vs,hvs⟩:∃ vs,a.eval x=vs:=⟨_,rfl⟩
       rw[hvs] at hp ⊢
       cases hp
       exact zJ hS hA hx hy hc hif
      ·cases hif
     ·cases hev
  ·cases Aa
 case h_32 t x n y=>
  simp only[ua] at hev
  split at hev
  ·rename_i hc
   simp only[Option.map_eq_some_iff,Prod.mk.injEq] at hev
   obtain⟨ps,hps,rfl,rfl⟩:=hev
   exact .gd (by simp[execOp,ho]) (mT (t:=t) hS (Pb hE Aa) hc.2 hps)
  ·cases hev
 case h_33 t x y _ ks x' y'=>
  simp only[Bool.and_eq_true,Bool.not_eq_true'] at Aa
  simp only[ua] at hev
  split at hev
  ·rename_i p q hp hq
   simp only[Option.map_eq_some_iff,Prod.mk.injEq] at hev
   obtain⟨b,hb,rfl,rfl⟩:=hev
   have h1:=Pb (R:=R) (φ:=φ) (H:=H) hE Aa.1.2
   have h2:=Pb (R:=R) (φ:=φ) (H:=H) hE Aa.2
   rw[hp] at h1
   rw[hq] at h2
   have hg:=pz (w:=w) Aa.1.1.2 .eql x y h1.Qb h2.Qb hb
   have hr:=RC (w:=w) Aa.1.1.1 h1.Qb h2.Qb hb
   have hbin:(binOp .eql t (a.eval x) (a.eval y)).run P w= .ok (.bool b) w:=by
    have e:=h1.Qb
    have e2:=h2.Qb
    revert hr
    generalize a.eval x=vx at e
    generalize a.eval y=vy at e2
    intro hr
    have hp2:∃ xs,p= .agg xs:=by cases p <;> simp[gk] at hb;exact⟨_,rfl⟩
    obtain⟨xs,rfl⟩:=hp2
    have hq2:∃ ys,q= .agg ys:=by cases q <;> simp[gk] at hb;exact⟨_,rfl⟩
    obtain⟨ys,rfl⟩:=hq2
    cases e;cases e2;simp[binOp,hr]
   exact .Ir (v':= .bool b) hS (by simp[execOp,ho,hg,hbin]) (.atom _ _ (show Va R _ _ from .bool _))
  ·cases hev
 case h_34 t x y _ ks x' y'=>
  simp only[Bool.and_eq_true,Bool.not_eq_true'] at Aa
  simp only[ua] at hev
  split at hev
  ·rename_i p q hp hq
   simp only[Option.map_eq_some_iff,Prod.mk.injEq] at hev
   obtain⟨b,hb,rfl,rfl⟩:=hev
   have h1:=Pb (R:=R) (φ:=φ) (H:=H) hE Aa.1.2
   have h2:=Pb (R:=R) (φ:=φ) (H:=H) hE Aa.2
   rw[hp] at h1
   rw[hq] at h2
   have hg:=pz (w:=w) Aa.1.1.2 .neq x y h1.Qb h2.Qb hb
   have hr:=RC (w:=w) Aa.1.1.1 h1.Qb h2.Qb hb
   have hbin:(binOp .neq t (a.eval x) (a.eval y)).run P w= .ok (.bool (!b)) w:=by
    have e:=h1.Qb
    have e2:=h2.Qb
    revert hr
    generalize a.eval x=vx at e
    generalize a.eval y=vy at e2
    intro hr
    have hp2:∃ xs,p= .agg xs:=by cases p <;> simp[gk] at hb;exact⟨_,rfl⟩
    obtain⟨xs,rfl⟩:=hp2
    have hq2:∃ ys,q= .agg ys:=by cases q <;> simp[gk] at hb;exact⟨_,rfl⟩
    obtain⟨ys,rfl⟩:=hq2
    cases e;cases e2;simp[binOp,hr]
   exact .Ir (v':= .bool (!b)) hS (by simp[execOp,ho,hg,hbin]) (.atom _ _ (show Va R _ _ from .bool _))
  ·cases hev
 case h_35 t=>
  simp only[ua,Option.some.injEq,Prod.mk.injEq] at hev
  obtain⟨rfl,rfl⟩:=hev
  exact .gd (s:=Instr.makeMap t none) (by simp[execOp,ho]) (HQ hS _)
 case h_36 t x k ok kd zero ok' x' k'=>
  simp only[Bool.and_eq_true,beq_iff_eq] at Aa
  obtain⟨⟨⟨⟨h1,h2⟩,rfl⟩,h3⟩,h4⟩:=Aa
  have hm:=Pb (R:=R) (φ:=φ) (H:=H) hE h3
  have hk:=Pb (R:=R) (φ:=φ) (H:=H) hE h4
  simp only[ua] at hev
  split at hev
  ·rename_i kp em ek
   rw[em] at hm;rw[ek] at hk
   split at hev
   ·rename_i hkk
    simp only[Option.some.injEq,Prod.mk.injEq] at hev
    obtain⟨rfl,rfl⟩:=hev
    obtain⟨u,h5,h6⟩:=YE (P:=P) hS h1 h2 hm hk.Qb ok (.inl ⟨rfl,rfl⟩) hkk (r:=none) rfl
    exact .Ir hS (by simp[execOp,ho,h5]) h6
   ·cases hev
  ·rename_i id kp em ek
   rw[em] at hm;rw[ek] at hk
   split at hev
   ·rename_i es hid
    split at hev
    ·rename_i hkk
     simp only[Option.map_eq_some_iff] at hev
     obtain⟨r,hf,hr⟩:=hev
     obtain⟨u,h5,h6⟩:=YE (P:=P) hS h1 h2 hm hk.Qb ok (.inr ⟨id,rfl,hid⟩) hkk hf
     cases r with
     |none=>
      simp only[Prod.mk.injEq] at hr
      obtain⟨rfl,rfl⟩:=hr
      exact .Ir hS (by simp[execOp,ho,h5]) h6
     |some r=>
      simp only[Prod.mk.injEq] at hr
      obtain⟨rfl,rfl⟩:=hr
      exact .Ir hS (by simp[execOp,ho,h5]) h6
    ·cases hev
   ·cases hev
  ·cases hev
 case h_37 t m k x kd m' k' x'=>
  simp only[Bool.and_eq_true] at Aa
  obtain⟨⟨⟨h1,h2⟩,h3⟩,h4⟩:=Aa
  have hm:=Pb (R:=R) (φ:=φ) (H:=H) hE h2
  have hk:=Pb (R:=R) (φ:=φ) (H:=H) hE h3
  have hx:=Pb (R:=R) (φ:=φ) (H:=H) hE h4
  simp only[ua] at hev
  split at hev
  ·rename_i id kp xp em ek ex
   rw[em] at hm;rw[ek] at hk;rw[ex] at hx
   split at hev
   ·rename_i es hid
    split at hev
    ·rename_i hkk
     simp only[Option.map_eq_some_iff] at hev
     obtain⟨r,hf,hr⟩:=hev
     obtain⟨w',φ',h5,h6,h7,h8⟩:=YD (P:=P) hS h1 hm hk.Qb hx.Qb hid hkk hf
     intro next Q hn
     unfold Oper.wp
     have:(execOp a.eval o).run P w= .ok .skip w':=by simp[execOp,ho,h5]
     rw[this]
     cases r with
     |none=>
      simp only[Prod.mk.injEq] at hr
      obtain⟨rfl,rfl⟩:=hr
      exact hn undef w' R φ' h6 (.atom _ _ (show Va R _ _ from .Zb [] [] .nil)) h7 h8
     |some r=>
      simp only[Prod.mk.injEq] at hr
      obtain⟨rfl,rfl⟩:=hr
      exact hn undef w' R φ' h6 (.atom _ _ (show Va R _ _ from .Zb [] [] .nil)) h7 h8
    ·cases hev
   ·cases hev
  ·cases hev
 case h_38 t m k x kd m' k' x'=>
  simp only[Bool.and_eq_true] at Aa
  obtain⟨⟨⟨h1,h2⟩,h3⟩,h4⟩:=Aa
  have hm:=Pb (R:=R) (φ:=φ) (H:=H) hE h2
  have hk:=Pb (R:=R) (φ:=φ) (H:=H) hE h3
  have hx:=Pb (R:=R) (φ:=φ) (H:=H) hE h4
  simp only[ua] at hev
  split at hev
  ·rename_i id kp xp em ek ex
   rw[em] at hm;rw[ek] at hk;rw[ex] at hx
   split at hev
   ·rename_i es hid
    split at hev
    ·rename_i hkk
     simp only[Option.map_eq_some_iff] at hev
     obtain⟨r,hf,hr⟩:=hev
     obtain⟨w',φ',h5,h6,h7,h8⟩:=YD (P:=P) hS h1 hm hk.Qb hx.Qb hid hkk hf
     intro next Q hn
     unfold Oper.wp
     have:(execOp a.eval o).run P w= .ok .skip w':=by simp[execOp,ho,h5]
     rw[this]
     cases r with
     |none=>
      simp only[Prod.mk.injEq] at hr
      obtain⟨rfl,rfl⟩:=hr
      exact hn undef w' R φ' h6 (.atom _ _ (show Va R _ _ from .Zb [] [] .nil)) h7 h8
     |some r=>
      simp only[Prod.mk.injEq] at hr
      obtain⟨rfl,rfl⟩:=hr
      exact hn undef w' R φ' h6 (.atom _ _ (show Va R _ _ from .Zb [] [] .nil)) h7 h8
    ·cases hev
   ·cases hev
  ·cases hev
 case h_39 s d x y=>
  simp only[ua] at hev
  split at hev
  ·rename_i id es hx
   split at hev
   ·rename_i n hid
    split at hev
    ·rename_i hn2
     simp only[Option.some.injEq,Prod.mk.injEq] at hev
     obtain⟨rfl,rfl⟩:=hev
     simp only[Bool.and_eq_true,beq_iff_eq] at Aa
     obtain⟨⟨rfl,hsl⟩,h3⟩:=Aa
     have hr:=Pb (R:=R) (φ:=φ) (H:=H) hE h3
     rw[hx] at hr
     exact nR ho hS hr hid hn2 hsl
    ·cases hev
   ·cases hev
  ·cases hev
 case h_40=>cases Aa
end ops
end Go.AM
namespace Go.AM
def AO.look (n:Nat):AO→Bool
 | .t m=>n==m
 |_=>false
def yd.look (n:Nat):yd→Bool
 | .move x | .box _ x | .DM _ x | .load _ _ x | .ZC x | .un _ x | .conv _ x | .dV x | .TX x | .cV _ x | .GC _ x | .xX _ _ _ x | .ext _ x | .len _ x=>x.look n
 | .alloc _=>false
 | .pick c a b=>c.look n||a.look n||b.look n
 | .build _ ps=>ps.any fun p=>p.2.2.look n
 | .Yb _ _ _ _ _ ps=>ps.any fun p=>p.2.look n
 | .store _ a v=>a.look n||v.look n
 | .bin _ x y | .eq _ _ x y=>x.look n||y.look n
 | .zH _ xs | .mx xs | .mn xs | .Ap _ xs | .Nj _ xs=>xs.any (·.look n)
 | .Tg _ _ _ _ _ l c=>l.look n||c.look n
 | .slice _ x lo hi=>x.look n||(lo.any (·.look n))||(hi.any (·.look n))
 | .pd _ x i | .Tv _ _ x i | .kU _ _ _ x i | .zX x i=>x.look n||i.look n
 | .append _ _ _ _ _ s x=>s.look n||x.look n
 | .nU _ _ x y=>x.look n||y.look n
 | .qE=>false
 | .lookup _ _ _ m k=>m.look n||k.look n
 | .uu _ m k v=>m.look n||k.look n||v.look n
 | .EB f xs=>f.look n||xs.any (·.look n)
def JX (p:Nat→Bool) (e e':Tr):Prop:=∀ n,p n=true→e.get n=e'.get n
theorem AO.IK {e e':Tr} {x:AO} (h:∀ n,x.look n=true→e.get n=e'.get n):x.ev e=x.ev e':=by
 cases x with
 |t n=>exact h n (by simp[AO.look])
 |c p=>rfl
 |f ix=>rfl
theorem gP {e e':Tr} {xs:List AO} (h:∀ n,xs.any (·.look n)=true→e.get n=e'.get n):xs.map (·.ev e)=xs.map (·.ev e'):=
 List.map_congr_left fun x hx=>AO.IK fun n hn=>h n (List.any_eq_true.2 ⟨x,hx,hn⟩)
theorem gz {call:Za} {e e':Tr} {H:List ba} {op:yd} (h:JX (fun n=>op.look n) e e'):ua call e H op=ua call e' H op:=by
 have one:∀ x:AO,(∀ n,x.look n=true→op.look n=true)→x.ev e=x.ev e':=fun x hx=>AO.IK fun n hn=>h n (hx n hn)
 have many:∀ xs:List AO,(∀ n,xs.any (·.look n)=true→op.look n=true)→xs.map (·.ev e)=xs.map (·.ev e'):=fun xs hx=>gP fun n hn=>h n (hx n hn)
 cases op with
 |move x=>simp only[ua];rw[one x (fun n h=>by simpa[yd.look] using h)]
 |pick c a b=>
  simp only[ua]
  rw[one c (fun n h=>by simp[yd.look,h]),one a (fun n h=>by simp[yd.look,h]),one b (fun n h=>by simp[yd.look,h])]
 |alloc z=>rfl
 |box n x=>simp only[ua];rw[one x (fun n h=>by simpa[yd.look] using h)]
 |DM n x=>simp only[ua];rw[one x (fun n h=>by simpa[yd.look] using h)]
 |build z ps=>
  simp only[ua]
  rw[List.map_congr_left (f:=fun p:Nat×Nat×AO=>(p.1,p.2.1,p.2.2.ev e)) (g:=fun p=>(p.1,p.2.1,p.2.2.ev e')) fun p hp=>by
   rw[one p.2.2 (fun n h=>by simp only[yd.look];exact List.any_eq_true.2 ⟨p,hp,h⟩)]]
 |Yb hh sz ag len z ps=>
  simp only[ua]
  rw[List.map_congr_left (f:=fun p:Nat×AO=>(p.1 * sz,sz,Zi e p.2)) (g:=fun p=>(p.1 * sz,sz,Zi e' p.2)) fun p hp=>by
   unfold Zi
   rw[one p.2 (fun n h=>by simp only[yd.look];exact List.any_eq_true.2 ⟨p,hp,h⟩)]]
 |load ag n x=>simp only[ua];rw[one x (fun n h=>by simpa[yd.look] using h)]
 |store n a v=>simp only[ua];rw[one a (fun n h=>by simp[yd.look,h]),one v (fun n h=>by simp[yd.look,h])]
 |ZC x=>simp only[ua];rw[one x (fun n h=>by simpa[yd.look] using h)]
 |bin op x y=>simp only[ua];rw[one x (fun n h=>by simp[yd.look,h]),one y (fun n h=>by simp[yd.look,h])]
 |eq k ne x y=>simp only[ua];rw[one x (fun n h=>by simp[yd.look,h]),one y (fun n h=>by simp[yd.look,h])]
 |un op x=>simp only[ua];rw[one x (fun n h=>by simpa[yd.look] using h)]
 |conv k x=>simp only[ua];rw[one x (fun n h=>by simpa[yd.look] using h)]
 |dV x=>simp only[ua];rw[one x (fun n h=>by simpa[yd.look] using h)]
 |cV hh x=>simp only[ua];rw[one x (fun n h=>by simpa[yd.look] using h)]
 |TX x=>simp only[ua];rw[one x (fun n h=>by simpa[yd.look] using h)]
 |zH ix xs=>simp only[ua];rw[many xs (fun n h=>by simpa[yd.look] using h)]
 |Tg hh sz ag z b l c=>simp only[ua];rw[one l (fun n h=>by simp[yd.look,h]),one c (fun n h=>by simp[yd.look,h])]
 |slice sz x lo hi=>
  have hx:=one x (fun n h=>by simp[yd.look,h])
  cases lo with
  |none=>
   cases hi with
   |none=>simp only[ua];rw[hx]
   |some hi=>simp only[ua];rw[hx,one hi (fun n h=>by simp[yd.look,h])]
  |some lo=>
   cases hi with
   |none=>simp only[ua];rw[hx,one lo (fun n h=>by simp[yd.look,h])]
   |some hi=>simp only[ua];rw[hx,one lo (fun n h=>by simp[yd.look,h]),one hi (fun n h=>by simp[yd.look,h])]
 |GC off x=>simp only[ua];rw[one x (fun n h=>by simpa[yd.look] using h)]
 |xX off ag n x=>simp only[ua];rw[one x (fun n h=>by simpa[yd.look] using h)]
 |pd sz x i=>simp only[ua];rw[one x (fun n h=>by simp[yd.look,h]),one i (fun n h=>by simp[yd.look,h])]
 |Tv n sz x i=>simp only[ua];rw[one x (fun n h=>by simp[yd.look,h]),one i (fun n h=>by simp[yd.look,h])]
 |kU n sz ag x i=>simp only[ua];rw[one x (fun n h=>by simp[yd.look,h]),one i (fun n h=>by simp[yd.look,h])]
 |zX x i=>simp only[ua];rw[one x (fun n h=>by simp[yd.look,h]),one i (fun n h=>by simp[yd.look,h])]
 |ext i x=>simp only[ua];rw[one x (fun n h=>by simpa[yd.look] using h)]
 |len k x=>simp only[ua];rw[one x (fun n h=>by simpa[yd.look] using h)]
 |mx xs=>simp only[ua];rw[many xs (fun n h=>by simpa[yd.look] using h)]
 |mn xs=>simp only[ua];rw[many xs (fun n h=>by simpa[yd.look] using h)]
 |append o hh sz ag b s x=>simp only[ua];rw[one s (fun n h=>by simp[yd.look,h]),one x (fun n h=>by simp[yd.look,h])]
 |nU kd ne x y=>simp only[ua];rw[one x (fun n h=>by simp[yd.look,h]),one y (fun n h=>by simp[yd.look,h])]
 |qE=>rfl
 |lookup kd z ok m k=>simp only[ua];rw[one m (fun n h=>by simp[yd.look,h]),one k (fun n h=>by simp[yd.look,h])]
 |uu kd m k v=>simp only[ua];rw[one m (fun n h=>by simp[yd.look,h]),one k (fun n h=>by simp[yd.look,h]),one v (fun n h=>by simp[yd.look,h])]
 |Ap F xs=>simp only[ua];rw[many xs (fun n h=>by simpa[yd.look] using h)]
 |Nj ix xs=>simp only[ua];rw[many xs (fun n h=>by simpa[yd.look] using h)]
 |EB f xs=>simp only[ua];rw[one f (fun n h=>by simp[yd.look,h]),many xs (fun n h=>by simp only[yd.look,h,Bool.or_true])]
def ba.jO:ba→Bool
 | .tok _ _ _=>true
 |_=>false
def Ts (H H':List ba):Prop:=∀ (id:Nat) (o:ba),H[id]? =some o→o.jO=false→H'[id]? =some o
theorem Ts.refl (H:List ba):Ts H H:=fun _ _ h _=>h
theorem Ts.push (H:List ba) (o:ba):Ts H (H++[o]):=fun id o' h _=>by
 have hl:id < H.length:=(List.getElem?_eq_some_iff.1 h).1
 rw[List.getElem?_append_left hl];exact h
theorem Ts.VI (H:List ba) (a b:Nat) (c:Bool):Ts (H++[.tok a b c]) H:=fun id o h ht=>by
 by_cases hl:id < H.length
 ·rw[List.getElem?_append_left hl] at h;exact h
 ·rw[List.getElem?_append_right (by omega)] at h
  by_cases h0:id - H.length=0
  ·rw[h0] at h;simp at h;subst h;simp[ba.jO] at ht
  ·rw[List.getElem?_eq_none (by simp;omega)] at h;cases h
theorem Ts.pV {H:List ba} {id:Nat} {a b:Nat} {c:Bool} (h:H[id]? =some (.tok a b c)) (a' b':Nat) (c':Bool):
 Ts H (H.set id (.tok a' b' c'))∧Ts (H.set id (.tok a' b' c')) H:=by
 constructor
 ·intro i o hi ht
  by_cases e:id=i
  ·subst e;rw[h] at hi;injection hi with hi;subst hi;simp[ba.jO] at ht
  ·rw[List.getElem?_set_ne e];exact hi
 ·intro i o hi ht
  by_cases e:id=i
  ·subst e
   have hl:id < H.length:=(List.getElem?_eq_some_iff.1 h).1
   rw[List.getElem?_set_self hl] at hi;injection hi with hi;subst hi;simp[ba.jO] at ht
  ·rw[List.getElem?_set_ne e] at hi;exact hi
def Cf.isLit:Cf→Bool
 | .lit=>true
 |_=>false
def Cf.Oj:Cf→Bool
 | .own=>true
 |_=>false
def yd.cls:yd→Nat
 | .move _ | .pick _ _ _ | .build _ _ | .bin _ _ _ | .un _ _ | .conv _ _ | .zH _ _ | .xX _ _ _ _ | .kU _ _ _ _ _ | .zX _ _ | .ext _ _ | .mx _ | .mn _ | .DM _ _ | .nU _ _ _ _=>0
 | .load _ _ _ | .ZC _ | .GC _ _ | .pd _ _ _ | .Tv _ _ _ _ | .len _ _ | .eq _ _ _ _ | .slice _ _ _ _ | .dV _ | .Ap _ _ | .lookup _ _ _ _ _=>1
 | .Yb h _ _ _ _ _ | .cV h _ | .Tg h _ _ _ _ _ _=>(if h.isLit then 0 else if h.Oj then 3 else 2)
 | .append own h _ _ _ _ _=>(if own then 4 else if h.Oj then 4 else 2)
 | .alloc _ | .box _ _=>3
 |_=>4
theorem IS {H H':List ba} (h:Ts H H'):∀ (d:Nat) (v:AV) (p:PV),Ub H d v=some p→Ub H' d v=some p:=by
 intro d
 induction d with
 |zero=>intro v p hp;cases v <;> simp_all [Ub]
 |succ d ih=>
  have many:∀ (cs:List AV) (ps:List PV),Qa (Ub H d) cs=some ps→Qa (Ub H' d) cs=some ps:=by
   intro cs
   induction cs with
   |nil=>intro ps h;simpa[Qa] using h
   |cons c cs ihc=>
    intro ps h
    simp only[Qa,Option.bind_eq_some_iff] at h ⊢
    obtain⟨b,h1,bs,h2,h3⟩:=h
    exact⟨b,ih _ _ h1,bs,ihc _ h2,h3⟩
  intro v p hp
  cases v with
  |pv q=>simpa[Ub] using hp
  |uq=>simpa[Ub] using hp
  |own id len=>
   simp only[Ub] at hp ⊢
   split at hp
   ·rename_i sz ag cells fl nl hid
    rw[h _ _ hid rfl]
    split at hp
    ·rename_i hc
     simp only[if_pos hc]
     cases nl with
     |true=>simpa using hp
     |false=>
      simp only[Bool.false_eq_true,if_false,Option.map_eq_some_iff] at hp ⊢
      obtain⟨ps,h1,h2⟩:=hp
      exact⟨ps,many _ _ h1,h2⟩
    ·cases hp
   ·cases hp
  |ptr id off=>
   simp only[Ub] at hp ⊢
   split at hp
   ·rename_i cells hid
    rw[h _ _ hid rfl]
    simp only[Option.map_eq_some_iff] at hp ⊢
    obtain⟨ps,h1,h2⟩:=hp
    exact⟨ps,many _ _ h1,h2⟩
   ·cases hp
  |agg cs=>
   simp only[Ub,Option.map_eq_some_iff] at hp ⊢
   obtain⟨ps,h1,h2⟩:=hp
   exact⟨ps,many _ _ h1,h2⟩
  |Zb cs=>
   simp only[Ub,Option.map_eq_some_iff] at hp ⊢
   obtain⟨ps,h1,h2⟩:=hp
   exact⟨ps,many _ _ h1,h2⟩
  |Gc=>simp[Ub] at hp
  |gl=>simp[Ub] at hp
  |mp=>simp[Ub] at hp
  |undef=>simp[Ub] at hp
theorem aR {H H':List ba} (h:Ts H H') {d:Nat}:∀ {cs:List AV} {ps:List PV},Qa (Ub H d) cs=some ps→Qa (Ub H' d) cs=some ps:=by
 intro cs
 induction cs with
 |nil=>intro ps h;simpa[Qa] using h
 |cons c cs ihc=>
  intro ps hp
  simp only[Qa,Option.bind_eq_some_iff] at hp ⊢
  obtain⟨b,h1,bs,h2,h3⟩:=hp
  exact⟨b,IS h _ _ _ h1,bs,ihc h2,h3⟩
theorem EA {H H':List ba} (h:Ts H H') {d:Nat} {x v:AV} (hp:place H d x=some v):place H' d x=some v:=by
 unfold place at hp ⊢
 split at hp
 ·exact hp
 ·split at hp
  ·rename_i hid;rw[h _ _ hid rfl];exact hp
  ·cases hp
 ·split at hp
  ·rename_i hid;rw[h _ _ hid rfl];exact hp
  ·cases hp
 ·cases hp
theorem BQ {H H':List ba} (h:Ts H H') {ag:Bool} {n:Nat} {x v:AV} (hp:ya H ag n x=some v):ya H' ag n x=some v:=by
 unfold ya at hp ⊢
 split at hp
 ·exact hp
 ·split at hp
  ·rename_i hid;rw[h _ _ hid rfl];exact hp
  ·cases hp
 ·split at hp
  ·rename_i hid;rw[h _ _ hid rfl];exact hp
  ·cases hp
 ·cases hp
theorem IP {H H':List ba} (h:Ts H H') {sz:Nat} {x v:AV} {i:Int} (hp:qa H sz x i=some v):qa H' sz x i=some v:=by
 unfold qa at hp ⊢
 split at hp
 ·exact hp
 ·exact hp
 ·split at hp
  ·rename_i hid;rw[h _ _ hid rfl];exact hp
  ·cases hp
 ·cases hp
theorem LS {H H':List ba} (h:Ts H H') {k:Nat} {x:AV} {n:Nat} (hp:Wb H k x=some n):Wb H' k x=some n:=by
 unfold Wb at hp ⊢
 split at hp
 ·exact hp
 ·exact hp
 ·exact hp
 ·exact hp
 ·split at hp
  ·rename_i hid;rw[h _ _ hid rfl];exact hp
  ·cases hp
 ·exact hp
 ·split at hp
  ·rename_i hid;rw[h _ _ hid rfl];exact hp
  ·cases hp
 ·cases hp
theorem TV {H H':List ba} (h:Ts H H') {k:Nat} {x y:AV} {b:Bool} (hp:Bs H k x y=some b):Bs H' k x y=some b:=by
 unfold Bs at hp ⊢
 split at hp <;> first
  |exact hp
  | (split at hp
     ·rename_i hid;simp only[h _ _ hid rfl];exact hp
     ·cases hp)
  |cases hp
theorem wR {H H':List ba} (h:Ts H H') {x:AV} {b:ByteArray} (hp:aA H x=some b):aA H' x=some b:=by
 unfold aA at hp ⊢
 split at hp <;> first
  |exact hp
  | (split at hp
     ·rename_i hid;rw[h _ _ hid rfl];exact hp
     ·cases hp)
  |cases hp
theorem xu {H H':List ba} (h:Ts H H') {sz:Nat} {x v:AV} {lo hi:Option Int} (hp:Bg H sz x lo hi=some v):Bg H' sz x lo hi=some v:=by
 unfold Bg at hp ⊢
 split at hp <;> first
  |exact hp
  | (split at hp
     ·rename_i hid;rw[h _ _ hid rfl];exact hp
     ·cases hp)
  |cases hp
theorem bB {H:List ba} {sz:Nat} {ag:Bool} {n:Nat} {cs:List AV} {v:AV} {H':List ba} (h:fresh H .lit sz ag n cs=some (v,H')):
 H'=H∧∀ H2,fresh H2 .lit sz ag n cs=some (v,H2):=by
 simp only[fresh,Option.map_eq_some_iff,Prod.mk.injEq] at h ⊢
 obtain⟨ps,h1,rfl,rfl⟩:=h
 exact⟨rfl,fun H2=>⟨ps,h1,rfl,trivial⟩⟩
theorem tD {H:List ba} {sz:Nat} {ag:Bool} {n:Nat} {cs:List AV} {v:AV} {H':List ba} (h:fresh H .uq sz ag n cs=some (v,H')):
 Ts H H'∧Ts H' H:=by
 simp only[fresh,Option.map_eq_some_iff,Prod.mk.injEq] at h
 obtain⟨ps,h1,rfl,rfl⟩:=h
 exact⟨Ts.push _ _,Ts.VI _ _ _ _⟩
theorem cA {H:List ba} {sz:Nat} {ag:Bool} {n:Nat} {cs:List AV} {v:AV} {H':List ba} (h:fresh H .own sz ag n cs=some (v,H')):
 Ts H H':=by
 simp only[fresh,Option.some.injEq,Prod.mk.injEq] at h
 obtain⟨rfl,rfl⟩:=h
 exact Ts.push _ _
theorem LX {call:Za} {e:Tr} {H H':List ba} {op:yd} {v:AV} (hc:op.cls=0) (h:ua call e H op=some (v,H')):
 H'=H∧∀ H2,ua call e H2 op=some (v,H2):=by
 have ob:∀ {α:Type} {x:Option α} {f:α→AV},(x.map fun v=>(f v,H))=some (v,H')→H'=H∧∀ H2:List ba,(x.map fun v=>(f v,H2))=some (v,H2):=by
  intro α x f h
  cases x with
  |none=>simp at h
  |some x=>simp at h;exact⟨h.2.symm,fun H2=>by simp[h.1]⟩
 cases op with
 |move x=>simp only[ua,Option.some.injEq,Prod.mk.injEq] at h ⊢;exact⟨h.2.symm,fun H2=>⟨h.1,trivial⟩⟩
 |pick c a b=>
  simp only[ua,Option.bind_eq_some_iff,Option.some.injEq,Prod.mk.injEq] at h ⊢
  obtain⟨t,h1,h2,h3⟩:=h
  exact⟨h3.symm,fun H2=>⟨t,h1,h2,trivial⟩⟩
 |DM n x=>
  simp only[ua] at h ⊢
  split at h
  ·rename_i h0;simp only[if_pos h0];exact ob h
  ·cases h
 |build z ps=>exact ob h
 |bin o x y=>exact ob h
 |nU kd ne x y=>simp only[ua] at h ⊢;split at h <;> first | exact ob h | cases h
 |un o x=>exact ob h
 |conv k x=>exact ob h
 |mx xs=>exact ob h
 |mn xs=>exact ob h
 |zH ix xs=>simp only[ua,Option.some.injEq,Prod.mk.injEq] at h ⊢;exact⟨h.2.symm,fun H2=>⟨h.1,trivial⟩⟩
 |xX off ag n x=>simp only[ua] at h ⊢;split at h <;> first | exact ob h | cases h
 |ext i x=>simp only[ua] at h ⊢;split at h <;> first | exact ob h | cases h
 |kU n sz ag x i=>
  simp only[ua] at h ⊢
  cases hi:asInt (i.ev e) with
  |none=>simp[hi] at h
  |some k=>
   simp only[hi,Option.bind_some] at h ⊢
   split at h
   ·rename_i hx;simp only[if_pos hx];split at h <;> first | exact ob h | cases h
   ·cases h
 |zX x i=>
  simp only[ua] at h ⊢
  cases hi:asInt (i.ev e) with
  |none=>simp[hi] at h
  |some k=>
   simp only[hi,Option.bind_some] at h ⊢
   split at h
   ·split at h
    ·rename_i h0;simp only[if_pos h0];exact ob h
    ·cases h
   ·cases h
 |Yb hh sz ag len z ps=>
  cases hh with
  |lit=>
   simp only[ua] at h ⊢
   cases hf:Io (Lj z len) (ps.map fun p=>(p.1 * sz,sz,Zi e p.2)) with
   |none=>simp[hf] at h
   |some cs=>
    simp only[hf,Option.bind_some] at h ⊢
    split at h
    ·rename_i h0;simp only[if_pos h0];exact bB h
    ·cases h
  |uq=>simp[yd.cls,Cf.isLit,Cf.Oj] at hc
  |own=>simp[yd.cls,Cf.isLit,Cf.Oj] at hc
 |cV hh x=>
  cases hh with
  |lit=>
   simp only[ua] at h ⊢
   split at h
   ·exact bB h
   ·cases h
  |uq=>simp[yd.cls,Cf.isLit,Cf.Oj] at hc
  |own=>simp[yd.cls,Cf.isLit,Cf.Oj] at hc
 |Tg hh sz ag z b l c=>
  cases hh with
  |lit=>
   simp only[ua] at h ⊢
   cases hl:asInt (l.ev e) with
   |none=>simp[hl] at h
   |some l=>
    cases hcc:asInt (c.ev e) with
    |none=>simp[hl,hcc] at h
    |some c=>
     simp only[hl,hcc,Option.bind_some] at h ⊢
     split at h
     ·rename_i h0;simp only[if_pos h0];exact bB h
     ·cases h
  |uq=>simp[yd.cls,Cf.isLit,Cf.Oj] at hc
  |own=>simp[yd.cls,Cf.isLit,Cf.Oj] at hc
 |append o hh _ _ _ _ _=>exfalso;simp only[yd.cls] at hc;split at hc <;> first | cases hc | (split at hc <;> cases hc)
 |_=>simp[yd.cls] at hc
theorem CU {call:Za} {e:Tr} {H H':List ba} {op:yd} {v:AV} (hc:op.cls=1) (h:ua call e H op=some (v,H')):
 H'=H∧∀ H2,Ts H H2→ua call e H2 op=some (v,H2):=by
 have ob:∀ {α:Type} {g:List ba→Option α} {f:α→AV},((g H).map fun v=>(f v,H))=some (v,H')→(∀ H2 a,Ts H H2→g H=some a→g H2=some a)→
  H'=H∧∀ H2:List ba,Ts H H2→((g H2).map fun v=>(f v,H2))=some (v,H2):=by
  intro α g f h hg
  cases hx:g H with
  |none=>simp[hx] at h
  |some x=>simp[hx] at h;exact⟨h.2.symm,fun H2 ha=>by simp[hg H2 x ha hx,h.1]⟩
 cases op with
 |load ag n x=>exact ob (g:=fun H=>ya H ag n (x.ev e)) h fun H2 a ha hp=>BQ ha hp
 |GC off x=>exact ob (g:=fun H=>place H off (x.ev e)) h fun H2 a ha hp=>EA ha hp
 |len k x=>exact ob (g:=fun H=>Wb H k (x.ev e)) h fun H2 a ha hp=>LS ha hp
 |dV x=>exact ob (g:=fun H=>aA H (x.ev e)) h fun H2 a ha hp=>wR ha hp
 |eq k ne x y=>exact ob (g:=fun H=>Bs H k (x.ev e) (y.ev e)) h fun H2 a ha hp=>TV ha hp
 |ZC x=>
  simp only[ua] at h ⊢
  split at h
  ·simp only[Option.some.injEq,Prod.mk.injEq] at h ⊢;exact⟨h.2.symm,fun H2 _=>⟨h.1,trivial⟩⟩
  ·exact ob (g:=fun H=>place H 0 (x.ev e)) h fun H2 a ha hp=>EA ha hp
 |pd sz x i=>
  simp only[ua] at h ⊢
  cases hi:asInt (i.ev e) with
  |none=>simp[hi] at h
  |some k=>
   simp only[hi,Option.bind_some] at h ⊢
   exact ob (g:=fun H=>qa H sz (x.ev e) k.2) h fun H2 a ha hp=>IP ha hp
 |Tv n sz x i=>
  simp only[ua] at h ⊢
  cases hi:asInt (i.ev e) with
  |none=>simp[hi] at h
  |some k=>
   simp only[hi,Option.bind_some] at h ⊢
   split at h
   ·rename_i h0
    simp only[if_pos h0]
    exact ob (g:=fun H=>place H (k.2.toNat * sz) (x.ev e)) h fun H2 a ha hp=>EA ha hp
   ·cases h
 |slice sz x lo hi=>
  cases lo with
  |none=>
   cases hi with
   |none=>exact ob (g:=fun H=>Bg H sz (x.ev e) none none) h fun H2 a ha hp=>xu ha hp
   |some hi=>
    simp only[ua] at h ⊢
    cases hh:asInt (hi.ev e) with
    |none=>simp[hh] at h
    |some k=>
     simp only[hh,Option.bind_some] at h ⊢
     exact ob (g:=fun H=>Bg H sz (x.ev e) none (some k.2)) h fun H2 a ha hp=>xu ha hp
  |some lo=>
   cases hi with
   |none=>
    simp only[ua] at h ⊢
    cases hh:asInt (lo.ev e) with
    |none=>simp[hh] at h
    |some k=>
     simp only[hh,Option.bind_some] at h ⊢
     exact ob (g:=fun H=>Bg H sz (x.ev e) (some k.2) none) h fun H2 a ha hp=>xu ha hp
   |some hi=>
    simp only[ua] at h ⊢
    cases hl:asInt (lo.ev e) with
    |none=>simp[hl] at h
    |some l=>
     cases hh:asInt (hi.ev e) with
     |none=>simp[hl,hh] at h
     |some k=>
      simp only[hl,hh,Option.bind_some] at h ⊢
      exact ob (g:=fun H=>Bg H sz (x.ev e) (some l.2) (some k.2)) h fun H2 a ha hp=>xu ha hp
 |lookup kd z ok m k=>
  simp only[ua] at h ⊢
  split at h
  ·split at h
   ·rename_i h0
    simp only[Option.some.injEq,Prod.mk.injEq] at h
    exact⟨h.2.symm,fun H2 _=>by rw[if_pos h0,h.1]⟩
   ·cases h
  ·rename_i id k' _ _
   split at h
   ·rename_i es hid
    split at h
    ·rename_i h0
     simp only[Option.map_eq_some_iff] at h
     obtain⟨r,h1,h2⟩:=h
     cases r with
     |none=>
      simp only[Prod.mk.injEq] at h2
      exact⟨h2.2.symm,fun H2 ha=>by rw[ha _ _ hid rfl];simp only[if_pos h0,h1,Option.map_some,h2.1]⟩
     |some r=>
      simp only[Prod.mk.injEq] at h2
      exact⟨h2.2.symm,fun H2 ha=>by rw[ha _ _ hid rfl];simp only[if_pos h0,h1,Option.map_some,h2.1]⟩
    ·cases h
   ·cases h
  ·cases h
 |Ap F xs=>
  simp only[ua,Option.bind_eq_some_iff] at h ⊢
  obtain⟨ps,h1,r,h2,h3⟩:=h
  split at h3
  ·rename_i h5
   simp only[Option.some.injEq,Prod.mk.injEq] at h3
   obtain⟨h3,h4⟩:=h3
   exact⟨h4.symm,fun H2 ha=>⟨ps,aR ha h1,r,h2,by rw[if_pos h5,h3]⟩⟩
  ·cases h3
 |Yb hh _ _ _ _ _=>cases hh <;> simp[yd.cls,Cf.isLit,Cf.Oj] at hc
 |cV hh _=>cases hh <;> simp[yd.cls,Cf.isLit,Cf.Oj] at hc
 |Tg hh _ _ _ _ _ _=>cases hh <;> simp[yd.cls,Cf.isLit,Cf.Oj] at hc
 |append o hh _ _ _ _ _=>cases o <;> cases hh <;> simp[yd.cls,Cf.Oj] at hc
 |_=>simp[yd.cls] at hc
theorem EX {call:Za} {e:Tr} {H H':List ba} {op:yd} {v:AV} (hc:op.cls=2) (h:ua call e H op=some (v,H')):Ts H H'∧Ts H' H:=by
 cases op with
 |Yb hh sz ag len z ps=>
  cases hh with
  |uq=>
   simp only[ua] at h
   cases hf:Io (Lj z len) (ps.map fun p=>(p.1 * sz,sz,Zi e p.2)) with
   |none=>simp[hf] at h
   |some cs=>
    simp only[hf,Option.bind_some] at h
    split at h
    ·exact tD h
    ·cases h
  |lit=>simp[yd.cls,Cf.isLit,Cf.Oj] at hc
  |own=>simp[yd.cls,Cf.isLit,Cf.Oj] at hc
 |cV hh x=>
  cases hh with
  |uq=>
   simp only[ua] at h
   split at h
   ·exact tD h
   ·cases h
  |lit=>simp[yd.cls,Cf.isLit,Cf.Oj] at hc
  |own=>simp[yd.cls,Cf.isLit,Cf.Oj] at hc
 |Tg hh sz ag z b l c=>
  cases hh with
  |uq=>
   simp only[ua] at h
   cases hl:asInt (l.ev e) with
   |none=>simp[hl] at h
   |some l=>
    cases hcc:asInt (c.ev e) with
    |none=>simp[hl,hcc] at h
    |some c=>
     simp only[hl,hcc,Option.bind_some] at h
     split at h
     ·exact tD h
     ·cases h
  |lit=>simp[yd.cls,Cf.isLit,Cf.Oj] at hc
  |own=>simp[yd.cls,Cf.isLit,Cf.Oj] at hc
 |append o hh sz ag b s x=>
  cases o with
  |true=>simp[yd.cls] at hc
  |false=>
   simp only[ua,ic,Bool.false_eq_true,if_false] at h
   split at h
   ·split at h
    ·rename_i hid
     simp only[Option.bind_eq_some_iff] at h
     obtain⟨ys,h1,h2⟩:=h
     split at h2
     ·simp only[Option.some.injEq,Prod.mk.injEq] at h2
      obtain⟨_,rfl⟩:=h2
      exact Ts.pV hid _ _ _
     ·cases h2
    ·cases h
   ·simp only[Option.bind_eq_some_iff] at h
    obtain⟨ys,h1,h2⟩:=h
    split at h2
    ·unfold bp at h2
     split at h2
     ·simp only[Option.some.injEq,Prod.mk.injEq] at h2
      obtain⟨_,rfl⟩:=h2
      exact⟨Ts.refl _,Ts.refl _⟩
     ·split at h2
      ·simp only[Option.some.injEq,Prod.mk.injEq] at h2
       obtain⟨_,rfl⟩:=h2
       exact⟨Ts.refl _,Ts.refl _⟩
      ·simp only[Option.some.injEq,Prod.mk.injEq] at h2
       obtain⟨_,rfl⟩:=h2
       exact⟨Ts.push _ _,Ts.VI _ _ _ _⟩
      ·cases h2
    ·cases h2
   ·cases h
 |_=>simp[yd.cls] at hc
theorem eY {call:Za} {e:Tr} {H H':List ba} {op:yd} {v:AV} (hc:op.cls=3) (h:ua call e H op=some (v,H')):Ts H H':=by
 cases op with
 |alloc z=>simp only[ua,Option.some.injEq,Prod.mk.injEq] at h;obtain⟨_,rfl⟩:=h;exact Ts.push _ _
 |box n x=>
  simp only[ua] at h
  split at h
  ·simp only[Option.some.injEq,Prod.mk.injEq] at h;obtain⟨_,rfl⟩:=h;exact Ts.push _ _
  ·cases h
 |Yb hh sz ag len z ps=>
  cases hh with
  |own=>
   simp only[ua] at h
   cases hf:Io (Lj z len) (ps.map fun p=>(p.1 * sz,sz,Zi e p.2)) with
   |none=>simp[hf] at h
   |some cs=>
    simp only[hf,Option.bind_some] at h
    split at h
    ·exact cA h
    ·cases h
  |lit=>simp[yd.cls,Cf.isLit,Cf.Oj] at hc
  |uq=>simp[yd.cls,Cf.isLit,Cf.Oj] at hc
 |cV hh x=>
  cases hh with
  |own=>
   simp only[ua] at h
   split at h
   ·exact cA h
   ·cases h
  |lit=>simp[yd.cls,Cf.isLit,Cf.Oj] at hc
  |uq=>simp[yd.cls,Cf.isLit,Cf.Oj] at hc
 |Tg hh sz ag z b l c=>
  cases hh with
  |own=>
   simp only[ua] at h
   cases hl:asInt (l.ev e) with
   |none=>simp[hl] at h
   |some l=>
    cases hcc:asInt (c.ev e) with
    |none=>simp[hl,hcc] at h
    |some c=>
     simp only[hl,hcc,Option.bind_some] at h
     split at h
     ·exact cA h
     ·cases h
  |lit=>simp[yd.cls,Cf.isLit,Cf.Oj] at hc
  |uq=>simp[yd.cls,Cf.isLit,Cf.Oj] at hc
 |append o hh _ _ _ _ _=>cases o <;> cases hh <;> simp[yd.cls,Cf.Oj] at hc
 |_=>simp[yd.cls] at hc
def iT (x y:Nat):Bool:=x==0||y==0||(x==1&&decide (y≤3))||(x==2&&y==1)
def ib.cls (o:ib):Nat:=if o.pr then 0 else o.op.cls
theorem xw {call:Za} {e e':Tr} {H:List ba} {o:ib} (h:JX (fun n=>o.op.look n) e e'):Uj call e H o=Uj call e' H o:=by
 unfold Uj
 rw[gz h,gz (H:=H) h]
theorem KJ {H:List ba} {r:Option (AV×List ba)} {v:AV} {H':List ba} (h:CW H r=some (v,H')):r=some (v,[])∧H'=H:=by
 unfold CW at h
 split at h
 ·simp only[Option.some.injEq,Prod.mk.injEq] at h
  obtain⟨rfl,rfl⟩:=h
  exact⟨rfl,rfl⟩
 ·cases h
theorem sR {call:Za} {e:Tr} {H H':List ba} {o:ib} {v:AV} (hc:o.cls=0) (h:Uj call e H o=some (v,H')):H'=H∧∀ H2,Uj call e H2 o=some (v,H2):=by
 unfold Uj ib.cls at *
 cases hp:o.pr with
 |true=>
  simp only[hp,cond_true] at h ⊢
  obtain⟨h1,rfl⟩:=KJ h
  exact⟨rfl,fun H2=>by rw[h1];rfl⟩
 |false=>simp only[hp,cond_false,Bool.false_eq_true,if_false] at h hc ⊢;exact LX hc h
theorem nV {call:Za} {e:Tr} {H:List ba} {o:ib} (hc:o.cls≠0):Uj call e H o=ua call e H o.op∧o.cls=o.op.cls:=by
 unfold Uj ib.cls at *
 cases hp:o.pr with
 |true=>simp[hp] at hc
 |false=>simp
theorem WR {call:Za} {e:Tr} {H H1 H2:List ba} {x y:ib} {v1 v2:AV} (hc:iT x.cls y.cls=true)
 (h1:Uj call e H x=some (v1,H1)) (h2:Uj call e H1 y=some (v2,H2)):
 ∃ H3,Uj call e H y=some (v2,H3)∧Uj call e H3 x=some (v1,H2):=by
 simp only[iT,Bool.or_eq_true,beq_iff_eq,Bool.and_eq_true,decide_eq_true_eq] at hc
 rcases hc with ((hx | hy) | ⟨hx,hy⟩) | ⟨hx,hy⟩
 ·obtain⟨rfl,h⟩:=sR hx h1
  exact⟨H2,h2,h H2⟩
 ·obtain⟨rfl,h⟩:=sR hy h2
  exact⟨H,h H,h1⟩
 ·have kx:=fun H=>nV (call:=call) (e:=e) (H:=H) (o:=x) (by omega)
  rw[(kx H).1] at h1
  rw[(kx H).2] at hx
  obtain⟨rfl,h⟩:=CU hx h1
  refine⟨H2,h2,?_⟩
  rw[(kx H2).1]
  refine h H2 ?_
  by_cases hy0:y.cls=0
  ·rw[(sR hy0 h2).1];exact Ts.refl _
  ·have ky:=nV (call:=call) (e:=e) (H:=H1) hy0
   rw[ky.1] at h2
   rw[ky.2] at hy hy0
   have:y.op.cls=1∨y.op.cls=2∨y.op.cls=3:=by omega
   rcases this with hy | hy | hy
   ·rw[(CU hy h2).1];exact Ts.refl _
   ·exact (EX hy h2).1
   ·exact eY hy h2
 ·have kx:=fun H=>nV (call:=call) (e:=e) (H:=H) (o:=x) (by omega)
  have ky:=fun H=>nV (call:=call) (e:=e) (H:=H) (o:=y) (by omega)
  rw[(kx H).1] at h1
  rw[(kx H).2] at hx
  rw[(ky H1).1] at h2
  rw[(ky H).2] at hy
  obtain⟨rfl,h⟩:=CU hy h2
  exact⟨H,by rw[(ky H).1];exact h H (EX hx h1).2,by rw[(kx H).1];exact h1⟩
end Go.AM
namespace Go.AM
open Go.RowKit
def XF (s s':St):Prop:=s.H=s'.H∧∀ t,s.env.get t=s'.env.get t
theorem XF.refl (s:St):XF s s:=⟨rfl,fun _=>rfl⟩
theorem XF.symm {s s':St} (h:XF s s'):XF s' s:=⟨h.1.symm,fun t=>(h.2 t).symm⟩
theorem XF.trans {s s' s'':St} (h:XF s s') (k:XF s' s''):XF s s'':=⟨h.1.trans k.1,fun t=>(h.2 t).trans (k.2 t)⟩
def ib.look (n:Nat) (o:ib):Bool:=o.op.look n||(match o.guard with | some (t,_)=>n==t | none=>false)
def cB (d:Option Nat) (p:Nat→Bool):Bool:=
 match d with
 |some d=>p d
 |none=>false
def LG (x y:ib):Bool:=
 !cB x.dst (fun d=>y.look d)&& !cB y.dst (fun d=>x.look d)&& !cB x.dst (fun d=>y.dst==some d)&&iT x.cls y.cls
theorem Sr {e e':Tr} {g:Option (Nat×Bool)} (h:∀ t b,g=some (t,b)→e.get t=e'.get t):Eg e g=Eg e' g:=by
 cases g with
 |none=>rfl
 |some g=>obtain⟨t,b⟩:=g;simp only[Eg,h t b rfl]
theorem Sv (e:Tr) (d:Option Nat) (v:AV) (t:Nat):(Ro e d v).get t=if d=some t then v else e.get t:=by
 cases d with
 |none=>simp[Ro]
 |some d=>
  simp only[Ro,Tr.aa,Option.some.injEq]
  by_cases h:t=d
  ·subst h;simp
  ·simp[h,Ne.symm h]
theorem sD {call:Za} {o:ib} {e e':Tr} {H:List ba} (h:∀ n,o.look n=true→e.get n=e'.get n) {s1:St} (h1:Qd call o ⟨e,H⟩=some s1):
 ∃ v,s1.env=Ro e o.dst v∧Qd call o ⟨e',H⟩=some ⟨Ro e' o.dst v,s1.H⟩:=by
 have hw:Eg e o.guard=Eg e' o.guard:=Sr fun t b hg=>h t (by simp[ib.look,hg])
 have ho:Uj call e H o=Uj call e' H o:=xw fun n hn=>h n (by simp[ib.look,hn])
 unfold Qd at h1 ⊢
 simp only at h1 ⊢
 rw[← hw]
 cases hc:Eg e o.guard with
 |none=>simp[hc,Dm] at h1
 |some b=>
  cases b with
  |true=>
   simp only[hc,Dm,iM] at h1 ⊢
   rw[← ho]
   cases hv:Uj call e H o with
   |none=>simp[hv,yA] at h1
   |some r=>
    obtain⟨v,H'⟩:=r
    simp only[hv,yA,Option.some.injEq] at h1 ⊢
    subst h1
    exact⟨v,rfl,rfl⟩
  |false=>
   simp only[hc,Dm,xy,Option.some.injEq] at h1 ⊢
   subst h1
   exact⟨_,rfl,rfl⟩
theorem oH {call:Za} {o:ib} {s s' s1:St} (he:XF s s') (h:Qd call o s=some s1):∃ s1',Qd call o s'=some s1'∧XF s1 s1':=by
 obtain⟨e,H⟩:=s
 obtain⟨e',H'⟩:=s'
 obtain⟨h1,h2⟩:=he
 simp only at h1 h2
 subst h1
 obtain⟨v,hv,hh⟩:=sD (e':=e') (fun n _=>h2 n) h
 refine⟨_,hh,rfl,fun t=> ?_⟩
 simp only[hv,Sv,h2]
theorem xK {call:Za} {os:List ib}:∀ {s s' s1:St},XF s s'→cg call os s=some s1→∃ s1',cg call os s'=some s1'∧XF s1 s1':=by
 induction os with
 |nil=>intro s s' s1 he h;simp only[cg,Option.some.injEq] at h ⊢;subst h;exact⟨s',rfl,he⟩
 |cons o os ih=>
  intro s s' s1 he h
  simp only[cg] at h ⊢
  cases ho:Qd call o s with
  |none=>simp[ho,Tq] at h
  |some s2=>
   simp only[ho,Tq] at h
   obtain⟨s2',h2,e2⟩:=oH he ho
   obtain⟨s1',h3,e3⟩:=ih e2 h
   exact⟨s1',by simp[h2,Tq,h3],e3⟩
theorem Jp {call:Za} {o:ib} {e:Tr} {H:List ba} {s1:St} (h:Qd call o ⟨e,H⟩=some s1):
 (Eg e o.guard=some true∧∃ v,Uj call e H o=some (v,s1.H)∧s1.env=Ro e o.dst v)∨
 (Eg e o.guard=some false∧s1=⟨Ro e o.dst (.pv (.Zb [])),H⟩):=by
 unfold Qd at h
 simp only at h
 cases hc:Eg e o.guard with
 |none=>simp[hc,Dm] at h
 |some b=>
  cases b with
  |true=>
   simp only[hc,Dm,iM] at h
   cases hv:Uj call e H o with
   |none=>simp[hv,yA] at h
   |some r=>
    obtain⟨v,H'⟩:=r
    simp only[hv,yA,Option.some.injEq] at h
    subst h
    exact .inl ⟨rfl,v,by simp,rfl⟩
  |false=>
   simp only[hc,Dm,xy,Option.some.injEq] at h
   exact .inr ⟨rfl,h.symm⟩
theorem Uq {call:Za} {o:ib} {e:Tr} {H H':List ba} {v:AV} (h:Eg e o.guard=some true) (hv:Uj call e H o=some (v,H')):
 Qd call o ⟨e,H⟩=some ⟨Ro e o.dst v,H'⟩:=by
 simp[Qd,h,Dm,iM,hv,yA]
theorem Wn {call:Za} {o:ib} {e:Tr} {H:List ba} (h:Eg e o.guard=some false):
 Qd call o ⟨e,H⟩=some ⟨Ro e o.dst (.pv (.Zb [])),H⟩:=by
 simp[Qd,h,Dm,xy]
theorem Yy {e:Tr} {x y:Option Nat} {v u:AV} (h:∀ d,x=some d→y≠some d) (t:Nat):(Ro (Ro e x v) y u).get t=(Ro (Ro e y u) x v).get t:=by
 simp only[Sv]
 by_cases hx:x=some t
 ·have:=h t hx
  simp[hx,this]
 ·simp[hx]
theorem YQ {call:Za} {x y:ib} {s s1 s2:St} (hc:LG x y=true) (h1:Qd call x s=some s1) (h2:Qd call y s1=some s2):
 ∃ s3 s4,Qd call y s=some s3∧Qd call x s3=some s4∧XF s2 s4:=by
 obtain⟨e,H⟩:=s
 simp only[LG,Bool.and_eq_true,Bool.not_eq_true'] at hc
 obtain⟨⟨⟨ca,cb⟩,cc⟩,cd⟩:=hc
 have ha:∀ d,x.dst=some d→y.look d=false:=fun d hd=>by simpa[cB,hd] using ca
 have hb:∀ d,y.dst=some d→x.look d=false:=fun d hd=>by simpa[cB,hd] using cb
 have hcc:∀ d,x.dst=some d→y.dst≠some d:=fun d hd he=>by simp[cB,hd,he] at cc
 have lx:∀ (e:Tr) (u:AV) n,x.look n=true→(Ro e y.dst u).get n=e.get n:=fun e u n hn=>by
  rw[Sv]
  by_cases hd:y.dst=some n
  ·rw[hb n hd] at hn;cases hn
  ·simp[hd]
 have ly:∀ (e:Tr) (u:AV) n,y.look n=true→(Ro e x.dst u).get n=e.get n:=fun e u n hn=>by
  rw[Sv]
  by_cases hd:x.dst=some n
  ·rw[ha n hd] at hn;cases hn
  ·simp[hd]
 have wx:∀ (e:Tr) u,Eg (Ro e y.dst u) x.guard=Eg e x.guard:=fun e u=>Sr fun t b hg=>lx e u t (by simp[ib.look,hg])
 have wy:∀ (e:Tr) u,Eg (Ro e x.dst u) y.guard=Eg e y.guard:=fun e u=>Sr fun t b hg=>ly e u t (by simp[ib.look,hg])
 have ox:∀ (e:Tr) u H,Uj call (Ro e y.dst u) H x=Uj call e H x:=fun e u H=>xw fun n hn=>lx e u n (by simp[ib.look,hn])
 have oy:∀ (e:Tr) u H,Uj call (Ro e x.dst u) H y=Uj call e H y:=fun e u H=>xw fun n hn=>ly e u n (by simp[ib.look,hn])
 obtain⟨e1,H1⟩:=s1
 obtain⟨e2,H2⟩:=s2
 rcases Jp h1 with⟨g1,v1,q1,r1⟩ | ⟨g1,r1⟩
 ·simp only at q1 r1
  subst r1
  rcases Jp h2 with⟨g2,v2,q2,r2⟩ | ⟨g2,r2⟩
  ·simp only at q2 r2
   subst r2
   rw[wy] at g2
   rw[oy] at q2
   obtain⟨H3,k1,k2⟩:=WR cd q1 q2
   exact⟨_,_,Uq g2 k1,Uq (by rw[wx];exact g1) (by rw[ox];exact k2),rfl,fun t=>Yy hcc t⟩
  ·injection r2 with r2 r3
   subst r2 r3
   rw[wy] at g2
   exact⟨_,_,Wn g2,Uq (by rw[wx];exact g1) (by rw[ox];exact q1),rfl,fun t=>Yy hcc t⟩
 ·injection r1 with r1 r3
  subst r1 r3
  rcases Jp h2 with⟨g2,v2,q2,r2⟩ | ⟨g2,r2⟩
  ·simp only at q2 r2
   subst r2
   rw[wy] at g2
   rw[oy] at q2
   exact⟨_,_,Uq g2 q2,Wn (by rw[wx];exact g1),rfl,fun t=>Yy hcc t⟩
  ·injection r2 with r2 r3
   subst r2 r3
   rw[wy] at g2
   exact⟨_,_,Wn g2,Wn (by rw[wx];exact g1),rfl,fun t=>Yy hcc t⟩
theorem dX {call:Za} {y:ib} {rest:List ib}:∀ {pre:List ib} {s s':St},(∀ x∈pre,LG x y=true)→cg call (pre++y::rest) s=some s'→
 ∃ s1 s'',Qd call y s=some s1∧cg call (pre++rest) s1=some s''∧XF s' s'':=by
 intro pre
 induction pre with
 |nil=>
  intro s s' _ h
  simp only[List.nil_append,cg] at h ⊢
  cases ho:Qd call y s with
  |none=>simp[ho,Tq] at h
  |some s1=>simp only[ho,Tq] at h;exact⟨s1,s',rfl,h,XF.refl _⟩
 |cons x pre ih=>
  intro s s' hc h
  simp only[List.cons_append,cg] at h ⊢
  cases ho:Qd call x s with
  |none=>simp[ho,Tq] at h
  |some s1=>
   simp only[ho,Tq] at h
   obtain⟨s2,s'',k1,k2,k3⟩:=ih (fun z hz=>hc z (by simp[hz])) h
   obtain⟨s3,s4,j1,j2,j3⟩:=YQ (hc x (by simp)) ho k1
   obtain⟨s5,i1,i2⟩:=xK j3 k2
   exact⟨s3,s5,j1,by simp[j2,Tq,i1],k3.trans i2⟩
def mark (D:Nat):Deferred:={target:= .collected D,args:= #[]}
def Marks (w w':World) (a a':Act):Prop:=∃ Ds:List Nat,a'.defers=Ds.map mark++a.defers∧Ds.Nodup∧∀ D∈Ds,w.heap.size≤D∧w'.heap[D]? =some (.deferred (some []))
theorem Marks.same {w w':World} {a a':Act} (h:a'.defers=a.defers):Marks w w' a a':=⟨[],h,.nil,fun _ h=>by cases h⟩
theorem Marks.trans {B0:lg} {w w' w'':World} {a a' a'':Act} (h:Marks w w' a a') (k:Marks w' w'' a' a'') (hb:eh B0 w' w'') (hs:w.heap.size≤w'.heap.size):Marks w w'' a a'':=by
 obtain⟨D1,e1,n1,k1⟩:=h
 obtain⟨D2,e2,n2,k2⟩:=k
 refine⟨D2++D1,by rw[e2,e1];simp,List.nodup_append.2 ⟨n2,n1,fun x hx y hy e=> ?_⟩,fun D hD=> ?_⟩
 ·subst e
  have:=Wl (k1 x hy).2
  have:=(k2 x hx).1
  omega
 ·rcases List.mem_append.1 hD with h | h
  ·exact⟨Nat.le_trans hs (k2 D h).1,(k2 D h).2⟩
  ·exact⟨(k1 D h).1,hb.Be _ _ (k1 D h).2 rfl⟩
def II:Option Nat→Fence
 |none=>Fence.wide
 |some l=>Fence.wide.inRound l
theorem kT (ro:Option Nat) (f:FuncId):(II ro).fn f:=by cases ro <;> trivial
theorem vG (ro:Option Nat):(II ro).depth=none:=by cases ro <;> rfl
theorem uL {P:Program} {n:Nat} {f:FuncId} {args:Array Value} {w:World} {R:Ending→World→Prop} (ro:Option Nat) (h:Calls P f args w R):CallsIn (II ro) n P f args w R:=by
 cases ro with
 |none=>exact callsIn_wide.2 h
 |some l=>exact (callsIn_wide (n:=n)).2 h
theorem OQ {P:Program} {n:Nat} {row:String} {args:Array Value} {w:World} {R:Value→World→Prop} (ro:Option Nat) (h:Rows P row args w R):RowsIn (II ro) n P row args w R:=by
 have:RowsIn Fence.wide n P row args w R:=fun c cs _=>let ⟨v,w',r,s⟩:=h c cs;⟨v,w',r,stepsIn_wide.2 s⟩
 cases ro with
 |none=>exact this
 |some l=>exact this
theorem mE {P:Program} {n:Nat} {o:Oper} {a:Act} {w:World} {next:Act→World→Prop} {Q:Exit→Act→World→Prop} (ro:Option Nat) (hd:∀ c,o.op≠ .defer c) (h:o.wp P a w next Q):o.wpIn (II ro) n P a w next Q:=by
 refine⟨fun f _=>kT ro f,?_⟩
 rw[Oper.semAt_eq _ _ _ hd]
 unfold Oper.wp at h
 generalize (execOp a.eval o).run P w=r at h ⊢
 cases r with
 |ok x w'=>
  cases x <;> simp only[Oper.upon,Oper.uponIn] at h ⊢ <;> first
   |exact h
   |exact⟨fun hx=>by (rw[vG] at hx;cases hx),uL ro h⟩
   |exact⟨fun hx=>by (rw[vG] at hx;cases hx),OQ ro h⟩
   |exact h.elim
 |halt x w'=>cases x <;> simp only[Oper.upon,Oper.uponIn] at h ⊢ <;> exact h
structure Um (fo:Nat→FuncId) (B0:lg) (w:World) (R:Rd) (φ:Pl) (H:List ba) (a:Act) (w':World) (R':Rd) (φ':Pl) (s':St) (a':Act):Prop where
 rel:uc fo B0 w' R' φ' s'.H
 env:Xi fo (K R' φ' s'.H) s'.env a'
 mono:∀ x u,K R φ H x u→K R' φ' s'.H x u
 below:eh B0 w w'
 size:a'.tmps.size=a.tmps.size
 defers:Marks w w' a a'
section
variable {P:Program} {fo:Nat→FuncId} {B0:lg} {call:Za}
theorem Um.refl {w:World} {R:Rd} {φ:Pl} {s:St} {a:Act} (hS:uc fo B0 w R φ s.H) (hE:Xi fo (K R φ s.H) s.env a):Um fo B0 w R φ s.H a w R φ s a:=
 ⟨hS,hE,fun _ _ h=>h,eh.refl _ _,rfl,.same rfl⟩
theorem Um.trans {w w' w'':World} {R R' R'':Rd} {φ φ' φ'':Pl} {H:List ba} {s' s'':St} {a a' a'':Act}
 (h:Um fo B0 w R φ H a w' R' φ' s' a') (k:Um fo B0 w' R' φ' s'.H a' w'' R'' φ'' s'' a''):Um fo B0 w R φ H a w'' R'' φ'' s'' a'':=
 ⟨k.rel,k.env,fun x u hx=>k.mono _ _ (h.mono _ _ hx),h.below.trans k.below,k.size.trans h.size,h.defers.trans k.defers k.below h.below.size⟩
theorem Um.eqv {w w':World} {R R':Rd} {φ φ':Pl} {H:List ba} {s' s'':St} {a a':Act} (h:Um fo B0 w R φ H a w' R' φ' s' a') (he:XF s' s''):Um fo B0 w R φ H a w' R' φ' s'' a':=by
 obtain⟨e1,e2⟩:=he
 exact⟨e1 ▸ h.rel,fun t=>by rw[← e2,←e1];exact h.env t,e1 ▸ h.mono,h.below,h.size,h.defers⟩
theorem uc.drew {w w':World} {R:Rd} {φ:Pl} {H:List ba} (h:uc fo B0 w R φ H) (hw:w'.heap=w.heap):uc fo B0 w' R φ H:=by
 have hb:∀ b arr,yx w b arr→yx w' b arr:=fun b arr hb=>hb.Be (by rw[hw])
 refine⟨by rw[hw];exact h.low,fun b o v hv=>by rw[← h.sub b o v hv];simp[World.cell?,hw],fun id o ho=> ?_,h.inj,h.xo,fun k hk=>by rw[hw];exact h.slt k hk,h.free⟩
 have:=h.obj id o ho
 cases o with
 |box cells=>exact⟨this.1,this.2.1,this.2.2.1,this.2.2.2.imp fun arr q=>⟨hb _ _ q.1,q.2⟩⟩
 |seq sz ag cells fl nl=>exact⟨this.1,this.2.1,this.2.2.1,this.2.2.2.1,fun e=>⟨(this.2.2.2.2 e).1,(this.2.2.2.2 e).2.1,(this.2.2.2.2 e).2.2.imp fun arr q=>⟨hb _ _ q.1,q.2⟩⟩⟩
 |tok sz n nl=>exact⟨this.1,this.2.1,fun e=>⟨(this.2.2 e).1,(this.2.2 e).2.1,(this.2.2 e).2.2.imp fun arr q=>⟨hb _ _ q.1,q.2⟩⟩⟩
 |map es=>
  obtain⟨h1,h2,ents,clk,h3,h4⟩:=this
  exact⟨h1,h2,ents,clk,by rw[hw];exact h3,h4⟩
 |dead=>trivial
theorem Xi.put {k:AV→Value→Prop} {e:Tr} {a:Act} (h:Xi fo k e a) (d:Option Nat) (hd:∀ t,d=some t→t < a.tmps.size) {v:AV} {u:Value} (hv:Oc fo k v u):
 Xi fo k (Ro e d v) (a.put d u):=by
 intro t
 rw[Sv]
 cases d with
 |none=>simp only[reduceCtorEq,if_false];exact h t
 |some d=>
  by_cases ht:d=t
  ·subst ht
   simp only[if_true,Act.put]
   rw[Array.getD_eq_getD_getElem?,Array.getElem?_setIfInBounds_self_of_lt (hd d rfl)]
   exact hv
  ·simp only[Option.some.injEq,ht,if_false,Act.put]
   rw[Array.getD_eq_getD_getElem?,Array.getElem?_setIfInBounds_ne ht,←Array.getD_eq_getD_getElem?]
   exact h t
def fy (nt:Nat) (ops:Array Oper) (o:Oper) (ao:ib):Bool:=
 o.dst==ao.dst&&(match o.dst with | some d=>decide (d < nt) | none=>true)&&
 (match o.guard,ao.guard with
 |none,none=>true
 |some (g,want),some (t,want')=>want==want'&&((ops[g]?).bind (·.dst))==some t
 |_,_=>false)
def oX (P:Program) (fo:Nat→FuncId) (B0:lg) (call:Za) (o:Oper) (ao:ib):Prop:=
 ∀ (w:World) (R:Rd) (φ:Pl) (e:Tr) (H H':List ba) (a:Act) (v:AV),uc fo B0 w R φ H→Xi fo (K R φ H) e a→Uj call e H ao=some (v,H')→Nz P fo B0 o a w R φ H v H'
theorem eG {nt:Nat} {ops:Array Oper} {o:Oper} {ao:ib} (hk:fy nt ops o ao=true) {k:AV→Value→Prop} {R:Rd} {φ:Pl} {H:List ba} {e:Tr} {a:Act} (hE:Xi fo (K R φ H) e a) {b:Bool}
 (h:Eg e ao.guard=some b):Region.wanted o (yielded ops a.tmps)=b:=by
 simp only[fy,Bool.and_eq_true] at hk
 obtain⟨_,hg⟩:=hk
 unfold Region.wanted
 cases h1:o.guard with
 |none=>
  cases h2:ao.guard with
  |none=>simp[h2,Eg] at h;simp[h]
  |some g=>simp[h1,h2] at hg
 |some g=>
  obtain⟨g,want⟩:=g
  cases h2:ao.guard with
  |none=>simp[h1,h2] at hg
  |some g'=>
   obtain⟨t,want'⟩:=g'
   simp only[h1,h2,Bool.and_eq_true,beq_iff_eq] at hg
   obtain⟨rfl,hg⟩:=hg
   have ht:=hE t
   simp only[h2,Eg] at h
   simp only[yielded,hg,Option.bind_some]
   split at h
   ·rename_i b' hb
    rw[hb] at ht
    have:=ht.Qb
    injection h with h
    cases hv:a.tmps[t]? with
    |none=>rw[Array.getD_eq_getD_getElem?,hv] at this;cases this
    |some v=>
     rw[Array.getD_eq_getD_getElem?,hv] at this
     simp only[Option.getD_some] at this
     cases this
     simp only[← h]
     cases b' <;> cases want <;> rfl
   ·rename_i hb
    rw[hb] at ht
    have:=ht.Qb
    injection h with h
    subst h
    cases hv:a.tmps[t]? with
    |none=>simp
    |some v=>
     rw[Array.getD_eq_getD_getElem?,hv] at this
     simp only[Option.getD_some] at this
     cases this
     simp
   ·cases h
theorem wJ {nt:Nat} {ops:Array Oper} {i:Nat} {o:Oper} {ao:ib} (hi:ops[i]? =some o) (hk:fy nt ops o ao=true) (ho:oX P fo B0 call o ao) (hnd:∀ c,o.op≠ .defer c) (ro:Option Nat) {n:Nat}
 {w:World} {R:Rd} {φ:Pl} {s s1:St} {a:Act} (hS:uc fo B0 w R φ s.H) (hE:Xi fo (K R φ s.H) s.env a) (hn:a.tmps.size=nt) (h:Qd call ao s=some s1)
 {Q:Exit→Act→World→Prop} {next:Act→World→Prop} (hq:∀ a' w' R' φ',Um fo B0 w R φ s.H a w' R' φ' s1 a'→next a' w'):wpOpIn (II ro) n P ops Q i next a w:=by
 have hk':=hk
 simp only[fy,Bool.and_eq_true,beq_iff_eq] at hk'
 obtain⟨⟨hd,hlt⟩,_⟩:=hk'
 have hd':∀ t,ao.dst=some t→t < a.tmps.size:=fun t ht=>by rw[hd,ht] at hlt;rw[hn];simpa using hlt
 have sz:∀ (a:Act) (d:Option Nat) (u:Value),(a.put d u).tmps.size=a.tmps.size:=fun a d u=>by cases d <;> simp[Act.put]
 have df:∀ (a:Act) (d:Option Nat) (u:Value),(a.put d u).defers=a.defers:=fun a d u=>by cases d <;> rfl
 obtain⟨e,H⟩:=s
 unfold wpOpIn
 simp only[hi]
 rcases Jp h with⟨g,v,q,r⟩ | ⟨g,r⟩
 ·rw[eG (k:=fun _ _=>True) hk hE g]
  simp only[if_true]
  refine mE ro hnd (ho w R φ e H s1.H a v hS hE q next Q fun v' w' R' φ' h1 h2 h3 h4=>hq _ _ R' φ' ⟨h1,?_,h3,h4,sz _ _ _,.same (df _ _ _)⟩)
  rw[r,hd]
  exact (hE.mono h3).put ao.dst hd' h2
 ·rw[eG (k:=fun _ _=>True) hk hE g]
  simp only[Bool.false_eq_true,if_false]
  subst r
  refine⟨fun f _=>kT ro f,hq _ _ R φ ⟨hS,?_,fun _ _ h=>h,eh.refl _ _,sz _ _ _,.same (df _ _ _)⟩⟩
  rw[hd]
  exact hE.put ao.dst hd' (.atom _ _ (show Va R _ _ from .Zb _ _ .nil))
def JI (aops:List ib) (L:List Nat):List ib:=L.filterMap (aops[·]?)
theorem DJ {aops:List ib} {i:Nat} {ao:ib} (h:aops[i]? =some ao) (L:List Nat):JI aops (i::L)=ao::JI aops L:=by simp[JI,h]
theorem Ly (aops:List ib) (L M:List Nat):JI aops (L++M)=JI aops L++JI aops M:=by simp[JI]
theorem cH (aops:List ib):JI aops (List.range aops.length)=aops:=by
 suffices ∀ n,n≤aops.length→JI aops (List.range n)=aops.take n by simpa using this aops.length (Nat.le_refl _)
 intro n
 induction n with
 |zero=>intro _;simp[JI]
 |succ n ih=>
  intro h
  rw[List.range_succ,Ly,ih (by omega),List.take_add_one]
  simp[JI,List.getElem?_eq_getElem (show n < aops.length by omega)]
structure BJ (P:Program) (fo:Nat→FuncId) (B0:lg) (call:Za) (nt:Nat) (ops:Array Oper) (aops:List ib):Prop where
 len:aops.length=ops.size
 slot:∀ (i:Nat) (o:Oper) (ao:ib),ops[i]? =some o→aops[i]? =some ao→fy nt ops o ao=true
 GX:∀ (i:Nat) (o:Oper) (ao:ib),ops[i]? =some o→aops[i]? =some ao→oX P fo B0 call o ao
 nd:∀ (i:Nat) (o:Oper) (ao:ib),ops[i]? =some o→aops[i]? =some ao→∀ c,o.op≠ .defer c
theorem CV (ro:Option Nat) {n:Nat} {nt:Nat} {ops:Array Oper} {aops:List ib} (hs:BJ P fo B0 call nt ops aops) {Q:Exit→Act→World→Prop}:∀ (L:List Nat),(∀ i∈L,i < ops.size)→∀ {w:World} {R:Rd} {φ:Pl} {s s':St} {a:Act},
 uc fo B0 w R φ s.H→Xi fo (K R φ s.H) s.env a→a.tmps.size=nt→cg call (JI aops L) s=some s'→
 (∀ a' w' R' φ',Um fo B0 w R φ s.H a w' R' φ' s' a'→Q .normal a' w')→wpOpsIn (II ro) n P ops Q L a w:=by
 intro L
 induction L with
 |nil=>
  intro _ w R φ s s' a hS hE hn h hq
  simp only[JI,List.filterMap_nil,cg,Option.some.injEq] at h
  subst h
  exact hq _ _ R φ (.refl hS hE)
 |cons i L ih=>
  intro hL w R φ s s' a hS hE hn h hq
  have hi:i < ops.size:=hL i (by simp)
  have h1:ops[i]? =some ops[i]:=Array.getElem?_eq_getElem hi
  have h2:aops[i]? =some (aops[i]'(by rw[hs.len];exact hi)):=List.getElem?_eq_getElem _
  rw[DJ h2,cg] at h
  cases ho:Qd call (aops[i]'(by rw[hs.len];exact hi)) s with
  |none=>simp[ho,Tq] at h
  |some s1=>
   simp only[ho,Tq] at h
   rw[wpOpsIn_cons]
   refine wJ h1 (hs.slot _ _ _ h1 h2) (hs.GX _ _ _ h1 h2) (hs.nd _ _ _ h1 h2) ro hS hE hn ho fun a' w' R' φ' g=> ?_
   exact ih (fun j hj=>hL j (by simp[hj])) g.rel g.env (g.size.trans hn) h fun a'' w'' R'' φ'' g'=>hq _ _ _ _ (g.trans g')
theorem NL (ro:Option Nat) {n:Nat} {nt:Nat} {id:Nat} {ops:Array Oper} {aops:List ib} (hs:BJ P fo B0 call nt ops aops) {Q:Exit→Act→World→Prop} {w:World} {R:Rd} {φ:Pl} {s s':St} {a:Act}
 (hS:uc fo B0 w R φ s.H) (hE:Xi fo (K R φ s.H) s.env a) (hn:a.tmps.size=nt) (h:cg call aops s=some s')
 (hq:∀ a' w' R' φ',Um fo B0 w R φ s.H a w' R' φ' s' a'→Q .normal a' w'):(Code.region id ops false).wpIn (II ro) n P Q a w:=
 wpIn_region (CV ro hs _ (fun i hi=>List.mem_range.1 hi) hS hE hn (by rw[← hs.len,cH];exact h) hq)
def AL (ops:Array Oper):Nat→Nat→Nat→Bool
 |0,_,_=>false
 |f+1,j,i=>
  match ops[i]? with
  |some o=>o.after.toList.any fun e=>Region.binds .any e&&(e.on==j||(decide (j < e.on)&&AL ops f j e.on))
  |none=>false
def RL (ops:Array Oper) (aops:List ib):Bool:=
 (List.range ops.size).all fun i=>
  (match ops[i]? with | some o=>o.after.toList.all fun e=> !Region.binds .any e||decide (e.on < i) | none=>true)&&
  (List.range i).all fun j=>
   (match aops[j]?,aops[i]? with
   |some x,some y=>LG x y
   |_,_=>false)||AL ops 8 j i
def Zt (ops:Array Oper) (listed:Array Bool):List Nat:=(List.range ops.size).filter fun i=> !listed.getD i true
def PW (ops:Array Oper) (listed:Array Bool):Prop:=∀ f j k,AL ops f j k=true→listed.getD k true=true→k < ops.size→listed.getD j true=true
theorem FA {listed:Array Bool} {i:Nat} (h:i < listed.size):listed.getD i true=listed.getD i false:=by
 simp[Array.getD_eq_getD_getElem?,h]
theorem qU (ro:Option Nat) {nn:Nat} {nt:Nat} {ops:Array Oper} {aops:List ib} (hs:BJ P fo B0 call nt ops aops) (hd:RL ops aops=true) {Q:Exit→Act→World→Prop}:∀ (n:Nat) (listed:Array Bool) {w:World} {R:Rd} {φ:Pl} {s s' s'':St} {a:Act},
 (Zt ops listed).length≤n→listed.size=ops.size→PW ops listed→uc fo B0 w R φ s.H→Xi fo (K R φ s.H) s.env a→a.tmps.size=nt→
 cg call (JI aops (Zt ops listed)) s=some s''→XF s' s''→
 (∀ a' w' R' φ',Um fo B0 w R φ s.H a w' R' φ' s' a'→Q .normal a' w')→wpAnyIn (II ro) nn P .any ops Q n listed a w:=by
 have hdd:∀ i,i < ops.size→(∀ o,ops[i]? =some o→∀ e∈o.after,Region.binds .any e=true→e.on < i)∧∀ j,j < i→(∀ x y,aops[j]? =some x→aops[i]? =some y→LG x y=true)∨AL ops 8 j i=true:=by
  intro i hi
  have:=List.all_eq_true.1 hd i (List.mem_range.2 hi)
  simp only[Bool.and_eq_true] at this
  refine⟨fun o ho e he hb=> ?_,fun j hj=> ?_⟩
  ·have h1:=this.1
   simp only[ho] at h1
   have:=List.all_eq_true.1 h1 e (by simpa using he)
   simpa[hb] using this
  ·have h2:=List.all_eq_true.1 this.2 j (List.mem_range.2 hj)
   simp only[Bool.or_eq_true] at h2
   rcases h2 with h2 | h2
   ·left;intro x y hx hy;simpa[hx,hy] using h2
   ·exact .inr h2
 have empty:∀ (listed:Array Bool),listed.size=ops.size→Region.ready .any ops listed=[]→Zt ops listed=[]:=by
  intro listed hsz hr
  cases hrem:Zt ops listed with
  |nil=>rfl
  |cons i rest=>
   exfalso
   have hsorted:(Zt ops listed).Pairwise (· < ·):=List.Pairwise.filter _ List.pairwise_lt_range
   have hmem:i∈Zt ops listed:=by rw[hrem];simp
   have him:=List.mem_filter.1 hmem
   have hi:=List.mem_range.1 him.1
   have h1:ops[i]? =some ops[i]:=Array.getElem?_eq_getElem hi
   have:i∈Region.ready .any ops listed:=by
    rw[mem_ready]
    refine⟨by simpa using him.2,_,h1,fun e he hb=> ?_⟩
    have hlt:=(hdd i hi).1 _ h1 e he hb
    rw[← FA (by omega)]
    cases hg:listed.getD e.on true with
    |true=>rfl
    |false=>
     exfalso
     have:e.on∈Zt ops listed:=List.mem_filter.2 ⟨List.mem_range.2 (by omega),by simp[hg]⟩
     rw[hrem] at this hsorted
     rcases List.mem_cons.1 this with he' | he'
     ·omega
     ·have:=(List.pairwise_cons.1 hsorted).1 _ he';omega
   rw[hr] at this
   cases this
 have done:∀ (listed:Array Bool) {w:World} {R:Rd} {φ:Pl} {s s' s'':St} {a:Act},listed.size=ops.size→uc fo B0 w R φ s.H→Xi fo (K R φ s.H) s.env a→
  cg call (JI aops (Zt ops listed)) s=some s''→XF s' s''→(∀ a' w' R' φ',Um fo B0 w R φ s.H a w' R' φ' s' a'→Q .normal a' w')→Region.ready .any ops listed=[]→Q .normal a w:=by
  intro listed w R φ s s' s'' a hsz hS hE hev he hq hr
  rw[empty listed hsz hr] at hev
  simp only[JI,List.filterMap_nil,cg,Option.some.injEq] at hev
  subst hev
  exact hq _ _ R φ ((Um.refl hS hE).eqv he.symm)
 intro n
 induction n with
 |zero=>
  intro listed w R φ s s' s'' a hlen hsz hcl hS hE hn hev he hq
  have hnil:Zt ops listed=[]:=List.eq_nil_of_length_eq_zero (by omega)
  have hr:Region.ready .any ops listed=[]:=by
   cases hr:Region.ready .any ops listed with
   |nil=>rfl
   |cons i rest=>
    exfalso
    have hi:i∈Region.ready .any ops listed:=by rw[hr];simp
    obtain⟨h0,o,ho,_⟩:=mem_ready.1 hi
    have:i∈Zt ops listed:=List.mem_filter.2 ⟨List.mem_range.2 (Array.getElem?_eq_some_iff.1 ho).1,by simp[h0]⟩
    rw[hnil] at this;cases this
  exact⟨hr,done listed hsz hS hE hev he hq hr⟩
 |succ n ih=>
  intro listed w R φ s s' s'' a hlen hsz hcl hS hE hn hev he hq
  refine⟨done listed hsz hS hE hev he hq,fun i hi=> ?_⟩
  obtain⟨h0,o,ho,haft⟩:=mem_ready.1 hi
  have hilt:i < ops.size:=(Array.getElem?_eq_some_iff.1 ho).1
  have hao:aops[i]? =some (aops[i]'(by rw[hs.len];exact hilt)):=List.getElem?_eq_getElem _
  generalize aops[i]'(by rw[hs.len];exact hilt)=ao at hao
  have hmem:i∈Zt ops listed:=List.mem_filter.2 ⟨List.mem_range.2 hilt,by simp[h0]⟩
  have hsorted:(Zt ops listed).Pairwise (· < ·):=List.Pairwise.filter _ List.pairwise_lt_range
  obtain⟨pre,post,hsplit⟩:=List.append_of_mem hmem
  rw[hsplit] at hsorted
  rw[List.pairwise_append] at hsorted
  obtain⟨_,hs2,hs3⟩:=hsorted
  have hrem':Zt ops (listed.setIfInBounds i true)=pre++post:=by
   have:Zt ops (listed.setIfInBounds i true)=(Zt ops listed).filter (fun j=>decide (j≠i)):=by
    unfold Zt
    rw[List.filter_filter]
    apply List.filter_congr
    intro j hj
    by_cases hji:j=i
    ·subst hji
     have:(listed.setIfInBounds j true).getD j true=true:=by
      rw[Array.getD_eq_getD_getElem?,Array.getElem?_setIfInBounds_self_of_lt (by omega)];rfl
     simp[this]
    ·rw[getD_set_ne true (Ne.symm hji)];simp[hji]
   rw[this,hsplit,List.filter_append,List.filter_cons]
   simp only[ne_eq,not_true_eq_false,decide_false,Bool.false_eq_true,if_false]
   rw[List.filter_eq_self.2 fun j hj=>by have:=hs3 j hj i (by simp);simp;omega,
    List.filter_eq_self.2 fun j hj=>by have:=(List.pairwise_cons.1 hs2).1 j hj;simp;omega]
  have hcalm:∀ x∈JI aops pre,LG x ao=true:=by
   intro x hx
   simp only[JI,List.mem_filterMap] at hx
   obtain⟨j,hj,hxj⟩:=hx
   have hji:j < i:=hs3 j hj i (by simp)
   rcases (hdd i hilt).2 j hji with h | h
   ·exact h x ao hxj hao
   ·exfalso
    have hjmem:j∈Zt ops listed:=by rw[hsplit];simp[hj]
    have hj0:listed.getD j true=false:=by simpa using (List.mem_filter.1 hjmem).2
    rw[show (8:Nat)=7+1 from rfl] at h
    simp only[AL,ho] at h
    obtain⟨ed,hed,hb⟩:=List.any_eq_true.1 h
    simp only[Bool.and_eq_true,Bool.or_eq_true,beq_iff_eq,decide_eq_true_eq] at hb
    obtain⟨hb1,hb2⟩:=hb
    have hl:=haft ed (by simpa using hed) hb1
    have hlt:=(hdd i hilt).1 o ho ed (by simpa using hed) hb1
    have hl':listed.getD ed.on true=true:=by rw[FA (by omega)];exact hl
    rcases hb2 with rfl | ⟨_,hb2⟩
    ·rw[hl'] at hj0;cases hj0
    ·rw[hcl 7 j ed.on hb2 hl' (by omega)] at hj0;cases hj0
  rw[hsplit,Ly,DJ hao] at hev
  obtain⟨s1,s2,k1,k2,k3⟩:=dX hcalm hev
  refine wJ ho (hs.slot _ _ _ ho hao) (hs.GX _ _ _ ho hao) (hs.nd _ _ _ ho hao) ro hS hE hn k1 fun a' w' R' φ' g=> ?_
  refine ih (listed.setIfInBounds i true) (s':=s') (s'':=s2) ?_ (by simp[hsz]) ?_ g.rel g.env (g.size.trans hn) (by rw[hrem',Ly];exact k2) (he.trans k3) fun a'' w'' R'' φ'' g'=>hq _ _ _ _ (g.trans g')
  ·rw[hrem'];rw[hsplit] at hlen;simp at hlen ⊢;omega
  ·intro f j k hanc hk hklt
   by_cases hji:j=i
   ·subst hji
    rw[Array.getD_eq_getD_getElem?,Array.getElem?_setIfInBounds_self_of_lt (by omega)];rfl
   rw[getD_set_ne true (Ne.symm hji)]
   by_cases hki:k=i
   ·subst hki
    cases f with
    |zero=>simp[AL] at hanc
    |succ f=>
     simp only[AL,ho] at hanc
     obtain⟨ed,hed,hb⟩:=List.any_eq_true.1 hanc
     simp only[Bool.and_eq_true,Bool.or_eq_true,beq_iff_eq,decide_eq_true_eq] at hb
     obtain⟨hb1,hb2⟩:=hb
     have hl:=haft ed (by simpa using hed) hb1
     have hlt:=(hdd k hilt).1 o ho ed (by simpa using hed) hb1
     have hl':listed.getD ed.on true=true:=by rw[FA (by omega)];exact hl
     rcases hb2 with rfl | ⟨_,hb2⟩
     ·exact hl'
     ·exact hcl f j ed.on hb2 hl' (by omega)
   ·rw[getD_set_ne true (Ne.symm hki)] at hk
    exact hcl f j k hanc hk hklt
theorem OJ (ro:Option Nat) {n:Nat} {nt:Nat} {id:Nat} {ops:Array Oper} {aops:List ib} (hm:P.follows .mixedOrders=true) (hs:BJ P fo B0 call nt ops aops) (hd:RL ops aops=true) {Q:Exit→Act→World→Prop} {w:World} {R:Rd} {φ:Pl} {s s':St} {a:Act}
 (hS:uc fo B0 w R φ s.H) (hE:Xi fo (K R φ s.H) s.env a) (hn:a.tmps.size=nt) (h:cg call aops s=some s')
 (hq:∀ a' w' R' φ',Um fo B0 w R φ s.H a w' R' φ' s' a'→Q .normal a' w'):(Code.region id ops true).wpIn (II ro) n P Q a w:=by
 have hrem:Zt ops (Array.replicate ops.size false)=List.range ops.size:=by
  unfold Zt
  apply List.filter_eq_self.2
  intro i hi
  rw[List.mem_range] at hi
  simp[Array.getD_eq_getD_getElem?,hi]
 refine wpIn_region_any hm (qU ro hs hd ops.size _ (s':=s') (s'':=s') (s:=s) (R:=R) (φ:=φ) (by rw[hrem];simp) (by simp) ?_ (hS.drew rfl) hE hn ?_ (XF.refl _) ?_)
 ·intro f j k _ hk hlt
  simp[Array.getD_eq_getD_getElem?,hlt] at hk
 ·rw[hrem,←hs.len,cH];exact h
 ·intro a' w' R' φ' g
  exact hq _ _ _ _ ⟨g.rel,g.env,g.mono,eh.trans ⟨(RowKit.Below.refl _ w).drew,fun _ _ h _=>h,fun _ _=>rfl⟩ g.below,g.size,g.defers⟩
end
end Go.AM
namespace Go.AM
open Go.RowKit
section
variable {P:Program} {fo:Nat→FuncId} {B0:lg}
def Rw (w:World):Rd:=fun b o=>w.cell? ⟨b,o,none⟩
theorem DA {α β:Type} {f:α→Option β}:∀ {l:List α} {r:List β},Qa f l=some r→r.length=l.length∧∀ (i:Nat) (x:α),l[i]? =some x→∃ y,r[i]? =some y∧f x=some y:=by
 intro l
 induction l with
 |nil=>intro r h;simp[Qa] at h;subst h;exact⟨rfl,fun i x h=>by simp at h⟩
 |cons a l ih=>
  intro r h
  simp only[Qa,Option.bind_eq_some_iff,Option.some.injEq] at h
  obtain⟨b,h1,bs,h2,rfl⟩:=h
  obtain⟨k1,k2⟩:=ih h2
  refine⟨by simp[k1],fun i x hx=> ?_⟩
  cases i with
  |zero=>simp at hx;subst hx;exact⟨b,rfl,h1⟩
  |succ i=>simpa using k2 i x (by simpa using hx)
theorem cS {H:List ba} {d:Nat} {v:AV} {p:PV} (h1:v.one=true) (h:Ub H d v=some p):fF p=true:=by
 cases v with
 |pv q=>simp[Ub] at h;subst h;exact h1
 |uq id nl sz es=>simp[Ub] at h;subst h;cases nl <;> rfl
 |ptr id off=>
  cases d with
  |zero=>simp[Ub] at h
  |succ d=>
   simp only[Ub] at h
   split at h
   ·simp only[Option.map_eq_some_iff] at h;obtain⟨ps,_,rfl⟩:=h;rfl
   ·cases h
 |own id len=>
  cases d with
  |zero=>simp[Ub] at h
  |succ d=>
   simp only[Ub] at h
   split at h
   ·split at h
    ·rename_i nl _ _
     cases nl with
     |true=>simp at h;subst h;rfl
     |false=>simp only[Bool.false_eq_true,if_false,Option.map_eq_some_iff] at h;obtain⟨ps,_,rfl⟩:=h;rfl
    ·cases h
   ·cases h
 |Gc=>cases d <;> simp[Ub] at h
 |gl=>cases d <;> simp[Ub] at h
 |mp=>cases d <;> simp[Ub] at h
 |undef=>cases d <;> simp[Ub] at h
 |agg=>simp[AV.one] at h1
 |Zb=>simp[AV.one] at h1
theorem AQ {H:List ba} {d:Nat} {cs:List AV} {ps:List PV} (h1:cs.all AV.one=true) (h:Qa (Ub H d) cs=some ps):∀ p∈ps,fF p=true:=by
 obtain⟨k1,k2⟩:=DA h
 intro p hp
 obtain⟨i,hi⟩:=List.mem_iff_getElem?.1 hp
 have hlt:=getElem?_lt hi
 have hx:cs[i]? =some (cs[i]'(by omega)):=List.getElem?_eq_getElem _
 obtain⟨y,hy1,hy2⟩:=k2 i _ hx
 rw[hi] at hy1;injection hy1 with hy1;subst hy1
 exact cS (List.all_eq_true.1 h1 _ (List.getElem_mem _)) hy2
theorem PI {w:World} {R Q:Rd} {φ:Pl} {H:List ba} (hS:uc fo B0 w R φ H) (hsub:Sub R Q) (hQ:∀ b o v,B0.n≤b→w.cell? ⟨b,o,none⟩=some v→Q b o=some v):∀ (d:Nat) {v:AV} {u:Value} {p:PV},Oc fo (K R φ H) v u→Ub H d v=some p→Va Q p u:=by
 intro d
 induction d with
 |zero=>
  intro v u p hv h
  cases v with
  |pv q=>simp[Ub] at h;subst h;exact hv.Qb.mono hsub
  |uq id nl sz es=>
   simp[Ub] at h
   have h1:=hv.Xt
   cases nl with
   |true=>simp at h;subst h;rw[(h1.2.1 rfl).1];exact .pa
   |false=>simp at h;subst h;exact (h1.2.2.1 rfl).mono hsub
  |_=>simp[Ub] at h
 |succ d ih=>
  have many:∀ {cs:List AV} {ps:List PV} {vs:List Value},ab fo (K R φ H) cs vs→Qa (Ub H d) cs=some ps→ze Q ps vs:=by
   intro cs
   induction cs with
   |nil=>intro ps vs hl h;simp[Qa] at h;subst h;cases hl;exact .nil
   |cons c cs ihc=>
    intro ps vs hl h
    simp only[Qa,Option.bind_eq_some_iff,Option.some.injEq] at h
    obtain⟨b,h1,bs,h2,rfl⟩:=h
    cases hl with
    |cons _ _ v vs hc hcs=>exact .cons _ _ _ _ (ih hc h1) (ihc hcs h2)
  intro v u p hv h
  cases v with
  |pv q=>simp[Ub] at h;subst h;exact hv.Qb.mono hsub
  |uq id nl sz es=>
   simp[Ub] at h
   have h1:=hv.Xt
   cases nl with
   |true=>simp at h;subst h;rw[(h1.2.1 rfl).1];exact .pa
   |false=>simp at h;subst h;exact (h1.2.2.1 rfl).mono hsub
  |own id len=>
   simp only[Ub] at h
   split at h
   ·rename_i sz ag cells fl nl hid
    split at h
    ·rename_i hc
     obtain⟨hlen,vS⟩:=hc
     have h1:=hv.qz
     obtain⟨k0,k⟩:=h1.2.2 _ _ _ _ _ hid
     obtain⟨o0,o1,o2,oone,o3⟩:=hS.obj _ _ hid
     obtain⟨k1,k2⟩:=k (by omega)
     cases nl with
     |true=>simp at h;subst h;rw[k1 rfl];exact .pa
     |false=>
      simp only[Bool.false_eq_true,if_false,Option.map_eq_some_iff] at h
      obtain⟨ps,hps,rfl⟩:=h
      obtain⟨hbase,_,arr,hB,hsz,hle,hrel⟩:=o3 rfl
      rcases k2 rfl with⟨q1,q2,_⟩ | ⟨b,o,cap,rfl,q2,_⟩
      ·subst q1;exact absurd (List.eq_nil_of_length_eq_zero (by omega)) q2
      ·obtain⟨rfl,rfl,rfl⟩:=q2 hlen
       have hl:=many hrel hps
       have hone:=AQ oone hps
       have hplen:ps.length=len * sz:=by rw[(DA hps).1,hlen]
       obtain⟨c1,c2,c3⟩:=Hu sz ag (fun e=>by subst e;simpa using vS) len ps hplen hone
       have:=Va.lit (R:=Q) sz (chunk sz ag len ps) (φ id).1 0 (φ id).2 (by
        rw[c3]
        have:len * sz≤(φ id).2 * sz:=by rw[← hsz];omega
        exact Nat.le_of_mul_le_mul_right this o0) c2 (by
        rw[c1]
        refine yg.Mn hl (Ip hrel oone) fun i v hv=> ?_
        have hlt:=getElem?_lt hv
        rw[List.getElem?_take] at hv
        split at hv
        ·refine hQ _ _ _ hbase ?_
         rw[hB.cell,Nat.zero_add];simpa using hv
        ·cases hv)
       rw[c3] at this
       exact this
    ·cases h
   ·cases h
  |ptr id off=>
   simp only[Ub] at h
   split at h
   ·rename_i cells hid
    simp only[Option.map_eq_some_iff] at h
    obtain⟨ps,hps,rfl⟩:=h
    obtain⟨hbase,_,oone,arr,hB,hrel⟩:=hS.obj _ _ hid
    rw[hv.mI.2.2 _ hid]
    have:=Va.rp (R:=Q) ps off (φ id).1 0 (yg.Mn (many hrel hps) (Ip hrel oone) fun i v hv=>by
     refine hQ _ _ _ hbase ?_
     rw[hB.cell,Nat.zero_add];simpa using hv)
    rw[Nat.zero_add] at this
    exact this
   ·cases h
  |agg cs=>
   simp only[Ub,Option.map_eq_some_iff] at h
   obtain⟨ps,hps,rfl⟩:=h
   cases hv with
   |atom _ _ h=>exact h.elim
   |agg _ vs hl=>exact .agg _ _ (many hl hps)
  |Zb cs=>
   simp only[Ub,Option.map_eq_some_iff] at h
   obtain⟨ps,hps,rfl⟩:=h
   cases hv with
   |atom _ _ h=>exact h.elim
   |Zb _ vs hl=>exact .Zb _ _ (many hl hps)
  |Gc=>simp[Ub] at h
  |gl=>simp[Ub] at h
  |mp=>simp[Ub] at h
  |undef=>simp[Ub] at h
theorem KQ {w:World} {R:Rd} {φ:Pl} {H:List ba} {d:Nat} {v:AV} {u:Value} {p:PV} (hf:v.free=true) (hv:Oc fo (K R φ H) v u) (h:Ub H d v=some p):Va R p u:=by
 cases v with
 |pv q=>simp[Ub] at h;subst h;exact hv.Qb
 |uq id nl sz es=>
  simp[Ub] at h
  have h1:=hv.Xt
  cases nl with
  |true=>simp at h;subst h;rw[(h1.2.1 rfl).1];exact .pa
  |false=>simp at h;subst h;exact h1.2.2.1 rfl
 |_=>simp[AV.free] at hf
theorem TO {w:World} {R:Rd} {φ:Pl} {H:List ba} (hS:uc fo B0 w R φ H) {d:Nat}:∀ {vs:List AV} {us:List Value} {ps:List PV},ab fo (K R φ H) vs us→Qa (Ub H d) vs=some ps→ze (Rw w) ps us:=by
 intro vs
 induction vs with
 |nil=>intro us ps hl h;simp[Qa] at h;subst h;cases hl;exact .nil
 |cons c cs ihc=>
  intro us ps hl h
  simp only[Qa,Option.bind_eq_some_iff,Option.some.injEq] at h
  obtain⟨b,h1,bs,h2,rfl⟩:=h
  cases hl with
  |cons _ _ v vs hc hcs=>exact .cons _ _ _ _ (PI hS (fun b o v h=>hS.sub b o v h) (fun _ _ _ _ h=>h) d hc h1) (ihc hcs h2)
theorem tM {w:World} {R:Rd} {φ:Pl} {H:List ba} {d:Nat}:∀ {vs:List AV} {us:List Value} {ps:List PV},vs.all AV.free=true→ab fo (K R φ H) vs us→Qa (Ub H d) vs=some ps→ze R ps us:=by
 intro vs
 induction vs with
 |nil=>intro us ps _ hl h;simp[Qa] at h;subst h;cases hl;exact .nil
 |cons c cs ihc=>
  intro us ps hf hl h
  simp only[Qa,Option.bind_eq_some_iff,Option.some.injEq] at h
  obtain⟨b,h1,bs,h2,rfl⟩:=h
  simp only[List.all_cons,Bool.and_eq_true] at hf
  cases hl with
  |cons _ _ v vs hc hcs=>exact .cons _ _ _ _ (KQ (w:=w) hf.1 hc h1) (ihc hf.2 hcs h2)
mutual
theorem kJ {R R':Rd}:∀ {p:PV} {v:Value},Rl p=true→Va R p v→Va R' p v
 |_,_,_,.int _ _=> .int _ _
 |_,_,_,.bool _=> .bool _
 |_,_,_,.str _=> .str _
 |_,_,_,.Mi=> .Mi
 |_,_,_,.pa=> .pa
 |_,_,_,.Iw=> .Iw
 |_,_,_,.Ew=> .Ew
 |_,_,_,.nC=> .nC
 |_,_,hf,.rp _ _ _ _ h=>by simp[Rl] at hf
 |_,_,hf,.lit _ _ _ _ _ h1 h2 h3=>by simp[Rl] at hf
 |_,_,hf,.ZB _ _=>by simp[Rl] at hf
 |_,_,hf,.agg _ _ h=> .agg _ _ (jA (by simpa[Rl] using hf) h)
 |_,_,hf,.Zb _ _ h=> .Zb _ _ (jA (by simpa[Rl] using hf) h)
 |_,_,hf,.iface _ _ _ h=>by simp[Rl] at hf
theorem jA {R R':Rd}:∀ {p:List PV} {v:List Value},Qo p=true→ze R p v→ze R' p v
 |_,_,_,.nil=> .nil
 |_,_,hf,.cons _ _ _ _ h1 h2=>by
  simp only[Qo,Bool.and_eq_true] at hf
  exact .cons _ _ _ _ (kJ hf.1 h1) (jA hf.2 h2)
end
structure Zw (n:Nat) (H H2:List ba):Prop where
 obj:∀ (id:Nat) (o2:ba),H2[id]? =some o2→id < n∧∃ o,H[id]? =some o∧ma n o=some o2
 len:∀ id,id < n→id < H.length→id < H2.length
theorem TL {n:Nat} {H H2:List ba} (h:Qa (ma n) (H.take n)=some H2):Zw n H H2:=by
 obtain⟨h1,h2⟩:=DA h
 rw[List.length_take] at h1
 refine⟨fun id o2 ho=> ?_,fun id hn hl=>by rw[h1];omega⟩
 have hlt:=getElem?_lt ho
 have hid:id < n∧id < H.length:=by rw[h1] at hlt;omega
 have hx:(H.take n)[id]? =some (H[id]'hid.2):=by rw[List.getElem?_take,if_pos hid.1];exact List.getElem?_eq_getElem _
 obtain⟨y,hy1,hy2⟩:=h2 id _ hx
 rw[ho] at hy1;injection hy1 with hy1;subst hy1
 exact⟨hid.1,_,List.getElem?_eq_getElem _,hy2⟩
def AV.dY:AV→Option Nat
 | .ptr id _ | .Gc id _ _ | .uq id _ _ _ | .own id _ | .mp id=>some id
 |_=>none
theorem K.ga {n:Nat} {R:Rd} {φ:Pl} {H H2:List ba} (hc:Zw n H H2) {x:AV} {u:Value} (hx:∀ id,x.dY=some id→id < n) (h:K R φ H x u):K R φ H2 x u:=by
 have box:∀ {id:Nat} {c:List AV},H2[id]? =some (.box c)→∃ c',H[id]? =some (.box c'):=by
  intro id c hb
  obtain⟨_,o,ho,hcut⟩:=hc.obj _ _ hb
  cases o with
  |box c'=>exact⟨c',ho⟩
  |seq=>simp only[ma] at hcut;split at hcut <;> cases hcut
  |tok=>cases hcut
  |map es=>simp[ma] at hcut
  |dead=>cases hcut
 have seq:∀ {id:Nat} {sz:Nat} {ag:Bool} {c:List AV} {fl:Nat} {nl:Bool},H2[id]? =some (.seq sz ag c fl nl)→H[id]? =some (.seq sz ag c fl nl):=by
  intro id sz ag c fl nl hb
  obtain⟨_,o,ho,hcut⟩:=hc.obj _ _ hb
  cases o with
  |box c'=>simp[ma] at hcut
  |seq=>
   simp only[ma] at hcut
   split at hcut
   ·injection hcut with hcut;rw[ho,hcut]
   ·cases hcut
  |tok=>cases hcut
  |map es=>simp[ma] at hcut
  |dead=>cases hcut
 have tok:∀ {id:Nat} {sz m:Nat} {nl:Bool},H2[id]? =some (.tok sz m nl)→H[id]? =some (.tok sz m nl):=by
  intro id sz m nl hb
  obtain⟨_,o,ho,hcut⟩:=hc.obj _ _ hb
  cases o with
  |box c'=>simp[ma] at hcut
  |seq=>
   simp only[ma] at hcut
   split at hcut
   ·cases hcut
   ·cases hcut
  |tok=>injection hcut with hcut;rw[ho,hcut]
  |map es=>simp[ma] at hcut
  |dead=>cases hcut
 have map:∀ {id:Nat} {es:List (PV×PV)},H2[id]? =some (.map es)→∃ es',H[id]? =some (.map es'):=by
  intro id c hb
  obtain⟨_,o,ho,hcut⟩:=hc.obj _ _ hb
  cases o with
  |box c'=>simp[ma] at hcut
  |seq=>simp only[ma] at hcut;split at hcut <;> cases hcut
  |tok=>cases hcut
  |map es=>exact⟨es,ho⟩
  |dead=>cases hcut
 cases x with
 |pv p=>exact h
 |ptr id off=>exact⟨hc.len _ (hx _ rfl) h.1,h.2.1,fun c hb=>by obtain⟨c',hb'⟩:=box hb;exact h.2.2 _ hb'⟩
 |Gc id m off=>exact⟨hc.len _ (hx _ rfl) h.1,h.2.1,fun sz ag c fl nl hb=>h.2.2 sz ag c fl nl (seq hb)⟩
 |uq id nl sz es=>exact⟨hc.len _ (hx _ rfl) h.1,h.2.1,h.2.2.1,fun sz' m nl' hb=>h.2.2.2 sz' m nl' (tok hb)⟩
 |own id len=>exact⟨hc.len _ (hx _ rfl) h.1,h.2.1,fun sz ag c fl nl hb=>h.2.2 sz ag c fl nl (seq hb)⟩
 |mp id=>exact⟨hc.len _ (hx _ rfl) h.1,h.2.1,fun es hb=>by obtain⟨c',hb'⟩:=map hb;exact h.2.2 _ hb'⟩
 |gl ix cs=>exact h.elim
 |agg cs=>exact h.elim
 |Zb cs=>exact h.elim
 |undef=>exact h.elim
theorem WN {n:Nat} {R:Rd} {φ:Pl} {H H2:List ba} (hc:Zw n H H2):∀ (d:Nat) {v v':AV} {u:Value},AV.cut n d v=some v'→Oc fo (K R φ H) v u→Oc fo (K R φ H2) v' u:=by
 have base:∀ {d:Nat} {v v':AV} {u:Value},(∀ ix cs,v≠ .gl ix cs)→(∀ cs,v≠ .agg cs)→(∀ cs,v≠ .Zb cs)→AV.cut n d v=some v'→Oc fo (K R φ H) v u→Oc fo (K R φ H2) v' u:=by
  intro d v v' u n1 n2 n3 h hv
  cases v with
  |pv p=>simp only[AV.cut,Option.some.injEq] at h;subst h;exact .atom _ _ hv.Qb
  |ptr id off=>
   simp only[AV.cut] at h
   split at h
   ·rename_i hlt;injection h with h;subst h;exact .atom _ _ (K.ga hc (fun _ e=>by injection e with e;omega) hv.mI)
   ·cases h
  |Gc id m off=>
   simp only[AV.cut] at h
   split at h
   ·rename_i hlt;injection h with h;subst h
    cases hv with | atom _ _ hv=>exact .atom _ _ (K.ga hc (fun _ e=>by injection e with e;omega) hv)
   ·cases h
  |uq id nl sz es=>
   simp only[AV.cut] at h
   split at h
   ·rename_i hlt;injection h with h;subst h;exact .atom _ _ (K.ga hc (fun _ e=>by injection e with e;omega) hv.Xt)
   ·injection h with h
    subst h
    have h1:=hv.Xt
    cases nl with
    |true=>simp only[if_true];rw[(h1.2.1 rfl).1];exact .atom _ _ (show Va R _ _ from .pa)
    |false=>exact .atom _ _ (show Va R _ _ from h1.2.2.1 rfl)
  |own id len=>
   simp only[AV.cut] at h
   split at h
   ·rename_i hlt;injection h with h;subst h;exact .atom _ _ (K.ga hc (fun _ e=>by injection e with e;omega) hv.qz)
   ·cases h
  |mp id=>
   simp only[AV.cut] at h
   split at h
   ·rename_i hlt;injection h with h;subst h
    cases hv with | atom _ _ hv=>exact .atom _ _ (K.ga hc (fun _ e=>by injection e with e;omega) hv)
   ·cases h
  |undef=>simp only[AV.cut,Option.some.injEq] at h;subst h;exact .undef _
  |gl ix cs=>exact absurd rfl (n1 ix cs)
  |agg cs=>exact absurd rfl (n2 cs)
  |Zb cs=>exact absurd rfl (n3 cs)
 intro d
 induction d with
 |zero=>
  intro v v' u h hv
  cases v with
  |gl ix cs=>simp[AV.cut] at h
  |agg cs=>simp[AV.cut] at h
  |Zb cs=>simp[AV.cut] at h
  |_=>exact base (by intros;simp) (by intros;simp) (by intros;simp) h hv
 |succ d ih=>
  have many:∀ {cs cs':List AV} {vs:List Value},ab fo (K R φ H) cs vs→Qa (AV.cut n d) cs=some cs'→ab fo (K R φ H2) cs' vs:=by
   intro cs
   induction cs with
   |nil=>intro ps vs hl h;simp[Qa] at h;subst h;cases hl;exact .nil
   |cons c cs ihc=>
    intro ps vs hl h
    simp only[Qa,Option.bind_eq_some_iff,Option.some.injEq] at h
    obtain⟨b,h1,bs,h2,rfl⟩:=h
    cases hl with
    |cons _ _ v vs hc hcs=>exact .cons _ _ _ _ (ih h1 hc) (ihc hcs h2)
  intro v v' u h hv
  cases v with
  |gl ix cs=>
   simp only[AV.cut,Option.map_eq_some_iff] at h
   obtain⟨cs',h1,rfl⟩:=h
   cases hv with
   |atom _ _ h=>exact h.elim
   |gl _ _ vs hl=>exact .gl _ _ _ (many hl h1)
  |agg cs=>
   simp only[AV.cut,Option.map_eq_some_iff] at h
   obtain⟨cs',h1,rfl⟩:=h
   cases hv with
   |atom _ _ h=>exact h.elim
   |agg _ vs hl=>exact .agg _ _ (many hl h1)
  |Zb cs=>
   simp only[AV.cut,Option.map_eq_some_iff] at h
   obtain⟨cs',h1,rfl⟩:=h
   cases hv with
   |atom _ _ h=>exact h.elim
   |Zb _ vs hl=>exact .Zb _ _ (many hl h1)
  |_=>exact base (by intros;simp) (by intros;simp) (by intros;simp) h hv
theorem EK {n:Nat} {R:Rd} {φ:Pl} {H H2:List ba} (hc:Zw n H H2) {d:Nat} {cs cs':List AV} {vs:List Value} (hl:ab fo (K R φ H) cs vs) (h:Qa (AV.cut n d) cs=some cs'):ab fo (K R φ H2) cs' vs:=by
 induction cs generalizing cs' vs with
 |nil=>simp[Qa] at h;subst h;cases hl;exact .nil
 |cons c cs ihc=>
  simp only[Qa,Option.bind_eq_some_iff,Option.some.injEq] at h
  obtain⟨b,h1,bs,h2,rfl⟩:=h
  cases hl with
  |cons _ _ v vs hcc hcs=>exact .cons _ _ _ _ (WN hc d h1 hcc) (ihc hcs h2)
theorem CJ {n:Nat}:∀ (d:Nat) {v:AV},AV.Be n d v=true→AV.cut n d v=some v:=by
 intro d
 induction d with
 |zero=>intro v h;cases v <;> simp_all [AV.Be,AV.cut]
 |succ d ih=>
  have many:∀ {cs:List AV},cs.all (AV.Be n d)=true→Qa (AV.cut n d) cs=some cs:=by
   intro cs
   induction cs with
   |nil=>intro _;rfl
   |cons c cs ihc=>intro h;simp only[List.all_cons,Bool.and_eq_true] at h;simp[Qa,ih h.1,ihc h.2]
  intro v h
  cases v with
  |gl ix cs=>simp only[AV.Be] at h;simp[AV.cut,many h]
  |agg cs=>simp only[AV.Be] at h;simp[AV.cut,many h]
  |Zb cs=>simp only[AV.Be] at h;simp[AV.cut,many h]
  |_=>simp_all [AV.Be,AV.cut]
theorem uG {n d:Nat} {cs:List AV} (h:cs.all (AV.Be n d)=true):Qa (AV.cut n d) cs=some cs:=by
 induction cs with
 |nil=>rfl
 |cons c cs ihc=>simp only[List.all_cons,Bool.and_eq_true] at h;simp[Qa,CJ d h.1,ihc h.2]
theorem wV {n d:Nat} {v v':AV} (h:AV.cut n d v=some v') (h1:v.one=true):v'.one=true:=by
 cases v with
 |uq id nl sz es=>
  simp only[AV.cut] at h
  split at h
  ·injection h with h;subst h;rfl
  ·injection h with h;subst h;cases nl <;> rfl
 |gl ix cs=>
  cases d with
  |zero=>simp[AV.cut] at h
  |succ d=>simp only[AV.cut,Option.map_eq_some_iff] at h;obtain⟨_,_,rfl⟩:=h;rfl
 |agg=>simp[AV.one] at h1
 |Zb=>simp[AV.one] at h1
 |undef=>simp[AV.one] at h1
 |pv p=>simp only[AV.cut,Option.some.injEq] at h;subst h;exact h1
 |_=>
  simp only[AV.cut] at h
  split at h
  ·injection h with h;subst h;exact h1
  ·cases h
theorem uS {n d:Nat} {cs cs':List AV} (h:Qa (AV.cut n d) cs=some cs') (h1:cs.all AV.one=true):cs'.all AV.one=true:=by
 induction cs generalizing cs' with
 |nil=>simp[Qa] at h;subst h;rfl
 |cons c cs ihc=>
  simp only[Qa,Option.bind_eq_some_iff,Option.some.injEq] at h
  obtain⟨b,h2,bs,h3,rfl⟩:=h
  simp only[List.all_cons,Bool.and_eq_true] at h1 ⊢
  exact⟨wV h2 h1.1,ihc h3 h1.2⟩
theorem uc.ga {n:Nat} {w:World} {R:Rd} {φ:Pl} {H H2:List ba} (hc:Zw n H H2) (hS:uc fo B0 w R φ H):uc fo B0 w R φ H2:=by
 have lv:∀ {i},live H2 i→live H i:=by
  intro i ⟨o2,ho2,hl⟩
  obtain⟨_,o,ho,hcut⟩:=hc.obj _ _ ho2
  refine⟨o,ho,?_⟩
  cases o with
  |box c=>trivial
  |seq sz ag c fl nl=>
   simp only[ma] at hcut
   split at hcut
   ·injection hcut with hcut;subst hcut;exact hl
   ·cases hcut
  |tok sz m nl=>injection hcut with hcut;subst hcut;exact hl
  |map es=>trivial
  |dead=>injection hcut with hcut;subst hcut;exact hl
 refine⟨hS.low,hS.sub,fun id o2 ho2=> ?_,fun i j hi hj=>hS.inj i j (lv hi) (lv hj),hS.xo,hS.slt,fun i hi=>hS.free i (lv hi)⟩
 obtain⟨_,o,ho,hcut⟩:=hc.obj _ _ ho2
 have hO:=hS.obj _ _ ho
 cases o with
 |box c=>
  simp only[ma,Option.map_eq_some_iff] at hcut
  obtain⟨c',h1,rfl⟩:=hcut
  obtain⟨h2,h3,h4,arr,h5,h6⟩:=hO
  exact⟨h2,h3,uS h1 h4,arr,h5,EK hc h6 h1⟩
 |seq sz ag c fl nl=>
  simp only[ma] at hcut
  split at hcut
  ·rename_i hk
   injection hcut with hcut;subst hcut
   obtain⟨h1,h2,h3,h4,h5⟩:=hO
   refine⟨h1,h2,h3,h4,fun e=> ?_⟩
   obtain⟨k1,k2,arr,k3,k4,k5,k6⟩:=h5 e
   exact⟨k1,k2,arr,k3,k4,k5,EK hc k6 (uG hk)⟩
  ·cases hcut
 |tok sz m nl=>injection hcut with hcut;subst hcut;exact hO
 |map es=>injection hcut with hcut;subst hcut;exact hO
 |dead=>injection hcut with hcut;subst hcut;trivial
theorem BL {n:Nat} {R:Rd} {φ:Pl} {H H2:List ba} (hc:Zw n H H2) {e e':Tr} {a:Act} (hE:Xi fo (K R φ H) e a):∀ {l:List Nat},za n e l=some e'→Xi fo (K R φ H2) e' a:=by
 intro l
 induction l generalizing e' with
 |nil=>intro h;simp only[za,Option.some.injEq] at h;subst h;intro t;exact .undef _
 |cons x l ih=>
  intro h
  simp only[za,Option.bind_eq_some_iff,Option.map_eq_some_iff] at h
  obtain⟨v,h1,e1,h2,rfl⟩:=h
  intro t
  rw[Tr.aa]
  split
  ·rename_i ht;subst ht;exact WN hc deep h1 (hE t)
  ·exact ih h2 t
theorem uD {w0 w:World} {R0 R:Rd} {φ0 φ:Pl} {H0:List ba} {a0 a:Act} {s s2:St} {l:List Nat} (g:Um fo B0 w0 R0 φ0 H0 a0 w R φ s a) (h:ga H0.length l s=some s2):Um fo B0 w0 R0 φ0 H0 a0 w R φ s2 a:=by
 simp only[ga,Option.bind_eq_some_iff,Option.map_eq_some_iff] at h
 obtain⟨e,h1,H2,h2,rfl⟩:=h
 have hc:=TL h2
 refine⟨g.rel.ga hc,BL hc g.env h1,fun x u hx=>K.ga hc (fun id hid=> ?_) (g.mono x u hx),g.below,g.size,g.defers⟩
 cases x with
 |ptr=>injection hid with hid;subst hid;exact hx.1
 |Gc=>injection hid with hid;subst hid;exact hx.1
 |uq=>injection hid with hid;subst hid;exact hx.1
 |own=>injection hid with hid;subst hid;exact hx.1
 |mp=>injection hid with hid;subst hid;exact hx.1
 |_=>cases hid
end
end Go.AM
set_option linter.unusedSimpArgs false
set_option linter.unusedVariables false
namespace Go.AM
open Go.RowKit
section
variable {P:Program} {fo:Nat→FuncId} {B0:lg}
theorem DC {k:AV→Value→Prop} {e:Tr} {a:Act} (h:Xi fo k e a) {t:Nat} {v:AV} (hv:Oc fo k v (a.tmps.getD t undef)):Xi fo k (e.set t v) a:=by
 intro j
 rw[Tr.aa]
 split
 ·rename_i e;subst e;exact hv
 ·exact h j
theorem push_empty {w:World} {R:Rd} {φ:Pl} {H:List ba} (hS:uc fo B0 w R φ H) {o:ba} (hl:¬yo o) (hO:∀ φ' H',QA fo B0 w R φ' H' H.length o):uc fo B0 w R (Bm φ H.length (0,0)) (H++[o]):=
 hS.push (Nat.le_refl _) (fun _ _=>rfl) (fun _ _ _=>rfl) hS.sub (fun a v=>K.push o (0,0) a v) (fun h=>absurd h hl) (hO _ _)
theorem yR {w:World} {R:Rd} {φ:Pl} {H:List ba} {sz:Nat}:K R φ (H++[.tok sz 0 true]) (.uq H.length true sz []) (.slice none 0 0):=by
 refine⟨by simp,fun _=>⟨rfl,rfl⟩,(fun e=>by cases e),fun sz' n nl' h=> ?_⟩
 simp at h
 obtain⟨rfl,rfl,rfl⟩:=h
 exact⟨by simp,fun _=>⟨rfl,rfl,fun e=>by cases e⟩⟩
theorem SN {w:World} {R:Rd} {φ:Pl} {H:List ba} {sz:Nat} {ag:Bool}:K R φ (H++[.seq sz ag [] 0 true]) (.own H.length 0) (.slice none 0 0):=by
 refine⟨by simp,rfl,fun sz' ag' c fl nl h=> ?_⟩
 simp at h
 obtain⟨rfl,rfl,rfl,rfl,rfl⟩:=h
 exact⟨by simp,fun _=>⟨fun _=>rfl,fun e=>by cases e⟩⟩
theorem uN {w:World} {R:Rd} {φ:Pl} {H:List ba} (hS:uc fo B0 w R φ H) {id:Nat} {cells:List AV} (hid:H[id]? =some (.box cells)) {i:Nat} (hi:cells[i]? =some (.pv .pa)) {x:AV} (hx:K R φ H x (.slice none 0 0)) (h1:x.one=true):
 uc fo B0 w R (Bm φ id (φ id)) (H.set id (.box (cells.set i x)))∧∀ a u,K R φ H a u→K R (Bm φ id (φ id)) (H.set id (.box (cells.set i x))) a u:=by
 have hk:=fun a v=>K.yN (R:=R) (φ:=φ) (H:=H) (c':=cells.set i x) hid a v
 refine⟨hS.Bm hid (Nat.le_refl _) (fun _ _ _=>rfl) (fun _ _ _ _=>rfl) hS.sub hk (fun _=> .inl ⟨trivial,rfl⟩) ?_,hk⟩
 obtain⟨o1,o2,o3,arr,o4,o5⟩:=hS.obj _ _ hid
 refine⟨by rw[Cb];exact o1,by rw[Cb];exact o2,?_,arr,by rw[Cb];exact o4,?_⟩
 ·rw[List.all_eq_true] at o3 ⊢
  intro y hy
  rcases List.mem_or_eq_of_mem_set hy with hy | rfl
  ·exact o3 y hy
  ·exact h1
 ·obtain⟨u,hu,hr⟩:=o5.get hi
  have hr:=hr.Qb
  cases hr
  have:arr.toList=arr.toList.set i (.slice none 0 0):=by
   apply List.ext_getElem?
   intro j
   by_cases e:i=j
   ·subst e
    rw[List.getElem?_set_self (getElem?_lt hu)];exact hu
   ·rw[List.getElem?_set_ne e]
  rw[this]
  exact (o5.mono hk).set i (.atom _ _ (hk _ _ hx))
theorem sQ {g:vO} {w:World} {R:Rd} {φ:Pl} {s s':St} {a:Act} (hS:uc fo B0 w R φ s.H) (hE:Xi fo (K R φ s.H) s.env a) (h:Vf g s=some s'):∃ R' φ',Um fo B0 w R φ s.H a w R' φ' s' a:=by
 obtain⟨e,H⟩:=s
 cases g with
 |sL t sz=>
  simp only[Vf] at h
  split at h
  ·rename_i ht
   split at h
   ·rename_i h0
    injection h with h;subst h
    have hk:=fun a v=>K.push (R:=R) (φ:=φ) (H:=H) (.tok sz 0 true) (0,0) a v
    have hv:=hE t
    simp only[ht] at hv
    have hv:=hv.Qb
    refine⟨R,_,push_empty hS (by simp[yo]) (fun φ' H'=>⟨h0,fun _=>rfl,fun e=>by cases e⟩),DC (hE.mono hk) ?_,hk,eh.refl _ _,rfl,.same rfl⟩
    generalize a.tmps.getD t undef=v at hv
    cases hv
    exact .atom _ _ (yR (w:=w))
   ·cases h
  ·cases h
 |eH t sz ag=>
  simp only[Vf] at h
  split at h
  ·rename_i ht
   split at h
   ·rename_i h0
    injection h with h;subst h
    have hk:=fun a v=>K.push (R:=R) (φ:=φ) (H:=H) (.seq sz ag [] 0 true) (0,0) a v
    have hv:=hE t
    simp only[ht] at hv
    have hv:=hv.Qb
    refine⟨R,_,push_empty hS (by simp[yo]) (fun φ' H'=>⟨h0,Nat.le_refl _,fun _=>rfl,rfl,fun e=>by cases e⟩),DC (hE.mono hk) ?_,hk,eh.refl _ _,rfl,.same rfl⟩
    generalize a.tmps.getD t undef=v at hv
    cases hv
    exact .atom _ _ (SN (w:=w))
   ·cases h
  ·cases h
 |Cz t off sz=>
  simp only[Vf] at h
  split at h
  ·rename_i id o ht
   split at h
   ·rename_i cells hid
    split at h
    ·rename_i hc
     split at h
     ·rename_i h0
      injection h with h;subst h
      have hlt:=getElem?_lt hid
      have hk:=fun a v=>K.push (R:=R) (φ:=φ) (H:=H) (.tok sz 0 true) (0,0) a v
      have hS1:=push_empty hS (o:= .tok sz 0 true) (by simp[yo]) (fun φ' H'=>⟨h0,fun _=>rfl,fun e=>by cases e⟩)
      obtain⟨hS2,hk2⟩:=uN hS1 (by rw[getElem?_push hlt];exact hid) hc (yR (w:=w)) rfl
      have e:H.set id (.box (cells.set (o+off) (.uq H.length true sz [])))++[ba.tok sz 0 true]=(H++[ba.tok sz 0 true]).set id (.box (cells.set (o+off) (.uq H.length true sz []))):=by
       rw[List.set_append_left _ _ hlt]
      simp only[e]
      exact⟨R,_,hS2,hE.mono fun a v h=>hk2 a v (hk a v h),fun x u h=>hk2 x u (hk x u h),eh.refl _ _,rfl,.same rfl⟩
     ·cases h
    ·cases h
   ·cases h
  ·cases h
 |DI t off sz ag=>
  simp only[Vf] at h
  split at h
  ·rename_i id o ht
   split at h
   ·rename_i cells hid
    split at h
    ·rename_i hc
     split at h
     ·rename_i h0
      injection h with h;subst h
      have hlt:=getElem?_lt hid
      have hk:=fun a v=>K.push (R:=R) (φ:=φ) (H:=H) (.seq sz ag [] 0 true) (0,0) a v
      have hS1:=push_empty hS (o:= .seq sz ag [] 0 true) (by simp[yo]) (fun φ' H'=>⟨h0,Nat.le_refl _,fun _=>rfl,rfl,fun e=>by cases e⟩)
      obtain⟨hS2,hk2⟩:=uN hS1 (by rw[getElem?_push hlt];exact hid) hc (SN (w:=w)) rfl
      have e:H.set id (.box (cells.set (o+off) (.own H.length 0)))++[ba.seq sz ag [] 0 true]=(H++[ba.seq sz ag [] 0 true]).set id (.box (cells.set (o+off) (.own H.length 0))):=by
       rw[List.set_append_left _ _ hlt]
      simp only[e]
      exact⟨R,_,hS2,hE.mono fun a v h=>hk2 a v (hk a v h),fun x u h=>hk2 x u (hk x u h),eh.refl _ _,rfl,.same rfl⟩
     ·cases h
    ·cases h
   ·cases h
  ·cases h
 |freeze t=>
  simp only[Vf] at h
  split at h
  ·rename_i id len ht
   split at h
   ·rename_i sz ag cells fl nl hid
    split at h
    ·rename_i hc
     obtain⟨hlen,vS⟩:=hc
     have hid0:=hid
     have hv:=hE t
     simp only[ht] at hv
     have h1:=hv.qz
     obtain⟨k0,k⟩:=h1.2.2 _ _ _ _ _ hid
     obtain⟨o0,o1,o2,oone,o3⟩:=hS.obj _ _ hid
     obtain⟨k1,k2⟩:=k (by omega)
     have hkd:∀ (R':Rd) (p:Nat×Nat),Sub R R'→∀ a v,K R φ H a v→K R' (Bm φ id p) (H.set id .dead) a v:=by
      intro R' p hs a v hk
      have hk:=K.sub hs a v hk
      have hl:(H.set id .dead).length=H.length:=by simp
      have inv:∀ {i:Nat} {x:ba},(H.set id .dead)[i]? =some x→x≠ .dead→i≠id∧H[i]? =some x:=by
       intro i x hx hd
       by_cases e:i=id
       ·subst e;rw[List.getElem?_set_self (getElem?_lt hid)] at hx;injection hx with hx;exact absurd hx.symm hd
       ·rw[List.getElem?_set_ne (Ne.symm e)] at hx;exact⟨e,hx⟩
      cases a with
      |pv p=>exact hk
      |ptr i off=>exact⟨by rw[hl];exact hk.1,hk.2.1,fun c hc=>by obtain⟨q1,q2⟩:=inv hc (by simp);rw[mf _ _ q1];exact hk.2.2 c q2⟩
      |Gc i n off=>exact⟨by rw[hl];exact hk.1,hk.2.1,fun sz ag c fl nl hc=>by obtain⟨q1,q2⟩:=inv hc (by simp);rw[mf _ _ q1];exact hk.2.2 _ _ _ _ _ q2⟩
      |uq i nl sz es=>exact⟨by rw[hl];exact hk.1,hk.2.1,hk.2.2.1,fun sz n nl hc=>by obtain⟨q1,q2⟩:=inv hc (by simp);rw[mf _ _ q1];exact hk.2.2.2 _ _ _ q2⟩
      |own i n=>exact⟨by rw[hl];exact hk.1,hk.2.1,fun sz ag c fl nl hc=>by obtain⟨q1,q2⟩:=inv hc (by simp);rw[mf _ _ q1];exact hk.2.2 _ _ _ _ _ q2⟩
      |mp i=>exact⟨by rw[hl];exact hk.1,hk.2.1,fun es hc=>by obtain⟨q1,q2⟩:=inv hc (by simp);rw[mf _ _ q1];exact hk.2.2 _ q2⟩
      |gl=>exact hk.elim
      |agg=>exact hk.elim
      |Zb=>exact hk.elim
      |undef=>exact hk.elim
     cases nl with
     |true=>
      simp only[if_true,Option.some.injEq] at h
      subst h
      have hk:=hkd R (φ id) (Sub.refl R)
      refine⟨R,Bm φ id (φ id),hS.Bm hid (Nat.le_refl _) (fun _ _ _=>rfl) (fun _ _ _ _=>rfl) hS.sub hk (fun h=>h.elim) trivial,DC (hE.mono hk) ?_,hk,eh.refl _ _,rfl,.same rfl⟩
      rw[k1 rfl]
      exact .atom _ _ (show Va R _ _ from .pa)
     |false=>
      simp only[Bool.false_eq_true,if_false,Option.map_eq_some_iff] at h
      obtain⟨ps,hps,rfl⟩:=h
      obtain⟨b0,hnone,arr,hB,hsz,hle,hrel⟩:=o3 rfl
      have hsub:Sub R (fun b o=>if b=(φ id).1 then w.cell? ⟨b,o,none⟩ else R b o):=by
       intro b o v h
       dsimp only
       split
       ·exact hS.sub b o v h
       ·exact h
      have hk:=hkd _ (φ id) hsub
      refine⟨_,Bm φ id (φ id),hS.Bm (R':=fun b o=>if b=(φ id).1 then w.cell? ⟨b,o,none⟩ else R b o) hid (Nat.le_refl _) (fun _ _ _=>rfl) (fun b j _ hne=>if_neg (hne rfl)) (fun b o v h=> ?_) hk (fun h=>h.elim) trivial,DC (hE.mono hk) ?_,hk,eh.refl _ _,rfl,.same rfl⟩
      ·split at h
       ·exact h
       ·exact hS.sub b o v h
      ·rcases k2 rfl with⟨q1,q2,_⟩ | ⟨b,o,cap,q1,q2,_⟩
       ·subst q1;exact absurd (List.eq_nil_of_length_eq_zero (by omega)) q2
       ·rw[q1]
        obtain⟨rfl,rfl,rfl⟩:=q2 hlen
        have hl:=El hps hrel
        have hmap:=uf hps
        have hone:∀ p∈ps,fF p=true:=by
         intro p hp
         rw[hmap] at oone
         exact List.all_eq_true.1 oone _ (List.mem_map_of_mem hp)
        have hplen:ps.length=len * sz:=by rw[hlen,hmap];simp
        obtain⟨c1,c2,c3⟩:=Hu sz ag (fun e=>by subst e;simpa using vS) len ps hplen hone
        refine .atom _ _ (show Va _ _ _ from ?_)
        have:=Va.lit (R:=fun b o=>if b=(φ id).1 then w.cell? ⟨b,o,none⟩ else R b o) sz (chunk sz ag len ps) (φ id).1 0 (φ id).2 (by
         rw[c3]
         have:len * sz≤(φ id).2 * sz:=by rw[← hsz];omega
         exact Nat.le_of_mul_le_mul_right this o0) c2 (by
         rw[c1]
         refine yg.Mn (hl.mono hsub) (Ip hrel oone) fun i v hv=> ?_
         have hlt:=getElem?_lt hv
         rw[List.getElem?_take] at hv
         split at hv
         ·rw[if_pos rfl,hB.cell,Nat.zero_add];simpa using hv
         ·cases hv)
        rw[c3] at this
        exact this
    ·cases h
   ·cases h
  ·cases h
end
end Go.AM
