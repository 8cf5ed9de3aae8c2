/- The abstract machine: equality, maps, steps that may change places, cleaning. -/
import Derived.Test.YtdglpnpkgngcdaaGreatC1
import Derived.DeepKeys3
import Derived.OrdersIn
import Derived.LoopNIn
import Derived.RangeFuncRecord
import Derived.RangeFuncSeq
set_option linter.unusedSimpArgs false
set_option linter.unusedVariables false
namespace Go.AM
open Go.RowKit
def Er:Nat→Value→Value→Option Bool
 |0,.bool a,.bool b=>some (a==b)
 |1,.int k a,.int k' b=>if k=k' then some (a==b) else none
 |2,.string a,.string b=>some (a==b)
 |_,_,_=>none
def Og:List Nat→List Value→List Value→Option Bool
 | [],[],[]=>some true
 |k::ks,x::xs,y::ys=>(Er k x y).bind fun b=>(Og ks xs ys).map fun c=>b&&c
 |_,_,_=>none
theorem sE {k:Nat} {p q:PV} {b:Bool} (h:sr k p q=some b):
 (k=0∧∃ c d,p= .bool c∧q= .bool d∧b=(c==d))∨(k=1∧∃ i c d,p= .int i c∧q= .int i d∧b=(c==d))∨(k=2∧∃ c d,p= .str c∧q= .str d∧b=(c==d)):=by
 unfold sr at h
 split at h
 ·injection h with h;exact .inl ⟨rfl,_,_,rfl,rfl,h.symm⟩
 ·split at h
  ·rename_i hk;subst hk;injection h with h;exact .inr (.inl ⟨rfl,_,_,_,rfl,rfl,h.symm⟩)
  ·cases h
 ·injection h with h;exact .inr (.inr ⟨rfl,_,_,rfl,rfl,h.symm⟩)
 ·cases h
theorem Bk {k:Nat} {p q:Value} {b:Bool} (h:Er k p q=some b):
 (k=0∧∃ c d,p= .bool c∧q= .bool d∧b=(c==d))∨(k=1∧∃ i c d,p= .int i c∧q= .int i d∧b=(c==d))∨(k=2∧∃ c d,p= .string c∧q= .string d∧b=(c==d)):=by
 unfold Er at h
 split at h
 ·injection h with h;exact .inl ⟨rfl,_,_,rfl,rfl,h.symm⟩
 ·split at h
  ·rename_i hk;subst hk;injection h with h;exact .inr (.inl ⟨rfl,_,_,_,rfl,rfl,h.symm⟩)
  ·cases h
 ·injection h with h;exact .inr (.inr ⟨rfl,_,_,rfl,rfl,h.symm⟩)
 ·cases h
theorem ft {R:Rd} {k:Nat} {p q:PV} {v u:Value} (hp:Ta R p v) (hq:Ta R q u) {b:Bool} (h:sr k p q=some b):Er k v u=some b:=by
 rcases sE h with⟨rfl,c,d,rfl,rfl,rfl⟩ | ⟨rfl,i,c,d,rfl,rfl,rfl⟩ | ⟨rfl,c,d,rfl,rfl,rfl⟩ <;> cases hp <;> cases hq <;> simp[Er]
theorem ez {R:Rd}:∀ {ks:List Nat} {ps qs:List PV} {vs us:List Value} {b:Bool},te R ps vs→te R qs us→Gi ks ps qs=some b→Og ks vs us=some b
 | [],[],[],_,_,_,.nil,.nil,h=>h
 |k::ks,p::ps,q::qs,_,_,b,.cons _ _ v vs h1 h2,.cons _ _ u us g1 g2,h=>by
  simp only[Gi,Option.bind_eq_some_iff,Option.map_eq_some_iff] at h
  obtain⟨x,e1,y,e2,rfl⟩:=h
  simp only[Og,ft h1 g1 e1,ez h2 g2 e2,Option.bind_some,Option.map_some]
 | [],[],_::_,_,_,_,_,_,h=>by simp[Gi] at h
 | [],_::_,_,_,_,_,_,_,h=>by simp[Gi] at h
 |_::_,[],_,_,_,_,_,_,h=>by simp[Gi] at h
 |_::_,_::_,[],_,_,_,_,_,h=>by simp[Gi] at h
theorem Bm:∀ {ks ks':List Nat} {xs ys xs' ys':List Value} {b:Bool},ks.length=xs.length→xs.length=ys.length→Og (ks++ks') (xs++xs') (ys++ys')=some b→∃ c d,Og ks xs ys=some c∧Og ks' xs' ys'=some d∧b=(c&&d)
 | [],_,[],[],_,_,b,_,_,h=>⟨true,b,rfl,h,by simp⟩
 |k::ks,_,x::xs,y::ys,xs',ys',b,hk,hl,h=>by
  simp only[List.cons_append,Og,Option.bind_eq_some_iff,Option.map_eq_some_iff] at h
  obtain⟨e,h1,f,h2,rfl⟩:=h
  obtain⟨c,d,h3,h4,rfl⟩:=Bm (by simpa using hk) (by simpa using hl) h2
  exact⟨e&&c,d,by simp[Og,h1,h3],h4,by simp[Bool.and_assoc]⟩
 | [],_,_::_,_,_,_,_,hk,_,_=>by simp at hk
 |_::_,_,[],_,_,_,_,hk,_,_=>by simp at hk
 |_,_,[],_::_,_,_,_,_,hl,_=>by simp at hl
 |_,_,_::_,[],_,_,_,_,hl,_=>by simp at hl
def valOf (P:Program) (t:TypeId) (cs:List Value):Value:=if Tk P t=some true then .agg ⟨cs⟩ else cs.headD undef
def bz (P:Program):Nat→List Field→Option Nat
 |o,[]=>some o
 |o,f::r=>if f.offset=o then bz P (o+P.cellsOf f.type) r else none
def Wt (g:TypeId→Option (List Nat)):List Field→Option (List Nat)
 | []=>some []
 |f::r=>if f.name != "_" then (g f.type).bind fun a=>(Wt g r).map (a++ ·) else none
def KH:Nat→List Nat→List Nat
 |0,_=>[]
 |n+1,ks=>ks++KH n ks
def gh (P:Program):Nat→TypeId→Option (List Nat)
 |0,_=>none
 |m+1,t=>
  match P.underlying t with
  |some .bool=>if P.cellsOf t=1 then some [0] else none
  |some (.int _)=>if P.cellsOf t=1 then some [1] else none
  |some .string=>if P.cellsOf t=1 then some [2] else none
  |some (.struct fs)=>if bz P 0 fs.toList=some (P.cellsOf t)∧P.stoodInHeld t=false then Wt (gh P m) fs.toList else none
  |some (.array n e)=>if P.cellsOf t=n * P.cellsOf e then (gh P m e).map (KH n) else none
  |_=>none
section
variable {P:Program}
theorem uC {m:Nat} {t:TypeId} {ks:List Nat} (h:gh P m t=some ks):∃ i,P.info? t=some i:=by
 cases m with
 |zero=>simp[gh] at h
 |succ m=>
  unfold gh at h
  cases hu:P.underlying t with
  |none=>simp[hu] at h
  |some d=>exact info_of_underlying hu
theorem Gx {m:Nat} {t:TypeId} {ks:List Nat} (h:gh P m t=some ks):Md P t=some (P.cellsOf t):=by
 obtain⟨i,hi⟩:=uC h
 simp[Md,Program.cellsOf,hi]
theorem Ut {g:TypeId→Option (List Nat)} (hg:∀ t ks,g t=some ks→ks.length=P.cellsOf t):∀ {fs:List Field} {o n:Nat} {ks:List Nat},Wt g fs=some ks→bz P o fs=some n→o+ks.length=n
 | [],o,n,ks,h,hl=>by
   simp only[Wt,Option.some.injEq] at h;subst h
   simp only[bz,Option.some.injEq] at hl;simpa using hl
 |f::fs,o,n,ks,h,hl=>by
  simp only[Wt] at h
  split at h
  ·simp only[Option.bind_eq_some_iff,Option.map_eq_some_iff] at h
   obtain⟨a,h1,b,h2,rfl⟩:=h
   simp only[bz] at hl
   split at hl
   ·have:=Ut hg h2 hl
    have:=hg _ _ h1
    simp;omega
   ·cases hl
  ·cases h
theorem zS (n:Nat) (ks:List Nat):(KH n ks).length=n * ks.length:=by
 induction n with
 |zero=>simp[KH]
 |succ n ih=>simp[KH,ih,Nat.succ_mul];omega
theorem wh:∀ {m:Nat} {t:TypeId} {ks:List Nat},gh P m t=some ks→ks.length=P.cellsOf t
 |0,_,_,h=>by simp[gh] at h
 |m+1,t,ks,h=>by
  unfold gh at h
  split at h
  ·split at h
   ·rename_i e;injection h with h;subst h;simp[e]
   ·cases h
  ·split at h
   ·rename_i e;injection h with h;subst h;simp[e]
   ·cases h
  ·split at h
   ·rename_i e;injection h with h;subst h;simp[e]
   ·cases h
  ·split at h
   ·rename_i e
    have:=Ut (P:=P) (fun t ks h=>wh (m:=m) h) h e.1
    omega
   ·cases h
  ·split at h
   ·rename_i e
    simp only[Option.map_eq_some_iff] at h
    obtain⟨a,h1,rfl⟩:=h
    rw[zS,wh h1,e]
   ·cases h
  ·cases h
theorem xw {m:Nat} {t:TypeId} {ks:List Nat} (h:gh P m t=some ks):(Tk P t=some true)∨(Tk P t=some false∧P.cellsOf t=1∧
 ((P.underlying t=some .bool∧ks=[0])∨((∃ k,P.underlying t=some (.int k))∧ks=[1])∨(P.underlying t=some .string∧ks=[2]))):=by
 cases m with
 |zero=>simp[gh] at h
 |succ m=>
  unfold gh at h
  unfold Tk
  split at h
  ·rename_i hu
   split at h
   ·rename_i e;injection h with h;exact .inr ⟨by simp[hu],e,.inl ⟨hu,h.symm⟩⟩
   ·cases h
  ·rename_i k hu
   split at h
   ·rename_i e;injection h with h;exact .inr ⟨by simp[hu],e,.inr (.inl ⟨⟨k,hu⟩,h.symm⟩)⟩
   ·cases h
  ·rename_i hu
   split at h
   ·rename_i e;injection h with h;exact .inr ⟨by simp[hu],e,.inr (.inr ⟨hu,h.symm⟩)⟩
   ·cases h
  ·rename_i hu;exact .inl (by simp[hu])
  ·rename_i hu;exact .inl (by simp[hu])
  ·cases h
variable {w:World}
theorem Hs {m:Nat} {e:TypeId} {ks:List Nat} (he:gh P m e=some ks) {xs:List Value} {off:Nat} (hl:off+P.cellsOf e≤xs.length):
 (part e ⟨xs⟩ off).run P w= .ok (valOf P e ((xs.drop off).take (P.cellsOf e))) w:=by
 rcases xw he with ha | ⟨ha,h1,_⟩
 ·rw[Ns (n:=P.cellsOf e) ha (fun _=>Gx he) (fun hb=>by cases hb)]
  congr 1
  unfold valOf
  simp only[if_true,ha]
  congr 1
  apply Array.ext'
  simp[List.extract_eq_take_drop]
 ·rw[Ns (n:=P.cellsOf e) ha (fun _=>Gx he) (fun _=>⟨xs[off]'(by omega),by simp[show off < xs.length by omega]⟩)]
  congr 1
  unfold valOf
  simp only[ha,Bool.false_eq_true,if_false,Option.some.injEq]
  rw[h1]
  have hlt:off < xs.length:=by omega
  rw[List.take_one,List.head?_drop]
  simp[Array.getD_eq_getD_getElem?,hlt]
def KX (P:Program) (dd:Nat) (e:TypeId) (ks:List Nat):Prop:=
 ∀ (w:World) (xs ys:List Value) (b:Bool),xs.length=P.cellsOf e→ys.length=P.cellsOf e→Og ks xs ys=some b→(Op.equalIn dd e (valOf P e xs) (valOf P e ys)).run P w= .ok b w
theorem WA (dd m:Nat) (xs ys:List Value) (hE:∀ t ks,gh P m t=some ks→KX P dd t ks):∀ (fs:List Field) (ks:List Nat) (o n:Nat) (b:Bool),Wt (gh P m) fs=some ks→bz P o fs=some n→n=xs.length→n=ys.length→
 Og ks (xs.drop o) (ys.drop o)=some b→(Op.eqFields dd ⟨xs⟩ ⟨ys⟩ fs).run P w= .ok b w
 | [],ks,o,n,b,hk,hl,h1,h2,h=>by
   simp only[Wt,Option.some.injEq] at hk
   subst hk
   simp only[bz,Option.some.injEq] at hl
   subst hl
   rw[List.drop_eq_nil_of_le (by omega),List.drop_eq_nil_of_le (by omega)] at h
   simp only[Og,Option.some.injEq] at h
   subst h
   simp[Op.eqFields]
 |f::fs,ks,o,n,b,hk,hl,h1,h2,h=>by
  simp only[Wt] at hk
  split at hk
  ·rename_i hn
   simp only[bne_iff_ne,ne_eq] at hn
   simp only[Option.bind_eq_some_iff,Option.map_eq_some_iff] at hk
   obtain⟨k1,e1,k2,e2,rfl⟩:=hk
   simp only[bz] at hl
   split at hl
   ·rename_i ho
    subst ho
    have hle:=Ut (P:=P) (fun t ks h=>wh (m:=m) h) e2 hl
    have hlen:=wh e1
    have px:=Hs (w:=w) e1 (xs:=xs) (off:=f.offset) (by omega)
    have py:=Hs (w:=w) e1 (xs:=ys) (off:=f.offset) (by omega)
    rw[← List.take_append_drop (P.cellsOf f.type) (xs.drop f.offset),←List.take_append_drop (P.cellsOf f.type) (ys.drop f.offset)] at h
    obtain⟨c,d,h3,h4,rfl⟩:=Bm (by simp;omega) (by simp;omega) h
    rw[List.drop_drop,List.drop_drop] at h4
    have he:=hE _ _ e1 w _ _ c (by simp;omega) (by simp;omega) h3
    have ih:=WA dd m xs ys hE fs k2 (f.offset+P.cellsOf f.type) n d e2 hl h1 h2 h4
    simp only[Op.eqFields,hn,ne_eq,not_false_eq_true,if_true,Sem.run_bind,px,py,he,Result.andThen_ok]
    cases c
    ·simp
    ·simpa using ih
   ·cases hl
  ·cases hk
theorem SD (dd m:Nat) {e:TypeId} {ks:List Nat} (he:gh P m e=some ks) (hE:KX P dd e ks) (xs ys:List Value):∀ (k i:Nat) (b:Bool),xs.length=(i+k) * P.cellsOf e→ys.length=(i+k) * P.cellsOf e→
 Og (KH k ks) (xs.drop (i * P.cellsOf e)) (ys.drop (i * P.cellsOf e))=some b→(Op.eqItems dd e (P.cellsOf e) ⟨xs⟩ ⟨ys⟩ (List.range' i k)).run P w= .ok b w
 |0,i,b,h1,h2,h=>by
  rw[List.drop_eq_nil_of_le (by simp at h1;omega),List.drop_eq_nil_of_le (by simp at h2;omega)] at h
  simp only[KH,Og,Option.some.injEq] at h
  subst h
  simp[Op.eqItems]
 |k+1,i,b,h1,h2,h=>by
  have hlen:=wh he
  have hx:i * P.cellsOf e+P.cellsOf e≤xs.length:=by
   rw[h1,←Nat.succ_mul];exact Nat.mul_le_mul_right _ (by omega)
  have hy:i * P.cellsOf e+P.cellsOf e≤ys.length:=by
   rw[h2,←Nat.succ_mul];exact Nat.mul_le_mul_right _ (by omega)
  have px:=Hs (w:=w) he (xs:=xs) (off:=i * P.cellsOf e) hx
  have py:=Hs (w:=w) he (xs:=ys) (off:=i * P.cellsOf e) hy
  rw[← List.take_append_drop (P.cellsOf e) (xs.drop _),←List.take_append_drop (P.cellsOf e) (ys.drop _)] at h
  obtain⟨c,d,h3,h4,rfl⟩:=Bm (by simp;omega) (by simp;omega) h
  rw[List.drop_drop,List.drop_drop,←Nat.succ_mul] at h4
  have hq:=hE w _ _ c (by simp;omega) (by simp;omega) h3
  have ih:=SD dd m he hE xs ys k (i+1) d (by rw[h1];congr 1;omega) (by rw[h2];congr 1;omega) h4
  rw[List.range'_succ]
  simp only[Op.eqItems,Sem.run_bind,px,py,hq,Result.andThen_ok]
  cases c
  ·simp
  ·simpa using ih
theorem VH (d:Nat):∀ (m:Nat) (t:TypeId) (ks:List Nat),gh P m t=some ks→KX P (d+m) t ks
 |0,_,_,h=>by simp[gh] at h
 |m+1,t,ks,hk=>by
  intro w xs ys b hx hy h
  rw[show d+(m+1)=(d+m)+1 from rfl]
  rcases xw hk with ha | ⟨ha,h1,hc⟩
  ·have vx:valOf P t xs= .agg ⟨xs⟩:=by simp[valOf,ha]
   have vy:valOf P t ys= .agg ⟨ys⟩:=by simp[valOf,ha]
   rw[vx,vy]
   unfold gh at hk
   split at hk
   ·rename_i hu;simp[Tk,hu] at ha
   ·rename_i hu;simp[Tk,hu] at ha
   ·rename_i hu;simp[Tk,hu] at ha
   ·rename_i fs hu
    split at hk
    ·rename_i e
     have hfs:P.fieldsOf t=fs:=by simp[Program.fieldsOf,hu]
     rw[run_equalIn_struct w (d+m) t ⟨xs⟩ ⟨ys⟩ (by rw[hfs];exact hu) e.2,hfs]
     exact WA (d+m) m xs ys (fun t ks h=>VH d m t ks h) fs.toList ks 0 (P.cellsOf t) b hk e.1 hx.symm hy.symm (by simpa using h)
    ·cases hk
   ·rename_i n e hu
    split at hk
    ·rename_i hsz
     simp only[Option.map_eq_some_iff] at hk
     obtain⟨a,h3,rfl⟩:=hk
     obtain⟨i,hi⟩:=uC h3
     rw[run_equalIn_array w (d+m) ⟨xs⟩ ⟨ys⟩ hu hi,List.range_eq_range']
     exact SD (d+m) m h3 (VH d m e a h3) xs ys n 0 b (by rw[hx,hsz,Nat.zero_add]) (by rw[hy,hsz,Nat.zero_add]) (by simpa using h)
    ·cases hk
   ·cases hk
  ·rw[h1] at hx hy
   match xs,ys,hx,hy with
   | [x],[y],_,_=>
     have vx:valOf P t [x]=x:=by simp[valOf,ha]
     have vy:valOf P t [y]=y:=by simp[valOf,ha]
     rw[vx,vy]
     have one:∀ k,ks=[k]→Er k x y=some b:=by
      rintro k rfl
      simpa[Og] using h
     rcases hc with⟨hu,rfl⟩ | ⟨⟨kk,hu⟩,rfl⟩ | ⟨hu,rfl⟩
     ·rcases Bk (one _ rfl) with⟨_,c,e,rfl,rfl,rfl⟩ | ⟨h,_⟩ | ⟨h,_⟩
      ·simp[Op.equalIn,run_underlying hu]
      ·cases h
      ·cases h
     ·rcases Bk (one _ rfl) with⟨h,_⟩ | ⟨_,i,c,e,rfl,rfl,rfl⟩ | ⟨h,_⟩
      ·cases h
      ·simp[Op.equalIn,run_underlying hu]
      ·cases h
     ·rcases Bk (one _ rfl) with⟨h,_⟩ | ⟨h,_⟩ | ⟨_,c,e,rfl,rfl,rfl⟩
      ·cases h
      ·cases h
      ·simp[Op.equalIn,run_underlying hu]
def Vy (P:Program) (t:TypeId):Kd→Bool
 | .one c=>gh P 8 t==some [c]&&Tk P t==some false
 | .row ks=>gh P 8 t==some ks&&Tk P t==some true
theorem GD {R:Rd} {t:TypeId} {kd:Kd} (hk:Vy P t kd=true) {p q:PV} {v u:Value} (hp:Ta R p v) (hq:Ta R q u) {b:Bool} (h:Fk kd p q=some b):(Op.equal t v u).run P w= .ok b w:=by
 show (Op.equalIn (9992+8) t v u).run P w=_
 cases kd with
 |one c=>
  simp only[Vy,Bool.and_eq_true,beq_iff_eq] at hk
  have:=VH 9992 8 t [c] hk.1 w [v] [u] b (by have:=wh hk.1;simpa using this) (by have:=wh hk.1;simpa using this) (by
   simp only[Fk] at h
   simp[Og,ft hp hq h])
  simpa[valOf,hk.2] using this
 |row ks=>
  simp only[Vy,Bool.and_eq_true,beq_iff_eq] at hk
  unfold Fk at h
  split at h
  ·cases ‹Kd.row ks=_›
  ·rename_i ks' xs ys e
   injection e with e;subst e
   cases hp with
   |agg _ vs h1=>
    cases hq with
    |agg _ us h2=>
     have hr:=ez h1 h2 h
     have lens:∀ {ks:List Nat} {xs ys:List Value} {b:Bool},Og ks xs ys=some b→xs.length=ks.length∧ys.length=ks.length:=by
      intro ks
      induction ks with
      |nil=>intro xs ys b h;cases xs <;> cases ys <;> simp_all [Og]
      |cons k ks ih=>
       intro xs ys b h
       cases xs <;> cases ys <;> simp only[Og,Option.bind_eq_some_iff,Option.map_eq_some_iff] at h
       ·cases h
       ·cases h
       ·cases h
       ·obtain⟨_,_,_,h2,_⟩:=h
        have:=ih h2
        simp[this.1,this.2]
     have hl:=lens hr
     have hn:=wh hk.1
     have:=VH 9992 8 t ks hk.1 w vs us b (by omega) (by omega) hr
     simpa[valOf,hk.2] using this
  ·cases h
end
end Go.AM
namespace Go.AM
open Go.RowKit
def OX (P:Program) (t:TypeId) (f:TypeDesc→Bool):Bool:=
 match P.underlying t with
 |some d=>f d
 |none=>false
def BX (P:Program) (t:TypeId):Option Nat:=
 match P.underlying t with
 |some .bool=>some 0
 |some (.pointer _)=>some 1
 |some (.slice _)=>some 2
 |some (.func _ _ _)=>some 3
 |_=>none
def xW (P:Program) (t:TypeId):Bool:=
 match P.underlying t with
 |some (.int .u8)=>true
 |_=>false
def YW (P:Program) (t:TypeId):Bool:=
 match P.underlying t with
 |some .string=>true
 |_=>false
def aY (P:Program) (t:TypeId) (k:IntKind):Bool:=
 match P.underlying t with
 |some (.int k')=>decide (k'=k)
 |_=>false
def Wu (P:Program) (t:TypeId):Option TypeId:=
 match P.underlying t with
 |some (.slice e)=>some e
 |_=>none
def wV (P:Program) (el:TypeId) (sz:Nat) (ag:Bool) (zero:List PV):Bool:=
 Md P el==some sz&&decide (0 < sz)&&(ag||sz==1)&&iq P el zero&&zero.length==sz&&Tk P el==some ag
def vT (P:Program) (t tx e:TypeId) (sz bytes:Nat):Bool:=
 Wu P t==some e&&(OX P tx fun d=>match d with | .slice e'=>e'==e | .string=>true | _=>false)&&Md P e==some sz&&Bo P e==some bytes&&decide (0 < bytes)&&decide (0 < sz)&&GN P e sz
def Mw (fo:Nat→FuncId):List (Nat×Operand)→List (Nat×AO)→Bool
 | [],[]=>true
 | (i,x)::xs,(j,y)::ys=>i==j&&Bl fo x y&&Mw fo xs ys
 |_,_=>false
def KM (fo:Nat→FuncId):Option Operand→Option AO→Bool
 |none,none=>true
 |some x,some y=>Bl fo x y
 |_,_=>false
def eW (P:Program) (t:TypeId) (f:Nat):Option Field:=
 match P.underlying t with
 |some (.struct fs)=>fs[f]?
 |_=>none
def Ip (P:Program) (fo:Nat→FuncId) (fs:Array Field):List (Nat×Operand)→List (Nat×Nat×AO)→Bool
 | [],[]=>true
 | (i,x)::xs,(off,sz,y)::ys=>
   (match fs[i]? with | some f=>f.offset==off&&Md P f.type==some sz | none=>false)&&Bl fo x y&&Ip P fo fs xs ys
 |_,_=>false
def ML (P:Program) (t:TypeId) (kd:Kd):Bool:=
 match P.underlying t with
 |some (.map k _)=>Vy P k kd
 |_=>false
def zU (P:Program) (t:TypeId) (zero:PV):Bool:=
 match P.underlying t with
 |some (.map _ e)=>
  (match P.info? e with
  |some i=>(match i.zero,zero with
   |some (.agg cs),.agg ps=>Ep cs.toList ps
   |some z,p=>Ay z p
   |none,_=>false)
  |none=>false)
 |_=>false
def BS (P:Program) (fo:Nat→FuncId):Op→sd→Bool
 | .move x,.move y=>Bl fo x y
 | .assign x,.move y=>Bl fo x y
 | .pick c a b,.pick c' a' b'=>Bl fo c c'&&Bl fo a a'&&Bl fo b b'
 | .alloc t,.alloc zero=>iq P t zero
 | .box _ x,.box _ y=>Bl fo x y
 | .build t parts,.build zero aparts=>
   (match P.underlying t with
   |some (.struct fs)=>Ip P fo fs parts.toList aparts&&fs.all fun f=>(Md P f.type).isSome
   |some (.array _ el)=>parts.toList.isEmpty&&aparts.isEmpty&&(Md P el).isSome
   |_=>false)&&iq P t zero
 | .buildSlice t len parts,.Fb _ sz ag len' zero aparts=>
   (match Wu P t with
   |some el=>wV P el sz ag zero
   |none=>false)&&len==len'&&decide (len * sz≤2 ^ 24)&&Mw fo parts.toList aparts
 | .load t x,.load ag n y=>Tk P t==some ag&&(!ag||Md P t==some n)&&Bl fo x y
 | .store t p x,.store n q y=>Md P t==some n&&Bl fo p q&&Bl fo x y
 | .nilCheck x,.JC y=>Bl fo x y
 | .binOp op _ x y _,.bin op' x' y'=>decide (op=op')&&Bl fo x x'&&Bl fo y y'
 | .binOp .eql t x y _,.eq k false x' y'=>BX P t==some k&&Bl fo x x'&&Bl fo y y'
 | .binOp .neq t x y _,.eq k true x' y'=>BX P t==some k&&Bl fo x x'&&Bl fo y y'
 | .unOp op _ x,.un op' y=>decide (op=op')&&Bl fo x y
 | .convert s d x,.conv k y=>(P.underlying s).isSome&&aY P d k&&Bl fo x y
 | .convert s d x,.CT y=>(match Wu P s with | some el=>xW P el | none=>false)&&YW P d&&Bl fo x y
 | .convert s d x,.XU _ y=>(P.underlying s).isSome&&(match Wu P d with | some el=>xW P el | none=>false)&&Bl fo x y
 | .makeFunc (.func f) first caps,.EH ix ys=>first.size==0&&fo ix==f&&GC fo caps.toList ys
 | .makeSlice t l c,.Jg _ sz ag zero bytes l' c'=>
   (match Wu P t with
   |some el=>wV P el sz ag zero&&Bo P el==some bytes
   |none=>false)&&decide (0 < bytes)&&Bl fo l l'&&Bl fo c c'
 | .slice t x lo hi none,.slice sz y lo' hi'=>
   (match P.underlying t with
   |some (.slice el)=>sz != 0&&Md P el==some sz
   |some .string=>sz==0
   |_=>false)&&Bl fo x y&&KM fo lo lo'&&KM fo hi hi'
 | .fieldAddr t x f,.yE off y=>
   (match eW P t f with
   |some fd=>fd.offset==off&&(match Md P fd.type with | some n=>n != 0 | none=>false)
   |none=>false)&&Bl fo x y
 | .field t x f,.cX off ag n y=>
   (match eW P t f with
   |some fd=>fd.offset==off&&Tk P fd.type==some ag&&(!ag||Md P fd.type==some n)
   |none=>false)&&Bl fo x y
 | .indexAddr t x i,.Pd sz y j=>(match Wu P t with | some el=>Md P el==some sz | none=>false)&&Bl fo x y&&Bl fo i j
 | .indexAddr t x i,.Wv n sz y j=>
   (match P.underlying t with
   |some (.array n' el)=>n'==n&&Md P el==some sz
   |_=>false)&&Bl fo x y&&Bl fo i j
 | .index t x i,.DT n sz ag y j=>
   (match P.underlying t with
   |some (.array n' el)=>n'==n&&Md P el==some sz&&Tk P el==some ag
   |_=>false)&&Bl fo x y&&Bl fo i j
 | .index t x i,.bX y j=>YW P t&&Bl fo x y&&Bl fo i j
 | .extract x i,.ext i' y=>i==i'&&Bl fo x y
 | .call {callee:= .builtin .len,args,argTypes},.len k y=>
   (match args.toList,argTypes.toList with
   | [x],[t]=>Bl fo x y&&(match P.underlying t with | some (.slice _)=>k==0 | some .string=>k==1 | _=>false)
   |_,_=>false)
 | .call {callee:= .builtin .max,args,..},.mx ys=>GC fo args.toList ys
 | .call {callee:= .builtin .min,args,..},.mn ys=>GC fo args.toList ys
 | .call {callee:= .builtin .append,args,argTypes},.append _ _ sz ag bytes s y=>
   (match args.toList,argTypes.toList with
   | [x,z],[t,tx]=>Bl fo x s&&Bl fo z y&&(match Wu P t with | some el=>vT P t tx el sz bytes&&Tk P el==some ag | none=>false)
   |_,_=>false)
 | .box _ x,.vM _ y=>Bl fo x y
 | .binOp .eql t x y _,.zV (.row ks) false x' y'=>Vy P t (.row ks)&& !P.eqGuardType P.depth t&&Bl fo x x'&&Bl fo y y'
 | .binOp .neq t x y _,.zV (.row ks) true x' y'=>Vy P t (.row ks)&& !P.eqGuardType P.depth t&&Bl fo x x'&&Bl fo y y'
 | .makeMap _ none,.wC=>true
 | .lookup t x k ok,.lookup kd zero ok' x' k'=>ML P t kd&&zU P t zero&&ok==ok'&&Bl fo x x'&&Bl fo k k'
 | .mapUpdate t m k v,.tu kd m' k' v'=>ML P t kd&&Bl fo m m'&&Bl fo k k'&&Bl fo v v'
 | .insert t m k v,.tu kd m' k' v'=>ML P t kd&&Bl fo m m'&&Bl fo k k'&&Bl fo v v'
 | .convert s d x,.DX y=>s==d&&(match Wu P d with | some el=>xW P el | none=>false)&&Bl fo x y
 |_,_=>false
def nz (P:Program) (fo:Nat→FuncId) (B0:Qf) (o:Oper) (a:Act) (w:World) (R:Rd) (φ:Pl) (H:List ba) (v:AV) (H':List ba):Prop:=
 ∀ (next:Act→World→Prop) (Q:Exit→Act→World→Prop),
  (∀ v' w' R' φ',pc fo B0 w' R' φ' H'→Kc fo (K R' φ' H') v v'→(∀ a u,K R φ H a u→K R' φ' H' a u)→Ig B0 w w'→next (a.put o.dst v') w')→o.wp P a w next Q
section ops
variable {P:Program} {fo:Nat→FuncId} {B0:Qf} {w:World} {R:Rd} {φ:Pl} {H H':List ba} {e:Tr} {a:Act}
theorem nz.Wc {o:Oper} {v:AV} {s:Sem Value} (h:execOp a.eval o=(do pure (.value (← s)))) (hr:Xk fo B0 w R φ H P s v H'):nz P fo B0 o a w R φ H v H':=by
 intro next Q hn
 obtain⟨v',w',R',φ',h1,h2,h3,h4,h5⟩:=hr
 unfold Oper.wp
 rw[h,Sem.run_bind,h1]
 exact hn v' w' R' φ' h2 h3 h4 h5
theorem nz.gr {o:Oper} {v:AV} {v':Value} (hS:pc fo B0 w R φ H) (h:(execOp a.eval o).run P w= .ok (.value v') w) (hv:Kc fo (K R φ H) v v'):nz P fo B0 o a w R φ H v H:=by
 intro next Q hn
 unfold Oper.wp
 rw[h]
 exact hn v' w R φ hS hv (fun _ _ h=>h) (Ig.refl _ _)
theorem TF {el:TypeId} {sz:Nat} {ag:Bool} {zero:List PV} (h:wV P el sz ag zero=true):aR P el sz ag zero:=by
 simp only[wV,Bool.and_eq_true,beq_iff_eq,decide_eq_true_eq,Bool.or_eq_true] at h
 obtain⟨⟨⟨⟨⟨h1,h2⟩,h3⟩,h4⟩,h5⟩,h6⟩:=h
 exact⟨h1,h2,fun e=>by rcases h3 with h | h;simp[e] at h;exact h,h4,h5⟩
theorem Vm {t el:TypeId} (h:Wu P t=some el):P.underlying t=some (.slice el):=by
 unfold Wu at h
 split at h
 ·rename_i e he;injection h with h;subst h;exact he
 ·cases h
theorem uT {t:TypeId} {f:TypeDesc→Bool} (h:OX P t f=true):∃ d,P.underlying t=some d∧f d=true:=by
 unfold OX at h
 split at h
 ·rename_i d hd;exact⟨d,hd,h⟩
 ·cases h
theorem yM {t tx el:TypeId} {sz bytes:Nat} (h:vT P t tx el sz bytes=true):aN P t tx el sz bytes:=by
 simp only[vT,Bool.and_eq_true,beq_iff_eq,decide_eq_true_eq] at h
 obtain⟨⟨⟨⟨⟨⟨h1,h2⟩,h3⟩,h4⟩,h5⟩,h6⟩,h7⟩:=h
 obtain⟨d,hd,hf⟩:=uT h2
 refine⟨Vm h1,⟨d,hd,?_⟩,h3,h4,h5,h6,h7⟩
 cases d <;> simp at hf
 ·exact .inr rfl
 ·exact .inl (by rw[hf])
theorem Ak {t:TypeId} {k:Nat} (h:BX P t=some k):(k=0∧P.underlying t=some .bool)∨(k=1∧∃ e,P.underlying t=some (.pointer e))∨(k=2∧∃ e,P.underlying t=some (.slice e))∨(k=3∧∃ p r v,P.underlying t=some (.func p r v)):=by
 unfold BX at h
 split at h <;> first
  |cases h;done
  | (injection h with h;subst h;simp_all)
theorem Kc.JG {K:AV→Value→Prop} {id off:Nat} {v:Value} (h:Kc fo K (.ptr id off) v):K (.ptr id off) v:=by cases h with | atom _ _ h=>exact h
theorem Kc.yz {K:AV→Value→Prop} {id off:Nat} {v:Value} (h:Kc fo K (.own id off) v):K (.own id off) v:=by cases h with | atom _ _ h=>exact h
theorem Kc.xu {K:AV→Value→Prop} {id sz:Nat} {nl:Bool} {es:List PV} {v:Value} (h:Kc fo K (.uq id nl sz es) v):K (.uq id nl sz es) v:=by cases h with | atom _ _ h=>exact h
theorem Vi {t:TypeId} (hu:P.underlying t=some .bool) (d:Nat) (a b:Bool):(Op.equalIn (d+1) t (.bool a) (.bool b)).run P w= .ok (a==b) w:=by
 simp[Op.equalIn,run_underlying hu]
theorem Rk {t el:TypeId} (hu:P.underlying t=some (.pointer el)) (d:Nat) (a:Option Addr):(Op.equalIn (d+1) t (.pointer a) (.pointer none)).run P w= .ok a.isNone w:=by
 cases a <;> simp[Op.equalIn,run_underlying hu]
theorem Yi {t el:TypeId} (hu:P.underlying t=some (.pointer el)) (d:Nat) (a:Option Addr):(Op.equalIn (d+1) t (.pointer none) (.pointer a)).run P w= .ok a.isNone w:=by
 cases a <;> simp[Op.equalIn,run_underlying hu]
theorem mh {t el:TypeId} (hu:P.underlying t=some (.slice el)) (d:Nat) (a:Option Addr) (n c m k:Nat):(Op.equalIn (d+1) t (.slice a n c) (.slice none m k)).run P w= .ok a.isNone w:=by
 cases a <;> simp[Op.equalIn,run_underlying hu]
theorem Ui {t:TypeId} {p r:Array TypeId} {v:Bool} (hu:P.underlying t=some (.func p r v)) (d:Nat) (f:Fn) (x y:Array Value):(Op.equalIn (d+1) t (.func f x y) .nilFunc).run P w= .ok false w:=by
 simp[Op.equalIn,run_underlying hu]
theorem xh {t:TypeId} {p r:Array TypeId} {v:Bool} (hu:P.underlying t=some (.func p r v)) (d:Nat):(Op.equalIn (d+1) t .nilFunc .nilFunc).run P w= .ok true w:=by
 simp[Op.equalIn,run_underlying hu]
theorem rS {t:TypeId} {k:Nat} (ht:BX P t=some k) (hS:pc fo B0 w R φ H) {x y:AV} {vx vy:Value} (hx:Kc fo (K R φ H) x vx) (hy:Kc fo (K R φ H) y vy) {b:Bool} (h:Hu H k x y=some b):
 (∀ op:BinOp,op= .eql∨op= .neq→∀ (ox oy:Operand),(do eqGuard op t ox oy vx vy;binOp op t vx vy:Sem Value).run P w= .ok (.bool (if op= .neq then !b else b)) w):=by
 have key:(Op.equal t vx vy).run P w= .ok b w→(∀ (op:BinOp) (ox oy:Operand),(eqGuard op t ox oy vx vy)=pure ())→(∀ op:BinOp,(op= .eql→binOp op t vx vy=(do pure (.bool (← Op.equal t vx vy))))∧(op= .neq→binOp op t vx vy=(do pure (.bool (!(← Op.equal t vx vy))))))→
  (∀ op:BinOp,op= .eql∨op= .neq→∀ (ox oy:Operand),(do eqGuard op t ox oy vx vy;binOp op t vx vy:Sem Value).run P w= .ok (.bool (if op= .neq then !b else b)) w):=by
  intro h1 h2 h3 op hop ox oy
  rcases hop with rfl | rfl
  ·simp[h2,(h3 .eql).1 rfl,h1]
  ·simp[h2,(h3 .neq).2 rfl,h1]
 have one:∀ (x y:Value),(Op.equal t x y).run P w=(Op.equalIn (9999+1) t x y).run P w:=fun _ _=>rfl
 unfold Hu at h
 split at h
 ·
  have h1:=hx.Qb;have h2:=hy.Qb
  cases h1;cases h2
  injection h with h;subst h
  have hu:=Ak ht
  simp at hu
  refine key ?_ (fun op ox oy=>by cases op <;> rfl) (fun op=>⟨fun e=>by subst e;rfl,fun e=>by subst e;rfl⟩)
  rw[one]
  first | exact Vi hu 9999 _ _ | exact Rk hu 9999 _ | exact Yi hu 9999 _ | exact mh hu 9999 _ _ _ _ _ | exact Ui hu 9999 _ _ _ | exact xh hu 9999
 ·have h1:=hx.Qb;have h2:=hy.Qb
  cases h1;cases h2
  injection h with h;subst h
  have hu:=Ak ht
  simp at hu
  obtain⟨e,hu⟩:=hu
  refine key ?_ (fun op ox oy=>by cases op <;> rfl) (fun op=>⟨fun e=>by subst e;rfl,fun e=>by subst e;rfl⟩)
  rw[one]
  first | exact Vi hu 9999 _ _ | exact Rk hu 9999 _ | exact Yi hu 9999 _ | exact mh hu 9999 _ _ _ _ _ | exact Ui hu 9999 _ _ _ | exact xh hu 9999
 ·have h1:=hx.Qb;have h2:=hy.Qb
  cases h1;cases h2
  injection h with h;subst h
  have hu:=Ak ht
  simp at hu
  obtain⟨e,hu⟩:=hu
  refine key ?_ (fun op ox oy=>by cases op <;> rfl) (fun op=>⟨fun e=>by subst e;rfl,fun e=>by subst e;rfl⟩)
  rw[one]
  first | exact Vi hu 9999 _ _ | exact Rk hu 9999 _ | exact Yi hu 9999 _ | exact mh hu 9999 _ _ _ _ _ | exact Ui hu 9999 _ _ _ | exact xh hu 9999
 ·have h1:=hx.Qb;have h2:=hy.Qb
  cases h1;cases h2
  injection h with h;subst h
  have hu:=Ak ht
  simp at hu
  obtain⟨e,hu⟩:=hu
  refine key ?_ (fun op ox oy=>by cases op <;> rfl) (fun op=>⟨fun e=>by subst e;rfl,fun e=>by subst e;rfl⟩)
  rw[one]
  first | exact Vi hu 9999 _ _ | exact Rk hu 9999 _ | exact Yi hu 9999 _ | exact mh hu 9999 _ _ _ _ _ | exact Ui hu 9999 _ _ _ | exact xh hu 9999
 ·
  split at h
  ·rename_i hc
   have h2:=hy.Qb
   cases h2
   injection h with h;subst h
   have h1:=hx.JG
   rw[h1.2.2 _ hc]
   have hu:=Ak ht
   simp at hu
   obtain⟨e,hu⟩:=hu
   rw[h1.2.2 _ hc] at key
   refine key ?_ (fun op ox oy=>by cases op <;> rfl) (fun op=>⟨fun e=>by subst e;rfl,fun e=>by subst e;rfl⟩)
   rw[one]
   first | exact Vi hu 9999 _ _ | exact Rk hu 9999 _ | exact Yi hu 9999 _ | exact mh hu 9999 _ _ _ _ _ | exact Ui hu 9999 _ _ _ | exact xh hu 9999
  ·cases h
 ·have h1:=hx.Qb;have h2:=hy.Qb
  cases h1;cases h2
  injection h with h;subst h
  have hu:=Ak ht
  simp at hu
  obtain⟨e,hu⟩:=hu
  refine key ?_ (fun op ox oy=>by cases op <;> rfl) (fun op=>⟨fun e=>by subst e;rfl,fun e=>by subst e;rfl⟩)
  rw[one]
  first | exact Vi hu 9999 _ _ | exact Rk hu 9999 _ | exact Yi hu 9999 _ | exact mh hu 9999 _ _ _ _ _ | exact Ui hu 9999 _ _ _ | exact xh hu 9999
 ·have h1:=hx.Qb;have h2:=hy.Qb
  cases h2
  obtain⟨a7,n7,c7,rfl⟩:∃ a n c,vx= .slice (some a) n c:=by cases h1 <;> exact⟨_,_,_,rfl⟩
  injection h with h;subst h
  have hu:=Ak ht
  simp at hu
  obtain⟨e,hu⟩:=hu
  refine key ?_ (fun op ox oy=>by cases op <;> rfl) (fun op=>⟨fun e=>by subst e;rfl,fun e=>by subst e;rfl⟩)
  rw[one]
  first | exact Vi hu 9999 _ _ | exact Rk hu 9999 _ | exact Yi hu 9999 _ | exact mh hu 9999 _ _ _ _ _ | exact Ui hu 9999 _ _ _ | exact xh hu 9999
 ·
  rename_i nl sz es
  have h2:=hy.Qb
  cases h2
  injection h with h;subst h
  have h1:=hx.xu
  have hu:=Ak ht
  simp at hu
  obtain⟨e,hu⟩:=hu
  cases nl with
  |true=>
   rw[(h1.2.1 rfl).1] at key ⊢
   refine key ?_ (fun op ox oy=>by cases op <;> rfl) (fun op=>⟨fun e=>by subst e;rfl,fun e=>by subst e;rfl⟩)
   rw[one]
   first | exact Vi hu 9999 _ _ | exact Rk hu 9999 _ | exact Yi hu 9999 _ | exact mh hu 9999 _ _ _ _ _ | exact Ui hu 9999 _ _ _ | exact xh hu 9999
  |false=>
   have h3:=h1.2.2.1 rfl
   obtain⟨a8,n8,c8,rfl⟩:∃ a n c,vx= .slice (some a) n c:=by cases h3 <;> exact⟨_,_,_,rfl⟩
   refine key ?_ (fun op ox oy=>by cases op <;> rfl) (fun op=>⟨fun e=>by subst e;rfl,fun e=>by subst e;rfl⟩)
   rw[one]
   first | exact Vi hu 9999 _ _ | exact Rk hu 9999 _ | exact Yi hu 9999 _ | exact mh hu 9999 _ _ _ _ _ | exact Ui hu 9999 _ _ _ | exact xh hu 9999
 ·
  split at h
  ·rename_i sz ag c fl nl hc
   split at h
   ·rename_i hcur
    injection h with h;subst h
    have h2:=hy.Qb
    cases h2
    have h1:=hx.yz
    obtain⟨k0,k⟩:=h1.2.2 _ _ _ _ _ hc
    obtain⟨o0,o1,o2,_⟩:=hS.obj _ _ hc
    obtain⟨k1,k2⟩:=k (by omega)
    have hu:=Ak ht
    simp at hu
    obtain⟨e,hu⟩:=hu
    cases nl with
    |true=>
     rw[k1 rfl] at key ⊢
     refine key ?_ (fun op ox oy=>by cases op <;> rfl) (fun op=>⟨fun e=>by subst e;rfl,fun e=>by subst e;rfl⟩)
     rw[one]
     first | exact Vi hu 9999 _ _ | exact Rk hu 9999 _ | exact Yi hu 9999 _ | exact mh hu 9999 _ _ _ _ _ | exact Ui hu 9999 _ _ _ | exact xh hu 9999
    |false=>
     rcases k2 rfl with⟨q1,q2,_⟩ | ⟨b,o,cap,q1,_,_⟩
     ·subst q1;exact absurd (List.eq_nil_of_length_eq_zero (by omega)) q2
     ·rw[q1] at key ⊢
      refine key ?_ (fun op ox oy=>by cases op <;> rfl) (fun op=>⟨fun e=>by subst e;rfl,fun e=>by subst e;rfl⟩)
      rw[one]
      first | exact Vi hu 9999 _ _ | exact Rk hu 9999 _ | exact Yi hu 9999 _ | exact mh hu 9999 _ _ _ _ _ | exact Ui hu 9999 _ _ _ | exact xh hu 9999
   ·cases h
  ·cases h
 ·have h2:=hy.Qb
  cases h2
  injection h with h;subst h
  cases hx with
  |atom _ _ h=>exact h.elim
  |Gk ix cs vs hc=>
   have hu:=Ak ht
   replace hu:=((hu.resolve_left (by simp)).resolve_left (by simp)).resolve_left (by simp)
   obtain⟨_,p,r,v,hu⟩:=hu
   refine key ?_ (fun op ox oy=>by cases op <;> rfl) (fun op=>⟨fun e=>by subst e;rfl,fun e=>by subst e;rfl⟩)
   rw[one]
   first | exact Vi hu 9999 _ _ | exact Rk hu 9999 _ | exact Yi hu 9999 _ | exact mh hu 9999 _ _ _ _ _ | exact Ui hu 9999 _ _ _ | exact xh hu 9999
 ·have h1:=hx.Qb;have h2:=hy.Qb
  cases h1;cases h2
  injection h with h;subst h
  have hu:=Ak ht
  replace hu:=((hu.resolve_left (by simp)).resolve_left (by simp)).resolve_left (by simp)
  obtain⟨_,p,r,v,hu⟩:=hu
  refine key ?_ (fun op ox oy=>by cases op <;> rfl) (fun op=>⟨fun e=>by subst e;rfl,fun e=>by subst e;rfl⟩)
  rw[one]
  first | exact Vi hu 9999 _ _ | exact Rk hu 9999 _ | exact Yi hu 9999 _ | exact mh hu 9999 _ _ _ _ _ | exact Ui hu 9999 _ _ _ | exact xh hu 9999
 ·cases h
end ops
end Go.AM
namespace Go.AM
open Go.RowKit
section
variable {P:Program} {fo:Nat→FuncId} {B0:Qf} {w:World} {R:Rd} {φ:Pl} {H H':List ba}
def nW (P:Program) (em:Bool) (dd:Nat) (e:TypeId) (ks:List Nat):Prop:=
 ∀ (w:World) (xs:List Value) (b:Bool),xs.length=P.cellsOf e→Og ks xs xs=some b→(Instr.checkKey em dd e (valOf P e xs)).run P w= .ok () w
theorem Lw (em:Bool) (d:Nat):∀ (m:Nat) (t:TypeId) (ks:List Nat),gh P m t=some ks→nW P em (d+m) t ks
 |0,_,_,h=>by simp[gh] at h
 |m+1,t,ks,hk=>by
  intro w xs b hx h
  rw[show d+(m+1)=(d+m)+1 from rfl]
  rcases xw hk with ha | ⟨ha,h1,hc⟩
  ·have vx:valOf P t xs= .agg ⟨xs⟩:=by simp[valOf,ha]
   rw[vx]
   unfold gh at hk
   split at hk
   ·rename_i hu;simp[Tk,hu] at ha
   ·rename_i hu;simp[Tk,hu] at ha
   ·rename_i hu;simp[Tk,hu] at ha
   ·rename_i fs hu
    split at hk
    ·rename_i e
     rw[Instr.checkKey]
     simp only[Sem.run_bind,run_underlying hu,Result.andThen_ok]
     rw[← Array.forIn_toList]
     have hE:=fun t ks h=>Lw em d m t ks h
     have hl:=e.1
     have h':Og ks (xs.drop 0) (xs.drop 0)=some b:=by simpa using h
     clear h e hu vx ha
     generalize P.cellsOf t=n at hl hx
     generalize 0=o at hl h'
     generalize fs.toList=L at hk hl
     induction L generalizing ks o b with
     |nil=>simp
     |cons f L ih=>
      simp only[Wt] at hk
      split at hk
      ·rename_i hn
       simp only[bne_iff_ne,ne_eq] at hn
       simp only[Option.bind_eq_some_iff,Option.map_eq_some_iff] at hk
       obtain⟨k1,e1,k2,e2,rfl⟩:=hk
       simp only[bz] at hl
       split at hl
       ·rename_i ho
        subst ho
        have hle:=Ut (P:=P) (fun t ks h=>wh (m:=m) h) e2 hl
        have hlen:=wh e1
        have px:=Hs (w:=w) e1 (xs:=xs) (off:=f.offset) (by omega)
        rw[← List.take_append_drop (P.cellsOf f.type) (xs.drop f.offset)] at h'
        obtain⟨c,g,h3,h4,rfl⟩:=Bm (by simp;omega) rfl h'
        rw[List.drop_drop] at h4
        have he:=hE _ _ e1 w _ c (by simp;omega) h3
        simp only[List.forIn_cons,Sem.run_bind,hn,ne_eq,not_false_eq_true,if_true,Result.andThen_ok,px,he,Sem.run_pure]
        exact ih _ _ _ h4 e2 hl
       ·cases hl
      ·cases hk
    ·cases hk
   ·rename_i n e hu
    split at hk
    ·rename_i hsz
     simp only[Option.map_eq_some_iff] at hk
     obtain⟨a,h3,rfl⟩:=hk
     rw[Instr.checkKey]
     simp only[Sem.run_bind,run_underlying hu,Result.andThen_ok]
     simp only[Std.Legacy.Range.forIn_eq_forIn_range',Std.Legacy.Range.size,Nat.sub_zero,Nat.add_one_sub_one,Nat.div_one]
     have hE:=Lw em d m e a h3
     have hlen:=wh h3
     have hx':xs.length=(0+n) * P.cellsOf e:=by rw[hx,hsz,Nat.zero_add]
     have h':Og (KH n a) (xs.drop (0 * P.cellsOf e)) (xs.drop (0 * P.cellsOf e))=some b:=by simpa using h
     clear hx h hsz hu vx ha
     generalize 0=i at hx' h'
     induction n generalizing i b with
     |zero=>simp
     |succ k ih=>
      have hxl:i * P.cellsOf e+P.cellsOf e≤xs.length:=by
       rw[hx',←Nat.succ_mul];exact Nat.mul_le_mul_right _ (by omega)
      have px:=Hs (w:=w) h3 (xs:=xs) (off:=i * P.cellsOf e) hxl
      rw[KH,←List.take_append_drop (P.cellsOf e) (xs.drop _)] at h'
      obtain⟨c,g,h5,h4,rfl⟩:=Bm (by simp;omega) rfl h'
      rw[List.drop_drop,←Nat.succ_mul] at h4
      have hq:=hE w _ c (by simp;omega) h5
      rw[List.range'_succ]
      simp only[List.forIn_cons,Sem.run_bind,uc (Gx h3),Result.andThen_ok,px,hq,Sem.run_pure]
      exact ih _ _ (by rw[hx'];congr 1;omega) h4
    ·cases hk
   ·cases hk
  ·rw[h1] at hx
   match xs,hx with
   | [x],_=>
     have vx:valOf P t [x]=x:=by simp[valOf,ha]
     rw[vx]
     have one:∀ k,ks=[k]→Er k x x=some b:=by
      rintro k rfl
      simpa[Og] using h
     rw[Instr.checkKey]
     rcases hc with⟨hu,rfl⟩ | ⟨⟨kk,hu⟩,rfl⟩ | ⟨hu,rfl⟩
     ·simp[run_underlying hu]
     ·simp[run_underlying hu]
     ·simp[run_underlying hu]
theorem tM:∀ {ks:List Nat} {xs ys:List Value} {b:Bool},Og ks xs ys=some b→xs.length=ks.length∧ys.length=ks.length:=by
 intro ks
 induction ks with
 |nil=>intro xs ys b h;cases xs <;> cases ys <;> simp_all [Og]
 |cons k ks ih=>
  intro xs ys b h
  cases xs <;> cases ys <;> simp only[Og,Option.bind_eq_some_iff,Option.map_eq_some_iff] at h
  ·cases h
  ·cases h
  ·cases h
  ·obtain⟨_,_,_,h2,_⟩:=h
   have:=ih h2
   simp[this.1,this.2]
theorem Ky {t:TypeId} {kd:Kd} (hk:Vy P t kd=true) {p:PV} {v:Value} (hp:Ta R p v) {b:Bool} (h:Fk kd p p=some b) (em:Bool):(Instr.checkKey em 10000 t v).run P w= .ok () w:=by
 show (Instr.checkKey em (9992+8) t v).run P w=_
 cases kd with
 |one c=>
  simp only[Vy,Bool.and_eq_true,beq_iff_eq] at hk
  have:=Lw em 9992 8 t [c] hk.1 w [v] b (by have:=wh hk.1;simpa using this) (by
   simp only[Fk] at h
   simp[Og,ft hp hp h])
  simpa[valOf,hk.2] using this
 |row ks=>
  simp only[Vy,Bool.and_eq_true,beq_iff_eq] at hk
  have hs:∃ xs,p= .agg xs:=by cases p <;> simp[Fk] at h;exact⟨_,rfl⟩
  obtain⟨xs,rfl⟩:=hs
  simp only[Fk] at h
  cases hp with
  |agg _ vs h1=>
   have hr:=ez h1 h1 h
   have hl:=tM hr
   have hn:=wh hk.1
   have:=Lw em 9992 8 t ks hk.1 w vs b (by omega) hr
   simpa[valOf,hk.2] using this
theorem LA {k:Nat} {x y:Value} (h:Er k x y=some true):x=y:=by
 rcases Bk h with⟨_,c,d,rfl,rfl,e⟩ | ⟨_,i,c,d,rfl,rfl,e⟩ | ⟨_,c,d,rfl,rfl,e⟩
 ·have:=eq_of_beq e.symm;rw[this]
 ·have:=eq_of_beq e.symm;rw[this]
 ·have:c=d:=by
   have e:=e.symm
   obtain⟨⟨c⟩⟩:=c;obtain⟨⟨d⟩⟩:=d
   have h2:((⟨c⟩:Array UInt8)==⟨d⟩)=true:=e
   have:=eq_of_beq h2
   simp at this
   rw[this]
  rw[this]
theorem BD:∀ {ks:List Nat} {xs ys:List Value},Og ks xs ys=some true→xs=ys
 | [],[],[],_=>rfl
 |k::ks,x::xs,y::ys,h=>by
  simp only[Og,Option.bind_eq_some_iff,Option.map_eq_some_iff] at h
  obtain⟨b,h1,c,h2,h3⟩:=h
  simp only[Bool.and_eq_true] at h3
  obtain⟨rfl,rfl⟩:=h3
  rw[LA h1,BD h2]
 | [],[],_::_,h=>by simp[Og] at h
 | [],_::_,_,h=>by simp[Og] at h
 |_::_,[],_,h=>by simp[Og] at h
 |_::_,_::_,[],h=>by simp[Og] at h
theorem bO {kd:Kd} {p q:PV} {v u:Value} (hp:Ta R p v) (hq:Ta R q u) (h:Fk kd p q=some true):v=u∧∀ n,Instr.sameBits (n+2) u u=true:=by
 have atom:∀ {c:Nat} {x y:Value} {b:Bool},Er c x y=some b→∀ n,Instr.sameBits n x x=true:=by
  intro c x y b hc n
  rcases Bk hc with⟨_,c,d,rfl,rfl,_⟩ | ⟨_,i,c,d,rfl,rfl,_⟩ | ⟨_,c,d,rfl,rfl,_⟩
  ·cases n <;> simp[Instr.sameBits]
  ·cases n <;> simp[Instr.sameBits]
  ·cases n <;> (simp only[Instr.sameBits];obtain⟨⟨c⟩⟩:=c;show ((⟨c⟩:Array UInt8)==⟨c⟩)=true;simp)
 unfold Fk at h
 split at h
 ·have h1:=ft hp hq h
  have e:=LA h1
  subst e
  exact⟨rfl,fun n=>atom h1 _⟩
 ·cases hp with
  |agg _ vs h1=>
   cases hq with
   |agg _ us h2=>
    have hr:=ez h1 h2 h
    have e:=BD hr
    subst e
    refine⟨rfl,fun n=> ?_⟩
    simp only[Instr.sameBits,beq_self_eq_true,Bool.true_and]
    clear h1 h2 h
    rw[List.all_eq_true]
    rintro⟨x,y⟩ hm
    rename_i ks _ _
    induction ks generalizing vs with
    |nil=>cases vs with
     |nil=>simp at hm
     |cons=>simp[Og] at hr
    |cons k ks ih=>
     cases vs with
     |nil=>simp at hm
     |cons z zs=>
      simp only[Og,Option.bind_eq_some_iff,Option.map_eq_some_iff] at hr
      obtain⟨b,q1,c,q2,q3⟩:=hr
      simp only[Bool.and_eq_true] at q3
      obtain⟨rfl,rfl⟩:=q3
      simp only[List.zip_cons_cons,List.mem_cons,Prod.mk.injEq] at hm
      rcases hm with⟨rfl,rfl⟩ | hm
      ·exact atom q1 _
      ·exact ih zs q2 hm
 ·cases h
def PO (R:Rd) (kd:Kd) (k:PV) (es:List (PV×PV)) (ents:List MapEntry) (i:Nat):Option (Nat×PV)→Option (Nat×Value)→Prop
 |none,none=>True
 |some (a,p),some (b,u)=>a=b∧∃ j e x,a=i+j∧es[j]? =some e∧ents[j]? =some x∧e.2=p∧x.val=u∧Ta R p u∧Ta R e.1 x.key∧Fk kd k e.1=some true
 |_,_=>False
theorem PO.succ {kd:Kd} {k:PV} {es:List (PV×PV)} {ents:List MapEntry} {i:Nat} {e:PV×PV} {x:MapEntry} {r:Option (Nat×PV)} {r':Option (Nat×Value)} (h:PO R kd k es ents (i+1) r r'):PO R kd k (e::es) (x::ents) i r r':=by
 cases r with
 |none=>cases r' with
  |none=>trivial
  |some=>exact h.elim
 |some r=>cases r' with
  |none=>exact h.elim
  |some r'=>
   obtain⟨h1,j,e',x',h2,h3⟩:=h
   exact⟨h1,j+1,e',x',by omega,h3⟩
theorem xx {t:TypeId} {kd:Kd} (hk:Vy P t kd=true) {k:PV} {v:Value} (hv:Ta R k v):∀ {es:List (PV×PV)} {ents:List MapEntry} {i:Nat} {r:Option (Nat×PV)},wv R es ents→Ml kd k es i=some r→
 ∃ r',(Instr.findAsking t v ents i).run P w= .ok r' w∧PO R kd k es ents i r r'
 | [],[],i,r,_,h=>by
   simp only[Ml,Option.some.injEq] at h;subst h
   exact⟨none,by simp[Instr.findAsking],trivial⟩
 |e::es,x::ents,i,r,⟨m1,m2,m3⟩,h=>by
  simp only[Ml,Option.bind_eq_some_iff] at h
  obtain⟨b,h1,h2⟩:=h
  have hr:=GD (w:=w) hk hv m1 h1
  cases b with
  |true=>
   simp only[if_true,Option.some.injEq] at h2;subst h2
   exact⟨some (i,x.val),by simp[Instr.findAsking,hr],rfl,0,e,x,rfl,rfl,rfl,rfl,rfl,m2,m1,h1⟩
  |false=>
   simp only[Bool.false_eq_true,if_false] at h2
   obtain⟨r',h3,h4⟩:=xx hk hv m3 h2
   exact⟨r',by simp[Instr.findAsking,hr,h3],h4.succ⟩
 | [],_::_,_,_,h,_=>h.elim
 |_::_,[],_,_,h,_=>h.elim
theorem CL {d:TypeDesc} {c:Nat} {x y:Value} {b:Bool} (hd:(d= .bool∧c=0)∨((∃ k,d= .int k)∧c=1)∨(d= .string∧c=2)) (h:Er c x y=some b):Instr.sameNow d x y=some b:=by
 rcases hd with⟨rfl,rfl⟩ | ⟨⟨k,rfl⟩,rfl⟩ | ⟨rfl,rfl⟩
 ·rcases Bk h with⟨_,c,d,rfl,rfl,rfl⟩ | ⟨h,_⟩ | ⟨h,_⟩
  ·rfl
  ·cases h
  ·cases h
 ·rcases Bk h with⟨h,_⟩ | ⟨_,i,c,d,rfl,rfl,rfl⟩ | ⟨h,_⟩
  ·cases h
  ·simp[Instr.sameNow]
  ·cases h
 ·rcases Bk h with⟨h,_⟩ | ⟨h,_⟩ | ⟨_,c,d,rfl,rfl,rfl⟩
  ·cases h
  ·cases h
  ·rfl
theorem nE {d:TypeDesc} {c:Nat} (hd:(d= .bool∧c=0)∨((∃ k,d= .int k)∧c=1)∨(d= .string∧c=2)) {k:PV} {v:Value} (hv:Ta R k v):∀ {es:List (PV×PV)} {ents:List MapEntry} {i:Nat} {r:Option (Nat×PV)},wv R es ents→Ml (.one c) k es i=some r→
 ∃ r',Instr.findNow d v ents i=some r'∧PO R (.one c) k es ents i r r'
 | [],[],i,r,_,h=>by
   simp only[Ml,Option.some.injEq] at h;subst h
   exact⟨none,rfl,trivial⟩
 |e::es,x::ents,i,r,⟨m1,m2,m3⟩,h=>by
  simp only[Ml,Option.bind_eq_some_iff] at h
  obtain⟨b,h1,h2⟩:=h
  have hr:=CL hd (ft hv m1 h1)
  cases b with
  |true=>
   simp only[if_true,Option.some.injEq] at h2;subst h2
   exact⟨some (i,x.val),by simp[Instr.findNow,hr],rfl,0,e,x,rfl,rfl,rfl,rfl,rfl,m2,m1,h1⟩
  |false=>
   simp only[Bool.false_eq_true,if_false] at h2
   obtain⟨r',h3,h4⟩:=nE hd hv m3 h2
   exact⟨r',by simp[Instr.findNow,hr,h3],h4.succ⟩
 | [],_::_,_,_,h,_=>h.elim
 |_::_,[],_,_,h,_=>h.elim
theorem OC {t:TypeId} {kd:Kd} (hk:Vy P t kd=true) {k:PV} {v:Value} (hv:Ta R k v) {es:List (PV×PV)} {ents:List MapEntry} {r:Option (Nat×PV)} (hm:wv R es ents) (h:Ml kd k es 0=some r):
 ∃ r',(Instr.findKey t v ents).run P w= .ok r' w∧PO R kd k es ents 0 r r':=by
 cases kd with
 |one c=>
  have hk2:=hk
  simp only[Vy,Bool.and_eq_true,beq_iff_eq] at hk2
  have hd:∃ d,P.underlying t=some d∧((d= .bool∧c=0)∨((∃ k,d= .int k)∧c=1)∨(d= .string∧c=2)):=by
   rcases xw hk2.1 with ha | ⟨_,_,hc⟩
   ·rw[hk2.2] at ha;cases ha
   ·rcases hc with⟨hu,e⟩ | ⟨⟨kk,hu⟩,e⟩ | ⟨hu,e⟩
    ·exact⟨_,hu,.inl ⟨rfl,by simpa using e⟩⟩
    ·exact⟨_,hu,.inr (.inl ⟨⟨kk,rfl⟩,by simpa using e⟩)⟩
    ·exact⟨_,hu,.inr (.inr ⟨rfl,by simpa using e⟩)⟩
  obtain⟨d,hu,hd⟩:=hd
  obtain⟨r',h1,h2⟩:=nE hd hv hm h
  exact⟨r',by simp[Instr.findKey,run_underlying hu,h1],h2⟩
 |row ks=>
  have hk2:=hk
  simp only[Vy,Bool.and_eq_true,beq_iff_eq] at hk2
  obtain⟨r',h1,h2⟩:=xx (w:=w) hk hv hm h
  have hu:∃ d,P.underlying t=some d∧∀ x y,Instr.sameNow d x y=none:=by
   have ha:=hk2.2
   unfold Tk at ha
   split at ha
   ·rename_i fs hu;exact⟨_,hu,fun x y=>by cases x <;> rfl⟩
   ·rename_i n e hu;exact⟨_,hu,fun x y=>by cases x <;> rfl⟩
   ·cases ha
   ·cases ha
  obtain⟨d,hu,hs⟩:=hu
  cases ents with
  |nil=>
   refine⟨r',?_,h2⟩
   simp only[Instr.findAsking,Sem.run_pure] at h1
   simp only[Instr.findKey,Sem.run_bind,run_underlying hu,Result.andThen_ok,Instr.findNow,Sem.run_pure]
   exact h1
  |cons x xs=>exact⟨r',by simp[Instr.findKey,run_underlying hu,Instr.findNow,hs,h1],h2⟩
theorem K.map_set {id:Nat} {c c':List (PV×PV)} (hc:H[id]? =some (.map c)) (a:AV) (v:Value) (h:K R φ H a v):K R (Ul φ id (φ id)) (H.set id (.map c')) a v:=by
 have hφ:Ul φ id (φ id)=φ:=by
  funext i
  unfold Ul
  split
  ·rename_i e;rw[e]
  ·rfl
 rw[hφ]
 have hid:=getElem?_lt hc
 have Pn:∀ {i:Nat} {x:ba},(H.set id (.map c'))[i]? =some x→(i≠id∧H[i]? =some x)∨(i=id∧x= .map c'):=by
  intro i x hx
  by_cases h:i=id
  ·subst h;rw[List.getElem?_set_self hid] at hx;injection hx with hx;exact .inr ⟨rfl,hx.symm⟩
  ·rw[List.getElem?_set_ne (Ne.symm h)] at hx;exact .inl ⟨h,hx⟩
 cases a with
 |pv p=>exact h
 |ptr i off=>
  refine⟨by simpa using h.1,h.2.1,fun c1 h1=> ?_⟩
  rcases Pn h1 with⟨_,h2⟩ | ⟨rfl,h2⟩
  ·exact h.2.2 _ h2
  ·cases h2
 |Fc i n off=>
  refine⟨by simpa using h.1,h.2.1,fun sz ag c1 fl nl h1=> ?_⟩
  rcases Pn h1 with⟨_,h2⟩ | ⟨rfl,h2⟩
  ·exact h.2.2 _ _ _ _ _ h2
  ·cases h2
 |uq i nl sz es=>
  refine⟨by simpa using h.1,h.2.1,h.2.2.1,fun sz' n nl' h1=> ?_⟩
  rcases Pn h1 with⟨_,h2⟩ | ⟨rfl,h2⟩
  ·exact h.2.2.2 _ _ _ h2
  ·cases h2
 |own i len=>
  refine⟨by simpa using h.1,h.2.1,fun sz ag c1 fl nl h1=> ?_⟩
  rcases Pn h1 with⟨_,h2⟩ | ⟨rfl,h2⟩
  ·exact h.2.2 _ _ _ _ _ h2
  ·cases h2
 |mp i=>
  refine⟨by simpa using h.1,h.2.1,fun es h1=> ?_⟩
  rcases Pn h1 with⟨_,h2⟩ | ⟨rfl,_⟩
  ·exact h.2.2 _ h2
  ·exact h.2.2 _ hc
 |Gk ix cs=>exact h.elim
 |agg cs=>exact h.elim
 |oc cs=>exact h.elim
 |undef=>exact h.elim
theorem lG {t:TypeId} {kd:Kd} (h:ML P t kd=true):∃ k e,P.underlying t=some (.map k e)∧Vy P k kd=true:=by
 unfold ML at h
 split at h
 ·rename_i k e hu;exact⟨k,e,hu,h⟩
 ·cases h
theorem EO {t k e:TypeId} {zero:PV} (hu:P.underlying t=some (.map k e)) (h:zU P t zero=true):∃ z,(∀ w,(zeroValue e).run P w= .ok z w)∧∀ R,Ta R zero z:=by
 unfold zU at h
 simp only[hu] at h
 cases hi:P.info? e with
 |none=>simp[hi] at h
 |some i=>
  simp only[hi] at h
  cases hz:i.zero with
  |none=>simp[hz] at h
  |some z=>
   simp only[hz] at h
   refine⟨z,fun w=>by simp[zeroValue,run_typeInfo w hi,hz],fun R=> ?_⟩
   split at h
   ·rename_i cs ps e1
    injection e1 with e1
    subst e1
    exact .agg _ _ (Mk (R:=R) h).1
   ·rename_i z' p e1 e2
    injection e1 with e1
    subst e1
    exact gw h
   ·cases h
theorem FP (hS:pc fo B0 w R φ H) (t:TypeId):Xk fo B0 w R φ H P (Instr.makeMap t none) (.mp H.length) (H++[.map []]):=by
 have hk:=fun a v=>K.push (R:=R) (φ:=φ) (H:=H) (.map []) (w.heap.size,0) a v
 refine⟨.map (some w.heap.size),{w with heap:=w.heap.push (.map #[] 0)},R,AM.Ul φ H.length (w.heap.size,0),?_,?_,?_,hk,Cx hS.low hS.slt _⟩
 ·simp[Instr.makeMap,run_newObj]
 ·refine hS.push (by simp) (fun b hb=>th hb) (fun _ _ _=>rfl) (fun b o v h=> ?_) hk (fun _=>Nat.le_refl _) ?_
  ·have:=hS.sub b o v h
   rw[UF (Kk this)];exact this
  ·refine⟨by rw[Db];exact hS.low,by rw[Db];exact hS.Oy (Nat.le_refl _),#[],0,?_,trivial⟩
   rw[Db];simp
 ·exact .atom _ _ ⟨by simp,rfl,fun c _=>by rw[Db]⟩
theorem Kc.eT {K:AV→Value→Prop} {id:Nat} {v:Value} (h:Kc fo K (.mp id) v):K (.mp id) v:=by cases h with | atom _ _ h=>exact h
def TV (zero:PV) (ok:Bool):Option (Nat×PV)→AV
 |some (_,x)=>(if ok then .pv (.oc [x,.bool true]) else .pv x)
 |none=>(if ok then .pv (.oc [zero,.bool false]) else .pv zero)
theorem iD (hS:pc fo B0 w R φ H) {t:TypeId} {kd:Kd} {zero:PV} (h1:ML P t kd=true) (h2:zU P t zero=true) {m:AV} {k:PV} {vm vk:Value} (hm:Kc fo (K R φ H) m vm) (hk:Ta R k vk) (ok:Bool) {es:List (PV×PV)}
 (hes:m= .pv .Nv∧es=[]∨∃ id,m= .mp id∧H[id]? =some (.map es)) (hkk:(Fk kd k k).isSome=true) {r:Option (Nat×PV)} (hf:Ml kd k es 0=some r):
 ∃ u,(Instr.lookup t vm vk ok).run P w= .ok u w∧Kc fo (K R φ H) (TV zero ok r) u:=by
 obtain⟨kt,e,hu,hkd⟩:=lG h1
 obtain⟨z,hz,hzr⟩:=EO hu h2
 obtain⟨b,hb⟩:=Option.isSome_iff_exists.1 hkk
 have go:∀ (ents:Array MapEntry),wv R es ents.toList→∃ u,(do
  Instr.checkKey ents.isEmpty 10000 kt vk
  let (v,okk) ←match ←Instr.findKey kt vk ents.toList with
   |some (_,v)=>pure (v,true)
   |none=>pure (← zeroValue e,false)
  pure (if ok then .tuple #[v,.bool okk] else v):Sem Value).run P w= .ok u w∧Kc fo (K R φ H) (TV zero ok r) u:=by
  intro ents hE
  have hc:=Ky (w:=w) hkd hk hb ents.isEmpty
  obtain⟨r',h3,h4⟩:=OC (w:=w) hkd hk hE hf
  cases r with
  |none=>
   cases r' with
   |some=>exact h4.elim
   |none=>
    cases ok with
    |true=>exact⟨.tuple #[z,.bool false],by simp[hc,h3,hz w],.atom _ _ (show Ta R _ _ from .oc _ _ (.cons _ _ _ _ (hzr R) (.cons _ _ _ _ (.bool _) .nil)))⟩
    |false=>exact⟨z,by simp[hc,h3,hz w],.atom _ _ (show Ta R _ _ from hzr R)⟩
  |some r=>
   cases r' with
   |none=>exact h4.elim
   |some r'=>
    obtain⟨a,p⟩:=r;obtain⟨b,u⟩:=r'
    obtain⟨_,j,e',x',_,_,_,_,_,hpu,_⟩:=h4
    cases ok with
    |true=>exact⟨.tuple #[u,.bool true],by simp[hc,h3],.atom _ _ (show Ta R _ _ from .oc _ _ (.cons _ _ _ _ hpu (.cons _ _ _ _ (.bool _) .nil)))⟩
    |false=>exact⟨u,by simp[hc,h3],.atom _ _ (show Ta R _ _ from hpu)⟩
 rcases hes with⟨rfl,rfl⟩ | ⟨id,rfl,hid⟩
 ·have:=hm.Qb
  cases this
  obtain⟨u,h5,h6⟩:=go #[] trivial
  refine⟨u,?_,h6⟩
  rw[← h5]
  simp only[Instr.lookup,Sem.run_bind,run_underlying hu,Result.andThen_ok,Sem.run_pure]
  rfl
 ·have hk2:=hm.eT
  rw[hk2.2.2 _ hid]
  obtain⟨_,_,ents,clk,h7,h8⟩:=hS.obj _ _ hid
  obtain⟨u,h5,h6⟩:=go ents h8
  refine⟨u,?_,h6⟩
  rw[← h5]
  have hg:(getObj (φ id).1).run P w= .ok (.map ents clk) w:=by simp[getObj,Sem.run,h7]
  simp only[Instr.lookup,Sem.run_bind,run_underlying hu,Result.andThen_ok,hg,Sem.run_pure]
  rfl
theorem wv.push {es:List (PV×PV)} {xs:List MapEntry} {e:PV×PV} {x:MapEntry} (h:wv R es xs) (h1:Ta R e.1 x.key) (h2:Ta R e.2 x.val):wv R (es++[e]) (xs++[x]):=by
 induction es generalizing xs with
 |nil=>cases xs with
  |nil=>exact⟨h1,h2,trivial⟩
  |cons=>exact h.elim
 |cons a as ih=>cases xs with
  |nil=>exact h.elim
  |cons y ys=>exact⟨h.1,h.2.1,ih h.2.2⟩
theorem wv.set {es:List (PV×PV)} {xs:List MapEntry} {e:PV×PV} {x:MapEntry} (h:wv R es xs) (h1:Ta R e.1 x.key) (h2:Ta R e.2 x.val):∀ i,wv R (es.set i e) (xs.set i x):=by
 induction es generalizing xs with
 |nil=>intro i;cases xs with
  |nil=>trivial
  |cons=>exact h.elim
 |cons a as ih=>intro i;cases xs with
  |nil=>exact h.elim
  |cons y ys=>cases i with
   |zero=>exact⟨h1,h2,h.2.2⟩
   |succ i=>exact⟨h.1,h.2.1,ih h.2.2 i⟩
def OK (w:World) (b:Nat) (ents:Array MapEntry) (clk:Nat):World:={w with heap:=w.heap.setIfInBounds b (.map ents clk)}
theorem YC (hS:pc fo B0 w R φ H) {t:TypeId} {kd:Kd} (h1:ML P t kd=true) {id:Nat} {k x:PV} {vm vk vx:Value} (hm:Kc fo (K R φ H) (.mp id) vm) (hk:Ta R k vk) (hx:Ta R x vx) {es:List (PV×PV)}
 (hid:H[id]? =some (.map es)) (hkk:(Fk kd k k).isSome=true) {r:Option (Nat×PV)} (hf:Ml kd k es 0=some r):
 ∃ w' φ',(Instr.mapUpdate t vm vk vx).run P w= .ok () w'∧pc fo B0 w' R φ' (H.set id (.map (match r with | some (i,_)=>es.set i (k,x) | none=>es++[(k,x)])))∧
  (∀ a u,K R φ H a u→K R φ' (H.set id (.map (match r with | some (i,_)=>es.set i (k,x) | none=>es++[(k,x)]))) a u)∧Ig B0 w w':=by
 obtain⟨kt,e,hu,hkd⟩:=lG h1
 obtain⟨b,hb⟩:=Option.isSome_iff_exists.1 hkk
 have hk2:=hm.eT
 rw[hk2.2.2 _ hid]
 obtain⟨o1,o2,ents,clk,h7,h8⟩:=hS.obj _ _ hid
 have hc:=Ky (w:=w) hkd hk hb false
 obtain⟨r',h3,h4⟩:=OC (w:=w) hkd hk h8 hf
 have hlt:(φ id).1 < w.heap.size:=by
  rcases Nat.lt_or_ge (φ id).1 w.heap.size with hlt | hge
  ·exact hlt
  ·rw[Array.getElem?_eq_none hge] at h7;cases h7
 have hg:(getObj (φ id).1).run P w= .ok (.map ents clk) w:=by simp[getObj,Sem.run,h7]
 have hset:∀ o,(setObj (φ id).1 o).run P w= .ok () {w with heap:=w.heap.setIfInBounds (φ id).1 o}:=fun o=>by simp[setObj,Sem.run,h7]
 have heap:∀ {ents':Array MapEntry} {clk' j:Nat},j≠(φ id).1→(OK w (φ id).1 ents' clk').heap[j]? =w.heap[j]? :=by
  intro ents' clk' j hj
  simp only[OK]
  rw[Array.getElem?_setIfInBounds_ne (Ne.symm hj)]
 have fin:∀ (ents':Array MapEntry) (clk':Nat) (es':List (PV×PV)),wv R es' ents'.toList→(Instr.mapUpdate t (.map (some (φ id).1)) vk vx).run P w= .ok () (OK w (φ id).1 ents' clk')→
  ∃ w' φ',(Instr.mapUpdate t (.map (some (φ id).1)) vk vx).run P w= .ok () w'∧pc fo B0 w' R φ' (H.set id (.map es'))∧(∀ a u,K R φ H a u→K R φ' (H.set id (.map es')) a u)∧Ig B0 w w':=by
  intro ents' clk' es' hM hrun
  have hkk:=fun a v=>K.map_set (R:=R) (φ:=φ) (c':=es') hid a v
  refine⟨_,Ul φ id (φ id),hrun,?_,hkk,.bH h7 rfl rfl rfl rfl (by simp[OK]) o1 hS.slt (hS.free id ⟨_,hid,trivial⟩) fun k _ hne=>heap hne⟩
  refine hS.Ul (w':=OK w (φ id).1 ents' clk') hid (by simp[OK]) (fun b hb hne=>heap (hne trivial)) (fun _ _ _ _=>rfl) (fun b o v hv=> ?_) hkk (fun _=> .inl ⟨trivial,rfl⟩) ?_
  ·rw[gf (heap (fun e=>by subst e;rw[o2] at hv;cases hv))];exact hS.sub b o v hv
  ·refine⟨by rw[Db];exact o1,by rw[Db];exact o2,ents',clk',?_,hM⟩
   rw[Db]
   simp[OK,hlt]
 cases r with
 |none=>
  cases r' with
  |some=>exact h4.elim
  |none=>
   refine fin (ents.push {key:=vk,val:=vx,born:=clk}) (clk+1) (es++[(k,x)]) ?_ ?_
   ·simpa using h8.push (e:=(k,x)) (x:={key:=vk,val:=vx,born:=clk}) hk hx
   ·simp only[Instr.mapUpdate,Sem.run_bind,run_underlying hu,Result.andThen_ok,hg,hc,h3]
    rw[hset]
    rfl
 |some r=>
  cases r' with
  |none=>exact h4.elim
  |some r'=>
   obtain⟨a,p⟩:=r;obtain⟨i,u⟩:=r'
   obtain⟨rfl,j,e',x',hj,he',hx',_,_,_,hke,heq⟩:=h4
   have hj':a=j:=by omega
   subst hj'
   obtain⟨hveq,hsb⟩:=bO hk hke heq
   have hge:ents[a]? =some x':=by simpa using hx'
   refine fin (ents.modify a fun e=>{e with key:=vk,val:=vx}) clk (es.set a (k,x)) ?_ ?_
   ·have hmod:(ents.modify a fun e=>{e with key:=vk,val:=vx}).toList=ents.toList.set a {x' with key:=vk,val:=vx}:=by
     apply List.ext_getElem?
     intro q
     rw[Array.getElem?_toList,Array.getElem?_modify,List.getElem?_set]
     by_cases hq:a=q
     ·subst hq
      have hlt2:a < ents.size:=by simpa using getElem?_lt hx'
      have hga:ents[a]=x':=by rw[Array.getElem?_eq_getElem hlt2] at hge;injection hge
      simp[hge,hlt2,hga]
     ·simp[hq]
    rw[hmod]
    exact h8.set (e:=(k,x)) (x:={x' with key:=vk,val:=vx}) hk hx a
   ·have hks:(Instr.keyThatStays x'.key vk).run P w= .ok vk w:=by
     have:=hsb 9998
     rw[← hveq] at this ⊢
     simp only[Instr.keyThatStays]
     rw[if_pos this]
     simp
    simp only[Instr.mapUpdate,Sem.run_bind,run_underlying hu,Result.andThen_ok,hg,hc,h3,hge,Option.map_some,Option.getD_some,hks]
    rw[hset]
    rfl
theorem vz {t:TypeId} (hg:P.eqGuardType P.depth t=false) (op:BinOp) (ox oy:Operand) {p q:PV} {v u:Value} {kd:Kd} (hp:Ta R p v) (hq:Ta R q u) {b:Bool} (h:Fk kd p q=some b):(eqGuard op t ox oy v u).run P w= .ok () w:=by
 have pS:∀ xs ys,(eqGuard op t ox oy (.agg xs) (.agg ys)).run P w= .ok () w:=by
  intro xs ys
  cases op <;> simp[eqGuard,hg,Go.program,Sem.run]
 unfold Fk at h
 split at h
 ·rcases sE h with⟨_,c,d,rfl,rfl,_⟩ | ⟨_,i,c,d,rfl,rfl,_⟩ | ⟨_,c,d,rfl,rfl,_⟩ <;> cases hp <;> cases hq <;> cases op <;> rfl
 ·cases hp;cases hq;exact pS _ _
 ·cases h
theorem K.kill {id:Nat} {o:ba} (hid:H[id]? =some o) (a:AV) (v:Value) (hk:K R φ H a v):K R (Ul φ id (φ id)) (H.set id .dead) a v:=by
 have hl:(H.set id .dead).length=H.length:=by simp
 have inv:∀ {i:Nat} {x:ba},(H.set id .dead)[i]? =some x→x≠ .dead→i≠id∧H[i]? =some x:=by
  intro i x hx hd
  by_cases e:i=id
  ·subst e;rw[List.getElem?_set_self (getElem?_lt hid)] at hx;injection hx with hx;exact absurd hx.symm hd
  ·rw[List.getElem?_set_ne (Ne.symm e)] at hx;exact⟨e,hx⟩
 cases a with
 |pv p=>exact hk
 |ptr i off=>exact⟨by rw[hl];exact hk.1,hk.2.1,fun c hc=>by obtain⟨q1,q2⟩:=inv hc (by simp);rw[Ye _ _ q1];exact hk.2.2 c q2⟩
 |Fc i n off=>exact⟨by rw[hl];exact hk.1,hk.2.1,fun sz ag c fl nl hc=>by obtain⟨q1,q2⟩:=inv hc (by simp);rw[Ye _ _ q1];exact hk.2.2 _ _ _ _ _ q2⟩
 |uq i nl sz es=>exact⟨by rw[hl];exact hk.1,hk.2.1,hk.2.2.1,fun sz n nl hc=>by obtain⟨q1,q2⟩:=inv hc (by simp);rw[Ye _ _ q1];exact hk.2.2.2 _ _ _ q2⟩
 |own i n=>exact⟨by rw[hl];exact hk.1,hk.2.1,fun sz ag c fl nl hc=>by obtain⟨q1,q2⟩:=inv hc (by simp);rw[Ye _ _ q1];exact hk.2.2 _ _ _ _ _ q2⟩
 |mp i=>exact⟨by rw[hl];exact hk.1,hk.2.1,fun es hc=>by obtain⟨q1,q2⟩:=inv hc (by simp);rw[Ye _ _ q1];exact hk.2.2 _ q2⟩
 |Gk=>exact hk.elim
 |agg=>exact hk.elim
 |oc=>exact hk.elim
 |undef=>exact hk.elim
theorem mQ {o:Oper} {a:Act} {s:TypeId} {x:Operand} (ho:o.op= .convert s s x) (hS:pc fo B0 w R φ H) {id n:Nat} {es:List PV} (hr:Kc fo (K R φ H) (.uq id false 1 es) (a.eval x)) (hid:H[id]? =some (.tok 1 n false)) (hn:n=es.length)
 (hsl:(match Wu P s with | some el=>xW P el | none=>false)=true):nz P fo B0 o a w R φ H (.pv (.lit 1 es)) (H.set id .dead):=by
 cases hel:Wu P s with
 |none=>simp[hel] at hsl
 |some el=>
  simp only[hel] at hsl
  have hu:=Vm hel
  have he:P.underlying el=some (.int .u8):=by
   unfold xW at hsl
   split at hsl
   ·assumption
   ·cases hsl
  have hk:=hr.xu
  obtain⟨_,hk4⟩:=hk.2.2.2 _ _ _ hid
  obtain⟨_,_,hv⟩:=hk4 hn
  have hv:=hv rfl
  have hp:=hk.2.2.1 rfl
  obtain⟨h0,_,h3⟩:=hS.obj _ _ hid
  obtain⟨o1,o2,arr,⟨ty,fz,hb,hf⟩,o4,o5⟩:=h3 rfl
  have hlt:(φ id).1 < w.heap.size:=Vw.lt ⟨ty,fz,hb,hf⟩
  have hmark:(convert s s (a.eval x)).run P w= .ok (a.eval x) (w.freeze ⟨(φ id).1,arr.size,none⟩ 1):=by
   rw[hv]
   simp[convert,run_underlying hu,run_underlying he,markStringish,World.shape?,hb]
  intro next Q hn'
  unfold Oper.wp
  have:(execOp a.eval o).run P w= .ok (.value (a.eval x)) (w.freeze ⟨(φ id).1,arr.size,none⟩ 1):=by simp[execOp,ho,hmark]
  rw[this]
  have heap:∀ {j:Nat},j≠(φ id).1→(w.freeze ⟨(φ id).1,arr.size,none⟩ 1).heap[j]? =w.heap[j]? :=by
   intro j hj
   simp only[World.freeze]
   rw[if_neg (by omega)]
   simp[Array.getElem?_modify,Ne.symm hj]
  have self:∃ fz',(w.freeze ⟨(φ id).1,arr.size,none⟩ 1).heap[(φ id).1]? =some (.cells arr ty fz'):=by
   simp only[World.freeze]
   rw[if_neg (by omega)]
   rw[Array.getElem?_modify,if_pos rfl,hb]
   exact⟨_,rfl⟩
  obtain⟨fz',self⟩:=self
  have cell:∀ b o,(w.freeze ⟨(φ id).1,arr.size,none⟩ 1).cell? ⟨b,o,none⟩=w.cell? ⟨b,o,none⟩:=by
   intro b o
   by_cases e:b=(φ id).1
   ·subst e;simp[World.cell?,self,hb]
   ·exact gf (heap e)
  have hsz:(w.freeze ⟨(φ id).1,arr.size,none⟩ 1).heap.size=w.heap.size:=by
   simp only[World.freeze];rw[if_neg (by omega)];simp
  have hkk:=fun a v=>K.kill (R:=R) (φ:=φ) hid a v
  refine hn' _ _ R (Ul φ id (φ id)) ?_ (.atom _ _ (show Ta R _ _ from hp)) hkk ?_
  ·exact hS.Ul (w':=w.freeze ⟨(φ id).1,arr.size,none⟩ 1) hid (by rw[hsz];exact Nat.le_refl _) (fun b hb hne=>heap (hne rfl)) (fun _ _ _ _=>rfl) (fun b o v h=>by rw[cell];exact hS.sub b o v h) hkk (fun h=>h.elim) trivial
  ·refine .bH hb rfl ?_ ?_ ?_ (by rw[hsz];exact Nat.le_refl _) o1 hS.slt (hS.free id ⟨_,hid,rfl⟩) (fun k _ hne=>heap hne) <;> (simp only[World.freeze];rw[if_neg (by omega)])
end
end Go.AM
namespace Go.AM
open Go.RowKit
section ops
variable {P:Program} {fo:Nat→FuncId} {B0:Qf} {w:World} {R:Rd} {φ:Pl} {H H':List ba} {e:Tr} {a:Act} {call:Xa}
theorem DJ {v:AV} {u:Value} (h:Kc fo (K R φ H) v u):Kc fo (K R φ H) v.Fo u:=by
 cases v with
 |uq id nl sz es=>
  have hk:=h.xu
  cases nl with
  |true=>rw[(hk.2.1 rfl).1];exact .atom _ _ (show Ta R _ _ from .fa)
  |false=>exact .atom _ _ (show Ta R _ _ from hk.2.2.1 rfl)
 |_=>exact h
theorem vJ:∀ {cs:List AV} {vs:List Value},eb fo (K R φ H) cs vs→eb fo (K R φ H) (cs.map AV.Fo) vs
 | [],_,.nil=> .nil
 |_::_,_,.cons _ _ _ _ h1 h2=> .cons _ _ _ _ (DJ h1) (vJ h2)
theorem MT {v:AV} {u:Value} (h:Kc fo (K R φ H) v u):Kc fo (K R φ H) v.aC u:=by
 cases v with
 |agg cs=>
  cases h with
  |atom _ _ h=>exact h.elim
  |agg _ vs h=>exact Bt (vJ h)
 |uq id nl sz es=>exact DJ h
 |_=>exact h
theorem yy (hE:Ei fo (K R φ H) e a) {sz:Nat}:∀ {parts:List (Nat×Operand)} {aparts:List (Nat×AO)},Mw fo parts aparts=true→
 (parts.map fun p=>(p.1,a.eval p.2)).length=(aparts.map fun p=>(p.1 * sz,sz,Qh e p.2)).length∧
 ∀ (j:Nat) (i:Nat) (v:Value) (off s:Nat) (x:AV),(parts.map fun p=>(p.1,a.eval p.2))[j]? =some (i,v)→(aparts.map fun p=>(p.1 * sz,sz,Qh e p.2))[j]? =some (off,s,x)→off=i * sz∧s=sz∧Kc fo (K R φ H) x v
 | [],[],_=>⟨rfl,fun j i v off s x h=>by simp at h⟩
 | (i,x)::xs,(j,y)::ys,h=>by
   simp only[Mw,Bool.and_eq_true,beq_iff_eq] at h
   obtain⟨⟨rfl,h1⟩,h2⟩:=h
   obtain⟨q1,q2⟩:=yy hE (sz:=sz) h2
   refine⟨by simpa using q1,fun k i' v off s z e1 e2=> ?_⟩
   cases k with
   |zero=>
    simp at e1 e2
    obtain⟨rfl,rfl⟩:=e1
    obtain⟨rfl,rfl,rfl⟩:=e2
    exact⟨rfl,rfl,MT (Rb hE h1)⟩
   |succ k=>exact q2 k i' v off s z (by simpa using e1) (by simpa using e2)
 | [],_::_,h=>by simp[Mw] at h
 |_::_,[],h=>by simp[Mw] at h
theorem EN (hE:Ei fo (K R φ H) e a) {x:Option Operand} {y:Option AO} (h:KM fo x y=true):(x=none∧y=none)∨∃ x' y',x=some x'∧y=some y'∧Bl fo x' y'=true:=by
 cases x <;> cases y <;> simp[KM] at h
 ·exact .inl ⟨rfl,rfl⟩
 ·exact .inr ⟨_,_,rfl,rfl,h⟩
theorem oX {ag:Bool} {x:Bool} (h:(!ag||x)=true):ag=true→x=true:=by
 intro e;subst e;simpa using h
theorem VI (hS:pc fo B0 w R φ H) {x:AV} {vx:Value} (hx:Kc fo (K R φ H) x vx) {s:ByteArray} (h:Rx H x=some s):(∃ sa sl sc,vx= .slice sa sl sc)∧(Conv.bytesToString vx).run P w= .ok (.string s) w:=by
 have lits:∀ {es:List PV} {l:List UInt8},Ta R (.lit 1 es) vx→bytesOf es=some l→s=⟨l.toArray⟩→(∃ sa sl sc,vx= .slice sa sl sc)∧(Conv.bytesToString vx).run P w= .ok (.string s) w:=by
  intro es l hp hb hs
  subst hs
  refine⟨?_,UG hS hp hb⟩
  cases hp <;> exact⟨_,_,_,rfl⟩
 have fa:vx= .slice none 0 0→s=ByteArray.empty→(∃ sa sl sc,vx= .slice sa sl sc)∧(Conv.bytesToString vx).run P w= .ok (.string s) w:=by
  rintro rfl rfl
  exact⟨⟨_,_,_,rfl⟩,by simp[Conv.bytesToString]⟩
 unfold Rx at h
 split at h
 ·injection h with h
  have:=hx.Qb
  cases this
  exact fa rfl h.symm
 ·simp only[Option.map_eq_some_iff] at h
  obtain⟨l,h1,h2⟩:=h
  exact lits hx.Qb h1 h2.symm
 ·rename_i id nl es
  simp only[Option.map_eq_some_iff] at h
  obtain⟨l,h1,h2⟩:=h
  have hk:=hx.xu
  cases nl with
  |true=>
   obtain⟨rfl,rfl⟩:=hk.2.1 rfl
   simp[bytesOf] at h1
   subst h1
   exact fa rfl h2.symm
  |false=>exact lits (hk.2.2.1 rfl) h1 h2.symm
 ·rename_i id len
  have hk:=hx.yz
  split at h
  ·rename_i sz ag c fl nl hc
   split at h
   ·rename_i hcond
    obtain⟨rfl,hcur⟩:=hcond
    obtain⟨k0,k⟩:=hk.2.2 _ _ _ _ _ hc
    obtain⟨o0,o1,o2,o3,o4⟩:=hS.obj _ _ hc
    obtain⟨k1,k2⟩:=k (by omega)
    cases nl with
    |true=>
     simp only[if_true,Option.some.injEq] at h
     exact fa (k1 rfl) h.symm
    |false=>
     simp only[Bool.false_eq_true,if_false,Option.map_eq_some_iff,Option.bind_eq_some_iff] at h
     obtain⟨l,⟨ps,hps,hl⟩,rfl⟩:=h
     rcases k2 rfl with⟨q1,q2,_⟩ | ⟨b,o,cap,q1,q2,_⟩
     ·subst q1;exact absurd (List.eq_nil_of_length_eq_zero (by omega)) q2
     ·obtain⟨rfl,rfl,rfl⟩:=q2 hcur
      subst q1
      obtain⟨_,_,arr,p3,p4,p5,p6⟩:=o4 rfl
      have h7:=Nk hps p6
      obtain⟨ns,e1,rfl⟩:=bG hl h7
      refine⟨⟨_,_,_,rfl⟩,?_⟩
      have hlen:(ns.map (Value.int .u8)).length=len:=by rw[← e1,List.length_take];simp;omega
      have:=run_bytesToString (P:=P) w ⟨(φ id).1,0,none⟩ len (φ id).2 ns (by
       have:=gk (P:=P) (w:=w) (b:=(φ id).1) (o:=0) (vs:=ns.map (Value.int .u8)) (fun j v hj=>by
        rw[Nat.zero_add,p3.cell]
        rw[← e1,List.getElem?_take] at hj
        split at hj
        ·simpa using hj
        ·cases hj) hlen
       simpa using this)
      rw[this]
      congr 2
      have h4:=foldl_push ns ByteArray.empty
      generalize ns.foldl (fun r n=>r.push (UInt8.ofNat n.toNat)) ByteArray.empty=z at h4
      obtain⟨⟨z⟩⟩:=z
      simp at h4
      subst h4
      rfl
   ·cases h
  ·cases h
 ·cases h
theorem bP (hS:pc fo B0 w R φ H) {x:AV} {vx:Value} (hx:Kc fo (K R φ H) x vx) {s:ByteArray} (h:Rx H x=some s):∃ sa sl sc,vx= .slice sa sl sc:=(VI (P:=default) hS hx h).1
theorem YT (hS:pc fo B0 w R φ H) {x:AV} {vx:Value} (hx:Kc fo (K R φ H) x vx) {s:ByteArray} (h:Rx H x=some s):(Conv.bytesToString vx).run P w= .ok (.string s) w:=(VI hS hx h).2
theorem YP (hS:pc fo B0 w R φ H) (hE:Ei fo (K R φ H) e a) {t:TypeId} {fs:Array Field} {parts:Array (Nat×Operand)} {aparts:List (Nat×Nat×AO)} {zero:List PV} (hu:P.underlying t=some (.struct fs))
 (hb:Ip P fo fs parts.toList aparts=true) (hall:(fs.all fun f=>(Md P f.type).isSome)=true) (hz:iq P t zero=true) {cs:List AV} (hf:Am (zero.map .pv) (aparts.map fun p=>(p.1,p.2.1,p.2.2.ev e))=some cs):
 Xk fo B0 w R φ H P (Instr.build t (parts.map fun (i,x)=>(i,a.eval x))) (Hq cs) H:=by
 unfold iq at hz
 cases hi:P.info? t with
 |none=>simp[hi] at hz
 |some i=>
  simp only[hi] at hz
  cases hzz:i.zero with
  |none=>simp[hzz] at hz
  |some z=>
   simp only[hzz] at hz
   obtain⟨h1,h2⟩:=Mk (R:=R) hz
   have hpl:∀ (l:List Field),(∀ f∈l,(Md P f.type).isSome=true)→(l.mapM fun f=>(do pure (f.offset,←sizeOf f.type):Sem (Nat×Nat))).run P w= .ok (l.map fun f=>(f.offset,(Md P f.type).getD 0)) w:=by
    intro l
    induction l with
    |nil=>intro _;simp
    |cons f l ih=>
     intro hl
     obtain⟨n,hn⟩:=Option.isSome_iff_exists.1 (hl f (by simp))
     rw[List.mapM_cons]
     simp only[Sem.run_bind,uc hn,Result.andThen_ok,Sem.run_pure,ih (fun g hg=>hl g (by simp[hg]))]
     simp[hn]
   have hplaces:(fs.mapM fun f=>(do pure (f.offset,←sizeOf f.type):Sem (Nat×Nat))).run P w= .ok (fs.map fun f=>(f.offset,(Md P f.type).getD 0)) w:=by
    have:=hpl fs.toList (fun f hf=>by
     rw[Array.all_eq_true] at hall
     obtain⟨i,hi,rfl⟩:=List.mem_iff_getElem.1 hf
     simpa using hall i (by simpa using hi))
    rw[Array.mapM_eq_mapM_toList]
    simp only[Sem.run_map,this,Result.andThen_ok]
    exact congrArg (fun x=>Result.ok x w) (by apply Array.ext';simp)
   have spec:∀ {xs:List (Nat×Operand)} {ys:List (Nat×Nat×AO)},Ip P fo fs xs ys=true→(xs.map fun p=>(p.1,a.eval p.2)).length=(ys.map fun p=>(p.1,p.2.1,p.2.2.ev e)).length∧
    ∀ (j:Nat) (i:Nat) (v:Value) (off s:Nat) (x:AV),(xs.map fun p=>(p.1,a.eval p.2))[j]? =some (i,v)→(ys.map fun p=>(p.1,p.2.1,p.2.2.ev e))[j]? =some (off,s,x)→
     (fs.map fun f=>(f.offset,(Md P f.type).getD 0))[i]? =some (off,s)∧Kc fo (K R φ H) x v:=by
    intro xs
    induction xs with
    |nil=>
     intro ys h
     cases ys with
     |nil=>exact⟨rfl,fun j i v off s x h=>by simp at h⟩
     |cons y ys=>simp[Ip] at h
    |cons x xs ih=>
     intro ys h
     cases ys with
     |nil=>simp[Ip] at h
     |cons y ys=>
      obtain⟨i,x⟩:=x
      obtain⟨off,sz,y⟩:=y
      simp only[Ip,Bool.and_eq_true] at h
      obtain⟨⟨g1,g2⟩,g3⟩:=h
      obtain⟨q1,q2⟩:=ih g3
      refine⟨by simpa using q1,fun k i' v off' s z e1 e2=> ?_⟩
      cases k with
      |zero=>
       simp at e1 e2
       obtain⟨rfl,rfl⟩:=e1
       obtain⟨rfl,rfl,rfl⟩:=e2
       refine⟨?_,Rb hE g2⟩
       cases hfi:fs[i]? with
       |none=>simp[hfi] at g1
       |some f=>
        simp only[hfi,Bool.and_eq_true,beq_iff_eq] at g1
        simp[hfi,g1.1,g1.2]
      |succ k=>exact q2 k i' v off' s z (by simpa using e1) (by simpa using e2)
   obtain⟨s1,s2⟩:=spec hb
   obtain⟨cs',r1,r2⟩:=KC (fo:=fo) (R:=R) (φ:=φ) (H:=H) (fun i=>(fs.map fun f=>(f.offset,(Md P f.type).getD 0))[i]?) (cs:=z.cells) s1 s2 (eb.RA h1) hf
   have hparts:(parts.map fun (i,x)=>(i,a.eval x)).toList=parts.toList.map fun p=>(p.1,a.eval p.2):=by simp
   refine zq.same (.agg cs') hS ?_ ?_
   ·simp only[Instr.build,Sem.run_bind,zeroValue,run_typeInfo w hi,Result.andThen_ok,hzz,Sem.run_pure,run_underlying hu,hplaces,hparts,r1]
   ·have:=Bt r2
    simpa using this
theorem OP (hS:pc fo B0 w R φ H) {t el:TypeId} {n:Nat} {parts:Array (Nat×Operand)} {zero:List PV} (hu:P.underlying t=some (.array n el)) (hp:parts.toList=[]) (hs:(Md P el).isSome=true) (hz:iq P t zero=true):
 Xk fo B0 w R φ H P (Instr.build t (parts.map fun (i,x)=>(i,a.eval x))) (Hq (zero.map .pv)) H:=by
 obtain⟨k,hk⟩:=Option.isSome_iff_exists.1 hs
 obtain rfl:parts= #[]:=by apply Array.ext';simpa using hp
 unfold iq at hz
 cases hi:P.info? t with
 |none=>simp[hi] at hz
 |some i=>
  simp only[hi] at hz
  cases hzz:i.zero with
  |none=>simp[hzz] at hz
  |some z=>
   simp only[hzz] at hz
   obtain⟨h1,h2⟩:=Mk (R:=R) hz
   refine zq.same (.agg z.cells) hS ?_ ?_
   ·simp only[Instr.build,Sem.run_bind,zeroValue,run_typeInfo w hi,Result.andThen_ok,hzz,Sem.run_pure,run_underlying hu,uc hk]
    simp[Instr.fill]
   ·have:=Bt (eb.RA (fo:=fo) (φ:=φ) (H:=H) h1)
    simpa using this
theorem ZS {t:TypeId} {f off:Nat} (h:(match eW P t f with | some fd=>fd.offset==off&&(match Md P fd.type with | some n=>n != 0 | none=>false) | none=>false)=true):
 ∃ fs fd n,P.underlying t=some (.struct fs)∧fs[f]? =some fd∧fd.offset=off∧Md P fd.type=some n∧n≠0:=by
 cases hs:eW P t f with
 |none=>simp[hs] at h
 |some fd=>
  simp only[hs,Bool.and_eq_true,beq_iff_eq] at h
  obtain⟨h1,h2⟩:=h
  unfold eW at hs
  split at hs
  ·rename_i fs hu
   cases hn:Md P fd.type with
   |none=>simp[hn] at h2
   |some n=>simp[hn] at h2;exact⟨fs,fd,n,hu,hs,h1,hn,h2⟩
  ·cases hs
theorem QR {t:TypeId} {f off n:Nat} {ag:Bool} (h:(match eW P t f with | some fd=>fd.offset==off&&Tk P fd.type==some ag&&(!ag||Md P fd.type==some n) | none=>false)=true):
 ∃ fs fd,P.underlying t=some (.struct fs)∧fs[f]? =some fd∧fd.offset=off∧Tk P fd.type=some ag∧(ag=true→Md P fd.type=some n):=by
 cases hs:eW P t f with
 |none=>simp[hs] at h
 |some fd=>
  simp only[hs,Bool.and_eq_true,beq_iff_eq] at h
  obtain⟨⟨h1,h2⟩,h3⟩:=h
  unfold eW at hs
  split at hs
  ·rename_i fs hu
   exact⟨fs,fd,hu,hs,h1,h2,fun e=>by simpa using oX h3 e⟩
  ·cases hs
theorem OR {t:TypeId} {n sz:Nat} (h:(match P.underlying t with | some (.array n' el)=>n'==n&&Md P el==some sz | _=>false)=true):∃ el,P.underlying t=some (.array n el)∧Md P el=some sz:=by
 split at h
 ·rename_i n' el hu
  simp at h
  obtain⟨rfl,h⟩:=h
  exact⟨el,hu,h⟩
 ·cases h
theorem mO {t:TypeId} {n sz:Nat} {ag:Bool} (h:(match P.underlying t with | some (.array n' el)=>n'==n&&Md P el==some sz&&Tk P el==some ag | _=>false)=true):∃ el,P.underlying t=some (.array n el)∧Md P el=some sz∧Tk P el=some ag:=by
 split at h
 ·rename_i n' el hu
  simp at h
  obtain⟨⟨rfl,h⟩,h2⟩:=h
  exact⟨el,hu,h,h2⟩
 ·cases h
theorem NF (mx:Bool) {xs:List AV} {vs:List Value} {p:PV} (hl:eb fo (K R φ H) xs vs) (hb:No mx xs=some p):
 ∃ v0 rest v,vs=v0::rest∧(rest.foldlM (if mx then Builtin.max2 else Builtin.min2) v0).run P w= .ok v w∧Ta R p v:=by
 unfold No at hb
 split at hb
 ·rename_i k x r
  cases hl with
  |cons _ _ v vs h1 h2=>
   rw[de h1 rfl]
   obtain⟨u,q1,q2⟩:=HJ (P:=P) (w:=w) mx h2 hb
   exact⟨_,_,u,rfl,q1,q2⟩
 ·cases hb
theorem AQ (s:ByteArray) (i:Nat):s[i]? =s.data.toList[i]? :=by
 by_cases h:i < s.size
 ·rw[getElem?_pos s i h]
  have h2:i < s.data.toList.length:=by rw[Array.length_toList];exact h
  rw[List.getElem?_eq_getElem h2]
  rfl
 ·rw[getElem?_neg s i h]
  have h2:¬i < s.data.toList.length:=by rw[Array.length_toList];exact h
  rw[List.getElem?_eq_none (by omega)]
set_option maxHeartbeats 1000000 in
theorem cL {o:Oper} {op:Op} {aop:sd} {v:AV} (ho:o.op=op) (Aa:BS P fo op aop=true) (hS:pc fo B0 w R φ H) (hE:Ei fo (K R φ H) e a) (hev:ua call e H aop=some (v,H')):
 nz P fo B0 o a w R φ H v H':=by
 unfold BS at Aa
 split at Aa
 case h_1 x y=>
  simp[ua] at hev
  obtain⟨rfl,rfl⟩:=hev
  exact .gr hS (by simp[execOp,ho]) (Rb hE Aa)
 case h_2 x y=>
  simp[ua] at hev
  obtain⟨rfl,rfl⟩:=hev
  exact .gr hS (by simp[execOp,ho]) (Rb hE Aa)
 case h_3 c x y c' x' y'=>
  simp only[Bool.and_eq_true] at Aa
  simp only[ua,Option.bind_eq_some_iff] at hev
  obtain⟨t,h1,h2⟩:=hev
  simp at h2
  obtain⟨rfl,rfl⟩:=h2
  have hc:=gy (Rb hE Aa.1.1) h1
  refine .gr (v':=if t then a.eval x else a.eval y) hS (by simp[execOp,ho,hc,Go.asBool]) ?_
  cases t
  ·exact Rb hE Aa.2
  ·exact Rb hE Aa.1.2
 case h_4 t zero=>
  simp[ua] at hev
  obtain⟨rfl,rfl⟩:=hev
  exact .Wc (by simp[execOp,ho]) (pP hS Aa)
 case h_5 t x n y=>
  simp only[ua] at hev
  split at hev
  ·rename_i hc
   simp at hev
   obtain⟨rfl,rfl⟩:=hev
   exact .Wc (by simp[execOp,ho]) (qU (t:=t) hS (Rb hE Aa) hc.2)
  ·cases hev
 case h_6 t parts zero aparts=>
  simp only[Bool.and_eq_true] at Aa
  obtain⟨h1,h2⟩:=Aa
  simp only[ua,Option.map_eq_some_iff,Prod.mk.injEq] at hev
  obtain⟨cs,hf,rfl,rfl⟩:=hev
  cases hu:P.underlying t with
  |none=>simp[hu] at h1
  |some d=>
   cases d with
   |struct fs=>
    simp only[hu,Bool.and_eq_true] at h1
    exact .Wc (s:=Instr.build t (parts.map fun (i,x)=>(i,a.eval x))) (by simp[execOp,ho]) (YP hS hE hu h1.1 h1.2 h2 hf)
   |array n el=>
    simp only[hu,Bool.and_eq_true,List.isEmpty_iff] at h1
    rw[h1.1.2] at hf
    simp only[List.map_nil,Am,Option.some.injEq] at hf
    subst hf
    exact .Wc (s:=Instr.build t (parts.map fun (i,x)=>(i,a.eval x))) (by simp[execOp,ho]) (OP hS hu h1.1.1 h1.2 h2)
   |_=>simp[hu] at h1
 case h_7 t len parts hh sz ag len' zero aparts=>
  simp only[Bool.and_eq_true,beq_iff_eq,decide_eq_true_eq] at Aa
  obtain⟨⟨⟨h1,rfl⟩,h2⟩,h3⟩:=Aa
  cases hel:Wu P t with
  |none=>simp[hel] at h1
  |some el=>
   simp only[hel] at h1
   simp only[ua,Option.bind_eq_some_iff] at hev
   obtain⟨cs,hf,hfr⟩:=hev
   split at hfr
   ·rename_i hone
    obtain⟨q1,q2⟩:=yy hE (sz:=sz) h3
    have:=LK (fo:=fo) (B0:=B0) hS (Vm hel) (TF h1) h2 q1 q2 hf hone hfr
    refine .Wc (s:=Instr.buildSlice t len (parts.map fun (i,x)=>(i,a.eval x))) (by simp[execOp,ho]) ?_
    have hp:(parts.map fun (i,x)=>(i,a.eval x))=(parts.toList.map fun p=>(p.1,a.eval p.2)).toArray:=by
     apply Array.ext';simp
    rw[hp]
    exact this
   ·cases hfr
 case h_8 t x ag n y=>
  simp only[Bool.and_eq_true,beq_iff_eq] at Aa
  simp only[ua,Option.map_eq_some_iff,Prod.mk.injEq] at hev
  obtain⟨u,hl,rfl,rfl⟩:=hev
  obtain⟨vv,h1,h2⟩:=UJ (P:=P) hS (Rb hE Aa.2) Aa.1.1 (fun e=>by simpa using oX Aa.1.2 e) hl
  exact .Wc (s:=Instr.loadAt t (a.eval x)) (by simp[execOp,ho]) (zq.same vv hS h1 h2)
 case h_9 t p x n q y=>
  simp only[Bool.and_eq_true,beq_iff_eq] at Aa
  simp only[ua,Option.map_eq_some_iff,Prod.mk.injEq] at hev
  obtain⟨H1,hl,rfl,rfl⟩:=hev
  obtain⟨w',φ',h1,h2,h3,h4⟩:=CP (P:=P) hS (Rb hE Aa.1.2) (Rb hE Aa.2) Aa.1.1 hl
  intro next Q hn
  unfold Oper.wp
  have:(execOp a.eval o).run P w= .ok .skip w':=by simp[execOp,ho,h1]
  rw[this]
  exact hn undef w' R φ' h2 (.atom _ _ (show Ta R _ _ from .oc [] [] .nil)) h3 h4
 case h_10 x y=>
  simp only[ua] at hev
  have hx:=Rb (R:=R) (φ:=φ) (H:=H) hE Aa
  generalize AO.ev e y=z at hev hx
  obtain⟨vx,hvx⟩:∃ vx,a.eval x=vx:=⟨_,rfl⟩
  rw[hvx] at hx
  split at hev
  ·rename_i ix caps
   simp at hev
   obtain⟨rfl,rfl⟩:=hev
   have hx2:=hx
   cases hx2 with
   |atom _ _ h=>exact h.elim
   |Gk _ _ vs h=>
    refine .gr hS ?_ hx
    simp[execOp,ho,hvx]
  ·simp only[Option.map_eq_some_iff,Prod.mk.injEq] at hev
   obtain⟨u,hp,rfl,rfl⟩:=hev
   obtain⟨b,o',h1,h2⟩:=yA hS hx hp
   have:=vL hp
   subst this
   refine .gr hS ?_ hx
   simp[execOp,ho,hvx,h1]
 case h_11 op' t x y t' op x' y'=>
  simp only[Bool.and_eq_true,decide_eq_true_eq] at Aa
  obtain⟨⟨rfl,h1⟩,h2⟩:=Aa
  simp only[ua,Option.map_eq_some_iff,Prod.mk.injEq] at hev
  obtain⟨p,hp,rfl,rfl⟩:=hev
  obtain⟨u,q1,q2⟩:=IU (P:=P) (w:=w) (Rb hE h1) (Rb hE h2) hp t x y
  exact .Wc (s:=do eqGuard op' t x y (a.eval x) (a.eval y);binOp op' t (a.eval x) (a.eval y)) (by simp[execOp,ho]) (zq.same u hS q1 (.atom _ _ q2))
 case h_12 t x y t' k x' y'=>
  simp only[Bool.and_eq_true,beq_iff_eq] at Aa
  simp only[ua,Option.map_eq_some_iff,Prod.mk.injEq] at hev
  obtain⟨b,hb,rfl,rfl⟩:=hev
  have:=rS Aa.1.1 hS (Rb hE Aa.1.2) (Rb hE Aa.2) hb .eql (.inl rfl) x y
  exact .Wc (s:=do eqGuard .eql t x y (a.eval x) (a.eval y);binOp .eql t (a.eval x) (a.eval y)) (by simp[execOp,ho]) (zq.same _ hS this (.atom _ _ (by simpa[K] using Ta.bool (R:=R) b)))
 case h_13 t x y t' k x' y'=>
  simp only[Bool.and_eq_true,beq_iff_eq] at Aa
  simp only[ua,Option.map_eq_some_iff,Prod.mk.injEq] at hev
  obtain⟨b,hb,rfl,rfl⟩:=hev
  have:=rS Aa.1.1 hS (Rb hE Aa.1.2) (Rb hE Aa.2) hb .neq (.inr rfl) x y
  exact .Wc (s:=do eqGuard .neq t x y (a.eval x) (a.eval y);binOp .neq t (a.eval x) (a.eval y)) (by simp[execOp,ho]) (zq.same _ hS this (.atom _ _ (by simpa[K] using Ta.bool (R:=R) (!b))))
 case h_14 op' t x op y=>
  simp only[Bool.and_eq_true,decide_eq_true_eq] at Aa
  obtain⟨rfl,h1⟩:=Aa
  simp only[ua,Option.map_eq_some_iff,Prod.mk.injEq] at hev
  obtain⟨p,hp,rfl,rfl⟩:=hev
  obtain⟨u,q1,q2⟩:=HW (P:=P) (w:=w) (Rb hE h1) hp
  exact .Wc (s:=Op.unary op' (a.eval x)) (by simp[execOp,ho]) (zq.same u hS q1 (.atom _ _ q2))
 case h_15 s d x k y=>
  simp only[Bool.and_eq_true] at Aa
  simp only[ua,Option.map_eq_some_iff,Prod.mk.injEq] at hev
  obtain⟨⟨k',n⟩,hp,rfl,rfl⟩:=hev
  have hx:=de (Rb hE Aa.2) hp
  obtain⟨ds,hds⟩:=Option.isSome_iff_exists.1 Aa.1.1
  have hd:P.underlying d=some (.int k):=by
   have:=Aa.1.2
   unfold aY at this
   split at this
   ·rename_i k2 h;simp at this;subst this;exact h
   ·cases this
  refine .Wc (s:=convert s d (a.eval x)) (by simp[execOp,ho]) (zq.same _ hS ?_ (.atom _ _ (show Ta R _ _ from .int _ _)))
  rw[hx];exact QS hds hd
 case h_16 s d x y=>
  simp only[Bool.and_eq_true] at Aa
  obtain⟨⟨h1,h2⟩,h3⟩:=Aa
  simp only[ua,Option.map_eq_some_iff,Prod.mk.injEq] at hev
  obtain⟨str,hp,rfl,rfl⟩:=hev
  have hx:=Rb (R:=R) (φ:=φ) (H:=H) hE h3
  cases hel:Wu P s with
  |none=>simp[hel] at h1
  |some el=>
   simp only[hel] at h1
   have hs:=Vm hel
   have hb:P.underlying el=some (.int .u8):=by
    unfold xW at h1
    split at h1
    ·rename_i h;exact h
    ·cases h1
   have hd:P.underlying d=some .string:=by
    unfold YW at h2
    split at h2
    ·rename_i h;exact h
    ·cases h2
   have hr:=YT (P:=P) hS hx hp
   refine .Wc (s:=convert s d (a.eval x)) (by simp[execOp,ho]) (zq.same (.string str) hS ?_ (.atom _ _ (show Ta R _ _ from .str _)))
   obtain⟨sa,sl,sc,hv⟩:=bP hS hx hp
   rw[hv] at hr ⊢
   rw[run_convert_bytes_string w s d el sa sl sc hs hb hd]
   exact hr
 case h_17 s d x hh y=>
  simp only[Bool.and_eq_true] at Aa
  obtain⟨⟨h1,h2⟩,h3⟩:=Aa
  obtain⟨ds,hds⟩:=Option.isSome_iff_exists.1 h1
  simp only[ua] at hev
  have hx:=Rb (R:=R) (φ:=φ) (H:=H) hE h3
  split at hev
  ·rename_i b hy
   rw[hy] at hx
   obtain⟨vx,hvx⟩:∃ vx,a.eval x=vx:=⟨_,rfl⟩
   rw[hvx] at hx
   have hp:=hx.Qb
   cases hp
   cases hel:Wu P d with
   |none=>simp[hel] at h2
   |some el=>
    simp only[hel] at h2
    have hb:P.underlying el=some (.int .u8):=by
     unfold xW at h2
     split at h2
     ·rename_i h;exact h
     ·cases h2
    exact .Wc (s:=convert s d (.string b)) (by simp[execOp,ho,hvx]) (vU hS hds (Vm hel) hb hev)
  ·cases hev
 case h_18 f first caps ix ys=>
  simp only[Bool.and_eq_true,beq_iff_eq] at Aa
  obtain⟨⟨h1,rfl⟩,h2⟩:=Aa
  simp[ua] at hev
  obtain⟨rfl,rfl⟩:=hev
  have hf:first= #[]:=by simpa using h1
  have:=Mt (R:=R) (φ:=φ) (H:=H) hE h2
  refine .Wc (s:=Instr.makeFunc (.func (fo ix)) (first.map a.eval) (caps.map a.eval)) (by simp[execOp,ho]) (zq.same (.func (.func (fo ix)) #[] (caps.map a.eval)) hS (by simp[Instr.makeFunc,hf]) ?_)
  have hcaps:caps.map a.eval=⟨caps.toList.map a.eval⟩:=by apply Array.ext';simp
  rw[hcaps]
  exact .Gk _ _ _ this
 case h_19 t l c hh sz ag zero bytes l' c'=>
  simp only[Bool.and_eq_true,decide_eq_true_eq] at Aa
  obtain⟨⟨⟨h1,h2⟩,h3⟩,h4⟩:=Aa
  cases hel:Wu P t with
  |none=>simp[hel] at h1
  |some el=>
   simp only[hel,Bool.and_eq_true,beq_iff_eq] at h1
   simp only[ua,Option.bind_eq_some_iff] at hev
   obtain⟨⟨kl,nl⟩,hl,⟨kc,nc⟩,hc,hif⟩:=hev
   split at hif
   ·rename_i hcond
    have e1:=de (Rb hE h3) hl
    have e2:=de (Rb hE h4) hc
    refine .Wc (s:=Instr.makeSlice t (a.eval l) (a.eval c)) (by simp[execOp,ho]) ?_
    rw[e1,e2]
    exact tK hS (Vm hel) (TF h1.1) h1.2 h2 hcond.1 hcond.2.1 hcond.2.2 hif
   ·cases hif
 case h_20 t x lo hi sz y lo' hi'=>
  simp only[Bool.and_eq_true] at Aa
  obtain⟨⟨⟨h1,h2⟩,h3⟩,h4⟩:=Aa
  have hx:=Rb (R:=R) (φ:=φ) (H:=H) hE h2
  have hu:(sz≠0∧∃ el,P.underlying t=some (.slice el)∧Md P el=some sz)∨(sz=0∧P.underlying t=some .string):=by
   cases hu:P.underlying t with
   |none=>simp[hu] at h1
   |some d=>
    cases d <;> simp[hu] at h1
    ·exact .inr ⟨h1,rfl⟩
    ·exact .inl ⟨h1.1,_,rfl,h1.2⟩
  have fin:∀ {l h:Option Int},((lo.map a.eval=none∧l=none)∨∃ k n,lo.map a.eval=some (.int k n)∧l=some n)→((hi.map a.eval=none∧h=none)∨∃ k n,hi.map a.eval=some (.int k n)∧h=some n)→
   (Ze H sz (AO.ev e y) l h).map (fun v=>(v,H))=some (v,H')→nz P fo B0 o a w R φ H v H':=by
   intro l h hl hh hsl
   simp only[Option.map_eq_some_iff,Prod.mk.injEq] at hsl
   obtain⟨u,hu2,rfl,rfl⟩:=hsl
   exact .Wc (s:=Instr.sliceAt t (a.eval x) (lo.map a.eval) (hi.map a.eval) none) (by simp[execOp,ho]) (WO hS hx hu hl hh hu2)
  rcases EN hE h3 with⟨rfl,rfl⟩ | ⟨x1,y1,rfl,rfl,g1⟩ <;> rcases EN hE h4 with⟨rfl,rfl⟩ | ⟨x2,y2,rfl,rfl,g2⟩
  ·simp only[ua] at hev
   exact fin (.inl ⟨rfl,rfl⟩) (.inl ⟨rfl,rfl⟩) hev
  ·simp only[ua,Option.bind_eq_some_iff] at hev
   obtain⟨⟨k,n⟩,h5,h6⟩:=hev
   exact fin (.inl ⟨rfl,rfl⟩) (.inr ⟨k,n,by simp[de (Rb hE g2) h5],rfl⟩) h6
  ·simp only[ua,Option.bind_eq_some_iff] at hev
   obtain⟨⟨k,n⟩,h5,h6⟩:=hev
   exact fin (.inr ⟨k,n,by simp[de (Rb hE g1) h5],rfl⟩) (.inl ⟨rfl,rfl⟩) h6
  ·simp only[ua,Option.bind_eq_some_iff] at hev
   obtain⟨⟨k,n⟩,h5,⟨k2,n2⟩,h7,h6⟩:=hev
   exact fin (.inr ⟨k,n,by simp[de (Rb hE g1) h5],rfl⟩) (.inr ⟨k2,n2,by simp[de (Rb hE g2) h7],rfl⟩) h6
 case h_21 t x f off y=>
  simp only[Bool.and_eq_true] at Aa
  obtain⟨h1,h2⟩:=Aa
  simp only[ua,Option.map_eq_some_iff,Prod.mk.injEq] at hev
  obtain⟨u,hp,rfl,rfl⟩:=hev
  obtain⟨fs,fd,n,hu,hf,rfl,hn,hn0⟩:=ZS h1
  exact .Wc (s:=Instr.fieldAt t (a.eval x) f) (by simp[execOp,ho]) (oP hS (Rb hE h2) hu hf hn hn0 hp)
 case h_22 t x f off ag n y=>
  simp only[Bool.and_eq_true] at Aa
  obtain⟨h1,h2⟩:=Aa
  have hx:=Rb (R:=R) (φ:=φ) (H:=H) hE h2
  obtain⟨fs,fd,hu,hf,rfl,ha,hn⟩:=QR h1
  simp only[ua] at hev
  refine .Wc (s:=Instr.field t (a.eval x) f) (by simp[execOp,ho]) ?_
  have hrun:∀ vs:Array Value,(Instr.field t (.agg vs) f).run P w=(part fd.type vs fd.offset).run P w:=by
   intro vs;simp[Instr.field,run_underlying hu,hf,asAgg]
  obtain⟨i1,i2⟩:=tN hx
  split at hev
  ·rename_i cs hy
   obtain⟨vs,e1,e2⟩:=i1 cs hy
   simp only[Option.map_eq_some_iff,Prod.mk.injEq] at hev
   obtain⟨p,hp,rfl,rfl⟩:=hev
   rw[Xk,e1,hrun]
   exact bJ hS ha hn e2 hp
  ·rename_i cs hy
   obtain⟨vs,e1,e2⟩:=i2 cs hy
   simp only[Option.map_eq_some_iff,Prod.mk.injEq] at hev
   obtain⟨p,hp,rfl,rfl⟩:=hev
   rw[Xk,e1,hrun]
   exact rK hS ha hn e2 hp
  ·cases hev
 case h_23 t x i sz y j=>
  simp only[Bool.and_eq_true] at Aa
  obtain⟨⟨h1,h2⟩,h3⟩:=Aa
  simp only[ua,Option.bind_eq_some_iff,Option.map_eq_some_iff,Prod.mk.injEq] at hev
  obtain⟨⟨k,n⟩,hi,u,hp,rfl,rfl⟩:=hev
  have e1:=de (Rb hE h3) hi
  cases hel:Wu P t with
  |none=>simp[hel] at h1
  |some el=>
   simp only[hel,beq_iff_eq] at h1
   refine .Wc (s:=Instr.indexAt t (a.eval x) (a.eval i)) (by simp[execOp,ho]) ?_
   rw[e1]
   exact cP hS (Rb hE h2) (Vm hel) h1 hp
 case h_24 t x i n sz y j=>
  simp only[Bool.and_eq_true] at Aa
  obtain⟨⟨h1,h2⟩,h3⟩:=Aa
  simp only[ua,Option.bind_eq_some_iff] at hev
  obtain⟨⟨k,m⟩,hi,hif⟩:=hev
  split at hif
  ·rename_i hix
   simp only[Option.map_eq_some_iff,Prod.mk.injEq] at hif
   obtain⟨u,hp,rfl,rfl⟩:=hif
   have e1:=de (Rb hE h3) hi
   obtain⟨el,hu,hsz⟩:=OR h1
   refine .Wc (s:=Instr.indexAt t (a.eval x) (a.eval i)) (by simp[execOp,ho]) ?_
   rw[e1]
   exact aM hS (Rb hE h2) hu hsz hix hp
  ·cases hif
 case h_25 t x i n sz ag y j=>
  simp only[Bool.and_eq_true] at Aa
  obtain⟨⟨h1,h2⟩,h3⟩:=Aa
  have hx:=Rb (R:=R) (φ:=φ) (H:=H) hE h2
  simp only[ua,Option.bind_eq_some_iff] at hev
  obtain⟨⟨k,m⟩,hi,hif⟩:=hev
  split at hif
  ·rename_i hix
   have e1:=de (Rb hE h3) hi
   obtain⟨el,hu,hsz,ha⟩:=mO h1
   refine .Wc (s:=Instr.index t (a.eval x) (a.eval i)) (by simp[execOp,ho]) ?_
   obtain⟨g1,g2⟩:=hix
   have hrun:∀ vs:Array Value,(Instr.index t (.agg vs) (.int k m)).run P w=(part el vs (m.toNat * sz)).run P w:=by
    intro vs;simp only[] at g1 g2;simp[Instr.index,asIntOf,run_underlying hu,g1,g2,uc hsz]
   obtain⟨i1,i2⟩:=tN hx
   split at hif
   ·rename_i cs hy
    obtain⟨vs,e2,e3⟩:=i1 cs hy
    simp only[Option.map_eq_some_iff,Prod.mk.injEq] at hif
    obtain⟨p,hp,rfl,rfl⟩:=hif
    rw[Xk,e1,e2,hrun]
    exact bJ hS ha (fun _=>hsz) e3 hp
   ·rename_i cs hy
    obtain⟨vs,e2,e3⟩:=i2 cs hy
    simp only[Option.map_eq_some_iff,Prod.mk.injEq] at hif
    obtain⟨p,hp,rfl,rfl⟩:=hif
    rw[Xk,e1,e2,hrun]
    exact rK hS ha (fun _=>hsz) e3 hp
   ·cases hif
  ·cases hif
 case h_26 t x i y j=>
  simp only[Bool.and_eq_true] at Aa
  obtain⟨⟨h1,h2⟩,h3⟩:=Aa
  have hx:=Rb (R:=R) (φ:=φ) (H:=H) hE h2
  have hd:P.underlying t=some .string:=by
   unfold YW at h1
   split at h1
   ·rename_i h;exact h
   ·cases h1
  simp only[ua,Option.bind_eq_some_iff] at hev
  obtain⟨⟨k,m⟩,hi,hif⟩:=hev
  have e1:=de (Rb hE h3) hi
  split at hif
  ·rename_i str hy
   split at hif
   ·rename_i hm
    simp only[Option.map_eq_some_iff,Prod.mk.injEq] at hif
    obtain⟨b,hb,rfl,rfl⟩:=hif
    rw[hy] at hx
    obtain⟨vx,hvx⟩:∃ vx,a.eval x=vx:=⟨_,rfl⟩
    rw[hvx] at hx
    have hp:=hx.Qb
    cases hp
    have hb':str[m.toNat]? =some b:=by rw[← hb];exact AQ _ _
    refine .Wc (s:=Instr.index t (a.eval x) (a.eval i)) (by simp[execOp,ho]) (zq.same (.int .u8 b.toNat) hS ?_ (.atom _ _ (show Ta R _ _ from .int _ _)))
    rw[hvx,e1]
    simp only[] at hm
    simp[Instr.index,asIntOf,run_underlying hd,hm,hb']
   ·cases hif
  ·cases hif
 case h_27 x i i' y=>
  simp only[Bool.and_eq_true,beq_iff_eq] at Aa
  obtain⟨rfl,h1⟩:=Aa
  have hx:=Rb (R:=R) (φ:=φ) (H:=H) hE h1
  simp only[ua] at hev
  obtain⟨i1,i2⟩:=OU hx
  refine .Wc (s:=Instr.extract (a.eval x) i) (by simp[execOp,ho]) ?_
  split at hev
  ·rename_i cs hy
   obtain⟨vs,e1,e2⟩:=i1 cs hy
   simp only[Option.map_eq_some_iff,Prod.mk.injEq] at hev
   obtain⟨p,hp,rfl,rfl⟩:=hev
   obtain⟨u,hu,hr⟩:=e2.get hp
   rw[e1]
   exact zq.same u hS (by simp[Instr.extract,hu]) (.atom _ _ hr)
  ·rename_i cs hy
   obtain⟨vs,e1,e2⟩:=i2 cs hy
   simp only[Option.map_eq_some_iff,Prod.mk.injEq] at hev
   obtain⟨p,hp,rfl,rfl⟩:=hev
   obtain⟨u,hu,hr⟩:=e2.get hp
   rw[e1]
   exact zq.same u hS (by simp[Instr.extract,hu]) hr
  ·cases hev
 case h_28 args argTypes k y=>
  simp only[ua,Option.map_eq_some_iff,Prod.mk.injEq] at hev
  obtain⟨n,hn,rfl,rfl⟩:=hev
  split at Aa
  ·rename_i x t hargs htys
   simp only[Bool.and_eq_true] at Aa
   have ha:args= #[x]:=by apply Array.ext';simpa using hargs
   have ht:argTypes= #[t]:=by apply Array.ext';simpa using htys
   subst ha ht
   have hu:(k=0∧∃ e,P.underlying t=some (.slice e))∨(k=1∧P.underlying t=some .string):=by
    have:=Aa.2
    cases hu:P.underlying t with
    |none=>simp[hu] at this
    |some d=>cases d <;> simp[hu] at this <;> simp_all
   exact .Wc (s:=Builtin.len_ #[t] o.type #[a.eval x]) (by simp[execOp,ho,resolve,invoke,builtin]) (KV hS (Rb hE Aa.1) hu hn)
  ·cases Aa
 case h_29 args tys ys=>
  simp only[ua,Option.map_eq_some_iff,Prod.mk.injEq] at hev
  obtain⟨p,hp,rfl,rfl⟩:=hev
  have hl:=Mt (R:=R) (φ:=φ) (H:=H) hE Aa
  obtain⟨v0,rest,u,q0,q1,q2⟩:=NF (P:=P) (w:=w) true hl hp
  exact .Wc (s:=Builtin.max_ tys o.type (args.map a.eval)) (by simp[execOp,ho,resolve,invoke,builtin]) (zq.same u hS (by simp only[Builtin.max_,Array.toList_map,q0];simpa using q1) (.atom _ _ q2))
 case h_30 args tys ys=>
  simp only[ua,Option.map_eq_some_iff,Prod.mk.injEq] at hev
  obtain⟨p,hp,rfl,rfl⟩:=hev
  have hl:=Mt (R:=R) (φ:=φ) (H:=H) hE Aa
  obtain⟨v0,rest,u,q0,q1,q2⟩:=NF (P:=P) (w:=w) false hl hp
  exact .Wc (s:=Builtin.min_ tys o.type (args.map a.eval)) (by simp[execOp,ho,resolve,invoke,builtin]) (zq.same u hS (by simp only[Builtin.min_,Array.toList_map,q0];simpa using q1) (.atom _ _ q2))
 case h_31 args argTypes own hh sz ag bytes s y=>
  simp only[ua] at hev
  split at Aa
  ·rename_i x z t tx hargs htys
   simp only[Bool.and_eq_true] at Aa
   have ha:args= #[x,z]:=by apply Array.ext';simpa using hargs
   have ht:argTypes= #[t,tx]:=by apply Array.ext';simpa using htys
   subst ha ht
   obtain⟨⟨h1,h2⟩,h3⟩:=Aa
   cases hel:Wu P t with
   |none=>simp[hel] at h3
   |some el=>
    simp only[hel,Bool.and_eq_true] at h3
    have hA:=yM h3.1
    refine .Wc (s:=Builtin.append_ #[t,tx] o.type #[a.eval x,a.eval z]) (by simp[execOp,ho,resolve,invoke,builtin]) ?_
    have hs:=Rb (R:=R) (φ:=φ) (H:=H) hE h1
    have hx:=Rb (R:=R) (φ:=φ) (H:=H) hE h2
    generalize AO.ev e s=sv at hev hs
    generalize AO.ev e y=xv at hev hx
    unfold Ob at hev
    split at hev
    ·split at hev
     ·split at hev
      ·rename_i id len sz' ag' cells fl nl hid
       simp only[Option.bind_eq_some_iff] at hev
       obtain⟨⟨m,cs⟩,hy,hif⟩:=hev
       split at hif
       ·rename_i hc
        obtain⟨rfl,hc1,hc2,hc3⟩:=hc
        simp only[Option.some.injEq,Prod.mk.injEq] at hif
        obtain⟨rfl,rfl⟩:=hif
        exact QK hS hA hs hx hid hc1 hy hc3 hc2
       ·cases hif
      ·cases hev
     ·cases hev
    ·split at hev
     ·split at hev
      ·rename_i id nl sz' es sz2 n nl2 hid
       simp only[Option.bind_eq_some_iff] at hev
       obtain⟨ys,hy,hif⟩:=hev
       split at hif
       ·rename_i hc
        obtain⟨rfl,rfl,hc1,hc2⟩:=hc
        simp only[Option.some.injEq,Prod.mk.injEq] at hif
        obtain⟨rfl,rfl⟩:=hif
        exact WN hS hA hs hx hid hc1 hy hc2
       ·cases hif
      ·cases hev
     ·simp only[Option.bind_eq_some_iff] at hev
      obtain⟨ys,hy,hif⟩:=hev
      split at hif
      ·rename_i hc
       have hp:=hs.Qb
       obtain⟨vs,hvs⟩:∃ vs,a.eval x=vs:=⟨_,rfl⟩
       rw[hvs] at hp ⊢
       cases hp
       exact lK hS hA hx hy hc hif
      ·cases hif
     ·cases hev
  ·cases Aa
 case h_32 t x n y=>
  simp only[ua] at hev
  split at hev
  ·rename_i hc
   simp only[Option.map_eq_some_iff,Prod.mk.injEq] at hev
   obtain⟨ps,hps,rfl,rfl⟩:=hev
   exact .Wc (by simp[execOp,ho]) (eR (t:=t) hS (Rb hE Aa) hc.2 hps)
  ·cases hev
 case h_33 t x y _ ks x' y'=>
  simp only[Bool.and_eq_true,Bool.not_eq_true'] at Aa
  simp only[ua] at hev
  split at hev
  ·rename_i p q hp hq
   simp only[Option.map_eq_some_iff,Prod.mk.injEq] at hev
   obtain⟨b,hb,rfl,rfl⟩:=hev
   have h1:=Rb (R:=R) (φ:=φ) (H:=H) hE Aa.1.2
   have h2:=Rb (R:=R) (φ:=φ) (H:=H) hE Aa.2
   rw[hp] at h1
   rw[hq] at h2
   have hg:=vz (w:=w) Aa.1.1.2 .eql x y h1.Qb h2.Qb hb
   have hr:=GD (w:=w) Aa.1.1.1 h1.Qb h2.Qb hb
   have hbin:(binOp .eql t (a.eval x) (a.eval y)).run P w= .ok (.bool b) w:=by
    have e:=h1.Qb
    have e2:=h2.Qb
    revert hr
    generalize a.eval x=vx at e
    generalize a.eval y=vy at e2
    intro hr
    have hp2:∃ xs,p= .agg xs:=by cases p <;> simp[Fk] at hb;exact⟨_,rfl⟩
    obtain⟨xs,rfl⟩:=hp2
    have hq2:∃ ys,q= .agg ys:=by cases q <;> simp[Fk] at hb;exact⟨_,rfl⟩
    obtain⟨ys,rfl⟩:=hq2
    cases e;cases e2;simp[binOp,hr]
   exact .gr (v':= .bool b) hS (by simp[execOp,ho,hg,hbin]) (.atom _ _ (show Ta R _ _ from .bool _))
  ·cases hev
 case h_34 t x y _ ks x' y'=>
  simp only[Bool.and_eq_true,Bool.not_eq_true'] at Aa
  simp only[ua] at hev
  split at hev
  ·rename_i p q hp hq
   simp only[Option.map_eq_some_iff,Prod.mk.injEq] at hev
   obtain⟨b,hb,rfl,rfl⟩:=hev
   have h1:=Rb (R:=R) (φ:=φ) (H:=H) hE Aa.1.2
   have h2:=Rb (R:=R) (φ:=φ) (H:=H) hE Aa.2
   rw[hp] at h1
   rw[hq] at h2
   have hg:=vz (w:=w) Aa.1.1.2 .neq x y h1.Qb h2.Qb hb
   have hr:=GD (w:=w) Aa.1.1.1 h1.Qb h2.Qb hb
   have hbin:(binOp .neq t (a.eval x) (a.eval y)).run P w= .ok (.bool (!b)) w:=by
    have e:=h1.Qb
    have e2:=h2.Qb
    revert hr
    generalize a.eval x=vx at e
    generalize a.eval y=vy at e2
    intro hr
    have hp2:∃ xs,p= .agg xs:=by cases p <;> simp[Fk] at hb;exact⟨_,rfl⟩
    obtain⟨xs,rfl⟩:=hp2
    have hq2:∃ ys,q= .agg ys:=by cases q <;> simp[Fk] at hb;exact⟨_,rfl⟩
    obtain⟨ys,rfl⟩:=hq2
    cases e;cases e2;simp[binOp,hr]
   exact .gr (v':= .bool (!b)) hS (by simp[execOp,ho,hg,hbin]) (.atom _ _ (show Ta R _ _ from .bool _))
  ·cases hev
 case h_35 t=>
  simp only[ua,Option.some.injEq,Prod.mk.injEq] at hev
  obtain⟨rfl,rfl⟩:=hev
  exact .Wc (s:=Instr.makeMap t none) (by simp[execOp,ho]) (FP hS _)
 case h_36 t x k ok kd zero ok' x' k'=>
  simp only[Bool.and_eq_true,beq_iff_eq] at Aa
  obtain⟨⟨⟨⟨h1,h2⟩,rfl⟩,h3⟩,h4⟩:=Aa
  have hm:=Rb (R:=R) (φ:=φ) (H:=H) hE h3
  have hk:=Rb (R:=R) (φ:=φ) (H:=H) hE h4
  simp only[ua] at hev
  split at hev
  ·rename_i kp em ek
   rw[em] at hm;rw[ek] at hk
   split at hev
   ·rename_i hkk
    simp only[Option.some.injEq,Prod.mk.injEq] at hev
    obtain⟨rfl,rfl⟩:=hev
    obtain⟨u,h5,h6⟩:=iD (P:=P) hS h1 h2 hm hk.Qb ok (.inl ⟨rfl,rfl⟩) hkk (r:=none) rfl
    exact .gr hS (by simp[execOp,ho,h5]) h6
   ·cases hev
  ·rename_i id kp em ek
   rw[em] at hm;rw[ek] at hk
   split at hev
   ·rename_i es hid
    split at hev
    ·rename_i hkk
     simp only[Option.map_eq_some_iff] at hev
     obtain⟨r,hf,hr⟩:=hev
     obtain⟨u,h5,h6⟩:=iD (P:=P) hS h1 h2 hm hk.Qb ok (.inr ⟨id,rfl,hid⟩) hkk hf
     cases r with
     |none=>
      simp only[Prod.mk.injEq] at hr
      obtain⟨rfl,rfl⟩:=hr
      exact .gr hS (by simp[execOp,ho,h5]) h6
     |some r=>
      simp only[Prod.mk.injEq] at hr
      obtain⟨rfl,rfl⟩:=hr
      exact .gr hS (by simp[execOp,ho,h5]) h6
    ·cases hev
   ·cases hev
  ·cases hev
 case h_37 t m k x kd m' k' x'=>
  simp only[Bool.and_eq_true] at Aa
  obtain⟨⟨⟨h1,h2⟩,h3⟩,h4⟩:=Aa
  have hm:=Rb (R:=R) (φ:=φ) (H:=H) hE h2
  have hk:=Rb (R:=R) (φ:=φ) (H:=H) hE h3
  have hx:=Rb (R:=R) (φ:=φ) (H:=H) hE h4
  simp only[ua] at hev
  split at hev
  ·rename_i id kp xp em ek ex
   rw[em] at hm;rw[ek] at hk;rw[ex] at hx
   split at hev
   ·rename_i es hid
    split at hev
    ·rename_i hkk
     simp only[Option.map_eq_some_iff] at hev
     obtain⟨r,hf,hr⟩:=hev
     obtain⟨w',φ',h5,h6,h7,h8⟩:=YC (P:=P) hS h1 hm hk.Qb hx.Qb hid hkk hf
     intro next Q hn
     unfold Oper.wp
     have:(execOp a.eval o).run P w= .ok .skip w':=by simp[execOp,ho,h5]
     rw[this]
     cases r with
     |none=>
      simp only[Prod.mk.injEq] at hr
      obtain⟨rfl,rfl⟩:=hr
      exact hn undef w' R φ' h6 (.atom _ _ (show Ta R _ _ from .oc [] [] .nil)) h7 h8
     |some r=>
      simp only[Prod.mk.injEq] at hr
      obtain⟨rfl,rfl⟩:=hr
      exact hn undef w' R φ' h6 (.atom _ _ (show Ta R _ _ from .oc [] [] .nil)) h7 h8
    ·cases hev
   ·cases hev
  ·cases hev
 case h_38 t m k x kd m' k' x'=>
  simp only[Bool.and_eq_true] at Aa
  obtain⟨⟨⟨h1,h2⟩,h3⟩,h4⟩:=Aa
  have hm:=Rb (R:=R) (φ:=φ) (H:=H) hE h2
  have hk:=Rb (R:=R) (φ:=φ) (H:=H) hE h3
  have hx:=Rb (R:=R) (φ:=φ) (H:=H) hE h4
  simp only[ua] at hev
  split at hev
  ·rename_i id kp xp em ek ex
   rw[em] at hm;rw[ek] at hk;rw[ex] at hx
   split at hev
   ·rename_i es hid
    split at hev
    ·rename_i hkk
     simp only[Option.map_eq_some_iff] at hev
     obtain⟨r,hf,hr⟩:=hev
     obtain⟨w',φ',h5,h6,h7,h8⟩:=YC (P:=P) hS h1 hm hk.Qb hx.Qb hid hkk hf
     intro next Q hn
     unfold Oper.wp
     have:(execOp a.eval o).run P w= .ok .skip w':=by simp[execOp,ho,h5]
     rw[this]
     cases r with
     |none=>
      simp only[Prod.mk.injEq] at hr
      obtain⟨rfl,rfl⟩:=hr
      exact hn undef w' R φ' h6 (.atom _ _ (show Ta R _ _ from .oc [] [] .nil)) h7 h8
     |some r=>
      simp only[Prod.mk.injEq] at hr
      obtain⟨rfl,rfl⟩:=hr
      exact hn undef w' R φ' h6 (.atom _ _ (show Ta R _ _ from .oc [] [] .nil)) h7 h8
    ·cases hev
   ·cases hev
  ·cases hev
 case h_39 s d x y=>
  simp only[ua] at hev
  split at hev
  ·rename_i id es hx
   split at hev
   ·rename_i n hid
    split at hev
    ·rename_i hn2
     simp only[Option.some.injEq,Prod.mk.injEq] at hev
     obtain⟨rfl,rfl⟩:=hev
     simp only[Bool.and_eq_true,beq_iff_eq] at Aa
     obtain⟨⟨rfl,hsl⟩,h3⟩:=Aa
     have hr:=Rb (R:=R) (φ:=φ) (H:=H) hE h3
     rw[hx] at hr
     exact mQ ho hS hr hid hn2 hsl
    ·cases hev
   ·cases hev
  ·cases hev
 case h_40=>cases Aa
end ops
end Go.AM
namespace Go.AM
def AO.look (n:Nat):AO→Bool
 | .t m=>n==m
 |_=>false
def sd.look (n:Nat):sd→Bool
 | .move x | .box _ x | .vM _ x | .load _ _ x | .JC x | .un _ x | .conv _ x | .CT x | .DX x | .XU _ x | .yE _ x | .cX _ _ _ x | .ext _ x | .len _ x=>x.look n
 | .alloc _=>false
 | .pick c a b=>c.look n||a.look n||b.look n
 | .build _ ps=>ps.any fun p=>p.2.2.look n
 | .Fb _ _ _ _ _ ps=>ps.any fun p=>p.2.look n
 | .store _ a v=>a.look n||v.look n
 | .bin _ x y | .eq _ _ x y=>x.look n||y.look n
 | .EH _ xs | .mx xs | .mn xs | .Po _ xs | .Dh _ xs=>xs.any (·.look n)
 | .Jg _ _ _ _ _ l c=>l.look n||c.look n
 | .slice _ x lo hi=>x.look n||(lo.any (·.look n))||(hi.any (·.look n))
 | .Pd _ x i | .Wv _ _ x i | .DT _ _ _ x i | .bX x i=>x.look n||i.look n
 | .append _ _ _ _ _ s x=>s.look n||x.look n
 | .zV _ _ x y=>x.look n||y.look n
 | .wC=>false
 | .lookup _ _ _ m k=>m.look n||k.look n
 | .tu _ m k v=>m.look n||k.look n||v.look n
 | .PA f xs=>f.look n||xs.any (·.look n)
def fX (p:Nat→Bool) (e e':Tr):Prop:=∀ n,p n=true→e.get n=e'.get n
theorem AO.eJ {e e':Tr} {x:AO} (h:∀ n,x.look n=true→e.get n=e'.get n):x.ev e=x.ev e':=by
 cases x with
 |t n=>exact h n (by simp[AO.look])
 |c p=>rfl
 |f ix=>rfl
theorem fP {e e':Tr} {xs:List AO} (h:∀ n,xs.any (·.look n)=true→e.get n=e'.get n):xs.map (·.ev e)=xs.map (·.ev e'):=
 List.map_congr_left fun x hx=>AO.eJ fun n hn=>h n (List.any_eq_true.2 ⟨x,hx,hn⟩)
theorem sy {call:Xa} {e e':Tr} {H:List ba} {op:sd} (h:fX (fun n=>op.look n) e e'):ua call e H op=ua call e' H op:=by
 have one:∀ x:AO,(∀ n,x.look n=true→op.look n=true)→x.ev e=x.ev e':=fun x hx=>AO.eJ fun n hn=>h n (hx n hn)
 have many:∀ xs:List AO,(∀ n,xs.any (·.look n)=true→op.look n=true)→xs.map (·.ev e)=xs.map (·.ev e'):=fun xs hx=>fP fun n hn=>h n (hx n hn)
 cases op with
 |move x=>simp only[ua];rw[one x (fun n h=>by simpa[sd.look] using h)]
 |pick c a b=>
  simp only[ua]
  rw[one c (fun n h=>by simp[sd.look,h]),one a (fun n h=>by simp[sd.look,h]),one b (fun n h=>by simp[sd.look,h])]
 |alloc z=>rfl
 |box n x=>simp only[ua];rw[one x (fun n h=>by simpa[sd.look] using h)]
 |vM n x=>simp only[ua];rw[one x (fun n h=>by simpa[sd.look] using h)]
 |build z ps=>
  simp only[ua]
  rw[List.map_congr_left (f:=fun p:Nat×Nat×AO=>(p.1,p.2.1,p.2.2.ev e)) (g:=fun p=>(p.1,p.2.1,p.2.2.ev e')) fun p hp=>by
   rw[one p.2.2 (fun n h=>by simp only[sd.look];exact List.any_eq_true.2 ⟨p,hp,h⟩)]]
 |Fb hh sz ag len z ps=>
  simp only[ua]
  rw[List.map_congr_left (f:=fun p:Nat×AO=>(p.1 * sz,sz,Qh e p.2)) (g:=fun p=>(p.1 * sz,sz,Qh e' p.2)) fun p hp=>by
   unfold Qh
   rw[one p.2 (fun n h=>by simp only[sd.look];exact List.any_eq_true.2 ⟨p,hp,h⟩)]]
 |load ag n x=>simp only[ua];rw[one x (fun n h=>by simpa[sd.look] using h)]
 |store n a v=>simp only[ua];rw[one a (fun n h=>by simp[sd.look,h]),one v (fun n h=>by simp[sd.look,h])]
 |JC x=>simp only[ua];rw[one x (fun n h=>by simpa[sd.look] using h)]
 |bin op x y=>simp only[ua];rw[one x (fun n h=>by simp[sd.look,h]),one y (fun n h=>by simp[sd.look,h])]
 |eq k ne x y=>simp only[ua];rw[one x (fun n h=>by simp[sd.look,h]),one y (fun n h=>by simp[sd.look,h])]
 |un op x=>simp only[ua];rw[one x (fun n h=>by simpa[sd.look] using h)]
 |conv k x=>simp only[ua];rw[one x (fun n h=>by simpa[sd.look] using h)]
 |CT x=>simp only[ua];rw[one x (fun n h=>by simpa[sd.look] using h)]
 |XU hh x=>simp only[ua];rw[one x (fun n h=>by simpa[sd.look] using h)]
 |DX x=>simp only[ua];rw[one x (fun n h=>by simpa[sd.look] using h)]
 |EH ix xs=>simp only[ua];rw[many xs (fun n h=>by simpa[sd.look] using h)]
 |Jg hh sz ag z b l c=>simp only[ua];rw[one l (fun n h=>by simp[sd.look,h]),one c (fun n h=>by simp[sd.look,h])]
 |slice sz x lo hi=>
  have hx:=one x (fun n h=>by simp[sd.look,h])
  cases lo with
  |none=>
   cases hi with
   |none=>simp only[ua];rw[hx]
   |some hi=>simp only[ua];rw[hx,one hi (fun n h=>by simp[sd.look,h])]
  |some lo=>
   cases hi with
   |none=>simp only[ua];rw[hx,one lo (fun n h=>by simp[sd.look,h])]
   |some hi=>simp only[ua];rw[hx,one lo (fun n h=>by simp[sd.look,h]),one hi (fun n h=>by simp[sd.look,h])]
 |yE off x=>simp only[ua];rw[one x (fun n h=>by simpa[sd.look] using h)]
 |cX off ag n x=>simp only[ua];rw[one x (fun n h=>by simpa[sd.look] using h)]
 |Pd sz x i=>simp only[ua];rw[one x (fun n h=>by simp[sd.look,h]),one i (fun n h=>by simp[sd.look,h])]
 |Wv n sz x i=>simp only[ua];rw[one x (fun n h=>by simp[sd.look,h]),one i (fun n h=>by simp[sd.look,h])]
 |DT n sz ag x i=>simp only[ua];rw[one x (fun n h=>by simp[sd.look,h]),one i (fun n h=>by simp[sd.look,h])]
 |bX x i=>simp only[ua];rw[one x (fun n h=>by simp[sd.look,h]),one i (fun n h=>by simp[sd.look,h])]
 |ext i x=>simp only[ua];rw[one x (fun n h=>by simpa[sd.look] using h)]
 |len k x=>simp only[ua];rw[one x (fun n h=>by simpa[sd.look] using h)]
 |mx xs=>simp only[ua];rw[many xs (fun n h=>by simpa[sd.look] using h)]
 |mn xs=>simp only[ua];rw[many xs (fun n h=>by simpa[sd.look] using h)]
 |append o hh sz ag b s x=>simp only[ua];rw[one s (fun n h=>by simp[sd.look,h]),one x (fun n h=>by simp[sd.look,h])]
 |zV kd ne x y=>simp only[ua];rw[one x (fun n h=>by simp[sd.look,h]),one y (fun n h=>by simp[sd.look,h])]
 |wC=>rfl
 |lookup kd z ok m k=>simp only[ua];rw[one m (fun n h=>by simp[sd.look,h]),one k (fun n h=>by simp[sd.look,h])]
 |tu kd m k v=>simp only[ua];rw[one m (fun n h=>by simp[sd.look,h]),one k (fun n h=>by simp[sd.look,h]),one v (fun n h=>by simp[sd.look,h])]
 |Po F xs=>simp only[ua];rw[many xs (fun n h=>by simpa[sd.look] using h)]
 |Dh ix xs=>simp only[ua];rw[many xs (fun n h=>by simpa[sd.look] using h)]
 |PA f xs=>simp only[ua];rw[one f (fun n h=>by simp[sd.look,h]),many xs (fun n h=>by simp only[sd.look,h,Bool.or_true])]
def ba.MM:ba→Bool
 | .tok _ _ _=>true
 |_=>false
def Xr (H H':List ba):Prop:=∀ (id:Nat) (o:ba),H[id]? =some o→o.MM=false→H'[id]? =some o
theorem Xr.refl (H:List ba):Xr H H:=fun _ _ h _=>h
theorem Xr.push (H:List ba) (o:ba):Xr H (H++[o]):=fun id o' h _=>by
 have hl:id < H.length:=(List.getElem?_eq_some_iff.1 h).1
 rw[List.getElem?_append_left hl];exact h
theorem Xr.AI (H:List ba) (a b:Nat) (c:Bool):Xr (H++[.tok a b c]) H:=fun id o h ht=>by
 by_cases hl:id < H.length
 ·rw[List.getElem?_append_left hl] at h;exact h
 ·rw[List.getElem?_append_right (by omega)] at h
  by_cases h0:id - H.length=0
  ·rw[h0] at h;simp at h;subst h;simp[ba.MM] at ht
  ·rw[List.getElem?_eq_none (by simp;omega)] at h;cases h
theorem Xr.RU {H:List ba} {id:Nat} {a b:Nat} {c:Bool} (h:H[id]? =some (.tok a b c)) (a' b':Nat) (c':Bool):
 Xr H (H.set id (.tok a' b' c'))∧Xr (H.set id (.tok a' b' c')) H:=by
 constructor
 ·intro i o hi ht
  by_cases e:id=i
  ·subst e;rw[h] at hi;injection hi with hi;subst hi;simp[ba.MM] at ht
  ·rw[List.getElem?_set_ne e];exact hi
 ·intro i o hi ht
  by_cases e:id=i
  ·subst e
   have hl:id < H.length:=(List.getElem?_eq_some_iff.1 h).1
   rw[List.getElem?_set_self hl] at hi;injection hi with hi;subst hi;simp[ba.MM] at ht
  ·rw[List.getElem?_set_ne e] at hi;exact hi
def rf.isLit:rf→Bool
 | .lit=>true
 |_=>false
def rf.zj:rf→Bool
 | .own=>true
 |_=>false
def sd.cls:sd→Nat
 | .move _ | .pick _ _ _ | .build _ _ | .bin _ _ _ | .un _ _ | .conv _ _ | .EH _ _ | .cX _ _ _ _ | .DT _ _ _ _ _ | .bX _ _ | .ext _ _ | .mx _ | .mn _ | .vM _ _ | .zV _ _ _ _=>0
 | .load _ _ _ | .JC _ | .yE _ _ | .Pd _ _ _ | .Wv _ _ _ _ | .len _ _ | .eq _ _ _ _ | .slice _ _ _ _ | .CT _ | .Po _ _ | .lookup _ _ _ _ _=>1
 | .Fb h _ _ _ _ _ | .XU h _ | .Jg h _ _ _ _ _ _=>(if h.isLit then 0 else if h.zj then 3 else 2)
 | .append own h _ _ _ _ _=>(if own then 4 else if h.zj then 4 else 2)
 | .alloc _ | .box _ _=>3
 |_=>4
theorem gS {H H':List ba} (h:Xr H H'):∀ (d:Nat) (v:AV) (p:PV),Vb H d v=some p→Vb H' d v=some p:=by
 intro d
 induction d with
 |zero=>intro v p hp;cases v <;> simp_all [Vb]
 |succ d ih=>
  have many:∀ (cs:List AV) (ps:List PV),Pa (Vb H d) cs=some ps→Pa (Vb H' d) cs=some ps:=by
   intro cs
   induction cs with
   |nil=>intro ps h;simpa[Pa] using h
   |cons c cs ihc=>
    intro ps h
    simp only[Pa,Option.bind_eq_some_iff] at h ⊢
    obtain⟨b,h1,bs,h2,h3⟩:=h
    exact⟨b,ih _ _ h1,bs,ihc _ h2,h3⟩
  intro v p hp
  cases v with
  |pv q=>simpa[Vb] using hp
  |uq=>simpa[Vb] using hp
  |own id len=>
   simp only[Vb] at hp ⊢
   split at hp
   ·rename_i sz ag cells fl nl hid
    rw[h _ _ hid rfl]
    split at hp
    ·rename_i hc
     simp only[if_pos hc]
     cases nl with
     |true=>simpa using hp
     |false=>
      simp only[Bool.false_eq_true,if_false,Option.map_eq_some_iff] at hp ⊢
      obtain⟨ps,h1,h2⟩:=hp
      exact⟨ps,many _ _ h1,h2⟩
    ·cases hp
   ·cases hp
  |ptr id off=>
   simp only[Vb] at hp ⊢
   split at hp
   ·rename_i cells hid
    rw[h _ _ hid rfl]
    simp only[Option.map_eq_some_iff] at hp ⊢
    obtain⟨ps,h1,h2⟩:=hp
    exact⟨ps,many _ _ h1,h2⟩
   ·cases hp
  |agg cs=>
   simp only[Vb,Option.map_eq_some_iff] at hp ⊢
   obtain⟨ps,h1,h2⟩:=hp
   exact⟨ps,many _ _ h1,h2⟩
  |oc cs=>
   simp only[Vb,Option.map_eq_some_iff] at hp ⊢
   obtain⟨ps,h1,h2⟩:=hp
   exact⟨ps,many _ _ h1,h2⟩
  |Fc=>simp[Vb] at hp
  |Gk=>simp[Vb] at hp
  |mp=>simp[Vb] at hp
  |undef=>simp[Vb] at hp
theorem BO {H H':List ba} (h:Xr H H') {d:Nat}:∀ {cs:List AV} {ps:List PV},Pa (Vb H d) cs=some ps→Pa (Vb H' d) cs=some ps:=by
 intro cs
 induction cs with
 |nil=>intro ps h;simpa[Pa] using h
 |cons c cs ihc=>
  intro ps hp
  simp only[Pa,Option.bind_eq_some_iff] at hp ⊢
  obtain⟨b,h1,bs,h2,h3⟩:=hp
  exact⟨b,gS h _ _ _ h1,bs,ihc h2,h3⟩
theorem HA {H H':List ba} (h:Xr H H') {d:Nat} {x v:AV} (hp:place H d x=some v):place H' d x=some v:=by
 unfold place at hp ⊢
 split at hp
 ·exact hp
 ·split at hp
  ·rename_i hid;rw[h _ _ hid rfl];exact hp
  ·cases hp
 ·split at hp
  ·rename_i hid;rw[h _ _ hid rfl];exact hp
  ·cases hp
 ·cases hp
theorem sO {H H':List ba} (h:Xr H H') {ag:Bool} {n:Nat} {x v:AV} (hp:ya H ag n x=some v):ya H' ag n x=some v:=by
 unfold ya at hp ⊢
 split at hp
 ·exact hp
 ·split at hp
  ·rename_i hid;rw[h _ _ hid rfl];exact hp
  ·cases hp
 ·split at hp
  ·rename_i hid;rw[h _ _ hid rfl];exact hp
  ·cases hp
 ·cases hp
theorem mP {H H':List ba} (h:Xr H H') {sz:Nat} {x v:AV} {i:Int} (hp:wa H sz x i=some v):wa H' sz x i=some v:=by
 unfold wa at hp ⊢
 split at hp
 ·exact hp
 ·exact hp
 ·split at hp
  ·rename_i hid;rw[h _ _ hid rfl];exact hp
  ·cases hp
 ·cases hp
theorem ER {H H':List ba} (h:Xr H H') {k:Nat} {x:AV} {n:Nat} (hp:Tb H k x=some n):Tb H' k x=some n:=by
 unfold Tb at hp ⊢
 split at hp
 ·exact hp
 ·exact hp
 ·exact hp
 ·exact hp
 ·split at hp
  ·rename_i hid;rw[h _ _ hid rfl];exact hp
  ·cases hp
 ·exact hp
 ·split at hp
  ·rename_i hid;rw[h _ _ hid rfl];exact hp
  ·cases hp
 ·cases hp
theorem ZT {H H':List ba} (h:Xr H H') {k:Nat} {x y:AV} {b:Bool} (hp:Hu H k x y=some b):Hu H' k x y=some b:=by
 unfold Hu at hp ⊢
 split at hp <;> first
  |exact hp
  | (split at hp
     ·rename_i hid;simp only[h _ _ hid rfl];exact hp
     ·cases hp)
  |cases hp
theorem VR {H H':List ba} (h:Xr H H') {x:AV} {b:ByteArray} (hp:Rx H x=some b):Rx H' x=some b:=by
 unfold Rx at hp ⊢
 split at hp <;> first
  |exact hp
  | (split at hp
     ·rename_i hid;rw[h _ _ hid rfl];exact hp
     ·cases hp)
  |cases hp
theorem gu {H H':List ba} (h:Xr H H') {sz:Nat} {x v:AV} {lo hi:Option Int} (hp:Ze H sz x lo hi=some v):Ze H' sz x lo hi=some v:=by
 unfold Ze at hp ⊢
 split at hp <;> first
  |exact hp
  | (split at hp
     ·rename_i hid;rw[h _ _ hid rfl];exact hp
     ·cases hp)
  |cases hp
theorem bA {H:List ba} {sz:Nat} {ag:Bool} {n:Nat} {cs:List AV} {v:AV} {H':List ba} (h:fresh H .lit sz ag n cs=some (v,H')):
 H'=H∧∀ H2,fresh H2 .lit sz ag n cs=some (v,H2):=by
 simp only[fresh,Option.map_eq_some_iff,Prod.mk.injEq] at h ⊢
 obtain⟨ps,h1,rfl,rfl⟩:=h
 exact⟨rfl,fun H2=>⟨ps,h1,rfl,trivial⟩⟩
theorem oC {H:List ba} {sz:Nat} {ag:Bool} {n:Nat} {cs:List AV} {v:AV} {H':List ba} (h:fresh H .uq sz ag n cs=some (v,H')):
 Xr H H'∧Xr H' H:=by
 simp only[fresh,Option.map_eq_some_iff,Prod.mk.injEq] at h
 obtain⟨ps,h1,rfl,rfl⟩:=h
 exact⟨Xr.push _ _,Xr.AI _ _ _ _⟩
theorem Sz {H:List ba} {sz:Nat} {ag:Bool} {n:Nat} {cs:List AV} {v:AV} {H':List ba} (h:fresh H .own sz ag n cs=some (v,H')):
 Xr H H':=by
 simp only[fresh,Option.some.injEq,Prod.mk.injEq] at h
 obtain⟨rfl,rfl⟩:=h
 exact Xr.push _ _
theorem gX {call:Xa} {e:Tr} {H H':List ba} {op:sd} {v:AV} (hc:op.cls=0) (h:ua call e H op=some (v,H')):
 H'=H∧∀ H2,ua call e H2 op=some (v,H2):=by
 have ob:∀ {α:Type} {x:Option α} {f:α→AV},(x.map fun v=>(f v,H))=some (v,H')→H'=H∧∀ H2:List ba,(x.map fun v=>(f v,H2))=some (v,H2):=by
  intro α x f h
  cases x with
  |none=>simp at h
  |some x=>simp at h;exact⟨h.2.symm,fun H2=>by simp[h.1]⟩
 cases op with
 |move x=>simp only[ua,Option.some.injEq,Prod.mk.injEq] at h ⊢;exact⟨h.2.symm,fun H2=>⟨h.1,trivial⟩⟩
 |pick c a b=>
  simp only[ua,Option.bind_eq_some_iff,Option.some.injEq,Prod.mk.injEq] at h ⊢
  obtain⟨t,h1,h2,h3⟩:=h
  exact⟨h3.symm,fun H2=>⟨t,h1,h2,trivial⟩⟩
 |vM n x=>
  simp only[ua] at h ⊢
  split at h
  ·rename_i h0;simp only[if_pos h0];exact ob h
  ·cases h
 |build z ps=>exact ob h
 |bin o x y=>exact ob h
 |zV kd ne x y=>simp only[ua] at h ⊢;split at h <;> first | exact ob h | cases h
 |un o x=>exact ob h
 |conv k x=>exact ob h
 |mx xs=>exact ob h
 |mn xs=>exact ob h
 |EH ix xs=>simp only[ua,Option.some.injEq,Prod.mk.injEq] at h ⊢;exact⟨h.2.symm,fun H2=>⟨h.1,trivial⟩⟩
 |cX off ag n x=>simp only[ua] at h ⊢;split at h <;> first | exact ob h | cases h
 |ext i x=>simp only[ua] at h ⊢;split at h <;> first | exact ob h | cases h
 |DT n sz ag x i=>
  simp only[ua] at h ⊢
  cases hi:asInt (i.ev e) with
  |none=>simp[hi] at h
  |some k=>
   simp only[hi,Option.bind_some] at h ⊢
   split at h
   ·rename_i hx;simp only[if_pos hx];split at h <;> first | exact ob h | cases h
   ·cases h
 |bX x i=>
  simp only[ua] at h ⊢
  cases hi:asInt (i.ev e) with
  |none=>simp[hi] at h
  |some k=>
   simp only[hi,Option.bind_some] at h ⊢
   split at h
   ·split at h
    ·rename_i h0;simp only[if_pos h0];exact ob h
    ·cases h
   ·cases h
 |Fb hh sz ag len z ps=>
  cases hh with
  |lit=>
   simp only[ua] at h ⊢
   cases hf:Am (xj z len) (ps.map fun p=>(p.1 * sz,sz,Qh e p.2)) with
   |none=>simp[hf] at h
   |some cs=>
    simp only[hf,Option.bind_some] at h ⊢
    split at h
    ·rename_i h0;simp only[if_pos h0];exact bA h
    ·cases h
  |uq=>simp[sd.cls,rf.isLit,rf.zj] at hc
  |own=>simp[sd.cls,rf.isLit,rf.zj] at hc
 |XU hh x=>
  cases hh with
  |lit=>
   simp only[ua] at h ⊢
   split at h
   ·exact bA h
   ·cases h
  |uq=>simp[sd.cls,rf.isLit,rf.zj] at hc
  |own=>simp[sd.cls,rf.isLit,rf.zj] at hc
 |Jg hh sz ag z b l c=>
  cases hh with
  |lit=>
   simp only[ua] at h ⊢
   cases hl:asInt (l.ev e) with
   |none=>simp[hl] at h
   |some l=>
    cases hcc:asInt (c.ev e) with
    |none=>simp[hl,hcc] at h
    |some c=>
     simp only[hl,hcc,Option.bind_some] at h ⊢
     split at h
     ·rename_i h0;simp only[if_pos h0];exact bA h
     ·cases h
  |uq=>simp[sd.cls,rf.isLit,rf.zj] at hc
  |own=>simp[sd.cls,rf.isLit,rf.zj] at hc
 |append o hh _ _ _ _ _=>exfalso;simp only[sd.cls] at hc;split at hc <;> first | cases hc | (split at hc <;> cases hc)
 |_=>simp[sd.cls] at hc
theorem uV {call:Xa} {e:Tr} {H H':List ba} {op:sd} {v:AV} (hc:op.cls=1) (h:ua call e H op=some (v,H')):
 H'=H∧∀ H2,Xr H H2→ua call e H2 op=some (v,H2):=by
 have ob:∀ {α:Type} {g:List ba→Option α} {f:α→AV},((g H).map fun v=>(f v,H))=some (v,H')→(∀ H2 a,Xr H H2→g H=some a→g H2=some a)→
  H'=H∧∀ H2:List ba,Xr H H2→((g H2).map fun v=>(f v,H2))=some (v,H2):=by
  intro α g f h hg
  cases hx:g H with
  |none=>simp[hx] at h
  |some x=>simp[hx] at h;exact⟨h.2.symm,fun H2 ha=>by simp[hg H2 x ha hx,h.1]⟩
 cases op with
 |load ag n x=>exact ob (g:=fun H=>ya H ag n (x.ev e)) h fun H2 a ha hp=>sO ha hp
 |yE off x=>exact ob (g:=fun H=>place H off (x.ev e)) h fun H2 a ha hp=>HA ha hp
 |len k x=>exact ob (g:=fun H=>Tb H k (x.ev e)) h fun H2 a ha hp=>ER ha hp
 |CT x=>exact ob (g:=fun H=>Rx H (x.ev e)) h fun H2 a ha hp=>VR ha hp
 |eq k ne x y=>exact ob (g:=fun H=>Hu H k (x.ev e) (y.ev e)) h fun H2 a ha hp=>ZT ha hp
 |JC x=>
  simp only[ua] at h ⊢
  split at h
  ·simp only[Option.some.injEq,Prod.mk.injEq] at h ⊢;exact⟨h.2.symm,fun H2 _=>⟨h.1,trivial⟩⟩
  ·exact ob (g:=fun H=>place H 0 (x.ev e)) h fun H2 a ha hp=>HA ha hp
 |Pd sz x i=>
  simp only[ua] at h ⊢
  cases hi:asInt (i.ev e) with
  |none=>simp[hi] at h
  |some k=>
   simp only[hi,Option.bind_some] at h ⊢
   exact ob (g:=fun H=>wa H sz (x.ev e) k.2) h fun H2 a ha hp=>mP ha hp
 |Wv n sz x i=>
  simp only[ua] at h ⊢
  cases hi:asInt (i.ev e) with
  |none=>simp[hi] at h
  |some k=>
   simp only[hi,Option.bind_some] at h ⊢
   split at h
   ·rename_i h0
    simp only[if_pos h0]
    exact ob (g:=fun H=>place H (k.2.toNat * sz) (x.ev e)) h fun H2 a ha hp=>HA ha hp
   ·cases h
 |slice sz x lo hi=>
  cases lo with
  |none=>
   cases hi with
   |none=>exact ob (g:=fun H=>Ze H sz (x.ev e) none none) h fun H2 a ha hp=>gu ha hp
   |some hi=>
    simp only[ua] at h ⊢
    cases hh:asInt (hi.ev e) with
    |none=>simp[hh] at h
    |some k=>
     simp only[hh,Option.bind_some] at h ⊢
     exact ob (g:=fun H=>Ze H sz (x.ev e) none (some k.2)) h fun H2 a ha hp=>gu ha hp
  |some lo=>
   cases hi with
   |none=>
    simp only[ua] at h ⊢
    cases hh:asInt (lo.ev e) with
    |none=>simp[hh] at h
    |some k=>
     simp only[hh,Option.bind_some] at h ⊢
     exact ob (g:=fun H=>Ze H sz (x.ev e) (some k.2) none) h fun H2 a ha hp=>gu ha hp
   |some hi=>
    simp only[ua] at h ⊢
    cases hl:asInt (lo.ev e) with
    |none=>simp[hl] at h
    |some l=>
     cases hh:asInt (hi.ev e) with
     |none=>simp[hl,hh] at h
     |some k=>
      simp only[hl,hh,Option.bind_some] at h ⊢
      exact ob (g:=fun H=>Ze H sz (x.ev e) (some l.2) (some k.2)) h fun H2 a ha hp=>gu ha hp
 |lookup kd z ok m k=>
  simp only[ua] at h ⊢
  split at h
  ·split at h
   ·rename_i h0
    simp only[Option.some.injEq,Prod.mk.injEq] at h
    exact⟨h.2.symm,fun H2 _=>by rw[if_pos h0,h.1]⟩
   ·cases h
  ·rename_i id k' _ _
   split at h
   ·rename_i es hid
    split at h
    ·rename_i h0
     simp only[Option.map_eq_some_iff] at h
     obtain⟨r,h1,h2⟩:=h
     cases r with
     |none=>
      simp only[Prod.mk.injEq] at h2
      exact⟨h2.2.symm,fun H2 ha=>by rw[ha _ _ hid rfl];simp only[if_pos h0,h1,Option.map_some,h2.1]⟩
     |some r=>
      simp only[Prod.mk.injEq] at h2
      exact⟨h2.2.symm,fun H2 ha=>by rw[ha _ _ hid rfl];simp only[if_pos h0,h1,Option.map_some,h2.1]⟩
    ·cases h
   ·cases h
  ·cases h
 |Po F xs=>
  simp only[ua,Option.bind_eq_some_iff] at h ⊢
  obtain⟨ps,h1,r,h2,h3⟩:=h
  split at h3
  ·rename_i h5
   simp only[Option.some.injEq,Prod.mk.injEq] at h3
   obtain⟨h3,h4⟩:=h3
   exact⟨h4.symm,fun H2 ha=>⟨ps,BO ha h1,r,h2,by rw[if_pos h5,h3]⟩⟩
  ·cases h3
 |Fb hh _ _ _ _ _=>cases hh <;> simp[sd.cls,rf.isLit,rf.zj] at hc
 |XU hh _=>cases hh <;> simp[sd.cls,rf.isLit,rf.zj] at hc
 |Jg hh _ _ _ _ _ _=>cases hh <;> simp[sd.cls,rf.isLit,rf.zj] at hc
 |append o hh _ _ _ _ _=>cases o <;> cases hh <;> simp[sd.cls,rf.zj] at hc
 |_=>simp[sd.cls] at hc
theorem qX {call:Xa} {e:Tr} {H H':List ba} {op:sd} {v:AV} (hc:op.cls=2) (h:ua call e H op=some (v,H')):Xr H H'∧Xr H' H:=by
 cases op with
 |Fb hh sz ag len z ps=>
  cases hh with
  |uq=>
   simp only[ua] at h
   cases hf:Am (xj z len) (ps.map fun p=>(p.1 * sz,sz,Qh e p.2)) with
   |none=>simp[hf] at h
   |some cs=>
    simp only[hf,Option.bind_some] at h
    split at h
    ·exact oC h
    ·cases h
  |lit=>simp[sd.cls,rf.isLit,rf.zj] at hc
  |own=>simp[sd.cls,rf.isLit,rf.zj] at hc
 |XU hh x=>
  cases hh with
  |uq=>
   simp only[ua] at h
   split at h
   ·exact oC h
   ·cases h
  |lit=>simp[sd.cls,rf.isLit,rf.zj] at hc
  |own=>simp[sd.cls,rf.isLit,rf.zj] at hc
 |Jg hh sz ag z b l c=>
  cases hh with
  |uq=>
   simp only[ua] at h
   cases hl:asInt (l.ev e) with
   |none=>simp[hl] at h
   |some l=>
    cases hcc:asInt (c.ev e) with
    |none=>simp[hl,hcc] at h
    |some c=>
     simp only[hl,hcc,Option.bind_some] at h
     split at h
     ·exact oC h
     ·cases h
  |lit=>simp[sd.cls,rf.isLit,rf.zj] at hc
  |own=>simp[sd.cls,rf.isLit,rf.zj] at hc
 |append o hh sz ag b s x=>
  cases o with
  |true=>simp[sd.cls] at hc
  |false=>
   simp only[ua,Ob,Bool.false_eq_true,if_false] at h
   split at h
   ·split at h
    ·rename_i hid
     simp only[Option.bind_eq_some_iff] at h
     obtain⟨ys,h1,h2⟩:=h
     split at h2
     ·simp only[Option.some.injEq,Prod.mk.injEq] at h2
      obtain⟨_,rfl⟩:=h2
      exact Xr.RU hid _ _ _
     ·cases h2
    ·cases h
   ·simp only[Option.bind_eq_some_iff] at h
    obtain⟨ys,h1,h2⟩:=h
    split at h2
    ·unfold Ao at h2
     split at h2
     ·simp only[Option.some.injEq,Prod.mk.injEq] at h2
      obtain⟨_,rfl⟩:=h2
      exact⟨Xr.refl _,Xr.refl _⟩
     ·split at h2
      ·simp only[Option.some.injEq,Prod.mk.injEq] at h2
       obtain⟨_,rfl⟩:=h2
       exact⟨Xr.refl _,Xr.refl _⟩
      ·simp only[Option.some.injEq,Prod.mk.injEq] at h2
       obtain⟨_,rfl⟩:=h2
       exact⟨Xr.push _ _,Xr.AI _ _ _ _⟩
      ·cases h2
    ·cases h2
   ·cases h
 |_=>simp[sd.cls] at hc
theorem GX {call:Xa} {e:Tr} {H H':List ba} {op:sd} {v:AV} (hc:op.cls=3) (h:ua call e H op=some (v,H')):Xr H H':=by
 cases op with
 |alloc z=>simp only[ua,Option.some.injEq,Prod.mk.injEq] at h;obtain⟨_,rfl⟩:=h;exact Xr.push _ _
 |box n x=>
  simp only[ua] at h
  split at h
  ·simp only[Option.some.injEq,Prod.mk.injEq] at h;obtain⟨_,rfl⟩:=h;exact Xr.push _ _
  ·cases h
 |Fb hh sz ag len z ps=>
  cases hh with
  |own=>
   simp only[ua] at h
   cases hf:Am (xj z len) (ps.map fun p=>(p.1 * sz,sz,Qh e p.2)) with
   |none=>simp[hf] at h
   |some cs=>
    simp only[hf,Option.bind_some] at h
    split at h
    ·exact Sz h
    ·cases h
  |lit=>simp[sd.cls,rf.isLit,rf.zj] at hc
  |uq=>simp[sd.cls,rf.isLit,rf.zj] at hc
 |XU hh x=>
  cases hh with
  |own=>
   simp only[ua] at h
   split at h
   ·exact Sz h
   ·cases h
  |lit=>simp[sd.cls,rf.isLit,rf.zj] at hc
  |uq=>simp[sd.cls,rf.isLit,rf.zj] at hc
 |Jg hh sz ag z b l c=>
  cases hh with
  |own=>
   simp only[ua] at h
   cases hl:asInt (l.ev e) with
   |none=>simp[hl] at h
   |some l=>
    cases hcc:asInt (c.ev e) with
    |none=>simp[hl,hcc] at h
    |some c=>
     simp only[hl,hcc,Option.bind_some] at h
     split at h
     ·exact Sz h
     ·cases h
  |lit=>simp[sd.cls,rf.isLit,rf.zj] at hc
  |uq=>simp[sd.cls,rf.isLit,rf.zj] at hc
 |append o hh _ _ _ _ _=>cases o <;> cases hh <;> simp[sd.cls,rf.zj] at hc
 |_=>simp[sd.cls] at hc
def iT (x y:Nat):Bool:=x==0||y==0||(x==1&&decide (y≤3))||(x==2&&y==1)
def qb.cls (o:qb):Nat:=if o.pr then 0 else o.op.cls
theorem pw {call:Xa} {e e':Tr} {H:List ba} {o:qb} (h:fX (fun n=>o.op.look n) e e'):wj call e H o=wj call e' H o:=by
 unfold wj
 rw[sy h,sy (H:=H) h]
theorem YI {H:List ba} {r:Option (AV×List ba)} {v:AV} {H':List ba} (h:ZV H r=some (v,H')):r=some (v,[])∧H'=H:=by
 unfold ZV at h
 split at h
 ·simp only[Option.some.injEq,Prod.mk.injEq] at h
  obtain⟨rfl,rfl⟩:=h
  exact⟨rfl,rfl⟩
 ·cases h
theorem aT {call:Xa} {e:Tr} {H H':List ba} {o:qb} {v:AV} (hc:o.cls=0) (h:wj call e H o=some (v,H')):H'=H∧∀ H2,wj call e H2 o=some (v,H2):=by
 unfold wj qb.cls at *
 cases hp:o.pr with
 |true=>
  simp only[hp,cond_true] at h ⊢
  obtain⟨h1,rfl⟩:=YI h
  exact⟨rfl,fun H2=>by rw[h1];rfl⟩
 |false=>simp only[hp,cond_false,Bool.false_eq_true,if_false] at h hc ⊢;exact gX hc h
theorem PT {call:Xa} {e:Tr} {H:List ba} {o:qb} (hc:o.cls≠0):wj call e H o=ua call e H o.op∧o.cls=o.op.cls:=by
 unfold wj qb.cls at *
 cases hp:o.pr with
 |true=>simp[hp] at hc
 |false=>simp
theorem CR {call:Xa} {e:Tr} {H H1 H2:List ba} {x y:qb} {v1 v2:AV} (hc:iT x.cls y.cls=true)
 (h1:wj call e H x=some (v1,H1)) (h2:wj call e H1 y=some (v2,H2)):
 ∃ H3,wj call e H y=some (v2,H3)∧wj call e H3 x=some (v1,H2):=by
 simp only[iT,Bool.or_eq_true,beq_iff_eq,Bool.and_eq_true,decide_eq_true_eq] at hc
 rcases hc with ((hx | hy) | ⟨hx,hy⟩) | ⟨hx,hy⟩
 ·obtain⟨rfl,h⟩:=aT hx h1
  exact⟨H2,h2,h H2⟩
 ·obtain⟨rfl,h⟩:=aT hy h2
  exact⟨H,h H,h1⟩
 ·have kx:=fun H=>PT (call:=call) (e:=e) (H:=H) (o:=x) (by omega)
  rw[(kx H).1] at h1
  rw[(kx H).2] at hx
  obtain⟨rfl,h⟩:=uV hx h1
  refine⟨H2,h2,?_⟩
  rw[(kx H2).1]
  refine h H2 ?_
  by_cases hy0:y.cls=0
  ·rw[(aT hy0 h2).1];exact Xr.refl _
  ·have ky:=PT (call:=call) (e:=e) (H:=H1) hy0
   rw[ky.1] at h2
   rw[ky.2] at hy hy0
   have:y.op.cls=1∨y.op.cls=2∨y.op.cls=3:=by omega
   rcases this with hy | hy | hy
   ·rw[(uV hy h2).1];exact Xr.refl _
   ·exact (qX hy h2).1
   ·exact GX hy h2
 ·have kx:=fun H=>PT (call:=call) (e:=e) (H:=H) (o:=x) (by omega)
  have ky:=fun H=>PT (call:=call) (e:=e) (H:=H) (o:=y) (by omega)
  rw[(kx H).1] at h1
  rw[(kx H).2] at hx
  rw[(ky H1).1] at h2
  rw[(ky H).2] at hy
  obtain⟨rfl,h⟩:=uV hy h2
  exact⟨H,by rw[(ky H).1];exact h H (qX hx h1).2,by rw[(kx H).1];exact h1⟩
end Go.AM
namespace Go.AM
open Go.RowKit
def DF (s s':St):Prop:=s.H=s'.H∧∀ t,s.env.get t=s'.env.get t
theorem DF.refl (s:St):DF s s:=⟨rfl,fun _=>rfl⟩
theorem DF.symm {s s':St} (h:DF s s'):DF s' s:=⟨h.1.symm,fun t=>(h.2 t).symm⟩
theorem DF.trans {s s' s'':St} (h:DF s s') (k:DF s' s''):DF s s'':=⟨h.1.trans k.1,fun t=>(h.2 t).trans (k.2 t)⟩
def qb.look (n:Nat) (o:qb):Bool:=o.op.look n||(match o.guard with | some (t,_)=>n==t | none=>false)
def Kz (d:Option Nat) (p:Nat→Bool):Bool:=
 match d with
 |some d=>p d
 |none=>false
def tG (x y:qb):Bool:=
 !Kz x.dst (fun d=>y.look d)&& !Kz y.dst (fun d=>x.look d)&& !Kz x.dst (fun d=>y.dst==some d)&&iT x.cls y.cls
theorem yr {e e':Tr} {g:Option (Nat×Bool)} (h:∀ t b,g=some (t,b)→e.get t=e'.get t):ig e g=ig e' g:=by
 cases g with
 |none=>rfl
 |some g=>obtain⟨t,b⟩:=g;simp only[ig,h t b rfl]
theorem iw (e:Tr) (d:Option Nat) (v:AV) (t:Nat):(eo e d v).get t=if d=some t then v else e.get t:=by
 cases d with
 |none=>simp[eo]
 |some d=>
  simp only[eo,Tr.aa,Option.some.injEq]
  by_cases h:t=d
  ·subst h;simp
  ·simp[h,Ne.symm h]
theorem PD {call:Xa} {o:qb} {e e':Tr} {H:List ba} (h:∀ n,o.look n=true→e.get n=e'.get n) {s1:St} (h1:Od call o ⟨e,H⟩=some s1):
 ∃ v,s1.env=eo e o.dst v∧Od call o ⟨e',H⟩=some ⟨eo e' o.dst v,s1.H⟩:=by
 have hw:ig e o.guard=ig e' o.guard:=yr fun t b hg=>h t (by simp[qb.look,hg])
 have ho:wj call e H o=wj call e' H o:=pw fun n hn=>h n (by simp[qb.look,hn])
 unfold Od at h1 ⊢
 simp only at h1 ⊢
 rw[← hw]
 cases hc:ig e o.guard with
 |none=>simp[hc,Fm] at h1
 |some b=>
  cases b with
  |true=>
   simp only[hc,Fm,jM] at h1 ⊢
   rw[← ho]
   cases hv:wj call e H o with
   |none=>simp[hv,uA] at h1
   |some r=>
    obtain⟨v,H'⟩:=r
    simp only[hv,uA,Option.some.injEq] at h1 ⊢
    subst h1
    exact⟨v,rfl,rfl⟩
  |false=>
   simp only[hc,Fm,Qx,Option.some.injEq] at h1 ⊢
   subst h1
   exact⟨_,rfl,rfl⟩
theorem CH {call:Xa} {o:qb} {s s' s1:St} (he:DF s s') (h:Od call o s=some s1):∃ s1',Od call o s'=some s1'∧DF s1 s1':=by
 obtain⟨e,H⟩:=s
 obtain⟨e',H'⟩:=s'
 obtain⟨h1,h2⟩:=he
 simp only at h1 h2
 subst h1
 obtain⟨v,hv,hh⟩:=PD (e':=e') (fun n _=>h2 n) h
 refine⟨_,hh,rfl,fun t=> ?_⟩
 simp only[hv,iw,h2]
theorem zI {call:Xa} {os:List qb}:∀ {s s' s1:St},DF s s'→Pf call os s=some s1→∃ s1',Pf call os s'=some s1'∧DF s1 s1':=by
 induction os with
 |nil=>intro s s' s1 he h;simp only[Pf,Option.some.injEq] at h ⊢;subst h;exact⟨s',rfl,he⟩
 |cons o os ih=>
  intro s s' s1 he h
  simp only[Pf] at h ⊢
  cases ho:Od call o s with
  |none=>simp[ho,Xq] at h
  |some s2=>
   simp only[ho,Xq] at h
   obtain⟨s2',h2,e2⟩:=CH he ho
   obtain⟨s1',h3,e3⟩:=ih e2 h
   exact⟨s1',by simp[h2,Xq,h3],e3⟩
theorem dp {call:Xa} {o:qb} {e:Tr} {H:List ba} {s1:St} (h:Od call o ⟨e,H⟩=some s1):
 (ig e o.guard=some true∧∃ v,wj call e H o=some (v,s1.H)∧s1.env=eo e o.dst v)∨
 (ig e o.guard=some false∧s1=⟨eo e o.dst (.pv (.oc [])),H⟩):=by
 unfold Od at h
 simp only at h
 cases hc:ig e o.guard with
 |none=>simp[hc,Fm] at h
 |some b=>
  cases b with
  |true=>
   simp only[hc,Fm,jM] at h
   cases hv:wj call e H o with
   |none=>simp[hv,uA] at h
   |some r=>
    obtain⟨v,H'⟩:=r
    simp only[hv,uA,Option.some.injEq] at h
    subst h
    exact .inl ⟨rfl,v,by simp,rfl⟩
  |false=>
   simp only[hc,Fm,Qx,Option.some.injEq] at h
   exact .inr ⟨rfl,h.symm⟩
theorem Uq {call:Xa} {o:qb} {e:Tr} {H H':List ba} {v:AV} (h:ig e o.guard=some true) (hv:wj call e H o=some (v,H')):
 Od call o ⟨e,H⟩=some ⟨eo e o.dst v,H'⟩:=by
 simp[Od,h,Fm,jM,hv,uA]
theorem zn {call:Xa} {o:qb} {e:Tr} {H:List ba} (h:ig e o.guard=some false):
 Od call o ⟨e,H⟩=some ⟨eo e o.dst (.pv (.oc [])),H⟩:=by
 simp[Od,h,Fm,Qx]
theorem rz {e:Tr} {x y:Option Nat} {v u:AV} (h:∀ d,x=some d→y≠some d) (t:Nat):(eo (eo e x v) y u).get t=(eo (eo e y u) x v).get t:=by
 simp only[iw]
 by_cases hx:x=some t
 ·have:=h t hx
  simp[hx,this]
 ·simp[hx]
theorem iQ {call:Xa} {x y:qb} {s s1 s2:St} (hc:tG x y=true) (h1:Od call x s=some s1) (h2:Od call y s1=some s2):
 ∃ s3 s4,Od call y s=some s3∧Od call x s3=some s4∧DF s2 s4:=by
 obtain⟨e,H⟩:=s
 simp only[tG,Bool.and_eq_true,Bool.not_eq_true'] at hc
 obtain⟨⟨⟨ca,cb⟩,cc⟩,cd⟩:=hc
 have ha:∀ d,x.dst=some d→y.look d=false:=fun d hd=>by simpa[Kz,hd] using ca
 have hb:∀ d,y.dst=some d→x.look d=false:=fun d hd=>by simpa[Kz,hd] using cb
 have hcc:∀ d,x.dst=some d→y.dst≠some d:=fun d hd he=>by simp[Kz,hd,he] at cc
 have lx:∀ (e:Tr) (u:AV) n,x.look n=true→(eo e y.dst u).get n=e.get n:=fun e u n hn=>by
  rw[iw]
  by_cases hd:y.dst=some n
  ·rw[hb n hd] at hn;cases hn
  ·simp[hd]
 have ly:∀ (e:Tr) (u:AV) n,y.look n=true→(eo e x.dst u).get n=e.get n:=fun e u n hn=>by
  rw[iw]
  by_cases hd:x.dst=some n
  ·rw[ha n hd] at hn;cases hn
  ·simp[hd]
 have wx:∀ (e:Tr) u,ig (eo e y.dst u) x.guard=ig e x.guard:=fun e u=>yr fun t b hg=>lx e u t (by simp[qb.look,hg])
 have wy:∀ (e:Tr) u,ig (eo e x.dst u) y.guard=ig e y.guard:=fun e u=>yr fun t b hg=>ly e u t (by simp[qb.look,hg])
 have ox:∀ (e:Tr) u H,wj call (eo e y.dst u) H x=wj call e H x:=fun e u H=>pw fun n hn=>lx e u n (by simp[qb.look,hn])
 have oy:∀ (e:Tr) u H,wj call (eo e x.dst u) H y=wj call e H y:=fun e u H=>pw fun n hn=>ly e u n (by simp[qb.look,hn])
 obtain⟨e1,H1⟩:=s1
 obtain⟨e2,H2⟩:=s2
 rcases dp h1 with⟨g1,v1,q1,r1⟩ | ⟨g1,r1⟩
 ·simp only at q1 r1
  subst r1
  rcases dp h2 with⟨g2,v2,q2,r2⟩ | ⟨g2,r2⟩
  ·simp only at q2 r2
   subst r2
   rw[wy] at g2
   rw[oy] at q2
   obtain⟨H3,k1,k2⟩:=CR cd q1 q2
   exact⟨_,_,Uq g2 k1,Uq (by rw[wx];exact g1) (by rw[ox];exact k2),rfl,fun t=>rz hcc t⟩
  ·injection r2 with r2 r3
   subst r2 r3
   rw[wy] at g2
   exact⟨_,_,zn g2,Uq (by rw[wx];exact g1) (by rw[ox];exact q1),rfl,fun t=>rz hcc t⟩
 ·injection r1 with r1 r3
  subst r1 r3
  rcases dp h2 with⟨g2,v2,q2,r2⟩ | ⟨g2,r2⟩
  ·simp only at q2 r2
   subst r2
   rw[wy] at g2
   rw[oy] at q2
   exact⟨_,_,Uq g2 q2,zn (by rw[wx];exact g1),rfl,fun t=>rz hcc t⟩
  ·injection r2 with r2 r3
   subst r2 r3
   rw[wy] at g2
   exact⟨_,_,zn g2,zn (by rw[wx];exact g1),rfl,fun t=>rz hcc t⟩
theorem jW {call:Xa} {y:qb} {rest:List qb}:∀ {pre:List qb} {s s':St},(∀ x∈pre,tG x y=true)→Pf call (pre++y::rest) s=some s'→
 ∃ s1 s'',Od call y s=some s1∧Pf call (pre++rest) s1=some s''∧DF s' s'':=by
 intro pre
 induction pre with
 |nil=>
  intro s s' _ h
  simp only[List.nil_append,Pf] at h ⊢
  cases ho:Od call y s with
  |none=>simp[ho,Xq] at h
  |some s1=>simp only[ho,Xq] at h;exact⟨s1,s',rfl,h,DF.refl _⟩
 |cons x pre ih=>
  intro s s' hc h
  simp only[List.cons_append,Pf] at h ⊢
  cases ho:Od call x s with
  |none=>simp[ho,Xq] at h
  |some s1=>
   simp only[ho,Xq] at h
   obtain⟨s2,s'',k1,k2,k3⟩:=ih (fun z hz=>hc z (by simp[hz])) h
   obtain⟨s3,s4,j1,j2,j3⟩:=iQ (hc x (by simp)) ho k1
   obtain⟨s5,i1,i2⟩:=zI j3 k2
   exact⟨s3,s5,j1,by simp[j2,Xq,i1],k3.trans i2⟩
def mark (D:Nat):Deferred:={target:= .collected D,args:= #[]}
def Marks (w w':World) (a a':Act):Prop:=∃ Ds:List Nat,a'.defers=Ds.map mark++a.defers∧Ds.Nodup∧∀ D∈Ds,w.heap.size≤D∧w'.heap[D]? =some (.deferred (some []))
theorem Marks.same {w w':World} {a a':Act} (h:a'.defers=a.defers):Marks w w' a a':=⟨[],h,.nil,fun _ h=>by cases h⟩
theorem Marks.trans {B0:Qf} {w w' w'':World} {a a' a'':Act} (h:Marks w w' a a') (k:Marks w' w'' a' a'') (hb:Ig B0 w' w'') (hs:w.heap.size≤w'.heap.size):Marks w w'' a a'':=by
 obtain⟨D1,e1,n1,k1⟩:=h
 obtain⟨D2,e2,n2,k2⟩:=k
 refine⟨D2++D1,by rw[e2,e1];simp,List.nodup_append.2 ⟨n2,n1,fun x hx y hy e=> ?_⟩,fun D hD=> ?_⟩
 ·subst e
  have:=bl (k1 x hy).2
  have:=(k2 x hx).1
  omega
 ·rcases List.mem_append.1 hD with h | h
  ·exact⟨Nat.le_trans hs (k2 D h).1,(k2 D h).2⟩
  ·exact⟨(k1 D h).1,hb.Te _ _ (k1 D h).2 rfl⟩
def gI:Option Nat→Fence
 |none=>Fence.wide
 |some l=>Fence.wide.inRound l
theorem DR (ro:Option Nat) (f:FuncId):(gI ro).fn f:=by cases ro <;> trivial
theorem vG (ro:Option Nat):(gI ro).depth=none:=by cases ro <;> rfl
theorem UL {P:Program} {n:Nat} {f:FuncId} {args:Array Value} {w:World} {R:Ending→World→Prop} (ro:Option Nat) (h:Calls P f args w R):CallsIn (gI ro) n P f args w R:=by
 cases ro with
 |none=>exact callsIn_wide.2 h
 |some l=>exact (callsIn_wide (n:=n)).2 h
theorem UN {P:Program} {n:Nat} {row:String} {args:Array Value} {w:World} {R:Value→World→Prop} (ro:Option Nat) (h:Rows P row args w R):RowsIn (gI ro) n P row args w R:=by
 have:RowsIn Fence.wide n P row args w R:=fun c cs _=>let ⟨v,w',r,s⟩:=h c cs;⟨v,w',r,stepsIn_wide.2 s⟩
 cases ro with
 |none=>exact this
 |some l=>exact this
theorem sD {P:Program} {n:Nat} {o:Oper} {a:Act} {w:World} {next:Act→World→Prop} {Q:Exit→Act→World→Prop} (ro:Option Nat) (hd:∀ c,o.op≠ .defer c) (h:o.wp P a w next Q):o.wpIn (gI ro) n P a w next Q:=by
 refine⟨fun f _=>DR ro f,?_⟩
 rw[Oper.semAt_eq _ _ _ hd]
 unfold Oper.wp at h
 generalize (execOp a.eval o).run P w=r at h ⊢
 cases r with
 |ok x w'=>
  cases x <;> simp only[Oper.upon,Oper.uponIn] at h ⊢ <;> first
   |exact h
   |exact⟨fun hx=>by (rw[vG] at hx;cases hx),UL ro h⟩
   |exact⟨fun hx=>by (rw[vG] at hx;cases hx),UN ro h⟩
   |exact h.elim
 |halt x w'=>cases x <;> simp only[Oper.upon,Oper.uponIn] at h ⊢ <;> exact h
structure Xl (fo:Nat→FuncId) (B0:Qf) (w:World) (R:Rd) (φ:Pl) (H:List ba) (a:Act) (w':World) (R':Rd) (φ':Pl) (s':St) (a':Act):Prop where
 rel:pc fo B0 w' R' φ' s'.H
 env:Ei fo (K R' φ' s'.H) s'.env a'
 mono:∀ x u,K R φ H x u→K R' φ' s'.H x u
 below:Ig B0 w w'
 size:a'.tmps.size=a.tmps.size
 defers:Marks w w' a a'
section
variable {P:Program} {fo:Nat→FuncId} {B0:Qf} {call:Xa}
theorem Xl.refl {w:World} {R:Rd} {φ:Pl} {s:St} {a:Act} (hS:pc fo B0 w R φ s.H) (hE:Ei fo (K R φ s.H) s.env a):Xl fo B0 w R φ s.H a w R φ s a:=
 ⟨hS,hE,fun _ _ h=>h,Ig.refl _ _,rfl,.same rfl⟩
theorem Xl.trans {w w' w'':World} {R R' R'':Rd} {φ φ' φ'':Pl} {H:List ba} {s' s'':St} {a a' a'':Act}
 (h:Xl fo B0 w R φ H a w' R' φ' s' a') (k:Xl fo B0 w' R' φ' s'.H a' w'' R'' φ'' s'' a''):Xl fo B0 w R φ H a w'' R'' φ'' s'' a'':=
 ⟨k.rel,k.env,fun x u hx=>k.mono _ _ (h.mono _ _ hx),h.below.trans k.below,k.size.trans h.size,h.defers.trans k.defers k.below h.below.size⟩
theorem Xl.eqv {w w':World} {R R':Rd} {φ φ':Pl} {H:List ba} {s' s'':St} {a a':Act} (h:Xl fo B0 w R φ H a w' R' φ' s' a') (he:DF s' s''):Xl fo B0 w R φ H a w' R' φ' s'' a':=by
 obtain⟨e1,e2⟩:=he
 exact⟨e1 ▸ h.rel,fun t=>by rw[← e2,←e1];exact h.env t,e1 ▸ h.mono,h.below,h.size,h.defers⟩
theorem pc.drew {w w':World} {R:Rd} {φ:Pl} {H:List ba} (h:pc fo B0 w R φ H) (hw:w'.heap=w.heap):pc fo B0 w' R φ H:=by
 have hb:∀ b arr,Vw w b arr→Vw w' b arr:=fun b arr hb=>hb.Te (by rw[hw])
 refine⟨by rw[hw];exact h.low,fun b o v hv=>by rw[← h.sub b o v hv];simp[World.cell?,hw],fun id o ho=> ?_,h.inj,h.Pn,fun k hk=>by rw[hw];exact h.slt k hk,h.free⟩
 have:=h.obj id o ho
 cases o with
 |box cells=>exact⟨this.1,this.2.1,this.2.2.1,this.2.2.2.imp fun arr q=>⟨hb _ _ q.1,q.2⟩⟩
 |seq sz ag cells fl nl=>exact⟨this.1,this.2.1,this.2.2.1,this.2.2.2.1,fun e=>⟨(this.2.2.2.2 e).1,(this.2.2.2.2 e).2.1,(this.2.2.2.2 e).2.2.imp fun arr q=>⟨hb _ _ q.1,q.2⟩⟩⟩
 |tok sz n nl=>exact⟨this.1,this.2.1,fun e=>⟨(this.2.2 e).1,(this.2.2 e).2.1,(this.2.2 e).2.2.imp fun arr q=>⟨hb _ _ q.1,q.2⟩⟩⟩
 |map es=>
  obtain⟨h1,h2,ents,clk,h3,h4⟩:=this
  exact⟨h1,h2,ents,clk,by rw[hw];exact h3,h4⟩
 |dead=>trivial
theorem Ei.put {k:AV→Value→Prop} {e:Tr} {a:Act} (h:Ei fo k e a) (d:Option Nat) (hd:∀ t,d=some t→t < a.tmps.size) {v:AV} {u:Value} (hv:Kc fo k v u):
 Ei fo k (eo e d v) (a.put d u):=by
 intro t
 rw[iw]
 cases d with
 |none=>simp only[reduceCtorEq,if_false];exact h t
 |some d=>
  by_cases ht:d=t
  ·subst ht
   simp only[if_true,Act.put]
   rw[Array.getD_eq_getD_getElem?,Array.getElem?_setIfInBounds_self_of_lt (hd d rfl)]
   exact hv
  ·simp only[Option.some.injEq,ht,if_false,Act.put]
   rw[Array.getD_eq_getD_getElem?,Array.getElem?_setIfInBounds_ne ht,←Array.getD_eq_getD_getElem?]
   exact h t
def Hx (nt:Nat) (ops:Array Oper) (o:Oper) (ao:qb):Bool:=
 o.dst==ao.dst&&(match o.dst with | some d=>decide (d < nt) | none=>true)&&
 (match o.guard,ao.guard with
 |none,none=>true
 |some (g,want),some (t,want')=>want==want'&&((ops[g]?).bind (·.dst))==some t
 |_,_=>false)
def zW (P:Program) (fo:Nat→FuncId) (B0:Qf) (call:Xa) (o:Oper) (ao:qb):Prop:=
 ∀ (w:World) (R:Rd) (φ:Pl) (e:Tr) (H H':List ba) (a:Act) (v:AV),pc fo B0 w R φ H→Ei fo (K R φ H) e a→wj call e H ao=some (v,H')→nz P fo B0 o a w R φ H v H'
theorem EG {nt:Nat} {ops:Array Oper} {o:Oper} {ao:qb} (hk:Hx nt ops o ao=true) {k:AV→Value→Prop} {R:Rd} {φ:Pl} {H:List ba} {e:Tr} {a:Act} (hE:Ei fo (K R φ H) e a) {b:Bool}
 (h:ig e ao.guard=some b):Region.wanted o (yielded ops a.tmps)=b:=by
 simp only[Hx,Bool.and_eq_true] at hk
 obtain⟨_,hg⟩:=hk
 unfold Region.wanted
 cases h1:o.guard with
 |none=>
  cases h2:ao.guard with
  |none=>simp[h2,ig] at h;simp[h]
  |some g=>simp[h1,h2] at hg
 |some g=>
  obtain⟨g,want⟩:=g
  cases h2:ao.guard with
  |none=>simp[h1,h2] at hg
  |some g'=>
   obtain⟨t,want'⟩:=g'
   simp only[h1,h2,Bool.and_eq_true,beq_iff_eq] at hg
   obtain⟨rfl,hg⟩:=hg
   have ht:=hE t
   simp only[h2,ig] at h
   simp only[yielded,hg,Option.bind_some]
   split at h
   ·rename_i b' hb
    rw[hb] at ht
    have:=ht.Qb
    injection h with h
    cases hv:a.tmps[t]? with
    |none=>rw[Array.getD_eq_getD_getElem?,hv] at this;cases this
    |some v=>
     rw[Array.getD_eq_getD_getElem?,hv] at this
     simp only[Option.getD_some] at this
     cases this
     simp only[← h]
     cases b' <;> cases want <;> rfl
   ·rename_i hb
    rw[hb] at ht
    have:=ht.Qb
    injection h with h
    subst h
    cases hv:a.tmps[t]? with
    |none=>simp
    |some v=>
     rw[Array.getD_eq_getD_getElem?,hv] at this
     simp only[Option.getD_some] at this
     cases this
     simp
   ·cases h
theorem xJ {nt:Nat} {ops:Array Oper} {i:Nat} {o:Oper} {ao:qb} (hi:ops[i]? =some o) (hk:Hx nt ops o ao=true) (ho:zW P fo B0 call o ao) (hnd:∀ c,o.op≠ .defer c) (ro:Option Nat) {n:Nat}
 {w:World} {R:Rd} {φ:Pl} {s s1:St} {a:Act} (hS:pc fo B0 w R φ s.H) (hE:Ei fo (K R φ s.H) s.env a) (hn:a.tmps.size=nt) (h:Od call ao s=some s1)
 {Q:Exit→Act→World→Prop} {next:Act→World→Prop} (hq:∀ a' w' R' φ',Xl fo B0 w R φ s.H a w' R' φ' s1 a'→next a' w'):wpOpIn (gI ro) n P ops Q i next a w:=by
 have hk':=hk
 simp only[Hx,Bool.and_eq_true,beq_iff_eq] at hk'
 obtain⟨⟨hd,hlt⟩,_⟩:=hk'
 have hd':∀ t,ao.dst=some t→t < a.tmps.size:=fun t ht=>by rw[hd,ht] at hlt;rw[hn];simpa using hlt
 have sz:∀ (a:Act) (d:Option Nat) (u:Value),(a.put d u).tmps.size=a.tmps.size:=fun a d u=>by cases d <;> simp[Act.put]
 have df:∀ (a:Act) (d:Option Nat) (u:Value),(a.put d u).defers=a.defers:=fun a d u=>by cases d <;> rfl
 obtain⟨e,H⟩:=s
 unfold wpOpIn
 simp only[hi]
 rcases dp h with⟨g,v,q,r⟩ | ⟨g,r⟩
 ·rw[EG (k:=fun _ _=>True) hk hE g]
  simp only[if_true]
  refine sD ro hnd (ho w R φ e H s1.H a v hS hE q next Q fun v' w' R' φ' h1 h2 h3 h4=>hq _ _ R' φ' ⟨h1,?_,h3,h4,sz _ _ _,.same (df _ _ _)⟩)
  rw[r,hd]
  exact (hE.mono h3).put ao.dst hd' h2
 ·rw[EG (k:=fun _ _=>True) hk hE g]
  simp only[Bool.false_eq_true,if_false]
  subst r
  refine⟨fun f _=>DR ro f,hq _ _ R φ ⟨hS,?_,fun _ _ h=>h,Ig.refl _ _,sz _ _ _,.same (df _ _ _)⟩⟩
  rw[hd]
  exact hE.put ao.dst hd' (.atom _ _ (show Ta R _ _ from .oc _ _ .nil))
def eI (aops:List qb) (L:List Nat):List qb:=L.filterMap (aops[·]?)
theorem gJ {aops:List qb} {i:Nat} {ao:qb} (h:aops[i]? =some ao) (L:List Nat):eI aops (i::L)=ao::eI aops L:=by simp[eI,h]
theorem Bx (aops:List qb) (L M:List Nat):eI aops (L++M)=eI aops L++eI aops M:=by simp[eI]
theorem oG (aops:List qb):eI aops (List.range aops.length)=aops:=by
 suffices ∀ n,n≤aops.length→eI aops (List.range n)=aops.take n by simpa using this aops.length (Nat.le_refl _)
 intro n
 induction n with
 |zero=>intro _;simp[eI]
 |succ n ih=>
  intro h
  rw[List.range_succ,Bx,ih (by omega),List.take_add_one]
  simp[eI,List.getElem?_eq_getElem (show n < aops.length by omega)]
structure qK (P:Program) (fo:Nat→FuncId) (B0:Qf) (call:Xa) (nt:Nat) (ops:Array Oper) (aops:List qb):Prop where
 len:aops.length=ops.size
 slot:∀ (i:Nat) (o:Oper) (ao:qb),ops[i]? =some o→aops[i]? =some ao→Hx nt ops o ao=true
 kX:∀ (i:Nat) (o:Oper) (ao:qb),ops[i]? =some o→aops[i]? =some ao→zW P fo B0 call o ao
 nd:∀ (i:Nat) (o:Oper) (ao:qb),ops[i]? =some o→aops[i]? =some ao→∀ c,o.op≠ .defer c
theorem oU (ro:Option Nat) {n:Nat} {nt:Nat} {ops:Array Oper} {aops:List qb} (hs:qK P fo B0 call nt ops aops) {Q:Exit→Act→World→Prop}:∀ (L:List Nat),(∀ i∈L,i < ops.size)→∀ {w:World} {R:Rd} {φ:Pl} {s s':St} {a:Act},
 pc fo B0 w R φ s.H→Ei fo (K R φ s.H) s.env a→a.tmps.size=nt→Pf call (eI aops L) s=some s'→
 (∀ a' w' R' φ',Xl fo B0 w R φ s.H a w' R' φ' s' a'→Q .normal a' w')→wpOpsIn (gI ro) n P ops Q L a w:=by
 intro L
 induction L with
 |nil=>
  intro _ w R φ s s' a hS hE hn h hq
  simp only[eI,List.filterMap_nil,Pf,Option.some.injEq] at h
  subst h
  exact hq _ _ R φ (.refl hS hE)
 |cons i L ih=>
  intro hL w R φ s s' a hS hE hn h hq
  have hi:i < ops.size:=hL i (by simp)
  have h1:ops[i]? =some ops[i]:=Array.getElem?_eq_getElem hi
  have h2:aops[i]? =some (aops[i]'(by rw[hs.len];exact hi)):=List.getElem?_eq_getElem _
  rw[gJ h2,Pf] at h
  cases ho:Od call (aops[i]'(by rw[hs.len];exact hi)) s with
  |none=>simp[ho,Xq] at h
  |some s1=>
   simp only[ho,Xq] at h
   rw[wpOpsIn_cons]
   refine xJ h1 (hs.slot _ _ _ h1 h2) (hs.kX _ _ _ h1 h2) (hs.nd _ _ _ h1 h2) ro hS hE hn ho fun a' w' R' φ' g=> ?_
   exact ih (fun j hj=>hL j (by simp[hj])) g.rel g.env (g.size.trans hn) h fun a'' w'' R'' φ'' g'=>hq _ _ _ _ (g.trans g')
theorem oM (ro:Option Nat) {n:Nat} {nt:Nat} {id:Nat} {ops:Array Oper} {aops:List qb} (hs:qK P fo B0 call nt ops aops) {Q:Exit→Act→World→Prop} {w:World} {R:Rd} {φ:Pl} {s s':St} {a:Act}
 (hS:pc fo B0 w R φ s.H) (hE:Ei fo (K R φ s.H) s.env a) (hn:a.tmps.size=nt) (h:Pf call aops s=some s')
 (hq:∀ a' w' R' φ',Xl fo B0 w R φ s.H a w' R' φ' s' a'→Q .normal a' w'):(Code.region id ops false).wpIn (gI ro) n P Q a w:=
 wpIn_region (oU ro hs _ (fun i hi=>List.mem_range.1 hi) hS hE hn (by rw[← hs.len,oG];exact h) hq)
def NL (ops:Array Oper):Nat→Nat→Nat→Bool
 |0,_,_=>false
 |f+1,j,i=>
  match ops[i]? with
  |some o=>o.after.toList.any fun e=>Region.binds .any e&&(e.on==j||(decide (j < e.on)&&NL ops f j e.on))
  |none=>false
def uL (ops:Array Oper) (aops:List qb):Bool:=
 (List.range ops.size).all fun i=>
  (match ops[i]? with | some o=>o.after.toList.all fun e=> !Region.binds .any e||decide (e.on < i) | none=>true)&&
  (List.range i).all fun j=>
   (match aops[j]?,aops[i]? with
   |some x,some y=>tG x y
   |_,_=>false)||NL ops 8 j i
def Lt (ops:Array Oper) (listed:Array Bool):List Nat:=(List.range ops.size).filter fun i=> !listed.getD i true
def OW (ops:Array Oper) (listed:Array Bool):Prop:=∀ f j k,NL ops f j k=true→listed.getD k true=true→k < ops.size→listed.getD j true=true
theorem Jz {listed:Array Bool} {i:Nat} (h:i < listed.size):listed.getD i true=listed.getD i false:=by
 simp[Array.getD_eq_getD_getElem?,h]
theorem GV (ro:Option Nat) {nn:Nat} {nt:Nat} {ops:Array Oper} {aops:List qb} (hs:qK P fo B0 call nt ops aops) (hd:uL ops aops=true) {Q:Exit→Act→World→Prop}:∀ (n:Nat) (listed:Array Bool) {w:World} {R:Rd} {φ:Pl} {s s' s'':St} {a:Act},
 (Lt ops listed).length≤n→listed.size=ops.size→OW ops listed→pc fo B0 w R φ s.H→Ei fo (K R φ s.H) s.env a→a.tmps.size=nt→
 Pf call (eI aops (Lt ops listed)) s=some s''→DF s' s''→
 (∀ a' w' R' φ',Xl fo B0 w R φ s.H a w' R' φ' s' a'→Q .normal a' w')→wpAnyIn (gI ro) nn P .any ops Q n listed a w:=by
 have hdd:∀ i,i < ops.size→(∀ o,ops[i]? =some o→∀ e∈o.after,Region.binds .any e=true→e.on < i)∧∀ j,j < i→(∀ x y,aops[j]? =some x→aops[i]? =some y→tG x y=true)∨NL ops 8 j i=true:=by
  intro i hi
  have:=List.all_eq_true.1 hd i (List.mem_range.2 hi)
  simp only[Bool.and_eq_true] at this
  refine⟨fun o ho e he hb=> ?_,fun j hj=> ?_⟩
  ·have h1:=this.1
   simp only[ho] at h1
   have:=List.all_eq_true.1 h1 e (by simpa using he)
   simpa[hb] using this
  ·have h2:=List.all_eq_true.1 this.2 j (List.mem_range.2 hj)
   simp only[Bool.or_eq_true] at h2
   rcases h2 with h2 | h2
   ·left;intro x y hx hy;simpa[hx,hy] using h2
   ·exact .inr h2
 have empty:∀ (listed:Array Bool),listed.size=ops.size→Region.ready .any ops listed=[]→Lt ops listed=[]:=by
  intro listed hsz hr
  cases hrem:Lt ops listed with
  |nil=>rfl
  |cons i rest=>
   exfalso
   have hsorted:(Lt ops listed).Pairwise (· < ·):=List.Pairwise.filter _ List.pairwise_lt_range
   have hmem:i∈Lt ops listed:=by rw[hrem];simp
   have him:=List.mem_filter.1 hmem
   have hi:=List.mem_range.1 him.1
   have h1:ops[i]? =some ops[i]:=Array.getElem?_eq_getElem hi
   have:i∈Region.ready .any ops listed:=by
    rw[mem_ready]
    refine⟨by simpa using him.2,_,h1,fun e he hb=> ?_⟩
    have hlt:=(hdd i hi).1 _ h1 e he hb
    rw[← Jz (by omega)]
    cases hg:listed.getD e.on true with
    |true=>rfl
    |false=>
     exfalso
     have:e.on∈Lt ops listed:=List.mem_filter.2 ⟨List.mem_range.2 (by omega),by simp[hg]⟩
     rw[hrem] at this hsorted
     rcases List.mem_cons.1 this with he' | he'
     ·omega
     ·have:=(List.pairwise_cons.1 hsorted).1 _ he';omega
   rw[hr] at this
   cases this
 have done:∀ (listed:Array Bool) {w:World} {R:Rd} {φ:Pl} {s s' s'':St} {a:Act},listed.size=ops.size→pc fo B0 w R φ s.H→Ei fo (K R φ s.H) s.env a→
  Pf call (eI aops (Lt ops listed)) s=some s''→DF s' s''→(∀ a' w' R' φ',Xl fo B0 w R φ s.H a w' R' φ' s' a'→Q .normal a' w')→Region.ready .any ops listed=[]→Q .normal a w:=by
  intro listed w R φ s s' s'' a hsz hS hE hev he hq hr
  rw[empty listed hsz hr] at hev
  simp only[eI,List.filterMap_nil,Pf,Option.some.injEq] at hev
  subst hev
  exact hq _ _ R φ ((Xl.refl hS hE).eqv he.symm)
 intro n
 induction n with
 |zero=>
  intro listed w R φ s s' s'' a hlen hsz hcl hS hE hn hev he hq
  have hnil:Lt ops listed=[]:=List.eq_nil_of_length_eq_zero (by omega)
  have hr:Region.ready .any ops listed=[]:=by
   cases hr:Region.ready .any ops listed with
   |nil=>rfl
   |cons i rest=>
    exfalso
    have hi:i∈Region.ready .any ops listed:=by rw[hr];simp
    obtain⟨h0,o,ho,_⟩:=mem_ready.1 hi
    have:i∈Lt ops listed:=List.mem_filter.2 ⟨List.mem_range.2 (Array.getElem?_eq_some_iff.1 ho).1,by simp[h0]⟩
    rw[hnil] at this;cases this
  exact⟨hr,done listed hsz hS hE hev he hq hr⟩
 |succ n ih=>
  intro listed w R φ s s' s'' a hlen hsz hcl hS hE hn hev he hq
  refine⟨done listed hsz hS hE hev he hq,fun i hi=> ?_⟩
  obtain⟨h0,o,ho,haft⟩:=mem_ready.1 hi
  have hilt:i < ops.size:=(Array.getElem?_eq_some_iff.1 ho).1
  have hao:aops[i]? =some (aops[i]'(by rw[hs.len];exact hilt)):=List.getElem?_eq_getElem _
  generalize aops[i]'(by rw[hs.len];exact hilt)=ao at hao
  have hmem:i∈Lt ops listed:=List.mem_filter.2 ⟨List.mem_range.2 hilt,by simp[h0]⟩
  have hsorted:(Lt ops listed).Pairwise (· < ·):=List.Pairwise.filter _ List.pairwise_lt_range
  obtain⟨pre,post,hsplit⟩:=List.append_of_mem hmem
  rw[hsplit] at hsorted
  rw[List.pairwise_append] at hsorted
  obtain⟨_,hs2,hs3⟩:=hsorted
  have hrem':Lt ops (listed.setIfInBounds i true)=pre++post:=by
   have:Lt ops (listed.setIfInBounds i true)=(Lt ops listed).filter (fun j=>decide (j≠i)):=by
    unfold Lt
    rw[List.filter_filter]
    apply List.filter_congr
    intro j hj
    by_cases hji:j=i
    ·subst hji
     have:(listed.setIfInBounds j true).getD j true=true:=by
      rw[Array.getD_eq_getD_getElem?,Array.getElem?_setIfInBounds_self_of_lt (by omega)];rfl
     simp[this]
    ·rw[getD_set_ne true (Ne.symm hji)];simp[hji]
   rw[this,hsplit,List.filter_append,List.filter_cons]
   simp only[ne_eq,not_true_eq_false,decide_false,Bool.false_eq_true,if_false]
   rw[List.filter_eq_self.2 fun j hj=>by have:=hs3 j hj i (by simp);simp;omega,
    List.filter_eq_self.2 fun j hj=>by have:=(List.pairwise_cons.1 hs2).1 j hj;simp;omega]
  have hcalm:∀ x∈eI aops pre,tG x ao=true:=by
   intro x hx
   simp only[eI,List.mem_filterMap] at hx
   obtain⟨j,hj,hxj⟩:=hx
   have hji:j < i:=hs3 j hj i (by simp)
   rcases (hdd i hilt).2 j hji with h | h
   ·exact h x ao hxj hao
   ·exfalso
    have hjmem:j∈Lt ops listed:=by rw[hsplit];simp[hj]
    have hj0:listed.getD j true=false:=by simpa using (List.mem_filter.1 hjmem).2
    rw[show (8:Nat)=7+1 from rfl] at h
    simp only[NL,ho] at h
    obtain⟨ed,hed,hb⟩:=List.any_eq_true.1 h
    simp only[Bool.and_eq_true,Bool.or_eq_true,beq_iff_eq,decide_eq_true_eq] at hb
    obtain⟨hb1,hb2⟩:=hb
    have hl:=haft ed (by simpa using hed) hb1
    have hlt:=(hdd i hilt).1 o ho ed (by simpa using hed) hb1
    have hl':listed.getD ed.on true=true:=by rw[Jz (by omega)];exact hl
    rcases hb2 with rfl | ⟨_,hb2⟩
    ·rw[hl'] at hj0;cases hj0
    ·rw[hcl 7 j ed.on hb2 hl' (by omega)] at hj0;cases hj0
  rw[hsplit,Bx,gJ hao] at hev
  obtain⟨s1,s2,k1,k2,k3⟩:=jW hcalm hev
  refine xJ ho (hs.slot _ _ _ ho hao) (hs.kX _ _ _ ho hao) (hs.nd _ _ _ ho hao) ro hS hE hn k1 fun a' w' R' φ' g=> ?_
  refine ih (listed.setIfInBounds i true) (s':=s') (s'':=s2) ?_ (by simp[hsz]) ?_ g.rel g.env (g.size.trans hn) (by rw[hrem',Bx];exact k2) (he.trans k3) fun a'' w'' R'' φ'' g'=>hq _ _ _ _ (g.trans g')
  ·rw[hrem'];rw[hsplit] at hlen;simp at hlen ⊢;omega
  ·intro f j k hanc hk hklt
   by_cases hji:j=i
   ·subst hji
    rw[Array.getD_eq_getD_getElem?,Array.getElem?_setIfInBounds_self_of_lt (by omega)];rfl
   rw[getD_set_ne true (Ne.symm hji)]
   by_cases hki:k=i
   ·subst hki
    cases f with
    |zero=>simp[NL] at hanc
    |succ f=>
     simp only[NL,ho] at hanc
     obtain⟨ed,hed,hb⟩:=List.any_eq_true.1 hanc
     simp only[Bool.and_eq_true,Bool.or_eq_true,beq_iff_eq,decide_eq_true_eq] at hb
     obtain⟨hb1,hb2⟩:=hb
     have hl:=haft ed (by simpa using hed) hb1
     have hlt:=(hdd k hilt).1 o ho ed (by simpa using hed) hb1
     have hl':listed.getD ed.on true=true:=by rw[Jz (by omega)];exact hl
     rcases hb2 with rfl | ⟨_,hb2⟩
     ·exact hl'
     ·exact hcl f j ed.on hb2 hl' (by omega)
   ·rw[getD_set_ne true (Ne.symm hki)] at hk
    exact hcl f j k hanc hk hklt
theorem cJ (ro:Option Nat) {n:Nat} {nt:Nat} {id:Nat} {ops:Array Oper} {aops:List qb} (hm:P.follows .mixedOrders=true) (hs:qK P fo B0 call nt ops aops) (hd:uL ops aops=true) {Q:Exit→Act→World→Prop} {w:World} {R:Rd} {φ:Pl} {s s':St} {a:Act}
 (hS:pc fo B0 w R φ s.H) (hE:Ei fo (K R φ s.H) s.env a) (hn:a.tmps.size=nt) (h:Pf call aops s=some s')
 (hq:∀ a' w' R' φ',Xl fo B0 w R φ s.H a w' R' φ' s' a'→Q .normal a' w'):(Code.region id ops true).wpIn (gI ro) n P Q a w:=by
 have hrem:Lt ops (Array.replicate ops.size false)=List.range ops.size:=by
  unfold Lt
  apply List.filter_eq_self.2
  intro i hi
  rw[List.mem_range] at hi
  simp[Array.getD_eq_getD_getElem?,hi]
 refine wpIn_region_any hm (GV ro hs hd ops.size _ (s':=s') (s'':=s') (s:=s) (R:=R) (φ:=φ) (by rw[hrem];simp) (by simp) ?_ (hS.drew rfl) hE hn ?_ (DF.refl _) ?_)
 ·intro f j k _ hk hlt
  simp[Array.getD_eq_getD_getElem?,hlt] at hk
 ·rw[hrem,←hs.len,oG];exact h
 ·intro a' w' R' φ' g
  exact hq _ _ _ _ ⟨g.rel,g.env,g.mono,Ig.trans ⟨(RowKit.Below.refl _ w).drew,fun _ _ h _=>h,fun _ _=>rfl⟩ g.below,g.size,g.defers⟩
end
end Go.AM
namespace Go.AM
open Go.RowKit
section
variable {P:Program} {fo:Nat→FuncId} {B0:Qf}
def Rw (w:World):Rd:=fun b o=>w.cell? ⟨b,o,none⟩
theorem qA {α β:Type} {f:α→Option β}:∀ {l:List α} {r:List β},Pa f l=some r→r.length=l.length∧∀ (i:Nat) (x:α),l[i]? =some x→∃ y,r[i]? =some y∧f x=some y:=by
 intro l
 induction l with
 |nil=>intro r h;simp[Pa] at h;subst h;exact⟨rfl,fun i x h=>by simp at h⟩
 |cons a l ih=>
  intro r h
  simp only[Pa,Option.bind_eq_some_iff,Option.some.injEq] at h
  obtain⟨b,h1,bs,h2,rfl⟩:=h
  obtain⟨k1,k2⟩:=ih h2
  refine⟨by simp[k1],fun i x hx=> ?_⟩
  cases i with
  |zero=>simp at hx;subst hx;exact⟨b,rfl,h1⟩
  |succ i=>simpa using k2 i x (by simpa using hx)
theorem KR {H:List ba} {d:Nat} {v:AV} {p:PV} (h1:v.one=true) (h:Vb H d v=some p):XE p=true:=by
 cases v with
 |pv q=>simp[Vb] at h;subst h;exact h1
 |uq id nl sz es=>simp[Vb] at h;subst h;cases nl <;> rfl
 |ptr id off=>
  cases d with
  |zero=>simp[Vb] at h
  |succ d=>
   simp only[Vb] at h
   split at h
   ·simp only[Option.map_eq_some_iff] at h;obtain⟨ps,_,rfl⟩:=h;rfl
   ·cases h
 |own id len=>
  cases d with
  |zero=>simp[Vb] at h
  |succ d=>
   simp only[Vb] at h
   split at h
   ·split at h
    ·rename_i nl _ _
     cases nl with
     |true=>simp at h;subst h;rfl
     |false=>simp only[Bool.false_eq_true,if_false,Option.map_eq_some_iff] at h;obtain⟨ps,_,rfl⟩:=h;rfl
    ·cases h
   ·cases h
 |Fc=>cases d <;> simp[Vb] at h
 |Gk=>cases d <;> simp[Vb] at h
 |mp=>cases d <;> simp[Vb] at h
 |undef=>cases d <;> simp[Vb] at h
 |agg=>simp[AV.one] at h1
 |oc=>simp[AV.one] at h1
theorem SO {H:List ba} {d:Nat} {cs:List AV} {ps:List PV} (h1:cs.all AV.one=true) (h:Pa (Vb H d) cs=some ps):∀ p∈ps,XE p=true:=by
 obtain⟨k1,k2⟩:=qA h
 intro p hp
 obtain⟨i,hi⟩:=List.mem_iff_getElem?.1 hp
 have hlt:=getElem?_lt hi
 have hx:cs[i]? =some (cs[i]'(by omega)):=List.getElem?_eq_getElem _
 obtain⟨y,hy1,hy2⟩:=k2 i _ hx
 rw[hi] at hy1;injection hy1 with hy1;subst hy1
 exact KR (List.all_eq_true.1 h1 _ (List.getElem_mem _)) hy2
theorem lI {w:World} {R Q:Rd} {φ:Pl} {H:List ba} (hS:pc fo B0 w R φ H) (hsub:Sub R Q) (hQ:∀ b o v,B0.n≤b→w.cell? ⟨b,o,none⟩=some v→Q b o=some v):∀ (d:Nat) {v:AV} {u:Value} {p:PV},Kc fo (K R φ H) v u→Vb H d v=some p→Ta Q p u:=by
 intro d
 induction d with
 |zero=>
  intro v u p hv h
  cases v with
  |pv q=>simp[Vb] at h;subst h;exact hv.Qb.mono hsub
  |uq id nl sz es=>
   simp[Vb] at h
   have h1:=hv.xu
   cases nl with
   |true=>simp at h;subst h;rw[(h1.2.1 rfl).1];exact .fa
   |false=>simp at h;subst h;exact (h1.2.2.1 rfl).mono hsub
  |_=>simp[Vb] at h
 |succ d ih=>
  have many:∀ {cs:List AV} {ps:List PV} {vs:List Value},eb fo (K R φ H) cs vs→Pa (Vb H d) cs=some ps→te Q ps vs:=by
   intro cs
   induction cs with
   |nil=>intro ps vs hl h;simp[Pa] at h;subst h;cases hl;exact .nil
   |cons c cs ihc=>
    intro ps vs hl h
    simp only[Pa,Option.bind_eq_some_iff,Option.some.injEq] at h
    obtain⟨b,h1,bs,h2,rfl⟩:=h
    cases hl with
    |cons _ _ v vs hc hcs=>exact .cons _ _ _ _ (ih hc h1) (ihc hcs h2)
  intro v u p hv h
  cases v with
  |pv q=>simp[Vb] at h;subst h;exact hv.Qb.mono hsub
  |uq id nl sz es=>
   simp[Vb] at h
   have h1:=hv.xu
   cases nl with
   |true=>simp at h;subst h;rw[(h1.2.1 rfl).1];exact .fa
   |false=>simp at h;subst h;exact (h1.2.2.1 rfl).mono hsub
  |own id len=>
   simp only[Vb] at h
   split at h
   ·rename_i sz ag cells fl nl hid
    split at h
    ·rename_i hc
     obtain⟨hlen,pS⟩:=hc
     have h1:=hv.yz
     obtain⟨k0,k⟩:=h1.2.2 _ _ _ _ _ hid
     obtain⟨o0,o1,o2,oone,o3⟩:=hS.obj _ _ hid
     obtain⟨k1,k2⟩:=k (by omega)
     cases nl with
     |true=>simp at h;subst h;rw[k1 rfl];exact .fa
     |false=>
      simp only[Bool.false_eq_true,if_false,Option.map_eq_some_iff] at h
      obtain⟨ps,hps,rfl⟩:=h
      obtain⟨hbase,_,arr,hB,hsz,hle,hrel⟩:=o3 rfl
      rcases k2 rfl with⟨q1,q2,_⟩ | ⟨b,o,cap,rfl,q2,_⟩
      ·subst q1;exact absurd (List.eq_nil_of_length_eq_zero (by omega)) q2
      ·obtain⟨rfl,rfl,rfl⟩:=q2 hlen
       have hl:=many hrel hps
       have hone:=SO oone hps
       have hplen:ps.length=len * sz:=by rw[(qA hps).1,hlen]
       obtain⟨c1,c2,c3⟩:=iu sz ag (fun e=>by subst e;simpa using pS) len ps hplen hone
       have:=Ta.lit (R:=Q) sz (chunk sz ag len ps) (φ id).1 0 (φ id).2 (by
        rw[c3]
        have:len * sz≤(φ id).2 * sz:=by rw[← hsz];omega
        exact Nat.le_of_mul_le_mul_right this o0) c2 (by
        rw[c1]
        refine bg.yn hl (Yo hrel oone) fun i v hv=> ?_
        have hlt:=getElem?_lt hv
        rw[List.getElem?_take] at hv
        split at hv
        ·refine hQ _ _ _ hbase ?_
         rw[hB.cell,Nat.zero_add];simpa using hv
        ·cases hv)
       rw[c3] at this
       exact this
    ·cases h
   ·cases h
  |ptr id off=>
   simp only[Vb] at h
   split at h
   ·rename_i cells hid
    simp only[Option.map_eq_some_iff] at h
    obtain⟨ps,hps,rfl⟩:=h
    obtain⟨hbase,_,oone,arr,hB,hrel⟩:=hS.obj _ _ hid
    rw[hv.JG.2.2 _ hid]
    have:=Ta.rp (R:=Q) ps off (φ id).1 0 (bg.yn (many hrel hps) (Yo hrel oone) fun i v hv=>by
     refine hQ _ _ _ hbase ?_
     rw[hB.cell,Nat.zero_add];simpa using hv)
    rw[Nat.zero_add] at this
    exact this
   ·cases h
  |agg cs=>
   simp only[Vb,Option.map_eq_some_iff] at h
   obtain⟨ps,hps,rfl⟩:=h
   cases hv with
   |atom _ _ h=>exact h.elim
   |agg _ vs hl=>exact .agg _ _ (many hl hps)
  |oc cs=>
   simp only[Vb,Option.map_eq_some_iff] at h
   obtain⟨ps,hps,rfl⟩:=h
   cases hv with
   |atom _ _ h=>exact h.elim
   |oc _ vs hl=>exact .oc _ _ (many hl hps)
  |Fc=>simp[Vb] at h
  |Gk=>simp[Vb] at h
  |mp=>simp[Vb] at h
  |undef=>simp[Vb] at h
theorem sP {w:World} {R:Rd} {φ:Pl} {H:List ba} {d:Nat} {v:AV} {u:Value} {p:PV} (hf:v.free=true) (hv:Kc fo (K R φ H) v u) (h:Vb H d v=some p):Ta R p u:=by
 cases v with
 |pv q=>simp[Vb] at h;subst h;exact hv.Qb
 |uq id nl sz es=>
  simp[Vb] at h
  have h1:=hv.xu
  cases nl with
  |true=>simp at h;subst h;rw[(h1.2.1 rfl).1];exact .fa
  |false=>simp at h;subst h;exact h1.2.2.1 rfl
 |_=>simp[AV.free] at hf
theorem ZO {w:World} {R:Rd} {φ:Pl} {H:List ba} (hS:pc fo B0 w R φ H) {d:Nat}:∀ {vs:List AV} {us:List Value} {ps:List PV},eb fo (K R φ H) vs us→Pa (Vb H d) vs=some ps→te (Rw w) ps us:=by
 intro vs
 induction vs with
 |nil=>intro us ps hl h;simp[Pa] at h;subst h;cases hl;exact .nil
 |cons c cs ihc=>
  intro us ps hl h
  simp only[Pa,Option.bind_eq_some_iff,Option.some.injEq] at h
  obtain⟨b,h1,bs,h2,rfl⟩:=h
  cases hl with
  |cons _ _ v vs hc hcs=>exact .cons _ _ _ _ (lI hS (fun b o v h=>hS.sub b o v h) (fun _ _ _ _ h=>h) d hc h1) (ihc hcs h2)
theorem TK {w:World} {R:Rd} {φ:Pl} {H:List ba} {d:Nat}:∀ {vs:List AV} {us:List Value} {ps:List PV},vs.all AV.free=true→eb fo (K R φ H) vs us→Pa (Vb H d) vs=some ps→te R ps us:=by
 intro vs
 induction vs with
 |nil=>intro us ps _ hl h;simp[Pa] at h;subst h;cases hl;exact .nil
 |cons c cs ihc=>
  intro us ps hf hl h
  simp only[Pa,Option.bind_eq_some_iff,Option.some.injEq] at h
  obtain⟨b,h1,bs,h2,rfl⟩:=h
  simp only[List.all_cons,Bool.and_eq_true] at hf
  cases hl with
  |cons _ _ v vs hc hcs=>exact .cons _ _ _ _ (sP (w:=w) hf.1 hc h1) (ihc hf.2 hcs h2)
mutual
theorem II {R R':Rd}:∀ {p:PV} {v:Value},Uk p=true→Ta R p v→Ta R' p v
 |_,_,_,.int _ _=> .int _ _
 |_,_,_,.bool _=> .bool _
 |_,_,_,.str _=> .str _
 |_,_,_,.Kf=> .Kf
 |_,_,_,.fa=> .fa
 |_,_,_,.Nv=> .Nv
 |_,_,_,.Av=> .Av
 |_,_,_,.WB=> .WB
 |_,_,hf,.rp _ _ _ _ h=>by simp[Uk] at hf
 |_,_,hf,.lit _ _ _ _ _ h1 h2 h3=>by simp[Uk] at hf
 |_,_,hf,.XB _ _=>by simp[Uk] at hf
 |_,_,hf,.agg _ _ h=> .agg _ _ (Gz (by simpa[Uk] using hf) h)
 |_,_,hf,.oc _ _ h=> .oc _ _ (Gz (by simpa[Uk] using hf) h)
 |_,_,hf,.iface _ _ _ h=>by simp[Uk] at hf
theorem Gz {R R':Rd}:∀ {p:List PV} {v:List Value},mo p=true→te R p v→te R' p v
 |_,_,_,.nil=> .nil
 |_,_,hf,.cons _ _ _ _ h1 h2=>by
  simp only[mo,Bool.and_eq_true] at hf
  exact .cons _ _ _ _ (II hf.1 h1) (Gz hf.2 h2)
end
structure Ew (n:Nat) (H H2:List ba):Prop where
 obj:∀ (id:Nat) (o2:ba),H2[id]? =some o2→id < n∧∃ o,H[id]? =some o∧oa n o=some o2
 len:∀ id,id < n→id < H.length→id < H2.length
theorem xL {n:Nat} {H H2:List ba} (h:Pa (oa n) (H.take n)=some H2):Ew n H H2:=by
 obtain⟨h1,h2⟩:=qA h
 rw[List.length_take] at h1
 refine⟨fun id o2 ho=> ?_,fun id hn hl=>by rw[h1];omega⟩
 have hlt:=getElem?_lt ho
 have hid:id < n∧id < H.length:=by rw[h1] at hlt;omega
 have hx:(H.take n)[id]? =some (H[id]'hid.2):=by rw[List.getElem?_take,if_pos hid.1];exact List.getElem?_eq_getElem _
 obtain⟨y,hy1,hy2⟩:=h2 id _ hx
 rw[ho] at hy1;injection hy1 with hy1;subst hy1
 exact⟨hid.1,_,List.getElem?_eq_getElem _,hy2⟩
def AV.HX:AV→Option Nat
 | .ptr id _ | .Fc id _ _ | .uq id _ _ _ | .own id _ | .mp id=>some id
 |_=>none
theorem K.ga {n:Nat} {R:Rd} {φ:Pl} {H H2:List ba} (hc:Ew n H H2) {x:AV} {u:Value} (hx:∀ id,x.HX=some id→id < n) (h:K R φ H x u):K R φ H2 x u:=by
 have box:∀ {id:Nat} {c:List AV},H2[id]? =some (.box c)→∃ c',H[id]? =some (.box c'):=by
  intro id c hb
  obtain⟨_,o,ho,hcut⟩:=hc.obj _ _ hb
  cases o with
  |box c'=>exact⟨c',ho⟩
  |seq=>simp only[oa] at hcut;split at hcut <;> cases hcut
  |tok=>cases hcut
  |map es=>simp[oa] at hcut
  |dead=>cases hcut
 have seq:∀ {id:Nat} {sz:Nat} {ag:Bool} {c:List AV} {fl:Nat} {nl:Bool},H2[id]? =some (.seq sz ag c fl nl)→H[id]? =some (.seq sz ag c fl nl):=by
  intro id sz ag c fl nl hb
  obtain⟨_,o,ho,hcut⟩:=hc.obj _ _ hb
  cases o with
  |box c'=>simp[oa] at hcut
  |seq=>
   simp only[oa] at hcut
   split at hcut
   ·injection hcut with hcut;rw[ho,hcut]
   ·cases hcut
  |tok=>cases hcut
  |map es=>simp[oa] at hcut
  |dead=>cases hcut
 have tok:∀ {id:Nat} {sz m:Nat} {nl:Bool},H2[id]? =some (.tok sz m nl)→H[id]? =some (.tok sz m nl):=by
  intro id sz m nl hb
  obtain⟨_,o,ho,hcut⟩:=hc.obj _ _ hb
  cases o with
  |box c'=>simp[oa] at hcut
  |seq=>
   simp only[oa] at hcut
   split at hcut
   ·cases hcut
   ·cases hcut
  |tok=>injection hcut with hcut;rw[ho,hcut]
  |map es=>simp[oa] at hcut
  |dead=>cases hcut
 have map:∀ {id:Nat} {es:List (PV×PV)},H2[id]? =some (.map es)→∃ es',H[id]? =some (.map es'):=by
  intro id c hb
  obtain⟨_,o,ho,hcut⟩:=hc.obj _ _ hb
  cases o with
  |box c'=>simp[oa] at hcut
  |seq=>simp only[oa] at hcut;split at hcut <;> cases hcut
  |tok=>cases hcut
  |map es=>exact⟨es,ho⟩
  |dead=>cases hcut
 cases x with
 |pv p=>exact h
 |ptr id off=>exact⟨hc.len _ (hx _ rfl) h.1,h.2.1,fun c hb=>by obtain⟨c',hb'⟩:=box hb;exact h.2.2 _ hb'⟩
 |Fc id m off=>exact⟨hc.len _ (hx _ rfl) h.1,h.2.1,fun sz ag c fl nl hb=>h.2.2 sz ag c fl nl (seq hb)⟩
 |uq id nl sz es=>exact⟨hc.len _ (hx _ rfl) h.1,h.2.1,h.2.2.1,fun sz' m nl' hb=>h.2.2.2 sz' m nl' (tok hb)⟩
 |own id len=>exact⟨hc.len _ (hx _ rfl) h.1,h.2.1,fun sz ag c fl nl hb=>h.2.2 sz ag c fl nl (seq hb)⟩
 |mp id=>exact⟨hc.len _ (hx _ rfl) h.1,h.2.1,fun es hb=>by obtain⟨c',hb'⟩:=map hb;exact h.2.2 _ hb'⟩
 |Gk ix cs=>exact h.elim
 |agg cs=>exact h.elim
 |oc cs=>exact h.elim
 |undef=>exact h.elim
theorem nN {n:Nat} {R:Rd} {φ:Pl} {H H2:List ba} (hc:Ew n H H2):∀ (d:Nat) {v v':AV} {u:Value},AV.cut n d v=some v'→Kc fo (K R φ H) v u→Kc fo (K R φ H2) v' u:=by
 have base:∀ {d:Nat} {v v':AV} {u:Value},(∀ ix cs,v≠ .Gk ix cs)→(∀ cs,v≠ .agg cs)→(∀ cs,v≠ .oc cs)→AV.cut n d v=some v'→Kc fo (K R φ H) v u→Kc fo (K R φ H2) v' u:=by
  intro d v v' u n1 n2 n3 h hv
  cases v with
  |pv p=>simp only[AV.cut,Option.some.injEq] at h;subst h;exact .atom _ _ hv.Qb
  |ptr id off=>
   simp only[AV.cut] at h
   split at h
   ·rename_i hlt;injection h with h;subst h;exact .atom _ _ (K.ga hc (fun _ e=>by injection e with e;omega) hv.JG)
   ·cases h
  |Fc id m off=>
   simp only[AV.cut] at h
   split at h
   ·rename_i hlt;injection h with h;subst h
    cases hv with | atom _ _ hv=>exact .atom _ _ (K.ga hc (fun _ e=>by injection e with e;omega) hv)
   ·cases h
  |uq id nl sz es=>
   simp only[AV.cut] at h
   split at h
   ·rename_i hlt;injection h with h;subst h;exact .atom _ _ (K.ga hc (fun _ e=>by injection e with e;omega) hv.xu)
   ·injection h with h
    subst h
    have h1:=hv.xu
    cases nl with
    |true=>simp only[if_true];rw[(h1.2.1 rfl).1];exact .atom _ _ (show Ta R _ _ from .fa)
    |false=>exact .atom _ _ (show Ta R _ _ from h1.2.2.1 rfl)
  |own id len=>
   simp only[AV.cut] at h
   split at h
   ·rename_i hlt;injection h with h;subst h;exact .atom _ _ (K.ga hc (fun _ e=>by injection e with e;omega) hv.yz)
   ·cases h
  |mp id=>
   simp only[AV.cut] at h
   split at h
   ·rename_i hlt;injection h with h;subst h
    cases hv with | atom _ _ hv=>exact .atom _ _ (K.ga hc (fun _ e=>by injection e with e;omega) hv)
   ·cases h
  |undef=>simp only[AV.cut,Option.some.injEq] at h;subst h;exact .undef _
  |Gk ix cs=>exact absurd rfl (n1 ix cs)
  |agg cs=>exact absurd rfl (n2 cs)
  |oc cs=>exact absurd rfl (n3 cs)
 intro d
 induction d with
 |zero=>
  intro v v' u h hv
  cases v with
  |Gk ix cs=>simp[AV.cut] at h
  |agg cs=>simp[AV.cut] at h
  |oc cs=>simp[AV.cut] at h
  |_=>exact base (by intros;simp) (by intros;simp) (by intros;simp) h hv
 |succ d ih=>
  have many:∀ {cs cs':List AV} {vs:List Value},eb fo (K R φ H) cs vs→Pa (AV.cut n d) cs=some cs'→eb fo (K R φ H2) cs' vs:=by
   intro cs
   induction cs with
   |nil=>intro ps vs hl h;simp[Pa] at h;subst h;cases hl;exact .nil
   |cons c cs ihc=>
    intro ps vs hl h
    simp only[Pa,Option.bind_eq_some_iff,Option.some.injEq] at h
    obtain⟨b,h1,bs,h2,rfl⟩:=h
    cases hl with
    |cons _ _ v vs hc hcs=>exact .cons _ _ _ _ (ih h1 hc) (ihc hcs h2)
  intro v v' u h hv
  cases v with
  |Gk ix cs=>
   simp only[AV.cut,Option.map_eq_some_iff] at h
   obtain⟨cs',h1,rfl⟩:=h
   cases hv with
   |atom _ _ h=>exact h.elim
   |Gk _ _ vs hl=>exact .Gk _ _ _ (many hl h1)
  |agg cs=>
   simp only[AV.cut,Option.map_eq_some_iff] at h
   obtain⟨cs',h1,rfl⟩:=h
   cases hv with
   |atom _ _ h=>exact h.elim
   |agg _ vs hl=>exact .agg _ _ (many hl h1)
  |oc cs=>
   simp only[AV.cut,Option.map_eq_some_iff] at h
   obtain⟨cs',h1,rfl⟩:=h
   cases hv with
   |atom _ _ h=>exact h.elim
   |oc _ vs hl=>exact .oc _ _ (many hl h1)
  |_=>exact base (by intros;simp) (by intros;simp) (by intros;simp) h hv
theorem xI {n:Nat} {R:Rd} {φ:Pl} {H H2:List ba} (hc:Ew n H H2) {d:Nat} {cs cs':List AV} {vs:List Value} (hl:eb fo (K R φ H) cs vs) (h:Pa (AV.cut n d) cs=some cs'):eb fo (K R φ H2) cs' vs:=by
 induction cs generalizing cs' vs with
 |nil=>simp[Pa] at h;subst h;cases hl;exact .nil
 |cons c cs ihc=>
  simp only[Pa,Option.bind_eq_some_iff,Option.some.injEq] at h
  obtain⟨b,h1,bs,h2,rfl⟩:=h
  cases hl with
  |cons _ _ v vs hcc hcs=>exact .cons _ _ _ _ (nN hc d h1 hcc) (ihc hcs h2)
theorem VQ {n:Nat}:∀ (d:Nat) {v:AV},AV.Te n d v=true→AV.cut n d v=some v:=by
 intro d
 induction d with
 |zero=>intro v h;cases v <;> simp_all [AV.Te,AV.cut]
 |succ d ih=>
  have many:∀ {cs:List AV},cs.all (AV.Te n d)=true→Pa (AV.cut n d) cs=some cs:=by
   intro cs
   induction cs with
   |nil=>intro _;rfl
   |cons c cs ihc=>intro h;simp only[List.all_cons,Bool.and_eq_true] at h;simp[Pa,ih h.1,ihc h.2]
  intro v h
  cases v with
  |Gk ix cs=>simp only[AV.Te] at h;simp[AV.cut,many h]
  |agg cs=>simp only[AV.Te] at h;simp[AV.cut,many h]
  |oc cs=>simp only[AV.Te] at h;simp[AV.cut,many h]
  |_=>simp_all [AV.Te,AV.cut]
theorem QO {n d:Nat} {cs:List AV} (h:cs.all (AV.Te n d)=true):Pa (AV.cut n d) cs=some cs:=by
 induction cs with
 |nil=>rfl
 |cons c cs ihc=>simp only[List.all_cons,Bool.and_eq_true] at h;simp[Pa,VQ d h.1,ihc h.2]
theorem YU {n d:Nat} {v v':AV} (h:AV.cut n d v=some v') (h1:v.one=true):v'.one=true:=by
 cases v with
 |uq id nl sz es=>
  simp only[AV.cut] at h
  split at h
  ·injection h with h;subst h;rfl
  ·injection h with h;subst h;cases nl <;> rfl
 |Gk ix cs=>
  cases d with
  |zero=>simp[AV.cut] at h
  |succ d=>simp only[AV.cut,Option.map_eq_some_iff] at h;obtain⟨_,_,rfl⟩:=h;rfl
 |agg=>simp[AV.one] at h1
 |oc=>simp[AV.one] at h1
 |undef=>simp[AV.one] at h1
 |pv p=>simp only[AV.cut,Option.some.injEq] at h;subst h;exact h1
 |_=>
  simp only[AV.cut] at h
  split at h
  ·injection h with h;subst h;exact h1
  ·cases h
theorem lT {n d:Nat} {cs cs':List AV} (h:Pa (AV.cut n d) cs=some cs') (h1:cs.all AV.one=true):cs'.all AV.one=true:=by
 induction cs generalizing cs' with
 |nil=>simp[Pa] at h;subst h;rfl
 |cons c cs ihc=>
  simp only[Pa,Option.bind_eq_some_iff,Option.some.injEq] at h
  obtain⟨b,h2,bs,h3,rfl⟩:=h
  simp only[List.all_cons,Bool.and_eq_true] at h1 ⊢
  exact⟨YU h2 h1.1,ihc h3 h1.2⟩
theorem pc.ga {n:Nat} {w:World} {R:Rd} {φ:Pl} {H H2:List ba} (hc:Ew n H H2) (hS:pc fo B0 w R φ H):pc fo B0 w R φ H2:=by
 have lv:∀ {i},live H2 i→live H i:=by
  intro i ⟨o2,ho2,hl⟩
  obtain⟨_,o,ho,hcut⟩:=hc.obj _ _ ho2
  refine⟨o,ho,?_⟩
  cases o with
  |box c=>trivial
  |seq sz ag c fl nl=>
   simp only[oa] at hcut
   split at hcut
   ·injection hcut with hcut;subst hcut;exact hl
   ·cases hcut
  |tok sz m nl=>injection hcut with hcut;subst hcut;exact hl
  |map es=>trivial
  |dead=>injection hcut with hcut;subst hcut;exact hl
 refine⟨hS.low,hS.sub,fun id o2 ho2=> ?_,fun i j hi hj=>hS.inj i j (lv hi) (lv hj),hS.Pn,hS.slt,fun i hi=>hS.free i (lv hi)⟩
 obtain⟨_,o,ho,hcut⟩:=hc.obj _ _ ho2
 have hO:=hS.obj _ _ ho
 cases o with
 |box c=>
  simp only[oa,Option.map_eq_some_iff] at hcut
  obtain⟨c',h1,rfl⟩:=hcut
  obtain⟨h2,h3,h4,arr,h5,h6⟩:=hO
  exact⟨h2,h3,lT h1 h4,arr,h5,xI hc h6 h1⟩
 |seq sz ag c fl nl=>
  simp only[oa] at hcut
  split at hcut
  ·rename_i hk
   injection hcut with hcut;subst hcut
   obtain⟨h1,h2,h3,h4,h5⟩:=hO
   refine⟨h1,h2,h3,h4,fun e=> ?_⟩
   obtain⟨k1,k2,arr,k3,k4,k5,k6⟩:=h5 e
   exact⟨k1,k2,arr,k3,k4,k5,xI hc k6 (QO hk)⟩
  ·cases hcut
 |tok sz m nl=>injection hcut with hcut;subst hcut;exact hO
 |map es=>injection hcut with hcut;subst hcut;exact hO
 |dead=>injection hcut with hcut;subst hcut;trivial
theorem BM {n:Nat} {R:Rd} {φ:Pl} {H H2:List ba} (hc:Ew n H H2) {e e':Tr} {a:Act} (hE:Ei fo (K R φ H) e a):∀ {l:List Nat},za n e l=some e'→Ei fo (K R φ H2) e' a:=by
 intro l
 induction l generalizing e' with
 |nil=>intro h;simp only[za,Option.some.injEq] at h;subst h;intro t;exact .undef _
 |cons x l ih=>
  intro h
  simp only[za,Option.bind_eq_some_iff,Option.map_eq_some_iff] at h
  obtain⟨v,h1,e1,h2,rfl⟩:=h
  intro t
  rw[Tr.aa]
  split
  ·rename_i ht;subst ht;exact nN hc deep h1 (hE t)
  ·exact ih h2 t
theorem pC {w0 w:World} {R0 R:Rd} {φ0 φ:Pl} {H0:List ba} {a0 a:Act} {s s2:St} {l:List Nat} (g:Xl fo B0 w0 R0 φ0 H0 a0 w R φ s a) (h:ga H0.length l s=some s2):Xl fo B0 w0 R0 φ0 H0 a0 w R φ s2 a:=by
 simp only[ga,Option.bind_eq_some_iff,Option.map_eq_some_iff] at h
 obtain⟨e,h1,H2,h2,rfl⟩:=h
 have hc:=xL h2
 refine⟨g.rel.ga hc,BM hc g.env h1,fun x u hx=>K.ga hc (fun id hid=> ?_) (g.mono x u hx),g.below,g.size,g.defers⟩
 cases x with
 |ptr=>injection hid with hid;subst hid;exact hx.1
 |Fc=>injection hid with hid;subst hid;exact hx.1
 |uq=>injection hid with hid;subst hid;exact hx.1
 |own=>injection hid with hid;subst hid;exact hx.1
 |mp=>injection hid with hid;subst hid;exact hx.1
 |_=>cases hid
end
end Go.AM
set_option linter.unusedSimpArgs false
set_option linter.unusedVariables false
namespace Go.AM
open Go.RowKit
section
variable {P:Program} {fo:Nat→FuncId} {B0:Qf}
theorem YB {k:AV→Value→Prop} {e:Tr} {a:Act} (h:Ei fo k e a) {t:Nat} {v:AV} (hv:Kc fo k v (a.tmps.getD t undef)):Ei fo k (e.set t v) a:=by
 intro j
 rw[Tr.aa]
 split
 ·rename_i e;subst e;exact hv
 ·exact h j
theorem push_empty {w:World} {R:Rd} {φ:Pl} {H:List ba} (hS:pc fo B0 w R φ H) {o:ba} (hl:¬Xn o) (hO:∀ φ' H',nA fo B0 w R φ' H' H.length o):pc fo B0 w R (Ul φ H.length (0,0)) (H++[o]):=
 hS.push (Nat.le_refl _) (fun _ _=>rfl) (fun _ _ _=>rfl) hS.sub (fun a v=>K.push o (0,0) a v) (fun h=>absurd h hl) (hO _ _)
theorem YS {w:World} {R:Rd} {φ:Pl} {H:List ba} {sz:Nat}:K R φ (H++[.tok sz 0 true]) (.uq H.length true sz []) (.slice none 0 0):=by
 refine⟨by simp,fun _=>⟨rfl,rfl⟩,(fun e=>by cases e),fun sz' n nl' h=> ?_⟩
 simp at h
 obtain⟨rfl,rfl,rfl⟩:=h
 exact⟨by simp,fun _=>⟨rfl,rfl,fun e=>by cases e⟩⟩
theorem fN {w:World} {R:Rd} {φ:Pl} {H:List ba} {sz:Nat} {ag:Bool}:K R φ (H++[.seq sz ag [] 0 true]) (.own H.length 0) (.slice none 0 0):=by
 refine⟨by simp,rfl,fun sz' ag' c fl nl h=> ?_⟩
 simp at h
 obtain⟨rfl,rfl,rfl,rfl,rfl⟩:=h
 exact⟨by simp,fun _=>⟨fun _=>rfl,fun e=>by cases e⟩⟩
theorem JM {w:World} {R:Rd} {φ:Pl} {H:List ba} (hS:pc fo B0 w R φ H) {id:Nat} {cells:List AV} (hid:H[id]? =some (.box cells)) {i:Nat} (hi:cells[i]? =some (.pv .fa)) {x:AV} (hx:K R φ H x (.slice none 0 0)) (h1:x.one=true):
 pc fo B0 w R (Ul φ id (φ id)) (H.set id (.box (cells.set i x)))∧∀ a u,K R φ H a u→K R (Ul φ id (φ id)) (H.set id (.box (cells.set i x))) a u:=by
 have hk:=fun a v=>K.FM (R:=R) (φ:=φ) (H:=H) (c':=cells.set i x) hid a v
 refine⟨hS.Ul hid (Nat.le_refl _) (fun _ _ _=>rfl) (fun _ _ _ _=>rfl) hS.sub hk (fun _=> .inl ⟨trivial,rfl⟩) ?_,hk⟩
 obtain⟨o1,o2,o3,arr,o4,o5⟩:=hS.obj _ _ hid
 refine⟨by rw[Db];exact o1,by rw[Db];exact o2,?_,arr,by rw[Db];exact o4,?_⟩
 ·rw[List.all_eq_true] at o3 ⊢
  intro y hy
  rcases List.mem_or_eq_of_mem_set hy with hy | rfl
  ·exact o3 y hy
  ·exact h1
 ·obtain⟨u,hu,hr⟩:=o5.get hi
  have hr:=hr.Qb
  cases hr
  have:arr.toList=arr.toList.set i (.slice none 0 0):=by
   apply List.ext_getElem?
   intro j
   by_cases e:i=j
   ·subst e
    rw[List.getElem?_set_self (getElem?_lt hu)];exact hu
   ·rw[List.getElem?_set_ne e]
  rw[this]
  exact (o5.mono hk).set i (.atom _ _ (hk _ _ hx))
theorem aO {g:jN} {w:World} {R:Rd} {φ:Pl} {s s':St} {a:Act} (hS:pc fo B0 w R φ s.H) (hE:Ei fo (K R φ s.H) s.env a) (h:qe g s=some s'):∃ R' φ',Xl fo B0 w R φ s.H a w R' φ' s' a:=by
 obtain⟨e,H⟩:=s
 cases g with
 |LB t sz=>
  simp only[qe] at h
  split at h
  ·rename_i ht
   split at h
   ·rename_i h0
    injection h with h;subst h
    have hk:=fun a v=>K.push (R:=R) (φ:=φ) (H:=H) (.tok sz 0 true) (0,0) a v
    have hv:=hE t
    simp only[ht] at hv
    have hv:=hv.Qb
    refine⟨R,_,push_empty hS (by simp[Xn]) (fun φ' H'=>⟨h0,fun _=>rfl,fun e=>by cases e⟩),YB (hE.mono hk) ?_,hk,Ig.refl _ _,rfl,.same rfl⟩
    generalize a.tmps.getD t undef=v at hv
    cases hv
    exact .atom _ _ (YS (w:=w))
   ·cases h
  ·cases h
 |aG t sz ag=>
  simp only[qe] at h
  split at h
  ·rename_i ht
   split at h
   ·rename_i h0
    injection h with h;subst h
    have hk:=fun a v=>K.push (R:=R) (φ:=φ) (H:=H) (.seq sz ag [] 0 true) (0,0) a v
    have hv:=hE t
    simp only[ht] at hv
    have hv:=hv.Qb
    refine⟨R,_,push_empty hS (by simp[Xn]) (fun φ' H'=>⟨h0,Nat.le_refl _,fun _=>rfl,rfl,fun e=>by cases e⟩),YB (hE.mono hk) ?_,hk,Ig.refl _ _,rfl,.same rfl⟩
    generalize a.tmps.getD t undef=v at hv
    cases hv
    exact .atom _ _ (fN (w:=w))
   ·cases h
  ·cases h
 |Fv t off sz=>
  simp only[qe] at h
  split at h
  ·rename_i id o ht
   split at h
   ·rename_i cells hid
    split at h
    ·rename_i hc
     split at h
     ·rename_i h0
      injection h with h;subst h
      have hlt:=getElem?_lt hid
      have hk:=fun a v=>K.push (R:=R) (φ:=φ) (H:=H) (.tok sz 0 true) (0,0) a v
      have hS1:=push_empty hS (o:= .tok sz 0 true) (by simp[Xn]) (fun φ' H'=>⟨h0,fun _=>rfl,fun e=>by cases e⟩)
      obtain⟨hS2,hk2⟩:=JM hS1 (by rw[getElem?_push hlt];exact hid) hc (YS (w:=w)) rfl
      have e:H.set id (.box (cells.set (o+off) (.uq H.length true sz [])))++[ba.tok sz 0 true]=(H++[ba.tok sz 0 true]).set id (.box (cells.set (o+off) (.uq H.length true sz []))):=by
       rw[List.set_append_left _ _ hlt]
      simp only[e]
      exact⟨R,_,hS2,hE.mono fun a v h=>hk2 a v (hk a v h),fun x u h=>hk2 x u (hk x u h),Ig.refl _ _,rfl,.same rfl⟩
     ·cases h
    ·cases h
   ·cases h
  ·cases h
 |yH t off sz ag=>
  simp only[qe] at h
  split at h
  ·rename_i id o ht
   split at h
   ·rename_i cells hid
    split at h
    ·rename_i hc
     split at h
     ·rename_i h0
      injection h with h;subst h
      have hlt:=getElem?_lt hid
      have hk:=fun a v=>K.push (R:=R) (φ:=φ) (H:=H) (.seq sz ag [] 0 true) (0,0) a v
      have hS1:=push_empty hS (o:= .seq sz ag [] 0 true) (by simp[Xn]) (fun φ' H'=>⟨h0,Nat.le_refl _,fun _=>rfl,rfl,fun e=>by cases e⟩)
      obtain⟨hS2,hk2⟩:=JM hS1 (by rw[getElem?_push hlt];exact hid) hc (fN (w:=w)) rfl
      have e:H.set id (.box (cells.set (o+off) (.own H.length 0)))++[ba.seq sz ag [] 0 true]=(H++[ba.seq sz ag [] 0 true]).set id (.box (cells.set (o+off) (.own H.length 0))):=by
       rw[List.set_append_left _ _ hlt]
      simp only[e]
      exact⟨R,_,hS2,hE.mono fun a v h=>hk2 a v (hk a v h),fun x u h=>hk2 x u (hk x u h),Ig.refl _ _,rfl,.same rfl⟩
     ·cases h
    ·cases h
   ·cases h
  ·cases h
 |freeze t=>
  simp only[qe] at h
  split at h
  ·rename_i id len ht
   split at h
   ·rename_i sz ag cells fl nl hid
    split at h
    ·rename_i hc
     obtain⟨hlen,pS⟩:=hc
     have hid0:=hid
     have hv:=hE t
     simp only[ht] at hv
     have h1:=hv.yz
     obtain⟨k0,k⟩:=h1.2.2 _ _ _ _ _ hid
     obtain⟨o0,o1,o2,oone,o3⟩:=hS.obj _ _ hid
     obtain⟨k1,k2⟩:=k (by omega)
     have hkd:∀ (R':Rd) (p:Nat×Nat),Sub R R'→∀ a v,K R φ H a v→K R' (Ul φ id p) (H.set id .dead) a v:=by
      intro R' p hs a v hk
      have hk:=K.sub hs a v hk
      have hl:(H.set id .dead).length=H.length:=by simp
      have inv:∀ {i:Nat} {x:ba},(H.set id .dead)[i]? =some x→x≠ .dead→i≠id∧H[i]? =some x:=by
       intro i x hx hd
       by_cases e:i=id
       ·subst e;rw[List.getElem?_set_self (getElem?_lt hid)] at hx;injection hx with hx;exact absurd hx.symm hd
       ·rw[List.getElem?_set_ne (Ne.symm e)] at hx;exact⟨e,hx⟩
      cases a with
      |pv p=>exact hk
      |ptr i off=>exact⟨by rw[hl];exact hk.1,hk.2.1,fun c hc=>by obtain⟨q1,q2⟩:=inv hc (by simp);rw[Ye _ _ q1];exact hk.2.2 c q2⟩
      |Fc i n off=>exact⟨by rw[hl];exact hk.1,hk.2.1,fun sz ag c fl nl hc=>by obtain⟨q1,q2⟩:=inv hc (by simp);rw[Ye _ _ q1];exact hk.2.2 _ _ _ _ _ q2⟩
      |uq i nl sz es=>exact⟨by rw[hl];exact hk.1,hk.2.1,hk.2.2.1,fun sz n nl hc=>by obtain⟨q1,q2⟩:=inv hc (by simp);rw[Ye _ _ q1];exact hk.2.2.2 _ _ _ q2⟩
      |own i n=>exact⟨by rw[hl];exact hk.1,hk.2.1,fun sz ag c fl nl hc=>by obtain⟨q1,q2⟩:=inv hc (by simp);rw[Ye _ _ q1];exact hk.2.2 _ _ _ _ _ q2⟩
      |mp i=>exact⟨by rw[hl];exact hk.1,hk.2.1,fun es hc=>by obtain⟨q1,q2⟩:=inv hc (by simp);rw[Ye _ _ q1];exact hk.2.2 _ q2⟩
      |Gk=>exact hk.elim
      |agg=>exact hk.elim
      |oc=>exact hk.elim
      |undef=>exact hk.elim
     cases nl with
     |true=>
      simp only[if_true,Option.some.injEq] at h
      subst h
      have hk:=hkd R (φ id) (Sub.refl R)
      refine⟨R,Ul φ id (φ id),hS.Ul hid (Nat.le_refl _) (fun _ _ _=>rfl) (fun _ _ _ _=>rfl) hS.sub hk (fun h=>h.elim) trivial,YB (hE.mono hk) ?_,hk,Ig.refl _ _,rfl,.same rfl⟩
      rw[k1 rfl]
      exact .atom _ _ (show Ta R _ _ from .fa)
     |false=>
      simp only[Bool.false_eq_true,if_false,Option.map_eq_some_iff] at h
      obtain⟨ps,hps,rfl⟩:=h
      obtain⟨b0,hnone,arr,hB,hsz,hle,hrel⟩:=o3 rfl
      have hsub:Sub R (fun b o=>if b=(φ id).1 then w.cell? ⟨b,o,none⟩ else R b o):=by
       intro b o v h
       dsimp only
       split
       ·exact hS.sub b o v h
       ·exact h
      have hk:=hkd _ (φ id) hsub
      refine⟨_,Ul φ id (φ id),hS.Ul (R':=fun b o=>if b=(φ id).1 then w.cell? ⟨b,o,none⟩ else R b o) hid (Nat.le_refl _) (fun _ _ _=>rfl) (fun b j _ hne=>if_neg (hne rfl)) (fun b o v h=> ?_) hk (fun h=>h.elim) trivial,YB (hE.mono hk) ?_,hk,Ig.refl _ _,rfl,.same rfl⟩
      ·split at h
       ·exact h
       ·exact hS.sub b o v h
      ·rcases k2 rfl with⟨q1,q2,_⟩ | ⟨b,o,cap,q1,q2,_⟩
       ·subst q1;exact absurd (List.eq_nil_of_length_eq_zero (by omega)) q2
       ·rw[q1]
        obtain⟨rfl,rfl,rfl⟩:=q2 hlen
        have hl:=Nk hps hrel
        have hmap:=ff hps
        have hone:∀ p∈ps,XE p=true:=by
         intro p hp
         rw[hmap] at oone
         exact List.all_eq_true.1 oone _ (List.mem_map_of_mem hp)
        have hplen:ps.length=len * sz:=by rw[hlen,hmap];simp
        obtain⟨c1,c2,c3⟩:=iu sz ag (fun e=>by subst e;simpa using pS) len ps hplen hone
        refine .atom _ _ (show Ta _ _ _ from ?_)
        have:=Ta.lit (R:=fun b o=>if b=(φ id).1 then w.cell? ⟨b,o,none⟩ else R b o) sz (chunk sz ag len ps) (φ id).1 0 (φ id).2 (by
         rw[c3]
         have:len * sz≤(φ id).2 * sz:=by rw[← hsz];omega
         exact Nat.le_of_mul_le_mul_right this o0) c2 (by
         rw[c1]
         refine bg.yn (hl.mono hsub) (Yo hrel oone) fun i v hv=> ?_
         have hlt:=getElem?_lt hv
         rw[List.getElem?_take] at hv
         split at hv
         ·rw[if_pos rfl,hB.cell,Nat.zero_add];simpa using hv
         ·cases hv)
        rw[c3] at this
        exact this
    ·cases h
   ·cases h
  ·cases h
end
end Go.AM
