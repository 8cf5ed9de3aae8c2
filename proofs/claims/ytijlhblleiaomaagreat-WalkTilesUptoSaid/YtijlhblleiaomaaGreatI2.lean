/- The abstract machine: equality, maps, steps that may change places, cleaning. -/
import Derived.Test.YtijlhblleiaomaaGreatI1
import Derived.DeepKeys3
import Derived.OrdersIn
import Derived.LoopNIn
import Derived.RangeFuncRecord
import Derived.RangeFuncSeq
set_option linter.unusedSimpArgs false
set_option linter.unusedVariables false
namespace Go.AM
open Go.RowKit
def Nr:Nat→Value→Value→Option Bool
 |0,.bool a,.bool b=>some (a==b)
 |1,.int k a,.int k' b=>if k=k' then some (a==b) else none
 |2,.string a,.string b=>some (a==b)
 |_,_,_=>none
def Zg:List Nat→List Value→List Value→Option Bool
 | [],[],[]=>some true
 |k::ks,x::xs,y::ys=>(Nr k x y).bind fun b=>(Zg ks xs ys).map fun c=>b&&c
 |_,_,_=>none
theorem sD {k:Nat} {p q:PV} {b:Bool} (h:js k p q=some b):
 (k=0∧∃ c d,p= .bool c∧q= .bool d∧b=(c==d))∨(k=1∧∃ i c d,p= .int i c∧q= .int i d∧b=(c==d))∨(k=2∧∃ c d,p= .str c∧q= .str d∧b=(c==d)):=by
 unfold js at h
 split at h
 ·injection h with h;exact .inl ⟨rfl,_,_,rfl,rfl,h.symm⟩
 ·split at h
  ·rename_i hk;subst hk;injection h with h;exact .inr (.inl ⟨rfl,_,_,_,rfl,rfl,h.symm⟩)
  ·cases h
 ·injection h with h;exact .inr (.inr ⟨rfl,_,_,rfl,rfl,h.symm⟩)
 ·cases h
theorem Tk {k:Nat} {p q:Value} {b:Bool} (h:Nr k p q=some b):
 (k=0∧∃ c d,p= .bool c∧q= .bool d∧b=(c==d))∨(k=1∧∃ i c d,p= .int i c∧q= .int i d∧b=(c==d))∨(k=2∧∃ c d,p= .string c∧q= .string d∧b=(c==d)):=by
 unfold Nr at h
 split at h
 ·injection h with h;exact .inl ⟨rfl,_,_,rfl,rfl,h.symm⟩
 ·split at h
  ·rename_i hk;subst hk;injection h with h;exact .inr (.inl ⟨rfl,_,_,_,rfl,rfl,h.symm⟩)
  ·cases h
 ·injection h with h;exact .inr (.inr ⟨rfl,_,_,rfl,rfl,h.symm⟩)
 ·cases h
theorem Mt {R:Rd} {k:Nat} {p q:PV} {v u:Value} (hp:Sa R p v) (hq:Sa R q u) {b:Bool} (h:js k p q=some b):Nr k v u=some b:=by
 rcases sD h with⟨rfl,c,d,rfl,rfl,rfl⟩ | ⟨rfl,i,c,d,rfl,rfl,rfl⟩ | ⟨rfl,c,d,rfl,rfl,rfl⟩ <;> cases hp <;> cases hq <;> simp[Nr]
theorem Wz {R:Rd}:∀ {ks:List Nat} {ps qs:List PV} {vs us:List Value} {b:Bool},Ae R ps vs→Ae R qs us→Xi ks ps qs=some b→Zg ks vs us=some b
 | [],[],[],_,_,_,.nil,.nil,h=>h
 |k::ks,p::ps,q::qs,_,_,b,.cons _ _ v vs h1 h2,.cons _ _ u us g1 g2,h=>by
  simp only[Xi,Option.bind_eq_some_iff,Option.map_eq_some_iff] at h
  obtain⟨x,e1,y,e2,rfl⟩:=h
  simp only[Zg,Mt h1 g1 e1,Wz h2 g2 e2,Option.bind_some,Option.map_some]
 | [],[],_::_,_,_,_,_,_,h=>by simp[Xi] at h
 | [],_::_,_,_,_,_,_,_,h=>by simp[Xi] at h
 |_::_,[],_,_,_,_,_,_,h=>by simp[Xi] at h
 |_::_,_::_,[],_,_,_,_,_,h=>by simp[Xi] at h
theorem Zm:∀ {ks ks':List Nat} {xs ys xs' ys':List Value} {b:Bool},ks.length=xs.length→xs.length=ys.length→Zg (ks++ks') (xs++xs') (ys++ys')=some b→∃ c d,Zg ks xs ys=some c∧Zg ks' xs' ys'=some d∧b=(c&&d)
 | [],_,[],[],_,_,b,_,_,h=>⟨true,b,rfl,h,by simp⟩
 |k::ks,_,x::xs,y::ys,xs',ys',b,hk,hl,h=>by
  simp only[List.cons_append,Zg,Option.bind_eq_some_iff,Option.map_eq_some_iff] at h
  obtain⟨e,h1,f,h2,rfl⟩:=h
  obtain⟨c,d,h3,h4,rfl⟩:=Zm (by simpa using hk) (by simpa using hl) h2
  exact⟨e&&c,d,by simp[Zg,h1,h3],h4,by simp[Bool.and_assoc]⟩
 | [],_,_::_,_,_,_,_,hk,_,_=>by simp at hk
 |_::_,_,[],_,_,_,_,hk,_,_=>by simp at hk
 |_,_,[],_::_,_,_,_,_,hl,_=>by simp at hl
 |_,_,_::_,[],_,_,_,_,hl,_=>by simp at hl
def valOf (P:Program) (t:TypeId) (cs:List Value):Value:=if Fl P t=some true then .agg ⟨cs⟩ else cs.headD undef
def tz (P:Program):Nat→List Field→Option Nat
 |o,[]=>some o
 |o,f::r=>if f.offset=o then tz P (o+P.cellsOf f.type) r else none
def ov (g:TypeId→Option (List Nat)):List Field→Option (List Nat)
 | []=>some []
 |f::r=>if f.name != "_" then (g f.type).bind fun a=>(ov g r).map (a++ ·) else none
def dJ:Nat→List Nat→List Nat
 |0,_=>[]
 |n+1,ks=>ks++dJ n ks
def xh (P:Program):Nat→TypeId→Option (List Nat)
 |0,_=>none
 |m+1,t=>
  match P.underlying t with
  |some .bool=>if P.cellsOf t=1 then some [0] else none
  |some (.int _)=>if P.cellsOf t=1 then some [1] else none
  |some .string=>if P.cellsOf t=1 then some [2] else none
  |some (.struct fs)=>if tz P 0 fs.toList=some (P.cellsOf t)∧P.stoodInHeld t=false then ov (xh P m) fs.toList else none
  |some (.array n e)=>if P.cellsOf t=n * P.cellsOf e then (xh P m e).map (dJ n) else none
  |_=>none
section
variable {P:Program}
theorem RD {m:Nat} {t:TypeId} {ks:List Nat} (h:xh P m t=some ks):∃ i,P.info? t=some i:=by
 cases m with
 |zero=>simp[xh] at h
 |succ m=>
  unfold xh at h
  cases hu:P.underlying t with
  |none=>simp[hu] at h
  |some d=>exact info_of_underlying hu
theorem fy {m:Nat} {t:TypeId} {ks:List Nat} (h:xh P m t=some ks):Ld P t=some (P.cellsOf t):=by
 obtain⟨i,hi⟩:=RD h
 simp[Ld,Program.cellsOf,hi]
theorem Lu {g:TypeId→Option (List Nat)} (hg:∀ t ks,g t=some ks→ks.length=P.cellsOf t):∀ {fs:List Field} {o n:Nat} {ks:List Nat},ov g fs=some ks→tz P o fs=some n→o+ks.length=n
 | [],o,n,ks,h,hl=>by
   simp only[ov,Option.some.injEq] at h;subst h
   simp only[tz,Option.some.injEq] at hl;simpa using hl
 |f::fs,o,n,ks,h,hl=>by
  simp only[ov] at h
  split at h
  ·simp only[Option.bind_eq_some_iff,Option.map_eq_some_iff] at h
   obtain⟨a,h1,b,h2,rfl⟩:=h
   simp only[tz] at hl
   split at hl
   ·have:=Lu hg h2 hl
    have:=hg _ _ h1
    simp;omega
   ·cases hl
  ·cases h
theorem vV (n:Nat) (ks:List Nat):(dJ n ks).length=n * ks.length:=by
 induction n with
 |zero=>simp[dJ]
 |succ n ih=>simp[dJ,ih,Nat.succ_mul];omega
theorem Kh:∀ {m:Nat} {t:TypeId} {ks:List Nat},xh P m t=some ks→ks.length=P.cellsOf t
 |0,_,_,h=>by simp[xh] at h
 |m+1,t,ks,h=>by
  unfold xh at h
  split at h
  ·split at h
   ·rename_i e;injection h with h;subst h;simp[e]
   ·cases h
  ·split at h
   ·rename_i e;injection h with h;subst h;simp[e]
   ·cases h
  ·split at h
   ·rename_i e;injection h with h;subst h;simp[e]
   ·cases h
  ·split at h
   ·rename_i e
    have:=Lu (P:=P) (fun t ks h=>Kh (m:=m) h) h e.1
    omega
   ·cases h
  ·split at h
   ·rename_i e
    simp only[Option.map_eq_some_iff] at h
    obtain⟨a,h1,rfl⟩:=h
    rw[vV,Kh h1,e]
   ·cases h
  ·cases h
theorem Ax {m:Nat} {t:TypeId} {ks:List Nat} (h:xh P m t=some ks):(Fl P t=some true)∨(Fl P t=some false∧P.cellsOf t=1∧
 ((P.underlying t=some .bool∧ks=[0])∨((∃ k,P.underlying t=some (.int k))∧ks=[1])∨(P.underlying t=some .string∧ks=[2]))):=by
 cases m with
 |zero=>simp[xh] at h
 |succ m=>
  unfold xh at h
  unfold Fl
  split at h
  ·rename_i hu
   split at h
   ·rename_i e;injection h with h;exact .inr ⟨by simp[hu],e,.inl ⟨hu,h.symm⟩⟩
   ·cases h
  ·rename_i k hu
   split at h
   ·rename_i e;injection h with h;exact .inr ⟨by simp[hu],e,.inr (.inl ⟨⟨k,hu⟩,h.symm⟩)⟩
   ·cases h
  ·rename_i hu
   split at h
   ·rename_i e;injection h with h;exact .inr ⟨by simp[hu],e,.inr (.inr ⟨hu,h.symm⟩)⟩
   ·cases h
  ·rename_i hu;exact .inl (by simp[hu])
  ·rename_i hu;exact .inl (by simp[hu])
  ·cases h
variable {w:World}
theorem Zt {m:Nat} {e:TypeId} {ks:List Nat} (he:xh P m e=some ks) {xs:List Value} {off:Nat} (hl:off+P.cellsOf e≤xs.length):
 (part e ⟨xs⟩ off).run P w= .ok (valOf P e ((xs.drop off).take (P.cellsOf e))) w:=by
 rcases Ax he with ha | ⟨ha,h1,_⟩
 ·rw[gu (n:=P.cellsOf e) ha (fun _=>fy he) (fun hb=>by cases hb)]
  congr 1
  unfold valOf
  simp only[if_true,ha]
  congr 1
  apply Array.ext'
  simp[List.extract_eq_take_drop]
 ·rw[gu (n:=P.cellsOf e) ha (fun _=>fy he) (fun _=>⟨xs[off]'(by omega),by simp[show off < xs.length by omega]⟩)]
  congr 1
  unfold valOf
  simp only[ha,Bool.false_eq_true,if_false,Option.some.injEq]
  rw[h1]
  have hlt:off < xs.length:=by omega
  rw[List.take_one,List.head?_drop]
  simp[Array.getD_eq_getD_getElem?,hlt]
def zZ (P:Program) (dd:Nat) (e:TypeId) (ks:List Nat):Prop:=
 ∀ (w:World) (xs ys:List Value) (b:Bool),xs.length=P.cellsOf e→ys.length=P.cellsOf e→Zg ks xs ys=some b→(Op.equalIn dd e (valOf P e xs) (valOf P e ys)).run P w= .ok b w
theorem vB (dd m:Nat) (xs ys:List Value) (hE:∀ t ks,xh P m t=some ks→zZ P dd t ks):∀ (fs:List Field) (ks:List Nat) (o n:Nat) (b:Bool),ov (xh P m) fs=some ks→tz P o fs=some n→n=xs.length→n=ys.length→
 Zg ks (xs.drop o) (ys.drop o)=some b→(Op.eqFields dd ⟨xs⟩ ⟨ys⟩ fs).run P w= .ok b w
 | [],ks,o,n,b,hk,hl,h1,h2,h=>by
   simp only[ov,Option.some.injEq] at hk
   subst hk
   simp only[tz,Option.some.injEq] at hl
   subst hl
   rw[List.drop_eq_nil_of_le (by omega),List.drop_eq_nil_of_le (by omega)] at h
   simp only[Zg,Option.some.injEq] at h
   subst h
   simp[Op.eqFields]
 |f::fs,ks,o,n,b,hk,hl,h1,h2,h=>by
  simp only[ov] at hk
  split at hk
  ·rename_i hn
   simp only[bne_iff_ne,ne_eq] at hn
   simp only[Option.bind_eq_some_iff,Option.map_eq_some_iff] at hk
   obtain⟨k1,e1,k2,e2,rfl⟩:=hk
   simp only[tz] at hl
   split at hl
   ·rename_i ho
    subst ho
    have hle:=Lu (P:=P) (fun t ks h=>Kh (m:=m) h) e2 hl
    have hlen:=Kh e1
    have px:=Zt (w:=w) e1 (xs:=xs) (off:=f.offset) (by omega)
    have py:=Zt (w:=w) e1 (xs:=ys) (off:=f.offset) (by omega)
    rw[← List.take_append_drop (P.cellsOf f.type) (xs.drop f.offset),←List.take_append_drop (P.cellsOf f.type) (ys.drop f.offset)] at h
    obtain⟨c,d,h3,h4,rfl⟩:=Zm (by simp;omega) (by simp;omega) h
    rw[List.drop_drop,List.drop_drop] at h4
    have he:=hE _ _ e1 w _ _ c (by simp;omega) (by simp;omega) h3
    have ih:=vB dd m xs ys hE fs k2 (f.offset+P.cellsOf f.type) n d e2 hl h1 h2 h4
    simp only[Op.eqFields,hn,ne_eq,not_false_eq_true,if_true,Sem.run_bind,px,py,he,Result.andThen_ok]
    cases c
    ·simp
    ·simpa using ih
   ·cases hl
  ·cases hk
theorem WE (dd m:Nat) {e:TypeId} {ks:List Nat} (he:xh P m e=some ks) (hE:zZ P dd e ks) (xs ys:List Value):∀ (k i:Nat) (b:Bool),xs.length=(i+k) * P.cellsOf e→ys.length=(i+k) * P.cellsOf e→
 Zg (dJ k ks) (xs.drop (i * P.cellsOf e)) (ys.drop (i * P.cellsOf e))=some b→(Op.eqItems dd e (P.cellsOf e) ⟨xs⟩ ⟨ys⟩ (List.range' i k)).run P w= .ok b w
 |0,i,b,h1,h2,h=>by
  rw[List.drop_eq_nil_of_le (by simp at h1;omega),List.drop_eq_nil_of_le (by simp at h2;omega)] at h
  simp only[dJ,Zg,Option.some.injEq] at h
  subst h
  simp[Op.eqItems]
 |k+1,i,b,h1,h2,h=>by
  have hlen:=Kh he
  have hx:i * P.cellsOf e+P.cellsOf e≤xs.length:=by
   rw[h1,←Nat.succ_mul];exact Nat.mul_le_mul_right _ (by omega)
  have hy:i * P.cellsOf e+P.cellsOf e≤ys.length:=by
   rw[h2,←Nat.succ_mul];exact Nat.mul_le_mul_right _ (by omega)
  have px:=Zt (w:=w) he (xs:=xs) (off:=i * P.cellsOf e) hx
  have py:=Zt (w:=w) he (xs:=ys) (off:=i * P.cellsOf e) hy
  rw[← List.take_append_drop (P.cellsOf e) (xs.drop _),←List.take_append_drop (P.cellsOf e) (ys.drop _)] at h
  obtain⟨c,d,h3,h4,rfl⟩:=Zm (by simp;omega) (by simp;omega) h
  rw[List.drop_drop,List.drop_drop,←Nat.succ_mul] at h4
  have hq:=hE w _ _ c (by simp;omega) (by simp;omega) h3
  have ih:=WE dd m he hE xs ys k (i+1) d (by rw[h1];congr 1;omega) (by rw[h2];congr 1;omega) h4
  rw[List.range'_succ]
  simp only[Op.eqItems,Sem.run_bind,px,py,hq,Result.andThen_ok]
  cases c
  ·simp
  ·simpa using ih
theorem OH (d:Nat):∀ (m:Nat) (t:TypeId) (ks:List Nat),xh P m t=some ks→zZ P (d+m) t ks
 |0,_,_,h=>by simp[xh] at h
 |m+1,t,ks,hk=>by
  intro w xs ys b hx hy h
  rw[show d+(m+1)=(d+m)+1 from rfl]
  rcases Ax hk with ha | ⟨ha,h1,hc⟩
  ·have vx:valOf P t xs= .agg ⟨xs⟩:=by simp[valOf,ha]
   have vy:valOf P t ys= .agg ⟨ys⟩:=by simp[valOf,ha]
   rw[vx,vy]
   unfold xh at hk
   split at hk
   ·rename_i hu;simp[Fl,hu] at ha
   ·rename_i hu;simp[Fl,hu] at ha
   ·rename_i hu;simp[Fl,hu] at ha
   ·rename_i fs hu
    split at hk
    ·rename_i e
     have hfs:P.fieldsOf t=fs:=by simp[Program.fieldsOf,hu]
     rw[run_equalIn_struct w (d+m) t ⟨xs⟩ ⟨ys⟩ (by rw[hfs];exact hu) e.2,hfs]
     exact vB (d+m) m xs ys (fun t ks h=>OH d m t ks h) fs.toList ks 0 (P.cellsOf t) b hk e.1 hx.symm hy.symm (by simpa using h)
    ·cases hk
   ·rename_i n e hu
    split at hk
    ·rename_i hsz
     simp only[Option.map_eq_some_iff] at hk
     obtain⟨a,h3,rfl⟩:=hk
     obtain⟨i,hi⟩:=RD h3
     rw[run_equalIn_array w (d+m) ⟨xs⟩ ⟨ys⟩ hu hi,List.range_eq_range']
     exact WE (d+m) m h3 (OH d m e a h3) xs ys n 0 b (by rw[hx,hsz,Nat.zero_add]) (by rw[hy,hsz,Nat.zero_add]) (by simpa using h)
    ·cases hk
   ·cases hk
  ·rw[h1] at hx hy
   match xs,ys,hx,hy with
   | [x],[y],_,_=>
     have vx:valOf P t [x]=x:=by simp[valOf,ha]
     have vy:valOf P t [y]=y:=by simp[valOf,ha]
     rw[vx,vy]
     have one:∀ k,ks=[k]→Nr k x y=some b:=by
      rintro k rfl
      simpa[Zg] using h
     rcases hc with⟨hu,rfl⟩ | ⟨⟨kk,hu⟩,rfl⟩ | ⟨hu,rfl⟩
     ·rcases Tk (one _ rfl) with⟨_,c,e,rfl,rfl,rfl⟩ | ⟨h,_⟩ | ⟨h,_⟩
      ·simp[Op.equalIn,run_underlying hu]
      ·cases h
      ·cases h
     ·rcases Tk (one _ rfl) with⟨h,_⟩ | ⟨_,i,c,e,rfl,rfl,rfl⟩ | ⟨h,_⟩
      ·cases h
      ·simp[Op.equalIn,run_underlying hu]
      ·cases h
     ·rcases Tk (one _ rfl) with⟨h,_⟩ | ⟨h,_⟩ | ⟨_,c,e,rfl,rfl,rfl⟩
      ·cases h
      ·cases h
      ·simp[Op.equalIn,run_underlying hu]
def Sy (P:Program) (t:TypeId):Kd→Bool
 | .one c=>xh P 8 t==some [c]&&Fl P t==some false
 | .row ks=>xh P 8 t==some ks&&Fl P t==some true
theorem PD {R:Rd} {t:TypeId} {kd:Kd} (hk:Sy P t kd=true) {p q:PV} {v u:Value} (hp:Sa R p v) (hq:Sa R q u) {b:Bool} (h:Zk kd p q=some b):(Op.equal t v u).run P w= .ok b w:=by
 show (Op.equalIn (9992+8) t v u).run P w=_
 cases kd with
 |one c=>
  simp only[Sy,Bool.and_eq_true,beq_iff_eq] at hk
  have:=OH 9992 8 t [c] hk.1 w [v] [u] b (by have:=Kh hk.1;simpa using this) (by have:=Kh hk.1;simpa using this) (by
   simp only[Zk] at h
   simp[Zg,Mt hp hq h])
  simpa[valOf,hk.2] using this
 |row ks=>
  simp only[Sy,Bool.and_eq_true,beq_iff_eq] at hk
  unfold Zk at h
  split at h
  ·cases ‹Kd.row ks=_›
  ·rename_i ks' xs ys e
   injection e with e;subst e
   cases hp with
   |agg _ vs h1=>
    cases hq with
    |agg _ us h2=>
     have hr:=Wz h1 h2 h
     have lens:∀ {ks:List Nat} {xs ys:List Value} {b:Bool},Zg ks xs ys=some b→xs.length=ks.length∧ys.length=ks.length:=by
      intro ks
      induction ks with
      |nil=>intro xs ys b h;cases xs <;> cases ys <;> simp_all [Zg]
      |cons k ks ih=>
       intro xs ys b h
       cases xs <;> cases ys <;> simp only[Zg,Option.bind_eq_some_iff,Option.map_eq_some_iff] at h
       ·cases h
       ·cases h
       ·cases h
       ·obtain⟨_,_,_,h2,_⟩:=h
        have:=ih h2
        simp[this.1,this.2]
     have hl:=lens hr
     have hn:=Kh hk.1
     have:=OH 9992 8 t ks hk.1 w vs us b (by omega) (by omega) hr
     simpa[valOf,hk.2] using this
  ·cases h
end
end Go.AM
namespace Go.AM
open Go.RowKit
def tZ (P:Program) (t:TypeId) (f:TypeDesc→Bool):Bool:=
 match P.underlying t with
 |some d=>f d
 |none=>false
def bZ (P:Program) (t:TypeId):Option Nat:=
 match P.underlying t with
 |some .bool=>some 0
 |some (.pointer _)=>some 1
 |some (.slice _)=>some 2
 |some (.func _ _ _)=>some 3
 |_=>none
def gY (P:Program) (t:TypeId):Bool:=
 match P.underlying t with
 |some (.int .u8)=>true
 |_=>false
def SY (P:Program) (t:TypeId):Bool:=
 match P.underlying t with
 |some .string=>true
 |_=>false
def MZ (P:Program) (t:TypeId) (k:IntKind):Bool:=
 match P.underlying t with
 |some (.int k')=>decide (k'=k)
 |_=>false
def Kv (P:Program) (t:TypeId):Option TypeId:=
 match P.underlying t with
 |some (.slice e)=>some e
 |_=>none
def fW (P:Program) (el:TypeId) (sz:Nat) (ag:Bool) (zero:List PV):Bool:=
 Ld P el==some sz&&decide (0 < sz)&&(ag||sz==1)&&Mq P el zero&&zero.length==sz&&Fl P el==some ag
def iU (P:Program) (t tx e:TypeId) (sz bytes:Nat):Bool:=
 Kv P t==some e&&(tZ P tx fun d=>match d with | .slice e'=>e'==e | .string=>true | _=>false)&&Ld P e==some sz&&qp P e==some bytes&&decide (0 < bytes)&&decide (0 < sz)&&TO P e sz
def Ww (fo:Nat→FuncId):List (Nat×Operand)→List (Nat×AO)→Bool
 | [],[]=>true
 | (i,x)::xs,(j,y)::ys=>i==j&&Zl fo x y&&Ww fo xs ys
 |_,_=>false
def HO (fo:Nat→FuncId):Option Operand→Option AO→Bool
 |none,none=>true
 |some x,some y=>Zl fo x y
 |_,_=>false
def IX (P:Program) (t:TypeId) (f:Nat):Option Field:=
 match P.underlying t with
 |some (.struct fs)=>fs[f]?
 |_=>none
def Zq (P:Program) (fo:Nat→FuncId) (fs:Array Field):List (Nat×Operand)→List (Nat×Nat×AO)→Bool
 | [],[]=>true
 | (i,x)::xs,(off,sz,y)::ys=>
   (match fs[i]? with | some f=>f.offset==off&&Ld P f.type==some sz | none=>false)&&Zl fo x y&&Zq P fo fs xs ys
 |_,_=>false
def yN (P:Program) (t:TypeId) (kd:Kd):Bool:=
 match P.underlying t with
 |some (.map k _)=>Sy P k kd
 |_=>false
def RV (P:Program) (t:TypeId) (zero:PV):Bool:=
 match P.underlying t with
 |some (.map _ e)=>
  (match P.info? e with
  |some i=>(match i.zero,zero with
   |some (.agg cs),.agg ps=>Iq cs.toList ps
   |some z,p=>Lz z p
   |none,_=>false)
  |none=>false)
 |_=>false
def YU (P:Program) (fo:Nat→FuncId):Op→qd→Bool
 | .move x,.move y=>Zl fo x y
 | .assign x,.move y=>Zl fo x y
 | .pick c a b,.pick c' a' b'=>Zl fo c c'&&Zl fo a a'&&Zl fo b b'
 | .alloc t,.alloc zero=>Mq P t zero
 | .box _ x,.box _ y=>Zl fo x y
 | .build t parts,.build zero aparts=>
   (match P.underlying t with
   |some (.struct fs)=>Zq P fo fs parts.toList aparts&&fs.all fun f=>(Ld P f.type).isSome
   |some (.array _ el)=>parts.toList.isEmpty&&aparts.isEmpty&&(Ld P el).isSome
   |_=>false)&&Mq P t zero
 | .buildSlice t len parts,.Gb _ sz ag len' zero aparts=>
   (match Kv P t with
   |some el=>fW P el sz ag zero
   |none=>false)&&len==len'&&decide (len * sz≤2 ^ 24)&&Ww fo parts.toList aparts
 | .load t x,.load ag n y=>Fl P t==some ag&&(!ag||Ld P t==some n)&&Zl fo x y
 | .store t p x,.store n q y=>Ld P t==some n&&Zl fo p q&&Zl fo x y
 | .nilCheck x,.bD y=>Zl fo x y
 | .binOp op _ x y _,.bin op' x' y'=>decide (op=op')&&Zl fo x x'&&Zl fo y y'
 | .binOp .eql t x y _,.eq k false x' y'=>bZ P t==some k&&Zl fo x x'&&Zl fo y y'
 | .binOp .neq t x y _,.eq k true x' y'=>bZ P t==some k&&Zl fo x x'&&Zl fo y y'
 | .unOp op _ x,.un op' y=>decide (op=op')&&Zl fo x y
 | .convert s d x,.conv k y=>(P.underlying s).isSome&&MZ P d k&&Zl fo x y
 | .convert s d x,.PX y=>(match Kv P s with | some el=>gY P el | none=>false)&&SY P d&&Zl fo x y
 | .convert s d x,.jW _ y=>(P.underlying s).isSome&&(match Kv P d with | some el=>gY P el | none=>false)&&Zl fo x y
 | .makeFunc (.func f) first caps,.PF ix ys=>first.size==0&&fo ix==f&&PE fo caps.toList ys
 | .makeSlice t l c,.Xg _ sz ag zero bytes l' c'=>
   (match Kv P t with
   |some el=>fW P el sz ag zero&&qp P el==some bytes
   |none=>false)&&decide (0 < bytes)&&Zl fo l l'&&Zl fo c c'
 | .slice t x lo hi none,.slice sz y lo' hi'=>
   (match P.underlying t with
   |some (.slice el)=>sz != 0&&Ld P el==some sz
   |some .string=>sz==0
   |_=>false)&&Zl fo x y&&HO fo lo lo'&&HO fo hi hi'
 | .fieldAddr t x f,.PC off y=>
   (match IX P t f with
   |some fd=>fd.offset==off&&(match Ld P fd.type with | some n=>n != 0 | none=>false)
   |none=>false)&&Zl fo x y
 | .field t x f,.PY off ag n y=>
   (match IX P t f with
   |some fd=>fd.offset==off&&Fl P fd.type==some ag&&(!ag||Ld P fd.type==some n)
   |none=>false)&&Zl fo x y
 | .indexAddr t x i,.sd sz y j=>(match Kv P t with | some el=>Ld P el==some sz | none=>false)&&Zl fo x y&&Zl fo i j
 | .indexAddr t x i,.Yv n sz y j=>
   (match P.underlying t with
   |some (.array n' el)=>n'==n&&Ld P el==some sz
   |_=>false)&&Zl fo x y&&Zl fo i j
 | .index t x i,.BV n sz ag y j=>
   (match P.underlying t with
   |some (.array n' el)=>n'==n&&Ld P el==some sz&&Fl P el==some ag
   |_=>false)&&Zl fo x y&&Zl fo i j
 | .index t x i,.LY y j=>SY P t&&Zl fo x y&&Zl fo i j
 | .extract x i,.ext i' y=>i==i'&&Zl fo x y
 | .call {callee:= .builtin .len,args,argTypes},.len k y=>
   (match args.toList,argTypes.toList with
   | [x],[t]=>Zl fo x y&&(match P.underlying t with | some (.slice _)=>k==0 | some .string=>k==1 | _=>false)
   |_,_=>false)
 | .call {callee:= .builtin .max,args,..},.mx ys=>PE fo args.toList ys
 | .call {callee:= .builtin .min,args,..},.mn ys=>PE fo args.toList ys
 | .call {callee:= .builtin .append,args,argTypes},.append _ _ sz ag bytes s y=>
   (match args.toList,argTypes.toList with
   | [x,z],[t,tx]=>Zl fo x s&&Zl fo z y&&(match Kv P t with | some el=>iU P t tx el sz bytes&&Fl P el==some ag | none=>false)
   |_,_=>false)
 | .box _ x,.bN _ y=>Zl fo x y
 | .binOp .eql t x y _,.ZV (.row ks) false x' y'=>Sy P t (.row ks)&& !P.eqGuardType P.depth t&&Zl fo x x'&&Zl fo y y'
 | .binOp .neq t x y _,.ZV (.row ks) true x' y'=>Sy P t (.row ks)&& !P.eqGuardType P.depth t&&Zl fo x x'&&Zl fo y y'
 | .makeMap _ none,.sE=>true
 | .lookup t x k ok,.lookup kd zero ok' x' k'=>yN P t kd&&RV P t zero&&ok==ok'&&Zl fo x x'&&Zl fo k k'
 | .mapUpdate t m k v,.tu kd m' k' v'=>yN P t kd&&Zl fo m m'&&Zl fo k k'&&Zl fo v v'
 | .insert t m k v,.tu kd m' k' v'=>yN P t kd&&Zl fo m m'&&Zl fo k k'&&Zl fo v v'
 | .convert s d x,.YY y=>s==d&&(match Kv P d with | some el=>gY P el | none=>false)&&Zl fo x y
 |_,_=>false
def xz (P:Program) (fo:Nat→FuncId) (B0:Of) (o:Oper) (a:Act) (w:World) (R:Rd) (φ:Pl) (H:List ba) (v:AV) (H':List ba):Prop:=
 ∀ (next:Act→World→Prop) (Q:Exit→Act→World→Prop),
  (∀ v' w' R' φ',ic fo B0 w' R' φ' H'→Kc fo (K R' φ' H') v v'→(∀ a u,K R φ H a u→K R' φ' H' a u)→zg B0 w w'→next (a.put o.dst v') w')→o.wp P a w next Q
section ops
variable {P:Program} {fo:Nat→FuncId} {B0:Of} {w:World} {R:Rd} {φ:Pl} {H H':List ba} {e:Tr} {a:Act}
theorem xz.Wc {o:Oper} {v:AV} {s:Sem Value} (h:execOp a.eval o=(do pure (.value (← s)))) (hr:Nl fo B0 w R φ H P s v H'):xz P fo B0 o a w R φ H v H':=by
 intro next Q hn
 obtain⟨v',w',R',φ',h1,h2,h3,h4,h5⟩:=hr
 unfold Oper.wp
 rw[h,Sem.run_bind,h1]
 exact hn v' w' R' φ' h2 h3 h4 h5
theorem xz.Fs {o:Oper} {v:AV} {v':Value} (hS:ic fo B0 w R φ H) (h:(execOp a.eval o).run P w= .ok (.value v') w) (hv:Kc fo (K R φ H) v v'):xz P fo B0 o a w R φ H v H:=by
 intro next Q hn
 unfold Oper.wp
 rw[h]
 exact hn v' w R φ hS hv (fun _ _ h=>h) (zg.refl _ _)
theorem xH {el:TypeId} {sz:Nat} {ag:Bool} {zero:List PV} (h:fW P el sz ag zero=true):dU P el sz ag zero:=by
 simp only[fW,Bool.and_eq_true,beq_iff_eq,decide_eq_true_eq,Bool.or_eq_true] at h
 obtain⟨⟨⟨⟨⟨h1,h2⟩,h3⟩,h4⟩,h5⟩,h6⟩:=h
 exact⟨h1,h2,fun e=>by rcases h3 with h | h;simp[e] at h;exact h,h4,h5⟩
theorem Nn {t el:TypeId} (h:Kv P t=some el):P.underlying t=some (.slice el):=by
 unfold Kv at h
 split at h
 ·rename_i e he;injection h with h;subst h;exact he
 ·cases h
theorem QU {t:TypeId} {f:TypeDesc→Bool} (h:tZ P t f=true):∃ d,P.underlying t=some d∧f d=true:=by
 unfold tZ at h
 split at h
 ·rename_i d hd;exact⟨d,hd,h⟩
 ·cases h
theorem aN {t tx el:TypeId} {sz bytes:Nat} (h:iU P t tx el sz bytes=true):jP P t tx el sz bytes:=by
 simp only[iU,Bool.and_eq_true,beq_iff_eq,decide_eq_true_eq] at h
 obtain⟨⟨⟨⟨⟨⟨h1,h2⟩,h3⟩,h4⟩,h5⟩,h6⟩,h7⟩:=h
 obtain⟨d,hd,hf⟩:=QU h2
 refine⟨Nn h1,⟨d,hd,?_⟩,h3,h4,h5,h6,h7⟩
 cases d <;> simp at hf
 ·exact .inr rfl
 ·exact .inl (by rw[hf])
theorem Uk {t:TypeId} {k:Nat} (h:bZ P t=some k):(k=0∧P.underlying t=some .bool)∨(k=1∧∃ e,P.underlying t=some (.pointer e))∨(k=2∧∃ e,P.underlying t=some (.slice e))∨(k=3∧∃ p r v,P.underlying t=some (.func p r v)):=by
 unfold bZ at h
 split at h <;> first
  |cases h;done
  | (injection h with h;subst h;simp_all)
theorem Kc.IC {K:AV→Value→Prop} {id off:Nat} {v:Value} (h:Kc fo K (.ptr id off) v):K (.ptr id off) v:=by cases h with | atom _ _ h=>exact h
theorem Kc.Sz {K:AV→Value→Prop} {id off:Nat} {v:Value} (h:Kc fo K (.own id off) v):K (.own id off) v:=by cases h with | atom _ _ h=>exact h
theorem Kc.Su {K:AV→Value→Prop} {id sz:Nat} {nl:Bool} {es:List PV} {v:Value} (h:Kc fo K (.uq id nl sz es) v):K (.uq id nl sz es) v:=by cases h with | atom _ _ h=>exact h
theorem ij {t:TypeId} (hu:P.underlying t=some .bool) (d:Nat) (a b:Bool):(Op.equalIn (d+1) t (.bool a) (.bool b)).run P w= .ok (a==b) w:=by
 simp[Op.equalIn,run_underlying hu]
theorem Cl {t el:TypeId} (hu:P.underlying t=some (.pointer el)) (d:Nat) (a:Option Addr):(Op.equalIn (d+1) t (.pointer a) (.pointer none)).run P w= .ok a.isNone w:=by
 cases a <;> simp[Op.equalIn,run_underlying hu]
theorem fj {t el:TypeId} (hu:P.underlying t=some (.pointer el)) (d:Nat) (a:Option Addr):(Op.equalIn (d+1) t (.pointer none) (.pointer a)).run P w= .ok a.isNone w:=by
 cases a <;> simp[Op.equalIn,run_underlying hu]
theorem Lh {t el:TypeId} (hu:P.underlying t=some (.slice el)) (d:Nat) (a:Option Addr) (n c m k:Nat):(Op.equalIn (d+1) t (.slice a n c) (.slice none m k)).run P w= .ok a.isNone w:=by
 cases a <;> simp[Op.equalIn,run_underlying hu]
theorem oj {t:TypeId} {p r:Array TypeId} {v:Bool} (hu:P.underlying t=some (.func p r v)) (d:Nat) (f:Fn) (x y:Array Value):(Op.equalIn (d+1) t (.func f x y) .nilFunc).run P w= .ok false w:=by
 simp[Op.equalIn,run_underlying hu]
theorem Gh {t:TypeId} {p r:Array TypeId} {v:Bool} (hu:P.underlying t=some (.func p r v)) (d:Nat):(Op.equalIn (d+1) t .nilFunc .nilFunc).run P w= .ok true w:=by
 simp[Op.equalIn,run_underlying hu]
theorem VS {t:TypeId} {k:Nat} (ht:bZ P t=some k) (hS:ic fo B0 w R φ H) {x y:AV} {vx vy:Value} (hx:Kc fo (K R φ H) x vx) (hy:Kc fo (K R φ H) y vy) {b:Bool} (h:Vs H k x y=some b):
 (∀ op:BinOp,op= .eql∨op= .neq→∀ (ox oy:Operand),(do eqGuard op t ox oy vx vy;binOp op t vx vy:Sem Value).run P w= .ok (.bool (if op= .neq then !b else b)) w):=by
 have key:(Op.equal t vx vy).run P w= .ok b w→(∀ (op:BinOp) (ox oy:Operand),(eqGuard op t ox oy vx vy)=pure ())→(∀ op:BinOp,(op= .eql→binOp op t vx vy=(do pure (.bool (← Op.equal t vx vy))))∧(op= .neq→binOp op t vx vy=(do pure (.bool (!(← Op.equal t vx vy))))))→
  (∀ op:BinOp,op= .eql∨op= .neq→∀ (ox oy:Operand),(do eqGuard op t ox oy vx vy;binOp op t vx vy:Sem Value).run P w= .ok (.bool (if op= .neq then !b else b)) w):=by
  intro h1 h2 h3 op hop ox oy
  rcases hop with rfl | rfl
  ·simp[h2,(h3 .eql).1 rfl,h1]
  ·simp[h2,(h3 .neq).2 rfl,h1]
 have one:∀ (x y:Value),(Op.equal t x y).run P w=(Op.equalIn (9999+1) t x y).run P w:=fun _ _=>rfl
 unfold Vs at h
 split at h
 ·
  have h1:=hx.Qb;have h2:=hy.Qb
  cases h1;cases h2
  injection h with h;subst h
  have hu:=Uk ht
  simp at hu
  refine key ?_ (fun op ox oy=>by cases op <;> rfl) (fun op=>⟨fun e=>by subst e;rfl,fun e=>by subst e;rfl⟩)
  rw[one]
  first | exact ij hu 9999 _ _ | exact Cl hu 9999 _ | exact fj hu 9999 _ | exact Lh hu 9999 _ _ _ _ _ | exact oj hu 9999 _ _ _ | exact Gh hu 9999
 ·have h1:=hx.Qb;have h2:=hy.Qb
  cases h1;cases h2
  injection h with h;subst h
  have hu:=Uk ht
  simp at hu
  obtain⟨e,hu⟩:=hu
  refine key ?_ (fun op ox oy=>by cases op <;> rfl) (fun op=>⟨fun e=>by subst e;rfl,fun e=>by subst e;rfl⟩)
  rw[one]
  first | exact ij hu 9999 _ _ | exact Cl hu 9999 _ | exact fj hu 9999 _ | exact Lh hu 9999 _ _ _ _ _ | exact oj hu 9999 _ _ _ | exact Gh hu 9999
 ·have h1:=hx.Qb;have h2:=hy.Qb
  cases h1;cases h2
  injection h with h;subst h
  have hu:=Uk ht
  simp at hu
  obtain⟨e,hu⟩:=hu
  refine key ?_ (fun op ox oy=>by cases op <;> rfl) (fun op=>⟨fun e=>by subst e;rfl,fun e=>by subst e;rfl⟩)
  rw[one]
  first | exact ij hu 9999 _ _ | exact Cl hu 9999 _ | exact fj hu 9999 _ | exact Lh hu 9999 _ _ _ _ _ | exact oj hu 9999 _ _ _ | exact Gh hu 9999
 ·have h1:=hx.Qb;have h2:=hy.Qb
  cases h1;cases h2
  injection h with h;subst h
  have hu:=Uk ht
  simp at hu
  obtain⟨e,hu⟩:=hu
  refine key ?_ (fun op ox oy=>by cases op <;> rfl) (fun op=>⟨fun e=>by subst e;rfl,fun e=>by subst e;rfl⟩)
  rw[one]
  first | exact ij hu 9999 _ _ | exact Cl hu 9999 _ | exact fj hu 9999 _ | exact Lh hu 9999 _ _ _ _ _ | exact oj hu 9999 _ _ _ | exact Gh hu 9999
 ·
  split at h
  ·rename_i hc
   have h2:=hy.Qb
   cases h2
   injection h with h;subst h
   have h1:=hx.IC
   rw[h1.2.2 _ hc]
   have hu:=Uk ht
   simp at hu
   obtain⟨e,hu⟩:=hu
   rw[h1.2.2 _ hc] at key
   refine key ?_ (fun op ox oy=>by cases op <;> rfl) (fun op=>⟨fun e=>by subst e;rfl,fun e=>by subst e;rfl⟩)
   rw[one]
   first | exact ij hu 9999 _ _ | exact Cl hu 9999 _ | exact fj hu 9999 _ | exact Lh hu 9999 _ _ _ _ _ | exact oj hu 9999 _ _ _ | exact Gh hu 9999
  ·cases h
 ·have h1:=hx.Qb;have h2:=hy.Qb
  cases h1;cases h2
  injection h with h;subst h
  have hu:=Uk ht
  simp at hu
  obtain⟨e,hu⟩:=hu
  refine key ?_ (fun op ox oy=>by cases op <;> rfl) (fun op=>⟨fun e=>by subst e;rfl,fun e=>by subst e;rfl⟩)
  rw[one]
  first | exact ij hu 9999 _ _ | exact Cl hu 9999 _ | exact fj hu 9999 _ | exact Lh hu 9999 _ _ _ _ _ | exact oj hu 9999 _ _ _ | exact Gh hu 9999
 ·have h1:=hx.Qb;have h2:=hy.Qb
  cases h2
  obtain⟨a7,n7,c7,rfl⟩:∃ a n c,vx= .slice (some a) n c:=by cases h1 <;> exact⟨_,_,_,rfl⟩
  injection h with h;subst h
  have hu:=Uk ht
  simp at hu
  obtain⟨e,hu⟩:=hu
  refine key ?_ (fun op ox oy=>by cases op <;> rfl) (fun op=>⟨fun e=>by subst e;rfl,fun e=>by subst e;rfl⟩)
  rw[one]
  first | exact ij hu 9999 _ _ | exact Cl hu 9999 _ | exact fj hu 9999 _ | exact Lh hu 9999 _ _ _ _ _ | exact oj hu 9999 _ _ _ | exact Gh hu 9999
 ·
  rename_i nl sz es
  have h2:=hy.Qb
  cases h2
  injection h with h;subst h
  have h1:=hx.Su
  have hu:=Uk ht
  simp at hu
  obtain⟨e,hu⟩:=hu
  cases nl with
  |true=>
   rw[(h1.2.1 rfl).1] at key ⊢
   refine key ?_ (fun op ox oy=>by cases op <;> rfl) (fun op=>⟨fun e=>by subst e;rfl,fun e=>by subst e;rfl⟩)
   rw[one]
   first | exact ij hu 9999 _ _ | exact Cl hu 9999 _ | exact fj hu 9999 _ | exact Lh hu 9999 _ _ _ _ _ | exact oj hu 9999 _ _ _ | exact Gh hu 9999
  |false=>
   have h3:=h1.2.2.1 rfl
   obtain⟨a8,n8,c8,rfl⟩:∃ a n c,vx= .slice (some a) n c:=by cases h3 <;> exact⟨_,_,_,rfl⟩
   refine key ?_ (fun op ox oy=>by cases op <;> rfl) (fun op=>⟨fun e=>by subst e;rfl,fun e=>by subst e;rfl⟩)
   rw[one]
   first | exact ij hu 9999 _ _ | exact Cl hu 9999 _ | exact fj hu 9999 _ | exact Lh hu 9999 _ _ _ _ _ | exact oj hu 9999 _ _ _ | exact Gh hu 9999
 ·
  split at h
  ·rename_i sz ag c fl nl hc
   split at h
   ·rename_i hcur
    injection h with h;subst h
    have h2:=hy.Qb
    cases h2
    have h1:=hx.Sz
    obtain⟨k0,k⟩:=h1.2.2 _ _ _ _ _ hc
    obtain⟨o0,o1,o2,_⟩:=hS.obj _ _ hc
    obtain⟨k1,k2⟩:=k (by omega)
    have hu:=Uk ht
    simp at hu
    obtain⟨e,hu⟩:=hu
    cases nl with
    |true=>
     rw[k1 rfl] at key ⊢
     refine key ?_ (fun op ox oy=>by cases op <;> rfl) (fun op=>⟨fun e=>by subst e;rfl,fun e=>by subst e;rfl⟩)
     rw[one]
     first | exact ij hu 9999 _ _ | exact Cl hu 9999 _ | exact fj hu 9999 _ | exact Lh hu 9999 _ _ _ _ _ | exact oj hu 9999 _ _ _ | exact Gh hu 9999
    |false=>
     rcases k2 rfl with⟨q1,q2,_⟩ | ⟨b,o,cap,q1,_,_⟩
     ·subst q1;exact absurd (List.eq_nil_of_length_eq_zero (by omega)) q2
     ·rw[q1] at key ⊢
      refine key ?_ (fun op ox oy=>by cases op <;> rfl) (fun op=>⟨fun e=>by subst e;rfl,fun e=>by subst e;rfl⟩)
      rw[one]
      first | exact ij hu 9999 _ _ | exact Cl hu 9999 _ | exact fj hu 9999 _ | exact Lh hu 9999 _ _ _ _ _ | exact oj hu 9999 _ _ _ | exact Gh hu 9999
   ·cases h
  ·cases h
 ·have h2:=hy.Qb
  cases h2
  injection h with h;subst h
  cases hx with
  |atom _ _ h=>exact h.elim
  |Fk ix cs vs hc=>
   have hu:=Uk ht
   replace hu:=((hu.resolve_left (by simp)).resolve_left (by simp)).resolve_left (by simp)
   obtain⟨_,p,r,v,hu⟩:=hu
   refine key ?_ (fun op ox oy=>by cases op <;> rfl) (fun op=>⟨fun e=>by subst e;rfl,fun e=>by subst e;rfl⟩)
   rw[one]
   first | exact ij hu 9999 _ _ | exact Cl hu 9999 _ | exact fj hu 9999 _ | exact Lh hu 9999 _ _ _ _ _ | exact oj hu 9999 _ _ _ | exact Gh hu 9999
 ·have h1:=hx.Qb;have h2:=hy.Qb
  cases h1;cases h2
  injection h with h;subst h
  have hu:=Uk ht
  replace hu:=((hu.resolve_left (by simp)).resolve_left (by simp)).resolve_left (by simp)
  obtain⟨_,p,r,v,hu⟩:=hu
  refine key ?_ (fun op ox oy=>by cases op <;> rfl) (fun op=>⟨fun e=>by subst e;rfl,fun e=>by subst e;rfl⟩)
  rw[one]
  first | exact ij hu 9999 _ _ | exact Cl hu 9999 _ | exact fj hu 9999 _ | exact Lh hu 9999 _ _ _ _ _ | exact oj hu 9999 _ _ _ | exact Gh hu 9999
 ·cases h
end ops
end Go.AM
namespace Go.AM
open Go.RowKit
section
variable {P:Program} {fo:Nat→FuncId} {B0:Of} {w:World} {R:Rd} {φ:Pl} {H H':List ba}
def bY (P:Program) (em:Bool) (dd:Nat) (e:TypeId) (ks:List Nat):Prop:=
 ∀ (w:World) (xs:List Value) (b:Bool),xs.length=P.cellsOf e→Zg ks xs xs=some b→(Instr.checkKey em dd e (valOf P e xs)).run P w= .ok () w
theorem Bx (em:Bool) (d:Nat):∀ (m:Nat) (t:TypeId) (ks:List Nat),xh P m t=some ks→bY P em (d+m) t ks
 |0,_,_,h=>by simp[xh] at h
 |m+1,t,ks,hk=>by
  intro w xs b hx h
  rw[show d+(m+1)=(d+m)+1 from rfl]
  rcases Ax hk with ha | ⟨ha,h1,hc⟩
  ·have vx:valOf P t xs= .agg ⟨xs⟩:=by simp[valOf,ha]
   rw[vx]
   unfold xh at hk
   split at hk
   ·rename_i hu;simp[Fl,hu] at ha
   ·rename_i hu;simp[Fl,hu] at ha
   ·rename_i hu;simp[Fl,hu] at ha
   ·rename_i fs hu
    split at hk
    ·rename_i e
     rw[Instr.checkKey]
     simp only[Sem.run_bind,run_underlying hu,Result.andThen_ok]
     rw[← Array.forIn_toList]
     have hE:=fun t ks h=>Bx em d m t ks h
     have hl:=e.1
     have h':Zg ks (xs.drop 0) (xs.drop 0)=some b:=by simpa using h
     clear h e hu vx ha
     generalize P.cellsOf t=n at hl hx
     generalize 0=o at hl h'
     generalize fs.toList=L at hk hl
     induction L generalizing ks o b with
     |nil=>simp
     |cons f L ih=>
      simp only[ov] at hk
      split at hk
      ·rename_i hn
       simp only[bne_iff_ne,ne_eq] at hn
       simp only[Option.bind_eq_some_iff,Option.map_eq_some_iff] at hk
       obtain⟨k1,e1,k2,e2,rfl⟩:=hk
       simp only[tz] at hl
       split at hl
       ·rename_i ho
        subst ho
        have hle:=Lu (P:=P) (fun t ks h=>Kh (m:=m) h) e2 hl
        have hlen:=Kh e1
        have px:=Zt (w:=w) e1 (xs:=xs) (off:=f.offset) (by omega)
        rw[← List.take_append_drop (P.cellsOf f.type) (xs.drop f.offset)] at h'
        obtain⟨c,g,h3,h4,rfl⟩:=Zm (by simp;omega) rfl h'
        rw[List.drop_drop] at h4
        have he:=hE _ _ e1 w _ c (by simp;omega) h3
        simp only[List.forIn_cons,Sem.run_bind,hn,ne_eq,not_false_eq_true,if_true,Result.andThen_ok,px,he,Sem.run_pure]
        exact ih _ _ _ h4 e2 hl
       ·cases hl
      ·cases hk
    ·cases hk
   ·rename_i n e hu
    split at hk
    ·rename_i hsz
     simp only[Option.map_eq_some_iff] at hk
     obtain⟨a,h3,rfl⟩:=hk
     rw[Instr.checkKey]
     simp only[Sem.run_bind,run_underlying hu,Result.andThen_ok]
     simp only[Std.Legacy.Range.forIn_eq_forIn_range',Std.Legacy.Range.size,Nat.sub_zero,Nat.add_one_sub_one,Nat.div_one]
     have hE:=Bx em d m e a h3
     have hlen:=Kh h3
     have hx':xs.length=(0+n) * P.cellsOf e:=by rw[hx,hsz,Nat.zero_add]
     have h':Zg (dJ n a) (xs.drop (0 * P.cellsOf e)) (xs.drop (0 * P.cellsOf e))=some b:=by simpa using h
     clear hx h hsz hu vx ha
     generalize 0=i at hx' h'
     induction n generalizing i b with
     |zero=>simp
     |succ k ih=>
      have hxl:i * P.cellsOf e+P.cellsOf e≤xs.length:=by
       rw[hx',←Nat.succ_mul];exact Nat.mul_le_mul_right _ (by omega)
      have px:=Zt (w:=w) h3 (xs:=xs) (off:=i * P.cellsOf e) hxl
      rw[dJ,←List.take_append_drop (P.cellsOf e) (xs.drop _)] at h'
      obtain⟨c,g,h5,h4,rfl⟩:=Zm (by simp;omega) rfl h'
      rw[List.drop_drop,←Nat.succ_mul] at h4
      have hq:=hE w _ c (by simp;omega) h5
      rw[List.range'_succ]
      simp only[List.forIn_cons,Sem.run_bind,tc (fy h3),Result.andThen_ok,px,hq,Sem.run_pure]
      exact ih _ _ (by rw[hx'];congr 1;omega) h4
    ·cases hk
   ·cases hk
  ·rw[h1] at hx
   match xs,hx with
   | [x],_=>
     have vx:valOf P t [x]=x:=by simp[valOf,ha]
     rw[vx]
     have one:∀ k,ks=[k]→Nr k x x=some b:=by
      rintro k rfl
      simpa[Zg] using h
     rw[Instr.checkKey]
     rcases hc with⟨hu,rfl⟩ | ⟨⟨kk,hu⟩,rfl⟩ | ⟨hu,rfl⟩
     ·simp[run_underlying hu]
     ·simp[run_underlying hu]
     ·simp[run_underlying hu]
theorem xN:∀ {ks:List Nat} {xs ys:List Value} {b:Bool},Zg ks xs ys=some b→xs.length=ks.length∧ys.length=ks.length:=by
 intro ks
 induction ks with
 |nil=>intro xs ys b h;cases xs <;> cases ys <;> simp_all [Zg]
 |cons k ks ih=>
  intro xs ys b h
  cases xs <;> cases ys <;> simp only[Zg,Option.bind_eq_some_iff,Option.map_eq_some_iff] at h
  ·cases h
  ·cases h
  ·cases h
  ·obtain⟨_,_,_,h2,_⟩:=h
   have:=ih h2
   simp[this.1,this.2]
theorem wz {t:TypeId} {kd:Kd} (hk:Sy P t kd=true) {p:PV} {v:Value} (hp:Sa R p v) {b:Bool} (h:Zk kd p p=some b) (em:Bool):(Instr.checkKey em 10000 t v).run P w= .ok () w:=by
 show (Instr.checkKey em (9992+8) t v).run P w=_
 cases kd with
 |one c=>
  simp only[Sy,Bool.and_eq_true,beq_iff_eq] at hk
  have:=Bx em 9992 8 t [c] hk.1 w [v] b (by have:=Kh hk.1;simpa using this) (by
   simp only[Zk] at h
   simp[Zg,Mt hp hp h])
  simpa[valOf,hk.2] using this
 |row ks=>
  simp only[Sy,Bool.and_eq_true,beq_iff_eq] at hk
  have hs:∃ xs,p= .agg xs:=by cases p <;> simp[Zk] at h;exact⟨_,rfl⟩
  obtain⟨xs,rfl⟩:=hs
  simp only[Zk] at h
  cases hp with
  |agg _ vs h1=>
   have hr:=Wz h1 h1 h
   have hl:=xN hr
   have hn:=Kh hk.1
   have:=Bx em 9992 8 t ks hk.1 w vs b (by omega) hr
   simpa[valOf,hk.2] using this
theorem PB {k:Nat} {x y:Value} (h:Nr k x y=some true):x=y:=by
 rcases Tk h with⟨_,c,d,rfl,rfl,e⟩ | ⟨_,i,c,d,rfl,rfl,e⟩ | ⟨_,c,d,rfl,rfl,e⟩
 ·have:=eq_of_beq e.symm;rw[this]
 ·have:=eq_of_beq e.symm;rw[this]
 ·have:c=d:=by
   have e:=e.symm
   obtain⟨⟨c⟩⟩:=c;obtain⟨⟨d⟩⟩:=d
   have h2:((⟨c⟩:Array UInt8)==⟨d⟩)=true:=e
   have:=eq_of_beq h2
   simp at this
   rw[this]
  rw[this]
theorem XC:∀ {ks:List Nat} {xs ys:List Value},Zg ks xs ys=some true→xs=ys
 | [],[],[],_=>rfl
 |k::ks,x::xs,y::ys,h=>by
  simp only[Zg,Option.bind_eq_some_iff,Option.map_eq_some_iff] at h
  obtain⟨b,h1,c,h2,h3⟩:=h
  simp only[Bool.and_eq_true] at h3
  obtain⟨rfl,rfl⟩:=h3
  rw[PB h1,XC h2]
 | [],[],_::_,h=>by simp[Zg] at h
 | [],_::_,_,h=>by simp[Zg] at h
 |_::_,[],_,h=>by simp[Zg] at h
 |_::_,_::_,[],h=>by simp[Zg] at h
theorem ZP {kd:Kd} {p q:PV} {v u:Value} (hp:Sa R p v) (hq:Sa R q u) (h:Zk kd p q=some true):v=u∧∀ n,Instr.sameBits (n+2) u u=true:=by
 have atom:∀ {c:Nat} {x y:Value} {b:Bool},Nr c x y=some b→∀ n,Instr.sameBits n x x=true:=by
  intro c x y b hc n
  rcases Tk hc with⟨_,c,d,rfl,rfl,_⟩ | ⟨_,i,c,d,rfl,rfl,_⟩ | ⟨_,c,d,rfl,rfl,_⟩
  ·cases n <;> simp[Instr.sameBits]
  ·cases n <;> simp[Instr.sameBits]
  ·cases n <;> (simp only[Instr.sameBits];obtain⟨⟨c⟩⟩:=c;show ((⟨c⟩:Array UInt8)==⟨c⟩)=true;simp)
 unfold Zk at h
 split at h
 ·have h1:=Mt hp hq h
  have e:=PB h1
  subst e
  exact⟨rfl,fun n=>atom h1 _⟩
 ·cases hp with
  |agg _ vs h1=>
   cases hq with
   |agg _ us h2=>
    have hr:=Wz h1 h2 h
    have e:=XC hr
    subst e
    refine⟨rfl,fun n=> ?_⟩
    simp only[Instr.sameBits,beq_self_eq_true,Bool.true_and]
    clear h1 h2 h
    rw[List.all_eq_true]
    rintro⟨x,y⟩ hm
    rename_i ks _ _
    induction ks generalizing vs with
    |nil=>cases vs with
     |nil=>simp at hm
     |cons=>simp[Zg] at hr
    |cons k ks ih=>
     cases vs with
     |nil=>simp at hm
     |cons z zs=>
      simp only[Zg,Option.bind_eq_some_iff,Option.map_eq_some_iff] at hr
      obtain⟨b,q1,c,q2,q3⟩:=hr
      simp only[Bool.and_eq_true] at q3
      obtain⟨rfl,rfl⟩:=q3
      simp only[List.zip_cons_cons,List.mem_cons,Prod.mk.injEq] at hm
      rcases hm with⟨rfl,rfl⟩ | hm
      ·exact atom q1 _
      ·exact ih zs q2 hm
 ·cases h
def EP (R:Rd) (kd:Kd) (k:PV) (es:List (PV×PV)) (ents:List MapEntry) (i:Nat):Option (Nat×PV)→Option (Nat×Value)→Prop
 |none,none=>True
 |some (a,p),some (b,u)=>a=b∧∃ j e x,a=i+j∧es[j]? =some e∧ents[j]? =some x∧e.2=p∧x.val=u∧Sa R p u∧Sa R e.1 x.key∧Zk kd k e.1=some true
 |_,_=>False
theorem EP.succ {kd:Kd} {k:PV} {es:List (PV×PV)} {ents:List MapEntry} {i:Nat} {e:PV×PV} {x:MapEntry} {r:Option (Nat×PV)} {r':Option (Nat×Value)} (h:EP R kd k es ents (i+1) r r'):EP R kd k (e::es) (x::ents) i r r':=by
 cases r with
 |none=>cases r' with
  |none=>trivial
  |some=>exact h.elim
 |some r=>cases r' with
  |none=>exact h.elim
  |some r'=>
   obtain⟨h1,j,e',x',h2,h3⟩:=h
   exact⟨h1,j+1,e',x',by omega,h3⟩
theorem dy {t:TypeId} {kd:Kd} (hk:Sy P t kd=true) {k:PV} {v:Value} (hv:Sa R k v):∀ {es:List (PV×PV)} {ents:List MapEntry} {i:Nat} {r:Option (Nat×PV)},Zv R es ents→zm kd k es i=some r→
 ∃ r',(Instr.findAsking t v ents i).run P w= .ok r' w∧EP R kd k es ents i r r'
 | [],[],i,r,_,h=>by
   simp only[zm,Option.some.injEq] at h;subst h
   exact⟨none,by simp[Instr.findAsking],trivial⟩
 |e::es,x::ents,i,r,⟨m1,m2,m3⟩,h=>by
  simp only[zm,Option.bind_eq_some_iff] at h
  obtain⟨b,h1,h2⟩:=h
  have hr:=PD (w:=w) hk hv m1 h1
  cases b with
  |true=>
   simp only[if_true,Option.some.injEq] at h2;subst h2
   exact⟨some (i,x.val),by simp[Instr.findAsking,hr],rfl,0,e,x,rfl,rfl,rfl,rfl,rfl,m2,m1,h1⟩
  |false=>
   simp only[Bool.false_eq_true,if_false] at h2
   obtain⟨r',h3,h4⟩:=dy hk hv m3 h2
   exact⟨r',by simp[Instr.findAsking,hr,h3],h4.succ⟩
 | [],_::_,_,_,h,_=>h.elim
 |_::_,[],_,_,h,_=>h.elim
theorem kM {d:TypeDesc} {c:Nat} {x y:Value} {b:Bool} (hd:(d= .bool∧c=0)∨((∃ k,d= .int k)∧c=1)∨(d= .string∧c=2)) (h:Nr c x y=some b):Instr.sameNow d x y=some b:=by
 rcases hd with⟨rfl,rfl⟩ | ⟨⟨k,rfl⟩,rfl⟩ | ⟨rfl,rfl⟩
 ·rcases Tk h with⟨_,c,d,rfl,rfl,rfl⟩ | ⟨h,_⟩ | ⟨h,_⟩
  ·rfl
  ·cases h
  ·cases h
 ·rcases Tk h with⟨h,_⟩ | ⟨_,i,c,d,rfl,rfl,rfl⟩ | ⟨h,_⟩
  ·cases h
  ·simp[Instr.sameNow]
  ·cases h
 ·rcases Tk h with⟨h,_⟩ | ⟨h,_⟩ | ⟨_,c,d,rfl,rfl,rfl⟩
  ·cases h
  ·cases h
  ·rfl
theorem KE {d:TypeDesc} {c:Nat} (hd:(d= .bool∧c=0)∨((∃ k,d= .int k)∧c=1)∨(d= .string∧c=2)) {k:PV} {v:Value} (hv:Sa R k v):∀ {es:List (PV×PV)} {ents:List MapEntry} {i:Nat} {r:Option (Nat×PV)},Zv R es ents→zm (.one c) k es i=some r→
 ∃ r',Instr.findNow d v ents i=some r'∧EP R (.one c) k es ents i r r'
 | [],[],i,r,_,h=>by
   simp only[zm,Option.some.injEq] at h;subst h
   exact⟨none,rfl,trivial⟩
 |e::es,x::ents,i,r,⟨m1,m2,m3⟩,h=>by
  simp only[zm,Option.bind_eq_some_iff] at h
  obtain⟨b,h1,h2⟩:=h
  have hr:=kM hd (Mt hv m1 h1)
  cases b with
  |true=>
   simp only[if_true,Option.some.injEq] at h2;subst h2
   exact⟨some (i,x.val),by simp[Instr.findNow,hr],rfl,0,e,x,rfl,rfl,rfl,rfl,rfl,m2,m1,h1⟩
  |false=>
   simp only[Bool.false_eq_true,if_false] at h2
   obtain⟨r',h3,h4⟩:=KE hd hv m3 h2
   exact⟨r',by simp[Instr.findNow,hr,h3],h4.succ⟩
 | [],_::_,_,_,h,_=>h.elim
 |_::_,[],_,_,h,_=>h.elim
theorem jE {t:TypeId} {kd:Kd} (hk:Sy P t kd=true) {k:PV} {v:Value} (hv:Sa R k v) {es:List (PV×PV)} {ents:List MapEntry} {r:Option (Nat×PV)} (hm:Zv R es ents) (h:zm kd k es 0=some r):
 ∃ r',(Instr.findKey t v ents).run P w= .ok r' w∧EP R kd k es ents 0 r r':=by
 cases kd with
 |one c=>
  have hk2:=hk
  simp only[Sy,Bool.and_eq_true,beq_iff_eq] at hk2
  have hd:∃ d,P.underlying t=some d∧((d= .bool∧c=0)∨((∃ k,d= .int k)∧c=1)∨(d= .string∧c=2)):=by
   rcases Ax hk2.1 with ha | ⟨_,_,hc⟩
   ·rw[hk2.2] at ha;cases ha
   ·rcases hc with⟨hu,e⟩ | ⟨⟨kk,hu⟩,e⟩ | ⟨hu,e⟩
    ·exact⟨_,hu,.inl ⟨rfl,by simpa using e⟩⟩
    ·exact⟨_,hu,.inr (.inl ⟨⟨kk,rfl⟩,by simpa using e⟩)⟩
    ·exact⟨_,hu,.inr (.inr ⟨rfl,by simpa using e⟩)⟩
  obtain⟨d,hu,hd⟩:=hd
  obtain⟨r',h1,h2⟩:=KE hd hv hm h
  exact⟨r',by simp[Instr.findKey,run_underlying hu,h1],h2⟩
 |row ks=>
  have hk2:=hk
  simp only[Sy,Bool.and_eq_true,beq_iff_eq] at hk2
  obtain⟨r',h1,h2⟩:=dy (w:=w) hk hv hm h
  have hu:∃ d,P.underlying t=some d∧∀ x y,Instr.sameNow d x y=none:=by
   have ha:=hk2.2
   unfold Fl at ha
   split at ha
   ·rename_i fs hu;exact⟨_,hu,fun x y=>by cases x <;> rfl⟩
   ·rename_i n e hu;exact⟨_,hu,fun x y=>by cases x <;> rfl⟩
   ·cases ha
   ·cases ha
  obtain⟨d,hu,hs⟩:=hu
  cases ents with
  |nil=>
   refine⟨r',?_,h2⟩
   simp only[Instr.findAsking,Sem.run_pure] at h1
   simp only[Instr.findKey,Sem.run_bind,run_underlying hu,Result.andThen_ok,Instr.findNow,Sem.run_pure]
   exact h1
  |cons x xs=>exact⟨r',by simp[Instr.findKey,run_underlying hu,Instr.findNow,hs,h1],h2⟩
theorem K.map_set {id:Nat} {c c':List (PV×PV)} (hc:H[id]? =some (.map c)) (a:AV) (v:Value) (h:K R φ H a v):K R (bm φ id (φ id)) (H.set id (.map c')) a v:=by
 have hφ:bm φ id (φ id)=φ:=by
  funext i
  unfold bm
  split
  ·rename_i e;rw[e]
  ·rfl
 rw[hφ]
 have hid:=getElem?_lt hc
 have Ko:∀ {i:Nat} {x:ba},(H.set id (.map c'))[i]? =some x→(i≠id∧H[i]? =some x)∨(i=id∧x= .map c'):=by
  intro i x hx
  by_cases h:i=id
  ·subst h;rw[List.getElem?_set_self hid] at hx;injection hx with hx;exact .inr ⟨rfl,hx.symm⟩
  ·rw[List.getElem?_set_ne (Ne.symm h)] at hx;exact .inl ⟨h,hx⟩
 cases a with
 |pv p=>exact h
 |ptr i off=>
  refine⟨by simpa using h.1,h.2.1,fun c1 h1=> ?_⟩
  rcases Ko h1 with⟨_,h2⟩ | ⟨rfl,h2⟩
  ·exact h.2.2 _ h2
  ·cases h2
 |Gc i n off=>
  refine⟨by simpa using h.1,h.2.1,fun sz ag c1 fl nl h1=> ?_⟩
  rcases Ko h1 with⟨_,h2⟩ | ⟨rfl,h2⟩
  ·exact h.2.2 _ _ _ _ _ h2
  ·cases h2
 |uq i nl sz es=>
  refine⟨by simpa using h.1,h.2.1,h.2.2.1,fun sz' n nl' h1=> ?_⟩
  rcases Ko h1 with⟨_,h2⟩ | ⟨rfl,h2⟩
  ·exact h.2.2.2 _ _ _ h2
  ·cases h2
 |own i len=>
  refine⟨by simpa using h.1,h.2.1,fun sz ag c1 fl nl h1=> ?_⟩
  rcases Ko h1 with⟨_,h2⟩ | ⟨rfl,h2⟩
  ·exact h.2.2 _ _ _ _ _ h2
  ·cases h2
 |mp i=>
  refine⟨by simpa using h.1,h.2.1,fun es h1=> ?_⟩
  rcases Ko h1 with⟨_,h2⟩ | ⟨rfl,_⟩
  ·exact h.2.2 _ h2
  ·exact h.2.2 _ hc
 |Fk ix cs=>exact h.elim
 |agg cs=>exact h.elim
 |mc cs=>exact h.elim
 |undef=>exact h.elim
theorem aH {t:TypeId} {kd:Kd} (h:yN P t kd=true):∃ k e,P.underlying t=some (.map k e)∧Sy P k kd=true:=by
 unfold yN at h
 split at h
 ·rename_i k e hu;exact⟨k,e,hu,h⟩
 ·cases h
theorem JP {t k e:TypeId} {zero:PV} (hu:P.underlying t=some (.map k e)) (h:RV P t zero=true):∃ z,(∀ w,(zeroValue e).run P w= .ok z w)∧∀ R,Sa R zero z:=by
 unfold RV at h
 simp only[hu] at h
 cases hi:P.info? e with
 |none=>simp[hi] at h
 |some i=>
  simp only[hi] at h
  cases hz:i.zero with
  |none=>simp[hz] at h
  |some z=>
   simp only[hz] at h
   refine⟨z,fun w=>by simp[zeroValue,run_typeInfo w hi,hz],fun R=> ?_⟩
   split at h
   ·rename_i cs ps e1
    injection e1 with e1
    subst e1
    exact .agg _ _ (yl (R:=R) h).1
   ·rename_i z' p e1 e2
    injection e1 with e1
    subst e1
    exact dw h
   ·cases h
theorem uQ (hS:ic fo B0 w R φ H) (t:TypeId):Nl fo B0 w R φ H P (Instr.makeMap t none) (.mp H.length) (H++[.map []]):=by
 have hk:=fun a v=>K.push (R:=R) (φ:=φ) (H:=H) (.map []) (w.heap.size,0) a v
 refine⟨.map (some w.heap.size),{w with heap:=w.heap.push (.map #[] 0)},R,AM.bm φ H.length (w.heap.size,0),?_,?_,?_,hk,uy hS.low hS.slt _⟩
 ·simp[Instr.makeMap,run_newObj]
 ·refine hS.push (by simp) (fun b hb=>Ph hb) (fun _ _ _=>rfl) (fun b o v h=> ?_) hk (fun _=>Nat.le_refl _) ?_
  ·have:=hS.sub b o v h
   rw[pH (ql this)];exact this
  ·refine⟨by rw[Cb];exact hS.low,by rw[Cb];exact hS.nz (Nat.le_refl _),#[],0,?_,trivial⟩
   rw[Cb];simp
 ·exact .atom _ _ ⟨by simp,rfl,fun c _=>by rw[Cb]⟩
theorem Kc.QT {K:AV→Value→Prop} {id:Nat} {v:Value} (h:Kc fo K (.mp id) v):K (.mp id) v:=by cases h with | atom _ _ h=>exact h
def FX (zero:PV) (ok:Bool):Option (Nat×PV)→AV
 |some (_,x)=>(if ok then .pv (.mc [x,.bool true]) else .pv x)
 |none=>(if ok then .pv (.mc [zero,.bool false]) else .pv zero)
theorem aE (hS:ic fo B0 w R φ H) {t:TypeId} {kd:Kd} {zero:PV} (h1:yN P t kd=true) (h2:RV P t zero=true) {m:AV} {k:PV} {vm vk:Value} (hm:Kc fo (K R φ H) m vm) (hk:Sa R k vk) (ok:Bool) {es:List (PV×PV)}
 (hes:m= .pv .Lw∧es=[]∨∃ id,m= .mp id∧H[id]? =some (.map es)) (hkk:(Zk kd k k).isSome=true) {r:Option (Nat×PV)} (hf:zm kd k es 0=some r):
 ∃ u,(Instr.lookup t vm vk ok).run P w= .ok u w∧Kc fo (K R φ H) (FX zero ok r) u:=by
 obtain⟨kt,e,hu,hkd⟩:=aH h1
 obtain⟨z,hz,hzr⟩:=JP hu h2
 obtain⟨b,hb⟩:=Option.isSome_iff_exists.1 hkk
 have go:∀ (ents:Array MapEntry),Zv R es ents.toList→∃ u,(do
  Instr.checkKey ents.isEmpty 10000 kt vk
  let (v,okk) ←match ←Instr.findKey kt vk ents.toList with
   |some (_,v)=>pure (v,true)
   |none=>pure (← zeroValue e,false)
  pure (if ok then .tuple #[v,.bool okk] else v):Sem Value).run P w= .ok u w∧Kc fo (K R φ H) (FX zero ok r) u:=by
  intro ents hE
  have hc:=wz (w:=w) hkd hk hb ents.isEmpty
  obtain⟨r',h3,h4⟩:=jE (w:=w) hkd hk hE hf
  cases r with
  |none=>
   cases r' with
   |some=>exact h4.elim
   |none=>
    cases ok with
    |true=>exact⟨.tuple #[z,.bool false],by simp[hc,h3,hz w],.atom _ _ (show Sa R _ _ from .mc _ _ (.cons _ _ _ _ (hzr R) (.cons _ _ _ _ (.bool _) .nil)))⟩
    |false=>exact⟨z,by simp[hc,h3,hz w],.atom _ _ (show Sa R _ _ from hzr R)⟩
  |some r=>
   cases r' with
   |none=>exact h4.elim
   |some r'=>
    obtain⟨a,p⟩:=r;obtain⟨b,u⟩:=r'
    obtain⟨_,j,e',x',_,_,_,_,_,hpu,_⟩:=h4
    cases ok with
    |true=>exact⟨.tuple #[u,.bool true],by simp[hc,h3],.atom _ _ (show Sa R _ _ from .mc _ _ (.cons _ _ _ _ hpu (.cons _ _ _ _ (.bool _) .nil)))⟩
    |false=>exact⟨u,by simp[hc,h3],.atom _ _ (show Sa R _ _ from hpu)⟩
 rcases hes with⟨rfl,rfl⟩ | ⟨id,rfl,hid⟩
 ·have:=hm.Qb
  cases this
  obtain⟨u,h5,h6⟩:=go #[] trivial
  refine⟨u,?_,h6⟩
  rw[← h5]
  simp only[Instr.lookup,Sem.run_bind,run_underlying hu,Result.andThen_ok,Sem.run_pure]
  rfl
 ·have hk2:=hm.QT
  rw[hk2.2.2 _ hid]
  obtain⟨_,_,ents,clk,h7,h8⟩:=hS.obj _ _ hid
  obtain⟨u,h5,h6⟩:=go ents h8
  refine⟨u,?_,h6⟩
  rw[← h5]
  have hg:(getObj (φ id).1).run P w= .ok (.map ents clk) w:=by simp[getObj,Sem.run,h7]
  simp only[Instr.lookup,Sem.run_bind,run_underlying hu,Result.andThen_ok,hg,Sem.run_pure]
  rfl
theorem Zv.push {es:List (PV×PV)} {xs:List MapEntry} {e:PV×PV} {x:MapEntry} (h:Zv R es xs) (h1:Sa R e.1 x.key) (h2:Sa R e.2 x.val):Zv R (es++[e]) (xs++[x]):=by
 induction es generalizing xs with
 |nil=>cases xs with
  |nil=>exact⟨h1,h2,trivial⟩
  |cons=>exact h.elim
 |cons a as ih=>cases xs with
  |nil=>exact h.elim
  |cons y ys=>exact⟨h.1,h.2.1,ih h.2.2⟩
theorem Zv.set {es:List (PV×PV)} {xs:List MapEntry} {e:PV×PV} {x:MapEntry} (h:Zv R es xs) (h1:Sa R e.1 x.key) (h2:Sa R e.2 x.val):∀ i,Zv R (es.set i e) (xs.set i x):=by
 induction es generalizing xs with
 |nil=>intro i;cases xs with
  |nil=>trivial
  |cons=>exact h.elim
 |cons a as ih=>intro i;cases xs with
  |nil=>exact h.elim
  |cons y ys=>cases i with
   |zero=>exact⟨h1,h2,h.2.2⟩
   |succ i=>exact⟨h.1,h.2.1,ih h.2.2 i⟩
def YL (w:World) (b:Nat) (ents:Array MapEntry) (clk:Nat):World:={w with heap:=w.heap.setIfInBounds b (.map ents clk)}
theorem cE (hS:ic fo B0 w R φ H) {t:TypeId} {kd:Kd} (h1:yN P t kd=true) {id:Nat} {k x:PV} {vm vk vx:Value} (hm:Kc fo (K R φ H) (.mp id) vm) (hk:Sa R k vk) (hx:Sa R x vx) {es:List (PV×PV)}
 (hid:H[id]? =some (.map es)) (hkk:(Zk kd k k).isSome=true) {r:Option (Nat×PV)} (hf:zm kd k es 0=some r):
 ∃ w' φ',(Instr.mapUpdate t vm vk vx).run P w= .ok () w'∧ic fo B0 w' R φ' (H.set id (.map (match r with | some (i,_)=>es.set i (k,x) | none=>es++[(k,x)])))∧
  (∀ a u,K R φ H a u→K R φ' (H.set id (.map (match r with | some (i,_)=>es.set i (k,x) | none=>es++[(k,x)]))) a u)∧zg B0 w w':=by
 obtain⟨kt,e,hu,hkd⟩:=aH h1
 obtain⟨b,hb⟩:=Option.isSome_iff_exists.1 hkk
 have hk2:=hm.QT
 rw[hk2.2.2 _ hid]
 obtain⟨o1,o2,ents,clk,h7,h8⟩:=hS.obj _ _ hid
 have hc:=wz (w:=w) hkd hk hb false
 obtain⟨r',h3,h4⟩:=jE (w:=w) hkd hk h8 hf
 have hlt:(φ id).1 < w.heap.size:=by
  rcases Nat.lt_or_ge (φ id).1 w.heap.size with hlt | hge
  ·exact hlt
  ·rw[Array.getElem?_eq_none hge] at h7;cases h7
 have hg:(getObj (φ id).1).run P w= .ok (.map ents clk) w:=by simp[getObj,Sem.run,h7]
 have hset:∀ o,(setObj (φ id).1 o).run P w= .ok () {w with heap:=w.heap.setIfInBounds (φ id).1 o}:=fun o=>by simp[setObj,Sem.run,h7]
 have heap:∀ {ents':Array MapEntry} {clk' j:Nat},j≠(φ id).1→(YL w (φ id).1 ents' clk').heap[j]? =w.heap[j]? :=by
  intro ents' clk' j hj
  simp only[YL]
  rw[Array.getElem?_setIfInBounds_ne (Ne.symm hj)]
 have fin:∀ (ents':Array MapEntry) (clk':Nat) (es':List (PV×PV)),Zv R es' ents'.toList→(Instr.mapUpdate t (.map (some (φ id).1)) vk vx).run P w= .ok () (YL w (φ id).1 ents' clk')→
  ∃ w' φ',(Instr.mapUpdate t (.map (some (φ id).1)) vk vx).run P w= .ok () w'∧ic fo B0 w' R φ' (H.set id (.map es'))∧(∀ a u,K R φ H a u→K R φ' (H.set id (.map es')) a u)∧zg B0 w w':=by
  intro ents' clk' es' hM hrun
  have hkk:=fun a v=>K.map_set (R:=R) (φ:=φ) (c':=es') hid a v
  refine⟨_,bm φ id (φ id),hrun,?_,hkk,.pI h7 rfl rfl rfl rfl (by simp[YL]) o1 hS.slt (hS.free id ⟨_,hid,trivial⟩) fun k _ hne=>heap hne⟩
  refine hS.bm (w':=YL w (φ id).1 ents' clk') hid (by simp[YL]) (fun b hb hne=>heap (hne trivial)) (fun _ _ _ _=>rfl) (fun b o v hv=> ?_) hkk (fun _=> .inl ⟨trivial,rfl⟩) ?_
  ·rw[tf (heap (fun e=>by subst e;rw[o2] at hv;cases hv))];exact hS.sub b o v hv
  ·refine⟨by rw[Cb];exact o1,by rw[Cb];exact o2,ents',clk',?_,hM⟩
   rw[Cb]
   simp[YL,hlt]
 cases r with
 |none=>
  cases r' with
  |some=>exact h4.elim
  |none=>
   refine fin (ents.push {key:=vk,val:=vx,born:=clk}) (clk+1) (es++[(k,x)]) ?_ ?_
   ·simpa using h8.push (e:=(k,x)) (x:={key:=vk,val:=vx,born:=clk}) hk hx
   ·simp only[Instr.mapUpdate,Sem.run_bind,run_underlying hu,Result.andThen_ok,hg,hc,h3]
    rw[hset]
    rfl
 |some r=>
  cases r' with
  |none=>exact h4.elim
  |some r'=>
   obtain⟨a,p⟩:=r;obtain⟨i,u⟩:=r'
   obtain⟨rfl,j,e',x',hj,he',hx',_,_,_,hke,heq⟩:=h4
   have hj':a=j:=by omega
   subst hj'
   obtain⟨hveq,hsb⟩:=ZP hk hke heq
   have hge:ents[a]? =some x':=by simpa using hx'
   refine fin (ents.modify a fun e=>{e with key:=vk,val:=vx}) clk (es.set a (k,x)) ?_ ?_
   ·have hmod:(ents.modify a fun e=>{e with key:=vk,val:=vx}).toList=ents.toList.set a {x' with key:=vk,val:=vx}:=by
     apply List.ext_getElem?
     intro q
     rw[Array.getElem?_toList,Array.getElem?_modify,List.getElem?_set]
     by_cases hq:a=q
     ·subst hq
      have hlt2:a < ents.size:=by simpa using getElem?_lt hx'
      have hga:ents[a]=x':=by rw[Array.getElem?_eq_getElem hlt2] at hge;injection hge
      simp[hge,hlt2,hga]
     ·simp[hq]
    rw[hmod]
    exact h8.set (e:=(k,x)) (x:={x' with key:=vk,val:=vx}) hk hx a
   ·have hks:(Instr.keyThatStays x'.key vk).run P w= .ok vk w:=by
     have:=hsb 9998
     rw[← hveq] at this ⊢
     simp only[Instr.keyThatStays]
     rw[if_pos this]
     simp
    simp only[Instr.mapUpdate,Sem.run_bind,run_underlying hu,Result.andThen_ok,hg,hc,h3,hge,Option.map_some,Option.getD_some,hks]
    rw[hset]
    rfl
theorem Gz {t:TypeId} (hg:P.eqGuardType P.depth t=false) (op:BinOp) (ox oy:Operand) {p q:PV} {v u:Value} {kd:Kd} (hp:Sa R p v) (hq:Sa R q u) {b:Bool} (h:Zk kd p q=some b):(eqGuard op t ox oy v u).run P w= .ok () w:=by
 have pT:∀ xs ys,(eqGuard op t ox oy (.agg xs) (.agg ys)).run P w= .ok () w:=by
  intro xs ys
  cases op <;> simp[eqGuard,hg,Go.program,Sem.run]
 unfold Zk at h
 split at h
 ·rcases sD h with⟨_,c,d,rfl,rfl,_⟩ | ⟨_,i,c,d,rfl,rfl,_⟩ | ⟨_,c,d,rfl,rfl,_⟩ <;> cases hp <;> cases hq <;> cases op <;> rfl
 ·cases hp;cases hq;exact pT _ _
 ·cases h
theorem K.kill {id:Nat} {o:ba} (hid:H[id]? =some o) (a:AV) (v:Value) (hk:K R φ H a v):K R (bm φ id (φ id)) (H.set id .dead) a v:=by
 have hl:(H.set id .dead).length=H.length:=by simp
 have inv:∀ {i:Nat} {x:ba},(H.set id .dead)[i]? =some x→x≠ .dead→i≠id∧H[i]? =some x:=by
  intro i x hx hd
  by_cases e:i=id
  ·subst e;rw[List.getElem?_set_self (getElem?_lt hid)] at hx;injection hx with hx;exact absurd hx.symm hd
  ·rw[List.getElem?_set_ne (Ne.symm e)] at hx;exact⟨e,hx⟩
 cases a with
 |pv p=>exact hk
 |ptr i off=>exact⟨by rw[hl];exact hk.1,hk.2.1,fun c hc=>by obtain⟨q1,q2⟩:=inv hc (by simp);rw[Ud _ _ q1];exact hk.2.2 c q2⟩
 |Gc i n off=>exact⟨by rw[hl];exact hk.1,hk.2.1,fun sz ag c fl nl hc=>by obtain⟨q1,q2⟩:=inv hc (by simp);rw[Ud _ _ q1];exact hk.2.2 _ _ _ _ _ q2⟩
 |uq i nl sz es=>exact⟨by rw[hl];exact hk.1,hk.2.1,hk.2.2.1,fun sz n nl hc=>by obtain⟨q1,q2⟩:=inv hc (by simp);rw[Ud _ _ q1];exact hk.2.2.2 _ _ _ q2⟩
 |own i n=>exact⟨by rw[hl];exact hk.1,hk.2.1,fun sz ag c fl nl hc=>by obtain⟨q1,q2⟩:=inv hc (by simp);rw[Ud _ _ q1];exact hk.2.2 _ _ _ _ _ q2⟩
 |mp i=>exact⟨by rw[hl];exact hk.1,hk.2.1,fun es hc=>by obtain⟨q1,q2⟩:=inv hc (by simp);rw[Ud _ _ q1];exact hk.2.2 _ q2⟩
 |Fk=>exact hk.elim
 |agg=>exact hk.elim
 |mc=>exact hk.elim
 |undef=>exact hk.elim
theorem pR {o:Oper} {a:Act} {s:TypeId} {x:Operand} (ho:o.op= .convert s s x) (hS:ic fo B0 w R φ H) {id n:Nat} {es:List PV} (hr:Kc fo (K R φ H) (.uq id false 1 es) (a.eval x)) (hid:H[id]? =some (.tok 1 n false)) (hn:n=es.length)
 (hsl:(match Kv P s with | some el=>gY P el | none=>false)=true):xz P fo B0 o a w R φ H (.pv (.lit 1 es)) (H.set id .dead):=by
 cases hel:Kv P s with
 |none=>simp[hel] at hsl
 |some el=>
  simp only[hel] at hsl
  have hu:=Nn hel
  have he:P.underlying el=some (.int .u8):=by
   unfold gY at hsl
   split at hsl
   ·assumption
   ·cases hsl
  have hk:=hr.Su
  obtain⟨_,hk4⟩:=hk.2.2.2 _ _ _ hid
  obtain⟨_,_,hv⟩:=hk4 hn
  have hv:=hv rfl
  have hp:=hk.2.2.1 rfl
  obtain⟨h0,_,h3⟩:=hS.obj _ _ hid
  obtain⟨o1,o2,arr,⟨ty,fz,hb,hf⟩,o4,o5⟩:=h3 rfl
  have hlt:(φ id).1 < w.heap.size:=Mx.lt ⟨ty,fz,hb,hf⟩
  have hmark:(convert s s (a.eval x)).run P w= .ok (a.eval x) (w.freeze ⟨(φ id).1,arr.size,none⟩ 1):=by
   rw[hv]
   simp[convert,run_underlying hu,run_underlying he,markStringish,World.shape?,hb]
  intro next Q hn'
  unfold Oper.wp
  have:(execOp a.eval o).run P w= .ok (.value (a.eval x)) (w.freeze ⟨(φ id).1,arr.size,none⟩ 1):=by simp[execOp,ho,hmark]
  rw[this]
  have heap:∀ {j:Nat},j≠(φ id).1→(w.freeze ⟨(φ id).1,arr.size,none⟩ 1).heap[j]? =w.heap[j]? :=by
   intro j hj
   simp only[World.freeze]
   rw[if_neg (by omega)]
   simp[Array.getElem?_modify,Ne.symm hj]
  have self:∃ fz',(w.freeze ⟨(φ id).1,arr.size,none⟩ 1).heap[(φ id).1]? =some (.cells arr ty fz'):=by
   simp only[World.freeze]
   rw[if_neg (by omega)]
   rw[Array.getElem?_modify,if_pos rfl,hb]
   exact⟨_,rfl⟩
  obtain⟨fz',self⟩:=self
  have cell:∀ b o,(w.freeze ⟨(φ id).1,arr.size,none⟩ 1).cell? ⟨b,o,none⟩=w.cell? ⟨b,o,none⟩:=by
   intro b o
   by_cases e:b=(φ id).1
   ·subst e;simp[World.cell?,self,hb]
   ·exact tf (heap e)
  have hsz:(w.freeze ⟨(φ id).1,arr.size,none⟩ 1).heap.size=w.heap.size:=by
   simp only[World.freeze];rw[if_neg (by omega)];simp
  have hkk:=fun a v=>K.kill (R:=R) (φ:=φ) hid a v
  refine hn' _ _ R (bm φ id (φ id)) ?_ (.atom _ _ (show Sa R _ _ from hp)) hkk ?_
  ·exact hS.bm (w':=w.freeze ⟨(φ id).1,arr.size,none⟩ 1) hid (by rw[hsz];exact Nat.le_refl _) (fun b hb hne=>heap (hne rfl)) (fun _ _ _ _=>rfl) (fun b o v h=>by rw[cell];exact hS.sub b o v h) hkk (fun h=>h.elim) trivial
  ·refine .pI hb rfl ?_ ?_ ?_ (by rw[hsz];exact Nat.le_refl _) o1 hS.slt (hS.free id ⟨_,hid,rfl⟩) (fun k _ hne=>heap hne) <;> (simp only[World.freeze];rw[if_neg (by omega)])
end
end Go.AM
namespace Go.AM
open Go.RowKit
section ops
variable {P:Program} {fo:Nat→FuncId} {B0:Of} {w:World} {R:Rd} {φ:Pl} {H H':List ba} {e:Tr} {a:Act} {call:Wa}
theorem KL {v:AV} {u:Value} (h:Kc fo (K R φ H) v u):Kc fo (K R φ H) v.Ip u:=by
 cases v with
 |uq id nl sz es=>
  have hk:=h.Su
  cases nl with
  |true=>rw[(hk.2.1 rfl).1];exact .atom _ _ (show Sa R _ _ from .ma)
  |false=>exact .atom _ _ (show Sa R _ _ from hk.2.2.1 rfl)
 |_=>exact h
theorem BJ:∀ {cs:List AV} {vs:List Value},fb fo (K R φ H) cs vs→fb fo (K R φ H) (cs.map AV.Ip) vs
 | [],_,.nil=> .nil
 |_::_,_,.cons _ _ _ _ h1 h2=> .cons _ _ _ _ (KL h1) (BJ h2)
theorem bX {v:AV} {u:Value} (h:Kc fo (K R φ H) v u):Kc fo (K R φ H) v.CC u:=by
 cases v with
 |agg cs=>
  cases h with
  |atom _ _ h=>exact h.elim
  |agg _ vs h=>exact Dt (BJ h)
 |uq id nl sz es=>exact KL h
 |_=>exact h
theorem Mz (hE:ri fo (K R φ H) e a) {sz:Nat}:∀ {parts:List (Nat×Operand)} {aparts:List (Nat×AO)},Ww fo parts aparts=true→
 (parts.map fun p=>(p.1,a.eval p.2)).length=(aparts.map fun p=>(p.1 * sz,sz,si e p.2)).length∧
 ∀ (j:Nat) (i:Nat) (v:Value) (off s:Nat) (x:AV),(parts.map fun p=>(p.1,a.eval p.2))[j]? =some (i,v)→(aparts.map fun p=>(p.1 * sz,sz,si e p.2))[j]? =some (off,s,x)→off=i * sz∧s=sz∧Kc fo (K R φ H) x v
 | [],[],_=>⟨rfl,fun j i v off s x h=>by simp at h⟩
 | (i,x)::xs,(j,y)::ys,h=>by
   simp only[Ww,Bool.and_eq_true,beq_iff_eq] at h
   obtain⟨⟨rfl,h1⟩,h2⟩:=h
   obtain⟨q1,q2⟩:=Mz hE (sz:=sz) h2
   refine⟨by simpa using q1,fun k i' v off s z e1 e2=> ?_⟩
   cases k with
   |zero=>
    simp at e1 e2
    obtain⟨rfl,rfl⟩:=e1
    obtain⟨rfl,rfl,rfl⟩:=e2
    exact⟨rfl,rfl,bX (Pb hE h1)⟩
   |succ k=>exact q2 k i' v off s z (by simpa using e1) (by simpa using e2)
 | [],_::_,h=>by simp[Ww] at h
 |_::_,[],h=>by simp[Ww] at h
theorem yO (hE:ri fo (K R φ H) e a) {x:Option Operand} {y:Option AO} (h:HO fo x y=true):(x=none∧y=none)∨∃ x' y',x=some x'∧y=some y'∧Zl fo x' y'=true:=by
 cases x <;> cases y <;> simp[HO] at h
 ·exact .inl ⟨rfl,rfl⟩
 ·exact .inr ⟨_,_,rfl,rfl,h⟩
theorem WY {ag:Bool} {x:Bool} (h:(!ag||x)=true):ag=true→x=true:=by
 intro e;subst e;simpa using h
theorem uK (hS:ic fo B0 w R φ H) {x:AV} {vx:Value} (hx:Kc fo (K R φ H) x vx) {s:ByteArray} (h:ED H x=some s):(∃ sa sl sc,vx= .slice sa sl sc)∧(Conv.bytesToString vx).run P w= .ok (.string s) w:=by
 have lits:∀ {es:List PV} {l:List UInt8},Sa R (.lit 1 es) vx→bytesOf es=some l→s=⟨l.toArray⟩→(∃ sa sl sc,vx= .slice sa sl sc)∧(Conv.bytesToString vx).run P w= .ok (.string s) w:=by
  intro es l hp hb hs
  subst hs
  refine⟨?_,gI hS hp hb⟩
  cases hp <;> exact⟨_,_,_,rfl⟩
 have ma:vx= .slice none 0 0→s=ByteArray.empty→(∃ sa sl sc,vx= .slice sa sl sc)∧(Conv.bytesToString vx).run P w= .ok (.string s) w:=by
  rintro rfl rfl
  exact⟨⟨_,_,_,rfl⟩,by simp[Conv.bytesToString]⟩
 unfold ED at h
 split at h
 ·injection h with h
  have:=hx.Qb
  cases this
  exact ma rfl h.symm
 ·simp only[Option.map_eq_some_iff] at h
  obtain⟨l,h1,h2⟩:=h
  exact lits hx.Qb h1 h2.symm
 ·rename_i id nl es
  simp only[Option.map_eq_some_iff] at h
  obtain⟨l,h1,h2⟩:=h
  have hk:=hx.Su
  cases nl with
  |true=>
   obtain⟨rfl,rfl⟩:=hk.2.1 rfl
   simp[bytesOf] at h1
   subst h1
   exact ma rfl h2.symm
  |false=>exact lits (hk.2.2.1 rfl) h1 h2.symm
 ·rename_i id len
  have hk:=hx.Sz
  split at h
  ·rename_i sz ag c fl nl hc
   split at h
   ·rename_i hcond
    obtain⟨rfl,hcur⟩:=hcond
    obtain⟨k0,k⟩:=hk.2.2 _ _ _ _ _ hc
    obtain⟨o0,o1,o2,o3,o4⟩:=hS.obj _ _ hc
    obtain⟨k1,k2⟩:=k (by omega)
    cases nl with
    |true=>
     simp only[if_true,Option.some.injEq] at h
     exact ma (k1 rfl) h.symm
    |false=>
     simp only[Bool.false_eq_true,if_false,Option.map_eq_some_iff,Option.bind_eq_some_iff] at h
     obtain⟨l,⟨ps,hps,hl⟩,rfl⟩:=h
     rcases k2 rfl with⟨q1,q2,_⟩ | ⟨b,o,cap,q1,q2,_⟩
     ·subst q1;exact absurd (List.eq_nil_of_length_eq_zero (by omega)) q2
     ·obtain⟨rfl,rfl,rfl⟩:=q2 hcur
      subst q1
      obtain⟨_,_,arr,p3,p4,p5,p6⟩:=o4 rfl
      have h7:=Tj hps p6
      obtain⟨ns,e1,rfl⟩:=RG hl h7
      refine⟨⟨_,_,_,rfl⟩,?_⟩
      have hlen:(ns.map (Value.int .u8)).length=len:=by rw[← e1,List.length_take];simp;omega
      have:=run_bytesToString (P:=P) w ⟨(φ id).1,0,none⟩ len (φ id).2 ns (by
       have:=Kk (P:=P) (w:=w) (b:=(φ id).1) (o:=0) (vs:=ns.map (Value.int .u8)) (fun j v hj=>by
        rw[Nat.zero_add,p3.cell]
        rw[← e1,List.getElem?_take] at hj
        split at hj
        ·simpa using hj
        ·cases hj) hlen
       simpa using this)
      rw[this]
      congr 2
      have h4:=foldl_push ns ByteArray.empty
      generalize ns.foldl (fun r n=>r.push (UInt8.ofNat n.toNat)) ByteArray.empty=z at h4
      obtain⟨⟨z⟩⟩:=z
      simp at h4
      subst h4
      rfl
   ·cases h
  ·cases h
 ·cases h
theorem HP (hS:ic fo B0 w R φ H) {x:AV} {vx:Value} (hx:Kc fo (K R φ H) x vx) {s:ByteArray} (h:ED H x=some s):∃ sa sl sc,vx= .slice sa sl sc:=(uK (P:=default) hS hx h).1
theorem FV (hS:ic fo B0 w R φ H) {x:AV} {vx:Value} (hx:Kc fo (K R φ H) x vx) {s:ByteArray} (h:ED H x=some s):(Conv.bytesToString vx).run P w= .ok (.string s) w:=(uK hS hx h).2
theorem DP (hS:ic fo B0 w R φ H) (hE:ri fo (K R φ H) e a) {t:TypeId} {fs:Array Field} {parts:Array (Nat×Operand)} {aparts:List (Nat×Nat×AO)} {zero:List PV} (hu:P.underlying t=some (.struct fs))
 (hb:Zq P fo fs parts.toList aparts=true) (hall:(fs.all fun f=>(Ld P f.type).isSome)=true) (hz:Mq P t zero=true) {cs:List AV} (hf:Np (zero.map .pv) (aparts.map fun p=>(p.1,p.2.1,p.2.2.ev e))=some cs):
 Nl fo B0 w R φ H P (Instr.build t (parts.map fun (i,x)=>(i,a.eval x))) (Ir cs) H:=by
 unfold Mq at hz
 cases hi:P.info? t with
 |none=>simp[hi] at hz
 |some i=>
  simp only[hi] at hz
  cases hzz:i.zero with
  |none=>simp[hzz] at hz
  |some z=>
   simp only[hzz] at hz
   obtain⟨h1,h2⟩:=yl (R:=R) hz
   have hpl:∀ (l:List Field),(∀ f∈l,(Ld P f.type).isSome=true)→(l.mapM fun f=>(do pure (f.offset,←sizeOf f.type):Sem (Nat×Nat))).run P w= .ok (l.map fun f=>(f.offset,(Ld P f.type).getD 0)) w:=by
    intro l
    induction l with
    |nil=>intro _;simp
    |cons f l ih=>
     intro hl
     obtain⟨n,hn⟩:=Option.isSome_iff_exists.1 (hl f (by simp))
     rw[List.mapM_cons]
     simp only[Sem.run_bind,tc hn,Result.andThen_ok,Sem.run_pure,ih (fun g hg=>hl g (by simp[hg]))]
     simp[hn]
   have hplaces:(fs.mapM fun f=>(do pure (f.offset,←sizeOf f.type):Sem (Nat×Nat))).run P w= .ok (fs.map fun f=>(f.offset,(Ld P f.type).getD 0)) w:=by
    have:=hpl fs.toList (fun f hf=>by
     rw[Array.all_eq_true] at hall
     obtain⟨i,hi,rfl⟩:=List.mem_iff_getElem.1 hf
     simpa using hall i (by simpa using hi))
    rw[Array.mapM_eq_mapM_toList]
    simp only[Sem.run_map,this,Result.andThen_ok]
    exact congrArg (fun x=>Result.ok x w) (by apply Array.ext';simp)
   have spec:∀ {xs:List (Nat×Operand)} {ys:List (Nat×Nat×AO)},Zq P fo fs xs ys=true→(xs.map fun p=>(p.1,a.eval p.2)).length=(ys.map fun p=>(p.1,p.2.1,p.2.2.ev e)).length∧
    ∀ (j:Nat) (i:Nat) (v:Value) (off s:Nat) (x:AV),(xs.map fun p=>(p.1,a.eval p.2))[j]? =some (i,v)→(ys.map fun p=>(p.1,p.2.1,p.2.2.ev e))[j]? =some (off,s,x)→
     (fs.map fun f=>(f.offset,(Ld P f.type).getD 0))[i]? =some (off,s)∧Kc fo (K R φ H) x v:=by
    intro xs
    induction xs with
    |nil=>
     intro ys h
     cases ys with
     |nil=>exact⟨rfl,fun j i v off s x h=>by simp at h⟩
     |cons y ys=>simp[Zq] at h
    |cons x xs ih=>
     intro ys h
     cases ys with
     |nil=>simp[Zq] at h
     |cons y ys=>
      obtain⟨i,x⟩:=x
      obtain⟨off,sz,y⟩:=y
      simp only[Zq,Bool.and_eq_true] at h
      obtain⟨⟨g1,g2⟩,g3⟩:=h
      obtain⟨q1,q2⟩:=ih g3
      refine⟨by simpa using q1,fun k i' v off' s z e1 e2=> ?_⟩
      cases k with
      |zero=>
       simp at e1 e2
       obtain⟨rfl,rfl⟩:=e1
       obtain⟨rfl,rfl,rfl⟩:=e2
       refine⟨?_,Pb hE g2⟩
       cases hfi:fs[i]? with
       |none=>simp[hfi] at g1
       |some f=>
        simp only[hfi,Bool.and_eq_true,beq_iff_eq] at g1
        simp[hfi,g1.1,g1.2]
      |succ k=>exact q2 k i' v off' s z (by simpa using e1) (by simpa using e2)
   obtain⟨s1,s2⟩:=spec hb
   obtain⟨cs',r1,r2⟩:=LC (fo:=fo) (R:=R) (φ:=φ) (H:=H) (fun i=>(fs.map fun f=>(f.offset,(Ld P f.type).getD 0))[i]?) (cs:=z.cells) s1 s2 (fb.GB h1) hf
   have hparts:(parts.map fun (i,x)=>(i,a.eval x)).toList=parts.toList.map fun p=>(p.1,a.eval p.2):=by simp
   refine dr.same (.agg cs') hS ?_ ?_
   ·simp only[Instr.build,Sem.run_bind,zeroValue,run_typeInfo w hi,Result.andThen_ok,hzz,Sem.run_pure,run_underlying hu,hplaces,hparts,r1]
   ·have:=Dt r2
    simpa using this
theorem fR (hS:ic fo B0 w R φ H) {t el:TypeId} {n:Nat} {parts:Array (Nat×Operand)} {zero:List PV} (hu:P.underlying t=some (.array n el)) (hp:parts.toList=[]) (hs:(Ld P el).isSome=true) (hz:Mq P t zero=true):
 Nl fo B0 w R φ H P (Instr.build t (parts.map fun (i,x)=>(i,a.eval x))) (Ir (zero.map .pv)) H:=by
 obtain⟨k,hk⟩:=Option.isSome_iff_exists.1 hs
 obtain rfl:parts= #[]:=by apply Array.ext';simpa using hp
 unfold Mq at hz
 cases hi:P.info? t with
 |none=>simp[hi] at hz
 |some i=>
  simp only[hi] at hz
  cases hzz:i.zero with
  |none=>simp[hzz] at hz
  |some z=>
   simp only[hzz] at hz
   obtain⟨h1,h2⟩:=yl (R:=R) hz
   refine dr.same (.agg z.cells) hS ?_ ?_
   ·simp only[Instr.build,Sem.run_bind,zeroValue,run_typeInfo w hi,Result.andThen_ok,hzz,Sem.run_pure,run_underlying hu,tc hk]
    simp[Instr.fill]
   ·have:=Dt (fb.GB (fo:=fo) (φ:=φ) (H:=H) h1)
    simpa using this
theorem rU {t:TypeId} {f off:Nat} (h:(match IX P t f with | some fd=>fd.offset==off&&(match Ld P fd.type with | some n=>n != 0 | none=>false) | none=>false)=true):
 ∃ fs fd n,P.underlying t=some (.struct fs)∧fs[f]? =some fd∧fd.offset=off∧Ld P fd.type=some n∧n≠0:=by
 cases hs:IX P t f with
 |none=>simp[hs] at h
 |some fd=>
  simp only[hs,Bool.and_eq_true,beq_iff_eq] at h
  obtain⟨h1,h2⟩:=h
  unfold IX at hs
  split at hs
  ·rename_i fs hu
   cases hn:Ld P fd.type with
   |none=>simp[hn] at h2
   |some n=>simp[hn] at h2;exact⟨fs,fd,n,hu,hs,h1,hn,h2⟩
  ·cases hs
theorem eU {t:TypeId} {f off n:Nat} {ag:Bool} (h:(match IX P t f with | some fd=>fd.offset==off&&Fl P fd.type==some ag&&(!ag||Ld P fd.type==some n) | none=>false)=true):
 ∃ fs fd,P.underlying t=some (.struct fs)∧fs[f]? =some fd∧fd.offset=off∧Fl P fd.type=some ag∧(ag=true→Ld P fd.type=some n):=by
 cases hs:IX P t f with
 |none=>simp[hs] at h
 |some fd=>
  simp only[hs,Bool.and_eq_true,beq_iff_eq] at h
  obtain⟨⟨h1,h2⟩,h3⟩:=h
  unfold IX at hs
  split at hs
  ·rename_i fs hu
   exact⟨fs,fd,hu,hs,h1,h2,fun e=>by simpa using WY h3 e⟩
  ·cases hs
theorem SS {t:TypeId} {n sz:Nat} (h:(match P.underlying t with | some (.array n' el)=>n'==n&&Ld P el==some sz | _=>false)=true):∃ el,P.underlying t=some (.array n el)∧Ld P el=some sz:=by
 split at h
 ·rename_i n' el hu
  simp at h
  obtain⟨rfl,h⟩:=h
  exact⟨el,hu,h⟩
 ·cases h
theorem tR {t:TypeId} {n sz:Nat} {ag:Bool} (h:(match P.underlying t with | some (.array n' el)=>n'==n&&Ld P el==some sz&&Fl P el==some ag | _=>false)=true):∃ el,P.underlying t=some (.array n el)∧Ld P el=some sz∧Fl P el=some ag:=by
 split at h
 ·rename_i n' el hu
  simp at h
  obtain⟨⟨rfl,h⟩,h2⟩:=h
  exact⟨el,hu,h,h2⟩
 ·cases h
theorem rG (mx:Bool) {xs:List AV} {vs:List Value} {p:PV} (hl:fb fo (K R φ H) xs vs) (hb:Mo mx xs=some p):
 ∃ v0 rest v,vs=v0::rest∧(rest.foldlM (if mx then Builtin.max2 else Builtin.min2) v0).run P w= .ok v w∧Sa R p v:=by
 unfold Mo at hb
 split at hb
 ·rename_i k x r
  cases hl with
  |cons _ _ v vs h1 h2=>
   rw[Yd h1 rfl]
   obtain⟨u,q1,q2⟩:=bL (P:=P) (w:=w) mx h2 hb
   exact⟨_,_,u,rfl,q1,q2⟩
 ·cases hb
theorem wP (s:ByteArray) (i:Nat):s[i]? =s.data.toList[i]? :=by
 by_cases h:i < s.size
 ·rw[getElem?_pos s i h]
  have h2:i < s.data.toList.length:=by rw[Array.length_toList];exact h
  rw[List.getElem?_eq_getElem h2]
  rfl
 ·rw[getElem?_neg s i h]
  have h2:¬i < s.data.toList.length:=by rw[Array.length_toList];exact h
  rw[List.getElem?_eq_none (by omega)]
set_option maxHeartbeats 1000000 in
theorem UL {o:Oper} {op:Op} {aop:qd} {v:AV} (ho:o.op=op) (Ba:YU P fo op aop=true) (hS:ic fo B0 w R φ H) (hE:ri fo (K R φ H) e a) (hev:ya call e H aop=some (v,H')):
 xz P fo B0 o a w R φ H v H':=by
 unfold YU at Ba
 split at Ba
 case h_1 x y=>
  simp[ya] at hev
  obtain⟨rfl,rfl⟩:=hev
  exact .Fs hS (by simp[execOp,ho]) (Pb hE Ba)
 case h_2 x y=>
  simp[ya] at hev
  obtain⟨rfl,rfl⟩:=hev
  exact .Fs hS (by simp[execOp,ho]) (Pb hE Ba)
 case h_3 c x y c' x' y'=>
  simp only[Bool.and_eq_true] at Ba
  simp only[ya,Option.bind_eq_some_iff] at hev
  obtain⟨t,h1,h2⟩:=hev
  simp at h2
  obtain⟨rfl,rfl⟩:=h2
  have hc:=xy (Pb hE Ba.1.1) h1
  refine .Fs (v':=if t then a.eval x else a.eval y) hS (by simp[execOp,ho,hc,Go.asBool]) ?_
  cases t
  ·exact Pb hE Ba.2
  ·exact Pb hE Ba.1.2
 case h_4 t zero=>
  simp[ya] at hev
  obtain⟨rfl,rfl⟩:=hev
  exact .Wc (by simp[execOp,ho]) (JQ hS Ba)
 case h_5 t x n y=>
  simp only[ya] at hev
  split at hev
  ·rename_i hc
   simp at hev
   obtain⟨rfl,rfl⟩:=hev
   exact .Wc (by simp[execOp,ho]) (uX (t:=t) hS (Pb hE Ba) hc.2)
  ·cases hev
 case h_6 t parts zero aparts=>
  simp only[Bool.and_eq_true] at Ba
  obtain⟨h1,h2⟩:=Ba
  simp only[ya,Option.map_eq_some_iff,Prod.mk.injEq] at hev
  obtain⟨cs,hf,rfl,rfl⟩:=hev
  cases hu:P.underlying t with
  |none=>simp[hu] at h1
  |some d=>
   cases d with
   |struct fs=>
    simp only[hu,Bool.and_eq_true] at h1
    exact .Wc (s:=Instr.build t (parts.map fun (i,x)=>(i,a.eval x))) (by simp[execOp,ho]) (DP hS hE hu h1.1 h1.2 h2 hf)
   |array n el=>
    simp only[hu,Bool.and_eq_true,List.isEmpty_iff] at h1
    rw[h1.1.2] at hf
    simp only[List.map_nil,Np,Option.some.injEq] at hf
    subst hf
    exact .Wc (s:=Instr.build t (parts.map fun (i,x)=>(i,a.eval x))) (by simp[execOp,ho]) (fR hS hu h1.1.1 h1.2 h2)
   |_=>simp[hu] at h1
 case h_7 t len parts hh sz ag len' zero aparts=>
  simp only[Bool.and_eq_true,beq_iff_eq,decide_eq_true_eq] at Ba
  obtain⟨⟨⟨h1,rfl⟩,h2⟩,h3⟩:=Ba
  cases hel:Kv P t with
  |none=>simp[hel] at h1
  |some el=>
   simp only[hel] at h1
   simp only[ya,Option.bind_eq_some_iff] at hev
   obtain⟨cs,hf,hfr⟩:=hev
   split at hfr
   ·rename_i hone
    obtain⟨q1,q2⟩:=Mz hE (sz:=sz) h3
    have:=QM (fo:=fo) (B0:=B0) hS (Nn hel) (xH h1) h2 q1 q2 hf hone hfr
    refine .Wc (s:=Instr.buildSlice t len (parts.map fun (i,x)=>(i,a.eval x))) (by simp[execOp,ho]) ?_
    have hp:(parts.map fun (i,x)=>(i,a.eval x))=(parts.toList.map fun p=>(p.1,a.eval p.2)).toArray:=by
     apply Array.ext';simp
    rw[hp]
    exact this
   ·cases hfr
 case h_8 t x ag n y=>
  simp only[Bool.and_eq_true,beq_iff_eq] at Ba
  simp only[ya,Option.map_eq_some_iff,Prod.mk.injEq] at hev
  obtain⟨u,hl,rfl,rfl⟩:=hev
  obtain⟨vv,h1,h2⟩:=yJ (P:=P) hS (Pb hE Ba.2) Ba.1.1 (fun e=>by simpa using WY Ba.1.2 e) hl
  exact .Wc (s:=Instr.loadAt t (a.eval x)) (by simp[execOp,ho]) (dr.same vv hS h1 h2)
 case h_9 t p x n q y=>
  simp only[Bool.and_eq_true,beq_iff_eq] at Ba
  simp only[ya,Option.map_eq_some_iff,Prod.mk.injEq] at hev
  obtain⟨H1,hl,rfl,rfl⟩:=hev
  obtain⟨w',φ',h1,h2,h3,h4⟩:=xR (P:=P) hS (Pb hE Ba.1.2) (Pb hE Ba.2) Ba.1.1 hl
  intro next Q hn
  unfold Oper.wp
  have:(execOp a.eval o).run P w= .ok .skip w':=by simp[execOp,ho,h1]
  rw[this]
  exact hn undef w' R φ' h2 (.atom _ _ (show Sa R _ _ from .mc [] [] .nil)) h3 h4
 case h_10 x y=>
  simp only[ya] at hev
  have hx:=Pb (R:=R) (φ:=φ) (H:=H) hE Ba
  generalize AO.ev e y=z at hev hx
  obtain⟨vx,hvx⟩:∃ vx,a.eval x=vx:=⟨_,rfl⟩
  rw[hvx] at hx
  split at hev
  ·rename_i ix caps
   simp at hev
   obtain⟨rfl,rfl⟩:=hev
   have hx2:=hx
   cases hx2 with
   |atom _ _ h=>exact h.elim
   |Fk _ _ vs h=>
    refine .Fs hS ?_ hx
    simp[execOp,ho,hvx]
  ·simp only[Option.map_eq_some_iff,Prod.mk.injEq] at hev
   obtain⟨u,hp,rfl,rfl⟩:=hev
   obtain⟨b,o',h1,h2⟩:=oB hS hx hp
   have:=SM hp
   subst this
   refine .Fs hS ?_ hx
   simp[execOp,ho,hvx,h1]
 case h_11 op' t x y t' op x' y'=>
  simp only[Bool.and_eq_true,decide_eq_true_eq] at Ba
  obtain⟨⟨rfl,h1⟩,h2⟩:=Ba
  simp only[ya,Option.map_eq_some_iff,Prod.mk.injEq] at hev
  obtain⟨p,hp,rfl,rfl⟩:=hev
  obtain⟨u,q1,q2⟩:=wW (P:=P) (w:=w) (Pb hE h1) (Pb hE h2) hp t x y
  exact .Wc (s:=do eqGuard op' t x y (a.eval x) (a.eval y);binOp op' t (a.eval x) (a.eval y)) (by simp[execOp,ho]) (dr.same u hS q1 (.atom _ _ q2))
 case h_12 t x y t' k x' y'=>
  simp only[Bool.and_eq_true,beq_iff_eq] at Ba
  simp only[ya,Option.map_eq_some_iff,Prod.mk.injEq] at hev
  obtain⟨b,hb,rfl,rfl⟩:=hev
  have:=VS Ba.1.1 hS (Pb hE Ba.1.2) (Pb hE Ba.2) hb .eql (.inl rfl) x y
  exact .Wc (s:=do eqGuard .eql t x y (a.eval x) (a.eval y);binOp .eql t (a.eval x) (a.eval y)) (by simp[execOp,ho]) (dr.same _ hS this (.atom _ _ (by simpa[K] using Sa.bool (R:=R) b)))
 case h_13 t x y t' k x' y'=>
  simp only[Bool.and_eq_true,beq_iff_eq] at Ba
  simp only[ya,Option.map_eq_some_iff,Prod.mk.injEq] at hev
  obtain⟨b,hb,rfl,rfl⟩:=hev
  have:=VS Ba.1.1 hS (Pb hE Ba.1.2) (Pb hE Ba.2) hb .neq (.inr rfl) x y
  exact .Wc (s:=do eqGuard .neq t x y (a.eval x) (a.eval y);binOp .neq t (a.eval x) (a.eval y)) (by simp[execOp,ho]) (dr.same _ hS this (.atom _ _ (by simpa[K] using Sa.bool (R:=R) (!b))))
 case h_14 op' t x op y=>
  simp only[Bool.and_eq_true,decide_eq_true_eq] at Ba
  obtain⟨rfl,h1⟩:=Ba
  simp only[ya,Option.map_eq_some_iff,Prod.mk.injEq] at hev
  obtain⟨p,hp,rfl,rfl⟩:=hev
  obtain⟨u,q1,q2⟩:=DY (P:=P) (w:=w) (Pb hE h1) hp
  exact .Wc (s:=Op.unary op' (a.eval x)) (by simp[execOp,ho]) (dr.same u hS q1 (.atom _ _ q2))
 case h_15 s d x k y=>
  simp only[Bool.and_eq_true] at Ba
  simp only[ya,Option.map_eq_some_iff,Prod.mk.injEq] at hev
  obtain⟨⟨k',n⟩,hp,rfl,rfl⟩:=hev
  have hx:=Yd (Pb hE Ba.2) hp
  obtain⟨ds,hds⟩:=Option.isSome_iff_exists.1 Ba.1.1
  have hd:P.underlying d=some (.int k):=by
   have:=Ba.1.2
   unfold MZ at this
   split at this
   ·rename_i k2 h;simp at this;subst this;exact h
   ·cases this
  refine .Wc (s:=convert s d (a.eval x)) (by simp[execOp,ho]) (dr.same _ hS ?_ (.atom _ _ (show Sa R _ _ from .int _ _)))
  rw[hx];exact aU hds hd
 case h_16 s d x y=>
  simp only[Bool.and_eq_true] at Ba
  obtain⟨⟨h1,h2⟩,h3⟩:=Ba
  simp only[ya,Option.map_eq_some_iff,Prod.mk.injEq] at hev
  obtain⟨str,hp,rfl,rfl⟩:=hev
  have hx:=Pb (R:=R) (φ:=φ) (H:=H) hE h3
  cases hel:Kv P s with
  |none=>simp[hel] at h1
  |some el=>
   simp only[hel] at h1
   have hs:=Nn hel
   have hb:P.underlying el=some (.int .u8):=by
    unfold gY at h1
    split at h1
    ·rename_i h;exact h
    ·cases h1
   have hd:P.underlying d=some .string:=by
    unfold SY at h2
    split at h2
    ·rename_i h;exact h
    ·cases h2
   have hr:=FV (P:=P) hS hx hp
   refine .Wc (s:=convert s d (a.eval x)) (by simp[execOp,ho]) (dr.same (.string str) hS ?_ (.atom _ _ (show Sa R _ _ from .str _)))
   obtain⟨sa,sl,sc,hv⟩:=HP hS hx hp
   rw[hv] at hr ⊢
   rw[run_convert_bytes_string w s d el sa sl sc hs hb hd]
   exact hr
 case h_17 s d x hh y=>
  simp only[Bool.and_eq_true] at Ba
  obtain⟨⟨h1,h2⟩,h3⟩:=Ba
  obtain⟨ds,hds⟩:=Option.isSome_iff_exists.1 h1
  simp only[ya] at hev
  have hx:=Pb (R:=R) (φ:=φ) (H:=H) hE h3
  split at hev
  ·rename_i b hy
   rw[hy] at hx
   obtain⟨vx,hvx⟩:∃ vx,a.eval x=vx:=⟨_,rfl⟩
   rw[hvx] at hx
   have hp:=hx.Qb
   cases hp
   cases hel:Kv P d with
   |none=>simp[hel] at h2
   |some el=>
    simp only[hel] at h2
    have hb:P.underlying el=some (.int .u8):=by
     unfold gY at h2
     split at h2
     ·rename_i h;exact h
     ·cases h2
    exact .Wc (s:=convert s d (.string b)) (by simp[execOp,ho,hvx]) (UW hS hds (Nn hel) hb hev)
  ·cases hev
 case h_18 f first caps ix ys=>
  simp only[Bool.and_eq_true,beq_iff_eq] at Ba
  obtain⟨⟨h1,rfl⟩,h2⟩:=Ba
  simp[ya] at hev
  obtain⟨rfl,rfl⟩:=hev
  have hf:first= #[]:=by simpa using h1
  have:=Nu (R:=R) (φ:=φ) (H:=H) hE h2
  refine .Wc (s:=Instr.makeFunc (.func (fo ix)) (first.map a.eval) (caps.map a.eval)) (by simp[execOp,ho]) (dr.same (.func (.func (fo ix)) #[] (caps.map a.eval)) hS (by simp[Instr.makeFunc,hf]) ?_)
  have hcaps:caps.map a.eval=⟨caps.toList.map a.eval⟩:=by apply Array.ext';simp
  rw[hcaps]
  exact .Fk _ _ _ this
 case h_19 t l c hh sz ag zero bytes l' c'=>
  simp only[Bool.and_eq_true,decide_eq_true_eq] at Ba
  obtain⟨⟨⟨h1,h2⟩,h3⟩,h4⟩:=Ba
  cases hel:Kv P t with
  |none=>simp[hel] at h1
  |some el=>
   simp only[hel,Bool.and_eq_true,beq_iff_eq] at h1
   simp only[ya,Option.bind_eq_some_iff] at hev
   obtain⟨⟨kl,nl⟩,hl,⟨kc,nc⟩,hc,hif⟩:=hev
   split at hif
   ·rename_i hcond
    have e1:=Yd (Pb hE h3) hl
    have e2:=Yd (Pb hE h4) hc
    refine .Wc (s:=Instr.makeSlice t (a.eval l) (a.eval c)) (by simp[execOp,ho]) ?_
    rw[e1,e2]
    exact EK hS (Nn hel) (xH h1.1) h1.2 h2 hcond.1 hcond.2.1 hcond.2.2 hif
   ·cases hif
 case h_20 t x lo hi sz y lo' hi'=>
  simp only[Bool.and_eq_true] at Ba
  obtain⟨⟨⟨h1,h2⟩,h3⟩,h4⟩:=Ba
  have hx:=Pb (R:=R) (φ:=φ) (H:=H) hE h2
  have hu:(sz≠0∧∃ el,P.underlying t=some (.slice el)∧Ld P el=some sz)∨(sz=0∧P.underlying t=some .string):=by
   cases hu:P.underlying t with
   |none=>simp[hu] at h1
   |some d=>
    cases d <;> simp[hu] at h1
    ·exact .inr ⟨h1,rfl⟩
    ·exact .inl ⟨h1.1,_,rfl,h1.2⟩
  have fin:∀ {l h:Option Int},((lo.map a.eval=none∧l=none)∨∃ k n,lo.map a.eval=some (.int k n)∧l=some n)→((hi.map a.eval=none∧h=none)∨∃ k n,hi.map a.eval=some (.int k n)∧h=some n)→
   (ye H sz (AO.ev e y) l h).map (fun v=>(v,H))=some (v,H')→xz P fo B0 o a w R φ H v H':=by
   intro l h hl hh hsl
   simp only[Option.map_eq_some_iff,Prod.mk.injEq] at hsl
   obtain⟨u,hu2,rfl,rfl⟩:=hsl
   exact .Wc (s:=Instr.sliceAt t (a.eval x) (lo.map a.eval) (hi.map a.eval) none) (by simp[execOp,ho]) (QR hS hx hu hl hh hu2)
  rcases yO hE h3 with⟨rfl,rfl⟩ | ⟨x1,y1,rfl,rfl,g1⟩ <;> rcases yO hE h4 with⟨rfl,rfl⟩ | ⟨x2,y2,rfl,rfl,g2⟩
  ·simp only[ya] at hev
   exact fin (.inl ⟨rfl,rfl⟩) (.inl ⟨rfl,rfl⟩) hev
  ·simp only[ya,Option.bind_eq_some_iff] at hev
   obtain⟨⟨k,n⟩,h5,h6⟩:=hev
   exact fin (.inl ⟨rfl,rfl⟩) (.inr ⟨k,n,by simp[Yd (Pb hE g2) h5],rfl⟩) h6
  ·simp only[ya,Option.bind_eq_some_iff] at hev
   obtain⟨⟨k,n⟩,h5,h6⟩:=hev
   exact fin (.inr ⟨k,n,by simp[Yd (Pb hE g1) h5],rfl⟩) (.inl ⟨rfl,rfl⟩) h6
  ·simp only[ya,Option.bind_eq_some_iff] at hev
   obtain⟨⟨k,n⟩,h5,⟨k2,n2⟩,h7,h6⟩:=hev
   exact fin (.inr ⟨k,n,by simp[Yd (Pb hE g1) h5],rfl⟩) (.inr ⟨k2,n2,by simp[Yd (Pb hE g2) h7],rfl⟩) h6
 case h_21 t x f off y=>
  simp only[Bool.and_eq_true] at Ba
  obtain⟨h1,h2⟩:=Ba
  simp only[ya,Option.map_eq_some_iff,Prod.mk.injEq] at hev
  obtain⟨u,hp,rfl,rfl⟩:=hev
  obtain⟨fs,fd,n,hu,hf,rfl,hn,hn0⟩:=rU h1
  exact .Wc (s:=Instr.fieldAt t (a.eval x) f) (by simp[execOp,ho]) (HQ hS (Pb hE h2) hu hf hn hn0 hp)
 case h_22 t x f off ag n y=>
  simp only[Bool.and_eq_true] at Ba
  obtain⟨h1,h2⟩:=Ba
  have hx:=Pb (R:=R) (φ:=φ) (H:=H) hE h2
  obtain⟨fs,fd,hu,hf,rfl,ha,hn⟩:=eU h1
  simp only[ya] at hev
  refine .Wc (s:=Instr.field t (a.eval x) f) (by simp[execOp,ho]) ?_
  have hrun:∀ vs:Array Value,(Instr.field t (.agg vs) f).run P w=(part fd.type vs fd.offset).run P w:=by
   intro vs;simp[Instr.field,run_underlying hu,hf,asAgg]
  obtain⟨i1,i2⟩:=LO hx
  split at hev
  ·rename_i cs hy
   obtain⟨vs,e1,e2⟩:=i1 cs hy
   simp only[Option.map_eq_some_iff,Prod.mk.injEq] at hev
   obtain⟨p,hp,rfl,rfl⟩:=hev
   rw[Nl,e1,hrun]
   exact FJ hS ha hn e2 hp
  ·rename_i cs hy
   obtain⟨vs,e1,e2⟩:=i2 cs hy
   simp only[Option.map_eq_some_iff,Prod.mk.injEq] at hev
   obtain⟨p,hp,rfl,rfl⟩:=hev
   rw[Nl,e1,hrun]
   exact iL hS ha hn e2 hp
  ·cases hev
 case h_23 t x i sz y j=>
  simp only[Bool.and_eq_true] at Ba
  obtain⟨⟨h1,h2⟩,h3⟩:=Ba
  simp only[ya,Option.bind_eq_some_iff,Option.map_eq_some_iff,Prod.mk.injEq] at hev
  obtain⟨⟨k,n⟩,hi,u,hp,rfl,rfl⟩:=hev
  have e1:=Yd (Pb hE h3) hi
  cases hel:Kv P t with
  |none=>simp[hel] at h1
  |some el=>
   simp only[hel,beq_iff_eq] at h1
   refine .Wc (s:=Instr.indexAt t (a.eval x) (a.eval i)) (by simp[execOp,ho]) ?_
   rw[e1]
   exact uS hS (Pb hE h2) (Nn hel) h1 hp
 case h_24 t x i n sz y j=>
  simp only[Bool.and_eq_true] at Ba
  obtain⟨⟨h1,h2⟩,h3⟩:=Ba
  simp only[ya,Option.bind_eq_some_iff] at hev
  obtain⟨⟨k,m⟩,hi,hif⟩:=hev
  split at hif
  ·rename_i hix
   simp only[Option.map_eq_some_iff,Prod.mk.injEq] at hif
   obtain⟨u,hp,rfl,rfl⟩:=hif
   have e1:=Yd (Pb hE h3) hi
   obtain⟨el,hu,hsz⟩:=SS h1
   refine .Wc (s:=Instr.indexAt t (a.eval x) (a.eval i)) (by simp[execOp,ho]) ?_
   rw[e1]
   exact PN hS (Pb hE h2) hu hsz hix hp
  ·cases hif
 case h_25 t x i n sz ag y j=>
  simp only[Bool.and_eq_true] at Ba
  obtain⟨⟨h1,h2⟩,h3⟩:=Ba
  have hx:=Pb (R:=R) (φ:=φ) (H:=H) hE h2
  simp only[ya,Option.bind_eq_some_iff] at hev
  obtain⟨⟨k,m⟩,hi,hif⟩:=hev
  split at hif
  ·rename_i hix
   have e1:=Yd (Pb hE h3) hi
   obtain⟨el,hu,hsz,ha⟩:=tR h1
   refine .Wc (s:=Instr.index t (a.eval x) (a.eval i)) (by simp[execOp,ho]) ?_
   obtain⟨g1,g2⟩:=hix
   have hrun:∀ vs:Array Value,(Instr.index t (.agg vs) (.int k m)).run P w=(part el vs (m.toNat * sz)).run P w:=by
    intro vs;simp only[] at g1 g2;simp[Instr.index,asIntOf,run_underlying hu,g1,g2,tc hsz]
   obtain⟨i1,i2⟩:=LO hx
   split at hif
   ·rename_i cs hy
    obtain⟨vs,e2,e3⟩:=i1 cs hy
    simp only[Option.map_eq_some_iff,Prod.mk.injEq] at hif
    obtain⟨p,hp,rfl,rfl⟩:=hif
    rw[Nl,e1,e2,hrun]
    exact FJ hS ha (fun _=>hsz) e3 hp
   ·rename_i cs hy
    obtain⟨vs,e2,e3⟩:=i2 cs hy
    simp only[Option.map_eq_some_iff,Prod.mk.injEq] at hif
    obtain⟨p,hp,rfl,rfl⟩:=hif
    rw[Nl,e1,e2,hrun]
    exact iL hS ha (fun _=>hsz) e3 hp
   ·cases hif
  ·cases hif
 case h_26 t x i y j=>
  simp only[Bool.and_eq_true] at Ba
  obtain⟨⟨h1,h2⟩,h3⟩:=Ba
  have hx:=Pb (R:=R) (φ:=φ) (H:=H) hE h2
  have hd:P.underlying t=some .string:=by
   unfold SY at h1
   split at h1
   ·rename_i h;exact h
   ·cases h1
  simp only[ya,Option.bind_eq_some_iff] at hev
  obtain⟨⟨k,m⟩,hi,hif⟩:=hev
  have e1:=Yd (Pb hE h3) hi
  split at hif
  ·rename_i str hy
   split at hif
   ·rename_i hm
    simp only[Option.map_eq_some_iff,Prod.mk.injEq] at hif
    obtain⟨b,hb,rfl,rfl⟩:=hif
    rw[hy] at hx
    obtain⟨vx,hvx⟩:∃ vx,a.eval x=vx:=⟨_,rfl⟩
    rw[hvx] at hx
    have hp:=hx.Qb
    cases hp
    have hb':str[m.toNat]? =some b:=by rw[← hb];exact wP _ _
    refine .Wc (s:=Instr.index t (a.eval x) (a.eval i)) (by simp[execOp,ho]) (dr.same (.int .u8 b.toNat) hS ?_ (.atom _ _ (show Sa R _ _ from .int _ _)))
    rw[hvx,e1]
    simp only[] at hm
    simp[Instr.index,asIntOf,run_underlying hd,hm,hb']
   ·cases hif
  ·cases hif
 case h_27 x i i' y=>
  simp only[Bool.and_eq_true,beq_iff_eq] at Ba
  obtain⟨rfl,h1⟩:=Ba
  have hx:=Pb (R:=R) (φ:=φ) (H:=H) hE h1
  simp only[ya] at hev
  obtain⟨i1,i2⟩:=DW hx
  refine .Wc (s:=Instr.extract (a.eval x) i) (by simp[execOp,ho]) ?_
  split at hev
  ·rename_i cs hy
   obtain⟨vs,e1,e2⟩:=i1 cs hy
   simp only[Option.map_eq_some_iff,Prod.mk.injEq] at hev
   obtain⟨p,hp,rfl,rfl⟩:=hev
   obtain⟨u,hu,hr⟩:=e2.get hp
   rw[e1]
   exact dr.same u hS (by simp[Instr.extract,hu]) (.atom _ _ hr)
  ·rename_i cs hy
   obtain⟨vs,e1,e2⟩:=i2 cs hy
   simp only[Option.map_eq_some_iff,Prod.mk.injEq] at hev
   obtain⟨p,hp,rfl,rfl⟩:=hev
   obtain⟨u,hu,hr⟩:=e2.get hp
   rw[e1]
   exact dr.same u hS (by simp[Instr.extract,hu]) hr
  ·cases hev
 case h_28 args argTypes k y=>
  simp only[ya,Option.map_eq_some_iff,Prod.mk.injEq] at hev
  obtain⟨n,hn,rfl,rfl⟩:=hev
  split at Ba
  ·rename_i x t hargs htys
   simp only[Bool.and_eq_true] at Ba
   have ha:args= #[x]:=by apply Array.ext';simpa using hargs
   have ht:argTypes= #[t]:=by apply Array.ext';simpa using htys
   subst ha ht
   have hu:(k=0∧∃ e,P.underlying t=some (.slice e))∨(k=1∧P.underlying t=some .string):=by
    have:=Ba.2
    cases hu:P.underlying t with
    |none=>simp[hu] at this
    |some d=>cases d <;> simp[hu] at this <;> simp_all
   exact .Wc (s:=Builtin.len_ #[t] o.type #[a.eval x]) (by simp[execOp,ho,resolve,invoke,builtin]) (pW hS (Pb hE Ba.1) hu hn)
  ·cases Ba
 case h_29 args tys ys=>
  simp only[ya,Option.map_eq_some_iff,Prod.mk.injEq] at hev
  obtain⟨p,hp,rfl,rfl⟩:=hev
  have hl:=Nu (R:=R) (φ:=φ) (H:=H) hE Ba
  obtain⟨v0,rest,u,q0,q1,q2⟩:=rG (P:=P) (w:=w) true hl hp
  exact .Wc (s:=Builtin.max_ tys o.type (args.map a.eval)) (by simp[execOp,ho,resolve,invoke,builtin]) (dr.same u hS (by simp only[Builtin.max_,Array.toList_map,q0];simpa using q1) (.atom _ _ q2))
 case h_30 args tys ys=>
  simp only[ya,Option.map_eq_some_iff,Prod.mk.injEq] at hev
  obtain⟨p,hp,rfl,rfl⟩:=hev
  have hl:=Nu (R:=R) (φ:=φ) (H:=H) hE Ba
  obtain⟨v0,rest,u,q0,q1,q2⟩:=rG (P:=P) (w:=w) false hl hp
  exact .Wc (s:=Builtin.min_ tys o.type (args.map a.eval)) (by simp[execOp,ho,resolve,invoke,builtin]) (dr.same u hS (by simp only[Builtin.min_,Array.toList_map,q0];simpa using q1) (.atom _ _ q2))
 case h_31 args argTypes own hh sz ag bytes s y=>
  simp only[ya] at hev
  split at Ba
  ·rename_i x z t tx hargs htys
   simp only[Bool.and_eq_true] at Ba
   have ha:args= #[x,z]:=by apply Array.ext';simpa using hargs
   have ht:argTypes= #[t,tx]:=by apply Array.ext';simpa using htys
   subst ha ht
   obtain⟨⟨h1,h2⟩,h3⟩:=Ba
   cases hel:Kv P t with
   |none=>simp[hel] at h3
   |some el=>
    simp only[hel,Bool.and_eq_true] at h3
    have hA:=aN h3.1
    refine .Wc (s:=Builtin.append_ #[t,tx] o.type #[a.eval x,a.eval z]) (by simp[execOp,ho,resolve,invoke,builtin]) ?_
    have hs:=Pb (R:=R) (φ:=φ) (H:=H) hE h1
    have hx:=Pb (R:=R) (φ:=φ) (H:=H) hE h2
    generalize AO.ev e s=sv at hev hs
    generalize AO.ev e y=xv at hev hx
    unfold Yb at hev
    split at hev
    ·split at hev
     ·split at hev
      ·rename_i id len sz' ag' cells fl nl hid
       simp only[Option.bind_eq_some_iff] at hev
       obtain⟨⟨m,cs⟩,hy,hif⟩:=hev
       split at hif
       ·rename_i hc
        obtain⟨rfl,hc1,hc2,hc3⟩:=hc
        simp only[Option.some.injEq,Prod.mk.injEq] at hif
        obtain⟨rfl,rfl⟩:=hif
        exact uM hS hA hs hx hid hc1 hy hc3 hc2
       ·cases hif
      ·cases hev
     ·cases hev
    ·split at hev
     ·split at hev
      ·rename_i id nl sz' es sz2 n nl2 hid
       simp only[Option.bind_eq_some_iff] at hev
       obtain⟨ys,hy,hif⟩:=hev
       split at hif
       ·rename_i hc
        obtain⟨rfl,rfl,hc1,hc2⟩:=hc
        simp only[Option.some.injEq,Prod.mk.injEq] at hif
        obtain⟨rfl,rfl⟩:=hif
        exact XQ hS hA hs hx hid hc1 hy hc2
       ·cases hif
      ·cases hev
     ·simp only[Option.bind_eq_some_iff] at hev
      obtain⟨ys,hy,hif⟩:=hev
      split at hif
      ·rename_i hc
       have hp:=hs.Qb
       obtain⟨vs,hvs⟩:∃ vs,a.eval x=vs:=⟨_,rfl⟩
       rw[hvs] at hp ⊢
       cases hp
       exact NJ hS hA hx hy hc hif
      ·cases hif
     ·cases hev
  ·cases Ba
 case h_32 t x n y=>
  simp only[ya] at hev
  split at hev
  ·rename_i hc
   simp only[Option.map_eq_some_iff,Prod.mk.injEq] at hev
   obtain⟨ps,hps,rfl,rfl⟩:=hev
   exact .Wc (by simp[execOp,ho]) (US (t:=t) hS (Pb hE Ba) hc.2 hps)
  ·cases hev
 case h_33 t x y _ ks x' y'=>
  simp only[Bool.and_eq_true,Bool.not_eq_true'] at Ba
  simp only[ya] at hev
  split at hev
  ·rename_i p q hp hq
   simp only[Option.map_eq_some_iff,Prod.mk.injEq] at hev
   obtain⟨b,hb,rfl,rfl⟩:=hev
   have h1:=Pb (R:=R) (φ:=φ) (H:=H) hE Ba.1.2
   have h2:=Pb (R:=R) (φ:=φ) (H:=H) hE Ba.2
   rw[hp] at h1
   rw[hq] at h2
   have hg:=Gz (w:=w) Ba.1.1.2 .eql x y h1.Qb h2.Qb hb
   have hr:=PD (w:=w) Ba.1.1.1 h1.Qb h2.Qb hb
   have hbin:(binOp .eql t (a.eval x) (a.eval y)).run P w= .ok (.bool b) w:=by
    have e:=h1.Qb
    have e2:=h2.Qb
    revert hr
    generalize a.eval x=vx at e
    generalize a.eval y=vy at e2
    intro hr
    have hp2:∃ xs,p= .agg xs:=by cases p <;> simp[Zk] at hb;exact⟨_,rfl⟩
    obtain⟨xs,rfl⟩:=hp2
    have hq2:∃ ys,q= .agg ys:=by cases q <;> simp[Zk] at hb;exact⟨_,rfl⟩
    obtain⟨ys,rfl⟩:=hq2
    cases e;cases e2;simp[binOp,hr]
   exact .Fs (v':= .bool b) hS (by simp[execOp,ho,hg,hbin]) (.atom _ _ (show Sa R _ _ from .bool _))
  ·cases hev
 case h_34 t x y _ ks x' y'=>
  simp only[Bool.and_eq_true,Bool.not_eq_true'] at Ba
  simp only[ya] at hev
  split at hev
  ·rename_i p q hp hq
   simp only[Option.map_eq_some_iff,Prod.mk.injEq] at hev
   obtain⟨b,hb,rfl,rfl⟩:=hev
   have h1:=Pb (R:=R) (φ:=φ) (H:=H) hE Ba.1.2
   have h2:=Pb (R:=R) (φ:=φ) (H:=H) hE Ba.2
   rw[hp] at h1
   rw[hq] at h2
   have hg:=Gz (w:=w) Ba.1.1.2 .neq x y h1.Qb h2.Qb hb
   have hr:=PD (w:=w) Ba.1.1.1 h1.Qb h2.Qb hb
   have hbin:(binOp .neq t (a.eval x) (a.eval y)).run P w= .ok (.bool (!b)) w:=by
    have e:=h1.Qb
    have e2:=h2.Qb
    revert hr
    generalize a.eval x=vx at e
    generalize a.eval y=vy at e2
    intro hr
    have hp2:∃ xs,p= .agg xs:=by cases p <;> simp[Zk] at hb;exact⟨_,rfl⟩
    obtain⟨xs,rfl⟩:=hp2
    have hq2:∃ ys,q= .agg ys:=by cases q <;> simp[Zk] at hb;exact⟨_,rfl⟩
    obtain⟨ys,rfl⟩:=hq2
    cases e;cases e2;simp[binOp,hr]
   exact .Fs (v':= .bool (!b)) hS (by simp[execOp,ho,hg,hbin]) (.atom _ _ (show Sa R _ _ from .bool _))
  ·cases hev
 case h_35 t=>
  simp only[ya,Option.some.injEq,Prod.mk.injEq] at hev
  obtain⟨rfl,rfl⟩:=hev
  exact .Wc (s:=Instr.makeMap t none) (by simp[execOp,ho]) (uQ hS _)
 case h_36 t x k ok kd zero ok' x' k'=>
  simp only[Bool.and_eq_true,beq_iff_eq] at Ba
  obtain⟨⟨⟨⟨h1,h2⟩,rfl⟩,h3⟩,h4⟩:=Ba
  have hm:=Pb (R:=R) (φ:=φ) (H:=H) hE h3
  have hk:=Pb (R:=R) (φ:=φ) (H:=H) hE h4
  simp only[ya] at hev
  split at hev
  ·rename_i kp em ek
   rw[em] at hm;rw[ek] at hk
   split at hev
   ·rename_i hkk
    simp only[Option.some.injEq,Prod.mk.injEq] at hev
    obtain⟨rfl,rfl⟩:=hev
    obtain⟨u,h5,h6⟩:=aE (P:=P) hS h1 h2 hm hk.Qb ok (.inl ⟨rfl,rfl⟩) hkk (r:=none) rfl
    exact .Fs hS (by simp[execOp,ho,h5]) h6
   ·cases hev
  ·rename_i id kp em ek
   rw[em] at hm;rw[ek] at hk
   split at hev
   ·rename_i es hid
    split at hev
    ·rename_i hkk
     simp only[Option.map_eq_some_iff] at hev
     obtain⟨r,hf,hr⟩:=hev
     obtain⟨u,h5,h6⟩:=aE (P:=P) hS h1 h2 hm hk.Qb ok (.inr ⟨id,rfl,hid⟩) hkk hf
     cases r with
     |none=>
      simp only[Prod.mk.injEq] at hr
      obtain⟨rfl,rfl⟩:=hr
      exact .Fs hS (by simp[execOp,ho,h5]) h6
     |some r=>
      simp only[Prod.mk.injEq] at hr
      obtain⟨rfl,rfl⟩:=hr
      exact .Fs hS (by simp[execOp,ho,h5]) h6
    ·cases hev
   ·cases hev
  ·cases hev
 case h_37 t m k x kd m' k' x'=>
  simp only[Bool.and_eq_true] at Ba
  obtain⟨⟨⟨h1,h2⟩,h3⟩,h4⟩:=Ba
  have hm:=Pb (R:=R) (φ:=φ) (H:=H) hE h2
  have hk:=Pb (R:=R) (φ:=φ) (H:=H) hE h3
  have hx:=Pb (R:=R) (φ:=φ) (H:=H) hE h4
  simp only[ya] at hev
  split at hev
  ·rename_i id kp xp em ek ex
   rw[em] at hm;rw[ek] at hk;rw[ex] at hx
   split at hev
   ·rename_i es hid
    split at hev
    ·rename_i hkk
     simp only[Option.map_eq_some_iff] at hev
     obtain⟨r,hf,hr⟩:=hev
     obtain⟨w',φ',h5,h6,h7,h8⟩:=cE (P:=P) hS h1 hm hk.Qb hx.Qb hid hkk hf
     intro next Q hn
     unfold Oper.wp
     have:(execOp a.eval o).run P w= .ok .skip w':=by simp[execOp,ho,h5]
     rw[this]
     cases r with
     |none=>
      simp only[Prod.mk.injEq] at hr
      obtain⟨rfl,rfl⟩:=hr
      exact hn undef w' R φ' h6 (.atom _ _ (show Sa R _ _ from .mc [] [] .nil)) h7 h8
     |some r=>
      simp only[Prod.mk.injEq] at hr
      obtain⟨rfl,rfl⟩:=hr
      exact hn undef w' R φ' h6 (.atom _ _ (show Sa R _ _ from .mc [] [] .nil)) h7 h8
    ·cases hev
   ·cases hev
  ·cases hev
 case h_38 t m k x kd m' k' x'=>
  simp only[Bool.and_eq_true] at Ba
  obtain⟨⟨⟨h1,h2⟩,h3⟩,h4⟩:=Ba
  have hm:=Pb (R:=R) (φ:=φ) (H:=H) hE h2
  have hk:=Pb (R:=R) (φ:=φ) (H:=H) hE h3
  have hx:=Pb (R:=R) (φ:=φ) (H:=H) hE h4
  simp only[ya] at hev
  split at hev
  ·rename_i id kp xp em ek ex
   rw[em] at hm;rw[ek] at hk;rw[ex] at hx
   split at hev
   ·rename_i es hid
    split at hev
    ·rename_i hkk
     simp only[Option.map_eq_some_iff] at hev
     obtain⟨r,hf,hr⟩:=hev
     obtain⟨w',φ',h5,h6,h7,h8⟩:=cE (P:=P) hS h1 hm hk.Qb hx.Qb hid hkk hf
     intro next Q hn
     unfold Oper.wp
     have:(execOp a.eval o).run P w= .ok .skip w':=by simp[execOp,ho,h5]
     rw[this]
     cases r with
     |none=>
      simp only[Prod.mk.injEq] at hr
      obtain⟨rfl,rfl⟩:=hr
      exact hn undef w' R φ' h6 (.atom _ _ (show Sa R _ _ from .mc [] [] .nil)) h7 h8
     |some r=>
      simp only[Prod.mk.injEq] at hr
      obtain⟨rfl,rfl⟩:=hr
      exact hn undef w' R φ' h6 (.atom _ _ (show Sa R _ _ from .mc [] [] .nil)) h7 h8
    ·cases hev
   ·cases hev
  ·cases hev
 case h_39 s d x y=>
  simp only[ya] at hev
  split at hev
  ·rename_i id es hx
   split at hev
   ·rename_i n hid
    split at hev
    ·rename_i hn2
     simp only[Option.some.injEq,Prod.mk.injEq] at hev
     obtain⟨rfl,rfl⟩:=hev
     simp only[Bool.and_eq_true,beq_iff_eq] at Ba
     obtain⟨⟨rfl,hsl⟩,h3⟩:=Ba
     have hr:=Pb (R:=R) (φ:=φ) (H:=H) hE h3
     rw[hx] at hr
     exact pR ho hS hr hid hn2 hsl
    ·cases hev
   ·cases hev
  ·cases hev
 case h_40=>cases Ba
end ops
end Go.AM
namespace Go.AM
def AO.look (n:Nat):AO→Bool
 | .t m=>n==m
 |_=>false
def qd.look (n:Nat):qd→Bool
 | .move x | .box _ x | .bN _ x | .load _ _ x | .bD x | .un _ x | .conv _ x | .PX x | .YY x | .jW _ x | .PC _ x | .PY _ _ _ x | .ext _ x | .len _ x=>x.look n
 | .alloc _=>false
 | .pick c a b=>c.look n||a.look n||b.look n
 | .build _ ps=>ps.any fun p=>p.2.2.look n
 | .Gb _ _ _ _ _ ps=>ps.any fun p=>p.2.look n
 | .store _ a v=>a.look n||v.look n
 | .bin _ x y | .eq _ _ x y=>x.look n||y.look n
 | .PF _ xs | .mx xs | .mn xs | .Bn _ xs | .tj _ xs=>xs.any (·.look n)
 | .Xg _ _ _ _ _ l c=>l.look n||c.look n
 | .slice _ x lo hi=>x.look n||(lo.any (·.look n))||(hi.any (·.look n))
 | .sd _ x i | .Yv _ _ x i | .BV _ _ _ x i | .LY x i=>x.look n||i.look n
 | .append _ _ _ _ _ s x=>s.look n||x.look n
 | .ZV _ _ x y=>x.look n||y.look n
 | .sE=>false
 | .lookup _ _ _ m k=>m.look n||k.look n
 | .tu _ m k v=>m.look n||k.look n||v.look n
 | .OB f xs=>f.look n||xs.any (·.look n)
def fZ (p:Nat→Bool) (e e':Tr):Prop:=∀ n,p n=true→e.get n=e'.get n
theorem AO.HL {e e':Tr} {x:AO} (h:∀ n,x.look n=true→e.get n=e'.get n):x.ev e=x.ev e':=by
 cases x with
 |t n=>exact h n (by simp[AO.look])
 |c p=>rfl
 |f ix=>rfl
theorem XP {e e':Tr} {xs:List AO} (h:∀ n,xs.any (·.look n)=true→e.get n=e'.get n):xs.map (·.ev e)=xs.map (·.ev e'):=
 List.map_congr_left fun x hx=>AO.HL fun n hn=>h n (List.any_eq_true.2 ⟨x,hx,hn⟩)
theorem lz {call:Wa} {e e':Tr} {H:List ba} {op:qd} (h:fZ (fun n=>op.look n) e e'):ya call e H op=ya call e' H op:=by
 have one:∀ x:AO,(∀ n,x.look n=true→op.look n=true)→x.ev e=x.ev e':=fun x hx=>AO.HL fun n hn=>h n (hx n hn)
 have many:∀ xs:List AO,(∀ n,xs.any (·.look n)=true→op.look n=true)→xs.map (·.ev e)=xs.map (·.ev e'):=fun xs hx=>XP fun n hn=>h n (hx n hn)
 cases op with
 |move x=>simp only[ya];rw[one x (fun n h=>by simpa[qd.look] using h)]
 |pick c a b=>
  simp only[ya]
  rw[one c (fun n h=>by simp[qd.look,h]),one a (fun n h=>by simp[qd.look,h]),one b (fun n h=>by simp[qd.look,h])]
 |alloc z=>rfl
 |box n x=>simp only[ya];rw[one x (fun n h=>by simpa[qd.look] using h)]
 |bN n x=>simp only[ya];rw[one x (fun n h=>by simpa[qd.look] using h)]
 |build z ps=>
  simp only[ya]
  rw[List.map_congr_left (f:=fun p:Nat×Nat×AO=>(p.1,p.2.1,p.2.2.ev e)) (g:=fun p=>(p.1,p.2.1,p.2.2.ev e')) fun p hp=>by
   rw[one p.2.2 (fun n h=>by simp only[qd.look];exact List.any_eq_true.2 ⟨p,hp,h⟩)]]
 |Gb hh sz ag len z ps=>
  simp only[ya]
  rw[List.map_congr_left (f:=fun p:Nat×AO=>(p.1 * sz,sz,si e p.2)) (g:=fun p=>(p.1 * sz,sz,si e' p.2)) fun p hp=>by
   unfold si
   rw[one p.2 (fun n h=>by simp only[qd.look];exact List.any_eq_true.2 ⟨p,hp,h⟩)]]
 |load ag n x=>simp only[ya];rw[one x (fun n h=>by simpa[qd.look] using h)]
 |store n a v=>simp only[ya];rw[one a (fun n h=>by simp[qd.look,h]),one v (fun n h=>by simp[qd.look,h])]
 |bD x=>simp only[ya];rw[one x (fun n h=>by simpa[qd.look] using h)]
 |bin op x y=>simp only[ya];rw[one x (fun n h=>by simp[qd.look,h]),one y (fun n h=>by simp[qd.look,h])]
 |eq k ne x y=>simp only[ya];rw[one x (fun n h=>by simp[qd.look,h]),one y (fun n h=>by simp[qd.look,h])]
 |un op x=>simp only[ya];rw[one x (fun n h=>by simpa[qd.look] using h)]
 |conv k x=>simp only[ya];rw[one x (fun n h=>by simpa[qd.look] using h)]
 |PX x=>simp only[ya];rw[one x (fun n h=>by simpa[qd.look] using h)]
 |jW hh x=>simp only[ya];rw[one x (fun n h=>by simpa[qd.look] using h)]
 |YY x=>simp only[ya];rw[one x (fun n h=>by simpa[qd.look] using h)]
 |PF ix xs=>simp only[ya];rw[many xs (fun n h=>by simpa[qd.look] using h)]
 |Xg hh sz ag z b l c=>simp only[ya];rw[one l (fun n h=>by simp[qd.look,h]),one c (fun n h=>by simp[qd.look,h])]
 |slice sz x lo hi=>
  have hx:=one x (fun n h=>by simp[qd.look,h])
  cases lo with
  |none=>
   cases hi with
   |none=>simp only[ya];rw[hx]
   |some hi=>simp only[ya];rw[hx,one hi (fun n h=>by simp[qd.look,h])]
  |some lo=>
   cases hi with
   |none=>simp only[ya];rw[hx,one lo (fun n h=>by simp[qd.look,h])]
   |some hi=>simp only[ya];rw[hx,one lo (fun n h=>by simp[qd.look,h]),one hi (fun n h=>by simp[qd.look,h])]
 |PC off x=>simp only[ya];rw[one x (fun n h=>by simpa[qd.look] using h)]
 |PY off ag n x=>simp only[ya];rw[one x (fun n h=>by simpa[qd.look] using h)]
 |sd sz x i=>simp only[ya];rw[one x (fun n h=>by simp[qd.look,h]),one i (fun n h=>by simp[qd.look,h])]
 |Yv n sz x i=>simp only[ya];rw[one x (fun n h=>by simp[qd.look,h]),one i (fun n h=>by simp[qd.look,h])]
 |BV n sz ag x i=>simp only[ya];rw[one x (fun n h=>by simp[qd.look,h]),one i (fun n h=>by simp[qd.look,h])]
 |LY x i=>simp only[ya];rw[one x (fun n h=>by simp[qd.look,h]),one i (fun n h=>by simp[qd.look,h])]
 |ext i x=>simp only[ya];rw[one x (fun n h=>by simpa[qd.look] using h)]
 |len k x=>simp only[ya];rw[one x (fun n h=>by simpa[qd.look] using h)]
 |mx xs=>simp only[ya];rw[many xs (fun n h=>by simpa[qd.look] using h)]
 |mn xs=>simp only[ya];rw[many xs (fun n h=>by simpa[qd.look] using h)]
 |append o hh sz ag b s x=>simp only[ya];rw[one s (fun n h=>by simp[qd.look,h]),one x (fun n h=>by simp[qd.look,h])]
 |ZV kd ne x y=>simp only[ya];rw[one x (fun n h=>by simp[qd.look,h]),one y (fun n h=>by simp[qd.look,h])]
 |sE=>rfl
 |lookup kd z ok m k=>simp only[ya];rw[one m (fun n h=>by simp[qd.look,h]),one k (fun n h=>by simp[qd.look,h])]
 |tu kd m k v=>simp only[ya];rw[one m (fun n h=>by simp[qd.look,h]),one k (fun n h=>by simp[qd.look,h]),one v (fun n h=>by simp[qd.look,h])]
 |Bn F xs=>simp only[ya];rw[many xs (fun n h=>by simpa[qd.look] using h)]
 |tj ix xs=>simp only[ya];rw[many xs (fun n h=>by simpa[qd.look] using h)]
 |OB f xs=>simp only[ya];rw[one f (fun n h=>by simp[qd.look,h]),many xs (fun n h=>by simp only[qd.look,h,Bool.or_true])]
def ba.XN:ba→Bool
 | .tok _ _ _=>true
 |_=>false
def Ut (H H':List ba):Prop:=∀ (id:Nat) (o:ba),H[id]? =some o→o.XN=false→H'[id]? =some o
theorem Ut.refl (H:List ba):Ut H H:=fun _ _ h _=>h
theorem Ut.push (H:List ba) (o:ba):Ut H (H++[o]):=fun id o' h _=>by
 have hl:id < H.length:=(List.getElem?_eq_some_iff.1 h).1
 rw[List.getElem?_append_left hl];exact h
theorem Ut.IK (H:List ba) (a b:Nat) (c:Bool):Ut (H++[.tok a b c]) H:=fun id o h ht=>by
 by_cases hl:id < H.length
 ·rw[List.getElem?_append_left hl] at h;exact h
 ·rw[List.getElem?_append_right (by omega)] at h
  by_cases h0:id - H.length=0
  ·rw[h0] at h;simp at h;subst h;simp[ba.XN] at ht
  ·rw[List.getElem?_eq_none (by simp;omega)] at h;cases h
theorem Ut.fX {H:List ba} {id:Nat} {a b:Nat} {c:Bool} (h:H[id]? =some (.tok a b c)) (a' b':Nat) (c':Bool):
 Ut H (H.set id (.tok a' b' c'))∧Ut (H.set id (.tok a' b' c')) H:=by
 constructor
 ·intro i o hi ht
  by_cases e:id=i
  ·subst e;rw[h] at hi;injection hi with hi;subst hi;simp[ba.XN] at ht
  ·rw[List.getElem?_set_ne e];exact hi
 ·intro i o hi ht
  by_cases e:id=i
  ·subst e
   have hl:id < H.length:=(List.getElem?_eq_some_iff.1 h).1
   rw[List.getElem?_set_self hl] at hi;injection hi with hi;subst hi;simp[ba.XN] at ht
  ·rw[List.getElem?_set_ne e] at hi;exact hi
def Af.isLit:Af→Bool
 | .lit=>true
 |_=>false
def Af.Ij:Af→Bool
 | .own=>true
 |_=>false
def qd.cls:qd→Nat
 | .move _ | .pick _ _ _ | .build _ _ | .bin _ _ _ | .un _ _ | .conv _ _ | .PF _ _ | .PY _ _ _ _ | .BV _ _ _ _ _ | .LY _ _ | .ext _ _ | .mx _ | .mn _ | .bN _ _ | .ZV _ _ _ _=>0
 | .load _ _ _ | .bD _ | .PC _ _ | .sd _ _ _ | .Yv _ _ _ _ | .len _ _ | .eq _ _ _ _ | .slice _ _ _ _ | .PX _ | .Bn _ _ | .lookup _ _ _ _ _=>1
 | .Gb h _ _ _ _ _ | .jW h _ | .Xg h _ _ _ _ _ _=>(if h.isLit then 0 else if h.Ij then 3 else 2)
 | .append own h _ _ _ _ _=>(if own then 4 else if h.Ij then 4 else 2)
 | .alloc _ | .box _ _=>3
 |_=>4
theorem ZS {H H':List ba} (h:Ut H H'):∀ (d:Nat) (v:AV) (p:PV),dc H d v=some p→dc H' d v=some p:=by
 intro d
 induction d with
 |zero=>intro v p hp;cases v <;> simp_all [dc]
 |succ d ih=>
  have many:∀ (cs:List AV) (ps:List PV),Ra (dc H d) cs=some ps→Ra (dc H' d) cs=some ps:=by
   intro cs
   induction cs with
   |nil=>intro ps h;simpa[Ra] using h
   |cons c cs ihc=>
    intro ps h
    simp only[Ra,Option.bind_eq_some_iff] at h ⊢
    obtain⟨b,h1,bs,h2,h3⟩:=h
    exact⟨b,ih _ _ h1,bs,ihc _ h2,h3⟩
  intro v p hp
  cases v with
  |pv q=>simpa[dc] using hp
  |uq=>simpa[dc] using hp
  |own id len=>
   simp only[dc] at hp ⊢
   split at hp
   ·rename_i sz ag cells fl nl hid
    rw[h _ _ hid rfl]
    split at hp
    ·rename_i hc
     simp only[if_pos hc]
     cases nl with
     |true=>simpa using hp
     |false=>
      simp only[Bool.false_eq_true,if_false,Option.map_eq_some_iff] at hp ⊢
      obtain⟨ps,h1,h2⟩:=hp
      exact⟨ps,many _ _ h1,h2⟩
    ·cases hp
   ·cases hp
  |ptr id off=>
   simp only[dc] at hp ⊢
   split at hp
   ·rename_i cells hid
    rw[h _ _ hid rfl]
    simp only[Option.map_eq_some_iff] at hp ⊢
    obtain⟨ps,h1,h2⟩:=hp
    exact⟨ps,many _ _ h1,h2⟩
   ·cases hp
  |agg cs=>
   simp only[dc,Option.map_eq_some_iff] at hp ⊢
   obtain⟨ps,h1,h2⟩:=hp
   exact⟨ps,many _ _ h1,h2⟩
  |mc cs=>
   simp only[dc,Option.map_eq_some_iff] at hp ⊢
   obtain⟨ps,h1,h2⟩:=hp
   exact⟨ps,many _ _ h1,h2⟩
  |Gc=>simp[dc] at hp
  |Fk=>simp[dc] at hp
  |mp=>simp[dc] at hp
  |undef=>simp[dc] at hp
theorem DQ {H H':List ba} (h:Ut H H') {d:Nat}:∀ {cs:List AV} {ps:List PV},Ra (dc H d) cs=some ps→Ra (dc H' d) cs=some ps:=by
 intro cs
 induction cs with
 |nil=>intro ps h;simpa[Ra] using h
 |cons c cs ihc=>
  intro ps hp
  simp only[Ra,Option.bind_eq_some_iff] at hp ⊢
  obtain⟨b,h1,bs,h2,h3⟩:=hp
  exact⟨b,ZS h _ _ _ h1,bs,ihc h2,h3⟩
theorem PA {H H':List ba} (h:Ut H H') {d:Nat} {x v:AV} (hp:place H d x=some v):place H' d x=some v:=by
 unfold place at hp ⊢
 split at hp
 ·exact hp
 ·split at hp
  ·rename_i hid;rw[h _ _ hid rfl];exact hp
  ·cases hp
 ·split at hp
  ·rename_i hid;rw[h _ _ hid rfl];exact hp
  ·cases hp
 ·cases hp
theorem mR {H H':List ba} (h:Ut H H') {ag:Bool} {n:Nat} {x v:AV} (hp:xa H ag n x=some v):xa H' ag n x=some v:=by
 unfold xa at hp ⊢
 split at hp
 ·exact hp
 ·split at hp
  ·rename_i hid;rw[h _ _ hid rfl];exact hp
  ·cases hp
 ·split at hp
  ·rename_i hid;rw[h _ _ hid rfl];exact hp
  ·cases hp
 ·cases hp
theorem yP {H H':List ba} (h:Ut H H') {sz:Nat} {x v:AV} {i:Int} (hp:wa H sz x i=some v):wa H' sz x i=some v:=by
 unfold wa at hp ⊢
 split at hp
 ·exact hp
 ·exact hp
 ·split at hp
  ·rename_i hid;rw[h _ _ hid rfl];exact hp
  ·cases hp
 ·cases hp
theorem yV {H H':List ba} (h:Ut H H') {k:Nat} {x:AV} {n:Nat} (hp:Vb H k x=some n):Vb H' k x=some n:=by
 unfold Vb at hp ⊢
 split at hp
 ·exact hp
 ·exact hp
 ·exact hp
 ·exact hp
 ·split at hp
  ·rename_i hid;rw[h _ _ hid rfl];exact hp
  ·cases hp
 ·exact hp
 ·split at hp
  ·rename_i hid;rw[h _ _ hid rfl];exact hp
  ·cases hp
 ·cases hp
theorem oX {H H':List ba} (h:Ut H H') {k:Nat} {x y:AV} {b:Bool} (hp:Vs H k x y=some b):Vs H' k x y=some b:=by
 unfold Vs at hp ⊢
 split at hp <;> first
  |exact hp
  | (split at hp
     ·rename_i hid;simp only[h _ _ hid rfl];exact hp
     ·cases hp)
  |cases hp
theorem oV {H H':List ba} (h:Ut H H') {x:AV} {b:ByteArray} (hp:ED H x=some b):ED H' x=some b:=by
 unfold ED at hp ⊢
 split at hp <;> first
  |exact hp
  | (split at hp
     ·rename_i hid;rw[h _ _ hid rfl];exact hp
     ·cases hp)
  |cases hp
theorem dv {H H':List ba} (h:Ut H H') {sz:Nat} {x v:AV} {lo hi:Option Int} (hp:ye H sz x lo hi=some v):ye H' sz x lo hi=some v:=by
 unfold ye at hp ⊢
 split at hp <;> first
  |exact hp
  | (split at hp
     ·rename_i hid;rw[h _ _ hid rfl];exact hp
     ·cases hp)
  |cases hp
theorem YA {H:List ba} {sz:Nat} {ag:Bool} {n:Nat} {cs:List AV} {v:AV} {H':List ba} (h:fresh H .lit sz ag n cs=some (v,H')):
 H'=H∧∀ H2,fresh H2 .lit sz ag n cs=some (v,H2):=by
 simp only[fresh,Option.map_eq_some_iff,Prod.mk.injEq] at h ⊢
 obtain⟨ps,h1,rfl,rfl⟩:=h
 exact⟨rfl,fun H2=>⟨ps,h1,rfl,trivial⟩⟩
theorem KD {H:List ba} {sz:Nat} {ag:Bool} {n:Nat} {cs:List AV} {v:AV} {H':List ba} (h:fresh H .uq sz ag n cs=some (v,H')):
 Ut H H'∧Ut H' H:=by
 simp only[fresh,Option.map_eq_some_iff,Prod.mk.injEq] at h
 obtain⟨ps,h1,rfl,rfl⟩:=h
 exact⟨Ut.push _ _,Ut.IK _ _ _ _⟩
theorem oA {H:List ba} {sz:Nat} {ag:Bool} {n:Nat} {cs:List AV} {v:AV} {H':List ba} (h:fresh H .own sz ag n cs=some (v,H')):
 Ut H H':=by
 simp only[fresh,Option.some.injEq,Prod.mk.injEq] at h
 obtain⟨rfl,rfl⟩:=h
 exact Ut.push _ _
theorem cZ {call:Wa} {e:Tr} {H H':List ba} {op:qd} {v:AV} (hc:op.cls=0) (h:ya call e H op=some (v,H')):
 H'=H∧∀ H2,ya call e H2 op=some (v,H2):=by
 have ob:∀ {α:Type} {x:Option α} {f:α→AV},(x.map fun v=>(f v,H))=some (v,H')→H'=H∧∀ H2:List ba,(x.map fun v=>(f v,H2))=some (v,H2):=by
  intro α x f h
  cases x with
  |none=>simp at h
  |some x=>simp at h;exact⟨h.2.symm,fun H2=>by simp[h.1]⟩
 cases op with
 |move x=>simp only[ya,Option.some.injEq,Prod.mk.injEq] at h ⊢;exact⟨h.2.symm,fun H2=>⟨h.1,trivial⟩⟩
 |pick c a b=>
  simp only[ya,Option.bind_eq_some_iff,Option.some.injEq,Prod.mk.injEq] at h ⊢
  obtain⟨t,h1,h2,h3⟩:=h
  exact⟨h3.symm,fun H2=>⟨t,h1,h2,trivial⟩⟩
 |bN n x=>
  simp only[ya] at h ⊢
  split at h
  ·rename_i h0;simp only[if_pos h0];exact ob h
  ·cases h
 |build z ps=>exact ob h
 |bin o x y=>exact ob h
 |ZV kd ne x y=>simp only[ya] at h ⊢;split at h <;> first | exact ob h | cases h
 |un o x=>exact ob h
 |conv k x=>exact ob h
 |mx xs=>exact ob h
 |mn xs=>exact ob h
 |PF ix xs=>simp only[ya,Option.some.injEq,Prod.mk.injEq] at h ⊢;exact⟨h.2.symm,fun H2=>⟨h.1,trivial⟩⟩
 |PY off ag n x=>simp only[ya] at h ⊢;split at h <;> first | exact ob h | cases h
 |ext i x=>simp only[ya] at h ⊢;split at h <;> first | exact ob h | cases h
 |BV n sz ag x i=>
  simp only[ya] at h ⊢
  cases hi:asInt (i.ev e) with
  |none=>simp[hi] at h
  |some k=>
   simp only[hi,Option.bind_some] at h ⊢
   split at h
   ·rename_i hx;simp only[if_pos hx];split at h <;> first | exact ob h | cases h
   ·cases h
 |LY x i=>
  simp only[ya] at h ⊢
  cases hi:asInt (i.ev e) with
  |none=>simp[hi] at h
  |some k=>
   simp only[hi,Option.bind_some] at h ⊢
   split at h
   ·split at h
    ·rename_i h0;simp only[if_pos h0];exact ob h
    ·cases h
   ·cases h
 |Gb hh sz ag len z ps=>
  cases hh with
  |lit=>
   simp only[ya] at h ⊢
   cases hf:Np (Dk z len) (ps.map fun p=>(p.1 * sz,sz,si e p.2)) with
   |none=>simp[hf] at h
   |some cs=>
    simp only[hf,Option.bind_some] at h ⊢
    split at h
    ·rename_i h0;simp only[if_pos h0];exact YA h
    ·cases h
  |uq=>simp[qd.cls,Af.isLit,Af.Ij] at hc
  |own=>simp[qd.cls,Af.isLit,Af.Ij] at hc
 |jW hh x=>
  cases hh with
  |lit=>
   simp only[ya] at h ⊢
   split at h
   ·exact YA h
   ·cases h
  |uq=>simp[qd.cls,Af.isLit,Af.Ij] at hc
  |own=>simp[qd.cls,Af.isLit,Af.Ij] at hc
 |Xg hh sz ag z b l c=>
  cases hh with
  |lit=>
   simp only[ya] at h ⊢
   cases hl:asInt (l.ev e) with
   |none=>simp[hl] at h
   |some l=>
    cases hcc:asInt (c.ev e) with
    |none=>simp[hl,hcc] at h
    |some c=>
     simp only[hl,hcc,Option.bind_some] at h ⊢
     split at h
     ·rename_i h0;simp only[if_pos h0];exact YA h
     ·cases h
  |uq=>simp[qd.cls,Af.isLit,Af.Ij] at hc
  |own=>simp[qd.cls,Af.isLit,Af.Ij] at hc
 |append o hh _ _ _ _ _=>exfalso;simp only[qd.cls] at hc;split at hc <;> first | cases hc | (split at hc <;> cases hc)
 |_=>simp[qd.cls] at hc
theorem SV {call:Wa} {e:Tr} {H H':List ba} {op:qd} {v:AV} (hc:op.cls=1) (h:ya call e H op=some (v,H')):
 H'=H∧∀ H2,Ut H H2→ya call e H2 op=some (v,H2):=by
 have ob:∀ {α:Type} {g:List ba→Option α} {f:α→AV},((g H).map fun v=>(f v,H))=some (v,H')→(∀ H2 a,Ut H H2→g H=some a→g H2=some a)→
  H'=H∧∀ H2:List ba,Ut H H2→((g H2).map fun v=>(f v,H2))=some (v,H2):=by
  intro α g f h hg
  cases hx:g H with
  |none=>simp[hx] at h
  |some x=>simp[hx] at h;exact⟨h.2.symm,fun H2 ha=>by simp[hg H2 x ha hx,h.1]⟩
 cases op with
 |load ag n x=>exact ob (g:=fun H=>xa H ag n (x.ev e)) h fun H2 a ha hp=>mR ha hp
 |PC off x=>exact ob (g:=fun H=>place H off (x.ev e)) h fun H2 a ha hp=>PA ha hp
 |len k x=>exact ob (g:=fun H=>Vb H k (x.ev e)) h fun H2 a ha hp=>yV ha hp
 |PX x=>exact ob (g:=fun H=>ED H (x.ev e)) h fun H2 a ha hp=>oV ha hp
 |eq k ne x y=>exact ob (g:=fun H=>Vs H k (x.ev e) (y.ev e)) h fun H2 a ha hp=>oX ha hp
 |bD x=>
  simp only[ya] at h ⊢
  split at h
  ·simp only[Option.some.injEq,Prod.mk.injEq] at h ⊢;exact⟨h.2.symm,fun H2 _=>⟨h.1,trivial⟩⟩
  ·exact ob (g:=fun H=>place H 0 (x.ev e)) h fun H2 a ha hp=>PA ha hp
 |sd sz x i=>
  simp only[ya] at h ⊢
  cases hi:asInt (i.ev e) with
  |none=>simp[hi] at h
  |some k=>
   simp only[hi,Option.bind_some] at h ⊢
   exact ob (g:=fun H=>wa H sz (x.ev e) k.2) h fun H2 a ha hp=>yP ha hp
 |Yv n sz x i=>
  simp only[ya] at h ⊢
  cases hi:asInt (i.ev e) with
  |none=>simp[hi] at h
  |some k=>
   simp only[hi,Option.bind_some] at h ⊢
   split at h
   ·rename_i h0
    simp only[if_pos h0]
    exact ob (g:=fun H=>place H (k.2.toNat * sz) (x.ev e)) h fun H2 a ha hp=>PA ha hp
   ·cases h
 |slice sz x lo hi=>
  cases lo with
  |none=>
   cases hi with
   |none=>exact ob (g:=fun H=>ye H sz (x.ev e) none none) h fun H2 a ha hp=>dv ha hp
   |some hi=>
    simp only[ya] at h ⊢
    cases hh:asInt (hi.ev e) with
    |none=>simp[hh] at h
    |some k=>
     simp only[hh,Option.bind_some] at h ⊢
     exact ob (g:=fun H=>ye H sz (x.ev e) none (some k.2)) h fun H2 a ha hp=>dv ha hp
  |some lo=>
   cases hi with
   |none=>
    simp only[ya] at h ⊢
    cases hh:asInt (lo.ev e) with
    |none=>simp[hh] at h
    |some k=>
     simp only[hh,Option.bind_some] at h ⊢
     exact ob (g:=fun H=>ye H sz (x.ev e) (some k.2) none) h fun H2 a ha hp=>dv ha hp
   |some hi=>
    simp only[ya] at h ⊢
    cases hl:asInt (lo.ev e) with
    |none=>simp[hl] at h
    |some l=>
     cases hh:asInt (hi.ev e) with
     |none=>simp[hl,hh] at h
     |some k=>
      simp only[hl,hh,Option.bind_some] at h ⊢
      exact ob (g:=fun H=>ye H sz (x.ev e) (some l.2) (some k.2)) h fun H2 a ha hp=>dv ha hp
 |lookup kd z ok m k=>
  simp only[ya] at h ⊢
  split at h
  ·split at h
   ·rename_i h0
    simp only[Option.some.injEq,Prod.mk.injEq] at h
    exact⟨h.2.symm,fun H2 _=>by rw[if_pos h0,h.1]⟩
   ·cases h
  ·rename_i id k' _ _
   split at h
   ·rename_i es hid
    split at h
    ·rename_i h0
     simp only[Option.map_eq_some_iff] at h
     obtain⟨r,h1,h2⟩:=h
     cases r with
     |none=>
      simp only[Prod.mk.injEq] at h2
      exact⟨h2.2.symm,fun H2 ha=>by rw[ha _ _ hid rfl];simp only[if_pos h0,h1,Option.map_some,h2.1]⟩
     |some r=>
      simp only[Prod.mk.injEq] at h2
      exact⟨h2.2.symm,fun H2 ha=>by rw[ha _ _ hid rfl];simp only[if_pos h0,h1,Option.map_some,h2.1]⟩
    ·cases h
   ·cases h
  ·cases h
 |Bn F xs=>
  simp only[ya,Option.bind_eq_some_iff] at h ⊢
  obtain⟨ps,h1,r,h2,h3⟩:=h
  split at h3
  ·rename_i h5
   simp only[Option.some.injEq,Prod.mk.injEq] at h3
   obtain⟨h3,h4⟩:=h3
   exact⟨h4.symm,fun H2 ha=>⟨ps,DQ ha h1,r,h2,by rw[if_pos h5,h3]⟩⟩
  ·cases h3
 |Gb hh _ _ _ _ _=>cases hh <;> simp[qd.cls,Af.isLit,Af.Ij] at hc
 |jW hh _=>cases hh <;> simp[qd.cls,Af.isLit,Af.Ij] at hc
 |Xg hh _ _ _ _ _ _=>cases hh <;> simp[qd.cls,Af.isLit,Af.Ij] at hc
 |append o hh _ _ _ _ _=>cases o <;> cases hh <;> simp[qd.cls,Af.Ij] at hc
 |_=>simp[qd.cls] at hc
theorem lZ {call:Wa} {e:Tr} {H H':List ba} {op:qd} {v:AV} (hc:op.cls=2) (h:ya call e H op=some (v,H')):Ut H H'∧Ut H' H:=by
 cases op with
 |Gb hh sz ag len z ps=>
  cases hh with
  |uq=>
   simp only[ya] at h
   cases hf:Np (Dk z len) (ps.map fun p=>(p.1 * sz,sz,si e p.2)) with
   |none=>simp[hf] at h
   |some cs=>
    simp only[hf,Option.bind_some] at h
    split at h
    ·exact KD h
    ·cases h
  |lit=>simp[qd.cls,Af.isLit,Af.Ij] at hc
  |own=>simp[qd.cls,Af.isLit,Af.Ij] at hc
 |jW hh x=>
  cases hh with
  |uq=>
   simp only[ya] at h
   split at h
   ·exact KD h
   ·cases h
  |lit=>simp[qd.cls,Af.isLit,Af.Ij] at hc
  |own=>simp[qd.cls,Af.isLit,Af.Ij] at hc
 |Xg hh sz ag z b l c=>
  cases hh with
  |uq=>
   simp only[ya] at h
   cases hl:asInt (l.ev e) with
   |none=>simp[hl] at h
   |some l=>
    cases hcc:asInt (c.ev e) with
    |none=>simp[hl,hcc] at h
    |some c=>
     simp only[hl,hcc,Option.bind_some] at h
     split at h
     ·exact KD h
     ·cases h
  |lit=>simp[qd.cls,Af.isLit,Af.Ij] at hc
  |own=>simp[qd.cls,Af.isLit,Af.Ij] at hc
 |append o hh sz ag b s x=>
  cases o with
  |true=>simp[qd.cls] at hc
  |false=>
   simp only[ya,Yb,Bool.false_eq_true,if_false] at h
   split at h
   ·split at h
    ·rename_i hid
     simp only[Option.bind_eq_some_iff] at h
     obtain⟨ys,h1,h2⟩:=h
     split at h2
     ·simp only[Option.some.injEq,Prod.mk.injEq] at h2
      obtain⟨_,rfl⟩:=h2
      exact Ut.fX hid _ _ _
     ·cases h2
    ·cases h
   ·simp only[Option.bind_eq_some_iff] at h
    obtain⟨ys,h1,h2⟩:=h
    split at h2
    ·unfold Yo at h2
     split at h2
     ·simp only[Option.some.injEq,Prod.mk.injEq] at h2
      obtain⟨_,rfl⟩:=h2
      exact⟨Ut.refl _,Ut.refl _⟩
     ·split at h2
      ·simp only[Option.some.injEq,Prod.mk.injEq] at h2
       obtain⟨_,rfl⟩:=h2
       exact⟨Ut.refl _,Ut.refl _⟩
      ·simp only[Option.some.injEq,Prod.mk.injEq] at h2
       obtain⟨_,rfl⟩:=h2
       exact⟨Ut.push _ _,Ut.IK _ _ _ _⟩
      ·cases h2
    ·cases h2
   ·cases h
 |_=>simp[qd.cls] at hc
theorem wZ {call:Wa} {e:Tr} {H H':List ba} {op:qd} {v:AV} (hc:op.cls=3) (h:ya call e H op=some (v,H')):Ut H H':=by
 cases op with
 |alloc z=>simp only[ya,Option.some.injEq,Prod.mk.injEq] at h;obtain⟨_,rfl⟩:=h;exact Ut.push _ _
 |box n x=>
  simp only[ya] at h
  split at h
  ·simp only[Option.some.injEq,Prod.mk.injEq] at h;obtain⟨_,rfl⟩:=h;exact Ut.push _ _
  ·cases h
 |Gb hh sz ag len z ps=>
  cases hh with
  |own=>
   simp only[ya] at h
   cases hf:Np (Dk z len) (ps.map fun p=>(p.1 * sz,sz,si e p.2)) with
   |none=>simp[hf] at h
   |some cs=>
    simp only[hf,Option.bind_some] at h
    split at h
    ·exact oA h
    ·cases h
  |lit=>simp[qd.cls,Af.isLit,Af.Ij] at hc
  |uq=>simp[qd.cls,Af.isLit,Af.Ij] at hc
 |jW hh x=>
  cases hh with
  |own=>
   simp only[ya] at h
   split at h
   ·exact oA h
   ·cases h
  |lit=>simp[qd.cls,Af.isLit,Af.Ij] at hc
  |uq=>simp[qd.cls,Af.isLit,Af.Ij] at hc
 |Xg hh sz ag z b l c=>
  cases hh with
  |own=>
   simp only[ya] at h
   cases hl:asInt (l.ev e) with
   |none=>simp[hl] at h
   |some l=>
    cases hcc:asInt (c.ev e) with
    |none=>simp[hl,hcc] at h
    |some c=>
     simp only[hl,hcc,Option.bind_some] at h
     split at h
     ·exact oA h
     ·cases h
  |lit=>simp[qd.cls,Af.isLit,Af.Ij] at hc
  |uq=>simp[qd.cls,Af.isLit,Af.Ij] at hc
 |append o hh _ _ _ _ _=>cases o <;> cases hh <;> simp[qd.cls,Af.Ij] at hc
 |_=>simp[qd.cls] at hc
def rV (x y:Nat):Bool:=x==0||y==0||(x==1&&decide (y≤3))||(x==2&&y==1)
def gb.cls (o:gb):Nat:=if o.pr then 0 else o.op.cls
theorem Jw {call:Wa} {e e':Tr} {H:List ba} {o:gb} (h:fZ (fun n=>o.op.look n) e e'):Oj call e H o=Oj call e' H o:=by
 unfold Oj
 rw[lz h,lz (H:=H) h]
theorem oK {H:List ba} {r:Option (AV×List ba)} {v:AV} {H':List ba} (h:GX H r=some (v,H')):r=some (v,[])∧H'=H:=by
 unfold GX at h
 split at h
 ·simp only[Option.some.injEq,Prod.mk.injEq] at h
  obtain⟨rfl,rfl⟩:=h
  exact⟨rfl,rfl⟩
 ·cases h
theorem eT {call:Wa} {e:Tr} {H H':List ba} {o:gb} {v:AV} (hc:o.cls=0) (h:Oj call e H o=some (v,H')):H'=H∧∀ H2,Oj call e H2 o=some (v,H2):=by
 unfold Oj gb.cls at *
 cases hp:o.pr with
 |true=>
  simp only[hp,cond_true] at h ⊢
  obtain⟨h1,rfl⟩:=oK h
  exact⟨rfl,fun H2=>by rw[h1];rfl⟩
 |false=>simp only[hp,cond_false,Bool.false_eq_true,if_false] at h hc ⊢;exact cZ hc h
theorem ZW {call:Wa} {e:Tr} {H:List ba} {o:gb} (hc:o.cls≠0):Oj call e H o=ya call e H o.op∧o.cls=o.op.cls:=by
 unfold Oj gb.cls at *
 cases hp:o.pr with
 |true=>simp[hp] at hc
 |false=>simp
theorem iV {call:Wa} {e:Tr} {H H1 H2:List ba} {x y:gb} {v1 v2:AV} (hc:rV x.cls y.cls=true)
 (h1:Oj call e H x=some (v1,H1)) (h2:Oj call e H1 y=some (v2,H2)):
 ∃ H3,Oj call e H y=some (v2,H3)∧Oj call e H3 x=some (v1,H2):=by
 simp only[rV,Bool.or_eq_true,beq_iff_eq,Bool.and_eq_true,decide_eq_true_eq] at hc
 rcases hc with ((hx | hy) | ⟨hx,hy⟩) | ⟨hx,hy⟩
 ·obtain⟨rfl,h⟩:=eT hx h1
  exact⟨H2,h2,h H2⟩
 ·obtain⟨rfl,h⟩:=eT hy h2
  exact⟨H,h H,h1⟩
 ·have kx:=fun H=>ZW (call:=call) (e:=e) (H:=H) (o:=x) (by omega)
  rw[(kx H).1] at h1
  rw[(kx H).2] at hx
  obtain⟨rfl,h⟩:=SV hx h1
  refine⟨H2,h2,?_⟩
  rw[(kx H2).1]
  refine h H2 ?_
  by_cases hy0:y.cls=0
  ·rw[(eT hy0 h2).1];exact Ut.refl _
  ·have ky:=ZW (call:=call) (e:=e) (H:=H1) hy0
   rw[ky.1] at h2
   rw[ky.2] at hy hy0
   have:y.op.cls=1∨y.op.cls=2∨y.op.cls=3:=by omega
   rcases this with hy | hy | hy
   ·rw[(SV hy h2).1];exact Ut.refl _
   ·exact (lZ hy h2).1
   ·exact wZ hy h2
 ·have kx:=fun H=>ZW (call:=call) (e:=e) (H:=H) (o:=x) (by omega)
  have ky:=fun H=>ZW (call:=call) (e:=e) (H:=H) (o:=y) (by omega)
  rw[(kx H).1] at h1
  rw[(kx H).2] at hx
  rw[(ky H1).1] at h2
  rw[(ky H).2] at hy
  obtain⟨rfl,h⟩:=SV hy h2
  exact⟨H,by rw[(ky H).1];exact h H (lZ hx h1).2,by rw[(kx H).1];exact h1⟩
end Go.AM
namespace Go.AM
open Go.RowKit
def IF (s s':St):Prop:=s.H=s'.H∧∀ t,s.env.get t=s'.env.get t
theorem IF.refl (s:St):IF s s:=⟨rfl,fun _=>rfl⟩
theorem IF.symm {s s':St} (h:IF s s'):IF s' s:=⟨h.1.symm,fun t=>(h.2 t).symm⟩
theorem IF.trans {s s' s'':St} (h:IF s s') (k:IF s' s''):IF s s'':=⟨h.1.trans k.1,fun t=>(h.2 t).trans (k.2 t)⟩
def gb.look (n:Nat) (o:gb):Bool:=o.op.look n||(match o.guard with | some (t,_)=>n==t | none=>false)
def OA (d:Option Nat) (p:Nat→Bool):Bool:=
 match d with
 |some d=>p d
 |none=>false
def VG (x y:gb):Bool:=
 !OA x.dst (fun d=>y.look d)&& !OA y.dst (fun d=>x.look d)&& !OA x.dst (fun d=>y.dst==some d)&&rV x.cls y.cls
theorem Us {e e':Tr} {g:Option (Nat×Bool)} (h:∀ t b,g=some (t,b)→e.get t=e'.get t):ug e g=ug e' g:=by
 cases g with
 |none=>rfl
 |some g=>obtain⟨t,b⟩:=g;simp only[ug,h t b rfl]
theorem Gw (e:Tr) (d:Option Nat) (v:AV) (t:Nat):(gp e d v).get t=if d=some t then v else e.get t:=by
 cases d with
 |none=>simp[gp]
 |some d=>
  simp only[gp,Tr.aa,Option.some.injEq]
  by_cases h:t=d
  ·subst h;simp
  ·simp[h,Ne.symm h]
theorem ZD {call:Wa} {o:gb} {e e':Tr} {H:List ba} (h:∀ n,o.look n=true→e.get n=e'.get n) {s1:St} (h1:Md call o ⟨e,H⟩=some s1):
 ∃ v,s1.env=gp e o.dst v∧Md call o ⟨e',H⟩=some ⟨gp e' o.dst v,s1.H⟩:=by
 have hw:ug e o.guard=ug e' o.guard:=Us fun t b hg=>h t (by simp[gb.look,hg])
 have ho:Oj call e H o=Oj call e' H o:=Jw fun n hn=>h n (by simp[gb.look,hn])
 unfold Md at h1 ⊢
 simp only at h1 ⊢
 rw[← hw]
 cases hc:ug e o.guard with
 |none=>simp[hc,Sm] at h1
 |some b=>
  cases b with
  |true=>
   simp only[hc,Sm,EN] at h1 ⊢
   rw[← ho]
   cases hv:Oj call e H o with
   |none=>simp[hv,mB] at h1
   |some r=>
    obtain⟨v,H'⟩:=r
    simp only[hv,mB,Option.some.injEq] at h1 ⊢
    subst h1
    exact⟨v,rfl,rfl⟩
  |false=>
   simp only[hc,Sm,Dy,Option.some.injEq] at h1 ⊢
   subst h1
   exact⟨_,rfl,rfl⟩
theorem QI {call:Wa} {o:gb} {s s' s1:St} (he:IF s s') (h:Md call o s=some s1):∃ s1',Md call o s'=some s1'∧IF s1 s1':=by
 obtain⟨e,H⟩:=s
 obtain⟨e',H'⟩:=s'
 obtain⟨h1,h2⟩:=he
 simp only at h1 h2
 subst h1
 obtain⟨v,hv,hh⟩:=ZD (e':=e') (fun n _=>h2 n) h
 refine⟨_,hh,rfl,fun t=> ?_⟩
 simp only[hv,Gw,h2]
theorem TK {call:Wa} {os:List gb}:∀ {s s' s1:St},IF s s'→Cd call os s=some s1→∃ s1',Cd call os s'=some s1'∧IF s1 s1':=by
 induction os with
 |nil=>intro s s' s1 he h;simp only[Cd,Option.some.injEq] at h ⊢;subst h;exact⟨s',rfl,he⟩
 |cons o os ih=>
  intro s s' s1 he h
  simp only[Cd] at h ⊢
  cases ho:Md call o s with
  |none=>simp[ho,Br] at h
  |some s2=>
   simp only[ho,Br] at h
   obtain⟨s2',h2,e2⟩:=QI he ho
   obtain⟨s1',h3,e3⟩:=ih e2 h
   exact⟨s1',by simp[h2,Br,h3],e3⟩
theorem Yp {call:Wa} {o:gb} {e:Tr} {H:List ba} {s1:St} (h:Md call o ⟨e,H⟩=some s1):
 (ug e o.guard=some true∧∃ v,Oj call e H o=some (v,s1.H)∧s1.env=gp e o.dst v)∨
 (ug e o.guard=some false∧s1=⟨gp e o.dst (.pv (.mc [])),H⟩):=by
 unfold Md at h
 simp only at h
 cases hc:ug e o.guard with
 |none=>simp[hc,Sm] at h
 |some b=>
  cases b with
  |true=>
   simp only[hc,Sm,EN] at h
   cases hv:Oj call e H o with
   |none=>simp[hv,mB] at h
   |some r=>
    obtain⟨v,H'⟩:=r
    simp only[hv,mB,Option.some.injEq] at h
    subst h
    exact .inl ⟨rfl,v,by simp,rfl⟩
  |false=>
   simp only[hc,Sm,Dy,Option.some.injEq] at h
   exact .inr ⟨rfl,h.symm⟩
theorem lr {call:Wa} {o:gb} {e:Tr} {H H':List ba} {v:AV} (h:ug e o.guard=some true) (hv:Oj call e H o=some (v,H')):
 Md call o ⟨e,H⟩=some ⟨gp e o.dst v,H'⟩:=by
 simp[Md,h,Sm,EN,hv,mB]
theorem Rn {call:Wa} {o:gb} {e:Tr} {H:List ba} (h:ug e o.guard=some false):
 Md call o ⟨e,H⟩=some ⟨gp e o.dst (.pv (.mc [])),H⟩:=by
 simp[Md,h,Sm,Dy]
theorem Bz {e:Tr} {x y:Option Nat} {v u:AV} (h:∀ d,x=some d→y≠some d) (t:Nat):(gp (gp e x v) y u).get t=(gp (gp e y u) x v).get t:=by
 simp only[Gw]
 by_cases hx:x=some t
 ·have:=h t hx
  simp[hx,this]
 ·simp[hx]
theorem dS {call:Wa} {x y:gb} {s s1 s2:St} (hc:VG x y=true) (h1:Md call x s=some s1) (h2:Md call y s1=some s2):
 ∃ s3 s4,Md call y s=some s3∧Md call x s3=some s4∧IF s2 s4:=by
 obtain⟨e,H⟩:=s
 simp only[VG,Bool.and_eq_true,Bool.not_eq_true'] at hc
 obtain⟨⟨⟨ca,cb⟩,cc⟩,cd⟩:=hc
 have ha:∀ d,x.dst=some d→y.look d=false:=fun d hd=>by simpa[OA,hd] using ca
 have hb:∀ d,y.dst=some d→x.look d=false:=fun d hd=>by simpa[OA,hd] using cb
 have hcc:∀ d,x.dst=some d→y.dst≠some d:=fun d hd he=>by simp[OA,hd,he] at cc
 have lx:∀ (e:Tr) (u:AV) n,x.look n=true→(gp e y.dst u).get n=e.get n:=fun e u n hn=>by
  rw[Gw]
  by_cases hd:y.dst=some n
  ·rw[hb n hd] at hn;cases hn
  ·simp[hd]
 have ly:∀ (e:Tr) (u:AV) n,y.look n=true→(gp e x.dst u).get n=e.get n:=fun e u n hn=>by
  rw[Gw]
  by_cases hd:x.dst=some n
  ·rw[ha n hd] at hn;cases hn
  ·simp[hd]
 have wx:∀ (e:Tr) u,ug (gp e y.dst u) x.guard=ug e x.guard:=fun e u=>Us fun t b hg=>lx e u t (by simp[gb.look,hg])
 have wy:∀ (e:Tr) u,ug (gp e x.dst u) y.guard=ug e y.guard:=fun e u=>Us fun t b hg=>ly e u t (by simp[gb.look,hg])
 have ox:∀ (e:Tr) u H,Oj call (gp e y.dst u) H x=Oj call e H x:=fun e u H=>Jw fun n hn=>lx e u n (by simp[gb.look,hn])
 have oy:∀ (e:Tr) u H,Oj call (gp e x.dst u) H y=Oj call e H y:=fun e u H=>Jw fun n hn=>ly e u n (by simp[gb.look,hn])
 obtain⟨e1,H1⟩:=s1
 obtain⟨e2,H2⟩:=s2
 rcases Yp h1 with⟨g1,v1,q1,r1⟩ | ⟨g1,r1⟩
 ·simp only at q1 r1
  subst r1
  rcases Yp h2 with⟨g2,v2,q2,r2⟩ | ⟨g2,r2⟩
  ·simp only at q2 r2
   subst r2
   rw[wy] at g2
   rw[oy] at q2
   obtain⟨H3,k1,k2⟩:=iV cd q1 q2
   exact⟨_,_,lr g2 k1,lr (by rw[wx];exact g1) (by rw[ox];exact k2),rfl,fun t=>Bz hcc t⟩
  ·injection r2 with r2 r3
   subst r2 r3
   rw[wy] at g2
   exact⟨_,_,Rn g2,lr (by rw[wx];exact g1) (by rw[ox];exact q1),rfl,fun t=>Bz hcc t⟩
 ·injection r1 with r1 r3
  subst r1 r3
  rcases Yp h2 with⟨g2,v2,q2,r2⟩ | ⟨g2,r2⟩
  ·simp only at q2 r2
   subst r2
   rw[wy] at g2
   rw[oy] at q2
   exact⟨_,_,lr g2 q2,Rn (by rw[wx];exact g1),rfl,fun t=>Bz hcc t⟩
  ·injection r2 with r2 r3
   subst r2 r3
   rw[wy] at g2
   exact⟨_,_,Rn g2,Rn (by rw[wx];exact g1),rfl,fun t=>Bz hcc t⟩
theorem qY {call:Wa} {y:gb} {rest:List gb}:∀ {pre:List gb} {s s':St},(∀ x∈pre,VG x y=true)→Cd call (pre++y::rest) s=some s'→
 ∃ s1 s'',Md call y s=some s1∧Cd call (pre++rest) s1=some s''∧IF s' s'':=by
 intro pre
 induction pre with
 |nil=>
  intro s s' _ h
  simp only[List.nil_append,Cd] at h ⊢
  cases ho:Md call y s with
  |none=>simp[ho,Br] at h
  |some s1=>simp only[ho,Br] at h;exact⟨s1,s',rfl,h,IF.refl _⟩
 |cons x pre ih=>
  intro s s' hc h
  simp only[List.cons_append,Cd] at h ⊢
  cases ho:Md call x s with
  |none=>simp[ho,Br] at h
  |some s1=>
   simp only[ho,Br] at h
   obtain⟨s2,s'',k1,k2,k3⟩:=ih (fun z hz=>hc z (by simp[hz])) h
   obtain⟨s3,s4,j1,j2,j3⟩:=dS (hc x (by simp)) ho k1
   obtain⟨s5,i1,i2⟩:=TK j3 k2
   exact⟨s3,s5,j1,by simp[j2,Br,i1],k3.trans i2⟩
def mark (D:Nat):Deferred:={target:= .collected D,args:= #[]}
def Marks (w w':World) (a a':Act):Prop:=∃ Ds:List Nat,a'.defers=Ds.map mark++a.defers∧Ds.Nodup∧∀ D∈Ds,w.heap.size≤D∧w'.heap[D]? =some (.deferred (some []))
theorem Marks.same {w w':World} {a a':Act} (h:a'.defers=a.defers):Marks w w' a a':=⟨[],h,.nil,fun _ h=>by cases h⟩
theorem Marks.trans {B0:Of} {w w' w'':World} {a a' a'':Act} (h:Marks w w' a a') (k:Marks w' w'' a' a'') (hb:zg B0 w' w'') (hs:w.heap.size≤w'.heap.size):Marks w w'' a a'':=by
 obtain⟨D1,e1,n1,k1⟩:=h
 obtain⟨D2,e2,n2,k2⟩:=k
 refine⟨D2++D1,by rw[e2,e1];simp,List.nodup_append.2 ⟨n2,n1,fun x hx y hy e=> ?_⟩,fun D hD=> ?_⟩
 ·subst e
  have:=Wl (k1 x hy).2
  have:=(k2 x hx).1
  omega
 ·rcases List.mem_append.1 hD with h | h
  ·exact⟨Nat.le_trans hs (k2 D h).1,(k2 D h).2⟩
  ·exact⟨(k1 D h).1,hb.Je _ _ (k1 D h).2 rfl⟩
def RF:Option Nat→Fence
 |none=>Fence.wide
 |some l=>Fence.wide.inRound l
theorem qT (ro:Option Nat) (f:FuncId):(RF ro).fn f:=by cases ro <;> trivial
theorem rH (ro:Option Nat):(RF ro).depth=none:=by cases ro <;> rfl
theorem JN {P:Program} {n:Nat} {f:FuncId} {args:Array Value} {w:World} {R:Ending→World→Prop} (ro:Option Nat) (h:Calls P f args w R):CallsIn (RF ro) n P f args w R:=by
 cases ro with
 |none=>exact callsIn_wide.2 h
 |some l=>exact (callsIn_wide (n:=n)).2 h
theorem VP {P:Program} {n:Nat} {row:String} {args:Array Value} {w:World} {R:Value→World→Prop} (ro:Option Nat) (h:Rows P row args w R):RowsIn (RF ro) n P row args w R:=by
 have:RowsIn Fence.wide n P row args w R:=fun c cs _=>let ⟨v,w',r,s⟩:=h c cs;⟨v,w',r,stepsIn_wide.2 s⟩
 cases ro with
 |none=>exact this
 |some l=>exact this
theorem OE {P:Program} {n:Nat} {o:Oper} {a:Act} {w:World} {next:Act→World→Prop} {Q:Exit→Act→World→Prop} (ro:Option Nat) (hd:∀ c,o.op≠ .defer c) (h:o.wp P a w next Q):o.wpIn (RF ro) n P a w next Q:=by
 refine⟨fun f _=>qT ro f,?_⟩
 rw[Oper.semAt_eq _ _ _ hd]
 unfold Oper.wp at h
 generalize (execOp a.eval o).run P w=r at h ⊢
 cases r with
 |ok x w'=>
  cases x <;> simp only[Oper.upon,Oper.uponIn] at h ⊢ <;> first
   |exact h
   |exact⟨fun hx=>by (rw[rH] at hx;cases hx),JN ro h⟩
   |exact⟨fun hx=>by (rw[rH] at hx;cases hx),VP ro h⟩
   |exact h.elim
 |halt x w'=>cases x <;> simp only[Oper.upon,Oper.uponIn] at h ⊢ <;> exact h
structure fm (fo:Nat→FuncId) (B0:Of) (w:World) (R:Rd) (φ:Pl) (H:List ba) (a:Act) (w':World) (R':Rd) (φ':Pl) (s':St) (a':Act):Prop where
 rel:ic fo B0 w' R' φ' s'.H
 env:ri fo (K R' φ' s'.H) s'.env a'
 mono:∀ x u,K R φ H x u→K R' φ' s'.H x u
 below:zg B0 w w'
 size:a'.tmps.size=a.tmps.size
 defers:Marks w w' a a'
section
variable {P:Program} {fo:Nat→FuncId} {B0:Of} {call:Wa}
theorem fm.refl {w:World} {R:Rd} {φ:Pl} {s:St} {a:Act} (hS:ic fo B0 w R φ s.H) (hE:ri fo (K R φ s.H) s.env a):fm fo B0 w R φ s.H a w R φ s a:=
 ⟨hS,hE,fun _ _ h=>h,zg.refl _ _,rfl,.same rfl⟩
theorem fm.trans {w w' w'':World} {R R' R'':Rd} {φ φ' φ'':Pl} {H:List ba} {s' s'':St} {a a' a'':Act}
 (h:fm fo B0 w R φ H a w' R' φ' s' a') (k:fm fo B0 w' R' φ' s'.H a' w'' R'' φ'' s'' a''):fm fo B0 w R φ H a w'' R'' φ'' s'' a'':=
 ⟨k.rel,k.env,fun x u hx=>k.mono _ _ (h.mono _ _ hx),h.below.trans k.below,k.size.trans h.size,h.defers.trans k.defers k.below h.below.size⟩
theorem fm.eqv {w w':World} {R R':Rd} {φ φ':Pl} {H:List ba} {s' s'':St} {a a':Act} (h:fm fo B0 w R φ H a w' R' φ' s' a') (he:IF s' s''):fm fo B0 w R φ H a w' R' φ' s'' a':=by
 obtain⟨e1,e2⟩:=he
 exact⟨e1 ▸ h.rel,fun t=>by rw[← e2,←e1];exact h.env t,e1 ▸ h.mono,h.below,h.size,h.defers⟩
theorem ic.drew {w w':World} {R:Rd} {φ:Pl} {H:List ba} (h:ic fo B0 w R φ H) (hw:w'.heap=w.heap):ic fo B0 w' R φ H:=by
 have hb:∀ b arr,Mx w b arr→Mx w' b arr:=fun b arr hb=>hb.Je (by rw[hw])
 refine⟨by rw[hw];exact h.low,fun b o v hv=>by rw[← h.sub b o v hv];simp[World.cell?,hw],fun id o ho=> ?_,h.inj,h.Ko,fun k hk=>by rw[hw];exact h.slt k hk,h.free⟩
 have:=h.obj id o ho
 cases o with
 |box cells=>exact⟨this.1,this.2.1,this.2.2.1,this.2.2.2.imp fun arr q=>⟨hb _ _ q.1,q.2⟩⟩
 |seq sz ag cells fl nl=>exact⟨this.1,this.2.1,this.2.2.1,this.2.2.2.1,fun e=>⟨(this.2.2.2.2 e).1,(this.2.2.2.2 e).2.1,(this.2.2.2.2 e).2.2.imp fun arr q=>⟨hb _ _ q.1,q.2⟩⟩⟩
 |tok sz n nl=>exact⟨this.1,this.2.1,fun e=>⟨(this.2.2 e).1,(this.2.2 e).2.1,(this.2.2 e).2.2.imp fun arr q=>⟨hb _ _ q.1,q.2⟩⟩⟩
 |map es=>
  obtain⟨h1,h2,ents,clk,h3,h4⟩:=this
  exact⟨h1,h2,ents,clk,by rw[hw];exact h3,h4⟩
 |dead=>trivial
theorem ri.put {k:AV→Value→Prop} {e:Tr} {a:Act} (h:ri fo k e a) (d:Option Nat) (hd:∀ t,d=some t→t < a.tmps.size) {v:AV} {u:Value} (hv:Kc fo k v u):
 ri fo k (gp e d v) (a.put d u):=by
 intro t
 rw[Gw]
 cases d with
 |none=>simp only[reduceCtorEq,if_false];exact h t
 |some d=>
  by_cases ht:d=t
  ·subst ht
   simp only[if_true,Act.put]
   rw[Array.getD_eq_getD_getElem?,Array.getElem?_setIfInBounds_self_of_lt (hd d rfl)]
   exact hv
  ·simp only[Option.some.injEq,ht,if_false,Act.put]
   rw[Array.getD_eq_getD_getElem?,Array.getElem?_setIfInBounds_ne ht,←Array.getD_eq_getD_getElem?]
   exact h t
def By (nt:Nat) (ops:Array Oper) (o:Oper) (ao:gb):Bool:=
 o.dst==ao.dst&&(match o.dst with | some d=>decide (d < nt) | none=>true)&&
 (match o.guard,ao.guard with
 |none,none=>true
 |some (g,want),some (t,want')=>want==want'&&((ops[g]?).bind (·.dst))==some t
 |_,_=>false)
def AY (P:Program) (fo:Nat→FuncId) (B0:Of) (call:Wa) (o:Oper) (ao:gb):Prop:=
 ∀ (w:World) (R:Rd) (φ:Pl) (e:Tr) (H H':List ba) (a:Act) (v:AV),ic fo B0 w R φ H→ri fo (K R φ H) e a→Oj call e H ao=some (v,H')→xz P fo B0 o a w R φ H v H'
theorem SG {nt:Nat} {ops:Array Oper} {o:Oper} {ao:gb} (hk:By nt ops o ao=true) {k:AV→Value→Prop} {R:Rd} {φ:Pl} {H:List ba} {e:Tr} {a:Act} (hE:ri fo (K R φ H) e a) {b:Bool}
 (h:ug e ao.guard=some b):Region.wanted o (yielded ops a.tmps)=b:=by
 simp only[By,Bool.and_eq_true] at hk
 obtain⟨_,hg⟩:=hk
 unfold Region.wanted
 cases h1:o.guard with
 |none=>
  cases h2:ao.guard with
  |none=>simp[h2,ug] at h;simp[h]
  |some g=>simp[h1,h2] at hg
 |some g=>
  obtain⟨g,want⟩:=g
  cases h2:ao.guard with
  |none=>simp[h1,h2] at hg
  |some g'=>
   obtain⟨t,want'⟩:=g'
   simp only[h1,h2,Bool.and_eq_true,beq_iff_eq] at hg
   obtain⟨rfl,hg⟩:=hg
   have ht:=hE t
   simp only[h2,ug] at h
   simp only[yielded,hg,Option.bind_some]
   split at h
   ·rename_i b' hb
    rw[hb] at ht
    have:=ht.Qb
    injection h with h
    cases hv:a.tmps[t]? with
    |none=>rw[Array.getD_eq_getD_getElem?,hv] at this;cases this
    |some v=>
     rw[Array.getD_eq_getD_getElem?,hv] at this
     simp only[Option.getD_some] at this
     cases this
     simp only[← h]
     cases b' <;> cases want <;> rfl
   ·rename_i hb
    rw[hb] at ht
    have:=ht.Qb
    injection h with h
    subst h
    cases hv:a.tmps[t]? with
    |none=>simp
    |some v=>
     rw[Array.getD_eq_getD_getElem?,hv] at this
     simp only[Option.getD_some] at this
     cases this
     simp
   ·cases h
theorem EL {nt:Nat} {ops:Array Oper} {i:Nat} {o:Oper} {ao:gb} (hi:ops[i]? =some o) (hk:By nt ops o ao=true) (ho:AY P fo B0 call o ao) (hnd:∀ c,o.op≠ .defer c) (ro:Option Nat) {n:Nat}
 {w:World} {R:Rd} {φ:Pl} {s s1:St} {a:Act} (hS:ic fo B0 w R φ s.H) (hE:ri fo (K R φ s.H) s.env a) (hn:a.tmps.size=nt) (h:Md call ao s=some s1)
 {Q:Exit→Act→World→Prop} {next:Act→World→Prop} (hq:∀ a' w' R' φ',fm fo B0 w R φ s.H a w' R' φ' s1 a'→next a' w'):wpOpIn (RF ro) n P ops Q i next a w:=by
 have hk':=hk
 simp only[By,Bool.and_eq_true,beq_iff_eq] at hk'
 obtain⟨⟨hd,hlt⟩,_⟩:=hk'
 have hd':∀ t,ao.dst=some t→t < a.tmps.size:=fun t ht=>by rw[hd,ht] at hlt;rw[hn];simpa using hlt
 have sz:∀ (a:Act) (d:Option Nat) (u:Value),(a.put d u).tmps.size=a.tmps.size:=fun a d u=>by cases d <;> simp[Act.put]
 have df:∀ (a:Act) (d:Option Nat) (u:Value),(a.put d u).defers=a.defers:=fun a d u=>by cases d <;> rfl
 obtain⟨e,H⟩:=s
 unfold wpOpIn
 simp only[hi]
 rcases Yp h with⟨g,v,q,r⟩ | ⟨g,r⟩
 ·rw[SG (k:=fun _ _=>True) hk hE g]
  simp only[if_true]
  refine OE ro hnd (ho w R φ e H s1.H a v hS hE q next Q fun v' w' R' φ' h1 h2 h3 h4=>hq _ _ R' φ' ⟨h1,?_,h3,h4,sz _ _ _,.same (df _ _ _)⟩)
  rw[r,hd]
  exact (hE.mono h3).put ao.dst hd' h2
 ·rw[SG (k:=fun _ _=>True) hk hE g]
  simp only[Bool.false_eq_true,if_false]
  subst r
  refine⟨fun f _=>qT ro f,hq _ _ R φ ⟨hS,?_,fun _ _ h=>h,zg.refl _ _,sz _ _ _,.same (df _ _ _)⟩⟩
  rw[hd]
  exact hE.put ao.dst hd' (.atom _ _ (show Sa R _ _ from .mc _ _ .nil))
def eJ (aops:List gb) (L:List Nat):List gb:=L.filterMap (aops[·]?)
theorem pL {aops:List gb} {i:Nat} {ao:gb} (h:aops[i]? =some ao) (L:List Nat):eJ aops (i::L)=ao::eJ aops L:=by simp[eJ,h]
theorem iy (aops:List gb) (L M:List Nat):eJ aops (L++M)=eJ aops L++eJ aops M:=by simp[eJ]
theorem eA (aops:List gb):eJ aops (List.range aops.length)=aops:=by
 suffices ∀ n,n≤aops.length→eJ aops (List.range n)=aops.take n by simpa using this aops.length (Nat.le_refl _)
 intro n
 induction n with
 |zero=>intro _;simp[eJ]
 |succ n ih=>
  intro h
  rw[List.range_succ,iy,ih (by omega),List.take_add_one]
  simp[eJ,List.getElem?_eq_getElem (show n < aops.length by omega)]
structure ZG (P:Program) (fo:Nat→FuncId) (B0:Of) (call:Wa) (nt:Nat) (ops:Array Oper) (aops:List gb):Prop where
 len:aops.length=ops.size
 slot:∀ (i:Nat) (o:Oper) (ao:gb),ops[i]? =some o→aops[i]? =some ao→By nt ops o ao=true
 ZY:∀ (i:Nat) (o:Oper) (ao:gb),ops[i]? =some o→aops[i]? =some ao→AY P fo B0 call o ao
 nd:∀ (i:Nat) (o:Oper) (ao:gb),ops[i]? =some o→aops[i]? =some ao→∀ c,o.op≠ .defer c
theorem JW (ro:Option Nat) {n:Nat} {nt:Nat} {ops:Array Oper} {aops:List gb} (hs:ZG P fo B0 call nt ops aops) {Q:Exit→Act→World→Prop}:∀ (L:List Nat),(∀ i∈L,i < ops.size)→∀ {w:World} {R:Rd} {φ:Pl} {s s':St} {a:Act},
 ic fo B0 w R φ s.H→ri fo (K R φ s.H) s.env a→a.tmps.size=nt→Cd call (eJ aops L) s=some s'→
 (∀ a' w' R' φ',fm fo B0 w R φ s.H a w' R' φ' s' a'→Q .normal a' w')→wpOpsIn (RF ro) n P ops Q L a w:=by
 intro L
 induction L with
 |nil=>
  intro _ w R φ s s' a hS hE hn h hq
  simp only[eJ,List.filterMap_nil,Cd,Option.some.injEq] at h
  subst h
  exact hq _ _ R φ (.refl hS hE)
 |cons i L ih=>
  intro hL w R φ s s' a hS hE hn h hq
  have hi:i < ops.size:=hL i (by simp)
  have h1:ops[i]? =some ops[i]:=Array.getElem?_eq_getElem hi
  have h2:aops[i]? =some (aops[i]'(by rw[hs.len];exact hi)):=List.getElem?_eq_getElem _
  rw[pL h2,Cd] at h
  cases ho:Md call (aops[i]'(by rw[hs.len];exact hi)) s with
  |none=>simp[ho,Br] at h
  |some s1=>
   simp only[ho,Br] at h
   rw[wpOpsIn_cons]
   refine EL h1 (hs.slot _ _ _ h1 h2) (hs.ZY _ _ _ h1 h2) (hs.nd _ _ _ h1 h2) ro hS hE hn ho fun a' w' R' φ' g=> ?_
   exact ih (fun j hj=>hL j (by simp[hj])) g.rel g.env (g.size.trans hn) h fun a'' w'' R'' φ'' g'=>hq _ _ _ _ (g.trans g')
theorem WC (ro:Option Nat) {n:Nat} {nt:Nat} {id:Nat} {ops:Array Oper} {aops:List gb} (hs:ZG P fo B0 call nt ops aops) {Q:Exit→Act→World→Prop} {w:World} {R:Rd} {φ:Pl} {s s':St} {a:Act}
 (hS:ic fo B0 w R φ s.H) (hE:ri fo (K R φ s.H) s.env a) (hn:a.tmps.size=nt) (h:Cd call aops s=some s')
 (hq:∀ a' w' R' φ',fm fo B0 w R φ s.H a w' R' φ' s' a'→Q .normal a' w'):(Code.region id ops false).wpIn (RF ro) n P Q a w:=
 wpIn_region (JW ro hs _ (fun i hi=>List.mem_range.1 hi) hS hE hn (by rw[← hs.len,eA];exact h) hq)
def XM (ops:Array Oper):Nat→Nat→Nat→Bool
 |0,_,_=>false
 |f+1,j,i=>
  match ops[i]? with
  |some o=>o.after.toList.any fun e=>Region.binds .any e&&(e.on==j||(decide (j < e.on)&&XM ops f j e.on))
  |none=>false
def FH (ops:Array Oper) (aops:List gb):Bool:=
 (List.range ops.size).all fun i=>
  (match ops[i]? with | some o=>o.after.toList.all fun e=> !Region.binds .any e||decide (e.on < i) | none=>true)&&
  (List.range i).all fun j=>
   (match aops[j]?,aops[i]? with
   |some x,some y=>VG x y
   |_,_=>false)||XM ops 8 j i
def Hs (ops:Array Oper) (listed:Array Bool):List Nat:=(List.range ops.size).filter fun i=> !listed.getD i true
def rY (ops:Array Oper) (listed:Array Bool):Prop:=∀ f j k,XM ops f j k=true→listed.getD k true=true→k < ops.size→listed.getD j true=true
theorem vA {listed:Array Bool} {i:Nat} (h:i < listed.size):listed.getD i true=listed.getD i false:=by
 simp[Array.getD_eq_getD_getElem?,h]
theorem lO (ro:Option Nat) {nn:Nat} {nt:Nat} {ops:Array Oper} {aops:List gb} (hs:ZG P fo B0 call nt ops aops) (hd:FH ops aops=true) {Q:Exit→Act→World→Prop}:∀ (n:Nat) (listed:Array Bool) {w:World} {R:Rd} {φ:Pl} {s s' s'':St} {a:Act},
 (Hs ops listed).length≤n→listed.size=ops.size→rY ops listed→ic fo B0 w R φ s.H→ri fo (K R φ s.H) s.env a→a.tmps.size=nt→
 Cd call (eJ aops (Hs ops listed)) s=some s''→IF s' s''→
 (∀ a' w' R' φ',fm fo B0 w R φ s.H a w' R' φ' s' a'→Q .normal a' w')→wpAnyIn (RF ro) nn P .any ops Q n listed a w:=by
 have hdd:∀ i,i < ops.size→(∀ o,ops[i]? =some o→∀ e∈o.after,Region.binds .any e=true→e.on < i)∧∀ j,j < i→(∀ x y,aops[j]? =some x→aops[i]? =some y→VG x y=true)∨XM ops 8 j i=true:=by
  intro i hi
  have:=List.all_eq_true.1 hd i (List.mem_range.2 hi)
  simp only[Bool.and_eq_true] at this
  refine⟨fun o ho e he hb=> ?_,fun j hj=> ?_⟩
  ·have h1:=this.1
   simp only[ho] at h1
   have:=List.all_eq_true.1 h1 e (by simpa using he)
   simpa[hb] using this
  ·have h2:=List.all_eq_true.1 this.2 j (List.mem_range.2 hj)
   simp only[Bool.or_eq_true] at h2
   rcases h2 with h2 | h2
   ·left;intro x y hx hy;simpa[hx,hy] using h2
   ·exact .inr h2
 have empty:∀ (listed:Array Bool),listed.size=ops.size→Region.ready .any ops listed=[]→Hs ops listed=[]:=by
  intro listed hsz hr
  cases hrem:Hs ops listed with
  |nil=>rfl
  |cons i rest=>
   exfalso
   have hsorted:(Hs ops listed).Pairwise (· < ·):=List.Pairwise.filter _ List.pairwise_lt_range
   have hmem:i∈Hs ops listed:=by rw[hrem];simp
   have him:=List.mem_filter.1 hmem
   have hi:=List.mem_range.1 him.1
   have h1:ops[i]? =some ops[i]:=Array.getElem?_eq_getElem hi
   have:i∈Region.ready .any ops listed:=by
    rw[mem_ready]
    refine⟨by simpa using him.2,_,h1,fun e he hb=> ?_⟩
    have hlt:=(hdd i hi).1 _ h1 e he hb
    rw[← vA (by omega)]
    cases hg:listed.getD e.on true with
    |true=>rfl
    |false=>
     exfalso
     have:e.on∈Hs ops listed:=List.mem_filter.2 ⟨List.mem_range.2 (by omega),by simp[hg]⟩
     rw[hrem] at this hsorted
     rcases List.mem_cons.1 this with he' | he'
     ·omega
     ·have:=(List.pairwise_cons.1 hsorted).1 _ he';omega
   rw[hr] at this
   cases this
 have done:∀ (listed:Array Bool) {w:World} {R:Rd} {φ:Pl} {s s' s'':St} {a:Act},listed.size=ops.size→ic fo B0 w R φ s.H→ri fo (K R φ s.H) s.env a→
  Cd call (eJ aops (Hs ops listed)) s=some s''→IF s' s''→(∀ a' w' R' φ',fm fo B0 w R φ s.H a w' R' φ' s' a'→Q .normal a' w')→Region.ready .any ops listed=[]→Q .normal a w:=by
  intro listed w R φ s s' s'' a hsz hS hE hev he hq hr
  rw[empty listed hsz hr] at hev
  simp only[eJ,List.filterMap_nil,Cd,Option.some.injEq] at hev
  subst hev
  exact hq _ _ R φ ((fm.refl hS hE).eqv he.symm)
 intro n
 induction n with
 |zero=>
  intro listed w R φ s s' s'' a hlen hsz hcl hS hE hn hev he hq
  have hnil:Hs ops listed=[]:=List.eq_nil_of_length_eq_zero (by omega)
  have hr:Region.ready .any ops listed=[]:=by
   cases hr:Region.ready .any ops listed with
   |nil=>rfl
   |cons i rest=>
    exfalso
    have hi:i∈Region.ready .any ops listed:=by rw[hr];simp
    obtain⟨h0,o,ho,_⟩:=mem_ready.1 hi
    have:i∈Hs ops listed:=List.mem_filter.2 ⟨List.mem_range.2 (Array.getElem?_eq_some_iff.1 ho).1,by simp[h0]⟩
    rw[hnil] at this;cases this
  exact⟨hr,done listed hsz hS hE hev he hq hr⟩
 |succ n ih=>
  intro listed w R φ s s' s'' a hlen hsz hcl hS hE hn hev he hq
  refine⟨done listed hsz hS hE hev he hq,fun i hi=> ?_⟩
  obtain⟨h0,o,ho,haft⟩:=mem_ready.1 hi
  have hilt:i < ops.size:=(Array.getElem?_eq_some_iff.1 ho).1
  have hao:aops[i]? =some (aops[i]'(by rw[hs.len];exact hilt)):=List.getElem?_eq_getElem _
  generalize aops[i]'(by rw[hs.len];exact hilt)=ao at hao
  have hmem:i∈Hs ops listed:=List.mem_filter.2 ⟨List.mem_range.2 hilt,by simp[h0]⟩
  have hsorted:(Hs ops listed).Pairwise (· < ·):=List.Pairwise.filter _ List.pairwise_lt_range
  obtain⟨pre,post,hsplit⟩:=List.append_of_mem hmem
  rw[hsplit] at hsorted
  rw[List.pairwise_append] at hsorted
  obtain⟨_,hs2,hs3⟩:=hsorted
  have hrem':Hs ops (listed.setIfInBounds i true)=pre++post:=by
   have:Hs ops (listed.setIfInBounds i true)=(Hs ops listed).filter (fun j=>decide (j≠i)):=by
    unfold Hs
    rw[List.filter_filter]
    apply List.filter_congr
    intro j hj
    by_cases hji:j=i
    ·subst hji
     have:(listed.setIfInBounds j true).getD j true=true:=by
      rw[Array.getD_eq_getD_getElem?,Array.getElem?_setIfInBounds_self_of_lt (by omega)];rfl
     simp[this]
    ·rw[getD_set_ne true (Ne.symm hji)];simp[hji]
   rw[this,hsplit,List.filter_append,List.filter_cons]
   simp only[ne_eq,not_true_eq_false,decide_false,Bool.false_eq_true,if_false]
   rw[List.filter_eq_self.2 fun j hj=>by have:=hs3 j hj i (by simp);simp;omega,
    List.filter_eq_self.2 fun j hj=>by have:=(List.pairwise_cons.1 hs2).1 j hj;simp;omega]
  have hcalm:∀ x∈eJ aops pre,VG x ao=true:=by
   intro x hx
   simp only[eJ,List.mem_filterMap] at hx
   obtain⟨j,hj,hxj⟩:=hx
   have hji:j < i:=hs3 j hj i (by simp)
   rcases (hdd i hilt).2 j hji with h | h
   ·exact h x ao hxj hao
   ·exfalso
    have hjmem:j∈Hs ops listed:=by rw[hsplit];simp[hj]
    have hj0:listed.getD j true=false:=by simpa using (List.mem_filter.1 hjmem).2
    rw[show (8:Nat)=7+1 from rfl] at h
    simp only[XM,ho] at h
    obtain⟨ed,hed,hb⟩:=List.any_eq_true.1 h
    simp only[Bool.and_eq_true,Bool.or_eq_true,beq_iff_eq,decide_eq_true_eq] at hb
    obtain⟨hb1,hb2⟩:=hb
    have hl:=haft ed (by simpa using hed) hb1
    have hlt:=(hdd i hilt).1 o ho ed (by simpa using hed) hb1
    have hl':listed.getD ed.on true=true:=by rw[vA (by omega)];exact hl
    rcases hb2 with rfl | ⟨_,hb2⟩
    ·rw[hl'] at hj0;cases hj0
    ·rw[hcl 7 j ed.on hb2 hl' (by omega)] at hj0;cases hj0
  rw[hsplit,iy,pL hao] at hev
  obtain⟨s1,s2,k1,k2,k3⟩:=qY hcalm hev
  refine EL ho (hs.slot _ _ _ ho hao) (hs.ZY _ _ _ ho hao) (hs.nd _ _ _ ho hao) ro hS hE hn k1 fun a' w' R' φ' g=> ?_
  refine ih (listed.setIfInBounds i true) (s':=s') (s'':=s2) ?_ (by simp[hsz]) ?_ g.rel g.env (g.size.trans hn) (by rw[hrem',iy];exact k2) (he.trans k3) fun a'' w'' R'' φ'' g'=>hq _ _ _ _ (g.trans g')
  ·rw[hrem'];rw[hsplit] at hlen;simp at hlen ⊢;omega
  ·intro f j k hanc hk hklt
   by_cases hji:j=i
   ·subst hji
    rw[Array.getD_eq_getD_getElem?,Array.getElem?_setIfInBounds_self_of_lt (by omega)];rfl
   rw[getD_set_ne true (Ne.symm hji)]
   by_cases hki:k=i
   ·subst hki
    cases f with
    |zero=>simp[XM] at hanc
    |succ f=>
     simp only[XM,ho] at hanc
     obtain⟨ed,hed,hb⟩:=List.any_eq_true.1 hanc
     simp only[Bool.and_eq_true,Bool.or_eq_true,beq_iff_eq,decide_eq_true_eq] at hb
     obtain⟨hb1,hb2⟩:=hb
     have hl:=haft ed (by simpa using hed) hb1
     have hlt:=(hdd k hilt).1 o ho ed (by simpa using hed) hb1
     have hl':listed.getD ed.on true=true:=by rw[vA (by omega)];exact hl
     rcases hb2 with rfl | ⟨_,hb2⟩
     ·exact hl'
     ·exact hcl f j ed.on hb2 hl' (by omega)
   ·rw[getD_set_ne true (Ne.symm hki)] at hk
    exact hcl f j k hanc hk hklt
theorem xJ (ro:Option Nat) {n:Nat} {nt:Nat} {id:Nat} {ops:Array Oper} {aops:List gb} (hm:P.follows .mixedOrders=true) (hs:ZG P fo B0 call nt ops aops) (hd:FH ops aops=true) {Q:Exit→Act→World→Prop} {w:World} {R:Rd} {φ:Pl} {s s':St} {a:Act}
 (hS:ic fo B0 w R φ s.H) (hE:ri fo (K R φ s.H) s.env a) (hn:a.tmps.size=nt) (h:Cd call aops s=some s')
 (hq:∀ a' w' R' φ',fm fo B0 w R φ s.H a w' R' φ' s' a'→Q .normal a' w'):(Code.region id ops true).wpIn (RF ro) n P Q a w:=by
 have hrem:Hs ops (Array.replicate ops.size false)=List.range ops.size:=by
  unfold Hs
  apply List.filter_eq_self.2
  intro i hi
  rw[List.mem_range] at hi
  simp[Array.getD_eq_getD_getElem?,hi]
 refine wpIn_region_any hm (lO ro hs hd ops.size _ (s':=s') (s'':=s') (s:=s) (R:=R) (φ:=φ) (by rw[hrem];simp) (by simp) ?_ (hS.drew rfl) hE hn ?_ (IF.refl _) ?_)
 ·intro f j k _ hk hlt
  simp[Array.getD_eq_getD_getElem?,hlt] at hk
 ·rw[hrem,←hs.len,eA];exact h
 ·intro a' w' R' φ' g
  exact hq _ _ _ _ ⟨g.rel,g.env,g.mono,zg.trans ⟨(RowKit.Below.refl _ w).drew,fun _ _ h _=>h,fun _ _=>rfl⟩ g.below,g.size,g.defers⟩
end
end Go.AM
namespace Go.AM
open Go.RowKit
section
variable {P:Program} {fo:Nat→FuncId} {B0:Of}
def Rw (w:World):Rd:=fun b o=>w.cell? ⟨b,o,none⟩
theorem xA {α β:Type} {f:α→Option β}:∀ {l:List α} {r:List β},Ra f l=some r→r.length=l.length∧∀ (i:Nat) (x:α),l[i]? =some x→∃ y,r[i]? =some y∧f x=some y:=by
 intro l
 induction l with
 |nil=>intro r h;simp[Ra] at h;subst h;exact⟨rfl,fun i x h=>by simp at h⟩
 |cons a l ih=>
  intro r h
  simp only[Ra,Option.bind_eq_some_iff,Option.some.injEq] at h
  obtain⟨b,h1,bs,h2,rfl⟩:=h
  obtain⟨k1,k2⟩:=ih h2
  refine⟨by simp[k1],fun i x hx=> ?_⟩
  cases i with
  |zero=>simp at hx;subst hx;exact⟨b,rfl,h1⟩
  |succ i=>simpa using k2 i x (by simpa using hx)
theorem BT {H:List ba} {d:Nat} {v:AV} {p:PV} (h1:v.one=true) (h:dc H d v=some p):kG p=true:=by
 cases v with
 |pv q=>simp[dc] at h;subst h;exact h1
 |uq id nl sz es=>simp[dc] at h;subst h;cases nl <;> rfl
 |ptr id off=>
  cases d with
  |zero=>simp[dc] at h
  |succ d=>
   simp only[dc] at h
   split at h
   ·simp only[Option.map_eq_some_iff] at h;obtain⟨ps,_,rfl⟩:=h;rfl
   ·cases h
 |own id len=>
  cases d with
  |zero=>simp[dc] at h
  |succ d=>
   simp only[dc] at h
   split at h
   ·split at h
    ·rename_i nl _ _
     cases nl with
     |true=>simp at h;subst h;rfl
     |false=>simp only[Bool.false_eq_true,if_false,Option.map_eq_some_iff] at h;obtain⟨ps,_,rfl⟩:=h;rfl
    ·cases h
   ·cases h
 |Gc=>cases d <;> simp[dc] at h
 |Fk=>cases d <;> simp[dc] at h
 |mp=>cases d <;> simp[dc] at h
 |undef=>cases d <;> simp[dc] at h
 |agg=>simp[AV.one] at h1
 |mc=>simp[AV.one] at h1
theorem rS {H:List ba} {d:Nat} {cs:List AV} {ps:List PV} (h1:cs.all AV.one=true) (h:Ra (dc H d) cs=some ps):∀ p∈ps,kG p=true:=by
 obtain⟨k1,k2⟩:=xA h
 intro p hp
 obtain⟨i,hi⟩:=List.mem_iff_getElem?.1 hp
 have hlt:=getElem?_lt hi
 have hx:cs[i]? =some (cs[i]'(by omega)):=List.getElem?_eq_getElem _
 obtain⟨y,hy1,hy2⟩:=k2 i _ hx
 rw[hi] at hy1;injection hy1 with hy1;subst hy1
 exact BT (List.all_eq_true.1 h1 _ (List.getElem_mem _)) hy2
theorem SJ {w:World} {R Q:Rd} {φ:Pl} {H:List ba} (hS:ic fo B0 w R φ H) (hsub:Sub R Q) (hQ:∀ b o v,B0.n≤b→w.cell? ⟨b,o,none⟩=some v→Q b o=some v):∀ (d:Nat) {v:AV} {u:Value} {p:PV},Kc fo (K R φ H) v u→dc H d v=some p→Sa Q p u:=by
 intro d
 induction d with
 |zero=>
  intro v u p hv h
  cases v with
  |pv q=>simp[dc] at h;subst h;exact hv.Qb.mono hsub
  |uq id nl sz es=>
   simp[dc] at h
   have h1:=hv.Su
   cases nl with
   |true=>simp at h;subst h;rw[(h1.2.1 rfl).1];exact .ma
   |false=>simp at h;subst h;exact (h1.2.2.1 rfl).mono hsub
  |_=>simp[dc] at h
 |succ d ih=>
  have many:∀ {cs:List AV} {ps:List PV} {vs:List Value},fb fo (K R φ H) cs vs→Ra (dc H d) cs=some ps→Ae Q ps vs:=by
   intro cs
   induction cs with
   |nil=>intro ps vs hl h;simp[Ra] at h;subst h;cases hl;exact .nil
   |cons c cs ihc=>
    intro ps vs hl h
    simp only[Ra,Option.bind_eq_some_iff,Option.some.injEq] at h
    obtain⟨b,h1,bs,h2,rfl⟩:=h
    cases hl with
    |cons _ _ v vs hc hcs=>exact .cons _ _ _ _ (ih hc h1) (ihc hcs h2)
  intro v u p hv h
  cases v with
  |pv q=>simp[dc] at h;subst h;exact hv.Qb.mono hsub
  |uq id nl sz es=>
   simp[dc] at h
   have h1:=hv.Su
   cases nl with
   |true=>simp at h;subst h;rw[(h1.2.1 rfl).1];exact .ma
   |false=>simp at h;subst h;exact (h1.2.2.1 rfl).mono hsub
  |own id len=>
   simp only[dc] at h
   split at h
   ·rename_i sz ag cells fl nl hid
    split at h
    ·rename_i hc
     obtain⟨hlen,pT⟩:=hc
     have h1:=hv.Sz
     obtain⟨k0,k⟩:=h1.2.2 _ _ _ _ _ hid
     obtain⟨o0,o1,o2,oone,o3⟩:=hS.obj _ _ hid
     obtain⟨k1,k2⟩:=k (by omega)
     cases nl with
     |true=>simp at h;subst h;rw[k1 rfl];exact .ma
     |false=>
      simp only[Bool.false_eq_true,if_false,Option.map_eq_some_iff] at h
      obtain⟨ps,hps,rfl⟩:=h
      obtain⟨hbase,_,arr,hB,hsz,hle,hrel⟩:=o3 rfl
      rcases k2 rfl with⟨q1,q2,_⟩ | ⟨b,o,cap,rfl,q2,_⟩
      ·subst q1;exact absurd (List.eq_nil_of_length_eq_zero (by omega)) q2
      ·obtain⟨rfl,rfl,rfl⟩:=q2 hlen
       have hl:=many hrel hps
       have hone:=rS oone hps
       have hplen:ps.length=len * sz:=by rw[(xA hps).1,hlen]
       obtain⟨c1,c2,c3⟩:=yu sz ag (fun e=>by subst e;simpa using pT) len ps hplen hone
       have:=Sa.lit (R:=Q) sz (chunk sz ag len ps) (φ id).1 0 (φ id).2 (by
        rw[c3]
        have:len * sz≤(φ id).2 * sz:=by rw[← hsz];omega
        exact Nat.le_of_mul_le_mul_right this o0) c2 (by
        rw[c1]
        refine bg.Em hl (bo hrel oone) fun i v hv=> ?_
        have hlt:=getElem?_lt hv
        rw[List.getElem?_take] at hv
        split at hv
        ·refine hQ _ _ _ hbase ?_
         rw[hB.cell,Nat.zero_add];simpa using hv
        ·cases hv)
       rw[c3] at this
       exact this
    ·cases h
   ·cases h
  |ptr id off=>
   simp only[dc] at h
   split at h
   ·rename_i cells hid
    simp only[Option.map_eq_some_iff] at h
    obtain⟨ps,hps,rfl⟩:=h
    obtain⟨hbase,_,oone,arr,hB,hrel⟩:=hS.obj _ _ hid
    rw[hv.IC.2.2 _ hid]
    have:=Sa.rp (R:=Q) ps off (φ id).1 0 (bg.Em (many hrel hps) (bo hrel oone) fun i v hv=>by
     refine hQ _ _ _ hbase ?_
     rw[hB.cell,Nat.zero_add];simpa using hv)
    rw[Nat.zero_add] at this
    exact this
   ·cases h
  |agg cs=>
   simp only[dc,Option.map_eq_some_iff] at h
   obtain⟨ps,hps,rfl⟩:=h
   cases hv with
   |atom _ _ h=>exact h.elim
   |agg _ vs hl=>exact .agg _ _ (many hl hps)
  |mc cs=>
   simp only[dc,Option.map_eq_some_iff] at h
   obtain⟨ps,hps,rfl⟩:=h
   cases hv with
   |atom _ _ h=>exact h.elim
   |mc _ vs hl=>exact .mc _ _ (many hl hps)
  |Gc=>simp[dc] at h
  |Fk=>simp[dc] at h
  |mp=>simp[dc] at h
  |undef=>simp[dc] at h
theorem eR {w:World} {R:Rd} {φ:Pl} {H:List ba} {d:Nat} {v:AV} {u:Value} {p:PV} (hf:v.free=true) (hv:Kc fo (K R φ H) v u) (h:dc H d v=some p):Sa R p u:=by
 cases v with
 |pv q=>simp[dc] at h;subst h;exact hv.Qb
 |uq id nl sz es=>
  simp[dc] at h
  have h1:=hv.Su
  cases nl with
  |true=>simp at h;subst h;rw[(h1.2.1 rfl).1];exact .ma
  |false=>simp at h;subst h;exact h1.2.2.1 rfl
 |_=>simp[AV.free] at hf
theorem RR {w:World} {R:Rd} {φ:Pl} {H:List ba} (hS:ic fo B0 w R φ H) {d:Nat}:∀ {vs:List AV} {us:List Value} {ps:List PV},fb fo (K R φ H) vs us→Ra (dc H d) vs=some ps→Ae (Rw w) ps us:=by
 intro vs
 induction vs with
 |nil=>intro us ps hl h;simp[Ra] at h;subst h;cases hl;exact .nil
 |cons c cs ihc=>
  intro us ps hl h
  simp only[Ra,Option.bind_eq_some_iff,Option.some.injEq] at h
  obtain⟨b,h1,bs,h2,rfl⟩:=h
  cases hl with
  |cons _ _ v vs hc hcs=>exact .cons _ _ _ _ (SJ hS (fun b o v h=>hS.sub b o v h) (fun _ _ _ _ h=>h) d hc h1) (ihc hcs h2)
theorem sN {w:World} {R:Rd} {φ:Pl} {H:List ba} {d:Nat}:∀ {vs:List AV} {us:List Value} {ps:List PV},vs.all AV.free=true→fb fo (K R φ H) vs us→Ra (dc H d) vs=some ps→Ae R ps us:=by
 intro vs
 induction vs with
 |nil=>intro us ps _ hl h;simp[Ra] at h;subst h;cases hl;exact .nil
 |cons c cs ihc=>
  intro us ps hf hl h
  simp only[Ra,Option.bind_eq_some_iff,Option.some.injEq] at h
  obtain⟨b,h1,bs,h2,rfl⟩:=h
  simp only[List.all_cons,Bool.and_eq_true] at hf
  cases hl with
  |cons _ _ v vs hc hcs=>exact .cons _ _ _ _ (eR (w:=w) hf.1 hc h1) (ihc hf.2 hcs h2)
mutual
theorem FL {R R':Rd}:∀ {p:PV} {v:Value},Il p=true→Sa R p v→Sa R' p v
 |_,_,_,.int _ _=> .int _ _
 |_,_,_,.bool _=> .bool _
 |_,_,_,.str _=> .str _
 |_,_,_,.Sg=> .Sg
 |_,_,_,.ma=> .ma
 |_,_,_,.Lw=> .Lw
 |_,_,_,.Ov=> .Ov
 |_,_,_,.qC=> .qC
 |_,_,hf,.rp _ _ _ _ h=>by simp[Il] at hf
 |_,_,hf,.lit _ _ _ _ _ h1 h2 h3=>by simp[Il] at hf
 |_,_,hf,.Jz _ _=>by simp[Il] at hf
 |_,_,hf,.agg _ _ h=> .agg _ _ (rA (by simpa[Il] using hf) h)
 |_,_,hf,.mc _ _ h=> .mc _ _ (rA (by simpa[Il] using hf) h)
 |_,_,hf,.iface _ _ _ h=>by simp[Il] at hf
theorem rA {R R':Rd}:∀ {p:List PV} {v:List Value},Fp p=true→Ae R p v→Ae R' p v
 |_,_,_,.nil=> .nil
 |_,_,hf,.cons _ _ _ _ h1 h2=>by
  simp only[Fp,Bool.and_eq_true] at hf
  exact .cons _ _ _ _ (FL hf.1 h1) (rA hf.2 h2)
end
structure xx (n:Nat) (H H2:List ba):Prop where
 obj:∀ (id:Nat) (o2:ba),H2[id]? =some o2→id < n∧∃ o,H[id]? =some o∧na n o=some o2
 len:∀ id,id < n→id < H.length→id < H2.length
theorem jN {n:Nat} {H H2:List ba} (h:Ra (na n) (H.take n)=some H2):xx n H H2:=by
 obtain⟨h1,h2⟩:=xA h
 rw[List.length_take] at h1
 refine⟨fun id o2 ho=> ?_,fun id hn hl=>by rw[h1];omega⟩
 have hlt:=getElem?_lt ho
 have hid:id < n∧id < H.length:=by rw[h1] at hlt;omega
 have hx:(H.take n)[id]? =some (H[id]'hid.2):=by rw[List.getElem?_take,if_pos hid.1];exact List.getElem?_eq_getElem _
 obtain⟨y,hy1,hy2⟩:=h2 id _ hx
 rw[ho] at hy1;injection hy1 with hy1;subst hy1
 exact⟨hid.1,_,List.getElem?_eq_getElem _,hy2⟩
def AV.uZ:AV→Option Nat
 | .ptr id _ | .Gc id _ _ | .uq id _ _ _ | .own id _ | .mp id=>some id
 |_=>none
theorem K.fa {n:Nat} {R:Rd} {φ:Pl} {H H2:List ba} (hc:xx n H H2) {x:AV} {u:Value} (hx:∀ id,x.uZ=some id→id < n) (h:K R φ H x u):K R φ H2 x u:=by
 have box:∀ {id:Nat} {c:List AV},H2[id]? =some (.box c)→∃ c',H[id]? =some (.box c'):=by
  intro id c hb
  obtain⟨_,o,ho,hcut⟩:=hc.obj _ _ hb
  cases o with
  |box c'=>exact⟨c',ho⟩
  |seq=>simp only[na] at hcut;split at hcut <;> cases hcut
  |tok=>cases hcut
  |map es=>simp[na] at hcut
  |dead=>cases hcut
 have seq:∀ {id:Nat} {sz:Nat} {ag:Bool} {c:List AV} {fl:Nat} {nl:Bool},H2[id]? =some (.seq sz ag c fl nl)→H[id]? =some (.seq sz ag c fl nl):=by
  intro id sz ag c fl nl hb
  obtain⟨_,o,ho,hcut⟩:=hc.obj _ _ hb
  cases o with
  |box c'=>simp[na] at hcut
  |seq=>
   simp only[na] at hcut
   split at hcut
   ·injection hcut with hcut;rw[ho,hcut]
   ·cases hcut
  |tok=>cases hcut
  |map es=>simp[na] at hcut
  |dead=>cases hcut
 have tok:∀ {id:Nat} {sz m:Nat} {nl:Bool},H2[id]? =some (.tok sz m nl)→H[id]? =some (.tok sz m nl):=by
  intro id sz m nl hb
  obtain⟨_,o,ho,hcut⟩:=hc.obj _ _ hb
  cases o with
  |box c'=>simp[na] at hcut
  |seq=>
   simp only[na] at hcut
   split at hcut
   ·cases hcut
   ·cases hcut
  |tok=>injection hcut with hcut;rw[ho,hcut]
  |map es=>simp[na] at hcut
  |dead=>cases hcut
 have map:∀ {id:Nat} {es:List (PV×PV)},H2[id]? =some (.map es)→∃ es',H[id]? =some (.map es'):=by
  intro id c hb
  obtain⟨_,o,ho,hcut⟩:=hc.obj _ _ hb
  cases o with
  |box c'=>simp[na] at hcut
  |seq=>simp only[na] at hcut;split at hcut <;> cases hcut
  |tok=>cases hcut
  |map es=>exact⟨es,ho⟩
  |dead=>cases hcut
 cases x with
 |pv p=>exact h
 |ptr id off=>exact⟨hc.len _ (hx _ rfl) h.1,h.2.1,fun c hb=>by obtain⟨c',hb'⟩:=box hb;exact h.2.2 _ hb'⟩
 |Gc id m off=>exact⟨hc.len _ (hx _ rfl) h.1,h.2.1,fun sz ag c fl nl hb=>h.2.2 sz ag c fl nl (seq hb)⟩
 |uq id nl sz es=>exact⟨hc.len _ (hx _ rfl) h.1,h.2.1,h.2.2.1,fun sz' m nl' hb=>h.2.2.2 sz' m nl' (tok hb)⟩
 |own id len=>exact⟨hc.len _ (hx _ rfl) h.1,h.2.1,fun sz ag c fl nl hb=>h.2.2 sz ag c fl nl (seq hb)⟩
 |mp id=>exact⟨hc.len _ (hx _ rfl) h.1,h.2.1,fun es hb=>by obtain⟨c',hb'⟩:=map hb;exact h.2.2 _ hb'⟩
 |Fk ix cs=>exact h.elim
 |agg cs=>exact h.elim
 |mc cs=>exact h.elim
 |undef=>exact h.elim
theorem pO {n:Nat} {R:Rd} {φ:Pl} {H H2:List ba} (hc:xx n H H2):∀ (d:Nat) {v v':AV} {u:Value},AV.cut n d v=some v'→Kc fo (K R φ H) v u→Kc fo (K R φ H2) v' u:=by
 have base:∀ {d:Nat} {v v':AV} {u:Value},(∀ ix cs,v≠ .Fk ix cs)→(∀ cs,v≠ .agg cs)→(∀ cs,v≠ .mc cs)→AV.cut n d v=some v'→Kc fo (K R φ H) v u→Kc fo (K R φ H2) v' u:=by
  intro d v v' u n1 n2 n3 h hv
  cases v with
  |pv p=>simp only[AV.cut,Option.some.injEq] at h;subst h;exact .atom _ _ hv.Qb
  |ptr id off=>
   simp only[AV.cut] at h
   split at h
   ·rename_i hlt;injection h with h;subst h;exact .atom _ _ (K.fa hc (fun _ e=>by injection e with e;omega) hv.IC)
   ·cases h
  |Gc id m off=>
   simp only[AV.cut] at h
   split at h
   ·rename_i hlt;injection h with h;subst h
    cases hv with | atom _ _ hv=>exact .atom _ _ (K.fa hc (fun _ e=>by injection e with e;omega) hv)
   ·cases h
  |uq id nl sz es=>
   simp only[AV.cut] at h
   split at h
   ·rename_i hlt;injection h with h;subst h;exact .atom _ _ (K.fa hc (fun _ e=>by injection e with e;omega) hv.Su)
   ·injection h with h
    subst h
    have h1:=hv.Su
    cases nl with
    |true=>simp only[if_true];rw[(h1.2.1 rfl).1];exact .atom _ _ (show Sa R _ _ from .ma)
    |false=>exact .atom _ _ (show Sa R _ _ from h1.2.2.1 rfl)
  |own id len=>
   simp only[AV.cut] at h
   split at h
   ·rename_i hlt;injection h with h;subst h;exact .atom _ _ (K.fa hc (fun _ e=>by injection e with e;omega) hv.Sz)
   ·cases h
  |mp id=>
   simp only[AV.cut] at h
   split at h
   ·rename_i hlt;injection h with h;subst h
    cases hv with | atom _ _ hv=>exact .atom _ _ (K.fa hc (fun _ e=>by injection e with e;omega) hv)
   ·cases h
  |undef=>simp only[AV.cut,Option.some.injEq] at h;subst h;exact .undef _
  |Fk ix cs=>exact absurd rfl (n1 ix cs)
  |agg cs=>exact absurd rfl (n2 cs)
  |mc cs=>exact absurd rfl (n3 cs)
 intro d
 induction d with
 |zero=>
  intro v v' u h hv
  cases v with
  |Fk ix cs=>simp[AV.cut] at h
  |agg cs=>simp[AV.cut] at h
  |mc cs=>simp[AV.cut] at h
  |_=>exact base (by intros;simp) (by intros;simp) (by intros;simp) h hv
 |succ d ih=>
  have many:∀ {cs cs':List AV} {vs:List Value},fb fo (K R φ H) cs vs→Ra (AV.cut n d) cs=some cs'→fb fo (K R φ H2) cs' vs:=by
   intro cs
   induction cs with
   |nil=>intro ps vs hl h;simp[Ra] at h;subst h;cases hl;exact .nil
   |cons c cs ihc=>
    intro ps vs hl h
    simp only[Ra,Option.bind_eq_some_iff,Option.some.injEq] at h
    obtain⟨b,h1,bs,h2,rfl⟩:=h
    cases hl with
    |cons _ _ v vs hc hcs=>exact .cons _ _ _ _ (ih h1 hc) (ihc hcs h2)
  intro v v' u h hv
  cases v with
  |Fk ix cs=>
   simp only[AV.cut,Option.map_eq_some_iff] at h
   obtain⟨cs',h1,rfl⟩:=h
   cases hv with
   |atom _ _ h=>exact h.elim
   |Fk _ _ vs hl=>exact .Fk _ _ _ (many hl h1)
  |agg cs=>
   simp only[AV.cut,Option.map_eq_some_iff] at h
   obtain⟨cs',h1,rfl⟩:=h
   cases hv with
   |atom _ _ h=>exact h.elim
   |agg _ vs hl=>exact .agg _ _ (many hl h1)
  |mc cs=>
   simp only[AV.cut,Option.map_eq_some_iff] at h
   obtain⟨cs',h1,rfl⟩:=h
   cases hv with
   |atom _ _ h=>exact h.elim
   |mc _ vs hl=>exact .mc _ _ (many hl h1)
  |_=>exact base (by intros;simp) (by intros;simp) (by intros;simp) h hv
theorem JK {n:Nat} {R:Rd} {φ:Pl} {H H2:List ba} (hc:xx n H H2) {d:Nat} {cs cs':List AV} {vs:List Value} (hl:fb fo (K R φ H) cs vs) (h:Ra (AV.cut n d) cs=some cs'):fb fo (K R φ H2) cs' vs:=by
 induction cs generalizing cs' vs with
 |nil=>simp[Ra] at h;subst h;cases hl;exact .nil
 |cons c cs ihc=>
  simp only[Ra,Option.bind_eq_some_iff,Option.some.injEq] at h
  obtain⟨b,h1,bs,h2,rfl⟩:=h
  cases hl with
  |cons _ _ v vs hcc hcs=>exact .cons _ _ _ _ (pO hc d h1 hcc) (ihc hcs h2)
theorem qL {n:Nat}:∀ (d:Nat) {v:AV},AV.Je n d v=true→AV.cut n d v=some v:=by
 intro d
 induction d with
 |zero=>intro v h;cases v <;> simp_all [AV.Je,AV.cut]
 |succ d ih=>
  have many:∀ {cs:List AV},cs.all (AV.Je n d)=true→Ra (AV.cut n d) cs=some cs:=by
   intro cs
   induction cs with
   |nil=>intro _;rfl
   |cons c cs ihc=>intro h;simp only[List.all_cons,Bool.and_eq_true] at h;simp[Ra,ih h.1,ihc h.2]
  intro v h
  cases v with
  |Fk ix cs=>simp only[AV.Je] at h;simp[AV.cut,many h]
  |agg cs=>simp only[AV.Je] at h;simp[AV.cut,many h]
  |mc cs=>simp only[AV.Je] at h;simp[AV.cut,many h]
  |_=>simp_all [AV.Je,AV.cut]
theorem uH {n d:Nat} {cs:List AV} (h:cs.all (AV.Je n d)=true):Ra (AV.cut n d) cs=some cs:=by
 induction cs with
 |nil=>rfl
 |cons c cs ihc=>simp only[List.all_cons,Bool.and_eq_true] at h;simp[Ra,qL d h.1,ihc h.2]
theorem yW {n d:Nat} {v v':AV} (h:AV.cut n d v=some v') (h1:v.one=true):v'.one=true:=by
 cases v with
 |uq id nl sz es=>
  simp only[AV.cut] at h
  split at h
  ·injection h with h;subst h;rfl
  ·injection h with h;subst h;cases nl <;> rfl
 |Fk ix cs=>
  cases d with
  |zero=>simp[AV.cut] at h
  |succ d=>simp only[AV.cut,Option.map_eq_some_iff] at h;obtain⟨_,_,rfl⟩:=h;rfl
 |agg=>simp[AV.one] at h1
 |mc=>simp[AV.one] at h1
 |undef=>simp[AV.one] at h1
 |pv p=>simp only[AV.cut,Option.some.injEq] at h;subst h;exact h1
 |_=>
  simp only[AV.cut] at h
  split at h
  ·injection h with h;subst h;exact h1
  ·cases h
theorem GU {n d:Nat} {cs cs':List AV} (h:Ra (AV.cut n d) cs=some cs') (h1:cs.all AV.one=true):cs'.all AV.one=true:=by
 induction cs generalizing cs' with
 |nil=>simp[Ra] at h;subst h;rfl
 |cons c cs ihc=>
  simp only[Ra,Option.bind_eq_some_iff,Option.some.injEq] at h
  obtain⟨b,h2,bs,h3,rfl⟩:=h
  simp only[List.all_cons,Bool.and_eq_true] at h1 ⊢
  exact⟨yW h2 h1.1,ihc h3 h1.2⟩
theorem ic.fa {n:Nat} {w:World} {R:Rd} {φ:Pl} {H H2:List ba} (hc:xx n H H2) (hS:ic fo B0 w R φ H):ic fo B0 w R φ H2:=by
 have lv:∀ {i},live H2 i→live H i:=by
  intro i ⟨o2,ho2,hl⟩
  obtain⟨_,o,ho,hcut⟩:=hc.obj _ _ ho2
  refine⟨o,ho,?_⟩
  cases o with
  |box c=>trivial
  |seq sz ag c fl nl=>
   simp only[na] at hcut
   split at hcut
   ·injection hcut with hcut;subst hcut;exact hl
   ·cases hcut
  |tok sz m nl=>injection hcut with hcut;subst hcut;exact hl
  |map es=>trivial
  |dead=>injection hcut with hcut;subst hcut;exact hl
 refine⟨hS.low,hS.sub,fun id o2 ho2=> ?_,fun i j hi hj=>hS.inj i j (lv hi) (lv hj),hS.Ko,hS.slt,fun i hi=>hS.free i (lv hi)⟩
 obtain⟨_,o,ho,hcut⟩:=hc.obj _ _ ho2
 have hO:=hS.obj _ _ ho
 cases o with
 |box c=>
  simp only[na,Option.map_eq_some_iff] at hcut
  obtain⟨c',h1,rfl⟩:=hcut
  obtain⟨h2,h3,h4,arr,h5,h6⟩:=hO
  exact⟨h2,h3,GU h1 h4,arr,h5,JK hc h6 h1⟩
 |seq sz ag c fl nl=>
  simp only[na] at hcut
  split at hcut
  ·rename_i hk
   injection hcut with hcut;subst hcut
   obtain⟨h1,h2,h3,h4,h5⟩:=hO
   refine⟨h1,h2,h3,h4,fun e=> ?_⟩
   obtain⟨k1,k2,arr,k3,k4,k5,k6⟩:=h5 e
   exact⟨k1,k2,arr,k3,k4,k5,JK hc k6 (uH hk)⟩
  ·cases hcut
 |tok sz m nl=>injection hcut with hcut;subst hcut;exact hO
 |map es=>injection hcut with hcut;subst hcut;exact hO
 |dead=>injection hcut with hcut;subst hcut;trivial
theorem zM {n:Nat} {R:Rd} {φ:Pl} {H H2:List ba} (hc:xx n H H2) {e e':Tr} {a:Act} (hE:ri fo (K R φ H) e a):∀ {l:List Nat},Aa n e l=some e'→ri fo (K R φ H2) e' a:=by
 intro l
 induction l generalizing e' with
 |nil=>intro h;simp only[Aa,Option.some.injEq] at h;subst h;intro t;exact .undef _
 |cons x l ih=>
  intro h
  simp only[Aa,Option.bind_eq_some_iff,Option.map_eq_some_iff] at h
  obtain⟨v,h1,e1,h2,rfl⟩:=h
  intro t
  rw[Tr.aa]
  split
  ·rename_i ht;subst ht;exact pO hc deep h1 (hE t)
  ·exact ih h2 t
theorem gF {w0 w:World} {R0 R:Rd} {φ0 φ:Pl} {H0:List ba} {a0 a:Act} {s s2:St} {l:List Nat} (g:fm fo B0 w0 R0 φ0 H0 a0 w R φ s a) (h:fa H0.length l s=some s2):fm fo B0 w0 R0 φ0 H0 a0 w R φ s2 a:=by
 simp only[fa,Option.bind_eq_some_iff,Option.map_eq_some_iff] at h
 obtain⟨e,h1,H2,h2,rfl⟩:=h
 have hc:=jN h2
 refine⟨g.rel.fa hc,zM hc g.env h1,fun x u hx=>K.fa hc (fun id hid=> ?_) (g.mono x u hx),g.below,g.size,g.defers⟩
 cases x with
 |ptr=>injection hid with hid;subst hid;exact hx.1
 |Gc=>injection hid with hid;subst hid;exact hx.1
 |uq=>injection hid with hid;subst hid;exact hx.1
 |own=>injection hid with hid;subst hid;exact hx.1
 |mp=>injection hid with hid;subst hid;exact hx.1
 |_=>cases hid
end
end Go.AM
set_option linter.unusedSimpArgs false
set_option linter.unusedVariables false
namespace Go.AM
open Go.RowKit
section
variable {P:Program} {fo:Nat→FuncId} {B0:Of}
theorem vr {k:AV→Value→Prop} {e:Tr} {a:Act} (h:ri fo k e a) {t:Nat} {v:AV} (hv:Kc fo k v (a.tmps.getD t undef)):ri fo k (e.set t v) a:=by
 intro j
 rw[Tr.aa]
 split
 ·rename_i e;subst e;exact hv
 ·exact h j
theorem push_empty {w:World} {R:Rd} {φ:Pl} {H:List ba} (hS:ic fo B0 w R φ H) {o:ba} (hl:¬Ao o) (hO:∀ φ' H',VA fo B0 w R φ' H' H.length o):ic fo B0 w R (bm φ H.length (0,0)) (H++[o]):=
 hS.push (Nat.le_refl _) (fun _ _=>rfl) (fun _ _ _=>rfl) hS.sub (fun a v=>K.push o (0,0) a v) (fun h=>absurd h hl) (hO _ _)
theorem IS {w:World} {R:Rd} {φ:Pl} {H:List ba} {sz:Nat}:K R φ (H++[.tok sz 0 true]) (.uq H.length true sz []) (.slice none 0 0):=by
 refine⟨by simp,fun _=>⟨rfl,rfl⟩,(fun e=>by cases e),fun sz' n nl' h=> ?_⟩
 simp at h
 obtain⟨rfl,rfl,rfl⟩:=h
 exact⟨by simp,fun _=>⟨rfl,rfl,fun e=>by cases e⟩⟩
theorem zO {w:World} {R:Rd} {φ:Pl} {H:List ba} {sz:Nat} {ag:Bool}:K R φ (H++[.seq sz ag [] 0 true]) (.own H.length 0) (.slice none 0 0):=by
 refine⟨by simp,rfl,fun sz' ag' c fl nl h=> ?_⟩
 simp at h
 obtain⟨rfl,rfl,rfl,rfl,rfl⟩:=h
 exact⟨by simp,fun _=>⟨fun _=>rfl,fun e=>by cases e⟩⟩
theorem mO {w:World} {R:Rd} {φ:Pl} {H:List ba} (hS:ic fo B0 w R φ H) {id:Nat} {cells:List AV} (hid:H[id]? =some (.box cells)) {i:Nat} (hi:cells[i]? =some (.pv .ma)) {x:AV} (hx:K R φ H x (.slice none 0 0)) (h1:x.one=true):
 ic fo B0 w R (bm φ id (φ id)) (H.set id (.box (cells.set i x)))∧∀ a u,K R φ H a u→K R (bm φ id (φ id)) (H.set id (.box (cells.set i x))) a u:=by
 have hk:=fun a v=>K.VO (R:=R) (φ:=φ) (H:=H) (c':=cells.set i x) hid a v
 refine⟨hS.bm hid (Nat.le_refl _) (fun _ _ _=>rfl) (fun _ _ _ _=>rfl) hS.sub hk (fun _=> .inl ⟨trivial,rfl⟩) ?_,hk⟩
 obtain⟨o1,o2,o3,arr,o4,o5⟩:=hS.obj _ _ hid
 refine⟨by rw[Cb];exact o1,by rw[Cb];exact o2,?_,arr,by rw[Cb];exact o4,?_⟩
 ·rw[List.all_eq_true] at o3 ⊢
  intro y hy
  rcases List.mem_or_eq_of_mem_set hy with hy | rfl
  ·exact o3 y hy
  ·exact h1
 ·obtain⟨u,hu,hr⟩:=o5.get hi
  have hr:=hr.Qb
  cases hr
  have:arr.toList=arr.toList.set i (.slice none 0 0):=by
   apply List.ext_getElem?
   intro j
   by_cases e:i=j
   ·subst e
    rw[List.getElem?_set_self (getElem?_lt hu)];exact hu
   ·rw[List.getElem?_set_ne e]
  rw[this]
  exact (o5.mono hk).set i (.atom _ _ (hk _ _ hx))
theorem tQ {g:RO} {w:World} {R:Rd} {φ:Pl} {s s':St} {a:Act} (hS:ic fo B0 w R φ s.H) (hE:ri fo (K R φ s.H) s.env a) (h:Be g s=some s'):∃ R' φ',fm fo B0 w R φ s.H a w R' φ' s' a:=by
 obtain⟨e,H⟩:=s
 cases g with
 |mJ t sz=>
  simp only[Be] at h
  split at h
  ·rename_i ht
   split at h
   ·rename_i h0
    injection h with h;subst h
    have hk:=fun a v=>K.push (R:=R) (φ:=φ) (H:=H) (.tok sz 0 true) (0,0) a v
    have hv:=hE t
    simp only[ht] at hv
    have hv:=hv.Qb
    refine⟨R,_,push_empty hS (by simp[Ao]) (fun φ' H'=>⟨h0,fun _=>rfl,fun e=>by cases e⟩),vr (hE.mono hk) ?_,hk,zg.refl _ _,rfl,.same rfl⟩
    generalize a.tmps.getD t undef=v at hv
    cases hv
    exact .atom _ _ (IS (w:=w))
   ·cases h
  ·cases h
 |CH t sz ag=>
  simp only[Be] at h
  split at h
  ·rename_i ht
   split at h
   ·rename_i h0
    injection h with h;subst h
    have hk:=fun a v=>K.push (R:=R) (φ:=φ) (H:=H) (.seq sz ag [] 0 true) (0,0) a v
    have hv:=hE t
    simp only[ht] at hv
    have hv:=hv.Qb
    refine⟨R,_,push_empty hS (by simp[Ao]) (fun φ' H'=>⟨h0,Nat.le_refl _,fun _=>rfl,rfl,fun e=>by cases e⟩),vr (hE.mono hk) ?_,hk,zg.refl _ _,rfl,.same rfl⟩
    generalize a.tmps.getD t undef=v at hv
    cases hv
    exact .atom _ _ (zO (w:=w))
   ·cases h
  ·cases h
 |Ct t off sz=>
  simp only[Be] at h
  split at h
  ·rename_i id o ht
   split at h
   ·rename_i cells hid
    split at h
    ·rename_i hc
     split at h
     ·rename_i h0
      injection h with h;subst h
      have hlt:=getElem?_lt hid
      have hk:=fun a v=>K.push (R:=R) (φ:=φ) (H:=H) (.tok sz 0 true) (0,0) a v
      have hS1:=push_empty hS (o:= .tok sz 0 true) (by simp[Ao]) (fun φ' H'=>⟨h0,fun _=>rfl,fun e=>by cases e⟩)
      obtain⟨hS2,hk2⟩:=mO hS1 (by rw[getElem?_push hlt];exact hid) hc (IS (w:=w)) rfl
      have e:H.set id (.box (cells.set (o+off) (.uq H.length true sz [])))++[ba.tok sz 0 true]=(H++[ba.tok sz 0 true]).set id (.box (cells.set (o+off) (.uq H.length true sz []))):=by
       rw[List.set_append_left _ _ hlt]
      simp only[e]
      exact⟨R,_,hS2,hE.mono fun a v h=>hk2 a v (hk a v h),fun x u h=>hk2 x u (hk x u h),zg.refl _ _,rfl,.same rfl⟩
     ·cases h
    ·cases h
   ·cases h
  ·cases h
 |NH t off sz ag=>
  simp only[Be] at h
  split at h
  ·rename_i id o ht
   split at h
   ·rename_i cells hid
    split at h
    ·rename_i hc
     split at h
     ·rename_i h0
      injection h with h;subst h
      have hlt:=getElem?_lt hid
      have hk:=fun a v=>K.push (R:=R) (φ:=φ) (H:=H) (.seq sz ag [] 0 true) (0,0) a v
      have hS1:=push_empty hS (o:= .seq sz ag [] 0 true) (by simp[Ao]) (fun φ' H'=>⟨h0,Nat.le_refl _,fun _=>rfl,rfl,fun e=>by cases e⟩)
      obtain⟨hS2,hk2⟩:=mO hS1 (by rw[getElem?_push hlt];exact hid) hc (zO (w:=w)) rfl
      have e:H.set id (.box (cells.set (o+off) (.own H.length 0)))++[ba.seq sz ag [] 0 true]=(H++[ba.seq sz ag [] 0 true]).set id (.box (cells.set (o+off) (.own H.length 0))):=by
       rw[List.set_append_left _ _ hlt]
      simp only[e]
      exact⟨R,_,hS2,hE.mono fun a v h=>hk2 a v (hk a v h),fun x u h=>hk2 x u (hk x u h),zg.refl _ _,rfl,.same rfl⟩
     ·cases h
    ·cases h
   ·cases h
  ·cases h
 |freeze t=>
  simp only[Be] at h
  split at h
  ·rename_i id len ht
   split at h
   ·rename_i sz ag cells fl nl hid
    split at h
    ·rename_i hc
     obtain⟨hlen,pT⟩:=hc
     have hid0:=hid
     have hv:=hE t
     simp only[ht] at hv
     have h1:=hv.Sz
     obtain⟨k0,k⟩:=h1.2.2 _ _ _ _ _ hid
     obtain⟨o0,o1,o2,oone,o3⟩:=hS.obj _ _ hid
     obtain⟨k1,k2⟩:=k (by omega)
     have hkd:∀ (R':Rd) (p:Nat×Nat),Sub R R'→∀ a v,K R φ H a v→K R' (bm φ id p) (H.set id .dead) a v:=by
      intro R' p hs a v hk
      have hk:=K.sub hs a v hk
      have hl:(H.set id .dead).length=H.length:=by simp
      have inv:∀ {i:Nat} {x:ba},(H.set id .dead)[i]? =some x→x≠ .dead→i≠id∧H[i]? =some x:=by
       intro i x hx hd
       by_cases e:i=id
       ·subst e;rw[List.getElem?_set_self (getElem?_lt hid)] at hx;injection hx with hx;exact absurd hx.symm hd
       ·rw[List.getElem?_set_ne (Ne.symm e)] at hx;exact⟨e,hx⟩
      cases a with
      |pv p=>exact hk
      |ptr i off=>exact⟨by rw[hl];exact hk.1,hk.2.1,fun c hc=>by obtain⟨q1,q2⟩:=inv hc (by simp);rw[Ud _ _ q1];exact hk.2.2 c q2⟩
      |Gc i n off=>exact⟨by rw[hl];exact hk.1,hk.2.1,fun sz ag c fl nl hc=>by obtain⟨q1,q2⟩:=inv hc (by simp);rw[Ud _ _ q1];exact hk.2.2 _ _ _ _ _ q2⟩
      |uq i nl sz es=>exact⟨by rw[hl];exact hk.1,hk.2.1,hk.2.2.1,fun sz n nl hc=>by obtain⟨q1,q2⟩:=inv hc (by simp);rw[Ud _ _ q1];exact hk.2.2.2 _ _ _ q2⟩
      |own i n=>exact⟨by rw[hl];exact hk.1,hk.2.1,fun sz ag c fl nl hc=>by obtain⟨q1,q2⟩:=inv hc (by simp);rw[Ud _ _ q1];exact hk.2.2 _ _ _ _ _ q2⟩
      |mp i=>exact⟨by rw[hl];exact hk.1,hk.2.1,fun es hc=>by obtain⟨q1,q2⟩:=inv hc (by simp);rw[Ud _ _ q1];exact hk.2.2 _ q2⟩
      |Fk=>exact hk.elim
      |agg=>exact hk.elim
      |mc=>exact hk.elim
      |undef=>exact hk.elim
     cases nl with
     |true=>
      simp only[if_true,Option.some.injEq] at h
      subst h
      have hk:=hkd R (φ id) (Sub.refl R)
      refine⟨R,bm φ id (φ id),hS.bm hid (Nat.le_refl _) (fun _ _ _=>rfl) (fun _ _ _ _=>rfl) hS.sub hk (fun h=>h.elim) trivial,vr (hE.mono hk) ?_,hk,zg.refl _ _,rfl,.same rfl⟩
      rw[k1 rfl]
      exact .atom _ _ (show Sa R _ _ from .ma)
     |false=>
      simp only[Bool.false_eq_true,if_false,Option.map_eq_some_iff] at h
      obtain⟨ps,hps,rfl⟩:=h
      obtain⟨b0,hnone,arr,hB,hsz,hle,hrel⟩:=o3 rfl
      have hsub:Sub R (fun b o=>if b=(φ id).1 then w.cell? ⟨b,o,none⟩ else R b o):=by
       intro b o v h
       dsimp only
       split
       ·exact hS.sub b o v h
       ·exact h
      have hk:=hkd _ (φ id) hsub
      refine⟨_,bm φ id (φ id),hS.bm (R':=fun b o=>if b=(φ id).1 then w.cell? ⟨b,o,none⟩ else R b o) hid (Nat.le_refl _) (fun _ _ _=>rfl) (fun b j _ hne=>if_neg (hne rfl)) (fun b o v h=> ?_) hk (fun h=>h.elim) trivial,vr (hE.mono hk) ?_,hk,zg.refl _ _,rfl,.same rfl⟩
      ·split at h
       ·exact h
       ·exact hS.sub b o v h
      ·rcases k2 rfl with⟨q1,q2,_⟩ | ⟨b,o,cap,q1,q2,_⟩
       ·subst q1;exact absurd (List.eq_nil_of_length_eq_zero (by omega)) q2
       ·rw[q1]
        obtain⟨rfl,rfl,rfl⟩:=q2 hlen
        have hl:=Tj hps hrel
        have hmap:=uf hps
        have hone:∀ p∈ps,kG p=true:=by
         intro p hp
         rw[hmap] at oone
         exact List.all_eq_true.1 oone _ (List.mem_map_of_mem hp)
        have hplen:ps.length=len * sz:=by rw[hlen,hmap];simp
        obtain⟨c1,c2,c3⟩:=yu sz ag (fun e=>by subst e;simpa using pT) len ps hplen hone
        refine .atom _ _ (show Sa _ _ _ from ?_)
        have:=Sa.lit (R:=fun b o=>if b=(φ id).1 then w.cell? ⟨b,o,none⟩ else R b o) sz (chunk sz ag len ps) (φ id).1 0 (φ id).2 (by
         rw[c3]
         have:len * sz≤(φ id).2 * sz:=by rw[← hsz];omega
         exact Nat.le_of_mul_le_mul_right this o0) c2 (by
         rw[c1]
         refine bg.Em (hl.mono hsub) (bo hrel oone) fun i v hv=> ?_
         have hlt:=getElem?_lt hv
         rw[List.getElem?_take] at hv
         split at hv
         ·rw[if_pos rfl,hB.cell,Nat.zero_add];simpa using hv
         ·cases hv)
        rw[c3] at this
        exact this
    ·cases h
   ·cases h
  ·rename_i id o ht
   split at h
   ·rename_i cells hid
    have hid0:=hid
    have hv:=hE t
    simp only[ht] at hv
    have h1:=hv.IC
    have k:=h1.2.2 _ hid
    obtain⟨o0,o1,oone,arr,hB,hrel⟩:=hS.obj _ _ hid
    have hkd:∀ (R':Rd) (p:Nat×Nat),Sub R R'→∀ a v,K R φ H a v→K R' (bm φ id p) (H.set id .dead) a v:=by
     intro R' p hs a v hk
     have hk:=K.sub hs a v hk
     have hl:(H.set id .dead).length=H.length:=by simp
     have inv:∀ {i:Nat} {x:ba},(H.set id .dead)[i]? =some x→x≠ .dead→i≠id∧H[i]? =some x:=by
      intro i x hx hd
      by_cases e:i=id
      ·subst e;rw[List.getElem?_set_self (getElem?_lt hid)] at hx;injection hx with hx;exact absurd hx.symm hd
      ·rw[List.getElem?_set_ne (Ne.symm e)] at hx;exact⟨e,hx⟩
     cases a with
     |pv p=>exact hk
     |ptr i off=>exact⟨by rw[hl];exact hk.1,hk.2.1,fun c hc=>by obtain⟨q1,q2⟩:=inv hc (by simp);rw[Ud _ _ q1];exact hk.2.2 c q2⟩
     |Gc i n off=>exact⟨by rw[hl];exact hk.1,hk.2.1,fun sz ag c fl nl hc=>by obtain⟨q1,q2⟩:=inv hc (by simp);rw[Ud _ _ q1];exact hk.2.2 _ _ _ _ _ q2⟩
     |uq i nl sz es=>exact⟨by rw[hl];exact hk.1,hk.2.1,hk.2.2.1,fun sz n nl hc=>by obtain⟨q1,q2⟩:=inv hc (by simp);rw[Ud _ _ q1];exact hk.2.2.2 _ _ _ q2⟩
     |own i n=>exact⟨by rw[hl];exact hk.1,hk.2.1,fun sz ag c fl nl hc=>by obtain⟨q1,q2⟩:=inv hc (by simp);rw[Ud _ _ q1];exact hk.2.2 _ _ _ _ _ q2⟩
     |mp i=>exact⟨by rw[hl];exact hk.1,hk.2.1,fun es hc=>by obtain⟨q1,q2⟩:=inv hc (by simp);rw[Ud _ _ q1];exact hk.2.2 _ q2⟩
     |Fk=>exact hk.elim
     |agg=>exact hk.elim
     |mc=>exact hk.elim
     |undef=>exact hk.elim
    simp only[Option.map_eq_some_iff] at h
    obtain⟨ps,hps,rfl⟩:=h
    have hsub:Sub R (fun b o=>if b=(φ id).1 then w.cell? ⟨b,o,none⟩ else R b o):=by
     intro b o v h
     dsimp only
     split
     ·exact hS.sub b o v h
     ·exact h
    have hk:=hkd _ (φ id) hsub
    refine⟨_,bm φ id (φ id),hS.bm (R':=fun b o=>if b=(φ id).1 then w.cell? ⟨b,o,none⟩ else R b o) hid (Nat.le_refl _) (fun _ _ _=>rfl) (fun b j _ hne=>if_neg (hne trivial)) (fun b o v h=> ?_) hk (fun h=>h.elim) trivial,vr (hE.mono hk) ?_,hk,zg.refl _ _,rfl,.same rfl⟩
    ·split at h
     ·exact h
     ·exact hS.sub b o v h
    ·rw[k]
     have hl:=Tj hps hrel
     refine .atom _ _ (show Sa _ _ _ from ?_)
     have:=Sa.rp (R:=fun b o=>if b=(φ id).1 then w.cell? ⟨b,o,none⟩ else R b o) ps o (φ id).1 0 (bg.Em (hl.mono hsub) (bo hrel oone) fun i v hv=>by
      rw[if_pos rfl,hB.cell,Nat.zero_add];simpa using hv)
     rw[Nat.zero_add] at this
     exact this
   ·cases h
  ·cases h
end
end Go.AM
