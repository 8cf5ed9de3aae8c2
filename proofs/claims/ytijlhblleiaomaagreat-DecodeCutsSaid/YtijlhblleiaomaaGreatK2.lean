/- The abstract machine: equality, maps, steps that may change places, cleaning. -/
import Derived.Test.YtijlhblleiaomaaGreatK1
import Derived.DeepKeys3
import Derived.OrdersIn
import Derived.LoopNIn
import Derived.RangeFuncRecord
import Derived.RangeFuncSeq
set_option linter.unusedSimpArgs false
set_option linter.unusedVariables false
namespace Go.AM
open Go.RowKit
def eu:Nat->Value->Value->Option Bool
 |0,.bool a,.bool b=>some (a==b)
 |1,.int k a,.int k' b=>if k=k' then some (a==b) else none
 |2,.string a,.string b=>some (a==b)
 |_,_,_=>none
def ug:List Nat->List Value->List Value->Option Bool
 | [],[],[]=>some true
 |k::ks,x::xs,y::ys=>(eu k x y).bind fun b=>(ug ks xs ys).map fun c=>b&&c
 |_,_,_=>none
theorem OX{k:Nat}{p q:PV}{b:Bool}(h:Is k p q=some b):
 (k=0/\∃ c d,p= .bool c/\q= .bool d/\b=(c==d))\/(k=1/\∃ i c d,p= .int i c/\q= .int i d/\b=(c==d))\/(k=2/\∃ c d,p= .str c/\q= .str d/\b=(c==d)):=by
 unfold Is at h
 split at h
 ·injection h with h;exact .inl ⟨rfl,_,_,rfl,rfl,h.symm⟩
 ·split at h
  ·rename_i hk;subst hk;injection h with h;exact .inr (.inl ⟨rfl,_,_,_,rfl,rfl,h.symm⟩)
  ·cases h
 ·injection h with h;exact .inr (.inr ⟨rfl,_,_,rfl,rfl,h.symm⟩)
 ·cases h
theorem Mx{k:Nat}{p q:Value}{b:Bool}(h:eu k p q=some b):
 (k=0/\∃ c d,p= .bool c/\q= .bool d/\b=(c==d))\/(k=1/\∃ i c d,p= .int i c/\q= .int i d/\b=(c==d))\/(k=2/\∃ c d,p= .string c/\q= .string d/\b=(c==d)):=by
 unfold eu at h
 split at h
 ·injection h with h;exact .inl ⟨rfl,_,_,rfl,rfl,h.symm⟩
 ·split at h
  ·rename_i hk;subst hk;injection h with h;exact .inr (.inl ⟨rfl,_,_,_,rfl,rfl,h.symm⟩)
  ·cases h
 ·injection h with h;exact .inr (.inr ⟨rfl,_,_,rfl,rfl,h.symm⟩)
 ·cases h
theorem kH{R:Rd}{k:Nat}{p q:PV}{v u:Value}(hp:Na R p v)(hq:Na R q u){b:Bool}(h:Is k p q=some b):eu k v u=some b:=by
 rcases OX h with⟨rfl,c,d,rfl,rfl,rfl⟩ | ⟨rfl,i,c,d,rfl,rfl,rfl⟩ | ⟨rfl,c,d,rfl,rfl,rfl⟩ <;> cases hp <;> cases hq <;> simp[eu]
theorem rO{R:Rd}:∀ {ks:List Nat}{ps qs:List PV}{vs us:List Value}{b:Bool},Cc R ps vs->Cc R qs us->Wk ks ps qs=some b->ug ks vs us=some b
 | [],[],[],_,_,_,.nil,.nil,h=>h
 |k::ks,p::ps,q::qs,_,_,b,.cons _ _ v vs h1 h2,.cons _ _ u us g1 g2,h=>by simp only[Wk,Hd,dc] at h;obtain⟨x,e1,y,e2,rfl⟩:=h;simp only[ug,kH h1 g1 e1,rO h2 g2 e2,Lc,Vc]
 | [],[],_::_,_,_,_,_,_,h=>by simp[Wk] at h
 | [],_::_,_,_,_,_,_,_,h=>by simp[Wk] at h
 |_::_,[],_,_,_,_,_,_,h=>by simp[Wk] at h
 |_::_,_::_,[],_,_,_,_,_,h=>by simp[Wk] at h
theorem jJ:∀ {ks PT:List Nat}{xs ys zV cP:List Value}{b:Bool},ks.length=xs.length->xs.length=ys.length->ug (ks++PT) (xs++zV) (ys++cP)=some b->∃ c d,ug ks xs ys=some c/\ug PT zV cP=some d/\b=(c&&d)
 | [],_,[],[],_,_,b,_,_,h=>⟨true,b,rfl,h,by simp⟩
 |k::ks,_,x::xs,y::ys,zV,cP,b,hk,hl,h=>by simp only[Sg,ug,Hd,dc] at h;obtain⟨e,h1,f,h2,rfl⟩:=h;obtain⟨c,d,h3,h4,rfl⟩:=jJ (by simpa using hk) (by simpa using hl) h2;exact⟨e&&c,d,by simp[ug,h1,h3],h4,by simp[Bool.and_assoc]⟩
 | [],_,_::_,_,_,_,_,hk,_,_=>by simp at hk
 |_::_,_,[],_,_,_,_,hk,_,_=>by simp at hk
 |_,_,[],_::_,_,_,_,_,hl,_=>by simp at hl
 |_,_,_::_,[],_,_,_,_,hl,_=>by simp at hl
def valOf(P:Program)(t:TypeId)(cs:List Value):Value:=if zg P t=some true then .agg ⟨cs⟩ else cs.headD undef
def vw(P:Program):Nat->List Field->Option Nat
 |o,[]=>some o
 |o,f::r=>if f.offset=o then vw P (o+P.cellsOf f.type) r else none
def uw(g:TypeId->Option (List Nat)):List Field->Option (List Nat)
 | []=>some []
 |f::r=>if f.name != "_" then (g f.type).bind fun a=>(uw g r).map (a++ ·) else none
def Kw:Nat->List Nat->List Nat
 |0,_=>[]
 |n+1,ks=>ks++Kw n ks
def Hi(P:Program):Nat->TypeId->Option (List Nat)
 |0,_=>none
 |m+1,t=>
  match P.underlying t with
  |some .bool=>if P.cellsOf t=1 then some [0] else none
  |some (.int _)=>if P.cellsOf t=1 then some [1] else none
  |some .string=>if P.cellsOf t=1 then some [2] else none
  |some (.struct fs)=>if vw P 0 fs.toList=some (P.cellsOf t)/\P.stoodInHeld t=false then uw (Hi P m) fs.toList else none
  |some (.array n e)=>if P.cellsOf t=n * P.cellsOf e then (Hi P m e).map (Kw n) else none
  |_=>none
section
variable {P:Program}
theorem Z1{m:Nat}{t:TypeId}{ks:List Nat}(h:Hi P m t=some ks):∃ i,P.info? t=some i:=by
 cases m with
 |zero=>simp[Hi] at h
 |succ m=>
  unfold Hi at h;cases hu:P.underlying t with
  |none=>simp[hu] at h
  |some d=>exact info_of_underlying hu
theorem OT{m:Nat}{t:TypeId}{ks:List Nat}(h:Hi P m t=some ks):Sd P t=some (P.cellsOf t):=by
 obtain⟨i,hi⟩:=Z1 h;simp[Sd,Program.cellsOf,hi]
theorem vN{g:TypeId->Option (List Nat)}(hg:∀ t ks,g t=some ks->ks.length=P.cellsOf t):∀ {fs:List Field}{o n:Nat}{ks:List Nat},uw g fs=some ks->vw P o fs=some n->o+ks.length=n
 | [],o,n,ks,h,hl=>by simp only[uw,xb] at h;subst h;simp only[vw,xb] at hl;simpa using hl
 |f::fs,o,n,ks,h,hl=>by
  simp only[uw] at h
  split at h
  ·simp only[Hd,dc] at h
   obtain⟨a,h1,b,h2,rfl⟩:=h;simp only[vw] at hl
   split at hl
   ·have:=vN hg h2 hl
    have:=hg _ _ h1;simp;omega
   ·cases hl
  ·cases h
theorem Pao(n:Nat)(ks:List Nat):(Kw n ks).length=n * ks.length:=by
 induction n with
 |zero=>simp[Kw]
 |succ n ih=>simp[Kw,ih,Yz];omega
theorem dq:∀ {m:Nat}{t:TypeId}{ks:List Nat},Hi P m t=some ks->ks.length=P.cellsOf t
 |0,_,_,h=>by simp[Hi] at h
 |m+1,t,ks,h=>by
  unfold Hi at h
  split at h
  ·split at h
   ·rename_i e;injection h with h;subst h;simp[e]
   ·cases h
  ·split at h
   ·rename_i e;injection h with h;subst h;simp[e]
   ·cases h
  ·split at h
   ·rename_i e;injection h with h;subst h;simp[e]
   ·cases h
  ·split at h
   ·rename_i e
    have:=vN (P:=P) (fun t ks h=>dq (m:=m) h) h e.1
    omega
   ·cases h
  ·split at h
   ·rename_i e
    simp only[dc] at h;obtain⟨a,h1,rfl⟩:=h;rw[Pao,dq h1,e]
   ·cases h
  ·cases h
theorem wN{m:Nat}{t:TypeId}{ks:List Nat}(h:Hi P m t=some ks):(zg P t=some true)\/(zg P t=some false/\P.cellsOf t=1/\
 ((P.underlying t=some .bool/\ks=[0])\/((∃ k,P.underlying t=some (.int k))/\ks=[1])\/(P.underlying t=some .string/\ks=[2]))):=by
 cases m with
 |zero=>simp[Hi] at h
 |succ m=>
  unfold Hi at h;unfold zg
  split at h
  ·rename_i hu
   split at h
   ·rename_i e;injection h with h;exact .inr ⟨by simp[hu],e,.inl ⟨hu,h.symm⟩⟩
   ·cases h
  ·rename_i k hu
   split at h
   ·rename_i e;injection h with h;exact .inr ⟨by simp[hu],e,.inr (.inl ⟨⟨k,hu⟩,h.symm⟩)⟩
   ·cases h
  ·rename_i hu
   split at h
   ·rename_i e;injection h with h;exact .inr ⟨by simp[hu],e,.inr (.inr ⟨hu,h.symm⟩)⟩
   ·cases h
  ·rename_i hu;exact .inl (by simp[hu])
  ·rename_i hu;exact .inl (by simp[hu])
  ·cases h
variable {w:World}
theorem lF{m:Nat}{e:TypeId}{ks:List Nat}(he:Hi P m e=some ks){xs:List Value}{off:Nat}(hl:off+P.cellsOf e<=xs.length):
 (part e ⟨xs⟩ off).run P w= .ok (valOf P e ((xs.drop off).take (P.cellsOf e))) w:=by
 rcases wN he with ha | ⟨ha,h1,_⟩
 ·rw[iF (n:=P.cellsOf e) ha (fun _=>OT he) (fun hb=>by cases hb)]
  congr 1
  unfold valOf;simp only[if_true,ha]
  congr 1
  apply Pk;simp[List.extract_eq_take_drop]
 ·rw[iF (n:=P.cellsOf e) ha (fun _=>OT he) (fun _=>⟨xs[off]'(by omega),by simp[show off < xs.length by omega]⟩)]
  congr 1
  unfold valOf;simp only[ha,Sc,if_false,xb];rw[h1];have hlt:off < xs.length:=by omega
  rw[List.take_one,List.head?_drop];simp[Sm,hlt]
def kP(P:Program)(dd:Nat)(e:TypeId)(ks:List Nat):Prop:=
 ∀ (w:World)(xs ys:List Value)(b:Bool),xs.length=P.cellsOf e->ys.length=P.cellsOf e->ug ks xs ys=some b->(Op.equalIn dd e (valOf P e xs) (valOf P e ys)).run P w= .ok b w
theorem QX(dd m:Nat)(xs ys:List Value)(hE:∀ t ks,Hi P m t=some ks->kP P dd t ks):∀ (fs:List Field)(ks:List Nat)(o n:Nat)(b:Bool),uw (Hi P m) fs=some ks->vw P o fs=some n->n=xs.length->n=ys.length->
 ug ks (xs.drop o) (ys.drop o)=some b->(Op.eqFields dd ⟨xs⟩ ⟨ys⟩ fs).run P w= .ok b w
 | [],ks,o,n,b,hk,hl,h1,h2,h=>by simp only[uw,xb] at hk;subst hk;simp only[vw,xb] at hl;subst hl;rw[Vr (by omega),Vr (by omega)] at h;simp only[ug,xb] at h;subst h;simp[Op.eqFields]
 |f::fs,ks,o,n,b,hk,hl,h1,h2,h=>by
  simp only[uw] at hk
  split at hk
  ·rename_i hn
   simp only[bne_iff_ne,ne_eq] at hn;simp only[Hd,dc] at hk;obtain⟨k1,e1,k2,e2,rfl⟩:=hk;simp only[vw] at hl
   split at hl
   ·rename_i ho
    subst ho;have hle:=vN (P:=P) (fun t ks h=>dq (m:=m) h) e2 hl;have hlen:=dq e1;have px:=lF (w:=w) e1 (xs:=xs) (off:=f.offset) (by omega);have py:=lF (w:=w) e1 (xs:=ys) (off:=f.offset) (by omega);rw[<- Wr (P.cellsOf f.type) (xs.drop f.offset),<-Wr (P.cellsOf f.type) (ys.drop f.offset)] at h;obtain⟨c,d,h3,h4,rfl⟩:=jJ (by simp;omega) (by simp;omega) h;rw[List.drop_drop,List.drop_drop] at h4;have he:=hE _ _ e1 w _ _ c (by simp;omega) (by simp;omega) h3;have ih:=QX dd m xs ys hE fs k2 (f.offset+P.cellsOf f.type) n d e2 hl h1 h2 h4;simp only[Op.eqFields,hn,ne_eq,not_false_eq_true,if_true,Sem.run_bind,px,py,he,Result.andThen_ok];cases c
    ·simp
    ·simpa using ih
   ·cases hl
  ·cases hk
theorem TX(dd m:Nat){e:TypeId}{ks:List Nat}(he:Hi P m e=some ks)(hE:kP P dd e ks)(xs ys:List Value):∀ (k i:Nat)(b:Bool),xs.length=(i+k) * P.cellsOf e->ys.length=(i+k) * P.cellsOf e->
 ug (Kw k ks) (xs.drop (i * P.cellsOf e)) (ys.drop (i * P.cellsOf e))=some b->(Op.eqItems dd e (P.cellsOf e) ⟨xs⟩ ⟨ys⟩ (List.range' i k)).run P w= .ok b w
 |0,i,b,h1,h2,h=>by rw[Vr (by simp at h1;omega),Vr (by simp at h2;omega)] at h;simp only[Kw,ug,xb] at h;subst h;simp[Op.eqItems]
 |k+1,i,b,h1,h2,h=>by
  have hlen:=dq he;have hx:i * P.cellsOf e+P.cellsOf e<=xs.length:=by rw[h1,<-Yz];exact Rt _ (by omega)
  have hy:i * P.cellsOf e+P.cellsOf e<=ys.length:=by rw[h2,<-Yz];exact Rt _ (by omega)
  have px:=lF (w:=w) he (xs:=xs) (off:=i * P.cellsOf e) hx;have py:=lF (w:=w) he (xs:=ys) (off:=i * P.cellsOf e) hy;rw[<- Wr (P.cellsOf e) (xs.drop _),<-Wr (P.cellsOf e) (ys.drop _)] at h;obtain⟨c,d,h3,h4,rfl⟩:=jJ (by simp;omega) (by simp;omega) h;rw[List.drop_drop,List.drop_drop,<-Yz] at h4;have hq:=hE w _ _ c (by simp;omega) (by simp;omega) h3;have ih:=TX dd m he hE xs ys k (i+1) d (by rw[h1];congr 1;omega) (by rw[h2];congr 1;omega) h4;rw[List.range'_succ];simp only[Op.eqItems,Sem.run_bind,px,py,hq,Result.andThen_ok];cases c
  ·simp
  ·simpa using ih
theorem iM(d:Nat):∀ (m:Nat)(t:TypeId)(ks:List Nat),Hi P m t=some ks->kP P (d+m) t ks
 |0,_,_,h=>by simp[Hi] at h
 |m+1,t,ks,hk=>by
  intro w xs ys b hx hy h;rw[show d+(m+1)=(d+m)+1 from rfl];rcases wN hk with ha | ⟨ha,h1,hc⟩
  ·have vx:valOf P t xs= .agg ⟨xs⟩:=by simp[valOf,ha]
   have vy:valOf P t ys= .agg ⟨ys⟩:=by simp[valOf,ha]
   rw[vx,vy];unfold Hi at hk
   split at hk
   ·rename_i hu;simp[zg,hu] at ha
   ·rename_i hu;simp[zg,hu] at ha
   ·rename_i hu;simp[zg,hu] at ha
   ·rename_i fs hu
    split at hk
    ·rename_i e
     have OS:P.fieldsOf t=fs:=by simp[Program.fieldsOf,hu]
     rw[run_equalIn_struct w (d+m) t ⟨xs⟩ ⟨ys⟩ (by rw[OS];exact hu) e.2,OS];exact QX (d+m) m xs ys (fun t ks h=>iM d m t ks h) fs.toList ks 0 (P.cellsOf t) b hk e.1 hx.symm hy.symm (by simpa using h)
    ·cases hk
   ·rename_i n e hu
    split at hk
    ·rename_i ib
     simp only[dc] at hk;obtain⟨a,h3,rfl⟩:=hk;obtain⟨i,hi⟩:=Z1 h3;rw[run_equalIn_array w (d+m) ⟨xs⟩ ⟨ys⟩ hu hi,List.range_eq_range'];exact TX (d+m) m h3 (iM d m e a h3) xs ys n 0 b (by rw[hx,ib,De]) (by rw[hy,ib,De]) (by simpa using h)
    ·cases hk
   ·cases hk
  ·rw[h1] at hx hy
   match xs,ys,hx,hy with
   | [x],[y],_,_=>
     have vx:valOf P t [x]=x:=by simp[valOf,ha]
     have vy:valOf P t [y]=y:=by simp[valOf,ha]
     rw[vx,vy];have one:∀ k,ks=[k]->eu k x y=some b:=by rintro k rfl;simpa[ug] using h
     rcases hc with⟨hu,rfl⟩ | ⟨⟨kk,hu⟩,rfl⟩ | ⟨hu,rfl⟩
     ·rcases Mx (one _ rfl) with⟨_,c,e,rfl,rfl,rfl⟩ | ⟨h,_⟩ | ⟨h,_⟩
      ·simp[Op.equalIn,run_underlying hu]
      ·cases h
      ·cases h
     ·rcases Mx (one _ rfl) with⟨h,_⟩ | ⟨_,i,c,e,rfl,rfl,rfl⟩ | ⟨h,_⟩
      ·cases h
      ·simp[Op.equalIn,run_underlying hu]
      ·cases h
     ·rcases Mx (one _ rfl) with⟨h,_⟩ | ⟨h,_⟩ | ⟨_,c,e,rfl,rfl,rfl⟩
      ·cases h
      ·cases h
      ·simp[Op.equalIn,run_underlying hu]
def Fo(P:Program)(t:TypeId):Kd->Bool
 | .one c=>Hi P 8 t==some [c]&&zg P t==some false
 | .row ks=>Hi P 8 t==some ks&&zg P t==some true
theorem CR{R:Rd}{t:TypeId}{kd:Kd}(hk:Fo P t kd=true){p q:PV}{v u:Value}(hp:Na R p v)(hq:Na R q u){b:Bool}(h:Sf kd p q=some b):(Op.equal t v u).run P w= .ok b w:=by
 show (Op.equalIn (9992+8) t v u).run P w=_
 cases kd with
 |one c=>
  simp only[Fo,fb,beq_iff_eq] at hk;have:=iM 9992 8 t [c] hk.1 w [v] [u] b (by have:=dq hk.1;simpa using this) (by have:=dq hk.1;simpa using this) (by simp only[Sf] at h;simp[ug,kH hp hq h])
  simpa[valOf,hk.2] using this
 |row ks=>
  simp only[Fo,fb,beq_iff_eq] at hk;unfold Sf at h
  split at h
  ·cases ‹Kd.row ks=_›
  ·rename_i PT xs ys e
   injection e with e;subst e
   cases hp with
   |agg _ vs h1=>
    cases hq with
    |agg _ us h2=>
     have hr:=rO h1 h2 h;have lens:∀ {ks:List Nat}{xs ys:List Value}{b:Bool},ug ks xs ys=some b->xs.length=ks.length/\ys.length=ks.length:=by
      intro ks
      induction ks with
      |nil=>intro xs ys b h;cases xs <;> cases ys <;> simp_all [ug]
      |cons k ks ih=>
       intro xs ys b h;cases xs <;> cases ys <;> simp only[ug,Hd,dc] at h
       ·cases h
       ·cases h
       ·cases h
       ·obtain⟨_,_,_,h2,_⟩:=h
        have:=ih h2;simp[this.1,this.2]
     have hl:=lens hr;have hn:=dq hk.1
     have:=iM 9992 8 t ks hk.1 w vs us b (by omega) (by omega) hr
     simpa[valOf,hk.2] using this
  ·cases h
end
def NT(P:Program)(t:TypeId)(f:TypeDesc->Bool):Bool:=
 match P.underlying t with
 |some d=>f d
 |none=>false
def GH(P:Program)(t:TypeId):Option Nat:=
 match P.underlying t with
 |some .bool=>some 0
 |some (.pointer _)=>some 1
 |some (.slice _)=>some 2
 |some (.func _ _ _)=>some 3
 |_=>none
def JB(P:Program)(t:TypeId):Bool:=
 match P.underlying t with
 |some (.int .u8)=>true
 |_=>false
def TE(P:Program)(t:TypeId):Bool:=
 match P.underlying t with
 |some .string=>true
 |_=>false
def J1(P:Program)(t:TypeId)(k:IntKind):Bool:=
 match P.underlying t with
 |some (.int k')=>decide (k'=k)
 |_=>false
def Bl(P:Program)(t:TypeId):Option TypeId:=
 match P.underlying t with
 |some (.slice e)=>some e
 |_=>none
def PN(P:Program)(el:TypeId)(sz:Nat)(ag:Bool)(zero:List PV):Bool:=
 Sd P el==some sz&&decide (0 < sz)&&(ag||sz==1)&&Vw P el zero&&zero.length==sz&&zg P el==some ag
def nU(P:Program)(t tx e:TypeId)(sz bytes:Nat):Bool:=
 Bl P t==some e&&(NT P tx fun d=>match d with | .slice e'=>e'==e | .string=>true | _=>false)&&Sd P e==some sz&&Qq P e==some bytes&&decide (0 < bytes)&&decide (0 < sz)&&dP P e sz
def dF(fo:Nat->FuncId):List (Nat×Operand)->List (Nat×AO)->Bool
 | [],[]=>true
 | (i,x)::xs,(j,y)::ys=>i==j&&Yc fo x y&&dF fo xs ys
 |_,_=>false
def QN(fo:Nat->FuncId):Option Operand->Option AO->Bool
 |none,none=>true
 |some x,some y=>Yc fo x y
 |_,_=>false
def tz(P:Program)(t:TypeId)(f:Nat):Option Field:=
 match P.underlying t with
 |some (.struct fs)=>fs[f]?
 |_=>none
def Zy(pl:Nat->Option (Nat×Nat))(fo:Nat->FuncId):List (Nat×Operand)->List (Nat×Nat×AO)->Bool
 | [],[]=>true
 | (i,x)::xs,(off,sz,y)::ys=>pl i==some (off,sz)&&Yc fo x y&&Zy pl fo xs ys
 |_,_=>false
def MB(P:Program)(t:TypeId)(kd:Kd):Bool:=
 match P.underlying t with
 |some (.map k _)=>Fo P k kd
 |_=>false
def DN(P:Program)(t:TypeId)(zero:PV):Bool:=
 match P.underlying t with
 |some (.map _ e)=>
  (match P.info? e with
  |some i=>(match i.zero,zero with
   |some (.agg cs),.agg ps=>PA cs.toList ps
   |some z,p=>EH z p
   |none,_=>false)
  |none=>false)
 |_=>false
def VI(P:Program)(fo:Nat->FuncId):Op->Ka->Bool
 | .move x,.move y=>Yc fo x y
 | .assign x,.move y=>Yc fo x y
 | .pick c a b,.pick c' a' b'=>Yc fo c c'&&Yc fo a a'&&Yc fo b b'
 | .alloc t,.alloc zero=>Vw P t zero
 | .box _ x,.box _ y=>Yc fo x y
 | .build t ba,.build zero aparts=>
   (match P.underlying t with
   |some (.struct fs)=>Zy (fun i=>fs[i]?.map fun f=>(f.offset,(Sd P f.type).getD 0)) fo ba.toList aparts&&fs.all fun f=>(Sd P f.type).isSome
   |some (.array _ el)=>match Sd P el with | some k=>Zy (fun i=>some (i * k,k)) fo ba.toList aparts | none=>false
   |_=>false)&&Vw P t zero
 | .buildSlice t len ba,.Fc _ sz ag len' zero aparts=>
   (match Bl P t with
   |some el=>PN P el sz ag zero
   |none=>false)&&len==len'&&decide (len * sz<=2 ^ 24)&&dF fo ba.toList aparts
 | .load t x,.load ag n y=>zg P t==some ag&&(!ag||Sd P t==some n)&&Yc fo x y
 | .store t p x,.store n q y=>Sd P t==some n&&Yc fo p q&&Yc fo x y
 | .nilCheck x,.OB y=>Yc fo x y
 | .binOp op _ x y _,.bin op' x' y'=>decide (op=op')&&Yc fo x x'&&Yc fo y y'
 | .binOp .eql t x y _,.eq k false x' y'=>GH P t==some k&&Yc fo x x'&&Yc fo y y'
 | .binOp .neq t x y _,.eq k true x' y'=>GH P t==some k&&Yc fo x x'&&Yc fo y y'
 | .unOp op _ x,.un op' y=>decide (op=op')&&Yc fo x y
 | .convert s d x,.conv k y=>(P.underlying s).isSome&&J1 P d k&&Yc fo x y
 | .convert s d x,.aD y=>(match Bl P s with | some el=>JB P el | none=>false)&&TE P d&&Yc fo x y
 | .convert s d x,.Ow _ y=>(P.underlying s).isSome&&(match Bl P d with | some el=>JB P el | none=>false)&&Yc fo x y
 | .makeFunc (.func f) first caps,.Fw ix ys=>first.size==0&&fo ix==f&&Gr fo caps.toList ys
 | .makeSlice t l c,.oj _ sz ag zero bytes l' c'=>
   (match Bl P t with
   |some el=>PN P el sz ag zero&&Qq P el==some bytes
   |none=>false)&&decide (0 < bytes)&&Yc fo l l'&&Yc fo c c'
 | .slice t x lo hi none,.slice sz y lo' hi'=>
   (match P.underlying t with
   |some (.slice el)=>sz != 0&&Sd P el==some sz
   |some .string=>sz==0
   |_=>false)&&Yc fo x y&&QN fo lo lo'&&QN fo hi hi'
 | .fieldAddr t x f,.QA off y=>
   (match tz P t f with
   |some fd=>fd.offset==off&&(match Sd P fd.type with | some n=>n != 0 | none=>false)
   |none=>false)&&Yc fo x y
 | .field t x f,.gE off ag n y=>
   (match tz P t f with
   |some fd=>fd.offset==off&&zg P fd.type==some ag&&(!ag||Sd P fd.type==some n)
   |none=>false)&&Yc fo x y
 | .indexAddr t x i,.Nd sz y j=>(match Bl P t with | some el=>Sd P el==some sz | none=>false)&&Yc fo x y&&Yc fo i j
 | .indexAddr t x i,.Ry n sz y j=>
   (match P.underlying t with
   |some (.array n' el)=>n'==n&&Sd P el==some sz
   |_=>false)&&Yc fo x y&&Yc fo i j
 | .index t x i,.Lu n sz ag y j=>
   (match P.underlying t with
   |some (.array n' el)=>n'==n&&Sd P el==some sz&&zg P el==some ag
   |_=>false)&&Yc fo x y&&Yc fo i j
 | .index t x i,.VE y j=>TE P t&&Yc fo x y&&Yc fo i j
 | .extract x i,.ext i' y=>i==i'&&Yc fo x y
 | .call {callee:= .builtin .len,args,argTypes},.len k y=>
   (match args.toList,argTypes.toList with
   | [x],[t]=>Yc fo x y&&(match P.underlying t with | some (.slice _)=>k==0 | some .string=>k==1 | _=>false)
   |_,_=>false)
 | .call {callee:= .builtin .max,args,..},.mx ys=>Gr fo args.toList ys
 | .call {callee:= .builtin .min,args,..},.mn ys=>Gr fo args.toList ys
 | .call {callee:= .builtin .append,args,argTypes},.append _ _ sz ag bytes s y=>
   (match args.toList,argTypes.toList with
   | [x,z],[t,tx]=>Yc fo x s&&Yc fo z y&&(match Bl P t with | some el=>nU P t tx el sz bytes&&zg P el==some ag | none=>false)
   |_,_=>false)
 | .box _ x,.DA _ y=>Yc fo x y
 | .binOp .eql t x y _,.Sv (.row ks) false x' y'=>Fo P t (.row ks)&& !P.eqGuardType P.depth t&&Yc fo x x'&&Yc fo y y'
 | .binOp .neq t x y _,.Sv (.row ks) true x' y'=>Fo P t (.row ks)&& !P.eqGuardType P.depth t&&Yc fo x x'&&Yc fo y y'
 | .makeMap _ none,.NB=>true
 | .lookup t x k ok,.lookup kd zero ok' x' k'=>MB P t kd&&DN P t zero&&ok==ok'&&Yc fo x x'&&Yc fo k k'
 | .mapUpdate t m k v,.Cw kd m' k' v'=>MB P t kd&&Yc fo m m'&&Yc fo k k'&&Yc fo v v'
 | .insert t m k v,.Cw kd m' k' v'=>MB P t kd&&Yc fo m m'&&Yc fo k k'&&Yc fo v v'
 | .convert s d x,.yF y=>s==d&&(match Bl P d with | some el=>JB P el | none=>false)&&Yc fo x y
 |_,_=>false
def nv(P:Program)(fo:Nat->FuncId)(B0:qd)(o:Oper)(a:Act)(w:World)(R:Rd)(φ:Pl)(H:List fa)(v:AV)(H':List fa):Prop:=
 ∀ (next:Act->World->Prop)(Q:Exit->Act->World->Prop),
  (∀ v' w' R' φ',Lb fo B0 w' R' φ' H'->Yb fo (K R' φ' H') v v'->(∀ a u,K R φ H a u->K R' φ' H' a u)->Od B0 w w'->next (a.put o.dst v') w')->o.wp P a w next Q
section ops
variable {P:Program}{fo:Nat->FuncId}{B0:qd}{w:World}{R:Rd}{φ:Pl}{H H':List fa}{e:Tr}{a:Act}
theorem nv.yh{o:Oper}{v:AV}{s:Sem Value}(h:execOp a.eval o=(do pure (.value (<- s))))(hr:Ug fo B0 w R φ H P s v H'):nv P fo B0 o a w R φ H v H':=by
 intro next Q hn
 obtain⟨v',w',R',φ',h1,h2,h3,h4,h5⟩:=hr;unfold Oper.wp
 rw[h,Sem.run_bind,h1];exact hn v' w' R' φ' h2 h3 h4 h5
theorem nv.Nu{o:Oper}{v:AV}{v':Value}(hS:Lb fo B0 w R φ H)(h:(execOp a.eval o).run P w= .ok (.value v') w)(hv:Yb fo (K R φ H) v v'):nv P fo B0 o a w R φ H v H:=by
 intro next Q hn
 unfold Oper.wp
 rw[h];exact hn v' w R φ hS hv (fun _ _ h=>h) (Od.refl _ _)
theorem T4{el:TypeId}{sz:Nat}{ag:Bool}{zero:List PV}(h:PN P el sz ag zero=true):LF P el sz ag zero:=by
 simp only[PN,fb,beq_iff_eq,decide_eq_true_eq,Nr] at h;obtain⟨⟨⟨⟨⟨h1,h2⟩,h3⟩,h4⟩,h5⟩,h6⟩:=h;exact⟨h1,h2,fun e=>by rcases h3 with h | h;simp[e] at h;exact h,h4,h5⟩
theorem rC{t el:TypeId}(h:Bl P t=some el):P.underlying t=some (.slice el):=by
 unfold Bl at h
 split at h
 ·rename_i e he;injection h with h;subst h;exact he
 ·cases h
theorem Nak{t:TypeId}{f:TypeDesc->Bool}(h:NT P t f=true):∃ d,P.underlying t=some d/\f d=true:=by
 unfold NT at h
 split at h
 ·rename_i d hd;exact⟨d,hd,h⟩
 ·cases h
theorem Dam{t tx el:TypeId}{sz bytes:Nat}(h:nU P t tx el sz bytes=true):LJ P t tx el sz bytes:=by
 simp only[nU,fb,beq_iff_eq,decide_eq_true_eq] at h;obtain⟨⟨⟨⟨⟨⟨h1,h2⟩,h3⟩,h4⟩,h5⟩,h6⟩,h7⟩:=h;obtain⟨d,hd,hf⟩:=Nak h2;refine⟨rC h1,⟨d,hd,?_⟩,h3,h4,h5,h6,h7⟩;cases d <;> simp at hf
 ·exact .inr rfl
 ·exact .inl (by rw[hf])
theorem Js{t:TypeId}{k:Nat}(h:GH P t=some k):(k=0/\P.underlying t=some .bool)\/(k=1/\∃ e,P.underlying t=some (.pointer e))\/(k=2/\∃ e,P.underlying t=some (.slice e))\/(k=3/\∃ p r v,P.underlying t=some (.func p r v)):=by
 unfold GH at h
 split at h <;> first
  |cases h;done
  | (injection h with h;subst h;simp_all)
theorem Yb.bO{K:AV->Value->Prop}{id off:Nat}{v:Value}(h:Yb fo K (.ptr id off) v):K (.ptr id off) v:=by cases h with | atom _ _ h=>exact h
theorem Yb.ZI{K:AV->Value->Prop}{id off:Nat}{v:Value}(h:Yb fo K (.own id off) v):K (.own id off) v:=by cases h with | atom _ _ h=>exact h
theorem Yb.Tw{K:AV->Value->Prop}{id sz:Nat}{nl:Bool}{es:List PV}{v:Value}(h:Yb fo K (.uq id nl sz es) v):K (.uq id nl sz es) v:=by cases h with | atom _ _ h=>exact h
theorem qp{t:TypeId}(hu:P.underlying t=some .bool)(d:Nat)(a b:Bool):(Op.equalIn (d+1) t (.bool a) (.bool b)).run P w= .ok (a==b) w:=by
 simp[Op.equalIn,run_underlying hu]
theorem Bp{t el:TypeId}(hu:P.underlying t=some (.pointer el))(d:Nat)(a:Option Addr):(Op.equalIn (d+1) t (.pointer a) (.pointer none)).run P w= .ok a.isNone w:=by
 cases a <;> simp[Op.equalIn,run_underlying hu]
theorem Dp{t el:TypeId}(hu:P.underlying t=some (.pointer el))(d:Nat)(a:Option Addr):(Op.equalIn (d+1) t (.pointer none) (.pointer a)).run P w= .ok a.isNone w:=by
 cases a <;> simp[Op.equalIn,run_underlying hu]
theorem Ep{t el:TypeId}(hu:P.underlying t=some (.slice el))(d:Nat)(a:Option Addr)(n c m k:Nat):(Op.equalIn (d+1) t (.slice a n c) (.slice none m k)).run P w= .ok a.isNone w:=by
 cases a <;> simp[Op.equalIn,run_underlying hu]
theorem yp{t:TypeId}{p r:Array TypeId}{v:Bool}(hu:P.underlying t=some (.func p r v))(d:Nat)(f:Fn)(x y:Array Value):(Op.equalIn (d+1) t (.func f x y) .nilFunc).run P w= .ok false w:=by
 simp[Op.equalIn,run_underlying hu]
theorem Ap{t:TypeId}{p r:Array TypeId}{v:Bool}(hu:P.underlying t=some (.func p r v))(d:Nat):(Op.equalIn (d+1) t .nilFunc .nilFunc).run P w= .ok true w:=by
 simp[Op.equalIn,run_underlying hu]
theorem UX{t:TypeId}{k:Nat}(ht:GH P t=some k)(hS:Lb fo B0 w R φ H){x y:AV}{vx vy:Value}(hx:Yb fo (K R φ H) x vx)(hy:Yb fo (K R φ H) y vy){b:Bool}(h:Zd H k x y=some b):
 (∀ op:BinOp,op= .eql\/op= .neq->∀ (ox oy:Operand),(do eqGuard op t ox oy vx vy;binOp op t vx vy:Sem Value).run P w= .ok (.bool (if op= .neq then !b else b)) w):=by
 have key:(Op.equal t vx vy).run P w= .ok b w->(∀ (op:BinOp)(ox oy:Operand),(eqGuard op t ox oy vx vy)=pure ())->(∀ op:BinOp,(op= .eql->binOp op t vx vy=(do pure (.bool (<- Op.equal t vx vy))))/\(op= .neq->binOp op t vx vy=(do pure (.bool (!(<- Op.equal t vx vy))))))->
  (∀ op:BinOp,op= .eql\/op= .neq->∀ (ox oy:Operand),(do eqGuard op t ox oy vx vy;binOp op t vx vy:Sem Value).run P w= .ok (.bool (if op= .neq then !b else b)) w):=by
  intro h1 h2 h3 op hop ox oy;rcases hop with rfl | rfl
  ·simp[h2,(h3 .eql).1 rfl,h1]
  ·simp[h2,(h3 .neq).2 rfl,h1]
 have one:∀ (x y:Value),(Op.equal t x y).run P w=(Op.equalIn (9999+1) t x y).run P w:=fun _ _=>rfl
 unfold Zd at h
 split at h
 ·
  have h1:=hx.xd;have h2:=hy.xd
  cases h1;cases h2;injection h with h;subst h
  have hu:=Js ht;simp at hu;refine key ?_ (fun op ox oy=>by cases op <;> rfl) (fun op=>⟨fun e=>by subst e;rfl,fun e=>by subst e;rfl⟩);rw[one]
  first | exact qp hu 9999 _ _ | exact Bp hu 9999 _ | exact Dp hu 9999 _ | exact Ep hu 9999 _ _ _ _ _ | exact yp hu 9999 _ _ _ | exact Ap hu 9999
 ·have h1:=hx.xd;have h2:=hy.xd
  cases h1;cases h2;injection h with h;subst h
  have hu:=Js ht;simp at hu;obtain⟨e,hu⟩:=hu;refine key ?_ (fun op ox oy=>by cases op <;> rfl) (fun op=>⟨fun e=>by subst e;rfl,fun e=>by subst e;rfl⟩);rw[one]
  first | exact qp hu 9999 _ _ | exact Bp hu 9999 _ | exact Dp hu 9999 _ | exact Ep hu 9999 _ _ _ _ _ | exact yp hu 9999 _ _ _ | exact Ap hu 9999
 ·have h1:=hx.xd;have h2:=hy.xd
  cases h1;cases h2;injection h with h;subst h
  have hu:=Js ht;simp at hu;obtain⟨e,hu⟩:=hu;refine key ?_ (fun op ox oy=>by cases op <;> rfl) (fun op=>⟨fun e=>by subst e;rfl,fun e=>by subst e;rfl⟩);rw[one]
  first | exact qp hu 9999 _ _ | exact Bp hu 9999 _ | exact Dp hu 9999 _ | exact Ep hu 9999 _ _ _ _ _ | exact yp hu 9999 _ _ _ | exact Ap hu 9999
 ·have h1:=hx.xd;have h2:=hy.xd
  cases h1;cases h2;injection h with h;subst h
  have hu:=Js ht;simp at hu;obtain⟨e,hu⟩:=hu;refine key ?_ (fun op ox oy=>by cases op <;> rfl) (fun op=>⟨fun e=>by subst e;rfl,fun e=>by subst e;rfl⟩);rw[one]
  first | exact qp hu 9999 _ _ | exact Bp hu 9999 _ | exact Dp hu 9999 _ | exact Ep hu 9999 _ _ _ _ _ | exact yp hu 9999 _ _ _ | exact Ap hu 9999
 ·
  split at h
  ·rename_i hc
   have h2:=hy.xd
   cases h2;injection h with h;subst h
   have h1:=hx.bO
   rw[h1.2.2 _ hc];have hu:=Js ht;simp at hu;obtain⟨e,hu⟩:=hu;rw[h1.2.2 _ hc] at key;refine key ?_ (fun op ox oy=>by cases op <;> rfl) (fun op=>⟨fun e=>by subst e;rfl,fun e=>by subst e;rfl⟩);rw[one]
   first | exact qp hu 9999 _ _ | exact Bp hu 9999 _ | exact Dp hu 9999 _ | exact Ep hu 9999 _ _ _ _ _ | exact yp hu 9999 _ _ _ | exact Ap hu 9999
  ·cases h
 ·have h1:=hx.xd;have h2:=hy.xd
  cases h1;cases h2;injection h with h;subst h
  have hu:=Js ht;simp at hu;obtain⟨e,hu⟩:=hu;refine key ?_ (fun op ox oy=>by cases op <;> rfl) (fun op=>⟨fun e=>by subst e;rfl,fun e=>by subst e;rfl⟩);rw[one]
  first | exact qp hu 9999 _ _ | exact Bp hu 9999 _ | exact Dp hu 9999 _ | exact Ep hu 9999 _ _ _ _ _ | exact yp hu 9999 _ _ _ | exact Ap hu 9999
 ·have h1:=hx.xd;have h2:=hy.xd
  cases h2;obtain⟨a7,n7,c7,rfl⟩:∃ a n c,vx= .slice (some a) n c:=by cases h1 <;> exact⟨_,_,_,rfl⟩
  injection h with h;subst h
  have hu:=Js ht;simp at hu;obtain⟨e,hu⟩:=hu;refine key ?_ (fun op ox oy=>by cases op <;> rfl) (fun op=>⟨fun e=>by subst e;rfl,fun e=>by subst e;rfl⟩);rw[one]
  first | exact qp hu 9999 _ _ | exact Bp hu 9999 _ | exact Dp hu 9999 _ | exact Ep hu 9999 _ _ _ _ _ | exact yp hu 9999 _ _ _ | exact Ap hu 9999
 ·
  rename_i nl sz es;have h2:=hy.xd
  cases h2;injection h with h;subst h
  have h1:=hx.Tw
  have hu:=Js ht;simp at hu;obtain⟨e,hu⟩:=hu;cases nl with
  |true=>
   rw[(h1.2.1 rfl).1] at key ⊢;refine key ?_ (fun op ox oy=>by cases op <;> rfl) (fun op=>⟨fun e=>by subst e;rfl,fun e=>by subst e;rfl⟩);rw[one]
   first | exact qp hu 9999 _ _ | exact Bp hu 9999 _ | exact Dp hu 9999 _ | exact Ep hu 9999 _ _ _ _ _ | exact yp hu 9999 _ _ _ | exact Ap hu 9999
  |false=>
   have h3:=h1.2.2.1 rfl
   obtain⟨a8,n8,c8,rfl⟩:∃ a n c,vx= .slice (some a) n c:=by cases h3 <;> exact⟨_,_,_,rfl⟩
   refine key ?_ (fun op ox oy=>by cases op <;> rfl) (fun op=>⟨fun e=>by subst e;rfl,fun e=>by subst e;rfl⟩);rw[one]
   first | exact qp hu 9999 _ _ | exact Bp hu 9999 _ | exact Dp hu 9999 _ | exact Ep hu 9999 _ _ _ _ _ | exact yp hu 9999 _ _ _ | exact Ap hu 9999
 ·
  split at h
  ·rename_i sz ag c fl nl hc
   split at h
   ·rename_i nB
    injection h with h;subst h
    have h2:=hy.xd
    cases h2;have h1:=hx.ZI
    obtain⟨k0,k⟩:=h1.2.2 _ _ _ _ _ hc
    obtain⟨o0,o1,o2,_⟩:=hS.obj _ _ hc
    obtain⟨k1,k2⟩:=k (by omega);have hu:=Js ht;simp at hu;obtain⟨e,hu⟩:=hu;cases nl with
    |true=>
     rw[k1 rfl] at key ⊢;refine key ?_ (fun op ox oy=>by cases op <;> rfl) (fun op=>⟨fun e=>by subst e;rfl,fun e=>by subst e;rfl⟩);rw[one]
     first | exact qp hu 9999 _ _ | exact Bp hu 9999 _ | exact Dp hu 9999 _ | exact Ep hu 9999 _ _ _ _ _ | exact yp hu 9999 _ _ _ | exact Ap hu 9999
    |false=>
     rcases k2 rfl with⟨q1,q2,_⟩ | ⟨b,o,cap,q1,_,_⟩
     ·subst q1;exact absurd (Ze (by omega)) q2
     ·rw[q1] at key ⊢
      refine key ?_ (fun op ox oy=>by cases op <;> rfl) (fun op=>⟨fun e=>by subst e;rfl,fun e=>by subst e;rfl⟩);rw[one]
      first | exact qp hu 9999 _ _ | exact Bp hu 9999 _ | exact Dp hu 9999 _ | exact Ep hu 9999 _ _ _ _ _ | exact yp hu 9999 _ _ _ | exact Ap hu 9999
   ·cases h
  ·cases h
 ·have h2:=hy.xd
  cases h2;injection h with h;subst h
  cases hx with
  |atom _ _ h=>exact h.elim
  |Ec ix cs vs hc=>
   have hu:=Js ht;replace hu:=((hu.resolve_left (by simp)).resolve_left (by simp)).resolve_left (by simp)
   obtain⟨_,p,r,v,hu⟩:=hu;refine key ?_ (fun op ox oy=>by cases op <;> rfl) (fun op=>⟨fun e=>by subst e;rfl,fun e=>by subst e;rfl⟩);rw[one]
   first | exact qp hu 9999 _ _ | exact Bp hu 9999 _ | exact Dp hu 9999 _ | exact Ep hu 9999 _ _ _ _ _ | exact yp hu 9999 _ _ _ | exact Ap hu 9999
 ·have h1:=hx.xd;have h2:=hy.xd
  cases h1;cases h2;injection h with h;subst h
  have hu:=Js ht;replace hu:=((hu.resolve_left (by simp)).resolve_left (by simp)).resolve_left (by simp)
  obtain⟨_,p,r,v,hu⟩:=hu;refine key ?_ (fun op ox oy=>by cases op <;> rfl) (fun op=>⟨fun e=>by subst e;rfl,fun e=>by subst e;rfl⟩);rw[one]
  first | exact qp hu 9999 _ _ | exact Bp hu 9999 _ | exact Dp hu 9999 _ | exact Ep hu 9999 _ _ _ _ _ | exact yp hu 9999 _ _ _ | exact Ap hu 9999
 ·cases h
end ops
end Go.AM
namespace Go.AM
open Go.RowKit
section
variable {P:Program}{fo:Nat->FuncId}{B0:qd}{w:World}{R:Rd}{φ:Pl}{H H':List fa}
def iaa(P:Program)(em:Bool)(dd:Nat)(e:TypeId)(ks:List Nat):Prop:=
 ∀ (w:World)(xs:List Value)(b:Bool),xs.length=P.cellsOf e->ug ks xs xs=some b->(Instr.checkKey em dd e (valOf P e xs)).run P w= .ok () w
theorem FL(em:Bool)(d:Nat):∀ (m:Nat)(t:TypeId)(ks:List Nat),Hi P m t=some ks->iaa P em (d+m) t ks
 |0,_,_,h=>by simp[Hi] at h
 |m+1,t,ks,hk=>by
  intro w xs b hx h;rw[show d+(m+1)=(d+m)+1 from rfl];rcases wN hk with ha | ⟨ha,h1,hc⟩
  ·have vx:valOf P t xs= .agg ⟨xs⟩:=by simp[valOf,ha]
   rw[vx];unfold Hi at hk
   split at hk
   ·rename_i hu;simp[zg,hu] at ha
   ·rename_i hu;simp[zg,hu] at ha
   ·rename_i hu;simp[zg,hu] at ha
   ·rename_i fs hu
    split at hk
    ·rename_i e
     rw[Instr.checkKey];simp only[Sem.run_bind,run_underlying hu,Result.andThen_ok];rw[<- Array.forIn_toList];have hE:=fun t ks h=>FL em d m t ks h;have hl:=e.1
     have h':ug ks (xs.drop 0) (xs.drop 0)=some b:=by simpa using h
     clear h e hu vx ha;generalize P.cellsOf t=n at hl hx
     generalize 0=o at hl h';generalize fs.toList=L at hk hl
     induction L generalizing ks o b with
     |nil=>simp
     |cons f L ih=>
      simp only[uw] at hk
      split at hk
      ·rename_i hn
       simp only[bne_iff_ne,ne_eq] at hn;simp only[Hd,dc] at hk;obtain⟨k1,e1,k2,e2,rfl⟩:=hk;simp only[vw] at hl
       split at hl
       ·rename_i ho
        subst ho;have hle:=vN (P:=P) (fun t ks h=>dq (m:=m) h) e2 hl;have hlen:=dq e1;have px:=lF (w:=w) e1 (xs:=xs) (off:=f.offset) (by omega);rw[<- Wr (P.cellsOf f.type) (xs.drop f.offset)] at h';obtain⟨c,g,h3,h4,rfl⟩:=jJ (by simp;omega) rfl h';rw[List.drop_drop] at h4;have he:=hE _ _ e1 w _ c (by simp;omega) h3;simp only[List.forIn_cons,Sem.run_bind,hn,ne_eq,not_false_eq_true,if_true,Result.andThen_ok,px,he,Sem.run_pure];exact ih _ _ _ h4 e2 hl
       ·cases hl
      ·cases hk
    ·cases hk
   ·rename_i n e hu
    split at hk
    ·rename_i ib
     simp only[dc] at hk;obtain⟨a,h3,rfl⟩:=hk;rw[Instr.checkKey];simp only[Sem.run_bind,run_underlying hu,Result.andThen_ok];simp only[Std.Legacy.Range.forIn_eq_forIn_range',Std.Legacy.Range.size,Xz,Nat.add_one_sub_one,Nat.div_one];have hE:=FL em d m e a h3;have hlen:=dq h3;have Dk:xs.length=(0+n) * P.cellsOf e:=by rw[hx,ib,De]
     have h':ug (Kw n a) (xs.drop (0 * P.cellsOf e)) (xs.drop (0 * P.cellsOf e))=some b:=by simpa using h
     clear hx h ib hu vx ha;generalize 0=i at Dk h'
     induction n generalizing i b with
     |zero=>simp
     |succ k ih=>
      have qN:i * P.cellsOf e+P.cellsOf e<=xs.length:=by rw[Dk,<-Yz];exact Rt _ (by omega)
      have px:=lF (w:=w) h3 (xs:=xs) (off:=i * P.cellsOf e) qN;rw[Kw,<-Wr (P.cellsOf e) (xs.drop _)] at h';obtain⟨c,g,h5,h4,rfl⟩:=jJ (by simp;omega) rfl h';rw[List.drop_drop,<-Yz] at h4;have hq:=hE w _ c (by simp;omega) h5;rw[List.range'_succ];simp only[List.forIn_cons,Sem.run_bind,qj (OT h3),Result.andThen_ok,px,hq,Sem.run_pure];exact ih _ _ (by rw[Dk];congr 1;omega) h4
    ·cases hk
   ·cases hk
  ·rw[h1] at hx
   match xs,hx with
   | [x],_=>
     have vx:valOf P t [x]=x:=by simp[valOf,ha]
     rw[vx];have one:∀ k,ks=[k]->eu k x x=some b:=by rintro k rfl;simpa[ug] using h
     rw[Instr.checkKey];rcases hc with⟨hu,rfl⟩ | ⟨⟨kk,hu⟩,rfl⟩ | ⟨hu,rfl⟩
     ·simp[run_underlying hu]
     ·simp[run_underlying hu]
     ·simp[run_underlying hu]
theorem jap:∀ {ks:List Nat}{xs ys:List Value}{b:Bool},ug ks xs ys=some b->xs.length=ks.length/\ys.length=ks.length:=by
 intro ks
 induction ks with
 |nil=>intro xs ys b h;cases xs <;> cases ys <;> simp_all [ug]
 |cons k ks ih=>
  intro xs ys b h;cases xs <;> cases ys <;> simp only[ug,Hd,dc] at h
  ·cases h
  ·cases h
  ·cases h
  ·obtain⟨_,_,_,h2,_⟩:=h
   have:=ih h2;simp[this.1,this.2]
theorem KW{t:TypeId}{kd:Kd}(hk:Fo P t kd=true){p:PV}{v:Value}(hp:Na R p v){b:Bool}(h:Sf kd p p=some b)(em:Bool):(Instr.checkKey em 10000 t v).run P w= .ok () w:=by
 show (Instr.checkKey em (9992+8) t v).run P w=_
 cases kd with
 |one c=>
  simp only[Fo,fb,beq_iff_eq] at hk;have:=FL em 9992 8 t [c] hk.1 w [v] b (by have:=dq hk.1;simpa using this) (by simp only[Sf] at h;simp[ug,kH hp hp h])
  simpa[valOf,hk.2] using this
 |row ks=>
  simp only[Fo,fb,beq_iff_eq] at hk;have hs:∃ xs,p= .agg xs:=by cases p <;> simp[Sf] at h;exact⟨_,rfl⟩
  obtain⟨xs,rfl⟩:=hs;simp only[Sf] at h;cases hp with
  |agg _ vs h1=>
   have hr:=rO h1 h1 h;have hl:=jap hr;have hn:=dq hk.1
   have:=FL em 9992 8 t ks hk.1 w vs b (by omega) hr
   simpa[valOf,hk.2] using this
theorem EW{k:Nat}{x y:Value}(h:eu k x y=some true):x=y:=by
 rcases Mx h with⟨_,c,d,rfl,rfl,e⟩ | ⟨_,i,c,d,rfl,rfl,e⟩ | ⟨_,c,d,rfl,rfl,e⟩
 ·have:=eq_of_beq e.symm;rw[this]
 ·have:=eq_of_beq e.symm;rw[this]
 ·have:c=d:=by
   have e:=e.symm
   obtain⟨⟨c⟩⟩:=c;obtain⟨⟨d⟩⟩:=d;have h2:((⟨c⟩:Array UInt8)==⟨d⟩)=true:=e;have:=eq_of_beq h2;simp at this;rw[this]
  rw[this]
theorem G7:∀ {ks:List Nat}{xs ys:List Value},ug ks xs ys=some true->xs=ys
 | [],[],[],_=>rfl
 |k::ks,x::xs,y::ys,h=>by simp only[ug,Hd,dc] at h;obtain⟨b,h1,c,h2,h3⟩:=h;simp only[fb] at h3;obtain⟨rfl,rfl⟩:=h3;rw[EW h1,G7 h2]
 | [],[],_::_,h=>by simp[ug] at h
 | [],_::_,_,h=>by simp[ug] at h
 |_::_,[],_,h=>by simp[ug] at h
 |_::_,_::_,[],h=>by simp[ug] at h
theorem iae{kd:Kd}{p q:PV}{v u:Value}(hp:Na R p v)(hq:Na R q u)(h:Sf kd p q=some true):v=u/\∀ n,Instr.sameBits (n+2) u u=true:=by
 have atom:∀ {c:Nat}{x y:Value}{b:Bool},eu c x y=some b->∀ n,Instr.sameBits n x x=true:=by
  intro c x y b hc n;rcases Mx hc with⟨_,c,d,rfl,rfl,_⟩ | ⟨_,i,c,d,rfl,rfl,_⟩ | ⟨_,c,d,rfl,rfl,_⟩
  ·cases n <;> simp[Instr.sameBits]
  ·cases n <;> simp[Instr.sameBits]
  ·cases n <;> (simp only[Instr.sameBits];obtain⟨⟨c⟩⟩:=c;show ((⟨c⟩:Array UInt8)==⟨c⟩)=true;simp)
 unfold Sf at h
 split at h
 ·have h1:=kH hp hq h
  have e:=EW h1;subst e;exact⟨rfl,fun n=>atom h1 _⟩
 ·cases hp with
  |agg _ vs h1=>
   cases hq with
   |agg _ us h2=>
    have hr:=rO h1 h2 h;have e:=G7 hr;subst e;refine⟨rfl,fun n=> ?_⟩;simp only[Instr.sameBits,beq_self_eq_true,ng];clear h1 h2 h;rw[Df];rintro⟨x,y⟩ hm;rename_i ks _ _
    induction ks generalizing vs with
    |nil=>cases vs with
     |nil=>simp at hm
     |cons=>simp[ug] at hr
    |cons k ks ih=>
     cases vs with
     |nil=>simp at hm
     |cons z zs=>
      simp only[ug,Hd,dc] at hr;obtain⟨b,q1,c,q2,q3⟩:=hr;simp only[fb] at q3;obtain⟨rfl,rfl⟩:=q3;simp only[List.zip_cons_cons,Ae,Jb] at hm;rcases hm with⟨rfl,rfl⟩ | hm
      ·exact atom q1 _
      ·exact ih zs q2 hm
 ·cases h
def CC(R:Rd)(kd:Kd)(k:PV)(es:List (PV×PV))(te:List MapEntry)(i:Nat):Option (Nat×PV)->Option (Nat×Value)->Prop
 |none,none=>True
 |some (a,p),some (b,u)=>a=b/\∃ j e x,a=i+j/\es[j]? =some e/\te[j]? =some x/\e.2=p/\x.val=u/\Na R p u/\Na R e.1 x.key/\Sf kd k e.1=some true
 |_,_=>False
theorem CC.succ{kd:Kd}{k:PV}{es:List (PV×PV)}{te:List MapEntry}{i:Nat}{e:PV×PV}{x:MapEntry}{r:Option (Nat×PV)}{r':Option (Nat×Value)}(h:CC R kd k es te (i+1) r r'):CC R kd k (e::es) (x::te) i r r':=by
 cases r with
 |none=>cases r' with
  |none=>trivial
  |some=>exact h.elim
 |some r=>cases r' with
  |none=>exact h.elim
  |some r'=>obtain⟨h1,j,e',x',h2,h3⟩:=h;exact⟨h1,j+1,e',x',by omega,h3⟩
theorem dY{t:TypeId}{kd:Kd}(hk:Fo P t kd=true){k:PV}{v:Value}(hv:Na R k v):∀ {es:List (PV×PV)}{te:List MapEntry}{i:Nat}{r:Option (Nat×PV)},Ol R es te->Rj kd k es i=some r->
 ∃ r',(Instr.findAsking t v te i).run P w= .ok r' w/\CC R kd k es te i r r'
 | [],[],i,r,_,h=>by simp only[Rj,xb] at h;subst h;exact⟨none,by simp[Instr.findAsking],trivial⟩
 |e::es,x::te,i,r,⟨m1,m2,m3⟩,h=>by
  simp only[Rj,Hd] at h;obtain⟨b,h1,h2⟩:=h;have hr:=CR (w:=w) hk hv m1 h1;cases b with
  |true=>simp only[if_true,xb] at h2;subst h2;exact⟨some (i,x.val),by simp[Instr.findAsking,hr],rfl,0,e,x,rfl,rfl,rfl,rfl,rfl,m2,m1,h1⟩
  |false=>simp only[Sc,if_false] at h2;obtain⟨r',h3,h4⟩:=dY hk hv m3 h2;exact⟨r',by simp[Instr.findAsking,hr,h3],h4.succ⟩
 | [],_::_,_,_,h,_=>h.elim
 |_::_,[],_,_,h,_=>h.elim
theorem Gap{d:TypeDesc}{c:Nat}{x y:Value}{b:Bool}(hd:(d= .bool/\c=0)\/((∃ k,d= .int k)/\c=1)\/(d= .string/\c=2))(h:eu c x y=some b):Instr.sameNow d x y=some b:=by
 rcases hd with⟨rfl,rfl⟩ | ⟨⟨k,rfl⟩,rfl⟩ | ⟨rfl,rfl⟩
 ·rcases Mx h with⟨_,c,d,rfl,rfl,rfl⟩ | ⟨h,_⟩ | ⟨h,_⟩
  ·rfl
  ·cases h
  ·cases h
 ·rcases Mx h with⟨h,_⟩ | ⟨_,i,c,d,rfl,rfl,rfl⟩ | ⟨h,_⟩
  ·cases h
  ·simp[Instr.sameNow]
  ·cases h
 ·rcases Mx h with⟨h,_⟩ | ⟨h,_⟩ | ⟨_,c,d,rfl,rfl,rfl⟩
  ·cases h
  ·cases h
  ·rfl
theorem fY{d:TypeDesc}{c:Nat}(hd:(d= .bool/\c=0)\/((∃ k,d= .int k)/\c=1)\/(d= .string/\c=2)){k:PV}{v:Value}(hv:Na R k v):∀ {es:List (PV×PV)}{te:List MapEntry}{i:Nat}{r:Option (Nat×PV)},Ol R es te->Rj (.one c) k es i=some r->
 ∃ r',Instr.findNow d v te i=some r'/\CC R (.one c) k es te i r r'
 | [],[],i,r,_,h=>by simp only[Rj,xb] at h;subst h;exact⟨none,rfl,trivial⟩
 |e::es,x::te,i,r,⟨m1,m2,m3⟩,h=>by
  simp only[Rj,Hd] at h;obtain⟨b,h1,h2⟩:=h;have hr:=Gap hd (kH hv m1 h1);cases b with
  |true=>simp only[if_true,xb] at h2;subst h2;exact⟨some (i,x.val),by simp[Instr.findNow,hr],rfl,0,e,x,rfl,rfl,rfl,rfl,rfl,m2,m1,h1⟩
  |false=>simp only[Sc,if_false] at h2;obtain⟨r',h3,h4⟩:=fY hd hv m3 h2;exact⟨r',by simp[Instr.findNow,hr,h3],h4.succ⟩
 | [],_::_,_,_,h,_=>h.elim
 |_::_,[],_,_,h,_=>h.elim
theorem eY{t:TypeId}{kd:Kd}(hk:Fo P t kd=true){k:PV}{v:Value}(hv:Na R k v){es:List (PV×PV)}{te:List MapEntry}{r:Option (Nat×PV)}(hm:Ol R es te)(h:Rj kd k es 0=some r):
 ∃ r',(Instr.findKey t v te).run P w= .ok r' w/\CC R kd k es te 0 r r':=by
 cases kd with
 |one c=>
  have Qe:=hk;simp only[Fo,fb,beq_iff_eq] at Qe;have hd:∃ d,P.underlying t=some d/\((d= .bool/\c=0)\/((∃ k,d= .int k)/\c=1)\/(d= .string/\c=2)):=by
   rcases wN Qe.1 with ha | ⟨_,_,hc⟩
   ·rw[Qe.2] at ha;cases ha
   ·rcases hc with⟨hu,e⟩ | ⟨⟨kk,hu⟩,e⟩ | ⟨hu,e⟩
    ·exact⟨_,hu,.inl ⟨rfl,by simpa using e⟩⟩
    ·exact⟨_,hu,.inr (.inl ⟨⟨kk,rfl⟩,by simpa using e⟩)⟩
    ·exact⟨_,hu,.inr (.inr ⟨rfl,by simpa using e⟩)⟩
  obtain⟨d,hu,hd⟩:=hd;obtain⟨r',h1,h2⟩:=fY hd hv hm h;exact⟨r',by simp[Instr.findKey,run_underlying hu,h1],h2⟩
 |row ks=>
  have Qe:=hk;simp only[Fo,fb,beq_iff_eq] at Qe;obtain⟨r',h1,h2⟩:=dY (w:=w) hk hv hm h;have hu:∃ d,P.underlying t=some d/\∀ x y,Instr.sameNow d x y=none:=by
   have ha:=Qe.2
   unfold zg at ha
   split at ha
   ·rename_i fs hu;exact⟨_,hu,fun x y=>by cases x <;> rfl⟩
   ·rename_i n e hu;exact⟨_,hu,fun x y=>by cases x <;> rfl⟩
   ·cases ha
   ·cases ha
  obtain⟨d,hu,hs⟩:=hu;cases te with
  |nil=>refine⟨r',?_,h2⟩;simp only[Instr.findAsking,Sem.run_pure] at h1;simp only[Instr.findKey,Sem.run_bind,run_underlying hu,Result.andThen_ok,Instr.findNow,Sem.run_pure];exact h1
  |cons x xs=>exact⟨r',by simp[Instr.findKey,run_underlying hu,Instr.findNow,hs,h1],h2⟩
theorem K.map_set{id:Nat}{c c':List (PV×PV)}(hc:H[id]? =some (.map c))(a:AV)(v:Value)(h:K R φ H a v):K R (Zc φ id (φ id)) (H.set id (.map c')) a v:=by
 have hφ:Zc φ id (φ id)=φ:=by
  funext i
  unfold Zc
  split
  ·rename_i e;rw[e]
  ·rfl
 rw[hφ];have Ma:=getElem?_lt hc;have Wd:∀ {i:Nat}{x:fa},(H.set id (.map c'))[i]? =some x->(i≠id/\H[i]? =some x)\/(i=id/\x= .map c'):=by
  intro i x hx
  by_cases h:i=id
  ·subst h;rw[Of Ma] at hx;injection hx with hx;exact .inr ⟨rfl,hx.symm⟩
  ·rw[ze (tf h)] at hx;exact .inl ⟨h,hx⟩
 cases a with
 |pv p=>exact h
 |ptr i off=>
  refine⟨by simpa using h.1,h.2.1,fun c1 h1=> ?_⟩;rcases Wd h1 with⟨_,h2⟩ | ⟨rfl,h2⟩
  ·exact h.2.2 _ h2
  ·cases h2
 |Sb i n off=>
  refine⟨by simpa using h.1,h.2.1,fun sz ag c1 fl nl h1=> ?_⟩;rcases Wd h1 with⟨_,h2⟩ | ⟨rfl,h2⟩
  ·exact h.2.2 _ _ _ _ _ h2
  ·cases h2
 |uq i nl sz es=>
  refine⟨by simpa using h.1,h.2.1,h.2.2.1,fun sj n nl' h1=> ?_⟩;rcases Wd h1 with⟨_,h2⟩ | ⟨rfl,h2⟩
  ·exact h.2.2.2 _ _ _ h2
  ·cases h2
 |own i len=>
  refine⟨by simpa using h.1,h.2.1,fun sz ag c1 fl nl h1=> ?_⟩;rcases Wd h1 with⟨_,h2⟩ | ⟨rfl,h2⟩
  ·exact h.2.2 _ _ _ _ _ h2
  ·cases h2
 |mp i=>
  refine⟨by simpa using h.1,h.2.1,fun es h1=> ?_⟩;rcases Wd h1 with⟨_,h2⟩ | ⟨rfl,_⟩
  ·exact h.2.2 _ h2
  ·exact h.2.2 _ hc
 |Ec ix cs=>exact h.elim
 |agg cs=>exact h.elim
 |Ba cs=>exact h.elim
 |undef=>exact h.elim
theorem Z2{t:TypeId}{kd:Kd}(h:MB P t kd=true):∃ k e,P.underlying t=some (.map k e)/\Fo P k kd=true:=by
 unfold MB at h
 split at h
 ·rename_i k e hu;exact⟨k,e,hu,h⟩
 ·cases h
theorem Ial{t k e:TypeId}{zero:PV}(hu:P.underlying t=some (.map k e))(h:DN P t zero=true):∃ z,(∀ w,(zeroValue e).run P w= .ok z w)/\∀ R,Na R zero z:=by
 unfold DN at h;simp only[hu] at h;cases hi:P.info? e with
 |none=>simp[hi] at h
 |some i=>
  simp only[hi] at h;cases hz:i.zero with
  |none=>simp[hz] at h
  |some z=>
   simp only[hz] at h;refine⟨z,fun w=>by simp[zeroValue,run_typeInfo w hi,hz],fun R=> ?_⟩
   split at h
   ·rename_i cs ps e1
    injection e1 with e1
    subst e1;exact .agg _ _ (FH (R:=R) h).1
   ·rename_i z' p e1 e2
    injection e1 with e1
    subst e1;exact AR h
   ·cases h
theorem Xal(hS:Lb fo B0 w R φ H)(t:TypeId):Ug fo B0 w R φ H P (Instr.makeMap t none) (.mp H.length) (H++[.map []]):=by
 have hk:=fun a v=>K.push (R:=R) (φ:=φ) (H:=H) (.map []) (w.heap.size,0) a v
 refine⟨.map (some w.heap.size),{w with heap:=w.heap.push (.map #[] 0)},R,AM.Zc φ H.length (w.heap.size,0),?_,?_,?_,hk,IQ hS.low hS.slt _⟩
 ·simp[Instr.makeMap,run_newObj]
 ·refine hS.push (by simp) (fun b hb=>Pp hb) (fun _ _ _=>rfl) (fun b o v h=> ?_) hk (fun _=>gb _) ?_
  ·have:=hS.sub b o v h
   rw[FW (dp this)];exact this
  ·refine⟨by rw[Ye];exact hS.low,by rw[Ye];exact hS.MN (gb _),#[],0,?_,trivial⟩
   rw[Ye];simp
 ·exact .atom _ _ ⟨by simp,rfl,fun c _=>by rw[Ye]⟩
theorem Yb.Z3{K:AV->Value->Prop}{id:Nat}{v:Value}(h:Yb fo K (.mp id) v):K (.mp id) v:=by cases h with | atom _ _ h=>exact h
def T2(zero:PV)(ok:Bool):Option (Nat×PV)->AV
 |some (_,x)=>(if ok then .pv (.Ba [x,.bool true]) else .pv x)
 |none=>(if ok then .pv (.Ba [zero,.bool false]) else .pv zero)
theorem U2(hS:Lb fo B0 w R φ H){t:TypeId}{kd:Kd}{zero:PV}(h1:MB P t kd=true)(h2:DN P t zero=true){m:AV}{k:PV}{vm vk:Value}(hm:Yb fo (K R φ H) m vm)(hk:Na R k vk)(ok:Bool){es:List (PV×PV)}
 (xn:m= .pv .Gk/\es=[]\/∃ id,m= .mp id/\H[id]? =some (.map es)) (Wl:(Sf kd k k).isSome=true) {r:Option (Nat×PV)} (hf:Rj kd k es 0=some r):
 ∃ u,(Instr.lookup t vm vk ok).run P w= .ok u w/\Yb fo (K R φ H) (T2 zero ok r) u:=by
 obtain⟨kt,e,hu,Bu⟩:=Z2 h1;obtain⟨z,hz,qt⟩:=Ial hu h2;obtain⟨b,hb⟩:=LK.1 Wl
 have go:∀ (te:Array MapEntry),Ol R es te.toList->∃ u,(do
  Instr.checkKey te.isEmpty 10000 kt vk
  let (v,okk) <-match <-Instr.findKey kt vk te.toList with
   |some (_,v)=>pure (v,true)
   |none=>pure (<- zeroValue e,false)
  pure (if ok then .tuple #[v,.bool okk] else v):Sem Value).run P w= .ok u w/\Yb fo (K R φ H) (T2 zero ok r) u:=by
  intro te hE;have hc:=KW (w:=w) Bu hk hb te.isEmpty
  obtain⟨r',h3,h4⟩:=eY (w:=w) Bu hk hE hf;cases r with
  |none=>
   cases r' with
   |some=>exact h4.elim
   |none=>
    cases ok with
    |true=>exact⟨.tuple #[z,.bool false],by simp[hc,h3,hz w],.atom _ _ (show Na R _ _ from .Ba _ _ (.cons _ _ _ _ (qt R) (.cons _ _ _ _ (.bool _) .nil)))⟩
    |false=>exact⟨z,by simp[hc,h3,hz w],.atom _ _ (show Na R _ _ from qt R)⟩
  |some r=>
   cases r' with
   |none=>exact h4.elim
   |some r'=>
    obtain⟨a,p⟩:=r;obtain⟨b,u⟩:=r';obtain⟨_,j,e',x',_,_,_,_,_,Ys,_⟩:=h4;cases ok with
    |true=>exact⟨.tuple #[u,.bool true],by simp[hc,h3],.atom _ _ (show Na R _ _ from .Ba _ _ (.cons _ _ _ _ Ys (.cons _ _ _ _ (.bool _) .nil)))⟩
    |false=>exact⟨u,by simp[hc,h3],.atom _ _ (show Na R _ _ from Ys)⟩
 rcases xn with⟨rfl,rfl⟩ | ⟨id,rfl,Ma⟩
 ·have:=hm.xd
  cases this;obtain⟨u,h5,h6⟩:=go #[] trivial;refine⟨u,?_,h6⟩;rw[<- h5];simp only[Instr.lookup,Sem.run_bind,run_underlying hu,Result.andThen_ok,Sem.run_pure];rfl
 ·have Qe:=hm.Z3
  rw[Qe.2.2 _ Ma];obtain⟨_,_,te,clk,h7,h8⟩:=hS.obj _ _ Ma
  obtain⟨u,h5,h6⟩:=go te h8;refine⟨u,?_,h6⟩;rw[<- h5];have hg:(getObj (φ id).1).run P w= .ok (.map te clk) w:=by simp[getObj,Sem.run,h7]
  simp only[Instr.lookup,Sem.run_bind,run_underlying hu,Result.andThen_ok,hg,Sem.run_pure];rfl
theorem Ol.push{es:List (PV×PV)}{xs:List MapEntry}{e:PV×PV}{x:MapEntry}(h:Ol R es xs)(h1:Na R e.1 x.key)(h2:Na R e.2 x.val):Ol R (es++[e]) (xs++[x]):=by
 induction es generalizing xs with
 |nil=>cases xs with
  |nil=>exact⟨h1,h2,trivial⟩
  |cons=>exact h.elim
 |cons a as ih=>cases xs with
  |nil=>exact h.elim
  |cons y ys=>exact⟨h.1,h.2.1,ih h.2.2⟩
theorem Ol.set{es:List (PV×PV)}{xs:List MapEntry}{e:PV×PV}{x:MapEntry}(h:Ol R es xs)(h1:Na R e.1 x.key)(h2:Na R e.2 x.val):∀ i,Ol R (es.set i e) (xs.set i x):=by
 induction es generalizing xs with
 |nil=>intro i;cases xs with
  |nil=>trivial
  |cons=>exact h.elim
 |cons a as ih=>intro i;cases xs with
  |nil=>exact h.elim
  |cons y ys=>cases i with
   |zero=>exact⟨h1,h2,h.2.2⟩
   |succ i=>exact⟨h.1,h.2.1,ih h.2.2 i⟩
def XB(w:World)(b:Nat)(te:Array MapEntry)(clk:Nat):World:={w with heap:=w.heap.setIfInBounds b (.map te clk)}
theorem C3(hS:Lb fo B0 w R φ H){t:TypeId}{kd:Kd}(h1:MB P t kd=true){id:Nat}{k x:PV}{vm vk vx:Value}(hm:Yb fo (K R φ H) (.mp id) vm)(hk:Na R k vk)(hx:Na R x vx){es:List (PV×PV)}
 (Ma:H[id]? =some (.map es)) (Wl:(Sf kd k k).isSome=true) {r:Option (Nat×PV)} (hf:Rj kd k es 0=some r):
 ∃ w' φ',(Instr.mapUpdate t vm vk vx).run P w= .ok () w'/\Lb fo B0 w' R φ' (H.set id (.map (match r with | some (i,_)=>es.set i (k,x) | none=>es++[(k,x)])))/\
  (∀ a u,K R φ H a u->K R φ' (H.set id (.map (match r with | some (i,_)=>es.set i (k,x) | none=>es++[(k,x)]))) a u)/\Od B0 w w':=by
 obtain⟨kt,e,hu,Bu⟩:=Z2 h1;obtain⟨b,hb⟩:=LK.1 Wl
 have Qe:=hm.Z3
 rw[Qe.2.2 _ Ma];obtain⟨o1,o2,te,clk,h7,h8⟩:=hS.obj _ _ Ma
 have hc:=KW (w:=w) Bu hk hb false;obtain⟨r',h3,h4⟩:=eY (w:=w) Bu hk h8 hf;have hlt:(φ id).1 < w.heap.size:=by
  rcases yd (φ id).1 w.heap.size with hlt | hge
  ·exact hlt
  ·rw[NJ hge] at h7;cases h7
 have hg:(getObj (φ id).1).run P w= .ok (.map te clk) w:=by simp[getObj,Sem.run,h7]
 have Cj:∀ o,(setObj (φ id).1 o).run P w= .ok () {w with heap:=w.heap.setIfInBounds (φ id).1 o}:=fun o=>by simp[setObj,Sem.run,h7]
 have heap:∀ {ents':Array MapEntry}{clk' j:Nat},j≠(φ id).1->(XB w (φ id).1 ents' clk').heap[j]? =w.heap[j]? :=by intro ents' clk' j hj;simp only[XB];rw[Array.getElem?_setIfInBounds_ne (tf hj)]
 have fin:∀ (ents':Array MapEntry)(clk':Nat)(es':List (PV×PV)),Ol R es' ents'.toList->(Instr.mapUpdate t (.map (some (φ id).1)) vk vx).run P w= .ok () (XB w (φ id).1 ents' clk')->
  ∃ w' φ',(Instr.mapUpdate t (.map (some (φ id).1)) vk vx).run P w= .ok () w'/\Lb fo B0 w' R φ' (H.set id (.map es'))/\(∀ a u,K R φ H a u->K R φ' (H.set id (.map es')) a u)/\Od B0 w w':=by
  intro ents' clk' es' hM jd;have Wl:=fun a v=>K.map_set (R:=R) (φ:=φ) (c':=es') Ma a v
  refine⟨_,Zc φ id (φ id),jd,?_,Wl,.ON h7 rfl rfl rfl rfl (by simp[XB]) o1 hS.slt (hS.free id ⟨_,Ma,trivial⟩) fun k _ Va=>heap Va⟩;refine hS.Zc (w':=XB w (φ id).1 ents' clk') Ma (by simp[XB]) (fun b hb Va=>heap (Va trivial)) (fun _ _ _ _=>rfl) (fun b o v hv=> ?_) Wl (fun _=> .inl ⟨trivial,rfl⟩) ?_
  ·rw[Vk (heap (fun e=>by subst e;rw[o2] at hv;cases hv))];exact hS.sub b o v hv
  ·refine⟨by rw[Ye];exact o1,by rw[Ye];exact o2,ents',clk',?_,hM⟩
   rw[Ye];simp[XB,hlt]
 cases r with
 |none=>
  cases r' with
  |some=>exact h4.elim
  |none=>
   refine fin (te.push {key:=vk,val:=vx,born:=clk}) (clk+1) (es++[(k,x)]) ?_ ?_
   ·simpa using h8.push (e:=(k,x)) (x:={key:=vk,val:=vx,born:=clk}) hk hx
   ·simp only[Instr.mapUpdate,Sem.run_bind,run_underlying hu,Result.andThen_ok,hg,hc,h3]
    rw[Cj];rfl
 |some r=>
  cases r' with
  |none=>exact h4.elim
  |some r'=>
   obtain⟨a,p⟩:=r;obtain⟨i,u⟩:=r';obtain⟨rfl,j,e',x',hj,sy,Dk,_,_,_,tB,heq⟩:=h4;have hj':a=j:=by omega
   subst hj';obtain⟨pak,CB⟩:=iae hk tB heq;have hge:te[a]? =some x':=by simpa using Dk
   refine fin (te.modify a fun e=>{e with key:=vk,val:=vx}) clk (es.set a (k,x)) ?_ ?_
   ·have Xai:(te.modify a fun e=>{e with key:=vk,val:=vx}).toList=te.toList.set a {x' with key:=vk,val:=vx}:=by
     apply Nl;intro q;rw[Array.getElem?_toList,vC,List.getElem?_set]
     by_cases hq:a=q
     ·subst hq
      have By:a < te.size:=by simpa using getElem?_lt Dk
      have hga:te[a]=x':=by rw[MJ By] at hge;injection hge
      simp[hge,By,hga]
     ·simp[hq]
    rw[Xai];exact h8.set (e:=(k,x)) (x:={x' with key:=vk,val:=vx}) hk hx a
   ·have VS:(Instr.keyThatStays x'.key vk).run P w= .ok vk w:=by
     have:=CB 9998;rw[<- pak] at this ⊢;simp only[Instr.keyThatStays];rw[if_pos this];simp
    simp only[Instr.mapUpdate,Sem.run_bind,run_underlying hu,Result.andThen_ok,hg,hc,h3,hge,Vc,ov,VS];rw[Cj];rfl
theorem RX{t:TypeId}(hg:P.eqGuardType P.depth t=false)(op:BinOp)(ox oy:Operand){p q:PV}{v u:Value}{kd:Kd}(hp:Na R p v)(hq:Na R q u){b:Bool}(h:Sf kd p q=some b):(eqGuard op t ox oy v u).run P w= .ok () w:=by
 have Ps:∀ xs ys,(eqGuard op t ox oy (.agg xs) (.agg ys)).run P w= .ok () w:=by intro xs ys;cases op <;> simp[eqGuard,hg,Go.program,Sem.run]
 unfold Sf at h
 split at h
 ·rcases OX h with⟨_,c,d,rfl,rfl,_⟩ | ⟨_,i,c,d,rfl,rfl,_⟩ | ⟨_,c,d,rfl,rfl,_⟩ <;> cases hp <;> cases hq <;> cases op <;> rfl
 ·cases hp;cases hq;exact Ps _ _
 ·cases h
theorem K.kill{id:Nat}{o:fa}(Ma:H[id]? =some o)(a:AV)(v:Value)(hk:K R φ H a v):K R (Zc φ id (φ id)) (H.set id .dead) a v:=by
 have hl:(H.set id .dead).length=H.length:=by simp
 have inv:∀ {i:Nat}{x:fa},(H.set id .dead)[i]? =some x->x≠ .dead->i≠id/\H[i]? =some x:=by
  intro i x hx hd
  by_cases e:i=id
  ·subst e;rw[Of (getElem?_lt Ma)] at hx;injection hx with hx;exact absurd hx.symm hd
  ·rw[ze (tf e)] at hx;exact⟨e,hx⟩
 cases a with
 |pv p=>exact hk
 |ptr i off=>exact⟨by rw[hl];exact hk.1,hk.2.1,fun c hc=>by obtain⟨q1,q2⟩:=inv hc (by simp);rw[Nf _ _ q1];exact hk.2.2 c q2⟩
 |Sb i n off=>exact⟨by rw[hl];exact hk.1,hk.2.1,fun sz ag c fl nl hc=>by obtain⟨q1,q2⟩:=inv hc (by simp);rw[Nf _ _ q1];exact hk.2.2 _ _ _ _ _ q2⟩
 |uq i nl sz es=>exact⟨by rw[hl];exact hk.1,hk.2.1,hk.2.2.1,fun sz n nl hc=>by obtain⟨q1,q2⟩:=inv hc (by simp);rw[Nf _ _ q1];exact hk.2.2.2 _ _ _ q2⟩
 |own i n=>exact⟨by rw[hl];exact hk.1,hk.2.1,fun sz ag c fl nl hc=>by obtain⟨q1,q2⟩:=inv hc (by simp);rw[Nf _ _ q1];exact hk.2.2 _ _ _ _ _ q2⟩
 |mp i=>exact⟨by rw[hl];exact hk.1,hk.2.1,fun es hc=>by obtain⟨q1,q2⟩:=inv hc (by simp);rw[Nf _ _ q1];exact hk.2.2 _ q2⟩
 |Ec=>exact hk.elim
 |agg=>exact hk.elim
 |Ba=>exact hk.elim
 |undef=>exact hk.elim
theorem Eap{o:Oper}{a:Act}{s:TypeId}{x:Operand}(ho:o.op= .convert s s x)(hS:Lb fo B0 w R φ H){id n:Nat}{es:List PV}(hr:Yb fo (K R φ H) (.uq id false 1 es) (a.eval x))(Ma:H[id]? =some (.tok 1 n false))(hn:n=es.length)
 (hsl:(match Bl P s with | some el=>JB P el | none=>false)=true):nv P fo B0 o a w R φ H (.pv (.lit 1 es)) (H.set id .dead):=by
 cases gf:Bl P s with
 |none=>simp[gf] at hsl
 |some el=>
  simp only[gf] at hsl;have hu:=rC gf;have he:P.underlying el=some (.int .u8):=by
   unfold JB at hsl
   split at hsl
   ·assumption
   ·cases hsl
  have hk:=hr.Tw
  obtain⟨_,hk4⟩:=hk.2.2.2 _ _ _ Ma
  obtain⟨_,_,hv⟩:=hk4 hn;have hv:=hv rfl;have hp:=hk.2.2.1 rfl
  obtain⟨h0,_,h3⟩:=hS.obj _ _ Ma
  obtain⟨o1,o2,arr,⟨ty,fz,hb,hf⟩,o4,o5⟩:=h3 rfl;have hlt:(φ id).1 < w.heap.size:=xg.lt ⟨ty,fz,hb,hf⟩
  have Vai:(convert s s (a.eval x)).run P w= .ok (a.eval x) (w.freeze ⟨(φ id).1,arr.size,none⟩ 1):=by rw[hv];simp[convert,run_underlying hu,run_underlying he,markStringish,World.shape?,hb]
  intro next Q pI
  unfold Oper.wp
  have:(execOp a.eval o).run P w= .ok (.value (a.eval x)) (w.freeze ⟨(φ id).1,arr.size,none⟩ 1):=by simp[execOp,ho,Vai]
  rw[this];have heap:∀ {j:Nat},j≠(φ id).1->(w.freeze ⟨(φ id).1,arr.size,none⟩ 1).heap[j]? =w.heap[j]? :=by intro j hj;simp only[World.freeze];rw[qa (by omega)];simp[vC,tf hj]
  have self:∃ xM,(w.freeze ⟨(φ id).1,arr.size,none⟩ 1).heap[(φ id).1]? =some (.cells arr ty xM):=by simp only[World.freeze];rw[qa (by omega)];rw[vC,if_pos rfl,hb];exact⟨_,rfl⟩
  obtain⟨xM,self⟩:=self;have cell:∀ b o,(w.freeze ⟨(φ id).1,arr.size,none⟩ 1).cell? ⟨b,o,none⟩=w.cell? ⟨b,o,none⟩:=by
   intro b o
   by_cases e:b=(φ id).1
   ·subst e;simp[World.cell?,self,hb]
   ·exact Vk (heap e)
  have ib:(w.freeze ⟨(φ id).1,arr.size,none⟩ 1).heap.size=w.heap.size:=by simp only[World.freeze];rw[qa (by omega)];simp
  have Wl:=fun a v=>K.kill (R:=R) (φ:=φ) Ma a v
  refine pI _ _ R (Zc φ id (φ id)) ?_ (.atom _ _ (show Na R _ _ from hp)) Wl ?_
  ·exact hS.Zc (w':=w.freeze ⟨(φ id).1,arr.size,none⟩ 1) Ma (by rw[ib];exact gb _) (fun b hb Va=>heap (Va rfl)) (fun _ _ _ _=>rfl) (fun b o v h=>by rw[cell];exact hS.sub b o v h) Wl (fun h=>h.elim) trivial
  ·refine .ON hb rfl ?_ ?_ ?_ (by rw[ib];exact gb _) o1 hS.slt (hS.free id ⟨_,Ma,rfl⟩) (fun k _ Va=>heap Va) <;> (simp only[World.freeze];rw[qa (by omega)])
end
section ops
variable {P:Program}{fo:Nat->FuncId}{B0:qd}{w:World}{R:Rd}{φ:Pl}{H H':List fa}{e:Tr}{a:Act}{call:Ab}
theorem F6{v:AV}{u:Value}(h:Yb fo (K R φ H) v u):Yb fo (K R φ H) v.xi u:=by
 cases v with
 |uq id nl sz es=>
  have hk:=h.Tw
  cases nl with
  |true=>rw[(hk.2.1 rfl).1];exact .atom _ _ (show Na R _ _ from .oa)
  |false=>exact .atom _ _ (show Na R _ _ from hk.2.2.1 rfl)
 |_=>exact h
theorem G6:∀ {cs:List AV}{vs:List Value},Qb fo (K R φ H) cs vs->Qb fo (K R φ H) (cs.map AV.xi) vs
 | [],_,.nil=> .nil
 |_::_,_,.cons _ _ _ _ h1 h2=> .cons _ _ _ _ (F6 h1) (G6 h2)
theorem oao{v:AV}{u:Value}(h:Yb fo (K R φ H) v u):Yb fo (K R φ H) v.Mi u:=by
 cases v with
 |agg cs=>
  cases h with
  |atom _ _ h=>exact h.elim
  |agg _ vs h=>exact IN (G6 h)
 |uq id nl sz es=>exact F6 h
 |_=>exact h
theorem U4(hE:ye fo (K R φ H) e a){sz:Nat}:∀ {ba:List (Nat×Operand)}{aparts:List (Nat×AO)},dF fo ba aparts=true->
 (ba.map fun p=>(p.1,a.eval p.2)).length=(aparts.map fun p=>(p.1 * sz,sz,mh e p.2)).length/\
 ∀ (j:Nat)(i:Nat)(v:Value)(off s:Nat)(x:AV),(ba.map fun p=>(p.1,a.eval p.2))[j]? =some (i,v)->(aparts.map fun p=>(p.1 * sz,sz,mh e p.2))[j]? =some (off,s,x)->off=i * sz/\s=sz/\Yb fo (K R φ H) x v
 | [],[],_=>⟨rfl,fun j i v off s x h=>by simp at h⟩
 | (i,x)::xs,(j,y)::ys,h=>by
   simp only[dF,fb,beq_iff_eq] at h;obtain⟨⟨rfl,h1⟩,h2⟩:=h;obtain⟨q1,q2⟩:=U4 hE (sz:=sz) h2;refine⟨by simpa using q1,fun k i' v off s z e1 e2=> ?_⟩;cases k with
   |zero=>simp at e1 e2;obtain⟨rfl,rfl⟩:=e1;obtain⟨rfl,rfl,rfl⟩:=e2;exact⟨rfl,rfl,oao (ud hE h1)⟩
   |succ k=>exact q2 k i' v off s z (by simpa using e1) (by simpa using e2)
 | [],_::_,h=>by simp[dF] at h
 |_::_,[],h=>by simp[dF] at h
theorem x5(hE:ye fo (K R φ H) e a){x:Option Operand}{y:Option AO}(h:QN fo x y=true):(x=none/\y=none)\/∃ x' y',x=some x'/\y=some y'/\Yc fo x' y'=true:=by
 cases x <;> cases y <;> simp[QN] at h
 ·exact .inl ⟨rfl,rfl⟩
 ·exact .inr ⟨_,_,rfl,rfl,h⟩
theorem JV{ag:Bool}{x:Bool}(h:(!ag||x)=true):ag=true->x=true:=by
 intro e;subst e;simpa using h
theorem SV(hS:Lb fo B0 w R φ H){x:AV}{vx:Value}(hx:Yb fo (K R φ H) x vx){s:ByteArray}(h:Ut H x=some s):(∃ sa sl sc,vx= .slice sa sl sc)/\(Conv.bytesToString vx).run P w= .ok (.string s) w:=by
 have lits:∀ {es:List PV}{l:List UInt8},Na R (.lit 1 es) vx->bytesOf es=some l->s=⟨l.toArray⟩->(∃ sa sl sc,vx= .slice sa sl sc)/\(Conv.bytesToString vx).run P w= .ok (.string s) w:=by intro es l hp hb hs;subst hs;refine⟨?_,TV hS hp hb⟩;cases hp <;> exact⟨_,_,_,rfl⟩
 have oa:vx= .slice none 0 0->s=ByteArray.empty->(∃ sa sl sc,vx= .slice sa sl sc)/\(Conv.bytesToString vx).run P w= .ok (.string s) w:=by rintro rfl rfl;exact⟨⟨_,_,_,rfl⟩,by simp[Conv.bytesToString]⟩
 unfold Ut at h
 split at h
 ·injection h with h
  have:=hx.xd
  cases this;exact oa rfl h.symm
 ·simp only[dc] at h
  obtain⟨l,h1,h2⟩:=h;exact lits hx.xd h1 h2.symm
 ·rename_i id nl es
  simp only[dc] at h;obtain⟨l,h1,h2⟩:=h;have hk:=hx.Tw
  cases nl with
  |true=>
   obtain⟨rfl,rfl⟩:=hk.2.1 rfl
   simp[bytesOf] at h1;subst h1;exact oa rfl h2.symm
  |false=>exact lits (hk.2.2.1 rfl) h1 h2.symm
 ·rename_i id len
  have hk:=hx.ZI
  split at h
  ·rename_i sz ag c fl nl hc
   split at h
   ·rename_i Ts
    obtain⟨rfl,nB⟩:=Ts;obtain⟨k0,k⟩:=hk.2.2 _ _ _ _ _ hc
    obtain⟨o0,o1,o2,o3,o4⟩:=hS.obj _ _ hc
    obtain⟨k1,k2⟩:=k (by omega);cases nl with
    |true=>simp only[if_true,xb] at h;exact oa (k1 rfl) h.symm
    |false=>
     simp only[Sc,if_false,dc,Hd] at h;obtain⟨l,⟨ps,hps,hl⟩,rfl⟩:=h;rcases k2 rfl with⟨q1,q2,_⟩ | ⟨b,o,cap,q1,q2,_⟩
     ·subst q1;exact absurd (Ze (by omega)) q2
     ·obtain⟨rfl,rfl,rfl⟩:=q2 nB
      subst q1;obtain⟨_,_,arr,p3,p4,p5,p6⟩:=o4 rfl;have h7:=Tt hps p6;obtain⟨ns,e1,rfl⟩:=xW hl h7;refine⟨⟨_,_,_,rfl⟩,?_⟩;have hlen:(ns.map (Value.int .u8)).length=len:=by rw[<- e1,ij];simp;omega
      have:=run_bytesToString (P:=P) w ⟨(φ id).1,0,none⟩ len (φ id).2 ns (by
       have:=pJ (P:=P) (w:=w) (b:=(φ id).1) (o:=0) (vs:=ns.map (Value.int .u8)) (fun j v hj=>by
        rw[De,p3.cell];rw[<- e1,wm] at hj
        split at hj
        ·simpa using hj
        ·cases hj) hlen
       simpa using this)
      rw[this]
      congr 2
      have h4:=foldl_push ns ByteArray.empty
      generalize ns.foldl (fun r n=>r.push (UInt8.ofNat n.toNat)) ByteArray.empty=z at h4
      obtain⟨⟨z⟩⟩:=z;simp at h4;subst h4;rfl
   ·cases h
  ·cases h
 ·cases h
theorem Naa(hS:Lb fo B0 w R φ H){x:AV}{vx:Value}(hx:Yb fo (K R φ H) x vx){s:ByteArray}(h:Ut H x=some s):∃ sa sl sc,vx= .slice sa sl sc:=(SV (P:=default) hS hx h).1
theorem Maa(hS:Lb fo B0 w R φ H){x:AV}{vx:Value}(hx:Yb fo (K R φ H) x vx){s:ByteArray}(h:Ut H x=some s):(Conv.bytesToString vx).run P w= .ok (.string s) w:=(SV hS hx h).2
theorem Kab(hE:ye fo (K R φ H) e a){pl:Nat->Option (Nat×Nat)}:∀ {xs:List (Nat×Operand)}{ys:List (Nat×Nat×AO)},Zy pl fo xs ys=true->(xs.map fun p=>(p.1,a.eval p.2)).length=(ys.map fun p=>(p.1,p.2.1,p.2.2.ev e)).length/\
 ∀ (j:Nat)(i:Nat)(v:Value)(off s:Nat)(x:AV),(xs.map fun p=>(p.1,a.eval p.2))[j]? =some (i,v)->(ys.map fun p=>(p.1,p.2.1,p.2.2.ev e))[j]? =some (off,s,x)->pl i=some (off,s)/\Yb fo (K R φ H) x v:=by
 intro xs
 induction xs with
 |nil=>
  intro ys h;cases ys with
  |nil=>exact⟨rfl,fun j i v off s x h=>by simp at h⟩
  |cons y ys=>simp[Zy] at h
 |cons x xs ih=>
  intro ys h;cases ys with
  |nil=>simp[Zy] at h
  |cons y ys=>
   obtain⟨i,x⟩:=x;obtain⟨off,sz,y⟩:=y;simp only[Zy,fb,beq_iff_eq] at h;obtain⟨q1,q2⟩:=ih h.2
   refine⟨by simpa using q1,fun k i' v off' s z e1 e2=> ?_⟩;cases k with
   |zero=>simp at e1 e2;obtain⟨rfl,rfl⟩:=e1;obtain⟨rfl,rfl,rfl⟩:=e2;exact⟨h.1.1,ud hE h.1.2⟩
   |succ k=>exact q2 k i' v off' s z (by simpa using e1) (by simpa using e2)
theorem vW(hS:Lb fo B0 w R φ H)(hE:ye fo (K R φ H) e a){t:TypeId}{pl:Nat->Option (Nat×Nat)}{ba:Array (Nat×Operand)}{aparts:List (Nat×Nat×AO)}{zero:List PV}
 (hu:(∃ fs:Array Field,P.underlying t=some (.struct fs)/\(fs.all fun f=>(Sd P f.type).isSome)=true/\pl=fun i=>fs[i]?.map fun f=>(f.offset,(Sd P f.type).getD 0))\/∃ n el k,P.underlying t=some (.array n el)/\Sd P el=some k/\pl=fun i=>some (i * k,k))
 (hb:Zy pl fo ba.toList aparts=true) (hz:Vw P t zero=true) {cs:List AV} (hf:cn (zero.map .pv) (aparts.map fun p=>(p.1,p.2.1,p.2.2.ev e))=some cs):
 Ug fo B0 w R φ H P (Instr.build t (ba.map fun (i,x)=>(i,a.eval x))) (mq cs) H:=by
 unfold Vw at hz;cases hi:P.info? t with
 |none=>simp[hi] at hz
 |some i=>
  simp only[hi] at hz;cases Vj:i.zero with
  |none=>simp[Vj] at hz
  |some z=>
   simp only[Vj] at hz;obtain⟨h1,h2⟩:=FH (R:=R) hz;obtain⟨s1,s2⟩:=Kab hE hb;obtain⟨ph,r1,r2⟩:=MR (fo:=fo) (R:=R) (φ:=φ) (H:=H) pl (cs:=z.cells) s1 s2 (Qb.RB h1) hf;have OZ:(ba.map fun (i,x)=>(i,a.eval x)).toList=ba.toList.map fun p=>(p.1,a.eval p.2):=by simp
   refine Je.same (.agg ph) hS ?_ (by simpa using IN r2)
   rcases hu with⟨fs,hu,Rh,rfl⟩ | ⟨n,el,k,hu,hk,rfl⟩
   ·have xc:∀ (l:List Field),(∀ f∈l,(Sd P f.type).isSome=true)->(l.mapM fun f=>(do pure (f.offset,<-sizeOf f.type):Sem (Nat×Nat))).run P w= .ok (l.map fun f=>(f.offset,(Sd P f.type).getD 0)) w:=by
     intro l
     induction l with
     |nil=>intro _;simp
     |cons f l ih=>
      intro hl;obtain⟨n,hn⟩:=LK.1 (hl f (by simp))
      rw[List.mapM_cons];simp only[Sem.run_bind,qj hn,Result.andThen_ok,Sem.run_pure,ih (fun g hg=>hl g (by simp[hg]))];simp[hn]
    have Caj:(fs.mapM fun f=>(do pure (f.offset,<-sizeOf f.type):Sem (Nat×Nat))).run P w= .ok (fs.map fun f=>(f.offset,(Sd P f.type).getD 0)) w:=by
     have:=xc fs.toList (fun f hf=>by
      rw[Array.all_eq_true] at Rh;obtain⟨i,hi,rfl⟩:=List.mem_iff_getElem.1 hf
      simpa using Rh i (by simpa using hi))
     rw[Array.mapM_eq_mapM_toList];simp only[Sem.run_map,this,Result.andThen_ok];exact congrArg (fun x=>Result.ok x w) (by apply Pk;simp)
    have Hc:(fun i:Nat=>(fs.map fun (f:Field)=>(f.offset,(Sd P f.type).getD 0))[i]?)=fun i:Nat=>fs[i]?.map fun (f:Field)=>(f.offset,(Sd P f.type).getD 0):=by funext i;simp
    rw[<- Hc] at r1;simp only[Instr.build,Sem.run_bind,zeroValue,run_typeInfo w hi,Result.andThen_ok,Vj,Sem.run_pure,run_underlying hu,Caj,OZ,r1]
   ·simp only[Instr.build,Sem.run_bind,zeroValue,run_typeInfo w hi,Result.andThen_ok,Vj,Sem.run_pure,run_underlying hu,qj hk,OZ,r1]
theorem Taq{t:TypeId}{f off:Nat}(h:(match tz P t f with | some fd=>fd.offset==off&&(match Sd P fd.type with | some n=>n != 0 | none=>false) | none=>false)=true):
 ∃ fs fd n,P.underlying t=some (.struct fs)/\fs[f]? =some fd/\fd.offset=off/\Sd P fd.type=some n/\n≠0:=by
 cases hs:tz P t f with
 |none=>simp[hs] at h
 |some fd=>
  simp only[hs,fb,beq_iff_eq] at h;obtain⟨h1,h2⟩:=h;unfold tz at hs
  split at hs
  ·rename_i fs hu
   cases hn:Sd P fd.type with
   |none=>simp[hn] at h2
   |some n=>simp[hn] at h2;exact⟨fs,fd,n,hu,hs,h1,hn,h2⟩
  ·cases hs
theorem Lae{t:TypeId}{f off n:Nat}{ag:Bool}(h:(match tz P t f with | some fd=>fd.offset==off&&zg P fd.type==some ag&&(!ag||Sd P fd.type==some n) | none=>false)=true):
 ∃ fs fd,P.underlying t=some (.struct fs)/\fs[f]? =some fd/\fd.offset=off/\zg P fd.type=some ag/\(ag=true->Sd P fd.type=some n):=by
 cases hs:tz P t f with
 |none=>simp[hs] at h
 |some fd=>
  simp only[hs,fb,beq_iff_eq] at h;obtain⟨⟨h1,h2⟩,h3⟩:=h;unfold tz at hs
  split at hs
  ·rename_i fs hu
   exact⟨fs,fd,hu,hs,h1,h2,fun e=>by simpa using JV h3 e⟩
  ·cases hs
theorem Iaa{t:TypeId}{n sz:Nat}(h:(match P.underlying t with | some (.array n' el)=>n'==n&&Sd P el==some sz | _=>false)=true):∃ el,P.underlying t=some (.array n el)/\Sd P el=some sz:=by
 split at h
 ·rename_i n' el hu
  simp at h;obtain⟨rfl,h⟩:=h;exact⟨el,hu,h⟩
 ·cases h
theorem Gaa{t:TypeId}{n sz:Nat}{ag:Bool}(h:(match P.underlying t with | some (.array n' el)=>n'==n&&Sd P el==some sz&&zg P el==some ag | _=>false)=true):∃ el,P.underlying t=some (.array n el)/\Sd P el=some sz/\zg P el=some ag:=by
 split at h
 ·rename_i n' el hu
  simp at h;obtain⟨⟨rfl,h⟩,h2⟩:=h;exact⟨el,hu,h,h2⟩
 ·cases h
theorem iW(mx:Bool){xs:List AV}{vs:List Value}{p:PV}(hl:Qb fo (K R φ H) xs vs)(hb:Tk mx xs=some p):
 ∃ v0 rest v,vs=v0::rest/\(rest.foldlM (if mx then Builtin.max2 else Builtin.min2) v0).run P w= .ok v w/\Na R p v:=by
 unfold Tk at hb
 split at hb
 ·rename_i k x r
  cases hl with
  |cons _ _ v vs h1 h2=>rw[xj h1 rfl];obtain⟨u,q1,q2⟩:=nW (P:=P) (w:=w) mx h2 hb;exact⟨_,_,u,rfl,q1,q2⟩
 ·cases hb
theorem Xab(s:ByteArray)(i:Nat):s[i]? =s.data.toList[i]? :=by
 by_cases h:i < s.size
 ·rw[getElem?_pos s i h]
  have h2:i < s.data.toList.length:=by rw[wC];exact h
  rw[Rb h2];rfl
 ·rw[getElem?_neg s i h]
  have h2:¬i < s.data.toList.length:=by rw[wC];exact h
  rw[dh (by omega)]
set_option maxHeartbeats 1000000 in
theorem lae{o:Oper}{op:Op}{Mq:Ka}{v:AV}(ho:o.op=op)(ga:VI P fo op Mq=true)(hS:Lb fo B0 w R φ H)(hE:ye fo (K R φ H) e a)(Da:Ja call e H Mq=some (v,H')):
 nv P fo B0 o a w R φ H v H':=by
 unfold VI at ga
 split at ga
 case h_1 x y=>simp[Ja] at Da;obtain⟨rfl,rfl⟩:=Da;exact .Nu hS (by simp[execOp,ho]) (ud hE ga)
 case h_2 x y=>simp[Ja] at Da;obtain⟨rfl,rfl⟩:=Da;exact .Nu hS (by simp[execOp,ho]) (ud hE ga)
 case h_3 c x y c' x' y'=>
  simp only[fb] at ga;simp only[Ja,Hd] at Da;obtain⟨t,h1,h2⟩:=Da;simp at h2;obtain⟨rfl,rfl⟩:=h2;have hc:=CP (ud hE ga.1.1) h1;refine .Nu (v':=if t then a.eval x else a.eval y) hS (by simp[execOp,ho,hc,Go.asBool]) ?_
  cases t
  ·exact ud hE ga.2
  ·exact ud hE ga.1.2
 case h_4 t zero=>simp[Ja] at Da;obtain⟨rfl,rfl⟩:=Da;exact .yh (by simp[execOp,ho]) (paa hS ga)
 case h_5 t x n y=>
  simp only[Ja] at Da
  split at Da
  ·rename_i hc
   simp at Da;obtain⟨rfl,rfl⟩:=Da;exact .yh (by simp[execOp,ho]) (wab (t:=t) hS (ud hE ga) hc.2)
  ·cases Da
 case h_6 t ba zero aparts=>
  simp only[fb] at ga;obtain⟨h1,h2⟩:=ga;simp only[Ja,dc,Jb] at Da;obtain⟨cs,hf,rfl,rfl⟩:=Da;cases hu:P.underlying t with
  |none=>simp[hu] at h1
  |some d=>
   cases d with
   |struct fs=>simp only[hu,fb] at h1;exact .yh (s:=Instr.build t (ba.map fun (i,x)=>(i,a.eval x))) (by simp[execOp,ho]) (vW hS hE (.inl ⟨fs,hu,h1.2,rfl⟩) h1.1 h2 hf)
   |array n el=>
    cases hk:Sd P el with
    |none=>simp[hu,hk] at h1
    |some k=>simp only[hu,hk] at h1;exact .yh (s:=Instr.build t (ba.map fun (i,x)=>(i,a.eval x))) (by simp[execOp,ho]) (vW hS hE (.inr ⟨n,el,k,hu,hk,rfl⟩) h1 h2 hf)
   |_=>simp[hu] at h1
 case h_7 t len ba hh sz ag len' zero aparts=>
  simp only[fb,beq_iff_eq,decide_eq_true_eq] at ga;obtain⟨⟨⟨h1,rfl⟩,h2⟩,h3⟩:=ga;cases gf:Bl P t with
  |none=>simp[gf] at h1
  |some el=>
   simp only[gf] at h1;simp only[Ja,Hd] at Da;obtain⟨cs,hf,hfr⟩:=Da
   split at hfr
   ·rename_i mf
    obtain⟨q1,q2⟩:=U4 hE (sz:=sz) h3;have:=yab (fo:=fo) (B0:=B0) hS (rC gf) (T4 h1) h2 q1 q2 hf mf hfr;refine .yh (s:=Instr.buildSlice t len (ba.map fun (i,x)=>(i,a.eval x))) (by simp[execOp,ho]) ?_
    have hp:(ba.map fun (i,x)=>(i,a.eval x))=(ba.toList.map fun p=>(p.1,a.eval p.2)).toArray:=by apply Pk;simp
    rw[hp];exact this
   ·cases hfr
 case h_8 t x ag n y=>
  simp only[fb,beq_iff_eq] at ga;simp only[Ja,dc,Jb] at Da;obtain⟨u,hl,rfl,rfl⟩:=Da;obtain⟨vv,h1,h2⟩:=R2 (P:=P) hS (ud hE ga.2) ga.1.1 (fun e=>by simpa using JV ga.1.2 e) hl
  exact .yh (s:=Instr.loadAt t (a.eval x)) (by simp[execOp,ho]) (Je.same vv hS h1 h2)
 case h_9 t p x n q y=>
  simp only[fb,beq_iff_eq] at ga;simp only[Ja,dc,Jb] at Da;obtain⟨H1,hl,rfl,rfl⟩:=Da;obtain⟨w',φ',h1,h2,h3,h4⟩:=car (P:=P) hS (ud hE ga.1.2) (ud hE ga.2) ga.1.1 hl
  intro next Q hn
  unfold Oper.wp
  have:(execOp a.eval o).run P w= .ok .skip w':=by simp[execOp,ho,h1]
  rw[this];exact hn undef w' R φ' h2 (.atom _ _ (show Na R _ _ from .Ba [] [] .nil)) h3 h4
 case h_10 x y=>
  simp only[Ja] at Da;have hx:=ud (R:=R) (φ:=φ) (H:=H) hE ga;generalize AO.ev e y=z at Da hx
  obtain⟨vx,dt⟩:∃ vx,a.eval x=vx:=⟨_,rfl⟩
  rw[dt] at hx
  split at Da
  ·rename_i ix caps
   simp at Da;obtain⟨rfl,rfl⟩:=Da;have hx2:=hx;cases hx2 with
   |atom _ _ h=>exact h.elim
   |Ec _ _ vs h=>
    refine .Nu hS ?_ hx
    simp[execOp,ho,dt]
  ·simp only[dc,Jb] at Da
   obtain⟨u,hp,rfl,rfl⟩:=Da;obtain⟨b,o',h1,h2⟩:=BU hS hx hp;have:=bao hp;subst this;refine .Nu hS ?_ hx
   simp[execOp,ho,dt,h1]
 case h_11 op' t x y t' op x' y'=>simp only[fb,decide_eq_true_eq] at ga;obtain⟨⟨rfl,h1⟩,h2⟩:=ga;simp only[Ja,dc,Jb] at Da;obtain⟨p,hp,rfl,rfl⟩:=Da;obtain⟨u,q1,q2⟩:=eab (P:=P) (w:=w) (ud hE h1) (ud hE h2) hp t x y;exact .yh (s:=do eqGuard op' t x y (a.eval x) (a.eval y);binOp op' t (a.eval x) (a.eval y)) (by simp[execOp,ho]) (Je.same u hS q1 (.atom _ _ q2))
 case h_12 t x y t' k x' y'=>
  simp only[fb,beq_iff_eq] at ga;simp only[Ja,dc,Jb] at Da;obtain⟨b,hb,rfl,rfl⟩:=Da;have:=UX ga.1.1 hS (ud hE ga.1.2) (ud hE ga.2) hb .eql (.inl rfl) x y
  exact .yh (s:=do eqGuard .eql t x y (a.eval x) (a.eval y);binOp .eql t (a.eval x) (a.eval y)) (by simp[execOp,ho]) (Je.same _ hS this (.atom _ _ (by simpa[K] using Na.bool (R:=R) b)))
 case h_13 t x y t' k x' y'=>
  simp only[fb,beq_iff_eq] at ga;simp only[Ja,dc,Jb] at Da;obtain⟨b,hb,rfl,rfl⟩:=Da;have:=UX ga.1.1 hS (ud hE ga.1.2) (ud hE ga.2) hb .neq (.inr rfl) x y
  exact .yh (s:=do eqGuard .neq t x y (a.eval x) (a.eval y);binOp .neq t (a.eval x) (a.eval y)) (by simp[execOp,ho]) (Je.same _ hS this (.atom _ _ (by simpa[K] using Na.bool (R:=R) (!b))))
 case h_14 op' t x op y=>simp only[fb,decide_eq_true_eq] at ga;obtain⟨rfl,h1⟩:=ga;simp only[Ja,dc,Jb] at Da;obtain⟨p,hp,rfl,rfl⟩:=Da;obtain⟨u,q1,q2⟩:=gas (P:=P) (w:=w) (ud hE h1) hp;exact .yh (s:=Op.unary op' (a.eval x)) (by simp[execOp,ho]) (Je.same u hS q1 (.atom _ _ q2))
 case h_15 s d x k y=>
  simp only[fb] at ga;simp only[Ja,dc,Jb] at Da;obtain⟨⟨k',n⟩,hp,rfl,rfl⟩:=Da;have hx:=xj (ud hE ga.2) hp;obtain⟨ds,hds⟩:=LK.1 ga.1.1
  have hd:P.underlying d=some (.int k):=by
   have:=ga.1.2
   unfold J1 at this
   split at this
   ·rename_i k2 h;simp at this;subst this;exact h
   ·cases this
  refine .yh (s:=convert s d (a.eval x)) (by simp[execOp,ho]) (Je.same _ hS ?_ (.atom _ _ (show Na R _ _ from .int _ _)))
  rw[hx];exact Tac hds hd
 case h_16 s d x y=>
  simp only[fb] at ga;obtain⟨⟨h1,h2⟩,h3⟩:=ga;simp only[Ja,dc,Jb] at Da;obtain⟨str,hp,rfl,rfl⟩:=Da;have hx:=ud (R:=R) (φ:=φ) (H:=H) hE h3;cases gf:Bl P s with
  |none=>simp[gf] at h1
  |some el=>
   simp only[gf] at h1;have hs:=rC gf;have hb:P.underlying el=some (.int .u8):=by
    unfold JB at h1
    split at h1
    ·rename_i h;exact h
    ·cases h1
   have hd:P.underlying d=some .string:=by
    unfold TE at h2
    split at h2
    ·rename_i h;exact h
    ·cases h2
   have hr:=Maa (P:=P) hS hx hp;refine .yh (s:=convert s d (a.eval x)) (by simp[execOp,ho]) (Je.same (.string str) hS ?_ (.atom _ _ (show Na R _ _ from .str _)))
   obtain⟨sa,sl,sc,hv⟩:=Naa hS hx hp;rw[hv] at hr ⊢;rw[run_convert_bytes_string w s d el sa sl sc hs hb hd];exact hr
 case h_17 s d x hh y=>
  simp only[fb] at ga;obtain⟨⟨h1,h2⟩,h3⟩:=ga;obtain⟨ds,hds⟩:=LK.1 h1
  simp only[Ja] at Da;have hx:=ud (R:=R) (φ:=φ) (H:=H) hE h3
  split at Da
  ·rename_i b hy
   rw[hy] at hx;obtain⟨vx,dt⟩:∃ vx,a.eval x=vx:=⟨_,rfl⟩
   rw[dt] at hx;have hp:=hx.xd
   cases hp;cases gf:Bl P d with
   |none=>simp[gf] at h2
   |some el=>
    simp only[gf] at h2;have hb:P.underlying el=some (.int .u8):=by
     unfold JB at h2
     split at h2
     ·rename_i h;exact h
     ·cases h2
    exact .yh (s:=convert s d (.string b)) (by simp[execOp,ho,dt]) (Dap hS hds (rC gf) hb Da)
  ·cases Da
 case h_18 f first caps ix ys=>
  simp only[fb,beq_iff_eq] at ga;obtain⟨⟨h1,rfl⟩,h2⟩:=ga;simp[Ja] at Da;obtain⟨rfl,rfl⟩:=Da;have hf:first= #[]:=by simpa using h1
  have:=Yx (R:=R) (φ:=φ) (H:=H) hE h2;refine .yh (s:=Instr.makeFunc (.func (fo ix)) (first.map a.eval) (caps.map a.eval)) (by simp[execOp,ho]) (Je.same (.func (.func (fo ix)) #[] (caps.map a.eval)) hS (by simp[Instr.makeFunc,hf]) ?_)
  have Qah:caps.map a.eval=⟨caps.toList.map a.eval⟩:=by apply Pk;simp
  rw[Qah];exact .Ec _ _ _ this
 case h_19 t l c hh sz ag zero bytes l' c'=>
  simp only[fb,decide_eq_true_eq] at ga;obtain⟨⟨⟨h1,h2⟩,h3⟩,h4⟩:=ga;cases gf:Bl P t with
  |none=>simp[gf] at h1
  |some el=>
   simp only[gf,fb,beq_iff_eq] at h1;simp only[Ja,Hd] at Da;obtain⟨⟨kl,nl⟩,hl,⟨kc,nc⟩,hc,Pe⟩:=Da
   split at Pe
   ·rename_i Ts
    have e1:=xj (ud hE h3) hl;have e2:=xj (ud hE h4) hc;refine .yh (s:=Instr.makeSlice t (a.eval l) (a.eval c)) (by simp[execOp,ho]) ?_
    rw[e1,e2];exact Yal hS (rC gf) (T4 h1.1) h1.2 h2 Ts.1 Ts.2.1 Ts.2.2 Pe
   ·cases Pe
 case h_20 t x lo hi sz y lo' hi'=>
  simp only[fb] at ga;obtain⟨⟨⟨h1,h2⟩,h3⟩,h4⟩:=ga;have hx:=ud (R:=R) (φ:=φ) (H:=H) hE h2;have hu:(sz≠0/\∃ el,P.underlying t=some (.slice el)/\Sd P el=some sz)\/(sz=0/\P.underlying t=some .string):=by
   cases hu:P.underlying t with
   |none=>simp[hu] at h1
   |some d=>
    cases d <;> simp[hu] at h1
    ·exact .inr ⟨h1,rfl⟩
    ·exact .inl ⟨h1.1,_,rfl,h1.2⟩
  have fin:∀ {l h:Option Int},((lo.map a.eval=none/\l=none)\/∃ k n,lo.map a.eval=some (.int k n)/\l=some n)->((hi.map a.eval=none/\h=none)\/∃ k n,hi.map a.eval=some (.int k n)/\h=some n)->
   (nh H sz (AO.ev e y) l h).map (fun v=>(v,H))=some (v,H')->nv P fo B0 o a w R φ H v H':=by
   intro l h hl hh hsl;simp only[dc,Jb] at hsl;obtain⟨u,hu2,rfl,rfl⟩:=hsl;exact .yh (s:=Instr.sliceAt t (a.eval x) (lo.map a.eval) (hi.map a.eval) none) (by simp[execOp,ho]) (Gaq hS hx hu hl hh hu2)
  rcases x5 hE h3 with⟨rfl,rfl⟩ | ⟨x1,y1,rfl,rfl,g1⟩ <;> rcases x5 hE h4 with⟨rfl,rfl⟩ | ⟨x2,y2,rfl,rfl,g2⟩
  ·simp only[Ja] at Da
   exact fin (.inl ⟨rfl,rfl⟩) (.inl ⟨rfl,rfl⟩) Da
  ·simp only[Ja,Hd] at Da
   obtain⟨⟨k,n⟩,h5,h6⟩:=Da;exact fin (.inl ⟨rfl,rfl⟩) (.inr ⟨k,n,by simp[xj (ud hE g2) h5],rfl⟩) h6
  ·simp only[Ja,Hd] at Da
   obtain⟨⟨k,n⟩,h5,h6⟩:=Da;exact fin (.inr ⟨k,n,by simp[xj (ud hE g1) h5],rfl⟩) (.inl ⟨rfl,rfl⟩) h6
  ·simp only[Ja,Hd] at Da
   obtain⟨⟨k,n⟩,h5,⟨k2,n2⟩,h7,h6⟩:=Da;exact fin (.inr ⟨k,n,by simp[xj (ud hE g1) h5],rfl⟩) (.inr ⟨k2,n2,by simp[xj (ud hE g2) h7],rfl⟩) h6
 case h_21 t x f off y=>simp only[fb] at ga;obtain⟨h1,h2⟩:=ga;simp only[Ja,dc,Jb] at Da;obtain⟨u,hp,rfl,rfl⟩:=Da;obtain⟨fs,fd,n,hu,hf,rfl,hn,xo⟩:=Taq h1;exact .yh (s:=Instr.fieldAt t (a.eval x) f) (by simp[execOp,ho]) (wae hS (ud hE h2) hu hf hn xo hp)
 case h_22 t x f off ag n y=>
  simp only[fb] at ga;obtain⟨h1,h2⟩:=ga;have hx:=ud (R:=R) (φ:=φ) (H:=H) hE h2;obtain⟨fs,fd,hu,hf,rfl,ha,hn⟩:=Lae h1;simp only[Ja] at Da;refine .yh (s:=Instr.field t (a.eval x) f) (by simp[execOp,ho]) ?_
  have jd:∀ vs:Array Value,(Instr.field t (.agg vs) f).run P w=(part fd.type vs fd.offset).run P w:=by intro vs;simp[Instr.field,run_underlying hu,hf,asAgg]
  obtain⟨i1,i2⟩:=KV hx
  split at Da
  ·rename_i cs hy
   obtain⟨vs,e1,e2⟩:=i1 cs hy;simp only[dc,Jb] at Da;obtain⟨p,hp,rfl,rfl⟩:=Da;rw[Ug,e1,jd];exact tY hS ha hn e2 hp
  ·rename_i cs hy
   obtain⟨vs,e1,e2⟩:=i2 cs hy;simp only[dc,Jb] at Da;obtain⟨p,hp,rfl,rfl⟩:=Da;rw[Ug,e1,jd];exact sY hS ha hn e2 hp
  ·cases Da
 case h_23 t x i sz y j=>
  simp only[fb] at ga;obtain⟨⟨h1,h2⟩,h3⟩:=ga;simp only[Ja,Hd,dc,Jb] at Da;obtain⟨⟨k,n⟩,hi,u,hp,rfl,rfl⟩:=Da;have e1:=xj (ud hE h3) hi;cases gf:Bl P t with
  |none=>simp[gf] at h1
  |some el=>
   simp only[gf,beq_iff_eq] at h1;refine .yh (s:=Instr.indexAt t (a.eval x) (a.eval i)) (by simp[execOp,ho]) ?_
   rw[e1];exact Eak hS (ud hE h2) (rC gf) h1 hp
 case h_24 t x i n sz y j=>
  simp only[fb] at ga;obtain⟨⟨h1,h2⟩,h3⟩:=ga;simp only[Ja,Hd] at Da;obtain⟨⟨k,m⟩,hi,Pe⟩:=Da
  split at Pe
  ·rename_i yy
   simp only[dc,Jb] at Pe;obtain⟨u,hp,rfl,rfl⟩:=Pe;have e1:=xj (ud hE h3) hi;obtain⟨el,hu,ib⟩:=Iaa h1;refine .yh (s:=Instr.indexAt t (a.eval x) (a.eval i)) (by simp[execOp,ho]) ?_
   rw[e1];exact Cak hS (ud hE h2) hu ib yy hp
  ·cases Pe
 case h_25 t x i n sz ag y j=>
  simp only[fb] at ga;obtain⟨⟨h1,h2⟩,h3⟩:=ga;have hx:=ud (R:=R) (φ:=φ) (H:=H) hE h2;simp only[Ja,Hd] at Da;obtain⟨⟨k,m⟩,hi,Pe⟩:=Da
  split at Pe
  ·rename_i yy
   have e1:=xj (ud hE h3) hi;obtain⟨el,hu,ib,ha⟩:=Gaa h1;refine .yh (s:=Instr.index t (a.eval x) (a.eval i)) (by simp[execOp,ho]) ?_
   obtain⟨g1,g2⟩:=yy;have jd:∀ vs:Array Value,(Instr.index t (.agg vs) (.int k m)).run P w=(part el vs (m.toNat * sz)).run P w:=by intro vs;simp only[] at g1 g2;simp[Instr.index,asIntOf,run_underlying hu,g1,g2,qj ib]
   obtain⟨i1,i2⟩:=KV hx
   split at Pe
   ·rename_i cs hy
    obtain⟨vs,e2,e3⟩:=i1 cs hy;simp only[dc,Jb] at Pe;obtain⟨p,hp,rfl,rfl⟩:=Pe;rw[Ug,e1,e2,jd];exact tY hS ha (fun _=>ib) e3 hp
   ·rename_i cs hy
    obtain⟨vs,e2,e3⟩:=i2 cs hy;simp only[dc,Jb] at Pe;obtain⟨p,hp,rfl,rfl⟩:=Pe;rw[Ug,e1,e2,jd];exact sY hS ha (fun _=>ib) e3 hp
   ·cases Pe
  ·cases Pe
 case h_26 t x i y j=>
  simp only[fb] at ga;obtain⟨⟨h1,h2⟩,h3⟩:=ga;have hx:=ud (R:=R) (φ:=φ) (H:=H) hE h2;have hd:P.underlying t=some .string:=by
   unfold TE at h1
   split at h1
   ·rename_i h;exact h
   ·cases h1
  simp only[Ja,Hd] at Da;obtain⟨⟨k,m⟩,hi,Pe⟩:=Da;have e1:=xj (ud hE h3) hi
  split at Pe
  ·rename_i str hy
   split at Pe
   ·rename_i hm
    simp only[dc,Jb] at Pe;obtain⟨b,hb,rfl,rfl⟩:=Pe;rw[hy] at hx;obtain⟨vx,dt⟩:∃ vx,a.eval x=vx:=⟨_,rfl⟩
    rw[dt] at hx;have hp:=hx.xd
    cases hp;have YH:str[m.toNat]? =some b:=by rw[<- hb];exact Xab _ _
    refine .yh (s:=Instr.index t (a.eval x) (a.eval i)) (by simp[execOp,ho]) (Je.same (.int .u8 b.toNat) hS ?_ (.atom _ _ (show Na R _ _ from .int _ _)))
    rw[dt,e1];simp only[] at hm;simp[Instr.index,asIntOf,run_underlying hd,hm,YH]
   ·cases Pe
  ·cases Pe
 case h_27 x i i' y=>
  simp only[fb,beq_iff_eq] at ga;obtain⟨rfl,h1⟩:=ga;have hx:=ud (R:=R) (φ:=φ) (H:=H) hE h1;simp only[Ja] at Da;obtain⟨i1,i2⟩:=bas hx;refine .yh (s:=Instr.extract (a.eval x) i) (by simp[execOp,ho]) ?_
  split at Da
  ·rename_i cs hy
   obtain⟨vs,e1,e2⟩:=i1 cs hy;simp only[dc,Jb] at Da;obtain⟨p,hp,rfl,rfl⟩:=Da;obtain⟨u,hu,hr⟩:=e2.get hp
   rw[e1];exact Je.same u hS (by simp[Instr.extract,hu]) (.atom _ _ hr)
  ·rename_i cs hy
   obtain⟨vs,e1,e2⟩:=i2 cs hy;simp only[dc,Jb] at Da;obtain⟨p,hp,rfl,rfl⟩:=Da;obtain⟨u,hu,hr⟩:=e2.get hp
   rw[e1];exact Je.same u hS (by simp[Instr.extract,hu]) hr
  ·cases Da
 case h_28 args argTypes k y=>
  simp only[Ja,dc,Jb] at Da;obtain⟨n,hn,rfl,rfl⟩:=Da
  split at ga
  ·rename_i x t rS BT
   simp only[fb] at ga;have ha:args= #[x]:=by apply Pk;simpa using rS
   have ht:argTypes= #[t]:=by apply Pk;simpa using BT
   subst ha ht;have hu:(k=0/\∃ e,P.underlying t=some (.slice e))\/(k=1/\P.underlying t=some .string):=by
    have:=ga.2
    cases hu:P.underlying t with
    |none=>simp[hu] at this
    |some d=>cases d <;> simp[hu] at this <;> simp_all
   exact .yh (s:=Builtin.len_ #[t] o.type #[a.eval x]) (by simp[execOp,ho,resolve,invoke,builtin]) (wal hS (ud hE ga.1) hu hn)
  ·cases ga
 case h_29 args tys ys=>simp only[Ja,dc,Jb] at Da;obtain⟨p,hp,rfl,rfl⟩:=Da;have hl:=Yx (R:=R) (φ:=φ) (H:=H) hE ga;obtain⟨v0,rest,u,q0,q1,q2⟩:=iW (P:=P) (w:=w) true hl hp;exact .yh (s:=Builtin.max_ tys o.type (args.map a.eval)) (by simp[execOp,ho,resolve,invoke,builtin]) (Je.same u hS (by simp only[Builtin.max_,Array.toList_map,q0];simpa using q1) (.atom _ _ q2))
 case h_30 args tys ys=>simp only[Ja,dc,Jb] at Da;obtain⟨p,hp,rfl,rfl⟩:=Da;have hl:=Yx (R:=R) (φ:=φ) (H:=H) hE ga;obtain⟨v0,rest,u,q0,q1,q2⟩:=iW (P:=P) (w:=w) false hl hp;exact .yh (s:=Builtin.min_ tys o.type (args.map a.eval)) (by simp[execOp,ho,resolve,invoke,builtin]) (Je.same u hS (by simp only[Builtin.min_,Array.toList_map,q0];simpa using q1) (.atom _ _ q2))
 case h_31 args argTypes own hh sz ag bytes s y=>
  simp only[Ja] at Da
  split at ga
  ·rename_i x z t tx rS BT
   simp only[fb] at ga;have ha:args= #[x,z]:=by apply Pk;simpa using rS
   have ht:argTypes= #[t,tx]:=by apply Pk;simpa using BT
   subst ha ht;obtain⟨⟨h1,h2⟩,h3⟩:=ga;cases gf:Bl P t with
   |none=>simp[gf] at h3
   |some el=>
    simp only[gf,fb] at h3;have hA:=Dam h3.1
    refine .yh (s:=Builtin.append_ #[t,tx] o.type #[a.eval x,a.eval z]) (by simp[execOp,ho,resolve,invoke,builtin]) ?_
    have hs:=ud (R:=R) (φ:=φ) (H:=H) hE h1;have hx:=ud (R:=R) (φ:=φ) (H:=H) hE h2;generalize AO.ev e s=sv at Da hs
    generalize AO.ev e y=xv at Da hx
    unfold Ud at Da
    split at Da
    ·split at Da
     ·split at Da
      ·rename_i id len sj ag' cells fl nl Ma
       simp only[Hd] at Da;obtain⟨⟨m,cs⟩,hy,Pe⟩:=Da
       split at Pe
       ·rename_i hc
        obtain⟨rfl,hc1,hc2,eB⟩:=hc;simp only[xb,Jb] at Pe;obtain⟨rfl,rfl⟩:=Pe;exact Aaa hS hA hs hx Ma hc1 hy eB hc2
       ·cases Pe
      ·cases Da
     ·cases Da
    ·split at Da
     ·split at Da
      ·rename_i id nl sj es sz2 n nl2 Ma
       simp only[Hd] at Da;obtain⟨ys,hy,Pe⟩:=Da
       split at Pe
       ·rename_i hc
        obtain⟨rfl,rfl,hc1,hc2⟩:=hc;simp only[xb,Jb] at Pe;obtain⟨rfl,rfl⟩:=Pe;exact Baa hS hA hs hx Ma hc1 hy hc2
       ·cases Pe
      ·cases Da
     ·simp only[Hd] at Da
      obtain⟨ys,hy,Pe⟩:=Da
      split at Pe
      ·rename_i hc
       have hp:=hs.xd
       obtain⟨vs,FI⟩:∃ vs,a.eval x=vs:=⟨_,rfl⟩
       rw[FI] at hp ⊢;cases hp;exact zaa hS hA hx hy hc Pe
      ·cases Pe
     ·cases Da
  ·cases ga
 case h_32 t x n y=>
  simp only[Ja] at Da
  split at Da
  ·rename_i hc
   simp only[dc,Jb] at Da;obtain⟨ps,hps,rfl,rfl⟩:=Da;exact .yh (by simp[execOp,ho]) (vab (t:=t) hS (ud hE ga) hc.2 hps)
  ·cases Da
 case h_33 t x y _ ks x' y'=>
  simp only[fb,Lo] at ga;simp only[Ja] at Da
  split at Da
  ·rename_i p q hp hq
   simp only[dc,Jb] at Da;obtain⟨b,hb,rfl,rfl⟩:=Da;have h1:=ud (R:=R) (φ:=φ) (H:=H) hE ga.1.2
   have h2:=ud (R:=R) (φ:=φ) (H:=H) hE ga.2
   rw[hp] at h1;rw[hq] at h2;have hg:=RX (w:=w) ga.1.1.2 .eql x y h1.xd h2.xd hb
   have hr:=CR (w:=w) ga.1.1.1 h1.xd h2.xd hb
   have vS:(binOp .eql t (a.eval x) (a.eval y)).run P w= .ok (.bool b) w:=by
    have e:=h1.xd
    have e2:=h2.xd
    revert hr;generalize a.eval x=vx at e
    generalize a.eval y=vy at e2
    intro hr;have Hc:∃ xs,p= .agg xs:=by cases p <;> simp[Sf] at hb;exact⟨_,rfl⟩
    obtain⟨xs,rfl⟩:=Hc;have si:∃ ys,q= .agg ys:=by cases q <;> simp[Sf] at hb;exact⟨_,rfl⟩
    obtain⟨ys,rfl⟩:=si;cases e;cases e2;simp[binOp,hr]
   exact .Nu (v':= .bool b) hS (by simp[execOp,ho,hg,vS]) (.atom _ _ (show Na R _ _ from .bool _))
  ·cases Da
 case h_34 t x y _ ks x' y'=>
  simp only[fb,Lo] at ga;simp only[Ja] at Da
  split at Da
  ·rename_i p q hp hq
   simp only[dc,Jb] at Da;obtain⟨b,hb,rfl,rfl⟩:=Da;have h1:=ud (R:=R) (φ:=φ) (H:=H) hE ga.1.2
   have h2:=ud (R:=R) (φ:=φ) (H:=H) hE ga.2
   rw[hp] at h1;rw[hq] at h2;have hg:=RX (w:=w) ga.1.1.2 .neq x y h1.xd h2.xd hb
   have hr:=CR (w:=w) ga.1.1.1 h1.xd h2.xd hb
   have vS:(binOp .neq t (a.eval x) (a.eval y)).run P w= .ok (.bool (!b)) w:=by
    have e:=h1.xd
    have e2:=h2.xd
    revert hr;generalize a.eval x=vx at e
    generalize a.eval y=vy at e2
    intro hr;have Hc:∃ xs,p= .agg xs:=by cases p <;> simp[Sf] at hb;exact⟨_,rfl⟩
    obtain⟨xs,rfl⟩:=Hc;have si:∃ ys,q= .agg ys:=by cases q <;> simp[Sf] at hb;exact⟨_,rfl⟩
    obtain⟨ys,rfl⟩:=si;cases e;cases e2;simp[binOp,hr]
   exact .Nu (v':= .bool (!b)) hS (by simp[execOp,ho,hg,vS]) (.atom _ _ (show Na R _ _ from .bool _))
  ·cases Da
 case h_35 t=>simp only[Ja,xb,Jb] at Da;obtain⟨rfl,rfl⟩:=Da;exact .yh (s:=Instr.makeMap t none) (by simp[execOp,ho]) (Xal hS _)
 case h_36 t x k ok kd zero ok' x' k'=>
  simp only[fb,beq_iff_eq] at ga;obtain⟨⟨⟨⟨h1,h2⟩,rfl⟩,h3⟩,h4⟩:=ga;have hm:=ud (R:=R) (φ:=φ) (H:=H) hE h3;have hk:=ud (R:=R) (φ:=φ) (H:=H) hE h4;simp only[Ja] at Da
  split at Da
  ·rename_i kp em ek
   rw[em] at hm;rw[ek] at hk
   split at Da
   ·rename_i Wl
    simp only[xb,Jb] at Da;obtain⟨rfl,rfl⟩:=Da;obtain⟨u,h5,h6⟩:=U2 (P:=P) hS h1 h2 hm hk.xd ok (.inl ⟨rfl,rfl⟩) Wl (r:=none) rfl
    exact .Nu hS (by simp[execOp,ho,h5]) h6
   ·cases Da
  ·rename_i id kp em ek
   rw[em] at hm;rw[ek] at hk
   split at Da
   ·rename_i es Ma
    split at Da
    ·rename_i Wl
     simp only[dc] at Da;obtain⟨r,hf,hr⟩:=Da;obtain⟨u,h5,h6⟩:=U2 (P:=P) hS h1 h2 hm hk.xd ok (.inr ⟨id,rfl,Ma⟩) Wl hf
     cases r with
     |none=>simp only[Jb] at hr;obtain⟨rfl,rfl⟩:=hr;exact .Nu hS (by simp[execOp,ho,h5]) h6
     |some r=>simp only[Jb] at hr;obtain⟨rfl,rfl⟩:=hr;exact .Nu hS (by simp[execOp,ho,h5]) h6
    ·cases Da
   ·cases Da
  ·cases Da
 case h_37 t m k x kd m' k' x'=>
  simp only[fb] at ga;obtain⟨⟨⟨h1,h2⟩,h3⟩,h4⟩:=ga;have hm:=ud (R:=R) (φ:=φ) (H:=H) hE h2;have hk:=ud (R:=R) (φ:=φ) (H:=H) hE h3;have hx:=ud (R:=R) (φ:=φ) (H:=H) hE h4;simp only[Ja] at Da
  split at Da
  ·rename_i id kp xp em ek ex
   rw[em] at hm;rw[ek] at hk;rw[ex] at hx
   split at Da
   ·rename_i es Ma
    split at Da
    ·rename_i Wl
     simp only[dc] at Da;obtain⟨r,hf,hr⟩:=Da;obtain⟨w',φ',h5,h6,h7,h8⟩:=C3 (P:=P) hS h1 hm hk.xd hx.xd Ma Wl hf
     intro next Q hn
     unfold Oper.wp
     have:(execOp a.eval o).run P w= .ok .skip w':=by simp[execOp,ho,h5]
     rw[this];cases r with
     |none=>simp only[Jb] at hr;obtain⟨rfl,rfl⟩:=hr;exact hn undef w' R φ' h6 (.atom _ _ (show Na R _ _ from .Ba [] [] .nil)) h7 h8
     |some r=>simp only[Jb] at hr;obtain⟨rfl,rfl⟩:=hr;exact hn undef w' R φ' h6 (.atom _ _ (show Na R _ _ from .Ba [] [] .nil)) h7 h8
    ·cases Da
   ·cases Da
  ·cases Da
 case h_38 t m k x kd m' k' x'=>
  simp only[fb] at ga;obtain⟨⟨⟨h1,h2⟩,h3⟩,h4⟩:=ga;have hm:=ud (R:=R) (φ:=φ) (H:=H) hE h2;have hk:=ud (R:=R) (φ:=φ) (H:=H) hE h3;have hx:=ud (R:=R) (φ:=φ) (H:=H) hE h4;simp only[Ja] at Da
  split at Da
  ·rename_i id kp xp em ek ex
   rw[em] at hm;rw[ek] at hk;rw[ex] at hx
   split at Da
   ·rename_i es Ma
    split at Da
    ·rename_i Wl
     simp only[dc] at Da;obtain⟨r,hf,hr⟩:=Da;obtain⟨w',φ',h5,h6,h7,h8⟩:=C3 (P:=P) hS h1 hm hk.xd hx.xd Ma Wl hf
     intro next Q hn
     unfold Oper.wp
     have:(execOp a.eval o).run P w= .ok .skip w':=by simp[execOp,ho,h5]
     rw[this];cases r with
     |none=>simp only[Jb] at hr;obtain⟨rfl,rfl⟩:=hr;exact hn undef w' R φ' h6 (.atom _ _ (show Na R _ _ from .Ba [] [] .nil)) h7 h8
     |some r=>simp only[Jb] at hr;obtain⟨rfl,rfl⟩:=hr;exact hn undef w' R φ' h6 (.atom _ _ (show Na R _ _ from .Ba [] [] .nil)) h7 h8
    ·cases Da
   ·cases Da
  ·cases Da
 case h_39 s d x y=>
  simp only[Ja] at Da
  split at Da
  ·rename_i id es hx
   split at Da
   ·rename_i n Ma
    split at Da
    ·rename_i yo
     simp only[xb,Jb] at Da;obtain⟨rfl,rfl⟩:=Da;simp only[fb,beq_iff_eq] at ga;obtain⟨⟨rfl,hsl⟩,h3⟩:=ga;have hr:=ud (R:=R) (φ:=φ) (H:=H) hE h3;rw[hx] at hr;exact Eap ho hS hr Ma yo hsl
    ·cases Da
   ·cases Da
  ·cases Da
 case h_40=>cases ga
end ops
end Go.AM
namespace Go.AM
def AO.look(n:Nat):AO->Bool
 | .t m=>n==m
 |_=>false
def Ka.look(n:Nat):Ka->Bool
 | .move x | .box _ x | .DA _ x | .load _ _ x | .OB x | .un _ x | .conv _ x | .aD x | .yF x | .Ow _ x | .QA _ x | .gE _ _ _ x | .ext _ x | .len _ x=>x.look n
 | .alloc _=>false
 | .pick c a b=>c.look n||a.look n||b.look n
 | .build _ ps=>ps.any fun p=>p.2.2.look n
 | .Fc _ _ _ _ _ ps=>ps.any fun p=>p.2.look n
 | .store _ a v=>a.look n||v.look n
 | .bin _ x y | .eq _ _ x y=>x.look n||y.look n
 | .Fw _ xs | .mx xs | .mn xs | .Sl _ xs | .zf _ xs | .EA _ xs=>xs.any (·.look n)
 | .oj _ _ _ _ _ l c=>l.look n||c.look n
 | .slice _ x lo hi=>x.look n||(lo.any (·.look n))||(hi.any (·.look n))
 | .Nd _ x i | .Ry _ _ x i | .Lu _ _ _ x i | .VE x i=>x.look n||i.look n
 | .append _ _ _ _ _ s x=>s.look n||x.look n
 | .Sv _ _ x y=>x.look n||y.look n
 | .NB=>false
 | .lookup _ _ _ m k=>m.look n||k.look n
 | .Cw _ m k v=>m.look n||k.look n||v.look n
 | .Lx f xs=>f.look n||xs.any (·.look n)
def BV(p:Nat->Bool)(e e':Tr):Prop:=∀ n,p n=true->e.get n=e'.get n
theorem AO.XX{e e':Tr}{x:AO}(h:∀ n,x.look n=true->e.get n=e'.get n):x.ev e=x.ev e':=by
 cases x with
 |t n=>exact h n (by simp[AO.look])
 |c p=>rfl
 |f ix=>rfl
theorem qae{e e':Tr}{xs:List AO}(h:∀ n,xs.any (·.look n)=true->e.get n=e'.get n):xs.map (·.ev e)=xs.map (·.ev e'):=
 Hq fun x hx=>AO.XX fun n hn=>h n (OC.2 ⟨x,hx,hn⟩)
theorem YX{call:Ab}{e e':Tr}{H:List fa}{op:Ka}(h:BV (fun n=>op.look n) e e'):Ja call e H op=Ja call e' H op:=by
 have one:∀ x:AO,(∀ n,x.look n=true->op.look n=true)->x.ev e=x.ev e':=fun x hx=>AO.XX fun n hn=>h n (hx n hn)
 have many:∀ xs:List AO,(∀ n,xs.any (·.look n)=true->op.look n=true)->xs.map (·.ev e)=xs.map (·.ev e'):=fun xs hx=>qae fun n hn=>h n (hx n hn)
 cases op with
 |move x=>simp only[Ja];rw[one x (fun n h=>by simpa[Ka.look] using h)]
 |pick c a b=>simp only[Ja];rw[one c (fun n h=>by simp[Ka.look,h]),one a (fun n h=>by simp[Ka.look,h]),one b (fun n h=>by simp[Ka.look,h])]
 |alloc z=>rfl
 |box n x=>simp only[Ja];rw[one x (fun n h=>by simpa[Ka.look] using h)]
 |DA n x=>simp only[Ja];rw[one x (fun n h=>by simpa[Ka.look] using h)]
 |build z ps=>
  simp only[Ja];rw[Hq (f:=fun p:Nat×Nat×AO=>(p.1,p.2.1,p.2.2.ev e)) (g:=fun p=>(p.1,p.2.1,p.2.2.ev e')) fun p hp=>by rw[one p.2.2 (fun n h=>by simp only[Ka.look];exact OC.2 ⟨p,hp,h⟩)]]
 |Fc hh sz ag len z ps=>
  simp only[Ja];rw[Hq (f:=fun p:Nat×AO=>(p.1 * sz,sz,mh e p.2)) (g:=fun p=>(p.1 * sz,sz,mh e' p.2)) fun p hp=>by unfold mh;rw[one p.2 (fun n h=>by simp only[Ka.look];exact OC.2 ⟨p,hp,h⟩)]]
 |load ag n x=>simp only[Ja];rw[one x (fun n h=>by simpa[Ka.look] using h)]
 |store n a v=>simp only[Ja];rw[one a (fun n h=>by simp[Ka.look,h]),one v (fun n h=>by simp[Ka.look,h])]
 |OB x=>simp only[Ja];rw[one x (fun n h=>by simpa[Ka.look] using h)]
 |bin op x y=>simp only[Ja];rw[one x (fun n h=>by simp[Ka.look,h]),one y (fun n h=>by simp[Ka.look,h])]
 |eq k ne x y=>simp only[Ja];rw[one x (fun n h=>by simp[Ka.look,h]),one y (fun n h=>by simp[Ka.look,h])]
 |un op x=>simp only[Ja];rw[one x (fun n h=>by simpa[Ka.look] using h)]
 |conv k x=>simp only[Ja];rw[one x (fun n h=>by simpa[Ka.look] using h)]
 |aD x=>simp only[Ja];rw[one x (fun n h=>by simpa[Ka.look] using h)]
 |Ow hh x=>simp only[Ja];rw[one x (fun n h=>by simpa[Ka.look] using h)]
 |yF x=>simp only[Ja];rw[one x (fun n h=>by simpa[Ka.look] using h)]
 |Fw ix xs=>simp only[Ja];rw[many xs (fun n h=>by simpa[Ka.look] using h)]
 |oj hh sz ag z b l c=>simp only[Ja];rw[one l (fun n h=>by simp[Ka.look,h]),one c (fun n h=>by simp[Ka.look,h])]
 |slice sz x lo hi=>
  have hx:=one x (fun n h=>by simp[Ka.look,h]);cases lo with
  |none=>
   cases hi with
   |none=>simp only[Ja];rw[hx]
   |some hi=>simp only[Ja];rw[hx,one hi (fun n h=>by simp[Ka.look,h])]
  |some lo=>
   cases hi with
   |none=>simp only[Ja];rw[hx,one lo (fun n h=>by simp[Ka.look,h])]
   |some hi=>simp only[Ja];rw[hx,one lo (fun n h=>by simp[Ka.look,h]),one hi (fun n h=>by simp[Ka.look,h])]
 |QA off x=>simp only[Ja];rw[one x (fun n h=>by simpa[Ka.look] using h)]
 |gE off ag n x=>simp only[Ja];rw[one x (fun n h=>by simpa[Ka.look] using h)]
 |Nd sz x i=>simp only[Ja];rw[one x (fun n h=>by simp[Ka.look,h]),one i (fun n h=>by simp[Ka.look,h])]
 |Ry n sz x i=>simp only[Ja];rw[one x (fun n h=>by simp[Ka.look,h]),one i (fun n h=>by simp[Ka.look,h])]
 |Lu n sz ag x i=>simp only[Ja];rw[one x (fun n h=>by simp[Ka.look,h]),one i (fun n h=>by simp[Ka.look,h])]
 |VE x i=>simp only[Ja];rw[one x (fun n h=>by simp[Ka.look,h]),one i (fun n h=>by simp[Ka.look,h])]
 |ext i x=>simp only[Ja];rw[one x (fun n h=>by simpa[Ka.look] using h)]
 |len k x=>simp only[Ja];rw[one x (fun n h=>by simpa[Ka.look] using h)]
 |mx xs=>simp only[Ja];rw[many xs (fun n h=>by simpa[Ka.look] using h)]
 |mn xs=>simp only[Ja];rw[many xs (fun n h=>by simpa[Ka.look] using h)]
 |append o hh sz ag b s x=>simp only[Ja];rw[one s (fun n h=>by simp[Ka.look,h]),one x (fun n h=>by simp[Ka.look,h])]
 |Sv kd ne x y=>simp only[Ja];rw[one x (fun n h=>by simp[Ka.look,h]),one y (fun n h=>by simp[Ka.look,h])]
 |NB=>rfl
 |lookup kd z ok m k=>simp only[Ja];rw[one m (fun n h=>by simp[Ka.look,h]),one k (fun n h=>by simp[Ka.look,h])]
 |Cw kd m k v=>simp only[Ja];rw[one m (fun n h=>by simp[Ka.look,h]),one k (fun n h=>by simp[Ka.look,h]),one v (fun n h=>by simp[Ka.look,h])]
 |Sl F xs=>simp only[Ja];rw[many xs (fun n h=>by simpa[Ka.look] using h)]
 |zf ix xs=>simp only[Ja];rw[many xs (fun n h=>by simpa[Ka.look] using h)]
 |EA ix xs=>simp only[Ja];rw[many xs (fun n h=>by simpa[Ka.look] using h)]
 |Lx f xs=>simp only[Ja];rw[one f (fun n h=>by simp[Ka.look,h]),many xs (fun n h=>by simp only[Ka.look,h,Bool.or_true])]
def fa.UE:fa->Bool
 | .tok _ _ _=>true
 |_=>false
mutual
theorem PV.oC:∀ {a b:PV},a.same b=true->a=b:=by
 intro a b h;cases a <;> cases b <;> simp only[PV.same,fb,decide_eq_true_eq,beq_iff_eq,Sc] at h
 ·rw[h.1,h.2]
 ·rw[h]
 ·rw[h]
 all_goals first | rfl | skip
 ·rw[nz h.1,h.2]
 ·rw[h.1,nz h.2]
 ·rw[nz h]
 ·rw[nz h]
 ·rw[h.1,PV.oC h.2]
theorem nz:∀ {a b:List PV},Jr a b=true->a=b:=by
 intro a b h;cases a <;> cases b <;> simp only[Jr,fb,Sc] at h
 ·rfl
 ·rw[PV.oC h.1,nz h.2]
end
mutual
theorem PV.pC:∀ (a:PV),a.same a=true:=by
 intro a;cases a <;> simp only[PV.same,decide_true,vz,beq_self_eq_true,wz,ng]
 ·exact nC _
 ·exact nC _
 ·exact nC _
 ·exact nC _
 ·exact PV.pC _
theorem nC:∀ (a:List PV),Jr a a=true:=by
 intro a;cases a with
 |nil=>rfl
 |cons x r=>simp only[Jr,PV.pC x,nC r,vz]
end
mutual
theorem AV.oC:∀ {a b:AV},a.same b=true->a=b:=by
 intro a b h;cases a <;> cases b <;> simp only[AV.same,fb,decide_eq_true_eq,Jb,Sc] at h
 ·rw[PV.oC h]
 ·rw[h.1,h.2]
 ·rw[h.1,h.2.1,h.2.2]
 ·rw[h.1.1,h.1.2.1,h.1.2.2,nz h.2]
 ·rw[h.1,h.2]
 ·rw[h.1,zF h.2]
 ·rw[h]
 ·rw[zF h]
 ·rw[zF h]
 ·rfl
theorem zF:∀ {a b:List AV},Tu a b=true->a=b:=by
 intro a b h;cases a <;> cases b <;> simp only[Tu,fb,Sc] at h
 ·rfl
 ·rw[AV.oC h.1,zF h.2]
end
mutual
theorem AV.pC:∀ (a:AV),a.same a=true:=by
 intro a;cases a <;> simp only[AV.same,decide_true,ng,PV.pC,nC]
 ·exact rJ _
 ·exact rJ _
 ·exact rJ _
theorem rJ:∀ (a:List AV),Tu a a=true:=by
 intro a;cases a with
 |nil=>rfl
 |cons x r=>simp only[Tu,AV.pC x,rJ r,vz]
end
theorem Z5{α β:Type}:∀ {a b:List (α×β)},a.map (·.1)=b.map (·.1)->a.map (·.2)=b.map (·.2)->a=b
 | [],[],_,_=>rfl
 | [],_::_,h,_=>by cases h
 |_::_,[],h,_=>by cases h
 | (x,y)::a,(x',y')::b,h,k=>by simp only[Pf,bG] at h k;rw[h.1,k.1,Z5 h.2 k.2]
theorem fa.pC(o:fa):o.same o=true:=by
 cases o <;> simp only[fa.same,decide_true,ng,rJ,nC,vz]
theorem S7:∀ (H X:List fa),mC H (H++X)=true
 | [],_=>rfl
 |o::r,X=>by rw[Sg,mC,fa.pC,S7 r X];rfl
theorem fa.oC{x y:fa}(h:x.same y=true)(ht:x.UE=false):x=y:=by
 cases x with
 |tok=>cases ht
 |box a=>cases y <;> simp only[fa.same,Sc] at h;rw[zF h]
 |seq s g a f n=>cases y <;> simp only[fa.same,fb,decide_eq_true_eq,Jb,Sc] at h;obtain⟨⟨rfl,rfl,rfl,rfl⟩,h⟩:=h;rw[zF h]
 |map a=>cases y <;> simp only[fa.same,fb,Sc] at h;rw[Z5 (nz h.1) (nz h.2)]
 |dead=>cases y <;> simp only[fa.same,Sc] at h;rfl
theorem T7:∀ {H H':List fa},mC H H'=true->∀ (id:Nat)(o:fa),H[id]? =some o->o.UE=false->H'[id]? =some o
 | [],_,_,id,o,h,_=>by simp at h
 |x::r,[],h,_,_,_,_=>by cases h
 |x::r,y::r',h,0,o,ho,ht=>by simp only[mC,fb] at h;simp only[Kj,xb] at ho ⊢;subst ho;exact (fa.oC h.1 ht).symm
 |x::r,y::r',h,id+1,o,ho,ht=>by simp only[mC,fb] at h;simp only[Jj] at ho ⊢;exact T7 h.2 id o ho ht
def pf(H H':List fa):Prop:=∀ (id:Nat)(o:fa),H[id]? =some o->o.UE=false->H'[id]? =some o
theorem pf.refl(H:List fa):pf H H:=fun _ _ h _=>h
theorem pf.push(H:List fa)(o:fa):pf H (H++[o]):=fun id o' h _=>by
 have hl:id < H.length:=(Ad.1 h).1
 rw[Kc hl];exact h
theorem pf.E6(H:List fa)(a b:Nat)(c:Bool):pf (H++[.tok a b c]) H:=fun id o h ht=>by
 by_cases hl:id < H.length
 ·rw[Kc hl] at h;exact h
 ·rw[Tg (by omega)] at h
  by_cases h0:id - H.length=0
  ·rw[h0] at h;simp at h;subst h;simp[fa.UE] at ht
  ·rw[dh (by simp;omega)] at h;cases h
theorem pf.daq{H:List fa}{id:Nat}{a b:Nat}{c:Bool}(h:H[id]? =some (.tok a b c))(a' b':Nat)(c':Bool):
 pf H (H.set id (.tok a' b' c'))/\pf (H.set id (.tok a' b' c')) H:=by
 constructor
 ·intro i o hi ht
  by_cases e:id=i
  ·subst e;rw[h] at hi;injection hi with hi;subst hi;simp[fa.UE] at ht
  ·rw[ze e];exact hi
 ·intro i o hi ht
  by_cases e:id=i
  ·subst e
   have hl:id < H.length:=(Ad.1 h).1
   rw[Of hl] at hi;injection hi with hi;subst hi;simp[fa.UE] at ht
  ·rw[ze e] at hi;exact hi
def Qc.isLit:Qc->Bool
 | .lit=>true
 |_=>false
def Qc.ui:Qc->Bool
 | .own=>true
 |_=>false
def Ka.cls:Ka->Nat
 | .move _ | .pick _ _ _ | .build _ _ | .bin _ _ _ | .un _ _ | .conv _ _ | .Fw _ _ | .gE _ _ _ _ | .Lu _ _ _ _ _ | .VE _ _ | .ext _ _ | .mx _ | .mn _ | .DA _ _ | .Sv _ _ _ _=>0
 | .load _ _ _ | .OB _ | .QA _ _ | .Nd _ _ _ | .Ry _ _ _ _ | .len _ _ | .eq _ _ _ _ | .slice _ _ _ _ | .aD _ | .Sl _ _ | .lookup _ _ _ _ _=>1
 | .Fc h _ _ _ _ _ | .Ow h _ | .oj h _ _ _ _ _ _=>(if h.isLit then 0 else if h.ui then 3 else 2)
 | .append own h _ _ _ _ _=>(if own then 4 else if h.ui then 4 else 2)
 | .alloc _ | .box _ _ | .EA _ _=>3
 |_=>4
theorem oar{H H':List fa}(h:pf H H'):∀ (d:Nat)(v:AV)(p:PV),qb H d v=some p->qb H' d v=some p:=by
 intro d
 induction d with
 |zero=>intro v p hp;cases v <;> simp_all [qb]
 |succ d ih=>
  have many:∀ (cs:List AV)(ps:List PV),Ha (qb H d) cs=some ps->Ha (qb H' d) cs=some ps:=by
   intro cs
   induction cs with
   |nil=>intro ps h;simpa[Ha] using h
   |cons c cs ihc=>intro ps h;simp only[Ha,Hd] at h ⊢;obtain⟨b,h1,bs,h2,h3⟩:=h;exact⟨b,ih _ _ h1,bs,ihc _ h2,h3⟩
  intro v p hp;cases v with
  |pv q=>simpa[qb] using hp
  |uq=>simpa[qb] using hp
  |own id len=>
   simp only[qb] at hp ⊢
   split at hp
   ·rename_i sz ag cells fl nl Ma
    rw[h _ _ Ma rfl]
    split at hp
    ·rename_i hc
     simp only[if_pos hc];cases nl with
     |true=>simpa using hp
     |false=>simp only[Sc,if_false,dc] at hp ⊢;obtain⟨ps,h1,h2⟩:=hp;exact⟨ps,many _ _ h1,h2⟩
    ·cases hp
   ·cases hp
  |ptr id off=>
   simp only[qb] at hp ⊢
   split at hp
   ·rename_i cells Ma
    rw[h _ _ Ma rfl];simp only[dc] at hp ⊢;obtain⟨ps,h1,h2⟩:=hp;exact⟨ps,many _ _ h1,h2⟩
   ·cases hp
  |agg cs=>simp only[qb,dc] at hp ⊢;obtain⟨ps,h1,h2⟩:=hp;exact⟨ps,many _ _ h1,h2⟩
  |Ba cs=>simp only[qb,dc] at hp ⊢;obtain⟨ps,h1,h2⟩:=hp;exact⟨ps,many _ _ h1,h2⟩
  |Sb=>simp[qb] at hp
  |Ec=>simp[qb] at hp
  |mp=>simp[qb] at hp
  |undef=>simp[qb] at hp
theorem tar{H H':List fa}(h:pf H H'){d:Nat}:∀ {cs:List AV}{ps:List PV},Ha (qb H d) cs=some ps->Ha (qb H' d) cs=some ps:=by
 intro cs
 induction cs with
 |nil=>intro ps h;simpa[Ha] using h
 |cons c cs ihc=>intro ps hp;simp only[Ha,Hd] at hp ⊢;obtain⟨b,h1,bs,h2,h3⟩:=hp;exact⟨b,oar h _ _ _ h1,bs,ihc h2,h3⟩
theorem AU{H H':List fa}(h:pf H H'){d:Nat}{x v:AV}(hp:place H d x=some v):place H' d x=some v:=by
 unfold place at hp ⊢
 split at hp
 ·exact hp
 ·split at hp
  ·rename_i Ma;rw[h _ _ Ma rfl];exact hp
  ·cases hp
 ·split at hp
  ·rename_i Ma;rw[h _ _ Ma rfl];exact hp
  ·cases hp
 ·cases hp
theorem Bal{H H':List fa}(h:pf H H'){ag:Bool}{n:Nat}{x v:AV}(hp:wa H ag n x=some v):wa H' ag n x=some v:=by
 unfold wa at hp ⊢
 split at hp
 ·exact hp
 ·split at hp
  ·rename_i Ma;rw[h _ _ Ma rfl];exact hp
  ·cases hp
 ·split at hp
  ·rename_i Ma;rw[h _ _ Ma rfl];exact hp
  ·cases hp
 ·cases hp
theorem Dak{H H':List fa}(h:pf H H'){sz:Nat}{x v:AV}{i:Int}(hp:Ua H sz x i=some v):Ua H' sz x i=some v:=by
 unfold Ua at hp ⊢
 split at hp
 ·exact hp
 ·exact hp
 ·split at hp
  ·rename_i Ma;rw[h _ _ Ma rfl];exact hp
  ·cases hp
 ·cases hp
theorem pal{H H':List fa}(h:pf H H'){k:Nat}{x:AV}{n:Nat}(hp:mb H k x=some n):mb H' k x=some n:=by
 unfold mb at hp ⊢
 split at hp
 ·exact hp
 ·exact hp
 ·exact hp
 ·exact hp
 ·split at hp
  ·rename_i Ma;rw[h _ _ Ma rfl];exact hp
  ·cases hp
 ·exact hp
 ·split at hp
  ·rename_i Ma;rw[h _ _ Ma rfl];exact hp
  ·cases hp
 ·cases hp
theorem gae{H H':List fa}(h:pf H H'){k:Nat}{x y:AV}{b:Bool}(hp:Zd H k x y=some b):Zd H' k x y=some b:=by
 unfold Zd at hp ⊢
 split at hp <;> first
  |exact hp
  | (split at hp
     ·rename_i Ma;simp only[h _ _ Ma rfl];exact hp
     ·cases hp)
  |cases hp
theorem Laa{H H':List fa}(h:pf H H'){x:AV}{b:ByteArray}(hp:Ut H x=some b):Ut H' x=some b:=by
 unfold Ut at hp ⊢
 split at hp <;> first
  |exact hp
  | (split at hp
     ·rename_i Ma;rw[h _ _ Ma rfl];exact hp
     ·cases hp)
  |cases hp
theorem JO{H H':List fa}(h:pf H H'){sz:Nat}{x v:AV}{lo hi:Option Int}(hp:nh H sz x lo hi=some v):nh H' sz x lo hi=some v:=by
 unfold nh at hp ⊢
 split at hp <;> first
  |exact hp
  | (split at hp
     ·rename_i Ma;rw[h _ _ Ma rfl];exact hp
     ·cases hp)
  |cases hp
theorem TR{H:List fa}{sz:Nat}{ag:Bool}{n:Nat}{cs:List AV}{v:AV}{H':List fa}(h:fresh H .lit sz ag n cs=some (v,H')):
 H'=H/\∀ H2,fresh H2 .lit sz ag n cs=some (v,H2):=by
 simp only[fresh,dc,Jb] at h ⊢;obtain⟨ps,h1,rfl,rfl⟩:=h;exact⟨rfl,fun H2=>⟨ps,h1,rfl,trivial⟩⟩
theorem WR{H:List fa}{sz:Nat}{ag:Bool}{n:Nat}{cs:List AV}{v:AV}{H':List fa}(h:fresh H .uq sz ag n cs=some (v,H')):
 pf H H'/\pf H' H:=by
 simp only[fresh,dc,Jb] at h;obtain⟨ps,h1,rfl,rfl⟩:=h;exact⟨pf.push _ _,pf.E6 _ _ _ _⟩
theorem UR{H:List fa}{sz:Nat}{ag:Bool}{n:Nat}{cs:List AV}{v:AV}{H':List fa}(h:fresh H .own sz ag n cs=some (v,H')):
 pf H H':=by
 simp only[fresh,xb,Jb] at h;obtain⟨rfl,rfl⟩:=h;exact pf.push _ _
theorem XW{call:Ab}{e:Tr}{H H':List fa}{op:Ka}{v:AV}(hc:op.cls=0)(h:Ja call e H op=some (v,H')):
 H'=H/\∀ H2,Ja call e H2 op=some (v,H2):=by
 have ob:∀ {α:Type}{x:Option α}{f:α->AV},(x.map fun v=>(f v,H))=some (v,H')->H'=H/\∀ H2:List fa,(x.map fun v=>(f v,H2))=some (v,H2):=by
  intro α x f h;cases x with
  |none=>simp at h
  |some x=>simp at h;exact⟨h.2.symm,fun H2=>by simp[h.1]⟩
 cases op with
 |move x=>simp only[Ja,xb,Jb] at h ⊢;exact⟨h.2.symm,fun H2=>⟨h.1,trivial⟩⟩
 |pick c a b=>simp only[Ja,Hd,xb,Jb] at h ⊢;obtain⟨t,h1,h2,h3⟩:=h;exact⟨h3.symm,fun H2=>⟨t,h1,h2,trivial⟩⟩
 |DA n x=>
  simp only[Ja] at h ⊢
  split at h
  ·rename_i h0;simp only[if_pos h0];exact ob h
  ·cases h
 |build z ps=>exact ob h
 |bin o x y=>exact ob h
 |Sv kd ne x y=>simp only[Ja] at h ⊢;split at h <;> first | exact ob h | cases h
 |un o x=>exact ob h
 |conv k x=>exact ob h
 |mx xs=>exact ob h
 |mn xs=>exact ob h
 |Fw ix xs=>simp only[Ja,xb,Jb] at h ⊢;exact⟨h.2.symm,fun H2=>⟨h.1,trivial⟩⟩
 |gE off ag n x=>simp only[Ja] at h ⊢;split at h <;> first | exact ob h | cases h
 |ext i x=>simp only[Ja] at h ⊢;split at h <;> first | exact ob h | cases h
 |Lu n sz ag x i=>
  simp only[Ja] at h ⊢;cases hi:asInt (i.ev e) with
  |none=>simp[hi] at h
  |some k=>
   simp only[hi,Lc] at h ⊢
   split at h
   ·rename_i hx;simp only[if_pos hx];split at h <;> first | exact ob h | cases h
   ·cases h
 |VE x i=>
  simp only[Ja] at h ⊢;cases hi:asInt (i.ev e) with
  |none=>simp[hi] at h
  |some k=>
   simp only[hi,Lc] at h ⊢
   split at h
   ·split at h
    ·rename_i h0;simp only[if_pos h0];exact ob h
    ·cases h
   ·cases h
 |Fc hh sz ag len z ps=>
  cases hh with
  |lit=>
   simp only[Ja] at h ⊢;cases hf:cn (Yf z len) (ps.map fun p=>(p.1 * sz,sz,mh e p.2)) with
   |none=>simp[hf] at h
   |some cs=>
    simp only[hf,Lc] at h ⊢
    split at h
    ·rename_i h0;simp only[if_pos h0];exact TR h
    ·cases h
  |uq=>simp[Ka.cls,Qc.isLit,Qc.ui] at hc
  |own=>simp[Ka.cls,Qc.isLit,Qc.ui] at hc
 |Ow hh x=>
  cases hh with
  |lit=>
   simp only[Ja] at h ⊢
   split at h
   ·exact TR h
   ·cases h
  |uq=>simp[Ka.cls,Qc.isLit,Qc.ui] at hc
  |own=>simp[Ka.cls,Qc.isLit,Qc.ui] at hc
 |oj hh sz ag z b l c=>
  cases hh with
  |lit=>
   simp only[Ja] at h ⊢;cases hl:asInt (l.ev e) with
   |none=>simp[hl] at h
   |some l=>
    cases Di:asInt (c.ev e) with
    |none=>simp[hl,Di] at h
    |some c=>
     simp only[hl,Di,Lc] at h ⊢
     split at h
     ·rename_i h0;simp only[if_pos h0];exact TR h
     ·cases h
  |uq=>simp[Ka.cls,Qc.isLit,Qc.ui] at hc
  |own=>simp[Ka.cls,Qc.isLit,Qc.ui] at hc
 |append o hh _ _ _ _ _=>exfalso;simp only[Ka.cls] at hc;split at hc <;> first | cases hc | (split at hc <;> cases hc)
 |_=>simp[Ka.cls] at hc
theorem HL{call:Ab}{e:Tr}{H H':List fa}{op:Ka}{v:AV}(hc:op.cls=1)(h:Ja call e H op=some (v,H')):
 H'=H/\∀ H2,pf H H2->Ja call e H2 op=some (v,H2):=by
 have ob:∀ {α:Type}{g:List fa->Option α}{f:α->AV},((g H).map fun v=>(f v,H))=some (v,H')->(∀ H2 a,pf H H2->g H=some a->g H2=some a)->
  H'=H/\∀ H2:List fa,pf H H2->((g H2).map fun v=>(f v,H2))=some (v,H2):=by
  intro α g f h hg;cases hx:g H with
  |none=>simp[hx] at h
  |some x=>simp[hx] at h;exact⟨h.2.symm,fun H2 ha=>by simp[hg H2 x ha hx,h.1]⟩
 cases op with
 |load ag n x=>exact ob (g:=fun H=>wa H ag n (x.ev e)) h fun H2 a ha hp=>Bal ha hp
 |QA off x=>exact ob (g:=fun H=>place H off (x.ev e)) h fun H2 a ha hp=>AU ha hp
 |len k x=>exact ob (g:=fun H=>mb H k (x.ev e)) h fun H2 a ha hp=>pal ha hp
 |aD x=>exact ob (g:=fun H=>Ut H (x.ev e)) h fun H2 a ha hp=>Laa ha hp
 |eq k ne x y=>exact ob (g:=fun H=>Zd H k (x.ev e) (y.ev e)) h fun H2 a ha hp=>gae ha hp
 |OB x=>
  simp only[Ja] at h ⊢
  split at h
  ·simp only[xb,Jb] at h ⊢;exact⟨h.2.symm,fun H2 _=>⟨h.1,trivial⟩⟩
  ·exact ob (g:=fun H=>place H 0 (x.ev e)) h fun H2 a ha hp=>AU ha hp
 |Nd sz x i=>
  simp only[Ja] at h ⊢;cases hi:asInt (i.ev e) with
  |none=>simp[hi] at h
  |some k=>simp only[hi,Lc] at h ⊢;exact ob (g:=fun H=>Ua H sz (x.ev e) k.2) h fun H2 a ha hp=>Dak ha hp
 |Ry n sz x i=>
  simp only[Ja] at h ⊢;cases hi:asInt (i.ev e) with
  |none=>simp[hi] at h
  |some k=>
   simp only[hi,Lc] at h ⊢
   split at h
   ·rename_i h0
    simp only[if_pos h0];exact ob (g:=fun H=>place H (k.2.toNat * sz) (x.ev e)) h fun H2 a ha hp=>AU ha hp
   ·cases h
 |slice sz x lo hi=>
  cases lo with
  |none=>
   cases hi with
   |none=>exact ob (g:=fun H=>nh H sz (x.ev e) none none) h fun H2 a ha hp=>JO ha hp
   |some hi=>
    simp only[Ja] at h ⊢;cases hh:asInt (hi.ev e) with
    |none=>simp[hh] at h
    |some k=>simp only[hh,Lc] at h ⊢;exact ob (g:=fun H=>nh H sz (x.ev e) none (some k.2)) h fun H2 a ha hp=>JO ha hp
  |some lo=>
   cases hi with
   |none=>
    simp only[Ja] at h ⊢;cases hh:asInt (lo.ev e) with
    |none=>simp[hh] at h
    |some k=>simp only[hh,Lc] at h ⊢;exact ob (g:=fun H=>nh H sz (x.ev e) (some k.2) none) h fun H2 a ha hp=>JO ha hp
   |some hi=>
    simp only[Ja] at h ⊢;cases hl:asInt (lo.ev e) with
    |none=>simp[hl] at h
    |some l=>
     cases hh:asInt (hi.ev e) with
     |none=>simp[hl,hh] at h
     |some k=>simp only[hl,hh,Lc] at h ⊢;exact ob (g:=fun H=>nh H sz (x.ev e) (some l.2) (some k.2)) h fun H2 a ha hp=>JO ha hp
 |lookup kd z ok m k=>
  simp only[Ja] at h ⊢
  split at h
  ·split at h
   ·rename_i h0
    simp only[xb,Jb] at h;exact⟨h.2.symm,fun H2 _=>by rw[if_pos h0,h.1]⟩
   ·cases h
  ·rename_i id k' _ _
   split at h
   ·rename_i es Ma
    split at h
    ·rename_i h0
     simp only[dc] at h;obtain⟨r,h1,h2⟩:=h;cases r with
     |none=>simp only[Jb] at h2;exact⟨h2.2.symm,fun H2 ha=>by rw[ha _ _ Ma rfl];simp only[if_pos h0,h1,Vc,h2.1]⟩
     |some r=>simp only[Jb] at h2;exact⟨h2.2.symm,fun H2 ha=>by rw[ha _ _ Ma rfl];simp only[if_pos h0,h1,Vc,h2.1]⟩
    ·cases h
   ·cases h
  ·cases h
 |Sl F xs=>
  simp only[Ja,Hd] at h ⊢;obtain⟨ps,h1,r,h2,h3⟩:=h
  split at h3
  ·rename_i h5
   simp only[xb,Jb] at h3;obtain⟨h3,h4⟩:=h3;exact⟨h4.symm,fun H2 ha=>⟨ps,tar ha h1,r,h2,by rw[if_pos h5,h3]⟩⟩
  ·cases h3
 |Fc hh _ _ _ _ _=>cases hh <;> simp[Ka.cls,Qc.isLit,Qc.ui] at hc
 |Ow hh _=>cases hh <;> simp[Ka.cls,Qc.isLit,Qc.ui] at hc
 |oj hh _ _ _ _ _ _=>cases hh <;> simp[Ka.cls,Qc.isLit,Qc.ui] at hc
 |append o hh _ _ _ _ _=>cases o <;> cases hh <;> simp[Ka.cls,Qc.ui] at hc
 |_=>simp[Ka.cls] at hc
theorem YW{call:Ab}{e:Tr}{H H':List fa}{op:Ka}{v:AV}(hc:op.cls=2)(h:Ja call e H op=some (v,H')):pf H H'/\pf H' H:=by
 cases op with
 |Fc hh sz ag len z ps=>
  cases hh with
  |uq=>
   simp only[Ja] at h;cases hf:cn (Yf z len) (ps.map fun p=>(p.1 * sz,sz,mh e p.2)) with
   |none=>simp[hf] at h
   |some cs=>
    simp only[hf,Lc] at h
    split at h
    ·exact WR h
    ·cases h
  |lit=>simp[Ka.cls,Qc.isLit,Qc.ui] at hc
  |own=>simp[Ka.cls,Qc.isLit,Qc.ui] at hc
 |Ow hh x=>
  cases hh with
  |uq=>
   simp only[Ja] at h
   split at h
   ·exact WR h
   ·cases h
  |lit=>simp[Ka.cls,Qc.isLit,Qc.ui] at hc
  |own=>simp[Ka.cls,Qc.isLit,Qc.ui] at hc
 |oj hh sz ag z b l c=>
  cases hh with
  |uq=>
   simp only[Ja] at h;cases hl:asInt (l.ev e) with
   |none=>simp[hl] at h
   |some l=>
    cases Di:asInt (c.ev e) with
    |none=>simp[hl,Di] at h
    |some c=>
     simp only[hl,Di,Lc] at h
     split at h
     ·exact WR h
     ·cases h
  |lit=>simp[Ka.cls,Qc.isLit,Qc.ui] at hc
  |own=>simp[Ka.cls,Qc.isLit,Qc.ui] at hc
 |append o hh sz ag b s x=>
  cases o with
  |true=>simp[Ka.cls] at hc
  |false=>
   simp only[Ja,Ud,Sc,if_false] at h
   split at h
   ·split at h
    ·rename_i Ma
     simp only[Hd] at h;obtain⟨ys,h1,h2⟩:=h
     split at h2
     ·simp only[xb,Jb] at h2
      obtain⟨_,rfl⟩:=h2;exact pf.daq Ma _ _ _
     ·cases h2
    ·cases h
   ·simp only[Hd] at h
    obtain⟨ys,h1,h2⟩:=h
    split at h2
    ·unfold Dr at h2
     split at h2
     ·simp only[xb,Jb] at h2
      obtain⟨_,rfl⟩:=h2;exact⟨pf.refl _,pf.refl _⟩
     ·split at h2
      ·simp only[xb,Jb] at h2
       obtain⟨_,rfl⟩:=h2;exact⟨pf.refl _,pf.refl _⟩
      ·simp only[xb,Jb] at h2
       obtain⟨_,rfl⟩:=h2;exact⟨pf.push _ _,pf.E6 _ _ _ _⟩
      ·cases h2
    ·cases h2
   ·cases h
 |_=>simp[Ka.cls] at hc
theorem Gac{call:Ab}{e:Tr}{H H':List fa}{op:Ka}{v:AV}(hc:op.cls=3)(h:Ja call e H op=some (v,H')):pf H H':=by
 cases op with
 |alloc z=>simp only[Ja,xb,Jb] at h;obtain⟨_,rfl⟩:=h;exact pf.push _ _
 |box n x=>
  simp only[Ja] at h
  split at h
  ·simp only[xb,Jb] at h;obtain⟨_,rfl⟩:=h;exact pf.push _ _
  ·cases h
 |Fc hh sz ag len z ps=>
  cases hh with
  |own=>
   simp only[Ja] at h;cases hf:cn (Yf z len) (ps.map fun p=>(p.1 * sz,sz,mh e p.2)) with
   |none=>simp[hf] at h
   |some cs=>
    simp only[hf,Lc] at h
    split at h
    ·exact UR h
    ·cases h
  |lit=>simp[Ka.cls,Qc.isLit,Qc.ui] at hc
  |uq=>simp[Ka.cls,Qc.isLit,Qc.ui] at hc
 |Ow hh x=>
  cases hh with
  |own=>
   simp only[Ja] at h
   split at h
   ·exact UR h
   ·cases h
  |lit=>simp[Ka.cls,Qc.isLit,Qc.ui] at hc
  |uq=>simp[Ka.cls,Qc.isLit,Qc.ui] at hc
 |oj hh sz ag z b l c=>
  cases hh with
  |own=>
   simp only[Ja] at h;cases hl:asInt (l.ev e) with
   |none=>simp[hl] at h
   |some l=>
    cases Di:asInt (c.ev e) with
    |none=>simp[hl,Di] at h
    |some c=>
     simp only[hl,Di,Lc] at h
     split at h
     ·exact UR h
     ·cases h
  |lit=>simp[Ka.cls,Qc.isLit,Qc.ui] at hc
  |uq=>simp[Ka.cls,Qc.isLit,Qc.ui] at hc
 |append o hh _ _ _ _ _=>cases o <;> cases hh <;> simp[Ka.cls,Qc.ui] at hc
 |EA ix xs=>
  simp only[Ja,Hd] at h;obtain⟨r,_,h⟩:=h
  split at h
  ·next hs=>
   injection h with h
   subst h;exact T7 hs
  ·cases h
 |_=>simp[Ka.cls] at hc
def VQ(x y:Nat):Bool:=x==0||y==0||(x==1&&decide (y<=3))||(x==2&&y==1)
def Vb.cls(o:Vb):Nat:=if o.pr then 0 else o.op.cls
theorem JR{call:Ab}{e e':Tr}{H:List fa}{o:Vb}(h:BV (fun n=>o.op.look n) e e'):oi call e H o=oi call e' H o:=by
 unfold oi;rw[YX h,YX (H:=H) h]
theorem Z4{H:List fa}{r:Option (AV×List fa)}{v:AV}{H':List fa}(h:cz H r=some (v,H')):r=some (v,[])/\H'=H:=by
 unfold cz at h
 split at h
 ·simp only[xb,Jb] at h
  obtain⟨rfl,rfl⟩:=h;exact⟨rfl,rfl⟩
 ·cases h
theorem ZQ{call:Ab}{e:Tr}{H H':List fa}{o:Vb}{v:AV}(hc:o.cls=0)(h:oi call e H o=some (v,H')):H'=H/\∀ H2,oi call e H2 o=some (v,H2):=by
 unfold oi Vb.cls at *
 cases hp:o.pr with
 |true=>simp only[hp,cond_true] at h ⊢;obtain⟨h1,rfl⟩:=Z4 h;exact⟨rfl,fun H2=>by rw[h1];rfl⟩
 |false=>simp only[hp,cond_false,Sc,if_false] at h hc ⊢;exact XW hc h
theorem IL{call:Ab}{e:Tr}{H:List fa}{o:Vb}(hc:o.cls≠0):oi call e H o=Ja call e H o.op/\o.cls=o.op.cls:=by
 unfold oi Vb.cls at *
 cases hp:o.pr with
 |true=>simp[hp] at hc
 |false=>simp
theorem ear{call:Ab}{e:Tr}{H H1 H2:List fa}{x y:Vb}{v1 v2:AV}(hc:VQ x.cls y.cls=true)
 (h1:oi call e H x=some (v1,H1)) (h2:oi call e H1 y=some (v2,H2)):
 ∃ H3,oi call e H y=some (v2,H3)/\oi call e H3 x=some (v1,H2):=by
 simp only[VQ,Nr,beq_iff_eq,fb,decide_eq_true_eq] at hc;rcases hc with ((hx | hy) | ⟨hx,hy⟩) | ⟨hx,hy⟩
 ·obtain⟨rfl,h⟩:=ZQ hx h1
  exact⟨H2,h2,h H2⟩
 ·obtain⟨rfl,h⟩:=ZQ hy h2
  exact⟨H,h H,h1⟩
 ·have kx:=fun H=>IL (call:=call) (e:=e) (H:=H) (o:=x) (by omega)
  rw[(kx H).1] at h1;rw[(kx H).2] at hx;obtain⟨rfl,h⟩:=HL hx h1;refine⟨H2,h2,?_⟩;rw[(kx H2).1];refine h H2 ?_
  by_cases FT:y.cls=0
  ·rw[(ZQ FT h2).1];exact pf.refl _
  ·have ky:=IL (call:=call) (e:=e) (H:=H1) FT
   rw[ky.1] at h2;rw[ky.2] at hy FT;have:y.op.cls=1\/y.op.cls=2\/y.op.cls=3:=by omega
   rcases this with hy | hy | hy
   ·rw[(HL hy h2).1];exact pf.refl _
   ·exact (YW hy h2).1
   ·exact Gac hy h2
 ·have kx:=fun H=>IL (call:=call) (e:=e) (H:=H) (o:=x) (by omega)
  have ky:=fun H=>IL (call:=call) (e:=e) (H:=H) (o:=y) (by omega);rw[(kx H).1] at h1;rw[(kx H).2] at hx;rw[(ky H1).1] at h2;rw[(ky H).2] at hy;obtain⟨rfl,h⟩:=HL hy h2;exact⟨H,by rw[(ky H).1];exact h H (YW hx h1).2,by rw[(kx H).1];exact h1⟩
open Go.RowKit
def Hj(s s':St):Prop:=s.H=s'.H/\∀ t,s.env.get t=s'.env.get t
theorem Hj.refl(s:St):Hj s s:=⟨rfl,fun _=>rfl⟩
theorem Hj.symm{s s':St}(h:Hj s s'):Hj s' s:=⟨h.1.symm,fun t=>(h.2 t).symm⟩
theorem Hj.trans{s s' s'':St}(h:Hj s s')(k:Hj s' s''):Hj s s'':=⟨h.1.trans k.1,fun t=>(h.2 t).trans (k.2 t)⟩
def Vb.look(n:Nat)(o:Vb):Bool:=o.op.look n||(match o.guard with | some (t,_)=>n==t | none=>false)
def OD(d:Option Nat)(p:Nat->Bool):Bool:=
 match d with
 |some d=>p d
 |none=>false
def ID(x y:Vb):Bool:=
 !OD x.dst (fun d=>y.look d)&& !OD y.dst (fun d=>x.look d)&& !OD x.dst (fun d=>y.dst==some d)&&VQ x.cls y.cls
theorem wV{e e':Tr}{g:Option (Nat×Bool)}(h:∀ t b,g=some (t,b)->e.get t=e'.get t):tj e g=tj e' g:=by
 cases g with
 |none=>rfl
 |some g=>obtain⟨t,b⟩:=g;simp only[tj,h t b rfl]
theorem KH(e:Tr)(d:Option Nat)(v:AV)(t:Nat):(wi e d v).get t=if d=some t then v else e.get t:=by
 cases d with
 |none=>simp[wi]
 |some d=>
  simp only[wi,Tr.na,xb]
  by_cases h:t=d
  ·subst h;simp
  ·simp[h,tf h]
theorem mae{call:Ab}{o:Vb}{e e':Tr}{H:List fa}(h:∀ n,o.look n=true->e.get n=e'.get n){s1:St}(h1:Ph call o ⟨e,H⟩=some s1):
 ∃ v,s1.env=wi e o.dst v/\Ph call o ⟨e',H⟩=some ⟨wi e' o.dst v,s1.H⟩:=by
 have hw:tj e o.guard=tj e' o.guard:=wV fun t b hg=>h t (by simp[Vb.look,hg])
 have ho:oi call e H o=oi call e' H o:=JR fun n hn=>h n (by simp[Vb.look,hn]);unfold Ph at h1 ⊢;simp only at h1 ⊢;rw[<- hw];cases hc:tj e o.guard with
 |none=>simp[hc,mo] at h1
 |some b=>
  cases b with
  |true=>
   simp only[hc,mo,KA] at h1 ⊢;rw[<- ho];cases hv:oi call e H o with
   |none=>simp[hv,qq] at h1
   |some r=>obtain⟨v,H'⟩:=r;simp only[hv,qq,xb] at h1 ⊢;subst h1;exact⟨v,rfl,rfl⟩
  |false=>simp only[hc,mo,qC,xb] at h1 ⊢;subst h1;exact⟨_,rfl,rfl⟩
theorem nae{call:Ab}{o:Vb}{s s' s1:St}(he:Hj s s')(h:Ph call o s=some s1):∃ Nw,Ph call o s'=some Nw/\Hj s1 Nw:=by
 obtain⟨e,H⟩:=s;obtain⟨e',H'⟩:=s';obtain⟨h1,h2⟩:=he;simp only at h1 h2;subst h1;obtain⟨v,hv,hh⟩:=mae (e':=e') (fun n _=>h2 n) h;refine⟨_,hh,rfl,fun t=> ?_⟩;simp only[hv,KH,h2]
theorem oae{call:Ab}{os:List Vb}:∀ {s s' s1:St},Hj s s'->Qh call os s=some s1->∃ Nw,Qh call os s'=some Nw/\Hj s1 Nw:=by
 induction os with
 |nil=>intro s s' s1 he h;simp only[Qh,xb] at h ⊢;subst h;exact⟨s',rfl,he⟩
 |cons o os ih=>
  intro s s' s1 he h;simp only[Qh] at h ⊢;cases ho:Ph call o s with
  |none=>simp[ho,Bo] at h
  |some s2=>simp only[ho,Bo] at h;obtain⟨s2',h2,e2⟩:=nae he ho;obtain⟨Nw,h3,e3⟩:=ih e2 h;exact⟨Nw,by simp[h2,Bo,h3],e3⟩
theorem lM{call:Ab}{o:Vb}{e:Tr}{H:List fa}{s1:St}(h:Ph call o ⟨e,H⟩=some s1):
 (tj e o.guard=some true/\∃ v,oi call e H o=some (v,s1.H)/\s1.env=wi e o.dst v)\/
 (tj e o.guard=some false/\s1=⟨wi e o.dst (.pv (.Ba [])),H⟩):=by
 unfold Ph at h;simp only at h;cases hc:tj e o.guard with
 |none=>simp[hc,mo] at h
 |some b=>
  cases b with
  |true=>
   simp only[hc,mo,KA] at h;cases hv:oi call e H o with
   |none=>simp[hv,qq] at h
   |some r=>obtain⟨v,H'⟩:=r;simp only[hv,qq,xb] at h;subst h;exact .inl ⟨rfl,v,by simp,rfl⟩
  |false=>simp only[hc,mo,qC,xb] at h;exact .inr ⟨rfl,h.symm⟩
theorem kM{call:Ab}{o:Vb}{e:Tr}{H H':List fa}{v:AV}(h:tj e o.guard=some true)(hv:oi call e H o=some (v,H')):
 Ph call o ⟨e,H⟩=some ⟨wi e o.dst v,H'⟩:=by
 simp[Ph,h,mo,KA,hv,qq]
theorem mM{call:Ab}{o:Vb}{e:Tr}{H:List fa}(h:tj e o.guard=some false):
 Ph call o ⟨e,H⟩=some ⟨wi e o.dst (.pv (.Ba [])),H⟩:=by
 simp[Ph,h,mo,qC]
theorem eO{e:Tr}{x y:Option Nat}{v u:AV}(h:∀ d,x=some d->y≠some d)(t:Nat):(wi (wi e x v) y u).get t=(wi (wi e y u) x v).get t:=by
 simp only[KH]
 by_cases hx:x=some t
 ·have:=h t hx
  simp[hx,this]
 ·simp[hx]
theorem dar{call:Ab}{x y:Vb}{s s1 s2:St}(hc:ID x y=true)(h1:Ph call x s=some s1)(h2:Ph call y s1=some s2):
 ∃ s3 s4,Ph call y s=some s3/\Ph call x s3=some s4/\Hj s2 s4:=by
 obtain⟨e,H⟩:=s;simp only[ID,fb,Lo] at hc;obtain⟨⟨⟨ca,cb⟩,cc⟩,cd⟩:=hc;have ha:∀ d,x.dst=some d->y.look d=false:=fun d hd=>by simpa[OD,hd] using ca
 have hb:∀ d,y.dst=some d->x.look d=false:=fun d hd=>by simpa[OD,hd] using cb
 have Di:∀ d,x.dst=some d->y.dst≠some d:=fun d hd he=>by simp[OD,hd,he] at cc
 have lx:∀ (e:Tr)(u:AV) n,x.look n=true->(wi e y.dst u).get n=e.get n:=fun e u n hn=>by
  rw[KH]
  by_cases hd:y.dst=some n
  ·rw[hb n hd] at hn;cases hn
  ·simp[hd]
 have ly:∀ (e:Tr)(u:AV) n,y.look n=true->(wi e x.dst u).get n=e.get n:=fun e u n hn=>by
  rw[KH]
  by_cases hd:x.dst=some n
  ·rw[ha n hd] at hn;cases hn
  ·simp[hd]
 have wx:∀ (e:Tr) u,tj (wi e y.dst u) x.guard=tj e x.guard:=fun e u=>wV fun t b hg=>lx e u t (by simp[Vb.look,hg])
 have wy:∀ (e:Tr) u,tj (wi e x.dst u) y.guard=tj e y.guard:=fun e u=>wV fun t b hg=>ly e u t (by simp[Vb.look,hg])
 have ox:∀ (e:Tr) u H,oi call (wi e y.dst u) H x=oi call e H x:=fun e u H=>JR fun n hn=>lx e u n (by simp[Vb.look,hn]);have oy:∀ (e:Tr) u H,oi call (wi e x.dst u) H y=oi call e H y:=fun e u H=>JR fun n hn=>ly e u n (by simp[Vb.look,hn]);obtain⟨e1,H1⟩:=s1;obtain⟨e2,H2⟩:=s2;rcases lM h1 with⟨g1,v1,q1,r1⟩ | ⟨g1,r1⟩
 ·simp only at q1 r1
  subst r1;rcases lM h2 with⟨g2,v2,q2,r2⟩ | ⟨g2,r2⟩
  ·simp only at q2 r2
   subst r2;rw[wy] at g2;rw[oy] at q2;obtain⟨H3,k1,k2⟩:=ear cd q1 q2;exact⟨_,_,kM g2 k1,kM (by rw[wx];exact g1) (by rw[ox];exact k2),rfl,fun t=>eO Di t⟩
  ·injection r2 with r2 r3
   subst r2 r3;rw[wy] at g2;exact⟨_,_,mM g2,kM (by rw[wx];exact g1) (by rw[ox];exact q1),rfl,fun t=>eO Di t⟩
 ·injection r1 with r1 r3
  subst r1 r3;rcases lM h2 with⟨g2,v2,q2,r2⟩ | ⟨g2,r2⟩
  ·simp only at q2 r2
   subst r2;rw[wy] at g2;rw[oy] at q2;exact⟨_,_,kM g2 q2,mM (by rw[wx];exact g1),rfl,fun t=>eO Di t⟩
  ·injection r2 with r2 r3
   subst r2 r3;rw[wy] at g2;exact⟨_,_,mM g2,mM (by rw[wx];exact g1),rfl,fun t=>eO Di t⟩
theorem Aab{call:Ab}{y:Vb}{rest:List Vb}:∀ {pre:List Vb}{s s':St},(∀ x∈pre,ID x y=true)->Qh call (pre++y::rest) s=some s'->
 ∃ s1 s'',Ph call y s=some s1/\Qh call (pre++rest) s1=some s''/\Hj s' s'':=by
 intro pre
 induction pre with
 |nil=>
  intro s s' _ h;simp only[Kf,Qh] at h ⊢;cases ho:Ph call y s with
  |none=>simp[ho,Bo] at h
  |some s1=>simp only[ho,Bo] at h;exact⟨s1,s',rfl,h,Hj.refl _⟩
 |cons x pre ih=>
  intro s s' hc h;simp only[Sg,Qh] at h ⊢;cases ho:Ph call x s with
  |none=>simp[ho,Bo] at h
  |some s1=>simp only[ho,Bo] at h;obtain⟨s2,s'',k1,k2,k3⟩:=ih (fun z hz=>hc z (by simp[hz])) h;obtain⟨s3,s4,j1,j2,j3⟩:=dar (hc x (by simp)) ho k1;obtain⟨s5,i1,i2⟩:=oae j3 k2;exact⟨s3,s5,j1,by simp[j2,Bo,i1],k3.trans i2⟩
def mark(D:Nat):Deferred:={target:= .collected D,args:= #[]}
def Marks(w w':World)(a a':Act):Prop:=∃ Ds:List Nat,a'.defers=Ds.map mark++a.defers/\Ds.Nodup/\∀ D∈Ds,w.heap.size<=D/\w'.heap[D]? =some (.deferred (some []))
theorem Marks.same{w w':World}{a a':Act}(h:a'.defers=a.defers):Marks w w' a a':=⟨[],h,.nil,fun _ h=>by cases h⟩
theorem Marks.trans{B0:qd}{w w' Sn:World}{a a' Fx:Act}(h:Marks w w' a a')(k:Marks w' Sn a' Fx)(hb:Od B0 w' Sn)(hs:w.heap.size<=w'.heap.size):Marks w Sn a Fx:=by
 obtain⟨D1,e1,n1,k1⟩:=h;obtain⟨D2,e2,n2,k2⟩:=k;refine⟨D2++D1,by rw[e2,e1];simp,List.nodup_append.2 ⟨n2,n1,fun x hx y hy e=> ?_⟩,fun D hD=> ?_⟩
 ·subst e
  have:=er (k1 x hy).2
  have:=(k2 x hx).1
  omega
 ·rcases Bd.1 hD with h | h
  ·exact⟨Lj hs (k2 D h).1,(k2 D h).2⟩
  ·exact⟨(k1 D h).1,hb.qc _ _ (k1 D h).2 rfl⟩
def ak:Option Nat->Fence
 |none=>Fence.wide
 |some l=>Fence.wide.inRound l
theorem C7(ro:Option Nat)(f:FuncId):(ak ro).fn f:=by cases ro <;> trivial
theorem B7(ro:Option Nat):(ak ro).depth=none:=by cases ro <;> rfl
theorem iac{P:Program}{n:Nat}{f:FuncId}{args:Array Value}{w:World}{R:Ending->World->Prop}(ro:Option Nat)(h:Calls P f args w R):CallsIn (ak ro) n P f args w R:=by
 cases ro with
 |none=>exact callsIn_wide.2 h
 |some l=>exact (callsIn_wide (n:=n)).2 h
theorem yap{P:Program}{n:Nat}{row:String}{args:Array Value}{w:World}{R:Value->World->Prop}(ro:Option Nat)(h:Rows P row args w R):RowsIn (ak ro) n P row args w R:=by
 have:RowsIn Fence.wide n P row args w R:=fun c cs _=>let ⟨v,w',r,s⟩:=h c cs;⟨v,w',r,stepsIn_wide.2 s⟩
 cases ro with
 |none=>exact this
 |some l=>exact this
theorem U9{P:Program}{n:Nat}{o:Oper}{a:Act}{w:World}{next:Act->World->Prop}{Q:Exit->Act->World->Prop}(ro:Option Nat)(hd:∀ c,o.op≠ .defer c)(h:o.wp P a w next Q):o.wpIn (ak ro) n P a w next Q:=by
 refine⟨fun f _=>C7 ro f,?_⟩;rw[Oper.semAt_eq _ _ _ hd];unfold Oper.wp at h
 generalize (execOp a.eval o).run P w=r at h ⊢
 cases r with
 |ok x w'=>
  cases x <;> simp only[Oper.upon,Oper.uponIn] at h ⊢ <;> first
   |exact h
   |exact⟨fun hx=>by (rw[B7] at hx;cases hx),iac ro h⟩
   |exact⟨fun hx=>by (rw[B7] at hx;cases hx),yap ro h⟩
   |exact h.elim
 |halt x w'=>cases x <;> simp only[Oper.upon,Oper.uponIn] at h ⊢ <;> exact h
structure ch(fo:Nat->FuncId)(B0:qd)(w:World)(R:Rd)(φ:Pl)(H:List fa)(a:Act)(w':World)(R':Rd)(φ':Pl)(s':St)(a':Act):Prop where
 rel:Lb fo B0 w' R' φ' s'.H
 env:ye fo (K R' φ' s'.H) s'.env a'
 mono:∀ x u,K R φ H x u->K R' φ' s'.H x u
 below:Od B0 w w'
 size:a'.tmps.size=a.tmps.size
 defers:Marks w w' a a'
section
variable {P:Program}{fo:Nat->FuncId}{B0:qd}{call:Ab}
theorem ch.refl{w:World}{R:Rd}{φ:Pl}{s:St}{a:Act}(hS:Lb fo B0 w R φ s.H)(hE:ye fo (K R φ s.H) s.env a):ch fo B0 w R φ s.H a w R φ s a:=
 ⟨hS,hE,fun _ _ h=>h,Od.refl _ _,rfl,.same rfl⟩
theorem ch.trans{w w' Sn:World}{R R' qv:Rd}{φ φ' φ'':Pl}{H:List fa}{s' s'':St}{a a' Fx:Act}
 (h:ch fo B0 w R φ H a w' R' φ' s' a') (k:ch fo B0 w' R' φ' s'.H a' Sn qv φ'' s'' Fx):ch fo B0 w R φ H a Sn qv φ'' s'' Fx:=
 ⟨k.rel,k.env,fun x u hx=>k.mono _ _ (h.mono _ _ hx),h.below.trans k.below,k.size.trans h.size,h.defers.trans k.defers k.below h.below.size⟩
theorem ch.eqv{w w':World}{R R':Rd}{φ φ':Pl}{H:List fa}{s' s'':St}{a a':Act}(h:ch fo B0 w R φ H a w' R' φ' s' a')(he:Hj s' s''):ch fo B0 w R φ H a w' R' φ' s'' a':=by
 obtain⟨e1,e2⟩:=he;exact⟨e1 ▸ h.rel,fun t=>by rw[<- e2,<-e1];exact h.env t,e1 ▸ h.mono,h.below,h.size,h.defers⟩
theorem Lb.drew{w w':World}{R:Rd}{φ:Pl}{H:List fa}(h:Lb fo B0 w R φ H)(hw:w'.heap=w.heap):Lb fo B0 w' R φ H:=by
 have hb:∀ b arr,xg w b arr->xg w' b arr:=fun b arr hb=>hb.qc (by rw[hw])
 refine⟨by rw[hw];exact h.low,fun b o v hv=>by rw[<- h.sub b o v hv];simp[World.cell?,hw],fun id o ho=> ?_,h.inj,h.Wd,fun k hk=>by rw[hw];exact h.slt k hk,h.free⟩;have:=h.obj id o ho
 cases o with
 |box cells=>exact⟨this.1,this.2.1,this.2.2.1,this.2.2.2.imp fun arr q=>⟨hb _ _ q.1,q.2⟩⟩
 |seq sz ag cells fl nl=>exact⟨this.1,this.2.1,this.2.2.1,this.2.2.2.1,fun e=>⟨(this.2.2.2.2 e).1,(this.2.2.2.2 e).2.1,(this.2.2.2.2 e).2.2.imp fun arr q=>⟨hb _ _ q.1,q.2⟩⟩⟩
 |tok sz n nl=>exact⟨this.1,this.2.1,fun e=>⟨(this.2.2 e).1,(this.2.2 e).2.1,(this.2.2 e).2.2.imp fun arr q=>⟨hb _ _ q.1,q.2⟩⟩⟩
 |map es=>obtain⟨h1,h2,te,clk,h3,h4⟩:=this;exact⟨h1,h2,te,clk,by rw[hw];exact h3,h4⟩
 |dead=>trivial
theorem ye.put{k:AV->Value->Prop}{e:Tr}{a:Act}(h:ye fo k e a)(d:Option Nat)(hd:∀ t,d=some t->t < a.tmps.size){v:AV}{u:Value}(hv:Yb fo k v u):
 ye fo k (wi e d v) (a.put d u):=by
 intro t;rw[KH];cases d with
 |none=>simp only[reduceCtorEq,if_false];exact h t
 |some d=>
  by_cases ht:d=t
  ·subst ht
   simp only[if_true,Act.put];rw[Sm,Array.getElem?_setIfInBounds_self_of_lt (hd d rfl)];exact hv
  ·simp only[xb,ht,if_false,Act.put]
   rw[Sm,Array.getElem?_setIfInBounds_ne ht,<-Sm];exact h t
def TB(nt:Nat)(ops:Array Oper)(o:Oper)(ao:Vb):Bool:=
 o.dst==ao.dst&&(match o.dst with | some d=>decide (d < nt) | none=>true)&&
 (match o.guard,ao.guard with
 |none,none=>true
 |some (g,want),some (t,S9)=>want==S9&&((ops[g]?).bind (·.dst))==some t
 |_,_=>false)
def vP(P:Program)(fo:Nat->FuncId)(B0:qd)(call:Ab)(o:Oper)(ao:Vb):Prop:=
 ∀ (w:World)(R:Rd)(φ:Pl)(e:Tr)(H H':List fa)(a:Act)(v:AV),Lb fo B0 w R φ H->ye fo (K R φ H) e a->oi call e H ao=some (v,H')->nv P fo B0 o a w R φ H v H'
theorem T9{nt:Nat}{ops:Array Oper}{o:Oper}{ao:Vb}(hk:TB nt ops o ao=true){k:AV->Value->Prop}{R:Rd}{φ:Pl}{H:List fa}{e:Tr}{a:Act}(hE:ye fo (K R φ H) e a){b:Bool}
 (h:tj e ao.guard=some b):Region.wanted o (yielded ops a.tmps)=b:=by
 simp only[TB,fb] at hk;obtain⟨_,hg⟩:=hk;unfold Region.wanted
 cases h1:o.guard with
 |none=>
  cases h2:ao.guard with
  |none=>simp[h2,tj] at h;simp[h]
  |some g=>simp[h1,h2] at hg
 |some g=>
  obtain⟨g,want⟩:=g;cases h2:ao.guard with
  |none=>simp[h1,h2] at hg
  |some g'=>
   obtain⟨t,S9⟩:=g';simp only[h1,h2,fb,beq_iff_eq] at hg;obtain⟨rfl,hg⟩:=hg;have ht:=hE t;simp only[h2,tj] at h;simp only[yielded,hg,Lc]
   split at h
   ·rename_i b' hb
    rw[hb] at ht;have:=ht.xd
    injection h with h
    cases hv:a.tmps[t]? with
    |none=>rw[Sm,hv] at this;cases this
    |some v=>rw[Sm,hv] at this;simp only[ov] at this;cases this;simp only[<- h];cases b' <;> cases want <;> rfl
   ·rename_i hb
    rw[hb] at ht;have:=ht.xd
    injection h with h
    subst h;cases hv:a.tmps[t]? with
    |none=>simp
    |some v=>rw[Sm,hv] at this;simp only[ov] at this;cases this;simp
   ·cases h
theorem u5{nt:Nat}{ops:Array Oper}{i:Nat}{o:Oper}{ao:Vb}(hi:ops[i]? =some o)(hk:TB nt ops o ao=true)(ho:vP P fo B0 call o ao)(Tp:∀ c,o.op≠ .defer c)(ro:Option Nat){n:Nat}
 {w:World} {R:Rd} {φ:Pl} {s s1:St} {a:Act} (hS:Lb fo B0 w R φ s.H) (hE:ye fo (K R φ s.H) s.env a) (hn:a.tmps.size=nt) (h:Ph call ao s=some s1)
 {Q:Exit->Act->World->Prop} {next:Act->World->Prop} (hq:∀ a' w' R' φ',ch fo B0 w R φ s.H a w' R' φ' s1 a'->next a' w'):wpOpIn (ak ro) n P ops Q i next a w:=by
 have vo:=hk;simp only[TB,fb,beq_iff_eq] at vo;obtain⟨⟨hd,hlt⟩,_⟩:=vo;have Lg:∀ t,ao.dst=some t->t < a.tmps.size:=fun t ht=>by rw[hd,ht] at hlt;rw[hn];simpa using hlt
 have sz:∀ (a:Act)(d:Option Nat)(u:Value),(a.put d u).tmps.size=a.tmps.size:=fun a d u=>by cases d <;> simp[Act.put]
 have df:∀ (a:Act)(d:Option Nat)(u:Value),(a.put d u).defers=a.defers:=fun a d u=>by cases d <;> rfl
 obtain⟨e,H⟩:=s;unfold wpOpIn;simp only[hi];rcases lM h with⟨g,v,q,r⟩ | ⟨g,r⟩
 ·rw[T9 (k:=fun _ _=>True) hk hE g]
  simp only[if_true];refine U9 ro Tp (ho w R φ e H s1.H a v hS hE q next Q fun v' w' R' φ' h1 h2 h3 h4=>hq _ _ R' φ' ⟨h1,?_,h3,h4,sz _ _ _,.same (df _ _ _)⟩);rw[r,hd];exact (hE.mono h3).put ao.dst Lg h2
 ·rw[T9 (k:=fun _ _=>True) hk hE g]
  simp only[Sc,if_false];subst r;refine⟨fun f _=>C7 ro f,hq _ _ R φ ⟨hS,?_,fun _ _ h=>h,Od.refl _ _,sz _ _ _,.same (df _ _ _)⟩⟩;rw[hd];exact hE.put ao.dst Lg (.atom _ _ (show Na R _ _ from .Ba _ _ .nil))
def xl(aops:List Vb)(L:List Nat):List Vb:=L.filterMap (aops[·]?)
theorem Z7{aops:List Vb}{i:Nat}{ao:Vb}(h:aops[i]? =some ao)(L:List Nat):xl aops (i::L)=ao::xl aops L:=by simp[xl,h]
theorem WU(aops:List Vb)(L M:List Nat):xl aops (L++M)=xl aops L++xl aops M:=by simp[xl]
theorem e8(aops:List Vb):xl aops (List.range aops.length)=aops:=by
 suffices ∀ n,n<=aops.length->xl aops (List.range n)=aops.take n by simpa using this aops.length (gb _)
 intro n
 induction n with
 |zero=>intro _;simp[xl]
 |succ n ih=>intro h;rw[jv,WU,ih (by omega),GK];simp[xl,Rb (show n < aops.length by omega)]
structure lG(P:Program)(fo:Nat->FuncId)(B0:qd)(call:Ab)(nt:Nat)(ops:Array Oper)(aops:List Vb):Prop where
 len:aops.length=ops.size
 slot:∀ (i:Nat)(o:Oper)(ao:Vb),ops[i]? =some o->aops[i]? =some ao->TB nt ops o ao=true
 C5:∀ (i:Nat)(o:Oper)(ao:Vb),ops[i]? =some o->aops[i]? =some ao->vP P fo B0 call o ao
 nd:∀ (i:Nat)(o:Oper)(ao:Vb),ops[i]? =some o->aops[i]? =some ao->∀ c,o.op≠ .defer c
theorem Pam(ro:Option Nat){n:Nat}{nt:Nat}{ops:Array Oper}{aops:List Vb}(hs:lG P fo B0 call nt ops aops){Q:Exit->Act->World->Prop}:∀ (L:List Nat),(∀ i∈L,i < ops.size)->∀ {w:World}{R:Rd}{φ:Pl}{s s':St}{a:Act},
 Lb fo B0 w R φ s.H->ye fo (K R φ s.H) s.env a->a.tmps.size=nt->Qh call (xl aops L) s=some s'->
 (∀ a' w' R' φ',ch fo B0 w R φ s.H a w' R' φ' s' a'->Q .normal a' w')->wpOpsIn (ak ro) n P ops Q L a w:=by
 intro L
 induction L with
 |nil=>intro _ w R φ s s' a hS hE hn h hq;simp only[xl,List.filterMap_nil,Qh,xb] at h;subst h;exact hq _ _ R φ (.refl hS hE)
 |cons i L ih=>
  intro hL w R φ s s' a hS hE hn h hq;have hi:i < ops.size:=hL i (by simp)
  have h1:ops[i]? =some ops[i]:=MJ hi;have h2:aops[i]? =some (aops[i]'(by rw[hs.len];exact hi)):=Rb _;rw[Z7 h2,Qh] at h;cases ho:Ph call (aops[i]'(by rw[hs.len];exact hi)) s with
  |none=>simp[ho,Bo] at h
  |some s1=>simp only[ho,Bo] at h;rw[wpOpsIn_cons];refine u5 h1 (hs.slot _ _ _ h1 h2) (hs.C5 _ _ _ h1 h2) (hs.nd _ _ _ h1 h2) ro hS hE hn ho fun a' w' R' φ' g=> ?_;exact ih (fun j hj=>hL j (by simp[hj])) g.rel g.env (g.size.trans hn) h fun Fx Sn qv φ'' g'=>hq _ _ _ _ (g.trans g')
theorem v7(ro:Option Nat){n:Nat}{nt:Nat}{id:Nat}{ops:Array Oper}{aops:List Vb}(hs:lG P fo B0 call nt ops aops){Q:Exit->Act->World->Prop}{w:World}{R:Rd}{φ:Pl}{s s':St}{a:Act}
 (hS:Lb fo B0 w R φ s.H) (hE:ye fo (K R φ s.H) s.env a) (hn:a.tmps.size=nt) (h:Qh call aops s=some s')
 (hq:∀ a' w' R' φ',ch fo B0 w R φ s.H a w' R' φ' s' a'->Q .normal a' w'):(Code.region id ops false).wpIn (ak ro) n P Q a w:=
 wpIn_region (Pam ro hs _ (fun i hi=>Jq.1 hi) hS hE hn (by rw[<- hs.len,e8];exact h) hq)
def cA(ops:Array Oper):Nat->Nat->Nat->Bool
 |0,_,_=>false
 |f+1,j,i=>
  match ops[i]? with
  |some o=>o.after.toList.any fun e=>Region.binds .any e&&(e.on==j||(decide (j < e.on)&&cA ops f j e.on))
  |none=>false
def oU(ops:Array Oper)(aops:List Vb):Bool:=
 (List.range ops.size).all fun i=>
  (match ops[i]? with | some o=>o.after.toList.all fun e=> !Region.binds .any e||decide (e.on < i) | none=>true)&&
  (List.range i).all fun j=>
   (match aops[j]?,aops[i]? with
   |some x,some y=>ID x y
   |_,_=>false)||cA ops 8 j i
def Jk(ops:Array Oper)(de:Array Bool):List Nat:=(List.range ops.size).filter fun i=> !de.getD i true
def jaa(ops:Array Oper)(de:Array Bool):Prop:=∀ f j k,cA ops f j k=true->de.getD k true=true->k < ops.size->de.getD j true=true
theorem YR{de:Array Bool}{i:Nat}(h:i < de.size):de.getD i true=de.getD i false:=by
 simp[Sm,h]
theorem Kad(ro:Option Nat){nn:Nat}{nt:Nat}{ops:Array Oper}{aops:List Vb}(hs:lG P fo B0 call nt ops aops)(hd:oU ops aops=true){Q:Exit->Act->World->Prop}:∀ (n:Nat)(de:Array Bool){w:World}{R:Rd}{φ:Pl}{s s' s'':St}{a:Act},
 (Jk ops de).length<=n->de.size=ops.size->jaa ops de->Lb fo B0 w R φ s.H->ye fo (K R φ s.H) s.env a->a.tmps.size=nt->
 Qh call (xl aops (Jk ops de)) s=some s''->Hj s' s''->
 (∀ a' w' R' φ',ch fo B0 w R φ s.H a w' R' φ' s' a'->Q .normal a' w')->wpAnyIn (ak ro) nn P .any ops Q n de a w:=by
 have TM:∀ i,i < ops.size->(∀ o,ops[i]? =some o->∀ e∈o.after,Region.binds .any e=true->e.on < i)/\∀ j,j < i->(∀ x y,aops[j]? =some x->aops[i]? =some y->ID x y=true)\/cA ops 8 j i=true:=by
  intro i hi;have:=Df.1 hd i (Jq.2 hi)
  simp only[fb] at this;refine⟨fun o ho e he hb=> ?_,fun j hj=> ?_⟩
  ·have h1:=this.1
   simp only[ho] at h1;have:=Df.1 h1 e (by simpa using he)
   simpa[hb] using this
  ·have h2:=Df.1 this.2 j (Jq.2 hj)
   simp only[Nr] at h2;rcases h2 with h2 | h2
   ·left;intro x y hx hy;simpa[hx,hy] using h2
   ·exact .inr h2
 have empty:∀ (de:Array Bool),de.size=ops.size->Region.ready .any ops de=[]->Jk ops de=[]:=by
  intro de ib hr;cases BI:Jk ops de with
  |nil=>rfl
  |cons i rest=>
   exfalso;have ME:(Jk ops de).Pairwise (· < ·):=List.Pairwise.filter _ List.pairwise_lt_range
   have hmem:i∈Jk ops de:=by rw[BI];simp
   have oZ:=List.mem_filter.1 hmem
   have hi:=Jq.1 oZ.1
   have h1:ops[i]? =some ops[i]:=MJ hi;have:i∈Region.ready .any ops de:=by
    rw[mem_ready];refine⟨by simpa using oZ.2,_,h1,fun e he hb=> ?_⟩;have hlt:=(TM i hi).1 _ h1 e he hb
    rw[<- YR (by omega)];cases hg:de.getD e.on true with
    |true=>rfl
    |false=>
     exfalso;have:e.on∈Jk ops de:=List.mem_filter.2 ⟨Jq.2 (by omega),by simp[hg]⟩
     rw[BI] at this ME;rcases Ae.1 this with sy | sy
     ·omega
     ·have:=(eG.1 ME).1 _ sy;omega
   rw[hr] at this;cases this
 have done:∀ (de:Array Bool){w:World}{R:Rd}{φ:Pl}{s s' s'':St}{a:Act},de.size=ops.size->Lb fo B0 w R φ s.H->ye fo (K R φ s.H) s.env a->
  Qh call (xl aops (Jk ops de)) s=some s''->Hj s' s''->(∀ a' w' R' φ',ch fo B0 w R φ s.H a w' R' φ' s' a'->Q .normal a' w')->Region.ready .any ops de=[]->Q .normal a w:=by
  intro de w R φ s s' s'' a ib hS hE Da he hq hr;rw[empty de ib hr] at Da;simp only[xl,List.filterMap_nil,Qh,xb] at Da;subst Da;exact hq _ _ R φ ((ch.refl hS hE).eqv he.symm)
 intro n
 induction n with
 |zero=>
  intro de w R φ s s' s'' a hlen ib fc hS hE hn Da he hq;have yB:Jk ops de=[]:=Ze (by omega);have hr:Region.ready .any ops de=[]:=by
   cases hr:Region.ready .any ops de with
   |nil=>rfl
   |cons i rest=>
    exfalso;have hi:i∈Region.ready .any ops de:=by rw[hr];simp
    obtain⟨h0,o,ho,_⟩:=mem_ready.1 hi
    have:i∈Jk ops de:=List.mem_filter.2 ⟨Jq.2 (HF.1 ho).1,by simp[h0]⟩
    rw[yB] at this;cases this
  exact⟨hr,done de ib hS hE Da he hq hr⟩
 |succ n ih=>
  intro de w R φ s s' s'' a hlen ib fc hS hE hn Da he hq;refine⟨done de ib hS hE Da he hq,fun i hi=> ?_⟩;obtain⟨h0,o,ho,XY⟩:=mem_ready.1 hi
  have xE:i < ops.size:=(HF.1 ho).1
  have pn:aops[i]? =some (aops[i]'(by rw[hs.len];exact xE)):=Rb _;generalize aops[i]'(by rw[hs.len];exact xE)=ao at pn;have hmem:i∈Jk ops de:=List.mem_filter.2 ⟨Jq.2 xE,by simp[h0]⟩
  have ME:(Jk ops de).Pairwise (· < ·):=List.Pairwise.filter _ List.pairwise_lt_range
  obtain⟨pre,post,DI⟩:=List.append_of_mem hmem
  rw[DI] at ME;rw[FK] at ME;obtain⟨_,yr,iw⟩:=ME;have TZ:Jk ops (de.setIfInBounds i true)=pre++post:=by
   have:Jk ops (de.setIfInBounds i true)=(Jk ops de).filter (fun j=>decide (j≠i)):=by
    unfold Jk;rw[List.filter_filter];apply List.filter_congr
    intro j hj
    by_cases Ei:j=i
    ·subst Ei
     have:(de.setIfInBounds j true).getD j true=true:=by rw[Sm,Array.getElem?_setIfInBounds_self_of_lt (by omega)];rfl
     simp[this]
    ·rw[getD_set_ne true (tf Ei)];simp[Ei]
   rw[this,DI,List.filter_append,List.filter_cons];simp only[ne_eq,not_true_eq_false,decide_false,Sc,if_false];rw[List.filter_eq_self.2 fun j hj=>by have:=iw j hj i (by simp);simp;omega,
    List.filter_eq_self.2 fun j hj=>by have:=(eG.1 yr).1 j hj;simp;omega]
  have Pah:∀ x∈xl aops pre,ID x ao=true:=by
   intro x hx;simp only[xl,List.mem_filterMap] at hx;obtain⟨j,hj,hxj⟩:=hx;have Ei:j < i:=iw j hj i (by simp);rcases (TM i xE).2 j Ei with h | h
   ·exact h x ao hxj pn
   ·exfalso
    have Mai:j∈Jk ops de:=by rw[DI];simp[hj]
    have Vs:de.getD j true=false:=by simpa using (List.mem_filter.1 Mai).2
    rw[show (8:Nat)=7+1 from rfl] at h;simp only[cA,ho] at h;obtain⟨ed,Yv,hb⟩:=OC.1 h
    simp only[fb,Nr,beq_iff_eq,decide_eq_true_eq] at hb;obtain⟨ff,Vd⟩:=hb;have hl:=XY ed (by simpa using Yv) ff;have hlt:=(TM i xE).1 o ho ed (by simpa using Yv) ff
    have Uf:de.getD ed.on true=true:=by rw[YR (by omega)];exact hl
    rcases Vd with rfl | ⟨_,Vd⟩
    ·rw[Uf] at Vs;cases Vs
    ·rw[fc 7 j ed.on Vd Uf (by omega)] at Vs;cases Vs
  rw[DI,WU,Z7 pn] at Da;obtain⟨s1,s2,k1,k2,k3⟩:=Aab Pah Da;refine u5 ho (hs.slot _ _ _ ho pn) (hs.C5 _ _ _ ho pn) (hs.nd _ _ _ ho pn) ro hS hE hn k1 fun a' w' R' φ' g=> ?_;refine ih (de.setIfInBounds i true) (s':=s') (s'':=s2) ?_ (by simp[ib]) ?_ g.rel g.env (g.size.trans hn) (by rw[TZ,WU];exact k2) (he.trans k3) fun Fx Sn qv φ'' g'=>hq _ _ _ _ (g.trans g')
  ·rw[TZ];rw[DI] at hlen;simp at hlen ⊢;omega
  ·intro f j k MM hk Pai
   by_cases Ei:j=i
   ·subst Ei
    rw[Sm,Array.getElem?_setIfInBounds_self_of_lt (by omega)];rfl
   rw[getD_set_ne true (tf Ei)]
   by_cases kI:k=i
   ·subst kI
    cases f with
    |zero=>simp[cA] at MM
    |succ f=>
     simp only[cA,ho] at MM;obtain⟨ed,Yv,hb⟩:=OC.1 MM
     simp only[fb,Nr,beq_iff_eq,decide_eq_true_eq] at hb;obtain⟨ff,Vd⟩:=hb;have hl:=XY ed (by simpa using Yv) ff;have hlt:=(TM k xE).1 o ho ed (by simpa using Yv) ff
     have Uf:de.getD ed.on true=true:=by rw[YR (by omega)];exact hl
     rcases Vd with rfl | ⟨_,Vd⟩
     ·exact Uf
     ·exact fc f j ed.on Vd Uf (by omega)
   ·rw[getD_set_ne true (tf kI)] at hk
    exact fc f j k MM hk Pai
theorem Oao(ro:Option Nat){n:Nat}{nt:Nat}{id:Nat}{ops:Array Oper}{aops:List Vb}(hm:P.follows .mixedOrders=true)(hs:lG P fo B0 call nt ops aops)(hd:oU ops aops=true){Q:Exit->Act->World->Prop}{w:World}{R:Rd}{φ:Pl}{s s':St}{a:Act}
 (hS:Lb fo B0 w R φ s.H) (hE:ye fo (K R φ s.H) s.env a) (hn:a.tmps.size=nt) (h:Qh call aops s=some s')
 (hq:∀ a' w' R' φ',ch fo B0 w R φ s.H a w' R' φ' s' a'->Q .normal a' w'):(Code.region id ops true).wpIn (ak ro) n P Q a w:=by
 have BI:Jk ops (Array.replicate ops.size false)=List.range ops.size:=by
  unfold Jk;apply List.filter_eq_self.2
  intro i hi;rw[Jq] at hi;simp[Sm,hi]
 refine wpIn_region_any hm (Kad ro hs hd ops.size _ (s':=s') (s'':=s') (s:=s) (R:=R) (φ:=φ) (by rw[BI];simp) (by simp) ?_ (hS.drew rfl) hE hn ?_ (Hj.refl _) ?_)
 ·intro f j k _ hk hlt
  simp[Sm,hlt] at hk
 ·rw[BI,<-hs.len,e8];exact h
 ·intro a' w' R' φ' g
  exact hq _ _ _ _ ⟨g.rel,g.env,g.mono,Od.trans ⟨(RowKit.Below.refl _ w).drew,fun _ _ h _=>h,fun _ _=>rfl⟩ g.below,g.size,g.defers⟩
end
section
variable {P:Program}{fo:Nat->FuncId}{B0:qd}
def Rw(w:World):Rd:=fun b o=>w.cell? ⟨b,o,none⟩
theorem XT{α β:Type}{f:α->Option β}:∀ {l:List α}{r:List β},Ha f l=some r->r.length=l.length/\∀ (i:Nat)(x:α),l[i]? =some x->∃ y,r[i]? =some y/\f x=some y:=by
 intro l
 induction l with
 |nil=>intro r h;simp[Ha] at h;subst h;exact⟨rfl,fun i x h=>by simp at h⟩
 |cons a l ih=>
  intro r h;simp only[Ha,Hd,xb] at h;obtain⟨b,h1,bs,h2,rfl⟩:=h;obtain⟨k1,k2⟩:=ih h2;refine⟨by simp[k1],fun i x hx=> ?_⟩;cases i with
  |zero=>simp at hx;subst hx;exact⟨b,rfl,h1⟩
  |succ i=>simpa using k2 i x (by simpa using hx)
theorem sar{H:List fa}{d:Nat}{v:AV}{p:PV}(h1:v.one=true)(h:qb H d v=some p):Ru p=true:=by
 cases v with
 |pv q=>simp[qb] at h;subst h;exact h1
 |uq id nl sz es=>simp[qb] at h;subst h;cases nl <;> rfl
 |ptr id off=>
  cases d with
  |zero=>simp[qb] at h
  |succ d=>
   simp only[qb] at h
   split at h
   ·simp only[dc] at h;obtain⟨ps,_,rfl⟩:=h;rfl
   ·cases h
 |own id len=>
  cases d with
  |zero=>simp[qb] at h
  |succ d=>
   simp only[qb] at h
   split at h
   ·split at h
    ·rename_i nl _ _
     cases nl with
     |true=>simp at h;subst h;rfl
     |false=>simp only[Sc,if_false,dc] at h;obtain⟨ps,_,rfl⟩:=h;rfl
    ·cases h
   ·cases h
 |Sb=>cases d <;> simp[qb] at h
 |Ec=>cases d <;> simp[qb] at h
 |mp=>cases d <;> simp[qb] at h
 |undef=>cases d <;> simp[qb] at h
 |agg=>simp[AV.one] at h1
 |Ba=>simp[AV.one] at h1
theorem war{H:List fa}{d:Nat}{cs:List AV}{ps:List PV}(h1:cs.all AV.one=true)(h:Ha (qb H d) cs=some ps):∀ p∈ps,Ru p=true:=by
 obtain⟨k1,k2⟩:=XT h;intro p hp;obtain⟨i,hi⟩:=Ax.1 hp
 have hlt:=getElem?_lt hi;have hx:cs[i]? =some (cs[i]'(by omega)):=Rb _;obtain⟨y,Mm,Ar⟩:=k2 i _ hx;rw[hi] at Mm;injection Mm with Mm;subst Mm
 exact sar (Df.1 h1 _ (ic _)) Ar
theorem n9{w:World}{R Q:Rd}{φ:Pl}{H:List fa}(hS:Lb fo B0 w R φ H)(hsub:Sub R Q)(hQ:∀ b o v,B0.n<=b->w.cell? ⟨b,o,none⟩=some v->Q b o=some v):∀ (d:Nat){v:AV}{u:Value}{p:PV},Yb fo (K R φ H) v u->qb H d v=some p->Na Q p u:=by
 intro d
 induction d with
 |zero=>
  intro v u p hv h;cases v with
  |pv q=>simp[qb] at h;subst h;exact hv.xd.mono hsub
  |uq id nl sz es=>
   simp[qb] at h;have h1:=hv.Tw
   cases nl with
   |true=>simp at h;subst h;rw[(h1.2.1 rfl).1];exact .oa
   |false=>simp at h;subst h;exact (h1.2.2.1 rfl).mono hsub
  |_=>simp[qb] at h
 |succ d ih=>
  have many:∀ {cs:List AV}{ps:List PV}{vs:List Value},Qb fo (K R φ H) cs vs->Ha (qb H d) cs=some ps->Cc Q ps vs:=by
   intro cs
   induction cs with
   |nil=>intro ps vs hl h;simp[Ha] at h;subst h;cases hl;exact .nil
   |cons c cs ihc=>
    intro ps vs hl h;simp only[Ha,Hd,xb] at h;obtain⟨b,h1,bs,h2,rfl⟩:=h;cases hl with
    |cons _ _ v vs hc Kg=>exact .cons _ _ _ _ (ih hc h1) (ihc Kg h2)
  intro v u p hv h;cases v with
  |pv q=>simp[qb] at h;subst h;exact hv.xd.mono hsub
  |uq id nl sz es=>
   simp[qb] at h;have h1:=hv.Tw
   cases nl with
   |true=>simp at h;subst h;rw[(h1.2.1 rfl).1];exact .oa
   |false=>simp at h;subst h;exact (h1.2.2.1 rfl).mono hsub
  |own id len=>
   simp only[qb] at h
   split at h
   ·rename_i sz ag cells fl nl Ma
    split at h
    ·rename_i hc
     obtain⟨hlen,Ps⟩:=hc;have h1:=hv.ZI
     obtain⟨k0,k⟩:=h1.2.2 _ _ _ _ _ Ma
     obtain⟨o0,o1,o2,Qu,o3⟩:=hS.obj _ _ Ma
     obtain⟨k1,k2⟩:=k (by omega);cases nl with
     |true=>simp at h;subst h;rw[k1 rfl];exact .oa
     |false=>
      simp only[Sc,if_false,dc] at h;obtain⟨ps,hps,rfl⟩:=h;obtain⟨hbase,_,arr,hB,ib,hle,hrel⟩:=o3 rfl;rcases k2 rfl with⟨q1,q2,_⟩ | ⟨b,o,cap,rfl,q2,_⟩
      ·subst q1;exact absurd (Ze (by omega)) q2
      ·obtain⟨rfl,rfl,rfl⟩:=q2 hlen
       have hl:=many hrel hps;have mf:=war Qu hps;have tT:ps.length=len * sz:=by rw[(XT hps).1,hlen]
       obtain⟨c1,c2,c3⟩:=GL sz ag (fun e=>by subst e;simpa using Ps) len ps tT mf;have:=Na.lit (R:=Q) sz (chunk sz ag len ps) (φ id).1 0 (φ id).2 (by
        rw[c3];have:len * sz<=(φ id).2 * sz:=by rw[<- ib];omega
        exact iG this o0) c2 (by
        rw[c1];refine Cd.Ct hl (Pu hrel Qu) fun i v hv=> ?_
        have hlt:=getElem?_lt hv;rw[wm] at hv
        split at hv
        ·refine hQ _ _ _ hbase ?_
         rw[hB.cell,De];simpa using hv
        ·cases hv)
       rw[c3] at this;exact this
    ·cases h
   ·cases h
  |ptr id off=>
   simp only[qb] at h
   split at h
   ·rename_i cells Ma
    simp only[dc] at h;obtain⟨ps,hps,rfl⟩:=h;obtain⟨hbase,_,Qu,arr,hB,hrel⟩:=hS.obj _ _ Ma
    rw[hv.bO.2.2 _ Ma];have:=Na.rp (R:=Q) ps off (φ id).1 0 (Cd.Ct (many hrel hps) (Pu hrel Qu) fun i v hv=>by refine hQ _ _ _ hbase ?_;rw[hB.cell,De];simpa using hv)
    rw[De] at this;exact this
   ·cases h
  |agg cs=>
   simp only[qb,dc] at h;obtain⟨ps,hps,rfl⟩:=h;cases hv with
   |atom _ _ h=>exact h.elim
   |agg _ vs hl=>exact .agg _ _ (many hl hps)
  |Ba cs=>
   simp only[qb,dc] at h;obtain⟨ps,hps,rfl⟩:=h;cases hv with
   |atom _ _ h=>exact h.elim
   |Ba _ vs hl=>exact .Ba _ _ (many hl hps)
  |Sb=>simp[qb] at h
  |Ec=>simp[qb] at h
  |mp=>simp[qb] at h
  |undef=>simp[qb] at h
theorem rar{w:World}{R:Rd}{φ:Pl}{H:List fa}{d:Nat}{v:AV}{u:Value}{p:PV}(hf:v.free=true)(hv:Yb fo (K R φ H) v u)(h:qb H d v=some p):Na R p u:=by
 cases v with
 |pv q=>simp[qb] at h;subst h;exact hv.xd
 |uq id nl sz es=>
  simp[qb] at h;have h1:=hv.Tw
  cases nl with
  |true=>simp at h;subst h;rw[(h1.2.1 rfl).1];exact .oa
  |false=>simp at h;subst h;exact h1.2.2.1 rfl
 |_=>simp[AV.free] at hf
theorem xar{w:World}{R:Rd}{φ:Pl}{H:List fa}(hS:Lb fo B0 w R φ H){d:Nat}:∀ {vs:List AV}{us:List Value}{ps:List PV},Qb fo (K R φ H) vs us->Ha (qb H d) vs=some ps->Cc (Rw w) ps us:=by
 intro vs
 induction vs with
 |nil=>intro us ps hl h;simp[Ha] at h;subst h;cases hl;exact .nil
 |cons c cs ihc=>
  intro us ps hl h;simp only[Ha,Hd,xb] at h;obtain⟨b,h1,bs,h2,rfl⟩:=h;cases hl with
  |cons _ _ v vs hc Kg=>exact .cons _ _ _ _ (n9 hS (fun b o v h=>hS.sub b o v h) (fun _ _ _ _ h=>h) d hc h1) (ihc Kg h2)
theorem uar{w:World}{R:Rd}{φ:Pl}{H:List fa}{d:Nat}:∀ {vs:List AV}{us:List Value}{ps:List PV},vs.all AV.free=true->Qb fo (K R φ H) vs us->Ha (qb H d) vs=some ps->Cc R ps us:=by
 intro vs
 induction vs with
 |nil=>intro us ps _ hl h;simp[Ha] at h;subst h;cases hl;exact .nil
 |cons c cs ihc=>
  intro us ps hf hl h;simp only[Ha,Hd,xb] at h;obtain⟨b,h1,bs,h2,rfl⟩:=h;simp only[tm,fb] at hf;cases hl with
  |cons _ _ v vs hc Kg=>exact .cons _ _ _ _ (rar (w:=w) hf.1 hc h1) (ihc hf.2 Kg h2)
mutual
theorem qY{R R':Rd}:∀ {p:PV}{v:Value},Eh p=true->Na R p v->Na R' p v
 |_,_,_,.int _ _=> .int _ _
 |_,_,_,.bool _=> .bool _
 |_,_,_,.str _=> .str _
 |_,_,_,.Ic=> .Ic
 |_,_,_,.oa=> .oa
 |_,_,_,.Gk=> .Gk
 |_,_,_,.Fk=> .Fk
 |_,_,_,.Eo=> .Eo
 |_,_,hf,.rp _ _ _ _ h=>by simp[Eh] at hf
 |_,_,hf,.lit _ _ _ _ _ h1 h2 h3=>by simp[Eh] at hf
 |_,_,hf,.Br _ _=>by simp[Eh] at hf
 |_,_,hf,.agg _ _ h=> .agg _ _ (PR (by simpa[Eh] using hf) h)
 |_,_,hf,.Ba _ _ h=> .Ba _ _ (PR (by simpa[Eh] using hf) h)
 |_,_,hf,.iface _ _ _ h=>by simp[Eh] at hf
theorem PR{R R':Rd}:∀ {p:List PV}{v:List Value},Gp p=true->Cc R p v->Cc R' p v
 |_,_,_,.nil=> .nil
 |_,_,hf,.cons _ _ _ _ h1 h2=>by simp only[Gp,fb] at hf;exact .cons _ _ _ _ (qY hf.1 h1) (PR hf.2 h2)
end
structure BC(n:Nat)(H H2:List fa):Prop where
 obj:∀ (id:Nat)(o2:fa),H2[id]? =some o2->id < n/\∃ o,H[id]? =some o/\Fa n o=some o2
 len:∀ id,id < n->id < H.length->id < H2.length
theorem Eac{n:Nat}{H H2:List fa}(h:Ha (Fa n) (H.take n)=some H2):BC n H H2:=by
 obtain⟨h1,h2⟩:=XT h;rw[ij] at h1;refine⟨fun id o2 ho=> ?_,fun id hn hl=>by rw[h1];omega⟩;have hlt:=getElem?_lt ho;have Ma:id < n/\id < H.length:=by rw[h1] at hlt;omega
 have hx:(H.take n)[id]? =some (H[id]'Ma.2):=by rw[wm,if_pos Ma.1];exact Rb _
 obtain⟨y,Mm,Ar⟩:=h2 id _ hx;rw[ho] at Mm;injection Mm with Mm;subst Mm
 exact⟨Ma.1,_,Rb _,Ar⟩
def AV.Fak:AV->Option Nat
 | .ptr id _ | .Sb id _ _ | .uq id _ _ _ | .own id _ | .mp id=>some id
 |_=>none
theorem K.ta{n:Nat}{R:Rd}{φ:Pl}{H H2:List fa}(hc:BC n H H2){x:AV}{u:Value}(hx:∀ id,x.Fak=some id->id < n)(h:K R φ H x u):K R φ H2 x u:=by
 have box:∀ {id:Nat}{c:List AV},H2[id]? =some (.box c)->∃ c',H[id]? =some (.box c'):=by
  intro id c hb;obtain⟨_,o,ho,Eb⟩:=hc.obj _ _ hb
  cases o with
  |box c'=>exact⟨c',ho⟩
  |seq=>simp only[Fa] at Eb;split at Eb <;> cases Eb
  |tok=>cases Eb
  |map es=>simp[Fa] at Eb
  |dead=>cases Eb
 have seq:∀ {id:Nat}{sz:Nat}{ag:Bool}{c:List AV}{fl:Nat}{nl:Bool},H2[id]? =some (.seq sz ag c fl nl)->H[id]? =some (.seq sz ag c fl nl):=by
  intro id sz ag c fl nl hb;obtain⟨_,o,ho,Eb⟩:=hc.obj _ _ hb
  cases o with
  |box c'=>simp[Fa] at Eb
  |seq=>
   simp only[Fa] at Eb
   split at Eb
   ·injection Eb with Eb;rw[ho,Eb]
   ·cases Eb
  |tok=>cases Eb
  |map es=>simp[Fa] at Eb
  |dead=>cases Eb
 have tok:∀ {id:Nat}{sz m:Nat}{nl:Bool},H2[id]? =some (.tok sz m nl)->H[id]? =some (.tok sz m nl):=by
  intro id sz m nl hb;obtain⟨_,o,ho,Eb⟩:=hc.obj _ _ hb
  cases o with
  |box c'=>simp[Fa] at Eb
  |seq=>
   simp only[Fa] at Eb
   split at Eb
   ·cases Eb
   ·cases Eb
  |tok=>injection Eb with Eb;rw[ho,Eb]
  |map es=>simp[Fa] at Eb
  |dead=>cases Eb
 have map:∀ {id:Nat}{es:List (PV×PV)},H2[id]? =some (.map es)->∃ es',H[id]? =some (.map es'):=by
  intro id c hb;obtain⟨_,o,ho,Eb⟩:=hc.obj _ _ hb
  cases o with
  |box c'=>simp[Fa] at Eb
  |seq=>simp only[Fa] at Eb;split at Eb <;> cases Eb
  |tok=>cases Eb
  |map es=>exact⟨es,ho⟩
  |dead=>cases Eb
 cases x with
 |pv p=>exact h
 |ptr id off=>exact⟨hc.len _ (hx _ rfl) h.1,h.2.1,fun c hb=>by obtain⟨c',YH⟩:=box hb;exact h.2.2 _ YH⟩
 |Sb id m off=>exact⟨hc.len _ (hx _ rfl) h.1,h.2.1,fun sz ag c fl nl hb=>h.2.2 sz ag c fl nl (seq hb)⟩
 |uq id nl sz es=>exact⟨hc.len _ (hx _ rfl) h.1,h.2.1,h.2.2.1,fun sj m nl' hb=>h.2.2.2 sj m nl' (tok hb)⟩
 |own id len=>exact⟨hc.len _ (hx _ rfl) h.1,h.2.1,fun sz ag c fl nl hb=>h.2.2 sz ag c fl nl (seq hb)⟩
 |mp id=>exact⟨hc.len _ (hx _ rfl) h.1,h.2.1,fun es hb=>by obtain⟨c',YH⟩:=map hb;exact h.2.2 _ YH⟩
 |Ec ix cs=>exact h.elim
 |agg cs=>exact h.elim
 |Ba cs=>exact h.elim
 |undef=>exact h.elim
theorem kX{n:Nat}{R:Rd}{φ:Pl}{H H2:List fa}(hc:BC n H H2):∀ (d:Nat){v v':AV}{u:Value},AV.cut n d v=some v'->Yb fo (K R φ H) v u->Yb fo (K R φ H2) v' u:=by
 have base:∀ {d:Nat}{v v':AV}{u:Value},(∀ ix cs,v≠ .Ec ix cs)->(∀ cs,v≠ .agg cs)->(∀ cs,v≠ .Ba cs)->AV.cut n d v=some v'->Yb fo (K R φ H) v u->Yb fo (K R φ H2) v' u:=by
  intro d v v' u n1 n2 n3 h hv;cases v with
  |pv p=>simp only[AV.cut,xb] at h;subst h;exact .atom _ _ hv.xd
  |ptr id off=>
   simp only[AV.cut] at h
   split at h
   ·rename_i hlt;injection h with h;subst h;exact .atom _ _ (K.ta hc (fun _ e=>by injection e with e;omega) hv.bO)
   ·cases h
  |Sb id m off=>
   simp only[AV.cut] at h
   split at h
   ·rename_i hlt;injection h with h;subst h
    cases hv with | atom _ _ hv=>exact .atom _ _ (K.ta hc (fun _ e=>by injection e with e;omega) hv)
   ·cases h
  |uq id nl sz es=>
   simp only[AV.cut] at h
   split at h
   ·rename_i hlt;injection h with h;subst h;exact .atom _ _ (K.ta hc (fun _ e=>by injection e with e;omega) hv.Tw)
   ·injection h with h
    subst h;have h1:=hv.Tw
    cases nl with
    |true=>simp only[if_true];rw[(h1.2.1 rfl).1];exact .atom _ _ (show Na R _ _ from .oa)
    |false=>exact .atom _ _ (show Na R _ _ from h1.2.2.1 rfl)
  |own id len=>
   simp only[AV.cut] at h
   split at h
   ·rename_i hlt;injection h with h;subst h;exact .atom _ _ (K.ta hc (fun _ e=>by injection e with e;omega) hv.ZI)
   ·cases h
  |mp id=>
   simp only[AV.cut] at h
   split at h
   ·rename_i hlt;injection h with h;subst h
    cases hv with | atom _ _ hv=>exact .atom _ _ (K.ta hc (fun _ e=>by injection e with e;omega) hv)
   ·cases h
  |undef=>simp only[AV.cut,xb] at h;subst h;exact .undef _
  |Ec ix cs=>exact absurd rfl (n1 ix cs)
  |agg cs=>exact absurd rfl (n2 cs)
  |Ba cs=>exact absurd rfl (n3 cs)
 intro d
 induction d with
 |zero=>
  intro v v' u h hv;cases v with
  |Ec ix cs=>simp[AV.cut] at h
  |agg cs=>simp[AV.cut] at h
  |Ba cs=>simp[AV.cut] at h
  |_=>exact base (by intros;simp) (by intros;simp) (by intros;simp) h hv
 |succ d ih=>
  have many:∀ {cs ph:List AV}{vs:List Value},Qb fo (K R φ H) cs vs->Ha (AV.cut n d) cs=some ph->Qb fo (K R φ H2) ph vs:=by
   intro cs
   induction cs with
   |nil=>intro ps vs hl h;simp[Ha] at h;subst h;cases hl;exact .nil
   |cons c cs ihc=>
    intro ps vs hl h;simp only[Ha,Hd,xb] at h;obtain⟨b,h1,bs,h2,rfl⟩:=h;cases hl with
    |cons _ _ v vs hc Kg=>exact .cons _ _ _ _ (ih h1 hc) (ihc Kg h2)
  intro v v' u h hv;cases v with
  |Ec ix cs=>
   simp only[AV.cut,dc] at h;obtain⟨ph,h1,rfl⟩:=h;cases hv with
   |atom _ _ h=>exact h.elim
   |Ec _ _ vs hl=>exact .Ec _ _ _ (many hl h1)
  |agg cs=>
   simp only[AV.cut,dc] at h;obtain⟨ph,h1,rfl⟩:=h;cases hv with
   |atom _ _ h=>exact h.elim
   |agg _ vs hl=>exact .agg _ _ (many hl h1)
  |Ba cs=>
   simp only[AV.cut,dc] at h;obtain⟨ph,h1,rfl⟩:=h;cases hv with
   |atom _ _ h=>exact h.elim
   |Ba _ vs hl=>exact .Ba _ _ (many hl h1)
  |_=>exact base (by intros;simp) (by intros;simp) (by intros;simp) h hv
theorem lX{n:Nat}{R:Rd}{φ:Pl}{H H2:List fa}(hc:BC n H H2){d:Nat}{cs ph:List AV}{vs:List Value}(hl:Qb fo (K R φ H) cs vs)(h:Ha (AV.cut n d) cs=some ph):Qb fo (K R φ H2) ph vs:=by
 induction cs generalizing ph vs with
 |nil=>simp[Ha] at h;subst h;cases hl;exact .nil
 |cons c cs ihc=>
  simp only[Ha,Hd,xb] at h;obtain⟨b,h1,bs,h2,rfl⟩:=h;cases hl with
  |cons _ _ v vs Di Kg=>exact .cons _ _ _ _ (kX hc d h1 Di) (ihc Kg h2)
theorem X1{n:Nat}:∀ (d:Nat){v:AV},AV.qc n d v=true->AV.cut n d v=some v:=by
 intro d
 induction d with
 |zero=>intro v h;cases v <;> simp_all [AV.qc,AV.cut]
 |succ d ih=>
  have many:∀ {cs:List AV},cs.all (AV.qc n d)=true->Ha (AV.cut n d) cs=some cs:=by
   intro cs
   induction cs with
   |nil=>intro _;rfl
   |cons c cs ihc=>intro h;simp only[tm,fb] at h;simp[Ha,ih h.1,ihc h.2]
  intro v h;cases v with
  |Ec ix cs=>simp only[AV.qc] at h;simp[AV.cut,many h]
  |agg cs=>simp only[AV.qc] at h;simp[AV.cut,many h]
  |Ba cs=>simp only[AV.qc] at h;simp[AV.cut,many h]
  |_=>simp_all [AV.qc,AV.cut]
theorem Y1{n d:Nat}{cs:List AV}(h:cs.all (AV.qc n d)=true):Ha (AV.cut n d) cs=some cs:=by
 induction cs with
 |nil=>rfl
 |cons c cs ihc=>simp only[tm,fb] at h;simp[Ha,X1 d h.1,ihc h.2]
theorem aad{n d:Nat}{v v':AV}(h:AV.cut n d v=some v')(h1:v.one=true):v'.one=true:=by
 cases v with
 |uq id nl sz es=>
  simp only[AV.cut] at h
  split at h
  ·injection h with h;subst h;rfl
  ·injection h with h;subst h;cases nl <;> rfl
 |Ec ix cs=>
  cases d with
  |zero=>simp[AV.cut] at h
  |succ d=>simp only[AV.cut,dc] at h;obtain⟨_,_,rfl⟩:=h;rfl
 |agg=>simp[AV.one] at h1
 |Ba=>simp[AV.one] at h1
 |undef=>simp[AV.one] at h1
 |pv p=>simp only[AV.cut,xb] at h;subst h;exact h1
 |_=>
  simp only[AV.cut] at h
  split at h
  ·injection h with h;subst h;exact h1
  ·cases h
theorem cad{n d:Nat}{cs ph:List AV}(h:Ha (AV.cut n d) cs=some ph)(h1:cs.all AV.one=true):ph.all AV.one=true:=by
 induction cs generalizing ph with
 |nil=>simp[Ha] at h;subst h;rfl
 |cons c cs ihc=>simp only[Ha,Hd,xb] at h;obtain⟨b,h2,bs,h3,rfl⟩:=h;simp only[tm,fb] at h1 ⊢;exact⟨aad h2 h1.1,ihc h3 h1.2⟩
theorem Lb.ta{n:Nat}{w:World}{R:Rd}{φ:Pl}{H H2:List fa}(hc:BC n H H2)(hS:Lb fo B0 w R φ H):Lb fo B0 w R φ H2:=by
 have lv:∀ {i},live H2 i->live H i:=by
  intro i ⟨o2,Vp,hl⟩;obtain⟨_,o,ho,Eb⟩:=hc.obj _ _ Vp
  refine⟨o,ho,?_⟩;cases o with
  |box c=>trivial
  |seq sz ag c fl nl=>
   simp only[Fa] at Eb
   split at Eb
   ·injection Eb with Eb;subst Eb;exact hl
   ·cases Eb
  |tok sz m nl=>injection Eb with Eb;subst Eb;exact hl
  |map es=>trivial
  |dead=>injection Eb with Eb;subst Eb;exact hl
 refine⟨hS.low,hS.sub,fun id o2 Vp=> ?_,fun i j hi hj=>hS.inj i j (lv hi) (lv hj),hS.Wd,hS.slt,fun i hi=>hS.free i (lv hi)⟩;obtain⟨_,o,ho,Eb⟩:=hc.obj _ _ Vp
 have hO:=hS.obj _ _ ho
 cases o with
 |box c=>simp only[Fa,dc] at Eb;obtain⟨c',h1,rfl⟩:=Eb;obtain⟨h2,h3,h4,arr,h5,h6⟩:=hO;exact⟨h2,h3,cad h1 h4,arr,h5,lX hc h6 h1⟩
 |seq sz ag c fl nl=>
  simp only[Fa] at Eb
  split at Eb
  ·rename_i hk
   injection Eb with Eb;subst Eb
   obtain⟨h1,h2,h3,h4,h5⟩:=hO;refine⟨h1,h2,h3,h4,fun e=> ?_⟩;obtain⟨k1,k2,arr,k3,k4,k5,k6⟩:=h5 e;exact⟨k1,k2,arr,k3,k4,k5,lX hc k6 (Y1 hk)⟩
  ·cases Eb
 |tok sz m nl=>injection Eb with Eb;subst Eb;exact hO
 |map es=>injection Eb with Eb;subst Eb;exact hO
 |dead=>injection Eb with Eb;subst Eb;trivial
theorem Zac{n:Nat}{R:Rd}{φ:Pl}{H H2:List fa}(hc:BC n H H2){e e':Tr}{a:Act}(hE:ye fo (K R φ H) e a):∀ {l:List Nat},Za n e l=some e'->ye fo (K R φ H2) e' a:=by
 intro l
 induction l generalizing e' with
 |nil=>intro h;simp only[Za,xb] at h;subst h;intro t;exact .undef _
 |cons x l ih=>
  intro h;simp only[Za,Hd,dc] at h;obtain⟨v,h1,e1,h2,rfl⟩:=h;intro t;rw[Tr.na]
  split
  ·rename_i ht;subst ht;exact kX hc deep h1 (hE t)
  ·exact ih h2 t
theorem WW{w0 w:World}{R0 R:Rd}{φ0 φ:Pl}{H0:List fa}{a0 a:Act}{s s2:St}{l:List Nat}(g:ch fo B0 w0 R0 φ0 H0 a0 w R φ s a)(h:ta H0.length l s=some s2):ch fo B0 w0 R0 φ0 H0 a0 w R φ s2 a:=by
 simp only[ta,Hd,dc] at h;obtain⟨e,h1,H2,h2,rfl⟩:=h;have hc:=Eac h2;refine⟨g.rel.ta hc,Zac hc g.env h1,fun x u hx=>K.ta hc (fun id Ma=> ?_) (g.mono x u hx),g.below,g.size,g.defers⟩;cases x with
 |ptr=>injection Ma with Ma;subst Ma;exact hx.1
 |Sb=>injection Ma with Ma;subst Ma;exact hx.1
 |uq=>injection Ma with Ma;subst Ma;exact hx.1
 |own=>injection Ma with Ma;subst Ma;exact hx.1
 |mp=>injection Ma with Ma;subst Ma;exact hx.1
 |_=>cases Ma
end
section
variable {P:Program}{fo:Nat->FuncId}{B0:qd}
theorem DH{k:AV->Value->Prop}{e:Tr}{a:Act}(h:ye fo k e a){t:Nat}{v:AV}(hv:Yb fo k v (a.tmps.getD t undef)):ye fo k (e.set t v) a:=by
 intro j;rw[Tr.na]
 split
 ·rename_i e;subst e;exact hv
 ·exact h j
theorem push_empty{w:World}{R:Rd}{φ:Pl}{H:List fa}(hS:Lb fo B0 w R φ H){o:fa}(hl:¬im o)(hO:∀ φ' H',Uo fo B0 w R φ' H' H.length o):Lb fo B0 w R (Zc φ H.length (0,0)) (H++[o]):=
 hS.push (gb _) (fun _ _=>rfl) (fun _ _ _=>rfl) hS.sub (fun a v=>K.push o (0,0) a v) (fun h=>absurd h hl) (hO _ _)
theorem I9{w:World}{R:Rd}{φ:Pl}{H:List fa}{sz:Nat}:K R φ (H++[.tok sz 0 true]) (.uq H.length true sz []) (.slice none 0 0):=by
 refine⟨by simp,fun _=>⟨rfl,rfl⟩,(fun e=>by cases e),fun sj n nl' h=> ?_⟩;simp at h;obtain⟨rfl,rfl,rfl⟩:=h;exact⟨by simp,fun _=>⟨rfl,rfl,fun e=>by cases e⟩⟩
theorem D5{w:World}{R:Rd}{φ:Pl}{H:List fa}{sz:Nat}{ag:Bool}:K R φ (H++[.seq sz ag [] 0 true]) (.own H.length 0) (.slice none 0 0):=by
 refine⟨by simp,rfl,fun sj ag' c fl nl h=> ?_⟩;simp at h;obtain⟨rfl,rfl,rfl,rfl,rfl⟩:=h;exact⟨by simp,fun _=>⟨fun _=>rfl,fun e=>by cases e⟩⟩
theorem tW{w:World}{R:Rd}{φ:Pl}{H:List fa}(hS:Lb fo B0 w R φ H){id:Nat}{cells:List AV}(Ma:H[id]? =some (.box cells)){i:Nat}(hi:cells[i]? =some (.pv .oa)){x:AV}(hx:K R φ H x (.slice none 0 0))(h1:x.one=true):
 Lb fo B0 w R (Zc φ id (φ id)) (H.set id (.box (cells.set i x)))/\∀ a u,K R φ H a u->K R (Zc φ id (φ id)) (H.set id (.box (cells.set i x))) a u:=by
 have hk:=fun a v=>K.uW (R:=R) (φ:=φ) (H:=H) (c':=cells.set i x) Ma a v
 refine⟨hS.Zc Ma (gb _) (fun _ _ _=>rfl) (fun _ _ _ _=>rfl) hS.sub hk (fun _=> .inl ⟨trivial,rfl⟩) ?_,hk⟩;obtain⟨o1,o2,o3,arr,o4,o5⟩:=hS.obj _ _ Ma
 refine⟨by rw[Ye];exact o1,by rw[Ye];exact o2,?_,arr,by rw[Ye];exact o4,?_⟩
 ·rw[Df] at o3 ⊢
  intro y hy;rcases Oo hy with hy | rfl
  ·exact o3 y hy
  ·exact h1
 ·obtain⟨u,hu,hr⟩:=o5.get hi
  have hr:=hr.xd
  cases hr;have:arr.toList=arr.toList.set i (.slice none 0 0):=by
   apply Nl;intro j
   by_cases e:i=j
   ·subst e
    rw[Of (getElem?_lt hu)];exact hu
   ·rw[ze e]
  rw[this];exact (o5.mono hk).set i (.atom _ _ (hk _ _ hx))
theorem Gag{g:uK}{w:World}{R:Rd}{φ:Pl}{s s':St}{a:Act}(hS:Lb fo B0 w R φ s.H)(hE:ye fo (K R φ s.H) s.env a)(h:Af g s=some s'):∃ R' φ',ch fo B0 w R φ s.H a w R' φ' s' a:=by
 obtain⟨e,H⟩:=s;cases g with
 |Ln t sz=>
  simp only[Af] at h
  split at h
  ·rename_i ht
   split at h
   ·rename_i h0
    injection h with h;subst h
    have hk:=fun a v=>K.push (R:=R) (φ:=φ) (H:=H) (.tok sz 0 true) (0,0) a v
    have hv:=hE t;simp only[ht] at hv;have hv:=hv.xd
    refine⟨R,_,push_empty hS (by simp[im]) (fun φ' H'=>⟨h0,fun _=>rfl,fun e=>by cases e⟩),DH (hE.mono hk) ?_,hk,Od.refl _ _,rfl,.same rfl⟩;generalize a.tmps.getD t undef=v at hv
    cases hv;exact .atom _ _ (I9 (w:=w))
   ·cases h
  ·cases h
 |cF t sz ag=>
  simp only[Af] at h
  split at h
  ·rename_i ht
   split at h
   ·rename_i h0
    injection h with h;subst h
    have hk:=fun a v=>K.push (R:=R) (φ:=φ) (H:=H) (.seq sz ag [] 0 true) (0,0) a v
    have hv:=hE t;simp only[ht] at hv;have hv:=hv.xd
    refine⟨R,_,push_empty hS (by simp[im]) (fun φ' H'=>⟨h0,gb _,fun _=>rfl,rfl,fun e=>by cases e⟩),DH (hE.mono hk) ?_,hk,Od.refl _ _,rfl,.same rfl⟩;generalize a.tmps.getD t undef=v at hv
    cases hv;exact .atom _ _ (D5 (w:=w))
   ·cases h
  ·cases h
 |yt t off sz=>
  simp only[Af] at h
  split at h
  ·rename_i id o ht
   split at h
   ·rename_i cells Ma
    split at h
    ·rename_i hc
     split at h
     ·rename_i h0
      injection h with h;subst h
      have hlt:=getElem?_lt Ma;have hk:=fun a v=>K.push (R:=R) (φ:=φ) (H:=H) (.tok sz 0 true) (0,0) a v
      have Ve:=push_empty hS (o:= .tok sz 0 true) (by simp[im]) (fun φ' H'=>⟨h0,fun _=>rfl,fun e=>by cases e⟩);obtain⟨Vv,Qe⟩:=tW Ve (by rw[getElem?_push hlt];exact Ma) hc (I9 (w:=w)) rfl;have e:H.set id (.box (cells.set (o+off) (.uq H.length true sz [])))++[fa.tok sz 0 true]=(H++[fa.tok sz 0 true]).set id (.box (cells.set (o+off) (.uq H.length true sz []))):=by rw[kv _ _ hlt]
      simp only[e];exact⟨R,_,Vv,hE.mono fun a v h=>Qe a v (hk a v h),fun x u h=>Qe x u (hk x u h),Od.refl _ _,rfl,.same rfl⟩
     ·cases h
    ·cases h
   ·cases h
  ·cases h
 |JN t off sz ag=>
  simp only[Af] at h
  split at h
  ·rename_i id o ht
   split at h
   ·rename_i cells Ma
    split at h
    ·rename_i hc
     split at h
     ·rename_i h0
      injection h with h;subst h
      have hlt:=getElem?_lt Ma;have hk:=fun a v=>K.push (R:=R) (φ:=φ) (H:=H) (.seq sz ag [] 0 true) (0,0) a v
      have Ve:=push_empty hS (o:= .seq sz ag [] 0 true) (by simp[im]) (fun φ' H'=>⟨h0,gb _,fun _=>rfl,rfl,fun e=>by cases e⟩);obtain⟨Vv,Qe⟩:=tW Ve (by rw[getElem?_push hlt];exact Ma) hc (D5 (w:=w)) rfl;have e:H.set id (.box (cells.set (o+off) (.own H.length 0)))++[fa.seq sz ag [] 0 true]=(H++[fa.seq sz ag [] 0 true]).set id (.box (cells.set (o+off) (.own H.length 0))):=by rw[kv _ _ hlt]
      simp only[e];exact⟨R,_,Vv,hE.mono fun a v h=>Qe a v (hk a v h),fun x u h=>Qe x u (hk x u h),Od.refl _ _,rfl,.same rfl⟩
     ·cases h
    ·cases h
   ·cases h
  ·cases h
 |freeze t=>
  simp only[Af] at h
  split at h
  ·rename_i id len ht
   split at h
   ·rename_i sz ag cells fl nl Ma
    split at h
    ·rename_i hc
     obtain⟨hlen,Ps⟩:=hc;have SS:=Ma;have hv:=hE t;simp only[ht] at hv;have h1:=hv.ZI
     obtain⟨k0,k⟩:=h1.2.2 _ _ _ _ _ Ma
     obtain⟨o0,o1,o2,Qu,o3⟩:=hS.obj _ _ Ma
     obtain⟨k1,k2⟩:=k (by omega);have Bu:∀ (R':Rd)(p:Nat×Nat),Sub R R'->∀ a v,K R φ H a v->K R' (Zc φ id p) (H.set id .dead) a v:=by
      intro R' p hs a v hk;have hk:=K.sub hs a v hk
      have hl:(H.set id .dead).length=H.length:=by simp
      have inv:∀ {i:Nat}{x:fa},(H.set id .dead)[i]? =some x->x≠ .dead->i≠id/\H[i]? =some x:=by
       intro i x hx hd
       by_cases e:i=id
       ·subst e;rw[Of (getElem?_lt Ma)] at hx;injection hx with hx;exact absurd hx.symm hd
       ·rw[ze (tf e)] at hx;exact⟨e,hx⟩
      cases a with
      |pv p=>exact hk
      |ptr i off=>exact⟨by rw[hl];exact hk.1,hk.2.1,fun c hc=>by obtain⟨q1,q2⟩:=inv hc (by simp);rw[Nf _ _ q1];exact hk.2.2 c q2⟩
      |Sb i n off=>exact⟨by rw[hl];exact hk.1,hk.2.1,fun sz ag c fl nl hc=>by obtain⟨q1,q2⟩:=inv hc (by simp);rw[Nf _ _ q1];exact hk.2.2 _ _ _ _ _ q2⟩
      |uq i nl sz es=>exact⟨by rw[hl];exact hk.1,hk.2.1,hk.2.2.1,fun sz n nl hc=>by obtain⟨q1,q2⟩:=inv hc (by simp);rw[Nf _ _ q1];exact hk.2.2.2 _ _ _ q2⟩
      |own i n=>exact⟨by rw[hl];exact hk.1,hk.2.1,fun sz ag c fl nl hc=>by obtain⟨q1,q2⟩:=inv hc (by simp);rw[Nf _ _ q1];exact hk.2.2 _ _ _ _ _ q2⟩
      |mp i=>exact⟨by rw[hl];exact hk.1,hk.2.1,fun es hc=>by obtain⟨q1,q2⟩:=inv hc (by simp);rw[Nf _ _ q1];exact hk.2.2 _ q2⟩
      |Ec=>exact hk.elim
      |agg=>exact hk.elim
      |Ba=>exact hk.elim
      |undef=>exact hk.elim
     cases nl with
     |true=>simp only[if_true,xb] at h;subst h;have hk:=Bu R (φ id) (Sub.refl R);refine⟨R,Zc φ id (φ id),hS.Zc Ma (gb _) (fun _ _ _=>rfl) (fun _ _ _ _=>rfl) hS.sub hk (fun h=>h.elim) trivial,DH (hE.mono hk) ?_,hk,Od.refl _ _,rfl,.same rfl⟩;rw[k1 rfl];exact .atom _ _ (show Na R _ _ from .oa)
     |false=>
      simp only[Sc,if_false,dc] at h;obtain⟨ps,hps,rfl⟩:=h;obtain⟨b0,EZ,arr,hB,ib,hle,hrel⟩:=o3 rfl;have hsub:Sub R (fun b o=>if b=(φ id).1 then w.cell? ⟨b,o,none⟩ else R b o):=by
       intro b o v h;dsimp only
       split
       ·exact hS.sub b o v h
       ·exact h
      have hk:=Bu _ (φ id) hsub;refine⟨_,Zc φ id (φ id),hS.Zc (R':=fun b o=>if b=(φ id).1 then w.cell? ⟨b,o,none⟩ else R b o) Ma (gb _) (fun _ _ _=>rfl) (fun b j _ Va=>qa (Va rfl)) (fun b o v h=> ?_) hk (fun h=>h.elim) trivial,DH (hE.mono hk) ?_,hk,Od.refl _ _,rfl,.same rfl⟩
      ·split at h
       ·exact h
       ·exact hS.sub b o v h
      ·rcases k2 rfl with⟨q1,q2,_⟩ | ⟨b,o,cap,q1,q2,_⟩
       ·subst q1;exact absurd (Ze (by omega)) q2
       ·rw[q1]
        obtain⟨rfl,rfl,rfl⟩:=q2 hlen;have hl:=Tt hps hrel;have BE:=Sk hps;have mf:∀ p∈ps,Ru p=true:=by intro p hp;rw[BE] at Qu;exact Df.1 Qu _ (List.mem_map_of_mem hp)
        have tT:ps.length=len * sz:=by rw[hlen,BE];simp
        obtain⟨c1,c2,c3⟩:=GL sz ag (fun e=>by subst e;simpa using Ps) len ps tT mf;refine .atom _ _ (show Na _ _ _ from ?_)
        have:=Na.lit (R:=fun b o=>if b=(φ id).1 then w.cell? ⟨b,o,none⟩ else R b o) sz (chunk sz ag len ps) (φ id).1 0 (φ id).2 (by
         rw[c3];have:len * sz<=(φ id).2 * sz:=by rw[<- ib];omega
         exact iG this o0) c2 (by
         rw[c1];refine Cd.Ct (hl.mono hsub) (Pu hrel Qu) fun i v hv=> ?_
         have hlt:=getElem?_lt hv;rw[wm] at hv
         split at hv
         ·rw[if_pos rfl,hB.cell,De];simpa using hv
         ·cases hv)
        rw[c3] at this;exact this
    ·cases h
   ·cases h
  ·rename_i id o ht
   split at h
   ·rename_i cells Ma
    have SS:=Ma;have hv:=hE t;simp only[ht] at hv;have h1:=hv.bO
    have k:=h1.2.2 _ Ma
    obtain⟨o0,o1,Qu,arr,hB,hrel⟩:=hS.obj _ _ Ma
    have Bu:∀ (R':Rd)(p:Nat×Nat),Sub R R'->∀ a v,K R φ H a v->K R' (Zc φ id p) (H.set id .dead) a v:=by
     intro R' p hs a v hk;have hk:=K.sub hs a v hk
     have hl:(H.set id .dead).length=H.length:=by simp
     have inv:∀ {i:Nat}{x:fa},(H.set id .dead)[i]? =some x->x≠ .dead->i≠id/\H[i]? =some x:=by
      intro i x hx hd
      by_cases e:i=id
      ·subst e;rw[Of (getElem?_lt Ma)] at hx;injection hx with hx;exact absurd hx.symm hd
      ·rw[ze (tf e)] at hx;exact⟨e,hx⟩
     cases a with
     |pv p=>exact hk
     |ptr i off=>exact⟨by rw[hl];exact hk.1,hk.2.1,fun c hc=>by obtain⟨q1,q2⟩:=inv hc (by simp);rw[Nf _ _ q1];exact hk.2.2 c q2⟩
     |Sb i n off=>exact⟨by rw[hl];exact hk.1,hk.2.1,fun sz ag c fl nl hc=>by obtain⟨q1,q2⟩:=inv hc (by simp);rw[Nf _ _ q1];exact hk.2.2 _ _ _ _ _ q2⟩
     |uq i nl sz es=>exact⟨by rw[hl];exact hk.1,hk.2.1,hk.2.2.1,fun sz n nl hc=>by obtain⟨q1,q2⟩:=inv hc (by simp);rw[Nf _ _ q1];exact hk.2.2.2 _ _ _ q2⟩
     |own i n=>exact⟨by rw[hl];exact hk.1,hk.2.1,fun sz ag c fl nl hc=>by obtain⟨q1,q2⟩:=inv hc (by simp);rw[Nf _ _ q1];exact hk.2.2 _ _ _ _ _ q2⟩
     |mp i=>exact⟨by rw[hl];exact hk.1,hk.2.1,fun es hc=>by obtain⟨q1,q2⟩:=inv hc (by simp);rw[Nf _ _ q1];exact hk.2.2 _ q2⟩
     |Ec=>exact hk.elim
     |agg=>exact hk.elim
     |Ba=>exact hk.elim
     |undef=>exact hk.elim
    simp only[dc] at h;obtain⟨ps,hps,rfl⟩:=h;have hsub:Sub R (fun b o=>if b=(φ id).1 then w.cell? ⟨b,o,none⟩ else R b o):=by
     intro b o v h;dsimp only
     split
     ·exact hS.sub b o v h
     ·exact h
    have hk:=Bu _ (φ id) hsub;refine⟨_,Zc φ id (φ id),hS.Zc (R':=fun b o=>if b=(φ id).1 then w.cell? ⟨b,o,none⟩ else R b o) Ma (gb _) (fun _ _ _=>rfl) (fun b j _ Va=>qa (Va trivial)) (fun b o v h=> ?_) hk (fun h=>h.elim) trivial,DH (hE.mono hk) ?_,hk,Od.refl _ _,rfl,.same rfl⟩
    ·split at h
     ·exact h
     ·exact hS.sub b o v h
    ·rw[k]
     have hl:=Tt hps hrel;refine .atom _ _ (show Na _ _ _ from ?_)
     have:=Na.rp (R:=fun b o=>if b=(φ id).1 then w.cell? ⟨b,o,none⟩ else R b o) ps o (φ id).1 0 (Cd.Ct (hl.mono hsub) (Pu hrel Qu) fun i v hv=>by rw[if_pos rfl,hB.cell,De];simpa using hv)
     rw[De] at this;exact this
   ·cases h
  ·cases h
end
end Go.AM
