/- The abstract machine: equality, maps, steps that may change places, cleaning. -/
import Derived.Test.YtijlhblleiaomaaGreatK1
import Derived.DeepKeys3
import Derived.OrdersIn
import Derived.LoopNIn
import Derived.RangeFuncRecord
import Derived.RangeFuncSeq
set_option linter.unusedSimpArgs false
set_option linter.unusedVariables false
namespace Go.AM
open Go.RowKit
def bu:Nat->Value->Value->Option Bool
 |0,.bool a,.bool b=>some (a==b)
 |1,.int k a,.int k' b=>if k=k' then some (a==b) else none
 |2,.string a,.string b=>some (a==b)
 |_,_,_=>none
def Jh:List Nat->List Value->List Value->Option Bool
 | [],[],[]=>some true
 |k::ks,x::xs,y::ys=>(bu k x y).bind fun b=>(Jh ks xs ys).map fun c=>b&&c
 |_,_,_=>none
theorem mF{k:Nat}{p q:PV}{b:Bool}(h:Rr k p q=some b):
 (k=0/\∃ c d,p= .bool c/\q= .bool d/\b=(c==d))\/(k=1/\∃ i c d,p= .int i c/\q= .int i d/\b=(c==d))\/(k=2/\∃ c d,p= .str c/\q= .str d/\b=(c==d)):=by
 unfold Rr at h
 split at h
 ·injection h with h;exact .inl ⟨rfl,_,_,rfl,rfl,h.symm⟩
 ·split at h
  ·rename_i hk;subst hk;injection h with h;exact .inr (.inl ⟨rfl,_,_,_,rfl,rfl,h.symm⟩)
  ·cases h
 ·injection h with h;exact .inr (.inr ⟨rfl,_,_,rfl,rfl,h.symm⟩)
 ·cases h
theorem Vl{k:Nat}{p q:Value}{b:Bool}(h:bu k p q=some b):
 (k=0/\∃ c d,p= .bool c/\q= .bool d/\b=(c==d))\/(k=1/\∃ i c d,p= .int i c/\q= .int i d/\b=(c==d))\/(k=2/\∃ c d,p= .string c/\q= .string d/\b=(c==d)):=by
 unfold bu at h
 split at h
 ·injection h with h;exact .inl ⟨rfl,_,_,rfl,rfl,h.symm⟩
 ·split at h
  ·rename_i hk;subst hk;injection h with h;exact .inr (.inl ⟨rfl,_,_,_,rfl,rfl,h.symm⟩)
  ·cases h
 ·injection h with h;exact .inr (.inr ⟨rfl,_,_,rfl,rfl,h.symm⟩)
 ·cases h
theorem tv{R:Rd}{k:Nat}{p q:PV}{v u:Value}(hp:Ta R p v)(hq:Ta R q u){b:Bool}(h:Rr k p q=some b):bu k v u=some b:=by
 rcases mF h with⟨rfl,c,d,rfl,rfl,rfl⟩ | ⟨rfl,i,c,d,rfl,rfl,rfl⟩ | ⟨rfl,c,d,rfl,rfl,rfl⟩ <;> cases hp <;> cases hq <;> simp[bu]
theorem qC{R:Rd}:∀ {ks:List Nat}{ps qs:List PV}{vs us:List Value}{b:Bool},Ve R ps vs->Ve R qs us->gj ks ps qs=some b->Jh ks vs us=some b
 | [],[],[],_,_,_,.nil,.nil,h=>h
 |k::ks,p::ps,q::qs,_,_,b,.cons _ _ v vs h1 h2,.cons _ _ u us g1 g2,h=>by simp only[gj,laa,daa] at h;obtain⟨x,e1,y,e2,rfl⟩:=h;simp only[Jh,tv h1 g1 e1,qC h2 g2 e2,yaa,Haa]
 | [],[],_::_,_,_,_,_,_,h=>by simp[gj] at h
 | [],_::_,_,_,_,_,_,_,h=>by simp[gj] at h
 |_::_,[],_,_,_,_,_,_,h=>by simp[gj] at h
 |_::_,_::_,[],_,_,_,_,_,h=>by simp[gj] at h
theorem Jn:∀ {ks ks':List Nat}{xs ys xs' ys':List Value}{b:Bool},ks.length=xs.length->xs.length=ys.length->Jh (ks++ks') (xs++xs') (ys++ys')=some b->∃ c d,Jh ks xs ys=some c/\Jh ks' xs' ys'=some d/\b=(c&&d)
 | [],_,[],[],_,_,b,_,_,h=>⟨true,b,rfl,h,by simp⟩
 |k::ks,_,x::xs,y::ys,xs',ys',b,hk,hl,h=>by simp only[bab,Jh,laa,daa] at h;obtain⟨e,h1,f,h2,rfl⟩:=h;obtain⟨c,d,h3,h4,rfl⟩:=Jn (by simpa using hk) (by simpa using hl) h2;exact⟨e&&c,d,by simp[Jh,h1,h3],h4,by simp[Bool.and_assoc]⟩
 | [],_,_::_,_,_,_,_,hk,_,_=>by simp at hk
 |_::_,_,[],_,_,_,_,hk,_,_=>by simp at hk
 |_,_,[],_::_,_,_,_,_,hl,_=>by simp at hl
 |_,_,_::_,[],_,_,_,_,hl,_=>by simp at hl
def valOf(P:Program)(t:TypeId)(cs:List Value):Value:=if Hm P t=some true then .agg ⟨cs⟩ else cs.headD undef
def rB(P:Program):Nat->List Field->Option Nat
 |o,[]=>some o
 |o,f::r=>if f.offset=o then rB P (o+P.cellsOf f.type) r else none
def Lw(g:TypeId->Option (List Nat)):List Field->Option (List Nat)
 | []=>some []
 |f::r=>if f.name != "_" then (g f.type).bind fun a=>(Lw g r).map (a++ ·) else none
def gK:Nat->List Nat->List Nat
 |0,_=>[]
 |n+1,ks=>ks++gK n ks
def ei(P:Program):Nat->TypeId->Option (List Nat)
 |0,_=>none
 |m+1,t=>
  match P.underlying t with
  |some .bool=>if P.cellsOf t=1 then some [0] else none
  |some (.int _)=>if P.cellsOf t=1 then some [1] else none
  |some .string=>if P.cellsOf t=1 then some [2] else none
  |some (.struct fs)=>if rB P 0 fs.toList=some (P.cellsOf t)/\P.stoodInHeld t=false then Lw (ei P m) fs.toList else none
  |some (.array n e)=>if P.cellsOf t=n * P.cellsOf e then (ei P m e).map (gK n) else none
  |_=>none
section
variable {P:Program}
theorem LF{m:Nat}{t:TypeId}{ks:List Nat}(h:ei P m t=some ks):∃ i,P.info? t=some i:=by
 cases m with
 |zero=>simp[ei] at h
 |succ m=>
  unfold ei at h;cases hu:P.underlying t with
  |none=>simp[hu] at h
  |some d=>exact info_of_underlying hu
theorem wA{m:Nat}{t:TypeId}{ks:List Nat}(h:ei P m t=some ks):Vd P t=some (P.cellsOf t):=by
 obtain⟨i,hi⟩:=LF h;simp[Vd,Program.cellsOf,hi]
theorem iw{g:TypeId->Option (List Nat)}(hg:∀ t ks,g t=some ks->ks.length=P.cellsOf t):∀ {fs:List Field}{o n:Nat}{ks:List Nat},Lw g fs=some ks->rB P o fs=some n->o+ks.length=n
 | [],o,n,ks,h,hl=>by simp only[Lw,caa] at h;subst h;simp only[rB,caa] at hl;simpa using hl
 |f::fs,o,n,ks,h,hl=>by
  simp only[Lw] at h
  split at h
  ·simp only[laa,daa] at h
   obtain⟨a,h1,b,h2,rfl⟩:=h;simp only[rB] at hl
   split at hl
   ·have:=iw hg h2 hl
    have:=hg _ _ h1;simp;omega
   ·cases hl
  ·cases h
theorem KX(n:Nat)(ks:List Nat):(gK n ks).length=n * ks.length:=by
 induction n with
 |zero=>simp[gK]
 |succ n ih=>simp[gK,ih,oae];omega
theorem Ii:∀ {m:Nat}{t:TypeId}{ks:List Nat},ei P m t=some ks->ks.length=P.cellsOf t
 |0,_,_,h=>by simp[ei] at h
 |m+1,t,ks,h=>by
  unfold ei at h
  split at h
  ·split at h
   ·rename_i e;injection h with h;subst h;simp[e]
   ·cases h
  ·split at h
   ·rename_i e;injection h with h;subst h;simp[e]
   ·cases h
  ·split at h
   ·rename_i e;injection h with h;subst h;simp[e]
   ·cases h
  ·split at h
   ·rename_i e
    have:=iw (P:=P) (fun t ks h=>Ii (m:=m) h) h e.1
    omega
   ·cases h
  ·split at h
   ·rename_i e
    simp only[daa] at h;obtain⟨a,h1,rfl⟩:=h;rw[KX,Ii h1,e]
   ·cases h
  ·cases h
theorem nz{m:Nat}{t:TypeId}{ks:List Nat}(h:ei P m t=some ks):(Hm P t=some true)\/(Hm P t=some false/\P.cellsOf t=1/\
 ((P.underlying t=some .bool/\ks=[0])\/((∃ k,P.underlying t=some (.int k))/\ks=[1])\/(P.underlying t=some .string/\ks=[2]))):=by
 cases m with
 |zero=>simp[ei] at h
 |succ m=>
  unfold ei at h;unfold Hm
  split at h
  ·rename_i hu
   split at h
   ·rename_i e;injection h with h;exact .inr ⟨by simp[hu],e,.inl ⟨hu,h.symm⟩⟩
   ·cases h
  ·rename_i k hu
   split at h
   ·rename_i e;injection h with h;exact .inr ⟨by simp[hu],e,.inr (.inl ⟨⟨k,hu⟩,h.symm⟩)⟩
   ·cases h
  ·rename_i hu
   split at h
   ·rename_i e;injection h with h;exact .inr ⟨by simp[hu],e,.inr (.inr ⟨hu,h.symm⟩)⟩
   ·cases h
  ·rename_i hu;exact .inl (by simp[hu])
  ·rename_i hu;exact .inl (by simp[hu])
  ·cases h
variable {w:World}
theorem Vu{m:Nat}{e:TypeId}{ks:List Nat}(he:ei P m e=some ks){xs:List Value}{off:Nat}(hl:off+P.cellsOf e<=xs.length):
 (part e ⟨xs⟩ off).run P w= .ok (valOf P e ((xs.drop off).take (P.cellsOf e))) w:=by
 rcases nz he with ha | ⟨ha,h1,_⟩
 ·rw[cv (n:=P.cellsOf e) ha (fun _=>wA he) (fun hb=>by cases hb)]
  congr 1
  unfold valOf;simp only[if_true,ha]
  congr 1
  apply Pac;simp[List.extract_eq_take_drop]
 ·rw[cv (n:=P.cellsOf e) ha (fun _=>wA he) (fun _=>⟨xs[off]'(by omega),by simp[show off < xs.length by omega]⟩)]
  congr 1
  unfold valOf;simp only[ha,saa,if_false,caa];rw[h1];have E7:off < xs.length:=by omega
  rw[List.take_one,List.head?_drop];simp[mab,E7]
def B6(P:Program)(dd:Nat)(e:TypeId)(ks:List Nat):Prop:=
 ∀ (w:World)(xs ys:List Value)(b:Bool),xs.length=P.cellsOf e->ys.length=P.cellsOf e->Jh ks xs ys=some b->(Op.equalIn dd e (valOf P e xs) (valOf P e ys)).run P w= .ok b w
theorem jE(dd m:Nat)(xs ys:List Value)(hE:∀ t ks,ei P m t=some ks->B6 P dd t ks):∀ (fs:List Field)(ks:List Nat)(o n:Nat)(b:Bool),Lw (ei P m) fs=some ks->rB P o fs=some n->n=xs.length->n=ys.length->
 Jh ks (xs.drop o) (ys.drop o)=some b->(Op.eqFields dd ⟨xs⟩ ⟨ys⟩ fs).run P w= .ok b w
 | [],ks,o,n,b,hk,hl,h1,h2,h=>by simp only[Lw,caa] at hk;subst hk;simp only[rB,caa] at hl;subst hl;rw[Yab (by omega),Yab (by omega)] at h;simp only[Jh,caa] at h;subst h;simp[Op.eqFields]
 |f::fs,ks,o,n,b,hk,hl,h1,h2,h=>by
  simp only[Lw] at hk
  split at hk
  ·rename_i hn
   simp only[bne_iff_ne,ne_eq] at hn;simp only[laa,daa] at hk;obtain⟨k1,e1,k2,e2,rfl⟩:=hk;simp only[rB] at hl
   split at hl
   ·rename_i ho
    subst ho;have hle:=iw (P:=P) (fun t ks h=>Ii (m:=m) h) e2 hl;have hlen:=Ii e1;have px:=Vu (w:=w) e1 (xs:=xs) (off:=f.offset) (by omega);have py:=Vu (w:=w) e1 (xs:=ys) (off:=f.offset) (by omega);rw[<- dac (P.cellsOf f.type) (xs.drop f.offset),<-dac (P.cellsOf f.type) (ys.drop f.offset)] at h;obtain⟨c,d,h3,h4,rfl⟩:=Jn (by simp;omega) (by simp;omega) h;rw[List.drop_drop,List.drop_drop] at h4;have he:=hE _ _ e1 w _ _ c (by simp;omega) (by simp;omega) h3;have ih:=jE dd m xs ys hE fs k2 (f.offset+P.cellsOf f.type) n d e2 hl h1 h2 h4;simp only[Op.eqFields,hn,ne_eq,not_false_eq_true,if_true,Sem.run_bind,px,py,he,Result.andThen_ok];cases c
    ·simp
    ·simpa using ih
   ·cases hl
  ·cases hk
theorem IH(dd m:Nat){e:TypeId}{ks:List Nat}(he:ei P m e=some ks)(hE:B6 P dd e ks)(xs ys:List Value):∀ (k i:Nat)(b:Bool),xs.length=(i+k) * P.cellsOf e->ys.length=(i+k) * P.cellsOf e->
 Jh (gK k ks) (xs.drop (i * P.cellsOf e)) (ys.drop (i * P.cellsOf e))=some b->(Op.eqItems dd e (P.cellsOf e) ⟨xs⟩ ⟨ys⟩ (List.range' i k)).run P w= .ok b w
 |0,i,b,h1,h2,h=>by rw[Yab (by simp at h1;omega),Yab (by simp at h2;omega)] at h;simp only[gK,Jh,caa] at h;subst h;simp[Op.eqItems]
 |k+1,i,b,h1,h2,h=>by
  have hlen:=Ii he;have hx:i * P.cellsOf e+P.cellsOf e<=xs.length:=by rw[h1,<-oae];exact tac _ (by omega)
  have hy:i * P.cellsOf e+P.cellsOf e<=ys.length:=by rw[h2,<-oae];exact tac _ (by omega)
  have px:=Vu (w:=w) he (xs:=xs) (off:=i * P.cellsOf e) hx;have py:=Vu (w:=w) he (xs:=ys) (off:=i * P.cellsOf e) hy;rw[<- dac (P.cellsOf e) (xs.drop _),<-dac (P.cellsOf e) (ys.drop _)] at h;obtain⟨c,d,h3,h4,rfl⟩:=Jn (by simp;omega) (by simp;omega) h;rw[List.drop_drop,List.drop_drop,<-oae] at h4;have hq:=hE w _ _ c (by simp;omega) (by simp;omega) h3;have ih:=IH dd m he hE xs ys k (i+1) d (by rw[h1];congr 1;omega) (by rw[h2];congr 1;omega) h4;rw[List.range'_succ];simp only[Op.eqItems,Sem.run_bind,px,py,hq,Result.andThen_ok];cases c
  ·simp
  ·simpa using ih
theorem wK(d:Nat):∀ (m:Nat)(t:TypeId)(ks:List Nat),ei P m t=some ks->B6 P (d+m) t ks
 |0,_,_,h=>by simp[ei] at h
 |m+1,t,ks,hk=>by
  intro w xs ys b hx hy h;rw[show d+(m+1)=(d+m)+1 from rfl];rcases nz hk with ha | ⟨ha,h1,hc⟩
  ·have vx:valOf P t xs= .agg ⟨xs⟩:=by simp[valOf,ha]
   have vy:valOf P t ys= .agg ⟨ys⟩:=by simp[valOf,ha]
   rw[vx,vy];unfold ei at hk
   split at hk
   ·rename_i hu;simp[Hm,hu] at ha
   ·rename_i hu;simp[Hm,hu] at ha
   ·rename_i hu;simp[Hm,hu] at ha
   ·rename_i fs hu
    split at hk
    ·rename_i e
     have hfs:P.fieldsOf t=fs:=by simp[Program.fieldsOf,hu]
     rw[run_equalIn_struct w (d+m) t ⟨xs⟩ ⟨ys⟩ (by rw[hfs];exact hu) e.2,hfs];exact jE (d+m) m xs ys (fun t ks h=>wK d m t ks h) fs.toList ks 0 (P.cellsOf t) b hk e.1 hx.symm hy.symm (by simpa using h)
    ·cases hk
   ·rename_i n e hu
    split at hk
    ·rename_i L7
     simp only[daa] at hk;obtain⟨a,h3,rfl⟩:=hk;obtain⟨i,hi⟩:=LF h3;rw[run_equalIn_array w (d+m) ⟨xs⟩ ⟨ys⟩ hu hi,List.range_eq_range'];exact IH (d+m) m h3 (wK d m e a h3) xs ys n 0 b (by rw[hx,L7,Zaa]) (by rw[hy,L7,Zaa]) (by simpa using h)
    ·cases hk
   ·cases hk
  ·rw[h1] at hx hy
   match xs,ys,hx,hy with
   | [x],[y],_,_=>
     have vx:valOf P t [x]=x:=by simp[valOf,ha]
     have vy:valOf P t [y]=y:=by simp[valOf,ha]
     rw[vx,vy];have one:∀ k,ks=[k]->bu k x y=some b:=by rintro k rfl;simpa[Jh] using h
     rcases hc with⟨hu,rfl⟩ | ⟨⟨kk,hu⟩,rfl⟩ | ⟨hu,rfl⟩
     ·rcases Vl (one _ rfl) with⟨_,c,e,rfl,rfl,rfl⟩ | ⟨h,_⟩ | ⟨h,_⟩
      ·simp[Op.equalIn,run_underlying hu]
      ·cases h
      ·cases h
     ·rcases Vl (one _ rfl) with⟨h,_⟩ | ⟨_,i,c,e,rfl,rfl,rfl⟩ | ⟨h,_⟩
      ·cases h
      ·simp[Op.equalIn,run_underlying hu]
      ·cases h
     ·rcases Vl (one _ rfl) with⟨h,_⟩ | ⟨h,_⟩ | ⟨_,c,e,rfl,rfl,rfl⟩
      ·cases h
      ·cases h
      ·simp[Op.equalIn,run_underlying hu]
def TB(P:Program)(t:TypeId):Kd->Bool
 | .one c=>ei P 8 t==some [c]&&Hm P t==some false
 | .row ks=>ei P 8 t==some ks&&Hm P t==some true
theorem EH{R:Rd}{t:TypeId}{kd:Kd}(hk:TB P t kd=true){p q:PV}{v u:Value}(hp:Ta R p v)(hq:Ta R q u){b:Bool}(h:Nl kd p q=some b):(Op.equal t v u).run P w= .ok b w:=by
 show (Op.equalIn (9992+8) t v u).run P w=_
 cases kd with
 |one c=>
  simp only[TB,baa,beq_iff_eq] at hk;have:=wK 9992 8 t [c] hk.1 w [v] [u] b (by have:=Ii hk.1;simpa using this) (by have:=Ii hk.1;simpa using this) (by simp only[Nl] at h;simp[Jh,tv hp hq h])
  simpa[valOf,hk.2] using this
 |row ks=>
  simp only[TB,baa,beq_iff_eq] at hk;unfold Nl at h
  split at h
  ·cases ‹Kd.row ks=_›
  ·rename_i ks' xs ys e
   injection e with e;subst e
   cases hp with
   |agg _ vs h1=>
    cases hq with
    |agg _ us h2=>
     have hr:=qC h1 h2 h;have lens:∀ {ks:List Nat}{xs ys:List Value}{b:Bool},Jh ks xs ys=some b->xs.length=ks.length/\ys.length=ks.length:=by
      intro ks
      induction ks with
      |nil=>intro xs ys b h;cases xs <;> cases ys <;> simp_all [Jh]
      |cons k ks ih=>
       intro xs ys b h;cases xs <;> cases ys <;> simp only[Jh,laa,daa] at h
       ·cases h
       ·cases h
       ·cases h
       ·obtain⟨_,_,_,h2,_⟩:=h
        have:=ih h2;simp[this.1,this.2]
     have hl:=lens hr;have hn:=Ii hk.1
     have:=wK 9992 8 t ks hk.1 w vs us b (by omega) (by omega) hr
     simpa[valOf,hk.2] using this
  ·cases h
end
def F6(P:Program)(t:TypeId)(f:TypeDesc->Bool):Bool:=
 match P.underlying t with
 |some d=>f d
 |none=>false
def L5(P:Program)(t:TypeId):Option Nat:=
 match P.underlying t with
 |some .bool=>some 0
 |some (.pointer _)=>some 1
 |some (.slice _)=>some 2
 |some (.func _ _ _)=>some 3
 |_=>none
def M4(P:Program)(t:TypeId):Bool:=
 match P.underlying t with
 |some (.int .u8)=>true
 |_=>false
def X4(P:Program)(t:TypeId):Bool:=
 match P.underlying t with
 |some .string=>true
 |_=>false
def Y6(P:Program)(t:TypeId)(k:IntKind):Bool:=
 match P.underlying t with
 |some (.int k')=>decide (k'=k)
 |_=>false
def Rx(P:Program)(t:TypeId):Option TypeId:=
 match P.underlying t with
 |some (.slice e)=>some e
 |_=>none
def J1(P:Program)(el:TypeId)(sz:Nat)(ag:Bool)(zero:List PV):Bool:=
 Vd P el==some sz&&decide (0 < sz)&&(ag||sz==1)&&gw P el zero&&zero.length==sz&&Hm P el==some ag
def DX(P:Program)(t tx e:TypeId)(sz bytes:Nat):Bool:=
 Rx P t==some e&&(F6 P tx fun d=>match d with | .slice e'=>e'==e | .string=>true | _=>false)&&Vd P e==some sz&&Wq P e==some bytes&&decide (0 < bytes)&&decide (0 < sz)&&xR P e sz
def lz(fo:Nat->FuncId):List (Nat×Operand)->List (Nat×AO)->Bool
 | [],[]=>true
 | (i,x)::xs,(j,y)::ys=>i==j&&Vm fo x y&&lz fo xs ys
 |_,_=>false
def gS(fo:Nat->FuncId):Option Operand->Option AO->Bool
 |none,none=>true
 |some x,some y=>Vm fo x y
 |_,_=>false
def S2(P:Program)(t:TypeId)(f:Nat):Option Field:=
 match P.underlying t with
 |some (.struct fs)=>fs[f]?
 |_=>none
def dq(pl:Nat->Option (Nat×Nat))(fo:Nat->FuncId):List (Nat×Operand)->List (Nat×Nat×AO)->Bool
 | [],[]=>true
 | (i,x)::xs,(off,sz,y)::ys=>pl i==some (off,sz)&&Vm fo x y&&dq pl fo xs ys
 |_,_=>false
def mQ(P:Program)(t:TypeId)(kd:Kd):Bool:=
 match P.underlying t with
 |some (.map k _)=>TB P k kd
 |_=>false
def X0(P:Program)(t:TypeId)(zero:PV):Bool:=
 match P.underlying t with
 |some (.map _ e)=>
  (match P.info? e with
  |some i=>(match i.zero,zero with
   |some (.agg cs),.agg ps=>Ks cs.toList ps
   |some z,p=>gB z p
   |none,_=>false)
  |none=>false)
 |_=>false
def gY(P:Program)(fo:Nat->FuncId):Op->Od->Bool
 | .move x,.move y=>Vm fo x y
 | .assign x,.move y=>Vm fo x y
 | .pick c a b,.pick c' a' b'=>Vm fo c c'&&Vm fo a a'&&Vm fo b b'
 | .alloc t,.alloc zero=>gw P t zero
 | .box _ x,.box _ y=>Vm fo x y
 | .build t parts,.build zero aparts=>
   (match P.underlying t with
   |some (.struct fs)=>dq (fun i=>fs[i]?.map fun f=>(f.offset,(Vd P f.type).getD 0)) fo parts.toList aparts&&fs.all fun f=>(Vd P f.type).isSome
   |some (.array _ el)=>match Vd P el with | some k=>dq (fun i=>some (i * k,k)) fo parts.toList aparts | none=>false
   |_=>false)&&gw P t zero
 | .buildSlice t len parts,.xb _ sz ag len' zero aparts=>
   (match Rx P t with
   |some el=>J1 P el sz ag zero
   |none=>false)&&len==len'&&decide (len * sz<=2 ^ 24)&&lz fo parts.toList aparts
 | .load t x,.load ag n y=>Hm P t==some ag&&(!ag||Vd P t==some n)&&Vm fo x y
 | .store t p x,.store n q y=>Vd P t==some n&&Vm fo p q&&Vm fo x y
 | .nilCheck x,.MH y=>Vm fo x y
 | .binOp op _ x y _,.bin op' x' y'=>decide (op=op')&&Vm fo x x'&&Vm fo y y'
 | .binOp .eql t x y _,.eq k false x' y'=>L5 P t==some k&&Vm fo x x'&&Vm fo y y'
 | .binOp .neq t x y _,.eq k true x' y'=>L5 P t==some k&&Vm fo x x'&&Vm fo y y'
 | .unOp op _ x,.un op' y=>decide (op=op')&&Vm fo x y
 | .convert s d x,.conv k y=>(P.underlying s).isSome&&Y6 P d k&&Vm fo x y
 | .convert s d x,.Y4 y=>(match Rx P s with | some el=>M4 P el | none=>false)&&X4 P d&&Vm fo x y
 | .convert s d x,.HY _ y=>(P.underlying s).isSome&&(match Rx P d with | some el=>M4 P el | none=>false)&&Vm fo x y
 | .makeFunc (.func f) first caps,.MK ix ys=>first.size==0&&fo ix==f&&KE fo caps.toList ys
 | .makeSlice t l c,.bh _ sz ag zero bytes l' c'=>
   (match Rx P t with
   |some el=>J1 P el sz ag zero&&Wq P el==some bytes
   |none=>false)&&decide (0 < bytes)&&Vm fo l l'&&Vm fo c c'
 | .slice t x lo hi none,.slice sz y lo' hi'=>
   (match P.underlying t with
   |some (.slice el)=>sz != 0&&Vd P el==some sz
   |some .string=>sz==0
   |_=>false)&&Vm fo x y&&gS fo lo lo'&&gS fo hi hi'
 | .fieldAddr t x f,.yF off y=>
   (match S2 P t f with
   |some fd=>fd.offset==off&&(match Vd P fd.type with | some n=>n != 0 | none=>false)
   |none=>false)&&Vm fo x y
 | .field t x f,.x5 off ag n y=>
   (match S2 P t f with
   |some fd=>fd.offset==off&&Hm P fd.type==some ag&&(!ag||Vd P fd.type==some n)
   |none=>false)&&Vm fo x y
 | .indexAddr t x i,.Pd sz y j=>(match Rx P t with | some el=>Vd P el==some sz | none=>false)&&Vm fo x y&&Vm fo i j
 | .indexAddr t x i,.ay n sz y j=>
   (match P.underlying t with
   |some (.array n' el)=>n'==n&&Vd P el==some sz
   |_=>false)&&Vm fo x y&&Vm fo i j
 | .index t x i,.FY n sz ag y j=>
   (match P.underlying t with
   |some (.array n' el)=>n'==n&&Vd P el==some sz&&Hm P el==some ag
   |_=>false)&&Vm fo x y&&Vm fo i j
 | .index t x i,.W4 y j=>X4 P t&&Vm fo x y&&Vm fo i j
 | .extract x i,.ext i' y=>i==i'&&Vm fo x y
 | .call {callee:= .builtin .len,args,argTypes},.len k y=>
   (match args.toList,argTypes.toList with
   | [x],[t]=>Vm fo x y&&(match P.underlying t with | some (.slice _)=>k==0 | some .string=>k==1 | _=>false)
   |_,_=>false)
 | .call {callee:= .builtin .max,args,..},.mx ys=>KE fo args.toList ys
 | .call {callee:= .builtin .min,args,..},.mn ys=>KE fo args.toList ys
 | .call {callee:= .builtin .append,args,argTypes},.append _ _ sz ag bytes s y=>
   (match args.toList,argTypes.toList with
   | [x,z],[t,tx]=>Vm fo x s&&Vm fo z y&&(match Rx P t with | some el=>DX P t tx el sz bytes&&Hm P el==some ag | none=>false)
   |_,_=>false)
 | .box _ x,.QP _ y=>Vm fo x y
 | .binOp .eql t x y _,.zZ (.row ks) false x' y'=>TB P t (.row ks)&& !P.eqGuardType P.depth t&&Vm fo x x'&&Vm fo y y'
 | .binOp .neq t x y _,.zZ (.row ks) true x' y'=>TB P t (.row ks)&& !P.eqGuardType P.depth t&&Vm fo x x'&&Vm fo y y'
 | .makeMap _ none,.XF=>true
 | .lookup t x k ok,.lookup kd zero ok' x' k'=>mQ P t kd&&X0 P t zero&&ok==ok'&&Vm fo x x'&&Vm fo k k'
 | .mapUpdate t m k v,.bw kd m' k' v'=>mQ P t kd&&Vm fo m m'&&Vm fo k k'&&Vm fo v v'
 | .insert t m k v,.bw kd m' k' v'=>mQ P t kd&&Vm fo m m'&&Vm fo k k'&&Vm fo v v'
 | .convert s d x,.y5 y=>s==d&&(match Rx P d with | some el=>M4 P el | none=>false)&&Vm fo x y
 |_,_=>false
def gC(P:Program)(fo:Nat->FuncId)(B0:vg)(o:Oper)(a:Act)(w:World)(R:Rd)(φ:Pl)(H:List ba)(v:AV)(H':List ba):Prop:=
 ∀ (next:Act->World->Prop)(Q:Exit->Act->World->Prop),
  (∀ v' w' R' φ',vc fo B0 w' R' φ' H'->Sc fo (K R' φ' H') v v'->(∀ a u,K R φ H a u->K R' φ' H' a u)->oh B0 w w'->next (a.put o.dst v') w')->o.wp P a w next Q
section ops
variable {P:Program}{fo:Nat->FuncId}{B0:vg}{w:World}{R:Rd}{φ:Pl}{H H':List ba}{e:Tr}{a:Act}
theorem gC.vd{o:Oper}{v:AV}{s:Sem Value}(h:execOp a.eval o=(do pure (.value (<- s))))(hr:Tm fo B0 w R φ H P s v H'):gC P fo B0 o a w R φ H v H':=by
 intro next Q hn
 obtain⟨v',w',R',φ',h1,h2,h3,h4,h5⟩:=hr;unfold Oper.wp
 rw[h,Sem.run_bind,h1];exact hn v' w' R' φ' h2 h3 h4 h5
theorem gC.nu{o:Oper}{v:AV}{v':Value}(hS:vc fo B0 w R φ H)(h:(execOp a.eval o).run P w= .ok (.value v') w)(hv:Sc fo (K R φ H) v v'):gC P fo B0 o a w R φ H v H:=by
 intro next Q hn
 unfold Oper.wp
 rw[h];exact hn v' w R φ hS hv (fun _ _ h=>h) (oh.refl _ _)
theorem PI{el:TypeId}{sz:Nat}{ag:Bool}{zero:List PV}(h:J1 P el sz ag zero=true):YW P el sz ag zero:=by
 simp only[J1,baa,beq_iff_eq,decide_eq_true_eq,Nac] at h;obtain⟨⟨⟨⟨⟨h1,h2⟩,h3⟩,h4⟩,h5⟩,h6⟩:=h;exact⟨h1,h2,fun e=>by rcases h3 with h | h;simp[e] at h;exact h,h4,h5⟩
theorem Jp{t el:TypeId}(h:Rx P t=some el):P.underlying t=some (.slice el):=by
 unfold Rx at h
 split at h
 ·rename_i e he;injection h with h;subst h;exact he
 ·cases h
theorem PX{t:TypeId}{f:TypeDesc->Bool}(h:F6 P t f=true):∃ d,P.underlying t=some d/\f d=true:=by
 unfold F6 at h
 split at h
 ·rename_i d hd;exact⟨d,hd,h⟩
 ·cases h
theorem cQ{t tx el:TypeId}{sz bytes:Nat}(h:DX P t tx el sz bytes=true):zS P t tx el sz bytes:=by
 simp only[DX,baa,beq_iff_eq,decide_eq_true_eq] at h;obtain⟨⟨⟨⟨⟨⟨h1,h2⟩,h3⟩,h4⟩,h5⟩,h6⟩,h7⟩:=h;obtain⟨d,hd,hf⟩:=PX h2;refine⟨Jp h1,⟨d,hd,?_⟩,h3,h4,h5,h6,h7⟩;cases d <;> simp at hf
 ·exact .inr rfl
 ·exact .inl (by rw[hf])
theorem gm{t:TypeId}{k:Nat}(h:L5 P t=some k):(k=0/\P.underlying t=some .bool)\/(k=1/\∃ e,P.underlying t=some (.pointer e))\/(k=2/\∃ e,P.underlying t=some (.slice e))\/(k=3/\∃ p r v,P.underlying t=some (.func p r v)):=by
 unfold L5 at h
 split at h <;> first
  |cases h;done
  | (injection h with h;subst h;simp_all)
theorem Sc.ZE{K:AV->Value->Prop}{id off:Nat}{v:Value}(h:Sc fo K (.ptr id off) v):K (.ptr id off) v:=by cases h with | atom _ _ h=>exact h
theorem Sc.MB{K:AV->Value->Prop}{id off:Nat}{v:Value}(h:Sc fo K (.own id off) v):K (.own id off) v:=by cases h with | atom _ _ h=>exact h
theorem Sc.Uw{K:AV->Value->Prop}{id sz:Nat}{nl:Bool}{es:List PV}{v:Value}(h:Sc fo K (.uq id nl sz es) v):K (.uq id nl sz es) v:=by cases h with | atom _ _ h=>exact h
theorem Uj{t:TypeId}(hu:P.underlying t=some .bool)(d:Nat)(a b:Bool):(Op.equalIn (d+1) t (.bool a) (.bool b)).run P w= .ok (a==b) w:=by
 simp[Op.equalIn,run_underlying hu]
theorem zm{t el:TypeId}(hu:P.underlying t=some (.pointer el))(d:Nat)(a:Option Addr):(Op.equalIn (d+1) t (.pointer a) (.pointer none)).run P w= .ok a.isNone w:=by
 cases a <;> simp[Op.equalIn,run_underlying hu]
theorem Qj{t el:TypeId}(hu:P.underlying t=some (.pointer el))(d:Nat)(a:Option Addr):(Op.equalIn (d+1) t (.pointer none) (.pointer a)).run P w= .ok a.isNone w:=by
 cases a <;> simp[Op.equalIn,run_underlying hu]
theorem Ai{t el:TypeId}(hu:P.underlying t=some (.slice el))(d:Nat)(a:Option Addr)(n c m k:Nat):(Op.equalIn (d+1) t (.slice a n c) (.slice none m k)).run P w= .ok a.isNone w:=by
 cases a <;> simp[Op.equalIn,run_underlying hu]
theorem Rj{t:TypeId}{p r:Array TypeId}{v:Bool}(hu:P.underlying t=some (.func p r v))(d:Nat)(f:Fn)(x y:Array Value):(Op.equalIn (d+1) t (.func f x y) .nilFunc).run P w= .ok false w:=by
 simp[Op.equalIn,run_underlying hu]
theorem Di{t:TypeId}{p r:Array TypeId}{v:Bool}(hu:P.underlying t=some (.func p r v))(d:Nat):(Op.equalIn (d+1) t .nilFunc .nilFunc).run P w= .ok true w:=by
 simp[Op.equalIn,run_underlying hu]
theorem dY{t:TypeId}{k:Nat}(ht:L5 P t=some k)(hS:vc fo B0 w R φ H){x y:AV}{vx vy:Value}(hx:Sc fo (K R φ H) x vx)(hy:Sc fo (K R φ H) y vy){b:Bool}(h:Kq H k x y=some b):
 (∀ op:BinOp,op= .eql\/op= .neq->∀ (ox oy:Operand),(do eqGuard op t ox oy vx vy;binOp op t vx vy:Sem Value).run P w= .ok (.bool (if op= .neq then !b else b)) w):=by
 have key:(Op.equal t vx vy).run P w= .ok b w->(∀ (op:BinOp)(ox oy:Operand),(eqGuard op t ox oy vx vy)=pure ())->(∀ op:BinOp,(op= .eql->binOp op t vx vy=(do pure (.bool (<- Op.equal t vx vy))))/\(op= .neq->binOp op t vx vy=(do pure (.bool (!(<- Op.equal t vx vy))))))->
  (∀ op:BinOp,op= .eql\/op= .neq->∀ (ox oy:Operand),(do eqGuard op t ox oy vx vy;binOp op t vx vy:Sem Value).run P w= .ok (.bool (if op= .neq then !b else b)) w):=by
  intro h1 h2 h3 op hop ox oy;rcases hop with rfl | rfl
  ·simp[h2,(h3 .eql).1 rfl,h1]
  ·simp[h2,(h3 .neq).2 rfl,h1]
 have one:∀ (x y:Value),(Op.equal t x y).run P w=(Op.equalIn (9999+1) t x y).run P w:=fun _ _=>rfl
 unfold Kq at h
 split at h
 ·
  have h1:=hx.Rb;have h2:=hy.Rb
  cases h1;cases h2;injection h with h;subst h
  have hu:=gm ht;simp at hu;refine key ?_ (fun op ox oy=>by cases op <;> rfl) (fun op=>⟨fun e=>by subst e;rfl,fun e=>by subst e;rfl⟩);rw[one]
  first | exact Uj hu 9999 _ _ | exact zm hu 9999 _ | exact Qj hu 9999 _ | exact Ai hu 9999 _ _ _ _ _ | exact Rj hu 9999 _ _ _ | exact Di hu 9999
 ·have h1:=hx.Rb;have h2:=hy.Rb
  cases h1;cases h2;injection h with h;subst h
  have hu:=gm ht;simp at hu;obtain⟨e,hu⟩:=hu;refine key ?_ (fun op ox oy=>by cases op <;> rfl) (fun op=>⟨fun e=>by subst e;rfl,fun e=>by subst e;rfl⟩);rw[one]
  first | exact Uj hu 9999 _ _ | exact zm hu 9999 _ | exact Qj hu 9999 _ | exact Ai hu 9999 _ _ _ _ _ | exact Rj hu 9999 _ _ _ | exact Di hu 9999
 ·have h1:=hx.Rb;have h2:=hy.Rb
  cases h1;cases h2;injection h with h;subst h
  have hu:=gm ht;simp at hu;obtain⟨e,hu⟩:=hu;refine key ?_ (fun op ox oy=>by cases op <;> rfl) (fun op=>⟨fun e=>by subst e;rfl,fun e=>by subst e;rfl⟩);rw[one]
  first | exact Uj hu 9999 _ _ | exact zm hu 9999 _ | exact Qj hu 9999 _ | exact Ai hu 9999 _ _ _ _ _ | exact Rj hu 9999 _ _ _ | exact Di hu 9999
 ·have h1:=hx.Rb;have h2:=hy.Rb
  cases h1;cases h2;injection h with h;subst h
  have hu:=gm ht;simp at hu;obtain⟨e,hu⟩:=hu;refine key ?_ (fun op ox oy=>by cases op <;> rfl) (fun op=>⟨fun e=>by subst e;rfl,fun e=>by subst e;rfl⟩);rw[one]
  first | exact Uj hu 9999 _ _ | exact zm hu 9999 _ | exact Qj hu 9999 _ | exact Ai hu 9999 _ _ _ _ _ | exact Rj hu 9999 _ _ _ | exact Di hu 9999
 ·
  split at h
  ·rename_i hc
   have h2:=hy.Rb
   cases h2;injection h with h;subst h
   have h1:=hx.ZE
   rw[h1.2.2 _ hc];have hu:=gm ht;simp at hu;obtain⟨e,hu⟩:=hu;rw[h1.2.2 _ hc] at key;refine key ?_ (fun op ox oy=>by cases op <;> rfl) (fun op=>⟨fun e=>by subst e;rfl,fun e=>by subst e;rfl⟩);rw[one]
   first | exact Uj hu 9999 _ _ | exact zm hu 9999 _ | exact Qj hu 9999 _ | exact Ai hu 9999 _ _ _ _ _ | exact Rj hu 9999 _ _ _ | exact Di hu 9999
  ·cases h
 ·have h1:=hx.Rb;have h2:=hy.Rb
  cases h1;cases h2;injection h with h;subst h
  have hu:=gm ht;simp at hu;obtain⟨e,hu⟩:=hu;refine key ?_ (fun op ox oy=>by cases op <;> rfl) (fun op=>⟨fun e=>by subst e;rfl,fun e=>by subst e;rfl⟩);rw[one]
  first | exact Uj hu 9999 _ _ | exact zm hu 9999 _ | exact Qj hu 9999 _ | exact Ai hu 9999 _ _ _ _ _ | exact Rj hu 9999 _ _ _ | exact Di hu 9999
 ·have h1:=hx.Rb;have h2:=hy.Rb
  cases h2;obtain⟨a7,n7,c7,rfl⟩:∃ a n c,vx= .slice (some a) n c:=by cases h1 <;> exact⟨_,_,_,rfl⟩
  injection h with h;subst h
  have hu:=gm ht;simp at hu;obtain⟨e,hu⟩:=hu;refine key ?_ (fun op ox oy=>by cases op <;> rfl) (fun op=>⟨fun e=>by subst e;rfl,fun e=>by subst e;rfl⟩);rw[one]
  first | exact Uj hu 9999 _ _ | exact zm hu 9999 _ | exact Qj hu 9999 _ | exact Ai hu 9999 _ _ _ _ _ | exact Rj hu 9999 _ _ _ | exact Di hu 9999
 ·
  rename_i nl sz es;have h2:=hy.Rb
  cases h2;injection h with h;subst h
  have h1:=hx.Uw
  have hu:=gm ht;simp at hu;obtain⟨e,hu⟩:=hu;cases nl with
  |true=>
   rw[(h1.2.1 rfl).1] at key ⊢;refine key ?_ (fun op ox oy=>by cases op <;> rfl) (fun op=>⟨fun e=>by subst e;rfl,fun e=>by subst e;rfl⟩);rw[one]
   first | exact Uj hu 9999 _ _ | exact zm hu 9999 _ | exact Qj hu 9999 _ | exact Ai hu 9999 _ _ _ _ _ | exact Rj hu 9999 _ _ _ | exact Di hu 9999
  |false=>
   have h3:=h1.2.2.1 rfl
   obtain⟨a8,n8,c8,rfl⟩:∃ a n c,vx= .slice (some a) n c:=by cases h3 <;> exact⟨_,_,_,rfl⟩
   refine key ?_ (fun op ox oy=>by cases op <;> rfl) (fun op=>⟨fun e=>by subst e;rfl,fun e=>by subst e;rfl⟩);rw[one]
   first | exact Uj hu 9999 _ _ | exact zm hu 9999 _ | exact Qj hu 9999 _ | exact Ai hu 9999 _ _ _ _ _ | exact Rj hu 9999 _ _ _ | exact Di hu 9999
 ·
  split at h
  ·rename_i sz ag c fl nl hc
   split at h
   ·rename_i yab
    injection h with h;subst h
    have h2:=hy.Rb
    cases h2;have h1:=hx.MB
    obtain⟨k0,k⟩:=h1.2.2 _ _ _ _ _ hc
    obtain⟨o0,o1,o2,_⟩:=hS.obj _ _ hc
    obtain⟨k1,k2⟩:=k (by omega);have hu:=gm ht;simp at hu;obtain⟨e,hu⟩:=hu;cases nl with
    |true=>
     rw[k1 rfl] at key ⊢;refine key ?_ (fun op ox oy=>by cases op <;> rfl) (fun op=>⟨fun e=>by subst e;rfl,fun e=>by subst e;rfl⟩);rw[one]
     first | exact Uj hu 9999 _ _ | exact zm hu 9999 _ | exact Qj hu 9999 _ | exact Ai hu 9999 _ _ _ _ _ | exact Rj hu 9999 _ _ _ | exact Di hu 9999
    |false=>
     rcases k2 rfl with⟨q1,q2,_⟩ | ⟨b,o,cap,q1,_,_⟩
     ·subst q1;exact absurd (qaa (by omega)) q2
     ·rw[q1] at key ⊢
      refine key ?_ (fun op ox oy=>by cases op <;> rfl) (fun op=>⟨fun e=>by subst e;rfl,fun e=>by subst e;rfl⟩);rw[one]
      first | exact Uj hu 9999 _ _ | exact zm hu 9999 _ | exact Qj hu 9999 _ | exact Ai hu 9999 _ _ _ _ _ | exact Rj hu 9999 _ _ _ | exact Di hu 9999
   ·cases h
  ·cases h
 ·have h2:=hy.Rb
  cases h2;injection h with h;subst h
  cases hx with
  |atom _ _ h=>exact h.elim
  |Ol ix cs vs hc=>
   have hu:=gm ht;replace hu:=((hu.resolve_left (by simp)).resolve_left (by simp)).resolve_left (by simp)
   obtain⟨_,p,r,v,hu⟩:=hu;refine key ?_ (fun op ox oy=>by cases op <;> rfl) (fun op=>⟨fun e=>by subst e;rfl,fun e=>by subst e;rfl⟩);rw[one]
   first | exact Uj hu 9999 _ _ | exact zm hu 9999 _ | exact Qj hu 9999 _ | exact Ai hu 9999 _ _ _ _ _ | exact Rj hu 9999 _ _ _ | exact Di hu 9999
 ·have h1:=hx.Rb;have h2:=hy.Rb
  cases h1;cases h2;injection h with h;subst h
  have hu:=gm ht;replace hu:=((hu.resolve_left (by simp)).resolve_left (by simp)).resolve_left (by simp)
  obtain⟨_,p,r,v,hu⟩:=hu;refine key ?_ (fun op ox oy=>by cases op <;> rfl) (fun op=>⟨fun e=>by subst e;rfl,fun e=>by subst e;rfl⟩);rw[one]
  first | exact Uj hu 9999 _ _ | exact zm hu 9999 _ | exact Qj hu 9999 _ | exact Ai hu 9999 _ _ _ _ _ | exact Rj hu 9999 _ _ _ | exact Di hu 9999
 ·cases h
end ops
end Go.AM
namespace Go.AM
open Go.RowKit
section
variable {P:Program}{fo:Nat->FuncId}{B0:vg}{w:World}{R:Rd}{φ:Pl}{H H':List ba}
def T3(P:Program)(em:Bool)(dd:Nat)(e:TypeId)(ks:List Nat):Prop:=
 ∀ (w:World)(xs:List Value)(b:Bool),xs.length=P.cellsOf e->Jh ks xs xs=some b->(Instr.checkKey em dd e (valOf P e xs)).run P w= .ok () w
theorem Bz(em:Bool)(d:Nat):∀ (m:Nat)(t:TypeId)(ks:List Nat),ei P m t=some ks->T3 P em (d+m) t ks
 |0,_,_,h=>by simp[ei] at h
 |m+1,t,ks,hk=>by
  intro w xs b hx h;rw[show d+(m+1)=(d+m)+1 from rfl];rcases nz hk with ha | ⟨ha,h1,hc⟩
  ·have vx:valOf P t xs= .agg ⟨xs⟩:=by simp[valOf,ha]
   rw[vx];unfold ei at hk
   split at hk
   ·rename_i hu;simp[Hm,hu] at ha
   ·rename_i hu;simp[Hm,hu] at ha
   ·rename_i hu;simp[Hm,hu] at ha
   ·rename_i fs hu
    split at hk
    ·rename_i e
     rw[Instr.checkKey];simp only[Sem.run_bind,run_underlying hu,Result.andThen_ok];rw[<- Array.forIn_toList];have hE:=fun t ks h=>Bz em d m t ks h;have hl:=e.1
     have h':Jh ks (xs.drop 0) (xs.drop 0)=some b:=by simpa using h
     clear h e hu vx ha;generalize P.cellsOf t=n at hl hx
     generalize 0=o at hl h';generalize fs.toList=L at hk hl
     induction L generalizing ks o b with
     |nil=>simp
     |cons f L ih=>
      simp only[Lw] at hk
      split at hk
      ·rename_i hn
       simp only[bne_iff_ne,ne_eq] at hn;simp only[laa,daa] at hk;obtain⟨k1,e1,k2,e2,rfl⟩:=hk;simp only[rB] at hl
       split at hl
       ·rename_i ho
        subst ho;have hle:=iw (P:=P) (fun t ks h=>Ii (m:=m) h) e2 hl;have hlen:=Ii e1;have px:=Vu (w:=w) e1 (xs:=xs) (off:=f.offset) (by omega);rw[<- dac (P.cellsOf f.type) (xs.drop f.offset)] at h';obtain⟨c,g,h3,h4,rfl⟩:=Jn (by simp;omega) rfl h';rw[List.drop_drop] at h4;have he:=hE _ _ e1 w _ c (by simp;omega) h3;simp only[List.forIn_cons,Sem.run_bind,hn,ne_eq,not_false_eq_true,if_true,Result.andThen_ok,px,he,Sem.run_pure];exact ih _ _ _ h4 e2 hl
       ·cases hl
      ·cases hk
    ·cases hk
   ·rename_i n e hu
    split at hk
    ·rename_i L7
     simp only[daa] at hk;obtain⟨a,h3,rfl⟩:=hk;rw[Instr.checkKey];simp only[Sem.run_bind,run_underlying hu,Result.andThen_ok];simp only[Std.Legacy.Range.forIn_eq_forIn_range',Std.Legacy.Range.size,pae,Nat.add_one_sub_one,Nat.div_one];have hE:=Bz em d m e a h3;have hlen:=Ii h3;have hx':xs.length=(0+n) * P.cellsOf e:=by rw[hx,L7,Zaa]
     have h':Jh (gK n a) (xs.drop (0 * P.cellsOf e)) (xs.drop (0 * P.cellsOf e))=some b:=by simpa using h
     clear hx h L7 hu vx ha;generalize 0=i at hx' h'
     induction n generalizing i b with
     |zero=>simp
     |succ k ih=>
      have hxl:i * P.cellsOf e+P.cellsOf e<=xs.length:=by rw[hx',<-oae];exact tac _ (by omega)
      have px:=Vu (w:=w) h3 (xs:=xs) (off:=i * P.cellsOf e) hxl;rw[gK,<-dac (P.cellsOf e) (xs.drop _)] at h';obtain⟨c,g,h5,h4,rfl⟩:=Jn (by simp;omega) rfl h';rw[List.drop_drop,<-oae] at h4;have hq:=hE w _ c (by simp;omega) h5;rw[List.range'_succ];simp only[List.forIn_cons,Sem.run_bind,zc (wA h3),Result.andThen_ok,px,hq,Sem.run_pure];exact ih _ _ (by rw[hx'];congr 1;omega) h4
    ·cases hk
   ·cases hk
  ·rw[h1] at hx
   match xs,hx with
   | [x],_=>
     have vx:valOf P t [x]=x:=by simp[valOf,ha]
     rw[vx];have one:∀ k,ks=[k]->bu k x x=some b:=by rintro k rfl;simpa[Jh] using h
     rw[Instr.checkKey];rcases hc with⟨hu,rfl⟩ | ⟨⟨kk,hu⟩,rfl⟩ | ⟨hu,rfl⟩
     ·simp[run_underlying hu]
     ·simp[run_underlying hu]
     ·simp[run_underlying hu]
theorem bP:∀ {ks:List Nat}{xs ys:List Value}{b:Bool},Jh ks xs ys=some b->xs.length=ks.length/\ys.length=ks.length:=by
 intro ks
 induction ks with
 |nil=>intro xs ys b h;cases xs <;> cases ys <;> simp_all [Jh]
 |cons k ks ih=>
  intro xs ys b h;cases xs <;> cases ys <;> simp only[Jh,laa,daa] at h
  ·cases h
  ·cases h
  ·cases h
  ·obtain⟨_,_,_,h2,_⟩:=h
   have:=ih h2;simp[this.1,this.2]
theorem DB{t:TypeId}{kd:Kd}(hk:TB P t kd=true){p:PV}{v:Value}(hp:Ta R p v){b:Bool}(h:Nl kd p p=some b)(em:Bool):(Instr.checkKey em 10000 t v).run P w= .ok () w:=by
 show (Instr.checkKey em (9992+8) t v).run P w=_
 cases kd with
 |one c=>
  simp only[TB,baa,beq_iff_eq] at hk;have:=Bz em 9992 8 t [c] hk.1 w [v] b (by have:=Ii hk.1;simpa using this) (by simp only[Nl] at h;simp[Jh,tv hp hp h])
  simpa[valOf,hk.2] using this
 |row ks=>
  simp only[TB,baa,beq_iff_eq] at hk;have hs:∃ xs,p= .agg xs:=by cases p <;> simp[Nl] at h;exact⟨_,rfl⟩
  obtain⟨xs,rfl⟩:=hs;simp only[Nl] at h;cases hp with
  |agg _ vs h1=>
   have hr:=qC h1 h1 h;have hl:=bP hr;have hn:=Ii hk.1
   have:=Bz em 9992 8 t ks hk.1 w vs b (by omega) hr
   simpa[valOf,hk.2] using this
theorem XD{k:Nat}{x y:Value}(h:bu k x y=some true):x=y:=by
 rcases Vl h with⟨_,c,d,rfl,rfl,e⟩ | ⟨_,i,c,d,rfl,rfl,e⟩ | ⟨_,c,d,rfl,rfl,e⟩
 ·have:=eq_of_beq e.symm;rw[this]
 ·have:=eq_of_beq e.symm;rw[this]
 ·have:c=d:=by
   have e:=e.symm
   obtain⟨⟨c⟩⟩:=c;obtain⟨⟨d⟩⟩:=d;have h2:((⟨c⟩:Array UInt8)==⟨d⟩)=true:=e;have:=eq_of_beq h2;simp at this;rw[this]
  rw[this]
theorem PF:∀ {ks:List Nat}{xs ys:List Value},Jh ks xs ys=some true->xs=ys
 | [],[],[],_=>rfl
 |k::ks,x::xs,y::ys,h=>by simp only[Jh,laa,daa] at h;obtain⟨b,h1,c,h2,h3⟩:=h;simp only[baa] at h3;obtain⟨rfl,rfl⟩:=h3;rw[XD h1,PF h2]
 | [],[],_::_,h=>by simp[Jh] at h
 | [],_::_,_,h=>by simp[Jh] at h
 |_::_,[],_,h=>by simp[Jh] at h
 |_::_,_::_,[],h=>by simp[Jh] at h
theorem IS{kd:Kd}{p q:PV}{v u:Value}(hp:Ta R p v)(hq:Ta R q u)(h:Nl kd p q=some true):v=u/\∀ n,Instr.sameBits (n+2) u u=true:=by
 have atom:∀ {c:Nat}{x y:Value}{b:Bool},bu c x y=some b->∀ n,Instr.sameBits n x x=true:=by
  intro c x y b hc n;rcases Vl hc with⟨_,c,d,rfl,rfl,_⟩ | ⟨_,i,c,d,rfl,rfl,_⟩ | ⟨_,c,d,rfl,rfl,_⟩
  ·cases n <;> simp[Instr.sameBits]
  ·cases n <;> simp[Instr.sameBits]
  ·cases n <;> (simp only[Instr.sameBits];obtain⟨⟨c⟩⟩:=c;show ((⟨c⟩:Array UInt8)==⟨c⟩)=true;simp)
 unfold Nl at h
 split at h
 ·have h1:=tv hp hq h
  have e:=XD h1;subst e;exact⟨rfl,fun n=>atom h1 _⟩
 ·cases hp with
  |agg _ vs h1=>
   cases hq with
   |agg _ us h2=>
    have hr:=qC h1 h2 h;have e:=PF hr;subst e;refine⟨rfl,fun n=> ?_⟩;simp only[Instr.sameBits,beq_self_eq_true,oab];clear h1 h2 h;rw[Taa];rintro⟨x,y⟩ hm;rename_i ks _ _
    induction ks generalizing vs with
    |nil=>cases vs with
     |nil=>simp at hm
     |cons=>simp[Jh] at hr
    |cons k ks ih=>
     cases vs with
     |nil=>simp at hm
     |cons z zs=>
      simp only[Jh,laa,daa] at hr;obtain⟨b,q1,c,q2,q3⟩:=hr;simp only[baa] at q3;obtain⟨rfl,rfl⟩:=q3;simp only[List.zip_cons_cons,Xaa,oaa] at hm;rcases hm with⟨rfl,rfl⟩ | hm
      ·exact atom q1 _
      ·exact ih zs q2 hm
 ·cases h
def yU(R:Rd)(kd:Kd)(k:PV)(es:List (PV×PV))(O7:List MapEntry)(i:Nat):Option (Nat×PV)->Option (Nat×Value)->Prop
 |none,none=>True
 |some (a,p),some (b,u)=>a=b/\∃ j e x,a=i+j/\es[j]? =some e/\O7[j]? =some x/\e.2=p/\x.val=u/\Ta R p u/\Ta R e.1 x.key/\Nl kd k e.1=some true
 |_,_=>False
theorem yU.succ{kd:Kd}{k:PV}{es:List (PV×PV)}{O7:List MapEntry}{i:Nat}{e:PV×PV}{x:MapEntry}{r:Option (Nat×PV)}{r':Option (Nat×Value)}(h:yU R kd k es O7 (i+1) r r'):yU R kd k (e::es) (x::O7) i r r':=by
 cases r with
 |none=>cases r' with
  |none=>trivial
  |some=>exact h.elim
 |some r=>cases r' with
  |none=>exact h.elim
  |some r'=>obtain⟨h1,j,e',x',h2,h3⟩:=h;exact⟨h1,j+1,e',x',by omega,h3⟩
theorem iA{t:TypeId}{kd:Kd}(hk:TB P t kd=true){k:PV}{v:Value}(hv:Ta R k v):∀ {es:List (PV×PV)}{O7:List MapEntry}{i:Nat}{r:Option (Nat×PV)},Py R es O7->yn kd k es i=some r->
 ∃ r',(Instr.findAsking t v O7 i).run P w= .ok r' w/\yU R kd k es O7 i r r'
 | [],[],i,r,_,h=>by simp only[yn,caa] at h;subst h;exact⟨none,by simp[Instr.findAsking],trivial⟩
 |e::es,x::O7,i,r,⟨m1,m2,m3⟩,h=>by
  simp only[yn,laa] at h;obtain⟨b,h1,h2⟩:=h;have hr:=EH (w:=w) hk hv m1 h1;cases b with
  |true=>simp only[if_true,caa] at h2;subst h2;exact⟨some (i,x.val),by simp[Instr.findAsking,hr],rfl,0,e,x,rfl,rfl,rfl,rfl,rfl,m2,m1,h1⟩
  |false=>simp only[saa,if_false] at h2;obtain⟨r',h3,h4⟩:=iA hk hv m3 h2;exact⟨r',by simp[Instr.findAsking,hr,h3],h4.succ⟩
 | [],_::_,_,_,h,_=>h.elim
 |_::_,[],_,_,h,_=>h.elim
theorem aR{d:TypeDesc}{c:Nat}{x y:Value}{b:Bool}(hd:(d= .bool/\c=0)\/((∃ k,d= .int k)/\c=1)\/(d= .string/\c=2))(h:bu c x y=some b):Instr.sameNow d x y=some b:=by
 rcases hd with⟨rfl,rfl⟩ | ⟨⟨k,rfl⟩,rfl⟩ | ⟨rfl,rfl⟩
 ·rcases Vl h with⟨_,c,d,rfl,rfl,rfl⟩ | ⟨h,_⟩ | ⟨h,_⟩
  ·rfl
  ·cases h
  ·cases h
 ·rcases Vl h with⟨h,_⟩ | ⟨_,i,c,d,rfl,rfl,rfl⟩ | ⟨h,_⟩
  ·cases h
  ·simp[Instr.sameNow]
  ·cases h
 ·rcases Vl h with⟨h,_⟩ | ⟨h,_⟩ | ⟨_,c,d,rfl,rfl,rfl⟩
  ·cases h
  ·cases h
  ·rfl
theorem uG{d:TypeDesc}{c:Nat}(hd:(d= .bool/\c=0)\/((∃ k,d= .int k)/\c=1)\/(d= .string/\c=2)){k:PV}{v:Value}(hv:Ta R k v):∀ {es:List (PV×PV)}{O7:List MapEntry}{i:Nat}{r:Option (Nat×PV)},Py R es O7->yn (.one c) k es i=some r->
 ∃ r',Instr.findNow d v O7 i=some r'/\yU R (.one c) k es O7 i r r'
 | [],[],i,r,_,h=>by simp only[yn,caa] at h;subst h;exact⟨none,rfl,trivial⟩
 |e::es,x::O7,i,r,⟨m1,m2,m3⟩,h=>by
  simp only[yn,laa] at h;obtain⟨b,h1,h2⟩:=h;have hr:=aR hd (tv hv m1 h1);cases b with
  |true=>simp only[if_true,caa] at h2;subst h2;exact⟨some (i,x.val),by simp[Instr.findNow,hr],rfl,0,e,x,rfl,rfl,rfl,rfl,rfl,m2,m1,h1⟩
  |false=>simp only[saa,if_false] at h2;obtain⟨r',h3,h4⟩:=uG hd hv m3 h2;exact⟨r',by simp[Instr.findNow,hr,h3],h4.succ⟩
 | [],_::_,_,_,h,_=>h.elim
 |_::_,[],_,_,h,_=>h.elim
theorem NG{t:TypeId}{kd:Kd}(hk:TB P t kd=true){k:PV}{v:Value}(hv:Ta R k v){es:List (PV×PV)}{O7:List MapEntry}{r:Option (Nat×PV)}(hm:Py R es O7)(h:yn kd k es 0=some r):
 ∃ r',(Instr.findKey t v O7).run P w= .ok r' w/\yU R kd k es O7 0 r r':=by
 cases kd with
 |one c=>
  have H8:=hk;simp only[TB,baa,beq_iff_eq] at H8;have hd:∃ d,P.underlying t=some d/\((d= .bool/\c=0)\/((∃ k,d= .int k)/\c=1)\/(d= .string/\c=2)):=by
   rcases nz H8.1 with ha | ⟨_,_,hc⟩
   ·rw[H8.2] at ha;cases ha
   ·rcases hc with⟨hu,e⟩ | ⟨⟨kk,hu⟩,e⟩ | ⟨hu,e⟩
    ·exact⟨_,hu,.inl ⟨rfl,by simpa using e⟩⟩
    ·exact⟨_,hu,.inr (.inl ⟨⟨kk,rfl⟩,by simpa using e⟩)⟩
    ·exact⟨_,hu,.inr (.inr ⟨rfl,by simpa using e⟩)⟩
  obtain⟨d,hu,hd⟩:=hd;obtain⟨r',h1,h2⟩:=uG hd hv hm h;exact⟨r',by simp[Instr.findKey,run_underlying hu,h1],h2⟩
 |row ks=>
  have H8:=hk;simp only[TB,baa,beq_iff_eq] at H8;obtain⟨r',h1,h2⟩:=iA (w:=w) hk hv hm h;have hu:∃ d,P.underlying t=some d/\∀ x y,Instr.sameNow d x y=none:=by
   have ha:=H8.2
   unfold Hm at ha
   split at ha
   ·rename_i fs hu;exact⟨_,hu,fun x y=>by cases x <;> rfl⟩
   ·rename_i n e hu;exact⟨_,hu,fun x y=>by cases x <;> rfl⟩
   ·cases ha
   ·cases ha
  obtain⟨d,hu,hs⟩:=hu;cases O7 with
  |nil=>refine⟨r',?_,h2⟩;simp only[Instr.findAsking,Sem.run_pure] at h1;simp only[Instr.findKey,Sem.run_bind,run_underlying hu,Result.andThen_ok,Instr.findNow,Sem.run_pure];exact h1
  |cons x xs=>exact⟨r',by simp[Instr.findKey,run_underlying hu,Instr.findNow,hs,h1],h2⟩
theorem K.map_set{id:Nat}{c c':List (PV×PV)}(hc:H[id]? =some (.map c))(a:AV)(v:Value)(h:K R φ H a v):K R (Zm φ id (φ id)) (H.set id (.map c')) a v:=by
 have hφ:Zm φ id (φ id)=φ:=by
  funext i
  unfold Zm
  split
  ·rename_i e;rw[e]
  ·rfl
 rw[hφ];have H7:=getElem?_lt hc;have cq:∀ {i:Nat}{x:ba},(H.set id (.map c'))[i]? =some x->(i≠id/\H[i]? =some x)\/(i=id/\x= .map c'):=by
  intro i x hx
  by_cases h:i=id
  ·subst h;rw[Maa H7] at hx;injection hx with hx;exact .inr ⟨rfl,hx.symm⟩
  ·rw[Gaa (lac h)] at hx;exact .inl ⟨h,hx⟩
 cases a with
 |pv p=>exact h
 |ptr i off=>
  refine⟨by simpa using h.1,h.2.1,fun c1 h1=> ?_⟩;rcases cq h1 with⟨_,h2⟩ | ⟨rfl,h2⟩
  ·exact h.2.2 _ h2
  ·cases h2
 |Hc i n off=>
  refine⟨by simpa using h.1,h.2.1,fun sz ag c1 fl nl h1=> ?_⟩;rcases cq h1 with⟨_,h2⟩ | ⟨rfl,h2⟩
  ·exact h.2.2 _ _ _ _ _ h2
  ·cases h2
 |uq i nl sz es=>
  refine⟨by simpa using h.1,h.2.1,h.2.2.1,fun sz' n nl' h1=> ?_⟩;rcases cq h1 with⟨_,h2⟩ | ⟨rfl,h2⟩
  ·exact h.2.2.2 _ _ _ h2
  ·cases h2
 |own i len=>
  refine⟨by simpa using h.1,h.2.1,fun sz ag c1 fl nl h1=> ?_⟩;rcases cq h1 with⟨_,h2⟩ | ⟨rfl,h2⟩
  ·exact h.2.2 _ _ _ _ _ h2
  ·cases h2
 |mp i=>
  refine⟨by simpa using h.1,h.2.1,fun es h1=> ?_⟩;rcases cq h1 with⟨_,h2⟩ | ⟨rfl,_⟩
  ·exact h.2.2 _ h2
  ·exact h.2.2 _ hc
 |Ol ix cs=>exact h.elim
 |agg cs=>exact h.elim
 |mc cs=>exact h.elim
 |undef=>exact h.elim
theorem XI{t:TypeId}{kd:Kd}(h:mQ P t kd=true):∃ k e,P.underlying t=some (.map k e)/\TB P k kd=true:=by
 unfold mQ at h
 split at h
 ·rename_i k e hu;exact⟨k,e,hu,h⟩
 ·cases h
theorem tU{t k e:TypeId}{zero:PV}(hu:P.underlying t=some (.map k e))(h:X0 P t zero=true):∃ z,(∀ w,(zeroValue e).run P w= .ok z w)/\∀ R,Ta R zero z:=by
 unfold X0 at h;simp only[hu] at h;cases hi:P.info? e with
 |none=>simp[hi] at h
 |some i=>
  simp only[hi] at h;cases hz:i.zero with
  |none=>simp[hz] at h
  |some z=>
   simp only[hz] at h;refine⟨z,fun w=>by simp[zeroValue,run_typeInfo w hi,hz],fun R=> ?_⟩
   split at h
   ·rename_i cs ps e1
    injection e1 with e1
    subst e1;exact .agg _ _ (Ko (R:=R) h).1
   ·rename_i z' p e1 e2
    injection e1 with e1
    subst e1;exact Gy h
   ·cases h
theorem wU(hS:vc fo B0 w R φ H)(t:TypeId):Tm fo B0 w R φ H P (Instr.makeMap t none) (.mp H.length) (H++[.map []]):=by
 have hk:=fun a v=>K.push (R:=R) (φ:=φ) (H:=H) (.map []) (w.heap.size,0) a v
 refine⟨.map (some w.heap.size),{w with heap:=w.heap.push (.map #[] 0)},R,AM.Zm φ H.length (w.heap.size,0),?_,?_,?_,hk,AA hS.low hS.slt _⟩
 ·simp[Instr.makeMap,run_newObj]
 ·refine hS.push (by simp) (fun b hb=>Bi hb) (fun _ _ _=>rfl) (fun b o v h=> ?_) hk (fun _=>paa _) ?_
  ·have:=hS.sub b o v h
   rw[VJ (Am this)];exact this
  ·refine⟨by rw[Gb];exact hS.low,by rw[Gb];exact hS.tB (paa _),#[],0,?_,trivial⟩
   rw[Gb];simp
 ·exact .atom _ _ ⟨by simp,rfl,fun c _=>by rw[Gb]⟩
theorem Sc.uW{K:AV->Value->Prop}{id:Nat}{v:Value}(h:Sc fo K (.mp id) v):K (.mp id) v:=by cases h with | atom _ _ h=>exact h
def R2(zero:PV)(ok:Bool):Option (Nat×PV)->AV
 |some (_,x)=>(if ok then .pv (.mc [x,.bool true]) else .pv x)
 |none=>(if ok then .pv (.mc [zero,.bool false]) else .pv zero)
theorem MG(hS:vc fo B0 w R φ H){t:TypeId}{kd:Kd}{zero:PV}(h1:mQ P t kd=true)(h2:X0 P t zero=true){m:AV}{k:PV}{vm vk:Value}(hm:Sc fo (K R φ H) m vm)(hk:Ta R k vk)(ok:Bool){es:List (PV×PV)}
 (hes:m= .pv .nw/\es=[]\/∃ id,m= .mp id/\H[id]? =some (.map es)) (hkk:(Nl kd k k).isSome=true) {r:Option (Nat×PV)} (hf:yn kd k es 0=some r):
 ∃ u,(Instr.lookup t vm vk ok).run P w= .ok u w/\Sc fo (K R φ H) (R2 zero ok r) u:=by
 obtain⟨kt,e,hu,hkd⟩:=XI h1;obtain⟨z,hz,hzr⟩:=tU hu h2;obtain⟨b,hb⟩:=Bad.1 hkk
 have go:∀ (O7:Array MapEntry),Py R es O7.toList->∃ u,(do
  Instr.checkKey O7.isEmpty 10000 kt vk
  let (v,okk) <-match <-Instr.findKey kt vk O7.toList with
   |some (_,v)=>pure (v,true)
   |none=>pure (<- zeroValue e,false)
  pure (if ok then .tuple #[v,.bool okk] else v):Sem Value).run P w= .ok u w/\Sc fo (K R φ H) (R2 zero ok r) u:=by
  intro O7 hE;have hc:=DB (w:=w) hkd hk hb O7.isEmpty
  obtain⟨r',h3,h4⟩:=NG (w:=w) hkd hk hE hf;cases r with
  |none=>
   cases r' with
   |some=>exact h4.elim
   |none=>
    cases ok with
    |true=>exact⟨.tuple #[z,.bool false],by simp[hc,h3,hz w],.atom _ _ (show Ta R _ _ from .mc _ _ (.cons _ _ _ _ (hzr R) (.cons _ _ _ _ (.bool _) .nil)))⟩
    |false=>exact⟨z,by simp[hc,h3,hz w],.atom _ _ (show Ta R _ _ from hzr R)⟩
  |some r=>
   cases r' with
   |none=>exact h4.elim
   |some r'=>
    obtain⟨a,p⟩:=r;obtain⟨b,u⟩:=r';obtain⟨_,j,e',x',_,_,_,_,_,hpu,_⟩:=h4;cases ok with
    |true=>exact⟨.tuple #[u,.bool true],by simp[hc,h3],.atom _ _ (show Ta R _ _ from .mc _ _ (.cons _ _ _ _ hpu (.cons _ _ _ _ (.bool _) .nil)))⟩
    |false=>exact⟨u,by simp[hc,h3],.atom _ _ (show Ta R _ _ from hpu)⟩
 rcases hes with⟨rfl,rfl⟩ | ⟨id,rfl,H7⟩
 ·have:=hm.Rb
  cases this;obtain⟨u,h5,h6⟩:=go #[] trivial;refine⟨u,?_,h6⟩;rw[<- h5];simp only[Instr.lookup,Sem.run_bind,run_underlying hu,Result.andThen_ok,Sem.run_pure];rfl
 ·have H8:=hm.uW
  rw[H8.2.2 _ H7];obtain⟨_,_,O7,clk,h7,h8⟩:=hS.obj _ _ H7
  obtain⟨u,h5,h6⟩:=go O7 h8;refine⟨u,?_,h6⟩;rw[<- h5];have hg:(getObj (φ id).1).run P w= .ok (.map O7 clk) w:=by simp[getObj,Sem.run,h7]
  simp only[Instr.lookup,Sem.run_bind,run_underlying hu,Result.andThen_ok,hg,Sem.run_pure];rfl
theorem Py.push{es:List (PV×PV)}{xs:List MapEntry}{e:PV×PV}{x:MapEntry}(h:Py R es xs)(h1:Ta R e.1 x.key)(h2:Ta R e.2 x.val):Py R (es++[e]) (xs++[x]):=by
 induction es generalizing xs with
 |nil=>cases xs with
  |nil=>exact⟨h1,h2,trivial⟩
  |cons=>exact h.elim
 |cons a as ih=>cases xs with
  |nil=>exact h.elim
  |cons y ys=>exact⟨h.1,h.2.1,ih h.2.2⟩
theorem Py.set{es:List (PV×PV)}{xs:List MapEntry}{e:PV×PV}{x:MapEntry}(h:Py R es xs)(h1:Ta R e.1 x.key)(h2:Ta R e.2 x.val):∀ i,Py R (es.set i e) (xs.set i x):=by
 induction es generalizing xs with
 |nil=>intro i;cases xs with
  |nil=>trivial
  |cons=>exact h.elim
 |cons a as ih=>intro i;cases xs with
  |nil=>exact h.elim
  |cons y ys=>cases i with
   |zero=>exact⟨h1,h2,h.2.2⟩
   |succ i=>exact⟨h.1,h.2.1,ih h.2.2 i⟩
def OQ(w:World)(b:Nat)(O7:Array MapEntry)(clk:Nat):World:={w with heap:=w.heap.setIfInBounds b (.map O7 clk)}
theorem cH(hS:vc fo B0 w R φ H){t:TypeId}{kd:Kd}(h1:mQ P t kd=true){id:Nat}{k x:PV}{vm vk vx:Value}(hm:Sc fo (K R φ H) (.mp id) vm)(hk:Ta R k vk)(hx:Ta R x vx){es:List (PV×PV)}
 (H7:H[id]? =some (.map es)) (hkk:(Nl kd k k).isSome=true) {r:Option (Nat×PV)} (hf:yn kd k es 0=some r):
 ∃ w' φ',(Instr.mapUpdate t vm vk vx).run P w= .ok () w'/\vc fo B0 w' R φ' (H.set id (.map (match r with | some (i,_)=>es.set i (k,x) | none=>es++[(k,x)])))/\
  (∀ a u,K R φ H a u->K R φ' (H.set id (.map (match r with | some (i,_)=>es.set i (k,x) | none=>es++[(k,x)]))) a u)/\oh B0 w w':=by
 obtain⟨kt,e,hu,hkd⟩:=XI h1;obtain⟨b,hb⟩:=Bad.1 hkk
 have H8:=hm.uW
 rw[H8.2.2 _ H7];obtain⟨o1,o2,O7,clk,h7,h8⟩:=hS.obj _ _ H7
 have hc:=DB (w:=w) hkd hk hb false;obtain⟨r',h3,h4⟩:=NG (w:=w) hkd hk h8 hf;have E7:(φ id).1 < w.heap.size:=by
  rcases Qaa (φ id).1 w.heap.size with E7 | e9
  ·exact E7
  ·rw[Nad e9] at h7;cases h7
 have hg:(getObj (φ id).1).run P w= .ok (.map O7 clk) w:=by simp[getObj,Sem.run,h7]
 have J8:∀ o,(setObj (φ id).1 o).run P w= .ok () {w with heap:=w.heap.setIfInBounds (φ id).1 o}:=fun o=>by simp[setObj,Sem.run,h7]
 have heap:∀ {ents':Array MapEntry}{clk' j:Nat},j≠(φ id).1->(OQ w (φ id).1 ents' clk').heap[j]? =w.heap[j]? :=by intro ents' clk' j hj;simp only[OQ];rw[Array.getElem?_setIfInBounds_ne (lac hj)]
 have fin:∀ (ents':Array MapEntry)(clk':Nat)(es':List (PV×PV)),Py R es' ents'.toList->(Instr.mapUpdate t (.map (some (φ id).1)) vk vx).run P w= .ok () (OQ w (φ id).1 ents' clk')->
  ∃ w' φ',(Instr.mapUpdate t (.map (some (φ id).1)) vk vx).run P w= .ok () w'/\vc fo B0 w' R φ' (H.set id (.map es'))/\(∀ a u,K R φ H a u->K R φ' (H.set id (.map es')) a u)/\oh B0 w w':=by
  intro ents' clk' es' hM M7;have hkk:=fun a v=>K.map_set (R:=R) (φ:=φ) (c':=es') H7 a v
  refine⟨_,Zm φ id (φ id),M7,?_,hkk,.vK h7 rfl rfl rfl rfl (by simp[OQ]) o1 hS.slt (hS.free id ⟨_,H7,trivial⟩) fun k _ J7=>heap J7⟩;refine hS.Zm (w':=OQ w (φ id).1 ents' clk') H7 (by simp[OQ]) (fun b hb J7=>heap (J7 trivial)) (fun _ _ _ _=>rfl) (fun b o v hv=> ?_) hkk (fun _=> .inl ⟨trivial,rfl⟩) ?_
  ·rw[Uf (heap (fun e=>by subst e;rw[o2] at hv;cases hv))];exact hS.sub b o v hv
  ·refine⟨by rw[Gb];exact o1,by rw[Gb];exact o2,ents',clk',?_,hM⟩
   rw[Gb];simp[OQ,E7]
 cases r with
 |none=>
  cases r' with
  |some=>exact h4.elim
  |none=>
   refine fin (O7.push {key:=vk,val:=vx,born:=clk}) (clk+1) (es++[(k,x)]) ?_ ?_
   ·simpa using h8.push (e:=(k,x)) (x:={key:=vk,val:=vx,born:=clk}) hk hx
   ·simp only[Instr.mapUpdate,Sem.run_bind,run_underlying hu,Result.andThen_ok,hg,hc,h3]
    rw[J8];rfl
 |some r=>
  cases r' with
  |none=>exact h4.elim
  |some r'=>
   obtain⟨a,p⟩:=r;obtain⟨i,u⟩:=r';obtain⟨rfl,j,e',x',hj,he',hx',_,_,_,hke,heq⟩:=h4;have hj':a=j:=by omega
   subst hj';obtain⟨kak,hsb⟩:=IS hk hke heq;have e9:O7[a]? =some x':=by simpa using hx'
   refine fin (O7.modify a fun e=>{e with key:=vk,val:=vx}) clk (es.set a (k,x)) ?_ ?_
   ·have lak:(O7.modify a fun e=>{e with key:=vk,val:=vx}).toList=O7.toList.set a {x' with key:=vk,val:=vx}:=by
     apply Iab;intro q;rw[Array.getElem?_toList,cad,List.getElem?_set]
     by_cases hq:a=q
     ·subst hq
      have Vaa:a < O7.size:=by simpa using getElem?_lt hx'
      have hga:O7[a]=x':=by rw[xad Vaa] at e9;injection e9
      simp[e9,Vaa,hga]
     ·simp[hq]
    rw[lak];exact h8.set (e:=(k,x)) (x:={x' with key:=vk,val:=vx}) hk hx a
   ·have hks:(Instr.keyThatStays x'.key vk).run P w= .ok vk w:=by
     have:=hsb 9998;rw[<- kak] at this ⊢;simp only[Instr.keyThatStays];rw[if_pos this];simp
    simp only[Instr.mapUpdate,Sem.run_bind,run_underlying hu,Result.andThen_ok,hg,hc,h3,e9,Haa,Tac,hks];rw[J8];rfl
theorem pB{t:TypeId}(hg:P.eqGuardType P.depth t=false)(op:BinOp)(ox oy:Operand){p q:PV}{v u:Value}{kd:Kd}(hp:Ta R p v)(hq:Ta R q u){b:Bool}(h:Nl kd p q=some b):(eqGuard op t ox oy v u).run P w= .ok () w:=by
 have oW:∀ xs ys,(eqGuard op t ox oy (.agg xs) (.agg ys)).run P w= .ok () w:=by intro xs ys;cases op <;> simp[eqGuard,hg,Go.program,Sem.run]
 unfold Nl at h
 split at h
 ·rcases mF h with⟨_,c,d,rfl,rfl,_⟩ | ⟨_,i,c,d,rfl,rfl,_⟩ | ⟨_,c,d,rfl,rfl,_⟩ <;> cases hp <;> cases hq <;> cases op <;> rfl
 ·cases hp;cases hq;exact oW _ _
 ·cases h
theorem K.kill{id:Nat}{o:ba}(H7:H[id]? =some o)(a:AV)(v:Value)(hk:K R φ H a v):K R (Zm φ id (φ id)) (H.set id .dead) a v:=by
 have hl:(H.set id .dead).length=H.length:=by simp
 have inv:∀ {i:Nat}{x:ba},(H.set id .dead)[i]? =some x->x≠ .dead->i≠id/\H[i]? =some x:=by
  intro i x hx hd
  by_cases e:i=id
  ·subst e;rw[Maa (getElem?_lt H7)] at hx;injection hx with hx;exact absurd hx.symm hd
  ·rw[Gaa (lac e)] at hx;exact⟨e,hx⟩
 cases a with
 |pv p=>exact hk
 |ptr i off=>exact⟨by rw[hl];exact hk.1,hk.2.1,fun c hc=>by obtain⟨q1,q2⟩:=inv hc (by simp);rw[De _ _ q1];exact hk.2.2 c q2⟩
 |Hc i n off=>exact⟨by rw[hl];exact hk.1,hk.2.1,fun sz ag c fl nl hc=>by obtain⟨q1,q2⟩:=inv hc (by simp);rw[De _ _ q1];exact hk.2.2 _ _ _ _ _ q2⟩
 |uq i nl sz es=>exact⟨by rw[hl];exact hk.1,hk.2.1,hk.2.2.1,fun sz n nl hc=>by obtain⟨q1,q2⟩:=inv hc (by simp);rw[De _ _ q1];exact hk.2.2.2 _ _ _ q2⟩
 |own i n=>exact⟨by rw[hl];exact hk.1,hk.2.1,fun sz ag c fl nl hc=>by obtain⟨q1,q2⟩:=inv hc (by simp);rw[De _ _ q1];exact hk.2.2 _ _ _ _ _ q2⟩
 |mp i=>exact⟨by rw[hl];exact hk.1,hk.2.1,fun es hc=>by obtain⟨q1,q2⟩:=inv hc (by simp);rw[De _ _ q1];exact hk.2.2 _ q2⟩
 |Ol=>exact hk.elim
 |agg=>exact hk.elim
 |mc=>exact hk.elim
 |undef=>exact hk.elim
theorem YS{o:Oper}{a:Act}{s:TypeId}{x:Operand}(ho:o.op= .convert s s x)(hS:vc fo B0 w R φ H){id n:Nat}{es:List PV}(hr:Sc fo (K R φ H) (.uq id false 1 es) (a.eval x))(H7:H[id]? =some (.tok 1 n false))(hn:n=es.length)
 (hsl:(match Rx P s with | some el=>M4 P el | none=>false)=true):gC P fo B0 o a w R φ H (.pv (.lit 1 es)) (H.set id .dead):=by
 cases M8:Rx P s with
 |none=>simp[M8] at hsl
 |some el=>
  simp only[M8] at hsl;have hu:=Jp M8;have he:P.underlying el=some (.int .u8):=by
   unfold M4 at hsl
   split at hsl
   ·assumption
   ·cases hsl
  have hk:=hr.Uw
  obtain⟨_,hk4⟩:=hk.2.2.2 _ _ _ H7
  obtain⟨_,_,hv⟩:=hk4 hn;have hv:=hv rfl;have hp:=hk.2.2.1 rfl
  obtain⟨h0,_,h3⟩:=hS.obj _ _ H7
  obtain⟨o1,o2,arr,⟨ty,fz,hb,hf⟩,o4,o5⟩:=h3 rfl;have E7:(φ id).1 < w.heap.size:=Wz.lt ⟨ty,fz,hb,hf⟩
  have Eah:(convert s s (a.eval x)).run P w= .ok (a.eval x) (w.freeze ⟨(φ id).1,arr.size,none⟩ 1):=by rw[hv];simp[convert,run_underlying hu,run_underlying he,markStringish,World.shape?,hb]
  intro next Q hn'
  unfold Oper.wp
  have:(execOp a.eval o).run P w= .ok (.value (a.eval x)) (w.freeze ⟨(φ id).1,arr.size,none⟩ 1):=by simp[execOp,ho,Eah]
  rw[this];have heap:∀ {j:Nat},j≠(φ id).1->(w.freeze ⟨(φ id).1,arr.size,none⟩ 1).heap[j]? =w.heap[j]? :=by intro j hj;simp only[World.freeze];rw[kaa (by omega)];simp[cad,lac hj]
  have self:∃ fz',(w.freeze ⟨(φ id).1,arr.size,none⟩ 1).heap[(φ id).1]? =some (.cells arr ty fz'):=by simp only[World.freeze];rw[kaa (by omega)];rw[cad,if_pos rfl,hb];exact⟨_,rfl⟩
  obtain⟨fz',self⟩:=self;have cell:∀ b o,(w.freeze ⟨(φ id).1,arr.size,none⟩ 1).cell? ⟨b,o,none⟩=w.cell? ⟨b,o,none⟩:=by
   intro b o
   by_cases e:b=(φ id).1
   ·subst e;simp[World.cell?,self,hb]
   ·exact Uf (heap e)
  have L7:(w.freeze ⟨(φ id).1,arr.size,none⟩ 1).heap.size=w.heap.size:=by simp only[World.freeze];rw[kaa (by omega)];simp
  have hkk:=fun a v=>K.kill (R:=R) (φ:=φ) H7 a v
  refine hn' _ _ R (Zm φ id (φ id)) ?_ (.atom _ _ (show Ta R _ _ from hp)) hkk ?_
  ·exact hS.Zm (w':=w.freeze ⟨(φ id).1,arr.size,none⟩ 1) H7 (by rw[L7];exact paa _) (fun b hb J7=>heap (J7 rfl)) (fun _ _ _ _=>rfl) (fun b o v h=>by rw[cell];exact hS.sub b o v h) hkk (fun h=>h.elim) trivial
  ·refine .vK hb rfl ?_ ?_ ?_ (by rw[L7];exact paa _) o1 hS.slt (hS.free id ⟨_,H7,rfl⟩) (fun k _ J7=>heap J7) <;> (simp only[World.freeze];rw[kaa (by omega)])
end
section ops
variable {P:Program}{fo:Nat->FuncId}{B0:vg}{w:World}{R:Rd}{φ:Pl}{H H':List ba}{e:Tr}{a:Act}{call:Sa}
theorem qN{v:AV}{u:Value}(h:Sc fo (K R φ H) v u):Sc fo (K R φ H) v.Lq u:=by
 cases v with
 |uq id nl sz es=>
  have hk:=h.Uw
  cases nl with
  |true=>rw[(hk.2.1 rfl).1];exact .atom _ _ (show Ta R _ _ from .ga)
  |false=>exact .atom _ _ (show Ta R _ _ from hk.2.2.1 rfl)
 |_=>exact h
theorem cO:∀ {cs:List AV}{vs:List Value},pb fo (K R φ H) cs vs->pb fo (K R φ H) (cs.map AV.Lq) vs
 | [],_,.nil=> .nil
 |_::_,_,.cons _ _ _ _ h1 h2=> .cons _ _ _ _ (qN h1) (cO h2)
theorem L1{v:AV}{u:Value}(h:Sc fo (K R φ H) v u):Sc fo (K R φ H) v.VE u:=by
 cases v with
 |agg cs=>
  cases h with
  |atom _ _ h=>exact h.elim
  |agg _ vs h=>exact pz (cO h)
 |uq id nl sz es=>exact qN h
 |_=>exact h
theorem iC(hE:ij fo (K R φ H) e a){sz:Nat}:∀ {parts:List (Nat×Operand)}{aparts:List (Nat×AO)},lz fo parts aparts=true->
 (parts.map fun p=>(p.1,a.eval p.2)).length=(aparts.map fun p=>(p.1 * sz,sz,jj e p.2)).length/\
 ∀ (j:Nat)(i:Nat)(v:Value)(off s:Nat)(x:AV),(parts.map fun p=>(p.1,a.eval p.2))[j]? =some (i,v)->(aparts.map fun p=>(p.1 * sz,sz,jj e p.2))[j]? =some (off,s,x)->off=i * sz/\s=sz/\Sc fo (K R φ H) x v
 | [],[],_=>⟨rfl,fun j i v off s x h=>by simp at h⟩
 | (i,x)::xs,(j,y)::ys,h=>by
   simp only[lz,baa,beq_iff_eq] at h;obtain⟨⟨rfl,h1⟩,h2⟩:=h;obtain⟨q1,q2⟩:=iC hE (sz:=sz) h2;refine⟨by simpa using q1,fun k i' v off s z e1 e2=> ?_⟩;cases k with
   |zero=>simp at e1 e2;obtain⟨rfl,rfl⟩:=e1;obtain⟨rfl,rfl,rfl⟩:=e2;exact⟨rfl,rfl,L1 (Ub hE h1)⟩
   |succ k=>exact q2 k i' v off s z (by simpa using e1) (by simpa using e2)
 | [],_::_,h=>by simp[lz] at h
 |_::_,[],h=>by simp[lz] at h
theorem fR(hE:ij fo (K R φ H) e a){x:Option Operand}{y:Option AO}(h:gS fo x y=true):(x=none/\y=none)\/∃ x' y',x=some x'/\y=some y'/\Vm fo x' y'=true:=by
 cases x <;> cases y <;> simp[gS] at h
 ·exact .inl ⟨rfl,rfl⟩
 ·exact .inr ⟨_,_,rfl,rfl,h⟩
theorem P5{ag:Bool}{x:Bool}(h:(!ag||x)=true):ag=true->x=true:=by
 intro e;subst e;simpa using h
theorem BM(hS:vc fo B0 w R φ H){x:AV}{vx:Value}(hx:Sc fo (K R φ H) x vx){s:ByteArray}(h:yI H x=some s):(∃ sa sl sc,vx= .slice sa sl sc)/\(Conv.bytesToString vx).run P w= .ok (.string s) w:=by
 have lits:∀ {es:List PV}{l:List UInt8},Ta R (.lit 1 es) vx->bytesOf es=some l->s=⟨l.toArray⟩->(∃ sa sl sc,vx= .slice sa sl sc)/\(Conv.bytesToString vx).run P w= .ok (.string s) w:=by intro es l hp hb hs;subst hs;refine⟨?_,uR hS hp hb⟩;cases hp <;> exact⟨_,_,_,rfl⟩
 have ga:vx= .slice none 0 0->s=ByteArray.empty->(∃ sa sl sc,vx= .slice sa sl sc)/\(Conv.bytesToString vx).run P w= .ok (.string s) w:=by rintro rfl rfl;exact⟨⟨_,_,_,rfl⟩,by simp[Conv.bytesToString]⟩
 unfold yI at h
 split at h
 ·injection h with h
  have:=hx.Rb
  cases this;exact ga rfl h.symm
 ·simp only[daa] at h
  obtain⟨l,h1,h2⟩:=h;exact lits hx.Rb h1 h2.symm
 ·rename_i id nl es
  simp only[daa] at h;obtain⟨l,h1,h2⟩:=h;have hk:=hx.Uw
  cases nl with
  |true=>
   obtain⟨rfl,rfl⟩:=hk.2.1 rfl
   simp[bytesOf] at h1;subst h1;exact ga rfl h2.symm
  |false=>exact lits (hk.2.2.1 rfl) h1 h2.symm
 ·rename_i id len
  have hk:=hx.MB
  split at h
  ·rename_i sz ag c fl nl hc
   split at h
   ·rename_i n9
    obtain⟨rfl,yab⟩:=n9;obtain⟨k0,k⟩:=hk.2.2 _ _ _ _ _ hc
    obtain⟨o0,o1,o2,o3,o4⟩:=hS.obj _ _ hc
    obtain⟨k1,k2⟩:=k (by omega);cases nl with
    |true=>simp only[if_true,caa] at h;exact ga (k1 rfl) h.symm
    |false=>
     simp only[saa,if_false,daa,laa] at h;obtain⟨l,⟨ps,hps,hl⟩,rfl⟩:=h;rcases k2 rfl with⟨q1,q2,_⟩ | ⟨b,o,cap,q1,q2,_⟩
     ·subst q1;exact absurd (qaa (by omega)) q2
     ·obtain⟨rfl,rfl,rfl⟩:=q2 yab
      subst q1;obtain⟨_,_,arr,p3,p4,p5,p6⟩:=o4 rfl;have h7:=Uk hps p6;obtain⟨ns,e1,rfl⟩:=RJ hl h7;refine⟨⟨_,_,_,rfl⟩,?_⟩;have hlen:(ns.map (Value.int .u8)).length=len:=by rw[<- e1,zab];simp;omega
      have:=run_bytesToString (P:=P) w ⟨(φ id).1,0,none⟩ len (φ id).2 ns (by
       have:=fm (P:=P) (w:=w) (b:=(φ id).1) (o:=0) (vs:=ns.map (Value.int .u8)) (fun j v hj=>by
        rw[Zaa,p3.cell];rw[<- e1,Gab] at hj
        split at hj
        ·simpa using hj
        ·cases hj) hlen
       simpa using this)
      rw[this]
      congr 2
      have h4:=foldl_push ns ByteArray.empty
      generalize ns.foldl (fun r n=>r.push (UInt8.ofNat n.toNat)) ByteArray.empty=z at h4
      obtain⟨⟨z⟩⟩:=z;simp at h4;subst h4;rfl
   ·cases h
  ·cases h
 ·cases h
theorem qU(hS:vc fo B0 w R φ H){x:AV}{vx:Value}(hx:Sc fo (K R φ H) x vx){s:ByteArray}(h:yI H x=some s):∃ sa sl sc,vx= .slice sa sl sc:=(BM (P:=default) hS hx h).1
theorem qZ(hS:vc fo B0 w R φ H){x:AV}{vx:Value}(hx:Sc fo (K R φ H) x vx){s:ByteArray}(h:yI H x=some s):(Conv.bytesToString vx).run P w= .ok (.string s) w:=(BM hS hx h).2
theorem qP(hE:ij fo (K R φ H) e a){pl:Nat->Option (Nat×Nat)}:∀ {xs:List (Nat×Operand)}{ys:List (Nat×Nat×AO)},dq pl fo xs ys=true->(xs.map fun p=>(p.1,a.eval p.2)).length=(ys.map fun p=>(p.1,p.2.1,p.2.2.ev e)).length/\
 ∀ (j:Nat)(i:Nat)(v:Value)(off s:Nat)(x:AV),(xs.map fun p=>(p.1,a.eval p.2))[j]? =some (i,v)->(ys.map fun p=>(p.1,p.2.1,p.2.2.ev e))[j]? =some (off,s,x)->pl i=some (off,s)/\Sc fo (K R φ H) x v:=by
 intro xs
 induction xs with
 |nil=>
  intro ys h;cases ys with
  |nil=>exact⟨rfl,fun j i v off s x h=>by simp at h⟩
  |cons y ys=>simp[dq] at h
 |cons x xs ih=>
  intro ys h;cases ys with
  |nil=>simp[dq] at h
  |cons y ys=>
   obtain⟨i,x⟩:=x;obtain⟨off,sz,y⟩:=y;simp only[dq,baa,beq_iff_eq] at h;obtain⟨q1,q2⟩:=ih h.2
   refine⟨by simpa using q1,fun k i' v off' s z e1 e2=> ?_⟩;cases k with
   |zero=>simp at e1 e2;obtain⟨rfl,rfl⟩:=e1;obtain⟨rfl,rfl,rfl⟩:=e2;exact⟨h.1.1,Ub hE h.1.2⟩
   |succ k=>exact q2 k i' v off' s z (by simpa using e1) (by simpa using e2)
theorem wJ(hS:vc fo B0 w R φ H)(hE:ij fo (K R φ H) e a){t:TypeId}{pl:Nat->Option (Nat×Nat)}{parts:Array (Nat×Operand)}{aparts:List (Nat×Nat×AO)}{zero:List PV}
 (hu:(∃ fs:Array Field,P.underlying t=some (.struct fs)/\(fs.all fun f=>(Vd P f.type).isSome)=true/\pl=fun i=>fs[i]?.map fun f=>(f.offset,(Vd P f.type).getD 0))\/∃ n el k,P.underlying t=some (.array n el)/\Vd P el=some k/\pl=fun i=>some (i * k,k))
 (hb:dq pl fo parts.toList aparts=true) (hz:gw P t zero=true) {cs:List AV} (hf:Qs (zero.map .pv) (aparts.map fun p=>(p.1,p.2.1,p.2.2.ev e))=some cs):
 Tm fo B0 w R φ H P (Instr.build t (parts.map fun (i,x)=>(i,a.eval x))) (Hu cs) H:=by
 unfold gw at hz;cases hi:P.info? t with
 |none=>simp[hi] at hz
 |some i=>
  simp only[hi] at hz;cases hzz:i.zero with
  |none=>simp[hzz] at hz
  |some z=>
   simp only[hzz] at hz;obtain⟨h1,h2⟩:=Ko (R:=R) hz;obtain⟨s1,s2⟩:=qP hE hb;obtain⟨M9,r1,r2⟩:=UF (fo:=fo) (R:=R) (φ:=φ) (H:=H) pl (cs:=z.cells) s1 s2 (pb.CG h1) hf;have mad:(parts.map fun (i,x)=>(i,a.eval x)).toList=parts.toList.map fun p=>(p.1,a.eval p.2):=by simp
   refine Gt.same (.agg M9) hS ?_ (by simpa using pz r2)
   rcases hu with⟨fs,hu,A8,rfl⟩ | ⟨n,el,k,hu,hk,rfl⟩
   ·have X7:∀ (l:List Field),(∀ f∈l,(Vd P f.type).isSome=true)->(l.mapM fun f=>(do pure (f.offset,<-sizeOf f.type):Sem (Nat×Nat))).run P w= .ok (l.map fun f=>(f.offset,(Vd P f.type).getD 0)) w:=by
     intro l
     induction l with
     |nil=>intro _;simp
     |cons f l ih=>
      intro hl;obtain⟨n,hn⟩:=Bad.1 (hl f (by simp))
      rw[List.mapM_cons];simp only[Sem.run_bind,zc hn,Result.andThen_ok,Sem.run_pure,ih (fun g hg=>hl g (by simp[hg]))];simp[hn]
    have jae:(fs.mapM fun f=>(do pure (f.offset,<-sizeOf f.type):Sem (Nat×Nat))).run P w= .ok (fs.map fun f=>(f.offset,(Vd P f.type).getD 0)) w:=by
     have:=X7 fs.toList (fun f hf=>by
      rw[Array.all_eq_true] at A8;obtain⟨i,hi,rfl⟩:=List.mem_iff_getElem.1 hf
      simpa using A8 i (by simpa using hi))
     rw[Array.mapM_eq_mapM_toList];simp only[Sem.run_map,this,Result.andThen_ok];exact congrArg (fun x=>Result.ok x w) (by apply Pac;simp)
    have Ul:(fun i:Nat=>(fs.map fun (f:Field)=>(f.offset,(Vd P f.type).getD 0))[i]?)=fun i:Nat=>fs[i]?.map fun (f:Field)=>(f.offset,(Vd P f.type).getD 0):=by funext i;simp
    rw[<- Ul] at r1;simp only[Instr.build,Sem.run_bind,zeroValue,run_typeInfo w hi,Result.andThen_ok,hzz,Sem.run_pure,run_underlying hu,jae,mad,r1]
   ·simp only[Instr.build,Sem.run_bind,zeroValue,run_typeInfo w hi,Result.andThen_ok,hzz,Sem.run_pure,run_underlying hu,zc hk,mad,r1]
theorem XX{t:TypeId}{f off:Nat}(h:(match S2 P t f with | some fd=>fd.offset==off&&(match Vd P fd.type with | some n=>n != 0 | none=>false) | none=>false)=true):
 ∃ fs fd n,P.underlying t=some (.struct fs)/\fs[f]? =some fd/\fd.offset=off/\Vd P fd.type=some n/\n≠0:=by
 cases hs:S2 P t f with
 |none=>simp[hs] at h
 |some fd=>
  simp only[hs,baa,beq_iff_eq] at h;obtain⟨h1,h2⟩:=h;unfold S2 at hs
  split at hs
  ·rename_i fs hu
   cases hn:Vd P fd.type with
   |none=>simp[hn] at h2
   |some n=>simp[hn] at h2;exact⟨fs,fd,n,hu,hs,h1,hn,h2⟩
  ·cases hs
theorem wW{t:TypeId}{f off n:Nat}{ag:Bool}(h:(match S2 P t f with | some fd=>fd.offset==off&&Hm P fd.type==some ag&&(!ag||Vd P fd.type==some n) | none=>false)=true):
 ∃ fs fd,P.underlying t=some (.struct fs)/\fs[f]? =some fd/\fd.offset=off/\Hm P fd.type=some ag/\(ag=true->Vd P fd.type=some n):=by
 cases hs:S2 P t f with
 |none=>simp[hs] at h
 |some fd=>
  simp only[hs,baa,beq_iff_eq] at h;obtain⟨⟨h1,h2⟩,h3⟩:=h;unfold S2 at hs
  split at hs
  ·rename_i fs hu
   exact⟨fs,fd,hu,hs,h1,h2,fun e=>by simpa using P5 h3 e⟩
  ·cases hs
theorem VX{t:TypeId}{n sz:Nat}(h:(match P.underlying t with | some (.array n' el)=>n'==n&&Vd P el==some sz | _=>false)=true):∃ el,P.underlying t=some (.array n el)/\Vd P el=some sz:=by
 split at h
 ·rename_i n' el hu
  simp at h;obtain⟨rfl,h⟩:=h;exact⟨el,hu,h⟩
 ·cases h
theorem sV{t:TypeId}{n sz:Nat}{ag:Bool}(h:(match P.underlying t with | some (.array n' el)=>n'==n&&Vd P el==some sz&&Hm P el==some ag | _=>false)=true):∃ el,P.underlying t=some (.array n el)/\Vd P el=some sz/\Hm P el=some ag:=by
 split at h
 ·rename_i n' el hu
  simp at h;obtain⟨⟨rfl,h⟩,h2⟩:=h;exact⟨el,hu,h,h2⟩
 ·cases h
theorem II(mx:Bool){xs:List AV}{vs:List Value}{p:PV}(hl:pb fo (K R φ H) xs vs)(hb:ep mx xs=some p):
 ∃ v0 rest v,vs=v0::rest/\(rest.foldlM (if mx then Builtin.max2 else Builtin.min2) v0).run P w= .ok v w/\Ta R p v:=by
 unfold ep at hb
 split at hb
 ·rename_i k x r
  cases hl with
  |cons _ _ v vs h1 h2=>rw[Fe h1 rfl];obtain⟨u,q1,q2⟩:=NM (P:=P) (w:=w) mx h2 hb;exact⟨_,_,u,rfl,q1,q2⟩
 ·cases hb
theorem rU(s:ByteArray)(i:Nat):s[i]? =s.data.toList[i]? :=by
 by_cases h:i < s.size
 ·rw[getElem?_pos s i h]
  have h2:i < s.data.toList.length:=by rw[qad];exact h
  rw[aaa h2];rfl
 ·rw[getElem?_neg s i h]
  have h2:¬i < s.data.toList.length:=by rw[qad];exact h
  rw[Raa (by omega)]
set_option maxHeartbeats 1000000 in
theorem pP{o:Oper}{op:Op}{aop:Od}{v:AV}(ho:o.op=op)(Ba:gY P fo op aop=true)(hS:vc fo B0 w R φ H)(hE:ij fo (K R φ H) e a)(F7:xa call e H aop=some (v,H')):
 gC P fo B0 o a w R φ H v H':=by
 unfold gY at Ba
 split at Ba
 case h_1 x y=>simp[xa] at F7;obtain⟨rfl,rfl⟩:=F7;exact .nu hS (by simp[execOp,ho]) (Ub hE Ba)
 case h_2 x y=>simp[xa] at F7;obtain⟨rfl,rfl⟩:=F7;exact .nu hS (by simp[execOp,ho]) (Ub hE Ba)
 case h_3 c x y c' x' y'=>
  simp only[baa] at Ba;simp only[xa,laa] at F7;obtain⟨t,h1,h2⟩:=F7;simp at h2;obtain⟨rfl,rfl⟩:=h2;have hc:=TA (Ub hE Ba.1.1) h1;refine .nu (v':=if t then a.eval x else a.eval y) hS (by simp[execOp,ho,hc,Go.asBool]) ?_
  cases t
  ·exact Ub hE Ba.2
  ·exact Ub hE Ba.1.2
 case h_4 t zero=>simp[xa] at F7;obtain⟨rfl,rfl⟩:=F7;exact .vd (by simp[execOp,ho]) (bV hS Ba)
 case h_5 t x n y=>
  simp only[xa] at F7
  split at F7
  ·rename_i hc
   simp at F7;obtain⟨rfl,rfl⟩:=F7;exact .vd (by simp[execOp,ho]) (iZ (t:=t) hS (Ub hE Ba) hc.2)
  ·cases F7
 case h_6 t parts zero aparts=>
  simp only[baa] at Ba;obtain⟨h1,h2⟩:=Ba;simp only[xa,daa,oaa] at F7;obtain⟨cs,hf,rfl,rfl⟩:=F7;cases hu:P.underlying t with
  |none=>simp[hu] at h1
  |some d=>
   cases d with
   |struct fs=>simp only[hu,baa] at h1;exact .vd (s:=Instr.build t (parts.map fun (i,x)=>(i,a.eval x))) (by simp[execOp,ho]) (wJ hS hE (.inl ⟨fs,hu,h1.2,rfl⟩) h1.1 h2 hf)
   |array n el=>
    cases hk:Vd P el with
    |none=>simp[hu,hk] at h1
    |some k=>simp only[hu,hk] at h1;exact .vd (s:=Instr.build t (parts.map fun (i,x)=>(i,a.eval x))) (by simp[execOp,ho]) (wJ hS hE (.inr ⟨n,el,k,hu,hk,rfl⟩) h1 h2 hf)
   |_=>simp[hu] at h1
 case h_7 t len parts hh sz ag len' zero aparts=>
  simp only[baa,beq_iff_eq,decide_eq_true_eq] at Ba;obtain⟨⟨⟨h1,rfl⟩,h2⟩,h3⟩:=Ba;cases M8:Rx P t with
  |none=>simp[M8] at h1
  |some el=>
   simp only[M8] at h1;simp only[xa,laa] at F7;obtain⟨cs,hf,H9⟩:=F7
   split at H9
   ·rename_i S7
    obtain⟨q1,q2⟩:=iC hE (sz:=sz) h3;have:=TO (fo:=fo) (B0:=B0) hS (Jp M8) (PI h1) h2 q1 q2 hf S7 H9;refine .vd (s:=Instr.buildSlice t len (parts.map fun (i,x)=>(i,a.eval x))) (by simp[execOp,ho]) ?_
    have hp:(parts.map fun (i,x)=>(i,a.eval x))=(parts.toList.map fun p=>(p.1,a.eval p.2)).toArray:=by apply Pac;simp
    rw[hp];exact this
   ·cases H9
 case h_8 t x ag n y=>
  simp only[baa,beq_iff_eq] at Ba;simp only[xa,daa,oaa] at F7;obtain⟨u,hl,rfl,rfl⟩:=F7;obtain⟨vv,h1,h2⟩:=FN (P:=P) hS (Ub hE Ba.2) Ba.1.1 (fun e=>by simpa using P5 Ba.1.2 e) hl
  exact .vd (s:=Instr.loadAt t (a.eval x)) (by simp[execOp,ho]) (Gt.same vv hS h1 h2)
 case h_9 t p x n q y=>
  simp only[baa,beq_iff_eq] at Ba;simp only[xa,daa,oaa] at F7;obtain⟨H1,hl,rfl,rfl⟩:=F7;obtain⟨w',φ',h1,h2,h3,h4⟩:=FT (P:=P) hS (Ub hE Ba.1.2) (Ub hE Ba.2) Ba.1.1 hl
  intro next Q hn
  unfold Oper.wp
  have:(execOp a.eval o).run P w= .ok .skip w':=by simp[execOp,ho,h1]
  rw[this];exact hn undef w' R φ' h2 (.atom _ _ (show Ta R _ _ from .mc [] [] .nil)) h3 h4
 case h_10 x y=>
  simp only[xa] at F7;have hx:=Ub (R:=R) (φ:=φ) (H:=H) hE Ba;generalize AO.ev e y=z at F7 hx
  obtain⟨vx,hvx⟩:∃ vx,a.eval x=vx:=⟨_,rfl⟩
  rw[hvx] at hx
  split at F7
  ·rename_i ix caps
   simp at F7;obtain⟨rfl,rfl⟩:=F7;have hx2:=hx;cases hx2 with
   |atom _ _ h=>exact h.elim
   |Ol _ _ vs h=>
    refine .nu hS ?_ hx
    simp[execOp,ho,hvx]
  ·simp only[daa,oaa] at F7
   obtain⟨u,hp,rfl,rfl⟩:=F7;obtain⟨b,o',h1,h2⟩:=nD hS hx hp;have:=DQ hp;subst this;refine .nu hS ?_ hx
   simp[execOp,ho,hvx,h1]
 case h_11 op' t x y t' op x' y'=>simp only[baa,decide_eq_true_eq] at Ba;obtain⟨⟨rfl,h1⟩,h2⟩:=Ba;simp only[xa,daa,oaa] at F7;obtain⟨p,hp,rfl,rfl⟩:=F7;obtain⟨u,q1,q2⟩:=XY (P:=P) (w:=w) (Ub hE h1) (Ub hE h2) hp t x y;exact .vd (s:=do eqGuard op' t x y (a.eval x) (a.eval y);binOp op' t (a.eval x) (a.eval y)) (by simp[execOp,ho]) (Gt.same u hS q1 (.atom _ _ q2))
 case h_12 t x y t' k x' y'=>
  simp only[baa,beq_iff_eq] at Ba;simp only[xa,daa,oaa] at F7;obtain⟨b,hb,rfl,rfl⟩:=F7;have:=dY Ba.1.1 hS (Ub hE Ba.1.2) (Ub hE Ba.2) hb .eql (.inl rfl) x y
  exact .vd (s:=do eqGuard .eql t x y (a.eval x) (a.eval y);binOp .eql t (a.eval x) (a.eval y)) (by simp[execOp,ho]) (Gt.same _ hS this (.atom _ _ (by simpa[K] using Ta.bool (R:=R) b)))
 case h_13 t x y t' k x' y'=>
  simp only[baa,beq_iff_eq] at Ba;simp only[xa,daa,oaa] at F7;obtain⟨b,hb,rfl,rfl⟩:=F7;have:=dY Ba.1.1 hS (Ub hE Ba.1.2) (Ub hE Ba.2) hb .neq (.inr rfl) x y
  exact .vd (s:=do eqGuard .neq t x y (a.eval x) (a.eval y);binOp .neq t (a.eval x) (a.eval y)) (by simp[execOp,ho]) (Gt.same _ hS this (.atom _ _ (by simpa[K] using Ta.bool (R:=R) (!b))))
 case h_14 op' t x op y=>simp only[baa,decide_eq_true_eq] at Ba;obtain⟨rfl,h1⟩:=Ba;simp only[xa,daa,oaa] at F7;obtain⟨p,hp,rfl,rfl⟩:=F7;obtain⟨u,q1,q2⟩:=P3 (P:=P) (w:=w) (Ub hE h1) hp;exact .vd (s:=Op.unary op' (a.eval x)) (by simp[execOp,ho]) (Gt.same u hS q1 (.atom _ _ q2))
 case h_15 s d x k y=>
  simp only[baa] at Ba;simp only[xa,daa,oaa] at F7;obtain⟨⟨k',n⟩,hp,rfl,rfl⟩:=F7;have hx:=Fe (Ub hE Ba.2) hp;obtain⟨ds,hds⟩:=Bad.1 Ba.1.1
  have hd:P.underlying d=some (.int k):=by
   have:=Ba.1.2
   unfold Y6 at this
   split at this
   ·rename_i k2 h;simp at this;subst this;exact h
   ·cases this
  refine .vd (s:=convert s d (a.eval x)) (by simp[execOp,ho]) (Gt.same _ hS ?_ (.atom _ _ (show Ta R _ _ from .int _ _)))
  rw[hx];exact WW hds hd
 case h_16 s d x y=>
  simp only[baa] at Ba;obtain⟨⟨h1,h2⟩,h3⟩:=Ba;simp only[xa,daa,oaa] at F7;obtain⟨str,hp,rfl,rfl⟩:=F7;have hx:=Ub (R:=R) (φ:=φ) (H:=H) hE h3;cases M8:Rx P s with
  |none=>simp[M8] at h1
  |some el=>
   simp only[M8] at h1;have hs:=Jp M8;have hb:P.underlying el=some (.int .u8):=by
    unfold M4 at h1
    split at h1
    ·rename_i h;exact h
    ·cases h1
   have hd:P.underlying d=some .string:=by
    unfold X4 at h2
    split at h2
    ·rename_i h;exact h
    ·cases h2
   have hr:=qZ (P:=P) hS hx hp;refine .vd (s:=convert s d (a.eval x)) (by simp[execOp,ho]) (Gt.same (.string str) hS ?_ (.atom _ _ (show Ta R _ _ from .str _)))
   obtain⟨sa,sl,sc,hv⟩:=qU hS hx hp;rw[hv] at hr ⊢;rw[run_convert_bytes_string w s d el sa sl sc hs hb hd];exact hr
 case h_17 s d x hh y=>
  simp only[baa] at Ba;obtain⟨⟨h1,h2⟩,h3⟩:=Ba;obtain⟨ds,hds⟩:=Bad.1 h1
  simp only[xa] at F7;have hx:=Ub (R:=R) (φ:=φ) (H:=H) hE h3
  split at F7
  ·rename_i b hy
   rw[hy] at hx;obtain⟨vx,hvx⟩:∃ vx,a.eval x=vx:=⟨_,rfl⟩
   rw[hvx] at hx;have hp:=hx.Rb
   cases hp;cases M8:Rx P d with
   |none=>simp[M8] at h2
   |some el=>
    simp only[M8] at h2;have hb:P.underlying el=some (.int .u8):=by
     unfold M4 at h2
     split at h2
     ·rename_i h;exact h
     ·cases h2
    exact .vd (s:=convert s d (.string b)) (by simp[execOp,ho,hvx]) (Z0 hS hds (Jp M8) hb F7)
  ·cases F7
 case h_18 f first caps ix ys=>
  simp only[baa,beq_iff_eq] at Ba;obtain⟨⟨h1,rfl⟩,h2⟩:=Ba;simp[xa] at F7;obtain⟨rfl,rfl⟩:=F7;have hf:first= #[]:=by simpa using h1
  have:=Qt (R:=R) (φ:=φ) (H:=H) hE h2;refine .vd (s:=Instr.makeFunc (.func (fo ix)) (first.map a.eval) (caps.map a.eval)) (by simp[execOp,ho]) (Gt.same (.func (.func (fo ix)) #[] (caps.map a.eval)) hS (by simp[Instr.makeFunc,hf]) ?_)
  have Fah:caps.map a.eval=⟨caps.toList.map a.eval⟩:=by apply Pac;simp
  rw[Fah];exact .Ol _ _ _ this
 case h_19 t l c hh sz ag zero bytes l' c'=>
  simp only[baa,decide_eq_true_eq] at Ba;obtain⟨⟨⟨h1,h2⟩,h3⟩,h4⟩:=Ba;cases M8:Rx P t with
  |none=>simp[M8] at h1
  |some el=>
   simp only[M8,baa,beq_iff_eq] at h1;simp only[xa,laa] at F7;obtain⟨⟨kl,nl⟩,hl,⟨kc,nc⟩,hc,G8⟩:=F7
   split at G8
   ·rename_i n9
    have e1:=Fe (Ub hE h3) hl;have e2:=Fe (Ub hE h4) hc;refine .vd (s:=Instr.makeSlice t (a.eval l) (a.eval c)) (by simp[execOp,ho]) ?_
    rw[e1,e2];exact YM hS (Jp M8) (PI h1.1) h1.2 h2 n9.1 n9.2.1 n9.2.2 G8
   ·cases G8
 case h_20 t x lo hi sz y lo' hi'=>
  simp only[baa] at Ba;obtain⟨⟨⟨h1,h2⟩,h3⟩,h4⟩:=Ba;have hx:=Ub (R:=R) (φ:=φ) (H:=H) hE h2;have hu:(sz≠0/\∃ el,P.underlying t=some (.slice el)/\Vd P el=some sz)\/(sz=0/\P.underlying t=some .string):=by
   cases hu:P.underlying t with
   |none=>simp[hu] at h1
   |some d=>
    cases d <;> simp[hu] at h1
    ·exact .inr ⟨h1,rfl⟩
    ·exact .inl ⟨h1.1,_,rfl,h1.2⟩
  have fin:∀ {l h:Option Int},((lo.map a.eval=none/\l=none)\/∃ k n,lo.map a.eval=some (.int k n)/\l=some n)->((hi.map a.eval=none/\h=none)\/∃ k n,hi.map a.eval=some (.int k n)/\h=some n)->
   (ug H sz (AO.ev e y) l h).map (fun v=>(v,H))=some (v,H')->gC P fo B0 o a w R φ H v H':=by
   intro l h hl hh hsl;simp only[daa,oaa] at hsl;obtain⟨u,hu2,rfl,rfl⟩:=hsl;exact .vd (s:=Instr.sliceAt t (a.eval x) (lo.map a.eval) (hi.map a.eval) none) (by simp[execOp,ho]) (uT hS hx hu hl hh hu2)
  rcases fR hE h3 with⟨rfl,rfl⟩ | ⟨x1,y1,rfl,rfl,g1⟩ <;> rcases fR hE h4 with⟨rfl,rfl⟩ | ⟨x2,y2,rfl,rfl,g2⟩
  ·simp only[xa] at F7
   exact fin (.inl ⟨rfl,rfl⟩) (.inl ⟨rfl,rfl⟩) F7
  ·simp only[xa,laa] at F7
   obtain⟨⟨k,n⟩,h5,h6⟩:=F7;exact fin (.inl ⟨rfl,rfl⟩) (.inr ⟨k,n,by simp[Fe (Ub hE g2) h5],rfl⟩) h6
  ·simp only[xa,laa] at F7
   obtain⟨⟨k,n⟩,h5,h6⟩:=F7;exact fin (.inr ⟨k,n,by simp[Fe (Ub hE g1) h5],rfl⟩) (.inl ⟨rfl,rfl⟩) h6
  ·simp only[xa,laa] at F7
   obtain⟨⟨k,n⟩,h5,⟨k2,n2⟩,h7,h6⟩:=F7;exact fin (.inr ⟨k,n,by simp[Fe (Ub hE g1) h5],rfl⟩) (.inr ⟨k2,n2,by simp[Fe (Ub hE g2) h7],rfl⟩) h6
 case h_21 t x f off y=>simp only[baa] at Ba;obtain⟨h1,h2⟩:=Ba;simp only[xa,daa,oaa] at F7;obtain⟨u,hp,rfl,rfl⟩:=F7;obtain⟨fs,fd,n,hu,hf,rfl,hn,hn0⟩:=XX h1;exact .vd (s:=Instr.fieldAt t (a.eval x) f) (by simp[execOp,ho]) (iT hS (Ub hE h2) hu hf hn hn0 hp)
 case h_22 t x f off ag n y=>
  simp only[baa] at Ba;obtain⟨h1,h2⟩:=Ba;have hx:=Ub (R:=R) (φ:=φ) (H:=H) hE h2;obtain⟨fs,fd,hu,hf,rfl,ha,hn⟩:=wW h1;simp only[xa] at F7;refine .vd (s:=Instr.field t (a.eval x) f) (by simp[execOp,ho]) ?_
  have M7:∀ vs:Array Value,(Instr.field t (.agg vs) f).run P w=(part fd.type vs fd.offset).run P w:=by intro vs;simp[Instr.field,run_underlying hu,hf,asAgg]
  obtain⟨i1,i2⟩:=ZR hx
  split at F7
  ·rename_i cs hy
   obtain⟨vs,e1,e2⟩:=i1 cs hy;simp only[daa,oaa] at F7;obtain⟨p,hp,rfl,rfl⟩:=F7;rw[Tm,e1,M7];exact ZN hS ha hn e2 hp
  ·rename_i cs hy
   obtain⟨vs,e1,e2⟩:=i2 cs hy;simp only[daa,oaa] at F7;obtain⟨p,hp,rfl,rfl⟩:=F7;rw[Tm,e1,M7];exact lO hS ha hn e2 hp
  ·cases F7
 case h_23 t x i sz y j=>
  simp only[baa] at Ba;obtain⟨⟨h1,h2⟩,h3⟩:=Ba;simp only[xa,laa,daa,oaa] at F7;obtain⟨⟨k,n⟩,hi,u,hp,rfl,rfl⟩:=F7;have e1:=Fe (Ub hE h3) hi;cases M8:Rx P t with
  |none=>simp[M8] at h1
  |some el=>
   simp only[M8,beq_iff_eq] at h1;refine .vd (s:=Instr.indexAt t (a.eval x) (a.eval i)) (by simp[execOp,ho]) ?_
   rw[e1];exact KU hS (Ub hE h2) (Jp M8) h1 hp
 case h_24 t x i n sz y j=>
  simp only[baa] at Ba;obtain⟨⟨h1,h2⟩,h3⟩:=Ba;simp only[xa,laa] at F7;obtain⟨⟨k,m⟩,hi,G8⟩:=F7
  split at G8
  ·rename_i hix
   simp only[daa,oaa] at G8;obtain⟨u,hp,rfl,rfl⟩:=G8;have e1:=Fe (Ub hE h3) hi;obtain⟨el,hu,L7⟩:=VX h1;refine .vd (s:=Instr.indexAt t (a.eval x) (a.eval i)) (by simp[execOp,ho]) ?_
   rw[e1];exact iQ hS (Ub hE h2) hu L7 hix hp
  ·cases G8
 case h_25 t x i n sz ag y j=>
  simp only[baa] at Ba;obtain⟨⟨h1,h2⟩,h3⟩:=Ba;have hx:=Ub (R:=R) (φ:=φ) (H:=H) hE h2;simp only[xa,laa] at F7;obtain⟨⟨k,m⟩,hi,G8⟩:=F7
  split at G8
  ·rename_i hix
   have e1:=Fe (Ub hE h3) hi;obtain⟨el,hu,L7,ha⟩:=sV h1;refine .vd (s:=Instr.index t (a.eval x) (a.eval i)) (by simp[execOp,ho]) ?_
   obtain⟨g1,g2⟩:=hix;have M7:∀ vs:Array Value,(Instr.index t (.agg vs) (.int k m)).run P w=(part el vs (m.toNat * sz)).run P w:=by intro vs;simp only[] at g1 g2;simp[Instr.index,asIntOf,run_underlying hu,g1,g2,zc L7]
   obtain⟨i1,i2⟩:=ZR hx
   split at G8
   ·rename_i cs hy
    obtain⟨vs,e2,e3⟩:=i1 cs hy;simp only[daa,oaa] at G8;obtain⟨p,hp,rfl,rfl⟩:=G8;rw[Tm,e1,e2,M7];exact ZN hS ha (fun _=>L7) e3 hp
   ·rename_i cs hy
    obtain⟨vs,e2,e3⟩:=i2 cs hy;simp only[daa,oaa] at G8;obtain⟨p,hp,rfl,rfl⟩:=G8;rw[Tm,e1,e2,M7];exact lO hS ha (fun _=>L7) e3 hp
   ·cases G8
  ·cases G8
 case h_26 t x i y j=>
  simp only[baa] at Ba;obtain⟨⟨h1,h2⟩,h3⟩:=Ba;have hx:=Ub (R:=R) (φ:=φ) (H:=H) hE h2;have hd:P.underlying t=some .string:=by
   unfold X4 at h1
   split at h1
   ·rename_i h;exact h
   ·cases h1
  simp only[xa,laa] at F7;obtain⟨⟨k,m⟩,hi,G8⟩:=F7;have e1:=Fe (Ub hE h3) hi
  split at G8
  ·rename_i str hy
   split at G8
   ·rename_i hm
    simp only[daa,oaa] at G8;obtain⟨b,hb,rfl,rfl⟩:=G8;rw[hy] at hx;obtain⟨vx,hvx⟩:∃ vx,a.eval x=vx:=⟨_,rfl⟩
    rw[hvx] at hx;have hp:=hx.Rb
    cases hp;have hb':str[m.toNat]? =some b:=by rw[<- hb];exact rU _ _
    refine .vd (s:=Instr.index t (a.eval x) (a.eval i)) (by simp[execOp,ho]) (Gt.same (.int .u8 b.toNat) hS ?_ (.atom _ _ (show Ta R _ _ from .int _ _)))
    rw[hvx,e1];simp only[] at hm;simp[Instr.index,asIntOf,run_underlying hd,hm,hb']
   ·cases G8
  ·cases G8
 case h_27 x i i' y=>
  simp only[baa,beq_iff_eq] at Ba;obtain⟨rfl,h1⟩:=Ba;have hx:=Ub (R:=R) (φ:=φ) (H:=H) hE h1;simp only[xa] at F7;obtain⟨i1,i2⟩:=oZ hx;refine .vd (s:=Instr.extract (a.eval x) i) (by simp[execOp,ho]) ?_
  split at F7
  ·rename_i cs hy
   obtain⟨vs,e1,e2⟩:=i1 cs hy;simp only[daa,oaa] at F7;obtain⟨p,hp,rfl,rfl⟩:=F7;obtain⟨u,hu,hr⟩:=e2.get hp
   rw[e1];exact Gt.same u hS (by simp[Instr.extract,hu]) (.atom _ _ hr)
  ·rename_i cs hy
   obtain⟨vs,e1,e2⟩:=i2 cs hy;simp only[daa,oaa] at F7;obtain⟨p,hp,rfl,rfl⟩:=F7;obtain⟨u,hu,hr⟩:=e2.get hp
   rw[e1];exact Gt.same u hS (by simp[Instr.extract,hu]) hr
  ·cases F7
 case h_28 args argTypes k y=>
  simp only[xa,daa,oaa] at F7;obtain⟨n,hn,rfl,rfl⟩:=F7
  split at Ba
  ·rename_i x t nad Naf
   simp only[baa] at Ba;have ha:args= #[x]:=by apply Pac;simpa using nad
   have ht:argTypes= #[t]:=by apply Pac;simpa using Naf
   subst ha ht;have hu:(k=0/\∃ e,P.underlying t=some (.slice e))\/(k=1/\P.underlying t=some .string):=by
    have:=Ba.2
    cases hu:P.underlying t with
    |none=>simp[hu] at this
    |some d=>cases d <;> simp[hu] at this <;> simp_all
   exact .vd (s:=Builtin.len_ #[t] o.type #[a.eval x]) (by simp[execOp,ho,resolve,invoke,builtin]) (HZ hS (Ub hE Ba.1) hu hn)
  ·cases Ba
 case h_29 args tys ys=>simp only[xa,daa,oaa] at F7;obtain⟨p,hp,rfl,rfl⟩:=F7;have hl:=Qt (R:=R) (φ:=φ) (H:=H) hE Ba;obtain⟨v0,rest,u,q0,q1,q2⟩:=II (P:=P) (w:=w) true hl hp;exact .vd (s:=Builtin.max_ tys o.type (args.map a.eval)) (by simp[execOp,ho,resolve,invoke,builtin]) (Gt.same u hS (by simp only[Builtin.max_,Array.toList_map,q0];simpa using q1) (.atom _ _ q2))
 case h_30 args tys ys=>simp only[xa,daa,oaa] at F7;obtain⟨p,hp,rfl,rfl⟩:=F7;have hl:=Qt (R:=R) (φ:=φ) (H:=H) hE Ba;obtain⟨v0,rest,u,q0,q1,q2⟩:=II (P:=P) (w:=w) false hl hp;exact .vd (s:=Builtin.min_ tys o.type (args.map a.eval)) (by simp[execOp,ho,resolve,invoke,builtin]) (Gt.same u hS (by simp only[Builtin.min_,Array.toList_map,q0];simpa using q1) (.atom _ _ q2))
 case h_31 args argTypes own hh sz ag bytes s y=>
  simp only[xa] at F7
  split at Ba
  ·rename_i x z t tx nad Naf
   simp only[baa] at Ba;have ha:args= #[x,z]:=by apply Pac;simpa using nad
   have ht:argTypes= #[t,tx]:=by apply Pac;simpa using Naf
   subst ha ht;obtain⟨⟨h1,h2⟩,h3⟩:=Ba;cases M8:Rx P t with
   |none=>simp[M8] at h3
   |some el=>
    simp only[M8,baa] at h3;have hA:=cQ h3.1
    refine .vd (s:=Builtin.append_ #[t,tx] o.type #[a.eval x,a.eval z]) (by simp[execOp,ho,resolve,invoke,builtin]) ?_
    have hs:=Ub (R:=R) (φ:=φ) (H:=H) hE h1;have hx:=Ub (R:=R) (φ:=φ) (H:=H) hE h2;generalize AO.ev e s=sv at F7 hs
    generalize AO.ev e y=xv at F7 hx
    unfold Cb at F7
    split at F7
    ·split at F7
     ·split at F7
      ·rename_i id len sz' ag' cells fl nl H7
       simp only[laa] at F7;obtain⟨⟨m,cs⟩,hy,G8⟩:=F7
       split at G8
       ·rename_i hc
        obtain⟨rfl,hc1,hc2,hc3⟩:=hc;simp only[caa,oaa] at G8;obtain⟨rfl,rfl⟩:=G8;exact KQ hS hA hs hx H7 hc1 hy hc3 hc2
       ·cases G8
      ·cases F7
     ·cases F7
    ·split at F7
     ·split at F7
      ·rename_i id nl sz' es sz2 n nl2 H7
       simp only[laa] at F7;obtain⟨ys,hy,G8⟩:=F7
       split at G8
       ·rename_i hc
        obtain⟨rfl,rfl,hc1,hc2⟩:=hc;simp only[caa,oaa] at G8;obtain⟨rfl,rfl⟩:=G8;exact gV hS hA hs hx H7 hc1 hy hc2
       ·cases G8
      ·cases F7
     ·simp only[laa] at F7
      obtain⟨ys,hy,G8⟩:=F7
      split at G8
      ·rename_i hc
       have hp:=hs.Rb
       obtain⟨vs,hvs⟩:∃ vs,a.eval x=vs:=⟨_,rfl⟩
       rw[hvs] at hp ⊢;cases hp;exact LO hS hA hx hy hc G8
      ·cases G8
     ·cases F7
  ·cases Ba
 case h_32 t x n y=>
  simp only[xa] at F7
  split at F7
  ·rename_i hc
   simp only[daa,oaa] at F7;obtain⟨ps,hps,rfl,rfl⟩:=F7;exact .vd (by simp[execOp,ho]) (DW (t:=t) hS (Ub hE Ba) hc.2 hps)
  ·cases F7
 case h_33 t x y _ ks x' y'=>
  simp only[baa,oac] at Ba;simp only[xa] at F7
  split at F7
  ·rename_i p q hp hq
   simp only[daa,oaa] at F7;obtain⟨b,hb,rfl,rfl⟩:=F7;have h1:=Ub (R:=R) (φ:=φ) (H:=H) hE Ba.1.2
   have h2:=Ub (R:=R) (φ:=φ) (H:=H) hE Ba.2
   rw[hp] at h1;rw[hq] at h2;have hg:=pB (w:=w) Ba.1.1.2 .eql x y h1.Rb h2.Rb hb
   have hr:=EH (w:=w) Ba.1.1.1 h1.Rb h2.Rb hb
   have Paf:(binOp .eql t (a.eval x) (a.eval y)).run P w= .ok (.bool b) w:=by
    have e:=h1.Rb
    have e2:=h2.Rb
    revert hr;generalize a.eval x=vx at e
    generalize a.eval y=vy at e2
    intro hr;have Ul:∃ xs,p= .agg xs:=by cases p <;> simp[Nl] at hb;exact⟨_,rfl⟩
    obtain⟨xs,rfl⟩:=Ul;have Y9:∃ ys,q= .agg ys:=by cases q <;> simp[Nl] at hb;exact⟨_,rfl⟩
    obtain⟨ys,rfl⟩:=Y9;cases e;cases e2;simp[binOp,hr]
   exact .nu (v':= .bool b) hS (by simp[execOp,ho,hg,Paf]) (.atom _ _ (show Ta R _ _ from .bool _))
  ·cases F7
 case h_34 t x y _ ks x' y'=>
  simp only[baa,oac] at Ba;simp only[xa] at F7
  split at F7
  ·rename_i p q hp hq
   simp only[daa,oaa] at F7;obtain⟨b,hb,rfl,rfl⟩:=F7;have h1:=Ub (R:=R) (φ:=φ) (H:=H) hE Ba.1.2
   have h2:=Ub (R:=R) (φ:=φ) (H:=H) hE Ba.2
   rw[hp] at h1;rw[hq] at h2;have hg:=pB (w:=w) Ba.1.1.2 .neq x y h1.Rb h2.Rb hb
   have hr:=EH (w:=w) Ba.1.1.1 h1.Rb h2.Rb hb
   have Paf:(binOp .neq t (a.eval x) (a.eval y)).run P w= .ok (.bool (!b)) w:=by
    have e:=h1.Rb
    have e2:=h2.Rb
    revert hr;generalize a.eval x=vx at e
    generalize a.eval y=vy at e2
    intro hr;have Ul:∃ xs,p= .agg xs:=by cases p <;> simp[Nl] at hb;exact⟨_,rfl⟩
    obtain⟨xs,rfl⟩:=Ul;have Y9:∃ ys,q= .agg ys:=by cases q <;> simp[Nl] at hb;exact⟨_,rfl⟩
    obtain⟨ys,rfl⟩:=Y9;cases e;cases e2;simp[binOp,hr]
   exact .nu (v':= .bool (!b)) hS (by simp[execOp,ho,hg,Paf]) (.atom _ _ (show Ta R _ _ from .bool _))
  ·cases F7
 case h_35 t=>simp only[xa,caa,oaa] at F7;obtain⟨rfl,rfl⟩:=F7;exact .vd (s:=Instr.makeMap t none) (by simp[execOp,ho]) (wU hS _)
 case h_36 t x k ok kd zero ok' x' k'=>
  simp only[baa,beq_iff_eq] at Ba;obtain⟨⟨⟨⟨h1,h2⟩,rfl⟩,h3⟩,h4⟩:=Ba;have hm:=Ub (R:=R) (φ:=φ) (H:=H) hE h3;have hk:=Ub (R:=R) (φ:=φ) (H:=H) hE h4;simp only[xa] at F7
  split at F7
  ·rename_i kp em ek
   rw[em] at hm;rw[ek] at hk
   split at F7
   ·rename_i hkk
    simp only[caa,oaa] at F7;obtain⟨rfl,rfl⟩:=F7;obtain⟨u,h5,h6⟩:=MG (P:=P) hS h1 h2 hm hk.Rb ok (.inl ⟨rfl,rfl⟩) hkk (r:=none) rfl
    exact .nu hS (by simp[execOp,ho,h5]) h6
   ·cases F7
  ·rename_i id kp em ek
   rw[em] at hm;rw[ek] at hk
   split at F7
   ·rename_i es H7
    split at F7
    ·rename_i hkk
     simp only[daa] at F7;obtain⟨r,hf,hr⟩:=F7;obtain⟨u,h5,h6⟩:=MG (P:=P) hS h1 h2 hm hk.Rb ok (.inr ⟨id,rfl,H7⟩) hkk hf
     cases r with
     |none=>simp only[oaa] at hr;obtain⟨rfl,rfl⟩:=hr;exact .nu hS (by simp[execOp,ho,h5]) h6
     |some r=>simp only[oaa] at hr;obtain⟨rfl,rfl⟩:=hr;exact .nu hS (by simp[execOp,ho,h5]) h6
    ·cases F7
   ·cases F7
  ·cases F7
 case h_37 t m k x kd m' k' x'=>
  simp only[baa] at Ba;obtain⟨⟨⟨h1,h2⟩,h3⟩,h4⟩:=Ba;have hm:=Ub (R:=R) (φ:=φ) (H:=H) hE h2;have hk:=Ub (R:=R) (φ:=φ) (H:=H) hE h3;have hx:=Ub (R:=R) (φ:=φ) (H:=H) hE h4;simp only[xa] at F7
  split at F7
  ·rename_i id kp xp em ek ex
   rw[em] at hm;rw[ek] at hk;rw[ex] at hx
   split at F7
   ·rename_i es H7
    split at F7
    ·rename_i hkk
     simp only[daa] at F7;obtain⟨r,hf,hr⟩:=F7;obtain⟨w',φ',h5,h6,h7,h8⟩:=cH (P:=P) hS h1 hm hk.Rb hx.Rb H7 hkk hf
     intro next Q hn
     unfold Oper.wp
     have:(execOp a.eval o).run P w= .ok .skip w':=by simp[execOp,ho,h5]
     rw[this];cases r with
     |none=>simp only[oaa] at hr;obtain⟨rfl,rfl⟩:=hr;exact hn undef w' R φ' h6 (.atom _ _ (show Ta R _ _ from .mc [] [] .nil)) h7 h8
     |some r=>simp only[oaa] at hr;obtain⟨rfl,rfl⟩:=hr;exact hn undef w' R φ' h6 (.atom _ _ (show Ta R _ _ from .mc [] [] .nil)) h7 h8
    ·cases F7
   ·cases F7
  ·cases F7
 case h_38 t m k x kd m' k' x'=>
  simp only[baa] at Ba;obtain⟨⟨⟨h1,h2⟩,h3⟩,h4⟩:=Ba;have hm:=Ub (R:=R) (φ:=φ) (H:=H) hE h2;have hk:=Ub (R:=R) (φ:=φ) (H:=H) hE h3;have hx:=Ub (R:=R) (φ:=φ) (H:=H) hE h4;simp only[xa] at F7
  split at F7
  ·rename_i id kp xp em ek ex
   rw[em] at hm;rw[ek] at hk;rw[ex] at hx
   split at F7
   ·rename_i es H7
    split at F7
    ·rename_i hkk
     simp only[daa] at F7;obtain⟨r,hf,hr⟩:=F7;obtain⟨w',φ',h5,h6,h7,h8⟩:=cH (P:=P) hS h1 hm hk.Rb hx.Rb H7 hkk hf
     intro next Q hn
     unfold Oper.wp
     have:(execOp a.eval o).run P w= .ok .skip w':=by simp[execOp,ho,h5]
     rw[this];cases r with
     |none=>simp only[oaa] at hr;obtain⟨rfl,rfl⟩:=hr;exact hn undef w' R φ' h6 (.atom _ _ (show Ta R _ _ from .mc [] [] .nil)) h7 h8
     |some r=>simp only[oaa] at hr;obtain⟨rfl,rfl⟩:=hr;exact hn undef w' R φ' h6 (.atom _ _ (show Ta R _ _ from .mc [] [] .nil)) h7 h8
    ·cases F7
   ·cases F7
  ·cases F7
 case h_39 s d x y=>
  simp only[xa] at F7
  split at F7
  ·rename_i id es hx
   split at F7
   ·rename_i n H7
    split at F7
    ·rename_i hn2
     simp only[caa,oaa] at F7;obtain⟨rfl,rfl⟩:=F7;simp only[baa,beq_iff_eq] at Ba;obtain⟨⟨rfl,hsl⟩,h3⟩:=Ba;have hr:=Ub (R:=R) (φ:=φ) (H:=H) hE h3;rw[hx] at hr;exact YS ho hS hr H7 hn2 hsl
    ·cases F7
   ·cases F7
  ·cases F7
 case h_40=>cases Ba
end ops
end Go.AM
namespace Go.AM
def AO.look(n:Nat):AO->Bool
 | .t m=>n==m
 |_=>false
def Od.look(n:Nat):Od->Bool
 | .move x | .box _ x | .QP _ x | .load _ _ x | .MH x | .un _ x | .conv _ x | .Y4 x | .y5 x | .HY _ x | .yF _ x | .x5 _ _ _ x | .ext _ x | .len _ x=>x.look n
 | .alloc _=>false
 | .pick c a b=>c.look n||a.look n||b.look n
 | .build _ ps=>ps.any fun p=>p.2.2.look n
 | .xb _ _ _ _ _ ps=>ps.any fun p=>p.2.look n
 | .store _ a v=>a.look n||v.look n
 | .bin _ x y | .eq _ _ x y=>x.look n||y.look n
 | .MK _ xs | .mx xs | .mn xs | .Xp _ xs | .Ag _ xs | .AG _ xs=>xs.any (·.look n)
 | .bh _ _ _ _ _ l c=>l.look n||c.look n
 | .slice _ x lo hi=>x.look n||(lo.any (·.look n))||(hi.any (·.look n))
 | .Pd _ x i | .ay _ _ x i | .FY _ _ _ x i | .W4 x i=>x.look n||i.look n
 | .append _ _ _ _ _ s x=>s.look n||x.look n
 | .zZ _ _ x y=>x.look n||y.look n
 | .XF=>false
 | .lookup _ _ _ m k=>m.look n||k.look n
 | .bw _ m k v=>m.look n||k.look n||v.look n
 | .aE f xs=>f.look n||xs.any (·.look n)
def K5(p:Nat->Bool)(e e':Tr):Prop:=∀ n,p n=true->e.get n=e'.get n
theorem AO.wN{e e':Tr}{x:AO}(h:∀ n,x.look n=true->e.get n=e'.get n):x.ev e=x.ev e':=by
 cases x with
 |t n=>exact h n (by simp[AO.look])
 |c p=>rfl
 |f ix=>rfl
theorem xV{e e':Tr}{xs:List AO}(h:∀ n,xs.any (·.look n)=true->e.get n=e'.get n):xs.map (·.ev e)=xs.map (·.ev e'):=
 iac fun x hx=>AO.wN fun n hn=>h n (Rad.2 ⟨x,hx,hn⟩)
theorem xB{call:Sa}{e e':Tr}{H:List ba}{op:Od}(h:K5 (fun n=>op.look n) e e'):xa call e H op=xa call e' H op:=by
 have one:∀ x:AO,(∀ n,x.look n=true->op.look n=true)->x.ev e=x.ev e':=fun x hx=>AO.wN fun n hn=>h n (hx n hn)
 have many:∀ xs:List AO,(∀ n,xs.any (·.look n)=true->op.look n=true)->xs.map (·.ev e)=xs.map (·.ev e'):=fun xs hx=>xV fun n hn=>h n (hx n hn)
 cases op with
 |move x=>simp only[xa];rw[one x (fun n h=>by simpa[Od.look] using h)]
 |pick c a b=>simp only[xa];rw[one c (fun n h=>by simp[Od.look,h]),one a (fun n h=>by simp[Od.look,h]),one b (fun n h=>by simp[Od.look,h])]
 |alloc z=>rfl
 |box n x=>simp only[xa];rw[one x (fun n h=>by simpa[Od.look] using h)]
 |QP n x=>simp only[xa];rw[one x (fun n h=>by simpa[Od.look] using h)]
 |build z ps=>
  simp only[xa];rw[iac (f:=fun p:Nat×Nat×AO=>(p.1,p.2.1,p.2.2.ev e)) (g:=fun p=>(p.1,p.2.1,p.2.2.ev e')) fun p hp=>by rw[one p.2.2 (fun n h=>by simp only[Od.look];exact Rad.2 ⟨p,hp,h⟩)]]
 |xb hh sz ag len z ps=>
  simp only[xa];rw[iac (f:=fun p:Nat×AO=>(p.1 * sz,sz,jj e p.2)) (g:=fun p=>(p.1 * sz,sz,jj e' p.2)) fun p hp=>by unfold jj;rw[one p.2 (fun n h=>by simp only[Od.look];exact Rad.2 ⟨p,hp,h⟩)]]
 |load ag n x=>simp only[xa];rw[one x (fun n h=>by simpa[Od.look] using h)]
 |store n a v=>simp only[xa];rw[one a (fun n h=>by simp[Od.look,h]),one v (fun n h=>by simp[Od.look,h])]
 |MH x=>simp only[xa];rw[one x (fun n h=>by simpa[Od.look] using h)]
 |bin op x y=>simp only[xa];rw[one x (fun n h=>by simp[Od.look,h]),one y (fun n h=>by simp[Od.look,h])]
 |eq k ne x y=>simp only[xa];rw[one x (fun n h=>by simp[Od.look,h]),one y (fun n h=>by simp[Od.look,h])]
 |un op x=>simp only[xa];rw[one x (fun n h=>by simpa[Od.look] using h)]
 |conv k x=>simp only[xa];rw[one x (fun n h=>by simpa[Od.look] using h)]
 |Y4 x=>simp only[xa];rw[one x (fun n h=>by simpa[Od.look] using h)]
 |HY hh x=>simp only[xa];rw[one x (fun n h=>by simpa[Od.look] using h)]
 |y5 x=>simp only[xa];rw[one x (fun n h=>by simpa[Od.look] using h)]
 |MK ix xs=>simp only[xa];rw[many xs (fun n h=>by simpa[Od.look] using h)]
 |bh hh sz ag z b l c=>simp only[xa];rw[one l (fun n h=>by simp[Od.look,h]),one c (fun n h=>by simp[Od.look,h])]
 |slice sz x lo hi=>
  have hx:=one x (fun n h=>by simp[Od.look,h]);cases lo with
  |none=>
   cases hi with
   |none=>simp only[xa];rw[hx]
   |some hi=>simp only[xa];rw[hx,one hi (fun n h=>by simp[Od.look,h])]
  |some lo=>
   cases hi with
   |none=>simp only[xa];rw[hx,one lo (fun n h=>by simp[Od.look,h])]
   |some hi=>simp only[xa];rw[hx,one lo (fun n h=>by simp[Od.look,h]),one hi (fun n h=>by simp[Od.look,h])]
 |yF off x=>simp only[xa];rw[one x (fun n h=>by simpa[Od.look] using h)]
 |x5 off ag n x=>simp only[xa];rw[one x (fun n h=>by simpa[Od.look] using h)]
 |Pd sz x i=>simp only[xa];rw[one x (fun n h=>by simp[Od.look,h]),one i (fun n h=>by simp[Od.look,h])]
 |ay n sz x i=>simp only[xa];rw[one x (fun n h=>by simp[Od.look,h]),one i (fun n h=>by simp[Od.look,h])]
 |FY n sz ag x i=>simp only[xa];rw[one x (fun n h=>by simp[Od.look,h]),one i (fun n h=>by simp[Od.look,h])]
 |W4 x i=>simp only[xa];rw[one x (fun n h=>by simp[Od.look,h]),one i (fun n h=>by simp[Od.look,h])]
 |ext i x=>simp only[xa];rw[one x (fun n h=>by simpa[Od.look] using h)]
 |len k x=>simp only[xa];rw[one x (fun n h=>by simpa[Od.look] using h)]
 |mx xs=>simp only[xa];rw[many xs (fun n h=>by simpa[Od.look] using h)]
 |mn xs=>simp only[xa];rw[many xs (fun n h=>by simpa[Od.look] using h)]
 |append o hh sz ag b s x=>simp only[xa];rw[one s (fun n h=>by simp[Od.look,h]),one x (fun n h=>by simp[Od.look,h])]
 |zZ kd ne x y=>simp only[xa];rw[one x (fun n h=>by simp[Od.look,h]),one y (fun n h=>by simp[Od.look,h])]
 |XF=>rfl
 |lookup kd z ok m k=>simp only[xa];rw[one m (fun n h=>by simp[Od.look,h]),one k (fun n h=>by simp[Od.look,h])]
 |bw kd m k v=>simp only[xa];rw[one m (fun n h=>by simp[Od.look,h]),one k (fun n h=>by simp[Od.look,h]),one v (fun n h=>by simp[Od.look,h])]
 |Xp F xs=>simp only[xa];rw[many xs (fun n h=>by simpa[Od.look] using h)]
 |Ag ix xs=>simp only[xa];rw[many xs (fun n h=>by simpa[Od.look] using h)]
 |AG ix xs=>simp only[xa];rw[many xs (fun n h=>by simpa[Od.look] using h)]
 |aE f xs=>simp only[xa];rw[one f (fun n h=>by simp[Od.look,h]),many xs (fun n h=>by simp only[Od.look,h,Bool.or_true])]
def ba.gJ:ba->Bool
 | .tok _ _ _=>true
 |_=>false
mutual
theorem PV.Uv:∀ {a b:PV},a.same b=true->a=b:=by
 intro a b h;cases a <;> cases b <;> simp only[PV.same,baa,decide_eq_true_eq,beq_iff_eq,saa] at h
 ·rw[h.1,h.2]
 ·rw[h]
 ·rw[h]
 all_goals first | rfl | skip
 ·rw[zq h.1,h.2]
 ·rw[h.1,zq h.2]
 ·rw[zq h]
 ·rw[zq h]
 ·rw[h.1,PV.Uv h.2]
theorem zq:∀ {a b:List PV},zx a b=true->a=b:=by
 intro a b h;cases a <;> cases b <;> simp only[zx,baa,saa] at h
 ·rfl
 ·rw[PV.Uv h.1,zq h.2]
end
mutual
theorem PV.fp:∀ (a:PV),a.same a=true:=by
 intro a;cases a <;> simp only[PV.same,decide_true,fae,beq_self_eq_true,aae,oab]
 ·exact Um _
 ·exact Um _
 ·exact Um _
 ·exact Um _
 ·exact PV.fp _
theorem Um:∀ (a:List PV),zx a a=true:=by
 intro a;cases a with
 |nil=>rfl
 |cons x r=>simp only[zx,PV.fp x,Um r,fae]
end
mutual
theorem AV.Uv:∀ {a b:AV},a.same b=true->a=b:=by
 intro a b h;cases a <;> cases b <;> simp only[AV.same,baa,decide_eq_true_eq,oaa,saa] at h
 ·rw[PV.Uv h]
 ·rw[h.1,h.2]
 ·rw[h.1,h.2.1,h.2.2]
 ·rw[h.1.1,h.1.2.1,h.1.2.2,zq h.2]
 ·rw[h.1,h.2]
 ·rw[h.1,nv h.2]
 ·rw[h]
 ·rw[nv h]
 ·rw[nv h]
 ·rfl
theorem nv:∀ {a b:List AV},dA a b=true->a=b:=by
 intro a b h;cases a <;> cases b <;> simp only[dA,baa,saa] at h
 ·rfl
 ·rw[AV.Uv h.1,nv h.2]
end
mutual
theorem AV.fp:∀ (a:AV),a.same a=true:=by
 intro a;cases a <;> simp only[AV.same,decide_true,oab,PV.fp,Um]
 ·exact Ys _
 ·exact Ys _
 ·exact Ys _
theorem Ys:∀ (a:List AV),dA a a=true:=by
 intro a;cases a with
 |nil=>rfl
 |cons x r=>simp only[dA,AV.fp x,Ys r,fae]
end
theorem DM{α β:Type}:∀ {a b:List (α×β)},a.map (·.1)=b.map (·.1)->a.map (·.2)=b.map (·.2)->a=b
 | [],[],_,_=>rfl
 | [],_::_,h,_=>by cases h
 |_::_,[],h,_=>by cases h
 | (x,y)::a,(x',y')::b,h,k=>by simp only[lab,tae] at h k;rw[h.1,k.1,DM h.2 k.2]
theorem ba.fp(o:ba):o.same o=true:=by
 cases o <;> simp only[ba.same,decide_true,oab,Ys,Um,fae]
theorem NI:∀ (H X:List ba),PH H (H++X)=true
 | [],_=>rfl
 |o::r,X=>by rw[bab,PH,ba.fp,NI r X];rfl
theorem ba.Uv{x y:ba}(h:x.same y=true)(ht:x.gJ=false):x=y:=by
 cases x with
 |tok=>cases ht
 |box a=>cases y <;> simp only[ba.same,saa] at h;rw[nv h]
 |seq s g a f n=>cases y <;> simp only[ba.same,baa,decide_eq_true_eq,oaa,saa] at h;obtain⟨⟨rfl,rfl,rfl,rfl⟩,h⟩:=h;rw[nv h]
 |map a=>cases y <;> simp only[ba.same,baa,saa] at h;rw[DM (zq h.1) (zq h.2)]
 |dead=>cases y <;> simp only[ba.same,saa] at h;rfl
theorem TI:∀ {H H':List ba},PH H H'=true->∀ (id:Nat)(o:ba),H[id]? =some o->o.gJ=false->H'[id]? =some o
 | [],_,_,id,o,h,_=>by simp at h
 |x::r,[],h,_,_,_,_=>by cases h
 |x::r,y::r',h,0,o,ho,ht=>by simp only[PH,baa] at h;simp only[dab,caa] at ho ⊢;subst ho;exact (ba.Uv h.1 ht).symm
 |x::r,y::r',h,id+1,o,ho,ht=>by simp only[PH,baa] at h;simp only[eab] at ho ⊢;exact TI h.2 id o ho ht
def Ru(H H':List ba):Prop:=∀ (id:Nat)(o:ba),H[id]? =some o->o.gJ=false->H'[id]? =some o
theorem Ru.refl(H:List ba):Ru H H:=fun _ _ h _=>h
theorem Ru.push(H:List ba)(o:ba):Ru H (H++[o]):=fun id o' h _=>by
 have hl:id < H.length:=(iaa.1 h).1
 rw[eaa hl];exact h
theorem Ru.uN(H:List ba)(a b:Nat)(c:Bool):Ru (H++[.tok a b c]) H:=fun id o h ht=>by
 by_cases hl:id < H.length
 ·rw[eaa hl] at h;exact h
 ·rw[Kaa (by omega)] at h
  by_cases h0:id - H.length=0
  ·rw[h0] at h;simp at h;subst h;simp[ba.gJ] at ht
  ·rw[Raa (by simp;omega)] at h;cases h
theorem Ru.M1{H:List ba}{id:Nat}{a b:Nat}{c:Bool}(h:H[id]? =some (.tok a b c))(a' b':Nat)(c':Bool):
 Ru H (H.set id (.tok a' b' c'))/\Ru (H.set id (.tok a' b' c')) H:=by
 constructor
 ·intro i o hi ht
  by_cases e:id=i
  ·subst e;rw[h] at hi;injection hi with hi;subst hi;simp[ba.gJ] at ht
  ·rw[Gaa e];exact hi
 ·intro i o hi ht
  by_cases e:id=i
  ·subst e
   have hl:id < H.length:=(iaa.1 h).1
   rw[Maa hl] at hi;injection hi with hi;subst hi;simp[ba.gJ] at ht
  ·rw[Gaa e] at hi;exact hi
def Zf.isLit:Zf->Bool
 | .lit=>true
 |_=>false
def Zf.Ik:Zf->Bool
 | .own=>true
 |_=>false
def Od.cls:Od->Nat
 | .move _ | .pick _ _ _ | .build _ _ | .bin _ _ _ | .un _ _ | .conv _ _ | .MK _ _ | .x5 _ _ _ _ | .FY _ _ _ _ _ | .W4 _ _ | .ext _ _ | .mx _ | .mn _ | .QP _ _ | .zZ _ _ _ _=>0
 | .load _ _ _ | .MH _ | .yF _ _ | .Pd _ _ _ | .ay _ _ _ _ | .len _ _ | .eq _ _ _ _ | .slice _ _ _ _ | .Y4 _ | .Xp _ _ | .lookup _ _ _ _ _=>1
 | .xb h _ _ _ _ _ | .HY h _ | .bh h _ _ _ _ _ _=>(if h.isLit then 0 else if h.Ik then 3 else 2)
 | .append own h _ _ _ _ _=>(if own then 4 else if h.Ik then 4 else 2)
 | .alloc _ | .box _ _ | .AG _ _=>3
 |_=>4
theorem VV{H H':List ba}(h:Ru H H'):∀ (d:Nat)(v:AV)(p:PV),Sb H d v=some p->Sb H' d v=some p:=by
 intro d
 induction d with
 |zero=>intro v p hp;cases v <;> simp_all [Sb]
 |succ d ih=>
  have many:∀ (cs:List AV)(ps:List PV),Ra (Sb H d) cs=some ps->Ra (Sb H' d) cs=some ps:=by
   intro cs
   induction cs with
   |nil=>intro ps h;simpa[Ra] using h
   |cons c cs ihc=>intro ps h;simp only[Ra,laa] at h ⊢;obtain⟨b,h1,bs,h2,h3⟩:=h;exact⟨b,ih _ _ h1,bs,ihc _ h2,h3⟩
  intro v p hp;cases v with
  |pv q=>simpa[Sb] using hp
  |uq=>simpa[Sb] using hp
  |own id len=>
   simp only[Sb] at hp ⊢
   split at hp
   ·rename_i sz ag cells fl nl H7
    rw[h _ _ H7 rfl]
    split at hp
    ·rename_i hc
     simp only[if_pos hc];cases nl with
     |true=>simpa using hp
     |false=>simp only[saa,if_false,daa] at hp ⊢;obtain⟨ps,h1,h2⟩:=hp;exact⟨ps,many _ _ h1,h2⟩
    ·cases hp
   ·cases hp
  |ptr id off=>
   simp only[Sb] at hp ⊢
   split at hp
   ·rename_i cells H7
    rw[h _ _ H7 rfl];simp only[daa] at hp ⊢;obtain⟨ps,h1,h2⟩:=hp;exact⟨ps,many _ _ h1,h2⟩
   ·cases hp
  |agg cs=>simp only[Sb,daa] at hp ⊢;obtain⟨ps,h1,h2⟩:=hp;exact⟨ps,many _ _ h1,h2⟩
  |mc cs=>simp only[Sb,daa] at hp ⊢;obtain⟨ps,h1,h2⟩:=hp;exact⟨ps,many _ _ h1,h2⟩
  |Hc=>simp[Sb] at hp
  |Ol=>simp[Sb] at hp
  |mp=>simp[Sb] at hp
  |undef=>simp[Sb] at hp
theorem LS{H H':List ba}(h:Ru H H'){d:Nat}:∀ {cs:List AV}{ps:List PV},Ra (Sb H d) cs=some ps->Ra (Sb H' d) cs=some ps:=by
 intro cs
 induction cs with
 |nil=>intro ps h;simpa[Ra] using h
 |cons c cs ihc=>intro ps hp;simp only[Ra,laa] at hp ⊢;obtain⟨b,h1,bs,h2,h3⟩:=hp;exact⟨b,VV h _ _ _ h1,bs,ihc h2,h3⟩
theorem rD{H H':List ba}(h:Ru H H'){d:Nat}{x v:AV}(hp:place H d x=some v):place H' d x=some v:=by
 unfold place at hp ⊢
 split at hp
 ·exact hp
 ·split at hp
  ·rename_i H7;rw[h _ _ H7 rfl];exact hp
  ·cases hp
 ·split at hp
  ·rename_i H7;rw[h _ _ H7 rfl];exact hp
  ·cases hp
 ·cases hp
theorem dV{H H':List ba}(h:Ru H H'){ag:Bool}{n:Nat}{x v:AV}(hp:pa H ag n x=some v):pa H' ag n x=some v:=by
 unfold pa at hp ⊢
 split at hp
 ·exact hp
 ·split at hp
  ·rename_i H7;rw[h _ _ H7 rfl];exact hp
  ·cases hp
 ·split at hp
  ·rename_i H7;rw[h _ _ H7 rfl];exact hp
  ·cases hp
 ·cases hp
theorem GU{H H':List ba}(h:Ru H H'){sz:Nat}{x v:AV}{i:Int}(hp:ta H sz x i=some v):ta H' sz x i=some v:=by
 unfold ta at hp ⊢
 split at hp
 ·exact hp
 ·exact hp
 ·split at hp
  ·rename_i H7;rw[h _ _ H7 rfl];exact hp
  ·cases hp
 ·cases hp
theorem wX{H H':List ba}(h:Ru H H'){k:Nat}{x:AV}{n:Nat}(hp:Tb H k x=some n):Tb H' k x=some n:=by
 unfold Tb at hp ⊢
 split at hp
 ·exact hp
 ·exact hp
 ·exact hp
 ·exact hp
 ·split at hp
  ·rename_i H7;rw[h _ _ H7 rfl];exact hp
  ·cases hp
 ·exact hp
 ·split at hp
  ·rename_i H7;rw[h _ _ H7 rfl];exact hp
  ·cases hp
 ·cases hp
theorem U0{H H':List ba}(h:Ru H H'){k:Nat}{x y:AV}{b:Bool}(hp:Kq H k x y=some b):Kq H' k x y=some b:=by
 unfold Kq at hp ⊢
 split at hp <;> first
  |exact hp
  | (split at hp
     ·rename_i H7;simp only[h _ _ H7 rfl];exact hp
     ·cases hp)
  |cases hp
theorem JX{H H':List ba}(h:Ru H H'){x:AV}{b:ByteArray}(hp:yI H x=some b):yI H' x=some b:=by
 unfold yI at hp ⊢
 split at hp <;> first
  |exact hp
  | (split at hp
     ·rename_i H7;rw[h _ _ H7 rfl];exact hp
     ·cases hp)
  |cases hp
theorem Fw{H H':List ba}(h:Ru H H'){sz:Nat}{x v:AV}{lo hi:Option Int}(hp:ug H sz x lo hi=some v):ug H' sz x lo hi=some v:=by
 unfold ug at hp ⊢
 split at hp <;> first
  |exact hp
  | (split at hp
     ·rename_i H7;rw[h _ _ H7 rfl];exact hp
     ·cases hp)
  |cases hp
theorem XC{H:List ba}{sz:Nat}{ag:Bool}{n:Nat}{cs:List AV}{v:AV}{H':List ba}(h:fresh H .lit sz ag n cs=some (v,H')):
 H'=H/\∀ H2,fresh H2 .lit sz ag n cs=some (v,H2):=by
 simp only[fresh,daa,oaa] at h ⊢;obtain⟨ps,h1,rfl,rfl⟩:=h;exact⟨rfl,fun H2=>⟨ps,h1,rfl,trivial⟩⟩
theorem AH{H:List ba}{sz:Nat}{ag:Bool}{n:Nat}{cs:List AV}{v:AV}{H':List ba}(h:fresh H .uq sz ag n cs=some (v,H')):
 Ru H H'/\Ru H' H:=by
 simp only[fresh,daa,oaa] at h;obtain⟨ps,h1,rfl,rfl⟩:=h;exact⟨Ru.push _ _,Ru.uN _ _ _ _⟩
theorem YC{H:List ba}{sz:Nat}{ag:Bool}{n:Nat}{cs:List AV}{v:AV}{H':List ba}(h:fresh H .own sz ag n cs=some (v,H')):
 Ru H H':=by
 simp only[fresh,caa,oaa] at h;obtain⟨rfl,rfl⟩:=h;exact Ru.push _ _
theorem I5{call:Sa}{e:Tr}{H H':List ba}{op:Od}{v:AV}(hc:op.cls=0)(h:xa call e H op=some (v,H')):
 H'=H/\∀ H2,xa call e H2 op=some (v,H2):=by
 have ob:∀ {α:Type}{x:Option α}{f:α->AV},(x.map fun v=>(f v,H))=some (v,H')->H'=H/\∀ H2:List ba,(x.map fun v=>(f v,H2))=some (v,H2):=by
  intro α x f h;cases x with
  |none=>simp at h
  |some x=>simp at h;exact⟨h.2.symm,fun H2=>by simp[h.1]⟩
 cases op with
 |move x=>simp only[xa,caa,oaa] at h ⊢;exact⟨h.2.symm,fun H2=>⟨h.1,trivial⟩⟩
 |pick c a b=>simp only[xa,laa,caa,oaa] at h ⊢;obtain⟨t,h1,h2,h3⟩:=h;exact⟨h3.symm,fun H2=>⟨t,h1,h2,trivial⟩⟩
 |QP n x=>
  simp only[xa] at h ⊢
  split at h
  ·rename_i h0;simp only[if_pos h0];exact ob h
  ·cases h
 |build z ps=>exact ob h
 |bin o x y=>exact ob h
 |zZ kd ne x y=>simp only[xa] at h ⊢;split at h <;> first | exact ob h | cases h
 |un o x=>exact ob h
 |conv k x=>exact ob h
 |mx xs=>exact ob h
 |mn xs=>exact ob h
 |MK ix xs=>simp only[xa,caa,oaa] at h ⊢;exact⟨h.2.symm,fun H2=>⟨h.1,trivial⟩⟩
 |x5 off ag n x=>simp only[xa] at h ⊢;split at h <;> first | exact ob h | cases h
 |ext i x=>simp only[xa] at h ⊢;split at h <;> first | exact ob h | cases h
 |FY n sz ag x i=>
  simp only[xa] at h ⊢;cases hi:asInt (i.ev e) with
  |none=>simp[hi] at h
  |some k=>
   simp only[hi,yaa] at h ⊢
   split at h
   ·rename_i hx;simp only[if_pos hx];split at h <;> first | exact ob h | cases h
   ·cases h
 |W4 x i=>
  simp only[xa] at h ⊢;cases hi:asInt (i.ev e) with
  |none=>simp[hi] at h
  |some k=>
   simp only[hi,yaa] at h ⊢
   split at h
   ·split at h
    ·rename_i h0;simp only[if_pos h0];exact ob h
    ·cases h
   ·cases h
 |xb hh sz ag len z ps=>
  cases hh with
  |lit=>
   simp only[xa] at h ⊢;cases hf:Qs (Ql z len) (ps.map fun p=>(p.1 * sz,sz,jj e p.2)) with
   |none=>simp[hf] at h
   |some cs=>
    simp only[hf,yaa] at h ⊢
    split at h
    ·rename_i h0;simp only[if_pos h0];exact XC h
    ·cases h
  |uq=>simp[Od.cls,Zf.isLit,Zf.Ik] at hc
  |own=>simp[Od.cls,Zf.isLit,Zf.Ik] at hc
 |HY hh x=>
  cases hh with
  |lit=>
   simp only[xa] at h ⊢
   split at h
   ·exact XC h
   ·cases h
  |uq=>simp[Od.cls,Zf.isLit,Zf.Ik] at hc
  |own=>simp[Od.cls,Zf.isLit,Zf.Ik] at hc
 |bh hh sz ag z b l c=>
  cases hh with
  |lit=>
   simp only[xa] at h ⊢;cases hl:asInt (l.ev e) with
   |none=>simp[hl] at h
   |some l=>
    cases hcc:asInt (c.ev e) with
    |none=>simp[hl,hcc] at h
    |some c=>
     simp only[hl,hcc,yaa] at h ⊢
     split at h
     ·rename_i h0;simp only[if_pos h0];exact XC h
     ·cases h
  |uq=>simp[Od.cls,Zf.isLit,Zf.Ik] at hc
  |own=>simp[Od.cls,Zf.isLit,Zf.Ik] at hc
 |append o hh _ _ _ _ _=>exfalso;simp only[Od.cls] at hc;split at hc <;> first | cases hc | (split at hc <;> cases hc)
 |_=>simp[Od.cls] at hc
theorem T0{call:Sa}{e:Tr}{H H':List ba}{op:Od}{v:AV}(hc:op.cls=1)(h:xa call e H op=some (v,H')):
 H'=H/\∀ H2,Ru H H2->xa call e H2 op=some (v,H2):=by
 have ob:∀ {α:Type}{g:List ba->Option α}{f:α->AV},((g H).map fun v=>(f v,H))=some (v,H')->(∀ H2 a,Ru H H2->g H=some a->g H2=some a)->
  H'=H/\∀ H2:List ba,Ru H H2->((g H2).map fun v=>(f v,H2))=some (v,H2):=by
  intro α g f h hg;cases hx:g H with
  |none=>simp[hx] at h
  |some x=>simp[hx] at h;exact⟨h.2.symm,fun H2 ha=>by simp[hg H2 x ha hx,h.1]⟩
 cases op with
 |load ag n x=>exact ob (g:=fun H=>pa H ag n (x.ev e)) h fun H2 a ha hp=>dV ha hp
 |yF off x=>exact ob (g:=fun H=>place H off (x.ev e)) h fun H2 a ha hp=>rD ha hp
 |len k x=>exact ob (g:=fun H=>Tb H k (x.ev e)) h fun H2 a ha hp=>wX ha hp
 |Y4 x=>exact ob (g:=fun H=>yI H (x.ev e)) h fun H2 a ha hp=>JX ha hp
 |eq k ne x y=>exact ob (g:=fun H=>Kq H k (x.ev e) (y.ev e)) h fun H2 a ha hp=>U0 ha hp
 |MH x=>
  simp only[xa] at h ⊢
  split at h
  ·simp only[caa,oaa] at h ⊢;exact⟨h.2.symm,fun H2 _=>⟨h.1,trivial⟩⟩
  ·exact ob (g:=fun H=>place H 0 (x.ev e)) h fun H2 a ha hp=>rD ha hp
 |Pd sz x i=>
  simp only[xa] at h ⊢;cases hi:asInt (i.ev e) with
  |none=>simp[hi] at h
  |some k=>simp only[hi,yaa] at h ⊢;exact ob (g:=fun H=>ta H sz (x.ev e) k.2) h fun H2 a ha hp=>GU ha hp
 |ay n sz x i=>
  simp only[xa] at h ⊢;cases hi:asInt (i.ev e) with
  |none=>simp[hi] at h
  |some k=>
   simp only[hi,yaa] at h ⊢
   split at h
   ·rename_i h0
    simp only[if_pos h0];exact ob (g:=fun H=>place H (k.2.toNat * sz) (x.ev e)) h fun H2 a ha hp=>rD ha hp
   ·cases h
 |slice sz x lo hi=>
  cases lo with
  |none=>
   cases hi with
   |none=>exact ob (g:=fun H=>ug H sz (x.ev e) none none) h fun H2 a ha hp=>Fw ha hp
   |some hi=>
    simp only[xa] at h ⊢;cases hh:asInt (hi.ev e) with
    |none=>simp[hh] at h
    |some k=>simp only[hh,yaa] at h ⊢;exact ob (g:=fun H=>ug H sz (x.ev e) none (some k.2)) h fun H2 a ha hp=>Fw ha hp
  |some lo=>
   cases hi with
   |none=>
    simp only[xa] at h ⊢;cases hh:asInt (lo.ev e) with
    |none=>simp[hh] at h
    |some k=>simp only[hh,yaa] at h ⊢;exact ob (g:=fun H=>ug H sz (x.ev e) (some k.2) none) h fun H2 a ha hp=>Fw ha hp
   |some hi=>
    simp only[xa] at h ⊢;cases hl:asInt (lo.ev e) with
    |none=>simp[hl] at h
    |some l=>
     cases hh:asInt (hi.ev e) with
     |none=>simp[hl,hh] at h
     |some k=>simp only[hl,hh,yaa] at h ⊢;exact ob (g:=fun H=>ug H sz (x.ev e) (some l.2) (some k.2)) h fun H2 a ha hp=>Fw ha hp
 |lookup kd z ok m k=>
  simp only[xa] at h ⊢
  split at h
  ·split at h
   ·rename_i h0
    simp only[caa,oaa] at h;exact⟨h.2.symm,fun H2 _=>by rw[if_pos h0,h.1]⟩
   ·cases h
  ·rename_i id k' _ _
   split at h
   ·rename_i es H7
    split at h
    ·rename_i h0
     simp only[daa] at h;obtain⟨r,h1,h2⟩:=h;cases r with
     |none=>simp only[oaa] at h2;exact⟨h2.2.symm,fun H2 ha=>by rw[ha _ _ H7 rfl];simp only[if_pos h0,h1,Haa,h2.1]⟩
     |some r=>simp only[oaa] at h2;exact⟨h2.2.symm,fun H2 ha=>by rw[ha _ _ H7 rfl];simp only[if_pos h0,h1,Haa,h2.1]⟩
    ·cases h
   ·cases h
  ·cases h
 |Xp F xs=>
  simp only[xa,laa] at h ⊢;obtain⟨ps,h1,r,h2,h3⟩:=h
  split at h3
  ·rename_i h5
   simp only[caa,oaa] at h3;obtain⟨h3,h4⟩:=h3;exact⟨h4.symm,fun H2 ha=>⟨ps,LS ha h1,r,h2,by rw[if_pos h5,h3]⟩⟩
  ·cases h3
 |xb hh _ _ _ _ _=>cases hh <;> simp[Od.cls,Zf.isLit,Zf.Ik] at hc
 |HY hh _=>cases hh <;> simp[Od.cls,Zf.isLit,Zf.Ik] at hc
 |bh hh _ _ _ _ _ _=>cases hh <;> simp[Od.cls,Zf.isLit,Zf.Ik] at hc
 |append o hh _ _ _ _ _=>cases o <;> cases hh <;> simp[Od.cls,Zf.Ik] at hc
 |_=>simp[Od.cls] at hc
theorem O5{call:Sa}{e:Tr}{H H':List ba}{op:Od}{v:AV}(hc:op.cls=2)(h:xa call e H op=some (v,H')):Ru H H'/\Ru H' H:=by
 cases op with
 |xb hh sz ag len z ps=>
  cases hh with
  |uq=>
   simp only[xa] at h;cases hf:Qs (Ql z len) (ps.map fun p=>(p.1 * sz,sz,jj e p.2)) with
   |none=>simp[hf] at h
   |some cs=>
    simp only[hf,yaa] at h
    split at h
    ·exact AH h
    ·cases h
  |lit=>simp[Od.cls,Zf.isLit,Zf.Ik] at hc
  |own=>simp[Od.cls,Zf.isLit,Zf.Ik] at hc
 |HY hh x=>
  cases hh with
  |uq=>
   simp only[xa] at h
   split at h
   ·exact AH h
   ·cases h
  |lit=>simp[Od.cls,Zf.isLit,Zf.Ik] at hc
  |own=>simp[Od.cls,Zf.isLit,Zf.Ik] at hc
 |bh hh sz ag z b l c=>
  cases hh with
  |uq=>
   simp only[xa] at h;cases hl:asInt (l.ev e) with
   |none=>simp[hl] at h
   |some l=>
    cases hcc:asInt (c.ev e) with
    |none=>simp[hl,hcc] at h
    |some c=>
     simp only[hl,hcc,yaa] at h
     split at h
     ·exact AH h
     ·cases h
  |lit=>simp[Od.cls,Zf.isLit,Zf.Ik] at hc
  |own=>simp[Od.cls,Zf.isLit,Zf.Ik] at hc
 |append o hh sz ag b s x=>
  cases o with
  |true=>simp[Od.cls] at hc
  |false=>
   simp only[xa,Cb,saa,if_false] at h
   split at h
   ·split at h
    ·rename_i H7
     simp only[laa] at h;obtain⟨ys,h1,h2⟩:=h
     split at h2
     ·simp only[caa,oaa] at h2
      obtain⟨_,rfl⟩:=h2;exact Ru.M1 H7 _ _ _
     ·cases h2
    ·cases h
   ·simp only[laa] at h
    obtain⟨ys,h1,h2⟩:=h
    split at h2
    ·unfold br at h2
     split at h2
     ·simp only[caa,oaa] at h2
      obtain⟨_,rfl⟩:=h2;exact⟨Ru.refl _,Ru.refl _⟩
     ·split at h2
      ·simp only[caa,oaa] at h2
       obtain⟨_,rfl⟩:=h2;exact⟨Ru.refl _,Ru.refl _⟩
      ·simp only[caa,oaa] at h2
       obtain⟨_,rfl⟩:=h2;exact⟨Ru.push _ _,Ru.uN _ _ _ _⟩
      ·cases h2
    ·cases h2
   ·cases h
 |_=>simp[Od.cls] at hc
theorem M6{call:Sa}{e:Tr}{H H':List ba}{op:Od}{v:AV}(hc:op.cls=3)(h:xa call e H op=some (v,H')):Ru H H':=by
 cases op with
 |alloc z=>simp only[xa,caa,oaa] at h;obtain⟨_,rfl⟩:=h;exact Ru.push _ _
 |box n x=>
  simp only[xa] at h
  split at h
  ·simp only[caa,oaa] at h;obtain⟨_,rfl⟩:=h;exact Ru.push _ _
  ·cases h
 |xb hh sz ag len z ps=>
  cases hh with
  |own=>
   simp only[xa] at h;cases hf:Qs (Ql z len) (ps.map fun p=>(p.1 * sz,sz,jj e p.2)) with
   |none=>simp[hf] at h
   |some cs=>
    simp only[hf,yaa] at h
    split at h
    ·exact YC h
    ·cases h
  |lit=>simp[Od.cls,Zf.isLit,Zf.Ik] at hc
  |uq=>simp[Od.cls,Zf.isLit,Zf.Ik] at hc
 |HY hh x=>
  cases hh with
  |own=>
   simp only[xa] at h
   split at h
   ·exact YC h
   ·cases h
  |lit=>simp[Od.cls,Zf.isLit,Zf.Ik] at hc
  |uq=>simp[Od.cls,Zf.isLit,Zf.Ik] at hc
 |bh hh sz ag z b l c=>
  cases hh with
  |own=>
   simp only[xa] at h;cases hl:asInt (l.ev e) with
   |none=>simp[hl] at h
   |some l=>
    cases hcc:asInt (c.ev e) with
    |none=>simp[hl,hcc] at h
    |some c=>
     simp only[hl,hcc,yaa] at h
     split at h
     ·exact YC h
     ·cases h
  |lit=>simp[Od.cls,Zf.isLit,Zf.Ik] at hc
  |uq=>simp[Od.cls,Zf.isLit,Zf.Ik] at hc
 |append o hh _ _ _ _ _=>cases o <;> cases hh <;> simp[Od.cls,Zf.Ik] at hc
 |AG ix xs=>
  simp only[xa,laa] at h;obtain⟨r,_,h⟩:=h
  split at h
  ·next hs=>
   injection h with h
   subst h;exact TI hs
  ·cases h
 |_=>simp[Od.cls] at hc
def XV(x y:Nat):Bool:=x==0||y==0||(x==1&&decide (y<=3))||(x==2&&y==1)
def wb.cls(o:wb):Nat:=if o.pr then 0 else o.op.cls
theorem ez{call:Sa}{e e':Tr}{H:List ba}{o:wb}(h:K5 (fun n=>o.op.look n) e e'):Mk call e H o=Mk call e' H o:=by
 unfold Mk;rw[xB h,xB (H:=H) h]
theorem xO{H:List ba}{r:Option (AV×List ba)}{v:AV}{H':List ba}(h:G2 H r=some (v,H')):r=some (v,[])/\H'=H:=by
 unfold G2 at h
 split at h
 ·simp only[caa,oaa] at h
  obtain⟨rfl,rfl⟩:=h;exact⟨rfl,rfl⟩
 ·cases h
theorem KW{call:Sa}{e:Tr}{H H':List ba}{o:wb}{v:AV}(hc:o.cls=0)(h:Mk call e H o=some (v,H')):H'=H/\∀ H2,Mk call e H2 o=some (v,H2):=by
 unfold Mk wb.cls at *
 cases hp:o.pr with
 |true=>simp only[hp,cond_true] at h ⊢;obtain⟨h1,rfl⟩:=xO h;exact⟨rfl,fun H2=>by rw[h1];rfl⟩
 |false=>simp only[hp,cond_false,saa,if_false] at h hc ⊢;exact I5 hc h
theorem pZ{call:Sa}{e:Tr}{H:List ba}{o:wb}(hc:o.cls≠0):Mk call e H o=xa call e H o.op/\o.cls=o.op.cls:=by
 unfold Mk wb.cls at *
 cases hp:o.pr with
 |true=>simp[hp] at hc
 |false=>simp
theorem FX{call:Sa}{e:Tr}{H H1 H2:List ba}{x y:wb}{v1 v2:AV}(hc:XV x.cls y.cls=true)
 (h1:Mk call e H x=some (v1,H1)) (h2:Mk call e H1 y=some (v2,H2)):
 ∃ H3,Mk call e H y=some (v2,H3)/\Mk call e H3 x=some (v1,H2):=by
 simp only[XV,Nac,beq_iff_eq,baa,decide_eq_true_eq] at hc;rcases hc with ((hx | hy) | ⟨hx,hy⟩) | ⟨hx,hy⟩
 ·obtain⟨rfl,h⟩:=KW hx h1
  exact⟨H2,h2,h H2⟩
 ·obtain⟨rfl,h⟩:=KW hy h2
  exact⟨H,h H,h1⟩
 ·have kx:=fun H=>pZ (call:=call) (e:=e) (H:=H) (o:=x) (by omega)
  rw[(kx H).1] at h1;rw[(kx H).2] at hx;obtain⟨rfl,h⟩:=T0 hx h1;refine⟨H2,h2,?_⟩;rw[(kx H2).1];refine h H2 ?_
  by_cases hy0:y.cls=0
  ·rw[(KW hy0 h2).1];exact Ru.refl _
  ·have ky:=pZ (call:=call) (e:=e) (H:=H1) hy0
   rw[ky.1] at h2;rw[ky.2] at hy hy0;have:y.op.cls=1\/y.op.cls=2\/y.op.cls=3:=by omega
   rcases this with hy | hy | hy
   ·rw[(T0 hy h2).1];exact Ru.refl _
   ·exact (O5 hy h2).1
   ·exact M6 hy h2
 ·have kx:=fun H=>pZ (call:=call) (e:=e) (H:=H) (o:=x) (by omega)
  have ky:=fun H=>pZ (call:=call) (e:=e) (H:=H) (o:=y) (by omega);rw[(kx H).1] at h1;rw[(kx H).2] at hx;rw[(ky H1).1] at h2;rw[(ky H).2] at hy;obtain⟨rfl,h⟩:=T0 hy h2;exact⟨H,by rw[(ky H).1];exact h H (O5 hx h1).2,by rw[(kx H).1];exact h1⟩
open Go.RowKit
def YI(s s':St):Prop:=s.H=s'.H/\∀ t,s.env.get t=s'.env.get t
theorem YI.refl(s:St):YI s s:=⟨rfl,fun _=>rfl⟩
theorem YI.symm{s s':St}(h:YI s s'):YI s' s:=⟨h.1.symm,fun t=>(h.2 t).symm⟩
theorem YI.trans{s s' s'':St}(h:YI s s')(k:YI s' s''):YI s s'':=⟨h.1.trans k.1,fun t=>(h.2 t).trans (k.2 t)⟩
def wb.look(n:Nat)(o:wb):Bool:=o.op.look n||(match o.guard with | some (t,_)=>n==t | none=>false)
def OC(d:Option Nat)(p:Nat->Bool):Bool:=
 match d with
 |some d=>p d
 |none=>false
def GI(x y:wb):Bool:=
 !OC x.dst (fun d=>y.look d)&& !OC y.dst (fun d=>x.look d)&& !OC x.dst (fun d=>y.dst==some d)&&XV x.cls y.cls
theorem Xt{e e':Tr}{g:Option (Nat×Bool)}(h:∀ t b,g=some (t,b)->e.get t=e'.get t):eh e g=eh e' g:=by
 cases g with
 |none=>rfl
 |some g=>obtain⟨t,b⟩:=g;simp only[eh,h t b rfl]
theorem qy(e:Tr)(d:Option Nat)(v:AV)(t:Nat):(Qq e d v).get t=if d=some t then v else e.get t:=by
 cases d with
 |none=>simp[Qq]
 |some d=>
  simp only[Qq,Tr.aa,caa]
  by_cases h:t=d
  ·subst h;simp
  ·simp[h,lac h]
theorem gG{call:Sa}{o:wb}{e e':Tr}{H:List ba}(h:∀ n,o.look n=true->e.get n=e'.get n){s1:St}(h1:me call o ⟨e,H⟩=some s1):
 ∃ v,s1.env=Qq e o.dst v/\me call o ⟨e',H⟩=some ⟨Qq e' o.dst v,s1.H⟩:=by
 have hw:eh e o.guard=eh e' o.guard:=Xt fun t b hg=>h t (by simp[wb.look,hg])
 have ho:Mk call e H o=Mk call e' H o:=ez fun n hn=>h n (by simp[wb.look,hn]);unfold me at h1 ⊢;simp only at h1 ⊢;rw[<- hw];cases hc:eh e o.guard with
 |none=>simp[hc,Lo] at h1
 |some b=>
  cases b with
  |true=>
   simp only[hc,Lo,HQ] at h1 ⊢;rw[<- ho];cases hv:Mk call e H o with
   |none=>simp[hv,ZC] at h1
   |some r=>obtain⟨v,H'⟩:=r;simp only[hv,ZC,caa] at h1 ⊢;subst h1;exact⟨v,rfl,rfl⟩
  |false=>simp only[hc,Lo,xA,caa] at h1 ⊢;subst h1;exact⟨_,rfl,rfl⟩
theorem wL{call:Sa}{o:wb}{s s' s1:St}(he:YI s s')(h:me call o s=some s1):∃ s1',me call o s'=some s1'/\YI s1 s1':=by
 obtain⟨e,H⟩:=s;obtain⟨e',H'⟩:=s';obtain⟨h1,h2⟩:=he;simp only at h1 h2;subst h1;obtain⟨v,hv,hh⟩:=gG (e':=e') (fun n _=>h2 n) h;refine⟨_,hh,rfl,fun t=> ?_⟩;simp only[hv,qy,h2]
theorem bO{call:Sa}{os:List wb}:∀ {s s' s1:St},YI s s'->Nf call os s=some s1->∃ s1',Nf call os s'=some s1'/\YI s1 s1':=by
 induction os with
 |nil=>intro s s' s1 he h;simp only[Nf,caa] at h ⊢;subst h;exact⟨s',rfl,he⟩
 |cons o os ih=>
  intro s s' s1 he h;simp only[Nf] at h ⊢;cases ho:me call o s with
  |none=>simp[ho,qt] at h
  |some s2=>simp only[ho,qt] at h;obtain⟨s2',h2,e2⟩:=wL he ho;obtain⟨s1',h3,e3⟩:=ih e2 h;exact⟨s1',by simp[h2,qt,h3],e3⟩
theorem Br{call:Sa}{o:wb}{e:Tr}{H:List ba}{s1:St}(h:me call o ⟨e,H⟩=some s1):
 (eh e o.guard=some true/\∃ v,Mk call e H o=some (v,s1.H)/\s1.env=Qq e o.dst v)\/
 (eh e o.guard=some false/\s1=⟨Qq e o.dst (.pv (.mc [])),H⟩):=by
 unfold me at h;simp only at h;cases hc:eh e o.guard with
 |none=>simp[hc,Lo] at h
 |some b=>
  cases b with
  |true=>
   simp only[hc,Lo,HQ] at h;cases hv:Mk call e H o with
   |none=>simp[hv,ZC] at h
   |some r=>obtain⟨v,H'⟩:=r;simp only[hv,ZC,caa] at h;subst h;exact .inl ⟨rfl,v,by simp,rfl⟩
  |false=>simp only[hc,Lo,xA,caa] at h;exact .inr ⟨rfl,h.symm⟩
theorem vt{call:Sa}{o:wb}{e:Tr}{H H':List ba}{v:AV}(h:eh e o.guard=some true)(hv:Mk call e H o=some (v,H')):
 me call o ⟨e,H⟩=some ⟨Qq e o.dst v,H'⟩:=by
 simp[me,h,Lo,HQ,hv,ZC]
theorem Pp{call:Sa}{o:wb}{e:Tr}{H:List ba}(h:eh e o.guard=some false):
 me call o ⟨e,H⟩=some ⟨Qq e o.dst (.pv (.mc [])),H⟩:=by
 simp[me,h,Lo,xA]
theorem pC{e:Tr}{x y:Option Nat}{v u:AV}(h:∀ d,x=some d->y≠some d)(t:Nat):(Qq (Qq e x v) y u).get t=(Qq (Qq e y u) x v).get t:=by
 simp only[qy]
 by_cases hx:x=some t
 ·have:=h t hx
  simp[hx,this]
 ·simp[hx]
theorem ZT{call:Sa}{x y:wb}{s s1 s2:St}(hc:GI x y=true)(h1:me call x s=some s1)(h2:me call y s1=some s2):
 ∃ s3 s4,me call y s=some s3/\me call x s3=some s4/\YI s2 s4:=by
 obtain⟨e,H⟩:=s;simp only[GI,baa,oac] at hc;obtain⟨⟨⟨ca,cb⟩,cc⟩,cd⟩:=hc;have ha:∀ d,x.dst=some d->y.look d=false:=fun d hd=>by simpa[OC,hd] using ca
 have hb:∀ d,y.dst=some d->x.look d=false:=fun d hd=>by simpa[OC,hd] using cb
 have hcc:∀ d,x.dst=some d->y.dst≠some d:=fun d hd he=>by simp[OC,hd,he] at cc
 have lx:∀ (e:Tr)(u:AV) n,x.look n=true->(Qq e y.dst u).get n=e.get n:=fun e u n hn=>by
  rw[qy]
  by_cases hd:y.dst=some n
  ·rw[hb n hd] at hn;cases hn
  ·simp[hd]
 have ly:∀ (e:Tr)(u:AV) n,y.look n=true->(Qq e x.dst u).get n=e.get n:=fun e u n hn=>by
  rw[qy]
  by_cases hd:x.dst=some n
  ·rw[ha n hd] at hn;cases hn
  ·simp[hd]
 have wx:∀ (e:Tr) u,eh (Qq e y.dst u) x.guard=eh e x.guard:=fun e u=>Xt fun t b hg=>lx e u t (by simp[wb.look,hg])
 have wy:∀ (e:Tr) u,eh (Qq e x.dst u) y.guard=eh e y.guard:=fun e u=>Xt fun t b hg=>ly e u t (by simp[wb.look,hg])
 have ox:∀ (e:Tr) u H,Mk call (Qq e y.dst u) H x=Mk call e H x:=fun e u H=>ez fun n hn=>lx e u n (by simp[wb.look,hn]);have oy:∀ (e:Tr) u H,Mk call (Qq e x.dst u) H y=Mk call e H y:=fun e u H=>ez fun n hn=>ly e u n (by simp[wb.look,hn]);obtain⟨e1,H1⟩:=s1;obtain⟨e2,H2⟩:=s2;rcases Br h1 with⟨g1,v1,q1,r1⟩ | ⟨g1,r1⟩
 ·simp only at q1 r1
  subst r1;rcases Br h2 with⟨g2,v2,q2,r2⟩ | ⟨g2,r2⟩
  ·simp only at q2 r2
   subst r2;rw[wy] at g2;rw[oy] at q2;obtain⟨H3,k1,k2⟩:=FX cd q1 q2;exact⟨_,_,vt g2 k1,vt (by rw[wx];exact g1) (by rw[ox];exact k2),rfl,fun t=>pC hcc t⟩
  ·injection r2 with r2 r3
   subst r2 r3;rw[wy] at g2;exact⟨_,_,Pp g2,vt (by rw[wx];exact g1) (by rw[ox];exact q1),rfl,fun t=>pC hcc t⟩
 ·injection r1 with r1 r3
  subst r1 r3;rcases Br h2 with⟨g2,v2,q2,r2⟩ | ⟨g2,r2⟩
  ·simp only at q2 r2
   subst r2;rw[wy] at g2;rw[oy] at q2;exact⟨_,_,vt g2 q2,Pp (by rw[wx];exact g1),rfl,fun t=>pC hcc t⟩
  ·injection r2 with r2 r3
   subst r2 r3;rw[wy] at g2;exact⟨_,_,Pp g2,Pp (by rw[wx];exact g1),rfl,fun t=>pC hcc t⟩
theorem C4{call:Sa}{y:wb}{rest:List wb}:∀ {pre:List wb}{s s':St},(∀ x∈pre,GI x y=true)->Nf call (pre++y::rest) s=some s'->
 ∃ s1 s'',me call y s=some s1/\Nf call (pre++rest) s1=some s''/\YI s' s'':=by
 intro pre
 induction pre with
 |nil=>
  intro s s' _ h;simp only[Yaa,Nf] at h ⊢;cases ho:me call y s with
  |none=>simp[ho,qt] at h
  |some s1=>simp only[ho,qt] at h;exact⟨s1,s',rfl,h,YI.refl _⟩
 |cons x pre ih=>
  intro s s' hc h;simp only[bab,Nf] at h ⊢;cases ho:me call x s with
  |none=>simp[ho,qt] at h
  |some s1=>simp only[ho,qt] at h;obtain⟨s2,s'',k1,k2,k3⟩:=ih (fun z hz=>hc z (by simp[hz])) h;obtain⟨s3,s4,j1,j2,j3⟩:=ZT (hc x (by simp)) ho k1;obtain⟨s5,i1,i2⟩:=bO j3 k2;exact⟨s3,s5,j1,by simp[j2,qt,i1],k3.trans i2⟩
def mark(D:Nat):Deferred:={target:= .collected D,args:= #[]}
def Marks(w w':World)(a a':Act):Prop:=∃ Ds:List Nat,a'.defers=Ds.map mark++a.defers/\Ds.Nodup/\∀ D∈Ds,w.heap.size<=D/\w'.heap[D]? =some (.deferred (some []))
theorem Marks.same{w w':World}{a a':Act}(h:a'.defers=a.defers):Marks w w' a a':=⟨[],h,.nil,fun _ h=>by cases h⟩
theorem Marks.trans{B0:vg}{w w' w'':World}{a a' a'':Act}(h:Marks w w' a a')(k:Marks w' w'' a' a'')(hb:oh B0 w' w'')(hs:w.heap.size<=w'.heap.size):Marks w w'' a a'':=by
 obtain⟨D1,e1,n1,k1⟩:=h;obtain⟨D2,e2,n2,k2⟩:=k;refine⟨D2++D1,by rw[e2,e1];simp,List.nodup_append.2 ⟨n2,n1,fun x hx y hy e=> ?_⟩,fun D hD=> ?_⟩
 ·subst e
  have:=Rm (k1 x hy).2
  have:=(k2 x hx).1
  omega
 ·rcases Jaa.1 hD with h | h
  ·exact⟨mac hs (k2 D h).1,(k2 D h).2⟩
  ·exact⟨(k1 D h).1,hb.je _ _ (k1 D h).2 rfl⟩
def IJ:Option Nat->Fence
 |none=>Fence.wide
 |some l=>Fence.wide.inRound l
theorem sW(ro:Option Nat)(f:FuncId):(IJ ro).fn f:=by cases ro <;> trivial
theorem aJ(ro:Option Nat):(IJ ro).depth=none:=by cases ro <;> rfl
theorem GQ{P:Program}{n:Nat}{f:FuncId}{args:Array Value}{w:World}{R:Ending->World->Prop}(ro:Option Nat)(h:Calls P f args w R):CallsIn (IJ ro) n P f args w R:=by
 cases ro with
 |none=>exact callsIn_wide.2 h
 |some l=>exact (callsIn_wide (n:=n)).2 h
theorem CT{P:Program}{n:Nat}{row:String}{args:Array Value}{w:World}{R:Value->World->Prop}(ro:Option Nat)(h:Rows P row args w R):RowsIn (IJ ro) n P row args w R:=by
 have:RowsIn Fence.wide n P row args w R:=fun c cs _=>let ⟨v,w',r,s⟩:=h c cs;⟨v,w',r,stepsIn_wide.2 s⟩
 cases ro with
 |none=>exact this
 |some l=>exact this
theorem qH{P:Program}{n:Nat}{o:Oper}{a:Act}{w:World}{next:Act->World->Prop}{Q:Exit->Act->World->Prop}(ro:Option Nat)(hd:∀ c,o.op≠ .defer c)(h:o.wp P a w next Q):o.wpIn (IJ ro) n P a w next Q:=by
 refine⟨fun f _=>sW ro f,?_⟩;rw[Oper.semAt_eq _ _ _ hd];unfold Oper.wp at h
 generalize (execOp a.eval o).run P w=r at h ⊢
 cases r with
 |ok x w'=>
  cases x <;> simp only[Oper.upon,Oper.uponIn] at h ⊢ <;> first
   |exact h
   |exact⟨fun hx=>by (rw[aJ] at hx;cases hx),GQ ro h⟩
   |exact⟨fun hx=>by (rw[aJ] at hx;cases hx),CT ro h⟩
   |exact h.elim
 |halt x w'=>cases x <;> simp only[Oper.upon,Oper.uponIn] at h ⊢ <;> exact h
structure Gn(fo:Nat->FuncId)(B0:vg)(w:World)(R:Rd)(φ:Pl)(H:List ba)(a:Act)(w':World)(R':Rd)(φ':Pl)(s':St)(a':Act):Prop where
 rel:vc fo B0 w' R' φ' s'.H
 env:ij fo (K R' φ' s'.H) s'.env a'
 mono:∀ x u,K R φ H x u->K R' φ' s'.H x u
 below:oh B0 w w'
 size:a'.tmps.size=a.tmps.size
 defers:Marks w w' a a'
section
variable {P:Program}{fo:Nat->FuncId}{B0:vg}{call:Sa}
theorem Gn.refl{w:World}{R:Rd}{φ:Pl}{s:St}{a:Act}(hS:vc fo B0 w R φ s.H)(hE:ij fo (K R φ s.H) s.env a):Gn fo B0 w R φ s.H a w R φ s a:=
 ⟨hS,hE,fun _ _ h=>h,oh.refl _ _,rfl,.same rfl⟩
theorem Gn.trans{w w' w'':World}{R R' R'':Rd}{φ φ' φ'':Pl}{H:List ba}{s' s'':St}{a a' a'':Act}
 (h:Gn fo B0 w R φ H a w' R' φ' s' a') (k:Gn fo B0 w' R' φ' s'.H a' w'' R'' φ'' s'' a''):Gn fo B0 w R φ H a w'' R'' φ'' s'' a'':=
 ⟨k.rel,k.env,fun x u hx=>k.mono _ _ (h.mono _ _ hx),h.below.trans k.below,k.size.trans h.size,h.defers.trans k.defers k.below h.below.size⟩
theorem Gn.eqv{w w':World}{R R':Rd}{φ φ':Pl}{H:List ba}{s' s'':St}{a a':Act}(h:Gn fo B0 w R φ H a w' R' φ' s' a')(he:YI s' s''):Gn fo B0 w R φ H a w' R' φ' s'' a':=by
 obtain⟨e1,e2⟩:=he;exact⟨e1 ▸ h.rel,fun t=>by rw[<- e2,<-e1];exact h.env t,e1 ▸ h.mono,h.below,h.size,h.defers⟩
theorem vc.drew{w w':World}{R:Rd}{φ:Pl}{H:List ba}(h:vc fo B0 w R φ H)(hw:w'.heap=w.heap):vc fo B0 w' R φ H:=by
 have hb:∀ b arr,Wz w b arr->Wz w' b arr:=fun b arr hb=>hb.je (by rw[hw])
 refine⟨by rw[hw];exact h.low,fun b o v hv=>by rw[<- h.sub b o v hv];simp[World.cell?,hw],fun id o ho=> ?_,h.inj,h.cq,fun k hk=>by rw[hw];exact h.slt k hk,h.free⟩;have:=h.obj id o ho
 cases o with
 |box cells=>exact⟨this.1,this.2.1,this.2.2.1,this.2.2.2.imp fun arr q=>⟨hb _ _ q.1,q.2⟩⟩
 |seq sz ag cells fl nl=>exact⟨this.1,this.2.1,this.2.2.1,this.2.2.2.1,fun e=>⟨(this.2.2.2.2 e).1,(this.2.2.2.2 e).2.1,(this.2.2.2.2 e).2.2.imp fun arr q=>⟨hb _ _ q.1,q.2⟩⟩⟩
 |tok sz n nl=>exact⟨this.1,this.2.1,fun e=>⟨(this.2.2 e).1,(this.2.2 e).2.1,(this.2.2 e).2.2.imp fun arr q=>⟨hb _ _ q.1,q.2⟩⟩⟩
 |map es=>obtain⟨h1,h2,O7,clk,h3,h4⟩:=this;exact⟨h1,h2,O7,clk,by rw[hw];exact h3,h4⟩
 |dead=>trivial
theorem ij.put{k:AV->Value->Prop}{e:Tr}{a:Act}(h:ij fo k e a)(d:Option Nat)(hd:∀ t,d=some t->t < a.tmps.size){v:AV}{u:Value}(hv:Sc fo k v u):
 ij fo k (Qq e d v) (a.put d u):=by
 intro t;rw[qy];cases d with
 |none=>simp only[reduceCtorEq,if_false];exact h t
 |some d=>
  by_cases ht:d=t
  ·subst ht
   simp only[if_true,Act.put];rw[mab,Array.getElem?_setIfInBounds_self_of_lt (hd d rfl)];exact hv
  ·simp only[caa,ht,if_false,Act.put]
   rw[mab,Array.getElem?_setIfInBounds_ne ht,<-mab];exact h t
def FA(nt:Nat)(ops:Array Oper)(o:Oper)(ao:wb):Bool:=
 o.dst==ao.dst&&(match o.dst with | some d=>decide (d < nt) | none=>true)&&
 (match o.guard,ao.guard with
 |none,none=>true
 |some (g,want),some (t,Uae)=>want==Uae&&((ops[g]?).bind (·.dst))==some t
 |_,_=>false)
def Z3(P:Program)(fo:Nat->FuncId)(B0:vg)(call:Sa)(o:Oper)(ao:wb):Prop:=
 ∀ (w:World)(R:Rd)(φ:Pl)(e:Tr)(H H':List ba)(a:Act)(v:AV),vc fo B0 w R φ H->ij fo (K R φ H) e a->Mk call e H ao=some (v,H')->gC P fo B0 o a w R φ H v H'
theorem pJ{nt:Nat}{ops:Array Oper}{o:Oper}{ao:wb}(hk:FA nt ops o ao=true){k:AV->Value->Prop}{R:Rd}{φ:Pl}{H:List ba}{e:Tr}{a:Act}(hE:ij fo (K R φ H) e a){b:Bool}
 (h:eh e ao.guard=some b):Region.wanted o (yielded ops a.tmps)=b:=by
 simp only[FA,baa] at hk;obtain⟨_,hg⟩:=hk;unfold Region.wanted
 cases h1:o.guard with
 |none=>
  cases h2:ao.guard with
  |none=>simp[h2,eh] at h;simp[h]
  |some g=>simp[h1,h2] at hg
 |some g=>
  obtain⟨g,want⟩:=g;cases h2:ao.guard with
  |none=>simp[h1,h2] at hg
  |some g'=>
   obtain⟨t,Uae⟩:=g';simp only[h1,h2,baa,beq_iff_eq] at hg;obtain⟨rfl,hg⟩:=hg;have ht:=hE t;simp only[h2,eh] at h;simp only[yielded,hg,yaa]
   split at h
   ·rename_i b' hb
    rw[hb] at ht;have:=ht.Rb
    injection h with h
    cases hv:a.tmps[t]? with
    |none=>rw[mab,hv] at this;cases this
    |some v=>rw[mab,hv] at this;simp only[Tac] at this;cases this;simp only[<- h];cases b' <;> cases want <;> rfl
   ·rename_i hb
    rw[hb] at ht;have:=ht.Rb
    injection h with h
    subst h;cases hv:a.tmps[t]? with
    |none=>simp
    |some v=>rw[mab,hv] at this;simp only[Tac] at this;cases this;simp
   ·cases h
theorem dM{nt:Nat}{ops:Array Oper}{i:Nat}{o:Oper}{ao:wb}(hi:ops[i]? =some o)(hk:FA nt ops o ao=true)(ho:Z3 P fo B0 call o ao)(hnd:∀ c,o.op≠ .defer c)(ro:Option Nat){n:Nat}
 {w:World} {R:Rd} {φ:Pl} {s s1:St} {a:Act} (hS:vc fo B0 w R φ s.H) (hE:ij fo (K R φ s.H) s.env a) (hn:a.tmps.size=nt) (h:me call ao s=some s1)
 {Q:Exit->Act->World->Prop} {next:Act->World->Prop} (hq:∀ a' w' R' φ',Gn fo B0 w R φ s.H a w' R' φ' s1 a'->next a' w'):wpOpIn (IJ ro) n P ops Q i next a w:=by
 have hk':=hk;simp only[FA,baa,beq_iff_eq] at hk';obtain⟨⟨hd,E7⟩,_⟩:=hk';have C9:∀ t,ao.dst=some t->t < a.tmps.size:=fun t ht=>by rw[hd,ht] at E7;rw[hn];simpa using E7
 have sz:∀ (a:Act)(d:Option Nat)(u:Value),(a.put d u).tmps.size=a.tmps.size:=fun a d u=>by cases d <;> simp[Act.put]
 have df:∀ (a:Act)(d:Option Nat)(u:Value),(a.put d u).defers=a.defers:=fun a d u=>by cases d <;> rfl
 obtain⟨e,H⟩:=s;unfold wpOpIn;simp only[hi];rcases Br h with⟨g,v,q,r⟩ | ⟨g,r⟩
 ·rw[pJ (k:=fun _ _=>True) hk hE g]
  simp only[if_true];refine qH ro hnd (ho w R φ e H s1.H a v hS hE q next Q fun v' w' R' φ' h1 h2 h3 h4=>hq _ _ R' φ' ⟨h1,?_,h3,h4,sz _ _ _,.same (df _ _ _)⟩);rw[r,hd];exact (hE.mono h3).put ao.dst C9 h2
 ·rw[pJ (k:=fun _ _=>True) hk hE g]
  simp only[saa,if_false];subst r;refine⟨fun f _=>sW ro f,hq _ _ R φ ⟨hS,?_,fun _ _ h=>h,oh.refl _ _,sz _ _ _,.same (df _ _ _)⟩⟩;rw[hd];exact hE.put ao.dst C9 (.atom _ _ (show Ta R _ _ from .mc _ _ .nil))
def TL(aops:List wb)(L:List Nat):List wb:=L.filterMap (aops[·]?)
theorem SN{aops:List wb}{i:Nat}{ao:wb}(h:aops[i]? =some ao)(L:List Nat):TL aops (i::L)=ao::TL aops L:=by simp[TL,h]
theorem yA(aops:List wb)(L M:List Nat):TL aops (L++M)=TL aops L++TL aops M:=by simp[TL]
theorem iJ(aops:List wb):TL aops (List.range aops.length)=aops:=by
 suffices ∀ n,n<=aops.length->TL aops (List.range n)=aops.take n by simpa using this aops.length (paa _)
 intro n
 induction n with
 |zero=>intro _;simp[TL]
 |succ n ih=>intro h;rw[gad,yA,ih (by omega),xae];simp[TL,aaa (show n < aops.length by omega)]
structure HM(P:Program)(fo:Nat->FuncId)(B0:vg)(call:Sa)(nt:Nat)(ops:Array Oper)(aops:List wb):Prop where
 len:aops.length=ops.size
 slot:∀ (i:Nat)(o:Oper)(ao:wb),ops[i]? =some o->aops[i]? =some ao->FA nt ops o ao=true
 V5:∀ (i:Nat)(o:Oper)(ao:wb),ops[i]? =some o->aops[i]? =some ao->Z3 P fo B0 call o ao
 nd:∀ (i:Nat)(o:Oper)(ao:wb),ops[i]? =some o->aops[i]? =some ao->∀ c,o.op≠ .defer c
theorem SY(ro:Option Nat){n:Nat}{nt:Nat}{ops:Array Oper}{aops:List wb}(hs:HM P fo B0 call nt ops aops){Q:Exit->Act->World->Prop}:∀ (L:List Nat),(∀ i∈L,i < ops.size)->∀ {w:World}{R:Rd}{φ:Pl}{s s':St}{a:Act},
 vc fo B0 w R φ s.H->ij fo (K R φ s.H) s.env a->a.tmps.size=nt->Nf call (TL aops L) s=some s'->
 (∀ a' w' R' φ',Gn fo B0 w R φ s.H a w' R' φ' s' a'->Q .normal a' w')->wpOpsIn (IJ ro) n P ops Q L a w:=by
 intro L
 induction L with
 |nil=>intro _ w R φ s s' a hS hE hn h hq;simp only[TL,List.filterMap_nil,Nf,caa] at h;subst h;exact hq _ _ R φ (.refl hS hE)
 |cons i L ih=>
  intro hL w R φ s s' a hS hE hn h hq;have hi:i < ops.size:=hL i (by simp)
  have h1:ops[i]? =some ops[i]:=xad hi;have h2:aops[i]? =some (aops[i]'(by rw[hs.len];exact hi)):=aaa _;rw[SN h2,Nf] at h;cases ho:me call (aops[i]'(by rw[hs.len];exact hi)) s with
  |none=>simp[ho,qt] at h
  |some s1=>simp only[ho,qt] at h;rw[wpOpsIn_cons];refine dM h1 (hs.slot _ _ _ h1 h2) (hs.V5 _ _ _ h1 h2) (hs.nd _ _ _ h1 h2) ro hS hE hn ho fun a' w' R' φ' g=> ?_;exact ih (fun j hj=>hL j (by simp[hj])) g.rel g.env (g.size.trans hn) h fun a'' w'' R'' φ'' g'=>hq _ _ _ _ (g.trans g')
theorem HF(ro:Option Nat){n:Nat}{nt:Nat}{id:Nat}{ops:Array Oper}{aops:List wb}(hs:HM P fo B0 call nt ops aops){Q:Exit->Act->World->Prop}{w:World}{R:Rd}{φ:Pl}{s s':St}{a:Act}
 (hS:vc fo B0 w R φ s.H) (hE:ij fo (K R φ s.H) s.env a) (hn:a.tmps.size=nt) (h:Nf call aops s=some s')
 (hq:∀ a' w' R' φ',Gn fo B0 w R φ s.H a w' R' φ' s' a'->Q .normal a' w'):(Code.region id ops false).wpIn (IJ ro) n P Q a w:=
 wpIn_region (SY ro hs _ (fun i hi=>Oac.1 hi) hS hE hn (by rw[<- hs.len,iJ];exact h) hq)
def bQ(ops:Array Oper):Nat->Nat->Nat->Bool
 |0,_,_=>false
 |f+1,j,i=>
  match ops[i]? with
  |some o=>o.after.toList.any fun e=>Region.binds .any e&&(e.on==j||(decide (j < e.on)&&bQ ops f j e.on))
  |none=>false
def FQ(ops:Array Oper)(aops:List wb):Bool:=
 (List.range ops.size).all fun i=>
  (match ops[i]? with | some o=>o.after.toList.all fun e=> !Region.binds .any e||decide (e.on < i) | none=>true)&&
  (List.range i).all fun j=>
   (match aops[j]?,aops[i]? with
   |some x,some y=>GI x y
   |_,_=>false)||bQ ops 8 j i
def mw(ops:Array Oper)(G7:Array Bool):List Nat:=(List.range ops.size).filter fun i=> !G7.getD i true
def Q4(ops:Array Oper)(G7:Array Bool):Prop:=∀ f j k,bQ ops f j k=true->G7.getD k true=true->k < ops.size->G7.getD j true=true
theorem jD{G7:Array Bool}{i:Nat}(h:i < G7.size):G7.getD i true=G7.getD i false:=by
 simp[mab,h]
theorem EZ(ro:Option Nat){nn:Nat}{nt:Nat}{ops:Array Oper}{aops:List wb}(hs:HM P fo B0 call nt ops aops)(hd:FQ ops aops=true){Q:Exit->Act->World->Prop}:∀ (n:Nat)(G7:Array Bool){w:World}{R:Rd}{φ:Pl}{s s' s'':St}{a:Act},
 (mw ops G7).length<=n->G7.size=ops.size->Q4 ops G7->vc fo B0 w R φ s.H->ij fo (K R φ s.H) s.env a->a.tmps.size=nt->
 Nf call (TL aops (mw ops G7)) s=some s''->YI s' s''->
 (∀ a' w' R' φ',Gn fo B0 w R φ s.H a w' R' φ' s' a'->Q .normal a' w')->wpAnyIn (IJ ro) nn P .any ops Q n G7 a w:=by
 have hdd:∀ i,i < ops.size->(∀ o,ops[i]? =some o->∀ e∈o.after,Region.binds .any e=true->e.on < i)/\∀ j,j < i->(∀ x y,aops[j]? =some x->aops[i]? =some y->GI x y=true)\/bQ ops 8 j i=true:=by
  intro i hi;have:=Taa.1 hd i (Oac.2 hi)
  simp only[baa] at this;refine⟨fun o ho e he hb=> ?_,fun j hj=> ?_⟩
  ·have h1:=this.1
   simp only[ho] at h1;have:=Taa.1 h1 e (by simpa using he)
   simpa[hb] using this
  ·have h2:=Taa.1 this.2 j (Oac.2 hj)
   simp only[Nac] at h2;rcases h2 with h2 | h2
   ·left;intro x y hx hy;simpa[hx,hy] using h2
   ·exact .inr h2
 have empty:∀ (G7:Array Bool),G7.size=ops.size->Region.ready .any ops G7=[]->mw ops G7=[]:=by
  intro G7 L7 hr;cases oad:mw ops G7 with
  |nil=>rfl
  |cons i rest=>
   exfalso;have s9:(mw ops G7).Pairwise (· < ·):=List.Pairwise.filter _ List.pairwise_lt_range
   have S8:i∈mw ops G7:=by rw[oad];simp
   have him:=List.mem_filter.1 S8
   have hi:=Oac.1 him.1
   have h1:ops[i]? =some ops[i]:=xad hi;have:i∈Region.ready .any ops G7:=by
    rw[mem_ready];refine⟨by simpa using him.2,_,h1,fun e he hb=> ?_⟩;have E7:=(hdd i hi).1 _ h1 e he hb
    rw[<- jD (by omega)];cases hg:G7.getD e.on true with
    |true=>rfl
    |false=>
     exfalso;have:e.on∈mw ops G7:=List.mem_filter.2 ⟨Oac.2 (by omega),by simp[hg]⟩
     rw[oad] at this s9;rcases Xaa.1 this with he' | he'
     ·omega
     ·have:=(Sad.1 s9).1 _ he';omega
   rw[hr] at this;cases this
 have done:∀ (G7:Array Bool){w:World}{R:Rd}{φ:Pl}{s s' s'':St}{a:Act},G7.size=ops.size->vc fo B0 w R φ s.H->ij fo (K R φ s.H) s.env a->
  Nf call (TL aops (mw ops G7)) s=some s''->YI s' s''->(∀ a' w' R' φ',Gn fo B0 w R φ s.H a w' R' φ' s' a'->Q .normal a' w')->Region.ready .any ops G7=[]->Q .normal a w:=by
  intro G7 w R φ s s' s'' a L7 hS hE F7 he hq hr;rw[empty G7 L7 hr] at F7;simp only[TL,List.filterMap_nil,Nf,caa] at F7;subst F7;exact hq _ _ R φ ((Gn.refl hS hE).eqv he.symm)
 intro n
 induction n with
 |zero=>
  intro G7 w R φ s s' s'' a hlen L7 P7 hS hE hn F7 he hq;have Bab:mw ops G7=[]:=qaa (by omega);have hr:Region.ready .any ops G7=[]:=by
   cases hr:Region.ready .any ops G7 with
   |nil=>rfl
   |cons i rest=>
    exfalso;have hi:i∈Region.ready .any ops G7:=by rw[hr];simp
    obtain⟨h0,o,ho,_⟩:=mem_ready.1 hi
    have:i∈mw ops G7:=List.mem_filter.2 ⟨Oac.2 (Qac.1 ho).1,by simp[h0]⟩
    rw[Bab] at this;cases this
  exact⟨hr,done G7 L7 hS hE F7 he hq hr⟩
 |succ n ih=>
  intro G7 w R φ s s' s'' a hlen L7 P7 hS hE hn F7 he hq;refine⟨done G7 L7 hS hE F7 he hq,fun i hi=> ?_⟩;obtain⟨h0,o,ho,Hah⟩:=mem_ready.1 hi
  have nac:i < ops.size:=(Qac.1 ho).1
  have hao:aops[i]? =some (aops[i]'(by rw[hs.len];exact nac)):=aaa _;generalize aops[i]'(by rw[hs.len];exact nac)=ao at hao;have S8:i∈mw ops G7:=List.mem_filter.2 ⟨Oac.2 nac,by simp[h0]⟩
  have s9:(mw ops G7).Pairwise (· < ·):=List.Pairwise.filter _ List.pairwise_lt_range
  obtain⟨pre,post,faa⟩:=List.append_of_mem S8
  rw[faa] at s9;rw[Yad] at s9;obtain⟨_,hs2,hs3⟩:=s9;have Vae:mw ops (G7.setIfInBounds i true)=pre++post:=by
   have:mw ops (G7.setIfInBounds i true)=(mw ops G7).filter (fun j=>decide (j≠i)):=by
    unfold mw;rw[List.filter_filter];apply List.filter_congr
    intro j hj
    by_cases hji:j=i
    ·subst hji
     have:(G7.setIfInBounds j true).getD j true=true:=by rw[mab,Array.getElem?_setIfInBounds_self_of_lt (by omega)];rfl
     simp[this]
    ·rw[getD_set_ne true (lac hji)];simp[hji]
   rw[this,faa,List.filter_append,List.filter_cons];simp only[ne_eq,not_true_eq_false,decide_false,saa,if_false];rw[List.filter_eq_self.2 fun j hj=>by have:=hs3 j hj i (by simp);simp;omega,
    List.filter_eq_self.2 fun j hj=>by have:=(Sad.1 hs2).1 j hj;simp;omega]
  have Iah:∀ x∈TL aops pre,GI x ao=true:=by
   intro x hx;simp only[TL,List.mem_filterMap] at hx;obtain⟨j,hj,hxj⟩:=hx;have hji:j < i:=hs3 j hj i (by simp);rcases (hdd i nac).2 j hji with h | h
   ·exact h x ao hxj hao
   ·exfalso
    have Jah:j∈mw ops G7:=by rw[faa];simp[hj]
    have hj0:G7.getD j true=false:=by simpa using (List.mem_filter.1 Jah).2
    rw[show (8:Nat)=7+1 from rfl] at h;simp only[bQ,ho] at h;obtain⟨ed,hed,hb⟩:=Rad.1 h
    simp only[baa,Nac,beq_iff_eq,decide_eq_true_eq] at hb;obtain⟨L8,y8⟩:=hb;have hl:=Hah ed (by simpa using hed) L8;have E7:=(hdd i nac).1 o ho ed (by simpa using hed) L8
    have Z8:G7.getD ed.on true=true:=by rw[jD (by omega)];exact hl
    rcases y8 with rfl | ⟨_,y8⟩
    ·rw[Z8] at hj0;cases hj0
    ·rw[P7 7 j ed.on y8 Z8 (by omega)] at hj0;cases hj0
  rw[faa,yA,SN hao] at F7;obtain⟨s1,s2,k1,k2,k3⟩:=C4 Iah F7;refine dM ho (hs.slot _ _ _ ho hao) (hs.V5 _ _ _ ho hao) (hs.nd _ _ _ ho hao) ro hS hE hn k1 fun a' w' R' φ' g=> ?_;refine ih (G7.setIfInBounds i true) (s':=s') (s'':=s2) ?_ (by simp[L7]) ?_ g.rel g.env (g.size.trans hn) (by rw[Vae,yA];exact k2) (he.trans k3) fun a'' w'' R'' φ'' g'=>hq _ _ _ _ (g.trans g')
  ·rw[Vae];rw[faa] at hlen;simp at hlen ⊢;omega
  ·intro f j k nae hk oak
   by_cases hji:j=i
   ·subst hji
    rw[mab,Array.getElem?_setIfInBounds_self_of_lt (by omega)];rfl
   rw[getD_set_ne true (lac hji)]
   by_cases hki:k=i
   ·subst hki
    cases f with
    |zero=>simp[bQ] at nae
    |succ f=>
     simp only[bQ,ho] at nae;obtain⟨ed,hed,hb⟩:=Rad.1 nae
     simp only[baa,Nac,beq_iff_eq,decide_eq_true_eq] at hb;obtain⟨L8,y8⟩:=hb;have hl:=Hah ed (by simpa using hed) L8;have E7:=(hdd k nac).1 o ho ed (by simpa using hed) L8
     have Z8:G7.getD ed.on true=true:=by rw[jD (by omega)];exact hl
     rcases y8 with rfl | ⟨_,y8⟩
     ·exact Z8
     ·exact P7 f j ed.on y8 Z8 (by omega)
   ·rw[getD_set_ne true (lac hki)] at hk
    exact P7 f j k nae hk oak
theorem ZL(ro:Option Nat){n:Nat}{nt:Nat}{id:Nat}{ops:Array Oper}{aops:List wb}(hm:P.follows .mixedOrders=true)(hs:HM P fo B0 call nt ops aops)(hd:FQ ops aops=true){Q:Exit->Act->World->Prop}{w:World}{R:Rd}{φ:Pl}{s s':St}{a:Act}
 (hS:vc fo B0 w R φ s.H) (hE:ij fo (K R φ s.H) s.env a) (hn:a.tmps.size=nt) (h:Nf call aops s=some s')
 (hq:∀ a' w' R' φ',Gn fo B0 w R φ s.H a w' R' φ' s' a'->Q .normal a' w'):(Code.region id ops true).wpIn (IJ ro) n P Q a w:=by
 have oad:mw ops (Array.replicate ops.size false)=List.range ops.size:=by
  unfold mw;apply List.filter_eq_self.2
  intro i hi;rw[Oac] at hi;simp[mab,hi]
 refine wpIn_region_any hm (EZ ro hs hd ops.size _ (s':=s') (s'':=s') (s:=s) (R:=R) (φ:=φ) (by rw[oad];simp) (by simp) ?_ (hS.drew rfl) hE hn ?_ (YI.refl _) ?_)
 ·intro f j k _ hk E7
  simp[mab,E7] at hk
 ·rw[oad,<-hs.len,iJ];exact h
 ·intro a' w' R' φ' g
  exact hq _ _ _ _ ⟨g.rel,g.env,g.mono,oh.trans ⟨(RowKit.Below.refl _ w).drew,fun _ _ h _=>h,fun _ _=>rfl⟩ g.below,g.size,g.defers⟩
end
section
variable {P:Program}{fo:Nat->FuncId}{B0:vg}
def Rw(w:World):Rd:=fun b o=>w.cell? ⟨b,o,none⟩
theorem kD{α β:Type}{f:α->Option β}:∀ {l:List α}{r:List β},Ra f l=some r->r.length=l.length/\∀ (i:Nat)(x:α),l[i]? =some x->∃ y,r[i]? =some y/\f x=some y:=by
 intro l
 induction l with
 |nil=>intro r h;simp[Ra] at h;subst h;exact⟨rfl,fun i x h=>by simp at h⟩
 |cons a l ih=>
  intro r h;simp only[Ra,laa,caa] at h;obtain⟨b,h1,bs,h2,rfl⟩:=h;obtain⟨k1,k2⟩:=ih h2;refine⟨by simp[k1],fun i x hx=> ?_⟩;cases i with
  |zero=>simp at hx;subst hx;exact⟨b,rfl,h1⟩
  |succ i=>simpa using k2 i x (by simpa using hx)
theorem HW{H:List ba}{d:Nat}{v:AV}{p:PV}(h1:v.one=true)(h:Sb H d v=some p):WH p=true:=by
 cases v with
 |pv q=>simp[Sb] at h;subst h;exact h1
 |uq id nl sz es=>simp[Sb] at h;subst h;cases nl <;> rfl
 |ptr id off=>
  cases d with
  |zero=>simp[Sb] at h
  |succ d=>
   simp only[Sb] at h
   split at h
   ·simp only[daa] at h;obtain⟨ps,_,rfl⟩:=h;rfl
   ·cases h
 |own id len=>
  cases d with
  |zero=>simp[Sb] at h
  |succ d=>
   simp only[Sb] at h
   split at h
   ·split at h
    ·rename_i nl _ _
     cases nl with
     |true=>simp at h;subst h;rfl
     |false=>simp only[saa,if_false,daa] at h;obtain⟨ps,_,rfl⟩:=h;rfl
    ·cases h
   ·cases h
 |Hc=>cases d <;> simp[Sb] at h
 |Ol=>cases d <;> simp[Sb] at h
 |mp=>cases d <;> simp[Sb] at h
 |undef=>cases d <;> simp[Sb] at h
 |agg=>simp[AV.one] at h1
 |mc=>simp[AV.one] at h1
theorem dU{H:List ba}{d:Nat}{cs:List AV}{ps:List PV}(h1:cs.all AV.one=true)(h:Ra (Sb H d) cs=some ps):∀ p∈ps,WH p=true:=by
 obtain⟨k1,k2⟩:=kD h;intro p hp;obtain⟨i,hi⟩:=Gac.1 hp
 have E7:=getElem?_lt hi;have hx:cs[i]? =some (cs[i]'(by omega)):=aaa _;obtain⟨y,hy1,hy2⟩:=k2 i _ hx;rw[hi] at hy1;injection hy1 with hy1;subst hy1
 exact HW (Taa.1 h1 _ (jaa _)) hy2
theorem rM{w:World}{R Q:Rd}{φ:Pl}{H:List ba}(hS:vc fo B0 w R φ H)(V7:Sub R Q)(hQ:∀ b o v,B0.n<=b->w.cell? ⟨b,o,none⟩=some v->Q b o=some v):∀ (d:Nat){v:AV}{u:Value}{p:PV},Sc fo (K R φ H) v u->Sb H d v=some p->Ta Q p u:=by
 intro d
 induction d with
 |zero=>
  intro v u p hv h;cases v with
  |pv q=>simp[Sb] at h;subst h;exact hv.Rb.mono V7
  |uq id nl sz es=>
   simp[Sb] at h;have h1:=hv.Uw
   cases nl with
   |true=>simp at h;subst h;rw[(h1.2.1 rfl).1];exact .ga
   |false=>simp at h;subst h;exact (h1.2.2.1 rfl).mono V7
  |_=>simp[Sb] at h
 |succ d ih=>
  have many:∀ {cs:List AV}{ps:List PV}{vs:List Value},pb fo (K R φ H) cs vs->Ra (Sb H d) cs=some ps->Ve Q ps vs:=by
   intro cs
   induction cs with
   |nil=>intro ps vs hl h;simp[Ra] at h;subst h;cases hl;exact .nil
   |cons c cs ihc=>
    intro ps vs hl h;simp only[Ra,laa,caa] at h;obtain⟨b,h1,bs,h2,rfl⟩:=h;cases hl with
    |cons _ _ v vs hc A9=>exact .cons _ _ _ _ (ih hc h1) (ihc A9 h2)
  intro v u p hv h;cases v with
  |pv q=>simp[Sb] at h;subst h;exact hv.Rb.mono V7
  |uq id nl sz es=>
   simp[Sb] at h;have h1:=hv.Uw
   cases nl with
   |true=>simp at h;subst h;rw[(h1.2.1 rfl).1];exact .ga
   |false=>simp at h;subst h;exact (h1.2.2.1 rfl).mono V7
  |own id len=>
   simp only[Sb] at h
   split at h
   ·rename_i sz ag cells fl nl H7
    split at h
    ·rename_i hc
     obtain⟨hlen,oW⟩:=hc;have h1:=hv.MB
     obtain⟨k0,k⟩:=h1.2.2 _ _ _ _ _ H7
     obtain⟨o0,o1,o2,zaa,o3⟩:=hS.obj _ _ H7
     obtain⟨k1,k2⟩:=k (by omega);cases nl with
     |true=>simp at h;subst h;rw[k1 rfl];exact .ga
     |false=>
      simp only[saa,if_false,daa] at h;obtain⟨ps,hps,rfl⟩:=h;obtain⟨Zab,_,arr,hB,L7,hle,e8⟩:=o3 rfl;rcases k2 rfl with⟨q1,q2,_⟩ | ⟨b,o,cap,rfl,q2,_⟩
      ·subst q1;exact absurd (qaa (by omega)) q2
      ·obtain⟨rfl,rfl,rfl⟩:=q2 hlen
       have hl:=many e8 hps;have S7:=dU zaa hps;have rad:ps.length=len * sz:=by rw[(kD hps).1,hlen]
       obtain⟨c1,c2,c3⟩:=cw sz ag (fun e=>by subst e;simpa using oW) len ps rad S7;have:=Ta.lit (R:=Q) sz (chunk sz ag len ps) (φ id).1 0 (φ id).2 (by
        rw[c3];have:len * sz<=(φ id).2 * sz:=by rw[<- L7];omega
        exact Rac this o0) c2 (by
        rw[c1];refine Qg.Po hl (Np e8 zaa) fun i v hv=> ?_
        have E7:=getElem?_lt hv;rw[Gab] at hv
        split at hv
        ·refine hQ _ _ _ Zab ?_
         rw[hB.cell,Zaa];simpa using hv
        ·cases hv)
       rw[c3] at this;exact this
    ·cases h
   ·cases h
  |ptr id off=>
   simp only[Sb] at h
   split at h
   ·rename_i cells H7
    simp only[daa] at h;obtain⟨ps,hps,rfl⟩:=h;obtain⟨Zab,_,zaa,arr,hB,e8⟩:=hS.obj _ _ H7
    rw[hv.ZE.2.2 _ H7];have:=Ta.rp (R:=Q) ps off (φ id).1 0 (Qg.Po (many e8 hps) (Np e8 zaa) fun i v hv=>by refine hQ _ _ _ Zab ?_;rw[hB.cell,Zaa];simpa using hv)
    rw[Zaa] at this;exact this
   ·cases h
  |agg cs=>
   simp only[Sb,daa] at h;obtain⟨ps,hps,rfl⟩:=h;cases hv with
   |atom _ _ h=>exact h.elim
   |agg _ vs hl=>exact .agg _ _ (many hl hps)
  |mc cs=>
   simp only[Sb,daa] at h;obtain⟨ps,hps,rfl⟩:=h;cases hv with
   |atom _ _ h=>exact h.elim
   |mc _ vs hl=>exact .mc _ _ (many hl hps)
  |Hc=>simp[Sb] at h
  |Ol=>simp[Sb] at h
  |mp=>simp[Sb] at h
  |undef=>simp[Sb] at h
theorem bU{w:World}{R:Rd}{φ:Pl}{H:List ba}{d:Nat}{v:AV}{u:Value}{p:PV}(hf:v.free=true)(hv:Sc fo (K R φ H) v u)(h:Sb H d v=some p):Ta R p u:=by
 cases v with
 |pv q=>simp[Sb] at h;subst h;exact hv.Rb
 |uq id nl sz es=>
  simp[Sb] at h;have h1:=hv.Uw
  cases nl with
  |true=>simp at h;subst h;rw[(h1.2.1 rfl).1];exact .ga
  |false=>simp at h;subst h;exact h1.2.2.1 rfl
 |_=>simp[AV.free] at hf
theorem aV{w:World}{R:Rd}{φ:Pl}{H:List ba}(hS:vc fo B0 w R φ H){d:Nat}:∀ {vs:List AV}{us:List Value}{ps:List PV},pb fo (K R φ H) vs us->Ra (Sb H d) vs=some ps->Ve (Rw w) ps us:=by
 intro vs
 induction vs with
 |nil=>intro us ps hl h;simp[Ra] at h;subst h;cases hl;exact .nil
 |cons c cs ihc=>
  intro us ps hl h;simp only[Ra,laa,caa] at h;obtain⟨b,h1,bs,h2,rfl⟩:=h;cases hl with
  |cons _ _ v vs hc A9=>exact .cons _ _ _ _ (rM hS (fun b o v h=>hS.sub b o v h) (fun _ _ _ _ h=>h) d hc h1) (ihc A9 h2)
theorem yP{w:World}{R:Rd}{φ:Pl}{H:List ba}{d:Nat}:∀ {vs:List AV}{us:List Value}{ps:List PV},vs.all AV.free=true->pb fo (K R φ H) vs us->Ra (Sb H d) vs=some ps->Ve R ps us:=by
 intro vs
 induction vs with
 |nil=>intro us ps _ hl h;simp[Ra] at h;subst h;cases hl;exact .nil
 |cons c cs ihc=>
  intro us ps hf hl h;simp only[Ra,laa,caa] at h;obtain⟨b,h1,bs,h2,rfl⟩:=h;simp only[wac,baa] at hf;cases hl with
  |cons _ _ v vs hc A9=>exact .cons _ _ _ _ (bU (w:=w) hf.1 hc h1) (ihc hf.2 A9 h2)
mutual
theorem nM{R R':Rd}:∀ {p:PV}{v:Value},Nj p=true->Ta R p v->Ta R' p v
 |_,_,_,.int _ _=> .int _ _
 |_,_,_,.bool _=> .bool _
 |_,_,_,.str _=> .str _
 |_,_,_,.sf=> .sf
 |_,_,_,.ga=> .ga
 |_,_,_,.nw=> .nw
 |_,_,_,.tw=> .tw
 |_,_,_,.JB=> .JB
 |_,_,hf,.rp _ _ _ _ h=>by simp[Nj] at hf
 |_,_,hf,.lit _ _ _ _ _ h1 h2 h3=>by simp[Nj] at hf
 |_,_,hf,.HE _ _=>by simp[Nj] at hf
 |_,_,hf,.agg _ _ h=> .agg _ _ (WC (by simpa[Nj] using hf) h)
 |_,_,hf,.mc _ _ h=> .mc _ _ (WC (by simpa[Nj] using hf) h)
 |_,_,hf,.iface _ _ _ h=>by simp[Nj] at hf
theorem WC{R R':Rd}:∀ {p:List PV}{v:List Value},Ep p=true->Ve R p v->Ve R' p v
 |_,_,_,.nil=> .nil
 |_,_,hf,.cons _ _ _ _ h1 h2=>by simp only[Ep,baa] at hf;exact .cons _ _ _ _ (nM hf.1 h1) (WC hf.2 h2)
end
structure tz(n:Nat)(H H2:List ba):Prop where
 obj:∀ (id:Nat)(o2:ba),H2[id]? =some o2->id < n/\∃ o,H[id]? =some o/\qa n o=some o2
 len:∀ id,id < n->id < H.length->id < H2.length
theorem TP{n:Nat}{H H2:List ba}(h:Ra (qa n) (H.take n)=some H2):tz n H H2:=by
 obtain⟨h1,h2⟩:=kD h;rw[zab] at h1;refine⟨fun id o2 ho=> ?_,fun id hn hl=>by rw[h1];omega⟩;have E7:=getElem?_lt ho;have H7:id < n/\id < H.length:=by rw[h1] at E7;omega
 have hx:(H.take n)[id]? =some (H[id]'H7.2):=by rw[Gab,if_pos H7.1];exact aaa _
 obtain⟨y,hy1,hy2⟩:=h2 id _ hx;rw[ho] at hy1;injection hy1 with hy1;subst hy1
 exact⟨H7.1,_,aaa _,hy2⟩
def AV.E6:AV->Option Nat
 | .ptr id _ | .Hc id _ _ | .uq id _ _ _ | .own id _ | .mp id=>some id
 |_=>none
theorem K.na{n:Nat}{R:Rd}{φ:Pl}{H H2:List ba}(hc:tz n H H2){x:AV}{u:Value}(hx:∀ id,x.E6=some id->id < n)(h:K R φ H x u):K R φ H2 x u:=by
 have box:∀ {id:Nat}{c:List AV},H2[id]? =some (.box c)->∃ c',H[id]? =some (.box c'):=by
  intro id c hb;obtain⟨_,o,ho,C7⟩:=hc.obj _ _ hb
  cases o with
  |box c'=>exact⟨c',ho⟩
  |seq=>simp only[qa] at C7;split at C7 <;> cases C7
  |tok=>cases C7
  |map es=>simp[qa] at C7
  |dead=>cases C7
 have seq:∀ {id:Nat}{sz:Nat}{ag:Bool}{c:List AV}{fl:Nat}{nl:Bool},H2[id]? =some (.seq sz ag c fl nl)->H[id]? =some (.seq sz ag c fl nl):=by
  intro id sz ag c fl nl hb;obtain⟨_,o,ho,C7⟩:=hc.obj _ _ hb
  cases o with
  |box c'=>simp[qa] at C7
  |seq=>
   simp only[qa] at C7
   split at C7
   ·injection C7 with C7;rw[ho,C7]
   ·cases C7
  |tok=>cases C7
  |map es=>simp[qa] at C7
  |dead=>cases C7
 have tok:∀ {id:Nat}{sz m:Nat}{nl:Bool},H2[id]? =some (.tok sz m nl)->H[id]? =some (.tok sz m nl):=by
  intro id sz m nl hb;obtain⟨_,o,ho,C7⟩:=hc.obj _ _ hb
  cases o with
  |box c'=>simp[qa] at C7
  |seq=>
   simp only[qa] at C7
   split at C7
   ·cases C7
   ·cases C7
  |tok=>injection C7 with C7;rw[ho,C7]
  |map es=>simp[qa] at C7
  |dead=>cases C7
 have map:∀ {id:Nat}{es:List (PV×PV)},H2[id]? =some (.map es)->∃ es',H[id]? =some (.map es'):=by
  intro id c hb;obtain⟨_,o,ho,C7⟩:=hc.obj _ _ hb
  cases o with
  |box c'=>simp[qa] at C7
  |seq=>simp only[qa] at C7;split at C7 <;> cases C7
  |tok=>cases C7
  |map es=>exact⟨es,ho⟩
  |dead=>cases C7
 cases x with
 |pv p=>exact h
 |ptr id off=>exact⟨hc.len _ (hx _ rfl) h.1,h.2.1,fun c hb=>by obtain⟨c',hb'⟩:=box hb;exact h.2.2 _ hb'⟩
 |Hc id m off=>exact⟨hc.len _ (hx _ rfl) h.1,h.2.1,fun sz ag c fl nl hb=>h.2.2 sz ag c fl nl (seq hb)⟩
 |uq id nl sz es=>exact⟨hc.len _ (hx _ rfl) h.1,h.2.1,h.2.2.1,fun sz' m nl' hb=>h.2.2.2 sz' m nl' (tok hb)⟩
 |own id len=>exact⟨hc.len _ (hx _ rfl) h.1,h.2.1,fun sz ag c fl nl hb=>h.2.2 sz ag c fl nl (seq hb)⟩
 |mp id=>exact⟨hc.len _ (hx _ rfl) h.1,h.2.1,fun es hb=>by obtain⟨c',hb'⟩:=map hb;exact h.2.2 _ hb'⟩
 |Ol ix cs=>exact h.elim
 |agg cs=>exact h.elim
 |mc cs=>exact h.elim
 |undef=>exact h.elim
theorem zR{n:Nat}{R:Rd}{φ:Pl}{H H2:List ba}(hc:tz n H H2):∀ (d:Nat){v v':AV}{u:Value},AV.cut n d v=some v'->Sc fo (K R φ H) v u->Sc fo (K R φ H2) v' u:=by
 have base:∀ {d:Nat}{v v':AV}{u:Value},(∀ ix cs,v≠ .Ol ix cs)->(∀ cs,v≠ .agg cs)->(∀ cs,v≠ .mc cs)->AV.cut n d v=some v'->Sc fo (K R φ H) v u->Sc fo (K R φ H2) v' u:=by
  intro d v v' u n1 n2 n3 h hv;cases v with
  |pv p=>simp only[AV.cut,caa] at h;subst h;exact .atom _ _ hv.Rb
  |ptr id off=>
   simp only[AV.cut] at h
   split at h
   ·rename_i E7;injection h with h;subst h;exact .atom _ _ (K.na hc (fun _ e=>by injection e with e;omega) hv.ZE)
   ·cases h
  |Hc id m off=>
   simp only[AV.cut] at h
   split at h
   ·rename_i E7;injection h with h;subst h
    cases hv with | atom _ _ hv=>exact .atom _ _ (K.na hc (fun _ e=>by injection e with e;omega) hv)
   ·cases h
  |uq id nl sz es=>
   simp only[AV.cut] at h
   split at h
   ·rename_i E7;injection h with h;subst h;exact .atom _ _ (K.na hc (fun _ e=>by injection e with e;omega) hv.Uw)
   ·injection h with h
    subst h;have h1:=hv.Uw
    cases nl with
    |true=>simp only[if_true];rw[(h1.2.1 rfl).1];exact .atom _ _ (show Ta R _ _ from .ga)
    |false=>exact .atom _ _ (show Ta R _ _ from h1.2.2.1 rfl)
  |own id len=>
   simp only[AV.cut] at h
   split at h
   ·rename_i E7;injection h with h;subst h;exact .atom _ _ (K.na hc (fun _ e=>by injection e with e;omega) hv.MB)
   ·cases h
  |mp id=>
   simp only[AV.cut] at h
   split at h
   ·rename_i E7;injection h with h;subst h
    cases hv with | atom _ _ hv=>exact .atom _ _ (K.na hc (fun _ e=>by injection e with e;omega) hv)
   ·cases h
  |undef=>simp only[AV.cut,caa] at h;subst h;exact .undef _
  |Ol ix cs=>exact absurd rfl (n1 ix cs)
  |agg cs=>exact absurd rfl (n2 cs)
  |mc cs=>exact absurd rfl (n3 cs)
 intro d
 induction d with
 |zero=>
  intro v v' u h hv;cases v with
  |Ol ix cs=>simp[AV.cut] at h
  |agg cs=>simp[AV.cut] at h
  |mc cs=>simp[AV.cut] at h
  |_=>exact base (by intros;simp) (by intros;simp) (by intros;simp) h hv
 |succ d ih=>
  have many:∀ {cs M9:List AV}{vs:List Value},pb fo (K R φ H) cs vs->Ra (AV.cut n d) cs=some M9->pb fo (K R φ H2) M9 vs:=by
   intro cs
   induction cs with
   |nil=>intro ps vs hl h;simp[Ra] at h;subst h;cases hl;exact .nil
   |cons c cs ihc=>
    intro ps vs hl h;simp only[Ra,laa,caa] at h;obtain⟨b,h1,bs,h2,rfl⟩:=h;cases hl with
    |cons _ _ v vs hc A9=>exact .cons _ _ _ _ (ih h1 hc) (ihc A9 h2)
  intro v v' u h hv;cases v with
  |Ol ix cs=>
   simp only[AV.cut,daa] at h;obtain⟨M9,h1,rfl⟩:=h;cases hv with
   |atom _ _ h=>exact h.elim
   |Ol _ _ vs hl=>exact .Ol _ _ _ (many hl h1)
  |agg cs=>
   simp only[AV.cut,daa] at h;obtain⟨M9,h1,rfl⟩:=h;cases hv with
   |atom _ _ h=>exact h.elim
   |agg _ vs hl=>exact .agg _ _ (many hl h1)
  |mc cs=>
   simp only[AV.cut,daa] at h;obtain⟨M9,h1,rfl⟩:=h;cases hv with
   |atom _ _ h=>exact h.elim
   |mc _ vs hl=>exact .mc _ _ (many hl h1)
  |_=>exact base (by intros;simp) (by intros;simp) (by intros;simp) h hv
theorem GO{n:Nat}{R:Rd}{φ:Pl}{H H2:List ba}(hc:tz n H H2){d:Nat}{cs M9:List AV}{vs:List Value}(hl:pb fo (K R φ H) cs vs)(h:Ra (AV.cut n d) cs=some M9):pb fo (K R φ H2) M9 vs:=by
 induction cs generalizing M9 vs with
 |nil=>simp[Ra] at h;subst h;cases hl;exact .nil
 |cons c cs ihc=>
  simp only[Ra,laa,caa] at h;obtain⟨b,h1,bs,h2,rfl⟩:=h;cases hl with
  |cons _ _ v vs hcc A9=>exact .cons _ _ _ _ (zR hc d h1 hcc) (ihc A9 h2)
theorem kN{n:Nat}:∀ (d:Nat){v:AV},AV.je n d v=true->AV.cut n d v=some v:=by
 intro d
 induction d with
 |zero=>intro v h;cases v <;> simp_all [AV.je,AV.cut]
 |succ d ih=>
  have many:∀ {cs:List AV},cs.all (AV.je n d)=true->Ra (AV.cut n d) cs=some cs:=by
   intro cs
   induction cs with
   |nil=>intro _;rfl
   |cons c cs ihc=>intro h;simp only[wac,baa] at h;simp[Ra,ih h.1,ihc h.2]
  intro v h;cases v with
  |Ol ix cs=>simp only[AV.je] at h;simp[AV.cut,many h]
  |agg cs=>simp only[AV.je] at h;simp[AV.cut,many h]
  |mc cs=>simp only[AV.je] at h;simp[AV.cut,many h]
  |_=>simp_all [AV.je,AV.cut]
theorem UJ{n d:Nat}{cs:List AV}(h:cs.all (AV.je n d)=true):Ra (AV.cut n d) cs=some cs:=by
 induction cs with
 |nil=>rfl
 |cons c cs ihc=>simp only[wac,baa] at h;simp[Ra,kN d h.1,ihc h.2]
theorem JZ{n d:Nat}{v v':AV}(h:AV.cut n d v=some v')(h1:v.one=true):v'.one=true:=by
 cases v with
 |uq id nl sz es=>
  simp only[AV.cut] at h
  split at h
  ·injection h with h;subst h;rfl
  ·injection h with h;subst h;cases nl <;> rfl
 |Ol ix cs=>
  cases d with
  |zero=>simp[AV.cut] at h
  |succ d=>simp only[AV.cut,daa] at h;obtain⟨_,_,rfl⟩:=h;rfl
 |agg=>simp[AV.one] at h1
 |mc=>simp[AV.one] at h1
 |undef=>simp[AV.one] at h1
 |pv p=>simp only[AV.cut,caa] at h;subst h;exact h1
 |_=>
  simp only[AV.cut] at h
  split at h
  ·injection h with h;subst h;exact h1
  ·cases h
theorem QV{n d:Nat}{cs M9:List AV}(h:Ra (AV.cut n d) cs=some M9)(h1:cs.all AV.one=true):M9.all AV.one=true:=by
 induction cs generalizing M9 with
 |nil=>simp[Ra] at h;subst h;rfl
 |cons c cs ihc=>simp only[Ra,laa,caa] at h;obtain⟨b,h2,bs,h3,rfl⟩:=h;simp only[wac,baa] at h1 ⊢;exact⟨JZ h2 h1.1,ihc h3 h1.2⟩
theorem vc.na{n:Nat}{w:World}{R:Rd}{φ:Pl}{H H2:List ba}(hc:tz n H H2)(hS:vc fo B0 w R φ H):vc fo B0 w R φ H2:=by
 have lv:∀ {i},live H2 i->live H i:=by
  intro i ⟨o2,ho2,hl⟩;obtain⟨_,o,ho,C7⟩:=hc.obj _ _ ho2
  refine⟨o,ho,?_⟩;cases o with
  |box c=>trivial
  |seq sz ag c fl nl=>
   simp only[qa] at C7
   split at C7
   ·injection C7 with C7;subst C7;exact hl
   ·cases C7
  |tok sz m nl=>injection C7 with C7;subst C7;exact hl
  |map es=>trivial
  |dead=>injection C7 with C7;subst C7;exact hl
 refine⟨hS.low,hS.sub,fun id o2 ho2=> ?_,fun i j hi hj=>hS.inj i j (lv hi) (lv hj),hS.cq,hS.slt,fun i hi=>hS.free i (lv hi)⟩;obtain⟨_,o,ho,C7⟩:=hc.obj _ _ ho2
 have hO:=hS.obj _ _ ho
 cases o with
 |box c=>simp only[qa,daa] at C7;obtain⟨c',h1,rfl⟩:=C7;obtain⟨h2,h3,h4,arr,h5,h6⟩:=hO;exact⟨h2,h3,QV h1 h4,arr,h5,GO hc h6 h1⟩
 |seq sz ag c fl nl=>
  simp only[qa] at C7
  split at C7
  ·rename_i hk
   injection C7 with C7;subst C7
   obtain⟨h1,h2,h3,h4,h5⟩:=hO;refine⟨h1,h2,h3,h4,fun e=> ?_⟩;obtain⟨k1,k2,arr,k3,k4,k5,k6⟩:=h5 e;exact⟨k1,k2,arr,k3,k4,k5,GO hc k6 (UJ hk)⟩
  ·cases C7
 |tok sz m nl=>injection C7 with C7;subst C7;exact hO
 |map es=>injection C7 with C7;subst C7;exact hO
 |dead=>injection C7 with C7;subst C7;trivial
theorem wQ{n:Nat}{R:Rd}{φ:Pl}{H H2:List ba}(hc:tz n H H2){e e':Tr}{a:Act}(hE:ij fo (K R φ H) e a):∀ {l:List Nat},Ca n e l=some e'->ij fo (K R φ H2) e' a:=by
 intro l
 induction l generalizing e' with
 |nil=>intro h;simp only[Ca,caa] at h;subst h;intro t;exact .undef _
 |cons x l ih=>
  intro h;simp only[Ca,laa,daa] at h;obtain⟨v,h1,e1,h2,rfl⟩:=h;intro t;rw[Tr.aa]
  split
  ·rename_i ht;subst ht;exact zR hc deep h1 (hE t)
  ·exact ih h2 t
theorem AF{w0 w:World}{R0 R:Rd}{φ0 φ:Pl}{H0:List ba}{a0 a:Act}{s s2:St}{l:List Nat}(g:Gn fo B0 w0 R0 φ0 H0 a0 w R φ s a)(h:na H0.length l s=some s2):Gn fo B0 w0 R0 φ0 H0 a0 w R φ s2 a:=by
 simp only[na,laa,daa] at h;obtain⟨e,h1,H2,h2,rfl⟩:=h;have hc:=TP h2;refine⟨g.rel.na hc,wQ hc g.env h1,fun x u hx=>K.na hc (fun id H7=> ?_) (g.mono x u hx),g.below,g.size,g.defers⟩;cases x with
 |ptr=>injection H7 with H7;subst H7;exact hx.1
 |Hc=>injection H7 with H7;subst H7;exact hx.1
 |uq=>injection H7 with H7;subst H7;exact hx.1
 |own=>injection H7 with H7;subst H7;exact hx.1
 |mp=>injection H7 with H7;subst H7;exact hx.1
 |_=>cases H7
end
section
variable {P:Program}{fo:Nat->FuncId}{B0:vg}
theorem ZB{k:AV->Value->Prop}{e:Tr}{a:Act}(h:ij fo k e a){t:Nat}{v:AV}(hv:Sc fo k v (a.tmps.getD t undef)):ij fo k (e.set t v) a:=by
 intro j;rw[Tr.aa]
 split
 ·rename_i e;subst e;exact hv
 ·exact h j
theorem push_empty{w:World}{R:Rd}{φ:Pl}{H:List ba}(hS:vc fo B0 w R φ H){o:ba}(hl:¬Dq o)(hO:∀ φ' H',JC fo B0 w R φ' H' H.length o):vc fo B0 w R (Zm φ H.length (0,0)) (H++[o]):=
 hS.push (paa _) (fun _ _=>rfl) (fun _ _ _=>rfl) hS.sub (fun a v=>K.push o (0,0) a v) (fun h=>absurd h hl) (hO _ _)
theorem OX{w:World}{R:Rd}{φ:Pl}{H:List ba}{sz:Nat}:K R φ (H++[.tok sz 0 true]) (.uq H.length true sz []) (.slice none 0 0):=by
 refine⟨by simp,fun _=>⟨rfl,rfl⟩,(fun e=>by cases e),fun sz' n nl' h=> ?_⟩;simp at h;obtain⟨rfl,rfl,rfl⟩:=h;exact⟨by simp,fun _=>⟨rfl,rfl,fun e=>by cases e⟩⟩
theorem eS{w:World}{R:Rd}{φ:Pl}{H:List ba}{sz:Nat}{ag:Bool}:K R φ (H++[.seq sz ag [] 0 true]) (.own H.length 0) (.slice none 0 0):=by
 refine⟨by simp,rfl,fun sz' ag' c fl nl h=> ?_⟩;simp at h;obtain⟨rfl,rfl,rfl,rfl,rfl⟩:=h;exact⟨by simp,fun _=>⟨fun _=>rfl,fun e=>by cases e⟩⟩
theorem HR{w:World}{R:Rd}{φ:Pl}{H:List ba}(hS:vc fo B0 w R φ H){id:Nat}{cells:List AV}(H7:H[id]? =some (.box cells)){i:Nat}(hi:cells[i]? =some (.pv .ga)){x:AV}(hx:K R φ H x (.slice none 0 0))(h1:x.one=true):
 vc fo B0 w R (Zm φ id (φ id)) (H.set id (.box (cells.set i x)))/\∀ a u,K R φ H a u->K R (Zm φ id (φ id)) (H.set id (.box (cells.set i x))) a u:=by
 have hk:=fun a v=>K.pS (R:=R) (φ:=φ) (H:=H) (c':=cells.set i x) H7 a v
 refine⟨hS.Zm H7 (paa _) (fun _ _ _=>rfl) (fun _ _ _ _=>rfl) hS.sub hk (fun _=> .inl ⟨trivial,rfl⟩) ?_,hk⟩;obtain⟨o1,o2,o3,arr,o4,o5⟩:=hS.obj _ _ H7
 refine⟨by rw[Gb];exact o1,by rw[Gb];exact o2,?_,arr,by rw[Gb];exact o4,?_⟩
 ·rw[Taa] at o3 ⊢
  intro y hy;rcases Aab hy with hy | rfl
  ·exact o3 y hy
  ·exact h1
 ·obtain⟨u,hu,hr⟩:=o5.get hi
  have hr:=hr.Rb
  cases hr;have:arr.toList=arr.toList.set i (.slice none 0 0):=by
   apply Iab;intro j
   by_cases e:i=j
   ·subst e
    rw[Maa (getElem?_lt hu)];exact hu
   ·rw[Gaa e]
  rw[this];exact (o5.mono hk).set i (.atom _ _ (hk _ _ hx))
theorem aU{g:SR}{w:World}{R:Rd}{φ:Pl}{s s':St}{a:Act}(hS:vc fo B0 w R φ s.H)(hE:ij fo (K R φ s.H) s.env a)(h:fe g s=some s'):∃ R' φ',Gn fo B0 w R φ s.H a w R' φ' s' a:=by
 obtain⟨e,H⟩:=s;cases g with
 |MA t sz=>
  simp only[fe] at h
  split at h
  ·rename_i ht
   split at h
   ·rename_i h0
    injection h with h;subst h
    have hk:=fun a v=>K.push (R:=R) (φ:=φ) (H:=H) (.tok sz 0 true) (0,0) a v
    have hv:=hE t;simp only[ht] at hv;have hv:=hv.Rb
    refine⟨R,_,push_empty hS (by simp[Dq]) (fun φ' H'=>⟨h0,fun _=>rfl,fun e=>by cases e⟩),ZB (hE.mono hk) ?_,hk,oh.refl _ _,rfl,.same rfl⟩;generalize a.tmps.getD t undef=v at hv
    cases hv;exact .atom _ _ (OX (w:=w))
   ·cases h
  ·cases h
 |JI t sz ag=>
  simp only[fe] at h
  split at h
  ·rename_i ht
   split at h
   ·rename_i h0
    injection h with h;subst h
    have hk:=fun a v=>K.push (R:=R) (φ:=φ) (H:=H) (.seq sz ag [] 0 true) (0,0) a v
    have hv:=hE t;simp only[ht] at hv;have hv:=hv.Rb
    refine⟨R,_,push_empty hS (by simp[Dq]) (fun φ' H'=>⟨h0,paa _,fun _=>rfl,rfl,fun e=>by cases e⟩),ZB (hE.mono hk) ?_,hk,oh.refl _ _,rfl,.same rfl⟩;generalize a.tmps.getD t undef=v at hv
    cases hv;exact .atom _ _ (eS (w:=w))
   ·cases h
  ·cases h
 |Ny t off sz=>
  simp only[fe] at h
  split at h
  ·rename_i id o ht
   split at h
   ·rename_i cells H7
    split at h
    ·rename_i hc
     split at h
     ·rename_i h0
      injection h with h;subst h
      have E7:=getElem?_lt H7;have hk:=fun a v=>K.push (R:=R) (φ:=φ) (H:=H) (.tok sz 0 true) (0,0) a v
      have K8:=push_empty hS (o:= .tok sz 0 true) (by simp[Dq]) (fun φ' H'=>⟨h0,fun _=>rfl,fun e=>by cases e⟩);obtain⟨hS2,H8⟩:=HR K8 (by rw[getElem?_push E7];exact H7) hc (OX (w:=w)) rfl;have e:H.set id (.box (cells.set (o+off) (.uq H.length true sz [])))++[ba.tok sz 0 true]=(H++[ba.tok sz 0 true]).set id (.box (cells.set (o+off) (.uq H.length true sz []))):=by rw[Cac _ _ E7]
      simp only[e];exact⟨R,_,hS2,hE.mono fun a v h=>H8 a v (hk a v h),fun x u h=>H8 x u (hk x u h),oh.refl _ _,rfl,.same rfl⟩
     ·cases h
    ·cases h
   ·cases h
  ·cases h
 |TK t off sz ag=>
  simp only[fe] at h
  split at h
  ·rename_i id o ht
   split at h
   ·rename_i cells H7
    split at h
    ·rename_i hc
     split at h
     ·rename_i h0
      injection h with h;subst h
      have E7:=getElem?_lt H7;have hk:=fun a v=>K.push (R:=R) (φ:=φ) (H:=H) (.seq sz ag [] 0 true) (0,0) a v
      have K8:=push_empty hS (o:= .seq sz ag [] 0 true) (by simp[Dq]) (fun φ' H'=>⟨h0,paa _,fun _=>rfl,rfl,fun e=>by cases e⟩);obtain⟨hS2,H8⟩:=HR K8 (by rw[getElem?_push E7];exact H7) hc (eS (w:=w)) rfl;have e:H.set id (.box (cells.set (o+off) (.own H.length 0)))++[ba.seq sz ag [] 0 true]=(H++[ba.seq sz ag [] 0 true]).set id (.box (cells.set (o+off) (.own H.length 0))):=by rw[Cac _ _ E7]
      simp only[e];exact⟨R,_,hS2,hE.mono fun a v h=>H8 a v (hk a v h),fun x u h=>H8 x u (hk x u h),oh.refl _ _,rfl,.same rfl⟩
     ·cases h
    ·cases h
   ·cases h
  ·cases h
 |freeze t=>
  simp only[fe] at h
  split at h
  ·rename_i id len ht
   split at h
   ·rename_i sz ag cells fl nl H7
    split at h
    ·rename_i hc
     obtain⟨hlen,oW⟩:=hc;have Qaf:=H7;have hv:=hE t;simp only[ht] at hv;have h1:=hv.MB
     obtain⟨k0,k⟩:=h1.2.2 _ _ _ _ _ H7
     obtain⟨o0,o1,o2,zaa,o3⟩:=hS.obj _ _ H7
     obtain⟨k1,k2⟩:=k (by omega);have hkd:∀ (R':Rd)(p:Nat×Nat),Sub R R'->∀ a v,K R φ H a v->K R' (Zm φ id p) (H.set id .dead) a v:=by
      intro R' p hs a v hk;have hk:=K.sub hs a v hk
      have hl:(H.set id .dead).length=H.length:=by simp
      have inv:∀ {i:Nat}{x:ba},(H.set id .dead)[i]? =some x->x≠ .dead->i≠id/\H[i]? =some x:=by
       intro i x hx hd
       by_cases e:i=id
       ·subst e;rw[Maa (getElem?_lt H7)] at hx;injection hx with hx;exact absurd hx.symm hd
       ·rw[Gaa (lac e)] at hx;exact⟨e,hx⟩
      cases a with
      |pv p=>exact hk
      |ptr i off=>exact⟨by rw[hl];exact hk.1,hk.2.1,fun c hc=>by obtain⟨q1,q2⟩:=inv hc (by simp);rw[De _ _ q1];exact hk.2.2 c q2⟩
      |Hc i n off=>exact⟨by rw[hl];exact hk.1,hk.2.1,fun sz ag c fl nl hc=>by obtain⟨q1,q2⟩:=inv hc (by simp);rw[De _ _ q1];exact hk.2.2 _ _ _ _ _ q2⟩
      |uq i nl sz es=>exact⟨by rw[hl];exact hk.1,hk.2.1,hk.2.2.1,fun sz n nl hc=>by obtain⟨q1,q2⟩:=inv hc (by simp);rw[De _ _ q1];exact hk.2.2.2 _ _ _ q2⟩
      |own i n=>exact⟨by rw[hl];exact hk.1,hk.2.1,fun sz ag c fl nl hc=>by obtain⟨q1,q2⟩:=inv hc (by simp);rw[De _ _ q1];exact hk.2.2 _ _ _ _ _ q2⟩
      |mp i=>exact⟨by rw[hl];exact hk.1,hk.2.1,fun es hc=>by obtain⟨q1,q2⟩:=inv hc (by simp);rw[De _ _ q1];exact hk.2.2 _ q2⟩
      |Ol=>exact hk.elim
      |agg=>exact hk.elim
      |mc=>exact hk.elim
      |undef=>exact hk.elim
     cases nl with
     |true=>simp only[if_true,caa] at h;subst h;have hk:=hkd R (φ id) (Sub.refl R);refine⟨R,Zm φ id (φ id),hS.Zm H7 (paa _) (fun _ _ _=>rfl) (fun _ _ _ _=>rfl) hS.sub hk (fun h=>h.elim) trivial,ZB (hE.mono hk) ?_,hk,oh.refl _ _,rfl,.same rfl⟩;rw[k1 rfl];exact .atom _ _ (show Ta R _ _ from .ga)
     |false=>
      simp only[saa,if_false,daa] at h;obtain⟨ps,hps,rfl⟩:=h;obtain⟨b0,Wae,arr,hB,L7,hle,e8⟩:=o3 rfl;have V7:Sub R (fun b o=>if b=(φ id).1 then w.cell? ⟨b,o,none⟩ else R b o):=by
       intro b o v h;dsimp only
       split
       ·exact hS.sub b o v h
       ·exact h
      have hk:=hkd _ (φ id) V7;refine⟨_,Zm φ id (φ id),hS.Zm (R':=fun b o=>if b=(φ id).1 then w.cell? ⟨b,o,none⟩ else R b o) H7 (paa _) (fun _ _ _=>rfl) (fun b j _ J7=>kaa (J7 rfl)) (fun b o v h=> ?_) hk (fun h=>h.elim) trivial,ZB (hE.mono hk) ?_,hk,oh.refl _ _,rfl,.same rfl⟩
      ·split at h
       ·exact h
       ·exact hS.sub b o v h
      ·rcases k2 rfl with⟨q1,q2,_⟩ | ⟨b,o,cap,q1,q2,_⟩
       ·subst q1;exact absurd (qaa (by omega)) q2
       ·rw[q1]
        obtain⟨rfl,rfl,rfl⟩:=q2 hlen;have hl:=Uk hps e8;have pac:=Qf hps;have S7:∀ p∈ps,WH p=true:=by intro p hp;rw[pac] at zaa;exact Taa.1 zaa _ (List.mem_map_of_mem hp)
        have rad:ps.length=len * sz:=by rw[hlen,pac];simp
        obtain⟨c1,c2,c3⟩:=cw sz ag (fun e=>by subst e;simpa using oW) len ps rad S7;refine .atom _ _ (show Ta _ _ _ from ?_)
        have:=Ta.lit (R:=fun b o=>if b=(φ id).1 then w.cell? ⟨b,o,none⟩ else R b o) sz (chunk sz ag len ps) (φ id).1 0 (φ id).2 (by
         rw[c3];have:len * sz<=(φ id).2 * sz:=by rw[<- L7];omega
         exact Rac this o0) c2 (by
         rw[c1];refine Qg.Po (hl.mono V7) (Np e8 zaa) fun i v hv=> ?_
         have E7:=getElem?_lt hv;rw[Gab] at hv
         split at hv
         ·rw[if_pos rfl,hB.cell,Zaa];simpa using hv
         ·cases hv)
        rw[c3] at this;exact this
    ·cases h
   ·cases h
  ·rename_i id o ht
   split at h
   ·rename_i cells H7
    have Qaf:=H7;have hv:=hE t;simp only[ht] at hv;have h1:=hv.ZE
    have k:=h1.2.2 _ H7
    obtain⟨o0,o1,zaa,arr,hB,e8⟩:=hS.obj _ _ H7
    have hkd:∀ (R':Rd)(p:Nat×Nat),Sub R R'->∀ a v,K R φ H a v->K R' (Zm φ id p) (H.set id .dead) a v:=by
     intro R' p hs a v hk;have hk:=K.sub hs a v hk
     have hl:(H.set id .dead).length=H.length:=by simp
     have inv:∀ {i:Nat}{x:ba},(H.set id .dead)[i]? =some x->x≠ .dead->i≠id/\H[i]? =some x:=by
      intro i x hx hd
      by_cases e:i=id
      ·subst e;rw[Maa (getElem?_lt H7)] at hx;injection hx with hx;exact absurd hx.symm hd
      ·rw[Gaa (lac e)] at hx;exact⟨e,hx⟩
     cases a with
     |pv p=>exact hk
     |ptr i off=>exact⟨by rw[hl];exact hk.1,hk.2.1,fun c hc=>by obtain⟨q1,q2⟩:=inv hc (by simp);rw[De _ _ q1];exact hk.2.2 c q2⟩
     |Hc i n off=>exact⟨by rw[hl];exact hk.1,hk.2.1,fun sz ag c fl nl hc=>by obtain⟨q1,q2⟩:=inv hc (by simp);rw[De _ _ q1];exact hk.2.2 _ _ _ _ _ q2⟩
     |uq i nl sz es=>exact⟨by rw[hl];exact hk.1,hk.2.1,hk.2.2.1,fun sz n nl hc=>by obtain⟨q1,q2⟩:=inv hc (by simp);rw[De _ _ q1];exact hk.2.2.2 _ _ _ q2⟩
     |own i n=>exact⟨by rw[hl];exact hk.1,hk.2.1,fun sz ag c fl nl hc=>by obtain⟨q1,q2⟩:=inv hc (by simp);rw[De _ _ q1];exact hk.2.2 _ _ _ _ _ q2⟩
     |mp i=>exact⟨by rw[hl];exact hk.1,hk.2.1,fun es hc=>by obtain⟨q1,q2⟩:=inv hc (by simp);rw[De _ _ q1];exact hk.2.2 _ q2⟩
     |Ol=>exact hk.elim
     |agg=>exact hk.elim
     |mc=>exact hk.elim
     |undef=>exact hk.elim
    simp only[daa] at h;obtain⟨ps,hps,rfl⟩:=h;have V7:Sub R (fun b o=>if b=(φ id).1 then w.cell? ⟨b,o,none⟩ else R b o):=by
     intro b o v h;dsimp only
     split
     ·exact hS.sub b o v h
     ·exact h
    have hk:=hkd _ (φ id) V7;refine⟨_,Zm φ id (φ id),hS.Zm (R':=fun b o=>if b=(φ id).1 then w.cell? ⟨b,o,none⟩ else R b o) H7 (paa _) (fun _ _ _=>rfl) (fun b j _ J7=>kaa (J7 trivial)) (fun b o v h=> ?_) hk (fun h=>h.elim) trivial,ZB (hE.mono hk) ?_,hk,oh.refl _ _,rfl,.same rfl⟩
    ·split at h
     ·exact h
     ·exact hS.sub b o v h
    ·rw[k]
     have hl:=Uk hps e8;refine .atom _ _ (show Ta _ _ _ from ?_)
     have:=Ta.rp (R:=fun b o=>if b=(φ id).1 then w.cell? ⟨b,o,none⟩ else R b o) ps o (φ id).1 0 (Qg.Po (hl.mono V7) (Np e8 zaa) fun i v hv=>by rw[if_pos rfl,hB.cell,Zaa];simpa using hv)
     rw[Zaa] at this;exact this
   ·cases h
  ·cases h
end
end Go.AM
