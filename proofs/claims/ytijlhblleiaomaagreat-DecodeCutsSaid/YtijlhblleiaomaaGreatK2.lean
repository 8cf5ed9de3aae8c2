/- The abstract machine: equality, maps, steps that may change places, cleaning. -/
import Derived.Test.YtijlhblleiaomaaGreatK1
import Derived.DeepKeys3
import Derived.OrdersIn
import Derived.LoopNIn
import Derived.RangeFuncRecord
import Derived.RangeFuncSeq
set_option linter.unusedSimpArgs false
set_option linter.unusedVariables false
namespace Go.AM
open Go.RowKit
def bu:Nat->Value->Value->Option Bool
 |0,.bool a,.bool b=>some (a==b)
 |1,.int k a,.int k' b=>if k=k' then some (a==b) else none
 |2,.string a,.string b=>some (a==b)
 |_,_,_=>none
def Mh:List Nat->List Value->List Value->Option Bool
 | [],[],[]=>some true
 |k::ks,x::xs,y::ys=>(bu k x y).bind fun b=>(Mh ks xs ys).map fun c=>b&&c
 |_,_,_=>none
theorem gG{k:Nat}{p q:PV}{b:Bool}(h:Us k p q=some b):
 (k=0/\∃ c d,p= .bool c/\q= .bool d/\b=(c==d))\/(k=1/\∃ i c d,p= .int i c/\q= .int i d/\b=(c==d))\/(k=2/\∃ c d,p= .str c/\q= .str d/\b=(c==d)):=by
 unfold Us at h
 split at h
 ·injection h with h;exact .inl ⟨rfl,_,_,rfl,rfl,h.symm⟩
 ·split at h
  ·rename_i hk;subst hk;injection h with h;exact .inr (.inl ⟨rfl,_,_,_,rfl,rfl,h.symm⟩)
  ·cases h
 ·injection h with h;exact .inr (.inr ⟨rfl,_,_,rfl,rfl,h.symm⟩)
 ·cases h
theorem Ul{k:Nat}{p q:Value}{b:Bool}(h:bu k p q=some b):
 (k=0/\∃ c d,p= .bool c/\q= .bool d/\b=(c==d))\/(k=1/\∃ i c d,p= .int i c/\q= .int i d/\b=(c==d))\/(k=2/\∃ c d,p= .string c/\q= .string d/\b=(c==d)):=by
 unfold bu at h
 split at h
 ·injection h with h;exact .inl ⟨rfl,_,_,rfl,rfl,h.symm⟩
 ·split at h
  ·rename_i hk;subst hk;injection h with h;exact .inr (.inl ⟨rfl,_,_,_,rfl,rfl,h.symm⟩)
  ·cases h
 ·injection h with h;exact .inr (.inr ⟨rfl,_,_,rfl,rfl,h.symm⟩)
 ·cases h
theorem Yu{R:Rd}{k:Nat}{p q:PV}{v u:Value}(hp:Ta R p v)(hq:Ta R q u){b:Bool}(h:Us k p q=some b):bu k v u=some b:=by
 rcases gG h with⟨rfl,c,d,rfl,rfl,rfl⟩ | ⟨rfl,i,c,d,rfl,rfl,rfl⟩ | ⟨rfl,c,d,rfl,rfl,rfl⟩ <;> cases hp <;> cases hq <;> simp[bu]
theorem XB{R:Rd}:∀ {ks:List Nat}{ps qs:List PV}{vs us:List Value}{b:Bool},Ve R ps vs->Ve R qs us->cj ks ps qs=some b->Mh ks vs us=some b
 | [],[],[],_,_,_,.nil,.nil,h=>h
 |k::ks,p::ps,q::qs,_,_,b,.cons _ _ v vs h1 h2,.cons _ _ u us g1 g2,h=>by simp only[cj,uaa,faa] at h;obtain⟨x,e1,y,e2,rfl⟩:=h;simp only[Mh,Yu h1 g1 e1,XB h2 g2 e2,Daa,Kaa]
 | [],[],_::_,_,_,_,_,_,h=>by simp[cj] at h
 | [],_::_,_,_,_,_,_,_,h=>by simp[cj] at h
 |_::_,[],_,_,_,_,_,_,h=>by simp[cj] at h
 |_::_,_::_,[],_,_,_,_,_,h=>by simp[cj] at h
theorem Oo:∀ {ks ks':List Nat}{xs ys xs' ys':List Value}{b:Bool},ks.length=xs.length->xs.length=ys.length->Mh (ks++ks') (xs++xs') (ys++ys')=some b->∃ c d,Mh ks xs ys=some c/\Mh ks' xs' ys'=some d/\b=(c&&d)
 | [],_,[],[],_,_,b,_,_,h=>⟨true,b,rfl,h,by simp⟩
 |k::ks,_,x::xs,y::ys,xs',ys',b,hk,hl,h=>by simp only[fab,Mh,uaa,faa] at h;obtain⟨e,h1,f,h2,rfl⟩:=h;obtain⟨c,d,h3,h4,rfl⟩:=Oo (by simpa using hk) (by simpa using hl) h2;exact⟨e&&c,d,by simp[Mh,h1,h3],h4,by simp[Bool.and_assoc]⟩
 | [],_,_::_,_,_,_,_,hk,_,_=>by simp at hk
 |_::_,_,[],_,_,_,_,hk,_,_=>by simp at hk
 |_,_,[],_::_,_,_,_,_,hl,_=>by simp at hl
 |_,_,_::_,[],_,_,_,_,hl,_=>by simp at hl
def valOf(P:Program)(t:TypeId)(cs:List Value):Value:=if Hm P t=some true then .agg ⟨cs⟩ else cs.headD undef
def YB(P:Program):Nat->List Field->Option Nat
 |o,[]=>some o
 |o,f::r=>if f.offset=o then YB P (o+P.cellsOf f.type) r else none
def Tw(g:TypeId->Option (List Nat)):List Field->Option (List Nat)
 | []=>some []
 |f::r=>if f.name != "_" then (g f.type).bind fun a=>(Tw g r).map (a++ ·) else none
def QL:Nat->List Nat->List Nat
 |0,_=>[]
 |n+1,ks=>ks++QL n ks
def qi(P:Program):Nat->TypeId->Option (List Nat)
 |0,_=>none
 |m+1,t=>
  match P.underlying t with
  |some .bool=>if P.cellsOf t=1 then some [0] else none
  |some (.int _)=>if P.cellsOf t=1 then some [1] else none
  |some .string=>if P.cellsOf t=1 then some [2] else none
  |some (.struct fs)=>if YB P 0 fs.toList=some (P.cellsOf t)/\P.stoodInHeld t=false then Tw (qi P m) fs.toList else none
  |some (.array n e)=>if P.cellsOf t=n * P.cellsOf e then (qi P m e).map (QL n) else none
  |_=>none
section
variable {P:Program}
theorem dF{m:Nat}{t:TypeId}{ks:List Nat}(h:qi P m t=some ks):∃ i,P.info? t=some i:=by
 cases m with
 |zero=>simp[qi] at h
 |succ m=>
  unfold qi at h;cases hu:P.underlying t with
  |none=>simp[hu] at h
  |some d=>exact info_of_underlying hu
theorem IA{m:Nat}{t:TypeId}{ks:List Nat}(h:qi P m t=some ks):Ud P t=some (P.cellsOf t):=by
 obtain⟨i,hi⟩:=dF h;simp[Ud,Program.cellsOf,hi]
theorem Nw{g:TypeId->Option (List Nat)}(hg:∀ t ks,g t=some ks->ks.length=P.cellsOf t):∀ {fs:List Field}{o n:Nat}{ks:List Nat},Tw g fs=some ks->YB P o fs=some n->o+ks.length=n
 | [],o,n,ks,h,hl=>by simp only[Tw,eaa] at h;subst h;simp only[YB,eaa] at hl;simpa using hl
 |f::fs,o,n,ks,h,hl=>by
  simp only[Tw] at h
  split at h
  ·simp only[uaa,faa] at h
   obtain⟨a,h1,b,h2,rfl⟩:=h;simp only[YB] at hl
   split at hl
   ·have:=Nw hg h2 hl
    have:=hg _ _ h1;simp;omega
   ·cases hl
  ·cases h
theorem OW(n:Nat)(ks:List Nat):(QL n ks).length=n * ks.length:=by
 induction n with
 |zero=>simp[QL]
 |succ n ih=>simp[QL,ih,vae];omega
theorem Ci:∀ {m:Nat}{t:TypeId}{ks:List Nat},qi P m t=some ks->ks.length=P.cellsOf t
 |0,_,_,h=>by simp[qi] at h
 |m+1,t,ks,h=>by
  unfold qi at h
  split at h
  ·split at h
   ·rename_i e;injection h with h;subst h;simp[e]
   ·cases h
  ·split at h
   ·rename_i e;injection h with h;subst h;simp[e]
   ·cases h
  ·split at h
   ·rename_i e;injection h with h;subst h;simp[e]
   ·cases h
  ·split at h
   ·rename_i e
    have:=Nw (P:=P) (fun t ks h=>Ci (m:=m) h) h e.1
    omega
   ·cases h
  ·split at h
   ·rename_i e
    simp only[faa] at h;obtain⟨a,h1,rfl⟩:=h;rw[OW,Ci h1,e]
   ·cases h
  ·cases h
theorem uz{m:Nat}{t:TypeId}{ks:List Nat}(h:qi P m t=some ks):(Hm P t=some true)\/(Hm P t=some false/\P.cellsOf t=1/\
 ((P.underlying t=some .bool/\ks=[0])\/((∃ k,P.underlying t=some (.int k))/\ks=[1])\/(P.underlying t=some .string/\ks=[2]))):=by
 cases m with
 |zero=>simp[qi] at h
 |succ m=>
  unfold qi at h;unfold Hm
  split at h
  ·rename_i hu
   split at h
   ·rename_i e;injection h with h;exact .inr ⟨by simp[hu],e,.inl ⟨hu,h.symm⟩⟩
   ·cases h
  ·rename_i k hu
   split at h
   ·rename_i e;injection h with h;exact .inr ⟨by simp[hu],e,.inr (.inl ⟨⟨k,hu⟩,h.symm⟩)⟩
   ·cases h
  ·rename_i hu
   split at h
   ·rename_i e;injection h with h;exact .inr ⟨by simp[hu],e,.inr (.inr ⟨hu,h.symm⟩)⟩
   ·cases h
  ·rename_i hu;exact .inl (by simp[hu])
  ·rename_i hu;exact .inl (by simp[hu])
  ·cases h
variable {w:World}
theorem Fu{m:Nat}{e:TypeId}{ks:List Nat}(he:qi P m e=some ks){xs:List Value}{off:Nat}(hl:off+P.cellsOf e<=xs.length):
 (part e ⟨xs⟩ off).run P w= .ok (valOf P e ((xs.drop off).take (P.cellsOf e))) w:=by
 rcases uz he with ha | ⟨ha,h1,_⟩
 ·rw[Iu (n:=P.cellsOf e) ha (fun _=>IA he) (fun hb=>by cases hb)]
  congr 1
  unfold valOf;simp only[if_true,ha]
  congr 1
  apply Qac;simp[List.extract_eq_take_drop]
 ·rw[Iu (n:=P.cellsOf e) ha (fun _=>IA he) (fun _=>⟨xs[off]'(by omega),by simp[show off < xs.length by omega]⟩)]
  congr 1
  unfold valOf;simp only[ha,Baa,if_false,eaa];rw[h1];have hlt:off < xs.length:=by omega
  rw[List.take_one,List.head?_drop];simp[qab,hlt]
def G6(P:Program)(dd:Nat)(e:TypeId)(ks:List Nat):Prop:=
 ∀ (w:World)(xs ys:List Value)(b:Bool),xs.length=P.cellsOf e->ys.length=P.cellsOf e->Mh ks xs ys=some b->(Op.equalIn dd e (valOf P e xs) (valOf P e ys)).run P w= .ok b w
theorem fE(dd m:Nat)(xs ys:List Value)(hE:∀ t ks,qi P m t=some ks->G6 P dd t ks):∀ (fs:List Field)(ks:List Nat)(o n:Nat)(b:Bool),Tw (qi P m) fs=some ks->YB P o fs=some n->n=xs.length->n=ys.length->
 Mh ks (xs.drop o) (ys.drop o)=some b->(Op.eqFields dd ⟨xs⟩ ⟨ys⟩ fs).run P w= .ok b w
 | [],ks,o,n,b,hk,hl,h1,h2,h=>by simp only[Tw,eaa] at hk;subst hk;simp only[YB,eaa] at hl;subst hl;rw[dac (by omega),dac (by omega)] at h;simp only[Mh,eaa] at h;subst h;simp[Op.eqFields]
 |f::fs,ks,o,n,b,hk,hl,h1,h2,h=>by
  simp only[Tw] at hk
  split at hk
  ·rename_i hn
   simp only[bne_iff_ne,ne_eq] at hn;simp only[uaa,faa] at hk;obtain⟨k1,e1,k2,e2,rfl⟩:=hk;simp only[YB] at hl
   split at hl
   ·rename_i ho
    subst ho;have hle:=Nw (P:=P) (fun t ks h=>Ci (m:=m) h) e2 hl;have hlen:=Ci e1;have px:=Fu (w:=w) e1 (xs:=xs) (off:=f.offset) (by omega);have py:=Fu (w:=w) e1 (xs:=ys) (off:=f.offset) (by omega);rw[<- jac (P.cellsOf f.type) (xs.drop f.offset),<-jac (P.cellsOf f.type) (ys.drop f.offset)] at h;obtain⟨c,d,h3,h4,rfl⟩:=Oo (by simp;omega) (by simp;omega) h;rw[List.drop_drop,List.drop_drop] at h4;have he:=hE _ _ e1 w _ _ c (by simp;omega) (by simp;omega) h3;have ih:=fE dd m xs ys hE fs k2 (f.offset+P.cellsOf f.type) n d e2 hl h1 h2 h4;simp only[Op.eqFields,hn,ne_eq,not_false_eq_true,if_true,Sem.run_bind,px,py,he,Result.andThen_ok];cases c
    ·simp
    ·simpa using ih
   ·cases hl
  ·cases hk
theorem RF(dd m:Nat){e:TypeId}{ks:List Nat}(he:qi P m e=some ks)(hE:G6 P dd e ks)(xs ys:List Value):∀ (k i:Nat)(b:Bool),xs.length=(i+k) * P.cellsOf e->ys.length=(i+k) * P.cellsOf e->
 Mh (QL k ks) (xs.drop (i * P.cellsOf e)) (ys.drop (i * P.cellsOf e))=some b->(Op.eqItems dd e (P.cellsOf e) ⟨xs⟩ ⟨ys⟩ (List.range' i k)).run P w= .ok b w
 |0,i,b,h1,h2,h=>by rw[dac (by simp at h1;omega),dac (by simp at h2;omega)] at h;simp only[QL,Mh,eaa] at h;subst h;simp[Op.eqItems]
 |k+1,i,b,h1,h2,h=>by
  have hlen:=Ci he;have hx:i * P.cellsOf e+P.cellsOf e<=xs.length:=by rw[h1,<-vae];exact wac _ (by omega)
  have hy:i * P.cellsOf e+P.cellsOf e<=ys.length:=by rw[h2,<-vae];exact wac _ (by omega)
  have px:=Fu (w:=w) he (xs:=xs) (off:=i * P.cellsOf e) hx;have py:=Fu (w:=w) he (xs:=ys) (off:=i * P.cellsOf e) hy;rw[<- jac (P.cellsOf e) (xs.drop _),<-jac (P.cellsOf e) (ys.drop _)] at h;obtain⟨c,d,h3,h4,rfl⟩:=Oo (by simp;omega) (by simp;omega) h;rw[List.drop_drop,List.drop_drop,<-vae] at h4;have hq:=hE w _ _ c (by simp;omega) (by simp;omega) h3;have ih:=RF dd m he hE xs ys k (i+1) d (by rw[h1];congr 1;omega) (by rw[h2];congr 1;omega) h4;rw[List.range'_succ];simp only[Op.eqItems,Sem.run_bind,px,py,hq,Result.andThen_ok];cases c
  ·simp
  ·simpa using ih
theorem tL(d:Nat):∀ (m:Nat)(t:TypeId)(ks:List Nat),qi P m t=some ks->G6 P (d+m) t ks
 |0,_,_,h=>by simp[qi] at h
 |m+1,t,ks,hk=>by
  intro w xs ys b hx hy h;rw[show d+(m+1)=(d+m)+1 from rfl];rcases uz hk with ha | ⟨ha,h1,hc⟩
  ·have vx:valOf P t xs= .agg ⟨xs⟩:=by simp[valOf,ha]
   have vy:valOf P t ys= .agg ⟨ys⟩:=by simp[valOf,ha]
   rw[vx,vy];unfold qi at hk
   split at hk
   ·rename_i hu;simp[Hm,hu] at ha
   ·rename_i hu;simp[Hm,hu] at ha
   ·rename_i hu;simp[Hm,hu] at ha
   ·rename_i fs hu
    split at hk
    ·rename_i e
     have hfs:P.fieldsOf t=fs:=by simp[Program.fieldsOf,hu]
     rw[run_equalIn_struct w (d+m) t ⟨xs⟩ ⟨ys⟩ (by rw[hfs];exact hu) e.2,hfs];exact fE (d+m) m xs ys (fun t ks h=>tL d m t ks h) fs.toList ks 0 (P.cellsOf t) b hk e.1 hx.symm hy.symm (by simpa using h)
    ·cases hk
   ·rename_i n e hu
    split at hk
    ·rename_i K7
     simp only[faa] at hk;obtain⟨a,h3,rfl⟩:=hk;obtain⟨i,hi⟩:=dF h3;rw[run_equalIn_array w (d+m) ⟨xs⟩ ⟨ys⟩ hu hi,List.range_eq_range'];exact RF (d+m) m h3 (tL d m e a h3) xs ys n 0 b (by rw[hx,K7,eab]) (by rw[hy,K7,eab]) (by simpa using h)
    ·cases hk
   ·cases hk
  ·rw[h1] at hx hy
   match xs,ys,hx,hy with
   | [x],[y],_,_=>
     have vx:valOf P t [x]=x:=by simp[valOf,ha]
     have vy:valOf P t [y]=y:=by simp[valOf,ha]
     rw[vx,vy];have one:∀ k,ks=[k]->bu k x y=some b:=by rintro k rfl;simpa[Mh] using h
     rcases hc with⟨hu,rfl⟩ | ⟨⟨kk,hu⟩,rfl⟩ | ⟨hu,rfl⟩
     ·rcases Ul (one _ rfl) with⟨_,c,e,rfl,rfl,rfl⟩ | ⟨h,_⟩ | ⟨h,_⟩
      ·simp[Op.equalIn,run_underlying hu]
      ·cases h
      ·cases h
     ·rcases Ul (one _ rfl) with⟨h,_⟩ | ⟨_,i,c,e,rfl,rfl,rfl⟩ | ⟨h,_⟩
      ·cases h
      ·simp[Op.equalIn,run_underlying hu]
      ·cases h
     ·rcases Ul (one _ rfl) with⟨h,_⟩ | ⟨h,_⟩ | ⟨_,c,e,rfl,rfl,rfl⟩
      ·cases h
      ·cases h
      ·simp[Op.equalIn,run_underlying hu]
def uC(P:Program)(t:TypeId):Kd->Bool
 | .one c=>qi P 8 t==some [c]&&Hm P t==some false
 | .row ks=>qi P 8 t==some ks&&Hm P t==some true
theorem KH{R:Rd}{t:TypeId}{kd:Kd}(hk:uC P t kd=true){p q:PV}{v u:Value}(hp:Ta R p v)(hq:Ta R q u){b:Bool}(h:Ql kd p q=some b):(Op.equal t v u).run P w= .ok b w:=by
 show (Op.equalIn (9992+8) t v u).run P w=_
 cases kd with
 |one c=>
  simp only[uC,daa,beq_iff_eq] at hk;have:=tL 9992 8 t [c] hk.1 w [v] [u] b (by have:=Ci hk.1;simpa using this) (by have:=Ci hk.1;simpa using this) (by simp only[Ql] at h;simp[Mh,Yu hp hq h])
  simpa[valOf,hk.2] using this
 |row ks=>
  simp only[uC,daa,beq_iff_eq] at hk;unfold Ql at h
  split at h
  ·cases ‹Kd.row ks=_›
  ·rename_i ks' xs ys e
   injection e with e;subst e
   cases hp with
   |agg _ vs h1=>
    cases hq with
    |agg _ us h2=>
     have hr:=XB h1 h2 h;have lens:∀ {ks:List Nat}{xs ys:List Value}{b:Bool},Mh ks xs ys=some b->xs.length=ks.length/\ys.length=ks.length:=by
      intro ks
      induction ks with
      |nil=>intro xs ys b h;cases xs <;> cases ys <;> simp_all [Mh]
      |cons k ks ih=>
       intro xs ys b h;cases xs <;> cases ys <;> simp only[Mh,uaa,faa] at h
       ·cases h
       ·cases h
       ·cases h
       ·obtain⟨_,_,_,h2,_⟩:=h
        have:=ih h2;simp[this.1,this.2]
     have hl:=lens hr;have hn:=Ci hk.1
     have:=tL 9992 8 t ks hk.1 w vs us b (by omega) (by omega) hr
     simpa[valOf,hk.2] using this
  ·cases h
end
def E6(P:Program)(t:TypeId)(f:TypeDesc->Bool):Bool:=
 match P.underlying t with
 |some d=>f d
 |none=>false
def F5(P:Program)(t:TypeId):Option Nat:=
 match P.underlying t with
 |some .bool=>some 0
 |some (.pointer _)=>some 1
 |some (.slice _)=>some 2
 |some (.func _ _ _)=>some 3
 |_=>none
def J3(P:Program)(t:TypeId):Bool:=
 match P.underlying t with
 |some (.int .u8)=>true
 |_=>false
def W4(P:Program)(t:TypeId):Bool:=
 match P.underlying t with
 |some .string=>true
 |_=>false
def Q6(P:Program)(t:TypeId)(k:IntKind):Bool:=
 match P.underlying t with
 |some (.int k')=>decide (k'=k)
 |_=>false
def Tx(P:Program)(t:TypeId):Option TypeId:=
 match P.underlying t with
 |some (.slice e)=>some e
 |_=>none
def U0(P:Program)(el:TypeId)(sz:Nat)(ag:Bool)(zero:List PV):Bool:=
 Ud P el==some sz&&decide (0 < sz)&&(ag||sz==1)&&tw P el zero&&zero.length==sz&&Hm P el==some ag
def eY(P:Program)(t tx e:TypeId)(sz bytes:Nat):Bool:=
 Tx P t==some e&&(E6 P tx fun d=>match d with | .slice e'=>e'==e | .string=>true | _=>false)&&Ud P e==some sz&&Sq P e==some bytes&&decide (0 < bytes)&&decide (0 < sz)&&OR P e sz
def yz(fo:Nat->FuncId):List (Nat×Operand)->List (Nat×AO)->Bool
 | [],[]=>true
 | (i,x)::xs,(j,y)::ys=>i==j&&Xm fo x y&&yz fo xs ys
 |_,_=>false
def PR(fo:Nat->FuncId):Option Operand->Option AO->Bool
 |none,none=>true
 |some x,some y=>Xm fo x y
 |_,_=>false
def B2(P:Program)(t:TypeId)(f:Nat):Option Field:=
 match P.underlying t with
 |some (.struct fs)=>fs[f]?
 |_=>none
def mq(pl:Nat->Option (Nat×Nat))(fo:Nat->FuncId):List (Nat×Operand)->List (Nat×Nat×AO)->Bool
 | [],[]=>true
 | (i,x)::xs,(off,sz,y)::ys=>pl i==some (off,sz)&&Xm fo x y&&mq pl fo xs ys
 |_,_=>false
def MQ(P:Program)(t:TypeId)(kd:Kd):Bool:=
 match P.underlying t with
 |some (.map k _)=>uC P k kd
 |_=>false
def QZ(P:Program)(t:TypeId)(zero:PV):Bool:=
 match P.underlying t with
 |some (.map _ e)=>
  (match P.info? e with
  |some i=>(match i.zero,zero with
   |some (.agg cs),.agg ps=>Pr cs.toList ps
   |some z,p=>vB z p
   |none,_=>false)
  |none=>false)
 |_=>false
def MW(P:Program)(fo:Nat->FuncId):Op->Od->Bool
 | .move x,.move y=>Xm fo x y
 | .assign x,.move y=>Xm fo x y
 | .pick c a b,.pick c' a' b'=>Xm fo c c'&&Xm fo a a'&&Xm fo b b'
 | .alloc t,.alloc zero=>tw P t zero
 | .box _ x,.box _ y=>Xm fo x y
 | .build t parts,.build zero aparts=>
   (match P.underlying t with
   |some (.struct fs)=>mq (fun i=>fs[i]?.map fun f=>(f.offset,(Ud P f.type).getD 0)) fo parts.toList aparts&&fs.all fun f=>(Ud P f.type).isSome
   |some (.array _ el)=>match Ud P el with | some k=>mq (fun i=>some (i * k,k)) fo parts.toList aparts | none=>false
   |_=>false)&&tw P t zero
 | .buildSlice t len parts,.xb _ sz ag len' zero aparts=>
   (match Tx P t with
   |some el=>U0 P el sz ag zero
   |none=>false)&&len==len'&&decide (len * sz<=2 ^ 24)&&yz fo parts.toList aparts
 | .load t x,.load ag n y=>Hm P t==some ag&&(!ag||Ud P t==some n)&&Xm fo x y
 | .store t p x,.store n q y=>Ud P t==some n&&Xm fo p q&&Xm fo x y
 | .nilCheck x,.AF y=>Xm fo x y
 | .binOp op _ x y _,.bin op' x' y'=>decide (op=op')&&Xm fo x x'&&Xm fo y y'
 | .binOp .eql t x y _,.eq k false x' y'=>F5 P t==some k&&Xm fo x x'&&Xm fo y y'
 | .binOp .neq t x y _,.eq k true x' y'=>F5 P t==some k&&Xm fo x x'&&Xm fo y y'
 | .unOp op _ x,.un op' y=>decide (op=op')&&Xm fo x y
 | .convert s d x,.conv k y=>(P.underlying s).isSome&&Q6 P d k&&Xm fo x y
 | .convert s d x,.y5 y=>(match Tx P s with | some el=>J3 P el | none=>false)&&W4 P d&&Xm fo x y
 | .convert s d x,.J1 _ y=>(P.underlying s).isSome&&(match Tx P d with | some el=>J3 P el | none=>false)&&Xm fo x y
 | .makeFunc (.func f) first caps,.FK ix ys=>first.size==0&&fo ix==f&&JE fo caps.toList ys
 | .makeSlice t l c,.eh _ sz ag zero bytes l' c'=>
   (match Tx P t with
   |some el=>U0 P el sz ag zero&&Sq P el==some bytes
   |none=>false)&&decide (0 < bytes)&&Xm fo l l'&&Xm fo c c'
 | .slice t x lo hi none,.slice sz y lo' hi'=>
   (match P.underlying t with
   |some (.slice el)=>sz != 0&&Ud P el==some sz
   |some .string=>sz==0
   |_=>false)&&Xm fo x y&&PR fo lo lo'&&PR fo hi hi'
 | .fieldAddr t x f,.LH off y=>
   (match B2 P t f with
   |some fd=>fd.offset==off&&(match Ud P fd.type with | some n=>n != 0 | none=>false)
   |none=>false)&&Xm fo x y
 | .field t x f,.x5 off ag n y=>
   (match B2 P t f with
   |some fd=>fd.offset==off&&Hm P fd.type==some ag&&(!ag||Ud P fd.type==some n)
   |none=>false)&&Xm fo x y
 | .indexAddr t x i,.Pd sz y j=>(match Tx P t with | some el=>Ud P el==some sz | none=>false)&&Xm fo x y&&Xm fo i j
 | .indexAddr t x i,.xy n sz y j=>
   (match P.underlying t with
   |some (.array n' el)=>n'==n&&Ud P el==some sz
   |_=>false)&&Xm fo x y&&Xm fo i j
 | .index t x i,.EY n sz ag y j=>
   (match P.underlying t with
   |some (.array n' el)=>n'==n&&Ud P el==some sz&&Hm P el==some ag
   |_=>false)&&Xm fo x y&&Xm fo i j
 | .index t x i,.B5 y j=>W4 P t&&Xm fo x y&&Xm fo i j
 | .extract x i,.ext i' y=>i==i'&&Xm fo x y
 | .call {callee:= .builtin .len,args,argTypes},.len k y=>
   (match args.toList,argTypes.toList with
   | [x],[t]=>Xm fo x y&&(match P.underlying t with | some (.slice _)=>k==0 | some .string=>k==1 | _=>false)
   |_,_=>false)
 | .call {callee:= .builtin .max,args,..},.mx ys=>JE fo args.toList ys
 | .call {callee:= .builtin .min,args,..},.mn ys=>JE fo args.toList ys
 | .call {callee:= .builtin .append,args,argTypes},.append _ _ sz ag bytes s y=>
   (match args.toList,argTypes.toList with
   | [x,z],[t,tx]=>Xm fo x s&&Xm fo z y&&(match Tx P t with | some el=>eY P t tx el sz bytes&&Hm P el==some ag | none=>false)
   |_,_=>false)
 | .box _ x,.xQ _ y=>Xm fo x y
 | .binOp .eql t x y _,.Y0 (.row ks) false x' y'=>uC P t (.row ks)&& !P.eqGuardType P.depth t&&Xm fo x x'&&Xm fo y y'
 | .binOp .neq t x y _,.Y0 (.row ks) true x' y'=>uC P t (.row ks)&& !P.eqGuardType P.depth t&&Xm fo x x'&&Xm fo y y'
 | .makeMap _ none,.iH=>true
 | .lookup t x k ok,.lookup kd zero ok' x' k'=>MQ P t kd&&QZ P t zero&&ok==ok'&&Xm fo x x'&&Xm fo k k'
 | .mapUpdate t m k v,.ax kd m' k' v'=>MQ P t kd&&Xm fo m m'&&Xm fo k k'&&Xm fo v v'
 | .insert t m k v,.ax kd m' k' v'=>MQ P t kd&&Xm fo m m'&&Xm fo k k'&&Xm fo v v'
 | .convert s d x,.C5 y=>s==d&&(match Tx P d with | some el=>J3 P el | none=>false)&&Xm fo x y
 |_,_=>false
def tC(P:Program)(fo:Nat->FuncId)(B0:wg)(o:Oper)(a:Act)(w:World)(R:Rd)(φ:Pl)(H:List ba)(v:AV)(H':List ba):Prop:=
 ∀ (next:Act->World->Prop)(Q:Exit->Act->World->Prop),
  (∀ v' w' R' φ',vc fo B0 w' R' φ' H'->Sc fo (K R' φ' H') v v'->(∀ a u,K R φ H a u->K R' φ' H' a u)->oh B0 w w'->next (a.put o.dst v') w')->o.wp P a w next Q
section ops
variable {P:Program}{fo:Nat->FuncId}{B0:wg}{w:World}{R:Rd}{φ:Pl}{H H':List ba}{e:Tr}{a:Act}
theorem tC.xd{o:Oper}{v:AV}{s:Sem Value}(h:execOp a.eval o=(do pure (.value (<- s))))(hr:Zm fo B0 w R φ H P s v H'):tC P fo B0 o a w R φ H v H':=by
 intro next Q hn
 obtain⟨v',w',R',φ',h1,h2,h3,h4,h5⟩:=hr;unfold Oper.wp
 rw[h,Sem.run_bind,h1];exact hn v' w' R' φ' h2 h3 h4 h5
theorem tC.su{o:Oper}{v:AV}{v':Value}(hS:vc fo B0 w R φ H)(h:(execOp a.eval o).run P w= .ok (.value v') w)(hv:Sc fo (K R φ H) v v'):tC P fo B0 o a w R φ H v H:=by
 intro next Q hn
 unfold Oper.wp
 rw[h];exact hn v' w R φ hS hv (fun _ _ h=>h) (oh.refl _ _)
theorem KJ{el:TypeId}{sz:Nat}{ag:Bool}{zero:List PV}(h:U0 P el sz ag zero=true):KV P el sz ag zero:=by
 simp only[U0,daa,beq_iff_eq,decide_eq_true_eq,Oac] at h;obtain⟨⟨⟨⟨⟨h1,h2⟩,h3⟩,h4⟩,h5⟩,h6⟩:=h;exact⟨h1,h2,fun e=>by rcases h3 with h | h;simp[e] at h;exact h,h4,h5⟩
theorem Bp{t el:TypeId}(h:Tx P t=some el):P.underlying t=some (.slice el):=by
 unfold Tx at h
 split at h
 ·rename_i e he;injection h with h;subst h;exact he
 ·cases h
theorem vY{t:TypeId}{f:TypeDesc->Bool}(h:E6 P t f=true):∃ d,P.underlying t=some d/\f d=true:=by
 unfold E6 at h
 split at h
 ·rename_i d hd;exact⟨d,hd,h⟩
 ·cases h
theorem BQ{t tx el:TypeId}{sz bytes:Nat}(h:eY P t tx el sz bytes=true):VR P t tx el sz bytes:=by
 simp only[eY,daa,beq_iff_eq,decide_eq_true_eq] at h;obtain⟨⟨⟨⟨⟨⟨h1,h2⟩,h3⟩,h4⟩,h5⟩,h6⟩,h7⟩:=h;obtain⟨d,hd,hf⟩:=vY h2;refine⟨Bp h1,⟨d,hd,?_⟩,h3,h4,h5,h6,h7⟩;cases d <;> simp at hf
 ·exact .inr rfl
 ·exact .inl (by rw[hf])
theorem qm{t:TypeId}{k:Nat}(h:F5 P t=some k):(k=0/\P.underlying t=some .bool)\/(k=1/\∃ e,P.underlying t=some (.pointer e))\/(k=2/\∃ e,P.underlying t=some (.slice e))\/(k=3/\∃ p r v,P.underlying t=some (.func p r v)):=by
 unfold F5 at h
 split at h <;> first
  |cases h;done
  | (injection h with h;subst h;simp_all)
theorem Sc.aF{K:AV->Value->Prop}{id off:Nat}{v:Value}(h:Sc fo K (.ptr id off) v):K (.ptr id off) v:=by cases h with | atom _ _ h=>exact h
theorem Sc.iC{K:AV->Value->Prop}{id off:Nat}{v:Value}(h:Sc fo K (.own id off) v):K (.own id off) v:=by cases h with | atom _ _ h=>exact h
theorem Sc.Zw{K:AV->Value->Prop}{id sz:Nat}{nl:Bool}{es:List PV}{v:Value}(h:Sc fo K (.uq id nl sz es) v):K (.uq id nl sz es) v:=by cases h with | atom _ _ h=>exact h
theorem Sj{t:TypeId}(hu:P.underlying t=some .bool)(d:Nat)(a b:Bool):(Op.equalIn (d+1) t (.bool a) (.bool b)).run P w= .ok (a==b) w:=by
 simp[Op.equalIn,run_underlying hu]
theorem Cm{t el:TypeId}(hu:P.underlying t=some (.pointer el))(d:Nat)(a:Option Addr):(Op.equalIn (d+1) t (.pointer a) (.pointer none)).run P w= .ok a.isNone w:=by
 cases a <;> simp[Op.equalIn,run_underlying hu]
theorem Uj{t el:TypeId}(hu:P.underlying t=some (.pointer el))(d:Nat)(a:Option Addr):(Op.equalIn (d+1) t (.pointer none) (.pointer a)).run P w= .ok a.isNone w:=by
 cases a <;> simp[Op.equalIn,run_underlying hu]
theorem Hi{t el:TypeId}(hu:P.underlying t=some (.slice el))(d:Nat)(a:Option Addr)(n c m k:Nat):(Op.equalIn (d+1) t (.slice a n c) (.slice none m k)).run P w= .ok a.isNone w:=by
 cases a <;> simp[Op.equalIn,run_underlying hu]
theorem bk{t:TypeId}{p r:Array TypeId}{v:Bool}(hu:P.underlying t=some (.func p r v))(d:Nat)(f:Fn)(x y:Array Value):(Op.equalIn (d+1) t (.func f x y) .nilFunc).run P w= .ok false w:=by
 simp[Op.equalIn,run_underlying hu]
theorem Gi{t:TypeId}{p r:Array TypeId}{v:Bool}(hu:P.underlying t=some (.func p r v))(d:Nat):(Op.equalIn (d+1) t .nilFunc .nilFunc).run P w= .ok true w:=by
 simp[Op.equalIn,run_underlying hu]
theorem NV{t:TypeId}{k:Nat}(ht:F5 P t=some k)(hS:vc fo B0 w R φ H){x y:AV}{vx vy:Value}(hx:Sc fo (K R φ H) x vx)(hy:Sc fo (K R φ H) y vy){b:Bool}(h:Kq H k x y=some b):
 (∀ op:BinOp,op= .eql\/op= .neq->∀ (ox oy:Operand),(do eqGuard op t ox oy vx vy;binOp op t vx vy:Sem Value).run P w= .ok (.bool (if op= .neq then !b else b)) w):=by
 have key:(Op.equal t vx vy).run P w= .ok b w->(∀ (op:BinOp)(ox oy:Operand),(eqGuard op t ox oy vx vy)=pure ())->(∀ op:BinOp,(op= .eql->binOp op t vx vy=(do pure (.bool (<- Op.equal t vx vy))))/\(op= .neq->binOp op t vx vy=(do pure (.bool (!(<- Op.equal t vx vy))))))->
  (∀ op:BinOp,op= .eql\/op= .neq->∀ (ox oy:Operand),(do eqGuard op t ox oy vx vy;binOp op t vx vy:Sem Value).run P w= .ok (.bool (if op= .neq then !b else b)) w):=by
  intro h1 h2 h3 op hop ox oy;rcases hop with rfl | rfl
  ·simp[h2,(h3 .eql).1 rfl,h1]
  ·simp[h2,(h3 .neq).2 rfl,h1]
 have one:∀ (x y:Value),(Op.equal t x y).run P w=(Op.equalIn (9999+1) t x y).run P w:=fun _ _=>rfl
 unfold Kq at h
 split at h
 ·
  have h1:=hx.Sb;have h2:=hy.Sb
  cases h1;cases h2;injection h with h;subst h
  have hu:=qm ht;simp at hu;refine key ?_ (fun op ox oy=>by cases op <;> rfl) (fun op=>⟨fun e=>by subst e;rfl,fun e=>by subst e;rfl⟩);rw[one]
  first | exact Sj hu 9999 _ _ | exact Cm hu 9999 _ | exact Uj hu 9999 _ | exact Hi hu 9999 _ _ _ _ _ | exact bk hu 9999 _ _ _ | exact Gi hu 9999
 ·have h1:=hx.Sb;have h2:=hy.Sb
  cases h1;cases h2;injection h with h;subst h
  have hu:=qm ht;simp at hu;obtain⟨e,hu⟩:=hu;refine key ?_ (fun op ox oy=>by cases op <;> rfl) (fun op=>⟨fun e=>by subst e;rfl,fun e=>by subst e;rfl⟩);rw[one]
  first | exact Sj hu 9999 _ _ | exact Cm hu 9999 _ | exact Uj hu 9999 _ | exact Hi hu 9999 _ _ _ _ _ | exact bk hu 9999 _ _ _ | exact Gi hu 9999
 ·have h1:=hx.Sb;have h2:=hy.Sb
  cases h1;cases h2;injection h with h;subst h
  have hu:=qm ht;simp at hu;obtain⟨e,hu⟩:=hu;refine key ?_ (fun op ox oy=>by cases op <;> rfl) (fun op=>⟨fun e=>by subst e;rfl,fun e=>by subst e;rfl⟩);rw[one]
  first | exact Sj hu 9999 _ _ | exact Cm hu 9999 _ | exact Uj hu 9999 _ | exact Hi hu 9999 _ _ _ _ _ | exact bk hu 9999 _ _ _ | exact Gi hu 9999
 ·have h1:=hx.Sb;have h2:=hy.Sb
  cases h1;cases h2;injection h with h;subst h
  have hu:=qm ht;simp at hu;obtain⟨e,hu⟩:=hu;refine key ?_ (fun op ox oy=>by cases op <;> rfl) (fun op=>⟨fun e=>by subst e;rfl,fun e=>by subst e;rfl⟩);rw[one]
  first | exact Sj hu 9999 _ _ | exact Cm hu 9999 _ | exact Uj hu 9999 _ | exact Hi hu 9999 _ _ _ _ _ | exact bk hu 9999 _ _ _ | exact Gi hu 9999
 ·
  split at h
  ·rename_i hc
   have h2:=hy.Sb
   cases h2;injection h with h;subst h
   have h1:=hx.aF
   rw[h1.2.2 _ hc];have hu:=qm ht;simp at hu;obtain⟨e,hu⟩:=hu;rw[h1.2.2 _ hc] at key;refine key ?_ (fun op ox oy=>by cases op <;> rfl) (fun op=>⟨fun e=>by subst e;rfl,fun e=>by subst e;rfl⟩);rw[one]
   first | exact Sj hu 9999 _ _ | exact Cm hu 9999 _ | exact Uj hu 9999 _ | exact Hi hu 9999 _ _ _ _ _ | exact bk hu 9999 _ _ _ | exact Gi hu 9999
  ·cases h
 ·have h1:=hx.Sb;have h2:=hy.Sb
  cases h1;cases h2;injection h with h;subst h
  have hu:=qm ht;simp at hu;obtain⟨e,hu⟩:=hu;refine key ?_ (fun op ox oy=>by cases op <;> rfl) (fun op=>⟨fun e=>by subst e;rfl,fun e=>by subst e;rfl⟩);rw[one]
  first | exact Sj hu 9999 _ _ | exact Cm hu 9999 _ | exact Uj hu 9999 _ | exact Hi hu 9999 _ _ _ _ _ | exact bk hu 9999 _ _ _ | exact Gi hu 9999
 ·have h1:=hx.Sb;have h2:=hy.Sb
  cases h2;obtain⟨a7,n7,c7,rfl⟩:∃ a n c,vx= .slice (some a) n c:=by cases h1 <;> exact⟨_,_,_,rfl⟩
  injection h with h;subst h
  have hu:=qm ht;simp at hu;obtain⟨e,hu⟩:=hu;refine key ?_ (fun op ox oy=>by cases op <;> rfl) (fun op=>⟨fun e=>by subst e;rfl,fun e=>by subst e;rfl⟩);rw[one]
  first | exact Sj hu 9999 _ _ | exact Cm hu 9999 _ | exact Uj hu 9999 _ | exact Hi hu 9999 _ _ _ _ _ | exact bk hu 9999 _ _ _ | exact Gi hu 9999
 ·
  rename_i nl sz es;have h2:=hy.Sb
  cases h2;injection h with h;subst h
  have h1:=hx.Zw
  have hu:=qm ht;simp at hu;obtain⟨e,hu⟩:=hu;cases nl with
  |true=>
   rw[(h1.2.1 rfl).1] at key ⊢;refine key ?_ (fun op ox oy=>by cases op <;> rfl) (fun op=>⟨fun e=>by subst e;rfl,fun e=>by subst e;rfl⟩);rw[one]
   first | exact Sj hu 9999 _ _ | exact Cm hu 9999 _ | exact Uj hu 9999 _ | exact Hi hu 9999 _ _ _ _ _ | exact bk hu 9999 _ _ _ | exact Gi hu 9999
  |false=>
   have h3:=h1.2.2.1 rfl
   obtain⟨a8,n8,c8,rfl⟩:∃ a n c,vx= .slice (some a) n c:=by cases h3 <;> exact⟨_,_,_,rfl⟩
   refine key ?_ (fun op ox oy=>by cases op <;> rfl) (fun op=>⟨fun e=>by subst e;rfl,fun e=>by subst e;rfl⟩);rw[one]
   first | exact Sj hu 9999 _ _ | exact Cm hu 9999 _ | exact Uj hu 9999 _ | exact Hi hu 9999 _ _ _ _ _ | exact bk hu 9999 _ _ _ | exact Gi hu 9999
 ·
  split at h
  ·rename_i sz ag c fl nl hc
   split at h
   ·rename_i iab
    injection h with h;subst h
    have h2:=hy.Sb
    cases h2;have h1:=hx.iC
    obtain⟨k0,k⟩:=h1.2.2 _ _ _ _ _ hc
    obtain⟨o0,o1,o2,_⟩:=hS.obj _ _ hc
    obtain⟨k1,k2⟩:=k (by omega);have hu:=qm ht;simp at hu;obtain⟨e,hu⟩:=hu;cases nl with
    |true=>
     rw[k1 rfl] at key ⊢;refine key ?_ (fun op ox oy=>by cases op <;> rfl) (fun op=>⟨fun e=>by subst e;rfl,fun e=>by subst e;rfl⟩);rw[one]
     first | exact Sj hu 9999 _ _ | exact Cm hu 9999 _ | exact Uj hu 9999 _ | exact Hi hu 9999 _ _ _ _ _ | exact bk hu 9999 _ _ _ | exact Gi hu 9999
    |false=>
     rcases k2 rfl with⟨q1,q2,_⟩ | ⟨b,o,cap,q1,_,_⟩
     ·subst q1;exact absurd (yaa (by omega)) q2
     ·rw[q1] at key ⊢
      refine key ?_ (fun op ox oy=>by cases op <;> rfl) (fun op=>⟨fun e=>by subst e;rfl,fun e=>by subst e;rfl⟩);rw[one]
      first | exact Sj hu 9999 _ _ | exact Cm hu 9999 _ | exact Uj hu 9999 _ | exact Hi hu 9999 _ _ _ _ _ | exact bk hu 9999 _ _ _ | exact Gi hu 9999
   ·cases h
  ·cases h
 ·have h2:=hy.Sb
  cases h2;injection h with h;subst h
  cases hx with
  |atom _ _ h=>exact h.elim
  |Ol ix cs vs hc=>
   have hu:=qm ht;replace hu:=((hu.resolve_left (by simp)).resolve_left (by simp)).resolve_left (by simp)
   obtain⟨_,p,r,v,hu⟩:=hu;refine key ?_ (fun op ox oy=>by cases op <;> rfl) (fun op=>⟨fun e=>by subst e;rfl,fun e=>by subst e;rfl⟩);rw[one]
   first | exact Sj hu 9999 _ _ | exact Cm hu 9999 _ | exact Uj hu 9999 _ | exact Hi hu 9999 _ _ _ _ _ | exact bk hu 9999 _ _ _ | exact Gi hu 9999
 ·have h1:=hx.Sb;have h2:=hy.Sb
  cases h1;cases h2;injection h with h;subst h
  have hu:=qm ht;replace hu:=((hu.resolve_left (by simp)).resolve_left (by simp)).resolve_left (by simp)
  obtain⟨_,p,r,v,hu⟩:=hu;refine key ?_ (fun op ox oy=>by cases op <;> rfl) (fun op=>⟨fun e=>by subst e;rfl,fun e=>by subst e;rfl⟩);rw[one]
  first | exact Sj hu 9999 _ _ | exact Cm hu 9999 _ | exact Uj hu 9999 _ | exact Hi hu 9999 _ _ _ _ _ | exact bk hu 9999 _ _ _ | exact Gi hu 9999
 ·cases h
end ops
end Go.AM
namespace Go.AM
open Go.RowKit
section
variable {P:Program}{fo:Nat->FuncId}{B0:wg}{w:World}{R:Rd}{φ:Pl}{H H':List ba}
def Z2(P:Program)(em:Bool)(dd:Nat)(e:TypeId)(ks:List Nat):Prop:=
 ∀ (w:World)(xs:List Value)(b:Bool),xs.length=P.cellsOf e->Mh ks xs xs=some b->(Instr.checkKey em dd e (valOf P e xs)).run P w= .ok () w
theorem qz(em:Bool)(d:Nat):∀ (m:Nat)(t:TypeId)(ks:List Nat),qi P m t=some ks->Z2 P em (d+m) t ks
 |0,_,_,h=>by simp[qi] at h
 |m+1,t,ks,hk=>by
  intro w xs b hx h;rw[show d+(m+1)=(d+m)+1 from rfl];rcases uz hk with ha | ⟨ha,h1,hc⟩
  ·have vx:valOf P t xs= .agg ⟨xs⟩:=by simp[valOf,ha]
   rw[vx];unfold qi at hk
   split at hk
   ·rename_i hu;simp[Hm,hu] at ha
   ·rename_i hu;simp[Hm,hu] at ha
   ·rename_i hu;simp[Hm,hu] at ha
   ·rename_i fs hu
    split at hk
    ·rename_i e
     rw[Instr.checkKey];simp only[Sem.run_bind,run_underlying hu,Result.andThen_ok];rw[<- Array.forIn_toList];have hE:=fun t ks h=>qz em d m t ks h;have hl:=e.1
     have h':Mh ks (xs.drop 0) (xs.drop 0)=some b:=by simpa using h
     clear h e hu vx ha;generalize P.cellsOf t=n at hl hx
     generalize 0=o at hl h';generalize fs.toList=L at hk hl
     induction L generalizing ks o b with
     |nil=>simp
     |cons f L ih=>
      simp only[Tw] at hk
      split at hk
      ·rename_i hn
       simp only[bne_iff_ne,ne_eq] at hn;simp only[uaa,faa] at hk;obtain⟨k1,e1,k2,e2,rfl⟩:=hk;simp only[YB] at hl
       split at hl
       ·rename_i ho
        subst ho;have hle:=Nw (P:=P) (fun t ks h=>Ci (m:=m) h) e2 hl;have hlen:=Ci e1;have px:=Fu (w:=w) e1 (xs:=xs) (off:=f.offset) (by omega);rw[<- jac (P.cellsOf f.type) (xs.drop f.offset)] at h';obtain⟨c,g,h3,h4,rfl⟩:=Oo (by simp;omega) rfl h';rw[List.drop_drop] at h4;have he:=hE _ _ e1 w _ c (by simp;omega) h3;simp only[List.forIn_cons,Sem.run_bind,hn,ne_eq,not_false_eq_true,if_true,Result.andThen_ok,px,he,Sem.run_pure];exact ih _ _ _ h4 e2 hl
       ·cases hl
      ·cases hk
    ·cases hk
   ·rename_i n e hu
    split at hk
    ·rename_i K7
     simp only[faa] at hk;obtain⟨a,h3,rfl⟩:=hk;rw[Instr.checkKey];simp only[Sem.run_bind,run_underlying hu,Result.andThen_ok];simp only[Std.Legacy.Range.forIn_eq_forIn_range',Std.Legacy.Range.size,wae,Nat.add_one_sub_one,Nat.div_one];have hE:=qz em d m e a h3;have hlen:=Ci h3;have hx':xs.length=(0+n) * P.cellsOf e:=by rw[hx,K7,eab]
     have h':Mh (QL n a) (xs.drop (0 * P.cellsOf e)) (xs.drop (0 * P.cellsOf e))=some b:=by simpa using h
     clear hx h K7 hu vx ha;generalize 0=i at hx' h'
     induction n generalizing i b with
     |zero=>simp
     |succ k ih=>
      have hxl:i * P.cellsOf e+P.cellsOf e<=xs.length:=by rw[hx',<-vae];exact wac _ (by omega)
      have px:=Fu (w:=w) h3 (xs:=xs) (off:=i * P.cellsOf e) hxl;rw[QL,<-jac (P.cellsOf e) (xs.drop _)] at h';obtain⟨c,g,h5,h4,rfl⟩:=Oo (by simp;omega) rfl h';rw[List.drop_drop,<-vae] at h4;have hq:=hE w _ c (by simp;omega) h5;rw[List.range'_succ];simp only[List.forIn_cons,Sem.run_bind,zc (IA h3),Result.andThen_ok,px,hq,Sem.run_pure];exact ih _ _ (by rw[hx'];congr 1;omega) h4
    ·cases hk
   ·cases hk
  ·rw[h1] at hx
   match xs,hx with
   | [x],_=>
     have vx:valOf P t [x]=x:=by simp[valOf,ha]
     rw[vx];have one:∀ k,ks=[k]->bu k x x=some b:=by rintro k rfl;simpa[Mh] using h
     rw[Instr.checkKey];rcases hc with⟨hu,rfl⟩ | ⟨⟨kk,hu⟩,rfl⟩ | ⟨hu,rfl⟩
     ·simp[run_underlying hu]
     ·simp[run_underlying hu]
     ·simp[run_underlying hu]
theorem UP:∀ {ks:List Nat}{xs ys:List Value}{b:Bool},Mh ks xs ys=some b->xs.length=ks.length/\ys.length=ks.length:=by
 intro ks
 induction ks with
 |nil=>intro xs ys b h;cases xs <;> cases ys <;> simp_all [Mh]
 |cons k ks ih=>
  intro xs ys b h;cases xs <;> cases ys <;> simp only[Mh,uaa,faa] at h
  ·cases h
  ·cases h
  ·cases h
  ·obtain⟨_,_,_,h2,_⟩:=h
   have:=ih h2;simp[this.1,this.2]
theorem eB{t:TypeId}{kd:Kd}(hk:uC P t kd=true){p:PV}{v:Value}(hp:Ta R p v){b:Bool}(h:Ql kd p p=some b)(em:Bool):(Instr.checkKey em 10000 t v).run P w= .ok () w:=by
 show (Instr.checkKey em (9992+8) t v).run P w=_
 cases kd with
 |one c=>
  simp only[uC,daa,beq_iff_eq] at hk;have:=qz em 9992 8 t [c] hk.1 w [v] b (by have:=Ci hk.1;simpa using this) (by simp only[Ql] at h;simp[Mh,Yu hp hp h])
  simpa[valOf,hk.2] using this
 |row ks=>
  simp only[uC,daa,beq_iff_eq] at hk;have hs:∃ xs,p= .agg xs:=by cases p <;> simp[Ql] at h;exact⟨_,rfl⟩
  obtain⟨xs,rfl⟩:=hs;simp only[Ql] at h;cases hp with
  |agg _ vs h1=>
   have hr:=XB h1 h1 h;have hl:=UP hr;have hn:=Ci hk.1
   have:=qz em 9992 8 t ks hk.1 w vs b (by omega) hr
   simpa[valOf,hk.2] using this
theorem LD{k:Nat}{x y:Value}(h:bu k x y=some true):x=y:=by
 rcases Ul h with⟨_,c,d,rfl,rfl,e⟩ | ⟨_,i,c,d,rfl,rfl,e⟩ | ⟨_,c,d,rfl,rfl,e⟩
 ·have:=eq_of_beq e.symm;rw[this]
 ·have:=eq_of_beq e.symm;rw[this]
 ·have:c=d:=by
   have e:=e.symm
   obtain⟨⟨c⟩⟩:=c;obtain⟨⟨d⟩⟩:=d;have h2:((⟨c⟩:Array UInt8)==⟨d⟩)=true:=e;have:=eq_of_beq h2;simp at this;rw[this]
  rw[this]
theorem tG:∀ {ks:List Nat}{xs ys:List Value},Mh ks xs ys=some true->xs=ys
 | [],[],[],_=>rfl
 |k::ks,x::xs,y::ys,h=>by simp only[Mh,uaa,faa] at h;obtain⟨b,h1,c,h2,h3⟩:=h;simp only[daa] at h3;obtain⟨rfl,rfl⟩:=h3;rw[LD h1,tG h2]
 | [],[],_::_,h=>by simp[Mh] at h
 | [],_::_,_,h=>by simp[Mh] at h
 |_::_,[],_,h=>by simp[Mh] at h
 |_::_,_::_,[],h=>by simp[Mh] at h
theorem BT{kd:Kd}{p q:PV}{v u:Value}(hp:Ta R p v)(hq:Ta R q u)(h:Ql kd p q=some true):v=u/\∀ n,Instr.sameBits (n+2) u u=true:=by
 have atom:∀ {c:Nat}{x y:Value}{b:Bool},bu c x y=some b->∀ n,Instr.sameBits n x x=true:=by
  intro c x y b hc n;rcases Ul hc with⟨_,c,d,rfl,rfl,_⟩ | ⟨_,i,c,d,rfl,rfl,_⟩ | ⟨_,c,d,rfl,rfl,_⟩
  ·cases n <;> simp[Instr.sameBits]
  ·cases n <;> simp[Instr.sameBits]
  ·cases n <;> (simp only[Instr.sameBits];obtain⟨⟨c⟩⟩:=c;show ((⟨c⟩:Array UInt8)==⟨c⟩)=true;simp)
 unfold Ql at h
 split at h
 ·have h1:=Yu hp hq h
  have e:=LD h1;subst e;exact⟨rfl,fun n=>atom h1 _⟩
 ·cases hp with
  |agg _ vs h1=>
   cases hq with
   |agg _ us h2=>
    have hr:=XB h1 h2 h;have e:=tG hr;subst e;refine⟨rfl,fun n=> ?_⟩;simp only[Instr.sameBits,beq_self_eq_true,uab];clear h1 h2 h;rw[aab];rintro⟨x,y⟩ hm;rename_i ks _ _
    induction ks generalizing vs with
    |nil=>cases vs with
     |nil=>simp at hm
     |cons=>simp[Mh] at hr
    |cons k ks ih=>
     cases vs with
     |nil=>simp at hm
     |cons z zs=>
      simp only[Mh,uaa,faa] at hr;obtain⟨b,q1,c,q2,q3⟩:=hr;simp only[daa] at q3;obtain⟨rfl,rfl⟩:=q3;simp only[List.zip_cons_cons,bab,vaa] at hm;rcases hm with⟨rfl,rfl⟩ | hm
      ·exact atom q1 _
      ·exact ih zs q2 hm
 ·cases h
def uT(R:Rd)(kd:Kd)(k:PV)(es:List (PV×PV))(N7:List MapEntry)(i:Nat):Option (Nat×PV)->Option (Nat×Value)->Prop
 |none,none=>True
 |some (a,p),some (b,u)=>a=b/\∃ j e x,a=i+j/\es[j]? =some e/\N7[j]? =some x/\e.2=p/\x.val=u/\Ta R p u/\Ta R e.1 x.key/\Ql kd k e.1=some true
 |_,_=>False
theorem uT.succ{kd:Kd}{k:PV}{es:List (PV×PV)}{N7:List MapEntry}{i:Nat}{e:PV×PV}{x:MapEntry}{r:Option (Nat×PV)}{r':Option (Nat×Value)}(h:uT R kd k es N7 (i+1) r r'):uT R kd k (e::es) (x::N7) i r r':=by
 cases r with
 |none=>cases r' with
  |none=>trivial
  |some=>exact h.elim
 |some r=>cases r' with
  |none=>exact h.elim
  |some r'=>obtain⟨h1,j,e',x',h2,h3⟩:=h;exact⟨h1,j+1,e',x',by omega,h3⟩
theorem gA{t:TypeId}{kd:Kd}(hk:uC P t kd=true){k:PV}{v:Value}(hv:Ta R k v):∀ {es:List (PV×PV)}{N7:List MapEntry}{i:Nat}{r:Option (Nat×PV)},Ey R es N7->qn kd k es i=some r->
 ∃ r',(Instr.findAsking t v N7 i).run P w= .ok r' w/\uT R kd k es N7 i r r'
 | [],[],i,r,_,h=>by simp only[qn,eaa] at h;subst h;exact⟨none,by simp[Instr.findAsking],trivial⟩
 |e::es,x::N7,i,r,⟨m1,m2,m3⟩,h=>by
  simp only[qn,uaa] at h;obtain⟨b,h1,h2⟩:=h;have hr:=KH (w:=w) hk hv m1 h1;cases b with
  |true=>simp only[if_true,eaa] at h2;subst h2;exact⟨some (i,x.val),by simp[Instr.findAsking,hr],rfl,0,e,x,rfl,rfl,rfl,rfl,rfl,m2,m1,h1⟩
  |false=>simp only[Baa,if_false] at h2;obtain⟨r',h3,h4⟩:=gA hk hv m3 h2;exact⟨r',by simp[Instr.findAsking,hr,h3],h4.succ⟩
 | [],_::_,_,_,h,_=>h.elim
 |_::_,[],_,_,h,_=>h.elim
theorem OQ{d:TypeDesc}{c:Nat}{x y:Value}{b:Bool}(hd:(d= .bool/\c=0)\/((∃ k,d= .int k)/\c=1)\/(d= .string/\c=2))(h:bu c x y=some b):Instr.sameNow d x y=some b:=by
 rcases hd with⟨rfl,rfl⟩ | ⟨⟨k,rfl⟩,rfl⟩ | ⟨rfl,rfl⟩
 ·rcases Ul h with⟨_,c,d,rfl,rfl,rfl⟩ | ⟨h,_⟩ | ⟨h,_⟩
  ·rfl
  ·cases h
  ·cases h
 ·rcases Ul h with⟨h,_⟩ | ⟨_,i,c,d,rfl,rfl,rfl⟩ | ⟨h,_⟩
  ·cases h
  ·simp[Instr.sameNow]
  ·cases h
 ·rcases Ul h with⟨h,_⟩ | ⟨h,_⟩ | ⟨_,c,d,rfl,rfl,rfl⟩
  ·cases h
  ·cases h
  ·rfl
theorem qF{d:TypeDesc}{c:Nat}(hd:(d= .bool/\c=0)\/((∃ k,d= .int k)/\c=1)\/(d= .string/\c=2)){k:PV}{v:Value}(hv:Ta R k v):∀ {es:List (PV×PV)}{N7:List MapEntry}{i:Nat}{r:Option (Nat×PV)},Ey R es N7->qn (.one c) k es i=some r->
 ∃ r',Instr.findNow d v N7 i=some r'/\uT R (.one c) k es N7 i r r'
 | [],[],i,r,_,h=>by simp only[qn,eaa] at h;subst h;exact⟨none,rfl,trivial⟩
 |e::es,x::N7,i,r,⟨m1,m2,m3⟩,h=>by
  simp only[qn,uaa] at h;obtain⟨b,h1,h2⟩:=h;have hr:=OQ hd (Yu hv m1 h1);cases b with
  |true=>simp only[if_true,eaa] at h2;subst h2;exact⟨some (i,x.val),by simp[Instr.findNow,hr],rfl,0,e,x,rfl,rfl,rfl,rfl,rfl,m2,m1,h1⟩
  |false=>simp only[Baa,if_false] at h2;obtain⟨r',h3,h4⟩:=qF hd hv m3 h2;exact⟨r',by simp[Instr.findNow,hr,h3],h4.succ⟩
 | [],_::_,_,_,h,_=>h.elim
 |_::_,[],_,_,h,_=>h.elim
theorem qG{t:TypeId}{kd:Kd}(hk:uC P t kd=true){k:PV}{v:Value}(hv:Ta R k v){es:List (PV×PV)}{N7:List MapEntry}{r:Option (Nat×PV)}(hm:Ey R es N7)(h:qn kd k es 0=some r):
 ∃ r',(Instr.findKey t v N7).run P w= .ok r' w/\uT R kd k es N7 0 r r':=by
 cases kd with
 |one c=>
  have D8:=hk;simp only[uC,daa,beq_iff_eq] at D8;have hd:∃ d,P.underlying t=some d/\((d= .bool/\c=0)\/((∃ k,d= .int k)/\c=1)\/(d= .string/\c=2)):=by
   rcases uz D8.1 with ha | ⟨_,_,hc⟩
   ·rw[D8.2] at ha;cases ha
   ·rcases hc with⟨hu,e⟩ | ⟨⟨kk,hu⟩,e⟩ | ⟨hu,e⟩
    ·exact⟨_,hu,.inl ⟨rfl,by simpa using e⟩⟩
    ·exact⟨_,hu,.inr (.inl ⟨⟨kk,rfl⟩,by simpa using e⟩)⟩
    ·exact⟨_,hu,.inr (.inr ⟨rfl,by simpa using e⟩)⟩
  obtain⟨d,hu,hd⟩:=hd;obtain⟨r',h1,h2⟩:=qF hd hv hm h;exact⟨r',by simp[Instr.findKey,run_underlying hu,h1],h2⟩
 |row ks=>
  have D8:=hk;simp only[uC,daa,beq_iff_eq] at D8;obtain⟨r',h1,h2⟩:=gA (w:=w) hk hv hm h;have hu:∃ d,P.underlying t=some d/\∀ x y,Instr.sameNow d x y=none:=by
   have ha:=D8.2
   unfold Hm at ha
   split at ha
   ·rename_i fs hu;exact⟨_,hu,fun x y=>by cases x <;> rfl⟩
   ·rename_i n e hu;exact⟨_,hu,fun x y=>by cases x <;> rfl⟩
   ·cases ha
   ·cases ha
  obtain⟨d,hu,hs⟩:=hu;cases N7 with
  |nil=>refine⟨r',?_,h2⟩;simp only[Instr.findAsking,Sem.run_pure] at h1;simp only[Instr.findKey,Sem.run_bind,run_underlying hu,Result.andThen_ok,Instr.findNow,Sem.run_pure];exact h1
  |cons x xs=>exact⟨r',by simp[Instr.findKey,run_underlying hu,Instr.findNow,hs,h1],h2⟩
theorem K.map_set{id:Nat}{c c':List (PV×PV)}(hc:H[id]? =some (.map c))(a:AV)(v:Value)(h:K R φ H a v):K R (Wm φ id (φ id)) (H.set id (.map c')) a v:=by
 have hφ:Wm φ id (φ id)=φ:=by
  funext i
  unfold Wm
  split
  ·rename_i e;rw[e]
  ·rfl
 rw[hφ];have G7:=getElem?_lt hc;have Dq:∀ {i:Nat}{x:ba},(H.set id (.map c'))[i]? =some x->(i≠id/\H[i]? =some x)\/(i=id/\x= .map c'):=by
  intro i x hx
  by_cases h:i=id
  ·subst h;rw[Qaa G7] at hx;injection hx with hx;exact .inr ⟨rfl,hx.symm⟩
  ·rw[Jaa (rac h)] at hx;exact .inl ⟨h,hx⟩
 cases a with
 |pv p=>exact h
 |ptr i off=>
  refine⟨by simpa using h.1,h.2.1,fun c1 h1=> ?_⟩;rcases Dq h1 with⟨_,h2⟩ | ⟨rfl,h2⟩
  ·exact h.2.2 _ h2
  ·cases h2
 |Ec i n off=>
  refine⟨by simpa using h.1,h.2.1,fun sz ag c1 fl nl h1=> ?_⟩;rcases Dq h1 with⟨_,h2⟩ | ⟨rfl,h2⟩
  ·exact h.2.2 _ _ _ _ _ h2
  ·cases h2
 |uq i nl sz es=>
  refine⟨by simpa using h.1,h.2.1,h.2.2.1,fun sz' n nl' h1=> ?_⟩;rcases Dq h1 with⟨_,h2⟩ | ⟨rfl,h2⟩
  ·exact h.2.2.2 _ _ _ h2
  ·cases h2
 |own i len=>
  refine⟨by simpa using h.1,h.2.1,fun sz ag c1 fl nl h1=> ?_⟩;rcases Dq h1 with⟨_,h2⟩ | ⟨rfl,h2⟩
  ·exact h.2.2 _ _ _ _ _ h2
  ·cases h2
 |mp i=>
  refine⟨by simpa using h.1,h.2.1,fun es h1=> ?_⟩;rcases Dq h1 with⟨_,h2⟩ | ⟨rfl,_⟩
  ·exact h.2.2 _ h2
  ·exact h.2.2 _ hc
 |Ol ix cs=>exact h.elim
 |agg cs=>exact h.elim
 |mc cs=>exact h.elim
 |undef=>exact h.elim
theorem OJ{t:TypeId}{kd:Kd}(h:MQ P t kd=true):∃ k e,P.underlying t=some (.map k e)/\uC P k kd=true:=by
 unfold MQ at h
 split at h
 ·rename_i k e hu;exact⟨k,e,hu,h⟩
 ·cases h
theorem JS{t k e:TypeId}{zero:PV}(hu:P.underlying t=some (.map k e))(h:QZ P t zero=true):∃ z,(∀ w,(zeroValue e).run P w= .ok z w)/\∀ R,Ta R zero z:=by
 unfold QZ at h;simp only[hu] at h;cases hi:P.info? e with
 |none=>simp[hi] at h
 |some i=>
  simp only[hi] at h;cases hz:i.zero with
  |none=>simp[hz] at h
  |some z=>
   simp only[hz] at h;refine⟨z,fun w=>by simp[zeroValue,run_typeInfo w hi,hz],fun R=> ?_⟩
   split at h
   ·rename_i cs ps e1
    injection e1 with e1
    subst e1;exact .agg _ _ (Io (R:=R) h).1
   ·rename_i z' p e1 e2
    injection e1 with e1
    subst e1;exact Fy h
   ·cases h
theorem NT(hS:vc fo B0 w R φ H)(t:TypeId):Zm fo B0 w R φ H P (Instr.makeMap t none) (.mp H.length) (H++[.map []]):=by
 have hk:=fun a v=>K.push (R:=R) (φ:=φ) (H:=H) (.map []) (w.heap.size,0) a v
 refine⟨.map (some w.heap.size),{w with heap:=w.heap.push (.map #[] 0)},R,AM.Wm φ H.length (w.heap.size,0),?_,?_,?_,hk,sA hS.low hS.slt _⟩
 ·simp[Instr.makeMap,run_newObj]
 ·refine hS.push (by simp) (fun b hb=>Li hb) (fun _ _ _=>rfl) (fun b o v h=> ?_) hk (fun _=>waa _) ?_
  ·have:=hS.sub b o v h
   rw[FI (Em this)];exact this
  ·refine⟨by rw[Fb];exact hS.low,by rw[Fb];exact hS.tB (waa _),#[],0,?_,trivial⟩
   rw[Fb];simp
 ·exact .atom _ _ ⟨by simp,rfl,fun c _=>by rw[Fb]⟩
theorem Sc.wW{K:AV->Value->Prop}{id:Nat}{v:Value}(h:Sc fo K (.mp id) v):K (.mp id) v:=by cases h with | atom _ _ h=>exact h
def G2(zero:PV)(ok:Bool):Option (Nat×PV)->AV
 |some (_,x)=>(if ok then .pv (.mc [x,.bool true]) else .pv x)
 |none=>(if ok then .pv (.mc [zero,.bool false]) else .pv zero)
theorem NH(hS:vc fo B0 w R φ H){t:TypeId}{kd:Kd}{zero:PV}(h1:MQ P t kd=true)(h2:QZ P t zero=true){m:AV}{k:PV}{vm vk:Value}(hm:Sc fo (K R φ H) m vm)(hk:Ta R k vk)(ok:Bool){es:List (PV×PV)}
 (hes:m= .pv .nw/\es=[]\/∃ id,m= .mp id/\H[id]? =some (.map es)) (hkk:(Ql kd k k).isSome=true) {r:Option (Nat×PV)} (hf:qn kd k es 0=some r):
 ∃ u,(Instr.lookup t vm vk ok).run P w= .ok u w/\Sc fo (K R φ H) (G2 zero ok r) u:=by
 obtain⟨kt,e,hu,hkd⟩:=OJ h1;obtain⟨z,hz,hzr⟩:=JS hu h2;obtain⟨b,hb⟩:=Ead.1 hkk
 have go:∀ (N7:Array MapEntry),Ey R es N7.toList->∃ u,(do
  Instr.checkKey N7.isEmpty 10000 kt vk
  let (v,okk) <-match <-Instr.findKey kt vk N7.toList with
   |some (_,v)=>pure (v,true)
   |none=>pure (<- zeroValue e,false)
  pure (if ok then .tuple #[v,.bool okk] else v):Sem Value).run P w= .ok u w/\Sc fo (K R φ H) (G2 zero ok r) u:=by
  intro N7 hE;have hc:=eB (w:=w) hkd hk hb N7.isEmpty
  obtain⟨r',h3,h4⟩:=qG (w:=w) hkd hk hE hf;cases r with
  |none=>
   cases r' with
   |some=>exact h4.elim
   |none=>
    cases ok with
    |true=>exact⟨.tuple #[z,.bool false],by simp[hc,h3,hz w],.atom _ _ (show Ta R _ _ from .mc _ _ (.cons _ _ _ _ (hzr R) (.cons _ _ _ _ (.bool _) .nil)))⟩
    |false=>exact⟨z,by simp[hc,h3,hz w],.atom _ _ (show Ta R _ _ from hzr R)⟩
  |some r=>
   cases r' with
   |none=>exact h4.elim
   |some r'=>
    obtain⟨a,p⟩:=r;obtain⟨b,u⟩:=r';obtain⟨_,j,e',x',_,_,_,_,_,hpu,_⟩:=h4;cases ok with
    |true=>exact⟨.tuple #[u,.bool true],by simp[hc,h3],.atom _ _ (show Ta R _ _ from .mc _ _ (.cons _ _ _ _ hpu (.cons _ _ _ _ (.bool _) .nil)))⟩
    |false=>exact⟨u,by simp[hc,h3],.atom _ _ (show Ta R _ _ from hpu)⟩
 rcases hes with⟨rfl,rfl⟩ | ⟨id,rfl,G7⟩
 ·have:=hm.Sb
  cases this;obtain⟨u,h5,h6⟩:=go #[] trivial;refine⟨u,?_,h6⟩;rw[<- h5];simp only[Instr.lookup,Sem.run_bind,run_underlying hu,Result.andThen_ok,Sem.run_pure];rfl
 ·have D8:=hm.wW
  rw[D8.2.2 _ G7];obtain⟨_,_,N7,clk,h7,h8⟩:=hS.obj _ _ G7
  obtain⟨u,h5,h6⟩:=go N7 h8;refine⟨u,?_,h6⟩;rw[<- h5];have hg:(getObj (φ id).1).run P w= .ok (.map N7 clk) w:=by simp[getObj,Sem.run,h7]
  simp only[Instr.lookup,Sem.run_bind,run_underlying hu,Result.andThen_ok,hg,Sem.run_pure];rfl
theorem Ey.push{es:List (PV×PV)}{xs:List MapEntry}{e:PV×PV}{x:MapEntry}(h:Ey R es xs)(h1:Ta R e.1 x.key)(h2:Ta R e.2 x.val):Ey R (es++[e]) (xs++[x]):=by
 induction es generalizing xs with
 |nil=>cases xs with
  |nil=>exact⟨h1,h2,trivial⟩
  |cons=>exact h.elim
 |cons a as ih=>cases xs with
  |nil=>exact h.elim
  |cons y ys=>exact⟨h.1,h.2.1,ih h.2.2⟩
theorem Ey.set{es:List (PV×PV)}{xs:List MapEntry}{e:PV×PV}{x:MapEntry}(h:Ey R es xs)(h1:Ta R e.1 x.key)(h2:Ta R e.2 x.val):∀ i,Ey R (es.set i e) (xs.set i x):=by
 induction es generalizing xs with
 |nil=>intro i;cases xs with
  |nil=>trivial
  |cons=>exact h.elim
 |cons a as ih=>intro i;cases xs with
  |nil=>exact h.elim
  |cons y ys=>cases i with
   |zero=>exact⟨h1,h2,h.2.2⟩
   |succ i=>exact⟨h.1,h.2.1,ih h.2.2 i⟩
def pP(w:World)(b:Nat)(N7:Array MapEntry)(clk:Nat):World:={w with heap:=w.heap.setIfInBounds b (.map N7 clk)}
theorem nG(hS:vc fo B0 w R φ H){t:TypeId}{kd:Kd}(h1:MQ P t kd=true){id:Nat}{k x:PV}{vm vk vx:Value}(hm:Sc fo (K R φ H) (.mp id) vm)(hk:Ta R k vk)(hx:Ta R x vx){es:List (PV×PV)}
 (G7:H[id]? =some (.map es)) (hkk:(Ql kd k k).isSome=true) {r:Option (Nat×PV)} (hf:qn kd k es 0=some r):
 ∃ w' φ',(Instr.mapUpdate t vm vk vx).run P w= .ok () w'/\vc fo B0 w' R φ' (H.set id (.map (match r with | some (i,_)=>es.set i (k,x) | none=>es++[(k,x)])))/\
  (∀ a u,K R φ H a u->K R φ' (H.set id (.map (match r with | some (i,_)=>es.set i (k,x) | none=>es++[(k,x)]))) a u)/\oh B0 w w':=by
 obtain⟨kt,e,hu,hkd⟩:=OJ h1;obtain⟨b,hb⟩:=Ead.1 hkk
 have D8:=hm.wW
 rw[D8.2.2 _ G7];obtain⟨o1,o2,N7,clk,h7,h8⟩:=hS.obj _ _ G7
 have hc:=eB (w:=w) hkd hk hb false;obtain⟨r',h3,h4⟩:=qG (w:=w) hkd hk h8 hf;have hlt:(φ id).1 < w.heap.size:=by
  rcases Xaa (φ id).1 w.heap.size with hlt | hge
  ·exact hlt
  ·rw[Qad hge] at h7;cases h7
 have hg:(getObj (φ id).1).run P w= .ok (.map N7 clk) w:=by simp[getObj,Sem.run,h7]
 have F8:∀ o,(setObj (φ id).1 o).run P w= .ok () {w with heap:=w.heap.setIfInBounds (φ id).1 o}:=fun o=>by simp[setObj,Sem.run,h7]
 have heap:∀ {ents':Array MapEntry}{clk' j:Nat},j≠(φ id).1->(pP w (φ id).1 ents' clk').heap[j]? =w.heap[j]? :=by intro ents' clk' j hj;simp only[pP];rw[Array.getElem?_setIfInBounds_ne (rac hj)]
 have fin:∀ (ents':Array MapEntry)(clk':Nat)(es':List (PV×PV)),Ey R es' ents'.toList->(Instr.mapUpdate t (.map (some (φ id).1)) vk vx).run P w= .ok () (pP w (φ id).1 ents' clk')->
  ∃ w' φ',(Instr.mapUpdate t (.map (some (φ id).1)) vk vx).run P w= .ok () w'/\vc fo B0 w' R φ' (H.set id (.map es'))/\(∀ a u,K R φ H a u->K R φ' (H.set id (.map es')) a u)/\oh B0 w w':=by
  intro ents' clk' es' hM L7;have hkk:=fun a v=>K.map_set (R:=R) (φ:=φ) (c':=es') G7 a v
  refine⟨_,Wm φ id (φ id),L7,?_,hkk,.oL h7 rfl rfl rfl rfl (by simp[pP]) o1 hS.slt (hS.free id ⟨_,G7,trivial⟩) fun k _ I7=>heap I7⟩;refine hS.Wm (w':=pP w (φ id).1 ents' clk') G7 (by simp[pP]) (fun b hb I7=>heap (I7 trivial)) (fun _ _ _ _=>rfl) (fun b o v hv=> ?_) hkk (fun _=> .inl ⟨trivial,rfl⟩) ?_
  ·rw[Rf (heap (fun e=>by subst e;rw[o2] at hv;cases hv))];exact hS.sub b o v hv
  ·refine⟨by rw[Fb];exact o1,by rw[Fb];exact o2,ents',clk',?_,hM⟩
   rw[Fb];simp[pP,hlt]
 cases r with
 |none=>
  cases r' with
  |some=>exact h4.elim
  |none=>
   refine fin (N7.push {key:=vk,val:=vx,born:=clk}) (clk+1) (es++[(k,x)]) ?_ ?_
   ·simpa using h8.push (e:=(k,x)) (x:={key:=vk,val:=vx,born:=clk}) hk hx
   ·simp only[Instr.mapUpdate,Sem.run_bind,run_underlying hu,Result.andThen_ok,hg,hc,h3]
    rw[F8];rfl
 |some r=>
  cases r' with
  |none=>exact h4.elim
  |some r'=>
   obtain⟨a,p⟩:=r;obtain⟨i,u⟩:=r';obtain⟨rfl,j,e',x',hj,he',hx',_,_,_,hke,heq⟩:=h4;have hj':a=j:=by omega
   subst hj';obtain⟨Caj,hsb⟩:=BT hk hke heq;have hge:N7[a]? =some x':=by simpa using hx'
   refine fin (N7.modify a fun e=>{e with key:=vk,val:=vx}) clk (es.set a (k,x)) ?_ ?_
   ·have Daj:(N7.modify a fun e=>{e with key:=vk,val:=vx}).toList=N7.toList.set a {x' with key:=vk,val:=vx}:=by
     apply Vab;intro q;rw[Array.getElem?_toList,sad,List.getElem?_set]
     by_cases hq:a=q
     ·subst hq
      have Haa:a < N7.size:=by simpa using getElem?_lt hx'
      have hga:N7[a]=x':=by rw[Cad Haa] at hge;injection hge
      simp[hge,Haa,hga]
     ·simp[hq]
    rw[Daj];exact h8.set (e:=(k,x)) (x:={x' with key:=vk,val:=vx}) hk hx a
   ·have hks:(Instr.keyThatStays x'.key vk).run P w= .ok vk w:=by
     have:=hsb 9998;rw[<- Caj] at this ⊢;simp only[Instr.keyThatStays];rw[if_pos this];simp
    simp only[Instr.mapUpdate,Sem.run_bind,run_underlying hu,Result.andThen_ok,hg,hc,h3,hge,Kaa,aad,hks];rw[F8];rfl
theorem rB{t:TypeId}(hg:P.eqGuardType P.depth t=false)(op:BinOp)(ox oy:Operand){p q:PV}{v u:Value}{kd:Kd}(hp:Ta R p v)(hq:Ta R q u){b:Bool}(h:Ql kd p q=some b):(eqGuard op t ox oy v u).run P w= .ok () w:=by
 have aX:∀ xs ys,(eqGuard op t ox oy (.agg xs) (.agg ys)).run P w= .ok () w:=by intro xs ys;cases op <;> simp[eqGuard,hg,Go.program,Sem.run]
 unfold Ql at h
 split at h
 ·rcases gG h with⟨_,c,d,rfl,rfl,_⟩ | ⟨_,i,c,d,rfl,rfl,_⟩ | ⟨_,c,d,rfl,rfl,_⟩ <;> cases hp <;> cases hq <;> cases op <;> rfl
 ·cases hp;cases hq;exact aX _ _
 ·cases h
theorem K.kill{id:Nat}{o:ba}(G7:H[id]? =some o)(a:AV)(v:Value)(hk:K R φ H a v):K R (Wm φ id (φ id)) (H.set id .dead) a v:=by
 have hl:(H.set id .dead).length=H.length:=by simp
 have inv:∀ {i:Nat}{x:ba},(H.set id .dead)[i]? =some x->x≠ .dead->i≠id/\H[i]? =some x:=by
  intro i x hx hd
  by_cases e:i=id
  ·subst e;rw[Qaa (getElem?_lt G7)] at hx;injection hx with hx;exact absurd hx.symm hd
  ·rw[Jaa (rac e)] at hx;exact⟨e,hx⟩
 cases a with
 |pv p=>exact hk
 |ptr i off=>exact⟨by rw[hl];exact hk.1,hk.2.1,fun c hc=>by obtain⟨q1,q2⟩:=inv hc (by simp);rw[De _ _ q1];exact hk.2.2 c q2⟩
 |Ec i n off=>exact⟨by rw[hl];exact hk.1,hk.2.1,fun sz ag c fl nl hc=>by obtain⟨q1,q2⟩:=inv hc (by simp);rw[De _ _ q1];exact hk.2.2 _ _ _ _ _ q2⟩
 |uq i nl sz es=>exact⟨by rw[hl];exact hk.1,hk.2.1,hk.2.2.1,fun sz n nl hc=>by obtain⟨q1,q2⟩:=inv hc (by simp);rw[De _ _ q1];exact hk.2.2.2 _ _ _ q2⟩
 |own i n=>exact⟨by rw[hl];exact hk.1,hk.2.1,fun sz ag c fl nl hc=>by obtain⟨q1,q2⟩:=inv hc (by simp);rw[De _ _ q1];exact hk.2.2 _ _ _ _ _ q2⟩
 |mp i=>exact⟨by rw[hl];exact hk.1,hk.2.1,fun es hc=>by obtain⟨q1,q2⟩:=inv hc (by simp);rw[De _ _ q1];exact hk.2.2 _ q2⟩
 |Ol=>exact hk.elim
 |agg=>exact hk.elim
 |mc=>exact hk.elim
 |undef=>exact hk.elim
theorem WU{o:Oper}{a:Act}{s:TypeId}{x:Operand}(ho:o.op= .convert s s x)(hS:vc fo B0 w R φ H){id n:Nat}{es:List PV}(hr:Sc fo (K R φ H) (.uq id false 1 es) (a.eval x))(G7:H[id]? =some (.tok 1 n false))(hn:n=es.length)
 (hsl:(match Tx P s with | some el=>J3 P el | none=>false)=true):tC P fo B0 o a w R φ H (.pv (.lit 1 es)) (H.set id .dead):=by
 cases I8:Tx P s with
 |none=>simp[I8] at hsl
 |some el=>
  simp only[I8] at hsl;have hu:=Bp I8;have he:P.underlying el=some (.int .u8):=by
   unfold J3 at hsl
   split at hsl
   ·assumption
   ·cases hsl
  have hk:=hr.Zw
  obtain⟨_,hk4⟩:=hk.2.2.2 _ _ _ G7
  obtain⟨_,_,hv⟩:=hk4 hn;have hv:=hv rfl;have hp:=hk.2.2.1 rfl
  obtain⟨h0,_,h3⟩:=hS.obj _ _ G7
  obtain⟨o1,o2,arr,⟨ty,fz,hb,hf⟩,o4,o5⟩:=h3 rfl;have hlt:(φ id).1 < w.heap.size:=Nz.lt ⟨ty,fz,hb,hf⟩
  have dah:(convert s s (a.eval x)).run P w= .ok (a.eval x) (w.freeze ⟨(φ id).1,arr.size,none⟩ 1):=by rw[hv];simp[convert,run_underlying hu,run_underlying he,markStringish,World.shape?,hb]
  intro next Q hn'
  unfold Oper.wp
  have:(execOp a.eval o).run P w= .ok (.value (a.eval x)) (w.freeze ⟨(φ id).1,arr.size,none⟩ 1):=by simp[execOp,ho,dah]
  rw[this];have heap:∀ {j:Nat},j≠(φ id).1->(w.freeze ⟨(φ id).1,arr.size,none⟩ 1).heap[j]? =w.heap[j]? :=by intro j hj;simp only[World.freeze];rw[taa (by omega)];simp[sad,rac hj]
  have self:∃ fz',(w.freeze ⟨(φ id).1,arr.size,none⟩ 1).heap[(φ id).1]? =some (.cells arr ty fz'):=by simp only[World.freeze];rw[taa (by omega)];rw[sad,if_pos rfl,hb];exact⟨_,rfl⟩
  obtain⟨fz',self⟩:=self;have cell:∀ b o,(w.freeze ⟨(φ id).1,arr.size,none⟩ 1).cell? ⟨b,o,none⟩=w.cell? ⟨b,o,none⟩:=by
   intro b o
   by_cases e:b=(φ id).1
   ·subst e;simp[World.cell?,self,hb]
   ·exact Rf (heap e)
  have K7:(w.freeze ⟨(φ id).1,arr.size,none⟩ 1).heap.size=w.heap.size:=by simp only[World.freeze];rw[taa (by omega)];simp
  have hkk:=fun a v=>K.kill (R:=R) (φ:=φ) G7 a v
  refine hn' _ _ R (Wm φ id (φ id)) ?_ (.atom _ _ (show Ta R _ _ from hp)) hkk ?_
  ·exact hS.Wm (w':=w.freeze ⟨(φ id).1,arr.size,none⟩ 1) G7 (by rw[K7];exact waa _) (fun b hb I7=>heap (I7 rfl)) (fun _ _ _ _=>rfl) (fun b o v h=>by rw[cell];exact hS.sub b o v h) hkk (fun h=>h.elim) trivial
  ·refine .oL hb rfl ?_ ?_ ?_ (by rw[K7];exact waa _) o1 hS.slt (hS.free id ⟨_,G7,rfl⟩) (fun k _ I7=>heap I7) <;> (simp only[World.freeze];rw[taa (by omega)])
end
section ops
variable {P:Program}{fo:Nat->FuncId}{B0:wg}{w:World}{R:Rd}{φ:Pl}{H H':List ba}{e:Tr}{a:Act}{call:Sa}
theorem pM{v:AV}{u:Value}(h:Sc fo (K R φ H) v u):Sc fo (K R φ H) v.Tq u:=by
 cases v with
 |uq id nl sz es=>
  have hk:=h.Zw
  cases nl with
  |true=>rw[(hk.2.1 rfl).1];exact .atom _ _ (show Ta R _ _ from .ga)
  |false=>exact .atom _ _ (show Ta R _ _ from hk.2.2.1 rfl)
 |_=>exact h
theorem rN:∀ {cs:List AV}{vs:List Value},mb fo (K R φ H) cs vs->mb fo (K R φ H) (cs.map AV.Tq) vs
 | [],_,.nil=> .nil
 |_::_,_,.cons _ _ _ _ h1 h2=> .cons _ _ _ _ (pM h1) (rN h2)
theorem SZ{v:AV}{u:Value}(h:Sc fo (K R φ H) v u):Sc fo (K R φ H) v.WE u:=by
 cases v with
 |agg cs=>
  cases h with
  |atom _ _ h=>exact h.elim
  |agg _ vs h=>exact Lz (rN h)
 |uq id nl sz es=>exact pM h
 |_=>exact h
theorem gB(hE:ij fo (K R φ H) e a){sz:Nat}:∀ {parts:List (Nat×Operand)}{aparts:List (Nat×AO)},yz fo parts aparts=true->
 (parts.map fun p=>(p.1,a.eval p.2)).length=(aparts.map fun p=>(p.1 * sz,sz,jj e p.2)).length/\
 ∀ (j:Nat)(i:Nat)(v:Value)(off s:Nat)(x:AV),(parts.map fun p=>(p.1,a.eval p.2))[j]? =some (i,v)->(aparts.map fun p=>(p.1 * sz,sz,jj e p.2))[j]? =some (off,s,x)->off=i * sz/\s=sz/\Sc fo (K R φ H) x v
 | [],[],_=>⟨rfl,fun j i v off s x h=>by simp at h⟩
 | (i,x)::xs,(j,y)::ys,h=>by
   simp only[yz,daa,beq_iff_eq] at h;obtain⟨⟨rfl,h1⟩,h2⟩:=h;obtain⟨q1,q2⟩:=gB hE (sz:=sz) h2;refine⟨by simpa using q1,fun k i' v off s z e1 e2=> ?_⟩;cases k with
   |zero=>simp at e1 e2;obtain⟨rfl,rfl⟩:=e1;obtain⟨rfl,rfl,rfl⟩:=e2;exact⟨rfl,rfl,SZ (Rb hE h1)⟩
   |succ k=>exact q2 k i' v off s z (by simpa using e1) (by simpa using e2)
 | [],_::_,h=>by simp[yz] at h
 |_::_,[],h=>by simp[yz] at h
theorem oS(hE:ij fo (K R φ H) e a){x:Option Operand}{y:Option AO}(h:PR fo x y=true):(x=none/\y=none)\/∃ x' y',x=some x'/\y=some y'/\Xm fo x' y'=true:=by
 cases x <;> cases y <;> simp[PR] at h
 ·exact .inl ⟨rfl,rfl⟩
 ·exact .inr ⟨_,_,rfl,rfl,h⟩
theorem D5{ag:Bool}{x:Bool}(h:(!ag||x)=true):ag=true->x=true:=by
 intro e;subst e;simpa using h
theorem fN(hS:vc fo B0 w R φ H){x:AV}{vx:Value}(hx:Sc fo (K R φ H) x vx){s:ByteArray}(h:TH H x=some s):(∃ sa sl sc,vx= .slice sa sl sc)/\(Conv.bytesToString vx).run P w= .ok (.string s) w:=by
 have lits:∀ {es:List PV}{l:List UInt8},Ta R (.lit 1 es) vx->bytesOf es=some l->s=⟨l.toArray⟩->(∃ sa sl sc,vx= .slice sa sl sc)/\(Conv.bytesToString vx).run P w= .ok (.string s) w:=by intro es l hp hb hs;subst hs;refine⟨?_,MR hS hp hb⟩;cases hp <;> exact⟨_,_,_,rfl⟩
 have ga:vx= .slice none 0 0->s=ByteArray.empty->(∃ sa sl sc,vx= .slice sa sl sc)/\(Conv.bytesToString vx).run P w= .ok (.string s) w:=by rintro rfl rfl;exact⟨⟨_,_,_,rfl⟩,by simp[Conv.bytesToString]⟩
 unfold TH at h
 split at h
 ·injection h with h
  have:=hx.Sb
  cases this;exact ga rfl h.symm
 ·simp only[faa] at h
  obtain⟨l,h1,h2⟩:=h;exact lits hx.Sb h1 h2.symm
 ·rename_i id nl es
  simp only[faa] at h;obtain⟨l,h1,h2⟩:=h;have hk:=hx.Zw
  cases nl with
  |true=>
   obtain⟨rfl,rfl⟩:=hk.2.1 rfl
   simp[bytesOf] at h1;subst h1;exact ga rfl h2.symm
  |false=>exact lits (hk.2.2.1 rfl) h1 h2.symm
 ·rename_i id len
  have hk:=hx.iC
  split at h
  ·rename_i sz ag c fl nl hc
   split at h
   ·rename_i V8
    obtain⟨rfl,iab⟩:=V8;obtain⟨k0,k⟩:=hk.2.2 _ _ _ _ _ hc
    obtain⟨o0,o1,o2,o3,o4⟩:=hS.obj _ _ hc
    obtain⟨k1,k2⟩:=k (by omega);cases nl with
    |true=>simp only[if_true,eaa] at h;exact ga (k1 rfl) h.symm
    |false=>
     simp only[Baa,if_false,faa,uaa] at h;obtain⟨l,⟨ps,hps,hl⟩,rfl⟩:=h;rcases k2 rfl with⟨q1,q2,_⟩ | ⟨b,o,cap,q1,q2,_⟩
     ·subst q1;exact absurd (yaa (by omega)) q2
     ·obtain⟨rfl,rfl,rfl⟩:=q2 iab
      subst q1;obtain⟨_,_,arr,p3,p4,p5,p6⟩:=o4 rfl;have h7:=Rk hps p6;obtain⟨ns,e1,rfl⟩:=BI hl h7;refine⟨⟨_,_,_,rfl⟩,?_⟩;have hlen:(ns.map (Value.int .u8)).length=len:=by rw[<- e1,Lab];simp;omega
      have:=run_bytesToString (P:=P) w ⟨(φ id).1,0,none⟩ len (φ id).2 ns (by
       have:=Xl (P:=P) (w:=w) (b:=(φ id).1) (o:=0) (vs:=ns.map (Value.int .u8)) (fun j v hj=>by
        rw[eab,p3.cell];rw[<- e1,Rab] at hj
        split at hj
        ·simpa using hj
        ·cases hj) hlen
       simpa using this)
      rw[this]
      congr 2
      have h4:=foldl_push ns ByteArray.empty
      generalize ns.foldl (fun r n=>r.push (UInt8.ofNat n.toNat)) ByteArray.empty=z at h4
      obtain⟨⟨z⟩⟩:=z;simp at h4;subst h4;rfl
   ·cases h
  ·cases h
 ·cases h
theorem IS(hS:vc fo B0 w R φ H){x:AV}{vx:Value}(hx:Sc fo (K R φ H) x vx){s:ByteArray}(h:TH H x=some s):∃ sa sl sc,vx= .slice sa sl sc:=(fN (P:=default) hS hx h).1
theorem aZ(hS:vc fo B0 w R φ H){x:AV}{vx:Value}(hx:Sc fo (K R φ H) x vx){s:ByteArray}(h:TH H x=some s):(Conv.bytesToString vx).run P w= .ok (.string s) w:=(fN hS hx h).2
theorem ZQ(hE:ij fo (K R φ H) e a){pl:Nat->Option (Nat×Nat)}:∀ {xs:List (Nat×Operand)}{ys:List (Nat×Nat×AO)},mq pl fo xs ys=true->(xs.map fun p=>(p.1,a.eval p.2)).length=(ys.map fun p=>(p.1,p.2.1,p.2.2.ev e)).length/\
 ∀ (j:Nat)(i:Nat)(v:Value)(off s:Nat)(x:AV),(xs.map fun p=>(p.1,a.eval p.2))[j]? =some (i,v)->(ys.map fun p=>(p.1,p.2.1,p.2.2.ev e))[j]? =some (off,s,x)->pl i=some (off,s)/\Sc fo (K R φ H) x v:=by
 intro xs
 induction xs with
 |nil=>
  intro ys h;cases ys with
  |nil=>exact⟨rfl,fun j i v off s x h=>by simp at h⟩
  |cons y ys=>simp[mq] at h
 |cons x xs ih=>
  intro ys h;cases ys with
  |nil=>simp[mq] at h
  |cons y ys=>
   obtain⟨i,x⟩:=x;obtain⟨off,sz,y⟩:=y;simp only[mq,daa,beq_iff_eq] at h;obtain⟨q1,q2⟩:=ih h.2
   refine⟨by simpa using q1,fun k i' v off' s z e1 e2=> ?_⟩;cases k with
   |zero=>simp at e1 e2;obtain⟨rfl,rfl⟩:=e1;obtain⟨rfl,rfl,rfl⟩:=e2;exact⟨h.1.1,Rb hE h.1.2⟩
   |succ k=>exact q2 k i' v off' s z (by simpa using e1) (by simpa using e2)
theorem WI(hS:vc fo B0 w R φ H)(hE:ij fo (K R φ H) e a){t:TypeId}{pl:Nat->Option (Nat×Nat)}{parts:Array (Nat×Operand)}{aparts:List (Nat×Nat×AO)}{zero:List PV}
 (hu:(∃ fs:Array Field,P.underlying t=some (.struct fs)/\(fs.all fun f=>(Ud P f.type).isSome)=true/\pl=fun i=>fs[i]?.map fun f=>(f.offset,(Ud P f.type).getD 0))\/∃ n el k,P.underlying t=some (.array n el)/\Ud P el=some k/\pl=fun i=>some (i * k,k))
 (hb:mq pl fo parts.toList aparts=true) (hz:tw P t zero=true) {cs:List AV} (hf:Yr (zero.map .pv) (aparts.map fun p=>(p.1,p.2.1,p.2.2.ev e))=some cs):
 Zm fo B0 w R φ H P (Instr.build t (parts.map fun (i,x)=>(i,a.eval x))) (gv cs) H:=by
 unfold tw at hz;cases hi:P.info? t with
 |none=>simp[hi] at hz
 |some i=>
  simp only[hi] at hz;cases hzz:i.zero with
  |none=>simp[hzz] at hz
  |some z=>
   simp only[hzz] at hz;obtain⟨h1,h2⟩:=Io (R:=R) hz;obtain⟨s1,s2⟩:=ZQ hE hb;obtain⟨D9,r1,r2⟩:=bH (fo:=fo) (R:=R) (φ:=φ) (H:=H) pl (cs:=z.cells) s1 s2 (mb.RG h1) hf;have Rac:(parts.map fun (i,x)=>(i,a.eval x)).toList=parts.toList.map fun p=>(p.1,a.eval p.2):=by simp
   refine Tt.same (.agg D9) hS ?_ (by simpa using Lz r2)
   rcases hu with⟨fs,hu,v8,rfl⟩ | ⟨n,el,k,hu,hk,rfl⟩
   ·have V7:∀ (l:List Field),(∀ f∈l,(Ud P f.type).isSome=true)->(l.mapM fun f=>(do pure (f.offset,<-sizeOf f.type):Sem (Nat×Nat))).run P w= .ok (l.map fun f=>(f.offset,(Ud P f.type).getD 0)) w:=by
     intro l
     induction l with
     |nil=>intro _;simp
     |cons f l ih=>
      intro hl;obtain⟨n,hn⟩:=Ead.1 (hl f (by simp))
      rw[List.mapM_cons];simp only[Sem.run_bind,zc hn,Result.andThen_ok,Sem.run_pure,ih (fun g hg=>hl g (by simp[hg]))];simp[hn]
    have Oad:(fs.mapM fun f=>(do pure (f.offset,<-sizeOf f.type):Sem (Nat×Nat))).run P w= .ok (fs.map fun f=>(f.offset,(Ud P f.type).getD 0)) w:=by
     have:=V7 fs.toList (fun f hf=>by
      rw[Array.all_eq_true] at v8;obtain⟨i,hi,rfl⟩:=List.mem_iff_getElem.1 hf
      simpa using v8 i (by simpa using hi))
     rw[Array.mapM_eq_mapM_toList];simp only[Sem.run_map,this,Result.andThen_ok];exact congrArg (fun x=>Result.ok x w) (by apply Qac;simp)
    have Sl:(fun i:Nat=>(fs.map fun (f:Field)=>(f.offset,(Ud P f.type).getD 0))[i]?)=fun i:Nat=>fs[i]?.map fun (f:Field)=>(f.offset,(Ud P f.type).getD 0):=by funext i;simp
    rw[<- Sl] at r1;simp only[Instr.build,Sem.run_bind,zeroValue,run_typeInfo w hi,Result.andThen_ok,hzz,Sem.run_pure,run_underlying hu,Oad,Rac,r1]
   ·simp only[Instr.build,Sem.run_bind,zeroValue,run_typeInfo w hi,Result.andThen_ok,hzz,Sem.run_pure,run_underlying hu,zc hk,Rac,r1]
theorem bW{t:TypeId}{f off:Nat}(h:(match B2 P t f with | some fd=>fd.offset==off&&(match Ud P fd.type with | some n=>n != 0 | none=>false) | none=>false)=true):
 ∃ fs fd n,P.underlying t=some (.struct fs)/\fs[f]? =some fd/\fd.offset=off/\Ud P fd.type=some n/\n≠0:=by
 cases hs:B2 P t f with
 |none=>simp[hs] at h
 |some fd=>
  simp only[hs,daa,beq_iff_eq] at h;obtain⟨h1,h2⟩:=h;unfold B2 at hs
  split at hs
  ·rename_i fs hu
   cases hn:Ud P fd.type with
   |none=>simp[hn] at h2
   |some n=>simp[hn] at h2;exact⟨fs,fd,n,hu,hs,h1,hn,h2⟩
  ·cases hs
theorem YX{t:TypeId}{f off n:Nat}{ag:Bool}(h:(match B2 P t f with | some fd=>fd.offset==off&&Hm P fd.type==some ag&&(!ag||Ud P fd.type==some n) | none=>false)=true):
 ∃ fs fd,P.underlying t=some (.struct fs)/\fs[f]? =some fd/\fd.offset=off/\Hm P fd.type=some ag/\(ag=true->Ud P fd.type=some n):=by
 cases hs:B2 P t f with
 |none=>simp[hs] at h
 |some fd=>
  simp only[hs,daa,beq_iff_eq] at h;obtain⟨⟨h1,h2⟩,h3⟩:=h;unfold B2 at hs
  split at hs
  ·rename_i fs hu
   exact⟨fs,fd,hu,hs,h1,h2,fun e=>by simpa using D5 h3 e⟩
  ·cases hs
theorem OX{t:TypeId}{n sz:Nat}(h:(match P.underlying t with | some (.array n' el)=>n'==n&&Ud P el==some sz | _=>false)=true):∃ el,P.underlying t=some (.array n el)/\Ud P el=some sz:=by
 split at h
 ·rename_i n' el hu
  simp at h;obtain⟨rfl,h⟩:=h;exact⟨el,hu,h⟩
 ·cases h
theorem qU{t:TypeId}{n sz:Nat}{ag:Bool}(h:(match P.underlying t with | some (.array n' el)=>n'==n&&Ud P el==some sz&&Hm P el==some ag | _=>false)=true):∃ el,P.underlying t=some (.array n el)/\Ud P el=some sz/\Hm P el=some ag:=by
 split at h
 ·rename_i n' el hu
  simp at h;obtain⟨⟨rfl,h⟩,h2⟩:=h;exact⟨el,hu,h,h2⟩
 ·cases h
theorem MJ(mx:Bool){xs:List AV}{vs:List Value}{p:PV}(hl:mb fo (K R φ H) xs vs)(hb:cp mx xs=some p):
 ∃ v0 rest v,vs=v0::rest/\(rest.foldlM (if mx then Builtin.max2 else Builtin.min2) v0).run P w= .ok v w/\Ta R p v:=by
 unfold cp at hb
 split at hb
 ·rename_i k x r
  cases hl with
  |cons _ _ v vs h1 h2=>rw[Je h1 rfl];obtain⟨u,q1,q2⟩:=ZL (P:=P) (w:=w) mx h2 hb;exact⟨_,_,u,rfl,q1,q2⟩
 ·cases hb
theorem YU(s:ByteArray)(i:Nat):s[i]? =s.data.toList[i]? :=by
 by_cases h:i < s.size
 ·rw[getElem?_pos s i h]
  have h2:i < s.data.toList.length:=by rw[zad];exact h
  rw[caa h2];rfl
 ·rw[getElem?_neg s i h]
  have h2:¬i < s.data.toList.length:=by rw[zad];exact h
  rw[Yaa (by omega)]
set_option maxHeartbeats 1000000 in
theorem MP{o:Oper}{op:Op}{aop:Od}{v:AV}(ho:o.op=op)(Ba:MW P fo op aop=true)(hS:vc fo B0 w R φ H)(hE:ij fo (K R φ H) e a)(E7:xa call e H aop=some (v,H')):
 tC P fo B0 o a w R φ H v H':=by
 unfold MW at Ba
 split at Ba
 case h_1 x y=>simp[xa] at E7;obtain⟨rfl,rfl⟩:=E7;exact .su hS (by simp[execOp,ho]) (Rb hE Ba)
 case h_2 x y=>simp[xa] at E7;obtain⟨rfl,rfl⟩:=E7;exact .su hS (by simp[execOp,ho]) (Rb hE Ba)
 case h_3 c x y c' x' y'=>
  simp only[daa] at Ba;simp only[xa,uaa] at E7;obtain⟨t,h1,h2⟩:=E7;simp at h2;obtain⟨rfl,rfl⟩:=h2;have hc:=YA (Rb hE Ba.1.1) h1;refine .su (v':=if t then a.eval x else a.eval y) hS (by simp[execOp,ho,hc,Go.asBool]) ?_
  cases t
  ·exact Rb hE Ba.2
  ·exact Rb hE Ba.1.2
 case h_4 t zero=>simp[xa] at E7;obtain⟨rfl,rfl⟩:=E7;exact .xd (by simp[execOp,ho]) (iV hS Ba)
 case h_5 t x n y=>
  simp only[xa] at E7
  split at E7
  ·rename_i hc
   simp at E7;obtain⟨rfl,rfl⟩:=E7;exact .xd (by simp[execOp,ho]) (XY (t:=t) hS (Rb hE Ba) hc.2)
  ·cases E7
 case h_6 t parts zero aparts=>
  simp only[daa] at Ba;obtain⟨h1,h2⟩:=Ba;simp only[xa,faa,vaa] at E7;obtain⟨cs,hf,rfl,rfl⟩:=E7;cases hu:P.underlying t with
  |none=>simp[hu] at h1
  |some d=>
   cases d with
   |struct fs=>simp only[hu,daa] at h1;exact .xd (s:=Instr.build t (parts.map fun (i,x)=>(i,a.eval x))) (by simp[execOp,ho]) (WI hS hE (.inl ⟨fs,hu,h1.2,rfl⟩) h1.1 h2 hf)
   |array n el=>
    cases hk:Ud P el with
    |none=>simp[hu,hk] at h1
    |some k=>simp only[hu,hk] at h1;exact .xd (s:=Instr.build t (parts.map fun (i,x)=>(i,a.eval x))) (by simp[execOp,ho]) (WI hS hE (.inr ⟨n,el,k,hu,hk,rfl⟩) h1 h2 hf)
   |_=>simp[hu] at h1
 case h_7 t len parts hh sz ag len' zero aparts=>
  simp only[daa,beq_iff_eq,decide_eq_true_eq] at Ba;obtain⟨⟨⟨h1,rfl⟩,h2⟩,h3⟩:=Ba;cases I8:Tx P t with
  |none=>simp[I8] at h1
  |some el=>
   simp only[I8] at h1;simp only[xa,uaa] at E7;obtain⟨cs,hf,hfr⟩:=E7
   split at hfr
   ·rename_i R7
    obtain⟨q1,q2⟩:=gB hE (sz:=sz) h3;have:=HP (fo:=fo) (B0:=B0) hS (Bp I8) (KJ h1) h2 q1 q2 hf R7 hfr;refine .xd (s:=Instr.buildSlice t len (parts.map fun (i,x)=>(i,a.eval x))) (by simp[execOp,ho]) ?_
    have hp:(parts.map fun (i,x)=>(i,a.eval x))=(parts.toList.map fun p=>(p.1,a.eval p.2)).toArray:=by apply Qac;simp
    rw[hp];exact this
   ·cases hfr
 case h_8 t x ag n y=>
  simp only[daa,beq_iff_eq] at Ba;simp only[xa,faa,vaa] at E7;obtain⟨u,hl,rfl,rfl⟩:=E7;obtain⟨vv,h1,h2⟩:=lN (P:=P) hS (Rb hE Ba.2) Ba.1.1 (fun e=>by simpa using D5 Ba.1.2 e) hl
  exact .xd (s:=Instr.loadAt t (a.eval x)) (by simp[execOp,ho]) (Tt.same vv hS h1 h2)
 case h_9 t p x n q y=>
  simp only[daa,beq_iff_eq] at Ba;simp only[xa,faa,vaa] at E7;obtain⟨H1,hl,rfl,rfl⟩:=E7;obtain⟨w',φ',h1,h2,h3,h4⟩:=DS (P:=P) hS (Rb hE Ba.1.2) (Rb hE Ba.2) Ba.1.1 hl
  intro next Q hn
  unfold Oper.wp
  have:(execOp a.eval o).run P w= .ok .skip w':=by simp[execOp,ho,h1]
  rw[this];exact hn undef w' R φ' h2 (.atom _ _ (show Ta R _ _ from .mc [] [] .nil)) h3 h4
 case h_10 x y=>
  simp only[xa] at E7;have hx:=Rb (R:=R) (φ:=φ) (H:=H) hE Ba;generalize AO.ev e y=z at E7 hx
  obtain⟨vx,hvx⟩:∃ vx,a.eval x=vx:=⟨_,rfl⟩
  rw[hvx] at hx
  split at E7
  ·rename_i ix caps
   simp at E7;obtain⟨rfl,rfl⟩:=E7;have hx2:=hx;cases hx2 with
   |atom _ _ h=>exact h.elim
   |Ol _ _ vs h=>
    refine .su hS ?_ hx
    simp[execOp,ho,hvx]
  ·simp only[faa,vaa] at E7
   obtain⟨u,hp,rfl,rfl⟩:=E7;obtain⟨b,o',h1,h2⟩:=wD hS hx hp;have:=mP hp;subst this;refine .su hS ?_ hx
   simp[execOp,ho,hvx,h1]
 case h_11 op' t x y t' op x' y'=>simp only[daa,decide_eq_true_eq] at Ba;obtain⟨⟨rfl,h1⟩,h2⟩:=Ba;simp only[xa,faa,vaa] at E7;obtain⟨p,hp,rfl,rfl⟩:=E7;obtain⟨u,q1,q2⟩:=qZ (P:=P) (w:=w) (Rb hE h1) (Rb hE h2) hp t x y;exact .xd (s:=do eqGuard op' t x y (a.eval x) (a.eval y);binOp op' t (a.eval x) (a.eval y)) (by simp[execOp,ho]) (Tt.same u hS q1 (.atom _ _ q2))
 case h_12 t x y t' k x' y'=>
  simp only[daa,beq_iff_eq] at Ba;simp only[xa,faa,vaa] at E7;obtain⟨b,hb,rfl,rfl⟩:=E7;have:=NV Ba.1.1 hS (Rb hE Ba.1.2) (Rb hE Ba.2) hb .eql (.inl rfl) x y
  exact .xd (s:=do eqGuard .eql t x y (a.eval x) (a.eval y);binOp .eql t (a.eval x) (a.eval y)) (by simp[execOp,ho]) (Tt.same _ hS this (.atom _ _ (by simpa[K] using Ta.bool (R:=R) b)))
 case h_13 t x y t' k x' y'=>
  simp only[daa,beq_iff_eq] at Ba;simp only[xa,faa,vaa] at E7;obtain⟨b,hb,rfl,rfl⟩:=E7;have:=NV Ba.1.1 hS (Rb hE Ba.1.2) (Rb hE Ba.2) hb .neq (.inr rfl) x y
  exact .xd (s:=do eqGuard .neq t x y (a.eval x) (a.eval y);binOp .neq t (a.eval x) (a.eval y)) (by simp[execOp,ho]) (Tt.same _ hS this (.atom _ _ (by simpa[K] using Ta.bool (R:=R) (!b))))
 case h_14 op' t x op y=>simp only[daa,decide_eq_true_eq] at Ba;obtain⟨rfl,h1⟩:=Ba;simp only[xa,faa,vaa] at E7;obtain⟨p,hp,rfl,rfl⟩:=E7;obtain⟨u,q1,q2⟩:=L4 (P:=P) (w:=w) (Rb hE h1) hp;exact .xd (s:=Op.unary op' (a.eval x)) (by simp[execOp,ho]) (Tt.same u hS q1 (.atom _ _ q2))
 case h_15 s d x k y=>
  simp only[daa] at Ba;simp only[xa,faa,vaa] at E7;obtain⟨⟨k',n⟩,hp,rfl,rfl⟩:=E7;have hx:=Je (Rb hE Ba.2) hp;obtain⟨ds,hds⟩:=Ead.1 Ba.1.1
  have hd:P.underlying d=some (.int k):=by
   have:=Ba.1.2
   unfold Q6 at this
   split at this
   ·rename_i k2 h;simp at this;subst this;exact h
   ·cases this
  refine .xd (s:=convert s d (a.eval x)) (by simp[execOp,ho]) (Tt.same _ hS ?_ (.atom _ _ (show Ta R _ _ from .int _ _)))
  rw[hx];exact CX hds hd
 case h_16 s d x y=>
  simp only[daa] at Ba;obtain⟨⟨h1,h2⟩,h3⟩:=Ba;simp only[xa,faa,vaa] at E7;obtain⟨str,hp,rfl,rfl⟩:=E7;have hx:=Rb (R:=R) (φ:=φ) (H:=H) hE h3;cases I8:Tx P s with
  |none=>simp[I8] at h1
  |some el=>
   simp only[I8] at h1;have hs:=Bp I8;have hb:P.underlying el=some (.int .u8):=by
    unfold J3 at h1
    split at h1
    ·rename_i h;exact h
    ·cases h1
   have hd:P.underlying d=some .string:=by
    unfold W4 at h2
    split at h2
    ·rename_i h;exact h
    ·cases h2
   have hr:=aZ (P:=P) hS hx hp;refine .xd (s:=convert s d (a.eval x)) (by simp[execOp,ho]) (Tt.same (.string str) hS ?_ (.atom _ _ (show Ta R _ _ from .str _)))
   obtain⟨sa,sl,sc,hv⟩:=IS hS hx hp;rw[hv] at hr ⊢;rw[run_convert_bytes_string w s d el sa sl sc hs hb hd];exact hr
 case h_17 s d x hh y=>
  simp only[daa] at Ba;obtain⟨⟨h1,h2⟩,h3⟩:=Ba;obtain⟨ds,hds⟩:=Ead.1 h1
  simp only[xa] at E7;have hx:=Rb (R:=R) (φ:=φ) (H:=H) hE h3
  split at E7
  ·rename_i b hy
   rw[hy] at hx;obtain⟨vx,hvx⟩:∃ vx,a.eval x=vx:=⟨_,rfl⟩
   rw[hvx] at hx;have hp:=hx.Sb
   cases hp;cases I8:Tx P d with
   |none=>simp[I8] at h2
   |some el=>
    simp only[I8] at h2;have hb:P.underlying el=some (.int .u8):=by
     unfold J3 at h2
     split at h2
     ·rename_i h;exact h
     ·cases h2
    exact .xd (s:=convert s d (.string b)) (by simp[execOp,ho,hvx]) (dZ hS hds (Bp I8) hb E7)
  ·cases E7
 case h_18 f first caps ix ys=>
  simp only[daa,beq_iff_eq] at Ba;obtain⟨⟨h1,rfl⟩,h2⟩:=Ba;simp[xa] at E7;obtain⟨rfl,rfl⟩:=E7;have hf:first= #[]:=by simpa using h1
  have:=Mt (R:=R) (φ:=φ) (H:=H) hE h2;refine .xd (s:=Instr.makeFunc (.func (fo ix)) (first.map a.eval) (caps.map a.eval)) (by simp[execOp,ho]) (Tt.same (.func (.func (fo ix)) #[] (caps.map a.eval)) hS (by simp[Instr.makeFunc,hf]) ?_)
  have eah:caps.map a.eval=⟨caps.toList.map a.eval⟩:=by apply Qac;simp
  rw[eah];exact .Ol _ _ _ this
 case h_19 t l c hh sz ag zero bytes l' c'=>
  simp only[daa,decide_eq_true_eq] at Ba;obtain⟨⟨⟨h1,h2⟩,h3⟩,h4⟩:=Ba;cases I8:Tx P t with
  |none=>simp[I8] at h1
  |some el=>
   simp only[I8,daa,beq_iff_eq] at h1;simp only[xa,uaa] at E7;obtain⟨⟨kl,nl⟩,hl,⟨kc,nc⟩,hc,C8⟩:=E7
   split at C8
   ·rename_i V8
    have e1:=Je (Rb hE h3) hl;have e2:=Je (Rb hE h4) hc;refine .xd (s:=Instr.makeSlice t (a.eval l) (a.eval c)) (by simp[execOp,ho]) ?_
    rw[e1,e2];exact WN hS (Bp I8) (KJ h1.1) h1.2 h2 V8.1 V8.2.1 V8.2.2 C8
   ·cases C8
 case h_20 t x lo hi sz y lo' hi'=>
  simp only[daa] at Ba;obtain⟨⟨⟨h1,h2⟩,h3⟩,h4⟩:=Ba;have hx:=Rb (R:=R) (φ:=φ) (H:=H) hE h2;have hu:(sz≠0/\∃ el,P.underlying t=some (.slice el)/\Ud P el=some sz)\/(sz=0/\P.underlying t=some .string):=by
   cases hu:P.underlying t with
   |none=>simp[hu] at h1
   |some d=>
    cases d <;> simp[hu] at h1
    ·exact .inr ⟨h1,rfl⟩
    ·exact .inl ⟨h1.1,_,rfl,h1.2⟩
  have fin:∀ {l h:Option Int},((lo.map a.eval=none/\l=none)\/∃ k n,lo.map a.eval=some (.int k n)/\l=some n)->((hi.map a.eval=none/\h=none)\/∃ k n,hi.map a.eval=some (.int k n)/\h=some n)->
   (ug H sz (AO.ev e y) l h).map (fun v=>(v,H))=some (v,H')->tC P fo B0 o a w R φ H v H':=by
   intro l h hl hh hsl;simp only[faa,vaa] at hsl;obtain⟨u,hu2,rfl,rfl⟩:=hsl;exact .xd (s:=Instr.sliceAt t (a.eval x) (lo.map a.eval) (hi.map a.eval) none) (by simp[execOp,ho]) (QT hS hx hu hl hh hu2)
  rcases oS hE h3 with⟨rfl,rfl⟩ | ⟨x1,y1,rfl,rfl,g1⟩ <;> rcases oS hE h4 with⟨rfl,rfl⟩ | ⟨x2,y2,rfl,rfl,g2⟩
  ·simp only[xa] at E7
   exact fin (.inl ⟨rfl,rfl⟩) (.inl ⟨rfl,rfl⟩) E7
  ·simp only[xa,uaa] at E7
   obtain⟨⟨k,n⟩,h5,h6⟩:=E7;exact fin (.inl ⟨rfl,rfl⟩) (.inr ⟨k,n,by simp[Je (Rb hE g2) h5],rfl⟩) h6
  ·simp only[xa,uaa] at E7
   obtain⟨⟨k,n⟩,h5,h6⟩:=E7;exact fin (.inr ⟨k,n,by simp[Je (Rb hE g1) h5],rfl⟩) (.inl ⟨rfl,rfl⟩) h6
  ·simp only[xa,uaa] at E7
   obtain⟨⟨k,n⟩,h5,⟨k2,n2⟩,h7,h6⟩:=E7;exact fin (.inr ⟨k,n,by simp[Je (Rb hE g1) h5],rfl⟩) (.inr ⟨k2,n2,by simp[Je (Rb hE g2) h7],rfl⟩) h6
 case h_21 t x f off y=>simp only[daa] at Ba;obtain⟨h1,h2⟩:=Ba;simp only[xa,faa,vaa] at E7;obtain⟨u,hp,rfl,rfl⟩:=E7;obtain⟨fs,fd,n,hu,hf,rfl,hn,hn0⟩:=bW h1;exact .xd (s:=Instr.fieldAt t (a.eval x) f) (by simp[execOp,ho]) (VU hS (Rb hE h2) hu hf hn hn0 hp)
 case h_22 t x f off ag n y=>
  simp only[daa] at Ba;obtain⟨h1,h2⟩:=Ba;have hx:=Rb (R:=R) (φ:=φ) (H:=H) hE h2;obtain⟨fs,fd,hu,hf,rfl,ha,hn⟩:=YX h1;simp only[xa] at E7;refine .xd (s:=Instr.field t (a.eval x) f) (by simp[execOp,ho]) ?_
  have L7:∀ vs:Array Value,(Instr.field t (.agg vs) f).run P w=(part fd.type vs fd.offset).run P w:=by intro vs;simp[Instr.field,run_underlying hu,hf,asAgg]
  obtain⟨i1,i2⟩:=pR hx
  split at E7
  ·rename_i cs hy
   obtain⟨vs,e1,e2⟩:=i1 cs hy;simp only[faa,vaa] at E7;obtain⟨p,hp,rfl,rfl⟩:=E7;rw[Zm,e1,L7];exact kN hS ha hn e2 hp
  ·rename_i cs hy
   obtain⟨vs,e1,e2⟩:=i2 cs hy;simp only[faa,vaa] at E7;obtain⟨p,hp,rfl,rfl⟩:=E7;rw[Zm,e1,L7];exact iN hS ha hn e2 hp
  ·cases E7
 case h_23 t x i sz y j=>
  simp only[daa] at Ba;obtain⟨⟨h1,h2⟩,h3⟩:=Ba;simp only[xa,uaa,faa,vaa] at E7;obtain⟨⟨k,n⟩,hi,u,hp,rfl,rfl⟩:=E7;have e1:=Je (Rb hE h3) hi;cases I8:Tx P t with
  |none=>simp[I8] at h1
  |some el=>
   simp only[I8,beq_iff_eq] at h1;refine .xd (s:=Instr.indexAt t (a.eval x) (a.eval i)) (by simp[execOp,ho]) ?_
   rw[e1];exact eU hS (Rb hE h2) (Bp I8) h1 hp
 case h_24 t x i n sz y j=>
  simp only[daa] at Ba;obtain⟨⟨h1,h2⟩,h3⟩:=Ba;simp only[xa,uaa] at E7;obtain⟨⟨k,m⟩,hi,C8⟩:=E7
  split at C8
  ·rename_i hix
   simp only[faa,vaa] at C8;obtain⟨u,hp,rfl,rfl⟩:=C8;have e1:=Je (Rb hE h3) hi;obtain⟨el,hu,K7⟩:=OX h1;refine .xd (s:=Instr.indexAt t (a.eval x) (a.eval i)) (by simp[execOp,ho]) ?_
   rw[e1];exact DP hS (Rb hE h2) hu K7 hix hp
  ·cases C8
 case h_25 t x i n sz ag y j=>
  simp only[daa] at Ba;obtain⟨⟨h1,h2⟩,h3⟩:=Ba;have hx:=Rb (R:=R) (φ:=φ) (H:=H) hE h2;simp only[xa,uaa] at E7;obtain⟨⟨k,m⟩,hi,C8⟩:=E7
  split at C8
  ·rename_i hix
   have e1:=Je (Rb hE h3) hi;obtain⟨el,hu,K7,ha⟩:=qU h1;refine .xd (s:=Instr.index t (a.eval x) (a.eval i)) (by simp[execOp,ho]) ?_
   obtain⟨g1,g2⟩:=hix;have L7:∀ vs:Array Value,(Instr.index t (.agg vs) (.int k m)).run P w=(part el vs (m.toNat * sz)).run P w:=by intro vs;simp only[] at g1 g2;simp[Instr.index,asIntOf,run_underlying hu,g1,g2,zc K7]
   obtain⟨i1,i2⟩:=pR hx
   split at C8
   ·rename_i cs hy
    obtain⟨vs,e2,e3⟩:=i1 cs hy;simp only[faa,vaa] at C8;obtain⟨p,hp,rfl,rfl⟩:=C8;rw[Zm,e1,e2,L7];exact kN hS ha (fun _=>K7) e3 hp
   ·rename_i cs hy
    obtain⟨vs,e2,e3⟩:=i2 cs hy;simp only[faa,vaa] at C8;obtain⟨p,hp,rfl,rfl⟩:=C8;rw[Zm,e1,e2,L7];exact iN hS ha (fun _=>K7) e3 hp
   ·cases C8
  ·cases C8
 case h_26 t x i y j=>
  simp only[daa] at Ba;obtain⟨⟨h1,h2⟩,h3⟩:=Ba;have hx:=Rb (R:=R) (φ:=φ) (H:=H) hE h2;have hd:P.underlying t=some .string:=by
   unfold W4 at h1
   split at h1
   ·rename_i h;exact h
   ·cases h1
  simp only[xa,uaa] at E7;obtain⟨⟨k,m⟩,hi,C8⟩:=E7;have e1:=Je (Rb hE h3) hi
  split at C8
  ·rename_i str hy
   split at C8
   ·rename_i hm
    simp only[faa,vaa] at C8;obtain⟨b,hb,rfl,rfl⟩:=C8;rw[hy] at hx;obtain⟨vx,hvx⟩:∃ vx,a.eval x=vx:=⟨_,rfl⟩
    rw[hvx] at hx;have hp:=hx.Sb
    cases hp;have hb':str[m.toNat]? =some b:=by rw[<- hb];exact YU _ _
    refine .xd (s:=Instr.index t (a.eval x) (a.eval i)) (by simp[execOp,ho]) (Tt.same (.int .u8 b.toNat) hS ?_ (.atom _ _ (show Ta R _ _ from .int _ _)))
    rw[hvx,e1];simp only[] at hm;simp[Instr.index,asIntOf,run_underlying hd,hm,hb']
   ·cases C8
  ·cases C8
 case h_27 x i i' y=>
  simp only[daa,beq_iff_eq] at Ba;obtain⟨rfl,h1⟩:=Ba;have hx:=Rb (R:=R) (φ:=φ) (H:=H) hE h1;simp only[xa] at E7;obtain⟨i1,i2⟩:=IZ hx;refine .xd (s:=Instr.extract (a.eval x) i) (by simp[execOp,ho]) ?_
  split at E7
  ·rename_i cs hy
   obtain⟨vs,e1,e2⟩:=i1 cs hy;simp only[faa,vaa] at E7;obtain⟨p,hp,rfl,rfl⟩:=E7;obtain⟨u,hu,hr⟩:=e2.get hp
   rw[e1];exact Tt.same u hS (by simp[Instr.extract,hu]) (.atom _ _ hr)
  ·rename_i cs hy
   obtain⟨vs,e1,e2⟩:=i2 cs hy;simp only[faa,vaa] at E7;obtain⟨p,hp,rfl,rfl⟩:=E7;obtain⟨u,hu,hr⟩:=e2.get hp
   rw[e1];exact Tt.same u hS (by simp[Instr.extract,hu]) hr
  ·cases E7
 case h_28 args argTypes k y=>
  simp only[xa,faa,vaa] at E7;obtain⟨n,hn,rfl,rfl⟩:=E7
  split at Ba
  ·rename_i x t Sac paf
   simp only[daa] at Ba;have ha:args= #[x]:=by apply Qac;simpa using Sac
   have ht:argTypes= #[t]:=by apply Qac;simpa using paf
   subst ha ht;have hu:(k=0/\∃ e,P.underlying t=some (.slice e))\/(k=1/\P.underlying t=some .string):=by
    have:=Ba.2
    cases hu:P.underlying t with
    |none=>simp[hu] at this
    |some d=>cases d <;> simp[hu] at this <;> simp_all
   exact .xd (s:=Builtin.len_ #[t] o.type #[a.eval x]) (by simp[execOp,ho,resolve,invoke,builtin]) (ZZ hS (Rb hE Ba.1) hu hn)
  ·cases Ba
 case h_29 args tys ys=>simp only[xa,faa,vaa] at E7;obtain⟨p,hp,rfl,rfl⟩:=E7;have hl:=Mt (R:=R) (φ:=φ) (H:=H) hE Ba;obtain⟨v0,rest,u,q0,q1,q2⟩:=MJ (P:=P) (w:=w) true hl hp;exact .xd (s:=Builtin.max_ tys o.type (args.map a.eval)) (by simp[execOp,ho,resolve,invoke,builtin]) (Tt.same u hS (by simp only[Builtin.max_,Array.toList_map,q0];simpa using q1) (.atom _ _ q2))
 case h_30 args tys ys=>simp only[xa,faa,vaa] at E7;obtain⟨p,hp,rfl,rfl⟩:=E7;have hl:=Mt (R:=R) (φ:=φ) (H:=H) hE Ba;obtain⟨v0,rest,u,q0,q1,q2⟩:=MJ (P:=P) (w:=w) false hl hp;exact .xd (s:=Builtin.min_ tys o.type (args.map a.eval)) (by simp[execOp,ho,resolve,invoke,builtin]) (Tt.same u hS (by simp only[Builtin.min_,Array.toList_map,q0];simpa using q1) (.atom _ _ q2))
 case h_31 args argTypes own hh sz ag bytes s y=>
  simp only[xa] at E7
  split at Ba
  ·rename_i x z t tx Sac paf
   simp only[daa] at Ba;have ha:args= #[x,z]:=by apply Qac;simpa using Sac
   have ht:argTypes= #[t,tx]:=by apply Qac;simpa using paf
   subst ha ht;obtain⟨⟨h1,h2⟩,h3⟩:=Ba;cases I8:Tx P t with
   |none=>simp[I8] at h3
   |some el=>
    simp only[I8,daa] at h3;have hA:=BQ h3.1
    refine .xd (s:=Builtin.append_ #[t,tx] o.type #[a.eval x,a.eval z]) (by simp[execOp,ho,resolve,invoke,builtin]) ?_
    have hs:=Rb (R:=R) (φ:=φ) (H:=H) hE h1;have hx:=Rb (R:=R) (φ:=φ) (H:=H) hE h2;generalize AO.ev e s=sv at E7 hs
    generalize AO.ev e y=xv at E7 hx
    unfold Cb at E7
    split at E7
    ·split at E7
     ·split at E7
      ·rename_i id len sz' ag' cells fl nl G7
       simp only[uaa] at E7;obtain⟨⟨m,cs⟩,hy,C8⟩:=E7
       split at C8
       ·rename_i hc
        obtain⟨rfl,hc1,hc2,hc3⟩:=hc;simp only[eaa,vaa] at C8;obtain⟨rfl,rfl⟩:=C8;exact zQ hS hA hs hx G7 hc1 hy hc3 hc2
       ·cases C8
      ·cases E7
     ·cases E7
    ·split at E7
     ·split at E7
      ·rename_i id nl sz' es sz2 n nl2 G7
       simp only[uaa] at E7;obtain⟨ys,hy,C8⟩:=E7
       split at C8
       ·rename_i hc
        obtain⟨rfl,rfl,hc1,hc2⟩:=hc;simp only[eaa,vaa] at C8;obtain⟨rfl,rfl⟩:=C8;exact HU hS hA hs hx G7 hc1 hy hc2
       ·cases C8
      ·cases E7
     ·simp only[uaa] at E7
      obtain⟨ys,hy,C8⟩:=E7
      split at C8
      ·rename_i hc
       have hp:=hs.Sb
       obtain⟨vs,hvs⟩:∃ vs,a.eval x=vs:=⟨_,rfl⟩
       rw[hvs] at hp ⊢;cases hp;exact zN hS hA hx hy hc C8
      ·cases C8
     ·cases E7
  ·cases Ba
 case h_32 t x n y=>
  simp only[xa] at E7
  split at E7
  ·rename_i hc
   simp only[faa,vaa] at E7;obtain⟨ps,hps,rfl,rfl⟩:=E7;exact .xd (by simp[execOp,ho]) (BX (t:=t) hS (Rb hE Ba) hc.2 hps)
  ·cases E7
 case h_33 t x y _ ks x' y'=>
  simp only[daa,tac] at Ba;simp only[xa] at E7
  split at E7
  ·rename_i p q hp hq
   simp only[faa,vaa] at E7;obtain⟨b,hb,rfl,rfl⟩:=E7;have h1:=Rb (R:=R) (φ:=φ) (H:=H) hE Ba.1.2
   have h2:=Rb (R:=R) (φ:=φ) (H:=H) hE Ba.2
   rw[hp] at h1;rw[hq] at h2;have hg:=rB (w:=w) Ba.1.1.2 .eql x y h1.Sb h2.Sb hb
   have hr:=KH (w:=w) Ba.1.1.1 h1.Sb h2.Sb hb
   have raf:(binOp .eql t (a.eval x) (a.eval y)).run P w= .ok (.bool b) w:=by
    have e:=h1.Sb
    have e2:=h2.Sb
    revert hr;generalize a.eval x=vx at e
    generalize a.eval y=vy at e2
    intro hr;have Sl:∃ xs,p= .agg xs:=by cases p <;> simp[Ql] at hb;exact⟨_,rfl⟩
    obtain⟨xs,rfl⟩:=Sl;have N9:∃ ys,q= .agg ys:=by cases q <;> simp[Ql] at hb;exact⟨_,rfl⟩
    obtain⟨ys,rfl⟩:=N9;cases e;cases e2;simp[binOp,hr]
   exact .su (v':= .bool b) hS (by simp[execOp,ho,hg,raf]) (.atom _ _ (show Ta R _ _ from .bool _))
  ·cases E7
 case h_34 t x y _ ks x' y'=>
  simp only[daa,tac] at Ba;simp only[xa] at E7
  split at E7
  ·rename_i p q hp hq
   simp only[faa,vaa] at E7;obtain⟨b,hb,rfl,rfl⟩:=E7;have h1:=Rb (R:=R) (φ:=φ) (H:=H) hE Ba.1.2
   have h2:=Rb (R:=R) (φ:=φ) (H:=H) hE Ba.2
   rw[hp] at h1;rw[hq] at h2;have hg:=rB (w:=w) Ba.1.1.2 .neq x y h1.Sb h2.Sb hb
   have hr:=KH (w:=w) Ba.1.1.1 h1.Sb h2.Sb hb
   have raf:(binOp .neq t (a.eval x) (a.eval y)).run P w= .ok (.bool (!b)) w:=by
    have e:=h1.Sb
    have e2:=h2.Sb
    revert hr;generalize a.eval x=vx at e
    generalize a.eval y=vy at e2
    intro hr;have Sl:∃ xs,p= .agg xs:=by cases p <;> simp[Ql] at hb;exact⟨_,rfl⟩
    obtain⟨xs,rfl⟩:=Sl;have N9:∃ ys,q= .agg ys:=by cases q <;> simp[Ql] at hb;exact⟨_,rfl⟩
    obtain⟨ys,rfl⟩:=N9;cases e;cases e2;simp[binOp,hr]
   exact .su (v':= .bool (!b)) hS (by simp[execOp,ho,hg,raf]) (.atom _ _ (show Ta R _ _ from .bool _))
  ·cases E7
 case h_35 t=>simp only[xa,eaa,vaa] at E7;obtain⟨rfl,rfl⟩:=E7;exact .xd (s:=Instr.makeMap t none) (by simp[execOp,ho]) (NT hS _)
 case h_36 t x k ok kd zero ok' x' k'=>
  simp only[daa,beq_iff_eq] at Ba;obtain⟨⟨⟨⟨h1,h2⟩,rfl⟩,h3⟩,h4⟩:=Ba;have hm:=Rb (R:=R) (φ:=φ) (H:=H) hE h3;have hk:=Rb (R:=R) (φ:=φ) (H:=H) hE h4;simp only[xa] at E7
  split at E7
  ·rename_i kp em ek
   rw[em] at hm;rw[ek] at hk
   split at E7
   ·rename_i hkk
    simp only[eaa,vaa] at E7;obtain⟨rfl,rfl⟩:=E7;obtain⟨u,h5,h6⟩:=NH (P:=P) hS h1 h2 hm hk.Sb ok (.inl ⟨rfl,rfl⟩) hkk (r:=none) rfl
    exact .su hS (by simp[execOp,ho,h5]) h6
   ·cases E7
  ·rename_i id kp em ek
   rw[em] at hm;rw[ek] at hk
   split at E7
   ·rename_i es G7
    split at E7
    ·rename_i hkk
     simp only[faa] at E7;obtain⟨r,hf,hr⟩:=E7;obtain⟨u,h5,h6⟩:=NH (P:=P) hS h1 h2 hm hk.Sb ok (.inr ⟨id,rfl,G7⟩) hkk hf
     cases r with
     |none=>simp only[vaa] at hr;obtain⟨rfl,rfl⟩:=hr;exact .su hS (by simp[execOp,ho,h5]) h6
     |some r=>simp only[vaa] at hr;obtain⟨rfl,rfl⟩:=hr;exact .su hS (by simp[execOp,ho,h5]) h6
    ·cases E7
   ·cases E7
  ·cases E7
 case h_37 t m k x kd m' k' x'=>
  simp only[daa] at Ba;obtain⟨⟨⟨h1,h2⟩,h3⟩,h4⟩:=Ba;have hm:=Rb (R:=R) (φ:=φ) (H:=H) hE h2;have hk:=Rb (R:=R) (φ:=φ) (H:=H) hE h3;have hx:=Rb (R:=R) (φ:=φ) (H:=H) hE h4;simp only[xa] at E7
  split at E7
  ·rename_i id kp xp em ek ex
   rw[em] at hm;rw[ek] at hk;rw[ex] at hx
   split at E7
   ·rename_i es G7
    split at E7
    ·rename_i hkk
     simp only[faa] at E7;obtain⟨r,hf,hr⟩:=E7;obtain⟨w',φ',h5,h6,h7,h8⟩:=nG (P:=P) hS h1 hm hk.Sb hx.Sb G7 hkk hf
     intro next Q hn
     unfold Oper.wp
     have:(execOp a.eval o).run P w= .ok .skip w':=by simp[execOp,ho,h5]
     rw[this];cases r with
     |none=>simp only[vaa] at hr;obtain⟨rfl,rfl⟩:=hr;exact hn undef w' R φ' h6 (.atom _ _ (show Ta R _ _ from .mc [] [] .nil)) h7 h8
     |some r=>simp only[vaa] at hr;obtain⟨rfl,rfl⟩:=hr;exact hn undef w' R φ' h6 (.atom _ _ (show Ta R _ _ from .mc [] [] .nil)) h7 h8
    ·cases E7
   ·cases E7
  ·cases E7
 case h_38 t m k x kd m' k' x'=>
  simp only[daa] at Ba;obtain⟨⟨⟨h1,h2⟩,h3⟩,h4⟩:=Ba;have hm:=Rb (R:=R) (φ:=φ) (H:=H) hE h2;have hk:=Rb (R:=R) (φ:=φ) (H:=H) hE h3;have hx:=Rb (R:=R) (φ:=φ) (H:=H) hE h4;simp only[xa] at E7
  split at E7
  ·rename_i id kp xp em ek ex
   rw[em] at hm;rw[ek] at hk;rw[ex] at hx
   split at E7
   ·rename_i es G7
    split at E7
    ·rename_i hkk
     simp only[faa] at E7;obtain⟨r,hf,hr⟩:=E7;obtain⟨w',φ',h5,h6,h7,h8⟩:=nG (P:=P) hS h1 hm hk.Sb hx.Sb G7 hkk hf
     intro next Q hn
     unfold Oper.wp
     have:(execOp a.eval o).run P w= .ok .skip w':=by simp[execOp,ho,h5]
     rw[this];cases r with
     |none=>simp only[vaa] at hr;obtain⟨rfl,rfl⟩:=hr;exact hn undef w' R φ' h6 (.atom _ _ (show Ta R _ _ from .mc [] [] .nil)) h7 h8
     |some r=>simp only[vaa] at hr;obtain⟨rfl,rfl⟩:=hr;exact hn undef w' R φ' h6 (.atom _ _ (show Ta R _ _ from .mc [] [] .nil)) h7 h8
    ·cases E7
   ·cases E7
  ·cases E7
 case h_39 s d x y=>
  simp only[xa] at E7
  split at E7
  ·rename_i id es hx
   split at E7
   ·rename_i n G7
    split at E7
    ·rename_i hn2
     simp only[eaa,vaa] at E7;obtain⟨rfl,rfl⟩:=E7;simp only[daa,beq_iff_eq] at Ba;obtain⟨⟨rfl,hsl⟩,h3⟩:=Ba;have hr:=Rb (R:=R) (φ:=φ) (H:=H) hE h3;rw[hx] at hr;exact WU ho hS hr G7 hn2 hsl
    ·cases E7
   ·cases E7
  ·cases E7
 case h_40=>cases Ba
end ops
end Go.AM
namespace Go.AM
def AO.look(n:Nat):AO->Bool
 | .t m=>n==m
 |_=>false
def Od.look(n:Nat):Od->Bool
 | .move x | .box _ x | .xQ _ x | .load _ _ x | .AF x | .un _ x | .conv _ x | .y5 x | .C5 x | .J1 _ x | .LH _ x | .x5 _ _ _ x | .ext _ x | .len _ x=>x.look n
 | .alloc _=>false
 | .pick c a b=>c.look n||a.look n||b.look n
 | .build _ ps=>ps.any fun p=>p.2.2.look n
 | .xb _ _ _ _ _ ps=>ps.any fun p=>p.2.look n
 | .store _ a v=>a.look n||v.look n
 | .bin _ x y | .eq _ _ x y=>x.look n||y.look n
 | .FK _ xs | .mx xs | .mn xs | .Hq _ xs | .zg _ xs | .pG _ xs=>xs.any (·.look n)
 | .eh _ _ _ _ _ l c=>l.look n||c.look n
 | .slice _ x lo hi=>x.look n||(lo.any (·.look n))||(hi.any (·.look n))
 | .Pd _ x i | .xy _ _ x i | .EY _ _ _ x i | .B5 x i=>x.look n||i.look n
 | .append _ _ _ _ _ s x=>s.look n||x.look n
 | .Y0 _ _ x y=>x.look n||y.look n
 | .iH=>false
 | .lookup _ _ _ m k=>m.look n||k.look n
 | .ax _ m k v=>m.look n||k.look n||v.look n
 | .iE f xs=>f.look n||xs.any (·.look n)
def M5(p:Nat->Bool)(e e':Tr):Prop:=∀ n,p n=true->e.get n=e'.get n
theorem AO.VN{e e':Tr}{x:AO}(h:∀ n,x.look n=true->e.get n=e'.get n):x.ev e=x.ev e':=by
 cases x with
 |t n=>exact h n (by simp[AO.look])
 |c p=>rfl
 |f ix=>rfl
theorem yV{e e':Tr}{xs:List AO}(h:∀ n,xs.any (·.look n)=true->e.get n=e'.get n):xs.map (·.ev e)=xs.map (·.ev e'):=
 pac fun x hx=>AO.VN fun n hn=>h n (Vad.2 ⟨x,hx,hn⟩)
theorem bC{call:Sa}{e e':Tr}{H:List ba}{op:Od}(h:M5 (fun n=>op.look n) e e'):xa call e H op=xa call e' H op:=by
 have one:∀ x:AO,(∀ n,x.look n=true->op.look n=true)->x.ev e=x.ev e':=fun x hx=>AO.VN fun n hn=>h n (hx n hn)
 have many:∀ xs:List AO,(∀ n,xs.any (·.look n)=true->op.look n=true)->xs.map (·.ev e)=xs.map (·.ev e'):=fun xs hx=>yV fun n hn=>h n (hx n hn)
 cases op with
 |move x=>simp only[xa];rw[one x (fun n h=>by simpa[Od.look] using h)]
 |pick c a b=>simp only[xa];rw[one c (fun n h=>by simp[Od.look,h]),one a (fun n h=>by simp[Od.look,h]),one b (fun n h=>by simp[Od.look,h])]
 |alloc z=>rfl
 |box n x=>simp only[xa];rw[one x (fun n h=>by simpa[Od.look] using h)]
 |xQ n x=>simp only[xa];rw[one x (fun n h=>by simpa[Od.look] using h)]
 |build z ps=>
  simp only[xa];rw[pac (f:=fun p:Nat×Nat×AO=>(p.1,p.2.1,p.2.2.ev e)) (g:=fun p=>(p.1,p.2.1,p.2.2.ev e')) fun p hp=>by rw[one p.2.2 (fun n h=>by simp only[Od.look];exact Vad.2 ⟨p,hp,h⟩)]]
 |xb hh sz ag len z ps=>
  simp only[xa];rw[pac (f:=fun p:Nat×AO=>(p.1 * sz,sz,jj e p.2)) (g:=fun p=>(p.1 * sz,sz,jj e' p.2)) fun p hp=>by unfold jj;rw[one p.2 (fun n h=>by simp only[Od.look];exact Vad.2 ⟨p,hp,h⟩)]]
 |load ag n x=>simp only[xa];rw[one x (fun n h=>by simpa[Od.look] using h)]
 |store n a v=>simp only[xa];rw[one a (fun n h=>by simp[Od.look,h]),one v (fun n h=>by simp[Od.look,h])]
 |AF x=>simp only[xa];rw[one x (fun n h=>by simpa[Od.look] using h)]
 |bin op x y=>simp only[xa];rw[one x (fun n h=>by simp[Od.look,h]),one y (fun n h=>by simp[Od.look,h])]
 |eq k ne x y=>simp only[xa];rw[one x (fun n h=>by simp[Od.look,h]),one y (fun n h=>by simp[Od.look,h])]
 |un op x=>simp only[xa];rw[one x (fun n h=>by simpa[Od.look] using h)]
 |conv k x=>simp only[xa];rw[one x (fun n h=>by simpa[Od.look] using h)]
 |y5 x=>simp only[xa];rw[one x (fun n h=>by simpa[Od.look] using h)]
 |J1 hh x=>simp only[xa];rw[one x (fun n h=>by simpa[Od.look] using h)]
 |C5 x=>simp only[xa];rw[one x (fun n h=>by simpa[Od.look] using h)]
 |FK ix xs=>simp only[xa];rw[many xs (fun n h=>by simpa[Od.look] using h)]
 |eh hh sz ag z b l c=>simp only[xa];rw[one l (fun n h=>by simp[Od.look,h]),one c (fun n h=>by simp[Od.look,h])]
 |slice sz x lo hi=>
  have hx:=one x (fun n h=>by simp[Od.look,h]);cases lo with
  |none=>
   cases hi with
   |none=>simp only[xa];rw[hx]
   |some hi=>simp only[xa];rw[hx,one hi (fun n h=>by simp[Od.look,h])]
  |some lo=>
   cases hi with
   |none=>simp only[xa];rw[hx,one lo (fun n h=>by simp[Od.look,h])]
   |some hi=>simp only[xa];rw[hx,one lo (fun n h=>by simp[Od.look,h]),one hi (fun n h=>by simp[Od.look,h])]
 |LH off x=>simp only[xa];rw[one x (fun n h=>by simpa[Od.look] using h)]
 |x5 off ag n x=>simp only[xa];rw[one x (fun n h=>by simpa[Od.look] using h)]
 |Pd sz x i=>simp only[xa];rw[one x (fun n h=>by simp[Od.look,h]),one i (fun n h=>by simp[Od.look,h])]
 |xy n sz x i=>simp only[xa];rw[one x (fun n h=>by simp[Od.look,h]),one i (fun n h=>by simp[Od.look,h])]
 |EY n sz ag x i=>simp only[xa];rw[one x (fun n h=>by simp[Od.look,h]),one i (fun n h=>by simp[Od.look,h])]
 |B5 x i=>simp only[xa];rw[one x (fun n h=>by simp[Od.look,h]),one i (fun n h=>by simp[Od.look,h])]
 |ext i x=>simp only[xa];rw[one x (fun n h=>by simpa[Od.look] using h)]
 |len k x=>simp only[xa];rw[one x (fun n h=>by simpa[Od.look] using h)]
 |mx xs=>simp only[xa];rw[many xs (fun n h=>by simpa[Od.look] using h)]
 |mn xs=>simp only[xa];rw[many xs (fun n h=>by simpa[Od.look] using h)]
 |append o hh sz ag b s x=>simp only[xa];rw[one s (fun n h=>by simp[Od.look,h]),one x (fun n h=>by simp[Od.look,h])]
 |Y0 kd ne x y=>simp only[xa];rw[one x (fun n h=>by simp[Od.look,h]),one y (fun n h=>by simp[Od.look,h])]
 |iH=>rfl
 |lookup kd z ok m k=>simp only[xa];rw[one m (fun n h=>by simp[Od.look,h]),one k (fun n h=>by simp[Od.look,h])]
 |ax kd m k v=>simp only[xa];rw[one m (fun n h=>by simp[Od.look,h]),one k (fun n h=>by simp[Od.look,h]),one v (fun n h=>by simp[Od.look,h])]
 |Hq F xs=>simp only[xa];rw[many xs (fun n h=>by simpa[Od.look] using h)]
 |zg ix xs=>simp only[xa];rw[many xs (fun n h=>by simpa[Od.look] using h)]
 |pG ix xs=>simp only[xa];rw[many xs (fun n h=>by simpa[Od.look] using h)]
 |iE f xs=>simp only[xa];rw[one f (fun n h=>by simp[Od.look,h]),many xs (fun n h=>by simp only[Od.look,h,Bool.or_true])]
def ba.YJ:ba->Bool
 | .tok _ _ _=>true
 |_=>false
mutual
theorem PV.Jw:∀ {a b:PV},a.same b=true->a=b:=by
 intro a b h;cases a <;> cases b <;> simp only[PV.same,daa,decide_eq_true_eq,beq_iff_eq,Baa] at h
 ·rw[h.1,h.2]
 ·rw[h]
 ·rw[h]
 all_goals first | rfl | skip
 ·rw[Aq h.1,h.2]
 ·rw[h.1,Aq h.2]
 ·rw[Aq h]
 ·rw[Aq h]
 ·rw[h.1,PV.Jw h.2]
theorem Aq:∀ {a b:List PV},xx a b=true->a=b:=by
 intro a b h;cases a <;> cases b <;> simp only[xx,daa,Baa] at h
 ·rfl
 ·rw[PV.Jw h.1,Aq h.2]
end
mutual
theorem PV.fp:∀ (a:PV),a.same a=true:=by
 intro a;cases a <;> simp only[PV.same,decide_true,qae,beq_self_eq_true,mae,uab]
 ·exact Ym _
 ·exact Ym _
 ·exact Ym _
 ·exact Ym _
 ·exact PV.fp _
theorem Ym:∀ (a:List PV),xx a a=true:=by
 intro a;cases a with
 |nil=>rfl
 |cons x r=>simp only[xx,PV.fp x,Ym r,qae]
end
mutual
theorem AV.Jw:∀ {a b:AV},a.same b=true->a=b:=by
 intro a b h;cases a <;> cases b <;> simp only[AV.same,daa,decide_eq_true_eq,vaa,Baa] at h
 ·rw[PV.Jw h]
 ·rw[h.1,h.2]
 ·rw[h.1,h.2.1,h.2.2]
 ·rw[h.1.1,h.1.2.1,h.1.2.2,Aq h.2]
 ·rw[h.1,h.2]
 ·rw[h.1,Gv h.2]
 ·rw[h]
 ·rw[Gv h]
 ·rw[Gv h]
 ·rfl
theorem Gv:∀ {a b:List AV},oA a b=true->a=b:=by
 intro a b h;cases a <;> cases b <;> simp only[oA,daa,Baa] at h
 ·rfl
 ·rw[AV.Jw h.1,Gv h.2]
end
mutual
theorem AV.fp:∀ (a:AV),a.same a=true:=by
 intro a;cases a <;> simp only[AV.same,decide_true,uab,PV.fp,Ym]
 ·exact Js _
 ·exact Js _
 ·exact Js _
theorem Js:∀ (a:List AV),oA a a=true:=by
 intro a;cases a with
 |nil=>rfl
 |cons x r=>simp only[oA,AV.fp x,Js r,qae]
end
theorem HO{α β:Type}:∀ {a b:List (α×β)},a.map (·.1)=b.map (·.1)->a.map (·.2)=b.map (·.2)->a=b
 | [],[],_,_=>rfl
 | [],_::_,h,_=>by cases h
 |_::_,[],h,_=>by cases h
 | (x,y)::a,(x',y')::b,h,k=>by simp only[pab,Dae] at h k;rw[h.1,k.1,HO h.2 k.2]
theorem ba.fp(o:ba):o.same o=true:=by
 cases o <;> simp only[ba.same,decide_true,uab,Js,Ym,qae]
theorem aJ:∀ (H X:List ba),pF H (H++X)=true
 | [],_=>rfl
 |o::r,X=>by rw[fab,pF,ba.fp,aJ r X];rfl
theorem ba.Jw{x y:ba}(h:x.same y=true)(ht:x.YJ=false):x=y:=by
 cases x with
 |tok=>cases ht
 |box a=>cases y <;> simp only[ba.same,Baa] at h;rw[Gv h]
 |seq s g a f n=>cases y <;> simp only[ba.same,daa,decide_eq_true_eq,vaa,Baa] at h;obtain⟨⟨rfl,rfl,rfl,rfl⟩,h⟩:=h;rw[Gv h]
 |map a=>cases y <;> simp only[ba.same,daa,Baa] at h;rw[HO (Aq h.1) (Aq h.2)]
 |dead=>cases y <;> simp only[ba.same,Baa] at h;rfl
theorem NI:∀ {H H':List ba},pF H H'=true->∀ (id:Nat)(o:ba),H[id]? =some o->o.YJ=false->H'[id]? =some o
 | [],_,_,id,o,h,_=>by simp at h
 |x::r,[],h,_,_,_,_=>by cases h
 |x::r,y::r',h,0,o,ho,ht=>by simp only[pF,daa] at h;simp only[jab,eaa] at ho ⊢;subst ho;exact (ba.Jw h.1 ht).symm
 |x::r,y::r',h,id+1,o,ho,ht=>by simp only[pF,daa] at h;simp only[mab] at ho ⊢;exact NI h.2 id o ho ht
def Qu(H H':List ba):Prop:=∀ (id:Nat)(o:ba),H[id]? =some o->o.YJ=false->H'[id]? =some o
theorem Qu.refl(H:List ba):Qu H H:=fun _ _ h _=>h
theorem Qu.push(H:List ba)(o:ba):Qu H (H++[o]):=fun id o' h _=>by
 have hl:id < H.length:=(qaa.1 h).1
 rw[gaa hl];exact h
theorem Qu.ZN(H:List ba)(a b:Nat)(c:Bool):Qu (H++[.tok a b c]) H:=fun id o h ht=>by
 by_cases hl:id < H.length
 ·rw[gaa hl] at h;exact h
 ·rw[Paa (by omega)] at h
  by_cases h0:id - H.length=0
  ·rw[h0] at h;simp at h;subst h;simp[ba.YJ] at ht
  ·rw[Yaa (by simp;omega)] at h;cases h
theorem Qu.xZ{H:List ba}{id:Nat}{a b:Nat}{c:Bool}(h:H[id]? =some (.tok a b c))(a' b':Nat)(c':Bool):
 Qu H (H.set id (.tok a' b' c'))/\Qu (H.set id (.tok a' b' c')) H:=by
 constructor
 ·intro i o hi ht
  by_cases e:id=i
  ·subst e;rw[h] at hi;injection hi with hi;subst hi;simp[ba.YJ] at ht
  ·rw[Jaa e];exact hi
 ·intro i o hi ht
  by_cases e:id=i
  ·subst e
   have hl:id < H.length:=(qaa.1 h).1
   rw[Qaa hl] at hi;injection hi with hi;subst hi;simp[ba.YJ] at ht
  ·rw[Jaa e] at hi;exact hi
def Zf.isLit:Zf->Bool
 | .lit=>true
 |_=>false
def Zf.Nk:Zf->Bool
 | .own=>true
 |_=>false
def Od.cls:Od->Nat
 | .move _ | .pick _ _ _ | .build _ _ | .bin _ _ _ | .un _ _ | .conv _ _ | .FK _ _ | .x5 _ _ _ _ | .EY _ _ _ _ _ | .B5 _ _ | .ext _ _ | .mx _ | .mn _ | .xQ _ _ | .Y0 _ _ _ _=>0
 | .load _ _ _ | .AF _ | .LH _ _ | .Pd _ _ _ | .xy _ _ _ _ | .len _ _ | .eq _ _ _ _ | .slice _ _ _ _ | .y5 _ | .Hq _ _ | .lookup _ _ _ _ _=>1
 | .xb h _ _ _ _ _ | .J1 h _ | .eh h _ _ _ _ _ _=>(if h.isLit then 0 else if h.Nk then 3 else 2)
 | .append own h _ _ _ _ _=>(if own then 4 else if h.Nk then 4 else 2)
 | .alloc _ | .box _ _ | .pG _ _=>3
 |_=>4
theorem zW{H H':List ba}(h:Qu H H'):∀ (d:Nat)(v:AV)(p:PV),Ub H d v=some p->Ub H' d v=some p:=by
 intro d
 induction d with
 |zero=>intro v p hp;cases v <;> simp_all [Ub]
 |succ d ih=>
  have many:∀ (cs:List AV)(ps:List PV),Ra (Ub H d) cs=some ps->Ra (Ub H' d) cs=some ps:=by
   intro cs
   induction cs with
   |nil=>intro ps h;simpa[Ra] using h
   |cons c cs ihc=>intro ps h;simp only[Ra,uaa] at h ⊢;obtain⟨b,h1,bs,h2,h3⟩:=h;exact⟨b,ih _ _ h1,bs,ihc _ h2,h3⟩
  intro v p hp;cases v with
  |pv q=>simpa[Ub] using hp
  |uq=>simpa[Ub] using hp
  |own id len=>
   simp only[Ub] at hp ⊢
   split at hp
   ·rename_i sz ag cells fl nl G7
    rw[h _ _ G7 rfl]
    split at hp
    ·rename_i hc
     simp only[if_pos hc];cases nl with
     |true=>simpa using hp
     |false=>simp only[Baa,if_false,faa] at hp ⊢;obtain⟨ps,h1,h2⟩:=hp;exact⟨ps,many _ _ h1,h2⟩
    ·cases hp
   ·cases hp
  |ptr id off=>
   simp only[Ub] at hp ⊢
   split at hp
   ·rename_i cells G7
    rw[h _ _ G7 rfl];simp only[faa] at hp ⊢;obtain⟨ps,h1,h2⟩:=hp;exact⟨ps,many _ _ h1,h2⟩
   ·cases hp
  |agg cs=>simp only[Ub,faa] at hp ⊢;obtain⟨ps,h1,h2⟩:=hp;exact⟨ps,many _ _ h1,h2⟩
  |mc cs=>simp only[Ub,faa] at hp ⊢;obtain⟨ps,h1,h2⟩:=hp;exact⟨ps,many _ _ h1,h2⟩
  |Ec=>simp[Ub] at hp
  |Ol=>simp[Ub] at hp
  |mp=>simp[Ub] at hp
  |undef=>simp[Ub] at hp
theorem oV{H H':List ba}(h:Qu H H'){d:Nat}:∀ {cs:List AV}{ps:List PV},Ra (Ub H d) cs=some ps->Ra (Ub H' d) cs=some ps:=by
 intro cs
 induction cs with
 |nil=>intro ps h;simpa[Ra] using h
 |cons c cs ihc=>intro ps hp;simp only[Ra,uaa] at hp ⊢;obtain⟨b,h1,bs,h2,h3⟩:=hp;exact⟨b,zW h _ _ _ h1,bs,ihc h2,h3⟩
theorem HC{H H':List ba}(h:Qu H H'){d:Nat}{x v:AV}(hp:place H d x=some v):place H' d x=some v:=by
 unfold place at hp ⊢
 split at hp
 ·exact hp
 ·split at hp
  ·rename_i G7;rw[h _ _ G7 rfl];exact hp
  ·cases hp
 ·split at hp
  ·rename_i G7;rw[h _ _ G7 rfl];exact hp
  ·cases hp
 ·cases hp
theorem XU{H H':List ba}(h:Qu H H'){ag:Bool}{n:Nat}{x v:AV}(hp:pa H ag n x=some v):pa H' ag n x=some v:=by
 unfold pa at hp ⊢
 split at hp
 ·exact hp
 ·split at hp
  ·rename_i G7;rw[h _ _ G7 rfl];exact hp
  ·cases hp
 ·split at hp
  ·rename_i G7;rw[h _ _ G7 rfl];exact hp
  ·cases hp
 ·cases hp
theorem rV{H H':List ba}(h:Qu H H'){sz:Nat}{x v:AV}{i:Int}(hp:ta H sz x i=some v):ta H' sz x i=some v:=by
 unfold ta at hp ⊢
 split at hp
 ·exact hp
 ·exact hp
 ·split at hp
  ·rename_i G7;rw[h _ _ G7 rfl];exact hp
  ·cases hp
 ·cases hp
theorem EV{H H':List ba}(h:Qu H H'){k:Nat}{x:AV}{n:Nat}(hp:Tb H k x=some n):Tb H' k x=some n:=by
 unfold Tb at hp ⊢
 split at hp
 ·exact hp
 ·exact hp
 ·exact hp
 ·exact hp
 ·split at hp
  ·rename_i G7;rw[h _ _ G7 rfl];exact hp
  ·cases hp
 ·exact hp
 ·split at hp
  ·rename_i G7;rw[h _ _ G7 rfl];exact hp
  ·cases hp
 ·cases hp
theorem T0{H H':List ba}(h:Qu H H'){k:Nat}{x y:AV}{b:Bool}(hp:Kq H k x y=some b):Kq H' k x y=some b:=by
 unfold Kq at hp ⊢
 split at hp <;> first
  |exact hp
  | (split at hp
     ·rename_i G7;simp only[h _ _ G7 rfl];exact hp
     ·cases hp)
  |cases hp
theorem VV{H H':List ba}(h:Qu H H'){x:AV}{b:ByteArray}(hp:TH H x=some b):TH H' x=some b:=by
 unfold TH at hp ⊢
 split at hp <;> first
  |exact hp
  | (split at hp
     ·rename_i G7;rw[h _ _ G7 rfl];exact hp
     ·cases hp)
  |cases hp
theorem vw{H H':List ba}(h:Qu H H'){sz:Nat}{x v:AV}{lo hi:Option Int}(hp:ug H sz x lo hi=some v):ug H' sz x lo hi=some v:=by
 unfold ug at hp ⊢
 split at hp <;> first
  |exact hp
  | (split at hp
     ·rename_i G7;rw[h _ _ G7 rfl];exact hp
     ·cases hp)
  |cases hp
theorem gD{H:List ba}{sz:Nat}{ag:Bool}{n:Nat}{cs:List AV}{v:AV}{H':List ba}(h:fresh H .lit sz ag n cs=some (v,H')):
 H'=H/\∀ H2,fresh H2 .lit sz ag n cs=some (v,H2):=by
 simp only[fresh,faa,vaa] at h ⊢;obtain⟨ps,h1,rfl,rfl⟩:=h;exact⟨rfl,fun H2=>⟨ps,h1,rfl,trivial⟩⟩
theorem jH{H:List ba}{sz:Nat}{ag:Bool}{n:Nat}{cs:List AV}{v:AV}{H':List ba}(h:fresh H .uq sz ag n cs=some (v,H')):
 Qu H H'/\Qu H' H:=by
 simp only[fresh,faa,vaa] at h;obtain⟨ps,h1,rfl,rfl⟩:=h;exact⟨Qu.push _ _,Qu.ZN _ _ _ _⟩
theorem MC{H:List ba}{sz:Nat}{ag:Bool}{n:Nat}{cs:List AV}{v:AV}{H':List ba}(h:fresh H .own sz ag n cs=some (v,H')):
 Qu H H':=by
 simp only[fresh,eaa,vaa] at h;obtain⟨rfl,rfl⟩:=h;exact Qu.push _ _
theorem K5{call:Sa}{e:Tr}{H H':List ba}{op:Od}{v:AV}(hc:op.cls=0)(h:xa call e H op=some (v,H')):
 H'=H/\∀ H2,xa call e H2 op=some (v,H2):=by
 have ob:∀ {α:Type}{x:Option α}{f:α->AV},(x.map fun v=>(f v,H))=some (v,H')->H'=H/\∀ H2:List ba,(x.map fun v=>(f v,H2))=some (v,H2):=by
  intro α x f h;cases x with
  |none=>simp at h
  |some x=>simp at h;exact⟨h.2.symm,fun H2=>by simp[h.1]⟩
 cases op with
 |move x=>simp only[xa,eaa,vaa] at h ⊢;exact⟨h.2.symm,fun H2=>⟨h.1,trivial⟩⟩
 |pick c a b=>simp only[xa,uaa,eaa,vaa] at h ⊢;obtain⟨t,h1,h2,h3⟩:=h;exact⟨h3.symm,fun H2=>⟨t,h1,h2,trivial⟩⟩
 |xQ n x=>
  simp only[xa] at h ⊢
  split at h
  ·rename_i h0;simp only[if_pos h0];exact ob h
  ·cases h
 |build z ps=>exact ob h
 |bin o x y=>exact ob h
 |Y0 kd ne x y=>simp only[xa] at h ⊢;split at h <;> first | exact ob h | cases h
 |un o x=>exact ob h
 |conv k x=>exact ob h
 |mx xs=>exact ob h
 |mn xs=>exact ob h
 |FK ix xs=>simp only[xa,eaa,vaa] at h ⊢;exact⟨h.2.symm,fun H2=>⟨h.1,trivial⟩⟩
 |x5 off ag n x=>simp only[xa] at h ⊢;split at h <;> first | exact ob h | cases h
 |ext i x=>simp only[xa] at h ⊢;split at h <;> first | exact ob h | cases h
 |EY n sz ag x i=>
  simp only[xa] at h ⊢;cases hi:asInt (i.ev e) with
  |none=>simp[hi] at h
  |some k=>
   simp only[hi,Daa] at h ⊢
   split at h
   ·rename_i hx;simp only[if_pos hx];split at h <;> first | exact ob h | cases h
   ·cases h
 |B5 x i=>
  simp only[xa] at h ⊢;cases hi:asInt (i.ev e) with
  |none=>simp[hi] at h
  |some k=>
   simp only[hi,Daa] at h ⊢
   split at h
   ·split at h
    ·rename_i h0;simp only[if_pos h0];exact ob h
    ·cases h
   ·cases h
 |xb hh sz ag len z ps=>
  cases hh with
  |lit=>
   simp only[xa] at h ⊢;cases hf:Yr (Ml z len) (ps.map fun p=>(p.1 * sz,sz,jj e p.2)) with
   |none=>simp[hf] at h
   |some cs=>
    simp only[hf,Daa] at h ⊢
    split at h
    ·rename_i h0;simp only[if_pos h0];exact gD h
    ·cases h
  |uq=>simp[Od.cls,Zf.isLit,Zf.Nk] at hc
  |own=>simp[Od.cls,Zf.isLit,Zf.Nk] at hc
 |J1 hh x=>
  cases hh with
  |lit=>
   simp only[xa] at h ⊢
   split at h
   ·exact gD h
   ·cases h
  |uq=>simp[Od.cls,Zf.isLit,Zf.Nk] at hc
  |own=>simp[Od.cls,Zf.isLit,Zf.Nk] at hc
 |eh hh sz ag z b l c=>
  cases hh with
  |lit=>
   simp only[xa] at h ⊢;cases hl:asInt (l.ev e) with
   |none=>simp[hl] at h
   |some l=>
    cases P9:asInt (c.ev e) with
    |none=>simp[hl,P9] at h
    |some c=>
     simp only[hl,P9,Daa] at h ⊢
     split at h
     ·rename_i h0;simp only[if_pos h0];exact gD h
     ·cases h
  |uq=>simp[Od.cls,Zf.isLit,Zf.Nk] at hc
  |own=>simp[Od.cls,Zf.isLit,Zf.Nk] at hc
 |append o hh _ _ _ _ _=>exfalso;simp only[Od.cls] at hc;split at hc <;> first | cases hc | (split at hc <;> cases hc)
 |_=>simp[Od.cls] at hc
theorem jZ{call:Sa}{e:Tr}{H H':List ba}{op:Od}{v:AV}(hc:op.cls=1)(h:xa call e H op=some (v,H')):
 H'=H/\∀ H2,Qu H H2->xa call e H2 op=some (v,H2):=by
 have ob:∀ {α:Type}{g:List ba->Option α}{f:α->AV},((g H).map fun v=>(f v,H))=some (v,H')->(∀ H2 a,Qu H H2->g H=some a->g H2=some a)->
  H'=H/\∀ H2:List ba,Qu H H2->((g H2).map fun v=>(f v,H2))=some (v,H2):=by
  intro α g f h hg;cases hx:g H with
  |none=>simp[hx] at h
  |some x=>simp[hx] at h;exact⟨h.2.symm,fun H2 ha=>by simp[hg H2 x ha hx,h.1]⟩
 cases op with
 |load ag n x=>exact ob (g:=fun H=>pa H ag n (x.ev e)) h fun H2 a ha hp=>XU ha hp
 |LH off x=>exact ob (g:=fun H=>place H off (x.ev e)) h fun H2 a ha hp=>HC ha hp
 |len k x=>exact ob (g:=fun H=>Tb H k (x.ev e)) h fun H2 a ha hp=>EV ha hp
 |y5 x=>exact ob (g:=fun H=>TH H (x.ev e)) h fun H2 a ha hp=>VV ha hp
 |eq k ne x y=>exact ob (g:=fun H=>Kq H k (x.ev e) (y.ev e)) h fun H2 a ha hp=>T0 ha hp
 |AF x=>
  simp only[xa] at h ⊢
  split at h
  ·simp only[eaa,vaa] at h ⊢;exact⟨h.2.symm,fun H2 _=>⟨h.1,trivial⟩⟩
  ·exact ob (g:=fun H=>place H 0 (x.ev e)) h fun H2 a ha hp=>HC ha hp
 |Pd sz x i=>
  simp only[xa] at h ⊢;cases hi:asInt (i.ev e) with
  |none=>simp[hi] at h
  |some k=>simp only[hi,Daa] at h ⊢;exact ob (g:=fun H=>ta H sz (x.ev e) k.2) h fun H2 a ha hp=>rV ha hp
 |xy n sz x i=>
  simp only[xa] at h ⊢;cases hi:asInt (i.ev e) with
  |none=>simp[hi] at h
  |some k=>
   simp only[hi,Daa] at h ⊢
   split at h
   ·rename_i h0
    simp only[if_pos h0];exact ob (g:=fun H=>place H (k.2.toNat * sz) (x.ev e)) h fun H2 a ha hp=>HC ha hp
   ·cases h
 |slice sz x lo hi=>
  cases lo with
  |none=>
   cases hi with
   |none=>exact ob (g:=fun H=>ug H sz (x.ev e) none none) h fun H2 a ha hp=>vw ha hp
   |some hi=>
    simp only[xa] at h ⊢;cases hh:asInt (hi.ev e) with
    |none=>simp[hh] at h
    |some k=>simp only[hh,Daa] at h ⊢;exact ob (g:=fun H=>ug H sz (x.ev e) none (some k.2)) h fun H2 a ha hp=>vw ha hp
  |some lo=>
   cases hi with
   |none=>
    simp only[xa] at h ⊢;cases hh:asInt (lo.ev e) with
    |none=>simp[hh] at h
    |some k=>simp only[hh,Daa] at h ⊢;exact ob (g:=fun H=>ug H sz (x.ev e) (some k.2) none) h fun H2 a ha hp=>vw ha hp
   |some hi=>
    simp only[xa] at h ⊢;cases hl:asInt (lo.ev e) with
    |none=>simp[hl] at h
    |some l=>
     cases hh:asInt (hi.ev e) with
     |none=>simp[hl,hh] at h
     |some k=>simp only[hl,hh,Daa] at h ⊢;exact ob (g:=fun H=>ug H sz (x.ev e) (some l.2) (some k.2)) h fun H2 a ha hp=>vw ha hp
 |lookup kd z ok m k=>
  simp only[xa] at h ⊢
  split at h
  ·split at h
   ·rename_i h0
    simp only[eaa,vaa] at h;exact⟨h.2.symm,fun H2 _=>by rw[if_pos h0,h.1]⟩
   ·cases h
  ·rename_i id k' _ _
   split at h
   ·rename_i es G7
    split at h
    ·rename_i h0
     simp only[faa] at h;obtain⟨r,h1,h2⟩:=h;cases r with
     |none=>simp only[vaa] at h2;exact⟨h2.2.symm,fun H2 ha=>by rw[ha _ _ G7 rfl];simp only[if_pos h0,h1,Kaa,h2.1]⟩
     |some r=>simp only[vaa] at h2;exact⟨h2.2.symm,fun H2 ha=>by rw[ha _ _ G7 rfl];simp only[if_pos h0,h1,Kaa,h2.1]⟩
    ·cases h
   ·cases h
  ·cases h
 |Hq F xs=>
  simp only[xa,uaa] at h ⊢;obtain⟨ps,h1,r,h2,h3⟩:=h
  split at h3
  ·rename_i h5
   simp only[eaa,vaa] at h3;obtain⟨h3,h4⟩:=h3;exact⟨h4.symm,fun H2 ha=>⟨ps,oV ha h1,r,h2,by rw[if_pos h5,h3]⟩⟩
  ·cases h3
 |xb hh _ _ _ _ _=>cases hh <;> simp[Od.cls,Zf.isLit,Zf.Nk] at hc
 |J1 hh _=>cases hh <;> simp[Od.cls,Zf.isLit,Zf.Nk] at hc
 |eh hh _ _ _ _ _ _=>cases hh <;> simp[Od.cls,Zf.isLit,Zf.Nk] at hc
 |append o hh _ _ _ _ _=>cases o <;> cases hh <;> simp[Od.cls,Zf.Nk] at hc
 |_=>simp[Od.cls] at hc
theorem Q5{call:Sa}{e:Tr}{H H':List ba}{op:Od}{v:AV}(hc:op.cls=2)(h:xa call e H op=some (v,H')):Qu H H'/\Qu H' H:=by
 cases op with
 |xb hh sz ag len z ps=>
  cases hh with
  |uq=>
   simp only[xa] at h;cases hf:Yr (Ml z len) (ps.map fun p=>(p.1 * sz,sz,jj e p.2)) with
   |none=>simp[hf] at h
   |some cs=>
    simp only[hf,Daa] at h
    split at h
    ·exact jH h
    ·cases h
  |lit=>simp[Od.cls,Zf.isLit,Zf.Nk] at hc
  |own=>simp[Od.cls,Zf.isLit,Zf.Nk] at hc
 |J1 hh x=>
  cases hh with
  |uq=>
   simp only[xa] at h
   split at h
   ·exact jH h
   ·cases h
  |lit=>simp[Od.cls,Zf.isLit,Zf.Nk] at hc
  |own=>simp[Od.cls,Zf.isLit,Zf.Nk] at hc
 |eh hh sz ag z b l c=>
  cases hh with
  |uq=>
   simp only[xa] at h;cases hl:asInt (l.ev e) with
   |none=>simp[hl] at h
   |some l=>
    cases P9:asInt (c.ev e) with
    |none=>simp[hl,P9] at h
    |some c=>
     simp only[hl,P9,Daa] at h
     split at h
     ·exact jH h
     ·cases h
  |lit=>simp[Od.cls,Zf.isLit,Zf.Nk] at hc
  |own=>simp[Od.cls,Zf.isLit,Zf.Nk] at hc
 |append o hh sz ag b s x=>
  cases o with
  |true=>simp[Od.cls] at hc
  |false=>
   simp only[xa,Cb,Baa,if_false] at h
   split at h
   ·split at h
    ·rename_i G7
     simp only[uaa] at h;obtain⟨ys,h1,h2⟩:=h
     split at h2
     ·simp only[eaa,vaa] at h2
      obtain⟨_,rfl⟩:=h2;exact Qu.xZ G7 _ _ _
     ·cases h2
    ·cases h
   ·simp only[uaa] at h
    obtain⟨ys,h1,h2⟩:=h
    split at h2
    ·unfold Oq at h2
     split at h2
     ·simp only[eaa,vaa] at h2
      obtain⟨_,rfl⟩:=h2;exact⟨Qu.refl _,Qu.refl _⟩
     ·split at h2
      ·simp only[eaa,vaa] at h2
       obtain⟨_,rfl⟩:=h2;exact⟨Qu.refl _,Qu.refl _⟩
      ·simp only[eaa,vaa] at h2
       obtain⟨_,rfl⟩:=h2;exact⟨Qu.push _ _,Qu.ZN _ _ _ _⟩
      ·cases h2
    ·cases h2
   ·cases h
 |_=>simp[Od.cls] at hc
theorem I6{call:Sa}{e:Tr}{H H':List ba}{op:Od}{v:AV}(hc:op.cls=3)(h:xa call e H op=some (v,H')):Qu H H':=by
 cases op with
 |alloc z=>simp only[xa,eaa,vaa] at h;obtain⟨_,rfl⟩:=h;exact Qu.push _ _
 |box n x=>
  simp only[xa] at h
  split at h
  ·simp only[eaa,vaa] at h;obtain⟨_,rfl⟩:=h;exact Qu.push _ _
  ·cases h
 |xb hh sz ag len z ps=>
  cases hh with
  |own=>
   simp only[xa] at h;cases hf:Yr (Ml z len) (ps.map fun p=>(p.1 * sz,sz,jj e p.2)) with
   |none=>simp[hf] at h
   |some cs=>
    simp only[hf,Daa] at h
    split at h
    ·exact MC h
    ·cases h
  |lit=>simp[Od.cls,Zf.isLit,Zf.Nk] at hc
  |uq=>simp[Od.cls,Zf.isLit,Zf.Nk] at hc
 |J1 hh x=>
  cases hh with
  |own=>
   simp only[xa] at h
   split at h
   ·exact MC h
   ·cases h
  |lit=>simp[Od.cls,Zf.isLit,Zf.Nk] at hc
  |uq=>simp[Od.cls,Zf.isLit,Zf.Nk] at hc
 |eh hh sz ag z b l c=>
  cases hh with
  |own=>
   simp only[xa] at h;cases hl:asInt (l.ev e) with
   |none=>simp[hl] at h
   |some l=>
    cases P9:asInt (c.ev e) with
    |none=>simp[hl,P9] at h
    |some c=>
     simp only[hl,P9,Daa] at h
     split at h
     ·exact MC h
     ·cases h
  |lit=>simp[Od.cls,Zf.isLit,Zf.Nk] at hc
  |uq=>simp[Od.cls,Zf.isLit,Zf.Nk] at hc
 |append o hh _ _ _ _ _=>cases o <;> cases hh <;> simp[Od.cls,Zf.Nk] at hc
 |pG ix xs=>
  simp only[xa,uaa] at h;obtain⟨r,_,h⟩:=h
  split at h
  ·next hs=>
   injection h with h
   subst h;exact NI hs
  ·cases h
 |_=>simp[Od.cls] at hc
def gX(x y:Nat):Bool:=x==0||y==0||(x==1&&decide (y<=3))||(x==2&&y==1)
def wb.cls(o:wb):Nat:=if o.pr then 0 else o.op.cls
theorem ry{call:Sa}{e e':Tr}{H:List ba}{o:wb}(h:M5 (fun n=>o.op.look n) e e'):Ik call e H o=Ik call e' H o:=by
 unfold Ik;rw[bC h,bC (H:=H) h]
theorem OM{H:List ba}{r:Option (AV×List ba)}{v:AV}{H':List ba}(h:u2 H r=some (v,H')):r=some (v,[])/\H'=H:=by
 unfold u2 at h
 split at h
 ·simp only[eaa,vaa] at h
  obtain⟨rfl,rfl⟩:=h;exact⟨rfl,rfl⟩
 ·cases h
theorem lY{call:Sa}{e:Tr}{H H':List ba}{o:wb}{v:AV}(hc:o.cls=0)(h:Ik call e H o=some (v,H')):H'=H/\∀ H2,Ik call e H2 o=some (v,H2):=by
 unfold Ik wb.cls at *
 cases hp:o.pr with
 |true=>simp only[hp,cond_true] at h ⊢;obtain⟨h1,rfl⟩:=OM h;exact⟨rfl,fun H2=>by rw[h1];rfl⟩
 |false=>simp only[hp,cond_false,Baa,if_false] at h hc ⊢;exact K5 hc h
theorem L0{call:Sa}{e:Tr}{H:List ba}{o:wb}(hc:o.cls≠0):Ik call e H o=xa call e H o.op/\o.cls=o.op.cls:=by
 unfold Ik wb.cls at *
 cases hp:o.pr with
 |true=>simp[hp] at hc
 |false=>simp
theorem kX{call:Sa}{e:Tr}{H H1 H2:List ba}{x y:wb}{v1 v2:AV}(hc:gX x.cls y.cls=true)
 (h1:Ik call e H x=some (v1,H1)) (h2:Ik call e H1 y=some (v2,H2)):
 ∃ H3,Ik call e H y=some (v2,H3)/\Ik call e H3 x=some (v1,H2):=by
 simp only[gX,Oac,beq_iff_eq,daa,decide_eq_true_eq] at hc;rcases hc with ((hx | hy) | ⟨hx,hy⟩) | ⟨hx,hy⟩
 ·obtain⟨rfl,h⟩:=lY hx h1
  exact⟨H2,h2,h H2⟩
 ·obtain⟨rfl,h⟩:=lY hy h2
  exact⟨H,h H,h1⟩
 ·have kx:=fun H=>L0 (call:=call) (e:=e) (H:=H) (o:=x) (by omega)
  rw[(kx H).1] at h1;rw[(kx H).2] at hx;obtain⟨rfl,h⟩:=jZ hx h1;refine⟨H2,h2,?_⟩;rw[(kx H2).1];refine h H2 ?_
  by_cases hy0:y.cls=0
  ·rw[(lY hy0 h2).1];exact Qu.refl _
  ·have ky:=L0 (call:=call) (e:=e) (H:=H1) hy0
   rw[ky.1] at h2;rw[ky.2] at hy hy0;have:y.op.cls=1\/y.op.cls=2\/y.op.cls=3:=by omega
   rcases this with hy | hy | hy
   ·rw[(jZ hy h2).1];exact Qu.refl _
   ·exact (Q5 hy h2).1
   ·exact I6 hy h2
 ·have kx:=fun H=>L0 (call:=call) (e:=e) (H:=H) (o:=x) (by omega)
  have ky:=fun H=>L0 (call:=call) (e:=e) (H:=H) (o:=y) (by omega);rw[(kx H).1] at h1;rw[(kx H).2] at hx;rw[(ky H1).1] at h2;rw[(ky H).2] at hy;obtain⟨rfl,h⟩:=jZ hy h2;exact⟨H,by rw[(ky H).1];exact h H (Q5 hx h1).2,by rw[(kx H).1];exact h1⟩
open Go.RowKit
def kJ(s s':St):Prop:=s.H=s'.H/\∀ t,s.env.get t=s'.env.get t
theorem kJ.refl(s:St):kJ s s:=⟨rfl,fun _=>rfl⟩
theorem kJ.symm{s s':St}(h:kJ s s'):kJ s' s:=⟨h.1.symm,fun t=>(h.2 t).symm⟩
theorem kJ.trans{s s' s'':St}(h:kJ s s')(k:kJ s' s''):kJ s s'':=⟨h.1.trans k.1,fun t=>(h.2 t).trans (k.2 t)⟩
def wb.look(n:Nat)(o:wb):Bool:=o.op.look n||(match o.guard with | some (t,_)=>n==t | none=>false)
def nD(d:Option Nat)(p:Nat->Bool):Bool:=
 match d with
 |some d=>p d
 |none=>false
def cJ(x y:wb):Bool:=
 !nD x.dst (fun d=>y.look d)&& !nD y.dst (fun d=>x.look d)&& !nD x.dst (fun d=>y.dst==some d)&&gX x.cls y.cls
theorem qu{e e':Tr}{g:Option (Nat×Bool)}(h:∀ t b,g=some (t,b)->e.get t=e'.get t):ch e g=ch e' g:=by
 cases g with
 |none=>rfl
 |some g=>obtain⟨t,b⟩:=g;simp only[ch,h t b rfl]
theorem Zy(e:Tr)(d:Option Nat)(v:AV)(t:Nat):(Qq e d v).get t=if d=some t then v else e.get t:=by
 cases d with
 |none=>simp[Qq]
 |some d=>
  simp only[Qq,Tr.aa,eaa]
  by_cases h:t=d
  ·subst h;simp
  ·simp[h,rac h]
theorem yH{call:Sa}{o:wb}{e e':Tr}{H:List ba}(h:∀ n,o.look n=true->e.get n=e'.get n){s1:St}(h1:me call o ⟨e,H⟩=some s1):
 ∃ v,s1.env=Qq e o.dst v/\me call o ⟨e',H⟩=some ⟨Qq e' o.dst v,s1.H⟩:=by
 have hw:ch e o.guard=ch e' o.guard:=qu fun t b hg=>h t (by simp[wb.look,hg])
 have ho:Ik call e H o=Ik call e' H o:=ry fun n hn=>h n (by simp[wb.look,hn]);unfold me at h1 ⊢;simp only at h1 ⊢;rw[<- hw];cases hc:ch e o.guard with
 |none=>simp[hc,bo] at h1
 |some b=>
  cases b with
  |true=>
   simp only[hc,bo,HQ] at h1 ⊢;rw[<- ho];cases hv:Ik call e H o with
   |none=>simp[hv,GD] at h1
   |some r=>obtain⟨v,H'⟩:=r;simp only[hv,GD,eaa] at h1 ⊢;subst h1;exact⟨v,rfl,rfl⟩
  |false=>simp only[hc,bo,KA,eaa] at h1 ⊢;subst h1;exact⟨_,rfl,rfl⟩
theorem lK{call:Sa}{o:wb}{s s' s1:St}(he:kJ s s')(h:me call o s=some s1):∃ s1',me call o s'=some s1'/\kJ s1 s1':=by
 obtain⟨e,H⟩:=s;obtain⟨e',H'⟩:=s';obtain⟨h1,h2⟩:=he;simp only at h1 h2;subst h1;obtain⟨v,hv,hh⟩:=yH (e':=e') (fun n _=>h2 n) h;refine⟨_,hh,rfl,fun t=> ?_⟩;simp only[hv,Zy,h2]
theorem GN{call:Sa}{os:List wb}:∀ {s s' s1:St},kJ s s'->Nf call os s=some s1->∃ s1',Nf call os s'=some s1'/\kJ s1 s1':=by
 induction os with
 |nil=>intro s s' s1 he h;simp only[Nf,eaa] at h ⊢;subst h;exact⟨s',rfl,he⟩
 |cons o os ih=>
  intro s s' s1 he h;simp only[Nf] at h ⊢;cases ho:me call o s with
  |none=>simp[ho,Lt] at h
  |some s2=>simp only[ho,Lt] at h;obtain⟨s2',h2,e2⟩:=lK he ho;obtain⟨s1',h3,e3⟩:=ih e2 h;exact⟨s1',by simp[h2,Lt,h3],e3⟩
theorem Er{call:Sa}{o:wb}{e:Tr}{H:List ba}{s1:St}(h:me call o ⟨e,H⟩=some s1):
 (ch e o.guard=some true/\∃ v,Ik call e H o=some (v,s1.H)/\s1.env=Qq e o.dst v)\/
 (ch e o.guard=some false/\s1=⟨Qq e o.dst (.pv (.mc [])),H⟩):=by
 unfold me at h;simp only at h;cases hc:ch e o.guard with
 |none=>simp[hc,bo] at h
 |some b=>
  cases b with
  |true=>
   simp only[hc,bo,HQ] at h;cases hv:Ik call e H o with
   |none=>simp[hv,GD] at h
   |some r=>obtain⟨v,H'⟩:=r;simp only[hv,GD,eaa] at h;subst h;exact .inl ⟨rfl,v,by simp,rfl⟩
  |false=>simp only[hc,bo,KA,eaa] at h;exact .inr ⟨rfl,h.symm⟩
theorem zt{call:Sa}{o:wb}{e:Tr}{H H':List ba}{v:AV}(h:ch e o.guard=some true)(hv:Ik call e H o=some (v,H')):
 me call o ⟨e,H⟩=some ⟨Qq e o.dst v,H'⟩:=by
 simp[me,h,bo,HQ,hv,GD]
theorem Tp{call:Sa}{o:wb}{e:Tr}{H:List ba}(h:ch e o.guard=some false):
 me call o ⟨e,H⟩=some ⟨Qq e o.dst (.pv (.mc [])),H⟩:=by
 simp[me,h,bo,KA]
theorem GB{e:Tr}{x y:Option Nat}{v u:AV}(h:∀ d,x=some d->y≠some d)(t:Nat):(Qq (Qq e x v) y u).get t=(Qq (Qq e y u) x v).get t:=by
 simp only[Zy]
 by_cases hx:x=some t
 ·have:=h t hx
  simp[hx,this]
 ·simp[hx]
theorem KT{call:Sa}{x y:wb}{s s1 s2:St}(hc:cJ x y=true)(h1:me call x s=some s1)(h2:me call y s1=some s2):
 ∃ s3 s4,me call y s=some s3/\me call x s3=some s4/\kJ s2 s4:=by
 obtain⟨e,H⟩:=s;simp only[cJ,daa,tac] at hc;obtain⟨⟨⟨ca,cb⟩,cc⟩,cd⟩:=hc;have ha:∀ d,x.dst=some d->y.look d=false:=fun d hd=>by simpa[nD,hd] using ca
 have hb:∀ d,y.dst=some d->x.look d=false:=fun d hd=>by simpa[nD,hd] using cb
 have P9:∀ d,x.dst=some d->y.dst≠some d:=fun d hd he=>by simp[nD,hd,he] at cc
 have lx:∀ (e:Tr)(u:AV) n,x.look n=true->(Qq e y.dst u).get n=e.get n:=fun e u n hn=>by
  rw[Zy]
  by_cases hd:y.dst=some n
  ·rw[hb n hd] at hn;cases hn
  ·simp[hd]
 have ly:∀ (e:Tr)(u:AV) n,y.look n=true->(Qq e x.dst u).get n=e.get n:=fun e u n hn=>by
  rw[Zy]
  by_cases hd:x.dst=some n
  ·rw[ha n hd] at hn;cases hn
  ·simp[hd]
 have wx:∀ (e:Tr) u,ch (Qq e y.dst u) x.guard=ch e x.guard:=fun e u=>qu fun t b hg=>lx e u t (by simp[wb.look,hg])
 have wy:∀ (e:Tr) u,ch (Qq e x.dst u) y.guard=ch e y.guard:=fun e u=>qu fun t b hg=>ly e u t (by simp[wb.look,hg])
 have ox:∀ (e:Tr) u H,Ik call (Qq e y.dst u) H x=Ik call e H x:=fun e u H=>ry fun n hn=>lx e u n (by simp[wb.look,hn]);have oy:∀ (e:Tr) u H,Ik call (Qq e x.dst u) H y=Ik call e H y:=fun e u H=>ry fun n hn=>ly e u n (by simp[wb.look,hn]);obtain⟨e1,H1⟩:=s1;obtain⟨e2,H2⟩:=s2;rcases Er h1 with⟨g1,v1,q1,r1⟩ | ⟨g1,r1⟩
 ·simp only at q1 r1
  subst r1;rcases Er h2 with⟨g2,v2,q2,r2⟩ | ⟨g2,r2⟩
  ·simp only at q2 r2
   subst r2;rw[wy] at g2;rw[oy] at q2;obtain⟨H3,k1,k2⟩:=kX cd q1 q2;exact⟨_,_,zt g2 k1,zt (by rw[wx];exact g1) (by rw[ox];exact k2),rfl,fun t=>GB P9 t⟩
  ·injection r2 with r2 r3
   subst r2 r3;rw[wy] at g2;exact⟨_,_,Tp g2,zt (by rw[wx];exact g1) (by rw[ox];exact q1),rfl,fun t=>GB P9 t⟩
 ·injection r1 with r1 r3
  subst r1 r3;rcases Er h2 with⟨g2,v2,q2,r2⟩ | ⟨g2,r2⟩
  ·simp only at q2 r2
   subst r2;rw[wy] at g2;rw[oy] at q2;exact⟨_,_,zt g2 q2,Tp (by rw[wx];exact g1),rfl,fun t=>GB P9 t⟩
  ·injection r2 with r2 r3
   subst r2 r3;rw[wy] at g2;exact⟨_,_,Tp g2,Tp (by rw[wx];exact g1),rfl,fun t=>GB P9 t⟩
theorem D4{call:Sa}{y:wb}{rest:List wb}:∀ {pre:List wb}{s s':St},(∀ x∈pre,cJ x y=true)->Nf call (pre++y::rest) s=some s'->
 ∃ s1 s'',me call y s=some s1/\Nf call (pre++rest) s1=some s''/\kJ s' s'':=by
 intro pre
 induction pre with
 |nil=>
  intro s s' _ h;simp only[cab,Nf] at h ⊢;cases ho:me call y s with
  |none=>simp[ho,Lt] at h
  |some s1=>simp only[ho,Lt] at h;exact⟨s1,s',rfl,h,kJ.refl _⟩
 |cons x pre ih=>
  intro s s' hc h;simp only[fab,Nf] at h ⊢;cases ho:me call x s with
  |none=>simp[ho,Lt] at h
  |some s1=>simp only[ho,Lt] at h;obtain⟨s2,s'',k1,k2,k3⟩:=ih (fun z hz=>hc z (by simp[hz])) h;obtain⟨s3,s4,j1,j2,j3⟩:=KT (hc x (by simp)) ho k1;obtain⟨s5,i1,i2⟩:=GN j3 k2;exact⟨s3,s5,j1,by simp[j2,Lt,i1],k3.trans i2⟩
def mark(D:Nat):Deferred:={target:= .collected D,args:= #[]}
def Marks(w w':World)(a a':Act):Prop:=∃ Ds:List Nat,a'.defers=Ds.map mark++a.defers/\Ds.Nodup/\∀ D∈Ds,w.heap.size<=D/\w'.heap[D]? =some (.deferred (some []))
theorem Marks.same{w w':World}{a a':Act}(h:a'.defers=a.defers):Marks w w' a a':=⟨[],h,.nil,fun _ h=>by cases h⟩
theorem Marks.trans{B0:wg}{w w' w'':World}{a a' a'':Act}(h:Marks w w' a a')(k:Marks w' w'' a' a'')(hb:oh B0 w' w'')(hs:w.heap.size<=w'.heap.size):Marks w w'' a a'':=by
 obtain⟨D1,e1,n1,k1⟩:=h;obtain⟨D2,e2,n2,k2⟩:=k;refine⟨D2++D1,by rw[e2,e1];simp,List.nodup_append.2 ⟨n2,n1,fun x hx y hy e=> ?_⟩,fun D hD=> ?_⟩
 ·subst e
  have:=Mm (k1 x hy).2
  have:=(k2 x hx).1
  omega
 ·rcases Naa.1 hD with h | h
  ·exact⟨sac hs (k2 D h).1,(k2 D h).2⟩
  ·exact⟨(k1 D h).1,hb.ie _ _ (k1 D h).2 rfl⟩
def YI:Option Nat->Fence
 |none=>Fence.wide
 |some l=>Fence.wide.inRound l
theorem vW(ro:Option Nat)(f:FuncId):(YI ro).fn f:=by cases ro <;> trivial
theorem jJ(ro:Option Nat):(YI ro).depth=none:=by cases ro <;> rfl
theorem dQ{P:Program}{n:Nat}{f:FuncId}{args:Array Value}{w:World}{R:Ending->World->Prop}(ro:Option Nat)(h:Calls P f args w R):CallsIn (YI ro) n P f args w R:=by
 cases ro with
 |none=>exact callsIn_wide.2 h
 |some l=>exact (callsIn_wide (n:=n)).2 h
theorem aV{P:Program}{n:Nat}{row:String}{args:Array Value}{w:World}{R:Value->World->Prop}(ro:Option Nat)(h:Rows P row args w R):RowsIn (YI ro) n P row args w R:=by
 have:RowsIn Fence.wide n P row args w R:=fun c cs _=>let ⟨v,w',r,s⟩:=h c cs;⟨v,w',r,stepsIn_wide.2 s⟩
 cases ro with
 |none=>exact this
 |some l=>exact this
theorem TF{P:Program}{n:Nat}{o:Oper}{a:Act}{w:World}{next:Act->World->Prop}{Q:Exit->Act->World->Prop}(ro:Option Nat)(hd:∀ c,o.op≠ .defer c)(h:o.wp P a w next Q):o.wpIn (YI ro) n P a w next Q:=by
 refine⟨fun f _=>vW ro f,?_⟩;rw[Oper.semAt_eq _ _ _ hd];unfold Oper.wp at h
 generalize (execOp a.eval o).run P w=r at h ⊢
 cases r with
 |ok x w'=>
  cases x <;> simp only[Oper.upon,Oper.uponIn] at h ⊢ <;> first
   |exact h
   |exact⟨fun hx=>by (rw[jJ] at hx;cases hx),dQ ro h⟩
   |exact⟨fun hx=>by (rw[jJ] at hx;cases hx),aV ro h⟩
   |exact h.elim
 |halt x w'=>cases x <;> simp only[Oper.upon,Oper.uponIn] at h ⊢ <;> exact h
structure Hn(fo:Nat->FuncId)(B0:wg)(w:World)(R:Rd)(φ:Pl)(H:List ba)(a:Act)(w':World)(R':Rd)(φ':Pl)(s':St)(a':Act):Prop where
 rel:vc fo B0 w' R' φ' s'.H
 env:ij fo (K R' φ' s'.H) s'.env a'
 mono:∀ x u,K R φ H x u->K R' φ' s'.H x u
 below:oh B0 w w'
 size:a'.tmps.size=a.tmps.size
 defers:Marks w w' a a'
section
variable {P:Program}{fo:Nat->FuncId}{B0:wg}{call:Sa}
theorem Hn.refl{w:World}{R:Rd}{φ:Pl}{s:St}{a:Act}(hS:vc fo B0 w R φ s.H)(hE:ij fo (K R φ s.H) s.env a):Hn fo B0 w R φ s.H a w R φ s a:=
 ⟨hS,hE,fun _ _ h=>h,oh.refl _ _,rfl,.same rfl⟩
theorem Hn.trans{w w' w'':World}{R R' R'':Rd}{φ φ' φ'':Pl}{H:List ba}{s' s'':St}{a a' a'':Act}
 (h:Hn fo B0 w R φ H a w' R' φ' s' a') (k:Hn fo B0 w' R' φ' s'.H a' w'' R'' φ'' s'' a''):Hn fo B0 w R φ H a w'' R'' φ'' s'' a'':=
 ⟨k.rel,k.env,fun x u hx=>k.mono _ _ (h.mono _ _ hx),h.below.trans k.below,k.size.trans h.size,h.defers.trans k.defers k.below h.below.size⟩
theorem Hn.eqv{w w':World}{R R':Rd}{φ φ':Pl}{H:List ba}{s' s'':St}{a a':Act}(h:Hn fo B0 w R φ H a w' R' φ' s' a')(he:kJ s' s''):Hn fo B0 w R φ H a w' R' φ' s'' a':=by
 obtain⟨e1,e2⟩:=he;exact⟨e1 ▸ h.rel,fun t=>by rw[<- e2,<-e1];exact h.env t,e1 ▸ h.mono,h.below,h.size,h.defers⟩
theorem vc.drew{w w':World}{R:Rd}{φ:Pl}{H:List ba}(h:vc fo B0 w R φ H)(hw:w'.heap=w.heap):vc fo B0 w' R φ H:=by
 have hb:∀ b arr,Nz w b arr->Nz w' b arr:=fun b arr hb=>hb.ie (by rw[hw])
 refine⟨by rw[hw];exact h.low,fun b o v hv=>by rw[<- h.sub b o v hv];simp[World.cell?,hw],fun id o ho=> ?_,h.inj,h.Dq,fun k hk=>by rw[hw];exact h.slt k hk,h.free⟩;have:=h.obj id o ho
 cases o with
 |box cells=>exact⟨this.1,this.2.1,this.2.2.1,this.2.2.2.imp fun arr q=>⟨hb _ _ q.1,q.2⟩⟩
 |seq sz ag cells fl nl=>exact⟨this.1,this.2.1,this.2.2.1,this.2.2.2.1,fun e=>⟨(this.2.2.2.2 e).1,(this.2.2.2.2 e).2.1,(this.2.2.2.2 e).2.2.imp fun arr q=>⟨hb _ _ q.1,q.2⟩⟩⟩
 |tok sz n nl=>exact⟨this.1,this.2.1,fun e=>⟨(this.2.2 e).1,(this.2.2 e).2.1,(this.2.2 e).2.2.imp fun arr q=>⟨hb _ _ q.1,q.2⟩⟩⟩
 |map es=>obtain⟨h1,h2,N7,clk,h3,h4⟩:=this;exact⟨h1,h2,N7,clk,by rw[hw];exact h3,h4⟩
 |dead=>trivial
theorem ij.put{k:AV->Value->Prop}{e:Tr}{a:Act}(h:ij fo k e a)(d:Option Nat)(hd:∀ t,d=some t->t < a.tmps.size){v:AV}{u:Value}(hv:Sc fo k v u):
 ij fo k (Qq e d v) (a.put d u):=by
 intro t;rw[Zy];cases d with
 |none=>simp only[reduceCtorEq,if_false];exact h t
 |some d=>
  by_cases ht:d=t
  ·subst ht
   simp only[if_true,Act.put];rw[qab,Array.getElem?_setIfInBounds_self_of_lt (hd d rfl)];exact hv
  ·simp only[eaa,ht,if_false,Act.put]
   rw[qab,Array.getElem?_setIfInBounds_ne ht,<-qab];exact h t
def BA(nt:Nat)(ops:Array Oper)(o:Oper)(ao:wb):Bool:=
 o.dst==ao.dst&&(match o.dst with | some d=>decide (d < nt) | none=>true)&&
 (match o.guard,ao.guard with
 |none,none=>true
 |some (g,want),some (t,yae)=>want==yae&&((ops[g]?).bind (·.dst))==some t
 |_,_=>false)
def B3(P:Program)(fo:Nat->FuncId)(B0:wg)(call:Sa)(o:Oper)(ao:wb):Prop:=
 ∀ (w:World)(R:Rd)(φ:Pl)(e:Tr)(H H':List ba)(a:Act)(v:AV),vc fo B0 w R φ H->ij fo (K R φ H) e a->Ik call e H ao=some (v,H')->tC P fo B0 o a w R φ H v H'
theorem BJ{nt:Nat}{ops:Array Oper}{o:Oper}{ao:wb}(hk:BA nt ops o ao=true){k:AV->Value->Prop}{R:Rd}{φ:Pl}{H:List ba}{e:Tr}{a:Act}(hE:ij fo (K R φ H) e a){b:Bool}
 (h:ch e ao.guard=some b):Region.wanted o (yielded ops a.tmps)=b:=by
 simp only[BA,daa] at hk;obtain⟨_,hg⟩:=hk;unfold Region.wanted
 cases h1:o.guard with
 |none=>
  cases h2:ao.guard with
  |none=>simp[h2,ch] at h;simp[h]
  |some g=>simp[h1,h2] at hg
 |some g=>
  obtain⟨g,want⟩:=g;cases h2:ao.guard with
  |none=>simp[h1,h2] at hg
  |some g'=>
   obtain⟨t,yae⟩:=g';simp only[h1,h2,daa,beq_iff_eq] at hg;obtain⟨rfl,hg⟩:=hg;have ht:=hE t;simp only[h2,ch] at h;simp only[yielded,hg,Daa]
   split at h
   ·rename_i b' hb
    rw[hb] at ht;have:=ht.Sb
    injection h with h
    cases hv:a.tmps[t]? with
    |none=>rw[qab,hv] at this;cases this
    |some v=>rw[qab,hv] at this;simp only[aad] at this;cases this;simp only[<- h];cases b' <;> cases want <;> rfl
   ·rename_i hb
    rw[hb] at ht;have:=ht.Sb
    injection h with h
    subst h;cases hv:a.tmps[t]? with
    |none=>simp
    |some v=>rw[qab,hv] at this;simp only[aad] at this;cases this;simp
   ·cases h
theorem kO{nt:Nat}{ops:Array Oper}{i:Nat}{o:Oper}{ao:wb}(hi:ops[i]? =some o)(hk:BA nt ops o ao=true)(ho:B3 P fo B0 call o ao)(hnd:∀ c,o.op≠ .defer c)(ro:Option Nat){n:Nat}
 {w:World} {R:Rd} {φ:Pl} {s s1:St} {a:Act} (hS:vc fo B0 w R φ s.H) (hE:ij fo (K R φ s.H) s.env a) (hn:a.tmps.size=nt) (h:me call ao s=some s1)
 {Q:Exit->Act->World->Prop} {next:Act->World->Prop} (hq:∀ a' w' R' φ',Hn fo B0 w R φ s.H a w' R' φ' s1 a'->next a' w'):wpOpIn (YI ro) n P ops Q i next a w:=by
 have hk':=hk;simp only[BA,daa,beq_iff_eq] at hk';obtain⟨⟨hd,hlt⟩,_⟩:=hk';have o9:∀ t,ao.dst=some t->t < a.tmps.size:=fun t ht=>by rw[hd,ht] at hlt;rw[hn];simpa using hlt
 have sz:∀ (a:Act)(d:Option Nat)(u:Value),(a.put d u).tmps.size=a.tmps.size:=fun a d u=>by cases d <;> simp[Act.put]
 have df:∀ (a:Act)(d:Option Nat)(u:Value),(a.put d u).defers=a.defers:=fun a d u=>by cases d <;> rfl
 obtain⟨e,H⟩:=s;unfold wpOpIn;simp only[hi];rcases Er h with⟨g,v,q,r⟩ | ⟨g,r⟩
 ·rw[BJ (k:=fun _ _=>True) hk hE g]
  simp only[if_true];refine TF ro hnd (ho w R φ e H s1.H a v hS hE q next Q fun v' w' R' φ' h1 h2 h3 h4=>hq _ _ R' φ' ⟨h1,?_,h3,h4,sz _ _ _,.same (df _ _ _)⟩);rw[r,hd];exact (hE.mono h3).put ao.dst o9 h2
 ·rw[BJ (k:=fun _ _=>True) hk hE g]
  simp only[Baa,if_false];subst r;refine⟨fun f _=>vW ro f,hq _ _ R φ ⟨hS,?_,fun _ _ h=>h,oh.refl _ _,sz _ _ _,.same (df _ _ _)⟩⟩;rw[hd];exact hE.put ao.dst o9 (.atom _ _ (show Ta R _ _ from .mc _ _ .nil))
def VL(aops:List wb)(L:List Nat):List wb:=L.filterMap (aops[·]?)
theorem BM{aops:List wb}{i:Nat}{ao:wb}(h:aops[i]? =some ao)(L:List Nat):VL aops (i::L)=ao::VL aops L:=by simp[VL,h]
theorem yA(aops:List wb)(L M:List Nat):VL aops (L++M)=VL aops L++VL aops M:=by simp[VL]
theorem gJ(aops:List wb):VL aops (List.range aops.length)=aops:=by
 suffices ∀ n,n<=aops.length->VL aops (List.range n)=aops.take n by simpa using this aops.length (waa _)
 intro n
 induction n with
 |zero=>intro _;simp[VL]
 |succ n ih=>intro h;rw[vad,yA,ih (by omega),Fae];simp[VL,caa (show n < aops.length by omega)]
structure tN(P:Program)(fo:Nat->FuncId)(B0:wg)(call:Sa)(nt:Nat)(ops:Array Oper)(aops:List wb):Prop where
 len:aops.length=ops.size
 slot:∀ (i:Nat)(o:Oper)(ao:wb),ops[i]? =some o->aops[i]? =some ao->BA nt ops o ao=true
 V5:∀ (i:Nat)(o:Oper)(ao:wb),ops[i]? =some o->aops[i]? =some ao->B3 P fo B0 call o ao
 nd:∀ (i:Nat)(o:Oper)(ao:wb),ops[i]? =some o->aops[i]? =some ao->∀ c,o.op≠ .defer c
theorem LY(ro:Option Nat){n:Nat}{nt:Nat}{ops:Array Oper}{aops:List wb}(hs:tN P fo B0 call nt ops aops){Q:Exit->Act->World->Prop}:∀ (L:List Nat),(∀ i∈L,i < ops.size)->∀ {w:World}{R:Rd}{φ:Pl}{s s':St}{a:Act},
 vc fo B0 w R φ s.H->ij fo (K R φ s.H) s.env a->a.tmps.size=nt->Nf call (VL aops L) s=some s'->
 (∀ a' w' R' φ',Hn fo B0 w R φ s.H a w' R' φ' s' a'->Q .normal a' w')->wpOpsIn (YI ro) n P ops Q L a w:=by
 intro L
 induction L with
 |nil=>intro _ w R φ s s' a hS hE hn h hq;simp only[VL,List.filterMap_nil,Nf,eaa] at h;subst h;exact hq _ _ R φ (.refl hS hE)
 |cons i L ih=>
  intro hL w R φ s s' a hS hE hn h hq;have hi:i < ops.size:=hL i (by simp)
  have h1:ops[i]? =some ops[i]:=Cad hi;have h2:aops[i]? =some (aops[i]'(by rw[hs.len];exact hi)):=caa _;rw[BM h2,Nf] at h;cases ho:me call (aops[i]'(by rw[hs.len];exact hi)) s with
  |none=>simp[ho,Lt] at h
  |some s1=>simp only[ho,Lt] at h;rw[wpOpsIn_cons];refine kO h1 (hs.slot _ _ _ h1 h2) (hs.V5 _ _ _ h1 h2) (hs.nd _ _ _ h1 h2) ro hS hE hn ho fun a' w' R' φ' g=> ?_;exact ih (fun j hj=>hL j (by simp[hj])) g.rel g.env (g.size.trans hn) h fun a'' w'' R'' φ'' g'=>hq _ _ _ _ (g.trans g')
theorem zH(ro:Option Nat){n:Nat}{nt:Nat}{id:Nat}{ops:Array Oper}{aops:List wb}(hs:tN P fo B0 call nt ops aops){Q:Exit->Act->World->Prop}{w:World}{R:Rd}{φ:Pl}{s s':St}{a:Act}
 (hS:vc fo B0 w R φ s.H) (hE:ij fo (K R φ s.H) s.env a) (hn:a.tmps.size=nt) (h:Nf call aops s=some s')
 (hq:∀ a' w' R' φ',Hn fo B0 w R φ s.H a w' R' φ' s' a'->Q .normal a' w'):(Code.region id ops false).wpIn (YI ro) n P Q a w:=
 wpIn_region (LY ro hs _ (fun i hi=>Pac.1 hi) hS hE hn (by rw[<- hs.len,gJ];exact h) hq)
def fQ(ops:Array Oper):Nat->Nat->Nat->Bool
 |0,_,_=>false
 |f+1,j,i=>
  match ops[i]? with
  |some o=>o.after.toList.any fun e=>Region.binds .any e&&(e.on==j||(decide (j < e.on)&&fQ ops f j e.on))
  |none=>false
def SO(ops:Array Oper)(aops:List wb):Bool:=
 (List.range ops.size).all fun i=>
  (match ops[i]? with | some o=>o.after.toList.all fun e=> !Region.binds .any e||decide (e.on < i) | none=>true)&&
  (List.range i).all fun j=>
   (match aops[j]?,aops[i]? with
   |some x,some y=>cJ x y
   |_,_=>false)||fQ ops 8 j i
def cw(ops:Array Oper)(F7:Array Bool):List Nat:=(List.range ops.size).filter fun i=> !F7.getD i true
def T4(ops:Array Oper)(F7:Array Bool):Prop:=∀ f j k,fQ ops f j k=true->F7.getD k true=true->k < ops.size->F7.getD j true=true
theorem kD{F7:Array Bool}{i:Nat}(h:i < F7.size):F7.getD i true=F7.getD i false:=by
 simp[qab,h]
theorem cZ(ro:Option Nat){nn:Nat}{nt:Nat}{ops:Array Oper}{aops:List wb}(hs:tN P fo B0 call nt ops aops)(hd:SO ops aops=true){Q:Exit->Act->World->Prop}:∀ (n:Nat)(F7:Array Bool){w:World}{R:Rd}{φ:Pl}{s s' s'':St}{a:Act},
 (cw ops F7).length<=n->F7.size=ops.size->T4 ops F7->vc fo B0 w R φ s.H->ij fo (K R φ s.H) s.env a->a.tmps.size=nt->
 Nf call (VL aops (cw ops F7)) s=some s''->kJ s' s''->
 (∀ a' w' R' φ',Hn fo B0 w R φ s.H a w' R' φ' s' a'->Q .normal a' w')->wpAnyIn (YI ro) nn P .any ops Q n F7 a w:=by
 have hdd:∀ i,i < ops.size->(∀ o,ops[i]? =some o->∀ e∈o.after,Region.binds .any e=true->e.on < i)/\∀ j,j < i->(∀ x y,aops[j]? =some x->aops[i]? =some y->cJ x y=true)\/fQ ops 8 j i=true:=by
  intro i hi;have:=aab.1 hd i (Pac.2 hi)
  simp only[daa] at this;refine⟨fun o ho e he hb=> ?_,fun j hj=> ?_⟩
  ·have h1:=this.1
   simp only[ho] at h1;have:=aab.1 h1 e (by simpa using he)
   simpa[hb] using this
  ·have h2:=aab.1 this.2 j (Pac.2 hj)
   simp only[Oac] at h2;rcases h2 with h2 | h2
   ·left;intro x y hx hy;simpa[hx,hy] using h2
   ·exact .inr h2
 have empty:∀ (F7:Array Bool),F7.size=ops.size->Region.ready .any ops F7=[]->cw ops F7=[]:=by
  intro F7 K7 hr;cases Tac:cw ops F7 with
  |nil=>rfl
  |cons i rest=>
   exfalso;have X8:(cw ops F7).Pairwise (· < ·):=List.Pairwise.filter _ List.pairwise_lt_range
   have hmem:i∈cw ops F7:=by rw[Tac];simp
   have him:=List.mem_filter.1 hmem
   have hi:=Pac.1 him.1
   have h1:ops[i]? =some ops[i]:=Cad hi;have:i∈Region.ready .any ops F7:=by
    rw[mem_ready];refine⟨by simpa using him.2,_,h1,fun e he hb=> ?_⟩;have hlt:=(hdd i hi).1 _ h1 e he hb
    rw[<- kD (by omega)];cases hg:F7.getD e.on true with
    |true=>rfl
    |false=>
     exfalso;have:e.on∈cw ops F7:=List.mem_filter.2 ⟨Pac.2 (by omega),by simp[hg]⟩
     rw[Tac] at this X8;rcases bab.1 this with he' | he'
     ·omega
     ·have:=(Wad.1 X8).1 _ he';omega
   rw[hr] at this;cases this
 have done:∀ (F7:Array Bool){w:World}{R:Rd}{φ:Pl}{s s' s'':St}{a:Act},F7.size=ops.size->vc fo B0 w R φ s.H->ij fo (K R φ s.H) s.env a->
  Nf call (VL aops (cw ops F7)) s=some s''->kJ s' s''->(∀ a' w' R' φ',Hn fo B0 w R φ s.H a w' R' φ' s' a'->Q .normal a' w')->Region.ready .any ops F7=[]->Q .normal a w:=by
  intro F7 w R φ s s' s'' a K7 hS hE E7 he hq hr;rw[empty F7 K7 hr] at E7;simp only[VL,List.filterMap_nil,Nf,eaa] at E7;subst E7;exact hq _ _ R φ ((Hn.refl hS hE).eqv he.symm)
 intro n
 induction n with
 |zero=>
  intro F7 w R φ s s' s'' a hlen K7 O7 hS hE hn E7 he hq;have kab:cw ops F7=[]:=yaa (by omega);have hr:Region.ready .any ops F7=[]:=by
   cases hr:Region.ready .any ops F7 with
   |nil=>rfl
   |cons i rest=>
    exfalso;have hi:i∈Region.ready .any ops F7:=by rw[hr];simp
    obtain⟨h0,o,ho,_⟩:=mem_ready.1 hi
    have:i∈cw ops F7:=List.mem_filter.2 ⟨Pac.2 (Uac.1 ho).1,by simp[h0]⟩
    rw[kab] at this;cases this
  exact⟨hr,done F7 K7 hS hE E7 he hq hr⟩
 |succ n ih=>
  intro F7 w R φ s s' s'' a hlen K7 O7 hS hE hn E7 he hq;refine⟨done F7 K7 hS hE E7 he hq,fun i hi=> ?_⟩;obtain⟨h0,o,ho,gah⟩:=mem_ready.1 hi
  have Uab:i < ops.size:=(Uac.1 ho).1
  have hao:aops[i]? =some (aops[i]'(by rw[hs.len];exact Uab)):=caa _;generalize aops[i]'(by rw[hs.len];exact Uab)=ao at hao;have hmem:i∈cw ops F7:=List.mem_filter.2 ⟨Pac.2 Uab,by simp[h0]⟩
  have X8:(cw ops F7).Pairwise (· < ·):=List.Pairwise.filter _ List.pairwise_lt_range
  obtain⟨pre,post,T9⟩:=List.append_of_mem hmem
  rw[T9] at X8;rw[gae] at X8;obtain⟨_,hs2,hs3⟩:=X8;have zae:cw ops (F7.setIfInBounds i true)=pre++post:=by
   have:cw ops (F7.setIfInBounds i true)=(cw ops F7).filter (fun j=>decide (j≠i)):=by
    unfold cw;rw[List.filter_filter];apply List.filter_congr
    intro j hj
    by_cases Q9:j=i
    ·subst Q9
     have:(F7.setIfInBounds j true).getD j true=true:=by rw[qab,Array.getElem?_setIfInBounds_self_of_lt (by omega)];rfl
     simp[this]
    ·rw[getD_set_ne true (rac Q9)];simp[Q9]
   rw[this,T9,List.filter_append,List.filter_cons];simp only[ne_eq,not_true_eq_false,decide_false,Baa,if_false];rw[List.filter_eq_self.2 fun j hj=>by have:=hs3 j hj i (by simp);simp;omega,
    List.filter_eq_self.2 fun j hj=>by have:=(Wad.1 hs2).1 j hj;simp;omega]
  have hah:∀ x∈VL aops pre,cJ x ao=true:=by
   intro x hx;simp only[VL,List.mem_filterMap] at hx;obtain⟨j,hj,hxj⟩:=hx;have Q9:j < i:=hs3 j hj i (by simp);rcases (hdd i Uab).2 j Q9 with h | h
   ·exact h x ao hxj hao
   ·exfalso
    have iah:j∈cw ops F7:=by rw[T9];simp[hj]
    have hj0:F7.getD j true=false:=by simpa using (List.mem_filter.1 iah).2
    rw[show (8:Nat)=7+1 from rfl] at h;simp only[fQ,ho] at h;obtain⟨ed,hed,hb⟩:=Vad.1 h
    simp only[daa,Oac,beq_iff_eq,decide_eq_true_eq] at hb;obtain⟨H8,s8⟩:=hb;have hl:=gah ed (by simpa using hed) H8;have hlt:=(hdd i Uab).1 o ho ed (by simpa using hed) H8
    have T8:F7.getD ed.on true=true:=by rw[kD (by omega)];exact hl
    rcases s8 with rfl | ⟨_,s8⟩
    ·rw[T8] at hj0;cases hj0
    ·rw[O7 7 j ed.on s8 T8 (by omega)] at hj0;cases hj0
  rw[T9,yA,BM hao] at E7;obtain⟨s1,s2,k1,k2,k3⟩:=D4 hah E7;refine kO ho (hs.slot _ _ _ ho hao) (hs.V5 _ _ _ ho hao) (hs.nd _ _ _ ho hao) ro hS hE hn k1 fun a' w' R' φ' g=> ?_;refine ih (F7.setIfInBounds i true) (s':=s') (s'':=s2) ?_ (by simp[K7]) ?_ g.rel g.env (g.size.trans hn) (by rw[zae,yA];exact k2) (he.trans k3) fun a'' w'' R'' φ'' g'=>hq _ _ _ _ (g.trans g')
  ·rw[zae];rw[T9] at hlen;simp at hlen ⊢;omega
  ·intro f j k Sad hk Gaj
   by_cases Q9:j=i
   ·subst Q9
    rw[qab,Array.getElem?_setIfInBounds_self_of_lt (by omega)];rfl
   rw[getD_set_ne true (rac Q9)]
   by_cases hki:k=i
   ·subst hki
    cases f with
    |zero=>simp[fQ] at Sad
    |succ f=>
     simp only[fQ,ho] at Sad;obtain⟨ed,hed,hb⟩:=Vad.1 Sad
     simp only[daa,Oac,beq_iff_eq,decide_eq_true_eq] at hb;obtain⟨H8,s8⟩:=hb;have hl:=gah ed (by simpa using hed) H8;have hlt:=(hdd k Uab).1 o ho ed (by simpa using hed) H8
     have T8:F7.getD ed.on true=true:=by rw[kD (by omega)];exact hl
     rcases s8 with rfl | ⟨_,s8⟩
     ·exact T8
     ·exact O7 f j ed.on s8 T8 (by omega)
   ·rw[getD_set_ne true (rac hki)] at hk
    exact O7 f j k Sad hk Gaj
theorem XN(ro:Option Nat){n:Nat}{nt:Nat}{id:Nat}{ops:Array Oper}{aops:List wb}(hm:P.follows .mixedOrders=true)(hs:tN P fo B0 call nt ops aops)(hd:SO ops aops=true){Q:Exit->Act->World->Prop}{w:World}{R:Rd}{φ:Pl}{s s':St}{a:Act}
 (hS:vc fo B0 w R φ s.H) (hE:ij fo (K R φ s.H) s.env a) (hn:a.tmps.size=nt) (h:Nf call aops s=some s')
 (hq:∀ a' w' R' φ',Hn fo B0 w R φ s.H a w' R' φ' s' a'->Q .normal a' w'):(Code.region id ops true).wpIn (YI ro) n P Q a w:=by
 have Tac:cw ops (Array.replicate ops.size false)=List.range ops.size:=by
  unfold cw;apply List.filter_eq_self.2
  intro i hi;rw[Pac] at hi;simp[qab,hi]
 refine wpIn_region_any hm (cZ ro hs hd ops.size _ (s':=s') (s'':=s') (s:=s) (R:=R) (φ:=φ) (by rw[Tac];simp) (by simp) ?_ (hS.drew rfl) hE hn ?_ (kJ.refl _) ?_)
 ·intro f j k _ hk hlt
  simp[qab,hlt] at hk
 ·rw[Tac,<-hs.len,gJ];exact h
 ·intro a' w' R' φ' g
  exact hq _ _ _ _ ⟨g.rel,g.env,g.mono,oh.trans ⟨(RowKit.Below.refl _ w).drew,fun _ _ h _=>h,fun _ _=>rfl⟩ g.below,g.size,g.defers⟩
end
section
variable {P:Program}{fo:Nat->FuncId}{B0:wg}
def Rw(w:World):Rd:=fun b o=>w.cell? ⟨b,o,none⟩
theorem pD{α β:Type}{f:α->Option β}:∀ {l:List α}{r:List β},Ra f l=some r->r.length=l.length/\∀ (i:Nat)(x:α),l[i]? =some x->∃ y,r[i]? =some y/\f x=some y:=by
 intro l
 induction l with
 |nil=>intro r h;simp[Ra] at h;subst h;exact⟨rfl,fun i x h=>by simp at h⟩
 |cons a l ih=>
  intro r h;simp only[Ra,uaa,eaa] at h;obtain⟨b,h1,bs,h2,rfl⟩:=h;obtain⟨k1,k2⟩:=ih h2;refine⟨by simp[k1],fun i x hx=> ?_⟩;cases i with
  |zero=>simp at hx;subst hx;exact⟨b,rfl,h1⟩
  |succ i=>simpa using k2 i x (by simpa using hx)
theorem JX{H:List ba}{d:Nat}{v:AV}{p:PV}(h1:v.one=true)(h:Ub H d v=some p):cI p=true:=by
 cases v with
 |pv q=>simp[Ub] at h;subst h;exact h1
 |uq id nl sz es=>simp[Ub] at h;subst h;cases nl <;> rfl
 |ptr id off=>
  cases d with
  |zero=>simp[Ub] at h
  |succ d=>
   simp only[Ub] at h
   split at h
   ·simp only[faa] at h;obtain⟨ps,_,rfl⟩:=h;rfl
   ·cases h
 |own id len=>
  cases d with
  |zero=>simp[Ub] at h
  |succ d=>
   simp only[Ub] at h
   split at h
   ·split at h
    ·rename_i nl _ _
     cases nl with
     |true=>simp at h;subst h;rfl
     |false=>simp only[Baa,if_false,faa] at h;obtain⟨ps,_,rfl⟩:=h;rfl
    ·cases h
   ·cases h
 |Ec=>cases d <;> simp[Ub] at h
 |Ol=>cases d <;> simp[Ub] at h
 |mp=>cases d <;> simp[Ub] at h
 |undef=>cases d <;> simp[Ub] at h
 |agg=>simp[AV.one] at h1
 |mc=>simp[AV.one] at h1
theorem ZU{H:List ba}{d:Nat}{cs:List AV}{ps:List PV}(h1:cs.all AV.one=true)(h:Ra (Ub H d) cs=some ps):∀ p∈ps,cI p=true:=by
 obtain⟨k1,k2⟩:=pD h;intro p hp;obtain⟨i,hi⟩:=Dac.1 hp
 have hlt:=getElem?_lt hi;have hx:cs[i]? =some (cs[i]'(by omega)):=caa _;obtain⟨y,hy1,hy2⟩:=k2 i _ hx;rw[hi] at hy1;injection hy1 with hy1;subst hy1
 exact JX (aab.1 h1 _ (saa _)) hy2
theorem XM{w:World}{R Q:Rd}{φ:Pl}{H:List ba}(hS:vc fo B0 w R φ H)(hsub:Sub R Q)(hQ:∀ b o v,B0.n<=b->w.cell? ⟨b,o,none⟩=some v->Q b o=some v):∀ (d:Nat){v:AV}{u:Value}{p:PV},Sc fo (K R φ H) v u->Ub H d v=some p->Ta Q p u:=by
 intro d
 induction d with
 |zero=>
  intro v u p hv h;cases v with
  |pv q=>simp[Ub] at h;subst h;exact hv.Sb.mono hsub
  |uq id nl sz es=>
   simp[Ub] at h;have h1:=hv.Zw
   cases nl with
   |true=>simp at h;subst h;rw[(h1.2.1 rfl).1];exact .ga
   |false=>simp at h;subst h;exact (h1.2.2.1 rfl).mono hsub
  |_=>simp[Ub] at h
 |succ d ih=>
  have many:∀ {cs:List AV}{ps:List PV}{vs:List Value},mb fo (K R φ H) cs vs->Ra (Ub H d) cs=some ps->Ve Q ps vs:=by
   intro cs
   induction cs with
   |nil=>intro ps vs hl h;simp[Ra] at h;subst h;cases hl;exact .nil
   |cons c cs ihc=>
    intro ps vs hl h;simp only[Ra,uaa,eaa] at h;obtain⟨b,h1,bs,h2,rfl⟩:=h;cases hl with
    |cons _ _ v vs hc n9=>exact .cons _ _ _ _ (ih hc h1) (ihc n9 h2)
  intro v u p hv h;cases v with
  |pv q=>simp[Ub] at h;subst h;exact hv.Sb.mono hsub
  |uq id nl sz es=>
   simp[Ub] at h;have h1:=hv.Zw
   cases nl with
   |true=>simp at h;subst h;rw[(h1.2.1 rfl).1];exact .ga
   |false=>simp at h;subst h;exact (h1.2.2.1 rfl).mono hsub
  |own id len=>
   simp only[Ub] at h
   split at h
   ·rename_i sz ag cells fl nl G7
    split at h
    ·rename_i hc
     obtain⟨hlen,aX⟩:=hc;have h1:=hv.iC
     obtain⟨k0,k⟩:=h1.2.2 _ _ _ _ _ G7
     obtain⟨o0,o1,o2,laa,o3⟩:=hS.obj _ _ G7
     obtain⟨k1,k2⟩:=k (by omega);cases nl with
     |true=>simp at h;subst h;rw[k1 rfl];exact .ga
     |false=>
      simp only[Baa,if_false,faa] at h;obtain⟨ps,hps,rfl⟩:=h;obtain⟨hbase,_,arr,hB,K7,hle,hrel⟩:=o3 rfl;rcases k2 rfl with⟨q1,q2,_⟩ | ⟨b,o,cap,rfl,q2,_⟩
      ·subst q1;exact absurd (yaa (by omega)) q2
      ·obtain⟨rfl,rfl,rfl⟩:=q2 hlen
       have hl:=many hrel hps;have R7:=ZU laa hps;have Vac:ps.length=len * sz:=by rw[(pD hps).1,hlen]
       obtain⟨c1,c2,c3⟩:=Hw sz ag (fun e=>by subst e;simpa using aX) len ps Vac R7;have:=Ta.lit (R:=Q) sz (chunk sz ag len ps) (φ id).1 0 (φ id).2 (by
        rw[c3];have:len * sz<=(φ id).2 * sz:=by rw[<- K7];omega
        exact Yac this o0) c2 (by
        rw[c1];refine Rg.Sn hl (Wp hrel laa) fun i v hv=> ?_
        have hlt:=getElem?_lt hv;rw[Rab] at hv
        split at hv
        ·refine hQ _ _ _ hbase ?_
         rw[hB.cell,eab];simpa using hv
        ·cases hv)
       rw[c3] at this;exact this
    ·cases h
   ·cases h
  |ptr id off=>
   simp only[Ub] at h
   split at h
   ·rename_i cells G7
    simp only[faa] at h;obtain⟨ps,hps,rfl⟩:=h;obtain⟨hbase,_,laa,arr,hB,hrel⟩:=hS.obj _ _ G7
    rw[hv.aF.2.2 _ G7];have:=Ta.rp (R:=Q) ps off (φ id).1 0 (Rg.Sn (many hrel hps) (Wp hrel laa) fun i v hv=>by refine hQ _ _ _ hbase ?_;rw[hB.cell,eab];simpa using hv)
    rw[eab] at this;exact this
   ·cases h
  |agg cs=>
   simp only[Ub,faa] at h;obtain⟨ps,hps,rfl⟩:=h;cases hv with
   |atom _ _ h=>exact h.elim
   |agg _ vs hl=>exact .agg _ _ (many hl hps)
  |mc cs=>
   simp only[Ub,faa] at h;obtain⟨ps,hps,rfl⟩:=h;cases hv with
   |atom _ _ h=>exact h.elim
   |mc _ vs hl=>exact .mc _ _ (many hl hps)
  |Ec=>simp[Ub] at h
  |Ol=>simp[Ub] at h
  |mp=>simp[Ub] at h
  |undef=>simp[Ub] at h
theorem FU{w:World}{R:Rd}{φ:Pl}{H:List ba}{d:Nat}{v:AV}{u:Value}{p:PV}(hf:v.free=true)(hv:Sc fo (K R φ H) v u)(h:Ub H d v=some p):Ta R p u:=by
 cases v with
 |pv q=>simp[Ub] at h;subst h;exact hv.Sb
 |uq id nl sz es=>
  simp[Ub] at h;have h1:=hv.Zw
  cases nl with
  |true=>simp at h;subst h;rw[(h1.2.1 rfl).1];exact .ga
  |false=>simp at h;subst h;exact h1.2.2.1 rfl
 |_=>simp[AV.free] at hf
theorem TU{w:World}{R:Rd}{φ:Pl}{H:List ba}(hS:vc fo B0 w R φ H){d:Nat}:∀ {vs:List AV}{us:List Value}{ps:List PV},mb fo (K R φ H) vs us->Ra (Ub H d) vs=some ps->Ve (Rw w) ps us:=by
 intro vs
 induction vs with
 |nil=>intro us ps hl h;simp[Ra] at h;subst h;cases hl;exact .nil
 |cons c cs ihc=>
  intro us ps hl h;simp only[Ra,uaa,eaa] at h;obtain⟨b,h1,bs,h2,rfl⟩:=h;cases hl with
  |cons _ _ v vs hc n9=>exact .cons _ _ _ _ (XM hS (fun b o v h=>hS.sub b o v h) (fun _ _ _ _ h=>h) d hc h1) (ihc n9 h2)
theorem sQ{w:World}{R:Rd}{φ:Pl}{H:List ba}{d:Nat}:∀ {vs:List AV}{us:List Value}{ps:List PV},vs.all AV.free=true->mb fo (K R φ H) vs us->Ra (Ub H d) vs=some ps->Ve R ps us:=by
 intro vs
 induction vs with
 |nil=>intro us ps _ hl h;simp[Ra] at h;subst h;cases hl;exact .nil
 |cons c cs ihc=>
  intro us ps hf hl h;simp only[Ra,uaa,eaa] at h;obtain⟨b,h1,bs,h2,rfl⟩:=h;simp only[zac,daa] at hf;cases hl with
  |cons _ _ v vs hc n9=>exact .cons _ _ _ _ (FU (w:=w) hf.1 hc h1) (ihc hf.2 n9 h2)
mutual
theorem FN{R R':Rd}:∀ {p:PV}{v:Value},Nj p=true->Ta R p v->Ta R' p v
 |_,_,_,.int _ _=> .int _ _
 |_,_,_,.bool _=> .bool _
 |_,_,_,.str _=> .str _
 |_,_,_,.qf=> .qf
 |_,_,_,.ga=> .ga
 |_,_,_,.nw=> .nw
 |_,_,_,.Pw=> .Pw
 |_,_,_,.PB=> .PB
 |_,_,hf,.rp _ _ _ _ h=>by simp[Nj] at hf
 |_,_,hf,.lit _ _ _ _ _ h1 h2 h3=>by simp[Nj] at hf
 |_,_,hf,.IE _ _=>by simp[Nj] at hf
 |_,_,hf,.agg _ _ h=> .agg _ _ (HD (by simpa[Nj] using hf) h)
 |_,_,hf,.mc _ _ h=> .mc _ _ (HD (by simpa[Nj] using hf) h)
 |_,_,hf,.iface _ _ _ h=>by simp[Nj] at hf
theorem HD{R R':Rd}:∀ {p:List PV}{v:List Value},Jp p=true->Ve R p v->Ve R' p v
 |_,_,_,.nil=> .nil
 |_,_,hf,.cons _ _ _ _ h1 h2=>by simp only[Jp,daa] at hf;exact .cons _ _ _ _ (FN hf.1 h1) (HD hf.2 h2)
end
structure rz(n:Nat)(H H2:List ba):Prop where
 obj:∀ (id:Nat)(o2:ba),H2[id]? =some o2->id < n/\∃ o,H[id]? =some o/\qa n o=some o2
 len:∀ id,id < n->id < H.length->id < H2.length
theorem eQ{n:Nat}{H H2:List ba}(h:Ra (qa n) (H.take n)=some H2):rz n H H2:=by
 obtain⟨h1,h2⟩:=pD h;rw[Lab] at h1;refine⟨fun id o2 ho=> ?_,fun id hn hl=>by rw[h1];omega⟩;have hlt:=getElem?_lt ho;have G7:id < n/\id < H.length:=by rw[h1] at hlt;omega
 have hx:(H.take n)[id]? =some (H[id]'G7.2):=by rw[Rab,if_pos G7.1];exact caa _
 obtain⟨y,hy1,hy2⟩:=h2 id _ hx;rw[ho] at hy1;injection hy1 with hy1;subst hy1
 exact⟨G7.1,_,caa _,hy2⟩
def AV.N6:AV->Option Nat
 | .ptr id _ | .Ec id _ _ | .uq id _ _ _ | .own id _ | .mp id=>some id
 |_=>none
theorem K.na{n:Nat}{R:Rd}{φ:Pl}{H H2:List ba}(hc:rz n H H2){x:AV}{u:Value}(hx:∀ id,x.N6=some id->id < n)(h:K R φ H x u):K R φ H2 x u:=by
 have box:∀ {id:Nat}{c:List AV},H2[id]? =some (.box c)->∃ c',H[id]? =some (.box c'):=by
  intro id c hb;obtain⟨_,o,ho,C7⟩:=hc.obj _ _ hb
  cases o with
  |box c'=>exact⟨c',ho⟩
  |seq=>simp only[qa] at C7;split at C7 <;> cases C7
  |tok=>cases C7
  |map es=>simp[qa] at C7
  |dead=>cases C7
 have seq:∀ {id:Nat}{sz:Nat}{ag:Bool}{c:List AV}{fl:Nat}{nl:Bool},H2[id]? =some (.seq sz ag c fl nl)->H[id]? =some (.seq sz ag c fl nl):=by
  intro id sz ag c fl nl hb;obtain⟨_,o,ho,C7⟩:=hc.obj _ _ hb
  cases o with
  |box c'=>simp[qa] at C7
  |seq=>
   simp only[qa] at C7
   split at C7
   ·injection C7 with C7;rw[ho,C7]
   ·cases C7
  |tok=>cases C7
  |map es=>simp[qa] at C7
  |dead=>cases C7
 have tok:∀ {id:Nat}{sz m:Nat}{nl:Bool},H2[id]? =some (.tok sz m nl)->H[id]? =some (.tok sz m nl):=by
  intro id sz m nl hb;obtain⟨_,o,ho,C7⟩:=hc.obj _ _ hb
  cases o with
  |box c'=>simp[qa] at C7
  |seq=>
   simp only[qa] at C7
   split at C7
   ·cases C7
   ·cases C7
  |tok=>injection C7 with C7;rw[ho,C7]
  |map es=>simp[qa] at C7
  |dead=>cases C7
 have map:∀ {id:Nat}{es:List (PV×PV)},H2[id]? =some (.map es)->∃ es',H[id]? =some (.map es'):=by
  intro id c hb;obtain⟨_,o,ho,C7⟩:=hc.obj _ _ hb
  cases o with
  |box c'=>simp[qa] at C7
  |seq=>simp only[qa] at C7;split at C7 <;> cases C7
  |tok=>cases C7
  |map es=>exact⟨es,ho⟩
  |dead=>cases C7
 cases x with
 |pv p=>exact h
 |ptr id off=>exact⟨hc.len _ (hx _ rfl) h.1,h.2.1,fun c hb=>by obtain⟨c',hb'⟩:=box hb;exact h.2.2 _ hb'⟩
 |Ec id m off=>exact⟨hc.len _ (hx _ rfl) h.1,h.2.1,fun sz ag c fl nl hb=>h.2.2 sz ag c fl nl (seq hb)⟩
 |uq id nl sz es=>exact⟨hc.len _ (hx _ rfl) h.1,h.2.1,h.2.2.1,fun sz' m nl' hb=>h.2.2.2 sz' m nl' (tok hb)⟩
 |own id len=>exact⟨hc.len _ (hx _ rfl) h.1,h.2.1,fun sz ag c fl nl hb=>h.2.2 sz ag c fl nl (seq hb)⟩
 |mp id=>exact⟨hc.len _ (hx _ rfl) h.1,h.2.1,fun es hb=>by obtain⟨c',hb'⟩:=map hb;exact h.2.2 _ hb'⟩
 |Ol ix cs=>exact h.elim
 |agg cs=>exact h.elim
 |mc cs=>exact h.elim
 |undef=>exact h.elim
theorem wS{n:Nat}{R:Rd}{φ:Pl}{H H2:List ba}(hc:rz n H H2):∀ (d:Nat){v v':AV}{u:Value},AV.cut n d v=some v'->Sc fo (K R φ H) v u->Sc fo (K R φ H2) v' u:=by
 have base:∀ {d:Nat}{v v':AV}{u:Value},(∀ ix cs,v≠ .Ol ix cs)->(∀ cs,v≠ .agg cs)->(∀ cs,v≠ .mc cs)->AV.cut n d v=some v'->Sc fo (K R φ H) v u->Sc fo (K R φ H2) v' u:=by
  intro d v v' u n1 n2 n3 h hv;cases v with
  |pv p=>simp only[AV.cut,eaa] at h;subst h;exact .atom _ _ hv.Sb
  |ptr id off=>
   simp only[AV.cut] at h
   split at h
   ·rename_i hlt;injection h with h;subst h;exact .atom _ _ (K.na hc (fun _ e=>by injection e with e;omega) hv.aF)
   ·cases h
  |Ec id m off=>
   simp only[AV.cut] at h
   split at h
   ·rename_i hlt;injection h with h;subst h
    cases hv with | atom _ _ hv=>exact .atom _ _ (K.na hc (fun _ e=>by injection e with e;omega) hv)
   ·cases h
  |uq id nl sz es=>
   simp only[AV.cut] at h
   split at h
   ·rename_i hlt;injection h with h;subst h;exact .atom _ _ (K.na hc (fun _ e=>by injection e with e;omega) hv.Zw)
   ·injection h with h
    subst h;have h1:=hv.Zw
    cases nl with
    |true=>simp only[if_true];rw[(h1.2.1 rfl).1];exact .atom _ _ (show Ta R _ _ from .ga)
    |false=>exact .atom _ _ (show Ta R _ _ from h1.2.2.1 rfl)
  |own id len=>
   simp only[AV.cut] at h
   split at h
   ·rename_i hlt;injection h with h;subst h;exact .atom _ _ (K.na hc (fun _ e=>by injection e with e;omega) hv.iC)
   ·cases h
  |mp id=>
   simp only[AV.cut] at h
   split at h
   ·rename_i hlt;injection h with h;subst h
    cases hv with | atom _ _ hv=>exact .atom _ _ (K.na hc (fun _ e=>by injection e with e;omega) hv)
   ·cases h
  |undef=>simp only[AV.cut,eaa] at h;subst h;exact .undef _
  |Ol ix cs=>exact absurd rfl (n1 ix cs)
  |agg cs=>exact absurd rfl (n2 cs)
  |mc cs=>exact absurd rfl (n3 cs)
 intro d
 induction d with
 |zero=>
  intro v v' u h hv;cases v with
  |Ol ix cs=>simp[AV.cut] at h
  |agg cs=>simp[AV.cut] at h
  |mc cs=>simp[AV.cut] at h
  |_=>exact base (by intros;simp) (by intros;simp) (by intros;simp) h hv
 |succ d ih=>
  have many:∀ {cs D9:List AV}{vs:List Value},mb fo (K R φ H) cs vs->Ra (AV.cut n d) cs=some D9->mb fo (K R φ H2) D9 vs:=by
   intro cs
   induction cs with
   |nil=>intro ps vs hl h;simp[Ra] at h;subst h;cases hl;exact .nil
   |cons c cs ihc=>
    intro ps vs hl h;simp only[Ra,uaa,eaa] at h;obtain⟨b,h1,bs,h2,rfl⟩:=h;cases hl with
    |cons _ _ v vs hc n9=>exact .cons _ _ _ _ (ih h1 hc) (ihc n9 h2)
  intro v v' u h hv;cases v with
  |Ol ix cs=>
   simp only[AV.cut,faa] at h;obtain⟨D9,h1,rfl⟩:=h;cases hv with
   |atom _ _ h=>exact h.elim
   |Ol _ _ vs hl=>exact .Ol _ _ _ (many hl h1)
  |agg cs=>
   simp only[AV.cut,faa] at h;obtain⟨D9,h1,rfl⟩:=h;cases hv with
   |atom _ _ h=>exact h.elim
   |agg _ vs hl=>exact .agg _ _ (many hl h1)
  |mc cs=>
   simp only[AV.cut,faa] at h;obtain⟨D9,h1,rfl⟩:=h;cases hv with
   |atom _ _ h=>exact h.elim
   |mc _ vs hl=>exact .mc _ _ (many hl h1)
  |_=>exact base (by intros;simp) (by intros;simp) (by intros;simp) h hv
theorem IM{n:Nat}{R:Rd}{φ:Pl}{H H2:List ba}(hc:rz n H H2){d:Nat}{cs D9:List AV}{vs:List Value}(hl:mb fo (K R φ H) cs vs)(h:Ra (AV.cut n d) cs=some D9):mb fo (K R φ H2) D9 vs:=by
 induction cs generalizing D9 vs with
 |nil=>simp[Ra] at h;subst h;cases hl;exact .nil
 |cons c cs ihc=>
  simp only[Ra,uaa,eaa] at h;obtain⟨b,h1,bs,h2,rfl⟩:=h;cases hl with
  |cons _ _ v vs P9 n9=>exact .cons _ _ _ _ (wS hc d h1 P9) (ihc n9 h2)
theorem GO{n:Nat}:∀ (d:Nat){v:AV},AV.ie n d v=true->AV.cut n d v=some v:=by
 intro d
 induction d with
 |zero=>intro v h;cases v <;> simp_all [AV.ie,AV.cut]
 |succ d ih=>
  have many:∀ {cs:List AV},cs.all (AV.ie n d)=true->Ra (AV.cut n d) cs=some cs:=by
   intro cs
   induction cs with
   |nil=>intro _;rfl
   |cons c cs ihc=>intro h;simp only[zac,daa] at h;simp[Ra,ih h.1,ihc h.2]
  intro v h;cases v with
  |Ol ix cs=>simp only[AV.ie] at h;simp[AV.cut,many h]
  |agg cs=>simp only[AV.ie] at h;simp[AV.cut,many h]
  |mc cs=>simp only[AV.ie] at h;simp[AV.cut,many h]
  |_=>simp_all [AV.ie,AV.cut]
theorem II{n d:Nat}{cs:List AV}(h:cs.all (AV.ie n d)=true):Ra (AV.cut n d) cs=some cs:=by
 induction cs with
 |nil=>rfl
 |cons c cs ihc=>simp only[zac,daa] at h;simp[Ra,GO d h.1,ihc h.2]
theorem I1{n d:Nat}{v v':AV}(h:AV.cut n d v=some v')(h1:v.one=true):v'.one=true:=by
 cases v with
 |uq id nl sz es=>
  simp only[AV.cut] at h
  split at h
  ·injection h with h;subst h;rfl
  ·injection h with h;subst h;cases nl <;> rfl
 |Ol ix cs=>
  cases d with
  |zero=>simp[AV.cut] at h
  |succ d=>simp only[AV.cut,faa] at h;obtain⟨_,_,rfl⟩:=h;rfl
 |agg=>simp[AV.one] at h1
 |mc=>simp[AV.one] at h1
 |undef=>simp[AV.one] at h1
 |pv p=>simp only[AV.cut,eaa] at h;subst h;exact h1
 |_=>
  simp only[AV.cut] at h
  split at h
  ·injection h with h;subst h;exact h1
  ·cases h
theorem YW{n d:Nat}{cs D9:List AV}(h:Ra (AV.cut n d) cs=some D9)(h1:cs.all AV.one=true):D9.all AV.one=true:=by
 induction cs generalizing D9 with
 |nil=>simp[Ra] at h;subst h;rfl
 |cons c cs ihc=>simp only[Ra,uaa,eaa] at h;obtain⟨b,h2,bs,h3,rfl⟩:=h;simp only[zac,daa] at h1 ⊢;exact⟨I1 h2 h1.1,ihc h3 h1.2⟩
theorem vc.na{n:Nat}{w:World}{R:Rd}{φ:Pl}{H H2:List ba}(hc:rz n H H2)(hS:vc fo B0 w R φ H):vc fo B0 w R φ H2:=by
 have lv:∀ {i},live H2 i->live H i:=by
  intro i ⟨o2,ho2,hl⟩;obtain⟨_,o,ho,C7⟩:=hc.obj _ _ ho2
  refine⟨o,ho,?_⟩;cases o with
  |box c=>trivial
  |seq sz ag c fl nl=>
   simp only[qa] at C7
   split at C7
   ·injection C7 with C7;subst C7;exact hl
   ·cases C7
  |tok sz m nl=>injection C7 with C7;subst C7;exact hl
  |map es=>trivial
  |dead=>injection C7 with C7;subst C7;exact hl
 refine⟨hS.low,hS.sub,fun id o2 ho2=> ?_,fun i j hi hj=>hS.inj i j (lv hi) (lv hj),hS.Dq,hS.slt,fun i hi=>hS.free i (lv hi)⟩;obtain⟨_,o,ho,C7⟩:=hc.obj _ _ ho2
 have hO:=hS.obj _ _ ho
 cases o with
 |box c=>simp only[qa,faa] at C7;obtain⟨c',h1,rfl⟩:=C7;obtain⟨h2,h3,h4,arr,h5,h6⟩:=hO;exact⟨h2,h3,YW h1 h4,arr,h5,IM hc h6 h1⟩
 |seq sz ag c fl nl=>
  simp only[qa] at C7
  split at C7
  ·rename_i hk
   injection C7 with C7;subst C7
   obtain⟨h1,h2,h3,h4,h5⟩:=hO;refine⟨h1,h2,h3,h4,fun e=> ?_⟩;obtain⟨k1,k2,arr,k3,k4,k5,k6⟩:=h5 e;exact⟨k1,k2,arr,k3,k4,k5,IM hc k6 (II hk)⟩
  ·cases C7
 |tok sz m nl=>injection C7 with C7;subst C7;exact hO
 |map es=>injection C7 with C7;subst C7;exact hO
 |dead=>injection C7 with C7;subst C7;trivial
theorem cQ{n:Nat}{R:Rd}{φ:Pl}{H H2:List ba}(hc:rz n H H2){e e':Tr}{a:Act}(hE:ij fo (K R φ H) e a):∀ {l:List Nat},Ca n e l=some e'->ij fo (K R φ H2) e' a:=by
 intro l
 induction l generalizing e' with
 |nil=>intro h;simp only[Ca,eaa] at h;subst h;intro t;exact .undef _
 |cons x l ih=>
  intro h;simp only[Ca,uaa,faa] at h;obtain⟨v,h1,e1,h2,rfl⟩:=h;intro t;rw[Tr.aa]
  split
  ·rename_i ht;subst ht;exact wS hc deep h1 (hE t)
  ·exact ih h2 t
theorem fH{w0 w:World}{R0 R:Rd}{φ0 φ:Pl}{H0:List ba}{a0 a:Act}{s s2:St}{l:List Nat}(g:Hn fo B0 w0 R0 φ0 H0 a0 w R φ s a)(h:na H0.length l s=some s2):Hn fo B0 w0 R0 φ0 H0 a0 w R φ s2 a:=by
 simp only[na,uaa,faa] at h;obtain⟨e,h1,H2,h2,rfl⟩:=h;have hc:=eQ h2;refine⟨g.rel.na hc,cQ hc g.env h1,fun x u hx=>K.na hc (fun id G7=> ?_) (g.mono x u hx),g.below,g.size,g.defers⟩;cases x with
 |ptr=>injection G7 with G7;subst G7;exact hx.1
 |Ec=>injection G7 with G7;subst G7;exact hx.1
 |uq=>injection G7 with G7;subst G7;exact hx.1
 |own=>injection G7 with G7;subst G7;exact hx.1
 |mp=>injection G7 with G7;subst G7;exact hx.1
 |_=>cases G7
end
section
variable {P:Program}{fo:Nat->FuncId}{B0:wg}
theorem kC{k:AV->Value->Prop}{e:Tr}{a:Act}(h:ij fo k e a){t:Nat}{v:AV}(hv:Sc fo k v (a.tmps.getD t undef)):ij fo k (e.set t v) a:=by
 intro j;rw[Tr.aa]
 split
 ·rename_i e;subst e;exact hv
 ·exact h j
theorem push_empty{w:World}{R:Rd}{φ:Pl}{H:List ba}(hS:vc fo B0 w R φ H){o:ba}(hl:¬sq o)(hO:∀ φ' H',xC fo B0 w R φ' H' H.length o):vc fo B0 w R (Wm φ H.length (0,0)) (H++[o]):=
 hS.push (waa _) (fun _ _=>rfl) (fun _ _ _=>rfl) hS.sub (fun a v=>K.push o (0,0) a v) (fun h=>absurd h hl) (hO _ _)
theorem YV{w:World}{R:Rd}{φ:Pl}{H:List ba}{sz:Nat}:K R φ (H++[.tok sz 0 true]) (.uq H.length true sz []) (.slice none 0 0):=by
 refine⟨by simp,fun _=>⟨rfl,rfl⟩,(fun e=>by cases e),fun sz' n nl' h=> ?_⟩;simp at h;obtain⟨rfl,rfl,rfl⟩:=h;exact⟨by simp,fun _=>⟨rfl,rfl,fun e=>by cases e⟩⟩
theorem AS{w:World}{R:Rd}{φ:Pl}{H:List ba}{sz:Nat}{ag:Bool}:K R φ (H++[.seq sz ag [] 0 true]) (.own H.length 0) (.slice none 0 0):=by
 refine⟨by simp,rfl,fun sz' ag' c fl nl h=> ?_⟩;simp at h;obtain⟨rfl,rfl,rfl,rfl,rfl⟩:=h;exact⟨by simp,fun _=>⟨fun _=>rfl,fun e=>by cases e⟩⟩
theorem bS{w:World}{R:Rd}{φ:Pl}{H:List ba}(hS:vc fo B0 w R φ H){id:Nat}{cells:List AV}(G7:H[id]? =some (.box cells)){i:Nat}(hi:cells[i]? =some (.pv .ga)){x:AV}(hx:K R φ H x (.slice none 0 0))(h1:x.one=true):
 vc fo B0 w R (Wm φ id (φ id)) (H.set id (.box (cells.set i x)))/\∀ a u,K R φ H a u->K R (Wm φ id (φ id)) (H.set id (.box (cells.set i x))) a u:=by
 have hk:=fun a v=>K.sS (R:=R) (φ:=φ) (H:=H) (c':=cells.set i x) G7 a v
 refine⟨hS.Wm G7 (waa _) (fun _ _ _=>rfl) (fun _ _ _ _=>rfl) hS.sub hk (fun _=> .inl ⟨trivial,rfl⟩) ?_,hk⟩;obtain⟨o1,o2,o3,arr,o4,o5⟩:=hS.obj _ _ G7
 refine⟨by rw[Fb];exact o1,by rw[Fb];exact o2,?_,arr,by rw[Fb];exact o4,?_⟩
 ·rw[aab] at o3 ⊢
  intro y hy;rcases Nab hy with hy | rfl
  ·exact o3 y hy
  ·exact h1
 ·obtain⟨u,hu,hr⟩:=o5.get hi
  have hr:=hr.Sb
  cases hr;have:arr.toList=arr.toList.set i (.slice none 0 0):=by
   apply Vab;intro j
   by_cases e:i=j
   ·subst e
    rw[Qaa (getElem?_lt hu)];exact hu
   ·rw[Jaa e]
  rw[this];exact (o5.mono hk).set i (.atom _ _ (hk _ _ hx))
theorem ZS{g:kS}{w:World}{R:Rd}{φ:Pl}{s s':St}{a:Act}(hS:vc fo B0 w R φ s.H)(hE:ij fo (K R φ s.H) s.env a)(h:fe g s=some s'):∃ R' φ',Hn fo B0 w R φ s.H a w R' φ' s' a:=by
 obtain⟨e,H⟩:=s;cases g with
 |DA t sz=>
  simp only[fe] at h
  split at h
  ·rename_i ht
   split at h
   ·rename_i h0
    injection h with h;subst h
    have hk:=fun a v=>K.push (R:=R) (φ:=φ) (H:=H) (.tok sz 0 true) (0,0) a v
    have hv:=hE t;simp only[ht] at hv;have hv:=hv.Sb
    refine⟨R,_,push_empty hS (by simp[sq]) (fun φ' H'=>⟨h0,fun _=>rfl,fun e=>by cases e⟩),kC (hE.mono hk) ?_,hk,oh.refl _ _,rfl,.same rfl⟩;generalize a.tmps.getD t undef=v at hv
    cases hv;exact .atom _ _ (YV (w:=w))
   ·cases h
  ·cases h
 |zJ t sz ag=>
  simp only[fe] at h
  split at h
  ·rename_i ht
   split at h
   ·rename_i h0
    injection h with h;subst h
    have hk:=fun a v=>K.push (R:=R) (φ:=φ) (H:=H) (.seq sz ag [] 0 true) (0,0) a v
    have hv:=hE t;simp only[ht] at hv;have hv:=hv.Sb
    refine⟨R,_,push_empty hS (by simp[sq]) (fun φ' H'=>⟨h0,waa _,fun _=>rfl,rfl,fun e=>by cases e⟩),kC (hE.mono hk) ?_,hk,oh.refl _ _,rfl,.same rfl⟩;generalize a.tmps.getD t undef=v at hv
    cases hv;exact .atom _ _ (AS (w:=w))
   ·cases h
  ·cases h
 |Ay t off sz=>
  simp only[fe] at h
  split at h
  ·rename_i id o ht
   split at h
   ·rename_i cells G7
    split at h
    ·rename_i hc
     split at h
     ·rename_i h0
      injection h with h;subst h
      have hlt:=getElem?_lt G7;have hk:=fun a v=>K.push (R:=R) (φ:=φ) (H:=H) (.tok sz 0 true) (0,0) a v
      have G8:=push_empty hS (o:= .tok sz 0 true) (by simp[sq]) (fun φ' H'=>⟨h0,fun _=>rfl,fun e=>by cases e⟩);obtain⟨hS2,D8⟩:=bS G8 (by rw[getElem?_push hlt];exact G7) hc (YV (w:=w)) rfl;have e:H.set id (.box (cells.set (o+off) (.uq H.length true sz [])))++[ba.tok sz 0 true]=(H++[ba.tok sz 0 true]).set id (.box (cells.set (o+off) (.uq H.length true sz []))):=by rw[Bac _ _ hlt]
      simp only[e];exact⟨R,_,hS2,hE.mono fun a v h=>D8 a v (hk a v h),fun x u h=>D8 x u (hk x u h),oh.refl _ _,rfl,.same rfl⟩
     ·cases h
    ·cases h
   ·cases h
  ·cases h
 |XK t off sz ag=>
  simp only[fe] at h
  split at h
  ·rename_i id o ht
   split at h
   ·rename_i cells G7
    split at h
    ·rename_i hc
     split at h
     ·rename_i h0
      injection h with h;subst h
      have hlt:=getElem?_lt G7;have hk:=fun a v=>K.push (R:=R) (φ:=φ) (H:=H) (.seq sz ag [] 0 true) (0,0) a v
      have G8:=push_empty hS (o:= .seq sz ag [] 0 true) (by simp[sq]) (fun φ' H'=>⟨h0,waa _,fun _=>rfl,rfl,fun e=>by cases e⟩);obtain⟨hS2,D8⟩:=bS G8 (by rw[getElem?_push hlt];exact G7) hc (AS (w:=w)) rfl;have e:H.set id (.box (cells.set (o+off) (.own H.length 0)))++[ba.seq sz ag [] 0 true]=(H++[ba.seq sz ag [] 0 true]).set id (.box (cells.set (o+off) (.own H.length 0))):=by rw[Bac _ _ hlt]
      simp only[e];exact⟨R,_,hS2,hE.mono fun a v h=>D8 a v (hk a v h),fun x u h=>D8 x u (hk x u h),oh.refl _ _,rfl,.same rfl⟩
     ·cases h
    ·cases h
   ·cases h
  ·cases h
 |freeze t=>
  simp only[fe] at h
  split at h
  ·rename_i id len ht
   split at h
   ·rename_i sz ag cells fl nl G7
    split at h
    ·rename_i hc
     obtain⟨hlen,aX⟩:=hc;have saf:=G7;have hv:=hE t;simp only[ht] at hv;have h1:=hv.iC
     obtain⟨k0,k⟩:=h1.2.2 _ _ _ _ _ G7
     obtain⟨o0,o1,o2,laa,o3⟩:=hS.obj _ _ G7
     obtain⟨k1,k2⟩:=k (by omega);have hkd:∀ (R':Rd)(p:Nat×Nat),Sub R R'->∀ a v,K R φ H a v->K R' (Wm φ id p) (H.set id .dead) a v:=by
      intro R' p hs a v hk;have hk:=K.sub hs a v hk
      have hl:(H.set id .dead).length=H.length:=by simp
      have inv:∀ {i:Nat}{x:ba},(H.set id .dead)[i]? =some x->x≠ .dead->i≠id/\H[i]? =some x:=by
       intro i x hx hd
       by_cases e:i=id
       ·subst e;rw[Qaa (getElem?_lt G7)] at hx;injection hx with hx;exact absurd hx.symm hd
       ·rw[Jaa (rac e)] at hx;exact⟨e,hx⟩
      cases a with
      |pv p=>exact hk
      |ptr i off=>exact⟨by rw[hl];exact hk.1,hk.2.1,fun c hc=>by obtain⟨q1,q2⟩:=inv hc (by simp);rw[De _ _ q1];exact hk.2.2 c q2⟩
      |Ec i n off=>exact⟨by rw[hl];exact hk.1,hk.2.1,fun sz ag c fl nl hc=>by obtain⟨q1,q2⟩:=inv hc (by simp);rw[De _ _ q1];exact hk.2.2 _ _ _ _ _ q2⟩
      |uq i nl sz es=>exact⟨by rw[hl];exact hk.1,hk.2.1,hk.2.2.1,fun sz n nl hc=>by obtain⟨q1,q2⟩:=inv hc (by simp);rw[De _ _ q1];exact hk.2.2.2 _ _ _ q2⟩
      |own i n=>exact⟨by rw[hl];exact hk.1,hk.2.1,fun sz ag c fl nl hc=>by obtain⟨q1,q2⟩:=inv hc (by simp);rw[De _ _ q1];exact hk.2.2 _ _ _ _ _ q2⟩
      |mp i=>exact⟨by rw[hl];exact hk.1,hk.2.1,fun es hc=>by obtain⟨q1,q2⟩:=inv hc (by simp);rw[De _ _ q1];exact hk.2.2 _ q2⟩
      |Ol=>exact hk.elim
      |agg=>exact hk.elim
      |mc=>exact hk.elim
      |undef=>exact hk.elim
     cases nl with
     |true=>simp only[if_true,eaa] at h;subst h;have hk:=hkd R (φ id) (Sub.refl R);refine⟨R,Wm φ id (φ id),hS.Wm G7 (waa _) (fun _ _ _=>rfl) (fun _ _ _ _=>rfl) hS.sub hk (fun h=>h.elim) trivial,kC (hE.mono hk) ?_,hk,oh.refl _ _,rfl,.same rfl⟩;rw[k1 rfl];exact .atom _ _ (show Ta R _ _ from .ga)
     |false=>
      simp only[Baa,if_false,faa] at h;obtain⟨ps,hps,rfl⟩:=h;obtain⟨b0,Aae,arr,hB,K7,hle,hrel⟩:=o3 rfl;have hsub:Sub R (fun b o=>if b=(φ id).1 then w.cell? ⟨b,o,none⟩ else R b o):=by
       intro b o v h;dsimp only
       split
       ·exact hS.sub b o v h
       ·exact h
      have hk:=hkd _ (φ id) hsub;refine⟨_,Wm φ id (φ id),hS.Wm (R':=fun b o=>if b=(φ id).1 then w.cell? ⟨b,o,none⟩ else R b o) G7 (waa _) (fun _ _ _=>rfl) (fun b j _ I7=>taa (I7 rfl)) (fun b o v h=> ?_) hk (fun h=>h.elim) trivial,kC (hE.mono hk) ?_,hk,oh.refl _ _,rfl,.same rfl⟩
      ·split at h
       ·exact h
       ·exact hS.sub b o v h
      ·rcases k2 rfl with⟨q1,q2,_⟩ | ⟨b,o,cap,q1,q2,_⟩
       ·subst q1;exact absurd (yaa (by omega)) q2
       ·rw[q1]
        obtain⟨rfl,rfl,rfl⟩:=q2 hlen;have hl:=Rk hps hrel;have Wab:=Tf hps;have R7:∀ p∈ps,cI p=true:=by intro p hp;rw[Wab] at laa;exact aab.1 laa _ (List.mem_map_of_mem hp)
        have Vac:ps.length=len * sz:=by rw[hlen,Wab];simp
        obtain⟨c1,c2,c3⟩:=Hw sz ag (fun e=>by subst e;simpa using aX) len ps Vac R7;refine .atom _ _ (show Ta _ _ _ from ?_)
        have:=Ta.lit (R:=fun b o=>if b=(φ id).1 then w.cell? ⟨b,o,none⟩ else R b o) sz (chunk sz ag len ps) (φ id).1 0 (φ id).2 (by
         rw[c3];have:len * sz<=(φ id).2 * sz:=by rw[<- K7];omega
         exact Yac this o0) c2 (by
         rw[c1];refine Rg.Sn (hl.mono hsub) (Wp hrel laa) fun i v hv=> ?_
         have hlt:=getElem?_lt hv;rw[Rab] at hv
         split at hv
         ·rw[if_pos rfl,hB.cell,eab];simpa using hv
         ·cases hv)
        rw[c3] at this;exact this
    ·cases h
   ·cases h
  ·rename_i id o ht
   split at h
   ·rename_i cells G7
    have saf:=G7;have hv:=hE t;simp only[ht] at hv;have h1:=hv.aF
    have k:=h1.2.2 _ G7
    obtain⟨o0,o1,laa,arr,hB,hrel⟩:=hS.obj _ _ G7
    have hkd:∀ (R':Rd)(p:Nat×Nat),Sub R R'->∀ a v,K R φ H a v->K R' (Wm φ id p) (H.set id .dead) a v:=by
     intro R' p hs a v hk;have hk:=K.sub hs a v hk
     have hl:(H.set id .dead).length=H.length:=by simp
     have inv:∀ {i:Nat}{x:ba},(H.set id .dead)[i]? =some x->x≠ .dead->i≠id/\H[i]? =some x:=by
      intro i x hx hd
      by_cases e:i=id
      ·subst e;rw[Qaa (getElem?_lt G7)] at hx;injection hx with hx;exact absurd hx.symm hd
      ·rw[Jaa (rac e)] at hx;exact⟨e,hx⟩
     cases a with
     |pv p=>exact hk
     |ptr i off=>exact⟨by rw[hl];exact hk.1,hk.2.1,fun c hc=>by obtain⟨q1,q2⟩:=inv hc (by simp);rw[De _ _ q1];exact hk.2.2 c q2⟩
     |Ec i n off=>exact⟨by rw[hl];exact hk.1,hk.2.1,fun sz ag c fl nl hc=>by obtain⟨q1,q2⟩:=inv hc (by simp);rw[De _ _ q1];exact hk.2.2 _ _ _ _ _ q2⟩
     |uq i nl sz es=>exact⟨by rw[hl];exact hk.1,hk.2.1,hk.2.2.1,fun sz n nl hc=>by obtain⟨q1,q2⟩:=inv hc (by simp);rw[De _ _ q1];exact hk.2.2.2 _ _ _ q2⟩
     |own i n=>exact⟨by rw[hl];exact hk.1,hk.2.1,fun sz ag c fl nl hc=>by obtain⟨q1,q2⟩:=inv hc (by simp);rw[De _ _ q1];exact hk.2.2 _ _ _ _ _ q2⟩
     |mp i=>exact⟨by rw[hl];exact hk.1,hk.2.1,fun es hc=>by obtain⟨q1,q2⟩:=inv hc (by simp);rw[De _ _ q1];exact hk.2.2 _ q2⟩
     |Ol=>exact hk.elim
     |agg=>exact hk.elim
     |mc=>exact hk.elim
     |undef=>exact hk.elim
    simp only[faa] at h;obtain⟨ps,hps,rfl⟩:=h;have hsub:Sub R (fun b o=>if b=(φ id).1 then w.cell? ⟨b,o,none⟩ else R b o):=by
     intro b o v h;dsimp only
     split
     ·exact hS.sub b o v h
     ·exact h
    have hk:=hkd _ (φ id) hsub;refine⟨_,Wm φ id (φ id),hS.Wm (R':=fun b o=>if b=(φ id).1 then w.cell? ⟨b,o,none⟩ else R b o) G7 (waa _) (fun _ _ _=>rfl) (fun b j _ I7=>taa (I7 trivial)) (fun b o v h=> ?_) hk (fun h=>h.elim) trivial,kC (hE.mono hk) ?_,hk,oh.refl _ _,rfl,.same rfl⟩
    ·split at h
     ·exact h
     ·exact hS.sub b o v h
    ·rw[k]
     have hl:=Rk hps hrel;refine .atom _ _ (show Ta _ _ _ from ?_)
     have:=Ta.rp (R:=fun b o=>if b=(φ id).1 then w.cell? ⟨b,o,none⟩ else R b o) ps o (φ id).1 0 (Rg.Sn (hl.mono hsub) (Wp hrel laa) fun i v hv=>by rw[if_pos rfl,hB.cell,eab];simpa using hv)
     rw[eab] at this;exact this
   ·cases h
  ·cases h
end
end Go.AM
