/- What functions of the program compute. -/
import Derived.Test.YtijlhblleiaomaaGreatV6
import Derived.Test.YtijlhblleiaomaaGreatV3
import Derived.Test.YtijlhblleiaomaaGreatV4
set_option linter.unusedVariables false
set_option linter.unusedSimpArgs false
namespace Go.AM.B1
open Go.AM Go.AM.So
abbrev OI (bs:List Int):List PV:=bs.map (PV.int .u8)
abbrev rO (row:List PV) (P:PV) (n i:Int) (tk:Nat) (es:List PV):Tr:=((((Tr.lf.set 19 (.pv (i64 i))).set 18 (.pv (i64 n))).set 17 (.pv P)).set 5 (.uq tk false 1 es)).set 2 (.pv (.rp row 0))
theorem bH {e:PV} {s:Lb} {P:PV} {ps:List PV} (h:pf e s P ps) {B:PV} {bs:List Int} (hB:Wi B bs) (Ba:Dd s) (hlen:bs.length≤s.parts.length):
 ∃ k,Vj [e,B]=some (i64 k):=by
 have hh:=h
 obtain⟨hP1,hP2⟩:=h.Pv
 have heq:=h.eq
 subst heq
 have hP:=h.parts
 have lP:=hP.Vb
 have lB:=hB.Vb
 have hB1:=hB.one
 have h8:=Ba.hi
 have hPl:P= .lit 1 ps:=hP.is.lit (i:=0) (by rw[hP.len];exact Ba.lo)
 have r2:∀ H (x y:PV),xa H true 2 (.pv (.rp [x,y] 0))=some (.pv (.agg [x,y])):=fun H x y=>rfl
 have r0:∀ H (x y:PV),xa H false 1 (.pv (.rp [x,y] 0))=some (.pv x):=fun H x y=>rfl
 have r01:∀ H (x y:PV),xa H false 1 (.pv (.rp [x,y] 1))=some (.pv y):=fun H x y=>rfl
 have r1:∀ H (x:PV),xa H false 1 (.pv (.rp [x] 0))=some (.pv x):=fun H x=>rfl
 have q0:∀ H (x y:PV),place H 0 (.pv (.rp [x,y] 0))=some (.pv (.rp [x,y] 0)):=fun H x y=>rfl
 have q1:∀ H (x y:PV),place H 1 (.pv (.rp [x,y] 0))=some (.pv (.rp [x,y] 1)):=fun H x y=>rfl
 have hsl:∀ H,ye H 1 (.pv P) (some (bs.length:Int)) none=some (.pv (.lit 1 (ps.drop bs.length))):=fun H=>by rw[hPl];exact FD H (by omega) (by rw[hP.len];exact hlen)
 have hdl:(ps.drop bs.length).length=s.parts.length - bs.length:=by rw[List.length_drop,hP.len]
 have hap0:Yb [.tok 1 0 false] false .uq 1 false 1 (.uq 0 false 1 []) (.pv B)=some (.uq 0 false 1 (OI bs),[.tok 1 bs.length false]):=by
  have he:Kf 1 (.pv B)=some (OI bs):=by
   rcases hB.is with⟨rfl,hbs⟩ | rfl
   ·have:OI bs=[]:=hbs
    rw[this];rfl
   ·simp[Kf,OI]
  simp only[Yb,Bool.false_eq_true,if_false,List.getElem?_cons_zero,he,Option.bind_some,List.length_nil,Nat.zero_add,List.nil_append]
  rw[if_pos ⟨trivial,trivial,trivial,by unfold qb;simp[OI];omega⟩]
  simp[OI]
 have hloop:Gd (fun r=>∃ E H bs',r=(.exit 0,⟨E,H⟩)∧E.get 5= .uq 0 false 1 (OI bs')∧E.get 2= .pv (.rp [P,i64 s.first] 0)∧∀ b∈bs',0≤b∧b≤255)
  (ab (ga (ua (Ea (fun _=>none) 8) Ch) (fa 1 [2,5,17,18,19])) qa ⟨rO [P,i64 s.first] (.lit 1 (ps.drop bs.length)) ((s.parts.length - bs.length:Nat):Int) 0 0 (OI bs),[.tok 1 bs.length false]⟩):=by
  refine za (wb (g:=ga (ua (Ea (fun _=>none) 8) Ch) (fa 1 [2,5,17,18,19]))
   (fun i t=>∃ bs',t=⟨rO [P,i64 s.first] (.lit 1 (ps.drop bs.length)) ((s.parts.length - bs.length:Nat):Int) i 0 (OI bs'),[.tok 1 bs'.length false]⟩∧bs'.length=bs.length+i∧∀ b∈bs',0≤b∧b≤255)
   (s.parts.length - bs.length) (by unfold qa;omega) _ ⟨bs,rfl,rfl,hB.HC⟩ ?_ ?_) (fun r h=>h.2)
  ·rintro i t hi ⟨bs',rfl,hl',hr'⟩
   obtain⟨v,hv,hPl',hpt⟩:=hP.get (i:=bs.length+i) (by omega)
   have hpo:=Ba.parts _ (List.getElem_mem (show bs.length+i < s.parts.length by omega))
   generalize s.parts[bs.length+i]=l at *
   obtain⟨p0,l',rfl⟩:=List.exists_cons_of_ne_nil hpo.1
   have hvl:v= .lit 2 (Hd (p0::l')):=hpt.is.lit (i:=0) (by simp)
   have hcl:v.cells=[v]:=by rw[hvl];rfl
   have e1:decide ((i:Int) < ((s.parts.length - bs.length:Nat):Int))=true:=Fa (by omega)
   have t2:=Ua hi (by unfold maxLen;omega)
   have a1:∀ H,wa H 1 (.pv (.lit 1 (ps.drop bs.length))) (i:Int)=some (.pv (.rp [v] 0)):=fun H=>by
    simp only[wa]
    rw[if_pos (by have:=hP.len;unfold Ia;simp;omega),Int.toNat_natCast,List.getElem?_drop,hv]
    simp[hcl]
   have i0:∀ H,wa H 2 (.pv v) 0=some (.pv (.rp [i64 p0.1,i64 p0.2] 0)):=fun H=>by
    rw[hvl];exact Qj H (i:=0) (l:=p0::l') (by simp)
   have hb0:=Jn hpo.2 p0 (by simp)
   have t3:IntKind.u8.wrap p0.1=p0.1:=wrap_u8 (by omega)
   have hap:=Wo (A:=[.tok 1 bs'.length false]) (id:=0) (n:=bs'.length) (h:= .uq) (nl:=false) (bytes:=1) (es:=OI bs') rfl (by simp[OI]) (by unfold qb;omega) (.int .u8 p0.1)
   rw[List.set_cons_zero] at hap
   have hbm:OI (bs'++[p0.1])=OI bs'++[.int .u8 p0.1]:=by simp[OI]
   clear hvl
   generalize hQ:LN _ _ i=Q
   simp -implicitDefEqProofs only[SP,WP,oa,sevalprocAttr,Ch,e1,t2,t3,a1,i0,r0,r1,q0,hap,fa,Aa,AV.cut,na,pa,rO]
   subst hQ
   refine⟨bs'++[p0.1],by rw[hbm];simp,by simp;omega,?_⟩
   intro b hb
   rcases List.mem_append.1 hb with h | h
   ·exact hr' b h
   ·simp at h;subst h;omega
  ·rintro t ⟨bs',rfl,hl',hr'⟩
   have e1:decide (((s.parts.length - bs.length:Nat):Int) < ((s.parts.length - bs.length:Nat):Int))=false:=Ga (by omega)
   generalize hQ:(fun r:Ex×St=>r.1.stop=true∧_)=Q
   simp -implicitDefEqProofs only[SX,sevalprocAttr,Ch,e1,rO]
   subst hQ
   exact⟨rfl,_,_,bs',rfl,by simp[Tr.aa],by simp[Tr.aa],hr'⟩
 obtain⟨r,h1,E,H,bs',rfl,hE5,hE2,hr'⟩:=xc hloop
 have h1':ab (ga (ua (Ea (fun _=>none) 8) Ch) (fa 1 [2,5,17,18,19])) qa ⟨((((Tr.lf.set 19 (.pv (.int .i64 0))).set 18 (.pv (i64 ((s.parts.length - bs.length:Nat):Int)))).set 17 (.pv (.lit 1 (ps.drop bs.length)))).set 5 (.uq 0 false 1 (OI bs))).set 2 (.pv (.rp [P,i64 s.first] 0)),[.tok 1 bs.length false]⟩=_:=h1
 have hBl:Wi (.lit 1 (OI bs')) bs':=⟨.inr rfl,hr'⟩
 have hrk:=ew hh hBl Ba
 have hrk':∃ k b,uh [.agg [P,i64 s.first],.lit 1 (OI bs')]=some (.mc [i64 k,.bool b]):=by
  cases hk:Lf s bs' with
  |some k=>exact⟨k,true,hrk.1 k hk⟩
  |none=>exact⟨0,false,hrk.2 hk⟩
 obtain⟨k,b,hk⟩:=hrk'
 refine⟨IntKind.i64.wrap (s.first+k),?_⟩
 clear hPl
 generalize OI bs=ub at *
 generalize OI bs'=ub' at *
 simp -implicitDefEqProofs only[Vj,SP,WP,oa,sevalprocAttr,Ss,xb,hP1,hB1,r2,r0,r01,q0,q1,lP,lB,hap0,hsl,hdl,fa,Aa,AV.cut,na,pa,h1',hE5,hE2,hk]
theorem eb.sd {S:PV} {ss:List Lb} {es:List PV} (hS:eb S ss es) {i:Nat} (hi:i < ss.length):∃ P ps,pf (.agg [P,i64 ss[i].first]) ss[i] P ps∧∀ H,wa H 2 (.pv S) (i:Int)=some (.pv (.rp [P,i64 ss[i].first] 0)):=by
 obtain⟨e,P,ps,he,hSl,hsh⟩:=hS.get hi
 have heq:=hsh.eq
 subst heq
 refine⟨P,ps,hsh,fun H=> ?_⟩
 have hq:i < es.length:=by rw[hS.len];exact hi
 rw[hSl]
 simp only[wa]
 rw[if_pos (by unfold Ia;simp;omega),Int.toNat_natCast,he];rfl
def Te (p q:Lb):Bool:=(Zb p.parts q.parts p.parts.length 0).isSome
abbrev Rb (y:Bool) (a b:Int):ba:= .box [.pv (.bool y),.pv (i64 a),.pv (i64 b)]
abbrev Bh (P:PV) (f:Int):ba:= .box [.pv P,.pv (i64 f)]
abbrev yH (S:PV) (cix:Nat) (n i j:Int):Tr:=
 (((((((((((Tr.lf.set 29 (.pv (i64 j))).set 28 (.pv (i64 n))).set 27 (.pv S)).set 21 (.pv (i64 i))).set 20 (.pv (i64 n))).set 19 (.pv S)).set 8 (.ptr 4 0)).set 7 (.pv (i64 i))).set 6 (.ptr 3 0)).set 4 (.ptr 2 0)).set 2 (.pv (.rp [S] 0))).set 1 (.Fk cix [.ptr 0 0])
abbrev EO (S:PV) (cix:Nat) (n i:Int):Tr:=
 ((((((Tr.lf.set 21 (.pv (i64 i))).set 20 (.pv (i64 n))).set 19 (.pv S)).set 6 (.ptr 3 0)).set 4 (.ptr 2 0)).set 2 (.pv (.rp [S] 0))).set 1 (.Fk cix [.ptr 0 0])
structure mY (call:Wa) (cix:Nat) (S:PV) (n:Nat) (ask:Nat→Nat→Bool):Prop where
 run:∀ (i j:Nat) (H:List ba),i < n→j < n→H[0]? =some (.box [.pv S])→call cix [.pv (i64 i),.pv (i64 j),.ptr 0 0] H=some (.pv (.bool (ask i j)),H)
section
variable {call:Wa} {cix:Nat} {S:PV} {ss:List Lb} {es:List PV} {ask:Nat→Nat→Bool} (hS:eb S ss es) (Ba:Tb ss) (hA:mY call cix S ss.length ask)
 (hask:∀ i j,(hi:i < ss.length)→(hj:j < ss.length)→ask i j=true→ss[i].parts.length≤ss[j].parts.length)
include hS Ba hA hask
theorem UH {i:Nat} (hi:i < ss.length) {P:PV} (hP:∃ ps,pf (.agg [P,i64 ss[i].first]) ss[i] P ps) (X:ba) (hX:∀ n,na n X=some X):
 Gd (fun r=>(∃ E,r=(.exit 2,⟨E,[.box [.pv S],X,Rb false 0 0,Rb true 0 0,Bh P ss[i].first]⟩)∧E.get 1= .Fk cix [.ptr 0 0]∧E.get 2= .pv (.rp [S] 0)∧E.get 4= .ptr 2 0∧E.get 6= .ptr 3 0∧E.get 19= .pv S∧E.get 20= .pv (i64 ss.length)∧E.get 21= .pv (i64 i)∧∀ j,(hj:j < ss.length)→ask i j=true→Te ss[i] ss[j]=false)∨
  (∃ E a b T,r=(.exit 0,⟨E,[.box [.pv S],X,Rb false 0 0,Rb false a b]++T⟩)∧E.get 4= .ptr 2 0∧E.get 6= .ptr 3 0∧∃ j,∃ hj:j < ss.length,ask i j=true∧Te ss[i] ss[j]=true))
  (ab (ga (ua call fg) (fa 5 [1,2,4,6,7,8,19,20,21,27,28,29])) qa ⟨yH S cix ss.length i 0,[.box [.pv S],X,Rb false 0 0,Rb true 0 0,Bh P ss[i].first]⟩):=by
 obtain⟨ps,hPs⟩:=hP
 have h32:=Ba.len
 have okp:=Ba.Xo _ (List.getElem_mem hi)
 have hSone:(AV.pv S).one=true:=by rcases hS.is with⟨h,_⟩ | h <;> rw[h] <;> rfl
 obtain⟨hP1,hP2⟩:=hPs.Pv
 have lP:=hPs.parts.Vb
 have hask':=fun j hj=>hask i j hi hj
 have hAi:=fun j H (hj:j < ss.length)=>hA.run i j H hi hj
 generalize hp:ss[i]=p at *
 refine za (wb (g:=ga (ua call fg) (fa 5 [1,2,4,6,7,8,19,20,21,27,28,29]))
  (fun j t=>t=⟨yH S cix ss.length i j,[.box [.pv S],X,Rb false 0 0,Rb true 0 0,Bh P p.first]⟩∧∀ j',j' < j→(hj:j' < ss.length)→ask i j'=true→Te p ss[j']=false)
  ss.length (by unfold qa;omega) _ ⟨rfl,fun j' h=>by omega⟩ ?_ ?_) (fun r h=>h.2)
 ·rintro j t hj ⟨rfl,hno⟩
  obtain⟨Q,qs,hQs,a1⟩:=hS.sd hj
  have okq:=Ba.Xo _ (List.getElem_mem hj)
  have hcm:=tN hPs hQs okp okq (n:=p.parts.length) (Nat.le_refl _)
  have hno':∀ (b:Bool),(ask i j=true→Te p ss[j]=false)→∀ j',j' < j+1→(hj:j' < ss.length)→ask i j'=true→Te p ss[j']=false:=by
   intro _ h j' hj' hjj ha
   rcases Nat.lt_or_ge j' j with h1 | h1
   ·exact hno j' h1 hjj ha
   ·have:j'=j:=by omega
    subst this;exact h ha
  have hle:=hask' j hj
  obtain⟨hQ1,hQ2⟩:=hQs.Pv
  have lQ:=hQs.parts.Vb
  have hmt:Te p ss[j]=(Zb p.parts ss[j].parts p.parts.length 0).isSome:=rfl
  rw[hmt] at hno'
  have hex:ask i j=true→(Zb p.parts ss[j].parts p.parts.length 0).isSome=true→∃ j,∃ hj:j < ss.length,ask i j=true∧Te p ss[j]=true:=fun h1 h2=>⟨j,hj,h1,h2⟩
  have hfirst:∀ {B:PV} {bs:List Int},Wi B bs→bs.length≤ss[j].parts.length→∃ k,Vj [.agg [Q,i64 ss[j].first],B]=some (i64 k):=fun h1 h2=>bH hQs h1 okq h2
  generalize ss[j]=q at *
  have e1:decide ((j:Int) < (ss.length:Int))=true:=Fa (by omega)
  have t2:=Ua hj (by unfold maxLen;omega)
  have a2:∀ H,xa H true 2 (.pv (.rp [Q,i64 q.first] 0))=some (.pv (.agg [Q,i64 q.first])):=fun H=>rfl
  have s1:Oa [.box [.pv S],X,Rb false 0 0,Rb true 0 0,Bh P p.first,.box [.pv .ma,.pv (i64 0)]] 2 (.ptr 5 0) (.pv (.agg [Q,i64 q.first]))=some [.box [.pv S],X,Rb false 0 0,Rb true 0 0,Bh P p.first,Bh Q q.first]:=
   vj _ _ _ _ hQ1 rfl [.box [.pv S],X,Rb false 0 0,Rb true 0 0,Bh P p.first] _ rfl
  have hak:=hAi j [.box [.pv S],X,Rb false 0 0,Rb true 0 0,Bh P p.first,Bh Q q.first] hj rfl
  have l1:xa [.box [.pv S],X,Rb false 0 0,Rb true 0 0,Bh P p.first,Bh Q q.first] true 2 (.ptr 4 0)=some (.pv (.agg [P,i64 p.first])):=rfl
  have l2:xa [.box [.pv S],X,Rb false 0 0,Rb true 0 0,Bh P p.first,Bh Q q.first] true 2 (.ptr 5 0)=some (.pv (.agg [Q,i64 q.first])):=rfl
  have l3:xa [.box [.pv S],X,Rb false 0 0,Rb true 0 0,Bh P p.first,Bh Q q.first] false 1 (.ptr 4 0)=some (.pv P):=rfl
  have p3:place [.box [.pv S],X,Rb false 0 0,Rb true 0 0,Bh P p.first,Bh Q q.first] 0 (.ptr 4 0)=some (.ptr 4 0):=rfl
  have s2:∀ a b:Int,Oa [.box [.pv S],X,Rb false 0 0,Rb true 0 0,Bh P p.first,Bh Q q.first] 3 (.ptr 3 0) (.pv (.agg [.bool false,i64 a,i64 b]))=some [.box [.pv S],X,Rb false 0 0,Rb false a b,Bh P p.first,Bh Q q.first]:=fun a b=>rfl
  have hcl5:Ra (na 5) [.box [.pv S],X,Rb false 0 0,Rb true 0 0,Bh P p.first]=some [.box [.pv S],X,Rb false 0 0,Rb true 0 0,Bh P p.first]:=by
   refine vl ?_
   intro o ho
   simp only[List.mem_cons,List.not_mem_nil,or_false] at ho
   rcases ho with rfl | rfl | rfl | rfl | rfl <;> first | exact hX _ | simp[na,Ra,Ma]
  have htk:∀ o:ba,[.box [.pv S],X,Rb false 0 0,Rb true 0 0,Bh P p.first,o].take 5=[.box [.pv S],X,Rb false 0 0,Rb true 0 0,Bh P p.first]:=fun o=>rfl
  have c3:(3 < 5)=True:=by simp
  have c2:(2 < 5)=True:=by simp
  have c4:(4 < 5)=True:=by simp
  have c0:(0 < 5)=True:=by simp
  have hd:deep=6:=rfl
  generalize hQQ:LN _ _ j=QQ
  cases hak':ask i j with
  |false=>
   rw[hak'] at hak
   simp -implicitDefEqProofs only[SP,WP,oa,sevalprocAttr,fg,e1,t2,a1,a2,s1,hak,hcl5,htk,c0,c2,c3,c4,fa,Aa,AV.cut,pa,yH]
   subst hQQ
   exact⟨rfl,hno' true (fun h=>by rw[hak'] at h;cases h)⟩
  |true=>
   rw[hak'] at hak
   have hcm:=hcm (hle hak')
   cases hc:Zb p.parts q.parts p.parts.length 0 with
   |none=>
    have h1:=hcm.1 hc
    simp -implicitDefEqProofs only[SP,WP,oa,sevalprocAttr,fg,e1,t2,a1,a2,s1,hak,l1,l2,l3,p3,lP,h1,hcl5,htk,c0,c2,c3,c4,fa,Aa,AV.cut,pa,yH]
    subst hQQ
    exact⟨rfl,hno' true (fun _=>by rw[hc];rfl)⟩
   |some bs=>
    obtain⟨v,h1,hv,hbl,hbr⟩:=hcm.2 bs hc
    have hB:Wi v bs:=⟨hv,hbr⟩
    obtain⟨k1,hk1⟩:=bH hPs hB okp (by omega)
    obtain⟨k2,hk2⟩:=hfirst hB (by have:=hle hak';omega)
    simp -implicitDefEqProofs only[SP,WP,oa,sevalprocAttr,fg,e1,a1,a2,s1,hak,l1,l2,l3,p3,lP,h1,hk1,hk2,s2,yH]
    subst hQQ
    exact .inr ⟨_,k1,k2,[Bh P p.first,Bh Q q.first],rfl,by simp[Tr.aa],by simp[Tr.aa],hex hak' (by rw[hc];rfl)⟩
 ·rintro t ⟨rfl,hno⟩
  have e1:decide ((ss.length:Int) < (ss.length:Int))=false:=Ga (by omega)
  generalize hQ:(fun r:Ex×St=>r.1.stop=true∧_)=Q
  simp -implicitDefEqProofs only[SX,sevalprocAttr,fg,e1,yH]
  subst hQ
  exact⟨rfl,.inl ⟨_,rfl,by simp[Tr.aa],by simp[Tr.aa],by simp[Tr.aa],by simp[Tr.aa],by simp[Tr.aa],by simp[Tr.aa],by simp[Tr.aa],fun j hj ha=>hno j hj hj ha⟩⟩
theorem NI (X:ba) (hX:∀ n,na n X=some X):
 Gd (fun r=>(∃ E,r=(.exit 0,⟨E,[.box [.pv S],X,Rb false 0 0,Rb true 0 0]⟩)∧E.get 4= .ptr 2 0∧E.get 6= .ptr 3 0∧∀ i j,(hi:i < ss.length)→(hj:j < ss.length)→ask i j=true→Te ss[i] ss[j]=false)∨
  (∃ E a b T,r=(.exit 0,⟨E,[.box [.pv S],X,Rb false 0 0,Rb false a b]++T⟩)∧E.get 4= .ptr 2 0∧E.get 6= .ptr 3 0∧∃ i j,∃ hi:i < ss.length,∃ hj:j < ss.length,ask i j=true∧Te ss[i] ss[j]=true))
  (ab (ga (ua call Ii) (fa 4 [1,2,4,6,19,20,21])) qa ⟨EO S cix ss.length 0,[.box [.pv S],X,Rb false 0 0,Rb true 0 0]⟩):=by
 have h32:=Ba.len
 have lS:=hS.Vb
 refine za (wb (g:=ga (ua call Ii) (fa 4 [1,2,4,6,19,20,21]))
  (fun i t=>t=⟨EO S cix ss.length i,[.box [.pv S],X,Rb false 0 0,Rb true 0 0]⟩∧∀ i' j,i' < i→(hi:i' < ss.length)→(hj:j < ss.length)→ask i' j=true→Te ss[i'] ss[j]=false)
  ss.length (by unfold qa;omega) _ ⟨rfl,fun i' j h=>by omega⟩ ?_ ?_) (fun r h=>h.2)
 ·rintro i t hi ⟨rfl,hno⟩
  obtain⟨P,ps,hPs,a1⟩:=hS.sd hi
  have hin:=UH hS Ba hA hask hi ⟨ps,hPs⟩ X hX
  obtain⟨hP1,hP2⟩:=hPs.Pv
  have hno':(∀ j,(hj:j < ss.length)→ask i j=true→Te ss[i] ss[j]=false)→∀ i' j,i' < i+1→(hi:i' < ss.length)→(hj:j < ss.length)→ask i' j=true→Te ss[i'] ss[j]=false:=by
   intro h i' j hi' hii hj ha
   rcases Nat.lt_or_ge i' i with h1 | h1
   ·exact hno i' j h1 hii hj ha
   ·have:i'=i:=by omega
    subst this;exact h j hj ha
  have hex:(∃ j,∃ hj:j < ss.length,ask i j=true∧Te ss[i] ss[j]=true)→∃ i j,∃ hi:i < ss.length,∃ hj:j < ss.length,ask i j=true∧Te ss[i] ss[j]=true:=fun ⟨j,hj,h⟩=>⟨i,j,hi,hj,h⟩
  generalize ss[i]=p at *
  have e1:decide ((i:Int) < (ss.length:Int))=true:=Fa (by omega)
  have t2:=Ua hi (by unfold maxLen;omega)
  have a2:∀ H,xa H true 2 (.pv (.rp [P,i64 p.first] 0))=some (.pv (.agg [P,i64 p.first])):=fun H=>rfl
  have s1:Oa [.box [.pv S],X,Rb false 0 0,Rb true 0 0,.box [.pv .ma,.pv (i64 0)]] 2 (.ptr 4 0) (.pv (.agg [P,i64 p.first]))=some [.box [.pv S],X,Rb false 0 0,Rb true 0 0,Bh P p.first]:=
   vj _ _ _ _ hP1 rfl [.box [.pv S],X,Rb false 0 0,Rb true 0 0] _ rfl
  have hcl4:∀ T,Ra (na 4) (([.box [.pv S],X,Rb false 0 0,Rb true 0 0]++T).take 4)=some [.box [.pv S],X,Rb false 0 0,Rb true 0 0]:=fun T=>by
   refine vl ?_
   intro o ho
   simp only[List.cons_append,List.nil_append,List.take_succ_cons,List.take_zero,List.mem_cons,List.not_mem_nil,or_false] at ho
   rcases ho with rfl | rfl | rfl | rfl <;> first | exact hX _ | simp[na,Ra,Ma]
  have hcl4':∀ o,Ra (na 4) ([.box [.pv S],X,Rb false 0 0,Rb true 0 0,o].take 4)=some [.box [.pv S],X,Rb false 0 0,Rb true 0 0]:=fun o=>hcl4 [o]
  have hcl5:Ra (na 5) [.box [.pv S],X,Rb false 0 0,Rb true 0 0,Bh P p.first]=some [.box [.pv S],X,Rb false 0 0,Rb true 0 0,Bh P p.first]:=by
   refine vl ?_
   intro o ho
   simp only[List.mem_cons,List.not_mem_nil,or_false] at ho
   rcases ho with rfl | rfl | rfl | rfl | rfl <;> first | exact hX _ | simp[na,Ra,Ma]
  have htk5:([.box [.pv S],X,Rb false 0 0,Rb true 0 0,Bh P p.first]:List ba).take 5=[.box [.pv S],X,Rb false 0 0,Rb true 0 0,Bh P p.first]:=rfl
  have r0:∀ H (x:PV),xa H false 1 (.pv (.rp [x] 0))=some (.pv x):=fun H x=>rfl
  have q0:∀ H (x:PV),place H 0 (.pv (.rp [x] 0))=some (.pv (.rp [x] 0)):=fun H x=>rfl
  have c3:(3 < 5)=True:=by simp
  have c2:(2 < 5)=True:=by simp
  have c4:(4 < 5)=True:=by simp
  have c0:(0 < 5)=True:=by simp
  have d3:(3 < 4)=True:=by simp
  have d2:(2 < 4)=True:=by simp
  have d0:(0 < 4)=True:=by simp
  generalize hQQ:LN _ _ i=QQ
  simp -implicitDefEqProofs only[SP,WP,oa,sevalprocAttr,Ii,xb,e1,a1,a2,s1,r0,q0,lS,hcl5,htk5,c0,c2,c3,c4,fa,Aa,AV.cut,pa,EO]
  refine za hin ?_
  rintro r (⟨E,rfl,g1,g2,g4,g6,g19,g20,g21,hn⟩ | ⟨E,a,b,T,rfl,g4,g6,hy⟩)
  ·simp -implicitDefEqProofs only[SP,WP,oa,sevalprocAttr,g1,g2,g4,g6,g19,g20,g21,t2,hX 4,d0,d2,d3,fa,Aa,AV.cut,pa]
   subst hQQ
   exact⟨rfl,hno' hn⟩
  ·simp -implicitDefEqProofs only[SP,WP,oa,sevalprocAttr]
   subst hQQ
   exact .inr ⟨E,a,b,T,rfl,g4,g6,hex hy⟩
 ·rintro t ⟨rfl,hno⟩
  have e1:decide ((ss.length:Int) < (ss.length:Int))=false:=Ga (by omega)
  generalize hQ:(fun r:Ex×St=>r.1.stop=true∧_)=Q
  simp -implicitDefEqProofs only[SX,sevalprocAttr,Ii,e1,EO]
  subst hQ
  exact⟨rfl,.inl ⟨_,rfl,by simp[Tr.aa],by simp[Tr.aa],fun i j hi hj ha=>hno i j hi hi hj ha⟩⟩
theorem EE (X:ba) (hX:∀ n,na n X=some X):
 ∃ y a b T,Ri call Vf [.pv (.agg [S]),.Fk cix [.ptr 0 0]] [.box [.pv S],X]=some (.pv (.mc [.agg [.bool y,i64 a,i64 b],i64 0]),[.box [.pv S],X]++T)∧
  (y=true↔∀ i j,(hi:i < ss.length)→(hj:j < ss.length)→ask i j=true→Te ss[i] ss[j]=false):=by
 have lS:=hS.Vb
 have hSone:(AV.pv S).one=true:=by rcases hS.is with⟨h,_⟩ | h <;> rw[h] <;> rfl
 obtain⟨b,hv,hvb⟩:=Nh hS
 have:=hvb.2 Ba
 subst this
 have hout:=NI hS Ba hA hask X hX
 have s1:Oa [.box [.pv S],X,Rb false 0 0,.box [.pv (.bool false),.pv (i64 0),.pv (i64 0)]] 3 (.ptr 3 0) (.pv (.agg [.bool true,i64 0,i64 0]))=some [.box [.pv S],X,Rb false 0 0,Rb true 0 0]:=rfl
 have hcl4:Ra (na 4) [.box [.pv S],X,Rb false 0 0,Rb true 0 0]=some [.box [.pv S],X,Rb false 0 0,Rb true 0 0]:=by
  refine vl ?_
  intro o ho
  simp only[List.mem_cons,List.not_mem_nil,or_false] at ho
  rcases ho with rfl | rfl | rfl | rfl <;> first | exact hX _ | simp[na,Ra,Ma]
 have htk4:([.box [.pv S],X,Rb false 0 0,Rb true 0 0]:List ba).take 4=[.box [.pv S],X,Rb false 0 0,Rb true 0 0]:=rfl
 have r1:∀ H (x:PV),xa H true 1 (.pv (.rp [x] 0))=some (.pv (.agg [x])):=fun H x=>rfl
 have r0:∀ H (x:PV),xa H false 1 (.pv (.rp [x] 0))=some (.pv x):=fun H x=>rfl
 have q0:∀ H (x:PV),place H 0 (.pv (.rp [x] 0))=some (.pv (.rp [x] 0)):=fun H x=>rfl
 have d3:(3 < 4)=True:=by simp
 have d2:(2 < 4)=True:=by simp
 have d0:(0 < 4)=True:=by simp
 have key:Gd (fun r=>∃ y a b T,r=(.pv (.mc [.agg [.bool y,i64 a,i64 b],i64 0]),[.box [.pv S],X]++T)∧(y=true↔∀ i j,(hi:i < ss.length)→(hj:j < ss.length)→ask i j=true→Te ss[i] ss[j]=false))
  (Ri call Vf [.pv (.agg [S]),.Fk cix [.ptr 0 0]] [.box [.pv S],X]):=by
  generalize hQQ:(fun r:AV×List ba=>_)=QQ
  simp -implicitDefEqProofs only[SP,WP,oa,sevalprocAttr,Vf,xb,hSone,r1,r0,q0,hv,lS,s1,hcl4,htk4,d0,d2,d3,fa,Aa,AV.cut,pa]
  refine za hout ?_
  rintro r (⟨E,rfl,g4,g6,hn⟩ | ⟨E,a,b,T,rfl,g4,g6,i,j,hi,hj,h1,h2⟩)
  ·have l1:xa [.box [.pv S],X,Rb false 0 0,Rb true 0 0] true 3 (.ptr 3 0)=some (.pv (.agg [.bool true,i64 0,i64 0])):=rfl
   have s2:Oa [.box [.pv S],X,Rb false 0 0,Rb true 0 0] 3 (.ptr 2 0) (.pv (.agg [.bool true,i64 0,i64 0]))=some [.box [.pv S],X,Rb true 0 0,Rb true 0 0]:=rfl
   have l2:xa [.box [.pv S],X,Rb true 0 0,Rb true 0 0] true 3 (.ptr 2 0)=some (.pv (.agg [.bool true,i64 0,i64 0])):=rfl
   simp -implicitDefEqProofs only[SP,WP,oa,sevalprocAttr,g4,g6,l1,s2,l2]
   subst hQQ
   exact⟨true,0,0,_,rfl,by simpa using hn⟩
  ·have l1:xa ([.box [.pv S],X,Rb false 0 0,Rb false a b]++T) true 3 (.ptr 3 0)=some (.pv (.agg [.bool false,i64 a,i64 b])):=rfl
   have s2:Oa ([.box [.pv S],X,Rb false 0 0,Rb false a b]++T) 3 (.ptr 2 0) (.pv (.agg [.bool false,i64 a,i64 b]))=some ([.box [.pv S],X,Rb false a b,Rb false a b]++T):=rfl
   have l2:xa ([.box [.pv S],X,Rb false a b,Rb false a b]++T) true 3 (.ptr 2 0)=some (.pv (.agg [.bool false,i64 a,i64 b])):=rfl
   generalize hA1:[.box [.pv S],X,Rb false 0 0,Rb false a b]++T=A1 at *
   generalize hA2:[.box [.pv S],X,Rb false a b,Rb false a b]++T=A2 at *
   simp -implicitDefEqProofs only[SP,WP,oa,sevalprocAttr,g4,g6,l1,s2,l2]
   subst hQQ hA2
   refine⟨false,a,b,_,rfl,?_⟩
   simp only[Bool.false_eq_true,false_iff]
   intro h
   rw[h i j hi hj h1] at h2;cases h2
 obtain⟨r,h1,y,a,b,T,rfl,h2⟩:=xc key
 exact⟨y,a,b,T,h1,h2⟩
end
def xg (ss:List Lb):Prop:=∀ i j,(hi:i < ss.length)→(hj:j < ss.length)→ss[i].parts.length < ss[j].parts.length→Te ss[i] ss[j]=false
theorem KJ (call:Wa) {S:PV} {ss:List Lb} {es:List PV} (hS:eb S ss es) (i j:Nat) (H:List ba) (hi:i < ss.length) (hj:j < ss.length) (hH:H[0]? =some (.box [.pv S])):
 Ri call Dh [.pv (i64 i),.pv (i64 j),.ptr 0 0] H=some (.pv (.bool (decide (ss[i].parts.length < ss[j].parts.length))),H):=by
 obtain⟨P,ps,hPs,a1⟩:=hS.sd hi
 obtain⟨Q,qs,hQs,a2⟩:=hS.sd hj
 have lP:=hPs.parts.Vb
 have lQ:=hQs.parts.Vb
 have p0:place H 0 (.ptr 0 0)=some (.ptr 0 0):=by simp[place,hH]
 have l0:xa H false 1 (.ptr 0 0)=some (.pv S):=by simp[xa,hH,bh]
 have r0:∀ H (x y:PV),xa H false 1 (.pv (.rp [x,y] 0))=some (.pv x):=fun H x y=>rfl
 have q0:∀ H (x y:PV),place H 0 (.pv (.rp [x,y] 0))=some (.pv (.rp [x,y] 0)):=fun H x y=>rfl
 have e:decide ((ss[i].parts.length:Int) < (ss[j].parts.length:Int))=decide (ss[i].parts.length < ss[j].parts.length):=by simp
 generalize ss[i]=p at *
 generalize ss[j]=q at *
 by_cases hij:P=Q
 ·subst hij
  have:p.parts.length=q.parts.length:=by have h1:=lP [];have h2:=lQ [];rw[h1] at h2;exact Option.some.inj h2
  rw[this] at lP e ⊢
  simp -implicitDefEqProofs only[SP,WP,oa,sevalprocAttr,Dh,p0,l0,a1,a2,r0,q0,lP,e]
 ·simp -implicitDefEqProofs only[SP,WP,oa,sevalprocAttr,Dh,p0,l0,a1,a2,r0,q0,lP,lQ,e]
theorem gD {S:PV} {ss:List Lb} {es:List PV} (hS:eb S ss es):
 (¬ Tb ss→Se [.agg [S]]=some (.mc [.agg [.bool false,i64 0,i64 0],i64 84]))∧
 (Tb ss→∃ y a b,Se [.agg [S]]=some (.mc [.agg [.bool y,i64 a,i64 b],i64 0])∧(y=true↔xg ss)):=by
 have hSone:(AV.pv S).one=true:=by rcases hS.is with⟨h,_⟩ | h <;> rw[h] <;> rfl
 have c25:mj 25=some Vf:=rfl
 have s0:xa [.box [.pv S],Rb false 0 0] true 1 (.ptr 0 0)=some (.pv (.agg [S])):=rfl
 constructor
 ·intro hno
  obtain⟨b,hv,hvb⟩:=Nh hS
  have hb:b=false:=by cases b with | false=>rfl | true=>exact absurd (hvb.1 rfl) hno
  subst hb
  have r1:∀ H (x:PV),xa H true 1 (.pv (.rp [x] 0))=some (.pv (.agg [x])):=fun H x=>rfl
  have s1:Oa [.box [.pv S],Rb false 0 0,.box [.pv (.bool false),.pv (i64 0),.pv (i64 0)]] 3 (.ptr 2 0) (.pv (.agg [.bool false,i64 0,i64 0]))=some [.box [.pv S],Rb false 0 0,Rb false 0 0]:=rfl
  have l2:xa [.box [.pv S],Rb false 0 0,Rb false 0 0] true 3 (.ptr 2 0)=some (.pv (.agg [.bool false,i64 0,i64 0])):=rfl
  have s2:Oa [.box [.pv S],Rb false 0 0,Rb false 0 0] 3 (.ptr 1 0) (.pv (.agg [.bool false,i64 0,i64 0]))=some [.box [.pv S],Rb false 0 0,Rb false 0 0]:=rfl
  have l3:xa [.box [.pv S],Rb false 0 0,Rb false 0 0] true 3 (.ptr 1 0)=some (.pv (.agg [.bool false,i64 0,i64 0])):=rfl
  simp -implicitDefEqProofs only[Se,SP,WP,oa,sevalprocAttr,rn,c25,Vf,hSone,s0,r1,hv,s1,l2,s2,l3]
 ·intro Ba
  have hA:mY (Ea mj 7) 4 S ss.length (fun i j=>if h:i < ss.length∧j < ss.length then decide (ss[i].parts.length < ss[j].parts.length) else false):=by
   refine⟨fun i j H hi hj hH=> ?_⟩
   rw[Qz mj 6 4 _ H (f:=Dh) rfl,KJ _ hS i j H hi hj hH,dif_pos ⟨hi,hj⟩]
  obtain⟨y,a,b,T,h1,h2⟩:=EE hS Ba hA (fun i j hi hj h=>by rw[dif_pos ⟨hi,hj⟩] at h;have:=of_decide_eq_true h;omega) (Rb false 0 0) (fun n=>by simp[na,Ra,Ma])
  refine⟨y,a,b,?_,?_⟩
  ·have s2:Oa ([.box [.pv S],Rb false 0 0]++T) 3 (.ptr 1 0) (.pv (.agg [.bool y,i64 a,i64 b]))=some ([.box [.pv S],Rb y a b]++T):=rfl
   have l3:xa ([.box [.pv S],Rb y a b]++T) true 3 (.ptr 1 0)=some (.pv (.agg [.bool y,i64 a,i64 b])):=rfl
   generalize hA1:[.box [.pv S],Rb false 0 0]++T=A1 at *
   generalize hA2:[.box [.pv S],Rb y a b]++T=A2 at *
   simp -implicitDefEqProofs only[Se,SP,WP,oa,sevalprocAttr,rn,c25,hSone,s0,h1,s2,l3]
  ·rw[h2]
   unfold xg
   constructor
   ·intro h i j hi hj hlt
    exact h i j hi hj (by rw[dif_pos ⟨hi,hj⟩];exact decide_eq_true hlt)
   ·intro h i j hi hj hlt
    rw[dif_pos ⟨hi,hj⟩] at hlt
    exact h i j hi hj (of_decide_eq_true hlt)
end Go.AM.B1
namespace Go.AM.B1
open Go.AM Go.AM.So
def cellsOf (n:Nat) (g:Nat→AV):List AV:=(List.range n).map g
theorem pg (n:Nat) (g:Nat→AV):(cellsOf n g).length=n:=by simp[cellsOf]
theorem Kr {n i:Nat} (g:Nat→AV) (h:i < n):(cellsOf n g)[i]? =some (g i):=by simp[cellsOf,h]
def Mv (g:Nat→AV) (i:Nat) (v:AV):Nat→AV:=fun j=>if j=i then v else g j
theorem Xt (g:Nat→AV) (i:Nat) (v:AV):Mv g i v i=v:=if_pos rfl
theorem Mu (g:Nat→AV) {i j:Nat} (v:AV) (h:j≠i):Mv g i v j=g j:=if_neg h
theorem HB {n i:Nat} (g:Nat→AV) (v:AV):(cellsOf n g).set i v=cellsOf n (Mv g i v):=by
 apply List.ext_getElem?
 intro j
 by_cases hj:j < n
 ·rw[Kr _ hj]
  by_cases h:i=j
  ·subst h;rw[List.getElem?_set_self (by rw[pg];exact hj),Xt]
  ·rw[List.getElem?_set_ne h,Kr _ hj,Mu _ _ (Ne.symm h)]
 ·rw[List.getElem?_eq_none (by rw[List.length_set,pg];omega),List.getElem?_eq_none (by rw[pg];omega)]
theorem bE {H:List ba} {id m n off sz:Nat} {ag:Bool} {g:Nat→AV} {fl:Nat} {nl:Bool} (hg:H[id]? =some (.seq sz ag (cellsOf n g) fl nl)) (hm:m=n) (ho:off < n):
 xa H false 1 (.Gc id m off)=some (g off):=by
 subst hm
 simp only[xa,hg,pg,if_true,bh,Bool.false_eq_true,if_false,Kr g ho]
theorem It {H:List ba} {id m n off sz d:Nat} {ag:Bool} {g:Nat→AV} {fl:Nat} {nl:Bool} (hg:H[id]? =some (.seq sz ag (cellsOf n g) fl nl)) (hm:m=n):
 place H d (.Gc id m off)=some (.Gc id m (off+d)):=by
 subst hm
 simp only[place,hg,pg,if_true]
theorem dB {H:List ba} {id m n off sz:Nat} {ag:Bool} {g:Nat→AV} {fl:Nat} {nl:Bool} (hg:H[id]? =some (.seq sz ag (cellsOf n g) fl nl)) (hm:m=n) (ho:off < n) {v:AV} (hv:v.cells=[v]) (h1:v.one=true):
 Oa H 1 (.Gc id m off) v=some (H.set id (.seq sz ag (cellsOf n (Mv g off v)) n nl)):=by
 subst hm
 simp only[Oa,hv,List.length_cons,List.length_nil,List.all_cons,h1,List.all_nil,Bool.and_true,and_self,if_true,hg,pg]
 rw[if_pos ⟨trivial,by omega⟩]
 simp only[oa,HB]
def Ek:List (Int×Int)→List Int
 | []=>[]
 |p::l=>Gf 0 p++Ek l
theorem AW (l:List (Int×Int)):l.flatMap (Gf 0)=Ek l:=by
 induction l with
 |nil=>rfl
 |cons p l ih=>rw[List.flatMap_cons,ih];rfl
theorem ZJ {p:Int×Int} (h0:0≤p.1) (h1:p.1≤p.2):Gf 0 p=(List.range (p.2 - p.1+1).toNat).map fun (i:Nat)=>p.1+(i:Int):=by
 unfold Gf
 rw[if_neg (by omega),show max p.1 0=p.1 from by omega]
end Go.AM.B1
namespace Go.AM.B1
open Go.AM
end Go.AM.B1
namespace Go.AM.B1
open Go.AM
end Go.AM.B1
namespace Go.AM.B1
open Go.AM
abbrev u8 (n:Int):PV:= .int .u8 n
structure En (A:PV) (l:List (List ze)):Prop where
 held:∃ es,Vi 1 A es∧es.length=l.length∧∀ (i:Nat) v e,es[i]? =some v→l[i]? =some e→Vi 3 v (e.map GF)
 len:l.length * 24≤140737488355328
 lens:∀ e∈l,e.length * 24≤140737488355328
def tg (b:Int):List ze→Option Int
 | []=>none
 |e::r=>if e.lo≤b∧b≤e.hi then some e.to else tg b r
def El (l:List (List ze)) (st b:Int):Int×Bool:=
 if st < 0 then (0,false) else match l[st.toNat]? with
  |some e=>match tg b e with
   |some t=>(t,true)
   |none=>(0,false)
  |none=>(0,false)
section
variable (b:Int) (hb:0≤b∧b≤255)
include hb
variable (V:PV) (l:List ze) (hV:Vi 3 V (l.map GF)) (hw:l.length≤maxLen)
include hV hw
end
theorem En.get {A:PV} {l:List (List ze)} (h:En A l) {i:Nat} (hi:i < l.length):∃ es V,A= .lit 1 es∧es.length=l.length∧es[i]? =some V∧Vi 3 V (l[i].map GF):=by
 obtain⟨es,h1,h2,h3⟩:=h.held
 have hie:i < es.length:=by omega
 refine⟨es,es[i],h1.lit hie,h2,by simp[hie],h3 i _ _ (by simp[hie]) (by simp[hi])⟩
theorem En.Vb {A:PV} {l:List (List ze)} (h:En A l) (H:List ba):Vb H 0 (.pv A)=some l.length:=by
 obtain⟨es,h1,h2,h3⟩:=h.held
 rw[h1.len,h2]
section
variable (A:PV) (l:List (List ze)) (hA:En A l) (st b:Int) (hb:0≤b∧b≤255)
include hA hb
end
section
variable (call:Wa) (es:List PV) (st b:Int) (hb:0≤b∧b≤255) (e:List ze) (V:PV) (h0:0≤st∧st < es.length) (hV:es[st.toNat]? =some V) (hVL:Vi 3 V (e.map GF)) (hw:e.length≤maxLen)
include h0 hV hVL
include hb hw
end
section
variable (A:PV) (l:List (List ze)) (hA:En A l) (st b:Int) (hb:0≤b∧b≤255)
include hA hb
end
end Go.AM.B1
namespace Go.AM.B1
open Go.AM
def Dq (uc:List Int) (to:Int):Int:=if 0≤to then uc.getD to.toNat 0 else to
theorem pw {uc row:List Int} {i:Nat}:∀ (xs:List Nat) (C:List Int) (p:Nat),p < C.length→
 (Ed uc row i xs C)[p]? =if h:i * 256≤p∧p - i * 256∈xs∧p - i * 256 < row.length then (if 0≤row.getD (p - i * 256) 0 then some (Dq uc (row.getD (p - i * 256) 0)) else C[p]?) else C[p]?
 | [],C,p,hp=>by simp[Ed]
 |x::xs,C,p,hp=>by
  rw[Ed]
  have key:∀ C',C'.length=C.length→(p≠i * 256+x→C'[p]? =C[p]?)→(p=i * 256+x→C'[p]? =if x < row.length then (if 0≤row.getD x 0 then some (Dq uc (row.getD x 0)) else C[p]?) else C[p]?)→
   (Ed uc row i xs C')[p]? =if h:i * 256≤p∧p - i * 256∈x::xs∧p - i * 256 < row.length then (if 0≤row.getD (p - i * 256) 0 then some (Dq uc (row.getD (p - i * 256) 0)) else C[p]?) else C[p]? :=by
   intro C' hl h1 h2
   rw[pw xs C' p (by omega)]
   by_cases hx:p=i * 256+x
   ·have e:p - i * 256=x:=by omega
    have h3:=h2 hx
    rw[e,h3]
    have hle:i * 256≤p:=by omega
    by_cases hr:x < row.length
    ·simp only[hle,hr,and_true,true_and,List.mem_cons,true_or,dite_true,if_true]
     by_cases h0:0≤row.getD x 0
     ·simp only[h0,if_true,ite_self,dite_eq_ite]
     ·simp only[h0,if_false,ite_self,dite_eq_ite]
    ·simp[hr]
   ·rw[h1 hx]
    have:(i * 256≤p∧p - i * 256∈xs∧p - i * 256 < row.length)=(i * 256≤p∧p - i * 256∈x::xs∧p - i * 256 < row.length):=by
     refine propext ⟨fun h=>⟨h.1,by simp[h.2.1],h.2.2⟩,fun h=>⟨h.1,?_,h.2.2⟩⟩
     rcases List.mem_cons.1 h.2.1 with h4 | h4
     ·omega
     ·exact h4
    simp only[this]
  cases hr:row[x]? with
  |none=>
   refine key _ rfl (fun _=>rfl) (fun hx=> ?_)
   have:¬x < row.length:=by
    intro h;rw[List.getElem?_eq_getElem h] at hr;cases hr
   rw[if_neg this]
  |some to=>
   have hx2:x < row.length:=(List.getElem?_eq_some_iff.1 hr).1
   have hto:row.getD x 0=to:=by rw[List.getD_eq_getElem?_getD,hr];rfl
   simp only
   by_cases h0:0≤to
   ·rw[if_pos h0]
    refine key _ (by simp) (fun hx=>by rw[List.getElem?_set_ne (by omega)]) (fun hx=> ?_)
    rw[if_pos hx2,hto,if_pos h0,hx,List.getElem?_set_self (by omega),Dq,if_pos h0]
   ·rw[if_neg h0]
    refine key _ rfl (fun _=>rfl) (fun hx=> ?_)
    rw[if_pos hx2,hto,if_neg h0]
theorem Xs {C:List Int} {i x:Nat} (hx:x < 256):(Xa C i)[x]? =C[i * 256+x]? :=by
 unfold Xa
 rw[List.getElem?_take_of_lt hx,List.getElem?_drop]
theorem yK {n:Nat} {uc C:List Int} {i:Nat} (hC:C.length=n * 256) (hi:i < n):
 Xa (Ed uc (Xa C i) i (List.range 256) C) i=(Xa C i).map (Dq uc):=by
 apply List.ext_getElem?
 intro x
 by_cases hx:x < 256
 ·rw[Xs hx,pw _ _ _ (by omega),List.getElem?_map]
  have e:i * 256+x - i * 256=x:=by omega
  have hl:=Ih hC hi
  rw[e,dif_pos ⟨by omega,by simpa using hx,by omega⟩]
  have hg:(Xa C i)[x]? =some ((Xa C i).getD x 0):=by
   rw[List.getD_eq_getElem?_getD,List.getElem?_eq_getElem (by omega)];rfl
  have hg2:=hg
  rw[Xs hx] at hg2
  rw[hg2,hg]
  by_cases h0:0≤(Xa C i).getD x 0
  ·rw[if_pos h0];rfl
  ·rw[if_neg h0,Option.map_some,Dq,if_neg h0]
 ·rw[List.getElem?_eq_none,List.getElem?_eq_none]
  ·rw[List.length_map,Ih hC hi];omega
  ·rw[Ih (n:=n) (by rw[sm,hC]) hi];omega
theorem BF {n:Nat} {uc row C:List Int} {i j:Nat} (hC:C.length=n * 256) (hj:j < n) (hij:j≠i) (hr:row.length=256):
 Xa (Ed uc row i (List.range 256) C) j=Xa C j:=by
 apply List.ext_getElem?
 intro x
 by_cases hx:x < 256
 ·rw[Xs hx,Xs hx,pw _ _ _ (by omega)]
  rw[dif_neg]
  rintro⟨h1,h2,h3⟩
  omega
 ·rw[List.getElem?_eq_none,List.getElem?_eq_none]
  ·rw[Ih hC hj];omega
  ·rw[Ih (n:=n) (by rw[sm,hC]) hj];omega
structure jy (n:Nat) (C0:List Int) (i:Nat) (s:DJ):Prop where
 hC:s.C.length=n * 256
 hk:s.uc.length=n
 hi:∀ j,i≤j→j < n→Xa s.C j=(Xa C0 j).map (Dq s.uc)
 lo:∀ j,j < i→Xa s.C j=Xa C0 j
 look:∀ j,i≤j→j < n→uk (Xa s.C j) s.M=some (s.uc.getD j 0)
 inj:∀ p∈s.M,∀ q∈s.M,p.2=q.2→p.1=q.1
 rep:∀ p∈s.M,(i:Int)≤p.2∧p.2 < n∧Xa s.C p.2.toNat=p.1
def fP (n:Nat) (C0:List Int):Prop:=∀ j,j < n→∀ to∈Xa C0 j,0≤to→(j:Int) < to∧to < n
theorem KR {uc:List Int} {i:Nat} {v to:Int} (h:0≤to→to.toNat≠i):Dq (uc.set i v) to=Dq uc to:=by
 unfold Dq
 split
 ·next h0=>rw[List.getD_eq_getElem?_getD,List.getD_eq_getElem?_getD,List.getElem?_set_ne (Ne.symm (h h0))]
 ·rfl
theorem YG {a:List Int} {M N:List (List Int×Int)}:uk a (M++N)=(uk a M).or (uk a N):=by
 induction M with
 |nil=>simp[uk]
 |cons p M ih=>
  rw[List.cons_append,uk,uk]
  split
  ·rfl
  ·exact ih
theorem jy.step {n:Nat} {C0:List Int} (hlat:fP n C0) {i:Nat} {s:DJ} (hin:i < n) (h:jy n C0 (i+1) s):jy n C0 i (Xk i s):=by
 have hrow:Xa s.C i=Xa C0 i:=h.lo i (by omega)
 have hrl:(Xa C0 i).length=256:=by rw[← hrow];exact Ih h.hC hin
 have hC2:(Ed s.uc (Xa s.C i) i (List.range 256) s.C).length=n * 256:=by rw[sm,h.hC]
 have hr1:=yK (uc:=s.uc) h.hC hin
 have hr2:∀ j,j < n→j≠i→Xa (Ed s.uc (Xa s.C i) i (List.range 256) s.C) j=Xa s.C j:=fun j hj hji=>BF h.hC hj hji (by rw[hrow];exact hrl)
 have hl1:=@Xr i s
 have hl2:=@Pr i s
 generalize Ed s.uc (Xa s.C i) i (List.range 256) s.C=C2 at *
 have hms:∀ v j,i≤j→j < n→(Xa C0 j).map (Dq (s.uc.set i v))=(Xa C0 j).map (Dq s.uc):=by
  intro v j hij hj
  apply List.map_congr_left
  intro to hto
  apply KR
  intro h0
  have:=hlat j hj to hto h0
  omega
 have main:∀ v M',uk (Xa C2 i) M'=some v→(∀ j,i+1≤j→j < n→uk (Xa C2 j) M'=uk (Xa s.C j) s.M)→
  (∀ p∈M',∀ q∈M',p.2=q.2→p.1=q.1)→(∀ p∈M',(i:Int)≤p.2∧p.2 < n∧Xa C2 p.2.toNat=p.1)→jy n C0 i ⟨C2,s.uc.set i v,M'⟩:=by
  intro v M' h1 h2 h3 h4
  refine⟨hC2,by simp[h.hk],?_,?_,?_,h3,h4⟩
  ·intro j hij hj
   show Xa C2 j=(Xa C0 j).map (Dq (s.uc.set i v))
   rw[hms v j hij hj]
   by_cases hji:j=i
   ·subst hji;rw[hr1,hrow]
   ·rw[hr2 j hj hji,h.hi j (by omega) hj]
  ·intro j hj
   show Xa C2 j=_
   rw[hr2 j (by omega) (by omega),h.lo j (by omega)]
  ·intro j hij hj
   show uk (Xa C2 j) M'=some ((s.uc.set i v).getD j 0)
   by_cases hji:j=i
   ·subst hji
    rw[h1,List.getD_eq_getElem?_getD,List.getElem?_set_self (by rw[h.hk];exact hj)];rfl
   ·rw[h2 j (by omega) hj,h.look j (by omega) hj,List.getD_eq_getElem?_getD,List.getD_eq_getElem?_getD,List.getElem?_set_ne (Ne.symm hji)]
 cases hlk:uk (Xa C2 i) s.M with
 |some v=>
  rw[hl1 hlk]
  refine main v s.M hlk (fun j h1 h2=>by rw[hr2 j h2 (by omega)]) h.inj ?_
  intro p hp
  obtain⟨h1,h2,h3⟩:=h.rep p hp
  exact⟨by omega,h2,by rw[hr2 _ (by omega) (by omega),h3]⟩
 |none=>
  rw[hl2 hlk]
  refine main i _ (by rw[YG,hlk];simp[uk]) (fun j h1 h2=> ?_) ?_ ?_
  ·rw[hr2 j h2 (by omega),YG,h.look j h1 h2];rfl
  ·intro p hp q hq hpq
   rcases List.mem_append.1 hp with hp | hp <;> rcases List.mem_append.1 hq with hq | hq
   ·exact h.inj p hp q hq hpq
   ·simp at hq;subst hq
    have:=(h.rep p hp).1
    simp only at hpq;omega
   ·simp at hp;subst hp
    have:=(h.rep q hq).1
    simp only at hpq;omega
   ·simp at hp hq;subst hp hq;rfl
  ·intro p hp
   rcases List.mem_append.1 hp with hp | hp
   ·obtain⟨h1,h2,h3⟩:=h.rep p hp
    exact⟨by omega,h2,by rw[hr2 _ (by omega) (by omega),h3]⟩
   ·simp at hp;subst hp
    exact⟨by simp,by simp;omega,by simp⟩
theorem jy.go {n:Nat} {C0:List Int} (hlat:fP n C0):∀ (k:Nat) (s:DJ),k≤n→jy n C0 k s→jy n C0 0 (wj k s)
 |0,s,_,h=>h
 |k+1,s,hk,h=>jy.go hlat k _ (by omega) (h.step hlat (by omega))
theorem VQ {n:Nat} {C0:List Int} (hlat:fP n C0) (hC:C0.length=n * 256):jy n C0 0 (Re n C0):=by
 refine jy.go hlat n _ (Nat.le_refl _) ⟨hC,by simp,fun j h1 h2=>by omega,fun j hj=>rfl,fun j h1 h2=>by omega,by simp,by simp⟩
theorem jy.OK {n:Nat} {C0:List Int} {s:DJ} (h:jy n C0 0 s) {j k:Nat} (hj:j < n) (hk:k < n):s.uc.getD j 0=s.uc.getD k 0↔Xa s.C j=Xa s.C k:=by
 have h1:=h.look j (by omega) hj
 have h2:=h.look k (by omega) hk
 constructor
 ·intro e
  obtain⟨p,hp,e1,e2⟩:=Gt h1
  obtain⟨q,hq,e3,e4⟩:=Gt h2
  rw[← e1,←e3]
  exact h.inj p hp q hq (by rw[e2,e4,e])
 ·intro e
  rw[e,h2] at h1
  exact (Option.some.inj h1).symm
theorem jy.Vo {n:Nat} {C0:List Int} {s:DJ} (h:jy n C0 0 s) {j:Nat} (hj:j < n):0≤s.uc.getD j 0∧s.uc.getD j 0 < n∧Xa s.C (s.uc.getD j 0).toNat=Xa s.C j:=by
 obtain⟨p,hp,e1,e2⟩:=Gt (h.look j (by omega) hj)
 obtain⟨h1,h2,h3⟩:=h.rep p hp
 rw[← e2,←e1]
 exact⟨by omega,h2,h3⟩
end Go.AM.B1
namespace Go.AM.B1
open Go.AM
theorem su (b:Int):∀ (l m:List ze),tg b (l++m)=(tg b l).or (tg b m)
 | [],m=>by simp[tg]
 |e::l,m=>by
  rw[List.cons_append,tg,tg]
  split
  ·rfl
  ·exact su b l m
theorem sr {b:Int}:∀ {l:List ze},(∀ e∈l,e.hi < b)→tg b l=none
 | [],_=>rfl
 |e::l,h=>by
  have:=h e (by simp)
  rw[tg,if_neg (by omega)]
  exact sr fun x hx=>h x (by simp[hx])
theorem IE {b:Int}:∀ {l:List ze},l.Pairwise (fun a c=>a.hi < c.lo)→∀ e∈l,e.lo≤b→b≤e.hi→tg b l=some e.to
 |a::l,h,e,he,h1,h2=>by
  rw[List.pairwise_cons] at h
  rw[tg]
  rcases List.mem_cons.1 he with rfl | he
  ·rw[if_pos ⟨h1,h2⟩]
  ·have:=h.1 e he
   rw[if_neg (by omega)]
   exact IE h.2 e he h1 h2
theorem Kw {b t:Int}:∀ {l:List ze},tg b l=some t→∃ e∈l,e.lo≤b∧b≤e.hi∧e.to=t
 |e::l,h=>by
  rw[tg] at h
  split at h
  ·next hc=>exact⟨e,by simp,hc.1,hc.2,Option.some.inj h⟩
  ·obtain⟨x,hx,h1⟩:=Kw h
   exact⟨x,by simp[hx],h1⟩
structure rK (row:List Int) (n:Nat) (l:List ze):Prop where
 HC:∀ e∈l,0≤e.lo∧e.lo≤e.hi∧e.hi < n∧e.to≠ -2
 ord:l.Pairwise (fun a b=>a.hi < b.lo)
 tight:∀ (k:Nat) a b,l[k]? =some a→l[k+1]? =some b→b.lo=a.hi+1→b.to≠a.to
 step:∀ x:Nat,x < n→tg x l=if row.getD x 0= -2 then none else some (row.getD x 0)
theorem KG {l:List ze} {e:ze} (h:l.getLast? =some e):∃ m,l=m++[e]:=by
 have hne:l≠[]:=by rintro rfl;simp at h
 rw[List.getLast?_eq_some_getLast hne] at h
 exact⟨l.dropLast,by rw[← Option.some.inj h];exact (List.dropLast_concat_getLast hne).symm⟩
theorem BL {α:Type} {m:List α} {e a b:α} {k:Nat} (h1:(m++[e])[k]? =some a) (h2:(m++[e])[k+1]? =some b):m[k]? =some a∧((m[k+1]? =some b)∨(k+1=m.length∧b=e)):=by
 have hk:k+1 < (m++[e]).length:=(List.getElem?_eq_some_iff.1 h2).1
 simp at hk
 rw[List.getElem?_append_left (by omega)] at h1
 refine⟨h1,?_⟩
 rcases Nat.lt_or_ge (k+1) m.length with h | h
 ·rw[List.getElem?_append_left h] at h2;exact .inl h2
 ·have:k+1=m.length:=by omega
  rw[List.getElem?_append_right h,this] at h2
  simp at h2
  exact .inr ⟨this,h2.symm⟩
theorem rK.push {row:List Int} {n:Nat} {l:List ze} (h:rK row n l) {to:Int} (ht:row.getD n 0=to) (h2:to≠ -2) (hl:∀ e,l.getLast? =some e→¬(e.to=to∧e.hi=(n:Int) - 1)):rK row (n+1) (l++[⟨n,n,to⟩]):=by
 refine⟨?_,?_,?_,?_⟩
 ·intro e he
  rcases List.mem_append.1 he with he | he
  ·have:=h.HC e he;exact⟨this.1,this.2.1,by omega,this.2.2.2⟩
  ·simp at he;subst he;simp;exact⟨by omega,h2⟩
 ·rw[List.pairwise_append]
  refine⟨h.ord,by simp,?_⟩
  intro a ha b hb
  simp at hb;subst hb
  have:=h.HC a ha;simp;omega
 ·intro k a b h1 h3 h4
  obtain⟨h5,h6 | ⟨h6,rfl⟩⟩:=BL h1 h3
  ·exact h.tight k a b h5 h6 h4
  ·have hla:l.getLast? =some a:=by rw[List.getLast?_eq_getElem?,←h5];congr 1;omega
   intro h7
   simp only at h4 h7
   exact hl a hla ⟨h7.symm,by omega⟩
 ·intro x hx
  rw[su]
  rcases Nat.lt_or_ge x n with hxn | hxn
  ·rw[h.step x hxn]
   split
   ·simp only[Option.none_or,tg];rw[if_neg (by omega)]
   ·rfl
  ·have:x=n:=by omega
   subst this
   rw[sr fun e he=>by have:=h.HC e he;omega,Option.none_or,tg,if_pos (by simp),ht,if_neg h2]
theorem rK.next {row:List Int} {n:Nat} {l:List ze} (h:rK row n l):rK row (n+1) (Mf n (row.getD n 0) l):=by
 obtain⟨to,ht⟩:∃ to,row.getD n 0=to:=⟨_,rfl⟩
 rw[ht]
 unfold Mf
 by_cases h2:to= -2
 ·rw[if_pos h2]
  refine⟨fun e he=>by have:=h.HC e he;exact⟨this.1,this.2.1,by omega,this.2.2.2⟩,h.ord,h.tight,?_⟩
  intro x hx
  rcases Nat.lt_or_ge x n with hxn | hxn
  ·exact h.step x hxn
  ·have:x=n:=by omega
   subst this
   rw[sr fun e he=>by have:=h.HC e he;omega,ht,if_pos h2]
 ·rw[if_neg h2]
  cases hl:l.getLast? with
  |none=>exact h.push ht h2 fun e he=>by rw[hl] at he;cases he
  |some e=>
   by_cases hc:e.to=to∧e.hi=(n:Int) - 1
   ·simp only[hc,and_self,if_true]
    obtain⟨m,rfl⟩:=KG hl
    rw[List.dropLast_concat]
    have hr:=h.HC e (by simp)
    have ho:=List.pairwise_append.1 h.ord
    have hlt:∀ a∈m,a.hi < e.lo:=fun a ha=>ho.2.2 a ha e (by simp)
    refine⟨?_,?_,?_,?_⟩
    ·intro x hx
     rcases List.mem_append.1 hx with hx | hx
     ·have:=h.HC x (by simp[hx]);exact⟨this.1,this.2.1,by omega,this.2.2.2⟩
     ·simp at hx;subst hx;simp only;exact⟨hr.1,by omega,by omega,h2⟩
    ·rw[List.pairwise_append]
     refine⟨ho.1,by simp,?_⟩
     intro a ha b hb
     simp at hb;subst hb
     exact hlt a ha
    ·intro k a b h1 h3 h4
     obtain⟨h5,h6 | ⟨h6,rfl⟩⟩:=BL h1 h3
     ·have hk1:=(List.getElem?_eq_some_iff.1 h6).1
      exact h.tight k a b (by rw[List.getElem?_append_left (by omega)];exact h5) (by rw[List.getElem?_append_left hk1];exact h6) h4
     ·have:=h.tight k a e (by rw[List.getElem?_append_left (by omega)];exact h5) (by rw[List.getElem?_append_right (by omega),h6];simp) h4
      rw[hc.1] at this;exact this
    ·intro x hx
     rw[su]
     rcases Nat.lt_or_ge x n with hxn | hxn
     ·rw[← h.step x hxn,su]
      congr 1
      simp only[tg,hc.1]
      by_cases h3:e.lo≤(x:Int)
      ·rw[if_pos ⟨h3,by omega⟩,if_pos ⟨h3,by omega⟩]
      ·rw[if_neg fun q=>h3 q.1,if_neg fun q=>h3 q.1]
     ·have:x=n:=by omega
      subst this
      rw[sr fun a ha=>by have:=hlt a ha;omega,Option.none_or,tg]
      simp only
      rw[if_pos ⟨by omega,Int.le_refl _⟩,ht,if_neg h2]
   ·simp only[hc,if_false]
    exact h.push ht h2 fun e' he'=>by rw[hl] at he';injection he' with he';subst he';exact hc
theorem Ow (row:List Int):∀ (xs ys:List Nat) (l:List ze),me row (xs++ys) l=me row ys (me row xs l)
 | [],ys,l=>rfl
 |x::xs,ys,l=>by rw[List.cons_append,me,me,Ow row xs]
theorem oG (row:List Int):∀ n:Nat,rK row n (me row (List.range n) [])
 |0=>⟨by simp[me],by simp[me],by simp[me],by omega⟩
 |n+1=>by
  rw[List.range_succ,Ow]
  exact (oG row n).next
theorem FA (row:List Int):rK row 256 (Qf row):=oG row 256
def UA (m:Int) (l:List ze):Int:=l.foldl (fun m e=>if e.to=m then m+1 else m) m
theorem JA (m:Int) (l:List ze) (e:ze):UA m (l++[e])=if e.to=UA m l then UA m l+1 else UA m l:=by
 unfold UA;rw[List.foldl_append];rfl
def ey:Int→List ze→Prop
 |_,[]=>True
 |m,e::l=>e.to≤m∧ey (if e.to=m then m+1 else m) l
theorem Ju:∀ {m:Int} {l:List ze} {e:ze},ey m (l++[e])↔ey m l∧e.to≤UA m l
 |m,[],e=>by simp[ey,UA]
 |m,a::l,e=>by
  show (a.to≤m∧ey _ (l++[e]))↔_
  rw[Ju];exact and_assoc.symm
theorem pG {row:List Int} {g:Nat→Int} (h0:∀ x,0≤g x):∀ n:Nat,(∀ x,x < n→row.getD x 0≤g x)→(∀ x,x < n→g (x+1)=if row.getD x 0=g x then g x+1 else g x)→
 UA (g 0) (me row (List.range n) [])=g n∧ey (g 0) (me row (List.range n) [])∧(∀ e∈me row (List.range n) [],e.to < g n)
 |0,_,_=>⟨rfl,trivial,by simp[me]⟩
 |n+1,h1,h2=>by
  obtain⟨i1,i2,i3⟩:=pG h0 n (fun x hx=>h1 x (by omega)) (fun x hx=>h2 x (by omega))
  have hn:=h1 n (by omega)
  have hg:=h2 n (by omega)
  rw[List.range_succ,Ow]
  generalize me row (List.range n) []=l at *
  show UA (g 0) (Mf n (row.getD n 0) l)=_∧ey (g 0) (Mf n (row.getD n 0) l)∧∀ e∈Mf n (row.getD n 0) l,_
  generalize row.getD n 0=to at *
  have hpush:UA (g 0) (l++[⟨n,n,to⟩])=g (n+1)∧ey (g 0) (l++[⟨n,n,to⟩])∧(∀ e∈l++[⟨n,n,to⟩],e.to < g (n+1)):=by
   refine⟨by rw[JA,i1,hg],Ju.2 ⟨i2,by rw[i1];exact hn⟩,?_⟩
   intro e he
   rcases List.mem_append.1 he with he | he
   ·have:=i3 e he;rw[hg];split <;> omega
   ·simp at he;subst he;simp only;rw[hg];split <;> omega
  unfold Mf
  by_cases h3:to= -2
  ·have:=h0 n
   rw[if_pos h3,hg,if_neg (by omega)]
   exact⟨i1,i2,i3⟩
  ·rw[if_neg h3]
   cases hl:l.getLast? with
   |none=>exact hpush
   |some e=>
    simp only
    split
    ·next hc=>
     obtain⟨m,rfl⟩:=KG hl
     have h4:=i3 e (by simp)
     rw[List.dropLast_concat,hg,if_neg (by omega)]
     rw[JA] at i1
     rw[Ju] at i2
     refine⟨by rw[JA];exact i1,Ju.2 i2,?_⟩
     intro x hx
     rcases List.mem_append.1 hx with hx | hx
     ·exact i3 x (by simp[hx])
     ·simp at hx;subst hx;exact h4
    ·exact hpush
end Go.AM.B1
namespace Go.AM.B1
open Go.AM Go.AM.So
def jv (g:Nat→Int) (e:ze):Nat→Int:=fun b=>if e.lo≤(b:Int)∧(b:Int)≤e.hi then e.to else g b
theorem PG {b:Nat}:∀ (l:List ze) (g:Nat→Int),l.Pairwise (fun a c=>a.hi < c.lo)→l.foldl jv g b=(tg (b:Int) l).getD (g b)
 | [],g,_=>rfl
 |e::l,g,h=>by
  rw[List.pairwise_cons] at h
  rw[List.foldl_cons,PG l _ h.2,tg]
  by_cases hc:e.lo≤(b:Int)∧(b:Int)≤e.hi
  ·rw[if_pos hc]
   have:tg (b:Int) l=none:=by
    cases hs:tg (b:Int) l with
    |none=>rfl
    |some t=>
     obtain⟨x,hx,h1,h2,_⟩:=Kw hs
     have:=h.1 x hx
     omega
   rw[this]
   show jv g e b=e.to
   unfold jv;rw[if_pos hc]
  ·rw[if_neg hc]
   have:jv g e b=g b:=by unfold jv;rw[if_neg hc]
   rw[this]
def Ak (l:List ze) (b:Nat):Int:=(tg (b:Int) l).getD (-2)
structure Ej (l:List ze):Prop where
 HC:∀ e∈l,0≤e.lo∧e.lo≤e.hi∧e.hi < 256∧ -1≤e.to∧e.to≤64
 ord:l.Pairwise (fun a b=>a.hi < b.lo)
def b8 (g:Nat→Int):ba:= .box (cellsOf 256 fun b=> .pv (.int .i8 (g b)))
theorem cy {n:Nat} {g g':Nat→AV} (h:∀ b,b < n→g b=g' b):cellsOf n g=cellsOf n g':=by
 unfold cellsOf
 exact List.map_congr_left fun b hb=>h b (List.mem_range.1 hb)
theorem Lt {g g':Nat→Int} (h:∀ b,b < 256→g b=g' b):b8 g=b8 g':=by
 unfold b8;rw[cy fun b hb=>by rw[h b hb]]
theorem uY (g:Nat→Int) (n:Nat):na n (b8 g)=some (b8 g):=by
 have:=Aq n ((List.range 256).map fun b=>PV.int .i8 (g b))
 rw[List.map_map] at this
 exact this
theorem ng {H:List ba} {id:Nat} {c:List AV} (h:H[id]? =some (.box c)) (d o:Nat):place H d (.ptr id o)=some (.ptr id (o+d)):=by simp only[place,h]
theorem dL {H:List ba} {id:Nat} {g:Nat→Int} (h:H[id]? =some (b8 g)) (d:Nat):place H d (.ptr id 0)=some (.ptr id d):=by
 rw[ng h,Nat.zero_add]
theorem UJ {H:List ba} {id i:Nat} {g:Nat→Int} (h:H[id]? =some (b8 g)) (hi:i < 256) (v:Int):Oa H 1 (.ptr id i) (.pv (.int .i8 v))=some (H.set id (b8 fun b=>if b=i then v else g b)):=by
 have e:cellsOf 256 (Mv (fun b=>AV.pv (.int .i8 (g b))) i (.pv (.int .i8 v)))=cellsOf 256 (fun b=> .pv (.int .i8 (if b=i then v else g b))):=by
  refine cy fun b _=> ?_
  unfold Mv;split <;> rfl
 simp only[Oa,AV.cells,PV.cells,List.map_cons,List.map_nil,List.length_cons,List.length_nil,List.all_cons,AV.one,List.all_nil,Bool.and_self,and_self,if_true,h,b8,pg]
 rw[if_pos (by omega)]
 simp only[oa,HB,e]
theorem tX {n:Int} (h0: -128≤n) (h1:n≤127):IntKind.i8.wrap n=n:=by
 unfold IntKind.wrap
 simp[IntKind.signed,IntKind.bits]
 omega
section
variable {call:Wa} {A:List ba} (hA:Gg A)
include hA
theorem Qy (g:Nat→Int) {n:Nat} (hn:A.length≤n):∀ o∈A++[b8 g],na n o=some o:=by
 intro o ho
 rcases List.mem_append.1 ho with h | h
 ·exact hA n hn o h
 ·rw[List.mem_singleton] at h;subst h;exact uY g n
theorem JU {E:Tr} {tb:Nat} {L S:PV} {x y:PV} {g0:Nat→Int} (htb:tb < A.length) (h8:E.get 8= .ptr tb 0) (h12:E.get 12= .pv L) (h13:E.get 13= .ptr A.length 0) (h101:E.get 101= .pv S) (h102:E.get 102= .pv x) (h103:E.get 103= .pv y) (h108:E.get 108= .pv (i64 0)):
 Gd (fun r=>r.1.stop=true∧∃ E',r=(.exit 4,⟨E',A++[b8 fun _=> -2]⟩)∧∀ t∈[8,12,13,101,102,103],E'.get t=E.get t)
  (ua call (.loop [8,12,13,101,102,103,108] Aj) ⟨E,A++[b8 g0]⟩):=by
 have hcut:∀ t∈[8,12,13,101,102,103],(E.get t).cut (A.length+1) deep=some (E.get t):=by
  intro t ht
  simp only[List.mem_cons,List.not_mem_nil,or_false] at ht
  rcases ht with rfl | rfl | rfl | rfl | rfl | rfl <;> simp only[h8,h12,h13,h101,h102,h103,Ma] <;> exact Ru (by omega)
 refine Qn (fun i t=>(∀ u∈[8,12,13,101,102,103],t.env.get u=E.get u)∧t.env.get 108= .pv (i64 i)∧t.H=A++[b8 fun b=>if b < i then -2 else g0 b]) 256 (by unfold qa;omega) ?_ ?_ ?_
 ·refine Tg.all rfl (by rw[List.length_append];exact Qy hA g0 (by simp)) ?_ fun E' hE=>⟨fun u hu=>hE u (by simp at hu ⊢;omega),by rw[hE 108 (by simp),h108];rfl,by simp⟩
  intro t ht
  rw[List.length_append]
  by_cases h:t=108
  ·subst h;rw[h108,Ma]
  ·exact hcut t (by simp at ht ⊢;omega)
 ·rintro i ⟨E1,H1⟩ hi ⟨k1,k2,k3⟩
  simp only at k1 k2 k3
  subst k3
  have g13:=k1 13 (by simp)
  rw[h13] at g13
  have e1:decide ((i:Int) < 256)=true:=Fa (by omega)
  have t1:IntKind.i64.wrap ((i:Int)+1)=((i+1:Nat):Int):=ym (by omega)
  have hg:=Dj A (b8 fun b=>if b < i then -2 else g0 b)
  have p1:=dL hg i
  have s1:=UJ hg hi (-2)
  rw[Un] at s1
  have hid:(i < 256)=True:=eq_true hi
  have hc:b8 (fun b=>if b=i then -2 else if b < i then -2 else g0 b)=b8 (fun b=>if b < i+1 then -2 else g0 b):=Lt fun b _=>by
   by_cases h1:b=i
   ·rw[if_pos h1,if_pos (by omega)]
   ·rw[if_neg h1]
    by_cases h2:b < i
    ·rw[if_pos h2,if_pos (by omega)]
    ·rw[if_neg h2,if_neg (by omega)]
  rw[hc] at s1
  generalize hQ:RQ _ _ _ _=Q
  simp -implicitDefEqProofs only[SX,sevalprocAttr,Aj,k2,g13,e1,t1,hid,p1,s1]
  subst hQ
  rw[Xl]
  refine Tg.all (by simp) (by rw[List.length_append];exact Qy hA _ (by simp)) ?_ fun E' hE=>⟨fun u hu=> ?_,?_,rfl⟩
  ·intro t ht
   rw[List.length_append]
   by_cases h:t=108
   ·subst h;simp[Tr.aa,Ma]
   ·have hm:t∈[8,12,13,101,102,103]:=by simp at ht ⊢;omega
    have:=k1 t hm
    have h2:=hcut t hm
    simp only[List.mem_cons,List.not_mem_nil,or_false] at hm
    rcases hm with rfl | rfl | rfl | rfl | rfl | rfl <;> simp only[Tr.aa] <;> simp only[this] <;> simpa using h2
  ·rw[hE u (by simp at hu ⊢;omega),←k1 u hu]
   simp only[List.mem_cons,List.not_mem_nil,or_false] at hu
   rcases hu with rfl | rfl | rfl | rfl | rfl | rfl <;> simp[Tr.aa]
  ·rw[hE 108 (by simp)];simp[Tr.aa]
 ·rintro⟨E1,H1⟩ ⟨k1,k2,k3⟩
  simp only at k1 k2 k3
  subst k3
  have e1:decide (((256:Nat):Int) < 256)=false:=Ga (by omega)
  generalize hQ:(fun r:Ex×St=>r.1.stop=true∧_)=Q
  simp -implicitDefEqProofs only[SX,sevalprocAttr,Aj,k2,e1]
  subst hQ
  rw[Lt (g':=fun _=> -2) fun b hb=>if_pos hb]
  refine⟨rfl,_,rfl,fun t ht=> ?_⟩
  ·rw[← k1 t ht]
   simp only[List.mem_cons,List.not_mem_nil,or_false] at ht
   rcases ht with rfl | rfl | rfl | rfl | rfl | rfl <;> simp[Tr.aa]
def Xz (e:ze):ba:= .box [.pv (i64 e.lo),.pv (i64 e.hi),.pv (i64 e.to)]
omit hA in
theorem DX (e:ze) (n:Nat):na n (Xz e)=some (Xz e):=Aq n [i64 e.lo,i64 e.hi,i64 e.to]
theorem IW {E:Tr} {tb:Nat} {L S:PV} {x y u v:PV} {g0:Nat→Int} {e:ze} (he:0≤e.lo∧e.lo≤e.hi∧e.hi < 256∧ -1≤e.to∧e.to≤64) (htb:tb < A.length) (h8:E.get 8= .ptr tb 0) (h13:E.get 13= .ptr A.length 0) (h16:E.get 16= .ptr (A.length+1) 0) (h17:E.get 17= .pv (i64 e.lo))
 (h101:E.get 101= .pv S) (h102:E.get 102= .pv x) (h103:E.get 103= .pv y) (h114:E.get 114= .pv L) (h115:E.get 115= .pv u) (h116:E.get 116= .pv v):
 Gd (fun r=>r.1.stop=true∧∃ E',r=(.exit 8,⟨E',(A++[b8 (jv g0 e)])++[Xz e]⟩)∧∀ t∈[8,13,101,102,103,114,115,116],E'.get t=E.get t)
  (ua call (.loop [8,13,16,17,101,102,103,114,115,116] Fj) ⟨E,(A++[b8 g0])++[Xz e]⟩):=by
 have hcut:∀ t∈[8,13,16,101,102,103,114,115,116],(E.get t).cut (A.length+2) deep=some (E.get t):=by
  intro t ht
  simp only[List.mem_cons,List.not_mem_nil,or_false] at ht
  rcases ht with rfl | rfl | rfl | rfl | rfl | rfl | rfl | rfl | rfl <;> simp only[h8,h13,h16,h101,h102,h103,h114,h115,h116,Ma] <;> exact Ru (by omega)
 have hgood:∀ g,∀ o∈(A++[b8 g])++[Xz e],na (A.length+2) o=some o:=by
  intro g o ho
  rcases List.mem_append.1 ho with h | h
  ·exact Qy hA g (by omega) o h
  ·rw[List.mem_singleton] at h;subst h;exact DX e _
 have hlen:∀ g,((A++[b8 g])++[Xz e]).length=A.length+2:=fun g=>by simp
 refine Qn (fun i t=>(∀ u∈[8,13,16,101,102,103,114,115,116],t.env.get u=E.get u)∧t.env.get 17= .pv (i64 (e.lo+i))∧t.H=(A++[b8 fun b=>if e.lo≤(b:Int)∧(b:Int) < e.lo+i then e.to else g0 b])++[Xz e]) (e.hi - e.lo+1).toNat (by unfold qa;omega) ?_ ?_ ?_
 ·refine Tg.all rfl (by rw[hlen];exact hgood g0) ?_ fun E' hE=>⟨fun u hu=>hE u (by simp at hu ⊢;omega),by rw[hE 17 (by simp),h17];simp,?_⟩
  ·intro t ht
   rw[hlen]
   by_cases h:t=17
   ·subst h;rw[h17,Ma]
   ·exact hcut t (by simp at ht ⊢;omega)
  ·show _=_
   rw[Lt (g:=fun b=>if e.lo≤(b:Int)∧(b:Int) < e.lo+((0:Nat):Int) then e.to else g0 b) (g':=g0) fun b _=>if_neg (by omega)]
 ·rintro i ⟨E1,H1⟩ hi ⟨k1,k2,k3⟩
  simp only at k1 k2 k3
  subst k3
  have g13:=k1 13 (by simp)
  rw[h13] at g13
  have g16:=k1 16 (by simp)
  rw[h16] at g16
  have e1:decide (e.lo+(i:Int)≤e.hi)=true:=Fa (by omega)
  have t1:IntKind.i64.wrap (e.lo+(i:Int)+1)=e.lo+((i+1:Nat):Int):=by rw[Ca (by omega)];omega
  have t2:IntKind.i8.wrap e.to=e.to:=tX (by omega) (by omega)
  generalize hgi:(fun b:Nat=>if e.lo≤(b:Int)∧(b:Int) < e.lo+i then e.to else g0 b)=gi
  have hg:((A++[b8 gi])++[Xz e])[A.length]? =some (b8 gi):=by rw[List.getElem?_append_left (by simp)];exact Dj _ _
  have hg2:((A++[b8 gi])++[Xz e])[A.length+1]? =some (Xz e):=by
   have:=Dj (A++[b8 gi]) (Xz e)
   rw[List.length_append] at this;exact this
  have p1:=dL hg (e.lo+(i:Int)).toNat
  have p2:=fun d=>ng hg2 d 0
  have l1:xa ((A++[b8 gi])++[Xz e]) false 1 (.ptr (A.length+1) 1)=some (.pv (i64 e.hi)):=by simp only[xa,hg2];rfl
  have l2:xa ((A++[b8 gi])++[Xz e]) false 1 (.ptr (A.length+1) 2)=some (.pv (i64 e.to)):=by simp only[xa,hg2];rfl
  have s1:=UJ hg (i:=(e.lo+(i:Int)).toNat) (by omega) e.to
  have hset:((A++[b8 gi])++[Xz e]).set A.length (b8 fun b=>if b=(e.lo+(i:Int)).toNat then e.to else gi b)=(A++[b8 fun b=>if e.lo≤(b:Int)∧(b:Int) < e.lo+((i+1:Nat):Int) then e.to else g0 b])++[Xz e]:=by
   rw[List.set_append_left _ _ (by simp),Un]
   congr 3
   refine Lt fun b _=> ?_
   subst hgi
   by_cases h1:b=(e.lo+(i:Int)).toNat
   ·rw[if_pos h1,if_pos (by omega)]
   ·rw[if_neg h1]
    dsimp only
    by_cases h2:e.lo≤(b:Int)∧(b:Int) < e.lo+i
    ·rw[if_pos h2,if_pos (by omega)]
    ·rw[if_neg h2,if_neg (by omega)]
  rw[hset] at s1
  have hid:(0≤e.lo+(i:Int)∧e.lo+(i:Int) < ((256:Nat):Int))=True:=eq_true (by omega)
  generalize (A++[b8 gi])++[Xz e]=HH at *
  generalize hQ:RQ _ _ _ _=Q
  simp -implicitDefEqProofs only[SX,sevalprocAttr,Fj,k2,g13,g16,e1,t1,t2,hid,p1,p2,l1,l2,s1]
  subst hQ
  rw[Xl]
  refine Tg.all (by simp) (by rw[hlen];exact hgood _) ?_ fun E' hE=>⟨fun u hu=> ?_,?_,rfl⟩
  ·intro t ht
   rw[hlen]
   by_cases h:t=17
   ·subst h;simp[Tr.aa,Ma]
   ·have hm:t∈[8,13,16,101,102,103,114,115,116]:=by simp at ht ⊢;omega
    have:=k1 t hm
    have h2:=hcut t hm
    simp only[List.mem_cons,List.not_mem_nil,or_false] at hm
    rcases hm with rfl | rfl | rfl | rfl | rfl | rfl | rfl | rfl | rfl <;> simp only[Tr.aa] <;> simp only[this] <;> simpa using h2
  ·rw[hE u (by simp at hu ⊢;omega),←k1 u hu]
   simp only[List.mem_cons,List.not_mem_nil,or_false] at hu
   rcases hu with rfl | rfl | rfl | rfl | rfl | rfl | rfl | rfl | rfl <;> simp[Tr.aa]
  ·rw[hE 17 (by simp)];simp[Tr.aa]
 ·rintro⟨E1,H1⟩ ⟨k1,k2,k3⟩
  simp only at k1 k2 k3
  subst k3
  have g16:=k1 16 (by simp)
  rw[h16] at g16
  rw[show e.lo+((e.hi - e.lo+1).toNat:Int)=e.hi+1 by omega] at k2
  have e1:decide (e.hi+1≤e.hi)=false:=Ga (by omega)
  have hb:b8 (fun b:Nat=>if e.lo≤(b:Int)∧(b:Int) < e.lo+((e.hi - e.lo+1).toNat:Int) then e.to else g0 b)=b8 (jv g0 e):=Lt fun b _=>by
   unfold jv
   by_cases h:e.lo≤(b:Int)∧(b:Int)≤e.hi
   ·rw[if_pos h,if_pos (by omega)]
   ·rw[if_neg h,if_neg (by omega)]
  rw[hb]
  have hg2:((A++[b8 (jv g0 e)])++[Xz e])[A.length+1]? =some (Xz e):=by
   have:=Dj (A++[b8 (jv g0 e)]) (Xz e)
   rw[List.length_append] at this;exact this
  have p2:=fun d=>ng hg2 d 0
  have l1:xa ((A++[b8 (jv g0 e)])++[Xz e]) false 1 (.ptr (A.length+1) 1)=some (.pv (i64 e.hi)):=by simp only[xa,hg2];rfl
  generalize (A++[b8 (jv g0 e)])++[Xz e]=HH at *
  generalize hQ:(fun r:Ex×St=>r.1.stop=true∧_)=Q
  simp -implicitDefEqProofs only[SX,sevalprocAttr,Fj,k2,g16,e1,p2,l1]
  subst hQ
  refine⟨rfl,_,rfl,fun t ht=> ?_⟩
  ·rw[← k1 t (by simp at ht ⊢;omega)]
   simp only[List.mem_cons,List.not_mem_nil,or_false] at ht
   rcases ht with rfl | rfl | rfl | rfl | rfl | rfl | rfl | rfl <;> simp[Tr.aa]
end
end Go.AM.B1
namespace Go.AM.B1
open Go.AM Go.AM.So
section
variable {call:Wa} {A:List ba} (hA:Gg A)
include hA
theorem yT {E:Tr} {tb:Nat} {L S:PV} {x y:PV} {es:List ze} (Ba:Ej es) (hL:Vi 3 L (es.map GF)) (hlen:es.length≤256) (htb:tb < A.length) (h8:E.get 8= .ptr tb 0) (h13:E.get 13= .ptr A.length 0)
 (h101:E.get 101= .pv S) (h102:E.get 102= .pv x) (h103:E.get 103= .pv y) (h114:E.get 114= .pv L) (h115:E.get 115= .pv (i64 es.length)) (h116:E.get 116= .pv (i64 0)):
 Gd (fun r=>r.1.stop=true∧∃ E',r=(.exit 6,⟨E',A++[b8 (Ak es)]⟩)∧∀ t∈[8,13,101,102,103],E'.get t=E.get t)
  (ua call (.loop [8,13,101,102,103,114,115,116] Bj) ⟨E,A++[b8 fun _=> -2]⟩):=by
 have hcut:Fit (A.length+1) [8,13,101,102,103,114,115] E:=
  .cons h8 (Ru (by omega)) (.cons h13 (Ru (by omega)) (.cons h101 Ma (.cons h102 Ma (.cons h103 Ma (.cons h114 Ma (.cons h115 Ma (.nil _ _)))))))
 refine Qn (fun i t=>Td [8,13,101,102,103,114,115] E t.env∧t.env.get 116= .pv (i64 i)∧t.H=A++[b8 ((es.take i).foldl jv fun _=> -2)]) es.length (by unfold qa;omega) ?_ ?_ ?_
 ·rw[List.length_append]
  exact Tg.all (by simp) (Qy hA _ (by simp)) (Fit.sub (.cons h116 Ma hcut) rfl) fun E' hE=>⟨Td.sub hE rfl,by rw[hE 116 (by simp),h116];rfl,rfl⟩
 ·rintro i ⟨E1,H1⟩ hi ⟨k1,k2,k3⟩
  simp only at k1 k2 k3
  subst k3
  have g8:=k1 8 (by simp)
  rw[h8] at g8
  have g13:=k1 13 (by simp)
  rw[h13] at g13
  have g101:=k1 101 (by simp)
  rw[h101] at g101
  have g102:=k1 102 (by simp)
  rw[h102] at g102
  have g103:=k1 103 (by simp)
  rw[h103] at g103
  have g114:=k1 114 (by simp)
  rw[h114] at g114
  have g115:=k1 115 (by simp)
  rw[h115] at g115
  have hle:=hL.lit (i:=i) (by simpa using hi)
  have hea:=Ba.HC es[i] (List.getElem_mem hi)
  have htk:(es.take (i+1)).foldl jv (fun _=> -2)=jv ((es.take i).foldl jv fun _=> -2) es[i]:=by
   rw[List.take_succ_eq_append_getElem hi,List.foldl_append];rfl
  have a1:wa (A++[b8 ((es.take i).foldl jv fun _=> -2)]) 3 (.pv L) (i:Int)=some (.pv (.rp [i64 es[i].lo,i64 es[i].hi,i64 es[i].to] 0)):=by
   rw[hle]
   simp only[wa]
   rw[if_pos ⟨trivial,by unfold Ia;rw[List.length_map];omega⟩,Int.toNat_natCast,List.getElem?_map,List.getElem?_eq_getElem hi];rfl
  rw[htk]
  generalize (es.take i).foldl jv (fun _=> -2)=g0 at *
  generalize es[i]=e at *
  have e1:decide ((i:Int) < (es.length:Int))=true:=Fa (by omega)
  have t1:IntKind.i64.wrap ((i:Int)+1)=((i+1:Nat):Int):=ym (by omega)
  have r3:∀ H (x y z:PV),xa H true 3 (.pv (.rp [x,y,z] 0))=some (.pv (.agg [x,y,z])):=fun H x y z=>rfl
  have hln:(A++[b8 g0]).length=A.length+1:=by simp
  have s1:Oa ((A++[b8 g0])++[.box [.pv (i64 0),.pv (i64 0),.pv (i64 0)]]) 3 (.ptr (A.length+1) 0) (.pv (.agg [i64 e.lo,i64 e.hi,i64 e.to]))=some ((A++[b8 g0])++[Xz e]):=by
   have:=Un (A++[b8 g0]) (.box [.pv (i64 0),.pv (i64 0),.pv (i64 0)]) (Xz e)
   have hg:=Dj (A++[b8 g0]) (.box [.pv (i64 0),.pv (i64 0),.pv (i64 0)])
   rw[hln] at this hg
   simp only[Oa,hg]
   rw[if_pos (by simp[AV.cells,PV.cells,AV.one]),if_pos (by simp)]
   rw[← this];rfl
  have hg2:((A++[b8 g0])++[Xz e])[A.length+1]? =some (Xz e):=by
   have:=Dj (A++[b8 g0]) (Xz e)
   rw[hln] at this;exact this
  have p2:=fun d=>ng hg2 d 0
  have l0:xa ((A++[b8 g0])++[Xz e]) false 1 (.ptr (A.length+1) 0)=some (.pv (i64 e.lo)):=by simp only[xa,hg2];rfl
  have hed:=fun (E2:Tr) (q8:E2.get 8= .ptr tb 0) (q13:E2.get 13= .ptr A.length 0) (q16:E2.get 16= .ptr (A.length+1) 0) (q17:E2.get 17= .pv (i64 e.lo)) (q101:E2.get 101= .pv S) (q102:E2.get 102= .pv x) (q103:E2.get 103= .pv y) (q114:E2.get 114= .pv L) (q115:E2.get 115= .pv (i64 es.length)) (q116:E2.get 116= .pv (i64 i))=>
   IW (call:=call) hA (g0:=g0) hea htb q8 q13 q16 q17 q101 q102 q103 q114 q115 q116
  generalize hHH:(A++[b8 g0])++[Xz e]=HH at *
  generalize hHK:(A++[b8 g0])++[ba.box [.pv (i64 0),.pv (i64 0),.pv (i64 0)]]=HK at *
  generalize hQ:RQ _ _ _ _=Q
  simp -implicitDefEqProofs only[SX,sevalprocAttr,Bj,k2,g114,g115,e1,a1,r3,hln,hHK,s1,p2,l0]
  generalize hEE:(Tr.set _ 17 _:Tr)=E2
  have q8:E2.get 8= .ptr tb 0:=by rw[← hEE];simp[Tr.aa,g8]
  have q13:E2.get 13= .ptr A.length 0:=by rw[← hEE];simp[Tr.aa,g13]
  have q16:E2.get 16= .ptr (A.length+1) 0:=by rw[← hEE];simp[Tr.aa]
  have q17:E2.get 17= .pv (i64 e.lo):=by rw[← hEE];simp[Tr.aa]
  have q101:E2.get 101= .pv S:=by rw[← hEE];simp[Tr.aa,g101]
  have q102:E2.get 102= .pv x:=by rw[← hEE];simp[Tr.aa,g102]
  have q103:E2.get 103= .pv y:=by rw[← hEE];simp[Tr.aa,g103]
  have q114:E2.get 114= .pv L:=by rw[← hEE];simp[Tr.aa,g114]
  have q115:E2.get 115= .pv (i64 es.length):=by rw[← hEE];simp[Tr.aa,g115]
  have q116:E2.get 116= .pv (i64 i):=by rw[← hEE];simp[Tr.aa,k2]
  refine za (hed E2 q8 q13 q16 q17 q101 q102 q103 q114 q115 q116) ?_
  rintro r ⟨_,E3,rfl,hE3⟩
  have z116:=hE3 116 (by simp)
  rw[q116] at z116
  have kE:Td [8,13,101,102,103,114,115] E E3:=by
   refine Td.trans ?_ (Td.sub hE3 rfl)
   rw[← hEE]
   repeat refine Td.set ?_ rfl
   exact k1
  simp -implicitDefEqProofs only[SX,sevalprocAttr,z116,t1]
  subst hQ
  rw[Xl]
  have kF:∀ v w,Td [8,13,101,102,103,114,115] E ((E3.set 133 v).set 116 w):=fun v w=>Td.set (Td.set kE rfl) rfl
  rw[List.length_append]
  exact Tg.front (by simp) (Qy hA _ (by simp)) (Fit.sub (.cons (t:=116) (by rw[Tr.aa,if_pos rfl]) Ma (hcut.Je (kF _ _))) rfl) fun E' hE=>⟨(kF _ _).trans (Td.sub hE rfl),by rw[hE 116 (by simp),Tr.aa,if_pos rfl],rfl⟩
 ·rintro⟨E1,H1⟩ ⟨k1,k2,k3⟩
  simp only at k1 k2 k3
  subst k3
  have g115:=k1 115 (by simp)
  rw[h115] at g115
  have e1:decide ((es.length:Int) < (es.length:Int))=false:=Ga (by omega)
  rw[List.take_length,Lt (g:=es.foldl jv fun _=> -2) (g':=Ak es) fun b _=>PG es _ Ba.ord]
  generalize hQ:(fun r:Ex×St=>r.1.stop=true∧_)=Q
  simp -implicitDefEqProofs only[SX,sevalprocAttr,Bj,k2,g115,e1]
  subst hQ
  exact⟨rfl,_,rfl,Td.set (Td.sub k1 rfl) rfl⟩
end
end Go.AM.B1
