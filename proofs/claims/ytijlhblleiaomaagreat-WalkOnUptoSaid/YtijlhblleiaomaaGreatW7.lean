/- What functions of the program compute. -/
import Derived.Test.YtijlhblleiaomaaGreatW6
import Derived.Test.YtijlhblleiaomaaGreatW3
import Derived.Test.YtijlhblleiaomaaGreatW4
set_option linter.unusedVariables false
set_option linter.unusedSimpArgs false
namespace Go.AM.B1
open Go.AM Go.AM.So
abbrev CH (bs:List Int):List PV:=bs.map (PV.int .u8)
abbrev aN (row:List PV) (P:PV) (n i:Int) (tk:Nat) (es:List PV):Tr:=((((Tr.lf.set 19 (.pv (i64 i))).set 18 (.pv (i64 n))).set 17 (.pv P)).set 5 (.uq tk false 1 es)).set 2 (.pv (.rp row 0))
theorem EF {e:PV} {s:Rb} {P:PV} {ps:List PV} (h:sf e s P ps) {B:PV} {bs:List Int} (hB:Yi B bs) (Ba:Zd s) (hlen:bs.length≤s.parts.length):
 ∃ k,Fj [e,B]=some (i64 k):=by
 have hh:=h
 obtain⟨hP1,hP2⟩:=h.yx
 have heq:=h.eq
 subst heq
 have hP:=h.parts
 have lP:=hP.Sb
 have lB:=hB.Sb
 have hB1:=hB.one
 have h8:=Ba.hi
 have hPl:P= .lit 1 ps:=hP.is.lit (i:=0) (by rw[hP.len];exact Ba.lo)
 have r2:∀ H (x y:PV),ya H true 2 (.pv (.rp [x,y] 0))=some (.pv (.agg [x,y])):=fun H x y=>rfl
 have r0:∀ H (x y:PV),ya H false 1 (.pv (.rp [x,y] 0))=some (.pv x):=fun H x y=>rfl
 have r01:∀ H (x y:PV),ya H false 1 (.pv (.rp [x,y] 1))=some (.pv y):=fun H x y=>rfl
 have r1:∀ H (x:PV),ya H false 1 (.pv (.rp [x] 0))=some (.pv x):=fun H x=>rfl
 have q0:∀ H (x y:PV),place H 0 (.pv (.rp [x,y] 0))=some (.pv (.rp [x,y] 0)):=fun H x y=>rfl
 have q1:∀ H (x y:PV),place H 1 (.pv (.rp [x,y] 0))=some (.pv (.rp [x,y] 1)):=fun H x y=>rfl
 have hsl:∀ H,Ye H 1 (.pv P) (some (bs.length:Int)) none=some (.pv (.lit 1 (ps.drop bs.length))):=fun H=>by rw[hPl];exact EC H (by omega) (by rw[hP.len];exact hlen)
 have hdl:(ps.drop bs.length).length=s.parts.length - bs.length:=by rw[List.length_drop,hP.len]
 have hap0:Ub [.tok 1 0 false] false .uq 1 false 1 (.uq 0 false 1 []) (.pv B)=some (.uq 0 false 1 (CH bs),[.tok 1 bs.length false]):=by
  have he:yf 1 (.pv B)=some (CH bs):=by
   rcases hB.is with⟨rfl,hbs⟩ | rfl
   ·have:CH bs=[]:=hbs
    rw[this];rfl
   ·simp[yf,CH]
  simp only[Ub,Bool.false_eq_true,if_false,List.getElem?_cons_zero,he,Option.bind_some,List.length_nil,Nat.zero_add,List.nil_append]
  rw[if_pos ⟨trivial,trivial,trivial,by unfold mb;simp[CH];omega⟩]
  simp[CH]
 have hloop:Ld (fun r=>∃ E H bs',r=(.exit 0,⟨E,H⟩)∧E.get 5= .uq 0 false 1 (CH bs')∧E.get 2= .pv (.rp [P,i64 s.first] 0)∧∀ b∈bs',0≤b∧b≤255)
  (qb (fa (pa (Ea (fun _=>none) 8) Fh) (ga 1 [2,5,17,18,19])) qa ⟨aN [P,i64 s.first] (.lit 1 (ps.drop bs.length)) ((s.parts.length - bs.length:Nat):Int) 0 0 (CH bs),[.tok 1 bs.length false]⟩):=by
  refine za (Eb (g:=fa (pa (Ea (fun _=>none) 8) Fh) (ga 1 [2,5,17,18,19]))
   (fun i t=>∃ bs',t=⟨aN [P,i64 s.first] (.lit 1 (ps.drop bs.length)) ((s.parts.length - bs.length:Nat):Int) i 0 (CH bs'),[.tok 1 bs'.length false]⟩∧bs'.length=bs.length+i∧∀ b∈bs',0≤b∧b≤255)
   (s.parts.length - bs.length) (by unfold qa;omega) _ ⟨bs,rfl,rfl,hB.nE⟩ ?_ ?_) (fun r h=>h.2)
  ·rintro i t hi ⟨bs',rfl,hl',hr'⟩
   obtain⟨v,hv,hPl',hpt⟩:=hP.get (i:=bs.length+i) (by omega)
   have hpo:=Ba.parts _ (List.getElem_mem (show bs.length+i < s.parts.length by omega))
   generalize s.parts[bs.length+i]=l at *
   obtain⟨p0,l',rfl⟩:=List.exists_cons_of_ne_nil hpo.1
   have hvl:v= .lit 2 (Dd (p0::l')):=hpt.is.lit (i:=0) (by simp)
   have hcl:v.cells=[v]:=by rw[hvl];rfl
   have e1:decide ((i:Int) < ((s.parts.length - bs.length:Nat):Int))=true:=Fa (by omega)
   have t2:=Ya hi (by unfold maxLen;omega)
   have a1:∀ H,wa H 1 (.pv (.lit 1 (ps.drop bs.length))) (i:Int)=some (.pv (.rp [v] 0)):=fun H=>by
    simp only[wa]
    rw[if_pos (by have:=hP.len;unfold Ga;simp;omega),Int.toNat_natCast,List.getElem?_drop,hv]
    simp[hcl]
   have i0:∀ H,wa H 2 (.pv v) 0=some (.pv (.rp [i64 p0.1,i64 p0.2] 0)):=fun H=>by
    rw[hvl];exact Lk H (i:=0) (l:=p0::l') (by simp)
   have hb0:=yp hpo.2 p0 (by simp)
   have t3:IntKind.u8.wrap p0.1=p0.1:=wrap_u8 (by omega)
   have hap:=tq (A:=[.tok 1 bs'.length false]) (id:=0) (n:=bs'.length) (h:= .uq) (nl:=false) (bytes:=1) (es:=CH bs') rfl (by simp[CH]) (by unfold mb;omega) (.int .u8 p0.1)
   rw[List.set_cons_zero] at hap
   have hbm:CH (bs'++[p0.1])=CH bs'++[.int .u8 p0.1]:=by simp[CH]
   clear hvl
   generalize hQ:LN _ _ i=Q
   simp -implicitDefEqProofs only[SP,WP,na,sevalprocAttr,Fh,e1,t2,t3,a1,i0,r0,r1,q0,hap,ga,Aa,AV.cut,oa,ua,aN]
   subst hQ
   refine⟨bs'++[p0.1],by rw[hbm];simp,by simp;omega,?_⟩
   intro b hb
   rcases List.mem_append.1 hb with h | h
   ·exact hr' b h
   ·simp at h;subst h;omega
  ·rintro t ⟨bs',rfl,hl',hr'⟩
   have e1:decide (((s.parts.length - bs.length:Nat):Int) < ((s.parts.length - bs.length:Nat):Int))=false:=Ka (by omega)
   generalize hQ:(fun r:Ex×St=>r.1.stop=true∧_)=Q
   simp -implicitDefEqProofs only[SX,sevalprocAttr,Fh,e1,aN]
   subst hQ
   exact⟨rfl,_,_,bs',rfl,by simp[Tr.aa],by simp[Tr.aa],hr'⟩
 obtain⟨r,h1,E,H,bs',rfl,hE5,hE2,hr'⟩:=Gc hloop
 have h1':qb (fa (pa (Ea (fun _=>none) 8) Fh) (ga 1 [2,5,17,18,19])) qa ⟨((((Tr.lf.set 19 (.pv (.int .i64 0))).set 18 (.pv (i64 ((s.parts.length - bs.length:Nat):Int)))).set 17 (.pv (.lit 1 (ps.drop bs.length)))).set 5 (.uq 0 false 1 (CH bs))).set 2 (.pv (.rp [P,i64 s.first] 0)),[.tok 1 bs.length false]⟩=_:=h1
 have hBl:Yi (.lit 1 (CH bs')) bs':=⟨.inr rfl,hr'⟩
 have hrk:=CD hh hBl Ba
 have hrk':∃ k b,Ci [.agg [P,i64 s.first],.lit 1 (CH bs')]=some (.uc [i64 k,.bool b]):=by
  cases hk:Sl s bs' with
  |some k=>exact⟨k,true,hrk.1 k hk⟩
  |none=>exact⟨0,false,hrk.2 hk⟩
 obtain⟨k,b,hk⟩:=hrk'
 refine⟨IntKind.i64.wrap (s.first+k),?_⟩
 clear hPl
 generalize CH bs=ub at *
 generalize CH bs'=ub' at *
 simp -implicitDefEqProofs only[Fj,SP,WP,na,sevalprocAttr,Cr,Bb,hP1,hB1,r2,r0,r01,q0,q1,lP,lB,hap0,hsl,hdl,ga,Aa,AV.cut,oa,ua,h1',hE5,hE2,hk]
theorem wb.Ad {S:PV} {ss:List Rb} {es:List PV} (hS:wb S ss es) {i:Nat} (hi:i < ss.length):∃ P ps,sf (.agg [P,i64 ss[i].first]) ss[i] P ps∧∀ H,wa H 2 (.pv S) (i:Int)=some (.pv (.rp [P,i64 ss[i].first] 0)):=by
 obtain⟨e,P,ps,he,hSl,hsh⟩:=hS.get hi
 have heq:=hsh.eq
 subst heq
 refine⟨P,ps,hsh,fun H=> ?_⟩
 have hq:i < es.length:=by rw[hS.len];exact hi
 rw[hSl]
 simp only[wa]
 rw[if_pos (by unfold Ga;simp;omega),Int.toNat_natCast,he];rfl
def Oe (p q:Rb):Bool:=(Wb p.parts q.parts p.parts.length 0).isSome
abbrev Qb (y:Bool) (a b:Int):ba:= .box [.pv (.bool y),.pv (i64 a),.pv (i64 b)]
abbrev th (P:PV) (f:Int):ba:= .box [.pv P,.pv (i64 f)]
abbrev mG (S:PV) (cix:Nat) (n i j:Int):Tr:=
 (((((((((((Tr.lf.set 29 (.pv (i64 j))).set 28 (.pv (i64 n))).set 27 (.pv S)).set 21 (.pv (i64 i))).set 20 (.pv (i64 n))).set 19 (.pv S)).set 8 (.ptr 4 0)).set 7 (.pv (i64 i))).set 6 (.ptr 3 0)).set 4 (.ptr 2 0)).set 2 (.pv (.rp [S] 0))).set 1 (.pk cix [.ptr 0 0])
abbrev UM (S:PV) (cix:Nat) (n i:Int):Tr:=
 ((((((Tr.lf.set 21 (.pv (i64 i))).set 20 (.pv (i64 n))).set 19 (.pv S)).set 6 (.ptr 3 0)).set 4 (.ptr 2 0)).set 2 (.pv (.rp [S] 0))).set 1 (.pk cix [.ptr 0 0])
structure bX (call:Ua) (cix:Nat) (S:PV) (n:Nat) (ask:Nat→Nat→Bool):Prop where
 run:∀ (i j:Nat) (H:List ba),i < n→j < n→H[0]? =some (.box [.pv S])→call cix [.pv (i64 i),.pv (i64 j),.ptr 0 0] H=some (.pv (.bool (ask i j)),H)
section
variable {call:Ua} {cix:Nat} {S:PV} {ss:List Rb} {es:List PV} {ask:Nat→Nat→Bool} (hS:wb S ss es) (Ba:qc ss) (hA:bX call cix S ss.length ask)
 (hask:∀ i j,(hi:i < ss.length)→(hj:j < ss.length)→ask i j=true→ss[i].parts.length≤ss[j].parts.length)
include hS Ba hA hask
theorem UH {i:Nat} (hi:i < ss.length) {P:PV} (hP:∃ ps,sf (.agg [P,i64 ss[i].first]) ss[i] P ps) (X:ba) (hX:∀ n,oa n X=some X):
 Ld (fun r=>(∃ E,r=(.exit 2,⟨E,[.box [.pv S],X,Qb false 0 0,Qb true 0 0,th P ss[i].first]⟩)∧E.get 1= .pk cix [.ptr 0 0]∧E.get 2= .pv (.rp [S] 0)∧E.get 4= .ptr 2 0∧E.get 6= .ptr 3 0∧E.get 19= .pv S∧E.get 20= .pv (i64 ss.length)∧E.get 21= .pv (i64 i)∧∀ j,(hj:j < ss.length)→ask i j=true→Oe ss[i] ss[j]=false)∨
  (∃ E a b T,r=(.exit 0,⟨E,[.box [.pv S],X,Qb false 0 0,Qb false a b]++T⟩)∧E.get 4= .ptr 2 0∧E.get 6= .ptr 3 0∧∃ j,∃ hj:j < ss.length,ask i j=true∧Oe ss[i] ss[j]=true))
  (qb (fa (pa call Wf) (ga 5 [1,2,4,6,7,8,19,20,21,27,28,29])) qa ⟨mG S cix ss.length i 0,[.box [.pv S],X,Qb false 0 0,Qb true 0 0,th P ss[i].first]⟩):=by
 obtain⟨ps,hPs⟩:=hP
 have h32:=Ba.len
 have okp:=Ba.Av _ (List.getElem_mem hi)
 have hSone:(AV.pv S).one=true:=by rcases hS.is with⟨h,_⟩ | h <;> rw[h] <;> rfl
 obtain⟨hP1,hP2⟩:=hPs.yx
 have lP:=hPs.parts.Sb
 have hask':=fun j hj=>hask i j hi hj
 have hAi:=fun j H (hj:j < ss.length)=>hA.run i j H hi hj
 generalize hp:ss[i]=p at *
 refine za (Eb (g:=fa (pa call Wf) (ga 5 [1,2,4,6,7,8,19,20,21,27,28,29]))
  (fun j t=>t=⟨mG S cix ss.length i j,[.box [.pv S],X,Qb false 0 0,Qb true 0 0,th P p.first]⟩∧∀ j',j' < j→(hj:j' < ss.length)→ask i j'=true→Oe p ss[j']=false)
  ss.length (by unfold qa;omega) _ ⟨rfl,fun j' h=>by omega⟩ ?_ ?_) (fun r h=>h.2)
 ·rintro j t hj ⟨rfl,hno⟩
  obtain⟨Q,qs,hQs,a1⟩:=hS.Ad hj
  have okq:=Ba.Av _ (List.getElem_mem hj)
  have hcm:=yM hPs hQs okp okq (n:=p.parts.length) (Nat.le_refl _)
  have hno':∀ (b:Bool),(ask i j=true→Oe p ss[j]=false)→∀ j',j' < j+1→(hj:j' < ss.length)→ask i j'=true→Oe p ss[j']=false:=by
   intro _ h j' hj' hjj ha
   rcases Nat.lt_or_ge j' j with h1 | h1
   ·exact hno j' h1 hjj ha
   ·have:j'=j:=by omega
    subst this;exact h ha
  have hle:=hask' j hj
  obtain⟨hQ1,hQ2⟩:=hQs.yx
  have lQ:=hQs.parts.Sb
  have hmt:Oe p ss[j]=(Wb p.parts ss[j].parts p.parts.length 0).isSome:=rfl
  rw[hmt] at hno'
  have hex:ask i j=true→(Wb p.parts ss[j].parts p.parts.length 0).isSome=true→∃ j,∃ hj:j < ss.length,ask i j=true∧Oe p ss[j]=true:=fun h1 h2=>⟨j,hj,h1,h2⟩
  have hfirst:∀ {B:PV} {bs:List Int},Yi B bs→bs.length≤ss[j].parts.length→∃ k,Fj [.agg [Q,i64 ss[j].first],B]=some (i64 k):=fun h1 h2=>EF hQs h1 okq h2
  generalize ss[j]=q at *
  have e1:decide ((j:Int) < (ss.length:Int))=true:=Fa (by omega)
  have t2:=Ya hj (by unfold maxLen;omega)
  have a2:∀ H,ya H true 2 (.pv (.rp [Q,i64 q.first] 0))=some (.pv (.agg [Q,i64 q.first])):=fun H=>rfl
  have s1:Ma [.box [.pv S],X,Qb false 0 0,Qb true 0 0,th P p.first,.box [.pv .ma,.pv (i64 0)]] 2 (.ptr 5 0) (.pv (.agg [Q,i64 q.first]))=some [.box [.pv S],X,Qb false 0 0,Qb true 0 0,th P p.first,th Q q.first]:=
   Wm _ _ _ _ hQ1 rfl [.box [.pv S],X,Qb false 0 0,Qb true 0 0,th P p.first] _ rfl
  have hak:=hAi j [.box [.pv S],X,Qb false 0 0,Qb true 0 0,th P p.first,th Q q.first] hj rfl
  have l1:ya [.box [.pv S],X,Qb false 0 0,Qb true 0 0,th P p.first,th Q q.first] true 2 (.ptr 4 0)=some (.pv (.agg [P,i64 p.first])):=rfl
  have l2:ya [.box [.pv S],X,Qb false 0 0,Qb true 0 0,th P p.first,th Q q.first] true 2 (.ptr 5 0)=some (.pv (.agg [Q,i64 q.first])):=rfl
  have l3:ya [.box [.pv S],X,Qb false 0 0,Qb true 0 0,th P p.first,th Q q.first] false 1 (.ptr 4 0)=some (.pv P):=rfl
  have p3:place [.box [.pv S],X,Qb false 0 0,Qb true 0 0,th P p.first,th Q q.first] 0 (.ptr 4 0)=some (.ptr 4 0):=rfl
  have s2:∀ a b:Int,Ma [.box [.pv S],X,Qb false 0 0,Qb true 0 0,th P p.first,th Q q.first] 3 (.ptr 3 0) (.pv (.agg [.bool false,i64 a,i64 b]))=some [.box [.pv S],X,Qb false 0 0,Qb false a b,th P p.first,th Q q.first]:=fun a b=>rfl
  have hcl5:Sa (oa 5) [.box [.pv S],X,Qb false 0 0,Qb true 0 0,th P p.first]=some [.box [.pv S],X,Qb false 0 0,Qb true 0 0,th P p.first]:=by
   refine Sk ?_
   intro o ho
   simp only[List.mem_cons,List.not_mem_nil,or_false] at ho
   rcases ho with rfl | rfl | rfl | rfl | rfl <;> first | exact hX _ | simp[oa,Sa,Ja]
  have htk:∀ o:ba,[.box [.pv S],X,Qb false 0 0,Qb true 0 0,th P p.first,o].take 5=[.box [.pv S],X,Qb false 0 0,Qb true 0 0,th P p.first]:=fun o=>rfl
  have c3:(3 < 5)=True:=by simp
  have c2:(2 < 5)=True:=by simp
  have c4:(4 < 5)=True:=by simp
  have c0:(0 < 5)=True:=by simp
  have hd:deep=6:=rfl
  generalize hQQ:LN _ _ j=QQ
  cases hak':ask i j with
  |false=>
   rw[hak'] at hak
   simp -implicitDefEqProofs only[SP,WP,na,sevalprocAttr,Wf,e1,t2,a1,a2,s1,hak,hcl5,htk,c0,c2,c3,c4,ga,Aa,AV.cut,ua,mG]
   subst hQQ
   exact⟨rfl,hno' true (fun h=>by rw[hak'] at h;cases h)⟩
  |true=>
   rw[hak'] at hak
   have hcm:=hcm (hle hak')
   cases hc:Wb p.parts q.parts p.parts.length 0 with
   |none=>
    have h1:=hcm.1 hc
    simp -implicitDefEqProofs only[SP,WP,na,sevalprocAttr,Wf,e1,t2,a1,a2,s1,hak,l1,l2,l3,p3,lP,h1,hcl5,htk,c0,c2,c3,c4,ga,Aa,AV.cut,ua,mG]
    subst hQQ
    exact⟨rfl,hno' true (fun _=>by rw[hc];rfl)⟩
   |some bs=>
    obtain⟨v,h1,hv,hbl,hbr⟩:=hcm.2 bs hc
    have hB:Yi v bs:=⟨hv,hbr⟩
    obtain⟨k1,hk1⟩:=EF hPs hB okp (by omega)
    obtain⟨k2,hk2⟩:=hfirst hB (by have:=hle hak';omega)
    simp -implicitDefEqProofs only[SP,WP,na,sevalprocAttr,Wf,e1,a1,a2,s1,hak,l1,l2,l3,p3,lP,h1,hk1,hk2,s2,mG]
    subst hQQ
    exact .inr ⟨_,k1,k2,[th P p.first,th Q q.first],rfl,by simp[Tr.aa],by simp[Tr.aa],hex hak' (by rw[hc];rfl)⟩
 ·rintro t ⟨rfl,hno⟩
  have e1:decide ((ss.length:Int) < (ss.length:Int))=false:=Ka (by omega)
  generalize hQ:(fun r:Ex×St=>r.1.stop=true∧_)=Q
  simp -implicitDefEqProofs only[SX,sevalprocAttr,Wf,e1,mG]
  subst hQ
  exact⟨rfl,.inl ⟨_,rfl,by simp[Tr.aa],by simp[Tr.aa],by simp[Tr.aa],by simp[Tr.aa],by simp[Tr.aa],by simp[Tr.aa],by simp[Tr.aa],fun j hj ha=>hno j hj hj ha⟩⟩
theorem fH (X:ba) (hX:∀ n,oa n X=some X):
 Ld (fun r=>(∃ E,r=(.exit 0,⟨E,[.box [.pv S],X,Qb false 0 0,Qb true 0 0]⟩)∧E.get 4= .ptr 2 0∧E.get 6= .ptr 3 0∧∀ i j,(hi:i < ss.length)→(hj:j < ss.length)→ask i j=true→Oe ss[i] ss[j]=false)∨
  (∃ E a b T,r=(.exit 0,⟨E,[.box [.pv S],X,Qb false 0 0,Qb false a b]++T⟩)∧E.get 4= .ptr 2 0∧E.get 6= .ptr 3 0∧∃ i j,∃ hi:i < ss.length,∃ hj:j < ss.length,ask i j=true∧Oe ss[i] ss[j]=true))
  (qb (fa (pa call vi) (ga 4 [1,2,4,6,19,20,21])) qa ⟨UM S cix ss.length 0,[.box [.pv S],X,Qb false 0 0,Qb true 0 0]⟩):=by
 have h32:=Ba.len
 have lS:=hS.Sb
 refine za (Eb (g:=fa (pa call vi) (ga 4 [1,2,4,6,19,20,21]))
  (fun i t=>t=⟨UM S cix ss.length i,[.box [.pv S],X,Qb false 0 0,Qb true 0 0]⟩∧∀ i' j,i' < i→(hi:i' < ss.length)→(hj:j < ss.length)→ask i' j=true→Oe ss[i'] ss[j]=false)
  ss.length (by unfold qa;omega) _ ⟨rfl,fun i' j h=>by omega⟩ ?_ ?_) (fun r h=>h.2)
 ·rintro i t hi ⟨rfl,hno⟩
  obtain⟨P,ps,hPs,a1⟩:=hS.Ad hi
  have hin:=UH hS Ba hA hask hi ⟨ps,hPs⟩ X hX
  obtain⟨hP1,hP2⟩:=hPs.yx
  have hno':(∀ j,(hj:j < ss.length)→ask i j=true→Oe ss[i] ss[j]=false)→∀ i' j,i' < i+1→(hi:i' < ss.length)→(hj:j < ss.length)→ask i' j=true→Oe ss[i'] ss[j]=false:=by
   intro h i' j hi' hii hj ha
   rcases Nat.lt_or_ge i' i with h1 | h1
   ·exact hno i' j h1 hii hj ha
   ·have:i'=i:=by omega
    subst this;exact h j hj ha
  have hex:(∃ j,∃ hj:j < ss.length,ask i j=true∧Oe ss[i] ss[j]=true)→∃ i j,∃ hi:i < ss.length,∃ hj:j < ss.length,ask i j=true∧Oe ss[i] ss[j]=true:=fun ⟨j,hj,h⟩=>⟨i,j,hi,hj,h⟩
  generalize ss[i]=p at *
  have e1:decide ((i:Int) < (ss.length:Int))=true:=Fa (by omega)
  have t2:=Ya hi (by unfold maxLen;omega)
  have a2:∀ H,ya H true 2 (.pv (.rp [P,i64 p.first] 0))=some (.pv (.agg [P,i64 p.first])):=fun H=>rfl
  have s1:Ma [.box [.pv S],X,Qb false 0 0,Qb true 0 0,.box [.pv .ma,.pv (i64 0)]] 2 (.ptr 4 0) (.pv (.agg [P,i64 p.first]))=some [.box [.pv S],X,Qb false 0 0,Qb true 0 0,th P p.first]:=
   Wm _ _ _ _ hP1 rfl [.box [.pv S],X,Qb false 0 0,Qb true 0 0] _ rfl
  have hcl4:∀ T,Sa (oa 4) (([.box [.pv S],X,Qb false 0 0,Qb true 0 0]++T).take 4)=some [.box [.pv S],X,Qb false 0 0,Qb true 0 0]:=fun T=>by
   refine Sk ?_
   intro o ho
   simp only[List.cons_append,List.nil_append,List.take_succ_cons,List.take_zero,List.mem_cons,List.not_mem_nil,or_false] at ho
   rcases ho with rfl | rfl | rfl | rfl <;> first | exact hX _ | simp[oa,Sa,Ja]
  have hcl4':∀ o,Sa (oa 4) ([.box [.pv S],X,Qb false 0 0,Qb true 0 0,o].take 4)=some [.box [.pv S],X,Qb false 0 0,Qb true 0 0]:=fun o=>hcl4 [o]
  have hcl5:Sa (oa 5) [.box [.pv S],X,Qb false 0 0,Qb true 0 0,th P p.first]=some [.box [.pv S],X,Qb false 0 0,Qb true 0 0,th P p.first]:=by
   refine Sk ?_
   intro o ho
   simp only[List.mem_cons,List.not_mem_nil,or_false] at ho
   rcases ho with rfl | rfl | rfl | rfl | rfl <;> first | exact hX _ | simp[oa,Sa,Ja]
  have htk5:([.box [.pv S],X,Qb false 0 0,Qb true 0 0,th P p.first]:List ba).take 5=[.box [.pv S],X,Qb false 0 0,Qb true 0 0,th P p.first]:=rfl
  have r0:∀ H (x:PV),ya H false 1 (.pv (.rp [x] 0))=some (.pv x):=fun H x=>rfl
  have q0:∀ H (x:PV),place H 0 (.pv (.rp [x] 0))=some (.pv (.rp [x] 0)):=fun H x=>rfl
  have c3:(3 < 5)=True:=by simp
  have c2:(2 < 5)=True:=by simp
  have c4:(4 < 5)=True:=by simp
  have c0:(0 < 5)=True:=by simp
  have d3:(3 < 4)=True:=by simp
  have d2:(2 < 4)=True:=by simp
  have d0:(0 < 4)=True:=by simp
  generalize hQQ:LN _ _ i=QQ
  simp -implicitDefEqProofs only[SP,WP,na,sevalprocAttr,vi,Bb,e1,a1,a2,s1,r0,q0,lS,hcl5,htk5,c0,c2,c3,c4,ga,Aa,AV.cut,ua,UM]
  refine za hin ?_
  rintro r (⟨E,rfl,g1,g2,g4,g6,g19,g20,g21,hn⟩ | ⟨E,a,b,T,rfl,g4,g6,hy⟩)
  ·simp -implicitDefEqProofs only[SP,WP,na,sevalprocAttr,g1,g2,g4,g6,g19,g20,g21,t2,hX 4,d0,d2,d3,ga,Aa,AV.cut,ua]
   subst hQQ
   exact⟨rfl,hno' hn⟩
  ·simp -implicitDefEqProofs only[SP,WP,na,sevalprocAttr]
   subst hQQ
   exact .inr ⟨E,a,b,T,rfl,g4,g6,hex hy⟩
 ·rintro t ⟨rfl,hno⟩
  have e1:decide ((ss.length:Int) < (ss.length:Int))=false:=Ka (by omega)
  generalize hQ:(fun r:Ex×St=>r.1.stop=true∧_)=Q
  simp -implicitDefEqProofs only[SX,sevalprocAttr,vi,e1,UM]
  subst hQ
  exact⟨rfl,.inl ⟨_,rfl,by simp[Tr.aa],by simp[Tr.aa],fun i j hi hj ha=>hno i j hi hi hj ha⟩⟩
theorem PC (X:ba) (hX:∀ n,oa n X=some X):
 ∃ y a b T,Ei call Sf [.pv (.agg [S]),.pk cix [.ptr 0 0]] [.box [.pv S],X]=some (.pv (.uc [.agg [.bool y,i64 a,i64 b],i64 0]),[.box [.pv S],X]++T)∧
  (y=true↔∀ i j,(hi:i < ss.length)→(hj:j < ss.length)→ask i j=true→Oe ss[i] ss[j]=false):=by
 have lS:=hS.Sb
 have hSone:(AV.pv S).one=true:=by rcases hS.is with⟨h,_⟩ | h <;> rw[h] <;> rfl
 obtain⟨b,hv,hvb⟩:=Mk hS
 have:=hvb.2 Ba
 subst this
 have hout:=fH hS Ba hA hask X hX
 have s1:Ma [.box [.pv S],X,Qb false 0 0,.box [.pv (.bool false),.pv (i64 0),.pv (i64 0)]] 3 (.ptr 3 0) (.pv (.agg [.bool true,i64 0,i64 0]))=some [.box [.pv S],X,Qb false 0 0,Qb true 0 0]:=rfl
 have hcl4:Sa (oa 4) [.box [.pv S],X,Qb false 0 0,Qb true 0 0]=some [.box [.pv S],X,Qb false 0 0,Qb true 0 0]:=by
  refine Sk ?_
  intro o ho
  simp only[List.mem_cons,List.not_mem_nil,or_false] at ho
  rcases ho with rfl | rfl | rfl | rfl <;> first | exact hX _ | simp[oa,Sa,Ja]
 have htk4:([.box [.pv S],X,Qb false 0 0,Qb true 0 0]:List ba).take 4=[.box [.pv S],X,Qb false 0 0,Qb true 0 0]:=rfl
 have r1:∀ H (x:PV),ya H true 1 (.pv (.rp [x] 0))=some (.pv (.agg [x])):=fun H x=>rfl
 have r0:∀ H (x:PV),ya H false 1 (.pv (.rp [x] 0))=some (.pv x):=fun H x=>rfl
 have q0:∀ H (x:PV),place H 0 (.pv (.rp [x] 0))=some (.pv (.rp [x] 0)):=fun H x=>rfl
 have d3:(3 < 4)=True:=by simp
 have d2:(2 < 4)=True:=by simp
 have d0:(0 < 4)=True:=by simp
 have key:Ld (fun r=>∃ y a b T,r=(.pv (.uc [.agg [.bool y,i64 a,i64 b],i64 0]),[.box [.pv S],X]++T)∧(y=true↔∀ i j,(hi:i < ss.length)→(hj:j < ss.length)→ask i j=true→Oe ss[i] ss[j]=false))
  (Ei call Sf [.pv (.agg [S]),.pk cix [.ptr 0 0]] [.box [.pv S],X]):=by
  generalize hQQ:(fun r:AV×List ba=>_)=QQ
  simp -implicitDefEqProofs only[SP,WP,na,sevalprocAttr,Sf,Bb,hSone,r1,r0,q0,hv,lS,s1,hcl4,htk4,d0,d2,d3,ga,Aa,AV.cut,ua]
  refine za hout ?_
  rintro r (⟨E,rfl,g4,g6,hn⟩ | ⟨E,a,b,T,rfl,g4,g6,i,j,hi,hj,h1,h2⟩)
  ·have l1:ya [.box [.pv S],X,Qb false 0 0,Qb true 0 0] true 3 (.ptr 3 0)=some (.pv (.agg [.bool true,i64 0,i64 0])):=rfl
   have s2:Ma [.box [.pv S],X,Qb false 0 0,Qb true 0 0] 3 (.ptr 2 0) (.pv (.agg [.bool true,i64 0,i64 0]))=some [.box [.pv S],X,Qb true 0 0,Qb true 0 0]:=rfl
   have l2:ya [.box [.pv S],X,Qb true 0 0,Qb true 0 0] true 3 (.ptr 2 0)=some (.pv (.agg [.bool true,i64 0,i64 0])):=rfl
   simp -implicitDefEqProofs only[SP,WP,na,sevalprocAttr,g4,g6,l1,s2,l2]
   subst hQQ
   exact⟨true,0,0,_,rfl,by simpa using hn⟩
  ·have l1:ya ([.box [.pv S],X,Qb false 0 0,Qb false a b]++T) true 3 (.ptr 3 0)=some (.pv (.agg [.bool false,i64 a,i64 b])):=rfl
   have s2:Ma ([.box [.pv S],X,Qb false 0 0,Qb false a b]++T) 3 (.ptr 2 0) (.pv (.agg [.bool false,i64 a,i64 b]))=some ([.box [.pv S],X,Qb false a b,Qb false a b]++T):=rfl
   have l2:ya ([.box [.pv S],X,Qb false a b,Qb false a b]++T) true 3 (.ptr 2 0)=some (.pv (.agg [.bool false,i64 a,i64 b])):=rfl
   generalize hA1:[.box [.pv S],X,Qb false 0 0,Qb false a b]++T=A1 at *
   generalize hA2:[.box [.pv S],X,Qb false a b,Qb false a b]++T=A2 at *
   simp -implicitDefEqProofs only[SP,WP,na,sevalprocAttr,g4,g6,l1,s2,l2]
   subst hQQ hA2
   refine⟨false,a,b,_,rfl,?_⟩
   simp only[Bool.false_eq_true,false_iff]
   intro h
   rw[h i j hi hj h1] at h2;cases h2
 obtain⟨r,h1,y,a,b,T,rfl,h2⟩:=Gc key
 exact⟨y,a,b,T,h1,h2⟩
end
def Fg (ss:List Rb):Prop:=∀ i j,(hi:i < ss.length)→(hj:j < ss.length)→ss[i].parts.length < ss[j].parts.length→Oe ss[i] ss[j]=false
theorem dJ (call:Ua) {S:PV} {ss:List Rb} {es:List PV} (hS:wb S ss es) (i j:Nat) (H:List ba) (hi:i < ss.length) (hj:j < ss.length) (hH:H[0]? =some (.box [.pv S])):
 Ei call Ch [.pv (i64 i),.pv (i64 j),.ptr 0 0] H=some (.pv (.bool (decide (ss[i].parts.length < ss[j].parts.length))),H):=by
 obtain⟨P,ps,hPs,a1⟩:=hS.Ad hi
 obtain⟨Q,qs,hQs,a2⟩:=hS.Ad hj
 have lP:=hPs.parts.Sb
 have lQ:=hQs.parts.Sb
 have p0:place H 0 (.ptr 0 0)=some (.ptr 0 0):=by simp[place,hH]
 have l0:ya H false 1 (.ptr 0 0)=some (.pv S):=by simp[ya,hH,Sg]
 have r0:∀ H (x y:PV),ya H false 1 (.pv (.rp [x,y] 0))=some (.pv x):=fun H x y=>rfl
 have q0:∀ H (x y:PV),place H 0 (.pv (.rp [x,y] 0))=some (.pv (.rp [x,y] 0)):=fun H x y=>rfl
 have e:decide ((ss[i].parts.length:Int) < (ss[j].parts.length:Int))=decide (ss[i].parts.length < ss[j].parts.length):=by simp
 generalize ss[i]=p at *
 generalize ss[j]=q at *
 by_cases hij:P=Q
 ·subst hij
  have:p.parts.length=q.parts.length:=by have h1:=lP [];have h2:=lQ [];rw[h1] at h2;exact Option.some.inj h2
  rw[this] at lP e ⊢
  simp -implicitDefEqProofs only[SP,WP,na,sevalprocAttr,Ch,p0,l0,a1,a2,r0,q0,lP,e]
 ·simp -implicitDefEqProofs only[SP,WP,na,sevalprocAttr,Ch,p0,l0,a1,a2,r0,q0,lP,lQ,e]
theorem sD {S:PV} {ss:List Rb} {es:List PV} (hS:wb S ss es):
 (¬ qc ss→ye [.agg [S]]=some (.uc [.agg [.bool false,i64 0,i64 0],i64 84]))∧
 (qc ss→∃ y a b,ye [.agg [S]]=some (.uc [.agg [.bool y,i64 a,i64 b],i64 0])∧(y=true↔Fg ss)):=by
 have hSone:(AV.pv S).one=true:=by rcases hS.is with⟨h,_⟩ | h <;> rw[h] <;> rfl
 have c25:fj 25=some Sf:=rfl
 have s0:ya [.box [.pv S],Qb false 0 0] true 1 (.ptr 0 0)=some (.pv (.agg [S])):=rfl
 constructor
 ·intro hno
  obtain⟨b,hv,hvb⟩:=Mk hS
  have hb:b=false:=by cases b with | false=>rfl | true=>exact absurd (hvb.1 rfl) hno
  subst hb
  have r1:∀ H (x:PV),ya H true 1 (.pv (.rp [x] 0))=some (.pv (.agg [x])):=fun H x=>rfl
  have s1:Ma [.box [.pv S],Qb false 0 0,.box [.pv (.bool false),.pv (i64 0),.pv (i64 0)]] 3 (.ptr 2 0) (.pv (.agg [.bool false,i64 0,i64 0]))=some [.box [.pv S],Qb false 0 0,Qb false 0 0]:=rfl
  have l2:ya [.box [.pv S],Qb false 0 0,Qb false 0 0] true 3 (.ptr 2 0)=some (.pv (.agg [.bool false,i64 0,i64 0])):=rfl
  have s2:Ma [.box [.pv S],Qb false 0 0,Qb false 0 0] 3 (.ptr 1 0) (.pv (.agg [.bool false,i64 0,i64 0]))=some [.box [.pv S],Qb false 0 0,Qb false 0 0]:=rfl
  have l3:ya [.box [.pv S],Qb false 0 0,Qb false 0 0] true 3 (.ptr 1 0)=some (.pv (.agg [.bool false,i64 0,i64 0])):=rfl
  simp -implicitDefEqProofs only[ye,SP,WP,na,sevalprocAttr,dm,c25,Sf,hSone,s0,r1,hv,s1,l2,s2,l3]
 ·intro Ba
  have hA:bX (Ea fj 7) 4 S ss.length (fun i j=>if h:i < ss.length∧j < ss.length then decide (ss[i].parts.length < ss[j].parts.length) else false):=by
   refine⟨fun i j H hi hj hH=> ?_⟩
   rw[az fj 6 4 _ H (f:=Ch) rfl,dJ _ hS i j H hi hj hH,dif_pos ⟨hi,hj⟩]
  obtain⟨y,a,b,T,h1,h2⟩:=PC hS Ba hA (fun i j hi hj h=>by rw[dif_pos ⟨hi,hj⟩] at h;have:=of_decide_eq_true h;omega) (Qb false 0 0) (fun n=>by simp[oa,Sa,Ja])
  refine⟨y,a,b,?_,?_⟩
  ·have s2:Ma ([.box [.pv S],Qb false 0 0]++T) 3 (.ptr 1 0) (.pv (.agg [.bool y,i64 a,i64 b]))=some ([.box [.pv S],Qb y a b]++T):=rfl
   have l3:ya ([.box [.pv S],Qb y a b]++T) true 3 (.ptr 1 0)=some (.pv (.agg [.bool y,i64 a,i64 b])):=rfl
   generalize hA1:[.box [.pv S],Qb false 0 0]++T=A1 at *
   generalize hA2:[.box [.pv S],Qb y a b]++T=A2 at *
   simp -implicitDefEqProofs only[ye,SP,WP,na,sevalprocAttr,dm,c25,hSone,s0,h1,s2,l3]
  ·rw[h2]
   unfold Fg
   constructor
   ·intro h i j hi hj hlt
    exact h i j hi hj (by rw[dif_pos ⟨hi,hj⟩];exact decide_eq_true hlt)
   ·intro h i j hi hj hlt
    rw[dif_pos ⟨hi,hj⟩] at hlt
    exact h i j hi hj (of_decide_eq_true hlt)
end Go.AM.B1
namespace Go.AM.B1
open Go.AM Go.AM.So
def cellsOf (n:Nat) (g:Nat→AV):List AV:=(List.range n).map g
theorem eg (n:Nat) (g:Nat→AV):(cellsOf n g).length=n:=by simp[cellsOf]
theorem yq {n i:Nat} (g:Nat→AV) (h:i < n):(cellsOf n g)[i]? =some (g i):=by simp[cellsOf,h]
def Su (g:Nat→AV) (i:Nat) (v:AV):Nat→AV:=fun j=>if j=i then v else g j
theorem Bs (g:Nat→AV) (i:Nat) (v:AV):Su g i v i=v:=if_pos rfl
theorem vu (g:Nat→AV) {i j:Nat} (v:AV) (h:j≠i):Su g i v j=g j:=if_neg h
theorem CA {n i:Nat} (g:Nat→AV) (v:AV):(cellsOf n g).set i v=cellsOf n (Su g i v):=by
 apply List.ext_getElem?
 intro j
 by_cases hj:j < n
 ·rw[yq _ hj]
  by_cases h:i=j
  ·subst h;rw[List.getElem?_set_self (by rw[eg];exact hj),Bs]
  ·rw[List.getElem?_set_ne h,yq _ hj,vu _ _ (Ne.symm h)]
 ·rw[List.getElem?_eq_none (by rw[List.length_set,eg];omega),List.getElem?_eq_none (by rw[eg];omega)]
theorem SC {H:List ba} {id m n off sz:Nat} {ag:Bool} {g:Nat→AV} {fl:Nat} {nl:Bool} (hg:H[id]? =some (.seq sz ag (cellsOf n g) fl nl)) (hm:m=n) (ho:off < n):
 ya H false 1 (.Ac id m off)=some (g off):=by
 subst hm
 simp only[ya,hg,eg,if_true,Sg,Bool.false_eq_true,if_false,yq g ho]
theorem Ks {H:List ba} {id m n off sz d:Nat} {ag:Bool} {g:Nat→AV} {fl:Nat} {nl:Bool} (hg:H[id]? =some (.seq sz ag (cellsOf n g) fl nl)) (hm:m=n):
 place H d (.Ac id m off)=some (.Ac id m (off+d)):=by
 subst hm
 simp only[place,hg,eg,if_true]
theorem eA {H:List ba} {id m n off sz:Nat} {ag:Bool} {g:Nat→AV} {fl:Nat} {nl:Bool} (hg:H[id]? =some (.seq sz ag (cellsOf n g) fl nl)) (hm:m=n) (ho:off < n) {v:AV} (hv:v.cells=[v]) (h1:v.one=true):
 Ma H 1 (.Ac id m off) v=some (H.set id (.seq sz ag (cellsOf n (Su g off v)) n nl)):=by
 subst hm
 simp only[Ma,hv,List.length_cons,List.length_nil,List.all_cons,h1,List.all_nil,Bool.and_true,and_self,if_true,hg,eg]
 rw[if_pos ⟨trivial,by omega⟩]
 simp only[na,CA]
def lk:List (Int×Int)→List Int
 | []=>[]
 |p::l=>uf 0 p++lk l
theorem ZV (l:List (Int×Int)):l.flatMap (uf 0)=lk l:=by
 induction l with
 |nil=>rfl
 |cons p l ih=>rw[List.flatMap_cons,ih];rfl
theorem vJ {p:Int×Int} (h0:0≤p.1) (h1:p.1≤p.2):uf 0 p=(List.range (p.2 - p.1+1).toNat).map fun (i:Nat)=>p.1+(i:Int):=by
 unfold uf
 rw[if_neg (by omega),show max p.1 0=p.1 from by omega]
end Go.AM.B1
namespace Go.AM.B1
open Go.AM
end Go.AM.B1
namespace Go.AM.B1
open Go.AM
end Go.AM.B1
namespace Go.AM.B1
open Go.AM
abbrev u8 (n:Int):PV:= .int .u8 n
structure Zm (A:PV) (l:List (List xe)):Prop where
 held:∃ es,ri 1 A es∧es.length=l.length∧∀ (i:Nat) v e,es[i]? =some v→l[i]? =some e→ri 3 v (e.map FE)
 len:l.length * 24≤140737488355328
 lens:∀ e∈l,e.length * 24≤140737488355328
def fg (b:Int):List xe→Option Int
 | []=>none
 |e::r=>if e.lo≤b∧b≤e.hi then some e.to else fg b r
def Yk (l:List (List xe)) (st b:Int):Int×Bool:=
 if st < 0 then (0,false) else match l[st.toNat]? with
  |some e=>match fg b e with
   |some t=>(t,true)
   |none=>(0,false)
  |none=>(0,false)
section
variable (b:Int) (hb:0≤b∧b≤255)
include hb
variable (V:PV) (l:List xe) (hV:ri 3 V (l.map FE)) (hw:l.length≤maxLen)
include hV hw
end
theorem Zm.get {A:PV} {l:List (List xe)} (h:Zm A l) {i:Nat} (hi:i < l.length):∃ es V,A= .lit 1 es∧es.length=l.length∧es[i]? =some V∧ri 3 V (l[i].map FE):=by
 obtain⟨es,h1,h2,h3⟩:=h.held
 have hie:i < es.length:=by omega
 refine⟨es,es[i],h1.lit hie,h2,by simp[hie],h3 i _ _ (by simp[hie]) (by simp[hi])⟩
theorem Zm.Sb {A:PV} {l:List (List xe)} (h:Zm A l) (H:List ba):Sb H 0 (.pv A)=some l.length:=by
 obtain⟨es,h1,h2,h3⟩:=h.held
 rw[h1.len,h2]
section
variable (A:PV) (l:List (List xe)) (hA:Zm A l) (st b:Int) (hb:0≤b∧b≤255)
include hA hb
end
section
variable (call:Ua) (es:List PV) (st b:Int) (hb:0≤b∧b≤255) (e:List xe) (V:PV) (h0:0≤st∧st < es.length) (hV:es[st.toNat]? =some V) (hVL:ri 3 V (e.map FE)) (hw:e.length≤maxLen)
include h0 hV hVL
include hb hw
end
section
variable (A:PV) (l:List (List xe)) (hA:Zm A l) (st b:Int) (hb:0≤b∧b≤255)
include hA hb
end
end Go.AM.B1
namespace Go.AM.B1
open Go.AM
def Rp (oc:List Int) (to:Int):Int:=if 0≤to then oc.getD to.toNat 0 else to
theorem uv {oc row:List Int} {i:Nat}:∀ (xs:List Nat) (C:List Int) (p:Nat),p < C.length→
 (ud oc row i xs C)[p]? =if h:i * 256≤p∧p - i * 256∈xs∧p - i * 256 < row.length then (if 0≤row.getD (p - i * 256) 0 then some (Rp oc (row.getD (p - i * 256) 0)) else C[p]?) else C[p]?
 | [],C,p,hp=>by simp[ud]
 |x::xs,C,p,hp=>by
  rw[ud]
  have key:∀ C',C'.length=C.length→(p≠i * 256+x→C'[p]? =C[p]?)→(p=i * 256+x→C'[p]? =if x < row.length then (if 0≤row.getD x 0 then some (Rp oc (row.getD x 0)) else C[p]?) else C[p]?)→
   (ud oc row i xs C')[p]? =if h:i * 256≤p∧p - i * 256∈x::xs∧p - i * 256 < row.length then (if 0≤row.getD (p - i * 256) 0 then some (Rp oc (row.getD (p - i * 256) 0)) else C[p]?) else C[p]? :=by
   intro C' hl h1 h2
   rw[uv xs C' p (by omega)]
   by_cases hx:p=i * 256+x
   ·have e:p - i * 256=x:=by omega
    have h3:=h2 hx
    rw[e,h3]
    have hle:i * 256≤p:=by omega
    by_cases hr:x < row.length
    ·simp only[hle,hr,and_true,true_and,List.mem_cons,true_or,dite_true,if_true]
     by_cases h0:0≤row.getD x 0
     ·simp only[h0,if_true,ite_self,dite_eq_ite]
     ·simp only[h0,if_false,ite_self,dite_eq_ite]
    ·simp[hr]
   ·rw[h1 hx]
    have:(i * 256≤p∧p - i * 256∈xs∧p - i * 256 < row.length)=(i * 256≤p∧p - i * 256∈x::xs∧p - i * 256 < row.length):=by
     refine propext ⟨fun h=>⟨h.1,by simp[h.2.1],h.2.2⟩,fun h=>⟨h.1,?_,h.2.2⟩⟩
     rcases List.mem_cons.1 h.2.1 with h4 | h4
     ·omega
     ·exact h4
    simp only[this]
  cases hr:row[x]? with
  |none=>
   refine key _ rfl (fun _=>rfl) (fun hx=> ?_)
   have:¬x < row.length:=by
    intro h;rw[List.getElem?_eq_getElem h] at hr;cases hr
   rw[if_neg this]
  |some to=>
   have hx2:x < row.length:=(List.getElem?_eq_some_iff.1 hr).1
   have hto:row.getD x 0=to:=by rw[List.getD_eq_getElem?_getD,hr];rfl
   simp only
   by_cases h0:0≤to
   ·rw[if_pos h0]
    refine key _ (by simp) (fun hx=>by rw[List.getElem?_set_ne (by omega)]) (fun hx=> ?_)
    rw[if_pos hx2,hto,if_pos h0,hx,List.getElem?_set_self (by omega),Rp,if_pos h0]
   ·rw[if_neg h0]
    refine key _ rfl (fun _=>rfl) (fun hx=> ?_)
    rw[if_pos hx2,hto,if_neg h0]
theorem Jr {C:List Int} {i x:Nat} (hx:x < 256):(Ta C i)[x]? =C[i * 256+x]? :=by
 unfold Ta
 rw[List.getElem?_take_of_lt hx,List.getElem?_drop]
theorem ZI {n:Nat} {oc C:List Int} {i:Nat} (hC:C.length=n * 256) (hi:i < n):
 Ta (ud oc (Ta C i) i (List.range 256) C) i=(Ta C i).map (Rp oc):=by
 apply List.ext_getElem?
 intro x
 by_cases hx:x < 256
 ·rw[Jr hx,uv _ _ _ (by omega),List.getElem?_map]
  have e:i * 256+x - i * 256=x:=by omega
  have hl:=uh hC hi
  rw[e,dif_pos ⟨by omega,by simpa using hx,by omega⟩]
  have hg:(Ta C i)[x]? =some ((Ta C i).getD x 0):=by
   rw[List.getD_eq_getElem?_getD,List.getElem?_eq_getElem (by omega)];rfl
  have hg2:=hg
  rw[Jr hx] at hg2
  rw[hg2,hg]
  by_cases h0:0≤(Ta C i).getD x 0
  ·rw[if_pos h0];rfl
  ·rw[if_neg h0,Option.map_some,Rp,if_neg h0]
 ·rw[List.getElem?_eq_none,List.getElem?_eq_none]
  ·rw[List.length_map,uh hC hi];omega
  ·rw[uh (n:=n) (by rw[Yl,hC]) hi];omega
theorem uE {n:Nat} {oc row C:List Int} {i j:Nat} (hC:C.length=n * 256) (hj:j < n) (hij:j≠i) (hr:row.length=256):
 Ta (ud oc row i (List.range 256) C) j=Ta C j:=by
 apply List.ext_getElem?
 intro x
 by_cases hx:x < 256
 ·rw[Jr hx,Jr hx,uv _ _ _ (by omega)]
  rw[dif_neg]
  rintro⟨h1,h2,h3⟩
  omega
 ·rw[List.getElem?_eq_none,List.getElem?_eq_none]
  ·rw[uh hC hj];omega
  ·rw[uh (n:=n) (by rw[Yl,hC]) hj];omega
structure Sx (n:Nat) (C0:List Int) (i:Nat) (s:fJ):Prop where
 hC:s.C.length=n * 256
 hk:s.oc.length=n
 hi:∀ j,i≤j→j < n→Ta s.C j=(Ta C0 j).map (Rp s.oc)
 lo:∀ j,j < i→Ta s.C j=Ta C0 j
 look:∀ j,i≤j→j < n→Wj (Ta s.C j) s.M=some (s.oc.getD j 0)
 inj:∀ p∈s.M,∀ q∈s.M,p.2=q.2→p.1=q.1
 rep:∀ p∈s.M,(i:Int)≤p.2∧p.2 < n∧Ta s.C p.2.toNat=p.1
def LM (n:Nat) (C0:List Int):Prop:=∀ j,j < n→∀ to∈Ta C0 j,0≤to→(j:Int) < to∧to < n
theorem GP {oc:List Int} {i:Nat} {v to:Int} (h:0≤to→to.toNat≠i):Rp (oc.set i v) to=Rp oc to:=by
 unfold Rp
 split
 ·next h0=>rw[List.getD_eq_getElem?_getD,List.getD_eq_getElem?_getD,List.getElem?_set_ne (Ne.symm (h h0))]
 ·rfl
theorem yF {a:List Int} {M N:List (List Int×Int)}:Wj a (M++N)=(Wj a M).or (Wj a N):=by
 induction M with
 |nil=>simp[Wj]
 |cons p M ih=>
  rw[List.cons_append,Wj,Wj]
  split
  ·rfl
  ·exact ih
theorem Sx.step {n:Nat} {C0:List Int} (hlat:LM n C0) {i:Nat} {s:fJ} (hin:i < n) (h:Sx n C0 (i+1) s):Sx n C0 i (wk i s):=by
 have hrow:Ta s.C i=Ta C0 i:=h.lo i (by omega)
 have hrl:(Ta C0 i).length=256:=by rw[← hrow];exact uh h.hC hin
 have hC2:(ud s.oc (Ta s.C i) i (List.range 256) s.C).length=n * 256:=by rw[Yl,h.hC]
 have hr1:=ZI (oc:=s.oc) h.hC hin
 have hr2:∀ j,j < n→j≠i→Ta (ud s.oc (Ta s.C i) i (List.range 256) s.C) j=Ta s.C j:=fun j hj hji=>uE h.hC hj hji (by rw[hrow];exact hrl)
 have hl1:=@yr i s
 have hl2:=@gr i s
 generalize ud s.oc (Ta s.C i) i (List.range 256) s.C=C2 at *
 have hms:∀ v j,i≤j→j < n→(Ta C0 j).map (Rp (s.oc.set i v))=(Ta C0 j).map (Rp s.oc):=by
  intro v j hij hj
  apply List.map_congr_left
  intro to hto
  apply GP
  intro h0
  have:=hlat j hj to hto h0
  omega
 have main:∀ v M',Wj (Ta C2 i) M'=some v→(∀ j,i+1≤j→j < n→Wj (Ta C2 j) M'=Wj (Ta s.C j) s.M)→
  (∀ p∈M',∀ q∈M',p.2=q.2→p.1=q.1)→(∀ p∈M',(i:Int)≤p.2∧p.2 < n∧Ta C2 p.2.toNat=p.1)→Sx n C0 i ⟨C2,s.oc.set i v,M'⟩:=by
  intro v M' h1 h2 h3 h4
  refine⟨hC2,by simp[h.hk],?_,?_,?_,h3,h4⟩
  ·intro j hij hj
   show Ta C2 j=(Ta C0 j).map (Rp (s.oc.set i v))
   rw[hms v j hij hj]
   by_cases hji:j=i
   ·subst hji;rw[hr1,hrow]
   ·rw[hr2 j hj hji,h.hi j (by omega) hj]
  ·intro j hj
   show Ta C2 j=_
   rw[hr2 j (by omega) (by omega),h.lo j (by omega)]
  ·intro j hij hj
   show Wj (Ta C2 j) M'=some ((s.oc.set i v).getD j 0)
   by_cases hji:j=i
   ·subst hji
    rw[h1,List.getD_eq_getElem?_getD,List.getElem?_set_self (by rw[h.hk];exact hj)];rfl
   ·rw[h2 j (by omega) hj,h.look j (by omega) hj,List.getD_eq_getElem?_getD,List.getD_eq_getElem?_getD,List.getElem?_set_ne (Ne.symm hji)]
 cases hlk:Wj (Ta C2 i) s.M with
 |some v=>
  rw[hl1 hlk]
  refine main v s.M hlk (fun j h1 h2=>by rw[hr2 j h2 (by omega)]) h.inj ?_
  intro p hp
  obtain⟨h1,h2,h3⟩:=h.rep p hp
  exact⟨by omega,h2,by rw[hr2 _ (by omega) (by omega),h3]⟩
 |none=>
  rw[hl2 hlk]
  refine main i _ (by rw[yF,hlk];simp[Wj]) (fun j h1 h2=> ?_) ?_ ?_
  ·rw[hr2 j h2 (by omega),yF,h.look j h1 h2];rfl
  ·intro p hp q hq hpq
   rcases List.mem_append.1 hp with hp | hp <;> rcases List.mem_append.1 hq with hq | hq
   ·exact h.inj p hp q hq hpq
   ·simp at hq;subst hq
    have:=(h.rep p hp).1
    simp only at hpq;omega
   ·simp at hp;subst hp
    have:=(h.rep q hq).1
    simp only at hpq;omega
   ·simp at hp hq;subst hp hq;rfl
  ·intro p hp
   rcases List.mem_append.1 hp with hp | hp
   ·obtain⟨h1,h2,h3⟩:=h.rep p hp
    exact⟨by omega,h2,by rw[hr2 _ (by omega) (by omega),h3]⟩
   ·simp at hp;subst hp
    exact⟨by simp,by simp;omega,by simp⟩
theorem Sx.go {n:Nat} {C0:List Int} (hlat:LM n C0):∀ (k:Nat) (s:fJ),k≤n→Sx n C0 k s→Sx n C0 0 (nj k s)
 |0,s,_,h=>h
 |k+1,s,hk,h=>Sx.go hlat k _ (by omega) (h.step hlat (by omega))
theorem xQ {n:Nat} {C0:List Int} (hlat:LM n C0) (hC:C0.length=n * 256):Sx n C0 0 (Ge n C0):=by
 refine Sx.go hlat n _ (Nat.le_refl _) ⟨hC,by simp,fun j h1 h2=>by omega,fun j hj=>rfl,fun j h1 h2=>by omega,by simp,by simp⟩
theorem Sx.XJ {n:Nat} {C0:List Int} {s:fJ} (h:Sx n C0 0 s) {j k:Nat} (hj:j < n) (hk:k < n):s.oc.getD j 0=s.oc.getD k 0↔Ta s.C j=Ta s.C k:=by
 have h1:=h.look j (by omega) hj
 have h2:=h.look k (by omega) hk
 constructor
 ·intro e
  obtain⟨p,hp,e1,e2⟩:=Is h1
  obtain⟨q,hq,e3,e4⟩:=Is h2
  rw[← e1,←e3]
  exact h.inj p hp q hq (by rw[e2,e4,e])
 ·intro e
  rw[e,h2] at h1
  exact (Option.some.inj h1).symm
theorem Sx.En {n:Nat} {C0:List Int} {s:fJ} (h:Sx n C0 0 s) {j:Nat} (hj:j < n):0≤s.oc.getD j 0∧s.oc.getD j 0 < n∧Ta s.C (s.oc.getD j 0).toNat=Ta s.C j:=by
 obtain⟨p,hp,e1,e2⟩:=Is (h.look j (by omega) hj)
 obtain⟨h1,h2,h3⟩:=h.rep p hp
 rw[← e2,←e1]
 exact⟨by omega,h2,h3⟩
end Go.AM.B1
namespace Go.AM.B1
open Go.AM
theorem wu (b:Int):∀ (l m:List xe),fg b (l++m)=(fg b l).or (fg b m)
 | [],m=>by simp[fg]
 |e::l,m=>by
  rw[List.cons_append,fg,fg]
  split
  ·rfl
  ·exact wu b l m
theorem Qq {b:Int}:∀ {l:List xe},(∀ e∈l,e.hi < b)→fg b l=none
 | [],_=>rfl
 |e::l,h=>by
  have:=h e (by simp)
  rw[fg,if_neg (by omega)]
  exact Qq fun x hx=>h x (by simp[hx])
theorem VD {b:Int}:∀ {l:List xe},l.Pairwise (fun a c=>a.hi < c.lo)→∀ e∈l,e.lo≤b→b≤e.hi→fg b l=some e.to
 |a::l,h,e,he,h1,h2=>by
  rw[List.pairwise_cons] at h
  rw[fg]
  rcases List.mem_cons.1 he with rfl | he
  ·rw[if_pos ⟨h1,h2⟩]
  ·have:=h.1 e he
   rw[if_neg (by omega)]
   exact VD h.2 e he h1 h2
theorem Xv {b t:Int}:∀ {l:List xe},fg b l=some t→∃ e∈l,e.lo≤b∧b≤e.hi∧e.to=t
 |e::l,h=>by
  rw[fg] at h
  split at h
  ·next hc=>exact⟨e,by simp,hc.1,hc.2,Option.some.inj h⟩
  ·obtain⟨x,hx,h1⟩:=Xv h
   exact⟨x,by simp[hx],h1⟩
structure zI (row:List Int) (n:Nat) (l:List xe):Prop where
 nE:∀ e∈l,0≤e.lo∧e.lo≤e.hi∧e.hi < n∧e.to≠ -2
 ord:l.Pairwise (fun a b=>a.hi < b.lo)
 tight:∀ (k:Nat) a b,l[k]? =some a→l[k+1]? =some b→b.lo=a.hi+1→b.to≠a.to
 step:∀ x:Nat,x < n→fg x l=if row.getD x 0= -2 then none else some (row.getD x 0)
theorem gF {l:List xe} {e:xe} (h:l.getLast? =some e):∃ m,l=m++[e]:=by
 have hne:l≠[]:=by rintro rfl;simp at h
 rw[List.getLast?_eq_some_getLast hne] at h
 exact⟨l.dropLast,by rw[← Option.some.inj h];exact (List.dropLast_concat_getLast hne).symm⟩
theorem BJ {α:Type} {m:List α} {e a b:α} {k:Nat} (h1:(m++[e])[k]? =some a) (h2:(m++[e])[k+1]? =some b):m[k]? =some a∧((m[k+1]? =some b)∨(k+1=m.length∧b=e)):=by
 have hk:k+1 < (m++[e]).length:=(List.getElem?_eq_some_iff.1 h2).1
 simp at hk
 rw[List.getElem?_append_left (by omega)] at h1
 refine⟨h1,?_⟩
 rcases Nat.lt_or_ge (k+1) m.length with h | h
 ·rw[List.getElem?_append_left h] at h2;exact .inl h2
 ·have:k+1=m.length:=by omega
  rw[List.getElem?_append_right h,this] at h2
  simp at h2
  exact .inr ⟨this,h2.symm⟩
theorem zI.push {row:List Int} {n:Nat} {l:List xe} (h:zI row n l) {to:Int} (ht:row.getD n 0=to) (h2:to≠ -2) (hl:∀ e,l.getLast? =some e→¬(e.to=to∧e.hi=(n:Int) - 1)):zI row (n+1) (l++[⟨n,n,to⟩]):=by
 refine⟨?_,?_,?_,?_⟩
 ·intro e he
  rcases List.mem_append.1 he with he | he
  ·have:=h.nE e he;exact⟨this.1,this.2.1,by omega,this.2.2.2⟩
  ·simp at he;subst he;simp;exact⟨by omega,h2⟩
 ·rw[List.pairwise_append]
  refine⟨h.ord,by simp,?_⟩
  intro a ha b hb
  simp at hb;subst hb
  have:=h.nE a ha;simp;omega
 ·intro k a b h1 h3 h4
  obtain⟨h5,h6 | ⟨h6,rfl⟩⟩:=BJ h1 h3
  ·exact h.tight k a b h5 h6 h4
  ·have hla:l.getLast? =some a:=by rw[List.getLast?_eq_getElem?,←h5];congr 1;omega
   intro h7
   simp only at h4 h7
   exact hl a hla ⟨h7.symm,by omega⟩
 ·intro x hx
  rw[wu]
  rcases Nat.lt_or_ge x n with hxn | hxn
  ·rw[h.step x hxn]
   split
   ·simp only[Option.none_or,fg];rw[if_neg (by omega)]
   ·rfl
  ·have:x=n:=by omega
   subst this
   rw[Qq fun e he=>by have:=h.nE e he;omega,Option.none_or,fg,if_pos (by simp),ht,if_neg h2]
theorem zI.next {row:List Int} {n:Nat} {l:List xe} (h:zI row n l):zI row (n+1) (Bf n (row.getD n 0) l):=by
 obtain⟨to,ht⟩:∃ to,row.getD n 0=to:=⟨_,rfl⟩
 rw[ht]
 unfold Bf
 by_cases h2:to= -2
 ·rw[if_pos h2]
  refine⟨fun e he=>by have:=h.nE e he;exact⟨this.1,this.2.1,by omega,this.2.2.2⟩,h.ord,h.tight,?_⟩
  intro x hx
  rcases Nat.lt_or_ge x n with hxn | hxn
  ·exact h.step x hxn
  ·have:x=n:=by omega
   subst this
   rw[Qq fun e he=>by have:=h.nE e he;omega,ht,if_pos h2]
 ·rw[if_neg h2]
  cases hl:l.getLast? with
  |none=>exact h.push ht h2 fun e he=>by rw[hl] at he;cases he
  |some e=>
   by_cases hc:e.to=to∧e.hi=(n:Int) - 1
   ·simp only[hc,and_self,if_true]
    obtain⟨m,rfl⟩:=gF hl
    rw[List.dropLast_concat]
    have hr:=h.nE e (by simp)
    have ho:=List.pairwise_append.1 h.ord
    have hlt:∀ a∈m,a.hi < e.lo:=fun a ha=>ho.2.2 a ha e (by simp)
    refine⟨?_,?_,?_,?_⟩
    ·intro x hx
     rcases List.mem_append.1 hx with hx | hx
     ·have:=h.nE x (by simp[hx]);exact⟨this.1,this.2.1,by omega,this.2.2.2⟩
     ·simp at hx;subst hx;simp only;exact⟨hr.1,by omega,by omega,h2⟩
    ·rw[List.pairwise_append]
     refine⟨ho.1,by simp,?_⟩
     intro a ha b hb
     simp at hb;subst hb
     exact hlt a ha
    ·intro k a b h1 h3 h4
     obtain⟨h5,h6 | ⟨h6,rfl⟩⟩:=BJ h1 h3
     ·have hk1:=(List.getElem?_eq_some_iff.1 h6).1
      exact h.tight k a b (by rw[List.getElem?_append_left (by omega)];exact h5) (by rw[List.getElem?_append_left hk1];exact h6) h4
     ·have:=h.tight k a e (by rw[List.getElem?_append_left (by omega)];exact h5) (by rw[List.getElem?_append_right (by omega),h6];simp) h4
      rw[hc.1] at this;exact this
    ·intro x hx
     rw[wu]
     rcases Nat.lt_or_ge x n with hxn | hxn
     ·rw[← h.step x hxn,wu]
      congr 1
      simp only[fg,hc.1]
      by_cases h3:e.lo≤(x:Int)
      ·rw[if_pos ⟨h3,by omega⟩,if_pos ⟨h3,by omega⟩]
      ·rw[if_neg fun q=>h3 q.1,if_neg fun q=>h3 q.1]
     ·have:x=n:=by omega
      subst this
      rw[Qq fun a ha=>by have:=hlt a ha;omega,Option.none_or,fg]
      simp only
      rw[if_pos ⟨by omega,Int.le_refl _⟩,ht,if_neg h2]
   ·simp only[hc,if_false]
    exact h.push ht h2 fun e' he'=>by rw[hl] at he';injection he' with he';subst he';exact hc
theorem Ev (row:List Int):∀ (xs ys:List Nat) (l:List xe),je row (xs++ys) l=je row ys (je row xs l)
 | [],ys,l=>rfl
 |x::xs,ys,l=>by rw[List.cons_append,je,je,Ev row xs]
theorem fG (row:List Int):∀ n:Nat,zI row n (je row (List.range n) [])
 |0=>⟨by simp[je],by simp[je],by simp[je],by omega⟩
 |n+1=>by
  rw[List.range_succ,Ev]
  exact (fG row n).next
theorem zz (row:List Int):zI row 256 (Ff row):=fG row 256
def qA (m:Int) (l:List xe):Int:=l.foldl (fun m e=>if e.to=m then m+1 else m) m
theorem Nz (m:Int) (l:List xe) (e:xe):qA m (l++[e])=if e.to=qA m l then qA m l+1 else qA m l:=by
 unfold qA;rw[List.foldl_append];rfl
def Vw:Int→List xe→Prop
 |_,[]=>True
 |m,e::l=>e.to≤m∧Vw (if e.to=m then m+1 else m) l
theorem Yt:∀ {m:Int} {l:List xe} {e:xe},Vw m (l++[e])↔Vw m l∧e.to≤qA m l
 |m,[],e=>by simp[Vw,qA]
 |m,a::l,e=>by
  show (a.to≤m∧Vw _ (l++[e]))↔_
  rw[Yt];exact and_assoc.symm
theorem XF {row:List Int} {g:Nat→Int} (h0:∀ x,0≤g x):∀ n:Nat,(∀ x,x < n→row.getD x 0≤g x)→(∀ x,x < n→g (x+1)=if row.getD x 0=g x then g x+1 else g x)→
 qA (g 0) (je row (List.range n) [])=g n∧Vw (g 0) (je row (List.range n) [])∧(∀ e∈je row (List.range n) [],e.to < g n)
 |0,_,_=>⟨rfl,trivial,by simp[je]⟩
 |n+1,h1,h2=>by
  obtain⟨i1,i2,i3⟩:=XF h0 n (fun x hx=>h1 x (by omega)) (fun x hx=>h2 x (by omega))
  have hn:=h1 n (by omega)
  have hg:=h2 n (by omega)
  rw[List.range_succ,Ev]
  generalize je row (List.range n) []=l at *
  show qA (g 0) (Bf n (row.getD n 0) l)=_∧Vw (g 0) (Bf n (row.getD n 0) l)∧∀ e∈Bf n (row.getD n 0) l,_
  generalize row.getD n 0=to at *
  have hpush:qA (g 0) (l++[⟨n,n,to⟩])=g (n+1)∧Vw (g 0) (l++[⟨n,n,to⟩])∧(∀ e∈l++[⟨n,n,to⟩],e.to < g (n+1)):=by
   refine⟨by rw[Nz,i1,hg],Yt.2 ⟨i2,by rw[i1];exact hn⟩,?_⟩
   intro e he
   rcases List.mem_append.1 he with he | he
   ·have:=i3 e he;rw[hg];split <;> omega
   ·simp at he;subst he;simp only;rw[hg];split <;> omega
  unfold Bf
  by_cases h3:to= -2
  ·have:=h0 n
   rw[if_pos h3,hg,if_neg (by omega)]
   exact⟨i1,i2,i3⟩
  ·rw[if_neg h3]
   cases hl:l.getLast? with
   |none=>exact hpush
   |some e=>
    simp only
    split
    ·next hc=>
     obtain⟨m,rfl⟩:=gF hl
     have h4:=i3 e (by simp)
     rw[List.dropLast_concat,hg,if_neg (by omega)]
     rw[Nz] at i1
     rw[Yt] at i2
     refine⟨by rw[Nz];exact i1,Yt.2 i2,?_⟩
     intro x hx
     rcases List.mem_append.1 hx with hx | hx
     ·exact i3 x (by simp[hx])
     ·simp at hx;subst hx;exact h4
    ·exact hpush
end Go.AM.B1
namespace Go.AM.B1
open Go.AM Go.AM.So
def lu (g:Nat→Int) (e:xe):Nat→Int:=fun b=>if e.lo≤(b:Int)∧(b:Int)≤e.hi then e.to else g b
theorem YF {b:Nat}:∀ (l:List xe) (g:Nat→Int),l.Pairwise (fun a c=>a.hi < c.lo)→l.foldl lu g b=(fg (b:Int) l).getD (g b)
 | [],g,_=>rfl
 |e::l,g,h=>by
  rw[List.pairwise_cons] at h
  rw[List.foldl_cons,YF l _ h.2,fg]
  by_cases hc:e.lo≤(b:Int)∧(b:Int)≤e.hi
  ·rw[if_pos hc]
   have:fg (b:Int) l=none:=by
    cases hs:fg (b:Int) l with
    |none=>rfl
    |some t=>
     obtain⟨x,hx,h1,h2,_⟩:=Xv hs
     have:=h.1 x hx
     omega
   rw[this]
   show lu g e b=e.to
   unfold lu;rw[if_pos hc]
  ·rw[if_neg hc]
   have:lu g e b=g b:=by unfold lu;rw[if_neg hc]
   rw[this]
def gk (l:List xe) (b:Nat):Int:=(fg (b:Int) l).getD (-2)
structure ij (l:List xe):Prop where
 nE:∀ e∈l,0≤e.lo∧e.lo≤e.hi∧e.hi < 256∧ -1≤e.to∧e.to≤64
 ord:l.Pairwise (fun a b=>a.hi < b.lo)
def b8 (g:Nat→Int):ba:= .box (cellsOf 256 fun b=> .pv (.int .i8 (g b)))
theorem Sw {n:Nat} {g g':Nat→AV} (h:∀ b,b < n→g b=g' b):cellsOf n g=cellsOf n g':=by
 unfold cellsOf
 exact List.map_congr_left fun b hb=>h b (List.mem_range.1 hb)
theorem Sr {g g':Nat→Int} (h:∀ b,b < 256→g b=g' b):b8 g=b8 g':=by
 unfold b8;rw[Sw fun b hb=>by rw[h b hb]]
theorem FW (g:Nat→Int) (n:Nat):oa n (b8 g)=some (b8 g):=by
 have:=Mp n ((List.range 256).map fun b=>PV.int .i8 (g b))
 rw[List.map_map] at this
 exact this
theorem cg {H:List ba} {id:Nat} {c:List AV} (h:H[id]? =some (.box c)) (d o:Nat):place H d (.ptr id o)=some (.ptr id (o+d)):=by simp only[place,h]
theorem dK {H:List ba} {id:Nat} {g:Nat→Int} (h:H[id]? =some (b8 g)) (d:Nat):place H d (.ptr id 0)=some (.ptr id d):=by
 rw[cg h,Nat.zero_add]
theorem uI {H:List ba} {id i:Nat} {g:Nat→Int} (h:H[id]? =some (b8 g)) (hi:i < 256) (v:Int):Ma H 1 (.ptr id i) (.pv (.int .i8 v))=some (H.set id (b8 fun b=>if b=i then v else g b)):=by
 have e:cellsOf 256 (Su (fun b=>AV.pv (.int .i8 (g b))) i (.pv (.int .i8 v)))=cellsOf 256 (fun b=> .pv (.int .i8 (if b=i then v else g b))):=by
  refine Sw fun b _=> ?_
  unfold Su;split <;> rfl
 simp only[Ma,AV.cells,PV.cells,List.map_cons,List.map_nil,List.length_cons,List.length_nil,List.all_cons,AV.one,List.all_nil,Bool.and_self,and_self,if_true,h,b8,eg]
 rw[if_pos (by omega)]
 simp only[na,CA,e]
theorem gV {n:Int} (h0: -128≤n) (h1:n≤127):IntKind.i8.wrap n=n:=by
 unfold IntKind.wrap
 simp[IntKind.signed,IntKind.bits]
 omega
section
variable {call:Ua} {A:List ba} (hA:xg A)
include hA
theorem Ry (g:Nat→Int) {n:Nat} (hn:A.length≤n):∀ o∈A++[b8 g],oa n o=some o:=by
 intro o ho
 rcases List.mem_append.1 ho with h | h
 ·exact hA n hn o h
 ·rw[List.mem_singleton] at h;subst h;exact FW g n
theorem uS {E:Tr} {tb:Nat} {L S:PV} {x y:PV} {g0:Nat→Int} (htb:tb < A.length) (h8:E.get 8= .ptr tb 0) (h12:E.get 12= .pv L) (h13:E.get 13= .ptr A.length 0) (h101:E.get 101= .pv S) (h102:E.get 102= .pv x) (h103:E.get 103= .pv y) (h108:E.get 108= .pv (i64 0)):
 Ld (fun r=>r.1.stop=true∧∃ E',r=(.exit 4,⟨E',A++[b8 fun _=> -2]⟩)∧∀ t∈[8,12,13,101,102,103],E'.get t=E.get t)
  (pa call (.loop [8,12,13,101,102,103,108] oj) ⟨E,A++[b8 g0]⟩):=by
 have hcut:∀ t∈[8,12,13,101,102,103],(E.get t).cut (A.length+1) deep=some (E.get t):=by
  intro t ht
  simp only[List.mem_cons,List.not_mem_nil,or_false] at ht
  rcases ht with rfl | rfl | rfl | rfl | rfl | rfl <;> simp only[h8,h12,h13,h101,h102,h103,Ja] <;> exact vt (by omega)
 refine pn (fun i t=>(∀ u∈[8,12,13,101,102,103],t.env.get u=E.get u)∧t.env.get 108= .pv (i64 i)∧t.H=A++[b8 fun b=>if b < i then -2 else g0 b]) 256 (by unfold qa;omega) ?_ ?_ ?_
 ·refine Ig.all rfl (by rw[List.length_append];exact Ry hA g0 (by simp)) ?_ fun E' hE=>⟨fun u hu=>hE u (by simp at hu ⊢;omega),by rw[hE 108 (by simp),h108];rfl,by simp⟩
  intro t ht
  rw[List.length_append]
  by_cases h:t=108
  ·subst h;rw[h108,Ja]
  ·exact hcut t (by simp at ht ⊢;omega)
 ·rintro i ⟨E1,H1⟩ hi ⟨k1,k2,k3⟩
  simp only at k1 k2 k3
  subst k3
  have g13:=k1 13 (by simp)
  rw[h13] at g13
  have e1:decide ((i:Int) < 256)=true:=Fa (by omega)
  have t1:IntKind.i64.wrap ((i:Int)+1)=((i+1:Nat):Int):=Wk (by omega)
  have hg:=uj A (b8 fun b=>if b < i then -2 else g0 b)
  have p1:=dK hg i
  have s1:=uI hg hi (-2)
  rw[gn] at s1
  have hid:(i < 256)=True:=eq_true hi
  have hc:b8 (fun b=>if b=i then -2 else if b < i then -2 else g0 b)=b8 (fun b=>if b < i+1 then -2 else g0 b):=Sr fun b _=>by
   by_cases h1:b=i
   ·rw[if_pos h1,if_pos (by omega)]
   ·rw[if_neg h1]
    by_cases h2:b < i
    ·rw[if_pos h2,if_pos (by omega)]
    ·rw[if_neg h2,if_neg (by omega)]
  rw[hc] at s1
  generalize hQ:RQ _ _ _ _=Q
  simp -implicitDefEqProofs only[SX,sevalprocAttr,oj,k2,g13,e1,t1,hid,p1,s1]
  subst hQ
  rw[Cl]
  refine Ig.all (by simp) (by rw[List.length_append];exact Ry hA _ (by simp)) ?_ fun E' hE=>⟨fun u hu=> ?_,?_,rfl⟩
  ·intro t ht
   rw[List.length_append]
   by_cases h:t=108
   ·subst h;simp[Tr.aa,Ja]
   ·have hm:t∈[8,12,13,101,102,103]:=by simp at ht ⊢;omega
    have:=k1 t hm
    have h2:=hcut t hm
    simp only[List.mem_cons,List.not_mem_nil,or_false] at hm
    rcases hm with rfl | rfl | rfl | rfl | rfl | rfl <;> simp only[Tr.aa] <;> simp only[this] <;> simpa using h2
  ·rw[hE u (by simp at hu ⊢;omega),←k1 u hu]
   simp only[List.mem_cons,List.not_mem_nil,or_false] at hu
   rcases hu with rfl | rfl | rfl | rfl | rfl | rfl <;> simp[Tr.aa]
  ·rw[hE 108 (by simp)];simp[Tr.aa]
 ·rintro⟨E1,H1⟩ ⟨k1,k2,k3⟩
  simp only at k1 k2 k3
  subst k3
  have e1:decide (((256:Nat):Int) < 256)=false:=Ka (by omega)
  generalize hQ:(fun r:Ex×St=>r.1.stop=true∧_)=Q
  simp -implicitDefEqProofs only[SX,sevalprocAttr,oj,k2,e1]
  subst hQ
  rw[Sr (g':=fun _=> -2) fun b hb=>if_pos hb]
  refine⟨rfl,_,rfl,fun t ht=> ?_⟩
  ·rw[← k1 t ht]
   simp only[List.mem_cons,List.not_mem_nil,or_false] at ht
   rcases ht with rfl | rfl | rfl | rfl | rfl | rfl <;> simp[Tr.aa]
def qz (e:xe):ba:= .box [.pv (i64 e.lo),.pv (i64 e.hi),.pv (i64 e.to)]
omit hA in
theorem gW (e:xe) (n:Nat):oa n (qz e)=some (qz e):=Mp n [i64 e.lo,i64 e.hi,i64 e.to]
theorem ZU {E:Tr} {tb:Nat} {L S:PV} {x y u v:PV} {g0:Nat→Int} {e:xe} (he:0≤e.lo∧e.lo≤e.hi∧e.hi < 256∧ -1≤e.to∧e.to≤64) (htb:tb < A.length) (h8:E.get 8= .ptr tb 0) (h13:E.get 13= .ptr A.length 0) (h16:E.get 16= .ptr (A.length+1) 0) (h17:E.get 17= .pv (i64 e.lo))
 (h101:E.get 101= .pv S) (h102:E.get 102= .pv x) (h103:E.get 103= .pv y) (h114:E.get 114= .pv L) (h115:E.get 115= .pv u) (h116:E.get 116= .pv v):
 Ld (fun r=>r.1.stop=true∧∃ E',r=(.exit 8,⟨E',(A++[b8 (lu g0 e)])++[qz e]⟩)∧∀ t∈[8,13,101,102,103,114,115,116],E'.get t=E.get t)
  (pa call (.loop [8,13,16,17,101,102,103,114,115,116] qj) ⟨E,(A++[b8 g0])++[qz e]⟩):=by
 have hcut:∀ t∈[8,13,16,101,102,103,114,115,116],(E.get t).cut (A.length+2) deep=some (E.get t):=by
  intro t ht
  simp only[List.mem_cons,List.not_mem_nil,or_false] at ht
  rcases ht with rfl | rfl | rfl | rfl | rfl | rfl | rfl | rfl | rfl <;> simp only[h8,h13,h16,h101,h102,h103,h114,h115,h116,Ja] <;> exact vt (by omega)
 have hgood:∀ g,∀ o∈(A++[b8 g])++[qz e],oa (A.length+2) o=some o:=by
  intro g o ho
  rcases List.mem_append.1 ho with h | h
  ·exact Ry hA g (by omega) o h
  ·rw[List.mem_singleton] at h;subst h;exact gW e _
 have hlen:∀ g,((A++[b8 g])++[qz e]).length=A.length+2:=fun g=>by simp
 refine pn (fun i t=>(∀ u∈[8,13,16,101,102,103,114,115,116],t.env.get u=E.get u)∧t.env.get 17= .pv (i64 (e.lo+i))∧t.H=(A++[b8 fun b=>if e.lo≤(b:Int)∧(b:Int) < e.lo+i then e.to else g0 b])++[qz e]) (e.hi - e.lo+1).toNat (by unfold qa;omega) ?_ ?_ ?_
 ·refine Ig.all rfl (by rw[hlen];exact hgood g0) ?_ fun E' hE=>⟨fun u hu=>hE u (by simp at hu ⊢;omega),by rw[hE 17 (by simp),h17];simp,?_⟩
  ·intro t ht
   rw[hlen]
   by_cases h:t=17
   ·subst h;rw[h17,Ja]
   ·exact hcut t (by simp at ht ⊢;omega)
  ·show _=_
   rw[Sr (g:=fun b=>if e.lo≤(b:Int)∧(b:Int) < e.lo+((0:Nat):Int) then e.to else g0 b) (g':=g0) fun b _=>if_neg (by omega)]
 ·rintro i ⟨E1,H1⟩ hi ⟨k1,k2,k3⟩
  simp only at k1 k2 k3
  subst k3
  have g13:=k1 13 (by simp)
  rw[h13] at g13
  have g16:=k1 16 (by simp)
  rw[h16] at g16
  have e1:decide (e.lo+(i:Int)≤e.hi)=true:=Fa (by omega)
  have t1:IntKind.i64.wrap (e.lo+(i:Int)+1)=e.lo+((i+1:Nat):Int):=by rw[Da (by omega)];omega
  have t2:IntKind.i8.wrap e.to=e.to:=gV (by omega) (by omega)
  generalize hgi:(fun b:Nat=>if e.lo≤(b:Int)∧(b:Int) < e.lo+i then e.to else g0 b)=gi
  have hg:((A++[b8 gi])++[qz e])[A.length]? =some (b8 gi):=by rw[List.getElem?_append_left (by simp)];exact uj _ _
  have hg2:((A++[b8 gi])++[qz e])[A.length+1]? =some (qz e):=by
   have:=uj (A++[b8 gi]) (qz e)
   rw[List.length_append] at this;exact this
  have p1:=dK hg (e.lo+(i:Int)).toNat
  have p2:=fun d=>cg hg2 d 0
  have l1:ya ((A++[b8 gi])++[qz e]) false 1 (.ptr (A.length+1) 1)=some (.pv (i64 e.hi)):=by simp only[ya,hg2];rfl
  have l2:ya ((A++[b8 gi])++[qz e]) false 1 (.ptr (A.length+1) 2)=some (.pv (i64 e.to)):=by simp only[ya,hg2];rfl
  have s1:=uI hg (i:=(e.lo+(i:Int)).toNat) (by omega) e.to
  have hset:((A++[b8 gi])++[qz e]).set A.length (b8 fun b=>if b=(e.lo+(i:Int)).toNat then e.to else gi b)=(A++[b8 fun b=>if e.lo≤(b:Int)∧(b:Int) < e.lo+((i+1:Nat):Int) then e.to else g0 b])++[qz e]:=by
   rw[List.set_append_left _ _ (by simp),gn]
   congr 3
   refine Sr fun b _=> ?_
   subst hgi
   by_cases h1:b=(e.lo+(i:Int)).toNat
   ·rw[if_pos h1,if_pos (by omega)]
   ·rw[if_neg h1]
    dsimp only
    by_cases h2:e.lo≤(b:Int)∧(b:Int) < e.lo+i
    ·rw[if_pos h2,if_pos (by omega)]
    ·rw[if_neg h2,if_neg (by omega)]
  rw[hset] at s1
  have hid:(0≤e.lo+(i:Int)∧e.lo+(i:Int) < ((256:Nat):Int))=True:=eq_true (by omega)
  generalize (A++[b8 gi])++[qz e]=HH at *
  generalize hQ:RQ _ _ _ _=Q
  simp -implicitDefEqProofs only[SX,sevalprocAttr,qj,k2,g13,g16,e1,t1,t2,hid,p1,p2,l1,l2,s1]
  subst hQ
  rw[Cl]
  refine Ig.all (by simp) (by rw[hlen];exact hgood _) ?_ fun E' hE=>⟨fun u hu=> ?_,?_,rfl⟩
  ·intro t ht
   rw[hlen]
   by_cases h:t=17
   ·subst h;simp[Tr.aa,Ja]
   ·have hm:t∈[8,13,16,101,102,103,114,115,116]:=by simp at ht ⊢;omega
    have:=k1 t hm
    have h2:=hcut t hm
    simp only[List.mem_cons,List.not_mem_nil,or_false] at hm
    rcases hm with rfl | rfl | rfl | rfl | rfl | rfl | rfl | rfl | rfl <;> simp only[Tr.aa] <;> simp only[this] <;> simpa using h2
  ·rw[hE u (by simp at hu ⊢;omega),←k1 u hu]
   simp only[List.mem_cons,List.not_mem_nil,or_false] at hu
   rcases hu with rfl | rfl | rfl | rfl | rfl | rfl | rfl | rfl | rfl <;> simp[Tr.aa]
  ·rw[hE 17 (by simp)];simp[Tr.aa]
 ·rintro⟨E1,H1⟩ ⟨k1,k2,k3⟩
  simp only at k1 k2 k3
  subst k3
  have g16:=k1 16 (by simp)
  rw[h16] at g16
  rw[show e.lo+((e.hi - e.lo+1).toNat:Int)=e.hi+1 by omega] at k2
  have e1:decide (e.hi+1≤e.hi)=false:=Ka (by omega)
  have hb:b8 (fun b:Nat=>if e.lo≤(b:Int)∧(b:Int) < e.lo+((e.hi - e.lo+1).toNat:Int) then e.to else g0 b)=b8 (lu g0 e):=Sr fun b _=>by
   unfold lu
   by_cases h:e.lo≤(b:Int)∧(b:Int)≤e.hi
   ·rw[if_pos h,if_pos (by omega)]
   ·rw[if_neg h,if_neg (by omega)]
  rw[hb]
  have hg2:((A++[b8 (lu g0 e)])++[qz e])[A.length+1]? =some (qz e):=by
   have:=uj (A++[b8 (lu g0 e)]) (qz e)
   rw[List.length_append] at this;exact this
  have p2:=fun d=>cg hg2 d 0
  have l1:ya ((A++[b8 (lu g0 e)])++[qz e]) false 1 (.ptr (A.length+1) 1)=some (.pv (i64 e.hi)):=by simp only[ya,hg2];rfl
  generalize (A++[b8 (lu g0 e)])++[qz e]=HH at *
  generalize hQ:(fun r:Ex×St=>r.1.stop=true∧_)=Q
  simp -implicitDefEqProofs only[SX,sevalprocAttr,qj,k2,g16,e1,p2,l1]
  subst hQ
  refine⟨rfl,_,rfl,fun t ht=> ?_⟩
  ·rw[← k1 t (by simp at ht ⊢;omega)]
   simp only[List.mem_cons,List.not_mem_nil,or_false] at ht
   rcases ht with rfl | rfl | rfl | rfl | rfl | rfl | rfl | rfl <;> simp[Tr.aa]
end
end Go.AM.B1
namespace Go.AM.B1
open Go.AM Go.AM.So
section
variable {call:Ua} {A:List ba} (hA:xg A)
include hA
theorem aU {E:Tr} {tb:Nat} {L S:PV} {x y:PV} {es:List xe} (Ba:ij es) (hL:ri 3 L (es.map FE)) (hlen:es.length≤256) (htb:tb < A.length) (h8:E.get 8= .ptr tb 0) (h13:E.get 13= .ptr A.length 0)
 (h101:E.get 101= .pv S) (h102:E.get 102= .pv x) (h103:E.get 103= .pv y) (h114:E.get 114= .pv L) (h115:E.get 115= .pv (i64 es.length)) (h116:E.get 116= .pv (i64 0)):
 Ld (fun r=>r.1.stop=true∧∃ E',r=(.exit 6,⟨E',A++[b8 (gk es)]⟩)∧∀ t∈[8,13,101,102,103],E'.get t=E.get t)
  (pa call (.loop [8,13,101,102,103,114,115,116] tj) ⟨E,A++[b8 fun _=> -2]⟩):=by
 have hcut:Fit (A.length+1) [8,13,101,102,103,114,115] E:=
  .cons h8 (vt (by omega)) (.cons h13 (vt (by omega)) (.cons h101 Ja (.cons h102 Ja (.cons h103 Ja (.cons h114 Ja (.cons h115 Ja (.nil _ _)))))))
 refine pn (fun i t=>Nd [8,13,101,102,103,114,115] E t.env∧t.env.get 116= .pv (i64 i)∧t.H=A++[b8 ((es.take i).foldl lu fun _=> -2)]) es.length (by unfold qa;omega) ?_ ?_ ?_
 ·rw[List.length_append]
  exact Ig.all (by simp) (Ry hA _ (by simp)) (Fit.sub (.cons h116 Ja hcut) rfl) fun E' hE=>⟨Nd.sub hE rfl,by rw[hE 116 (by simp),h116];rfl,rfl⟩
 ·rintro i ⟨E1,H1⟩ hi ⟨k1,k2,k3⟩
  simp only at k1 k2 k3
  subst k3
  have g8:=k1 8 (by simp)
  rw[h8] at g8
  have g13:=k1 13 (by simp)
  rw[h13] at g13
  have g101:=k1 101 (by simp)
  rw[h101] at g101
  have g102:=k1 102 (by simp)
  rw[h102] at g102
  have g103:=k1 103 (by simp)
  rw[h103] at g103
  have g114:=k1 114 (by simp)
  rw[h114] at g114
  have g115:=k1 115 (by simp)
  rw[h115] at g115
  have hle:=hL.lit (i:=i) (by simpa using hi)
  have hea:=Ba.nE es[i] (List.getElem_mem hi)
  have htk:(es.take (i+1)).foldl lu (fun _=> -2)=lu ((es.take i).foldl lu fun _=> -2) es[i]:=by
   rw[List.take_succ_eq_append_getElem hi,List.foldl_append];rfl
  have a1:wa (A++[b8 ((es.take i).foldl lu fun _=> -2)]) 3 (.pv L) (i:Int)=some (.pv (.rp [i64 es[i].lo,i64 es[i].hi,i64 es[i].to] 0)):=by
   rw[hle]
   simp only[wa]
   rw[if_pos ⟨trivial,by unfold Ga;rw[List.length_map];omega⟩,Int.toNat_natCast,List.getElem?_map,List.getElem?_eq_getElem hi];rfl
  rw[htk]
  generalize (es.take i).foldl lu (fun _=> -2)=g0 at *
  generalize es[i]=e at *
  have e1:decide ((i:Int) < (es.length:Int))=true:=Fa (by omega)
  have t1:IntKind.i64.wrap ((i:Int)+1)=((i+1:Nat):Int):=Wk (by omega)
  have r3:∀ H (x y z:PV),ya H true 3 (.pv (.rp [x,y,z] 0))=some (.pv (.agg [x,y,z])):=fun H x y z=>rfl
  have hln:(A++[b8 g0]).length=A.length+1:=by simp
  have s1:Ma ((A++[b8 g0])++[.box [.pv (i64 0),.pv (i64 0),.pv (i64 0)]]) 3 (.ptr (A.length+1) 0) (.pv (.agg [i64 e.lo,i64 e.hi,i64 e.to]))=some ((A++[b8 g0])++[qz e]):=by
   have:=gn (A++[b8 g0]) (.box [.pv (i64 0),.pv (i64 0),.pv (i64 0)]) (qz e)
   have hg:=uj (A++[b8 g0]) (.box [.pv (i64 0),.pv (i64 0),.pv (i64 0)])
   rw[hln] at this hg
   simp only[Ma,hg]
   rw[if_pos (by simp[AV.cells,PV.cells,AV.one]),if_pos (by simp)]
   rw[← this];rfl
  have hg2:((A++[b8 g0])++[qz e])[A.length+1]? =some (qz e):=by
   have:=uj (A++[b8 g0]) (qz e)
   rw[hln] at this;exact this
  have p2:=fun d=>cg hg2 d 0
  have l0:ya ((A++[b8 g0])++[qz e]) false 1 (.ptr (A.length+1) 0)=some (.pv (i64 e.lo)):=by simp only[ya,hg2];rfl
  have hed:=fun (E2:Tr) (q8:E2.get 8= .ptr tb 0) (q13:E2.get 13= .ptr A.length 0) (q16:E2.get 16= .ptr (A.length+1) 0) (q17:E2.get 17= .pv (i64 e.lo)) (q101:E2.get 101= .pv S) (q102:E2.get 102= .pv x) (q103:E2.get 103= .pv y) (q114:E2.get 114= .pv L) (q115:E2.get 115= .pv (i64 es.length)) (q116:E2.get 116= .pv (i64 i))=>
   ZU (call:=call) hA (g0:=g0) hea htb q8 q13 q16 q17 q101 q102 q103 q114 q115 q116
  generalize hHH:(A++[b8 g0])++[qz e]=HH at *
  generalize hHK:(A++[b8 g0])++[ba.box [.pv (i64 0),.pv (i64 0),.pv (i64 0)]]=HK at *
  generalize hQ:RQ _ _ _ _=Q
  simp -implicitDefEqProofs only[SX,sevalprocAttr,tj,k2,g114,g115,e1,a1,r3,hln,hHK,s1,p2,l0]
  generalize hEE:(Tr.set _ 17 _:Tr)=E2
  have q8:E2.get 8= .ptr tb 0:=by rw[← hEE];simp[Tr.aa,g8]
  have q13:E2.get 13= .ptr A.length 0:=by rw[← hEE];simp[Tr.aa,g13]
  have q16:E2.get 16= .ptr (A.length+1) 0:=by rw[← hEE];simp[Tr.aa]
  have q17:E2.get 17= .pv (i64 e.lo):=by rw[← hEE];simp[Tr.aa]
  have q101:E2.get 101= .pv S:=by rw[← hEE];simp[Tr.aa,g101]
  have q102:E2.get 102= .pv x:=by rw[← hEE];simp[Tr.aa,g102]
  have q103:E2.get 103= .pv y:=by rw[← hEE];simp[Tr.aa,g103]
  have q114:E2.get 114= .pv L:=by rw[← hEE];simp[Tr.aa,g114]
  have q115:E2.get 115= .pv (i64 es.length):=by rw[← hEE];simp[Tr.aa,g115]
  have q116:E2.get 116= .pv (i64 i):=by rw[← hEE];simp[Tr.aa,k2]
  refine za (hed E2 q8 q13 q16 q17 q101 q102 q103 q114 q115 q116) ?_
  rintro r ⟨_,E3,rfl,hE3⟩
  have z116:=hE3 116 (by simp)
  rw[q116] at z116
  have kE:Nd [8,13,101,102,103,114,115] E E3:=by
   refine Nd.trans ?_ (Nd.sub hE3 rfl)
   rw[← hEE]
   repeat refine Nd.set ?_ rfl
   exact k1
  simp -implicitDefEqProofs only[SX,sevalprocAttr,z116,t1]
  subst hQ
  rw[Cl]
  have kF:∀ v w,Nd [8,13,101,102,103,114,115] E ((E3.set 133 v).set 116 w):=fun v w=>Nd.set (Nd.set kE rfl) rfl
  rw[List.length_append]
  exact Ig.front (by simp) (Ry hA _ (by simp)) (Fit.sub (.cons (t:=116) (by rw[Tr.aa,if_pos rfl]) Ja (hcut.ze (kF _ _))) rfl) fun E' hE=>⟨(kF _ _).trans (Nd.sub hE rfl),by rw[hE 116 (by simp),Tr.aa,if_pos rfl],rfl⟩
 ·rintro⟨E1,H1⟩ ⟨k1,k2,k3⟩
  simp only at k1 k2 k3
  subst k3
  have g115:=k1 115 (by simp)
  rw[h115] at g115
  have e1:decide ((es.length:Int) < (es.length:Int))=false:=Ka (by omega)
  rw[List.take_length,Sr (g:=es.foldl lu fun _=> -2) (g':=gk es) fun b _=>YF es _ Ba.ord]
  generalize hQ:(fun r:Ex×St=>r.1.stop=true∧_)=Q
  simp -implicitDefEqProofs only[SX,sevalprocAttr,tj,k2,g115,e1]
  subst hQ
  exact⟨rfl,_,rfl,Nd.set (Nd.sub k1 rfl) rfl⟩
end
end Go.AM.B1
