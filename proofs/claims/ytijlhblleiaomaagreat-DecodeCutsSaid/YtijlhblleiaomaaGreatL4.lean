/- What functions of the program compute. -/
import Derived.Test.YtijlhblleiaomaaGreatL3
import Derived.Test.YtijlhblleiaomaaGreatL2
set_option linter.unusedVariables false
set_option linter.unusedSimpArgs false
namespace Go.AM.B1
open Go.AM Go.AM.So
structure Be(s:Ob):Prop where
 lo:1<=s.parts.length
 hi:s.parts.length<=8
 f0:0<=s.first
 f1:s.first<=1073741823
 parts:∀ l∈s.parts,Hd l
 last:zi s<=1073741823
def vo(s t:Ob):Prop:=∀ x,¬((s.first<=x/\x<=zi s)/\(t.first<=x/\x<=zi t))
structure Xb(ss:List Ob):Prop where
 len:ss.length<=32
 ft:∀ s∈ss,Be s
 apart:ss.Pairwise vo
theorem Be.By{s:Ob}(h:Be s):s.first<=zi s:=by
 have:=(yn s.parts 1 h.parts (by omega) (by omega)).1
 unfold zi;omega
structure S4(ss:List Ob)(i:Nat)(v:PV)(u:List (Int×Int)):Prop where
 is:Zh 2 v (ae u)
 val:Pa TA (-2) u=true
 len:u.length<=i
 mem:∀ x,Qk x u↔∃ s∈ss.take i,s.first<=x/\x<=zi s
 ft:∀ s∈ss.take i,Be s
 apart:(ss.take i).Pairwise vo
abbrev Vs(S v:PV)(len i:Int):Tr:=(((Tr.lf.set 14 (.pv (i64 i))).set 13 (.pv (i64 len))).set 12 (.pv S)).set 3 (.pv v)
theorem Ep(x y u v:AV)(hu:u.one=true)(hv:v.one=true)(A:List ba)(e:PV)(he:(AV.pv e).cells=[u,v]):Ha (A++[.box [x,y]]) 2 (.ptr A.length 0) (.pv e)=some (A++[.box [u,v]]):=by
 simp only[Ha,he,Gk,Vp,Raa,Dab,List.all,hu,hv];simp[fa]
section
variable {S:PV}{ss:List Ob}{es:List PV}(hS:qb S ss es)(hl:ss.length<=32)
include hS hl
omit hl in
theorem CE{i:Nat}(hi:i < ss.length)(v:PV)(A9:¬Be ss[i]):
 ∃ E H,ma (oa (Da bc 8) Mb) (na 0 [3,12,13,14]) ⟨Vs S v ss.length i,[]⟩=some (.ret,⟨E,H⟩)/\E.get 2= .pv (.bool false):=by
 obtain⟨e,P,ps,he,hSl,hsh⟩:=hS.get hi
 obtain⟨rfl,hP⟩:=hsh;generalize hs:ss[i]=s at *;have hq:i < es.length:=by rw[hS.len];exact hi
 have e1:decide ((i:Int) < (ss.length:Int))=true:=Ea (by omega);have a1:ta [] 2 (.pv S) (i:Int)=some (.pv (.rp [P,i64 s.first] 0)):=by rw[hSl];simp only[ta];rw[if_pos (by unfold Ia;simp;omega),Eaa,he];rfl
 have a2:pa [] true 2 (.pv (.rp [P,i64 s.first] 0))=some (.pv (.agg [P,i64 s.first])):=rfl;have E8:(AV.pv P).one=true:=by rcases hP.is with⟨h,_⟩ | h <;> rw[h] <;> rfl
 have s1:Ha [.box [.pv .ga,.pv (i64 0)]] 2 (.ptr 0 0) (.pv (.agg [P,i64 s.first]))=some [.box [.pv P,.pv (i64 s.first)]]:=Ep _ _ _ _ E8 rfl [] _ rfl;have p0:place [.box [.pv P,.pv (i64 s.first)]] 0 (.ptr 0 0)=some (.ptr 0 0):=rfl;have p1:place [.box [.pv P,.pv (i64 s.first)]] 1 (.ptr 0 0)=some (.ptr 0 1):=rfl;have l0:pa [.box [.pv P,.pv (i64 s.first)]] false 1 (.ptr 0 0)=some (.pv P):=rfl;have l1:pa [.box [.pv P,.pv (i64 s.first)]] false 1 (.ptr 0 1)=some (.pv (i64 s.first)):=rfl;have l2:pa [.box [.pv P,.pv (i64 s.first)]] true 2 (.ptr 0 0)=some (.pv (.agg [P,i64 s.first])):=rfl;have hg:Vd [.box [.pv P,.pv (i64 s.first)]]:=by intro n _ o ho;simp at ho;subst ho;simp[qa,Ra,Qa]
 have hct:=JB hP 5 [.box [.pv P,.pv (i64 s.first)]] hg;have h6:bc 6=some Kb:=rfl;have lA:=hP.Tb
 have key:qd (fun r=>∃ E H,r=(.ret,⟨E,H⟩)/\E.get 2= .pv (.bool false)) (ma (oa (Da bc 8) Mb) (na 0 [3,12,13,14]) ⟨Vs S v ss.length i,[]⟩):=by
  generalize hQ:(fun r:Ex×St=>_)=Q
  by_cases c1:s.parts.length < 1
  ·have d1:decide ((s.parts.length:Int) < 1)=true:=Ea (by omega)
   simp -implicitDefEqProofs only[SX,sevalprocAttr,Mb,e1,a1,a2,s1,p0,p1,l0,l1,lA,d1,Vs];subst hQ;exact⟨_,_,rfl,by simp[Tr.aa]⟩
  have d1:decide ((s.parts.length:Int) < 1)=false:=Ga (by omega)
  by_cases c2:s.parts.length > 8
  ·have d2:decide ((s.parts.length:Int) > 8)=true:=Ea (by omega)
   simp -implicitDefEqProofs only[SX,sevalprocAttr,Mb,e1,a1,a2,s1,p0,p1,l0,l1,lA,d1,d2,Vs];subst hQ;exact⟨_,_,rfl,by simp[Tr.aa]⟩
  have d2:decide ((s.parts.length:Int) > 8)=false:=Ga (by omega)
  by_cases c3:s.first < 0
  ·have d3:decide (s.first < 0)=true:=Ea c3
   simp -implicitDefEqProofs only[SX,sevalprocAttr,Mb,e1,a1,a2,s1,p0,p1,l0,l1,lA,d1,d2,d3,Vs];subst hQ;exact⟨_,_,rfl,by simp[Tr.aa]⟩
  have d3:decide (s.first < 0)=false:=Ga c3
  by_cases c4:s.first > 1073741823
  ·have d4:decide (s.first > 1073741823)=true:=Ea c4
   simp -implicitDefEqProofs only[SX,sevalprocAttr,Mb,e1,a1,a2,s1,p0,p1,l0,l1,lA,d1,d2,d3,d4,Vs];subst hQ;exact⟨_,_,rfl,by simp[Tr.aa]⟩
  have d4:decide (s.first > 1073741823)=false:=Ga c4
  by_cases c5:∀ l∈s.parts,Hd l
  ·have J9:=MM (e:= .agg [P,i64 s.first]) ⟨rfl,hP⟩ c5 (by omega)
   rw[decide_eq_true c5] at hct;have c6:zi s > 1073741823:=by
    rcases Int.lt_or_le 1073741823 (zi s) with h | h
    ·exact h
    ·exact absurd (Be.mk (by omega) (by omega) (by omega) (by omega) c5 h) A9
   have d6:decide (zi s > 1073741823)=true:=Ea c6;have i0:∀ H (x y:Int),ta H 2 (.pv (.lit 2 [.agg [i64 x,i64 y]])) 0=some (.pv (.rp [i64 x,i64 y] 0)):=fun H x y=>rfl;have q1:∀ H (x y:PV),place H 1 (.pv (.rp [x,y] 0))=some (.pv (.rp [x,y] 1)):=fun H x y=>rfl;have m1:∀ H (x y:PV),pa H false 1 (.pv (.rp [x,y] 1))=some (.pv y):=fun H x y=>rfl;simp -implicitDefEqProofs only[SX,sevalprocAttr,fa,Mb,e1,a1,a2,s1,p0,p1,l0,l1,l2,lA,d1,d2,d3,d4,h6,hct,J9,i0,q1,m1,d6,Vs];subst hQ;exact⟨_,_,rfl,by simp[Tr.aa]⟩
  ·rw[decide_eq_false c5] at hct
   simp -implicitDefEqProofs only[SX,sevalprocAttr,Mb,e1,a1,a2,s1,p0,p1,l0,l1,lA,d1,d2,d3,d4,h6,hct,Vs];subst hQ;exact⟨_,_,rfl,by simp[Tr.aa]⟩
 obtain⟨r,h1,E,H,rfl,h2⟩:=wc key;exact⟨E,H,h1,h2⟩
theorem yF{i:Nat}(hi:i < ss.length){v:PV}{u:List (Int×Int)}(hv:S4 ss i v u)(Ba:Be ss[i]):
 qd (fun r=>(∃ E H,r=(.ret,⟨E,H⟩)/\E.get 2= .pv (.bool false)/\∃ s∈ss.take i,¬vo s ss[i])\/(∃ v' u',r=(.norm,⟨Vs S v' ss.length (i+1:Nat),[]⟩)/\S4 ss (i+1) v' u'))
  (ma (oa (Da bc 8) Mb) (na 0 [3,12,13,14]) ⟨Vs S v ss.length i,[]⟩):=by
 obtain⟨e,P,ps,he,hSl,hsh⟩:=hS.get hi
 obtain⟨rfl,hP⟩:=hsh;have htake:ss.take (i+1)=ss.take i++[ss[i]]:=List.take_succ_eq_append_getElem hi
 generalize hs:ss[i]=s at *;have hq:i < es.length:=by rw[hS.len];exact hi
 have e1:decide ((i:Int) < (ss.length:Int))=true:=Ea (by omega);have t2:=Za hi hS.sz
 have a1:ta [] 2 (.pv S) (i:Int)=some (.pv (.rp [P,i64 s.first] 0)):=by rw[hSl];simp only[ta];rw[if_pos (by unfold Ia;simp;omega),Eaa,he];rfl
 have a2:pa [] true 2 (.pv (.rp [P,i64 s.first] 0))=some (.pv (.agg [P,i64 s.first])):=rfl;have E8:(AV.pv P).one=true:=by rcases hP.is with⟨h,_⟩ | h <;> rw[h] <;> rfl
 have s1:Ha [.box [.pv .ga,.pv (i64 0)]] 2 (.ptr 0 0) (.pv (.agg [P,i64 s.first]))=some [.box [.pv P,.pv (i64 s.first)]]:=Ep _ _ _ _ E8 rfl [] _ rfl;have p0:place [.box [.pv P,.pv (i64 s.first)]] 0 (.ptr 0 0)=some (.ptr 0 0):=rfl;have p1:place [.box [.pv P,.pv (i64 s.first)]] 1 (.ptr 0 0)=some (.ptr 0 1):=rfl;have l0:pa [.box [.pv P,.pv (i64 s.first)]] false 1 (.ptr 0 0)=some (.pv P):=rfl;have l1:pa [.box [.pv P,.pv (i64 s.first)]] false 1 (.ptr 0 1)=some (.pv (i64 s.first)):=rfl;have l2:pa [.box [.pv P,.pv (i64 s.first)]] true 2 (.ptr 0 0)=some (.pv (.agg [P,i64 s.first])):=rfl;have hg:Vd [.box [.pv P,.pv (i64 s.first)]]:=by intro n _ o ho;simp at ho;subst ho;simp[qa,Ra,Qa]
 have hct:=JB hP 5 [.box [.pv P,.pv (i64 s.first)]] hg;rw[decide_eq_true Ba.parts] at hct;have h6:bc 6=some Kb:=rfl;have lA:=hP.Tb
 have d1:decide ((s.parts.length:Int) < 1)=false:=Ga (by have:=Ba.lo;omega);have d2:decide ((s.parts.length:Int) > 8)=false:=Ga (by have:=Ba.hi;omega);have d3:decide (s.first < 0)=false:=Ga (by have:=Ba.f0;omega);have d4:decide (s.first > 1073741823)=false:=Ga (by have:=Ba.f1;omega);have J9:=MM (e:= .agg [P,i64 s.first]) ⟨rfl,hP⟩ Ba.parts ⟨Ba.f0,Ba.f1⟩
 have d6:decide (zi s > 1073741823)=false:=Ga (by have:=Ba.last;omega);have i0:∀ H (x y:Int),ta H 2 (.pv (.lit 2 [.agg [i64 x,i64 y]])) 0=some (.pv (.rp [i64 x,i64 y] 0)):=fun H x y=>rfl;have q1:∀ H (x y:PV),place H 1 (.pv (.rp [x,y] 0))=some (.pv (.rp [x,y] 1)):=fun H x y=>rfl;have m1:∀ H (x y:PV),pa H false 1 (.pv (.rp [x,y] 1))=some (.pv y):=fun H x y=>rfl;have hvr:Pa TA (-2) [(s.first,zi s)]=true:=by rw[Ss];have:=Ba.By;have:=Ba.f0;have:=Ba.last;unfold TA;simp only;omega
 have hmt:=CD v (.lit 2 [.agg [i64 s.first,i64 (zi s)]]) u [(s.first,zi s)] hv.is (.inr rfl) hv.val hvr (by have:=hv.len;simp;omega)
 obtain⟨u',hun,hv1,hv2,hv3⟩:=fU v (.lit 2 [.agg [i64 s.first,i64 (zi s)]]) u [(s.first,zi s)] hv.is (.inr rfl) hv.val hvr (by have:=hv.len;simp;omega)
 have hms:=TQ hv.val hvr
 have hml:∀ l:List (Int×Int),(ae l).length=l.length:=fun l=>by simp
 generalize yg (u.length+[(s.first,zi s)].length) u [(s.first,zi s)]=mm at *;have hvv:(AV.pv v).cells=[.pv v]:=by rcases hv.is with⟨h,_⟩ | h <;> rw[h] <;> rfl
 generalize hQ:(fun r:Ex×St=>_)=Q
 by_cases c7:mm=[]
 ·have d7:decide ((mm.length:Int) > 0)=false:=Ga (by rw[c7];simp)
  have hno:¬∃ x,Qk x u/\Qk x [(s.first,zi s)]:=fun h=>(hms.2 h) c7;simp -implicitDefEqProofs only[SX,sevalprocAttr,fa,Mb,e1,t2,a1,a2,s1,p0,p1,l0,l1,l2,lA,d1,d2,d3,d4,h6,hct,J9,i0,q1,m1,d6,hmt,hml,d7,hun,na,Ca,AV.cut,qa,List.take_zero,za,Vs];subst hQ;refine .inr ⟨_,u',rfl,.inr rfl,hv1,by have:=hv.len;simp at hv3;omega,fun x=> ?_,?_,?_⟩
  ·rw[hv2,fq,hv.mem,htake]
   constructor
   ·rintro (⟨t,ht,hx⟩ | hx)
    ·exact⟨t,by simp[ht],hx⟩
    ·exact⟨s,by simp,hx⟩
   ·rintro⟨t,ht,hx⟩
    rcases Naa.1 ht with h | h
    ·exact .inl ⟨t,h,hx⟩
    ·simp at h;subst h;exact .inr hx
  ·intro t ht
   rw[htake] at ht;rcases Naa.1 ht with h | h
   ·exact hv.ft t h
   ·simp at h;subst h;exact Ba
  ·rw[htake,gae]
   refine⟨hv.apart,by simp,fun t ht w hw x hx=> ?_⟩;simp at hw;subst hw;exact hno ⟨x,(hv.mem x).2 ⟨t,ht,hx.1⟩,(fq _ _).2 hx.2⟩
 ·have d7:decide ((mm.length:Int) > 0)=true:=Ea (by have:mm.length≠0:=fun e=>c7 (yaa e);omega)
  obtain⟨x,hx1,hx2⟩:=hms.1 c7
  simp -implicitDefEqProofs only[SX,sevalprocAttr,fa,Mb,e1,a1,a2,s1,p0,p1,l0,l1,l2,lA,d1,d2,d3,d4,h6,hct,J9,i0,q1,m1,d6,hmt,hml,d7,Vs];subst hQ;obtain⟨t,ht,hx3⟩:=(hv.mem x).1 hx1
  exact .inl ⟨_,_,rfl,by simp[Tr.aa],t,ht,fun h=>h x ⟨hx3,(fq _ _).1 hx2⟩⟩
end
theorem Dm{S:PV}{ss:List Ob}{es:List PV}(hS:qb S ss es):∃ b,Qg [.agg [S]]=some (.bool b)/\(b=true↔Xb ss):=by
 have lA:=hS.Tb
 by_cases hl:ss.length<=32
 ·have e0:decide ((ss.length:Int) > 32)=false:=Ga (by omega)
  have D7:qd (fun r=>∃ E H,(r=(.exit 0,⟨E,H⟩)/\Xb ss)\/(r=(.ret,⟨E,H⟩)/\E.get 2= .pv (.bool false)/\¬Xb ss))
   (ab (ma (oa (Da bc 8) Mb) (na 0 [3,12,13,14])) ua ⟨Vs S .ga ss.length 0,[]⟩):=by
   refine wa (Gb (g:=ma (oa (Da bc 8) Mb) (na 0 [3,12,13,14]))
    (fun i t=>∃ v u,t=⟨Vs S v ss.length i,[]⟩/\S4 ss i v u)
    ss.length (by unfold ua;omega) _ ⟨.ga,[],rfl,.inl ⟨rfl,rfl⟩,rfl,by simp,fun x=>by simp[Qn],by simp,by simp⟩ ?_ ?_) (fun r h=>h.2)
   ·rintro i t hi ⟨v,u,rfl,hv⟩
    by_cases Ba:Be ss[i]
    ·refine wa (yF hS hl hi hv Ba) ?_
     rintro r (⟨E,H,rfl,hE,s,hs,hna⟩ | ⟨v',u',rfl,hv'⟩)
     ·refine⟨E,H,.inr ⟨rfl,hE,fun h=>hna ?_⟩⟩
      obtain⟨j,hj,rfl⟩:=List.mem_take_iff_getElem.1 hs
      have:=fad.1 h.apart j i (by omega) hi (by omega)
      exact this
     ·exact⟨v',u',rfl,hv'⟩
    ·obtain⟨E,H,h1,h2⟩:=CE hS hi v Ba
     exact C4 h1 ⟨E,H,.inr ⟨rfl,h2,fun h=>Ba (h.ft _ (saa hi))⟩⟩
   ·rintro t ⟨v,u,rfl,hv⟩
    have e1:decide ((ss.length:Int) < (ss.length:Int))=false:=Ga (by omega);have Q7:Xb ss:=⟨hl,by have:=hv.ft;rwa [Fab] at this,by have:=hv.apart;rwa [Fab] at this⟩;generalize hQ:(fun r:Ex×St=>r.1.stop=true/\_)=Q;simp -implicitDefEqProofs only[SX,sevalprocAttr,Mb,e1,Vs];subst hQ;exact⟨rfl,_,_,.inl ⟨rfl,Q7⟩⟩
  obtain⟨r,h1,E,H,h2⟩:=wc D7;have s9:ab (ma (oa (Da bc 8) Mb) (na 0 [3,12,13,14])) ua ⟨(((Tr.lf.set 14 (.pv (.int .i64 0))).set 13 (.pv (.int .i64 ss.length))).set 12 (.pv S)).set 3 (.pv .ga),[]⟩=some r:=h1;have hSv:∃ sz es,S= .ga\/S= .lit sz es:=by rcases hS.is with⟨h,_⟩ | h;exact⟨0,[],.inl h⟩;exact⟨_,_,.inr h⟩
  rcases h2 with⟨rfl,Ba⟩ | ⟨rfl,hE,hno⟩
  ·refine⟨true,?_,by simp[Ba]⟩
   obtain⟨sz,es,rfl | rfl⟩:=hSv <;>;simp -implicitDefEqProofs only[Qg,SP,SA,SQ,WP,WQ,sevalprocAttr,dm,Db,lA,e0,s9]
  ·refine⟨false,?_,by simp[hno]⟩
   obtain⟨sz,es,rfl | rfl⟩:=hSv <;>;simp -implicitDefEqProofs only[Qg,SP,SA,SQ,WP,WQ,sevalprocAttr,dm,Db,lA,e0,s9,hE]
 ·have e0:decide ((ss.length:Int) > 32)=true:=Ea (by omega)
  refine⟨false,?_,by simp;exact fun h=>hl h.len⟩;have hSv:∃ sz es,S= .ga\/S= .lit sz es:=by rcases hS.is with⟨h,_⟩ | h;exact⟨0,[],.inl h⟩;exact⟨_,_,.inr h⟩
  obtain⟨sz,es,rfl | rfl⟩:=hSv <;>;simp -implicitDefEqProofs only[Qg,SP,SA,SQ,WP,WQ,sevalprocAttr,dm,Db,lA,e0]
theorem fg.one{e:PV}{s:Ob}{P:PV}{ps:List PV}(h:fg e s P ps):qb (.lit 2 [e]) [s] [e]:=by
 refine⟨.inr rfl,rfl,?_,by simp[maxLen]⟩;intro k e' s' h1 h2
 match k,h1,h2 with
 |0,h1,h2=>simp at h1 h2;subst h1 h2;exact⟨P,ps,h⟩
 |k+1,h1,h2=>simp at h1
theorem cU{s:Ob}:Xb [s]↔Be s:=⟨fun h=>h.ft s (by simp),fun h=>⟨by simp,by simpa using h,by simp⟩⟩
theorem fg.Xz{e:PV}{s:Ob}{P:PV}{ps:List PV}(h:fg e s P ps):(AV.pv P).one=true/\P.cells=[P]:=by
 rcases h.parts.is with⟨h,_⟩ | h <;> rw[h] <;> exact⟨rfl,rfl⟩
theorem Pm{e:PV}{s:Ob}{P:PV}{ps:List PV}(h:fg e s P ps):∃ b,Ij [e]=some (.bool b)/\(b=true↔Be s):=by
 obtain⟨b,h1,h2⟩:=Dm h.one
 refine⟨b,?_,h2.trans cU⟩;obtain⟨E8,hP2⟩:=h.Xz
 have heq:=h.eq
 subst heq;rcases h.parts.is with⟨rfl,_⟩ | rfl <;>
 simp -implicitDefEqProofs only[Ij,SP,SA,SQ,WP,WQ,sevalprocAttr,Vt,h1]
theorem xf.Pd{P:PV}{ls:List (List (Int×Int))}{ps:List PV}(hP:xf P ls ps){i:Nat}(hi:i < ls.length)(H:List ba):∃ v,ps[i]? =some v/\iq v ls[i]/\ta H 1 (.pv P) (i:Int)=some (.pv (.rp [v] 0)):=by
 obtain⟨v,hv,hPl,S8⟩:=hP.get hi
 refine⟨v,hv,S8,?_⟩;have hq:i < ps.length:=by rw[hP.len];exact hi
 have O7:v.cells=[v]:=by rcases S8.is with⟨h,_⟩ | h <;> rw[h] <;> rfl
 rw[hPl];simp only[ta];rw[if_pos (by unfold Ia;simp;omega),Eaa,hv];simp[O7]
theorem xf.dy{P:PV}{ls:List (List (Int×Int))}{ps:List PV}(hP:xf P ls ps){i:Nat}{v:PV}(hv:ps[i]? =some v)(H:List ba):ta H 1 (.pv P) (i:Int)=some (.pv (.rp [v] 0)):=by
 have hi:i < ls.length:=by rw[<- hP.len];exact (qaa.1 hv).1
 obtain⟨w,hw,_,h⟩:=hP.Pd hi H
 rw[hv] at hw;injection hw with hw;subst hw;exact h
def Rq(p q:List (List (Int×Int)))(i:Nat):List (Int×Int):=match p[i]?,q[i]? with
 |some a,some b=>yg (a.length+b.length) a b
 |_,_=>[]
def ec(p q:List (List (Int×Int))):Nat->Nat->Option (List Int)
 |0,_=>some []
 |n+1,i=>match Rq p q i with
  | []=>none
  |m::_=>(ec p q n (i+1)).map (m.1:: ·)
abbrev BN(rp rq:List PV)(n i:Int)(tk:Nat)(nl:Bool)(es:List PV):Tr:=((((Tr.lf.set 35 (.pv (i64 i))).set 34 (.pv (i64 n))).set 8 (.uq tk nl 1 es)).set 4 (.pv (.rp rq 0))).set 3 (.pv (.rp rp 0))
theorem Et{A:List ba}{id n bytes:Nat}{nl:Bool}{h:Zf}{es:List PV}(hg:A[id]? =some (.tok 1 n nl))(hn:n=es.length)(hr:eb (n+1) bytes)(e:PV):
 Cb A false h 1 false bytes (.uq id nl 1 es) (.pv (.lit 1 [e]))=some (.uq id false 1 (es++[e]),A.set id (.tok 1 (n+1) false)):=Ih hg hn hr e
theorem zP{e f:PV}{p q:Ob}{P Q:PV}{ps qs:List PV}(hp:fg e p P ps)(hq:fg f q Q qs)(op:Be p)(oq:Be q){n:Nat}(hn:n<=p.parts.length)(hn2:n<=q.parts.length):
 (ec p.parts q.parts n 0=none->Ri [e,f,i64 n]=some (.mc [.ga,.bool false]))/\
 (∀ bs,ec p.parts q.parts n 0=some bs->∃ v,Ri [e,f,i64 n]=some (.mc [v,.bool true])/\Zh 1 v (bs.map (PV.int .u8))/\bs.length=n/\∀ b∈bs,0<=b/\b<=255):=by
 obtain⟨b1,H8,dad⟩:=Pm hp;obtain⟨b2,s8,aak⟩:=Pm hq;have:b1=true:=dad.2 op
 subst this;have:b2=true:=aak.2 oq
 subst this;obtain⟨E8,hP2⟩:=hp.Xz
 obtain⟨hQ1,hQ2⟩:=hq.Xz
 have heq:=hp.eq
 have hfq:=hq.eq
 subst heq hfq;have h8:=op.hi
 have lP:=hp.parts.Tb
 have lQ:=hq.parts.Tb
 have D7:qd (fun r=>∃ E H,(r=(.ret,⟨E,H⟩)/\E.get 6= .pv .ga/\E.get 7= .pv (.bool false)/\ec p.parts q.parts n 0=none)\/(∃ nl bs,r=(.exit 0,⟨E,H⟩)/\E.get 8= .uq 0 nl 1 (bs.map (PV.int .u8))/\(nl=true->bs=[])/\ec p.parts q.parts n 0=some bs/\bs.length=n/\∀ b∈bs,0<=b/\b<=255))
  (ab (ma (oa (Da (fun _=>none) 8) Eg) (na 1 [3,4,8,34,35])) ua ⟨BN [P,i64 p.first] [Q,i64 q.first] n 0 0 true [],[.tok 1 0 true]⟩):=by
  refine wa (Gb (g:=ma (oa (Da (fun _=>none) 8) Eg) (na 1 [3,4,8,34,35]))
   (fun i t=>∃ nl bs,t=⟨BN [P,i64 p.first] [Q,i64 q.first] n i 0 nl (bs.map (PV.int .u8)),[.tok 1 i nl]⟩/\bs.length=i/\(nl=true->bs=[])/\(∀ b∈bs,0<=b/\b<=255)/\ec p.parts q.parts n 0=(ec p.parts q.parts (n - i) i).map (bs++ ·))
   n (by unfold ua;omega) _ ⟨true,[],rfl,rfl,fun _=>rfl,by simp,by cases ec p.parts q.parts n 0 <;> simp[*]⟩ ?_ ?_) (fun r h=>h.2)
  ·rintro i t hi ⟨nl,bs,rfl,hlen,Y7,hby,hs⟩
   obtain⟨v,hv,hpv,_⟩:=hp.parts.Pd (i:=i) (by omega) []
   obtain⟨w,hw,hqw,_⟩:=hq.parts.Pd (i:=i) (by omega) []
   have a1:=hp.parts.dy hv
   have a2:=hq.parts.dy hw
   have okv:=op.parts _ (saa (show i < p.parts.length by omega))
   have okw:=oq.parts _ (saa (show i < q.parts.length by omega))
   have hmt:=mF v w _ _ hpv.is hqw.is okv.2 okw.2 (by
    have:=(Dt okv.2).2.1 okv.1
    have h1:=hpv.sz
    have h2:=hqw.sz
    have k1:=Bw okv.2
    have k2:=Bw okw.2
    omega)
   have fac:=Lu _ _ _ (-2) (-2) okv.2 okw.2 (waa _)
   have hmA:Rq p.parts q.parts i=yg (p.parts[i].length+q.parts[i].length) p.parts[i] q.parts[i]:=by unfold Rq;rw[caa (show i < p.parts.length by omega),caa (show i < q.parts.length by omega)]
   obtain⟨m,hm⟩:∃ m,n - i=m+1:=⟨n - i - 1,by omega⟩;have hm':n - (i+1)=m:=by omega
   rw[hm,ec,hmA] at hs;have hme:=Fs okv.2
   generalize p.parts[i]=lv at *
   generalize q.parts[i]=lw at *
   generalize yg (lv.length+lw.length) lv lw=mm at *;have e1:decide ((i:Int) < (n:Int))=true:=Ea (by omega);have t2:=Za (i:=i) (n:=n) hi (by unfold maxLen;omega);have lm:∀ H,Tb H 0 (.pv (.lit 2 (ae mm)))=some mm.length:=fun H=>by simp[Tb]
   have r0:∀ H (x y:PV),pa H false 1 (.pv (.rp [x,y] 0))=some (.pv x):=fun H x y=>rfl;have r1:∀ H (x:PV),pa H false 1 (.pv (.rp [x] 0))=some (.pv x):=fun H x=>rfl;have q0:∀ H (x y:PV),place H 0 (.pv (.rp [x,y] 0))=some (.pv (.rp [x,y] 0)):=fun H x y=>rfl;generalize hQ:LN _ _ i=QQ;cases mm with
   |nil=>
    have z1:(((0:Nat):Int)==0)=true:=by decide
    simp only[Option.map_none] at hs;simp -implicitDefEqProofs only[SX,sevalprocAttr,Eg,e1,a1,a2,r0,r1,q0,hmt,lm,z1,BN];subst hQ;exact⟨_,_,.inl ⟨rfl,by simp[Tr.aa],by simp[Tr.aa],hs⟩⟩
   |cons m0 mm=>
    have z1:(((mm.length+1:Nat):Int)==0)=false:=mj (by omega);have i0:∀ H,ta H 2 (.pv (.lit 2 (ae (m0::mm)))) 0=some (.pv (.rp [i64 m0.1,i64 m0.2] 0)):=fun H=>ym H (i:=0) (l:=m0::mm) (by simp);have hb0:0<=m0.1/\m0.1<=255:=by
     have hmem:=(fac.1 m0.1).1 ⟨m0,by simp,Kac _,fac.2 m0 (by simp)⟩
     obtain⟨pp,hpp,h1,h2⟩:=hmem.1
     have:=hme pp hpp;omega
    have t3:IntKind.u8.wrap m0.1=m0.1:=wrap_u8 hb0
    have e8:=Et (A:=[.tok 1 i nl]) (id:=0) (n:=i) (h:= .uq) (nl:=nl) (bytes:=1) (es:=bs.map (PV.int .u8)) rfl (by simp[hlen]) (by unfold eb;omega) (.int .u8 m0.1);rw[nac] at e8;have lm':∀ H,Tb H 0 (.pv (.lit 2 (ae (m0::mm))))=some (mm.length+1):=lm;have hbm:(bs++[m0.1]).map (PV.int .u8)=bs.map (PV.int .u8)++[.int .u8 m0.1]:=by simp
    generalize ae (m0::mm)=L at *;simp -implicitDefEqProofs only[SP,WP,fa,sevalprocAttr,Eg,e1,t2,t3,a1,a2,r0,r1,q0,hmt,lm',z1,i0,e8,na,Ca,AV.cut,qa,za,BN];subst hQ;refine⟨false,bs++[m0.1],by rw[hbm],by simp[hlen],by simp,?_,?_⟩
    ·intro b hb
     rcases Naa.1 hb with h | h
     ·exact hby b h
     ·simp at h;subst h;exact hb0
    ·rw[hs,hm']
     cases ec p.parts q.parts m (i+1) <;> simp
  ·rintro t ⟨nl,bs,rfl,hlen,Y7,hby,hs⟩
   rw[uad,ec] at hs;have e1:decide ((n:Int) < (n:Int))=false:=Ga (by omega);generalize hQ:(fun r:Ex×St=>r.1.stop=true/\_)=QQ;simp -implicitDefEqProofs only[SX,sevalprocAttr,Eg,e1,BN];subst hQ;exact⟨rfl,_,_,.inr ⟨nl,bs,rfl,by simp[Tr.aa],Y7,by rw[hs];simp,hlen,hby⟩⟩
 obtain⟨r,h1,E,H,h2⟩:=wc D7;have s9:ab (ma (oa (Da (fun _=>none) 8) Eg) (na 1 [3,4,8,34,35])) ua ⟨((((Tr.lf.set 35 (.pv (.int .i64 0))).set 34 (.pv (i64 n))).set 8 (.uq 0 true 1 [])).set 4 (.pv (.rp [Q,i64 q.first] 0))).set 3 (.pv (.rp [P,i64 p.first] 0)),[.tok 1 0 true]⟩=some r:=h1;have d0:decide ((n:Int) < 0)=false:=Ga (by omega);have d1:decide ((n:Int) > (if (q.parts.length:Int) < (p.parts.length:Int) then (q.parts.length:Int) else (p.parts.length:Int)))=false:=Ga (by split <;> omega);have hz:(0 < 1)=True:=by simp
 have r2:∀ H (x y:PV),pa H true 2 (.pv (.rp [x,y] 0))=some (.pv (.agg [x,y])):=fun H x y=>rfl;have r0:∀ H (x y:PV),pa H false 1 (.pv (.rp [x,y] 0))=some (.pv x):=fun H x y=>rfl;have q0:∀ H (x y:PV),place H 0 (.pv (.rp [x,y] 0))=some (.pv (.rp [x,y] 0)):=fun H x y=>rfl;rcases h2 with⟨rfl,h6,h7,Aae⟩ | ⟨nl,bs,rfl,h8',Y7,Oae,hlen,hby⟩
 ·refine⟨fun _=> ?_,fun bs hbs=>by rw[Aae] at hbs;cases hbs⟩
  simp -implicitDefEqProofs only[Ri,SX,sevalprocAttr,cm,Db,E8,hQ1,r2,r0,q0,H8,s8,lP,lQ,cp,Ye,d0,d1,fe,hz,na,Ca,AV.cut,qa,za,s9,h6,h7]
 ·refine⟨fun hn=>(by rw[Oae] at hn;cases hn),fun bs' hbs=> ?_⟩
  rw[Oae] at hbs;injection hbs with hbs;subst hbs
  cases nl with
  |true=>have:=Y7 rfl;subst this;refine⟨.ga,?_,.inl ⟨rfl,rfl⟩,hlen,hby⟩;simp -implicitDefEqProofs only[Ri,SX,sevalprocAttr,cm,Db,E8,hQ1,r2,r0,q0,H8,s8,lP,lQ,cp,Ye,d0,d1,fe,hz,na,Ca,AV.cut,qa,za,s9,h8']
  |false=>refine⟨.lit 1 (bs.map (PV.int .u8)),?_,.inr rfl,hlen,hby⟩;simp -implicitDefEqProofs only[Ri,SX,sevalprocAttr,cm,Db,E8,hQ1,r2,r0,q0,H8,s8,lP,lQ,cp,Ye,d0,d1,fe,hz,na,Ca,AV.cut,qa,za,s9,h8']
def Na:List (List (Int×Int))->Int
 | []=>1
 |l::r=>Na r * ib 0 l
theorem zf:∀ {ls:List (List (Int×Int))},(∀ l∈ls,Hd l)->1<=Na ls
 | [],_=>by simp[Na]
 |l::r,h=>by
  have h1:=zf (ls:=r) fun x hx=>h x (by simp[hx]);have h2:=(Xg (h l (by simp))).1
  rw[Na];have:=Int.mul_le_mul h1 h2 (by omega) (by omega);omega
theorem EA:∀ (ls:List (List (Int×Int)))(n:Int),(∀ l∈ls,Hd l)->1<=n->n<=1073741825->Xh n ls=if 1073741825 < n * Na ls then 1073741825 else n * Na ls
 | [],n,_,h1,h2=>by rw[Xh,Na,Int.mul_one,taa (by omega)]
 |l::r,n,h,h1,h2=>by
  have hs:=Xg (h l (by simp));have hm:=Az h1 h2 hs.1 hs.2
  have hp:=zf (ls:=r) fun x hx=>h x (by simp[hx]);have e:n * (Na r * ib 0 l)=(n * ib 0 l) * Na r:=by rw[jae (Na r),Int.mul_assoc]
  rw[Xh,Na,e]
  by_cases hc:1073741825 < n * ib 0 l
  ·rw[if_pos hc,EA r _ (fun x hx=>h x (by simp[hx])) (by omega) (by omega)]
   have h3:n * ib 0 l * 1<=n * ib 0 l * Na r:=yac hp (by omega);rw[if_pos (show 1073741825 < n * ib 0 l * Na r by omega)]
   split
   ·rfl
   ·have h4:1073741825 * 1<=1073741825 * Na r:=yac hp (by omega)
    omega
  ·rw[taa hc,EA r _ (fun x hx=>h x (by simp[hx])) (by omega) (by omega)]
theorem Be.prod{s:Ob}(h:Be s):Xh 1 s.parts=Na s.parts/\Na s.parts<=1073741824:=by
 have h1:=EA s.parts 1 h.parts (by omega) (by omega)
 have h2:=h.last
 have h3:=h.f0
 unfold zi at h2;rw[Pae] at h1
 split at h1
 ·omega
 ·exact⟨h1,by omega⟩
theorem Be.zi{s:Ob}(h:Be s):B1.zi s=s.first+Na s.parts - 1:=by
 unfold B1.zi;rw[h.prod.1]
theorem gp{ls:List (List (Int×Int))}(h:∀ l∈ls,Hd l)(i:Nat):Na (ls.drop i)<=Na ls:=by
 induction ls generalizing i with
 |nil=>simp
 |cons l r ih=>
  cases i with
  |zero=>simp
  |succ i=>
   rw[jad,Na];have h1:=ih (fun x hx=>h x (by simp[hx])) i;have h2:=(Xg (h l (by simp))).1
   have hp:=zf (ls:=r) fun x hx=>h x (by simp[hx]);have:Na r * 1<=Na r * ib 0 l:=yac h2 (by omega);omega
def Qr(l:List Int)(fl:Nat)(nl:Bool):ba:= .seq 1 false (La l) fl nl
section
variable {A:List ba}{id n fl:Nat}{nl:Bool}{l:List Int}(hg:A[id]? =some (Qr l fl nl))(hn:n=l.length)(hf:fl<=n)
include hg hn
theorem dG(hf:fl<=n){i:Int}{k:Nat}(hi:i=(k:Int))(hk:k < n):ta A 1 (.own id n) i=some (.Ec id n k):=by
 have:=pb l;subst hi;simp only[ta,hg,Qr];rw[if_pos (by refine⟨trivial,?_,?_⟩ <;> first | (unfold Ia;omega) | (unfold Ui;omega))];simp
theorem lF{k:Nat}(hk:k < n)(v:Int):Ha A 1 (.Ec id n k) (.pv (i64 v))=some (A.set id (Qr (l.set k v) n nl)):=by
 have hl:=pb l;have hc:(AV.pv (i64 v)).cells=[.pv (i64 v)]:=rfl
 simp only[Ha,hg,Qr,hc];rw[if_pos ⟨rfl,rfl⟩,if_pos ⟨by omega,by omega⟩,fa,fa,Qj]
theorem bT(d:Nat):Ub A (d+1) (.own id n)=some (if nl then .ga else .lit 1 (l.map i64)):=by
 have hl:=pb l;subst hn;simp only[Ub,hg,Qr];have hm:Ra (Ub A d) (La l)=some (l.map i64):=by rw[Tu,SE]
 have hck:∀ l:List Int,chunk 1 false l.length (l.map i64)=l.map i64:=by
  intro l
  induction l with
  |nil=>rfl
  |cons a l ih=>simp only[pab,Raa,chunk,Baa,if_false,List.headD_cons,jad,Aac];rw[ih]
 rw[if_pos ⟨by omega,by rfl⟩,hm];cases nl with
 |true=>rfl
 |false=>simp only[Baa,if_false,Kaa,hck]
end
theorem wM(l:List Int)(fl:Nat)(nl:Bool)(n:Nat):qa n (Qr l fl nl)=some (Qr l fl nl):=by
 have:(La l).all (AV.ie n deep)=true:=by
  rw[aab];intro v hv;obtain⟨p,_,rfl⟩:=oab.1 hv
  rfl
 simp[qa,Qr,this]
def Bn(ls:List (List (Int×Int)))(i:Nat):List Int:=(List.range (ls.length+1)).map fun j=>if i < j then Na (ls.drop j) else 0
theorem tz(ls:List (List (Int×Int)))(i:Nat):(Bn ls i).length=ls.length+1:=by simp[Bn]
theorem DT(ls:List (List (Int×Int)))(i:Nat)(hi:i < ls.length):(Bn ls (i+1)).set (i+1) (Na (ls.drop (i+1)))=Bn ls i:=by
 apply Dad
 ·simp[Bn]
 ·intro j h1 h2
  rw[Nae];simp only[Bn,rae,Yad]
  by_cases hj:i+1=j
  ·subst hj;simp
  ·rw[taa hj]
   by_cases h:i+1 < j
   ·rw[if_pos h,if_pos (by omega)]
   ·rw[taa h,taa (by omega)]
def al(ls:List (List (Int×Int))):List Int:=(List.range (ls.length+1)).map fun j=>Na (ls.drop j)
theorem OP(ls:List (List (Int×Int))):(Bn ls 0).set 0 (Na ls)=al ls:=by
 apply Dad
 ·simp[Bn,al]
 ·intro j h1 h2
  rw[Nae];simp only[Bn,al,rae,Yad]
  by_cases hj:0=j
  ·subst hj;simp
  ·rw[taa hj,if_pos (by omega)]
abbrev dR(row:List PV)(m:Nat)(n i:Int):Tr:=(((Tr.lf.set 5 (.pv (i64 i))).set 4 (.pv (i64 n))).set 3 (.own 0 m)).set 1 (.pv (.rp row 0))
theorem qJ{e:PV}{s:Ob}{P:PV}{ps:List PV}(h:fg e s P ps)(Ba:Be s):Lm [e]=some (.lit 1 ((al s.parts).map i64)):=by
 obtain⟨E8,hP2⟩:=h.Xz
 have heq:=h.eq
 subst heq;have hP:=h.parts
 have lP:=hP.Tb
 have h8:=Ba.hi
 have hpr:=Ba.prod.2
 have D7:qd (fun r=>∃ E,r=(.exit 0,⟨E,[Qr (Bn s.parts 0) (s.parts.length+1) false]⟩)/\E.get 3= .own 0 (s.parts.length+1)/\E.get 4= .pv (i64 (Na s.parts)))
  (ab (ma (oa (Da (fun _=>none) 8) Ii) (na 1 [1,3,4,5])) ua ⟨dR [P,i64 s.first] (s.parts.length+1) 1 s.parts.length,[Qr (Bn s.parts s.parts.length) 0 false]⟩):=by
  refine wa (Es (g:=ma (oa (Da (fun _=>none) 8) Ii) (na 1 [1,3,4,5]))
   (fun i t=>∃ fl,i<=s.parts.length/\t=⟨dR [P,i64 s.first] (s.parts.length+1) (Na (s.parts.drop i)) i,[Qr (Bn s.parts i) fl false]⟩/\fl<=s.parts.length+1/\(i < s.parts.length\/s.parts.length=0->fl=s.parts.length+1\/s.parts.length=0))
   ua s.parts.length _ (by unfold ua;omega) ⟨0,waa _,by rw[Hab];rfl,by omega,fun h=>by omega⟩ ?_) (fun r h=>h.2)
  rintro i t ⟨fl,hi,rfl,hfl,Daf⟩;cases i with
  |zero=>
   have h1:=Ba.lo
   have:fl=s.parts.length+1:=by rcases Daf (.inl (by omega)) with h | h <;> omega
   subst this;have e1:decide (((0:Nat):Int) > 0)=false:=by decide
   generalize hQ:LQ _ _ _=Q;simp -implicitDefEqProofs only[SX,sevalprocAttr,-List.reduceReplicate,Ii,e1,dR];subst hQ;exact⟨_,rfl,by simp[Tr.aa],by simp[Tr.aa]⟩
  |succ i=>
   have e1:decide (((i+1:Nat):Int) > 0)=true:=Ea (by omega);have t1:IntKind.i64.wrap (((i+1:Nat):Int) - 1)=(i:Int):=by rw[Aa (by omega)];omega
   have hg:[Qr (Bn s.parts (i+1)) fl false][0]? =some (Qr (Bn s.parts (i+1)) fl false):=rfl;have a1:=dG hg (n:=s.parts.length+1) (tz _ _).symm hfl (i:=((i+1:Nat):Int)) rfl (by omega)
   have s1:=lF hg (n:=s.parts.length+1) (tz _ _).symm (k:=i+1) (by omega) (Na (s.parts.drop (i+1)))
   rw[nac,DT s.parts i (by omega)] at s1;obtain⟨v,hv,S8,_⟩:=hP.Pd (i:=i) (by omega) []
   have a2:=hP.dy hv
   have J8:=Ba.parts s.parts[i] (saa (by omega))
   have hss:=Cy v s.parts[i] S8.is S8.sz J8.2
   have hd:s.parts.drop i=s.parts[i]::s.parts.drop (i+1):=Waa (by omega)
   have hpd:Na (s.parts.drop i)=Na (s.parts.drop (i+1)) * ib 0 s.parts[i]:=by rw[hd,Na]
   have hle:=gp Ba.parts i
   have j8:=zf (ls:=s.parts.drop i) fun x hx=>Ba.parts x (bac hx)
   rw[hpd] at hle j8;generalize s.parts[i]=l at *
   have t3:IntKind.i64.wrap (Na (s.parts.drop (i+1)) * ib 0 l)=Na (s.parts.drop (i+1)) * ib 0 l:=Aa (by omega)
   have r0:∀ H (x y:PV),pa H false 1 (.pv (.rp [x,y] 0))=some (.pv x):=fun H x y=>rfl;have r1:∀ H (x:PV),pa H false 1 (.pv (.rp [x] 0))=some (.pv x):=fun H x=>rfl;have q0:∀ H (x y:PV),place H 0 (.pv (.rp [x,y] 0))=some (.pv (.rp [x,y] 0)):=fun H x y=>rfl;have C7:∀ l' o8,Ra (qa 1) [Qr l' o8 false]=some [Qr l' o8 false]:=fun l' o8=>by simp[Ra,wM]
   have hz:(0 < 1)=True:=by simp
   have Z7:∀ o:ba,[o].take 1=[o]:=fun o=>rfl
   generalize hQ:LQ _ _ _=Q;simp -implicitDefEqProofs only[SP,WP,fa,sevalprocAttr,-List.reduceReplicate,Ii,e1,t1,t3,a1,s1,a2,hss,r0,r1,q0,C7,hz,Z7,na,Ca,AV.cut,za,dR];subst hQ;exact⟨i,by omega,s.parts.length+1,by omega,by rw[hpd],by omega,fun _=> .inl rfl⟩
 obtain⟨r,h1,E,rfl,hE3,hE4⟩:=wc D7;have s9:ab (ma (oa (Da (fun _=>none) 8) Ii) (na 1 [1,3,4,5])) ua ⟨(((Tr.lf.set 5 (.pv (i64 s.parts.length))).set 4 (.pv (.int .i64 1))).set 3 (.own 0 (s.parts.length+1))).set 1 (.pv (.rp [P,i64 s.first] 0)),[Qr (Bn s.parts s.parts.length) 0 false]⟩=_:=h1;have hz0:ba.seq 1 false (Ml [PV.int .i64 0] (s.parts.length+1)) 0 false=Qr (Bn s.parts s.parts.length) 0 false:=by
  rw[dK,Qr]
  congr 2
  apply Dad
  ·simp[Bn]
  ·intro j hj1 hj2
   simp at hj1;simp only[Bn,List.getElem_replicate,rae,Yad];rw[taa (by omega)]
 have t1:IntKind.i64.wrap ((s.parts.length:Int)+1)=((s.parts.length+1:Nat):Int):=Aa (by omega)
 have e2:(0<=((s.parts.length+1:Nat):Int))=True:=by simp;omega
 have e3:(((s.parts.length+1:Nat):Int)<=((s.parts.length+1:Nat):Int))=True:=by simp
 have e4:eb (s.parts.length+1) 8:=by unfold eb;omega
 have hg:[Qr (Bn s.parts 0) (s.parts.length+1) false][0]? =some (Qr (Bn s.parts 0) (s.parts.length+1) false):=rfl;have a1:=dG hg (n:=s.parts.length+1) (tz _ _).symm (waa _) (i:=0) (k:=0) rfl (by omega)
 have s1:=lF hg (n:=s.parts.length+1) (tz _ _).symm (k:=0) (by omega) (Na s.parts)
 rw[nac,OP] at s1;have hpv:=bT (A:=[Qr (al s.parts) (s.parts.length+1) false]) (id:=0) (n:=s.parts.length+1) rfl (by simp[al]) 5;rw[taa (by simp)] at hpv;have r0:∀ H (x y:PV),pa H false 1 (.pv (.rp [x,y] 0))=some (.pv x):=fun H x y=>rfl;have q0:∀ H (x y:PV),place H 0 (.pv (.rp [x,y] 0))=some (.pv (.rp [x,y] 0)):=fun H x y=>rfl;have C7:∀ l' o8,Ra (qa 1) [Qr l' o8 false]=some [Qr l' o8 false]:=fun l' o8=>by simp[Ra,wM]
 have hz:(0 < 1)=True:=by simp
 have Z7:∀ o:ba,[o].take 1=[o]:=fun o=>rfl
 generalize s.parts.length+1=m at *
 simp -implicitDefEqProofs only[Lm,SP,WP,fa,sevalprocAttr,-List.reduceReplicate,gu,Db,E8,r0,q0,lP,t1,e2,e3,Laa e4,hz0,C7,hz,Z7,na,Ca,AV.cut,s9,hE3,hE4,a1,s1,hpv,za]
def Dh:List (List (Int×Int))->List Int->Int->Option Int
 |l::r,x::b,k=>if (Md x 0 l).2=true then Dh r b (k+(Md x 0 l).1 * Na r) else none
 |_,_,k=>some k
def Oi(s:Ob)(b:List Int):Option Int:=if b.length=s.parts.length then Dh s.parts b 0 else none
theorem gn{top x:Int}:∀ {l:List (Int×Int)}{last n:Int},Pa top last l=true->(Md x n l).2=true->n<=(Md x n l).1/\(Md x n l).1 < n+ib 0 l
 | [],last,n,_,h=>by simp[Md] at h
 |p::l,last,n,hv,h=>by
  obtain⟨h1,h2,h3,h4,h5⟩:=Uc hv;have hs:=(Dt h5).1
  rw[Md] at h ⊢;rw[ib,EC]
  by_cases c1:x < p.1
  ·rw[if_pos c1] at h;cases h
  ·rw[taa c1] at h ⊢
   by_cases c2:x<=p.2
   ·rw[if_pos c2];simp only;omega
   ·rw[taa c2] at h ⊢
    have:=gn h5 h;omega
theorem uK{l:List (Int×Int)}(h:Pa 255 (-2) l=true):AA l=l:=by unfold AA;rw[if_pos h]
theorem PM(H:List ba){sz k:Nat}{es:List PV}(hz:0 < sz)(hk:k<=es.length):ug H sz (.pv (.lit sz es)) (some (k:Int)) none=some (.pv (.lit sz (es.drop k))):=by
 simp only[ug,aad,Option.getD_none];rw[if_pos ⟨hz,trivial,by omega,by omega,by omega⟩];simp
theorem Vr(b:List Int)(k:Int):Dh [] b k=some k:=by cases b <;> rfl
abbrev DM(row:List PV)(B S:PV)(n i k:Int):Tr:=(((((Tr.lf.set 26 (.pv (i64 i))).set 25 (.pv (i64 n))).set 24 (.pv S)).set 6 (.pv (i64 k))).set 2 (.pv (.rp row 0))).set 1 (.pv B)
structure lk(B:PV)(bs:List Int):Prop where
 is:Zh 1 B (bs.map (PV.int .u8))
 By:∀ b∈bs,0<=b/\b<=255
theorem lk.Tb{B:PV}{bs:List Int}(h:lk B bs)(H:List ba):Go.AM.Tb H 0 (.pv B)=some bs.length:=by
 rw[h.is.len];simp
theorem lk.one{B:PV}{bs:List Int}(h:lk B bs):(AV.pv B).one=true:=by
 rcases h.is with⟨h,_⟩ | h <;> rw[h] <;> rfl
theorem lk.Pd{B:PV}{bs:List Int}(h:lk B bs){i:Nat}(hi:i < bs.length)(H:List ba):ta H 1 (.pv B) (i:Int)=some (.pv (.rp [.int .u8 bs[i]] 0)):=by
 have hl:=h.is.lit (i:=i) (by simpa using hi)
 rw[hl];simp only[ta];rw[if_pos (by unfold Ia;simp;omega),Eaa,Faa,caa hi];rfl
theorem sG{e:PV}{s:Ob}{P:PV}{ps:List PV}(h:fg e s P ps){B:PV}{bs:List Int}(hB:lk B bs)(Ba:Be s):
 (∀ k,Oi s bs=some k->Cj [e,B]=some (.mc [i64 k,.bool true]))/\(Oi s bs=none->Cj [e,B]=some (.mc [i64 0,.bool false])):=by
 obtain⟨b1,H8,dad⟩:=Pm h;have:=dad.2 Ba
 subst this;have W7:=qJ h Ba;obtain⟨E8,hP2⟩:=h.Xz
 have heq:=h.eq
 subst heq;have hP:=h.parts
 have lP:=hP.Tb
 have lB:=hB.Tb
 have hB1:=hB.one
 have h8:=Ba.hi
 have hpr:=Ba.prod.2
 have r2:∀ H (x y:PV),pa H true 2 (.pv (.rp [x,y] 0))=some (.pv (.agg [x,y])):=fun H x y=>rfl;have r0:∀ H (x y:PV),pa H false 1 (.pv (.rp [x,y] 0))=some (.pv x):=fun H x y=>rfl;have r1:∀ H (x:PV),pa H false 1 (.pv (.rp [x] 0))=some (.pv x):=fun H x=>rfl;have q0:∀ H (x y:PV),place H 0 (.pv (.rp [x,y] 0))=some (.pv (.rp [x,y] 0)):=fun H x y=>rfl
 by_cases hlen:bs.length=s.parts.length
 ·have hrk:Oi s bs=Dh s.parts bs 0:=by unfold Oi;rw[if_pos hlen]
  have hsl:∀ H,ug H 1 (.pv (.lit 1 ((al s.parts).map i64))) (some 1) none=some (.pv (.lit 1 (((al s.parts).map i64).drop 1))):=fun H=>PM H (k:=1) (by omega) (by simp[al]);have hdl:(((al s.parts).map i64).drop 1).length=s.parts.length:=by simp[al]
  have hde:∀ i,i < s.parts.length->(((al s.parts).map i64).drop 1)[i]? =some (i64 (Na (s.parts.drop (i+1)))):=by intro i hi;rw[uae,Faa,al,Faa,lad (by omega),Nat.add_comm 1 i];rfl
  generalize ((al s.parts).map i64).drop 1=S at *
  have D7:qd (fun r=>∃ E,(r=(.ret,⟨E,[]⟩)/\E.get 4= .pv (i64 0)/\E.get 5= .pv (.bool false)/\Dh s.parts bs 0=none)\/(∃ k,r=(.exit 0,⟨E,[]⟩)/\E.get 6= .pv (i64 k)/\Dh s.parts bs 0=some k))
   (ab (ma (oa (Da (fun _=>none) 8) Ph) (na 0 [1,2,6,24,25,26])) ua ⟨DM [P,i64 s.first] B (.lit 1 S) s.parts.length 0 0,[]⟩):=by
   refine wa (Gb (g:=ma (oa (Da (fun _=>none) 8) Ph) (na 0 [1,2,6,24,25,26]))
    (fun i t=>∃ k,t=⟨DM [P,i64 s.first] B (.lit 1 S) s.parts.length i k,[]⟩/\0<=k/\k+Na (s.parts.drop i)<=Na s.parts/\Dh s.parts bs 0=Dh (s.parts.drop i) (bs.drop i) k)
    s.parts.length (by unfold ua;omega) _ ⟨0,rfl,by omega,by simp,rfl⟩ ?_ ?_) (fun r h=>h.2)
   ·rintro i t hi ⟨k,rfl,hk0,hk1,hs⟩
    obtain⟨v,hv,S8,_⟩:=hP.Pd hi []
    have a2:=hP.dy hv
    have J8:=Ba.parts s.parts[i] (saa hi)
    have hib:i < bs.length:=by omega
    have a3:=hB.Pd hib
    have hbr:=hB.By bs[i] (saa hib)
    have hd:s.parts.drop i=s.parts[i]::s.parts.drop (i+1):=Waa hi
    have hdb:bs.drop i=bs[i]::bs.drop (i+1):=Waa hib
    have hrr:=Iy v s.parts[i] S8.is S8.sz bs[i]
    rw[uK J8.2] at hrr;have hrb:=gn (x:=bs[i]) (n:=0) J8.2
    rw[hd,Na] at hk1;rw[hd,hdb,Dh] at hs;have hle:=gp Ba.parts (i+1)
    have j8:=zf (ls:=s.parts.drop (i+1)) fun x hx=>Ba.parts x (bac hx)
    have K7:=Xg J8;generalize s.parts[i]=l at *
    generalize bs[i]=x at *;have e1:decide ((i:Int) < (s.parts.length:Int))=true:=Ea (by omega);have t2:=Za hi (by unfold maxLen;omega);have t3:IntKind.i64.wrap x=x:=Aa (by omega)
    have a1:∀ H,ta H 1 (.pv (.lit 1 S)) (i:Int)=some (.pv (.rp [i64 (Na (s.parts.drop (i+1)))] 0)):=fun H=>by simp only[ta];rw[if_pos (by unfold Ia;simp;omega),Eaa,hde i hi];rfl
    obtain⟨⟨d,is⟩,Laf⟩:∃ r,r=Md x 0 l:=⟨_,rfl⟩;rw[<- Laf] at hrr hs hrb;generalize hQ:LN _ _ i=Q;cases is with
    |false=>simp only[Baa,if_false] at hs;simp -implicitDefEqProofs only[SX,sevalprocAttr,-List.reduceReplicate,Ph,e1,a1,a2,a3,r0,r1,q0,t3,hrr,DM];subst hQ;exact⟨_,.inl ⟨rfl,by simp[Tr.aa],by simp[Tr.aa],hs⟩⟩
    |true=>
     simp only[if_true] at hs;have s8:=hrb rfl;simp only at s8;have hmul:d * Na (s.parts.drop (i+1))+Na (s.parts.drop (i+1))<=Na (s.parts.drop (i+1)) * ib 0 l:=by have h1:(d+1) * Na (s.parts.drop (i+1))<=ib 0 l * Na (s.parts.drop (i+1)):=ead (by omega) (by omega);rw[Int.add_mul,Pae,jae (ib 0 l)] at h1;exact h1
     have hm0:0<=d * Na (s.parts.drop (i+1)):=Int.mul_nonneg (by omega) (by omega)
     have t4:IntKind.i64.wrap (d * Na (s.parts.drop (i+1)))=d * Na (s.parts.drop (i+1)):=Aa (by omega)
     have t5:IntKind.i64.wrap (k+d * Na (s.parts.drop (i+1)))=k+d * Na (s.parts.drop (i+1)):=Aa (by omega)
     simp -implicitDefEqProofs only[SX,sevalprocAttr,-List.reduceReplicate,Ph,e1,t2,t4,t5,a1,a2,a3,r0,r1,q0,t3,hrr,na,Ca,AV.cut,za,DM];subst hQ;exact⟨_,rfl,by omega,by omega,hs⟩
   ·rintro t ⟨k,rfl,hk0,hk1,hs⟩
    rw[Hab,Vr] at hs;have e1:decide ((s.parts.length:Int) < (s.parts.length:Int))=false:=Ga (by omega);generalize hQ:(fun r:Ex×St=>r.1.stop=true/\_)=Q;simp -implicitDefEqProofs only[SX,sevalprocAttr,-List.reduceReplicate,Ph,e1,DM];subst hQ;exact⟨rfl,_,.inr ⟨k,rfl,by simp[Tr.aa],hs⟩⟩
  obtain⟨r,h1,E,h2⟩:=wc D7;have s9:ab (ma (oa (Da (fun _=>none) 8) Ph) (na 0 [1,2,6,24,25,26])) ua ⟨(((((Tr.lf.set 26 (.pv (.int .i64 0))).set 25 (.pv (i64 s.parts.length))).set 24 (.pv (.lit 1 S))).set 6 (.pv (.int .i64 0))).set 2 (.pv (.rp [P,i64 s.first] 0))).set 1 (.pv B),[]⟩=some r:=h1;have d1:((bs.length:Int) != (s.parts.length:Int))=false:=by rw[hlen];simp
  rw[hrk];rcases h2 with⟨rfl,h4,h5,hn⟩ | ⟨k,rfl,h6,hk⟩
  ·refine⟨fun k hk=>by (rw[hn] at hk;cases hk),fun _=> ?_⟩
   simp -implicitDefEqProofs only[Cj,SX,sevalprocAttr,-List.reduceReplicate,uo,Db,E8,hB1,r2,r0,q0,H8,lP,lB,d1,W7,hsl,hdl,na,Ca,AV.cut,za,s9,h4,h5]
  ·refine⟨fun k' hk'=> ?_,fun hn=>by (rw[hk] at hn;cases hn)⟩
   obtain rfl:k=k':=Bad (hk.symm.trans hk');simp -implicitDefEqProofs only[Cj,SX,sevalprocAttr,-List.reduceReplicate,uo,Db,E8,hB1,r2,r0,q0,H8,lP,lB,d1,W7,hsl,hdl,na,Ca,AV.cut,za,s9,h6]
 ·have d1:((bs.length:Int) != (s.parts.length:Int))=true:=by
   have:(bs.length:Int)≠(s.parts.length:Int):=by omega
   simp[this]
  have hrk:Oi s bs=none:=by unfold Oi;rw[taa hlen]
  refine⟨fun k hk=>by (rw[hrk] at hk;cases hk),fun _=> ?_⟩;simp -implicitDefEqProofs only[Cj,SX,sevalprocAttr,-List.reduceReplicate,uo,Db,E8,hB1,r2,r0,q0,H8,lP,lB,d1]
abbrev TK(bs:List Int):List PV:=bs.map (PV.int .u8)
abbrev CS(row:List PV)(P:PV)(n i:Int)(tk:Nat)(es:List PV):Tr:=((((Tr.lf.set 19 (.pv (i64 i))).set 18 (.pv (i64 n))).set 17 (.pv P)).set 5 (.uq tk false 1 es)).set 2 (.pv (.rp row 0))
theorem aK{e:PV}{s:Ob}{P:PV}{ps:List PV}(h:fg e s P ps){B:PV}{bs:List Int}(hB:lk B bs)(Ba:Be s)(hlen:bs.length<=s.parts.length):
 ∃ k,Sk [e,B]=some (i64 k):=by
 have hh:=h;obtain⟨E8,hP2⟩:=h.Xz
 have heq:=h.eq
 subst heq;have hP:=h.parts
 have lP:=hP.Tb
 have lB:=hB.Tb
 have hB1:=hB.one
 have h8:=Ba.hi
 have hPl:P= .lit 1 ps:=hP.is.lit (i:=0) (by rw[hP.len];exact Ba.lo)
 have r2:∀ H (x y:PV),pa H true 2 (.pv (.rp [x,y] 0))=some (.pv (.agg [x,y])):=fun H x y=>rfl;have r0:∀ H (x y:PV),pa H false 1 (.pv (.rp [x,y] 0))=some (.pv x):=fun H x y=>rfl;have r01:∀ H (x y:PV),pa H false 1 (.pv (.rp [x,y] 1))=some (.pv y):=fun H x y=>rfl;have r1:∀ H (x:PV),pa H false 1 (.pv (.rp [x] 0))=some (.pv x):=fun H x=>rfl;have q0:∀ H (x y:PV),place H 0 (.pv (.rp [x,y] 0))=some (.pv (.rp [x,y] 0)):=fun H x y=>rfl;have q1:∀ H (x y:PV),place H 1 (.pv (.rp [x,y] 0))=some (.pv (.rp [x,y] 1)):=fun H x y=>rfl;have hsl:∀ H,ug H 1 (.pv P) (some (bs.length:Int)) none=some (.pv (.lit 1 (ps.drop bs.length))):=fun H=>by rw[hPl];exact PM H (by omega) (by rw[hP.len];exact hlen)
 have hdl:(ps.drop bs.length).length=s.parts.length - bs.length:=by rw[Pab,hP.len]
 have dak:Cb [.tok 1 0 false] false .uq 1 false 1 (.uq 0 false 1 []) (.pv B)=some (.uq 0 false 1 (TK bs),[.tok 1 bs.length false]):=by
  have he:Kf 1 (.pv B)=some (TK bs):=by
   rcases hB.is with⟨rfl,hbs⟩ | rfl
   ·have:TK bs=[]:=hbs
    rw[this];rfl
   ·simp[Kf,TK]
  simp only[Cb,Baa,if_false,jab,he,Daa,Dab,eab,cab];rw[if_pos ⟨trivial,trivial,trivial,by unfold eb;simp[TK];omega⟩];simp[TK]
 have D7:qd (fun r=>∃ E H bs',r=(.exit 0,⟨E,H⟩)/\E.get 5= .uq 0 false 1 (TK bs')/\E.get 2= .pv (.rp [P,i64 s.first] 0)/\∀ b∈bs',0<=b/\b<=255)
  (ab (ma (oa (Da (fun _=>none) 8) Ei) (na 1 [2,5,17,18,19])) ua ⟨CS [P,i64 s.first] (.lit 1 (ps.drop bs.length)) ((s.parts.length - bs.length:Nat):Int) 0 0 (TK bs),[.tok 1 bs.length false]⟩):=by
  refine wa (Gb (g:=ma (oa (Da (fun _=>none) 8) Ei) (na 1 [2,5,17,18,19]))
   (fun i t=>∃ bs',t=⟨CS [P,i64 s.first] (.lit 1 (ps.drop bs.length)) ((s.parts.length - bs.length:Nat):Int) i 0 (TK bs'),[.tok 1 bs'.length false]⟩/\bs'.length=bs.length+i/\∀ b∈bs',0<=b/\b<=255)
   (s.parts.length - bs.length) (by unfold ua;omega) _ ⟨bs,rfl,rfl,hB.By⟩ ?_ ?_) (fun r h=>h.2)
  ·rintro i t hi ⟨bs',rfl,T8,N8⟩
   obtain⟨v,hv,Ran,S8⟩:=hP.get (i:=bs.length+i) (by omega)
   have J8:=Ba.parts _ (saa (show bs.length+i < s.parts.length by omega))
   generalize s.parts[bs.length+i]=l at *
   obtain⟨p0,l',rfl⟩:=List.exists_cons_of_ne_nil J8.1
   have hvl:v= .lit 2 (ae (p0::l')):=S8.is.lit (i:=0) (by simp)
   have O7:v.cells=[v]:=by rw[hvl];rfl
   have e1:decide ((i:Int) < ((s.parts.length - bs.length:Nat):Int))=true:=Ea (by omega);have t2:=Za hi (by unfold maxLen;omega);have a1:∀ H,ta H 1 (.pv (.lit 1 (ps.drop bs.length))) (i:Int)=some (.pv (.rp [v] 0)):=fun H=>by simp only[ta];rw[if_pos (by have:=hP.len;unfold Ia;simp;omega),Eaa,uae,hv];simp[O7]
   have i0:∀ H,ta H 2 (.pv v) 0=some (.pv (.rp [i64 p0.1,i64 p0.2] 0)):=fun H=>by rw[hvl];exact ym H (i:=0) (l:=p0::l') (by simp)
   have hb0:=Fs J8.2 p0 (by simp)
   have t3:IntKind.u8.wrap p0.1=p0.1:=wrap_u8 (by omega)
   have e8:=Et (A:=[.tok 1 bs'.length false]) (id:=0) (n:=bs'.length) (h:= .uq) (nl:=false) (bytes:=1) (es:=TK bs') rfl (by simp[TK]) (by unfold eb;omega) (.int .u8 p0.1);rw[nac] at e8;have hbm:TK (bs'++[p0.1])=TK bs'++[.int .u8 p0.1]:=by simp[TK]
   clear hvl;generalize hQ:LN _ _ i=Q;simp -implicitDefEqProofs only[SP,WP,fa,sevalprocAttr,Ei,e1,t2,t3,a1,i0,r0,r1,q0,e8,na,Ca,AV.cut,qa,za,CS];subst hQ;refine⟨bs'++[p0.1],by rw[hbm];simp,by simp;omega,?_⟩;intro b hb;rcases Naa.1 hb with h | h
   ·exact N8 b h
   ·simp at h;subst h;omega
  ·rintro t ⟨bs',rfl,T8,N8⟩
   have e1:decide (((s.parts.length - bs.length:Nat):Int) < ((s.parts.length - bs.length:Nat):Int))=false:=Ga (by omega);generalize hQ:(fun r:Ex×St=>r.1.stop=true/\_)=Q;simp -implicitDefEqProofs only[SX,sevalprocAttr,Ei,e1,CS];subst hQ;exact⟨rfl,_,_,bs',rfl,by simp[Tr.aa],by simp[Tr.aa],N8⟩
 obtain⟨r,h1,E,H,bs',rfl,hE5,hE2,N8⟩:=wc D7;have s9:ab (ma (oa (Da (fun _=>none) 8) Ei) (na 1 [2,5,17,18,19])) ua ⟨((((Tr.lf.set 19 (.pv (.int .i64 0))).set 18 (.pv (i64 ((s.parts.length - bs.length:Nat):Int)))).set 17 (.pv (.lit 1 (ps.drop bs.length)))).set 5 (.uq 0 false 1 (TK bs))).set 2 (.pv (.rp [P,i64 s.first] 0)),[.tok 1 bs.length false]⟩=_:=h1;have hBl:lk (.lit 1 (TK bs')) bs':=⟨.inr rfl,N8⟩;have hrk:=sG hh hBl Ba;have eak:∃ k b,Cj [.agg [P,i64 s.first],.lit 1 (TK bs')]=some (.mc [i64 k,.bool b]):=by
  cases hk:Oi s bs' with
  |some k=>exact⟨k,true,hrk.1 k hk⟩
  |none=>exact⟨0,false,hrk.2 hk⟩
 obtain⟨k,b,hk⟩:=eak;refine⟨IntKind.i64.wrap (s.first+k),?_⟩;clear hPl;generalize TK bs=ub at *;generalize TK bs'=ub' at *;simp -implicitDefEqProofs only[Sk,SP,WP,fa,sevalprocAttr,Wt,Db,E8,hB1,r2,r0,r01,q0,q1,lP,lB,dak,hsl,hdl,na,Ca,AV.cut,qa,za,s9,hE5,hE2,hk]
theorem qb.Pd{S:PV}{ss:List Ob}{es:List PV}(hS:qb S ss es){i:Nat}(hi:i < ss.length):∃ P ps,fg (.agg [P,i64 ss[i].first]) ss[i] P ps/\∀ H,ta H 2 (.pv S) (i:Int)=some (.pv (.rp [P,i64 ss[i].first] 0)):=by
 obtain⟨e,P,ps,he,hSl,hsh⟩:=hS.get hi
 have heq:=hsh.eq
 subst heq;refine⟨P,ps,hsh,fun H=> ?_⟩;have hq:i < es.length:=by rw[hS.len];exact hi
 rw[hSl];simp only[ta];rw[if_pos (by unfold Ia;simp;omega),Eaa,he];rfl
def vf(p q:Ob):Bool:=(ec p.parts q.parts p.parts.length 0).isSome
abbrev Vb(y:Bool)(a b:Int):ba:= .box [.pv (.bool y),.pv (i64 a),.pv (i64 b)]
abbrev xi(P:PV)(f:Int):ba:= .box [.pv P,.pv (i64 f)]
abbrev HJ(S:PV)(cix:Nat)(n i j:Int):Tr:=
 (((((((((((Tr.lf.set 29 (.pv (i64 j))).set 28 (.pv (i64 n))).set 27 (.pv S)).set 21 (.pv (i64 i))).set 20 (.pv (i64 n))).set 19 (.pv S)).set 8 (.ptr 4 0)).set 7 (.pv (i64 i))).set 6 (.ptr 3 0)).set 4 (.ptr 2 0)).set 2 (.pv (.rp [S] 0))).set 1 (.Ol cix [.ptr 0 0])
abbrev fR(S:PV)(cix:Nat)(n i:Int):Tr:=
 ((((((Tr.lf.set 21 (.pv (i64 i))).set 20 (.pv (i64 n))).set 19 (.pv S)).set 6 (.ptr 3 0)).set 4 (.ptr 2 0)).set 2 (.pv (.rp [S] 0))).set 1 (.Ol cix [.ptr 0 0])
structure Q3(call:Sa)(cix:Nat)(S:PV)(n:Nat)(ask:Nat->Nat->Bool):Prop where
 run:∀ (i j:Nat)(H:List ba),i < n->j < n->H[0]? =some (.box [.pv S])->call cix [.pv (i64 i),.pv (i64 j),.ptr 0 0] H=some (.pv (.bool (ask i j)),H)
section
variable {call:Sa}{cix:Nat}{S:PV}{ss:List Ob}{es:List PV}{ask:Nat->Nat->Bool}(hS:qb S ss es)(Ba:Xb ss)(hA:Q3 call cix S ss.length ask)
 (Xad:∀ i j,(hi:i < ss.length)->(hj:j < ss.length)->ask i j=true->ss[i].parts.length<=ss[j].parts.length)
include hS Ba hA Xad
theorem FL{i:Nat}(hi:i < ss.length){P:PV}(hP:∃ ps,fg (.agg [P,i64 ss[i].first]) ss[i] P ps)(X:ba)(hX:∀ n,qa n X=some X):
 qd (fun r=>(∃ E,r=(.exit 2,⟨E,[.box [.pv S],X,Vb false 0 0,Vb true 0 0,xi P ss[i].first]⟩)/\E.get 1= .Ol cix [.ptr 0 0]/\E.get 2= .pv (.rp [S] 0)/\E.get 4= .ptr 2 0/\E.get 6= .ptr 3 0/\E.get 19= .pv S/\E.get 20= .pv (i64 ss.length)/\E.get 21= .pv (i64 i)/\∀ j,(hj:j < ss.length)->ask i j=true->vf ss[i] ss[j]=false)\/
  (∃ E a b T,r=(.exit 0,⟨E,[.box [.pv S],X,Vb false 0 0,Vb false a b]++T⟩)/\E.get 4= .ptr 2 0/\E.get 6= .ptr 3 0/\∃ j,∃ hj:j < ss.length,ask i j=true/\vf ss[i] ss[j]=true))
  (ab (ma (oa call Fg) (na 5 [1,2,4,6,7,8,19,20,21,27,28,29])) ua ⟨HJ S cix ss.length i 0,[.box [.pv S],X,Vb false 0 0,Vb true 0 0,xi P ss[i].first]⟩):=by
 obtain⟨ps,hPs⟩:=hP;have h32:=Ba.len
 have okp:=Ba.ft _ (saa hi)
 have u9:(AV.pv S).one=true:=by rcases hS.is with⟨h,_⟩ | h <;> rw[h] <;> rfl
 obtain⟨E8,hP2⟩:=hPs.Xz
 have lP:=hPs.parts.Tb
 have Aah:=fun j hj=>Xad i j hi hj;have hAi:=fun j H (hj:j < ss.length)=>hA.run i j H hi hj
 generalize hp:ss[i]=p at *;refine wa (Gb (g:=ma (oa call Fg) (na 5 [1,2,4,6,7,8,19,20,21,27,28,29]))
  (fun j t=>t=⟨HJ S cix ss.length i j,[.box [.pv S],X,Vb false 0 0,Vb true 0 0,xi P p.first]⟩/\∀ j',j' < j->(hj:j' < ss.length)->ask i j'=true->vf p ss[j']=false)
  ss.length (by unfold ua;omega) _ ⟨rfl,fun j' h=>by omega⟩ ?_ ?_) (fun r h=>h.2)
 ·rintro j t hj ⟨rfl,hno⟩
  obtain⟨Q,qs,hQs,a1⟩:=hS.Pd hj
  have okq:=Ba.ft _ (saa hj)
  have hcm:=zP hPs hQs okp okq (n:=p.parts.length) (waa _);have gad:∀ (b:Bool),(ask i j=true->vf p ss[j]=false)->∀ j',j' < j+1->(hj:j' < ss.length)->ask i j'=true->vf p ss[j']=false:=by
   intro _ h j' hj' hjj ha;rcases Xaa j' j with h1 | h1
   ·exact hno j' h1 hjj ha
   ·have:j'=j:=by omega
    subst this;exact h ha
  have hle:=Aah j hj;obtain⟨hQ1,hQ2⟩:=hQs.Xz
  have lQ:=hQs.parts.Tb
  have hmt:vf p ss[j]=(ec p.parts ss[j].parts p.parts.length 0).isSome:=rfl
  rw[hmt] at gad;have hex:ask i j=true->(ec p.parts ss[j].parts p.parts.length 0).isSome=true->∃ j,∃ hj:j < ss.length,ask i j=true/\vf p ss[j]=true:=fun h1 h2=>⟨j,hj,h1,h2⟩
  have Maf:∀ {B:PV}{bs:List Int},lk B bs->bs.length<=ss[j].parts.length->∃ k,Sk [.agg [Q,i64 ss[j].first],B]=some (i64 k):=fun h1 h2=>aK hQs h1 okq h2
  generalize ss[j]=q at *;have e1:decide ((j:Int) < (ss.length:Int))=true:=Ea (by omega);have t2:=Za hj (by unfold maxLen;omega);have a2:∀ H,pa H true 2 (.pv (.rp [Q,i64 q.first] 0))=some (.pv (.agg [Q,i64 q.first])):=fun H=>rfl;have s1:Ha [.box [.pv S],X,Vb false 0 0,Vb true 0 0,xi P p.first,.box [.pv .ga,.pv (i64 0)]] 2 (.ptr 5 0) (.pv (.agg [Q,i64 q.first]))=some [.box [.pv S],X,Vb false 0 0,Vb true 0 0,xi P p.first,xi Q q.first]:=
   Ep _ _ _ _ hQ1 rfl [.box [.pv S],X,Vb false 0 0,Vb true 0 0,xi P p.first] _ rfl
  have hak:=hAi j [.box [.pv S],X,Vb false 0 0,Vb true 0 0,xi P p.first,xi Q q.first] hj rfl;have l1:pa [.box [.pv S],X,Vb false 0 0,Vb true 0 0,xi P p.first,xi Q q.first] true 2 (.ptr 4 0)=some (.pv (.agg [P,i64 p.first])):=rfl;have l2:pa [.box [.pv S],X,Vb false 0 0,Vb true 0 0,xi P p.first,xi Q q.first] true 2 (.ptr 5 0)=some (.pv (.agg [Q,i64 q.first])):=rfl;have l3:pa [.box [.pv S],X,Vb false 0 0,Vb true 0 0,xi P p.first,xi Q q.first] false 1 (.ptr 4 0)=some (.pv P):=rfl;have p3:place [.box [.pv S],X,Vb false 0 0,Vb true 0 0,xi P p.first,xi Q q.first] 0 (.ptr 4 0)=some (.ptr 4 0):=rfl;have s2:∀ a b:Int,Ha [.box [.pv S],X,Vb false 0 0,Vb true 0 0,xi P p.first,xi Q q.first] 3 (.ptr 3 0) (.pv (.agg [.bool false,i64 a,i64 b]))=some [.box [.pv S],X,Vb false 0 0,Vb false a b,xi P p.first,xi Q q.first]:=fun a b=>rfl;have aaa:Ra (qa 5) [.box [.pv S],X,Vb false 0 0,Vb true 0 0,xi P p.first]=some [.box [.pv S],X,Vb false 0 0,Vb true 0 0,xi P p.first]:=by refine Bm ?_;intro o ho;simp only[bab,oac,or_false] at ho;rcases ho with rfl | rfl | rfl | rfl | rfl <;> first | exact hX _ | simp[qa,Ra,Qa]
  have Z7:∀ o:ba,[.box [.pv S],X,Vb false 0 0,Vb true 0 0,xi P p.first,o].take 5=[.box [.pv S],X,Vb false 0 0,Vb true 0 0,xi P p.first]:=fun o=>rfl
  have c3:(3 < 5)=True:=by simp
  have c2:(2 < 5)=True:=by simp
  have c4:(4 < 5)=True:=by simp
  have c0:(0 < 5)=True:=by simp
  have hd:deep=6:=rfl;generalize P7:LN _ _ j=QQ;cases gac:ask i j with
  |false=>rw[gac] at hak;simp -implicitDefEqProofs only[SP,WP,fa,sevalprocAttr,Fg,e1,t2,a1,a2,s1,hak,aaa,Z7,c0,c2,c3,c4,na,Ca,AV.cut,za,HJ];subst P7;exact⟨rfl,gad true (fun h=>by rw[gac] at h;cases h)⟩
  |true=>
   rw[gac] at hak;have hcm:=hcm (hle gac);cases hc:ec p.parts q.parts p.parts.length 0 with
   |none=>
    have h1:=hcm.1 hc
    simp -implicitDefEqProofs only[SP,WP,fa,sevalprocAttr,Fg,e1,t2,a1,a2,s1,hak,l1,l2,l3,p3,lP,h1,aaa,Z7,c0,c2,c3,c4,na,Ca,AV.cut,za,HJ];subst P7;exact⟨rfl,gad true (fun _=>by rw[hc];rfl)⟩
   |some bs=>
    obtain⟨v,h1,hv,hbl,hbr⟩:=hcm.2 bs hc
    have hB:lk v bs:=⟨hv,hbr⟩;obtain⟨k1,hk1⟩:=aK hPs hB okp (by omega);obtain⟨k2,D8⟩:=Maf hB (by have:=hle gac;omega);simp -implicitDefEqProofs only[SP,WP,fa,sevalprocAttr,Fg,e1,a1,a2,s1,hak,l1,l2,l3,p3,lP,h1,hk1,D8,s2,HJ];subst P7;exact .inr ⟨_,k1,k2,[xi P p.first,xi Q q.first],rfl,by simp[Tr.aa],by simp[Tr.aa],hex gac (by rw[hc];rfl)⟩
 ·rintro t ⟨rfl,hno⟩
  have e1:decide ((ss.length:Int) < (ss.length:Int))=false:=Ga (by omega);generalize hQ:(fun r:Ex×St=>r.1.stop=true/\_)=Q;simp -implicitDefEqProofs only[SX,sevalprocAttr,Fg,e1,HJ];subst hQ;exact⟨rfl,.inl ⟨_,rfl,by simp[Tr.aa],by simp[Tr.aa],by simp[Tr.aa],by simp[Tr.aa],by simp[Tr.aa],by simp[Tr.aa],by simp[Tr.aa],fun j hj ha=>hno j hj hj ha⟩⟩
theorem wK(X:ba)(hX:∀ n,qa n X=some X):
 qd (fun r=>(∃ E,r=(.exit 0,⟨E,[.box [.pv S],X,Vb false 0 0,Vb true 0 0]⟩)/\E.get 4= .ptr 2 0/\E.get 6= .ptr 3 0/\∀ i j,(hi:i < ss.length)->(hj:j < ss.length)->ask i j=true->vf ss[i] ss[j]=false)\/
  (∃ E a b T,r=(.exit 0,⟨E,[.box [.pv S],X,Vb false 0 0,Vb false a b]++T⟩)/\E.get 4= .ptr 2 0/\E.get 6= .ptr 3 0/\∃ i j,∃ hi:i < ss.length,∃ hj:j < ss.length,ask i j=true/\vf ss[i] ss[j]=true))
  (ab (ma (oa call Dj) (na 4 [1,2,4,6,19,20,21])) ua ⟨fR S cix ss.length 0,[.box [.pv S],X,Vb false 0 0,Vb true 0 0]⟩):=by
 have h32:=Ba.len
 have lS:=hS.Tb
 refine wa (Gb (g:=ma (oa call Dj) (na 4 [1,2,4,6,19,20,21]))
  (fun i t=>t=⟨fR S cix ss.length i,[.box [.pv S],X,Vb false 0 0,Vb true 0 0]⟩/\∀ i' j,i' < i->(hi:i' < ss.length)->(hj:j < ss.length)->ask i' j=true->vf ss[i'] ss[j]=false)
  ss.length (by unfold ua;omega) _ ⟨rfl,fun i' j h=>by omega⟩ ?_ ?_) (fun r h=>h.2)
 ·rintro i t hi ⟨rfl,hno⟩
  obtain⟨P,ps,hPs,a1⟩:=hS.Pd hi
  have U8:=FL hS Ba hA Xad hi ⟨ps,hPs⟩ X hX;obtain⟨E8,hP2⟩:=hPs.Xz
  have gad:(∀ j,(hj:j < ss.length)->ask i j=true->vf ss[i] ss[j]=false)->∀ i' j,i' < i+1->(hi:i' < ss.length)->(hj:j < ss.length)->ask i' j=true->vf ss[i'] ss[j]=false:=by
   intro h i' j hi' hii hj ha;rcases Xaa i' i with h1 | h1
   ·exact hno i' j h1 hii hj ha
   ·have:i'=i:=by omega
    subst this;exact h j hj ha
  have hex:(∃ j,∃ hj:j < ss.length,ask i j=true/\vf ss[i] ss[j]=true)->∃ i j,∃ hi:i < ss.length,∃ hj:j < ss.length,ask i j=true/\vf ss[i] ss[j]=true:=fun ⟨j,hj,h⟩=>⟨i,j,hi,hj,h⟩
  generalize ss[i]=p at *;have e1:decide ((i:Int) < (ss.length:Int))=true:=Ea (by omega);have t2:=Za hi (by unfold maxLen;omega);have a2:∀ H,pa H true 2 (.pv (.rp [P,i64 p.first] 0))=some (.pv (.agg [P,i64 p.first])):=fun H=>rfl;have s1:Ha [.box [.pv S],X,Vb false 0 0,Vb true 0 0,.box [.pv .ga,.pv (i64 0)]] 2 (.ptr 4 0) (.pv (.agg [P,i64 p.first]))=some [.box [.pv S],X,Vb false 0 0,Vb true 0 0,xi P p.first]:=
   Ep _ _ _ _ E8 rfl [.box [.pv S],X,Vb false 0 0,Vb true 0 0] _ rfl
  have vab:∀ T,Ra (qa 4) (([.box [.pv S],X,Vb false 0 0,Vb true 0 0]++T).take 4)=some [.box [.pv S],X,Vb false 0 0,Vb true 0 0]:=fun T=>by refine Bm ?_;intro o ho;simp only[fab,cab,yad,List.take_zero,bab,oac,or_false] at ho;rcases ho with rfl | rfl | rfl | rfl <;> first | exact hX _ | simp[qa,Ra,Qa]
  have Qae:∀ o,Ra (qa 4) ([.box [.pv S],X,Vb false 0 0,Vb true 0 0,o].take 4)=some [.box [.pv S],X,Vb false 0 0,Vb true 0 0]:=fun o=>vab [o];have aaa:Ra (qa 5) [.box [.pv S],X,Vb false 0 0,Vb true 0 0,xi P p.first]=some [.box [.pv S],X,Vb false 0 0,Vb true 0 0,xi P p.first]:=by refine Bm ?_;intro o ho;simp only[bab,oac,or_false] at ho;rcases ho with rfl | rfl | rfl | rfl | rfl <;> first | exact hX _ | simp[qa,Ra,Qa]
  have oaa:([.box [.pv S],X,Vb false 0 0,Vb true 0 0,xi P p.first]:List ba).take 5=[.box [.pv S],X,Vb false 0 0,Vb true 0 0,xi P p.first]:=rfl
  have r0:∀ H (x:PV),pa H false 1 (.pv (.rp [x] 0))=some (.pv x):=fun H x=>rfl;have q0:∀ H (x:PV),place H 0 (.pv (.rp [x] 0))=some (.pv (.rp [x] 0)):=fun H x=>rfl;have c3:(3 < 5)=True:=by simp
  have c2:(2 < 5)=True:=by simp
  have c4:(4 < 5)=True:=by simp
  have c0:(0 < 5)=True:=by simp
  have d3:(3 < 4)=True:=by simp
  have d2:(2 < 4)=True:=by simp
  have d0:(0 < 4)=True:=by simp
  generalize P7:LN _ _ i=QQ;simp -implicitDefEqProofs only[SP,WP,fa,sevalprocAttr,Dj,Db,e1,a1,a2,s1,r0,q0,lS,aaa,oaa,c0,c2,c3,c4,na,Ca,AV.cut,za,fR];refine wa U8 ?_;rintro r (⟨E,rfl,g1,g2,g4,g6,g19,g20,g21,hn⟩ | ⟨E,a,b,T,rfl,g4,g6,hy⟩)
  ·simp -implicitDefEqProofs only[SP,WP,fa,sevalprocAttr,g1,g2,g4,g6,g19,g20,g21,t2,hX 4,d0,d2,d3,na,Ca,AV.cut,za]
   subst P7;exact⟨rfl,gad hn⟩
  ·simp -implicitDefEqProofs only[SP,WP,fa,sevalprocAttr]
   subst P7;exact .inr ⟨E,a,b,T,rfl,g4,g6,hex hy⟩
 ·rintro t ⟨rfl,hno⟩
  have e1:decide ((ss.length:Int) < (ss.length:Int))=false:=Ga (by omega);generalize hQ:(fun r:Ex×St=>r.1.stop=true/\_)=Q;simp -implicitDefEqProofs only[SX,sevalprocAttr,Dj,e1,fR];subst hQ;exact⟨rfl,.inl ⟨_,rfl,by simp[Tr.aa],by simp[Tr.aa],fun i j hi hj ha=>hno i j hi hi hj ha⟩⟩
theorem aG(X:ba)(hX:∀ n,qa n X=some X):
 ∃ y a b T,ef call Tg [.pv (.agg [S]),.Ol cix [.ptr 0 0]] [.box [.pv S],X]=some (.pv (.mc [.agg [.bool y,i64 a,i64 b],i64 0]),[.box [.pv S],X]++T)/\
  (y=true↔∀ i j,(hi:i < ss.length)->(hj:j < ss.length)->ask i j=true->vf ss[i] ss[j]=false):=by
 have lS:=hS.Tb
 have u9:(AV.pv S).one=true:=by rcases hS.is with⟨h,_⟩ | h <;> rw[h] <;> rfl
 obtain⟨b,hv,hvb⟩:=Dm hS;have:=hvb.2 Ba
 subst this;have y8:=wK hS Ba hA Xad X hX;have s1:Ha [.box [.pv S],X,Vb false 0 0,.box [.pv (.bool false),.pv (i64 0),.pv (i64 0)]] 3 (.ptr 3 0) (.pv (.agg [.bool true,i64 0,i64 0]))=some [.box [.pv S],X,Vb false 0 0,Vb true 0 0]:=rfl;have vab:Ra (qa 4) [.box [.pv S],X,Vb false 0 0,Vb true 0 0]=some [.box [.pv S],X,Vb false 0 0,Vb true 0 0]:=by refine Bm ?_;intro o ho;simp only[bab,oac,or_false] at ho;rcases ho with rfl | rfl | rfl | rfl <;> first | exact hX _ | simp[qa,Ra,Qa]
 have wab:([.box [.pv S],X,Vb false 0 0,Vb true 0 0]:List ba).take 4=[.box [.pv S],X,Vb false 0 0,Vb true 0 0]:=rfl
 have r1:∀ H (x:PV),pa H true 1 (.pv (.rp [x] 0))=some (.pv (.agg [x])):=fun H x=>rfl;have r0:∀ H (x:PV),pa H false 1 (.pv (.rp [x] 0))=some (.pv x):=fun H x=>rfl;have q0:∀ H (x:PV),place H 0 (.pv (.rp [x] 0))=some (.pv (.rp [x] 0)):=fun H x=>rfl;have d3:(3 < 4)=True:=by simp
 have d2:(2 < 4)=True:=by simp
 have d0:(0 < 4)=True:=by simp
 have key:qd (fun r=>∃ y a b T,r=(.pv (.mc [.agg [.bool y,i64 a,i64 b],i64 0]),[.box [.pv S],X]++T)/\(y=true↔∀ i j,(hi:i < ss.length)->(hj:j < ss.length)->ask i j=true->vf ss[i] ss[j]=false))
  (ef call Tg [.pv (.agg [S]),.Ol cix [.ptr 0 0]] [.box [.pv S],X]):=by
  generalize P7:(fun r:AV×List ba=>_)=QQ;simp -implicitDefEqProofs only[SP,WP,fa,sevalprocAttr,Tg,Db,u9,r1,r0,q0,hv,lS,s1,vab,wab,d0,d2,d3,na,Ca,AV.cut,za];refine wa y8 ?_;rintro r (⟨E,rfl,g4,g6,hn⟩ | ⟨E,a,b,T,rfl,g4,g6,i,j,hi,hj,h1,h2⟩)
  ·have l1:pa [.box [.pv S],X,Vb false 0 0,Vb true 0 0] true 3 (.ptr 3 0)=some (.pv (.agg [.bool true,i64 0,i64 0])):=rfl
   have s2:Ha [.box [.pv S],X,Vb false 0 0,Vb true 0 0] 3 (.ptr 2 0) (.pv (.agg [.bool true,i64 0,i64 0]))=some [.box [.pv S],X,Vb true 0 0,Vb true 0 0]:=rfl;have l2:pa [.box [.pv S],X,Vb true 0 0,Vb true 0 0] true 3 (.ptr 2 0)=some (.pv (.agg [.bool true,i64 0,i64 0])):=rfl;simp -implicitDefEqProofs only[SP,WP,fa,sevalprocAttr,g4,g6,l1,s2,l2];subst P7;exact⟨true,0,0,_,rfl,by simpa using hn⟩
  ·have l1:pa ([.box [.pv S],X,Vb false 0 0,Vb false a b]++T) true 3 (.ptr 3 0)=some (.pv (.agg [.bool false,i64 a,i64 b])):=rfl
   have s2:Ha ([.box [.pv S],X,Vb false 0 0,Vb false a b]++T) 3 (.ptr 2 0) (.pv (.agg [.bool false,i64 a,i64 b]))=some ([.box [.pv S],X,Vb false a b,Vb false a b]++T):=rfl;have l2:pa ([.box [.pv S],X,Vb false a b,Vb false a b]++T) true 3 (.ptr 2 0)=some (.pv (.agg [.bool false,i64 a,i64 b])):=rfl;generalize hA1:[.box [.pv S],X,Vb false 0 0,Vb false a b]++T=A1 at *;generalize hA2:[.box [.pv S],X,Vb false a b,Vb false a b]++T=A2 at *;simp -implicitDefEqProofs only[SP,WP,fa,sevalprocAttr,g4,g6,l1,s2,l2];subst P7 hA2;refine⟨false,a,b,_,rfl,?_⟩;simp only[Baa,false_iff];intro h;rw[h i j hi hj h1] at h2;cases h2
 obtain⟨r,h1,y,a,b,T,rfl,h2⟩:=wc key;exact⟨y,a,b,T,h1,h2⟩
end
def Df(ss:List Ob):Prop:=∀ i j,(hi:i < ss.length)->(hj:j < ss.length)->ss[i].parts.length < ss[j].parts.length->vf ss[i] ss[j]=false
theorem LM(call:Sa){S:PV}{ss:List Ob}{es:List PV}(hS:qb S ss es)(i j:Nat)(H:List ba)(hi:i < ss.length)(hj:j < ss.length)(hH:H[0]? =some (.box [.pv S])):
 ef call Bi [.pv (i64 i),.pv (i64 j),.ptr 0 0] H=some (.pv (.bool (decide (ss[i].parts.length < ss[j].parts.length))),H):=by
 obtain⟨P,ps,hPs,a1⟩:=hS.Pd hi
 obtain⟨Q,qs,hQs,a2⟩:=hS.Pd hj
 have lP:=hPs.parts.Tb
 have lQ:=hQs.parts.Tb
 have p0:place H 0 (.ptr 0 0)=some (.ptr 0 0):=by simp[place,hH]
 have l0:pa H false 1 (.ptr 0 0)=some (.pv S):=by simp[pa,hH,Lh]
 have r0:∀ H (x y:PV),pa H false 1 (.pv (.rp [x,y] 0))=some (.pv x):=fun H x y=>rfl;have q0:∀ H (x y:PV),place H 0 (.pv (.rp [x,y] 0))=some (.pv (.rp [x,y] 0)):=fun H x y=>rfl;have e:decide ((ss[i].parts.length:Int) < (ss[j].parts.length:Int))=decide (ss[i].parts.length < ss[j].parts.length):=by simp
 generalize ss[i]=p at *;generalize ss[j]=q at *
 by_cases hij:P=Q
 ·subst hij
  have:p.parts.length=q.parts.length:=by have h1:=lP [];have h2:=lQ [];rw[h1] at h2;exact Bad h2
  rw[this] at lP e ⊢;simp -implicitDefEqProofs only[SP,WP,fa,sevalprocAttr,Bi,p0,l0,a1,a2,r0,q0,lP,e]
 ·simp -implicitDefEqProofs only[SP,WP,fa,sevalprocAttr,Bi,p0,l0,a1,a2,r0,q0,lP,lQ,e]
theorem lG{S:PV}{ss:List Ob}{es:List PV}(hS:qb S ss es):
 (¬ Xb ss->gf [.agg [S]]=some (.mc [.agg [.bool false,i64 0,i64 0],i64 84]))/\
 (Xb ss->∃ y a b,gf [.agg [S]]=some (.mc [.agg [.bool y,i64 a,i64 b],i64 0])/\(y=true↔Df ss)):=by
 have u9:(AV.pv S).one=true:=by rcases hS.is with⟨h,_⟩ | h <;> rw[h] <;> rfl
 have c25:Vj 25=some Tg:=rfl;have s0:pa [.box [.pv S],Vb false 0 0] true 1 (.ptr 0 0)=some (.pv (.agg [S])):=rfl;constructor
 ·intro hno
  obtain⟨b,hv,hvb⟩:=Dm hS;have hb:b=false:=by cases b with | false=>rfl | true=>exact absurd (hvb.1 rfl) hno
  subst hb;have r1:∀ H (x:PV),pa H true 1 (.pv (.rp [x] 0))=some (.pv (.agg [x])):=fun H x=>rfl;have s1:Ha [.box [.pv S],Vb false 0 0,.box [.pv (.bool false),.pv (i64 0),.pv (i64 0)]] 3 (.ptr 2 0) (.pv (.agg [.bool false,i64 0,i64 0]))=some [.box [.pv S],Vb false 0 0,Vb false 0 0]:=rfl;have l2:pa [.box [.pv S],Vb false 0 0,Vb false 0 0] true 3 (.ptr 2 0)=some (.pv (.agg [.bool false,i64 0,i64 0])):=rfl;have s2:Ha [.box [.pv S],Vb false 0 0,Vb false 0 0] 3 (.ptr 1 0) (.pv (.agg [.bool false,i64 0,i64 0]))=some [.box [.pv S],Vb false 0 0,Vb false 0 0]:=rfl;have l3:pa [.box [.pv S],Vb false 0 0,Vb false 0 0] true 3 (.ptr 1 0)=some (.pv (.agg [.bool false,i64 0,i64 0])):=rfl;simp -implicitDefEqProofs only[gf,SP,WP,fa,sevalprocAttr,Fo,c25,Tg,u9,s0,r1,hv,s1,l2,s2,l3]
 ·intro Ba
  have hA:Q3 (Da Vj 7) 4 S ss.length (fun i j=>if h:i < ss.length/\j < ss.length then decide (ss[i].parts.length < ss[j].parts.length) else false):=by refine⟨fun i j H hi hj hH=> ?_⟩;rw[ai Vj 6 4 _ H (f:=Bi) rfl,LM _ hS i j H hi hj hH,dif_pos ⟨hi,hj⟩]
  obtain⟨y,a,b,T,h1,h2⟩:=aG hS Ba hA (fun i j hi hj h=>by rw[dif_pos ⟨hi,hj⟩] at h;have:=of_decide_eq_true h;omega) (Vb false 0 0) (fun n=>by simp[qa,Ra,Qa]);refine⟨y,a,b,?_,?_⟩
  ·have s2:Ha ([.box [.pv S],Vb false 0 0]++T) 3 (.ptr 1 0) (.pv (.agg [.bool y,i64 a,i64 b]))=some ([.box [.pv S],Vb y a b]++T):=rfl
   have l3:pa ([.box [.pv S],Vb y a b]++T) true 3 (.ptr 1 0)=some (.pv (.agg [.bool y,i64 a,i64 b])):=rfl;generalize hA1:[.box [.pv S],Vb false 0 0]++T=A1 at *;generalize hA2:[.box [.pv S],Vb y a b]++T=A2 at *;simp -implicitDefEqProofs only[gf,SP,WP,fa,sevalprocAttr,Fo,c25,u9,s0,h1,s2,l3]
  ·rw[h2]
   unfold Df;constructor
   ·intro h i j hi hj hlt
    exact h i j hi hj (by rw[dif_pos ⟨hi,hj⟩];exact decide_eq_true hlt)
   ·intro h i j hi hj hlt
    rw[dif_pos ⟨hi,hj⟩] at hlt;exact h i j hi hj (of_decide_eq_true hlt)
def cellsOf(n:Nat)(g:Nat->AV):List AV:=(List.range n).map g
theorem Yg(n:Nat)(g:Nat->AV):(cellsOf n g).length=n:=by simp[cellsOf]
theorem Ut{n i:Nat}(g:Nat->AV)(h:i < n):(cellsOf n g)[i]? =some (g i):=by simp[cellsOf,h]
def Rx(g:Nat->AV)(i:Nat)(v:AV):Nat->AV:=fun j=>if j=i then v else g j
theorem dv(g:Nat->AV)(i:Nat)(v:AV):Rx g i v i=v:=if_pos rfl
theorem gw(g:Nat->AV){i j:Nat}(v:AV)(h:j≠i):Rx g i v j=g j:=taa h
theorem bE{n i:Nat}(g:Nat->AV)(v:AV):(cellsOf n g).set i v=cellsOf n (Rx g i v):=by
 apply Vab;intro j
 by_cases hj:j < n
 ·rw[Ut _ hj]
  by_cases h:i=j
  ·subst h;rw[Qaa (by rw[Yg];exact hj),dv]
  ·rw[Jaa h,Ut _ hj,gw _ _ (rac h)]
 ·rw[Yaa (by rw[uac,Yg];omega),Yaa (by rw[Yg];omega)]
theorem wF{H:List ba}{id m n off sz:Nat}{ag:Bool}{g:Nat->AV}{fl:Nat}{nl:Bool}(hg:H[id]? =some (.seq sz ag (cellsOf n g) fl nl))(hm:m=n)(ho:off < n):
 pa H false 1 (.Ec id m off)=some (g off):=by
 subst hm;simp only[pa,hg,Yg,if_true,Lh,Baa,if_false,Ut g ho]
theorem jv{H:List ba}{id m n off sz d:Nat}{ag:Bool}{g:Nat->AV}{fl:Nat}{nl:Bool}(hg:H[id]? =some (.seq sz ag (cellsOf n g) fl nl))(hm:m=n):
 place H d (.Ec id m off)=some (.Ec id m (off+d)):=by
 subst hm;simp only[place,hg,Yg,if_true]
theorem eD{H:List ba}{id m n off sz:Nat}{ag:Bool}{g:Nat->AV}{fl:Nat}{nl:Bool}(hg:H[id]? =some (.seq sz ag (cellsOf n g) fl nl))(hm:m=n)(ho:off < n){v:AV}(hv:v.cells=[v])(h1:v.one=true):
 Ha H 1 (.Ec id m off) v=some (H.set id (.seq sz ag (cellsOf n (Rx g off v)) n nl)):=by
 subst hm;simp only[Ha,hv,Raa,Dab,zac,h1,List.all_nil,mae,and_self,if_true,hg,Yg];rw[if_pos ⟨trivial,by omega⟩];simp only[fa,bE]
def Nl:List (Int×Int)->List Int
 | []=>[]
 |p::l=>dg 0 p++Nl l
theorem P1(l:List (Int×Int)):l.flatMap (dg 0)=Nl l:=by
 induction l with
 |nil=>rfl
 |cons p l ih=>rw[rad,ih];rfl
theorem eM{p:Int×Int}(h0:0<=p.1)(h1:p.1<=p.2):dg 0 p=(List.range (p.2 - p.1+1).toNat).map fun (i:Nat)=>p.1+(i:Int):=by
 unfold dg;rw[taa (by omega),show max p.1 0=p.1 from by omega]
open Go.AM
abbrev u8(n:Int):PV:= .int .u8 n
structure Ip(A:PV)(l:List (List de)):Prop where
 held:∃ es,Zh 1 A es/\es.length=l.length/\∀ (i:Nat) v e,es[i]? =some v->l[i]? =some e->Zh 3 v (e.map bI)
 len:l.length * 24<=140737488355328
 lens:∀ e∈l,e.length * 24<=140737488355328
def Zg(b:Int):List de->Option Int
 | []=>none
 |e::r=>if e.lo<=b/\b<=e.hi then some e.to else Zg b r
def Nd(l:List (List de))(st b:Int):Int×Bool:=
 if st < 0 then (0,false) else match l[st.toNat]? with
  |some e=>match Zg b e with
   |some t=>(t,true)
   |none=>(0,false)
  |none=>(0,false)
section
variable (b:Int)(hb:0<=b/\b<=255)
include hb
variable (V:PV)(l:List de)(hV:Zh 3 V (l.map bI))(hw:l.length<=maxLen)
include hV hw
end
theorem Ip.get{A:PV}{l:List (List de)}(h:Ip A l){i:Nat}(hi:i < l.length):∃ es V,A= .lit 1 es/\es.length=l.length/\es[i]? =some V/\Zh 3 V (l[i].map bI):=by
 obtain⟨es,h1,h2,h3⟩:=h.held
 have hie:i < es.length:=by omega
 refine⟨es,es[i],h1.lit hie,h2,by simp[hie],h3 i _ _ (by simp[hie]) (by simp[hi])⟩
theorem Ip.Tb{A:PV}{l:List (List de)}(h:Ip A l)(H:List ba):Tb H 0 (.pv A)=some l.length:=by
 obtain⟨es,h1,h2,h3⟩:=h.held
 rw[h1.len,h2]
section
variable (A:PV)(l:List (List de))(hA:Ip A l)(st b:Int)(hb:0<=b/\b<=255)
include hA hb
end
section
variable (call:Sa)(es:List PV)(st b:Int)(hb:0<=b/\b<=255)(e:List de)(V:PV)(h0:0<=st/\st < es.length)(hV:es[st.toNat]? =some V)(hVL:Zh 3 V (e.map bI))(hw:e.length<=maxLen)
include h0 hV hVL
include hb hw
end
section
variable (A:PV)(l:List (List de))(hA:Ip A l)(st b:Int)(hb:0<=b/\b<=255)
include hA hb
end
def Rs(Ac:List Int)(to:Int):Int:=if 0<=to then Ac.getD to.toNat 0 else to
theorem ay{Ac row:List Int}{i:Nat}:∀ (xs:List Nat)(C:List Int)(p:Nat),p < C.length->
 (ee Ac row i xs C)[p]? =if h:i * 256<=p/\p - i * 256∈xs/\p - i * 256 < row.length then (if 0<=row.getD (p - i * 256) 0 then some (Rs Ac (row.getD (p - i * 256) 0)) else C[p]?) else C[p]?
 | [],C,p,hp=>by simp[ee]
 |x::xs,C,p,hp=>by
  rw[ee];have key:∀ C',C'.length=C.length->(p≠i * 256+x->C'[p]? =C[p]?)->(p=i * 256+x->C'[p]? =if x < row.length then (if 0<=row.getD x 0 then some (Rs Ac (row.getD x 0)) else C[p]?) else C[p]?)->
   (ee Ac row i xs C')[p]? =if h:i * 256<=p/\p - i * 256∈x::xs/\p - i * 256 < row.length then (if 0<=row.getD (p - i * 256) 0 then some (Rs Ac (row.getD (p - i * 256) 0)) else C[p]?) else C[p]? :=by
   intro C' hl h1 h2;rw[ay xs C' p (by omega)]
   by_cases hx:p=i * 256+x
   ·have e:p - i * 256=x:=by omega
    have h3:=h2 hx;rw[e,h3];have hle:i * 256<=p:=by omega
    by_cases hr:x < row.length
    ·simp only[hle,hr,and_true,true_and,bab,true_or,dite_true,if_true]
     by_cases h0:0<=row.getD x 0
     ·simp only[h0,if_true,ite_self,dite_eq_ite]
     ·simp only[h0,if_false,ite_self,dite_eq_ite]
    ·simp[hr]
   ·rw[h1 hx]
    have:(i * 256<=p/\p - i * 256∈xs/\p - i * 256 < row.length)=(i * 256<=p/\p - i * 256∈x::xs/\p - i * 256 < row.length):=by
     refine propext ⟨fun h=>⟨h.1,by simp[h.2.1],h.2.2⟩,fun h=>⟨h.1,?_,h.2.2⟩⟩;rcases bab.1 h.2.1 with h4 | h4
     ·omega
     ·exact h4
    simp only[this]
  cases hr:row[x]? with
  |none=>
   refine key _ rfl (fun _=>rfl) (fun hx=> ?_);have:¬x < row.length:=by intro h;rw[caa h] at hr;cases hr
   rw[taa this]
  |some to=>
   have hx2:x < row.length:=(qaa.1 hr).1
   have A8:row.getD x 0=to:=by rw[Caa,hr];rfl
   simp only
   by_cases h0:0<=to
   ·rw[if_pos h0]
    refine key _ (by simp) (fun hx=>by rw[Jaa (by omega)]) (fun hx=> ?_);rw[if_pos hx2,A8,if_pos h0,hx,Qaa (by omega),Rs,if_pos h0]
   ·rw[taa h0]
    refine key _ rfl (fun _=>rfl) (fun hx=> ?_);rw[if_pos hx2,A8,taa h0]
theorem Bv{C:List Int}{i x:Nat}(hx:x < 256):(Va C i)[x]? =C[i * 256+x]? :=by
 unfold Va;rw[Cac hx,uae]
theorem nN{n:Nat}{Ac C:List Int}{i:Nat}(hC:C.length=n * 256)(hi:i < n):
 Va (ee Ac (Va C i) i (List.range 256) C) i=(Va C i).map (Rs Ac):=by
 apply Vab;intro x
 by_cases hx:x < 256
 ·rw[Bv hx,ay _ _ _ (by omega),Faa]
  have e:i * 256+x - i * 256=x:=by omega
  have hl:=Fi hC hi;rw[e,dif_pos ⟨by omega,by simpa using hx,by omega⟩];have hg:(Va C i)[x]? =some ((Va C i).getD x 0):=by rw[Caa,caa (by omega)];rfl
  have hg2:=hg;rw[Bv hx] at hg2;rw[hg2,hg]
  by_cases h0:0<=(Va C i).getD x 0
  ·rw[if_pos h0];rfl
  ·rw[taa h0,Kaa,Rs,taa h0]
 ·rw[Yaa,Yaa]
  ·rw[paa,Fi hC hi];omega
  ·rw[Fi (n:=n) (by rw[zn,hC]) hi];omega
theorem tI{n:Nat}{Ac row C:List Int}{i j:Nat}(hC:C.length=n * 256)(hj:j < n)(hij:j≠i)(hr:row.length=256):
 Va (ee Ac row i (List.range 256) C) j=Va C j:=by
 apply Vab;intro x
 by_cases hx:x < 256
 ·rw[Bv hx,Bv hx,ay _ _ _ (by omega)]
  rw[dif_neg];rintro⟨h1,h2,h3⟩;omega
 ·rw[Yaa,Yaa]
  ·rw[Fi hC hj];omega
  ·rw[Fi (n:=n) (by rw[zn,hC]) hj];omega
structure ZA(n:Nat)(C0:List Int)(i:Nat)(s:bO):Prop where
 hC:s.C.length=n * 256
 hk:s.Ac.length=n
 hi:∀ j,i<=j->j < n->Va s.C j=(Va C0 j).map (Rs s.Ac)
 lo:∀ j,j < i->Va s.C j=Va C0 j
 look:∀ j,i<=j->j < n->Gl (Va s.C j) s.M=some (s.Ac.getD j 0)
 inj:∀ p∈s.M,∀ q∈s.M,p.2=q.2->p.1=q.1
 rep:∀ p∈s.M,(i:Int)<=p.2/\p.2 < n/\Va s.C p.2.toNat=p.1
def yR(n:Nat)(C0:List Int):Prop:=∀ j,j < n->∀ to∈Va C0 j,0<=to->(j:Int) < to/\to < n
theorem mV{Ac:List Int}{i:Nat}{v to:Int}(h:0<=to->to.toNat≠i):Rs (Ac.set i v) to=Rs Ac to:=by
 unfold Rs
 split
 ·next h0=>rw[Caa,Caa,Jaa (rac (h h0))]
 ·rfl
theorem yJ{a:List Int}{M N:List (List Int×Int)}:Gl a (M++N)=(Gl a M).or (Gl a N):=by
 induction M with
 |nil=>simp[Gl]
 |cons p M ih=>
  rw[fab,Gl,Gl]
  split
  ·rfl
  ·exact ih
theorem ZA.step{n:Nat}{C0:List Int}(hlat:yR n C0){i:Nat}{s:bO}(U8:i < n)(h:ZA n C0 (i+1) s):ZA n C0 i (rm i s):=by
 have J7:Va s.C i=Va C0 i:=h.lo i (by omega)
 have X9:(Va C0 i).length=256:=by rw[<- J7];exact Fi h.hC U8
 have hC2:(ee s.Ac (Va s.C i) i (List.range 256) s.C).length=n * 256:=by rw[zn,h.hC]
 have hr1:=nN (Ac:=s.Ac) h.hC U8
 have hr2:∀ j,j < n->j≠i->Va (ee s.Ac (Va s.C i) i (List.range 256) s.C) j=Va s.C j:=fun j hj Q9=>tI h.hC hj Q9 (by rw[J7];exact X9)
 have R9:=@nu i s;have I9:=@au i s;generalize ee s.Ac (Va s.C i) i (List.range 256) s.C=C2 at *
 have hms:∀ v j,i<=j->j < n->(Va C0 j).map (Rs (s.Ac.set i v))=(Va C0 j).map (Rs s.Ac):=by intro v j hij hj;apply pac;intro to A8;apply mV;intro h0;have:=hlat j hj to A8 h0;omega
 have main:∀ v M',Gl (Va C2 i) M'=some v->(∀ j,i+1<=j->j < n->Gl (Va C2 j) M'=Gl (Va s.C j) s.M)->
  (∀ p∈M',∀ q∈M',p.2=q.2->p.1=q.1)->(∀ p∈M',(i:Int)<=p.2/\p.2 < n/\Va C2 p.2.toNat=p.1)->ZA n C0 i ⟨C2,s.Ac.set i v,M'⟩:=by
  intro v M' h1 h2 h3 h4;refine⟨hC2,by simp[h.hk],?_,?_,?_,h3,h4⟩
  ·intro j hij hj
   show Va C2 j=(Va C0 j).map (Rs (s.Ac.set i v))
   rw[hms v j hij hj]
   by_cases Q9:j=i
   ·subst Q9;rw[hr1,J7]
   ·rw[hr2 j hj Q9,h.hi j (by omega) hj]
  ·intro j hj
   show Va C2 j=_;rw[hr2 j (by omega) (by omega),h.lo j (by omega)]
  ·intro j hij hj
   show Gl (Va C2 j) M'=some ((s.Ac.set i v).getD j 0)
   by_cases Q9:j=i
   ·subst Q9
    rw[h1,Caa,Qaa (by rw[h.hk];exact hj)];rfl
   ·rw[h2 j (by omega) hj,h.look j (by omega) hj,Caa,Caa,Jaa (rac Q9)]
 cases hlk:Gl (Va C2 i) s.M with
 |some v=>
  rw[R9 hlk];refine main v s.M hlk (fun j h1 h2=>by rw[hr2 j h2 (by omega)]) h.inj ?_
  intro p hp;obtain⟨h1,h2,h3⟩:=h.rep p hp
  exact⟨by omega,h2,by rw[hr2 _ (by omega) (by omega),h3]⟩
 |none=>
  rw[I9 hlk];refine main i _ (by rw[yJ,hlk];simp[Gl]) (fun j h1 h2=> ?_) ?_ ?_
  ·rw[hr2 j h2 (by omega),yJ,h.look j h1 h2];rfl
  ·intro p hp q hq hpq
   rcases Naa.1 hp with hp | hp <;> rcases Naa.1 hq with hq | hq
   ·exact h.inj p hp q hq hpq
   ·simp at hq;subst hq
    have:=(h.rep p hp).1
    simp only at hpq;omega
   ·simp at hp;subst hp
    have:=(h.rep q hq).1
    simp only at hpq;omega
   ·simp at hp hq;subst hp hq;rfl
  ·intro p hp
   rcases Naa.1 hp with hp | hp
   ·obtain⟨h1,h2,h3⟩:=h.rep p hp
    exact⟨by omega,h2,by rw[hr2 _ (by omega) (by omega),h3]⟩
   ·simp at hp;subst hp
    exact⟨by simp,by simp;omega,by simp⟩
theorem ZA.go{n:Nat}{C0:List Int}(hlat:yR n C0):∀ (k:Nat)(s:bO),k<=n->ZA n C0 k s->ZA n C0 0 (Ck k s)
 |0,s,_,h=>h
 |k+1,s,hk,h=>ZA.go hlat k _ (by omega) (h.step hlat (by omega))
theorem RU{n:Nat}{C0:List Int}(hlat:yR n C0)(hC:C0.length=n * 256):ZA n C0 0 (mf n C0):=by
 refine ZA.go hlat n _ (waa _) ⟨hC,by simp,fun j h1 h2=>by omega,fun j hj=>rfl,fun j h1 h2=>by omega,by simp,by simp⟩
theorem ZA.lO{n:Nat}{C0:List Int}{s:bO}(h:ZA n C0 0 s){j k:Nat}(hj:j < n)(hk:k < n):s.Ac.getD j 0=s.Ac.getD k 0↔Va s.C j=Va s.C k:=by
 have h1:=h.look j (by omega) hj
 have h2:=h.look k (by omega) hk
 constructor
 ·intro e
  obtain⟨p,hp,e1,e2⟩:=Fv h1;obtain⟨q,hq,e3,e4⟩:=Fv h2;rw[<- e1,<-e3];exact h.inj p hp q hq (by rw[e2,e4,e])
 ·intro e
  rw[e,h2] at h1;exact (Bad h1).symm
theorem ZA.Gq{n:Nat}{C0:List Int}{s:bO}(h:ZA n C0 0 s){j:Nat}(hj:j < n):0<=s.Ac.getD j 0/\s.Ac.getD j 0 < n/\Va s.C (s.Ac.getD j 0).toNat=Va s.C j:=by
 obtain⟨p,hp,e1,e2⟩:=Fv (h.look j (by omega) hj);obtain⟨h1,h2,h3⟩:=h.rep p hp
 rw[<- e2,<-e1];exact⟨by omega,h2,h3⟩
theorem mw(b:Int):∀ (l m:List de),Zg b (l++m)=(Zg b l).or (Zg b m)
 | [],m=>by simp[Zg]
 |e::l,m=>by
  rw[fab,Zg,Zg]
  split
  ·rfl
  ·exact mw b l m
theorem Ft{b:Int}:∀ {l:List de},(∀ e∈l,e.hi < b)->Zg b l=none
 | [],_=>rfl
 |e::l,h=>by have:=h e (by simp);rw[Zg,taa (by omega)];exact Ft fun x hx=>h x (by simp[hx])
theorem VF{b:Int}:∀ {l:List de},l.Pairwise (fun a c=>a.hi < c.lo)->∀ e∈l,e.lo<=b->b<=e.hi->Zg b l=some e.to
 |a::l,h,e,he,h1,h2=>by
  rw[Wad] at h;rw[Zg];rcases bab.1 he with rfl | he
  ·rw[if_pos ⟨h1,h2⟩]
  ·have:=h.1 e he
   rw[taa (by omega)];exact VF h.2 e he h1 h2
theorem Ty{b t:Int}:∀ {l:List de},Zg b l=some t->∃ e∈l,e.lo<=b/\b<=e.hi/\e.to=t
 |e::l,h=>by
  rw[Zg] at h
  split at h
  ·next hc=>exact⟨e,by simp,hc.1,hc.2,Bad h⟩
  ·obtain⟨x,hx,h1⟩:=Ty h
   exact⟨x,by simp[hx],h1⟩
structure EO(row:List Int)(n:Nat)(l:List de):Prop where
 By:∀ e∈l,0<=e.lo/\e.lo<=e.hi/\e.hi < n/\e.to≠ -2
 ord:l.Pairwise (fun a b=>a.hi < b.lo)
 tight:∀ (k:Nat) a b,l[k]? =some a->l[k+1]? =some b->b.lo=a.hi+1->b.to≠a.to
 step:∀ x:Nat,x < n->Zg x l=if row.getD x 0= -2 then none else some (row.getD x 0)
theorem eJ{l:List de}{e:de}(h:l.getLast? =some e):∃ m,l=m++[e]:=by
 have I7:l≠[]:=by rintro rfl;simp at h
 rw[List.getLast?_eq_some_getLast I7] at h;exact⟨l.dropLast,by rw[<- Bad h];exact (List.dropLast_concat_getLast I7).symm⟩
theorem ZM{α:Type}{m:List α}{e a b:α}{k:Nat}(h1:(m++[e])[k]? =some a)(h2:(m++[e])[k+1]? =some b):m[k]? =some a/\((m[k+1]? =some b)\/(k+1=m.length/\b=e)):=by
 have hk:k+1 < (m++[e]).length:=(qaa.1 h2).1
 simp at hk;rw[gaa (by omega)] at h1;refine⟨h1,?_⟩;rcases Xaa (k+1) m.length with h | h
 ·rw[gaa h] at h2;exact .inl h2
 ·have:k+1=m.length:=by omega
  rw[Paa h,this] at h2;simp at h2;exact .inr ⟨this,h2.symm⟩
theorem EO.push{row:List Int}{n:Nat}{l:List de}(h:EO row n l){to:Int}(ht:row.getD n 0=to)(h2:to≠ -2)(hl:∀ e,l.getLast? =some e->¬(e.to=to/\e.hi=(n:Int) - 1)):EO row (n+1) (l++[⟨n,n,to⟩]):=by
 refine⟨?_,?_,?_,?_⟩
 ·intro e he
  rcases Naa.1 he with he | he
  ·have:=h.By e he;exact⟨this.1,this.2.1,by omega,this.2.2.2⟩
  ·simp at he;subst he;simp;exact⟨by omega,h2⟩
 ·rw[gae]
  refine⟨h.ord,by simp,?_⟩;intro a ha b hb;simp at hb;subst hb;have:=h.By a ha;simp;omega
 ·intro k a b h1 h3 h4
  obtain⟨h5,h6 | ⟨h6,rfl⟩⟩:=ZM h1 h3
  ·exact h.tight k a b h5 h6 h4
  ·have hla:l.getLast? =some a:=by rw[List.getLast?_eq_getElem?,<-h5];congr 1;omega
   intro h7;simp only at h4 h7;exact hl a hla ⟨h7.symm,by omega⟩
 ·intro x hx
  rw[mw];rcases Xaa x n with hxn | hxn
  ·rw[h.step x hxn]
   split
   ·simp only[Option.none_or,Zg];rw[taa (by omega)]
   ·rfl
  ·have:x=n:=by omega
   subst this;rw[Ft fun e he=>by have:=h.By e he;omega,Option.none_or,Zg,if_pos (by simp),ht,taa h2]
theorem EO.next{row:List Int}{n:Nat}{l:List de}(h:EO row n l):EO row (n+1) (pg n (row.getD n 0) l):=by
 obtain⟨to,ht⟩:∃ to,row.getD n 0=to:=⟨_,rfl⟩
 rw[ht];unfold pg
 by_cases h2:to= -2
 ·rw[if_pos h2]
  refine⟨fun e he=>by have:=h.By e he;exact⟨this.1,this.2.1,by omega,this.2.2.2⟩,h.ord,h.tight,?_⟩;intro x hx;rcases Xaa x n with hxn | hxn
  ·exact h.step x hxn
  ·have:x=n:=by omega
   subst this;rw[Ft fun e he=>by have:=h.By e he;omega,ht,if_pos h2]
 ·rw[taa h2]
  cases hl:l.getLast? with
  |none=>exact h.push ht h2 fun e he=>by rw[hl] at he;cases he
  |some e=>
   by_cases hc:e.to=to/\e.hi=(n:Int) - 1
   ·simp only[hc,and_self,if_true]
    obtain⟨m,rfl⟩:=eJ hl;rw[List.dropLast_concat];have hr:=h.By e (by simp)
    have ho:=gae.1 h.ord
    have hlt:∀ a∈m,a.hi < e.lo:=fun a ha=>ho.2.2 a ha e (by simp)
    refine⟨?_,?_,?_,?_⟩
    ·intro x hx
     rcases Naa.1 hx with hx | hx
     ·have:=h.By x (by simp[hx]);exact⟨this.1,this.2.1,by omega,this.2.2.2⟩
     ·simp at hx;subst hx;simp only;exact⟨hr.1,by omega,by omega,h2⟩
    ·rw[gae]
     refine⟨ho.1,by simp,?_⟩;intro a ha b hb;simp at hb;subst hb;exact hlt a ha
    ·intro k a b h1 h3 h4
     obtain⟨h5,h6 | ⟨h6,rfl⟩⟩:=ZM h1 h3
     ·have hk1:=(qaa.1 h6).1
      exact h.tight k a b (by rw[gaa (by omega)];exact h5) (by rw[gaa hk1];exact h6) h4
     ·have:=h.tight k a e (by rw[gaa (by omega)];exact h5) (by rw[Paa (by omega),h6];simp) h4
      rw[hc.1] at this;exact this
    ·intro x hx
     rw[mw];rcases Xaa x n with hxn | hxn
     ·rw[<- h.step x hxn,mw]
      congr 1
      simp only[Zg,hc.1]
      by_cases h3:e.lo<=(x:Int)
      ·rw[if_pos ⟨h3,by omega⟩,if_pos ⟨h3,by omega⟩]
      ·rw[taa fun q=>h3 q.1,taa fun q=>h3 q.1]
     ·have:x=n:=by omega
      subst this;rw[Ft fun a ha=>by have:=hlt a ha;omega,Option.none_or,Zg];simp only;rw[if_pos ⟨by omega,Kac _⟩,ht,taa h2]
   ·simp only[hc,if_false]
    exact h.push ht h2 fun e' he'=>by rw[hl] at he';injection he' with he';subst he';exact hc
theorem Ly(row:List Int):∀ (xs ys:List Nat)(l:List de),Re row (xs++ys) l=Re row ys (Re row xs l)
 | [],ys,l=>rfl
 |x::xs,ys,l=>by rw[fab,Re,Re,Ly row xs]
theorem oJ(row:List Int):∀ n:Nat,EO row n (Re row (List.range n) [])
 |0=>⟨by simp[Re],by simp[Re],by simp[Re],by omega⟩
 |n+1=>by rw[vad,Ly];exact (oJ row n).next
theorem ID(row:List Int):EO row 256 (xg row):=oJ row 256
def IC(m:Int)(l:List de):Int:=l.foldl (fun m e=>if e.to=m then m+1 else m) m
theorem ED(m:Int)(l:List de)(e:de):IC m (l++[e])=if e.to=IC m l then IC m l+1 else IC m l:=by
 unfold IC;rw[Kad];rfl
def cA:Int->List de->Prop
 |_,[]=>True
 |m,e::l=>e.to<=m/\cA (if e.to=m then m+1 else m) l
theorem Cw:∀ {m:Int}{l:List de}{e:de},cA m (l++[e])↔cA m l/\e.to<=IC m l
 |m,[],e=>by simp[cA,IC]
 |m,a::l,e=>by show (a.to<=m/\cA _ (l++[e]))↔_;rw[Cw];exact and_assoc.symm
theorem GJ{row:List Int}{g:Nat->Int}(h0:∀ x,0<=g x):∀ n:Nat,(∀ x,x < n->row.getD x 0<=g x)->(∀ x,x < n->g (x+1)=if row.getD x 0=g x then g x+1 else g x)->
 IC (g 0) (Re row (List.range n) [])=g n/\cA (g 0) (Re row (List.range n) [])/\(∀ e∈Re row (List.range n) [],e.to < g n)
 |0,_,_=>⟨rfl,trivial,by simp[Re]⟩
 |n+1,h1,h2=>by
  obtain⟨i1,i2,i3⟩:=GJ h0 n (fun x hx=>h1 x (by omega)) (fun x hx=>h2 x (by omega));have hn:=h1 n (by omega);have hg:=h2 n (by omega);rw[vad,Ly];generalize Re row (List.range n) []=l at *;show IC (g 0) (pg n (row.getD n 0) l)=_/\cA (g 0) (pg n (row.getD n 0) l)/\∀ e∈pg n (row.getD n 0) l,_;generalize row.getD n 0=to at *
  have Tae:IC (g 0) (l++[⟨n,n,to⟩])=g (n+1)/\cA (g 0) (l++[⟨n,n,to⟩])/\(∀ e∈l++[⟨n,n,to⟩],e.to < g (n+1)):=by
   refine⟨by rw[ED,i1,hg],Cw.2 ⟨i2,by rw[i1];exact hn⟩,?_⟩;intro e he;rcases Naa.1 he with he | he
   ·have:=i3 e he;rw[hg];split <;> omega
   ·simp at he;subst he;simp only;rw[hg];split <;> omega
  unfold pg
  by_cases h3:to= -2
  ·have:=h0 n
   rw[if_pos h3,hg,taa (by omega)];exact⟨i1,i2,i3⟩
  ·rw[taa h3]
   cases hl:l.getLast? with
   |none=>exact Tae
   |some e=>
    simp only
    split
    ·next hc=>
     obtain⟨m,rfl⟩:=eJ hl;have h4:=i3 e (by simp);rw[List.dropLast_concat,hg,taa (by omega)];rw[ED] at i1;rw[Cw] at i2;refine⟨by rw[ED];exact i1,Cw.2 i2,?_⟩;intro x hx;rcases Naa.1 hx with hx | hx
     ·exact i3 x (by simp[hx])
     ·simp at hx;subst hx;exact h4
    ·exact Tae
def Pv(g:Nat->Int)(e:de):Nat->Int:=fun b=>if e.lo<=(b:Int)/\(b:Int)<=e.hi then e.to else g b
theorem fJ{b:Nat}:∀ (l:List de)(g:Nat->Int),l.Pairwise (fun a c=>a.hi < c.lo)->l.foldl Pv g b=(Zg (b:Int) l).getD (g b)
 | [],g,_=>rfl
 |e::l,g,h=>by
  rw[Wad] at h;rw[Aad,fJ l _ h.2,Zg]
  by_cases hc:e.lo<=(b:Int)/\(b:Int)<=e.hi
  ·rw[if_pos hc]
   have:Zg (b:Int) l=none:=by
    cases hs:Zg (b:Int) l with
    |none=>rfl
    |some t=>
     obtain⟨x,hx,h1,h2,_⟩:=Ty hs;have:=h.1 x hx
     omega
   rw[this];show Pv g e b=e.to
   unfold Pv;rw[if_pos hc]
  ·rw[taa hc]
   have:Pv g e b=g b:=by unfold Pv;rw[taa hc]
   rw[this]
def Kl(l:List de)(b:Nat):Int:=(Zg (b:Int) l).getD (-2)
structure sj(l:List de):Prop where
 By:∀ e∈l,0<=e.lo/\e.lo<=e.hi/\e.hi < 256/\ -1<=e.to/\e.to<=64
 ord:l.Pairwise (fun a b=>a.hi < b.lo)
def b8(g:Nat->Int):ba:= .box (cellsOf 256 fun b=> .pv (.int .i8 (g b)))
theorem pA{n:Nat}{g g':Nat->AV}(h:∀ b,b < n->g b=g' b):cellsOf n g=cellsOf n g':=by
 unfold cellsOf;exact pac fun b hb=>h b (Pac.1 hb)
theorem qv{g g':Nat->Int}(h:∀ b,b < 256->g b=g' b):b8 g=b8 g':=by
 unfold b8;rw[pA fun b hb=>by rw[h b hb]]
theorem N4(g:Nat->Int)(n:Nat):qa n (b8 g)=some (b8 g):=by
 have:=js n ((List.range 256).map fun b=>PV.int .i8 (g b));rw[wad] at this;exact this
theorem Wg{H:List ba}{id:Nat}{c:List AV}(h:H[id]? =some (.box c))(d o:Nat):place H d (.ptr id o)=some (.ptr id (o+d)):=by simp only[place,h]
theorem bN{H:List ba}{id:Nat}{g:Nat->Int}(h:H[id]? =some (b8 g))(d:Nat):place H d (.ptr id 0)=some (.ptr id d):=by
 rw[Wg h,eab]
theorem xO{H:List ba}{id i:Nat}{g:Nat->Int}(h:H[id]? =some (b8 g))(hi:i < 256)(v:Int):Ha H 1 (.ptr id i) (.pv (.int .i8 v))=some (H.set id (b8 fun b=>if b=i then v else g b)):=by
 have e:cellsOf 256 (Rx (fun b=>AV.pv (.int .i8 (g b))) i (.pv (.int .i8 v)))=cellsOf 256 (fun b=> .pv (.int .i8 (if b=i then v else g b))):=by refine pA fun b _=> ?_;unfold Rx;split <;> rfl
 simp only[Ha,AV.cells,PV.cells,pab,Rad,Raa,Dab,zac,AV.one,List.all_nil,qae,and_self,if_true,h,b8,Yg];rw[if_pos (by omega)];simp only[fa,bE,e]
theorem KZ{n:Int}(h0: -128<=n)(h1:n<=127):IntKind.i8.wrap n=n:=by
 unfold IntKind.wrap
 simp[IntKind.signed,IntKind.bits];omega
section
variable {call:Sa}{A:List ba}(hA:Vd A)
include hA
theorem wB(g:Nat->Int){n:Nat}(hn:A.length<=n):∀ o∈A++[b8 g],qa n o=some o:=by
 intro o ho;rcases Naa.1 ho with h | h
 ·exact hA n hn o h
 ·rw[Sab] at h;subst h;exact N4 g n
theorem WV{E:Tr}{tb:Nat}{L S:PV}{x y:PV}{g0:Nat->Int}(htb:tb < A.length)(h8:E.get 8= .ptr tb 0)(h12:E.get 12= .pv L)(h13:E.get 13= .ptr A.length 0)(h101:E.get 101= .pv S)(h102:E.get 102= .pv x)(h103:E.get 103= .pv y)(h108:E.get 108= .pv (i64 0)):
 qd (fun r=>r.1.stop=true/\∃ E',r=(.exit 4,⟨E',A++[b8 fun _=> -2]⟩)/\∀ t∈[8,12,13,101,102,103],E'.get t=E.get t)
  (oa call (.loop [8,12,13,101,102,103,108] Dk) ⟨E,A++[b8 g0]⟩):=by
 have C7:∀ t∈[8,12,13,101,102,103],(E.get t).cut (A.length+1) deep=some (E.get t):=by intro t ht;simp only[bab,oac,or_false] at ht;rcases ht with rfl | rfl | rfl | rfl | rfl | rfl <;> simp only[h8,h12,h13,h101,h102,h103,Qa] <;> exact fw (by omega)
 refine Dr (fun i t=>(∀ u∈[8,12,13,101,102,103],t.env.get u=E.get u)/\t.env.get 108= .pv (i64 i)/\t.H=A++[b8 fun b=>if b < i then -2 else g0 b]) 256 (by unfold ua;omega) ?_ ?_ ?_
 ·refine Rh.all rfl (by rw[Aaa];exact wB hA g0 (by simp)) ?_ fun E' hE=>⟨fun u hu=>hE u (by simp at hu ⊢;omega),by rw[hE 108 (by simp),h108];rfl,by simp⟩
  intro t ht;rw[Aaa]
  by_cases h:t=108
  ·subst h;rw[h108,Qa]
  ·exact C7 t (by simp at ht ⊢;omega)
 ·rintro i ⟨E1,H1⟩ hi ⟨k1,k2,k3⟩
  simp only at k1 k2 k3;subst k3;have g13:=k1 13 (by simp);rw[h13] at g13;have e1:decide ((i:Int) < 256)=true:=Ea (by omega);have t1:IntKind.i64.wrap ((i:Int)+1)=((i+1:Nat):Int):=sg (by omega)
  have hg:=Gk A (b8 fun b=>if b < i then -2 else g0 b);have p1:=bN hg i;have s1:=xO hg hi (-2);rw[Vp] at s1;have G7:(i < 256)=True:=Laa hi;have hc:b8 (fun b=>if b=i then -2 else if b < i then -2 else g0 b)=b8 (fun b=>if b < i+1 then -2 else g0 b):=qv fun b _=>by
   by_cases h1:b=i
   ·rw[if_pos h1,if_pos (by omega)]
   ·rw[taa h1]
    by_cases h2:b < i
    ·rw[if_pos h2,if_pos (by omega)]
    ·rw[taa h2,taa (by omega)]
  rw[hc] at s1;generalize hQ:RQ _ _ _ _=Q;simp -implicitDefEqProofs only[SX,sevalprocAttr,Dk,k2,g13,e1,t1,G7,p1,s1];subst hQ;rw[Yn];refine Rh.all (by simp) (by rw[Aaa];exact wB hA _ (by simp)) ?_ fun E' hE=>⟨fun u hu=> ?_,?_,rfl⟩
  ·intro t ht
   rw[Aaa]
   by_cases h:t=108
   ·subst h;simp[Tr.aa,Qa]
   ·have hm:t∈[8,12,13,101,102,103]:=by simp at ht ⊢;omega
    have:=k1 t hm;have h2:=C7 t hm;simp only[bab,oac,or_false] at hm;rcases hm with rfl | rfl | rfl | rfl | rfl | rfl <;> simp only[Tr.aa] <;> simp only[this] <;> simpa using h2
  ·rw[hE u (by simp at hu ⊢;omega),<-k1 u hu]
   simp only[bab,oac,or_false] at hu;rcases hu with rfl | rfl | rfl | rfl | rfl | rfl <;> simp[Tr.aa]
  ·rw[hE 108 (by simp)];simp[Tr.aa]
 ·rintro⟨E1,H1⟩ ⟨k1,k2,k3⟩
  simp only at k1 k2 k3;subst k3;have e1:decide (((256:Nat):Int) < 256)=false:=Ga (by omega);generalize hQ:(fun r:Ex×St=>r.1.stop=true/\_)=Q;simp -implicitDefEqProofs only[SX,sevalprocAttr,Dk,k2,e1];subst hQ;rw[qv (g':=fun _=> -2) fun b hb=>if_pos hb];refine⟨rfl,_,rfl,fun t ht=> ?_⟩
  ·rw[<- k1 t ht]
   simp only[bab,oac,or_false] at ht;rcases ht with rfl | rfl | rfl | rfl | rfl | rfl <;> simp[Tr.aa]
def wC(e:de):ba:= .box [.pv (i64 e.lo),.pv (i64 e.hi),.pv (i64 e.to)]
omit hA in
theorem P0(e:de)(n:Nat):qa n (wC e)=some (wC e):=js n [i64 e.lo,i64 e.hi,i64 e.to]
theorem I0{E:Tr}{tb:Nat}{L S:PV}{x y u v:PV}{g0:Nat->Int}{e:de}(he:0<=e.lo/\e.lo<=e.hi/\e.hi < 256/\ -1<=e.to/\e.to<=64)(htb:tb < A.length)(h8:E.get 8= .ptr tb 0)(h13:E.get 13= .ptr A.length 0)(h16:E.get 16= .ptr (A.length+1) 0)(h17:E.get 17= .pv (i64 e.lo))
 (h101:E.get 101= .pv S) (h102:E.get 102= .pv x) (h103:E.get 103= .pv y) (h114:E.get 114= .pv L) (h115:E.get 115= .pv u) (h116:E.get 116= .pv v):
 qd (fun r=>r.1.stop=true/\∃ E',r=(.exit 8,⟨E',(A++[b8 (Pv g0 e)])++[wC e]⟩)/\∀ t∈[8,13,101,102,103,114,115,116],E'.get t=E.get t)
  (oa call (.loop [8,13,16,17,101,102,103,114,115,116] Bk) ⟨E,(A++[b8 g0])++[wC e]⟩):=by
 have C7:∀ t∈[8,13,16,101,102,103,114,115,116],(E.get t).cut (A.length+2) deep=some (E.get t):=by intro t ht;simp only[bab,oac,or_false] at ht;rcases ht with rfl | rfl | rfl | rfl | rfl | rfl | rfl | rfl | rfl <;> simp only[h8,h13,h16,h101,h102,h103,h114,h115,h116,Qa] <;> exact fw (by omega)
 have Mab:∀ g,∀ o∈(A++[b8 g])++[wC e],qa (A.length+2) o=some o:=by
  intro g o ho;rcases Naa.1 ho with h | h
  ·exact wB hA g (by omega) o h
  ·rw[Sab] at h;subst h;exact P0 e _
 have hlen:∀ g,((A++[b8 g])++[wC e]).length=A.length+2:=fun g=>by simp
 refine Dr (fun i t=>(∀ u∈[8,13,16,101,102,103,114,115,116],t.env.get u=E.get u)/\t.env.get 17= .pv (i64 (e.lo+i))/\t.H=(A++[b8 fun b=>if e.lo<=(b:Int)/\(b:Int) < e.lo+i then e.to else g0 b])++[wC e]) (e.hi - e.lo+1).toNat (by unfold ua;omega) ?_ ?_ ?_
 ·refine Rh.all rfl (by rw[hlen];exact Mab g0) ?_ fun E' hE=>⟨fun u hu=>hE u (by simp at hu ⊢;omega),by rw[hE 17 (by simp),h17];simp,?_⟩
  ·intro t ht
   rw[hlen]
   by_cases h:t=17
   ·subst h;rw[h17,Qa]
   ·exact C7 t (by simp at ht ⊢;omega)
  ·show _=_
   rw[qv (g:=fun b=>if e.lo<=(b:Int)/\(b:Int) < e.lo+((0:Nat):Int) then e.to else g0 b) (g':=g0) fun b _=>taa (by omega)]
 ·rintro i ⟨E1,H1⟩ hi ⟨k1,k2,k3⟩
  simp only at k1 k2 k3;subst k3;have g13:=k1 13 (by simp);rw[h13] at g13;have g16:=k1 16 (by simp);rw[h16] at g16;have e1:decide (e.lo+(i:Int)<=e.hi)=true:=Ea (by omega);have t1:IntKind.i64.wrap (e.lo+(i:Int)+1)=e.lo+((i+1:Nat):Int):=by rw[Aa (by omega)];omega
  have t2:IntKind.i8.wrap e.to=e.to:=KZ (by omega) (by omega)
  generalize hgi:(fun b:Nat=>if e.lo<=(b:Int)/\(b:Int) < e.lo+i then e.to else g0 b)=gi;have hg:((A++[b8 gi])++[wC e])[A.length]? =some (b8 gi):=by rw[gaa (by simp)];exact Gk _ _
  have hg2:((A++[b8 gi])++[wC e])[A.length+1]? =some (wC e):=by have:=Gk (A++[b8 gi]) (wC e);rw[Aaa] at this;exact this
  have p1:=bN hg (e.lo+(i:Int)).toNat
  have p2:=fun d=>Wg hg2 d 0;have l1:pa ((A++[b8 gi])++[wC e]) false 1 (.ptr (A.length+1) 1)=some (.pv (i64 e.hi)):=by simp only[pa,hg2];rfl
  have l2:pa ((A++[b8 gi])++[wC e]) false 1 (.ptr (A.length+1) 2)=some (.pv (i64 e.to)):=by simp only[pa,hg2];rfl
  have s1:=xO hg (i:=(e.lo+(i:Int)).toNat) (by omega) e.to
  have F8:((A++[b8 gi])++[wC e]).set A.length (b8 fun b=>if b=(e.lo+(i:Int)).toNat then e.to else gi b)=(A++[b8 fun b=>if e.lo<=(b:Int)/\(b:Int) < e.lo+((i+1:Nat):Int) then e.to else g0 b])++[wC e]:=by
   rw[Bac _ _ (by simp),Vp]
   congr 3
   refine qv fun b _=> ?_;subst hgi
   by_cases h1:b=(e.lo+(i:Int)).toNat
   ·rw[if_pos h1,if_pos (by omega)]
   ·rw[taa h1]
    dsimp only
    by_cases h2:e.lo<=(b:Int)/\(b:Int) < e.lo+i
    ·rw[if_pos h2,if_pos (by omega)]
    ·rw[taa h2,taa (by omega)]
  rw[F8] at s1;have G7:(0<=e.lo+(i:Int)/\e.lo+(i:Int) < ((256:Nat):Int))=True:=Laa (by omega);generalize (A++[b8 gi])++[wC e]=HH at *;generalize hQ:RQ _ _ _ _=Q;simp -implicitDefEqProofs only[SX,sevalprocAttr,Bk,k2,g13,g16,e1,t1,t2,G7,p1,p2,l1,l2,s1];subst hQ;rw[Yn];refine Rh.all (by simp) (by rw[hlen];exact Mab _) ?_ fun E' hE=>⟨fun u hu=> ?_,?_,rfl⟩
  ·intro t ht
   rw[hlen]
   by_cases h:t=17
   ·subst h;simp[Tr.aa,Qa]
   ·have hm:t∈[8,13,16,101,102,103,114,115,116]:=by simp at ht ⊢;omega
    have:=k1 t hm;have h2:=C7 t hm;simp only[bab,oac,or_false] at hm;rcases hm with rfl | rfl | rfl | rfl | rfl | rfl | rfl | rfl | rfl <;> simp only[Tr.aa] <;> simp only[this] <;> simpa using h2
  ·rw[hE u (by simp at hu ⊢;omega),<-k1 u hu]
   simp only[bab,oac,or_false] at hu;rcases hu with rfl | rfl | rfl | rfl | rfl | rfl | rfl | rfl | rfl <;> simp[Tr.aa]
  ·rw[hE 17 (by simp)];simp[Tr.aa]
 ·rintro⟨E1,H1⟩ ⟨k1,k2,k3⟩
  simp only at k1 k2 k3;subst k3;have g16:=k1 16 (by simp);rw[h16] at g16;rw[show e.lo+((e.hi - e.lo+1).toNat:Int)=e.hi+1 by omega] at k2;have e1:decide (e.hi+1<=e.hi)=false:=Ga (by omega);have hb:b8 (fun b:Nat=>if e.lo<=(b:Int)/\(b:Int) < e.lo+((e.hi - e.lo+1).toNat:Int) then e.to else g0 b)=b8 (Pv g0 e):=qv fun b _=>by
   unfold Pv
   by_cases h:e.lo<=(b:Int)/\(b:Int)<=e.hi
   ·rw[if_pos h,if_pos (by omega)]
   ·rw[taa h,taa (by omega)]
  rw[hb];have hg2:((A++[b8 (Pv g0 e)])++[wC e])[A.length+1]? =some (wC e):=by have:=Gk (A++[b8 (Pv g0 e)]) (wC e);rw[Aaa] at this;exact this
  have p2:=fun d=>Wg hg2 d 0;have l1:pa ((A++[b8 (Pv g0 e)])++[wC e]) false 1 (.ptr (A.length+1) 1)=some (.pv (i64 e.hi)):=by simp only[pa,hg2];rfl
  generalize (A++[b8 (Pv g0 e)])++[wC e]=HH at *;generalize hQ:(fun r:Ex×St=>r.1.stop=true/\_)=Q;simp -implicitDefEqProofs only[SX,sevalprocAttr,Bk,k2,g16,e1,p2,l1];subst hQ;refine⟨rfl,_,rfl,fun t ht=> ?_⟩
  ·rw[<- k1 t (by simp at ht ⊢;omega)]
   simp only[bab,oac,or_false] at ht;rcases ht with rfl | rfl | rfl | rfl | rfl | rfl | rfl | rfl <;> simp[Tr.aa]
end
section
variable {call:Sa}{A:List ba}(hA:Vd A)
include hA
theorem sW{E:Tr}{tb:Nat}{L S:PV}{x y:PV}{es:List de}(Ba:sj es)(hL:Zh 3 L (es.map bI))(hlen:es.length<=256)(htb:tb < A.length)(h8:E.get 8= .ptr tb 0)(h13:E.get 13= .ptr A.length 0)
 (h101:E.get 101= .pv S) (h102:E.get 102= .pv x) (h103:E.get 103= .pv y) (h114:E.get 114= .pv L) (h115:E.get 115= .pv (i64 es.length)) (h116:E.get 116= .pv (i64 0)):
 qd (fun r=>r.1.stop=true/\∃ E',r=(.exit 6,⟨E',A++[b8 (Kl es)]⟩)/\∀ t∈[8,13,101,102,103],E'.get t=E.get t)
  (oa call (.loop [8,13,101,102,103,114,115,116] rk) ⟨E,A++[b8 fun _=> -2]⟩):=by
 have C7:Fit (A.length+1) [8,13,101,102,103,114,115] E:=
  .cons h8 (fw (by omega)) (.cons h13 (fw (by omega)) (.cons h101 Qa (.cons h102 Qa (.cons h103 Qa (.cons h114 Qa (.cons h115 Qa (.nil _ _)))))))
 refine Dr (fun i t=>Xe [8,13,101,102,103,114,115] E t.env/\t.env.get 116= .pv (i64 i)/\t.H=A++[b8 ((es.take i).foldl Pv fun _=> -2)]) es.length (by unfold ua;omega) ?_ ?_ ?_
 ·rw[Aaa]
  exact Rh.all (by simp) (wB hA _ (by simp)) (Fit.sub (.cons h116 Qa C7) rfl) fun E' hE=>⟨Xe.sub hE rfl,by rw[hE 116 (by simp),h116];rfl,rfl⟩
 ·rintro i ⟨E1,H1⟩ hi ⟨k1,k2,k3⟩
  simp only at k1 k2 k3;subst k3;have g8:=k1 8 (by simp);rw[h8] at g8;have g13:=k1 13 (by simp);rw[h13] at g13;have Dah:=k1 101 (by simp);rw[h101] at Dah;have Zad:=k1 102 (by simp);rw[h102] at Zad;have Eah:=k1 103 (by simp);rw[h103] at Eah;have Naf:=k1 114 (by simp);rw[h114] at Naf;have hac:=k1 115 (by simp);rw[h115] at hac;have hle:=hL.lit (i:=i) (by simpa using hi)
  have hea:=Ba.By es[i] (saa hi)
  have Z7:(es.take (i+1)).foldl Pv (fun _=> -2)=Pv ((es.take i).foldl Pv fun _=> -2) es[i]:=by rw[List.take_succ_eq_append_getElem hi,Kad];rfl
  have a1:ta (A++[b8 ((es.take i).foldl Pv fun _=> -2)]) 3 (.pv L) (i:Int)=some (.pv (.rp [i64 es[i].lo,i64 es[i].hi,i64 es[i].to] 0)):=by rw[hle];simp only[ta];rw[if_pos ⟨trivial,by unfold Ia;rw[paa];omega⟩,Eaa,Faa,caa hi];rfl
  rw[Z7];generalize (es.take i).foldl Pv (fun _=> -2)=g0 at *
  generalize es[i]=e at *;have e1:decide ((i:Int) < (es.length:Int))=true:=Ea (by omega);have t1:IntKind.i64.wrap ((i:Int)+1)=((i+1:Nat):Int):=sg (by omega)
  have r3:∀ H (x y z:PV),pa H true 3 (.pv (.rp [x,y,z] 0))=some (.pv (.agg [x,y,z])):=fun H x y z=>rfl;have hln:(A++[b8 g0]).length=A.length+1:=by simp
  have s1:Ha ((A++[b8 g0])++[.box [.pv (i64 0),.pv (i64 0),.pv (i64 0)]]) 3 (.ptr (A.length+1) 0) (.pv (.agg [i64 e.lo,i64 e.hi,i64 e.to]))=some ((A++[b8 g0])++[wC e]):=by have:=Vp (A++[b8 g0]) (.box [.pv (i64 0),.pv (i64 0),.pv (i64 0)]) (wC e);have hg:=Gk (A++[b8 g0]) (.box [.pv (i64 0),.pv (i64 0),.pv (i64 0)]);rw[hln] at this hg;simp only[Ha,hg];rw[if_pos (by simp[AV.cells,PV.cells,AV.one]),if_pos (by simp)];rw[<- this];rfl
  have hg2:((A++[b8 g0])++[wC e])[A.length+1]? =some (wC e):=by have:=Gk (A++[b8 g0]) (wC e);rw[hln] at this;exact this
  have p2:=fun d=>Wg hg2 d 0;have l0:pa ((A++[b8 g0])++[wC e]) false 1 (.ptr (A.length+1) 0)=some (.pv (i64 e.lo)):=by simp only[pa,hg2];rfl
  have hed:=fun (E2:Tr)(q8:E2.get 8= .ptr tb 0)(q13:E2.get 13= .ptr A.length 0)(q16:E2.get 16= .ptr (A.length+1) 0)(q17:E2.get 17= .pv (i64 e.lo))(xab:E2.get 101= .pv S)(yab:E2.get 102= .pv x)(zab:E2.get 103= .pv y)(Aab:E2.get 114= .pv L)(Bab:E2.get 115= .pv (i64 es.length))(Saa:E2.get 116= .pv (i64 i))=>
   I0 (call:=call) hA (g0:=g0) hea htb q8 q13 q16 q17 xab yab zab Aab Bab Saa
  generalize hHH:(A++[b8 g0])++[wC e]=HH at *;generalize hHK:(A++[b8 g0])++[ba.box [.pv (i64 0),.pv (i64 0),.pv (i64 0)]]=HK at *;generalize hQ:RQ _ _ _ _=Q;simp -implicitDefEqProofs only[SX,sevalprocAttr,rk,k2,Naf,hac,e1,a1,r3,hln,hHK,s1,p2,l0];generalize U7:(Tr.set _ 17 _:Tr)=E2;have q8:E2.get 8= .ptr tb 0:=by rw[<- U7];simp[Tr.aa,g8]
  have q13:E2.get 13= .ptr A.length 0:=by rw[<- U7];simp[Tr.aa,g13]
  have q16:E2.get 16= .ptr (A.length+1) 0:=by rw[<- U7];simp[Tr.aa]
  have q17:E2.get 17= .pv (i64 e.lo):=by rw[<- U7];simp[Tr.aa]
  have xab:E2.get 101= .pv S:=by rw[<- U7];simp[Tr.aa,Dah]
  have yab:E2.get 102= .pv x:=by rw[<- U7];simp[Tr.aa,Zad]
  have zab:E2.get 103= .pv y:=by rw[<- U7];simp[Tr.aa,Eah]
  have Aab:E2.get 114= .pv L:=by rw[<- U7];simp[Tr.aa,Naf]
  have Bab:E2.get 115= .pv (i64 es.length):=by rw[<- U7];simp[Tr.aa,hac]
  have Saa:E2.get 116= .pv (i64 i):=by rw[<- U7];simp[Tr.aa,k2]
  refine wa (hed E2 q8 q13 q16 q17 xab yab zab Aab Bab Saa) ?_;rintro r ⟨_,E3,rfl,hE3⟩;have z116:=hE3 116 (by simp);rw[Saa] at z116;have kE:Xe [8,13,101,102,103,114,115] E E3:=by
   refine Xe.trans ?_ (Xe.sub hE3 rfl)
   rw[<- U7]
   repeat refine Xe.set ?_ rfl
   exact k1
  simp -implicitDefEqProofs only[SX,sevalprocAttr,z116,t1];subst hQ;rw[Yn];have kF:∀ v w,Xe [8,13,101,102,103,114,115] E ((E3.set 133 v).set 116 w):=fun v w=>Xe.set (Xe.set kE rfl) rfl
  rw[Aaa];exact Rh.front (by simp) (wB hA _ (by simp)) (Fit.sub (.cons (t:=116) (by rw[Tr.aa,if_pos rfl]) Qa (C7.ie (kF _ _))) rfl) fun E' hE=>⟨(kF _ _).trans (Xe.sub hE rfl),by rw[hE 116 (by simp),Tr.aa,if_pos rfl],rfl⟩
 ·rintro⟨E1,H1⟩ ⟨k1,k2,k3⟩
  simp only at k1 k2 k3;subst k3;have hac:=k1 115 (by simp);rw[h115] at hac;have e1:decide ((es.length:Int) < (es.length:Int))=false:=Ga (by omega);rw[Fab,qv (g:=es.foldl Pv fun _=> -2) (g':=Kl es) fun b _=>fJ es _ Ba.ord];generalize hQ:(fun r:Ex×St=>r.1.stop=true/\_)=Q;simp -implicitDefEqProofs only[SX,sevalprocAttr,rk,k2,hac,e1];subst hQ;exact⟨rfl,_,rfl,Xe.set (Xe.sub k1 rfl) rfl⟩
end
theorem vU{v:PV}{l:List (Int×Int)}(h:iq v l):∃ w,yd [v]=some w/\Zh 2 w (ae l)/\(l≠[]->w= .lit 2 (ae l)):=by
 rcases h.is with⟨rfl,hl⟩ | rfl
 ·refine⟨.ga,?_,.inl ⟨rfl,hl⟩,fun I7=>absurd (by simpa[ae] using hl) I7⟩
  simp -implicitDefEqProofs only[yd,SP,SA,SQ,WP,WQ,sevalprocAttr,Me]
 ·refine⟨.lit 2 (ae l),?_,.inr rfl,fun _=>rfl⟩
  have hr:eb (ae l).length 16:=by have:=h.sz;unfold eb;simp;omega
  generalize ae l=es at *;simp -implicitDefEqProofs only[yd,SP,SA,SQ,WP,WQ,sevalprocAttr,Me,Laa hr]
abbrev NO(S P:PV)(n i m j:Int):Tr:=((((((((Tr.lf.set 22 (.pv (i64 j))).set 21 (.pv (i64 m))).set 20 (.pv P)).set 12 (.pv (i64 i))).set 11 (.pv (i64 n))).set 10 (.pv S)).set 6 (.ptr 4 0)).set 3 (.ptr 1 0)).set 2 (.ptr 0 0)
abbrev FR(S:PV)(n i:Int):Tr:=((((Tr.lf.set 12 (.pv (i64 i))).set 11 (.pv (i64 n))).set 10 (.pv S)).set 3 (.ptr 1 0)).set 2 (.ptr 0 0)
abbrev W5(out:List PV)(nl:Bool):List ba:=[.box [.pv .ga],.box [.uq 2 nl 2 out],.tok 2 out.length nl]
abbrev IL(out:List PV)(nl:Bool)(P:PV)(f:Int)(ps:List PV)(b9:Bool):List ba:=[.box [.pv .ga],.box [.uq 2 nl 2 out],.tok 2 out.length nl,.box [.pv P,.pv (i64 f)],.box [.uq 5 b9 1 ps,.pv (i64 f)],.tok 1 ps.length b9]
theorem CP{P S:PV}{ls:List (List (Int×Int))}{ps:List PV}(hP:xf P ls ps)(Ba:∀ l∈ls,l≠[])(h8:ls.length<=8)(out:List PV)(nl:Bool)(f n i:Int):
 ∃ E b9,ab (ma (oa (Da (fun _=>none) 8) Ki) (na 6 [2,3,6,10,11,12,20,21,22])) ua ⟨NO S P n i ls.length 0,IL out nl P f [] true⟩=
  some (.exit 2,⟨E,IL out nl P f (ls.map Qe) b9⟩)/\(b9=true->ls=[])/\E.get 2= .ptr 0 0/\E.get 3= .ptr 1 0/\E.get 6= .ptr 4 0/\E.get 10= .pv S/\E.get 11= .pv (i64 n)/\E.get 12= .pv (i64 i):=by
 have key:=Gb (g:=ma (oa (Da (fun _=>none) 8) Ki) (na 6 [2,3,6,10,11,12,20,21,22]))
  (fun j t=>∃ b9,t=⟨NO S P n i ls.length j,IL out nl P f ((ls.take j).map Qe) b9⟩/\(b9=true->j=0))
  (Q:=fun r=>∃ E b9,r=(.exit 2,⟨E,IL out nl P f (ls.map Qe) b9⟩)/\(b9=true->ls=[])/\E.get 2= .ptr 0 0/\E.get 3= .ptr 1 0/\E.get 6= .ptr 4 0/\E.get 10= .pv S/\E.get 11= .pv (i64 n)/\E.get 12= .pv (i64 i))
  ls.length (by unfold ua;omega) ⟨NO S P n i ls.length (0:Nat),IL out nl P f [] true⟩ ⟨true,rfl,fun _=>rfl⟩ ?_ ?_
 ·obtain⟨r,h1,_,E,b9,rfl,h2⟩:=wc key
  exact⟨E,b9,h1,h2⟩
 ·rintro j t hj ⟨b9,rfl,Y7⟩
  obtain⟨v,hv,S8,_⟩:=hP.Pd hj []
  have a1:=hP.dy hv
  obtain⟨w,O7,_,hw⟩:=vU S8;have hw:=hw (Ba _ (saa hj));subst hw;have Z7:(ls.take (j+1)).map Qe=(ls.take j).map Qe++[.lit 2 (ae ls[j])]:=by rw[List.take_succ_eq_append_getElem hj,qac];rfl
  have V7:((ls.take j).map Qe).length=j:=by simp;omega
  generalize ls[j]=l at *;have e1:decide ((j:Int) < (ls.length:Int))=true:=Ea (by omega);have t2:=Za hj (by unfold maxLen;omega);have r1:∀ H (x:PV),pa H false 1 (.pv (.rp [x] 0))=some (.pv x):=fun H x=>rfl;have e8:=Ih (A:=IL out nl P f ((ls.take j).map Qe) b9) (id:=5) (n:=j) (h:= .uq) (ag:=false) (nl:=b9) (sz:=1) (bytes:=24) (es:=(ls.take j).map Qe) (by show some (ba.tok 1 ((ls.take j).map Qe).length b9)=_;rw[V7]) V7.symm (by unfold eb;omega) (.lit 2 (ae l))
  have x8:((ls.take j).map Qe++[PV.lit 2 (ae l)]).length=j+1:=by rw[Aaa,V7];rfl
  have Cab:Cb (IL out nl P f ((ls.take j).map Qe) b9) false .uq 1 false 24 (.uq 5 b9 1 ((ls.take j).map Qe)) (.pv (.lit 1 [.lit 2 (ae l)]))=some (.uq 5 false 1 ((ls.take j).map Qe++[.lit 2 (ae l)]),[.box [.pv .ga],.box [.uq 2 nl 2 out],.tok 2 out.length nl,.box [.pv P,.pv (i64 f)],.box [.uq 5 b9 1 ((ls.take j).map Qe),.pv (i64 f)],.tok 1 (j+1) false]):=e8
  unfold IL at Cab ⊢;rw[V7] at Cab ⊢;have p0:∀ (x:AV)(y z:ba),place [.box [.pv .ga],.box [.uq 2 nl 2 out],y,.box [.pv P,.pv (i64 f)],.box [x,.pv (i64 f)],z] 0 (.ptr 4 0)=some (.ptr 4 0):=fun x y z=>rfl;have l0:∀ (x:AV)(y z:ba),pa [.box [.pv .ga],.box [.uq 2 nl 2 out],y,.box [.pv P,.pv (i64 f)],.box [x,.pv (i64 f)],z] false 1 (.ptr 4 0)=some x:=fun x y z=>rfl;have s0:∀ (x:AV)(y z:ba)(es:List PV),Ha [.box [.pv .ga],.box [.uq 2 nl 2 out],y,.box [.pv P,.pv (i64 f)],.box [x,.pv (i64 f)],z] 1 (.ptr 4 0) (.uq 5 false 1 es)=some [.box [.pv .ga],.box [.uq 2 nl 2 out],y,.box [.pv P,.pv (i64 f)],.box [.uq 5 false 1 es,.pv (i64 f)],z]:=fun x y z es=>rfl;generalize hp0:(ls.take j).map Qe=ps0 at *
  generalize hL:PV.lit 2 (ae l)=L at *
  have hL1:(AV.pv L).cells=[.pv L]/\(AV.pv L).one=true:=by rw[<- hL];exact⟨rfl,rfl⟩
  have b5:(5 < 6)=True:=by simp
  have b4:(4 < 6)=True:=by simp
  have b2:(2 < 6)=True:=by simp
  have b1:(1 < 6)=True:=by simp
  have b0:(0 < 6)=True:=by simp
  have hLc:L.cells=[L]:=by rw[<- hL];rfl
  generalize hQ:LN _ _ j=Q;subst hL;simp -implicitDefEqProofs only[SP,WP,fa,sevalprocAttr,Ki,e1,t2,a1,r1,p0,l0,s0,O7,Cab,b0,b1,b2,b4,b5,na,Ca,AV.cut,qa,Ra,za,NO];subst hQ;refine⟨false,?_,by simp⟩;rw[Z7,x8]
 ·rintro t ⟨b9,rfl,Y7⟩
  rw[Fab];have e1:decide ((ls.length:Int) < (ls.length:Int))=false:=Ga (by omega);generalize hQ:(fun r:Ex×St=>r.1.stop=true/\_)=Q;simp -implicitDefEqProofs only[SX,sevalprocAttr,Ki,e1,NO];subst hQ;exact⟨rfl,_,b9,rfl,fun h=>yaa (Y7 h),by simp[Tr.aa],by simp[Tr.aa],by simp[Tr.aa],by simp[Tr.aa],by simp[Tr.aa],by simp[Tr.aa]⟩
theorem gF{S:PV}{ss:List Ob}{es:List PV}(hS:qb S ss es)(Ba:Xb ss):∃ S',Gj [.agg [S]]=some (.agg [S'])/\Zh 2 S' (ss.map uf):=by
 have lS:=hS.Tb
 have h32:=Ba.len
 have u9:(AV.pv S).one=true:=by rcases hS.is with⟨h,_⟩ | h <;> rw[h] <;> rfl
 have D7:qd (fun r=>∃ E nl,r=(.exit 0,⟨E,W5 (ss.map uf) nl⟩)/\(nl=true->ss=[])/\E.get 2= .ptr 0 0/\E.get 3= .ptr 1 0)
  (ab (ma (oa (Da (fun _=>none) 8) Ai) (na 3 [2,3,10,11,12])) ua ⟨FR S ss.length 0,W5 [] true⟩):=by
  refine wa (Gb (g:=ma (oa (Da (fun _=>none) 8) Ai) (na 3 [2,3,10,11,12]))
   (fun i t=>∃ nl,t=⟨FR S ss.length i,W5 ((ss.take i).map uf) nl⟩/\(nl=true->i=0))
   (Q:=fun r=>∃ E nl,r=(.exit 0,⟨E,W5 (ss.map uf) nl⟩)/\(nl=true->ss=[])/\E.get 2= .ptr 0 0/\E.get 3= .ptr 1 0)
   ss.length (by unfold ua;omega) _ ⟨true,rfl,fun _=>rfl⟩ ?_ ?_) (fun r h=>h.2)
  ·rintro i t hi ⟨nl,rfl,Y7⟩
   obtain⟨P,ps,hPs,a1⟩:=hS.Pd hi
   have ok:=Ba.ft _ (saa hi)
   obtain⟨E8,hP2⟩:=hPs.Xz
   have lP:=hPs.parts.Tb
   have Z7:(ss.take (i+1)).map uf=(ss.take i).map uf++[uf ss[i]]:=by rw[List.take_succ_eq_append_getElem hi,qac];rfl
   have V7:((ss.take i).map uf).length=i:=by simp;omega
   obtain⟨E,b9,U8,jak,g2,g3,g6,g10,g11,g12⟩:=CP (S:=S) hPs.parts (fun l hl=>(ok.parts l hl).1) ok.hi ((ss.take i).map uf) nl ss[i].first ss.length i
   have Gah:b9=false:=by
    cases b9 with
    |false=>rfl
    |true=>have:=jak rfl;have h2:=ok.lo;rw[this] at h2;simp at h2
   subst Gah;have hes:uf ss[i]= .agg [.lit 1 (ss[i].parts.map Qe),i64 ss[i].first]:=rfl
   rw[hes] at Z7;generalize ss[i]=p at *;have e1:decide ((i:Int) < (ss.length:Int))=true:=Ea (by omega);have t2:=Za hi (by unfold maxLen;omega);have a2:∀ H,pa H true 2 (.pv (.rp [P,i64 p.first] 0))=some (.pv (.agg [P,i64 p.first])):=fun H=>rfl;generalize (ss.take i).map uf=out at *
   generalize p.parts.map Qe=pp at *
   subst V7;unfold IL at U8;unfold W5;have W8:(out++[PV.agg [.lit 1 pp,i64 p.first]]).length=out.length+1:=by simp
   have e8:∀ (T:List ba),Cb ([.box [.pv .ga],.box [.uq 2 nl 2 out],.tok 2 out.length nl]++T) false .uq 2 true 32 (.uq 2 nl 2 out) (.pv (.lit 2 [.agg [.lit 1 pp,i64 p.first]]))=some (.uq 2 false 2 (out++[.agg [.lit 1 pp,i64 p.first]]),[.box [.pv .ga],.box [.uq 2 nl 2 out],.tok 2 (out.length+1) false]++T):=fun T=>
    Ih (A:=[.box [.pv .ga],.box [.uq 2 nl 2 out],.tok 2 out.length nl]++T) (id:=2) (n:=out.length) (h:= .uq) (ag:=true) (nl:=nl) (sz:=2) (bytes:=32) (es:=out) rfl rfl (by unfold eb;omega) _
   have aae:=fun a b c=>e8 [a,b,c];simp only[fab,cab] at aae;have s1:∀ T:List ba,Ha ([.box [.pv .ga],.box [.uq 2 nl 2 out],.tok 2 out.length nl,.box [.pv .ga,.pv (i64 0)]]) 2 (.ptr 3 0) (.pv (.agg [P,i64 p.first]))=some [.box [.pv .ga],.box [.uq 2 nl 2 out],.tok 2 out.length nl,.box [.pv P,.pv (i64 p.first)]]:=fun T=>
    Ep _ _ _ _ E8 rfl [.box [.pv .ga],.box [.uq 2 nl 2 out],.tok 2 out.length nl] _ rfl
   have s1':=s1 [];have b5:(5 < 6)=True:=by simp
   have b4:(4 < 6)=True:=by simp
   have b2:(2 < 6)=True:=by simp
   have b1:(1 < 6)=True:=by simp
   have b0:(0 < 6)=True:=by simp
   have c2:(2 < 3)=True:=by simp
   have c1:(1 < 3)=True:=by simp
   have c0:(0 < 3)=True:=by simp
   have hz:(0 < 1)=True:=by simp
   generalize hQ:LN _ _ out.length=Q
   have cad:ab (ma (oa (Da (fun _=>none) 8) Ki) (na 6 [2,3,6,10,11,12,20,21,22])) ua ⟨((((((((Tr.lf.set 22 (.pv (.int .i64 0))).set 21 (.pv (i64 p.parts.length))).set 20 (.pv P)).set 12 (.pv (i64 out.length))).set 11 (.pv (i64 ss.length))).set 10 (.pv S)).set 6 (.ptr 4 0)).set 3 (.ptr 1 0)).set 2 (.ptr 0 0),[.box [.pv .ga],.box [.uq 2 nl 2 out],.tok 2 out.length nl,.box [.pv P,.pv (i64 p.first)],.box [.uq 5 true 1 [],.pv (i64 p.first)],.tok 1 0 true]⟩=_:=U8;simp -implicitDefEqProofs only[SP,SA,SQ,sevalprocAttr,ma,Ai,Db,e1,a1,a2,s1',E8,lP,fe,hz,b0,b1,b2,b4,b5,na,Ca,AV.cut,qa,Qa,Ra,za,FR];rw[cad];simp -implicitDefEqProofs only[SP,SQ,WP,WQ,↓reduceIte,reduceCtorEq,Nat.reduceAdd,Nat.reduceMul,Nat.reduceLeDiff,Nat.reduceEqDiff,Int.reduceLT,Int.reduceLE,Int.reduceBEq,Int.reduceEq,Nat.reduceBEq,Nat.reduceLT,Nat.reduceSub,g2,g3,g6,g10,g11,g12,aae,t2,c0,c1,c2,na,Ca,AV.cut,qa,Ra,za];subst hQ;exact⟨false,by rw[Z7,W8],by simp⟩
  ·rintro t ⟨nl,rfl,Y7⟩
   rw[Fab];have e1:decide ((ss.length:Int) < (ss.length:Int))=false:=Ga (by omega);generalize hQ:(fun r:Ex×St=>r.1.stop=true/\_)=Q;simp -implicitDefEqProofs only[SX,sevalprocAttr,Ai,e1,FR];subst hQ;exact⟨rfl,_,nl,rfl,fun h=>yaa (Y7 h),by simp[Tr.aa],by simp[Tr.aa]⟩
 obtain⟨r,h1,E,nl,rfl,Y7,g2,g3⟩:=wc D7;have s9:ab (ma (oa (Da (fun _=>none) 8) Ai) (na 3 [2,3,10,11,12])) ua ⟨((((Tr.lf.set 12 (.pv (.int .i64 0))).set 11 (.pv (i64 ss.length))).set 10 (.pv S)).set 3 (.ptr 1 0)).set 2 (.ptr 0 0),[.box [.pv .ga],.box [.uq 2 true 2 []],.tok 2 0 true]⟩=_:=h1;have hz:(0 < 2)=True:=by simp
 have c2:(2 < 3)=True:=by simp
 have c1:(1 < 3)=True:=by simp
 have c0:(0 < 3)=True:=by simp
 have y8:nl=true->ss.map uf=[]:=fun h=>by rw[Y7 h];rfl
 generalize ss.map uf=out at *
 cases nl with
 |true=>
  refine⟨.ga,?_,.inl ⟨rfl,?_⟩⟩
  ·simp -implicitDefEqProofs only[Gj,SP,SA,SQ,sevalprocAttr,ma,Pp,Db,u9,oB,lS,fe,hz,c0,c1,c2,na,Ca,AV.cut,qa,Qa,Ra,za,s9,g2,g3]
  ·exact y8 rfl
 |false=>refine⟨.lit 2 out,?_,.inr rfl⟩;simp -implicitDefEqProofs only[Gj,SP,SA,SQ,sevalprocAttr,ma,Pp,Db,u9,oB,lS,fe,hz,c0,c1,c2,na,Ca,AV.cut,qa,Qa,Ra,za,s9,g2,g3]
theorem Xb.ne{ss:List Ob}(h:Xb ss):∀ s∈ss,0 < s.parts.length:=fun s hs=>(h.ft s hs).lo
theorem qb.M6{S:PV}{ss:List Ob}{es:List PV}(h:qb S ss es):∀ s∈ss,∀ l∈s.parts,l.length * 16<=140737488355328:=by
 intro s hs l hl;obtain⟨i,hi,rfl⟩:=Eab hs;obtain⟨e,P,ps,_,_,hp⟩:=h.get hi
 obtain⟨j,hj,rfl⟩:=Eab hl;obtain⟨v,_,_,hv⟩:=hp.parts.get hj
 exact hv.sz
theorem nj{S:PV}{ss:List Ob}{es:List PV}(hS:qb S ss es):
 (¬ Xb ss->Ic [.agg [S]]=some (.mc [.agg [.ga],i64 84]))/\
 (Xb ss->¬Df ss->Ic [.agg [S]]=some (.mc [.agg [.ga],i64 110]))/\
 (Xb ss->Df ss->ig ss=none->Ic [.agg [S]]=some (.mc [.agg [.ga],i64 130]))/\
 (Xb ss->Df ss->∀ l,ig ss=some l->Ic [.agg [S]]=some (.mc [.agg [Kk l],i64 0])):=by
 have hS0:S= .ga\/∃ l,S= .lit 2 l:=by
  rcases hS.is with⟨h,_⟩ | h
  ·exact .inl h
  ·exact .inr ⟨_,h⟩
 have hp:=lG hS;refine⟨?_,?_,?_,?_⟩
 ·intro h
  exact MS S hS0 (by decide) (hp.1 h)
 ·intro h1 h2
  obtain⟨y,a,b,h3,h4⟩:=hp.2 h1
  have hy:y=false:=by cases y with | false=>rfl | true=>exact absurd (h4.1 rfl) h2
  subst hy;exact bY S hS0 h3
 ·intro h1 h2 h5
  obtain⟨y,a,b,h3,h4⟩:=hp.2 h1
  have hy:=h4.2 h2
  subst hy;obtain⟨S',hc,hs⟩:=gF hS h1;exact ZO S S' ss hS0 h3 hc hs h1.len hS.M6 h1.ne h5
 ·intro h1 h2 l h5
  obtain⟨y,a,b,h3,h4⟩:=hp.2 h1
  have hy:=h4.2 h2
  subst hy;obtain⟨S',hc,hs⟩:=gF hS h1;exact qW S S' ss hS0 h3 hc hs h1.len hS.M6 h1.ne h5
abbrev Ib(es:List PV):ba:= .box (es.map .pv)
theorem ik{A:List ba}{id:Nat}{es:List PV}(hg:A[id]? =some (Ib es))(o d:Nat):place A d (.ptr id o)=some (.ptr id (o+d)):=by
 simp only[place,hg]
theorem iF{A:List ba}{id:Nat}{es:List PV}(hg:A[id]? =some (Ib es)){k:Nat}{e:PV}(hk:es[k]? =some e):pa A false 1 (.ptr id k)=some (.pv e):=by
 simp only[pa,hg,Lh,Baa,if_false,Faa,hk,Kaa]
theorem Gz{A:List ba}{id:Nat}{es:List PV}(hg:A[id]? =some (Ib es)){k:Nat}(hk:k < es.length){e:PV}(hc:e.cells=[e])(h1:(AV.pv e).one=true):Ha A 1 (.ptr id k) (.pv e)=some (A.set id (Ib (es.set k e))):=by
 have M9:(AV.pv e).cells=[.pv e]:=by simp[AV.cells,hc]
 simp only[Ha,hg,M9];rw[if_pos ⟨rfl,by simp[h1]⟩,if_pos (by simp;omega),fa,fa];show _=some (A.set id (.box ((es.set k e).map .pv)));rw[xae]
theorem Tf:∀ (es:List PV),Tc (es.map .pv)=some es
 | []=>rfl
 |e::es=>by rw[pab,Tc,Tf es];rfl
theorem vn{A:List ba}{id n:Nat}{es:List PV}(hg:A[id]? =some (Ib es))(hn:es.length=n):pa A true n (.ptr id 0)=some (.pv (.agg es)):=by
 simp only[pa,hg,Lh,if_true];rw[if_pos (by simp;omega)];have:List.take n (List.drop 0 (es.map AV.pv))=es.map AV.pv:=by rw[Aac,Zaa (by simp;omega)]
 rw[this,gv,Tf]
theorem Uv{α:Type}:∀ (vs cs pre:List α),cs.length=vs.length->fa (pre++cs) pre.length vs=pre++vs
 | [],cs,pre,h=>by cases cs with | nil=>rfl | cons=>simp at h
 |v::vs,cs,pre,h=>by
  cases cs with
  |nil=>simp at h
  |cons c cs=>
   have:(pre++c::cs).set pre.length v=(pre++[v])++cs:=by simp
   rw[fa,this];have h2:=Uv vs cs (pre++[v]) (by simpa using h);simp only[Aaa,tad] at h2;rw[h2];simp
theorem Cr{A:List ba}{id n:Nat}{es fs:List PV}(hg:A[id]? =some (Ib es))(hn:es.length=n)(hf:fs.length=n)(h1:∀ e∈fs,(AV.pv e).one=true):Ha A n (.ptr id 0) (.pv (.agg fs))=some (A.set id (Ib fs)):=by
 have M9:(AV.pv (.agg fs)).cells=fs.map .pv:=rfl
 simp only[Ha,hg,M9];rw[if_pos ⟨by simp[hf],by rw[aab];intro v hv;obtain⟨e,he,rfl⟩:=oab.1 hv;exact h1 e he⟩,if_pos (by simp;omega)];have:=Uv (fs.map AV.pv) (es.map AV.pv) [] (by simp;omega);simp only[cab,Dab] at this;rw[this]
theorem uh(es:List PV)(n:Nat):qa n (Ib es)=some (Ib es):=by
 have:Ra (AV.cut n deep) (es.map AV.pv)=some (es.map AV.pv):=by
  refine Bm ?_;intro v hv;obtain⟨e,_,rfl⟩:=oab.1 hv
  exact Qa
 simp only[qa,this,Kaa]
def Zv(l:List (Int×Int))(i:Nat):Int:=match i with
 |0=> -2
 |k+1=>match l[k]? with | some p=>p.2 | none=> -2
abbrev pC(v:PV)(i:Int):Tr:=(Tr.lf.set 3 (.pv (i64 i))).set 0 (.pv v)
theorem qA{v:PV}{l:List (Int×Int)}(hv:Zh 2 v (ae l))(hw:l.length * 16<=140737488355328):Ig [v]=some (.bool (Pa 255 (-2) l)):=by
 have D7:qd (fun r=>∃ E,(r=(.exit 0,⟨E,[]⟩)/\Pa 255 (-2) l=true)\/(r=(.ret,⟨E,[]⟩)/\E.get 2= .pv (.bool false)/\Pa 255 (-2) l=false))
  (ab (ma (oa (Da (fun _=>none) 8) Nb) (na 0 [0,3])) ua ⟨pC v 0,[]⟩):=by
  refine wa (Gb (g:=ma (oa (Da (fun _=>none) 8) Nb) (na 0 [0,3]))
   (fun i t=>t=⟨pC v i,[]⟩/\ -2<=Zv l i/\Zv l i<=255/\Pa 255 (-2) l=Pa 255 (Zv l i) (l.drop i))
   l.length (by unfold ua;omega) _ ⟨rfl,Kac _,by show (-2:Int)<=255;decide,rfl⟩ ?_ ?_) (fun r h=>h.2)
  ·rintro i t hi ⟨rfl,hlz,hla,hs⟩
   have hl:=hv.lit (i:=i) (by simpa using hi)
   subst hl;have hd:l.drop i=l[i]::l.drop (i+1):=Waa hi
   have T7:Zv l (i+1)=l[i].2:=by simp[Zv,hi]
   have a1:=ym [] hi;have Hah:0 < i->∃ a b,Zv l i=b/\IntKind.i64.wrap ((i:Int) - 1)=((i - 1:Nat):Int)/\ta [] 2 (.pv (.lit 2 (ae l))) ((i - 1:Nat):Int)=some (.pv (.rp [i64 a,i64 b] 0)):=by
    intro h0;have hi1:i - 1 < l.length:=by omega
    refine⟨l[i - 1].1,l[i - 1].2,?_,?_,ym [] hi1⟩
    ·obtain⟨k,rfl⟩:∃ k,i=k+1:=⟨i - 1,by omega⟩
     simp[Zv,show k < l.length by omega]
    ·rw[show (i:Int) - 1=((i - 1:Nat):Int) by omega]
     exact Aa (by omega)
   have e1:decide ((i:Int) < (l.length:Int))=true:=Ea (by omega);have t2:=Za hi (by unfold maxLen;omega);have ln:=Zh.len (sz:=2) (v:= .lit 2 (ae l)) (es:=ae l) (.inr rfl) []
   have lp:(ae l).length=l.length:=by simp[ae]
   rw[lp] at ln;rw[hd,Pa] at hs;have l0:∀ a b:PV,pa [] false 1 (.pv (.rp [a,b] 0))=some (.pv a):=fun a b=>rfl;have l1:∀ a b:PV,pa [] false 1 (.pv (.rp [a,b] 1))=some (.pv b):=fun a b=>rfl;have p0:∀ a b:PV,place [] 0 (.pv (.rp [a,b] 0))=some (.pv (.rp [a,b] 0)):=fun a b=>rfl;have p1:∀ a b:PV,place [] 1 (.pv (.rp [a,b] 0))=some (.pv (.rp [a,b] 1)):=fun a b=>rfl;generalize l[i]=p at *;generalize hV:Pa 255 p.2 (l.drop (i+1))=V at *
   generalize ae l=es at *;generalize hQ:LN _ _ i=Q
   by_cases c1:p.1 < 0
   ·have d1:=Ea c1
    simp -implicitDefEqProofs only[SX,sevalprocAttr,-List.reduceReplicate,Nb,e1,ln,a1,l0,l1,p0,p1,d1,pC];subst hQ;rw[d1] at hs;exact⟨_,.inr ⟨rfl,by simp[Tr.aa],by simpa using hs⟩⟩
   have d1:=Ga c1
   by_cases c2:p.1 > p.2
   ·have d2:=Ea c2
    simp -implicitDefEqProofs only[SX,sevalprocAttr,-List.reduceReplicate,Nb,e1,ln,a1,l0,l1,p0,p1,d1,d2,pC];subst hQ;rw[d2] at hs;exact⟨_,.inr ⟨rfl,by simp[Tr.aa],by simpa using hs⟩⟩
   have d2:=Ga c2
   by_cases c3:p.2 > 255
   ·have d3:=Ea c3
    simp -implicitDefEqProofs only[SX,sevalprocAttr,-List.reduceReplicate,Nb,e1,ln,a1,l0,l1,p0,p1,d1,d2,d3,pC];subst hQ;rw[d3] at hs;exact⟨_,.inr ⟨rfl,by simp[Tr.aa],by simpa using hs⟩⟩
   have d3:=Ga c3;have hs3:∀ b,decide (p.1 - 1<=Zv l i)=b->Pa 255 (-2) l=(!b&&V):=by intro b hb;rw[hs,d1,d2,d3,hb];simp
   by_cases h0:0 < i
   ·obtain⟨a,b,hb,t3,a2⟩:=Hah h0
    have e0:decide ((i:Int) > 0)=true:=Ea (by omega);rw[hb] at hla hlz hs3;have t5:IntKind.i64.wrap (b+1)=b+1:=Aa (by omega)
    by_cases c4:p.1<=b+1
    ·have d4:=Ea c4
     have B8:Pa 255 (-2) l=false:=by rw[hs3 true (Ea (by omega))];rfl
     simp -implicitDefEqProofs only[SX,sevalprocAttr,-List.reduceReplicate,Nb,e1,ln,a1,l0,l1,p0,p1,d1,d2,d3,e0,t3,t5,a2,d4,pC];subst hQ;exact⟨_,.inr ⟨rfl,by simp[Tr.aa],B8⟩⟩
    ·have d4:=Ga c4
     simp -implicitDefEqProofs only[SX,sevalprocAttr,-List.reduceReplicate,Nb,e1,ln,a1,l0,l1,p0,p1,d1,d2,d3,e0,t2,t3,t5,a2,d4,na,Ca,AV.cut,za,pC];subst hQ;refine⟨rfl,by omega,by omega,?_⟩;rw[T7,hV,hs3 false (Ga (by omega))];rfl
   ·have e0:decide ((i:Int) > 0)=false:=Ga (by omega)
    have hi0:Zv l i= -2:=by
     have:i=0:=by omega
     subst this;rfl
    simp -implicitDefEqProofs only[SX,sevalprocAttr,-List.reduceReplicate,Nb,e1,ln,a1,l0,l1,p0,p1,d1,d2,d3,e0,t2,na,Ca,AV.cut,za,pC];subst hQ;refine⟨rfl,by omega,by omega,?_⟩;rw[T7,hV,hs3 false (Ga (by omega))];rfl
  ·rintro t ⟨rfl,hlz,hla,hs⟩
   rw[Hab,Pa] at hs;have ln:=hv.len []
   rw[show (ae l).length=l.length by simp[ae]] at ln;have e1:decide ((l.length:Int) < (l.length:Int))=false:=Ga (by omega);generalize hQ:(fun r:Ex×St=>r.1.stop=true/\_)=Q;simp -implicitDefEqProofs only[SX,sevalprocAttr,-List.reduceReplicate,Nb,e1,ln,pC];subst hQ;exact⟨rfl,_,.inl ⟨rfl,hs⟩⟩
 apply bl;simp -implicitDefEqProofs only[Ig,SX,sevalprocAttr,-List.reduceReplicate,sk,Db,na,Ca,AV.cut,za];refine wa D7 ?_;rintro _ ⟨E,⟨rfl,hb⟩ | ⟨rfl,hE,hb⟩⟩
 ·simp -implicitDefEqProofs only[SX,sevalprocAttr,-List.reduceReplicate,hb]
 ·simp -implicitDefEqProofs only[SX,sevalprocAttr,-List.reduceReplicate,hE,hb]
def vg(f:Nat->Bool):List PV:=(List.range 256).map fun x=> .bool (f x)
theorem Sp(f:Nat->Bool):(vg f).length=256:=by simp[vg]
theorem HR(f:Nat->Bool){x:Nat}(h:x < 256):(vg f)[x]? =some (.bool (f x)):=by simp[vg,h]
theorem bP(f:Nat->Bool){x:Nat}(h:x < (vg f).length):(vg f)[x]= .bool (f x):=by
 simp only[vg,rae,Yad]
theorem D0(f:Nat->Bool){x:Nat}(h:x < 256)(b:Bool):(vg f).set x (.bool b)=vg fun y=>if y=x then b else f y:=by
 apply Dad
 ·rw[uac,Sp,Sp]
 ·intro j h1 h2
  rw[Nae,bP,bP]
  by_cases hj:x=j
  ·subst hj;rw[if_pos rfl,if_pos rfl]
  ·rw[taa hj,taa (rac hj)]
theorem nv{f g:Nat->Bool}(h:∀ x,x < 256->f x=g x):vg f=vg g:=by
 unfold vg;apply pac;intro x hx;rw[h x (by simpa using hx)]
theorem fD:List.replicate 256 (PV.bool false)=vg fun _=>false:=by
 apply Dad
 ·rw[cac,Sp]
 ·intro j h1 h2;rw[List.getElem_replicate,bP]
theorem mS(f:Nat->Bool):∀ e∈vg f,(AV.pv e).one=true:=by
 intro e he;obtain⟨x,_,rfl⟩:=oab.1 he
 rfl
def Wx(l:List (Int×Int))(x:Nat):Bool:=l.any fun p=>decide (p.1<=(x:Int))&&decide ((x:Int)<=p.2)
theorem sw{l:List (Int×Int)}{x:Nat}:Wx l x=true↔Qk (x:Int) l:=by
 unfold Wx Qk;simp
abbrev bR(v:PV)(i y:Int):Tr:=((((Tr.lf.set 5 (.pv (i64 y))).set 4 (.pv (i64 i))).set 3 (.ptr 1 0)).set 2 (.ptr 0 0)).set 0 (.pv v)
abbrev ZD(v:PV)(i:Int):Tr:=(((Tr.lf.set 4 (.pv (i64 i))).set 3 (.ptr 1 0)).set 2 (.ptr 0 0)).set 0 (.pv v)
theorem nI(call:Sa){v:PV}{l:List (Int×Int)}(hv:Zh 2 v (ae l)){i:Nat}(hi:i < l.length)(hp:0<=l[i].1/\l[i].1<=l[i].2/\l[i].2<=255)(Z:List PV):
 qd (fun r=>∃ E,r=(.exit 2,⟨E,[Ib Z,Ib (vg (Wx (l.take (i+1))))]⟩)/\E.get 0= .pv v/\E.get 2= .ptr 0 0/\E.get 3= .ptr 1 0/\E.get 4= .pv (i64 i))
  (ab (ma (oa call Te) (na 2 [0,2,3,4,5])) ua ⟨bR v i l[i].1,[Ib Z,Ib (vg (Wx (l.take i)))]⟩):=by
 have hl:=hv.lit (i:=i) (by simpa using hi)
 subst hl;have a1:=fun A=>ym A hi;have Z7:∀ x,Wx (l.take (i+1)) x=(Wx (l.take i) x||(decide (l[i].1<=(x:Int))&&decide ((x:Int)<=l[i].2))):=by
  intro x;have:l.take (i+1)=l.take i++[l[i]]:=by simp
  rw[this];simp only[Wx,List.any_append,List.any_cons,List.any_nil,nae]
 have l1:∀ (A:List ba)(a b:PV),pa A false 1 (.pv (.rp [a,b] 1))=some (.pv b):=fun A a b=>rfl;have p1:∀ (A:List ba)(a b:PV),place A 1 (.pv (.rp [a,b] 0))=some (.pv (.rp [a,b] 1)):=fun A a b=>rfl;generalize l[i]=p at *;generalize hes:ae l=es at *;generalize hf:Wx (l.take i)=f at *;have hlen:∀ f,(vg f).length=256:=Sp
 refine wa (Gb (g:=ma (oa call Te) (na 2 [0,2,3,4,5]))
  (fun k t=>t=⟨bR (.lit 2 es) i (p.1+k),[Ib Z,Ib (vg fun x=>f x||(decide (p.1<=(x:Int))&&decide ((x:Int) < p.1+k)))]⟩)
  (p.2+1 - p.1).toNat (by unfold ua;omega) _ ?_ ?_ ?_) (fun r h=>h.2)
 ·have:(vg fun x=>f x||(decide (p.1<=(x:Int))&&decide ((x:Int) < p.1+(0:Nat))))=vg f:=by
   refine nv fun x hx=> ?_;have:(decide (p.1<=(x:Int))&&decide ((x:Int) < p.1+(0:Nat)))=false:=by
    rw[Bool.and_eq_false_iff]
    by_cases h:p.1<=(x:Int)
    ·exact .inr (Ga (by omega))
    ·exact .inl (Ga h)
   rw[this,nae]
  rw[this,show p.1+((0:Nat):Int)=p.1 by omega]
 ·rintro k t hk rfl
  obtain⟨y,hy⟩:∃ y:Nat,p.1+(k:Int)=y:=⟨(p.1+k).toNat,by omega⟩
  have Iah:y < 256:=by omega
  have e1:decide ((y:Int)<=p.2)=true:=Ea (by omega);have hq:Ia (y:Int) 256:=by unfold Ia;omega
  have t1:((y:Int)).toNat=y:=by simp
  have m1:y * 1=y:=by omega
  have z1:0+y=y:=by omega
  have t2:IntKind.i64.wrap ((y:Int)+1)=((y+1:Nat):Int):=Aa (by omega)
  rw[hy];have F9:(vg fun x=>f x||(decide (p.1<=(x:Int))&&decide ((x:Int) < (y:Int)))).set y (.bool true)=vg fun x=>f x||(decide (p.1<=(x:Int))&&decide ((x:Int) < p.1+(k+1:Nat))):=by
   rw[D0 _ Iah];refine nv fun x hx=> ?_
   by_cases hxy:x=y
   ·have h1:p.1<=(x:Int):=by omega
    have h2:(x:Int) < p.1+(k+1:Nat):=by omega
    rw[if_pos hxy,Ea h1,Ea h2];simp
   ·have:((x:Int) < (y:Int))=((x:Int) < p.1+(k+1:Nat)):=by apply propext;omega
    rw[taa hxy];simp only[this]
  have R9:=hlen fun x=>f x||(decide (p.1<=(x:Int))&&decide ((x:Int) < (y:Int)))
  generalize hT:(vg fun x=>f x||(decide (p.1<=(x:Int))&&decide ((x:Int) < (y:Int))))=T at *;have pl:=ik (A:=[Ib Z,Ib T]) (id:=1) (es:=T) rfl 0 y;have st:=Gz (A:=[Ib Z,Ib T]) (id:=1) (es:=T) rfl (k:=y) (by omega) (e:= .bool true) rfl rfl;rw[F9] at st;rw[z1] at pl;have st2:([Ib Z,Ib T]:List ba).set 1 (Ib (vg fun x=>f x||(decide (p.1<=(x:Int))&&decide ((x:Int) < p.1+(k+1:Nat)))))=[Ib Z,Ib (vg fun x=>f x||(decide (p.1<=(x:Int))&&decide ((x:Int) < p.1+(k+1:Nat))))]:=rfl
  rw[st2] at st;have c1:=uh Z 2;have c2:=uh (vg fun x=>f x||(decide (p.1<=(x:Int))&&decide ((x:Int) < p.1+(k+1:Nat)))) 2;have Q7:p.1+((k+1:Nat):Int)=((y+1:Nat):Int):=by omega
  generalize hT':(vg fun x=>f x||(decide (p.1<=(x:Int))&&decide ((x:Int) < p.1+(k+1:Nat))))=T' at *;have O7:Ra (qa 2) [Ib Z,Ib T']=some [Ib Z,Ib T']:=by simp[Ra,c1,c2]
  have Z8:([Ib Z,Ib T']:List ba).take 2=[Ib Z,Ib T']:=rfl
  generalize Ib Z=oz at *;generalize Ib T=ot at *;generalize hot:Ib T'=ot' at *;have d0:(0 < 2)=True:=by simp
  have d1:(1 < 2)=True:=by simp
  generalize hQ:LN _ _ k=Q;simp -implicitDefEqProofs only[SX,sevalprocAttr,-List.reduceReplicate,Te,e1,a1,l1,p1,Laa hq,t1,m1,pl,st,t2,O7,Z8,d0,d1,na,Ca,AV.cut,za,bR];subst hQ;show (_:St)=_;rw[hT',hot,Q7]
 ·rintro t rfl
  have e1:decide (p.1+((p.2+1 - p.1).toNat:Int)<=p.2)=false:=Ga (by omega);have Q7:(vg fun x=>f x||(decide (p.1<=(x:Int))&&decide ((x:Int) < p.1+((p.2+1 - p.1).toNat:Int))))=vg (Wx (l.take (i+1))):=by
   refine nv fun x hx=> ?_;have:((x:Int) < p.1+((p.2+1 - p.1).toNat:Int))=((x:Int)<=p.2):=by apply propext;omega
   rw[Z7];simp only[this]
  rw[Q7];generalize Ib (vg (Wx (l.take (i+1))))=ot;generalize Ib Z=oz;generalize hQ:(fun r:Ex×St=>r.1.stop=true/\_)=Q;simp -implicitDefEqProofs only[SX,sevalprocAttr,-List.reduceReplicate,Te,e1,a1,l1,p1,bR];subst hQ;exact⟨rfl,_,rfl,by simp[Tr.aa],by simp[Tr.aa],by simp[Tr.aa],by simp[Tr.aa]⟩
theorem Vn{l:List (Int×Int)}{last:Int}(h:Pa 255 last l=true):∀ p∈l,0<=p.1/\p.1<=p.2/\p.2<=255:=by
 induction l generalizing last with
 |nil=>intro p hp;cases hp
 |cons q l ih=>
  simp only[Pa,daa,tac,Had,decide_eq_false_iff_not] at h;intro p hp;rcases bab.1 hp with rfl | hp
  ·omega
  ·exact ih h.2 p hp
def lj(l:List (Int×Int))(x:Nat):Bool:=Pa 255 (-2) l&&Wx l x
theorem Dy{v:PV}{l:List (Int×Int)}(hv:Zh 2 v (ae l))(hw:l.length * 16<=140737488355328):Dd [v]=some (.agg (vg (lj l))):=by
 have hvr:=qA hv hw;have hz:([]++[ba.box (List.map AV.pv (List.replicate 256 (PV.bool false)))]++[ba.box (List.map AV.pv (List.replicate 256 (PV.bool false)))]:List ba)=[Ib (vg fun _=>false),Ib (vg fun _=>false)]:=by rw[fD];rfl
 have hz1:ba.box (List.map AV.pv (List.replicate 256 (PV.bool false)))=Ib (vg fun _=>false):=by rw[fD]
 have R7:∀ f,pa [Ib (vg fun _=>false),Ib (vg f)] true 256 (.ptr 1 0)=some (.pv (.agg (vg f))):=fun f=>vn (id:=1) rfl (Sp f);have W7:∀ f,Ha [Ib (vg fun _=>false),Ib (vg f)] 256 (.ptr 0 0) (.pv (.agg (vg f)))=some [Ib (vg f),Ib (vg f)]:=fun f=>Cr (id:=0) rfl (Sp _) (Sp f) (mS f);have I9:∀ f,pa [Ib (vg f),Ib (vg f)] true 256 (.ptr 0 0)=some (.pv (.agg (vg f))):=fun f=>vn (id:=0) rfl (Sp f)
 by_cases Ba:Pa 255 (-2) l=true
 ·rw[Ba] at hvr
  have Q7:vg (lj l)=vg (Wx l):=nv fun x _=>by rw[lj,Ba,uab]
  rw[Q7];have hpc:=Vn Ba;have D7:qd (fun r=>∃ E,r=(.exit 0,⟨E,[Ib (vg fun _=>false),Ib (vg (Wx l))]⟩)/\E.get 2= .ptr 0 0/\E.get 3= .ptr 1 0)
   (ab (ma (oa (Da (fun _=>none) 8) Oe) (na 2 [0,2,3,4])) ua ⟨ZD v 0,[Ib (vg fun _=>false),Ib (vg fun _=>false)]⟩):=by
   refine wa (Gb (g:=ma (oa (Da (fun _=>none) 8) Oe) (na 2 [0,2,3,4]))
    (fun i t=>t=⟨ZD v i,[Ib (vg fun _=>false),Ib (vg (Wx (l.take i)))]⟩)
    l.length (by unfold ua;omega) _ rfl ?_ ?_) (fun r h=>h.2)
   ·rintro i t hi rfl
    have U8:=nI (Da (fun _=>none) 8) hv hi (hpc _ (saa hi)) (vg fun _=>false);have a1:=fun A=>ym A hi;have ln:=hv.len
    have hl:=hv.lit (i:=i) (by simpa using hi)
    subst hl;have lp:(ae l).length=l.length:=by simp[ae]
    simp only[lp] at ln;have l0:∀ (A:List ba)(a b:PV),pa A false 1 (.pv (.rp [a,b] 0))=some (.pv a):=fun A a b=>rfl;have p0:∀ (A:List ba)(a b:PV),place A 0 (.pv (.rp [a,b] 0))=some (.pv (.rp [a,b] 0)):=fun A a b=>rfl;have e1:decide ((i:Int) < (l.length:Int))=true:=Ea (by omega);have t2:=Za hi (by unfold maxLen;omega);have O7:∀ f g,Ra (qa 2) [Ib (vg f),Ib (vg g)]=some [Ib (vg f),Ib (vg g)]:=fun f g=>by have c1:=uh (vg f) 2;have c2:=uh (vg g) 2;simp only[Ra,c1,c2,Daa,Kaa]
    have kak:=O7 (fun _=>false) (Wx (l.take i));have haa:=O7 (fun _=>false) (Wx (l.take (i+1)));have Z8:∀ a b:ba,([a,b]:List ba).take 2=[a,b]:=fun a b=>rfl
    generalize l[i]=p at *;generalize hes:ae l=es at *;have hI:⟨ZD (.lit 2 es) (i+1:Nat),[Ib (vg fun _=>false),Ib (vg (Wx (l.take (i+1))))]⟩=(⟨ZD (.lit 2 es) (i+1:Nat),[Ib (vg fun _=>false),Ib (vg (Wx (l.take (i+1))))]⟩:St):=rfl;have M8:∀ s:St,s=⟨ZD (.lit 2 es) (i+1:Nat),[Ib (vg fun _=>false),Ib (vg (Wx (l.take (i+1))))]⟩->LN (fun i t=>t=⟨ZD (.lit 2 es) i,[Ib (vg fun _=>false),Ib (vg (Wx (l.take i)))]⟩) (fun r=>∃ E,r=(.exit 0,⟨E,[Ib (vg fun _=>false),Ib (vg (Wx l))]⟩)/\E.get 2= .ptr 0 0/\E.get 3= .ptr 1 0) i (.norm,s):=fun s h=>h;generalize Ib (vg fun _=>false)=oz at *;generalize Ib (vg (Wx (l.take i)))=ot at *;generalize Ib (vg (Wx (l.take (i+1))))=ot' at *;have d0:(0 < 2)=True:=by simp
    have d1:(1 < 2)=True:=by simp
    generalize hQ:LN _ _ i=Q at M8 ⊢;simp -implicitDefEqProofs only[SX,sevalprocAttr,-List.reduceReplicate,Oe,Db,e1,ln,a1,l0,p0,kak,Z8,d0,d1,na,Ca,AV.cut,za,ZD];refine wa U8 ?_;rintro r ⟨E,rfl,g0,g2,g3,g4⟩;simp -implicitDefEqProofs only[SX,sevalprocAttr,-List.reduceReplicate,g0,g2,g3,g4,t2,haa,Z8,d0,d1,na,Ca,AV.cut,za];exact M8 _ rfl
   ·rintro t rfl
    rw[Fab];have ln:=hv.len
    simp only[show (ae l).length=l.length by simp[ae]] at ln;have e1:decide ((l.length:Int) < (l.length:Int))=false:=Ga (by omega);generalize Ib (vg (Wx l))=ot;generalize Ib (vg fun _=>false)=oz;generalize hQ:(fun r:Ex×St=>r.1.stop=true/\_)=Q;simp -implicitDefEqProofs only[SX,sevalprocAttr,-List.reduceReplicate,Oe,e1,ln,ZD];subst hQ;exact⟨rfl,_,rfl,by simp[Tr.aa],by simp[Tr.aa]⟩
  have O7:Ra (qa 2) [Ib (vg fun _=>false),Ib (vg fun _=>false)]=some [Ib (vg fun _=>false),Ib (vg fun _=>false)]:=by have c1:=uh (vg fun _=>false) 2;simp only[Ra,c1,Daa,Kaa]
  have Z8:∀ a b:ba,([a,b]:List ba).take 2=[a,b]:=fun a b=>rfl
  have Oaf:=W7 (Wx l);have iad:=R7 (Wx l);have Paf:=I9 (Wx l);have d0:(0 < 2)=True:=by simp
  have d1:(1 < 2)=True:=by simp
  generalize hzs:List.replicate 256 (PV.bool false)=zs at *
  generalize Ib (vg fun _=>false)=oz at *;generalize Ib (vg (Wx l))=ot at *;generalize vg (Wx l)=T at *;apply bl;simp -implicitDefEqProofs only[Dd,SX,sevalprocAttr,-List.reduceReplicate,xh,hzs,hz1,Db,hvr,O7,Z8,d0,d1,na,Ca,AV.cut,za];refine wa D7 ?_;rintro r ⟨E,rfl,g2,g3⟩;simp -implicitDefEqProofs only[SX,sevalprocAttr,-List.reduceReplicate,g2,g3,iad,Oaf,Paf]
 ·have O8:Pa 255 (-2) l=false:=by simpa using Ba
  rw[O8] at hvr;have Q7:vg (lj l)=vg fun _=>false:=nv fun x _=>by rw[lj,O8,Fac]
  rw[Q7];have Oaf:=W7 fun _=>false;have iad:=R7 fun _=>false;have Paf:=I9 fun _=>false;generalize hzs:List.replicate 256 (PV.bool false)=zs at *
  generalize Ib (vg fun _=>false)=oz at *;generalize vg (fun _=>false)=T at *;apply bl;simp -implicitDefEqProofs only[Dd,SX,sevalprocAttr,-List.reduceReplicate,xh,hzs,hz1,hvr,iad,Oaf,Paf]
def Ys(f:Nat->Bool)(n:Nat):Nat:=(List.range n).countP f
theorem yT(f:Nat->Bool):Ys f 0=0:=rfl
theorem Jv(f:Nat->Bool)(n:Nat):Ys f (n+1)=Ys f n+if f n then 1 else 0:=by
 unfold Ys;rw[vad,List.countP_append];simp[List.countP_cons]
theorem U1(f:Nat->Bool)(n:Nat):Ys f n<=n:=by
 have:=List.countP_le_length (p:=f) (l:=List.range n)
 simpa[Ys] using this
theorem Z0{f g h:Nat->Bool}(n:Nat)(hf:∀ x,x < n->f x=(g x||h x))(hd:∀ x,x < n->g x=true->h x=true->False):Ys f n=Ys g n+Ys h n:=by
 induction n with
 |zero=>rfl
 |succ n ih=>rw[Jv,Jv,Jv,ih (fun x hx=>hf x (by omega)) (fun x hx=>hd x (by omega)),hf n (by omega)];have:=hd n (by omega);cases h1:g n <;> cases h2:h n <;> simp_all <;> omega
theorem nZ(a b:Nat)(n:Nat):Ys (fun x=>decide (a<=x)&&decide (x < b)) n=min n b - min a (min n b):=by
 induction n with
 |zero=>simp[yT]
 |succ n ih=>
  rw[Jv,ih]
  by_cases h:a<=n/\n < b
  ·rw[if_pos (by simp[h])];omega
  ·rw[taa (by simpa using fun h1=>Nat.le_of_not_lt fun h2=>h ⟨h1,h2⟩)];omega
theorem ZI:∀ (l:List (Int×Int))(last n:Int),Pa 255 last l=true->ib n l=n+Ys (Wx l) 256
 | [],_,n,_=>by
   have:Ys (Wx []) 256=0:=by unfold Ys;rw[List.countP_eq_zero];intro x _;simp[Wx]
   rw[this];simp[ib]
 |p::l,last,n,h=>by
  have hp:=Vn h p (by simp);have h2:=h;simp only[Pa,daa] at h2;rw[ib,ZI l p.2 _ h2.2];have hor:Ys (Wx (p::l)) 256=Ys (fun x=>decide (p.1.toNat<=x)&&decide (x < (p.2+1).toNat)) 256+Ys (Wx l) 256:=by
   apply Z0
   ·intro x _
    simp only[Wx,List.any_cons]
    congr 1
    congr 1 <;> (rw[decide_eq_decide];omega)
   ·intro x _ h3 h4
    have:=Rp h2.2 (sw.1 h4)
    simp at h3;omega
  have hiv:=nZ p.1.toNat (p.2+1).toNat 256
  rw[hor,hiv];omega
def rR(l:List (Int×Int)):Nat:=Ys (lj l) 256
theorem XV{l:List (Int×Int)}(h:Pa 255 (-2) l=true):(rR l:Int)=ib 0 l:=by
 rw[ZI l _ _ h];have:lj l=Wx l:=by funext x;rw[lj,h,uab]
 rw[rR,this];omega
abbrev pO(x n:Int):Tr:=((Tr.lf.set 5 (.pv (i64 x))).set 4 (.pv (i64 n))).set 3 (.ptr 0 0)
theorem uL{v:PV}{l:List (Int×Int)}(hv:Zh 2 v (ae l))(hw:l.length * 16<=140737488355328):fj [v]=some (i64 (rR l)):=by
 have hm:=Dy hv hw;unfold rR;generalize hf:lj l=f at *;have D7:qd (fun r=>∃ E H,r=(.exit 0,⟨E,H⟩)/\E.get 4= .pv (i64 (Ys f 256)))
  (ab (ma (oa (Da (fun _=>none) 8) Ie) (na 1 [3,4,5])) ua ⟨pO 0 0,[Ib (vg f)]⟩):=by
  refine wa (Gb (g:=ma (oa (Da (fun _=>none) 8) Ie) (na 1 [3,4,5]))
   (fun x t=>t=⟨pO x (Ys f x),[Ib (vg f)]⟩)
   256 (by unfold ua;omega) _ rfl ?_ ?_) (fun r h=>h.2)
  ·rintro x t hx rfl
   have e1:decide ((x:Int)<=255)=true:=Ea (by omega);have hq:Ia (x:Int) 256:=by unfold Ia;omega
   have t1:((x:Int)).toNat=x:=by simp
   have m1:x * 1=x:=by omega
   have z1:0+x=x:=by omega
   have t2:IntKind.i64.wrap ((x:Int)+1)=((x+1:Nat):Int):=Aa (by omega)
   have hle:=U1 f x;have t3:IntKind.i64.wrap ((Ys f x:Int)+1)=(Ys f x:Int)+1:=Aa (by omega)
   have pl:=ik (A:=[Ib (vg f)]) (id:=0) (es:=vg f) rfl 0 x;rw[z1] at pl;have ld:=iF (A:=[Ib (vg f)]) (id:=0) (es:=vg f) rfl (HR f hx);have O7:Ra (qa 1) [Ib (vg f)]=some [Ib (vg f)]:=by simp only[Ra,uh,Daa,Kaa]
   have Z7:([Ib (vg f)]:List ba).take 1=[Ib (vg f)]:=rfl
   have d0:(0 < 1)=True:=by simp
   have hs:=Jv f x;generalize hO:Ib (vg f)=O at *;generalize hQ:LN _ _ x=Q;cases hfx:f x with
   |true=>rw[hfx] at hs ld;simp -implicitDefEqProofs only[SX,sevalprocAttr,-List.reduceReplicate,Ie,e1,Laa hq,t1,m1,pl,ld,t2,t3,O7,Z7,d0,na,Ca,AV.cut,za,pO];subst hQ;show (_:St)=_;rw[hs];rfl
   |false=>rw[hfx] at hs ld;simp -implicitDefEqProofs only[SX,sevalprocAttr,-List.reduceReplicate,Ie,e1,Laa hq,t1,m1,pl,ld,t2,O7,Z7,d0,na,Ca,AV.cut,za,pO];subst hQ;show (_:St)=_;rw[hs];rfl
  ·rintro t rfl
   have e1:decide (((256:Nat):Int)<=255)=false:=Ga (by omega);generalize Ys f 256=c;generalize hQ:(fun r:Ex×St=>r.1.stop=true/\_)=Q;simp -implicitDefEqProofs only[SX,sevalprocAttr,-List.reduceReplicate,Ie,e1,pO];subst hQ;exact⟨rfl,_,_,rfl,by simp[Tr.aa]⟩
 have hz1:ba.box (List.map AV.pv (List.replicate 256 (PV.bool false)))=Ib (vg fun _=>false):=by rw[fD]
 have st:Ha [Ib (vg fun _=>false)] 256 (.ptr 0 0) (.pv (.agg (vg f)))=some [Ib (vg f)]:=Cr (id:=0) rfl (Sp _) (Sp f) (mS f);have O7:Ra (qa 1) [Ib (vg f)]=some [Ib (vg f)]:=by simp only[Ra,uh,Daa,Kaa]
 have Z7:([Ib (vg f)]:List ba).take 1=[Ib (vg f)]:=rfl
 have d0:(0 < 1)=True:=by simp
 generalize Ys f 256=c at *;generalize hzs:List.replicate 256 (PV.bool false)=zs at *
 generalize Ib (vg fun _=>false)=oz at *;generalize Ib (vg f)=ot at *;generalize vg f=T at *;apply bl;simp -implicitDefEqProofs only[fj,SX,sevalprocAttr,-List.reduceReplicate,yl,hzs,hz1,Db,hm,st,O7,Z7,d0,na,Ca,AV.cut,za];refine wa D7 ?_;rintro r ⟨E,H,rfl,hE⟩;simp -implicitDefEqProofs only[SX,sevalprocAttr,-List.reduceReplicate,hE]
theorem mE{v:PV}{l:List (Int×Int)}(hv:Zh 2 v (ae l))(hw:l.length * 16<=140737488355328)(x:Int):
 sf [v,i64 x]=some (.bool (decide (0<=x)&&decide (x<=255)&&lj l x.toNat)):=by
 have hm:=Dy hv hw;generalize hf:lj l=f at *
 by_cases h0:0<=x
 ·have e0:decide (x>=0)=true:=Ea (by omega)
  rw[show decide (0<=x)=true from Ea h0]
  by_cases h1:x<=255
  ·have e1:decide (x<=255)=true:=Ea h1
   have hq:Ia x 256:=by unfold Ia;omega
   have m1:x.toNat * 1=x.toNat:=by omega
   have hg:=HR f (x:=x.toNat) (by omega);have hp:Im false 1 (vg f) x.toNat=some (.bool (f x.toNat)):=by unfold Im;exact hg
   rw[e1];generalize f x.toNat=b at *
   generalize vg f=T at *;simp -implicitDefEqProofs only[sf,SX,sevalprocAttr,-List.reduceReplicate,Ch,e0,e1,hm,Laa hq,m1,hp,uab]
  ·have e1:decide (x<=255)=false:=Ga h1
   simp -implicitDefEqProofs only[sf,SX,sevalprocAttr,-List.reduceReplicate,Ch,e0,e1,uab,Fac]
 ·have e0:decide (x>=0)=false:=Ga (by omega)
  rw[show decide (0<=x)=false from Ga h0];simp -implicitDefEqProofs only[sf,SX,sevalprocAttr,-List.reduceReplicate,Ch,e0,Fac]
abbrev RN(row:List PV)(i n:Int):Tr:=((Tr.lf.set 4 (.pv (i64 i))).set 3 (.pv (i64 n))).set 1 (.pv (.rp row 0))
theorem Kp{e:PV}{s:Ob}{P:PV}{ps:List PV}(h:fg e s P ps)(Ba:∀ l∈s.parts,Hd l):ye [e]=some (i64 (Xh 1 s.parts)):=by
 obtain⟨rfl,hP⟩:=h;have hb:=yn s.parts 1 Ba (by omega) (by omega)
 have K7:=hP.sz
 have ln:=hP.Tb
 have q0:∀ H (x y:PV),place H 0 (.pv (.rp [x,y] 0))=some (.pv (.rp [x,y] 0)):=fun H x y=>rfl;have r0:∀ H (x y:PV),pa H false 1 (.pv (.rp [x,y] 0))=some (.pv x):=fun H x y=>rfl;have D7:qd (fun r=>∃ E H,r=(.exit 0,⟨E,H⟩)/\E.get 3= .pv (i64 (Xh 1 s.parts)))
  (ab (ma (oa (Da (fun _=>none) 8) ue) (na 0 [1,3,4])) ua ⟨RN [P,i64 s.first] 0 1,[]⟩):=by
  refine wa (Gb (g:=ma (oa (Da (fun _=>none) 8) ue) (na 0 [1,3,4]))
   (fun i t=>∃ n,t=⟨RN [P,i64 s.first] i n,[]⟩/\1<=n/\n<=1073741825/\Xh 1 s.parts=Xh n (s.parts.drop i))
   s.parts.length (by unfold ua;unfold maxLen at K7;omega) _ ⟨1,rfl,by omega,by omega,rfl⟩ ?_ ?_) (fun r h=>h.2)
  ·rintro i t hi ⟨n,rfl,h1,h2,hs⟩
   obtain⟨v,hv,S8,a1⟩:=hP.Pd hi []
   have hd:s.parts.drop i=s.parts[i]::s.parts.drop (i+1):=Waa hi
   have J8:=Ba s.parts[i] (saa hi)
   have hss:=uL S8.is S8.sz
   rw[XV J8.2] at hss;have hsb:=Xg J8;rw[hd,Xh] at hs;generalize s.parts[i]=l at *
   have hm:=Az h1 h2 hsb.1 hsb.2
   have e1:decide ((i:Int) < (s.parts.length:Int))=true:=Ea (by omega);have t2:=Za hi K7;have t3:IntKind.i64.wrap (n * ib 0 l)=n * ib 0 l:=Aa (by omega)
   have a2:∀ H (v:PV),pa H false 1 (.pv (.rp [v] 0))=some (.pv v):=fun H v=>rfl;generalize hQ:LN _ _ i=Q
   by_cases hg:n * ib 0 l > 1073741824
   ·have d1:=Ea hg
    simp -implicitDefEqProofs only[SX,sevalprocAttr,-List.reduceReplicate,ue,e1,ln,q0,r0,t2,t3,a1,a2,hss,d1,na,Ca,AV.cut,za,RN];subst hQ;refine⟨1073741825,rfl,by omega,by omega,?_⟩;rw[hs];congr 1;split <;> omega
   ·have d1:=Ga hg
    simp -implicitDefEqProofs only[SX,sevalprocAttr,-List.reduceReplicate,ue,e1,ln,q0,r0,t2,t3,a1,a2,hss,d1,na,Ca,AV.cut,za,RN];subst hQ;refine⟨n * ib 0 l,rfl,by omega,by omega,?_⟩;rw[hs];congr 1;split <;> omega
  ·rintro t ⟨n,rfl,h1,h2,hs⟩
   rw[Hab,Xh] at hs;have e1:decide ((s.parts.length:Int) < (s.parts.length:Int))=false:=Ga (by omega);generalize hQ:(fun r:Ex×St=>r.1.stop=true/\_)=Q;simp -implicitDefEqProofs only[SX,sevalprocAttr,-List.reduceReplicate,ue,e1,ln,q0,r0,RN];subst hQ;exact⟨rfl,_,_,rfl,by simp[Tr.aa,hs]⟩
 have E8:(AV.pv P).one=true:=by rcases hP.is with⟨h,_⟩ | h <;> rw[h] <;> rfl
 generalize Xh 1 s.parts=n at *
 apply bl;simp -implicitDefEqProofs only[ye,SX,sevalprocAttr,-List.reduceReplicate,wk,E8,Db,na,Ca,AV.cut,za];refine wa D7 ?_;rintro r ⟨E,H,rfl,hE⟩;simp -implicitDefEqProofs only[SX,sevalprocAttr,-List.reduceReplicate,hE]
theorem Vc(H:List ba)(x y:PV):place H 0 (.pv (.rp [x,y] 0))=some (.pv (.rp [x,y] 0)):=rfl
theorem Hj(H:List ba)(x y:PV):place H 1 (.pv (.rp [x,y] 0))=some (.pv (.rp [x,y] 1)):=rfl
theorem je(H:List ba)(x y:PV):pa H false 1 (.pv (.rp [x,y] 0))=some (.pv x):=rfl
theorem gk(H:List ba)(x y:PV):pa H false 1 (.pv (.rp [x,y] 1))=some (.pv y):=rfl
theorem tg(H:List ba)(x y:PV):pa H true 2 (.pv (.rp [x,y] 0))=some (.pv (.agg [x,y])):=rfl
theorem Wa(H:List ba)(x:PV):pa H false 1 (.pv (.rp [x] 0))=some (.pv x):=rfl
theorem fc(H:List ba)(x:PV):place H 0 (.pv (.rp [x] 0))=some (.pv (.rp [x] 0)):=rfl
theorem qe(H:List ba)(x:PV):pa H true 1 (.pv (.rp [x] 0))=some (.pv (.agg [x])):=rfl
abbrev QI(row:List PV)(i:Int):Tr:=(Tr.lf.set 3 (.pv (i64 i))).set 1 (.pv (.rp row 0))
theorem Zs{e:PV}{s:Ob}{P:PV}{ps:List PV}(h:fg e s P ps):∃ b,Qb [e]=some (.bool b)/\(b=true↔Be s):=by
 have hh:=h;obtain⟨rfl,hP⟩:=h;have K7:=hP.sz
 have ln:=hP.Tb
 have E8:(AV.pv P).one=true:=by rcases hP.is with⟨h,_⟩ | h <;> rw[h] <;> rfl
 by_cases c1:(s.parts.length:Int) < 1
 ·have d1:=Ea c1
  refine⟨false,?_,by simp;intro h;have:=h.lo;omega⟩;simp -implicitDefEqProofs only[Qb,SX,sevalprocAttr,Bb,E8,Vc,Hj,je,gk,ln,d1]
 have d1:=Ga c1
 by_cases c2:(s.parts.length:Int) > 8
 ·have d2:=Ea c2
  refine⟨false,?_,by simp;intro h;have:=h.hi;omega⟩;simp -implicitDefEqProofs only[Qb,SX,sevalprocAttr,Bb,E8,Vc,Hj,je,gk,ln,d1,d2]
 have d2:=Ga c2
 by_cases c3:s.first < 0
 ·have d3:=Ea c3
  refine⟨false,?_,by simp;intro h;have:=h.f0;omega⟩;simp -implicitDefEqProofs only[Qb,SX,sevalprocAttr,Bb,E8,Vc,Hj,je,gk,ln,d1,d2,d3]
 have d3:=Ga c3
 by_cases c4:s.first > 1073741823
 ·have d4:=Ea c4
  refine⟨false,?_,by simp;intro h;have:=h.f1;omega⟩;simp -implicitDefEqProofs only[Qb,SX,sevalprocAttr,Bb,E8,Vc,Hj,je,gk,ln,d1,d2,d3,d4]
 have d4:=Ga c4;have D7:qd (fun r=>∃ E,(r=(.exit 0,⟨E,[]⟩)/\E.get 1= .pv (.rp [P,i64 s.first] 0)/\∀ l∈s.parts,Hd l)\/(r=(.ret,⟨E,[]⟩)/\E.get 2= .pv (.bool false)/\¬∀ l∈s.parts,Hd l))
  (ab (ma (oa (Da (fun _=>none) 8) ic) (na 0 [1,3])) ua ⟨QI [P,i64 s.first] 0,[]⟩):=by
  refine wa (Gb (g:=ma (oa (Da (fun _=>none) 8) ic) (na 0 [1,3]))
   (fun i t=>t=⟨QI [P,i64 s.first] i,[]⟩/\∀ l∈s.parts.take i,Hd l)
   s.parts.length (by unfold ua;unfold maxLen at K7;omega) _ ⟨rfl,by simp⟩ ?_ ?_) (fun r h=>h.2)
  ·rintro i t hi ⟨rfl,hs⟩
   obtain⟨v,hv,S8,a1⟩:=hP.Pd hi []
   have hmem:=saa hi;have T7:Hd s.parts[i]->∀ l∈s.parts.take (i+1),Hd l:=by
    intro h l hl;have:s.parts.take (i+1)=s.parts.take i++[s.parts[i]]:=by simp
    rw[this] at hl;rcases Naa.1 hl with h1 | h1
    ·exact hs l h1
    ·simp at h1;subst h1;exact h
   have hvl:=qA S8.is S8.sz
   have lv:=S8.is.len
   simp only[ae,paa] at lv;generalize s.parts[i]=l at *
   have e1:decide ((i:Int) < (s.parts.length:Int))=true:=Ea (by omega);have t2:=Za hi K7;generalize hQ:LN _ _ i=Q
   by_cases h0:l=[]
   ·have e0:((l.length:Int)==0)=true:=by simp[h0]
    simp -implicitDefEqProofs only[SX,sevalprocAttr,ic,e1,ln,Vc,je,Wa,a1,lv,e0,QI];subst hQ;exact⟨_,.inr ⟨rfl,by simp[Tr.aa],fun h=>(h _ hmem).1 h0⟩⟩
   ·have e0:((l.length:Int)==0)=false:=by
     have:l.length≠0:=fun e=>h0 (yaa e)
     exact mj (by omega)
    cases hb:Pa 255 (-2) l with
    |true=>rw[hb] at hvl;simp -implicitDefEqProofs only[SX,sevalprocAttr,ic,e1,ln,Vc,je,Wa,a1,lv,e0,hvl,t2,na,Ca,AV.cut,za,QI];subst hQ;exact⟨rfl,T7 ⟨h0,hb⟩⟩
    |false=>rw[hb] at hvl;simp -implicitDefEqProofs only[SX,sevalprocAttr,ic,e1,ln,Vc,je,Wa,a1,lv,e0,hvl,QI];subst hQ;exact⟨_,.inr ⟨rfl,by simp[Tr.aa],fun h=>by have:=(h _ hmem).2;rw[hb] at this;cases this⟩⟩
  ·rintro t ⟨rfl,hs⟩
   rw[Fab] at hs;have e1:decide ((s.parts.length:Int) < (s.parts.length:Int))=false:=Ga (by omega);generalize hQ:(fun r:Ex×St=>r.1.stop=true/\_)=Q;simp -implicitDefEqProofs only[SX,sevalprocAttr,ic,e1,ln,Vc,je,QI];subst hQ;exact⟨rfl,_,.inl ⟨rfl,by simp[Tr.aa],hs⟩⟩
 have key:qd (fun r=>∃ b,r=(.pv (.bool b),([]:List ba))/\(b=true↔Be s)) (ef (Da (fun _=>none) 8) Bb [.pv (.agg [P,i64 s.first])] []):=by
  generalize P7:(fun r:AV×List ba=>_)=QQ;simp -implicitDefEqProofs only[SX,sevalprocAttr,Bb,E8,Vc,Hj,je,gk,ln,d1,d2,d3,d4,Db,na,Ca,AV.cut,za];refine wa D7 ?_;rintro _ ⟨E,⟨rfl,hE,hb⟩ | ⟨rfl,hE,hb⟩⟩
  ·have hct:=Kp hh hb
   have hbd:=yn s.parts 1 hb (by omega) (by omega)
   have C8:(decide (s.first+Xh 1 s.parts - 1<=1073741823)=true)↔Be s:=by
    rw[decide_eq_true_iff];constructor
    ·intro h;exact⟨by omega,by omega,by omega,by omega,hb,h⟩
    ·intro h;exact h.last
   generalize Xh 1 s.parts=n at *
   have t3:IntKind.i64.wrap (s.first+n)=s.first+n:=Aa (by omega)
   have t4:IntKind.i64.wrap (s.first+n - 1)=s.first+n - 1:=Aa (by omega)
   simp -implicitDefEqProofs only[SX,sevalprocAttr,hE,Vc,Hj,je,gk,tg,hct,t3,t4];subst P7;exact⟨_,rfl,C8⟩
  ·simp -implicitDefEqProofs only[SX,sevalprocAttr,hE]
   subst P7;exact⟨false,rfl,by simp;exact fun h=>hb h.parts⟩
 obtain⟨r,h1,b,rfl,hb⟩:=wc key;refine⟨b,?_,hb⟩;generalize hk:ef (Da (fun _=>none) 8) Bb [.pv (.agg [P,i64 s.first])] []=k at h1;subst h1;have:Qb [.agg [P,i64 s.first]]=(ef (Da (fun _=>none) 8) Bb [.pv (.agg [P,i64 s.first])] []).bind fun r=>Ub r.2 deep r.1:=rfl
 rw[this,hk];rfl
theorem Jy{e:PV}{s:Ob}{P:PV}{ps:List PV}(h:fg e s P ps)(Ba:Be s):Gg [e]=some (i64 (Xh 1 s.parts)):=by
 obtain⟨b,hb,hbb⟩:=Zs h;have hc:=Kp h Ba.parts
 have:=hbb.2 Ba
 subst this;obtain⟨rfl,hP⟩:=h;have E8:(AV.pv P).one=true:=by rcases hP.is with⟨h,_⟩ | h <;> rw[h] <;> rfl
 simp -implicitDefEqProofs only[Gg,SX,sevalprocAttr,Fk,E8,tg,hb,hc]
end Go.AM.B1
