/- What functions of the program compute. -/
import Derived.Test.YtijlhblleiaomaaGreatL3
import Derived.Test.YtijlhblleiaomaaGreatL2
set_option linter.unusedVariables false
set_option linter.unusedSimpArgs false
namespace Go.AM.B1
open Go.AM Go.AM.So
structure Be(s:Nb):Prop where
 lo:1<=s.parts.length
 hi:s.parts.length<=8
 f0:0<=s.first
 f1:s.first<=1073741823
 parts:∀ l∈s.parts,Ad l
 last:yi s<=1073741823
def Fo(s t:Nb):Prop:=∀ x,¬((s.first<=x/\x<=yi s)/\(t.first<=x/\x<=yi t))
structure Xb(ss:List Nb):Prop where
 len:ss.length<=32
 dt:∀ s∈ss,Be s
 apart:ss.Pairwise Fo
theorem Be.Sy{s:Nb}(h:Be s):s.first<=yi s:=by
 have:=(Bn s.parts 1 h.parts (by omega) (by omega)).1
 unfold yi;omega
structure y3(ss:List Nb)(i:Nat)(v:PV)(u:List (Int×Int)):Prop where
 is:Vh 2 v (de u)
 val:Pa GA (-2) u=true
 len:u.length<=i
 mem:∀ x,Kk x u↔∃ s∈ss.take i,s.first<=x/\x<=yi s
 dt:∀ s∈ss.take i,Be s
 apart:(ss.take i).Pairwise Fo
abbrev Pr(S v:PV)(len i:Int):Tr:=(((Tr.lf.set 14 (.pv (i64 i))).set 13 (.pv (i64 len))).set 12 (.pv S)).set 3 (.pv v)
theorem Gp(x y u v:AV)(hu:u.one=true)(hv:v.one=true)(A:List ba)(e:PV)(he:(AV.pv e).cells=[u,v]):Ha (A++[.box [x,y]]) 2 (.ptr A.length 0) (.pv e)=some (A++[.box [u,v]]):=by
 simp only[Ha,he,Fk,Up,Oaa,pab,List.all,hu,hv];simp[fa]
section
variable {S:PV}{ss:List Nb}{es:List PV}(hS:qb S ss es)(hl:ss.length<=32)
include hS hl
omit hl in
theorem ME{i:Nat}(hi:i < ss.length)(v:PV)(J9:¬Be ss[i]):
 ∃ E H,ma (oa (Da Yb 8) Mb) (na 0 [3,12,13,14]) ⟨Pr S v ss.length i,[]⟩=some (.ret,⟨E,H⟩)/\E.get 2= .pv (.bool false):=by
 obtain⟨e,P,ps,he,hSl,hsh⟩:=hS.get hi
 obtain⟨rfl,hP⟩:=hsh;generalize hs:ss[i]=s at *;have hq:i < es.length:=by rw[hS.len];exact hi
 have e1:decide ((i:Int) < (ss.length:Int))=true:=Ea (by omega);have a1:ta [] 2 (.pv S) (i:Int)=some (.pv (.rp [P,i64 s.first] 0)):=by rw[hSl];simp only[ta];rw[if_pos (by unfold Ia;simp;omega),Daa,he];rfl
 have a2:pa [] true 2 (.pv (.rp [P,i64 s.first] 0))=some (.pv (.agg [P,i64 s.first])):=rfl;have I8:(AV.pv P).one=true:=by rcases hP.is with⟨h,_⟩ | h <;> rw[h] <;> rfl
 have s1:Ha [.box [.pv .ga,.pv (i64 0)]] 2 (.ptr 0 0) (.pv (.agg [P,i64 s.first]))=some [.box [.pv P,.pv (i64 s.first)]]:=Gp _ _ _ _ I8 rfl [] _ rfl;have p0:place [.box [.pv P,.pv (i64 s.first)]] 0 (.ptr 0 0)=some (.ptr 0 0):=rfl;have p1:place [.box [.pv P,.pv (i64 s.first)]] 1 (.ptr 0 0)=some (.ptr 0 1):=rfl;have l0:pa [.box [.pv P,.pv (i64 s.first)]] false 1 (.ptr 0 0)=some (.pv P):=rfl;have l1:pa [.box [.pv P,.pv (i64 s.first)]] false 1 (.ptr 0 1)=some (.pv (i64 s.first)):=rfl;have l2:pa [.box [.pv P,.pv (i64 s.first)]] true 2 (.ptr 0 0)=some (.pv (.agg [P,i64 s.first])):=rfl;have hg:Wd [.box [.pv P,.pv (i64 s.first)]]:=by intro n _ o ho;simp at ho;subst ho;simp[qa,Ra,Qa]
 have hct:=dB hP 5 [.box [.pv P,.pv (i64 s.first)]] hg;have h6:Yb 6=some Kb:=rfl;have lA:=hP.Tb
 have key:qd (fun r=>∃ E H,r=(.ret,⟨E,H⟩)/\E.get 2= .pv (.bool false)) (ma (oa (Da Yb 8) Mb) (na 0 [3,12,13,14]) ⟨Pr S v ss.length i,[]⟩):=by
  generalize hQ:(fun r:Ex×St=>_)=Q
  by_cases c1:s.parts.length < 1
  ·have d1:decide ((s.parts.length:Int) < 1)=true:=Ea (by omega)
   simp -implicitDefEqProofs only[SX,sevalprocAttr,Mb,e1,a1,a2,s1,p0,p1,l0,l1,lA,d1,Pr];subst hQ;exact⟨_,_,rfl,by simp[Tr.aa]⟩
  have d1:decide ((s.parts.length:Int) < 1)=false:=Ga (by omega)
  by_cases c2:s.parts.length > 8
  ·have d2:decide ((s.parts.length:Int) > 8)=true:=Ea (by omega)
   simp -implicitDefEqProofs only[SX,sevalprocAttr,Mb,e1,a1,a2,s1,p0,p1,l0,l1,lA,d1,d2,Pr];subst hQ;exact⟨_,_,rfl,by simp[Tr.aa]⟩
  have d2:decide ((s.parts.length:Int) > 8)=false:=Ga (by omega)
  by_cases c3:s.first < 0
  ·have d3:decide (s.first < 0)=true:=Ea c3
   simp -implicitDefEqProofs only[SX,sevalprocAttr,Mb,e1,a1,a2,s1,p0,p1,l0,l1,lA,d1,d2,d3,Pr];subst hQ;exact⟨_,_,rfl,by simp[Tr.aa]⟩
  have d3:decide (s.first < 0)=false:=Ga c3
  by_cases c4:s.first > 1073741823
  ·have d4:decide (s.first > 1073741823)=true:=Ea c4
   simp -implicitDefEqProofs only[SX,sevalprocAttr,Mb,e1,a1,a2,s1,p0,p1,l0,l1,lA,d1,d2,d3,d4,Pr];subst hQ;exact⟨_,_,rfl,by simp[Tr.aa]⟩
  have d4:decide (s.first > 1073741823)=false:=Ga c4
  by_cases c5:∀ l∈s.parts,Ad l
  ·have U9:=lM (e:= .agg [P,i64 s.first]) ⟨rfl,hP⟩ c5 (by omega)
   rw[decide_eq_true c5] at hct;have c6:yi s > 1073741823:=by
    rcases Int.lt_or_le 1073741823 (yi s) with h | h
    ·exact h
    ·exact absurd (Be.mk (by omega) (by omega) (by omega) (by omega) c5 h) J9
   have d6:decide (yi s > 1073741823)=true:=Ea c6;have i0:∀ H (x y:Int),ta H 2 (.pv (.lit 2 [.agg [i64 x,i64 y]])) 0=some (.pv (.rp [i64 x,i64 y] 0)):=fun H x y=>rfl;have q1:∀ H (x y:PV),place H 1 (.pv (.rp [x,y] 0))=some (.pv (.rp [x,y] 1)):=fun H x y=>rfl;have m1:∀ H (x y:PV),pa H false 1 (.pv (.rp [x,y] 1))=some (.pv y):=fun H x y=>rfl;simp -implicitDefEqProofs only[SX,sevalprocAttr,fa,Mb,e1,a1,a2,s1,p0,p1,l0,l1,l2,lA,d1,d2,d3,d4,h6,hct,U9,i0,q1,m1,d6,Pr];subst hQ;exact⟨_,_,rfl,by simp[Tr.aa]⟩
  ·rw[decide_eq_false c5] at hct
   simp -implicitDefEqProofs only[SX,sevalprocAttr,Mb,e1,a1,a2,s1,p0,p1,l0,l1,lA,d1,d2,d3,d4,h6,hct,Pr];subst hQ;exact⟨_,_,rfl,by simp[Tr.aa]⟩
 obtain⟨r,h1,E,H,rfl,h2⟩:=wc key;exact⟨E,H,h1,h2⟩
theorem XG{i:Nat}(hi:i < ss.length){v:PV}{u:List (Int×Int)}(hv:y3 ss i v u)(Ba:Be ss[i]):
 qd (fun r=>(∃ E H,r=(.ret,⟨E,H⟩)/\E.get 2= .pv (.bool false)/\∃ s∈ss.take i,¬Fo s ss[i])\/(∃ v' u',r=(.norm,⟨Pr S v' ss.length (i+1:Nat),[]⟩)/\y3 ss (i+1) v' u'))
  (ma (oa (Da Yb 8) Mb) (na 0 [3,12,13,14]) ⟨Pr S v ss.length i,[]⟩):=by
 obtain⟨e,P,ps,he,hSl,hsh⟩:=hS.get hi
 obtain⟨rfl,hP⟩:=hsh;have B9:ss.take (i+1)=ss.take i++[ss[i]]:=List.take_succ_eq_append_getElem hi
 generalize hs:ss[i]=s at *;have hq:i < es.length:=by rw[hS.len];exact hi
 have e1:decide ((i:Int) < (ss.length:Int))=true:=Ea (by omega);have t2:=Za hi hS.sz
 have a1:ta [] 2 (.pv S) (i:Int)=some (.pv (.rp [P,i64 s.first] 0)):=by rw[hSl];simp only[ta];rw[if_pos (by unfold Ia;simp;omega),Daa,he];rfl
 have a2:pa [] true 2 (.pv (.rp [P,i64 s.first] 0))=some (.pv (.agg [P,i64 s.first])):=rfl;have I8:(AV.pv P).one=true:=by rcases hP.is with⟨h,_⟩ | h <;> rw[h] <;> rfl
 have s1:Ha [.box [.pv .ga,.pv (i64 0)]] 2 (.ptr 0 0) (.pv (.agg [P,i64 s.first]))=some [.box [.pv P,.pv (i64 s.first)]]:=Gp _ _ _ _ I8 rfl [] _ rfl;have p0:place [.box [.pv P,.pv (i64 s.first)]] 0 (.ptr 0 0)=some (.ptr 0 0):=rfl;have p1:place [.box [.pv P,.pv (i64 s.first)]] 1 (.ptr 0 0)=some (.ptr 0 1):=rfl;have l0:pa [.box [.pv P,.pv (i64 s.first)]] false 1 (.ptr 0 0)=some (.pv P):=rfl;have l1:pa [.box [.pv P,.pv (i64 s.first)]] false 1 (.ptr 0 1)=some (.pv (i64 s.first)):=rfl;have l2:pa [.box [.pv P,.pv (i64 s.first)]] true 2 (.ptr 0 0)=some (.pv (.agg [P,i64 s.first])):=rfl;have hg:Wd [.box [.pv P,.pv (i64 s.first)]]:=by intro n _ o ho;simp at ho;subst ho;simp[qa,Ra,Qa]
 have hct:=dB hP 5 [.box [.pv P,.pv (i64 s.first)]] hg;rw[decide_eq_true Ba.parts] at hct;have h6:Yb 6=some Kb:=rfl;have lA:=hP.Tb
 have d1:decide ((s.parts.length:Int) < 1)=false:=Ga (by have:=Ba.lo;omega);have d2:decide ((s.parts.length:Int) > 8)=false:=Ga (by have:=Ba.hi;omega);have d3:decide (s.first < 0)=false:=Ga (by have:=Ba.f0;omega);have d4:decide (s.first > 1073741823)=false:=Ga (by have:=Ba.f1;omega);have U9:=lM (e:= .agg [P,i64 s.first]) ⟨rfl,hP⟩ Ba.parts ⟨Ba.f0,Ba.f1⟩
 have d6:decide (yi s > 1073741823)=false:=Ga (by have:=Ba.last;omega);have i0:∀ H (x y:Int),ta H 2 (.pv (.lit 2 [.agg [i64 x,i64 y]])) 0=some (.pv (.rp [i64 x,i64 y] 0)):=fun H x y=>rfl;have q1:∀ H (x y:PV),place H 1 (.pv (.rp [x,y] 0))=some (.pv (.rp [x,y] 1)):=fun H x y=>rfl;have m1:∀ H (x y:PV),pa H false 1 (.pv (.rp [x,y] 1))=some (.pv y):=fun H x y=>rfl;have hvr:Pa GA (-2) [(s.first,yi s)]=true:=by rw[Mr];have:=Ba.Sy;have:=Ba.f0;have:=Ba.last;unfold GA;simp only;omega
 have hmt:=iD v (.lit 2 [.agg [i64 s.first,i64 (yi s)]]) u [(s.first,yi s)] hv.is (.inr rfl) hv.val hvr (by have:=hv.len;simp;omega)
 obtain⟨u',hun,hv1,hv2,hv3⟩:=GS v (.lit 2 [.agg [i64 s.first,i64 (yi s)]]) u [(s.first,yi s)] hv.is (.inr rfl) hv.val hvr (by have:=hv.len;simp;omega)
 have hms:=kP hv.val hvr
 have hml:∀ l:List (Int×Int),(de l).length=l.length:=fun l=>by simp
 generalize zg (u.length+[(s.first,yi s)].length) u [(s.first,yi s)]=mm at *;have hvv:(AV.pv v).cells=[.pv v]:=by rcases hv.is with⟨h,_⟩ | h <;> rw[h] <;> rfl
 generalize hQ:(fun r:Ex×St=>_)=Q
 by_cases c7:mm=[]
 ·have d7:decide ((mm.length:Int) > 0)=false:=Ga (by rw[c7];simp)
  have hno:¬∃ x,Kk x u/\Kk x [(s.first,yi s)]:=fun h=>(hms.2 h) c7;simp -implicitDefEqProofs only[SX,sevalprocAttr,fa,Mb,e1,t2,a1,a2,s1,p0,p1,l0,l1,l2,lA,d1,d2,d3,d4,h6,hct,U9,i0,q1,m1,d6,hmt,hml,d7,hun,na,Ca,AV.cut,qa,List.take_zero,za,Pr];subst hQ;refine .inr ⟨_,u',rfl,.inr rfl,hv1,by have:=hv.len;simp at hv3;omega,fun x=> ?_,?_,?_⟩
  ·rw[hv2,iq,hv.mem,B9]
   constructor
   ·rintro (⟨t,ht,hx⟩ | hx)
    ·exact⟨t,by simp[ht],hx⟩
    ·exact⟨s,by simp,hx⟩
   ·rintro⟨t,ht,hx⟩
    rcases Jaa.1 ht with h | h
    ·exact .inl ⟨t,h,hx⟩
    ·simp at h;subst h;exact .inr hx
  ·intro t ht
   rw[B9] at ht;rcases Jaa.1 ht with h | h
   ·exact hv.dt t h
   ·simp at h;subst h;exact Ba
  ·rw[B9,Yad]
   refine⟨hv.apart,by simp,fun t ht w hw x hx=> ?_⟩;simp at hw;subst hw;exact hno ⟨x,(hv.mem x).2 ⟨t,ht,hx.1⟩,(iq _ _).2 hx.2⟩
 ·have d7:decide ((mm.length:Int) > 0)=true:=Ea (by have:mm.length≠0:=fun e=>c7 (qaa e);omega)
  obtain⟨x,hx1,hx2⟩:=hms.1 c7
  simp -implicitDefEqProofs only[SX,sevalprocAttr,fa,Mb,e1,a1,a2,s1,p0,p1,l0,l1,l2,lA,d1,d2,d3,d4,h6,hct,U9,i0,q1,m1,d6,hmt,hml,d7,Pr];subst hQ;obtain⟨t,ht,hx3⟩:=(hv.mem x).1 hx1
  exact .inl ⟨_,_,rfl,by simp[Tr.aa],t,ht,fun h=>h x ⟨hx3,(iq _ _).1 hx2⟩⟩
end
theorem wm{S:PV}{ss:List Nb}{es:List PV}(hS:qb S ss es):∃ b,Kg [.agg [S]]=some (.bool b)/\(b=true↔Xb ss):=by
 have lA:=hS.Tb
 by_cases hl:ss.length<=32
 ·have e0:decide ((ss.length:Int) > 32)=false:=Ga (by omega)
  have D7:qd (fun r=>∃ E H,(r=(.exit 0,⟨E,H⟩)/\Xb ss)\/(r=(.ret,⟨E,H⟩)/\E.get 2= .pv (.bool false)/\¬Xb ss))
   (ab (ma (oa (Da Yb 8) Mb) (na 0 [3,12,13,14])) ua ⟨Pr S .ga ss.length 0,[]⟩):=by
   refine wa (Fb (g:=ma (oa (Da Yb 8) Mb) (na 0 [3,12,13,14]))
    (fun i t=>∃ v u,t=⟨Pr S v ss.length i,[]⟩/\y3 ss i v u)
    ss.length (by unfold ua;omega) _ ⟨.ga,[],rfl,.inl ⟨rfl,rfl⟩,rfl,by simp,fun x=>by simp[eo],by simp,by simp⟩ ?_ ?_) (fun r h=>h.2)
   ·rintro i t hi ⟨v,u,rfl,hv⟩
    by_cases Ba:Be ss[i]
    ·refine wa (XG hS hl hi hv Ba) ?_
     rintro r (⟨E,H,rfl,hE,s,hs,hna⟩ | ⟨v',u',rfl,hv'⟩)
     ·refine⟨E,H,.inr ⟨rfl,hE,fun h=>hna ?_⟩⟩
      obtain⟨j,hj,rfl⟩:=List.mem_take_iff_getElem.1 hs
      have:=Vac.1 h.apart j i (by omega) hi (by omega)
      exact this
     ·exact⟨v',u',rfl,hv'⟩
    ·obtain⟨E,H,h1,h2⟩:=ME hS hi v Ba
     exact L3 h1 ⟨E,H,.inr ⟨rfl,h2,fun h=>Ba (h.dt _ (jaa hi))⟩⟩
   ·rintro t ⟨v,u,rfl,hv⟩
    have e1:decide ((ss.length:Int) < (ss.length:Int))=false:=Ga (by omega);have R7:Xb ss:=⟨hl,by have:=hv.dt;rwa [sab] at this,by have:=hv.apart;rwa [sab] at this⟩;generalize hQ:(fun r:Ex×St=>r.1.stop=true/\_)=Q;simp -implicitDefEqProofs only[SX,sevalprocAttr,Mb,e1,Pr];subst hQ;exact⟨rfl,_,_,.inl ⟨rfl,R7⟩⟩
  obtain⟨r,h1,E,H,h2⟩:=wc D7;have D9:ab (ma (oa (Da Yb 8) Mb) (na 0 [3,12,13,14])) ua ⟨(((Tr.lf.set 14 (.pv (.int .i64 0))).set 13 (.pv (.int .i64 ss.length))).set 12 (.pv S)).set 3 (.pv .ga),[]⟩=some r:=h1;have hSv:∃ sz es,S= .ga\/S= .lit sz es:=by rcases hS.is with⟨h,_⟩ | h;exact⟨0,[],.inl h⟩;exact⟨_,_,.inr h⟩
  rcases h2 with⟨rfl,Ba⟩ | ⟨rfl,hE,hno⟩
  ·refine⟨true,?_,by simp[Ba]⟩
   obtain⟨sz,es,rfl | rfl⟩:=hSv <;>;simp -implicitDefEqProofs only[Kg,SP,SA,SQ,WP,WQ,sevalprocAttr,Rl,Db,lA,e0,D9]
  ·refine⟨false,?_,by simp[hno]⟩
   obtain⟨sz,es,rfl | rfl⟩:=hSv <;>;simp -implicitDefEqProofs only[Kg,SP,SA,SQ,WP,WQ,sevalprocAttr,Rl,Db,lA,e0,D9,hE]
 ·have e0:decide ((ss.length:Int) > 32)=true:=Ea (by omega)
  refine⟨false,?_,by simp;exact fun h=>hl h.len⟩;have hSv:∃ sz es,S= .ga\/S= .lit sz es:=by rcases hS.is with⟨h,_⟩ | h;exact⟨0,[],.inl h⟩;exact⟨_,_,.inr h⟩
  obtain⟨sz,es,rfl | rfl⟩:=hSv <;>;simp -implicitDefEqProofs only[Kg,SP,SA,SQ,WP,WQ,sevalprocAttr,Rl,Db,lA,e0]
theorem dg.one{e:PV}{s:Nb}{P:PV}{ps:List PV}(h:dg e s P ps):qb (.lit 2 [e]) [s] [e]:=by
 refine⟨.inr rfl,rfl,?_,by simp[maxLen]⟩;intro k e' s' h1 h2
 match k,h1,h2 with
 |0,h1,h2=>simp at h1 h2;subst h1 h2;exact⟨P,ps,h⟩
 |k+1,h1,h2=>simp at h1
theorem jU{s:Nb}:Xb [s]↔Be s:=⟨fun h=>h.dt s (by simp),fun h=>⟨by simp,by simpa using h,by simp⟩⟩
theorem dg.Qz{e:PV}{s:Nb}{P:PV}{ps:List PV}(h:dg e s P ps):(AV.pv P).one=true/\P.cells=[P]:=by
 rcases h.parts.is with⟨h,_⟩ | h <;> rw[h] <;> exact⟨rfl,rfl⟩
theorem Pm{e:PV}{s:Nb}{P:PV}{ps:List PV}(h:dg e s P ps):∃ b,Kj [e]=some (.bool b)/\(b=true↔Be s):=by
 obtain⟨b,h1,h2⟩:=wm h.one
 refine⟨b,?_,h2.trans jU⟩;obtain⟨I8,hP2⟩:=h.Qz
 have heq:=h.eq
 subst heq;rcases h.parts.is with⟨rfl,_⟩ | rfl <;>
 simp -implicitDefEqProofs only[Kj,SP,SA,SQ,WP,WQ,sevalprocAttr,Zt,h1]
theorem zf.Pd{P:PV}{ls:List (List (Int×Int))}{ps:List PV}(hP:zf P ls ps){i:Nat}(hi:i < ls.length)(H:List ba):∃ v,ps[i]? =some v/\gq v ls[i]/\ta H 1 (.pv P) (i:Int)=some (.pv (.rp [v] 0)):=by
 obtain⟨v,hv,hPl,Y8⟩:=hP.get hi
 refine⟨v,hv,Y8,?_⟩;have hq:i < ps.length:=by rw[hP.len];exact hi
 have P7:v.cells=[v]:=by rcases Y8.is with⟨h,_⟩ | h <;> rw[h] <;> rfl
 rw[hPl];simp only[ta];rw[if_pos (by unfold Ia;simp;omega),Daa,hv];simp[P7]
theorem zf.Ry{P:PV}{ls:List (List (Int×Int))}{ps:List PV}(hP:zf P ls ps){i:Nat}{v:PV}(hv:ps[i]? =some v)(H:List ba):ta H 1 (.pv P) (i:Int)=some (.pv (.rp [v] 0)):=by
 have hi:i < ls.length:=by rw[<- hP.len];exact (iaa.1 hv).1
 obtain⟨w,hw,_,h⟩:=hP.Pd hi H
 rw[hv] at hw;injection hw with hw;subst hw;exact h
def Rq(p q:List (List (Int×Int)))(i:Nat):List (Int×Int):=match p[i]?,q[i]? with
 |some a,some b=>zg (a.length+b.length) a b
 |_,_=>[]
def dc(p q:List (List (Int×Int))):Nat->Nat->Option (List Int)
 |0,_=>some []
 |n+1,i=>match Rq p q i with
  | []=>none
  |m::_=>(dc p q n (i+1)).map (m.1:: ·)
abbrev XM(rp rq:List PV)(n i:Int)(tk:Nat)(nl:Bool)(es:List PV):Tr:=((((Tr.lf.set 35 (.pv (i64 i))).set 34 (.pv (i64 n))).set 8 (.uq tk nl 1 es)).set 4 (.pv (.rp rq 0))).set 3 (.pv (.rp rp 0))
theorem yt{A:List ba}{id n bytes:Nat}{nl:Bool}{h:Zf}{es:List PV}(hg:A[id]? =some (.tok 1 n nl))(hn:n=es.length)(hr:eb (n+1) bytes)(e:PV):
 Cb A false h 1 false bytes (.uq id nl 1 es) (.pv (.lit 1 [e]))=some (.uq id false 1 (es++[e]),A.set id (.tok 1 (n+1) false)):=Mh hg hn hr e
theorem nQ{e f:PV}{p q:Nb}{P Q:PV}{ps qs:List PV}(hp:dg e p P ps)(hq:dg f q Q qs)(op:Be p)(oq:Be q){n:Nat}(hn:n<=p.parts.length)(hn2:n<=q.parts.length):
 (dc p.parts q.parts n 0=none->Qi [e,f,i64 n]=some (.mc [.ga,.bool false]))/\
 (∀ bs,dc p.parts q.parts n 0=some bs->∃ v,Qi [e,f,i64 n]=some (.mc [v,.bool true])/\Vh 1 v (bs.map (PV.int .u8))/\bs.length=n/\∀ b∈bs,0<=b/\b<=255):=by
 obtain⟨b1,L8,zad⟩:=Pm hp;obtain⟨b2,y8,Nak⟩:=Pm hq;have:b1=true:=zad.2 op
 subst this;have:b2=true:=Nak.2 oq
 subst this;obtain⟨I8,hP2⟩:=hp.Qz
 obtain⟨hQ1,hQ2⟩:=hq.Qz
 have heq:=hp.eq
 have hfq:=hq.eq
 subst heq hfq;have h8:=op.hi
 have lP:=hp.parts.Tb
 have lQ:=hq.parts.Tb
 have D7:qd (fun r=>∃ E H,(r=(.ret,⟨E,H⟩)/\E.get 6= .pv .ga/\E.get 7= .pv (.bool false)/\dc p.parts q.parts n 0=none)\/(∃ nl bs,r=(.exit 0,⟨E,H⟩)/\E.get 8= .uq 0 nl 1 (bs.map (PV.int .u8))/\(nl=true->bs=[])/\dc p.parts q.parts n 0=some bs/\bs.length=n/\∀ b∈bs,0<=b/\b<=255))
  (ab (ma (oa (Da (fun _=>none) 8) Bg) (na 1 [3,4,8,34,35])) ua ⟨XM [P,i64 p.first] [Q,i64 q.first] n 0 0 true [],[.tok 1 0 true]⟩):=by
  refine wa (Fb (g:=ma (oa (Da (fun _=>none) 8) Bg) (na 1 [3,4,8,34,35]))
   (fun i t=>∃ nl bs,t=⟨XM [P,i64 p.first] [Q,i64 q.first] n i 0 nl (bs.map (PV.int .u8)),[.tok 1 i nl]⟩/\bs.length=i/\(nl=true->bs=[])/\(∀ b∈bs,0<=b/\b<=255)/\dc p.parts q.parts n 0=(dc p.parts q.parts (n - i) i).map (bs++ ·))
   n (by unfold ua;omega) _ ⟨true,[],rfl,rfl,fun _=>rfl,by simp,by cases dc p.parts q.parts n 0 <;> simp[*]⟩ ?_ ?_) (fun r h=>h.2)
  ·rintro i t hi ⟨nl,bs,rfl,hlen,j8,hby,hs⟩
   obtain⟨v,hv,hpv,_⟩:=hp.parts.Pd (i:=i) (by omega) []
   obtain⟨w,hw,hqw,_⟩:=hq.parts.Pd (i:=i) (by omega) []
   have a1:=hp.parts.Ry hv
   have a2:=hq.parts.Ry hw
   have okv:=op.parts _ (jaa (show i < p.parts.length by omega))
   have okw:=oq.parts _ (jaa (show i < q.parts.length by omega))
   have hmt:=fG v w _ _ hpv.is hqw.is okv.2 okw.2 (by
    have:=(Ut okv.2).2.1 okv.1
    have h1:=hpv.sz
    have h2:=hqw.sz
    have k1:=Vw okv.2
    have k2:=Vw okw.2
    omega)
   have yac:=Ku _ _ _ (-2) (-2) okv.2 okw.2 (paa _)
   have hmA:Rq p.parts q.parts i=zg (p.parts[i].length+q.parts[i].length) p.parts[i] q.parts[i]:=by unfold Rq;rw[aaa (show i < p.parts.length by omega),aaa (show i < q.parts.length by omega)]
   obtain⟨m,hm⟩:∃ m,n - i=m+1:=⟨n - i - 1,by omega⟩;have hm':n - (i+1)=m:=by omega
   rw[hm,dc,hmA] at hs;have hme:=Es okv.2
   generalize p.parts[i]=lv at *
   generalize q.parts[i]=lw at *
   generalize zg (lv.length+lw.length) lv lw=mm at *;have e1:decide ((i:Int) < (n:Int))=true:=Ea (by omega);have t2:=Za (i:=i) (n:=n) hi (by unfold maxLen;omega);have lm:∀ H,Tb H 0 (.pv (.lit 2 (de mm)))=some mm.length:=fun H=>by simp[Tb]
   have r0:∀ H (x y:PV),pa H false 1 (.pv (.rp [x,y] 0))=some (.pv x):=fun H x y=>rfl;have r1:∀ H (x:PV),pa H false 1 (.pv (.rp [x] 0))=some (.pv x):=fun H x=>rfl;have q0:∀ H (x y:PV),place H 0 (.pv (.rp [x,y] 0))=some (.pv (.rp [x,y] 0)):=fun H x y=>rfl;generalize hQ:LN _ _ i=QQ;cases mm with
   |nil=>
    have z1:(((0:Nat):Int)==0)=true:=by decide
    simp only[Option.map_none] at hs;simp -implicitDefEqProofs only[SX,sevalprocAttr,Bg,e1,a1,a2,r0,r1,q0,hmt,lm,z1,XM];subst hQ;exact⟨_,_,.inl ⟨rfl,by simp[Tr.aa],by simp[Tr.aa],hs⟩⟩
   |cons m0 mm=>
    have z1:(((mm.length+1:Nat):Int)==0)=false:=lj (by omega);have i0:∀ H,ta H 2 (.pv (.lit 2 (de (m0::mm)))) 0=some (.pv (.rp [i64 m0.1,i64 m0.2] 0)):=fun H=>um H (i:=0) (l:=m0::mm) (by simp);have hb0:0<=m0.1/\m0.1<=255:=by
     have S8:=(yac.1 m0.1).1 ⟨m0,by simp,Lac _,yac.2 m0 (by simp)⟩
     obtain⟨pp,hpp,h1,h2⟩:=S8.1
     have:=hme pp hpp;omega
    have t3:IntKind.u8.wrap m0.1=m0.1:=wrap_u8 hb0
    have s8:=yt (A:=[.tok 1 i nl]) (id:=0) (n:=i) (h:= .uq) (nl:=nl) (bytes:=1) (es:=bs.map (PV.int .u8)) rfl (by simp[hlen]) (by unfold eb;omega) (.int .u8 m0.1);rw[fac] at s8;have lm':∀ H,Tb H 0 (.pv (.lit 2 (de (m0::mm))))=some (mm.length+1):=lm;have hbm:(bs++[m0.1]).map (PV.int .u8)=bs.map (PV.int .u8)++[.int .u8 m0.1]:=by simp
    generalize de (m0::mm)=L at *;simp -implicitDefEqProofs only[SP,WP,fa,sevalprocAttr,Bg,e1,t2,t3,a1,a2,r0,r1,q0,hmt,lm',z1,i0,s8,na,Ca,AV.cut,qa,za,XM];subst hQ;refine⟨false,bs++[m0.1],by rw[hbm],by simp[hlen],by simp,?_,?_⟩
    ·intro b hb
     rcases Jaa.1 hb with h | h
     ·exact hby b h
     ·simp at h;subst h;exact hb0
    ·rw[hs,hm']
     cases dc p.parts q.parts m (i+1) <;> simp
  ·rintro t ⟨nl,bs,rfl,hlen,j8,hby,hs⟩
   rw[ead,dc] at hs;have e1:decide ((n:Int) < (n:Int))=false:=Ga (by omega);generalize hQ:(fun r:Ex×St=>r.1.stop=true/\_)=QQ;simp -implicitDefEqProofs only[SX,sevalprocAttr,Bg,e1,XM];subst hQ;exact⟨rfl,_,_,.inr ⟨nl,bs,rfl,by simp[Tr.aa],j8,by rw[hs];simp,hlen,hby⟩⟩
 obtain⟨r,h1,E,H,h2⟩:=wc D7;have D9:ab (ma (oa (Da (fun _=>none) 8) Bg) (na 1 [3,4,8,34,35])) ua ⟨((((Tr.lf.set 35 (.pv (.int .i64 0))).set 34 (.pv (i64 n))).set 8 (.uq 0 true 1 [])).set 4 (.pv (.rp [Q,i64 q.first] 0))).set 3 (.pv (.rp [P,i64 p.first] 0)),[.tok 1 0 true]⟩=some r:=h1;have d0:decide ((n:Int) < 0)=false:=Ga (by omega);have d1:decide ((n:Int) > (if (q.parts.length:Int) < (p.parts.length:Int) then (q.parts.length:Int) else (p.parts.length:Int)))=false:=Ga (by split <;> omega);have hz:(0 < 1)=True:=by simp
 have r2:∀ H (x y:PV),pa H true 2 (.pv (.rp [x,y] 0))=some (.pv (.agg [x,y])):=fun H x y=>rfl;have r0:∀ H (x y:PV),pa H false 1 (.pv (.rp [x,y] 0))=some (.pv x):=fun H x y=>rfl;have q0:∀ H (x y:PV),place H 0 (.pv (.rp [x,y] 0))=some (.pv (.rp [x,y] 0)):=fun H x y=>rfl;rcases h2 with⟨rfl,h6,h7,Wae⟩ | ⟨nl,bs,rfl,h8',j8,laf,hlen,hby⟩
 ·refine⟨fun _=> ?_,fun bs hbs=>by rw[Wae] at hbs;cases hbs⟩
  simp -implicitDefEqProofs only[Qi,SX,sevalprocAttr,im,Db,I8,hQ1,r2,r0,q0,L8,y8,lP,lQ,ep,Ye,d0,d1,fe,hz,na,Ca,AV.cut,qa,za,D9,h6,h7]
 ·refine⟨fun hn=>(by rw[laf] at hn;cases hn),fun bs' hbs=> ?_⟩
  rw[laf] at hbs;injection hbs with hbs;subst hbs
  cases nl with
  |true=>have:=j8 rfl;subst this;refine⟨.ga,?_,.inl ⟨rfl,rfl⟩,hlen,hby⟩;simp -implicitDefEqProofs only[Qi,SX,sevalprocAttr,im,Db,I8,hQ1,r2,r0,q0,L8,y8,lP,lQ,ep,Ye,d0,d1,fe,hz,na,Ca,AV.cut,qa,za,D9,h8']
  |false=>refine⟨.lit 1 (bs.map (PV.int .u8)),?_,.inr rfl,hlen,hby⟩;simp -implicitDefEqProofs only[Qi,SX,sevalprocAttr,im,Db,I8,hQ1,r2,r0,q0,L8,y8,lP,lQ,ep,Ye,d0,d1,fe,hz,na,Ca,AV.cut,qa,za,D9,h8']
def Na:List (List (Int×Int))->Int
 | []=>1
 |l::r=>Na r * ib 0 l
theorem yf:∀ {ls:List (List (Int×Int))},(∀ l∈ls,Ad l)->1<=Na ls
 | [],_=>by simp[Na]
 |l::r,h=>by
  have h1:=yf (ls:=r) fun x hx=>h x (by simp[hx]);have h2:=(Xg (h l (by simp))).1
  rw[Na];have:=Int.mul_le_mul h1 h2 (by omega) (by omega);omega
theorem PA:∀ (ls:List (List (Int×Int)))(n:Int),(∀ l∈ls,Ad l)->1<=n->n<=1073741825->Uh n ls=if 1073741825 < n * Na ls then 1073741825 else n * Na ls
 | [],n,_,h1,h2=>by rw[Uh,Na,Int.mul_one,kaa (by omega)]
 |l::r,n,h,h1,h2=>by
  have hs:=Xg (h l (by simp));have hm:=iz h1 h2 hs.1 hs.2
  have hp:=yf (ls:=r) fun x hx=>h x (by simp[hx]);have e:n * (Na r * ib 0 l)=(n * ib 0 l) * Na r:=by rw[Zad (Na r),Int.mul_assoc]
  rw[Uh,Na,e]
  by_cases hc:1073741825 < n * ib 0 l
  ·rw[if_pos hc,PA r _ (fun x hx=>h x (by simp[hx])) (by omega) (by omega)]
   have h3:n * ib 0 l * 1<=n * ib 0 l * Na r:=vac hp (by omega);rw[if_pos (show 1073741825 < n * ib 0 l * Na r by omega)]
   split
   ·rfl
   ·have h4:1073741825 * 1<=1073741825 * Na r:=vac hp (by omega)
    omega
  ·rw[kaa hc,PA r _ (fun x hx=>h x (by simp[hx])) (by omega) (by omega)]
theorem Be.prod{s:Nb}(h:Be s):Uh 1 s.parts=Na s.parts/\Na s.parts<=1073741824:=by
 have h1:=PA s.parts 1 h.parts (by omega) (by omega)
 have h2:=h.last
 have h3:=h.f0
 unfold yi at h2;rw[Mae] at h1
 split at h1
 ·omega
 ·exact⟨h1,by omega⟩
theorem Be.yi{s:Nb}(h:Be s):B1.yi s=s.first+Na s.parts - 1:=by
 unfold B1.yi;rw[h.prod.1]
theorem Fp{ls:List (List (Int×Int))}(h:∀ l∈ls,Ad l)(i:Nat):Na (ls.drop i)<=Na ls:=by
 induction ls generalizing i with
 |nil=>simp
 |cons l r ih=>
  cases i with
  |zero=>simp
  |succ i=>
   rw[Wac,Na];have h1:=ih (fun x hx=>h x (by simp[hx])) i;have h2:=(Xg (h l (by simp))).1
   have hp:=yf (ls:=r) fun x hx=>h x (by simp[hx]);have:Na r * 1<=Na r * ib 0 l:=vac h2 (by omega);omega
def Zr(l:List Int)(fl:Nat)(nl:Bool):ba:= .seq 1 false (La l) fl nl
section
variable {A:List ba}{id n fl:Nat}{nl:Bool}{l:List Int}(hg:A[id]? =some (Zr l fl nl))(hn:n=l.length)(hf:fl<=n)
include hg hn
theorem RG(hf:fl<=n){i:Int}{k:Nat}(hi:i=(k:Int))(hk:k < n):ta A 1 (.own id n) i=some (.Hc id n k):=by
 have:=mb l;subst hi;simp only[ta,hg,Zr];rw[if_pos (by refine⟨trivial,?_,?_⟩ <;> first | (unfold Ia;omega) | (unfold Ui;omega))];simp
theorem KG{k:Nat}(hk:k < n)(v:Int):Ha A 1 (.Hc id n k) (.pv (i64 v))=some (A.set id (Zr (l.set k v) n nl)):=by
 have hl:=mb l;have hc:(AV.pv (i64 v)).cells=[.pv (i64 v)]:=rfl
 simp only[Ha,hg,Zr,hc];rw[if_pos ⟨rfl,rfl⟩,if_pos ⟨by omega,by omega⟩,fa,fa,Wj]
theorem iV(d:Nat):Sb A (d+1) (.own id n)=some (if nl then .ga else .lit 1 (l.map i64)):=by
 have hl:=mb l;subst hn;simp only[Sb,hg,Zr];have hm:Ra (Sb A d) (La l)=some (l.map i64):=by rw[dv,bF]
 have hck:∀ l:List Int,chunk 1 false l.length (l.map i64)=l.map i64:=by
  intro l
  induction l with
  |nil=>rfl
  |cons a l ih=>simp only[lab,Oaa,chunk,saa,if_false,List.headD_cons,Wac,xac];rw[ih]
 rw[if_pos ⟨by omega,by rfl⟩,hm];cases nl with
 |true=>rfl
 |false=>simp only[saa,if_false,Haa,hck]
end
theorem YL(l:List Int)(fl:Nat)(nl:Bool)(n:Nat):qa n (Zr l fl nl)=some (Zr l fl nl):=by
 have:(La l).all (AV.je n deep)=true:=by
  rw[Taa];intro v hv;obtain⟨p,_,rfl⟩:=fab.1 hv
  rfl
 simp[qa,Zr,this]
def sn(ls:List (List (Int×Int)))(i:Nat):List Int:=(List.range (ls.length+1)).map fun j=>if i < j then Na (ls.drop j) else 0
theorem xz(ls:List (List (Int×Int)))(i:Nat):(sn ls i).length=ls.length+1:=by simp[sn]
theorem WT(ls:List (List (Int×Int)))(i:Nat)(hi:i < ls.length):(sn ls (i+1)).set (i+1) (Na (ls.drop (i+1)))=sn ls i:=by
 apply Aad
 ·simp[sn]
 ·intro j h1 h2
  rw[Lae];simp only[sn,kae,Tad]
  by_cases hj:i+1=j
  ·subst hj;simp
  ·rw[kaa hj]
   by_cases h:i+1 < j
   ·rw[if_pos h,if_pos (by omega)]
   ·rw[kaa h,kaa (by omega)]
def ml(ls:List (List (Int×Int))):List Int:=(List.range (ls.length+1)).map fun j=>Na (ls.drop j)
theorem UO(ls:List (List (Int×Int))):(sn ls 0).set 0 (Na ls)=ml ls:=by
 apply Aad
 ·simp[sn,ml]
 ·intro j h1 h2
  rw[Lae];simp only[sn,ml,kae,Tad]
  by_cases hj:0=j
  ·subst hj;simp
  ·rw[kaa hj,if_pos (by omega)]
abbrev yR(row:List PV)(m:Nat)(n i:Int):Tr:=(((Tr.lf.set 5 (.pv (i64 i))).set 4 (.pv (i64 n))).set 3 (.own 0 m)).set 1 (.pv (.rp row 0))
theorem cK{e:PV}{s:Nb}{P:PV}{ps:List PV}(h:dg e s P ps)(Ba:Be s):Im [e]=some (.lit 1 ((ml s.parts).map i64)):=by
 obtain⟨I8,hP2⟩:=h.Qz
 have heq:=h.eq
 subst heq;have hP:=h.parts
 have lP:=hP.Tb
 have h8:=Ba.hi
 have hpr:=Ba.prod.2
 have D7:qd (fun r=>∃ E,r=(.exit 0,⟨E,[Zr (sn s.parts 0) (s.parts.length+1) false]⟩)/\E.get 3= .own 0 (s.parts.length+1)/\E.get 4= .pv (i64 (Na s.parts)))
  (ab (ma (oa (Da (fun _=>none) 8) Li) (na 1 [1,3,4,5])) ua ⟨yR [P,i64 s.first] (s.parts.length+1) 1 s.parts.length,[Zr (sn s.parts s.parts.length) 0 false]⟩):=by
  refine wa (Js (g:=ma (oa (Da (fun _=>none) 8) Li) (na 1 [1,3,4,5]))
   (fun i t=>∃ fl,i<=s.parts.length/\t=⟨yR [P,i64 s.first] (s.parts.length+1) (Na (s.parts.drop i)) i,[Zr (sn s.parts i) fl false]⟩/\fl<=s.parts.length+1/\(i < s.parts.length\/s.parts.length=0->fl=s.parts.length+1\/s.parts.length=0))
   ua s.parts.length _ (by unfold ua;omega) ⟨0,paa _,by rw[vab];rfl,by omega,fun h=>by omega⟩ ?_) (fun r h=>h.2)
  rintro i t ⟨fl,hi,rfl,w8,dag⟩;cases i with
  |zero=>
   have h1:=Ba.lo
   have:fl=s.parts.length+1:=by rcases dag (.inl (by omega)) with h | h <;> omega
   subst this;have e1:decide (((0:Nat):Int) > 0)=false:=by decide
   generalize hQ:LQ _ _ _=Q;simp -implicitDefEqProofs only[SX,sevalprocAttr,-List.reduceReplicate,Li,e1,yR];subst hQ;exact⟨_,rfl,by simp[Tr.aa],by simp[Tr.aa]⟩
  |succ i=>
   have e1:decide (((i+1:Nat):Int) > 0)=true:=Ea (by omega);have t1:IntKind.i64.wrap (((i+1:Nat):Int) - 1)=(i:Int):=by rw[Aa (by omega)];omega
   have hg:[Zr (sn s.parts (i+1)) fl false][0]? =some (Zr (sn s.parts (i+1)) fl false):=rfl;have a1:=RG hg (n:=s.parts.length+1) (xz _ _).symm w8 (i:=((i+1:Nat):Int)) rfl (by omega)
   have s1:=KG hg (n:=s.parts.length+1) (xz _ _).symm (k:=i+1) (by omega) (Na (s.parts.drop (i+1)))
   rw[fac,WT s.parts i (by omega)] at s1;obtain⟨v,hv,Y8,_⟩:=hP.Pd (i:=i) (by omega) []
   have a2:=hP.Ry hv
   have N8:=Ba.parts s.parts[i] (jaa (by omega))
   have hss:=sy v s.parts[i] Y8.is Y8.sz N8.2
   have hd:s.parts.drop i=s.parts[i]::s.parts.drop (i+1):=Paa (by omega)
   have hpd:Na (s.parts.drop i)=Na (s.parts.drop (i+1)) * ib 0 s.parts[i]:=by rw[hd,Na]
   have hle:=Fp Ba.parts i
   have v8:=yf (ls:=s.parts.drop i) fun x hx=>Ba.parts x (Vab hx)
   rw[hpd] at hle v8;generalize s.parts[i]=l at *
   have t3:IntKind.i64.wrap (Na (s.parts.drop (i+1)) * ib 0 l)=Na (s.parts.drop (i+1)) * ib 0 l:=Aa (by omega)
   have r0:∀ H (x y:PV),pa H false 1 (.pv (.rp [x,y] 0))=some (.pv x):=fun H x y=>rfl;have r1:∀ H (x:PV),pa H false 1 (.pv (.rp [x] 0))=some (.pv x):=fun H x=>rfl;have q0:∀ H (x y:PV),place H 0 (.pv (.rp [x,y] 0))=some (.pv (.rp [x,y] 0)):=fun H x y=>rfl;have C7:∀ l' x8,Ra (qa 1) [Zr l' x8 false]=some [Zr l' x8 false]:=fun l' x8=>by simp[Ra,YL]
   have hz:(0 < 1)=True:=by simp
   have o8:∀ o:ba,[o].take 1=[o]:=fun o=>rfl
   generalize hQ:LQ _ _ _=Q;simp -implicitDefEqProofs only[SP,WP,fa,sevalprocAttr,-List.reduceReplicate,Li,e1,t1,t3,a1,s1,a2,hss,r0,r1,q0,C7,hz,o8,na,Ca,AV.cut,za,yR];subst hQ;exact⟨i,by omega,s.parts.length+1,by omega,by rw[hpd],by omega,fun _=> .inl rfl⟩
 obtain⟨r,h1,E,rfl,hE3,hE4⟩:=wc D7;have D9:ab (ma (oa (Da (fun _=>none) 8) Li) (na 1 [1,3,4,5])) ua ⟨(((Tr.lf.set 5 (.pv (i64 s.parts.length))).set 4 (.pv (.int .i64 1))).set 3 (.own 0 (s.parts.length+1))).set 1 (.pv (.rp [P,i64 s.first] 0)),[Zr (sn s.parts s.parts.length) 0 false]⟩=_:=h1;have hz0:ba.seq 1 false (Ql [PV.int .i64 0] (s.parts.length+1)) 0 false=Zr (sn s.parts s.parts.length) 0 false:=by
  rw[aK,Zr]
  congr 2
  apply Aad
  ·simp[sn]
  ·intro j hj1 hj2
   simp at hj1;simp only[sn,List.getElem_replicate,kae,Tad];rw[kaa (by omega)]
 have t1:IntKind.i64.wrap ((s.parts.length:Int)+1)=((s.parts.length+1:Nat):Int):=Aa (by omega)
 have e2:(0<=((s.parts.length+1:Nat):Int))=True:=by simp;omega
 have e3:(((s.parts.length+1:Nat):Int)<=((s.parts.length+1:Nat):Int))=True:=by simp
 have e4:eb (s.parts.length+1) 8:=by unfold eb;omega
 have hg:[Zr (sn s.parts 0) (s.parts.length+1) false][0]? =some (Zr (sn s.parts 0) (s.parts.length+1) false):=rfl;have a1:=RG hg (n:=s.parts.length+1) (xz _ _).symm (paa _) (i:=0) (k:=0) rfl (by omega)
 have s1:=KG hg (n:=s.parts.length+1) (xz _ _).symm (k:=0) (by omega) (Na s.parts)
 rw[fac,UO] at s1;have hpv:=iV (A:=[Zr (ml s.parts) (s.parts.length+1) false]) (id:=0) (n:=s.parts.length+1) rfl (by simp[ml]) 5;rw[kaa (by simp)] at hpv;have r0:∀ H (x y:PV),pa H false 1 (.pv (.rp [x,y] 0))=some (.pv x):=fun H x y=>rfl;have q0:∀ H (x y:PV),place H 0 (.pv (.rp [x,y] 0))=some (.pv (.rp [x,y] 0)):=fun H x y=>rfl;have C7:∀ l' x8,Ra (qa 1) [Zr l' x8 false]=some [Zr l' x8 false]:=fun l' x8=>by simp[Ra,YL]
 have hz:(0 < 1)=True:=by simp
 have o8:∀ o:ba,[o].take 1=[o]:=fun o=>rfl
 generalize s.parts.length+1=m at *
 simp -implicitDefEqProofs only[Im,SP,WP,fa,sevalprocAttr,-List.reduceReplicate,Yt,Db,I8,r0,q0,lP,t1,e2,e3,Iaa e4,hz0,C7,hz,o8,na,Ca,AV.cut,D9,hE3,hE4,a1,s1,hpv,za]
def Ch:List (List (Int×Int))->List Int->Int->Option Int
 |l::r,x::b,k=>if (Ld x 0 l).2=true then Ch r b (k+(Ld x 0 l).1 * Na r) else none
 |_,_,k=>some k
def Mi(s:Nb)(b:List Int):Option Int:=if b.length=s.parts.length then Ch s.parts b 0 else none
theorem dn{top x:Int}:∀ {l:List (Int×Int)}{last n:Int},Pa top last l=true->(Ld x n l).2=true->n<=(Ld x n l).1/\(Ld x n l).1 < n+ib 0 l
 | [],last,n,_,h=>by simp[Ld] at h
 |p::l,last,n,hv,h=>by
  obtain⟨h1,h2,h3,h4,h5⟩:=Vc hv;have hs:=(Ut h5).1
  rw[Ld] at h ⊢;rw[ib,eD]
  by_cases c1:x < p.1
  ·rw[if_pos c1] at h;cases h
  ·rw[kaa c1] at h ⊢
   by_cases c2:x<=p.2
   ·rw[if_pos c2];simp only;omega
   ·rw[kaa c2] at h ⊢
    have:=dn h5 h;omega
theorem CK{l:List (Int×Int)}(h:Pa 255 (-2) l=true):IA l=l:=by unfold IA;rw[if_pos h]
theorem CM(H:List ba){sz k:Nat}{es:List PV}(hz:0 < sz)(hk:k<=es.length):ug H sz (.pv (.lit sz es)) (some (k:Int)) none=some (.pv (.lit sz (es.drop k))):=by
 simp only[ug,Tac,Option.getD_none];rw[if_pos ⟨hz,trivial,by omega,by omega,by omega⟩];simp
theorem Is(b:List Int)(k:Int):Ch [] b k=some k:=by cases b <;> rfl
abbrev mO(row:List PV)(B S:PV)(n i k:Int):Tr:=(((((Tr.lf.set 26 (.pv (i64 i))).set 25 (.pv (i64 n))).set 24 (.pv S)).set 6 (.pv (i64 k))).set 2 (.pv (.rp row 0))).set 1 (.pv B)
structure lk(B:PV)(bs:List Int):Prop where
 is:Vh 1 B (bs.map (PV.int .u8))
 Sy:∀ b∈bs,0<=b/\b<=255
theorem lk.Tb{B:PV}{bs:List Int}(h:lk B bs)(H:List ba):Go.AM.Tb H 0 (.pv B)=some bs.length:=by
 rw[h.is.len];simp
theorem lk.one{B:PV}{bs:List Int}(h:lk B bs):(AV.pv B).one=true:=by
 rcases h.is with⟨h,_⟩ | h <;> rw[h] <;> rfl
theorem lk.Pd{B:PV}{bs:List Int}(h:lk B bs){i:Nat}(hi:i < bs.length)(H:List ba):ta H 1 (.pv B) (i:Int)=some (.pv (.rp [.int .u8 bs[i]] 0)):=by
 have hl:=h.is.lit (i:=i) (by simpa using hi)
 rw[hl];simp only[ta];rw[if_pos (by unfold Ia;simp;omega),Daa,Eaa,aaa hi];rfl
theorem pF{e:PV}{s:Nb}{P:PV}{ps:List PV}(h:dg e s P ps){B:PV}{bs:List Int}(hB:lk B bs)(Ba:Be s):
 (∀ k,Mi s bs=some k->Bj [e,B]=some (.mc [i64 k,.bool true]))/\(Mi s bs=none->Bj [e,B]=some (.mc [i64 0,.bool false])):=by
 obtain⟨b1,L8,zad⟩:=Pm h;have:=zad.2 Ba
 subst this;have Y7:=cK h Ba;obtain⟨I8,hP2⟩:=h.Qz
 have heq:=h.eq
 subst heq;have hP:=h.parts
 have lP:=hP.Tb
 have lB:=hB.Tb
 have hB1:=hB.one
 have h8:=Ba.hi
 have hpr:=Ba.prod.2
 have r2:∀ H (x y:PV),pa H true 2 (.pv (.rp [x,y] 0))=some (.pv (.agg [x,y])):=fun H x y=>rfl;have r0:∀ H (x y:PV),pa H false 1 (.pv (.rp [x,y] 0))=some (.pv x):=fun H x y=>rfl;have r1:∀ H (x:PV),pa H false 1 (.pv (.rp [x] 0))=some (.pv x):=fun H x=>rfl;have q0:∀ H (x y:PV),place H 0 (.pv (.rp [x,y] 0))=some (.pv (.rp [x,y] 0)):=fun H x y=>rfl
 by_cases hlen:bs.length=s.parts.length
 ·have hrk:Mi s bs=Ch s.parts bs 0:=by unfold Mi;rw[if_pos hlen]
  have hsl:∀ H,ug H 1 (.pv (.lit 1 ((ml s.parts).map i64))) (some 1) none=some (.pv (.lit 1 (((ml s.parts).map i64).drop 1))):=fun H=>CM H (k:=1) (by omega) (by simp[ml]);have hdl:(((ml s.parts).map i64).drop 1).length=s.parts.length:=by simp[ml]
  have hde:∀ i,i < s.parts.length->(((ml s.parts).map i64).drop 1)[i]? =some (i64 (Na (s.parts.drop (i+1)))):=by intro i hi;rw[mae,Eaa,ml,Eaa,Xac (by omega),Nat.add_comm 1 i];rfl
  generalize ((ml s.parts).map i64).drop 1=S at *
  have D7:qd (fun r=>∃ E,(r=(.ret,⟨E,[]⟩)/\E.get 4= .pv (i64 0)/\E.get 5= .pv (.bool false)/\Ch s.parts bs 0=none)\/(∃ k,r=(.exit 0,⟨E,[]⟩)/\E.get 6= .pv (i64 k)/\Ch s.parts bs 0=some k))
   (ab (ma (oa (Da (fun _=>none) 8) Ph) (na 0 [1,2,6,24,25,26])) ua ⟨mO [P,i64 s.first] B (.lit 1 S) s.parts.length 0 0,[]⟩):=by
   refine wa (Fb (g:=ma (oa (Da (fun _=>none) 8) Ph) (na 0 [1,2,6,24,25,26]))
    (fun i t=>∃ k,t=⟨mO [P,i64 s.first] B (.lit 1 S) s.parts.length i k,[]⟩/\0<=k/\k+Na (s.parts.drop i)<=Na s.parts/\Ch s.parts bs 0=Ch (s.parts.drop i) (bs.drop i) k)
    s.parts.length (by unfold ua;omega) _ ⟨0,rfl,by omega,by simp,rfl⟩ ?_ ?_) (fun r h=>h.2)
   ·rintro i t hi ⟨k,rfl,hk0,hk1,hs⟩
    obtain⟨v,hv,Y8,_⟩:=hP.Pd hi []
    have a2:=hP.Ry hv
    have N8:=Ba.parts s.parts[i] (jaa hi)
    have hib:i < bs.length:=by omega
    have a3:=hB.Pd hib
    have hbr:=hB.Sy bs[i] (jaa hib)
    have hd:s.parts.drop i=s.parts[i]::s.parts.drop (i+1):=Paa hi
    have hdb:bs.drop i=bs[i]::bs.drop (i+1):=Paa hib
    have hrr:=Ly v s.parts[i] Y8.is Y8.sz bs[i]
    rw[CK N8.2] at hrr;have hrb:=dn (x:=bs[i]) (n:=0) N8.2
    rw[hd,Na] at hk1;rw[hd,hdb,Ch] at hs;have hle:=Fp Ba.parts (i+1)
    have v8:=yf (ls:=s.parts.drop (i+1)) fun x hx=>Ba.parts x (Vab hx)
    have L7:=Xg N8;generalize s.parts[i]=l at *
    generalize bs[i]=x at *;have e1:decide ((i:Int) < (s.parts.length:Int))=true:=Ea (by omega);have t2:=Za hi (by unfold maxLen;omega);have t3:IntKind.i64.wrap x=x:=Aa (by omega)
    have a1:∀ H,ta H 1 (.pv (.lit 1 S)) (i:Int)=some (.pv (.rp [i64 (Na (s.parts.drop (i+1)))] 0)):=fun H=>by simp only[ta];rw[if_pos (by unfold Ia;simp;omega),Daa,hde i hi];rfl
    obtain⟨⟨d,is⟩,mag⟩:∃ r,r=Ld x 0 l:=⟨_,rfl⟩;rw[<- mag] at hrr hs hrb;generalize hQ:LN _ _ i=Q;cases is with
    |false=>simp only[saa,if_false] at hs;simp -implicitDefEqProofs only[SX,sevalprocAttr,-List.reduceReplicate,Ph,e1,a1,a2,a3,r0,r1,q0,t3,hrr,mO];subst hQ;exact⟨_,.inl ⟨rfl,by simp[Tr.aa],by simp[Tr.aa],hs⟩⟩
    |true=>
     simp only[if_true] at hs;have y8:=hrb rfl;simp only at y8;have hmul:d * Na (s.parts.drop (i+1))+Na (s.parts.drop (i+1))<=Na (s.parts.drop (i+1)) * ib 0 l:=by have h1:(d+1) * Na (s.parts.drop (i+1))<=ib 0 l * Na (s.parts.drop (i+1)):=Uac (by omega) (by omega);rw[Int.add_mul,Mae,Zad (ib 0 l)] at h1;exact h1
     have hm0:0<=d * Na (s.parts.drop (i+1)):=Int.mul_nonneg (by omega) (by omega)
     have t4:IntKind.i64.wrap (d * Na (s.parts.drop (i+1)))=d * Na (s.parts.drop (i+1)):=Aa (by omega)
     have t5:IntKind.i64.wrap (k+d * Na (s.parts.drop (i+1)))=k+d * Na (s.parts.drop (i+1)):=Aa (by omega)
     simp -implicitDefEqProofs only[SX,sevalprocAttr,-List.reduceReplicate,Ph,e1,t2,t4,t5,a1,a2,a3,r0,r1,q0,t3,hrr,na,Ca,AV.cut,za,mO];subst hQ;exact⟨_,rfl,by omega,by omega,hs⟩
   ·rintro t ⟨k,rfl,hk0,hk1,hs⟩
    rw[vab,Is] at hs;have e1:decide ((s.parts.length:Int) < (s.parts.length:Int))=false:=Ga (by omega);generalize hQ:(fun r:Ex×St=>r.1.stop=true/\_)=Q;simp -implicitDefEqProofs only[SX,sevalprocAttr,-List.reduceReplicate,Ph,e1,mO];subst hQ;exact⟨rfl,_,.inr ⟨k,rfl,by simp[Tr.aa],hs⟩⟩
  obtain⟨r,h1,E,h2⟩:=wc D7;have D9:ab (ma (oa (Da (fun _=>none) 8) Ph) (na 0 [1,2,6,24,25,26])) ua ⟨(((((Tr.lf.set 26 (.pv (.int .i64 0))).set 25 (.pv (i64 s.parts.length))).set 24 (.pv (.lit 1 S))).set 6 (.pv (.int .i64 0))).set 2 (.pv (.rp [P,i64 s.first] 0))).set 1 (.pv B),[]⟩=some r:=h1;have d1:((bs.length:Int) != (s.parts.length:Int))=false:=by rw[hlen];simp
  rw[hrk];rcases h2 with⟨rfl,h4,h5,hn⟩ | ⟨k,rfl,h6,hk⟩
  ·refine⟨fun k hk=>by (rw[hn] at hk;cases hk),fun _=> ?_⟩
   simp -implicitDefEqProofs only[Bj,SX,sevalprocAttr,-List.reduceReplicate,uo,Db,I8,hB1,r2,r0,q0,L8,lP,lB,d1,Y7,hsl,hdl,na,Ca,AV.cut,za,D9,h4,h5]
  ·refine⟨fun k' hk'=> ?_,fun hn=>by (rw[hk] at hn;cases hn)⟩
   obtain rfl:k=k':=vad (hk.symm.trans hk');simp -implicitDefEqProofs only[Bj,SX,sevalprocAttr,-List.reduceReplicate,uo,Db,I8,hB1,r2,r0,q0,L8,lP,lB,d1,Y7,hsl,hdl,na,Ca,AV.cut,za,D9,h6]
 ·have d1:((bs.length:Int) != (s.parts.length:Int))=true:=by
   have:(bs.length:Int)≠(s.parts.length:Int):=by omega
   simp[this]
  have hrk:Mi s bs=none:=by unfold Mi;rw[kaa hlen]
  refine⟨fun k hk=>by (rw[hrk] at hk;cases hk),fun _=> ?_⟩;simp -implicitDefEqProofs only[Bj,SX,sevalprocAttr,-List.reduceReplicate,uo,Db,I8,hB1,r2,r0,q0,L8,lP,lB,d1]
abbrev mK(bs:List Int):List PV:=bs.map (PV.int .u8)
abbrev MR(row:List PV)(P:PV)(n i:Int)(tk:Nat)(es:List PV):Tr:=((((Tr.lf.set 19 (.pv (i64 i))).set 18 (.pv (i64 n))).set 17 (.pv P)).set 5 (.uq tk false 1 es)).set 2 (.pv (.rp row 0))
theorem HJ{e:PV}{s:Nb}{P:PV}{ps:List PV}(h:dg e s P ps){B:PV}{bs:List Int}(hB:lk B bs)(Ba:Be s)(hlen:bs.length<=s.parts.length):
 ∃ k,Tk [e,B]=some (i64 k):=by
 have hh:=h;obtain⟨I8,hP2⟩:=h.Qz
 have heq:=h.eq
 subst heq;have hP:=h.parts
 have lP:=hP.Tb
 have lB:=hB.Tb
 have hB1:=hB.one
 have h8:=Ba.hi
 have hPl:P= .lit 1 ps:=hP.is.lit (i:=0) (by rw[hP.len];exact Ba.lo)
 have r2:∀ H (x y:PV),pa H true 2 (.pv (.rp [x,y] 0))=some (.pv (.agg [x,y])):=fun H x y=>rfl;have r0:∀ H (x y:PV),pa H false 1 (.pv (.rp [x,y] 0))=some (.pv x):=fun H x y=>rfl;have r01:∀ H (x y:PV),pa H false 1 (.pv (.rp [x,y] 1))=some (.pv y):=fun H x y=>rfl;have r1:∀ H (x:PV),pa H false 1 (.pv (.rp [x] 0))=some (.pv x):=fun H x=>rfl;have q0:∀ H (x y:PV),place H 0 (.pv (.rp [x,y] 0))=some (.pv (.rp [x,y] 0)):=fun H x y=>rfl;have q1:∀ H (x y:PV),place H 1 (.pv (.rp [x,y] 0))=some (.pv (.rp [x,y] 1)):=fun H x y=>rfl;have hsl:∀ H,ug H 1 (.pv P) (some (bs.length:Int)) none=some (.pv (.lit 1 (ps.drop bs.length))):=fun H=>by rw[hPl];exact CM H (by omega) (by rw[hP.len];exact hlen)
 have hdl:(ps.drop bs.length).length=s.parts.length - bs.length:=by rw[Fab,hP.len]
 have Qak:Cb [.tok 1 0 false] false .uq 1 false 1 (.uq 0 false 1 []) (.pv B)=some (.uq 0 false 1 (mK bs),[.tok 1 bs.length false]):=by
  have he:Lf 1 (.pv B)=some (mK bs):=by
   rcases hB.is with⟨rfl,hbs⟩ | rfl
   ·have:mK bs=[]:=hbs
    rw[this];rfl
   ·simp[Lf,mK]
  simp only[Cb,saa,if_false,dab,he,yaa,pab,Zaa,Yaa];rw[if_pos ⟨trivial,trivial,trivial,by unfold eb;simp[mK];omega⟩];simp[mK]
 have D7:qd (fun r=>∃ E H bs',r=(.exit 0,⟨E,H⟩)/\E.get 5= .uq 0 false 1 (mK bs')/\E.get 2= .pv (.rp [P,i64 s.first] 0)/\∀ b∈bs',0<=b/\b<=255)
  (ab (ma (oa (Da (fun _=>none) 8) Gi) (na 1 [2,5,17,18,19])) ua ⟨MR [P,i64 s.first] (.lit 1 (ps.drop bs.length)) ((s.parts.length - bs.length:Nat):Int) 0 0 (mK bs),[.tok 1 bs.length false]⟩):=by
  refine wa (Fb (g:=ma (oa (Da (fun _=>none) 8) Gi) (na 1 [2,5,17,18,19]))
   (fun i t=>∃ bs',t=⟨MR [P,i64 s.first] (.lit 1 (ps.drop bs.length)) ((s.parts.length - bs.length:Nat):Int) i 0 (mK bs'),[.tok 1 bs'.length false]⟩/\bs'.length=bs.length+i/\∀ b∈bs',0<=b/\b<=255)
   (s.parts.length - bs.length) (by unfold ua;omega) _ ⟨bs,rfl,rfl,hB.Sy⟩ ?_ ?_) (fun r h=>h.2)
  ·rintro i t hi ⟨bs',rfl,Z8,R8⟩
   obtain⟨v,hv,Sao,Y8⟩:=hP.get (i:=bs.length+i) (by omega)
   have N8:=Ba.parts _ (jaa (show bs.length+i < s.parts.length by omega))
   generalize s.parts[bs.length+i]=l at *
   obtain⟨p0,l',rfl⟩:=List.exists_cons_of_ne_nil N8.1
   have hvl:v= .lit 2 (de (p0::l')):=Y8.is.lit (i:=0) (by simp)
   have P7:v.cells=[v]:=by rw[hvl];rfl
   have e1:decide ((i:Int) < ((s.parts.length - bs.length:Nat):Int))=true:=Ea (by omega);have t2:=Za hi (by unfold maxLen;omega);have a1:∀ H,ta H 1 (.pv (.lit 1 (ps.drop bs.length))) (i:Int)=some (.pv (.rp [v] 0)):=fun H=>by simp only[ta];rw[if_pos (by have:=hP.len;unfold Ia;simp;omega),Daa,mae,hv];simp[P7]
   have i0:∀ H,ta H 2 (.pv v) 0=some (.pv (.rp [i64 p0.1,i64 p0.2] 0)):=fun H=>by rw[hvl];exact um H (i:=0) (l:=p0::l') (by simp)
   have hb0:=Es N8.2 p0 (by simp)
   have t3:IntKind.u8.wrap p0.1=p0.1:=wrap_u8 (by omega)
   have s8:=yt (A:=[.tok 1 bs'.length false]) (id:=0) (n:=bs'.length) (h:= .uq) (nl:=false) (bytes:=1) (es:=mK bs') rfl (by simp[mK]) (by unfold eb;omega) (.int .u8 p0.1);rw[fac] at s8;have hbm:mK (bs'++[p0.1])=mK bs'++[.int .u8 p0.1]:=by simp[mK]
   clear hvl;generalize hQ:LN _ _ i=Q;simp -implicitDefEqProofs only[SP,WP,fa,sevalprocAttr,Gi,e1,t2,t3,a1,i0,r0,r1,q0,s8,na,Ca,AV.cut,qa,za,MR];subst hQ;refine⟨bs'++[p0.1],by rw[hbm];simp,by simp;omega,?_⟩;intro b hb;rcases Jaa.1 hb with h | h
   ·exact R8 b h
   ·simp at h;subst h;omega
  ·rintro t ⟨bs',rfl,Z8,R8⟩
   have e1:decide (((s.parts.length - bs.length:Nat):Int) < ((s.parts.length - bs.length:Nat):Int))=false:=Ga (by omega);generalize hQ:(fun r:Ex×St=>r.1.stop=true/\_)=Q;simp -implicitDefEqProofs only[SX,sevalprocAttr,Gi,e1,MR];subst hQ;exact⟨rfl,_,_,bs',rfl,by simp[Tr.aa],by simp[Tr.aa],R8⟩
 obtain⟨r,h1,E,H,bs',rfl,hE5,hE2,R8⟩:=wc D7;have D9:ab (ma (oa (Da (fun _=>none) 8) Gi) (na 1 [2,5,17,18,19])) ua ⟨((((Tr.lf.set 19 (.pv (.int .i64 0))).set 18 (.pv (i64 ((s.parts.length - bs.length:Nat):Int)))).set 17 (.pv (.lit 1 (ps.drop bs.length)))).set 5 (.uq 0 false 1 (mK bs))).set 2 (.pv (.rp [P,i64 s.first] 0)),[.tok 1 bs.length false]⟩=_:=h1;have hBl:lk (.lit 1 (mK bs')) bs':=⟨.inr rfl,R8⟩;have hrk:=pF hh hBl Ba;have Rak:∃ k b,Bj [.agg [P,i64 s.first],.lit 1 (mK bs')]=some (.mc [i64 k,.bool b]):=by
  cases hk:Mi s bs' with
  |some k=>exact⟨k,true,hrk.1 k hk⟩
  |none=>exact⟨0,false,hrk.2 hk⟩
 obtain⟨k,b,hk⟩:=Rak;refine⟨IntKind.i64.wrap (s.first+k),?_⟩;clear hPl;generalize mK bs=ub at *;generalize mK bs'=ub' at *;simp -implicitDefEqProofs only[Tk,SP,WP,fa,sevalprocAttr,cu,Db,I8,hB1,r2,r0,r01,q0,q1,lP,lB,Qak,hsl,hdl,na,Ca,AV.cut,qa,za,D9,hE5,hE2,hk]
theorem qb.Pd{S:PV}{ss:List Nb}{es:List PV}(hS:qb S ss es){i:Nat}(hi:i < ss.length):∃ P ps,dg (.agg [P,i64 ss[i].first]) ss[i] P ps/\∀ H,ta H 2 (.pv S) (i:Int)=some (.pv (.rp [P,i64 ss[i].first] 0)):=by
 obtain⟨e,P,ps,he,hSl,hsh⟩:=hS.get hi
 have heq:=hsh.eq
 subst heq;refine⟨P,ps,hsh,fun H=> ?_⟩;have hq:i < es.length:=by rw[hS.len];exact hi
 rw[hSl];simp only[ta];rw[if_pos (by unfold Ia;simp;omega),Daa,he];rfl
def mf(p q:Nb):Bool:=(dc p.parts q.parts p.parts.length 0).isSome
abbrev Vb(y:Bool)(a b:Int):ba:= .box [.pv (.bool y),.pv (i64 a),.pv (i64 b)]
abbrev zi(P:PV)(f:Int):ba:= .box [.pv P,.pv (i64 f)]
abbrev EJ(S:PV)(cix:Nat)(n i j:Int):Tr:=
 (((((((((((Tr.lf.set 29 (.pv (i64 j))).set 28 (.pv (i64 n))).set 27 (.pv S)).set 21 (.pv (i64 i))).set 20 (.pv (i64 n))).set 19 (.pv S)).set 8 (.ptr 4 0)).set 7 (.pv (i64 i))).set 6 (.ptr 3 0)).set 4 (.ptr 2 0)).set 2 (.pv (.rp [S] 0))).set 1 (.Ol cix [.ptr 0 0])
abbrev bR(S:PV)(cix:Nat)(n i:Int):Tr:=
 ((((((Tr.lf.set 21 (.pv (i64 i))).set 20 (.pv (i64 n))).set 19 (.pv S)).set 6 (.ptr 3 0)).set 4 (.ptr 2 0)).set 2 (.pv (.rp [S] 0))).set 1 (.Ol cix [.ptr 0 0])
structure N3(call:Sa)(cix:Nat)(S:PV)(n:Nat)(ask:Nat->Nat->Bool):Prop where
 run:∀ (i j:Nat)(H:List ba),i < n->j < n->H[0]? =some (.box [.pv S])->call cix [.pv (i64 i),.pv (i64 j),.ptr 0 0] H=some (.pv (.bool (ask i j)),H)
section
variable {call:Sa}{cix:Nat}{S:PV}{ss:List Nb}{es:List PV}{ask:Nat->Nat->Bool}(hS:qb S ss es)(Ba:Xb ss)(hA:N3 call cix S ss.length ask)
 (sae:∀ i j,(hi:i < ss.length)->(hj:j < ss.length)->ask i j=true->ss[i].parts.length<=ss[j].parts.length)
include hS Ba hA sae
theorem SK{i:Nat}(hi:i < ss.length){P:PV}(hP:∃ ps,dg (.agg [P,i64 ss[i].first]) ss[i] P ps)(X:ba)(hX:∀ n,qa n X=some X):
 qd (fun r=>(∃ E,r=(.exit 2,⟨E,[.box [.pv S],X,Vb false 0 0,Vb true 0 0,zi P ss[i].first]⟩)/\E.get 1= .Ol cix [.ptr 0 0]/\E.get 2= .pv (.rp [S] 0)/\E.get 4= .ptr 2 0/\E.get 6= .ptr 3 0/\E.get 19= .pv S/\E.get 20= .pv (i64 ss.length)/\E.get 21= .pv (i64 i)/\∀ j,(hj:j < ss.length)->ask i j=true->mf ss[i] ss[j]=false)\/
  (∃ E a b T,r=(.exit 0,⟨E,[.box [.pv S],X,Vb false 0 0,Vb false a b]++T⟩)/\E.get 4= .ptr 2 0/\E.get 6= .ptr 3 0/\∃ j,∃ hj:j < ss.length,ask i j=true/\mf ss[i] ss[j]=true))
  (ab (ma (oa call Eg) (na 5 [1,2,4,6,7,8,19,20,21,27,28,29])) ua ⟨EJ S cix ss.length i 0,[.box [.pv S],X,Vb false 0 0,Vb true 0 0,zi P ss[i].first]⟩):=by
 obtain⟨ps,hPs⟩:=hP;have h32:=Ba.len
 have okp:=Ba.dt _ (jaa hi)
 have E9:(AV.pv S).one=true:=by rcases hS.is with⟨h,_⟩ | h <;> rw[h] <;> rfl
 obtain⟨I8,hP2⟩:=hPs.Qz
 have lP:=hPs.parts.Tb
 have dai:=fun j hj=>sae i j hi hj;have hAi:=fun j H (hj:j < ss.length)=>hA.run i j H hi hj
 generalize hp:ss[i]=p at *;refine wa (Fb (g:=ma (oa call Eg) (na 5 [1,2,4,6,7,8,19,20,21,27,28,29]))
  (fun j t=>t=⟨EJ S cix ss.length i j,[.box [.pv S],X,Vb false 0 0,Vb true 0 0,zi P p.first]⟩/\∀ j',j' < j->(hj:j' < ss.length)->ask i j'=true->mf p ss[j']=false)
  ss.length (by unfold ua;omega) _ ⟨rfl,fun j' h=>by omega⟩ ?_ ?_) (fun r h=>h.2)
 ·rintro j t hj ⟨rfl,hno⟩
  obtain⟨Q,qs,hQs,a1⟩:=hS.Pd hj
  have okq:=Ba.dt _ (jaa hj)
  have hcm:=nQ hPs hQs okp okq (n:=p.parts.length) (paa _);have Cad:∀ (b:Bool),(ask i j=true->mf p ss[j]=false)->∀ j',j' < j+1->(hj:j' < ss.length)->ask i j'=true->mf p ss[j']=false:=by
   intro _ h j' hj' hjj ha;rcases Qaa j' j with h1 | h1
   ·exact hno j' h1 hjj ha
   ·have:j'=j:=by omega
    subst this;exact h ha
  have hle:=dai j hj;obtain⟨hQ1,hQ2⟩:=hQs.Qz
  have lQ:=hQs.parts.Tb
  have hmt:mf p ss[j]=(dc p.parts ss[j].parts p.parts.length 0).isSome:=rfl
  rw[hmt] at Cad;have hex:ask i j=true->(dc p.parts ss[j].parts p.parts.length 0).isSome=true->∃ j,∃ hj:j < ss.length,ask i j=true/\mf p ss[j]=true:=fun h1 h2=>⟨j,hj,h1,h2⟩
  have nag:∀ {B:PV}{bs:List Int},lk B bs->bs.length<=ss[j].parts.length->∃ k,Tk [.agg [Q,i64 ss[j].first],B]=some (i64 k):=fun h1 h2=>HJ hQs h1 okq h2
  generalize ss[j]=q at *;have e1:decide ((j:Int) < (ss.length:Int))=true:=Ea (by omega);have t2:=Za hj (by unfold maxLen;omega);have a2:∀ H,pa H true 2 (.pv (.rp [Q,i64 q.first] 0))=some (.pv (.agg [Q,i64 q.first])):=fun H=>rfl;have s1:Ha [.box [.pv S],X,Vb false 0 0,Vb true 0 0,zi P p.first,.box [.pv .ga,.pv (i64 0)]] 2 (.ptr 5 0) (.pv (.agg [Q,i64 q.first]))=some [.box [.pv S],X,Vb false 0 0,Vb true 0 0,zi P p.first,zi Q q.first]:=
   Gp _ _ _ _ hQ1 rfl [.box [.pv S],X,Vb false 0 0,Vb true 0 0,zi P p.first] _ rfl
  have hak:=hAi j [.box [.pv S],X,Vb false 0 0,Vb true 0 0,zi P p.first,zi Q q.first] hj rfl;have l1:pa [.box [.pv S],X,Vb false 0 0,Vb true 0 0,zi P p.first,zi Q q.first] true 2 (.ptr 4 0)=some (.pv (.agg [P,i64 p.first])):=rfl;have l2:pa [.box [.pv S],X,Vb false 0 0,Vb true 0 0,zi P p.first,zi Q q.first] true 2 (.ptr 5 0)=some (.pv (.agg [Q,i64 q.first])):=rfl;have l3:pa [.box [.pv S],X,Vb false 0 0,Vb true 0 0,zi P p.first,zi Q q.first] false 1 (.ptr 4 0)=some (.pv P):=rfl;have p3:place [.box [.pv S],X,Vb false 0 0,Vb true 0 0,zi P p.first,zi Q q.first] 0 (.ptr 4 0)=some (.ptr 4 0):=rfl;have s2:∀ a b:Int,Ha [.box [.pv S],X,Vb false 0 0,Vb true 0 0,zi P p.first,zi Q q.first] 3 (.ptr 3 0) (.pv (.agg [.bool false,i64 a,i64 b]))=some [.box [.pv S],X,Vb false 0 0,Vb false a b,zi P p.first,zi Q q.first]:=fun a b=>rfl;have maa:Ra (qa 5) [.box [.pv S],X,Vb false 0 0,Vb true 0 0,zi P p.first]=some [.box [.pv S],X,Vb false 0 0,Vb true 0 0,zi P p.first]:=by refine Bm ?_;intro o ho;simp only[Xaa,hac,or_false] at ho;rcases ho with rfl | rfl | rfl | rfl | rfl <;> first | exact hX _ | simp[qa,Ra,Qa]
  have o8:∀ o:ba,[.box [.pv S],X,Vb false 0 0,Vb true 0 0,zi P p.first,o].take 5=[.box [.pv S],X,Vb false 0 0,Vb true 0 0,zi P p.first]:=fun o=>rfl
  have c3:(3 < 5)=True:=by simp
  have c2:(2 < 5)=True:=by simp
  have c4:(4 < 5)=True:=by simp
  have c0:(0 < 5)=True:=by simp
  have hd:deep=6:=rfl;generalize Q7:LN _ _ j=QQ;cases zac:ask i j with
  |false=>rw[zac] at hak;simp -implicitDefEqProofs only[SP,WP,fa,sevalprocAttr,Eg,e1,t2,a1,a2,s1,hak,maa,o8,c0,c2,c3,c4,na,Ca,AV.cut,za,EJ];subst Q7;exact⟨rfl,Cad true (fun h=>by rw[zac] at h;cases h)⟩
  |true=>
   rw[zac] at hak;have hcm:=hcm (hle zac);cases hc:dc p.parts q.parts p.parts.length 0 with
   |none=>
    have h1:=hcm.1 hc
    simp -implicitDefEqProofs only[SP,WP,fa,sevalprocAttr,Eg,e1,t2,a1,a2,s1,hak,l1,l2,l3,p3,lP,h1,maa,o8,c0,c2,c3,c4,na,Ca,AV.cut,za,EJ];subst Q7;exact⟨rfl,Cad true (fun _=>by rw[hc];rfl)⟩
   |some bs=>
    obtain⟨v,h1,hv,hbl,hbr⟩:=hcm.2 bs hc
    have hB:lk v bs:=⟨hv,hbr⟩;obtain⟨k1,hk1⟩:=HJ hPs hB okp (by omega);obtain⟨k2,H8⟩:=nag hB (by have:=hle zac;omega);simp -implicitDefEqProofs only[SP,WP,fa,sevalprocAttr,Eg,e1,a1,a2,s1,hak,l1,l2,l3,p3,lP,h1,hk1,H8,s2,EJ];subst Q7;exact .inr ⟨_,k1,k2,[zi P p.first,zi Q q.first],rfl,by simp[Tr.aa],by simp[Tr.aa],hex zac (by rw[hc];rfl)⟩
 ·rintro t ⟨rfl,hno⟩
  have e1:decide ((ss.length:Int) < (ss.length:Int))=false:=Ga (by omega);generalize hQ:(fun r:Ex×St=>r.1.stop=true/\_)=Q;simp -implicitDefEqProofs only[SX,sevalprocAttr,Eg,e1,EJ];subst hQ;exact⟨rfl,.inl ⟨_,rfl,by simp[Tr.aa],by simp[Tr.aa],by simp[Tr.aa],by simp[Tr.aa],by simp[Tr.aa],by simp[Tr.aa],by simp[Tr.aa],fun j hj ha=>hno j hj hj ha⟩⟩
theorem DL(X:ba)(hX:∀ n,qa n X=some X):
 qd (fun r=>(∃ E,r=(.exit 0,⟨E,[.box [.pv S],X,Vb false 0 0,Vb true 0 0]⟩)/\E.get 4= .ptr 2 0/\E.get 6= .ptr 3 0/\∀ i j,(hi:i < ss.length)->(hj:j < ss.length)->ask i j=true->mf ss[i] ss[j]=false)\/
  (∃ E a b T,r=(.exit 0,⟨E,[.box [.pv S],X,Vb false 0 0,Vb false a b]++T⟩)/\E.get 4= .ptr 2 0/\E.get 6= .ptr 3 0/\∃ i j,∃ hi:i < ss.length,∃ hj:j < ss.length,ask i j=true/\mf ss[i] ss[j]=true))
  (ab (ma (oa call sj) (na 4 [1,2,4,6,19,20,21])) ua ⟨bR S cix ss.length 0,[.box [.pv S],X,Vb false 0 0,Vb true 0 0]⟩):=by
 have h32:=Ba.len
 have lS:=hS.Tb
 refine wa (Fb (g:=ma (oa call sj) (na 4 [1,2,4,6,19,20,21]))
  (fun i t=>t=⟨bR S cix ss.length i,[.box [.pv S],X,Vb false 0 0,Vb true 0 0]⟩/\∀ i' j,i' < i->(hi:i' < ss.length)->(hj:j < ss.length)->ask i' j=true->mf ss[i'] ss[j]=false)
  ss.length (by unfold ua;omega) _ ⟨rfl,fun i' j h=>by omega⟩ ?_ ?_) (fun r h=>h.2)
 ·rintro i t hi ⟨rfl,hno⟩
  obtain⟨P,ps,hPs,a1⟩:=hS.Pd hi
  have b9:=SK hS Ba hA sae hi ⟨ps,hPs⟩ X hX;obtain⟨I8,hP2⟩:=hPs.Qz
  have Cad:(∀ j,(hj:j < ss.length)->ask i j=true->mf ss[i] ss[j]=false)->∀ i' j,i' < i+1->(hi:i' < ss.length)->(hj:j < ss.length)->ask i' j=true->mf ss[i'] ss[j]=false:=by
   intro h i' j hi' hii hj ha;rcases Qaa i' i with h1 | h1
   ·exact hno i' j h1 hii hj ha
   ·have:i'=i:=by omega
    subst this;exact h j hj ha
  have hex:(∃ j,∃ hj:j < ss.length,ask i j=true/\mf ss[i] ss[j]=true)->∃ i j,∃ hi:i < ss.length,∃ hj:j < ss.length,ask i j=true/\mf ss[i] ss[j]=true:=fun ⟨j,hj,h⟩=>⟨i,j,hi,hj,h⟩
  generalize ss[i]=p at *;have e1:decide ((i:Int) < (ss.length:Int))=true:=Ea (by omega);have t2:=Za hi (by unfold maxLen;omega);have a2:∀ H,pa H true 2 (.pv (.rp [P,i64 p.first] 0))=some (.pv (.agg [P,i64 p.first])):=fun H=>rfl;have s1:Ha [.box [.pv S],X,Vb false 0 0,Vb true 0 0,.box [.pv .ga,.pv (i64 0)]] 2 (.ptr 4 0) (.pv (.agg [P,i64 p.first]))=some [.box [.pv S],X,Vb false 0 0,Vb true 0 0,zi P p.first]:=
   Gp _ _ _ _ I8 rfl [.box [.pv S],X,Vb false 0 0,Vb true 0 0] _ rfl
  have Kab:∀ T,Ra (qa 4) (([.box [.pv S],X,Vb false 0 0,Vb true 0 0]++T).take 4)=some [.box [.pv S],X,Vb false 0 0,Vb true 0 0]:=fun T=>by refine Bm ?_;intro o ho;simp only[bab,Yaa,lad,List.take_zero,Xaa,hac,or_false] at ho;rcases ho with rfl | rfl | rfl | rfl <;> first | exact hX _ | simp[qa,Ra,Qa]
  have naf:∀ o,Ra (qa 4) ([.box [.pv S],X,Vb false 0 0,Vb true 0 0,o].take 4)=some [.box [.pv S],X,Vb false 0 0,Vb true 0 0]:=fun o=>Kab [o];have maa:Ra (qa 5) [.box [.pv S],X,Vb false 0 0,Vb true 0 0,zi P p.first]=some [.box [.pv S],X,Vb false 0 0,Vb true 0 0,zi P p.first]:=by refine Bm ?_;intro o ho;simp only[Xaa,hac,or_false] at ho;rcases ho with rfl | rfl | rfl | rfl | rfl <;> first | exact hX _ | simp[qa,Ra,Qa]
  have Caa:([.box [.pv S],X,Vb false 0 0,Vb true 0 0,zi P p.first]:List ba).take 5=[.box [.pv S],X,Vb false 0 0,Vb true 0 0,zi P p.first]:=rfl
  have r0:∀ H (x:PV),pa H false 1 (.pv (.rp [x] 0))=some (.pv x):=fun H x=>rfl;have q0:∀ H (x:PV),place H 0 (.pv (.rp [x] 0))=some (.pv (.rp [x] 0)):=fun H x=>rfl;have c3:(3 < 5)=True:=by simp
  have c2:(2 < 5)=True:=by simp
  have c4:(4 < 5)=True:=by simp
  have c0:(0 < 5)=True:=by simp
  have d3:(3 < 4)=True:=by simp
  have d2:(2 < 4)=True:=by simp
  have d0:(0 < 4)=True:=by simp
  generalize Q7:LN _ _ i=QQ;simp -implicitDefEqProofs only[SP,WP,fa,sevalprocAttr,sj,Db,e1,a1,a2,s1,r0,q0,lS,maa,Caa,c0,c2,c3,c4,na,Ca,AV.cut,za,bR];refine wa b9 ?_;rintro r (⟨E,rfl,g1,g2,g4,g6,g19,g20,g21,hn⟩ | ⟨E,a,b,T,rfl,g4,g6,hy⟩)
  ·simp -implicitDefEqProofs only[SP,WP,fa,sevalprocAttr,g1,g2,g4,g6,g19,g20,g21,t2,hX 4,d0,d2,d3,na,Ca,AV.cut,za]
   subst Q7;exact⟨rfl,Cad hn⟩
  ·simp -implicitDefEqProofs only[SP,WP,fa,sevalprocAttr]
   subst Q7;exact .inr ⟨E,a,b,T,rfl,g4,g6,hex hy⟩
 ·rintro t ⟨rfl,hno⟩
  have e1:decide ((ss.length:Int) < (ss.length:Int))=false:=Ga (by omega);generalize hQ:(fun r:Ex×St=>r.1.stop=true/\_)=Q;simp -implicitDefEqProofs only[SX,sevalprocAttr,sj,e1,bR];subst hQ;exact⟨rfl,.inl ⟨_,rfl,by simp[Tr.aa],by simp[Tr.aa],fun i j hi hj ha=>hno i j hi hi hj ha⟩⟩
theorem iG(X:ba)(hX:∀ n,qa n X=some X):
 ∃ y a b T,ef call Ig [.pv (.agg [S]),.Ol cix [.ptr 0 0]] [.box [.pv S],X]=some (.pv (.mc [.agg [.bool y,i64 a,i64 b],i64 0]),[.box [.pv S],X]++T)/\
  (y=true↔∀ i j,(hi:i < ss.length)->(hj:j < ss.length)->ask i j=true->mf ss[i] ss[j]=false):=by
 have lS:=hS.Tb
 have E9:(AV.pv S).one=true:=by rcases hS.is with⟨h,_⟩ | h <;> rw[h] <;> rfl
 obtain⟨b,hv,hvb⟩:=wm hS;have:=hvb.2 Ba
 subst this;have D8:=DL hS Ba hA sae X hX;have s1:Ha [.box [.pv S],X,Vb false 0 0,.box [.pv (.bool false),.pv (i64 0),.pv (i64 0)]] 3 (.ptr 3 0) (.pv (.agg [.bool true,i64 0,i64 0]))=some [.box [.pv S],X,Vb false 0 0,Vb true 0 0]:=rfl;have Kab:Ra (qa 4) [.box [.pv S],X,Vb false 0 0,Vb true 0 0]=some [.box [.pv S],X,Vb false 0 0,Vb true 0 0]:=by refine Bm ?_;intro o ho;simp only[Xaa,hac,or_false] at ho;rcases ho with rfl | rfl | rfl | rfl <;> first | exact hX _ | simp[qa,Ra,Qa]
 have Lab:([.box [.pv S],X,Vb false 0 0,Vb true 0 0]:List ba).take 4=[.box [.pv S],X,Vb false 0 0,Vb true 0 0]:=rfl
 have r1:∀ H (x:PV),pa H true 1 (.pv (.rp [x] 0))=some (.pv (.agg [x])):=fun H x=>rfl;have r0:∀ H (x:PV),pa H false 1 (.pv (.rp [x] 0))=some (.pv x):=fun H x=>rfl;have q0:∀ H (x:PV),place H 0 (.pv (.rp [x] 0))=some (.pv (.rp [x] 0)):=fun H x=>rfl;have d3:(3 < 4)=True:=by simp
 have d2:(2 < 4)=True:=by simp
 have d0:(0 < 4)=True:=by simp
 have key:qd (fun r=>∃ y a b T,r=(.pv (.mc [.agg [.bool y,i64 a,i64 b],i64 0]),[.box [.pv S],X]++T)/\(y=true↔∀ i j,(hi:i < ss.length)->(hj:j < ss.length)->ask i j=true->mf ss[i] ss[j]=false))
  (ef call Ig [.pv (.agg [S]),.Ol cix [.ptr 0 0]] [.box [.pv S],X]):=by
  generalize Q7:(fun r:AV×List ba=>_)=QQ;simp -implicitDefEqProofs only[SP,WP,fa,sevalprocAttr,Ig,Db,E9,r1,r0,q0,hv,lS,s1,Kab,Lab,d0,d2,d3,na,Ca,AV.cut,za];refine wa D8 ?_;rintro r (⟨E,rfl,g4,g6,hn⟩ | ⟨E,a,b,T,rfl,g4,g6,i,j,hi,hj,h1,h2⟩)
  ·have l1:pa [.box [.pv S],X,Vb false 0 0,Vb true 0 0] true 3 (.ptr 3 0)=some (.pv (.agg [.bool true,i64 0,i64 0])):=rfl
   have s2:Ha [.box [.pv S],X,Vb false 0 0,Vb true 0 0] 3 (.ptr 2 0) (.pv (.agg [.bool true,i64 0,i64 0]))=some [.box [.pv S],X,Vb true 0 0,Vb true 0 0]:=rfl;have l2:pa [.box [.pv S],X,Vb true 0 0,Vb true 0 0] true 3 (.ptr 2 0)=some (.pv (.agg [.bool true,i64 0,i64 0])):=rfl;simp -implicitDefEqProofs only[SP,WP,fa,sevalprocAttr,g4,g6,l1,s2,l2];subst Q7;exact⟨true,0,0,_,rfl,by simpa using hn⟩
  ·have l1:pa ([.box [.pv S],X,Vb false 0 0,Vb false a b]++T) true 3 (.ptr 3 0)=some (.pv (.agg [.bool false,i64 a,i64 b])):=rfl
   have s2:Ha ([.box [.pv S],X,Vb false 0 0,Vb false a b]++T) 3 (.ptr 2 0) (.pv (.agg [.bool false,i64 a,i64 b]))=some ([.box [.pv S],X,Vb false a b,Vb false a b]++T):=rfl;have l2:pa ([.box [.pv S],X,Vb false a b,Vb false a b]++T) true 3 (.ptr 2 0)=some (.pv (.agg [.bool false,i64 a,i64 b])):=rfl;generalize hA1:[.box [.pv S],X,Vb false 0 0,Vb false a b]++T=A1 at *;generalize hA2:[.box [.pv S],X,Vb false a b,Vb false a b]++T=A2 at *;simp -implicitDefEqProofs only[SP,WP,fa,sevalprocAttr,g4,g6,l1,s2,l2];subst Q7 hA2;refine⟨false,a,b,_,rfl,?_⟩;simp only[saa,false_iff];intro h;rw[h i j hi hj h1] at h2;cases h2
 obtain⟨r,h1,y,a,b,T,rfl,h2⟩:=wc key;exact⟨y,a,b,T,h1,h2⟩
end
def Gf(ss:List Nb):Prop:=∀ i j,(hi:i < ss.length)->(hj:j < ss.length)->ss[i].parts.length < ss[j].parts.length->mf ss[i] ss[j]=false
theorem sO(call:Sa){S:PV}{ss:List Nb}{es:List PV}(hS:qb S ss es)(i j:Nat)(H:List ba)(hi:i < ss.length)(hj:j < ss.length)(hH:H[0]? =some (.box [.pv S])):
 ef call Ci [.pv (i64 i),.pv (i64 j),.ptr 0 0] H=some (.pv (.bool (decide (ss[i].parts.length < ss[j].parts.length))),H):=by
 obtain⟨P,ps,hPs,a1⟩:=hS.Pd hi
 obtain⟨Q,qs,hQs,a2⟩:=hS.Pd hj
 have lP:=hPs.parts.Tb
 have lQ:=hQs.parts.Tb
 have p0:place H 0 (.ptr 0 0)=some (.ptr 0 0):=by simp[place,hH]
 have l0:pa H false 1 (.ptr 0 0)=some (.pv S):=by simp[pa,hH,Kh]
 have r0:∀ H (x y:PV),pa H false 1 (.pv (.rp [x,y] 0))=some (.pv x):=fun H x y=>rfl;have q0:∀ H (x y:PV),place H 0 (.pv (.rp [x,y] 0))=some (.pv (.rp [x,y] 0)):=fun H x y=>rfl;have e:decide ((ss[i].parts.length:Int) < (ss[j].parts.length:Int))=decide (ss[i].parts.length < ss[j].parts.length):=by simp
 generalize ss[i]=p at *;generalize ss[j]=q at *
 by_cases hij:P=Q
 ·subst hij
  have:p.parts.length=q.parts.length:=by have h1:=lP [];have h2:=lQ [];rw[h1] at h2;exact vad h2
  rw[this] at lP e ⊢;simp -implicitDefEqProofs only[SP,WP,fa,sevalprocAttr,Ci,p0,l0,a1,a2,r0,q0,lP,e]
 ·simp -implicitDefEqProofs only[SP,WP,fa,sevalprocAttr,Ci,p0,l0,a1,a2,r0,q0,lP,lQ,e]
theorem FG{S:PV}{ss:List Nb}{es:List PV}(hS:qb S ss es):
 (¬ Xb ss->qf [.agg [S]]=some (.mc [.agg [.bool false,i64 0,i64 0],i64 84]))/\
 (Xb ss->∃ y a b,qf [.agg [S]]=some (.mc [.agg [.bool y,i64 a,i64 b],i64 0])/\(y=true↔Gf ss)):=by
 have E9:(AV.pv S).one=true:=by rcases hS.is with⟨h,_⟩ | h <;> rw[h] <;> rfl
 have c25:Xj 25=some Ig:=rfl;have s0:pa [.box [.pv S],Vb false 0 0] true 1 (.ptr 0 0)=some (.pv (.agg [S])):=rfl;constructor
 ·intro hno
  obtain⟨b,hv,hvb⟩:=wm hS;have hb:b=false:=by cases b with | false=>rfl | true=>exact absurd (hvb.1 rfl) hno
  subst hb;have r1:∀ H (x:PV),pa H true 1 (.pv (.rp [x] 0))=some (.pv (.agg [x])):=fun H x=>rfl;have s1:Ha [.box [.pv S],Vb false 0 0,.box [.pv (.bool false),.pv (i64 0),.pv (i64 0)]] 3 (.ptr 2 0) (.pv (.agg [.bool false,i64 0,i64 0]))=some [.box [.pv S],Vb false 0 0,Vb false 0 0]:=rfl;have l2:pa [.box [.pv S],Vb false 0 0,Vb false 0 0] true 3 (.ptr 2 0)=some (.pv (.agg [.bool false,i64 0,i64 0])):=rfl;have s2:Ha [.box [.pv S],Vb false 0 0,Vb false 0 0] 3 (.ptr 1 0) (.pv (.agg [.bool false,i64 0,i64 0]))=some [.box [.pv S],Vb false 0 0,Vb false 0 0]:=rfl;have l3:pa [.box [.pv S],Vb false 0 0,Vb false 0 0] true 3 (.ptr 1 0)=some (.pv (.agg [.bool false,i64 0,i64 0])):=rfl;simp -implicitDefEqProofs only[qf,SP,WP,fa,sevalprocAttr,Xn,c25,Ig,E9,s0,r1,hv,s1,l2,s2,l3]
 ·intro Ba
  have hA:N3 (Da Xj 7) 4 S ss.length (fun i j=>if h:i < ss.length/\j < ss.length then decide (ss[i].parts.length < ss[j].parts.length) else false):=by refine⟨fun i j H hi hj hH=> ?_⟩;rw[ai Xj 6 4 _ H (f:=Ci) rfl,sO _ hS i j H hi hj hH,dif_pos ⟨hi,hj⟩]
  obtain⟨y,a,b,T,h1,h2⟩:=iG hS Ba hA (fun i j hi hj h=>by rw[dif_pos ⟨hi,hj⟩] at h;have:=of_decide_eq_true h;omega) (Vb false 0 0) (fun n=>by simp[qa,Ra,Qa]);refine⟨y,a,b,?_,?_⟩
  ·have s2:Ha ([.box [.pv S],Vb false 0 0]++T) 3 (.ptr 1 0) (.pv (.agg [.bool y,i64 a,i64 b]))=some ([.box [.pv S],Vb y a b]++T):=rfl
   have l3:pa ([.box [.pv S],Vb y a b]++T) true 3 (.ptr 1 0)=some (.pv (.agg [.bool y,i64 a,i64 b])):=rfl;generalize hA1:[.box [.pv S],Vb false 0 0]++T=A1 at *;generalize hA2:[.box [.pv S],Vb y a b]++T=A2 at *;simp -implicitDefEqProofs only[qf,SP,WP,fa,sevalprocAttr,Xn,c25,E9,s0,h1,s2,l3]
  ·rw[h2]
   unfold Gf;constructor
   ·intro h i j hi hj E7
    exact h i j hi hj (by rw[dif_pos ⟨hi,hj⟩];exact decide_eq_true E7)
   ·intro h i j hi hj E7
    rw[dif_pos ⟨hi,hj⟩] at E7;exact h i j hi hj (of_decide_eq_true E7)
def cellsOf(n:Nat)(g:Nat->AV):List AV:=(List.range n).map g
theorem Yg(n:Nat)(g:Nat->AV):(cellsOf n g).length=n:=by simp[cellsOf]
theorem Mt{n i:Nat}(g:Nat->AV)(h:i < n):(cellsOf n g)[i]? =some (g i):=by simp[cellsOf,h]
def Ux(g:Nat->AV)(i:Nat)(v:AV):Nat->AV:=fun j=>if j=i then v else g j
theorem kv(g:Nat->AV)(i:Nat)(v:AV):Ux g i v i=v:=if_pos rfl
theorem ax(g:Nat->AV){i j:Nat}(v:AV)(h:j≠i):Ux g i v j=g j:=kaa h
theorem nE{n i:Nat}(g:Nat->AV)(v:AV):(cellsOf n g).set i v=cellsOf n (Ux g i v):=by
 apply Iab;intro j
 by_cases hj:j < n
 ·rw[Mt _ hj]
  by_cases h:i=j
  ·subst h;rw[Maa (by rw[Yg];exact hj),kv]
  ·rw[Gaa h,Mt _ hj,ax _ _ (lac h)]
 ·rw[Raa (by rw[qac,Yg];omega),Raa (by rw[Yg];omega)]
theorem CF{H:List ba}{id m n off sz:Nat}{ag:Bool}{g:Nat->AV}{fl:Nat}{nl:Bool}(hg:H[id]? =some (.seq sz ag (cellsOf n g) fl nl))(hm:m=n)(ho:off < n):
 pa H false 1 (.Hc id m off)=some (g off):=by
 subst hm;simp only[pa,hg,Yg,if_true,Kh,saa,if_false,Mt g ho]
theorem Jv{H:List ba}{id m n off sz d:Nat}{ag:Bool}{g:Nat->AV}{fl:Nat}{nl:Bool}(hg:H[id]? =some (.seq sz ag (cellsOf n g) fl nl))(hm:m=n):
 place H d (.Hc id m off)=some (.Hc id m (off+d)):=by
 subst hm;simp only[place,hg,Yg,if_true]
theorem KC{H:List ba}{id m n off sz:Nat}{ag:Bool}{g:Nat->AV}{fl:Nat}{nl:Bool}(hg:H[id]? =some (.seq sz ag (cellsOf n g) fl nl))(hm:m=n)(ho:off < n){v:AV}(hv:v.cells=[v])(h1:v.one=true):
 Ha H 1 (.Hc id m off) v=some (H.set id (.seq sz ag (cellsOf n (Ux g off v)) n nl)):=by
 subst hm;simp only[Ha,hv,Oaa,pab,wac,h1,List.all_nil,aae,and_self,if_true,hg,Yg];rw[if_pos ⟨trivial,by omega⟩];simp only[fa,nE]
def Ml:List (Int×Int)->List Int
 | []=>[]
 |p::l=>eg 0 p++Ml l
theorem Y0(l:List (Int×Int)):l.flatMap (eg 0)=Ml l:=by
 induction l with
 |nil=>rfl
 |cons p l ih=>rw[Yac,ih];rfl
theorem mM{p:Int×Int}(h0:0<=p.1)(h1:p.1<=p.2):eg 0 p=(List.range (p.2 - p.1+1).toNat).map fun (i:Nat)=>p.1+(i:Int):=by
 unfold eg;rw[kaa (by omega),show max p.1 0=p.1 from by omega]
open Go.AM
abbrev u8(n:Int):PV:= .int .u8 n
structure Dp(A:PV)(l:List (List ae)):Prop where
 held:∃ es,Vh 1 A es/\es.length=l.length/\∀ (i:Nat) v e,es[i]? =some v->l[i]? =some e->Vh 3 v (e.map TH)
 len:l.length * 24<=140737488355328
 lens:∀ e∈l,e.length * 24<=140737488355328
def Zg(b:Int):List ae->Option Int
 | []=>none
 |e::r=>if e.lo<=b/\b<=e.hi then some e.to else Zg b r
def Nd(l:List (List ae))(st b:Int):Int×Bool:=
 if st < 0 then (0,false) else match l[st.toNat]? with
  |some e=>match Zg b e with
   |some t=>(t,true)
   |none=>(0,false)
  |none=>(0,false)
section
variable (b:Int)(hb:0<=b/\b<=255)
include hb
variable (V:PV)(l:List ae)(hV:Vh 3 V (l.map TH))(hw:l.length<=maxLen)
include hV hw
end
theorem Dp.get{A:PV}{l:List (List ae)}(h:Dp A l){i:Nat}(hi:i < l.length):∃ es V,A= .lit 1 es/\es.length=l.length/\es[i]? =some V/\Vh 3 V (l[i].map TH):=by
 obtain⟨es,h1,h2,h3⟩:=h.held
 have hie:i < es.length:=by omega
 refine⟨es,es[i],h1.lit hie,h2,by simp[hie],h3 i _ _ (by simp[hie]) (by simp[hi])⟩
theorem Dp.Tb{A:PV}{l:List (List ae)}(h:Dp A l)(H:List ba):Tb H 0 (.pv A)=some l.length:=by
 obtain⟨es,h1,h2,h3⟩:=h.held
 rw[h1.len,h2]
section
variable (A:PV)(l:List (List ae))(hA:Dp A l)(st b:Int)(hb:0<=b/\b<=255)
include hA hb
end
section
variable (call:Sa)(es:List PV)(st b:Int)(hb:0<=b/\b<=255)(e:List ae)(V:PV)(h0:0<=st/\st < es.length)(hV:es[st.toNat]? =some V)(hVL:Vh 3 V (e.map TH))(hw:e.length<=maxLen)
include h0 hV hVL
include hb hw
end
section
variable (A:PV)(l:List (List ae))(hA:Dp A l)(st b:Int)(hb:0<=b/\b<=255)
include hA hb
end
def Nr(Ac:List Int)(to:Int):Int:=if 0<=to then Ac.getD to.toNat 0 else to
theorem Ey{Ac row:List Int}{i:Nat}:∀ (xs:List Nat)(C:List Int)(p:Nat),p < C.length->
 (ee Ac row i xs C)[p]? =if h:i * 256<=p/\p - i * 256∈xs/\p - i * 256 < row.length then (if 0<=row.getD (p - i * 256) 0 then some (Nr Ac (row.getD (p - i * 256) 0)) else C[p]?) else C[p]?
 | [],C,p,hp=>by simp[ee]
 |x::xs,C,p,hp=>by
  rw[ee];have key:∀ C',C'.length=C.length->(p≠i * 256+x->C'[p]? =C[p]?)->(p=i * 256+x->C'[p]? =if x < row.length then (if 0<=row.getD x 0 then some (Nr Ac (row.getD x 0)) else C[p]?) else C[p]?)->
   (ee Ac row i xs C')[p]? =if h:i * 256<=p/\p - i * 256∈x::xs/\p - i * 256 < row.length then (if 0<=row.getD (p - i * 256) 0 then some (Nr Ac (row.getD (p - i * 256) 0)) else C[p]?) else C[p]? :=by
   intro C' hl h1 h2;rw[Ey xs C' p (by omega)]
   by_cases hx:p=i * 256+x
   ·have e:p - i * 256=x:=by omega
    have h3:=h2 hx;rw[e,h3];have hle:i * 256<=p:=by omega
    by_cases hr:x < row.length
    ·simp only[hle,hr,and_true,true_and,Xaa,true_or,dite_true,if_true]
     by_cases h0:0<=row.getD x 0
     ·simp only[h0,if_true,ite_self,dite_eq_ite]
     ·simp only[h0,if_false,ite_self,dite_eq_ite]
    ·simp[hr]
   ·rw[h1 hx]
    have:(i * 256<=p/\p - i * 256∈xs/\p - i * 256 < row.length)=(i * 256<=p/\p - i * 256∈x::xs/\p - i * 256 < row.length):=by
     refine propext ⟨fun h=>⟨h.1,by simp[h.2.1],h.2.2⟩,fun h=>⟨h.1,?_,h.2.2⟩⟩;rcases Xaa.1 h.2.1 with h4 | h4
     ·omega
     ·exact h4
    simp only[this]
  cases hr:row[x]? with
  |none=>
   refine key _ rfl (fun _=>rfl) (fun hx=> ?_);have:¬x < row.length:=by intro h;rw[aaa h] at hr;cases hr
   rw[kaa this]
  |some to=>
   have hx2:x < row.length:=(iaa.1 hr).1
   have E8:row.getD x 0=to:=by rw[taa,hr];rfl
   simp only
   by_cases h0:0<=to
   ·rw[if_pos h0]
    refine key _ (by simp) (fun hx=>by rw[Gaa (by omega)]) (fun hx=> ?_);rw[if_pos hx2,E8,if_pos h0,hx,Maa (by omega),Nr,if_pos h0]
   ·rw[kaa h0]
    refine key _ rfl (fun _=>rfl) (fun hx=> ?_);rw[if_pos hx2,E8,kaa h0]
theorem Fu{C:List Int}{i x:Nat}(hx:x < 256):(Va C i)[x]? =C[i * 256+x]? :=by
 unfold Va;rw[Fac hx,mae]
theorem GM{n:Nat}{Ac C:List Int}{i:Nat}(hC:C.length=n * 256)(hi:i < n):
 Va (ee Ac (Va C i) i (List.range 256) C) i=(Va C i).map (Nr Ac):=by
 apply Iab;intro x
 by_cases hx:x < 256
 ·rw[Fu hx,Ey _ _ _ (by omega),Eaa]
  have e:i * 256+x - i * 256=x:=by omega
  have hl:=Ei hC hi;rw[e,dif_pos ⟨by omega,by simpa using hx,by omega⟩];have hg:(Va C i)[x]? =some ((Va C i).getD x 0):=by rw[taa,aaa (by omega)];rfl
  have hg2:=hg;rw[Fu hx] at hg2;rw[hg2,hg]
  by_cases h0:0<=(Va C i).getD x 0
  ·rw[if_pos h0];rfl
  ·rw[kaa h0,Haa,Nr,kaa h0]
 ·rw[Raa,Raa]
  ·rw[haa,Ei hC hi];omega
  ·rw[Ei (n:=n) (by rw[cn,hC]) hi];omega
theorem iI{n:Nat}{Ac row C:List Int}{i j:Nat}(hC:C.length=n * 256)(hj:j < n)(hij:j≠i)(hr:row.length=256):
 Va (ee Ac row i (List.range 256) C) j=Va C j:=by
 apply Iab;intro x
 by_cases hx:x < 256
 ·rw[Fu hx,Fu hx,Ey _ _ _ (by omega)]
  rw[dif_neg];rintro⟨h1,h2,h3⟩;omega
 ·rw[Raa,Raa]
  ·rw[Ei hC hj];omega
  ·rw[Ei (n:=n) (by rw[cn,hC]) hj];omega
structure OA(n:Nat)(C0:List Int)(i:Nat)(s:CO):Prop where
 hC:s.C.length=n * 256
 hk:s.Ac.length=n
 hi:∀ j,i<=j->j < n->Va s.C j=(Va C0 j).map (Nr s.Ac)
 lo:∀ j,j < i->Va s.C j=Va C0 j
 look:∀ j,i<=j->j < n->Ll (Va s.C j) s.M=some (s.Ac.getD j 0)
 inj:∀ p∈s.M,∀ q∈s.M,p.2=q.2->p.1=q.1
 rep:∀ p∈s.M,(i:Int)<=p.2/\p.2 < n/\Va s.C p.2.toNat=p.1
def rS(n:Nat)(C0:List Int):Prop:=∀ j,j < n->∀ to∈Va C0 j,0<=to->(j:Int) < to/\to < n
theorem QS{Ac:List Int}{i:Nat}{v to:Int}(h:0<=to->to.toNat≠i):Nr (Ac.set i v) to=Nr Ac to:=by
 unfold Nr
 split
 ·next h0=>rw[taa,taa,Gaa (lac (h h0))]
 ·rfl
theorem jJ{a:List Int}{M N:List (List Int×Int)}:Ll a (M++N)=(Ll a M).or (Ll a N):=by
 induction M with
 |nil=>simp[Ll]
 |cons p M ih=>
  rw[bab,Ll,Ll]
  split
  ·rfl
  ·exact ih
theorem OA.step{n:Nat}{C0:List Int}(hlat:rS n C0){i:Nat}{s:CO}(b9:i < n)(h:OA n C0 (i+1) s):OA n C0 i (jm i s):=by
 have K7:Va s.C i=Va C0 i:=h.lo i (by omega)
 have hrl:(Va C0 i).length=256:=by rw[<- K7];exact Ei h.hC b9
 have hC2:(ee s.Ac (Va s.C i) i (List.range 256) s.C).length=n * 256:=by rw[cn,h.hC]
 have hr1:=GM (Ac:=s.Ac) h.hC b9
 have hr2:∀ j,j < n->j≠i->Va (ee s.Ac (Va s.C i) i (List.range 256) s.C) j=Va s.C j:=fun j hj hji=>iI h.hC hj hji (by rw[K7];exact hrl)
 have hl1:=@Wt i s;have S9:=@iu i s;generalize ee s.Ac (Va s.C i) i (List.range 256) s.C=C2 at *
 have hms:∀ v j,i<=j->j < n->(Va C0 j).map (Nr (s.Ac.set i v))=(Va C0 j).map (Nr s.Ac):=by intro v j hij hj;apply iac;intro to E8;apply QS;intro h0;have:=hlat j hj to E8 h0;omega
 have main:∀ v M',Ll (Va C2 i) M'=some v->(∀ j,i+1<=j->j < n->Ll (Va C2 j) M'=Ll (Va s.C j) s.M)->
  (∀ p∈M',∀ q∈M',p.2=q.2->p.1=q.1)->(∀ p∈M',(i:Int)<=p.2/\p.2 < n/\Va C2 p.2.toNat=p.1)->OA n C0 i ⟨C2,s.Ac.set i v,M'⟩:=by
  intro v M' h1 h2 h3 h4;refine⟨hC2,by simp[h.hk],?_,?_,?_,h3,h4⟩
  ·intro j hij hj
   show Va C2 j=(Va C0 j).map (Nr (s.Ac.set i v))
   rw[hms v j hij hj]
   by_cases hji:j=i
   ·subst hji;rw[hr1,K7]
   ·rw[hr2 j hj hji,h.hi j (by omega) hj]
  ·intro j hj
   show Va C2 j=_;rw[hr2 j (by omega) (by omega),h.lo j (by omega)]
  ·intro j hij hj
   show Ll (Va C2 j) M'=some ((s.Ac.set i v).getD j 0)
   by_cases hji:j=i
   ·subst hji
    rw[h1,taa,Maa (by rw[h.hk];exact hj)];rfl
   ·rw[h2 j (by omega) hj,h.look j (by omega) hj,taa,taa,Gaa (lac hji)]
 cases hlk:Ll (Va C2 i) s.M with
 |some v=>
  rw[hl1 hlk];refine main v s.M hlk (fun j h1 h2=>by rw[hr2 j h2 (by omega)]) h.inj ?_
  intro p hp;obtain⟨h1,h2,h3⟩:=h.rep p hp
  exact⟨by omega,h2,by rw[hr2 _ (by omega) (by omega),h3]⟩
 |none=>
  rw[S9 hlk];refine main i _ (by rw[jJ,hlk];simp[Ll]) (fun j h1 h2=> ?_) ?_ ?_
  ·rw[hr2 j h2 (by omega),jJ,h.look j h1 h2];rfl
  ·intro p hp q hq hpq
   rcases Jaa.1 hp with hp | hp <;> rcases Jaa.1 hq with hq | hq
   ·exact h.inj p hp q hq hpq
   ·simp at hq;subst hq
    have:=(h.rep p hp).1
    simp only at hpq;omega
   ·simp at hp;subst hp
    have:=(h.rep q hq).1
    simp only at hpq;omega
   ·simp at hp hq;subst hp hq;rfl
  ·intro p hp
   rcases Jaa.1 hp with hp | hp
   ·obtain⟨h1,h2,h3⟩:=h.rep p hp
    exact⟨by omega,h2,by rw[hr2 _ (by omega) (by omega),h3]⟩
   ·simp at hp;subst hp
    exact⟨by simp,by simp;omega,by simp⟩
theorem OA.go{n:Nat}{C0:List Int}(hlat:rS n C0):∀ (k:Nat)(s:CO),k<=n->OA n C0 k s->OA n C0 0 (zk k s)
 |0,s,_,h=>h
 |k+1,s,hk,h=>OA.go hlat k _ (by omega) (h.step hlat (by omega))
theorem XS{n:Nat}{C0:List Int}(hlat:rS n C0)(hC:C0.length=n * 256):OA n C0 0 (ff n C0):=by
 refine OA.go hlat n _ (paa _) ⟨hC,by simp,fun j h1 h2=>by omega,fun j hj=>rfl,fun j h1 h2=>by omega,by simp,by simp⟩
theorem OA.yM{n:Nat}{C0:List Int}{s:CO}(h:OA n C0 0 s){j k:Nat}(hj:j < n)(hk:k < n):s.Ac.getD j 0=s.Ac.getD k 0↔Va s.C j=Va s.C k:=by
 have h1:=h.look j (by omega) hj
 have h2:=h.look k (by omega) hk
 constructor
 ·intro e
  obtain⟨p,hp,e1,e2⟩:=Eu h1;obtain⟨q,hq,e3,e4⟩:=Eu h2;rw[<- e1,<-e3];exact h.inj p hp q hq (by rw[e2,e4,e])
 ·intro e
  rw[e,h2] at h1;exact (vad h1).symm
theorem OA.mq{n:Nat}{C0:List Int}{s:CO}(h:OA n C0 0 s){j:Nat}(hj:j < n):0<=s.Ac.getD j 0/\s.Ac.getD j 0 < n/\Va s.C (s.Ac.getD j 0).toNat=Va s.C j:=by
 obtain⟨p,hp,e1,e2⟩:=Eu (h.look j (by omega) hj);obtain⟨h1,h2,h3⟩:=h.rep p hp
 rw[<- e2,<-e1];exact⟨by omega,h2,h3⟩
theorem fw(b:Int):∀ (l m:List ae),Zg b (l++m)=(Zg b l).or (Zg b m)
 | [],m=>by simp[Zg]
 |e::l,m=>by
  rw[bab,Zg,Zg]
  split
  ·rfl
  ·exact fw b l m
theorem Ot{b:Int}:∀ {l:List ae},(∀ e∈l,e.hi < b)->Zg b l=none
 | [],_=>rfl
 |e::l,h=>by have:=h e (by simp);rw[Zg,kaa (by omega)];exact Ot fun x hx=>h x (by simp[hx])
theorem oH{b:Int}:∀ {l:List ae},l.Pairwise (fun a c=>a.hi < c.lo)->∀ e∈l,e.lo<=b->b<=e.hi->Zg b l=some e.to
 |a::l,h,e,he,h1,h2=>by
  rw[Sad] at h;rw[Zg];rcases Xaa.1 he with rfl | he
  ·rw[if_pos ⟨h1,h2⟩]
  ·have:=h.1 e he
   rw[kaa (by omega)];exact oH h.2 e he h1 h2
theorem Ky{b t:Int}:∀ {l:List ae},Zg b l=some t->∃ e∈l,e.lo<=b/\b<=e.hi/\e.to=t
 |e::l,h=>by
  rw[Zg] at h
  split at h
  ·next hc=>exact⟨e,by simp,hc.1,hc.2,vad h⟩
  ·obtain⟨x,hx,h1⟩:=Ky h
   exact⟨x,by simp[hx],h1⟩
structure jN(row:List Int)(n:Nat)(l:List ae):Prop where
 Sy:∀ e∈l,0<=e.lo/\e.lo<=e.hi/\e.hi < n/\e.to≠ -2
 ord:l.Pairwise (fun a b=>a.hi < b.lo)
 tight:∀ (k:Nat) a b,l[k]? =some a->l[k+1]? =some b->b.lo=a.hi+1->b.to≠a.to
 step:∀ x:Nat,x < n->Zg x l=if row.getD x 0= -2 then none else some (row.getD x 0)
theorem eJ{l:List ae}{e:ae}(h:l.getLast? =some e):∃ m,l=m++[e]:=by
 have J7:l≠[]:=by rintro rfl;simp at h
 rw[List.getLast?_eq_some_getLast J7] at h;exact⟨l.dropLast,by rw[<- vad h];exact (List.dropLast_concat_getLast J7).symm⟩
theorem MN{α:Type}{m:List α}{e a b:α}{k:Nat}(h1:(m++[e])[k]? =some a)(h2:(m++[e])[k+1]? =some b):m[k]? =some a/\((m[k+1]? =some b)\/(k+1=m.length/\b=e)):=by
 have hk:k+1 < (m++[e]).length:=(iaa.1 h2).1
 simp at hk;rw[eaa (by omega)] at h1;refine⟨h1,?_⟩;rcases Qaa (k+1) m.length with h | h
 ·rw[eaa h] at h2;exact .inl h2
 ·have:k+1=m.length:=by omega
  rw[Kaa h,this] at h2;simp at h2;exact .inr ⟨this,h2.symm⟩
theorem jN.push{row:List Int}{n:Nat}{l:List ae}(h:jN row n l){to:Int}(ht:row.getD n 0=to)(h2:to≠ -2)(hl:∀ e,l.getLast? =some e->¬(e.to=to/\e.hi=(n:Int) - 1)):jN row (n+1) (l++[⟨n,n,to⟩]):=by
 refine⟨?_,?_,?_,?_⟩
 ·intro e he
  rcases Jaa.1 he with he | he
  ·have:=h.Sy e he;exact⟨this.1,this.2.1,by omega,this.2.2.2⟩
  ·simp at he;subst he;simp;exact⟨by omega,h2⟩
 ·rw[Yad]
  refine⟨h.ord,by simp,?_⟩;intro a ha b hb;simp at hb;subst hb;have:=h.Sy a ha;simp;omega
 ·intro k a b h1 h3 h4
  obtain⟨h5,h6 | ⟨h6,rfl⟩⟩:=MN h1 h3
  ·exact h.tight k a b h5 h6 h4
  ·have hla:l.getLast? =some a:=by rw[List.getLast?_eq_getElem?,<-h5];congr 1;omega
   intro h7;simp only at h4 h7;exact hl a hla ⟨h7.symm,by omega⟩
 ·intro x hx
  rw[fw];rcases Qaa x n with hxn | hxn
  ·rw[h.step x hxn]
   split
   ·simp only[Option.none_or,Zg];rw[kaa (by omega)]
   ·rfl
  ·have:x=n:=by omega
   subst this;rw[Ot fun e he=>by have:=h.Sy e he;omega,Option.none_or,Zg,if_pos (by simp),ht,kaa h2]
theorem jN.next{row:List Int}{n:Nat}{l:List ae}(h:jN row n l):jN row (n+1) (ng n (row.getD n 0) l):=by
 obtain⟨to,ht⟩:∃ to,row.getD n 0=to:=⟨_,rfl⟩
 rw[ht];unfold ng
 by_cases h2:to= -2
 ·rw[if_pos h2]
  refine⟨fun e he=>by have:=h.Sy e he;exact⟨this.1,this.2.1,by omega,this.2.2.2⟩,h.ord,h.tight,?_⟩;intro x hx;rcases Qaa x n with hxn | hxn
  ·exact h.step x hxn
  ·have:x=n:=by omega
   subst this;rw[Ot fun e he=>by have:=h.Sy e he;omega,ht,if_pos h2]
 ·rw[kaa h2]
  cases hl:l.getLast? with
  |none=>exact h.push ht h2 fun e he=>by rw[hl] at he;cases he
  |some e=>
   by_cases hc:e.to=to/\e.hi=(n:Int) - 1
   ·simp only[hc,and_self,if_true]
    obtain⟨m,rfl⟩:=eJ hl;rw[List.dropLast_concat];have hr:=h.Sy e (by simp)
    have ho:=Yad.1 h.ord
    have E7:∀ a∈m,a.hi < e.lo:=fun a ha=>ho.2.2 a ha e (by simp)
    refine⟨?_,?_,?_,?_⟩
    ·intro x hx
     rcases Jaa.1 hx with hx | hx
     ·have:=h.Sy x (by simp[hx]);exact⟨this.1,this.2.1,by omega,this.2.2.2⟩
     ·simp at hx;subst hx;simp only;exact⟨hr.1,by omega,by omega,h2⟩
    ·rw[Yad]
     refine⟨ho.1,by simp,?_⟩;intro a ha b hb;simp at hb;subst hb;exact E7 a ha
    ·intro k a b h1 h3 h4
     obtain⟨h5,h6 | ⟨h6,rfl⟩⟩:=MN h1 h3
     ·have hk1:=(iaa.1 h6).1
      exact h.tight k a b (by rw[eaa (by omega)];exact h5) (by rw[eaa hk1];exact h6) h4
     ·have:=h.tight k a e (by rw[eaa (by omega)];exact h5) (by rw[Kaa (by omega),h6];simp) h4
      rw[hc.1] at this;exact this
    ·intro x hx
     rw[fw];rcases Qaa x n with hxn | hxn
     ·rw[<- h.step x hxn,fw]
      congr 1
      simp only[Zg,hc.1]
      by_cases h3:e.lo<=(x:Int)
      ·rw[if_pos ⟨h3,by omega⟩,if_pos ⟨h3,by omega⟩]
      ·rw[kaa fun q=>h3 q.1,kaa fun q=>h3 q.1]
     ·have:x=n:=by omega
      subst this;rw[Ot fun a ha=>by have:=E7 a ha;omega,Option.none_or,Zg];simp only;rw[if_pos ⟨by omega,Lac _⟩,ht,kaa h2]
   ·simp only[hc,if_false]
    exact h.push ht h2 fun e' he'=>by rw[hl] at he';injection he' with he';subst he';exact hc
theorem dy(row:List Int):∀ (xs ys:List Nat)(l:List ae),Qe row (xs++ys) l=Qe row ys (Qe row xs l)
 | [],ys,l=>rfl
 |x::xs,ys,l=>by rw[bab,Qe,Qe,dy row xs]
theorem BJ(row:List Int):∀ n:Nat,jN row n (Qe row (List.range n) [])
 |0=>⟨by simp[Qe],by simp[Qe],by simp[Qe],by omega⟩
 |n+1=>by rw[gad,dy];exact (BJ row n).next
theorem tD(row:List Int):jN row 256 (wg row):=BJ row 256
def CD(m:Int)(l:List ae):Int:=l.foldl (fun m e=>if e.to=m then m+1 else m) m
theorem HD(m:Int)(l:List ae)(e:ae):CD m (l++[e])=if e.to=CD m l then CD m l+1 else CD m l:=by
 unfold CD;rw[Lad];rfl
def Zz:Int->List ae->Prop
 |_,[]=>True
 |m,e::l=>e.to<=m/\Zz (if e.to=m then m+1 else m) l
theorem Xv:∀ {m:Int}{l:List ae}{e:ae},Zz m (l++[e])↔Zz m l/\e.to<=CD m l
 |m,[],e=>by simp[Zz,CD]
 |m,a::l,e=>by show (a.to<=m/\Zz _ (l++[e]))↔_;rw[Xv];exact and_assoc.symm
theorem UI{row:List Int}{g:Nat->Int}(h0:∀ x,0<=g x):∀ n:Nat,(∀ x,x < n->row.getD x 0<=g x)->(∀ x,x < n->g (x+1)=if row.getD x 0=g x then g x+1 else g x)->
 CD (g 0) (Qe row (List.range n) [])=g n/\Zz (g 0) (Qe row (List.range n) [])/\(∀ e∈Qe row (List.range n) [],e.to < g n)
 |0,_,_=>⟨rfl,trivial,by simp[Qe]⟩
 |n+1,h1,h2=>by
  obtain⟨i1,i2,i3⟩:=UI h0 n (fun x hx=>h1 x (by omega)) (fun x hx=>h2 x (by omega));have hn:=h1 n (by omega);have hg:=h2 n (by omega);rw[gad,dy];generalize Qe row (List.range n) []=l at *;show CD (g 0) (ng n (row.getD n 0) l)=_/\Zz (g 0) (ng n (row.getD n 0) l)/\∀ e∈ng n (row.getD n 0) l,_;generalize row.getD n 0=to at *
  have qaf:CD (g 0) (l++[⟨n,n,to⟩])=g (n+1)/\Zz (g 0) (l++[⟨n,n,to⟩])/\(∀ e∈l++[⟨n,n,to⟩],e.to < g (n+1)):=by
   refine⟨by rw[HD,i1,hg],Xv.2 ⟨i2,by rw[i1];exact hn⟩,?_⟩;intro e he;rcases Jaa.1 he with he | he
   ·have:=i3 e he;rw[hg];split <;> omega
   ·simp at he;subst he;simp only;rw[hg];split <;> omega
  unfold ng
  by_cases h3:to= -2
  ·have:=h0 n
   rw[if_pos h3,hg,kaa (by omega)];exact⟨i1,i2,i3⟩
  ·rw[kaa h3]
   cases hl:l.getLast? with
   |none=>exact qaf
   |some e=>
    simp only
    split
    ·next hc=>
     obtain⟨m,rfl⟩:=eJ hl;have h4:=i3 e (by simp);rw[List.dropLast_concat,hg,kaa (by omega)];rw[HD] at i1;rw[Xv] at i2;refine⟨by rw[HD];exact i1,Xv.2 i2,?_⟩;intro x hx;rcases Jaa.1 hx with hx | hx
     ·exact i3 x (by simp[hx])
     ·simp at hx;subst hx;exact h4
    ·exact qaf
def Qw(g:Nat->Int)(e:ae):Nat->Int:=fun b=>if e.lo<=(b:Int)/\(b:Int)<=e.hi then e.to else g b
theorem NJ{b:Nat}:∀ (l:List ae)(g:Nat->Int),l.Pairwise (fun a c=>a.hi < c.lo)->l.foldl Qw g b=(Zg (b:Int) l).getD (g b)
 | [],g,_=>rfl
 |e::l,g,h=>by
  rw[Sad] at h;rw[uad,NJ l _ h.2,Zg]
  by_cases hc:e.lo<=(b:Int)/\(b:Int)<=e.hi
  ·rw[if_pos hc]
   have:Zg (b:Int) l=none:=by
    cases hs:Zg (b:Int) l with
    |none=>rfl
    |some t=>
     obtain⟨x,hx,h1,h2,_⟩:=Ky hs;have:=h.1 x hx
     omega
   rw[this];show Qw g e b=e.to
   unfold Qw;rw[if_pos hc]
  ·rw[kaa hc]
   have:Qw g e b=g b:=by unfold Qw;rw[kaa hc]
   rw[this]
def Dl(l:List ae)(b:Nat):Int:=(Zg (b:Int) l).getD (-2)
structure yj(l:List ae):Prop where
 Sy:∀ e∈l,0<=e.lo/\e.lo<=e.hi/\e.hi < 256/\ -1<=e.to/\e.to<=64
 ord:l.Pairwise (fun a b=>a.hi < b.lo)
def b8(g:Nat->Int):ba:= .box (cellsOf 256 fun b=> .pv (.int .i8 (g b)))
theorem bA{n:Nat}{g g':Nat->AV}(h:∀ b,b < n->g b=g' b):cellsOf n g=cellsOf n g':=by
 unfold cellsOf;exact iac fun b hb=>h b (Oac.1 hb)
theorem Lu{g g':Nat->Int}(h:∀ b,b < 256->g b=g' b):b8 g=b8 g':=by
 unfold b8;rw[bA fun b hb=>by rw[h b hb]]
theorem S3(g:Nat->Int)(n:Nat):qa n (b8 g)=some (b8 g):=by
 have:=Bs n ((List.range 256).map fun b=>PV.int .i8 (g b));rw[jad] at this;exact this
theorem Vg{H:List ba}{id:Nat}{c:List AV}(h:H[id]? =some (.box c))(d o:Nat):place H d (.ptr id o)=some (.ptr id (o+d)):=by simp only[place,h]
theorem tM{H:List ba}{id:Nat}{g:Nat->Int}(h:H[id]? =some (b8 g))(d:Nat):place H d (.ptr id 0)=some (.ptr id d):=by
 rw[Vg h,Zaa]
theorem RM{H:List ba}{id i:Nat}{g:Nat->Int}(h:H[id]? =some (b8 g))(hi:i < 256)(v:Int):Ha H 1 (.ptr id i) (.pv (.int .i8 v))=some (H.set id (b8 fun b=>if b=i then v else g b)):=by
 have e:cellsOf 256 (Ux (fun b=>AV.pv (.int .i8 (g b))) i (.pv (.int .i8 v)))=cellsOf 256 (fun b=> .pv (.int .i8 (if b=i then v else g b))):=by refine bA fun b _=> ?_;unfold Ux;split <;> rfl
 simp only[Ha,AV.cells,PV.cells,lab,Oad,Oaa,pab,wac,AV.one,List.all_nil,fae,and_self,if_true,h,b8,Yg];rw[if_pos (by omega)];simp only[fa,nE,e]
theorem C1{n:Int}(h0: -128<=n)(h1:n<=127):IntKind.i8.wrap n=n:=by
 unfold IntKind.wrap
 simp[IntKind.signed,IntKind.bits];omega
section
variable {call:Sa}{A:List ba}(hA:Wd A)
include hA
theorem oC(g:Nat->Int){n:Nat}(hn:A.length<=n):∀ o∈A++[b8 g],qa n o=some o:=by
 intro o ho;rcases Jaa.1 ho with h | h
 ·exact hA n hn o h
 ·rw[Hab] at h;subst h;exact S3 g n
theorem EW{E:Tr}{tb:Nat}{L S:PV}{x y:PV}{g0:Nat->Int}(htb:tb < A.length)(h8:E.get 8= .ptr tb 0)(h12:E.get 12= .pv L)(h13:E.get 13= .ptr A.length 0)(h101:E.get 101= .pv S)(h102:E.get 102= .pv x)(h103:E.get 103= .pv y)(h108:E.get 108= .pv (i64 0)):
 qd (fun r=>r.1.stop=true/\∃ E',r=(.exit 4,⟨E',A++[b8 fun _=> -2]⟩)/\∀ t∈[8,12,13,101,102,103],E'.get t=E.get t)
  (oa call (.loop [8,12,13,101,102,103,108] Ek) ⟨E,A++[b8 g0]⟩):=by
 have C7:∀ t∈[8,12,13,101,102,103],(E.get t).cut (A.length+1) deep=some (E.get t):=by intro t ht;simp only[Xaa,hac,or_false] at ht;rcases ht with rfl | rfl | rfl | rfl | rfl | rfl <;> simp only[h8,h12,h13,h101,h102,h103,Qa] <;> exact Kw (by omega)
 refine Hr (fun i t=>(∀ u∈[8,12,13,101,102,103],t.env.get u=E.get u)/\t.env.get 108= .pv (i64 i)/\t.H=A++[b8 fun b=>if b < i then -2 else g0 b]) 256 (by unfold ua;omega) ?_ ?_ ?_
 ·refine Th.all rfl (by rw[raa];exact oC hA g0 (by simp)) ?_ fun E' hE=>⟨fun u hu=>hE u (by simp at hu ⊢;omega),by rw[hE 108 (by simp),h108];rfl,by simp⟩
  intro t ht;rw[raa]
  by_cases h:t=108
  ·subst h;rw[h108,Qa]
  ·exact C7 t (by simp at ht ⊢;omega)
 ·rintro i ⟨E1,H1⟩ hi ⟨k1,k2,k3⟩
  simp only at k1 k2 k3;subst k3;have g13:=k1 13 (by simp);rw[h13] at g13;have e1:decide ((i:Int) < 256)=true:=Ea (by omega);have t1:IntKind.i64.wrap ((i:Int)+1)=((i+1:Nat):Int):=sg (by omega)
  have hg:=Fk A (b8 fun b=>if b < i then -2 else g0 b);have p1:=tM hg i;have s1:=RM hg hi (-2);rw[Up] at s1;have H7:(i < 256)=True:=Iaa hi;have hc:b8 (fun b=>if b=i then -2 else if b < i then -2 else g0 b)=b8 (fun b=>if b < i+1 then -2 else g0 b):=Lu fun b _=>by
   by_cases h1:b=i
   ·rw[if_pos h1,if_pos (by omega)]
   ·rw[kaa h1]
    by_cases h2:b < i
    ·rw[if_pos h2,if_pos (by omega)]
    ·rw[kaa h2,kaa (by omega)]
  rw[hc] at s1;generalize hQ:RQ _ _ _ _=Q;simp -implicitDefEqProofs only[SX,sevalprocAttr,Ek,k2,g13,e1,t1,H7,p1,s1];subst hQ;rw[Un];refine Th.all (by simp) (by rw[raa];exact oC hA _ (by simp)) ?_ fun E' hE=>⟨fun u hu=> ?_,?_,rfl⟩
  ·intro t ht
   rw[raa]
   by_cases h:t=108
   ·subst h;simp[Tr.aa,Qa]
   ·have hm:t∈[8,12,13,101,102,103]:=by simp at ht ⊢;omega
    have:=k1 t hm;have h2:=C7 t hm;simp only[Xaa,hac,or_false] at hm;rcases hm with rfl | rfl | rfl | rfl | rfl | rfl <;> simp only[Tr.aa] <;> simp only[this] <;> simpa using h2
  ·rw[hE u (by simp at hu ⊢;omega),<-k1 u hu]
   simp only[Xaa,hac,or_false] at hu;rcases hu with rfl | rfl | rfl | rfl | rfl | rfl <;> simp[Tr.aa]
  ·rw[hE 108 (by simp)];simp[Tr.aa]
 ·rintro⟨E1,H1⟩ ⟨k1,k2,k3⟩
  simp only at k1 k2 k3;subst k3;have e1:decide (((256:Nat):Int) < 256)=false:=Ga (by omega);generalize hQ:(fun r:Ex×St=>r.1.stop=true/\_)=Q;simp -implicitDefEqProofs only[SX,sevalprocAttr,Ek,k2,e1];subst hQ;rw[Lu (g':=fun _=> -2) fun b hb=>if_pos hb];refine⟨rfl,_,rfl,fun t ht=> ?_⟩
  ·rw[<- k1 t ht]
   simp only[Xaa,hac,or_false] at ht;rcases ht with rfl | rfl | rfl | rfl | rfl | rfl <;> simp[Tr.aa]
def wC(e:ae):ba:= .box [.pv (i64 e.lo),.pv (i64 e.hi),.pv (i64 e.to)]
omit hA in
theorem kZ(e:ae)(n:Nat):qa n (wC e)=some (wC e):=Bs n [i64 e.lo,i64 e.hi,i64 e.to]
theorem P1{E:Tr}{tb:Nat}{L S:PV}{x y u v:PV}{g0:Nat->Int}{e:ae}(he:0<=e.lo/\e.lo<=e.hi/\e.hi < 256/\ -1<=e.to/\e.to<=64)(htb:tb < A.length)(h8:E.get 8= .ptr tb 0)(h13:E.get 13= .ptr A.length 0)(h16:E.get 16= .ptr (A.length+1) 0)(h17:E.get 17= .pv (i64 e.lo))
 (h101:E.get 101= .pv S) (h102:E.get 102= .pv x) (h103:E.get 103= .pv y) (h114:E.get 114= .pv L) (h115:E.get 115= .pv u) (h116:E.get 116= .pv v):
 qd (fun r=>r.1.stop=true/\∃ E',r=(.exit 8,⟨E',(A++[b8 (Qw g0 e)])++[wC e]⟩)/\∀ t∈[8,13,101,102,103,114,115,116],E'.get t=E.get t)
  (oa call (.loop [8,13,16,17,101,102,103,114,115,116] qk) ⟨E,(A++[b8 g0])++[wC e]⟩):=by
 have C7:∀ t∈[8,13,16,101,102,103,114,115,116],(E.get t).cut (A.length+2) deep=some (E.get t):=by intro t ht;simp only[Xaa,hac,or_false] at ht;rcases ht with rfl | rfl | rfl | rfl | rfl | rfl | rfl | rfl | rfl <;> simp only[h8,h13,h16,h101,h102,h103,h114,h115,h116,Qa] <;> exact Kw (by omega)
 have gac:∀ g,∀ o∈(A++[b8 g])++[wC e],qa (A.length+2) o=some o:=by
  intro g o ho;rcases Jaa.1 ho with h | h
  ·exact oC hA g (by omega) o h
  ·rw[Hab] at h;subst h;exact kZ e _
 have hlen:∀ g,((A++[b8 g])++[wC e]).length=A.length+2:=fun g=>by simp
 refine Hr (fun i t=>(∀ u∈[8,13,16,101,102,103,114,115,116],t.env.get u=E.get u)/\t.env.get 17= .pv (i64 (e.lo+i))/\t.H=(A++[b8 fun b=>if e.lo<=(b:Int)/\(b:Int) < e.lo+i then e.to else g0 b])++[wC e]) (e.hi - e.lo+1).toNat (by unfold ua;omega) ?_ ?_ ?_
 ·refine Th.all rfl (by rw[hlen];exact gac g0) ?_ fun E' hE=>⟨fun u hu=>hE u (by simp at hu ⊢;omega),by rw[hE 17 (by simp),h17];simp,?_⟩
  ·intro t ht
   rw[hlen]
   by_cases h:t=17
   ·subst h;rw[h17,Qa]
   ·exact C7 t (by simp at ht ⊢;omega)
  ·show _=_
   rw[Lu (g:=fun b=>if e.lo<=(b:Int)/\(b:Int) < e.lo+((0:Nat):Int) then e.to else g0 b) (g':=g0) fun b _=>kaa (by omega)]
 ·rintro i ⟨E1,H1⟩ hi ⟨k1,k2,k3⟩
  simp only at k1 k2 k3;subst k3;have g13:=k1 13 (by simp);rw[h13] at g13;have g16:=k1 16 (by simp);rw[h16] at g16;have e1:decide (e.lo+(i:Int)<=e.hi)=true:=Ea (by omega);have t1:IntKind.i64.wrap (e.lo+(i:Int)+1)=e.lo+((i+1:Nat):Int):=by rw[Aa (by omega)];omega
  have t2:IntKind.i8.wrap e.to=e.to:=C1 (by omega) (by omega)
  generalize hgi:(fun b:Nat=>if e.lo<=(b:Int)/\(b:Int) < e.lo+i then e.to else g0 b)=gi;have hg:((A++[b8 gi])++[wC e])[A.length]? =some (b8 gi):=by rw[eaa (by simp)];exact Fk _ _
  have hg2:((A++[b8 gi])++[wC e])[A.length+1]? =some (wC e):=by have:=Fk (A++[b8 gi]) (wC e);rw[raa] at this;exact this
  have p1:=tM hg (e.lo+(i:Int)).toNat
  have p2:=fun d=>Vg hg2 d 0;have l1:pa ((A++[b8 gi])++[wC e]) false 1 (.ptr (A.length+1) 1)=some (.pv (i64 e.hi)):=by simp only[pa,hg2];rfl
  have l2:pa ((A++[b8 gi])++[wC e]) false 1 (.ptr (A.length+1) 2)=some (.pv (i64 e.to)):=by simp only[pa,hg2];rfl
  have s1:=RM hg (i:=(e.lo+(i:Int)).toNat) (by omega) e.to
  have J8:((A++[b8 gi])++[wC e]).set A.length (b8 fun b=>if b=(e.lo+(i:Int)).toNat then e.to else gi b)=(A++[b8 fun b=>if e.lo<=(b:Int)/\(b:Int) < e.lo+((i+1:Nat):Int) then e.to else g0 b])++[wC e]:=by
   rw[Cac _ _ (by simp),Up]
   congr 3
   refine Lu fun b _=> ?_;subst hgi
   by_cases h1:b=(e.lo+(i:Int)).toNat
   ·rw[if_pos h1,if_pos (by omega)]
   ·rw[kaa h1]
    dsimp only
    by_cases h2:e.lo<=(b:Int)/\(b:Int) < e.lo+i
    ·rw[if_pos h2,if_pos (by omega)]
    ·rw[kaa h2,kaa (by omega)]
  rw[J8] at s1;have H7:(0<=e.lo+(i:Int)/\e.lo+(i:Int) < ((256:Nat):Int))=True:=Iaa (by omega);generalize (A++[b8 gi])++[wC e]=HH at *;generalize hQ:RQ _ _ _ _=Q;simp -implicitDefEqProofs only[SX,sevalprocAttr,qk,k2,g13,g16,e1,t1,t2,H7,p1,p2,l1,l2,s1];subst hQ;rw[Un];refine Th.all (by simp) (by rw[hlen];exact gac _) ?_ fun E' hE=>⟨fun u hu=> ?_,?_,rfl⟩
  ·intro t ht
   rw[hlen]
   by_cases h:t=17
   ·subst h;simp[Tr.aa,Qa]
   ·have hm:t∈[8,13,16,101,102,103,114,115,116]:=by simp at ht ⊢;omega
    have:=k1 t hm;have h2:=C7 t hm;simp only[Xaa,hac,or_false] at hm;rcases hm with rfl | rfl | rfl | rfl | rfl | rfl | rfl | rfl | rfl <;> simp only[Tr.aa] <;> simp only[this] <;> simpa using h2
  ·rw[hE u (by simp at hu ⊢;omega),<-k1 u hu]
   simp only[Xaa,hac,or_false] at hu;rcases hu with rfl | rfl | rfl | rfl | rfl | rfl | rfl | rfl | rfl <;> simp[Tr.aa]
  ·rw[hE 17 (by simp)];simp[Tr.aa]
 ·rintro⟨E1,H1⟩ ⟨k1,k2,k3⟩
  simp only at k1 k2 k3;subst k3;have g16:=k1 16 (by simp);rw[h16] at g16;rw[show e.lo+((e.hi - e.lo+1).toNat:Int)=e.hi+1 by omega] at k2;have e1:decide (e.hi+1<=e.hi)=false:=Ga (by omega);have hb:b8 (fun b:Nat=>if e.lo<=(b:Int)/\(b:Int) < e.lo+((e.hi - e.lo+1).toNat:Int) then e.to else g0 b)=b8 (Qw g0 e):=Lu fun b _=>by
   unfold Qw
   by_cases h:e.lo<=(b:Int)/\(b:Int)<=e.hi
   ·rw[if_pos h,if_pos (by omega)]
   ·rw[kaa h,kaa (by omega)]
  rw[hb];have hg2:((A++[b8 (Qw g0 e)])++[wC e])[A.length+1]? =some (wC e):=by have:=Fk (A++[b8 (Qw g0 e)]) (wC e);rw[raa] at this;exact this
  have p2:=fun d=>Vg hg2 d 0;have l1:pa ((A++[b8 (Qw g0 e)])++[wC e]) false 1 (.ptr (A.length+1) 1)=some (.pv (i64 e.hi)):=by simp only[pa,hg2];rfl
  generalize (A++[b8 (Qw g0 e)])++[wC e]=HH at *;generalize hQ:(fun r:Ex×St=>r.1.stop=true/\_)=Q;simp -implicitDefEqProofs only[SX,sevalprocAttr,qk,k2,g16,e1,p2,l1];subst hQ;refine⟨rfl,_,rfl,fun t ht=> ?_⟩
  ·rw[<- k1 t (by simp at ht ⊢;omega)]
   simp only[Xaa,hac,or_false] at ht;rcases ht with rfl | rfl | rfl | rfl | rfl | rfl | rfl | rfl <;> simp[Tr.aa]
end
section
variable {call:Sa}{A:List ba}(hA:Wd A)
include hA
theorem AX{E:Tr}{tb:Nat}{L S:PV}{x y:PV}{es:List ae}(Ba:yj es)(hL:Vh 3 L (es.map TH))(hlen:es.length<=256)(htb:tb < A.length)(h8:E.get 8= .ptr tb 0)(h13:E.get 13= .ptr A.length 0)
 (h101:E.get 101= .pv S) (h102:E.get 102= .pv x) (h103:E.get 103= .pv y) (h114:E.get 114= .pv L) (h115:E.get 115= .pv (i64 es.length)) (h116:E.get 116= .pv (i64 0)):
 qd (fun r=>r.1.stop=true/\∃ E',r=(.exit 6,⟨E',A++[b8 (Dl es)]⟩)/\∀ t∈[8,13,101,102,103],E'.get t=E.get t)
  (oa call (.loop [8,13,101,102,103,114,115,116] Bk) ⟨E,A++[b8 fun _=> -2]⟩):=by
 have C7:Fit (A.length+1) [8,13,101,102,103,114,115] E:=
  .cons h8 (Kw (by omega)) (.cons h13 (Kw (by omega)) (.cons h101 Qa (.cons h102 Qa (.cons h103 Qa (.cons h114 Qa (.cons h115 Qa (.nil _ _)))))))
 refine Hr (fun i t=>Xe [8,13,101,102,103,114,115] E t.env/\t.env.get 116= .pv (i64 i)/\t.H=A++[b8 ((es.take i).foldl Qw fun _=> -2)]) es.length (by unfold ua;omega) ?_ ?_ ?_
 ·rw[raa]
  exact Th.all (by simp) (oC hA _ (by simp)) (Fit.sub (.cons h116 Qa C7) rfl) fun E' hE=>⟨Xe.sub hE rfl,by rw[hE 116 (by simp),h116];rfl,rfl⟩
 ·rintro i ⟨E1,H1⟩ hi ⟨k1,k2,k3⟩
  simp only at k1 k2 k3;subst k3;have g8:=k1 8 (by simp);rw[h8] at g8;have g13:=k1 13 (by simp);rw[h13] at g13;have gai:=k1 101 (by simp);rw[h101] at gai;have uae:=k1 102 (by simp);rw[h102] at uae;have hai:=k1 103 (by simp);rw[h103] at hai;have oag:=k1 114 (by simp);rw[h114] at oag;have Aac:=k1 115 (by simp);rw[h115] at Aac;have hle:=hL.lit (i:=i) (by simpa using hi)
  have hea:=Ba.Sy es[i] (jaa hi)
  have o8:(es.take (i+1)).foldl Qw (fun _=> -2)=Qw ((es.take i).foldl Qw fun _=> -2) es[i]:=by rw[List.take_succ_eq_append_getElem hi,Lad];rfl
  have a1:ta (A++[b8 ((es.take i).foldl Qw fun _=> -2)]) 3 (.pv L) (i:Int)=some (.pv (.rp [i64 es[i].lo,i64 es[i].hi,i64 es[i].to] 0)):=by rw[hle];simp only[ta];rw[if_pos ⟨trivial,by unfold Ia;rw[haa];omega⟩,Daa,Eaa,aaa hi];rfl
  rw[o8];generalize (es.take i).foldl Qw (fun _=> -2)=g0 at *
  generalize es[i]=e at *;have e1:decide ((i:Int) < (es.length:Int))=true:=Ea (by omega);have t1:IntKind.i64.wrap ((i:Int)+1)=((i+1:Nat):Int):=sg (by omega)
  have r3:∀ H (x y z:PV),pa H true 3 (.pv (.rp [x,y,z] 0))=some (.pv (.agg [x,y,z])):=fun H x y z=>rfl;have hln:(A++[b8 g0]).length=A.length+1:=by simp
  have s1:Ha ((A++[b8 g0])++[.box [.pv (i64 0),.pv (i64 0),.pv (i64 0)]]) 3 (.ptr (A.length+1) 0) (.pv (.agg [i64 e.lo,i64 e.hi,i64 e.to]))=some ((A++[b8 g0])++[wC e]):=by have:=Up (A++[b8 g0]) (.box [.pv (i64 0),.pv (i64 0),.pv (i64 0)]) (wC e);have hg:=Fk (A++[b8 g0]) (.box [.pv (i64 0),.pv (i64 0),.pv (i64 0)]);rw[hln] at this hg;simp only[Ha,hg];rw[if_pos (by simp[AV.cells,PV.cells,AV.one]),if_pos (by simp)];rw[<- this];rfl
  have hg2:((A++[b8 g0])++[wC e])[A.length+1]? =some (wC e):=by have:=Fk (A++[b8 g0]) (wC e);rw[hln] at this;exact this
  have p2:=fun d=>Vg hg2 d 0;have l0:pa ((A++[b8 g0])++[wC e]) false 1 (.ptr (A.length+1) 0)=some (.pv (i64 e.lo)):=by simp only[pa,hg2];rfl
  have hed:=fun (E2:Tr)(q8:E2.get 8= .ptr tb 0)(q13:E2.get 13= .ptr A.length 0)(q16:E2.get 16= .ptr (A.length+1) 0)(q17:E2.get 17= .pv (i64 e.lo))(Mab:E2.get 101= .pv S)(Nab:E2.get 102= .pv x)(Oab:E2.get 103= .pv y)(Pab:E2.get 114= .pv L)(Qab:E2.get 115= .pv (i64 es.length))(gab:E2.get 116= .pv (i64 i))=>
   P1 (call:=call) hA (g0:=g0) hea htb q8 q13 q16 q17 Mab Nab Oab Pab Qab gab
  generalize hHH:(A++[b8 g0])++[wC e]=HH at *;generalize hHK:(A++[b8 g0])++[ba.box [.pv (i64 0),.pv (i64 0),.pv (i64 0)]]=HK at *;generalize hQ:RQ _ _ _ _=Q;simp -implicitDefEqProofs only[SX,sevalprocAttr,Bk,k2,oag,Aac,e1,a1,r3,hln,hHK,s1,p2,l0];generalize W7:(Tr.set _ 17 _:Tr)=E2;have q8:E2.get 8= .ptr tb 0:=by rw[<- W7];simp[Tr.aa,g8]
  have q13:E2.get 13= .ptr A.length 0:=by rw[<- W7];simp[Tr.aa,g13]
  have q16:E2.get 16= .ptr (A.length+1) 0:=by rw[<- W7];simp[Tr.aa]
  have q17:E2.get 17= .pv (i64 e.lo):=by rw[<- W7];simp[Tr.aa]
  have Mab:E2.get 101= .pv S:=by rw[<- W7];simp[Tr.aa,gai]
  have Nab:E2.get 102= .pv x:=by rw[<- W7];simp[Tr.aa,uae]
  have Oab:E2.get 103= .pv y:=by rw[<- W7];simp[Tr.aa,hai]
  have Pab:E2.get 114= .pv L:=by rw[<- W7];simp[Tr.aa,oag]
  have Qab:E2.get 115= .pv (i64 es.length):=by rw[<- W7];simp[Tr.aa,Aac]
  have gab:E2.get 116= .pv (i64 i):=by rw[<- W7];simp[Tr.aa,k2]
  refine wa (hed E2 q8 q13 q16 q17 Mab Nab Oab Pab Qab gab) ?_;rintro r ⟨_,E3,rfl,hE3⟩;have z116:=hE3 116 (by simp);rw[gab] at z116;have kE:Xe [8,13,101,102,103,114,115] E E3:=by
   refine Xe.trans ?_ (Xe.sub hE3 rfl)
   rw[<- W7]
   repeat refine Xe.set ?_ rfl
   exact k1
  simp -implicitDefEqProofs only[SX,sevalprocAttr,z116,t1];subst hQ;rw[Un];have kF:∀ v w,Xe [8,13,101,102,103,114,115] E ((E3.set 133 v).set 116 w):=fun v w=>Xe.set (Xe.set kE rfl) rfl
  rw[raa];exact Th.front (by simp) (oC hA _ (by simp)) (Fit.sub (.cons (t:=116) (by rw[Tr.aa,if_pos rfl]) Qa (C7.je (kF _ _))) rfl) fun E' hE=>⟨(kF _ _).trans (Xe.sub hE rfl),by rw[hE 116 (by simp),Tr.aa,if_pos rfl],rfl⟩
 ·rintro⟨E1,H1⟩ ⟨k1,k2,k3⟩
  simp only at k1 k2 k3;subst k3;have Aac:=k1 115 (by simp);rw[h115] at Aac;have e1:decide ((es.length:Int) < (es.length:Int))=false:=Ga (by omega);rw[sab,Lu (g:=es.foldl Qw fun _=> -2) (g':=Dl es) fun b _=>NJ es _ Ba.ord];generalize hQ:(fun r:Ex×St=>r.1.stop=true/\_)=Q;simp -implicitDefEqProofs only[SX,sevalprocAttr,Bk,k2,Aac,e1];subst hQ;exact⟨rfl,_,rfl,Xe.set (Xe.sub k1 rfl) rfl⟩
end
theorem HU{v:PV}{l:List (Int×Int)}(h:gq v l):∃ w,ud [v]=some w/\Vh 2 w (de l)/\(l≠[]->w= .lit 2 (de l)):=by
 rcases h.is with⟨rfl,hl⟩ | rfl
 ·refine⟨.ga,?_,.inl ⟨rfl,hl⟩,fun J7=>absurd (by simpa[de] using hl) J7⟩
  simp -implicitDefEqProofs only[ud,SP,SA,SQ,WP,WQ,sevalprocAttr,Ue]
 ·refine⟨.lit 2 (de l),?_,.inr rfl,fun _=>rfl⟩
  have hr:eb (de l).length 16:=by have:=h.sz;unfold eb;simp;omega
  generalize de l=es at *;simp -implicitDefEqProofs only[ud,SP,SA,SQ,WP,WQ,sevalprocAttr,Ue,Iaa hr]
abbrev WM(S P:PV)(n i m j:Int):Tr:=((((((((Tr.lf.set 22 (.pv (i64 j))).set 21 (.pv (i64 m))).set 20 (.pv P)).set 12 (.pv (i64 i))).set 11 (.pv (i64 n))).set 10 (.pv S)).set 6 (.ptr 4 0)).set 3 (.ptr 1 0)).set 2 (.ptr 0 0)
abbrev cS(S:PV)(n i:Int):Tr:=((((Tr.lf.set 12 (.pv (i64 i))).set 11 (.pv (i64 n))).set 10 (.pv S)).set 3 (.ptr 1 0)).set 2 (.ptr 0 0)
abbrev J5(out:List PV)(nl:Bool):List ba:=[.box [.pv .ga],.box [.uq 2 nl 2 out],.tok 2 out.length nl]
abbrev oK(out:List PV)(nl:Bool)(P:PV)(f:Int)(ps:List PV)(x9:Bool):List ba:=[.box [.pv .ga],.box [.uq 2 nl 2 out],.tok 2 out.length nl,.box [.pv P,.pv (i64 f)],.box [.uq 5 x9 1 ps,.pv (i64 f)],.tok 1 ps.length x9]
theorem MP{P S:PV}{ls:List (List (Int×Int))}{ps:List PV}(hP:zf P ls ps)(Ba:∀ l∈ls,l≠[])(h8:ls.length<=8)(out:List PV)(nl:Bool)(f n i:Int):
 ∃ E x9,ab (ma (oa (Da (fun _=>none) 8) Ki) (na 6 [2,3,6,10,11,12,20,21,22])) ua ⟨WM S P n i ls.length 0,oK out nl P f [] true⟩=
  some (.exit 2,⟨E,oK out nl P f (ls.map Oe) x9⟩)/\(x9=true->ls=[])/\E.get 2= .ptr 0 0/\E.get 3= .ptr 1 0/\E.get 6= .ptr 4 0/\E.get 10= .pv S/\E.get 11= .pv (i64 n)/\E.get 12= .pv (i64 i):=by
 have key:=Fb (g:=ma (oa (Da (fun _=>none) 8) Ki) (na 6 [2,3,6,10,11,12,20,21,22]))
  (fun j t=>∃ x9,t=⟨WM S P n i ls.length j,oK out nl P f ((ls.take j).map Oe) x9⟩/\(x9=true->j=0))
  (Q:=fun r=>∃ E x9,r=(.exit 2,⟨E,oK out nl P f (ls.map Oe) x9⟩)/\(x9=true->ls=[])/\E.get 2= .ptr 0 0/\E.get 3= .ptr 1 0/\E.get 6= .ptr 4 0/\E.get 10= .pv S/\E.get 11= .pv (i64 n)/\E.get 12= .pv (i64 i))
  ls.length (by unfold ua;omega) ⟨WM S P n i ls.length (0:Nat),oK out nl P f [] true⟩ ⟨true,rfl,fun _=>rfl⟩ ?_ ?_
 ·obtain⟨r,h1,_,E,x9,rfl,h2⟩:=wc key
  exact⟨E,x9,h1,h2⟩
 ·rintro j t hj ⟨x9,rfl,j8⟩
  obtain⟨v,hv,Y8,_⟩:=hP.Pd hj []
  have a1:=hP.Ry hv
  obtain⟨w,P7,_,hw⟩:=HU Y8;have hw:=hw (Ba _ (jaa hj));subst hw;have o8:(ls.take (j+1)).map Oe=(ls.take j).map Oe++[.lit 2 (de ls[j])]:=by rw[List.take_succ_eq_append_getElem hj,jac];rfl
  have X7:((ls.take j).map Oe).length=j:=by simp;omega
  generalize ls[j]=l at *;have e1:decide ((j:Int) < (ls.length:Int))=true:=Ea (by omega);have t2:=Za hj (by unfold maxLen;omega);have r1:∀ H (x:PV),pa H false 1 (.pv (.rp [x] 0))=some (.pv x):=fun H x=>rfl;have s8:=Mh (A:=oK out nl P f ((ls.take j).map Oe) x9) (id:=5) (n:=j) (h:= .uq) (ag:=false) (nl:=x9) (sz:=1) (bytes:=24) (es:=(ls.take j).map Oe) (by show some (ba.tok 1 ((ls.take j).map Oe).length x9)=_;rw[X7]) X7.symm (by unfold eb;omega) (.lit 2 (de l))
  have C8:((ls.take j).map Oe++[PV.lit 2 (de l)]).length=j+1:=by rw[raa,X7];rfl
  have Rab:Cb (oK out nl P f ((ls.take j).map Oe) x9) false .uq 1 false 24 (.uq 5 x9 1 ((ls.take j).map Oe)) (.pv (.lit 1 [.lit 2 (de l)]))=some (.uq 5 false 1 ((ls.take j).map Oe++[.lit 2 (de l)]),[.box [.pv .ga],.box [.uq 2 nl 2 out],.tok 2 out.length nl,.box [.pv P,.pv (i64 f)],.box [.uq 5 x9 1 ((ls.take j).map Oe),.pv (i64 f)],.tok 1 (j+1) false]):=s8
  unfold oK at Rab ⊢;rw[X7] at Rab ⊢;have p0:∀ (x:AV)(y z:ba),place [.box [.pv .ga],.box [.uq 2 nl 2 out],y,.box [.pv P,.pv (i64 f)],.box [x,.pv (i64 f)],z] 0 (.ptr 4 0)=some (.ptr 4 0):=fun x y z=>rfl;have l0:∀ (x:AV)(y z:ba),pa [.box [.pv .ga],.box [.uq 2 nl 2 out],y,.box [.pv P,.pv (i64 f)],.box [x,.pv (i64 f)],z] false 1 (.ptr 4 0)=some x:=fun x y z=>rfl;have s0:∀ (x:AV)(y z:ba)(es:List PV),Ha [.box [.pv .ga],.box [.uq 2 nl 2 out],y,.box [.pv P,.pv (i64 f)],.box [x,.pv (i64 f)],z] 1 (.ptr 4 0) (.uq 5 false 1 es)=some [.box [.pv .ga],.box [.uq 2 nl 2 out],y,.box [.pv P,.pv (i64 f)],.box [.uq 5 false 1 es,.pv (i64 f)],z]:=fun x y z es=>rfl;generalize hp0:(ls.take j).map Oe=ps0 at *
  generalize hL:PV.lit 2 (de l)=L at *
  have hL1:(AV.pv L).cells=[.pv L]/\(AV.pv L).one=true:=by rw[<- hL];exact⟨rfl,rfl⟩
  have b5:(5 < 6)=True:=by simp
  have b4:(4 < 6)=True:=by simp
  have b2:(2 < 6)=True:=by simp
  have b1:(1 < 6)=True:=by simp
  have b0:(0 < 6)=True:=by simp
  have hLc:L.cells=[L]:=by rw[<- hL];rfl
  generalize hQ:LN _ _ j=Q;subst hL;simp -implicitDefEqProofs only[SP,WP,fa,sevalprocAttr,Ki,e1,t2,a1,r1,p0,l0,s0,P7,Rab,b0,b1,b2,b4,b5,na,Ca,AV.cut,qa,Ra,za,WM];subst hQ;refine⟨false,?_,by simp⟩;rw[o8,C8]
 ·rintro t ⟨x9,rfl,j8⟩
  rw[sab];have e1:decide ((ls.length:Int) < (ls.length:Int))=false:=Ga (by omega);generalize hQ:(fun r:Ex×St=>r.1.stop=true/\_)=Q;simp -implicitDefEqProofs only[SX,sevalprocAttr,Ki,e1,WM];subst hQ;exact⟨rfl,_,x9,rfl,fun h=>qaa (j8 h),by simp[Tr.aa],by simp[Tr.aa],by simp[Tr.aa],by simp[Tr.aa],by simp[Tr.aa],by simp[Tr.aa]⟩
theorem bH{S:PV}{ss:List Nb}{es:List PV}(hS:qb S ss es)(Ba:Xb ss):∃ S',Mj [.agg [S]]=some (.agg [S'])/\Vh 2 S' (ss.map uf):=by
 have lS:=hS.Tb
 have h32:=Ba.len
 have E9:(AV.pv S).one=true:=by rcases hS.is with⟨h,_⟩ | h <;> rw[h] <;> rfl
 have D7:qd (fun r=>∃ E nl,r=(.exit 0,⟨E,J5 (ss.map uf) nl⟩)/\(nl=true->ss=[])/\E.get 2= .ptr 0 0/\E.get 3= .ptr 1 0)
  (ab (ma (oa (Da (fun _=>none) 8) Hi) (na 3 [2,3,10,11,12])) ua ⟨cS S ss.length 0,J5 [] true⟩):=by
  refine wa (Fb (g:=ma (oa (Da (fun _=>none) 8) Hi) (na 3 [2,3,10,11,12]))
   (fun i t=>∃ nl,t=⟨cS S ss.length i,J5 ((ss.take i).map uf) nl⟩/\(nl=true->i=0))
   (Q:=fun r=>∃ E nl,r=(.exit 0,⟨E,J5 (ss.map uf) nl⟩)/\(nl=true->ss=[])/\E.get 2= .ptr 0 0/\E.get 3= .ptr 1 0)
   ss.length (by unfold ua;omega) _ ⟨true,rfl,fun _=>rfl⟩ ?_ ?_) (fun r h=>h.2)
  ·rintro i t hi ⟨nl,rfl,j8⟩
   obtain⟨P,ps,hPs,a1⟩:=hS.Pd hi
   have ok:=Ba.dt _ (jaa hi)
   obtain⟨I8,hP2⟩:=hPs.Qz
   have lP:=hPs.parts.Tb
   have o8:(ss.take (i+1)).map uf=(ss.take i).map uf++[uf ss[i]]:=by rw[List.take_succ_eq_append_getElem hi,jac];rfl
   have X7:((ss.take i).map uf).length=i:=by simp;omega
   obtain⟨E,x9,b9,Vak,g2,g3,g6,g10,g11,g12⟩:=MP (S:=S) hPs.parts (fun l hl=>(ok.parts l hl).1) ok.hi ((ss.take i).map uf) nl ss[i].first ss.length i
   have jai:x9=false:=by
    cases x9 with
    |false=>rfl
    |true=>have:=Vak rfl;have h2:=ok.lo;rw[this] at h2;simp at h2
   subst jai;have hes:uf ss[i]= .agg [.lit 1 (ss[i].parts.map Oe),i64 ss[i].first]:=rfl
   rw[hes] at o8;generalize ss[i]=p at *;have e1:decide ((i:Int) < (ss.length:Int))=true:=Ea (by omega);have t2:=Za hi (by unfold maxLen;omega);have a2:∀ H,pa H true 2 (.pv (.rp [P,i64 p.first] 0))=some (.pv (.agg [P,i64 p.first])):=fun H=>rfl;generalize (ss.take i).map uf=out at *
   generalize p.parts.map Oe=pp at *
   subst X7;unfold oK at b9;unfold J5;have o9:(out++[PV.agg [.lit 1 pp,i64 p.first]]).length=out.length+1:=by simp
   have s8:∀ (T:List ba),Cb ([.box [.pv .ga],.box [.uq 2 nl 2 out],.tok 2 out.length nl]++T) false .uq 2 true 32 (.uq 2 nl 2 out) (.pv (.lit 2 [.agg [.lit 1 pp,i64 p.first]]))=some (.uq 2 false 2 (out++[.agg [.lit 1 pp,i64 p.first]]),[.box [.pv .ga],.box [.uq 2 nl 2 out],.tok 2 (out.length+1) false]++T):=fun T=>
    Mh (A:=[.box [.pv .ga],.box [.uq 2 nl 2 out],.tok 2 out.length nl]++T) (id:=2) (n:=out.length) (h:= .uq) (ag:=true) (nl:=nl) (sz:=2) (bytes:=32) (es:=out) rfl rfl (by unfold eb;omega) _
   have vae:=fun a b c=>s8 [a,b,c];simp only[bab,Yaa] at vae;have s1:∀ T:List ba,Ha ([.box [.pv .ga],.box [.uq 2 nl 2 out],.tok 2 out.length nl,.box [.pv .ga,.pv (i64 0)]]) 2 (.ptr 3 0) (.pv (.agg [P,i64 p.first]))=some [.box [.pv .ga],.box [.uq 2 nl 2 out],.tok 2 out.length nl,.box [.pv P,.pv (i64 p.first)]]:=fun T=>
    Gp _ _ _ _ I8 rfl [.box [.pv .ga],.box [.uq 2 nl 2 out],.tok 2 out.length nl] _ rfl
   have s1':=s1 [];have b5:(5 < 6)=True:=by simp
   have b4:(4 < 6)=True:=by simp
   have b2:(2 < 6)=True:=by simp
   have b1:(1 < 6)=True:=by simp
   have b0:(0 < 6)=True:=by simp
   have c2:(2 < 3)=True:=by simp
   have c1:(1 < 3)=True:=by simp
   have c0:(0 < 3)=True:=by simp
   have hz:(0 < 1)=True:=by simp
   generalize hQ:LN _ _ out.length=Q
   have yad:ab (ma (oa (Da (fun _=>none) 8) Ki) (na 6 [2,3,6,10,11,12,20,21,22])) ua ⟨((((((((Tr.lf.set 22 (.pv (.int .i64 0))).set 21 (.pv (i64 p.parts.length))).set 20 (.pv P)).set 12 (.pv (i64 out.length))).set 11 (.pv (i64 ss.length))).set 10 (.pv S)).set 6 (.ptr 4 0)).set 3 (.ptr 1 0)).set 2 (.ptr 0 0),[.box [.pv .ga],.box [.uq 2 nl 2 out],.tok 2 out.length nl,.box [.pv P,.pv (i64 p.first)],.box [.uq 5 true 1 [],.pv (i64 p.first)],.tok 1 0 true]⟩=_:=b9;simp -implicitDefEqProofs only[SP,SA,SQ,sevalprocAttr,ma,Hi,Db,e1,a1,a2,s1',I8,lP,fe,hz,b0,b1,b2,b4,b5,na,Ca,AV.cut,qa,Qa,Ra,za,cS];rw[yad];simp -implicitDefEqProofs only[SP,SQ,WP,WQ,↓reduceIte,reduceCtorEq,Nat.reduceAdd,Nat.reduceMul,Nat.reduceLeDiff,Nat.reduceEqDiff,Int.reduceLT,Int.reduceLE,Int.reduceBEq,Int.reduceEq,Nat.reduceBEq,Nat.reduceLT,Nat.reduceSub,g2,g3,g6,g10,g11,g12,vae,t2,c0,c1,c2,na,Ca,AV.cut,qa,Ra,za];subst hQ;exact⟨false,by rw[o8,o9],by simp⟩
  ·rintro t ⟨nl,rfl,j8⟩
   rw[sab];have e1:decide ((ss.length:Int) < (ss.length:Int))=false:=Ga (by omega);generalize hQ:(fun r:Ex×St=>r.1.stop=true/\_)=Q;simp -implicitDefEqProofs only[SX,sevalprocAttr,Hi,e1,cS];subst hQ;exact⟨rfl,_,nl,rfl,fun h=>qaa (j8 h),by simp[Tr.aa],by simp[Tr.aa]⟩
 obtain⟨r,h1,E,nl,rfl,j8,g2,g3⟩:=wc D7;have D9:ab (ma (oa (Da (fun _=>none) 8) Hi) (na 3 [2,3,10,11,12])) ua ⟨((((Tr.lf.set 12 (.pv (.int .i64 0))).set 11 (.pv (i64 ss.length))).set 10 (.pv S)).set 3 (.ptr 1 0)).set 2 (.ptr 0 0),[.box [.pv .ga],.box [.uq 2 true 2 []],.tok 2 0 true]⟩=_:=h1;have hz:(0 < 2)=True:=by simp
 have c2:(2 < 3)=True:=by simp
 have c1:(1 < 3)=True:=by simp
 have c0:(0 < 3)=True:=by simp
 have D8:nl=true->ss.map uf=[]:=fun h=>by rw[j8 h];rfl
 generalize ss.map uf=out at *
 cases nl with
 |true=>
  refine⟨.ga,?_,.inl ⟨rfl,?_⟩⟩
  ·simp -implicitDefEqProofs only[Mj,SP,SA,SQ,sevalprocAttr,ma,Wp,Db,E9,aC,lS,fe,hz,c0,c1,c2,na,Ca,AV.cut,qa,Qa,Ra,za,D9,g2,g3]
  ·exact D8 rfl
 |false=>refine⟨.lit 2 out,?_,.inr rfl⟩;simp -implicitDefEqProofs only[Mj,SP,SA,SQ,sevalprocAttr,ma,Wp,Db,E9,aC,lS,fe,hz,c0,c1,c2,na,Ca,AV.cut,qa,Qa,Ra,za,D9,g2,g3]
theorem Xb.ne{ss:List Nb}(h:Xb ss):∀ s∈ss,0 < s.parts.length:=fun s hs=>(h.dt s hs).lo
theorem qb.G6{S:PV}{ss:List Nb}{es:List PV}(h:qb S ss es):∀ s∈ss,∀ l∈s.parts,l.length * 16<=140737488355328:=by
 intro s hs l hl;obtain⟨i,hi,rfl⟩:=qab hs;obtain⟨e,P,ps,_,_,hp⟩:=h.get hi
 obtain⟨j,hj,rfl⟩:=qab hl;obtain⟨v,_,_,hv⟩:=hp.parts.get hj
 exact hv.sz
theorem nj{S:PV}{ss:List Nb}{es:List PV}(hS:qb S ss es):
 (¬ Xb ss->Ec [.agg [S]]=some (.mc [.agg [.ga],i64 84]))/\
 (Xb ss->¬Gf ss->Ec [.agg [S]]=some (.mc [.agg [.ga],i64 110]))/\
 (Xb ss->Gf ss->jg ss=none->Ec [.agg [S]]=some (.mc [.agg [.ga],i64 130]))/\
 (Xb ss->Gf ss->∀ l,jg ss=some l->Ec [.agg [S]]=some (.mc [.agg [Nk l],i64 0])):=by
 have hS0:S= .ga\/∃ l,S= .lit 2 l:=by
  rcases hS.is with⟨h,_⟩ | h
  ·exact .inl h
  ·exact .inr ⟨_,h⟩
 have hp:=FG hS;refine⟨?_,?_,?_,?_⟩
 ·intro h
  exact kU S hS0 (by decide) (hp.1 h)
 ·intro h1 h2
  obtain⟨y,a,b,h3,h4⟩:=hp.2 h1
  have hy:y=false:=by cases y with | false=>rfl | true=>exact absurd (h4.1 rfl) h2
  subst hy;exact bX S hS0 h3
 ·intro h1 h2 h5
  obtain⟨y,a,b,h3,h4⟩:=hp.2 h1
  have hy:=h4.2 h2
  subst hy;obtain⟨S',hc,hs⟩:=bH hS h1;exact EP S S' ss hS0 h3 hc hs h1.len hS.G6 h1.ne h5
 ·intro h1 h2 l h5
  obtain⟨y,a,b,h3,h4⟩:=hp.2 h1
  have hy:=h4.2 h2
  subst hy;obtain⟨S',hc,hs⟩:=bH hS h1;exact CX S S' ss hS0 h3 hc hs h1.len hS.G6 h1.ne h5
abbrev Hb(es:List PV):ba:= .box (es.map .pv)
theorem Vj{A:List ba}{id:Nat}{es:List PV}(hg:A[id]? =some (Hb es))(o d:Nat):place A d (.ptr id o)=some (.ptr id (o+d)):=by
 simp only[place,hg]
theorem rF{A:List ba}{id:Nat}{es:List PV}(hg:A[id]? =some (Hb es)){k:Nat}{e:PV}(hk:es[k]? =some e):pa A false 1 (.ptr id k)=some (.pv e):=by
 simp only[pa,hg,Kh,saa,if_false,Eaa,hk,Haa]
theorem wz{A:List ba}{id:Nat}{es:List PV}(hg:A[id]? =some (Hb es)){k:Nat}(hk:k < es.length){e:PV}(hc:e.cells=[e])(h1:(AV.pv e).one=true):Ha A 1 (.ptr id k) (.pv e)=some (A.set id (Hb (es.set k e))):=by
 have X9:(AV.pv e).cells=[.pv e]:=by simp[AV.cells,hc]
 simp only[Ha,hg,X9];rw[if_pos ⟨rfl,by simp[h1]⟩,if_pos (by simp;omega),fa,fa];show _=some (A.set id (.box ((es.set k e).map .pv)));rw[qae]
theorem Qf:∀ (es:List PV),Tc (es.map .pv)=some es
 | []=>rfl
 |e::es=>by rw[lab,Tc,Qf es];rfl
theorem bn{A:List ba}{id n:Nat}{es:List PV}(hg:A[id]? =some (Hb es))(hn:es.length=n):pa A true n (.ptr id 0)=some (.pv (.agg es)):=by
 simp only[pa,hg,Kh,if_true];rw[if_pos (by simp;omega)];have:List.take n (List.drop 0 (es.map AV.pv))=es.map AV.pv:=by rw[xac,Saa (by simp;omega)]
 rw[this,Hu,Qf]
theorem Tw{α:Type}:∀ (vs cs pre:List α),cs.length=vs.length->fa (pre++cs) pre.length vs=pre++vs
 | [],cs,pre,h=>by cases cs with | nil=>rfl | cons=>simp at h
 |v::vs,cs,pre,h=>by
  cases cs with
  |nil=>simp at h
  |cons c cs=>
   have:(pre++c::cs).set pre.length v=(pre++[v])++cs:=by simp
   rw[fa,this];have h2:=Tw vs cs (pre++[v]) (by simpa using h);simp only[raa,dad] at h2;rw[h2];simp
theorem Ir{A:List ba}{id n:Nat}{es fs:List PV}(hg:A[id]? =some (Hb es))(hn:es.length=n)(hf:fs.length=n)(h1:∀ e∈fs,(AV.pv e).one=true):Ha A n (.ptr id 0) (.pv (.agg fs))=some (A.set id (Hb fs)):=by
 have X9:(AV.pv (.agg fs)).cells=fs.map .pv:=rfl
 simp only[Ha,hg,X9];rw[if_pos ⟨by simp[hf],by rw[Taa];intro v hv;obtain⟨e,he,rfl⟩:=fab.1 hv;exact h1 e he⟩,if_pos (by simp;omega)];have:=Tw (fs.map AV.pv) (es.map AV.pv) [] (by simp;omega);simp only[Yaa,pab] at this;rw[this]
theorem xh(es:List PV)(n:Nat):qa n (Hb es)=some (Hb es):=by
 have:Ra (AV.cut n deep) (es.map AV.pv)=some (es.map AV.pv):=by
  refine Bm ?_;intro v hv;obtain⟨e,_,rfl⟩:=fab.1 hv
  exact Qa
 simp only[qa,this,Haa]
def Mw(l:List (Int×Int))(i:Nat):Int:=match i with
 |0=> -2
 |k+1=>match l[k]? with | some p=>p.2 | none=> -2
abbrev GB(v:PV)(i:Int):Tr:=(Tr.lf.set 3 (.pv (i64 i))).set 0 (.pv v)
theorem rA{v:PV}{l:List (Int×Int)}(hv:Vh 2 v (de l))(hw:l.length * 16<=140737488355328):Gg [v]=some (.bool (Pa 255 (-2) l)):=by
 have D7:qd (fun r=>∃ E,(r=(.exit 0,⟨E,[]⟩)/\Pa 255 (-2) l=true)\/(r=(.ret,⟨E,[]⟩)/\E.get 2= .pv (.bool false)/\Pa 255 (-2) l=false))
  (ab (ma (oa (Da (fun _=>none) 8) Ob) (na 0 [0,3])) ua ⟨GB v 0,[]⟩):=by
  refine wa (Fb (g:=ma (oa (Da (fun _=>none) 8) Ob) (na 0 [0,3]))
   (fun i t=>t=⟨GB v i,[]⟩/\ -2<=Mw l i/\Mw l i<=255/\Pa 255 (-2) l=Pa 255 (Mw l i) (l.drop i))
   l.length (by unfold ua;omega) _ ⟨rfl,Lac _,by show (-2:Int)<=255;decide,rfl⟩ ?_ ?_) (fun r h=>h.2)
  ·rintro i t hi ⟨rfl,hlz,hla,hs⟩
   have hl:=hv.lit (i:=i) (by simpa using hi)
   subst hl;have hd:l.drop i=l[i]::l.drop (i+1):=Paa hi
   have U7:Mw l (i+1)=l[i].2:=by simp[Mw,hi]
   have a1:=um [] hi;have kai:0 < i->∃ a b,Mw l i=b/\IntKind.i64.wrap ((i:Int) - 1)=((i - 1:Nat):Int)/\ta [] 2 (.pv (.lit 2 (de l))) ((i - 1:Nat):Int)=some (.pv (.rp [i64 a,i64 b] 0)):=by
    intro h0;have hi1:i - 1 < l.length:=by omega
    refine⟨l[i - 1].1,l[i - 1].2,?_,?_,um [] hi1⟩
    ·obtain⟨k,rfl⟩:∃ k,i=k+1:=⟨i - 1,by omega⟩
     simp[Mw,show k < l.length by omega]
    ·rw[show (i:Int) - 1=((i - 1:Nat):Int) by omega]
     exact Aa (by omega)
   have e1:decide ((i:Int) < (l.length:Int))=true:=Ea (by omega);have t2:=Za hi (by unfold maxLen;omega);have ln:=Vh.len (sz:=2) (v:= .lit 2 (de l)) (es:=de l) (.inr rfl) []
   have lp:(de l).length=l.length:=by simp[de]
   rw[lp] at ln;rw[hd,Pa] at hs;have l0:∀ a b:PV,pa [] false 1 (.pv (.rp [a,b] 0))=some (.pv a):=fun a b=>rfl;have l1:∀ a b:PV,pa [] false 1 (.pv (.rp [a,b] 1))=some (.pv b):=fun a b=>rfl;have p0:∀ a b:PV,place [] 0 (.pv (.rp [a,b] 0))=some (.pv (.rp [a,b] 0)):=fun a b=>rfl;have p1:∀ a b:PV,place [] 1 (.pv (.rp [a,b] 0))=some (.pv (.rp [a,b] 1)):=fun a b=>rfl;generalize l[i]=p at *;generalize hV:Pa 255 p.2 (l.drop (i+1))=V at *
   generalize de l=es at *;generalize hQ:LN _ _ i=Q
   by_cases c1:p.1 < 0
   ·have d1:=Ea c1
    simp -implicitDefEqProofs only[SX,sevalprocAttr,-List.reduceReplicate,Ob,e1,ln,a1,l0,l1,p0,p1,d1,GB];subst hQ;rw[d1] at hs;exact⟨_,.inr ⟨rfl,by simp[Tr.aa],by simpa using hs⟩⟩
   have d1:=Ga c1
   by_cases c2:p.1 > p.2
   ·have d2:=Ea c2
    simp -implicitDefEqProofs only[SX,sevalprocAttr,-List.reduceReplicate,Ob,e1,ln,a1,l0,l1,p0,p1,d1,d2,GB];subst hQ;rw[d2] at hs;exact⟨_,.inr ⟨rfl,by simp[Tr.aa],by simpa using hs⟩⟩
   have d2:=Ga c2
   by_cases c3:p.2 > 255
   ·have d3:=Ea c3
    simp -implicitDefEqProofs only[SX,sevalprocAttr,-List.reduceReplicate,Ob,e1,ln,a1,l0,l1,p0,p1,d1,d2,d3,GB];subst hQ;rw[d3] at hs;exact⟨_,.inr ⟨rfl,by simp[Tr.aa],by simpa using hs⟩⟩
   have d3:=Ga c3;have hs3:∀ b,decide (p.1 - 1<=Mw l i)=b->Pa 255 (-2) l=(!b&&V):=by intro b hb;rw[hs,d1,d2,d3,hb];simp
   by_cases h0:0 < i
   ·obtain⟨a,b,hb,t3,a2⟩:=kai h0
    have e0:decide ((i:Int) > 0)=true:=Ea (by omega);rw[hb] at hla hlz hs3;have t5:IntKind.i64.wrap (b+1)=b+1:=Aa (by omega)
    by_cases c4:p.1<=b+1
    ·have d4:=Ea c4
     have F8:Pa 255 (-2) l=false:=by rw[hs3 true (Ea (by omega))];rfl
     simp -implicitDefEqProofs only[SX,sevalprocAttr,-List.reduceReplicate,Ob,e1,ln,a1,l0,l1,p0,p1,d1,d2,d3,e0,t3,t5,a2,d4,GB];subst hQ;exact⟨_,.inr ⟨rfl,by simp[Tr.aa],F8⟩⟩
    ·have d4:=Ga c4
     simp -implicitDefEqProofs only[SX,sevalprocAttr,-List.reduceReplicate,Ob,e1,ln,a1,l0,l1,p0,p1,d1,d2,d3,e0,t2,t3,t5,a2,d4,na,Ca,AV.cut,za,GB];subst hQ;refine⟨rfl,by omega,by omega,?_⟩;rw[U7,hV,hs3 false (Ga (by omega))];rfl
   ·have e0:decide ((i:Int) > 0)=false:=Ga (by omega)
    have hi0:Mw l i= -2:=by
     have:i=0:=by omega
     subst this;rfl
    simp -implicitDefEqProofs only[SX,sevalprocAttr,-List.reduceReplicate,Ob,e1,ln,a1,l0,l1,p0,p1,d1,d2,d3,e0,t2,na,Ca,AV.cut,za,GB];subst hQ;refine⟨rfl,by omega,by omega,?_⟩;rw[U7,hV,hs3 false (Ga (by omega))];rfl
  ·rintro t ⟨rfl,hlz,hla,hs⟩
   rw[vab,Pa] at hs;have ln:=hv.len []
   rw[show (de l).length=l.length by simp[de]] at ln;have e1:decide ((l.length:Int) < (l.length:Int))=false:=Ga (by omega);generalize hQ:(fun r:Ex×St=>r.1.stop=true/\_)=Q;simp -implicitDefEqProofs only[SX,sevalprocAttr,-List.reduceReplicate,Ob,e1,ln,GB];subst hQ;exact⟨rfl,_,.inl ⟨rfl,hs⟩⟩
 apply Xk;simp -implicitDefEqProofs only[Gg,SX,sevalprocAttr,-List.reduceReplicate,Dk,Db,na,Ca,AV.cut,za];refine wa D7 ?_;rintro _ ⟨E,⟨rfl,hb⟩ | ⟨rfl,hE,hb⟩⟩
 ·simp -implicitDefEqProofs only[SX,sevalprocAttr,-List.reduceReplicate,hb]
 ·simp -implicitDefEqProofs only[SX,sevalprocAttr,-List.reduceReplicate,hE,hb]
def xg(f:Nat->Bool):List PV:=(List.range 256).map fun x=> .bool (f x)
theorem Mp(f:Nat->Bool):(xg f).length=256:=by simp[xg]
theorem nS(f:Nat->Bool){x:Nat}(h:x < 256):(xg f)[x]? =some (.bool (f x)):=by simp[xg,h]
theorem YO(f:Nat->Bool){x:Nat}(h:x < (xg f).length):(xg f)[x]= .bool (f x):=by
 simp only[xg,kae,Tad]
theorem wZ(f:Nat->Bool){x:Nat}(h:x < 256)(b:Bool):(xg f).set x (.bool b)=xg fun y=>if y=x then b else f y:=by
 apply Aad
 ·rw[qac,Mp,Mp]
 ·intro j h1 h2
  rw[Lae,YO,YO]
  by_cases hj:x=j
  ·subst hj;rw[if_pos rfl,if_pos rfl]
  ·rw[kaa hj,kaa (lac hj)]
theorem jv{f g:Nat->Bool}(h:∀ x,x < 256->f x=g x):xg f=xg g:=by
 unfold xg;apply iac;intro x hx;rw[h x (by simpa using hx)]
theorem SC:List.replicate 256 (PV.bool false)=xg fun _=>false:=by
 apply Aad
 ·rw[Xab,Mp]
 ·intro j h1 h2;rw[List.getElem_replicate,YO]
theorem mS(f:Nat->Bool):∀ e∈xg f,(AV.pv e).one=true:=by
 intro e he;obtain⟨x,_,rfl⟩:=fab.1 he
 rfl
def Wx(l:List (Int×Int))(x:Nat):Bool:=l.any fun p=>decide (p.1<=(x:Int))&&decide ((x:Int)<=p.2)
theorem Yw{l:List (Int×Int)}{x:Nat}:Wx l x=true↔Kk (x:Int) l:=by
 unfold Wx Kk;simp
abbrev qS(v:PV)(i y:Int):Tr:=((((Tr.lf.set 5 (.pv (i64 y))).set 4 (.pv (i64 i))).set 3 (.ptr 1 0)).set 2 (.ptr 0 0)).set 0 (.pv v)
abbrev tE(v:PV)(i:Int):Tr:=(((Tr.lf.set 4 (.pv (i64 i))).set 3 (.ptr 1 0)).set 2 (.ptr 0 0)).set 0 (.pv v)
theorem dI(call:Sa){v:PV}{l:List (Int×Int)}(hv:Vh 2 v (de l)){i:Nat}(hi:i < l.length)(hp:0<=l[i].1/\l[i].1<=l[i].2/\l[i].2<=255)(Z:List PV):
 qd (fun r=>∃ E,r=(.exit 2,⟨E,[Hb Z,Hb (xg (Wx (l.take (i+1))))]⟩)/\E.get 0= .pv v/\E.get 2= .ptr 0 0/\E.get 3= .ptr 1 0/\E.get 4= .pv (i64 i))
  (ab (ma (oa call Re) (na 2 [0,2,3,4,5])) ua ⟨qS v i l[i].1,[Hb Z,Hb (xg (Wx (l.take i)))]⟩):=by
 have hl:=hv.lit (i:=i) (by simpa using hi)
 subst hl;have a1:=fun A=>um A hi;have o8:∀ x,Wx (l.take (i+1)) x=(Wx (l.take i) x||(decide (l[i].1<=(x:Int))&&decide ((x:Int)<=l[i].2))):=by
  intro x;have:l.take (i+1)=l.take i++[l[i]]:=by simp
  rw[this];simp only[Wx,List.any_append,List.any_cons,List.any_nil,cae]
 have l1:∀ (A:List ba)(a b:PV),pa A false 1 (.pv (.rp [a,b] 1))=some (.pv b):=fun A a b=>rfl;have p1:∀ (A:List ba)(a b:PV),place A 1 (.pv (.rp [a,b] 0))=some (.pv (.rp [a,b] 1)):=fun A a b=>rfl;generalize l[i]=p at *;generalize hes:de l=es at *;generalize hf:Wx (l.take i)=f at *;have hlen:∀ f,(xg f).length=256:=Mp
 refine wa (Fb (g:=ma (oa call Re) (na 2 [0,2,3,4,5]))
  (fun k t=>t=⟨qS (.lit 2 es) i (p.1+k),[Hb Z,Hb (xg fun x=>f x||(decide (p.1<=(x:Int))&&decide ((x:Int) < p.1+k)))]⟩)
  (p.2+1 - p.1).toNat (by unfold ua;omega) _ ?_ ?_ ?_) (fun r h=>h.2)
 ·have:(xg fun x=>f x||(decide (p.1<=(x:Int))&&decide ((x:Int) < p.1+(0:Nat))))=xg f:=by
   refine jv fun x hx=> ?_;have:(decide (p.1<=(x:Int))&&decide ((x:Int) < p.1+(0:Nat)))=false:=by
    rw[Bool.and_eq_false_iff]
    by_cases h:p.1<=(x:Int)
    ·exact .inr (Ga (by omega))
    ·exact .inl (Ga h)
   rw[this,cae]
  rw[this,show p.1+((0:Nat):Int)=p.1 by omega]
 ·rintro k t hk rfl
  obtain⟨y,hy⟩:∃ y:Nat,p.1+(k:Int)=y:=⟨(p.1+k).toNat,by omega⟩
  have lai:y < 256:=by omega
  have e1:decide ((y:Int)<=p.2)=true:=Ea (by omega);have hq:Ia (y:Int) 256:=by unfold Ia;omega
  have t1:((y:Int)).toNat=y:=by simp
  have m1:y * 1=y:=by omega
  have z1:0+y=y:=by omega
  have t2:IntKind.i64.wrap ((y:Int)+1)=((y+1:Nat):Int):=Aa (by omega)
  rw[hy];have P9:(xg fun x=>f x||(decide (p.1<=(x:Int))&&decide ((x:Int) < (y:Int)))).set y (.bool true)=xg fun x=>f x||(decide (p.1<=(x:Int))&&decide ((x:Int) < p.1+(k+1:Nat))):=by
   rw[wZ _ lai];refine jv fun x hx=> ?_
   by_cases hxy:x=y
   ·have h1:p.1<=(x:Int):=by omega
    have h2:(x:Int) < p.1+(k+1:Nat):=by omega
    rw[if_pos hxy,Ea h1,Ea h2];simp
   ·have:((x:Int) < (y:Int))=((x:Int) < p.1+(k+1:Nat)):=by apply propext;omega
    rw[kaa hxy];simp only[this]
  have hl1:=hlen fun x=>f x||(decide (p.1<=(x:Int))&&decide ((x:Int) < (y:Int)))
  generalize hT:(xg fun x=>f x||(decide (p.1<=(x:Int))&&decide ((x:Int) < (y:Int))))=T at *;have pl:=Vj (A:=[Hb Z,Hb T]) (id:=1) (es:=T) rfl 0 y;have st:=wz (A:=[Hb Z,Hb T]) (id:=1) (es:=T) rfl (k:=y) (by omega) (e:= .bool true) rfl rfl;rw[P9] at st;rw[z1] at pl;have st2:([Hb Z,Hb T]:List ba).set 1 (Hb (xg fun x=>f x||(decide (p.1<=(x:Int))&&decide ((x:Int) < p.1+(k+1:Nat)))))=[Hb Z,Hb (xg fun x=>f x||(decide (p.1<=(x:Int))&&decide ((x:Int) < p.1+(k+1:Nat))))]:=rfl
  rw[st2] at st;have c1:=xh Z 2;have c2:=xh (xg fun x=>f x||(decide (p.1<=(x:Int))&&decide ((x:Int) < p.1+(k+1:Nat)))) 2;have R7:p.1+((k+1:Nat):Int)=((y+1:Nat):Int):=by omega
  generalize hT':(xg fun x=>f x||(decide (p.1<=(x:Int))&&decide ((x:Int) < p.1+(k+1:Nat))))=T' at *;have P7:Ra (qa 2) [Hb Z,Hb T']=some [Hb Z,Hb T']:=by simp[Ra,c1,c2]
  have w9:([Hb Z,Hb T']:List ba).take 2=[Hb Z,Hb T']:=rfl
  generalize Hb Z=oz at *;generalize Hb T=ot at *;generalize hot:Hb T'=ot' at *;have d0:(0 < 2)=True:=by simp
  have d1:(1 < 2)=True:=by simp
  generalize hQ:LN _ _ k=Q;simp -implicitDefEqProofs only[SX,sevalprocAttr,-List.reduceReplicate,Re,e1,a1,l1,p1,Iaa hq,t1,m1,pl,st,t2,P7,w9,d0,d1,na,Ca,AV.cut,za,qS];subst hQ;show (_:St)=_;rw[hT',hot,R7]
 ·rintro t rfl
  have e1:decide (p.1+((p.2+1 - p.1).toNat:Int)<=p.2)=false:=Ga (by omega);have R7:(xg fun x=>f x||(decide (p.1<=(x:Int))&&decide ((x:Int) < p.1+((p.2+1 - p.1).toNat:Int))))=xg (Wx (l.take (i+1))):=by
   refine jv fun x hx=> ?_;have:((x:Int) < p.1+((p.2+1 - p.1).toNat:Int))=((x:Int)<=p.2):=by apply propext;omega
   rw[o8];simp only[this]
  rw[R7];generalize Hb (xg (Wx (l.take (i+1))))=ot;generalize Hb Z=oz;generalize hQ:(fun r:Ex×St=>r.1.stop=true/\_)=Q;simp -implicitDefEqProofs only[SX,sevalprocAttr,-List.reduceReplicate,Re,e1,a1,l1,p1,qS];subst hQ;exact⟨rfl,_,rfl,by simp[Tr.aa],by simp[Tr.aa],by simp[Tr.aa],by simp[Tr.aa]⟩
theorem Jo{l:List (Int×Int)}{last:Int}(h:Pa 255 last l=true):∀ p∈l,0<=p.1/\p.1<=p.2/\p.2<=255:=by
 induction l generalizing last with
 |nil=>intro p hp;cases hp
 |cons q l ih=>
  simp only[Pa,baa,oac,Gad,decide_eq_false_iff_not] at h;intro p hp;rcases Xaa.1 hp with rfl | hp
  ·omega
  ·exact ih h.2 p hp
def mj(l:List (Int×Int))(x:Nat):Bool:=Pa 255 (-2) l&&Wx l x
theorem Dy{v:PV}{l:List (Int×Int)}(hv:Vh 2 v (de l))(hw:l.length * 16<=140737488355328):Hd [v]=some (.agg (xg (mj l))):=by
 have hvr:=rA hv hw;have hz:([]++[ba.box (List.map AV.pv (List.replicate 256 (PV.bool false)))]++[ba.box (List.map AV.pv (List.replicate 256 (PV.bool false)))]:List ba)=[Hb (xg fun _=>false),Hb (xg fun _=>false)]:=by rw[SC];rfl
 have hz1:ba.box (List.map AV.pv (List.replicate 256 (PV.bool false)))=Hb (xg fun _=>false):=by rw[SC]
 have S7:∀ f,pa [Hb (xg fun _=>false),Hb (xg f)] true 256 (.ptr 1 0)=some (.pv (.agg (xg f))):=fun f=>bn (id:=1) rfl (Mp f);have Y7:∀ f,Ha [Hb (xg fun _=>false),Hb (xg f)] 256 (.ptr 0 0) (.pv (.agg (xg f)))=some [Hb (xg f),Hb (xg f)]:=fun f=>Ir (id:=0) rfl (Mp _) (Mp f) (mS f);have S9:∀ f,pa [Hb (xg f),Hb (xg f)] true 256 (.ptr 0 0)=some (.pv (.agg (xg f))):=fun f=>bn (id:=0) rfl (Mp f)
 by_cases Ba:Pa 255 (-2) l=true
 ·rw[Ba] at hvr
  have R7:xg (mj l)=xg (Wx l):=jv fun x _=>by rw[mj,Ba,oab]
  rw[R7];have hpc:=Jo Ba;have D7:qd (fun r=>∃ E,r=(.exit 0,⟨E,[Hb (xg fun _=>false),Hb (xg (Wx l))]⟩)/\E.get 2= .ptr 0 0/\E.get 3= .ptr 1 0)
   (ab (ma (oa (Da (fun _=>none) 8) Se) (na 2 [0,2,3,4])) ua ⟨tE v 0,[Hb (xg fun _=>false),Hb (xg fun _=>false)]⟩):=by
   refine wa (Fb (g:=ma (oa (Da (fun _=>none) 8) Se) (na 2 [0,2,3,4]))
    (fun i t=>t=⟨tE v i,[Hb (xg fun _=>false),Hb (xg (Wx (l.take i)))]⟩)
    l.length (by unfold ua;omega) _ rfl ?_ ?_) (fun r h=>h.2)
   ·rintro i t hi rfl
    have b9:=dI (Da (fun _=>none) 8) hv hi (hpc _ (jaa hi)) (xg fun _=>false);have a1:=fun A=>um A hi;have ln:=hv.len
    have hl:=hv.lit (i:=i) (by simpa using hi)
    subst hl;have lp:(de l).length=l.length:=by simp[de]
    simp only[lp] at ln;have l0:∀ (A:List ba)(a b:PV),pa A false 1 (.pv (.rp [a,b] 0))=some (.pv a):=fun A a b=>rfl;have p0:∀ (A:List ba)(a b:PV),place A 0 (.pv (.rp [a,b] 0))=some (.pv (.rp [a,b] 0)):=fun A a b=>rfl;have e1:decide ((i:Int) < (l.length:Int))=true:=Ea (by omega);have t2:=Za hi (by unfold maxLen;omega);have P7:∀ f g,Ra (qa 2) [Hb (xg f),Hb (xg g)]=some [Hb (xg f),Hb (xg g)]:=fun f g=>by have c1:=xh (xg f) 2;have c2:=xh (xg g) 2;simp only[Ra,c1,c2,yaa,Haa]
    have Wak:=P7 (fun _=>false) (Wx (l.take i));have uaa:=P7 (fun _=>false) (Wx (l.take (i+1)));have w9:∀ a b:ba,([a,b]:List ba).take 2=[a,b]:=fun a b=>rfl
    generalize l[i]=p at *;generalize hes:de l=es at *;have hI:⟨tE (.lit 2 es) (i+1:Nat),[Hb (xg fun _=>false),Hb (xg (Wx (l.take (i+1))))]⟩=(⟨tE (.lit 2 es) (i+1:Nat),[Hb (xg fun _=>false),Hb (xg (Wx (l.take (i+1))))]⟩:St):=rfl;have Q8:∀ s:St,s=⟨tE (.lit 2 es) (i+1:Nat),[Hb (xg fun _=>false),Hb (xg (Wx (l.take (i+1))))]⟩->LN (fun i t=>t=⟨tE (.lit 2 es) i,[Hb (xg fun _=>false),Hb (xg (Wx (l.take i)))]⟩) (fun r=>∃ E,r=(.exit 0,⟨E,[Hb (xg fun _=>false),Hb (xg (Wx l))]⟩)/\E.get 2= .ptr 0 0/\E.get 3= .ptr 1 0) i (.norm,s):=fun s h=>h;generalize Hb (xg fun _=>false)=oz at *;generalize Hb (xg (Wx (l.take i)))=ot at *;generalize Hb (xg (Wx (l.take (i+1))))=ot' at *;have d0:(0 < 2)=True:=by simp
    have d1:(1 < 2)=True:=by simp
    generalize hQ:LN _ _ i=Q at Q8 ⊢;simp -implicitDefEqProofs only[SX,sevalprocAttr,-List.reduceReplicate,Se,Db,e1,ln,a1,l0,p0,Wak,w9,d0,d1,na,Ca,AV.cut,za,tE];refine wa b9 ?_;rintro r ⟨E,rfl,g0,g2,g3,g4⟩;simp -implicitDefEqProofs only[SX,sevalprocAttr,-List.reduceReplicate,g0,g2,g3,g4,t2,uaa,w9,d0,d1,na,Ca,AV.cut,za];exact Q8 _ rfl
   ·rintro t rfl
    rw[sab];have ln:=hv.len
    simp only[show (de l).length=l.length by simp[de]] at ln;have e1:decide ((l.length:Int) < (l.length:Int))=false:=Ga (by omega);generalize Hb (xg (Wx l))=ot;generalize Hb (xg fun _=>false)=oz;generalize hQ:(fun r:Ex×St=>r.1.stop=true/\_)=Q;simp -implicitDefEqProofs only[SX,sevalprocAttr,-List.reduceReplicate,Se,e1,ln,tE];subst hQ;exact⟨rfl,_,rfl,by simp[Tr.aa],by simp[Tr.aa]⟩
  have P7:Ra (qa 2) [Hb (xg fun _=>false),Hb (xg fun _=>false)]=some [Hb (xg fun _=>false),Hb (xg fun _=>false)]:=by have c1:=xh (xg fun _=>false) 2;simp only[Ra,c1,yaa,Haa]
  have w9:∀ a b:ba,([a,b]:List ba).take 2=[a,b]:=fun a b=>rfl
  have pag:=Y7 (Wx l);have Dad:=S7 (Wx l);have qag:=S9 (Wx l);have d0:(0 < 2)=True:=by simp
  have d1:(1 < 2)=True:=by simp
  generalize hzs:List.replicate 256 (PV.bool false)=zs at *
  generalize Hb (xg fun _=>false)=oz at *;generalize Hb (xg (Wx l))=ot at *;generalize xg (Wx l)=T at *;apply Xk;simp -implicitDefEqProofs only[Hd,SX,sevalprocAttr,-List.reduceReplicate,uh,hzs,hz1,Db,hvr,P7,w9,d0,d1,na,Ca,AV.cut,za];refine wa D7 ?_;rintro r ⟨E,rfl,g2,g3⟩;simp -implicitDefEqProofs only[SX,sevalprocAttr,-List.reduceReplicate,g2,g3,Dad,pag,qag]
 ·have T8:Pa 255 (-2) l=false:=by simpa using Ba
  rw[T8] at hvr;have R7:xg (mj l)=xg fun _=>false:=jv fun x _=>by rw[mj,T8,Iac]
  rw[R7];have pag:=Y7 fun _=>false;have Dad:=S7 fun _=>false;have qag:=S9 fun _=>false;generalize hzs:List.replicate 256 (PV.bool false)=zs at *
  generalize Hb (xg fun _=>false)=oz at *;generalize xg (fun _=>false)=T at *;apply Xk;simp -implicitDefEqProofs only[Hd,SX,sevalprocAttr,-List.reduceReplicate,uh,hzs,hz1,hvr,Dad,pag,qag]
def Ws(f:Nat->Bool)(n:Nat):Nat:=(List.range n).countP f
theorem DT(f:Nat->Bool):Ws f 0=0:=rfl
theorem mv(f:Nat->Bool)(n:Nat):Ws f (n+1)=Ws f n+if f n then 1 else 0:=by
 unfold Ws;rw[gad,List.countP_append];simp[List.countP_cons]
theorem fZ(f:Nat->Bool)(n:Nat):Ws f n<=n:=by
 have:=List.countP_le_length (p:=f) (l:=List.range n)
 simpa[Ws] using this
theorem u1{f g h:Nat->Bool}(n:Nat)(hf:∀ x,x < n->f x=(g x||h x))(hd:∀ x,x < n->g x=true->h x=true->False):Ws f n=Ws g n+Ws h n:=by
 induction n with
 |zero=>rfl
 |succ n ih=>rw[mv,mv,mv,ih (fun x hx=>hf x (by omega)) (fun x hx=>hd x (by omega)),hf n (by omega)];have:=hd n (by omega);cases h1:g n <;> cases h2:h n <;> simp_all <;> omega
theorem CZ(a b:Nat)(n:Nat):Ws (fun x=>decide (a<=x)&&decide (x < b)) n=min n b - min a (min n b):=by
 induction n with
 |zero=>simp[DT]
 |succ n ih=>
  rw[mv,ih]
  by_cases h:a<=n/\n < b
  ·rw[if_pos (by simp[h])];omega
  ·rw[kaa (by simpa using fun h1=>Nat.le_of_not_lt fun h2=>h ⟨h1,h2⟩)];omega
theorem DI:∀ (l:List (Int×Int))(last n:Int),Pa 255 last l=true->ib n l=n+Ws (Wx l) 256
 | [],_,n,_=>by
   have:Ws (Wx []) 256=0:=by unfold Ws;rw[List.countP_eq_zero];intro x _;simp[Wx]
   rw[this];simp[ib]
 |p::l,last,n,h=>by
  have hp:=Jo h p (by simp);have h2:=h;simp only[Pa,baa] at h2;rw[ib,DI l p.2 _ h2.2];have hor:Ws (Wx (p::l)) 256=Ws (fun x=>decide (p.1.toNat<=x)&&decide (x < (p.2+1).toNat)) 256+Ws (Wx l) 256:=by
   apply u1
   ·intro x _
    simp only[Wx,List.any_cons]
    congr 1
    congr 1 <;> (rw[decide_eq_decide];omega)
   ·intro x _ h3 h4
    have:=Sp h2.2 (Yw.1 h4)
    simp at h3;omega
  have hiv:=CZ p.1.toNat (p.2+1).toNat 256
  rw[hor,hiv];omega
def qR(l:List (Int×Int)):Nat:=Ws (mj l) 256
theorem nY{l:List (Int×Int)}(h:Pa 255 (-2) l=true):(qR l:Int)=ib 0 l:=by
 rw[DI l _ _ h];have:mj l=Wx l:=by funext x;rw[mj,h,oab]
 rw[qR,this];omega
abbrev VN(x n:Int):Tr:=((Tr.lf.set 5 (.pv (i64 x))).set 4 (.pv (i64 n))).set 3 (.ptr 0 0)
theorem nK{v:PV}{l:List (Int×Int)}(hv:Vh 2 v (de l))(hw:l.length * 16<=140737488355328):Yi [v]=some (i64 (qR l)):=by
 have hm:=Dy hv hw;unfold qR;generalize hf:mj l=f at *;have D7:qd (fun r=>∃ E H,r=(.exit 0,⟨E,H⟩)/\E.get 4= .pv (i64 (Ws f 256)))
  (ab (ma (oa (Da (fun _=>none) 8) Ke) (na 1 [3,4,5])) ua ⟨VN 0 0,[Hb (xg f)]⟩):=by
  refine wa (Fb (g:=ma (oa (Da (fun _=>none) 8) Ke) (na 1 [3,4,5]))
   (fun x t=>t=⟨VN x (Ws f x),[Hb (xg f)]⟩)
   256 (by unfold ua;omega) _ rfl ?_ ?_) (fun r h=>h.2)
  ·rintro x t hx rfl
   have e1:decide ((x:Int)<=255)=true:=Ea (by omega);have hq:Ia (x:Int) 256:=by unfold Ia;omega
   have t1:((x:Int)).toNat=x:=by simp
   have m1:x * 1=x:=by omega
   have z1:0+x=x:=by omega
   have t2:IntKind.i64.wrap ((x:Int)+1)=((x+1:Nat):Int):=Aa (by omega)
   have hle:=fZ f x;have t3:IntKind.i64.wrap ((Ws f x:Int)+1)=(Ws f x:Int)+1:=Aa (by omega)
   have pl:=Vj (A:=[Hb (xg f)]) (id:=0) (es:=xg f) rfl 0 x;rw[z1] at pl;have ld:=rF (A:=[Hb (xg f)]) (id:=0) (es:=xg f) rfl (nS f hx);have P7:Ra (qa 1) [Hb (xg f)]=some [Hb (xg f)]:=by simp only[Ra,xh,yaa,Haa]
   have o8:([Hb (xg f)]:List ba).take 1=[Hb (xg f)]:=rfl
   have d0:(0 < 1)=True:=by simp
   have hs:=mv f x;generalize hO:Hb (xg f)=O at *;generalize hQ:LN _ _ x=Q;cases hfx:f x with
   |true=>rw[hfx] at hs ld;simp -implicitDefEqProofs only[SX,sevalprocAttr,-List.reduceReplicate,Ke,e1,Iaa hq,t1,m1,pl,ld,t2,t3,P7,o8,d0,na,Ca,AV.cut,za,VN];subst hQ;show (_:St)=_;rw[hs];rfl
   |false=>rw[hfx] at hs ld;simp -implicitDefEqProofs only[SX,sevalprocAttr,-List.reduceReplicate,Ke,e1,Iaa hq,t1,m1,pl,ld,t2,P7,o8,d0,na,Ca,AV.cut,za,VN];subst hQ;show (_:St)=_;rw[hs];rfl
  ·rintro t rfl
   have e1:decide (((256:Nat):Int)<=255)=false:=Ga (by omega);generalize Ws f 256=c;generalize hQ:(fun r:Ex×St=>r.1.stop=true/\_)=Q;simp -implicitDefEqProofs only[SX,sevalprocAttr,-List.reduceReplicate,Ke,e1,VN];subst hQ;exact⟨rfl,_,_,rfl,by simp[Tr.aa]⟩
 have hz1:ba.box (List.map AV.pv (List.replicate 256 (PV.bool false)))=Hb (xg fun _=>false):=by rw[SC]
 have st:Ha [Hb (xg fun _=>false)] 256 (.ptr 0 0) (.pv (.agg (xg f)))=some [Hb (xg f)]:=Ir (id:=0) rfl (Mp _) (Mp f) (mS f);have P7:Ra (qa 1) [Hb (xg f)]=some [Hb (xg f)]:=by simp only[Ra,xh,yaa,Haa]
 have o8:([Hb (xg f)]:List ba).take 1=[Hb (xg f)]:=rfl
 have d0:(0 < 1)=True:=by simp
 generalize Ws f 256=c at *;generalize hzs:List.replicate 256 (PV.bool false)=zs at *
 generalize Hb (xg fun _=>false)=oz at *;generalize Hb (xg f)=ot at *;generalize xg f=T at *;apply Xk;simp -implicitDefEqProofs only[Yi,SX,sevalprocAttr,-List.reduceReplicate,rl,hzs,hz1,Db,hm,st,P7,o8,d0,na,Ca,AV.cut,za];refine wa D7 ?_;rintro r ⟨E,H,rfl,hE⟩;simp -implicitDefEqProofs only[SX,sevalprocAttr,-List.reduceReplicate,hE]
theorem pE{v:PV}{l:List (Int×Int)}(hv:Vh 2 v (de l))(hw:l.length * 16<=140737488355328)(x:Int):
 vf [v,i64 x]=some (.bool (decide (0<=x)&&decide (x<=255)&&mj l x.toNat)):=by
 have hm:=Dy hv hw;generalize hf:mj l=f at *
 by_cases h0:0<=x
 ·have e0:decide (x>=0)=true:=Ea (by omega)
  rw[show decide (0<=x)=true from Ea h0]
  by_cases h1:x<=255
  ·have e1:decide (x<=255)=true:=Ea h1
   have hq:Ia x 256:=by unfold Ia;omega
   have m1:x.toNat * 1=x.toNat:=by omega
   have hg:=nS f (x:=x.toNat) (by omega);have hp:Km false 1 (xg f) x.toNat=some (.bool (f x.toNat)):=by unfold Km;exact hg
   rw[e1];generalize f x.toNat=b at *
   generalize xg f=T at *;simp -implicitDefEqProofs only[vf,SX,sevalprocAttr,-List.reduceReplicate,Dh,e0,e1,hm,Iaa hq,m1,hp,oab]
  ·have e1:decide (x<=255)=false:=Ga h1
   simp -implicitDefEqProofs only[vf,SX,sevalprocAttr,-List.reduceReplicate,Dh,e0,e1,oab,Iac]
 ·have e0:decide (x>=0)=false:=Ga (by omega)
  rw[show decide (0<=x)=false from Ga h0];simp -implicitDefEqProofs only[vf,SX,sevalprocAttr,-List.reduceReplicate,Dh,e0,Iac]
abbrev rN(row:List PV)(i n:Int):Tr:=((Tr.lf.set 4 (.pv (i64 i))).set 3 (.pv (i64 n))).set 1 (.pv (.rp row 0))
theorem Rp{e:PV}{s:Nb}{P:PV}{ps:List PV}(h:dg e s P ps)(Ba:∀ l∈s.parts,Ad l):ze [e]=some (i64 (Uh 1 s.parts)):=by
 obtain⟨rfl,hP⟩:=h;have hb:=Bn s.parts 1 Ba (by omega) (by omega)
 have L7:=hP.sz
 have ln:=hP.Tb
 have q0:∀ H (x y:PV),place H 0 (.pv (.rp [x,y] 0))=some (.pv (.rp [x,y] 0)):=fun H x y=>rfl;have r0:∀ H (x y:PV),pa H false 1 (.pv (.rp [x,y] 0))=some (.pv x):=fun H x y=>rfl;have D7:qd (fun r=>∃ E H,r=(.exit 0,⟨E,H⟩)/\E.get 3= .pv (i64 (Uh 1 s.parts)))
  (ab (ma (oa (Da (fun _=>none) 8) ue) (na 0 [1,3,4])) ua ⟨rN [P,i64 s.first] 0 1,[]⟩):=by
  refine wa (Fb (g:=ma (oa (Da (fun _=>none) 8) ue) (na 0 [1,3,4]))
   (fun i t=>∃ n,t=⟨rN [P,i64 s.first] i n,[]⟩/\1<=n/\n<=1073741825/\Uh 1 s.parts=Uh n (s.parts.drop i))
   s.parts.length (by unfold ua;unfold maxLen at L7;omega) _ ⟨1,rfl,by omega,by omega,rfl⟩ ?_ ?_) (fun r h=>h.2)
  ·rintro i t hi ⟨n,rfl,h1,h2,hs⟩
   obtain⟨v,hv,Y8,a1⟩:=hP.Pd hi []
   have hd:s.parts.drop i=s.parts[i]::s.parts.drop (i+1):=Paa hi
   have N8:=Ba s.parts[i] (jaa hi)
   have hss:=nK Y8.is Y8.sz
   rw[nY N8.2] at hss;have hsb:=Xg N8;rw[hd,Uh] at hs;generalize s.parts[i]=l at *
   have hm:=iz h1 h2 hsb.1 hsb.2
   have e1:decide ((i:Int) < (s.parts.length:Int))=true:=Ea (by omega);have t2:=Za hi L7;have t3:IntKind.i64.wrap (n * ib 0 l)=n * ib 0 l:=Aa (by omega)
   have a2:∀ H (v:PV),pa H false 1 (.pv (.rp [v] 0))=some (.pv v):=fun H v=>rfl;generalize hQ:LN _ _ i=Q
   by_cases hg:n * ib 0 l > 1073741824
   ·have d1:=Ea hg
    simp -implicitDefEqProofs only[SX,sevalprocAttr,-List.reduceReplicate,ue,e1,ln,q0,r0,t2,t3,a1,a2,hss,d1,na,Ca,AV.cut,za,rN];subst hQ;refine⟨1073741825,rfl,by omega,by omega,?_⟩;rw[hs];congr 1;split <;> omega
   ·have d1:=Ga hg
    simp -implicitDefEqProofs only[SX,sevalprocAttr,-List.reduceReplicate,ue,e1,ln,q0,r0,t2,t3,a1,a2,hss,d1,na,Ca,AV.cut,za,rN];subst hQ;refine⟨n * ib 0 l,rfl,by omega,by omega,?_⟩;rw[hs];congr 1;split <;> omega
  ·rintro t ⟨n,rfl,h1,h2,hs⟩
   rw[vab,Uh] at hs;have e1:decide ((s.parts.length:Int) < (s.parts.length:Int))=false:=Ga (by omega);generalize hQ:(fun r:Ex×St=>r.1.stop=true/\_)=Q;simp -implicitDefEqProofs only[SX,sevalprocAttr,-List.reduceReplicate,ue,e1,ln,q0,r0,rN];subst hQ;exact⟨rfl,_,_,rfl,by simp[Tr.aa,hs]⟩
 have I8:(AV.pv P).one=true:=by rcases hP.is with⟨h,_⟩ | h <;> rw[h] <;> rfl
 generalize Uh 1 s.parts=n at *
 apply Xk;simp -implicitDefEqProofs only[ze,SX,sevalprocAttr,-List.reduceReplicate,Ck,I8,Db,na,Ca,AV.cut,za];refine wa D7 ?_;rintro r ⟨E,H,rfl,hE⟩;simp -implicitDefEqProofs only[SX,sevalprocAttr,-List.reduceReplicate,hE]
theorem Uc(H:List ba)(x y:PV):place H 0 (.pv (.rp [x,y] 0))=some (.pv (.rp [x,y] 0)):=rfl
theorem Lj(H:List ba)(x y:PV):place H 1 (.pv (.rp [x,y] 0))=some (.pv (.rp [x,y] 1)):=rfl
theorem oe(H:List ba)(x y:PV):pa H false 1 (.pv (.rp [x,y] 0))=some (.pv x):=rfl
theorem ik(H:List ba)(x y:PV):pa H false 1 (.pv (.rp [x,y] 1))=some (.pv y):=rfl
theorem pg(H:List ba)(x y:PV):pa H true 2 (.pv (.rp [x,y] 0))=some (.pv (.agg [x,y])):=rfl
theorem Wa(H:List ba)(x:PV):pa H false 1 (.pv (.rp [x] 0))=some (.pv x):=rfl
theorem fc(H:List ba)(x:PV):place H 0 (.pv (.rp [x] 0))=some (.pv (.rp [x] 0)):=rfl
theorem qe(H:List ba)(x:PV):pa H true 1 (.pv (.rp [x] 0))=some (.pv (.agg [x])):=rfl
abbrev bK(row:List PV)(i:Int):Tr:=(Tr.lf.set 3 (.pv (i64 i))).set 1 (.pv (.rp row 0))
theorem Xr{e:PV}{s:Nb}{P:PV}{ps:List PV}(h:dg e s P ps):∃ b,Qb [e]=some (.bool b)/\(b=true↔Be s):=by
 have hh:=h;obtain⟨rfl,hP⟩:=h;have L7:=hP.sz
 have ln:=hP.Tb
 have I8:(AV.pv P).one=true:=by rcases hP.is with⟨h,_⟩ | h <;> rw[h] <;> rfl
 by_cases c1:(s.parts.length:Int) < 1
 ·have d1:=Ea c1
  refine⟨false,?_,by simp;intro h;have:=h.lo;omega⟩;simp -implicitDefEqProofs only[Qb,SX,sevalprocAttr,Bb,I8,Uc,Lj,oe,ik,ln,d1]
 have d1:=Ga c1
 by_cases c2:(s.parts.length:Int) > 8
 ·have d2:=Ea c2
  refine⟨false,?_,by simp;intro h;have:=h.hi;omega⟩;simp -implicitDefEqProofs only[Qb,SX,sevalprocAttr,Bb,I8,Uc,Lj,oe,ik,ln,d1,d2]
 have d2:=Ga c2
 by_cases c3:s.first < 0
 ·have d3:=Ea c3
  refine⟨false,?_,by simp;intro h;have:=h.f0;omega⟩;simp -implicitDefEqProofs only[Qb,SX,sevalprocAttr,Bb,I8,Uc,Lj,oe,ik,ln,d1,d2,d3]
 have d3:=Ga c3
 by_cases c4:s.first > 1073741823
 ·have d4:=Ea c4
  refine⟨false,?_,by simp;intro h;have:=h.f1;omega⟩;simp -implicitDefEqProofs only[Qb,SX,sevalprocAttr,Bb,I8,Uc,Lj,oe,ik,ln,d1,d2,d3,d4]
 have d4:=Ga c4;have D7:qd (fun r=>∃ E,(r=(.exit 0,⟨E,[]⟩)/\E.get 1= .pv (.rp [P,i64 s.first] 0)/\∀ l∈s.parts,Ad l)\/(r=(.ret,⟨E,[]⟩)/\E.get 2= .pv (.bool false)/\¬∀ l∈s.parts,Ad l))
  (ab (ma (oa (Da (fun _=>none) 8) ic) (na 0 [1,3])) ua ⟨bK [P,i64 s.first] 0,[]⟩):=by
  refine wa (Fb (g:=ma (oa (Da (fun _=>none) 8) ic) (na 0 [1,3]))
   (fun i t=>t=⟨bK [P,i64 s.first] i,[]⟩/\∀ l∈s.parts.take i,Ad l)
   s.parts.length (by unfold ua;unfold maxLen at L7;omega) _ ⟨rfl,by simp⟩ ?_ ?_) (fun r h=>h.2)
  ·rintro i t hi ⟨rfl,hs⟩
   obtain⟨v,hv,Y8,a1⟩:=hP.Pd hi []
   have S8:=jaa hi;have U7:Ad s.parts[i]->∀ l∈s.parts.take (i+1),Ad l:=by
    intro h l hl;have:s.parts.take (i+1)=s.parts.take i++[s.parts[i]]:=by simp
    rw[this] at hl;rcases Jaa.1 hl with h1 | h1
    ·exact hs l h1
    ·simp at h1;subst h1;exact h
   have hvl:=rA Y8.is Y8.sz
   have lv:=Y8.is.len
   simp only[de,haa] at lv;generalize s.parts[i]=l at *
   have e1:decide ((i:Int) < (s.parts.length:Int))=true:=Ea (by omega);have t2:=Za hi L7;generalize hQ:LN _ _ i=Q
   by_cases h0:l=[]
   ·have e0:((l.length:Int)==0)=true:=by simp[h0]
    simp -implicitDefEqProofs only[SX,sevalprocAttr,ic,e1,ln,Uc,oe,Wa,a1,lv,e0,bK];subst hQ;exact⟨_,.inr ⟨rfl,by simp[Tr.aa],fun h=>(h _ S8).1 h0⟩⟩
   ·have e0:((l.length:Int)==0)=false:=by
     have:l.length≠0:=fun e=>h0 (qaa e)
     exact lj (by omega)
    cases hb:Pa 255 (-2) l with
    |true=>rw[hb] at hvl;simp -implicitDefEqProofs only[SX,sevalprocAttr,ic,e1,ln,Uc,oe,Wa,a1,lv,e0,hvl,t2,na,Ca,AV.cut,za,bK];subst hQ;exact⟨rfl,U7 ⟨h0,hb⟩⟩
    |false=>rw[hb] at hvl;simp -implicitDefEqProofs only[SX,sevalprocAttr,ic,e1,ln,Uc,oe,Wa,a1,lv,e0,hvl,bK];subst hQ;exact⟨_,.inr ⟨rfl,by simp[Tr.aa],fun h=>by have:=(h _ S8).2;rw[hb] at this;cases this⟩⟩
  ·rintro t ⟨rfl,hs⟩
   rw[sab] at hs;have e1:decide ((s.parts.length:Int) < (s.parts.length:Int))=false:=Ga (by omega);generalize hQ:(fun r:Ex×St=>r.1.stop=true/\_)=Q;simp -implicitDefEqProofs only[SX,sevalprocAttr,ic,e1,ln,Uc,oe,bK];subst hQ;exact⟨rfl,_,.inl ⟨rfl,by simp[Tr.aa],hs⟩⟩
 have key:qd (fun r=>∃ b,r=(.pv (.bool b),([]:List ba))/\(b=true↔Be s)) (ef (Da (fun _=>none) 8) Bb [.pv (.agg [P,i64 s.first])] []):=by
  generalize Q7:(fun r:AV×List ba=>_)=QQ;simp -implicitDefEqProofs only[SX,sevalprocAttr,Bb,I8,Uc,Lj,oe,ik,ln,d1,d2,d3,d4,Db,na,Ca,AV.cut,za];refine wa D7 ?_;rintro _ ⟨E,⟨rfl,hE,hb⟩ | ⟨rfl,hE,hb⟩⟩
  ·have hct:=Rp hh hb
   have hbd:=Bn s.parts 1 hb (by omega) (by omega)
   have G8:(decide (s.first+Uh 1 s.parts - 1<=1073741823)=true)↔Be s:=by
    rw[decide_eq_true_iff];constructor
    ·intro h;exact⟨by omega,by omega,by omega,by omega,hb,h⟩
    ·intro h;exact h.last
   generalize Uh 1 s.parts=n at *
   have t3:IntKind.i64.wrap (s.first+n)=s.first+n:=Aa (by omega)
   have t4:IntKind.i64.wrap (s.first+n - 1)=s.first+n - 1:=Aa (by omega)
   simp -implicitDefEqProofs only[SX,sevalprocAttr,hE,Uc,Lj,oe,ik,pg,hct,t3,t4];subst Q7;exact⟨_,rfl,G8⟩
  ·simp -implicitDefEqProofs only[SX,sevalprocAttr,hE]
   subst Q7;exact⟨false,rfl,by simp;exact fun h=>hb h.parts⟩
 obtain⟨r,h1,b,rfl,hb⟩:=wc key;refine⟨b,?_,hb⟩;generalize hk:ef (Da (fun _=>none) 8) Bb [.pv (.agg [P,i64 s.first])] []=k at h1;subst h1;have:Qb [.agg [P,i64 s.first]]=(ef (Da (fun _=>none) 8) Bb [.pv (.agg [P,i64 s.first])] []).bind fun r=>Sb r.2 deep r.1:=rfl
 rw[this,hk];rfl
theorem fy{e:PV}{s:Nb}{P:PV}{ps:List PV}(h:dg e s P ps)(Ba:Be s):Ug [e]=some (i64 (Uh 1 s.parts)):=by
 obtain⟨b,hb,hbb⟩:=Xr h;have hc:=Rp h Ba.parts
 have:=hbb.2 Ba
 subst this;obtain⟨rfl,hP⟩:=h;have I8:(AV.pv P).one=true:=by rcases hP.is with⟨h,_⟩ | h <;> rw[h] <;> rfl
 simp -implicitDefEqProofs only[Ug,SX,sevalprocAttr,Ak,I8,pg,hb,hc]
end Go.AM.B1
