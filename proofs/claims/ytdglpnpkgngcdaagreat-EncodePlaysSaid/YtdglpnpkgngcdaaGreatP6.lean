/- What functions of the program compute. -/
import Derived.Test.YtdglpnpkgngcdaaGreatP5
set_option linter.unusedVariables false
set_option linter.unusedSimpArgs false
namespace Go.AM.B1
open Go.AM Go.AM.So
structure Ie (s:qc):Prop where
 lo:1≤s.parts.length
 hi:s.parts.length≤8
 f0:0≤s.first
 f1:s.first≤1073741823
 parts:∀ l∈s.parts,Bd l
 last:ai s≤1073741823
def Hm (s t:qc):Prop:=∀ x,¬((s.first≤x∧x≤ai s)∧(t.first≤x∧x≤ai t))
structure Fc (ss:List qc):Prop where
 len:ss.length≤32
 gu:∀ s∈ss,Ie s
 apart:ss.Pairwise Hm
theorem Ie.JI {s:qc} (h:Ie s):s.first≤ai s:=by
 have:=(Vl s.parts 1 h.parts (by omega) (by omega)).1
 unfold ai;omega
structure zX (ss:List qc) (i:Nat) (v:PV) (u:List (Int×Int)):Prop where
 is:Vh 2 v (Xd u)
 val:Na Ly (-2) u=true
 len:u.length≤i
 mem:∀ x,Lj x u↔∃ s∈ss.take i,s.first≤x∧x≤ai s
 gu:∀ s∈ss.take i,Ie s
 apart:(ss.take i).Pairwise Hm
abbrev tq (S v:PV) (len i:Int):Tr:=(((Tr.lf.set 14 (.pv (i64 i))).set 13 (.pv (i64 len))).set 12 (.pv S)).set 3 (.pv v)
theorem rn (x y u v:AV) (hu:u.one=true) (hv:v.one=true) (A:List ba) (e:PV) (he:(AV.pv e).cells=[u,v]):Ea (A++[.box [x,y]]) 2 (.ptr A.length 0) (.pv e)=some (A++[.box [u,v]]):=by
 simp only[Ea,he,Ej,Jn,List.length_cons,List.length_nil,List.all,hu,hv]
 simp[ga]
section
variable {S:PV} {ss:List qc} {es:List PV} (hS:Za S ss es) (hl:ss.length≤32)
include hS hl
omit hl in
theorem EC {i:Nat} (hi:i < ss.length) (v:PV) (hbad:¬Ie ss[i]):
 ∃ E H,ma (qa (Ca dc 8) Nb) (na 0 [3,12,13,14]) ⟨tq S v ss.length i,[]⟩=some (.ret,⟨E,H⟩)∧E.get 2= .pv (.bool false):=by
 obtain⟨e,P,ps,he,hSl,hsh⟩:=hS.get hi
 obtain⟨rfl,hP⟩:=hsh
 generalize hs:ss[i]=s at *
 have hq:i < es.length:=by rw[hS.len];exact hi
 have e1:decide ((i:Int) < (ss.length:Int))=true:=Fa (by omega)
 have a1:wa [] 2 (.pv S) (i:Int)=some (.pv (.rp [P,i64 s.first] 0)):=by
  rw[hSl]
  simp only[wa]
  rw[if_pos (by unfold Ga;simp;omega),Int.toNat_natCast,he];rfl
 have a2:ta [] true 2 (.pv (.rp [P,i64 s.first] 0))=some (.pv (.agg [P,i64 s.first])):=rfl
 have hP1:(AV.pv P).one=true:=by rcases hP.is with⟨h,_⟩ | h <;> rw[h] <;> rfl
 have s1:Ea [.box [.pv .fa,.pv (i64 0)]] 2 (.ptr 0 0) (.pv (.agg [P,i64 s.first]))=some [.box [.pv P,.pv (i64 s.first)]]:=rn _ _ _ _ hP1 rfl [] _ rfl
 have p0:place [.box [.pv P,.pv (i64 s.first)]] 0 (.ptr 0 0)=some (.ptr 0 0):=rfl
 have p1:place [.box [.pv P,.pv (i64 s.first)]] 1 (.ptr 0 0)=some (.ptr 0 1):=rfl
 have l0:ta [.box [.pv P,.pv (i64 s.first)]] false 1 (.ptr 0 0)=some (.pv P):=rfl
 have l1:ta [.box [.pv P,.pv (i64 s.first)]] false 1 (.ptr 0 1)=some (.pv (i64 s.first)):=rfl
 have l2:ta [.box [.pv P,.pv (i64 s.first)]] true 2 (.ptr 0 0)=some (.pv (.agg [P,i64 s.first])):=rfl
 have hg:He [.box [.pv P,.pv (i64 s.first)]]:=by
  intro n _ o ho;simp at ho;subst ho;simp[oa,Pa,Qa]
 have hct:=Yy hP 5 [.box [.pv P,.pv (i64 s.first)]] hg
 have h6:dc 6=some Jb:=rfl
 have lA:=hP.Tb
 have key:Pd (fun r=>∃ E H,r=(.ret,⟨E,H⟩)∧E.get 2= .pv (.bool false)) (ma (qa (Ca dc 8) Nb) (na 0 [3,12,13,14]) ⟨tq S v ss.length i,[]⟩):=by
  generalize hQ:(fun r:Ex×St=>_)=Q
  by_cases c1:s.parts.length < 1
  ·have d1:decide ((s.parts.length:Int) < 1)=true:=Fa (by omega)
   simp -implicitDefEqProofs only[SX,sevalprocAttr,Nb,e1,a1,a2,s1,p0,p1,l0,l1,lA,d1,tq]
   subst hQ;exact⟨_,_,rfl,by simp[Tr.aa]⟩
  have d1:decide ((s.parts.length:Int) < 1)=false:=Ha (by omega)
  by_cases c2:s.parts.length > 8
  ·have d2:decide ((s.parts.length:Int) > 8)=true:=Fa (by omega)
   simp -implicitDefEqProofs only[SX,sevalprocAttr,Nb,e1,a1,a2,s1,p0,p1,l0,l1,lA,d1,d2,tq]
   subst hQ;exact⟨_,_,rfl,by simp[Tr.aa]⟩
  have d2:decide ((s.parts.length:Int) > 8)=false:=Ha (by omega)
  by_cases c3:s.first < 0
  ·have d3:decide (s.first < 0)=true:=Fa c3
   simp -implicitDefEqProofs only[SX,sevalprocAttr,Nb,e1,a1,a2,s1,p0,p1,l0,l1,lA,d1,d2,d3,tq]
   subst hQ;exact⟨_,_,rfl,by simp[Tr.aa]⟩
  have d3:decide (s.first < 0)=false:=Ha c3
  by_cases c4:s.first > 1073741823
  ·have d4:decide (s.first > 1073741823)=true:=Fa c4
   simp -implicitDefEqProofs only[SX,sevalprocAttr,Nb,e1,a1,a2,s1,p0,p1,l0,l1,lA,d1,d2,d3,d4,tq]
   subst hQ;exact⟨_,_,rfl,by simp[Tr.aa]⟩
  have d4:decide (s.first > 1073741823)=false:=Ha c4
  by_cases c5:∀ l∈s.parts,Bd l
  ·have hlast:=iJ (e:= .agg [P,i64 s.first]) ⟨rfl,hP⟩ c5 (by omega)
   rw[decide_eq_true c5] at hct
   have c6:ai s > 1073741823:=by
    rcases Int.lt_or_le 1073741823 (ai s) with h | h
    ·exact h
    ·exact absurd (Ie.mk (by omega) (by omega) (by omega) (by omega) c5 h) hbad
   have d6:decide (ai s > 1073741823)=true:=Fa c6
   have i0:∀ H (x y:Int),wa H 2 (.pv (.lit 2 [.agg [i64 x,i64 y]])) 0=some (.pv (.rp [i64 x,i64 y] 0)):=fun H x y=>rfl
   have q1:∀ H (x y:PV),place H 1 (.pv (.rp [x,y] 0))=some (.pv (.rp [x,y] 1)):=fun H x y=>rfl
   have m1:∀ H (x y:PV),ta H false 1 (.pv (.rp [x,y] 1))=some (.pv y):=fun H x y=>rfl
   simp -implicitDefEqProofs only[SX,sevalprocAttr,ga,Nb,e1,a1,a2,s1,p0,p1,l0,l1,l2,lA,d1,d2,d3,d4,h6,hct,hlast,i0,q1,m1,d6,tq]
   subst hQ;exact⟨_,_,rfl,by simp[Tr.aa]⟩
  ·rw[decide_eq_false c5] at hct
   simp -implicitDefEqProofs only[SX,sevalprocAttr,Nb,e1,a1,a2,s1,p0,p1,l0,l1,lA,d1,d2,d3,d4,h6,hct,tq]
   subst hQ;exact⟨_,_,rfl,by simp[Tr.aa]⟩
 obtain⟨r,h1,E,H,rfl,h2⟩:=pc key
 exact⟨E,H,h1,h2⟩
theorem lD {i:Nat} (hi:i < ss.length) {v:PV} {u:List (Int×Int)} (hv:zX ss i v u) (Ba:Ie ss[i]):
 Pd (fun r=>(∃ E H,r=(.ret,⟨E,H⟩)∧E.get 2= .pv (.bool false)∧∃ s∈ss.take i,¬Hm s ss[i])∨(∃ v' u',r=(.norm,⟨tq S v' ss.length (i+1:Nat),[]⟩)∧zX ss (i+1) v' u'))
  (ma (qa (Ca dc 8) Nb) (na 0 [3,12,13,14]) ⟨tq S v ss.length i,[]⟩):=by
 obtain⟨e,P,ps,he,hSl,hsh⟩:=hS.get hi
 obtain⟨rfl,hP⟩:=hsh
 have htake:ss.take (i+1)=ss.take i++[ss[i]]:=List.take_succ_eq_append_getElem hi
 generalize hs:ss[i]=s at *
 have hq:i < es.length:=by rw[hS.len];exact hi
 have e1:decide ((i:Int) < (ss.length:Int))=true:=Fa (by omega)
 have t2:=eb hi hS.sz
 have a1:wa [] 2 (.pv S) (i:Int)=some (.pv (.rp [P,i64 s.first] 0)):=by
  rw[hSl]
  simp only[wa]
  rw[if_pos (by unfold Ga;simp;omega),Int.toNat_natCast,he];rfl
 have a2:ta [] true 2 (.pv (.rp [P,i64 s.first] 0))=some (.pv (.agg [P,i64 s.first])):=rfl
 have hP1:(AV.pv P).one=true:=by rcases hP.is with⟨h,_⟩ | h <;> rw[h] <;> rfl
 have s1:Ea [.box [.pv .fa,.pv (i64 0)]] 2 (.ptr 0 0) (.pv (.agg [P,i64 s.first]))=some [.box [.pv P,.pv (i64 s.first)]]:=rn _ _ _ _ hP1 rfl [] _ rfl
 have p0:place [.box [.pv P,.pv (i64 s.first)]] 0 (.ptr 0 0)=some (.ptr 0 0):=rfl
 have p1:place [.box [.pv P,.pv (i64 s.first)]] 1 (.ptr 0 0)=some (.ptr 0 1):=rfl
 have l0:ta [.box [.pv P,.pv (i64 s.first)]] false 1 (.ptr 0 0)=some (.pv P):=rfl
 have l1:ta [.box [.pv P,.pv (i64 s.first)]] false 1 (.ptr 0 1)=some (.pv (i64 s.first)):=rfl
 have l2:ta [.box [.pv P,.pv (i64 s.first)]] true 2 (.ptr 0 0)=some (.pv (.agg [P,i64 s.first])):=rfl
 have hg:He [.box [.pv P,.pv (i64 s.first)]]:=by
  intro n _ o ho;simp at ho;subst ho;simp[oa,Pa,Qa]
 have hct:=Yy hP 5 [.box [.pv P,.pv (i64 s.first)]] hg
 rw[decide_eq_true Ba.parts] at hct
 have h6:dc 6=some Jb:=rfl
 have lA:=hP.Tb
 have d1:decide ((s.parts.length:Int) < 1)=false:=Ha (by have:=Ba.lo;omega)
 have d2:decide ((s.parts.length:Int) > 8)=false:=Ha (by have:=Ba.hi;omega)
 have d3:decide (s.first < 0)=false:=Ha (by have:=Ba.f0;omega)
 have d4:decide (s.first > 1073741823)=false:=Ha (by have:=Ba.f1;omega)
 have hlast:=iJ (e:= .agg [P,i64 s.first]) ⟨rfl,hP⟩ Ba.parts ⟨Ba.f0,Ba.f1⟩
 have d6:decide (ai s > 1073741823)=false:=Ha (by have:=Ba.last;omega)
 have i0:∀ H (x y:Int),wa H 2 (.pv (.lit 2 [.agg [i64 x,i64 y]])) 0=some (.pv (.rp [i64 x,i64 y] 0)):=fun H x y=>rfl
 have q1:∀ H (x y:PV),place H 1 (.pv (.rp [x,y] 0))=some (.pv (.rp [x,y] 1)):=fun H x y=>rfl
 have m1:∀ H (x y:PV),ta H false 1 (.pv (.rp [x,y] 1))=some (.pv y):=fun H x y=>rfl
 have hvr:Na Ly (-2) [(s.first,ai s)]=true:=by
  rw[dq];have:=Ba.JI;have:=Ba.f0;have:=Ba.last;unfold Ly;simp only;omega
 have hmt:=iB v (.lit 2 [.agg [i64 s.first,i64 (ai s)]]) u [(s.first,ai s)] hv.is (.inr rfl) hv.val hvr (by have:=hv.len;simp;omega)
 obtain⟨u',hun,hv1,hv2,hv3⟩:=fR v (.lit 2 [.agg [i64 s.first,i64 (ai s)]]) u [(s.first,ai s)] hv.is (.inr rfl) hv.val hvr (by have:=hv.len;simp;omega)
 have hms:=eM hv.val hvr
 have hml:∀ l:List (Int×Int),(Xd l).length=l.length:=fun l=>by simp
 generalize Yf (u.length+[(s.first,ai s)].length) u [(s.first,ai s)]=mm at *
 have hvv:(AV.pv v).cells=[.pv v]:=by rcases hv.is with⟨h,_⟩ | h <;> rw[h] <;> rfl
 generalize hQ:(fun r:Ex×St=>_)=Q
 by_cases c7:mm=[]
 ·have d7:decide ((mm.length:Int) > 0)=false:=Ha (by rw[c7];simp)
  have hno:¬∃ x,Lj x u∧Lj x [(s.first,ai s)]:=fun h=>(hms.2 h) c7
  simp -implicitDefEqProofs only[SX,sevalprocAttr,ga,Nb,e1,t2,a1,a2,s1,p0,p1,l0,l1,l2,lA,d1,d2,d3,d4,h6,hct,hlast,i0,q1,m1,d6,hmt,hml,d7,hun,na,za,AV.cut,oa,List.take_zero,ua,tq]
  subst hQ
  refine .inr ⟨_,u',rfl,.inr rfl,hv1,by have:=hv.len;simp at hv3;omega,fun x=> ?_,?_,?_⟩
  ·rw[hv2,Io,hv.mem,htake]
   constructor
   ·rintro (⟨t,ht,hx⟩ | hx)
    ·exact⟨t,by simp[ht],hx⟩
    ·exact⟨s,by simp,hx⟩
   ·rintro⟨t,ht,hx⟩
    rcases List.mem_append.1 ht with h | h
    ·exact .inl ⟨t,h,hx⟩
    ·simp at h;subst h;exact .inr hx
  ·intro t ht
   rw[htake] at ht
   rcases List.mem_append.1 ht with h | h
   ·exact hv.gu t h
   ·simp at h;subst h;exact Ba
  ·rw[htake,List.pairwise_append]
   refine⟨hv.apart,by simp,fun t ht w hw x hx=> ?_⟩
   simp at hw;subst hw
   exact hno ⟨x,(hv.mem x).2 ⟨t,ht,hx.1⟩,(Io _ _).2 hx.2⟩
 ·have d7:decide ((mm.length:Int) > 0)=true:=Fa (by have:mm.length≠0:=fun e=>c7 (List.eq_nil_of_length_eq_zero e);omega)
  obtain⟨x,hx1,hx2⟩:=hms.1 c7
  simp -implicitDefEqProofs only[SX,sevalprocAttr,ga,Nb,e1,a1,a2,s1,p0,p1,l0,l1,l2,lA,d1,d2,d3,d4,h6,hct,hlast,i0,q1,m1,d6,hmt,hml,d7,tq]
  subst hQ
  obtain⟨t,ht,hx3⟩:=(hv.mem x).1 hx1
  exact .inl ⟨_,_,rfl,by simp[Tr.aa],t,ht,fun h=>h x ⟨hx3,(Io _ _).1 hx2⟩⟩
end
theorem Vk {S:PV} {ss:List qc} {es:List PV} (hS:Za S ss es):∃ b,ng [.agg [S]]=some (.bool b)∧(b=true↔Fc ss):=by
 have lA:=hS.Tb
 by_cases hl:ss.length≤32
 ·have e0:decide ((ss.length:Int) > 32)=false:=Ha (by omega)
  have hloop:Pd (fun r=>∃ E H,(r=(.exit 0,⟨E,H⟩)∧Fc ss)∨(r=(.ret,⟨E,H⟩)∧E.get 2= .pv (.bool false)∧¬Fc ss))
   (pb (ma (qa (Ca dc 8) Nb) (na 0 [3,12,13,14])) pa ⟨tq S .fa ss.length 0,[]⟩):=by
   refine ya (Mb (g:=ma (qa (Ca dc 8) Nb) (na 0 [3,12,13,14]))
    (fun i t=>∃ v u,t=⟨tq S v ss.length i,[]⟩∧zX ss i v u)
    ss.length (by unfold pa;omega) _ ⟨.fa,[],rfl,.inl ⟨rfl,rfl⟩,rfl,by simp,fun x=>by simp[Mm],by simp,by simp⟩ ?_ ?_) (fun r h=>h.2)
   ·rintro i t hi ⟨v,u,rfl,hv⟩
    by_cases Ba:Ie ss[i]
    ·refine ya (lD hS hl hi hv Ba) ?_
     rintro r (⟨E,H,rfl,hE,s,hs,hna⟩ | ⟨v',u',rfl,hv'⟩)
     ·refine⟨E,H,.inr ⟨rfl,hE,fun h=>hna ?_⟩⟩
      obtain⟨j,hj,rfl⟩:=List.mem_take_iff_getElem.1 hs
      have:=List.pairwise_iff_getElem.1 h.apart j i (by omega) hi (by omega)
      exact this
     ·exact⟨v',u',rfl,hv'⟩
    ·obtain⟨E,H,h1,h2⟩:=EC hS hi v Ba
     exact iX h1 ⟨E,H,.inr ⟨rfl,h2,fun h=>Ba (h.gu _ (List.getElem_mem hi))⟩⟩
   ·rintro t ⟨v,u,rfl,hv⟩
    have e1:decide ((ss.length:Int) < (ss.length:Int))=false:=Ha (by omega)
    have hfin:Fc ss:=⟨hl,by have:=hv.gu;rwa [List.take_length] at this,by have:=hv.apart;rwa [List.take_length] at this⟩
    generalize hQ:(fun r:Ex×St=>r.1.stop=true∧_)=Q
    simp -implicitDefEqProofs only[SX,sevalprocAttr,Nb,e1,tq]
    subst hQ
    exact⟨rfl,_,_,.inl ⟨rfl,hfin⟩⟩
  obtain⟨r,h1,E,H,h2⟩:=pc hloop
  have h1':pb (ma (qa (Ca dc 8) Nb) (na 0 [3,12,13,14])) pa ⟨(((Tr.lf.set 14 (.pv (.int .i64 0))).set 13 (.pv (.int .i64 ss.length))).set 12 (.pv S)).set 3 (.pv .fa),[]⟩=some r:=h1
  have hSv:∃ sz es,S= .fa∨S= .lit sz es:=by rcases hS.is with⟨h,_⟩ | h;exact⟨0,[],.inl h⟩;exact⟨_,_,.inr h⟩
  rcases h2 with⟨rfl,Ba⟩ | ⟨rfl,hE,hno⟩
  ·refine⟨true,?_,by simp[Ba]⟩
   obtain⟨sz,es,rfl | rfl⟩:=hSv <;>
   simp -implicitDefEqProofs only[ng,SP,SA,SQ,WP,WQ,sevalprocAttr,Fk,Fb,lA,e0,h1']
  ·refine⟨false,?_,by simp[hno]⟩
   obtain⟨sz,es,rfl | rfl⟩:=hSv <;>
   simp -implicitDefEqProofs only[ng,SP,SA,SQ,WP,WQ,sevalprocAttr,Fk,Fb,lA,e0,h1',hE]
 ·have e0:decide ((ss.length:Int) > 32)=true:=Fa (by omega)
  refine⟨false,?_,by simp;exact fun h=>hl h.len⟩
  have hSv:∃ sz es,S= .fa∨S= .lit sz es:=by rcases hS.is with⟨h,_⟩ | h;exact⟨0,[],.inl h⟩;exact⟨_,_,.inr h⟩
  obtain⟨sz,es,rfl | rfl⟩:=hSv <;>
  simp -implicitDefEqProofs only[ng,SP,SA,SQ,WP,WQ,sevalprocAttr,Fk,Fb,lA,e0]
end Go.AM.B1
namespace Go.AM.B1
open Go.AM Go.AM.So
theorem zf.one {e:PV} {s:qc} {P:PV} {ps:List PV} (h:zf e s P ps):Za (.lit 2 [e]) [s] [e]:=by
 refine⟨.inr rfl,rfl,?_,by simp[maxLen]⟩
 intro k e' s' h1 h2
 match k,h1,h2 with
 |0,h1,h2=>simp at h1 h2;subst h1 h2;exact⟨P,ps,h⟩
 |k+1,h1,h2=>simp at h1
theorem xQ {s:qc}:Fc [s]↔Ie s:=⟨fun h=>h.gu s (by simp),fun h=>⟨by simp,by simpa using h,by simp⟩⟩
theorem zf.cw {e:PV} {s:qc} {P:PV} {ps:List PV} (h:zf e s P ps):(AV.pv P).one=true∧P.cells=[P]:=by
 rcases h.parts.is with⟨h,_⟩ | h <;> rw[h] <;> exact⟨rfl,rfl⟩
theorem Hl {e:PV} {s:qc} {P:PV} {ps:List PV} (h:zf e s P ps):∃ b,Ti [e]=some (.bool b)∧(b=true↔Ie s):=by
 obtain⟨b,h1,h2⟩:=Vk h.one
 refine⟨b,?_,h2.trans xQ⟩
 obtain⟨hP1,hP2⟩:=h.cw
 have heq:=h.eq
 subst heq
 rcases h.parts.is with⟨rfl,_⟩ | rfl <;>
 simp -implicitDefEqProofs only[Ti,SP,SA,SQ,WP,WQ,sevalprocAttr,Ur,h1]
theorem Df.Sd {P:PV} {ls:List (List (Int×Int))} {ps:List PV} (hP:Df P ls ps) {i:Nat} (hi:i < ls.length) (H:List ba):∃ v,ps[i]? =some v∧Tn v ls[i]∧wa H 1 (.pv P) (i:Int)=some (.pv (.rp [v] 0)):=by
 obtain⟨v,hv,hPl,hpt⟩:=hP.get hi
 refine⟨v,hv,hpt,?_⟩
 have hq:i < ps.length:=by rw[hP.len];exact hi
 have hcl:v.cells=[v]:=by rcases hpt.is with⟨h,_⟩ | h <;> rw[h] <;> rfl
 rw[hPl]
 simp only[wa]
 rw[if_pos (by unfold Ga;simp;omega),Int.toNat_natCast,hv]
 simp[hcl]
theorem Df.bw {P:PV} {ls:List (List (Int×Int))} {ps:List PV} (hP:Df P ls ps) {i:Nat} {v:PV} (hv:ps[i]? =some v) (H:List ba):wa H 1 (.pv P) (i:Int)=some (.pv (.rp [v] 0)):=by
 have hi:i < ls.length:=by rw[← hP.len];exact (List.getElem?_eq_some_iff.1 hv).1
 obtain⟨w,hw,_,h⟩:=hP.Sd hi H
 rw[hv] at hw;injection hw with hw;subst hw;exact h
def Vo (p q:List (List (Int×Int))) (i:Nat):List (Int×Int):=match p[i]?,q[i]? with
 |some a,some b=>Yf (a.length+b.length) a b
 |_,_=>[]
def fc (p q:List (List (Int×Int))):Nat→Nat→Option (List Int)
 |0,_=>some []
 |n+1,i=>match Vo p q i with
  | []=>none
  |m::_=>(fc p q n (i+1)).map (m.1:: ·)
abbrev qK (rp rq:List PV) (n i:Int) (tk:Nat) (nl:Bool) (es:List PV):Tr:=((((Tr.lf.set 35 (.pv (i64 i))).set 34 (.pv (i64 n))).set 8 (.uq tk nl 1 es)).set 4 (.pv (.rp rq 0))).set 3 (.pv (.rp rp 0))
theorem Yq {A:List ba} {id n bytes:Nat} {nl:Bool} {h:Nf} {es:List PV} (hg:A[id]? =some (.tok 1 n nl)) (hn:n=es.length) (hr:ab (n+1) bytes) (e:PV):
 Gb A false h 1 false bytes (.uq id nl 1 es) (.pv (.lit 1 [e]))=some (.uq id false 1 (es++[e]),A.set id (.tok 1 (n+1) false)):=Lg hg hn hr e
theorem vM {e f:PV} {p q:qc} {P Q:PV} {ps qs:List PV} (hp:zf e p P ps) (hq:zf f q Q qs) (op:Ie p) (oq:Ie q) {n:Nat} (hn:n≤p.parts.length) (hn2:n≤q.parts.length):
 (fc p.parts q.parts n 0=none→Wh [e,f,i64 n]=some (.ic [.fa,.bool false]))∧
 (∀ bs,fc p.parts q.parts n 0=some bs→∃ v,Wh [e,f,i64 n]=some (.ic [v,.bool true])∧Vh 1 v (bs.map (PV.int .u8))∧bs.length=n∧∀ b∈bs,0≤b∧b≤255):=by
 obtain⟨b1,hb1,hb1'⟩:=Hl hp
 obtain⟨b2,hb2,hb2'⟩:=Hl hq
 have:b1=true:=hb1'.2 op
 subst this
 have:b2=true:=hb2'.2 oq
 subst this
 obtain⟨hP1,hP2⟩:=hp.cw
 obtain⟨hQ1,hQ2⟩:=hq.cw
 have heq:=hp.eq
 have hfq:=hq.eq
 subst heq hfq
 have h8:=op.hi
 have lP:=hp.parts.Tb
 have lQ:=hq.parts.Tb
 have hloop:Pd (fun r=>∃ E H,(r=(.ret,⟨E,H⟩)∧E.get 6= .pv .fa∧E.get 7= .pv (.bool false)∧fc p.parts q.parts n 0=none)∨(∃ nl bs,r=(.exit 0,⟨E,H⟩)∧E.get 8= .uq 0 nl 1 (bs.map (PV.int .u8))∧(nl=true→bs=[])∧fc p.parts q.parts n 0=some bs∧bs.length=n∧∀ b∈bs,0≤b∧b≤255))
  (pb (ma (qa (Ca (fun _=>none) 8) ig) (na 1 [3,4,8,34,35])) pa ⟨qK [P,i64 p.first] [Q,i64 q.first] n 0 0 true [],[.tok 1 0 true]⟩):=by
  refine ya (Mb (g:=ma (qa (Ca (fun _=>none) 8) ig) (na 1 [3,4,8,34,35]))
   (fun i t=>∃ nl bs,t=⟨qK [P,i64 p.first] [Q,i64 q.first] n i 0 nl (bs.map (PV.int .u8)),[.tok 1 i nl]⟩∧bs.length=i∧(nl=true→bs=[])∧(∀ b∈bs,0≤b∧b≤255)∧fc p.parts q.parts n 0=(fc p.parts q.parts (n - i) i).map (bs++ ·))
   n (by unfold pa;omega) _ ⟨true,[],rfl,rfl,fun _=>rfl,by simp,by cases fc p.parts q.parts n 0 <;> simp[*]⟩ ?_ ?_) (fun r h=>h.2)
  ·rintro i t hi ⟨nl,bs,rfl,hlen,hnl,hby,hs⟩
   obtain⟨v,hv,hpv,_⟩:=hp.parts.Sd (i:=i) (by omega) []
   obtain⟨w,hw,hqw,_⟩:=hq.parts.Sd (i:=i) (by omega) []
   have a1:=hp.parts.bw hv
   have a2:=hq.parts.bw hw
   have okv:=op.parts _ (List.getElem_mem (show i < p.parts.length by omega))
   have okw:=oq.parts _ (List.getElem_mem (show i < q.parts.length by omega))
   have hmt:=TE v w _ _ hpv.is hqw.is okv.2 okw.2 (by
    have:=(Uq okv.2).2.1 okv.1
    have h1:=hpv.sz
    have h2:=hqw.sz
    have k1:=mv okv.2
    have k2:=mv okw.2
    omega)
   have hlaw:=Xt _ _ _ (-2) (-2) okv.2 okw.2 (Nat.le_refl _)
   have hmA:Vo p.parts q.parts i=Yf (p.parts[i].length+q.parts[i].length) p.parts[i] q.parts[i]:=by
    unfold Vo
    rw[List.getElem?_eq_getElem (show i < p.parts.length by omega),List.getElem?_eq_getElem (show i < q.parts.length by omega)]
   obtain⟨m,hm⟩:∃ m,n - i=m+1:=⟨n - i - 1,by omega⟩
   have hm':n - (i+1)=m:=by omega
   rw[hm,fc,hmA] at hs
   have hme:=Vp okv.2
   generalize p.parts[i]=lv at *
   generalize q.parts[i]=lw at *
   generalize Yf (lv.length+lw.length) lv lw=mm at *
   have e1:decide ((i:Int) < (n:Int))=true:=Fa (by omega)
   have t2:=eb (i:=i) (n:=n) hi (by unfold maxLen;omega)
   have lm:∀ H,Tb H 0 (.pv (.lit 2 (Xd mm)))=some mm.length:=fun H=>by simp[Tb]
   have r0:∀ H (x y:PV),ta H false 1 (.pv (.rp [x,y] 0))=some (.pv x):=fun H x y=>rfl
   have r1:∀ H (x:PV),ta H false 1 (.pv (.rp [x] 0))=some (.pv x):=fun H x=>rfl
   have q0:∀ H (x y:PV),place H 0 (.pv (.rp [x,y] 0))=some (.pv (.rp [x,y] 0)):=fun H x y=>rfl
   generalize hQ:LN _ _ i=QQ
   cases mm with
   |nil=>
    have z1:(((0:Nat):Int)==0)=true:=by decide
    simp only[Option.map_none] at hs
    simp -implicitDefEqProofs only[SX,sevalprocAttr,ig,e1,a1,a2,r0,r1,q0,hmt,lm,z1,qK]
    subst hQ
    exact⟨_,_,.inl ⟨rfl,by simp[Tr.aa],by simp[Tr.aa],hs⟩⟩
   |cons m0 mm=>
    have z1:(((mm.length+1:Nat):Int)==0)=false:=zi (by omega)
    have i0:∀ H,wa H 2 (.pv (.lit 2 (Xd (m0::mm)))) 0=some (.pv (.rp [i64 m0.1,i64 m0.2] 0)):=fun H=>Wk H (i:=0) (l:=m0::mm) (by simp)
    have hb0:0≤m0.1∧m0.1≤255:=by
     have hmem:=(hlaw.1 m0.1).1 ⟨m0,by simp,Int.le_refl _,hlaw.2 m0 (by simp)⟩
     obtain⟨pp,hpp,h1,h2⟩:=hmem.1
     have:=hme pp hpp;omega
    have t3:IntKind.u8.wrap m0.1=m0.1:=wrap_u8 hb0
    have hap:=Yq (A:=[.tok 1 i nl]) (id:=0) (n:=i) (h:= .uq) (nl:=nl) (bytes:=1) (es:=bs.map (PV.int .u8)) rfl (by simp[hlen]) (by unfold ab;omega) (.int .u8 m0.1)
    rw[List.set_cons_zero] at hap
    have lm':∀ H,Tb H 0 (.pv (.lit 2 (Xd (m0::mm))))=some (mm.length+1):=lm
    have hbm:(bs++[m0.1]).map (PV.int .u8)=bs.map (PV.int .u8)++[.int .u8 m0.1]:=by simp
    generalize Xd (m0::mm)=L at *
    simp -implicitDefEqProofs only[SP,WP,ga,sevalprocAttr,ig,e1,t2,t3,a1,a2,r0,r1,q0,hmt,lm',z1,i0,hap,na,za,AV.cut,oa,ua,qK]
    subst hQ
    refine⟨false,bs++[m0.1],by rw[hbm],by simp[hlen],by simp,?_,?_⟩
    ·intro b hb
     rcases List.mem_append.1 hb with h | h
     ·exact hby b h
     ·simp at h;subst h;exact hb0
    ·rw[hs,hm']
     cases fc p.parts q.parts m (i+1) <;> simp
  ·rintro t ⟨nl,bs,rfl,hlen,hnl,hby,hs⟩
   rw[Nat.sub_self,fc] at hs
   have e1:decide ((n:Int) < (n:Int))=false:=Ha (by omega)
   generalize hQ:(fun r:Ex×St=>r.1.stop=true∧_)=QQ
   simp -implicitDefEqProofs only[SX,sevalprocAttr,ig,e1,qK]
   subst hQ
   exact⟨rfl,_,_,.inr ⟨nl,bs,rfl,by simp[Tr.aa],hnl,by rw[hs];simp,hlen,hby⟩⟩
 obtain⟨r,h1,E,H,h2⟩:=pc hloop
 have h1':pb (ma (qa (Ca (fun _=>none) 8) ig) (na 1 [3,4,8,34,35])) pa ⟨((((Tr.lf.set 35 (.pv (.int .i64 0))).set 34 (.pv (i64 n))).set 8 (.uq 0 true 1 [])).set 4 (.pv (.rp [Q,i64 q.first] 0))).set 3 (.pv (.rp [P,i64 p.first] 0)),[.tok 1 0 true]⟩=some r:=h1
 have d0:decide ((n:Int) < 0)=false:=Ha (by omega)
 have d1:decide ((n:Int) > (if (q.parts.length:Int) < (p.parts.length:Int) then (q.parts.length:Int) else (p.parts.length:Int)))=false:=Ha (by split <;> omega)
 have hz:(0 < 1)=True:=by simp
 have r2:∀ H (x y:PV),ta H true 2 (.pv (.rp [x,y] 0))=some (.pv (.agg [x,y])):=fun H x y=>rfl
 have r0:∀ H (x y:PV),ta H false 1 (.pv (.rp [x,y] 0))=some (.pv x):=fun H x y=>rfl
 have q0:∀ H (x y:PV),place H 0 (.pv (.rp [x,y] 0))=some (.pv (.rp [x,y] 0)):=fun H x y=>rfl
 rcases h2 with⟨rfl,h6,h7,hnone⟩ | ⟨nl,bs,rfl,h8',hnl,hsome,hlen,hby⟩
 ·refine⟨fun _=> ?_,fun bs hbs=>by rw[hnone] at hbs;cases hbs⟩
  simp -implicitDefEqProofs only[Wh,SX,sevalprocAttr,Ek,Fb,hP1,hQ1,r2,r0,q0,hb1,hb2,lP,lQ,Br,Fe,d0,d1,ff,hz,na,za,AV.cut,oa,ua,h1',h6,h7]
 ·refine⟨fun hn=>(by rw[hsome] at hn;cases hn),fun bs' hbs=> ?_⟩
  rw[hsome] at hbs;injection hbs with hbs;subst hbs
  cases nl with
  |true=>
   have:=hnl rfl;subst this
   refine⟨.fa,?_,.inl ⟨rfl,rfl⟩,hlen,hby⟩
   simp -implicitDefEqProofs only[Wh,SX,sevalprocAttr,Ek,Fb,hP1,hQ1,r2,r0,q0,hb1,hb2,lP,lQ,Br,Fe,d0,d1,ff,hz,na,za,AV.cut,oa,ua,h1',h8']
  |false=>
   refine⟨.lit 1 (bs.map (PV.int .u8)),?_,.inr rfl,hlen,hby⟩
   simp -implicitDefEqProofs only[Wh,SX,sevalprocAttr,Ek,Fb,hP1,hQ1,r2,r0,q0,hb1,hb2,lP,lQ,Br,Fe,d0,d1,ff,hz,na,za,AV.cut,oa,ua,h1',h8']
end Go.AM.B1
namespace Go.AM.B1
open Go.AM Go.AM.So
def La:List (List (Int×Int))→Int
 | []=>1
 |l::r=>La r * oc 0 l
theorem Vf:∀ {ls:List (List (Int×Int))},(∀ l∈ls,Bd l)→1≤La ls
 | [],_=>by simp[La]
 |l::r,h=>by
  have h1:=Vf (ls:=r) fun x hx=>h x (by simp[hx])
  have h2:=(zg (h l (by simp))).1
  rw[La]
  have:=Int.mul_le_mul h1 h2 (by omega) (by omega);omega
theorem Ky:∀ (ls:List (List (Int×Int))) (n:Int),(∀ l∈ls,Bd l)→1≤n→n≤1073741825→wh n ls=if 1073741825 < n * La ls then 1073741825 else n * La ls
 | [],n,_,h1,h2=>by rw[wh,La,Int.mul_one,if_neg (by omega)]
 |l::r,n,h,h1,h2=>by
  have hs:=zg (h l (by simp))
  have hm:=ax h1 h2 hs.1 hs.2
  have hp:=Vf (ls:=r) fun x hx=>h x (by simp[hx])
  have e:n * (La r * oc 0 l)=(n * oc 0 l) * La r:=by rw[Int.mul_comm (La r),Int.mul_assoc]
  rw[wh,La,e]
  by_cases hc:1073741825 < n * oc 0 l
  ·rw[if_pos hc,Ky r _ (fun x hx=>h x (by simp[hx])) (by omega) (by omega)]
   have h3:n * oc 0 l * 1≤n * oc 0 l * La r:=Int.mul_le_mul_of_nonneg_left hp (by omega)
   rw[if_pos (show 1073741825 < n * oc 0 l * La r by omega)]
   split
   ·rfl
   ·have h4:1073741825 * 1≤1073741825 * La r:=Int.mul_le_mul_of_nonneg_left hp (by omega)
    omega
  ·rw[if_neg hc,Ky r _ (fun x hx=>h x (by simp[hx])) (by omega) (by omega)]
theorem Ie.prod {s:qc} (h:Ie s):wh 1 s.parts=La s.parts∧La s.parts≤1073741824:=by
 have h1:=Ky s.parts 1 h.parts (by omega) (by omega)
 have h2:=h.last
 have h3:=h.f0
 unfold ai at h2
 rw[Int.one_mul] at h1
 split at h1
 ·omega
 ·exact⟨h1,by omega⟩
theorem Ie.ai {s:qc} (h:Ie s):B1.ai s=s.first+La s.parts - 1:=by
 unfold B1.ai;rw[h.prod.1]
theorem Xp {ls:List (List (Int×Int))} (h:∀ l∈ls,Bd l) (i:Nat):La (ls.drop i)≤La ls:=by
 induction ls generalizing i with
 |nil=>simp
 |cons l r ih=>
  cases i with
  |zero=>simp
  |succ i=>
   rw[List.drop_succ_cons,La]
   have h1:=ih (fun x hx=>h x (by simp[hx])) i
   have h2:=(zg (h l (by simp))).1
   have hp:=Vf (ls:=r) fun x hx=>h x (by simp[hx])
   have:La r * 1≤La r * oc 0 l:=Int.mul_le_mul_of_nonneg_left h2 (by omega)
   omega
def Aq (l:List Int) (fl:Nat) (nl:Bool):ba:= .seq 1 false (Ja l) fl nl
section
variable {A:List ba} {id n fl:Nat} {nl:Bool} {l:List Int} (hg:A[id]? =some (Aq l fl nl)) (hn:n=l.length) (hf:fl≤n)
include hg hn
theorem ZE (hf:fl≤n) {i:Int} {k:Nat} (hi:i=(k:Int)) (hk:k < n):wa A 1 (.own id n) i=some (.Mc id n k):=by
 have:=ib l
 subst hi
 simp only[wa,hg,Aq]
 rw[if_pos (by refine⟨trivial,?_,?_⟩ <;> first | (unfold Ga;omega) | (unfold jh;omega))]
 simp
theorem dD {k:Nat} (hk:k < n) (v:Int):Ea A 1 (.Mc id n k) (.pv (i64 v))=some (A.set id (Aq (l.set k v) n nl)):=by
 have hl:=ib l
 have hc:(AV.pv (i64 v)).cells=[.pv (i64 v)]:=rfl
 simp only[Ea,hg,Aq,hc]
 rw[if_pos ⟨rfl,rfl⟩,if_pos ⟨by omega,by omega⟩,ga,ga,nj]
theorem zQ (d:Nat):Rb A (d+1) (.own id n)=some (if nl then .fa else .lit 1 (l.map i64)):=by
 have hl:=ib l
 subst hn
 simp only[Rb,hg,Aq]
 have hm:Pa (Rb A d) (Ja l)=some (l.map i64):=by rw[dt,HC]
 have hck:∀ l:List Int,chunk 1 false l.length (l.map i64)=l.map i64:=by
  intro l
  induction l with
  |nil=>rfl
  |cons a l ih=>simp only[List.map_cons,List.length_cons,chunk,Bool.false_eq_true,if_false,List.headD_cons,List.drop_succ_cons,List.drop_zero];rw[ih]
 rw[if_pos ⟨by omega,by rfl⟩,hm]
 cases nl with
 |true=>rfl
 |false=>simp only[Bool.false_eq_true,if_false,Option.map_some,hck]
end
theorem cJ (l:List Int) (fl:Nat) (nl:Bool) (n:Nat):oa n (Aq l fl nl)=some (Aq l fl nl):=by
 have:(Ja l).all (AV.ue n deep)=true:=by
  rw[List.all_eq_true]
  intro v hv
  obtain⟨p,_,rfl⟩:=List.mem_map.1 hv
  rfl
 simp[oa,Aq,this]
def Xl (ls:List (List (Int×Int))) (i:Nat):List Int:=(List.range (ls.length+1)).map fun j=>if i < j then La (ls.drop j) else 0
theorem xx (ls:List (List (Int×Int))) (i:Nat):(Xl ls i).length=ls.length+1:=by simp[Xl]
theorem pQ (ls:List (List (Int×Int))) (i:Nat) (hi:i < ls.length):(Xl ls (i+1)).set (i+1) (La (ls.drop (i+1)))=Xl ls i:=by
 apply List.ext_getElem
 ·simp[Xl]
 ·intro j h1 h2
  rw[List.getElem_set]
  simp only[Xl,List.getElem_map,List.getElem_range]
  by_cases hj:i+1=j
  ·subst hj;simp
  ·rw[if_neg hj]
   by_cases h:i+1 < j
   ·rw[if_pos h,if_pos (by omega)]
   ·rw[if_neg h,if_neg (by omega)]
def Vj (ls:List (List (Int×Int))):List Int:=(List.range (ls.length+1)).map fun j=>La (ls.drop j)
theorem bM (ls:List (List (Int×Int))):(Xl ls 0).set 0 (La ls)=Vj ls:=by
 apply List.ext_getElem
 ·simp[Xl,Vj]
 ·intro j h1 h2
  rw[List.getElem_set]
  simp only[Xl,Vj,List.getElem_map,List.getElem_range]
  by_cases hj:0=j
  ·subst hj;simp
  ·rw[if_neg hj,if_pos (by omega)]
abbrev PN (row:List PV) (m:Nat) (n i:Int):Tr:=(((Tr.lf.set 5 (.pv (i64 i))).set 4 (.pv (i64 n))).set 3 (.own 0 m)).set 1 (.pv (.rp row 0))
theorem fG {e:PV} {s:qc} {P:PV} {ps:List PV} (h:zf e s P ps) (Ba:Ie s):Bl [e]=some (.lit 1 ((Vj s.parts).map i64)):=by
 obtain⟨hP1,hP2⟩:=h.cw
 have heq:=h.eq
 subst heq
 have hP:=h.parts
 have lP:=hP.Tb
 have h8:=Ba.hi
 have hpr:=Ba.prod.2
 have hloop:Pd (fun r=>∃ E,r=(.exit 0,⟨E,[Aq (Xl s.parts 0) (s.parts.length+1) false]⟩)∧E.get 3= .own 0 (s.parts.length+1)∧E.get 4= .pv (i64 (La s.parts)))
  (pb (ma (qa (Ca (fun _=>none) 8) Jh) (na 1 [1,3,4,5])) pa ⟨PN [P,i64 s.first] (s.parts.length+1) 1 s.parts.length,[Aq (Xl s.parts s.parts.length) 0 false]⟩):=by
  refine ya (Up (g:=ma (qa (Ca (fun _=>none) 8) Jh) (na 1 [1,3,4,5]))
   (fun i t=>∃ fl,i≤s.parts.length∧t=⟨PN [P,i64 s.first] (s.parts.length+1) (La (s.parts.drop i)) i,[Aq (Xl s.parts i) fl false]⟩∧fl≤s.parts.length+1∧(i < s.parts.length∨s.parts.length=0→fl=s.parts.length+1∨s.parts.length=0))
   pa s.parts.length _ (by unfold pa;omega) ⟨0,Nat.le_refl _,by rw[List.drop_length];rfl,by omega,fun h=>by omega⟩ ?_) (fun r h=>h.2)
  rintro i t ⟨fl,hi,rfl,hfl,hfl2⟩
  cases i with
  |zero=>
   have h1:=Ba.lo
   have:fl=s.parts.length+1:=by rcases hfl2 (.inl (by omega)) with h | h <;> omega
   subst this
   have e1:decide (((0:Nat):Int) > 0)=false:=by decide
   generalize hQ:LQ _ _ _=Q
   simp -implicitDefEqProofs only[SX,sevalprocAttr,-List.reduceReplicate,Jh,e1,PN]
   subst hQ
   exact⟨_,rfl,by simp[Tr.aa],by simp[Tr.aa]⟩
  |succ i=>
   have e1:decide (((i+1:Nat):Int) > 0)=true:=Fa (by omega)
   have t1:IntKind.i64.wrap (((i+1:Nat):Int) - 1)=(i:Int):=by rw[Aa (by omega)];omega
   have hg:[Aq (Xl s.parts (i+1)) fl false][0]? =some (Aq (Xl s.parts (i+1)) fl false):=rfl
   have a1:=ZE hg (n:=s.parts.length+1) (xx _ _).symm hfl (i:=((i+1:Nat):Int)) rfl (by omega)
   have s1:=dD hg (n:=s.parts.length+1) (xx _ _).symm (k:=i+1) (by omega) (La (s.parts.drop (i+1)))
   rw[List.set_cons_zero,pQ s.parts i (by omega)] at s1
   obtain⟨v,hv,hpt,_⟩:=hP.Sd (i:=i) (by omega) []
   have a2:=hP.bw hv
   have hpo:=Ba.parts s.parts[i] (List.getElem_mem (by omega))
   have hss:=zw v s.parts[i] hpt.is hpt.sz hpo.2
   have hd:s.parts.drop i=s.parts[i]::s.parts.drop (i+1):=List.drop_eq_getElem_cons (by omega)
   have hpd:La (s.parts.drop i)=La (s.parts.drop (i+1)) * oc 0 s.parts[i]:=by rw[hd,La]
   have hle:=Xp Ba.parts i
   have hpos:=Vf (ls:=s.parts.drop i) fun x hx=>Ba.parts x (List.mem_of_mem_drop hx)
   rw[hpd] at hle hpos
   generalize s.parts[i]=l at *
   have t3:IntKind.i64.wrap (La (s.parts.drop (i+1)) * oc 0 l)=La (s.parts.drop (i+1)) * oc 0 l:=Aa (by omega)
   have r0:∀ H (x y:PV),ta H false 1 (.pv (.rp [x,y] 0))=some (.pv x):=fun H x y=>rfl
   have r1:∀ H (x:PV),ta H false 1 (.pv (.rp [x] 0))=some (.pv x):=fun H x=>rfl
   have q0:∀ H (x y:PV),place H 0 (.pv (.rp [x,y] 0))=some (.pv (.rp [x,y] 0)):=fun H x y=>rfl
   have hcut:∀ l' fl',Pa (oa 1) [Aq l' fl' false]=some [Aq l' fl' false]:=fun l' fl'=>by simp[Pa,cJ]
   have hz:(0 < 1)=True:=by simp
   have htk:∀ o:ba,[o].take 1=[o]:=fun o=>rfl
   generalize hQ:LQ _ _ _=Q
   simp -implicitDefEqProofs only[SP,WP,ga,sevalprocAttr,-List.reduceReplicate,Jh,e1,t1,t3,a1,s1,a2,hss,r0,r1,q0,hcut,hz,htk,na,za,AV.cut,ua,PN]
   subst hQ
   exact⟨i,by omega,s.parts.length+1,by omega,by rw[hpd],by omega,fun _=> .inl rfl⟩
 obtain⟨r,h1,E,rfl,hE3,hE4⟩:=pc hloop
 have h1':pb (ma (qa (Ca (fun _=>none) 8) Jh) (na 1 [1,3,4,5])) pa ⟨(((Tr.lf.set 5 (.pv (i64 s.parts.length))).set 4 (.pv (.int .i64 1))).set 3 (.own 0 (s.parts.length+1))).set 1 (.pv (.rp [P,i64 s.first] 0)),[Aq (Xl s.parts s.parts.length) 0 false]⟩=_:=h1
 have hz0:ba.seq 1 false (tj [PV.int .i64 0] (s.parts.length+1)) 0 false=Aq (Xl s.parts s.parts.length) 0 false:=by
  rw[dG,Aq]
  congr 2
  apply List.ext_getElem
  ·simp[Xl]
  ·intro j hj1 hj2
   simp at hj1
   simp only[Xl,List.getElem_replicate,List.getElem_map,List.getElem_range]
   rw[if_neg (by omega)]
 have t1:IntKind.i64.wrap ((s.parts.length:Int)+1)=((s.parts.length+1:Nat):Int):=Aa (by omega)
 have e2:(0≤((s.parts.length+1:Nat):Int))=True:=by simp;omega
 have e3:(((s.parts.length+1:Nat):Int)≤((s.parts.length+1:Nat):Int))=True:=by simp
 have e4:ab (s.parts.length+1) 8:=by unfold ab;omega
 have hg:[Aq (Xl s.parts 0) (s.parts.length+1) false][0]? =some (Aq (Xl s.parts 0) (s.parts.length+1) false):=rfl
 have a1:=ZE hg (n:=s.parts.length+1) (xx _ _).symm (Nat.le_refl _) (i:=0) (k:=0) rfl (by omega)
 have s1:=dD hg (n:=s.parts.length+1) (xx _ _).symm (k:=0) (by omega) (La s.parts)
 rw[List.set_cons_zero,bM] at s1
 have hpv:=zQ (A:=[Aq (Vj s.parts) (s.parts.length+1) false]) (id:=0) (n:=s.parts.length+1) rfl (by simp[Vj]) 5
 rw[if_neg (by simp)] at hpv
 have r0:∀ H (x y:PV),ta H false 1 (.pv (.rp [x,y] 0))=some (.pv x):=fun H x y=>rfl
 have q0:∀ H (x y:PV),place H 0 (.pv (.rp [x,y] 0))=some (.pv (.rp [x,y] 0)):=fun H x y=>rfl
 have hcut:∀ l' fl',Pa (oa 1) [Aq l' fl' false]=some [Aq l' fl' false]:=fun l' fl'=>by simp[Pa,cJ]
 have hz:(0 < 1)=True:=by simp
 have htk:∀ o:ba,[o].take 1=[o]:=fun o=>rfl
 generalize s.parts.length+1=m at *
 simp -implicitDefEqProofs only[Bl,SP,WP,ga,sevalprocAttr,-List.reduceReplicate,Es,Fb,hP1,r0,q0,lP,t1,e2,e3,eq_true e4,hz0,hcut,hz,htk,na,za,AV.cut,h1',hE3,hE4,a1,s1,hpv,ua]
end Go.AM.B1
namespace Go.AM.B1
open Go.AM Go.AM.So
def cq:List (List (Int×Int))→List Int→Int→Option Int
 |l::r,x::b,k=>if (kg x 0 l).2=true then cq r b (k+(kg x 0 l).1 * La r) else none
 |_,_,k=>some k
def cA (s:qc) (b:List Int):Option Int:=if b.length=s.parts.length then cq s.parts b 0 else none
theorem LB {top x:Int}:∀ {l:List (Int×Int)} {last n:Int},Na top last l=true→(kg x n l).2=true→n≤(kg x n l).1∧(kg x n l).1 < n+oc 0 l
 | [],last,n,_,h=>by simp[kg] at h
 |p::l,last,n,hv,h=>by
  obtain⟨h1,h2,h3,h4,h5⟩:=Vd hv
  have hs:=(Uq h5).1
  rw[kg] at h ⊢
  rw[oc,oA]
  by_cases c1:x < p.1
  ·rw[if_pos c1] at h;cases h
  ·rw[if_neg c1] at h ⊢
   by_cases c2:x≤p.2
   ·rw[if_pos c2];simp only;omega
   ·rw[if_neg c2] at h ⊢
    have:=LB h5 h;omega
theorem dO {l:List (Int×Int)} (h:Na 255 (-2) l=true):Ey l=l:=by unfold Ey;rw[if_pos h]
theorem VJ (H:List ba) {sz k:Nat} {es:List PV} (hz:0 < sz) (hk:k≤es.length):Bg H sz (.pv (.lit sz es)) (some (k:Int)) none=some (.pv (.lit sz (es.drop k))):=by
 simp only[Bg,Option.getD_some,Option.getD_none]
 rw[if_pos ⟨hz,trivial,by omega,by omega,by omega⟩]
 simp
theorem xD (b:List Int) (k:Int):cq [] b k=some k:=by cases b <;> rfl
abbrev IJ (row:List PV) (B S:PV) (n i k:Int):Tr:=(((((Tr.lf.set 26 (.pv (i64 i))).set 25 (.pv (i64 n))).set 24 (.pv S)).set 6 (.pv (i64 k))).set 2 (.pv (.rp row 0))).set 1 (.pv B)
structure Cr (B:PV) (bs:List Int):Prop where
 is:Vh 1 B (bs.map (PV.int .u8))
 JI:∀ b∈bs,0≤b∧b≤255
theorem Cr.Tb {B:PV} {bs:List Int} (h:Cr B bs) (H:List ba):Go.AM.Tb H 0 (.pv B)=some bs.length:=by
 rw[h.is.len];simp
theorem Cr.one {B:PV} {bs:List Int} (h:Cr B bs):(AV.pv B).one=true:=by
 rcases h.is with⟨h,_⟩ | h <;> rw[h] <;> rfl
theorem Cr.Sd {B:PV} {bs:List Int} (h:Cr B bs) {i:Nat} (hi:i < bs.length) (H:List ba):wa H 1 (.pv B) (i:Int)=some (.pv (.rp [.int .u8 bs[i]] 0)):=by
 have hl:=h.is.lit (i:=i) (by simpa using hi)
 rw[hl]
 simp only[wa]
 rw[if_pos (by unfold Ga;simp;omega),Int.toNat_natCast,List.getElem?_map,List.getElem?_eq_getElem hi];rfl
theorem UE {e:PV} {s:qc} {P:PV} {ps:List PV} (h:zf e s P ps) {B:PV} {bs:List Int} (hB:Cr B bs) (Ba:Ie s):
 (∀ k,cA s bs=some k→Qi [e,B]=some (.ic [i64 k,.bool true]))∧(cA s bs=none→Qi [e,B]=some (.ic [i64 0,.bool false])):=by
 obtain⟨b1,hb1,hb1'⟩:=Hl h
 have:=hb1'.2 Ba
 subst this
 have hst:=fG h Ba
 obtain⟨hP1,hP2⟩:=h.cw
 have heq:=h.eq
 subst heq
 have hP:=h.parts
 have lP:=hP.Tb
 have lB:=hB.Tb
 have hB1:=hB.one
 have h8:=Ba.hi
 have hpr:=Ba.prod.2
 have r2:∀ H (x y:PV),ta H true 2 (.pv (.rp [x,y] 0))=some (.pv (.agg [x,y])):=fun H x y=>rfl
 have r0:∀ H (x y:PV),ta H false 1 (.pv (.rp [x,y] 0))=some (.pv x):=fun H x y=>rfl
 have r1:∀ H (x:PV),ta H false 1 (.pv (.rp [x] 0))=some (.pv x):=fun H x=>rfl
 have q0:∀ H (x y:PV),place H 0 (.pv (.rp [x,y] 0))=some (.pv (.rp [x,y] 0)):=fun H x y=>rfl
 by_cases hlen:bs.length=s.parts.length
 ·have hrk:cA s bs=cq s.parts bs 0:=by unfold cA;rw[if_pos hlen]
  have hsl:∀ H,Bg H 1 (.pv (.lit 1 ((Vj s.parts).map i64))) (some 1) none=some (.pv (.lit 1 (((Vj s.parts).map i64).drop 1))):=fun H=>VJ H (k:=1) (by omega) (by simp[Vj])
  have hdl:(((Vj s.parts).map i64).drop 1).length=s.parts.length:=by simp[Vj]
  have hde:∀ i,i < s.parts.length→(((Vj s.parts).map i64).drop 1)[i]? =some (i64 (La (s.parts.drop (i+1)))):=by
   intro i hi
   rw[List.getElem?_drop,List.getElem?_map,Vj,List.getElem?_map,List.getElem?_range (by omega),Nat.add_comm 1 i];rfl
  generalize ((Vj s.parts).map i64).drop 1=S at *
  have hloop:Pd (fun r=>∃ E,(r=(.ret,⟨E,[]⟩)∧E.get 4= .pv (i64 0)∧E.get 5= .pv (.bool false)∧cq s.parts bs 0=none)∨(∃ k,r=(.exit 0,⟨E,[]⟩)∧E.get 6= .pv (i64 k)∧cq s.parts bs 0=some k))
   (pb (ma (qa (Ca (fun _=>none) 8) th) (na 0 [1,2,6,24,25,26])) pa ⟨IJ [P,i64 s.first] B (.lit 1 S) s.parts.length 0 0,[]⟩):=by
   refine ya (Mb (g:=ma (qa (Ca (fun _=>none) 8) th) (na 0 [1,2,6,24,25,26]))
    (fun i t=>∃ k,t=⟨IJ [P,i64 s.first] B (.lit 1 S) s.parts.length i k,[]⟩∧0≤k∧k+La (s.parts.drop i)≤La s.parts∧cq s.parts bs 0=cq (s.parts.drop i) (bs.drop i) k)
    s.parts.length (by unfold pa;omega) _ ⟨0,rfl,by omega,by simp,rfl⟩ ?_ ?_) (fun r h=>h.2)
   ·rintro i t hi ⟨k,rfl,hk0,hk1,hs⟩
    obtain⟨v,hv,hpt,_⟩:=hP.Sd hi []
    have a2:=hP.bw hv
    have hpo:=Ba.parts s.parts[i] (List.getElem_mem hi)
    have hib:i < bs.length:=by omega
    have a3:=hB.Sd hib
    have hbr:=hB.JI bs[i] (List.getElem_mem hib)
    have hd:s.parts.drop i=s.parts[i]::s.parts.drop (i+1):=List.drop_eq_getElem_cons hi
    have hdb:bs.drop i=bs[i]::bs.drop (i+1):=List.drop_eq_getElem_cons hib
    have hrr:=Yv v s.parts[i] hpt.is hpt.sz bs[i]
    rw[dO hpo.2] at hrr
    have hrb:=LB (x:=bs[i]) (n:=0) hpo.2
    rw[hd,La] at hk1
    rw[hd,hdb,cq] at hs
    have hle:=Xp Ba.parts (i+1)
    have hpos:=Vf (ls:=s.parts.drop (i+1)) fun x hx=>Ba.parts x (List.mem_of_mem_drop hx)
    have hsz:=zg hpo
    generalize s.parts[i]=l at *
    generalize bs[i]=x at *
    have e1:decide ((i:Int) < (s.parts.length:Int))=true:=Fa (by omega)
    have t2:=eb hi (by unfold maxLen;omega)
    have t3:IntKind.i64.wrap x=x:=Aa (by omega)
    have a1:∀ H,wa H 1 (.pv (.lit 1 S)) (i:Int)=some (.pv (.rp [i64 (La (s.parts.drop (i+1)))] 0)):=fun H=>by
     simp only[wa]
     rw[if_pos (by unfold Ga;simp;omega),Int.toNat_natCast,hde i hi];rfl
    obtain⟨⟨d,is⟩,hrk2⟩:∃ r,r=kg x 0 l:=⟨_,rfl⟩
    rw[← hrk2] at hrr hs hrb
    generalize hQ:LN _ _ i=Q
    cases is with
    |false=>
     simp only[Bool.false_eq_true,if_false] at hs
     simp -implicitDefEqProofs only[SX,sevalprocAttr,-List.reduceReplicate,th,e1,a1,a2,a3,r0,r1,q0,t3,hrr,IJ]
     subst hQ
     exact⟨_,.inl ⟨rfl,by simp[Tr.aa],by simp[Tr.aa],hs⟩⟩
    |true=>
     simp only[if_true] at hs
     have hb2:=hrb rfl
     simp only at hb2
     have hmul:d * La (s.parts.drop (i+1))+La (s.parts.drop (i+1))≤La (s.parts.drop (i+1)) * oc 0 l:=by
      have h1:(d+1) * La (s.parts.drop (i+1))≤oc 0 l * La (s.parts.drop (i+1)):=Int.mul_le_mul_of_nonneg_right (by omega) (by omega)
      rw[Int.add_mul,Int.one_mul,Int.mul_comm (oc 0 l)] at h1
      exact h1
     have hm0:0≤d * La (s.parts.drop (i+1)):=Int.mul_nonneg (by omega) (by omega)
     have t4:IntKind.i64.wrap (d * La (s.parts.drop (i+1)))=d * La (s.parts.drop (i+1)):=Aa (by omega)
     have t5:IntKind.i64.wrap (k+d * La (s.parts.drop (i+1)))=k+d * La (s.parts.drop (i+1)):=Aa (by omega)
     simp -implicitDefEqProofs only[SX,sevalprocAttr,-List.reduceReplicate,th,e1,t2,t4,t5,a1,a2,a3,r0,r1,q0,t3,hrr,na,za,AV.cut,ua,IJ]
     subst hQ
     exact⟨_,rfl,by omega,by omega,hs⟩
   ·rintro t ⟨k,rfl,hk0,hk1,hs⟩
    rw[List.drop_length,xD] at hs
    have e1:decide ((s.parts.length:Int) < (s.parts.length:Int))=false:=Ha (by omega)
    generalize hQ:(fun r:Ex×St=>r.1.stop=true∧_)=Q
    simp -implicitDefEqProofs only[SX,sevalprocAttr,-List.reduceReplicate,th,e1,IJ]
    subst hQ
    exact⟨rfl,_,.inr ⟨k,rfl,by simp[Tr.aa],hs⟩⟩
  obtain⟨r,h1,E,h2⟩:=pc hloop
  have h1':pb (ma (qa (Ca (fun _=>none) 8) th) (na 0 [1,2,6,24,25,26])) pa ⟨(((((Tr.lf.set 26 (.pv (.int .i64 0))).set 25 (.pv (i64 s.parts.length))).set 24 (.pv (.lit 1 S))).set 6 (.pv (.int .i64 0))).set 2 (.pv (.rp [P,i64 s.first] 0))).set 1 (.pv B),[]⟩=some r:=h1
  have d1:((bs.length:Int) != (s.parts.length:Int))=false:=by rw[hlen];simp
  rw[hrk]
  rcases h2 with⟨rfl,h4,h5,hn⟩ | ⟨k,rfl,h6,hk⟩
  ·refine⟨fun k hk=>by (rw[hn] at hk;cases hk),fun _=> ?_⟩
   simp -implicitDefEqProofs only[Qi,SX,sevalprocAttr,-List.reduceReplicate,Om,Fb,hP1,hB1,r2,r0,q0,hb1,lP,lB,d1,hst,hsl,hdl,na,za,AV.cut,ua,h1',h4,h5]
  ·refine⟨fun k' hk'=> ?_,fun hn=>by (rw[hk] at hn;cases hn)⟩
   obtain rfl:k=k':=Option.some.inj (hk.symm.trans hk')
   simp -implicitDefEqProofs only[Qi,SX,sevalprocAttr,-List.reduceReplicate,Om,Fb,hP1,hB1,r2,r0,q0,hb1,lP,lB,d1,hst,hsl,hdl,na,za,AV.cut,ua,h1',h6]
 ·have d1:((bs.length:Int) != (s.parts.length:Int))=true:=by
   have:(bs.length:Int)≠(s.parts.length:Int):=by omega
   simp[this]
  have hrk:cA s bs=none:=by unfold cA;rw[if_neg hlen]
  refine⟨fun k hk=>by (rw[hrk] at hk;cases hk),fun _=> ?_⟩
  simp -implicitDefEqProofs only[Qi,SX,sevalprocAttr,-List.reduceReplicate,Om,Fb,hP1,hB1,r2,r0,q0,hb1,lP,lB,d1]
end Go.AM.B1
namespace Go.AM.B1
open Go.AM Go.AM.So
abbrev TH (bs:List Int):List PV:=bs.map (PV.int .u8)
abbrev yN (row:List PV) (P:PV) (n i:Int) (tk:Nat) (es:List PV):Tr:=((((Tr.lf.set 19 (.pv (i64 i))).set 18 (.pv (i64 n))).set 17 (.pv P)).set 5 (.uq tk false 1 es)).set 2 (.pv (.rp row 0))
theorem LG {e:PV} {s:qc} {P:PV} {ps:List PV} (h:zf e s P ps) {B:PV} {bs:List Int} (hB:Cr B bs) (Ba:Ie s) (hlen:bs.length≤s.parts.length):
 ∃ k,Rj [e,B]=some (i64 k):=by
 have hh:=h
 obtain⟨hP1,hP2⟩:=h.cw
 have heq:=h.eq
 subst heq
 have hP:=h.parts
 have lP:=hP.Tb
 have lB:=hB.Tb
 have hB1:=hB.one
 have h8:=Ba.hi
 have hPl:P= .lit 1 ps:=hP.is.lit (i:=0) (by rw[hP.len];exact Ba.lo)
 have r2:∀ H (x y:PV),ta H true 2 (.pv (.rp [x,y] 0))=some (.pv (.agg [x,y])):=fun H x y=>rfl
 have r0:∀ H (x y:PV),ta H false 1 (.pv (.rp [x,y] 0))=some (.pv x):=fun H x y=>rfl
 have r01:∀ H (x y:PV),ta H false 1 (.pv (.rp [x,y] 1))=some (.pv y):=fun H x y=>rfl
 have r1:∀ H (x:PV),ta H false 1 (.pv (.rp [x] 0))=some (.pv x):=fun H x=>rfl
 have q0:∀ H (x y:PV),place H 0 (.pv (.rp [x,y] 0))=some (.pv (.rp [x,y] 0)):=fun H x y=>rfl
 have q1:∀ H (x y:PV),place H 1 (.pv (.rp [x,y] 0))=some (.pv (.rp [x,y] 1)):=fun H x y=>rfl
 have hsl:∀ H,Bg H 1 (.pv P) (some (bs.length:Int)) none=some (.pv (.lit 1 (ps.drop bs.length))):=fun H=>by rw[hPl];exact VJ H (by omega) (by rw[hP.len];exact hlen)
 have hdl:(ps.drop bs.length).length=s.parts.length - bs.length:=by rw[List.length_drop,hP.len]
 have hap0:Gb [.tok 1 0 false] false .uq 1 false 1 (.uq 0 false 1 []) (.pv B)=some (.uq 0 false 1 (TH bs),[.tok 1 bs.length false]):=by
  have he:xf 1 (.pv B)=some (TH bs):=by
   rcases hB.is with⟨rfl,hbs⟩ | rfl
   ·have:TH bs=[]:=hbs
    rw[this];rfl
   ·simp[xf,TH]
  simp only[Gb,Bool.false_eq_true,if_false,List.getElem?_cons_zero,he,Option.bind_some,List.length_nil,Nat.zero_add,List.nil_append]
  rw[if_pos ⟨trivial,trivial,trivial,by unfold ab;simp[TH];omega⟩]
  simp[TH]
 have hloop:Pd (fun r=>∃ E H bs',r=(.exit 0,⟨E,H⟩)∧E.get 5= .uq 0 false 1 (TH bs')∧E.get 2= .pv (.rp [P,i64 s.first] 0)∧∀ b∈bs',0≤b∧b≤255)
  (pb (ma (qa (Ca (fun _=>none) 8) Ph) (na 1 [2,5,17,18,19])) pa ⟨yN [P,i64 s.first] (.lit 1 (ps.drop bs.length)) ((s.parts.length - bs.length:Nat):Int) 0 0 (TH bs),[.tok 1 bs.length false]⟩):=by
  refine ya (Mb (g:=ma (qa (Ca (fun _=>none) 8) Ph) (na 1 [2,5,17,18,19]))
   (fun i t=>∃ bs',t=⟨yN [P,i64 s.first] (.lit 1 (ps.drop bs.length)) ((s.parts.length - bs.length:Nat):Int) i 0 (TH bs'),[.tok 1 bs'.length false]⟩∧bs'.length=bs.length+i∧∀ b∈bs',0≤b∧b≤255)
   (s.parts.length - bs.length) (by unfold pa;omega) _ ⟨bs,rfl,rfl,hB.JI⟩ ?_ ?_) (fun r h=>h.2)
  ·rintro i t hi ⟨bs',rfl,hl',hr'⟩
   obtain⟨v,hv,hPl',hpt⟩:=hP.get (i:=bs.length+i) (by omega)
   have hpo:=Ba.parts _ (List.getElem_mem (show bs.length+i < s.parts.length by omega))
   generalize s.parts[bs.length+i]=l at *
   obtain⟨p0,l',rfl⟩:=List.exists_cons_of_ne_nil hpo.1
   have hvl:v= .lit 2 (Xd (p0::l')):=hpt.is.lit (i:=0) (by simp)
   have hcl:v.cells=[v]:=by rw[hvl];rfl
   have e1:decide ((i:Int) < ((s.parts.length - bs.length:Nat):Int))=true:=Fa (by omega)
   have t2:=eb hi (by unfold maxLen;omega)
   have a1:∀ H,wa H 1 (.pv (.lit 1 (ps.drop bs.length))) (i:Int)=some (.pv (.rp [v] 0)):=fun H=>by
    simp only[wa]
    rw[if_pos (by have:=hP.len;unfold Ga;simp;omega),Int.toNat_natCast,List.getElem?_drop,hv]
    simp[hcl]
   have i0:∀ H,wa H 2 (.pv v) 0=some (.pv (.rp [i64 p0.1,i64 p0.2] 0)):=fun H=>by
    rw[hvl];exact Wk H (i:=0) (l:=p0::l') (by simp)
   have hb0:=Vp hpo.2 p0 (by simp)
   have t3:IntKind.u8.wrap p0.1=p0.1:=wrap_u8 (by omega)
   have hap:=Yq (A:=[.tok 1 bs'.length false]) (id:=0) (n:=bs'.length) (h:= .uq) (nl:=false) (bytes:=1) (es:=TH bs') rfl (by simp[TH]) (by unfold ab;omega) (.int .u8 p0.1)
   rw[List.set_cons_zero] at hap
   have hbm:TH (bs'++[p0.1])=TH bs'++[.int .u8 p0.1]:=by simp[TH]
   clear hvl
   generalize hQ:LN _ _ i=Q
   simp -implicitDefEqProofs only[SP,WP,ga,sevalprocAttr,Ph,e1,t2,t3,a1,i0,r0,r1,q0,hap,na,za,AV.cut,oa,ua,yN]
   subst hQ
   refine⟨bs'++[p0.1],by rw[hbm];simp,by simp;omega,?_⟩
   intro b hb
   rcases List.mem_append.1 hb with h | h
   ·exact hr' b h
   ·simp at h;subst h;omega
  ·rintro t ⟨bs',rfl,hl',hr'⟩
   have e1:decide (((s.parts.length - bs.length:Nat):Int) < ((s.parts.length - bs.length:Nat):Int))=false:=Ha (by omega)
   generalize hQ:(fun r:Ex×St=>r.1.stop=true∧_)=Q
   simp -implicitDefEqProofs only[SX,sevalprocAttr,Ph,e1,yN]
   subst hQ
   exact⟨rfl,_,_,bs',rfl,by simp[Tr.aa],by simp[Tr.aa],hr'⟩
 obtain⟨r,h1,E,H,bs',rfl,hE5,hE2,hr'⟩:=pc hloop
 have h1':pb (ma (qa (Ca (fun _=>none) 8) Ph) (na 1 [2,5,17,18,19])) pa ⟨((((Tr.lf.set 19 (.pv (.int .i64 0))).set 18 (.pv (i64 ((s.parts.length - bs.length:Nat):Int)))).set 17 (.pv (.lit 1 (ps.drop bs.length)))).set 5 (.uq 0 false 1 (TH bs))).set 2 (.pv (.rp [P,i64 s.first] 0)),[.tok 1 bs.length false]⟩=_:=h1
 have hBl:Cr (.lit 1 (TH bs')) bs':=⟨.inr rfl,hr'⟩
 have hrk:=UE hh hBl Ba
 have hrk':∃ k b,Qi [.agg [P,i64 s.first],.lit 1 (TH bs')]=some (.ic [i64 k,.bool b]):=by
  cases hk:cA s bs' with
  |some k=>exact⟨k,true,hrk.1 k hk⟩
  |none=>exact⟨0,false,hrk.2 hk⟩
 obtain⟨k,b,hk⟩:=hrk'
 refine⟨IntKind.i64.wrap (s.first+k),?_⟩
 clear hPl
 generalize TH bs=ub at *
 generalize TH bs'=ub' at *
 simp -implicitDefEqProofs only[Rj,SP,WP,ga,sevalprocAttr,Nr,Fb,hP1,hB1,r2,r0,r01,q0,q1,lP,lB,hap0,hsl,hdl,na,za,AV.cut,oa,ua,h1',hE5,hE2,hk]
theorem Za.Sd {S:PV} {ss:List qc} {es:List PV} (hS:Za S ss es) {i:Nat} (hi:i < ss.length):∃ P ps,zf (.agg [P,i64 ss[i].first]) ss[i] P ps∧∀ H,wa H 2 (.pv S) (i:Int)=some (.pv (.rp [P,i64 ss[i].first] 0)):=by
 obtain⟨e,P,ps,he,hSl,hsh⟩:=hS.get hi
 have heq:=hsh.eq
 subst heq
 refine⟨P,ps,hsh,fun H=> ?_⟩
 have hq:i < es.length:=by rw[hS.len];exact hi
 rw[hSl]
 simp only[wa]
 rw[if_pos (by unfold Ga;simp;omega),Int.toNat_natCast,he];rfl
def cf (p q:qc):Bool:=(fc p.parts q.parts p.parts.length 0).isSome
abbrev Vb (y:Bool) (a b:Int):ba:= .box [.pv (.bool y),.pv (i64 a),.pv (i64 b)]
abbrev Ih (P:PV) (f:Int):ba:= .box [.pv P,.pv (i64 f)]
abbrev wG (S:PV) (cix:Nat) (n i j:Int):Tr:=
 (((((((((((Tr.lf.set 29 (.pv (i64 j))).set 28 (.pv (i64 n))).set 27 (.pv S)).set 21 (.pv (i64 i))).set 20 (.pv (i64 n))).set 19 (.pv S)).set 8 (.ptr 4 0)).set 7 (.pv (i64 i))).set 6 (.ptr 3 0)).set 4 (.ptr 2 0)).set 2 (.pv (.rp [S] 0))).set 1 (.Sk cix [.ptr 0 0])
abbrev mO (S:PV) (cix:Nat) (n i:Int):Tr:=
 ((((((Tr.lf.set 21 (.pv (i64 i))).set 20 (.pv (i64 n))).set 19 (.pv S)).set 6 (.ptr 3 0)).set 4 (.ptr 2 0)).set 2 (.pv (.rp [S] 0))).set 1 (.Sk cix [.ptr 0 0])
structure vX (call:Ta) (cix:Nat) (S:PV) (n:Nat) (ask:Nat→Nat→Bool):Prop where
 run:∀ (i j:Nat) (H:List ba),i < n→j < n→H[0]? =some (.box [.pv S])→call cix [.pv (i64 i),.pv (i64 j),.ptr 0 0] H=some (.pv (.bool (ask i j)),H)
section
variable {call:Ta} {cix:Nat} {S:PV} {ss:List qc} {es:List PV} {ask:Nat→Nat→Bool} (hS:Za S ss es) (Ba:Fc ss) (hA:vX call cix S ss.length ask)
 (hask:∀ i j,(hi:i < ss.length)→(hj:j < ss.length)→ask i j=true→ss[i].parts.length≤ss[j].parts.length)
include hS Ba hA hask
theorem GI {i:Nat} (hi:i < ss.length) {P:PV} (hP:∃ ps,zf (.agg [P,i64 ss[i].first]) ss[i] P ps) (X:ba) (hX:∀ n,oa n X=some X):
 Pd (fun r=>(∃ E,r=(.exit 2,⟨E,[.box [.pv S],X,Vb false 0 0,Vb true 0 0,Ih P ss[i].first]⟩)∧E.get 1= .Sk cix [.ptr 0 0]∧E.get 2= .pv (.rp [S] 0)∧E.get 4= .ptr 2 0∧E.get 6= .ptr 3 0∧E.get 19= .pv S∧E.get 20= .pv (i64 ss.length)∧E.get 21= .pv (i64 i)∧∀ j,(hj:j < ss.length)→ask i j=true→cf ss[i] ss[j]=false)∨
  (∃ E a b T,r=(.exit 0,⟨E,[.box [.pv S],X,Vb false 0 0,Vb false a b]++T⟩)∧E.get 4= .ptr 2 0∧E.get 6= .ptr 3 0∧∃ j,∃ hj:j < ss.length,ask i j=true∧cf ss[i] ss[j]=true))
  (pb (ma (qa call dg) (na 5 [1,2,4,6,7,8,19,20,21,27,28,29])) pa ⟨wG S cix ss.length i 0,[.box [.pv S],X,Vb false 0 0,Vb true 0 0,Ih P ss[i].first]⟩):=by
 obtain⟨ps,hPs⟩:=hP
 have h32:=Ba.len
 have okp:=Ba.gu _ (List.getElem_mem hi)
 have hSone:(AV.pv S).one=true:=by rcases hS.is with⟨h,_⟩ | h <;> rw[h] <;> rfl
 obtain⟨hP1,hP2⟩:=hPs.cw
 have lP:=hPs.parts.Tb
 have hask':=fun j hj=>hask i j hi hj
 have hAi:=fun j H (hj:j < ss.length)=>hA.run i j H hi hj
 generalize hp:ss[i]=p at *
 refine ya (Mb (g:=ma (qa call dg) (na 5 [1,2,4,6,7,8,19,20,21,27,28,29]))
  (fun j t=>t=⟨wG S cix ss.length i j,[.box [.pv S],X,Vb false 0 0,Vb true 0 0,Ih P p.first]⟩∧∀ j',j' < j→(hj:j' < ss.length)→ask i j'=true→cf p ss[j']=false)
  ss.length (by unfold pa;omega) _ ⟨rfl,fun j' h=>by omega⟩ ?_ ?_) (fun r h=>h.2)
 ·rintro j t hj ⟨rfl,hno⟩
  obtain⟨Q,qs,hQs,a1⟩:=hS.Sd hj
  have okq:=Ba.gu _ (List.getElem_mem hj)
  have hcm:=vM hPs hQs okp okq (n:=p.parts.length) (Nat.le_refl _)
  have hno':∀ (b:Bool),(ask i j=true→cf p ss[j]=false)→∀ j',j' < j+1→(hj:j' < ss.length)→ask i j'=true→cf p ss[j']=false:=by
   intro _ h j' hj' hjj ha
   rcases Nat.lt_or_ge j' j with h1 | h1
   ·exact hno j' h1 hjj ha
   ·have:j'=j:=by omega
    subst this;exact h ha
  have hle:=hask' j hj
  obtain⟨hQ1,hQ2⟩:=hQs.cw
  have lQ:=hQs.parts.Tb
  have hmt:cf p ss[j]=(fc p.parts ss[j].parts p.parts.length 0).isSome:=rfl
  rw[hmt] at hno'
  have hex:ask i j=true→(fc p.parts ss[j].parts p.parts.length 0).isSome=true→∃ j,∃ hj:j < ss.length,ask i j=true∧cf p ss[j]=true:=fun h1 h2=>⟨j,hj,h1,h2⟩
  have hfirst:∀ {B:PV} {bs:List Int},Cr B bs→bs.length≤ss[j].parts.length→∃ k,Rj [.agg [Q,i64 ss[j].first],B]=some (i64 k):=fun h1 h2=>LG hQs h1 okq h2
  generalize ss[j]=q at *
  have e1:decide ((j:Int) < (ss.length:Int))=true:=Fa (by omega)
  have t2:=eb hj (by unfold maxLen;omega)
  have a2:∀ H,ta H true 2 (.pv (.rp [Q,i64 q.first] 0))=some (.pv (.agg [Q,i64 q.first])):=fun H=>rfl
  have s1:Ea [.box [.pv S],X,Vb false 0 0,Vb true 0 0,Ih P p.first,.box [.pv .fa,.pv (i64 0)]] 2 (.ptr 5 0) (.pv (.agg [Q,i64 q.first]))=some [.box [.pv S],X,Vb false 0 0,Vb true 0 0,Ih P p.first,Ih Q q.first]:=
   rn _ _ _ _ hQ1 rfl [.box [.pv S],X,Vb false 0 0,Vb true 0 0,Ih P p.first] _ rfl
  have hak:=hAi j [.box [.pv S],X,Vb false 0 0,Vb true 0 0,Ih P p.first,Ih Q q.first] hj rfl
  have l1:ta [.box [.pv S],X,Vb false 0 0,Vb true 0 0,Ih P p.first,Ih Q q.first] true 2 (.ptr 4 0)=some (.pv (.agg [P,i64 p.first])):=rfl
  have l2:ta [.box [.pv S],X,Vb false 0 0,Vb true 0 0,Ih P p.first,Ih Q q.first] true 2 (.ptr 5 0)=some (.pv (.agg [Q,i64 q.first])):=rfl
  have l3:ta [.box [.pv S],X,Vb false 0 0,Vb true 0 0,Ih P p.first,Ih Q q.first] false 1 (.ptr 4 0)=some (.pv P):=rfl
  have p3:place [.box [.pv S],X,Vb false 0 0,Vb true 0 0,Ih P p.first,Ih Q q.first] 0 (.ptr 4 0)=some (.ptr 4 0):=rfl
  have s2:∀ a b:Int,Ea [.box [.pv S],X,Vb false 0 0,Vb true 0 0,Ih P p.first,Ih Q q.first] 3 (.ptr 3 0) (.pv (.agg [.bool false,i64 a,i64 b]))=some [.box [.pv S],X,Vb false 0 0,Vb false a b,Ih P p.first,Ih Q q.first]:=fun a b=>rfl
  have hcl5:Pa (oa 5) [.box [.pv S],X,Vb false 0 0,Vb true 0 0,Ih P p.first]=some [.box [.pv S],X,Vb false 0 0,Vb true 0 0,Ih P p.first]:=by
   refine Yk ?_
   intro o ho
   simp only[List.mem_cons,List.not_mem_nil,or_false] at ho
   rcases ho with rfl | rfl | rfl | rfl | rfl <;> first | exact hX _ | simp[oa,Pa,Qa]
  have htk:∀ o:ba,[.box [.pv S],X,Vb false 0 0,Vb true 0 0,Ih P p.first,o].take 5=[.box [.pv S],X,Vb false 0 0,Vb true 0 0,Ih P p.first]:=fun o=>rfl
  have c3:(3 < 5)=True:=by simp
  have c2:(2 < 5)=True:=by simp
  have c4:(4 < 5)=True:=by simp
  have c0:(0 < 5)=True:=by simp
  have hd:deep=6:=rfl
  generalize hQQ:LN _ _ j=QQ
  cases hak':ask i j with
  |false=>
   rw[hak'] at hak
   simp -implicitDefEqProofs only[SP,WP,ga,sevalprocAttr,dg,e1,t2,a1,a2,s1,hak,hcl5,htk,c0,c2,c3,c4,na,za,AV.cut,ua,wG]
   subst hQQ
   exact⟨rfl,hno' true (fun h=>by rw[hak'] at h;cases h)⟩
  |true=>
   rw[hak'] at hak
   have hcm:=hcm (hle hak')
   cases hc:fc p.parts q.parts p.parts.length 0 with
   |none=>
    have h1:=hcm.1 hc
    simp -implicitDefEqProofs only[SP,WP,ga,sevalprocAttr,dg,e1,t2,a1,a2,s1,hak,l1,l2,l3,p3,lP,h1,hcl5,htk,c0,c2,c3,c4,na,za,AV.cut,ua,wG]
    subst hQQ
    exact⟨rfl,hno' true (fun _=>by rw[hc];rfl)⟩
   |some bs=>
    obtain⟨v,h1,hv,hbl,hbr⟩:=hcm.2 bs hc
    have hB:Cr v bs:=⟨hv,hbr⟩
    obtain⟨k1,hk1⟩:=LG hPs hB okp (by omega)
    obtain⟨k2,hk2⟩:=hfirst hB (by have:=hle hak';omega)
    simp -implicitDefEqProofs only[SP,WP,ga,sevalprocAttr,dg,e1,a1,a2,s1,hak,l1,l2,l3,p3,lP,h1,hk1,hk2,s2,wG]
    subst hQQ
    exact .inr ⟨_,k1,k2,[Ih P p.first,Ih Q q.first],rfl,by simp[Tr.aa],by simp[Tr.aa],hex hak' (by rw[hc];rfl)⟩
 ·rintro t ⟨rfl,hno⟩
  have e1:decide ((ss.length:Int) < (ss.length:Int))=false:=Ha (by omega)
  generalize hQ:(fun r:Ex×St=>r.1.stop=true∧_)=Q
  simp -implicitDefEqProofs only[SX,sevalprocAttr,dg,e1,wG]
  subst hQ
  exact⟨rfl,.inl ⟨_,rfl,by simp[Tr.aa],by simp[Tr.aa],by simp[Tr.aa],by simp[Tr.aa],by simp[Tr.aa],by simp[Tr.aa],by simp[Tr.aa],fun j hj ha=>hno j hj hj ha⟩⟩
theorem tI (X:ba) (hX:∀ n,oa n X=some X):
 Pd (fun r=>(∃ E,r=(.exit 0,⟨E,[.box [.pv S],X,Vb false 0 0,Vb true 0 0]⟩)∧E.get 4= .ptr 2 0∧E.get 6= .ptr 3 0∧∀ i j,(hi:i < ss.length)→(hj:j < ss.length)→ask i j=true→cf ss[i] ss[j]=false)∨
  (∃ E a b T,r=(.exit 0,⟨E,[.box [.pv S],X,Vb false 0 0,Vb false a b]++T⟩)∧E.get 4= .ptr 2 0∧E.get 6= .ptr 3 0∧∃ i j,∃ hi:i < ss.length,∃ hj:j < ss.length,ask i j=true∧cf ss[i] ss[j]=true))
  (pb (ma (qa call Gi) (na 4 [1,2,4,6,19,20,21])) pa ⟨mO S cix ss.length 0,[.box [.pv S],X,Vb false 0 0,Vb true 0 0]⟩):=by
 have h32:=Ba.len
 have lS:=hS.Tb
 refine ya (Mb (g:=ma (qa call Gi) (na 4 [1,2,4,6,19,20,21]))
  (fun i t=>t=⟨mO S cix ss.length i,[.box [.pv S],X,Vb false 0 0,Vb true 0 0]⟩∧∀ i' j,i' < i→(hi:i' < ss.length)→(hj:j < ss.length)→ask i' j=true→cf ss[i'] ss[j]=false)
  ss.length (by unfold pa;omega) _ ⟨rfl,fun i' j h=>by omega⟩ ?_ ?_) (fun r h=>h.2)
 ·rintro i t hi ⟨rfl,hno⟩
  obtain⟨P,ps,hPs,a1⟩:=hS.Sd hi
  have hin:=GI hS Ba hA hask hi ⟨ps,hPs⟩ X hX
  obtain⟨hP1,hP2⟩:=hPs.cw
  have hno':(∀ j,(hj:j < ss.length)→ask i j=true→cf ss[i] ss[j]=false)→∀ i' j,i' < i+1→(hi:i' < ss.length)→(hj:j < ss.length)→ask i' j=true→cf ss[i'] ss[j]=false:=by
   intro h i' j hi' hii hj ha
   rcases Nat.lt_or_ge i' i with h1 | h1
   ·exact hno i' j h1 hii hj ha
   ·have:i'=i:=by omega
    subst this;exact h j hj ha
  have hex:(∃ j,∃ hj:j < ss.length,ask i j=true∧cf ss[i] ss[j]=true)→∃ i j,∃ hi:i < ss.length,∃ hj:j < ss.length,ask i j=true∧cf ss[i] ss[j]=true:=fun ⟨j,hj,h⟩=>⟨i,j,hi,hj,h⟩
  generalize ss[i]=p at *
  have e1:decide ((i:Int) < (ss.length:Int))=true:=Fa (by omega)
  have t2:=eb hi (by unfold maxLen;omega)
  have a2:∀ H,ta H true 2 (.pv (.rp [P,i64 p.first] 0))=some (.pv (.agg [P,i64 p.first])):=fun H=>rfl
  have s1:Ea [.box [.pv S],X,Vb false 0 0,Vb true 0 0,.box [.pv .fa,.pv (i64 0)]] 2 (.ptr 4 0) (.pv (.agg [P,i64 p.first]))=some [.box [.pv S],X,Vb false 0 0,Vb true 0 0,Ih P p.first]:=
   rn _ _ _ _ hP1 rfl [.box [.pv S],X,Vb false 0 0,Vb true 0 0] _ rfl
  have hcl4:∀ T,Pa (oa 4) (([.box [.pv S],X,Vb false 0 0,Vb true 0 0]++T).take 4)=some [.box [.pv S],X,Vb false 0 0,Vb true 0 0]:=fun T=>by
   refine Yk ?_
   intro o ho
   simp only[List.cons_append,List.nil_append,List.take_succ_cons,List.take_zero,List.mem_cons,List.not_mem_nil,or_false] at ho
   rcases ho with rfl | rfl | rfl | rfl <;> first | exact hX _ | simp[oa,Pa,Qa]
  have hcl4':∀ o,Pa (oa 4) ([.box [.pv S],X,Vb false 0 0,Vb true 0 0,o].take 4)=some [.box [.pv S],X,Vb false 0 0,Vb true 0 0]:=fun o=>hcl4 [o]
  have hcl5:Pa (oa 5) [.box [.pv S],X,Vb false 0 0,Vb true 0 0,Ih P p.first]=some [.box [.pv S],X,Vb false 0 0,Vb true 0 0,Ih P p.first]:=by
   refine Yk ?_
   intro o ho
   simp only[List.mem_cons,List.not_mem_nil,or_false] at ho
   rcases ho with rfl | rfl | rfl | rfl | rfl <;> first | exact hX _ | simp[oa,Pa,Qa]
  have htk5:([.box [.pv S],X,Vb false 0 0,Vb true 0 0,Ih P p.first]:List ba).take 5=[.box [.pv S],X,Vb false 0 0,Vb true 0 0,Ih P p.first]:=rfl
  have r0:∀ H (x:PV),ta H false 1 (.pv (.rp [x] 0))=some (.pv x):=fun H x=>rfl
  have q0:∀ H (x:PV),place H 0 (.pv (.rp [x] 0))=some (.pv (.rp [x] 0)):=fun H x=>rfl
  have c3:(3 < 5)=True:=by simp
  have c2:(2 < 5)=True:=by simp
  have c4:(4 < 5)=True:=by simp
  have c0:(0 < 5)=True:=by simp
  have d3:(3 < 4)=True:=by simp
  have d2:(2 < 4)=True:=by simp
  have d0:(0 < 4)=True:=by simp
  generalize hQQ:LN _ _ i=QQ
  simp -implicitDefEqProofs only[SP,WP,ga,sevalprocAttr,Gi,Fb,e1,a1,a2,s1,r0,q0,lS,hcl5,htk5,c0,c2,c3,c4,na,za,AV.cut,ua,mO]
  refine ya hin ?_
  rintro r (⟨E,rfl,g1,g2,g4,g6,g19,g20,g21,hn⟩ | ⟨E,a,b,T,rfl,g4,g6,hy⟩)
  ·simp -implicitDefEqProofs only[SP,WP,ga,sevalprocAttr,g1,g2,g4,g6,g19,g20,g21,t2,hX 4,d0,d2,d3,na,za,AV.cut,ua]
   subst hQQ
   exact⟨rfl,hno' hn⟩
  ·simp -implicitDefEqProofs only[SP,WP,ga,sevalprocAttr]
   subst hQQ
   exact .inr ⟨E,a,b,T,rfl,g4,g6,hex hy⟩
 ·rintro t ⟨rfl,hno⟩
  have e1:decide ((ss.length:Int) < (ss.length:Int))=false:=Ha (by omega)
  generalize hQ:(fun r:Ex×St=>r.1.stop=true∧_)=Q
  simp -implicitDefEqProofs only[SX,sevalprocAttr,Gi,e1,mO]
  subst hQ
  exact⟨rfl,.inl ⟨_,rfl,by simp[Tr.aa],by simp[Tr.aa],fun i j hi hj ha=>hno i j hi hi hj ha⟩⟩
theorem UD (X:ba) (hX:∀ n,oa n X=some X):
 ∃ y a b T,xe call lg [.pv (.agg [S]),.Sk cix [.ptr 0 0]] [.box [.pv S],X]=some (.pv (.ic [.agg [.bool y,i64 a,i64 b],i64 0]),[.box [.pv S],X]++T)∧
  (y=true↔∀ i j,(hi:i < ss.length)→(hj:j < ss.length)→ask i j=true→cf ss[i] ss[j]=false):=by
 have lS:=hS.Tb
 have hSone:(AV.pv S).one=true:=by rcases hS.is with⟨h,_⟩ | h <;> rw[h] <;> rfl
 obtain⟨b,hv,hvb⟩:=Vk hS
 have:=hvb.2 Ba
 subst this
 have hout:=tI hS Ba hA hask X hX
 have s1:Ea [.box [.pv S],X,Vb false 0 0,.box [.pv (.bool false),.pv (i64 0),.pv (i64 0)]] 3 (.ptr 3 0) (.pv (.agg [.bool true,i64 0,i64 0]))=some [.box [.pv S],X,Vb false 0 0,Vb true 0 0]:=rfl
 have hcl4:Pa (oa 4) [.box [.pv S],X,Vb false 0 0,Vb true 0 0]=some [.box [.pv S],X,Vb false 0 0,Vb true 0 0]:=by
  refine Yk ?_
  intro o ho
  simp only[List.mem_cons,List.not_mem_nil,or_false] at ho
  rcases ho with rfl | rfl | rfl | rfl <;> first | exact hX _ | simp[oa,Pa,Qa]
 have htk4:([.box [.pv S],X,Vb false 0 0,Vb true 0 0]:List ba).take 4=[.box [.pv S],X,Vb false 0 0,Vb true 0 0]:=rfl
 have r1:∀ H (x:PV),ta H true 1 (.pv (.rp [x] 0))=some (.pv (.agg [x])):=fun H x=>rfl
 have r0:∀ H (x:PV),ta H false 1 (.pv (.rp [x] 0))=some (.pv x):=fun H x=>rfl
 have q0:∀ H (x:PV),place H 0 (.pv (.rp [x] 0))=some (.pv (.rp [x] 0)):=fun H x=>rfl
 have d3:(3 < 4)=True:=by simp
 have d2:(2 < 4)=True:=by simp
 have d0:(0 < 4)=True:=by simp
 have key:Pd (fun r=>∃ y a b T,r=(.pv (.ic [.agg [.bool y,i64 a,i64 b],i64 0]),[.box [.pv S],X]++T)∧(y=true↔∀ i j,(hi:i < ss.length)→(hj:j < ss.length)→ask i j=true→cf ss[i] ss[j]=false))
  (xe call lg [.pv (.agg [S]),.Sk cix [.ptr 0 0]] [.box [.pv S],X]):=by
  generalize hQQ:(fun r:AV×List ba=>_)=QQ
  simp -implicitDefEqProofs only[SP,WP,ga,sevalprocAttr,lg,Fb,hSone,r1,r0,q0,hv,lS,s1,hcl4,htk4,d0,d2,d3,na,za,AV.cut,ua]
  refine ya hout ?_
  rintro r (⟨E,rfl,g4,g6,hn⟩ | ⟨E,a,b,T,rfl,g4,g6,i,j,hi,hj,h1,h2⟩)
  ·have l1:ta [.box [.pv S],X,Vb false 0 0,Vb true 0 0] true 3 (.ptr 3 0)=some (.pv (.agg [.bool true,i64 0,i64 0])):=rfl
   have s2:Ea [.box [.pv S],X,Vb false 0 0,Vb true 0 0] 3 (.ptr 2 0) (.pv (.agg [.bool true,i64 0,i64 0]))=some [.box [.pv S],X,Vb true 0 0,Vb true 0 0]:=rfl
   have l2:ta [.box [.pv S],X,Vb true 0 0,Vb true 0 0] true 3 (.ptr 2 0)=some (.pv (.agg [.bool true,i64 0,i64 0])):=rfl
   simp -implicitDefEqProofs only[SP,WP,ga,sevalprocAttr,g4,g6,l1,s2,l2]
   subst hQQ
   exact⟨true,0,0,_,rfl,by simpa using hn⟩
  ·have l1:ta ([.box [.pv S],X,Vb false 0 0,Vb false a b]++T) true 3 (.ptr 3 0)=some (.pv (.agg [.bool false,i64 a,i64 b])):=rfl
   have s2:Ea ([.box [.pv S],X,Vb false 0 0,Vb false a b]++T) 3 (.ptr 2 0) (.pv (.agg [.bool false,i64 a,i64 b]))=some ([.box [.pv S],X,Vb false a b,Vb false a b]++T):=rfl
   have l2:ta ([.box [.pv S],X,Vb false a b,Vb false a b]++T) true 3 (.ptr 2 0)=some (.pv (.agg [.bool false,i64 a,i64 b])):=rfl
   generalize hA1:[.box [.pv S],X,Vb false 0 0,Vb false a b]++T=A1 at *
   generalize hA2:[.box [.pv S],X,Vb false a b,Vb false a b]++T=A2 at *
   simp -implicitDefEqProofs only[SP,WP,ga,sevalprocAttr,g4,g6,l1,s2,l2]
   subst hQQ hA2
   refine⟨false,a,b,_,rfl,?_⟩
   simp only[Bool.false_eq_true,false_iff]
   intro h
   rw[h i j hi hj h1] at h2;cases h2
 obtain⟨r,h1,y,a,b,T,rfl,h2⟩:=pc key
 exact⟨y,a,b,T,h1,h2⟩
end
def bh (ss:List qc):Prop:=∀ i j,(hi:i < ss.length)→(hj:j < ss.length)→ss[i].parts.length < ss[j].parts.length→cf ss[i] ss[j]=false
theorem eL (call:Ta) {S:PV} {ss:List qc} {es:List PV} (hS:Za S ss es) (i j:Nat) (H:List ba) (hi:i < ss.length) (hj:j < ss.length) (hH:H[0]? =some (.box [.pv S])):
 xe call Nh [.pv (i64 i),.pv (i64 j),.ptr 0 0] H=some (.pv (.bool (decide (ss[i].parts.length < ss[j].parts.length))),H):=by
 obtain⟨P,ps,hPs,a1⟩:=hS.Sd hi
 obtain⟨Q,qs,hQs,a2⟩:=hS.Sd hj
 have lP:=hPs.parts.Tb
 have lQ:=hQs.parts.Tb
 have p0:place H 0 (.ptr 0 0)=some (.ptr 0 0):=by simp[place,hH]
 have l0:ta H false 1 (.ptr 0 0)=some (.pv S):=by simp[ta,hH,Og]
 have r0:∀ H (x y:PV),ta H false 1 (.pv (.rp [x,y] 0))=some (.pv x):=fun H x y=>rfl
 have q0:∀ H (x y:PV),place H 0 (.pv (.rp [x,y] 0))=some (.pv (.rp [x,y] 0)):=fun H x y=>rfl
 have e:decide ((ss[i].parts.length:Int) < (ss[j].parts.length:Int))=decide (ss[i].parts.length < ss[j].parts.length):=by simp
 generalize ss[i]=p at *
 generalize ss[j]=q at *
 by_cases hij:P=Q
 ·subst hij
  have:p.parts.length=q.parts.length:=by have h1:=lP [];have h2:=lQ [];rw[h1] at h2;exact Option.some.inj h2
  rw[this] at lP e ⊢
  simp -implicitDefEqProofs only[SP,WP,ga,sevalprocAttr,Nh,p0,l0,a1,a2,r0,q0,lP,e]
 ·simp -implicitDefEqProofs only[SP,WP,ga,sevalprocAttr,Nh,p0,l0,a1,a2,r0,q0,lP,lQ,e]
theorem zE {S:PV} {ss:List qc} {es:List PV} (hS:Za S ss es):
 (¬ Fc ss→Ve [.agg [S]]=some (.ic [.agg [.bool false,i64 0,i64 0],i64 84]))∧
 (Fc ss→∃ y a b,Ve [.agg [S]]=some (.ic [.agg [.bool y,i64 a,i64 b],i64 0])∧(y=true↔bh ss)):=by
 have hSone:(AV.pv S).one=true:=by rcases hS.is with⟨h,_⟩ | h <;> rw[h] <;> rfl
 have c25:jj 25=some lg:=rfl
 have s0:ta [.box [.pv S],Vb false 0 0] true 1 (.ptr 0 0)=some (.pv (.agg [S])):=rfl
 constructor
 ·intro hno
  obtain⟨b,hv,hvb⟩:=Vk hS
  have hb:b=false:=by cases b with | false=>rfl | true=>exact absurd (hvb.1 rfl) hno
  subst hb
  have r1:∀ H (x:PV),ta H true 1 (.pv (.rp [x] 0))=some (.pv (.agg [x])):=fun H x=>rfl
  have s1:Ea [.box [.pv S],Vb false 0 0,.box [.pv (.bool false),.pv (i64 0),.pv (i64 0)]] 3 (.ptr 2 0) (.pv (.agg [.bool false,i64 0,i64 0]))=some [.box [.pv S],Vb false 0 0,Vb false 0 0]:=rfl
  have l2:ta [.box [.pv S],Vb false 0 0,Vb false 0 0] true 3 (.ptr 2 0)=some (.pv (.agg [.bool false,i64 0,i64 0])):=rfl
  have s2:Ea [.box [.pv S],Vb false 0 0,Vb false 0 0] 3 (.ptr 1 0) (.pv (.agg [.bool false,i64 0,i64 0]))=some [.box [.pv S],Vb false 0 0,Vb false 0 0]:=rfl
  have l3:ta [.box [.pv S],Vb false 0 0,Vb false 0 0] true 3 (.ptr 1 0)=some (.pv (.agg [.bool false,i64 0,i64 0])):=rfl
  simp -implicitDefEqProofs only[Ve,SP,WP,ga,sevalprocAttr,Vm,c25,lg,hSone,s0,r1,hv,s1,l2,s2,l3]
 ·intro Ba
  have hA:vX (Ca jj 7) 4 S ss.length (fun i j=>if h:i < ss.length∧j < ss.length then decide (ss[i].parts.length < ss[j].parts.length) else false):=by
   refine⟨fun i j H hi hj hH=> ?_⟩
   rw[Wz jj 6 4 _ H (f:=Nh) rfl,eL _ hS i j H hi hj hH,dif_pos ⟨hi,hj⟩]
  obtain⟨y,a,b,T,h1,h2⟩:=UD hS Ba hA (fun i j hi hj h=>by rw[dif_pos ⟨hi,hj⟩] at h;have:=of_decide_eq_true h;omega) (Vb false 0 0) (fun n=>by simp[oa,Pa,Qa])
  refine⟨y,a,b,?_,?_⟩
  ·have s2:Ea ([.box [.pv S],Vb false 0 0]++T) 3 (.ptr 1 0) (.pv (.agg [.bool y,i64 a,i64 b]))=some ([.box [.pv S],Vb y a b]++T):=rfl
   have l3:ta ([.box [.pv S],Vb y a b]++T) true 3 (.ptr 1 0)=some (.pv (.agg [.bool y,i64 a,i64 b])):=rfl
   generalize hA1:[.box [.pv S],Vb false 0 0]++T=A1 at *
   generalize hA2:[.box [.pv S],Vb y a b]++T=A2 at *
   simp -implicitDefEqProofs only[Ve,SP,WP,ga,sevalprocAttr,Vm,c25,hSone,s0,h1,s2,l3]
  ·rw[h2]
   unfold bh
   constructor
   ·intro h i j hi hj hlt
    exact h i j hi hj (by rw[dif_pos ⟨hi,hj⟩];exact decide_eq_true hlt)
   ·intro h i j hi hj hlt
    rw[dif_pos ⟨hi,hj⟩] at hlt
    exact h i j hi hj (of_decide_eq_true hlt)
end Go.AM.B1
namespace Go.AM.B1
open Go.AM Go.AM.So
theorem qR {v:PV} {l:List (Int×Int)} (h:Tn v l):∃ w,od [v]=some w∧Vh 2 w (Xd l)∧(l≠[]→w= .lit 2 (Xd l)):=by
 rcases h.is with⟨rfl,hl⟩ | rfl
 ·refine⟨.fa,?_,.inl ⟨rfl,hl⟩,fun hne=>absurd (by simpa[Xd] using hl) hne⟩
  simp -implicitDefEqProofs only[od,SP,SA,SQ,WP,WQ,sevalprocAttr,De]
 ·refine⟨.lit 2 (Xd l),?_,.inr rfl,fun _=>rfl⟩
  have hr:ab (Xd l).length 16:=by have:=h.sz;unfold ab;simp;omega
  generalize Xd l=es at *
  simp -implicitDefEqProofs only[od,SP,SA,SQ,WP,WQ,sevalprocAttr,De,eq_true hr]
abbrev TJ (S P:PV) (n i m j:Int):Tr:=((((((((Tr.lf.set 22 (.pv (i64 j))).set 21 (.pv (i64 m))).set 20 (.pv P)).set 12 (.pv (i64 i))).set 11 (.pv (i64 n))).set 10 (.pv S)).set 6 (.ptr 4 0)).set 3 (.ptr 1 0)).set 2 (.ptr 0 0)
abbrev jO (S:PV) (n i:Int):Tr:=((((Tr.lf.set 12 (.pv (i64 i))).set 11 (.pv (i64 n))).set 10 (.pv S)).set 3 (.ptr 1 0)).set 2 (.ptr 0 0)
abbrev xY (out:List PV) (nl:Bool):List ba:=[.box [.pv .fa],.box [.uq 2 nl 2 out],.tok 2 out.length nl]
abbrev qH (out:List PV) (nl:Bool) (P:PV) (f:Int) (ps:List PV) (nl1:Bool):List ba:=[.box [.pv .fa],.box [.uq 2 nl 2 out],.tok 2 out.length nl,.box [.pv P,.pv (i64 f)],.box [.uq 5 nl1 1 ps,.pv (i64 f)],.tok 1 ps.length nl1]
theorem oM {P S:PV} {ls:List (List (Int×Int))} {ps:List PV} (hP:Df P ls ps) (Ba:∀ l∈ls,l≠[]) (h8:ls.length≤8) (out:List PV) (nl:Bool) (f n i:Int):
 ∃ E nl1,pb (ma (qa (Ca (fun _=>none) 8) Th) (na 6 [2,3,6,10,11,12,20,21,22])) pa ⟨TJ S P n i ls.length 0,qH out nl P f [] true⟩=
  some (.exit 2,⟨E,qH out nl P f (ls.map Le) nl1⟩)∧(nl1=true→ls=[])∧E.get 2= .ptr 0 0∧E.get 3= .ptr 1 0∧E.get 6= .ptr 4 0∧E.get 10= .pv S∧E.get 11= .pv (i64 n)∧E.get 12= .pv (i64 i):=by
 have key:=Mb (g:=ma (qa (Ca (fun _=>none) 8) Th) (na 6 [2,3,6,10,11,12,20,21,22]))
  (fun j t=>∃ nl1,t=⟨TJ S P n i ls.length j,qH out nl P f ((ls.take j).map Le) nl1⟩∧(nl1=true→j=0))
  (Q:=fun r=>∃ E nl1,r=(.exit 2,⟨E,qH out nl P f (ls.map Le) nl1⟩)∧(nl1=true→ls=[])∧E.get 2= .ptr 0 0∧E.get 3= .ptr 1 0∧E.get 6= .ptr 4 0∧E.get 10= .pv S∧E.get 11= .pv (i64 n)∧E.get 12= .pv (i64 i))
  ls.length (by unfold pa;omega) ⟨TJ S P n i ls.length (0:Nat),qH out nl P f [] true⟩ ⟨true,rfl,fun _=>rfl⟩ ?_ ?_
 ·obtain⟨r,h1,_,E,nl1,rfl,h2⟩:=pc key
  exact⟨E,nl1,h1,h2⟩
 ·rintro j t hj ⟨nl1,rfl,hnl⟩
  obtain⟨v,hv,hpt,_⟩:=hP.Sd hj []
  have a1:=hP.bw hv
  obtain⟨w,hcl,_,hw⟩:=qR hpt
  have hw:=hw (Ba _ (List.getElem_mem hj))
  subst hw
  have htk:(ls.take (j+1)).map Le=(ls.take j).map Le++[.lit 2 (Xd ls[j])]:=by
   rw[List.take_succ_eq_append_getElem hj,List.map_append];rfl
  have hpl:((ls.take j).map Le).length=j:=by simp;omega
  generalize ls[j]=l at *
  have e1:decide ((j:Int) < (ls.length:Int))=true:=Fa (by omega)
  have t2:=eb hj (by unfold maxLen;omega)
  have r1:∀ H (x:PV),ta H false 1 (.pv (.rp [x] 0))=some (.pv x):=fun H x=>rfl
  have hap:=Lg (A:=qH out nl P f ((ls.take j).map Le) nl1) (id:=5) (n:=j) (h:= .uq) (ag:=false) (nl:=nl1) (sz:=1) (bytes:=24) (es:=(ls.take j).map Le) (by show some (ba.tok 1 ((ls.take j).map Le).length nl1)=_;rw[hpl]) hpl.symm (by unfold ab;omega) (.lit 2 (Xd l))
  have hlen1:((ls.take j).map Le++[PV.lit 2 (Xd l)]).length=j+1:=by rw[List.length_append,hpl];rfl
  have hap':Gb (qH out nl P f ((ls.take j).map Le) nl1) false .uq 1 false 24 (.uq 5 nl1 1 ((ls.take j).map Le)) (.pv (.lit 1 [.lit 2 (Xd l)]))=some (.uq 5 false 1 ((ls.take j).map Le++[.lit 2 (Xd l)]),[.box [.pv .fa],.box [.uq 2 nl 2 out],.tok 2 out.length nl,.box [.pv P,.pv (i64 f)],.box [.uq 5 nl1 1 ((ls.take j).map Le),.pv (i64 f)],.tok 1 (j+1) false]):=hap
  unfold qH at hap' ⊢
  rw[hpl] at hap' ⊢
  have p0:∀ (x:AV) (y z:ba),place [.box [.pv .fa],.box [.uq 2 nl 2 out],y,.box [.pv P,.pv (i64 f)],.box [x,.pv (i64 f)],z] 0 (.ptr 4 0)=some (.ptr 4 0):=fun x y z=>rfl
  have l0:∀ (x:AV) (y z:ba),ta [.box [.pv .fa],.box [.uq 2 nl 2 out],y,.box [.pv P,.pv (i64 f)],.box [x,.pv (i64 f)],z] false 1 (.ptr 4 0)=some x:=fun x y z=>rfl
  have s0:∀ (x:AV) (y z:ba) (es:List PV),Ea [.box [.pv .fa],.box [.uq 2 nl 2 out],y,.box [.pv P,.pv (i64 f)],.box [x,.pv (i64 f)],z] 1 (.ptr 4 0) (.uq 5 false 1 es)=some [.box [.pv .fa],.box [.uq 2 nl 2 out],y,.box [.pv P,.pv (i64 f)],.box [.uq 5 false 1 es,.pv (i64 f)],z]:=fun x y z es=>rfl
  generalize hp0:(ls.take j).map Le=ps0 at *
  generalize hL:PV.lit 2 (Xd l)=L at *
  have hL1:(AV.pv L).cells=[.pv L]∧(AV.pv L).one=true:=by rw[← hL];exact⟨rfl,rfl⟩
  have b5:(5 < 6)=True:=by simp
  have b4:(4 < 6)=True:=by simp
  have b2:(2 < 6)=True:=by simp
  have b1:(1 < 6)=True:=by simp
  have b0:(0 < 6)=True:=by simp
  have hLc:L.cells=[L]:=by rw[← hL];rfl
  generalize hQ:LN _ _ j=Q
  subst hL
  simp -implicitDefEqProofs only[SP,WP,ga,sevalprocAttr,Th,e1,t2,a1,r1,p0,l0,s0,hcl,hap',b0,b1,b2,b4,b5,na,za,AV.cut,oa,Pa,ua,TJ]
  subst hQ
  refine⟨false,?_,by simp⟩
  rw[htk,hlen1]
 ·rintro t ⟨nl1,rfl,hnl⟩
  rw[List.take_length]
  have e1:decide ((ls.length:Int) < (ls.length:Int))=false:=Ha (by omega)
  generalize hQ:(fun r:Ex×St=>r.1.stop=true∧_)=Q
  simp -implicitDefEqProofs only[SX,sevalprocAttr,Th,e1,TJ]
  subst hQ
  exact⟨rfl,_,nl1,rfl,fun h=>List.eq_nil_of_length_eq_zero (hnl h),by simp[Tr.aa],by simp[Tr.aa],by simp[Tr.aa],by simp[Tr.aa],by simp[Tr.aa],by simp[Tr.aa]⟩
theorem KE {S:PV} {ss:List qc} {es:List PV} (hS:Za S ss es) (Ba:Fc ss):∃ S',Yi [.agg [S]]=some (.agg [S'])∧Vh 2 S' (ss.map We):=by
 have lS:=hS.Tb
 have h32:=Ba.len
 have hSone:(AV.pv S).one=true:=by rcases hS.is with⟨h,_⟩ | h <;> rw[h] <;> rfl
 have hloop:Pd (fun r=>∃ E nl,r=(.exit 0,⟨E,xY (ss.map We) nl⟩)∧(nl=true→ss=[])∧E.get 2= .ptr 0 0∧E.get 3= .ptr 1 0)
  (pb (ma (qa (Ca (fun _=>none) 8) Rh) (na 3 [2,3,10,11,12])) pa ⟨jO S ss.length 0,xY [] true⟩):=by
  refine ya (Mb (g:=ma (qa (Ca (fun _=>none) 8) Rh) (na 3 [2,3,10,11,12]))
   (fun i t=>∃ nl,t=⟨jO S ss.length i,xY ((ss.take i).map We) nl⟩∧(nl=true→i=0))
   (Q:=fun r=>∃ E nl,r=(.exit 0,⟨E,xY (ss.map We) nl⟩)∧(nl=true→ss=[])∧E.get 2= .ptr 0 0∧E.get 3= .ptr 1 0)
   ss.length (by unfold pa;omega) _ ⟨true,rfl,fun _=>rfl⟩ ?_ ?_) (fun r h=>h.2)
  ·rintro i t hi ⟨nl,rfl,hnl⟩
   obtain⟨P,ps,hPs,a1⟩:=hS.Sd hi
   have ok:=Ba.gu _ (List.getElem_mem hi)
   obtain⟨hP1,hP2⟩:=hPs.cw
   have lP:=hPs.parts.Tb
   have htk:(ss.take (i+1)).map We=(ss.take i).map We++[We ss[i]]:=by
    rw[List.take_succ_eq_append_getElem hi,List.map_append];rfl
   have hpl:((ss.take i).map We).length=i:=by simp;omega
   obtain⟨E,nl1,hin,hnl1,g2,g3,g6,g10,g11,g12⟩:=oM (S:=S) hPs.parts (fun l hl=>(ok.parts l hl).1) ok.hi ((ss.take i).map We) nl ss[i].first ss.length i
   have hnl1f:nl1=false:=by
    cases nl1 with
    |false=>rfl
    |true=>have:=hnl1 rfl;have h2:=ok.lo;rw[this] at h2;simp at h2
   subst hnl1f
   have hes:We ss[i]= .agg [.lit 1 (ss[i].parts.map Le),i64 ss[i].first]:=rfl
   rw[hes] at htk
   generalize ss[i]=p at *
   have e1:decide ((i:Int) < (ss.length:Int))=true:=Fa (by omega)
   have t2:=eb hi (by unfold maxLen;omega)
   have a2:∀ H,ta H true 2 (.pv (.rp [P,i64 p.first] 0))=some (.pv (.agg [P,i64 p.first])):=fun H=>rfl
   generalize (ss.take i).map We=out at *
   generalize p.parts.map Le=pp at *
   subst hpl
   unfold qH at hin
   unfold xY
   have hlo:(out++[PV.agg [.lit 1 pp,i64 p.first]]).length=out.length+1:=by simp
   have hap:∀ (T:List ba),Gb ([.box [.pv .fa],.box [.uq 2 nl 2 out],.tok 2 out.length nl]++T) false .uq 2 true 32 (.uq 2 nl 2 out) (.pv (.lit 2 [.agg [.lit 1 pp,i64 p.first]]))=some (.uq 2 false 2 (out++[.agg [.lit 1 pp,i64 p.first]]),[.box [.pv .fa],.box [.uq 2 nl 2 out],.tok 2 (out.length+1) false]++T):=fun T=>
    Lg (A:=[.box [.pv .fa],.box [.uq 2 nl 2 out],.tok 2 out.length nl]++T) (id:=2) (n:=out.length) (h:= .uq) (ag:=true) (nl:=nl) (sz:=2) (bytes:=32) (es:=out) rfl rfl (by unfold ab;omega) _
   have hap1:=fun a b c=>hap [a,b,c]
   simp only[List.cons_append,List.nil_append] at hap1
   have s1:∀ T:List ba,Ea ([.box [.pv .fa],.box [.uq 2 nl 2 out],.tok 2 out.length nl,.box [.pv .fa,.pv (i64 0)]]) 2 (.ptr 3 0) (.pv (.agg [P,i64 p.first]))=some [.box [.pv .fa],.box [.uq 2 nl 2 out],.tok 2 out.length nl,.box [.pv P,.pv (i64 p.first)]]:=fun T=>
    rn _ _ _ _ hP1 rfl [.box [.pv .fa],.box [.uq 2 nl 2 out],.tok 2 out.length nl] _ rfl
   have s1':=s1 []
   have b5:(5 < 6)=True:=by simp
   have b4:(4 < 6)=True:=by simp
   have b2:(2 < 6)=True:=by simp
   have b1:(1 < 6)=True:=by simp
   have b0:(0 < 6)=True:=by simp
   have c2:(2 < 3)=True:=by simp
   have c1:(1 < 3)=True:=by simp
   have c0:(0 < 3)=True:=by simp
   have hz:(0 < 1)=True:=by simp
   generalize hQ:LN _ _ out.length=Q
   have hin':pb (ma (qa (Ca (fun _=>none) 8) Th) (na 6 [2,3,6,10,11,12,20,21,22])) pa ⟨((((((((Tr.lf.set 22 (.pv (.int .i64 0))).set 21 (.pv (i64 p.parts.length))).set 20 (.pv P)).set 12 (.pv (i64 out.length))).set 11 (.pv (i64 ss.length))).set 10 (.pv S)).set 6 (.ptr 4 0)).set 3 (.ptr 1 0)).set 2 (.ptr 0 0),[.box [.pv .fa],.box [.uq 2 nl 2 out],.tok 2 out.length nl,.box [.pv P,.pv (i64 p.first)],.box [.uq 5 true 1 [],.pv (i64 p.first)],.tok 1 0 true]⟩=_:=hin
   simp -implicitDefEqProofs only[SP,SA,SQ,sevalprocAttr,ma,Rh,Fb,e1,a1,a2,s1',hP1,lP,ff,hz,b0,b1,b2,b4,b5,na,za,AV.cut,oa,Qa,Pa,ua,jO]
   rw[hin']
   simp -implicitDefEqProofs only[SP,SQ,WP,WQ,↓reduceIte,reduceCtorEq,Nat.reduceAdd,Nat.reduceMul,Nat.reduceLeDiff,Nat.reduceEqDiff,Int.reduceLT,Int.reduceLE,Int.reduceBEq,Int.reduceEq,Nat.reduceBEq,Nat.reduceLT,Nat.reduceSub,g2,g3,g6,g10,g11,g12,hap1,t2,c0,c1,c2,na,za,AV.cut,oa,Pa,ua]
   subst hQ
   exact⟨false,by rw[htk,hlo],by simp⟩
  ·rintro t ⟨nl,rfl,hnl⟩
   rw[List.take_length]
   have e1:decide ((ss.length:Int) < (ss.length:Int))=false:=Ha (by omega)
   generalize hQ:(fun r:Ex×St=>r.1.stop=true∧_)=Q
   simp -implicitDefEqProofs only[SX,sevalprocAttr,Rh,e1,jO]
   subst hQ
   exact⟨rfl,_,nl,rfl,fun h=>List.eq_nil_of_length_eq_zero (hnl h),by simp[Tr.aa],by simp[Tr.aa]⟩
 obtain⟨r,h1,E,nl,rfl,hnl,g2,g3⟩:=pc hloop
 have h1':pb (ma (qa (Ca (fun _=>none) 8) Rh) (na 3 [2,3,10,11,12])) pa ⟨((((Tr.lf.set 12 (.pv (.int .i64 0))).set 11 (.pv (i64 ss.length))).set 10 (.pv S)).set 3 (.ptr 1 0)).set 2 (.ptr 0 0),[.box [.pv .fa],.box [.uq 2 true 2 []],.tok 2 0 true]⟩=_:=h1
 have hz:(0 < 2)=True:=by simp
 have c2:(2 < 3)=True:=by simp
 have c1:(1 < 3)=True:=by simp
 have c0:(0 < 3)=True:=by simp
 have hout:nl=true→ss.map We=[]:=fun h=>by rw[hnl h];rfl
 generalize ss.map We=out at *
 cases nl with
 |true=>
  refine⟨.fa,?_,.inl ⟨rfl,?_⟩⟩
  ·simp -implicitDefEqProofs only[Yi,SP,SA,SQ,sevalprocAttr,ma,Pn,Fb,hSone,yD,lS,ff,hz,c0,c1,c2,na,za,AV.cut,oa,Qa,Pa,ua,h1',g2,g3]
  ·exact hout rfl
 |false=>
  refine⟨.lit 2 out,?_,.inr rfl⟩
  simp -implicitDefEqProofs only[Yi,SP,SA,SQ,sevalprocAttr,ma,Pn,Fb,hSone,yD,lS,ff,hz,c0,c1,c2,na,za,AV.cut,oa,Qa,Pa,ua,h1',g2,g3]
end Go.AM.B1
namespace Go.AM.B1
open Go.AM Go.AM.So
theorem Fc.ne {ss:List qc} (h:Fc ss):∀ s∈ss,0 < s.parts.length:=fun s hs=>(h.gu s hs).lo
theorem Za.LY {S:PV} {ss:List qc} {es:List PV} (h:Za S ss es):∀ s∈ss,∀ l∈s.parts,l.length * 16≤140737488355328:=by
 intro s hs l hl
 obtain⟨i,hi,rfl⟩:=List.getElem_of_mem hs
 obtain⟨e,P,ps,_,_,hp⟩:=h.get hi
 obtain⟨j,hj,rfl⟩:=List.getElem_of_mem hl
 obtain⟨v,_,_,hv⟩:=hp.parts.get hj
 exact hv.sz
theorem Ei {S:PV} {ss:List qc} {es:List PV} (hS:Za S ss es):
 (¬ Fc ss→Ic [.agg [S]]=some (.ic [.agg [.fa],i64 84]))∧
 (Fc ss→¬bh ss→Ic [.agg [S]]=some (.ic [.agg [.fa],i64 110]))∧
 (Fc ss→bh ss→oh ss=none→Ic [.agg [S]]=some (.ic [.agg [.fa],i64 130]))∧
 (Fc ss→bh ss→∀ l,oh ss=some l→Ic [.agg [S]]=some (.ic [.agg [El l],i64 0])):=by
 have hS0:S= .fa∨∃ l,S= .lit 2 l:=by
  rcases hS.is with⟨h,_⟩ | h
  ·exact .inl h
  ·exact .inr ⟨_,h⟩
 have hp:=zE hS
 refine⟨?_,?_,?_,?_⟩
 ·intro h
  exact dP S hS0 (by decide) (hp.1 h)
 ·intro h1 h2
  obtain⟨y,a,b,h3,h4⟩:=hp.2 h1
  have hy:y=false:=by cases y with | false=>rfl | true=>exact absurd (h4.1 rfl) h2
  subst hy
  exact FT S hS0 h3
 ·intro h1 h2 h5
  obtain⟨y,a,b,h3,h4⟩:=hp.2 h1
  have hy:=h4.2 h2
  subst hy
  obtain⟨S',hc,hs⟩:=KE hS h1
  exact yM S S' ss hS0 h3 hc hs h1.len hS.LY h1.ne h5
 ·intro h1 h2 l h5
  obtain⟨y,a,b,h3,h4⟩:=hp.2 h1
  have hy:=h4.2 h2
  subst hy
  obtain⟨S',hc,hs⟩:=KE hS h1
  exact CS S S' ss hS0 h3 hc hs h1.len hS.LY h1.ne h5
end Go.AM.B1
