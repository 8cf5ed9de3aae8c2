/- What functions of the program compute. -/
import Derived.Test.YtdglpnpkgngcdaaGreatQ5
set_option linter.unusedVariables false
set_option linter.unusedSimpArgs false
namespace Go.AM.B1
open Go.AM Go.AM.So
structure Nd (s:dc):Prop where
 lo:1≤s.parts.length
 hi:s.parts.length≤8
 f0:0≤s.first
 f1:s.first≤1073741823
 parts:∀ l∈s.parts,zc l
 last:Nh s≤1073741823
def Vm (s t:dc):Prop:=∀ x,¬((s.first≤x∧x≤Nh s)∧(t.first≤x∧x≤Nh t))
structure Hc (ss:List dc):Prop where
 len:ss.length≤32
 As:∀ s∈ss,Nd s
 apart:ss.Pairwise Vm
theorem Nd.RB {s:dc} (h:Nd s):s.first≤Nh s:=by
 have:=(jm s.parts 1 h.parts (by omega) (by omega)).1
 unfold Nh;omega
structure nX (ss:List dc) (i:Nat) (v:PV) (u:List (Int×Int)):Prop where
 is:Di 2 v (de u)
 val:Oa ay (-2) u=true
 len:u.length≤i
 mem:∀ x,Xj x u↔∃ s∈ss.take i,s.first≤x∧x≤Nh s
 As:∀ s∈ss.take i,Nd s
 apart:(ss.take i).Pairwise Vm
abbrev Mq (S v:PV) (len i:Int):Tr:=(((Tr.lf.set 14 (.pv (i64 i))).set 13 (.pv (i64 len))).set 12 (.pv S)).set 3 (.pv v)
theorem Cn (x y u v:AV) (hu:u.one=true) (hv:v.one=true) (A:List ba) (e:PV) (he:(AV.pv e).cells=[u,v]):Ra (A++[.box [x,y]]) 2 (.ptr A.length 0) (.pv e)=some (A++[.box [u,v]]):=by
 simp only[Ra,he,Jj,Rn,List.length_cons,List.length_nil,List.all,hu,hv]
 simp[na]
section
variable {S:PV} {ss:List dc} {es:List PV} (hS:Ab S ss es) (hl:ss.length≤32)
include hS hl
omit hl in
theorem sC {i:Nat} (hi:i < ss.length) (v:PV) (hbad:¬Nd ss[i]):
 ∃ E H,fa (ta (Ga bc 8) Jb) (ga 0 [3,12,13,14]) ⟨Mq S v ss.length i,[]⟩=some (.ret,⟨E,H⟩)∧E.get 2= .pv (.bool false):=by
 obtain⟨e,P,ps,he,hSl,hsh⟩:=hS.get hi
 obtain⟨rfl,hP⟩:=hsh
 generalize hs:ss[i]=s at *
 have hq:i < es.length:=by rw[hS.len];exact hi
 have e1:decide ((i:Int) < (ss.length:Int))=true:=Da (by omega)
 have a1:qa [] 2 (.pv S) (i:Int)=some (.pv (.rp [P,i64 s.first] 0)):=by
  rw[hSl]
  simp only[qa]
  rw[if_pos (by unfold Fa;simp;omega),Int.toNat_natCast,he];rfl
 have a2:ya [] true 2 (.pv (.rp [P,i64 s.first] 0))=some (.pv (.agg [P,i64 s.first])):=rfl
 have hP1:(AV.pv P).one=true:=by rcases hP.is with⟨h,_⟩ | h <;> rw[h] <;> rfl
 have s1:Ra [.box [.pv .pa,.pv (i64 0)]] 2 (.ptr 0 0) (.pv (.agg [P,i64 s.first]))=some [.box [.pv P,.pv (i64 s.first)]]:=Cn _ _ _ _ hP1 rfl [] _ rfl
 have p0:place [.box [.pv P,.pv (i64 s.first)]] 0 (.ptr 0 0)=some (.ptr 0 0):=rfl
 have p1:place [.box [.pv P,.pv (i64 s.first)]] 1 (.ptr 0 0)=some (.ptr 0 1):=rfl
 have l0:ya [.box [.pv P,.pv (i64 s.first)]] false 1 (.ptr 0 0)=some (.pv P):=rfl
 have l1:ya [.box [.pv P,.pv (i64 s.first)]] false 1 (.ptr 0 1)=some (.pv (i64 s.first)):=rfl
 have l2:ya [.box [.pv P,.pv (i64 s.first)]] true 2 (.ptr 0 0)=some (.pv (.agg [P,i64 s.first])):=rfl
 have hg:Ng [.box [.pv P,.pv (i64 s.first)]]:=by
  intro n _ o ho;simp at ho;subst ho;simp[ma,Qa,Ia]
 have hct:=vz hP 5 [.box [.pv P,.pv (i64 s.first)]] hg
 have h6:bc 6=some Ib:=rfl
 have lA:=hP.Wb
 have key:Td (fun r=>∃ E H,r=(.ret,⟨E,H⟩)∧E.get 2= .pv (.bool false)) (fa (ta (Ga bc 8) Jb) (ga 0 [3,12,13,14]) ⟨Mq S v ss.length i,[]⟩):=by
  generalize hQ:(fun r:Ex×St=>_)=Q
  by_cases c1:s.parts.length < 1
  ·have d1:decide ((s.parts.length:Int) < 1)=true:=Da (by omega)
   simp -implicitDefEqProofs only[SX,sevalprocAttr,Jb,e1,a1,a2,s1,p0,p1,l0,l1,lA,d1,Mq]
   subst hQ;exact⟨_,_,rfl,by simp[Tr.aa]⟩
  have d1:decide ((s.parts.length:Int) < 1)=false:=Ha (by omega)
  by_cases c2:s.parts.length > 8
  ·have d2:decide ((s.parts.length:Int) > 8)=true:=Da (by omega)
   simp -implicitDefEqProofs only[SX,sevalprocAttr,Jb,e1,a1,a2,s1,p0,p1,l0,l1,lA,d1,d2,Mq]
   subst hQ;exact⟨_,_,rfl,by simp[Tr.aa]⟩
  have d2:decide ((s.parts.length:Int) > 8)=false:=Ha (by omega)
  by_cases c3:s.first < 0
  ·have d3:decide (s.first < 0)=true:=Da c3
   simp -implicitDefEqProofs only[SX,sevalprocAttr,Jb,e1,a1,a2,s1,p0,p1,l0,l1,lA,d1,d2,d3,Mq]
   subst hQ;exact⟨_,_,rfl,by simp[Tr.aa]⟩
  have d3:decide (s.first < 0)=false:=Ha c3
  by_cases c4:s.first > 1073741823
  ·have d4:decide (s.first > 1073741823)=true:=Da c4
   simp -implicitDefEqProofs only[SX,sevalprocAttr,Jb,e1,a1,a2,s1,p0,p1,l0,l1,lA,d1,d2,d3,d4,Mq]
   subst hQ;exact⟨_,_,rfl,by simp[Tr.aa]⟩
  have d4:decide (s.first > 1073741823)=false:=Ha c4
  by_cases c5:∀ l∈s.parts,zc l
  ·have hlast:=rJ (e:= .agg [P,i64 s.first]) ⟨rfl,hP⟩ c5 (by omega)
   rw[decide_eq_true c5] at hct
   have c6:Nh s > 1073741823:=by
    rcases Int.lt_or_le 1073741823 (Nh s) with h | h
    ·exact h
    ·exact absurd (Nd.mk (by omega) (by omega) (by omega) (by omega) c5 h) hbad
   have d6:decide (Nh s > 1073741823)=true:=Da c6
   have i0:∀ H (x y:Int),qa H 2 (.pv (.lit 2 [.agg [i64 x,i64 y]])) 0=some (.pv (.rp [i64 x,i64 y] 0)):=fun H x y=>rfl
   have q1:∀ H (x y:PV),place H 1 (.pv (.rp [x,y] 0))=some (.pv (.rp [x,y] 1)):=fun H x y=>rfl
   have m1:∀ H (x y:PV),ya H false 1 (.pv (.rp [x,y] 1))=some (.pv y):=fun H x y=>rfl
   simp -implicitDefEqProofs only[SX,sevalprocAttr,na,Jb,e1,a1,a2,s1,p0,p1,l0,l1,l2,lA,d1,d2,d3,d4,h6,hct,hlast,i0,q1,m1,d6,Mq]
   subst hQ;exact⟨_,_,rfl,by simp[Tr.aa]⟩
  ·rw[decide_eq_false c5] at hct
   simp -implicitDefEqProofs only[SX,sevalprocAttr,Jb,e1,a1,a2,s1,p0,p1,l0,l1,lA,d1,d2,d3,d4,h6,hct,Mq]
   subst hQ;exact⟨_,_,rfl,by simp[Tr.aa]⟩
 obtain⟨r,h1,E,H,rfl,h2⟩:=Fc key
 exact⟨E,H,h1,h2⟩
theorem LD {i:Nat} (hi:i < ss.length) {v:PV} {u:List (Int×Int)} (hv:nX ss i v u) (Aa:Nd ss[i]):
 Td (fun r=>(∃ E H,r=(.ret,⟨E,H⟩)∧E.get 2= .pv (.bool false)∧∃ s∈ss.take i,¬Vm s ss[i])∨(∃ v' u',r=(.norm,⟨Mq S v' ss.length (i+1:Nat),[]⟩)∧nX ss (i+1) v' u'))
  (fa (ta (Ga bc 8) Jb) (ga 0 [3,12,13,14]) ⟨Mq S v ss.length i,[]⟩):=by
 obtain⟨e,P,ps,he,hSl,hsh⟩:=hS.get hi
 obtain⟨rfl,hP⟩:=hsh
 have htake:ss.take (i+1)=ss.take i++[ss[i]]:=List.take_succ_eq_append_getElem hi
 generalize hs:ss[i]=s at *
 have hq:i < es.length:=by rw[hS.len];exact hi
 have e1:decide ((i:Int) < (ss.length:Int))=true:=Da (by omega)
 have t2:=Ua hi hS.sz
 have a1:qa [] 2 (.pv S) (i:Int)=some (.pv (.rp [P,i64 s.first] 0)):=by
  rw[hSl]
  simp only[qa]
  rw[if_pos (by unfold Fa;simp;omega),Int.toNat_natCast,he];rfl
 have a2:ya [] true 2 (.pv (.rp [P,i64 s.first] 0))=some (.pv (.agg [P,i64 s.first])):=rfl
 have hP1:(AV.pv P).one=true:=by rcases hP.is with⟨h,_⟩ | h <;> rw[h] <;> rfl
 have s1:Ra [.box [.pv .pa,.pv (i64 0)]] 2 (.ptr 0 0) (.pv (.agg [P,i64 s.first]))=some [.box [.pv P,.pv (i64 s.first)]]:=Cn _ _ _ _ hP1 rfl [] _ rfl
 have p0:place [.box [.pv P,.pv (i64 s.first)]] 0 (.ptr 0 0)=some (.ptr 0 0):=rfl
 have p1:place [.box [.pv P,.pv (i64 s.first)]] 1 (.ptr 0 0)=some (.ptr 0 1):=rfl
 have l0:ya [.box [.pv P,.pv (i64 s.first)]] false 1 (.ptr 0 0)=some (.pv P):=rfl
 have l1:ya [.box [.pv P,.pv (i64 s.first)]] false 1 (.ptr 0 1)=some (.pv (i64 s.first)):=rfl
 have l2:ya [.box [.pv P,.pv (i64 s.first)]] true 2 (.ptr 0 0)=some (.pv (.agg [P,i64 s.first])):=rfl
 have hg:Ng [.box [.pv P,.pv (i64 s.first)]]:=by
  intro n _ o ho;simp at ho;subst ho;simp[ma,Qa,Ia]
 have hct:=vz hP 5 [.box [.pv P,.pv (i64 s.first)]] hg
 rw[decide_eq_true Aa.parts] at hct
 have h6:bc 6=some Ib:=rfl
 have lA:=hP.Wb
 have d1:decide ((s.parts.length:Int) < 1)=false:=Ha (by have:=Aa.lo;omega)
 have d2:decide ((s.parts.length:Int) > 8)=false:=Ha (by have:=Aa.hi;omega)
 have d3:decide (s.first < 0)=false:=Ha (by have:=Aa.f0;omega)
 have d4:decide (s.first > 1073741823)=false:=Ha (by have:=Aa.f1;omega)
 have hlast:=rJ (e:= .agg [P,i64 s.first]) ⟨rfl,hP⟩ Aa.parts ⟨Aa.f0,Aa.f1⟩
 have d6:decide (Nh s > 1073741823)=false:=Ha (by have:=Aa.last;omega)
 have i0:∀ H (x y:Int),qa H 2 (.pv (.lit 2 [.agg [i64 x,i64 y]])) 0=some (.pv (.rp [i64 x,i64 y] 0)):=fun H x y=>rfl
 have q1:∀ H (x y:PV),place H 1 (.pv (.rp [x,y] 0))=some (.pv (.rp [x,y] 1)):=fun H x y=>rfl
 have m1:∀ H (x y:PV),ya H false 1 (.pv (.rp [x,y] 1))=some (.pv y):=fun H x y=>rfl
 have hvr:Oa ay (-2) [(s.first,Nh s)]=true:=by
  rw[Bq];have:=Aa.RB;have:=Aa.f0;have:=Aa.last;unfold ay;simp only;omega
 have hmt:=OA v (.lit 2 [.agg [i64 s.first,i64 (Nh s)]]) u [(s.first,Nh s)] hv.is (.inr rfl) hv.val hvr (by have:=hv.len;simp;omega)
 obtain⟨u',hun,hv1,hv2,hv3⟩:=cQ v (.lit 2 [.agg [i64 s.first,i64 (Nh s)]]) u [(s.first,Nh s)] hv.is (.inr rfl) hv.val hvr (by have:=hv.len;simp;omega)
 have hms:=UM hv.val hvr
 have hml:∀ l:List (Int×Int),(de l).length=l.length:=fun l=>by simp
 generalize Xf (u.length+[(s.first,Nh s)].length) u [(s.first,Nh s)]=mm at *
 have hvv:(AV.pv v).cells=[.pv v]:=by rcases hv.is with⟨h,_⟩ | h <;> rw[h] <;> rfl
 generalize hQ:(fun r:Ex×St=>_)=Q
 by_cases c7:mm=[]
 ·have d7:decide ((mm.length:Int) > 0)=false:=Ha (by rw[c7];simp)
  have hno:¬∃ x,Xj x u∧Xj x [(s.first,Nh s)]:=fun h=>(hms.2 h) c7
  simp -implicitDefEqProofs only[SX,sevalprocAttr,na,Jb,e1,t2,a1,a2,s1,p0,p1,l0,l1,l2,lA,d1,d2,d3,d4,h6,hct,hlast,i0,q1,m1,d6,hmt,hml,d7,hun,ga,za,AV.cut,ma,List.take_zero,wa,Mq]
  subst hQ
  refine .inr ⟨_,u',rfl,.inr rfl,hv1,by have:=hv.len;simp at hv3;omega,fun x=> ?_,?_,?_⟩
  ·rw[hv2,Po,hv.mem,htake]
   constructor
   ·rintro (⟨t,ht,hx⟩ | hx)
    ·exact⟨t,by simp[ht],hx⟩
    ·exact⟨s,by simp,hx⟩
   ·rintro⟨t,ht,hx⟩
    rcases List.mem_append.1 ht with h | h
    ·exact .inl ⟨t,h,hx⟩
    ·simp at h;subst h;exact .inr hx
  ·intro t ht
   rw[htake] at ht
   rcases List.mem_append.1 ht with h | h
   ·exact hv.As t h
   ·simp at h;subst h;exact Aa
  ·rw[htake,List.pairwise_append]
   refine⟨hv.apart,by simp,fun t ht w hw x hx=> ?_⟩
   simp at hw;subst hw
   exact hno ⟨x,(hv.mem x).2 ⟨t,ht,hx.1⟩,(Po _ _).2 hx.2⟩
 ·have d7:decide ((mm.length:Int) > 0)=true:=Da (by have:mm.length≠0:=fun e=>c7 (List.eq_nil_of_length_eq_zero e);omega)
  obtain⟨x,hx1,hx2⟩:=hms.1 c7
  simp -implicitDefEqProofs only[SX,sevalprocAttr,na,Jb,e1,a1,a2,s1,p0,p1,l0,l1,l2,lA,d1,d2,d3,d4,h6,hct,hlast,i0,q1,m1,d6,hmt,hml,d7,Mq]
  subst hQ
  obtain⟨t,ht,hx3⟩:=(hv.mem x).1 hx1
  exact .inl ⟨_,_,rfl,by simp[Tr.aa],t,ht,fun h=>h x ⟨hx3,(Po _ _).1 hx2⟩⟩
end
theorem rl {S:PV} {ss:List dc} {es:List PV} (hS:Ab S ss es):∃ b,ig [.agg [S]]=some (.bool b)∧(b=true↔Hc ss):=by
 have lA:=hS.Wb
 by_cases hl:ss.length≤32
 ·have e0:decide ((ss.length:Int) > 32)=false:=Ha (by omega)
  have hloop:Td (fun r=>∃ E H,(r=(.exit 0,⟨E,H⟩)∧Hc ss)∨(r=(.ret,⟨E,H⟩)∧E.get 2= .pv (.bool false)∧¬Hc ss))
   (gb (fa (ta (Ga bc 8) Jb) (ga 0 [3,12,13,14])) oa ⟨Mq S .pa ss.length 0,[]⟩):=by
   refine xa (Nb (g:=fa (ta (Ga bc 8) Jb) (ga 0 [3,12,13,14]))
    (fun i t=>∃ v u,t=⟨Mq S v ss.length i,[]⟩∧nX ss i v u)
    ss.length (by unfold oa;omega) _ ⟨.pa,[],rfl,.inl ⟨rfl,rfl⟩,rfl,by simp,fun x=>by simp[Xm],by simp,by simp⟩ ?_ ?_) (fun r h=>h.2)
   ·rintro i t hi ⟨v,u,rfl,hv⟩
    by_cases Aa:Nd ss[i]
    ·refine xa (LD hS hl hi hv Aa) ?_
     rintro r (⟨E,H,rfl,hE,s,hs,hna⟩ | ⟨v',u',rfl,hv'⟩)
     ·refine⟨E,H,.inr ⟨rfl,hE,fun h=>hna ?_⟩⟩
      obtain⟨j,hj,rfl⟩:=List.mem_take_iff_getElem.1 hs
      have:=List.pairwise_iff_getElem.1 h.apart j i (by omega) hi (by omega)
      exact this
     ·exact⟨v',u',rfl,hv'⟩
    ·obtain⟨E,H,h1,h2⟩:=sC hS hi v Aa
     exact HW h1 ⟨E,H,.inr ⟨rfl,h2,fun h=>Aa (h.As _ (List.getElem_mem hi))⟩⟩
   ·rintro t ⟨v,u,rfl,hv⟩
    have e1:decide ((ss.length:Int) < (ss.length:Int))=false:=Ha (by omega)
    have hfin:Hc ss:=⟨hl,by have:=hv.As;rwa [List.take_length] at this,by have:=hv.apart;rwa [List.take_length] at this⟩
    generalize hQ:(fun r:Ex×St=>r.1.stop=true∧_)=Q
    simp -implicitDefEqProofs only[SX,sevalprocAttr,Jb,e1,Mq]
    subst hQ
    exact⟨rfl,_,_,.inl ⟨rfl,hfin⟩⟩
  obtain⟨r,h1,E,H,h2⟩:=Fc hloop
  have h1':gb (fa (ta (Ga bc 8) Jb) (ga 0 [3,12,13,14])) oa ⟨(((Tr.lf.set 14 (.pv (.int .i64 0))).set 13 (.pv (.int .i64 ss.length))).set 12 (.pv S)).set 3 (.pv .pa),[]⟩=some r:=h1
  have hSv:∃ sz es,S= .pa∨S= .lit sz es:=by rcases hS.is with⟨h,_⟩ | h;exact⟨0,[],.inl h⟩;exact⟨_,_,.inr h⟩
  rcases h2 with⟨rfl,Aa⟩ | ⟨rfl,hE,hno⟩
  ·refine⟨true,?_,by simp[Aa]⟩
   obtain⟨sz,es,rfl | rfl⟩:=hSv <;>
   simp -implicitDefEqProofs only[ig,SP,SA,SQ,WP,WQ,sevalprocAttr,Kk,xb,lA,e0,h1']
  ·refine⟨false,?_,by simp[hno]⟩
   obtain⟨sz,es,rfl | rfl⟩:=hSv <;>
   simp -implicitDefEqProofs only[ig,SP,SA,SQ,WP,WQ,sevalprocAttr,Kk,xb,lA,e0,h1',hE]
 ·have e0:decide ((ss.length:Int) > 32)=true:=Da (by omega)
  refine⟨false,?_,by simp;exact fun h=>hl h.len⟩
  have hSv:∃ sz es,S= .pa∨S= .lit sz es:=by rcases hS.is with⟨h,_⟩ | h;exact⟨0,[],.inl h⟩;exact⟨_,_,.inr h⟩
  obtain⟨sz,es,rfl | rfl⟩:=hSv <;>
  simp -implicitDefEqProofs only[ig,SP,SA,SQ,WP,WQ,sevalprocAttr,Kk,xb,lA,e0]
end Go.AM.B1
namespace Go.AM.B1
open Go.AM Go.AM.So
theorem pf.one {e:PV} {s:dc} {P:PV} {ps:List PV} (h:pf e s P ps):Ab (.lit 2 [e]) [s] [e]:=by
 refine⟨.inr rfl,rfl,?_,by simp[maxLen]⟩
 intro k e' s' h1 h2
 match k,h1,h2 with
 |0,h1,h2=>simp at h1 h2;subst h1 h2;exact⟨P,ps,h⟩
 |k+1,h1,h2=>simp at h1
theorem dQ {s:dc}:Hc [s]↔Nd s:=⟨fun h=>h.As s (by simp),fun h=>⟨by simp,by simpa using h,by simp⟩⟩
theorem pf.Mv {e:PV} {s:dc} {P:PV} {ps:List PV} (h:pf e s P ps):(AV.pv P).one=true∧P.cells=[P]:=by
 rcases h.parts.is with⟨h,_⟩ | h <;> rw[h] <;> exact⟨rfl,rfl⟩
theorem Zl {e:PV} {s:dc} {P:PV} {ps:List PV} (h:pf e s P ps):∃ b,Yi [e]=some (.bool b)∧(b=true↔Nd s):=by
 obtain⟨b,h1,h2⟩:=rl h.one
 refine⟨b,?_,h2.trans dQ⟩
 obtain⟨hP1,hP2⟩:=h.Mv
 have heq:=h.eq
 subst heq
 rcases h.parts.is with⟨rfl,_⟩ | rfl <;>
 simp -implicitDefEqProofs only[Yi,SP,SA,SQ,WP,WQ,sevalprocAttr,Nr,h1]
theorem Rf.pd {P:PV} {ls:List (List (Int×Int))} {ps:List PV} (hP:Rf P ls ps) {i:Nat} (hi:i < ls.length) (H:List ba):∃ v,ps[i]? =some v∧Jm v ls[i]∧qa H 1 (.pv P) (i:Int)=some (.pv (.rp [v] 0)):=by
 obtain⟨v,hv,hPl,hpt⟩:=hP.get hi
 refine⟨v,hv,hpt,?_⟩
 have hq:i < ps.length:=by rw[hP.len];exact hi
 have hcl:v.cells=[v]:=by rcases hpt.is with⟨h,_⟩ | h <;> rw[h] <;> rfl
 rw[hPl]
 simp only[qa]
 rw[if_pos (by unfold Fa;simp;omega),Int.toNat_natCast,hv]
 simp[hcl]
theorem Rf.Hw {P:PV} {ls:List (List (Int×Int))} {ps:List PV} (hP:Rf P ls ps) {i:Nat} {v:PV} (hv:ps[i]? =some v) (H:List ba):qa H 1 (.pv P) (i:Int)=some (.pv (.rp [v] 0)):=by
 have hi:i < ls.length:=by rw[← hP.len];exact (List.getElem?_eq_some_iff.1 hv).1
 obtain⟨w,hw,_,h⟩:=hP.pd hi H
 rw[hv] at hw;injection hw with hw;subst hw;exact h
def Uo (p q:List (List (Int×Int))) (i:Nat):List (Int×Int):=match p[i]?,q[i]? with
 |some a,some b=>Xf (a.length+b.length) a b
 |_,_=>[]
def ec (p q:List (List (Int×Int))):Nat→Nat→Option (List Int)
 |0,_=>some []
 |n+1,i=>match Uo p q i with
  | []=>none
  |m::_=>(ec p q n (i+1)).map (m.1:: ·)
abbrev eJ (rp rq:List PV) (n i:Int) (tk:Nat) (nl:Bool) (es:List PV):Tr:=((((Tr.lf.set 35 (.pv (i64 i))).set 34 (.pv (i64 n))).set 8 (.uq tk nl 1 es)).set 4 (.pv (.rp rq 0))).set 3 (.pv (.rp rp 0))
theorem Wq {A:List ba} {id n bytes:Nat} {nl:Bool} {h:Cf} {es:List PV} (hg:A[id]? =some (.tok 1 n nl)) (hn:n=es.length) (hr:pb (n+1) bytes) (e:PV):
 ic A false h 1 false bytes (.uq id nl 1 es) (.pv (.lit 1 [e]))=some (.uq id false 1 (es++[e]),A.set id (.tok 1 (n+1) false)):=qj hg hn hr e
theorem FL {e f:PV} {p q:dc} {P Q:PV} {ps qs:List PV} (hp:pf e p P ps) (hq:pf f q Q qs) (op:Nd p) (oq:Nd q) {n:Nat} (hn:n≤p.parts.length) (hn2:n≤q.parts.length):
 (ec p.parts q.parts n 0=none→oi [e,f,i64 n]=some (.Zb [.pa,.bool false]))∧
 (∀ bs,ec p.parts q.parts n 0=some bs→∃ v,oi [e,f,i64 n]=some (.Zb [v,.bool true])∧Di 1 v (bs.map (PV.int .u8))∧bs.length=n∧∀ b∈bs,0≤b∧b≤255):=by
 obtain⟨b1,hb1,hb1'⟩:=Zl hp
 obtain⟨b2,hb2,hb2'⟩:=Zl hq
 have:b1=true:=hb1'.2 op
 subst this
 have:b2=true:=hb2'.2 oq
 subst this
 obtain⟨hP1,hP2⟩:=hp.Mv
 obtain⟨hQ1,hQ2⟩:=hq.Mv
 have heq:=hp.eq
 have hfq:=hq.eq
 subst heq hfq
 have h8:=op.hi
 have lP:=hp.parts.Wb
 have lQ:=hq.parts.Wb
 have hloop:Td (fun r=>∃ E H,(r=(.ret,⟨E,H⟩)∧E.get 6= .pv .pa∧E.get 7= .pv (.bool false)∧ec p.parts q.parts n 0=none)∨(∃ nl bs,r=(.exit 0,⟨E,H⟩)∧E.get 8= .uq 0 nl 1 (bs.map (PV.int .u8))∧(nl=true→bs=[])∧ec p.parts q.parts n 0=some bs∧bs.length=n∧∀ b∈bs,0≤b∧b≤255))
  (gb (fa (ta (Ga (fun _=>none) 8) sg) (ga 1 [3,4,8,34,35])) oa ⟨eJ [P,i64 p.first] [Q,i64 q.first] n 0 0 true [],[.tok 1 0 true]⟩):=by
  refine xa (Nb (g:=fa (ta (Ga (fun _=>none) 8) sg) (ga 1 [3,4,8,34,35]))
   (fun i t=>∃ nl bs,t=⟨eJ [P,i64 p.first] [Q,i64 q.first] n i 0 nl (bs.map (PV.int .u8)),[.tok 1 i nl]⟩∧bs.length=i∧(nl=true→bs=[])∧(∀ b∈bs,0≤b∧b≤255)∧ec p.parts q.parts n 0=(ec p.parts q.parts (n - i) i).map (bs++ ·))
   n (by unfold oa;omega) _ ⟨true,[],rfl,rfl,fun _=>rfl,by simp,by cases ec p.parts q.parts n 0 <;> simp[*]⟩ ?_ ?_) (fun r h=>h.2)
  ·rintro i t hi ⟨nl,bs,rfl,hlen,hnl,hby,hs⟩
   obtain⟨v,hv,hpv,_⟩:=hp.parts.pd (i:=i) (by omega) []
   obtain⟨w,hw,hqw,_⟩:=hq.parts.pd (i:=i) (by omega) []
   have a1:=hp.parts.Hw hv
   have a2:=hq.parts.Hw hw
   have okv:=op.parts _ (List.getElem_mem (show i < p.parts.length by omega))
   have okw:=oq.parts _ (List.getElem_mem (show i < q.parts.length by omega))
   have hmt:=RE v w _ _ hpv.is hqw.is okv.2 okw.2 (by
    have:=(yr okv.2).2.1 okv.1
    have h1:=hpv.sz
    have h2:=hqw.sz
    have k1:=wu okv.2
    have k2:=wu okw.2
    omega)
   have hlaw:=Ns _ _ _ (-2) (-2) okv.2 okw.2 (Nat.le_refl _)
   have hmA:Uo p.parts q.parts i=Xf (p.parts[i].length+q.parts[i].length) p.parts[i] q.parts[i]:=by
    unfold Uo
    rw[List.getElem?_eq_getElem (show i < p.parts.length by omega),List.getElem?_eq_getElem (show i < q.parts.length by omega)]
   obtain⟨m,hm⟩:∃ m,n - i=m+1:=⟨n - i - 1,by omega⟩
   have hm':n - (i+1)=m:=by omega
   rw[hm,ec,hmA] at hs
   have hme:=fq okv.2
   generalize p.parts[i]=lv at *
   generalize q.parts[i]=lw at *
   generalize Xf (lv.length+lw.length) lv lw=mm at *
   have e1:decide ((i:Int) < (n:Int))=true:=Da (by omega)
   have t2:=Ua (i:=i) (n:=n) hi (by unfold maxLen;omega)
   have lm:∀ H,Wb H 0 (.pv (.lit 2 (de mm)))=some mm.length:=fun H=>by simp[Wb]
   have r0:∀ H (x y:PV),ya H false 1 (.pv (.rp [x,y] 0))=some (.pv x):=fun H x y=>rfl
   have r1:∀ H (x:PV),ya H false 1 (.pv (.rp [x] 0))=some (.pv x):=fun H x=>rfl
   have q0:∀ H (x y:PV),place H 0 (.pv (.rp [x,y] 0))=some (.pv (.rp [x,y] 0)):=fun H x y=>rfl
   generalize hQ:LN _ _ i=QQ
   cases mm with
   |nil=>
    have z1:(((0:Nat):Int)==0)=true:=by decide
    simp only[Option.map_none] at hs
    simp -implicitDefEqProofs only[SX,sevalprocAttr,sg,e1,a1,a2,r0,r1,q0,hmt,lm,z1,eJ]
    subst hQ
    exact⟨_,_,.inl ⟨rfl,by simp[Tr.aa],by simp[Tr.aa],hs⟩⟩
   |cons m0 mm=>
    have z1:(((mm.length+1:Nat):Int)==0)=false:=ni (by omega)
    have i0:∀ H,qa H 2 (.pv (.lit 2 (de (m0::mm)))) 0=some (.pv (.rp [i64 m0.1,i64 m0.2] 0)):=fun H=>ll H (i:=0) (l:=m0::mm) (by simp)
    have hb0:0≤m0.1∧m0.1≤255:=by
     have hmem:=(hlaw.1 m0.1).1 ⟨m0,by simp,Int.le_refl _,hlaw.2 m0 (by simp)⟩
     obtain⟨pp,hpp,h1,h2⟩:=hmem.1
     have:=hme pp hpp;omega
    have t3:IntKind.u8.wrap m0.1=m0.1:=wrap_u8 hb0
    have hap:=Wq (A:=[.tok 1 i nl]) (id:=0) (n:=i) (h:= .uq) (nl:=nl) (bytes:=1) (es:=bs.map (PV.int .u8)) rfl (by simp[hlen]) (by unfold pb;omega) (.int .u8 m0.1)
    rw[List.set_cons_zero] at hap
    have lm':∀ H,Wb H 0 (.pv (.lit 2 (de (m0::mm))))=some (mm.length+1):=lm
    have hbm:(bs++[m0.1]).map (PV.int .u8)=bs.map (PV.int .u8)++[.int .u8 m0.1]:=by simp
    generalize de (m0::mm)=L at *
    simp -implicitDefEqProofs only[SP,WP,na,sevalprocAttr,sg,e1,t2,t3,a1,a2,r0,r1,q0,hmt,lm',z1,i0,hap,ga,za,AV.cut,ma,wa,eJ]
    subst hQ
    refine⟨false,bs++[m0.1],by rw[hbm],by simp[hlen],by simp,?_,?_⟩
    ·intro b hb
     rcases List.mem_append.1 hb with h | h
     ·exact hby b h
     ·simp at h;subst h;exact hb0
    ·rw[hs,hm']
     cases ec p.parts q.parts m (i+1) <;> simp
  ·rintro t ⟨nl,bs,rfl,hlen,hnl,hby,hs⟩
   rw[Nat.sub_self,ec] at hs
   have e1:decide ((n:Int) < (n:Int))=false:=Ha (by omega)
   generalize hQ:(fun r:Ex×St=>r.1.stop=true∧_)=QQ
   simp -implicitDefEqProofs only[SX,sevalprocAttr,sg,e1,eJ]
   subst hQ
   exact⟨rfl,_,_,.inr ⟨nl,bs,rfl,by simp[Tr.aa],hnl,by rw[hs];simp,hlen,hby⟩⟩
 obtain⟨r,h1,E,H,h2⟩:=Fc hloop
 have h1':gb (fa (ta (Ga (fun _=>none) 8) sg) (ga 1 [3,4,8,34,35])) oa ⟨((((Tr.lf.set 35 (.pv (.int .i64 0))).set 34 (.pv (i64 n))).set 8 (.uq 0 true 1 [])).set 4 (.pv (.rp [Q,i64 q.first] 0))).set 3 (.pv (.rp [P,i64 p.first] 0)),[.tok 1 0 true]⟩=some r:=h1
 have d0:decide ((n:Int) < 0)=false:=Ha (by omega)
 have d1:decide ((n:Int) > (if (q.parts.length:Int) < (p.parts.length:Int) then (q.parts.length:Int) else (p.parts.length:Int)))=false:=Ha (by split <;> omega)
 have hz:(0 < 1)=True:=by simp
 have r2:∀ H (x y:PV),ya H true 2 (.pv (.rp [x,y] 0))=some (.pv (.agg [x,y])):=fun H x y=>rfl
 have r0:∀ H (x y:PV),ya H false 1 (.pv (.rp [x,y] 0))=some (.pv x):=fun H x y=>rfl
 have q0:∀ H (x y:PV),place H 0 (.pv (.rp [x,y] 0))=some (.pv (.rp [x,y] 0)):=fun H x y=>rfl
 rcases h2 with⟨rfl,h6,h7,hnone⟩ | ⟨nl,bs,rfl,h8',hnl,hsome,hlen,hby⟩
 ·refine⟨fun _=> ?_,fun bs hbs=>by rw[hnone] at hbs;cases hbs⟩
  simp -implicitDefEqProofs only[oi,SX,sevalprocAttr,Xk,xb,hP1,hQ1,r2,r0,q0,hb1,hb2,lP,lQ,gr,Ae,d0,d1,Vf,hz,ga,za,AV.cut,ma,wa,h1',h6,h7]
 ·refine⟨fun hn=>(by rw[hsome] at hn;cases hn),fun bs' hbs=> ?_⟩
  rw[hsome] at hbs;injection hbs with hbs;subst hbs
  cases nl with
  |true=>
   have:=hnl rfl;subst this
   refine⟨.pa,?_,.inl ⟨rfl,rfl⟩,hlen,hby⟩
   simp -implicitDefEqProofs only[oi,SX,sevalprocAttr,Xk,xb,hP1,hQ1,r2,r0,q0,hb1,hb2,lP,lQ,gr,Ae,d0,d1,Vf,hz,ga,za,AV.cut,ma,wa,h1',h8']
  |false=>
   refine⟨.lit 1 (bs.map (PV.int .u8)),?_,.inr rfl,hlen,hby⟩
   simp -implicitDefEqProofs only[oi,SX,sevalprocAttr,Xk,xb,hP1,hQ1,r2,r0,q0,hb1,hb2,lP,lQ,gr,Ae,d0,d1,Vf,hz,ga,za,AV.cut,ma,wa,h1',h8']
end Go.AM.B1
namespace Go.AM.B1
open Go.AM Go.AM.So
def Ca:List (List (Int×Int))→Int
 | []=>1
 |l::r=>Ca r * Sb 0 l
theorem Cd:∀ {ls:List (List (Int×Int))},(∀ l∈ls,zc l)→1≤Ca ls
 | [],_=>by simp[Ca]
 |l::r,h=>by
  have h1:=Cd (ls:=r) fun x hx=>h x (by simp[hx])
  have h2:=(qf (h l (by simp))).1
  rw[Ca]
  have:=Int.mul_le_mul h1 h2 (by omega) (by omega);omega
theorem cy:∀ (ls:List (List (Int×Int))) (n:Int),(∀ l∈ls,zc l)→1≤n→n≤1073741825→uh n ls=if 1073741825 < n * Ca ls then 1073741825 else n * Ca ls
 | [],n,_,h1,h2=>by rw[uh,Ca,Int.mul_one,if_neg (by omega)]
 |l::r,n,h,h1,h2=>by
  have hs:=qf (h l (by simp))
  have hm:=Lw h1 h2 hs.1 hs.2
  have hp:=Cd (ls:=r) fun x hx=>h x (by simp[hx])
  have e:n * (Ca r * Sb 0 l)=(n * Sb 0 l) * Ca r:=by rw[Int.mul_comm (Ca r),Int.mul_assoc]
  rw[uh,Ca,e]
  by_cases hc:1073741825 < n * Sb 0 l
  ·rw[if_pos hc,cy r _ (fun x hx=>h x (by simp[hx])) (by omega) (by omega)]
   have h3:n * Sb 0 l * 1≤n * Sb 0 l * Ca r:=Int.mul_le_mul_of_nonneg_left hp (by omega)
   rw[if_pos (show 1073741825 < n * Sb 0 l * Ca r by omega)]
   split
   ·rfl
   ·have h4:1073741825 * 1≤1073741825 * Ca r:=Int.mul_le_mul_of_nonneg_left hp (by omega)
    omega
  ·rw[if_neg hc,cy r _ (fun x hx=>h x (by simp[hx])) (by omega) (by omega)]
theorem Nd.prod {s:dc} (h:Nd s):uh 1 s.parts=Ca s.parts∧Ca s.parts≤1073741824:=by
 have h1:=cy s.parts 1 h.parts (by omega) (by omega)
 have h2:=h.last
 have h3:=h.f0
 unfold Nh at h2
 rw[Int.one_mul] at h1
 split at h1
 ·omega
 ·exact⟨h1,by omega⟩
theorem Nd.Nh {s:dc} (h:Nd s):B1.Nh s=s.first+Ca s.parts - 1:=by
 unfold B1.Nh;rw[h.prod.1]
theorem zn {ls:List (List (Int×Int))} (h:∀ l∈ls,zc l) (i:Nat):Ca (ls.drop i)≤Ca ls:=by
 induction ls generalizing i with
 |nil=>simp
 |cons l r ih=>
  cases i with
  |zero=>simp
  |succ i=>
   rw[List.drop_succ_cons,Ca]
   have h1:=ih (fun x hx=>h x (by simp[hx])) i
   have h2:=(qf (h l (by simp))).1
   have hp:=Cd (ls:=r) fun x hx=>h x (by simp[hx])
   have:Ca r * 1≤Ca r * Sb 0 l:=Int.mul_le_mul_of_nonneg_left h2 (by omega)
   omega
def pq (l:List Int) (fl:Nat) (nl:Bool):ba:= .seq 1 false (Ka l) fl nl
section
variable {A:List ba} {id n fl:Nat} {nl:Bool} {l:List Int} (hg:A[id]? =some (pq l fl nl)) (hn:n=l.length) (hf:fl≤n)
include hg hn
theorem CE (hf:fl≤n) {i:Int} {k:Nat} (hi:i=(k:Int)) (hk:k < n):qa A 1 (.own id n) i=some (.Gc id n k):=by
 have:=fb l
 subst hi
 simp only[qa,hg,pq]
 rw[if_pos (by refine⟨trivial,?_,?_⟩ <;> first | (unfold Fa;omega) | (unfold nh;omega))]
 simp
theorem AD {k:Nat} (hk:k < n) (v:Int):Ra A 1 (.Gc id n k) (.pv (i64 v))=some (A.set id (pq (l.set k v) n nl)):=by
 have hl:=fb l
 have hc:(AV.pv (i64 v)).cells=[.pv (i64 v)]:=rfl
 simp only[Ra,hg,pq,hc]
 rw[if_pos ⟨rfl,rfl⟩,if_pos ⟨by omega,by omega⟩,na,na,gj]
theorem nQ (d:Nat):Ub A (d+1) (.own id n)=some (if nl then .pa else .lit 1 (l.map i64)):=by
 have hl:=fb l
 subst hn
 simp only[Ub,hg,pq]
 have hm:Qa (Ub A d) (Ka l)=some (l.map i64):=by rw[Ys,wC]
 have hck:∀ l:List Int,chunk 1 false l.length (l.map i64)=l.map i64:=by
  intro l
  induction l with
  |nil=>rfl
  |cons a l ih=>simp only[List.map_cons,List.length_cons,chunk,Bool.false_eq_true,if_false,List.headD_cons,List.drop_succ_cons,List.drop_zero];rw[ih]
 rw[if_pos ⟨by omega,by rfl⟩,hm]
 cases nl with
 |true=>rfl
 |false=>simp only[Bool.false_eq_true,if_false,Option.map_some,hck]
end
theorem oK (l:List Int) (fl:Nat) (nl:Bool) (n:Nat):ma n (pq l fl nl)=some (pq l fl nl):=by
 have:(Ka l).all (AV.Be n deep)=true:=by
  rw[List.all_eq_true]
  intro v hv
  obtain⟨p,_,rfl⟩:=List.mem_map.1 hv
  rfl
 simp[ma,pq,this]
def sm (ls:List (List (Int×Int))) (i:Nat):List Int:=(List.range (ls.length+1)).map fun j=>if i < j then Ca (ls.drop j) else 0
theorem Vw (ls:List (List (Int×Int))) (i:Nat):(sm ls i).length=ls.length+1:=by simp[sm]
theorem SO (ls:List (List (Int×Int))) (i:Nat) (hi:i < ls.length):(sm ls (i+1)).set (i+1) (Ca (ls.drop (i+1)))=sm ls i:=by
 apply List.ext_getElem
 ·simp[sm]
 ·intro j h1 h2
  rw[List.getElem_set]
  simp only[sm,List.getElem_map,List.getElem_range]
  by_cases hj:i+1=j
  ·subst hj;simp
  ·rw[if_neg hj]
   by_cases h:i+1 < j
   ·rw[if_pos h,if_pos (by omega)]
   ·rw[if_neg h,if_neg (by omega)]
def xk (ls:List (List (Int×Int))):List Int:=(List.range (ls.length+1)).map fun j=>Ca (ls.drop j)
theorem uM (ls:List (List (Int×Int))):(sm ls 0).set 0 (Ca ls)=xk ls:=by
 apply List.ext_getElem
 ·simp[sm,xk]
 ·intro j h1 h2
  rw[List.getElem_set]
  simp only[sm,xk,List.getElem_map,List.getElem_range]
  by_cases hj:0=j
  ·subst hj;simp
  ·rw[if_neg hj,if_pos (by omega)]
abbrev nO (row:List PV) (m:Nat) (n i:Int):Tr:=(((Tr.lf.set 5 (.pv (i64 i))).set 4 (.pv (i64 n))).set 3 (.own 0 m)).set 1 (.pv (.rp row 0))
theorem TG {e:PV} {s:dc} {P:PV} {ps:List PV} (h:pf e s P ps) (Aa:Nd s):Ll [e]=some (.lit 1 ((xk s.parts).map i64)):=by
 obtain⟨hP1,hP2⟩:=h.Mv
 have heq:=h.eq
 subst heq
 have hP:=h.parts
 have lP:=hP.Wb
 have h8:=Aa.hi
 have hpr:=Aa.prod.2
 have hloop:Td (fun r=>∃ E,r=(.exit 0,⟨E,[pq (sm s.parts 0) (s.parts.length+1) false]⟩)∧E.get 3= .own 0 (s.parts.length+1)∧E.get 4= .pv (i64 (Ca s.parts)))
  (gb (fa (ta (Ga (fun _=>none) 8) Vh) (ga 1 [1,3,4,5])) oa ⟨nO [P,i64 s.first] (s.parts.length+1) 1 s.parts.length,[pq (sm s.parts s.parts.length) 0 false]⟩):=by
  refine xa (Iq (g:=fa (ta (Ga (fun _=>none) 8) Vh) (ga 1 [1,3,4,5]))
   (fun i t=>∃ fl,i≤s.parts.length∧t=⟨nO [P,i64 s.first] (s.parts.length+1) (Ca (s.parts.drop i)) i,[pq (sm s.parts i) fl false]⟩∧fl≤s.parts.length+1∧(i < s.parts.length∨s.parts.length=0→fl=s.parts.length+1∨s.parts.length=0))
   oa s.parts.length _ (by unfold oa;omega) ⟨0,Nat.le_refl _,by rw[List.drop_length];rfl,by omega,fun h=>by omega⟩ ?_) (fun r h=>h.2)
  rintro i t ⟨fl,hi,rfl,hfl,hfl2⟩
  cases i with
  |zero=>
   have h1:=Aa.lo
   have:fl=s.parts.length+1:=by rcases hfl2 (.inl (by omega)) with h | h <;> omega
   subst this
   have e1:decide (((0:Nat):Int) > 0)=false:=by decide
   generalize hQ:LQ _ _ _=Q
   simp -implicitDefEqProofs only[SX,sevalprocAttr,-List.reduceReplicate,Vh,e1,nO]
   subst hQ
   exact⟨_,rfl,by simp[Tr.aa],by simp[Tr.aa]⟩
  |succ i=>
   have e1:decide (((i+1:Nat):Int) > 0)=true:=Da (by omega)
   have t1:IntKind.i64.wrap (((i+1:Nat):Int) - 1)=(i:Int):=by rw[Ba (by omega)];omega
   have hg:[pq (sm s.parts (i+1)) fl false][0]? =some (pq (sm s.parts (i+1)) fl false):=rfl
   have a1:=CE hg (n:=s.parts.length+1) (Vw _ _).symm hfl (i:=((i+1:Nat):Int)) rfl (by omega)
   have s1:=AD hg (n:=s.parts.length+1) (Vw _ _).symm (k:=i+1) (by omega) (Ca (s.parts.drop (i+1)))
   rw[List.set_cons_zero,SO s.parts i (by omega)] at s1
   obtain⟨v,hv,hpt,_⟩:=hP.pd (i:=i) (by omega) []
   have a2:=hP.Hw hv
   have hpo:=Aa.parts s.parts[i] (List.getElem_mem (by omega))
   have hss:=gw v s.parts[i] hpt.is hpt.sz hpo.2
   have hd:s.parts.drop i=s.parts[i]::s.parts.drop (i+1):=List.drop_eq_getElem_cons (by omega)
   have hpd:Ca (s.parts.drop i)=Ca (s.parts.drop (i+1)) * Sb 0 s.parts[i]:=by rw[hd,Ca]
   have hle:=zn Aa.parts i
   have hpos:=Cd (ls:=s.parts.drop i) fun x hx=>Aa.parts x (List.mem_of_mem_drop hx)
   rw[hpd] at hle hpos
   generalize s.parts[i]=l at *
   have t3:IntKind.i64.wrap (Ca (s.parts.drop (i+1)) * Sb 0 l)=Ca (s.parts.drop (i+1)) * Sb 0 l:=Ba (by omega)
   have r0:∀ H (x y:PV),ya H false 1 (.pv (.rp [x,y] 0))=some (.pv x):=fun H x y=>rfl
   have r1:∀ H (x:PV),ya H false 1 (.pv (.rp [x] 0))=some (.pv x):=fun H x=>rfl
   have q0:∀ H (x y:PV),place H 0 (.pv (.rp [x,y] 0))=some (.pv (.rp [x,y] 0)):=fun H x y=>rfl
   have hcut:∀ l' fl',Qa (ma 1) [pq l' fl' false]=some [pq l' fl' false]:=fun l' fl'=>by simp[Qa,oK]
   have hz:(0 < 1)=True:=by simp
   have htk:∀ o:ba,[o].take 1=[o]:=fun o=>rfl
   generalize hQ:LQ _ _ _=Q
   simp -implicitDefEqProofs only[SP,WP,na,sevalprocAttr,-List.reduceReplicate,Vh,e1,t1,t3,a1,s1,a2,hss,r0,r1,q0,hcut,hz,htk,ga,za,AV.cut,wa,nO]
   subst hQ
   exact⟨i,by omega,s.parts.length+1,by omega,by rw[hpd],by omega,fun _=> .inl rfl⟩
 obtain⟨r,h1,E,rfl,hE3,hE4⟩:=Fc hloop
 have h1':gb (fa (ta (Ga (fun _=>none) 8) Vh) (ga 1 [1,3,4,5])) oa ⟨(((Tr.lf.set 5 (.pv (i64 s.parts.length))).set 4 (.pv (.int .i64 1))).set 3 (.own 0 (s.parts.length+1))).set 1 (.pv (.rp [P,i64 s.first] 0)),[pq (sm s.parts s.parts.length) 0 false]⟩=_:=h1
 have hz0:ba.seq 1 false (Lj [PV.int .i64 0] (s.parts.length+1)) 0 false=pq (sm s.parts s.parts.length) 0 false:=by
  rw[GG,pq]
  congr 2
  apply List.ext_getElem
  ·simp[sm]
  ·intro j hj1 hj2
   simp at hj1
   simp only[sm,List.getElem_replicate,List.getElem_map,List.getElem_range]
   rw[if_neg (by omega)]
 have t1:IntKind.i64.wrap ((s.parts.length:Int)+1)=((s.parts.length+1:Nat):Int):=Ba (by omega)
 have e2:(0≤((s.parts.length+1:Nat):Int))=True:=by simp;omega
 have e3:(((s.parts.length+1:Nat):Int)≤((s.parts.length+1:Nat):Int))=True:=by simp
 have e4:pb (s.parts.length+1) 8:=by unfold pb;omega
 have hg:[pq (sm s.parts 0) (s.parts.length+1) false][0]? =some (pq (sm s.parts 0) (s.parts.length+1) false):=rfl
 have a1:=CE hg (n:=s.parts.length+1) (Vw _ _).symm (Nat.le_refl _) (i:=0) (k:=0) rfl (by omega)
 have s1:=AD hg (n:=s.parts.length+1) (Vw _ _).symm (k:=0) (by omega) (Ca s.parts)
 rw[List.set_cons_zero,uM] at s1
 have hpv:=nQ (A:=[pq (xk s.parts) (s.parts.length+1) false]) (id:=0) (n:=s.parts.length+1) rfl (by simp[xk]) 5
 rw[if_neg (by simp)] at hpv
 have r0:∀ H (x y:PV),ya H false 1 (.pv (.rp [x,y] 0))=some (.pv x):=fun H x y=>rfl
 have q0:∀ H (x y:PV),place H 0 (.pv (.rp [x,y] 0))=some (.pv (.rp [x,y] 0)):=fun H x y=>rfl
 have hcut:∀ l' fl',Qa (ma 1) [pq l' fl' false]=some [pq l' fl' false]:=fun l' fl'=>by simp[Qa,oK]
 have hz:(0 < 1)=True:=by simp
 have htk:∀ o:ba,[o].take 1=[o]:=fun o=>rfl
 generalize s.parts.length+1=m at *
 simp -implicitDefEqProofs only[Ll,SP,WP,na,sevalprocAttr,-List.reduceReplicate,Br,xb,hP1,r0,q0,lP,t1,e2,e3,eq_true e4,hz0,hcut,hz,htk,ga,za,AV.cut,h1',hE3,hE4,a1,s1,hpv,wa]
end Go.AM.B1
namespace Go.AM.B1
open Go.AM Go.AM.So
def Ag:List (List (Int×Int))→List Int→Int→Option Int
 |l::r,x::b,k=>if (Md x 0 l).2=true then Ag r b (k+(Md x 0 l).1 * Ca r) else none
 |_,_,k=>some k
def Nf (s:dc) (b:List Int):Option Int:=if b.length=s.parts.length then Ag s.parts b 0 else none
theorem fm {top x:Int}:∀ {l:List (Int×Int)} {last n:Int},Oa top last l=true→(Md x n l).2=true→n≤(Md x n l).1∧(Md x n l).1 < n+Sb 0 l
 | [],last,n,_,h=>by simp[Md] at h
 |p::l,last,n,hv,h=>by
  obtain⟨h1,h2,h3,h4,h5⟩:=Pd hv
  have hs:=(yr h5).1
  rw[Md] at h ⊢
  rw[Sb,UA]
  by_cases c1:x < p.1
  ·rw[if_pos c1] at h;cases h
  ·rw[if_neg c1] at h ⊢
   by_cases c2:x≤p.2
   ·rw[if_pos c2];simp only;omega
   ·rw[if_neg c2] at h ⊢
    have:=fm h5 h;omega
theorem SH {l:List (Int×Int)} (h:Oa 255 (-2) l=true):sy l=l:=by unfold sy;rw[if_pos h]
theorem AJ (H:List ba) {sz k:Nat} {es:List PV} (hz:0 < sz) (hk:k≤es.length):Bg H sz (.pv (.lit sz es)) (some (k:Int)) none=some (.pv (.lit sz (es.drop k))):=by
 simp only[Bg,Option.getD_some,Option.getD_none]
 rw[if_pos ⟨hz,trivial,by omega,by omega,by omega⟩]
 simp
theorem Fq (b:List Int) (k:Int):Ag [] b k=some k:=by cases b <;> rfl
abbrev aK (row:List PV) (B S:PV) (n i k:Int):Tr:=(((((Tr.lf.set 26 (.pv (i64 i))).set 25 (.pv (i64 n))).set 24 (.pv S)).set 6 (.pv (i64 k))).set 2 (.pv (.rp row 0))).set 1 (.pv B)
structure Vj (B:PV) (bs:List Int):Prop where
 is:Di 1 B (bs.map (PV.int .u8))
 RB:∀ b∈bs,0≤b∧b≤255
theorem Vj.Wb {B:PV} {bs:List Int} (h:Vj B bs) (H:List ba):Go.AM.Wb H 0 (.pv B)=some bs.length:=by
 rw[h.is.len];simp
theorem Vj.one {B:PV} {bs:List Int} (h:Vj B bs):(AV.pv B).one=true:=by
 rcases h.is with⟨h,_⟩ | h <;> rw[h] <;> rfl
theorem Vj.pd {B:PV} {bs:List Int} (h:Vj B bs) {i:Nat} (hi:i < bs.length) (H:List ba):qa H 1 (.pv B) (i:Int)=some (.pv (.rp [.int .u8 bs[i]] 0)):=by
 have hl:=h.is.lit (i:=i) (by simpa using hi)
 rw[hl]
 simp only[qa]
 rw[if_pos (by unfold Fa;simp;omega),Int.toNat_natCast,List.getElem?_map,List.getElem?_eq_getElem hi];rfl
theorem kD {e:PV} {s:dc} {P:PV} {ps:List PV} (h:pf e s P ps) {B:PV} {bs:List Int} (hB:Vj B bs) (Aa:Nd s):
 (∀ k,Nf s bs=some k→Ti [e,B]=some (.Zb [i64 k,.bool true]))∧(Nf s bs=none→Ti [e,B]=some (.Zb [i64 0,.bool false])):=by
 obtain⟨b1,hb1,hb1'⟩:=Zl h
 have:=hb1'.2 Aa
 subst this
 have hst:=TG h Aa
 obtain⟨hP1,hP2⟩:=h.Mv
 have heq:=h.eq
 subst heq
 have hP:=h.parts
 have lP:=hP.Wb
 have lB:=hB.Wb
 have hB1:=hB.one
 have h8:=Aa.hi
 have hpr:=Aa.prod.2
 have r2:∀ H (x y:PV),ya H true 2 (.pv (.rp [x,y] 0))=some (.pv (.agg [x,y])):=fun H x y=>rfl
 have r0:∀ H (x y:PV),ya H false 1 (.pv (.rp [x,y] 0))=some (.pv x):=fun H x y=>rfl
 have r1:∀ H (x:PV),ya H false 1 (.pv (.rp [x] 0))=some (.pv x):=fun H x=>rfl
 have q0:∀ H (x y:PV),place H 0 (.pv (.rp [x,y] 0))=some (.pv (.rp [x,y] 0)):=fun H x y=>rfl
 by_cases hlen:bs.length=s.parts.length
 ·have hrk:Nf s bs=Ag s.parts bs 0:=by unfold Nf;rw[if_pos hlen]
  have hsl:∀ H,Bg H 1 (.pv (.lit 1 ((xk s.parts).map i64))) (some 1) none=some (.pv (.lit 1 (((xk s.parts).map i64).drop 1))):=fun H=>AJ H (k:=1) (by omega) (by simp[xk])
  have hdl:(((xk s.parts).map i64).drop 1).length=s.parts.length:=by simp[xk]
  have hde:∀ i,i < s.parts.length→(((xk s.parts).map i64).drop 1)[i]? =some (i64 (Ca (s.parts.drop (i+1)))):=by
   intro i hi
   rw[List.getElem?_drop,List.getElem?_map,xk,List.getElem?_map,List.getElem?_range (by omega),Nat.add_comm 1 i];rfl
  generalize ((xk s.parts).map i64).drop 1=S at *
  have hloop:Td (fun r=>∃ E,(r=(.ret,⟨E,[]⟩)∧E.get 4= .pv (i64 0)∧E.get 5= .pv (.bool false)∧Ag s.parts bs 0=none)∨(∃ k,r=(.exit 0,⟨E,[]⟩)∧E.get 6= .pv (i64 k)∧Ag s.parts bs 0=some k))
   (gb (fa (ta (Ga (fun _=>none) 8) qh) (ga 0 [1,2,6,24,25,26])) oa ⟨aK [P,i64 s.first] B (.lit 1 S) s.parts.length 0 0,[]⟩):=by
   refine xa (Nb (g:=fa (ta (Ga (fun _=>none) 8) qh) (ga 0 [1,2,6,24,25,26]))
    (fun i t=>∃ k,t=⟨aK [P,i64 s.first] B (.lit 1 S) s.parts.length i k,[]⟩∧0≤k∧k+Ca (s.parts.drop i)≤Ca s.parts∧Ag s.parts bs 0=Ag (s.parts.drop i) (bs.drop i) k)
    s.parts.length (by unfold oa;omega) _ ⟨0,rfl,by omega,by simp,rfl⟩ ?_ ?_) (fun r h=>h.2)
   ·rintro i t hi ⟨k,rfl,hk0,hk1,hs⟩
    obtain⟨v,hv,hpt,_⟩:=hP.pd hi []
    have a2:=hP.Hw hv
    have hpo:=Aa.parts s.parts[i] (List.getElem_mem hi)
    have hib:i < bs.length:=by omega
    have a3:=hB.pd hib
    have hbr:=hB.RB bs[i] (List.getElem_mem hib)
    have hd:s.parts.drop i=s.parts[i]::s.parts.drop (i+1):=List.drop_eq_getElem_cons hi
    have hdb:bs.drop i=bs[i]::bs.drop (i+1):=List.drop_eq_getElem_cons hib
    have hrr:=pw v s.parts[i] hpt.is hpt.sz bs[i]
    rw[SH hpo.2] at hrr
    have hrb:=fm (x:=bs[i]) (n:=0) hpo.2
    rw[hd,Ca] at hk1
    rw[hd,hdb,Ag] at hs
    have hle:=zn Aa.parts (i+1)
    have hpos:=Cd (ls:=s.parts.drop (i+1)) fun x hx=>Aa.parts x (List.mem_of_mem_drop hx)
    have hsz:=qf hpo
    generalize s.parts[i]=l at *
    generalize bs[i]=x at *
    have e1:decide ((i:Int) < (s.parts.length:Int))=true:=Da (by omega)
    have t2:=Ua hi (by unfold maxLen;omega)
    have t3:IntKind.i64.wrap x=x:=Ba (by omega)
    have a1:∀ H,qa H 1 (.pv (.lit 1 S)) (i:Int)=some (.pv (.rp [i64 (Ca (s.parts.drop (i+1)))] 0)):=fun H=>by
     simp only[qa]
     rw[if_pos (by unfold Fa;simp;omega),Int.toNat_natCast,hde i hi];rfl
    obtain⟨⟨d,is⟩,hrk2⟩:∃ r,r=Md x 0 l:=⟨_,rfl⟩
    rw[← hrk2] at hrr hs hrb
    generalize hQ:LN _ _ i=Q
    cases is with
    |false=>
     simp only[Bool.false_eq_true,if_false] at hs
     simp -implicitDefEqProofs only[SX,sevalprocAttr,-List.reduceReplicate,qh,e1,a1,a2,a3,r0,r1,q0,t3,hrr,aK]
     subst hQ
     exact⟨_,.inl ⟨rfl,by simp[Tr.aa],by simp[Tr.aa],hs⟩⟩
    |true=>
     simp only[if_true] at hs
     have hb2:=hrb rfl
     simp only at hb2
     have hmul:d * Ca (s.parts.drop (i+1))+Ca (s.parts.drop (i+1))≤Ca (s.parts.drop (i+1)) * Sb 0 l:=by
      have h1:(d+1) * Ca (s.parts.drop (i+1))≤Sb 0 l * Ca (s.parts.drop (i+1)):=Int.mul_le_mul_of_nonneg_right (by omega) (by omega)
      rw[Int.add_mul,Int.one_mul,Int.mul_comm (Sb 0 l)] at h1
      exact h1
     have hm0:0≤d * Ca (s.parts.drop (i+1)):=Int.mul_nonneg (by omega) (by omega)
     have t4:IntKind.i64.wrap (d * Ca (s.parts.drop (i+1)))=d * Ca (s.parts.drop (i+1)):=Ba (by omega)
     have t5:IntKind.i64.wrap (k+d * Ca (s.parts.drop (i+1)))=k+d * Ca (s.parts.drop (i+1)):=Ba (by omega)
     simp -implicitDefEqProofs only[SX,sevalprocAttr,-List.reduceReplicate,qh,e1,t2,t4,t5,a1,a2,a3,r0,r1,q0,t3,hrr,ga,za,AV.cut,wa,aK]
     subst hQ
     exact⟨_,rfl,by omega,by omega,hs⟩
   ·rintro t ⟨k,rfl,hk0,hk1,hs⟩
    rw[List.drop_length,Fq] at hs
    have e1:decide ((s.parts.length:Int) < (s.parts.length:Int))=false:=Ha (by omega)
    generalize hQ:(fun r:Ex×St=>r.1.stop=true∧_)=Q
    simp -implicitDefEqProofs only[SX,sevalprocAttr,-List.reduceReplicate,qh,e1,aK]
    subst hQ
    exact⟨rfl,_,.inr ⟨k,rfl,by simp[Tr.aa],hs⟩⟩
  obtain⟨r,h1,E,h2⟩:=Fc hloop
  have h1':gb (fa (ta (Ga (fun _=>none) 8) qh) (ga 0 [1,2,6,24,25,26])) oa ⟨(((((Tr.lf.set 26 (.pv (.int .i64 0))).set 25 (.pv (i64 s.parts.length))).set 24 (.pv (.lit 1 S))).set 6 (.pv (.int .i64 0))).set 2 (.pv (.rp [P,i64 s.first] 0))).set 1 (.pv B),[]⟩=some r:=h1
  have d1:((bs.length:Int) != (s.parts.length:Int))=false:=by rw[hlen];simp
  rw[hrk]
  rcases h2 with⟨rfl,h4,h5,hn⟩ | ⟨k,rfl,h6,hk⟩
  ·refine⟨fun k hk=>by (rw[hn] at hk;cases hk),fun _=> ?_⟩
   simp -implicitDefEqProofs only[Ti,SX,sevalprocAttr,-List.reduceReplicate,Wm,xb,hP1,hB1,r2,r0,q0,hb1,lP,lB,d1,hst,hsl,hdl,ga,za,AV.cut,wa,h1',h4,h5]
  ·refine⟨fun k' hk'=> ?_,fun hn=>by (rw[hk] at hn;cases hn)⟩
   obtain rfl:k=k':=Option.some.inj (hk.symm.trans hk')
   simp -implicitDefEqProofs only[Ti,SX,sevalprocAttr,-List.reduceReplicate,Wm,xb,hP1,hB1,r2,r0,q0,hb1,lP,lB,d1,hst,hsl,hdl,ga,za,AV.cut,wa,h1',h6]
 ·have d1:((bs.length:Int) != (s.parts.length:Int))=true:=by
   have:(bs.length:Int)≠(s.parts.length:Int):=by omega
   simp[this]
  have hrk:Nf s bs=none:=by unfold Nf;rw[if_neg hlen]
  refine⟨fun k hk=>by (rw[hrk] at hk;cases hk),fun _=> ?_⟩
  simp -implicitDefEqProofs only[Ti,SX,sevalprocAttr,-List.reduceReplicate,Wm,xb,hP1,hB1,r2,r0,q0,hb1,lP,lB,d1]
end Go.AM.B1
namespace Go.AM.B1
open Go.AM Go.AM.So
abbrev FI (bs:List Int):List PV:=bs.map (PV.int .u8)
abbrev IN (row:List PV) (P:PV) (n i:Int) (tk:Nat) (es:List PV):Tr:=((((Tr.lf.set 19 (.pv (i64 i))).set 18 (.pv (i64 n))).set 17 (.pv P)).set 5 (.uq tk false 1 es)).set 2 (.pv (.rp row 0))
theorem UG {e:PV} {s:dc} {P:PV} {ps:List PV} (h:pf e s P ps) {B:PV} {bs:List Int} (hB:Vj B bs) (Aa:Nd s) (hlen:bs.length≤s.parts.length):
 ∃ k,ak [e,B]=some (i64 k):=by
 have hh:=h
 obtain⟨hP1,hP2⟩:=h.Mv
 have heq:=h.eq
 subst heq
 have hP:=h.parts
 have lP:=hP.Wb
 have lB:=hB.Wb
 have hB1:=hB.one
 have h8:=Aa.hi
 have hPl:P= .lit 1 ps:=hP.is.lit (i:=0) (by rw[hP.len];exact Aa.lo)
 have r2:∀ H (x y:PV),ya H true 2 (.pv (.rp [x,y] 0))=some (.pv (.agg [x,y])):=fun H x y=>rfl
 have r0:∀ H (x y:PV),ya H false 1 (.pv (.rp [x,y] 0))=some (.pv x):=fun H x y=>rfl
 have r01:∀ H (x y:PV),ya H false 1 (.pv (.rp [x,y] 1))=some (.pv y):=fun H x y=>rfl
 have r1:∀ H (x:PV),ya H false 1 (.pv (.rp [x] 0))=some (.pv x):=fun H x=>rfl
 have q0:∀ H (x y:PV),place H 0 (.pv (.rp [x,y] 0))=some (.pv (.rp [x,y] 0)):=fun H x y=>rfl
 have q1:∀ H (x y:PV),place H 1 (.pv (.rp [x,y] 0))=some (.pv (.rp [x,y] 1)):=fun H x y=>rfl
 have hsl:∀ H,Bg H 1 (.pv P) (some (bs.length:Int)) none=some (.pv (.lit 1 (ps.drop bs.length))):=fun H=>by rw[hPl];exact AJ H (by omega) (by rw[hP.len];exact hlen)
 have hdl:(ps.drop bs.length).length=s.parts.length - bs.length:=by rw[List.length_drop,hP.len]
 have hap0:ic [.tok 1 0 false] false .uq 1 false 1 (.uq 0 false 1 []) (.pv B)=some (.uq 0 false 1 (FI bs),[.tok 1 bs.length false]):=by
  have he:Gf 1 (.pv B)=some (FI bs):=by
   rcases hB.is with⟨rfl,hbs⟩ | rfl
   ·have:FI bs=[]:=hbs
    rw[this];rfl
   ·simp[Gf,FI]
  simp only[ic,Bool.false_eq_true,if_false,List.getElem?_cons_zero,he,Option.bind_some,List.length_nil,Nat.zero_add,List.nil_append]
  rw[if_pos ⟨trivial,trivial,trivial,by unfold pb;simp[FI];omega⟩]
  simp[FI]
 have hloop:Td (fun r=>∃ E H bs',r=(.exit 0,⟨E,H⟩)∧E.get 5= .uq 0 false 1 (FI bs')∧E.get 2= .pv (.rp [P,i64 s.first] 0)∧∀ b∈bs',0≤b∧b≤255)
  (gb (fa (ta (Ga (fun _=>none) 8) Oh) (ga 1 [2,5,17,18,19])) oa ⟨IN [P,i64 s.first] (.lit 1 (ps.drop bs.length)) ((s.parts.length - bs.length:Nat):Int) 0 0 (FI bs),[.tok 1 bs.length false]⟩):=by
  refine xa (Nb (g:=fa (ta (Ga (fun _=>none) 8) Oh) (ga 1 [2,5,17,18,19]))
   (fun i t=>∃ bs',t=⟨IN [P,i64 s.first] (.lit 1 (ps.drop bs.length)) ((s.parts.length - bs.length:Nat):Int) i 0 (FI bs'),[.tok 1 bs'.length false]⟩∧bs'.length=bs.length+i∧∀ b∈bs',0≤b∧b≤255)
   (s.parts.length - bs.length) (by unfold oa;omega) _ ⟨bs,rfl,rfl,hB.RB⟩ ?_ ?_) (fun r h=>h.2)
  ·rintro i t hi ⟨bs',rfl,hl',hr'⟩
   obtain⟨v,hv,hPl',hpt⟩:=hP.get (i:=bs.length+i) (by omega)
   have hpo:=Aa.parts _ (List.getElem_mem (show bs.length+i < s.parts.length by omega))
   generalize s.parts[bs.length+i]=l at *
   obtain⟨p0,l',rfl⟩:=List.exists_cons_of_ne_nil hpo.1
   have hvl:v= .lit 2 (de (p0::l')):=hpt.is.lit (i:=0) (by simp)
   have hcl:v.cells=[v]:=by rw[hvl];rfl
   have e1:decide ((i:Int) < ((s.parts.length - bs.length:Nat):Int))=true:=Da (by omega)
   have t2:=Ua hi (by unfold maxLen;omega)
   have a1:∀ H,qa H 1 (.pv (.lit 1 (ps.drop bs.length))) (i:Int)=some (.pv (.rp [v] 0)):=fun H=>by
    simp only[qa]
    rw[if_pos (by have:=hP.len;unfold Fa;simp;omega),Int.toNat_natCast,List.getElem?_drop,hv]
    simp[hcl]
   have i0:∀ H,qa H 2 (.pv v) 0=some (.pv (.rp [i64 p0.1,i64 p0.2] 0)):=fun H=>by
    rw[hvl];exact ll H (i:=0) (l:=p0::l') (by simp)
   have hb0:=fq hpo.2 p0 (by simp)
   have t3:IntKind.u8.wrap p0.1=p0.1:=wrap_u8 (by omega)
   have hap:=Wq (A:=[.tok 1 bs'.length false]) (id:=0) (n:=bs'.length) (h:= .uq) (nl:=false) (bytes:=1) (es:=FI bs') rfl (by simp[FI]) (by unfold pb;omega) (.int .u8 p0.1)
   rw[List.set_cons_zero] at hap
   have hbm:FI (bs'++[p0.1])=FI bs'++[.int .u8 p0.1]:=by simp[FI]
   clear hvl
   generalize hQ:LN _ _ i=Q
   simp -implicitDefEqProofs only[SP,WP,na,sevalprocAttr,Oh,e1,t2,t3,a1,i0,r0,r1,q0,hap,ga,za,AV.cut,ma,wa,IN]
   subst hQ
   refine⟨bs'++[p0.1],by rw[hbm];simp,by simp;omega,?_⟩
   intro b hb
   rcases List.mem_append.1 hb with h | h
   ·exact hr' b h
   ·simp at h;subst h;omega
  ·rintro t ⟨bs',rfl,hl',hr'⟩
   have e1:decide (((s.parts.length - bs.length:Nat):Int) < ((s.parts.length - bs.length:Nat):Int))=false:=Ha (by omega)
   generalize hQ:(fun r:Ex×St=>r.1.stop=true∧_)=Q
   simp -implicitDefEqProofs only[SX,sevalprocAttr,Oh,e1,IN]
   subst hQ
   exact⟨rfl,_,_,bs',rfl,by simp[Tr.aa],by simp[Tr.aa],hr'⟩
 obtain⟨r,h1,E,H,bs',rfl,hE5,hE2,hr'⟩:=Fc hloop
 have h1':gb (fa (ta (Ga (fun _=>none) 8) Oh) (ga 1 [2,5,17,18,19])) oa ⟨((((Tr.lf.set 19 (.pv (.int .i64 0))).set 18 (.pv (i64 ((s.parts.length - bs.length:Nat):Int)))).set 17 (.pv (.lit 1 (ps.drop bs.length)))).set 5 (.uq 0 false 1 (FI bs))).set 2 (.pv (.rp [P,i64 s.first] 0)),[.tok 1 bs.length false]⟩=_:=h1
 have hBl:Vj (.lit 1 (FI bs')) bs':=⟨.inr rfl,hr'⟩
 have hrk:=kD hh hBl Aa
 have hrk':∃ k b,Ti [.agg [P,i64 s.first],.lit 1 (FI bs')]=some (.Zb [i64 k,.bool b]):=by
  cases hk:Nf s bs' with
  |some k=>exact⟨k,true,hrk.1 k hk⟩
  |none=>exact⟨0,false,hrk.2 hk⟩
 obtain⟨k,b,hk⟩:=hrk'
 refine⟨IntKind.i64.wrap (s.first+k),?_⟩
 clear hPl
 generalize FI bs=ub at *
 generalize FI bs'=ub' at *
 simp -implicitDefEqProofs only[ak,SP,WP,na,sevalprocAttr,Ur,xb,hP1,hB1,r2,r0,r01,q0,q1,lP,lB,hap0,hsl,hdl,ga,za,AV.cut,ma,wa,h1',hE5,hE2,hk]
theorem Ab.pd {S:PV} {ss:List dc} {es:List PV} (hS:Ab S ss es) {i:Nat} (hi:i < ss.length):∃ P ps,pf (.agg [P,i64 ss[i].first]) ss[i] P ps∧∀ H,qa H 2 (.pv S) (i:Int)=some (.pv (.rp [P,i64 ss[i].first] 0)):=by
 obtain⟨e,P,ps,he,hSl,hsh⟩:=hS.get hi
 have heq:=hsh.eq
 subst heq
 refine⟨P,ps,hsh,fun H=> ?_⟩
 have hq:i < es.length:=by rw[hS.len];exact hi
 rw[hSl]
 simp only[qa]
 rw[if_pos (by unfold Fa;simp;omega),Int.toNat_natCast,he];rfl
def Pe (p q:dc):Bool:=(ec p.parts q.parts p.parts.length 0).isSome
abbrev Rb (y:Bool) (a b:Int):ba:= .box [.pv (.bool y),.pv (i64 a),.pv (i64 b)]
abbrev Mh (P:PV) (f:Int):ba:= .box [.pv P,.pv (i64 f)]
abbrev IG (S:PV) (cix:Nat) (n i j:Int):Tr:=
 (((((((((((Tr.lf.set 29 (.pv (i64 j))).set 28 (.pv (i64 n))).set 27 (.pv S)).set 21 (.pv (i64 i))).set 20 (.pv (i64 n))).set 19 (.pv S)).set 8 (.ptr 4 0)).set 7 (.pv (i64 i))).set 6 (.ptr 3 0)).set 4 (.ptr 2 0)).set 2 (.pv (.rp [S] 0))).set 1 (.gl cix [.ptr 0 0])
abbrev dO (S:PV) (cix:Nat) (n i:Int):Tr:=
 ((((((Tr.lf.set 21 (.pv (i64 i))).set 20 (.pv (i64 n))).set 19 (.pv S)).set 6 (.ptr 3 0)).set 4 (.ptr 2 0)).set 2 (.pv (.rp [S] 0))).set 1 (.gl cix [.ptr 0 0])
structure uX (call:Za) (cix:Nat) (S:PV) (n:Nat) (ask:Nat→Nat→Bool):Prop where
 run:∀ (i j:Nat) (H:List ba),i < n→j < n→H[0]? =some (.box [.pv S])→call cix [.pv (i64 i),.pv (i64 j),.ptr 0 0] H=some (.pv (.bool (ask i j)),H)
section
variable {call:Za} {cix:Nat} {S:PV} {ss:List dc} {es:List PV} {ask:Nat→Nat→Bool} (hS:Ab S ss es) (Aa:Hc ss) (hA:uX call cix S ss.length ask)
 (hask:∀ i j,(hi:i < ss.length)→(hj:j < ss.length)→ask i j=true→ss[i].parts.length≤ss[j].parts.length)
include hS Aa hA hask
theorem pI {i:Nat} (hi:i < ss.length) {P:PV} (hP:∃ ps,pf (.agg [P,i64 ss[i].first]) ss[i] P ps) (X:ba) (hX:∀ n,ma n X=some X):
 Td (fun r=>(∃ E,r=(.exit 2,⟨E,[.box [.pv S],X,Rb false 0 0,Rb true 0 0,Mh P ss[i].first]⟩)∧E.get 1= .gl cix [.ptr 0 0]∧E.get 2= .pv (.rp [S] 0)∧E.get 4= .ptr 2 0∧E.get 6= .ptr 3 0∧E.get 19= .pv S∧E.get 20= .pv (i64 ss.length)∧E.get 21= .pv (i64 i)∧∀ j,(hj:j < ss.length)→ask i j=true→Pe ss[i] ss[j]=false)∨
  (∃ E a b T,r=(.exit 0,⟨E,[.box [.pv S],X,Rb false 0 0,Rb false a b]++T⟩)∧E.get 4= .ptr 2 0∧E.get 6= .ptr 3 0∧∃ j,∃ hj:j < ss.length,ask i j=true∧Pe ss[i] ss[j]=true))
  (gb (fa (ta call vg) (ga 5 [1,2,4,6,7,8,19,20,21,27,28,29])) oa ⟨IG S cix ss.length i 0,[.box [.pv S],X,Rb false 0 0,Rb true 0 0,Mh P ss[i].first]⟩):=by
 obtain⟨ps,hPs⟩:=hP
 have h32:=Aa.len
 have okp:=Aa.As _ (List.getElem_mem hi)
 have hSone:(AV.pv S).one=true:=by rcases hS.is with⟨h,_⟩ | h <;> rw[h] <;> rfl
 obtain⟨hP1,hP2⟩:=hPs.Mv
 have lP:=hPs.parts.Wb
 have hask':=fun j hj=>hask i j hi hj
 have hAi:=fun j H (hj:j < ss.length)=>hA.run i j H hi hj
 generalize hp:ss[i]=p at *
 refine xa (Nb (g:=fa (ta call vg) (ga 5 [1,2,4,6,7,8,19,20,21,27,28,29]))
  (fun j t=>t=⟨IG S cix ss.length i j,[.box [.pv S],X,Rb false 0 0,Rb true 0 0,Mh P p.first]⟩∧∀ j',j' < j→(hj:j' < ss.length)→ask i j'=true→Pe p ss[j']=false)
  ss.length (by unfold oa;omega) _ ⟨rfl,fun j' h=>by omega⟩ ?_ ?_) (fun r h=>h.2)
 ·rintro j t hj ⟨rfl,hno⟩
  obtain⟨Q,qs,hQs,a1⟩:=hS.pd hj
  have okq:=Aa.As _ (List.getElem_mem hj)
  have hcm:=FL hPs hQs okp okq (n:=p.parts.length) (Nat.le_refl _)
  have hno':∀ (b:Bool),(ask i j=true→Pe p ss[j]=false)→∀ j',j' < j+1→(hj:j' < ss.length)→ask i j'=true→Pe p ss[j']=false:=by
   intro _ h j' hj' hjj ha
   rcases Nat.lt_or_ge j' j with h1 | h1
   ·exact hno j' h1 hjj ha
   ·have:j'=j:=by omega
    subst this;exact h ha
  have hle:=hask' j hj
  obtain⟨hQ1,hQ2⟩:=hQs.Mv
  have lQ:=hQs.parts.Wb
  have hmt:Pe p ss[j]=(ec p.parts ss[j].parts p.parts.length 0).isSome:=rfl
  rw[hmt] at hno'
  have hex:ask i j=true→(ec p.parts ss[j].parts p.parts.length 0).isSome=true→∃ j,∃ hj:j < ss.length,ask i j=true∧Pe p ss[j]=true:=fun h1 h2=>⟨j,hj,h1,h2⟩
  have hfirst:∀ {B:PV} {bs:List Int},Vj B bs→bs.length≤ss[j].parts.length→∃ k,ak [.agg [Q,i64 ss[j].first],B]=some (i64 k):=fun h1 h2=>UG hQs h1 okq h2
  generalize ss[j]=q at *
  have e1:decide ((j:Int) < (ss.length:Int))=true:=Da (by omega)
  have t2:=Ua hj (by unfold maxLen;omega)
  have a2:∀ H,ya H true 2 (.pv (.rp [Q,i64 q.first] 0))=some (.pv (.agg [Q,i64 q.first])):=fun H=>rfl
  have s1:Ra [.box [.pv S],X,Rb false 0 0,Rb true 0 0,Mh P p.first,.box [.pv .pa,.pv (i64 0)]] 2 (.ptr 5 0) (.pv (.agg [Q,i64 q.first]))=some [.box [.pv S],X,Rb false 0 0,Rb true 0 0,Mh P p.first,Mh Q q.first]:=
   Cn _ _ _ _ hQ1 rfl [.box [.pv S],X,Rb false 0 0,Rb true 0 0,Mh P p.first] _ rfl
  have hak:=hAi j [.box [.pv S],X,Rb false 0 0,Rb true 0 0,Mh P p.first,Mh Q q.first] hj rfl
  have l1:ya [.box [.pv S],X,Rb false 0 0,Rb true 0 0,Mh P p.first,Mh Q q.first] true 2 (.ptr 4 0)=some (.pv (.agg [P,i64 p.first])):=rfl
  have l2:ya [.box [.pv S],X,Rb false 0 0,Rb true 0 0,Mh P p.first,Mh Q q.first] true 2 (.ptr 5 0)=some (.pv (.agg [Q,i64 q.first])):=rfl
  have l3:ya [.box [.pv S],X,Rb false 0 0,Rb true 0 0,Mh P p.first,Mh Q q.first] false 1 (.ptr 4 0)=some (.pv P):=rfl
  have p3:place [.box [.pv S],X,Rb false 0 0,Rb true 0 0,Mh P p.first,Mh Q q.first] 0 (.ptr 4 0)=some (.ptr 4 0):=rfl
  have s2:∀ a b:Int,Ra [.box [.pv S],X,Rb false 0 0,Rb true 0 0,Mh P p.first,Mh Q q.first] 3 (.ptr 3 0) (.pv (.agg [.bool false,i64 a,i64 b]))=some [.box [.pv S],X,Rb false 0 0,Rb false a b,Mh P p.first,Mh Q q.first]:=fun a b=>rfl
  have hcl5:Qa (ma 5) [.box [.pv S],X,Rb false 0 0,Rb true 0 0,Mh P p.first]=some [.box [.pv S],X,Rb false 0 0,Rb true 0 0,Mh P p.first]:=by
   refine Gl ?_
   intro o ho
   simp only[List.mem_cons,List.not_mem_nil,or_false] at ho
   rcases ho with rfl | rfl | rfl | rfl | rfl <;> first | exact hX _ | simp[ma,Qa,Ia]
  have htk:∀ o:ba,[.box [.pv S],X,Rb false 0 0,Rb true 0 0,Mh P p.first,o].take 5=[.box [.pv S],X,Rb false 0 0,Rb true 0 0,Mh P p.first]:=fun o=>rfl
  have c3:(3 < 5)=True:=by simp
  have c2:(2 < 5)=True:=by simp
  have c4:(4 < 5)=True:=by simp
  have c0:(0 < 5)=True:=by simp
  have hd:deep=6:=rfl
  generalize hQQ:LN _ _ j=QQ
  cases hak':ask i j with
  |false=>
   rw[hak'] at hak
   simp -implicitDefEqProofs only[SP,WP,na,sevalprocAttr,vg,e1,t2,a1,a2,s1,hak,hcl5,htk,c0,c2,c3,c4,ga,za,AV.cut,wa,IG]
   subst hQQ
   exact⟨rfl,hno' true (fun h=>by rw[hak'] at h;cases h)⟩
  |true=>
   rw[hak'] at hak
   have hcm:=hcm (hle hak')
   cases hc:ec p.parts q.parts p.parts.length 0 with
   |none=>
    have h1:=hcm.1 hc
    simp -implicitDefEqProofs only[SP,WP,na,sevalprocAttr,vg,e1,t2,a1,a2,s1,hak,l1,l2,l3,p3,lP,h1,hcl5,htk,c0,c2,c3,c4,ga,za,AV.cut,wa,IG]
    subst hQQ
    exact⟨rfl,hno' true (fun _=>by rw[hc];rfl)⟩
   |some bs=>
    obtain⟨v,h1,hv,hbl,hbr⟩:=hcm.2 bs hc
    have hB:Vj v bs:=⟨hv,hbr⟩
    obtain⟨k1,hk1⟩:=UG hPs hB okp (by omega)
    obtain⟨k2,hk2⟩:=hfirst hB (by have:=hle hak';omega)
    simp -implicitDefEqProofs only[SP,WP,na,sevalprocAttr,vg,e1,a1,a2,s1,hak,l1,l2,l3,p3,lP,h1,hk1,hk2,s2,IG]
    subst hQQ
    exact .inr ⟨_,k1,k2,[Mh P p.first,Mh Q q.first],rfl,by simp[Tr.aa],by simp[Tr.aa],hex hak' (by rw[hc];rfl)⟩
 ·rintro t ⟨rfl,hno⟩
  have e1:decide ((ss.length:Int) < (ss.length:Int))=false:=Ha (by omega)
  generalize hQ:(fun r:Ex×St=>r.1.stop=true∧_)=Q
  simp -implicitDefEqProofs only[SX,sevalprocAttr,vg,e1,IG]
  subst hQ
  exact⟨rfl,.inl ⟨_,rfl,by simp[Tr.aa],by simp[Tr.aa],by simp[Tr.aa],by simp[Tr.aa],by simp[Tr.aa],by simp[Tr.aa],by simp[Tr.aa],fun j hj ha=>hno j hj hj ha⟩⟩
theorem LH (X:ba) (hX:∀ n,ma n X=some X):
 Td (fun r=>(∃ E,r=(.exit 0,⟨E,[.box [.pv S],X,Rb false 0 0,Rb true 0 0]⟩)∧E.get 4= .ptr 2 0∧E.get 6= .ptr 3 0∧∀ i j,(hi:i < ss.length)→(hj:j < ss.length)→ask i j=true→Pe ss[i] ss[j]=false)∨
  (∃ E a b T,r=(.exit 0,⟨E,[.box [.pv S],X,Rb false 0 0,Rb false a b]++T⟩)∧E.get 4= .ptr 2 0∧E.get 6= .ptr 3 0∧∃ i j,∃ hi:i < ss.length,∃ hj:j < ss.length,ask i j=true∧Pe ss[i] ss[j]=true))
  (gb (fa (ta call Gi) (ga 4 [1,2,4,6,19,20,21])) oa ⟨dO S cix ss.length 0,[.box [.pv S],X,Rb false 0 0,Rb true 0 0]⟩):=by
 have h32:=Aa.len
 have lS:=hS.Wb
 refine xa (Nb (g:=fa (ta call Gi) (ga 4 [1,2,4,6,19,20,21]))
  (fun i t=>t=⟨dO S cix ss.length i,[.box [.pv S],X,Rb false 0 0,Rb true 0 0]⟩∧∀ i' j,i' < i→(hi:i' < ss.length)→(hj:j < ss.length)→ask i' j=true→Pe ss[i'] ss[j]=false)
  ss.length (by unfold oa;omega) _ ⟨rfl,fun i' j h=>by omega⟩ ?_ ?_) (fun r h=>h.2)
 ·rintro i t hi ⟨rfl,hno⟩
  obtain⟨P,ps,hPs,a1⟩:=hS.pd hi
  have hin:=pI hS Aa hA hask hi ⟨ps,hPs⟩ X hX
  obtain⟨hP1,hP2⟩:=hPs.Mv
  have hno':(∀ j,(hj:j < ss.length)→ask i j=true→Pe ss[i] ss[j]=false)→∀ i' j,i' < i+1→(hi:i' < ss.length)→(hj:j < ss.length)→ask i' j=true→Pe ss[i'] ss[j]=false:=by
   intro h i' j hi' hii hj ha
   rcases Nat.lt_or_ge i' i with h1 | h1
   ·exact hno i' j h1 hii hj ha
   ·have:i'=i:=by omega
    subst this;exact h j hj ha
  have hex:(∃ j,∃ hj:j < ss.length,ask i j=true∧Pe ss[i] ss[j]=true)→∃ i j,∃ hi:i < ss.length,∃ hj:j < ss.length,ask i j=true∧Pe ss[i] ss[j]=true:=fun ⟨j,hj,h⟩=>⟨i,j,hi,hj,h⟩
  generalize ss[i]=p at *
  have e1:decide ((i:Int) < (ss.length:Int))=true:=Da (by omega)
  have t2:=Ua hi (by unfold maxLen;omega)
  have a2:∀ H,ya H true 2 (.pv (.rp [P,i64 p.first] 0))=some (.pv (.agg [P,i64 p.first])):=fun H=>rfl
  have s1:Ra [.box [.pv S],X,Rb false 0 0,Rb true 0 0,.box [.pv .pa,.pv (i64 0)]] 2 (.ptr 4 0) (.pv (.agg [P,i64 p.first]))=some [.box [.pv S],X,Rb false 0 0,Rb true 0 0,Mh P p.first]:=
   Cn _ _ _ _ hP1 rfl [.box [.pv S],X,Rb false 0 0,Rb true 0 0] _ rfl
  have hcl4:∀ T,Qa (ma 4) (([.box [.pv S],X,Rb false 0 0,Rb true 0 0]++T).take 4)=some [.box [.pv S],X,Rb false 0 0,Rb true 0 0]:=fun T=>by
   refine Gl ?_
   intro o ho
   simp only[List.cons_append,List.nil_append,List.take_succ_cons,List.take_zero,List.mem_cons,List.not_mem_nil,or_false] at ho
   rcases ho with rfl | rfl | rfl | rfl <;> first | exact hX _ | simp[ma,Qa,Ia]
  have hcl4':∀ o,Qa (ma 4) ([.box [.pv S],X,Rb false 0 0,Rb true 0 0,o].take 4)=some [.box [.pv S],X,Rb false 0 0,Rb true 0 0]:=fun o=>hcl4 [o]
  have hcl5:Qa (ma 5) [.box [.pv S],X,Rb false 0 0,Rb true 0 0,Mh P p.first]=some [.box [.pv S],X,Rb false 0 0,Rb true 0 0,Mh P p.first]:=by
   refine Gl ?_
   intro o ho
   simp only[List.mem_cons,List.not_mem_nil,or_false] at ho
   rcases ho with rfl | rfl | rfl | rfl | rfl <;> first | exact hX _ | simp[ma,Qa,Ia]
  have htk5:([.box [.pv S],X,Rb false 0 0,Rb true 0 0,Mh P p.first]:List ba).take 5=[.box [.pv S],X,Rb false 0 0,Rb true 0 0,Mh P p.first]:=rfl
  have r0:∀ H (x:PV),ya H false 1 (.pv (.rp [x] 0))=some (.pv x):=fun H x=>rfl
  have q0:∀ H (x:PV),place H 0 (.pv (.rp [x] 0))=some (.pv (.rp [x] 0)):=fun H x=>rfl
  have c3:(3 < 5)=True:=by simp
  have c2:(2 < 5)=True:=by simp
  have c4:(4 < 5)=True:=by simp
  have c0:(0 < 5)=True:=by simp
  have d3:(3 < 4)=True:=by simp
  have d2:(2 < 4)=True:=by simp
  have d0:(0 < 4)=True:=by simp
  generalize hQQ:LN _ _ i=QQ
  simp -implicitDefEqProofs only[SP,WP,na,sevalprocAttr,Gi,xb,e1,a1,a2,s1,r0,q0,lS,hcl5,htk5,c0,c2,c3,c4,ga,za,AV.cut,wa,dO]
  refine xa hin ?_
  rintro r (⟨E,rfl,g1,g2,g4,g6,g19,g20,g21,hn⟩ | ⟨E,a,b,T,rfl,g4,g6,hy⟩)
  ·simp -implicitDefEqProofs only[SP,WP,na,sevalprocAttr,g1,g2,g4,g6,g19,g20,g21,t2,hX 4,d0,d2,d3,ga,za,AV.cut,wa]
   subst hQQ
   exact⟨rfl,hno' hn⟩
  ·simp -implicitDefEqProofs only[SP,WP,na,sevalprocAttr]
   subst hQQ
   exact .inr ⟨E,a,b,T,rfl,g4,g6,hex hy⟩
 ·rintro t ⟨rfl,hno⟩
  have e1:decide ((ss.length:Int) < (ss.length:Int))=false:=Ha (by omega)
  generalize hQ:(fun r:Ex×St=>r.1.stop=true∧_)=Q
  simp -implicitDefEqProofs only[SX,sevalprocAttr,Gi,e1,dO]
  subst hQ
  exact⟨rfl,.inl ⟨_,rfl,by simp[Tr.aa],by simp[Tr.aa],fun i j hi hj ha=>hno i j hi hi hj ha⟩⟩
theorem KC (X:ba) (hX:∀ n,ma n X=some X):
 ∃ y a b T,Ni call jg [.pv (.agg [S]),.gl cix [.ptr 0 0]] [.box [.pv S],X]=some (.pv (.Zb [.agg [.bool y,i64 a,i64 b],i64 0]),[.box [.pv S],X]++T)∧
  (y=true↔∀ i j,(hi:i < ss.length)→(hj:j < ss.length)→ask i j=true→Pe ss[i] ss[j]=false):=by
 have lS:=hS.Wb
 have hSone:(AV.pv S).one=true:=by rcases hS.is with⟨h,_⟩ | h <;> rw[h] <;> rfl
 obtain⟨b,hv,hvb⟩:=rl hS
 have:=hvb.2 Aa
 subst this
 have hout:=LH hS Aa hA hask X hX
 have s1:Ra [.box [.pv S],X,Rb false 0 0,.box [.pv (.bool false),.pv (i64 0),.pv (i64 0)]] 3 (.ptr 3 0) (.pv (.agg [.bool true,i64 0,i64 0]))=some [.box [.pv S],X,Rb false 0 0,Rb true 0 0]:=rfl
 have hcl4:Qa (ma 4) [.box [.pv S],X,Rb false 0 0,Rb true 0 0]=some [.box [.pv S],X,Rb false 0 0,Rb true 0 0]:=by
  refine Gl ?_
  intro o ho
  simp only[List.mem_cons,List.not_mem_nil,or_false] at ho
  rcases ho with rfl | rfl | rfl | rfl <;> first | exact hX _ | simp[ma,Qa,Ia]
 have htk4:([.box [.pv S],X,Rb false 0 0,Rb true 0 0]:List ba).take 4=[.box [.pv S],X,Rb false 0 0,Rb true 0 0]:=rfl
 have r1:∀ H (x:PV),ya H true 1 (.pv (.rp [x] 0))=some (.pv (.agg [x])):=fun H x=>rfl
 have r0:∀ H (x:PV),ya H false 1 (.pv (.rp [x] 0))=some (.pv x):=fun H x=>rfl
 have q0:∀ H (x:PV),place H 0 (.pv (.rp [x] 0))=some (.pv (.rp [x] 0)):=fun H x=>rfl
 have d3:(3 < 4)=True:=by simp
 have d2:(2 < 4)=True:=by simp
 have d0:(0 < 4)=True:=by simp
 have key:Td (fun r=>∃ y a b T,r=(.pv (.Zb [.agg [.bool y,i64 a,i64 b],i64 0]),[.box [.pv S],X]++T)∧(y=true↔∀ i j,(hi:i < ss.length)→(hj:j < ss.length)→ask i j=true→Pe ss[i] ss[j]=false))
  (Ni call jg [.pv (.agg [S]),.gl cix [.ptr 0 0]] [.box [.pv S],X]):=by
  generalize hQQ:(fun r:AV×List ba=>_)=QQ
  simp -implicitDefEqProofs only[SP,WP,na,sevalprocAttr,jg,xb,hSone,r1,r0,q0,hv,lS,s1,hcl4,htk4,d0,d2,d3,ga,za,AV.cut,wa]
  refine xa hout ?_
  rintro r (⟨E,rfl,g4,g6,hn⟩ | ⟨E,a,b,T,rfl,g4,g6,i,j,hi,hj,h1,h2⟩)
  ·have l1:ya [.box [.pv S],X,Rb false 0 0,Rb true 0 0] true 3 (.ptr 3 0)=some (.pv (.agg [.bool true,i64 0,i64 0])):=rfl
   have s2:Ra [.box [.pv S],X,Rb false 0 0,Rb true 0 0] 3 (.ptr 2 0) (.pv (.agg [.bool true,i64 0,i64 0]))=some [.box [.pv S],X,Rb true 0 0,Rb true 0 0]:=rfl
   have l2:ya [.box [.pv S],X,Rb true 0 0,Rb true 0 0] true 3 (.ptr 2 0)=some (.pv (.agg [.bool true,i64 0,i64 0])):=rfl
   simp -implicitDefEqProofs only[SP,WP,na,sevalprocAttr,g4,g6,l1,s2,l2]
   subst hQQ
   exact⟨true,0,0,_,rfl,by simpa using hn⟩
  ·have l1:ya ([.box [.pv S],X,Rb false 0 0,Rb false a b]++T) true 3 (.ptr 3 0)=some (.pv (.agg [.bool false,i64 a,i64 b])):=rfl
   have s2:Ra ([.box [.pv S],X,Rb false 0 0,Rb false a b]++T) 3 (.ptr 2 0) (.pv (.agg [.bool false,i64 a,i64 b]))=some ([.box [.pv S],X,Rb false a b,Rb false a b]++T):=rfl
   have l2:ya ([.box [.pv S],X,Rb false a b,Rb false a b]++T) true 3 (.ptr 2 0)=some (.pv (.agg [.bool false,i64 a,i64 b])):=rfl
   generalize hA1:[.box [.pv S],X,Rb false 0 0,Rb false a b]++T=A1 at *
   generalize hA2:[.box [.pv S],X,Rb false a b,Rb false a b]++T=A2 at *
   simp -implicitDefEqProofs only[SP,WP,na,sevalprocAttr,g4,g6,l1,s2,l2]
   subst hQQ hA2
   refine⟨false,a,b,_,rfl,?_⟩
   simp only[Bool.false_eq_true,false_iff]
   intro h
   rw[h i j hi hj h1] at h2;cases h2
 obtain⟨r,h1,y,a,b,T,rfl,h2⟩:=Fc key
 exact⟨y,a,b,T,h1,h2⟩
end
def gh (ss:List dc):Prop:=∀ i j,(hi:i < ss.length)→(hj:j < ss.length)→ss[i].parts.length < ss[j].parts.length→Pe ss[i] ss[j]=false
theorem yK (call:Za) {S:PV} {ss:List dc} {es:List PV} (hS:Ab S ss es) (i j:Nat) (H:List ba) (hi:i < ss.length) (hj:j < ss.length) (hH:H[0]? =some (.box [.pv S])):
 Ni call ai [.pv (i64 i),.pv (i64 j),.ptr 0 0] H=some (.pv (.bool (decide (ss[i].parts.length < ss[j].parts.length))),H):=by
 obtain⟨P,ps,hPs,a1⟩:=hS.pd hi
 obtain⟨Q,qs,hQs,a2⟩:=hS.pd hj
 have lP:=hPs.parts.Wb
 have lQ:=hQs.parts.Wb
 have p0:place H 0 (.ptr 0 0)=some (.ptr 0 0):=by simp[place,hH]
 have l0:ya H false 1 (.ptr 0 0)=some (.pv S):=by simp[ya,hH,lh]
 have r0:∀ H (x y:PV),ya H false 1 (.pv (.rp [x,y] 0))=some (.pv x):=fun H x y=>rfl
 have q0:∀ H (x y:PV),place H 0 (.pv (.rp [x,y] 0))=some (.pv (.rp [x,y] 0)):=fun H x y=>rfl
 have e:decide ((ss[i].parts.length:Int) < (ss[j].parts.length:Int))=decide (ss[i].parts.length < ss[j].parts.length):=by simp
 generalize ss[i]=p at *
 generalize ss[j]=q at *
 by_cases hij:P=Q
 ·subst hij
  have:p.parts.length=q.parts.length:=by have h1:=lP [];have h2:=lQ [];rw[h1] at h2;exact Option.some.inj h2
  rw[this] at lP e ⊢
  simp -implicitDefEqProofs only[SP,WP,na,sevalprocAttr,ai,p0,l0,a1,a2,r0,q0,lP,e]
 ·simp -implicitDefEqProofs only[SP,WP,na,sevalprocAttr,ai,p0,l0,a1,a2,r0,q0,lP,lQ,e]
theorem WE {S:PV} {ss:List dc} {es:List PV} (hS:Ab S ss es):
 (¬ Hc ss→Ke [.agg [S]]=some (.Zb [.agg [.bool false,i64 0,i64 0],i64 84]))∧
 (Hc ss→∃ y a b,Ke [.agg [S]]=some (.Zb [.agg [.bool y,i64 a,i64 b],i64 0])∧(y=true↔gh ss)):=by
 have hSone:(AV.pv S).one=true:=by rcases hS.is with⟨h,_⟩ | h <;> rw[h] <;> rfl
 have c25:sj 25=some jg:=rfl
 have s0:ya [.box [.pv S],Rb false 0 0] true 1 (.ptr 0 0)=some (.pv (.agg [S])):=rfl
 constructor
 ·intro hno
  obtain⟨b,hv,hvb⟩:=rl hS
  have hb:b=false:=by cases b with | false=>rfl | true=>exact absurd (hvb.1 rfl) hno
  subst hb
  have r1:∀ H (x:PV),ya H true 1 (.pv (.rp [x] 0))=some (.pv (.agg [x])):=fun H x=>rfl
  have s1:Ra [.box [.pv S],Rb false 0 0,.box [.pv (.bool false),.pv (i64 0),.pv (i64 0)]] 3 (.ptr 2 0) (.pv (.agg [.bool false,i64 0,i64 0]))=some [.box [.pv S],Rb false 0 0,Rb false 0 0]:=rfl
  have l2:ya [.box [.pv S],Rb false 0 0,Rb false 0 0] true 3 (.ptr 2 0)=some (.pv (.agg [.bool false,i64 0,i64 0])):=rfl
  have s2:Ra [.box [.pv S],Rb false 0 0,Rb false 0 0] 3 (.ptr 1 0) (.pv (.agg [.bool false,i64 0,i64 0]))=some [.box [.pv S],Rb false 0 0,Rb false 0 0]:=rfl
  have l3:ya [.box [.pv S],Rb false 0 0,Rb false 0 0] true 3 (.ptr 1 0)=some (.pv (.agg [.bool false,i64 0,i64 0])):=rfl
  simp -implicitDefEqProofs only[Ke,SP,WP,na,sevalprocAttr,Pm,c25,jg,hSone,s0,r1,hv,s1,l2,s2,l3]
 ·intro Aa
  have hA:uX (Ga sj 7) 4 S ss.length (fun i j=>if h:i < ss.length∧j < ss.length then decide (ss[i].parts.length < ss[j].parts.length) else false):=by
   refine⟨fun i j H hi hj hH=> ?_⟩
   rw[uz sj 6 4 _ H (f:=ai) rfl,yK _ hS i j H hi hj hH,dif_pos ⟨hi,hj⟩]
  obtain⟨y,a,b,T,h1,h2⟩:=KC hS Aa hA (fun i j hi hj h=>by rw[dif_pos ⟨hi,hj⟩] at h;have:=of_decide_eq_true h;omega) (Rb false 0 0) (fun n=>by simp[ma,Qa,Ia])
  refine⟨y,a,b,?_,?_⟩
  ·have s2:Ra ([.box [.pv S],Rb false 0 0]++T) 3 (.ptr 1 0) (.pv (.agg [.bool y,i64 a,i64 b]))=some ([.box [.pv S],Rb y a b]++T):=rfl
   have l3:ya ([.box [.pv S],Rb y a b]++T) true 3 (.ptr 1 0)=some (.pv (.agg [.bool y,i64 a,i64 b])):=rfl
   generalize hA1:[.box [.pv S],Rb false 0 0]++T=A1 at *
   generalize hA2:[.box [.pv S],Rb y a b]++T=A2 at *
   simp -implicitDefEqProofs only[Ke,SP,WP,na,sevalprocAttr,Pm,c25,hSone,s0,h1,s2,l3]
  ·rw[h2]
   unfold gh
   constructor
   ·intro h i j hi hj hlt
    exact h i j hi hj (by rw[dif_pos ⟨hi,hj⟩];exact decide_eq_true hlt)
   ·intro h i j hi hj hlt
    rw[dif_pos ⟨hi,hj⟩] at hlt
    exact h i j hi hj (of_decide_eq_true hlt)
end Go.AM.B1
namespace Go.AM.B1
open Go.AM Go.AM.So
theorem mR {v:PV} {l:List (Int×Int)} (h:Jm v l):∃ w,Wc [v]=some w∧Di 2 w (de l)∧(l≠[]→w= .lit 2 (de l)):=by
 rcases h.is with⟨rfl,hl⟩ | rfl
 ·refine⟨.pa,?_,.inl ⟨rfl,hl⟩,fun hne=>absurd (by simpa[de] using hl) hne⟩
  simp -implicitDefEqProofs only[Wc,SP,SA,SQ,WP,WQ,sevalprocAttr,te]
 ·refine⟨.lit 2 (de l),?_,.inr rfl,fun _=>rfl⟩
  have hr:pb (de l).length 16:=by have:=h.sz;unfold pb;simp;omega
  generalize de l=es at *
  simp -implicitDefEqProofs only[Wc,SP,SA,SQ,WP,WQ,sevalprocAttr,te,eq_true hr]
abbrev vK (S P:PV) (n i m j:Int):Tr:=((((((((Tr.lf.set 22 (.pv (i64 j))).set 21 (.pv (i64 m))).set 20 (.pv P)).set 12 (.pv (i64 i))).set 11 (.pv (i64 n))).set 10 (.pv S)).set 6 (.ptr 4 0)).set 3 (.ptr 1 0)).set 2 (.ptr 0 0)
abbrev lN (S:PV) (n i:Int):Tr:=((((Tr.lf.set 12 (.pv (i64 i))).set 11 (.pv (i64 n))).set 10 (.pv S)).set 3 (.ptr 1 0)).set 2 (.ptr 0 0)
abbrev WX (out:List PV) (nl:Bool):List ba:=[.box [.pv .pa],.box [.uq 2 nl 2 out],.tok 2 out.length nl]
abbrev fI (out:List PV) (nl:Bool) (P:PV) (f:Int) (ps:List PV) (nl1:Bool):List ba:=[.box [.pv .pa],.box [.uq 2 nl 2 out],.tok 2 out.length nl,.box [.pv P,.pv (i64 f)],.box [.uq 5 nl1 1 ps,.pv (i64 f)],.tok 1 ps.length nl1]
theorem jN {P S:PV} {ls:List (List (Int×Int))} {ps:List PV} (hP:Rf P ls ps) (Aa:∀ l∈ls,l≠[]) (h8:ls.length≤8) (out:List PV) (nl:Bool) (f n i:Int):
 ∃ E nl1,gb (fa (ta (Ga (fun _=>none) 8) Zh) (ga 6 [2,3,6,10,11,12,20,21,22])) oa ⟨vK S P n i ls.length 0,fI out nl P f [] true⟩=
  some (.exit 2,⟨E,fI out nl P f (ls.map Te) nl1⟩)∧(nl1=true→ls=[])∧E.get 2= .ptr 0 0∧E.get 3= .ptr 1 0∧E.get 6= .ptr 4 0∧E.get 10= .pv S∧E.get 11= .pv (i64 n)∧E.get 12= .pv (i64 i):=by
 have key:=Nb (g:=fa (ta (Ga (fun _=>none) 8) Zh) (ga 6 [2,3,6,10,11,12,20,21,22]))
  (fun j t=>∃ nl1,t=⟨vK S P n i ls.length j,fI out nl P f ((ls.take j).map Te) nl1⟩∧(nl1=true→j=0))
  (Q:=fun r=>∃ E nl1,r=(.exit 2,⟨E,fI out nl P f (ls.map Te) nl1⟩)∧(nl1=true→ls=[])∧E.get 2= .ptr 0 0∧E.get 3= .ptr 1 0∧E.get 6= .ptr 4 0∧E.get 10= .pv S∧E.get 11= .pv (i64 n)∧E.get 12= .pv (i64 i))
  ls.length (by unfold oa;omega) ⟨vK S P n i ls.length (0:Nat),fI out nl P f [] true⟩ ⟨true,rfl,fun _=>rfl⟩ ?_ ?_
 ·obtain⟨r,h1,_,E,nl1,rfl,h2⟩:=Fc key
  exact⟨E,nl1,h1,h2⟩
 ·rintro j t hj ⟨nl1,rfl,hnl⟩
  obtain⟨v,hv,hpt,_⟩:=hP.pd hj []
  have a1:=hP.Hw hv
  obtain⟨w,hcl,_,hw⟩:=mR hpt
  have hw:=hw (Aa _ (List.getElem_mem hj))
  subst hw
  have htk:(ls.take (j+1)).map Te=(ls.take j).map Te++[.lit 2 (de ls[j])]:=by
   rw[List.take_succ_eq_append_getElem hj,List.map_append];rfl
  have hpl:((ls.take j).map Te).length=j:=by simp;omega
  generalize ls[j]=l at *
  have e1:decide ((j:Int) < (ls.length:Int))=true:=Da (by omega)
  have t2:=Ua hj (by unfold maxLen;omega)
  have r1:∀ H (x:PV),ya H false 1 (.pv (.rp [x] 0))=some (.pv x):=fun H x=>rfl
  have hap:=qj (A:=fI out nl P f ((ls.take j).map Te) nl1) (id:=5) (n:=j) (h:= .uq) (ag:=false) (nl:=nl1) (sz:=1) (bytes:=24) (es:=(ls.take j).map Te) (by show some (ba.tok 1 ((ls.take j).map Te).length nl1)=_;rw[hpl]) hpl.symm (by unfold pb;omega) (.lit 2 (de l))
  have hlen1:((ls.take j).map Te++[PV.lit 2 (de l)]).length=j+1:=by rw[List.length_append,hpl];rfl
  have hap':ic (fI out nl P f ((ls.take j).map Te) nl1) false .uq 1 false 24 (.uq 5 nl1 1 ((ls.take j).map Te)) (.pv (.lit 1 [.lit 2 (de l)]))=some (.uq 5 false 1 ((ls.take j).map Te++[.lit 2 (de l)]),[.box [.pv .pa],.box [.uq 2 nl 2 out],.tok 2 out.length nl,.box [.pv P,.pv (i64 f)],.box [.uq 5 nl1 1 ((ls.take j).map Te),.pv (i64 f)],.tok 1 (j+1) false]):=hap
  unfold fI at hap' ⊢
  rw[hpl] at hap' ⊢
  have p0:∀ (x:AV) (y z:ba),place [.box [.pv .pa],.box [.uq 2 nl 2 out],y,.box [.pv P,.pv (i64 f)],.box [x,.pv (i64 f)],z] 0 (.ptr 4 0)=some (.ptr 4 0):=fun x y z=>rfl
  have l0:∀ (x:AV) (y z:ba),ya [.box [.pv .pa],.box [.uq 2 nl 2 out],y,.box [.pv P,.pv (i64 f)],.box [x,.pv (i64 f)],z] false 1 (.ptr 4 0)=some x:=fun x y z=>rfl
  have s0:∀ (x:AV) (y z:ba) (es:List PV),Ra [.box [.pv .pa],.box [.uq 2 nl 2 out],y,.box [.pv P,.pv (i64 f)],.box [x,.pv (i64 f)],z] 1 (.ptr 4 0) (.uq 5 false 1 es)=some [.box [.pv .pa],.box [.uq 2 nl 2 out],y,.box [.pv P,.pv (i64 f)],.box [.uq 5 false 1 es,.pv (i64 f)],z]:=fun x y z es=>rfl
  generalize hp0:(ls.take j).map Te=ps0 at *
  generalize hL:PV.lit 2 (de l)=L at *
  have hL1:(AV.pv L).cells=[.pv L]∧(AV.pv L).one=true:=by rw[← hL];exact⟨rfl,rfl⟩
  have b5:(5 < 6)=True:=by simp
  have b4:(4 < 6)=True:=by simp
  have b2:(2 < 6)=True:=by simp
  have b1:(1 < 6)=True:=by simp
  have b0:(0 < 6)=True:=by simp
  have hLc:L.cells=[L]:=by rw[← hL];rfl
  generalize hQ:LN _ _ j=Q
  subst hL
  simp -implicitDefEqProofs only[SP,WP,na,sevalprocAttr,Zh,e1,t2,a1,r1,p0,l0,s0,hcl,hap',b0,b1,b2,b4,b5,ga,za,AV.cut,ma,Qa,wa,vK]
  subst hQ
  refine⟨false,?_,by simp⟩
  rw[htk,hlen1]
 ·rintro t ⟨nl1,rfl,hnl⟩
  rw[List.take_length]
  have e1:decide ((ls.length:Int) < (ls.length:Int))=false:=Ha (by omega)
  generalize hQ:(fun r:Ex×St=>r.1.stop=true∧_)=Q
  simp -implicitDefEqProofs only[SX,sevalprocAttr,Zh,e1,vK]
  subst hQ
  exact⟨rfl,_,nl1,rfl,fun h=>List.eq_nil_of_length_eq_zero (hnl h),by simp[Tr.aa],by simp[Tr.aa],by simp[Tr.aa],by simp[Tr.aa],by simp[Tr.aa],by simp[Tr.aa]⟩
theorem EC {S:PV} {ss:List dc} {es:List PV} (hS:Ab S ss es) (Aa:Hc ss):∃ S',Ui [.agg [S]]=some (.agg [S'])∧Di 2 S' (ss.map Le):=by
 have lS:=hS.Wb
 have h32:=Aa.len
 have hSone:(AV.pv S).one=true:=by rcases hS.is with⟨h,_⟩ | h <;> rw[h] <;> rfl
 have hloop:Td (fun r=>∃ E nl,r=(.exit 0,⟨E,WX (ss.map Le) nl⟩)∧(nl=true→ss=[])∧E.get 2= .ptr 0 0∧E.get 3= .ptr 1 0)
  (gb (fa (ta (Ga (fun _=>none) 8) Uh) (ga 3 [2,3,10,11,12])) oa ⟨lN S ss.length 0,WX [] true⟩):=by
  refine xa (Nb (g:=fa (ta (Ga (fun _=>none) 8) Uh) (ga 3 [2,3,10,11,12]))
   (fun i t=>∃ nl,t=⟨lN S ss.length i,WX ((ss.take i).map Le) nl⟩∧(nl=true→i=0))
   (Q:=fun r=>∃ E nl,r=(.exit 0,⟨E,WX (ss.map Le) nl⟩)∧(nl=true→ss=[])∧E.get 2= .ptr 0 0∧E.get 3= .ptr 1 0)
   ss.length (by unfold oa;omega) _ ⟨true,rfl,fun _=>rfl⟩ ?_ ?_) (fun r h=>h.2)
  ·rintro i t hi ⟨nl,rfl,hnl⟩
   obtain⟨P,ps,hPs,a1⟩:=hS.pd hi
   have ok:=Aa.As _ (List.getElem_mem hi)
   obtain⟨hP1,hP2⟩:=hPs.Mv
   have lP:=hPs.parts.Wb
   have htk:(ss.take (i+1)).map Le=(ss.take i).map Le++[Le ss[i]]:=by
    rw[List.take_succ_eq_append_getElem hi,List.map_append];rfl
   have hpl:((ss.take i).map Le).length=i:=by simp;omega
   obtain⟨E,nl1,hin,hnl1,g2,g3,g6,g10,g11,g12⟩:=jN (S:=S) hPs.parts (fun l hl=>(ok.parts l hl).1) ok.hi ((ss.take i).map Le) nl ss[i].first ss.length i
   have hnl1f:nl1=false:=by
    cases nl1 with
    |false=>rfl
    |true=>have:=hnl1 rfl;have h2:=ok.lo;rw[this] at h2;simp at h2
   subst hnl1f
   have hes:Le ss[i]= .agg [.lit 1 (ss[i].parts.map Te),i64 ss[i].first]:=rfl
   rw[hes] at htk
   generalize ss[i]=p at *
   have e1:decide ((i:Int) < (ss.length:Int))=true:=Da (by omega)
   have t2:=Ua hi (by unfold maxLen;omega)
   have a2:∀ H,ya H true 2 (.pv (.rp [P,i64 p.first] 0))=some (.pv (.agg [P,i64 p.first])):=fun H=>rfl
   generalize (ss.take i).map Le=out at *
   generalize p.parts.map Te=pp at *
   subst hpl
   unfold fI at hin
   unfold WX
   have hlo:(out++[PV.agg [.lit 1 pp,i64 p.first]]).length=out.length+1:=by simp
   have hap:∀ (T:List ba),ic ([.box [.pv .pa],.box [.uq 2 nl 2 out],.tok 2 out.length nl]++T) false .uq 2 true 32 (.uq 2 nl 2 out) (.pv (.lit 2 [.agg [.lit 1 pp,i64 p.first]]))=some (.uq 2 false 2 (out++[.agg [.lit 1 pp,i64 p.first]]),[.box [.pv .pa],.box [.uq 2 nl 2 out],.tok 2 (out.length+1) false]++T):=fun T=>
    qj (A:=[.box [.pv .pa],.box [.uq 2 nl 2 out],.tok 2 out.length nl]++T) (id:=2) (n:=out.length) (h:= .uq) (ag:=true) (nl:=nl) (sz:=2) (bytes:=32) (es:=out) rfl rfl (by unfold pb;omega) _
   have hap1:=fun a b c=>hap [a,b,c]
   simp only[List.cons_append,List.nil_append] at hap1
   have s1:∀ T:List ba,Ra ([.box [.pv .pa],.box [.uq 2 nl 2 out],.tok 2 out.length nl,.box [.pv .pa,.pv (i64 0)]]) 2 (.ptr 3 0) (.pv (.agg [P,i64 p.first]))=some [.box [.pv .pa],.box [.uq 2 nl 2 out],.tok 2 out.length nl,.box [.pv P,.pv (i64 p.first)]]:=fun T=>
    Cn _ _ _ _ hP1 rfl [.box [.pv .pa],.box [.uq 2 nl 2 out],.tok 2 out.length nl] _ rfl
   have s1':=s1 []
   have b5:(5 < 6)=True:=by simp
   have b4:(4 < 6)=True:=by simp
   have b2:(2 < 6)=True:=by simp
   have b1:(1 < 6)=True:=by simp
   have b0:(0 < 6)=True:=by simp
   have c2:(2 < 3)=True:=by simp
   have c1:(1 < 3)=True:=by simp
   have c0:(0 < 3)=True:=by simp
   have hz:(0 < 1)=True:=by simp
   generalize hQ:LN _ _ out.length=Q
   have hin':gb (fa (ta (Ga (fun _=>none) 8) Zh) (ga 6 [2,3,6,10,11,12,20,21,22])) oa ⟨((((((((Tr.lf.set 22 (.pv (.int .i64 0))).set 21 (.pv (i64 p.parts.length))).set 20 (.pv P)).set 12 (.pv (i64 out.length))).set 11 (.pv (i64 ss.length))).set 10 (.pv S)).set 6 (.ptr 4 0)).set 3 (.ptr 1 0)).set 2 (.ptr 0 0),[.box [.pv .pa],.box [.uq 2 nl 2 out],.tok 2 out.length nl,.box [.pv P,.pv (i64 p.first)],.box [.uq 5 true 1 [],.pv (i64 p.first)],.tok 1 0 true]⟩=_:=hin
   simp -implicitDefEqProofs only[SP,SA,SQ,sevalprocAttr,fa,Uh,xb,e1,a1,a2,s1',hP1,lP,Vf,hz,b0,b1,b2,b4,b5,ga,za,AV.cut,ma,Ia,Qa,wa,lN]
   rw[hin']
   simp -implicitDefEqProofs only[SP,SQ,WP,WQ,↓reduceIte,reduceCtorEq,Nat.reduceAdd,Nat.reduceMul,Nat.reduceLeDiff,Nat.reduceEqDiff,Int.reduceLT,Int.reduceLE,Int.reduceBEq,Int.reduceEq,Nat.reduceBEq,Nat.reduceLT,Nat.reduceSub,g2,g3,g6,g10,g11,g12,hap1,t2,c0,c1,c2,ga,za,AV.cut,ma,Qa,wa]
   subst hQ
   exact⟨false,by rw[htk,hlo],by simp⟩
  ·rintro t ⟨nl,rfl,hnl⟩
   rw[List.take_length]
   have e1:decide ((ss.length:Int) < (ss.length:Int))=false:=Ha (by omega)
   generalize hQ:(fun r:Ex×St=>r.1.stop=true∧_)=Q
   simp -implicitDefEqProofs only[SX,sevalprocAttr,Uh,e1,lN]
   subst hQ
   exact⟨rfl,_,nl,rfl,fun h=>List.eq_nil_of_length_eq_zero (hnl h),by simp[Tr.aa],by simp[Tr.aa]⟩
 obtain⟨r,h1,E,nl,rfl,hnl,g2,g3⟩:=Fc hloop
 have h1':gb (fa (ta (Ga (fun _=>none) 8) Uh) (ga 3 [2,3,10,11,12])) oa ⟨((((Tr.lf.set 12 (.pv (.int .i64 0))).set 11 (.pv (i64 ss.length))).set 10 (.pv S)).set 3 (.ptr 1 0)).set 2 (.ptr 0 0),[.box [.pv .pa],.box [.uq 2 true 2 []],.tok 2 0 true]⟩=_:=h1
 have hz:(0 < 2)=True:=by simp
 have c2:(2 < 3)=True:=by simp
 have c1:(1 < 3)=True:=by simp
 have c0:(0 < 3)=True:=by simp
 have hout:nl=true→ss.map Le=[]:=fun h=>by rw[hnl h];rfl
 generalize ss.map Le=out at *
 cases nl with
 |true=>
  refine⟨.pa,?_,.inl ⟨rfl,?_⟩⟩
  ·simp -implicitDefEqProofs only[Ui,SP,SA,SQ,sevalprocAttr,fa,Nn,xb,hSone,HD,lS,Vf,hz,c0,c1,c2,ga,za,AV.cut,ma,Ia,Qa,wa,h1',g2,g3]
  ·exact hout rfl
 |false=>
  refine⟨.lit 2 out,?_,.inr rfl⟩
  simp -implicitDefEqProofs only[Ui,SP,SA,SQ,sevalprocAttr,fa,Nn,xb,hSone,HD,lS,Vf,hz,c0,c1,c2,ga,za,AV.cut,ma,Ia,Qa,wa,h1',g2,g3]
end Go.AM.B1
namespace Go.AM.B1
open Go.AM Go.AM.So
theorem Hc.ne {ss:List dc} (h:Hc ss):∀ s∈ss,0 < s.parts.length:=fun s hs=>(h.As s hs).lo
theorem Ab.pY {S:PV} {ss:List dc} {es:List PV} (h:Ab S ss es):∀ s∈ss,∀ l∈s.parts,l.length * 16≤140737488355328:=by
 intro s hs l hl
 obtain⟨i,hi,rfl⟩:=List.getElem_of_mem hs
 obtain⟨e,P,ps,_,_,hp⟩:=h.get hi
 obtain⟨j,hj,rfl⟩:=List.getElem_of_mem hl
 obtain⟨v,_,_,hv⟩:=hp.parts.get hj
 exact hv.sz
theorem Ci {S:PV} {ss:List dc} {es:List PV} (hS:Ab S ss es):
 (¬ Hc ss→Ec [.agg [S]]=some (.Zb [.agg [.pa],i64 84]))∧
 (Hc ss→¬gh ss→Ec [.agg [S]]=some (.Zb [.agg [.pa],i64 110]))∧
 (Hc ss→gh ss→vh ss=none→Ec [.agg [S]]=some (.Zb [.agg [.pa],i64 130]))∧
 (Hc ss→gh ss→∀ l,vh ss=some l→Ec [.agg [S]]=some (.Zb [.agg [Ai l],i64 0])):=by
 have hS0:S= .pa∨∃ l,S= .lit 2 l:=by
  rcases hS.is with⟨h,_⟩ | h
  ·exact .inl h
  ·exact .inr ⟨_,h⟩
 have hp:=WE hS
 refine⟨?_,?_,?_,?_⟩
 ·intro h
  exact oQ S hS0 (by decide) (hp.1 h)
 ·intro h1 h2
  obtain⟨y,a,b,h3,h4⟩:=hp.2 h1
  have hy:y=false:=by cases y with | false=>rfl | true=>exact absurd (h4.1 rfl) h2
  subst hy
  exact kS S hS0 h3
 ·intro h1 h2 h5
  obtain⟨y,a,b,h3,h4⟩:=hp.2 h1
  have hy:=h4.2 h2
  subst hy
  obtain⟨S',hc,hs⟩:=EC hS h1
  exact ML S S' ss hS0 h3 hc hs h1.len hS.pY h1.ne h5
 ·intro h1 h2 l h5
  obtain⟨y,a,b,h3,h4⟩:=hp.2 h1
  have hy:=h4.2 h2
  subst hy
  obtain⟨S',hc,hs⟩:=EC hS h1
  exact gS S S' ss hS0 h3 hc hs h1.len hS.pY h1.ne h5
end Go.AM.B1
