/- What functions of the program compute. -/
import Derived.Test.YtijlhblleiaomaaGreatN6
import Derived.Test.YtijlhblleiaomaaGreatN3
set_option linter.unusedVariables false
set_option linter.unusedSimpArgs false
namespace Go.AM.B1
open Go.AM Go.AM.So
structure Mg (s:ec):Prop where
 lo:1≤s.parts.length
 hi:s.parts.length≤8
 f0:0≤s.first
 f1:s.first≤1073741823
 parts:∀ l∈s.parts,Jd l
 last:Jg s≤1073741823
def nP (s t:ec):Prop:=∀ x,¬((s.first≤x∧x≤Jg s)∧(t.first≤x∧x≤Jg t))
structure ue (ss:List ec):Prop where
 len:ss.length≤32
 my:∀ s∈ss,Mg s
 apart:ss.Pairwise nP
theorem Mg.iw {s:ec} (h:Mg s):s.first≤Jg s:=by
 have:=(Gr s.parts 1 h.parts (by omega) (by omega)).1
 unfold Jg;omega
structure SR (ss:List ec) (i:Nat) (v:PV) (u:List (Int×Int)):Prop where
 is:Ah 2 v (Td u)
 val:Ka Mu (-2) u=true
 len:u.length≤i
 mem:∀ x,Eh x u↔∃ s∈ss.take i,s.first≤x∧x≤Jg s
 my:∀ s∈ss.take i,Mg s
 apart:(ss.take i).Pairwise nP
abbrev Gm (S v:PV) (len i:Int):Tr:=(((Tr.lf.set 14 (.pv (i64 i))).set 13 (.pv (i64 len))).set 12 (.pv S)).set 3 (.pv v)
theorem Sk (x y u v:AV) (hu:u.one=true) (hv:v.one=true) (A:List aa) (e:PV) (he:(AV.pv e).cells=[u,v]):Pa (A++[.box [x,y]]) 2 (.ptr A.length 0) (.pv e)=some (A++[.box [u,v]]):=by
 simp only[Pa,he,lh,Wk,List.length_cons,List.length_nil,List.all,hu,hv]
 simp[oa]
section
variable {S:PV} {ss:List ec} {es:List PV} (hS:Ld S ss es) (hl:ss.length≤32)
include hS hl
omit hl in
theorem By {i:Nat} (hi:i < ss.length) (v:PV) (hbad:¬Mg ss[i]):
 ∃ E H,fa (ga (za Fb 8) ib) (xa 0 [3,12,13,14]) ⟨Gm S v ss.length i,[]⟩=some (.ret,⟨E,H⟩)∧E.get 2= .pv (.bool false):=by
 obtain⟨e,P,ps,he,hSl,hsh⟩:=hS.get hi
 obtain⟨rfl,hP⟩:=hsh
 generalize hs:ss[i]=s at *
 have hq:i < es.length:=by rw[hS.len];exact hi
 have e1:decide ((i:Int) < (ss.length:Int))=true:=Za (by omega)
 have a1:ma [] 2 (.pv S) (i:Int)=some (.pv (.rp [P,i64 s.first] 0)):=by
  rw[hSl]
  simp only[ma]
  rw[if_pos (by unfold Ca;simp;omega),Int.toNat_natCast,he];rfl
 have a2:na [] true 2 (.pv (.rp [P,i64 s.first] 0))=some (.pv (.agg [P,i64 s.first])):=rfl
 have hP1:(AV.pv P).one=true:=by rcases hP.is with⟨h,_⟩ | h <;> rw[h] <;> rfl
 have s1:Pa [.box [.pv .qa,.pv (i64 0)]] 2 (.ptr 0 0) (.pv (.agg [P,i64 s.first]))=some [.box [.pv P,.pv (i64 s.first)]]:=Sk _ _ _ _ hP1 rfl [] _ rfl
 have p0:place [.box [.pv P,.pv (i64 s.first)]] 0 (.ptr 0 0)=some (.ptr 0 0):=rfl
 have p1:place [.box [.pv P,.pv (i64 s.first)]] 1 (.ptr 0 0)=some (.ptr 0 1):=rfl
 have l0:na [.box [.pv P,.pv (i64 s.first)]] false 1 (.ptr 0 0)=some (.pv P):=rfl
 have l1:na [.box [.pv P,.pv (i64 s.first)]] false 1 (.ptr 0 1)=some (.pv (i64 s.first)):=rfl
 have l2:na [.box [.pv P,.pv (i64 s.first)]] true 2 (.ptr 0 0)=some (.pv (.agg [P,i64 s.first])):=rfl
 have hg:Kc [.box [.pv P,.pv (i64 s.first)]]:=by
  intro n _ o ho;simp at ho;subst ho;simp[pa,Va,Ha]
 have hct:=Yv hP 5 [.box [.pv P,.pv (i64 s.first)]] hg
 have h6:Fb 6=some fb:=rfl
 have lA:=hP.Mc
 have key:ke (fun r=>∃ E H,r=(.ret,⟨E,H⟩)∧E.get 2= .pv (.bool false)) (fa (ga (za Fb 8) ib) (xa 0 [3,12,13,14]) ⟨Gm S v ss.length i,[]⟩):=by
  generalize hQ:(fun r:Ex×St=>_)=Q
  by_cases c1:s.parts.length < 1
  ·have d1:decide ((s.parts.length:Int) < 1)=true:=Za (by omega)
   simp -implicitDefEqProofs only[SX,sevalprocAttr,ib,e1,a1,a2,s1,p0,p1,l0,l1,lA,d1,Gm]
   subst hQ;exact⟨_,_,rfl,by simp[Tr.ba]⟩
  have d1:decide ((s.parts.length:Int) < 1)=false:=mb (by omega)
  by_cases c2:s.parts.length > 8
  ·have d2:decide ((s.parts.length:Int) > 8)=true:=Za (by omega)
   simp -implicitDefEqProofs only[SX,sevalprocAttr,ib,e1,a1,a2,s1,p0,p1,l0,l1,lA,d1,d2,Gm]
   subst hQ;exact⟨_,_,rfl,by simp[Tr.ba]⟩
  have d2:decide ((s.parts.length:Int) > 8)=false:=mb (by omega)
  by_cases c3:s.first < 0
  ·have d3:decide (s.first < 0)=true:=Za c3
   simp -implicitDefEqProofs only[SX,sevalprocAttr,ib,e1,a1,a2,s1,p0,p1,l0,l1,lA,d1,d2,d3,Gm]
   subst hQ;exact⟨_,_,rfl,by simp[Tr.ba]⟩
  have d3:decide (s.first < 0)=false:=mb c3
  by_cases c4:s.first > 1073741823
  ·have d4:decide (s.first > 1073741823)=true:=Za c4
   simp -implicitDefEqProofs only[SX,sevalprocAttr,ib,e1,a1,a2,s1,p0,p1,l0,l1,lA,d1,d2,d3,d4,Gm]
   subst hQ;exact⟨_,_,rfl,by simp[Tr.ba]⟩
  have d4:decide (s.first > 1073741823)=false:=mb c4
  by_cases c5:∀ l∈s.parts,Jd l
  ·have hlast:=FF (e:= .agg [P,i64 s.first]) ⟨rfl,hP⟩ c5 (by omega)
   rw[decide_eq_true c5] at hct
   have c6:Jg s > 1073741823:=by
    rcases Int.lt_or_le 1073741823 (Jg s) with h | h
    ·exact h
    ·exact absurd (Mg.mk (by omega) (by omega) (by omega) (by omega) c5 h) hbad
   have d6:decide (Jg s > 1073741823)=true:=Za c6
   have i0:∀ H (x y:Int),ma H 2 (.pv (.lit 2 [.agg [i64 x,i64 y]])) 0=some (.pv (.rp [i64 x,i64 y] 0)):=fun H x y=>rfl
   have q1:∀ H (x y:PV),place H 1 (.pv (.rp [x,y] 0))=some (.pv (.rp [x,y] 1)):=fun H x y=>rfl
   have m1:∀ H (x y:PV),na H false 1 (.pv (.rp [x,y] 1))=some (.pv y):=fun H x y=>rfl
   simp -implicitDefEqProofs only[SX,sevalprocAttr,oa,ib,e1,a1,a2,s1,p0,p1,l0,l1,l2,lA,d1,d2,d3,d4,h6,hct,hlast,i0,q1,m1,d6,Gm]
   subst hQ;exact⟨_,_,rfl,by simp[Tr.ba]⟩
  ·rw[decide_eq_false c5] at hct
   simp -implicitDefEqProofs only[SX,sevalprocAttr,ib,e1,a1,a2,s1,p0,p1,l0,l1,lA,d1,d2,d3,d4,h6,hct,Gm]
   subst hQ;exact⟨_,_,rfl,by simp[Tr.ba]⟩
 obtain⟨r,h1,E,H,rfl,h2⟩:=vd key
 exact⟨E,H,h1,h2⟩
theorem GA {i:Nat} (hi:i < ss.length) {v:PV} {u:List (Int×Int)} (hv:SR ss i v u) (ta:Mg ss[i]):
 ke (fun r=>(∃ E H,r=(.ret,⟨E,H⟩)∧E.get 2= .pv (.bool false)∧∃ s∈ss.take i,¬nP s ss[i])∨(∃ v' u',r=(.norm,⟨Gm S v' ss.length (i+1:Nat),[]⟩)∧SR ss (i+1) v' u'))
  (fa (ga (za Fb 8) ib) (xa 0 [3,12,13,14]) ⟨Gm S v ss.length i,[]⟩):=by
 obtain⟨e,P,ps,he,hSl,hsh⟩:=hS.get hi
 obtain⟨rfl,hP⟩:=hsh
 have htake:ss.take (i+1)=ss.take i++[ss[i]]:=List.take_succ_eq_append_getElem hi
 generalize hs:ss[i]=s at *
 have hq:i < es.length:=by rw[hS.len];exact hi
 have e1:decide ((i:Int) < (ss.length:Int))=true:=Za (by omega)
 have t2:=Bb hi hS.sz
 have a1:ma [] 2 (.pv S) (i:Int)=some (.pv (.rp [P,i64 s.first] 0)):=by
  rw[hSl]
  simp only[ma]
  rw[if_pos (by unfold Ca;simp;omega),Int.toNat_natCast,he];rfl
 have a2:na [] true 2 (.pv (.rp [P,i64 s.first] 0))=some (.pv (.agg [P,i64 s.first])):=rfl
 have hP1:(AV.pv P).one=true:=by rcases hP.is with⟨h,_⟩ | h <;> rw[h] <;> rfl
 have s1:Pa [.box [.pv .qa,.pv (i64 0)]] 2 (.ptr 0 0) (.pv (.agg [P,i64 s.first]))=some [.box [.pv P,.pv (i64 s.first)]]:=Sk _ _ _ _ hP1 rfl [] _ rfl
 have p0:place [.box [.pv P,.pv (i64 s.first)]] 0 (.ptr 0 0)=some (.ptr 0 0):=rfl
 have p1:place [.box [.pv P,.pv (i64 s.first)]] 1 (.ptr 0 0)=some (.ptr 0 1):=rfl
 have l0:na [.box [.pv P,.pv (i64 s.first)]] false 1 (.ptr 0 0)=some (.pv P):=rfl
 have l1:na [.box [.pv P,.pv (i64 s.first)]] false 1 (.ptr 0 1)=some (.pv (i64 s.first)):=rfl
 have l2:na [.box [.pv P,.pv (i64 s.first)]] true 2 (.ptr 0 0)=some (.pv (.agg [P,i64 s.first])):=rfl
 have hg:Kc [.box [.pv P,.pv (i64 s.first)]]:=by
  intro n _ o ho;simp at ho;subst ho;simp[pa,Va,Ha]
 have hct:=Yv hP 5 [.box [.pv P,.pv (i64 s.first)]] hg
 rw[decide_eq_true ta.parts] at hct
 have h6:Fb 6=some fb:=rfl
 have lA:=hP.Mc
 have d1:decide ((s.parts.length:Int) < 1)=false:=mb (by have:=ta.lo;omega)
 have d2:decide ((s.parts.length:Int) > 8)=false:=mb (by have:=ta.hi;omega)
 have d3:decide (s.first < 0)=false:=mb (by have:=ta.f0;omega)
 have d4:decide (s.first > 1073741823)=false:=mb (by have:=ta.f1;omega)
 have hlast:=FF (e:= .agg [P,i64 s.first]) ⟨rfl,hP⟩ ta.parts ⟨ta.f0,ta.f1⟩
 have d6:decide (Jg s > 1073741823)=false:=mb (by have:=ta.last;omega)
 have i0:∀ H (x y:Int),ma H 2 (.pv (.lit 2 [.agg [i64 x,i64 y]])) 0=some (.pv (.rp [i64 x,i64 y] 0)):=fun H x y=>rfl
 have q1:∀ H (x y:PV),place H 1 (.pv (.rp [x,y] 0))=some (.pv (.rp [x,y] 1)):=fun H x y=>rfl
 have m1:∀ H (x y:PV),na H false 1 (.pv (.rp [x,y] 1))=some (.pv y):=fun H x y=>rfl
 have hvr:Ka Mu (-2) [(s.first,Jg s)]=true:=by
  rw[sn];have:=ta.iw;have:=ta.f0;have:=ta.last;unfold Mu;simp only;omega
 have hmt:=Dw v (.lit 2 [.agg [i64 s.first,i64 (Jg s)]]) u [(s.first,Jg s)] hv.is (.inr rfl) hv.val hvr (by have:=hv.len;simp;omega)
 obtain⟨u',hun,hv1,hv2,hv3⟩:=GL v (.lit 2 [.agg [i64 s.first,i64 (Jg s)]]) u [(s.first,Jg s)] hv.is (.inr rfl) hv.val hvr (by have:=hv.len;simp;omega)
 have hms:=SH hv.val hvr
 have hml:∀ l:List (Int×Int),(Td l).length=l.length:=fun l=>by simp
 generalize te (u.length+[(s.first,Jg s)].length) u [(s.first,Jg s)]=mm at *
 have hvv:(AV.pv v).cells=[.pv v]:=by rcases hv.is with⟨h,_⟩ | h <;> rw[h] <;> rfl
 generalize hQ:(fun r:Ex×St=>_)=Q
 by_cases c7:mm=[]
 ·have d7:decide ((mm.length:Int) > 0)=false:=mb (by rw[c7];simp)
  have hno:¬∃ x,Eh x u∧Eh x [(s.first,Jg s)]:=fun h=>(hms.2 h) c7
  simp -implicitDefEqProofs only[SX,sevalprocAttr,oa,ib,e1,t2,a1,a2,s1,p0,p1,l0,l1,l2,lA,d1,d2,d3,d4,h6,hct,hlast,i0,q1,m1,d6,hmt,hml,d7,hun,xa,Qa,AV.cut,pa,List.take_zero,Sa,Gm]
  subst hQ
  refine .inr ⟨_,u',rfl,.inr rfl,hv1,by have:=hv.len;simp at hv3;omega,fun x=> ?_,?_,?_⟩
  ·rw[hv2,zl,hv.mem,htake]
   constructor
   ·rintro (⟨t,ht,hx⟩ | hx)
    ·exact⟨t,by simp[ht],hx⟩
    ·exact⟨s,by simp,hx⟩
   ·rintro⟨t,ht,hx⟩
    rcases List.mem_append.1 ht with h | h
    ·exact .inl ⟨t,h,hx⟩
    ·simp at h;subst h;exact .inr hx
  ·intro t ht
   rw[htake] at ht
   rcases List.mem_append.1 ht with h | h
   ·exact hv.my t h
   ·simp at h;subst h;exact ta
  ·rw[htake,List.pairwise_append]
   refine⟨hv.apart,by simp,fun t ht w hw x hx=> ?_⟩
   simp at hw;subst hw
   exact hno ⟨x,(hv.mem x).2 ⟨t,ht,hx.1⟩,(zl _ _).2 hx.2⟩
 ·have d7:decide ((mm.length:Int) > 0)=true:=Za (by have:mm.length≠0:=fun e=>c7 (List.eq_nil_of_length_eq_zero e);omega)
  obtain⟨x,hx1,hx2⟩:=hms.1 c7
  simp -implicitDefEqProofs only[SX,sevalprocAttr,oa,ib,e1,a1,a2,s1,p0,p1,l0,l1,l2,lA,d1,d2,d3,d4,h6,hct,hlast,i0,q1,m1,d6,hmt,hml,d7,Gm]
  subst hQ
  obtain⟨t,ht,hx3⟩:=(hv.mem x).1 hx1
  exact .inl ⟨_,_,rfl,by simp[Tr.ba],t,ht,fun h=>h x ⟨hx3,(zl _ _).1 hx2⟩⟩
end
theorem Ti {S:PV} {ss:List ec} {es:List PV} (hS:Ld S ss es):∃ b,Ee [.agg [S]]=some (.bool b)∧(b=true↔ue ss):=by
 have lA:=hS.Mc
 by_cases hl:ss.length≤32
 ·have e0:decide ((ss.length:Int) > 32)=false:=mb (by omega)
  have hloop:ke (fun r=>∃ E H,(r=(.exit 0,⟨E,H⟩)∧ue ss)∨(r=(.ret,⟨E,H⟩)∧E.get 2= .pv (.bool false)∧¬ue ss))
   (Eb (fa (ga (za Fb 8) ib) (xa 0 [3,12,13,14])) wa ⟨Gm S .qa ss.length 0,[]⟩):=by
   refine Wa (Te (g:=fa (ga (za Fb 8) ib) (xa 0 [3,12,13,14]))
    (fun i t=>∃ v u,t=⟨Gm S v ss.length i,[]⟩∧SR ss i v u)
    ss.length (by unfold wa;omega) _ ⟨.qa,[],rfl,.inl ⟨rfl,rfl⟩,rfl,by simp,fun x=>by simp[Tj],by simp,by simp⟩ ?_ ?_) (fun r h=>h.2)
   ·rintro i t hi ⟨v,u,rfl,hv⟩
    by_cases ta:Mg ss[i]
    ·refine Wa (GA hS hl hi hv ta) ?_
     rintro r (⟨E,H,rfl,hE,s,hs,hna⟩ | ⟨v',u',rfl,hv'⟩)
     ·refine⟨E,H,.inr ⟨rfl,hE,fun h=>hna ?_⟩⟩
      obtain⟨j,hj,rfl⟩:=List.mem_take_iff_getElem.1 hs
      have:=List.pairwise_iff_getElem.1 h.apart j i (by omega) hi (by omega)
      exact this
     ·exact⟨v',u',rfl,hv'⟩
    ·obtain⟨E,H,h1,h2⟩:=By hS hi v ta
     exact vS h1 ⟨E,H,.inr ⟨rfl,h2,fun h=>ta (h.my _ (List.getElem_mem hi))⟩⟩
   ·rintro t ⟨v,u,rfl,hv⟩
    have e1:decide ((ss.length:Int) < (ss.length:Int))=false:=mb (by omega)
    have hfin:ue ss:=⟨hl,by have:=hv.my;rwa [List.take_length] at this,by have:=hv.apart;rwa [List.take_length] at this⟩
    generalize hQ:(fun r:Ex×St=>r.1.stop=true∧_)=Q
    simp -implicitDefEqProofs only[SX,sevalprocAttr,ib,e1,Gm]
    subst hQ
    exact⟨rfl,_,_,.inl ⟨rfl,hfin⟩⟩
  obtain⟨r,h1,E,H,h2⟩:=vd hloop
  have h1':Eb (fa (ga (za Fb 8) ib) (xa 0 [3,12,13,14])) wa ⟨(((Tr.lf.set 14 (.pv (.int .i64 0))).set 13 (.pv (.int .i64 ss.length))).set 12 (.pv S)).set 3 (.pv .qa),[]⟩=some r:=h1
  have hSv:∃ sz es,S= .qa∨S= .lit sz es:=by rcases hS.is with⟨h,_⟩ | h;exact⟨0,[],.inl h⟩;exact⟨_,_,.inr h⟩
  rcases h2 with⟨rfl,ta⟩ | ⟨rfl,hE,hno⟩
  ·refine⟨true,?_,by simp[ta]⟩
   obtain⟨sz,es,rfl | rfl⟩:=hSv <;>
   simp -implicitDefEqProofs only[Ee,SP,SA,SQ,WP,WQ,sevalprocAttr,Ai,Tc,lA,e0,h1']
  ·refine⟨false,?_,by simp[hno]⟩
   obtain⟨sz,es,rfl | rfl⟩:=hSv <;>
   simp -implicitDefEqProofs only[Ee,SP,SA,SQ,WP,WQ,sevalprocAttr,Ai,Tc,lA,e0,h1',hE]
 ·have e0:decide ((ss.length:Int) > 32)=true:=Za (by omega)
  refine⟨false,?_,by simp;exact fun h=>hl h.len⟩
  have hSv:∃ sz es,S= .qa∨S= .lit sz es:=by rcases hS.is with⟨h,_⟩ | h;exact⟨0,[],.inl h⟩;exact⟨_,_,.inr h⟩
  obtain⟨sz,es,rfl | rfl⟩:=hSv <;>
  simp -implicitDefEqProofs only[Ee,SP,SA,SQ,WP,WQ,sevalprocAttr,Ai,Tc,lA,e0]
end Go.AM.B1
namespace Go.AM.B1
open Go.AM Go.AM.So
theorem ug.one {e:PV} {s:ec} {P:PV} {ps:List PV} (h:ug e s P ps):Ld (.lit 2 [e]) [s] [e]:=by
 refine⟨.inr rfl,rfl,?_,by simp[maxLen]⟩
 intro k e' s' h1 h2
 match k,h1,h2 with
 |0,h1,h2=>simp at h1 h2;subst h1 h2;exact⟨P,ps,h⟩
 |k+1,h1,h2=>simp at h1
theorem nL {s:ec}:ue [s]↔Mg s:=⟨fun h=>h.my s (by simp),fun h=>⟨by simp,by simpa using h,by simp⟩⟩
theorem ug.yw {e:PV} {s:ec} {P:PV} {ps:List PV} (h:ug e s P ps):(AV.pv P).one=true∧P.cells=[P]:=by
 rcases h.parts.is with⟨h,_⟩ | h <;> rw[h] <;> exact⟨rfl,rfl⟩
theorem pj {e:PV} {s:ec} {P:PV} {ps:List PV} (h:ug e s P ps):∃ b,Rg [e]=some (.bool b)∧(b=true↔Mg s):=by
 obtain⟨b,h1,h2⟩:=Ti h.one
 refine⟨b,?_,h2.trans nL⟩
 obtain⟨hP1,hP2⟩:=h.yw
 have heq:=h.eq
 subst heq
 rcases h.parts.is with⟨rfl,_⟩ | rfl <;>
 simp -implicitDefEqProofs only[Rg,SP,SA,SQ,WP,WQ,sevalprocAttr,vo,h1]
theorem qf.mg {P:PV} {ls:List (List (Int×Int))} {ps:List PV} (hP:qf P ls ps) {i:Nat} (hi:i < ls.length) (H:List aa):∃ v,ps[i]? =some v∧Qp v ls[i]∧ma H 1 (.pv P) (i:Int)=some (.pv (.rp [v] 0)):=by
 obtain⟨v,hv,hPl,hpt⟩:=hP.get hi
 refine⟨v,hv,hpt,?_⟩
 have hq:i < ps.length:=by rw[hP.len];exact hi
 have hcl:v.cells=[v]:=by rcases hpt.is with⟨h,_⟩ | h <;> rw[h] <;> rfl
 rw[hPl]
 simp only[ma]
 rw[if_pos (by unfold Ca;simp;omega),Int.toNat_natCast,hv]
 simp[hcl]
theorem qf.Bz {P:PV} {ls:List (List (Int×Int))} {ps:List PV} (hP:qf P ls ps) {i:Nat} {v:PV} (hv:ps[i]? =some v) (H:List aa):ma H 1 (.pv P) (i:Int)=some (.pv (.rp [v] 0)):=by
 have hi:i < ls.length:=by rw[← hP.len];exact (List.getElem?_eq_some_iff.1 hv).1
 obtain⟨w,hw,_,h⟩:=hP.mg hi H
 rw[hv] at hw;injection hw with hw;subst hw;exact h
def Is (p q:List (List (Int×Int))) (i:Nat):List (Int×Int):=match p[i]?,q[i]? with
 |some a,some b=>te (a.length+b.length) a b
 |_,_=>[]
def wg (p q:List (List (Int×Int))):Nat→Nat→Option (List Int)
 |0,_=>some []
 |n+1,i=>match Is p q i with
  | []=>none
  |m::_=>(wg p q n (i+1)).map (m.1:: ·)
abbrev UE (rp rq:List PV) (n i:Int) (tk:Nat) (nl:Bool) (es:List PV):Tr:=((((Tr.lf.set 35 (.pv (i64 i))).set 34 (.pv (i64 n))).set 8 (.uq tk nl 1 es)).set 4 (.pv (.rp rq 0))).set 3 (.pv (.rp rp 0))
theorem Ts {A:List aa} {id n bytes:Nat} {nl:Bool} {h:Yd} {es:List PV} (hg:A[id]? =some (.tok 1 n nl)) (hn:n=es.length) (hr:Cb (n+1) bytes) (e:PV):
 Hc A false h 1 false bytes (.uq id nl 1 es) (.pv (.lit 1 [e]))=some (.uq id false 1 (es++[e]),A.set id (.tok 1 (n+1) false)):=Nk hg hn hr e
theorem YI {e f:PV} {p q:ec} {P Q:PV} {ps qs:List PV} (hp:ug e p P ps) (hq:ug f q Q qs) (op:Mg p) (oq:Mg q) {n:Nat} (hn:n≤p.parts.length) (hn2:n≤q.parts.length):
 (wg p.parts q.parts n 0=none→Zf [e,f,i64 n]=some (.bc [.qa,.bool false]))∧
 (∀ bs,wg p.parts q.parts n 0=some bs→∃ v,Zf [e,f,i64 n]=some (.bc [v,.bool true])∧Ah 1 v (bs.map (PV.int .u8))∧bs.length=n∧∀ b∈bs,0≤b∧b≤255):=by
 obtain⟨b1,hb1,hb1'⟩:=pj hp
 obtain⟨b2,hb2,hb2'⟩:=pj hq
 have:b1=true:=hb1'.2 op
 subst this
 have:b2=true:=hb2'.2 oq
 subst this
 obtain⟨hP1,hP2⟩:=hp.yw
 obtain⟨hQ1,hQ2⟩:=hq.yw
 have heq:=hp.eq
 have hfq:=hq.eq
 subst heq hfq
 have h8:=op.hi
 have lP:=hp.parts.Mc
 have lQ:=hq.parts.Mc
 have hloop:ke (fun r=>∃ E H,(r=(.ret,⟨E,H⟩)∧E.get 6= .pv .qa∧E.get 7= .pv (.bool false)∧wg p.parts q.parts n 0=none)∨(∃ nl bs,r=(.exit 0,⟨E,H⟩)∧E.get 8= .uq 0 nl 1 (bs.map (PV.int .u8))∧(nl=true→bs=[])∧wg p.parts q.parts n 0=some bs∧bs.length=n∧∀ b∈bs,0≤b∧b≤255))
  (Eb (fa (ga (za (fun _=>none) 8) Ge) (xa 1 [3,4,8,34,35])) wa ⟨UE [P,i64 p.first] [Q,i64 q.first] n 0 0 true [],[.tok 1 0 true]⟩):=by
  refine Wa (Te (g:=fa (ga (za (fun _=>none) 8) Ge) (xa 1 [3,4,8,34,35]))
   (fun i t=>∃ nl bs,t=⟨UE [P,i64 p.first] [Q,i64 q.first] n i 0 nl (bs.map (PV.int .u8)),[.tok 1 i nl]⟩∧bs.length=i∧(nl=true→bs=[])∧(∀ b∈bs,0≤b∧b≤255)∧wg p.parts q.parts n 0=(wg p.parts q.parts (n - i) i).map (bs++ ·))
   n (by unfold wa;omega) _ ⟨true,[],rfl,rfl,fun _=>rfl,by simp,by cases wg p.parts q.parts n 0 <;> simp[*]⟩ ?_ ?_) (fun r h=>h.2)
  ·rintro i t hi ⟨nl,bs,rfl,hlen,hnl,hby,hs⟩
   obtain⟨v,hv,hpv,_⟩:=hp.parts.mg (i:=i) (by omega) []
   obtain⟨w,hw,hqw,_⟩:=hq.parts.mg (i:=i) (by omega) []
   have a1:=hp.parts.Bz hv
   have a2:=hq.parts.Bz hw
   have okv:=op.parts _ (List.getElem_mem (show i < p.parts.length by omega))
   have okw:=oq.parts _ (List.getElem_mem (show i < q.parts.length by omega))
   have hmt:=uz v w _ _ hpv.is hqw.is okv.2 okw.2 (by
    have:=(En okv.2).2.1 okv.1
    have h1:=hpv.sz
    have h2:=hqw.sz
    have k1:=Aq okv.2
    have k2:=Aq okw.2
    omega)
   have hlaw:=Np _ _ _ (-2) (-2) okv.2 okw.2 (Nat.le_refl _)
   have hmA:Is p.parts q.parts i=te (p.parts[i].length+q.parts[i].length) p.parts[i] q.parts[i]:=by
    unfold Is
    rw[List.getElem?_eq_getElem (show i < p.parts.length by omega),List.getElem?_eq_getElem (show i < q.parts.length by omega)]
   obtain⟨m,hm⟩:∃ m,n - i=m+1:=⟨n - i - 1,by omega⟩
   have hm':n - (i+1)=m:=by omega
   rw[hm,wg,hmA] at hs
   have hme:=en okv.2
   generalize p.parts[i]=lv at *
   generalize q.parts[i]=lw at *
   generalize te (lv.length+lw.length) lv lw=mm at *
   have e1:decide ((i:Int) < (n:Int))=true:=Za (by omega)
   have t2:=Bb (i:=i) (n:=n) hi (by unfold maxLen;omega)
   have lm:∀ H,Mc H 0 (.pv (.lit 2 (Td mm)))=some mm.length:=fun H=>by simp[Mc]
   have r0:∀ H (x y:PV),na H false 1 (.pv (.rp [x,y] 0))=some (.pv x):=fun H x y=>rfl
   have r1:∀ H (x:PV),na H false 1 (.pv (.rp [x] 0))=some (.pv x):=fun H x=>rfl
   have q0:∀ H (x y:PV),place H 0 (.pv (.rp [x,y] 0))=some (.pv (.rp [x,y] 0)):=fun H x y=>rfl
   generalize hQ:LN _ _ i=QQ
   cases mm with
   |nil=>
    have z1:(((0:Nat):Int)==0)=true:=by decide
    simp only[Option.map_none] at hs
    simp -implicitDefEqProofs only[SX,sevalprocAttr,Ge,e1,a1,a2,r0,r1,q0,hmt,lm,z1,UE]
    subst hQ
    exact⟨_,_,.inl ⟨rfl,by simp[Tr.ba],by simp[Tr.ba],hs⟩⟩
   |cons m0 mm=>
    have z1:(((mm.length+1:Nat):Int)==0)=false:=Ik (by omega)
    have i0:∀ H,ma H 2 (.pv (.lit 2 (Td (m0::mm)))) 0=some (.pv (.rp [i64 m0.1,i64 m0.2] 0)):=fun H=>Fp H (i:=0) (l:=m0::mm) (by simp)
    have hb0:0≤m0.1∧m0.1≤255:=by
     have hmem:=(hlaw.1 m0.1).1 ⟨m0,by simp,Int.le_refl _,hlaw.2 m0 (by simp)⟩
     obtain⟨pp,hpp,h1,h2⟩:=hmem.1
     have:=hme pp hpp;omega
    have t3:IntKind.u8.wrap m0.1=m0.1:=wrap_u8 hb0
    have hap:=Ts (A:=[.tok 1 i nl]) (id:=0) (n:=i) (h:= .uq) (nl:=nl) (bytes:=1) (es:=bs.map (PV.int .u8)) rfl (by simp[hlen]) (by unfold Cb;omega) (.int .u8 m0.1)
    rw[List.set_cons_zero] at hap
    have lm':∀ H,Mc H 0 (.pv (.lit 2 (Td (m0::mm))))=some (mm.length+1):=lm
    have hbm:(bs++[m0.1]).map (PV.int .u8)=bs.map (PV.int .u8)++[.int .u8 m0.1]:=by simp
    generalize Td (m0::mm)=L at *
    simp -implicitDefEqProofs only[SP,WP,oa,sevalprocAttr,Ge,e1,t2,t3,a1,a2,r0,r1,q0,hmt,lm',z1,i0,hap,xa,Qa,AV.cut,pa,Sa,UE]
    subst hQ
    refine⟨false,bs++[m0.1],by rw[hbm],by simp[hlen],by simp,?_,?_⟩
    ·intro b hb
     rcases List.mem_append.1 hb with h | h
     ·exact hby b h
     ·simp at h;subst h;exact hb0
    ·rw[hs,hm']
     cases wg p.parts q.parts m (i+1) <;> simp
  ·rintro t ⟨nl,bs,rfl,hlen,hnl,hby,hs⟩
   rw[Nat.sub_self,wg] at hs
   have e1:decide ((n:Int) < (n:Int))=false:=mb (by omega)
   generalize hQ:(fun r:Ex×St=>r.1.stop=true∧_)=QQ
   simp -implicitDefEqProofs only[SX,sevalprocAttr,Ge,e1,UE]
   subst hQ
   exact⟨rfl,_,_,.inr ⟨nl,bs,rfl,by simp[Tr.ba],hnl,by rw[hs];simp,hlen,hby⟩⟩
 obtain⟨r,h1,E,H,h2⟩:=vd hloop
 have h1':Eb (fa (ga (za (fun _=>none) 8) Ge) (xa 1 [3,4,8,34,35])) wa ⟨((((Tr.lf.set 35 (.pv (.int .i64 0))).set 34 (.pv (i64 n))).set 8 (.uq 0 true 1 [])).set 4 (.pv (.rp [Q,i64 q.first] 0))).set 3 (.pv (.rp [P,i64 p.first] 0)),[.tok 1 0 true]⟩=some r:=h1
 have d0:decide ((n:Int) < 0)=false:=mb (by omega)
 have d1:decide ((n:Int) > (if (q.parts.length:Int) < (p.parts.length:Int) then (q.parts.length:Int) else (p.parts.length:Int)))=false:=mb (by split <;> omega)
 have hz:(0 < 1)=True:=by simp
 have r2:∀ H (x y:PV),na H true 2 (.pv (.rp [x,y] 0))=some (.pv (.agg [x,y])):=fun H x y=>rfl
 have r0:∀ H (x y:PV),na H false 1 (.pv (.rp [x,y] 0))=some (.pv x):=fun H x y=>rfl
 have q0:∀ H (x y:PV),place H 0 (.pv (.rp [x,y] 0))=some (.pv (.rp [x,y] 0)):=fun H x y=>rfl
 rcases h2 with⟨rfl,h6,h7,hnone⟩ | ⟨nl,bs,rfl,h8',hnl,hsome,hlen,hby⟩
 ·refine⟨fun _=> ?_,fun bs hbs=>by rw[hnone] at hbs;cases hbs⟩
  simp -implicitDefEqProofs only[Zf,SX,sevalprocAttr,ri,Tc,hP1,hQ1,r2,r0,q0,hb1,hb2,lP,lQ,Un,zd,d0,d1,ff,hz,xa,Qa,AV.cut,pa,Sa,h1',h6,h7]
 ·refine⟨fun hn=>(by rw[hsome] at hn;cases hn),fun bs' hbs=> ?_⟩
  rw[hsome] at hbs;injection hbs with hbs;subst hbs
  cases nl with
  |true=>
   have:=hnl rfl;subst this
   refine⟨.qa,?_,.inl ⟨rfl,rfl⟩,hlen,hby⟩
   simp -implicitDefEqProofs only[Zf,SX,sevalprocAttr,ri,Tc,hP1,hQ1,r2,r0,q0,hb1,hb2,lP,lQ,Un,zd,d0,d1,ff,hz,xa,Qa,AV.cut,pa,Sa,h1',h8']
  |false=>
   refine⟨.lit 1 (bs.map (PV.int .u8)),?_,.inr rfl,hlen,hby⟩
   simp -implicitDefEqProofs only[Zf,SX,sevalprocAttr,ri,Tc,hP1,hQ1,r2,r0,q0,hb1,hb2,lP,lQ,Un,zd,d0,d1,ff,hz,xa,Qa,AV.cut,pa,Sa,h1',h8']
end Go.AM.B1
namespace Go.AM.B1
open Go.AM Go.AM.So
def Ba:List (List (Int×Int))→Int
 | []=>1
 |l::r=>Ba r * Dc 0 l
theorem Ue:∀ {ls:List (List (Int×Int))},(∀ l∈ls,Jd l)→1≤Ba ls
 | [],_=>by simp[Ba]
 |l::r,h=>by
  have h1:=Ue (ls:=r) fun x hx=>h x (by simp[hx])
  have h2:=(Gg (h l (by simp))).1
  rw[Ba]
  have:=Int.mul_le_mul h1 h2 (by omega) (by omega);omega
theorem Gu:∀ (ls:List (List (Int×Int))) (n:Int),(∀ l∈ls,Jd l)→1≤n→n≤1073741825→Fm n ls=if 1073741825 < n * Ba ls then 1073741825 else n * Ba ls
 | [],n,_,h1,h2=>by rw[Fm,Ba,Int.mul_one,if_neg (by omega)]
 |l::r,n,h,h1,h2=>by
  have hs:=Gg (h l (by simp))
  have hm:=vw h1 h2 hs.1 hs.2
  have hp:=Ue (ls:=r) fun x hx=>h x (by simp[hx])
  have e:n * (Ba r * Dc 0 l)=(n * Dc 0 l) * Ba r:=by rw[Int.mul_comm (Ba r),Int.mul_assoc]
  rw[Fm,Ba,e]
  by_cases hc:1073741825 < n * Dc 0 l
  ·rw[if_pos hc,Gu r _ (fun x hx=>h x (by simp[hx])) (by omega) (by omega)]
   have h3:n * Dc 0 l * 1≤n * Dc 0 l * Ba r:=Int.mul_le_mul_of_nonneg_left hp (by omega)
   rw[if_pos (show 1073741825 < n * Dc 0 l * Ba r by omega)]
   split
   ·rfl
   ·have h4:1073741825 * 1≤1073741825 * Ba r:=Int.mul_le_mul_of_nonneg_left hp (by omega)
    omega
  ·rw[if_neg hc,Gu r _ (fun x hx=>h x (by simp[hx])) (by omega) (by omega)]
theorem Mg.prod {s:ec} (h:Mg s):Fm 1 s.parts=Ba s.parts∧Ba s.parts≤1073741824:=by
 have h1:=Gu s.parts 1 h.parts (by omega) (by omega)
 have h2:=h.last
 have h3:=h.f0
 unfold Jg at h2
 rw[Int.one_mul] at h1
 split at h1
 ·omega
 ·exact⟨h1,by omega⟩
theorem Mg.Jg {s:ec} (h:Mg s):B1.Jg s=s.first+Ba s.parts - 1:=by
 unfold B1.Jg;rw[h.prod.1]
theorem Kk {ls:List (List (Int×Int))} (h:∀ l∈ls,Jd l) (i:Nat):Ba (ls.drop i)≤Ba ls:=by
 induction ls generalizing i with
 |nil=>simp
 |cons l r ih=>
  cases i with
  |zero=>simp
  |succ i=>
   rw[List.drop_succ_cons,Ba]
   have h1:=ih (fun x hx=>h x (by simp[hx])) i
   have h2:=(Gg (h l (by simp))).1
   have hp:=Ue (ls:=r) fun x hx=>h x (by simp[hx])
   have:Ba r * 1≤Ba r * Dc 0 l:=Int.mul_le_mul_of_nonneg_left h2 (by omega)
   omega
def Um (l:List Int) (fl:Nat) (nl:Bool):aa:= .seq 1 false (Aa l) fl nl
section
variable {A:List aa} {id n fl:Nat} {nl:Bool} {l:List Int} (hg:A[id]? =some (Um l fl nl)) (hn:n=l.length) (hf:fl≤n)
include hg hn
theorem LA (hf:fl≤n) {i:Int} {k:Nat} (hi:i=(k:Int)) (hk:k < n):ma A 1 (.own id n) i=some (.ic id n k):=by
 have:=Ra l
 subst hi
 simp only[ma,hg,Um]
 rw[if_pos (by refine⟨trivial,?_,?_⟩ <;> first | (unfold Ca;omega) | (unfold Dg;omega))]
 simp
theorem Sz {k:Nat} (hk:k < n) (v:Int):Pa A 1 (.ic id n k) (.pv (i64 v))=some (A.set id (Um (l.set k v) n nl)):=by
 have hl:=Ra l
 have hc:(AV.pv (i64 v)).cells=[.pv (i64 v)]:=rfl
 simp only[Pa,hg,Um,hc]
 rw[if_pos ⟨rfl,rfl⟩,if_pos ⟨by omega,by omega⟩,oa,oa,xh]
theorem uM (d:Nat):Ab A (d+1) (.own id n)=some (if nl then .qa else .lit 1 (l.map i64)):=by
 have hl:=Ra l
 subst hn
 simp only[Ab,hg,Um]
 have hm:Va (Ab A d) (Aa l)=some (l.map i64):=by rw[Sr,yE]
 have hck:∀ l:List Int,chunk 1 false l.length (l.map i64)=l.map i64:=by
  intro l
  induction l with
  |nil=>rfl
  |cons a l ih=>simp only[List.map_cons,List.length_cons,chunk,Bool.false_eq_true,if_false,List.headD_cons,List.drop_succ_cons,List.drop_zero];rw[ih]
 rw[if_pos ⟨by omega,by rfl⟩,hm]
 cases nl with
 |true=>rfl
 |false=>simp only[Bool.false_eq_true,if_false,Option.map_some,hck]
end
theorem oH (l:List Int) (fl:Nat) (nl:Bool) (n:Nat):pa n (Um l fl nl)=some (Um l fl nl):=by
 have:(Aa l).all (AV.Wc n deep)=true:=by
  rw[List.all_eq_true]
  intro v hv
  obtain⟨p,_,rfl⟩:=List.mem_map.1 hv
  rfl
 simp[pa,Um,this]
def Ej (ls:List (List (Int×Int))) (i:Nat):List Int:=(List.range (ls.length+1)).map fun j=>if i < j then Ba (ls.drop j) else 0
theorem zt (ls:List (List (Int×Int))) (i:Nat):(Ej ls i).length=ls.length+1:=by simp[Ej]
theorem qL (ls:List (List (Int×Int))) (i:Nat) (hi:i < ls.length):(Ej ls (i+1)).set (i+1) (Ba (ls.drop (i+1)))=Ej ls i:=by
 apply List.ext_getElem
 ·simp[Ej]
 ·intro j h1 h2
  rw[List.getElem_set]
  simp only[Ej,List.getElem_map,List.getElem_range]
  by_cases hj:i+1=j
  ·subst hj;simp
  ·rw[if_neg hj]
   by_cases h:i+1 < j
   ·rw[if_pos h,if_pos (by omega)]
   ·rw[if_neg h,if_neg (by omega)]
def Mh (ls:List (List (Int×Int))):List Int:=(List.range (ls.length+1)).map fun j=>Ba (ls.drop j)
theorem dI (ls:List (List (Int×Int))):(Ej ls 0).set 0 (Ba ls)=Mh ls:=by
 apply List.ext_getElem
 ·simp[Ej,Mh]
 ·intro j h1 h2
  rw[List.getElem_set]
  simp only[Ej,Mh,List.getElem_map,List.getElem_range]
  by_cases hj:0=j
  ·subst hj;simp
  ·rw[if_neg hj,if_pos (by omega)]
abbrev LJ (row:List PV) (m:Nat) (n i:Int):Tr:=(((Tr.lf.set 5 (.pv (i64 i))).set 4 (.pv (i64 n))).set 3 (.own 0 m)).set 1 (.pv (.rp row 0))
theorem ZC {e:PV} {s:ec} {P:PV} {ps:List PV} (h:ug e s P ps) (ta:Mg s):cj [e]=some (.lit 1 ((Mh s.parts).map i64)):=by
 obtain⟨hP1,hP2⟩:=h.yw
 have heq:=h.eq
 subst heq
 have hP:=h.parts
 have lP:=hP.Mc
 have h8:=ta.hi
 have hpr:=ta.prod.2
 have hloop:ke (fun r=>∃ E,r=(.exit 0,⟨E,[Um (Ej s.parts 0) (s.parts.length+1) false]⟩)∧E.get 3= .own 0 (s.parts.length+1)∧E.get 4= .pv (i64 (Ba s.parts)))
  (Eb (fa (ga (za (fun _=>none) 8) Uf) (xa 1 [1,3,4,5])) wa ⟨LJ [P,i64 s.first] (s.parts.length+1) 1 s.parts.length,[Um (Ej s.parts s.parts.length) 0 false]⟩):=by
  refine Wa (aw (g:=fa (ga (za (fun _=>none) 8) Uf) (xa 1 [1,3,4,5]))
   (fun i t=>∃ fl,i≤s.parts.length∧t=⟨LJ [P,i64 s.first] (s.parts.length+1) (Ba (s.parts.drop i)) i,[Um (Ej s.parts i) fl false]⟩∧fl≤s.parts.length+1∧(i < s.parts.length∨s.parts.length=0→fl=s.parts.length+1∨s.parts.length=0))
   wa s.parts.length _ (by unfold wa;omega) ⟨0,Nat.le_refl _,by rw[List.drop_length];rfl,by omega,fun h=>by omega⟩ ?_) (fun r h=>h.2)
  rintro i t ⟨fl,hi,rfl,hfl,hfl2⟩
  cases i with
  |zero=>
   have h1:=ta.lo
   have:fl=s.parts.length+1:=by rcases hfl2 (.inl (by omega)) with h | h <;> omega
   subst this
   have e1:decide (((0:Nat):Int) > 0)=false:=by decide
   generalize hQ:LQ _ _ _=Q
   simp -implicitDefEqProofs only[SX,sevalprocAttr,-List.reduceReplicate,Uf,e1,LJ]
   subst hQ
   exact⟨_,rfl,by simp[Tr.ba],by simp[Tr.ba]⟩
  |succ i=>
   have e1:decide (((i+1:Nat):Int) > 0)=true:=Za (by omega)
   have t1:IntKind.i64.wrap (((i+1:Nat):Int) - 1)=(i:Int):=by rw[Da (by omega)];omega
   have hg:[Um (Ej s.parts (i+1)) fl false][0]? =some (Um (Ej s.parts (i+1)) fl false):=rfl
   have a1:=LA hg (n:=s.parts.length+1) (zt _ _).symm hfl (i:=((i+1:Nat):Int)) rfl (by omega)
   have s1:=Sz hg (n:=s.parts.length+1) (zt _ _).symm (k:=i+1) (by omega) (Ba (s.parts.drop (i+1)))
   rw[List.set_cons_zero,qL s.parts i (by omega)] at s1
   obtain⟨v,hv,hpt,_⟩:=hP.mg (i:=i) (by omega) []
   have a2:=hP.Bz hv
   have hpo:=ta.parts s.parts[i] (List.getElem_mem (by omega))
   have hss:=Ps v s.parts[i] hpt.is hpt.sz hpo.2
   have hd:s.parts.drop i=s.parts[i]::s.parts.drop (i+1):=List.drop_eq_getElem_cons (by omega)
   have hpd:Ba (s.parts.drop i)=Ba (s.parts.drop (i+1)) * Dc 0 s.parts[i]:=by rw[hd,Ba]
   have hle:=Kk ta.parts i
   have hpos:=Ue (ls:=s.parts.drop i) fun x hx=>ta.parts x (List.mem_of_mem_drop hx)
   rw[hpd] at hle hpos
   generalize s.parts[i]=l at *
   have t3:IntKind.i64.wrap (Ba (s.parts.drop (i+1)) * Dc 0 l)=Ba (s.parts.drop (i+1)) * Dc 0 l:=Da (by omega)
   have r0:∀ H (x y:PV),na H false 1 (.pv (.rp [x,y] 0))=some (.pv x):=fun H x y=>rfl
   have r1:∀ H (x:PV),na H false 1 (.pv (.rp [x] 0))=some (.pv x):=fun H x=>rfl
   have q0:∀ H (x y:PV),place H 0 (.pv (.rp [x,y] 0))=some (.pv (.rp [x,y] 0)):=fun H x y=>rfl
   have hcut:∀ l' fl',Va (pa 1) [Um l' fl' false]=some [Um l' fl' false]:=fun l' fl'=>by simp[Va,oH]
   have hz:(0 < 1)=True:=by simp
   have htk:∀ o:aa,[o].take 1=[o]:=fun o=>rfl
   generalize hQ:LQ _ _ _=Q
   simp -implicitDefEqProofs only[SP,WP,oa,sevalprocAttr,-List.reduceReplicate,Uf,e1,t1,t3,a1,s1,a2,hss,r0,r1,q0,hcut,hz,htk,xa,Qa,AV.cut,Sa,LJ]
   subst hQ
   exact⟨i,by omega,s.parts.length+1,by omega,by rw[hpd],by omega,fun _=> .inl rfl⟩
 obtain⟨r,h1,E,rfl,hE3,hE4⟩:=vd hloop
 have h1':Eb (fa (ga (za (fun _=>none) 8) Uf) (xa 1 [1,3,4,5])) wa ⟨(((Tr.lf.set 5 (.pv (i64 s.parts.length))).set 4 (.pv (.int .i64 1))).set 3 (.own 0 (s.parts.length+1))).set 1 (.pv (.rp [P,i64 s.first] 0)),[Um (Ej s.parts s.parts.length) 0 false]⟩=_:=h1
 have hz0:aa.seq 1 false (zi [PV.int .i64 0] (s.parts.length+1)) 0 false=Um (Ej s.parts s.parts.length) 0 false:=by
  rw[fC,Um]
  congr 2
  apply List.ext_getElem
  ·simp[Ej]
  ·intro j hj1 hj2
   simp at hj1
   simp only[Ej,List.getElem_replicate,List.getElem_map,List.getElem_range]
   rw[if_neg (by omega)]
 have t1:IntKind.i64.wrap ((s.parts.length:Int)+1)=((s.parts.length+1:Nat):Int):=Da (by omega)
 have e2:(0≤((s.parts.length+1:Nat):Int))=True:=by simp;omega
 have e3:(((s.parts.length+1:Nat):Int)≤((s.parts.length+1:Nat):Int))=True:=by simp
 have e4:Cb (s.parts.length+1) 8:=by unfold Cb;omega
 have hg:[Um (Ej s.parts 0) (s.parts.length+1) false][0]? =some (Um (Ej s.parts 0) (s.parts.length+1) false):=rfl
 have a1:=LA hg (n:=s.parts.length+1) (zt _ _).symm (Nat.le_refl _) (i:=0) (k:=0) rfl (by omega)
 have s1:=Sz hg (n:=s.parts.length+1) (zt _ _).symm (k:=0) (by omega) (Ba s.parts)
 rw[List.set_cons_zero,dI] at s1
 have hpv:=uM (A:=[Um (Mh s.parts) (s.parts.length+1) false]) (id:=0) (n:=s.parts.length+1) rfl (by simp[Mh]) 5
 rw[if_neg (by simp)] at hpv
 have r0:∀ H (x y:PV),na H false 1 (.pv (.rp [x,y] 0))=some (.pv x):=fun H x y=>rfl
 have q0:∀ H (x y:PV),place H 0 (.pv (.rp [x,y] 0))=some (.pv (.rp [x,y] 0)):=fun H x y=>rfl
 have hcut:∀ l' fl',Va (pa 1) [Um l' fl' false]=some [Um l' fl' false]:=fun l' fl'=>by simp[Va,oH]
 have hz:(0 < 1)=True:=by simp
 have htk:∀ o:aa,[o].take 1=[o]:=fun o=>rfl
 generalize s.parts.length+1=m at *
 simp -implicitDefEqProofs only[cj,SP,WP,oa,sevalprocAttr,-List.reduceReplicate,eo,Tc,hP1,r0,q0,lP,t1,e2,e3,eq_true e4,hz0,hcut,hz,htk,xa,Qa,AV.cut,h1',hE3,hE4,a1,s1,hpv,Sa]
end Go.AM.B1
namespace Go.AM.B1
open Go.AM Go.AM.So
def dh:List (List (Int×Int))→List Int→Int→Option Int
 |l::r,x::b,k=>if (me x 0 l).2=true then dh r b (k+(me x 0 l).1 * Ba r) else none
 |_,_,k=>some k
def zj (s:ec) (b:List Int):Option Int:=if b.length=s.parts.length then dh s.parts b 0 else none
theorem Bn {top x:Int}:∀ {l:List (Int×Int)} {last n:Int},Ka top last l=true→(me x n l).2=true→n≤(me x n l).1∧(me x n l).1 < n+Dc 0 l
 | [],last,n,_,h=>by simp[me] at h
 |p::l,last,n,hv,h=>by
  obtain⟨h1,h2,h3,h4,h5⟩:=Zc hv
  have hs:=(En h5).1
  rw[me] at h ⊢
  rw[Dc,mw]
  by_cases c1:x < p.1
  ·rw[if_pos c1] at h;cases h
  ·rw[if_neg c1] at h ⊢
   by_cases c2:x≤p.2
   ·rw[if_pos c2];simp only;omega
   ·rw[if_neg c2] at h ⊢
    have:=Bn h5 h;omega
theorem sJ {l:List (Int×Int)} (h:Ka 255 (-2) l=true):yu l=l:=by unfold yu;rw[if_pos h]
theorem YG (H:List aa) {sz k:Nat} {es:List PV} (hz:0 < sz) (hk:k≤es.length):Ad H sz (.pv (.lit sz es)) (some (k:Int)) none=some (.pv (.lit sz (es.drop k))):=by
 simp only[Ad,Option.getD_some,Option.getD_none]
 rw[if_pos ⟨hz,trivial,by omega,by omega,by omega⟩]
 simp
theorem Xp (b:List Int) (k:Int):dh [] b k=some k:=by cases b <;> rfl
abbrev aF (row:List PV) (B S:PV) (n i k:Int):Tr:=(((((Tr.lf.set 26 (.pv (i64 i))).set 25 (.pv (i64 n))).set 24 (.pv S)).set 6 (.pv (i64 k))).set 2 (.pv (.rp row 0))).set 1 (.pv B)
structure ej (B:PV) (bs:List Int):Prop where
 is:Ah 1 B (bs.map (PV.int .u8))
 iw:∀ b∈bs,0≤b∧b≤255
theorem ej.Mc {B:PV} {bs:List Int} (h:ej B bs) (H:List aa):Go.AM.Mc H 0 (.pv B)=some bs.length:=by
 rw[h.is.len];simp
theorem ej.one {B:PV} {bs:List Int} (h:ej B bs):(AV.pv B).one=true:=by
 rcases h.is with⟨h,_⟩ | h <;> rw[h] <;> rfl
theorem ej.mg {B:PV} {bs:List Int} (h:ej B bs) {i:Nat} (hi:i < bs.length) (H:List aa):ma H 1 (.pv B) (i:Int)=some (.pv (.rp [.int .u8 bs[i]] 0)):=by
 have hl:=h.is.lit (i:=i) (by simpa using hi)
 rw[hl]
 simp only[ma]
 rw[if_pos (by unfold Ca;simp;omega),Int.toNat_natCast,List.getElem?_map,List.getElem?_eq_getElem hi];rfl
theorem OA {e:PV} {s:ec} {P:PV} {ps:List PV} (h:ug e s P ps) {B:PV} {bs:List Int} (hB:ej B bs) (ta:Mg s):
 (∀ k,zj s bs=some k→Kg [e,B]=some (.bc [i64 k,.bool true]))∧(zj s bs=none→Kg [e,B]=some (.bc [i64 0,.bool false])):=by
 obtain⟨b1,hb1,hb1'⟩:=pj h
 have:=hb1'.2 ta
 subst this
 have hst:=ZC h ta
 obtain⟨hP1,hP2⟩:=h.yw
 have heq:=h.eq
 subst heq
 have hP:=h.parts
 have lP:=hP.Mc
 have lB:=hB.Mc
 have hB1:=hB.one
 have h8:=ta.hi
 have hpr:=ta.prod.2
 have r2:∀ H (x y:PV),na H true 2 (.pv (.rp [x,y] 0))=some (.pv (.agg [x,y])):=fun H x y=>rfl
 have r0:∀ H (x y:PV),na H false 1 (.pv (.rp [x,y] 0))=some (.pv x):=fun H x y=>rfl
 have r1:∀ H (x:PV),na H false 1 (.pv (.rp [x] 0))=some (.pv x):=fun H x=>rfl
 have q0:∀ H (x y:PV),place H 0 (.pv (.rp [x,y] 0))=some (.pv (.rp [x,y] 0)):=fun H x y=>rfl
 by_cases hlen:bs.length=s.parts.length
 ·have hrk:zj s bs=dh s.parts bs 0:=by unfold zj;rw[if_pos hlen]
  have hsl:∀ H,Ad H 1 (.pv (.lit 1 ((Mh s.parts).map i64))) (some 1) none=some (.pv (.lit 1 (((Mh s.parts).map i64).drop 1))):=fun H=>YG H (k:=1) (by omega) (by simp[Mh])
  have hdl:(((Mh s.parts).map i64).drop 1).length=s.parts.length:=by simp[Mh]
  have hde:∀ i,i < s.parts.length→(((Mh s.parts).map i64).drop 1)[i]? =some (i64 (Ba (s.parts.drop (i+1)))):=by
   intro i hi
   rw[List.getElem?_drop,List.getElem?_map,Mh,List.getElem?_map,List.getElem?_range (by omega),Nat.add_comm 1 i];rfl
  generalize ((Mh s.parts).map i64).drop 1=S at *
  have hloop:ke (fun r=>∃ E,(r=(.ret,⟨E,[]⟩)∧E.get 4= .pv (i64 0)∧E.get 5= .pv (.bool false)∧dh s.parts bs 0=none)∨(∃ k,r=(.exit 0,⟨E,[]⟩)∧E.get 6= .pv (i64 k)∧dh s.parts bs 0=some k))
   (Eb (fa (ga (za (fun _=>none) 8) yf) (xa 0 [1,2,6,24,25,26])) wa ⟨aF [P,i64 s.first] B (.lit 1 S) s.parts.length 0 0,[]⟩):=by
   refine Wa (Te (g:=fa (ga (za (fun _=>none) 8) yf) (xa 0 [1,2,6,24,25,26]))
    (fun i t=>∃ k,t=⟨aF [P,i64 s.first] B (.lit 1 S) s.parts.length i k,[]⟩∧0≤k∧k+Ba (s.parts.drop i)≤Ba s.parts∧dh s.parts bs 0=dh (s.parts.drop i) (bs.drop i) k)
    s.parts.length (by unfold wa;omega) _ ⟨0,rfl,by omega,by simp,rfl⟩ ?_ ?_) (fun r h=>h.2)
   ·rintro i t hi ⟨k,rfl,hk0,hk1,hs⟩
    obtain⟨v,hv,hpt,_⟩:=hP.mg hi []
    have a2:=hP.Bz hv
    have hpo:=ta.parts s.parts[i] (List.getElem_mem hi)
    have hib:i < bs.length:=by omega
    have a3:=hB.mg hib
    have hbr:=hB.iw bs[i] (List.getElem_mem hib)
    have hd:s.parts.drop i=s.parts[i]::s.parts.drop (i+1):=List.drop_eq_getElem_cons hi
    have hdb:bs.drop i=bs[i]::bs.drop (i+1):=List.drop_eq_getElem_cons hib
    have hrr:=Dr v s.parts[i] hpt.is hpt.sz bs[i]
    rw[sJ hpo.2] at hrr
    have hrb:=Bn (x:=bs[i]) (n:=0) hpo.2
    rw[hd,Ba] at hk1
    rw[hd,hdb,dh] at hs
    have hle:=Kk ta.parts (i+1)
    have hpos:=Ue (ls:=s.parts.drop (i+1)) fun x hx=>ta.parts x (List.mem_of_mem_drop hx)
    have hsz:=Gg hpo
    generalize s.parts[i]=l at *
    generalize bs[i]=x at *
    have e1:decide ((i:Int) < (s.parts.length:Int))=true:=Za (by omega)
    have t2:=Bb hi (by unfold maxLen;omega)
    have t3:IntKind.i64.wrap x=x:=Da (by omega)
    have a1:∀ H,ma H 1 (.pv (.lit 1 S)) (i:Int)=some (.pv (.rp [i64 (Ba (s.parts.drop (i+1)))] 0)):=fun H=>by
     simp only[ma]
     rw[if_pos (by unfold Ca;simp;omega),Int.toNat_natCast,hde i hi];rfl
    obtain⟨⟨d,is⟩,hrk2⟩:∃ r,r=me x 0 l:=⟨_,rfl⟩
    rw[← hrk2] at hrr hs hrb
    generalize hQ:LN _ _ i=Q
    cases is with
    |false=>
     simp only[Bool.false_eq_true,if_false] at hs
     simp -implicitDefEqProofs only[SX,sevalprocAttr,-List.reduceReplicate,yf,e1,a1,a2,a3,r0,r1,q0,t3,hrr,aF]
     subst hQ
     exact⟨_,.inl ⟨rfl,by simp[Tr.ba],by simp[Tr.ba],hs⟩⟩
    |true=>
     simp only[if_true] at hs
     have hb2:=hrb rfl
     simp only at hb2
     have hmul:d * Ba (s.parts.drop (i+1))+Ba (s.parts.drop (i+1))≤Ba (s.parts.drop (i+1)) * Dc 0 l:=by
      have h1:(d+1) * Ba (s.parts.drop (i+1))≤Dc 0 l * Ba (s.parts.drop (i+1)):=Int.mul_le_mul_of_nonneg_right (by omega) (by omega)
      rw[Int.add_mul,Int.one_mul,Int.mul_comm (Dc 0 l)] at h1
      exact h1
     have hm0:0≤d * Ba (s.parts.drop (i+1)):=Int.mul_nonneg (by omega) (by omega)
     have t4:IntKind.i64.wrap (d * Ba (s.parts.drop (i+1)))=d * Ba (s.parts.drop (i+1)):=Da (by omega)
     have t5:IntKind.i64.wrap (k+d * Ba (s.parts.drop (i+1)))=k+d * Ba (s.parts.drop (i+1)):=Da (by omega)
     simp -implicitDefEqProofs only[SX,sevalprocAttr,-List.reduceReplicate,yf,e1,t2,t4,t5,a1,a2,a3,r0,r1,q0,t3,hrr,xa,Qa,AV.cut,Sa,aF]
     subst hQ
     exact⟨_,rfl,by omega,by omega,hs⟩
   ·rintro t ⟨k,rfl,hk0,hk1,hs⟩
    rw[List.drop_length,Xp] at hs
    have e1:decide ((s.parts.length:Int) < (s.parts.length:Int))=false:=mb (by omega)
    generalize hQ:(fun r:Ex×St=>r.1.stop=true∧_)=Q
    simp -implicitDefEqProofs only[SX,sevalprocAttr,-List.reduceReplicate,yf,e1,aF]
    subst hQ
    exact⟨rfl,_,.inr ⟨k,rfl,by simp[Tr.ba],hs⟩⟩
  obtain⟨r,h1,E,h2⟩:=vd hloop
  have h1':Eb (fa (ga (za (fun _=>none) 8) yf) (xa 0 [1,2,6,24,25,26])) wa ⟨(((((Tr.lf.set 26 (.pv (.int .i64 0))).set 25 (.pv (i64 s.parts.length))).set 24 (.pv (.lit 1 S))).set 6 (.pv (.int .i64 0))).set 2 (.pv (.rp [P,i64 s.first] 0))).set 1 (.pv B),[]⟩=some r:=h1
  have d1:((bs.length:Int) != (s.parts.length:Int))=false:=by rw[hlen];simp
  rw[hrk]
  rcases h2 with⟨rfl,h4,h5,hn⟩ | ⟨k,rfl,h6,hk⟩
  ·refine⟨fun k hk=>by (rw[hn] at hk;cases hk),fun _=> ?_⟩
   simp -implicitDefEqProofs only[Kg,SX,sevalprocAttr,-List.reduceReplicate,Nj,Tc,hP1,hB1,r2,r0,q0,hb1,lP,lB,d1,hst,hsl,hdl,xa,Qa,AV.cut,Sa,h1',h4,h5]
  ·refine⟨fun k' hk'=> ?_,fun hn=>by (rw[hk] at hn;cases hn)⟩
   obtain rfl:k=k':=Option.some.inj (hk.symm.trans hk')
   simp -implicitDefEqProofs only[Kg,SX,sevalprocAttr,-List.reduceReplicate,Nj,Tc,hP1,hB1,r2,r0,q0,hb1,lP,lB,d1,hst,hsl,hdl,xa,Qa,AV.cut,Sa,h1',h6]
 ·have d1:((bs.length:Int) != (s.parts.length:Int))=true:=by
   have:(bs.length:Int)≠(s.parts.length:Int):=by omega
   simp[this]
  have hrk:zj s bs=none:=by unfold zj;rw[if_neg hlen]
  refine⟨fun k hk=>by (rw[hrk] at hk;cases hk),fun _=> ?_⟩
  simp -implicitDefEqProofs only[Kg,SX,sevalprocAttr,-List.reduceReplicate,Nj,Tc,hP1,hB1,r2,r0,q0,hb1,lP,lB,d1]
end Go.AM.B1
namespace Go.AM.B1
open Go.AM Go.AM.So
abbrev oE (bs:List Int):List PV:=bs.map (PV.int .u8)
abbrev lJ (row:List PV) (P:PV) (n i:Int) (tk:Nat) (es:List PV):Tr:=((((Tr.lf.set 19 (.pv (i64 i))).set 18 (.pv (i64 n))).set 17 (.pv P)).set 5 (.uq tk false 1 es)).set 2 (.pv (.rp row 0))
theorem UB {e:PV} {s:ec} {P:PV} {ps:List PV} (h:ug e s P ps) {B:PV} {bs:List Int} (hB:ej B bs) (ta:Mg s) (hlen:bs.length≤s.parts.length):
 ∃ k,Ih [e,B]=some (i64 k):=by
 have hh:=h
 obtain⟨hP1,hP2⟩:=h.yw
 have heq:=h.eq
 subst heq
 have hP:=h.parts
 have lP:=hP.Mc
 have lB:=hB.Mc
 have hB1:=hB.one
 have h8:=ta.hi
 have hPl:P= .lit 1 ps:=hP.is.lit (i:=0) (by rw[hP.len];exact ta.lo)
 have r2:∀ H (x y:PV),na H true 2 (.pv (.rp [x,y] 0))=some (.pv (.agg [x,y])):=fun H x y=>rfl
 have r0:∀ H (x y:PV),na H false 1 (.pv (.rp [x,y] 0))=some (.pv x):=fun H x y=>rfl
 have r01:∀ H (x y:PV),na H false 1 (.pv (.rp [x,y] 1))=some (.pv y):=fun H x y=>rfl
 have r1:∀ H (x:PV),na H false 1 (.pv (.rp [x] 0))=some (.pv x):=fun H x=>rfl
 have q0:∀ H (x y:PV),place H 0 (.pv (.rp [x,y] 0))=some (.pv (.rp [x,y] 0)):=fun H x y=>rfl
 have q1:∀ H (x y:PV),place H 1 (.pv (.rp [x,y] 0))=some (.pv (.rp [x,y] 1)):=fun H x y=>rfl
 have hsl:∀ H,Ad H 1 (.pv P) (some (bs.length:Int)) none=some (.pv (.lit 1 (ps.drop bs.length))):=fun H=>by rw[hPl];exact YG H (by omega) (by rw[hP.len];exact hlen)
 have hdl:(ps.drop bs.length).length=s.parts.length - bs.length:=by rw[List.length_drop,hP.len]
 have hap0:Hc [.tok 1 0 false] false .uq 1 false 1 (.uq 0 false 1 []) (.pv B)=some (.uq 0 false 1 (oE bs),[.tok 1 bs.length false]):=by
  have he:Oe 1 (.pv B)=some (oE bs):=by
   rcases hB.is with⟨rfl,hbs⟩ | rfl
   ·have:oE bs=[]:=hbs
    rw[this];rfl
   ·simp[Oe,oE]
  simp only[Hc,Bool.false_eq_true,if_false,List.getElem?_cons_zero,he,Option.bind_some,List.length_nil,Nat.zero_add,List.nil_append]
  rw[if_pos ⟨trivial,trivial,trivial,by unfold Cb;simp[oE];omega⟩]
  simp[oE]
 have hloop:ke (fun r=>∃ E H bs',r=(.exit 0,⟨E,H⟩)∧E.get 5= .uq 0 false 1 (oE bs')∧E.get 2= .pv (.rp [P,i64 s.first] 0)∧∀ b∈bs',0≤b∧b≤255)
  (Eb (fa (ga (za (fun _=>none) 8) Mf) (xa 1 [2,5,17,18,19])) wa ⟨lJ [P,i64 s.first] (.lit 1 (ps.drop bs.length)) ((s.parts.length - bs.length:Nat):Int) 0 0 (oE bs),[.tok 1 bs.length false]⟩):=by
  refine Wa (Te (g:=fa (ga (za (fun _=>none) 8) Mf) (xa 1 [2,5,17,18,19]))
   (fun i t=>∃ bs',t=⟨lJ [P,i64 s.first] (.lit 1 (ps.drop bs.length)) ((s.parts.length - bs.length:Nat):Int) i 0 (oE bs'),[.tok 1 bs'.length false]⟩∧bs'.length=bs.length+i∧∀ b∈bs',0≤b∧b≤255)
   (s.parts.length - bs.length) (by unfold wa;omega) _ ⟨bs,rfl,rfl,hB.iw⟩ ?_ ?_) (fun r h=>h.2)
  ·rintro i t hi ⟨bs',rfl,hl',hr'⟩
   obtain⟨v,hv,hPl',hpt⟩:=hP.get (i:=bs.length+i) (by omega)
   have hpo:=ta.parts _ (List.getElem_mem (show bs.length+i < s.parts.length by omega))
   generalize s.parts[bs.length+i]=l at *
   obtain⟨p0,l',rfl⟩:=List.exists_cons_of_ne_nil hpo.1
   have hvl:v= .lit 2 (Td (p0::l')):=hpt.is.lit (i:=0) (by simp)
   have hcl:v.cells=[v]:=by rw[hvl];rfl
   have e1:decide ((i:Int) < ((s.parts.length - bs.length:Nat):Int))=true:=Za (by omega)
   have t2:=Bb hi (by unfold maxLen;omega)
   have a1:∀ H,ma H 1 (.pv (.lit 1 (ps.drop bs.length))) (i:Int)=some (.pv (.rp [v] 0)):=fun H=>by
    simp only[ma]
    rw[if_pos (by have:=hP.len;unfold Ca;simp;omega),Int.toNat_natCast,List.getElem?_drop,hv]
    simp[hcl]
   have i0:∀ H,ma H 2 (.pv v) 0=some (.pv (.rp [i64 p0.1,i64 p0.2] 0)):=fun H=>by
    rw[hvl];exact Fp H (i:=0) (l:=p0::l') (by simp)
   have hb0:=en hpo.2 p0 (by simp)
   have t3:IntKind.u8.wrap p0.1=p0.1:=wrap_u8 (by omega)
   have hap:=Ts (A:=[.tok 1 bs'.length false]) (id:=0) (n:=bs'.length) (h:= .uq) (nl:=false) (bytes:=1) (es:=oE bs') rfl (by simp[oE]) (by unfold Cb;omega) (.int .u8 p0.1)
   rw[List.set_cons_zero] at hap
   have hbm:oE (bs'++[p0.1])=oE bs'++[.int .u8 p0.1]:=by simp[oE]
   clear hvl
   generalize hQ:LN _ _ i=Q
   simp -implicitDefEqProofs only[SP,WP,oa,sevalprocAttr,Mf,e1,t2,t3,a1,i0,r0,r1,q0,hap,xa,Qa,AV.cut,pa,Sa,lJ]
   subst hQ
   refine⟨bs'++[p0.1],by rw[hbm];simp,by simp;omega,?_⟩
   intro b hb
   rcases List.mem_append.1 hb with h | h
   ·exact hr' b h
   ·simp at h;subst h;omega
  ·rintro t ⟨bs',rfl,hl',hr'⟩
   have e1:decide (((s.parts.length - bs.length:Nat):Int) < ((s.parts.length - bs.length:Nat):Int))=false:=mb (by omega)
   generalize hQ:(fun r:Ex×St=>r.1.stop=true∧_)=Q
   simp -implicitDefEqProofs only[SX,sevalprocAttr,Mf,e1,lJ]
   subst hQ
   exact⟨rfl,_,_,bs',rfl,by simp[Tr.ba],by simp[Tr.ba],hr'⟩
 obtain⟨r,h1,E,H,bs',rfl,hE5,hE2,hr'⟩:=vd hloop
 have h1':Eb (fa (ga (za (fun _=>none) 8) Mf) (xa 1 [2,5,17,18,19])) wa ⟨((((Tr.lf.set 19 (.pv (.int .i64 0))).set 18 (.pv (i64 ((s.parts.length - bs.length:Nat):Int)))).set 17 (.pv (.lit 1 (ps.drop bs.length)))).set 5 (.uq 0 false 1 (oE bs))).set 2 (.pv (.rp [P,i64 s.first] 0)),[.tok 1 bs.length false]⟩=_:=h1
 have hBl:ej (.lit 1 (oE bs')) bs':=⟨.inr rfl,hr'⟩
 have hrk:=OA hh hBl ta
 have hrk':∃ k b,Kg [.agg [P,i64 s.first],.lit 1 (oE bs')]=some (.bc [i64 k,.bool b]):=by
  cases hk:zj s bs' with
  |some k=>exact⟨k,true,hrk.1 k hk⟩
  |none=>exact⟨0,false,hrk.2 hk⟩
 obtain⟨k,b,hk⟩:=hrk'
 refine⟨IntKind.i64.wrap (s.first+k),?_⟩
 clear hPl
 generalize oE bs=ub at *
 generalize oE bs'=ub' at *
 simp -implicitDefEqProofs only[Ih,SP,WP,oa,sevalprocAttr,yo,Tc,hP1,hB1,r2,r0,r01,q0,q1,lP,lB,hap0,hsl,hdl,xa,Qa,AV.cut,pa,Sa,h1',hE5,hE2,hk]
theorem Ld.mg {S:PV} {ss:List ec} {es:List PV} (hS:Ld S ss es) {i:Nat} (hi:i < ss.length):∃ P ps,ug (.agg [P,i64 ss[i].first]) ss[i] P ps∧∀ H,ma H 2 (.pv S) (i:Int)=some (.pv (.rp [P,i64 ss[i].first] 0)):=by
 obtain⟨e,P,ps,he,hSl,hsh⟩:=hS.get hi
 have heq:=hsh.eq
 subst heq
 refine⟨P,ps,hsh,fun H=> ?_⟩
 have hq:i < es.length:=by rw[hS.len];exact hi
 rw[hSl]
 simp only[ma]
 rw[if_pos (by unfold Ca;simp;omega),Int.toNat_natCast,he];rfl
def th (p q:ec):Bool:=(wg p.parts q.parts p.parts.length 0).isSome
abbrev Db (y:Bool) (a b:Int):aa:= .box [.pv (.bool y),.pv (i64 a),.pv (i64 b)]
abbrev Kf (P:PV) (f:Int):aa:= .box [.pv P,.pv (i64 f)]
abbrev wC (S:PV) (cix:Nat) (n i j:Int):Tr:=
 (((((((((((Tr.lf.set 29 (.pv (i64 j))).set 28 (.pv (i64 n))).set 27 (.pv S)).set 21 (.pv (i64 i))).set 20 (.pv (i64 n))).set 19 (.pv S)).set 8 (.ptr 4 0)).set 7 (.pv (i64 i))).set 6 (.ptr 3 0)).set 4 (.ptr 2 0)).set 2 (.pv (.rp [S] 0))).set 1 (.mi cix [.ptr 0 0])
abbrev DJ (S:PV) (cix:Nat) (n i:Int):Tr:=
 ((((((Tr.lf.set 21 (.pv (i64 i))).set 20 (.pv (i64 n))).set 19 (.pv S)).set 6 (.ptr 3 0)).set 4 (.ptr 2 0)).set 2 (.pv (.rp [S] 0))).set 1 (.mi cix [.ptr 0 0])
structure NS (call:Fa) (cix:Nat) (S:PV) (n:Nat) (ask:Nat→Nat→Bool):Prop where
 run:∀ (i j:Nat) (H:List aa),i < n→j < n→H[0]? =some (.box [.pv S])→call cix [.pv (i64 i),.pv (i64 j),.ptr 0 0] H=some (.pv (.bool (ask i j)),H)
section
variable {call:Fa} {cix:Nat} {S:PV} {ss:List ec} {es:List PV} {ask:Nat→Nat→Bool} (hS:Ld S ss es) (ta:ue ss) (hA:NS call cix S ss.length ask)
 (hask:∀ i j,(hi:i < ss.length)→(hj:j < ss.length)→ask i j=true→ss[i].parts.length≤ss[j].parts.length)
include hS ta hA hask
theorem kD {i:Nat} (hi:i < ss.length) {P:PV} (hP:∃ ps,ug (.agg [P,i64 ss[i].first]) ss[i] P ps) (X:aa) (hX:∀ n,pa n X=some X):
 ke (fun r=>(∃ E,r=(.exit 2,⟨E,[.box [.pv S],X,Db false 0 0,Db true 0 0,Kf P ss[i].first]⟩)∧E.get 1= .mi cix [.ptr 0 0]∧E.get 2= .pv (.rp [S] 0)∧E.get 4= .ptr 2 0∧E.get 6= .ptr 3 0∧E.get 19= .pv S∧E.get 20= .pv (i64 ss.length)∧E.get 21= .pv (i64 i)∧∀ j,(hj:j < ss.length)→ask i j=true→th ss[i] ss[j]=false)∨
  (∃ E a b T,r=(.exit 0,⟨E,[.box [.pv S],X,Db false 0 0,Db false a b]++T⟩)∧E.get 4= .ptr 2 0∧E.get 6= .ptr 3 0∧∃ j,∃ hj:j < ss.length,ask i j=true∧th ss[i] ss[j]=true))
  (Eb (fa (ga call Ae) (xa 5 [1,2,4,6,7,8,19,20,21,27,28,29])) wa ⟨wC S cix ss.length i 0,[.box [.pv S],X,Db false 0 0,Db true 0 0,Kf P ss[i].first]⟩):=by
 obtain⟨ps,hPs⟩:=hP
 have h32:=ta.len
 have okp:=ta.my _ (List.getElem_mem hi)
 have hSone:(AV.pv S).one=true:=by rcases hS.is with⟨h,_⟩ | h <;> rw[h] <;> rfl
 obtain⟨hP1,hP2⟩:=hPs.yw
 have lP:=hPs.parts.Mc
 have hask':=fun j hj=>hask i j hi hj
 have hAi:=fun j H (hj:j < ss.length)=>hA.run i j H hi hj
 generalize hp:ss[i]=p at *
 refine Wa (Te (g:=fa (ga call Ae) (xa 5 [1,2,4,6,7,8,19,20,21,27,28,29]))
  (fun j t=>t=⟨wC S cix ss.length i j,[.box [.pv S],X,Db false 0 0,Db true 0 0,Kf P p.first]⟩∧∀ j',j' < j→(hj:j' < ss.length)→ask i j'=true→th p ss[j']=false)
  ss.length (by unfold wa;omega) _ ⟨rfl,fun j' h=>by omega⟩ ?_ ?_) (fun r h=>h.2)
 ·rintro j t hj ⟨rfl,hno⟩
  obtain⟨Q,qs,hQs,a1⟩:=hS.mg hj
  have okq:=ta.my _ (List.getElem_mem hj)
  have hcm:=YI hPs hQs okp okq (n:=p.parts.length) (Nat.le_refl _)
  have hno':∀ (b:Bool),(ask i j=true→th p ss[j]=false)→∀ j',j' < j+1→(hj:j' < ss.length)→ask i j'=true→th p ss[j']=false:=by
   intro _ h j' hj' hjj ha
   rcases Nat.lt_or_ge j' j with h1 | h1
   ·exact hno j' h1 hjj ha
   ·have:j'=j:=by omega
    subst this;exact h ha
  have hle:=hask' j hj
  obtain⟨hQ1,hQ2⟩:=hQs.yw
  have lQ:=hQs.parts.Mc
  have hmt:th p ss[j]=(wg p.parts ss[j].parts p.parts.length 0).isSome:=rfl
  rw[hmt] at hno'
  have hex:ask i j=true→(wg p.parts ss[j].parts p.parts.length 0).isSome=true→∃ j,∃ hj:j < ss.length,ask i j=true∧th p ss[j]=true:=fun h1 h2=>⟨j,hj,h1,h2⟩
  have hfirst:∀ {B:PV} {bs:List Int},ej B bs→bs.length≤ss[j].parts.length→∃ k,Ih [.agg [Q,i64 ss[j].first],B]=some (i64 k):=fun h1 h2=>UB hQs h1 okq h2
  generalize ss[j]=q at *
  have e1:decide ((j:Int) < (ss.length:Int))=true:=Za (by omega)
  have t2:=Bb hj (by unfold maxLen;omega)
  have a2:∀ H,na H true 2 (.pv (.rp [Q,i64 q.first] 0))=some (.pv (.agg [Q,i64 q.first])):=fun H=>rfl
  have s1:Pa [.box [.pv S],X,Db false 0 0,Db true 0 0,Kf P p.first,.box [.pv .qa,.pv (i64 0)]] 2 (.ptr 5 0) (.pv (.agg [Q,i64 q.first]))=some [.box [.pv S],X,Db false 0 0,Db true 0 0,Kf P p.first,Kf Q q.first]:=
   Sk _ _ _ _ hQ1 rfl [.box [.pv S],X,Db false 0 0,Db true 0 0,Kf P p.first] _ rfl
  have hak:=hAi j [.box [.pv S],X,Db false 0 0,Db true 0 0,Kf P p.first,Kf Q q.first] hj rfl
  have l1:na [.box [.pv S],X,Db false 0 0,Db true 0 0,Kf P p.first,Kf Q q.first] true 2 (.ptr 4 0)=some (.pv (.agg [P,i64 p.first])):=rfl
  have l2:na [.box [.pv S],X,Db false 0 0,Db true 0 0,Kf P p.first,Kf Q q.first] true 2 (.ptr 5 0)=some (.pv (.agg [Q,i64 q.first])):=rfl
  have l3:na [.box [.pv S],X,Db false 0 0,Db true 0 0,Kf P p.first,Kf Q q.first] false 1 (.ptr 4 0)=some (.pv P):=rfl
  have p3:place [.box [.pv S],X,Db false 0 0,Db true 0 0,Kf P p.first,Kf Q q.first] 0 (.ptr 4 0)=some (.ptr 4 0):=rfl
  have s2:∀ a b:Int,Pa [.box [.pv S],X,Db false 0 0,Db true 0 0,Kf P p.first,Kf Q q.first] 3 (.ptr 3 0) (.pv (.agg [.bool false,i64 a,i64 b]))=some [.box [.pv S],X,Db false 0 0,Db false a b,Kf P p.first,Kf Q q.first]:=fun a b=>rfl
  have hcl5:Va (pa 5) [.box [.pv S],X,Db false 0 0,Db true 0 0,Kf P p.first]=some [.box [.pv S],X,Db false 0 0,Db true 0 0,Kf P p.first]:=by
   refine qj ?_
   intro o ho
   simp only[List.mem_cons,List.not_mem_nil,or_false] at ho
   rcases ho with rfl | rfl | rfl | rfl | rfl <;> first | exact hX _ | simp[pa,Va,Ha]
  have htk:∀ o:aa,[.box [.pv S],X,Db false 0 0,Db true 0 0,Kf P p.first,o].take 5=[.box [.pv S],X,Db false 0 0,Db true 0 0,Kf P p.first]:=fun o=>rfl
  have c3:(3 < 5)=True:=by simp
  have c2:(2 < 5)=True:=by simp
  have c4:(4 < 5)=True:=by simp
  have c0:(0 < 5)=True:=by simp
  have hd:deep=6:=rfl
  generalize hQQ:LN _ _ j=QQ
  cases hak':ask i j with
  |false=>
   rw[hak'] at hak
   simp -implicitDefEqProofs only[SP,WP,oa,sevalprocAttr,Ae,e1,t2,a1,a2,s1,hak,hcl5,htk,c0,c2,c3,c4,xa,Qa,AV.cut,Sa,wC]
   subst hQQ
   exact⟨rfl,hno' true (fun h=>by rw[hak'] at h;cases h)⟩
  |true=>
   rw[hak'] at hak
   have hcm:=hcm (hle hak')
   cases hc:wg p.parts q.parts p.parts.length 0 with
   |none=>
    have h1:=hcm.1 hc
    simp -implicitDefEqProofs only[SP,WP,oa,sevalprocAttr,Ae,e1,t2,a1,a2,s1,hak,l1,l2,l3,p3,lP,h1,hcl5,htk,c0,c2,c3,c4,xa,Qa,AV.cut,Sa,wC]
    subst hQQ
    exact⟨rfl,hno' true (fun _=>by rw[hc];rfl)⟩
   |some bs=>
    obtain⟨v,h1,hv,hbl,hbr⟩:=hcm.2 bs hc
    have hB:ej v bs:=⟨hv,hbr⟩
    obtain⟨k1,hk1⟩:=UB hPs hB okp (by omega)
    obtain⟨k2,hk2⟩:=hfirst hB (by have:=hle hak';omega)
    simp -implicitDefEqProofs only[SP,WP,oa,sevalprocAttr,Ae,e1,a1,a2,s1,hak,l1,l2,l3,p3,lP,h1,hk1,hk2,s2,wC]
    subst hQQ
    exact .inr ⟨_,k1,k2,[Kf P p.first,Kf Q q.first],rfl,by simp[Tr.ba],by simp[Tr.ba],hex hak' (by rw[hc];rfl)⟩
 ·rintro t ⟨rfl,hno⟩
  have e1:decide ((ss.length:Int) < (ss.length:Int))=false:=mb (by omega)
  generalize hQ:(fun r:Ex×St=>r.1.stop=true∧_)=Q
  simp -implicitDefEqProofs only[SX,sevalprocAttr,Ae,e1,wC]
  subst hQ
  exact⟨rfl,.inl ⟨_,rfl,by simp[Tr.ba],by simp[Tr.ba],by simp[Tr.ba],by simp[Tr.ba],by simp[Tr.ba],by simp[Tr.ba],by simp[Tr.ba],fun j hj ha=>hno j hj hj ha⟩⟩
theorem jD (X:aa) (hX:∀ n,pa n X=some X):
 ke (fun r=>(∃ E,r=(.exit 0,⟨E,[.box [.pv S],X,Db false 0 0,Db true 0 0]⟩)∧E.get 4= .ptr 2 0∧E.get 6= .ptr 3 0∧∀ i j,(hi:i < ss.length)→(hj:j < ss.length)→ask i j=true→th ss[i] ss[j]=false)∨
  (∃ E a b T,r=(.exit 0,⟨E,[.box [.pv S],X,Db false 0 0,Db false a b]++T⟩)∧E.get 4= .ptr 2 0∧E.get 6= .ptr 3 0∧∃ i j,∃ hi:i < ss.length,∃ hj:j < ss.length,ask i j=true∧th ss[i] ss[j]=true))
  (Eb (fa (ga call Hg) (xa 4 [1,2,4,6,19,20,21])) wa ⟨DJ S cix ss.length 0,[.box [.pv S],X,Db false 0 0,Db true 0 0]⟩):=by
 have h32:=ta.len
 have lS:=hS.Mc
 refine Wa (Te (g:=fa (ga call Hg) (xa 4 [1,2,4,6,19,20,21]))
  (fun i t=>t=⟨DJ S cix ss.length i,[.box [.pv S],X,Db false 0 0,Db true 0 0]⟩∧∀ i' j,i' < i→(hi:i' < ss.length)→(hj:j < ss.length)→ask i' j=true→th ss[i'] ss[j]=false)
  ss.length (by unfold wa;omega) _ ⟨rfl,fun i' j h=>by omega⟩ ?_ ?_) (fun r h=>h.2)
 ·rintro i t hi ⟨rfl,hno⟩
  obtain⟨P,ps,hPs,a1⟩:=hS.mg hi
  have hin:=kD hS ta hA hask hi ⟨ps,hPs⟩ X hX
  obtain⟨hP1,hP2⟩:=hPs.yw
  have hno':(∀ j,(hj:j < ss.length)→ask i j=true→th ss[i] ss[j]=false)→∀ i' j,i' < i+1→(hi:i' < ss.length)→(hj:j < ss.length)→ask i' j=true→th ss[i'] ss[j]=false:=by
   intro h i' j hi' hii hj ha
   rcases Nat.lt_or_ge i' i with h1 | h1
   ·exact hno i' j h1 hii hj ha
   ·have:i'=i:=by omega
    subst this;exact h j hj ha
  have hex:(∃ j,∃ hj:j < ss.length,ask i j=true∧th ss[i] ss[j]=true)→∃ i j,∃ hi:i < ss.length,∃ hj:j < ss.length,ask i j=true∧th ss[i] ss[j]=true:=fun ⟨j,hj,h⟩=>⟨i,j,hi,hj,h⟩
  generalize ss[i]=p at *
  have e1:decide ((i:Int) < (ss.length:Int))=true:=Za (by omega)
  have t2:=Bb hi (by unfold maxLen;omega)
  have a2:∀ H,na H true 2 (.pv (.rp [P,i64 p.first] 0))=some (.pv (.agg [P,i64 p.first])):=fun H=>rfl
  have s1:Pa [.box [.pv S],X,Db false 0 0,Db true 0 0,.box [.pv .qa,.pv (i64 0)]] 2 (.ptr 4 0) (.pv (.agg [P,i64 p.first]))=some [.box [.pv S],X,Db false 0 0,Db true 0 0,Kf P p.first]:=
   Sk _ _ _ _ hP1 rfl [.box [.pv S],X,Db false 0 0,Db true 0 0] _ rfl
  have hcl4:∀ T,Va (pa 4) (([.box [.pv S],X,Db false 0 0,Db true 0 0]++T).take 4)=some [.box [.pv S],X,Db false 0 0,Db true 0 0]:=fun T=>by
   refine qj ?_
   intro o ho
   simp only[List.cons_append,List.nil_append,List.take_succ_cons,List.take_zero,List.mem_cons,List.not_mem_nil,or_false] at ho
   rcases ho with rfl | rfl | rfl | rfl <;> first | exact hX _ | simp[pa,Va,Ha]
  have hcl4':∀ o,Va (pa 4) ([.box [.pv S],X,Db false 0 0,Db true 0 0,o].take 4)=some [.box [.pv S],X,Db false 0 0,Db true 0 0]:=fun o=>hcl4 [o]
  have hcl5:Va (pa 5) [.box [.pv S],X,Db false 0 0,Db true 0 0,Kf P p.first]=some [.box [.pv S],X,Db false 0 0,Db true 0 0,Kf P p.first]:=by
   refine qj ?_
   intro o ho
   simp only[List.mem_cons,List.not_mem_nil,or_false] at ho
   rcases ho with rfl | rfl | rfl | rfl | rfl <;> first | exact hX _ | simp[pa,Va,Ha]
  have htk5:([.box [.pv S],X,Db false 0 0,Db true 0 0,Kf P p.first]:List aa).take 5=[.box [.pv S],X,Db false 0 0,Db true 0 0,Kf P p.first]:=rfl
  have r0:∀ H (x:PV),na H false 1 (.pv (.rp [x] 0))=some (.pv x):=fun H x=>rfl
  have q0:∀ H (x:PV),place H 0 (.pv (.rp [x] 0))=some (.pv (.rp [x] 0)):=fun H x=>rfl
  have c3:(3 < 5)=True:=by simp
  have c2:(2 < 5)=True:=by simp
  have c4:(4 < 5)=True:=by simp
  have c0:(0 < 5)=True:=by simp
  have d3:(3 < 4)=True:=by simp
  have d2:(2 < 4)=True:=by simp
  have d0:(0 < 4)=True:=by simp
  generalize hQQ:LN _ _ i=QQ
  simp -implicitDefEqProofs only[SP,WP,oa,sevalprocAttr,Hg,Tc,e1,a1,a2,s1,r0,q0,lS,hcl5,htk5,c0,c2,c3,c4,xa,Qa,AV.cut,Sa,DJ]
  refine Wa hin ?_
  rintro r (⟨E,rfl,g1,g2,g4,g6,g19,g20,g21,hn⟩ | ⟨E,a,b,T,rfl,g4,g6,hy⟩)
  ·simp -implicitDefEqProofs only[SP,WP,oa,sevalprocAttr,g1,g2,g4,g6,g19,g20,g21,t2,hX 4,d0,d2,d3,xa,Qa,AV.cut,Sa]
   subst hQQ
   exact⟨rfl,hno' hn⟩
  ·simp -implicitDefEqProofs only[SP,WP,oa,sevalprocAttr]
   subst hQQ
   exact .inr ⟨E,a,b,T,rfl,g4,g6,hex hy⟩
 ·rintro t ⟨rfl,hno⟩
  have e1:decide ((ss.length:Int) < (ss.length:Int))=false:=mb (by omega)
  generalize hQ:(fun r:Ex×St=>r.1.stop=true∧_)=Q
  simp -implicitDefEqProofs only[SX,sevalprocAttr,Hg,e1,DJ]
  subst hQ
  exact⟨rfl,.inl ⟨_,rfl,by simp[Tr.ba],by simp[Tr.ba],fun i j hi hj ha=>hno i j hi hi hj ha⟩⟩
theorem QI (X:aa) (hX:∀ n,pa n X=some X):
 ∃ y a b T,Hd call cf [.pv (.agg [S]),.mi cix [.ptr 0 0]] [.box [.pv S],X]=some (.pv (.bc [.agg [.bool y,i64 a,i64 b],i64 0]),[.box [.pv S],X]++T)∧
  (y=true↔∀ i j,(hi:i < ss.length)→(hj:j < ss.length)→ask i j=true→th ss[i] ss[j]=false):=by
 have lS:=hS.Mc
 have hSone:(AV.pv S).one=true:=by rcases hS.is with⟨h,_⟩ | h <;> rw[h] <;> rfl
 obtain⟨b,hv,hvb⟩:=Ti hS
 have:=hvb.2 ta
 subst this
 have hout:=jD hS ta hA hask X hX
 have s1:Pa [.box [.pv S],X,Db false 0 0,.box [.pv (.bool false),.pv (i64 0),.pv (i64 0)]] 3 (.ptr 3 0) (.pv (.agg [.bool true,i64 0,i64 0]))=some [.box [.pv S],X,Db false 0 0,Db true 0 0]:=rfl
 have hcl4:Va (pa 4) [.box [.pv S],X,Db false 0 0,Db true 0 0]=some [.box [.pv S],X,Db false 0 0,Db true 0 0]:=by
  refine qj ?_
  intro o ho
  simp only[List.mem_cons,List.not_mem_nil,or_false] at ho
  rcases ho with rfl | rfl | rfl | rfl <;> first | exact hX _ | simp[pa,Va,Ha]
 have htk4:([.box [.pv S],X,Db false 0 0,Db true 0 0]:List aa).take 4=[.box [.pv S],X,Db false 0 0,Db true 0 0]:=rfl
 have r1:∀ H (x:PV),na H true 1 (.pv (.rp [x] 0))=some (.pv (.agg [x])):=fun H x=>rfl
 have r0:∀ H (x:PV),na H false 1 (.pv (.rp [x] 0))=some (.pv x):=fun H x=>rfl
 have q0:∀ H (x:PV),place H 0 (.pv (.rp [x] 0))=some (.pv (.rp [x] 0)):=fun H x=>rfl
 have d3:(3 < 4)=True:=by simp
 have d2:(2 < 4)=True:=by simp
 have d0:(0 < 4)=True:=by simp
 have key:ke (fun r=>∃ y a b T,r=(.pv (.bc [.agg [.bool y,i64 a,i64 b],i64 0]),[.box [.pv S],X]++T)∧(y=true↔∀ i j,(hi:i < ss.length)→(hj:j < ss.length)→ask i j=true→th ss[i] ss[j]=false))
  (Hd call cf [.pv (.agg [S]),.mi cix [.ptr 0 0]] [.box [.pv S],X]):=by
  generalize hQQ:(fun r:AV×List aa=>_)=QQ
  simp -implicitDefEqProofs only[SP,WP,oa,sevalprocAttr,cf,Tc,hSone,r1,r0,q0,hv,lS,s1,hcl4,htk4,d0,d2,d3,xa,Qa,AV.cut,Sa]
  refine Wa hout ?_
  rintro r (⟨E,rfl,g4,g6,hn⟩ | ⟨E,a,b,T,rfl,g4,g6,i,j,hi,hj,h1,h2⟩)
  ·have l1:na [.box [.pv S],X,Db false 0 0,Db true 0 0] true 3 (.ptr 3 0)=some (.pv (.agg [.bool true,i64 0,i64 0])):=rfl
   have s2:Pa [.box [.pv S],X,Db false 0 0,Db true 0 0] 3 (.ptr 2 0) (.pv (.agg [.bool true,i64 0,i64 0]))=some [.box [.pv S],X,Db true 0 0,Db true 0 0]:=rfl
   have l2:na [.box [.pv S],X,Db true 0 0,Db true 0 0] true 3 (.ptr 2 0)=some (.pv (.agg [.bool true,i64 0,i64 0])):=rfl
   simp -implicitDefEqProofs only[SP,WP,oa,sevalprocAttr,g4,g6,l1,s2,l2]
   subst hQQ
   exact⟨true,0,0,_,rfl,by simpa using hn⟩
  ·have l1:na ([.box [.pv S],X,Db false 0 0,Db false a b]++T) true 3 (.ptr 3 0)=some (.pv (.agg [.bool false,i64 a,i64 b])):=rfl
   have s2:Pa ([.box [.pv S],X,Db false 0 0,Db false a b]++T) 3 (.ptr 2 0) (.pv (.agg [.bool false,i64 a,i64 b]))=some ([.box [.pv S],X,Db false a b,Db false a b]++T):=rfl
   have l2:na ([.box [.pv S],X,Db false a b,Db false a b]++T) true 3 (.ptr 2 0)=some (.pv (.agg [.bool false,i64 a,i64 b])):=rfl
   generalize hA1:[.box [.pv S],X,Db false 0 0,Db false a b]++T=A1 at *
   generalize hA2:[.box [.pv S],X,Db false a b,Db false a b]++T=A2 at *
   simp -implicitDefEqProofs only[SP,WP,oa,sevalprocAttr,g4,g6,l1,s2,l2]
   subst hQQ hA2
   refine⟨false,a,b,_,rfl,?_⟩
   simp only[Bool.false_eq_true,false_iff]
   intro h
   rw[h i j hi hj h1] at h2;cases h2
 obtain⟨r,h1,y,a,b,T,rfl,h2⟩:=vd key
 exact⟨y,a,b,T,h1,h2⟩
end
def ik (ss:List ec):Prop:=∀ i j,(hi:i < ss.length)→(hj:j < ss.length)→ss[i].parts.length < ss[j].parts.length→th ss[i] ss[j]=false
theorem AG (call:Fa) {S:PV} {ss:List ec} {es:List PV} (hS:Ld S ss es) (i j:Nat) (H:List aa) (hi:i < ss.length) (hj:j < ss.length) (hH:H[0]? =some (.box [.pv S])):
 Hd call Nf [.pv (i64 i),.pv (i64 j),.ptr 0 0] H=some (.pv (.bool (decide (ss[i].parts.length < ss[j].parts.length))),H):=by
 obtain⟨P,ps,hPs,a1⟩:=hS.mg hi
 obtain⟨Q,qs,hQs,a2⟩:=hS.mg hj
 have lP:=hPs.parts.Mc
 have lQ:=hQs.parts.Mc
 have p0:place H 0 (.ptr 0 0)=some (.ptr 0 0):=by simp[place,hH]
 have l0:na H false 1 (.ptr 0 0)=some (.pv S):=by simp[na,hH,ng]
 have r0:∀ H (x y:PV),na H false 1 (.pv (.rp [x,y] 0))=some (.pv x):=fun H x y=>rfl
 have q0:∀ H (x y:PV),place H 0 (.pv (.rp [x,y] 0))=some (.pv (.rp [x,y] 0)):=fun H x y=>rfl
 have e:decide ((ss[i].parts.length:Int) < (ss[j].parts.length:Int))=decide (ss[i].parts.length < ss[j].parts.length):=by simp
 generalize ss[i]=p at *
 generalize ss[j]=q at *
 by_cases hij:P=Q
 ·subst hij
  have:p.parts.length=q.parts.length:=by have h1:=lP [];have h2:=lQ [];rw[h1] at h2;exact Option.some.inj h2
  rw[this] at lP e ⊢
  simp -implicitDefEqProofs only[SP,WP,oa,sevalprocAttr,Nf,p0,l0,a1,a2,r0,q0,lP,e]
 ·simp -implicitDefEqProofs only[SP,WP,oa,sevalprocAttr,Nf,p0,l0,a1,a2,r0,q0,lP,lQ,e]
theorem bB {S:PV} {ss:List ec} {es:List PV} (hS:Ld S ss es):
 (¬ ue ss→Gd [.agg [S]]=some (.bc [.agg [.bool false,i64 0,i64 0],i64 84]))∧
 (ue ss→∃ y a b,Gd [.agg [S]]=some (.bc [.agg [.bool y,i64 a,i64 b],i64 0])∧(y=true↔ik ss)):=by
 have hSone:(AV.pv S).one=true:=by rcases hS.is with⟨h,_⟩ | h <;> rw[h] <;> rfl
 have c25:ch 25=some cf:=rfl
 have s0:na [.box [.pv S],Db false 0 0] true 1 (.ptr 0 0)=some (.pv (.agg [S])):=rfl
 constructor
 ·intro hno
  obtain⟨b,hv,hvb⟩:=Ti hS
  have hb:b=false:=by cases b with | false=>rfl | true=>exact absurd (hvb.1 rfl) hno
  subst hb
  have r1:∀ H (x:PV),na H true 1 (.pv (.rp [x] 0))=some (.pv (.agg [x])):=fun H x=>rfl
  have s1:Pa [.box [.pv S],Db false 0 0,.box [.pv (.bool false),.pv (i64 0),.pv (i64 0)]] 3 (.ptr 2 0) (.pv (.agg [.bool false,i64 0,i64 0]))=some [.box [.pv S],Db false 0 0,Db false 0 0]:=rfl
  have l2:na [.box [.pv S],Db false 0 0,Db false 0 0] true 3 (.ptr 2 0)=some (.pv (.agg [.bool false,i64 0,i64 0])):=rfl
  have s2:Pa [.box [.pv S],Db false 0 0,Db false 0 0] 3 (.ptr 1 0) (.pv (.agg [.bool false,i64 0,i64 0]))=some [.box [.pv S],Db false 0 0,Db false 0 0]:=rfl
  have l3:na [.box [.pv S],Db false 0 0,Db false 0 0] true 3 (.ptr 1 0)=some (.pv (.agg [.bool false,i64 0,i64 0])):=rfl
  simp -implicitDefEqProofs only[Gd,SP,WP,oa,sevalprocAttr,Wj,c25,cf,hSone,s0,r1,hv,s1,l2,s2,l3]
 ·intro ta
  have hA:NS (za ch 7) 4 S ss.length (fun i j=>if h:i < ss.length∧j < ss.length then decide (ss[i].parts.length < ss[j].parts.length) else false):=by
   refine⟨fun i j H hi hj hH=> ?_⟩
   rw[Wd ch 6 4 _ H (f:=Nf) rfl,AG _ hS i j H hi hj hH,dif_pos ⟨hi,hj⟩]
  obtain⟨y,a,b,T,h1,h2⟩:=QI hS ta hA (fun i j hi hj h=>by rw[dif_pos ⟨hi,hj⟩] at h;have:=of_decide_eq_true h;omega) (Db false 0 0) (fun n=>by simp[pa,Va,Ha])
  refine⟨y,a,b,?_,?_⟩
  ·have s2:Pa ([.box [.pv S],Db false 0 0]++T) 3 (.ptr 1 0) (.pv (.agg [.bool y,i64 a,i64 b]))=some ([.box [.pv S],Db y a b]++T):=rfl
   have l3:na ([.box [.pv S],Db y a b]++T) true 3 (.ptr 1 0)=some (.pv (.agg [.bool y,i64 a,i64 b])):=rfl
   generalize hA1:[.box [.pv S],Db false 0 0]++T=A1 at *
   generalize hA2:[.box [.pv S],Db y a b]++T=A2 at *
   simp -implicitDefEqProofs only[Gd,SP,WP,oa,sevalprocAttr,Wj,c25,hSone,s0,h1,s2,l3]
  ·rw[h2]
   unfold ik
   constructor
   ·intro h i j hi hj hlt
    exact h i j hi hj (by rw[dif_pos ⟨hi,hj⟩];exact decide_eq_true hlt)
   ·intro h i j hi hj hlt
    rw[dif_pos ⟨hi,hj⟩] at hlt
    exact h i j hi hj (of_decide_eq_true hlt)
end Go.AM.B1
namespace Go.AM.B1
open Go.AM Go.AM.So
def cellsOf (n:Nat) (g:Nat→AV):List AV:=(List.range n).map g
theorem Me (n:Nat) (g:Nat→AV):(cellsOf n g).length=n:=by simp[cellsOf]
theorem Qn {n i:Nat} (g:Nat→AV) (h:i < n):(cellsOf n g)[i]? =some (g i):=by simp[cellsOf,h]
def Br (g:Nat→AV) (i:Nat) (v:AV):Nat→AV:=fun j=>if j=i then v else g j
theorem Zo (g:Nat→AV) (i:Nat) (v:AV):Br g i v i=v:=if_pos rfl
theorem dq (g:Nat→AV) {i j:Nat} (v:AV) (h:j≠i):Br g i v j=g j:=if_neg h
theorem cy {n i:Nat} (g:Nat→AV) (v:AV):(cellsOf n g).set i v=cellsOf n (Br g i v):=by
 apply List.ext_getElem?
 intro j
 by_cases hj:j < n
 ·rw[Qn _ hj]
  by_cases h:i=j
  ·subst h;rw[List.getElem?_set_self (by rw[Me];exact hj),Zo]
  ·rw[List.getElem?_set_ne h,Qn _ hj,dq _ _ (Ne.symm h)]
 ·rw[List.getElem?_eq_none (by rw[List.length_set,Me];omega),List.getElem?_eq_none (by rw[Me];omega)]
theorem dB {H:List aa} {id m n off sz:Nat} {ag:Bool} {g:Nat→AV} {fl:Nat} {nl:Bool} (hg:H[id]? =some (.seq sz ag (cellsOf n g) fl nl)) (hm:m=n) (ho:off < n):
 na H false 1 (.ic id m off)=some (g off):=by
 subst hm
 simp only[na,hg,Me,if_true,ng,Bool.false_eq_true,if_false,Qn g ho]
theorem Yo {H:List aa} {id m n off sz d:Nat} {ag:Bool} {g:Nat→AV} {fl:Nat} {nl:Bool} (hg:H[id]? =some (.seq sz ag (cellsOf n g) fl nl)) (hm:m=n):
 place H d (.ic id m off)=some (.ic id m (off+d)):=by
 subst hm
 simp only[place,hg,Me,if_true]
theorem zw {H:List aa} {id m n off sz:Nat} {ag:Bool} {g:Nat→AV} {fl:Nat} {nl:Bool} (hg:H[id]? =some (.seq sz ag (cellsOf n g) fl nl)) (hm:m=n) (ho:off < n) {v:AV} (hv:v.cells=[v]) (h1:v.one=true):
 Pa H 1 (.ic id m off) v=some (H.set id (.seq sz ag (cellsOf n (Br g off v)) n nl)):=by
 subst hm
 simp only[Pa,hv,List.length_cons,List.length_nil,List.all_cons,h1,List.all_nil,Bool.and_true,and_self,if_true,hg,Me]
 rw[if_pos ⟨trivial,by omega⟩]
 simp only[oa,cy]
def fi:List (Int×Int)→List Int
 | []=>[]
 |p::l=>Zd 0 p++fi l
theorem iR (l:List (Int×Int)):l.flatMap (Zd 0)=fi l:=by
 induction l with
 |nil=>rfl
 |cons p l ih=>rw[List.flatMap_cons,ih];rfl
theorem KE {p:Int×Int} (h0:0≤p.1) (h1:p.1≤p.2):Zd 0 p=(List.range (p.2 - p.1+1).toNat).map fun (i:Nat)=>p.1+(i:Int):=by
 unfold Zd
 rw[if_neg (by omega),show max p.1 0=p.1 from by omega]
end Go.AM.B1
namespace Go.AM.B1
open Go.AM
end Go.AM.B1
namespace Go.AM.B1
open Go.AM
end Go.AM.B1
namespace Go.AM.B1
open Go.AM
abbrev u8 (n:Int):PV:= .int .u8 n
structure qn (A:PV) (l:List (List je)):Prop where
 held:∃ es,Ah 1 A es∧es.length=l.length∧∀ (i:Nat) v e,es[i]? =some v→l[i]? =some e→Ah 3 v (e.map fB)
 len:l.length * 24≤140737488355328
 lens:∀ e∈l,e.length * 24≤140737488355328
def Qe (b:Int):List je→Option Int
 | []=>none
 |e::r=>if e.lo≤b∧b≤e.hi then some e.to else Qe b r
def de (l:List (List je)) (st b:Int):Int×Bool:=
 if st < 0 then (0,false) else match l[st.toNat]? with
  |some e=>match Qe b e with
   |some t=>(t,true)
   |none=>(0,false)
  |none=>(0,false)
section
variable (b:Int) (hb:0≤b∧b≤255)
include hb
variable (V:PV) (l:List je) (hV:Ah 3 V (l.map fB)) (hw:l.length≤maxLen)
include hV hw
end
theorem qn.get {A:PV} {l:List (List je)} (h:qn A l) {i:Nat} (hi:i < l.length):∃ es V,A= .lit 1 es∧es.length=l.length∧es[i]? =some V∧Ah 3 V (l[i].map fB):=by
 obtain⟨es,h1,h2,h3⟩:=h.held
 have hie:i < es.length:=by omega
 refine⟨es,es[i],h1.lit hie,h2,by simp[hie],h3 i _ _ (by simp[hie]) (by simp[hi])⟩
theorem qn.Mc {A:PV} {l:List (List je)} (h:qn A l) (H:List aa):Mc H 0 (.pv A)=some l.length:=by
 obtain⟨es,h1,h2,h3⟩:=h.held
 rw[h1.len,h2]
section
variable (A:PV) (l:List (List je)) (hA:qn A l) (st b:Int) (hb:0≤b∧b≤255)
include hA hb
end
section
variable (call:Fa) (es:List PV) (st b:Int) (hb:0≤b∧b≤255) (e:List je) (V:PV) (h0:0≤st∧st < es.length) (hV:es[st.toNat]? =some V) (hVL:Ah 3 V (e.map fB)) (hw:e.length≤maxLen)
include h0 hV hVL
include hb hw
end
section
variable (A:PV) (l:List (List je)) (hA:qn A l) (st b:Int) (hb:0≤b∧b≤255)
include hA hb
end
end Go.AM.B1
