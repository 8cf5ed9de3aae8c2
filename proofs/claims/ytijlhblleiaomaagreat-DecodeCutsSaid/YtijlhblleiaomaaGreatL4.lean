/- What functions of the program compute. -/
import Derived.Test.YtijlhblleiaomaaGreatL3
import Derived.Test.YtijlhblleiaomaaGreatL2
set_option linter.unusedVariables false
set_option linter.unusedSimpArgs false
namespace Go.AM.B1
open Go.AM Go.AM.So
structure Yd(s:ya):Prop where
 lo:1<=s.ba.length
 hi:s.ba.length<=8
 f0:0<=s.pa
 f1:s.pa<=1073741823
 ba:∀ l∈s.ba,Se l
 last:Ng s<=1073741823
def pk(s t:ya):Prop:=∀ x,¬((s.pa<=x/\x<=Ng s)/\(t.pa<=x/\x<=Ng t))
structure uc(ss:List ya):Prop where
 len:ss.length<=32
 He:∀ s∈ss,Yd s
 apart:ss.Pairwise pk
theorem Yd.jg{s:ya}(h:Yd s):s.pa<=Ng s:=by
 have:=(YE s.ba 1 h.ba (by omega) (by omega)).1
 unfold Ng;omega
structure AP(ss:List ya)(i:Nat)(v:PV)(u:List (Int×Int)):Prop where
 is:Pb 2 v (Pa u)
 val:Ub Rn (-2) u=true
 len:u.length<=i
 mem:∀ x,Mf x u↔∃ s∈ss.take i,s.pa<=x/\x<=Ng s
 He:∀ s∈ss.take i,Yd s
 apart:(ss.take i).Pairwise pk
abbrev bn(S v:PV)(len i:Int):Tr:=(((Tr.lf.set 14 (.pv (aa i))).set 13 (.pv (aa len))).set 12 (.pv S)).set 3 (.pv v)
theorem HD(x y u v:AV)(hu:u.one=true)(hv:v.one=true)(A:List fa)(e:PV)(he:(AV.pv e).cells=[u,v]):Db (A++[.box [x,y]]) 2 (.ptr A.length 0) (.pv e)=some (A++[.box [u,v]]):=by
 simp only[Db,he,dn,Uu,Td,Ch,List.all,hu,hv];simp[za]
section
variable {S:PV}{ss:List ya}{es:List PV}(hS:zd S ss es)(hl:ss.length<=32)
include hS hl
omit hl in
theorem nas{i:Nat}(hi:i < ss.length)(v:PV)(sn:¬Yd ss[i]):
 ∃ E H,Aa (ua (La Dl 8) Bm) (ta 0 [3,12,13,14]) ⟨bn S v ss.length i,[]⟩=some (.ret,⟨E,H⟩)/\E.get 2= .pv (.bool false):=by
 obtain⟨e,P,ps,he,QH,gl⟩:=hS.get hi
 obtain⟨rfl,hP⟩:=gl;generalize hs:ss[i]=s at *;have hq:i < es.length:=by rw[hS.len];exact hi
 have e1:decide ((i:Int) < (ss.length:Int))=true:=Qa (by omega);have a1:Ua [] 2 (.pv S) (i:Int)=some (.pv (.rp [P,aa s.pa] 0)):=by rw[QH];simp only[Ua];rw[if_pos (by unfold Ta;simp;omega),Uc,he];rfl
 have a2:wa [] true 2 (.pv (.rp [P,aa s.pa] 0))=some (.pv (.agg [P,aa s.pa])):=rfl;have Me:(AV.pv P).one=true:=by rcases hP.is with⟨h,_⟩ | h <;> rw[h] <;> rfl
 have s1:Db [.box [.pv .oa,.pv (aa 0)]] 2 (.ptr 0 0) (.pv (.agg [P,aa s.pa]))=some [.box [.pv P,.pv (aa s.pa)]]:=HD _ _ _ _ Me rfl [] _ rfl;have p0:place [.box [.pv P,.pv (aa s.pa)]] 0 (.ptr 0 0)=some (.ptr 0 0):=rfl;have p1:place [.box [.pv P,.pv (aa s.pa)]] 1 (.ptr 0 0)=some (.ptr 0 1):=rfl;have l0:wa [.box [.pv P,.pv (aa s.pa)]] false 1 (.ptr 0 0)=some (.pv P):=rfl;have l1:wa [.box [.pv P,.pv (aa s.pa)]] false 1 (.ptr 0 1)=some (.pv (aa s.pa)):=rfl;have l2:wa [.box [.pv P,.pv (aa s.pa)]] true 2 (.ptr 0 0)=some (.pv (.agg [P,aa s.pa])):=rfl;have hg:Pd [.box [.pv P,.pv (aa s.pa)]]:=by intro n _ o ho;simp at ho;subst ho;simp[Fa,Ha,bc]
 have wu:=eX hP 5 [.box [.pv P,.pv (aa s.pa)]] hg;have h6:Dl 6=some AD:=rfl;have lA:=hP.mb
 have key:Ia (fun r=>∃ E H,r=(.ret,⟨E,H⟩)/\E.get 2= .pv (.bool false)) (Aa (ua (La Dl 8) Bm) (ta 0 [3,12,13,14]) ⟨bn S v ss.length i,[]⟩):=by
  generalize hQ:(fun r:Ex×St=>_)=Q
  by_cases c1:s.ba.length < 1
  ·have d1:decide ((s.ba.length:Int) < 1)=true:=Qa (by omega)
   simp -implicitDefEqProofs only[SX,sevalprocAttr,Bm,e1,a1,a2,s1,p0,p1,l0,l1,lA,d1,bn];subst hQ;exact⟨_,_,rfl,by simp[Tr.na]⟩
  have d1:decide ((s.ba.length:Int) < 1)=false:=Ra (by omega)
  by_cases c2:s.ba.length > 8
  ·have d2:decide ((s.ba.length:Int) > 8)=true:=Qa (by omega)
   simp -implicitDefEqProofs only[SX,sevalprocAttr,Bm,e1,a1,a2,s1,p0,p1,l0,l1,lA,d1,d2,bn];subst hQ;exact⟨_,_,rfl,by simp[Tr.na]⟩
  have d2:decide ((s.ba.length:Int) > 8)=false:=Ra (by omega)
  by_cases c3:s.pa < 0
  ·have d3:decide (s.pa < 0)=true:=Qa c3
   simp -implicitDefEqProofs only[SX,sevalprocAttr,Bm,e1,a1,a2,s1,p0,p1,l0,l1,lA,d1,d2,d3,bn];subst hQ;exact⟨_,_,rfl,by simp[Tr.na]⟩
  have d3:decide (s.pa < 0)=false:=Ra c3
  by_cases c4:s.pa > 1073741823
  ·have d4:decide (s.pa > 1073741823)=true:=Qa c4
   simp -implicitDefEqProofs only[SX,sevalprocAttr,Bm,e1,a1,a2,s1,p0,p1,l0,l1,lA,d1,d2,d3,d4,bn];subst hQ;exact⟨_,_,rfl,by simp[Tr.na]⟩
  have d4:decide (s.pa > 1073741823)=false:=Ra c4
  by_cases c5:∀ l∈s.ba,Se l
  ·have Ay:=F2 (e:= .agg [P,aa s.pa]) ⟨rfl,hP⟩ c5 (by omega)
   rw[decide_eq_true c5] at wu;have c6:Ng s > 1073741823:=by
    rcases Int.lt_or_le 1073741823 (Ng s) with h | h
    ·exact h
    ·exact absurd (Yd.mk (by omega) (by omega) (by omega) (by omega) c5 h) sn
   have d6:decide (Ng s > 1073741823)=true:=Qa c6;have i0:∀ H (x y:Int),Ua H 2 (.pv (.lit 2 [.agg [aa x,aa y]])) 0=some (.pv (.rp [aa x,aa y] 0)):=fun H x y=>rfl;have q1:∀ H (x y:PV),place H 1 (.pv (.rp [x,y] 0))=some (.pv (.rp [x,y] 1)):=fun H x y=>rfl;have m1:∀ H (x y:PV),wa H false 1 (.pv (.rp [x,y] 1))=some (.pv y):=fun H x y=>rfl;simp -implicitDefEqProofs only[SX,sevalprocAttr,za,Bm,e1,a1,a2,s1,p0,p1,l0,l1,l2,lA,d1,d2,d3,d4,h6,wu,Ay,i0,q1,m1,d6,bn];subst hQ;exact⟨_,_,rfl,by simp[Tr.na]⟩
  ·rw[decide_eq_false c5] at wu
   simp -implicitDefEqProofs only[SX,sevalprocAttr,Bm,e1,a1,a2,s1,p0,p1,l0,l1,lA,d1,d2,d3,d4,h6,wu,bn];subst hQ;exact⟨_,_,rfl,by simp[Tr.na]⟩
 obtain⟨r,h1,E,H,rfl,h2⟩:=wg key;exact⟨E,H,h1,h2⟩
theorem oas{i:Nat}(hi:i < ss.length){v:PV}{u:List (Int×Int)}(hv:AP ss i v u)(ga:Yd ss[i]):
 Ia (fun r=>(∃ E H,r=(.ret,⟨E,H⟩)/\E.get 2= .pv (.bool false)/\∃ s∈ss.take i,¬pk s ss[i])\/(∃ v' u',r=(.norm,⟨bn S v' ss.length (i+1:Nat),[]⟩)/\AP ss (i+1) v' u'))
  (Aa (ua (La Dl 8) Bm) (ta 0 [3,12,13,14]) ⟨bn S v ss.length i,[]⟩):=by
 obtain⟨e,P,ps,he,QH,gl⟩:=hS.get hi
 obtain⟨rfl,hP⟩:=gl;have htake:ss.take (i+1)=ss.take i++[ss[i]]:=List.take_succ_eq_append_getElem hi
 generalize hs:ss[i]=s at *;have hq:i < es.length:=by rw[hS.len];exact hi
 have e1:decide ((i:Int) < (ss.length:Int))=true:=Qa (by omega);have t2:=ee hi hS.sz
 have a1:Ua [] 2 (.pv S) (i:Int)=some (.pv (.rp [P,aa s.pa] 0)):=by rw[QH];simp only[Ua];rw[if_pos (by unfold Ta;simp;omega),Uc,he];rfl
 have a2:wa [] true 2 (.pv (.rp [P,aa s.pa] 0))=some (.pv (.agg [P,aa s.pa])):=rfl;have Me:(AV.pv P).one=true:=by rcases hP.is with⟨h,_⟩ | h <;> rw[h] <;> rfl
 have s1:Db [.box [.pv .oa,.pv (aa 0)]] 2 (.ptr 0 0) (.pv (.agg [P,aa s.pa]))=some [.box [.pv P,.pv (aa s.pa)]]:=HD _ _ _ _ Me rfl [] _ rfl;have p0:place [.box [.pv P,.pv (aa s.pa)]] 0 (.ptr 0 0)=some (.ptr 0 0):=rfl;have p1:place [.box [.pv P,.pv (aa s.pa)]] 1 (.ptr 0 0)=some (.ptr 0 1):=rfl;have l0:wa [.box [.pv P,.pv (aa s.pa)]] false 1 (.ptr 0 0)=some (.pv P):=rfl;have l1:wa [.box [.pv P,.pv (aa s.pa)]] false 1 (.ptr 0 1)=some (.pv (aa s.pa)):=rfl;have l2:wa [.box [.pv P,.pv (aa s.pa)]] true 2 (.ptr 0 0)=some (.pv (.agg [P,aa s.pa])):=rfl;have hg:Pd [.box [.pv P,.pv (aa s.pa)]]:=by intro n _ o ho;simp at ho;subst ho;simp[Fa,Ha,bc]
 have wu:=eX hP 5 [.box [.pv P,.pv (aa s.pa)]] hg;rw[decide_eq_true ga.ba] at wu;have h6:Dl 6=some AD:=rfl;have lA:=hP.mb
 have d1:decide ((s.ba.length:Int) < 1)=false:=Ra (by have:=ga.lo;omega);have d2:decide ((s.ba.length:Int) > 8)=false:=Ra (by have:=ga.hi;omega);have d3:decide (s.pa < 0)=false:=Ra (by have:=ga.f0;omega);have d4:decide (s.pa > 1073741823)=false:=Ra (by have:=ga.f1;omega);have Ay:=F2 (e:= .agg [P,aa s.pa]) ⟨rfl,hP⟩ ga.ba ⟨ga.f0,ga.f1⟩
 have d6:decide (Ng s > 1073741823)=false:=Ra (by have:=ga.last;omega);have i0:∀ H (x y:Int),Ua H 2 (.pv (.lit 2 [.agg [aa x,aa y]])) 0=some (.pv (.rp [aa x,aa y] 0)):=fun H x y=>rfl;have q1:∀ H (x y:PV),place H 1 (.pv (.rp [x,y] 0))=some (.pv (.rp [x,y] 1)):=fun H x y=>rfl;have m1:∀ H (x y:PV),wa H false 1 (.pv (.rp [x,y] 1))=some (.pv y):=fun H x y=>rfl;have Py:Ub Rn (-2) [(s.pa,Ng s)]=true:=by rw[EJ];have:=ga.jg;have:=ga.f0;have:=ga.last;unfold Rn;simp only;omega
 have Xl:=Jap v (.lit 2 [.agg [aa s.pa,aa (Ng s)]]) u [(s.pa,Ng s)] hv.is (.inr rfl) hv.val Py (by have:=hv.len;simp;omega)
 obtain⟨u',OE,hv1,hv2,Oy⟩:=ias v (.lit 2 [.agg [aa s.pa,aa (Ng s)]]) u [(s.pa,Ng s)] hv.is (.inr rfl) hv.val Py (by have:=hv.len;simp;omega)
 have ur:=Nal hv.val Py
 have tr:∀ l:List (Int×Int),(Pa l).length=l.length:=fun l=>by simp
 generalize Cf (u.length+[(s.pa,Ng s)].length) u [(s.pa,Ng s)]=mm at *;have hvv:(AV.pv v).cells=[.pv v]:=by rcases hv.is with⟨h,_⟩ | h <;> rw[h] <;> rfl
 generalize hQ:(fun r:Ex×St=>_)=Q
 by_cases c7:mm=[]
 ·have d7:decide ((mm.length:Int) > 0)=false:=Ra (by rw[c7];simp)
  have Uj:¬∃ x,Mf x u/\Mf x [(s.pa,Ng s)]:=fun h=>(ur.2 h) c7;simp -implicitDefEqProofs only[SX,sevalprocAttr,za,Bm,e1,t2,a1,a2,s1,p0,p1,l0,l1,l2,lA,d1,d2,d3,d4,h6,wu,Ay,i0,q1,m1,d6,Xl,tr,d7,OE,ta,Za,AV.cut,Fa,List.take_zero,Cb,bn];subst hQ;refine .inr ⟨_,u',rfl,.inr rfl,hv1,by have:=hv.len;simp at Oy;omega,fun x=> ?_,?_,?_⟩
  ·rw[hv2,Wy,hv.mem,htake]
   constructor
   ·rintro (⟨t,ht,hx⟩ | hx)
    ·exact⟨t,by simp[ht],hx⟩
    ·exact⟨s,by simp,hx⟩
   ·rintro⟨t,ht,hx⟩
    rcases Bd.1 ht with h | h
    ·exact .inl ⟨t,h,hx⟩
    ·simp at h;subst h;exact .inr hx
  ·intro t ht
   rw[htake] at ht;rcases Bd.1 ht with h | h
   ·exact hv.He t h
   ·simp at h;subst h;exact ga
  ·rw[htake,FK]
   refine⟨hv.apart,by simp,fun t ht w hw x hx=> ?_⟩;simp at hw;subst hw;exact Uj ⟨x,(hv.mem x).2 ⟨t,ht,hx.1⟩,(Wy _ _).2 hx.2⟩
 ·have d7:decide ((mm.length:Int) > 0)=true:=Qa (by have:mm.length≠0:=fun e=>c7 (Ze e);omega)
  obtain⟨x,hx1,hx2⟩:=ur.1 c7
  simp -implicitDefEqProofs only[SX,sevalprocAttr,za,Bm,e1,a1,a2,s1,p0,p1,l0,l1,l2,lA,d1,d2,d3,d4,h6,wu,Ay,i0,q1,m1,d6,Xl,tr,d7,bn];subst hQ;obtain⟨t,ht,hx3⟩:=(hv.mem x).1 hx1
  exact .inl ⟨_,_,rfl,by simp[Tr.na],t,ht,fun h=>h x ⟨hx3,(Wy _ _).1 hx2⟩⟩
end
theorem yO{S:PV}{ss:List ya}{es:List PV}(hS:zd S ss es):∃ b,Zu [.agg [S]]=some (.bool b)/\(b=true↔uc ss):=by
 have lA:=hS.mb
 by_cases hl:ss.length<=32
 ·have e0:decide ((ss.length:Int) > 32)=false:=Ra (by omega)
  have yc:Ia (fun r=>∃ E H,(r=(.exit 0,⟨E,H⟩)/\uc ss)\/(r=(.ret,⟨E,H⟩)/\E.get 2= .pv (.bool false)/\¬uc ss))
   (Mb (Aa (ua (La Dl 8) Bm) (ta 0 [3,12,13,14])) Ga ⟨bn S .oa ss.length 0,[]⟩):=by
   refine Bb (We (g:=Aa (ua (La Dl 8) Bm) (ta 0 [3,12,13,14]))
    (fun i t=>∃ v u,t=⟨bn S v ss.length i,[]⟩/\AP ss i v u)
    ss.length (by unfold Ga;omega) _ ⟨.oa,[],rfl,.inl ⟨rfl,rfl⟩,rfl,by simp,fun x=>by simp[Dw],by simp,by simp⟩ ?_ ?_) (fun r h=>h.2)
   ·rintro i t hi ⟨v,u,rfl,hv⟩
    by_cases ga:Yd ss[i]
    ·refine Bb (oas hS hl hi hv ga) ?_
     rintro r (⟨E,H,rfl,hE,s,hs,hna⟩ | ⟨v',u',rfl,Ny⟩)
     ·refine⟨E,H,.inr ⟨rfl,hE,fun h=>hna ?_⟩⟩
      obtain⟨j,hj,rfl⟩:=List.mem_take_iff_getElem.1 hs
      have:=fG.1 h.apart j i (by omega) hi (by omega)
      exact this
     ·exact⟨v',u',rfl,Ny⟩
    ·obtain⟨E,H,h1,h2⟩:=nas hS hi v ga
     exact zas h1 ⟨E,H,.inr ⟨rfl,h2,fun h=>ga (h.He _ (ic hi))⟩⟩
   ·rintro t ⟨v,u,rfl,hv⟩
    have e1:decide ((ss.length:Int) < (ss.length:Int))=false:=Ra (by omega);have Oe:uc ss:=⟨hl,by have:=hv.He;rwa [ai] at this,by have:=hv.apart;rwa [ai] at this⟩;generalize hQ:(fun r:Ex×St=>r.1.stop=true/\_)=Q;simp -implicitDefEqProofs only[SX,sevalprocAttr,Bm,e1,bn];subst hQ;exact⟨rfl,_,_,.inl ⟨rfl,Oe⟩⟩
  obtain⟨r,h1,E,H,h2⟩:=wg yc;have Jg:Mb (Aa (ua (La Dl 8) Bm) (ta 0 [3,12,13,14])) Ga ⟨(((Tr.lf.set 14 (.pv (.int .i64 0))).set 13 (.pv (.int .i64 ss.length))).set 12 (.pv S)).set 3 (.pv .oa),[]⟩=some r:=h1;have JM:∃ sz es,S= .oa\/S= .lit sz es:=by rcases hS.is with⟨h,_⟩ | h;exact⟨0,[],.inl h⟩;exact⟨_,_,.inr h⟩
  rcases h2 with⟨rfl,ga⟩ | ⟨rfl,hE,Uj⟩
  ·refine⟨true,?_,by simp[ga]⟩
   obtain⟨sz,es,rfl | rfl⟩:=JM <;>
   simp -implicitDefEqProofs only[Zu,SP,SA,SQ,WP,WQ,sevalprocAttr,OG,Oc,lA,e0,Jg]
  ·refine⟨false,?_,by simp[Uj]⟩
   obtain⟨sz,es,rfl | rfl⟩:=JM <;>
   simp -implicitDefEqProofs only[Zu,SP,SA,SQ,WP,WQ,sevalprocAttr,OG,Oc,lA,e0,Jg,hE]
 ·have e0:decide ((ss.length:Int) > 32)=true:=Qa (by omega)
  refine⟨false,?_,by simp;exact fun h=>hl h.len⟩;have JM:∃ sz es,S= .oa\/S= .lit sz es:=by rcases hS.is with⟨h,_⟩ | h;exact⟨0,[],.inl h⟩;exact⟨_,_,.inr h⟩
  obtain⟨sz,es,rfl | rfl⟩:=JM <;>
  simp -implicitDefEqProofs only[Zu,SP,SA,SQ,WP,WQ,sevalprocAttr,OG,Oc,lA,e0]
theorem Yh.one{e:PV}{s:ya}{P:PV}{ps:List PV}(h:Yh e s P ps):zd (.lit 2 [e]) [s] [e]:=by
 refine⟨.inr rfl,rfl,?_,by simp[maxLen]⟩;intro k e' s' h1 h2
 match k,h1,h2 with
 |0,h1,h2=>simp at h1 h2;subst h1 h2;exact⟨P,ps,h⟩
 |k+1,h1,h2=>simp at h1
theorem Kap{s:ya}:uc [s]↔Yd s:=⟨fun h=>h.He s (by simp),fun h=>⟨by simp,by simpa using h,by simp⟩⟩
theorem Yh.zm{e:PV}{s:ya}{P:PV}{ps:List PV}(h:Yh e s P ps):(AV.pv P).one=true/\P.cells=[P]:=by
 rcases h.ba.is with⟨h,_⟩ | h <;> rw[h] <;> exact⟨rfl,rfl⟩
theorem FO{e:PV}{s:ya}{P:PV}{ps:List PV}(h:Yh e s P ps):∃ b,Jz [e]=some (.bool b)/\(b=true↔Yd s):=by
 obtain⟨b,h1,h2⟩:=yO h.one
 refine⟨b,?_,h2.trans Kap⟩;obtain⟨Me,Ul⟩:=h.zm
 have heq:=h.eq
 subst heq;rcases h.ba.is with⟨rfl,_⟩ | rfl <;>
 simp -implicitDefEqProofs only[Jz,SP,SA,SQ,WP,WQ,sevalprocAttr,tQ,h1]
theorem sk.Nd{P:PV}{ls:List (List (Int×Int))}{ps:List PV}(hP:sk P ls ps){i:Nat}(hi:i < ls.length)(H:List fa):∃ v,ps[i]? =some v/\sx v ls[i]/\Ua H 1 (.pv P) (i:Int)=some (.pv (.rp [v] 0)):=by
 obtain⟨v,hv,fy,Qf⟩:=hP.get hi
 refine⟨v,hv,Qf,?_⟩;have hq:i < ps.length:=by rw[hP.len];exact hi
 have fc:v.cells=[v]:=by rcases Qf.is with⟨h,_⟩ | h <;> rw[h] <;> rfl
 rw[fy];simp only[Ua];rw[if_pos (by unfold Ta;simp;omega),Uc,hv];simp[fc]
theorem sk.Sy{P:PV}{ls:List (List (Int×Int))}{ps:List PV}(hP:sk P ls ps){i:Nat}{v:PV}(hv:ps[i]? =some v)(H:List fa):Ua H 1 (.pv P) (i:Int)=some (.pv (.rp [v] 0)):=by
 have hi:i < ls.length:=by rw[<- hP.len];exact (Ad.1 hv).1
 obtain⟨w,hw,_,h⟩:=hP.Nd hi H
 rw[hv] at hw;injection hw with hw;subst hw;exact h
def Cr(p q:List (List (Int×Int)))(i:Nat):List (Int×Int):=match p[i]?,q[i]? with
 |some a,some b=>Cf (a.length+b.length) a b
 |_,_=>[]
def Ke(p q:List (List (Int×Int))):Nat->Nat->Option (List Int)
 |0,_=>some []
 |n+1,i=>match Cr p q i with
  | []=>none
  |m::_=>(Ke p q n (i+1)).map (m.1:: ·)
abbrev uH(rp rq:List PV)(n i:Int)(tk:Nat)(nl:Bool)(es:List PV):Tr:=((((Tr.lf.set 35 (.pv (aa i))).set 34 (.pv (aa n))).set 8 (.uq tk nl 1 es)).set 4 (.pv (.rp rq 0))).set 3 (.pv (.rp rp 0))
theorem yL{A:List fa}{id n bytes:Nat}{nl:Bool}{h:Qc}{es:List PV}(hg:A[id]? =some (.tok 1 n nl))(hn:n=es.length)(hr:Ac (n+1) bytes)(e:PV):
 Ud A false h 1 false bytes (.uq id nl 1 es) (.pv (.lit 1 [e]))=some (.uq id false 1 (es++[e]),A.set id (.tok 1 (n+1) false)):=Jo hg hn hr e
theorem Pac{e f:PV}{p q:ya}{P Q:PV}{ps qs:List PV}(hp:Yh e p P ps)(hq:Yh f q Q qs)(op:Yd p)(oq:Yd q){n:Nat}(hn:n<=p.ba.length)(yo:n<=q.ba.length):
 (Ke p.ba q.ba n 0=none->Iz [e,f,aa n]=some (.Ba [.oa,.bool false]))/\
 (∀ bs,Ke p.ba q.ba n 0=some bs->∃ v,Iz [e,f,aa n]=some (.Ba [v,.bool true])/\Pb 1 v (bs.map (PV.int .u8))/\bs.length=n/\∀ b∈bs,0<=b/\b<=255):=by
 obtain⟨b1,ff,ZH⟩:=FO hp;obtain⟨b2,Vd,Eah⟩:=FO hq;have:b1=true:=ZH.2 op
 subst this;have:b2=true:=Eah.2 oq
 subst this;obtain⟨Me,Ul⟩:=hp.zm
 obtain⟨XA,SY⟩:=hq.zm
 have heq:=hp.eq
 have fI:=hq.eq
 subst heq fI;have h8:=op.hi
 have lP:=hp.ba.mb
 have lQ:=hq.ba.mb
 have yc:Ia (fun r=>∃ E H,(r=(.ret,⟨E,H⟩)/\E.get 6= .pv .oa/\E.get 7= .pv (.bool false)/\Ke p.ba q.ba n 0=none)\/(∃ nl bs,r=(.exit 0,⟨E,H⟩)/\E.get 8= .uq 0 nl 1 (bs.map (PV.int .u8))/\(nl=true->bs=[])/\Ke p.ba q.ba n 0=some bs/\bs.length=n/\∀ b∈bs,0<=b/\b<=255))
  (Mb (Aa (ua (La (fun _=>none) 8) AA) (ta 1 [3,4,8,34,35])) Ga ⟨uH [P,aa p.pa] [Q,aa q.pa] n 0 0 true [],[.tok 1 0 true]⟩):=by
  refine Bb (We (g:=Aa (ua (La (fun _=>none) 8) AA) (ta 1 [3,4,8,34,35]))
   (fun i t=>∃ nl bs,t=⟨uH [P,aa p.pa] [Q,aa q.pa] n i 0 nl (bs.map (PV.int .u8)),[.tok 1 i nl]⟩/\bs.length=i/\(nl=true->bs=[])/\(∀ b∈bs,0<=b/\b<=255)/\Ke p.ba q.ba n 0=(Ke p.ba q.ba (n - i) i).map (bs++ ·))
   n (by unfold Ga;omega) _ ⟨true,[],rfl,rfl,fun _=>rfl,by simp,by cases Ke p.ba q.ba n 0 <;> simp[*]⟩ ?_ ?_) (fun r h=>h.2)
  ·rintro i t hi ⟨nl,bs,rfl,hlen,Wc,hby,hs⟩
   obtain⟨v,hv,Eu,_⟩:=hp.ba.Nd (i:=i) (by omega) []
   obtain⟨w,hw,zI,_⟩:=hq.ba.Nd (i:=i) (by omega) []
   have a1:=hp.ba.Sy hv
   have a2:=hq.ba.Sy hw
   have bz:=op.ba _ (ic (show i < p.ba.length by omega))
   have WI:=oq.ba _ (ic (show i < q.ba.length by omega))
   have Xl:=Oaq v w _ _ Eu.is zI.is bz.2 WI.2 (by
    have:=(HO bz.2).2.1 bz.1
    have h1:=Eu.sz
    have h2:=zI.sz
    have k1:=XO bz.2
    have k2:=XO WI.2
    omega)
   have AE:=PI _ _ _ (-2) (-2) bz.2 WI.2 (gb _)
   have cT:Cr p.ba q.ba i=Cf (p.ba[i].length+q.ba[i].length) p.ba[i] q.ba[i]:=by unfold Cr;rw[Rb (show i < p.ba.length by omega),Rb (show i < q.ba.length by omega)]
   obtain⟨m,hm⟩:∃ m,n - i=m+1:=⟨n - i - 1,by omega⟩;have wB:n - (i+1)=m:=by omega
   rw[hm,Ke,cT] at hs;have eT:=DJ bz.2
   generalize p.ba[i]=lv at *
   generalize q.ba[i]=lw at *
   generalize Cf (lv.length+lw.length) lv lw=mm at *;have e1:decide ((i:Int) < (n:Int))=true:=Qa (by omega);have t2:=ee (i:=i) (n:=n) hi (by unfold maxLen;omega);have lm:∀ H,mb H 0 (.pv (.lit 2 (Pa mm)))=some mm.length:=fun H=>by simp[mb]
   have r0:∀ H (x y:PV),wa H false 1 (.pv (.rp [x,y] 0))=some (.pv x):=fun H x y=>rfl;have r1:∀ H (x:PV),wa H false 1 (.pv (.rp [x] 0))=some (.pv x):=fun H x=>rfl;have q0:∀ H (x y:PV),place H 0 (.pv (.rp [x,y] 0))=some (.pv (.rp [x,y] 0)):=fun H x y=>rfl;generalize hQ:LN _ _ i=QQ;cases mm with
   |nil=>
    have z1:(((0:Nat):Int)==0)=true:=by decide
    simp only[Option.map_none] at hs;simp -implicitDefEqProofs only[SX,sevalprocAttr,AA,e1,a1,a2,r0,r1,q0,Xl,lm,z1,uH];subst hQ;exact⟨_,_,.inl ⟨rfl,by simp[Tr.na],by simp[Tr.na],hs⟩⟩
   |cons m0 mm=>
    have z1:(((mm.length+1:Nat):Int)==0)=false:=jj (by omega);have i0:∀ H,Ua H 2 (.pv (.lit 2 (Pa (m0::mm)))) 0=some (.pv (.rp [aa m0.1,aa m0.2] 0)):=fun H=>zw H (i:=0) (l:=m0::mm) (by simp);have Im:0<=m0.1/\m0.1<=255:=by
     have hmem:=(AE.1 m0.1).1 ⟨m0,by simp,Ll _,AE.2 m0 (by simp)⟩
     obtain⟨pp,Gy,h1,h2⟩:=hmem.1
     have:=eT pp Gy;omega
    have t3:IntKind.u8.wrap m0.1=m0.1:=wrap_u8 Im
    have vd:=yL (A:=[.tok 1 i nl]) (id:=0) (n:=i) (h:= .uq) (nl:=nl) (bytes:=1) (es:=bs.map (PV.int .u8)) rfl (by simp[hlen]) (by unfold Ac;omega) (.int .u8 m0.1);rw[Qo] at vd;have lm':∀ H,mb H 0 (.pv (.lit 2 (Pa (m0::mm))))=some (mm.length+1):=lm;have aI:(bs++[m0.1]).map (PV.int .u8)=bs.map (PV.int .u8)++[.int .u8 m0.1]:=by simp
    generalize Pa (m0::mm)=L at *;simp -implicitDefEqProofs only[SP,WP,za,sevalprocAttr,AA,e1,t2,t3,a1,a2,r0,r1,q0,Xl,lm',z1,i0,vd,ta,Za,AV.cut,Fa,Cb,uH];subst hQ;refine⟨false,bs++[m0.1],by rw[aI],by simp[hlen],by simp,?_,?_⟩
    ·intro b hb
     rcases Bd.1 hb with h | h
     ·exact hby b h
     ·simp at h;subst h;exact Im
    ·rw[hs,wB]
     cases Ke p.ba q.ba m (i+1) <;> simp
  ·rintro t ⟨nl,bs,rfl,hlen,Wc,hby,hs⟩
   rw[Kq,Ke] at hs;have e1:decide ((n:Int) < (n:Int))=false:=Ra (by omega);generalize hQ:(fun r:Ex×St=>r.1.stop=true/\_)=QQ;simp -implicitDefEqProofs only[SX,sevalprocAttr,AA,e1,uH];subst hQ;exact⟨rfl,_,_,.inr ⟨nl,bs,rfl,by simp[Tr.na],Wc,by rw[hs];simp,hlen,hby⟩⟩
 obtain⟨r,h1,E,H,h2⟩:=wg yc;have Jg:Mb (Aa (ua (La (fun _=>none) 8) AA) (ta 1 [3,4,8,34,35])) Ga ⟨((((Tr.lf.set 35 (.pv (.int .i64 0))).set 34 (.pv (aa n))).set 8 (.uq 0 true 1 [])).set 4 (.pv (.rp [Q,aa q.pa] 0))).set 3 (.pv (.rp [P,aa p.pa] 0)),[.tok 1 0 true]⟩=some r:=h1;have d0:decide ((n:Int) < 0)=false:=Ra (by omega);have d1:decide ((n:Int) > (if (q.ba.length:Int) < (p.ba.length:Int) then (q.ba.length:Int) else (p.ba.length:Int)))=false:=Ra (by split <;> omega);have hz:(0 < 1)=True:=by simp
 have r2:∀ H (x y:PV),wa H true 2 (.pv (.rp [x,y] 0))=some (.pv (.agg [x,y])):=fun H x y=>rfl;have r0:∀ H (x y:PV),wa H false 1 (.pv (.rp [x,y] 0))=some (.pv x):=fun H x y=>rfl;have q0:∀ H (x y:PV),place H 0 (.pv (.rp [x,y] 0))=some (.pv (.rp [x,y] 0)):=fun H x y=>rfl;rcases h2 with⟨rfl,h6,h7,EZ⟩ | ⟨nl,bs,rfl,KY,Wc,VZ,hlen,hby⟩
 ·refine⟨fun _=> ?_,fun bs Vl=>by rw[EZ] at Vl;cases Vl⟩
  simp -implicitDefEqProofs only[Iz,SX,sevalprocAttr,VG,Oc,Me,XA,r2,r0,q0,ff,Vd,lP,lQ,Tk,Rf,d0,d1,Af,hz,ta,Za,AV.cut,Fa,Cb,Jg,h6,h7]
 ·refine⟨fun hn=>(by rw[VZ] at hn;cases hn),fun bs' Vl=> ?_⟩
  rw[VZ] at Vl;injection Vl with Vl;subst Vl
  cases nl with
  |true=>have:=Wc rfl;subst this;refine⟨.oa,?_,.inl ⟨rfl,rfl⟩,hlen,hby⟩;simp -implicitDefEqProofs only[Iz,SX,sevalprocAttr,VG,Oc,Me,XA,r2,r0,q0,ff,Vd,lP,lQ,Tk,Rf,d0,d1,Af,hz,ta,Za,AV.cut,Fa,Cb,Jg,KY]
  |false=>refine⟨.lit 1 (bs.map (PV.int .u8)),?_,.inr rfl,hlen,hby⟩;simp -implicitDefEqProofs only[Iz,SX,sevalprocAttr,VG,Oc,Me,XA,r2,r0,q0,ff,Vd,lP,lQ,Tk,Rf,d0,d1,Af,hz,ta,Za,AV.cut,Fa,Cb,Jg,KY]
def eb:List (List (Int×Int))->Int
 | []=>1
 |l::r=>eb r * Tb 0 l
theorem Ik:∀ {ls:List (List (Int×Int))},(∀ l∈ls,Se l)->1<=eb ls
 | [],_=>by simp[eb]
 |l::r,h=>by
  have h1:=Ik (ls:=r) fun x hx=>h x (by simp[hx]);have h2:=(Hr (h l (by simp))).1
  rw[eb];have:=Int.mul_le_mul h1 h2 (by omega) (by omega);omega
theorem TT:∀ (ls:List (List (Int×Int)))(n:Int),(∀ l∈ls,Se l)->1<=n->n<=1073741825->Gg n ls=if 1073741825 < n * eb ls then 1073741825 else n * eb ls
 | [],n,_,h1,h2=>by rw[Gg,eb,Int.mul_one,qa (by omega)]
 |l::r,n,h,h1,h2=>by
  have hs:=Hr (h l (by simp));have hm:=KN h1 h2 hs.1 hs.2
  have hp:=Ik (ls:=r) fun x hx=>h x (by simp[hx]);have e:n * (eb r * Tb 0 l)=(n * Tb 0 l) * eb r:=by rw[xx (eb r),Int.mul_assoc]
  rw[Gg,eb,e]
  by_cases hc:1073741825 < n * Tb 0 l
  ·rw[if_pos hc,TT r _ (fun x hx=>h x (by simp[hx])) (by omega) (by omega)]
   have h3:n * Tb 0 l * 1<=n * Tb 0 l * eb r:=MC hp (by omega);rw[if_pos (show 1073741825 < n * Tb 0 l * eb r by omega)]
   split
   ·rfl
   ·have h4:1073741825 * 1<=1073741825 * eb r:=MC hp (by omega)
    omega
  ·rw[qa hc,TT r _ (fun x hx=>h x (by simp[hx])) (by omega) (by omega)]
theorem Yd.prod{s:ya}(h:Yd s):Gg 1 s.ba=eb s.ba/\eb s.ba<=1073741824:=by
 have h1:=TT s.ba 1 h.ba (by omega) (by omega)
 have h2:=h.last
 have h3:=h.f0
 unfold Ng at h2;rw[NC] at h1
 split at h1
 ·omega
 ·exact⟨h1,by omega⟩
theorem Yd.Ng{s:ya}(h:Yd s):B1.Ng s=s.pa+eb s.ba - 1:=by
 unfold B1.Ng;rw[h.prod.1]
theorem nF{ls:List (List (Int×Int))}(h:∀ l∈ls,Se l)(i:Nat):eb (ls.drop i)<=eb ls:=by
 induction ls generalizing i with
 |nil=>simp
 |cons l r ih=>
  cases i with
  |zero=>simp
  |succ i=>
   rw[Nz,eb];have h1:=ih (fun x hx=>h x (by simp[hx])) i;have h2:=(Hr (h l (by simp))).1
   have hp:=Ik (ls:=r) fun x hx=>h x (by simp[hx]);have:eb r * 1<=eb r * Tb 0 l:=MC h2 (by omega);omega
def Xi(l:List Int)(fl:Nat)(nl:Bool):fa:= .seq 1 false (Ca l) fl nl
section
variable {A:List fa}{id n fl:Nat}{nl:Bool}{l:List Int}(hg:A[id]? =some (Xi l fl nl))(hn:n=l.length)(hf:fl<=n)
include hg hn
theorem F1(hf:fl<=n){i:Int}{k:Nat}(hi:i=(k:Int))(hk:k < n):Ua A 1 (.own id n) i=some (.Sb id n k):=by
 have:=qe l;subst hi;simp only[Ua,hg,Xi];rw[if_pos (by refine⟨trivial,?_,?_⟩ <;> first | (unfold Ta;omega) | (unfold bh;omega))];simp
theorem I1{k:Nat}(hk:k < n)(v:Int):Db A 1 (.Sb id n k) (.pv (aa v))=some (A.set id (Xi (l.set k v) n nl)):=by
 have hl:=qe l;have hc:(AV.pv (aa v)).cells=[.pv (aa v)]:=rfl
 simp only[Db,hg,Xi,hc];rw[if_pos ⟨rfl,rfl⟩,if_pos ⟨by omega,by omega⟩,za,za,sq]
theorem Mak(d:Nat):qb A (d+1) (.own id n)=some (if nl then .oa else .lit 1 (l.map aa)):=by
 have hl:=qe l;subst hn;simp only[qb,hg,Xi];have hm:Ha (qb A d) (Ca l)=some (l.map aa):=by rw[vF,CN]
 have hck:∀ l:List Int,chunk 1 false l.length (l.map aa)=l.map aa:=by
  intro l
  induction l with
  |nil=>rfl
  |cons a l ih=>simp only[Pf,Td,chunk,Sc,if_false,List.headD_cons,Nz,Un];rw[ih]
 rw[if_pos ⟨by omega,by rfl⟩,hm];cases nl with
 |true=>rfl
 |false=>simp only[Sc,if_false,Vc,hck]
end
theorem C1(l:List Int)(fl:Nat)(nl:Bool)(n:Nat):Fa n (Xi l fl nl)=some (Xi l fl nl):=by
 have:(Ca l).all (AV.qc n deep)=true:=by
  rw[Df];intro v hv;obtain⟨p,_,rfl⟩:=Re.1 hv
  rfl
 simp[Fa,Xi,this]
def bk(ls:List (List (Int×Int)))(i:Nat):List Int:=(List.range (ls.length+1)).map fun j=>if i < j then eb (ls.drop j) else 0
theorem QO(ls:List (List (Int×Int)))(i:Nat):(bk ls i).length=ls.length+1:=by simp[bk]
theorem Waq(ls:List (List (Int×Int)))(i:Nat)(hi:i < ls.length):(bk ls (i+1)).set (i+1) (eb (ls.drop (i+1)))=bk ls i:=by
 apply Oz
 ·simp[bk]
 ·intro j h1 h2
  rw[DK];simp only[bk,cG,dG]
  by_cases hj:i+1=j
  ·subst hj;simp
  ·rw[qa hj]
   by_cases h:i+1 < j
   ·rw[if_pos h,if_pos (by omega)]
   ·rw[qa h,qa (by omega)]
def Cl(ls:List (List (Int×Int))):List Int:=(List.range (ls.length+1)).map fun j=>eb (ls.drop j)
theorem Xaq(ls:List (List (Int×Int))):(bk ls 0).set 0 (eb ls)=Cl ls:=by
 apply Oz
 ·simp[bk,Cl]
 ·intro j h1 h2
  rw[DK];simp only[bk,Cl,cG,dG]
  by_cases hj:0=j
  ·subst hj;simp
  ·rw[qa hj,if_pos (by omega)]
abbrev bM(row:List PV)(m:Nat)(n i:Int):Tr:=(((Tr.lf.set 5 (.pv (aa i))).set 4 (.pv (aa n))).set 3 (.own 0 m)).set 1 (.pv (.rp row 0))
theorem S8{e:PV}{s:ya}{P:PV}{ps:List PV}(h:Yh e s P ps)(ga:Yd s):UF [e]=some (.lit 1 ((Cl s.ba).map aa)):=by
 obtain⟨Me,Ul⟩:=h.zm
 have heq:=h.eq
 subst heq;have hP:=h.ba
 have lP:=hP.mb
 have h8:=ga.hi
 have Yl:=ga.prod.2
 have yc:Ia (fun r=>∃ E,r=(.exit 0,⟨E,[Xi (bk s.ba 0) (s.ba.length+1) false]⟩)/\E.get 3= .own 0 (s.ba.length+1)/\E.get 4= .pv (aa (eb s.ba)))
  (Mb (Aa (ua (La (fun _=>none) 8) yD) (ta 1 [1,3,4,5])) Ga ⟨bM [P,aa s.pa] (s.ba.length+1) 1 s.ba.length,[Xi (bk s.ba s.ba.length) 0 false]⟩):=by
  refine Bb (LB (g:=Aa (ua (La (fun _=>none) 8) yD) (ta 1 [1,3,4,5]))
   (fun i t=>∃ fl,i<=s.ba.length/\t=⟨bM [P,aa s.pa] (s.ba.length+1) (eb (s.ba.drop i)) i,[Xi (bk s.ba i) fl false]⟩/\fl<=s.ba.length+1/\(i < s.ba.length\/s.ba.length=0->fl=s.ba.length+1\/s.ba.length=0))
   Ga s.ba.length _ (by unfold Ga;omega) ⟨0,gb _,by rw[Zh];rfl,by omega,fun h=>by omega⟩ ?_) (fun r h=>h.2)
  rintro i t ⟨fl,hi,rfl,hfl,MS⟩;cases i with
  |zero=>
   have h1:=ga.lo
   have:fl=s.ba.length+1:=by rcases MS (.inl (by omega)) with h | h <;> omega
   subst this;have e1:decide (((0:Nat):Int) > 0)=false:=by decide
   generalize hQ:LQ _ _ _=Q;simp -implicitDefEqProofs only[SX,sevalprocAttr,-List.reduceReplicate,yD,e1,bM];subst hQ;exact⟨_,rfl,by simp[Tr.na],by simp[Tr.na]⟩
  |succ i=>
   have e1:decide (((i+1:Nat):Int) > 0)=true:=Qa (by omega);have t1:IntKind.i64.wrap (((i+1:Nat):Int) - 1)=(i:Int):=by rw[Gb (by omega)];omega
   have hg:[Xi (bk s.ba (i+1)) fl false][0]? =some (Xi (bk s.ba (i+1)) fl false):=rfl;have a1:=F1 hg (n:=s.ba.length+1) (QO _ _).symm hfl (i:=((i+1:Nat):Int)) rfl (by omega)
   have s1:=I1 hg (n:=s.ba.length+1) (QO _ _).symm (k:=i+1) (by omega) (eb (s.ba.drop (i+1)))
   rw[Qo,Waq s.ba i (by omega)] at s1;obtain⟨v,hv,Qf,_⟩:=hP.Nd (i:=i) (by omega) []
   have a2:=hP.Sy hv
   have nf:=ga.ba s.ba[i] (ic (by omega))
   have DB:=N8 v s.ba[i] Qf.is Qf.sz nf.2
   have hd:s.ba.drop i=s.ba[i]::s.ba.drop (i+1):=Hh (by omega)
   have xI:eb (s.ba.drop i)=eb (s.ba.drop (i+1)) * Tb 0 s.ba[i]:=by rw[hd,eb]
   have hle:=nF ga.ba i
   have th:=Ik (ls:=s.ba.drop i) fun x hx=>ga.ba x (No hx)
   rw[xI] at hle th;generalize s.ba[i]=l at *
   have t3:IntKind.i64.wrap (eb (s.ba.drop (i+1)) * Tb 0 l)=eb (s.ba.drop (i+1)) * Tb 0 l:=Gb (by omega)
   have r0:∀ H (x y:PV),wa H false 1 (.pv (.rp [x,y] 0))=some (.pv x):=fun H x y=>rfl;have r1:∀ H (x:PV),wa H false 1 (.pv (.rp [x] 0))=some (.pv x):=fun H x=>rfl;have q0:∀ H (x y:PV),place H 0 (.pv (.rp [x,y] 0))=some (.pv (.rp [x,y] 0)):=fun H x y=>rfl;have Eb:∀ l' Qd,Ha (Fa 1) [Xi l' Qd false]=some [Xi l' Qd false]:=fun l' Qd=>by simp[Ha,C1]
   have hz:(0 < 1)=True:=by simp
   have od:∀ o:fa,[o].take 1=[o]:=fun o=>rfl
   generalize hQ:LQ _ _ _=Q;simp -implicitDefEqProofs only[SP,WP,za,sevalprocAttr,-List.reduceReplicate,yD,e1,t1,t3,a1,s1,a2,DB,r0,r1,q0,Eb,hz,od,ta,Za,AV.cut,Cb,bM];subst hQ;exact⟨i,by omega,s.ba.length+1,by omega,by rw[xI],by omega,fun _=> .inl rfl⟩
 obtain⟨r,h1,E,rfl,mE,EM⟩:=wg yc;have Jg:Mb (Aa (ua (La (fun _=>none) 8) yD) (ta 1 [1,3,4,5])) Ga ⟨(((Tr.lf.set 5 (.pv (aa s.ba.length))).set 4 (.pv (.int .i64 1))).set 3 (.own 0 (s.ba.length+1))).set 1 (.pv (.rp [P,aa s.pa] 0)),[Xi (bk s.ba s.ba.length) 0 false]⟩=_:=h1;have rN:fa.seq 1 false (Yf [PV.int .i64 0] (s.ba.length+1)) 0 false=Xi (bk s.ba s.ba.length) 0 false:=by
  rw[y7,Xi]
  congr 2
  apply Oz
  ·simp[bk]
  ·intro j Au al
   simp at Au;simp only[bk,List.getElem_replicate,cG,dG];rw[qa (by omega)]
 have t1:IntKind.i64.wrap ((s.ba.length:Int)+1)=((s.ba.length+1:Nat):Int):=Gb (by omega)
 have e2:(0<=((s.ba.length+1:Nat):Int))=True:=by simp;omega
 have e3:(((s.ba.length+1:Nat):Int)<=((s.ba.length+1:Nat):Int))=True:=by simp
 have e4:Ac (s.ba.length+1) 8:=by unfold Ac;omega
 have hg:[Xi (bk s.ba 0) (s.ba.length+1) false][0]? =some (Xi (bk s.ba 0) (s.ba.length+1) false):=rfl;have a1:=F1 hg (n:=s.ba.length+1) (QO _ _).symm (gb _) (i:=0) (k:=0) rfl (by omega)
 have s1:=I1 hg (n:=s.ba.length+1) (QO _ _).symm (k:=0) (by omega) (eb s.ba)
 rw[Qo,Xaq] at s1;have Eu:=Mak (A:=[Xi (Cl s.ba) (s.ba.length+1) false]) (id:=0) (n:=s.ba.length+1) rfl (by simp[Cl]) 5;rw[qa (by simp)] at Eu;have r0:∀ H (x y:PV),wa H false 1 (.pv (.rp [x,y] 0))=some (.pv x):=fun H x y=>rfl;have q0:∀ H (x y:PV),place H 0 (.pv (.rp [x,y] 0))=some (.pv (.rp [x,y] 0)):=fun H x y=>rfl;have Eb:∀ l' Qd,Ha (Fa 1) [Xi l' Qd false]=some [Xi l' Qd false]:=fun l' Qd=>by simp[Ha,C1]
 have hz:(0 < 1)=True:=by simp
 have od:∀ o:fa,[o].take 1=[o]:=fun o=>rfl
 generalize s.ba.length+1=m at *
 simp -implicitDefEqProofs only[UF,SP,WP,za,sevalprocAttr,-List.reduceReplicate,uQ,Oc,Me,r0,q0,lP,t1,e2,e3,Sa e4,rN,Eb,hz,od,ta,Za,AV.cut,Jg,mE,EM,a1,s1,Eu,Cb]
def Uh:List (List (Int×Int))->List Int->Int->Option Int
 |l::r,x::b,k=>if (Ld x 0 l).2=true then Uh r b (k+(Ld x 0 l).1 * eb r) else none
 |_,_,k=>some k
def Zg(s:ya)(b:List Int):Option Int:=if b.length=s.ba.length then Uh s.ba b 0 else none
theorem sF{top x:Int}:∀ {l:List (Int×Int)}{last n:Int},Ub top last l=true->(Ld x n l).2=true->n<=(Ld x n l).1/\(Ld x n l).1 < n+Tb 0 l
 | [],last,n,_,h=>by simp[Ld] at h
 |p::l,last,n,hv,h=>by
  obtain⟨h1,h2,h3,h4,h5⟩:=ik hv;have hs:=(HO h5).1
  rw[Ld] at h ⊢;rw[Tb,fV]
  by_cases c1:x < p.1
  ·rw[if_pos c1] at h;cases h
  ·rw[qa c1] at h ⊢
   by_cases c2:x<=p.2
   ·rw[if_pos c2];simp only;omega
   ·rw[qa c2] at h ⊢
    have:=sF h5 h;omega
theorem ZU{l:List (Int×Int)}(h:Ub 255 (-2) l=true):Pn l=l:=by unfold Pn;rw[if_pos h]
theorem O2(H:List fa){sz k:Nat}{es:List PV}(hz:0 < sz)(hk:k<=es.length):nh H sz (.pv (.lit sz es)) (some (k:Int)) none=some (.pv (.lit sz (es.drop k))):=by
 simp only[nh,ov,Option.getD_none];rw[if_pos ⟨hz,trivial,by omega,by omega,by omega⟩];simp
theorem gJ(b:List Int)(k:Int):Uh [] b k=some k:=by cases b <;> rfl
abbrev BH(row:List PV)(B S:PV)(n i k:Int):Tr:=(((((Tr.lf.set 26 (.pv (aa i))).set 25 (.pv (aa n))).set 24 (.pv S)).set 6 (.pv (aa k))).set 2 (.pv (.rp row 0))).set 1 (.pv B)
structure Oh(B:PV)(bs:List Int):Prop where
 is:Pb 1 B (bs.map (PV.int .u8))
 jg:∀ b∈bs,0<=b/\b<=255
theorem Oh.mb{B:PV}{bs:List Int}(h:Oh B bs)(H:List fa):Go.AM.mb H 0 (.pv B)=some bs.length:=by
 rw[h.is.len];simp
theorem Oh.one{B:PV}{bs:List Int}(h:Oh B bs):(AV.pv B).one=true:=by
 rcases h.is with⟨h,_⟩ | h <;> rw[h] <;> rfl
theorem Oh.Nd{B:PV}{bs:List Int}(h:Oh B bs){i:Nat}(hi:i < bs.length)(H:List fa):Ua H 1 (.pv B) (i:Int)=some (.pv (.rp [.int .u8 bs[i]] 0)):=by
 have hl:=h.is.lit (i:=i) (by simpa using hi)
 rw[hl];simp only[Ua];rw[if_pos (by unfold Ta;simp;omega),Uc,Gd,Rb hi];rfl
theorem waq{e:PV}{s:ya}{P:PV}{ps:List PV}(h:Yh e s P ps){B:PV}{bs:List Int}(hB:Oh B bs)(ga:Yd s):
 (∀ k,Zg s bs=some k->qx [e,B]=some (.Ba [aa k,.bool true]))/\(Zg s bs=none->qx [e,B]=some (.Ba [aa 0,.bool false])):=by
 obtain⟨b1,ff,ZH⟩:=FO h;have:=ZH.2 ga
 subst this;have zc:=S8 h ga;obtain⟨Me,Ul⟩:=h.zm
 have heq:=h.eq
 subst heq;have hP:=h.ba
 have lP:=hP.mb
 have lB:=hB.mb
 have Ms:=hB.one
 have h8:=ga.hi
 have Yl:=ga.prod.2
 have r2:∀ H (x y:PV),wa H true 2 (.pv (.rp [x,y] 0))=some (.pv (.agg [x,y])):=fun H x y=>rfl;have r0:∀ H (x y:PV),wa H false 1 (.pv (.rp [x,y] 0))=some (.pv x):=fun H x y=>rfl;have r1:∀ H (x:PV),wa H false 1 (.pv (.rp [x] 0))=some (.pv x):=fun H x=>rfl;have q0:∀ H (x y:PV),place H 0 (.pv (.rp [x,y] 0))=some (.pv (.rp [x,y] 0)):=fun H x y=>rfl
 by_cases hlen:bs.length=s.ba.length
 ·have Dn:Zg s bs=Uh s.ba bs 0:=by unfold Zg;rw[if_pos hlen]
  have hsl:∀ H,nh H 1 (.pv (.lit 1 ((Cl s.ba).map aa))) (some 1) none=some (.pv (.lit 1 (((Cl s.ba).map aa).drop 1))):=fun H=>O2 H (k:=1) (by omega) (by simp[Cl]);have vn:(((Cl s.ba).map aa).drop 1).length=s.ba.length:=by simp[Cl]
  have hde:∀ i,i < s.ba.length->(((Cl s.ba).map aa).drop 1)[i]? =some (aa (eb (s.ba.drop (i+1)))):=by intro i hi;rw[CK,Gd,Cl,Gd,Pz (by omega),Nat.add_comm 1 i];rfl
  generalize ((Cl s.ba).map aa).drop 1=S at *
  have yc:Ia (fun r=>∃ E,(r=(.ret,⟨E,[]⟩)/\E.get 4= .pv (aa 0)/\E.get 5= .pv (.bool false)/\Uh s.ba bs 0=none)\/(∃ k,r=(.exit 0,⟨E,[]⟩)/\E.get 6= .pv (aa k)/\Uh s.ba bs 0=some k))
   (Mb (Aa (ua (La (fun _=>none) 8) BA) (ta 0 [1,2,6,24,25,26])) Ga ⟨BH [P,aa s.pa] B (.lit 1 S) s.ba.length 0 0,[]⟩):=by
   refine Bb (We (g:=Aa (ua (La (fun _=>none) 8) BA) (ta 0 [1,2,6,24,25,26]))
    (fun i t=>∃ k,t=⟨BH [P,aa s.pa] B (.lit 1 S) s.ba.length i k,[]⟩/\0<=k/\k+eb (s.ba.drop i)<=eb s.ba/\Uh s.ba bs 0=Uh (s.ba.drop i) (bs.drop i) k)
    s.ba.length (by unfold Ga;omega) _ ⟨0,rfl,by omega,by simp,rfl⟩ ?_ ?_) (fun r h=>h.2)
   ·rintro i t hi ⟨k,rfl,Bn,Cn,hs⟩
    obtain⟨v,hv,Qf,_⟩:=hP.Nd hi []
    have a2:=hP.Sy hv
    have nf:=ga.ba s.ba[i] (ic hi)
    have dw:i < bs.length:=by omega
    have a3:=hB.Nd dw
    have dB:=hB.jg bs[i] (ic dw)
    have hd:s.ba.drop i=s.ba[i]::s.ba.drop (i+1):=Hh hi
    have dI:bs.drop i=bs[i]::bs.drop (i+1):=Hh dw
    have aq:=L8 v s.ba[i] Qf.is Qf.sz bs[i]
    rw[ZU nf.2] at aq;have Fu:=sF (x:=bs[i]) (n:=0) nf.2
    rw[hd,eb] at Cn;rw[hd,dI,Uh] at hs;have hle:=nF ga.ba (i+1)
    have th:=Ik (ls:=s.ba.drop (i+1)) fun x hx=>ga.ba x (No hx)
    have ib:=Hr nf;generalize s.ba[i]=l at *
    generalize bs[i]=x at *;have e1:decide ((i:Int) < (s.ba.length:Int))=true:=Qa (by omega);have t2:=ee hi (by unfold maxLen;omega);have t3:IntKind.i64.wrap x=x:=Gb (by omega)
    have a1:∀ H,Ua H 1 (.pv (.lit 1 S)) (i:Int)=some (.pv (.rp [aa (eb (s.ba.drop (i+1)))] 0)):=fun H=>by simp only[Ua];rw[if_pos (by unfold Ta;simp;omega),Uc,hde i hi];rfl
    obtain⟨⟨d,is⟩,xT⟩:∃ r,r=Ld x 0 l:=⟨_,rfl⟩;rw[<- xT] at aq hs Fu;generalize hQ:LN _ _ i=Q;cases is with
    |false=>simp only[Sc,if_false] at hs;simp -implicitDefEqProofs only[SX,sevalprocAttr,-List.reduceReplicate,BA,e1,a1,a2,a3,r0,r1,q0,t3,aq,BH];subst hQ;exact⟨_,.inl ⟨rfl,by simp[Tr.na],by simp[Tr.na],hs⟩⟩
    |true=>
     simp only[if_true] at hs;have Vd:=Fu rfl;simp only at Vd;have hmul:d * eb (s.ba.drop (i+1))+eb (s.ba.drop (i+1))<=eb (s.ba.drop (i+1)) * Tb 0 l:=by have h1:(d+1) * eb (s.ba.drop (i+1))<=Tb 0 l * eb (s.ba.drop (i+1)):=vK (by omega) (by omega);rw[Int.add_mul,NC,xx (Tb 0 l)] at h1;exact h1
     have hm0:0<=d * eb (s.ba.drop (i+1)):=Int.mul_nonneg (by omega) (by omega)
     have t4:IntKind.i64.wrap (d * eb (s.ba.drop (i+1)))=d * eb (s.ba.drop (i+1)):=Gb (by omega)
     have t5:IntKind.i64.wrap (k+d * eb (s.ba.drop (i+1)))=k+d * eb (s.ba.drop (i+1)):=Gb (by omega)
     simp -implicitDefEqProofs only[SX,sevalprocAttr,-List.reduceReplicate,BA,e1,t2,t4,t5,a1,a2,a3,r0,r1,q0,t3,aq,ta,Za,AV.cut,Cb,BH];subst hQ;exact⟨_,rfl,by omega,by omega,hs⟩
   ·rintro t ⟨k,rfl,Bn,Cn,hs⟩
    rw[Zh,gJ] at hs;have e1:decide ((s.ba.length:Int) < (s.ba.length:Int))=false:=Ra (by omega);generalize hQ:(fun r:Ex×St=>r.1.stop=true/\_)=Q;simp -implicitDefEqProofs only[SX,sevalprocAttr,-List.reduceReplicate,BA,e1,BH];subst hQ;exact⟨rfl,_,.inr ⟨k,rfl,by simp[Tr.na],hs⟩⟩
  obtain⟨r,h1,E,h2⟩:=wg yc;have Jg:Mb (Aa (ua (La (fun _=>none) 8) BA) (ta 0 [1,2,6,24,25,26])) Ga ⟨(((((Tr.lf.set 26 (.pv (.int .i64 0))).set 25 (.pv (aa s.ba.length))).set 24 (.pv (.lit 1 S))).set 6 (.pv (.int .i64 0))).set 2 (.pv (.rp [P,aa s.pa] 0))).set 1 (.pv B),[]⟩=some r:=h1;have d1:((bs.length:Int) != (s.ba.length:Int))=false:=by rw[hlen];simp
  rw[Dn];rcases h2 with⟨rfl,h4,h5,hn⟩ | ⟨k,rfl,h6,hk⟩
  ·refine⟨fun k hk=>by (rw[hn] at hk;cases hk),fun _=> ?_⟩
   simp -implicitDefEqProofs only[qx,SX,sevalprocAttr,-List.reduceReplicate,WG,Oc,Me,Ms,r2,r0,q0,ff,lP,lB,d1,zc,hsl,vn,ta,Za,AV.cut,Cb,Jg,h4,h5]
  ·refine⟨fun k' vo=> ?_,fun hn=>by (rw[hk] at hn;cases hn)⟩
   obtain rfl:k=k':=Dx (hk.symm.trans vo);simp -implicitDefEqProofs only[qx,SX,sevalprocAttr,-List.reduceReplicate,WG,Oc,Me,Ms,r2,r0,q0,ff,lP,lB,d1,zc,hsl,vn,ta,Za,AV.cut,Cb,Jg,h6]
 ·have d1:((bs.length:Int) != (s.ba.length:Int))=true:=by
   have:(bs.length:Int)≠(s.ba.length:Int):=by omega
   simp[this]
  have Dn:Zg s bs=none:=by unfold Zg;rw[qa hlen]
  refine⟨fun k hk=>by (rw[Dn] at hk;cases hk),fun _=> ?_⟩;simp -implicitDefEqProofs only[qx,SX,sevalprocAttr,-List.reduceReplicate,WG,Oc,Me,Ms,r2,r0,q0,ff,lP,lB,d1]
abbrev Nk(bs:List Int):List PV:=bs.map (PV.int .u8)
abbrev VL(row:List PV)(P:PV)(n i:Int)(tk:Nat)(es:List PV):Tr:=((((Tr.lf.set 19 (.pv (aa i))).set 18 (.pv (aa n))).set 17 (.pv P)).set 5 (.uq tk false 1 es)).set 2 (.pv (.rp row 0))
theorem kY{e:PV}{s:ya}{P:PV}{ps:List PV}(h:Yh e s P ps){B:PV}{bs:List Int}(hB:Oh B bs)(ga:Yd s)(hlen:bs.length<=s.ba.length):
 ∃ k,DC [e,B]=some (aa k):=by
 have hh:=h;obtain⟨Me,Ul⟩:=h.zm
 have heq:=h.eq
 subst heq;have hP:=h.ba
 have lP:=hP.mb
 have lB:=hB.mb
 have Ms:=hB.one
 have h8:=ga.hi
 have fy:P= .lit 1 ps:=hP.is.lit (i:=0) (by rw[hP.len];exact ga.lo)
 have r2:∀ H (x y:PV),wa H true 2 (.pv (.rp [x,y] 0))=some (.pv (.agg [x,y])):=fun H x y=>rfl;have r0:∀ H (x y:PV),wa H false 1 (.pv (.rp [x,y] 0))=some (.pv x):=fun H x y=>rfl;have r01:∀ H (x y:PV),wa H false 1 (.pv (.rp [x,y] 1))=some (.pv y):=fun H x y=>rfl;have r1:∀ H (x:PV),wa H false 1 (.pv (.rp [x] 0))=some (.pv x):=fun H x=>rfl;have q0:∀ H (x y:PV),place H 0 (.pv (.rp [x,y] 0))=some (.pv (.rp [x,y] 0)):=fun H x y=>rfl;have q1:∀ H (x y:PV),place H 1 (.pv (.rp [x,y] 0))=some (.pv (.rp [x,y] 1)):=fun H x y=>rfl;have hsl:∀ H,nh H 1 (.pv P) (some (bs.length:Int)) none=some (.pv (.lit 1 (ps.drop bs.length))):=fun H=>by rw[fy];exact O2 H (by omega) (by rw[hP.len];exact hlen)
 have vn:(ps.drop bs.length).length=s.ba.length - bs.length:=by rw[uk,hP.len]
 have yah:Ud [.tok 1 0 false] false .uq 1 false 1 (.uq 0 false 1 []) (.pv B)=some (.uq 0 false 1 (Nk bs),[.tok 1 bs.length false]):=by
  have he:Bg 1 (.pv B)=some (Nk bs):=by
   rcases hB.is with⟨rfl,Vl⟩ | rfl
   ·have:Nk bs=[]:=Vl
    rw[this];rfl
   ·simp[Bg,Nk]
  simp only[Ud,Sc,if_false,Kj,he,Lc,Ch,De,Kf];rw[if_pos ⟨trivial,trivial,trivial,by unfold Ac;simp[Nk];omega⟩];simp[Nk]
 have yc:Ia (fun r=>∃ E H bs',r=(.exit 0,⟨E,H⟩)/\E.get 5= .uq 0 false 1 (Nk bs')/\E.get 2= .pv (.rp [P,aa s.pa] 0)/\∀ b∈bs',0<=b/\b<=255)
  (Mb (Aa (ua (La (fun _=>none) 8) gD) (ta 1 [2,5,17,18,19])) Ga ⟨VL [P,aa s.pa] (.lit 1 (ps.drop bs.length)) ((s.ba.length - bs.length:Nat):Int) 0 0 (Nk bs),[.tok 1 bs.length false]⟩):=by
  refine Bb (We (g:=Aa (ua (La (fun _=>none) 8) gD) (ta 1 [2,5,17,18,19]))
   (fun i t=>∃ bs',t=⟨VL [P,aa s.pa] (.lit 1 (ps.drop bs.length)) ((s.ba.length - bs.length:Nat):Int) i 0 (Nk bs'),[.tok 1 bs'.length false]⟩/\bs'.length=bs.length+i/\∀ b∈bs',0<=b/\b<=255)
   (s.ba.length - bs.length) (by unfold Ga;omega) _ ⟨bs,rfl,rfl,hB.jg⟩ ?_ ?_) (fun r h=>h.2)
  ·rintro i t hi ⟨bs',rfl,Uf,Bf⟩
   obtain⟨v,hv,iat,Qf⟩:=hP.get (i:=bs.length+i) (by omega)
   have nf:=ga.ba _ (ic (show bs.length+i < s.ba.length by omega))
   generalize s.ba[bs.length+i]=l at *
   obtain⟨p0,l',rfl⟩:=List.exists_cons_of_ne_nil nf.1
   have mw:v= .lit 2 (Pa (p0::l')):=Qf.is.lit (i:=0) (by simp)
   have fc:v.cells=[v]:=by rw[mw];rfl
   have e1:decide ((i:Int) < ((s.ba.length - bs.length:Nat):Int))=true:=Qa (by omega);have t2:=ee hi (by unfold maxLen;omega);have a1:∀ H,Ua H 1 (.pv (.lit 1 (ps.drop bs.length))) (i:Int)=some (.pv (.rp [v] 0)):=fun H=>by simp only[Ua];rw[if_pos (by have:=hP.len;unfold Ta;simp;omega),Uc,CK,hv];simp[fc]
   have i0:∀ H,Ua H 2 (.pv v) 0=some (.pv (.rp [aa p0.1,aa p0.2] 0)):=fun H=>by rw[mw];exact zw H (i:=0) (l:=p0::l') (by simp)
   have Im:=DJ nf.2 p0 (by simp)
   have t3:IntKind.u8.wrap p0.1=p0.1:=wrap_u8 (by omega)
   have vd:=yL (A:=[.tok 1 bs'.length false]) (id:=0) (n:=bs'.length) (h:= .uq) (nl:=false) (bytes:=1) (es:=Nk bs') rfl (by simp[Nk]) (by unfold Ac;omega) (.int .u8 p0.1);rw[Qo] at vd;have aI:Nk (bs'++[p0.1])=Nk bs'++[.int .u8 p0.1]:=by simp[Nk]
   clear mw;generalize hQ:LN _ _ i=Q;simp -implicitDefEqProofs only[SP,WP,za,sevalprocAttr,gD,e1,t2,t3,a1,i0,r0,r1,q0,vd,ta,Za,AV.cut,Fa,Cb,VL];subst hQ;refine⟨bs'++[p0.1],by rw[aI];simp,by simp;omega,?_⟩;intro b hb;rcases Bd.1 hb with h | h
   ·exact Bf b h
   ·simp at h;subst h;omega
  ·rintro t ⟨bs',rfl,Uf,Bf⟩
   have e1:decide (((s.ba.length - bs.length:Nat):Int) < ((s.ba.length - bs.length:Nat):Int))=false:=Ra (by omega);generalize hQ:(fun r:Ex×St=>r.1.stop=true/\_)=Q;simp -implicitDefEqProofs only[SX,sevalprocAttr,gD,e1,VL];subst hQ;exact⟨rfl,_,_,bs',rfl,by simp[Tr.na],by simp[Tr.na],Bf⟩
 obtain⟨r,h1,E,H,bs',rfl,hE5,iS,Bf⟩:=wg yc;have Jg:Mb (Aa (ua (La (fun _=>none) 8) gD) (ta 1 [2,5,17,18,19])) Ga ⟨((((Tr.lf.set 19 (.pv (.int .i64 0))).set 18 (.pv (aa ((s.ba.length - bs.length:Nat):Int)))).set 17 (.pv (.lit 1 (ps.drop bs.length)))).set 5 (.uq 0 false 1 (Nk bs))).set 2 (.pv (.rp [P,aa s.pa] 0)),[.tok 1 bs.length false]⟩=_:=h1;have hBl:Oh (.lit 1 (Nk bs')) bs':=⟨.inr rfl,Bf⟩;have Dn:=waq hh hBl ga;have Laj:∃ k b,qx [.agg [P,aa s.pa],.lit 1 (Nk bs')]=some (.Ba [aa k,.bool b]):=by
  cases hk:Zg s bs' with
  |some k=>exact⟨k,true,Dn.1 k hk⟩
  |none=>exact⟨0,false,Dn.2 hk⟩
 obtain⟨k,b,hk⟩:=Laj;refine⟨IntKind.i64.wrap (s.pa+k),?_⟩;clear fy;generalize Nk bs=ub at *;generalize Nk bs'=ub' at *;simp -implicitDefEqProofs only[DC,SP,WP,za,sevalprocAttr,JP,Oc,Me,Ms,r2,r0,r01,q0,q1,lP,lB,yah,hsl,vn,ta,Za,AV.cut,Fa,Cb,Jg,hE5,iS,hk]
theorem zd.Nd{S:PV}{ss:List ya}{es:List PV}(hS:zd S ss es){i:Nat}(hi:i < ss.length):∃ P ps,Yh (.agg [P,aa ss[i].pa]) ss[i] P ps/\∀ H,Ua H 2 (.pv S) (i:Int)=some (.pv (.rp [P,aa ss[i].pa] 0)):=by
 obtain⟨e,P,ps,he,QH,gl⟩:=hS.get hi
 have heq:=gl.eq
 subst heq;refine⟨P,ps,gl,fun H=> ?_⟩;have hq:i < es.length:=by rw[hS.len];exact hi
 rw[QH];simp only[Ua];rw[if_pos (by unfold Ta;simp;omega),Uc,he];rfl
def fg(p q:ya):Bool:=(Ke p.ba q.ba p.ba.length 0).isSome
abbrev yb(y:Bool)(a b:Int):fa:= .box [.pv (.bool y),.pv (aa a),.pv (aa b)]
abbrev Rg(P:PV)(f:Int):fa:= .box [.pv P,.pv (aa f)]
abbrev aE(S:PV)(cix:Nat)(n i j:Int):Tr:=
 (((((((((((Tr.lf.set 29 (.pv (aa j))).set 28 (.pv (aa n))).set 27 (.pv S)).set 21 (.pv (aa i))).set 20 (.pv (aa n))).set 19 (.pv S)).set 8 (.ptr 4 0)).set 7 (.pv (aa i))).set 6 (.ptr 3 0)).set 4 (.ptr 2 0)).set 2 (.pv (.rp [S] 0))).set 1 (.Ec cix [.ptr 0 0])
abbrev aM(S:PV)(cix:Nat)(n i:Int):Tr:=
 ((((((Tr.lf.set 21 (.pv (aa i))).set 20 (.pv (aa n))).set 19 (.pv S)).set 6 (.ptr 3 0)).set 4 (.ptr 2 0)).set 2 (.pv (.rp [S] 0))).set 1 (.Ec cix [.ptr 0 0])
structure eP(call:Ab)(cix:Nat)(S:PV)(n:Nat)(ask:Nat->Nat->Bool):Prop where
 run:∀ (i j:Nat)(H:List fa),i < n->j < n->H[0]? =some (.box [.pv S])->call cix [.pv (aa i),.pv (aa j),.ptr 0 0] H=some (.pv (.bool (ask i j)),H)
section
variable {call:Ab}{cix:Nat}{S:PV}{ss:List ya}{es:List PV}{ask:Nat->Nat->Bool}(hS:zd S ss es)(ga:uc ss)(hA:eP call cix S ss.length ask)
 (PM:∀ i j,(hi:i < ss.length)->(hj:j < ss.length)->ask i j=true->ss[i].ba.length<=ss[j].ba.length)
include hS ga hA PM
theorem Lap{i:Nat}(hi:i < ss.length){P:PV}(hP:∃ ps,Yh (.agg [P,aa ss[i].pa]) ss[i] P ps)(X:fa)(hX:∀ n,Fa n X=some X):
 Ia (fun r=>(∃ E,r=(.exit 2,⟨E,[.box [.pv S],X,yb false 0 0,yb true 0 0,Rg P ss[i].pa]⟩)/\E.get 1= .Ec cix [.ptr 0 0]/\E.get 2= .pv (.rp [S] 0)/\E.get 4= .ptr 2 0/\E.get 6= .ptr 3 0/\E.get 19= .pv S/\E.get 20= .pv (aa ss.length)/\E.get 21= .pv (aa i)/\∀ j,(hj:j < ss.length)->ask i j=true->fg ss[i] ss[j]=false)\/
  (∃ E a b T,r=(.exit 0,⟨E,[.box [.pv S],X,yb false 0 0,yb false a b]++T⟩)/\E.get 4= .ptr 2 0/\E.get 6= .ptr 3 0/\∃ j,∃ hj:j < ss.length,ask i j=true/\fg ss[i] ss[j]=true))
  (Mb (Aa (ua call iA) (ta 5 [1,2,4,6,7,8,19,20,21,27,28,29])) Ga ⟨aE S cix ss.length i 0,[.box [.pv S],X,yb false 0 0,yb true 0 0,Rg P ss[i].pa]⟩):=by
 obtain⟨ps,gn⟩:=hP;have Wq:=ga.len
 have Nn:=ga.He _ (ic hi)
 have nu:(AV.pv S).one=true:=by rcases hS.is with⟨h,_⟩ | h <;> rw[h] <;> rfl
 obtain⟨Me,Ul⟩:=gn.zm
 have lP:=gn.ba.mb
 have Dah:=fun j hj=>PM i j hi hj;have hAi:=fun j H (hj:j < ss.length)=>hA.run i j H hi hj
 generalize hp:ss[i]=p at *;refine Bb (We (g:=Aa (ua call iA) (ta 5 [1,2,4,6,7,8,19,20,21,27,28,29]))
  (fun j t=>t=⟨aE S cix ss.length i j,[.box [.pv S],X,yb false 0 0,yb true 0 0,Rg P p.pa]⟩/\∀ j',j' < j->(hj:j' < ss.length)->ask i j'=true->fg p ss[j']=false)
  ss.length (by unfold Ga;omega) _ ⟨rfl,fun j' h=>by omega⟩ ?_ ?_) (fun r h=>h.2)
 ·rintro j t hj ⟨rfl,Uj⟩
  obtain⟨Q,qs,gy,a1⟩:=hS.Nd hj
  have Et:=ga.He _ (ic hj)
  have Ss:=Pac gn gy Nn Et (n:=p.ba.length) (gb _);have tI:∀ (b:Bool),(ask i j=true->fg p ss[j]=false)->∀ j',j' < j+1->(hj:j' < ss.length)->ask i j'=true->fg p ss[j']=false:=by
   intro _ h j' hj' hjj ha;rcases yd j' j with h1 | h1
   ·exact Uj j' h1 hjj ha
   ·have:j'=j:=by omega
    subst this;exact h ha
  have hle:=Dah j hj;obtain⟨XA,SY⟩:=gy.zm
  have lQ:=gy.ba.mb
  have Xl:fg p ss[j]=(Ke p.ba ss[j].ba p.ba.length 0).isSome:=rfl
  rw[Xl] at tI;have hex:ask i j=true->(Ke p.ba ss[j].ba p.ba.length 0).isSome=true->∃ j,∃ hj:j < ss.length,ask i j=true/\fg p ss[j]=true:=fun h1 h2=>⟨j,hj,h1,h2⟩
  have sai:∀ {B:PV}{bs:List Int},Oh B bs->bs.length<=ss[j].ba.length->∃ k,DC [.agg [Q,aa ss[j].pa],B]=some (aa k):=fun h1 h2=>kY gy h1 Et h2
  generalize ss[j]=q at *;have e1:decide ((j:Int) < (ss.length:Int))=true:=Qa (by omega);have t2:=ee hj (by unfold maxLen;omega);have a2:∀ H,wa H true 2 (.pv (.rp [Q,aa q.pa] 0))=some (.pv (.agg [Q,aa q.pa])):=fun H=>rfl;have s1:Db [.box [.pv S],X,yb false 0 0,yb true 0 0,Rg P p.pa,.box [.pv .oa,.pv (aa 0)]] 2 (.ptr 5 0) (.pv (.agg [Q,aa q.pa]))=some [.box [.pv S],X,yb false 0 0,yb true 0 0,Rg P p.pa,Rg Q q.pa]:=
   HD _ _ _ _ XA rfl [.box [.pv S],X,yb false 0 0,yb true 0 0,Rg P p.pa] _ rfl
  have WH:=hAi j [.box [.pv S],X,yb false 0 0,yb true 0 0,Rg P p.pa,Rg Q q.pa] hj rfl;have l1:wa [.box [.pv S],X,yb false 0 0,yb true 0 0,Rg P p.pa,Rg Q q.pa] true 2 (.ptr 4 0)=some (.pv (.agg [P,aa p.pa])):=rfl;have l2:wa [.box [.pv S],X,yb false 0 0,yb true 0 0,Rg P p.pa,Rg Q q.pa] true 2 (.ptr 5 0)=some (.pv (.agg [Q,aa q.pa])):=rfl;have l3:wa [.box [.pv S],X,yb false 0 0,yb true 0 0,Rg P p.pa,Rg Q q.pa] false 1 (.ptr 4 0)=some (.pv P):=rfl;have p3:place [.box [.pv S],X,yb false 0 0,yb true 0 0,Rg P p.pa,Rg Q q.pa] 0 (.ptr 4 0)=some (.ptr 4 0):=rfl;have s2:∀ a b:Int,Db [.box [.pv S],X,yb false 0 0,yb true 0 0,Rg P p.pa,Rg Q q.pa] 3 (.ptr 3 0) (.pv (.agg [.bool false,aa a,aa b]))=some [.box [.pv S],X,yb false 0 0,yb false a b,Rg P p.pa,Rg Q q.pa]:=fun a b=>rfl;have Rs:Ha (Fa 5) [.box [.pv S],X,yb false 0 0,yb true 0 0,Rg P p.pa]=some [.box [.pv S],X,yb false 0 0,yb true 0 0,Rg P p.pa]:=by refine gq ?_;intro o ho;simp only[Ae,Vm,or_false] at ho;rcases ho with rfl | rfl | rfl | rfl | rfl <;> first | exact hX _ | simp[Fa,Ha,bc]
  have od:∀ o:fa,[.box [.pv S],X,yb false 0 0,yb true 0 0,Rg P p.pa,o].take 5=[.box [.pv S],X,yb false 0 0,yb true 0 0,Rg P p.pa]:=fun o=>rfl
  have c3:(3 < 5)=True:=by simp
  have c2:(2 < 5)=True:=by simp
  have c4:(4 < 5)=True:=by simp
  have c0:(0 < 5)=True:=by simp
  have hd:deep=6:=rfl;generalize ec:LN _ _ j=QQ;cases pE:ask i j with
  |false=>rw[pE] at WH;simp -implicitDefEqProofs only[SP,WP,za,sevalprocAttr,iA,e1,t2,a1,a2,s1,WH,Rs,od,c0,c2,c3,c4,ta,Za,AV.cut,Cb,aE];subst ec;exact⟨rfl,tI true (fun h=>by rw[pE] at h;cases h)⟩
  |true=>
   rw[pE] at WH;have Ss:=Ss (hle pE);cases hc:Ke p.ba q.ba p.ba.length 0 with
   |none=>
    have h1:=Ss.1 hc
    simp -implicitDefEqProofs only[SP,WP,za,sevalprocAttr,iA,e1,t2,a1,a2,s1,WH,l1,l2,l3,p3,lP,h1,Rs,od,c0,c2,c3,c4,ta,Za,AV.cut,Cb,aE];subst ec;exact⟨rfl,tI true (fun _=>by rw[hc];rfl)⟩
   |some bs=>
    obtain⟨v,h1,hv,wS,dB⟩:=Ss.2 bs hc
    have hB:Oh v bs:=⟨hv,dB⟩;obtain⟨k1,Cn⟩:=kY gn hB Nn (by omega);obtain⟨k2,Qe⟩:=sai hB (by have:=hle pE;omega);simp -implicitDefEqProofs only[SP,WP,za,sevalprocAttr,iA,e1,a1,a2,s1,WH,l1,l2,l3,p3,lP,h1,Cn,Qe,s2,aE];subst ec;exact .inr ⟨_,k1,k2,[Rg P p.pa,Rg Q q.pa],rfl,by simp[Tr.na],by simp[Tr.na],hex pE (by rw[hc];rfl)⟩
 ·rintro t ⟨rfl,Uj⟩
  have e1:decide ((ss.length:Int) < (ss.length:Int))=false:=Ra (by omega);generalize hQ:(fun r:Ex×St=>r.1.stop=true/\_)=Q;simp -implicitDefEqProofs only[SX,sevalprocAttr,iA,e1,aE];subst hQ;exact⟨rfl,.inl ⟨_,rfl,by simp[Tr.na],by simp[Tr.na],by simp[Tr.na],by simp[Tr.na],by simp[Tr.na],by simp[Tr.na],by simp[Tr.na],fun j hj ha=>Uj j hj hj ha⟩⟩
theorem Nap(X:fa)(hX:∀ n,Fa n X=some X):
 Ia (fun r=>(∃ E,r=(.exit 0,⟨E,[.box [.pv S],X,yb false 0 0,yb true 0 0]⟩)/\E.get 4= .ptr 2 0/\E.get 6= .ptr 3 0/\∀ i j,(hi:i < ss.length)->(hj:j < ss.length)->ask i j=true->fg ss[i] ss[j]=false)\/
  (∃ E a b T,r=(.exit 0,⟨E,[.box [.pv S],X,yb false 0 0,yb false a b]++T⟩)/\E.get 4= .ptr 2 0/\E.get 6= .ptr 3 0/\∃ i j,∃ hi:i < ss.length,∃ hj:j < ss.length,ask i j=true/\fg ss[i] ss[j]=true))
  (Mb (Aa (ua call rG) (ta 4 [1,2,4,6,19,20,21])) Ga ⟨aM S cix ss.length 0,[.box [.pv S],X,yb false 0 0,yb true 0 0]⟩):=by
 have Wq:=ga.len
 have lS:=hS.mb
 refine Bb (We (g:=Aa (ua call rG) (ta 4 [1,2,4,6,19,20,21]))
  (fun i t=>t=⟨aM S cix ss.length i,[.box [.pv S],X,yb false 0 0,yb true 0 0]⟩/\∀ i' j,i' < i->(hi:i' < ss.length)->(hj:j < ss.length)->ask i' j=true->fg ss[i'] ss[j]=false)
  ss.length (by unfold Ga;omega) _ ⟨rfl,fun i' j h=>by omega⟩ ?_ ?_) (fun r h=>h.2)
 ·rintro i t hi ⟨rfl,Uj⟩
  obtain⟨P,ps,gn,a1⟩:=hS.Nd hi
  have Tf:=Lap hS ga hA PM hi ⟨ps,gn⟩ X hX;obtain⟨Me,Ul⟩:=gn.zm
  have tI:(∀ j,(hj:j < ss.length)->ask i j=true->fg ss[i] ss[j]=false)->∀ i' j,i' < i+1->(hi:i' < ss.length)->(hj:j < ss.length)->ask i' j=true->fg ss[i'] ss[j]=false:=by
   intro h i' j hi' hii hj ha;rcases yd i' i with h1 | h1
   ·exact Uj i' j h1 hii hj ha
   ·have:i'=i:=by omega
    subst this;exact h j hj ha
  have hex:(∃ j,∃ hj:j < ss.length,ask i j=true/\fg ss[i] ss[j]=true)->∃ i j,∃ hi:i < ss.length,∃ hj:j < ss.length,ask i j=true/\fg ss[i] ss[j]=true:=fun ⟨j,hj,h⟩=>⟨i,j,hi,hj,h⟩
  generalize ss[i]=p at *;have e1:decide ((i:Int) < (ss.length:Int))=true:=Qa (by omega);have t2:=ee hi (by unfold maxLen;omega);have a2:∀ H,wa H true 2 (.pv (.rp [P,aa p.pa] 0))=some (.pv (.agg [P,aa p.pa])):=fun H=>rfl;have s1:Db [.box [.pv S],X,yb false 0 0,yb true 0 0,.box [.pv .oa,.pv (aa 0)]] 2 (.ptr 4 0) (.pv (.agg [P,aa p.pa]))=some [.box [.pv S],X,yb false 0 0,yb true 0 0,Rg P p.pa]:=
   HD _ _ _ _ Me rfl [.box [.pv S],X,yb false 0 0,yb true 0 0] _ rfl
  have iB:∀ T,Ha (Fa 4) (([.box [.pv S],X,yb false 0 0,yb true 0 0]++T).take 4)=some [.box [.pv S],X,yb false 0 0,yb true 0 0]:=fun T=>by refine gq ?_;intro o ho;simp only[Sg,Kf,RC,List.take_zero,Ae,Vm,or_false] at ho;rcases ho with rfl | rfl | rfl | rfl <;> first | exact hX _ | simp[Fa,Ha,bc]
  have dZ:∀ o,Ha (Fa 4) ([.box [.pv S],X,yb false 0 0,yb true 0 0,o].take 4)=some [.box [.pv S],X,yb false 0 0,yb true 0 0]:=fun o=>iB [o];have Rs:Ha (Fa 5) [.box [.pv S],X,yb false 0 0,yb true 0 0,Rg P p.pa]=some [.box [.pv S],X,yb false 0 0,yb true 0 0,Rg P p.pa]:=by refine gq ?_;intro o ho;simp only[Ae,Vm,or_false] at ho;rcases ho with rfl | rfl | rfl | rfl | rfl <;> first | exact hX _ | simp[Fa,Ha,bc]
  have Iu:([.box [.pv S],X,yb false 0 0,yb true 0 0,Rg P p.pa]:List fa).take 5=[.box [.pv S],X,yb false 0 0,yb true 0 0,Rg P p.pa]:=rfl
  have r0:∀ H (x:PV),wa H false 1 (.pv (.rp [x] 0))=some (.pv x):=fun H x=>rfl;have q0:∀ H (x:PV),place H 0 (.pv (.rp [x] 0))=some (.pv (.rp [x] 0)):=fun H x=>rfl;have c3:(3 < 5)=True:=by simp
  have c2:(2 < 5)=True:=by simp
  have c4:(4 < 5)=True:=by simp
  have c0:(0 < 5)=True:=by simp
  have d3:(3 < 4)=True:=by simp
  have d2:(2 < 4)=True:=by simp
  have d0:(0 < 4)=True:=by simp
  generalize ec:LN _ _ i=QQ;simp -implicitDefEqProofs only[SP,WP,za,sevalprocAttr,rG,Oc,e1,a1,a2,s1,r0,q0,lS,Rs,Iu,c0,c2,c3,c4,ta,Za,AV.cut,Cb,aM];refine Bb Tf ?_;rintro r (⟨E,rfl,g1,g2,g4,g6,g19,g20,g21,hn⟩ | ⟨E,a,b,T,rfl,g4,g6,hy⟩)
  ·simp -implicitDefEqProofs only[SP,WP,za,sevalprocAttr,g1,g2,g4,g6,g19,g20,g21,t2,hX 4,d0,d2,d3,ta,Za,AV.cut,Cb]
   subst ec;exact⟨rfl,tI hn⟩
  ·simp -implicitDefEqProofs only[SP,WP,za,sevalprocAttr]
   subst ec;exact .inr ⟨E,a,b,T,rfl,g4,g6,hex hy⟩
 ·rintro t ⟨rfl,Uj⟩
  have e1:decide ((ss.length:Int) < (ss.length:Int))=false:=Ra (by omega);generalize hQ:(fun r:Ex×St=>r.1.stop=true/\_)=Q;simp -implicitDefEqProofs only[SX,sevalprocAttr,rG,e1,aM];subst hQ;exact⟨rfl,.inl ⟨_,rfl,by simp[Tr.na],by simp[Tr.na],fun i j hi hj ha=>Uj i j hi hi hj ha⟩⟩
theorem Y7(X:fa)(hX:∀ n,Fa n X=some X):
 ∃ y a b T,Gc call Bv [.pv (.agg [S]),.Ec cix [.ptr 0 0]] [.box [.pv S],X]=some (.pv (.Ba [.agg [.bool y,aa a,aa b],aa 0]),[.box [.pv S],X]++T)/\
  (y=true↔∀ i j,(hi:i < ss.length)->(hj:j < ss.length)->ask i j=true->fg ss[i] ss[j]=false):=by
 have lS:=hS.mb
 have nu:(AV.pv S).one=true:=by rcases hS.is with⟨h,_⟩ | h <;> rw[h] <;> rfl
 obtain⟨b,hv,Ao⟩:=yO hS;have:=Ao.2 ga
 subst this;have Gi:=Nap hS ga hA PM X hX;have s1:Db [.box [.pv S],X,yb false 0 0,.box [.pv (.bool false),.pv (aa 0),.pv (aa 0)]] 3 (.ptr 3 0) (.pv (.agg [.bool true,aa 0,aa 0]))=some [.box [.pv S],X,yb false 0 0,yb true 0 0]:=rfl;have iB:Ha (Fa 4) [.box [.pv S],X,yb false 0 0,yb true 0 0]=some [.box [.pv S],X,yb false 0 0,yb true 0 0]:=by refine gq ?_;intro o ho;simp only[Ae,Vm,or_false] at ho;rcases ho with rfl | rfl | rfl | rfl <;> first | exact hX _ | simp[Fa,Ha,bc]
 have FB:([.box [.pv S],X,yb false 0 0,yb true 0 0]:List fa).take 4=[.box [.pv S],X,yb false 0 0,yb true 0 0]:=rfl
 have r1:∀ H (x:PV),wa H true 1 (.pv (.rp [x] 0))=some (.pv (.agg [x])):=fun H x=>rfl;have r0:∀ H (x:PV),wa H false 1 (.pv (.rp [x] 0))=some (.pv x):=fun H x=>rfl;have q0:∀ H (x:PV),place H 0 (.pv (.rp [x] 0))=some (.pv (.rp [x] 0)):=fun H x=>rfl;have d3:(3 < 4)=True:=by simp
 have d2:(2 < 4)=True:=by simp
 have d0:(0 < 4)=True:=by simp
 have key:Ia (fun r=>∃ y a b T,r=(.pv (.Ba [.agg [.bool y,aa a,aa b],aa 0]),[.box [.pv S],X]++T)/\(y=true↔∀ i j,(hi:i < ss.length)->(hj:j < ss.length)->ask i j=true->fg ss[i] ss[j]=false))
  (Gc call Bv [.pv (.agg [S]),.Ec cix [.ptr 0 0]] [.box [.pv S],X]):=by
  generalize ec:(fun r:AV×List fa=>_)=QQ;simp -implicitDefEqProofs only[SP,WP,za,sevalprocAttr,Bv,Oc,nu,r1,r0,q0,hv,lS,s1,iB,FB,d0,d2,d3,ta,Za,AV.cut,Cb];refine Bb Gi ?_;rintro r (⟨E,rfl,g4,g6,hn⟩ | ⟨E,a,b,T,rfl,g4,g6,i,j,hi,hj,h1,h2⟩)
  ·have l1:wa [.box [.pv S],X,yb false 0 0,yb true 0 0] true 3 (.ptr 3 0)=some (.pv (.agg [.bool true,aa 0,aa 0])):=rfl
   have s2:Db [.box [.pv S],X,yb false 0 0,yb true 0 0] 3 (.ptr 2 0) (.pv (.agg [.bool true,aa 0,aa 0]))=some [.box [.pv S],X,yb true 0 0,yb true 0 0]:=rfl;have l2:wa [.box [.pv S],X,yb true 0 0,yb true 0 0] true 3 (.ptr 2 0)=some (.pv (.agg [.bool true,aa 0,aa 0])):=rfl;simp -implicitDefEqProofs only[SP,WP,za,sevalprocAttr,g4,g6,l1,s2,l2];subst ec;exact⟨true,0,0,_,rfl,by simpa using hn⟩
  ·have l1:wa ([.box [.pv S],X,yb false 0 0,yb false a b]++T) true 3 (.ptr 3 0)=some (.pv (.agg [.bool false,aa a,aa b])):=rfl
   have s2:Db ([.box [.pv S],X,yb false 0 0,yb false a b]++T) 3 (.ptr 2 0) (.pv (.agg [.bool false,aa a,aa b]))=some ([.box [.pv S],X,yb false a b,yb false a b]++T):=rfl;have l2:wa ([.box [.pv S],X,yb false a b,yb false a b]++T) true 3 (.ptr 2 0)=some (.pv (.agg [.bool false,aa a,aa b])):=rfl;generalize Uv:[.box [.pv S],X,yb false 0 0,yb false a b]++T=A1 at *;generalize cS:[.box [.pv S],X,yb false a b,yb false a b]++T=A2 at *;simp -implicitDefEqProofs only[SP,WP,za,sevalprocAttr,g4,g6,l1,s2,l2];subst ec cS;refine⟨false,a,b,_,rfl,?_⟩;simp only[Sc,false_iff];intro h;rw[h i j hi hj h1] at h2;cases h2
 obtain⟨r,h1,y,a,b,T,rfl,h2⟩:=wg key;exact⟨y,a,b,T,h1,h2⟩
end
def Ee(ss:List ya):Prop:=∀ i j,(hi:i < ss.length)->(hj:j < ss.length)->ss[i].ba.length < ss[j].ba.length->fg ss[i] ss[j]=false
theorem gao(call:Ab){S:PV}{ss:List ya}{es:List PV}(hS:zd S ss es)(i j:Nat)(H:List fa)(hi:i < ss.length)(hj:j < ss.length)(hH:H[0]? =some (.box [.pv S])):
 Gc call fD [.pv (aa i),.pv (aa j),.ptr 0 0] H=some (.pv (.bool (decide (ss[i].ba.length < ss[j].ba.length))),H):=by
 obtain⟨P,ps,gn,a1⟩:=hS.Nd hi
 obtain⟨Q,qs,gy,a2⟩:=hS.Nd hj
 have lP:=gn.ba.mb
 have lQ:=gy.ba.mb
 have p0:place H 0 (.ptr 0 0)=some (.ptr 0 0):=by simp[place,hH]
 have l0:wa H false 1 (.ptr 0 0)=some (.pv S):=by simp[wa,hH,tg]
 have r0:∀ H (x y:PV),wa H false 1 (.pv (.rp [x,y] 0))=some (.pv x):=fun H x y=>rfl;have q0:∀ H (x y:PV),place H 0 (.pv (.rp [x,y] 0))=some (.pv (.rp [x,y] 0)):=fun H x y=>rfl;have e:decide ((ss[i].ba.length:Int) < (ss[j].ba.length:Int))=decide (ss[i].ba.length < ss[j].ba.length):=by simp
 generalize ss[i]=p at *;generalize ss[j]=q at *
 by_cases hij:P=Q
 ·subst hij
  have:p.ba.length=q.ba.length:=by have h1:=lP [];have h2:=lQ [];rw[h1] at h2;exact Dx h2
  rw[this] at lP e ⊢;simp -implicitDefEqProofs only[SP,WP,za,sevalprocAttr,fD,p0,l0,a1,a2,r0,q0,lP,e]
 ·simp -implicitDefEqProofs only[SP,WP,za,sevalprocAttr,fD,p0,l0,a1,a2,r0,q0,lP,lQ,e]
theorem B6{S:PV}{ss:List ya}{es:List PV}(hS:zd S ss es):
 (¬ uc ss->Qr [.agg [S]]=some (.Ba [.agg [.bool false,aa 0,aa 0],aa 84]))/\
 (uc ss->∃ y a b,Qr [.agg [S]]=some (.Ba [.agg [.bool y,aa a,aa b],aa 0])/\(y=true↔Ee ss)):=by
 have nu:(AV.pv S).one=true:=by rcases hS.is with⟨h,_⟩ | h <;> rw[h] <;> rfl
 have zL:BF 25=some Bv:=rfl;have s0:wa [.box [.pv S],yb false 0 0] true 1 (.ptr 0 0)=some (.pv (.agg [S])):=rfl;constructor
 ·intro Uj
  obtain⟨b,hv,Ao⟩:=yO hS;have hb:b=false:=by cases b with | false=>rfl | true=>exact absurd (Ao.1 rfl) Uj
  subst hb;have r1:∀ H (x:PV),wa H true 1 (.pv (.rp [x] 0))=some (.pv (.agg [x])):=fun H x=>rfl;have s1:Db [.box [.pv S],yb false 0 0,.box [.pv (.bool false),.pv (aa 0),.pv (aa 0)]] 3 (.ptr 2 0) (.pv (.agg [.bool false,aa 0,aa 0]))=some [.box [.pv S],yb false 0 0,yb false 0 0]:=rfl;have l2:wa [.box [.pv S],yb false 0 0,yb false 0 0] true 3 (.ptr 2 0)=some (.pv (.agg [.bool false,aa 0,aa 0])):=rfl;have s2:Db [.box [.pv S],yb false 0 0,yb false 0 0] 3 (.ptr 1 0) (.pv (.agg [.bool false,aa 0,aa 0]))=some [.box [.pv S],yb false 0 0,yb false 0 0]:=rfl;have l3:wa [.box [.pv S],yb false 0 0,yb false 0 0] true 3 (.ptr 1 0)=some (.pv (.agg [.bool false,aa 0,aa 0])):=rfl;simp -implicitDefEqProofs only[Qr,SP,WP,za,sevalprocAttr,UK,zL,Bv,nu,s0,r1,hv,s1,l2,s2,l3]
 ·intro ga
  have hA:eP (La BF 7) 4 S ss.length (fun i j=>if h:i < ss.length/\j < ss.length then decide (ss[i].ba.length < ss[j].ba.length) else false):=by refine⟨fun i j H hi hj hH=> ?_⟩;rw[Dm BF 6 4 _ H (f:=fD) rfl,gao _ hS i j H hi hj hH,dif_pos ⟨hi,hj⟩]
  obtain⟨y,a,b,T,h1,h2⟩:=Y7 hS ga hA (fun i j hi hj h=>by rw[dif_pos ⟨hi,hj⟩] at h;have:=of_decide_eq_true h;omega) (yb false 0 0) (fun n=>by simp[Fa,Ha,bc]);refine⟨y,a,b,?_,?_⟩
  ·have s2:Db ([.box [.pv S],yb false 0 0]++T) 3 (.ptr 1 0) (.pv (.agg [.bool y,aa a,aa b]))=some ([.box [.pv S],yb y a b]++T):=rfl
   have l3:wa ([.box [.pv S],yb y a b]++T) true 3 (.ptr 1 0)=some (.pv (.agg [.bool y,aa a,aa b])):=rfl;generalize Uv:[.box [.pv S],yb false 0 0]++T=A1 at *;generalize cS:[.box [.pv S],yb y a b]++T=A2 at *;simp -implicitDefEqProofs only[Qr,SP,WP,za,sevalprocAttr,UK,zL,nu,s0,h1,s2,l3]
  ·rw[h2]
   unfold Ee;constructor
   ·intro h i j hi hj hlt
    exact h i j hi hj (by rw[dif_pos ⟨hi,hj⟩];exact decide_eq_true hlt)
   ·intro h i j hi hj hlt
    rw[dif_pos ⟨hi,hj⟩] at hlt;exact h i j hi hj (of_decide_eq_true hlt)
def cellsOf(n:Nat)(g:Nat->AV):List AV:=(List.range n).map g
theorem Rq(n:Nat)(g:Nat->AV):(cellsOf n g).length=n:=by simp[cellsOf]
theorem CL{n i:Nat}(g:Nat->AV)(h:i < n):(cellsOf n g)[i]? =some (g i):=by simp[cellsOf,h]
def Gl(g:Nat->AV)(i:Nat)(v:AV):Nat->AV:=fun j=>if j=i then v else g j
theorem CJ(g:Nat->AV)(i:Nat)(v:AV):Gl g i v i=v:=if_pos rfl
theorem uC(g:Nat->AV){i j:Nat}(v:AV)(h:j≠i):Gl g i v j=g j:=qa h
theorem IW{n i:Nat}(g:Nat->AV)(v:AV):(cellsOf n g).set i v=cellsOf n (Gl g i v):=by
 apply Nl;intro j
 by_cases hj:j < n
 ·rw[CL _ hj]
  by_cases h:i=j
  ·subst h;rw[Of (by rw[Rq];exact hj),CJ]
  ·rw[ze h,CL _ hj,uC _ _ (tf h)]
 ·rw[dh (by rw[Um,Rq];omega),dh (by rw[Rq];omega)]
theorem XU{H:List fa}{id m n off sz:Nat}{ag:Bool}{g:Nat->AV}{fl:Nat}{nl:Bool}(hg:H[id]? =some (.seq sz ag (cellsOf n g) fl nl))(hm:m=n)(ho:off < n):
 wa H false 1 (.Sb id m off)=some (g off):=by
 subst hm;simp only[wa,hg,Rq,if_true,tg,Sc,if_false,CL g ho]
theorem uJ{H:List fa}{id m n off sz d:Nat}{ag:Bool}{g:Nat->AV}{fl:Nat}{nl:Bool}(hg:H[id]? =some (.seq sz ag (cellsOf n g) fl nl))(hm:m=n):
 place H d (.Sb id m off)=some (.Sb id m (off+d)):=by
 subst hm;simp only[place,hg,Rq,if_true]
theorem YU{H:List fa}{id m n off sz:Nat}{ag:Bool}{g:Nat->AV}{fl:Nat}{nl:Bool}(hg:H[id]? =some (.seq sz ag (cellsOf n g) fl nl))(hm:m=n)(ho:off < n){v:AV}(hv:v.cells=[v])(h1:v.one=true):
 Db H 1 (.Sb id m off) v=some (H.set id (.seq sz ag (cellsOf n (Gl g off v)) n nl)):=by
 subst hm;simp only[Db,hv,Td,Ch,tm,h1,List.all_nil,wz,and_self,if_true,hg,Rq];rw[if_pos ⟨trivial,by omega⟩];simp only[za,IW]
def Xf:List (Int×Int)->List Int
 | []=>[]
 |p::l=>vi 0 p++Xf l
theorem Pal(l:List (Int×Int)):l.flatMap (vi 0)=Xf l:=by
 induction l with
 |nil=>rfl
 |cons p l ih=>rw[yx,ih];rfl
theorem P3{p:Int×Int}(h0:0<=p.1)(h1:p.1<=p.2):vi 0 p=(List.range (p.2 - p.1+1).toNat).map fun (i:Nat)=>p.1+(i:Int):=by
 unfold vi;rw[qa (by omega),show max p.1 0=p.1 from by omega]
open Go.AM
abbrev u8(n:Int):PV:= .int .u8 n
structure Mo(A:PV)(l:List (List Oa)):Prop where
 held:∃ es,Pb 1 A es/\es.length=l.length/\∀ (i:Nat) v e,es[i]? =some v->l[i]? =some e->Pb 3 v (e.map gu)
 len:l.length * 24<=140737488355328
 lens:∀ e∈l,e.length * 24<=140737488355328
def Gh(b:Int):List Oa->Option Int
 | []=>none
 |e::r=>if e.lo<=b/\b<=e.hi then some e.to else Gh b r
def Md(l:List (List Oa))(st b:Int):Int×Bool:=
 if st < 0 then (0,false) else match l[st.toNat]? with
  |some e=>match Gh b e with
   |some t=>(t,true)
   |none=>(0,false)
  |none=>(0,false)
section
variable (b:Int)(hb:0<=b/\b<=255)
include hb
variable (V:PV)(l:List Oa)(hV:Pb 3 V (l.map gu))(hw:l.length<=maxLen)
include hV hw
end
theorem Mo.get{A:PV}{l:List (List Oa)}(h:Mo A l){i:Nat}(hi:i < l.length):∃ es V,A= .lit 1 es/\es.length=l.length/\es[i]? =some V/\Pb 3 V (l[i].map gu):=by
 obtain⟨es,h1,h2,h3⟩:=h.held
 have Bk:i < es.length:=by omega
 refine⟨es,es[i],h1.lit Bk,h2,by simp[Bk],h3 i _ _ (by simp[Bk]) (by simp[hi])⟩
theorem Mo.mb{A:PV}{l:List (List Oa)}(h:Mo A l)(H:List fa):mb H 0 (.pv A)=some l.length:=by
 obtain⟨es,h1,h2,h3⟩:=h.held
 rw[h1.len,h2]
section
variable (A:PV)(l:List (List Oa))(hA:Mo A l)(st b:Int)(hb:0<=b/\b<=255)
include hA hb
end
section
variable (call:Ab)(es:List PV)(st b:Int)(hb:0<=b/\b<=255)(e:List Oa)(V:PV)(h0:0<=st/\st < es.length)(hV:es[st.toNat]? =some V)(hVL:Pb 3 V (e.map gu))(hw:e.length<=maxLen)
include h0 hV hVL
include hb hw
end
section
variable (A:PV)(l:List (List Oa))(hA:Mo A l)(st b:Int)(hb:0<=b/\b<=255)
include hA hb
end
def Jn(Ob:List Int)(to:Int):Int:=if 0<=to then Ob.getD to.toNat 0 else to
theorem UT{Ob row:List Int}{i:Nat}:∀ (xs:List Nat)(C:List Int)(p:Nat),p < C.length->
 (Og Ob row i xs C)[p]? =if h:i * 256<=p/\p - i * 256∈xs/\p - i * 256 < row.length then (if 0<=row.getD (p - i * 256) 0 then some (Jn Ob (row.getD (p - i * 256) 0)) else C[p]?) else C[p]?
 | [],C,p,hp=>by simp[Og]
 |x::xs,C,p,hp=>by
  rw[Og];have key:∀ C',C'.length=C.length->(p≠i * 256+x->C'[p]? =C[p]?)->(p=i * 256+x->C'[p]? =if x < row.length then (if 0<=row.getD x 0 then some (Jn Ob (row.getD x 0)) else C[p]?) else C[p]?)->
   (Og Ob row i xs C')[p]? =if h:i * 256<=p/\p - i * 256∈x::xs/\p - i * 256 < row.length then (if 0<=row.getD (p - i * 256) 0 then some (Jn Ob (row.getD (p - i * 256) 0)) else C[p]?) else C[p]? :=by
   intro C' hl h1 h2;rw[UT xs C' p (by omega)]
   by_cases hx:p=i * 256+x
   ·have e:p - i * 256=x:=by omega
    have h3:=h2 hx;rw[e,h3];have hle:i * 256<=p:=by omega
    by_cases hr:x < row.length
    ·simp only[hle,hr,and_true,true_and,Ae,true_or,dite_true,if_true]
     by_cases h0:0<=row.getD x 0
     ·simp only[h0,if_true,ite_self,dite_eq_ite]
     ·simp only[h0,if_false,ite_self,dite_eq_ite]
    ·simp[hr]
   ·rw[h1 hx]
    have:(i * 256<=p/\p - i * 256∈xs/\p - i * 256 < row.length)=(i * 256<=p/\p - i * 256∈x::xs/\p - i * 256 < row.length):=by
     refine propext ⟨fun h=>⟨h.1,by simp[h.2.1],h.2.2⟩,fun h=>⟨h.1,?_,h.2.2⟩⟩;rcases Ae.1 h.2.1 with h4 | h4
     ·omega
     ·exact h4
    simp only[this]
  cases hr:row[x]? with
  |none=>
   refine key _ rfl (fun _=>rfl) (fun hx=> ?_);have:¬x < row.length:=by intro h;rw[Rb h] at hr;cases hr
   rw[qa this]
  |some to=>
   have hx2:x < row.length:=(Ad.1 hr).1
   have me:row.getD x 0=to:=by rw[sf,hr];rfl
   simp only
   by_cases h0:0<=to
   ·rw[if_pos h0]
    refine key _ (by simp) (fun hx=>by rw[ze (by omega)]) (fun hx=> ?_);rw[if_pos hx2,me,if_pos h0,hx,Of (by omega),Jn,if_pos h0]
   ·rw[qa h0]
    refine key _ rfl (fun _=>rfl) (fun hx=> ?_);rw[if_pos hx2,me,qa h0]
theorem iJ{C:List Int}{i x:Nat}(hx:x < 256):(Kb C i)[x]? =C[i * 256+x]? :=by
 unfold Kb;rw[Qz hx,CK]
theorem gal{n:Nat}{Ob C:List Int}{i:Nat}(hC:C.length=n * 256)(hi:i < n):
 Kb (Og Ob (Kb C i) i (List.range 256) C) i=(Kb C i).map (Jn Ob):=by
 apply Nl;intro x
 by_cases hx:x < 256
 ·rw[iJ hx,UT _ _ _ (by omega),Gd]
  have e:i * 256+x - i * 256=x:=by omega
  have hl:=xq hC hi;rw[e,dif_pos ⟨by omega,by simpa using hx,by omega⟩];have hg:(Kb C i)[x]? =some ((Kb C i).getD x 0):=by rw[sf,Rb (by omega)];rfl
  have Zk:=hg;rw[iJ hx] at Zk;rw[Zk,hg]
  by_cases h0:0<=(Kb C i).getD x 0
  ·rw[if_pos h0];rfl
  ·rw[qa h0,Vc,Jn,qa h0]
 ·rw[dh,dh]
  ·rw[wb,xq hC hi];omega
  ·rw[xq (n:=n) (by rw[aF,hC]) hi];omega
theorem fal{n:Nat}{Ob row C:List Int}{i j:Nat}(hC:C.length=n * 256)(hj:j < n)(hij:j≠i)(hr:row.length=256):
 Kb (Og Ob row i (List.range 256) C) j=Kb C j:=by
 apply Nl;intro x
 by_cases hx:x < 256
 ·rw[iJ hx,iJ hx,UT _ _ _ (by omega)]
  rw[dif_neg];rintro⟨h1,h2,h3⟩;omega
 ·rw[dh,dh]
  ·rw[xq hC hj];omega
  ·rw[xq (n:=n) (by rw[aF,hC]) hj];omega
structure Wm(n:Nat)(C0:List Int)(i:Nat)(s:Ml):Prop where
 hC:s.C.length=n * 256
 hk:s.Ob.length=n
 hi:∀ j,i<=j->j < n->Kb s.C j=(Kb C0 j).map (Jn s.Ob)
 lo:∀ j,j < i->Kb s.C j=Kb C0 j
 look:∀ j,i<=j->j < n->Ii (Kb s.C j) s.M=some (s.Ob.getD j 0)
 inj:∀ p∈s.M,∀ q∈s.M,p.2=q.2->p.1=q.1
 rep:∀ p∈s.M,(i:Int)<=p.2/\p.2 < n/\Kb s.C p.2.toNat=p.1
def wK(n:Nat)(C0:List Int):Prop:=∀ j,j < n->∀ to∈Kb C0 j,0<=to->(j:Int) < to/\to < n
theorem Hal{Ob:List Int}{i:Nat}{v to:Int}(h:0<=to->to.toNat≠i):Jn (Ob.set i v) to=Jn Ob to:=by
 unfold Jn
 split
 ·next h0=>rw[sf,sf,ze (tf (h h0))]
 ·rfl
theorem S2{a:List Int}{M N:List (List Int×Int)}:Ii a (M++N)=(Ii a M).or (Ii a N):=by
 induction M with
 |nil=>simp[Ii]
 |cons p M ih=>
  rw[Sg,Ii,Ii]
  split
  ·rfl
  ·exact ih
theorem Wm.step{n:Nat}{C0:List Int}(hlat:wK n C0){i:Nat}{s:Ml}(Tf:i < n)(h:Wm n C0 (i+1) s):Wm n C0 i (tt i s):=by
 have Xc:Kb s.C i=Kb C0 i:=h.lo i (by omega)
 have Ui:(Kb C0 i).length=256:=by rw[<- Xc];exact xq h.hC Tf
 have cy:(Og s.Ob (Kb s.C i) i (List.range 256) s.C).length=n * 256:=by rw[aF,h.hC]
 have Zp:=gal (Ob:=s.Ob) h.hC Tf
 have zo:∀ j,j < n->j≠i->Kb (Og s.Ob (Kb s.C i) i (List.range 256) s.C) j=Kb s.C j:=fun j hj Ei=>fal h.hC hj Ei (by rw[Xc];exact Ui)
 have Fi:=@WT i s;have Mh:=@VT i s;generalize Og s.Ob (Kb s.C i) i (List.range 256) s.C=C2 at *
 have ur:∀ v j,i<=j->j < n->(Kb C0 j).map (Jn (s.Ob.set i v))=(Kb C0 j).map (Jn s.Ob):=by intro v j hij hj;apply Hq;intro to me;apply Hal;intro h0;have:=hlat j hj to me h0;omega
 have main:∀ v M',Ii (Kb C2 i) M'=some v->(∀ j,i+1<=j->j < n->Ii (Kb C2 j) M'=Ii (Kb s.C j) s.M)->
  (∀ p∈M',∀ q∈M',p.2=q.2->p.1=q.1)->(∀ p∈M',(i:Int)<=p.2/\p.2 < n/\Kb C2 p.2.toNat=p.1)->Wm n C0 i ⟨C2,s.Ob.set i v,M'⟩:=by
  intro v M' h1 h2 h3 h4;refine⟨cy,by simp[h.hk],?_,?_,?_,h3,h4⟩
  ·intro j hij hj
   show Kb C2 j=(Kb C0 j).map (Jn (s.Ob.set i v))
   rw[ur v j hij hj]
   by_cases Ei:j=i
   ·subst Ei;rw[Zp,Xc]
   ·rw[zo j hj Ei,h.hi j (by omega) hj]
  ·intro j hj
   show Kb C2 j=_;rw[zo j (by omega) (by omega),h.lo j (by omega)]
  ·intro j hij hj
   show Ii (Kb C2 j) M'=some ((s.Ob.set i v).getD j 0)
   by_cases Ei:j=i
   ·subst Ei
    rw[h1,sf,Of (by rw[h.hk];exact hj)];rfl
   ·rw[h2 j (by omega) hj,h.look j (by omega) hj,sf,sf,ze (tf Ei)]
 cases wo:Ii (Kb C2 i) s.M with
 |some v=>
  rw[Fi wo];refine main v s.M wo (fun j h1 h2=>by rw[zo j h2 (by omega)]) h.inj ?_
  intro p hp;obtain⟨h1,h2,h3⟩:=h.rep p hp
  exact⟨by omega,h2,by rw[zo _ (by omega) (by omega),h3]⟩
 |none=>
  rw[Mh wo];refine main i _ (by rw[S2,wo];simp[Ii]) (fun j h1 h2=> ?_) ?_ ?_
  ·rw[zo j h2 (by omega),S2,h.look j h1 h2];rfl
  ·intro p hp q hq Hy
   rcases Bd.1 hp with hp | hp <;> rcases Bd.1 hq with hq | hq
   ·exact h.inj p hp q hq Hy
   ·simp at hq;subst hq
    have:=(h.rep p hp).1
    simp only at Hy;omega
   ·simp at hp;subst hp
    have:=(h.rep q hq).1
    simp only at Hy;omega
   ·simp at hp hq;subst hp hq;rfl
  ·intro p hp
   rcases Bd.1 hp with hp | hp
   ·obtain⟨h1,h2,h3⟩:=h.rep p hp
    exact⟨by omega,h2,by rw[zo _ (by omega) (by omega),h3]⟩
   ·simp at hp;subst hp
    exact⟨by simp,by simp;omega,by simp⟩
theorem Wm.go{n:Nat}{C0:List Int}(hlat:wK n C0):∀ (k:Nat)(s:Ml),k<=n->Wm n C0 k s->Wm n C0 0 (Hn k s)
 |0,s,_,h=>h
 |k+1,s,hk,h=>Wm.go hlat k _ (by omega) (h.step hlat (by omega))
theorem jal{n:Nat}{C0:List Int}(hlat:wK n C0)(hC:C0.length=n * 256):Wm n C0 0 (eg n C0):=by
 refine Wm.go hlat n _ (gb _) ⟨hC,by simp,fun j h1 h2=>by omega,fun j hj=>rfl,fun j h1 h2=>by omega,by simp,by simp⟩
theorem Wm.L2{n:Nat}{C0:List Int}{s:Ml}(h:Wm n C0 0 s){j k:Nat}(hj:j < n)(hk:k < n):s.Ob.getD j 0=s.Ob.getD k 0↔Kb s.C j=Kb s.C k:=by
 have h1:=h.look j (by omega) hj
 have h2:=h.look k (by omega) hk
 constructor
 ·intro e
  obtain⟨p,hp,e1,e2⟩:=NI h1;obtain⟨q,hq,e3,e4⟩:=NI h2;rw[<- e1,<-e3];exact h.inj p hp q hq (by rw[e2,e4,e])
 ·intro e
  rw[e,h2] at h1;exact (Dx h1).symm
theorem Wm.Uy{n:Nat}{C0:List Int}{s:Ml}(h:Wm n C0 0 s){j:Nat}(hj:j < n):0<=s.Ob.getD j 0/\s.Ob.getD j 0 < n/\Kb s.C (s.Ob.getD j 0).toNat=Kb s.C j:=by
 obtain⟨p,hp,e1,e2⟩:=NI (h.look j (by omega) hj);obtain⟨h1,h2,h3⟩:=h.rep p hp
 rw[<- e2,<-e1];exact⟨by omega,h2,h3⟩
theorem OO(b:Int):∀ (l m:List Oa),Gh b (l++m)=(Gh b l).or (Gh b m)
 | [],m=>by simp[Gh]
 |e::l,m=>by
  rw[Sg,Gh,Gh]
  split
  ·rfl
  ·exact OO b l m
theorem PO{b:Int}:∀ {l:List Oa},(∀ e∈l,e.hi < b)->Gh b l=none
 | [],_=>rfl
 |e::l,h=>by have:=h e (by simp);rw[Gh,qa (by omega)];exact PO fun x hx=>h x (by simp[hx])
theorem Q8{b:Int}:∀ {l:List Oa},l.Pairwise (fun a c=>a.hi < c.lo)->∀ e∈l,e.lo<=b->b<=e.hi->Gh b l=some e.to
 |a::l,h,e,he,h1,h2=>by
  rw[eG] at h;rw[Gh];rcases Ae.1 he with rfl | he
  ·rw[if_pos ⟨h1,h2⟩]
  ·have:=h.1 e he
   rw[qa (by omega)];exact Q8 h.2 e he h1 h2
theorem kV{b t:Int}:∀ {l:List Oa},Gh b l=some t->∃ e∈l,e.lo<=b/\b<=e.hi/\e.to=t
 |e::l,h=>by
  rw[Gh] at h
  split at h
  ·next hc=>exact⟨e,by simp,hc.1,hc.2,Dx h⟩
  ·obtain⟨x,hx,h1⟩:=kV h
   exact⟨x,by simp[hx],h1⟩
structure Yw(row:List Int)(n:Nat)(l:List Oa):Prop where
 jg:∀ e∈l,0<=e.lo/\e.lo<=e.hi/\e.hi < n/\e.to≠ -2
 ord:l.Pairwise (fun a b=>a.hi < b.lo)
 tight:∀ (k:Nat) a b,l[k]? =some a->l[k+1]? =some b->b.lo=a.hi+1->b.to≠a.to
 step:∀ x:Nat,x < n->Gh x l=if row.getD x 0= -2 then none else some (row.getD x 0)
theorem G2{l:List Oa}{e:Oa}(h:l.getLast? =some e):∃ m,l=m++[e]:=by
 have Va:l≠[]:=by rintro rfl;simp at h
 rw[List.getLast?_eq_some_getLast Va] at h;exact⟨l.dropLast,by rw[<- Dx h];exact (List.dropLast_concat_getLast Va).symm⟩
theorem J8{α:Type}{m:List α}{e a b:α}{k:Nat}(h1:(m++[e])[k]? =some a)(h2:(m++[e])[k+1]? =some b):m[k]? =some a/\((m[k+1]? =some b)\/(k+1=m.length/\b=e)):=by
 have hk:k+1 < (m++[e]).length:=(Ad.1 h2).1
 simp at hk;rw[Kc (by omega)] at h1;refine⟨h1,?_⟩;rcases yd (k+1) m.length with h | h
 ·rw[Kc h] at h2;exact .inl h2
 ·have:k+1=m.length:=by omega
  rw[Tg h,this] at h2;simp at h2;exact .inr ⟨this,h2.symm⟩
theorem Yw.push{row:List Int}{n:Nat}{l:List Oa}(h:Yw row n l){to:Int}(ht:row.getD n 0=to)(h2:to≠ -2)(hl:∀ e,l.getLast? =some e->¬(e.to=to/\e.hi=(n:Int) - 1)):Yw row (n+1) (l++[⟨n,n,to⟩]):=by
 refine⟨?_,?_,?_,?_⟩
 ·intro e he
  rcases Bd.1 he with he | he
  ·have:=h.jg e he;exact⟨this.1,this.2.1,by omega,this.2.2.2⟩
  ·simp at he;subst he;simp;exact⟨by omega,h2⟩
 ·rw[FK]
  refine⟨h.ord,by simp,?_⟩;intro a ha b hb;simp at hb;subst hb;have:=h.jg a ha;simp;omega
 ·intro k a b h1 h3 h4
  obtain⟨h5,h6 | ⟨h6,rfl⟩⟩:=J8 h1 h3
  ·exact h.tight k a b h5 h6 h4
  ·have ZM:l.getLast? =some a:=by rw[List.getLast?_eq_getElem?,<-h5];congr 1;omega
   intro h7;simp only at h4 h7;exact hl a ZM ⟨h7.symm,by omega⟩
 ·intro x hx
  rw[OO];rcases yd x n with Qy | Qy
  ·rw[h.step x Qy]
   split
   ·simp only[Option.none_or,Gh];rw[qa (by omega)]
   ·rfl
  ·have:x=n:=by omega
   subst this;rw[PO fun e he=>by have:=h.jg e he;omega,Option.none_or,Gh,if_pos (by simp),ht,qa h2]
theorem Yw.next{row:List Int}{n:Nat}{l:List Oa}(h:Yw row n l):Yw row (n+1) (uf n (row.getD n 0) l):=by
 obtain⟨to,ht⟩:∃ to,row.getD n 0=to:=⟨_,rfl⟩
 rw[ht];unfold uf
 by_cases h2:to= -2
 ·rw[if_pos h2]
  refine⟨fun e he=>by have:=h.jg e he;exact⟨this.1,this.2.1,by omega,this.2.2.2⟩,h.ord,h.tight,?_⟩;intro x hx;rcases yd x n with Qy | Qy
  ·exact h.step x Qy
  ·have:x=n:=by omega
   subst this;rw[PO fun e he=>by have:=h.jg e he;omega,ht,if_pos h2]
 ·rw[qa h2]
  cases hl:l.getLast? with
  |none=>exact h.push ht h2 fun e he=>by rw[hl] at he;cases he
  |some e=>
   by_cases hc:e.to=to/\e.hi=(n:Int) - 1
   ·simp only[hc,and_self,if_true]
    obtain⟨m,rfl⟩:=G2 hl;rw[List.dropLast_concat];have hr:=h.jg e (by simp)
    have ho:=FK.1 h.ord
    have hlt:∀ a∈m,a.hi < e.lo:=fun a ha=>ho.2.2 a ha e (by simp)
    refine⟨?_,?_,?_,?_⟩
    ·intro x hx
     rcases Bd.1 hx with hx | hx
     ·have:=h.jg x (by simp[hx]);exact⟨this.1,this.2.1,by omega,this.2.2.2⟩
     ·simp at hx;subst hx;simp only;exact⟨hr.1,by omega,by omega,h2⟩
    ·rw[FK]
     refine⟨ho.1,by simp,?_⟩;intro a ha b hb;simp at hb;subst hb;exact hlt a ha
    ·intro k a b h1 h3 h4
     obtain⟨h5,h6 | ⟨h6,rfl⟩⟩:=J8 h1 h3
     ·have Cn:=(Ad.1 h6).1
      exact h.tight k a b (by rw[Kc (by omega)];exact h5) (by rw[Kc Cn];exact h6) h4
     ·have:=h.tight k a e (by rw[Kc (by omega)];exact h5) (by rw[Tg (by omega),h6];simp) h4
      rw[hc.1] at this;exact this
    ·intro x hx
     rw[OO];rcases yd x n with Qy | Qy
     ·rw[<- h.step x Qy,OO]
      congr 1
      simp only[Gh,hc.1]
      by_cases h3:e.lo<=(x:Int)
      ·rw[if_pos ⟨h3,by omega⟩,if_pos ⟨h3,by omega⟩]
      ·rw[qa fun q=>h3 q.1,qa fun q=>h3 q.1]
     ·have:x=n:=by omega
      subst this;rw[PO fun a ha=>by have:=hlt a ha;omega,Option.none_or,Gh];simp only;rw[if_pos ⟨by omega,Ll _⟩,ht,qa h2]
   ·simp only[hc,if_false]
    exact h.push ht h2 fun e' sy=>by rw[hl] at sy;injection sy with sy;subst sy;exact hc
theorem sR(row:List Int):∀ (xs ys:List Nat)(l:List Oa),qh row (xs++ys) l=qh row ys (qh row xs l)
 | [],ys,l=>rfl
 |x::xs,ys,l=>by rw[Sg,qh,qh,sR row xs]
theorem FX(row:List Int):∀ n:Nat,Yw row n (qh row (List.range n) [])
 |0=>⟨by simp[qh],by simp[qh],by simp[qh],by omega⟩
 |n+1=>by rw[jv,sR];exact (FX row n).next
theorem tR(row:List Int):Yw row 256 (fh row):=FX row 256
def iq(m:Int)(l:List Oa):Int:=l.foldl (fun m e=>if e.to=m then m+1 else m) m
theorem fU(m:Int)(l:List Oa)(e:Oa):iq m (l++[e])=if e.to=iq m l then iq m l+1 else iq m l:=by
 unfold iq;rw[PC];rfl
def Qt:Int->List Oa->Prop
 |_,[]=>True
 |m,e::l=>e.to<=m/\Qt (if e.to=m then m+1 else m) l
theorem HN:∀ {m:Int}{l:List Oa}{e:Oa},Qt m (l++[e])↔Qt m l/\e.to<=iq m l
 |m,[],e=>by simp[Qt,iq]
 |m,a::l,e=>by show (a.to<=m/\Qt _ (l++[e]))↔_;rw[HN];exact and_assoc.symm
theorem EX{row:List Int}{g:Nat->Int}(h0:∀ x,0<=g x):∀ n:Nat,(∀ x,x < n->row.getD x 0<=g x)->(∀ x,x < n->g (x+1)=if row.getD x 0=g x then g x+1 else g x)->
 iq (g 0) (qh row (List.range n) [])=g n/\Qt (g 0) (qh row (List.range n) [])/\(∀ e∈qh row (List.range n) [],e.to < g n)
 |0,_,_=>⟨rfl,trivial,by simp[qh]⟩
 |n+1,h1,h2=>by
  obtain⟨i1,i2,i3⟩:=EX h0 n (fun x hx=>h1 x (by omega)) (fun x hx=>h2 x (by omega));have hn:=h1 n (by omega);have hg:=h2 n (by omega);rw[jv,sR];generalize qh row (List.range n) []=l at *;show iq (g 0) (uf n (row.getD n 0) l)=_/\Qt (g 0) (uf n (row.getD n 0) l)/\∀ e∈uf n (row.getD n 0) l,_;generalize row.getD n 0=to at *
  have QZ:iq (g 0) (l++[⟨n,n,to⟩])=g (n+1)/\Qt (g 0) (l++[⟨n,n,to⟩])/\(∀ e∈l++[⟨n,n,to⟩],e.to < g (n+1)):=by
   refine⟨by rw[fU,i1,hg],HN.2 ⟨i2,by rw[i1];exact hn⟩,?_⟩;intro e he;rcases Bd.1 he with he | he
   ·have:=i3 e he;rw[hg];split <;> omega
   ·simp at he;subst he;simp only;rw[hg];split <;> omega
  unfold uf
  by_cases h3:to= -2
  ·have:=h0 n
   rw[if_pos h3,hg,qa (by omega)];exact⟨i1,i2,i3⟩
  ·rw[qa h3]
   cases hl:l.getLast? with
   |none=>exact QZ
   |some e=>
    simp only
    split
    ·next hc=>
     obtain⟨m,rfl⟩:=G2 hl;have h4:=i3 e (by simp);rw[List.dropLast_concat,hg,qa (by omega)];rw[fU] at i1;rw[HN] at i2;refine⟨by rw[fU];exact i1,HN.2 i2,?_⟩;intro x hx;rcases Bd.1 hx with hx | hx
     ·exact i3 x (by simp[hx])
     ·simp at hx;subst hx;exact h4
    ·exact QZ
def Lk(g:Nat->Int)(e:Oa):Nat->Int:=fun b=>if e.lo<=(b:Int)/\(b:Int)<=e.hi then e.to else g b
theorem v8{b:Nat}:∀ (l:List Oa)(g:Nat->Int),l.Pairwise (fun a c=>a.hi < c.lo)->l.foldl Lk g b=(Gh (b:Int) l).getD (g b)
 | [],g,_=>rfl
 |e::l,g,h=>by
  rw[eG] at h;rw[zx,v8 l _ h.2,Gh]
  by_cases hc:e.lo<=(b:Int)/\(b:Int)<=e.hi
  ·rw[if_pos hc]
   have:Gh (b:Int) l=none:=by
    cases hs:Gh (b:Int) l with
    |none=>rfl
    |some t=>
     obtain⟨x,hx,h1,h2,_⟩:=kV hs;have:=h.1 x hx
     omega
   rw[this];show Lk g e b=e.to
   unfold Lk;rw[if_pos hc]
  ·rw[qa hc]
   have:Lk g e b=g b:=by unfold Lk;rw[qa hc]
   rw[this]
def Ki(l:List Oa)(b:Nat):Int:=(Gh (b:Int) l).getD (-2)
structure Kl(l:List Oa):Prop where
 jg:∀ e∈l,0<=e.lo/\e.lo<=e.hi/\e.hi < 256/\ -1<=e.to/\e.to<=64
 ord:l.Pairwise (fun a b=>a.hi < b.lo)
def b8(g:Nat->Int):fa:= .box (cellsOf 256 fun b=> .pv (.int .i8 (g b)))
theorem HW{n:Nat}{g g':Nat->AV}(h:∀ b,b < n->g b=g' b):cellsOf n g=cellsOf n g':=by
 unfold cellsOf;exact Hq fun b hb=>h b (Jq.1 hb)
theorem bD{g g':Nat->Int}(h:∀ b,b < 256->g b=g' b):b8 g=b8 g':=by
 unfold b8;rw[HW fun b hb=>by rw[h b hb]]
theorem Oaa(g:Nat->Int)(n:Nat):Fa n (b8 g)=some (b8 g):=by
 have:=CA n ((List.range 256).map fun b=>PV.int .i8 (g b));rw[Iq] at this;exact this
theorem Cm{H:List fa}{id:Nat}{c:List AV}(h:H[id]? =some (.box c))(d o:Nat):place H d (.ptr id o)=some (.ptr id (o+d)):=by simp only[place,h]
theorem VV{H:List fa}{id:Nat}{g:Nat->Int}(h:H[id]? =some (b8 g))(d:Nat):place H d (.ptr id 0)=some (.ptr id d):=by
 rw[Cm h,De]
theorem WV{H:List fa}{id i:Nat}{g:Nat->Int}(h:H[id]? =some (b8 g))(hi:i < 256)(v:Int):Db H 1 (.ptr id i) (.pv (.int .i8 v))=some (H.set id (b8 fun b=>if b=i then v else g b)):=by
 have e:cellsOf 256 (Gl (fun b=>AV.pv (.int .i8 (g b))) i (.pv (.int .i8 v)))=cellsOf 256 (fun b=> .pv (.int .i8 (if b=i then v else g b))):=by refine HW fun b _=> ?_;unfold Gl;split <;> rfl
 simp only[Db,AV.cells,PV.cells,Pf,gv,Td,Ch,tm,AV.one,List.all_nil,vz,and_self,if_true,h,b8,Rq];rw[if_pos (by omega)];simp only[za,IW,e]
theorem Oas{n:Int}(h0: -128<=n)(h1:n<=127):IntKind.i8.wrap n=n:=by
 unfold IntKind.wrap
 simp[IntKind.signed,IntKind.bits];omega
section
variable {call:Ab}{A:List fa}(hA:Pd A)
include hA
theorem LH(g:Nat->Int){n:Nat}(hn:A.length<=n):∀ o∈A++[b8 g],Fa n o=some o:=by
 intro o ho;rcases Bd.1 ho with h | h
 ·exact hA n hn o h
 ·rw[ym] at h;subst h;exact Oaa g n
theorem uam{E:Tr}{tb:Nat}{L S:PV}{x y:PV}{g0:Nat->Int}(htb:tb < A.length)(h8:E.get 8= .ptr tb 0)(h12:E.get 12= .pv L)(h13:E.get 13= .ptr A.length 0)(h101:E.get 101= .pv S)(h102:E.get 102= .pv x)(h103:E.get 103= .pv y)(h108:E.get 108= .pv (aa 0)):
 Ia (fun r=>r.1.stop=true/\∃ E',r=(.exit 4,⟨E',A++[b8 fun _=> -2]⟩)/\∀ t∈[8,12,13,101,102,103],E'.get t=E.get t)
  (ua call (.loop [8,12,13,101,102,103,108] tL) ⟨E,A++[b8 g0]⟩):=by
 have Eb:∀ t∈[8,12,13,101,102,103],(E.get t).cut (A.length+1) deep=some (E.get t):=by intro t ht;simp only[Ae,Vm,or_false] at ht;rcases ht with rfl | rfl | rfl | rfl | rfl | rfl <;> simp only[h8,h12,h13,h101,h102,h103,bc] <;> exact GA (by omega)
 refine Bw (fun i t=>(∀ u∈[8,12,13,101,102,103],t.env.get u=E.get u)/\t.env.get 108= .pv (aa i)/\t.H=A++[b8 fun b=>if b < i then -2 else g0 b]) 256 (by unfold Ga;omega) ?_ ?_ ?_
 ·refine yg.all rfl (by rw[Pc];exact LH hA g0 (by simp)) ?_ fun E' hE=>⟨fun u hu=>hE u (by simp at hu ⊢;omega),by rw[hE 108 (by simp),h108];rfl,by simp⟩
  intro t ht;rw[Pc]
  by_cases h:t=108
  ·subst h;rw[h108,bc]
  ·exact Eb t (by simp at ht ⊢;omega)
 ·rintro i ⟨E1,H1⟩ hi ⟨k1,k2,k3⟩
  simp only at k1 k2 k3;subst k3;have g13:=k1 13 (by simp);rw[h13] at g13;have e1:decide ((i:Int) < 256)=true:=Qa (by omega);have t1:IntKind.i64.wrap ((i:Int)+1)=((i+1:Nat):Int):=sm (by omega)
  have hg:=dn A (b8 fun b=>if b < i then -2 else g0 b);have p1:=VV hg i;have s1:=WV hg hi (-2);rw[Uu] at s1;have Ma:(i < 256)=True:=Sa hi;have hc:b8 (fun b=>if b=i then -2 else if b < i then -2 else g0 b)=b8 (fun b=>if b < i+1 then -2 else g0 b):=bD fun b _=>by
   by_cases h1:b=i
   ·rw[if_pos h1,if_pos (by omega)]
   ·rw[qa h1]
    by_cases h2:b < i
    ·rw[if_pos h2,if_pos (by omega)]
    ·rw[qa h2,qa (by omega)]
  rw[hc] at s1;generalize hQ:RQ _ _ _ _=Q;simp -implicitDefEqProofs only[SX,sevalprocAttr,tL,k2,g13,e1,t1,Ma,p1,s1];subst hQ;rw[Xr];refine yg.all (by simp) (by rw[Pc];exact LH hA _ (by simp)) ?_ fun E' hE=>⟨fun u hu=> ?_,?_,rfl⟩
  ·intro t ht
   rw[Pc]
   by_cases h:t=108
   ·subst h;simp[Tr.na,bc]
   ·have hm:t∈[8,12,13,101,102,103]:=by simp at ht ⊢;omega
    have:=k1 t hm;have h2:=Eb t hm;simp only[Ae,Vm,or_false] at hm;rcases hm with rfl | rfl | rfl | rfl | rfl | rfl <;> simp only[Tr.na] <;> simp only[this] <;> simpa using h2
  ·rw[hE u (by simp at hu ⊢;omega),<-k1 u hu]
   simp only[Ae,Vm,or_false] at hu;rcases hu with rfl | rfl | rfl | rfl | rfl | rfl <;> simp[Tr.na]
  ·rw[hE 108 (by simp)];simp[Tr.na]
 ·rintro⟨E1,H1⟩ ⟨k1,k2,k3⟩
  simp only at k1 k2 k3;subst k3;have e1:decide (((256:Nat):Int) < 256)=false:=Ra (by omega);generalize hQ:(fun r:Ex×St=>r.1.stop=true/\_)=Q;simp -implicitDefEqProofs only[SX,sevalprocAttr,tL,k2,e1];subst hQ;rw[bD (g':=fun _=> -2) fun b hb=>if_pos hb];refine⟨rfl,_,rfl,fun t ht=> ?_⟩
  ·rw[<- k1 t ht]
   simp only[Ae,Vm,or_false] at ht;rcases ht with rfl | rfl | rfl | rfl | rfl | rfl <;> simp[Tr.na]
def Dh(e:Oa):fa:= .box [.pv (aa e.lo),.pv (aa e.hi),.pv (aa e.to)]
omit hA in
theorem Lab(e:Oa)(n:Nat):Fa n (Dh e)=some (Dh e):=CA n [aa e.lo,aa e.hi,aa e.to]
theorem vam{E:Tr}{tb:Nat}{L S:PV}{x y u v:PV}{g0:Nat->Int}{e:Oa}(he:0<=e.lo/\e.lo<=e.hi/\e.hi < 256/\ -1<=e.to/\e.to<=64)(htb:tb < A.length)(h8:E.get 8= .ptr tb 0)(h13:E.get 13= .ptr A.length 0)(h16:E.get 16= .ptr (A.length+1) 0)(h17:E.get 17= .pv (aa e.lo))
 (h101:E.get 101= .pv S) (h102:E.get 102= .pv x) (h103:E.get 103= .pv y) (h114:E.get 114= .pv L) (h115:E.get 115= .pv u) (h116:E.get 116= .pv v):
 Ia (fun r=>r.1.stop=true/\∃ E',r=(.exit 8,⟨E',(A++[b8 (Lk g0 e)])++[Dh e]⟩)/\∀ t∈[8,13,101,102,103,114,115,116],E'.get t=E.get t)
  (ua call (.loop [8,13,16,17,101,102,103,114,115,116] vL) ⟨E,(A++[b8 g0])++[Dh e]⟩):=by
 have Eb:∀ t∈[8,13,16,101,102,103,114,115,116],(E.get t).cut (A.length+2) deep=some (E.get t):=by intro t ht;simp only[Ae,Vm,or_false] at ht;rcases ht with rfl | rfl | rfl | rfl | rfl | rfl | rfl | rfl | rfl <;> simp only[h8,h13,h16,h101,h102,h103,h114,h115,h116,bc] <;> exact GA (by omega)
 have XM:∀ g,∀ o∈(A++[b8 g])++[Dh e],Fa (A.length+2) o=some o:=by
  intro g o ho;rcases Bd.1 ho with h | h
  ·exact LH hA g (by omega) o h
  ·rw[ym] at h;subst h;exact Lab e _
 have hlen:∀ g,((A++[b8 g])++[Dh e]).length=A.length+2:=fun g=>by simp
 refine Bw (fun i t=>(∀ u∈[8,13,16,101,102,103,114,115,116],t.env.get u=E.get u)/\t.env.get 17= .pv (aa (e.lo+i))/\t.H=(A++[b8 fun b=>if e.lo<=(b:Int)/\(b:Int) < e.lo+i then e.to else g0 b])++[Dh e]) (e.hi - e.lo+1).toNat (by unfold Ga;omega) ?_ ?_ ?_
 ·refine yg.all rfl (by rw[hlen];exact XM g0) ?_ fun E' hE=>⟨fun u hu=>hE u (by simp at hu ⊢;omega),by rw[hE 17 (by simp),h17];simp,?_⟩
  ·intro t ht
   rw[hlen]
   by_cases h:t=17
   ·subst h;rw[h17,bc]
   ·exact Eb t (by simp at ht ⊢;omega)
  ·show _=_
   rw[bD (g:=fun b=>if e.lo<=(b:Int)/\(b:Int) < e.lo+((0:Nat):Int) then e.to else g0 b) (g':=g0) fun b _=>qa (by omega)]
 ·rintro i ⟨E1,H1⟩ hi ⟨k1,k2,k3⟩
  simp only at k1 k2 k3;subst k3;have g13:=k1 13 (by simp);rw[h13] at g13;have g16:=k1 16 (by simp);rw[h16] at g16;have e1:decide (e.lo+(i:Int)<=e.hi)=true:=Qa (by omega);have t1:IntKind.i64.wrap (e.lo+(i:Int)+1)=e.lo+((i+1:Nat):Int):=by rw[Gb (by omega)];omega
  have t2:IntKind.i8.wrap e.to=e.to:=Oas (by omega) (by omega)
  generalize gI:(fun b:Nat=>if e.lo<=(b:Int)/\(b:Int) < e.lo+i then e.to else g0 b)=gi;have hg:((A++[b8 gi])++[Dh e])[A.length]? =some (b8 gi):=by rw[Kc (by simp)];exact dn _ _
  have Zk:((A++[b8 gi])++[Dh e])[A.length+1]? =some (Dh e):=by have:=dn (A++[b8 gi]) (Dh e);rw[Pc] at this;exact this
  have p1:=VV hg (e.lo+(i:Int)).toNat
  have p2:=fun d=>Cm Zk d 0;have l1:wa ((A++[b8 gi])++[Dh e]) false 1 (.ptr (A.length+1) 1)=some (.pv (aa e.hi)):=by simp only[wa,Zk];rfl
  have l2:wa ((A++[b8 gi])++[Dh e]) false 1 (.ptr (A.length+1) 2)=some (.pv (aa e.to)):=by simp only[wa,Zk];rfl
  have s1:=WV hg (i:=(e.lo+(i:Int)).toNat) (by omega) e.to
  have Cj:((A++[b8 gi])++[Dh e]).set A.length (b8 fun b=>if b=(e.lo+(i:Int)).toNat then e.to else gi b)=(A++[b8 fun b=>if e.lo<=(b:Int)/\(b:Int) < e.lo+((i+1:Nat):Int) then e.to else g0 b])++[Dh e]:=by
   rw[kv _ _ (by simp),Uu]
   congr 3
   refine bD fun b _=> ?_;subst gI
   by_cases h1:b=(e.lo+(i:Int)).toNat
   ·rw[if_pos h1,if_pos (by omega)]
   ·rw[qa h1]
    dsimp only
    by_cases h2:e.lo<=(b:Int)/\(b:Int) < e.lo+i
    ·rw[if_pos h2,if_pos (by omega)]
    ·rw[qa h2,qa (by omega)]
  rw[Cj] at s1;have Ma:(0<=e.lo+(i:Int)/\e.lo+(i:Int) < ((256:Nat):Int))=True:=Sa (by omega);generalize (A++[b8 gi])++[Dh e]=HH at *;generalize hQ:RQ _ _ _ _=Q;simp -implicitDefEqProofs only[SX,sevalprocAttr,vL,k2,g13,g16,e1,t1,t2,Ma,p1,p2,l1,l2,s1];subst hQ;rw[Xr];refine yg.all (by simp) (by rw[hlen];exact XM _) ?_ fun E' hE=>⟨fun u hu=> ?_,?_,rfl⟩
  ·intro t ht
   rw[hlen]
   by_cases h:t=17
   ·subst h;simp[Tr.na,bc]
   ·have hm:t∈[8,13,16,101,102,103,114,115,116]:=by simp at ht ⊢;omega
    have:=k1 t hm;have h2:=Eb t hm;simp only[Ae,Vm,or_false] at hm;rcases hm with rfl | rfl | rfl | rfl | rfl | rfl | rfl | rfl | rfl <;> simp only[Tr.na] <;> simp only[this] <;> simpa using h2
  ·rw[hE u (by simp at hu ⊢;omega),<-k1 u hu]
   simp only[Ae,Vm,or_false] at hu;rcases hu with rfl | rfl | rfl | rfl | rfl | rfl | rfl | rfl | rfl <;> simp[Tr.na]
  ·rw[hE 17 (by simp)];simp[Tr.na]
 ·rintro⟨E1,H1⟩ ⟨k1,k2,k3⟩
  simp only at k1 k2 k3;subst k3;have g16:=k1 16 (by simp);rw[h16] at g16;rw[show e.lo+((e.hi - e.lo+1).toNat:Int)=e.hi+1 by omega] at k2;have e1:decide (e.hi+1<=e.hi)=false:=Ra (by omega);have hb:b8 (fun b:Nat=>if e.lo<=(b:Int)/\(b:Int) < e.lo+((e.hi - e.lo+1).toNat:Int) then e.to else g0 b)=b8 (Lk g0 e):=bD fun b _=>by
   unfold Lk
   by_cases h:e.lo<=(b:Int)/\(b:Int)<=e.hi
   ·rw[if_pos h,if_pos (by omega)]
   ·rw[qa h,qa (by omega)]
  rw[hb];have Zk:((A++[b8 (Lk g0 e)])++[Dh e])[A.length+1]? =some (Dh e):=by have:=dn (A++[b8 (Lk g0 e)]) (Dh e);rw[Pc] at this;exact this
  have p2:=fun d=>Cm Zk d 0;have l1:wa ((A++[b8 (Lk g0 e)])++[Dh e]) false 1 (.ptr (A.length+1) 1)=some (.pv (aa e.hi)):=by simp only[wa,Zk];rfl
  generalize (A++[b8 (Lk g0 e)])++[Dh e]=HH at *;generalize hQ:(fun r:Ex×St=>r.1.stop=true/\_)=Q;simp -implicitDefEqProofs only[SX,sevalprocAttr,vL,k2,g16,e1,p2,l1];subst hQ;refine⟨rfl,_,rfl,fun t ht=> ?_⟩
  ·rw[<- k1 t (by simp at ht ⊢;omega)]
   simp only[Ae,Vm,or_false] at ht;rcases ht with rfl | rfl | rfl | rfl | rfl | rfl | rfl | rfl <;> simp[Tr.na]
end
section
variable {call:Ab}{A:List fa}(hA:Pd A)
include hA
theorem wam{E:Tr}{tb:Nat}{L S:PV}{x y:PV}{es:List Oa}(ga:Kl es)(hL:Pb 3 L (es.map gu))(hlen:es.length<=256)(htb:tb < A.length)(h8:E.get 8= .ptr tb 0)(h13:E.get 13= .ptr A.length 0)
 (h101:E.get 101= .pv S) (h102:E.get 102= .pv x) (h103:E.get 103= .pv y) (h114:E.get 114= .pv L) (h115:E.get 115= .pv (aa es.length)) (h116:E.get 116= .pv (aa 0)):
 Ia (fun r=>r.1.stop=true/\∃ E',r=(.exit 6,⟨E',A++[b8 (Ki es)]⟩)/\∀ t∈[8,13,101,102,103],E'.get t=E.get t)
  (ua call (.loop [8,13,101,102,103,114,115,116] uL) ⟨E,A++[b8 fun _=> -2]⟩):=by
 have Eb:Fit (A.length+1) [8,13,101,102,103,114,115] E:=
  .cons h8 (GA (by omega)) (.cons h13 (GA (by omega)) (.cons h101 bc (.cons h102 bc (.cons h103 bc (.cons h114 bc (.cons h115 bc (.nil _ _)))))))
 refine Bw (fun i t=>Bc [8,13,101,102,103,114,115] E t.env/\t.env.get 116= .pv (aa i)/\t.H=A++[b8 ((es.take i).foldl Lk fun _=> -2)]) es.length (by unfold Ga;omega) ?_ ?_ ?_
 ·rw[Pc]
  exact yg.all (by simp) (LH hA _ (by simp)) (Fit.sub (.cons h116 bc Eb) rfl) fun E' hE=>⟨Bc.sub hE rfl,by rw[hE 116 (by simp),h116];rfl,rfl⟩
 ·rintro i ⟨E1,H1⟩ hi ⟨k1,k2,k3⟩
  simp only at k1 k2 k3;subst k3;have g8:=k1 8 (by simp);rw[h8] at g8;have g13:=k1 13 (by simp);rw[h13] at g13;have FY:=k1 101 (by simp);rw[h101] at FY;have yM:=k1 102 (by simp);rw[h102] at yM;have GY:=k1 103 (by simp);rw[h103] at GY;have XR:=k1 114 (by simp);rw[h114] at XR;have iE:=k1 115 (by simp);rw[h115] at iE;have hle:=hL.lit (i:=i) (by simpa using hi)
  have hea:=ga.jg es[i] (ic hi)
  have od:(es.take (i+1)).foldl Lk (fun _=> -2)=Lk ((es.take i).foldl Lk fun _=> -2) es[i]:=by rw[List.take_succ_eq_append_getElem hi,PC];rfl
  have a1:Ua (A++[b8 ((es.take i).foldl Lk fun _=> -2)]) 3 (.pv L) (i:Int)=some (.pv (.rp [aa es[i].lo,aa es[i].hi,aa es[i].to] 0)):=by rw[hle];simp only[Ua];rw[if_pos ⟨trivial,by unfold Ta;rw[wb];omega⟩,Uc,Gd,Rb hi];rfl
  rw[od];generalize (es.take i).foldl Lk (fun _=> -2)=g0 at *
  generalize es[i]=e at *;have e1:decide ((i:Int) < (es.length:Int))=true:=Qa (by omega);have t1:IntKind.i64.wrap ((i:Int)+1)=((i+1:Nat):Int):=sm (by omega)
  have r3:∀ H (x y z:PV),wa H true 3 (.pv (.rp [x,y,z] 0))=some (.pv (.agg [x,y,z])):=fun H x y z=>rfl;have nI:(A++[b8 g0]).length=A.length+1:=by simp
  have s1:Db ((A++[b8 g0])++[.box [.pv (aa 0),.pv (aa 0),.pv (aa 0)]]) 3 (.ptr (A.length+1) 0) (.pv (.agg [aa e.lo,aa e.hi,aa e.to]))=some ((A++[b8 g0])++[Dh e]):=by have:=Uu (A++[b8 g0]) (.box [.pv (aa 0),.pv (aa 0),.pv (aa 0)]) (Dh e);have hg:=dn (A++[b8 g0]) (.box [.pv (aa 0),.pv (aa 0),.pv (aa 0)]);rw[nI] at this hg;simp only[Db,hg];rw[if_pos (by simp[AV.cells,PV.cells,AV.one]),if_pos (by simp)];rw[<- this];rfl
  have Zk:((A++[b8 g0])++[Dh e])[A.length+1]? =some (Dh e):=by have:=dn (A++[b8 g0]) (Dh e);rw[nI] at this;exact this
  have p2:=fun d=>Cm Zk d 0;have l0:wa ((A++[b8 g0])++[Dh e]) false 1 (.ptr (A.length+1) 0)=some (.pv (aa e.lo)):=by simp only[wa,Zk];rfl
  have Yv:=fun (E2:Tr)(q8:E2.get 8= .ptr tb 0)(jm:E2.get 13= .ptr A.length 0)(FU:E2.get 16= .ptr (A.length+1) 0)(GU:E2.get 17= .pv (aa e.lo))(YB:E2.get 101= .pv S)(ZB:E2.get 102= .pv x)(aC:E2.get 103= .pv y)(bC:E2.get 114= .pv L)(eC:E2.get 115= .pv (aa es.length))(gz:E2.get 116= .pv (aa i))=>
   vam (call:=call) hA (g0:=g0) hea htb q8 jm FU GU YB ZB aC bC eC gz
  generalize hHH:(A++[b8 g0])++[Dh e]=HH at *;generalize hHK:(A++[b8 g0])++[fa.box [.pv (aa 0),.pv (aa 0),.pv (aa 0)]]=HK at *;generalize hQ:RQ _ _ _ _=Q;simp -implicitDefEqProofs only[SX,sevalprocAttr,uL,k2,XR,iE,e1,a1,r3,nI,hHK,s1,p2,l0];generalize vc:(Tr.set _ 17 _:Tr)=E2;have q8:E2.get 8= .ptr tb 0:=by rw[<- vc];simp[Tr.na,g8]
  have jm:E2.get 13= .ptr A.length 0:=by rw[<- vc];simp[Tr.na,g13]
  have FU:E2.get 16= .ptr (A.length+1) 0:=by rw[<- vc];simp[Tr.na]
  have GU:E2.get 17= .pv (aa e.lo):=by rw[<- vc];simp[Tr.na]
  have YB:E2.get 101= .pv S:=by rw[<- vc];simp[Tr.na,FY]
  have ZB:E2.get 102= .pv x:=by rw[<- vc];simp[Tr.na,yM]
  have aC:E2.get 103= .pv y:=by rw[<- vc];simp[Tr.na,GY]
  have bC:E2.get 114= .pv L:=by rw[<- vc];simp[Tr.na,XR]
  have eC:E2.get 115= .pv (aa es.length):=by rw[<- vc];simp[Tr.na,iE]
  have gz:E2.get 116= .pv (aa i):=by rw[<- vc];simp[Tr.na,k2]
  refine Bb (Yv E2 q8 jm FU GU YB ZB aC bC eC gz) ?_;rintro r ⟨_,E3,rfl,mE⟩;have z116:=mE 116 (by simp);rw[gz] at z116;have kE:Bc [8,13,101,102,103,114,115] E E3:=by
   refine Bc.trans ?_ (Bc.sub mE rfl)
   rw[<- vc]
   repeat refine Bc.set ?_ rfl
   exact k1
  simp -implicitDefEqProofs only[SX,sevalprocAttr,z116,t1];subst hQ;rw[Xr];have kF:∀ v w,Bc [8,13,101,102,103,114,115] E ((E3.set 133 v).set 116 w):=fun v w=>Bc.set (Bc.set kE rfl) rfl
  rw[Pc];exact yg.front (by simp) (LH hA _ (by simp)) (Fit.sub (.cons (t:=116) (by rw[Tr.na,if_pos rfl]) bc (Eb.qc (kF _ _))) rfl) fun E' hE=>⟨(kF _ _).trans (Bc.sub hE rfl),by rw[hE 116 (by simp),Tr.na,if_pos rfl],rfl⟩
 ·rintro⟨E1,H1⟩ ⟨k1,k2,k3⟩
  simp only at k1 k2 k3;subst k3;have iE:=k1 115 (by simp);rw[h115] at iE;have e1:decide ((es.length:Int) < (es.length:Int))=false:=Ra (by omega);rw[ai,bD (g:=es.foldl Lk fun _=> -2) (g':=Ki es) fun b _=>v8 es _ ga.ord];generalize hQ:(fun r:Ex×St=>r.1.stop=true/\_)=Q;simp -implicitDefEqProofs only[SX,sevalprocAttr,uL,k2,iE,e1];subst hQ;exact⟨rfl,_,rfl,Bc.set (Bc.sub k1 rfl) rfl⟩
end
theorem Fac{v:PV}{l:List (Int×Int)}(h:sx v l):∃ w,VF [v]=some w/\Pb 2 w (Pa l)/\(l≠[]->w= .lit 2 (Pa l)):=by
 rcases h.is with⟨rfl,hl⟩ | rfl
 ·refine⟨.oa,?_,.inl ⟨rfl,hl⟩,fun Va=>absurd (by simpa[Pa] using hl) Va⟩
  simp -implicitDefEqProofs only[VF,SP,SA,SQ,WP,WQ,sevalprocAttr,sL]
 ·refine⟨.lit 2 (Pa l),?_,.inr rfl,fun _=>rfl⟩
  have hr:Ac (Pa l).length 16:=by have:=h.sz;unfold Ac;simp;omega
  generalize Pa l=es at *;simp -implicitDefEqProofs only[VF,SP,SA,SQ,WP,WQ,sevalprocAttr,sL,Sa hr]
abbrev zH(S P:PV)(n i m j:Int):Tr:=((((((((Tr.lf.set 22 (.pv (aa j))).set 21 (.pv (aa m))).set 20 (.pv P)).set 12 (.pv (aa i))).set 11 (.pv (aa n))).set 10 (.pv S)).set 6 (.ptr 4 0)).set 3 (.ptr 1 0)).set 2 (.ptr 0 0)
abbrev XL(S:PV)(n i:Int):Tr:=((((Tr.lf.set 12 (.pv (aa i))).set 11 (.pv (aa n))).set 10 (.pv S)).set 3 (.ptr 1 0)).set 2 (.ptr 0 0)
abbrev wI(out:List PV)(nl:Bool):List fa:=[.box [.pv .oa],.box [.uq 2 nl 2 out],.tok 2 out.length nl]
abbrev fw(out:List PV)(nl:Bool)(P:PV)(f:Int)(ps:List PV)(Pg:Bool):List fa:=[.box [.pv .oa],.box [.uq 2 nl 2 out],.tok 2 out.length nl,.box [.pv P,.pv (aa f)],.box [.uq 5 Pg 1 ps,.pv (aa f)],.tok 1 ps.length Pg]
theorem Wac{P S:PV}{ls:List (List (Int×Int))}{ps:List PV}(hP:sk P ls ps)(ga:∀ l∈ls,l≠[])(h8:ls.length<=8)(out:List PV)(nl:Bool)(f n i:Int):
 ∃ E Pg,Mb (Aa (ua (La (fun _=>none) 8) uD) (ta 6 [2,3,6,10,11,12,20,21,22])) Ga ⟨zH S P n i ls.length 0,fw out nl P f [] true⟩=
  some (.exit 2,⟨E,fw out nl P f (ls.map rh) Pg⟩)/\(Pg=true->ls=[])/\E.get 2= .ptr 0 0/\E.get 3= .ptr 1 0/\E.get 6= .ptr 4 0/\E.get 10= .pv S/\E.get 11= .pv (aa n)/\E.get 12= .pv (aa i):=by
 have key:=We (g:=Aa (ua (La (fun _=>none) 8) uD) (ta 6 [2,3,6,10,11,12,20,21,22]))
  (fun j t=>∃ Pg,t=⟨zH S P n i ls.length j,fw out nl P f ((ls.take j).map rh) Pg⟩/\(Pg=true->j=0))
  (Q:=fun r=>∃ E Pg,r=(.exit 2,⟨E,fw out nl P f (ls.map rh) Pg⟩)/\(Pg=true->ls=[])/\E.get 2= .ptr 0 0/\E.get 3= .ptr 1 0/\E.get 6= .ptr 4 0/\E.get 10= .pv S/\E.get 11= .pv (aa n)/\E.get 12= .pv (aa i))
  ls.length (by unfold Ga;omega) ⟨zH S P n i ls.length (0:Nat),fw out nl P f [] true⟩ ⟨true,rfl,fun _=>rfl⟩ ?_ ?_
 ·obtain⟨r,h1,_,E,Pg,rfl,h2⟩:=wg key
  exact⟨E,Pg,h1,h2⟩
 ·rintro j t hj ⟨Pg,rfl,Wc⟩
  obtain⟨v,hv,Qf,_⟩:=hP.Nd hj []
  have a1:=hP.Sy hv
  obtain⟨w,fc,_,hw⟩:=Fac Qf;have hw:=hw (ga _ (ic hj));subst hw;have od:(ls.take (j+1)).map rh=(ls.take j).map rh++[.lit 2 (Pa ls[j])]:=by rw[List.take_succ_eq_append_getElem hj,xm];rfl
  have xc:((ls.take j).map rh).length=j:=by simp;omega
  generalize ls[j]=l at *;have e1:decide ((j:Int) < (ls.length:Int))=true:=Qa (by omega);have t2:=ee hj (by unfold maxLen;omega);have r1:∀ H (x:PV),wa H false 1 (.pv (.rp [x] 0))=some (.pv x):=fun H x=>rfl;have vd:=Jo (A:=fw out nl P f ((ls.take j).map rh) Pg) (id:=5) (n:=j) (h:= .uq) (ag:=false) (nl:=Pg) (sz:=1) (bytes:=24) (es:=(ls.take j).map rh) (by show some (fa.tok 1 ((ls.take j).map rh).length Pg)=_;rw[xc]) xc.symm (by unfold Ac;omega) (.lit 2 (Pa l))
  have Km:((ls.take j).map rh++[PV.lit 2 (Pa l)]).length=j+1:=by rw[Pc,xc];rfl
  have aB:Ud (fw out nl P f ((ls.take j).map rh) Pg) false .uq 1 false 24 (.uq 5 Pg 1 ((ls.take j).map rh)) (.pv (.lit 1 [.lit 2 (Pa l)]))=some (.uq 5 false 1 ((ls.take j).map rh++[.lit 2 (Pa l)]),[.box [.pv .oa],.box [.uq 2 nl 2 out],.tok 2 out.length nl,.box [.pv P,.pv (aa f)],.box [.uq 5 Pg 1 ((ls.take j).map rh),.pv (aa f)],.tok 1 (j+1) false]):=vd
  unfold fw at aB ⊢;rw[xc] at aB ⊢;have p0:∀ (x:AV)(y z:fa),place [.box [.pv .oa],.box [.uq 2 nl 2 out],y,.box [.pv P,.pv (aa f)],.box [x,.pv (aa f)],z] 0 (.ptr 4 0)=some (.ptr 4 0):=fun x y z=>rfl;have l0:∀ (x:AV)(y z:fa),wa [.box [.pv .oa],.box [.uq 2 nl 2 out],y,.box [.pv P,.pv (aa f)],.box [x,.pv (aa f)],z] false 1 (.ptr 4 0)=some x:=fun x y z=>rfl;have s0:∀ (x:AV)(y z:fa)(es:List PV),Db [.box [.pv .oa],.box [.uq 2 nl 2 out],y,.box [.pv P,.pv (aa f)],.box [x,.pv (aa f)],z] 1 (.ptr 4 0) (.uq 5 false 1 es)=some [.box [.pv .oa],.box [.uq 2 nl 2 out],y,.box [.pv P,.pv (aa f)],.box [.uq 5 false 1 es,.pv (aa f)],z]:=fun x y z es=>rfl;generalize hp0:(ls.take j).map rh=ps0 at *
  generalize hL:PV.lit 2 (Pa l)=L at *
  have NY:(AV.pv L).cells=[.pv L]/\(AV.pv L).one=true:=by rw[<- hL];exact⟨rfl,rfl⟩
  have b5:(5 < 6)=True:=by simp
  have b4:(4 < 6)=True:=by simp
  have b2:(2 < 6)=True:=by simp
  have b1:(1 < 6)=True:=by simp
  have b0:(0 < 6)=True:=by simp
  have hLc:L.cells=[L]:=by rw[<- hL];rfl
  generalize hQ:LN _ _ j=Q;subst hL;simp -implicitDefEqProofs only[SP,WP,za,sevalprocAttr,uD,e1,t2,a1,r1,p0,l0,s0,fc,aB,b0,b1,b2,b4,b5,ta,Za,AV.cut,Fa,Ha,Cb,zH];subst hQ;refine⟨false,?_,by simp⟩;rw[od,Km]
 ·rintro t ⟨Pg,rfl,Wc⟩
  rw[ai];have e1:decide ((ls.length:Int) < (ls.length:Int))=false:=Ra (by omega);generalize hQ:(fun r:Ex×St=>r.1.stop=true/\_)=Q;simp -implicitDefEqProofs only[SX,sevalprocAttr,uD,e1,zH];subst hQ;exact⟨rfl,_,Pg,rfl,fun h=>Ze (Wc h),by simp[Tr.na],by simp[Tr.na],by simp[Tr.na],by simp[Tr.na],by simp[Tr.na],by simp[Tr.na]⟩
theorem eR{S:PV}{ss:List ya}{es:List PV}(hS:zd S ss es)(ga:uc ss):∃ S',Hz [.agg [S]]=some (.agg [S'])/\Pb 2 S' (ss.map dg):=by
 have lS:=hS.mb
 have Wq:=ga.len
 have nu:(AV.pv S).one=true:=by rcases hS.is with⟨h,_⟩ | h <;> rw[h] <;> rfl
 have yc:Ia (fun r=>∃ E nl,r=(.exit 0,⟨E,wI (ss.map dg) nl⟩)/\(nl=true->ss=[])/\E.get 2= .ptr 0 0/\E.get 3= .ptr 1 0)
  (Mb (Aa (ua (La (fun _=>none) 8) tD) (ta 3 [2,3,10,11,12])) Ga ⟨XL S ss.length 0,wI [] true⟩):=by
  refine Bb (We (g:=Aa (ua (La (fun _=>none) 8) tD) (ta 3 [2,3,10,11,12]))
   (fun i t=>∃ nl,t=⟨XL S ss.length i,wI ((ss.take i).map dg) nl⟩/\(nl=true->i=0))
   (Q:=fun r=>∃ E nl,r=(.exit 0,⟨E,wI (ss.map dg) nl⟩)/\(nl=true->ss=[])/\E.get 2= .ptr 0 0/\E.get 3= .ptr 1 0)
   ss.length (by unfold Ga;omega) _ ⟨true,rfl,fun _=>rfl⟩ ?_ ?_) (fun r h=>h.2)
  ·rintro i t hi ⟨nl,rfl,Wc⟩
   obtain⟨P,ps,gn,a1⟩:=hS.Nd hi
   have ok:=ga.He _ (ic hi)
   obtain⟨Me,Ul⟩:=gn.zm
   have lP:=gn.ba.mb
   have od:(ss.take (i+1)).map dg=(ss.take i).map dg++[dg ss[i]]:=by rw[List.take_succ_eq_append_getElem hi,xm];rfl
   have xc:((ss.take i).map dg).length=i:=by simp;omega
   obtain⟨E,Pg,Tf,gaj,g2,g3,g6,g10,g11,g12⟩:=Wac (S:=S) gn.ba (fun l hl=>(ok.ba l hl).1) ok.hi ((ss.take i).map dg) nl ss[i].pa ss.length i
   have haj:Pg=false:=by
    cases Pg with
    |false=>rfl
    |true=>have:=gaj rfl;have h2:=ok.lo;rw[this] at h2;simp at h2
   subst haj;have xn:dg ss[i]= .agg [.lit 1 (ss[i].ba.map rh),aa ss[i].pa]:=rfl
   rw[xn] at od;generalize ss[i]=p at *;have e1:decide ((i:Int) < (ss.length:Int))=true:=Qa (by omega);have t2:=ee hi (by unfold maxLen;omega);have a2:∀ H,wa H true 2 (.pv (.rp [P,aa p.pa] 0))=some (.pv (.agg [P,aa p.pa])):=fun H=>rfl;generalize (ss.take i).map dg=out at *
   generalize p.ba.map rh=pp at *
   subst xc;unfold fw at Tf;unfold wI;have sg:(out++[PV.agg [.lit 1 pp,aa p.pa]]).length=out.length+1:=by simp
   have vd:∀ (T:List fa),Ud ([.box [.pv .oa],.box [.uq 2 nl 2 out],.tok 2 out.length nl]++T) false .uq 2 true 32 (.uq 2 nl 2 out) (.pv (.lit 2 [.agg [.lit 1 pp,aa p.pa]]))=some (.uq 2 false 2 (out++[.agg [.lit 1 pp,aa p.pa]]),[.box [.pv .oa],.box [.uq 2 nl 2 out],.tok 2 (out.length+1) false]++T):=fun T=>
    Jo (A:=[.box [.pv .oa],.box [.uq 2 nl 2 out],.tok 2 out.length nl]++T) (id:=2) (n:=out.length) (h:= .uq) (ag:=true) (nl:=nl) (sz:=2) (bytes:=32) (es:=out) rfl rfl (by unfold Ac;omega) _
   have NM:=fun a b c=>vd [a,b,c];simp only[Sg,Kf] at NM;have s1:∀ T:List fa,Db ([.box [.pv .oa],.box [.uq 2 nl 2 out],.tok 2 out.length nl,.box [.pv .oa,.pv (aa 0)]]) 2 (.ptr 3 0) (.pv (.agg [P,aa p.pa]))=some [.box [.pv .oa],.box [.uq 2 nl 2 out],.tok 2 out.length nl,.box [.pv P,.pv (aa p.pa)]]:=fun T=>
    HD _ _ _ _ Me rfl [.box [.pv .oa],.box [.uq 2 nl 2 out],.tok 2 out.length nl] _ rfl
   have Nw:=s1 [];have b5:(5 < 6)=True:=by simp
   have b4:(4 < 6)=True:=by simp
   have b2:(2 < 6)=True:=by simp
   have b1:(1 < 6)=True:=by simp
   have b0:(0 < 6)=True:=by simp
   have c2:(2 < 3)=True:=by simp
   have c1:(1 < 3)=True:=by simp
   have c0:(0 < 3)=True:=by simp
   have hz:(0 < 1)=True:=by simp
   generalize hQ:LN _ _ out.length=Q
   have iI:Mb (Aa (ua (La (fun _=>none) 8) uD) (ta 6 [2,3,6,10,11,12,20,21,22])) Ga ⟨((((((((Tr.lf.set 22 (.pv (.int .i64 0))).set 21 (.pv (aa p.ba.length))).set 20 (.pv P)).set 12 (.pv (aa out.length))).set 11 (.pv (aa ss.length))).set 10 (.pv S)).set 6 (.ptr 4 0)).set 3 (.ptr 1 0)).set 2 (.ptr 0 0),[.box [.pv .oa],.box [.uq 2 nl 2 out],.tok 2 out.length nl,.box [.pv P,.pv (aa p.pa)],.box [.uq 5 true 1 [],.pv (aa p.pa)],.tok 1 0 true]⟩=_:=Tf;simp -implicitDefEqProofs only[SP,SA,SQ,sevalprocAttr,Aa,tD,Oc,e1,a1,a2,Nw,Me,lP,Af,hz,b0,b1,b2,b4,b5,ta,Za,AV.cut,Fa,bc,Ha,Cb,XL];rw[iI];simp -implicitDefEqProofs only[SP,SQ,WP,WQ,↓reduceIte,reduceCtorEq,Nat.reduceAdd,Nat.reduceMul,Nat.reduceLeDiff,Nat.reduceEqDiff,Int.reduceLT,Int.reduceLE,Int.reduceBEq,Int.reduceEq,Nat.reduceBEq,Nat.reduceLT,Nat.reduceSub,g2,g3,g6,g10,g11,g12,NM,t2,c0,c1,c2,ta,Za,AV.cut,Fa,Ha,Cb];subst hQ;exact⟨false,by rw[od,sg],by simp⟩
  ·rintro t ⟨nl,rfl,Wc⟩
   rw[ai];have e1:decide ((ss.length:Int) < (ss.length:Int))=false:=Ra (by omega);generalize hQ:(fun r:Ex×St=>r.1.stop=true/\_)=Q;simp -implicitDefEqProofs only[SX,sevalprocAttr,tD,e1,XL];subst hQ;exact⟨rfl,_,nl,rfl,fun h=>Ze (Wc h),by simp[Tr.na],by simp[Tr.na]⟩
 obtain⟨r,h1,E,nl,rfl,Wc,g2,g3⟩:=wg yc;have Jg:Mb (Aa (ua (La (fun _=>none) 8) tD) (ta 3 [2,3,10,11,12])) Ga ⟨((((Tr.lf.set 12 (.pv (.int .i64 0))).set 11 (.pv (aa ss.length))).set 10 (.pv S)).set 3 (.ptr 1 0)).set 2 (.ptr 0 0),[.box [.pv .oa],.box [.uq 2 true 2 []],.tok 2 0 true]⟩=_:=h1;have hz:(0 < 2)=True:=by simp
 have c2:(2 < 3)=True:=by simp
 have c1:(1 < 3)=True:=by simp
 have c0:(0 < 3)=True:=by simp
 have Gi:nl=true->ss.map dg=[]:=fun h=>by rw[Wc h];rfl
 generalize ss.map dg=out at *
 cases nl with
 |true=>
  refine⟨.oa,?_,.inl ⟨rfl,?_⟩⟩
  ·simp -implicitDefEqProofs only[Hz,SP,SA,SQ,sevalprocAttr,Aa,nL,Oc,nu,UO,lS,Af,hz,c0,c1,c2,ta,Za,AV.cut,Fa,bc,Ha,Cb,Jg,g2,g3]
  ·exact Gi rfl
 |false=>refine⟨.lit 2 out,?_,.inr rfl⟩;simp -implicitDefEqProofs only[Hz,SP,SA,SQ,sevalprocAttr,Aa,nL,Oc,nu,UO,lS,Af,hz,c0,c1,c2,ta,Za,AV.cut,Fa,bc,Ha,Cb,Jg,g2,g3]
theorem uc.ne{ss:List ya}(h:uc ss):∀ s∈ss,0 < s.ba.length:=fun s hs=>(h.He s hs).lo
theorem zd.DU{S:PV}{ss:List ya}{es:List PV}(h:zd S ss es):∀ s∈ss,∀ l∈s.ba,l.length * 16<=140737488355328:=by
 intro s hs l hl;obtain⟨i,hi,rfl⟩:=uj hs;obtain⟨e,P,ps,_,_,hp⟩:=h.get hi
 obtain⟨j,hj,rfl⟩:=uj hl;obtain⟨v,_,_,hv⟩:=hp.ba.get hj
 exact hv.sz
theorem Pq{S:PV}{ss:List ya}{es:List PV}(hS:zd S ss es):
 (¬ uc ss->qk [.agg [S]]=some (.Ba [.agg [.oa],aa 84]))/\
 (uc ss->¬Ee ss->qk [.agg [S]]=some (.Ba [.agg [.oa],aa 110]))/\
 (uc ss->Ee ss->bf ss=none->qk [.agg [S]]=some (.Ba [.agg [.oa],aa 130]))/\
 (uc ss->Ee ss->∀ l,bf ss=some l->qk [.agg [S]]=some (.Ba [.agg [ni l],aa 0])):=by
 have Zq:S= .oa\/∃ l,S= .lit 2 l:=by
  rcases hS.is with⟨h,_⟩ | h
  ·exact .inl h
  ·exact .inr ⟨_,h⟩
 have hp:=B6 hS;refine⟨?_,?_,?_,?_⟩
 ·intro h
  exact Cab S Zq (by decide) (hp.1 h)
 ·intro h1 h2
  obtain⟨y,a,b,h3,h4⟩:=hp.2 h1
  have hy:y=false:=by cases y with | false=>rfl | true=>exact absurd (h4.1 rfl) h2
  subst hy;exact Iab S Zq h3
 ·intro h1 h2 h5
  obtain⟨y,a,b,h3,h4⟩:=hp.2 h1
  have hy:=h4.2 h2
  subst hy;obtain⟨S',hc,hs⟩:=eR hS h1;exact Dab S S' ss Zq h3 hc hs h1.len hS.DU h1.ne h5
 ·intro h1 h2 l h5
  obtain⟨y,a,b,h3,h4⟩:=hp.2 h1
  have hy:=h4.2 h2
  subst hy;obtain⟨S',hc,hs⟩:=eR hS h1;exact Jab S S' ss Zq h3 hc hs h1.len hS.DU h1.ne h5
abbrev xa(es:List PV):fa:= .box (es.map .pv)
theorem Gt{A:List fa}{id:Nat}{es:List PV}(hg:A[id]? =some (xa es))(o d:Nat):place A d (.ptr id o)=some (.ptr id (o+d)):=by
 simp only[place,hg]
theorem zU{A:List fa}{id:Nat}{es:List PV}(hg:A[id]? =some (xa es)){k:Nat}{e:PV}(hk:es[k]? =some e):wa A false 1 (.ptr id k)=some (.pv e):=by
 simp only[wa,hg,tg,Sc,if_false,Gd,hk,Vc]
theorem YN{A:List fa}{id:Nat}{es:List PV}(hg:A[id]? =some (xa es)){k:Nat}(hk:k < es.length){e:PV}(hc:e.cells=[e])(h1:(AV.pv e).one=true):Db A 1 (.ptr id k) (.pv e)=some (A.set id (xa (es.set k e))):=by
 have ri:(AV.pv e).cells=[.pv e]:=by simp[AV.cells,hc]
 simp only[Db,hg,ri];rw[if_pos ⟨rfl,by simp[h1]⟩,if_pos (by simp;omega),za,za];show _=some (A.set id (.box ((es.set k e).map .pv)));rw[Tz]
theorem Sk:∀ (es:List PV),bd (es.map .pv)=some es
 | []=>rfl
 |e::es=>by rw[Pf,bd,Sk es];rfl
theorem mF{A:List fa}{id n:Nat}{es:List PV}(hg:A[id]? =some (xa es))(hn:es.length=n):wa A true n (.ptr id 0)=some (.pv (.agg es)):=by
 simp only[wa,hg,tg,if_true];rw[if_pos (by simp;omega)];have:List.take n (List.drop 0 (es.map AV.pv))=es.map AV.pv:=by rw[Un,Ih (by simp;omega)]
 rw[this,mq,Sk]
theorem CO{α:Type}:∀ (vs cs pre:List α),cs.length=vs.length->za (pre++cs) pre.length vs=pre++vs
 | [],cs,pre,h=>by cases cs with | nil=>rfl | cons=>simp at h
 |v::vs,cs,pre,h=>by
  cases cs with
  |nil=>simp at h
  |cons c cs=>
   have:(pre++c::cs).set pre.length v=(pre++[v])++cs:=by simp
   rw[za,this];have h2:=CO vs cs (pre++[v]) (by simpa using h);simp only[Pc,QC] at h2;rw[h2];simp
theorem ZN{A:List fa}{id n:Nat}{es fs:List PV}(hg:A[id]? =some (xa es))(hn:es.length=n)(hf:fs.length=n)(h1:∀ e∈fs,(AV.pv e).one=true):Db A n (.ptr id 0) (.pv (.agg fs))=some (A.set id (xa fs)):=by
 have ri:(AV.pv (.agg fs)).cells=fs.map .pv:=rfl
 simp only[Db,hg,ri];rw[if_pos ⟨by simp[hf],by rw[Df];intro v hv;obtain⟨e,he,rfl⟩:=Re.1 hv;exact h1 e he⟩,if_pos (by simp;omega)];have:=CO (fs.map AV.pv) (es.map AV.pv) [] (by simp;omega);simp only[Kf,Ch] at this;rw[this]
theorem Ej(es:List PV)(n:Nat):Fa n (xa es)=some (xa es):=by
 have:Ha (AV.cut n deep) (es.map AV.pv)=some (es.map AV.pv):=by
  refine gq ?_;intro v hv;obtain⟨e,_,rfl⟩:=Re.1 hv
  exact bc
 simp only[Fa,this,Vc]
def xw(l:List (Int×Int))(i:Nat):Int:=match i with
 |0=> -2
 |k+1=>match l[k]? with | some p=>p.2 | none=> -2
abbrev Qv(v:PV)(i:Int):Tr:=(Tr.lf.set 3 (.pv (aa i))).set 0 (.pv v)
theorem o7{v:PV}{l:List (Int×Int)}(hv:Pb 2 v (Pa l))(hw:l.length * 16<=140737488355328):OF [v]=some (.bool (Ub 255 (-2) l)):=by
 have yc:Ia (fun r=>∃ E,(r=(.exit 0,⟨E,[]⟩)/\Ub 255 (-2) l=true)\/(r=(.ret,⟨E,[]⟩)/\E.get 2= .pv (.bool false)/\Ub 255 (-2) l=false))
  (Mb (Aa (ua (La (fun _=>none) 8) Yt) (ta 0 [0,3])) Ga ⟨Qv v 0,[]⟩):=by
  refine Bb (We (g:=Aa (ua (La (fun _=>none) 8) Yt) (ta 0 [0,3]))
   (fun i t=>t=⟨Qv v i,[]⟩/\ -2<=xw l i/\xw l i<=255/\Ub 255 (-2) l=Ub 255 (xw l i) (l.drop i))
   l.length (by unfold Ga;omega) _ ⟨rfl,Ll _,by show (-2:Int)<=255;decide,rfl⟩ ?_ ?_) (fun r h=>h.2)
  ·rintro i t hi ⟨rfl,uZ,ZM,hs⟩
   have hl:=hv.lit (i:=i) (by simpa using hi)
   subst hl;have hd:l.drop i=l[i]::l.drop (i+1):=Hh hi
   have Th:xw l (i+1)=l[i].2:=by simp[xw,hi]
   have a1:=zw [] hi;have Eaj:0 < i->∃ a b,xw l i=b/\IntKind.i64.wrap ((i:Int) - 1)=((i - 1:Nat):Int)/\Ua [] 2 (.pv (.lit 2 (Pa l))) ((i - 1:Nat):Int)=some (.pv (.rp [aa a,aa b] 0)):=by
    intro h0;have hi1:i - 1 < l.length:=by omega
    refine⟨l[i - 1].1,l[i - 1].2,?_,?_,zw [] hi1⟩
    ·obtain⟨k,rfl⟩:∃ k,i=k+1:=⟨i - 1,by omega⟩
     simp[xw,show k < l.length by omega]
    ·rw[show (i:Int) - 1=((i - 1:Nat):Int) by omega]
     exact Gb (by omega)
   have e1:decide ((i:Int) < (l.length:Int))=true:=Qa (by omega);have t2:=ee hi (by unfold maxLen;omega);have ln:=Pb.len (sz:=2) (v:= .lit 2 (Pa l)) (es:=Pa l) (.inr rfl) []
   have lp:(Pa l).length=l.length:=by simp[Pa]
   rw[lp] at ln;rw[hd,Ub] at hs;have l0:∀ a b:PV,wa [] false 1 (.pv (.rp [a,b] 0))=some (.pv a):=fun a b=>rfl;have l1:∀ a b:PV,wa [] false 1 (.pv (.rp [a,b] 1))=some (.pv b):=fun a b=>rfl;have p0:∀ a b:PV,place [] 0 (.pv (.rp [a,b] 0))=some (.pv (.rp [a,b] 0)):=fun a b=>rfl;have p1:∀ a b:PV,place [] 1 (.pv (.rp [a,b] 0))=some (.pv (.rp [a,b] 1)):=fun a b=>rfl;generalize l[i]=p at *;generalize hV:Ub 255 p.2 (l.drop (i+1))=V at *
   generalize Pa l=es at *;generalize hQ:LN _ _ i=Q
   by_cases c1:p.1 < 0
   ·have d1:=Qa c1
    simp -implicitDefEqProofs only[SX,sevalprocAttr,-List.reduceReplicate,Yt,e1,ln,a1,l0,l1,p0,p1,d1,Qv];subst hQ;rw[d1] at hs;exact⟨_,.inr ⟨rfl,by simp[Tr.na],by simpa using hs⟩⟩
   have d1:=Ra c1
   by_cases c2:p.1 > p.2
   ·have d2:=Qa c2
    simp -implicitDefEqProofs only[SX,sevalprocAttr,-List.reduceReplicate,Yt,e1,ln,a1,l0,l1,p0,p1,d1,d2,Qv];subst hQ;rw[d2] at hs;exact⟨_,.inr ⟨rfl,by simp[Tr.na],by simpa using hs⟩⟩
   have d2:=Ra c2
   by_cases c3:p.2 > 255
   ·have d3:=Qa c3
    simp -implicitDefEqProofs only[SX,sevalprocAttr,-List.reduceReplicate,Yt,e1,ln,a1,l0,l1,p0,p1,d1,d2,d3,Qv];subst hQ;rw[d3] at hs;exact⟨_,.inr ⟨rfl,by simp[Tr.na],by simpa using hs⟩⟩
   have d3:=Ra c3;have iw:∀ b,decide (p.1 - 1<=xw l i)=b->Ub 255 (-2) l=(!b&&V):=by intro b hb;rw[hs,d1,d2,d3,hb];simp
   by_cases h0:0 < i
   ·obtain⟨a,b,hb,t3,a2⟩:=Eaj h0
    have e0:decide ((i:Int) > 0)=true:=Qa (by omega);rw[hb] at ZM uZ iw;have t5:IntKind.i64.wrap (b+1)=b+1:=Gb (by omega)
    by_cases c4:p.1<=b+1
    ·have d4:=Qa c4
     have Si:Ub 255 (-2) l=false:=by rw[iw true (Qa (by omega))];rfl
     simp -implicitDefEqProofs only[SX,sevalprocAttr,-List.reduceReplicate,Yt,e1,ln,a1,l0,l1,p0,p1,d1,d2,d3,e0,t3,t5,a2,d4,Qv];subst hQ;exact⟨_,.inr ⟨rfl,by simp[Tr.na],Si⟩⟩
    ·have d4:=Ra c4
     simp -implicitDefEqProofs only[SX,sevalprocAttr,-List.reduceReplicate,Yt,e1,ln,a1,l0,l1,p0,p1,d1,d2,d3,e0,t2,t3,t5,a2,d4,ta,Za,AV.cut,Cb,Qv];subst hQ;refine⟨rfl,by omega,by omega,?_⟩;rw[Th,hV,iw false (Ra (by omega))];rfl
   ·have e0:decide ((i:Int) > 0)=false:=Ra (by omega)
    have mZ:xw l i= -2:=by
     have:i=0:=by omega
     subst this;rfl
    simp -implicitDefEqProofs only[SX,sevalprocAttr,-List.reduceReplicate,Yt,e1,ln,a1,l0,l1,p0,p1,d1,d2,d3,e0,t2,ta,Za,AV.cut,Cb,Qv];subst hQ;refine⟨rfl,by omega,by omega,?_⟩;rw[Th,hV,iw false (Ra (by omega))];rfl
  ·rintro t ⟨rfl,uZ,ZM,hs⟩
   rw[Zh,Ub] at hs;have ln:=hv.len []
   rw[show (Pa l).length=l.length by simp[Pa]] at ln;have e1:decide ((l.length:Int) < (l.length:Int))=false:=Ra (by omega);generalize hQ:(fun r:Ex×St=>r.1.stop=true/\_)=Q;simp -implicitDefEqProofs only[SX,sevalprocAttr,-List.reduceReplicate,Yt,e1,ln,Qv];subst hQ;exact⟨rfl,_,.inl ⟨rfl,hs⟩⟩
 apply Hl;simp -implicitDefEqProofs only[OF,SX,sevalprocAttr,-List.reduceReplicate,QP,Oc,ta,Za,AV.cut,Cb];refine Bb yc ?_;rintro _ ⟨E,⟨rfl,hb⟩ | ⟨rfl,hE,hb⟩⟩
 ·simp -implicitDefEqProofs only[SX,sevalprocAttr,-List.reduceReplicate,hb]
 ·simp -implicitDefEqProofs only[SX,sevalprocAttr,-List.reduceReplicate,hE,hb]
def pb(f:Nat->Bool):List PV:=(List.range 256).map fun x=> .bool (f x)
theorem Vu(f:Nat->Bool):(pb f).length=256:=by simp[pb]
theorem Y8(f:Nat->Bool){x:Nat}(h:x < 256):(pb f)[x]? =some (.bool (f x)):=by simp[pb,h]
theorem rV(f:Nat->Bool){x:Nat}(h:x < (pb f).length):(pb f)[x]= .bool (f x):=by
 simp only[pb,cG,dG]
theorem iar(f:Nat->Bool){x:Nat}(h:x < 256)(b:Bool):(pb f).set x (.bool b)=pb fun y=>if y=x then b else f y:=by
 apply Oz
 ·rw[Um,Vu,Vu]
 ·intro j h1 h2
  rw[DK,rV,rV]
  by_cases hj:x=j
  ·subst hj;rw[if_pos rfl,if_pos rfl]
  ·rw[qa hj,qa (tf hj)]
theorem yJ{f g:Nat->Bool}(h:∀ x,x < 256->f x=g x):pb f=pb g:=by
 unfold pb;apply Hq;intro x hx;rw[h x (by simpa using hx)]
theorem sV:List.replicate 256 (PV.bool false)=pb fun _=>false:=by
 apply Oz
 ·rw[Gq,Vu]
 ·intro j h1 h2;rw[List.getElem_replicate,rV]
theorem Z8(f:Nat->Bool):∀ e∈pb f,(AV.pv e).one=true:=by
 intro e he;obtain⟨x,_,rfl⟩:=Re.1 he
 rfl
def Wf(l:List (Int×Int))(x:Nat):Bool:=l.any fun p=>decide (p.1<=(x:Int))&&decide ((x:Int)<=p.2)
theorem HB{l:List (Int×Int)}{x:Nat}:Wf l x=true↔Mf (x:Int) l:=by
 unfold Wf Mf;simp
abbrev YL(v:PV)(i y:Int):Tr:=((((Tr.lf.set 5 (.pv (aa y))).set 4 (.pv (aa i))).set 3 (.ptr 1 0)).set 2 (.ptr 0 0)).set 0 (.pv v)
abbrev Wx(v:PV)(i:Int):Tr:=(((Tr.lf.set 4 (.pv (aa i))).set 3 (.ptr 1 0)).set 2 (.ptr 0 0)).set 0 (.pv v)
theorem Sal(call:Ab){v:PV}{l:List (Int×Int)}(hv:Pb 2 v (Pa l)){i:Nat}(hi:i < l.length)(hp:0<=l[i].1/\l[i].1<=l[i].2/\l[i].2<=255)(Z:List PV):
 Ia (fun r=>∃ E,r=(.exit 2,⟨E,[xa Z,xa (pb (Wf (l.take (i+1))))]⟩)/\E.get 0= .pv v/\E.get 2= .ptr 0 0/\E.get 3= .ptr 1 0/\E.get 4= .pv (aa i))
  (Mb (Aa (ua call AG) (ta 2 [0,2,3,4,5])) Ga ⟨YL v i l[i].1,[xa Z,xa (pb (Wf (l.take i)))]⟩):=by
 have hl:=hv.lit (i:=i) (by simpa using hi)
 subst hl;have a1:=fun A=>zw A hi;have od:∀ x,Wf (l.take (i+1)) x=(Wf (l.take i) x||(decide (l[i].1<=(x:Int))&&decide ((x:Int)<=l[i].2))):=by
  intro x;have:l.take (i+1)=l.take i++[l[i]]:=by simp
  rw[this];simp only[Wf,List.any_append,List.any_cons,List.any_nil,xz]
 have l1:∀ (A:List fa)(a b:PV),wa A false 1 (.pv (.rp [a,b] 1))=some (.pv b):=fun A a b=>rfl;have p1:∀ (A:List fa)(a b:PV),place A 1 (.pv (.rp [a,b] 0))=some (.pv (.rp [a,b] 1)):=fun A a b=>rfl;generalize l[i]=p at *;generalize xn:Pa l=es at *;generalize hf:Wf (l.take i)=f at *;have hlen:∀ f,(pb f).length=256:=Vu
 refine Bb (We (g:=Aa (ua call AG) (ta 2 [0,2,3,4,5]))
  (fun k t=>t=⟨YL (.lit 2 es) i (p.1+k),[xa Z,xa (pb fun x=>f x||(decide (p.1<=(x:Int))&&decide ((x:Int) < p.1+k)))]⟩)
  (p.2+1 - p.1).toNat (by unfold Ga;omega) _ ?_ ?_ ?_) (fun r h=>h.2)
 ·have:(pb fun x=>f x||(decide (p.1<=(x:Int))&&decide ((x:Int) < p.1+(0:Nat))))=pb f:=by
   refine yJ fun x hx=> ?_;have:(decide (p.1<=(x:Int))&&decide ((x:Int) < p.1+(0:Nat)))=false:=by
    rw[Bool.and_eq_false_iff]
    by_cases h:p.1<=(x:Int)
    ·exact .inr (Ra (by omega))
    ·exact .inl (Ra h)
   rw[this,xz]
  rw[this,show p.1+((0:Nat):Int)=p.1 by omega]
 ·rintro k t hk rfl
  obtain⟨y,hy⟩:∃ y:Nat,p.1+(k:Int)=y:=⟨(p.1+k).toNat,by omega⟩
  have wak:y < 256:=by omega
  have e1:decide ((y:Int)<=p.2)=true:=Qa (by omega);have hq:Ta (y:Int) 256:=by unfold Ta;omega
  have t1:((y:Int)).toNat=y:=by simp
  have m1:y * 1=y:=by omega
  have z1:0+y=y:=by omega
  have t2:IntKind.i64.wrap ((y:Int)+1)=((y+1:Nat):Int):=Gb (by omega)
  rw[hy];have Up:(pb fun x=>f x||(decide (p.1<=(x:Int))&&decide ((x:Int) < (y:Int)))).set y (.bool true)=pb fun x=>f x||(decide (p.1<=(x:Int))&&decide ((x:Int) < p.1+(k+1:Nat))):=by
   rw[iar _ wak];refine yJ fun x hx=> ?_
   by_cases GI:x=y
   ·have h1:p.1<=(x:Int):=by omega
    have h2:(x:Int) < p.1+(k+1:Nat):=by omega
    rw[if_pos GI,Qa h1,Qa h2];simp
   ·have:((x:Int) < (y:Int))=((x:Int) < p.1+(k+1:Nat)):=by apply propext;omega
    rw[qa GI];simp only[this]
  have Fi:=hlen fun x=>f x||(decide (p.1<=(x:Int))&&decide ((x:Int) < (y:Int)))
  generalize hT:(pb fun x=>f x||(decide (p.1<=(x:Int))&&decide ((x:Int) < (y:Int))))=T at *;have pl:=Gt (A:=[xa Z,xa T]) (id:=1) (es:=T) rfl 0 y;have st:=YN (A:=[xa Z,xa T]) (id:=1) (es:=T) rfl (k:=y) (by omega) (e:= .bool true) rfl rfl;rw[Up] at st;rw[z1] at pl;have st2:([xa Z,xa T]:List fa).set 1 (xa (pb fun x=>f x||(decide (p.1<=(x:Int))&&decide ((x:Int) < p.1+(k+1:Nat)))))=[xa Z,xa (pb fun x=>f x||(decide (p.1<=(x:Int))&&decide ((x:Int) < p.1+(k+1:Nat))))]:=rfl
  rw[st2] at st;have c1:=Ej Z 2;have c2:=Ej (pb fun x=>f x||(decide (p.1<=(x:Int))&&decide ((x:Int) < p.1+(k+1:Nat)))) 2;have Oe:p.1+((k+1:Nat):Int)=((y+1:Nat):Int):=by omega
  generalize hT':(pb fun x=>f x||(decide (p.1<=(x:Int))&&decide ((x:Int) < p.1+(k+1:Nat))))=T' at *;have fc:Ha (Fa 2) [xa Z,xa T']=some [xa Z,xa T']:=by simp[Ha,c1,c2]
  have Lm:([xa Z,xa T']:List fa).take 2=[xa Z,xa T']:=rfl
  generalize xa Z=oz at *;generalize xa T=ot at *;generalize hot:xa T'=ot' at *;have d0:(0 < 2)=True:=by simp
  have d1:(1 < 2)=True:=by simp
  generalize hQ:LN _ _ k=Q;simp -implicitDefEqProofs only[SX,sevalprocAttr,-List.reduceReplicate,AG,e1,a1,l1,p1,Sa hq,t1,m1,pl,st,t2,fc,Lm,d0,d1,ta,Za,AV.cut,Cb,YL];subst hQ;show (_:St)=_;rw[hT',hot,Oe]
 ·rintro t rfl
  have e1:decide (p.1+((p.2+1 - p.1).toNat:Int)<=p.2)=false:=Ra (by omega);have Oe:(pb fun x=>f x||(decide (p.1<=(x:Int))&&decide ((x:Int) < p.1+((p.2+1 - p.1).toNat:Int))))=pb (Wf (l.take (i+1))):=by
   refine yJ fun x hx=> ?_;have:((x:Int) < p.1+((p.2+1 - p.1).toNat:Int))=((x:Int)<=p.2):=by apply propext;omega
   rw[od];simp only[this]
  rw[Oe];generalize xa (pb (Wf (l.take (i+1))))=ot;generalize xa Z=oz;generalize hQ:(fun r:Ex×St=>r.1.stop=true/\_)=Q;simp -implicitDefEqProofs only[SX,sevalprocAttr,-List.reduceReplicate,AG,e1,a1,l1,p1,YL];subst hQ;exact⟨rfl,_,rfl,by simp[Tr.na],by simp[Tr.na],by simp[Tr.na],by simp[Tr.na]⟩
theorem FJ{l:List (Int×Int)}{last:Int}(h:Ub 255 last l=true):∀ p∈l,0<=p.1/\p.1<=p.2/\p.2<=255:=by
 induction l generalizing last with
 |nil=>intro p hp;cases hp
 |cons q l ih=>
  simp only[Ub,fb,Lo,IF,decide_eq_false_iff_not] at h;intro p hp;rcases Ae.1 hp with rfl | hp
  ·omega
  ·exact ih h.2 p hp
def Ge(l:List (Int×Int))(x:Nat):Bool:=Ub 255 (-2) l&&Wf l x
theorem eU{v:PV}{l:List (Int×Int)}(hv:Pb 2 v (Pa l))(hw:l.length * 16<=140737488355328):Cz [v]=some (.agg (pb (Ge l))):=by
 have Py:=o7 hv hw;have hz:([]++[fa.box (List.map AV.pv (List.replicate 256 (PV.bool false)))]++[fa.box (List.map AV.pv (List.replicate 256 (PV.bool false)))]:List fa)=[xa (pb fun _=>false),xa (pb fun _=>false)]:=by rw[sV];rfl
 have ft:fa.box (List.map AV.pv (List.replicate 256 (PV.bool false)))=xa (pb fun _=>false):=by rw[sV]
 have mf:∀ f,wa [xa (pb fun _=>false),xa (pb f)] true 256 (.ptr 1 0)=some (.pv (.agg (pb f))):=fun f=>mF (id:=1) rfl (Vu f);have zc:∀ f,Db [xa (pb fun _=>false),xa (pb f)] 256 (.ptr 0 0) (.pv (.agg (pb f)))=some [xa (pb f),xa (pb f)]:=fun f=>ZN (id:=0) rfl (Vu _) (Vu f) (Z8 f);have Mh:∀ f,wa [xa (pb f),xa (pb f)] true 256 (.ptr 0 0)=some (.pv (.agg (pb f))):=fun f=>mF (id:=0) rfl (Vu f)
 by_cases ga:Ub 255 (-2) l=true
 ·rw[ga] at Py
  have Oe:pb (Ge l)=pb (Wf l):=yJ fun x _=>by rw[Ge,ga,ng]
  rw[Oe];have Du:=FJ ga;have yc:Ia (fun r=>∃ E,r=(.exit 0,⟨E,[xa (pb fun _=>false),xa (pb (Wf l))]⟩)/\E.get 2= .ptr 0 0/\E.get 3= .ptr 1 0)
   (Mb (Aa (ua (La (fun _=>none) 8) zG) (ta 2 [0,2,3,4])) Ga ⟨Wx v 0,[xa (pb fun _=>false),xa (pb fun _=>false)]⟩):=by
   refine Bb (We (g:=Aa (ua (La (fun _=>none) 8) zG) (ta 2 [0,2,3,4]))
    (fun i t=>t=⟨Wx v i,[xa (pb fun _=>false),xa (pb (Wf (l.take i)))]⟩)
    l.length (by unfold Ga;omega) _ rfl ?_ ?_) (fun r h=>h.2)
   ·rintro i t hi rfl
    have Tf:=Sal (La (fun _=>none) 8) hv hi (Du _ (ic hi)) (pb fun _=>false);have a1:=fun A=>zw A hi;have ln:=hv.len
    have hl:=hv.lit (i:=i) (by simpa using hi)
    subst hl;have lp:(Pa l).length=l.length:=by simp[Pa]
    simp only[lp] at ln;have l0:∀ (A:List fa)(a b:PV),wa A false 1 (.pv (.rp [a,b] 0))=some (.pv a):=fun A a b=>rfl;have p0:∀ (A:List fa)(a b:PV),place A 0 (.pv (.rp [a,b] 0))=some (.pv (.rp [a,b] 0)):=fun A a b=>rfl;have e1:decide ((i:Int) < (l.length:Int))=true:=Qa (by omega);have t2:=ee hi (by unfold maxLen;omega);have fc:∀ f g,Ha (Fa 2) [xa (pb f),xa (pb g)]=some [xa (pb f),xa (pb g)]:=fun f g=>by have c1:=Ej (pb f) 2;have c2:=Ej (pb g) 2;simp only[Ha,c1,c2,Lc,Vc]
    have Xah:=fc (fun _=>false) (Wf (l.take i));have uu:=fc (fun _=>false) (Wf (l.take (i+1)));have Lm:∀ a b:fa,([a,b]:List fa).take 2=[a,b]:=fun a b=>rfl
    generalize l[i]=p at *;generalize xn:Pa l=es at *;have hI:⟨Wx (.lit 2 es) (i+1:Nat),[xa (pb fun _=>false),xa (pb (Wf (l.take (i+1))))]⟩=(⟨Wx (.lit 2 es) (i+1:Nat),[xa (pb fun _=>false),xa (pb (Wf (l.take (i+1))))]⟩:St):=rfl;have vf:∀ s:St,s=⟨Wx (.lit 2 es) (i+1:Nat),[xa (pb fun _=>false),xa (pb (Wf (l.take (i+1))))]⟩->LN (fun i t=>t=⟨Wx (.lit 2 es) i,[xa (pb fun _=>false),xa (pb (Wf (l.take i)))]⟩) (fun r=>∃ E,r=(.exit 0,⟨E,[xa (pb fun _=>false),xa (pb (Wf l))]⟩)/\E.get 2= .ptr 0 0/\E.get 3= .ptr 1 0) i (.norm,s):=fun s h=>h;generalize xa (pb fun _=>false)=oz at *;generalize xa (pb (Wf (l.take i)))=ot at *;generalize xa (pb (Wf (l.take (i+1))))=ot' at *;have d0:(0 < 2)=True:=by simp
    have d1:(1 < 2)=True:=by simp
    generalize hQ:LN _ _ i=Q at vf ⊢;simp -implicitDefEqProofs only[SX,sevalprocAttr,-List.reduceReplicate,zG,Oc,e1,ln,a1,l0,p0,Xah,Lm,d0,d1,ta,Za,AV.cut,Cb,Wx];refine Bb Tf ?_;rintro r ⟨E,rfl,g0,g2,g3,g4⟩;simp -implicitDefEqProofs only[SX,sevalprocAttr,-List.reduceReplicate,g0,g2,g3,g4,t2,uu,Lm,d0,d1,ta,Za,AV.cut,Cb];exact vf _ rfl
   ·rintro t rfl
    rw[ai];have ln:=hv.len
    simp only[show (Pa l).length=l.length by simp[Pa]] at ln;have e1:decide ((l.length:Int) < (l.length:Int))=false:=Ra (by omega);generalize xa (pb (Wf l))=ot;generalize xa (pb fun _=>false)=oz;generalize hQ:(fun r:Ex×St=>r.1.stop=true/\_)=Q;simp -implicitDefEqProofs only[SX,sevalprocAttr,-List.reduceReplicate,zG,e1,ln,Wx];subst hQ;exact⟨rfl,_,rfl,by simp[Tr.na],by simp[Tr.na]⟩
  have fc:Ha (Fa 2) [xa (pb fun _=>false),xa (pb fun _=>false)]=some [xa (pb fun _=>false),xa (pb fun _=>false)]:=by have c1:=Ej (pb fun _=>false) 2;simp only[Ha,c1,Lc,Vc]
  have Lm:∀ a b:fa,([a,b]:List fa).take 2=[a,b]:=fun a b=>rfl
  have AT:=zc (Wf l);have pT:=mf (Wf l);have WS:=Mh (Wf l);have d0:(0 < 2)=True:=by simp
  have d1:(1 < 2)=True:=by simp
  generalize cm:List.replicate 256 (PV.bool false)=zs at *
  generalize xa (pb fun _=>false)=oz at *;generalize xa (pb (Wf l))=ot at *;generalize pb (Wf l)=T at *;apply Hl;simp -implicitDefEqProofs only[Cz,SX,sevalprocAttr,-List.reduceReplicate,ZK,cm,ft,Oc,Py,fc,Lm,d0,d1,ta,Za,AV.cut,Cb];refine Bb yc ?_;rintro r ⟨E,rfl,g2,g3⟩;simp -implicitDefEqProofs only[SX,sevalprocAttr,-List.reduceReplicate,g2,g3,pT,AT,WS]
 ·have Ck:Ub 255 (-2) l=false:=by simpa using ga
  rw[Ck] at Py;have Oe:pb (Ge l)=pb fun _=>false:=yJ fun x _=>by rw[Ge,Ck,Ko]
  rw[Oe];have AT:=zc fun _=>false;have pT:=mf fun _=>false;have WS:=Mh fun _=>false;generalize cm:List.replicate 256 (PV.bool false)=zs at *
  generalize xa (pb fun _=>false)=oz at *;generalize pb (fun _=>false)=T at *;apply Hl;simp -implicitDefEqProofs only[Cz,SX,sevalprocAttr,-List.reduceReplicate,ZK,cm,ft,Py,pT,AT,WS]
def Qi(f:Nat->Bool)(n:Nat):Nat:=(List.range n).countP f
theorem Lac(f:Nat->Bool):Qi f 0=0:=rfl
theorem lH(f:Nat->Bool)(n:Nat):Qi f (n+1)=Qi f n+if f n then 1 else 0:=by
 unfold Qi;rw[jv,List.countP_append];simp[List.countP_cons]
theorem Jac(f:Nat->Bool)(n:Nat):Qi f n<=n:=by
 have:=List.countP_le_length (p:=f) (l:=List.range n)
 simpa[Qi] using this
theorem Kac{f g h:Nat->Bool}(n:Nat)(hf:∀ x,x < n->f x=(g x||h x))(hd:∀ x,x < n->g x=true->h x=true->False):Qi f n=Qi g n+Qi h n:=by
 induction n with
 |zero=>rfl
 |succ n ih=>rw[lH,lH,lH,ih (fun x hx=>hf x (by omega)) (fun x hx=>hd x (by omega)),hf n (by omega)];have:=hd n (by omega);cases h1:g n <;> cases h2:h n <;> simp_all <;> omega
theorem Iac(a b:Nat)(n:Nat):Qi (fun x=>decide (a<=x)&&decide (x < b)) n=min n b - min a (min n b):=by
 induction n with
 |zero=>simp[Lac]
 |succ n ih=>
  rw[lH,ih]
  by_cases h:a<=n/\n < b
  ·rw[if_pos (by simp[h])];omega
  ·rw[qa (by simpa using fun h1=>Nat.le_of_not_lt fun h2=>h ⟨h1,h2⟩)];omega
theorem H8:∀ (l:List (Int×Int))(last n:Int),Ub 255 last l=true->Tb n l=n+Qi (Wf l) 256
 | [],_,n,_=>by
   have:Qi (Wf []) 256=0:=by unfold Qi;rw[List.countP_eq_zero];intro x _;simp[Wf]
   rw[this];simp[Tb]
 |p::l,last,n,h=>by
  have hp:=FJ h p (by simp);have h2:=h;simp only[Ub,fb] at h2;rw[Tb,H8 l p.2 _ h2.2];have hor:Qi (Wf (p::l)) 256=Qi (fun x=>decide (p.1.toNat<=x)&&decide (x < (p.2+1).toNat)) 256+Qi (Wf l) 256:=by
   apply Kac
   ·intro x _
    simp only[Wf,List.any_cons]
    congr 1
    congr 1 <;> (rw[decide_eq_decide];omega)
   ·intro x _ h3 h4
    have:=YO h2.2 (HB.1 h4)
    simp at h3;omega
  have hiv:=Iac p.1.toNat (p.2+1).toNat 256
  rw[hor,hiv];omega
def GO(l:List (Int×Int)):Nat:=Qi (Ge l) 256
theorem Caq{l:List (Int×Int)}(h:Ub 255 (-2) l=true):(GO l:Int)=Tb 0 l:=by
 rw[H8 l _ _ h];have:Ge l=Wf l:=by funext x;rw[Ge,h,ng]
 rw[GO,this];omega
abbrev CH(x n:Int):Tr:=((Tr.lf.set 5 (.pv (aa x))).set 4 (.pv (aa n))).set 3 (.ptr 0 0)
theorem Kao{v:PV}{l:List (Int×Int)}(hv:Pb 2 v (Pa l))(hw:l.length * 16<=140737488355328):aK [v]=some (aa (GO l)):=by
 have hm:=eU hv hw;unfold GO;generalize hf:Ge l=f at *;have yc:Ia (fun r=>∃ E H,r=(.exit 0,⟨E,H⟩)/\E.get 4= .pv (aa (Qi f 256)))
  (Mb (Aa (ua (La (fun _=>none) 8) kD) (ta 1 [3,4,5])) Ga ⟨CH 0 0,[xa (pb f)]⟩):=by
  refine Bb (We (g:=Aa (ua (La (fun _=>none) 8) kD) (ta 1 [3,4,5]))
   (fun x t=>t=⟨CH x (Qi f x),[xa (pb f)]⟩)
   256 (by unfold Ga;omega) _ rfl ?_ ?_) (fun r h=>h.2)
  ·rintro x t hx rfl
   have e1:decide ((x:Int)<=255)=true:=Qa (by omega);have hq:Ta (x:Int) 256:=by unfold Ta;omega
   have t1:((x:Int)).toNat=x:=by simp
   have m1:x * 1=x:=by omega
   have z1:0+x=x:=by omega
   have t2:IntKind.i64.wrap ((x:Int)+1)=((x+1:Nat):Int):=Gb (by omega)
   have hle:=Jac f x;have t3:IntKind.i64.wrap ((Qi f x:Int)+1)=(Qi f x:Int)+1:=Gb (by omega)
   have pl:=Gt (A:=[xa (pb f)]) (id:=0) (es:=pb f) rfl 0 x;rw[z1] at pl;have ld:=zU (A:=[xa (pb f)]) (id:=0) (es:=pb f) rfl (Y8 f hx);have fc:Ha (Fa 1) [xa (pb f)]=some [xa (pb f)]:=by simp only[Ha,Ej,Lc,Vc]
   have od:([xa (pb f)]:List fa).take 1=[xa (pb f)]:=rfl
   have d0:(0 < 1)=True:=by simp
   have hs:=lH f x;generalize hO:xa (pb f)=O at *;generalize hQ:LN _ _ x=Q;cases uo:f x with
   |true=>rw[uo] at hs ld;simp -implicitDefEqProofs only[SX,sevalprocAttr,-List.reduceReplicate,kD,e1,Sa hq,t1,m1,pl,ld,t2,t3,fc,od,d0,ta,Za,AV.cut,Cb,CH];subst hQ;show (_:St)=_;rw[hs];rfl
   |false=>rw[uo] at hs ld;simp -implicitDefEqProofs only[SX,sevalprocAttr,-List.reduceReplicate,kD,e1,Sa hq,t1,m1,pl,ld,t2,fc,od,d0,ta,Za,AV.cut,Cb,CH];subst hQ;show (_:St)=_;rw[hs];rfl
  ·rintro t rfl
   have e1:decide (((256:Nat):Int)<=255)=false:=Ra (by omega);generalize Qi f 256=c;generalize hQ:(fun r:Ex×St=>r.1.stop=true/\_)=Q;simp -implicitDefEqProofs only[SX,sevalprocAttr,-List.reduceReplicate,kD,e1,CH];subst hQ;exact⟨rfl,_,_,rfl,by simp[Tr.na]⟩
 have ft:fa.box (List.map AV.pv (List.replicate 256 (PV.bool false)))=xa (pb fun _=>false):=by rw[sV]
 have st:Db [xa (pb fun _=>false)] 256 (.ptr 0 0) (.pv (.agg (pb f)))=some [xa (pb f)]:=ZN (id:=0) rfl (Vu _) (Vu f) (Z8 f);have fc:Ha (Fa 1) [xa (pb f)]=some [xa (pb f)]:=by simp only[Ha,Ej,Lc,Vc]
 have od:([xa (pb f)]:List fa).take 1=[xa (pb f)]:=rfl
 have d0:(0 < 1)=True:=by simp
 generalize Qi f 256=c at *;generalize cm:List.replicate 256 (PV.bool false)=zs at *
 generalize xa (pb fun _=>false)=oz at *;generalize xa (pb f)=ot at *;generalize pb f=T at *;apply Hl;simp -implicitDefEqProofs only[aK,SX,sevalprocAttr,-List.reduceReplicate,OP,cm,ft,Oc,hm,st,fc,od,d0,ta,Za,AV.cut,Cb];refine Bb yc ?_;rintro r ⟨E,H,rfl,hE⟩;simp -implicitDefEqProofs only[SX,sevalprocAttr,-List.reduceReplicate,hE]
theorem Z6{v:PV}{l:List (Int×Int)}(hv:Pb 2 v (Pa l))(hw:l.length * 16<=140737488355328)(x:Int):
 Bz [v,aa x]=some (.bool (decide (0<=x)&&decide (x<=255)&&Ge l x.toNat)):=by
 have hm:=eU hv hw;generalize hf:Ge l=f at *
 by_cases h0:0<=x
 ·have e0:decide (x>=0)=true:=Qa (by omega)
  rw[show decide (0<=x)=true from Qa h0]
  by_cases h1:x<=255
  ·have e1:decide (x<=255)=true:=Qa h1
   have hq:Ta x 256:=by unfold Ta;omega
   have m1:x.toNat * 1=x.toNat:=by omega
   have hg:=Y8 f (x:=x.toNat) (by omega);have hp:Dj false 1 (pb f) x.toNat=some (.bool (f x.toNat)):=by unfold Dj;exact hg
   rw[e1];generalize f x.toNat=b at *
   generalize pb f=T at *;simp -implicitDefEqProofs only[Bz,SX,sevalprocAttr,-List.reduceReplicate,yG,e0,e1,hm,Sa hq,m1,hp,ng]
  ·have e1:decide (x<=255)=false:=Ra h1
   simp -implicitDefEqProofs only[Bz,SX,sevalprocAttr,-List.reduceReplicate,yG,e0,e1,ng,Ko]
 ·have e0:decide (x>=0)=false:=Ra (by omega)
  rw[show decide (0<=x)=false from Ra h0];simp -implicitDefEqProofs only[Bz,SX,sevalprocAttr,-List.reduceReplicate,yG,e0,Ko]
abbrev vH(row:List PV)(i n:Int):Tr:=((Tr.lf.set 4 (.pv (aa i))).set 3 (.pv (aa n))).set 1 (.pv (.rp row 0))
theorem kO{e:PV}{s:ya}{P:PV}{ps:List PV}(h:Yh e s P ps)(ga:∀ l∈s.ba,Se l):Dz [e]=some (aa (Gg 1 s.ba)):=by
 obtain⟨rfl,hP⟩:=h;have hb:=YE s.ba 1 ga (by omega) (by omega)
 have ib:=hP.sz
 have ln:=hP.mb
 have q0:∀ H (x y:PV),place H 0 (.pv (.rp [x,y] 0))=some (.pv (.rp [x,y] 0)):=fun H x y=>rfl;have r0:∀ H (x y:PV),wa H false 1 (.pv (.rp [x,y] 0))=some (.pv x):=fun H x y=>rfl;have yc:Ia (fun r=>∃ E H,r=(.exit 0,⟨E,H⟩)/\E.get 3= .pv (aa (Gg 1 s.ba)))
  (Mb (Aa (ua (La (fun _=>none) 8) mD) (ta 0 [1,3,4])) Ga ⟨vH [P,aa s.pa] 0 1,[]⟩):=by
  refine Bb (We (g:=Aa (ua (La (fun _=>none) 8) mD) (ta 0 [1,3,4]))
   (fun i t=>∃ n,t=⟨vH [P,aa s.pa] i n,[]⟩/\1<=n/\n<=1073741825/\Gg 1 s.ba=Gg n (s.ba.drop i))
   s.ba.length (by unfold Ga;unfold maxLen at ib;omega) _ ⟨1,rfl,by omega,by omega,rfl⟩ ?_ ?_) (fun r h=>h.2)
  ·rintro i t hi ⟨n,rfl,h1,h2,hs⟩
   obtain⟨v,hv,Qf,a1⟩:=hP.Nd hi []
   have hd:s.ba.drop i=s.ba[i]::s.ba.drop (i+1):=Hh hi
   have nf:=ga s.ba[i] (ic hi)
   have DB:=Kao Qf.is Qf.sz
   rw[Caq nf.2] at DB;have CB:=Hr nf;rw[hd,Gg] at hs;generalize s.ba[i]=l at *
   have hm:=KN h1 h2 CB.1 CB.2
   have e1:decide ((i:Int) < (s.ba.length:Int))=true:=Qa (by omega);have t2:=ee hi ib;have t3:IntKind.i64.wrap (n * Tb 0 l)=n * Tb 0 l:=Gb (by omega)
   have a2:∀ H (v:PV),wa H false 1 (.pv (.rp [v] 0))=some (.pv v):=fun H v=>rfl;generalize hQ:LN _ _ i=Q
   by_cases hg:n * Tb 0 l > 1073741824
   ·have d1:=Qa hg
    simp -implicitDefEqProofs only[SX,sevalprocAttr,-List.reduceReplicate,mD,e1,ln,q0,r0,t2,t3,a1,a2,DB,d1,ta,Za,AV.cut,Cb,vH];subst hQ;refine⟨1073741825,rfl,by omega,by omega,?_⟩;rw[hs];congr 1;split <;> omega
   ·have d1:=Ra hg
    simp -implicitDefEqProofs only[SX,sevalprocAttr,-List.reduceReplicate,mD,e1,ln,q0,r0,t2,t3,a1,a2,DB,d1,ta,Za,AV.cut,Cb,vH];subst hQ;refine⟨n * Tb 0 l,rfl,by omega,by omega,?_⟩;rw[hs];congr 1;split <;> omega
  ·rintro t ⟨n,rfl,h1,h2,hs⟩
   rw[Zh,Gg] at hs;have e1:decide ((s.ba.length:Int) < (s.ba.length:Int))=false:=Ra (by omega);generalize hQ:(fun r:Ex×St=>r.1.stop=true/\_)=Q;simp -implicitDefEqProofs only[SX,sevalprocAttr,-List.reduceReplicate,mD,e1,ln,q0,r0,vH];subst hQ;exact⟨rfl,_,_,rfl,by simp[Tr.na,hs]⟩
 have Me:(AV.pv P).one=true:=by rcases hP.is with⟨h,_⟩ | h <;> rw[h] <;> rfl
 generalize Gg 1 s.ba=n at *
 apply Hl;simp -implicitDefEqProofs only[Dz,SX,sevalprocAttr,-List.reduceReplicate,UP,Me,Oc,ta,Za,AV.cut,Cb];refine Bb yc ?_;rintro r ⟨E,H,rfl,hE⟩;simp -implicitDefEqProofs only[SX,sevalprocAttr,-List.reduceReplicate,hE]
theorem Wh(H:List fa)(x y:PV):place H 0 (.pv (.rp [x,y] 0))=some (.pv (.rp [x,y] 0)):=rfl
theorem Su(H:List fa)(x y:PV):place H 1 (.pv (.rp [x,y] 0))=some (.pv (.rp [x,y] 1)):=rfl
theorem Vh(H:List fa)(x y:PV):wa H false 1 (.pv (.rp [x,y] 0))=some (.pv x):=rfl
theorem Jt(H:List fa)(x y:PV):wa H false 1 (.pv (.rp [x,y] 1))=some (.pv y):=rfl
theorem nm(H:List fa)(x y:PV):wa H true 2 (.pv (.rp [x,y] 0))=some (.pv (.agg [x,y])):=rfl
theorem Xd(H:List fa)(x:PV):wa H false 1 (.pv (.rp [x] 0))=some (.pv x):=rfl
theorem ah(H:List fa)(x:PV):place H 0 (.pv (.rp [x] 0))=some (.pv (.rp [x] 0)):=rfl
theorem pj(H:List fa)(x:PV):wa H true 1 (.pv (.rp [x] 0))=some (.pv (.agg [x])):=rfl
abbrev bE(row:List PV)(i:Int):Tr:=(Tr.lf.set 3 (.pv (aa i))).set 1 (.pv (.rp row 0))
theorem u7{e:PV}{s:ya}{P:PV}{ps:List PV}(h:Yh e s P ps):∃ b,Yu [e]=some (.bool b)/\(b=true↔Yd s):=by
 have hh:=h;obtain⟨rfl,hP⟩:=h;have ib:=hP.sz
 have ln:=hP.mb
 have Me:(AV.pv P).one=true:=by rcases hP.is with⟨h,_⟩ | h <;> rw[h] <;> rfl
 by_cases c1:(s.ba.length:Int) < 1
 ·have d1:=Qa c1
  refine⟨false,?_,by simp;intro h;have:=h.lo;omega⟩;simp -implicitDefEqProofs only[Yu,SX,sevalprocAttr,Zt,Me,Wh,Su,Vh,Jt,ln,d1]
 have d1:=Ra c1
 by_cases c2:(s.ba.length:Int) > 8
 ·have d2:=Qa c2
  refine⟨false,?_,by simp;intro h;have:=h.hi;omega⟩;simp -implicitDefEqProofs only[Yu,SX,sevalprocAttr,Zt,Me,Wh,Su,Vh,Jt,ln,d1,d2]
 have d2:=Ra c2
 by_cases c3:s.pa < 0
 ·have d3:=Qa c3
  refine⟨false,?_,by simp;intro h;have:=h.f0;omega⟩;simp -implicitDefEqProofs only[Yu,SX,sevalprocAttr,Zt,Me,Wh,Su,Vh,Jt,ln,d1,d2,d3]
 have d3:=Ra c3
 by_cases c4:s.pa > 1073741823
 ·have d4:=Qa c4
  refine⟨false,?_,by simp;intro h;have:=h.f1;omega⟩;simp -implicitDefEqProofs only[Yu,SX,sevalprocAttr,Zt,Me,Wh,Su,Vh,Jt,ln,d1,d2,d3,d4]
 have d4:=Ra c4;have yc:Ia (fun r=>∃ E,(r=(.exit 0,⟨E,[]⟩)/\E.get 1= .pv (.rp [P,aa s.pa] 0)/\∀ l∈s.ba,Se l)\/(r=(.ret,⟨E,[]⟩)/\E.get 2= .pv (.bool false)/\¬∀ l∈s.ba,Se l))
  (Mb (Aa (ua (La (fun _=>none) 8) qA) (ta 0 [1,3])) Ga ⟨bE [P,aa s.pa] 0,[]⟩):=by
  refine Bb (We (g:=Aa (ua (La (fun _=>none) 8) qA) (ta 0 [1,3]))
   (fun i t=>t=⟨bE [P,aa s.pa] i,[]⟩/\∀ l∈s.ba.take i,Se l)
   s.ba.length (by unfold Ga;unfold maxLen at ib;omega) _ ⟨rfl,by simp⟩ ?_ ?_) (fun r h=>h.2)
  ·rintro i t hi ⟨rfl,hs⟩
   obtain⟨v,hv,Qf,a1⟩:=hP.Nd hi []
   have hmem:=ic hi;have Th:Se s.ba[i]->∀ l∈s.ba.take (i+1),Se l:=by
    intro h l hl;have:s.ba.take (i+1)=s.ba.take i++[s.ba[i]]:=by simp
    rw[this] at hl;rcases Bd.1 hl with h1 | h1
    ·exact hs l h1
    ·simp at h1;subst h1;exact h
   have mw:=o7 Qf.is Qf.sz
   have lv:=Qf.is.len
   simp only[Pa,wb] at lv;generalize s.ba[i]=l at *
   have e1:decide ((i:Int) < (s.ba.length:Int))=true:=Qa (by omega);have t2:=ee hi ib;generalize hQ:LN _ _ i=Q
   by_cases h0:l=[]
   ·have e0:((l.length:Int)==0)=true:=by simp[h0]
    simp -implicitDefEqProofs only[SX,sevalprocAttr,qA,e1,ln,Wh,Vh,Xd,a1,lv,e0,bE];subst hQ;exact⟨_,.inr ⟨rfl,by simp[Tr.na],fun h=>(h _ hmem).1 h0⟩⟩
   ·have e0:((l.length:Int)==0)=false:=by
     have:l.length≠0:=fun e=>h0 (Ze e)
     exact jj (by omega)
    cases hb:Ub 255 (-2) l with
    |true=>rw[hb] at mw;simp -implicitDefEqProofs only[SX,sevalprocAttr,qA,e1,ln,Wh,Vh,Xd,a1,lv,e0,mw,t2,ta,Za,AV.cut,Cb,bE];subst hQ;exact⟨rfl,Th ⟨h0,hb⟩⟩
    |false=>rw[hb] at mw;simp -implicitDefEqProofs only[SX,sevalprocAttr,qA,e1,ln,Wh,Vh,Xd,a1,lv,e0,mw,bE];subst hQ;exact⟨_,.inr ⟨rfl,by simp[Tr.na],fun h=>by have:=(h _ hmem).2;rw[hb] at this;cases this⟩⟩
  ·rintro t ⟨rfl,hs⟩
   rw[ai] at hs;have e1:decide ((s.ba.length:Int) < (s.ba.length:Int))=false:=Ra (by omega);generalize hQ:(fun r:Ex×St=>r.1.stop=true/\_)=Q;simp -implicitDefEqProofs only[SX,sevalprocAttr,qA,e1,ln,Wh,Vh,bE];subst hQ;exact⟨rfl,_,.inl ⟨rfl,by simp[Tr.na],hs⟩⟩
 have key:Ia (fun r=>∃ b,r=(.pv (.bool b),([]:List fa))/\(b=true↔Yd s)) (Gc (La (fun _=>none) 8) Zt [.pv (.agg [P,aa s.pa])] []):=by
  generalize ec:(fun r:AV×List fa=>_)=QQ;simp -implicitDefEqProofs only[SX,sevalprocAttr,Zt,Me,Wh,Su,Vh,Jt,ln,d1,d2,d3,d4,Oc,ta,Za,AV.cut,Cb];refine Bb yc ?_;rintro _ ⟨E,⟨rfl,hE,hb⟩ | ⟨rfl,hE,hb⟩⟩
  ·have wu:=kO hh hb
   have hbd:=YE s.ba 1 hb (by omega) (by omega)
   have Pe:(decide (s.pa+Gg 1 s.ba - 1<=1073741823)=true)↔Yd s:=by
    rw[decide_eq_true_iff];constructor
    ·intro h;exact⟨by omega,by omega,by omega,by omega,hb,h⟩
    ·intro h;exact h.last
   generalize Gg 1 s.ba=n at *
   have t3:IntKind.i64.wrap (s.pa+n)=s.pa+n:=Gb (by omega)
   have t4:IntKind.i64.wrap (s.pa+n - 1)=s.pa+n - 1:=Gb (by omega)
   simp -implicitDefEqProofs only[SX,sevalprocAttr,hE,Wh,Su,Vh,Jt,nm,wu,t3,t4];subst ec;exact⟨_,rfl,Pe⟩
  ·simp -implicitDefEqProofs only[SX,sevalprocAttr,hE]
   subst ec;exact⟨false,rfl,by simp;exact fun h=>hb h.ba⟩
 obtain⟨r,h1,b,rfl,hb⟩:=wg key;refine⟨b,?_,hb⟩;generalize hk:Gc (La (fun _=>none) 8) Zt [.pv (.agg [P,aa s.pa])] []=k at h1;subst h1;have:Yu [.agg [P,aa s.pa]]=(Gc (La (fun _=>none) 8) Zt [.pv (.agg [P,aa s.pa])] []).bind fun r=>qb r.2 deep r.1:=rfl
 rw[this,hk];rfl
theorem Y6{e:PV}{s:ya}{P:PV}{ps:List PV}(h:Yh e s P ps)(ga:Yd s):QF [e]=some (aa (Gg 1 s.ba)):=by
 obtain⟨b,hb,hbb⟩:=u7 h;have hc:=kO h ga.ba
 have:=hbb.2 ga
 subst this;obtain⟨rfl,hP⟩:=h;have Me:(AV.pv P).one=true:=by rcases hP.is with⟨h,_⟩ | h <;> rw[h] <;> rfl
 simp -implicitDefEqProofs only[QF,SX,sevalprocAttr,YP,Me,nm,hb,hc]
end Go.AM.B1
