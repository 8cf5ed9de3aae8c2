/- What functions of the program compute. -/
import Derived.Test.YtdglpnpkgngcdaaGreatT13
import Derived.Test.YtdglpnpkgngcdaaGreatT12
import Derived.Test.YtdglpnpkgngcdaaGreatT3
import Derived.Test.YtdglpnpkgngcdaaGreatT10
import Derived.Test.YtdglpnpkgngcdaaGreatE3
import Derived.Test.YtdglpnpkgngcdaaGreatRows
set_option linter.unusedVariables false
set_option linter.unusedSimpArgs false
namespace Go.AM.B1
open Go.AM Go.AM.So
theorem nF {S:PV} {ss:List Yb} {es:List PV} (hS:Xa S ss es) (Aa:wc ss):Pg [.agg [S]]=some (i64 (Ae ss)):=by
 have hS1:(AV.pv S).one=true:=by rcases hS.is with⟨h,_⟩ | h <;> rw[h] <;> rfl
 have lS:=hS.Sb
 have h32:=Aa.len
 have hloop:=fun (E:Tr) (h1:E.get 1= .pv (.rp [S] 0)) (h3:E.get 3= .pv (i64 0)) (h4:E.get 4= .pv (i64 0))=>
  bl (call:=Ca (fun _=>none) 8) (b:=Of) (live:=[1,3,4]) (s:=⟨E,[]⟩) (Q:=fun r=>∃ E',r=(.exit 0,⟨E',[]⟩)∧E'.get 3= .pv (i64 (Ae ss)))
   (fun i t=>qc [1] E t.env∧t.env.get 4= .pv (i64 i)∧t.H=[]∧t.env.get 3= .pv (i64 (Ae (ss.take i)))) ss.length (by unfold oa;omega)
   (Ff.all rfl (by simp) (Fit.cons h1 Ba (.cons h3 Ba (.cons h4 Ba (.nil _ _)))) fun E' hE=>⟨qc.sub hE rfl,by rw[hE 4 (by simp),h4];rfl,rfl,by rw[hE 3 (by simp),h3];rfl⟩)
   (by
    rintro i ⟨E1,H1⟩ hi ⟨k1,k2,k3,k5⟩
    simp only at k1 k2 k3 k5
    subst k3
    have g1:=(k1 1 (by simp)).trans h1
    obtain⟨P,ps,hsh,a1⟩:=hS.Uc hi
    have lP:=hsh.parts.Sb
    rw[show ss.take (i+1)=ss.take (i+1) from rfl]
    have hmt:=ME hi
    generalize Ae (ss.take i)=m at *
    have hs:=Aa.jv _ (List.getElem_mem hi)
    have h8:=hs.hi
    generalize ss[i]=s at *
    have e1:decide ((i:Int) < (ss.length:Int))=true:=Ga (by omega)
    have t1:IntKind.i64.wrap ((i:Int)+1)=((i+1:Nat):Int):=sj (by omega)
    have hmx:Jq true [.pv (i64 m),.pv (.int .i64 s.parts.length)]=some (i64 (if s.parts.length > m then s.parts.length else m:Nat)):=by
     show some (PV.int .i64 (if (s.parts.length:Int) > (m:Int) then (s.parts.length:Int) else (m:Int)))=_
     have:(if (s.parts.length:Int) > (m:Int) then (s.parts.length:Int) else (m:Int))=((if s.parts.length > m then s.parts.length else m:Nat):Int):=by split <;> split <;> omega
     rw[this]
    rw[← hmt] at hmx
    generalize hQ:RQ _ _ _ _=Q
    simp -implicitDefEqProofs only[SX,sevalprocAttr,Of,g1,k2,k5,Na,lS,e1,a1,sB,Qc,lP,hmx,t1]
    subst hQ
    rw[ej]
    generalize hEE:(Tr.set _ 4 _:Tr)=E2
    have kk:qc [1] E E2:=by
     rw[← hEE]
     repeat refine qc.set ?_ rfl
     exact k1
    have z4:E2.get 4= .pv (i64 (i+1:Nat)):=by rw[← hEE];simp[Tr.aa]
    have z3:E2.get 3= .pv (i64 (Ae (ss.take (i+1)))):=by rw[← hEE];simp[Tr.aa]
    exact Ff.all rfl (by simp) (Fit.sub (.cons z4 Ba (.cons z3 Ba (Fit.Ze (l:=[1]) (.cons h1 Ba (.nil _ _)) kk))) rfl) fun E' hE=>⟨kk.trans (qc.sub hE rfl),by rw[hE 4 (by simp),z4],rfl,by rw[hE 3 (by simp),z3]⟩)
   (by
    rintro⟨E1,H1⟩ ⟨k1,k2,k3,k5⟩
    simp only at k1 k2 k3 k5
    subst k3
    have g1:=(k1 1 (by simp)).trans h1
    rw[List.take_length] at k5
    have lS':=lS []
    have e1:decide ((ss.length:Int) < (ss.length:Int))=false:=Ia (by omega)
    generalize hQ:(fun r:Ex×St=>r.1.stop=true∧_)=Q
    simp -implicitDefEqProofs only[SX,sevalprocAttr,Of,g1,k2,Na,sB,lS,lS',e1]
    subst hQ
    exact⟨rfl,_,rfl,by simp[Tr.aa,k5]⟩)
 refine Xj ?_
 generalize hQ:(fun r=>r=i64 (Ae ss))=Q
 simp -implicitDefEqProofs only[Pg,SX,sevalprocAttr,Ti,hS1,Na]
 generalize hEE:(Tr.set _ 4 _:Tr)=E
 refine wa (hloop E (by rw[← hEE];simp[Tr.aa]) (by rw[← hEE];simp[Tr.aa]) (by rw[← hEE];simp[Tr.aa])) ?_
 rintro r ⟨_,E2,rfl,g3⟩
 simp -implicitDefEqProofs only[SX,sevalprocAttr,g3]
 subst hQ
 rfl
theorem vK {S:PV} {ss:List Yb} (h:Th 2 S (ss.map Xd)) (Aa:wc ss):Xa S ss (ss.map Xd):=by
 have h32:=Aa.len
 refine⟨h,by rw[List.length_map],fun k e s he hs=> ?_,by unfold maxLen;omega⟩
 rw[List.getElem?_map,hs] at he
 injection he with he
 have hm:=Aa.jv s (List.mem_of_getElem? hs)
 have h8:=hm.hi
 refine⟨_,_,he.symm,.inr rfl,by rw[List.length_map],fun j v l hv hl=> ?_,by unfold maxLen;omega⟩
 rw[List.getElem?_map,hl] at hv
 injection hv with hv
 have:=fq (hm.parts l (List.mem_of_getElem? hl)).2
 exact⟨.inr hv.symm,by omega⟩
theorem JK {T:PV} {ss:List Yb} {l:List (List ve)} (hT:Lt T ss l) (Aa:wc ss):∃ S',Ii [T]=some (.agg [S'])∧Xa S' ss (ss.map Xd):=by
 obtain⟨S',NX,DG,RW,rfl,hS',_⟩:=hT.ex
 obtain⟨S2,hc,h2⟩:=Lz (vK hS' Aa) Aa
 refine⟨S2,?_,vK h2 Aa⟩
 have hS1:(AV.pv S').one=true:=by rcases hS' with⟨h,_⟩ | h <;> rw[h] <;> rfl
 have h21:(AV.pv S2).one=true:=by rcases h2 with⟨h,_⟩ | h <;> rw[h] <;> rfl
 have l0:∀ H,ya H true 1 (.pv (.rp [S',pf l,NX,DG,RW,i64 (Ae ss)] 0))=some (.pv (.agg [S'])):=fun H=>rfl
 generalize ([S',pf l,NX,DG,RW,i64 (Ae ss)]:List PV)=R at *
 have st:Ma [ba.box [.pv .ma]] 1 (.ptr 0 0) (.pv (.agg [S2]))=some [.box [.pv S2]]:=by simp[Ma,AV.cells,PV.cells,h21,na]
 have ld:ya [ba.box [.pv S2]] true 1 (.ptr 0 0)=some (.pv (.agg [S2])):=rfl
 have e1:∀ H,kv H 1 (.pv (.rp R 0)) (.pv .Bi)=some false:=fun H=>rfl
 simp -implicitDefEqProofs only[Ii,SX,sevalprocAttr,Uk,e1,sB,l0,hc,st,ld]
end Go.AM.B1
namespace Go.AM.B1
open Go.AM Go.AM.So
theorem sE {V:PV} {es:List PV} (h:Th 3 V es) (hl:es.length≤1000000):Wc [V]=some V:=by
 rcases h with⟨rfl,_⟩ | rfl
 ·simp -implicitDefEqProofs only[Wc,SX,sevalprocAttr,me,kv]
 ·have hap:Zb [.tok 3 0 false] false .uq 3 true 24 (.uq 0 false 3 []) (.pv (.lit 3 es))=some (.uq 0 false 3 es,[.tok 3 es.length false]):=by
   simp only[Zb,List.getElem?_cons_zero,nf,if_true,Option.bind_some,List.length_nil,Nat.zero_add,List.nil_append,Bool.false_eq_true,if_false]
   rw[if_pos ⟨trivial,trivial,trivial,by unfold xb;omega⟩]
   rfl
  simp -implicitDefEqProofs only[Wc,SP,WP,na,sevalprocAttr,me,kv,hap]
theorem OP (e:List ve):Th 3 (Vb e) (e.map Yt):=by
 unfold Vb
 cases e with
 |nil=>exact .inl ⟨rfl,rfl⟩
 |cons a e=>exact .inr rfl
def MP (nl:Bool) (es:List PV):List ba:=[.box [.pv .ma],.box [.uq 2 nl 1 es],.tok 1 es.length nl]
theorem ZI (nl:Bool) (es:List PV):∀ o∈MP nl es,pa 3 o=some o:=by
 intro o ho
 simp only[MP,List.mem_cons,List.not_mem_nil,or_false] at ho
 rcases ho with rfl | rfl | rfl
 ·exact bo 3 [.ma]
 ·simp only[pa,Ra,uw (show 2 < 3 by decide),Option.bind_some,Option.map_some]
 ·rfl
theorem mQ {T:PV} {ss:List Yb} {l:List (List ve)} (hT:Lt T ss l) (k64:l.length≤64) (k256:∀ e∈l,e.length≤256):∃ V,Xh [T]=some (.agg [V])∧gk V l:=by
 obtain⟨S',NX,DG,RW,rfl,_⟩:=hT.ex
 have hrp:=Et (a:=S') (b:=pf l) (c:=NX) (d:=DG) (e:=RW) (f:=i64 (Ae ss))
 have l1:∀ H,ya H false 1 (.pv (.rp [S',pf l,NX,DG,RW,i64 (Ae ss)] 1))=some (.pv (pf l)):=fun H=>rfl
 generalize ([S',pf l,NX,DG,RW,i64 (Ae ss)]:List PV)=R at *
 have hV:Th 1 (pf l) (l.map Vb):= .inr rfl
 have lV:=hV.len
 rw[List.length_map] at lV
 have hloop:=fun (E:Tr) (h2:E.get 2= .ptr 0 0) (h3:E.get 3= .ptr 1 0) (h12:E.get 12= .pv (pf l)) (h13:E.get 13= .pv (i64 l.length)) (h14:E.get 14= .pv (i64 0))=>
  bl (call:=Ca (fun _=>none) 8) (b:=si) (live:=[2,3,12,13,14]) (s:=⟨E,MP true []⟩) (Q:=fun r=>∃ E' nl,r=(.exit 0,⟨E',MP nl (l.map Vb)⟩)∧E'.get 2= .ptr 0 0∧E'.get 3= .ptr 1 0∧(nl=true→l=[]))
   (fun i t=>qc [2,3,12,13] E t.env∧t.env.get 14= .pv (i64 i)∧∃ nl,t.H=MP nl ((l.map Vb).take i)∧(nl=true→i=0)) l.length (by unfold oa;omega)
   (Ff.all rfl (ZI _ _) (Fit.cons h2 (Jm (show 0 < 3 by decide)) (.cons h3 (Jm (show 1 < 3 by decide)) (.cons h12 Ba (.cons h13 Ba (.cons h14 Ba (.nil _ _)))))) fun E' hE=>⟨qc.sub hE rfl,by rw[hE 14 (by simp),h14];rfl,true,rfl,fun _=>rfl⟩)
   (by
    rintro i ⟨E1,H1⟩ hi ⟨k1,k2,nl,k3,k4⟩
    simp only at k1 k2 k3
    subst k3
    have g3:=(k1 3 (by simp)).trans h3
    have g12:=(k1 12 (by simp)).trans h12
    have g13:=(k1 13 (by simp)).trans h13
    have e1:decide ((i:Int) < (l.length:Int))=true:=Ga (by omega)
    have t1:IntKind.i64.wrap ((i:Int)+1)=((i+1:Nat):Int):=sj (by omega)
    have he:=OP l[i]
    have hcl:=sE he (by rw[List.length_map];have:=k256 l[i] (List.getElem_mem hi);omega)
    have htk:(l.map Vb).take (i+1)=(l.map Vb).take i++[Vb l[i]]:=by rw[List.take_succ_eq_append_getElem (by rw[List.length_map];exact hi),List.getElem_map]
    have hone:(AV.pv (Vb l[i])).one=true:=by rcases he with⟨h,_⟩ | h <;> rw[h] <;> rfl
    have hce:(Vb l[i]).cells=[Vb l[i]]:=by rcases he with⟨h,_⟩ | h <;> rw[h] <;> rfl
    have a1:∀ H,ua H 1 (.pv (pf l)) (i:Int)=some (.pv (.rp [Vb l[i]] 0)):=fun H=>by
     unfold pf
     simp only[ua]
     rw[if_pos ⟨trivial,by unfold Fa;rw[List.length_map];omega⟩,Int.toNat_natCast,List.getElem?_map,List.getElem?_eq_getElem hi,Option.map_some,Option.map_some,hce]
    have hlt:((l.map Vb).take i).length=i:=by rw[List.length_take,List.length_map];omega
    generalize (l.map Vb).take i=es at *
    generalize Vb l[i]=v at *
    have p1:∀ nl es d,place (MP nl es) d (.ptr 1 0)=some (.ptr 1 (0+d)):=fun nl es d=>rfl
    have ld:ya (MP nl es) false 1 (.ptr 1 0)=some (.uq 2 nl 1 es):=rfl
    obtain⟨H2,hH2⟩:∃ H,H=[ba.box [.pv .ma],.box [.uq 2 nl 1 es],.tok 1 (es.length+1) false]:=⟨_,rfl⟩
    have ap:Zb (MP nl es) false .uq 1 false 24 (.uq 2 nl 1 es) (.pv (.lit 1 [v]))=some (.uq 2 false 1 (es++[v]),H2):=by
     rw[Fg (n:=es.length) (nl:=nl) rfl rfl (by unfold xb;omega),hH2];rfl
    have p2:∀ d,place H2 d (.ptr 1 0)=some (.ptr 1 (0+d)):=fun d=>by rw[hH2];rfl
    have st:Ma H2 1 (.ptr 1 0) (.uq 2 false 1 (es++[v]))=some (MP false (es++[v])):=by
     rw[hH2];unfold MP;rw[List.length_append];rfl
    clear hH2
    generalize hQ:RQ _ _ _ _=Q
    simp -implicitDefEqProofs only[SX,sevalprocAttr,si,g3,g12,g13,k2,e1,a1,Na,p1,ld,hcl,hone,hce,ap,p2,st,t1,na.eq_1,na.eq_2,List.set,He]
    subst hQ
    rw[ej]
    generalize hEE:(Tr.set _ 14 _:Tr)=E2
    have kk:qc [2,3,12,13] E E2:=by
     rw[← hEE]
     repeat refine qc.set ?_ rfl
     exact k1
    have z14:E2.get 14= .pv (i64 (i+1:Nat)):=by rw[← hEE];simp[Tr.aa]
    exact Ff.all rfl (ZI _ _) (Fit.sub (.cons z14 Ba (Fit.Ze (l:=[2,3,12,13]) (.cons h2 (Jm (show 0 < 3 by decide)) (.cons h3 (Jm (show 1 < 3 by decide)) (.cons h12 Ba (.cons h13 Ba (.nil _ _))))) kk)) rfl) fun E' hE=>⟨kk.trans (qc.sub hE rfl),by rw[hE 14 (by simp),z14],false,by rw[htk],fun h=>by cases h⟩)
   (by
    rintro⟨E1,H1⟩ ⟨k1,k2,nl,k3,k4⟩
    simp only at k1 k2 k3
    subst k3
    have g2:=(k1 2 (by simp)).trans h2
    have g3:=(k1 3 (by simp)).trans h3
    have g13:=(k1 13 (by simp)).trans h13
    have e1:decide ((l.length:Int) < (l.length:Int))=false:=Ia (by omega)
    rw[List.take_of_length_le (by rw[List.length_map];exact Nat.le_refl _)]
    generalize hQ:(fun r:Ex×St=>r.1.stop=true∧_)=Q
    simp -implicitDefEqProofs only[SX,sevalprocAttr,si,g13,k2,e1]
    subst hQ
    exact⟨rfl,_,nl,rfl,by simp[Tr.aa,g2],by simp[Tr.aa,g3],fun h=>List.eq_nil_of_length_eq_zero (k4 h)⟩)
 suffices key:Md (fun r=>∃ V,r= .agg [V]∧gk V l) (Xh [.rp R 0]) by
  obtain⟨r,h1,V,rfl,h2⟩:=Fc key
  exact⟨V,h1,h2⟩
 have e1:∀ H,kv H 1 (.pv (.rp R 0)) (.pv .Bi)=some false:=fun H=>rfl
 have hz1:(0 < 1)=True:=by simp
 generalize hQ:(fun r=>∃ V,r=PV.agg [V]∧gk V l)=Q
 have hh:[ba.box [.pv .ma],.box [.uq 2 true 1 []],.tok 1 0 true]=MP true []:=rfl
 simp -implicitDefEqProofs only[Xh,SX,sevalprocAttr,Sl,vC,Ke,hz1,e1,sB,l1,lV,na.eq_1,na.eq_2,List.set,List.length_append]
 generalize hEE:(Tr.set _ 14 _:Tr)=E
 rw[hh]
 refine wa (hloop E (by rw[← hEE];simp[Tr.aa]) (by rw[← hEE];simp[Tr.aa]) (by rw[← hEE];simp[Tr.aa]) (by rw[← hEE];simp[Tr.aa]) (by rw[← hEE];simp[Tr.aa])) ?_
 rintro r ⟨_,E2,nl,rfl,g2,g3,hnl⟩
 have ld:ya (MP nl (l.map Vb)) true 1 (.ptr 1 0)=some (.agg [.uq 2 nl 1 (l.map Vb)]):=rfl
 have st:Ma (MP nl (l.map Vb)) 1 (.ptr 0 0) (.agg [.uq 2 nl 1 (l.map Vb)])=some [.box [.uq 2 nl 1 (l.map Vb)],.box [.uq 2 nl 1 (l.map Vb)],.tok 1 (l.map Vb).length nl]:=rfl
 have ld2:ya [ba.box [.uq 2 nl 1 (l.map Vb)],.box [.uq 2 nl 1 (l.map Vb)],.tok 1 (l.map Vb).length nl] true 1 (.ptr 0 0)=some (.agg [.uq 2 nl 1 (l.map Vb)]):=rfl
 have htp:∀ H,ic H 6 (.agg [.uq 2 nl 1 (l.map Vb)])=some (.agg [if nl then .ma else .lit 1 (l.map Vb)]):=fun H=>rfl
 simp -implicitDefEqProofs only[SX,sevalprocAttr,g2,g3,ld,st,ld2,htp]
 subst hQ
 refine⟨_,rfl,?_⟩
 cases nl with
 |false=>exact Mu k64 k256
 |true=>
  have:=hnl rfl
  subst this
  exact⟨⟨[],.inl ⟨rfl,rfl⟩,rfl,by simp⟩,by simp,by simp⟩
end Go.AM.B1
namespace Go.AM.B1
open Go.AM Go.AM.So
theorem qG {ss:List Yb} (Aa:wc ss) {i j:Nat} (hi:i < ss.length) (hj:j < ss.length) (h:ss[i].first=ss[j].first):i=j:=by
 have p1:=Kf (Aa.jv _ (List.getElem_mem hi)).parts
 have p2:=Kf (Aa.jv _ (List.getElem_mem hj)).parts
 exact tC Aa hi hj (u:=ss[i].first) ⟨by omega,by omega⟩ ⟨by omega,by omega⟩
def Sx (ss:List Yb) (k:Nat) (f:Int):Prop:=k=0∨∀ r,(Od ss)[k - 1]? =some r→r0 r < f
def vI (ss:List Yb) (k i:Nat) (b:Int):Prop:=
 (b= -1∧∀ j (hj:j < ss.length),j < i→¬Sx ss k ss[j].first)∨∃ m,∃ hm:m < ss.length,b=(m:Int)∧m < i∧Sx ss k ss[m].first∧∀ j (hj:j < ss.length),j < i→Sx ss k ss[j].first→ss[m].first≤ss[j].first
theorem Np (s:Yb) (j:Nat):r0 (qq s j)=s.first:=rfl
theorem JS {ss:List Yb} (Aa:wc ss) {k:Nat} (hk:k < (Od ss).length) {b:Int} (h:vI ss k ss.length b):∃ m,∃ hm:m < ss.length,b=(m:Int)∧(Od ss)[k]=qq ss[m] m:=by
 obtain⟨m,hm,he⟩:=cx (List.getElem_mem hk)
 have hlt:∀ p (hp:p < (Od ss).length),p < k→r0 (Od ss)[p] < ss[m].first:=by
  intro p hp hpk
  have h1:=yp ss p k hpk hk
  rw[he,Np] at h1
  rcases Int.lt_or_eq_of_le h1 with h2 | h2
  ·exact h2
  ·obtain⟨q,hq,hqe⟩:=cx (List.getElem_mem hp)
   rw[hqe,Np] at h2
   have:=qG Aa hq hm h2
   subst this
   have hnd:=LB ss
   exact absurd (by rw[hqe,he]) (List.pairwise_iff_getElem.1 hnd p k hp hk hpk)
 have hcm:Sx ss k ss[m].first:=by
  by_cases h0:k=0
  ·exact .inl h0
  ·refine .inr fun r hr=> ?_
   obtain⟨hp,rfl⟩:=List.getElem?_eq_some_iff.1 hr
   exact hlt (k - 1) hp (by omega)
 rcases h with⟨_,h⟩ | ⟨m',hm',hb,_,hc,hmin⟩
 ·exact absurd hcm (h m hm hm)
 ·refine⟨m',hm',hb,?_⟩
  have h1:=hmin m hm hm hcm
  obtain⟨q,hq,hqe⟩:=List.getElem_of_mem (vG hm')
  have h2:ss[m].first≤ss[m'].first:=by
   by_cases hqk:q < k
   ·have hk0:k≠0:=by omega
    rcases hc with h0 | hc
    ·exact absurd h0 hk0
    ·have:=hc _ (List.getElem?_eq_getElem (show k - 1 < (Od ss).length by omega))
     have h3:r0 (Od ss)[q]≤r0 (Od ss)[k - 1]:=by
      by_cases hq1:q=k - 1
      ·subst hq1;exact Int.le_refl _
      ·exact yp ss q (k - 1) (by omega) (by omega)
     rw[hqe,Np] at h3
     omega
   ·by_cases hqk2:q=k
    ·subst hqk2
     rw[hqe] at he
     have:=congrArg r0 he
     rw[Np,Np] at this
     omega
    ·have h3:=yp ss k q (by omega) hq
     rw[hqe,Np,he,Np] at h3
     exact h3
  have:=qG Aa hm hm' (by omega)
  subst this
  exact he
theorem jM {call:ab} {E:Tr} {S:PV} {H:List ba} {i n k:Nat} {nl b1 b2 b3 b4:Bool} {out:List PV} {f last fb best:Int} {P P' x y:PV}
 (h1:E.get 1= .pv (.rp [S] 0)) (h3:E.get 3= .uq 0 nl 3 out) (h4:E.get 4= .pv (i64 best)) (h5:E.get 5= .pv (i64 i)) (hin:i < n) (hn:n≤32) (lS:∀ H,Sb H 0 (.pv S)=some n)
 (a1:∀ H,ua H 2 (.pv S) (i:Int)=some (.pv (.rp [P,i64 f] 0))) (hk:out.length=k) (hk32:k≤32) (z1:((k:Int)==0)=b1) (a3:b1=false→∀ H,ua H 3 (.uq 0 nl 3 out) ((k:Int) - 1)=some (.pv (.rp [i64 last,x,y] 0)))
 (d2:decide (f > last)=b2) (d3:decide (best < 0)=b3) (a4:b3=false→∀ H,ua H 2 (.pv S) best=some (.pv (.rp [P',i64 fb] 0))) (d4:decide (f < fb)=b4):
 Md (fun r=>∃ E',r=(.norm,⟨E',H⟩)∧qc [1,3] E E'∧E'.get 4= .pv (i64 (if (b1||b2)&&(b3||b4) then (i:Int) else best))∧E'.get 5= .pv (i64 (i+1:Nat))) (ta call sf ⟨E,H⟩):=by
 have e1:decide ((i:Int) < (n:Int))=true:=Ga (by omega)
 have t1:IntKind.i64.wrap ((i:Int)+1)=((i+1:Nat):Int):=sj (by omega)
 have t2:IntKind.i64.wrap ((k:Int) - 1)=(k:Int) - 1:=Da (by omega)
 have lo:∀ H,Sb H 0 (.uq 0 nl 3 out)=some k:=fun H=>by rw[← hk];rfl
 have ld3:∀ H,ya H false 1 (.pv (.rp [i64 last,x,y] 0))=some (.pv (i64 last)):=fun H=>rfl
 generalize hQ:(fun r:Ex×St=>∃ E',r=_∧_)=Q
 have hend:∀ E',qc [1,3] E E'→E'.get 4= .pv (i64 (if (b1||b2)&&(b3||b4) then (i:Int) else best))→E'.get 5= .pv (i64 (i+1:Nat))→Q (.norm,⟨E',H⟩):=fun E' q1 q2 q3=>by rw[← hQ];exact⟨E',rfl,q1,q2,q3⟩
 clear hQ
 cases b1 <;> cases b2 <;> cases b3 <;> cases b4 <;>
 (simp -implicitDefEqProofs only[SX,sevalprocAttr,sf,h1,h3,h4,h5,lS,e1,Na,sB,a1,a3,a4,Oh,lo,z1,t1,t2,ld3,d2,d3,d4]
  refine hend _ ?_ (by simp[Tr.aa,h4]) (by simp[Tr.aa])
  repeat refine qc.set ?_ rfl
  exact qc.refl _ _)
theorem xP {ss:List Yb} {k i:Nat} {b:Int} (h:vI ss k i b) (hi:i < ss.length) {b':Int} (hn:¬Sx ss k ss[i].first→b'=b) (h1:Sx ss k ss[i].first→b= -1→b'=i)
 (h2:Sx ss k ss[i].first→∀ m (hm:m < ss.length),b=(m:Int)→(ss[i].first < ss[m].first→b'=i)∧(¬ ss[i].first < ss[m].first→b'=b)):vI ss k (i+1) b':=by
 by_cases hc:Sx ss k ss[i].first
 ·rcases h with⟨hb,h⟩ | ⟨m,hm,hb,hmi,hcm,hmin⟩
  ·refine .inr ⟨i,hi,h1 hc hb,by omega,hc,fun j hj hji hcj=> ?_⟩
   by_cases hji':j=i
   ·subst hji';exact Int.le_refl _
   ·exact absurd hcj (h j hj (by omega))
  ·obtain⟨q1,q2⟩:=h2 hc m hm hb
   by_cases hlt:ss[i].first < ss[m].first
   ·refine .inr ⟨i,hi,q1 hlt,by omega,hc,fun j hj hji hcj=> ?_⟩
    by_cases hji':j=i
    ·subst hji';exact Int.le_refl _
    ·have:=hmin j hj (by omega) hcj
     omega
   ·refine .inr ⟨m,hm,(q2 hlt).trans hb,by omega,hcm,fun j hj hji hcj=> ?_⟩
    by_cases hji':j=i
    ·subst hji';omega
    ·exact hmin j hj (by omega) hcj
 ·rw[hn hc]
  rcases h with⟨hb,h⟩ | ⟨m,hm,hb,hmi,hcm,hmin⟩
  ·refine .inl ⟨hb,fun j hj hji=> ?_⟩
   by_cases hji':j=i
   ·subst hji';exact hc
   ·exact h j hj (by omega)
  ·refine .inr ⟨m,hm,hb,by omega,hcm,fun j hj hji hcj=> ?_⟩
   by_cases hji':j=i
   ·subst hji';exact absurd hcj hc
   ·exact hmin j hj (by omega) hcj
end Go.AM.B1
namespace Go.AM.B1
open Go.AM Go.AM.So
theorem OK {call:ab} {E:Tr} {S:PV} {ss:List Yb} {es:List PV} (hS:Xa S ss es) (Aa:wc ss) {k:Nat} {nl:Bool} {out:List PV} (ho:out=((Od ss).take k).map Dn) (hk:k < ss.length)
 (h1:E.get 1= .pv (.rp [S] 0)) (h3:E.get 3= .uq 0 nl 3 out) (h4:E.get 4= .pv (i64 (-1))) (h5:E.get 5= .pv (i64 0)):
 Md (fun r=>r.1.stop=true∧∃ E' b,r=(.exit 2,⟨E',[.tok 3 k nl]⟩)∧qc [1,3] E E'∧E'.get 4= .pv (i64 b)∧vI ss k ss.length b) (ta call (.loop [1,3,4,5] sf) ⟨E,[.tok 3 k nl]⟩):=by
 have h32:=Aa.len
 have hrl:=ql ss
 have lS:=hS.Sb
 have hgd:∀ o∈[ba.tok 3 k nl],pa 1 o=some o:=fun o ho=>by
  simp only[List.mem_cons,List.not_mem_nil,or_false] at ho
  subst ho;rfl
 have hcut:Fit 1 [1,3] E:= .cons h1 Ba (.cons h3 (uw (show 0 < 1 by decide)) (.nil _ _))
 have hol:out.length=k:=by rw[ho,List.length_map,List.length_take];omega
 refine bl (fun i t=>qc [1,3] E t.env∧t.env.get 5= .pv (i64 i)∧t.H=[.tok 3 k nl]∧∃ b,t.env.get 4= .pv (i64 b)∧vI ss k i b) ss.length (by unfold oa;omega) ?_ ?_ ?_
 ·exact Ff.all rfl hgd (Fit.sub (.cons h5 Ba (.cons h4 Ba hcut)) rfl) fun E' hE=>⟨qc.sub hE rfl,by rw[hE 5 (by simp),h5];rfl,rfl,-1,by rw[hE 4 (by simp),h4],.inl ⟨rfl,fun j _ h=>absurd h (by omega)⟩⟩
 ·rintro i ⟨E1,H1⟩ hi ⟨k1,k2,k3,b,k4,k5⟩
  simp only at k1 k2 k3 k4
  subst k3
  have g1:=(k1 1 (by simp)).trans h1
  have g3:=(k1 3 (by simp)).trans h3
  obtain⟨P,ps,hsh,a1⟩:=hS.Uc hi
  obtain⟨last,x,y,hlast,hcand⟩:∃ last x y,(((k:Int)==0)=false→∀ H,ua H 3 (.uq 0 nl 3 out) ((k:Int) - 1)=some (.pv (.rp [i64 last,x,y] 0)))∧(Sx ss k ss[i].first↔(((k:Int)==0)||decide (ss[i].first > last))=true):=by
   by_cases h0:k=0
   ·subst h0
    exact⟨0,.ma,.ma,(fun h=>(by cases h)),by simp[Sx]⟩
   ·have hk1:k - 1 < (Od ss).length:=by omega
    obtain⟨m,hm,he⟩:=cx (List.getElem_mem hk1)
    have hzk:((k:Int)==0)=false:=beq_false_of_ne (by omega)
    refine⟨ss[m].first,i64 (ss[m].first+Qa ss[m].parts - 1),i64 m,fun _ H=> ?_,?_⟩
    ·have e1:((k:Int) - 1).toNat=k - 1:=by omega
     have e2:out[k - 1]? =some (Dn (qq ss[m] m)):=by
      rw[ho,List.getElem?_map,List.getElem?_take,if_pos (by omega),List.getElem?_eq_getElem hk1,he];rfl
     simp only[ua]
     rw[if_pos ⟨trivial,by unfold Fa;omega⟩,e1,e2];rfl
    ·rw[hzk,Bool.false_or,decide_eq_true_iff]
     constructor
     ·rintro (h | h)
      ·exact absurd h h0
      ·have:=h _ (List.getElem?_eq_getElem hk1)
       rw[he,Np] at this
       exact this
     ·intro h
      refine .inr fun r hr=> ?_
      rw[List.getElem?_eq_getElem hk1,he] at hr
      injection hr with hr
      rw[← hr,Np];exact h
  obtain⟨fb,P',hfb,hb2⟩:∃ fb P',(decide (b < 0)=false→∀ H,ua H 2 (.pv S) b=some (.pv (.rp [P',i64 fb] 0)))∧∀ m (hm:m < ss.length),b=(m:Int)→fb=ss[m].first:=by
   by_cases hb:b < 0
   ·exact⟨0,.ma,(fun h=>(by rw[decide_eq_true hb] at h;cases h)),fun m _ h=>by omega⟩
   ·rcases k5 with⟨h,_⟩ | ⟨m,hm,rfl,_⟩
    ·omega
    ·obtain⟨P2,ps2,_,a2⟩:=hS.Uc hm
     refine⟨ss[m].first,P2,fun _=>a2,fun m' hm' h=> ?_⟩
     have:m=m':=by omega
     subst this;rfl
  refine wa (jM (call:=call) (H:=[.tok 3 k nl]) g1 g3 k4 k2 hi h32 lS a1 hol (by omega) rfl hlast rfl rfl hfb rfl) ?_
  rintro r ⟨E2,rfl,kk,z4,z5⟩
  rw[ej]
  have kk2:=k1.trans kk
  refine Ff.all rfl hgd (Fit.sub (.cons z5 Ba (.cons z4 Ba (hcut.Ze kk2))) rfl) fun E' hE=>⟨kk2.trans (qc.sub hE rfl),by rw[hE 5 (by simp),z5],rfl,_,by rw[hE 4 (by simp),z4],xP k5 hi (fun h=> ?_) (fun h hb=> ?_) (fun h m hm hb=>⟨fun hlt=> ?_,fun hlt=> ?_⟩)⟩
  ·rw[hcand,Bool.not_eq_true] at h
   rw[h];rfl
  ·rw[hcand.1 h,hb];rfl
  ·rw[hcand.1 h,hb2 m hm hb,decide_eq_true hlt];simp
  ·rw[hcand.1 h,hb2 m hm hb,decide_eq_false hlt,decide_eq_false (by omega)];rfl
 ·rintro⟨E1,H1⟩ ⟨k1,k2,k3,b,k4,k5⟩
  simp only at k1 k2 k3 k4
  subst k3
  have g1:=(k1 1 (by simp)).trans h1
  have e1:decide ((ss.length:Int) < (ss.length:Int))=false:=Ia (by omega)
  generalize hQ:(fun r:Ex×St=>r.1.stop=true∧_)=Q
  simp -implicitDefEqProofs only[SX,sevalprocAttr,sf,g1,k2,Na,sB,lS,e1]
  subst hQ
  refine⟨rfl,_,b,rfl,?_,by simp[Tr.aa,k4],k5⟩
  repeat refine qc.set ?_ rfl
  exact k1
end Go.AM.B1
namespace Go.AM.B1
open Go.AM Go.AM.So
theorem pM {call:ab} {E:Tr} {S:PV} {ss:List Yb} {es:List PV} (hS:Xa S ss es) (Aa:wc ss) (h1:E.get 1= .pv (.rp [S] 0)) (h3:E.get 3= .uq 0 true 3 []):
 Md (fun r=>r.1.stop=true∧∃ E' nl,r=(.exit 0,⟨E',[.tok 3 ss.length nl]⟩)∧E'.get 3= .uq 0 nl 3 ((Od ss).map Dn)∧(nl=true→ss=[])) (ta call (.loop [1,3] Ng) ⟨E,[.tok 3 0 true]⟩):=by
 have h32:=Aa.len
 have hrl:=ql ss
 have lS:=hS.Sb
 have hgd:∀ k nl,∀ o∈[ba.tok 3 k nl],pa 1 o=some o:=fun k nl o ho=>by
  simp only[List.mem_cons,List.not_mem_nil,or_false] at ho
  subst ho;rfl
 refine bl (fun k t=>qc [1] E t.env∧∃ nl,t.env.get 3= .uq 0 nl 3 (((Od ss).take k).map Dn)∧t.H=[.tok 3 k nl]∧(nl=true→k=0)) ss.length (by unfold oa;omega) ?_ ?_ ?_
 ·exact Ff.all rfl (hgd _ _) (Fit.cons h1 Ba (.cons h3 (uw (show 0 < 1 by decide)) (.nil _ _))) fun E' hE=>⟨qc.sub hE rfl,true,by rw[hE 3 (by simp),h3];rfl,rfl,fun _=>rfl⟩
 ·rintro k ⟨E1,H1⟩ hk ⟨k1,nl,k3,k4,k5⟩
  simp only at k1 k3 k4
  subst k4
  have g1:=(k1 1 (by simp)).trans h1
  have hkr:k < (Od ss).length:=by omega
  obtain⟨out,hout⟩:∃ x,x=((Od ss).take k).map Dn:=⟨_,rfl⟩
  have hin:=fun E h1 h3 h4 h5=>OK (call:=call) (E:=E) hS Aa (k:=k) (nl:=nl) hout hk h1 h3 h4 h5
  have hol:out.length=k:=by rw[hout,List.length_map,List.length_take];omega
  rw[← hout] at k3
  have htk:((Od ss).take (k+1)).map Dn=out++[Dn ((Od ss)[k]'hkr)]:=by
   rw[hout,List.take_succ_eq_append_getElem hkr,List.map_append];rfl
  have hbe:=fun b h=>JS Aa (k:=k) hkr (b:=b) h
  have lo:∀ H,Sb H 0 (.uq 0 nl 3 out)=some k:=fun H=>by rw[← hol];rfl
  have e1:decide ((k:Int) < (ss.length:Int))=true:=Ga (by omega)
  generalize hQ:RQ _ _ _ _=Q
  simp -implicitDefEqProofs only[SX,sevalprocAttr,Ng,g1,k3,lo,Na,sB,lS,e1]
  generalize hEE:(Tr.set _ 5 _:Tr)=E2
  refine wa (hin E2 (by rw[← hEE];simp[Tr.aa,g1]) (by rw[← hEE];simp[Tr.aa,k3]) (by rw[← hEE];simp[Tr.aa]) (by rw[← hEE];simp[Tr.aa])) ?_
  have kk0:qc [1] E E2:=by
   rw[← hEE]
   repeat refine qc.set ?_ rfl
   exact k1
  have z3:E2.get 3= .uq 0 nl 3 out:=by rw[← hEE];simp[Tr.aa,k3]
  rintro r ⟨_,E3,b,rfl,kk,q4,hb⟩
  obtain⟨m,hm,rfl,hrow⟩:=hbe b hb
  have r1:=(kk 1 (by simp)).trans ((kk0 1 (by simp)).trans h1)
  have r3:=(kk 3 (by simp)).trans z3
  obtain⟨P,ps,hsh,a1⟩:=hS.Uc hm
  have hs:=Aa.jv _ (List.getElem_mem hm)
  have hcn:=Gl hsh hs.parts
  rw[hs.prod.1] at hcn
  rw[hrow] at htk
  have hlS:=hs.ph
  have hl:=hs.last
  have hf0:=hs.f0
  have hpo:=Kf hs.parts
  generalize ss[m]=s at *
  have hP1:=hsh.Fx.1
  have t2:IntKind.i64.wrap (s.first+Qa s.parts)=s.first+Qa s.parts:=Da (by omega)
  have t3:IntKind.i64.wrap (s.first+Qa s.parts - 1)=s.first+Qa s.parts - 1:=Da (by omega)
  have st:Ma [ba.tok 3 k nl,.box [.pv .ma,.pv (.int .i64 0)]] 2 (.ptr 1 0) (.pv (.agg [P,i64 s.first]))=some [.tok 3 k nl,.box [.pv P,.pv (i64 s.first)]]:=Ql (.pv .ma) (.pv (i64 0)) (.pv P) (.pv (i64 s.first)) hP1 rfl [.tok 3 k nl] _ rfl
  have ld1:ya [ba.tok 3 k nl,.box [.pv P,.pv (i64 s.first)]] false 1 (.ptr 1 1)=some (.pv (i64 s.first)):=rfl
  have ldA:ya [ba.tok 3 k nl,.box [.pv P,.pv (i64 s.first)]] true 2 (.ptr 1 0)=some (.pv (.agg [P,i64 s.first])):=rfl
  have p1:∀ d,place [ba.tok 3 k nl,.box [.pv P,.pv (i64 s.first)]] d (.ptr 1 0)=some (.ptr 1 (0+d)):=fun d=>rfl
  have ap:Zb [ba.tok 3 k nl,.box [.pv P,.pv (i64 s.first)]] false .uq 3 true 24 (.uq 0 nl 3 out) (.pv (.lit 3 [.agg [i64 s.first,i64 (s.first+Qa s.parts - 1),i64 m]]))=some (.uq 0 false 3 (out++[Dn (qq s m)]),[.tok 3 (k+1) false,.box [.pv P,.pv (i64 s.first)]]):=by
   rw[Fg (n:=k) (nl:=nl) rfl hol.symm (by unfold xb;omega)];rfl
  have lA:∀ H,ya H true 2 (.pv (.rp [P,i64 s.first] 0))=some (.pv (.agg [P,i64 s.first])):=fun H=>rfl
  simp -implicitDefEqProofs only[SX,sevalprocAttr,r1,r3,q4,Na,sB,a1,lA,st,ld1,ldA,p1,hcn,t2,t3,ap,na.eq_1,na.eq_2,List.set,He]
  subst hQ
  rw[ej]
  generalize hE4:(Tr.set _ 3 _:Tr)=E4
  have kk4:qc [1] E E4:=by
   rw[← hE4]
   repeat refine qc.set ?_ rfl
   exact kk0.trans (qc.sub kk rfl)
  have y3:E4.get 3= .uq 0 false 3 (out++[Dn (qq s m)]):=by rw[← hE4];simp[Tr.aa]
  exact Ff.front (A:=[.tok 3 (k+1) false]) rfl (hgd _ _) (Fit.cons (by rw[kk4 1 (by simp),h1]) Ba (.cons y3 (uw (show 0 < 1 by decide)) (.nil _ _))) fun E' hE=>⟨kk4.trans (qc.sub hE rfl),false,by rw[hE 3 (by simp),y3,htk],rfl,fun h=>by cases h⟩
 ·rintro⟨E1,H1⟩ ⟨k1,nl,k3,k4,k5⟩
  simp only at k1 k3 k4
  subst k4
  have g1:=(k1 1 (by simp)).trans h1
  rw[List.take_of_length_le (by omega)] at k3
  have lo:∀ H,Sb H 0 (.uq 0 nl 3 ((Od ss).map Dn))=some ss.length:=fun H=>by simp[Sb,hrl]
  have e1:decide ((ss.length:Int) < (ss.length:Int))=false:=Ia (by omega)
  generalize hQ:(fun r:Ex×St=>r.1.stop=true∧_)=Q
  simp -implicitDefEqProofs only[SX,sevalprocAttr,Ng,g1,k3,lo,Na,sB,lS,e1]
  subst hQ
  exact⟨rfl,_,nl,rfl,by simp[Tr.aa,k3],fun h=>List.eq_nil_of_length_eq_zero (k5 h)⟩
theorem iM {S:PV} {ss:List Yb} {es:List PV} (hS:Xa S ss es) (Aa:wc ss):∃ V,Ag [.agg [S]]=some V∧Th 3 V ((Od ss).map Dn):=by
 have hS1:(AV.pv S).one=true:=by rcases hS.is with⟨h,_⟩ | h <;> rw[h] <;> rfl
 have hz3:(0 < 3)=True:=by simp
 suffices key:Md (fun V=>Th 3 V ((Od ss).map Dn)) (Ag [.agg [S]]) by
  obtain⟨V,h1,h2⟩:=Fc key
  exact⟨V,h1,h2⟩
 generalize hQ:(fun V=>Th 3 V ((Od ss).map Dn))=Q
 simp -implicitDefEqProofs only[Ag,SX,sevalprocAttr,xk,hS1,vC,Ke,hz3]
 generalize hEE:(Tr.set _ 3 _:Tr)=E
 refine wa (pM (call:=Ca (fun _=>none) 8) (E:=E) hS Aa (by rw[← hEE];simp[Tr.aa]) (by rw[← hEE];simp[Tr.aa])) ?_
 rintro r ⟨_,E2,nl,rfl,g3,hnl⟩
 simp -implicitDefEqProofs only[SX,sevalprocAttr,g3]
 subst hQ
 cases nl with
 |false=>exact .inr rfl
 |true=>
  have:=hnl rfl
  subst this
  exact .inl ⟨rfl,by rw[List.eq_nil_of_length_eq_zero (ql ([]:List Yb))];rfl⟩
end Go.AM.B1
namespace Go.AM.B1
open Go.AM Go.AM.So
theorem TD {p q:Yb} (op:xe p) (oq:xe q) (hle:p.parts.length≤q.parts.length):Le p q=true↔∀ k (h1:k < p.parts.length) (h2:k < q.parts.length),∃ x,x < 256∧aj p.parts[k] x=true∧aj q.parts[k] x=true:=by
 have key:∀ (m i:Nat),i+m=p.parts.length→((ec p.parts q.parts m i).isSome=true↔∀ k,i≤k→(h1:k < p.parts.length)→(h2:k < q.parts.length)→∃ x,x < 256∧aj p.parts[k] x=true∧aj q.parts[k] x=true):=by
  intro m
  induction m with
  |zero=>intro i hi;exact⟨fun _ k hk h1=>by omega,fun _=>rfl⟩
  |succ m ih=>
   intro i hi
   have h1:i < p.parts.length:=by omega
   have h2:i < q.parts.length:=by omega
   have hm:=Dy h1 h2 (op.parts _ (List.getElem_mem h1)).2 (oq.parts _ (List.getElem_mem h2)).2
   have hI:=ih (i+1) (by omega)
   rw[ec]
   cases hmt:Mo p.parts q.parts i with
   |nil=>
    constructor
    ·intro h;cases h
    ·intro h;exact absurd hmt (hm.2 (h i (Nat.le_refl _) h1 h2))
   |cons a r=>
    simp only[Option.isSome_map]
    rw[hI]
    constructor
    ·intro h k hk g1 g2
     rcases Nat.lt_or_ge i k with h3 | h3
     ·exact h k h3 g1 g2
     ·have:k=i:=by omega
      subst this
      exact hm.1 (by rw[hmt];simp)
    ·intro h k hk;exact h k (by omega)
 have:=key p.parts.length 0 (by omega)
 unfold Le
 rw[this]
 exact⟨fun h k h1 h2=>h k (by omega) h1 h2,fun h k _ h1 h2=>h k h1 h2⟩
theorem aE {p q:Yb} (op:xe p) (oq:xe q) (h:p.parts.length=q.parts.length):Le p q=Le q p:=by
 rw[Bool.eq_iff_iff,TD op oq (by omega),TD oq op (by omega)]
 constructor
 ·intro k i h1 h2;obtain⟨x,a,b,c⟩:=k i h2 h1;exact⟨x,a,c,b⟩
 ·intro k i h1 h2;obtain⟨x,a,b,c⟩:=k i h2 h1;exact⟨x,a,c,b⟩
def FE (ss:List Yb) (i j:Nat):Prop:=(hi:i < ss.length)→(hj:j < ss.length)→j < i→ss[i].parts.length=ss[j].parts.length→Le ss[i] ss[j]=false
theorem aG {ss:List Yb} (Aa:wc ss):pn ss↔∀ i j,FE ss i j:=by
 constructor
 ·intro h i j hi hj hlt he
  rw[aE (Aa.jv _ (List.getElem_mem hi)) (Aa.jv _ (List.getElem_mem hj)) he]
  exact h j i hj hi hlt he.symm
 ·intro h i j hi hj hlt he
  rw[aE (Aa.jv _ (List.getElem_mem hi)) (Aa.jv _ (List.getElem_mem hj)) he]
  exact h j i hj hi hlt he.symm
section
variable {S:PV} {ss:List Yb} {es:List PV} (hS:Xa S ss es) (Aa:wc ss)
include hS Aa
theorem dI (call:ab) {i:Nat} (hi:i < ss.length) {E:Tr} (h1:E.get 1= .pv (.rp [S] 0)) (h4:E.get 4= .pv (i64 i)) (h5:E.get 5= .pv (i64 0)):
 Md (fun r=>r.1.stop=true∧((∃ E',r=(.exit 2,⟨E',[]⟩)∧qc [1,4] E E'∧∀ j,FE ss i j)∨∃ E',r=(.ret,⟨E',[]⟩)∧E'.get 2= .pv (.bool false)∧E'.get 3= .pv (i64 0)∧¬pn ss))
  (ta call (.loop [1,4,5] Gd) ⟨E,[]⟩):=by
 have h32:=Aa.len
 have ln:=hS.Sb
 obtain⟨P,ps,hP,a1⟩:=hS.Uc hi
 have okp:=Aa.jv _ (List.getElem_mem hi)
 have lP:=hP.parts.Sb
 refine bl (fun j t=>qc [1,4] E t.env∧t.env.get 5= .pv (i64 j)∧t.H=[]∧∀ j',j' < j→FE ss i j') i (by unfold oa;omega)
  (Ff.all rfl (by simp) (Fit.cons h1 Ba (.cons h4 Ba (.cons h5 Ba (.nil _ _)))) fun E' hE=>⟨qc.sub hE rfl,by rw[hE 5 (by simp),h5];rfl,rfl,fun j h=>by omega⟩) ?_ ?_
 ·rintro j ⟨E1,H1⟩ hj ⟨k1,k5,k3,hs⟩
  simp only at k1 k5 k3
  subst k3
  have hjl:j < ss.length:=by omega
  have g1:=(k1 1 (by simp)).trans h1
  have g4:=(k1 4 (by simp)).trans h4
  obtain⟨Q,qs,hQ,a2⟩:=hS.Uc hjl
  have okq:=Aa.jv _ (List.getElem_mem hjl)
  have hcm:=fun (h:ss[i].parts.length≤ss[j].parts.length)=>Ov hP hQ okp okq (n:=ss[i].parts.length) (Nat.le_refl _) h
  have lQ:=hQ.parts.Sb
  have hat:∀ b,(ss[i].parts.length=ss[j].parts.length→Le ss[i] ss[j]=b)→b=false→∀ j',j' < j+1→FE ss i j':=by
   intro b hb hb0 j' hj'
   rcases Nat.lt_or_ge j' j with h3 | h3
   ·exact hs j' h3
   ·have:j'=j:=by omega
    subst this
    intro _ _ _ he
    rw[hb he,hb0]
  have hbad:ss[i].parts.length=ss[j].parts.length→Le ss[i] ss[j]=true→¬pn ss:=fun he hm h=>by
   have:=(aG Aa).1 h i j hi hjl hj he
   rw[hm] at this;cases this
  unfold Le at hat hbad
  generalize ss[i]=p at *
  generalize ss[j]=q at *
  have e1:decide ((j:Int) < (i:Int))=true:=Ga (by omega)
  have t2:IntKind.i64.wrap ((j:Int)+1)=((j+1:Nat):Int):=sj (by omega)
  have fin:(∀ j',j' < j+1→FE ss i j')→∀ E2:Tr,qc [1,4] E E2→E2.get 5= .pv (i64 (j+1:Nat))→Ff ([]:List ba).length [1,4,5] (fun t=>qc [1,4] E t.env∧t.env.get 5= .pv (i64 (j+1:Nat))∧t.H=[]∧∀ j',j' < j+1→FE ss i j') ⟨E2,[]⟩:=fun hn E2 kk z5=>
   Ff.all rfl (by simp) (Fit.sub (.cons z5 Ba (Fit.Ze (l:=[1,4]) (.cons h1 Ba (.cons h4 Ba (.nil _ _))) kk)) rfl) fun E' hE=>⟨kk.trans (qc.sub hE rfl),by rw[hE 5 (by simp),z5],rfl,hn⟩
  generalize hQQ:RQ _ _ _ _=QQ
  by_cases c1:p.parts.length=q.parts.length
  ·have d1:((p.parts.length:Int)==(q.parts.length:Int))=true:=by rw[c1];simp
   obtain⟨v,hv⟩:=hcm (by omega)
   cases hb:(ec p.parts q.parts p.parts.length 0).isSome with
   |true=>
    rw[hb] at hv
    simp -implicitDefEqProofs only[SX,sevalprocAttr,Gd,g1,g4,k5,e1,Tb,Na,xc,Qc,Oe,a1,a2,lP,lQ,d1,hv]
    subst hQQ
    exact .inr ⟨_,rfl,by simp[Tr.aa],by simp[Tr.aa],hbad c1 hb⟩
   |false=>
    rw[hb] at hv
    simp -implicitDefEqProofs only[SX,sevalprocAttr,Gd,g1,g4,k5,e1,t2,Tb,Na,xc,Qc,Oe,a1,a2,lP,lQ,d1,hv]
    subst hQQ
    rw[ej]
    generalize hEE:(Tr.set _ 5 _:Tr)=E2
    refine fin (hat false (fun _=>hb) rfl) E2 (by rw[← hEE];(repeat refine qc.set ?_ rfl);exact k1) (by rw[← hEE];simp[Tr.aa])
  ·have d1:((p.parts.length:Int)==(q.parts.length:Int))=false:=beq_false_of_ne (by omega)
   simp -implicitDefEqProofs only[SX,sevalprocAttr,Gd,g1,g4,k5,e1,t2,Tb,Na,xc,Qc,Oe,a1,a2,lP,lQ,d1]
   subst hQQ
   rw[ej]
   generalize hEE:(Tr.set _ 5 _:Tr)=E2
   refine fin (hat false (fun h=>absurd h c1) rfl) E2 (by rw[← hEE];(repeat refine qc.set ?_ rfl);exact k1) (by rw[← hEE];simp[Tr.aa])
 ·rintro⟨E1,H1⟩ ⟨k1,k5,k3,hs⟩
  simp only at k1 k5 k3
  subst k3
  have g4:=(k1 4 (by simp)).trans h4
  have e1:decide ((i:Int) < (i:Int))=false:=Ia (by omega)
  generalize hQ:(fun r:Ex×St=>r.1.stop=true∧_)=QQ
  simp -implicitDefEqProofs only[SX,sevalprocAttr,Gd,g4,k5,e1]
  subst hQ
  refine⟨rfl,.inl ⟨_,rfl,?_,fun j a b c=>hs j c a b c⟩⟩
  repeat refine qc.set ?_ rfl
  exact k1
theorem ay:∃ b,ye [.agg [S]]=some (.Jc [.bool b,i64 0])∧(b=true↔pn ss):=by
 have ln:=hS.Sb
 have hS1:(AV.pv S).one=true:=by rcases hS.is with⟨h,_⟩ | h <;> rw[h] <;> rfl
 obtain⟨b,hb,hbb⟩:=fw hS
 have:=hbb.2 Aa
 subst this
 have h32:=Aa.len
 have hloop:=fun (E:Tr) (h1:E.get 1= .pv (.rp [S] 0)) (h4:E.get 4= .pv (i64 0))=>
  bl (call:=Ca (fun _=>none) 8) (b:=dg) (live:=[1,4]) (s:=⟨E,[]⟩) (Q:=fun r=>(∃ E',r=(.exit 0,⟨E',[]⟩)∧pn ss)∨∃ E',r=(.ret,⟨E',[]⟩)∧E'.get 2= .pv (.bool false)∧E'.get 3= .pv (i64 0)∧¬pn ss)
   (fun i t=>qc [1] E t.env∧t.env.get 4= .pv (i64 i)∧t.H=[]∧∀ i',i' < i→∀ j,FE ss i' j) ss.length (by unfold oa;omega)
   (Ff.all rfl (by simp) (Fit.cons h1 Ba (.cons h4 Ba (.nil _ _))) fun E' hE=>⟨qc.sub hE rfl,by rw[hE 4 (by simp),h4];rfl,rfl,fun i h=>by omega⟩)
   (by
    rintro i ⟨E1,H1⟩ hi ⟨k1,k4,k3,hs⟩
    simp only at k1 k4 k3
    subst k3
    have g1:=(k1 1 (by simp)).trans h1
    have e1:decide ((i:Int) < (ss.length:Int))=true:=Ga (by omega)
    have t2:=Ua hi (by unfold maxLen;omega)
    generalize hQQ:RQ _ _ _ _=QQ
    simp -implicitDefEqProofs only[SX,sevalprocAttr,dg,g1,k4,ln,e1,Tb,Na]
    generalize hEE:(Tr.set _ 5 _:Tr)=E2
    have z1:E2.get 1= .pv (.rp [S] 0):=by rw[← hEE];simp[Tr.aa,g1]
    have z4:E2.get 4= .pv (i64 i):=by rw[← hEE];simp[Tr.aa,k4]
    refine wa (dI hS Aa _ hi z1 z4 (by rw[← hEE];simp[Tr.aa])) ?_
    rintro _ ⟨_,⟨E3,rfl,k6,hp⟩ | ⟨E3,rfl,g2,g3,hp⟩⟩
    ·have y4:=(k6 4 (by simp)).trans z4
     simp -implicitDefEqProofs only[SX,sevalprocAttr,y4,t2]
     subst hQQ
     rw[ej]
     generalize hE4:(Tr.set _ 4 _:Tr)=E4
     have y1:E4.get 1= .pv (.rp [S] 0):=by rw[← hE4];simp[Tr.aa];exact (k6 1 (by simp)).trans z1
     have y4:E4.get 4= .pv (i64 (i+1:Nat)):=by rw[← hE4];simp[Tr.aa]
     exact Ff.all rfl (by simp) (Fit.cons y1 Ba (.cons y4 Ba (.nil _ _))) fun E' hE=>⟨fun t ht=>by
      rw[List.mem_singleton] at ht;subst ht
      rw[hE 1 (by simp),y1,h1],by rw[hE 4 (by simp),y4],rfl,fun i' hi' j=>by
      rcases Nat.lt_or_ge i' i with h3 | h3
      ·exact hs i' h3 j
      ·have:i'=i:=by omega
       subst this;exact hp j⟩
    ·simp -implicitDefEqProofs only[SX,sevalprocAttr]
     subst hQQ
     exact .inr ⟨_,rfl,g2,g3,hp⟩)
   (by
    rintro⟨E1,H1⟩ ⟨k1,k4,k3,hs⟩
    simp only at k1 k4 k3
    subst k3
    have g1:=(k1 1 (by simp)).trans h1
    have e1:decide ((ss.length:Int) < (ss.length:Int))=false:=Ia (by omega)
    generalize hQ:(fun r:Ex×St=>r.1.stop=true∧_)=QQ
    simp -implicitDefEqProofs only[SX,sevalprocAttr,dg,g1,k4,ln,e1,Tb,Na]
    subst hQ
    exact⟨rfl,.inl ⟨_,rfl,(aG Aa).2 fun i j hi hj=>hs i hi j hi hj⟩⟩)
 have key:Md (fun r=>∃ b,r=PV.Jc [.bool b,i64 0]∧(b=true↔pn ss)) (ye [.agg [S]]):=by
  generalize hQQ:(fun r:PV=>_)=QQ
  simp -implicitDefEqProofs only[ye,SX,sevalprocAttr,nj,hS1,Tb,Na,Mf,hb]
  generalize hEE:(Tr.set _ 4 _:Tr)=E
  refine wa (hloop E (by rw[← hEE];simp[Tr.aa]) (by rw[← hEE];simp[Tr.aa])) ?_
  rintro _ ⟨_,⟨E',rfl,hp⟩ | ⟨E',rfl,g2,g3,hp⟩⟩
  ·simp -implicitDefEqProofs only[SX,sevalprocAttr]
   subst hQQ
   exact⟨true,rfl,by simpa using hp⟩
  ·simp -implicitDefEqProofs only[SX,sevalprocAttr,g2,g3]
   subst hQQ
   exact⟨false,rfl,by simpa using hp⟩
 obtain⟨r,h1,b,rfl,hb⟩:=Fc key
 exact⟨b,h1,hb⟩
end
theorem KF {S V:PV} {ss:List Yb} {es:List PV} (hS:Xa S ss es) {m:Int} (hV:(AV.pv V).one=true) (hm:m=84∨m=110) (hb:Za [.agg [S]]=some (.Jc [.agg [V],i64 m])):qd [.agg [S]]=some (.Jc [.agg [.ma],i64 m]):=by
 have hS1:(AV.pv S).one=true:=by rcases hS.is with⟨h,_⟩ | h <;> rw[h] <;> rfl
 have s1:Ma [.box [.pv .ma],.box [.pv .ma]] 1 (.ptr 1 0) (.pv (.agg [V]))=some [.box [.pv .ma],.box [.pv V]]:=by simp[Ma,AV.cells,PV.cells,hV,na]
 have s0:Ma [.box [.pv .ma],.box [.pv V]] 1 (.ptr 0 0) (.pv (.agg [.ma]))=some [.box [.pv .ma],.box [.pv V]]:=rfl
 have ld:ya [.box [.pv .ma],.box [.pv V]] true 1 (.ptr 0 0)=some (.pv (.agg [.ma])):=rfl
 have z1:((84:Int)==84)=true:=rfl
 have z2:((110:Int)==84)=false:=rfl
 have z3:((110:Int)==110)=true:=rfl
 rcases hm with rfl | rfl <;>
 simp -implicitDefEqProofs only[qd,SX,sevalprocAttr,Og,hS1,Mf,hb,s1,s0,ld,z1,z2,z3]
theorem sx {S V:PV} {ss:List Yb} {es:List PV} (hS:Xa S ss es) {m:Int} {b:Bool} (hV:(AV.pv V).one=true) (h1:m≠84) (h2:m≠110) (hb:Za [.agg [S]]=some (.Jc [.agg [V],i64 m])) (hi:ye [.agg [S]]=some (.Jc [.bool b,i64 0])):
 qd [.agg [S]]=some (.Jc [.agg [if b then V else .ma],i64 (if b then m else 111)]):=by
 have hS1:(AV.pv S).one=true:=by rcases hS.is with⟨h,_⟩ | h <;> rw[h] <;> rfl
 have s1:Ma [.box [.pv .ma],.box [.pv .ma]] 1 (.ptr 1 0) (.pv (.agg [V]))=some [.box [.pv .ma],.box [.pv V]]:=by simp[Ma,AV.cells,PV.cells,hV,na]
 have s0:Ma [.box [.pv .ma],.box [.pv V]] 1 (.ptr 0 0) (.pv (.agg [.ma]))=some [.box [.pv .ma],.box [.pv V]]:=rfl
 have s2:Ma [.box [.pv .ma],.box [.pv V]] 1 (.ptr 0 0) (.pv (.agg [V]))=some [.box [.pv V],.box [.pv V]]:=by simp[Ma,AV.cells,PV.cells,hV,na]
 have ld:∀ W:PV,ya [.box [.pv W],.box [.pv V]] true 1 (.ptr 0 0)=some (.pv (.agg [W])):=fun W=>rfl
 have ld1:ya [.box [.pv .ma],.box [.pv V]] true 1 (.ptr 1 0)=some (.pv (.agg [V])):=rfl
 have z1:(m==84)=false:=beq_false_of_ne h1
 have z2:(m==110)=false:=beq_false_of_ne h2
 cases b <;>
 simp -implicitDefEqProofs only[qd,SX,sevalprocAttr,Og,hS1,Mf,hb,hi,s1,s0,s2,ld,ld1,z1,z2]
theorem mH (ss:List Yb):∃ n V,(∀ (S:PV) (es:List PV),Xa S ss es→qd [.agg [S]]=some (.Jc [.agg [V],i64 n]))∧(n=0→∃ l,eh ss=some l∧V=pf l)∧(AV.pv V).one=true∧
 (∀ (S:PV) (es:List PV),Xa S ss es→∃ T,Gb [.agg [S]]=some (.Jc [T,i64 n])∧((n≠0∧T= .Bi)∨(n=0∧wc ss∧ch ss∧pn ss∧∃ l,eh ss=some l∧Lt T ss l∧∀ e∈l,qp e))):=by
 obtain⟨VB,lB,m,hVB,_,_,hb1,hb2⟩:=WK ss
 have hval:∀ (S:PV) (es:List PV) (V':PV) (m':Int),Xa S ss es→Cc [.agg [S]]=some (.Jc [.agg [V'],i64 m'])→Za [.agg [S]]=some (.Jc [.agg [V'],i64 m']):=by
  intro S es V' m' hS h
  rw[hb2 S es hS,←hb1 S es hS,h]
 have Pf:∀ n:Int,(∀ (S:PV) (es:List PV),Xa S ss es→∀ T k,Gb [.agg [S]]=some (.Jc [T,i64 k])→k=n)→∀ (S:PV) (es:List PV),Xa S ss es→∃ T,Gb [.agg [S]]=some (.Jc [T,i64 n])∧((n≠0∧T= .Bi)∨(n=0∧wc ss∧ch ss∧pn ss∧∃ l,eh ss=some l∧Lt T ss l∧∀ e∈l,qp e)):=by
  intro n hn S es hS
  obtain⟨T,k,h1,h2⟩:=YO hS
  obtain rfl:=hn S es hS T k h1
  exact⟨T,h1,h2⟩
 have same:∀ {S:PV} {T T':PV} {k k':Int},Gb [.agg [S]]=some (.Jc [T,i64 k])→Gb [.agg [S]]=some (.Jc [T',i64 k'])→k=k':=by
  intro S T T' k k' h1 h2
  rw[h1] at h2
  injection h2 with h2
  injection h2 with h2
  injection h2 with _ h2
  injection h2 with h2 _
  injection h2
 have aut:eh ss=none∨∃ l,eh ss=some l:=by
  cases eh ss with
  |none=>exact .inl rfl
  |some l=>exact .inr ⟨l,rfl⟩
 have one:∀ {l:List (List ve)},(AV.pv (pf l)).one=true:=fun {l}=>rfl
 by_cases h1:wc ss
 ·by_cases h2:ch ss
  ·by_cases h3:pn ss
   ·rcases aut with h4 | ⟨l,h4⟩
    ·skip
     refine⟨130,.ma,fun S es hS=> ?_,fun h=>(by cases h),rfl,Pf 130 fun S es hS T k hk=> ?_⟩
     ·obtain⟨b,i1,i2⟩:=ay hS h1
      have:=i2.2 h3
      subst this
      exact sx hS rfl (by decide) (by decide) (hval S es _ _ hS ((Di hS).2.2.1 h1 h2 h4)) i1
     ·obtain⟨T',n,t1,_,_,_,_,t2,_⟩:=Pp hS
      have:=t2 h1 h2 h3 h4
      subst this
      exact same hk t1
    ·skip
     refine⟨0,pf l,fun S es hS=> ?_,fun _=>⟨l,h4,rfl⟩,one,Pf 0 fun S es hS T k hk=> ?_⟩
     ·obtain⟨b,i1,i2⟩:=ay hS h1
      have:=i2.2 h3
      subst this
      exact sx hS one (by decide) (by decide) (hval S es _ _ hS ((Di hS).2.2.2 h1 h2 l h4)) i1
     ·obtain⟨T',n,t1,_,_,_,_,_,t2⟩:=Pp hS
      have:=(t2 l h1 h2 h3 h4).1
      subst this
      exact same hk t1
   ·refine⟨111,.ma,fun S es hS=> ?_,fun h=>(by cases h),rfl,Pf 111 fun S es hS T k hk=> ?_⟩
    ·obtain⟨b,i1,i2⟩:=ay hS h1
     have hb:b=false:=by cases b with | false=>rfl | true=>exact absurd (i2.1 rfl) h3
     subst hb
     cases h4:eh ss with
     |none=>exact sx hS (V:= .ma) rfl (by decide) (by decide) (hval S es _ _ hS ((Di hS).2.2.1 h1 h2 h4)) i1
     |some l=>exact sx hS one (by decide) (by decide) (hval S es _ _ hS ((Di hS).2.2.2 h1 h2 l h4)) i1
    ·obtain⟨T',n,t1,_,_,_,t2,_⟩:=Pp hS
     have:=t2 h1 h2 h3
     subst this
     exact same hk t1
  ·refine⟨110,.ma,fun S es hS=>KF hS (V:= .ma) rfl (.inr rfl) (hval S es _ _ hS ((Di hS).2.1 h1 h2)),fun h=>(by cases h),rfl,Pf 110 fun S es hS T k hk=> ?_⟩
   obtain⟨T',n,t1,_,_,t2,_⟩:=Pp hS
   have:=t2 h1 h2
   subst this
   exact same hk t1
 ·refine⟨84,.ma,fun S es hS=>KF hS (V:= .ma) rfl (.inl rfl) (hval S es _ _ hS ((Di hS).1 h1)),fun h=>(by cases h),rfl,Pf 84 fun S es hS T k hk=> ?_⟩
  obtain⟨T',n,t1,_,t2,_⟩:=Pp hS
  have:=t2 h1
  subst this
  exact same hk t1
end Go.AM.B1
namespace Go.AM.B1
open Go.AM Go.AM.So
theorem eU {r:List Int} (h:r.length=3):Zi (.row [1,1,1]) (Dn r) (Dn r)=some true:=by
 match r,h with
 | [a,b,c],_=>show dh [1,1,1] [i64 a,i64 b,i64 c] [i64 a,i64 b,i64 c]=_;simp[dh,Jn]
theorem cO {S:PV} {ss:List Yb} {es:List PV} (hS:Xa S ss es) (Aa:wc ss) {T:PV} {l:List (List ve)} (hT:Lt T ss l) (ha:eh ss=some l):yh [T,.agg [S],.agg [pf l]]=some (.bool true):=by
 have hS1:(AV.pv S).one=true:=by rcases hS.is with⟨h,_⟩ | h <;> rw[h] <;> rfl
 have hV1:(AV.pv (pf l)).one=true:=rfl
 obtain⟨k64,k256⟩:=Zw ha
 obtain⟨RW,r1,hRW⟩:=DF hT Aa
 obtain⟨R2,r2,hR2⟩:=iM hS Aa
 obtain⟨S2,s1,hS2⟩:=JK hT Aa
 obtain⟨V2,v1,hV2⟩:=mQ hT k64 k256
 have s2:=pG hS2 hS
 have v2:=oL V2 (pf l) l l hV2 (Mu k64 k256)
 have l1:=kG hT
 have l2:=nF hS Aa
 obtain⟨R0,rfl⟩:∃ R,T= .rp R 0:=by
  obtain⟨S',NX,DG,RW,h,_⟩:=hT.ex
  exact⟨_,h⟩
 have lA:=hRW.len
 have lB:=hR2.len
 rw[List.length_map,ql] at lA lB
 have h32:=Aa.len
 have x1:((ss.length:Int) != (ss.length:Int))=false:=by simp
 rw[show decide (l=l)=true from decide_eq_true rfl] at v2
 generalize pf l=V at *
 have hloop:=fun (E:Tr) (h0:E.get 0= .pv (.rp R0 0)) (h4:E.get 4= .pv (.rp [S] 0)) (h5:E.get 5= .pv (.rp [V] 0)) (h7:E.get 7= .pv RW) (h8:E.get 8= .pv R2) (h20:E.get 20= .pv (i64 ss.length)) (h21:E.get 21= .pv (i64 0))=>
  bl (call:=Ca (fun _=>none) 8) (b:=vg) (live:=[0,4,5,7,8,20,21]) (s:=⟨E,[]⟩) (Q:=fun r=>∃ E',r=(.exit 0,⟨E',[]⟩)∧qc [0,4,5] E E')
   (fun i t=>qc [0,4,5,7,8,20] E t.env∧t.env.get 21= .pv (i64 i)∧t.H=[]) ss.length (by unfold oa;omega)
   (Ff.all rfl (by simp) (Fit.cons h0 Ba (.cons h4 Ba (.cons h5 Ba (.cons h7 Ba (.cons h8 Ba (.cons h20 Ba (.cons h21 Ba (.nil _ _)))))))) fun E' hE=>⟨qc.sub hE rfl,by rw[hE 21 (by simp),h21];rfl,rfl⟩)
   (by
    rintro i ⟨E1,H1⟩ hi ⟨k1,k2,k3⟩
    simp only at k1 k2 k3
    subst k3
    have g7:=(k1 7 (by simp)).trans h7
    have g8:=(k1 8 (by simp)).trans h8
    have g20:=(k1 20 (by simp)).trans h20
    have hir:i < (Od ss).length:=by rw[ql];exact hi
    have h3:=Kw (List.getElem_mem hir)
    have at3:∀ W,Th 3 W ((Od ss).map Dn)→∀ H,ua H 3 (.pv W) (i:Int)=some (.pv (.rp ((Od ss)[i].map i64) 0)):=fun W hW H=>by
     rw[hW.lit (i:=i) (by rw[List.length_map];exact hir)]
     simp only[ua]
     rw[if_pos ⟨trivial,by unfold Fa;rw[List.length_map,ql];omega⟩,Int.toNat_natCast,List.getElem?_map,List.getElem?_eq_getElem hir];rfl
    have a7:=at3 RW hRW
    have a8:=at3 R2 hR2
    have hq:=eU h3
    generalize (Od ss)[i]=r at *
    have ld:∀ H,ya H true 3 (.pv (.rp (r.map i64) 0))=some (.pv (Dn r)):=fun H=>by
     match r,h3 with
     | [a,b,c],_=>rfl
    have e1:decide ((i:Int) < (ss.length:Int))=true:=Ga (by omega)
    have t1:IntKind.i64.wrap ((i:Int)+1)=((i+1:Nat):Int):=sj (by omega)
    generalize hQ:RQ _ _ _ _=Q
    simp -implicitDefEqProofs only[SX,sevalprocAttr,vg,g7,g8,g20,k2,e1,a7,a8,ld,hq,t1]
    subst hQ
    rw[ej]
    generalize hEE:(Tr.set _ 21 _:Tr)=E2
    have kk:qc [0,4,5,7,8,20] E E2:=by
     rw[← hEE]
     repeat refine qc.set ?_ rfl
     exact k1
    have z21:E2.get 21= .pv (i64 (i+1:Nat)):=by rw[← hEE];simp[Tr.aa]
    exact Ff.all rfl (by simp) (Fit.sub (.cons z21 Ba (Fit.Ze (l:=[0,4,5,7,8,20]) (.cons h0 Ba (.cons h4 Ba (.cons h5 Ba (.cons h7 Ba (.cons h8 Ba (.cons h20 Ba (.nil _ _))))))) kk)) rfl) fun E' hE=>⟨kk.trans (qc.sub hE rfl),by rw[hE 21 (by simp),z21],rfl⟩)
   (by
    rintro⟨E1,H1⟩ ⟨k1,k2,k3⟩
    simp only at k1 k2 k3
    subst k3
    have g20:=(k1 20 (by simp)).trans h20
    have e1:decide ((ss.length:Int) < (ss.length:Int))=false:=Ia (by omega)
    generalize hQ:(fun r:Ex×St=>r.1.stop=true∧_)=Q
    simp -implicitDefEqProofs only[SX,sevalprocAttr,vg,g20,k2,e1]
    subst hQ
    refine⟨rfl,_,rfl,?_⟩
    repeat refine qc.set ?_ rfl
    exact qc.sub k1 rfl)
 refine Xj ?_
 generalize hQ:(fun x=>x=PV.bool true)=Q
 simp -implicitDefEqProofs only[yh,SX,sevalprocAttr,Aj,hS1,hV1,r1,Mf,r2,lA,lB,x1]
 generalize hEE:(Tr.set _ 21 _:Tr)=E
 have g0:E.get 0= .pv (.rp R0 0):=by rw[← hEE];simp[Tr.aa]
 have g4:E.get 4= .pv (.rp [S] 0):=by rw[← hEE];simp[Tr.aa]
 have g5:E.get 5= .pv (.rp [V] 0):=by rw[← hEE];simp[Tr.aa]
 refine wa (hloop E g0 g4 g5 (by rw[← hEE];simp[Tr.aa]) (by rw[← hEE];simp[Tr.aa]) (by rw[← hEE];simp[Tr.aa]) (by rw[← hEE];simp[Tr.aa])) ?_
 rintro r ⟨_,E2,rfl,kk⟩
 have q0:=(kk 0 (by simp)).trans g0
 have q4:=(kk 4 (by simp)).trans g4
 have q5:=(kk 5 (by simp)).trans g5
 have x2:((Ae ss:Int)==(Ae ss:Int))=true:=by simp
 simp -implicitDefEqProofs only[SX,sevalprocAttr,q0,q4,q5,Mf,s1,s2,v1,v2,l1,l2,x2]
 subst hQ
 rfl
end Go.AM.B1
namespace Go.AM.B1
open Go.AM
end Go.AM.B1
namespace Go.AM.B1
open Go.AM Go.AM.So
theorem NI:th []=some (.bool true):=by
 obtain⟨Aa,T,h1,hT,_⟩:=EJ (qH (by decide) (by decide) (by decide)) HJ WH TG FM
 have he:=kS hT Aa 233
 rw[show LV 233 Xx=some [195,169] from by decide] at he
 have hB:uo (.lit 1 [u8 195,u8 169]) [195,169]:=⟨.inr rfl,by decide⟩
 have hd:=tT hT Aa hB
 rw[show jJ [195,169] Xx=some 233 from by decide] at hd
 obtain⟨RW,hr,hRW⟩:=DF hT Aa
 rw[yM] at hRW
 have hRW:RW= .lit 3 [.agg [i64 0,i64 127,i64 1],.agg [i64 128,i64 2047,i64 0]]:=by
  rcases hRW with⟨_,h⟩ | h
  ·cases h
  ·exact h
 subst hRW
 have hl:=kG hT
 rw[show Ae Xx=2 from by decide] at hl
 have hdoc:(.lit 2 (Xx.map Xd):PV)= .lit 2 [.agg [.lit 1 [.lit 2 [.agg [i64 194,i64 223]],.lit 2 [.agg [i64 128,i64 191]]],i64 128],.agg [.lit 1 [.lit 2 [.agg [i64 0,i64 127]]],i64 0]]:=rfl
 rw[hdoc] at h1
 have he:Hf [T,i64 233]=some (.Jc [.lit 1 [u8 195,u8 169],.bool true]):=he
 obtain⟨S',NX,DG,RW,rfl,_⟩:=hT.ex
 generalize ([S',pf [[⟨0,127,-1⟩,⟨194,223,1⟩],[⟨128,191,-1⟩]],NX,DG,RW,i64 (Ae Xx)]:List PV)=R at *
 have hb2:∀ H,vF H (.pv (.lit 1 [u8 195,u8 169]))=some ⟨#[195,169]⟩:=fun H=>rfl
 have z:iH .eql ⟨#[195,169]⟩ ⟨#[195,169]⟩=some (.bool true):=rfl
 have i0:Fa 0 2=True:=eq_true (by unfold Fa;decide)
 have i1:Fa 1 2=True:=eq_true (by unfold Fa;decide)
 have k1:Zi (.row [1,1,1]) (.agg [i64 0,i64 127,i64 1]) (.agg [.int .i64 0,.int .i64 127,.int .i64 1])=some true:=rfl
 have k2:Zi (.row [1,1,1]) (.agg [i64 128,i64 2047,i64 0]) (.agg [.int .i64 128,.int .i64 2047,.int .i64 0])=some true:=rfl
 simp -implicitDefEqProofs only[th,SP,SA,SQ,WP,WQ,sevalprocAttr,vj,h1,he,hd,hr,hl,kv,hb2,z,i0,i1,k1,k2]
end Go.AM.B1
namespace Go.AM.B1
open Go.AM Go.AM.So
theorem aH {S:PV} {ss:List Yb} {es:List PV} (hS:Xa S ss es) (hz:QG ss):Wb (fun _=>none) Gc [.agg [S]]=some (.bool true):=by
 obtain⟨n,V,hr,hV,hV1,ht⟩:=mH ss
 have hr:=hr S es hS
 have hC:=eM hS
 obtain⟨T,ht,ho⟩:=ht (UW ss) (Oo ss) hC
 have hcp:=ZO hS hz
 have hsm:=pG hC hS
 have hfx:=NI
 have hS1:(AV.pv S).one=true:=by rcases hS.is with⟨h,_⟩ | h <;> rw[h] <;> rfl
 have hC1:(AV.pv (UW ss)).one=true:=by rcases hC.is with⟨h,_⟩ | h <;> rw[h] <;> rfl
 generalize UW ss=C at *
 have s1:Ma [.box [.pv .ma]] 1 (.ptr 0 0) (.pv (.agg [C]))=some [.box [.pv C]]:=by simp[Ma,AV.cells,PV.cells,hC1,na]
 have s2:Ma [.box [.pv C],.box [.pv .ma]] 1 (.ptr 1 0) (.pv (.agg [V]))=some [.box [.pv C],.box [.pv V]]:=by simp[Ma,AV.cells,PV.cells,hV1,na]
 have l1:ya [ba.box [.pv C]] true 1 (.ptr 0 0)=some (.pv (.agg [C])):=rfl
 have l2:ya [ba.box [.pv C],.box [.pv V]] true 1 (.ptr 0 0)=some (.pv (.agg [C])):=rfl
 have l3:ya [ba.box [.pv C],.box [.pv V]] true 1 (.ptr 1 0)=some (.pv (.agg [V])):=rfl
 have d1:(n != n)=false:=by simp
 rcases ho with⟨h0,rfl⟩ | ⟨rfl,Aa,_,_,l,ha,hT,_⟩
 ·have d2:(n != 0)=true:=by simp[h0]
  have e1:∀ H,kv H 1 (.pv .Bi) (.pv .Bi)=some true:=fun H=>rfl
  have e2:∀ H,kv H 0 (.pv (.bool true)) (.pv (.bool true))=some true:=fun H=>rfl
  simp -implicitDefEqProofs only[SX,sevalprocAttr,Gc,hfx,hS1,Mf,hcp,ht,hr,s1,s2,l1,l2,l3,d1,d2,e1,e2,hsm]
 ·obtain⟨l',ha',hVe⟩:=hV rfl
  have hll:l=l':=Option.some.inj (ha.symm.trans ha')
  subst hll
  clear hV ha'
  subst hVe
  have hsh:=cO hS Aa hT ha
  have d1:((0:Int) != 0)=false:=rfl
  obtain⟨R,rfl⟩:∃ R,T= .rp R 0:=by
   obtain⟨S',NX,DG,RW,h,_⟩:=hT.ex
   exact⟨_,h⟩
  generalize pf l=V at *
  have e1:∀ H,kv H 1 (.pv (.rp R 0)) (.pv .Bi)=some false:=fun H=>rfl
  have e2:∀ H,kv H 0 (.pv (.bool false)) (.pv (.bool false))=some true:=fun H=>rfl
  simp -implicitDefEqProofs only[SX,sevalprocAttr,Gc,hfx,hS1,Mf,hcp,ht,hr,s1,s2,l1,l2,l3,d1,e1,e2,hsm,hsh]
end Go.AM.B1
set_option maxRecDepth 100000
namespace Go.Proofs.YtdglpnpkgngcdaaGreat
open Go.ChangeShapes Go.WideShapes Go.ChangeAt Go.RowKit Go.AM
theorem BU:Tryz.prog.cellsOf 44=2:=by kernel_rfl
theorem gV:Tryz.prog.bytesOf 44=16:=by kernel_rfl
theorem fU:Tryz.prog.cellsOf 42=1:=by kernel_rfl
theorem yU:Tryz.prog.bytesOf 42=24:=by kernel_rfl
theorem rV:Tryz.prog.cellsOf 41=2:=by kernel_rfl
theorem TU:Tryz.prog.bytesOf 41=32:=by kernel_rfl
theorem PU {g:Nat} {row:List PV} (h:Sh Tryz.prog (g+2) 44 row):∃ p:Int×Int,Xp Tryz.prog 44 row=B1.pr p:=by
 rw[PA Tryz.underlying44]
 obtain⟨rows,hl,rfl,hr⟩:=dA Tryz.underlying44 h
 match rows,hl with
 | [x,y],_=>
   obtain⟨a,rfl,_⟩:=KM Tryz.underlying3 (hr 0 _ x rfl rfl)
   obtain⟨b,rfl,_⟩:=KM Tryz.underlying3 (hr 1 _ y rfl rfl)
   exact⟨(a,b),rfl⟩
theorem aT {α β:Type} {f:α→β}:∀ {es:List β},(∀ e∈es,∃ a,e=f a)→∃ l:List α,es=l.map f
 | [],_=>⟨[],rfl⟩
 |e::es,h=>by
  obtain⟨a,ha⟩:=h e (by simp)
  obtain⟨l,hl⟩:=aT (es:=es) fun e he=>h e (by simp[he])
  exact⟨a::l,by rw[ha,hl];rfl⟩
theorem VQ {g:Nat} {row:List PV} (h:Sh Tryz.prog (g+3) 42 row):∃ (V:PV) (l:List (Int×Int)),row=[V]∧B1.um V l:=by
 rcases VD Tryz.underlying42 h with rfl | ⟨es,rfl,h1,h2,h3⟩
 ·exact⟨_,[],rfl,.inl ⟨rfl,rfl⟩,Nat.zero_le _⟩
 ·obtain⟨l,hl⟩:=aT (f:=B1.pr) (es:=es.map (Xp Tryz.prog 44)) (by
   intro e he
   obtain⟨r,hr,rfl⟩:=List.mem_map.1 he
   exact PU (h3 r hr))
  have hlen:l.length=es.length:=by have:=congrArg List.length hl;simpa using this.symm
  refine⟨_,l,rfl,.inr (by rw[BU,hl]),?_⟩
  rw[hlen]
  rw[gV] at h2
  exact Nat.le_trans h2 (by decide)
theorem oH {R A:Type} {f:R→PV} {Q:PV→A→Prop}:∀ (es:List R),(∀ r∈es,∃ a,Q (f r) a)→∃ l:List A,l.length=es.length∧∀ (k:Nat) v a,(es.map f)[k]? =some v→l[k]? =some a→Q v a
 | [],_=>⟨[],rfl,by simp⟩
 |r::es,h=>by
  obtain⟨a,ha⟩:=h r (by simp)
  obtain⟨l,h1,h2⟩:=oH es fun x hx=>h x (by simp[hx])
  refine⟨a::l,by simp[h1],?_⟩
  intro k v b hv hb
  match k with
  |0=>simp at hv hb;subst hv hb;exact ha
  |k+1=>exact h2 k v b (by simpa using hv) (by simpa using hb)
theorem cS {g:Nat} {row:List PV} (h:Sh Tryz.prog (g+4) 39 row):∃ (P:PV) (ls:List (List (Int×Int))) (ps:List PV),row=[P]∧B1.cf P ls ps∧ls.length * 24≤140737488355328:=by
 rcases VD Tryz.underlying39 h with rfl | ⟨es,rfl,h1,h2,h3⟩
 ·exact⟨_,[],[],rfl,⟨.inl ⟨rfl,rfl⟩,rfl,by simp,by simp⟩,by simp⟩
 ·obtain⟨l,hl,hq⟩:=oH (f:=Xp Tryz.prog 42) (Q:=B1.um) es (by
   intro r hr
   obtain⟨V,l,rfl,hV⟩:=VQ (h3 r hr)
   rw[ES Tryz.underlying42]
   exact⟨l,hV⟩)
  have hz:l.length * 24≤140737488355328:=by rw[yU] at h2;rw[hl];exact Nat.le_trans h2 (by decide)
  exact⟨_,l,es.map (Xp Tryz.prog 42),rfl,⟨.inr (by rw[fU]),by rw[List.length_map,hl],hq,by unfold maxLen;omega⟩,hz⟩
theorem iS {g:Nat} {row:List PV} (h:Sh Tryz.prog (g+5) 41 row):∃ (s:B1.Yb),(∃ P ps,B1.Me (Xp Tryz.prog 41 row) s P ps)∧s.parts.length * 24≤140737488355328:=by
 rw[PA Tryz.underlying41]
 obtain⟨rows,hl,rfl,hr⟩:=dA Tryz.underlying41 h
 match rows,hl with
 | [x,y],_=>
   obtain⟨P,ls,ps,rfl,hP,hz⟩:=cS (hr 0 _ x rfl rfl)
   obtain⟨b,rfl,_⟩:=KM Tryz.underlying3 (hr 1 _ y rfl rfl)
   exact⟨⟨ls,b⟩,⟨P,ps,rfl,hP⟩,hz⟩
theorem mP {g:Nat} {row:List PV} (h:Sh Tryz.prog (g+6) 22 row):∃ (S:PV) (ss:List B1.Yb) (es:List PV),row=[S]∧B1.Xa S ss es∧B1.QG ss:=by
 rcases VD Tryz.underlying22 h with rfl | ⟨es,rfl,h1,h2,h3⟩
 ·exact⟨_,[],[],rfl,⟨.inl ⟨rfl,rfl⟩,rfl,by simp,by simp⟩,⟨by simp,by simp⟩⟩
 ·obtain⟨l,hl,hq⟩:=oH (f:=Xp Tryz.prog 41) (Q:=fun e s=>(∃ P ps,B1.Me e s P ps)∧s.parts.length * 24≤140737488355328) es (fun r hr=>iS (h3 r hr))
  have hz:l.length * 32≤140737488355328:=by rw[TU] at h2;rw[hl];exact Nat.le_trans h2 (by decide)
  refine⟨_,l,es.map (Xp Tryz.prog 41),rfl,⟨.inr (by rw[rV]),by rw[List.length_map,hl],fun k e s he hs=>(hq k e s he hs).1,by unfold maxLen;omega⟩,hz,?_⟩
  intro s hs
  obtain⟨k,hk,rfl⟩:=List.getElem_of_mem hs
  exact (hq k _ _ (List.getElem?_eq_getElem (by rw[List.length_map];omega)) (List.getElem?_eq_getElem hk)).2
theorem DQ {g:Nat} {row:List PV} (h:Sh Tryz.prog (g+7) 24 row):∃ (S:PV) (ss:List B1.Yb) (es:List PV),row=[S]∧B1.Xa S ss es∧B1.QG ss:=by
 obtain⟨rows,hl,rfl,hr⟩:=dA Tryz.underlying24 h
 match rows,hl with
 | [x],_=>
   obtain⟨S,ss,es,rfl,h1,h2⟩:=mP (hr 0 _ x rfl rfl)
   exact⟨S,ss,es,rfl,h1,h2⟩
theorem own:ownKnob Tryz.prog.godebug=none:=by kernel_rfl
theorem laidOut:laidOutB Tryz.prog=true:=by kernel_rfl
end Go.Proofs.YtdglpnpkgngcdaaGreat
